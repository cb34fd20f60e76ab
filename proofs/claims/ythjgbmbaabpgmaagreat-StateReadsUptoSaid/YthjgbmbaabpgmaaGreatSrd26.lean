/-
  Commits: the last ones that are ahead of two.
-/
import Derived.Test.YthjgbmbaabpgmaaGreatSrd05
import Derived.Test.YthjgbmbaabpgmaaGreatSrd24
import Derived.Test.YthjgbmbaabpgmaaGreatSrd25
import Derived.Test.YthjgbmbaabpgmaaGreatSrd16
set_option linter.unusedVariables false
set_option linter.unusedSimpArgs false
set_option linter.unusedSectionVars false
namespace Go.Proofs.YthjgbmbaabpgmaaGreat
open Go.Sy Go.RowKit
set_option maxRecDepth 4000
set_option maxHeartbeats 4000000
namespace Ox
open Classical in
/-- one more that no earlier one covers -/
noncomputable def pickStep (f : Int → List Int) (acc : List Int) (n : Int) : List Int := if ∃ m ∈ acc, Reach f m n then acc else acc ++ [n]
noncomputable def pick (f : Int → List Int) (l : List Int) : List Int := l.foldl (pickStep f) []
theorem pick_snoc (f : Int → List Int) (l : List Int) (n : Int) : pick f (l ++ [n]) = pickStep f (pick f l) n := by simp [pick]
theorem pick_sub (f : Int → List Int) (l : List Int) : ∀ m ∈ pick f l, m ∈ l := by
  rcases l.eq_nil_or_concat with rfl | ⟨r, x, rfl⟩
  · intro m h; simp [pick] at h
  · intro m h
    rw [List.concat_eq_append, pick_snoc, pickStep] at h
    split at h
    · have := pick_sub f r m h; simp [this]
    · rcases List.mem_append.1 h with h | h
      · have := pick_sub f r m h; simp [this]
      · simp at h; simp [h]
termination_by l.length
decreasing_by all_goals (subst_vars; simp)
theorem pick_length (f : Int → List Int) (l : List Int) : (pick f l).length ≤ l.length := by
  rcases l.eq_nil_or_concat with rfl | ⟨r, x, rfl⟩
  · simp [pick]
  · have := pick_length f r
    rw [List.concat_eq_append, pick_snoc, pickStep]
    split <;> simp <;> omega
termination_by l.length
decreasing_by subst_vars; simp
/-- the last common ones, from what is ahead of each -/
noncomputable def commons (l : List Lnk) (sx sy : List Int) : List Int := (pick (upOf l) (sx.reverse.filter (· ∈ sy))).reverse
end Ox
attribute [local irreducible] At Ops Val Eff Does Res Dr
theorem E.buildSlice2R {σ : Slots} {c : Ctx} {Ω : List Itm} {h : HV} {ty : TypeId} {ps : String} {af : Array Edge} {g : Option (Nat × Bool)} {d : Option Nat} {x y : Operand} {a b : Int} (hx : ev σ x = some (.int .i64 a)) (hy : ev σ y = some (.int .i64 b)) :
    Eff Tryz.prog σ (Mem c Ω h) ⟨d, .buildSlice 32 2 #[(0, x), (1, y)], ty, ps, af, g⟩ fun u w => ∃ g, u = .slice (some ⟨g, 0, none⟩) 2 2 ∧ Mem c (row 3 1 (.slice (some ⟨g, 0, none⟩) 2 2) 2 [.int .i64 a, .int .i64 b] :: Ω) h w :=
  Eff.mono (Eff.buildSlice2 (ap rfl) hx hy rfl rfl) fun u w ⟨g, e, hm⟩ => ⟨g, e, Mem.rowOf (cs := [.int .i64 a, .int .i64 b]) hm rfl (by simp [maxLen])⟩

theorem BackwardZ_does (u : Value) (h : HV) : Does Tryz.prog 162 #[u] [] h (fun r Ω' h' => h = h' ∧ ∃ bs, r = .func (.func 204) #[] #[.pointer (some ⟨bs, 0, none⟩)] ∧ Ω' = [blk bs (.cells u.cells 32 (0, 0))]) := by
  refine Does.of Tryz.func162 rfl Tryz.ntmps162 rfl fun c hc0 => ?_
  refine goK _ ?_
  refine Ops.eff rfl rfl rfl (Eff.box rfl) fun _ => Ops.ex fun bk => Ops.pure ?_
  rintro rfl
  refine goK _ ?_
  refine Ops.val rfl rfl rfl (Val.makeFunc (cs := #[.pointer (some ⟨bk, 0, none⟩)]) (fun ρ hρ => by simp [hρ _ _ (show ev _ (.tmp 1) = some _ from rfl)])) ?_
  refine goK _ ?_
  exact At.ret1 Tryz.results162 (Res.tmp rfl) (List.Sublist.refl _) ⟨hc0.symm ▸ rfl, bk, rfl, rfl⟩

theorem Common_does (v : Value) (l : List Ox.Lnk) (a b : Int) (h : HV) (hv : LinksH h v l) (hl : l.length ≤ 10000000000) (hp : ∀ x ∈ l, x.ps.length ≤ 1000000) :
    Does Tryz.prog 132 #[v, .int .i64 a, .int .i64 b] [] h (fun r Ω' h' => HV.le h h' ∧ ((Ox.thereE l [a, b] ≠ 0 ∧ r = .tuple #[.slice none 0 0, .int .i64 (Ox.thereE l [a, b])] ∧ Ω' = []) ∨
      (Ox.thereE l [a, b] = 0 ∧ ∃ u sx sy, r = .tuple #[u, .int .i64 0] ∧ Ox.Ancs l a sx ∧ Ox.Ancs l b sy ∧ Ω' = [row 3 1 u (Ox.commons l sx sy).length ((Ox.commons l sx sy).flatMap zc)]))) := by
  refine Does.ofM Tryz.func132 rfl Tryz.ntmps132 rfl fun c hc0 => ?_
  refine goK _ ?_
  refine Ops.eff rfl rfl rfl (E.buildSlice2R rfl rfl) fun _ => Ops.ex fun bw => Ops.pure ?_
  rintro rfl
  have hlend := Does.lend (P := Tryz.prog) (f := 138) (args := #[v, .slice (some ⟨bw, 0, none⟩) 2 2]) (e := 3) (m := 1) (N := 2) (v := .slice (some ⟨bw, 0, none⟩) 2 2) (xs := [.int .i64 a, .int .i64 b]) (Ωc := []) (h := h)
    (post := fun r Ω' => r = .int .i64 (Ox.thereE l [a, b]) ∧ Ω' = [])
    (fun h' hle hsl => there_does v _ l [a, b] h' (hv.mono hle) hsl hl (fun x hx => by have := hp x hx; omega) (by simp))
  refine Ops.eff rfl rfl rfl (Eff.call (fn (by kernel_rfl)) rfl (Ωc := [row 3 1 (.slice (some ⟨bw, 0, none⟩) 2 2) 2 [.int .i64 a, .int .i64 b]]) rfl (hlend)) fun _ => Ops.ex fun _ => Ops.ex fun _ => Ops.pure ?_
  rintro ⟨⟨_, ⟨rfl, rfl⟩, rfl⟩, rfl⟩
  refine goK _ ?_
  refine At.condN rfl (fun h1 => ?_) (fun h1 => ?_)
  · refine goK _ ?_
    exact At.ret2M0 Tryz.results132 (Res.tmp rfl) (Res.tmp rfl) (List.nil_sublist _) ⟨HV.le.refl _, .inl ⟨h1, rfl, rfl⟩⟩
  obtain ⟨hd, hin⟩ := Ox.there_ok h1
  have hina := hin a (by simp)
  have hinb := hin b (by simp)
  refine At.sub_mem (Ω' := []) (List.nil_sublist _) ?_
  refine goK _ ?_
  refine Ops.eff rfl rfl rfl (Eff.call (fn (by kernel_rfl)) rfl (Ωc := []) rfl (parents_does v l h hv hl)) fun _ => Ops.ex fun _ => Ops.ex fun _ => Ops.pure ?_
  rintro ⟨rfl, bu, U, rfl, rfl, hU⟩
  refine goK _ ?_
  refine Ops.eff rfl rfl rfl (Eff.call (fn (by kernel_rfl)) rfl (Ωc := [mapI key bu U]) rfl (climbL_does bu U l a h hU hd hina)) fun _ => Ops.ex fun _ => Ops.ex fun _ => Ops.pure ?_
  rintro ⟨rfl, bx, mx, rfl, rfl, hndx, hmlx, hmrx, hmemx⟩
  refine goK _ ?_
  refine Ops.eff rfl rfl rfl (Eff.callAt 1 (fn (by kernel_rfl)) rfl (Ωc := [mapI key bu U]) rfl (climbL_does bu U l b h hU hd hinb)) fun _ => Ops.ex fun _ => Ops.ex fun _ => Ops.pure ?_
  rintro ⟨rfl, by_, my, rfl, rfl, hndy, hmly, hmry, hmemy⟩
  refine Ops.eff rfl rfl rfl (E.alloc rfl) fun _ => Ops.ex fun b11 => Ops.pure ?_
  rintro rfl
  refine goK _ ?_
  refine Ops.eff0 rfl rfl (E.store 0 rfl rfl rfl rfl rfl rfl rfl) fun _ => ?_
  refine goK _ ?_
  refine Ops.eff rfl rfl rfl (E.alloc rfl) fun _ => Ops.ex fun b12 => Ops.pure ?_
  rintro rfl
  refine goK _ ?_
  refine Ops.eff rfl rfl rfl (Eff.call (fn (by kernel_rfl)) rfl (Ωc := []) rfl (KeysA_does bx h)) fun _ => Ops.ex fun _ => Ops.ex fun _ => Ops.pure ?_
  rintro ⟨rfl, bk, rfl, rfl⟩
  have hfst : (Ox.onesZ mx).map Prod.fst = mx := by simp [Ox.onesZ, Function.comp_def]
  have hsl : ((Ox.onesZ mx).map Prod.fst).length = mx.length := by rw [hfst]
  refine Ops.imp (S' := Mem c [cells bk [.map (some bx)] 225, mapI key bx (Ox.onesZ mx), cells b12 [.slice none 0 0] 32, cells b11 [.map (some by_)] 225, mapI key by_ (Ox.onesZ my), mapI key bu U] h) ?_ (fun w hw => hw.perm (List.Perm.cons _ (List.perm_middle (l₁ := [_, _, _, _]) (l₂ := []))))
  refine Ops.eff rfl rfl rfl (Eff.call (fn (by kernel_rfl)) rfl (Ωc := [cells bk [.map (some bx)] 225, mapI key bx (Ox.onesZ mx)]) rfl (SortedA_does bk bx (Ox.onesZ mx) (by rw [hfst]; exact hndx) (fun p hp => by have := hmrx p.1 (by rw [← hfst]; exact List.mem_map_of_mem hp); omega) (by rw [List.length_map] at hsl; omega) h)) fun _ => Ops.ex fun _ => Ops.ex fun _ => Ops.pure ?_
  rintro ⟨rfl, rfl⟩
  rw [hfst]
  have hml : (Ox.onesZ mx).length = (mx.mergeSort fun x y => decide (x ≤ y)).length := by rw [List.length_map] at hsl; rw [List.length_mergeSort, hsl]
  rw [hml]
  have hax : Ox.Ancs l a (mx.mergeSort fun x y => decide (x ≤ y)) := ⟨Ox.sort_lt hndx, fun k => by rw [List.mem_mergeSort]; exact hmemx k⟩
  have hzl : (mx.mergeSort fun x y => decide (x ≤ y)).length ≤ 601 := by rw [List.length_mergeSort]; exact hmlx
  generalize (mx.mergeSort fun x y => decide (x ≤ y)) = zs at *
  refine Ops.eff rfl rfl rfl (Eff.call (fn (by kernel_rfl)) rfl (Ωc := []) rfl (BackwardZ_does _ h)) fun _ => Ops.ex fun _ => Ops.ex fun _ => Ops.pure ?_
  rintro ⟨rfl, bs, rfl, rfl⟩
  refine goK _ ?_
  refine At.publish_row 1 rfl fun h2 hle2 hsl2 => ?_
  have hzs : ZsH h2 _ zs := hsl2
  obtain ⟨ua, ucp, rfl⟩ := hzs.form
  have haz : a ∈ zs := (hax.mem a).2 .refl
  have hz0 : 0 < zs.length := List.length_pos_of_mem haz
  obtain ⟨gb, go, rfl, _, _, _⟩ := RowH.elem zc_length hzs (i := 0) (x := zs[0]) (by simp [hz0])
  obtain ⟨ob, hob⟩ : ∃ ob, h2 gb = some ob := by
    have := RowH.flatc hzs 0 (.int .i64 zs[0]) (by rw [flat_zc]; simp [hz0])
    unfold cellH at this
    split at this
    · exact ⟨_, by assumption⟩
    · cases this
  refine At.row_nil 3 1 ?_
  refine At.pick (Ω' := [cells b12 [.slice none 0 0] 32, row 3 1 (.slice none 0 0) 0 [], cells b11 [.map (some by_)] 225, mapI key by_ (Ox.onesZ my)] ++ [cells bs [.slice (some ⟨gb, go, none⟩) zs.length ucp] 32, cells bk [.map (some bx)] 225, mapI key bx (Ox.onesZ mx), mapI key bu U]) [4, 0, 5, 6, 1, 2, 3, 7] (by decide) rfl ?_
  refine At.rangeFunc2 (α := Int × Int) (X := Value) (gf := 204) (lb := #[.pointer (some ⟨bs, 0, none⟩)]) (v0 := fun y => .int .i64 y.1) (v1 := fun y => .int .i64 y.2) (Kp := Kp2 bs gb) (Ss := fun ys => ys.map Prod.snd = zs.reverse) (Sp := fun _ => True) (N := zs.length)
    rfl (enters_of Tryz.func204 (by kernel_rfl) rfl) rfl rfl rfl ?_ (fun {A B C} h1 h2 => ⟨h2.1.trans h1.1, h2.2.trans h1.2⟩) (fun _ _ => True)
    (fun pre v => [cells b12 [v] 32, row 3 1 v ((pre.map Prod.snd).filter (· ∈ my)).length (((pre.map Prod.snd).filter (· ∈ my)).flatMap zc), cells b11 [.map (some by_)] 225, mapI key by_ (Ox.onesZ my)])
    (.slice none 0 0) trivial rfl ?_ ?_ ?_ ?_ ?_
  · intro w hw
    have hcb : w.cell? ⟨bs, 0, none⟩ = some (.slice (some ⟨gb, go, none⟩) zs.length ucp) := hw.cell (n := 4) (cs := [.slice (some ⟨gb, go, none⟩) zs.length ucp]) rfl rfl
    refine backZ_stops bs gb go ucp zs (by omega) w ((cells bs [.slice (some ⟨gb, go, none⟩) zs.length ucp] 32).alive w bs (hw.own _ (by simp)) rfl) (Array.getElem?_eq_some_iff.1 (hw.hv gb ob hob)).1 hcb (fun j hj => ?_)
    exact hw.cellH (RowH.flatc hzs j _ (by rw [flat_zc]; simp [hj]))
  · intro w hw W W' pre x hm hst
    have hsep := (List.pairwise_append.1 hm.sep).2.2
    refine ⟨hst bs ((cells bs [.slice (some ⟨gb, go, none⟩) zs.length ucp] 32).alive W bs (hm.own _ (by simp)) rfl) (fun ⟨i, hi, hib⟩ => hsep i hi (cells bs [.slice (some ⟨gb, go, none⟩) zs.length ucp] 32) (by simp) bs hib rfl), hst gb (Array.getElem?_eq_some_iff.1 (hm.hv gb ob hob)).1 (fun ⟨i, hi, hib⟩ => ?_)⟩
    have := hm.apart i (List.mem_append_left _ hi) gb hib
    rw [hob] at this; cases this
  · intro w hw W r o' hr
    have h3 : bs < w.heap.size := (cells bs [.slice (some ⟨gb, go, none⟩) zs.length ucp] 32).alive w bs (hw.own _ (by simp)) rfl
    have h4 : gb < w.heap.size := (Array.getElem?_eq_some_iff.1 (hw.hv gb ob hob)).1
    exact ⟨World.putObj_heap_other (by omega), World.putObj_heap_other (by omega)⟩
  · rintro w hw pre v W _ hm b ⟨i, hi, hib⟩
    have hiW : i.ok W := hm.own i (List.mem_append_left _ hi)
    simp only [List.mem_cons, List.not_mem_nil, or_false] at hi
    rcases hi with rfl | rfl | rfl | rfl
    · have e : b = b12 := hib
      subst e; exact .inr ⟨_, hiW, rfl⟩
    · rcases hiW.2 with ⟨e, _⟩ | ⟨g, cap, cur, e, _, hg, _⟩
      · have e2 : v.ownBlock = some b := hib
        rw [e] at e2; simp [Value.ownBlock] at e2
      · have e2 : v.ownBlock = some b := hib
        rw [e] at e2; simp [Value.ownBlock] at e2
        subst e2; exact .inr ⟨_, hg, rfl⟩
    · have e : b = b11 := hib
      subst e; exact .inr ⟨_, hiW, rfl⟩
    · have e : b = by_ := hib
      subst e; exact .inl ((mapI key b (Ox.onesZ my)).alive w b (hw.own _ (by simp)) rfl)
  · intro l' pre v y _ hlen W0
    refine AtR.block (AtR.seq (AtR.region ?_))
    refine OpsR.val rfl rfl rfl (V.loadO 2 rfl rfl rfl rfl) ?_
    refine OpsR.val rfl rfl rfl (Val.move rfl) ?_
    refine OpsR.val rfl rfl rfl (V.lookup (κ := key) (m := Ox.onesZ my) 3 key3 rfl rfl rfl rfl rfl) ?_
    have hcc := Ox.mget_onesZ my y.2
    refine OpsR.respell (t := 44) rfl hcc ?_
    refine OpsR.val rfl rfl rfl (Val.gtr rfl rfl) ?_
    refine OpsR.next (AtR.condP rfl (fun h5 => AtR.region ?_) (fun h5 => AtR.skip fun a' W' _ hw' => ?_))
    · have hy : y.2 ∈ my := by
        apply Classical.byContradiction; intro hn; rw [if_neg hn] at h5; omega
      have hfl : (List.filter (fun x => decide (x ∈ my)) (pre.map Prod.snd)).length ≤ 601 := by
        have := List.length_filter_le (fun x => decide (x ∈ my)) (pre.map Prod.snd)
        rw [List.length_map] at this; omega
      have hfe : List.filter (fun x => decide (x ∈ my)) ((pre ++ [y]).map Prod.snd) = List.filter (fun x => decide (x ∈ my)) (pre.map Prod.snd) ++ [y.2] := by simp [hy]
      refine OpsR.val rfl rfl rfl (V.loadO 0 rfl rfl rfl rfl) ?_
      refine OpsR.val rfl rfl rfl (Val.move rfl) ?_
      refine OpsR.eff rfl rfl rfl (E.buildSlice1 rfl rfl rfl rfl) fun _ => OpsR.ex fun bq => OpsR.pure ?_
      rintro rfl
      refine OpsR.eff rfl rfl rfl (E.append1s 1 rfl rfl rfl rfl rfl rfl (by omega) (by omega)) fun _ => OpsR.ex fun g2 => OpsR.ex fun cp2 => OpsR.pure ?_
      rintro rfl
      refine OpsR.eff0 rfl rfl (E.store 0 rfl rfl rfl rfl rfl rfl rfl) fun _ => ?_
      refine OpsR.nil fun a' W' _ hw' => ⟨rfl, .slice (some ⟨g2, 0, none⟩) ((List.filter (fun x => decide (x ∈ my)) (pre.map Prod.snd)).length + 1) cp2, trivial, ?_⟩
      rw [hfe]
      have e1 : ∀ L : List Int, (L ++ [y.2]).flatMap zc = L.flatMap zc ++ [.int .i64 y.2] := fun L => by simp [zc]
      rw [e1, List.length_append]
      exact hw'
    · have hy : y.2 ∉ my := fun hy => by rw [if_pos hy] at h5; omega
      have hfe : List.filter (fun x => decide (x ∈ my)) ((pre ++ [y]).map Prod.snd) = List.filter (fun x => decide (x ∈ my)) (pre.map Prod.snd) := by simp [hy]
      exact ⟨rfl, v, trivial, by rw [hfe]; exact hw'⟩
  intro D ys xv hS _
  rw [hS]
  have hay : Ox.Ancs l b (my.mergeSort fun x y => decide (x ≤ y)) := ⟨Ox.sort_lt hndy, fun k => by rw [List.mem_mergeSort]; exact hmemy k⟩
  have hbe : zs.reverse.filter (· ∈ my) = zs.reverse.filter (· ∈ (my.mergeSort fun x y => decide (x ≤ y))) := List.filter_congr fun k _ => by simp [List.mem_mergeSort]
  have hbl : (zs.reverse.filter (· ∈ my)).length ≤ 601 := by
    have := List.length_filter_le (fun x => decide (x ∈ my)) zs.reverse
    rw [List.length_reverse] at this; omega
  have hbn : ∀ k ∈ zs.reverse.filter (· ∈ my), k ∈ l.map Ox.Lnk.num := fun k hk => by
    have := (List.mem_filter.1 hk).1
    exact hd.reach hina k ((hax.mem k).1 (by simpa using this))
  rw [hbe] at hbl hbn ⊢
  generalize (my.mergeSort fun x y => decide (x ≤ y)) = sy at *
  have hco : Ox.commons l zs sy = (Ox.pick (Ox.upOf l) (zs.reverse.filter (· ∈ sy))).reverse := rfl
  generalize zs.reverse.filter (· ∈ sy) = both at *
  refine At.publish_row 2 rfl fun h3 hle3 hsl3 => ?_
  have hbz : ZsH h3 xv both := hsl3
  obtain ⟨xa, xcp, rfl⟩ := hbz.form
  have hU3 : UpH h3 U (Ox.upOf l) := fun k => (hU k).mono (hle2.trans hle3)
  refine At.pick (Ω' := [dblk D, cells b12 [.slice xa both.length xcp] 32, mapI key bu U]) [0, 1, 7] (by decide) rfl ?_
  refine goK _ ?_
  refine Ops.eff rfl rfl rfl (E.makeMap key) fun _ => Ops.ex fun bc => Ops.pure ?_
  rintro rfl
  refine goK _ ?_
  refine At.row_nil 3 1 ?_
  refine At.loop4 (fun (j : Nat) (_ : List Int) (_ : List (Int × Value)) (v : Value) => [(9, .map (some bu)), (15, .map (some bc)), (16, v), (51, .slice xa both.length xcp), (52, .int .i64 (both.length : Int)), (53, .int .i64 (j : Int))])
    (fun (j : Nat) (outs : List Int) (m : List (Int × Value)) (v : Value) w => (j ≤ both.length ∧ outs = Ox.pick (Ox.upOf l) (both.take j) ∧ Cnt m (fun k => ∃ o ∈ outs, Ox.Reach (Ox.upOf l) o k) (601 * j)) ∧
      Mem c [row 3 1 v outs.length (outs.flatMap zc), mapI key bc m, dblk D, cells b12 [.slice xa both.length xcp] 32, mapI key bu U] h3 w) (fun (j : Nat) (_ : List Int) (_ : List (Int × Value)) (_ : Value) => both.length - j)
    0 [] [] (.slice none 0 0) ⟨rfl, rfl, rfl, rfl, rfl, rfl, trivial⟩ (fun w hw => ⟨⟨Nat.zero_le _, by simp [Ox.pick], Cnt.nil.imp (by simp) (by omega)⟩, hw⟩) (fun j outs m ov => At.pure (fun hq => ?_))
  obtain ⟨hj, ho, hm⟩ := hq
  have hol : outs.length ≤ 601 := by
    have := Ox.pick_length (Ox.upOf l) (both.take j)
    rw [← ho, List.length_take] at this; omega
  refine goK _ ?_
  refine At.condP rfl (fun h4 => ?_) (fun h4 => ?_)
  rotate_left
  · obtain rfl : j = both.length := by omega
    rw [List.take_length] at ho
    refine goK _ ?_
    refine Ops.eff rfl rfl rfl (Eff.call (fn (by kernel_rfl)) rfl (Ωc := [row 3 1 ov outs.length (outs.flatMap zc)]) rfl (Reverse_does ov outs (by omega) h3)) fun _ => Ops.ex fun _ => Ops.ex fun _ => Ops.pure ?_
    rintro ⟨rfl, rfl⟩
    refine goK _ ?_
    refine At.pick (Ω' := [dblk D, row 3 1 ov outs.length (outs.reverse.flatMap zc)]) [2, 0] (by decide) rfl ?_
    refine At.ret2M Tryz.results132 (Res.tmp rfl) (Res.tmp rfl) (List.Sublist.refl _) ⟨hle2.trans hle3, .inr ⟨h1, ov, zs, sy, rfl, hax, hay, ?_⟩⟩
    rw [hco, ← ho, List.length_reverse]
  have hlt : j < both.length := by omega
  have hnn : both[j] ∈ both := by simp
  have htk : both.take (j + 1) = both.take j ++ [both[j]] := by rw [List.take_succ_eq_append_getElem hlt]
  obtain ⟨b5, o5, rfl, _, _, hc5⟩ := RowH.elem zc_length hbz (i := j) (x := both[j]) (by simp [hlt])
  generalize hbj : both[j] = n at *
  have hnum := hbn n hnn
  obtain ⟨cc, hcc, hcc0, hcc1, hcc2⟩ := hm n
  repeat (first | refine Ops.val rfl rfl rfl (V.loadH rfl rfl (hc5 0 _ rfl)) ?_ | refine Ops.val rfl rfl rfl (V.lookup (κ := key) (m := m) 1 key3 rfl rfl rfl rfl rfl) ?_ | refine goS _ ?_)
  refine Ops.respell (t := 59) rfl hcc ?_
  refine goK _ ?_
  refine At.condP rfl (fun h5 => ?_) (fun h5 => ?_)
  rotate_left
  · refine goK _ ?_
    refine At.back4 (j + 1) outs m ov (by omega) (by exact ⟨rfl, rfl, rfl, rfl, rfl, rfl, trivial⟩) (fun w hw => ⟨⟨hlt, ?_, hm.imp (fun k => Iff.rfl) (by omega)⟩, hw⟩)
    have hcov : ∃ m ∈ outs, Ox.Reach (Ox.upOf l) m n := Classical.byContradiction fun hn => h5 (hcc2.2 hn)
    rw [htk, Ox.pick_snoc, ← ho, Ox.pickStep, if_pos hcov]
  have hncov : ¬ ∃ m ∈ outs, Ox.Reach (Ox.upOf l) m n := hcc2.1 h5
  have hon : Ox.pick (Ox.upOf l) (both.take (j + 1)) = outs ++ [n] := by rw [htk, Ox.pick_snoc, ← ho, Ox.pickStep, if_neg hncov]
  refine goK _ ?_
  refine Ops.eff rfl rfl rfl (E.buildSlice1 rfl rfl rfl rfl) fun _ => Ops.ex fun _ => Ops.pure ?_
  rintro rfl
  refine Ops.eff rfl rfl rfl (E.append1s 0 rfl rfl rfl rfl rfl rfl (by omega) (by omega)) fun _ => Ops.ex fun g2 => Ops.ex fun cp2 => Ops.pure ?_
  rintro rfl
  refine goK _ ?_
  refine Ops.eff rfl rfl rfl (Eff.callAt 4 (fn (by kernel_rfl)) rfl (Ωc := [mapI key bu U]) rfl (climbL_does bu U l n h3 hU3 hd hnum)) fun _ => Ops.ex fun _ => Ops.ex fun _ => Ops.pure ?_
  rintro ⟨rfl, bm, met, rfl, rfl, hnd, hmle, hmr, hmem⟩
  refine Ops.eff rfl rfl rfl (Eff.range 0 (mp rfl) rfl rfl) fun _ => Ops.ex fun br => Ops.pure ?_
  rintro rfl
  refine goK _ ?_
  have hsnl : ∀ sn : Array Nat, sn.toList.Nodup → (∀ i ∈ sn, i < met.length) → sn.size ≤ met.length := fun sn h6 h7 => by
    have := Ox.nodup_le (l := sn.toList.map fun i : Nat => (i : Int)) (V := (List.range met.length).map fun i : Nat => (i : Int)) (List.pairwise_map.2 (h6.imp fun {a b} hab e => hab (by omega))) (fun k hk => by
      obtain ⟨i, hi, rfl⟩ := List.mem_map.1 hk
      exact List.mem_map.2 ⟨i, List.mem_range.2 (h7 i (by simpa using hi)), rfl⟩)
    simpa using this
  have hol1 : (Ox.onesZ met).length = met.length := by simp [Ox.onesZ]
  refine At.loop2 (fun (_ : List (Int × Value)) (_ : Array Nat) => [(9, .map (some bu)), (15, .map (some bc)), (16, .slice (some ⟨g2, 0, none⟩) (outs.length + 1) cp2), (51, .slice (some ⟨b5, o5, none⟩) both.length xcp), (52, .int .i64 (both.length : Int)), (53, .int .i64 (j : Int)), (68, .pointer (some ⟨br, 0, none⟩))])
    (fun (m' : List (Int × Value)) (sn : Array Nat) w => (Cnt m' (fun k => (∃ o ∈ outs, Ox.Reach (Ox.upOf l) o k) ∨ ∃ i ∈ sn, met[i]? = some k) (601 * j + sn.size) ∧ sn.toList.Nodup ∧ (∀ i ∈ sn, i < met.length)) ∧
      Mem c [itI br bm (Ox.onesZ met).length sn, mapI key bm (Ox.onesZ met), mapI key bu U, row 3 1 (.slice (some ⟨g2, 0, none⟩) (outs.length + 1) cp2) (outs.length + 1) (outs.flatMap zc ++ [Value.int .i64 n]), mapI key bc m', dblk D, cells b12 [.slice (some ⟨b5, o5, none⟩) both.length xcp] 32] h3 w) (fun (_ : List (Int × Value)) (sn : Array Nat) => met.length - sn.size)
    m #[] ⟨rfl, rfl, rfl, rfl, rfl, rfl, rfl, trivial⟩ (fun w hw => ⟨⟨hm.imp (by simp) (by simp), by simp, by simp⟩, hw⟩) (fun m' sn => At.pure (fun hq => ?_))
  obtain ⟨hm', hsn, hsi⟩ := hq
  have hsz := hsnl sn hsn hsi
  refine goK _ ?_
  refine Ops.eff rfl rfl rfl (Eff.next 1 0 rfl rfl rfl) fun _ => Ops.or (Ops.pure fun e => Ops.pure fun hall => ?_) (Ops.ex fun i => Ops.ex fun a' => Ops.ex fun u' => Ops.pure fun e => Ops.pure fun hmi => Ops.pure fun hni => ?_)
  · subst e
    refine goK _ ?_
    refine At.back4 (j + 1) (outs ++ [n]) m' _ (by omega) (by exact ⟨rfl, rfl, rfl, rfl, rfl, rfl, trivial⟩) (fun w hw => ⟨⟨hlt, hon.symm, hm'.imp (fun k => ?_) (by omega)⟩, ?_⟩)
    · constructor
      · rintro (⟨o, h6, h7⟩ | ⟨i, h6, h7⟩)
        · exact ⟨o, by simp [h6], h7⟩
        · exact ⟨n, by simp, (hmem k).1 (List.mem_of_getElem? h7)⟩
      · rintro ⟨o, h6, h7⟩
        rcases List.mem_append.1 h6 with h6 | h6
        · exact .inl ⟨o, h6, h7⟩
        · simp at h6; subst h6
          obtain ⟨i, hi⟩ := List.getElem?_of_mem ((hmem k).2 h7)
          exact .inr ⟨i, hall i (by rw [hol1]; exact (List.getElem?_eq_some_iff.1 hi).1), hi⟩
    · have e1 : (outs ++ [n]).flatMap zc = outs.flatMap zc ++ [.int .i64 n] := by simp [zc]
      rw [e1, List.length_append]
      exact hw.pick [3, 4, 5, 6, 2] (by decide) rfl
  · subst e
    have hmi2 : met[i]? = some a' := by
      simp only [Ox.onesZ, List.getElem?_map] at hmi
      cases hmm : met[i]? with
      | none => rw [hmm] at hmi; cases hmi
      | some z => rw [hmm] at hmi; simp at hmi; rw [hmi.1]
    have him : i < met.length := (List.getElem?_eq_some_iff.1 hmi2).1
    obtain ⟨c2, hc2, hc20, hc21, hc22⟩ := hm' a'
    repeat (first | refine Ops.val rfl rfl rfl (Val.entry 1 0 rfl rfl rfl hmi) ?_ | refine Ops.val rfl rfl rfl (V.lookup (κ := key) (m := m') 4 key3 rfl rfl rfl rfl rfl) ?_ | refine goS _ ?_)
    refine Ops.respell (t := 75) rfl hc2 ?_
    refine goK _ ?_
    refine Ops.eff0 rfl rfl (E.mapUpdate 4 key3 rfl rfl rfl rfl rfl) fun _ => ?_
    refine goK _ ?_
    refine At.back2 (mset m' a' (.int .i64 (c2 + 1))) (sn.push i) ?_ (by exact ⟨rfl, rfl, rfl, rfl, rfl, rfl, rfl, trivial⟩) (fun w hw => ⟨⟨?_, ?_, ?_⟩, hw⟩)
    · have h8 := hsnl (sn.push i) (by rw [Array.toList_push]; exact List.nodup_append.2 ⟨hsn, by simp, fun x hx y hy e => hni (by simp at hy; subst hy; subst e; simpa using hx)⟩) (fun k hk => by
        rcases Array.mem_push.1 hk with hk | rfl
        · exact hsi k hk
        · exact him)
      rw [Array.size_push] at h8 ⊢
      omega
    · refine (hm'.add a' c2 hc2).imp (fun k => ?_) (by rw [Array.size_push]; omega)
      simp only [Array.mem_push]
      constructor
      · rintro ((h6 | ⟨z, h6, h7⟩) | rfl)
        · exact .inl h6
        · exact .inr ⟨z, .inl h6, h7⟩
        · exact .inr ⟨i, .inr rfl, hmi2⟩
      · rintro (h6 | ⟨z, h6 | rfl, h7⟩)
        · exact .inl (.inl h6)
        · exact .inl (.inr ⟨z, h6, h7⟩)
        · rw [hmi2] at h7; cases h7; exact .inr rfl
    · rw [Array.toList_push]; exact List.nodup_append.2 ⟨hsn, by simp, fun x hx y hy e => hni (by simp at hy; subst hy; subst e; simpa using hx)⟩
    · intro k hk
      rcases Array.mem_push.1 hk with hk | rfl
      · exact hsi k hk
      · exact him
end Go.Proofs.YthjgbmbaabpgmaaGreat
