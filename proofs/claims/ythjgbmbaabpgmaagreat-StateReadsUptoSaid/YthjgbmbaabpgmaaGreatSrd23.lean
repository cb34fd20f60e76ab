/-
  Commits: the graph's check.
-/
import Derived.Test.YthjgbmbaabpgmaaGreatSrd05
import Derived.Test.YthjgbmbaabpgmaaGreatSrd13
import Derived.Test.YthjgbmbaabpgmaaGreatSrd10
import Derived.Scope
set_option linter.unusedVariables false
set_option linter.unusedSimpArgs false
set_option linter.unusedSectionVars false
namespace Go.Proofs.YthjgbmbaabpgmaaGreat
open Go.Sy
set_option maxRecDepth 4000
set_option maxHeartbeats 4000000
attribute [local irreducible] At Ops Val Eff Does Res Dr
/-- a row of ints in memory -/
def zc (i : Int) : List Value := [.int .i64 i]
theorem zc_length (i : Int) : (zc i).length = 1 := rfl
def ZsH (h : HV) (v : Value) (l : List Int) : Prop := RowH zc 1 h v l
theorem ZsH.mono {h h' : HV} {v : Value} {l : List Int} (r : ZsH h v l) (le : HV.le h h') : ZsH h' v l := RowH.mono r le
namespace Ox
structure Lnk where
  num : Int
  ps : List Int
def Lnk.twice (x : Lnk) : Bool := decide (x.ps.length = 2 ∧ x.ps[0]? = x.ps[1]?)
def lastOf (l : List Lnk) : Int := (l.getLast?.map Ox.Lnk.num).getD 0
structure Fine (l : List Lnk) (x : Lnk) : Prop where
  up : lastOf l < x.num
  top : x.num ≤ 300
  few : x.ps.length ≤ 2
  two : x.twice = false
  there : ∀ p ∈ x.ps, p ∈ l.map Ox.Lnk.num
def DagOk (l : List Lnk) : Prop := l.length ≤ 300 ∧ ∀ i x, l[i]? = some x → Fine (l.take i) x
open Classical in
noncomputable def dagCheck (l : List Lnk) : Int := if DagOk l then 0 else 130
end Ox
/-- links in memory: each with its parents' row -/
def lkc (p : Ox.Lnk × Value) : List Value := [.int .i64 p.1.num, p.2]
theorem lkc_length (p : Ox.Lnk × Value) : (lkc p).length = 2 := rfl
structure LinksX (h : HV) (v : Value) (xs : List (Ox.Lnk × Value)) : Prop where
  row : RowH lkc 2 h v xs
  each : ∀ p ∈ xs, ZsH h p.2 p.1.ps
def LinksH (h : HV) (v : Value) (l : List Ox.Lnk) : Prop := ∃ xs, xs.map Prod.fst = l ∧ LinksX h v xs

/-- a map that counts: what is not 0 is what p says -/
def Cnt (m : List (Int × Value)) (p : Int → Prop) (N : Nat) : Prop := ∀ k : Int, ∃ c : Int, (mget m k).getD (.int .i64 0) = .int .i64 c ∧ 0 ≤ c ∧ c ≤ N ∧ (c = 0 ↔ ¬ p k)
theorem Cnt.nil : Cnt [] (fun _ => False) 0 := fun k => ⟨0, rfl, by omega, by omega, by simp⟩
theorem Cnt.add {m : List (Int × Value)} {p : Int → Prop} {N : Nat} (h : Cnt m p N) (a c : Int) (hc : (mget m a).getD (.int .i64 0) = .int .i64 c) : Cnt (mset m a (.int .i64 (c + 1))) (fun k => p k ∨ k = a) (N + 1) := fun k => by
  obtain ⟨c', hc', h0, h1, h2⟩ := h k
  rw [mget_mset]
  by_cases hk : k = a
  · subst hk
    rw [hc] at hc'; cases hc'
    rw [if_pos rfl]
    exact ⟨c + 1, rfl, by omega, by omega, by simp; omega⟩
  · rw [if_neg (fun e => hk e.symm)]
    exact ⟨c', hc', h0, by omega, by rw [h2]; simp [hk]⟩
theorem Cnt.imp {m : List (Int × Value)} {p q : Int → Prop} {N M : Nat} (h : Cnt m p N) (hpq : ∀ k, p k ↔ q k) (hN : N ≤ M) : Cnt m q M := fun k => by
  obtain ⟨c', hc', h0, h1, h2⟩ := h k
  exact ⟨c', hc', h0, by omega, by rw [h2, hpq]⟩

theorem DagCheck_does (v : Value) (l : List Ox.Lnk) (h : HV) (hv : LinksH h v l) (hl : l.length ≤ 10000000000) (hp : ∀ x ∈ l, x.ps.length ≤ 10000000000) :
    Does Tryz.prog 182 #[v] [] h (Just h (· = .int .i64 (Ox.dagCheck l))) := by
  obtain ⟨xs, rfl, hr, he⟩ := hv
  obtain ⟨a, cp, rfl⟩ := hr.form
  rw [List.length_map] at hl
  have hbad : ∀ i x, (xs.map Prod.fst)[i]? = some x → ¬ Ox.Fine ((xs.map Prod.fst).take i) x → Ox.dagCheck (xs.map Prod.fst) = 130 := fun i x hi hn => by
    rw [Ox.dagCheck, if_neg]
    exact fun hd => hn (hd.2 i x hi)
  refine Does.of Tryz.func182 rfl Tryz.ntmps182 rfl fun c hc0 => ?_
  refine goK _ ?_
  refine At.condP rfl (fun h1 => ?_) (fun h1 => ?_)
  · refine goK _ ?_
    refine At.ret1 Tryz.results182 (Res.tmp rfl) (List.nil_sublist _) ⟨?_, rfl, rfl⟩
    rw [Ox.dagCheck, if_neg]
    intro hd; have := hd.1; rw [List.length_map] at this; omega
  refine goK _ ?_
  refine Ops.eff rfl rfl rfl (E.makeMap key) fun _ => Ops.ex fun bm => Ops.pure ?_
  rintro rfl
  refine goK _ ?_
  refine At.loop2 (fun (i : Nat) (_ : List (Int × Value)) => [(3, .map (some bm)), (4, .int .i64 (Ox.lastOf ((xs.map Prod.fst).take i))), (14, .slice a xs.length cp), (15, .int .i64 (xs.length : Int)), (16, .int .i64 (i : Int))])
    (fun (i : Nat) (m : List (Int × Value)) w => (i ≤ xs.length ∧ (∀ j x, (xs.map Prod.fst)[j]? = some x → j < i → Ox.Fine ((xs.map Prod.fst).take j) x) ∧ Cnt m (fun k => k ∈ ((xs.map Prod.fst).take i).map Ox.Lnk.num) i) ∧ Mem c [mapI key bm m] h w) (fun (i : Nat) (_ : List (Int × Value)) => xs.length - i)
    0 [] ⟨rfl, rfl, rfl, rfl, rfl, trivial⟩ (fun w hw => ⟨⟨Nat.zero_le _, fun j x _ hj => absurd hj (by omega), by simpa using Cnt.nil⟩, hw⟩) (fun i m => At.pure (fun hq => ?_))
  obtain ⟨hi, hf, hm⟩ := hq
  refine goK _ ?_
  refine At.condP rfl (fun h2 => ?_) (fun h2 => ?_)
  rotate_left
  · obtain rfl : i = xs.length := by omega
    refine goK _ ?_
    refine At.ret1 Tryz.results182 (Res.tmp rfl) (List.nil_sublist _) ⟨?_, rfl, rfl⟩
    rw [Ox.dagCheck, if_pos]
    exact ⟨by rw [List.length_map]; omega, fun j x hj => hf j x hj (by have := (List.getElem?_eq_some_iff.1 hj).1; rw [List.length_map] at this; exact this)⟩
  have hlt : i < xs.length := by omega
  obtain ⟨b, o, rfl, _, _, hc⟩ := RowH.elem lkc_length hr (i := i) (x := xs[i]) (by simp [hlt])
  have hps := he xs[i] (by simp)
  have hpl := hp xs[i].1 (List.mem_map.2 ⟨xs[i], by simp, rfl⟩)
  have hle : i < (xs.map Prod.fst).length := by simpa using hlt
  have hxe : (xs.map Prod.fst)[i]? = some xs[i].1 := by simp [hlt]
  have hbx := hbad i _ hxe
  have hts : (xs.map Prod.fst).take (i + 1) = (xs.map Prod.fst).take i ++ [xs[i].1] := by rw [List.take_succ_eq_append_getElem hle]; simp
  have hfi : ∀ F : Ox.Fine ((xs.map Prod.fst).take i) xs[i].1, ∀ j x, (xs.map Prod.fst)[j]? = some x → j < i + 1 → Ox.Fine ((xs.map Prod.fst).take j) x := fun F j x hj hjl => by
    by_cases hji : j = i
    · subst hji; rw [hxe] at hj; cases hj; exact F
    · exact hf j x hj (by omega)
  generalize hx : xs[i] = x at *
  obtain ⟨⟨xn, xp⟩, u⟩ := x
  generalize hT : (xs.map Prod.fst).take i = T at *
  simp only at hps hpl hbx hts hfi
  obtain ⟨ua, ucp, rfl⟩ := hps.form
  repeat (first | refine Ops.val rfl rfl rfl (V.loadHA (cs := [.int .i64 xn, .slice ua xp.length ucp]) rfl rfl rfl hc) ?_ | refine goS _ ?_)
  refine Ops.eff rfl rfl rfl (E.alloc rfl) fun _ => Ops.ex fun b6 => Ops.pure ?_
  rintro rfl
  refine goK _ ?_
  refine Ops.eff0 rfl rfl (E.store 0 rfl rfl rfl rfl rfl rfl rfl) fun _ => ?_
  refine goK _ ?_
  refine At.meet1 (fun (_ : Unit) => [(3, .map (some bm)), (4, .int .i64 (Ox.lastOf T)), (6, .pointer (some ⟨b6, 0, none⟩)), (7, .bool (Ox.Lnk.twice ⟨xn, xp⟩)), (14, .slice (some ⟨b, o, none⟩) xs.length cp), (15, .int .i64 (xs.length : Int)), (16, .int .i64 (i : Int))])
    (fun _ w => Mem c [cells b6 [.int .i64 xn, .slice ua xp.length ucp] 222, mapI key bm m] h w) (fun k meet => ?_) (fun _ => ?_)
  · first | refine At.drawn mo (fun _ _ m => m.drew _) ?_ | refine At.seq (At.drawn mo (fun _ _ m => m.drew _) ?_)
    refine draA 0 _ ?_
    refine draA 1 _ ?_
    refine draA 2 _ ?_
    refine draA 3 _ ?_
    refine draA 4 _ ?_
    refine Dr.boolP (t := 24) rfl (fun hb1 => ?_) (fun hb1 => ?_)
    rotate_left
    · refine draA 5 _ ?_
      refine draA 6 _ ?_
      refine draA 7 _ ?_
      refine draA 8 _ ?_
      refine draA 9 _ ?_
      refine draA 10 _ ?_
      refine draA 11 _ ?_
      refine draA 12 _ ?_
      refine draA 13 _ ?_
      refine draA 14 _ ?_
      refine draA 15 _ ?_
      refine Dr.done (by kernel_rfl) (by kernel_rfl) ?_
      refine meet () (by exact ⟨rfl, rfl, rfl, congrArg (fun z => some (Value.bool z)) (by simp [Ox.Lnk.twice]; omega), rfl, rfl, rfl, trivial⟩) (fun w hw => hw)
    obtain ⟨p0, p1, rfl⟩ : ∃ p0 p1, xp = [p0, p1] := by
      match xp, hb1 with
      | [p0, p1], _ => exact ⟨p0, p1, rfl⟩
      | [], h => simp at h
      | [_], h => simp at h
      | _ :: _ :: _ :: _, h => simp at h; omega
    obtain ⟨bp, op, rfl, _, _, hp0⟩ := RowH.elem zc_length hps (i := 0) (x := p0) rfl
    obtain ⟨bp', op', e', _, _, hp1⟩ := RowH.elem zc_length hps (i := 1) (x := p1) rfl
    cases e'
    refine draA 5 _ ?_
    refine draA 6 _ ?_
    refine Dr.val 7 rfl rfl rfl rfl (by kernel_rfl) rfl (V.indexAddr (i := 0) rfl rfl rfl rfl (by simp)) ?_
    refine Dr.valS 8 _ rfl rfl rfl rfl (by kernel_rfl) rfl (V.load rfl rfl (fun _ hh => hh)) (fun w hw => hw.cellH (hp0 0 _ rfl)) ?_
    refine draA 9 _ ?_
    refine draA 10 _ ?_
    refine Dr.val 11 rfl rfl rfl rfl (by kernel_rfl) rfl (V.indexAddr (i := 1) rfl rfl rfl rfl (by simp)) ?_
    refine Dr.valS 12 _ rfl rfl rfl rfl (by kernel_rfl) rfl (V.load rfl rfl (fun _ hh => hh)) (fun w hw => hw.cellH (hp1 0 _ rfl)) ?_
    refine draA 13 _ ?_
    refine draA 14 _ ?_
    refine draA 15 _ ?_
    refine Dr.done (by kernel_rfl) (by kernel_rfl) ?_
    refine meet () (by exact ⟨rfl, rfl, rfl, congrArg (fun z => some (Value.bool z)) (by simp [Ox.Lnk.twice]), rfl, rfl, rfl, trivial⟩) (fun w hw => hw)
  refine goK _ ?_
  refine Ops.forkR 52 (.bool (decide (xn ≤ Ox.lastOf T ∨ 300 < xn ∨ 2 < xp.length ∨ Ox.Lnk.twice ⟨xn, xp⟩ = true))) [3, 4, 6, 14, 15, 16] ?_ (fun main => ?_)
  rotate_left
  · repeat' (first
      | refine opS _ ?_
      | refine Ops.gsplit rfl rfl (fun hb => ?_) (fun hb => ?_)
      | refine Ops.psplit rfl (fun hb => ?_) (fun hb => ?_))
    all_goals (refine Ops.nil ?_; refine main.sub ⟨congrArg (fun b => some (Value.bool b)) ?_, (by repeat (first | exact trivial | refine ⟨rfl, ?_⟩))⟩; clear main; (generalize Ox.Lnk.twice ⟨xn, xp⟩ = tw at *; rw [Bool.eq_iff_iff]; simp at *; try (cases tw <;> simp <;> omega)))
  refine At.condP rfl (fun h3 => ?_) (fun h3 => ?_)
  · refine goK _ ?_
    refine At.ret1 Tryz.results182 (Res.tmp rfl) (List.nil_sublist _) ⟨?_, rfl, rfl⟩
    rw [hbx]
    intro F
    have f1 := F.up; have f2 := F.top; have f3 := F.few; have f4 := F.two
    simp only at f1 f2 f3
    rcases h3 with h3 | h3 | h3 | h3
    · omega
    · omega
    · omega
    · rw [h3] at f4; cases f4
  refine goK _ ?_
  refine At.loop1 (fun (j : Nat) => [(3, .map (some bm)), (4, .int .i64 (Ox.lastOf T)), (6, .pointer (some ⟨b6, 0, none⟩)), (14, .slice (some ⟨b, o, none⟩) xs.length cp), (15, .int .i64 (xs.length : Int)), (16, .int .i64 (i : Int)), (54, .slice ua xp.length ucp), (55, .int .i64 (xp.length : Int)), (56, .int .i64 (j : Int))])
    (fun (j : Nat) w => (j ≤ xp.length ∧ ∀ p ∈ xp.take j, p ∈ T.map Ox.Lnk.num) ∧ Mem c [cells b6 [.int .i64 xn, .slice ua xp.length ucp] 222, mapI key bm m] h w) (fun (j : Nat) => xp.length - j)
    0 ⟨rfl, rfl, rfl, rfl, rfl, rfl, rfl, rfl, rfl, trivial⟩ (fun w hw => ⟨⟨Nat.zero_le _, by simp⟩, hw⟩) (fun j => At.pure fun ⟨hj, hjp⟩ => ?_)
  refine goK _ ?_
  refine At.condP rfl (fun h4 => ?_) (fun h4 => ?_)
  · have hjl : j < xp.length := by omega
    obtain ⟨bp, op, rfl, _, _, hpc⟩ := RowH.elem zc_length hps (i := j) (x := xp[j]) (by simp [hjl])
    repeat (first | refine Ops.val rfl rfl rfl (V.loadH rfl rfl (hpc 0 _ rfl)) ?_ | refine goS _ ?_)
    obtain ⟨cc, hcc, hc0, hc1, hc2⟩ := hm xp[j]
    repeat (first | refine Ops.val rfl rfl rfl (V.lookup (κ := key) (m := m) 1 key3 rfl rfl rfl rfl rfl) ?_ | refine goS _ ?_)
    refine Ops.respell (t := 62) rfl hcc ?_
    refine goK _ ?_
    refine At.condP rfl (fun h5 => ?_) (fun h5 => ?_)
    · refine goK _ ?_
      refine At.ret1 Tryz.results182 (Res.tmp rfl) (List.nil_sublist _) ⟨?_, rfl, rfl⟩
      rw [hbx]
      intro F
      exact hc2.1 h5 (F.there xp[j] (by simp))
    refine goK _ ?_
    refine At.back (j + 1) (by show xp.length - (j + 1) < xp.length - j; omega) (by exact ⟨rfl, rfl, rfl, rfl, rfl, rfl, rfl, rfl, rfl, trivial⟩) (fun w hw => ⟨⟨hjl, fun p hpm => ?_⟩, hw⟩)
    rw [List.take_succ_eq_append_getElem hjl] at hpm
    rcases List.mem_append.1 hpm with h6 | h6
    · exact hjp p h6
    · simp at h6; subst h6
      exact Classical.byContradiction fun hn => h5 (hc2.2 hn)
  obtain rfl : j = xp.length := by omega
  rw [List.take_length] at hjp
  simp only [not_or, Int.not_le, Int.not_lt, Nat.not_lt] at h3
  obtain ⟨f1, f2, f3, f4⟩ := h3
  have F : Ox.Fine T ⟨xn, xp⟩ := ⟨f1, f2, f3, by simpa using f4, hjp⟩
  obtain ⟨cc, hcc, hc0, hc1, hc2⟩ := hm xn
  repeat (first | refine Ops.val rfl rfl rfl (V.lookup (κ := key) (m := m) 1 key3 rfl rfl rfl rfl rfl) ?_ | refine goS _ ?_)
  refine Ops.respell (t := 69) rfl hcc ?_
  refine goK _ ?_
  refine Ops.eff0 rfl rfl (E.mapUpdate 1 key3 rfl rfl rfl rfl rfl) fun _ => ?_
  refine goK _ ?_
  refine At.back2 (i + 1) (mset m xn (.int .i64 (cc + 1))) (by show xs.length - (i + 1) < xs.length - i; omega) (by exact ⟨rfl, congrArg (fun z => some (Value.int .i64 z)) (by rw [hts]; simp [Ox.lastOf]), rfl, rfl, rfl, trivial⟩) (fun w hw => ⟨⟨hlt, hfi F, ?_⟩, hw.sub (List.sublist_cons_self _ _)⟩)
  refine (hm.add xn cc hcc).imp (fun k => ?_) (Nat.le_refl _)
  rw [hts]; simp
end Go.Proofs.YthjgbmbaabpgmaaGreat
/-
  Commits: parents, and the commits that are ahead of one.
-/
namespace Go.Sy
open Go Go.RowKit
theorem kont_goto {P : Program} {fn : Func} {R : Ending → World → Prop} : ∀ (k : List It) (l : Nat) (a : Act) (w : World), kont P (bodyPost P fn R) k (.goto l) a w → False
  | [], _, _, _, h => h
  | .code _ :: k, l, a, w, h => kont_goto k l a w h
  | .blk _ :: k, l, a, w, h => kont_goto k l a w h
  | .inv _ :: k, l, a, w, h => kont_goto k l a w h
theorem At.scope {P : Program} {fn : Func} {R : Ending → World → Prop} {n : Sz} {σ : Slots} {S : World → Prop} {c : Code} {k : List It} (h : At P (bodyPost P fn R) n σ S (.code c :: k)) :
    At P (bodyPost P fn R) n σ S (.code (.scope c) :: k) := fun a w ha hw => wp_scope_straight (wp_mono (h a w ha hw) fun e a w hq => by
  cases e with
  | goto l => exact (kont_goto k l a w hq).elim
  | _ => exact hq)
end Go.Sy
namespace Go.Proofs.YthjgbmbaabpgmaaGreat
open Go.Sy
set_option maxRecDepth 4000
set_option maxHeartbeats 4000000
attribute [local irreducible] At Ops Val Eff Does Res Dr
namespace Ox
/-- numbers counted once each -/
def onesZ (ks : List Int) : List (Int × Value) := ks.map fun p => (p, .int .i64 1)
theorem mget_onesZ (ks : List Int) (a : Int) : (mget (onesZ ks) a).getD (.int .i64 0) = .int .i64 (if a ∈ ks then 1 else 0) := by
  induction ks with
  | nil => simp [onesZ, mget]
  | cons b r ih =>
    simp only [onesZ, List.map_cons, mget] at ih ⊢
    by_cases h : b = a
    · subst h; simp
    · rw [if_neg h, ih]
      simp [Ne.symm h]
theorem mset_onesZ {ks : List Int} {a : Int} (h : a ∉ ks) : mset (onesZ ks) a (.int .i64 1) = onesZ (ks ++ [a]) := by
  induction ks with
  | nil => rfl
  | cons b r ih =>
    simp only [List.mem_cons, not_or] at h
    simp only [onesZ, List.map_cons, List.cons_append, mset, if_neg (Ne.symm h.1)]
    have := ih h.2
    simp only [onesZ] at this
    rw [this]
/-- the parents of each commit -/
def upOf (l : List Lnk) : Int → List Int := l.foldl (fun f x k => if k = x.num then x.ps else f k) (fun _ => [])
theorem upOf_snoc (l : List Lnk) (x : Lnk) : upOf (l ++ [x]) = fun k => if k = x.num then x.ps else upOf l k := by
  simp [upOf]
theorem upOf_mem (l : List Lnk) : ∀ k p, p ∈ upOf l k → ∃ x ∈ l, x.num = k ∧ p ∈ x.ps := by
  rcases l.eq_nil_or_concat with rfl | ⟨r, x, rfl⟩
  · intro k p h; simp [upOf] at h
  · intro k p h
    rw [List.concat_eq_append, upOf_snoc] at h
    simp only at h
    split at h
    · rename_i hk; exact ⟨x, by simp, hk.symm, h⟩
    · obtain ⟨y, hy, h1, h2⟩ := upOf_mem r k p h
      exact ⟨y, by simp [hy], h1, h2⟩
termination_by l.length
decreasing_by subst_vars; simp
/-- what is ahead of a commit, itself too -/
inductive Reach (f : Int → List Int) (a : Int) : Int → Prop
  | refl : Reach f a a
  | step {b p : Int} : Reach f a b → p ∈ f b → Reach f a p
theorem nodup_le : ∀ {l V : List Int}, l.Nodup → (∀ k ∈ l, k ∈ V) → l.length ≤ V.length
  | [], _, _, _ => by simp
  | a :: l, V, hn, hs => by
    have ha := hs a (by simp)
    have h1 : l.length ≤ (V.erase a).length := nodup_le (List.nodup_cons.1 hn).2 fun k hk => by
      have hne : k ≠ a := fun e => (List.nodup_cons.1 hn).1 (e ▸ hk)
      exact (List.mem_erase_of_ne hne).2 (hs k (by simp [hk]))
    have h2 := List.length_erase_of_mem ha
    have h3 := List.length_pos_of_mem ha
    simp only [List.length_cons]; omega
/-- what holds of it -/
structure ClI (f : Int → List Int) (V : List Int) (a : Int) (met work : List Int) : Prop where
  nodup : met.Nodup
  reach : ∀ k ∈ met, Reach f a k
  first : a ∈ met
  low : ∀ k ∈ work, k ∈ met
  few : met.length ≤ V.length + 1
theorem ClI.put {f : Int → List Int} {V : List Int} {a : Int} {met work : List Int} (h : ClI f V a met work) (hV : ∀ k, ∀ p ∈ f k, p ∈ V) {n p : Int} (hn : n ∈ met) (hp : p ∈ f n) (hpm : p ∉ met) : ClI f V a (met ++ [p]) (work ++ [p]) := by
  have hnd : (met ++ [p]).Nodup := by
    rw [List.nodup_append]; refine ⟨h.nodup, by simp, fun x hx y hy => ?_⟩
    simp at hy; subst hy; exact fun e => hpm (e ▸ hx)
  have hre : ∀ k ∈ met ++ [p], Reach f a k := fun k hk => by
    rcases List.mem_append.1 hk with h1 | h1
    · exact h.reach k h1
    · simp at h1; subst h1; exact .step (h.reach n hn) hp
  refine ⟨hnd, hre, by simp [h.first], fun k hk => ?_, ?_⟩
  · rcases List.mem_append.1 hk with h1 | h1
    · exact List.mem_append_left _ (h.low k h1)
    · exact List.mem_append_right _ h1
  · have := nodup_le (V := a :: V) hnd fun k hk => by
      cases hre k hk with
      | refl => simp
      | step _ hq => exact List.mem_cons_of_mem _ (hV _ _ hq)
    simpa using this
end Ox
theorem flat_zc (l : List Int) : l.flatMap zc = l.map (Value.int .i64) := by
  induction l with
  | nil => rfl
  | cons a r ih => simp [zc, ih]
/-- a map of each commit's parents in memory -/
def UpH (h : HV) (U : List (Int × Value)) (f : Int → List Int) : Prop := ∀ k, ZsH h ((mget U k).getD (.slice none 0 0)) (f k)

theorem parents_does (v : Value) (l : List Ox.Lnk) (h : HV) (hv : LinksH h v l) (hl : l.length ≤ 10000000000) :
    Does Tryz.prog 141 #[v] [] h (fun r Ω' h' => h = h' ∧ ∃ b U, r = .map (some b) ∧ Ω' = [mapI key b U] ∧ UpH h U (Ox.upOf l)) := by
  obtain ⟨xs, rfl, hr, he⟩ := hv
  obtain ⟨a, cp, rfl⟩ := hr.form
  rw [List.length_map] at hl
  refine Does.of Tryz.func141 rfl Tryz.ntmps141 rfl fun c hc0 => ?_
  refine goK _ ?_
  refine Ops.eff rfl rfl rfl (E.makeMap key) fun _ => Ops.ex fun bm => Ops.pure ?_
  rintro rfl
  refine goK _ ?_
  refine At.loop2 (fun (i : Nat) (_ : List (Int × Value)) => [(3, .map (some bm)), (7, .slice a xs.length cp), (8, .int .i64 (xs.length : Int)), (9, .int .i64 (i : Int))])
    (fun (i : Nat) (m : List (Int × Value)) w => (i ≤ xs.length ∧ UpH h m (Ox.upOf ((xs.map Prod.fst).take i))) ∧ Mem c [mapI key bm m] h w) (fun (i : Nat) (_ : List (Int × Value)) => xs.length - i)
    0 [] ⟨rfl, rfl, rfl, rfl, trivial⟩ (fun w hw => ⟨⟨Nat.zero_le _, fun k => SlH.nil h 1⟩, hw⟩) (fun i m => At.pure (fun hq => ?_))
  obtain ⟨hi, hm⟩ := hq
  refine goK _ ?_
  refine At.condP rfl (fun h2 => ?_) (fun h2 => ?_)
  rotate_left
  · obtain rfl : i = xs.length := by omega
    refine goK _ ?_
    refine At.ret1 Tryz.results141 (Res.tmp rfl) (List.Sublist.refl _) ⟨hc0.symm ▸ rfl, bm, m, rfl, rfl, ?_⟩
    rw [List.take_of_length_le (by simp)] at hm
    exact hm
  have hlt : i < xs.length := by omega
  obtain ⟨b, o, rfl, _, _, hc⟩ := RowH.elem lkc_length hr (i := i) (x := xs[i]) (by simp [hlt])
  have hps := he xs[i] (by simp)
  have hle : i < (xs.map Prod.fst).length := by simpa using hlt
  have hts : (xs.map Prod.fst).take (i + 1) = (xs.map Prod.fst).take i ++ [xs[i].1] := by rw [List.take_succ_eq_append_getElem hle]; simp
  generalize hx : xs[i] = x at *
  obtain ⟨⟨xn, xp⟩, u⟩ := x
  simp only at hps hts
  obtain ⟨ua, ucp, rfl⟩ := hps.form
  repeat (first | refine Ops.val rfl rfl rfl (V.loadHA (cs := [.int .i64 xn, .slice ua xp.length ucp]) rfl rfl rfl hc) ?_ | refine goS _ ?_)
  refine Ops.eff rfl rfl rfl (E.alloc rfl) fun _ => Ops.ex fun b5 => Ops.pure ?_
  rintro rfl
  refine goK _ ?_
  refine Ops.eff0 rfl rfl (E.store 0 rfl rfl rfl rfl rfl rfl rfl) fun _ => ?_
  refine goK _ ?_
  refine Ops.eff0 rfl rfl (E.mapUpdate 1 key3 rfl rfl rfl rfl rfl) fun _ => ?_
  refine goK _ ?_
  refine At.back2 (i + 1) (mset m xn (.slice ua xp.length ucp)) (by show xs.length - (i + 1) < xs.length - i; omega) (by exact ⟨rfl, rfl, rfl, rfl, trivial⟩) (fun w hw => ⟨⟨hlt, fun k => ?_⟩, hw.sub (List.sublist_cons_self _ _)⟩)
  rw [hts, Ox.upOf_snoc, mget_mset]
  by_cases hk : xn = k
  · subst hk; simp only [if_pos]; exact hps
  · rw [if_neg hk]; simp only [if_neg (Ne.symm hk)]; exact hm k

theorem climb_does (bu : Nat) (U : List (Int × Value)) (f : Int → List Int) (W : List Int) (n0 : Int) (h : HV) (hU : UpH h U f) (hV : ∀ k, ∀ p ∈ f k, p ∈ W) (hVl : W.length ≤ 1000000) (hf : ∀ k, (f k).length ≤ 1000000) :
    Does Tryz.prog 140 #[.map (some bu), .int .i64 n0] [mapI key bu U] h (fun r Ω' h' => h = h' ∧ ∃ b met, r = .map (some b) ∧ Ω' = [mapI key b (Ox.onesZ met), mapI key bu U] ∧ met.Nodup ∧ met.length ≤ W.length + 1 ∧ ∀ k, k ∈ met ↔ Ox.Reach f n0 k) := by
  refine Does.of Tryz.func140 rfl Tryz.ntmps140 rfl fun c hc0 => ?_
  repeat (first | refine At.scope ?_ | refine goS _ ?_)
  refine Ops.eff rfl rfl rfl (E.makeMap key) fun _ => Ops.ex fun bm => Ops.pure ?_
  rintro rfl
  refine goK _ ?_
  refine Ops.eff0 rfl rfl (E.insert 0 key3 rfl rfl rfl rfl rfl) fun _ => ?_
  refine goK _ ?_
  refine Ops.eff rfl rfl rfl (E.buildSlice1R rfl rfl rfl rfl) fun _ => Ops.ex fun bw => Ops.pure ?_
  rintro rfl
  repeat (first | refine At.label ?_ | refine goS _ ?_)
  refine At.loop3 (fun (_ : List Int) (_ : List Int) (v : Value) => [(0, .map (some bu)), (5, .map (some bm)), (6, v)])
    (fun (met : List Int) (work : List Int) (v : Value) w => (Ox.ClI f W n0 met work ∧ (∀ k ∈ met, k ∉ work → ∀ p ∈ f k, p ∈ met) ∧ 2 * (W.length + 1 - met.length) + work.length ≤ 2 * W.length + 1) ∧
      Mem c [row 3 1 v work.length (work.flatMap zc), mapI key bm (Ox.onesZ met), mapI key bu U] h w) (fun (met : List Int) (work : List Int) (_ : Value) => 2 * (W.length + 1 - met.length) + work.length)
    [n0] [n0] (.slice (some ⟨bw, 0, none⟩) 1 1) ⟨rfl, rfl, rfl, trivial⟩ (fun w hw => ⟨⟨⟨by simp, fun k hk => by simp at hk; subst hk; exact .refl, by simp, by simp, by simp⟩, fun k hk hn => absurd hk hn, by simp⟩, hw⟩) (fun met work v => At.pure (fun hq => ?_))
  obtain ⟨hI, hC, hM⟩ := hq
  refine At.row_form 0 rfl fun wa wcp ew => ?_
  subst ew
  refine goK _ ?_
  refine At.condP rfl (fun h1 => ?_) (fun h1 => ?_)
  · obtain rfl : work = [] := List.eq_nil_of_length_eq_zero (by omega)
    refine goK _ ?_
    refine At.ret1 Tryz.results140 (Res.tmp rfl) (List.sublist_cons_self _ _) ⟨hc0.symm ▸ rfl, bm, met, rfl, rfl, hI.nodup, hI.few, fun k => ⟨hI.reach k, fun hk => ?_⟩⟩
    induction hk with
    | refl => exact hI.first
    | step _ hq ih => exact hC _ ih (by simp) _ hq
  obtain ⟨w0, n, rfl⟩ : ∃ w0 n, work = w0 ++ [n] := by
    rcases work.eq_nil_or_concat with rfl | ⟨r, x, rfl⟩
    · simp at h1
    · exact ⟨r, x, by simp⟩
  refine At.open_row 0 rfl (by simp) fun g cp' rest e hl1 hl2 hcap hmax => ?_
  cases e
  have hsp : (w0 ++ [n]).flatMap zc ++ rest = w0.flatMap zc ++ (.int .i64 n :: rest) := by simp [zc]
  rw [hsp] at hl2 ⊢
  have hg : (w0.flatMap zc ++ (Value.int .i64 n :: rest))[0 + w0.length * 1]? = some (.int .i64 n) := by
    rw [flat_zc]; simp
  have hll : (w0 ++ [n]).length = w0.length + 1 := by simp
  refine goK _ ?_
  refine Ops.respell (t := 21) (v' := .int .i64 (w0.length : Int)) rfl (by congr 1; omega) ?_
  repeat (first | refine Ops.val rfl rfl rfl (V.indexAddr (i := w0.length) rfl rfl rfl rfl (by simp)) ?_ | refine Ops.val rfl rfl rfl (V.loadO 0 rfl rfl rfl hg) ?_ | refine goS _ ?_)
  refine Ops.respell (t := 27) (v' := .int .i64 (w0.length : Int)) rfl (by congr 1; omega) ?_
  refine Ops.val rfl rfl rfl (V.slice_to (r := w0.length) rfl rfl rfl rfl (by omega)) ?_
  refine Ops.val rfl rfl rfl (Val.assign rfl) ?_
  refine Ops.nil ?_
  refine At.close_row (N := w0.length) (xs := w0.flatMap zc) (rest := .int .i64 n :: rest) (cp := wcp) (e := 3) (size := 1) (g := g) 0 rfl (by rw [flat_zc]; simp) hl2 (by omega) hmax ?_
  repeat (first | refine Ops.val rfl rfl rfl (V.lookup (κ := key) (m := U) 2 key3 rfl rfl rfl rfl rfl) ?_ | refine goS _ ?_)
  obtain ⟨ua, ucp, eu⟩ := (hU n).form
  refine Ops.respell (t := 31) rfl eu ?_
  have hfn := hU n
  rw [eu] at hfn
  have hnm : n ∈ met := hI.low n (by simp)
  refine goK _ ?_
  refine At.loop4 (fun (j : Nat) (_ : List Int) (_ : List Int) (v : Value) => [(0, .map (some bu)), (5, .map (some bm)), (6, v), (31, .slice ua (f n).length ucp), (32, .int .i64 ((f n).length : Int)), (33, .int .i64 (j : Int))])
    (fun (j : Nat) (met' : List Int) (work' : List Int) (v : Value) w => (j ≤ (f n).length ∧ Ox.ClI f W n0 met' work' ∧ n ∈ met' ∧ (∀ k ∈ met', k ∉ work' → k ≠ n → ∀ p ∈ f k, p ∈ met') ∧ (∀ p ∈ (f n).take j, p ∈ met') ∧ 2 * (W.length + 1 - met'.length) + work'.length ≤ 2 * (W.length + 1 - met.length) + w0.length) ∧
      Mem c [row 3 1 v work'.length (work'.flatMap zc), mapI key bm (Ox.onesZ met'), mapI key bu U] h w) (fun (j : Nat) (_ : List Int) (_ : List Int) (_ : Value) => (f n).length - j)
    0 met w0 (.slice (some ⟨g, 0, none⟩) w0.length wcp) ⟨rfl, rfl, rfl, rfl, rfl, rfl, trivial⟩ (fun w hw => ⟨⟨Nat.zero_le _, ⟨hI.nodup, hI.reach, hI.first, fun k hk => hI.low k (by simp [hk]), hI.few⟩, hnm, fun k hk h1 h2 => hC k hk (by simp [h1, h2]), by simp, Nat.le_refl _⟩, hw⟩) (fun j met' work' v => At.pure (fun hq => ?_))
  obtain ⟨hj, hI', hn', hC', hD, hM'⟩ := hq
  have hfl := hf n
  refine goK _ ?_
  refine At.condP rfl (fun h2 => ?_) (fun h2 => ?_)
  rotate_left
  · obtain rfl : j = (f n).length := by omega
    rw [List.take_length] at hD
    refine goK _ ?_
    refine At.back3 met' work' v (by rw [hll]; omega) (by exact ⟨rfl, rfl, rfl, trivial⟩) (fun w hw => ⟨⟨hI', fun k hk hw => ?_, by rw [hll] at hM; omega⟩, hw⟩)
    by_cases hkn : k = n
    · subst hkn; exact hD
    · exact hC' k hk hw hkn
  have hjl : j < (f n).length := by omega
  have hpf : (f n)[j] ∈ f n := by simp
  obtain ⟨bp, op, rfl, _, _, hpc⟩ := RowH.elem zc_length hfn (i := j) (x := (f n)[j]) (by simp [hjl])
  have htk : (f n).take (j + 1) = (f n).take j ++ [(f n)[j]] := by rw [List.take_succ_eq_append_getElem hjl]
  generalize (f n)[j] = p at *
  have hcc := Ox.mget_onesZ met' p
  by_cases hpm : p ∈ met'
  · rw [if_pos hpm] at hcc
    repeat (first | refine Ops.val rfl rfl rfl (V.loadH rfl rfl (hpc 0 _ rfl)) ?_ | refine Ops.val rfl rfl rfl (V.lookup (κ := key) (m := Ox.onesZ met') 1 key3 rfl rfl rfl rfl rfl) ?_ | refine goS _ ?_)
    refine Ops.respell (t := 39) rfl hcc ?_
    refine goK _ ?_
    refine At.back4 (j + 1) met' work' v (by omega) (by exact ⟨rfl, rfl, rfl, rfl, rfl, rfl, trivial⟩) (fun w hw => ⟨⟨hjl, hI', hn', hC', fun q hq => ?_, hM'⟩, hw⟩)
    rw [htk] at hq
    rcases List.mem_append.1 hq with h3 | h3
    · exact hD q h3
    · simp at h3; subst h3; exact hpm
  · rw [if_neg hpm] at hcc
    repeat (first | refine Ops.val rfl rfl rfl (V.loadH rfl rfl (hpc 0 _ rfl)) ?_ | refine Ops.val rfl rfl rfl (V.lookup (κ := key) (m := Ox.onesZ met') 1 key3 rfl rfl rfl rfl rfl) ?_ | refine goS _ ?_)
    refine Ops.respell (t := 39) rfl hcc ?_
    repeat (first | refine Ops.val rfl rfl rfl (V.lookup (κ := key) (m := Ox.onesZ met') 1 key3 rfl rfl rfl rfl rfl) ?_ | refine goS _ ?_)
    refine Ops.respell (t := 43) rfl hcc ?_
    refine goK _ ?_
    refine Ops.respell (t := 44) (v' := .int .i64 1) rfl rfl ?_
    refine goK _ ?_
    refine Ops.eff0 rfl rfl (E.mapUpdate 1 key3 rfl rfl rfl rfl rfl) fun _ => ?_
    have hms := Ox.mset_onesZ hpm
    refine goK _ ?_
    refine Ops.eff rfl rfl rfl (E.buildSlice1 rfl rfl rfl rfl) fun _ => Ops.ex fun _ => Ops.pure ?_
    rintro rfl
    refine Ops.eff rfl rfl rfl (E.append1s 0 rfl rfl rfl rfl rfl rfl (by omega) (by omega)) fun _ => Ops.ex fun g2 => Ops.ex fun cp2 => Ops.pure ?_
    rintro rfl
    refine goK _ ?_
    have hI2 := hI'.put hV hn' hpf hpm
    have hfew := hI2.few
    rw [List.length_append, List.length_singleton] at hfew
    refine At.back4 (j + 1) (met' ++ [p]) (work' ++ [p]) _ (by omega) (by exact ⟨rfl, rfl, rfl, rfl, rfl, rfl, trivial⟩) (fun w hw => ⟨⟨hjl, hI2, by simp [hn'], fun k hk h3 h4 q hq => ?_, fun q hq => ?_, by simp only [List.length_append, List.length_singleton]; omega⟩, ?_⟩)
    · simp only [List.mem_append, List.mem_singleton, not_or] at hk h3 ⊢
      exact .inl (hC' k (hk.resolve_right h3.2) h3.1 h4 q hq)
    · rw [htk] at hq
      simp only [List.mem_append, List.mem_singleton] at hq ⊢
      exact hq.imp_left (hD q)
    · have e1 : (work' ++ [p]).flatMap zc = work'.flatMap zc ++ [.int .i64 p] := by simp [zc]
      rw [← hms, e1, List.length_append]
      exact hw
end Go.Proofs.YthjgbmbaabpgmaaGreat
