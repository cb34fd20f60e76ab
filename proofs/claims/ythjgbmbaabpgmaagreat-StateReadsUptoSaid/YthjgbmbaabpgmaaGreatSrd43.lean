/-
  The machine: a merge.
-/
import Derived.Test.YthjgbmbaabpgmaaGreatSrd05
import Derived.Test.YthjgbmbaabpgmaaGreatSrd40
import Derived.Test.YthjgbmbaabpgmaaGreatSrd39
set_option linter.unusedVariables false
set_option linter.unusedSimpArgs false
set_option linter.unusedSectionVars false
namespace Go.Proofs.YthjgbmbaabpgmaaGreat
open Go.Sy
set_option maxRecDepth 4000
set_option maxHeartbeats 4000000
namespace Ox
theorem mergeX_nil {s : St} {x y : Int} (h : y ∉ ancs s.lnk x) (hc : commL s.lnk x y = []) : mergeX s x y = 140 := by
  unfold mergeX; rw [if_neg h, hc]
theorem mergeX_one {s : St} {x y c : Int} (h : y ∉ ancs s.lnk x) (hc : commL s.lnk x y = [c]) : mergeX s x y = if docsE (s.doc c) (s.doc x) (s.doc y) x y ≠ 0 then 198 else if 300 < s.nc then 193 else 0 := by
  unfold mergeX; rw [if_neg h, hc]
theorem mergeX_many {s : St} {x y k1 k2 : Int} {r : List Int} (h : y ∉ ancs s.lnk x) (hc : commL s.lnk x y = k1 :: k2 :: r) : mergeX s x y = 142 := by
  unfold mergeX; rw [if_neg h, hc]
end Ox
attribute [local irreducible] At Ops Val Eff Does Res Dr

theorem IndexZ_does (v : Value) (l : List Int) (n : Int) (hl : l.length ≤ 1000000000) (h : HV) (hv : ZsH h v l) : Does Tryz.prog 161 #[v, .int .i64 n] [] h (Just h (· = .int .i64 (ixOf (fun x => decide (n = x)) l))) := by
  obtain ⟨a, cp, rfl⟩ := hv.form
  refine Does.of Tryz.func161 rfl Tryz.ntmps161 rfl fun c hc0 => ?_
  refine goK _ ?_
  refine At.loop1 (fun (i : Nat) => [(0, .slice a l.length cp), (1, .int .i64 n), (7, .int .i64 (l.length : Int)), (8, .int .i64 (i : Int))])
    (fun (i : Nat) w => (i ≤ l.length ∧ ∀ p ∈ l.take i, decide (n = p) = false) ∧ Mem c [] h w) (fun (i : Nat) => l.length - i)
    0 ⟨rfl, rfl, rfl, rfl, trivial⟩ (fun w hw => ⟨⟨Nat.zero_le _, by simp⟩, hw⟩) (fun i => At.pure (fun hq => ?_))
  obtain ⟨hi, hm⟩ := hq
  refine goK _ ?_
  refine At.condP rfl (fun h2 => ?_) (fun h2 => ?_)
  rotate_left
  · obtain rfl : i = l.length := by omega
    rw [List.take_length] at hm
    refine goK _ ?_
    exact At.ret1 Tryz.results161 (Res.tmp rfl) (List.Sublist.refl _) ⟨by rw [ixOf_none hm], rfl, hc0.symm ▸ rfl⟩
  have hlt : i < l.length := by omega
  obtain ⟨b0, o0, rfl, _, _, hc⟩ := RowH.elem zc_length hv (i := i) (x := l[i]) (by simp [hlt])
  have hts : l.take (i + 1) = l.take i ++ [l[i]] := by rw [List.take_succ_eq_append_getElem hlt]
  have hmem : l[i]? = some l[i] := by simp [hlt]
  generalize hx : l[i] = x at *
  repeat (first | refine Ops.val rfl rfl rfl (V.loadH rfl rfl (hc 0 (.int .i64 x) rfl)) ?_ | refine goS _ ?_)
  refine At.condP rfl (fun h3 => ?_) (fun h3 => ?_)
  · refine goK _ ?_
    exact At.ret1 Tryz.results161 (Res.tmp rfl) (List.Sublist.refl _) ⟨by rw [ixOf_at hmem (by simpa using h3) hm], rfl, hc0.symm ▸ rfl⟩
  refine goK _ ?_
  refine At.back (i + 1) (by show l.length - (i + 1) < l.length - i; omega) (by exact ⟨rfl, rfl, rfl, rfl, trivial⟩) (fun w hw => ⟨⟨hlt, fun p hp => ?_⟩, hw⟩)
  rw [hts] at hp
  rcases List.mem_append.1 hp with h4 | h4
  · exact hm p h4
  · simp at h4; subst h4; simpa using h3
theorem ixOf_mem {l : List Int} {n : Int} : 0 ≤ ixOf (fun x => decide (n = x)) l ↔ n ∈ l := by
  unfold ixOf
  cases hf : l.findIdx? fun x => decide (n = x) with
  | none =>
    have := List.findIdx?_eq_none_iff.1 hf
    simp only
    refine ⟨fun h => by omega, fun h => ?_⟩
    have := this n h
    simp at this
  | some i =>
    obtain ⟨h1, h2, _⟩ := List.findIdx?_eq_some_iff_getElem.1 hf
    refine ⟨fun _ => ?_, fun _ => by simp⟩
    have : n = l[i] := by simpa using h2
    rw [this]; exact List.getElem_mem h1
theorem ContainsZ_does (v : Value) (l : List Int) (n : Int) (hl : l.length ≤ 1000000000) (h : HV) (hv : ZsH h v l) : Does Tryz.prog 131 #[v, .int .i64 n] [] h (Just h (· = .bool (decide (n ∈ l)))) := by
  have hm := ixOf_mem (l := l) (n := n)
  refine Does.of Tryz.func131 rfl Tryz.ntmps131 rfl fun c hc0 => ?_
  refine goK _ ?_
  refine Ops.eff rfl rfl rfl (Eff.call (fn (by kernel_rfl)) rfl (Ωc := []) rfl (IndexZ_does v l n hl h hv)) fun _ => Ops.ex fun _ => Ops.ex fun _ => Ops.pure ?_
  rintro ⟨rfl, rfl, rfl⟩
  refine goK _ ?_
  exact At.ret1 Tryz.results131 (Res.tmp rfl) (List.Sublist.refl _) ⟨congrArg Value.bool (decide_eq_decide.2 hm), rfl, hc0.symm ▸ rfl⟩

theorem DeltaF_does (ux uy : Value) (x y : List Ox.Atom) (hx : Ox.DocB x) (hy : Ox.DocB y) (h : HV) (hv1 : AtsH h ux x) (hv2 : AtsH h uy y) :
    Does Tryz.prog 134 #[ux, uy] [] h (fun r Ω' h' => Ω' = [] ∧ HV.le h h' ∧ ∃ u e, r = .tuple #[u, .int .i64 e] ∧ OpsH h' u (Ox.deltaOf x y)) := by
  have s1 := hx.short; have s2 := hy.short
  refine (Delta_does ux uy x y (fun a ha => Nat.le_trans (s1.1 a ha) (by omega)) (Nat.le_trans s1.2.1 (by omega)) (fun a ha => Nat.le_trans (s2.1 a ha) (by omega)) (Nat.le_trans s2.2.1 (by omega)) h hv1 hv2).mono fun r Ω' h' ⟨h1, h2, h3⟩ => ⟨h1, h2, ?_⟩
  unfold Ox.deltaOf
  rcases h3 with ⟨h4, rfl⟩ | ⟨h4, h5, h6, rfl⟩ | ⟨h4, h5, h6, ⟨ds, u, h7, h8, rfl, h9⟩ | ⟨h7, rfl⟩⟩
  · rw [if_neg fun hh => h4 ⟨hh.1, hh.2.1⟩]; exact ⟨_, _, rfl, SlH.nil _ _⟩
  · rw [if_neg fun hh => h6 hh.2.2.1]; exact ⟨_, _, rfl, SlH.nil _ _⟩
  · rw [if_pos ⟨h4, h5, h6, h7⟩, h8]; exact ⟨_, _, rfl, h9⟩
  · rw [if_neg fun hh => h7 hh.2.2.2]; exact ⟨_, _, rfl, SlH.nil _ _⟩

section
variable (m dm : Nat) (s : Ox.St) (csv bsv ksv : Value) (zs : List CmV) (ys : List BrV) (N : Nat) (inv : Ox.Inv N s) (h : HV) (i : Nat) (b : Ox.Br) (lv : Value) (ok : MOk h s zs ys (some i)) (hyi : ys[i]? = some ⟨b, lv⟩) (bb : Nat) (hbf : BsForm bb ys bsv)
include inv ok hyi hbf
/-- the tip of any branch -/
theorem mtipA_does (j : Nat) (o : Ox.Br) (ho : s.bs[j]? = some o) :
    Does Tryz.prog 111 #[.pointer (some ⟨bb, 0 + j * 3, none⟩)] (RX csv bsv ksv zs ys s.ks [lgI lv b.log]) h (fun r Ω' h' => r = .int .i64 (Ox.lastZ o.log) ∧ Ω' = RX csv bsv ksv zs ys s.ks [lgI lv b.log] ∧ h = h') := by
  by_cases hij : j = i
  · subst hij
    have hob : o = b := by
      rw [← ok.bs, List.getElem?_map, hyi] at ho
      exact (Option.some.inj ho).symm
    subst hob
    exact mtipO_does s csv bsv ksv zs ys (some j) N inv h ok bb hbf j o lv hyi
  · exact mtip_does s csv bsv ksv zs ys [lgI lv b.log] (some i) N inv h ok bb hbf j o ho (fun e => hij (Option.some.inj e).symm)
end
section
variable (m dm : Nat) (s : Ox.St) (csv bsv ksv : Value) (zs : List CmV) (ys : List BrV) (N : Nat) (inv : Ox.Inv N s) (h : HV) (i : Nat) (b : Ox.Br) (lv : Value) (ok : MOk h s zs ys (some i)) (hyi : ys[i]? = some ⟨b, lv⟩) (q : Ox.Rq) (qv dv : Value) (hq : RqH h qv q dv) (ha : Ox.BrAt s.bs (·.name = q.name) i b)
include inv ok hq ha hyi
theorem hmerge_does : Does Tryz.prog 81 #[.pointer (some ⟨m, 0, none⟩), qv] (MS m dm s csv bsv ksv [] zs ys [lgI lv b.log]) h (HdPost m dm s q 5 (some i) h) := by
  refine MX.reads fun _ _ _ hbb => ?_
  obtain ⟨bb, hbf⟩ := hbb
  have hbr := mbranch_does m dm s csv bsv ksv [] zs ys [lgI lv b.log] (some i) N inv h ok bb hbf q.name i b ha
  have hbn := mbranch_none m dm s csv bsv ksv [] zs ys [lgI lv b.log] (some i) N inv h ok bb hbf q.other
  have hbo := mbranch_does m dm s csv bsv ksv [] zs ys [lgI lv b.log] (some i) N inv h ok bb hbf q.other
  have hfl := fun M h' => mfull_does m dm s csv bsv ksv M zs ys [lgI lv b.log] h'
  have htp := mtipA_does s csv bsv ksv zs ys N inv h i b lv ok hyi bb hbf
  have hlk := fun h' (hle : HV.le h h') => mlinks_does m dm s csv bsv ksv [] zs ys [lgI lv b.log] (some i) N inv h' (ok.mono hle)
  have hdc := fun M n hn h' (hle : HV.le h h') => mdoc_does m dm s csv bsv ksv M zs ys [lgI lv b.log] (some i) N inv h' (ok.mono hle) n hn
  have hadd := fun M h' (hle : HV.le h h') => mAdd_does m dm s csv bsv ksv M zs ys N inv h' i b lv (ok.mono hle) hyi bb hbf
  have hdag := inv.cs.dag
  have hbti := inv.tip (BrAt.mem ha)
  obtain ⟨da, dcp, e⟩ := hq.d.form
  have hqv := hq.val
  have hqo := hq.other
  subst e; subst hqv
  refine Does.of Tryz.func81 rfl Tryz.ntmps81 rfl fun c hc0 => ?_
  refine goK _ ?_
  refine Ops.eff rfl rfl rfl (Eff.box rfl) fun _ => Ops.ex fun b3 => Ops.pure ?_
  rintro rfl
  refine Ops.eff rfl rfl rfl (E.alloc rfl) fun _ => Ops.ex fun b4 => Ops.pure ?_
  rintro rfl
  refine goK _ ?_
  refine Ops.eff rfl rfl rfl (Eff.callAt 0 (fn (by kernel_rfl)) rfl (Ωc := []) rfl (isName_does q.other hqo h)) fun _ => Ops.ex fun _ => Ops.ex fun _ => Ops.pure ?_
  rintro ⟨rfl, rfl, rfl⟩
  refine Ops.val rfl rfl rfl (Val.not rfl) ?_
  refine goK _ ?_
  refine At.cond rfl (fun h1 => ?_) (fun h1 => ?_)
  · refine goK _ ?_
    refine Ops.eff0 rfl rfl (E.store 0 rfl rfl rfl rfl rfl rfl rfl) fun _ => ?_
    refine goK _ ?_
    exact At.ret2 Tryz.results81 (Res.cellA (j := 0) (cs := z34) (ly rfl) rfl rfl rfl) (Res.tmp rfl) (List.nil_sublist _) (HdPost.bad (hc0.symm ▸ HV.le.refl _) (by decide) (.mergeN (by simpa using h1)))
  have hnm : Ox.isName q.other = true := by simpa using h1
  refine goK _ ?_
  first | refine At.drawn mo (fun _ _ m => m.drew _) ?_ | refine At.seq (At.drawn mo (fun _ _ m => m.drew _) ?_)
  refine Dr.val 0 rfl rfl rfl rfl (by kernel_rfl) rfl (Val.move rfl) ?_
  refine Dr.val 1 rfl rfl rfl rfl (by kernel_rfl) rfl (V.fieldAddr rfl rfl) ?_
  refine Dr.valS 2 _ rfl rfl rfl rfl (by kernel_rfl) rfl (V.load rfl rfl (fun _ hh => hh)) (fun w hw => hw.cell (n := 1) rfl rfl) ?_
  refine Dr.val 4 rfl rfl rfl rfl (by kernel_rfl) rfl (Val.move rfl) ?_
  refine Dr.val 5 rfl rfl rfl rfl (by kernel_rfl) rfl (V.fieldAddr rfl rfl) ?_
  refine Dr.valS 6 _ rfl rfl rfl rfl (by kernel_rfl) rfl (V.load rfl rfl (fun _ hh => hh)) (fun w hw => hw.cell (n := 1) rfl rfl) ?_
  refine Dr.next (e := 3) rfl rfl (by kernel_rfl) rfl (by kernel_rfl) (by kernel_rfl) rfl rfl (Eff.callP 2 (fn (by kernel_rfl)) rfl (Ωc := MS m dm s csv bsv ksv [] zs ys [lgI lv b.log]) (Ωr := []) (by simp) hbr) aokK fun _ => Dr.pure ?_
  rintro rfl
  by_cases hno : Ox.named s q.other
  rotate_left
  · refine Dr.next (e := 7) rfl rfl (by kernel_rfl) rfl (by kernel_rfl) (by kernel_rfl) rfl rfl (Eff.callP 2 (fn (by kernel_rfl)) rfl (Ωc := MS m dm s csv bsv ksv [] zs ys [lgI lv b.log]) (Ωr := []) (by simp) (hbn hno)) aokK fun _ => Dr.pure ?_
    rintro rfl
    refine Dr.val 8 rfl rfl rfl rfl (by kernel_rfl) rfl (Val.assign rfl) ?_
    refine Dr.val 9 rfl rfl rfl rfl (by kernel_rfl) rfl (Val.assign rfl) ?_
    refine Dr.done (by kernel_rfl) (by kernel_rfl) ?_
    repeat (first | refine Ops.val rfl rfl rfl (Val.eqlPtr Tryz.underlying96 rfl) ?_ | refine goS _ ?_)
    refine Ops.eff0 rfl rfl (E.store 0 rfl rfl rfl rfl rfl rfl rfl) fun _ => ?_
    refine goK _ ?_
    exact At.ret2 Tryz.results81 (Res.cellA (j := 0) (cs := z34) (ly rfl) rfl rfl rfl) (Res.tmp rfl) (List.nil_sublist _) (HdPost.bad (hc0.symm ▸ HV.le.refl _) (by decide) (.mergeO hnm hno))
  obtain ⟨j, o, hao⟩ := Ox.BrAt.ex hno
  have hoti := inv.tip (BrAt.mem hao)
  refine Dr.next (e := 7) rfl rfl (by kernel_rfl) rfl (by kernel_rfl) (by kernel_rfl) rfl rfl (Eff.callP 2 (fn (by kernel_rfl)) rfl (Ωc := MS m dm s csv bsv ksv [] zs ys [lgI lv b.log]) (Ωr := []) (by simp) (hbo j o hao)) aokK fun _ => Dr.pure ?_
  rintro rfl
  refine Dr.val 8 rfl rfl rfl rfl (by kernel_rfl) rfl (Val.assign rfl) ?_
  refine Dr.val 9 rfl rfl rfl rfl (by kernel_rfl) rfl (Val.assign rfl) ?_
  refine Dr.done (by kernel_rfl) (by kernel_rfl) ?_
  repeat (first | refine Ops.val rfl rfl rfl (Val.eqlPtr Tryz.underlying96 rfl) ?_ | refine goS _ ?_)
  refine Ops.eff rfl rfl rfl (Eff.callP 4 (fn (by kernel_rfl)) rfl (Ωc := RX csv bsv ksv zs ys s.ks [lgI lv b.log]) (Ωr := []) (by simp) (htp i b ha.get)) fun _ => Ops.pure ?_
  rintro rfl
  refine Ops.val rfl rfl rfl (Val.move rfl) ?_
  refine Ops.eff rfl rfl rfl (Eff.callP 4 (fn (by kernel_rfl)) rfl (Ωc := RX csv bsv ksv zs ys s.ks [lgI lv b.log]) (Ωr := []) (by simp) (htp j o hao.get)) fun _ => Ops.pure ?_
  rintro rfl
  generalize hxe : Ox.lastZ b.log = x at *
  generalize hye : Ox.lastZ o.log = y at *
  have hxm : x ∈ (Ox.linksC s.cs).map Ox.Lnk.num := by rw [Ox.linksC_num]; exact hbti
  have hym : y ∈ (Ox.linksC s.cs).map Ox.Lnk.num := by rw [Ox.linksC_num]; exact hoti
  have hth1 : Ox.thereE (Ox.linksC s.cs) [x] = 0 := by
    rw [Ox.thereE, if_pos hdag, if_pos]
    intro k hk
    simp only [List.mem_singleton] at hk
    subst hk; exact hxm
  have hth2 : Ox.thereE (Ox.linksC s.cs) [x, y] = 0 := by
    rw [Ox.thereE, if_pos hdag, if_pos]
    intro k hk
    simp only [List.mem_cons, List.not_mem_nil, or_false] at hk
    rcases hk with rfl | rfl
    · exact hxm
    · exact hym
  refine goK _ ?_
  refine Ops.eff rfl rfl rfl (Eff.callAt 2 (fn (by kernel_rfl)) rfl (Ωc := MS m dm s csv bsv ksv [] zs ys [lgI lv b.log]) rfl (hlk h (HV.le.refl _))) fun _ => Ops.ex fun _ => Ops.ex fun _ => Ops.pure ?_
  rintro ⟨rfl, rfl⟩
  rename_i lu
  refine opsPublish 0 rfl fun h2 hle2 hsl => ?_
  have hL : LinksH h2 lu (Ox.linksC s.cs) := by
    have h9 := LinksOf (h := h2) hsl (fun z hz => (ok.cok z hz).mono hle2)
    rw [links_map, ok.cs] at h9; exact h9
  refine Ops.val rfl rfl rfl (Val.move rfl) ?_
  refine Ops.eff rfl rfl rfl (Eff.call (fn (by kernel_rfl)) rfl (Ωc := []) rfl (Above_does lu (Ox.linksC s.cs) x h2 hL (by have := hdag.1; omega) (fun z hz => by have := (hdag.each z hz).2.1; omega))) fun _ => Ops.ex fun _ => Ops.ex fun h3 => Ops.pure ?_
  rintro (⟨hx0, _⟩ | ⟨_, u, sx, rfl, rfl, rfl, hA⟩)
  · exact absurd hth1 hx0
  refine Ops.val rfl rfl rfl (Val.move rfl) ?_
  refine Ops.val rfl rfl rfl (Val.extract rfl rfl) ?_
  refine Ops.val rfl rfl rfl (Val.extract rfl rfl) ?_
  refine Ops.val rfl rfl rfl (Val.assign rfl) ?_
  refine Ops.val rfl rfl rfl (Val.assign rfl) ?_
  refine Ops.nil ?_
  refine At.publish_row 0 rfl fun h4 hle4 hs4 => ?_
  obtain ⟨ua, ucp, rfl⟩ := SlH.form hs4
  have hsx : sx = Ox.ancs s.lnk x := hA.eq.symm
  have hsn : ∀ k ∈ sx, k ∈ (Ox.linksC s.cs).map Ox.Lnk.num := fun k hk => hdag.reach hxm k ((hA.mem k).1 hk)
  have hsf : sx.length ≤ 300 := by
    have h7 := Ox.nodup_le (hA.sorted.imp fun {a b} hab => by omega) hsn
    rw [List.length_map] at h7
    have := hdag.1; omega
  have hle := hle2.trans hle4
  refine goK _ ?_
  refine Ops.eff rfl rfl rfl (Eff.callAt 0 (fn (by kernel_rfl)) rfl (Ωc := []) rfl (ContainsZ_does _ sx y (by omega) h4 hs4)) fun _ => Ops.ex fun _ => Ops.ex fun _ => Ops.pure ?_
  rintro ⟨rfl, rfl, rfl⟩
  refine Ops.nil ?_
  refine At.condP rfl (fun h5 => ?_) (fun h5 => ?_)
  · refine goK _ ?_
    refine Ops.eff0 rfl rfl (E.store 6 rfl rfl rfl rfl rfl rfl rfl) fun _ => ?_
    refine goK _ ?_
    subst hxe; subst hye
    exact At.ret2 Tryz.results81 (Res.cellA (j := 6) (cs := [.int .i64 0, .int .i64 (Ox.lastZ b.log), str [], .slice none 0 0, .slice none 0 0]) (ly rfl) rfl rfl rfl) (Res.tmp rfl) (List.sublist_append_left _ _)
      ⟨hc0.symm ▸ hle, 0, _, _, _, .merge0 i j b o hnm ha hao (by rw [← hsx]; exact h5), rfl, RpH.plain _ _ _ _, fun _ => ⟨csv, bsv, ksv, [], zs, ys, ok.mono hle, by rw [lgs_own hyi]⟩⟩
  refine goK _ ?_
  refine Ops.eff rfl rfl rfl (Eff.callAt 0 (fn (by kernel_rfl)) rfl (Ωc := MS m dm s csv bsv ksv [] zs ys [lgI lv b.log]) rfl (hlk h4 hle)) fun _ => Ops.ex fun _ => Ops.ex fun _ => Ops.pure ?_
  rintro ⟨rfl, rfl⟩
  rename_i lu2
  refine opsPublish 0 rfl fun h5' hle5 hsl5 => ?_
  have hL5 : LinksH h5' lu2 (Ox.linksC s.cs) := by
    have h9 := LinksOf (h := h5') hsl5 (fun z hz => (ok.cok z hz).mono (hle.trans hle5))
    rw [links_map, ok.cs] at h9; exact h9
  refine Ops.val rfl rfl rfl (Val.move rfl) ?_
  refine Ops.val rfl rfl rfl (Val.move rfl) ?_
  refine Ops.eff rfl rfl rfl (Eff.call (fn (by kernel_rfl)) rfl (Ωc := []) rfl (Common_does lu2 (Ox.linksC s.cs) x y h5' hL5 (by have := hdag.1; omega) (fun z hz => by have := (hdag.each z hz).2.1; omega))) fun _ => Ops.ex fun _ => Ops.ex fun h6 => Ops.pure ?_
  rintro ⟨hle6, (⟨hx0, _⟩ | ⟨_, u, sx', sy', rfl, hax, hby, rfl⟩)⟩
  · exact absurd hth2 hx0
  rw [show Ox.commons (Ox.linksC s.cs) sx' sy' = Ox.commL (Ox.linksC s.cs) x y from by rw [Ox.commL, hax.eq, hby.eq]]
  have hcmm := Ox.commL_mem (b := y) hdag hxm
  generalize hcm : Ox.commL (Ox.linksC s.cs) x y = cm at *
  refine Ops.val rfl rfl rfl (Val.move rfl) ?_
  refine Ops.val rfl rfl rfl (Val.extract rfl rfl) ?_
  refine Ops.val rfl rfl rfl (Val.extract rfl rfl) ?_
  refine Ops.val rfl rfl rfl (Val.assign rfl) ?_
  refine Ops.val rfl rfl rfl (Val.assign rfl) ?_
  refine Ops.nil ?_
  refine At.publish_row 0 rfl fun h7 hle7 hs7 => ?_
  obtain ⟨ca, ccp, rfl⟩ := SlH.form hs7
  have hle' := ((hle.trans hle5).trans hle6).trans hle7
  have hnx : y ∉ Ox.ancs s.lnk x := by rw [← hsx]; exact h5
  rcases cm with _ | ⟨k, _ | ⟨k2, kr⟩⟩
  · have hMX := Ox.mergeX_nil hnx hcm
    refine goK _ ?_
    refine Ops.eff0 rfl rfl (E.store 6 rfl rfl rfl rfl rfl rfl rfl) fun _ => ?_
    refine goK _ ?_
    subst hxe; subst hye
    exact At.ret2 Tryz.results81 (Res.cellA (j := 6) (cs := z34) (ly rfl) rfl rfl rfl) (Res.tmp rfl) (List.nil_sublist _) (HdPost.bad (hc0.symm ▸ hle') (by decide) (by rw [← hMX]; exact .mergeE i j b o hnm ha hao (by rw [hMX]; decide)))
  rotate_left
  · have hMX := Ox.mergeX_many hnx hcm
    refine goK _ ?_
    refine Ops.eff0 rfl rfl (E.store 6 rfl rfl rfl rfl rfl rfl rfl) fun _ => ?_
    refine goK _ ?_
    subst hxe; subst hye
    exact At.ret2 Tryz.results81 (Res.cellA (j := 6) (cs := z34) (ly rfl) rfl rfl rfl) (Res.tmp rfl) (List.nil_sublist _) (HdPost.bad (hc0.symm ▸ hle') (by decide) (by rw [← hMX]; exact .mergeE i j b o hnm ha hao (by rw [hMX]; decide)))
  have hMX := Ox.mergeX_one hnx hcm
  have hkm : k ∈ s.cs.map Ox.Cm.num := by rw [← Ox.linksC_num]; exact hcmm k (by simp)
  obtain ⟨b7, o7, rfl, _, _, hc7⟩ := RowH.elem zc_length (show ZsH h7 _ [k] from hs7) (i := 0) (x := k) rfl
  repeat (first | refine Ops.val rfl rfl rfl (V.indexAddr (i := 0) rfl rfl rfl rfl (by simp)) ?_ | refine goS _ ?_)
  refine Ops.val rfl rfl rfl (V.loadH rfl rfl (hc7 0 (.int .i64 k) rfl)) ?_
  refine Ops.eff rfl rfl rfl (Eff.callAt 0 (fn (by kernel_rfl)) rfl (Ωc := MS m dm s csv bsv ksv [] zs ys [lgI lv b.log]) rfl (hdc [] k hkm h7 hle' (DocMap.nil _ _))) fun _ => Ops.ex fun _ => Ops.ex fun _ => Ops.pure ?_
  rintro ⟨hle8, M8, rfl, hr8, hD8⟩
  rename_i v8 h8
  refine Ops.val rfl rfl rfl (Val.move rfl) ?_
  refine Ops.val rfl rfl rfl (Val.move rfl) ?_
  refine Ops.eff rfl rfl rfl (Eff.callAt 0 (fn (by kernel_rfl)) rfl (Ωc := MS m dm s csv bsv ksv M8 zs ys [lgI lv b.log]) rfl (hdc M8 x hbti h8 (hle'.trans hle8) hD8)) fun _ => Ops.ex fun _ => Ops.ex fun _ => Ops.pure ?_
  rintro ⟨hle9, M9, rfl, hr9, hD9⟩
  rename_i v9 h9
  refine Ops.val rfl rfl rfl (Val.move rfl) ?_
  refine Ops.val rfl rfl rfl (Val.move rfl) ?_
  refine Ops.eff rfl rfl rfl (Eff.callAt 0 (fn (by kernel_rfl)) rfl (Ωc := MS m dm s csv bsv ksv M9 zs ys [lgI lv b.log]) rfl (hdc M9 y hoti h9 ((hle'.trans hle8).trans hle9) hD9)) fun _ => Ops.ex fun _ => Ops.ex fun _ => Ops.pure ?_
  rintro ⟨hle10, M10, rfl, hr10, hD10⟩
  rename_i v10 h10
  have hsk := (inv.cs.doc k).short; have hsx := (inv.cs.doc x).short; have hsy := (inv.cs.doc y).short
  have hr8' := (hr8.mono hle9).mono hle10
  have hr9' := hr9.mono hle10
  have hle'' := ((hle'.trans hle8).trans hle9).trans hle10
  refine Ops.val rfl rfl rfl (Val.move rfl) ?_
  refine Ops.val rfl rfl rfl (Val.move rfl) ?_
  refine Ops.eff rfl rfl rfl (Eff.callAt 0 (fn (by kernel_rfl)) rfl (Ωc := []) rfl (Docs_does v8 v9 v10 (s.doc k) (s.doc x) (s.doc y) x y (fun a ha => Nat.le_trans (hsk.1 a ha) (by omega)) (Nat.le_trans hsk.2.1 (by omega)) (fun a ha => Nat.le_trans (hsx.1 a ha) (by omega)) (Nat.le_trans hsx.2.1 (by omega)) (fun a ha => Nat.le_trans (hsy.1 a ha) (by omega)) (Nat.le_trans hsy.2.1 (by omega)) h10 hr8' hr9' hr10)) fun _ => Ops.ex fun _ => Ops.ex fun _ => Ops.pure ?_
  rintro ⟨hle11, hr11⟩
  rename_i v11 Ω11 h11
  rcases hr11 with ⟨hne, rfl, rfl⟩ | ⟨h0, u, rfl, rfl⟩
  · rw [if_pos hne] at hMX
    refine Ops.val rfl rfl rfl (Val.move rfl) ?_
    refine Ops.val rfl rfl rfl (Val.extract rfl rfl) ?_
    refine Ops.val rfl rfl rfl (Val.extract rfl rfl) ?_
    refine Ops.val rfl rfl rfl (Val.assign rfl) ?_
    refine Ops.val rfl rfl rfl (Val.assign rfl) ?_
    refine Ops.nil ?_
    refine goK _ ?_
    refine At.condN rfl (fun h2 => ?_) (fun h2 => absurd h2 hne)
    refine goK _ ?_
    refine Ops.eff0 rfl rfl (E.store 6 rfl rfl rfl rfl rfl rfl rfl) fun _ => ?_
    refine goK _ ?_
    subst hxe; subst hye
    exact At.ret2 Tryz.results81 (Res.cellA (j := 6) (cs := z34) (ly rfl) rfl rfl rfl) (Res.tmp rfl) (List.nil_sublist _) (HdPost.bad (hc0.symm ▸ hle''.trans hle11) (by decide) (by rw [← hMX]; exact .mergeE i j b o hnm ha hao (by rw [hMX]; decide)))
  rw [if_neg (by simp [h0])] at hMX
  refine Ops.val rfl rfl rfl (Val.move rfl) ?_
  refine Ops.val rfl rfl rfl (Val.extract rfl rfl) ?_
  refine Ops.val rfl rfl rfl (Val.extract rfl rfl) ?_
  refine Ops.val rfl rfl rfl (Val.assign rfl) ?_
  refine Ops.val rfl rfl rfl (Val.assign rfl) ?_
  refine Ops.nil ?_
  refine At.publish_row 0 rfl fun h12 hle12 hs12 => ?_
  have hmg : Ox.merged (s.doc k) (s.doc x) (s.doc y) x y = Ox.runsOf (Ox.mergePcs x y (Ox.flat (s.doc k)) (Ox.flat (s.doc x)) (Ox.flat (s.doc y))) := by rw [Ox.merged, if_pos h0]
  have hmB := Ox.DocB.merged (s.doc k) (s.doc x) (s.doc y) x y
  have hl12 : AtsH h12 u (Ox.merged (s.doc k) (s.doc x) (s.doc y) x y) := by rw [hmg]; exact hs12
  clear hs12
  generalize hml : Ox.merged (s.doc k) (s.doc x) (s.doc y) x y = ml at *
  obtain ⟨ua, ucp, rfl⟩ := hl12.form
  have hle12' := (hle''.trans hle11).trans hle12
  refine goK _ ?_
  refine Ops.eff rfl rfl rfl (Eff.callP 0 (fn (by kernel_rfl)) rfl (Ωc := MS m dm s csv bsv ksv M10 zs ys [lgI lv b.log]) rfl (hfl M10 h12)) fun _ => Ops.pure ?_
  rintro rfl
  refine goK _ ?_
  refine At.condP rfl (fun h4 => ?_) (fun h4 => ?_)
  · rw [if_pos h4] at hMX
    refine goK _ ?_
    refine Ops.eff0 rfl rfl (E.store 6 rfl rfl rfl rfl rfl rfl rfl) fun _ => ?_
    refine goK _ ?_
    subst hxe; subst hye
    exact At.ret2 Tryz.results81 (Res.cellA (j := 6) (cs := z34) (ly rfl) rfl rfl rfl) (Res.tmp rfl) (List.nil_sublist _) (HdPost.bad (hc0.symm ▸ hle12') (by decide) (by rw [← hMX]; exact .mergeE i j b o hnm ha hao (by rw [hMX]; decide)))
  rw [if_neg h4] at hMX
  refine goK _ ?_
  refine Ops.eff rfl rfl rfl (Eff.callAt 0 (fn (by kernel_rfl)) rfl (Ωc := MS m dm s csv bsv ksv M10 zs ys [lgI lv b.log]) rfl (hdc M10 x hbti h12 hle12' (hD10.mono (hle11.trans hle12)))) fun _ => Ops.ex fun _ => Ops.ex fun _ => Ops.pure ?_
  rintro ⟨hle13, M13, rfl, hr13, hD13⟩
  rename_i v13 h13
  refine Ops.val rfl rfl rfl (Val.move rfl) ?_
  refine Ops.eff rfl rfl rfl (Eff.callAt 0 (fn (by kernel_rfl)) rfl (Ωc := []) rfl (DeltaF_does v13 _ (s.doc x) ml (inv.cs.doc x) hmB h13 hr13 (hl12.mono hle13))) fun _ => Ops.ex fun _ => Ops.ex fun _ => Ops.pure ?_
  rintro ⟨rfl, hle14, u14, e14, rfl, ho14⟩
  rename_i h14
  refine Ops.val rfl rfl rfl (Val.move rfl) ?_
  refine Ops.val rfl rfl rfl (Val.extract rfl rfl) ?_
  refine Ops.val rfl rfl rfl (Val.extract rfl rfl) ?_
  refine Ops.val rfl rfl rfl (Val.assign rfl) ?_
  refine Ops.val rfl rfl rfl (Val.assign rfl) ?_
  refine Ops.nil ?_
  have hle14' := (hle12'.trans hle13).trans hle14
  refine goK _ ?_
  refine Ops.eff rfl rfl rfl (Eff.callAt 0 (fn (by kernel_rfl)) rfl (Ωc := MS m dm s csv bsv ksv M13 zs ys [lgI lv b.log]) rfl (hdc M13 y hoti h14 hle14' (hD13.mono hle14))) fun _ => Ops.ex fun _ => Ops.ex fun _ => Ops.pure ?_
  rintro ⟨hle15, M15, rfl, hr15, hD15⟩
  rename_i v15 h15
  refine Ops.val rfl rfl rfl (Val.move rfl) ?_
  refine Ops.eff rfl rfl rfl (Eff.callAt 0 (fn (by kernel_rfl)) rfl (Ωc := []) rfl (DeltaF_does v15 _ (s.doc y) ml (inv.cs.doc y) hmB h15 hr15 (((hl12.mono hle13).mono hle14).mono hle15))) fun _ => Ops.ex fun _ => Ops.ex fun _ => Ops.pure ?_
  rintro ⟨rfl, hle16, u16, e16, rfl, ho16⟩
  rename_i h16
  refine Ops.val rfl rfl rfl (Val.move rfl) ?_
  refine Ops.val rfl rfl rfl (Val.extract rfl rfl) ?_
  refine Ops.val rfl rfl rfl (Val.extract rfl rfl) ?_
  refine Ops.val rfl rfl rfl (Val.assign rfl) ?_
  refine Ops.val rfl rfl rfl (Val.assign rfl) ?_
  refine Ops.nil ?_
  have hle16' := (hle14'.trans hle15).trans hle16
  obtain ⟨a14, c14, rfl⟩ := ho14.form
  obtain ⟨a16, c16, rfl⟩ := ho16.form
  refine goK _ ?_
  refine Ops.eff rfl rfl rfl (E.buildSlice1R rfl rfl rfl rfl) fun _ => Ops.ex fun bw => Ops.pure ?_
  rintro rfl
  refine opsPublish 0 rfl fun h17 hle17 hs17 => ?_
  refine goK _ ?_
  refine Ops.eff rfl rfl rfl (Eff.callAt 0 (fn (by kernel_rfl)) rfl (Ωc := MS m dm s csv bsv ksv M15 zs ys [lgI lv b.log]) rfl (hadd M15 h17 (hle16'.trans hle17) [y] (Ox.deltaOf (s.doc x) ml) (Ox.deltaOf (s.doc y) ml) 0 0 (.slice (some ⟨bw, 0, none⟩) 1 1) (.slice a14 (Ox.deltaOf (s.doc x) ml).length c14) (.slice a16 (Ox.deltaOf (s.doc y) ml).length c16) (by simp) hs17 (((ho14.mono hle15).mono hle16).mono hle17) (ho16.mono hle17))) fun _ => Ops.ex fun _ => Ops.ex fun _ => Ops.pure ?_
  rintro ⟨hle18, rfl, csv', zs', ys', lv', ok', hyi', rfl⟩
  refine Ops.val rfl rfl rfl (V.build rfl rfl rfl) ?_
  refine Ops.eff0 rfl rfl (E.store 6 rfl rfl rfl rfl rfl rfl rfl) fun _ => ?_
  refine goK _ ?_
  subst hxe; subst hye; subst hml
  exact At.ret2 Tryz.results81 (Res.cellA (j := 6) (cs := [.int .i64 0, .int .i64 s.nc, str [], .slice none 0 0, .slice none 0 0]) (ly rfl) rfl rfl rfl) (Res.tmp rfl) (List.sublist_append_left _ _)
    ⟨hc0.symm ▸ (hle16'.trans hle17).trans hle18, 0, _, _, _, .merge i j b o k hnm ha hao hnx hMX hcm, rfl, RpH.plain _ _ _ _, fun _ => ⟨csv', bsv, ksv, M15, zs', ys', ok', by rw [lgs_own hyi']⟩⟩
end
end Go.Proofs.YthjgbmbaabpgmaaGreat
