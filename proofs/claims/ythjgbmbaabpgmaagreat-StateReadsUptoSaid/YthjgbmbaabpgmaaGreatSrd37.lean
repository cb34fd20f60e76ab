/-
  The machine: a state of its own.
-/
import Derived.Test.YthjgbmbaabpgmaaGreatSrd05
import Derived.Test.YthjgbmbaabpgmaaGreatSrd36
set_option linter.unusedVariables false
set_option linter.unusedSimpArgs false
set_option linter.unusedSectionVars false
namespace Go.Proofs.YthjgbmbaabpgmaaGreat
open Go.Sy
set_option maxRecDepth 4000
set_option maxHeartbeats 4000000
/-- the form of a row that a call hands back -/
theorem Does.rowForm {P : Program} {f : FuncId} {args : Array Value} {Ω : List Itm} {h : HV} {e m M : Nat} {xs : List Value} (hs : Does P f args Ω h fun r Ω' h' => Ω' = [row e m r M xs] ∧ h = h') :
    Does P f args Ω h fun r Ω' h' => (∃ a cp, r = .slice a M cp) ∧ Ω' = [row e m r M xs] ∧ h = h' := fun w0 hm => by
  refine (hs w0 hm).mono ?_
  rintro e' w' ⟨r, rfl, Ω', h', ⟨rfl, rfl⟩, hm'⟩
  refine ⟨r, rfl, _, _, ⟨?_, rfl, rfl⟩, hm'⟩
  have hr : w'.ownsRow 0 e m r M xs := hm'.own _ (List.mem_singleton_self _)
  rcases hr.2 with ⟨rfl, h0⟩ | ⟨g, cap, cur, rfl, _⟩
  · exact ⟨none, 0, by rw [h0]⟩
  · exact ⟨_, _, rfl⟩
/-- the logs that stay: all but one -/
def LogsOk (h : HV) (ys : List BrV) (t : Option Nat) : Prop := ∀ k y, ys[k]? = some y → t ≠ some k → ZsH h y.lv y.b.log
theorem LogsOk.mono {h h' : HV} {ys : List BrV} {t : Option Nat} (r : LogsOk h ys t) (le : HV.le h h') : LogsOk h' ys t := fun k y hk hn => (r k y hk hn).mono le
/-- the log that is owned, of the first i -/
def lgs (ys : List BrV) (t : Option Nat) (i : Nat) : List Itm := match t with
  | none => []
  | some t => if t < i then (match ys[t]? with | some y => [lgI y.lv y.b.log] | none => []) else []
theorem lgs_set {ys : List BrV} {t : Option Nat} {i : Nat} (y : BrV) (ht : t ≠ some i) : lgs (ys.set i y) t (i + 1) = lgs ys t i := by
  unfold lgs
  cases t with
  | none => rfl
  | some t =>
    have hne : t ≠ i := fun e => ht (by rw [e])
    simp only
    by_cases h : t < i
    · rw [if_pos h, if_pos (by omega), List.getElem?_set_ne (by omega)]
    · rw [if_neg h, if_neg (by omega)]
theorem lgs_at {ys : List BrV} {i : Nat} {y : BrV} (hi : i < ys.length) : lgs (ys.set i y) (some i) (i + 1) = [lgI y.lv y.b.log] := by
  unfold lgs
  simp only [if_pos (show i < i + 1 by omega), List.getElem?_set_self hi]
theorem lgs_zero (ys : List BrV) (t : Option Nat) : lgs ys t 0 = [] := by
  unfold lgs; cases t <;> simp
structure Small (s : Ox.St) : Prop where
  cs : s.cs.length ≤ 1000000
  each : ∀ c ∈ s.cs, c.ps.length ≤ 1000000 ∧ c.d.length ≤ 1000000 ∧ c.o.length ≤ 1000000
  bs : s.bs.length ≤ 1000000
  logs : ∀ b ∈ s.bs, b.log.length ≤ 1000000
  ks : s.ks.length ≤ 1000000
theorem flat_all {α : Type} {f : α → List Value} : ∀ {l : List α}, (∀ a ∈ l, (f a).all (·.oneCell') = true) → (l.flatMap f).all (·.oneCell') = true
  | [], _ => rfl
  | a :: r, h => by
    rw [List.flatMap_cons, List.all_append, h a (by simp), flat_all fun x hx => h x (by simp [hx])]; rfl
/-- the commits at work: the first i are copied -/
structure CpI (h : HV) (zs us : List CmV) (i : Nat) : Prop where
  len : us.length = zs.length
  cs : us.map CmV.c = zs.map CmV.c
  done : ∀ k z, k < i → us[k]? = some z → CmOk h z
  left : ∀ k, i ≤ k → us[k]? = zs[k]?
theorem CpI.step {h h' : HV} {zs us : List CmV} {i : Nat} (r : CpI h zs us i) (le : HV.le h h') {z z' : CmV} (hz : us[i]? = some z) (hc : z'.c = z.c) (hk : CmOk h' z') : CpI h' zs (us.set i z') (i + 1) := by
  have hlt : i < us.length := (List.getElem?_eq_some_iff.1 hz).1
  refine ⟨by rw [List.length_set]; exact r.len, ?_, fun k x hx hxk => ?_, fun k hk => ?_⟩
  · rw [← r.cs, List.map_set, hc]
    apply List.ext_getElem?
    intro k
    by_cases hki : i = k
    · subst hki
      rw [List.getElem?_set_self (by simpa using hlt), List.getElem?_map, hz]; rfl
    · rw [List.getElem?_set_ne hki]
  · by_cases hki : i = k
    · subst hki
      rw [List.getElem?_set_self hlt] at hxk; cases hxk; exact hk
    · rw [List.getElem?_set_ne hki] at hxk
      exact (r.done k x (by omega) hxk).mono le
  · rw [List.getElem?_set_ne (by omega)]; exact r.left k (by omega)
structure CpB (h : HV) (ys us : List BrV) (t : Option Nat) (i : Nat) : Prop where
  len : us.length = ys.length
  bs : us.map BrV.b = ys.map BrV.b
  done : ∀ k y, k < i → us[k]? = some y → t ≠ some k → ZsH h y.lv y.b.log
  left : ∀ k, i ≤ k → us[k]? = ys[k]?
theorem CpB.step {h h' : HV} {ys us : List BrV} {t : Option Nat} {i : Nat} (r : CpB h ys us t i) (le : HV.le h h') {y y' : BrV} (hy : us[i]? = some y) (hc : y'.b = y.b) (hk : t ≠ some i → ZsH h' y'.lv y'.b.log) : CpB h' ys (us.set i y') t (i + 1) := by
  have hlt : i < us.length := (List.getElem?_eq_some_iff.1 hy).1
  refine ⟨by rw [List.length_set]; exact r.len, ?_, fun k x hx hxk => ?_, fun k hk => ?_⟩
  · rw [← r.bs, List.map_set, hc]
    apply List.ext_getElem?
    intro k
    by_cases hki : i = k
    · subst hki
      rw [List.getElem?_set_self (by simpa using hlt), List.getElem?_map, hy]; rfl
    · rw [List.getElem?_set_ne hki]
  · by_cases hki : i = k
    · subst hki
      rw [List.getElem?_set_self hlt] at hxk; cases hxk; exact hk
    · rw [List.getElem?_set_ne hki] at hxk
      exact fun ht => (r.done k x (by omega) hxk ht).mono le
  · rw [List.getElem?_set_ne (by omega)]; exact r.left k (by omega)
attribute [local irreducible] At Ops Val Eff Does Res Dr

theorem copied_does (v : Value) (s : Ox.St) (t : Option Nat) (h : HV) (hv : StH h v s) (hs : Small s) :
    Does Tryz.prog 41 #[v] [] h (fun r Ω' h' => HV.le h h' ∧ ∃ csv bsv ksv zs ys, r = .agg #[.int .i64 s.nc, .int .i64 s.nb, csv, bsv, ksv] ∧ zs.map CmV.c = s.cs ∧ ys.map BrV.b = s.bs ∧ (∀ z ∈ zs, CmOk h' z) ∧ LogsOk h' ys t ∧
      Ω' = RX csv bsv ksv zs ys s.ks (lgs ys t ys.length)) := by
  obtain ⟨zs, ys, csv, bsv, ksv, hx⟩ := hv
  obtain ⟨nc, nb, cs, bs, ks⟩ := s
  obtain ⟨rfl, rfl, rfl, hcr, hco, hbr, hbo, hkr⟩ := hx
  obtain ⟨ca, ccp, rfl⟩ := hcr.form
  obtain ⟨ba, bcp, rfl⟩ := hbr.form
  obtain ⟨ka, kcp, rfl⟩ := hkr.form
  simp only at hkr
  have hzl : zs.length ≤ 1000000 := by have := hs.cs; simpa using this
  have hyl : ys.length ≤ 1000000 := by have := hs.bs; simpa using this
  have hkl : ks.length ≤ 1000000 := hs.ks
  have hze := hs.each; have hyg := hs.logs
  simp only at hze hyg
  clear hs
  refine Does.of Tryz.func41 rfl Tryz.ntmps41 rfl fun c hc0 => ?_
  refine goK _ ?_
  refine Ops.eff rfl rfl rfl (Eff.box rfl) fun _ => Ops.ex fun b1 => Ops.pure ?_
  rintro rfl
  refine Ops.eff rfl rfl rfl (E.alloc rfl) fun _ => Ops.ex fun b2 => Ops.pure ?_
  rintro rfl
  refine goK _ ?_
  refine Ops.eff rfl rfl rfl (Eff.call (fn (by kernel_rfl)) rfl (Ωc := []) rfl (Does.rowForm (CloneCm_does _ zs.length (zs.flatMap cmc) (flat_all fun z hz => (hco z hz).one) (by omega) h hcr))) fun _ => Ops.ex fun _ => Ops.ex fun _ => Ops.pure ?_
  rintro ⟨⟨ga, gcp, rfl⟩, rfl, rfl⟩
  refine goK _ ?_
  refine Ops.eff0 rfl rfl (E.store 2 rfl rfl rfl rfl rfl rfl rfl) fun _ => ?_
  refine goK _ ?_
  refine At.loop3 (fun (i : Nat) (_ : List CmV) (_ : HV) => [(1, .pointer (some ⟨b1, 0, none⟩)), (2, .pointer (some ⟨b2, 0, none⟩)), (12, .int .i64 (zs.length : Int)), (13, .int .i64 (i : Int))])
    (fun (i : Nat) (us : List CmV) (h' : HV) w => (i ≤ zs.length ∧ HV.le h h' ∧ CpI h' zs us i) ∧ Mem c [row 47 6 (.slice ga zs.length gcp) zs.length (us.flatMap cmc), cells b2 [.int .i64 0, .int .i64 0, .slice none 0 0, .slice none 0 0, .slice none 0 0] 27, cells b1 [.int .i64 nc, .int .i64 nb, .slice ga zs.length gcp, .slice ba ys.length bcp, .slice ka ks.length kcp] 27] h' w)
    (fun (i : Nat) (_ : List CmV) (_ : HV) => zs.length - i)
    0 zs h ⟨rfl, rfl, rfl, rfl, trivial⟩ (fun w hw => ⟨⟨Nat.zero_le _, HV.le.refl _, ⟨rfl, rfl, fun k z hk => by omega, fun k _ => rfl⟩⟩, hw⟩) (fun i us h1 => At.pure (fun hq => ?_))
  obtain ⟨hi, hle1, hI⟩ := hq
  refine goK _ ?_
  refine At.condP rfl (fun h2 => ?_) (fun h2 => ?_)
  · have hlt : i < us.length := by have := hI.len; omega
    have hui : us[i]? = some us[i] := by simp [hlt]
    have hzi : zs[i]? = some us[i] := by rw [← hI.left i (Nat.le_refl _)]; exact hui
    have hzo := (hco us[i] (List.mem_of_getElem? hzi)).mono hle1
    have hze1 := hze us[i].c (List.mem_map_of_mem (List.mem_of_getElem? hzi))
    generalize us[i] = z at *
    obtain ⟨zc0, pv, dv, ov⟩ := z
    simp only at hze1
    have hpo := hzo.ps; have hdo := hzo.d; have hoo := hzo.o
    simp only at hpo hdo hoo
    have hxl : (us.flatMap cmc).length = us.length * 6 := flat_length cmc 6 cmc_length us
    have hul := hI.len
    have hltz : i < zs.length := by omega
    refine At.open_row 0 rfl (by omega) fun g acp rest hvv hl1 hl2 hN hcp => ?_
    cases hvv
    have hc1 : (us.flatMap cmc ++ rest)[0 + i * 6 + 1]? = some pv := by
      rw [Nat.zero_add, List.getElem?_append_left (by omega), flat_get cmc 6 cmc_length us i 1 (by omega) _ hui]; rfl
    have hc2 : (us.flatMap cmc ++ rest)[0 + i * 6 + 2]? = some dv := by
      rw [Nat.zero_add, List.getElem?_append_left (by omega), flat_get cmc 6 cmc_length us i 2 (by omega) _ hui]; rfl
    have hc3 : (us.flatMap cmc ++ rest)[0 + i * 6 + 3]? = some ov := by
      rw [Nat.zero_add, List.getElem?_append_left (by omega), flat_get cmc 6 cmc_length us i 3 (by omega) _ hui]; rfl
    refine goK _ ?_
    first | refine At.drawn mo (fun _ _ m => m.drew _) ?_ | refine At.seq (At.drawn mo (fun _ _ m => m.drew _) ?_)
    refine Dr.val 0 rfl rfl rfl rfl (by kernel_rfl) rfl (Val.move rfl) ?_
    refine Dr.val 1 rfl rfl rfl rfl (by kernel_rfl) rfl (Val.move rfl) ?_
    refine Dr.val 2 rfl rfl rfl rfl (by kernel_rfl) rfl (Val.move rfl) ?_
    refine Dr.val 3 rfl rfl rfl rfl (by kernel_rfl) rfl (Val.move rfl) ?_
    refine Dr.val 4 rfl rfl rfl rfl (by kernel_rfl) rfl (Val.nilCheck rfl) ?_
    refine Dr.val 5 rfl rfl rfl rfl (by kernel_rfl) rfl (V.fieldAddr rfl rfl) ?_
    refine Dr.valS 6 _ rfl rfl rfl rfl (by kernel_rfl) rfl (V.load rfl rfl (fun _ hh => hh)) (fun w hw => hw.cell (n := 0) (v := pv) rfl hc1) ?_
    refine Dr.val 8 rfl rfl rfl rfl (by kernel_rfl) rfl (Val.move rfl) ?_
    refine Dr.val 9 rfl rfl rfl rfl (by kernel_rfl) rfl (Val.nilCheck rfl) ?_
    refine Dr.val 10 rfl rfl rfl rfl (by kernel_rfl) rfl (V.fieldAddr rfl rfl) ?_
    refine Dr.valS 11 _ rfl rfl rfl rfl (by kernel_rfl) rfl (V.load rfl rfl (fun _ hh => hh)) (fun w hw => hw.cell (n := 0) (v := dv) rfl hc2) ?_
    refine Dr.val 13 rfl rfl rfl rfl (by kernel_rfl) rfl (Val.move rfl) ?_
    refine Dr.val 14 rfl rfl rfl rfl (by kernel_rfl) rfl (Val.nilCheck rfl) ?_
    refine Dr.val 15 rfl rfl rfl rfl (by kernel_rfl) rfl (V.fieldAddr rfl rfl) ?_
    refine Dr.valS 16 _ rfl rfl rfl rfl (by kernel_rfl) rfl (V.load rfl rfl (fun _ hh => hh)) (fun w hw => hw.cell (n := 0) (v := ov) rfl hc3) ?_
    refine Dr.next (e := 7) rfl rfl (by kernel_rfl) rfl (by kernel_rfl) (by kernel_rfl) rfl rfl (Eff.call (fn (by kernel_rfl)) rfl (Ωc := []) rfl (Does.rowForm (CloneZ_does pv zc0.ps.length (zc0.ps.flatMap zc) (flat_one (fun _ => rfl) _) (by omega) h1 hpo))) aokK fun _ => Dr.ex fun _ => Dr.ex fun _ => Dr.pure ?_
    rintro ⟨⟨pa, pcp, rfl⟩, rfl, rfl⟩
    refine Dr.next (e := 12) rfl rfl (by kernel_rfl) rfl (by kernel_rfl) (by kernel_rfl) rfl rfl (Eff.call (fn (by kernel_rfl)) rfl (Ωc := []) rfl (Does.rowForm (CloneOp_does dv zc0.d.length (zc0.d.flatMap opc) (flat_one (fun _ => rfl) _) (by omega) h1 hdo))) aokK fun _ => Dr.ex fun _ => Dr.ex fun _ => Dr.pure ?_
    rintro ⟨⟨da, dcp, rfl⟩, rfl, rfl⟩
    refine Dr.next (e := 17) rfl rfl (by kernel_rfl) rfl (by kernel_rfl) (by kernel_rfl) rfl rfl (Eff.call (fn (by kernel_rfl)) rfl (Ωc := []) rfl (Does.rowForm (CloneOp_does ov zc0.o.length (zc0.o.flatMap opc) (flat_one (fun _ => rfl) _) (by omega) h1 hoo))) aokK fun _ => Dr.ex fun _ => Dr.ex fun _ => Dr.pure ?_
    rintro ⟨⟨oa, ocp, rfl⟩, rfl, rfl⟩
    refine Dr.val 18 rfl rfl rfl rfl (by kernel_rfl) rfl (Val.nilCheck rfl) ?_
    refine Dr.val 19 rfl rfl rfl rfl (by kernel_rfl) rfl (V.fieldAddr rfl rfl) ?_
    refine Dr.next0 (e := 20) rfl rfl (by kernel_rfl) rfl (by kernel_rfl) (by kernel_rfl) rfl (E.store 3 rfl rfl rfl rfl rfl (by simp [hxl]; omega) rfl) aokK fun _ => ?_
    refine Dr.val 21 rfl rfl rfl rfl (by kernel_rfl) rfl (Val.nilCheck rfl) ?_
    refine Dr.val 22 rfl rfl rfl rfl (by kernel_rfl) rfl (V.fieldAddr rfl rfl) ?_
    refine Dr.next0 (e := 23) rfl rfl (by kernel_rfl) rfl (by kernel_rfl) (by kernel_rfl) rfl (E.store 3 rfl rfl rfl rfl rfl (by simp [sets_length, hxl]; omega) rfl) aokK fun _ => ?_
    refine Dr.val 24 rfl rfl rfl rfl (by kernel_rfl) rfl (Val.nilCheck rfl) ?_
    refine Dr.val 25 rfl rfl rfl rfl (by kernel_rfl) rfl (V.fieldAddr rfl rfl) ?_
    refine Dr.next0 (e := 26) rfl rfl (by kernel_rfl) rfl (by kernel_rfl) (by kernel_rfl) rfl (E.store 3 rfl rfl rfl rfl rfl (by simp [sets_length, hxl]; omega) rfl) aokK fun _ => ?_
    refine Dr.done (by kernel_rfl) (by kernel_rfl) ?_
    refine At.publish_row 0 rfl fun h2 hle2 hs2 => ?_
    refine At.publish_row 0 rfl fun h3 hle3 hs3 => ?_
    refine At.publish_row 0 rfl fun h4 hle4 hs4 => ?_
    have hzo' : CmOk h4 ⟨zc0, .slice pa zc0.ps.length pcp, .slice da zc0.d.length dcp, .slice oa zc0.o.length ocp⟩ := ⟨hs4, hs3.mono hle4, (hs2.mono hle3).mono hle4⟩
    refine At.close_row (N := zs.length) (xs := (us.set i ⟨zc0, .slice pa zc0.ps.length pcp, .slice da zc0.d.length dcp, .slice oa zc0.o.length ocp⟩).flatMap cmc) (rest := rest) (cp := gcp) (e := 47) (size := 6) (g := g) 0 ?_ ?_ ?_ hN hcp ?_
    · refine congrArg (fun z => some (cells g z 47)) ?_
      show (((us.flatMap cmc ++ rest).set (0 + i * 6 + 1) (.slice pa zc0.ps.length pcp)).set (0 + i * 6 + 2) (.slice da zc0.d.length dcp)).set (0 + i * 6 + 3) (.slice oa zc0.o.length ocp) = _
      rw [Nat.zero_add, List.set_append_left _ _ (by omega), List.set_append_left _ _ (by simp only [List.length_set, hxl]; omega), List.set_append_left _ _ (by simp only [List.length_set, hxl]; omega)]
      congr 1
      rw [flat_set cmc_length (x' := ⟨zc0, .slice pa zc0.ps.length pcp, dv, ov⟩) (by omega) rfl us i hui]
      rw [flat_set cmc_length (x := ⟨zc0, .slice pa zc0.ps.length pcp, dv, ov⟩) (x' := ⟨zc0, .slice pa zc0.ps.length pcp, .slice da zc0.d.length dcp, ov⟩) (by omega) rfl _ i (by simp [hlt])]
      rw [flat_set cmc_length (x := ⟨zc0, .slice pa zc0.ps.length pcp, .slice da zc0.d.length dcp, ov⟩) (x' := ⟨zc0, .slice pa zc0.ps.length pcp, .slice da zc0.d.length dcp, .slice oa zc0.o.length ocp⟩) (by omega) rfl _ i (by simp [hlt])]
      simp
    · rw [flat_length cmc 6 cmc_length, List.length_set]; omega
    · rw [← hl2, List.length_append, List.length_append, flat_length cmc 6 cmc_length, flat_length cmc 6 cmc_length, List.length_set]
    refine goK _ ?_
    refine At.back3 (i + 1) (us.set i ⟨zc0, .slice pa zc0.ps.length pcp, .slice da zc0.d.length dcp, .slice oa zc0.o.length ocp⟩) h4 (by show zs.length - (i + 1) < zs.length - i; omega) (by exact ⟨rfl, rfl, rfl, rfl, trivial⟩) (fun w hw => ⟨⟨by omega, ((hle1.trans hle2).trans hle3).trans hle4, hI.step ((hle2.trans hle3).trans hle4) hui rfl hzo'⟩, ?_⟩)
    exact hw
  obtain rfl : i = zs.length := by omega
  have hzok : ∀ z ∈ us, CmOk h1 z := fun z hz => by
    obtain ⟨k, hk⟩ := List.getElem?_of_mem hz
    exact hI.done k z (by have := (List.getElem?_eq_some_iff.1 hk).1; have := hI.len; omega) hk
  have hbr1 := hbr.mono hle1
  refine goK _ ?_
  refine Ops.eff rfl rfl rfl (Eff.call (fn (by kernel_rfl)) rfl (Ωc := []) rfl (Does.rowForm (CloneBr_does _ ys.length (ys.flatMap brc) (flat_all fun y hy => by obtain ⟨yb, lv⟩ := y; obtain ⟨_, _, e⟩ := (hbo _ hy).form; simp only at e; subst e; rfl) (by omega) h1 hbr1))) fun _ => Ops.ex fun _ => Ops.ex fun _ => Ops.pure ?_
  rintro ⟨⟨ha, hcp0, rfl⟩, rfl, rfl⟩
  refine goK _ ?_
  refine Ops.eff0 rfl rfl (E.store 3 rfl rfl rfl rfl rfl rfl rfl) fun _ => ?_
  refine goK _ ?_
  refine At.loop3 (fun (i : Nat) (_ : List BrV) (_ : HV) => [(1, .pointer (some ⟨b1, 0, none⟩)), (2, .pointer (some ⟨b2, 0, none⟩)), (51, .int .i64 (ys.length : Int)), (52, .int .i64 (i : Int))])
    (fun (i : Nat) (ws : List BrV) (h' : HV) w => (i ≤ ys.length ∧ HV.le h1 h' ∧ CpB h' ys ws t i) ∧ Mem c (row 71 3 (.slice ha ys.length hcp0) ys.length (ws.flatMap brc) :: row 47 6 (.slice ga zs.length gcp) zs.length (us.flatMap cmc) :: cells b2 [.int .i64 0, .int .i64 0, .slice none 0 0, .slice none 0 0, .slice none 0 0] 27 :: cells b1 [.int .i64 nc, .int .i64 nb, .slice ga zs.length gcp, .slice ha ys.length hcp0, .slice ka ks.length kcp] 27 :: lgs ws t i) h' w)
    (fun (i : Nat) (_ : List BrV) (_ : HV) => ys.length - i)
    0 ys h1 ⟨rfl, rfl, rfl, rfl, trivial⟩ (fun w hw => ⟨⟨Nat.zero_le _, HV.le.refl _, ⟨rfl, rfl, fun k z hk => by omega, fun k _ => rfl⟩⟩, by rw [lgs_zero]; exact hw⟩) (fun i ws h2 => At.pure (fun hq => ?_))
  obtain ⟨hi', hle2, hJ⟩ := hq
  refine goK _ ?_
  refine At.condP rfl (fun h3 => ?_) (fun h3 => ?_)
  · have hlt : i < ws.length := by have := hJ.len; omega
    have hltz : i < ys.length := by omega
    have hui : ws[i]? = some ws[i] := by simp [hlt]
    have hyi : ys[i]? = some ws[i] := by rw [← hJ.left i (Nat.le_refl _)]; exact hui
    have hlo := (hbo ws[i] (List.mem_of_getElem? hyi)).mono (hle1.trans hle2)
    have hyg1 := hyg ws[i].b (List.mem_map_of_mem (List.mem_of_getElem? hyi))
    generalize ws[i] = y at *
    obtain ⟨yb, lv⟩ := y
    simp only at hyg1 hlo
    have hxl : (ws.flatMap brc).length = ws.length * 3 := flat_length brc 3 brc_length ws
    have hwl := hJ.len
    refine At.open_row 0 rfl (by omega) fun g acp rest hvv hl1 hl2 hN hcp => ?_
    cases hvv
    have hc2 : (ws.flatMap brc ++ rest)[0 + i * 3 + 2]? = some lv := by
      rw [Nat.zero_add, List.getElem?_append_left (by omega), flat_get brc 3 brc_length ws i 2 (by omega) _ hui]; rfl
    refine goK _ ?_
    first | refine At.drawn mo (fun _ _ m => m.drew _) ?_ | refine At.seq (At.drawn mo (fun _ _ m => m.drew _) ?_)
    refine Dr.val 0 rfl rfl rfl rfl (by kernel_rfl) rfl (V.fieldAddr rfl rfl) ?_
    refine Dr.valS 1 _ rfl rfl rfl rfl (by kernel_rfl) rfl (V.load rfl rfl (fun _ hh => hh)) (fun w hw => hw.cell (n := 3) rfl rfl) ?_
    refine Dr.val 2 rfl rfl rfl rfl (by kernel_rfl) rfl (Val.move rfl) ?_
    refine Dr.val 3 rfl rfl rfl rfl (by kernel_rfl) rfl (V.fieldAddr rfl rfl) ?_
    refine Dr.valS 4 _ rfl rfl rfl rfl (by kernel_rfl) rfl (V.load rfl rfl (fun _ hh => hh)) (fun w hw => hw.cell (n := 3) rfl rfl) ?_
    refine Dr.val 5 rfl rfl rfl rfl (by kernel_rfl) rfl (Val.move rfl) ?_
    refine Dr.val 6 rfl rfl rfl rfl (by kernel_rfl) rfl (V.indexAddr rfl rfl rfl rfl (by omega)) ?_
    refine Dr.val 7 rfl rfl rfl rfl (by kernel_rfl) rfl (V.fieldAddr rfl rfl) ?_
    refine Dr.valS 8 _ rfl rfl rfl rfl (by kernel_rfl) rfl (V.load rfl rfl (fun _ hh => hh)) (fun w hw => hw.cell (n := 0) (v := lv) rfl hc2) ?_
    refine Dr.next (e := 9) rfl rfl (by kernel_rfl) rfl (by kernel_rfl) (by kernel_rfl) rfl rfl (Eff.call (fn (by kernel_rfl)) rfl (Ωc := []) rfl (Does.rowForm (CloneZ_does lv yb.log.length (yb.log.flatMap zc) (flat_one (fun _ => rfl) _) (by omega) h2 hlo))) aokK fun _ => Dr.ex fun _ => Dr.ex fun _ => Dr.pure ?_
    rintro ⟨⟨la, lcp, rfl⟩, rfl, rfl⟩
    refine Dr.val 10 rfl rfl rfl rfl (by kernel_rfl) rfl (V.indexAddr rfl rfl rfl rfl (by omega)) ?_
    refine Dr.val 11 rfl rfl rfl rfl (by kernel_rfl) rfl (V.fieldAddr rfl rfl) ?_
    refine Dr.next0 (e := 12) rfl rfl (by kernel_rfl) rfl (by kernel_rfl) (by kernel_rfl) rfl (E.store 1 rfl rfl rfl rfl rfl (by simp [hxl]; omega) rfl) aokK fun _ => ?_
    refine Dr.done (by kernel_rfl) (by kernel_rfl) ?_
    refine At.close_row (N := ys.length) (xs := (ws.set i ⟨yb, .slice la yb.log.length lcp⟩).flatMap brc) (rest := rest) (cp := hcp0) (e := 71) (size := 3) (g := g) 1 ?_ ?_ ?_ hN hcp ?_
    · refine congrArg (fun z => some (cells g z 71)) ?_
      show (ws.flatMap brc ++ rest).set (0 + i * 3 + 2) (.slice la yb.log.length lcp) = _
      rw [Nat.zero_add, List.set_append_left _ _ (by omega)]
      congr 1
      exact flat_set brc_length (by omega) rfl ws i hui
    · rw [flat_length brc 3 brc_length, List.length_set]; omega
    · rw [← hl2, List.length_append, List.length_append, flat_length brc 3 brc_length, flat_length brc 3 brc_length, List.length_set]
    by_cases hti : t = some i
    · subst hti
      refine goK _ ?_
      refine At.back3 (i + 1) (ws.set i ⟨yb, .slice la yb.log.length lcp⟩) h2 (by show ys.length - (i + 1) < ys.length - i; omega) (by exact ⟨rfl, rfl, rfl, rfl, trivial⟩) (fun w hw => ⟨⟨by omega, hle2, hJ.step (HV.le.refl _) hui rfl (fun hne => absurd rfl hne)⟩, ?_⟩)
      rw [lgs_at hlt]
      have e0 : lgs ws (some i) i = [] := by simp [lgs]
      simp only [e0, List.set_cons_succ, List.set_cons_zero, List.cons_append, List.nil_append] at hw
      exact hw.perm (List.perm_append_comm (l₁ := [lgI (.slice la yb.log.length lcp) yb.log]))
    · refine At.publish_row 0 rfl fun h4 hle4 hs4 => ?_
      refine goK _ ?_
      refine At.back3 (i + 1) (ws.set i ⟨yb, .slice la yb.log.length lcp⟩) h4 (by show ys.length - (i + 1) < ys.length - i; omega) (by exact ⟨rfl, rfl, rfl, rfl, trivial⟩) (fun w hw => ⟨⟨by omega, hle2.trans hle4, hJ.step hle4 hui rfl (fun _ => hs4)⟩, ?_⟩)
      rw [lgs_set _ hti]
      exact hw
  obtain rfl : i = ys.length := by omega
  have hlok : LogsOk h2 ws t := fun k y hk ht => hJ.done k y (by have := (List.getElem?_eq_some_iff.1 hk).1; have := hJ.len; omega) hk ht
  have hkr2 := hkr.mono (hle1.trans hle2)
  refine goK _ ?_
  refine Ops.eff rfl rfl rfl (Eff.call (fn (by kernel_rfl)) rfl (Ωc := []) rfl (Does.rowForm (CloneCl_does _ ks.length (ks.flatMap clc) (flat_one (fun _ => rfl) _) (by omega) h2 hkr2))) fun _ => Ops.ex fun _ => Ops.ex fun _ => Ops.pure ?_
  rintro ⟨⟨xa, xcp, rfl⟩, rfl, rfl⟩
  refine goK _ ?_
  refine Ops.eff0 rfl rfl (E.store 4 rfl rfl rfl rfl rfl rfl rfl) fun _ => ?_
  refine goK _ ?_
  refine Ops.val rfl rfl rfl (V.loadOA 4 rfl rfl rfl rfl) ?_
  refine Ops.eff0 rfl rfl (E.store 3 rfl rfl rfl rfl rfl rfl rfl) fun _ => ?_
  refine Ops.nil ?_
  refine At.imp ?_ (fun w hw => hw.perm (List.Perm.append_right (cells b2 [.int .i64 nc, .int .i64 nb, .slice ga zs.length gcp, .slice ha ys.length hcp0, .slice xa ks.length xcp] 27 :: cells b1 [.int .i64 nc, .int .i64 nb, .slice ga zs.length gcp, .slice ha ys.length hcp0, .slice xa ks.length xcp] 27 :: lgs ws t ys.length) (List.reverse_perm [row 127 3 (.slice xa ks.length xcp) ks.length (ks.flatMap clc), row 71 3 (.slice ha ys.length hcp0) ys.length (ws.flatMap brc), row 47 6 (.slice ga zs.length gcp) zs.length (us.flatMap cmc)]).symm))
  refine At.imp (S' := Mem c (row 47 6 (.slice ga zs.length gcp) zs.length (us.flatMap cmc) :: row 71 3 (.slice ha ys.length hcp0) ys.length (ws.flatMap brc) :: row 127 3 (.slice xa ks.length xcp) ks.length (ks.flatMap clc) :: cells b2 [.int .i64 nc, .int .i64 nb, .slice ga zs.length gcp, .slice ha ys.length hcp0, .slice xa ks.length xcp] 27 :: cells b1 [.int .i64 nc, .int .i64 nb, .slice ga zs.length gcp, .slice ha ys.length hcp0, .slice xa ks.length xcp] 27 :: lgs ws t ys.length) h2) ?_ (fun w hw => hw)
  refine At.ret1 Tryz.results41 (Res.cellA (j := 3) (ly rfl) rfl rfl rfl) (Ω' := RX (.slice ga zs.length gcp) (.slice ha ys.length hcp0) (.slice xa ks.length xcp) us ws ks (lgs ws t ws.length)) ?_ ⟨hc0.symm ▸ hle1.trans hle2, _, _, _, us, ws, rfl, hI.cs, hJ.bs, fun z hz => (hzok z hz).mono hle2, hlok, rfl⟩
  unfold RX
  rw [hI.len, hJ.len]
  exact (((List.sublist_cons_self _ _).trans (List.sublist_cons_self _ _)).cons_cons _).cons_cons _ |>.cons_cons _
end Go.Proofs.YthjgbmbaabpgmaaGreat
/-
  The machine at work: how it lies in memory, what a handler hands back.
-/
namespace Go.Proofs.YthjgbmbaabpgmaaGreat
open Go.Sy
set_option maxRecDepth 4000
set_option maxHeartbeats 4000000
namespace Ox
/-- what holds of a state behind N steps -/
structure Inv (N : Nat) (s : St) : Prop where
  cs : CsOk s.cs (docsOf s.cs)
  num : ∀ c ∈ s.cs, c.num < s.nc
  nc : 1 ≤ s.nc ∧ s.nc ≤ 301
  nb : 1 ≤ s.nb ∧ s.nb ≤ 1 + (N : Int)
  sane : ∀ c ∈ s.cs, c.d.length ≤ 100000 ∧ c.o.length ≤ 100000
  few : s.bs.length ≤ 20
  logs : ∀ b ∈ s.bs, b.log ≠ [] ∧ b.log.Pairwise (· < ·) ∧ ∀ n ∈ b.log, n ∈ s.cs.map Cm.num
  ids : ∀ b ∈ s.bs, b.id < s.nb
  ksort : (s.ks.map Cl.c).Pairwise (· < ·)
  ks : ∀ k ∈ s.ks, 1 ≤ k.c ∧ k.c ≤ 8 ∧ 0 ≤ k.s ∧ k.s ≤ (N : Int)
theorem Inv.cslen {N : Nat} {s : St} (h : Inv N s) : s.cs.length ≤ 300 := by
  have := h.cs.dag.1
  simpa [linksC] using this
theorem Inv.loglen {N : Nat} {s : St} (h : Inv N s) {b : Br} (hb : b ∈ s.bs) : b.log.length ≤ 300 := by
  have h1 := (h.logs b hb).2
  have h2 := nodup_le (h1.1.imp fun {a b} hab => by omega) h1.2
  rw [List.length_map] at h2
  have := h.cslen; omega
theorem Inv.kslen {N : Nat} {s : St} (h : Inv N s) : s.ks.length ≤ 8 := by
  have h2 := nodup_le (V := [1, 2, 3, 4, 5, 6, 7, 8]) (h.ksort.imp fun {a b} hab => by omega) fun k hk => by
    obtain ⟨x, hx, rfl⟩ := List.mem_map.1 hk
    have := h.ks x hx
    simp only [List.mem_cons, List.not_mem_nil, or_false]; omega
  simpa using h2
theorem lastZ_mem {l : List Int} (h : l ≠ []) : lastZ l ∈ l := List.mem_of_getElem? (lastZ_get h)
theorem Inv.tip {N : Nat} {s : St} (h : Inv N s) {b : Br} (hb : b ∈ s.bs) : lastZ b.log ∈ s.cs.map Cm.num := (h.logs b hb).2.2 _ (lastZ_mem (h.logs b hb).1)
theorem Inv.small {N : Nat} {s : St} (h : Inv N s) : Small s := by
  refine ⟨by have := h.cslen; omega, fun c hc => ?_, by have := h.few; omega, fun b hb => by have := h.loglen hb; omega, by have := h.kslen; omega⟩
  have h1 := (h.cs.dag.each ⟨c.num, c.ps⟩ (List.mem_map.2 ⟨c, hc, rfl⟩)).2.1
  have h2 := h.sane c hc
  simp only at h1
  omega
theorem Inv.pos {N : Nat} {s : St} (h : Inv N s) {n : Int} (hn : n ∈ s.cs.map Cm.num) : 0 < n ∧ n ≤ 300 := by
  rw [← linksC_num] at hn; exact h.cs.dag.range n hn
end Ox
/-- a request's value -/
structure RqH (h : HV) (v : Value) (q : Ox.Rq) (dv : Value) : Prop where
  val : v = .agg #[.int .i64 q.kind, str q.name, str q.other, .int .i64 q.num, str q.text, dv]
  d : OpsH h dv q.d
  name : q.name.length ≤ 1000000000
  other : q.other.length ≤ 1000000000
  text : q.text.length ≤ 1000000000
  num : I64 q.num
  ops : ∀ o ∈ q.d, o.text.length ≤ 1000000000
/-- a reply's value -/
def RpH (h : HV) (v : Value) (r : Ox.Rp) : Prop := ∃ rv lv, v = .agg #[.int .i64 r.kind, .int .i64 r.num, str r.text, rv, lv] ∧ AtsH h rv r.runs ∧ ZsH h lv r.log
theorem RpH.mono {h h' : HV} {v : Value} {r : Ox.Rp} (x : RpH h v r) (le : HV.le h h') : RpH h' v r := by
  obtain ⟨rv, lv, e, h1, h2⟩ := x
  exact ⟨rv, lv, e, h1.mono le, h2.mono le⟩
theorem RpH.plain (h : HV) (k n : Int) (t : List UInt8) : RpH h (.agg #[.int .i64 k, .int .i64 n, str t, .slice none 0 0, .slice none 0 0]) ⟨k, n, t, [], []⟩ := ⟨_, _, rfl, SlH.nil _ _, SlH.nil _ _⟩
/-- the machine's slices are what the state says; all logs stay but one -/
structure MOk (h : HV) (s : Ox.St) (zs : List CmV) (ys : List BrV) (t : Option Nat) : Prop where
  cs : zs.map CmV.c = s.cs
  bs : ys.map BrV.b = s.bs
  cok : ∀ z ∈ zs, CmOk h z
  lok : LogsOk h ys t
theorem MOk.mono {h h' : HV} {s : Ox.St} {zs : List CmV} {ys : List BrV} {t : Option Nat} (r : MOk h s zs ys t) (le : HV.le h h') : MOk h' s zs ys t := ⟨r.cs, r.bs, fun z hz => (r.cok z hz).mono le, r.lok.mono le⟩
/-- the machine with a state -/
abbrev MS (m dm : Nat) (s : Ox.St) (csv bsv ksv : Value) (M : List (Int × Value)) (zs : List CmV) (ys : List BrV) (Ωl : List Itm) : List Itm := MX m dm s.nc s.nb csv bsv ksv M zs ys s.ks Ωl
/-- what a handler comes to -/
def HdPost (m dm : Nat) (s : Ox.St) (q : Ox.Rq) (k : Int) (t : Option Nat) (h : HV) : Value → List Itm → HV → Prop := fun r Ω' h' => HV.le h h' ∧ ∃ e s' rp rv, Ox.HdR s q k e s' rp ∧ r = .tuple #[rv, .int .i64 e] ∧ RpH h' rv rp ∧
  (e = 0 → ∃ csv bsv ksv M zs ys, MOk h' s' zs ys t ∧ Ω' = MS m dm s' csv bsv ksv M zs ys (lgs ys t ys.length))
/-- where a branch is -/
def BrPtr (bb : Nat) (ys : List BrV) (p : Ox.Br → Prop) (r : Value) : Prop :=
  (∃ i b lv, ys[i]? = some ⟨b, lv⟩ ∧ Ox.BrAt (ys.map BrV.b) p i b ∧ r = .pointer (some ⟨bb, 0 + i * 3, none⟩)) ∨ ((∀ b ∈ ys.map BrV.b, ¬ p b) ∧ r = .pointer none)
def BsForm (bb : Nat) (ys : List BrV) (v : Value) : Prop := (∃ cp, v = .slice (some ⟨bb, 0, none⟩) ys.length cp) ∨ (ys = [] ∧ v = .slice none 0 0)
theorem BrPost.ptr {bsv : Value} {bb : Nat} {ys : List BrV} {p : Ox.Br → Prop} {r : Value} (hb : BsForm bb ys bsv) (h : BrPost bsv ys p r) : BrPtr bb ys p r := by
  rcases h with ⟨b1, o, cp, i, y, e, hy, hp, hf, rfl⟩ | ⟨hn, rfl⟩
  · left
    obtain ⟨yb, lv⟩ := y
    rcases hb with ⟨cp', e'⟩ | ⟨rfl, _⟩
    · rw [e'] at e; cases e
      refine ⟨i, yb, lv, hy, ⟨by rw [List.getElem?_map, hy]; rfl, hp, fun j x hj hx => ?_⟩, rfl⟩
      rw [List.getElem?_map] at hx
      cases hj' : ys[j]? with
      | none => rw [hj'] at hx; cases hx
      | some y => rw [hj'] at hx; cases hx; exact hf j y hj hj'
    · simp at hy
  · right
    refine ⟨fun b hb => ?_, rfl⟩
    obtain ⟨y, hy, rfl⟩ := List.mem_map.1 hb
    exact hn y hy
/-- a row of the call's own has a block -/
theorem Mem.ownBs {c : Ctx} {Ω : List Itm} {h : HV} {w : World} {n : Nat} {v : Value} {ys : List BrV} (M : Mem c Ω h w) (hn : Ω[n]? = some (row 71 3 v ys.length (ys.flatMap brc))) : ∃ bb, BsForm bb ys v := by
  have hr : w.ownsRow 0 71 3 v ys.length (ys.flatMap brc) := M.own _ (List.mem_of_getElem? hn)
  rcases hr.2 with ⟨rfl, h0⟩ | ⟨g, cap, cur, rfl, _⟩
  · exact ⟨0, .inr ⟨List.eq_nil_of_length_eq_zero h0, rfl⟩⟩
  · exact ⟨g, .inl ⟨cap, rfl⟩⟩
/-- what can be read of the machine -/
theorem MX.reads {m dm : Nat} {nc nb : Int} {csv bsv ksv : Value} {M : List (Int × Value)} {zs : List CmV} {ys : List BrV} {ks : List Ox.Cl} {Ωl : List Itm} {f : FuncId} {args : Array Value} {h : HV} {post : Value → List Itm → HV → Prop}
    (hk : RowRd cmc 6 (RX csv bsv ksv zs ys ks Ωl) h csv zs → RowRd brc 3 (RX csv bsv ksv zs ys ks Ωl) h bsv ys → RowRd clc 3 (RX csv bsv ksv zs ys ks Ωl) h ksv ks → (∃ bb, BsForm bb ys bsv) → Does Tryz.prog f args (MX m dm nc nb csv bsv ksv M zs ys ks Ωl) h post) :
    Does Tryz.prog f args (MX m dm nc nb csv bsv ksv M zs ys ks Ωl) h post := fun w hm =>
  hk (Reads.mono (hm.row_reads (t := 2) rfl) (HV.le.refl h) (by simp)) (Reads.mono (hm.row_reads (t := 3) rfl) (HV.le.refl h) (by simp)) (Reads.mono (hm.row_reads (t := 4) rfl) (HV.le.refl h) (by simp)) (Mem.ownBs (n := 3) hm rfl) w hm
theorem BrAt.of {s : Ox.St} {ys : List BrV} (e : ys.map BrV.b = s.bs) {p : Ox.Br → Prop} {i : Nat} {b : Ox.Br} (h : Ox.BrAt (ys.map BrV.b) p i b) : Ox.BrAt s.bs p i b := e ▸ h
theorem BrAt.mem {bs : List Ox.Br} {p : Ox.Br → Prop} {i : Nat} {b : Ox.Br} (h : Ox.BrAt bs p i b) : b ∈ bs := List.mem_of_getElem? h.get
theorem ys_at {s : Ox.St} {ys : List BrV} (e : ys.map BrV.b = s.bs) {i : Nat} {b : Ox.Br} (h : s.bs[i]? = some b) : ∃ lv, ys[i]? = some ⟨b, lv⟩ := by
  rw [← e, List.getElem?_map] at h
  cases hy : ys[i]? with
  | none => rw [hy] at h; cases h
  | some y => rw [hy] at h; cases h; exact ⟨y.lv, rfl⟩
theorem DocMap.nil (h : HV) (D : Int → List Ox.Atom) : DocMap h [] D := fun k v hk => by simp [mget] at hk
end Go.Proofs.YthjgbmbaabpgmaaGreat
