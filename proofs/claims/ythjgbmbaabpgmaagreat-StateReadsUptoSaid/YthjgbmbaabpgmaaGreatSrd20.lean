/-
  Merging: the document of two that came of one.
-/
import Derived.Test.YthjgbmbaabpgmaaGreatSrd05
import Derived.Test.YthjgbmbaabpgmaaGreatSrd19
set_option linter.unusedVariables false
set_option linter.unusedSimpArgs false
set_option linter.unusedSectionVars false
namespace Go.Proofs.YthjgbmbaabpgmaaGreat
open Go.Sy
set_option maxRecDepth 4000
set_option maxHeartbeats 4000000
attribute [local irreducible] At Ops Val Eff Does Res Dr

theorem check_zero (d : List Ox.Atom) : Ox.check d = 0 ↔ Ox.Good d := by unfold Ox.check; split <;> simp_all

open Classical in
theorem Docs_does (ub ux uy : Value) (base x y : List Ox.Atom) (nx ny : Int) (ht1 : ∀ a ∈ base, a.text.length ≤ 10000000000) (hl1 : base.length ≤ 1000000) (ht2 : ∀ a ∈ x, a.text.length ≤ 10000000000) (hl2 : x.length ≤ 1000000)
    (ht3 : ∀ a ∈ y, a.text.length ≤ 10000000000) (hl3 : y.length ≤ 1000000) (h : HV) (hv1 : AtsH h ub base) (hv2 : AtsH h ux x) (hv3 : AtsH h uy y) :
    Does Tryz.prog 133 #[ub, ux, uy, .int .i64 nx, .int .i64 ny] [] h (fun r Ω' h' => HV.le h h' ∧ ((Ox.docsE base x y nx ny ≠ 0 ∧ Ω' = [] ∧ r = .tuple #[.slice none 0 0, .int .i64 (Ox.docsE base x y nx ny)]) ∨
      (Ox.docsE base x y nx ny = 0 ∧ ∃ u, r = .tuple #[u, .int .i64 0] ∧ Ω' = [row 106 4 u (Ox.runsOf (Ox.mergePcs nx ny (Ox.flat base) (Ox.flat x) (Ox.flat y))).length ((Ox.runsOf (Ox.mergePcs nx ny (Ox.flat base) (Ox.flat x) (Ox.flat y))).flatMap atc)]))) := by
  obtain ⟨a1, cp1, rfl⟩ := hv1.form
  obtain ⟨a2, cp2, rfl⟩ := hv2.form
  obtain ⟨a3, cp3, rfl⟩ := hv3.form
  have hz1 := check_zero base; have hz2 := check_zero x; have hz3 := check_zero y
  refine Does.of Tryz.func133 rfl Tryz.ntmps133 rfl fun c hc0 => ?_
  refine goK _ ?_
  refine Ops.forkR 43 (.bool (decide (¬ (Ox.check base = 0 ∧ Ox.check x = 0 ∧ Ox.check y = 0)))) [0, 1, 2, 3, 4] ?_ (fun main => ?_)
  rotate_left
  · repeat' (first
      | (refine Ops.eff rfl rfl rfl (Eff.callP 0 (fn (by kernel_rfl)) rfl (Ωc := []) rfl (DocCheck_does _ base ht1 (by omega) h hv1)) fun _ => Ops.pure ?_; rintro rfl)
      | (refine Ops.eff rfl rfl rfl (Eff.callP 0 (fn (by kernel_rfl)) rfl (Ωc := []) rfl (DocCheck_does _ x ht2 (by omega) h hv2)) fun _ => Ops.pure ?_; rintro rfl)
      | (refine Ops.eff rfl rfl rfl (Eff.callP 0 (fn (by kernel_rfl)) rfl (Ωc := []) rfl (DocCheck_does _ y ht3 (by omega) h hv3)) fun _ => Ops.pure ?_; rintro rfl)
      | refine opS _ ?_
      | refine Ops.gsplit rfl rfl (fun hb => ?_) (fun hb => ?_)
      | refine Ops.psplit rfl (fun hb => ?_) (fun hb => ?_))
    all_goals (refine Ops.nil ?_; refine main.sub ⟨congrArg (fun b => some (Value.bool b)) ?_, (by repeat (first | exact trivial | refine ⟨rfl, ?_⟩))⟩; clear main; (rw [Bool.eq_iff_iff]; simp at *; try omega))
  refine At.condP rfl (fun hn => ?_) (fun hn => ?_)
  · have he : Ox.docsE base x y nx ny = 120 := by
      rw [Ox.docsE, if_pos (fun hg => hn ⟨hz1.2 hg.1, hz2.2 hg.2.1, hz3.2 hg.2.2⟩)]
    refine goK _ ?_
    exact At.ret2 Tryz.results133 (Res.tmp rfl) (Res.tmp rfl) (List.nil_sublist _) ⟨hc0.symm ▸ HV.le.refl _, .inl ⟨by omega, rfl, by rw [he]⟩⟩
  have hG : Ox.Good base ∧ Ox.Good x ∧ Ox.Good y := by
    have hn' := Classical.not_not.1 hn
    exact ⟨hz1.1 hn'.1, hz2.1 hn'.2.1, hz3.1 hn'.2.2⟩
  obtain ⟨hg1, hg2, hg3⟩ := hG
  have hde : Ox.docsE base x y nx ny = if ¬ Ox.Mergeable (Ox.flat base) (Ox.flat x) (Ox.flat y) then 141 else if 1000 < (Ox.mergePcs nx ny (Ox.flat base) (Ox.flat x) (Ox.flat y)).length then 91 else 0 := by
    rw [Ox.docsE, if_neg (fun hq => hq ⟨hg1, hg2, hg3⟩)]
  have hfa := hg1.few; have hfb := hg2.few; have hfc := hg3.few
  have hoa := Ox.flat_ok hg1.canon.ok; have hob := Ox.flat_ok hg2.canon.ok; have hoc := Ox.flat_ok hg3.canon.ok
  have hnb : ((Ox.flat x).map (·.1)).Nodup := hg2.nodup
  have hnc : ((Ox.flat y).map (·.1)).Nodup := hg3.nodup
  refine goK _ ?_
  refine Ops.eff rfl rfl rfl (Eff.call (fn (by kernel_rfl)) rfl (Ωc := []) rfl (pieces_does _ base hg1 h hv1)) fun _ => Ops.ex fun _ => Ops.ex fun _ => Ops.pure ?_
  rintro ⟨hle1, rfl⟩
  rename_i va h1
  refine goK _ ?_
  refine Ops.eff rfl rfl rfl (Eff.call (fn (by kernel_rfl)) rfl (Ωc := []) rfl (pieces_does _ x hg2 h1 (hv2.mono hle1))) fun _ => Ops.ex fun _ => Ops.ex fun _ => Ops.pure ?_
  rintro ⟨hle2, rfl⟩
  rename_i vb h2
  refine Ops.val rfl rfl rfl (Val.move rfl) ?_
  refine Ops.eff rfl rfl rfl (Eff.call (fn (by kernel_rfl)) rfl (Ωc := []) rfl (pieces_does _ y hg3 h2 ((hv3.mono hle1).mono hle2))) fun _ => Ops.ex fun _ => Ops.ex fun _ => Ops.pure ?_
  rintro ⟨hle3, rfl⟩
  rename_i vc h3
  refine Ops.val rfl rfl rfl (Val.assign rfl) ?_
  refine Ops.val rfl rfl rfl (Val.assign rfl) ?_
  refine Ops.val rfl rfl rfl (Val.assign rfl) ?_
  refine Ops.nil ?_
  refine At.publish_row 2 rfl fun h4 hle4 hpa => ?_
  refine At.publish_row 1 rfl fun h5 hle5 hpb => ?_
  refine At.publish_row 0 rfl fun h6 hle6 hpc => ?_
  have hfB : ∀ p, Ox.posF (Ox.flat x) p ≤ 10000000000 := fun p => Nat.le_trans (Ox.posF_at _ p).1 (by omega)
  have hfC : ∀ p, Ox.posF (Ox.flat y) p ≤ 10000000000 := fun p => Nat.le_trans (Ox.posF_at _ p).1 (by omega)
  generalize hA : Ox.flat base = A at *
  generalize hB : Ox.flat x = B at *
  generalize hC : Ox.flat y = C at *
  replace hpa : PcsH h6 va A := (SlH.mono hpa hle5).mono hle6
  replace hpb : PcsH h6 vb B := SlH.mono hpb hle6
  replace hpc : PcsH h6 vc C := hpc
  have hle : HV.le h h6 := ((((hle1.trans hle2).trans hle3).trans hle4).trans hle5).trans hle6
  clear hle1 hle2 hle3 hle4 hle5 hle6
  obtain ⟨paa, pac, rfl⟩ := hpa.form
  obtain ⟨pba, pbc, rfl⟩ := hpb.form
  obtain ⟨pca, pcc', rfl⟩ := hpc.form
  refine goK _ ?_
  refine Ops.eff rfl rfl rfl (Eff.call (fn (by kernel_rfl)) rfl (Ωc := []) rfl (places_does _ A (by omega) h6 hpa)) fun _ => Ops.ex fun _ => Ops.ex fun _ => Ops.pure ?_
  rintro ⟨rfl, bma, ma, rfl, rfl, hma⟩
  refine goK _ ?_
  refine Ops.eff rfl rfl rfl (Eff.call (fn (by kernel_rfl)) rfl (Ωc := []) rfl (places_does _ B (by omega) h6 hpb)) fun _ => Ops.ex fun _ => Ops.ex fun _ => Ops.pure ?_
  rintro ⟨rfl, bmb, mb, rfl, rfl, hmb⟩
  refine goK _ ?_
  refine Ops.eff rfl rfl rfl (Eff.call (fn (by kernel_rfl)) rfl (Ωc := []) rfl (places_does _ C (by omega) h6 hpc)) fun _ => Ops.ex fun _ => Ops.ex fun _ => Ops.pure ?_
  rintro ⟨rfl, bmc, mc, rfl, rfl, hmc⟩
  refine Ops.eff rfl rfl rfl (E.alloc rfl) fun _ => Ops.ex fun b15 => Ops.pure ?_
  rintro rfl
  refine Ops.eff rfl rfl rfl (E.alloc rfl) fun _ => Ops.ex fun b16 => Ops.pure ?_
  rintro rfl
  refine Ops.eff rfl rfl rfl (E.alloc rfl) fun _ => Ops.ex fun b17 => Ops.pure ?_
  rintro rfl
  refine Ops.eff0 rfl rfl (E.store 2 rfl rfl rfl rfl rfl rfl rfl) fun _ => ?_
  refine Ops.eff0 rfl rfl (E.store 1 rfl rfl rfl rfl rfl rfl rfl) fun _ => ?_
  refine Ops.eff0 rfl rfl (E.store 0 rfl rfl rfl rfl rfl rfl rfl) fun _ => ?_
  refine Ops.nil ?_
  refine At.pick (Ω' := Mp3 b15 b16 b17 bma bmb bmc ma mb mc) [2, 1, 0, 5, 4, 3] (by decide) rfl ?_
  refine goK _ ?_
  refine Ops.val rfl rfl rfl (Val.makeFunc (cs := #[.pointer (some ⟨b15, 0, none⟩), .pointer (some ⟨b17, 0, none⟩)]) (fun ρ hρ => by simp [hρ _ _ (show ev _ (.tmp 15) = some _ from rfl), hρ _ _ (show ev _ (.tmp 17) = some _ from rfl)])) ?_
  refine Ops.val rfl rfl rfl (Val.assign rfl) ?_
  refine Ops.nil ?_
  refine At.seq ?_
  refine At.seq ?_
  refine At.meet1 (fun (_ : Unit) => [(3, .int .i64 nx), (4, .int .i64 ny), (12, .slice paa A.length pac), (13, .slice pba B.length pbc), (14, .slice pca C.length pcc'), (15, .pointer (some ⟨b15, 0, none⟩)), (16, .pointer (some ⟨b16, 0, none⟩)), (17, .pointer (some ⟨b17, 0, none⟩)), (83, .bool (decide (¬ Ox.Mergeable A B C)))])
    (fun _ w => Mem c (Mp3 b15 b16 b17 bma bmb bmc ma mb mc) h6 w) (fun k' meet => ?_) (fun _ => ?_)
  · have fin : ∀ {σ' : Slots} {b : Bool}, (b = true ↔ ¬ Ox.Mergeable A B C) → Sy.Sub [(3, .int .i64 nx), (4, .int .i64 ny), (12, .slice paa A.length pac), (13, .slice pba B.length pbc), (14, .slice pca C.length pcc'), (15, .pointer (some ⟨b15, 0, none⟩)), (16, .pointer (some ⟨b16, 0, none⟩)), (17, .pointer (some ⟨b17, 0, none⟩)), (83, .bool b)] σ' → At Tryz.prog (bodyPost Tryz.prog Tryz.f133 _) _ σ' (Mem c (Mp3 b15 b16 b17 bma bmb bmc ma mb mc) h6) k' := fun {_ b} e hs => meet () ((show b = decide (¬ Ox.Mergeable A B C) from by rw [Bool.eq_iff_iff, decide_eq_true_iff]; exact e) ▸ hs) (fun w hw => hw)
    refine At.region ?_
    refine Ops.val rfl rfl rfl (Val.move rfl) ?_
    refine Ops.val rfl rfl rfl (Val.move rfl) ?_
    refine Ops.eff rfl rfl rfl (Eff.callP 0 (fn (by kernel_rfl)) rfl (Ωc := []) rfl (alike_does _ _ A B (by omega) (by omega) h6 hpa hpb)) fun _ => Ops.pure ?_
    rintro rfl
    refine Ops.val rfl rfl rfl (Val.not rfl) ?_
    refine Ops.val rfl rfl rfl (Val.move rfl) ?_
    refine Ops.boolN (t := 61) rfl (fun h7 => ?_) (fun h7 => ?_)
    · repeat (first | refine Ops.skip rfl rfl rfl ?_ | refine Ops.val rfl rfl rfl (Val.pick rfl rfl) ?_ | refine Ops.val rfl rfl rfl (Val.move rfl) ?_)
      refine Ops.nil ?_
      exact fin (iff_of_true rfl (fun hm => h7 hm.1)) (by exact ⟨rfl, rfl, rfl, rfl, rfl, rfl, rfl, rfl, rfl, trivial⟩)
    refine Ops.val rfl rfl rfl (Val.move rfl) ?_
    refine Ops.val rfl rfl rfl (Val.move rfl) ?_
    refine Ops.eff rfl rfl rfl (Eff.callP 0 (fn (by kernel_rfl)) rfl (Ωc := []) rfl (alike_does _ _ A C (by omega) (by omega) h6 hpa hpc)) fun _ => Ops.pure ?_
    rintro rfl
    refine Ops.val rfl rfl rfl (Val.not rfl) ?_
    refine Ops.val rfl rfl rfl (Val.pick rfl rfl) ?_
    refine Ops.val rfl rfl rfl (Val.move rfl) ?_
    refine Ops.boolN (t := 67) rfl (fun h8 => ?_) (fun h8 => ?_)
    · repeat (first | refine Ops.skip rfl rfl rfl ?_ | refine Ops.val rfl rfl rfl (Val.pick rfl rfl) ?_ | refine Ops.val rfl rfl rfl (Val.move rfl) ?_)
      refine Ops.nil ?_
      exact fin (iff_of_true rfl (fun hm => h8 hm.2.1)) (by exact ⟨rfl, rfl, rfl, rfl, rfl, rfl, rfl, rfl, rfl, trivial⟩)
    refine Ops.val rfl rfl rfl (Val.move rfl) ?_
    refine Ops.val rfl rfl rfl (Val.makeFunc (cs := #[.pointer (some ⟨b16, 0, none⟩)]) (fun ρ hρ => by simp [hρ _ _ (show ev _ (.tmp 16) = some _ from rfl)])) ?_
    refine Ops.eff rfl rfl rfl (Eff.callP 0 (fn (by kernel_rfl)) rfl (Ωc := Mp3 b15 b16 b17 bma bmb bmc ma mb mc) (Ωr := []) rfl (rising_does 170 #[.pointer (some ⟨b16, 0, none⟩)] (Mp3 b15 b16 b17 bma bmb bmc ma mb mc) (Ox.posF B) h6 (by kernel_rfl) hfB (fun p => inB_does b15 b16 b17 bma bmb bmc ma mb mc A B C hma hmb hmc p h6) _ A (by omega) hpa)) fun _ => Ops.pure ?_
    rintro rfl
    refine Ops.val rfl rfl rfl (Val.not rfl) ?_
    refine Ops.val rfl rfl rfl (Val.pick rfl rfl) ?_
    refine Ops.val rfl rfl rfl (Val.move rfl) ?_
    refine Ops.bool (t := 73) rfl (fun h9 => ?_) (fun h9 => ?_)
    · repeat (first | refine Ops.skip rfl rfl rfl ?_ | refine Ops.val rfl rfl rfl (Val.pick rfl rfl) ?_ | refine Ops.val rfl rfl rfl (Val.move rfl) ?_)
      refine Ops.nil ?_
      exact fin (iff_of_true rfl (fun hm => by rw [hm.2.2.1] at h9; cases h9)) (by exact ⟨rfl, rfl, rfl, rfl, rfl, rfl, rfl, rfl, rfl, trivial⟩)
    refine Ops.val rfl rfl rfl (Val.move rfl) ?_
    refine Ops.val rfl rfl rfl (Val.makeFunc (cs := #[.pointer (some ⟨b17, 0, none⟩)]) (fun ρ hρ => by simp [hρ _ _ (show ev _ (.tmp 17) = some _ from rfl)])) ?_
    refine Ops.eff rfl rfl rfl (Eff.callP 0 (fn (by kernel_rfl)) rfl (Ωc := Mp3 b15 b16 b17 bma bmb bmc ma mb mc) (Ωr := []) rfl (rising_does 171 #[.pointer (some ⟨b17, 0, none⟩)] (Mp3 b15 b16 b17 bma bmb bmc ma mb mc) (Ox.posF C) h6 (by kernel_rfl) hfC (fun p => inC_does b15 b16 b17 bma bmb bmc ma mb mc A B C hma hmb hmc p h6) _ A (by omega) hpa)) fun _ => Ops.pure ?_
    rintro rfl
    refine Ops.val rfl rfl rfl (Val.not rfl) ?_
    refine Ops.val rfl rfl rfl (Val.pick rfl rfl) ?_
    refine Ops.val rfl rfl rfl (Val.move rfl) ?_
    refine Ops.bool (t := 79) rfl (fun h10 => ?_) (fun h10 => ?_)
    · repeat (first | refine Ops.skip rfl rfl rfl ?_ | refine Ops.val rfl rfl rfl (Val.pick rfl rfl) ?_ | refine Ops.val rfl rfl rfl (Val.move rfl) ?_)
      refine Ops.nil ?_
      exact fin (iff_of_true rfl (fun hm => by rw [hm.2.2.2.1] at h10; cases h10)) (by exact ⟨rfl, rfl, rfl, rfl, rfl, rfl, rfl, rfl, rfl, trivial⟩)
    refine Ops.val rfl rfl rfl (Val.move rfl) ?_
    refine Ops.val rfl rfl rfl (Val.move rfl) ?_
    refine Ops.eff rfl rfl rfl (Eff.callP 0 (fn (by kernel_rfl)) rfl (Ωc := Mp3 b15 b16 b17 bma bmb bmc ma mb mc) (Ωr := []) rfl (containsPc_does 167 #[.pointer (some ⟨b15, 0, none⟩), .pointer (some ⟨b17, 0, none⟩)] (Mp3 b15 b16 b17 bma bmb bmc ma mb mc) (Ox.bothB A C) h6 (by kernel_rfl) (fun p => both_does b15 b16 b17 bma bmb bmc ma mb mc A B C hma hmb hmc p h6) _ B (by omega) hpb)) fun _ => Ops.pure ?_
    rintro rfl
    refine Ops.val rfl rfl rfl (Val.pick rfl rfl) ?_
    refine Ops.nil ?_
    refine fin ?_ (by exact ⟨rfl, rfl, rfl, rfl, rfl, rfl, rfl, rfl, rfl, trivial⟩)
    constructor
    · intro e hm; rw [hm.2.2.2.2] at e; cases e
    · intro hnm
      cases hb : (B.any fun p => Ox.bothB A C p.1) with
      | true => rfl
      | false => exact absurd ⟨h7, h8, by simpa using h9, by simpa using h10, hb⟩ hnm
  refine goK _ ?_
  refine At.condP rfl (fun hn => ?_) (fun hn => ?_)
  · have he : Ox.docsE base x y nx ny = 141 := by rw [hde, if_pos hn]
    refine goK _ ?_
    exact At.ret2 Tryz.results133 (Res.tmp rfl) (Res.tmp rfl) (List.nil_sublist _) ⟨hc0.symm ▸ hle, .inl ⟨by omega, rfl, by rw [he]⟩⟩
  have hM := Classical.not_not.1 hn
  refine goK _ ?_
  refine Ops.val rfl rfl rfl (Val.makeFunc (cs := #[.pointer (some ⟨b15, 0, none⟩), .pointer (some ⟨b16, 0, none⟩), .pointer (some ⟨b17, 0, none⟩)]) (fun ρ hρ => by simp [hρ _ _ (show ev _ (.tmp 15) = some _ from rfl), hρ _ _ (show ev _ (.tmp 16) = some _ from rfl), hρ _ _ (show ev _ (.tmp 17) = some _ from rfl)])) ?_
  refine goK _ ?_
  refine Ops.val rfl rfl rfl (Val.makeFunc (cs := #[.pointer (some ⟨b15, 0, none⟩)]) (fun ρ hρ => by simp [hρ _ _ (show ev _ (.tmp 15) = some _ from rfl)])) ?_
  refine goK _ ?_
  have hsv : ∀ h p, Does Tryz.prog 173 (#[pcv p] ++ #[.pointer (some ⟨b15, 0, none⟩), .pointer (some ⟨b16, 0, none⟩), .pointer (some ⟨b17, 0, none⟩)]) (Mp3 b15 b16 b17 bma bmb bmc ma mb mc) h (fun r Ω' h' => r = .bool (Ox.surv A B C p.1) ∧ Ω' = Mp3 b15 b16 b17 bma bmb bmc ma mb mc ∧ h = h') := fun h p => survives_does b15 b16 b17 bma bmb bmc ma mb mc A B C hma hmb hmc p h
  have hfr : ∀ h p, Does Tryz.prog 174 (#[pcv p] ++ #[.pointer (some ⟨b15, 0, none⟩)]) (Mp3 b15 b16 b17 bma bmb bmc ma mb mc) h (fun r Ω' h' => r = .bool (Ox.fresh A p.1) ∧ Ω' = Mp3 b15 b16 b17 bma bmb bmc ma mb mc ∧ h = h') := fun h p => fresh_does b15 b16 b17 bma bmb bmc ma mb mc A B C hma hmb hmc p h
  refine At.row_nil 265 4 ?_
  refine At.loop2 (fun (i : Nat) (u : Value) => [(3, .int .i64 nx), (4, .int .i64 ny), (13, .slice pba B.length pbc), (14, .slice pca C.length pcc'), (19, .func (.func 173) #[] #[.pointer (some ⟨b15, 0, none⟩), .pointer (some ⟨b16, 0, none⟩), .pointer (some ⟨b17, 0, none⟩)]), (20, .func (.func 174) #[] #[.pointer (some ⟨b15, 0, none⟩)]), (21, u), (86, .slice paa A.length pac), (87, .int .i64 (A.length : Int)), (88, .int .i64 (i : Int))])
    (fun (i : Nat) (u : Value) w => i ≤ A.length ∧ Mem c (row 265 4 u ((A.take i).filter fun p => Ox.surv A B C p.1).length (((A.take i).filter fun p => Ox.surv A B C p.1).flatMap pcc) :: Mp3 b15 b16 b17 bma bmb bmc ma mb mc) h6 w) (fun (i : Nat) (_ : Value) => A.length - i)
    0 (.slice none 0 0) ⟨rfl, rfl, rfl, rfl, rfl, rfl, rfl, rfl, rfl, rfl, trivial⟩ (fun w hw => ⟨Nat.zero_le _, hw⟩) (fun i u => At.pure (fun hi => ?_))
  refine goK _ ?_
  refine At.condP rfl (fun h2 => ?_) (fun h2 => ?_)
  · have hlt : i < A.length := by omega
    obtain ⟨b0, o0, rfl, _, _, hcx⟩ := RowH.elem pcc_length hpa (i := i) (x := A[i]) (by simp [hlt])
    have hts : A.take (i + 1) = A.take i ++ [A[i]] := by rw [List.take_succ_eq_append_getElem hlt]
    have hfl := (List.filter_sublist (p := fun p => Ox.surv A B C p.1) (l := A.take i)).length_le
    rw [List.length_take] at hfl
    generalize hx : A[i] = q at *
    repeat (first | refine Ops.val rfl rfl rfl (V.loadHA (cs := pcc q) rfl rfl rfl hcx) ?_ | refine goS _ ?_)
    refine Ops.eff rfl rfl rfl (E.alloc rfl) fun _ => Ops.ex fun b23 => Ops.pure ?_
    rintro rfl
    refine Ops.eff0 rfl rfl (E.store 0 rfl rfl rfl rfl rfl rfl rfl) fun _ => ?_
    repeat (first | refine Ops.val rfl rfl rfl (V.loadOA 0 rfl rfl rfl rfl) ?_ | refine goS _ ?_)
    refine Ops.eff rfl rfl rfl (Eff.callvP 2 (fn (by kernel_rfl)) rfl rfl (Ωc := Mp3 b15 b16 b17 bma bmb bmc ma mb mc) (Ωr := []) (by simp) (hsv h6 q)) fun _ => Ops.pure ?_
    rintro rfl
    refine goK _ ?_
    refine At.cond rfl (fun h3 => ?_) (fun h3 => ?_)
    · repeat (first | refine Ops.val rfl rfl rfl (V.loadOA 0 rfl rfl rfl rfl) ?_ | refine goS _ ?_)
      refine Ops.eff rfl rfl rfl (E.buildSlice1 rfl rfl rfl rfl) fun _ => Ops.ex fun _ => Ops.pure ?_
      rintro rfl
      refine Ops.eff rfl rfl rfl (E.append1s 1 rfl rfl rfl rfl rfl rfl (by omega) (by omega)) fun _ => Ops.ex fun g2 => Ops.ex fun cp2 => Ops.pure ?_
      rintro rfl
      refine goK _ ?_
      refine At.back2 (i + 1) (.slice (some ⟨g2, 0, none⟩) (((A.take i).filter fun p => Ox.surv A B C p.1).length + 1) cp2) (by show A.length - (i + 1) < A.length - i; omega) (by exact ⟨rfl, rfl, rfl, rfl, rfl, rfl, rfl, rfl, rfl, rfl, trivial⟩) (fun w hw => ⟨hlt, ?_⟩)
      have hn : (A.take (i + 1)).filter (fun p => Ox.surv A B C p.1) = (A.take i).filter (fun p => Ox.surv A B C p.1) ++ [q] := by rw [hts, List.filter_append]; simp [h3]
      rw [hn, List.length_append, List.flatMap_append]
      exact hw.sub (List.sublist_cons_self _ _)
    refine goK _ ?_
    refine At.back2 (i + 1) u (by show A.length - (i + 1) < A.length - i; omega) (by exact ⟨rfl, rfl, rfl, rfl, rfl, rfl, rfl, rfl, rfl, rfl, trivial⟩) (fun w hw => ⟨hlt, ?_⟩)
    have hn : (A.take (i + 1)).filter (fun p => Ox.surv A B C p.1) = (A.take i).filter (fun p => Ox.surv A B C p.1) := by rw [hts, List.filter_append]; simp [h3]
    rw [hn]
    exact hw.sub (List.sublist_cons_self _ _)
  obtain rfl : i = A.length := by omega
  rw [List.take_length, show (A.filter fun p => Ox.surv A B C p.1) = Ox.kept A B C from rfl]
  have hKA : (Ox.kept A B C).length ≤ A.length := (List.filter_sublist).length_le
  have hwl1 := Ox.splits_sum (Ox.surv A B C) (Ox.fresh A) B
  have hwl2 := Ox.splits_sum (Ox.surv A B C) (Ox.fresh A) C
  refine At.exit rfl ?_
  refine At.publish_row 0 rfl fun h7 hle7 hall => ?_
  obtain ⟨ua, ucp, rfl⟩ := SlH.form hall
  refine goK _ ?_
  refine Ops.eff rfl rfl rfl (Eff.callAt 0 (fn (by kernel_rfl)) rfl (Ωc := Mp3 b15 b16 b17 bma bmb bmc ma mb mc) (Ωr := []) rfl (split_does 173 174 _ _ (Mp3 b15 b16 b17 bma bmb bmc ma mb mc) (Ox.surv A B C) (Ox.fresh A) h7 (by kernel_rfl) (by kernel_rfl) hsv hfr _ B (Ox.kept A B C).length (by omega) (by omega) (Ox.surv_few hnb) (hpb.mono hle7))) fun lv => Ops.ex fun _ => Ops.ex fun h8 => Ops.pure ?_
  rintro ⟨hle8, usL, hulL, rfl, hL⟩
  refine goK _ ?_
  refine Ops.eff rfl rfl rfl (Eff.callAt 1 (fn (by kernel_rfl)) rfl (Ωc := Mp3 b15 b16 b17 bma bmb bmc ma mb mc) (Ωr := []) rfl (split_does 173 174 _ _ (Mp3 b15 b16 b17 bma bmb bmc ma mb mc) (Ox.surv A B C) (Ox.fresh A) h8 (by kernel_rfl) (by kernel_rfl) hsv hfr _ C (Ox.kept A B C).length (by omega) (by omega) (Ox.surv_few hnc) ((hpc.mono hle7).mono hle8))) fun rv => Ops.ex fun _ => Ops.ex fun h9 => Ops.pure ?_
  rintro ⟨hle9, usR, hulR, rfl, hR⟩
  refine Ops.val rfl rfl rfl (Val.assign rfl) ?_
  refine Ops.val rfl rfl rfl (Val.assign rfl) ?_
  refine Ops.nil ?_
  refine At.publish_row 7 rfl fun h10 hle10 hsL => ?_
  refine At.publish_row 0 rfl fun h11 hle11 hsR => ?_
  replace hsL := hsL.mono hle11
  replace hL := ((hL.mono hle9).mono hle10).mono hle11
  replace hR := (hR.mono hle10).mono hle11
  replace hall : PcsH h11 (.slice ua (Ox.kept A B C).length ucp) (Ox.kept A B C) := (((SlH.mono hall hle8).mono hle9).mono hle10).mono hle11
  replace hle : HV.le h h11 := ((((hle.trans hle7).trans hle8).trans hle9).trans hle10).trans hle11
  clear hle7 hle8 hle9 hle10 hle11 hsv hfr
  obtain ⟨la, lcp, rfl⟩ := hsL.form
  obtain ⟨ra, rcp, rfl⟩ := hsR.form
  have hme : Ox.mergePcs nx ny A B C = Ox.mtake nx ny (Ox.kept A B C) (Ox.splits (Ox.surv A B C) (Ox.fresh A) B) (Ox.splits (Ox.surv A B C) (Ox.fresh A) C) ((Ox.kept A B C).length + 1) := rfl
  have hokm : ∀ p ∈ Ox.mergePcs nx ny A B C, Ox.PcOk p := fun p hp => by
    rcases Ox.mtake_mem hp with h1 | h1 | h1
    · exact hoa p h1
    · exact hob p h1
    · exact hoc p h1
  have hmlen : ∀ g, g ≤ 1001 → (Ox.mtake nx ny (Ox.kept A B C) (Ox.splits (Ox.surv A B C) (Ox.fresh A) B) (Ox.splits (Ox.surv A B C) (Ox.fresh A) C) g).length ≤ 2003001 := fun g hg => by
    refine Nat.le_trans (Ox.mtake_length ..) (Nat.le_trans (Nat.mul_le_mul hg (show _ ≤ 2001 by omega)) (by omega))
  have hpl : ∀ g, ((Ox.splits (Ox.surv A B C) (Ox.fresh A) B)[g]?.getD []).length ≤ 1000 := fun g => Nat.le_trans (Ox.part_le _ g) (by omega)
  have hpr : ∀ g, ((Ox.splits (Ox.surv A B C) (Ox.fresh A) C)[g]?.getD []).length ≤ 1000 := fun g => Nat.le_trans (Ox.part_le _ g) (by omega)
  rw [hme] at hde hokm ⊢
  generalize Ox.splits (Ox.surv A B C) (Ox.fresh A) B = L at *
  generalize Ox.splits (Ox.surv A B C) (Ox.fresh A) C = R at *
  generalize Ox.kept A B C = K at *
  refine goK _ ?_
  refine At.respell (t := 114) (v' := .int .i64 ((K.length + 1 : Nat) : Int)) rfl (by congr 1) ?_
  refine At.row_nil 265 4 ?_
  refine At.pick (Ω' := [row 265 4 (.slice none 0 0) 0 []]) [0] (by decide) rfl ?_
  refine At.loop3 (fun (g : Nat) (v : Value) (_ : HV) => [(3, .int .i64 nx), (4, .int .i64 ny), (21, .slice ua K.length ucp), (24, .slice la (K.length + 1) lcp), (25, .slice ra (K.length + 1) rcp), (26, v), (114, .int .i64 ((K.length + 1 : Nat) : Int)), (115, .int .i64 (g : Int))])
    (fun (g : Nat) (v : Value) (h' : HV) w => (g ≤ K.length + 1 ∧ HV.le h11 h') ∧ Mem c [row 265 4 v (Ox.mtake nx ny K L R g).length ((Ox.mtake nx ny K L R g).flatMap pcc)] h' w) (fun (g : Nat) (_ : Value) (_ : HV) => K.length + 1 - g)
    0 (.slice none 0 0) h11 ⟨rfl, rfl, rfl, rfl, rfl, rfl, rfl, rfl, trivial⟩ (fun w hw => ⟨⟨Nat.zero_le _, HV.le.refl _⟩, hw⟩) (fun g v h' => At.pure (fun hq => ?_))
  obtain ⟨hg, hle'⟩ := hq
  have hml := hmlen g (by omega)
  refine goK _ ?_
  refine At.condP rfl (fun h2 => ?_) (fun h2 => ?_)
  rotate_left
  · obtain rfl : g = K.length + 1 := by omega
    refine At.exit rfl ?_
    refine At.publish_row 0 rfl fun h12 hle12 hout => ?_
    obtain ⟨oa, ocp, rfl⟩ := SlH.form hout
    refine goK _ ?_
    refine At.condP rfl (fun h3 => ?_) (fun h3 => ?_)
    · have he : Ox.docsE base x y nx ny = 91 := by rw [hde, if_neg (fun hq => hq hM), if_pos (by omega)]
      refine goK _ ?_
      exact At.ret2 Tryz.results133 (Res.tmp rfl) (Res.tmp rfl) (List.nil_sublist _) ⟨hc0.symm ▸ ((hle.trans hle').trans hle12), .inl ⟨by omega, rfl, by rw [he]⟩⟩
    · have he : Ox.docsE base x y nx ny = 0 := by rw [hde, if_neg (fun hq => hq hM), if_neg (by omega)]
      refine goK _ ?_
      refine Ops.eff rfl rfl rfl (Eff.call (fn (by kernel_rfl)) rfl (Ωc := []) rfl (runs_does _ (Ox.mtake nx ny K L R (K.length + 1)) (by omega) hokm h12 hout)) fun _ => Ops.ex fun _ => Ops.ex fun _ => Ops.pure ?_
      rintro ⟨rfl, rfl, rfl⟩
      refine goK _ ?_
      exact At.ret2 Tryz.results133 (Res.tmp rfl) (Res.tmp rfl) (List.Sublist.refl _) ⟨hc0.symm ▸ ((hle.trans hle').trans hle12), .inr ⟨he, _, rfl, rfl⟩⟩
  have hgk : g ≤ K.length := by omega
  refine At.skip ?_
  refine At.publish_row 0 rfl fun h12 hle12 hout => ?_
  have hle2 := hle'.trans hle12
  obtain ⟨oa, ocp, rfl⟩ := SlH.form hout
  obtain ⟨wl, hwl, hwlp⟩ := (hL.mono hle2) g (by omega)
  obtain ⟨wr, hwr, hwrp⟩ := (hR.mono hle2) g (by omega)
  obtain ⟨bl, ol, rfl, _, _, hcl⟩ := SlH.get (hsL.mono hle2) hwl
  obtain ⟨br, or, rfl, _, _, hcr⟩ := SlH.get (hsR.mono hle2) hwr
  have hpl' := hpl g; have hpr' := hpr g
  generalize hLg : L[g]?.getD [] = Lg at *
  generalize hRg : R[g]?.getD [] = Rg at *
  refine goK _ ?_
  first | refine At.drawn mo (fun _ _ m => m.drew _) ?_ | refine At.seq (At.drawn mo (fun _ _ m => m.drew _) ?_)
  refine Dr.val 0 rfl rfl rfl rfl (by kernel_rfl) rfl (Val.move rfl) ?_
  refine Dr.val 1 rfl rfl rfl rfl (by kernel_rfl) rfl (Val.move rfl) ?_
  refine Dr.val 2 rfl rfl rfl rfl (by kernel_rfl) rfl (V.indexAddr rfl rfl rfl rfl (by omega)) ?_
  refine Dr.valS 3 _ rfl rfl rfl rfl (by kernel_rfl) rfl (V.load rfl rfl (fun _ hh => hh)) (fun w hw => hw.cellH (hcl)) ?_
  refine Dr.val 4 rfl rfl rfl rfl (by kernel_rfl) rfl (Val.move rfl) ?_
  refine Dr.val 5 rfl rfl rfl rfl (by kernel_rfl) rfl (Val.move rfl) ?_
  refine Dr.val 6 rfl rfl rfl rfl (by kernel_rfl) rfl (V.indexAddr rfl rfl rfl rfl (by omega)) ?_
  refine Dr.valS 7 _ rfl rfl rfl rfl (by kernel_rfl) rfl (V.load rfl rfl (fun _ hh => hh)) (fun w hw => hw.cellH (hcr)) ?_
  refine Dr.val 8 rfl rfl rfl rfl (by kernel_rfl) rfl (Val.assign rfl) ?_
  refine Dr.val 9 rfl rfl rfl rfl (by kernel_rfl) rfl (Val.assign rfl) ?_
  refine Dr.done (by kernel_rfl) (by kernel_rfl) ?_
  refine goK _ ?_
  refine Ops.eff rfl rfl rfl (Eff.call (fn (by kernel_rfl)) rfl (Ωc := []) rfl (said_does wl Lg (by omega) h12 hwlp)) fun _ => Ops.ex fun _ => Ops.ex fun _ => Ops.pure ?_
  rintro ⟨rfl, rfl, rfl⟩
  refine goK _ ?_
  refine Ops.eff rfl rfl rfl (Eff.call (fn (by kernel_rfl)) rfl (Ωc := []) rfl (said_does wr Rg (by omega) h12 hwrp)) fun _ => Ops.ex fun _ => Ops.ex fun _ => Ops.pure ?_
  rintro ⟨rfl, rfl, rfl⟩
  refine Ops.eff rfl rfl rfl (Eff.call (fn (by kernel_rfl)) rfl (Ωc := []) rfl (Compare_does (Ox.saidOf Lg) (Ox.saidOf Rg) h12)) fun _ => Ops.ex fun _ => Ops.ex fun _ => Ops.pure ?_
  rintro ⟨rfl, rfl, rfl⟩
  refine goK _ ?_
  refine Ops.forkR 141 (.bool (decide (0 < Ox.cmp (Ox.saidOf Lg) (Ox.saidOf Rg) ∨ (Ox.cmp (Ox.saidOf Lg) (Ox.saidOf Rg) = 0 ∧ nx > ny)))) [3, 4, 21, 24, 25, 26, 27, 28, 29, 114, 115] ?_ (fun main => ?_)
  rotate_left
  · repeat' (first
      | refine opS _ ?_
      | refine Ops.gsplit rfl rfl (fun hb => ?_) (fun hb => ?_)
      | refine Ops.psplit rfl (fun hb => ?_) (fun hb => ?_))
    all_goals (refine Ops.nil ?_; refine main.sub ⟨congrArg (fun b => some (Value.bool b)) ?_, (by repeat (first | exact trivial | refine ⟨rfl, ?_⟩))⟩; clear main; (rw [Bool.eq_iff_iff]; simp at *; try omega))
  refine At.meet4 (fun (v1 v2 : Value) (_ _ : List Ox.Pc) => [(3, .int .i64 nx), (4, .int .i64 ny), (21, .slice ua K.length ucp), (24, .slice (some ⟨bl, ol, none⟩) (K.length + 1) lcp), (25, .slice (some ⟨br, or, none⟩) (K.length + 1) rcp), (26, .slice oa (Ox.mtake nx ny K L R g).length ocp), (27, .int .i64 (g : Int)), (28, v1), (29, v2), (114, .int .i64 ((K.length + 1 : Nat) : Int)), (115, .int .i64 (g : Int))])
    (fun v1 v2 l1 l2 w => (PcsH h12 v1 l1 ∧ PcsH h12 v2 l2 ∧ l1 ++ l2 = Ox.mpart nx ny Lg Rg) ∧ Mem c [] h12 w) (fun k' meet => ?_) (fun v1 v2 l1 l2 => At.pure fun hq => ?_)
  · refine At.condP rfl (fun h3 => ?_) (fun h3 => ?_)
    · refine goK _ ?_
      refine meet wr wl Rg Lg (by exact ⟨rfl, rfl, rfl, rfl, rfl, rfl, rfl, rfl, rfl, rfl, rfl, trivial⟩) (fun w hw => ⟨⟨hwrp, hwlp, by rw [Ox.mpart, if_pos h3]⟩, hw⟩)
    · refine goK _ ?_
      refine meet wl wr Lg Rg (by exact ⟨rfl, rfl, rfl, rfl, rfl, rfl, rfl, rfl, rfl, rfl, rfl, trivial⟩) (fun w hw => ⟨⟨hwlp, hwrp, by rw [Ox.mpart, if_neg h3]⟩, hw⟩)
  obtain ⟨hv1', hv2', h12e⟩ := hq
  obtain ⟨a1', c1', rfl⟩ := hv1'.form
  obtain ⟨a2', c2', rfl⟩ := hv2'.form
  have hl12 : l1.length + l2.length ≤ 2000 := by
    have := congrArg List.length h12e
    rw [List.length_append, Ox.mpart_length] at this; omega
  refine goK _ ?_
  refine Ops.eff rfl rfl rfl (Eff.buildSlice3 (ap rfl) rfl rfl rfl rfl rfl rfl) fun _ => Ops.ex fun bq => Ops.pure ?_
  rintro rfl
  refine Ops.imp (S' := Mem c [row 258 1 (.slice (some ⟨bq, 0, none⟩) 3 3) 3 [.slice oa (Ox.mtake nx ny K L R g).length ocp, .slice a1' l1.length c1', .slice a2' l2.length c2']] h12) ?_ (fun w hw => Mem.rowOf (m := 1) hw rfl (by simp [maxLen]))
  have hcat : Does Tryz.prog 178 #[.slice (some ⟨bq, 0, none⟩) 3 3] [row 258 1 (.slice (some ⟨bq, 0, none⟩) 3 3) 3 [.slice oa (Ox.mtake nx ny K L R g).length ocp, .slice a1' l1.length c1', .slice a2' l2.length c2']] h12
      (fun r Ω' h' => Ω' = [row 258 1 (.slice (some ⟨bq, 0, none⟩) 3 3) 3 [.slice oa (Ox.mtake nx ny K L R g).length ocp, .slice a1' l1.length c1', .slice a2' l2.length c2'], row 265 4 r (Ox.mtake nx ny K L R g ++ (l1 ++ l2)).length ((Ox.mtake nx ny K L R g ++ (l1 ++ l2)).flatMap pcc)] ∧ h12 = h') := by
    refine (Does.lend (Ωc := []) (post := fun r Ω' => Ω' = [row 265 4 r (Ox.mtake nx ny K L R g ++ (l1 ++ l2)).length ((Ox.mtake nx ny K L R g ++ (l1 ++ l2)).flatMap pcc)]) (fun h' hle' hsl => ?_)).mono fun r Ω' h' ⟨⟨Ω'', e1, e2⟩, e3⟩ => ⟨by rw [e2, e1], e3⟩
    have hfl : [Ox.mtake nx ny K L R g, l1, l2].flatten = Ox.mtake nx ny K L R g ++ (l1 ++ l2) := by simp
    refine (Concat_does _ _ [Ox.mtake nx ny K L R g, l1, l2] rfl (by simp) (by rw [hfl, List.length_append, List.length_append]; omega) h' hsl (fun j hj => ?_)).mono fun r Ω' h'' ⟨e1, e2⟩ => ⟨by rw [e1, hfl], e2⟩
    rcases j with _ | _ | _ | j
    · exact ⟨_, rfl, SlH.mono hout hle'⟩
    · exact ⟨_, rfl, hv1'.mono hle'⟩
    · exact ⟨_, rfl, hv2'.mono hle'⟩
    · simp at hj; omega
  refine Ops.eff rfl rfl rfl (Eff.call (fn (by kernel_rfl)) rfl (Ωc := [row 258 1 (.slice (some ⟨bq, 0, none⟩) 3 3) 3 [.slice oa (Ox.mtake nx ny K L R g).length ocp, .slice a1' l1.length c1', .slice a2' l2.length c2']]) rfl (hcat)) fun _ => Ops.ex fun _ => Ops.ex fun _ => Ops.pure ?_
  rintro ⟨rfl, rfl⟩
  rename_i vn
  refine goK _ ?_
  have hll : (Ox.mtake nx ny K L R g ++ (l1 ++ l2)).length ≤ 3000000 := by rw [List.length_append, List.length_append]; omega
  have hnx : Ox.mtake nx ny K L R (g + 1) = Ox.mtake nx ny K L R g ++ (l1 ++ l2) ++ K[g]?.toList := by
    rw [Ox.mtake_succ, Ox.mgap, hLg, hRg, h12e, List.append_assoc]
  generalize Ox.mtake nx ny K L R g ++ (l1 ++ l2) = M at *
  refine At.condP rfl (fun h3 => ?_) (fun h3 => ?_)
  · have hlt : g < K.length := by omega
    obtain ⟨b0, o0, rfl, _, _, hcx⟩ := RowH.elem pcc_length (hall.mono hle2) (i := g) (x := K[g]) (by simp [hlt])
    rw [List.getElem?_eq_getElem hlt] at hnx
    generalize hx : K[g] = q at *
    repeat (first | refine Ops.val rfl rfl rfl (V.loadHA (cs := pcc q) rfl rfl rfl hcx) ?_ | refine goS _ ?_)
    refine Ops.eff rfl rfl rfl (E.buildSlice1 rfl rfl rfl rfl) fun _ => Ops.ex fun _ => Ops.pure ?_
    rintro rfl
    refine Ops.eff rfl rfl rfl (E.append1s 1 rfl rfl rfl rfl rfl rfl (by omega) (by omega)) fun _ => Ops.ex fun g2 => Ops.ex fun cp2 => Ops.pure ?_
    rintro rfl
    refine goK _ ?_
    refine At.back3 (g + 1) (.slice (some ⟨g2, 0, none⟩) (M.length + 1) cp2) h12 (by show K.length + 1 - (g + 1) < K.length + 1 - g; omega) (by exact ⟨rfl, rfl, rfl, rfl, rfl, rfl, rfl, rfl, trivial⟩) (fun w hw => ⟨⟨by omega, hle2⟩, ?_⟩)
    rw [hnx, Option.toList_some, List.length_append, List.flatMap_append]
    exact hw.sub (List.sublist_cons_self _ _)
  · have hnx' : K[g]? = none := List.getElem?_eq_none (by omega)
    rw [hnx', Option.toList_none, List.append_nil] at hnx
    refine goK _ ?_
    refine At.back3 (g + 1) vn h12 (by show K.length + 1 - (g + 1) < K.length + 1 - g; omega) (by exact ⟨rfl, rfl, rfl, rfl, rfl, rfl, rfl, rfl, trivial⟩) (fun w hw => ⟨⟨by omega, hle2⟩, ?_⟩)
    rw [hnx]
    exact hw.sub (List.sublist_cons_self _ _)
end Go.Proofs.YthjgbmbaabpgmaaGreat
