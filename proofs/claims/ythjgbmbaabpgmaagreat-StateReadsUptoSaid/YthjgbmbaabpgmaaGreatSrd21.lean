/-
  Merging: the delta from a document to another that keeps the atoms that both have.
-/
import Derived.Test.YthjgbmbaabpgmaaGreatSrd05
import Derived.Test.YthjgbmbaabpgmaaGreatSrd20
set_option linter.unusedVariables false
set_option linter.unusedSimpArgs false
set_option linter.unusedSectionVars false
namespace Go.Proofs.YthjgbmbaabpgmaaGreat
open Go.Sy
set_option maxRecDepth 4000
set_option maxHeartbeats 4000000
namespace Ox
def dPut (out : List Op) (p : Pc) : List Op := match out.getLast? with
  | some l => if l.kind = 2 then out.dropLast ++ [{ l with text := l.text ++ enc p.2 }] else out ++ [⟨2, 0, enc p.2⟩]
  | none => out ++ [⟨2, 0, enc p.2⟩]
def dStep (A : List Pc) (s : List Op × Nat) (p : Pc) : List Op × Nat :=
  if 0 < posF A p.1 then ((if s.2 < posF A p.1 - 1 then s.1 ++ [⟨3, (posF A p.1 : Int) - 1 - (s.2 : Int), []⟩] else s.1) ++ [⟨1, 1, []⟩], posF A p.1) else (dPut s.1 p, s.2)
def dFold (A l : List Pc) : List Op × Nat := l.foldl (dStep A) ([], 0)
/-- the delta, not yet normal -/
def dOut (A B : List Pc) : List Op := if (dFold A B).2 < A.length then (dFold A B).1 ++ [⟨3, (A.length : Int) - ((dFold A B).2 : Int), []⟩] else (dFold A B).1
theorem dFold_snoc (A l : List Pc) (p : Pc) : dFold A (l ++ [p]) = dStep A (dFold A l) p := by simp [dFold]
theorem dPut_facts (out : List Op) (p : Pc) (m : Nat) (h : ∀ o ∈ out, o.text.length ≤ m) : (dPut out p).length ≤ out.length + 1 ∧ ∀ o ∈ dPut out p, o.text.length ≤ m + 4 := by
  have h4 : (enc p.2).length ≤ 4 := by rw [enc_length]; exact (size_pos _).2
  have hnew : (out ++ [(⟨2, 0, enc p.2⟩ : Op)]).length ≤ out.length + 1 ∧ ∀ o ∈ out ++ [(⟨2, 0, enc p.2⟩ : Op)], o.text.length ≤ m + 4 := by
    refine ⟨by simp, fun o ho => ?_⟩
    rcases List.mem_append.1 ho with h1 | h1
    · have := h o h1; omega
    · simp at h1; subst h1; simp only; omega
  rcases List.eq_nil_or_concat out with rfl | ⟨r, l, rfl⟩
  · simpa [dPut] using hnew
  · rw [List.concat_eq_append] at *
    simp only [dPut, List.getLast?_append, List.getLast?_singleton, Option.some_or, List.dropLast_concat]
    split
    · refine ⟨by simp, fun o ho => ?_⟩
      rcases List.mem_append.1 ho with h1 | h1
      · have := h o (by simp [h1]); omega
      · simp at h1; subst h1; have := h l (by simp); simp; omega
    · exact hnew
theorem dStep_facts (A : List Pc) (s : List Op × Nat) (p : Pc) (m : Nat) (h : ∀ o ∈ s.1, o.text.length ≤ m) (ha : s.2 ≤ A.length) :
    (dStep A s p).1.length ≤ s.1.length + 2 ∧ (∀ o ∈ (dStep A s p).1, o.text.length ≤ m + 4) ∧ (dStep A s p).2 ≤ A.length := by
  have hp := (posF_at A p.1).1
  have hd := dPut_facts s.1 p m h
  unfold dStep
  split
  · refine ⟨?_, fun o ho => ?_, hp⟩
    · split <;> simp
    · have ho' : o ∈ s.1 ∨ o.text = [] := by
        split at ho
        · simp only [List.mem_append, List.mem_singleton] at ho
          rcases ho with (h1 | h1) | h1
          · exact .inl h1
          · subst h1; exact .inr rfl
          · subst h1; exact .inr rfl
        · simp only [List.mem_append, List.mem_singleton] at ho
          rcases ho with h1 | h1
          · exact .inl h1
          · subst h1; exact .inr rfl
      rcases ho' with h1 | h1
      · have := h o h1; omega
      · rw [h1]; simp
  · exact ⟨by simp only; omega, hd.2, ha⟩
theorem dFold_facts (A : List Pc) (l : List Pc) : (dFold A l).1.length ≤ 2 * l.length ∧ (∀ o ∈ (dFold A l).1, o.text.length ≤ 4 * l.length) ∧ (dFold A l).2 ≤ A.length := by
  induction l using snocInd with
  | nil => simp [dFold]
  | snoc l p ih =>
    have := dStep_facts A (dFold A l) p _ ih.2.1 ih.2.2
    rw [dFold_snoc, List.length_append]
    refine ⟨by simp; omega, fun o ho => ?_, this.2.2⟩
    have := this.2.1 o ho
    simp; omega
theorem dOut_facts (A B : List Pc) : (dOut A B).length ≤ 2 * B.length + 1 ∧ (∀ o ∈ dOut A B, o.text.length ≤ 4 * B.length) := by
  have h := dFold_facts A B
  unfold dOut
  split
  · refine ⟨by simp; omega, fun o ho => ?_⟩
    rcases List.mem_append.1 ho with h1 | h1
    · exact h.2.1 o h1
    · simp at h1; subst h1; simp
  · exact ⟨by omega, h.2.1⟩
/-- may one go over to the other -/
def Goes (a b : List Pc) : Prop := Alike a b ∧ riseB (posF b) a = true
end Ox
attribute [local irreducible] At Ops Val Eff Does Res Dr

theorem dIn_does (b bm : Nat) (m : List (Ox.Pt × Value)) (B : List Ox.Pc) (hB : PlM m B) (p : Ox.Pc) (h : HV) :
    Does Tryz.prog 180 #[pcv p, .pointer (some ⟨b, 0, none⟩)] [cells b [.map (some bm)] 260, mapI ptv bm m] h (fun r Ω' h' => r = .int .i64 (Ox.posF B p.1 : Int) ∧ Ω' = [cells b [.map (some bm)] 260, mapI ptv bm m] ∧ h = h') := by
  unfold pcv
  obtain ⟨⟨⟨xc, xm⟩, xn⟩, xt⟩ := p
  have h2 := hB ⟨⟨xc, xm⟩, xn⟩
  refine Does.of Tryz.func180 rfl Tryz.ntmps180 rfl fun c hc0 => ?_
  refine goK _ ?_
  refine Ops.eff rfl rfl rfl (Eff.box rfl) fun _ => Ops.ex fun b4 => Ops.pure ?_
  rintro rfl
  repeat (first | refine Ops.val rfl rfl rfl (V.loadOP 0 [.int .i64 xc, .int .i64 xm, .int .i64 xn] rfl rfl rfl rfl rfl) ?_ | refine goS _ ?_)
  refine Ops.val rfl rfl rfl (V.lookup (κ := ptv) (a := ⟨⟨xc, xm⟩, xn⟩) (m := m) 2 key263 rfl rfl rfl rfl rfl) ?_
  refine Ops.respell (t := 7) rfl h2 ?_
  refine goK _ ?_
  exact At.ret1 Tryz.results180 (Res.tmp rfl) (List.sublist_cons_self _ _) ⟨rfl, rfl, hc0.symm ▸ rfl⟩

open Classical in
theorem Delta_does (ux uy : Value) (x y : List Ox.Atom) (ht1 : ∀ a ∈ x, a.text.length ≤ 10000000000) (hl1 : x.length ≤ 1000000) (ht2 : ∀ a ∈ y, a.text.length ≤ 10000000000) (hl2 : y.length ≤ 1000000)
    (h : HV) (hv1 : AtsH h ux x) (hv2 : AtsH h uy y) :
    Does Tryz.prog 134 #[ux, uy] [] h (fun r Ω' h' => Ω' = [] ∧ HV.le h h' ∧
      ((¬ (Ox.Good x ∧ Ox.Good y) ∧ r = .tuple #[.slice none 0 0, .int .i64 120]) ∨
      (Ox.Good x ∧ Ox.Good y ∧ ¬ Ox.Goes (Ox.flat x) (Ox.flat y) ∧ r = .tuple #[.slice none 0 0, .int .i64 141]) ∨
      (Ox.Good x ∧ Ox.Good y ∧ Ox.Goes (Ox.flat x) (Ox.flat y) ∧ ((∃ ds u, (Ox.lens (Ox.dOut (Ox.flat x) (Ox.flat y))).2.2 = 0 ∧ Ox.parseAll (Ox.dOut (Ox.flat x) (Ox.flat y)) = some ds ∧ r = .tuple #[u, .int .i64 0] ∧ OpsH h' u (Ox.norm ds)) ∨
        ((Ox.lens (Ox.dOut (Ox.flat x) (Ox.flat y))).2.2 ≠ 0 ∧ r = .tuple #[.slice none 0 0, .int .i64 ((Ox.lens (Ox.dOut (Ox.flat x) (Ox.flat y))).2.2 : Int)]))))) := by
  obtain ⟨a1, cp1, rfl⟩ := hv1.form
  obtain ⟨a2, cp2, rfl⟩ := hv2.form
  have hz1 := check_zero x; have hz2 := check_zero y
  refine Does.of Tryz.func134 rfl Tryz.ntmps134 rfl fun c hc0 => ?_
  refine goK _ ?_
  refine Ops.forkR 23 (.bool (decide (¬ (Ox.check x = 0 ∧ Ox.check y = 0)))) [0, 1] ?_ (fun main => ?_)
  rotate_left
  · repeat' (first
      | (refine Ops.eff rfl rfl rfl (Eff.callP 0 (fn (by kernel_rfl)) rfl (Ωc := []) rfl (DocCheck_does _ x ht1 (by omega) h hv1)) fun _ => Ops.pure ?_; rintro rfl)
      | (refine Ops.eff rfl rfl rfl (Eff.callP 0 (fn (by kernel_rfl)) rfl (Ωc := []) rfl (DocCheck_does _ y ht2 (by omega) h hv2)) fun _ => Ops.pure ?_; rintro rfl)
      | refine opS _ ?_
      | refine Ops.gsplit rfl rfl (fun hb => ?_) (fun hb => ?_)
      | refine Ops.psplit rfl (fun hb => ?_) (fun hb => ?_))
    all_goals (refine Ops.nil ?_; refine main.sub ⟨congrArg (fun b => some (Value.bool b)) ?_, (by repeat (first | exact trivial | refine ⟨rfl, ?_⟩))⟩; clear main; (rw [Bool.eq_iff_iff]; simp at *; try omega))
  refine At.condP rfl (fun hn => ?_) (fun hn => ?_)
  · refine goK _ ?_
    exact At.ret2 Tryz.results134 (Res.tmp rfl) (Res.tmp rfl) (List.nil_sublist _) ⟨rfl, hc0.symm ▸ HV.le.refl _, .inl ⟨fun hg => hn ⟨hz1.2 hg.1, hz2.2 hg.2⟩, rfl⟩⟩
  have hG : Ox.Good x ∧ Ox.Good y := by
    have hn' := Classical.not_not.1 hn
    exact ⟨hz1.1 hn'.1, hz2.1 hn'.2⟩
  obtain ⟨hg1, hg2⟩ := hG
  have hfa := hg1.few; have hfb := hg2.few
  refine goK _ ?_
  refine Ops.eff rfl rfl rfl (Eff.call (fn (by kernel_rfl)) rfl (Ωc := []) rfl (pieces_does _ x hg1 h hv1)) fun _ => Ops.ex fun _ => Ops.ex fun _ => Ops.pure ?_
  rintro ⟨hle1, rfl⟩
  rename_i va h1
  refine goK _ ?_
  refine Ops.eff rfl rfl rfl (Eff.call (fn (by kernel_rfl)) rfl (Ωc := []) rfl (pieces_does _ y hg2 h1 (hv2.mono hle1))) fun _ => Ops.ex fun _ => Ops.ex fun _ => Ops.pure ?_
  rintro ⟨hle2, rfl⟩
  rename_i vb h2
  refine Ops.val rfl rfl rfl (Val.assign rfl) ?_
  refine Ops.val rfl rfl rfl (Val.assign rfl) ?_
  refine Ops.nil ?_
  refine At.publish_row 1 rfl fun h5 hle5 hpa => ?_
  refine At.publish_row 0 rfl fun h6 hle6 hpb => ?_
  have hfB : ∀ p, Ox.posF (Ox.flat y) p ≤ 10000000000 := fun p => Nat.le_trans (Ox.posF_at _ p).1 (by omega)
  generalize hA : Ox.flat x = A at *
  generalize hB : Ox.flat y = B at *
  replace hpa : PcsH h6 va A := SlH.mono hpa hle6
  replace hpb : PcsH h6 vb B := hpb
  have hle : HV.le h h6 := ((hle1.trans hle2).trans hle5).trans hle6
  clear hle1 hle2 hle5 hle6
  obtain ⟨paa, pac, rfl⟩ := hpa.form
  obtain ⟨pba, pbc, rfl⟩ := hpb.form
  refine goK _ ?_
  refine Ops.eff rfl rfl rfl (Eff.call (fn (by kernel_rfl)) rfl (Ωc := []) rfl (places_does _ A (by omega) h6 hpa)) fun _ => Ops.ex fun _ => Ops.ex fun _ => Ops.pure ?_
  rintro ⟨rfl, bma, ma, rfl, rfl, hma⟩
  refine goK _ ?_
  refine Ops.eff rfl rfl rfl (Eff.call (fn (by kernel_rfl)) rfl (Ωc := []) rfl (places_does _ B (by omega) h6 hpb)) fun _ => Ops.ex fun _ => Ops.ex fun _ => Ops.pure ?_
  rintro ⟨rfl, bmb, mb, rfl, rfl, hmb⟩
  refine Ops.eff rfl rfl rfl (E.alloc rfl) fun _ => Ops.ex fun b9 => Ops.pure ?_
  rintro rfl
  refine Ops.val rfl rfl rfl (Val.assign rfl) ?_
  refine Ops.eff0 rfl rfl (E.store 0 rfl rfl rfl rfl rfl rfl rfl) fun _ => ?_
  refine Ops.nil ?_
  refine At.pick (Ω' := [cells b9 [.map (some bmb)] 260, mapI ptv bmb mb, mapI ptv bma ma]) [0, 1, 2] (by decide) rfl ?_
  refine At.seq ?_
  refine At.seq ?_
  refine At.meet1 (fun (_ : Unit) => [(6, .slice paa A.length pac), (7, .slice pba B.length pbc), (8, .map (some bma)), (41, .bool (decide (¬ Ox.Goes A B)))])
    (fun _ w => Mem c [cells b9 [.map (some bmb)] 260, mapI ptv bmb mb, mapI ptv bma ma] h6 w) (fun k' meet => ?_) (fun _ => ?_)
  · have fin : ∀ {σ' : Slots} {b : Bool}, (b = true ↔ ¬ Ox.Goes A B) → Sy.Sub [(6, .slice paa A.length pac), (7, .slice pba B.length pbc), (8, .map (some bma)), (41, .bool b)] σ' → At Tryz.prog (bodyPost Tryz.prog Tryz.f134 _) _ σ' (Mem c [cells b9 [.map (some bmb)] 260, mapI ptv bmb mb, mapI ptv bma ma] h6) k' := fun {_ b} e hs => meet () ((show b = decide (¬ Ox.Goes A B) from by rw [Bool.eq_iff_iff, decide_eq_true_iff]; exact e) ▸ hs) (fun w hw => hw)
    refine At.region ?_
    refine Ops.val rfl rfl rfl (Val.move rfl) ?_
    refine Ops.val rfl rfl rfl (Val.move rfl) ?_
    refine Ops.eff rfl rfl rfl (Eff.callP 0 (fn (by kernel_rfl)) rfl (Ωc := []) rfl (alike_does _ _ A B (by omega) (by omega) h6 hpa hpb)) fun _ => Ops.pure ?_
    rintro rfl
    refine Ops.val rfl rfl rfl (Val.not rfl) ?_
    refine Ops.val rfl rfl rfl (Val.move rfl) ?_
    refine Ops.boolN (t := 36) rfl (fun h7 => ?_) (fun h7 => ?_)
    · repeat (first | refine Ops.skip rfl rfl rfl ?_ | refine Ops.val rfl rfl rfl (Val.pick rfl rfl) ?_ | refine Ops.val rfl rfl rfl (Val.move rfl) ?_)
      refine Ops.nil ?_
      exact fin (iff_of_true rfl (fun hm => h7 hm.1)) (by exact ⟨rfl, rfl, rfl, rfl, trivial⟩)
    refine Ops.val rfl rfl rfl (Val.move rfl) ?_
    refine Ops.val rfl rfl rfl (Val.makeFunc (cs := #[.pointer (some ⟨b9, 0, none⟩)]) (fun ρ hρ => by simp [hρ _ _ (show ev _ (.tmp 9) = some _ from rfl)])) ?_
    refine Ops.eff rfl rfl rfl (Eff.callP 0 (fn (by kernel_rfl)) rfl (Ωc := [cells b9 [.map (some bmb)] 260, mapI ptv bmb mb]) (Ωr := [mapI ptv bma ma]) rfl (rising_does 180 #[.pointer (some ⟨b9, 0, none⟩)] [cells b9 [.map (some bmb)] 260, mapI ptv bmb mb] (Ox.posF B) h6 (by kernel_rfl) hfB (fun p => dIn_does b9 bmb mb B hmb p h6) _ A (by omega) hpa)) fun _ => Ops.pure ?_
    rintro rfl
    refine Ops.val rfl rfl rfl (Val.not rfl) ?_
    refine Ops.val rfl rfl rfl (Val.pick rfl rfl) ?_
    refine Ops.nil ?_
    refine fin ?_ (by exact ⟨rfl, rfl, rfl, rfl, trivial⟩)
    constructor
    · intro e hm; rw [hm.2] at e; cases e
    · intro hnm
      cases hb : Ox.riseB (Ox.posF B) A with
      | false => rfl
      | true => exact absurd ⟨h7, hb⟩ hnm
  refine goK _ ?_
  refine At.condP rfl (fun hn => ?_) (fun hn => ?_)
  · refine goK _ ?_
    exact At.ret2 Tryz.results134 (Res.tmp rfl) (Res.tmp rfl) (List.nil_sublist _) ⟨rfl, hc0.symm ▸ hle, .inr (.inl ⟨hg1, hg2, hn, rfl⟩)⟩
  have hM := Classical.not_not.1 hn
  refine At.pick (Ω' := [mapI ptv bma ma]) [2] (by decide) rfl ?_
  refine At.row_nil 112 3 ?_
  refine goK _ ?_
  refine At.loop2 (fun (i : Nat) (v : Value) => [(6, .slice paa A.length pac), (8, .map (some bma)), (10, v), (11, .int .i64 (((Ox.dFold A (B.take i)).2 : Nat) : Int)), (42, .slice pba B.length pbc), (43, .int .i64 (B.length : Int)), (44, .int .i64 (i : Int))])
    (fun (i : Nat) (v : Value) w => i ≤ B.length ∧ Mem c [row 112 3 v (Ox.dFold A (B.take i)).1.length ((Ox.dFold A (B.take i)).1.flatMap opc), mapI ptv bma ma] h6 w) (fun (i : Nat) (_ : Value) => B.length - i)
    0 (.slice none 0 0) ⟨rfl, rfl, rfl, rfl, rfl, rfl, rfl, trivial⟩ (fun w hw => ⟨Nat.zero_le _, hw⟩) (fun i v => At.pure (fun hi => ?_))
  refine goK _ ?_
  refine At.condP rfl (fun h2 => ?_) (fun h2 => ?_)
  rotate_left
  · obtain rfl : i = B.length := by omega
    rw [List.take_length]
    have hf := Ox.dFold_facts A B
    have ho := Ox.dOut_facts A B
    refine goK _ ?_
    refine At.meet1 (fun (v2 : Value) => [(10, v2)]) (fun v2 w => Mem c [row 112 3 v2 (Ox.dOut A B).length ((Ox.dOut A B).flatMap opc)] h6 w) (fun k' meet => ?_) (fun v2 => ?_)
    · refine At.condP rfl (fun h3 => ?_) (fun h3 => ?_)
      · refine goK _ ?_
        refine Ops.eff rfl rfl rfl (E.buildSlice1 rfl rfl rfl rfl) fun _ => Ops.ex fun _ => Ops.pure ?_
        rintro rfl
        refine Ops.eff rfl rfl rfl (E.append1s 0 rfl rfl rfl rfl rfl rfl (by omega) (by omega)) fun _ => Ops.ex fun g2 => Ops.ex fun cp2 => Ops.pure ?_
        rintro rfl
        refine goK _ ?_
        refine meet (.slice (some ⟨g2, 0, none⟩) ((Ox.dFold A B).1.length + 1) cp2) (by exact ⟨rfl, trivial⟩) (fun w hw => ?_)
        rw [Ox.dOut, if_pos (by omega), List.length_append, List.flatMap_append]
        exact hw.sub ((List.nil_sublist _).cons_cons _)
      · refine goK _ ?_
        refine meet v (by exact ⟨rfl, trivial⟩) (fun w hw => ?_)
        rw [Ox.dOut, if_neg (by omega)]
        exact hw.sub (by simp)
    refine At.publish_row 0 rfl fun h7 hle7 hout => ?_
    refine goK _ ?_
    refine Ops.eff rfl rfl rfl (Eff.call (fn (by kernel_rfl)) rfl (Ωc := []) rfl (Normal_does v2 (Ox.dOut A B) (fun o h3 => by have := ho.2 o h3; omega) h7 hout)) fun _ => Ops.ex fun _ => Ops.ex fun _ => Ops.pure ?_
    rintro ⟨rfl, hle8, hr⟩
    rename_i u h8
    rcases hr with ⟨ds, u', e1, e2, rfl, e3⟩ | ⟨e1, rfl⟩
    · refine goK _ ?_
      exact At.ret2 Tryz.results134 (Res.tmp rfl) (Res.tmp rfl) (List.nil_sublist _) ⟨rfl, hc0.symm ▸ ((hle.trans hle7).trans hle8), .inr (.inr ⟨hg1, hg2, hM, .inl ⟨ds, u', e1, e2, rfl, e3⟩⟩)⟩
    · refine goK _ ?_
      exact At.ret2 Tryz.results134 (Res.tmp rfl) (Res.tmp rfl) (List.nil_sublist _) ⟨rfl, hc0.symm ▸ ((hle.trans hle7).trans hle8), .inr (.inr ⟨hg1, hg2, hM, .inr ⟨e1, rfl⟩⟩)⟩
  have hlt : i < B.length := by omega
  obtain ⟨b0, o0, rfl, _, _, hc⟩ := RowH.elem pcc_length hpb (i := i) (x := B[i]) (by simp [hlt])
  have hts : B.take (i + 1) = B.take i ++ [B[i]] := by rw [List.take_succ_eq_append_getElem hlt]
  have hsn := Ox.dFold_snoc A (B.take i) B[i]
  rw [← hts] at hsn
  have hf := Ox.dFold_facts A (B.take i)
  rw [List.length_take] at hf
  generalize hx : B[i] = x at *
  obtain ⟨⟨⟨xc, xm⟩, xn⟩, xt⟩ := x
  have hpm := hma ⟨⟨xc, xm⟩, xn⟩
  have hpl := (Ox.posF_at A ⟨⟨xc, xm⟩, xn⟩).1
  have hen := Ox.enc_length xt
  have hsz := Ox.size_pos xt
  simp only [Ox.dStep] at hsn
  generalize hP : Ox.posF A ⟨⟨xc, xm⟩, xn⟩ = p at *
  generalize (Ox.dFold A (B.take i)).1 = out at *
  generalize (Ox.dFold A (B.take i)).2 = at' at *
  repeat (first | refine Ops.val rfl rfl rfl (V.loadHA (cs := [.int .i64 xc, .int .i64 xm, .int .i64 xn, str (Ox.enc xt)]) rfl rfl rfl hc) ?_ | refine goS _ ?_)
  refine Ops.eff rfl rfl rfl (E.alloc rfl) fun _ => Ops.ex fun b13 => Ops.pure ?_
  rintro rfl
  refine Ops.eff0 rfl rfl (E.store 0 rfl rfl rfl rfl rfl rfl rfl) fun _ => ?_
  repeat (first | refine Ops.val rfl rfl rfl (V.loadOP 0 [.int .i64 xc, .int .i64 xm, .int .i64 xn] rfl rfl rfl rfl rfl) ?_ | refine goS _ ?_)
  refine Ops.val rfl rfl rfl (V.lookup (κ := ptv) (a := ⟨⟨xc, xm⟩, xn⟩) (m := ma) 2 key263 rfl rfl rfl rfl rfl) ?_
  refine Ops.respell (t := 51) rfl hpm ?_
  refine goK _ ?_
  refine At.condP rfl (fun h3 => ?_) (fun h3 => ?_)
  · rw [if_pos (by omega)] at hsn
    refine goK _ ?_
    refine At.meet1 (fun (v2 : Value) => [(6, .slice paa A.length pac), (8, .map (some bma)), (10, v2), (14, .int .i64 (p : Int)), (42, .slice (some ⟨b0, o0, none⟩) B.length pbc), (43, .int .i64 (B.length : Int)), (44, .int .i64 (i : Int))])
      (fun v2 w => Mem c [row 112 3 v2 (if at' < p - 1 then out ++ [(⟨3, (p : Int) - 1 - (at' : Int), []⟩ : Ox.Op)] else out).length ((if at' < p - 1 then out ++ [(⟨3, (p : Int) - 1 - (at' : Int), []⟩ : Ox.Op)] else out).flatMap opc), mapI ptv bma ma] h6 w) (fun k' meet => ?_) (fun v2 => ?_)
    · refine At.condP rfl (fun h4 => ?_) (fun h4 => ?_)
      · refine goK _ ?_
        refine Ops.eff rfl rfl rfl (E.buildSlice1 rfl rfl rfl rfl) fun _ => Ops.ex fun _ => Ops.pure ?_
        rintro rfl
        refine Ops.eff rfl rfl rfl (E.append1s 1 rfl rfl rfl rfl rfl rfl (by omega) (by omega)) fun _ => Ops.ex fun g2 => Ops.ex fun cp2 => Ops.pure ?_
        rintro rfl
        refine goK _ ?_
        refine meet (.slice (some ⟨g2, 0, none⟩) (out.length + 1) cp2) (by exact ⟨rfl, rfl, rfl, rfl, rfl, rfl, rfl, trivial⟩) (fun w hw => ?_)
        rw [if_pos (by omega), List.length_append, List.flatMap_append]
        exact hw.sub (List.sublist_cons_self _ _)
      · refine goK _ ?_
        refine meet v (by exact ⟨rfl, rfl, rfl, rfl, rfl, rfl, rfl, trivial⟩) (fun w hw => ?_)
        rw [if_neg (by omega)]
        exact hw.sub (by simp)
    have hol : (if at' < p - 1 then out ++ [(⟨3, (p : Int) - 1 - (at' : Int), []⟩ : Ox.Op)] else out).length ≤ 10000 := by split <;> (try simp) <;> omega
    generalize (if at' < p - 1 then out ++ [(⟨3, (p : Int) - 1 - (at' : Int), []⟩ : Ox.Op)] else out) = out2 at *
    refine goK _ ?_
    refine Ops.eff rfl rfl rfl (E.buildSlice1 rfl rfl rfl rfl) fun _ => Ops.ex fun _ => Ops.pure ?_
    rintro rfl
    refine Ops.eff rfl rfl rfl (E.append1s 0 rfl rfl rfl rfl rfl rfl (by omega) (by omega)) fun _ => Ops.ex fun g2 => Ops.ex fun cp2 => Ops.pure ?_
    rintro rfl
    refine goK _ ?_
    refine At.back2 (i + 1) (.slice (some ⟨g2, 0, none⟩) (out2.length + 1) cp2) (by show B.length - (i + 1) < B.length - i; omega) (by exact ⟨rfl, rfl, rfl, congrArg (fun z => some (Value.int .i64 z)) (by rw [hsn]), rfl, rfl, rfl, trivial⟩) (fun w hw => ⟨hlt, ?_⟩)
    rw [hsn, List.length_append, List.flatMap_append]
    exact hw
  rw [if_neg (by omega)] at hsn
  have put : ∀ (hnew : Ox.dPut out ⟨⟨⟨xc, xm⟩, xn⟩, xt⟩ = out ++ [⟨2, 0, Ox.enc xt⟩]), Ox.dFold A (B.take (i + 1)) = (out ++ [⟨2, 0, Ox.enc xt⟩], at') := fun hnew => by rw [hsn, hnew]
  rcases List.eq_nil_or_concat out with rfl | ⟨d0, lr, rfl⟩
  · have hst := put rfl
    refine At.row_form 1 rfl fun av acp hv => ?_
    subst hv
    refine goK _ ?_
    refine Ops.eff rfl rfl rfl (E.buildSlice1 rfl rfl rfl rfl) fun _ => Ops.ex fun _ => Ops.pure ?_
    rintro rfl
    refine Ops.eff rfl rfl rfl (E.append1s 1 rfl rfl rfl rfl rfl rfl (by simp) (by simp)) fun _ => Ops.ex fun g2 => Ops.ex fun cp2 => Ops.pure ?_
    rintro rfl
    refine goK _ ?_
    refine At.back2 (i + 1) (.slice (some ⟨g2, 0, none⟩) 1 cp2) (by show B.length - (i + 1) < B.length - i; omega) (by exact ⟨rfl, rfl, rfl, congrArg (fun z => some (Value.int .i64 z)) (by rw [hst]), rfl, rfl, rfl, trivial⟩) (fun w hw => ⟨hlt, ?_⟩)
    rw [hst]
    exact hw.sub (List.sublist_cons_self _ _)
  rw [List.concat_eq_append] at *
  have hlb : (opc lr).length = 3 := rfl
  have hln : (d0 ++ [lr]).length = d0.length + 1 := by simp
  have hxl : ((d0 ++ [lr]).flatMap opc).length = (d0 ++ [lr]).length * 3 := flat_length opc 3 (fun _ => rfl) _
  have hfl : (d0.flatMap opc).length = d0.length * 3 := flat_length opc 3 (fun _ => rfl) d0
  have hlt' := hf.2.1 lr (by simp)
  refine At.open_row 1 rfl (by simp) fun g acp rest hv hl1 hl2 hN hcp => ?_
  cases hv
  have hfm : (d0 ++ [lr]).flatMap opc ++ rest = d0.flatMap opc ++ (opc lr ++ rest) := by simp
  refine goK _ ?_
  refine Ops.boolP (t := 75) rfl (fun h4 => ?_) (fun h4 => ?_)
  rotate_left
  · simp at h4
  refine Ops.val rfl rfl rfl (Val.move rfl) ?_
  refine Ops.val rfl rfl rfl (Val.move rfl) ?_
  refine Ops.val rfl rfl rfl (Val.sub rfl rfl (by omega) (by omega)) ?_
  refine Ops.respell (t := 78) (v' := .int .i64 ((d0.length : Nat) : Int)) rfl (by simp) ?_
  refine Ops.val rfl rfl rfl (V.indexAddr rfl rfl rfl rfl (by simp)) ?_
  refine Ops.val rfl rfl rfl (V.fieldAddr rfl rfl) ?_
  refine Ops.val rfl rfl rfl (V.loadO 1 (v := .int .i64 lr.kind) rfl rfl rfl (by rw [hfm, List.getElem?_append_right (by omega)]; simp [hfl, opc])) ?_
  refine Ops.val rfl rfl rfl (Val.eql rfl rfl) ?_
  refine Ops.val rfl rfl rfl (Val.pick rfl rfl) ?_
  refine Ops.nil ?_
  refine At.condP rfl (fun h5 => ?_) (fun h5 => ?_)
  · have hst : Ox.dFold A (B.take (i + 1)) = (d0 ++ [{ lr with text := lr.text ++ Ox.enc xt }], at') := by
      rw [hsn, Ox.dPut]; simp [h5]
    refine goK _ ?_
    first | refine At.drawn mo (fun _ _ m => m.drew _) ?_ | refine At.seq (At.drawn mo (fun _ _ m => m.drew _) ?_)
    refine Dr.val 0 rfl rfl rfl rfl (by kernel_rfl) rfl (Val.move rfl) ?_
    refine Dr.val 1 rfl rfl rfl rfl (by kernel_rfl) rfl (Val.move rfl) ?_
    refine Dr.val 2 rfl rfl rfl rfl (by kernel_rfl) rfl (Val.sub rfl rfl (by omega) (by omega)) ?_
    refine Dr.respell (t := 86) (v' := .int .i64 ((d0.length : Nat) : Int)) rfl (by simp) ?_
    refine Dr.val 3 rfl rfl rfl rfl (by kernel_rfl) rfl (V.indexAddr rfl rfl rfl rfl (by simp)) ?_
    refine Dr.val 4 rfl rfl rfl rfl (by kernel_rfl) rfl (V.fieldAddr rfl rfl) ?_
    refine Dr.valS 5 _ rfl rfl rfl rfl (by kernel_rfl) rfl (V.load rfl rfl (fun _ hh => hh)) (fun w hw => hw.cell (n := 1) (v := str lr.text) rfl (by rw [hfm, List.getElem?_append_right (by omega)]; simp [hfl, opc])) ?_
    refine Dr.val 6 rfl rfl rfl rfl (by kernel_rfl) rfl (V.fieldAddr rfl rfl) ?_
    refine Dr.valS 7 _ rfl rfl rfl rfl (by kernel_rfl) rfl (V.load rfl rfl (fun _ hh => hh)) (fun w hw => hw.cell (n := 0) rfl rfl) ?_
    refine Dr.val 8 rfl rfl rfl rfl (by kernel_rfl) rfl (Val.stradd rfl rfl (by omega)) ?_
    refine Dr.val 9 rfl rfl rfl rfl (by kernel_rfl) rfl (V.indexAddr rfl rfl rfl rfl (by simp)) ?_
    refine Dr.val 10 rfl rfl rfl rfl (by kernel_rfl) rfl (V.fieldAddr rfl rfl) ?_
    refine Dr.next0 (e := 11) rfl rfl (by kernel_rfl) rfl (by kernel_rfl) (by kernel_rfl) rfl (E.store 1 rfl rfl rfl rfl rfl (by rw [hfm]; simp [hfl]; omega) rfl) aokK fun _ => ?_
    refine Dr.done (by kernel_rfl) (by kernel_rfl) ?_
    refine At.close_row (N := d0.length + 1) (xs := (d0 ++ [{ lr with text := lr.text ++ Ox.enc xt }]).flatMap opc) (rest := rest) (cp := acp) (e := 112) (size := 3) (g := g) 1 ?_ ?_ ?_ ?_ hcp ?_
    · refine congrArg (fun z => some (cells g z 112)) ?_
      show ((d0 ++ [lr]).flatMap opc ++ rest).set (0 + d0.length * 3 + 2) (str (lr.text ++ Ox.enc xt)) = _
      rw [hfm, set_mid hfl (k := 2) (by omega)]
      simp [opc]
    · rw [flat_length opc 3 (fun _ => rfl)]; simp
    · rw [← hl2, List.length_append, List.length_append, flat_length opc 3 (fun _ => rfl), flat_length opc 3 (fun _ => rfl)]; simp
    · omega
    refine goK _ ?_
    refine At.back2 (i + 1) (.slice (some ⟨g, 0, none⟩) (d0 ++ [lr]).length acp) (by show B.length - (i + 1) < B.length - i; omega) (by exact ⟨rfl, rfl, rfl, congrArg (fun z => some (Value.int .i64 z)) (by rw [hst]), rfl, rfl, rfl, trivial⟩) (fun w hw => ⟨hlt, ?_⟩)
    rw [hst]
    simp only [List.length_append, List.length_cons, List.length_nil] at hw ⊢
    exact hw.sub (List.sublist_cons_self _ _)
  · have hst := put (by simp [Ox.dPut, h5])
    refine At.close_row (N := (d0 ++ [lr]).length) (xs := (d0 ++ [lr]).flatMap opc) (rest := rest) (cp := acp) (e := 112) (size := 3) (g := g) 1 rfl hxl hl2 hN hcp ?_
    clear hfm
    generalize d0 ++ [lr] = X at *
    refine goK _ ?_
    refine Ops.eff rfl rfl rfl (E.buildSlice1 rfl rfl rfl rfl) fun _ => Ops.ex fun _ => Ops.pure ?_
    rintro rfl
    refine Ops.eff rfl rfl rfl (E.append1s 1 rfl rfl rfl rfl rfl rfl (by omega) (by omega)) fun _ => Ops.ex fun g2 => Ops.ex fun cp2 => Ops.pure ?_
    rintro rfl
    refine goK _ ?_
    refine At.back2 (i + 1) (.slice (some ⟨g2, 0, none⟩) (X.length + 1) cp2) (by show B.length - (i + 1) < B.length - i; omega) (by exact ⟨rfl, rfl, rfl, congrArg (fun z => some (Value.int .i64 z)) (by rw [hst]), rfl, rfl, rfl, trivial⟩) (fun w hw => ⟨hlt, ?_⟩)
    rw [hst, List.length_append, List.flatMap_append]
    exact hw.sub (List.sublist_cons_self _ _)
end Go.Proofs.YthjgbmbaabpgmaaGreat
