/-
  Deltas behind one another: Transform.
-/
import Derived.Test.YthjgbmbaabpgmaaGreatSrd05
import Derived.Test.YthjgbmbaabpgmaaGreatSrd30
import Derived.Test.YthjgbmbaabpgmaaGreatSrd22
import Derived.Test.YthjgbmbaabpgmaaGreatSrd26
import Derived.Test.YthjgbmbaabpgmaaGreatSrd28
set_option linter.unusedVariables false
set_option linter.unusedSimpArgs false
set_option linter.unusedSectionVars false
namespace Go.Proofs.YthjgbmbaabpgmaaGreat
open Go.Sy
set_option maxRecDepth 4000
set_option maxHeartbeats 4000000
namespace Ox
/-- what is gone along in all -/
def osum (l : List Op) : Nat := (l.map fun o => o.n.toNat).sum
theorem J.gap_sum (j : J) : osum j.gap.out + j.gap.kept + j.gap.gone = osum j.out + j.kept + j.gone := by
  have h1 : osum j.keeps.out + j.keeps.kept = osum j.out + j.kept ∧ j.keeps.gone = j.gone := by
    unfold J.keeps; split
    · simp [osum]
    · simp
  have h2 : osum j.keeps.gapIns.out = osum j.keeps.out ∧ j.keeps.gapIns.kept = j.keeps.kept ∧ j.keeps.gapIns.gone = j.keeps.gone := by
    unfold J.gapIns; split <;> simp [osum]
  have h3 : osum j.keeps.gapIns.gapDel.out = osum j.keeps.gapIns.out + j.keeps.gapIns.gone ∧ j.keeps.gapIns.gapDel.kept = j.keeps.gapIns.kept := by
    unfold J.gapDel; split
    · simp [osum]
    · simp; omega
  unfold J.gap; split
  · rfl
  · simp only; omega
theorem joined_sum (ds : List DOp) : osum (joined ds).out + (joined ds).kept + (joined ds).gone = base ds := by
  generalize hn : ds.length = n
  induction n generalizing ds with
  | zero => have := List.eq_nil_of_length_eq_zero hn; subst this; simp [joined, osum, base]
  | succ n ih =>
    obtain ⟨ds', p, rfl⟩ : ∃ ds' p, ds = ds' ++ [p] := ⟨ds.dropLast, ds.getLast (by intro e; subst e; simp at hn), (List.dropLast_concat_getLast _).symm⟩
    have e1 : base (ds' ++ [p]) = base ds' + p.base := by simp [base]
    have h1 := ih ds' (by simpa using hn)
    have h2 := (joined ds').gap_sum
    rw [joined_app, e1]
    cases p <;> simp only [J.step, DOp.base] <;> omega
theorem norm_sum (ds : List DOp) : osum (norm ds) = base ds := by
  have h1 := joined_sum ds
  have h2 := (joined ds).gap_sum
  have hg : (joined ds).gap.gone = 0 := by
    unfold J.gap; split
    · rename_i h; exact h.2
    · rfl
  unfold norm J.fin J.keeps
  split
  · simp only [osum, List.map_append, List.sum_append] at *; simp; omega
  · omega
/-- texts that are put in are small -/
theorem sideF_ins {d : List Op} (hd : Sane d) : ∀ k, ((sideF d).ins k).length ≤ 4000 := by
  rcases d.eq_nil_or_concat with rfl | ⟨r, x, rfl⟩
  · intro k; simp [sideF]
  · intro k
    rw [List.concat_eq_append] at hd ⊢
    have h1 := sideF_ins (d := r) (fun o ho => hd o (by simp [ho])) k
    have h2 := (hd x (by simp)).2.2
    rw [sideF_snoc]
    simp only [sdStep]
    split
    · simp only; split
      · exact h2
      · exact h1
    · exact h1
termination_by d.length
decreasing_by subst_vars; simp
/-- one place of the text -/
def trA (p : Sd) (first : Bool) (st : List Op × Int) (i : Nat) : List Op × Int := if first = true then addF st ⟨2, 0, p.ins i⟩ else st
def trB (q : Sd) (st : List Op × Int) (i : Nat) : List Op × Int := addF st ⟨1, max (tlen (q.ins i)) 0, []⟩
def trC (p : Sd) (first : Bool) (st : List Op × Int) (i : Nat) : List Op × Int := if first = true then st else addF st ⟨2, 0, p.ins i⟩
def trD (p q : Sd) (st : List Op × Int) (i : Nat) : List Op × Int := if i = p.n ∨ q.gone i = true then st else if p.gone i = true then addF st ⟨3, 1, []⟩ else addF st ⟨1, 1, []⟩
def trStep (p q : Sd) (first : Bool) (st : List Op × Int) (i : Nat) : List Op × Int := trD p q (trC p first (trB q (trA p first st i) i) i) i
def trAll (p q : Sd) (first : Bool) (k : Nat) : List Op × Int := (List.range k).foldl (trStep p q first) ([], 0)
theorem trAll_succ (p q : Sd) (first : Bool) (k : Nat) : trAll p q first (k + 1) = trStep p q first (trAll p q first k) k := by simp [trAll, List.range_succ]
/-- what is put out is small -/
structure AdOk (st : List Op × Int) (c : Nat) : Prop where
  len : st.1.length ≤ c
  lo : -(c : Int) ≤ st.2
  hi : st.2 ≤ 4000 * (c : Int)
  small : ∀ o ∈ st.1, 0 ≤ o.n ∧ o.n ≤ 4000 ∧ o.text.length ≤ 4000
theorem AdOk.add {st : List Op × Int} {c : Nat} (h : AdOk st c) {o : Op} (h0 : 0 ≤ o.n) (h1 : o.n ≤ 4000) (h2 : o.text.length ≤ 4000) : AdOk (addF st o) (c + 1) := by
  have hs : -1 ≤ shownI o ∧ shownI o ≤ 4000 := by
    have := tlen_le o.text
    unfold shownI; split
    · omega
    · split <;> omega
  have := h.len; have := h.lo; have := h.hi
  unfold addF; split
  · exact ⟨by omega, by omega, by omega, h.small⟩
  · refine ⟨by simp; omega, by simp only; omega, by simp only; omega, fun q hq => ?_⟩
    rcases List.mem_append.1 hq with hq | hq
    · exact h.small q hq
    · simp at hq; subst hq; exact ⟨h0, h1, h2⟩
theorem AdOk.mono {st : List Op × Int} {c d : Nat} (h : AdOk st c) (hc : c ≤ d) : AdOk st d := by
  have := h.len; have := h.lo; have := h.hi
  exact ⟨by omega, by omega, by omega, h.small⟩
theorem AdOk.nil : AdOk ([], 0) 0 := ⟨by simp, by simp, by simp, by simp⟩
theorem AdOk.sums {st : List Op × Int} {c : Nat} (h : AdOk st c) : tot st.1 ≤ 4000 * c ∧ totn st.1 ≤ 4000 * (c : Int) := by
  have key : ∀ l : List Op, (∀ o ∈ l, 0 ≤ o.n ∧ o.n ≤ 4000 ∧ o.text.length ≤ 4000) → tot l ≤ 4000 * l.length ∧ totn l ≤ 4000 * (l.length : Int) := fun l => by
    induction l with
    | nil => simp [tot, totn]
    | cons a r ih =>
      intro hl
      have h1 := ih fun o ho => hl o (by simp [ho])
      have h2 := hl a (by simp)
      simp only [tot, totn, List.map_cons, List.sum_cons, List.length_cons] at *
      omega
  have h1 := key st.1 h.small
  have h2 := h.len
  omega
/-- what Transform makes of two sides -/
def transOut (p q : Sd) (first : Bool) : List Op × Int := trAll p q first (p.n + 1)
/-- why a delta is not transformed; 0: it is -/
def transE (a b : List Op) (first : Bool) : Int :=
  if (lens a).2.2 ≠ 0 then ((lens a).2.2 : Int) else if (lens b).2.2 ≠ 0 then ((lens b).2.2 : Int) else
    if (sideF (norm ((parseAll a).getD []))).n ≠ (sideF (norm ((parseAll b).getD []))).n then 91 else
      if 1000 < (transOut (sideF (norm ((parseAll a).getD []))) (sideF (norm ((parseAll b).getD []))) first).2 then 91 else 0
end Ox
attribute [local irreducible] At Ops Val Eff Does Res Dr

theorem Transform_does (u v : Value) (a b : List Ox.Op) (first : Bool) (ha : ∀ o ∈ a, o.text.length ≤ 10000000000) (hb : ∀ o ∈ b, o.text.length ≤ 10000000000) (h : HV) (hu : OpsH h u a) (hv : OpsH h v b) :
    Does Tryz.prog 55 #[u, v, .bool first] [] h (fun r Ω' h' => Ω' = [] ∧ HV.le h h' ∧ ((Ox.transE a b first ≠ 0 ∧ r = .tuple #[.slice none 0 0, .int .i64 (Ox.transE a b first)]) ∨
      (Ox.transE a b first = 0 ∧ ∃ da db t, (Ox.lens a).2.2 = 0 ∧ (Ox.lens b).2.2 = 0 ∧ Ox.parseAll a = some da ∧ Ox.parseAll b = some db ∧ (Ox.sideF (Ox.norm da)).n = (Ox.sideF (Ox.norm db)).n ∧ r = .tuple #[t, .int .i64 0] ∧
        ((∃ ds, (Ox.lens (Ox.joinAll (Ox.transOut (Ox.sideF (Ox.norm da)) (Ox.sideF (Ox.norm db)) first).1)).2.2 = 0 ∧ Ox.parseAll (Ox.joinAll (Ox.transOut (Ox.sideF (Ox.norm da)) (Ox.sideF (Ox.norm db)) first).1) = some ds ∧ OpsH h' t (Ox.norm ds)) ∨
          ((Ox.lens (Ox.joinAll (Ox.transOut (Ox.sideF (Ox.norm da)) (Ox.sideF (Ox.norm db)) first).1)).2.2 ≠ 0 ∧ t = .slice none 0 0))))) := by
  refine Does.of Tryz.func55 rfl Tryz.ntmps55 rfl fun c hc0 => ?_
  refine goK _ ?_
  refine Ops.eff rfl rfl rfl (Eff.call (fn (by kernel_rfl)) rfl (Ωc := []) rfl (pair_does u v a b ha hb h hu hv)) fun _ => Ops.ex fun _ => Ops.ex fun _ => Ops.pure ?_
  rintro ⟨rfl, hle, hq⟩
  rename_i h2
  rcases hq with ⟨hne, rfl⟩ | ⟨da, u', h0a, hpa, hu', hq⟩
  · refine goK _ ?_
    refine At.condN rfl (fun h1 => ?_) (fun h1 => ?_)
    · refine goK _ ?_
      exact At.ret2 Tryz.results55 (Res.tmp rfl) (Res.tmp rfl) (List.nil_sublist _) ⟨rfl, hle, .inl (by rw [Ox.transE, if_pos hne]; exact ⟨by omega, rfl⟩)⟩
    · omega
  rcases hq with ⟨hne, rfl⟩ | ⟨db, v', h0b, hpb, hv', rfl⟩
  · refine goK _ ?_
    refine At.condN rfl (fun h1 => ?_) (fun h1 => ?_)
    · refine goK _ ?_
      exact At.ret2 Tryz.results55 (Res.tmp rfl) (Res.tmp rfl) (List.nil_sublist _) ⟨rfl, hle, .inl (by rw [Ox.transE, if_neg (by omega), if_pos hne]; exact ⟨by omega, rfl⟩)⟩
    · omega
  obtain ⟨da', hda, hdal, hba, hta⟩ := Ox.lens_ok h0a
  rw [hpa] at hda; cases hda
  obtain ⟨db', hdb, hdbl, hbb, htb⟩ := Ox.lens_ok h0b
  rw [hpb] at hdb; cases hdb
  have hTE : Ox.transE a b first = if (Ox.sideF (Ox.norm da)).n ≠ (Ox.sideF (Ox.norm db)).n then 91 else if 1000 < (Ox.transOut (Ox.sideF (Ox.norm da)) (Ox.sideF (Ox.norm db)) first).2 then 91 else 0 := by
    rw [Ox.transE, if_neg (by omega), if_neg (by omega), hpa, hpb]; rfl
  have hsa := Ox.norm_sane da hba hta
  have hsb := Ox.norm_sane db hbb htb
  have hla := Ox.norm_length da
  have hlb := Ox.norm_length db
  have hlda := Ox.parseAll_length hpa
  have hldb := Ox.parseAll_length hpb
  have hpn : (Ox.sideF (Ox.norm da)).n ≤ 1000 := by
    rw [Ox.sideF_n]; have := Ox.norm_sum da; unfold Ox.osum at this; omega
  have hpi := Ox.sideF_ins hsa
  have hqi := Ox.sideF_ins hsb
  refine goK _ ?_
  refine Ops.eff rfl rfl rfl (Eff.call (fn (by kernel_rfl)) rfl (Ωc := []) rfl (sideOf_does u' (Ox.norm da) hsa (by omega) _ hu')) fun _ => Ops.ex fun _ => Ops.ex fun _ => Ops.pure ?_
  rintro ⟨rfl, p1, p2, mp1, mp2, rfl, rfl, hp1, hp2⟩
  refine goK _ ?_
  refine Ops.eff rfl rfl rfl (Eff.call (fn (by kernel_rfl)) rfl (Ωc := []) rfl (sideOf_does v' (Ox.norm db) hsb (by omega) _ hv')) fun _ => Ops.ex fun _ => Ops.ex fun _ => Ops.pure ?_
  rintro ⟨rfl, q1, q2, mq1, mq2, rfl, rfl, hq1, hq2⟩
  generalize hP : Ox.sideF (Ox.norm da) = p at *
  generalize hQ : Ox.sideF (Ox.norm db) = q at *
  refine Ops.eff rfl rfl rfl (E.alloc rfl) fun _ => Ops.ex fun b11 => Ops.pure ?_
  rintro rfl
  refine Ops.eff rfl rfl rfl (E.alloc rfl) fun _ => Ops.ex fun b12 => Ops.pure ?_
  rintro rfl
  refine Ops.eff0 rfl rfl (E.store 1 rfl rfl rfl rfl rfl rfl rfl) fun _ => ?_
  refine Ops.eff0 rfl rfl (E.store 0 rfl rfl rfl rfl rfl rfl rfl) fun _ => ?_
  refine goK _ ?_
  refine At.condN rfl (fun h1 => ?_) (fun h1 => ?_)
  · refine goK _ ?_
    have hpq : p.n ≠ q.n := by omega
    exact At.ret2 Tryz.results55 (Res.tmp rfl) (Res.tmp rfl) (List.nil_sublist _) ⟨rfl, hle, .inl (by rw [hTE, if_pos hpq]; exact ⟨by omega, rfl⟩)⟩
  have hpq : p.n = q.n := by omega
  refine goK _ ?_
  refine Ops.eff rfl rfl rfl (E.alloc rfl) fun _ => Ops.ex fun b13 => Ops.pure ?_
  rintro rfl
  refine goK _ ?_
  refine Ops.eff rfl rfl rfl (E.alloc rfl) fun _ => Ops.ex fun b14 => Ops.pure ?_
  rintro rfl
  refine Ops.eff0 rfl rfl (E.store 0 rfl rfl rfl rfl rfl rfl rfl) fun _ => ?_
  refine goK _ ?_
  refine Ops.val rfl rfl rfl (Val.makeFunc (cs := #[.pointer (some ⟨b13, 0, none⟩), .pointer (some ⟨b14, 0, none⟩)]) (fun ρ hρ => by simp [hρ _ _ (show ev _ (.tmp 13) = some _ from rfl), hρ _ _ (show ev _ (.tmp 14) = some _ from rfl)])) ?_
  refine goK _ ?_
  refine At.row_nil 112 3 ?_
  refine At.pick (Ω' := AdM b13 b14 (.slice none 0 0) ([], 0) ++ [cells b12 [.map (some q1), .map (some q2), .int .i64 (q.n : Int)] 183, cells b11 [.map (some p1), .map (some p2), .int .i64 (p.n : Int)] 183, mapI key q2 mq2, mapI key q1 mq1, mapI key p2 mp2, mapI key p1 mp1]) [2, 0, 1, 3, 4, 5, 6, 7, 8] (by decide) rfl ?_
  refine At.loop3 (fun (i : Nat) (_ : List Ox.Op × Int) (_ : Value) => [(2, .bool first), (11, .pointer (some ⟨b11, 0, none⟩)), (12, .pointer (some ⟨b12, 0, none⟩)), (13, .pointer (some ⟨b13, 0, none⟩)), (14, .pointer (some ⟨b14, 0, none⟩)), (15, .func (.func 108) #[] #[.pointer (some ⟨b13, 0, none⟩), .pointer (some ⟨b14, 0, none⟩)]), (39, .int .i64 ((p.n + 1 : Nat) : Int)), (40, .int .i64 (i : Int))])
    (fun (i : Nat) (st : List Ox.Op × Int) (ov : Value) w => (i ≤ p.n + 1 ∧ st = Ox.trAll p q first i ∧ Ox.AdOk st (4 * i)) ∧ Mem c ([cells b13 [ov] 38, row 112 3 ov (st).1.length ((st).1.flatMap opc), cells b14 [.int .i64 (st).2] 3] ++ [cells b12 [.map (some q1), .map (some q2), .int .i64 (q.n : Int)] 183, cells b11 [.map (some p1), .map (some p2), .int .i64 (p.n : Int)] 183, mapI key q2 mq2, mapI key q1 mq1, mapI key p2 mp2, mapI key p1 mp1]) h2 w) (fun (i : Nat) (_ : List Ox.Op × Int) (_ : Value) => p.n + 1 - i)
    0 ([], 0) (.slice none 0 0) ⟨rfl, rfl, rfl, rfl, rfl, rfl, rfl, rfl, trivial⟩ (fun w hw => ⟨⟨Nat.zero_le _, rfl, Ox.AdOk.nil⟩, hw⟩) (fun i st ov => At.pure (fun hq => ?_))
  obtain ⟨hi, hst, hok⟩ := hq
  refine goK _ ?_
  refine At.condP rfl (fun h3 => ?_) (fun h3 => ?_)
  rotate_left
  · obtain rfl : i = p.n + 1 := by omega
    have hto : Ox.transOut p q first = st := hst.symm
    have hsm := hok.sums
    have hlen := hok.len
    refine goK _ ?_
    refine At.condP rfl (fun h4 => ?_) (fun h4 => ?_)
    · refine goK _ ?_
      exact At.ret2 Tryz.results55 (Res.tmp rfl) (Res.tmp rfl) (List.nil_sublist _) ⟨rfl, hle, .inl (by rw [hTE, if_neg (by omega), hto, if_pos h4]; exact ⟨by omega, rfl⟩)⟩
    refine At.publish_row 1 rfl fun h5 hle5 hsl5 => ?_
    refine goK _ ?_
    refine Ops.eff rfl rfl rfl (Eff.call (fn (by kernel_rfl)) rfl (Ωc := []) rfl (tidy_does ov st.1 (fun o ho => (hok.small o ho).1) (by omega) (by omega) (by omega) h5 hsl5)) fun _ => Ops.ex fun _ => Ops.ex fun _ => Ops.pure ?_
    rintro ⟨rfl, hle6, hq⟩
    refine goK _ ?_
    refine At.ret2 Tryz.results55 (Res.tmp rfl) (Res.tmp rfl) (List.nil_sublist _) ⟨rfl, hle.trans (hle5.trans hle6), .inr ⟨by rw [hTE, if_neg (by omega), hto, if_neg h4], da, db, _, h0a, h0b, hpa, hpb, by rw [hP, hQ]; exact hpq, rfl, ?_⟩⟩
    rw [hP, hQ, hto]; exact hq
  refine goK _ ?_
  refine At.meet1 (fun (_ : Value) => [(2, .bool first), (11, .pointer (some ⟨b11, 0, none⟩)), (12, .pointer (some ⟨b12, 0, none⟩)), (13, .pointer (some ⟨b13, 0, none⟩)), (14, .pointer (some ⟨b14, 0, none⟩)), (15, .func (.func 108) #[] #[.pointer (some ⟨b13, 0, none⟩), .pointer (some ⟨b14, 0, none⟩)]), (39, .int .i64 ((p.n + 1 : Nat) : Int)), (40, .int .i64 (i : Int)), (16, .int .i64 (i : Int))]) (fun (v1 : Value) w => Mem c ([cells b13 [v1] 38, row 112 3 v1 (Ox.trA p first st i).1.length ((Ox.trA p first st i).1.flatMap opc), cells b14 [.int .i64 (Ox.trA p first st i).2] 3] ++ [cells b12 [.map (some q1), .map (some q2), .int .i64 (q.n : Int)] 183, cells b11 [.map (some p1), .map (some p2), .int .i64 (p.n : Int)] 183, mapI key q2 mq2, mapI key q1 mq1, mapI key p2 mp2, mapI key p1 mp1]) h2 w) (fun k' meet => ?_) (fun v1 => ?_)
  · refine At.cond rfl (fun h4 => ?_) (fun h4 => ?_)
    · repeat (first | refine Ops.val rfl rfl rfl (V.lookup (κ := key) (m := mp1) 8 key3 rfl rfl rfl rfl rfl) ?_ | refine goS _ ?_)
      refine Ops.respell (t := 48) rfl (hp1 i) ?_
      refine Ops.eff rfl rfl rfl (Eff.callv (fn (by kernel_rfl)) rfl rfl (Ωc := AdM b13 b14 ov (st)) rfl (addc_does b13 b14 ov (st) 2 0 (p.ins i) (by have := hpi (i : Int); omega) (by omega) (by have := hok.len; omega) (by have := hok.lo; have := hok.hi; omega) h2)) fun _ => Ops.ex fun _ => Ops.ex fun _ => Ops.pure ?_
      rintro ⟨⟨w', rfl⟩, rfl⟩
      refine goK _ ?_
      refine meet w' (by exact ⟨rfl, rfl, rfl, rfl, rfl, rfl, rfl, rfl, rfl, trivial⟩) (fun w hw => by rw [Ox.trA, if_pos h4]; exact hw)
    · refine goK _ ?_
      refine meet ov (by exact ⟨rfl, rfl, rfl, rfl, rfl, rfl, rfl, rfl, rfl, trivial⟩) (fun w hw => by rw [Ox.trA, if_neg (by rw [h4]; simp)]; exact hw)
  have hokA : Ox.AdOk (Ox.trA p first st i) (4 * i + 1) := by
    unfold Ox.trA; split
    · exact hok.add (by simp) (by simp) (hpi i)
    · exact hok.mono (by omega)
  have htl := Ox.tlen_le (q.ins i)
  have hqil := hqi (i : Int)
  repeat (first | refine Ops.val rfl rfl rfl (V.lookup (κ := key) (m := mq1) 6 key3 rfl rfl rfl rfl rfl) ?_ | refine goS _ ?_)
  refine Ops.respell (t := 54) rfl (hq1 i) ?_
  refine Ops.eff rfl rfl rfl (Eff.call (fn (by kernel_rfl)) rfl (Ωc := []) rfl (Len_does (q.ins i) (by omega) h2)) fun _ => Ops.ex fun _ => Ops.ex fun _ => Ops.pure ?_
  rintro ⟨rfl, rfl, rfl⟩
  repeat (first | refine Ops.val rfl rfl rfl (Val.maxI rfl rfl) ?_ | refine goS _ ?_)
  refine Ops.eff rfl rfl rfl (Eff.callv (fn (by kernel_rfl)) rfl rfl (Ωc := AdM b13 b14 v1 (Ox.trA p first st i)) rfl (addc_does b13 b14 v1 (Ox.trA p first st i) 1 (max (Ox.tlen (q.ins i)) 0) [] (by simp) (by omega) (by have := hokA.len; omega) (by have := hokA.lo; have := hokA.hi; omega) h2)) fun _ => Ops.ex fun _ => Ops.ex fun _ => Ops.pure ?_
  rintro ⟨⟨w', rfl⟩, rfl⟩
  refine goK _ ?_
  have hokB : Ox.AdOk (Ox.trB q (Ox.trA p first st i) i) (4 * i + 2) := hokA.add (by simp only; omega) (by simp only; omega) (by simp)
  refine At.meet1 (fun (_ : Value) => [(2, .bool first), (11, .pointer (some ⟨b11, 0, none⟩)), (12, .pointer (some ⟨b12, 0, none⟩)), (13, .pointer (some ⟨b13, 0, none⟩)), (14, .pointer (some ⟨b14, 0, none⟩)), (15, .func (.func 108) #[] #[.pointer (some ⟨b13, 0, none⟩), .pointer (some ⟨b14, 0, none⟩)]), (39, .int .i64 ((p.n + 1 : Nat) : Int)), (40, .int .i64 (i : Int)), (16, .int .i64 (i : Int))]) (fun (v1 : Value) w => Mem c ([cells b13 [v1] 38, row 112 3 v1 (Ox.trC p first (Ox.trB q (Ox.trA p first st i) i) i).1.length ((Ox.trC p first (Ox.trB q (Ox.trA p first st i) i) i).1.flatMap opc), cells b14 [.int .i64 (Ox.trC p first (Ox.trB q (Ox.trA p first st i) i) i).2] 3] ++ [cells b12 [.map (some q1), .map (some q2), .int .i64 (q.n : Int)] 183, cells b11 [.map (some p1), .map (some p2), .int .i64 (p.n : Int)] 183, mapI key q2 mq2, mapI key q1 mq1, mapI key p2 mp2, mapI key p1 mp1]) h2 w) (fun k' meet => ?_) (fun v2 => ?_)
  · refine At.cond rfl (fun h4 => ?_) (fun h4 => ?_)
    · repeat (first | refine Ops.val rfl rfl rfl (V.lookup (κ := key) (m := mp1) 8 key3 rfl rfl rfl rfl rfl) ?_ | refine goS _ ?_)
      refine Ops.respell (t := 64) rfl (hp1 i) ?_
      refine Ops.imp (S' := Mem c ([cells b13 [w'] 38, row 112 3 w' (Ox.trB q (Ox.trA p first st i) i).1.length ((Ox.trB q (Ox.trA p first st i) i).1.flatMap opc), cells b14 [.int .i64 (Ox.trB q (Ox.trA p first st i) i).2] 3] ++ [cells b12 [.map (some q1), .map (some q2), .int .i64 (q.n : Int)] 183, cells b11 [.map (some p1), .map (some p2), .int .i64 (p.n : Int)] 183, mapI key q2 mq2, mapI key q1 mq1, mapI key p2 mp2, mapI key p1 mp1]) h2) ?_ (fun w hw => hw)
      refine Ops.eff rfl rfl rfl (Eff.callv (fn (by kernel_rfl)) rfl rfl (Ωc := AdM b13 b14 w' (Ox.trB q (Ox.trA p first st i) i)) rfl (addc_does b13 b14 w' (Ox.trB q (Ox.trA p first st i) i) 2 0 (p.ins i) (by have := hpi (i : Int); omega) (by omega) (by have := hokB.len; omega) (by have := hokB.lo; have := hokB.hi; omega) h2)) fun _ => Ops.ex fun _ => Ops.ex fun _ => Ops.pure ?_
      rintro ⟨⟨w', rfl⟩, rfl⟩
      refine goK _ ?_
      refine meet w' (by exact ⟨rfl, rfl, rfl, rfl, rfl, rfl, rfl, rfl, rfl, trivial⟩) (fun w hw => by rw [Ox.trC, if_neg (by simpa using h4)]; exact hw)
    · refine goK _ ?_
      refine meet w' (by exact ⟨rfl, rfl, rfl, rfl, rfl, rfl, rfl, rfl, rfl, trivial⟩) (fun w hw => by rw [Ox.trC, if_pos (by simpa using h4)]; exact hw)
  have hokC : Ox.AdOk (Ox.trC p first (Ox.trB q (Ox.trA p first st i) i) i) (4 * i + 3) := by
    unfold Ox.trC; split
    · exact hokB.mono (by omega)
    · exact hokB.add (by simp) (by simp) (hpi i)
  refine goK _ ?_
  refine Ops.forkR 68 (.bool (decide (i = p.n ∨ q.gone i = true))) [2, 11, 12, 13, 14, 15, 39, 40, 16] ?_ (fun main => ?_)
  rotate_left
  · repeat' (first
      | (refine Ops.val rfl rfl rfl (V.lookup (κ := key) (m := mq2) 5 key3 rfl rfl rfl rfl rfl) ?_; refine Ops.respell (t := 77) rfl (hq2 i) ?_)
      | refine opS _ ?_
      | refine Ops.gsplit rfl rfl (fun hb => ?_) (fun hb => ?_)
      | refine Ops.psplit rfl (fun hb => ?_) (fun hb => ?_))
    all_goals (refine Ops.nil ?_; refine main.sub ⟨congrArg (fun b => some (Value.bool b)) ?_, (by repeat (first | exact trivial | refine ⟨rfl, ?_⟩))⟩; clear main; ((try (have h9 : i = p.n := (by have := of_decide_eq_true hb; omega); simp [h9]; done)); (try (have h9 : ¬ i = p.n := (by have := of_decide_eq_false hb; omega); simp [h9]; done))))
  refine At.meet1 (fun (_ : Value) => [(2, .bool first), (11, .pointer (some ⟨b11, 0, none⟩)), (12, .pointer (some ⟨b12, 0, none⟩)), (13, .pointer (some ⟨b13, 0, none⟩)), (14, .pointer (some ⟨b14, 0, none⟩)), (15, .func (.func 108) #[] #[.pointer (some ⟨b13, 0, none⟩), .pointer (some ⟨b14, 0, none⟩)]), (39, .int .i64 ((p.n + 1 : Nat) : Int)), (40, .int .i64 (i : Int)), (16, .int .i64 (i : Int))]) (fun (v1 : Value) w => Mem c ([cells b13 [v1] 38, row 112 3 v1 (Ox.trD p q (Ox.trC p first (Ox.trB q (Ox.trA p first st i) i) i) i).1.length ((Ox.trD p q (Ox.trC p first (Ox.trB q (Ox.trA p first st i) i) i) i).1.flatMap opc), cells b14 [.int .i64 (Ox.trD p q (Ox.trC p first (Ox.trB q (Ox.trA p first st i) i) i) i).2] 3] ++ [cells b12 [.map (some q1), .map (some q2), .int .i64 (q.n : Int)] 183, cells b11 [.map (some p1), .map (some p2), .int .i64 (p.n : Int)] 183, mapI key q2 mq2, mapI key q1 mq1, mapI key p2 mp2, mapI key p1 mp1]) h2 w) (fun k' meet => ?_) (fun v3 => ?_)
  · refine At.condP rfl (fun h4 => ?_) (fun h4 => ?_)
    · refine goK _ ?_
      refine meet v2 (by exact ⟨rfl, rfl, rfl, rfl, rfl, rfl, rfl, rfl, rfl, trivial⟩) (fun w hw => by rw [Ox.trD, if_pos h4]; exact hw)
    repeat (first | refine Ops.val rfl rfl rfl (V.lookup (κ := key) (m := mp2) 7 key3 rfl rfl rfl rfl rfl) ?_ | refine goS _ ?_)
    refine At.respell (t := 79) rfl (hp2 i) ?_
    refine At.cond rfl (fun h5 => ?_) (fun h5 => ?_)
    · refine goK _ ?_
      refine Ops.eff rfl rfl rfl (Eff.callv (fn (by kernel_rfl)) rfl rfl (Ωc := AdM b13 b14 v2 (Ox.trC p first (Ox.trB q (Ox.trA p first st i) i) i)) rfl (addc_does b13 b14 v2 (Ox.trC p first (Ox.trB q (Ox.trA p first st i) i) i) 3 1 [] (by simp) (by omega) (by have := hokC.len; omega) (by have := hokC.lo; have := hokC.hi; omega) h2)) fun _ => Ops.ex fun _ => Ops.ex fun _ => Ops.pure ?_
      rintro ⟨⟨w', rfl⟩, rfl⟩
      refine goK _ ?_
      refine meet w' (by exact ⟨rfl, rfl, rfl, rfl, rfl, rfl, rfl, rfl, rfl, trivial⟩) (fun w hw => by rw [Ox.trD, if_neg h4, if_pos h5]; exact hw)
    · refine goK _ ?_
      refine Ops.eff rfl rfl rfl (Eff.callv (fn (by kernel_rfl)) rfl rfl (Ωc := AdM b13 b14 v2 (Ox.trC p first (Ox.trB q (Ox.trA p first st i) i) i)) rfl (addc_does b13 b14 v2 (Ox.trC p first (Ox.trB q (Ox.trA p first st i) i) i) 1 1 [] (by simp) (by omega) (by have := hokC.len; omega) (by have := hokC.lo; have := hokC.hi; omega) h2)) fun _ => Ops.ex fun _ => Ops.ex fun _ => Ops.pure ?_
      rintro ⟨⟨w', rfl⟩, rfl⟩
      refine goK _ ?_
      refine meet w' (by exact ⟨rfl, rfl, rfl, rfl, rfl, rfl, rfl, rfl, rfl, trivial⟩) (fun w hw => by rw [Ox.trD, if_neg h4, if_neg (by rw [h5]; simp)]; exact hw)
  have hokD : Ox.AdOk (Ox.trD p q (Ox.trC p first (Ox.trB q (Ox.trA p first st i) i) i) i) (4 * (i + 1)) := by
    unfold Ox.trD; split
    · exact hokC.mono (by omega)
    · split
      · exact hokC.add (by simp) (by simp) (by simp)
      · exact hokC.add (by simp) (by simp) (by simp)
  refine goK _ ?_
  refine At.back3 (i + 1) (Ox.trD p q (Ox.trC p first (Ox.trB q (Ox.trA p first st i) i) i) i) v3 (by omega) (by exact ⟨rfl, rfl, rfl, rfl, rfl, rfl, rfl, rfl, trivial⟩) (fun w hw => ⟨⟨by omega, by rw [Ox.trAll_succ, ← hst]; rfl, hokD⟩, hw⟩)
end Go.Proofs.YthjgbmbaabpgmaaGreat
/-
  The machine's state: what it is, and how it lies in memory.
-/
namespace Go.Proofs.YthjgbmbaabpgmaaGreat
open Go.Sy
set_option maxRecDepth 4000
set_option maxHeartbeats 4000000
namespace Ox
/-- a commit -/
structure Cm where
  num : Int
  ps : List Int
  d : List Op
  o : List Op
  cl : Int
  sq : Int
/-- a branch -/
structure Br where
  id : Int
  name : List UInt8
  log : List Int
/-- a client -/
structure Cl where
  c : Int
  b : Int
  s : Int
structure St where
  nc : Int
  nb : Int
  cs : List Cm
  bs : List Br
  ks : List Cl
end Ox
/-- a commit with its slices -/
structure CmV where
  c : Ox.Cm
  pv : Value
  dv : Value
  ov : Value
def cmc (z : CmV) : List Value := [.int .i64 z.c.num, z.pv, z.dv, z.ov, .int .i64 z.c.cl, .int .i64 z.c.sq]
theorem cmc_length (z : CmV) : (cmc z).length = 6 := rfl
structure CmOk (h : HV) (z : CmV) : Prop where
  ps : ZsH h z.pv z.c.ps
  d : OpsH h z.dv z.c.d
  o : OpsH h z.ov z.c.o
theorem CmOk.mono {h h' : HV} {z : CmV} (r : CmOk h z) (le : HV.le h h') : CmOk h' z := ⟨r.ps.mono le, r.d.mono le, r.o.mono le⟩
/-- a branch with its log -/
structure BrV where
  b : Ox.Br
  lv : Value
def brc (y : BrV) : List Value := [.int .i64 y.b.id, str y.b.name, y.lv]
theorem brc_length (y : BrV) : (brc y).length = 3 := rfl
def clc (k : Ox.Cl) : List Value := [.int .i64 k.c, .int .i64 k.b, .int .i64 k.s]
theorem clc_length (k : Ox.Cl) : (clc k).length = 3 := rfl
/-- a state that stays as it is -/
structure StX (h : HV) (v : Value) (s : Ox.St) (zs : List CmV) (ys : List BrV) (csv bsv ksv : Value) : Prop where
  val : v = .agg #[.int .i64 s.nc, .int .i64 s.nb, csv, bsv, ksv]
  cs : zs.map CmV.c = s.cs
  bs : ys.map BrV.b = s.bs
  crow : RowH cmc 6 h csv zs
  cok : ∀ z ∈ zs, CmOk h z
  brow : RowH brc 3 h bsv ys
  bok : ∀ y ∈ ys, ZsH h y.lv y.b.log
  krow : RowH clc 3 h ksv s.ks
def StH (h : HV) (v : Value) (s : Ox.St) : Prop := ∃ zs ys csv bsv ksv, StX h v s zs ys csv bsv ksv
theorem StX.mono {h h' : HV} {v : Value} {s : Ox.St} {zs : List CmV} {ys : List BrV} {csv bsv ksv : Value} (r : StX h v s zs ys csv bsv ksv) (le : HV.le h h') : StX h' v s zs ys csv bsv ksv :=
  ⟨r.val, r.cs, r.bs, r.crow.mono le, fun z hz => (r.cok z hz).mono le, r.brow.mono le, fun y hy => (r.bok y hy).mono le, r.krow.mono le⟩
theorem StH.mono {h h' : HV} {v : Value} {s : Ox.St} (r : StH h v s) (le : HV.le h h') : StH h' v s := by
  obtain ⟨zs, ys, csv, bsv, ksv, r⟩ := r
  exact ⟨zs, ys, csv, bsv, ksv, r.mono le⟩
/-- the machine's own cells -/
def mcc (nc nb : Int) (csv bsv ksv : Value) (dm : Nat) : List Value := [.int .i64 nc, .int .i64 nb, csv, bsv, ksv, .map (some dm)]
end Go.Proofs.YthjgbmbaabpgmaaGreat
