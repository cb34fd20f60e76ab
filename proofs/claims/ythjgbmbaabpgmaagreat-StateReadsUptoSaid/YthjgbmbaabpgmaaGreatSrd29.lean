/-
  Deltas behind one another: the sides.
-/
import Derived.Test.YthjgbmbaabpgmaaGreatSrd05
import Derived.Test.YthjgbmbaabpgmaaGreatSrd12
import Derived.Test.YthjgbmbaabpgmaaGreatSrd13
import Derived.Test.YthjgbmbaabpgmaaGreatSrd17
set_option linter.unusedVariables false
set_option linter.unusedSimpArgs false
set_option linter.unusedSectionVars false
namespace Go.Proofs.YthjgbmbaabpgmaaGreat
open Go.Sy
set_option maxRecDepth 4000
set_option maxHeartbeats 4000000
namespace Ox
/-- how many code points of the text behind it an operation goes along -/
def shownI (o : Op) : Int := if o.kind = 3 then 0 else if o.kind = 2 then tlen o.text else o.n
/-- one side -/
structure Sd where
  n : Nat
  ins : Int → List UInt8
  gone : Int → Bool
def sdStep (s : Sd) (o : Op) : Sd :=
  ⟨s.n + o.n.toNat, if o.kind = 2 then (fun k => if k = (s.n : Int) then o.text else s.ins k) else s.ins, if o.kind = 3 then (fun k => s.gone k || decide ((s.n : Int) ≤ k ∧ k < (s.n : Int) + o.n)) else s.gone⟩
def sideF (d : List Op) : Sd := d.foldl sdStep ⟨0, fun _ => [], fun _ => false⟩
theorem sideF_snoc (d : List Op) (o : Op) : sideF (d ++ [o]) = sdStep (sideF d) o := by simp [sideF]
theorem sideF_n (d : List Op) : (sideF d).n = (d.map fun o => o.n.toNat).sum := by
  rcases d.eq_nil_or_concat with rfl | ⟨r, x, rfl⟩
  · rfl
  · rw [List.concat_eq_append, sideF_snoc]
    have := sideF_n r
    simp only [sdStep, this]; simp
termination_by d.length
decreasing_by subst_vars; simp
/-- operations that are small -/
def Sane (d : List Op) : Prop := ∀ o ∈ d, 0 ≤ o.n ∧ o.n ≤ 1000 ∧ o.text.length ≤ 4000
theorem J.gap_sane {j : J} (h : Sane j.out) (hk : j.kept ≤ 1000) (hg : j.gone ≤ 1000) (hi : j.ins.length ≤ 4000) : Sane j.gap.out := by
  have app : ∀ {l : List Op} {o : Op}, Sane l → (0 ≤ o.n ∧ o.n ≤ 1000 ∧ o.text.length ≤ 4000) → Sane (l ++ [o]) := fun hl ho q hq => by
    rcases List.mem_append.1 hq with h1 | h1
    · exact hl q h1
    · simp at h1; subst h1; exact ho
  have h1 : Sane j.keeps.out := by
    unfold J.keeps; split
    · exact app h (by simp; omega)
    · exact h
  have e1 : j.keeps.ins = j.ins ∧ j.keeps.gone = j.gone := by unfold J.keeps; split <;> simp
  have h2 : Sane j.keeps.gapIns.out := by
    unfold J.gapIns; split
    · exact app h1 (by simp [e1.1]; omega)
    · exact h1
  have e2 : j.keeps.gapIns.gone = j.gone := by unfold J.gapIns; split <;> simp [e1.2]
  have h3 : Sane j.keeps.gapIns.gapDel.out := by
    unfold J.gapDel; split
    · exact app h2 (by simp [e2]; omega)
    · exact h2
  unfold J.gap; split
  · exact h
  · exact h3
theorem joined_sane (ds : List DOp) (hb : base ds ≤ 1000) (ht : target ds ≤ 1000) : Sane (joined ds).out := by
  generalize hn : ds.length = n
  induction n generalizing ds with
  | zero => have := List.eq_nil_of_length_eq_zero hn; subst this; simp [joined, Sane]
  | succ n ih =>
    obtain ⟨ds', p, rfl⟩ : ∃ ds' p, ds = ds' ++ [p] := ⟨ds.dropLast, ds.getLast (by intro e; subst e; simp at hn), (List.dropLast_concat_getLast _).symm⟩
    have e1 : base (ds' ++ [p]) = base ds' + p.base := by simp [base]
    have e2 : target (ds' ++ [p]) = target ds' + p.target := by simp [target]
    have h1 := ih ds' (by omega) (by omega) (by simpa using hn)
    have h2 := joined_le ds'
    have h3 := joined_ins ds'
    have h4 := J.gap_sane h1 (by omega) (by omega) (by omega)
    rw [joined_app]
    cases p with
    | keep n => exact h4
    | del n => exact h1
    | ins l => exact h1
theorem norm_sane (ds : List DOp) (hb : base ds ≤ 1000) (ht : target ds ≤ 1000) : Sane (norm ds) := by
  have h1 := joined_sane ds hb ht
  have h2 := joined_le ds
  have h3 := joined_ins ds
  have h4 := J.gap_sane h1 (by omega) (by omega) (by omega)
  have h5 := (joined ds).gap_kept
  unfold norm J.fin J.keeps
  split
  · intro q hq
    rcases List.mem_append.1 hq with h | h
    · exact h4 q h
    · simp at h; subst h; simp; omega
  · exact h4
theorem norm_length (ds : List DOp) : (norm ds).length ≤ 3 * ds.length + 4 := by
  have h2 := joined_le ds
  have h3 := (joined ds).gap_len
  have h4 := J.keeps_len (joined ds).gap
  unfold norm J.fin
  omega
end Ox
/-- a map of texts in memory -/
def TextsM (m : List (Int × Value)) (f : Int → List UInt8) : Prop := ∀ k, (mget m k).getD (str []) = str (f k)
def BoolsM (m : List (Int × Value)) (f : Int → Bool) : Prop := ∀ k, (mget m k).getD (.bool false) = .bool (f k)
attribute [local irreducible] At Ops Val Eff Does Res Dr

theorem long_does (o : Ox.Op) (h : HV) : Does Tryz.prog 146 #[.agg #[.int .i64 o.kind, .int .i64 o.n, str o.text]] [] h (Just h (· = .int .i64 o.n)) := by
  refine Does.of Tryz.func146 rfl Tryz.ntmps146 rfl fun c hc0 => ?_
  refine goK _ ?_
  refine Ops.eff rfl rfl rfl (Eff.box rfl) fun _ => Ops.ex fun b1 => Ops.pure ?_
  rintro rfl
  refine goK _ ?_
  exact At.ret1 Tryz.results146 (Res.tmp rfl) (List.nil_sublist _) ⟨rfl, rfl, hc0.symm ▸ rfl⟩

theorem shown_does (o : Ox.Op) (ht : o.text.length ≤ 10000000000) (h : HV) : Does Tryz.prog 109 #[.agg #[.int .i64 o.kind, .int .i64 o.n, str o.text]] [] h (Just h (· = .int .i64 (Ox.shownI o))) := by
  refine Does.of Tryz.func109 rfl Tryz.ntmps109 rfl fun c hc0 => ?_
  refine goK _ ?_
  refine Ops.eff rfl rfl rfl (Eff.box rfl) fun _ => Ops.ex fun b1 => Ops.pure ?_
  rintro rfl
  refine goK _ ?_
  refine At.condP rfl (fun h1 => ?_) (fun h1 => ?_)
  · refine goK _ ?_
    exact At.ret1 Tryz.results109 (Res.tmp rfl) (List.nil_sublist _) ⟨by rw [Ox.shownI, if_pos h1], rfl, hc0.symm ▸ rfl⟩
  refine goK _ ?_
  refine At.condP rfl (fun h2 => ?_) (fun h2 => ?_)
  · refine goK _ ?_
    refine Ops.eff rfl rfl rfl (Eff.call (fn (by kernel_rfl)) rfl (Ωc := []) rfl (Len_does o.text (by omega) h)) fun _ => Ops.ex fun _ => Ops.ex fun _ => Ops.pure ?_
    rintro ⟨rfl, rfl, rfl⟩
    refine goK _ ?_
    exact At.ret1 Tryz.results109 (Res.tmp rfl) (List.nil_sublist _) ⟨by rw [Ox.shownI, if_neg h1, if_pos h2], rfl, hc0.symm ▸ rfl⟩
  refine goK _ ?_
  exact At.ret1 Tryz.results109 (Res.tmp rfl) (List.nil_sublist _) ⟨by rw [Ox.shownI, if_neg h1, if_neg h2], rfl, hc0.symm ▸ rfl⟩

theorem sideOf_does (v : Value) (d : List Ox.Op) (hd : Ox.Sane d) (hl : d.length ≤ 100000) (h : HV) (hv : OpsH h v d) :
    Does Tryz.prog 107 #[v] [] h (fun r Ω' h' => h = h' ∧ ∃ b1 b2 m1 m2, r = .agg #[.map (some b1), .map (some b2), .int .i64 ((Ox.sideF d).n : Int)] ∧ Ω' = [mapI key b2 m2, mapI key b1 m1] ∧ TextsM m1 (Ox.sideF d).ins ∧ BoolsM m2 (Ox.sideF d).gone) := by
  obtain ⟨a, cp, rfl⟩ := hv.form
  refine Does.of Tryz.func107 rfl Tryz.ntmps107 rfl fun c hc0 => ?_
  refine goK _ ?_
  refine Ops.eff rfl rfl rfl (E.alloc rfl) fun _ => Ops.ex fun bt => Ops.pure ?_
  rintro rfl
  refine goK _ ?_
  refine Ops.eff rfl rfl rfl (E.makeMap key) fun _ => Ops.ex fun b1 => Ops.pure ?_
  rintro rfl
  refine Ops.eff rfl rfl rfl (E.makeMap key) fun _ => Ops.ex fun b2 => Ops.pure ?_
  rintro rfl
  refine goK _ ?_
  refine Ops.eff rfl rfl rfl (E.alloc rfl) fun _ => Ops.ex fun b3 => Ops.pure ?_
  rintro rfl
  refine Ops.eff0 rfl rfl (E.store 0 rfl rfl rfl rfl rfl rfl rfl) fun _ => ?_
  refine goK _ ?_
  refine At.loop3 (fun (i : Nat) (_ : List (Int × Value)) (_ : List (Int × Value)) => [(2, .pointer (some ⟨bt, 0, none⟩)), (3, .pointer (some ⟨b3, 0, none⟩)), (10, .slice a d.length cp), (11, .int .i64 (d.length : Int)), (12, .int .i64 (i : Int))])
    (fun (i : Nat) (m1 : List (Int × Value)) (m2 : List (Int × Value)) w => (i ≤ d.length ∧ TextsM m1 (Ox.sideF (d.take i)).ins ∧ BoolsM m2 (Ox.sideF (d.take i)).gone) ∧
      Mem c [cells b3 [.map (some b1), .map (some b2), .int .i64 ((Ox.sideF (d.take i)).n : Int)] 183, mapI key b2 m2, mapI key b1 m1, cells bt [.map none, .map none, .int .i64 0] 183] h w) (fun (i : Nat) (_ : List (Int × Value)) (_ : List (Int × Value)) => d.length - i)
    0 [] [] ⟨rfl, rfl, rfl, rfl, rfl, trivial⟩ (fun w hw => ⟨⟨Nat.zero_le _, fun k => rfl, fun k => rfl⟩, hw⟩) (fun i m1 m2 => At.pure (fun hq => ?_))
  obtain ⟨hi, ht1, hb2⟩ := hq
  refine goK _ ?_
  refine At.condP rfl (fun h1 => ?_) (fun h1 => ?_)
  rotate_left
  · obtain rfl : i = d.length := by omega
    rw [List.take_length] at ht1 hb2 ⊢
    repeat (first | refine Ops.val rfl rfl rfl (V.loadOA 0 rfl rfl rfl rfl) ?_ | refine goS _ ?_)
    refine Ops.eff0 rfl rfl (E.store 3 rfl rfl rfl rfl rfl rfl rfl) fun _ => ?_
    refine goK _ ?_
    refine At.pick (Ω' := [mapI key b2 m2, mapI key b1 m1, cells bt [.map (some b1), .map (some b2), .int .i64 ((Ox.sideF d).n : Int)] 183]) [1, 2, 3] (by decide) rfl ?_
    refine At.ret1 Tryz.results107 (Res.cellA (j := 2) (ly (t := 183) rfl) rfl rfl rfl) (((List.nil_sublist _).cons_cons _).cons_cons _) ⟨hc0.symm ▸ rfl, b1, b2, m1, m2, rfl, rfl, ht1, hb2⟩
  have hlt : i < d.length := by omega
  obtain ⟨b, o, rfl, _, _, hc⟩ := RowH.elem opc_length hv (i := i) (x := d[i]) (by simp [hlt])
  have hts : d.take (i + 1) = d.take i ++ [d[i]] := by rw [List.take_succ_eq_append_getElem hlt]
  have hsn := hd d[i] (by simp)
  have hnl : (Ox.sideF (d.take i)).n ≤ 100000000 := by
    rw [Ox.sideF_n]
    have key : ∀ l : List Ox.Op, Ox.Sane l → (l.map fun o => o.n.toNat).sum ≤ 1000 * l.length := fun l => by
      induction l with
      | nil => simp
      | cons q r ih =>
        intro hl
        have h1 := ih fun z hz => hl z (by simp [hz])
        have h2 := hl q (by simp)
        simp only [List.map_cons, List.sum_cons, List.length_cons]; omega
    have := key (d.take i) fun z hz => hd z (List.mem_of_mem_take hz)
    rw [List.length_take] at this; omega
  have hst := Ox.sideF_snoc (d.take i) d[i]
  rw [← hts] at hst
  generalize hS : Ox.sideF (d.take i) = S at *
  generalize hx : d[i] = x at *
  obtain ⟨xk, xn, xt⟩ := x
  simp only at hsn
  repeat (first | refine Ops.val rfl rfl rfl (V.loadHA (cs := [.int .i64 xk, .int .i64 xn, str xt]) rfl rfl rfl hc) ?_ | refine goS _ ?_)
  refine Ops.eff rfl rfl rfl (E.alloc rfl) fun _ => Ops.ex fun b5 => Ops.pure ?_
  rintro rfl
  refine Ops.eff0 rfl rfl (E.store 0 rfl rfl rfl rfl rfl rfl rfl) fun _ => ?_
  refine goK _ ?_
  refine At.meet2 (fun (_ : List (Int × Value)) (_ : List (Int × Value)) => [(2, .pointer (some ⟨bt, 0, none⟩)), (3, .pointer (some ⟨b3, 0, none⟩)), (5, .pointer (some ⟨b5, 0, none⟩)), (10, .slice (some ⟨b, o, none⟩) d.length cp), (11, .int .i64 (d.length : Int)), (12, .int .i64 (i : Int))])
    (fun (m1' : List (Int × Value)) (m2' : List (Int × Value)) w => (TextsM m1' (Ox.sdStep S ⟨xk, xn, xt⟩).ins ∧ BoolsM m2' (Ox.sdStep S ⟨xk, xn, xt⟩).gone) ∧
      Mem c [cells b5 [.int .i64 xk, .int .i64 xn, str xt] 112, cells b3 [.map (some b1), .map (some b2), .int .i64 (S.n : Int)] 183, mapI key b2 m2', mapI key b1 m1', cells bt [.map none, .map none, .int .i64 0] 183] h w) (fun k' meet => ?_) (fun m1' m2' => At.pure (fun hq => ?_))
  · refine goK _ ?_
    refine At.condP rfl (fun h2 => ?_) (fun h2 => ?_)
    · subst h2
      refine goK _ ?_
      refine Ops.eff0 rfl rfl (E.mapUpdate 3 key3 rfl rfl rfl rfl rfl) fun _ => ?_
      refine goK _ ?_
      refine meet (mset m1 (S.n : Int) (str xt)) m2 (by exact ⟨rfl, rfl, rfl, rfl, rfl, rfl, trivial⟩) (fun w hw => ⟨⟨fun k => ?_, fun k => ?_⟩, hw⟩)
      · rw [mget_mset]
        simp only [Ox.sdStep, if_pos]
        by_cases hk : (S.n : Int) = k
        · rw [if_pos hk, if_pos hk.symm]; rfl
        · rw [if_neg hk, if_neg (Ne.symm hk)]; exact ht1 k
      · rw [hb2 k]; simp [Ox.sdStep]
    refine goK _ ?_
    refine At.condP rfl (fun h3 => ?_) (fun h3 => ?_)
    · subst h3
      refine goK _ ?_
      refine At.loop2 (fun (j : Nat) (_ : List (Int × Value)) => [(2, .pointer (some ⟨bt, 0, none⟩)), (3, .pointer (some ⟨b3, 0, none⟩)), (5, .pointer (some ⟨b5, 0, none⟩)), (10, .slice (some ⟨b, o, none⟩) d.length cp), (11, .int .i64 (d.length : Int)), (12, .int .i64 (i : Int)), (29, .int .i64 xn), (30, .int .i64 (j : Int))])
        (fun (j : Nat) (m2' : List (Int × Value)) w => ((j : Int) ≤ xn ∧ BoolsM m2' (fun k => S.gone k || decide ((S.n : Int) ≤ k ∧ k < (S.n : Int) + j))) ∧
          Mem c [cells b5 [.int .i64 3, .int .i64 xn, str xt] 112, cells b3 [.map (some b1), .map (some b2), .int .i64 (S.n : Int)] 183, mapI key b2 m2', mapI key b1 m1, cells bt [.map none, .map none, .int .i64 0] 183] h w) (fun (j : Nat) (_ : List (Int × Value)) => xn.toNat - j)
        0 m2 ⟨rfl, rfl, rfl, rfl, rfl, rfl, rfl, rfl, trivial⟩ (fun w hw => ⟨⟨by simp; omega, fun k => by rw [hb2 k]; simp; omega⟩, hw⟩) (fun j m2' => At.pure (fun hq => ?_))
      obtain ⟨hj, hm2⟩ := hq
      refine goK _ ?_
      refine At.condP rfl (fun h4 => ?_) (fun h4 => ?_)
      rotate_left
      · have hje : (j : Int) = xn := by omega
        refine goK _ ?_
        refine meet m1 m2' (by exact ⟨rfl, rfl, rfl, rfl, rfl, rfl, trivial⟩) (fun w hw => ⟨⟨fun k => ?_, fun k => ?_⟩, hw⟩)
        · rw [ht1 k]; simp [Ox.sdStep]
        · rw [hm2 k, hje]; simp [Ox.sdStep]
      refine goK _ ?_
      refine Ops.eff0 rfl rfl (E.mapUpdate 2 key3 rfl rfl rfl rfl rfl) fun _ => ?_
      refine goK _ ?_
      refine At.back2 (j + 1) (mset m2' ((S.n : Int) + j) (.bool true)) (by omega) (by exact ⟨rfl, rfl, rfl, rfl, rfl, rfl, rfl, rfl, trivial⟩) (fun w hw => ⟨⟨by omega, fun k => ?_⟩, hw⟩)
      rw [mget_mset]
      by_cases hk : (S.n : Int) + j = k
      · rw [if_pos hk]; simp only [Option.getD_some]; congr 1; simp; right; omega
      · rw [if_neg hk, hm2 k]
        refine congrArg Value.bool (congrArg (S.gone k || ·) ?_)
        rw [Bool.eq_iff_iff, decide_eq_true_iff, decide_eq_true_iff]
        omega
    refine goK _ ?_
    refine meet m1 m2 (by exact ⟨rfl, rfl, rfl, rfl, rfl, rfl, trivial⟩) (fun w hw => ⟨⟨fun k => ?_, fun k => ?_⟩, hw⟩)
    · rw [ht1 k]; simp [Ox.sdStep, h2]
    · rw [hb2 k]; simp [Ox.sdStep, h3]
  obtain ⟨ht1', hb2'⟩ := hq
  refine goK _ ?_
  first | refine At.drawn mo (fun _ _ m => m.drew _) ?_ | refine At.seq (At.drawn mo (fun _ _ m => m.drew _) ?_)
  refine Dr.val 0 rfl rfl rfl rfl (by kernel_rfl) rfl (V.fieldAddr rfl rfl) ?_
  refine Dr.valS 1 _ rfl rfl rfl rfl (by kernel_rfl) rfl (V.load rfl rfl (fun _ hh => hh)) (fun w hw => hw.cell (n := 1) rfl rfl) ?_
  refine Dr.valS 2 _ rfl rfl rfl rfl (by kernel_rfl) rfl (V.loadN (cs := [.int .i64 xk, .int .i64 xn, str xt]) rfl rfl rfl (fun _ hh => hh)) (fun w hw => hw.cellsAt (n := 0) rfl rfl) ?_
  refine Dr.next (e := 3) rfl rfl (by kernel_rfl) rfl (by kernel_rfl) (by kernel_rfl) rfl rfl (Eff.call (fn (by kernel_rfl)) rfl (Ωc := []) rfl (long_does ⟨xk, xn, xt⟩ h)) aokK fun _ => Dr.ex fun _ => Dr.ex fun _ => Dr.pure ?_
  rintro ⟨rfl, rfl, rfl⟩
  refine Dr.respell (t := 43) (v' := .int .i64 xn) rfl rfl ?_
  refine Dr.val 4 rfl rfl rfl rfl (by kernel_rfl) rfl (Val.add rfl rfl (by omega) (by omega)) ?_
  refine Dr.val 5 rfl rfl rfl rfl (by kernel_rfl) rfl (V.fieldAddr rfl rfl) ?_
  refine Dr.next0 (e := 6) rfl rfl (by kernel_rfl) rfl (by kernel_rfl) (by kernel_rfl) rfl (E.store 1 rfl rfl rfl rfl rfl rfl rfl) aokK fun _ => ?_
  refine Dr.done (by kernel_rfl) (by kernel_rfl) ?_
  refine goK _ ?_
  have hnn : (Ox.sdStep S ⟨xk, xn, xt⟩).n = S.n + xn.toNat := rfl
  refine At.back3 (i + 1) m1' m2' (by show d.length - (i + 1) < d.length - i; omega) (by exact ⟨rfl, rfl, rfl, rfl, rfl, trivial⟩) (fun w hw => ⟨⟨hlt, by rw [hst]; exact ht1', by rw [hst]; exact hb2'⟩, ?_⟩)
  rw [hst, hnn]
  have e1 : ((S.n + xn.toNat : Nat) : Int) = (S.n : Int) + xn := by omega
  rw [e1]
  exact hw.sub (List.sublist_cons_self _ _)
end Go.Proofs.YthjgbmbaabpgmaaGreat
