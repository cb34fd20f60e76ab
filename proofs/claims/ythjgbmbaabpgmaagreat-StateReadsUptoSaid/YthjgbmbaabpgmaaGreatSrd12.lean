/-
  Deltas: what the joiner and Normal do.
-/
import Derived.Test.YthjgbmbaabpgmaaGreatSrd05
import Derived.Test.YthjgbmbaabpgmaaGreatSrd11
set_option linter.unusedVariables false
set_option linter.unusedSimpArgs false
set_option linter.unusedSectionVars false
namespace Go.Proofs.YthjgbmbaabpgmaaGreat
open Go.Sy
set_option maxRecDepth 4000
set_option maxHeartbeats 4000000
attribute [local irreducible] At Ops Val Eff Does Res Dr
namespace Ox
/-- a joiner -/
structure J where
  out : List Op
  ins : List UInt8
  gone : Nat
  kept : Nat
def J.keeps (j : J) : J := if 0 < j.kept then { j with out := j.out ++ [⟨1, (j.kept : Int), []⟩], kept := 0 } else j
def J.gapIns (j : J) : J := if j.ins ≠ [] then { j with out := j.out ++ [⟨2, 0, j.ins⟩] } else j
def J.gapDel (j : J) : J := if 0 < j.gone then { j with out := j.out ++ [⟨3, (j.gone : Int), []⟩] } else j
def J.gap (j : J) : J := if j.ins = [] ∧ j.gone = 0 then j else { j.keeps.gapIns.gapDel with ins := [], gone := 0 }
end Ox
/-- a joiner in memory -/
def JM (b : Nat) (u : Value) (j : Ox.J) : List Itm := [cells b [u, str j.ins, .int .i64 (j.gone : Int), .int .i64 (j.kept : Int)] 174, row 112 3 u j.out.length (j.out.flatMap opc)]
/-- what a joiner's method gives -/
def JPost (b : Nat) (j : Ox.J) (h : HV) : Value → List Itm → HV → Prop := fun v Ω' h' => v = .tuple #[] ∧ (∃ u', Ω' = JM b u' j) ∧ h = h'

theorem two {α : Type} {a a' b b' : α} (h1 : a = a') (h2 : b = b') : [a, b] = [a', b'] := by rw [h1, h2]
theorem keeps_does (b : Nat) (u : Value) (j : Ox.J) (hj : j.out.length ≤ 1000000) (h : HV) :
    Does Tryz.prog 103 #[.pointer (some ⟨b, 0, none⟩)] (JM b u j) h (JPost b j.keeps h) := by
  obtain ⟨out, ins, gone, kept⟩ := j
  simp only at hj
  refine Does.of Tryz.func103 rfl Tryz.ntmps103 rfl fun c hc0 => ?_
  unfold JM
  refine goK _ ?_
  refine At.condP rfl (fun h1 => ?_) (fun h1 => ?_)
  · have h1' : 0 < kept := by simpa using h1
    first | refine At.drawn mo (fun _ _ m => m.drew _) ?_ | refine At.seq (At.drawn mo (fun _ _ m => m.drew _) ?_)
    refine Dr.val 0 rfl rfl rfl rfl (by kernel_rfl) rfl (Val.move rfl) ?_
    refine Dr.val 1 rfl rfl rfl rfl (by kernel_rfl) rfl (Val.move rfl) ?_
    refine Dr.val 2 rfl rfl rfl rfl (by kernel_rfl) rfl (Val.nilCheck rfl) ?_
    refine Dr.val 3 rfl rfl rfl rfl (by kernel_rfl) rfl (V.fieldAddr rfl rfl) ?_
    refine Dr.valS 4 _ rfl rfl rfl rfl (by kernel_rfl) rfl (V.load rfl rfl (fun _ hh => hh)) (fun w hw => hw.cell (n := 0) rfl rfl) ?_
    refine Dr.val 5 rfl rfl rfl rfl (by kernel_rfl) rfl (Val.move rfl) ?_
    refine Dr.val 6 rfl rfl rfl rfl (by kernel_rfl) rfl (Val.nilCheck rfl) ?_
    refine Dr.val 7 rfl rfl rfl rfl (by kernel_rfl) rfl (V.fieldAddr rfl rfl) ?_
    refine Dr.valS 8 _ rfl rfl rfl rfl (by kernel_rfl) rfl (V.load rfl rfl (fun _ hh => hh)) (fun w hw => hw.cell (n := 0) rfl rfl) ?_
    refine Dr.val 9 rfl rfl rfl rfl (by kernel_rfl) rfl (V.build rfl rfl rfl) ?_
    refine Dr.next (e := 10) rfl rfl (by kernel_rfl) rfl (by kernel_rfl) (by kernel_rfl) rfl rfl (E.buildSlice1 rfl rfl rfl rfl) aokK fun _ => Dr.ex fun _ => Dr.pure ?_
    rintro rfl
    refine Dr.next (e := 11) rfl rfl (by kernel_rfl) rfl (by kernel_rfl) (by kernel_rfl) rfl rfl (E.append1s 1 rfl rfl rfl rfl rfl rfl (by simp; omega) (by simp; omega)) aokK fun _ => ?_
    refine Dr.ex fun g => Dr.ex fun cp => Dr.pure ?_
    rintro rfl
    refine Dr.val 12 rfl rfl rfl rfl (by kernel_rfl) rfl (Val.nilCheck rfl) ?_
    refine Dr.val 13 rfl rfl rfl rfl (by kernel_rfl) rfl (V.fieldAddr rfl rfl) ?_
    refine Dr.next0 (e := 14) rfl rfl (by kernel_rfl) rfl (by kernel_rfl) (by kernel_rfl) rfl (E.store 0 rfl rfl rfl rfl rfl rfl rfl) aokK fun _ => ?_
    refine Dr.done (by kernel_rfl) (by kernel_rfl) ?_
    refine goK _ ?_
    refine Ops.eff0 rfl rfl (E.store 0 rfl rfl rfl rfl rfl rfl rfl) fun _ => ?_
    refine goK _ ?_
    refine At.fin0 Tryz.results103 (List.Sublist.refl _) ⟨rfl, ⟨.slice (some ⟨g, 0, none⟩) (out.length + 1) cp, ?_⟩, rfl⟩
    rw [show Ox.J.keeps ⟨out, ins, gone, kept⟩ = ⟨out ++ [⟨1, (kept : Int), []⟩], ins, gone, 0⟩ from if_pos h1']
    refine two rfl ?_
    rw [List.flatMap_append, List.length_append]; rfl
  · refine goK _ ?_
    refine At.fin0 Tryz.results103 (List.Sublist.refl _) ⟨rfl, ⟨u, ?_⟩, rfl⟩
    have h1' : kept = 0 := by simpa using h1
    simp [JM, Ox.J.keeps, h1']

theorem Ox.J.keeps_ins (j : Ox.J) : ∃ out k, j.keeps = ⟨out, j.ins, j.gone, k⟩ ∧ out.length ≤ j.out.length + 1 := by
  unfold Ox.J.keeps; split
  · exact ⟨_, _, rfl, by simp⟩
  · exact ⟨_, _, rfl, by simp⟩

theorem gap_does (b : Nat) (u : Value) (j : Ox.J) (hj : j.out.length ≤ 900000) (h : HV) :
    Does Tryz.prog 102 #[.pointer (some ⟨b, 0, none⟩)] (JM b u j) h (JPost b j.gap h) := by
  obtain ⟨out0, ins, gone, kept0⟩ := j
  simp only at hj
  refine Does.of Tryz.func102 rfl Tryz.ntmps102 rfl fun c hc0 => ?_
  unfold JM
  refine goK _ ?_
  refine Ops.forkR 13 (.bool (decide (ins = [] ∧ gone = 0))) [0] ?_ (fun main => ?_)
  rotate_left
  · repeat' (first
      | refine opS _ ?_
      | refine Ops.gsplit rfl rfl (fun hb => ?_) (fun hb => ?_)
      | refine Ops.psplit rfl (fun hb => ?_) (fun hb => ?_))
    all_goals (refine Ops.nil ?_; refine main.sub ⟨congrArg (fun b => some (Value.bool b)) ?_, (by repeat (first | exact trivial | refine ⟨rfl, ?_⟩))⟩; clear main; (by_cases hi : ins = [] <;> simp [hi] at *))
  refine At.condP rfl (fun h1 => ?_) (fun h1 => ?_)
  · refine goK _ ?_
    refine At.ret0 Tryz.results102 (List.Sublist.refl _) ⟨rfl, ⟨u, ?_⟩, rfl⟩
    rw [show Ox.J.gap ⟨out0, ins, gone, kept0⟩ = ⟨out0, ins, gone, kept0⟩ from if_pos h1]; rfl
  have hg : Ox.J.gap ⟨out0, ins, gone, kept0⟩ = _ := if_neg h1
  obtain ⟨out1, kept1, hk, hl1⟩ := Ox.J.keeps_ins ⟨out0, ins, gone, kept0⟩
  simp only [hk] at hg hl1
  have hkd := keeps_does b u ⟨out0, ins, gone, kept0⟩ (by simp; omega) h
  rw [hk] at hkd
  refine goK _ ?_
  refine Ops.eff rfl rfl rfl (Eff.call (fn (by kernel_rfl)) rfl (Ωc := JM b u ⟨out0, ins, gone, kept0⟩) rfl hkd) fun _ => Ops.ex fun _ => Ops.ex fun _ => Ops.pure ?_
  intro hJ
  obtain ⟨rfl, ⟨u1, rfl⟩, rfl⟩ := hJ
  unfold JM
  refine goK _ ?_
  refine At.meet2 (fun (_ : Value) (_ : List Ox.Op) => [(0, .pointer (some ⟨b, 0, none⟩))]) (fun u out w => (out.length ≤ 900002 ∧ Ox.J.gapIns ⟨out1, ins, gone, kept1⟩ = ⟨out, ins, gone, kept1⟩) ∧ Mem c (JM b u ⟨out, ins, gone, kept1⟩) h w) (fun k meet => ?_) (fun u out => At.pure fun ⟨hl, he⟩ => ?_)
  · refine At.condN rfl (fun h2 => ?_) (fun h2 => ?_)
    · first | refine At.drawn mo (fun _ _ m => m.drew _) ?_ | refine At.seq (At.drawn mo (fun _ _ m => m.drew _) ?_)
      refine Dr.val 0 rfl rfl rfl rfl (by kernel_rfl) rfl (Val.move rfl) ?_
      refine Dr.val 1 rfl rfl rfl rfl (by kernel_rfl) rfl (Val.move rfl) ?_
      refine Dr.val 2 rfl rfl rfl rfl (by kernel_rfl) rfl (Val.nilCheck rfl) ?_
      refine Dr.val 3 rfl rfl rfl rfl (by kernel_rfl) rfl (V.fieldAddr rfl rfl) ?_
      refine Dr.valS 4 _ rfl rfl rfl rfl (by kernel_rfl) rfl (V.load rfl rfl (fun _ hh => hh)) (fun w hw => hw.cell (n := 0) rfl rfl) ?_
      refine Dr.val 5 rfl rfl rfl rfl (by kernel_rfl) rfl (Val.move rfl) ?_
      refine Dr.val 6 rfl rfl rfl rfl (by kernel_rfl) rfl (Val.nilCheck rfl) ?_
      refine Dr.val 7 rfl rfl rfl rfl (by kernel_rfl) rfl (V.fieldAddr rfl rfl) ?_
      refine Dr.valS 8 _ rfl rfl rfl rfl (by kernel_rfl) rfl (V.load rfl rfl (fun _ hh => hh)) (fun w hw => hw.cell (n := 0) rfl rfl) ?_
      refine Dr.val 9 rfl rfl rfl rfl (by kernel_rfl) rfl (V.build rfl rfl rfl) ?_
      refine Dr.next (e := 10) rfl rfl (by kernel_rfl) rfl (by kernel_rfl) (by kernel_rfl) rfl rfl (E.buildSlice1 rfl rfl rfl rfl) aokK fun _ => Dr.ex fun _ => Dr.pure ?_
      rintro rfl
      refine Dr.next (e := 11) rfl rfl (by kernel_rfl) rfl (by kernel_rfl) (by kernel_rfl) rfl rfl (E.append1s 1 rfl rfl rfl rfl rfl rfl (by simp; omega) (by simp; omega)) aokK fun _ => ?_
      refine Dr.ex fun g2 => Dr.ex fun cp2 => Dr.pure ?_
      rintro rfl
      refine Dr.val 12 rfl rfl rfl rfl (by kernel_rfl) rfl (Val.nilCheck rfl) ?_
      refine Dr.val 13 rfl rfl rfl rfl (by kernel_rfl) rfl (V.fieldAddr rfl rfl) ?_
      refine Dr.next0 (e := 14) rfl rfl (by kernel_rfl) rfl (by kernel_rfl) (by kernel_rfl) rfl (E.store 0 rfl rfl rfl rfl rfl rfl rfl) aokK fun _ => ?_
      refine Dr.done (by kernel_rfl) (by kernel_rfl) ?_
      refine goK _ ?_
      refine meet (.slice (some ⟨g2, 0, none⟩) (out1.length + 1) cp2) (out1 ++ [⟨2, 0, ins⟩]) (by exact ⟨rfl, trivial⟩) (fun w hw => ⟨⟨by simp; omega, by rw [Ox.J.gapIns, if_pos h2]⟩, ?_⟩)
      refine Eq.mp (congrArg (fun z => Mem c z h w) (two rfl ?_)) hw
      rw [List.flatMap_append, List.length_append]; rfl
    · refine goK _ ?_
      refine meet u1 out1 (by exact ⟨rfl, trivial⟩) (fun w hw => ⟨⟨by omega, by rw [Ox.J.gapIns, if_neg (fun e => e h2)]⟩, hw⟩)
  rw [he] at hg
  unfold JM
  refine goK _ ?_
  refine At.meet2 (fun (_ : Value) (_ : List Ox.Op) => [(0, .pointer (some ⟨b, 0, none⟩))]) (fun u out2 w => Ox.J.gapDel ⟨out, ins, gone, kept1⟩ = ⟨out2, ins, gone, kept1⟩ ∧ Mem c (JM b u ⟨out2, ins, gone, kept1⟩) h w) (fun k meet => ?_) (fun u out2 => At.pure fun he => ?_)
  · refine At.condP rfl (fun h2 => ?_) (fun h2 => ?_)
    · first | refine At.drawn mo (fun _ _ m => m.drew _) ?_ | refine At.seq (At.drawn mo (fun _ _ m => m.drew _) ?_)
      refine Dr.val 0 rfl rfl rfl rfl (by kernel_rfl) rfl (Val.move rfl) ?_
      refine Dr.val 1 rfl rfl rfl rfl (by kernel_rfl) rfl (Val.move rfl) ?_
      refine Dr.val 2 rfl rfl rfl rfl (by kernel_rfl) rfl (Val.nilCheck rfl) ?_
      refine Dr.val 3 rfl rfl rfl rfl (by kernel_rfl) rfl (V.fieldAddr rfl rfl) ?_
      refine Dr.valS 4 _ rfl rfl rfl rfl (by kernel_rfl) rfl (V.load rfl rfl (fun _ hh => hh)) (fun w hw => hw.cell (n := 0) rfl rfl) ?_
      refine Dr.val 5 rfl rfl rfl rfl (by kernel_rfl) rfl (Val.move rfl) ?_
      refine Dr.val 6 rfl rfl rfl rfl (by kernel_rfl) rfl (Val.nilCheck rfl) ?_
      refine Dr.val 7 rfl rfl rfl rfl (by kernel_rfl) rfl (V.fieldAddr rfl rfl) ?_
      refine Dr.valS 8 _ rfl rfl rfl rfl (by kernel_rfl) rfl (V.load rfl rfl (fun _ hh => hh)) (fun w hw => hw.cell (n := 0) rfl rfl) ?_
      refine Dr.val 9 rfl rfl rfl rfl (by kernel_rfl) rfl (V.build rfl rfl rfl) ?_
      refine Dr.next (e := 10) rfl rfl (by kernel_rfl) rfl (by kernel_rfl) (by kernel_rfl) rfl rfl (E.buildSlice1 rfl rfl rfl rfl) aokK fun _ => Dr.ex fun _ => Dr.pure ?_
      rintro rfl
      refine Dr.next (e := 11) rfl rfl (by kernel_rfl) rfl (by kernel_rfl) (by kernel_rfl) rfl rfl (E.append1s 1 rfl rfl rfl rfl rfl rfl (by simp; omega) (by simp; omega)) aokK fun _ => ?_
      refine Dr.ex fun g2 => Dr.ex fun cp2 => Dr.pure ?_
      rintro rfl
      refine Dr.val 12 rfl rfl rfl rfl (by kernel_rfl) rfl (Val.nilCheck rfl) ?_
      refine Dr.val 13 rfl rfl rfl rfl (by kernel_rfl) rfl (V.fieldAddr rfl rfl) ?_
      refine Dr.next0 (e := 14) rfl rfl (by kernel_rfl) rfl (by kernel_rfl) (by kernel_rfl) rfl (E.store 0 rfl rfl rfl rfl rfl rfl rfl) aokK fun _ => ?_
      refine Dr.done (by kernel_rfl) (by kernel_rfl) ?_
      refine goK _ ?_
      refine meet (.slice (some ⟨g2, 0, none⟩) (out.length + 1) cp2) (out ++ [⟨3, gone, []⟩]) (by exact ⟨rfl, trivial⟩) (fun w hw => ⟨by rw [Ox.J.gapDel, if_pos (by simpa using h2)], ?_⟩)
      refine Eq.mp (congrArg (fun z => Mem c z h w) (two rfl ?_)) hw
      rw [List.flatMap_append, List.length_append]; rfl
    · refine goK _ ?_
      refine meet u out (by exact ⟨rfl, trivial⟩) (fun w hw => ⟨by rw [Ox.J.gapDel, if_neg (by simpa using h2)], hw⟩)
  rw [he] at hg
  unfold JM
  refine goK _ ?_
  refine Ops.eff0 rfl rfl (E.store 0 rfl rfl rfl rfl rfl rfl rfl) fun _ => ?_
  refine goK _ ?_
  refine Ops.eff0 rfl rfl (E.store 0 rfl rfl rfl rfl rfl rfl rfl) fun _ => ?_
  refine goK _ ?_
  refine At.fin0 Tryz.results102 (List.Sublist.refl _) ⟨rfl, ⟨u, ?_⟩, rfl⟩
  rw [hg]; rfl
end Go.Proofs.YthjgbmbaabpgmaaGreat
/-
  Deltas: Normal.
-/
namespace Go.Proofs.YthjgbmbaabpgmaaGreat
open Go.Sy
set_option maxRecDepth 4000
set_option maxHeartbeats 4000000
attribute [local irreducible] At Ops Val Eff Does Res Dr
namespace Ox
def J.step (j : J) : DOp → J
  | .keep n => { j.gap with kept := j.gap.kept + n }
  | .del n => { j with gone := j.gone + n }
  | .ins l => { j with ins := j.ins ++ encs l }
def J.fin (j : J) : List Op := j.gap.keeps.out
def joined (ds : List DOp) : J := ds.foldl J.step ⟨[], [], 0, 0⟩
def norm (ds : List DOp) : List Op := (joined ds).fin
theorem joined_app (ds : List DOp) (p : DOp) : joined (ds ++ [p]) = (joined ds).step p := by simp [joined]
theorem J.keeps_len (j : J) : j.keeps.out.length ≤ j.out.length + 1 := by
  obtain ⟨o, k, h, hl⟩ := J.keeps_ins j; rw [h]; exact hl
theorem J.gap_len (j : J) : j.gap.out.length ≤ j.out.length + 3 := by
  have h1 := j.keeps_len
  have h2 : j.keeps.gapIns.out.length ≤ j.keeps.out.length + 1 := by unfold J.gapIns; split <;> simp
  have h3 : j.keeps.gapIns.gapDel.out.length ≤ j.keeps.gapIns.out.length + 1 := by unfold J.gapDel; split <;> simp
  unfold J.gap; split
  · omega
  · simp only; omega
theorem J.gap_kept (j : J) : j.gap.kept ≤ j.kept ∧ j.gap.gone ≤ j.gone ∧ j.gap.ins.length ≤ j.ins.length := by
  have h1 : j.keeps.kept ≤ j.kept := by unfold J.keeps; split <;> simp
  have h2 : j.keeps.gapIns.kept = j.keeps.kept := by unfold J.gapIns; split <;> rfl
  have h3 : j.keeps.gapIns.gapDel.kept = j.keeps.gapIns.kept := by unfold J.gapDel; split <;> rfl
  unfold J.gap; split
  · exact ⟨Nat.le_refl _, Nat.le_refl _, Nat.le_refl _⟩
  · exact ⟨by simp only; omega, by simp, by simp⟩
theorem joined_le (ds : List DOp) : (joined ds).out.length ≤ 3 * ds.length ∧ (joined ds).kept ≤ base ds ∧ (joined ds).gone ≤ base ds := by
  generalize hn : ds.length = n
  induction n generalizing ds with
  | zero => have := List.eq_nil_of_length_eq_zero hn; subst this; simp [joined]
  | succ n ih =>
    obtain ⟨ds', p, rfl⟩ : ∃ ds' p, ds = ds' ++ [p] := ⟨ds.dropLast, ds.getLast (by intro e; subst e; simp at hn), (List.dropLast_concat_getLast _).symm⟩
    have := ih ds' (by simpa using hn)
    have hl := (joined ds').gap_len
    have hk := (joined ds').gap_kept
    have hb : base (ds' ++ [p]) = base ds' + p.base := by simp [base]
    rw [joined_app, hb]
    cases p <;> simp only [J.step, DOp.base] <;> omega
theorem joined_ins (ds : List DOp) : (joined ds).ins.length ≤ 4 * target ds := by
  generalize hn : ds.length = n
  induction n generalizing ds with
  | zero => have := List.eq_nil_of_length_eq_zero hn; subst this; simp [joined]
  | succ n ih =>
    obtain ⟨ds', p, rfl⟩ : ∃ ds' p, ds = ds' ++ [p] := ⟨ds.dropLast, ds.getLast (by intro e; subst e; simp at hn), (List.dropLast_concat_getLast _).symm⟩
    have := ih ds' (by simpa using hn)
    have hk := (joined ds').gap_kept
    have hb : target (ds' ++ [p]) = target ds' + p.target := by simp [target]
    rw [joined_app, hb]
    cases p with
    | ins l => have := encs_length l; simp only [J.step, DOp.target, List.length_append]; omega
    | _ => simp only [J.step, DOp.target]; omega
theorem parseAll_length {d : List Op} {ds : List DOp} (h : parseAll d = some ds) : ds.length = d.length := by
  induction d generalizing ds with
  | nil => simp [parseAll] at h; subst h; rfl
  | cons o r ih =>
    simp only [parseAll] at h
    cases hp : o.parse with
    | none => rw [hp] at h; cases h
    | some p =>
      cases hr : parseAll r with
      | none => rw [hp, hr] at h; cases h
      | some x => rw [hp, hr] at h; simp at h; subst h; simp [ih hr]
theorem parseAll_get {d : List Op} {ds : List DOp} (h : parseAll d = some ds) {i : Nat} (hi : i < d.length) : ∃ p, ds[i]? = some p ∧ d[i].parse = some p := by
  induction d generalizing ds i with
  | nil => simp at hi
  | cons o r ih =>
    simp only [parseAll] at h
    cases hp : o.parse with
    | none => rw [hp] at h; cases h
    | some p =>
      cases hr : parseAll r with
      | none => rw [hp, hr] at h; cases h
      | some x =>
        rw [hp, hr] at h; simp at h; subst h
        cases i with
        | zero => exact ⟨p, rfl, hp⟩
        | succ i => simpa using ih hr (by simpa using hi)
theorem parse_keep {o : Op} {n : Nat} (h : o.parse = some (.keep n)) : o = ⟨1, (n : Int), []⟩ ∧ 1 ≤ n := by
  unfold Op.parse at h
  split at h
  · rename_i hc; simp at h
    obtain ⟨k, m, t⟩ := o
    have := hc.2; simp [Op.plain] at this
    simp only at h hc
    exact ⟨by rw [hc.1, this.1.1, ← h, Int.toNat_of_nonneg (by omega)], by omega⟩
  · split at h
    · cases h
    · split at h
      · cases hq : points o.text <;> rw [hq] at h <;> cases h
      · cases h
theorem parse_del {o : Op} {n : Nat} (h : o.parse = some (.del n)) : o = ⟨3, (n : Int), []⟩ ∧ 1 ≤ n := by
  unfold Op.parse at h
  split at h
  · cases h
  · split at h
    · rename_i hc; simp at h
      obtain ⟨k, m, t⟩ := o
      have := hc.2; simp [Op.plain] at this
      simp only at h hc
      exact ⟨by rw [hc.1, this.1.1, ← h, Int.toNat_of_nonneg (by omega)], by omega⟩
    · split at h
      · cases hq : points o.text <;> rw [hq] at h <;> cases h
      · cases h
theorem parse_ins' {o : Op} {l : List Nat} (h : o.parse = some (.ins l)) : o = ⟨2, 0, encs l⟩ ∧ l ≠ [] := by
  have := Ox.parse_ins h
  obtain ⟨k, m, t⟩ := o
  obtain ⟨h1, h2, h3, h4⟩ := this
  simp only at h1 h2 h3
  exact ⟨by rw [h1, h2, (encs_points h3).1], h4⟩
theorem lens_ok {d : List Op} (h : (lens d).2.2 = 0) : ∃ ds, parseAll d = some ds ∧ d.length ≤ 3000 ∧ base ds ≤ 1000 ∧ target ds ≤ 1000 := by
  unfold lens at h
  split at h
  · simp at h
  · cases hp : parseAll d with
    | none => rw [hp] at h; simp at h
    | some ds =>
      rw [hp] at h; simp only at h
      split at h
      · simp at h
      · exact ⟨ds, rfl, by omega, by omega, by omega⟩
end Ox

theorem Normal_does (v : Value) (d : List Ox.Op) (ht : ∀ o ∈ d, o.text.length ≤ 10000000000) (h : HV) (hv : OpsH h v d) :
    Does Tryz.prog 52 #[v] [] h (fun r Ω' h' => Ω' = [] ∧ HV.le h h' ∧ ((∃ ds u, (Ox.lens d).2.2 = 0 ∧ Ox.parseAll d = some ds ∧ r = .tuple #[u, .int .i64 0] ∧ OpsH h' u (Ox.norm ds)) ∨
      ((Ox.lens d).2.2 ≠ 0 ∧ r = .tuple #[.slice none 0 0, .int .i64 ((Ox.lens d).2.2 : Int)]))) := by
  obtain ⟨a, cp, rfl⟩ := hv.form
  refine Does.of Tryz.func52 rfl Tryz.ntmps52 rfl fun c hc0 => ?_
  refine goK _ ?_
  refine Ops.eff rfl rfl rfl (Eff.call (fn (by kernel_rfl)) rfl (Ωc := []) rfl (Check_does _ d ht h hv)) fun _ => Ops.ex fun _ => Ops.ex fun _ => Ops.pure ?_
  rintro ⟨rfl, rfl, rfl⟩
  refine goK _ ?_
  refine At.condN rfl (fun h1 => ?_) (fun h1 => ?_)
  · refine goK _ ?_
    refine At.ret2 Tryz.results52 (Res.tmp rfl) (Res.tmp rfl) (List.nil_sublist _) ⟨rfl, HV.le.refl _, .inr ⟨by omega, rfl⟩⟩
  obtain ⟨ds, hds, hdl, hb, htg⟩ := Ox.lens_ok (d := d) (by omega)
  have hlen := Ox.parseAll_length hds
  refine goK _ ?_
  refine Ops.eff rfl rfl rfl (Eff.box rfl) fun _ => Ops.ex fun bj => Ops.pure ?_
  rintro rfl
  refine goK _ ?_
  refine At.loop2 (fun (i : Nat) (_ : Value) => [(5, .pointer (some ⟨bj, 0, none⟩)), (15, .slice a d.length cp), (16, .int .i64 (d.length : Int)), (17, .int .i64 (i : Int))])
    (fun (i : Nat) (u : Value) w => i ≤ d.length ∧ Mem c (JM bj u (Ox.joined (ds.take i))) h w) (fun (i : Nat) (_ : Value) => d.length - i)
    0 (.slice none 0 0) ⟨rfl, rfl, rfl, rfl, trivial⟩ (fun w hw => ⟨Nat.zero_le _, (hw.row_nil 112 3).perm (List.Perm.swap ..)⟩) (fun i u => At.pure fun hi => ?_)
  refine goK _ ?_
  refine At.condP rfl (fun h2 => ?_) (fun h2 => ?_)
  · have hlt : i < d.length := by omega
    obtain ⟨b, o, rfl, _, _, hc⟩ := RowH.elem opc_length hv (i := i) (x := d[i]) (by simp [hlt])
    obtain ⟨p, hp, hpp⟩ := Ox.parseAll_get hds hlt
    have hts : ds.take (i + 1) = ds.take i ++ [p] := by rw [List.take_add_one, hp]; rfl
    have hj := Ox.joined_app (ds.take i) p
    rw [← hts] at hj
    have hjl := Ox.joined_le (ds.take i)
    have hjl2 := Ox.joined_le (ds.take (i + 1))
    have hbl : ∀ k, Ox.base (ds.take k) ≤ 1000 := fun k => by
      have e : Ox.base ds = Ox.base (ds.take k) + Ox.base (ds.drop k) := by
        conv => lhs; rw [← List.take_append_drop k ds]
        rw [Ox.base, Ox.base, Ox.base, ← List.sum_append, ← List.map_append]
      omega
    have hb1 := hbl i
    have hb2 := hbl (i + 1)
    have htk : (ds.take i).length ≤ 3000 := by simp; omega
    have hji := Ox.joined_ins (ds.take i)
    have htl : ∀ k, Ox.target (ds.take k) ≤ 1000 := fun k => by
      have e : Ox.target ds = Ox.target (ds.take k) + Ox.target (ds.drop k) := by
        conv => lhs; rw [← List.take_append_drop k ds]
        rw [Ox.target, Ox.target, Ox.target, ← List.sum_append, ← List.map_append]
      omega
    have ht1 := htl i
    have ht2 : p.target ≤ 1000 := by
      have := htl (i + 1)
      rw [hts] at this; simp [Ox.target] at this; omega
    have hb3 : p.base ≤ 1000 := by
      have := hbl (i + 1)
      rw [hts] at this; simp [Ox.base] at this; omega
    generalize Ox.joined (ds.take i) = j at *
    generalize d[i] = x at *
    cases p with
    | keep n =>
      obtain ⟨rfl, hn⟩ := Ox.parse_keep hpp
      simp only [Ox.DOp.base] at hb3
      repeat (first | refine Ops.val rfl rfl rfl (V.loadHA (cs := [.int .i64 1, .int .i64 (n : Int), str []]) rfl rfl rfl hc) ?_ | refine goS _ ?_)
      refine Ops.eff rfl rfl rfl (E.alloc rfl) fun _ => Ops.ex fun b1 => Ops.pure ?_
      rintro rfl
      refine Ops.eff0 rfl rfl (E.store 0 rfl rfl rfl rfl rfl rfl rfl) fun _ => ?_
      refine goK _ ?_
      refine Ops.eff rfl rfl rfl (Eff.callAt 1 (fn (by kernel_rfl)) rfl (Ωc := JM bj u j) rfl (gap_does bj u j (by omega) h)) fun _ => Ops.ex fun _ => Ops.ex fun _ => Ops.pure ?_
      rintro ⟨rfl, ⟨u1, rfl⟩, rfl⟩
      unfold JM
      refine goK _ ?_
      first | refine At.drawn mo (fun _ _ m => m.drew _) ?_ | refine At.seq (At.drawn mo (fun _ _ m => m.drew _) ?_)
      refine Dr.val 0 rfl rfl rfl rfl (by kernel_rfl) rfl (Val.move rfl) ?_
      refine Dr.val 1 rfl rfl rfl rfl (by kernel_rfl) rfl (Val.nilCheck rfl) ?_
      refine Dr.val 2 rfl rfl rfl rfl (by kernel_rfl) rfl (V.fieldAddr rfl rfl) ?_
      refine Dr.valS 3 _ rfl rfl rfl rfl (by kernel_rfl) rfl (V.load rfl rfl (fun _ hh => hh)) (fun w hw => hw.cell (n := 0) rfl rfl) ?_
      refine Dr.val 4 rfl rfl rfl rfl (by kernel_rfl) rfl (V.fieldAddr rfl rfl) ?_
      refine Dr.valS 5 _ rfl rfl rfl rfl (by kernel_rfl) rfl (V.load rfl rfl (fun _ hh => hh)) (fun w hw => hw.cell (n := 2) rfl rfl) ?_
      refine Dr.val 6 rfl rfl rfl rfl (by kernel_rfl) rfl (Val.add rfl rfl (by have := j.gap_kept; omega) (by have := j.gap_kept; omega)) ?_
      refine Dr.val 7 rfl rfl rfl rfl (by kernel_rfl) rfl (Val.nilCheck rfl) ?_
      refine Dr.val 8 rfl rfl rfl rfl (by kernel_rfl) rfl (V.fieldAddr rfl rfl) ?_
      refine Dr.next0 (e := 9) rfl rfl (by kernel_rfl) rfl (by kernel_rfl) (by kernel_rfl) rfl (E.store 0 rfl rfl rfl rfl rfl rfl rfl) aokK fun _ => ?_
      refine Dr.done (by kernel_rfl) (by kernel_rfl) ?_
      refine goK _ ?_
      refine At.back2 (i + 1) u1 (by omega) (by exact ⟨rfl, rfl, rfl, rfl, trivial⟩) (fun w hw => ⟨hlt, by rw [hj]; exact hw.sub (List.Sublist.cons_cons _ (List.Sublist.cons_cons _ (List.nil_sublist _)))⟩)
    | del n =>
      obtain ⟨rfl, hn⟩ := Ox.parse_del hpp
      simp only [Ox.DOp.base] at hb3
      repeat (first | refine Ops.val rfl rfl rfl (V.loadHA (cs := [.int .i64 3, .int .i64 (n : Int), str []]) rfl rfl rfl hc) ?_ | refine goS _ ?_)
      refine Ops.eff rfl rfl rfl (E.alloc rfl) fun _ => Ops.ex fun b1 => Ops.pure ?_
      rintro rfl
      refine Ops.eff0 rfl rfl (E.store 0 rfl rfl rfl rfl rfl rfl rfl) fun _ => ?_
      unfold JM
      refine goK _ ?_
      first | refine At.drawn mo (fun _ _ m => m.drew _) ?_ | refine At.seq (At.drawn mo (fun _ _ m => m.drew _) ?_)
      refine Dr.val 0 rfl rfl rfl rfl (by kernel_rfl) rfl (Val.move rfl) ?_
      refine Dr.val 1 rfl rfl rfl rfl (by kernel_rfl) rfl (Val.nilCheck rfl) ?_
      refine Dr.val 2 rfl rfl rfl rfl (by kernel_rfl) rfl (V.fieldAddr rfl rfl) ?_
      refine Dr.valS 3 _ rfl rfl rfl rfl (by kernel_rfl) rfl (V.load rfl rfl (fun _ hh => hh)) (fun w hw => hw.cell (n := 1) rfl rfl) ?_
      refine Dr.val 4 rfl rfl rfl rfl (by kernel_rfl) rfl (V.fieldAddr rfl rfl) ?_
      refine Dr.valS 5 _ rfl rfl rfl rfl (by kernel_rfl) rfl (V.load rfl rfl (fun _ hh => hh)) (fun w hw => hw.cell (n := 0) rfl rfl) ?_
      refine Dr.val 6 rfl rfl rfl rfl (by kernel_rfl) rfl (Val.add rfl rfl (by omega) (by omega)) ?_
      refine Dr.val 7 rfl rfl rfl rfl (by kernel_rfl) rfl (Val.nilCheck rfl) ?_
      refine Dr.val 8 rfl rfl rfl rfl (by kernel_rfl) rfl (V.fieldAddr rfl rfl) ?_
      refine Dr.next0 (e := 9) rfl rfl (by kernel_rfl) rfl (by kernel_rfl) (by kernel_rfl) rfl (E.store 1 rfl rfl rfl rfl rfl rfl rfl) aokK fun _ => ?_
      refine Dr.done (by kernel_rfl) (by kernel_rfl) ?_
      refine goK _ ?_
      refine At.back2 (i + 1) u (by omega) (by exact ⟨rfl, rfl, rfl, rfl, trivial⟩) (fun w hw => ⟨hlt, by rw [hj]; exact hw.sub (List.sublist_cons_self _ _)⟩)
    | ins l =>
      obtain ⟨rfl, hl⟩ := Ox.parse_ins' hpp
      have hel := Ox.encs_length l
      simp only [Ox.DOp.target] at ht2
      repeat (first | refine Ops.val rfl rfl rfl (V.loadHA (cs := [.int .i64 2, .int .i64 0, str (Ox.encs l)]) rfl rfl rfl hc) ?_ | refine goS _ ?_)
      refine Ops.eff rfl rfl rfl (E.alloc rfl) fun _ => Ops.ex fun b1 => Ops.pure ?_
      rintro rfl
      refine Ops.eff0 rfl rfl (E.store 0 rfl rfl rfl rfl rfl rfl rfl) fun _ => ?_
      unfold JM
      refine goK _ ?_
      first | refine At.drawn mo (fun _ _ m => m.drew _) ?_ | refine At.seq (At.drawn mo (fun _ _ m => m.drew _) ?_)
      refine Dr.val 0 rfl rfl rfl rfl (by kernel_rfl) rfl (Val.move rfl) ?_
      refine Dr.val 1 rfl rfl rfl rfl (by kernel_rfl) rfl (Val.nilCheck rfl) ?_
      refine Dr.val 2 rfl rfl rfl rfl (by kernel_rfl) rfl (V.fieldAddr rfl rfl) ?_
      refine Dr.valS 3 _ rfl rfl rfl rfl (by kernel_rfl) rfl (V.load rfl rfl (fun _ hh => hh)) (fun w hw => hw.cell (n := 1) rfl rfl) ?_
      refine Dr.val 4 rfl rfl rfl rfl (by kernel_rfl) rfl (V.fieldAddr rfl rfl) ?_
      refine Dr.valS 5 _ rfl rfl rfl rfl (by kernel_rfl) rfl (V.load rfl rfl (fun _ hh => hh)) (fun w hw => hw.cell (n := 0) rfl rfl) ?_
      refine Dr.val 6 rfl rfl rfl rfl (by kernel_rfl) rfl (Val.stradd rfl rfl (by omega)) ?_
      refine Dr.val 7 rfl rfl rfl rfl (by kernel_rfl) rfl (Val.nilCheck rfl) ?_
      refine Dr.val 8 rfl rfl rfl rfl (by kernel_rfl) rfl (V.fieldAddr rfl rfl) ?_
      refine Dr.next0 (e := 9) rfl rfl (by kernel_rfl) rfl (by kernel_rfl) (by kernel_rfl) rfl (E.store 1 rfl rfl rfl rfl rfl rfl rfl) aokK fun _ => ?_
      refine Dr.done (by kernel_rfl) (by kernel_rfl) ?_
      refine goK _ ?_
      refine At.back2 (i + 1) u (by omega) (by exact ⟨rfl, rfl, rfl, rfl, trivial⟩) (fun w hw => ⟨hlt, by rw [hj]; exact hw.sub (List.sublist_cons_self _ _)⟩)
  obtain rfl : i = d.length := by omega
  rw [← hlen, List.take_length]
  have hjl := Ox.joined_le ds
  have hgl := (Ox.joined ds).gap_len
  refine goK _ ?_
  refine Ops.eff rfl rfl rfl (Eff.call (fn (by kernel_rfl)) rfl (Ωc := JM bj u (Ox.joined ds)) rfl (gap_does bj u (Ox.joined ds) (by omega) h)) fun _ => Ops.ex fun _ => Ops.ex fun _ => Ops.pure ?_
  rintro ⟨rfl, ⟨u1, rfl⟩, rfl⟩
  refine goK _ ?_
  refine Ops.eff rfl rfl rfl (Eff.call (fn (by kernel_rfl)) rfl (Ωc := JM bj u1 (Ox.joined ds).gap) rfl (keeps_does bj u1 (Ox.joined ds).gap (by omega) h)) fun _ => Ops.ex fun _ => Ops.ex fun _ => Ops.pure ?_
  rintro ⟨rfl, ⟨u2, rfl⟩, rfl⟩
  unfold JM
  refine goK _ ?_
  refine At.publish_row 1 rfl fun h' hle hsl => ?_
  exact At.ret2 Tryz.results52 (Res.tmp rfl) (Res.tmp rfl) (List.nil_sublist _) ⟨rfl, hle, .inl ⟨ds, u2, by omega, hds, rfl, hsl⟩⟩
end Go.Proofs.YthjgbmbaabpgmaaGreat
