/-
  Short words for the walk: a step that runs by itself and leaves the rest of the goal.
-/
import Derived.Test.YthjgbmbaabpgmaaGreatSrd04
set_option linter.unusedVariables false
set_option linter.unusedSimpArgs false
set_option linter.unusedSectionVars false
namespace Go.Sy
open Go Go.RowKit

structure Held (Q : Prop) : Prop where
  out : Q
theorem goK {P : Prop} (Q : Prop) (k : Q) (h : Held Q → P := by
    intro k
    repeat (first
      | refine At.seq ?_
      | refine At.region ?_
      | refine Ops.nil ?_
      | refine At.block ?_
      | refine At.blk ?_
      | refine At.skip ?_
      | refine At.exit rfl ?_
      | refine At.cond_true rfl ?_
      | refine At.cond_false rfl ?_
      | (show Ops _ _ _ _ _ _ _ _; first
          | refine Ops.val rfl rfl rfl (Val.move rfl) ?_
          | refine Ops.val rfl rfl rfl (Val.assign rfl) ?_
          | refine Ops.val rfl rfl rfl (V.fieldAddr rfl rfl) ?_
          | refine Ops.val rfl rfl rfl (Val.nilCheck rfl) ?_
          | refine Ops.val rfl rfl rfl (Val.extract rfl rfl) ?_
          | refine Ops.val rfl rfl rfl (Val.lss rfl rfl) ?_
          | refine Ops.val rfl rfl rfl (Val.eql rfl rfl) ?_
          | refine Ops.val rfl rfl rfl (Val.neq rfl rfl) ?_
          | refine Ops.val rfl rfl rfl (Val.leq rfl rfl) ?_
          | refine Ops.val rfl rfl rfl (Val.gtr rfl rfl) ?_
          | refine Ops.val rfl rfl rfl (Val.geq rfl rfl) ?_
          | refine Ops.val rfl rfl rfl (Val.streql rfl rfl) ?_
          | refine Ops.val rfl rfl rfl (Val.strneq rfl rfl) ?_
          | refine Ops.val rfl rfl rfl (Val.not rfl) ?_
          | refine Ops.val rfl rfl rfl (V.lenslice rfl rfl) ?_
          | refine Ops.val rfl rfl rfl (V.lenstr rfl rfl) ?_
          | refine Ops.val rfl rfl rfl (V.loadO 0 rfl rfl rfl rfl) ?_
          | refine Ops.val rfl rfl rfl (V.loadO 1 rfl rfl rfl rfl) ?_
          | refine Ops.val rfl rfl rfl (V.loadO 2 rfl rfl rfl rfl) ?_
          | refine Ops.val rfl rfl rfl (V.loadO 3 rfl rfl rfl rfl) ?_
          | refine Ops.val rfl rfl rfl (V.loadO 4 rfl rfl rfl rfl) ?_
          | refine Ops.val rfl rfl rfl (V.loadO 5 rfl rfl rfl rfl) ?_
          | refine Ops.val rfl rfl rfl (V.loadOA 0 rfl rfl rfl rfl) ?_
          | refine Ops.val rfl rfl rfl (V.loadOA 1 rfl rfl rfl rfl) ?_
          | refine Ops.val rfl rfl rfl (V.eql66 rfl rfl) ?_
          | refine Ops.val rfl rfl rfl (V.indexAddr rfl rfl rfl rfl (by assumption)) ?_
          | refine Ops.val rfl rfl rfl (V.build rfl rfl rfl) ?_
          | refine Ops.val rfl rfl rfl (V.makeIface rfl rfl) ?_
          | refine Ops.val rfl rfl rfl (V.assert_yes rfl rfl) ?_
          | refine Ops.val rfl rfl rfl (V.assert_no rfl rfl rfl rfl) ?_
          | refine Ops.val rfl rfl rfl (V.assert_nil rfl rfl rfl) ?_
          | refine Ops.skip rfl rfl rfl ?_
          | refine Ops.val rfl rfl rfl (Val.add rfl rfl (by omega) (by omega)) ?_
          | refine Ops.val rfl rfl rfl (Val.sub rfl rfl (by omega) (by omega)) ?_
          | refine Ops.val rfl rfl rfl (V.conv rfl rfl rfl) ?_
          | refine Ops.val rfl rfl rfl (Val.pick rfl rfl) ?_))
    exact k.out) : P := h ⟨k⟩
theorem opsK {P : Prop} (Q : Prop) (k : Q) (h : Held Q → P := by
    intro k
    repeat (first
      | refine Ops.val rfl rfl rfl (Val.move rfl) ?_
      | refine Ops.val rfl rfl rfl (Val.assign rfl) ?_
      | refine Ops.val rfl rfl rfl (V.fieldAddr rfl rfl) ?_
      | refine Ops.val rfl rfl rfl (Val.nilCheck rfl) ?_
      | refine Ops.val rfl rfl rfl (Val.extract rfl rfl) ?_
      | refine Ops.val rfl rfl rfl (Val.lss rfl rfl) ?_
      | refine Ops.val rfl rfl rfl (Val.eql rfl rfl) ?_
      | refine Ops.val rfl rfl rfl (Val.neq rfl rfl) ?_
      | refine Ops.val rfl rfl rfl (Val.leq rfl rfl) ?_
      | refine Ops.val rfl rfl rfl (Val.gtr rfl rfl) ?_
      | refine Ops.val rfl rfl rfl (Val.geq rfl rfl) ?_
      | refine Ops.val rfl rfl rfl (Val.streql rfl rfl) ?_
      | refine Ops.val rfl rfl rfl (Val.strneq rfl rfl) ?_
      | refine Ops.val rfl rfl rfl (Val.not rfl) ?_
      | refine Ops.val rfl rfl rfl (V.lenslice rfl rfl) ?_
      | refine Ops.val rfl rfl rfl (V.lenstr rfl rfl) ?_
      | refine Ops.val rfl rfl rfl (V.loadO 0 rfl rfl rfl rfl) ?_
      | refine Ops.val rfl rfl rfl (V.loadO 1 rfl rfl rfl rfl) ?_
      | refine Ops.val rfl rfl rfl (V.loadO 2 rfl rfl rfl rfl) ?_
      | refine Ops.val rfl rfl rfl (V.loadO 3 rfl rfl rfl rfl) ?_
      | refine Ops.val rfl rfl rfl (V.loadO 4 rfl rfl rfl rfl) ?_
      | refine Ops.val rfl rfl rfl (V.loadO 5 rfl rfl rfl rfl) ?_
      | refine Ops.val rfl rfl rfl (V.loadOA 0 rfl rfl rfl rfl) ?_
      | refine Ops.val rfl rfl rfl (V.loadOA 1 rfl rfl rfl rfl) ?_
      | refine Ops.val rfl rfl rfl (V.eql66 rfl rfl) ?_
      | refine Ops.val rfl rfl rfl (V.indexAddr rfl rfl rfl rfl (by assumption)) ?_
      | refine Ops.val rfl rfl rfl (V.build rfl rfl rfl) ?_
      | refine Ops.val rfl rfl rfl (V.makeIface rfl rfl) ?_
      | refine Ops.val rfl rfl rfl (V.assert_yes rfl rfl) ?_
      | refine Ops.val rfl rfl rfl (V.assert_no rfl rfl rfl rfl) ?_
      | refine Ops.val rfl rfl rfl (V.assert_nil rfl rfl rfl) ?_
      | refine Ops.skip rfl rfl rfl ?_
      | refine Ops.val rfl rfl rfl (Val.add rfl rfl (by omega) (by omega)) ?_
      | refine Ops.val rfl rfl rfl (Val.sub rfl rfl (by omega) (by omega)) ?_
      | refine Ops.val rfl rfl rfl (V.conv rfl rfl rfl) ?_
      | refine Ops.val rfl rfl rfl (Val.pick rfl rfl) ?_)
    exact k.out) : P := h ⟨k⟩
theorem goS {P : Prop} (Q : Prop) (k : Q) (h : Held Q → P := by
    intro k
    first
      | refine At.seq ?_
      | refine At.region ?_
      | refine Ops.nil ?_
      | refine At.block ?_
      | refine At.blk ?_
      | refine At.skip ?_
      | refine At.exit rfl ?_
      | refine At.cond_true rfl ?_
      | refine At.cond_false rfl ?_
      | (show Ops _ _ _ _ _ _ _ _; first
          | refine Ops.val rfl rfl rfl (Val.move rfl) ?_
          | refine Ops.val rfl rfl rfl (Val.assign rfl) ?_
          | refine Ops.val rfl rfl rfl (V.fieldAddr rfl rfl) ?_
          | refine Ops.val rfl rfl rfl (Val.nilCheck rfl) ?_
          | refine Ops.val rfl rfl rfl (Val.extract rfl rfl) ?_
          | refine Ops.val rfl rfl rfl (Val.lss rfl rfl) ?_
          | refine Ops.val rfl rfl rfl (Val.eql rfl rfl) ?_
          | refine Ops.val rfl rfl rfl (Val.neq rfl rfl) ?_
          | refine Ops.val rfl rfl rfl (Val.leq rfl rfl) ?_
          | refine Ops.val rfl rfl rfl (Val.gtr rfl rfl) ?_
          | refine Ops.val rfl rfl rfl (Val.geq rfl rfl) ?_
          | refine Ops.val rfl rfl rfl (Val.streql rfl rfl) ?_
          | refine Ops.val rfl rfl rfl (Val.strneq rfl rfl) ?_
          | refine Ops.val rfl rfl rfl (Val.not rfl) ?_
          | refine Ops.val rfl rfl rfl (V.lenslice rfl rfl) ?_
          | refine Ops.val rfl rfl rfl (V.lenstr rfl rfl) ?_
          | refine Ops.val rfl rfl rfl (V.loadO 0 rfl rfl rfl rfl) ?_
          | refine Ops.val rfl rfl rfl (V.loadO 1 rfl rfl rfl rfl) ?_
          | refine Ops.val rfl rfl rfl (V.loadO 2 rfl rfl rfl rfl) ?_
          | refine Ops.val rfl rfl rfl (V.loadO 3 rfl rfl rfl rfl) ?_
          | refine Ops.val rfl rfl rfl (V.loadO 4 rfl rfl rfl rfl) ?_
          | refine Ops.val rfl rfl rfl (V.loadO 5 rfl rfl rfl rfl) ?_
          | refine Ops.val rfl rfl rfl (V.loadOA 0 rfl rfl rfl rfl) ?_
          | refine Ops.val rfl rfl rfl (V.loadOA 1 rfl rfl rfl rfl) ?_
          | refine Ops.val rfl rfl rfl (V.eql66 rfl rfl) ?_
          | refine Ops.val rfl rfl rfl (V.indexAddr rfl rfl rfl rfl (by assumption)) ?_
          | refine Ops.val rfl rfl rfl (V.build rfl rfl rfl) ?_
          | refine Ops.val rfl rfl rfl (V.makeIface rfl rfl) ?_
          | refine Ops.val rfl rfl rfl (V.assert_yes rfl rfl) ?_
          | refine Ops.val rfl rfl rfl (V.assert_no rfl rfl rfl rfl) ?_
          | refine Ops.val rfl rfl rfl (V.assert_nil rfl rfl rfl) ?_
          | refine Ops.skip rfl rfl rfl ?_
          | refine Ops.val rfl rfl rfl (Val.add rfl rfl (by omega) (by omega)) ?_
          | refine Ops.val rfl rfl rfl (Val.sub rfl rfl (by omega) (by omega)) ?_
          | refine Ops.val rfl rfl rfl (V.conv rfl rfl rfl) ?_
          | refine Ops.val rfl rfl rfl (Val.pick rfl rfl) ?_)
    exact k.out) : P := h ⟨k⟩
theorem opS {P : Prop} (Q : Prop) (k : Q) (h : Held Q → P := by
    intro k
    first
      | refine Ops.val rfl rfl rfl (Val.move rfl) ?_
      | refine Ops.val rfl rfl rfl (Val.assign rfl) ?_
      | refine Ops.val rfl rfl rfl (V.fieldAddr rfl rfl) ?_
      | refine Ops.val rfl rfl rfl (Val.nilCheck rfl) ?_
      | refine Ops.val rfl rfl rfl (Val.extract rfl rfl) ?_
      | refine Ops.val rfl rfl rfl (Val.lss rfl rfl) ?_
      | refine Ops.val rfl rfl rfl (Val.eql rfl rfl) ?_
      | refine Ops.val rfl rfl rfl (Val.neq rfl rfl) ?_
      | refine Ops.val rfl rfl rfl (Val.leq rfl rfl) ?_
      | refine Ops.val rfl rfl rfl (Val.gtr rfl rfl) ?_
      | refine Ops.val rfl rfl rfl (Val.geq rfl rfl) ?_
      | refine Ops.val rfl rfl rfl (Val.streql rfl rfl) ?_
      | refine Ops.val rfl rfl rfl (Val.strneq rfl rfl) ?_
      | refine Ops.val rfl rfl rfl (Val.not rfl) ?_
      | refine Ops.val rfl rfl rfl (V.lenslice rfl rfl) ?_
      | refine Ops.val rfl rfl rfl (V.lenstr rfl rfl) ?_
      | refine Ops.val rfl rfl rfl (V.loadO 0 rfl rfl rfl rfl) ?_
      | refine Ops.val rfl rfl rfl (V.loadO 1 rfl rfl rfl rfl) ?_
      | refine Ops.val rfl rfl rfl (V.loadO 2 rfl rfl rfl rfl) ?_
      | refine Ops.val rfl rfl rfl (V.loadO 3 rfl rfl rfl rfl) ?_
      | refine Ops.val rfl rfl rfl (V.loadO 4 rfl rfl rfl rfl) ?_
      | refine Ops.val rfl rfl rfl (V.loadO 5 rfl rfl rfl rfl) ?_
      | refine Ops.val rfl rfl rfl (V.loadOA 0 rfl rfl rfl rfl) ?_
      | refine Ops.val rfl rfl rfl (V.loadOA 1 rfl rfl rfl rfl) ?_
      | refine Ops.val rfl rfl rfl (V.eql66 rfl rfl) ?_
      | refine Ops.val rfl rfl rfl (V.indexAddr rfl rfl rfl rfl (by assumption)) ?_
      | refine Ops.val rfl rfl rfl (V.build rfl rfl rfl) ?_
      | refine Ops.val rfl rfl rfl (V.makeIface rfl rfl) ?_
      | refine Ops.val rfl rfl rfl (V.assert_yes rfl rfl) ?_
      | refine Ops.val rfl rfl rfl (V.assert_no rfl rfl rfl rfl) ?_
      | refine Ops.val rfl rfl rfl (V.assert_nil rfl rfl rfl) ?_
      | refine Ops.skip rfl rfl rfl ?_
      | refine Ops.val rfl rfl rfl (Val.add rfl rfl (by omega) (by omega)) ?_
      | refine Ops.val rfl rfl rfl (Val.sub rfl rfl (by omega) (by omega)) ?_
      | refine Ops.val rfl rfl rfl (V.conv rfl rfl rfl) ?_
      | refine Ops.val rfl rfl rfl (Val.pick rfl rfl) ?_
    exact k.out) : P := h ⟨k⟩
def Tag (_ : Nat) (P : Prop) : Prop := P
section
variable {P : Program} {Q : Exit → Act → World → Prop} {n : Nat} {ops : Array Oper} {D : List Nat} {σ : Slots} {pend : List Pd} {S : World → Prop} {k : List It}
theorem Tag.val {o : Oper} {v : Value} {i : Nat} {d : Nat} (ho : ops[i]? = some o) (hd : o.dst = some d) (hlt : Nat.blt d n = true) (hiD : mem D i = false)
    (htk : takes ops i (slotsOf ops o) d pend = true) (hg : Wants (rds ops σ o) ops o.guard = true) (hv : Val P (rds ops σ o) (fun _ => True) o v)
    (h : Dr P Q n ops (i :: D) ((d, v) :: σ) (⟨i, d, v, rds ops σ o, fun _ => True⟩ :: pend) S k) : Tag i (Dr P Q n ops D σ pend S k) :=
  Dr.val i ho hd hlt hiD htk hg hv h
theorem Tag.valS {o : Oper} {v : Value} {i : Nat} {d : Nat} (ok : World → Prop) (ho : ops[i]? = some o) (hd : o.dst = some d) (hlt : Nat.blt d n = true) (hiD : mem D i = false)
    (htk : takes ops i (slotsOf ops o) d pend = true) (hg : Wants (rds ops σ o) ops o.guard = true) (hv : Val P (rds ops σ o) ok o v) (hok : ∀ w, S w → ok w)
    (h : Dr P Q n ops (i :: D) ((d, v) :: σ) (⟨i, d, v, rds ops σ o, ok⟩ :: pend) S k) : Tag i (Dr P Q n ops D σ pend S k) :=
  Dr.valS i ok ho hd hlt hiD htk hg hv hok h
theorem Tag.skip {o : Oper} {i : Nat} {d : Nat} (ho : ops[i]? = some o) (hd : o.dst = some d) (hlt : Nat.blt d n = true) (hiD : mem D i = false)
    (htk : takes ops i (slotsOf ops o) d pend = true) (hg : Skips (rds ops σ o) ops o.guard = true)
    (h : Dr P Q n ops (i :: D) ((d, undef) :: σ) (⟨i, d, undef, rds ops σ o, fun _ => True⟩ :: pend) S k) : Tag i (Dr P Q n ops D σ pend S k) :=
  Dr.skip i ho hd hlt hiD htk hg h
end
theorem draA {P : Prop} (i : Nat) (Q : Prop) (k : Q) (h : Held Q → Tag i P := by
    intro k
    first
      | refine Tag.skip rfl rfl rfl rfl (by kernel_rfl) rfl ?_
      | refine Tag.val rfl rfl rfl rfl (by kernel_rfl) rfl (Val.move rfl) ?_
      | refine Tag.val rfl rfl rfl rfl (by kernel_rfl) rfl (Val.assign rfl) ?_
      | refine Tag.val rfl rfl rfl rfl (by kernel_rfl) rfl (Val.nilCheck rfl) ?_
      | refine Tag.val rfl rfl rfl rfl (by kernel_rfl) rfl (Val.not rfl) ?_
      | refine Tag.val rfl rfl rfl rfl (by kernel_rfl) rfl (V.fieldAddr rfl rfl) ?_
      | refine Tag.val rfl rfl rfl rfl (by kernel_rfl) rfl (Val.pick rfl rfl) ?_
      | refine Tag.val rfl rfl rfl rfl (by kernel_rfl) rfl (Val.lss rfl rfl) ?_
      | refine Tag.val rfl rfl rfl rfl (by kernel_rfl) rfl (Val.gtr rfl rfl) ?_
      | refine Tag.val rfl rfl rfl rfl (by kernel_rfl) rfl (Val.leq rfl rfl) ?_
      | refine Tag.val rfl rfl rfl rfl (by kernel_rfl) rfl (Val.geq rfl rfl) ?_
      | refine Tag.val rfl rfl rfl rfl (by kernel_rfl) rfl (Val.eql rfl rfl) ?_
      | refine Tag.val rfl rfl rfl rfl (by kernel_rfl) rfl (Val.neq rfl rfl) ?_
      | refine Tag.val rfl rfl rfl rfl (by kernel_rfl) rfl (Val.extract rfl rfl) ?_
      | refine Tag.val rfl rfl rfl rfl (by kernel_rfl) rfl (Val.add rfl rfl (by omega) (by omega)) ?_
      | refine Tag.val rfl rfl rfl rfl (by kernel_rfl) rfl (Val.sub rfl rfl (by omega) (by omega)) ?_
      | refine Tag.val rfl rfl rfl rfl (by kernel_rfl) rfl (V.lenslice rfl rfl) ?_
      | refine Tag.val rfl rfl rfl rfl (by kernel_rfl) rfl (V.build rfl rfl rfl) ?_
      | refine Tag.val rfl rfl rfl rfl (by kernel_rfl) rfl (V.conv rfl rfl rfl) ?_
      | refine Tag.valS _ rfl rfl rfl rfl (by kernel_rfl) rfl (V.load rfl rfl (fun _ hh => hh)) (fun w hw => hw.cell (n := 0) rfl rfl) ?_
      | refine Tag.valS _ rfl rfl rfl rfl (by kernel_rfl) rfl (V.load rfl rfl (fun _ hh => hh)) (fun w hw => hw.cell (n := 1) rfl rfl) ?_
      | refine Tag.valS _ rfl rfl rfl rfl (by kernel_rfl) rfl (V.load rfl rfl (fun _ hh => hh)) (fun w hw => hw.cell (n := 2) rfl rfl) ?_
      | refine Tag.valS _ rfl rfl rfl rfl (by kernel_rfl) rfl (V.load rfl rfl (fun _ hh => hh)) (fun w hw => hw.cell (n := 3) rfl rfl) ?_
      | refine Tag.valS _ rfl rfl rfl rfl (by kernel_rfl) rfl (V.load rfl rfl (fun _ hh => hh)) (fun w hw => hw.cell (n := 4) rfl rfl) ?_
      | refine Tag.valS _ rfl rfl rfl rfl (by kernel_rfl) rfl (V.load rfl rfl (fun _ hh => hh)) (fun w hw => hw.cell (n := 5) rfl rfl) ?_
    exact k.out) : P := h ⟨k⟩
theorem aokK {P : Prop} (h : P := by repeat (first | exact AllOk.nil | refine AllOk.triv ?_ | refine AllOk.cons (by first | (intro _ _ hw; first | exact hw.cell (n := 0) rfl rfl | exact hw.cell (n := 1) rfl rfl | exact hw.cell (n := 2) rfl rfl | exact hw.cell (n := 3) rfl rfl | exact hw.cell (n := 4) rfl rfl | exact hw.cell (n := 5) rfl rfl | exact hw.cellsAt (n := 0) rfl rfl | exact hw.cellsAt (n := 1) rfl rfl | exact hw.cellsAt (n := 2) rfl rfl | exact hw.cellsAt (n := 3) rfl rfl | exact hw.cell (n := 0) rfl (by rw [Nat.zero_add, Nat.mul_one]; assumption) | exact hw.cell (n := 1) rfl (by rw [Nat.zero_add, Nat.mul_one]; assumption) | exact hw.cell (n := 2) rfl (by rw [Nat.zero_add, Nat.mul_one]; assumption) | exact hw.cell (n := 3) rfl (by rw [Nat.zero_add, Nat.mul_one]; assumption) | exact hw.cell (n := 4) rfl (by rw [Nat.zero_add, Nat.mul_one]; assumption) | exact hw.cell (n := 5) rfl (by rw [Nat.zero_add, Nat.mul_one]; assumption) | exact hw.cell (n := 0) rfl (by assumption) | exact hw.cell (n := 1) rfl (by assumption) | exact hw.cell (n := 2) rfl (by assumption) | exact hw.cell (n := 3) rfl (by assumption) | exact hw.cell (n := 4) rfl (by assumption) | exact hw.cell (n := 5) rfl (by assumption) | exact hw.cell (n := 6) rfl (by assumption) | exact hw.cell (n := 7) rfl (by assumption)) | (rintro _ _ ⟨_, hw⟩; first | exact hw.cell (n := 0) rfl rfl | exact hw.cell (n := 1) rfl rfl | exact hw.cell (n := 2) rfl rfl | exact hw.cell (n := 3) rfl rfl | exact hw.cell (n := 4) rfl rfl | exact hw.cell (n := 5) rfl rfl | exact hw.cellsAt (n := 0) rfl rfl | exact hw.cellsAt (n := 1) rfl rfl | exact hw.cellsAt (n := 2) rfl rfl | exact hw.cellsAt (n := 3) rfl rfl | exact hw.cell (n := 0) rfl (by rw [Nat.zero_add, Nat.mul_one]; assumption) | exact hw.cell (n := 1) rfl (by rw [Nat.zero_add, Nat.mul_one]; assumption) | exact hw.cell (n := 2) rfl (by rw [Nat.zero_add, Nat.mul_one]; assumption) | exact hw.cell (n := 3) rfl (by rw [Nat.zero_add, Nat.mul_one]; assumption) | exact hw.cell (n := 4) rfl (by rw [Nat.zero_add, Nat.mul_one]; assumption) | exact hw.cell (n := 5) rfl (by rw [Nat.zero_add, Nat.mul_one]; assumption) | exact hw.cell (n := 0) rfl (by assumption) | exact hw.cell (n := 1) rfl (by assumption) | exact hw.cell (n := 2) rfl (by assumption) | exact hw.cell (n := 3) rfl (by assumption) | exact hw.cell (n := 4) rfl (by assumption) | exact hw.cell (n := 5) rfl (by assumption) | exact hw.cell (n := 6) rfl (by assumption) | exact hw.cell (n := 7) rfl (by assumption)) | (rintro _ _ ⟨_, _, hw⟩; first | exact hw.cell (n := 0) rfl rfl | exact hw.cell (n := 1) rfl rfl | exact hw.cell (n := 2) rfl rfl | exact hw.cell (n := 3) rfl rfl | exact hw.cell (n := 4) rfl rfl | exact hw.cell (n := 5) rfl rfl | exact hw.cellsAt (n := 0) rfl rfl | exact hw.cellsAt (n := 1) rfl rfl | exact hw.cellsAt (n := 2) rfl rfl | exact hw.cellsAt (n := 3) rfl rfl | exact hw.cell (n := 0) rfl (by rw [Nat.zero_add, Nat.mul_one]; assumption) | exact hw.cell (n := 1) rfl (by rw [Nat.zero_add, Nat.mul_one]; assumption) | exact hw.cell (n := 2) rfl (by rw [Nat.zero_add, Nat.mul_one]; assumption) | exact hw.cell (n := 3) rfl (by rw [Nat.zero_add, Nat.mul_one]; assumption) | exact hw.cell (n := 4) rfl (by rw [Nat.zero_add, Nat.mul_one]; assumption) | exact hw.cell (n := 5) rfl (by rw [Nat.zero_add, Nat.mul_one]; assumption) | exact hw.cell (n := 0) rfl (by assumption) | exact hw.cell (n := 1) rfl (by assumption) | exact hw.cell (n := 2) rfl (by assumption) | exact hw.cell (n := 3) rfl (by assumption) | exact hw.cell (n := 4) rfl (by assumption) | exact hw.cell (n := 5) rfl (by assumption) | exact hw.cell (n := 6) rfl (by assumption) | exact hw.cell (n := 7) rfl (by assumption)) | (rintro _ _ ⟨_, _, _, hw⟩; first | exact hw.cell (n := 0) rfl rfl | exact hw.cell (n := 1) rfl rfl | exact hw.cell (n := 2) rfl rfl | exact hw.cell (n := 3) rfl rfl | exact hw.cell (n := 4) rfl rfl | exact hw.cell (n := 5) rfl rfl | exact hw.cellsAt (n := 0) rfl rfl | exact hw.cellsAt (n := 1) rfl rfl | exact hw.cellsAt (n := 2) rfl rfl | exact hw.cellsAt (n := 3) rfl rfl | exact hw.cell (n := 0) rfl (by rw [Nat.zero_add, Nat.mul_one]; assumption) | exact hw.cell (n := 1) rfl (by rw [Nat.zero_add, Nat.mul_one]; assumption) | exact hw.cell (n := 2) rfl (by rw [Nat.zero_add, Nat.mul_one]; assumption) | exact hw.cell (n := 3) rfl (by rw [Nat.zero_add, Nat.mul_one]; assumption) | exact hw.cell (n := 4) rfl (by rw [Nat.zero_add, Nat.mul_one]; assumption) | exact hw.cell (n := 5) rfl (by rw [Nat.zero_add, Nat.mul_one]; assumption) | exact hw.cell (n := 0) rfl (by assumption) | exact hw.cell (n := 1) rfl (by assumption) | exact hw.cell (n := 2) rfl (by assumption) | exact hw.cell (n := 3) rfl (by assumption) | exact hw.cell (n := 4) rfl (by assumption) | exact hw.cell (n := 5) rfl (by assumption) | exact hw.cell (n := 6) rfl (by assumption) | exact hw.cell (n := 7) rfl (by assumption)) | (rintro _ _ ⟨_, _, ⟨rfl, rfl, rfl⟩, hw⟩; first | exact hw.cell (n := 0) rfl rfl | exact hw.cell (n := 1) rfl rfl | exact hw.cell (n := 2) rfl rfl | exact hw.cell (n := 3) rfl rfl | exact hw.cell (n := 4) rfl rfl | exact hw.cell (n := 5) rfl rfl | exact hw.cellsAt (n := 0) rfl rfl | exact hw.cellsAt (n := 1) rfl rfl | exact hw.cellsAt (n := 2) rfl rfl | exact hw.cellsAt (n := 3) rfl rfl | exact hw.cell (n := 0) rfl (by rw [Nat.zero_add, Nat.mul_one]; assumption) | exact hw.cell (n := 1) rfl (by rw [Nat.zero_add, Nat.mul_one]; assumption) | exact hw.cell (n := 2) rfl (by rw [Nat.zero_add, Nat.mul_one]; assumption) | exact hw.cell (n := 3) rfl (by rw [Nat.zero_add, Nat.mul_one]; assumption) | exact hw.cell (n := 4) rfl (by rw [Nat.zero_add, Nat.mul_one]; assumption) | exact hw.cell (n := 5) rfl (by rw [Nat.zero_add, Nat.mul_one]; assumption) | exact hw.cell (n := 0) rfl (by assumption) | exact hw.cell (n := 1) rfl (by assumption) | exact hw.cell (n := 2) rfl (by assumption) | exact hw.cell (n := 3) rfl (by assumption) | exact hw.cell (n := 4) rfl (by assumption) | exact hw.cell (n := 5) rfl (by assumption) | exact hw.cell (n := 6) rfl (by assumption) | exact hw.cell (n := 7) rfl (by assumption)) | (rintro _ _ ⟨_, _, ⟨_, rfl, rfl⟩, hw⟩; first | exact hw.cell (n := 0) rfl rfl | exact hw.cell (n := 1) rfl rfl | exact hw.cell (n := 2) rfl rfl | exact hw.cell (n := 3) rfl rfl | exact hw.cell (n := 4) rfl rfl | exact hw.cell (n := 5) rfl rfl | exact hw.cellsAt (n := 0) rfl rfl | exact hw.cellsAt (n := 1) rfl rfl | exact hw.cellsAt (n := 2) rfl rfl | exact hw.cellsAt (n := 3) rfl rfl | exact hw.cell (n := 0) rfl (by rw [Nat.zero_add, Nat.mul_one]; assumption) | exact hw.cell (n := 1) rfl (by rw [Nat.zero_add, Nat.mul_one]; assumption) | exact hw.cell (n := 2) rfl (by rw [Nat.zero_add, Nat.mul_one]; assumption) | exact hw.cell (n := 3) rfl (by rw [Nat.zero_add, Nat.mul_one]; assumption) | exact hw.cell (n := 4) rfl (by rw [Nat.zero_add, Nat.mul_one]; assumption) | exact hw.cell (n := 5) rfl (by rw [Nat.zero_add, Nat.mul_one]; assumption) | exact hw.cell (n := 0) rfl (by assumption) | exact hw.cell (n := 1) rfl (by assumption) | exact hw.cell (n := 2) rfl (by assumption) | exact hw.cell (n := 3) rfl (by assumption) | exact hw.cell (n := 4) rfl (by assumption) | exact hw.cell (n := 5) rfl (by assumption) | exact hw.cell (n := 6) rfl (by assumption) | exact hw.cell (n := 7) rfl (by assumption))) ?_)) : P := h
end Go.Sy
