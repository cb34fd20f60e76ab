/-
  The walk's own logic, third part: operations.
-/
import Derived.Test.YthjgbmbaabpgmaaGreatSrd01
set_option linter.unusedVariables false
set_option linter.unusedSimpArgs false
set_option linter.unusedSectionVars false
namespace Go.Sy
open Go Go.RowKit

/-- what reads the slots as they are known -/
def Fit (σ : Slots) (ρ : Operand → Value) : Prop := ∀ x u, ev σ x = some u → ρ x = u

theorem Sees.fit {n : Sz} {σ : Slots} {a : Act} (h : Sees n σ a) : Fit σ a.eval := fun _ _ hx => h.ev hx

/-- an operation that comes to a value and changes nothing -/
def Val (P : Program) (σ : Slots) (S : World → Prop) (o : Oper) (v : Value) : Prop :=
  ∀ ρ w, Fit σ ρ → S w → (execOp ρ o).run P w = .ok (.value v) w

/-- what an operation's run comes to -/
def Comes1 (P : Program) (R : Value → World → Prop) : Result Next → Prop
  | .ok (.value v) w => R v w
  | .ok .skip w => R undef w
  | .ok (.enter f args) w => Calls P f args w fun e w' => ∃ v, e = .returned v ∧ R v w'
  | _ => False

/-- an operation that comes to some value and some world -/
def Eff (P : Program) (σ : Slots) (S : World → Prop) (o : Oper) (R : Value → World → Prop) : Prop :=
  ∀ ρ w, Fit σ ρ → S w → Comes1 P R ((execOp ρ o).run P w)

theorem Val.eff {P : Program} {σ : Slots} {S : World → Prop} {o : Oper} {v : Value} (h : Val P σ S o v) : Eff P σ S o (fun u w => u = v ∧ S w) := fun ρ w hρ hw => by
  rw [h ρ w hρ hw]; exact ⟨rfl, hw⟩

theorem Comes1.upon {P : Program} {R : Value → World → Prop} {r : Result Next} (h : Comes1 P R r) {o : Oper} {a : Act} {K : Act → World → Prop} {Q : Exit → Act → World → Prop}
    (hk : ∀ v w, R v w → K (a.put o.dst v) w) : o.upon P a K Q r := by
  unfold Comes1 at h
  split at h
  · exact hk _ _ h
  · exact hk _ _ h
  · refine Calls.mono h ?_
    rintro e w' ⟨v, rfl, hr⟩
    exact hk _ _ hr
  · exact h.elim

/-- is an operation with this guard carried out? -/
def Wants (σ : Slots) (ops : Array Oper) : Option (Nat × Bool) → Bool
  | none => true
  | some (j, want) => match (ops[j]?).bind (·.dst) with
    | some t => match lk σ t with
      | some (.bool b) => b == want
      | _ => false
    | none => false

/-- or passed over? -/
def Skips (σ : Slots) (ops : Array Oper) : Option (Nat × Bool) → Bool
  | none => false
  | some (j, want) => match (ops[j]?).bind (·.dst) with
    | some t => match lk σ t with
      | some (.bool b) => b != want
      | some (.tuple _) => true
      | _ => false
    | none => false

theorem Wants.wanted {n : Sz} {σ : Slots} {a : Act} {ops : Array Oper} {o : Oper} (ha : Sees n σ a) (h : Wants σ ops o.guard = true) : Region.wanted o (yielded ops a.tmps) = true := by
  cases hg : o.guard with
  | none => simp [Region.wanted, hg]
  | some p =>
    obtain ⟨j, want⟩ := p
    rw [hg] at h
    simp only [Wants] at h
    split at h
    · rename_i t ht
      split at h
      · rename_i b hb
        have hv := ha.val _ _ hb
        have : b = want := by simpa using h
        subst this
        simp [Region.wanted, hg, yielded, ht, hv]
      · cases h
    · cases h

theorem Skips.wanted {n : Sz} {σ : Slots} {a : Act} {ops : Array Oper} {o : Oper} (ha : Sees n σ a) (h : Skips σ ops o.guard = true) : Region.wanted o (yielded ops a.tmps) = false := by
  cases hg : o.guard with
  | none => rw [hg] at h; simp [Skips] at h
  | some p =>
    obtain ⟨j, want⟩ := p
    rw [hg] at h
    simp only [Skips] at h
    split at h
    · rename_i t ht
      split at h
      · rename_i b hb
        have hv := ha.val _ _ hb
        have : b ≠ want := by simpa using h
        simp [Region.wanted, hg, yielded, ht, hv, this]
      · rename_i b hb
        have hv := ha.val _ _ hb
        simp [Region.wanted, hg, yielded, ht, hv]
      · cases h
    · cases h

section
variable {P : Program} {Q : Exit → Act → World → Prop} {n : Sz} {σ : Slots} {S : World → Prop} {k : List It} {ops : Array Oper} {l : List Oper} {o : Oper}

/-- the goal inside a region whose order is the text's -/
def Ops (P : Program) (Q : Exit → Act → World → Prop) (n : Sz) (σ : Slots) (S : World → Prop) (ops : Array Oper) (l : List Oper) (k : List It) : Prop :=
  ∀ a w, Sees n σ a → S w → wpList P ops (kont P Q k) l a w

theorem At.region {id : Nat} {l : List Oper} (h : Ops P Q n σ S l.toArray l k) : At P Q n σ S (.code (.region id l.toArray false) :: k) := fun a w ha hw => wp_region_lit (h a w ha hw)

theorem Ops.nil (h : At P Q n σ S k) : Ops P Q n σ S ops [] k := fun a w ha hw => h a w ha hw

theorem Ops.imp {S' : World → Prop} (h : Ops P Q n σ S' ops l k) (hs : ∀ w, S w → S' w) : Ops P Q n σ S ops l k := fun a w ha hw => h a w ha (hs w hw)
theorem Ops.ex {α : Sort _} {S : α → World → Prop} (h : ∀ x, Ops P Q n σ (S x) ops l k) : Ops P Q n σ (fun w => ∃ x, S x w) ops l k := fun a w ha ⟨x, hw⟩ => h x a w ha hw
theorem Ops.pure {p : Prop} (h : p → Ops P Q n σ S ops l k) : Ops P Q n σ (fun w => p ∧ S w) ops l k := fun a w ha ⟨hp, hw⟩ => h hp a w ha hw
theorem Ops.sub {σ' : Slots} (h : Ops P Q n σ' S ops l k) (hs : Sub σ' σ) : Ops P Q n σ S ops l k := fun a w ha hw => h a w (ha.sub hs) hw

/-- one slot's value spelled otherwise -/
theorem Sees.respell {a : Act} {t : Nat} {v v' : Value} (h : Sees n σ a) (hv : lk σ t = some v) (e : v = v') : Sees n ((t, v') :: σ) a := by
  subst e
  refine ⟨h.defers, h.size, fun t' u hu => ?_⟩
  rw [lk_cons] at hu
  split at hu
  · rename_i ht; subst ht; cases hu; exact h.val _ _ hv
  · exact h.val _ _ hu

theorem At.respell {t : Nat} {v v' : Value} (hv : lk σ t = some v) (e : v = v') (h : At P Q n ((t, v') :: σ) S k) : At P Q n σ S k := fun a w ha hw => h a w (ha.respell hv e) hw
theorem Ops.respell {t : Nat} {v v' : Value} (hv : lk σ t = some v) (e : v = v') (h : Ops P Q n ((t, v') :: σ) S ops l k) : Ops P Q n σ S ops l k := fun a w ha hw => h a w (ha.respell hv e) hw

/-- both ways of a test -/
theorem Ops.bool {t : Nat} {b : Bool} (hv : lk σ t = some (.bool b)) (ht : b = true → Ops P Q n ((t, .bool true) :: σ) S ops l k) (hf : b = false → Ops P Q n ((t, .bool false) :: σ) S ops l k) :
    Ops P Q n σ S ops l k := by
  cases b with
  | true => exact ht rfl |>.respell hv rfl
  | false => exact hf rfl |>.respell hv rfl

theorem Ops.eff {R : Value → World → Prop} {d : Nat} (hd : o.dst = some d) (hg : Wants σ ops o.guard = true) (hlt : Nat.blt d n.k = true) (he : Eff P σ S o R)
    (h : ∀ v, Ops P Q n ((d, v) :: σ) (R v) ops l k) : Ops P Q n σ S ops (o :: l) k := fun a w ha hw =>
  wpList_step fun K hK => by
    rw [if_pos (Wants.wanted ha hg)]
    refine (he a.eval w ha.fit hw).upon fun v w' hr => hK _ _ ?_
    rw [hd]
    exact h v _ _ (ha.put d v hlt) hr

theorem Ops.eff0 {R : Value → World → Prop} (hd : o.dst = none) (hg : Wants σ ops o.guard = true) (he : Eff P σ S o R)
    (h : ∀ v, Ops P Q n σ (R v) ops l k) : Ops P Q n σ S ops (o :: l) k := fun a w ha hw =>
  wpList_step fun K hK => by
    rw [if_pos (Wants.wanted ha hg)]
    refine (he a.eval w ha.fit hw).upon fun v w' hr => hK _ _ ?_
    rw [hd]
    exact h v _ _ ha hr

theorem Ops.val {d : Nat} {v : Value} (hd : o.dst = some d) (hg : Wants σ ops o.guard = true) (hlt : Nat.blt d n.k = true) (hv : Val P σ S o v)
    (h : Ops P Q n ((d, v) :: σ) S ops l k) : Ops P Q n σ S ops (o :: l) k :=
  Ops.eff hd hg hlt hv.eff fun u => Ops.pure fun e => by subst e; exact h

theorem Ops.skip {d : Nat} (hd : o.dst = some d) (hg : Skips σ ops o.guard = true) (hlt : Nat.blt d n.k = true)
    (h : Ops P Q n ((d, undef) :: σ) S ops l k) : Ops P Q n σ S ops (o :: l) k := fun a w ha hw =>
  wpList_step fun K hK => by
    rw [if_neg (by rw [Skips.wanted ha hg]; simp)]
    rw [hd]
    exact hK _ _ (h _ _ (ha.put d undef hlt) hw)

theorem Ops.skip0 (hd : o.dst = none) (hg : Skips σ ops o.guard = true) (h : Ops P Q n σ S ops l k) : Ops P Q n σ S ops (o :: l) k := fun a w ha hw =>
  wpList_step fun K hK => by
    rw [if_neg (by rw [Skips.wanted ha hg]; simp)]
    rw [hd]
    exact hK _ _ (h _ _ ha hw)

/-- ways that meet again: behind m operations the slot t holds v, and of the others those of js are wanted -/
theorem Ops.fork (m : Nat) (t : Nat) (v : Value) (js : List Nat) (main : Ops P Q n ((t, v) :: keep js σ) S ops (l.drop m) k) (paths : Ops P Q n ((t, v) :: keep js σ) S ops (l.drop m) k → Ops P Q n σ S ops l k) : Ops P Q n σ S ops l k := paths main
theorem Ops.forkR (t : Nat) (v : Value) (js : List Nat) (main : At P Q n ((t, v) :: keep js σ) S k) (paths : At P Q n ((t, v) :: keep js σ) S k → Ops P Q n σ S ops l k) : Ops P Q n σ S ops l k := paths main
theorem At.join (t : Nat) (v : Value) (js : List Nat) {x : It} (main : At P Q n ((t, v) :: keep js σ) S k) (paths : At P Q n ((t, v) :: keep js σ) S k → At P Q n σ S (x :: k)) : At P Q n σ S (x :: k) := paths main
/-- an operation whose guard is not decided: both ways -/
theorem Ops.gsplit {j t : Nat} {want b : Bool} {d : Option Nat} {op : Op} {ty : TypeId} {ps : String} {af : Array Edge} (_ht : (ops[j]?).bind (·.dst) = some t) (hv : lk σ t = some (.bool b))
    (h1 : b = true → Ops P Q n ((t, .bool true) :: σ) S ops (⟨d, op, ty, ps, af, some (j, want)⟩ :: l) k) (h2 : b = false → Ops P Q n ((t, .bool false) :: σ) S ops (⟨d, op, ty, ps, af, some (j, want)⟩ :: l) k) :
    Ops P Q n σ S ops (⟨d, op, ty, ps, af, some (j, want)⟩ :: l) k := Ops.bool hv h1 h2
theorem Ops.psplit {t : Nat} {b : Bool} {d : Option Nat} {x y : Operand} {ty : TypeId} {ps : String} {af : Array Edge} {g : Option (Nat × Bool)} (hv : lk σ t = some (.bool b))
    (h1 : b = true → Ops P Q n ((t, .bool true) :: σ) S ops (⟨d, .pick (.tmp t) x y, ty, ps, af, g⟩ :: l) k) (h2 : b = false → Ops P Q n ((t, .bool false) :: σ) S ops (⟨d, .pick (.tmp t) x y, ty, ps, af, g⟩ :: l) k) :
    Ops P Q n σ S ops (⟨d, .pick (.tmp t) x y, ty, ps, af, g⟩ :: l) k := Ops.bool hv h1 h2
theorem At.condP {c : Operand} {x y : Code} {p : Prop} [Decidable p] (hc : ev σ c = some (.bool (decide p))) (ht : p → At P Q n σ S (.code x :: k)) (hf : ¬ p → At P Q n σ S (.code y :: k)) :
    At P Q n σ S (.code (.cond c x y) :: k) := At.cond hc (fun h => ht (of_decide_eq_true h)) (fun h => hf (of_decide_eq_false h))
theorem At.condN {c : Operand} {x y : Code} {p : Prop} [Decidable p] (hc : ev σ c = some (.bool (!decide p))) (ht : ¬ p → At P Q n σ S (.code x :: k)) (hf : p → At P Q n σ S (.code y :: k)) :
    At P Q n σ S (.code (.cond c x y) :: k) := At.cond hc (fun h => ht (by simpa using h)) (fun h => hf (by simpa using h))
theorem Ops.boolP {t : Nat} {p : Prop} [Decidable p] (hv : lk σ t = some (.bool (decide p))) (ht : p → Ops P Q n ((t, .bool true) :: σ) S ops l k) (hf : ¬ p → Ops P Q n ((t, .bool false) :: σ) S ops l k) :
    Ops P Q n σ S ops l k := Ops.bool hv (fun h => ht (of_decide_eq_true h)) (fun h => hf (of_decide_eq_false h))
theorem Ops.boolN {t : Nat} {p : Prop} [Decidable p] (hv : lk σ t = some (.bool (!decide p))) (ht : ¬ p → Ops P Q n ((t, .bool true) :: σ) S ops l k) (hf : p → Ops P Q n ((t, .bool false) :: σ) S ops l k) :
    Ops P Q n σ S ops l k := Ops.bool hv (fun h => ht (by simpa using h)) (fun h => hf (by simpa using h))
end

/-! ## Operations that compute -/
section
variable {P : Program} {σ : Slots} {S : World → Prop} {ty : TypeId} {ps : String} {af : Array Edge} {g : Option (Nat × Bool)} {d : Option Nat}

theorem Val.move {x : Operand} {v : Value} (hx : ev σ x = some v) : Val P σ S ⟨d, .move x, ty, ps, af, g⟩ v := fun ρ w hρ _ => by simp [execOp, hρ x v hx]
theorem Val.assign {x : Operand} {v : Value} (hx : ev σ x = some v) : Val P σ S ⟨d, .assign x, ty, ps, af, g⟩ v := fun ρ w hρ _ => by simp [execOp, hρ x v hx]
theorem Val.pick {c x y : Operand} {b : Bool} {v : Value} (hc : ev σ c = some (.bool b)) (hv : ev σ (if b then x else y) = some v) : Val P σ S ⟨d, .pick c x y, ty, ps, af, g⟩ v := fun ρ w hρ _ => by
  have h1 := hρ _ _ hc
  have h2 := hρ _ _ hv
  cases b <;> simp_all [execOp, asBool]
theorem Val.nilCheck {x : Operand} {a : Addr} (hx : ev σ x = some (.pointer (some a))) : Val P σ S ⟨d, .nilCheck x, ty, ps, af, g⟩ (.pointer (some a)) := fun ρ w hρ _ => by simp [execOp, hρ x _ hx]
theorem Val.extract {x : Operand} {i : Nat} {vs : Array Value} {v : Value} (hx : ev σ x = some (.tuple vs)) (hv : vs[i]? = some v) : Val P σ S ⟨d, .extract x i, ty, ps, af, g⟩ v := fun ρ w hρ _ => by
  simp [execOp, hρ x _ hx, Instr.extract, hv]
theorem Val.not {T : TypeId} {x : Operand} {b : Bool} (hx : ev σ x = some (.bool b)) : Val P σ S ⟨d, .unOp .not T x, ty, ps, af, g⟩ (.bool !b) := fun ρ w hρ _ => by simp [execOp, hρ x _ hx, Op.unary]
theorem Val.makeFunc {fn : Fn} {c : Array Operand} {cs : Array Value} (hc : ∀ ρ, Fit σ ρ → c.map ρ = cs) : Val P σ S ⟨d, .makeFunc fn #[] c, ty, ps, af, g⟩ (.func fn #[] cs) := fun ρ w hρ _ => by
  simp [execOp, Instr.makeFunc, hc ρ hρ]

/-- the wrap of an int64 that fits -/
theorem wrap_i64 {z : Int} (h0 : -9223372036854775808 ≤ z) (h1 : z ≤ 9223372036854775807) : IntKind.i64.wrap z = z := IntWalk.i64_in z ⟨h0, h1⟩

/-! ints -/
theorem eqGuard_int {T : TypeId} {x y : Operand} {op : BinOp} {k k' : IntKind} {a b : Int} (w : World) : (eqGuard op T x y (.int k a) (.int k' b)).run P w = .ok () w := by
  cases op <;> simp [eqGuard]

theorem Val.intop {op : BinOp} {T T' : TypeId} {x y : Operand} {k : IntKind} {a b : Int} {v : Value} (hx : ev σ x = some (.int k a)) (hy : ev σ y = some (.int k b))
    (hop : ∀ w : World, (binOp op T (.int k a) (.int k b)).run P w = .ok v w) : Val P σ S ⟨d, .binOp op T x y T', ty, ps, af, g⟩ v := fun ρ w hρ _ => by
  simp only [execOp, hρ x _ hx, hρ y _ hy, Sem.run_bind, eqGuard_int, Result.andThen_ok, hop]
  simp

theorem Val.add {T T' : TypeId} {x y : Operand} {a b : Int} (hx : ev σ x = some (.int .i64 a)) (hy : ev σ y = some (.int .i64 b))
    (h0 : -9223372036854775808 ≤ a + b) (h1 : a + b ≤ 9223372036854775807) : Val P σ S ⟨d, .binOp .add T x y T', ty, ps, af, g⟩ (.int .i64 (a + b)) :=
  Val.intop hx hy fun w => by simp [binOp, Op.intArith, wrap_i64 h0 h1]
theorem Val.sub {T T' : TypeId} {x y : Operand} {a b : Int} (hx : ev σ x = some (.int .i64 a)) (hy : ev σ y = some (.int .i64 b))
    (h0 : -9223372036854775808 ≤ a - b) (h1 : a - b ≤ 9223372036854775807) : Val P σ S ⟨d, .binOp .sub T x y T', ty, ps, af, g⟩ (.int .i64 (a - b)) :=
  Val.intop hx hy fun w => by simp [binOp, Op.intArith, wrap_i64 h0 h1]
theorem Val.mul {T T' : TypeId} {x y : Operand} {a b : Int} (hx : ev σ x = some (.int .i64 a)) (hy : ev σ y = some (.int .i64 b))
    (h0 : -9223372036854775808 ≤ a * b) (h1 : a * b ≤ 9223372036854775807) : Val P σ S ⟨d, .binOp .mul T x y T', ty, ps, af, g⟩ (.int .i64 (a * b)) :=
  Val.intop hx hy fun w => by simp [binOp, Op.intArith, wrap_i64 h0 h1]
/-- a counter's step -/
theorem Val.succ {T T' : TypeId} {x y : Operand} {a : Nat} (hx : ev σ x = some (.int .i64 (a : Int))) (hy : ev σ y = some (.int .i64 1))
    (h1 : a < 9223372036854775807) : Val P σ S ⟨d, .binOp .add T x y T', ty, ps, af, g⟩ (.int .i64 ((a + 1 : Nat) : Int)) :=
  Val.intop hx hy fun w => by
    rw [show ((a + 1 : Nat) : Int) = (a : Int) + 1 from by omega]
    simp [binOp, Op.intArith, wrap_i64 (z := (a : Int) + 1) (by omega) (by omega)]
theorem Val.add_wrap {T T' : TypeId} {x y : Operand} {a b : Int} (hx : ev σ x = some (.int .i64 a)) (hy : ev σ y = some (.int .i64 b)) :
    Val P σ S ⟨d, .binOp .add T x y T', ty, ps, af, g⟩ (.int .i64 (IntKind.i64.wrap (a + b))) :=
  Val.intop hx hy fun w => by simp [binOp, Op.intArith]
theorem Val.sub_wrap {T T' : TypeId} {x y : Operand} {a b : Int} (hx : ev σ x = some (.int .i64 a)) (hy : ev σ y = some (.int .i64 b)) :
    Val P σ S ⟨d, .binOp .sub T x y T', ty, ps, af, g⟩ (.int .i64 (IntKind.i64.wrap (a - b))) :=
  Val.intop hx hy fun w => by simp [binOp, Op.intArith]
theorem Val.lss {T T' : TypeId} {x y : Operand} {k : IntKind} {a b : Int} (hx : ev σ x = some (.int k a)) (hy : ev σ y = some (.int k b)) :
    Val P σ S ⟨d, .binOp .lss T x y T', ty, ps, af, g⟩ (.bool (decide (a < b))) := Val.intop hx hy fun w => by simp [binOp, Op.intCmp]
theorem Val.leq {T T' : TypeId} {x y : Operand} {k : IntKind} {a b : Int} (hx : ev σ x = some (.int k a)) (hy : ev σ y = some (.int k b)) :
    Val P σ S ⟨d, .binOp .leq T x y T', ty, ps, af, g⟩ (.bool (decide (a ≤ b))) := Val.intop hx hy fun w => by simp [binOp, Op.intCmp]
theorem Val.gtr {T T' : TypeId} {x y : Operand} {k : IntKind} {a b : Int} (hx : ev σ x = some (.int k a)) (hy : ev σ y = some (.int k b)) :
    Val P σ S ⟨d, .binOp .gtr T x y T', ty, ps, af, g⟩ (.bool (decide (b < a))) := Val.intop hx hy fun w => by simp [binOp, Op.intCmp]
theorem Val.geq {T T' : TypeId} {x y : Operand} {k : IntKind} {a b : Int} (hx : ev σ x = some (.int k a)) (hy : ev σ y = some (.int k b)) :
    Val P σ S ⟨d, .binOp .geq T x y T', ty, ps, af, g⟩ (.bool (decide (b ≤ a))) := Val.intop hx hy fun w => by simp [binOp, Op.intCmp]
theorem Val.eql {T T' : TypeId} {x y : Operand} {k : IntKind} {a b : Int} (hx : ev σ x = some (.int k a)) (hy : ev σ y = some (.int k b)) :
    Val P σ S ⟨d, .binOp .eql T x y T', ty, ps, af, g⟩ (.bool (decide (a = b))) := Val.intop hx hy fun w => by
  have : (a == b) = decide (a = b) := rfl
  simp [binOp, Op.intCmp, this]
theorem Val.neq {T T' : TypeId} {x y : Operand} {k : IntKind} {a b : Int} (hx : ev σ x = some (.int k a)) (hy : ev σ y = some (.int k b)) :
    Val P σ S ⟨d, .binOp .neq T x y T', ty, ps, af, g⟩ (.bool (!decide (a = b))) := Val.intop hx hy fun w => by
  have : (a != b) = !decide (a = b) := rfl
  simp [binOp, Op.intCmp, this]

/-! strings: lists of bytes -/
def str (l : List UInt8) : Value := .string ⟨l.toArray⟩

theorem bytes_toList (s : ByteArray) : s.toList = s.data.toList := ByteArray.toList_eq s

theorem Val.strop {op : BinOp} {T T' : TypeId} {x y : Operand} {a b : List UInt8} {v : Value} (hx : ev σ x = some (str a)) (hy : ev σ y = some (str b))
    (hop : ∀ w : World, (Op.stringOp op ⟨a.toArray⟩ ⟨b.toArray⟩).run P w = .ok v w) : Val P σ S ⟨d, .binOp op T x y T', ty, ps, af, g⟩ v := fun ρ w hρ _ => by
  have hg : (eqGuard op T x y (str a) (str b)).run P w = .ok () w := by cases op <;> simp [eqGuard, str]
  have hb : binOp op T (str a) (str b) = Op.stringOp op ⟨a.toArray⟩ ⟨b.toArray⟩ := by cases op <;> rfl
  simp only [execOp, hρ x _ hx, hρ y _ hy, Sem.run_bind, hg, Result.andThen_ok, hb, hop]
  simp

theorem Val.streql {T T' : TypeId} {x y : Operand} {a b : List UInt8} (hx : ev σ x = some (str a)) (hy : ev σ y = some (str b)) :
    Val P σ S ⟨d, .binOp .eql T x y T', ty, ps, af, g⟩ (.bool (decide (a = b))) := Val.strop hx hy fun w => by
  have : (a == b) = decide (a = b) := by rw [Bool.eq_iff_iff]; simp
  simp [Op.stringOp, bytes_toList, this]
theorem Val.strneq {T T' : TypeId} {x y : Operand} {a b : List UInt8} (hx : ev σ x = some (str a)) (hy : ev σ y = some (str b)) :
    Val P σ S ⟨d, .binOp .neq T x y T', ty, ps, af, g⟩ (.bool (!decide (a = b))) := Val.strop hx hy fun w => by
  have : (a == b) = decide (a = b) := by rw [Bool.eq_iff_iff]; simp
  simp [Op.stringOp, bytes_toList, this]
theorem Val.stradd {T T' : TypeId} {x y : Operand} {a b : List UInt8} (hx : ev σ x = some (str a)) (hy : ev σ y = some (str b)) (hl : a.length + b.length ≤ 140737488355328) :
    Val P σ S ⟨d, .binOp .add T x y T', ty, ps, af, g⟩ (str (a ++ b)) := Val.strop hx hy fun w => by
  have hsz : ∀ l : List UInt8, (⟨l.toArray⟩ : ByteArray).size = l.length := fun l => List.size_toArray
  have hm : ¬ (((a.length + b.length : Nat) : Int) > IntKind.i64.max) := by
    have : IntKind.i64.max = 9223372036854775807 := by decide
    rw [this]; omega
  have happ : (⟨a.toArray⟩ : ByteArray) ++ ⟨b.toArray⟩ = ⟨(a ++ b).toArray⟩ := by
    apply ByteArray.ext
    simp [ByteArray.data_append]
  simp only [Op.stringOp, hsz, if_neg hm, happ, str]
  rfl

theorem size_str (l : List UInt8) : (⟨l.toArray⟩ : ByteArray).size = l.length := List.size_toArray

theorem Val.lenstr {x : Operand} {T : TypeId} {a : List UInt8} (hT : P.underlying T = some .string) (hx : ev σ x = some (str a)) : Val P σ S ⟨d, .call ⟨.builtin .len, #[x], #[T]⟩, ty, ps, af, g⟩ (.int .i64 (a.length : Int)) := fun ρ w hρ _ => by
  simp only [execOp, resolve, List.map_toArray, List.map_cons, List.map_nil, hρ x _ hx, Sem.run_bind, Sem.run_pure, Result.andThen_ok, invoke, builtin, Builtin.len_, str, goInt]
  simp [run_underlying hT, -ByteArray.size_data]
  exact congrArg Int.ofNat (size_str a)
theorem Val.lenslice {x : Operand} {T e : TypeId} {a : Option Addr} {n c : Nat} (hT : P.underlying T = some (.slice e)) (hx : ev σ x = some (.slice a n c)) : Val P σ S ⟨d, .call ⟨.builtin .len, #[x], #[T]⟩, ty, ps, af, g⟩ (.int .i64 (n : Int)) := fun ρ w hρ _ => by
  simp [execOp, resolve, hρ x _ hx, invoke, builtin, Builtin.len_, goInt, run_underlying hT]
theorem Val.capslice {x : Operand} {T e : TypeId} {a : Option Addr} {n c : Nat} (hT : P.underlying T = some (.slice e)) (hx : ev σ x = some (.slice a n c)) : Val P σ S ⟨d, .call ⟨.builtin .cap, #[x], #[T]⟩, ty, ps, af, g⟩ (.int .i64 (c : Int)) := fun ρ w hρ _ => by
  simp [execOp, resolve, hρ x _ hx, invoke, builtin, Builtin.cap_, goInt, run_underlying hT]

theorem Val.indexstr {T : TypeId} {x ix : Operand} {a : List UInt8} {k : IntKind} {i : Nat} {b : UInt8} (hT : P.underlying T = some .string) (hx : ev σ x = some (str a)) (hi : ev σ ix = some (.int k (i : Int)))
    (hb : a[i]? = some b) : Val P σ S ⟨d, .index T x ix, ty, ps, af, g⟩ (.int .u8 (b.toNat : Int)) := fun ρ w hρ _ => by
  have h1 : (⟨a.toArray⟩ : ByteArray)[i]? = some b := by
    have hlt : i < a.length := (List.getElem?_eq_some_iff.1 hb).1
    have he := (List.getElem?_eq_some_iff.1 hb).2
    have hs : i < (⟨a.toArray⟩ : ByteArray).size := by rw [size_str]; exact hlt
    rw [getElem?_pos (⟨a.toArray⟩ : ByteArray) i hs]
    simp [ByteArray.getElem_eq_getElem_data, he]
  simp [execOp, hρ x _ hx, hρ ix _ hi, Instr.index, asIntOf, run_underlying hT, str, h1]
end
end Go.Sy
