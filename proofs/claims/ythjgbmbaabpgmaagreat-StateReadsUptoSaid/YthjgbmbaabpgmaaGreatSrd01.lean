/-
  The walk's own logic: what is known of slots, of blocks that the call owns, and of memory that stays as it is; a stack of code that is left. For every program.
-/
import Derived.WalkKit
import Derived.Orders
import Derived.Maps.AppendAt
set_option linter.unusedVariables false
set_option linter.unusedSimpArgs false
set_option linter.unusedSectionVars false
namespace Go.Sy
open Go Go.RowKit

/-! ## Slots -/
abbrev Slots := List (Nat × Value)

def lk : Slots → Nat → Option Value
  | [], _ => none
  | (k, v) :: r, t => bif Nat.beq k t then some v else lk r t

def ev (σ : Slots) : Operand → Option Value
  | .tmp t => lk σ t
  | .const v => some v
  | .global g => some (.pointer (some ⟨g, 0, none⟩))
  | .func f => some (.func (.func f) #[] #[])

/-- how many slots an activation has, and what it has deferred -/
structure Sz where
  k : Nat
  D : List Deferred

structure Sees (n : Sz) (σ : Slots) (a : Act) : Prop where
  defers : a.defers = n.D
  size : a.tmps.size = n.k
  val : ∀ t v, lk σ t = some v → a.tmps[t]? = some v

theorem lk_cons (k : Nat) (v : Value) (r : Slots) (t : Nat) : lk ((k, v) :: r) t = if k = t then some v else lk r t := by
  simp only [lk]
  by_cases h : k = t
  · simp [h]
  · have hb : Nat.beq k t = false := by
      cases hb : Nat.beq k t with
      | false => rfl
      | true => exact absurd (Nat.eq_of_beq_eq_true hb) h
    simp [h, hb]

theorem Sees.ev {n : Sz} {σ : Slots} {a : Act} (h : Sees n σ a) {x : Operand} {v : Value} (hx : Sy.ev σ x = some v) : a.eval x = v := by
  cases x with
  | tmp t => simp only [Sy.ev] at hx; have := h.val t v hx; simp [Act.eval, this]
  | const v' => simpa [Sy.ev, Act.eval] using hx
  | global g => simpa [Sy.ev, Act.eval] using hx
  | func f => simpa [Sy.ev, Act.eval] using hx

theorem Sees.put {n : Sz} {σ : Slots} {a : Act} (h : Sees n σ a) (d : Nat) (v : Value) (hd : Nat.blt d n.k = true) : Sees n ((d, v) :: σ) (a.put (some d) v) := by
  have hd' : d < n.k := by have := Nat.le_of_ble_eq_true hd; omega
  refine ⟨h.defers, by simp [Act.put, h.size], fun t u ht => ?_⟩
  rw [lk_cons] at ht
  simp only [Act.put, Array.getElem?_setIfInBounds]
  by_cases hdt : d = t
  · subst hdt
    simp only [if_true] at ht ⊢
    simp only [h.size, hd', if_true]
    exact ht
  · simp only [hdt, if_false] at ht ⊢
    exact h.val t u ht

theorem Sees.put_none {n : Sz} {σ : Slots} {a : Act} (h : Sees n σ a) (v : Value) : Sees n σ (a.put none v) := h

/-- what is known of some slots, as a part of what is known -/
def Sub : Slots → Slots → Prop
  | [], _ => True
  | (t, v) :: r, σ => lk σ t = some v ∧ Sub r σ

theorem Sub.at' {σ' σ : Slots} (h : Sub σ' σ) : ∀ t v, lk σ' t = some v → lk σ t = some v := by
  induction σ' with
  | nil => intro t v hv; simp [Sy.lk] at hv
  | cons p r ih =>
    obtain ⟨k, u⟩ := p
    intro t v hv
    rw [lk_cons] at hv
    split at hv
    · rename_i hk; subst hk; cases hv; exact h.1
    · exact ih h.2 t v hv

theorem Sees.sub {n : Sz} {σ σ' : Slots} {a : Act} (h : Sees n σ a) (hs : Sub σ' σ) : Sees n σ' a :=
  ⟨h.defers, h.size, fun t v ht => h.val t v (hs.at' t v ht)⟩

/-- the known slots of a list, and no others -/
def keep : List Nat → Slots → Slots
  | [], _ => []
  | t :: r, σ => match lk σ t with
    | some v => (t, v) :: keep r σ
    | none => keep r σ

theorem keep_sub (l : List Nat) (σ : Slots) : Sub (keep l σ) σ := by
  induction l with
  | nil => trivial
  | cons t r ih =>
    simp only [keep]
    split
    · rename_i v hv; exact ⟨hv, ih⟩
    · exact ih

theorem Sub.refl (σ : Slots) (h : ∀ t v, (t, v) ∈ σ → lk σ t = some v) : Sub σ σ := by
  have key : ∀ l : Slots, (∀ t v, (t, v) ∈ l → lk σ t = some v) → Sub l σ := by
    intro l
    induction l with
    | nil => intro _; trivial
    | cons p r ih =>
      obtain ⟨k, u⟩ := p
      intro hl
      exact ⟨hl k u (by simp), ih fun t v hv => hl t v (by simp [hv])⟩
  exact key σ h

theorem Sub.append {a b σ : Slots} (ha : Sub a σ) (hb : Sub b σ) : Sub (a ++ b) σ := by
  induction a with
  | nil => exact hb
  | cons p r ih => obtain ⟨k, u⟩ := p; exact ⟨ha.1, ih ha.2⟩

/-! ## The stack of what is left -/
inductive It where
  | code (c : Code)
  | blk (id : Nat)
  | inv (R : Act → World → Prop)

def kont (P : Program) (Q : Exit → Act → World → Prop) : List It → Exit → Act → World → Prop
  | [], e, a, w => Q e a w
  | .code c :: k, e, a, w => match e with
    | .normal => c.wp P (kont P Q k) a w
    | e => kont P Q k e a w
  | .blk id :: k, e, a, w => match e with
    | .exit i => if i = id then kont P Q k .normal a w else kont P Q k (.exit i) a w
    | e => kont P Q k e a w
  | .inv R :: k, e, a, w => match e with
    | .normal => R a w
    | e => kont P Q k e a w

section
variable {P : Program} {Q : Exit → Act → World → Prop} {n : Sz} {σ : Slots} {S : World → Prop} {k : List It}

/-- the goal of a walk: from every frame that shows σ and every world that meets S, what is left comes to Q -/
def At (P : Program) (Q : Exit → Act → World → Prop) (n : Sz) (σ : Slots) (S : World → Prop) (k : List It) : Prop :=
  ∀ a w, Sees n σ a → S w → kont P Q k .normal a w

theorem At.imp {S' : World → Prop} (h : At P Q n σ S' k) (hs : ∀ w, S w → S' w) : At P Q n σ S k := fun a w ha hw => h a w ha (hs w hw)
theorem At.sub {σ' : Slots} (h : At P Q n σ' S k) (hs : Sub σ' σ) : At P Q n σ S k := fun a w ha hw => h a w (ha.sub hs) hw
theorem At.ex {α : Sort _} {S : α → World → Prop} (h : ∀ x, At P Q n σ (S x) k) : At P Q n σ (fun w => ∃ x, S x w) k := fun a w ha ⟨x, hw⟩ => h x a w ha hw
theorem At.pure {p : Prop} (h : p → At P Q n σ S k) : At P Q n σ (fun w => p ∧ S w) k := fun a w ha ⟨hp, hw⟩ => h hp a w ha hw

theorem kont_seq {y : Code} (e : Exit) (a : Act) (w : World) : kont P Q (.code y :: k) e a w ↔ Exit.then (y.wp P (kont P Q k)) (kont P Q k) e a w := by
  cases e <;> rfl

theorem At.seq {x y : Code} (h : At P Q n σ S (.code x :: .code y :: k)) : At P Q n σ S (.code (.seq x y) :: k) := fun a w ha hw =>
  wp_seq (wp_mono (h a w ha hw) fun e a w hq => (kont_seq e a w).1 hq)
theorem At.skip (h : At P Q n σ S k) : At P Q n σ S (.code .skip :: k) := fun a w ha hw => wp_skip (h a w ha hw)
theorem At.label {l : Nat} (h : At P Q n σ S k) : At P Q n σ S (.code (.label l) :: k) := fun a w ha hw => wp_label (h a w ha hw)
theorem At.block {id : Nat} {c : Code} (h : At P Q n σ S (.code c :: .blk id :: k)) : At P Q n σ S (.code (.block id c) :: k) := fun a w ha hw =>
  wp_block (wp_mono (h a w ha hw) fun e a w hq => by cases e <;> exact hq)
theorem At.blk {id : Nat} (h : At P Q n σ S k) : At P Q n σ S (.blk id :: k) := fun a w ha hw => h a w ha hw

/-- where an exit leads -/
def pop (id : Nat) : List It → Option (List It)
  | [] => none
  | .blk i :: k => bif Nat.beq id i then some k else pop id k
  | _ :: k => pop id k

theorem pop_kont {id : Nat} {k k' : List It} (h : pop id k = some k') (a : Act) (w : World) (hn : kont P Q k' .normal a w) : kont P Q k (.exit id) a w := by
  induction k with
  | nil => simp [pop] at h
  | cons x r ih =>
    cases x with
    | code c => exact ih h
    | inv R => exact ih h
    | blk i =>
      simp only [pop] at h
      simp only [kont]
      by_cases hi : id = i
      · subst hi
        simp at h
        simp [h, hn]
      · have hb : Nat.beq id i = false := by
          cases hb : Nat.beq id i with
          | false => rfl
          | true => exact absurd (Nat.eq_of_beq_eq_true hb) hi
        rw [hb] at h
        simp only [hi, if_false]
        exact ih h

theorem At.exit {id : Nat} {k' : List It} (hp : pop id k = some k') (h : At P Q n σ S k') : At P Q n σ S (.code (.exit id) :: k) := fun a w ha hw =>
  wp_exit (pop_kont hp a w (h a w ha hw))

theorem kont_ret (k : List It) (a : Act) (w : World) (h : Q .ret a w) : kont P Q k .ret a w := by
  induction k with
  | nil => exact h
  | cons x r ih => cases x <;> exact ih

theorem kont_outgrown (k : List It) (a : Act) (w : World) (h : Q .outgrown a w) : kont P Q k .outgrown a w := by
  induction k with
  | nil => exact h
  | cons x r ih => cases x <;> exact ih

theorem At.ret (h : ∀ a w, Sees n σ a → S w → Q .ret a w) : At P Q n σ S (.code .ret :: k) := fun a w ha hw => wp_ret (kont_ret k a w (h a w ha hw))

theorem At.cond {c : Operand} {x y : Code} {b : Bool} (hc : ev σ c = some (.bool b)) (ht : b = true → At P Q n σ S (.code x :: k)) (hf : b = false → At P Q n σ S (.code y :: k)) :
    At P Q n σ S (.code (.cond c x y) :: k) := fun a w ha hw =>
  wp_cond_split (ha.ev hc) (fun h => ht h a w ha hw) (fun h => hf h a w ha hw)
theorem At.cond_true {c : Operand} {x y : Code} (hc : ev σ c = some (.bool true)) (h : At P Q n σ S (.code x :: k)) : At P Q n σ S (.code (.cond c x y) :: k) := fun a w ha hw =>
  wp_cond_true (ha.ev hc) (h a w ha hw)
theorem At.cond_false {c : Operand} {x y : Code} (hc : ev σ c = some (.bool false)) (h : At P Q n σ S (.code y :: k)) : At P Q n σ S (.code (.cond c x y) :: k) := fun a w ha hw =>
  wp_cond_false (ha.ev hc) (h a w ha hw)

theorem wp_loop_x {X : Type} {c : Code} {Q : Exit → Act → World → Prop} (I : X → Act → World → Prop) (μ : X → Nat)
    (round : ∀ x a w, I x a w → c.wp P (Exit.then (fun a' w' => ∃ x', μ x' < μ x ∧ I x' a' w') Q) a w) (x : X) (a : Act) (w : World) (h₀ : I x a w) : (Code.loop c).wp P Q a w := by
  intro b k cs
  have key : ∀ n x a w, μ x = n → I x a w →
      ∃ e a' w', Q e a' w' ∧ Arrives P (lone (b.at a (.code c :: .inLoop c :: k)) cs w) b k cs e a' w' := by
    intro n
    induction n using Nat.strongRecOn with
    | _ n ih =>
      intro x a w hn hI
      obtain ⟨e, a₁, w₁, hq, harr⟩ := round x a w hI b (.inLoop c :: k) cs
      cases e with
      | normal =>
        obtain ⟨x', hlt, hI₁⟩ := hq
        obtain ⟨e₂, a₂, w₂, hq₂, harr₂⟩ := ih (μ x') (hn ▸ hlt) x' a₁ w₁ rfl hI₁
        exact ⟨e₂, a₂, w₂, hq₂, .of_steps (Steps.trans harr (.one step_inLoop)) harr₂⟩
      | exit id => exact ⟨_, a₁, w₁, hq, .pass (x := .inLoop c) rfl (fun _ _ => .inl (by simp)) harr⟩
      | goto l => exact ⟨_, a₁, w₁, hq, .pass (x := .inLoop c) rfl (fun _ _ => .inl (by simp)) harr⟩
      | ret => exact ⟨_, a₁, w₁, hq, .pass (x := .inLoop c) rfl (fun _ _ => .inl (by simp)) harr⟩
      | panic ch => exact ⟨_, a₁, w₁, hq, .pass (x := .inLoop c) rfl (fun _ _ => .inl (by simp)) harr⟩
      | outgrown => exact ⟨_, a₁, w₁, hq, .pass (x := .inLoop c) rfl (fun _ _ => .inl (by simp)) harr⟩
  obtain ⟨e, a', w', hq, harr⟩ := key _ x a w rfl h₀
  exact ⟨e, a', w', hq, .of_steps (.one step_loop) harr⟩

/-- the head of a loop's next round: for some x that counts less, the slots are σI x and the world meets I x -/
def Back {X : Type} (n : Sz) (σI : X → Slots) (I : X → World → Prop) (μ : X → Nat) (x : X) (a : Act) (w : World) : Prop := ∃ x', μ x' < μ x ∧ Sees n (σI x') a ∧ I x' w

/-- a loop: at each round's head the slots are σI x and the world meets I x, for some x -/
theorem At.loop {X : Type} (σI : X → Slots) (I : X → World → Prop) (μ : X → Nat) (x0 : X) {c : Code}
    (hσ : Sub (σI x0) σ) (h0 : ∀ w, S w → I x0 w)
    (hr : ∀ x, At P Q n (σI x) (I x) (.code c :: .inv (Back n σI I μ x) :: k)) :
    At P Q n σ S (.code (.loop c) :: k) := fun a w ha hw =>
  wp_loop_x (fun x a w => Sees n (σI x) a ∧ I x w) μ (fun x a w h => wp_mono (hr x a w h.1 h.2) fun e a w hq => by cases e <;> exact hq) x0 a w ⟨ha.sub hσ, h0 w hw⟩

theorem At.back {X : Type} {σI : X → Slots} {I : X → World → Prop} {μ : X → Nat} {x : X} (x' : X) (hμ : μ x' < μ x) (hσ : Sub (σI x') σ) (hw : ∀ w, S w → I x' w) :
    At P Q n σ S (.inv (Back n σI I μ x) :: k) := fun _ w ha h => ⟨x', hμ, ha.sub hσ, hw w h⟩

/-- the same with the round's letters one by one -/
theorem At.loop1 {A : Type} (σI : A → Slots) (I : A → World → Prop) (μ : A → Nat) (a0 : A) {c : Code} (hσ : Sub (σI a0) σ) (h0 : ∀ w, S w → I a0 w)
    (hr : ∀ a, At P Q n (σI a) (I a) (.code c :: .inv (Back n σI I μ a) :: k)) : At P Q n σ S (.code (.loop c) :: k) := At.loop σI I μ a0 hσ h0 hr
abbrev Back2 {A B : Type} (n : Sz) (σI : A → B → Slots) (I : A → B → World → Prop) (μ : A → B → Nat) (a : A) (b : B) := Back (X := A × B) n (fun x => σI x.1 x.2) (fun x => I x.1 x.2) (fun x => μ x.1 x.2) (a, b)
abbrev Back3 {A B C : Type} (n : Sz) (σI : A → B → C → Slots) (I : A → B → C → World → Prop) (μ : A → B → C → Nat) (a : A) (b : B) (c : C) := Back (X := A × B × C) n (fun x => σI x.1 x.2.1 x.2.2) (fun x => I x.1 x.2.1 x.2.2) (fun x => μ x.1 x.2.1 x.2.2) (a, b, c)
abbrev Back4 {A B C D : Type} (n : Sz) (σI : A → B → C → D → Slots) (I : A → B → C → D → World → Prop) (μ : A → B → C → D → Nat) (a : A) (b : B) (c : C) (d : D) :=
  Back (X := A × B × C × D) n (fun x => σI x.1 x.2.1 x.2.2.1 x.2.2.2) (fun x => I x.1 x.2.1 x.2.2.1 x.2.2.2) (fun x => μ x.1 x.2.1 x.2.2.1 x.2.2.2) (a, b, c, d)
theorem At.loop2 {A B : Type} (σI : A → B → Slots) (I : A → B → World → Prop) (μ : A → B → Nat) (a0 : A) (b0 : B) {c : Code} (hσ : Sub (σI a0 b0) σ) (h0 : ∀ w, S w → I a0 b0 w)
    (hr : ∀ a b, At P Q n (σI a b) (I a b) (.code c :: .inv (Back2 n σI I μ a b) :: k)) : At P Q n σ S (.code (.loop c) :: k) :=
  At.loop (X := A × B) (fun x => σI x.1 x.2) (fun x => I x.1 x.2) (fun x => μ x.1 x.2) (a0, b0) hσ h0 fun x => hr x.1 x.2
theorem At.loop3 {A B C : Type} (σI : A → B → C → Slots) (I : A → B → C → World → Prop) (μ : A → B → C → Nat) (a0 : A) (b0 : B) (c0 : C) {c : Code} (hσ : Sub (σI a0 b0 c0) σ) (h0 : ∀ w, S w → I a0 b0 c0 w)
    (hr : ∀ a b c', At P Q n (σI a b c') (I a b c') (.code c :: .inv (Back3 n σI I μ a b c') :: k)) : At P Q n σ S (.code (.loop c) :: k) :=
  At.loop (X := A × B × C) (fun x => σI x.1 x.2.1 x.2.2) (fun x => I x.1 x.2.1 x.2.2) (fun x => μ x.1 x.2.1 x.2.2) (a0, b0, c0) hσ h0 fun x => hr x.1 x.2.1 x.2.2
theorem At.loop4 {A B C D : Type} (σI : A → B → C → D → Slots) (I : A → B → C → D → World → Prop) (μ : A → B → C → D → Nat) (a0 : A) (b0 : B) (c0 : C) (d0 : D) {c : Code} (hσ : Sub (σI a0 b0 c0 d0) σ) (h0 : ∀ w, S w → I a0 b0 c0 d0 w)
    (hr : ∀ a b c' d, At P Q n (σI a b c' d) (I a b c' d) (.code c :: .inv (Back4 n σI I μ a b c' d) :: k)) : At P Q n σ S (.code (.loop c) :: k) :=
  At.loop (X := A × B × C × D) (fun x => σI x.1 x.2.1 x.2.2.1 x.2.2.2) (fun x => I x.1 x.2.1 x.2.2.1 x.2.2.2) (fun x => μ x.1 x.2.1 x.2.2.1 x.2.2.2) (a0, b0, c0, d0) hσ h0 fun x => hr x.1 x.2.1 x.2.2.1 x.2.2.2
theorem At.back2 {A B : Type} {σI : A → B → Slots} {I : A → B → World → Prop} {μ : A → B → Nat} {a : A} {b : B} (a' : A) (b' : B) (hμ : μ a' b' < μ a b) (hσ : Sub (σI a' b') σ) (hw : ∀ w, S w → I a' b' w) :
    At P Q n σ S (.inv (Back2 n σI I μ a b) :: k) := fun _ w ha h => ⟨(a', b'), hμ, ha.sub hσ, hw w h⟩
theorem At.back3 {A B C : Type} {σI : A → B → C → Slots} {I : A → B → C → World → Prop} {μ : A → B → C → Nat} {a : A} {b : B} {c : C} (a' : A) (b' : B) (c' : C) (hμ : μ a' b' c' < μ a b c) (hσ : Sub (σI a' b' c') σ) (hw : ∀ w, S w → I a' b' c' w) :
    At P Q n σ S (.inv (Back3 n σI I μ a b c) :: k) := fun _ w ha h => ⟨(a', b', c'), hμ, ha.sub hσ, hw w h⟩
theorem At.back4 {A B C D : Type} {σI : A → B → C → D → Slots} {I : A → B → C → D → World → Prop} {μ : A → B → C → D → Nat} {a : A} {b : B} {c : C} {d : D} (a' : A) (b' : B) (c' : C) (d' : D) (hμ : μ a' b' c' d' < μ a b c d) (hσ : Sub (σI a' b' c' d') σ) (hw : ∀ w, S w → I a' b' c' d' w) :
    At P Q n σ S (.inv (Back4 n σI I μ a b c d) :: k) := fun _ w ha h => ⟨(a', b', c', d'), hμ, ha.sub hσ, hw w h⟩

/-- ways that meet again behind an item: what holds there is named by letters -/
theorem At.meet1 {A : Type} (τ : A → Slots) (I : A → World → Prop) {x : It}
    (paths : ∀ k' : List It, (∀ {σ' : Slots} {S' : World → Prop} a, Sub (τ a) σ' → (∀ w, S' w → I a w) → At P Q n σ' S' k') → At P Q n σ S (x :: k'))
    (main : ∀ a, At P Q n (τ a) (I a) k) : At P Q n σ S (x :: k) := paths k fun {_ _} a h1 h2 => ((main a).sub h1).imp h2
theorem At.meet2 {A B : Type} (τ : A → B → Slots) (I : A → B → World → Prop) {x : It}
    (paths : ∀ k' : List It, (∀ {σ' : Slots} {S' : World → Prop} a b, Sub (τ a b) σ' → (∀ w, S' w → I a b w) → At P Q n σ' S' k') → At P Q n σ S (x :: k'))
    (main : ∀ a b, At P Q n (τ a b) (I a b) k) : At P Q n σ S (x :: k) := paths k fun {_ _} a b h1 h2 => ((main a b).sub h1).imp h2
theorem At.meet3 {A B C : Type} (τ : A → B → C → Slots) (I : A → B → C → World → Prop) {x : It}
    (paths : ∀ k' : List It, (∀ {σ' : Slots} {S' : World → Prop} a b c, Sub (τ a b c) σ' → (∀ w, S' w → I a b c w) → At P Q n σ' S' k') → At P Q n σ S (x :: k'))
    (main : ∀ a b c, At P Q n (τ a b c) (I a b c) k) : At P Q n σ S (x :: k) := paths k fun {_ _} a b c h1 h2 => ((main a b c).sub h1).imp h2
end
end Go.Sy
/-
  The walk's own logic, second part: what the call owns in memory, and what stays as it is.
-/
namespace Go.Sy
open Go Go.RowKit

/-- memory of which it is known that it stays as it is -/
abbrev HV := Nat → Option Obj

/-- something that the call owns: its blocks, and what is known of them -/
structure Itm where
  B : Nat → Prop
  ok : World → Prop
  loc : ∀ w w' : World, (∀ b, B b → w'.heap[b]? = w.heap[b]?) → ok w → ok w'
  alive : ∀ (w : World) b, ok w → B b → b < w.heap.size

/-- one block, known whole -/
def blk (b : Nat) (o : Obj) : Itm where
  B := fun i => i = b
  ok := fun w => w.heap[b]? = some o
  loc := fun w w' h hw => (h b rfl).trans hw
  alive := fun w i hw hi => by subst hi; exact (Array.getElem?_eq_some_iff.1 hw).1

/-- a variable, or a struct's, or a row's cells -/
abbrev cells (b : Nat) (cs : List Value) (T : TypeId) : Itm := blk b (.cells cs.toArray T (0, 0))

/-- a slice that the call has made by append: its n elements are the cells xs -/
def row (e : TypeId) (size : Nat) (v : Value) (n : Nat) (xs : List Value) : Itm where
  B := fun i => v.ownBlock = some i
  ok := fun w => w.ownsRow 0 e size v n xs
  loc := fun w w' h hw => by
    refine ⟨hw.1, ?_⟩
    rcases hw.2 with hn | ⟨g, cap, cur, rfl, hb, hg, rest⟩
    · exact .inl hn
    · exact .inr ⟨g, cap, cur, rfl, hb, (h g (by simp [Value.ownBlock])).trans hg, rest⟩
  alive := fun w i hw hi => (hw.lt i hi).2

/-- more memory is known to stay as it is -/
structure HExt (N : Nat) (X : Nat → Prop) (h h' : HV) : Prop where
  le : ∀ b o, h b = some o → h' b = some o
  old : ∀ b, b < N → ¬ X b → h' b = h b

theorem HExt.refl (N : Nat) (X : Nat → Prop) (h : HV) : HExt N X h h := ⟨fun _ _ h => h, fun _ _ _ => rfl⟩

/-- where a call began: the world, the blocks that it was handed, what stayed as it is -/
structure Ctx where
  w0 : World
  X : Nat → Prop
  h0 : HV

structure Mem (c : Ctx) (Ω : List Itm) (h : HV) (w : World) : Prop where
  os : w.os = c.w0.os
  tape : w.tape = c.w0.tape
  output : w.output = c.w0.output
  size : c.w0.heap.size ≤ w.heap.size
  still : ∀ b, b < c.w0.heap.size → ¬ c.X b → w.heap[b]? = c.w0.heap[b]?
  hext : HExt c.w0.heap.size c.X c.h0 h
  hv : ∀ b o, h b = some o → w.heap[b]? = some o
  own : ∀ i ∈ Ω, i.ok w
  sep : Ω.Pairwise fun i j => ∀ b, i.B b → ¬ j.B b
  apart : ∀ i ∈ Ω, ∀ b, i.B b → h b = none
  mine : ∀ i ∈ Ω, ∀ b, i.B b → c.w0.heap.size ≤ b ∨ c.X b

/-- the blocks of what is owned -/
def blocks (Ω : List Itm) : Nat → Prop := fun b => ∃ i ∈ Ω, i.B b

/-- where a call begins -/
def ctx (w0 : World) (Ω : List Itm) (h : HV) : Ctx := ⟨w0, blocks Ω, h⟩

/-- what a function does: from what it is handed (Ω, h) to its value, what it hands back, and what stays -/
def Does (P : Program) (f : FuncId) (args : Array Value) (Ω : List Itm) (h : HV) (post : Value → List Itm → HV → Prop) : Prop :=
  ∀ w0, Mem (ctx w0 Ω h) Ω h w0 → Calls P f args w0 fun e w' => ∃ v, e = .returned v ∧ ∃ Ω' h', post v Ω' h' ∧ Mem (ctx w0 Ω h) Ω' h' w'

section
variable {c : Ctx} {w w' : World} {Ω Ω' : List Itm} {h h' : HV}

theorem Mem.perm (m : Mem c Ω h w) (p : Ω.Perm Ω') : Mem c Ω' h w :=
  { m with
    own := fun i hi => m.own i (p.mem_iff.2 hi)
    sep := (p.pairwise_iff (fun hij b hb hi => hij b hi hb)).1 m.sep
    apart := fun i hi => m.apart i (p.mem_iff.2 hi)
    mine := fun i hi => m.mine i (p.mem_iff.2 hi) }

theorem Mem.drew (m : Mem c Ω h w) (d : Nat) : Mem c Ω h { w with drawn := d } :=
  { m with own := fun i hi => i.loc w _ (fun _ _ => rfl) (m.own i hi) }

theorem Mem.sub (m : Mem c Ω h w) (s : Ω'.Sublist Ω) : Mem c Ω' h w :=
  { m with
    own := fun i hi => m.own i (s.subset hi)
    sep := m.sep.sublist s
    apart := fun i hi => m.apart i (s.subset hi)
    mine := fun i hi => m.mine i (s.subset hi) }

/-- a call: what is not handed to it stays -/
theorem Mem.call {Ωr : List Itm} (m : Mem c (Ω ++ Ωr) h w) (m' : Mem (ctx w Ω h) Ω' h' w') : Mem c (Ω' ++ Ωr) h' w' := by
  have hsep := List.pairwise_append.1 m.sep
  have halive : ∀ i ∈ Ω ++ Ωr, ∀ b, i.B b → b < w.heap.size := fun i hi b hb => i.alive w b (m.own i hi) hb
  have hr : ∀ i ∈ Ωr, ∀ b, i.B b → ¬ blocks Ω b := fun i hi b hb ⟨j, hj, hjb⟩ => hsep.2.2 j hj i hi b hjb hb
  have hfar : ∀ b, b < c.w0.heap.size → ¬ c.X b → ¬ blocks Ω b := by
    rintro b hb hx ⟨i, hi, hib⟩
    rcases m.mine i (List.mem_append_left _ hi) b hib with h1 | h1
    · omega
    · exact hx h1
  refine ⟨m'.os.trans m.os, m'.tape.trans m.tape, m'.output.trans m.output, Nat.le_trans m.size m'.size, ?_, ⟨fun b o hb => m'.hext.le b o (m.hext.le b o hb), ?_⟩, m'.hv, ?_, ?_, ?_, ?_⟩
  · intro b hb hx
    rw [m'.still b (Nat.lt_of_lt_of_le hb m.size) (hfar b hb hx)]
    exact m.still b hb hx
  · intro b hb hx
    exact (m'.hext.old b (Nat.lt_of_lt_of_le hb m.size) (hfar b hb hx)).trans (m.hext.old b hb hx)
  · intro i hi
    rcases List.mem_append.1 hi with hi | hi
    · exact m'.own i hi
    · exact i.loc w w' (fun b hb => m'.still b (halive i (List.mem_append_right _ hi) b hb) (hr i hi b hb)) (m.own i (List.mem_append_right _ hi))
  · refine List.pairwise_append.2 ⟨m'.sep, hsep.2.1, ?_⟩
    intro i hi j hj b hib hjb
    have hlt := halive j (List.mem_append_right _ hj) b hjb
    rcases m'.mine i hi b hib with h1 | h1
    · have h2 : w.heap.size ≤ b := h1
      omega
    · exact hr j hj b hjb h1
  · intro i hi b hib
    rcases List.mem_append.1 hi with hi | hi
    · exact m'.apart i hi b hib
    · exact (m'.hext.old b (halive i (List.mem_append_right _ hi) b hib) (hr i hi b hib)).trans (m.apart i (List.mem_append_right _ hi) b hib)
  · intro i hi b hib
    rcases List.mem_append.1 hi with hi | hi
    · rcases m'.mine i hi b hib with h1 | ⟨j, hj, hjb⟩
      · exact .inl (Nat.le_trans m.size h1)
      · exact m.mine j (List.mem_append_left _ hj) b hjb
    · exact m.mine i (List.mem_append_right _ hi) b hib

/-- the part that a callee is handed -/
theorem Mem.hand {Ωr : List Itm} (m : Mem c (Ω ++ Ωr) h w) : Mem (ctx w Ω h) Ω h w :=
  ⟨rfl, rfl, rfl, Nat.le_refl _, fun _ _ _ => rfl, HExt.refl _ _ _, m.hv, fun i hi => m.own i (List.mem_append_left _ hi), (List.pairwise_append.1 m.sep).1,
    fun i hi => m.apart i (List.mem_append_left _ hi), fun i hi _ hb => .inr ⟨i, hi, hb⟩⟩

/-- a new block -/
theorem Mem.alloc (m : Mem c Ω h w) (o : Obj) : Mem c (blk w.heap.size o :: Ω) h (w.alloc o) := by
  have hold : ∀ b, b < w.heap.size → (w.alloc o).heap[b]? = w.heap[b]? := fun b hb => Below.heap_alloc w o b hb
  have halive : ∀ i ∈ Ω, ∀ b, i.B b → b < w.heap.size := fun i hi b hb => i.alive w b (m.own i hi) hb
  refine ⟨m.os, m.tape, m.output, ?_, ?_, m.hext, ?_, ?_, ?_, ?_, ?_⟩
  · have := m.size; simp; omega
  · intro b hb hx; rw [hold b (Nat.lt_of_lt_of_le hb m.size)]; exact m.still b hb hx
  · intro b u hu; have hw := m.hv b u hu; rw [hold b (Array.getElem?_eq_some_iff.1 hw).1]; exact hw
  · intro i hi
    rcases List.mem_cons.1 hi with rfl | hi
    · exact heap_alloc_new w o
    · exact i.loc w _ (fun b hb => hold b (halive i hi b hb)) (m.own i hi)
  · refine List.pairwise_cons.2 ⟨fun i hi b hb hib => ?_, m.sep⟩
    have := halive i hi b hib
    have hb' : b = w.heap.size := hb
    omega
  · intro i hi b hb
    rcases List.mem_cons.1 hi with rfl | hi
    · have hb' : b = w.heap.size := hb
      subst hb'
      cases hh : h w.heap.size with
      | none => rfl
      | some u => have := (Array.getElem?_eq_some_iff.1 (m.hv _ u hh)).1; omega
    · exact m.apart i hi b hb
  · intro i hi b hb
    rcases List.mem_cons.1 hi with rfl | hi
    · have hb' : b = w.heap.size := hb
      exact .inl (by have := m.size; omega)
    · exact m.mine i hi b hb

/-- a change to what is owned, at its own blocks (and new ones) alone -/
theorem Mem.change {i j : Itm} (m : Mem c (i :: Ω) h w) (hos : w'.os = w.os) (htape : w'.tape = w.tape) (hout : w'.output = w.output) (hsize : w.heap.size ≤ w'.heap.size)
    (hold : ∀ b, b < w.heap.size → ¬ i.B b → w'.heap[b]? = w.heap[b]?) (hj : j.ok w') (hB : ∀ b, j.B b → i.B b ∨ w.heap.size ≤ b) : Mem c (j :: Ω) h w' := by
  have halive : ∀ i' ∈ i :: Ω, ∀ b, i'.B b → b < w.heap.size := fun i hi b hb => i.alive w b (m.own i hi) hb
  have hsep := List.pairwise_cons.1 m.sep
  refine ⟨hos.trans m.os, htape.trans m.tape, hout.trans m.output, Nat.le_trans m.size hsize, ?_, m.hext, ?_, ?_, ?_, ?_, ?_⟩
  · intro b hb hx
    rw [hold b (Nat.lt_of_lt_of_le hb m.size) ?_]
    · exact m.still b hb hx
    · intro hib
      rcases m.mine i (by simp) b hib with h1 | h1
      · omega
      · exact hx h1
  · intro b u hu
    have hw := m.hv b u hu
    rw [hold b (Array.getElem?_eq_some_iff.1 hw).1 ?_]
    · exact hw
    · intro hib; rw [m.apart i (by simp) b hib] at hu; cases hu
  · intro i' hi
    rcases List.mem_cons.1 hi with rfl | hi
    · exact hj
    · exact i'.loc w _ (fun b hb => hold b (halive i' (by simp [hi]) b hb) (fun hib => hsep.1 i' hi b hib hb)) (m.own i' (by simp [hi]))
  · refine List.pairwise_cons.2 ⟨fun i' hi b hb hib => ?_, hsep.2⟩
    rcases hB b hb with h1 | h1
    · exact hsep.1 i' hi b h1 hib
    · have := halive i' (by simp [hi]) b hib; omega
  · intro i' hi b hb
    rcases List.mem_cons.1 hi with rfl | hi
    · rcases hB b hb with h1 | h1
      · exact m.apart i (by simp) b h1
      · cases hh : h b with
        | none => rfl
        | some u => have := (Array.getElem?_eq_some_iff.1 (m.hv _ u hh)).1; omega
    · exact m.apart i' (by simp [hi]) b hb
  · intro i' hi b hb
    rcases List.mem_cons.1 hi with rfl | hi
    · rcases hB b hb with h1 | h1
      · exact m.mine i (by simp) b h1
      · exact .inl (Nat.le_trans m.size h1)
    · exact m.mine i' (by simp [hi]) b hb

theorem set_perm {α : Type} : ∀ (l : List α) (j : Nat) (x y : α), l[j]? = some x → l.Perm (x :: l.eraseIdx j) ∧ (y :: l.eraseIdx j).Perm (l.set j y)
  | [], j, x, y, hx => by simp at hx
  | a :: l, 0, x, y, hx => by
    simp at hx; subst hx
    exact ⟨List.Perm.refl _, List.Perm.refl _⟩
  | a :: l, j + 1, x, y, hx => by
    have ih := set_perm l j x y (by simpa using hx)
    simp only [List.eraseIdx_cons_succ, List.set_cons_succ]
    exact ⟨(List.Perm.cons a ih.1).trans (List.Perm.swap _ _ _), (List.Perm.swap _ _ _).trans (List.Perm.cons a ih.2)⟩

/-- a change to what is owned, wherever it stands in the list -/
theorem Mem.change_at {i j : Itm} (n : Nat) (hn : Ω[n]? = some i) (m : Mem c Ω h w) (hos : w'.os = w.os) (htape : w'.tape = w.tape) (hout : w'.output = w.output) (hsize : w.heap.size ≤ w'.heap.size)
    (hold : ∀ b, b < w.heap.size → ¬ i.B b → w'.heap[b]? = w.heap[b]?) (hj : j.ok w') (hB : ∀ b, j.B b → i.B b ∨ w.heap.size ≤ b) : Mem c (Ω.set n j) h w' :=
  ((m.perm (set_perm Ω n i j hn).1).change hos htape hout hsize hold hj hB).perm (set_perm Ω n i j hn).2

/-- what is owned is given up: from now on it stays as it is -/
def HV.put (h : HV) (b : Nat) (o : Obj) : HV := fun i => if i = b then some o else h i

theorem Mem.publish {b : Nat} {o : Obj} (m : Mem c (blk b o :: Ω) h w) : Mem c Ω (HV.put h b o) w := by
  have hsep := List.pairwise_cons.1 m.sep
  have hb0 : h b = none := m.apart _ (List.mem_cons_self ..) b rfl
  refine ⟨m.os, m.tape, m.output, m.size, m.still, ⟨?_, ?_⟩, ?_, fun i hi => m.own i (by simp [hi]), hsep.2, ?_, fun i hi => m.mine i (by simp [hi])⟩
  · intro i u hu
    have h1 := m.hext.le i u hu
    have hne : i ≠ b := fun e => by rw [e, hb0] at h1; cases h1
    show (if i = b then some o else h i) = some u
    rw [if_neg hne]; exact h1
  · intro i hi hx
    have hne : i ≠ b := fun e => by
      rcases m.mine _ (List.mem_cons_self ..) b rfl with h1 | h1
      · omega
      · exact hx (e ▸ h1)
    show (if i = b then some o else h i) = c.h0 i
    rw [if_neg hne]; exact m.hext.old i hi hx
  · intro i u hu
    have hu' : (if i = b then some o else h i) = some u := hu
    split at hu'
    · rename_i hi; subst hi; cases hu'; exact m.own _ (List.mem_cons_self ..)
    · exact m.hv i u hu'
  · intro i hi j hj
    have hne : j ≠ b := fun e => hsep.1 i hi j e hj
    show (if j = b then some o else h j) = none
    rw [if_neg hne]
    exact m.apart i (by simp [hi]) j hj
end

end Go.Sy
