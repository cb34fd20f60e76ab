/-
  The walk's own logic, fifth part: regions that draw their order. Each operation is shown once, in whatever order serves; the order that is drawn makes no difference.
-/
import Derived.Test.YthjgbmbaabpgmaaGreatSrd03
import Derived.StillTail
set_option linter.unusedVariables false
set_option linter.unusedSimpArgs false
set_option linter.unusedSectionVars false
namespace Go.Sy
open Go Go.RowKit

/-- an operation of a region that was taken already, and may be carried out later: its number, slot and value; the slots that it reads; what it asks of the world -/
structure Pd where
  i : Nat
  d : Nat
  v : Value
  rd : Slots
  ok : World → Prop

def mem (D : List Nat) (i : Nat) : Bool := match D with
  | [] => false
  | j :: r => Nat.beq j i || mem r i

theorem mem_iff {D : List Nat} {i : Nat} : mem D i = true ↔ i ∈ D := by
  induction D with
  | nil => simp [mem]
  | cons j r ih =>
    simp only [mem, Bool.or_eq_true, ih, List.mem_cons]
    constructor
    · rintro (h | h)
      · exact .inl (Nat.eq_of_beq_eq_true h).symm
      · exact .inr h
    · rintro (h | h)
      · subst h; exact .inl (by simp)
      · exact .inr h

/-- does an operation wait for another one? -/
def waits (ops : Array Oper) (j i : Nat) : Bool :=
  match ops[j]? with
  | some oj => oj.after.toList.any fun e => Region.binds .any e && Nat.beq e.on i
  | none => false

/-- the slots that an operation reads -/
def slotsOf (ops : Array Oper) (o : Oper) : List Nat :=
  (o.op.operands.toList.filterMap fun | .tmp t => some t | _ => none) ++
    (match o.guard with | some (j, _) => ((ops[j]?).bind (·.dst)).toList | none => [])

section
variable {P : Program} {Q : Exit → Act → World → Prop} {n : Nat} {σ : Slots} {S : World → Prop} {k : List It} {ops : Array Oper} {D : List Nat} {pend : List Pd}

/-- what was said of an operation that was taken: wherever its slots read so, and the world is so, it comes to its value -/
def PV (P : Program) (ops : Array Oper) (p : Pd) : Prop :=
  ∀ (K : Act → World → Prop) (Q : Exit → Act → World → Prop) (a : Act) (w : World), a.defers = [] → (∀ t u, lk p.rd t = some u → a.tmps[t]? = some u) → p.ok w → K (a.put (some p.d) p.v) w → wpOp P ops Q p.i K a w

structure Good (P : Program) (n : Nat) (ops : Array Oper) (D : List Nat) (σ : Slots) (pend : List Pd) (S : World → Prop) : Prop where
  inD : ∀ p ∈ pend, p.i ∈ D
  size : ∀ p ∈ pend, p.i < ops.size
  one : pend.Pairwise fun p q => p.d ≠ q.d ∧ p.i ≠ q.i
  rw : ∀ p ∈ pend, ∀ q ∈ pend, ∀ u, lk p.rd q.d = some u → (waits ops p.i q.i = true ∧ u = q.v) ∨ waits ops q.i p.i = true
  val : ∀ p ∈ pend, lk σ p.d = some p.v
  pv : ∀ p ∈ pend, PV P ops p
  ok : ∀ p ∈ pend, ∀ w, S w → p.ok w
  lt : ∀ p ∈ pend, p.d < n

/-- where the order that is drawn may stand, when D was taken -/
structure Inv (n : Nat) (ops : Array Oper) (D : List Nat) (σ : Slots) (pend : List Pd) (listed : Array Bool) (a : Act) : Prop where
  defers : a.defers = []
  size : a.tmps.size = n
  lsize : listed.size = ops.size
  inD : ∀ i, listed.getD i false = true → i ∈ D
  left : ∀ i ∈ D, i < ops.size → listed.getD i false = false → ∃ p ∈ pend, p.i = i
  sees : ∀ t v, lk σ t = some v → a.tmps[t]? = some v ∨ ∃ p ∈ pend, listed.getD p.i false = false ∧ p.d = t
  reads : ∀ p ∈ pend, listed.getD p.i false = false → ∀ t u, lk p.rd t = some u → a.tmps[t]? = some u ∨ ∃ q ∈ pend, listed.getD q.i false = false ∧ q.d = t ∧ q.v = u ∧ waits ops p.i q.i = true

def free (listed : Array Bool) : Nat := (listed.toList.filter (! ·)).length

/-- the goal inside a region that draws its order, when D was taken -/
def Dr (P : Program) (Q : Exit → Act → World → Prop) (n : Nat) (ops : Array Oper) (D : List Nat) (σ : Slots) (pend : List Pd) (S : World → Prop) (k : List It) : Prop :=
  Good P n ops D σ pend S → ∀ fuel listed a w, free listed ≤ fuel → Inv n ops D σ pend listed a → S w → wpAny P .any ops (kont P Q k) fuel listed a w

/-- every operation waits for earlier ones alone -/
def fwd (ops : Array Oper) : Bool := (List.range ops.size).all fun i => match ops[i]? with
  | some o => o.after.toList.all fun e => !Region.binds .any e || Nat.blt e.on i
  | none => true

theorem free_le_size (listed : Array Bool) : free listed ≤ listed.size := by
  unfold free; exact Nat.le_trans (List.length_filter_le ..) (by simp)

theorem free_set {listed : Array Bool} {i : Nat} (h : listed.getD i true = false) : free (listed.setIfInBounds i true) + 1 = free listed := by
  have hi : i < listed.size := by
    rcases Nat.lt_or_ge i listed.size with h' | h'
    · exact h'
    · simp [Array.getD, Nat.not_lt.2 h'] at h
  have hv : listed[i] = false := by simpa [Array.getD, hi] using h
  unfold free
  have key : ∀ (l : List Bool) (i : Nat), l[i]? = some false → ((l.set i true).filter (! ·)).length + 1 = (l.filter (! ·)).length := by
    intro l
    induction l with
    | nil => intro i h; simp at h
    | cons b r ih =>
      intro i h
      cases i with
      | zero => simp at h; subst h; simp
      | succ i =>
        simp at h
        have := ih i h
        cases b <;> simp_all
  have := key listed.toList i (by simp [hi, hv])
  simpa using this

theorem not_ready_nil {listed : Array Bool} (hf : fwd ops = true) (hl : listed.size = ops.size) (hr : Region.ready .any ops listed = []) : ∀ i, i < ops.size → listed.getD i false = true := by
  intro i
  induction i using Nat.strongRecOn with
  | _ i ih =>
    intro hi
    cases hb : listed.getD i false with
    | true => rfl
    | false =>
      have hmem : i ∈ Region.ready .any ops listed := by
        rw [mem_ready]
        refine ⟨?_, ops[i], by simp [hi], fun e he hbn => ?_⟩
        · have hi' : i < listed.size := by omega
          simpa [Array.getD, hi'] using hb
        · have hall := List.all_eq_true.1 hf i (List.mem_range.2 hi)
          simp only [hi, getElem?_pos] at hall
          have h2 := List.all_eq_true.1 hall e (Array.mem_toList_iff.2 he)
          simp only [hbn, Bool.not_true, Bool.false_or] at h2
          have hlt : e.on < i := by have := Nat.le_of_ble_eq_true h2; omega
          exact ih e.on hlt (by omega)
      rw [hr] at hmem; cases hmem

theorem waits_ready {listed : Array Bool} {i j : Nat} (hr : j ∈ Region.ready .any ops listed) (h : waits ops j i = true) : listed.getD i false = true := by
  rw [mem_ready] at hr
  obtain ⟨_, o, ho, hall⟩ := hr
  unfold waits at h
  rw [ho] at h
  obtain ⟨e, he, hb⟩ := List.any_eq_true.1 h
  simp only [Bool.and_eq_true] at hb
  rw [← Nat.eq_of_beq_eq_true hb.2]
  exact hall e (Array.mem_toList_iff.1 he) hb.1

theorem ready_free {listed : Array Bool} {i : Nat} (hr : i ∈ Region.ready .any ops listed) : listed.getD i true = false ∧ i < ops.size := by
  rw [mem_ready] at hr
  obtain ⟨h, o, ho, _⟩ := hr
  exact ⟨h, (Array.getElem?_eq_some_iff.1 ho).1⟩

theorem getD_false_of_true {listed : Array Bool} {i : Nat} (h : listed.getD i true = false) : listed.getD i false = false := by
  rcases Nat.lt_or_ge i listed.size with h' | h'
  · simpa [Array.getD, h'] using h
  · simp [Array.getD, Nat.not_lt.2 h'] at h

theorem getD_set {listed : Array Bool} {i j : Nat} (hi : i < listed.size) : (listed.setIfInBounds i true).getD j false = if i = j then true else listed.getD j false := by
  by_cases h : i = j
  · subst h; simp [Array.getD, hi]
  · rw [if_neg h]; exact getD_set_ne false h

theorem pairwise_eq {α : Type} {R : α → α → Prop} {l : List α} (h : l.Pairwise R) {x y : α} (hx : x ∈ l) (hy : y ∈ l) (hne : ¬ R x y ∧ ¬ R y x) : x = y := by
  rcases List.mem_iff_getElem.1 hx with ⟨i, hi, rfl⟩
  rcases List.mem_iff_getElem.1 hy with ⟨j, hj, rfl⟩
  rcases Nat.lt_trichotomy i j with hij | hij | hij
  · exact absurd (List.pairwise_iff_getElem.1 h i j hi hj hij) hne.1
  · subst hij; rfl
  · exact absurd (List.pairwise_iff_getElem.1 h j i hj hi hij) hne.2

theorem Good.ud (g : Good P n ops D σ pend S) {p q : Pd} (hp : p ∈ pend) (hq : q ∈ pend) (h : p.d = q.d) : p = q := pairwise_eq g.one hp hq ⟨fun r => r.1 h, fun r => r.1 h.symm⟩
theorem Good.ui (g : Good P n ops D σ pend S) {p q : Pd} (hp : p ∈ pend) (hq : q ∈ pend) (h : p.i = q.i) : p = q := pairwise_eq g.one hp hq ⟨fun r => r.2 h, fun r => r.2 h.symm⟩

theorem Inv.step (g : Good P n ops D σ pend S) {listed : Array Bool} {a : Act} (inv : Inv n ops D σ pend listed a) {p : Pd} (hp : p ∈ pend) (hr : p.i ∈ Region.ready .any ops listed) :
    Inv n ops D σ pend (listed.setIfInBounds p.i true) (a.put (some p.d) p.v) := by
  obtain ⟨hfree, hlt⟩ := ready_free hr
  have hl : p.i < listed.size := by rw [inv.lsize]; exact hlt
  have hpd : p.d < a.tmps.size := by rw [inv.size]; exact g.lt p hp
  have hput : ∀ t, (a.put (some p.d) p.v).tmps[t]? = if p.d = t then some p.v else a.tmps[t]? := by
    intro t
    simp only [Act.put, Array.getElem?_setIfInBounds]
    by_cases ht : p.d = t
    · subst ht; simp [hpd]
    · simp [ht]
  have hset : ∀ j, (listed.setIfInBounds p.i true).getD j false = false → listed.getD j false = false ∧ p.i ≠ j := by
    intro j hj
    rw [getD_set hl] at hj
    split at hj
    · cases hj
    · rename_i hne; exact ⟨hj, hne⟩
  have hkeep : ∀ q ∈ pend, q ≠ p → listed.getD q.i false = false → (listed.setIfInBounds p.i true).getD q.i false = false := by
    intro q hq hne hql
    rw [getD_set hl, if_neg (fun e => hne (g.ui hp hq e).symm)]; exact hql
  refine ⟨inv.defers, by simp [Act.put, inv.size], by simp [inv.lsize], ?_, ?_, ?_, ?_⟩
  · intro j hj
    rw [getD_set hl] at hj
    split at hj
    · rename_i e; subst e; exact g.inD p hp
    · exact inv.inD j hj
  · intro j hj hjs hjl
    exact inv.left j hj hjs (hset j hjl).1
  · intro t v hv
    rw [hput]
    by_cases ht : p.d = t
    · subst ht
      simp only [if_true]
      left
      rw [← hv, g.val p hp]
    · simp only [ht, if_false]
      rcases inv.sees t v hv with h1 | ⟨q, hq, hql, hqd⟩
      · exact .inl h1
      · exact .inr ⟨q, hq, hkeep q hq (fun e => ht (e ▸ hqd)) hql, hqd⟩
  · intro q hq hql t u hu
    obtain ⟨hql0, hqi⟩ := hset q.i hql
    rw [hput]
    by_cases ht : p.d = t
    · subst ht
      simp only [if_true]
      rcases g.rw q hq p hp u hu with ⟨_, he⟩ | hw
      · exact .inl (by rw [he])
      · have := waits_ready hr hw; rw [hql0] at this; cases this
    · simp only [ht, if_false]
      rcases inv.reads q hq hql0 t u hu with h1 | ⟨r, hr', hrl, hrd, hrv, hrw⟩
      · exact .inl h1
      · exact .inr ⟨r, hr', hkeep r hr' (fun e => ht (e ▸ hrd)) hrl, hrd, hrv, hrw⟩

theorem free_zero {listed : Array Bool} (h : free listed = 0) {i : Nat} (hi : i < listed.size) : listed.getD i false = true := by
  cases hb : listed.getD i false with
  | true => rfl
  | false =>
    have hb' : listed[i] = false := by simpa [Array.getD, hi] using hb
    have hm : false ∈ listed.toList.filter (! ·) := List.mem_filter.2 ⟨by rw [← hb']; simp, rfl⟩
    have : 0 < free listed := List.length_pos_of_mem hm
    omega

theorem Inv.all {listed : Array Bool} {a : Act} (g : Good P n ops D σ pend S) (inv : Inv n ops D σ pend listed a) (h : ∀ i, i < ops.size → listed.getD i false = true) : Sees ⟨n, []⟩ σ a :=
  ⟨inv.defers, inv.size, fun t v hv => by
    rcases inv.sees t v hv with h1 | ⟨p, hp, hpl, _⟩
    · exact h1
    · rw [h p.i (g.size p hp)] at hpl; cases hpl⟩

theorem Dr.core (hf : fwd ops = true)
    (hend : Good P n ops D σ pend S → ∀ listed a w, Inv n ops D σ pend listed a → S w → (∀ i, i < ops.size → listed.getD i false = true) → kont P Q k .normal a w)
    (hnext : Good P n ops D σ pend S → ∀ fuel listed a w i, Inv n ops D σ pend listed a → S w → i ∈ Region.ready .any ops listed → i ∉ D → free (listed.setIfInBounds i true) ≤ fuel →
      wpOp P ops (kont P Q k) i (wpAny P .any ops (kont P Q k) fuel (listed.setIfInBounds i true)) a w) : Dr P Q n ops D σ pend S k := by
  intro g fuel
  induction fuel with
  | zero =>
    intro listed a w hfree inv hw
    have hall : ∀ i, i < ops.size → listed.getD i false = true := fun i hi => free_zero (by omega) (by rw [inv.lsize]; exact hi)
    refine ⟨?_, hend g listed a w inv hw hall⟩
    cases hr : Region.ready .any ops listed with
    | nil => rfl
    | cons i r =>
      have hm : i ∈ Region.ready .any ops listed := by rw [hr]; simp
      have := ready_free hm
      have h2 := hall i this.2
      rw [getD_false_of_true this.1] at h2; cases h2
  | succ fuel ih =>
    intro listed a w hfree inv hw
    refine ⟨fun hr => hend g listed a w inv hw (not_ready_nil hf inv.lsize hr), fun i hi => ?_⟩
    have hfi := ready_free hi
    have hfs := free_set hfi.1
    by_cases hD : i ∈ D
    · obtain ⟨p, hp, rfl⟩ := inv.left i hD hfi.2 (getD_false_of_true hfi.1)
      refine g.pv p hp _ _ a w inv.defers (fun t u hu => ?_) (g.ok p hp w hw) (ih _ _ w (by omega) (inv.step g hp hi) hw)
      rcases inv.reads p hp (getD_false_of_true hfi.1) t u hu with h1 | ⟨q, _, hql, _, _, hqw⟩
      · exact h1
      · have := waits_ready hi hqw; rw [hql] at this; cases this
    · exact hnext g fuel listed a w i inv hw hi hD (by omega)

/-- when everything that was taken is all that there is -/
theorem Dr.done (hf : fwd ops = true) (hD : ((List.range ops.size).all fun i => mem D i) = true) (h : At P Q ⟨n, []⟩ σ S k) : Dr P Q n ops D σ pend S k :=
  Dr.core hf (fun g _ a w inv hw hall => h a w (inv.all g hall) hw) (fun _ _ _ _ _ i _ _ hi hiD _ =>
    absurd (mem_iff.1 (List.all_eq_true.1 hD i (List.mem_range.2 (ready_free hi).2))) hiD)

/-- does no other operation come up before e? -/
def onlyNext (ops : Array Oper) (D : List Nat) (e : Nat) : Bool := (List.range ops.size).all fun i => Nat.beq i e || mem D i || (match ops[i]? with
  | some o => o.after.toList.any fun x => Region.binds .any x && !mem D x.on
  | none => false)

theorem onlyNext_spec {e i : Nat} {listed : Array Bool} {a : Act} (h : onlyNext ops D e = true) (inv : Inv n ops D σ pend listed a) (hi : i ∈ Region.ready .any ops listed) (hD : i ∉ D) : i = e := by
  have hlt := (ready_free hi).2
  have h1 := List.all_eq_true.1 h i (List.mem_range.2 hlt)
  simp only [Bool.or_eq_true] at h1
  rcases h1 with (h2 | h2) | h2
  · exact Nat.eq_of_beq_eq_true h2
  · exact absurd (mem_iff.1 h2) hD
  · exfalso
    simp only [hlt, getElem?_pos] at h2
    obtain ⟨x, hx, hb⟩ := List.any_eq_true.1 h2
    simp only [Bool.and_eq_true, Bool.not_eq_true'] at hb
    rw [mem_ready] at hi
    obtain ⟨_, o, ho, hall⟩ := hi
    have : o = ops[i] := by simpa [hlt] using ho.symm
    subst this
    have hl := inv.inD x.on (hall x (Array.mem_toList_iff.1 hx) hb.1)
    rw [mem_iff.2 hl] at hb
    exact absurd hb.2 (by simp)

/-- the slots that an operation reads, as they are known -/
abbrev rds (ops : Array Oper) (σ : Slots) (o : Oper) : Slots := keep (slotsOf ops o) σ

/-- what may still be carried out behind e -/
def later (ops : Array Oper) (e : Nat) (pend : List Pd) : List Pd := pend.filter fun p => !waits ops e p.i

/-- may e be carried out with these left? -/
def fits (ops : Array Oper) (e : Nat) (rd : List Nat) (d : Option Nat) (pend : List Pd) : Bool :=
  pend.all fun p => (!mem rd p.d || waits ops e p.i) && (waits ops e p.i || (match d with
    | some d => !Nat.beq d p.d && (match lk p.rd d with | some _ => false | none => true)
    | none => true))

theorem keep_dom : ∀ (l : List Nat) (σ : Slots) (t : Nat) (v : Value), lk (keep l σ) t = some v → t ∈ l
  | [], σ, t, v, h => by simp [keep, lk] at h
  | s :: r, σ, t, v, h => by
    simp only [keep] at h
    split at h
    · rw [lk_cons] at h
      split at h
      · rename_i e; subst e; simp
      · exact List.mem_cons_of_mem _ (keep_dom r σ t v h)
    · exact List.mem_cons_of_mem _ (keep_dom r σ t v h)

/-- what was taken still stands behind -/
def AllOk (R : Value → World → Prop) : List Pd → Prop
  | [] => True
  | p :: r => (∀ v w, R v w → p.ok w) ∧ AllOk R r
theorem AllOk.at' {R : Value → World → Prop} : ∀ {l : List Pd}, AllOk R l → ∀ p ∈ l, ∀ v w, R v w → p.ok w
  | _ :: _, h, p, hp => by
    rcases List.mem_cons.1 hp with rfl | hp
    · exact h.1
    · exact h.2.at' p hp
theorem AllOk.nil {R : Value → World → Prop} : AllOk R [] := trivial
theorem AllOk.triv {R : Value → World → Prop} {i d : Nat} {v : Value} {rd : Slots} {r : List Pd} (h : AllOk R r) : AllOk R (⟨i, d, v, rd, fun _ => True⟩ :: r) := ⟨fun _ _ _ => trivial, h⟩
theorem AllOk.cons {R : Value → World → Prop} {p : Pd} {r : List Pd} (h1 : ∀ v w, R v w → p.ok w) (h : AllOk R r) : AllOk R (p :: r) := ⟨h1, h⟩

/-- an operation that must come next -/
theorem Dr.nextA {e : Nat} {o : Oper} {R : Value → World → Prop} (ho : ops[e]? = some o) (hf : fwd ops = true) (heD : mem D e = false) (honly : onlyNext ops D e = true)
    (hfit : fits ops e (slotsOf ops o) o.dst pend = true) (hlt : (match o.dst with | some d => Nat.blt d n | none => true) = true)
    (hg : Wants (rds ops σ o) ops o.guard = true) (he : Eff P (rds ops σ o) S o R)
    (hok : ∀ p ∈ later ops e pend, ∀ v w, R v w → p.ok w)
    (h : ∀ v, Dr P Q n ops (e :: D) (match o.dst with | some d => (d, v) :: σ | none => σ) (later ops e pend) (R v) k) : Dr P Q n ops D σ pend S k := by
  have hes : e < ops.size := (Array.getElem?_eq_some_iff.1 ho).1
  have heD' : e ∉ D := fun hm => by rw [mem_iff.2 hm] at heD; cases heD
  have hfp : ∀ p ∈ pend, waits ops e p.i = false → (∀ t ∈ slotsOf ops o, t ≠ p.d) ∧ (∀ d, o.dst = some d → d ≠ p.d ∧ lk p.rd d = none) := by
    intro p hp hwt
    have := List.all_eq_true.1 hfit p hp
    simp only [hwt, Bool.or_false, Bool.false_or, Bool.and_eq_true, Bool.not_eq_true'] at this
    refine ⟨fun t ht e' => ?_, fun d hd => ?_⟩
    · subst e'
      rw [mem_iff.2 ht] at this
      exact absurd this.1 (by simp)
    · have h2 := this.2
      rw [hd] at h2
      simp only [Bool.and_eq_true, Bool.not_eq_true'] at h2
      refine ⟨fun e' => ?_, ?_⟩
      · subst e'; simp at h2
      · cases hl : lk p.rd d with
        | none => rfl
        | some u => rw [hl] at h2; exact absurd h2.2 (by simp)
  refine Dr.core hf (fun g listed a w inv hw hall => absurd (inv.inD e (hall e hes)) heD') ?_
  intro g fuel listed a w i inv hw hi hiD hfree
  obtain rfl := onlyNext_spec honly inv hi hiD
  have hsees : ∀ t u, lk (rds ops σ o) t = some u → a.tmps[t]? = some u := by
    intro t u hu
    have hσ := (keep_sub (slotsOf ops o) σ).at' t u hu
    rcases inv.sees t u hσ with h1 | ⟨p, hp, hpl, hpd⟩
    · exact h1
    · exfalso
      cases hwt : waits ops i p.i with
      | true => have := waits_ready hi hwt; rw [hpl] at this; cases this
      | false => exact (hfp p hp hwt).1 t (keep_dom _ _ _ _ hu) hpd.symm
  have hS : Sees ⟨n, []⟩ (rds ops σ o) a := ⟨inv.defers, inv.size, hsees⟩
  have hl : i < listed.size := by rw [inv.lsize]; exact hes
  unfold wpOp
  rw [ho]
  simp only
  rw [if_pos (Wants.wanted hS hg)]
  left
  refine (he a.eval w hS.fit hw).upon fun v w' hr => ?_
  have hunl : ∀ p ∈ pend, listed.getD p.i false = false → waits ops i p.i = false := by
    intro p hp hpl
    cases hwt : waits ops i p.i with
    | false => rfl
    | true => have := waits_ready hi hwt; rw [hpl] at this; cases this
  have hpi : ∀ p ∈ pend, p.i ≠ i := fun p hp e => hiD (e ▸ g.inD p hp)
  have hset : ∀ j, (listed.setIfInBounds i true).getD j false = false → listed.getD j false = false ∧ i ≠ j := by
    intro j hj
    rw [getD_set hl] at hj
    split at hj
    · cases hj
    · rename_i hne; exact ⟨hj, hne⟩
  have hkeep : ∀ q ∈ pend, listed.getD q.i false = false → q ∈ later ops i pend ∧ (listed.setIfInBounds i true).getD q.i false = false := by
    intro q hq hql
    refine ⟨List.mem_filter.2 ⟨hq, by rw [hunl q hq hql]; rfl⟩, ?_⟩
    rw [getD_set hl, if_neg (hpi q hq).symm]; exact hql
  have hlat : ∀ p, p ∈ later ops i pend → p ∈ pend ∧ waits ops i p.i = false := by
    intro p hp
    have := List.mem_filter.1 hp
    exact ⟨this.1, by simpa using this.2⟩
  have hput : ∀ t, (a.put o.dst v).tmps[t]? = if o.dst = some t then some v else a.tmps[t]? := by
    intro t
    cases hd : o.dst with
    | none => simp [Act.put]
    | some d =>
      rw [hd] at hlt
      have hlt' : Nat.blt d n = true := hlt
      have hdlt : d < a.tmps.size := by rw [inv.size]; exact Nat.le_of_ble_eq_true hlt'
      simp only [Act.put, Array.getElem?_setIfInBounds, Option.some.injEq]
      by_cases ht : d = t
      · subst ht; simp [hdlt]
      · simp [ht]
  have hσ' : ∀ t u, lk (match o.dst with | some d => (d, v) :: σ | none => σ) t = some u → (o.dst = some t ∧ u = v) ∨ (o.dst ≠ some t ∧ lk σ t = some u) := by
    intro t u hu
    cases hd : o.dst with
    | none => rw [hd] at hu; exact .inr ⟨by simp, hu⟩
    | some d =>
      rw [hd] at hu
      simp only [lk_cons] at hu
      split at hu
      · rename_i e; subst e; cases hu; exact .inl ⟨rfl, rfl⟩
      · rename_i e; exact .inr ⟨by simpa using e, hu⟩
  refine h v ?_ fuel _ _ w' hfree ?_ hr
  · refine ⟨fun p hp => List.mem_cons_of_mem _ (g.inD p (hlat p hp).1), fun p hp => g.size p (hlat p hp).1, g.one.sublist List.filter_sublist, fun p hp q hq u hu => g.rw p (hlat p hp).1 q (hlat q hq).1 u hu, ?_,
      fun p hp => g.pv p (hlat p hp).1, fun p hp w hw => hok p hp v w hw, fun p hp => g.lt p (hlat p hp).1⟩
    intro p hp
    have hpp := hlat p hp
    have hv := g.val p hpp.1
    cases hd : o.dst with
    | none => exact hv
    | some d =>
      have := ((hfp p hpp.1 hpp.2).2 d hd).1
      simp only [lk_cons, if_neg this]
      exact hv
  · refine ⟨?_, ?_, by simp [inv.lsize], ?_, ?_, ?_, ?_⟩
    · cases hd : o.dst <;> exact inv.defers
    · cases hd : o.dst <;> simp [Act.put, inv.size]
    · intro j hj
      rw [getD_set hl] at hj
      split at hj
      · rename_i e; subst e; exact List.mem_cons_self ..
      · exact List.mem_cons_of_mem _ (inv.inD j hj)
    · intro j hj hjs hjl
      obtain ⟨hj0, hji⟩ := hset j hjl
      have hjD : j ∈ D := by
        rcases List.mem_cons.1 hj with e | e
        · exact absurd e.symm hji
        · exact e
      obtain ⟨p, hp, rfl⟩ := inv.left j hjD hjs hj0
      exact ⟨p, (hkeep p hp hj0).1, rfl⟩
    · intro t u hu
      rw [hput]
      rcases hσ' t u hu with ⟨h1, h2⟩ | ⟨h1, h2⟩
      · rw [if_pos h1, h2]; exact .inl rfl
      · rw [if_neg h1]
        rcases inv.sees t u h2 with h3 | ⟨p, hp, hpl, hpd⟩
        · exact .inl h3
        · exact .inr ⟨p, (hkeep p hp hpl).1, (hkeep p hp hpl).2, hpd⟩
    · intro p hp hpl t u hu
      have hpp := hlat p hp
      obtain ⟨hpl0, _⟩ := hset p.i hpl
      rw [hput]
      have hne : o.dst ≠ some t := fun e => by
        have := ((hfp p hpp.1 hpp.2).2 t e).2
        rw [this] at hu; cases hu
      rw [if_neg hne]
      rcases inv.reads p hpp.1 hpl0 t u hu with h1 | ⟨q, hq, hql, hqd, hqv, hqw⟩
      · exact .inl h1
      · exact .inr ⟨q, (hkeep q hq hql).1, (hkeep q hq hql).2, hqd, hqv, hqw⟩

theorem Dr.next {e : Nat} {o : Oper} {d : Nat} {R : Value → World → Prop} (ho : ops[e]? = some o) (hd : o.dst = some d) (hf : fwd ops = true) (heD : mem D e = false) (honly : onlyNext ops D e = true)
    (hfit : fits ops e (slotsOf ops o) (some d) pend = true) (hlt : Nat.blt d n = true)
    (hg : Wants (rds ops σ o) ops o.guard = true) (he : Eff P (rds ops σ o) S o R)
    (hok : AllOk R (later ops e pend))
    (h : ∀ v, Dr P Q n ops (e :: D) ((d, v) :: σ) (later ops e pend) (R v) k) : Dr P Q n ops D σ pend S k :=
  Dr.nextA ho hf heD honly (by rw [hd]; exact hfit) (by rw [hd]; exact hlt) hg he hok.at' (by rw [hd]; exact h)
theorem Dr.next0 {e : Nat} {o : Oper} {R : Value → World → Prop} (ho : ops[e]? = some o) (hd : o.dst = none) (hf : fwd ops = true) (heD : mem D e = false) (honly : onlyNext ops D e = true)
    (hfit : fits ops e (slotsOf ops o) none pend = true)
    (hg : Wants (rds ops σ o) ops o.guard = true) (he : Eff P (rds ops σ o) S o R)
    (hok : AllOk R (later ops e pend))
    (h : ∀ v, Dr P Q n ops (e :: D) σ (later ops e pend) (R v) k) : Dr P Q n ops D σ pend S k :=
  Dr.nextA ho hf heD honly (by rw [hd]; exact hfit) (by rw [hd]) hg he hok.at' (by rw [hd]; exact h)

/-- may an operation be taken, these having been taken? -/
def takes (ops : Array Oper) (i : Nat) (rd : List Nat) (d : Nat) (pend : List Pd) : Bool :=
  !mem rd d && pend.all fun p => !Nat.beq p.i i && !Nat.beq p.d d && (!mem rd p.d || waits ops i p.i) && ((match lk p.rd d with | some _ => false | none => true) || waits ops i p.i)

/-- an operation is taken: it is carried out now or later -/
theorem Dr.take {i d : Nat} {o : Oper} {v : Value} (ok : World → Prop) (ho : ops[i]? = some o) (hd : o.dst = some d) (hlt : Nat.blt d n = true) (hiD : mem D i = false)
    (htk : takes ops i (slotsOf ops o) d pend = true) (hpv : PV P ops ⟨i, d, v, rds ops σ o, ok⟩) (hok : ∀ w, S w → ok w)
    (h : Dr P Q n ops (i :: D) ((d, v) :: σ) (⟨i, d, v, rds ops σ o, ok⟩ :: pend) S k) : Dr P Q n ops D σ pend S k := by
  intro g fuel listed a w hfree inv hw
  have his : i < ops.size := (Array.getElem?_eq_some_iff.1 ho).1
  have hiD' : i ∉ D := fun hm => by rw [mem_iff.2 hm] at hiD; cases hiD
  have hil : listed.getD i false = false := by
    cases hb : listed.getD i false with
    | false => rfl
    | true => exact absurd (inv.inD i hb) hiD'
  have hdn : d < n := by have := Nat.le_of_ble_eq_true hlt; omega
  have htk0 := Bool.and_eq_true _ _ ▸ htk
  have hself : d ∉ slotsOf ops o := fun hm => by have := htk0.1; rw [mem_iff.2 hm] at this; cases this
  have htk' : ∀ p ∈ pend, p.i ≠ i ∧ p.d ≠ d ∧ (p.d ∈ slotsOf ops o → waits ops i p.i = true) ∧ (∀ u, lk p.rd d = some u → waits ops i p.i = true) := by
    intro p hp
    have := List.all_eq_true.1 htk0.2 p hp
    simp only [Bool.and_eq_true, Bool.not_eq_true', Bool.or_eq_true] at this
    obtain ⟨⟨⟨h1, h2⟩, h3⟩, h4⟩ := this
    refine ⟨fun e => by subst e; simp at h1, fun e => by subst e; simp at h2, fun hm => ?_, fun u hu => ?_⟩
    · rcases h3 with h3 | h3
      · rw [mem_iff.2 hm] at h3; cases h3
      · exact h3
    · rcases h4 with h4 | h4
      · rw [hu] at h4; cases h4
      · exact h4
  refine h ⟨?_, ?_, ?_, ?_, ?_, ?_, ?_, ?_⟩ fuel listed a w hfree ⟨inv.defers, inv.size, inv.lsize, fun j hj => List.mem_cons_of_mem _ (inv.inD j hj), ?_, ?_, ?_⟩ hw
  · intro p hp
    rcases List.mem_cons.1 hp with rfl | hp
    · exact List.mem_cons_self ..
    · exact List.mem_cons_of_mem _ (g.inD p hp)
  · intro p hp
    rcases List.mem_cons.1 hp with rfl | hp
    · exact his
    · exact g.size p hp
  · exact List.pairwise_cons.2 ⟨fun q hq => ⟨(htk' q hq).2.1.symm, (htk' q hq).1.symm⟩, g.one⟩
  · intro p hp q hq u hu
    rcases List.mem_cons.1 hp with rfl | hp
    · rcases List.mem_cons.1 hq with rfl | hq
      · exact absurd (keep_dom _ _ _ _ hu) hself
      · left
        have hσ := (keep_sub (slotsOf ops o) σ).at' _ _ hu
        refine ⟨(htk' q hq).2.2.1 (keep_dom _ _ _ _ hu), ?_⟩
        have hv := g.val q hq
        rw [hv] at hσ; cases hσ; rfl
    · rcases List.mem_cons.1 hq with rfl | hq
      · right; exact (htk' p hp).2.2.2 u hu
      · exact g.rw p hp q hq u hu
  · intro p hp
    rcases List.mem_cons.1 hp with rfl | hp
    · simp [lk_cons]
    · rw [lk_cons, if_neg (htk' p hp).2.1.symm]; exact g.val p hp
  · intro p hp
    rcases List.mem_cons.1 hp with rfl | hp
    · exact hpv
    · exact g.pv p hp
  · intro p hp w hw
    rcases List.mem_cons.1 hp with rfl | hp
    · exact hok w hw
    · exact g.ok p hp w hw
  · intro p hp
    rcases List.mem_cons.1 hp with rfl | hp
    · exact hdn
    · exact g.lt p hp
  · intro j hj hjs hjl
    rcases List.mem_cons.1 hj with rfl | hj
    · exact ⟨_, List.mem_cons_self .., rfl⟩
    · obtain ⟨p, hp, e⟩ := inv.left j hj hjs hjl
      exact ⟨p, List.mem_cons_of_mem _ hp, e⟩
  · intro t u hu
    rw [lk_cons] at hu
    split at hu
    · rename_i e; exact .inr ⟨_, List.mem_cons_self .., hil, e⟩
    · rcases inv.sees t u hu with h1 | ⟨p, hp, hpl, hpd⟩
      · exact .inl h1
      · exact .inr ⟨p, List.mem_cons_of_mem _ hp, hpl, hpd⟩
  · intro p hp hpl t u hu
    rcases List.mem_cons.1 hp with rfl | hp
    · have hσ := (keep_sub (slotsOf ops o) σ).at' _ _ hu
      rcases inv.sees t u hσ with h1 | ⟨q, hq, hql, hqd⟩
      · exact .inl h1
      · refine .inr ⟨q, List.mem_cons_of_mem _ hq, hql, hqd, ?_, ?_⟩
        · have hv := g.val q hq
          rw [hqd] at hv; rw [hv] at hσ; cases hσ; rfl
        · exact (htk' q hq).2.2.1 (by rw [hqd]; exact keep_dom _ _ _ _ hu)
    · rcases inv.reads p hp hpl t u hu with h1 | ⟨q, hq, hql, hqd, hqv, hqw⟩
      · exact .inl h1
      · exact .inr ⟨q, List.mem_cons_of_mem _ hq, hql, hqd, hqv, hqw⟩

theorem PV.val {i d : Nat} {o : Oper} {v : Value} {rd : Slots} {ok : World → Prop} (ho : ops[i]? = some o) (hd : o.dst = some d) (hg : Wants rd ops o.guard = true) (hv : Val P rd ok o v) : PV P ops ⟨i, d, v, rd, ok⟩ := by
  intro K Q a w hdf hrd hok hK
  have hS : Sees ⟨a.tmps.size, []⟩ rd a := ⟨hdf, rfl, hrd⟩
  unfold wpOp
  rw [ho]
  simp only
  rw [if_pos (Wants.wanted hS hg)]
  left
  unfold Oper.wp
  rw [hv a.eval w hS.fit hok, Oper.upon_value, hd]
  exact hK

theorem PV.skip {i d : Nat} {o : Oper} {rd : Slots} {ok : World → Prop} (ho : ops[i]? = some o) (hd : o.dst = some d) (hg : Skips rd ops o.guard = true) : PV P ops ⟨i, d, undef, rd, ok⟩ := by
  intro K Q a w hdf hrd hok hK
  have hS : Sees ⟨a.tmps.size, []⟩ rd a := ⟨hdf, rfl, hrd⟩
  unfold wpOp
  rw [ho]
  simp only
  rw [if_neg (by rw [Skips.wanted hS hg]; simp), hd]
  exact hK

/-- an operation that computes -/
theorem Dr.val {o : Oper} {v : Value} (i : Nat) {d : Nat} (ho : ops[i]? = some o) (hd : o.dst = some d) (hlt : Nat.blt d n = true) (hiD : mem D i = false)
    (htk : takes ops i (slotsOf ops o) d pend = true) (hg : Wants (rds ops σ o) ops o.guard = true) (hv : Val P (rds ops σ o) (fun _ => True) o v)
    (h : Dr P Q n ops (i :: D) ((d, v) :: σ) (⟨i, d, v, rds ops σ o, fun _ => True⟩ :: pend) S k) : Dr P Q n ops D σ pend S k :=
  Dr.take _ ho hd hlt hiD htk (PV.val ho hd hg hv) (fun _ _ => trivial) h

/-- an operation that reads memory -/
theorem Dr.valS {o : Oper} {v : Value} (i : Nat) {d : Nat} (ok : World → Prop) (ho : ops[i]? = some o) (hd : o.dst = some d) (hlt : Nat.blt d n = true) (hiD : mem D i = false)
    (htk : takes ops i (slotsOf ops o) d pend = true) (hg : Wants (rds ops σ o) ops o.guard = true) (hv : Val P (rds ops σ o) ok o v) (hok : ∀ w, S w → ok w)
    (h : Dr P Q n ops (i :: D) ((d, v) :: σ) (⟨i, d, v, rds ops σ o, ok⟩ :: pend) S k) : Dr P Q n ops D σ pend S k :=
  Dr.take ok ho hd hlt hiD htk (PV.val ho hd hg hv) hok h

theorem Dr.skip {o : Oper} (i : Nat) {d : Nat} (ho : ops[i]? = some o) (hd : o.dst = some d) (hlt : Nat.blt d n = true) (hiD : mem D i = false)
    (htk : takes ops i (slotsOf ops o) d pend = true) (hg : Skips (rds ops σ o) ops o.guard = true)
    (h : Dr P Q n ops (i :: D) ((d, undef) :: σ) (⟨i, d, undef, rds ops σ o, fun _ => True⟩ :: pend) S k) : Dr P Q n ops D σ pend S k :=
  Dr.take _ ho hd hlt hiD htk (PV.skip ho hd hg) (fun _ _ => trivial) h

theorem At.drawn {id : Nat} {l : List Oper} (hm : P.follows .mixedOrders = true) (hS : ∀ w d, S w → S { w with drawn := d }) (h : Dr P Q n l.toArray [] σ [] S k) :
    At P Q ⟨n, []⟩ σ S (.code (.region id l.toArray true) :: k) := fun a w ha hw =>
  wp_region_any hm (h ⟨by simp, by simp, .nil, by simp, by simp, by simp, by simp, by simp⟩ _ _ a _ (Nat.le_trans (free_le_size _) (by simp))
    ⟨ha.defers, ha.size, by simp, fun i hi => by
      exfalso
      simp [Array.getD] at hi, by simp, fun t v hv => .inl (ha.val t v hv), by simp⟩ (hS w _ hw))

theorem Dr.imp {S' : World → Prop} (h : Dr P Q n ops D σ pend S' k) (hs : ∀ w, S w → S' w) (hb : ∀ p ∈ pend, ∀ w, S' w → p.ok w) : Dr P Q n ops D σ pend S k :=
  fun g fuel listed a w hf inv hw => h { g with ok := hb } fuel listed a w hf inv (hs w hw)
theorem Dr.pure {p : Prop} (h : p → Dr P Q n ops D σ pend S k) : Dr P Q n ops D σ pend (fun w => p ∧ S w) k := fun g fuel listed a w hf inv hw =>
  h hw.1 { g with ok := fun p' hp' w' hw' => g.ok p' hp' w' ⟨hw.1, hw'⟩ } fuel listed a w hf inv hw.2
theorem Dr.ex {α : Sort _} {S : α → World → Prop} (h : ∀ x, Dr P Q n ops D σ pend (S x) k) : Dr P Q n ops D σ pend (fun w => ∃ x, S x w) k := fun g fuel listed a w hf inv ⟨x, hw⟩ =>
  h x { g with ok := fun p hp w' hw' => g.ok p hp w' ⟨x, hw'⟩ } fuel listed a w hf inv hw
theorem Dr.respell {t : Nat} {v v' : Value} (hv : lk σ t = some v) (e : v = v') (h : Dr P Q n ops D ((t, v') :: σ) pend S k) : Dr P Q n ops D σ pend S k := by
  subst e
  have hlk : ∀ s, lk ((t, v) :: σ) s = lk σ s := fun s => by
    rw [lk_cons]; split
    · rename_i e; subst e; exact hv.symm
    · rfl
  intro g fuel listed a w hf inv hw
  exact h { g with val := fun p hp => by rw [hlk]; exact g.val p hp } fuel listed a w hf { inv with sees := fun s u hu => inv.sees s u (by rw [← hlk]; exact hu) } hw
theorem Dr.boolP {t : Nat} {p : Prop} [Decidable p] (hv : lk σ t = some (.bool (decide p))) (ht : p → Dr P Q n ops D ((t, .bool true) :: σ) pend S k) (hf : ¬ p → Dr P Q n ops D ((t, .bool false) :: σ) pend S k) : Dr P Q n ops D σ pend S k := by
  by_cases h : p
  · exact Dr.respell hv (by rw [decide_eq_true h]) (ht h)
  · exact Dr.respell hv (by rw [decide_eq_false h]) (hf h)
theorem Dr.boolN {t : Nat} {p : Prop} [Decidable p] (hv : lk σ t = some (.bool (!decide p))) (ht : ¬ p → Dr P Q n ops D ((t, .bool true) :: σ) pend S k) (hf : p → Dr P Q n ops D ((t, .bool false) :: σ) pend S k) : Dr P Q n ops D σ pend S k := by
  by_cases h : p
  · exact Dr.respell hv (by rw [decide_eq_true h]; rfl) (hf h)
  · exact Dr.respell hv (by rw [decide_eq_false h]; rfl) (ht h)
theorem Dr.boolB {t : Nat} {b : Bool} (hv : lk σ t = some (.bool b)) (ht : b = true → Dr P Q n ops D ((t, .bool true) :: σ) pend S k) (hf : b = false → Dr P Q n ops D ((t, .bool false) :: σ) pend S k) : Dr P Q n ops D σ pend S k := by
  cases b
  · exact Dr.respell hv rfl (hf rfl)
  · exact Dr.respell hv rfl (ht rfl)
end
end Go.Sy
