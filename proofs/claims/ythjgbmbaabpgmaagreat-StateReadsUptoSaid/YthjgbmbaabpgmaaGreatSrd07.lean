/-
  The walk's own logic, eighth part: interfaces, rows of structs.
-/
import Derived.Test.YthjgbmbaabpgmaaGreatSrd06
import Derived.Laws.StructEq
import Derived.MapKept
set_option linter.unusedVariables false
set_option linter.unusedSimpArgs false
set_option linter.unusedSectionVars false
namespace Go.Sy
open Go Go.RowKit

theorem flat_get {α β : Type} (f : α → List β) (m : Nat) (hf : ∀ a, (f a).length = m) : ∀ (l : List α) (i j : Nat) (_ : j < m) (a : α), l[i]? = some a → (l.flatMap f)[i * m + j]? = (f a)[j]?
  | [], i, j, _, a, h => by simp at h
  | x :: r, 0, j, hj, a, h => by
    simp at h; subst h
    simp only [Nat.zero_mul, Nat.zero_add, List.flatMap_cons]
    rw [List.getElem?_append_left (by rw [hf]; exact hj)]
  | x :: r, i + 1, j, hj, a, h => by
    have ih := flat_get f m hf r i j hj a (by simpa using h)
    simp only [List.flatMap_cons]
    rw [List.getElem?_append_right (by rw [hf, Nat.add_mul]; omega), hf, show (i + 1) * m + j - m = i * m + j from by rw [Nat.add_mul]; omega]
    exact ih

theorem flat_length {α β : Type} (f : α → List β) (m : Nat) (hf : ∀ a, (f a).length = m) (l : List α) : (l.flatMap f).length = l.length * m := by
  induction l with
  | nil => simp
  | cons x r ih => simp only [List.flatMap_cons, List.length_append, hf, ih, List.length_cons, Nat.add_mul]; omega

/-- a row of structs of m cells -/
def RowH {α : Type} (f : α → List Value) (m : Nat) (h : HV) (v : Value) (l : List α) : Prop := SlH h v m l.length (l.flatMap f)

theorem RowH.mono {α : Type} {f : α → List Value} {m : Nat} {h h' : HV} {v : Value} {l : List α} (r : RowH f m h v l) (le : HV.le h h') : RowH f m h' v l := SlH.mono r le
theorem RowH.form {α : Type} {f : α → List Value} {m : Nat} {h : HV} {v : Value} {l : List α} (r : RowH f m h v l) : ∃ a cap, v = .slice a l.length cap := SlH.form r
theorem RowH.elem {α : Type} {f : α → List Value} {m : Nat} (hf : ∀ a, (f a).length = m) {h : HV} {a : Option Addr} {cp : Nat} {l : List α} (r : RowH f m h (.slice a l.length cp) l) {i : Nat} {x : α} (hi : l[i]? = some x) :
    ∃ b o, a = some ⟨b, o, none⟩ ∧ i < l.length ∧ l.length ≤ cp ∧ ∀ j u, (f x)[j]? = some u → cellH h b (o + i * m + j) = some u := by
  have hlt : i < l.length := (List.getElem?_eq_some_iff.1 hi).1
  obtain ⟨b, o, e, hc, hx⟩ := SlH.elem r hlt
  refine ⟨b, o, e, hlt, hc, fun j u hu => ?_⟩
  have hj : j < m := by have := (List.getElem?_eq_some_iff.1 hu).1; rw [hf] at this; exact this
  obtain ⟨u', h1, h2⟩ := hx j hj
  rw [flat_get f m hf l i j hj x hi, hu] at h1
  cases h1; exact h2

section
variable {P : Program} {σ : Slots} {S : World → Prop} {ty : TypeId} {ps : String} {af : Array Edge} {g : Option (Nat × Bool)} {d : Option Nat}

/-- is a type no interface? -/
def concrete (P : Program) (T : Nat) : Bool := match P.underlying T with | some (.interface _) => false | some _ => true | none => false
/-- the zero of a type of one cell -/
def zval (P : Program) (T : Nat) : Option Value := (P.info? T).bind (·.zero)

theorem Val.makeIface {T : Nat} {x : Operand} {v : Value} (hT : concrete P T = true) (hx : ev σ x = some v) : Val P σ S ⟨d, .makeInterface T x, ty, ps, af, g⟩ (.iface T v) := fun ρ w hρ _ => by
  unfold concrete at hT
  split at hT
  · cases hT
  · rename_i du hne hu
    have : (Instr.makeInterface T v).run P w = .ok (.iface T v) w := by
      unfold Instr.makeInterface
      rw [Sem.run_bind, run_underlying hu]
      cases du <;> simp_all
    simp only [execOp, hρ x _ hx, Sem.run_bind, this, Result.andThen_ok]
    simp
  · cases hT

theorem zval_run {T : Nat} {v : Value} (h : zval P T = some v) (w : World) : (zeroValue T).run P w = .ok v w := by
  unfold zval at h
  cases hi : P.info? T with
  | none => simp [hi] at h
  | some i => simp [hi] at h; simp [zeroValue, typeInfo, hi, h]

/-- a type assertion that holds -/
theorem Val.assert_yes {T X : Nat} {x : Operand} {v : Value} (hT : concrete P T = true) (hx : ev σ x = some (.iface T v)) : Val P σ S ⟨d, .typeAssert x X T true, ty, ps, af, g⟩ (.tuple #[v, .bool true]) := fun ρ w hρ _ => by
  unfold concrete at hT
  split at hT
  · cases hT
  · rename_i du hne hu
    have : (Instr.typeAssert (.iface T v) X T true).run P w = .ok (.tuple #[v, .bool true]) w := by
      unfold Instr.typeAssert
      simp only [Sem.run_bind, run_underlying hu, Result.andThen_ok]
      cases du <;> simp_all
    simp only [execOp, hρ x _ hx, Sem.run_bind, this, Result.andThen_ok]
    simp
  · cases hT
/-- and one that does not -/
theorem Val.assert_no {T U X : Nat} {x : Operand} {v z : Value} (hT : concrete P T = true) (hz : zval P T = some z) (hx : ev σ x = some (.iface U v)) (hne : Nat.beq U T = false) : Val P σ S ⟨d, .typeAssert x X T true, ty, ps, af, g⟩ (.tuple #[z, .bool false]) := fun ρ w hρ _ => by
  have hne' : ¬ (U = T) := fun e => by subst e; simp at hne
  unfold concrete at hT
  split at hT
  · cases hT
  · rename_i du hn hu
    have : (Instr.typeAssert (.iface U v) X T true).run P w = .ok (.tuple #[z, .bool false]) w := by
      unfold Instr.typeAssert
      simp only [Sem.run_bind, run_underlying hu, Result.andThen_ok]
      cases du <;> simp_all [zval_run hz]
    simp only [execOp, hρ x _ hx, Sem.run_bind, this, Result.andThen_ok]
    simp
  · cases hT
theorem Val.assert_nil {T X : Nat} {x : Operand} {z : Value} (hT : concrete P T = true) (hz : zval P T = some z) (hx : ev σ x = some .nilIface) : Val P σ S ⟨d, .typeAssert x X T true, ty, ps, af, g⟩ (.tuple #[z, .bool false]) := fun ρ w hρ _ => by
  unfold concrete at hT
  split at hT
  · cases hT
  · rename_i du hn hu
    have : (Instr.typeAssert .nilIface X T true).run P w = .ok (.tuple #[z, .bool false]) w := by
      unfold Instr.typeAssert
      simp only [Sem.run_bind, run_underlying hu, Result.andThen_ok]
      cases du <;> simp_all [zval_run hz]
    simp only [execOp, hρ x _ hx, Sem.run_bind, this, Result.andThen_ok]
    simp
  · cases hT

/-! structs that are built -/
/-- a struct's fields' places, and its zero -/
def bld (P : Program) (T : Nat) : Option (List (Nat × Nat) × List Value) :=
  match P.underlying T with
  | some (.struct fs) => match P.info? T with
    | some it => match it.zero, fs.toList.mapM (fun f => (P.info? f.type).map fun i => (f.offset, i.size)) with
      | some z, some pl => some (pl, z.cells.toList)
      | _, _ => none
    | none => none
  | _ => none

def fillL (pl : List (Nat × Nat)) (cs : List Value) : List (Nat × Value) → Option (List Value)
  | [] => some cs
  | (i, v) :: r => match pl[i]? with
    | none => none
    | some (o, m) => bif Nat.beq v.cells.size m && Nat.ble (o + v.cells.size) cs.length then fillL pl (sets cs o v.cells.toList) r else none

def evp (σ : Slots) : List (Nat × Operand) → Option (List (Nat × Value))
  | [] => some []
  | (i, x) :: r => match ev σ x, evp σ r with
    | some v, some vs => some ((i, v) :: vs)
    | _, _ => none

theorem Fit.evp {ρ : Operand → Value} (h : Fit σ ρ) : ∀ {l : List (Nat × Operand)} {vs : List (Nat × Value)}, Sy.evp σ l = some vs → l.map (fun p => (p.1, ρ p.2)) = vs
  | [], vs, e => by simp [Sy.evp] at e; simp [e]
  | (i, x) :: r, vs, e => by
    simp only [Sy.evp] at e
    split at e
    · rename_i v us h1 h2
      cases e
      simp [h x v h1, h.evp h2]
    · cases e

theorem foldl_sets (o : Nat) : ∀ (l : List Value) (k : Nat) (cs : List Value), ((l.zipIdx k).foldl (fun (a : Array Value) (x : Value × Nat) => a.setIfInBounds (o + x.2) x.1) cs.toArray) = (sets cs (o + k) l).toArray
  | [], k, cs => rfl
  | v :: r, k, cs => by
    simp only [List.zipIdx_cons, List.foldl_cons, sets]
    have : cs.toArray.setIfInBounds (o + k) v = (cs.set (o + k) v).toArray := by simp
    rw [this, foldl_sets o r (k + 1) (cs.set (o + k) v)]
    rfl

theorem fillL_fill (pl : List (Nat × Nat)) : ∀ (l : List (Nat × Value)) (cs r : List Value), fillL pl cs l = some r → Instr.fill (pl.toArray[·]?) cs.toArray l = some r.toArray
  | [], cs, r, h => by simp [fillL] at h; simp [Instr.fill, h]
  | (i, v) :: l, cs, r, h => by
    simp only [fillL] at h
    simp only [Instr.fill]
    split at h
    · cases h
    · rename_i o m hp
      have hp' : pl.toArray[i]? = some (o, m) := by simpa using hp
      rw [hp']
      simp only
      cases hc : (Nat.beq v.cells.size m && Nat.ble (o + v.cells.size) cs.length) with
      | false => rw [hc] at h; cases h
      | true =>
        rw [hc] at h
        simp only [Bool.and_eq_true] at hc
        have h1 := Nat.eq_of_beq_eq_true hc.1
        have h2 := Nat.le_of_ble_eq_true hc.2
        rw [if_neg (by simp [h1]; omega)]
        have := foldl_sets o v.cells.toList 0 cs
        have e : v.cells.zipIdx.foldl (fun (a : Array Value) (x : Value × Nat) => a.setIfInBounds (o + x.2) x.1) cs.toArray = (sets cs o v.cells.toList).toArray := by
          rw [← Array.foldl_toList]; simpa using this
        rw [e]
        exact fillL_fill pl l _ r h

theorem Val.build {T : Nat} {pl : List (Nat × Nat)} {z : List Value} {parts : List (Nat × Operand)} {vs : List (Nat × Value)} {cs : List Value} (hb : bld P T = some (pl, z)) (hp : Sy.evp σ parts = some vs) (hf : fillL pl z vs = some cs) :
    Val P σ S ⟨d, .build T parts.toArray, ty, ps, af, g⟩ (.agg cs.toArray) := fun ρ w hρ _ => by
  have hvs : parts.map (fun p => (p.1, ρ p.2)) = vs := hρ.evp hp
  have hbuilt : P.built T vs = some cs.toArray := by
    unfold bld at hb
    split at hb
    · rename_i fs hu
      split at hb
      · rename_i it hi
        split at hb
        · rename_i z' pl' hz hpl
          cases hb
          unfold Program.built
          simp only [hi, hu, hz, hpl]
          have := fillL_fill pl vs z'.cells.toList cs hf
          simpa using this
        · cases hb
      · cases hb
    · cases hb
  have hmap : (parts.toArray.map fun x => (x.1, ρ x.2)) = vs.toArray := by rw [← hvs]; simp
  have hr := run_build (P := P) w T vs.toArray cs.toArray (by simpa using hbuilt)
  have : (execOp ρ ⟨d, .build T parts.toArray, ty, ps, af, g⟩).run P w = ((Instr.build T (parts.toArray.map fun x => (x.1, ρ x.2))) >>= fun v => Pure.pure (Next.value v) : Sem Next).run P w := rfl
  rw [this, hmap, Sem.run_bind, hr]
  rfl
end
end Go.Sy
/-
  The walk's own logic, ninth part: keys, equality of records, maps that are owned.
-/
namespace Go.Sy
open Go Go.RowKit
set_option maxRecDepth 4000

def ents {α : Type} (κ : α → Value) : Nat → List (α × Value) → List MapEntry
  | _, [] => []
  | i, (a, v) :: r => ⟨κ a, v, i⟩ :: ents κ (i + 1) r
def mget {α β : Type} [DecidableEq α] : List (α × β) → α → Option β
  | [], _ => none
  | (b, u) :: r, a => if b = a then some u else mget r a
def mset {α β : Type} [DecidableEq α] : List (α × β) → α → β → List (α × β)
  | [], a, v => [(a, v)]
  | (b, u) :: r, a, v => if b = a then (b, v) :: r else (b, u) :: mset r a v
def mfind {α β : Type} [DecidableEq α] : List (α × β) → α → Nat → Option (Nat × β)
  | [], _, _ => none
  | (b, u) :: r, a, j => if b = a then some (j, u) else mfind r a (j + 1)

theorem mget_mset {α β : Type} [DecidableEq α] (m : List (α × β)) (a b : α) (v : β) : mget (mset m a v) b = if a = b then some v else mget m b := by
  induction m with
  | nil => simp [mset, mget]
  | cons p r ih =>
    obtain ⟨c, u⟩ := p
    simp only [mset]
    split
    · rename_i h; subst h
      simp only [mget]
      split <;> rfl
    · rename_i h
      simp only [mget, ih]
      split
      · rename_i h2; subst h2; simp [Ne.symm h]
      · rfl

structure KeyT (P : Program) (kt : TypeId) {α : Type} [DecidableEq α] (κ : α → Value) (K : α → Prop) : Prop where
  check : ∀ (w : World) (em : Bool) a, K a → (Instr.checkKey em 10000 kt (κ a)).run P w = .ok () w
  find : ∀ (w : World) a (m : List (α × Value)) (i : Nat), K a → (∀ p ∈ m, K p.1) → (Instr.findKey kt (κ a) (ents κ i m)).run P w = .ok (mfind m a 0) w
  stays : ∀ a, K a → Instr.sameBits 10000 (κ a) (κ a) = true

section
variable {P : Program} {α : Type} [DecidableEq α] {κ : α → Value} {K : α → Prop} {kt : TypeId}

theorem KeyT.ofNow {d : TypeDesc} (hd : P.underlying kt = some d) (hc : ∀ (w : World) (em : Bool) a, K a → (Instr.checkKey em 10000 kt (κ a)).run P w = .ok () w)
    (hn : ∀ a b, K a → K b → Instr.sameNow d (κ a) (κ b) = some (decide (b = a))) (hs : ∀ a, K a → Instr.sameBits 10000 (κ a) (κ a) = true) : KeyT P kt κ K where
  check := hc
  stays := hs
  find := fun w a m i ha hm => by
    have : ∀ (m : List (α × Value)) (i j : Nat), (∀ p ∈ m, K p.1) → Instr.findNow d (κ a) (ents κ i m) j = some (mfind m a j) := by
      intro m
      induction m with
      | nil => intro i j _; rfl
      | cons p r ih =>
        intro i j hm
        obtain ⟨b, u⟩ := p
        have hb := hn a b ha (hm (b, u) (by simp))
        simp only [ents, Instr.findNow, mfind]
        rw [hb]
        by_cases h : b = a
        · rw [decide_eq_true h, if_pos h]
        · rw [decide_eq_false h, if_neg h]
          exact ih _ _ (fun p hp => hm p (by simp [hp]))
    simp only [Instr.findKey, Sem.run_bind, run_underlying hd, Result.andThen]
    rw [this m i 0 hm]; simp

theorem KeyT.ofAsking {d : TypeDesc} (hd : P.underlying kt = some d) (hc : ∀ (w : World) (em : Bool) a, K a → (Instr.checkKey em 10000 kt (κ a)).run P w = .ok () w)
    (hn : ∀ a b, K a → K b → Instr.sameNow d (κ a) (κ b) = none) (he : ∀ (w : World) a b, K a → K b → (Op.equal kt (κ a) (κ b)).run P w = .ok (decide (b = a)) w) (hs : ∀ a, K a → Instr.sameBits 10000 (κ a) (κ a) = true) : KeyT P kt κ K where
  check := hc
  stays := hs
  find := fun w a m i ha hm => by
    have : ∀ (m : List (α × Value)) (i j : Nat), (∀ p ∈ m, K p.1) → (Instr.findAsking kt (κ a) (ents κ i m) j).run P w = .ok (mfind m a j) w := by
      intro m
      induction m with
      | nil => intro i j _; simp [ents, Instr.findAsking, mfind]
      | cons p r ih =>
        intro i j hm
        obtain ⟨b, u⟩ := p
        have hb := he w a b ha (hm (b, u) (by simp))
        simp only [ents, Instr.findAsking, mfind, Sem.run_bind]
        rw [hb]
        by_cases h : b = a
        · rw [decide_eq_true h, if_pos h]; simp [Result.andThen]
        · rw [decide_eq_false h, if_neg h]; simp only [Result.andThen]
          exact ih _ _ (fun p hp => hm p (by simp [hp]))
    cases m with
    | nil =>
      simp only [Instr.findKey, Sem.run_bind, run_underlying hd, Result.andThen, ents]
      rfl
    | cons p r =>
      have hnow : Instr.findNow d (κ a) (ents κ i (p :: r)) 0 = none := by
        obtain ⟨b, u⟩ := p
        have hb := hn a b ha (hm (b, u) (by simp))
        simp only [ents, Instr.findNow]
        rw [hb]
      simp only [Instr.findKey, Sem.run_bind, run_underlying hd, Result.andThen]
      rw [hnow]
      exact this _ _ _ hm

theorem KeyT.int {k : IntKind} (hd : P.underlying kt = some (.int k)) : KeyT P kt (fun i : Int => Value.int k i) (fun _ => True) :=
  KeyT.ofNow hd (fun w em a _ => MapKept.run_checkKey hd (by simp [MapKept.IsKey]) em 9999)
    (fun a b _ _ => by
      rw [Instr.sameNow, if_pos rfl]
      by_cases h : a = b
      · subst h; simp
      · rw [decide_eq_false (Ne.symm h)]; simpa using h) (fun a _ => by simp [Instr.sameBits])

theorem part_cell {t : TypeId} {xs : Array Value} {o m : Nat} {v : Value} (ht : lay P t = some (false, m)) (hx : xs[o]? = some v) (w : World) : (part t xs o).run P w = .ok v w := by
  simp [part, lay_isAgg ht, hx]
theorem part_agg {t : TypeId} {xs : Array Value} {o m : Nat} {ys : Array Value} (ht : lay P t = some (true, m)) (hx : xs.extract o (o + m) = ys) (w : World) : (part t xs o).run P w = .ok (.agg ys) w := by
  simp [part, lay_isAgg ht, lay_sizeOf ht, hx]

theorem eqF_nil {n : Nat} {xs ys : Array Value} {w : World} : (Op.eqFields n xs ys []).run P w = .ok true w := by simp [Op.eqFields]
theorem eqF_cons {n : Nat} {f : Field} {fs : List Field} {xs ys : Array Value} {x y : Value} {b b' : Bool} {w : World} (hn : f.name ≠ "_") (hx : (part f.type xs f.offset).run P w = .ok x w) (hy : (part f.type ys f.offset).run P w = .ok y w)
    (h1 : (Op.equalIn n f.type x y).run P w = .ok b w) (h2 : (Op.eqFields n xs ys fs).run P w = .ok b' w) : (Op.eqFields n xs ys (f :: fs)).run P w = .ok (b && b') w := by
  simp only [Op.eqFields, Sem.run_ite, Sem.run_bind]
  rw [if_pos hn, hx]
  simp only [Result.andThen]
  rw [hy]
  simp only [Result.andThen]
  rw [h1]
  cases b
  · simp
  · simp [h2]
theorem eq_struct {T n : Nat} {xs ys : Array Value} {b : Bool} {w : World} (hT : P.underlying T = some (.struct (P.fieldsOf T))) (hst : P.stoodInHeld T = false) (h : (Op.eqFields n xs ys (P.fieldsOf T).toList).run P w = .ok b w) :
    (Op.equalIn (n + 1) T (.agg xs) (.agg ys)).run P w = .ok b w := by rw [run_equalIn_struct w n T xs ys hT hst]; exact h

theorem check_fields {em : Bool} {n : Nat} {xs : Array Value} {w : World} : ∀ (fs : List Field), (∀ f ∈ fs, ∃ v, (part f.type xs f.offset).run P w = .ok v w ∧ (Instr.checkKey em n f.type v).run P w = .ok () w) →
    (forIn (m := Sem) fs PUnit.unit fun (f : Field) (_ : PUnit) => (if f.name ≠ "_" then do let a ← part f.type xs f.offset; Instr.checkKey em n f.type a; pure (ForInStep.yield PUnit.unit) else pure (ForInStep.yield PUnit.unit))).run P w = .ok PUnit.unit w
  | [], _ => by simp
  | f :: fs, h => by
    obtain ⟨v, h1, h2⟩ := h f (by simp)
    have ih := check_fields fs (fun g hg => h g (by simp [hg]))
    simp only [List.forIn_cons, Sem.run_bind, Sem.run_ite]
    by_cases hn : f.name ≠ "_"
    · rw [if_pos hn, h1]
      simp only [Result.andThen]
      rw [h2]
      simpa using ih
    · rw [if_neg hn]
      simpa using ih
theorem check_struct {T n : Nat} {em : Bool} {fs : Array Field} {xs : Array Value} {w : World} (hT : P.underlying T = some (.struct fs))
    (h : ∀ f ∈ fs.toList, ∃ v, (part f.type xs f.offset).run P w = .ok v w ∧ (Instr.checkKey em n f.type v).run P w = .ok () w) : (Instr.checkKey em (n + 1) T (.agg xs)).run P w = .ok () w := by
  have h2 := check_fields (em := em) (n := n) (xs := xs) (w := w) fs.toList h
  unfold Instr.checkKey
  simp only [Sem.run_bind, run_underlying hT, Result.andThen]
  rw [← Array.forIn_toList]
  have h3 : ∀ (p q : Sem PUnit), p = q → p.run P w = .ok PUnit.unit w → q.run P w = .ok PUnit.unit w := fun p q e hp => e ▸ hp
  rw [h3 _ _ ?_ h2]
  · simp
  · congr 1
end

/-- a record type: its fields' types and places; nothing bars comparing it -/
def recT (P : Program) (T : TypeId) (ts : List (Nat × Nat)) : Bool :=
  (match P.underlying T with
    | some (.struct fs) => (fs.toList.map fun f => (f.type, f.offset)) == ts && fs.toList.all fun f => !(f.name == "_")
    | _ => false) && !P.stoodInHeld T && !P.eqGuardType P.depth T

section
variable {P : Program} {T : TypeId} {ts : List (Nat × Nat)} {n : Nat} {xs ys : Array Value} {w : World} {b : Bool}
/-- the fields compare so -/
def EqTs (P : Program) (n : Nat) (xs ys : Array Value) (w : World) : List (Nat × Nat) → Bool → Prop
  | [], b => b = true
  | (t, o) :: r, b => ∃ x y b1 b2, (part t xs o).run P w = .ok x w ∧ (part t ys o).run P w = .ok y w ∧ (Op.equalIn n t x y).run P w = .ok b1 w ∧ EqTs P n xs ys w r b2 ∧ b = (b1 && b2)

theorem recT_struct (h : recT P T ts = true) : ∃ fs, P.underlying T = some (.struct fs) ∧ (fs.toList.map fun f => (f.type, f.offset)) = ts ∧ (∀ f ∈ fs.toList, f.name ≠ "_") ∧ P.stoodInHeld T = false ∧ P.eqGuardType P.depth T = false := by
  unfold recT at h
  simp only [Bool.and_eq_true, Bool.not_eq_true'] at h
  obtain ⟨⟨h1, h2⟩, h3⟩ := h
  split at h1
  · rename_i fs hu
    simp only [Bool.and_eq_true, beq_iff_eq] at h1
    exact ⟨fs, hu, h1.1, fun f hf => by simpa using List.all_eq_true.1 h1.2 f hf, h2, h3⟩
  · cases h1

theorem eqFields_ts : ∀ (fs : List Field) (ts : List (Nat × Nat)) (b : Bool), (fs.map fun f => (f.type, f.offset)) = ts → (∀ f ∈ fs, f.name ≠ "_") → EqTs P n xs ys w ts b → (Op.eqFields n xs ys fs).run P w = .ok b w
  | [], ts, b, he, _, h => by
    subst he
    cases (show b = true from h)
    exact eqF_nil
  | f :: fs, ts, b, he, hn, h => by
    subst he
    obtain ⟨x, y, b1, b2, h1, h2, h3, h4, rfl⟩ := h
    exact eqF_cons (hn f (by simp)) h1 h2 h3 (eqFields_ts fs _ b2 rfl (fun g hg => hn g (by simp [hg])) h4)

theorem rec_eq (h : recT P T ts = true) (he : EqTs P n xs ys w ts b) : (Op.equalIn (n + 1) T (.agg xs) (.agg ys)).run P w = .ok b w := by
  obtain ⟨fs, hu, hf, hn, hs, _⟩ := recT_struct h
  have e : P.fieldsOf T = fs := by simp [Program.fieldsOf, hu]
  exact eq_struct (by rw [e]; exact hu) hs (by rw [e]; exact eqFields_ts _ ts b hf hn he)

theorem rec_check {em : Bool} (h : recT P T ts = true) (hc : ∀ q ∈ ts, ∃ v, (part q.1 xs q.2).run P w = .ok v w ∧ (Instr.checkKey em n q.1 v).run P w = .ok () w) : (Instr.checkKey em (n + 1) T (.agg xs)).run P w = .ok () w := by
  obtain ⟨fs, hu, hf, hn, _, _⟩ := recT_struct h
  subst hf
  exact check_struct hu fun f hf => hc (f.type, f.offset) (List.mem_map_of_mem hf)
theorem rec_now {d : TypeDesc} (h : recT P T ts = true) (hd : P.underlying T = some d) : Instr.sameNow d (.agg xs) (.agg ys) = none := by
  obtain ⟨fs, hu, _⟩ := recT_struct h
  rw [hu] at hd; cases hd; rfl
theorem rec_guard (h : recT P T ts = true) : P.eqGuardType P.depth T = false := (recT_struct h).choose_spec.2.2.2.2
end

/-! ## Maps that are owned -/
/-- a map that is owned; entries are never taken out -/
abbrev mapI {α : Type} (κ : α → Value) (b : Nat) (m : List (α × Value)) : Itm := blk b (.map (ents κ 0 m).toArray m.length)

theorem ents_length {α : Type} (κ : α → Value) : ∀ (m : List (α × Value)) (i : Nat), (ents κ i m).length = m.length
  | [], _ => rfl
  | _ :: r, i => by simp [ents, ents_length κ r (i + 1)]
theorem ents_get {α : Type} {κ : α → Value} : ∀ {m : List (α × Value)} {i j : Nat} {a : α} {v : Value}, m[j]? = some (a, v) → (ents κ i m)[j]? = some ⟨κ a, v, i + j⟩
  | _ :: _, i, 0, a, v, h => by simp at h; subst h; simp [ents]
  | (_, _) :: r, i, j + 1, a, v, h => by
    have := ents_get (κ := κ) (i := i + 1) (j := j) (m := r) (by simpa using h)
    simp [ents, this]; omega
theorem ents_app {α : Type} (κ : α → Value) : ∀ (m : List (α × Value)) (i : Nat) (a : α) (v : Value), ents κ i (m ++ [(a, v)]) = ents κ i m ++ [⟨κ a, v, i + m.length⟩]
  | [], i, a, v => by simp [ents]
  | (_, _) :: r, i, a, v => by simp [ents, ents_app κ r (i + 1)]; omega
theorem ents_set {α : Type} (κ : α → Value) : ∀ (m : List (α × Value)) (i j : Nat) (a : α) (v : Value), ents κ i (m.set j (a, v)) = (ents κ i m).set j ⟨κ a, v, i + j⟩
  | [], i, j, a, v => by simp [ents]
  | (_, _) :: r, i, 0, a, v => by simp [ents]
  | (_, _) :: r, i, j + 1, a, v => by
    simp only [List.set_cons_succ, ents, ents_set κ r (i + 1)]
    rw [show i + 1 + j = i + (j + 1) by omega]
section
variable {α β : Type} [DecidableEq α]
theorem mfind_add (m : List (α × β)) (a : α) (j : Nat) : mfind m a j = (mfind m a 0).map fun p => (p.1 + j, p.2) := by
  induction m generalizing j with
  | nil => rfl
  | cons p r ih =>
    obtain ⟨b, u⟩ := p
    simp only [mfind]
    split
    · simp
    · rw [ih (j + 1), ih 1]
      cases mfind r a 0 <;> simp; omega
theorem mfind_none {m : List (α × β)} {a : α} (h : mfind m a 0 = none) (v : β) : mset m a v = m ++ [(a, v)] ∧ mget m a = none := by
  induction m with
  | nil => exact ⟨rfl, rfl⟩
  | cons p r ih =>
    obtain ⟨b, u⟩ := p
    simp only [mfind] at h
    split at h
    · cases h
    · rename_i hne
      rw [mfind_add] at h
      have := ih (by simpa using h)
      simp [mset, mget, hne, this]
theorem mfind_some {m : List (α × β)} {a : α} {j : Nat} {u : β} (h : mfind m a 0 = some (j, u)) (v : β) : mset m a v = m.set j (a, v) ∧ mget m a = some u ∧ m[j]? = some (a, u) := by
  induction m generalizing j with
  | nil => simp [mfind] at h
  | cons p r ih =>
    obtain ⟨b, u'⟩ := p
    simp only [mfind] at h
    split at h
    · rename_i he; subst he
      simp at h; obtain ⟨rfl, rfl⟩ := h
      simp [mset, mget]
    · rename_i hne
      rw [mfind_add] at h
      cases hr : mfind r a 0 with
      | none => rw [hr] at h; cases h
      | some q =>
        obtain ⟨j', u2⟩ := q
        rw [hr] at h; simp at h; obtain ⟨rfl, rfl⟩ := h
        have := ih hr
        simp [mset, mget, hne, this]
end

section
variable {P : Program} {σ : Slots} {ty : TypeId} {ps : String} {af : Array Edge} {g : Option (Nat × Bool)} {d : Option Nat}
variable {c : Ctx} {Ω : List Itm} {h : HV} {α : Type} [DecidableEq α] {κ : α → Value} {K : α → Prop} {kt e T : TypeId}

theorem set_self {γ : Type} : ∀ {l : List γ} {j : Nat} {e : γ}, l[j]? = some e → l.set j e = l
  | _ :: _, 0, e, h => by simp at h; subst h; simp
  | _ :: r, j + 1, e, h => by simp [set_self (l := r) (j := j) (by simpa using h)]
theorem mfind_end {β : Type} {a : α} {z : β} : ∀ {m : List (α × β)}, mfind m a 0 = none → mfind (m ++ [(a, z)]) a 0 = some (m.length, z)
  | [], _ => by simp [mfind]
  | (b, u) :: r, h => by
    simp only [mfind] at h
    split at h
    · cases h
    · rename_i hne
      rw [mfind_add] at h
      have := mfind_end (z := z) (m := r) (by simpa using h)
      simp only [List.cons_append, mfind, if_neg hne]
      rw [mfind_add, this]; simp
theorem findIdx_arr (xs : Array MapEntry) (p : MapEntry → Bool) : xs.findIdx? p = xs.toList.findIdx? p := by
  cases xs
  simp
theorem findIdx_ents {α : Type} (κ : α → Value) : ∀ (m : List (α × Value)) (i j : Nat), j < m.length → (ents κ i m).findIdx? (fun e => ((e.born : Nat) : Int) == ((i + j : Nat) : Int)) = some j
  | [], _, _, h => by simp at h
  | (_, _) :: r, i, 0, _ => by simp [ents, List.findIdx?_cons]
  | (_, _) :: r, i, j + 1, h => by
    have := findIdx_ents κ r (i + 1) j (by simpa using h)
    rw [show i + 1 + j = i + (j + 1) by omega] at this
    simp only [ents, List.findIdx?_cons, this]
    rw [if_neg (by simp; omega)]; rfl
theorem modify_at {γ : Type} {f : γ → γ} : ∀ {l : List γ} {j : Nat} {e : γ}, l[j]? = some e → l.modify j f = l.set j (f e)
  | _ :: _, 0, e, h => by simp at h; subst h; simp
  | _ :: r, j + 1, e, h => by simp [modify_at (l := r) (j := j) (by simpa using h)]
theorem Mem.blk {n b : Nat} {o : Obj} {w : World} (m : Mem c Ω h w) (hn : Ω[n]? = some (blk b o)) : w.heap[b]? = some o := m.own _ (List.mem_of_getElem? hn)

theorem Eff.makeMap : Eff P σ (Mem c Ω h) ⟨d, .makeMap T none, ty, ps, af, g⟩ fun u w => ∃ b, u = .map (some b) ∧ Mem c (mapI κ b [] :: Ω) h w := fun ρ w hρ hw => by
  have : (execOp ρ ⟨d, .makeMap T none, ty, ps, af, g⟩).run P w = .ok (.value (.map (some w.heap.size))) (w.alloc (.map #[] 0)) := by
    simp [execOp, Instr.makeMap, newObj, Sem.run]
  rw [this]
  exact ⟨_, rfl, hw.alloc _⟩

theorem Val.lookup {n b : Nat} {m : List (α × Value)} {x y : Operand} {a : α} {z : Value} (hT : P.underlying T = some (.map kt e)) (hk : KeyT P kt κ K) (hz : ∀ w, (zeroValue e).run P w = .ok z w)
    (hx : ev σ x = some (.map (some b))) (hy : ev σ y = some (κ a)) (ha : K a) (hm : ∀ p ∈ m, K p.1) :
    Val P σ (fun w => w.heap[b]? = some (.map (ents κ 0 m).toArray m.length)) ⟨d, .lookup T x y false, ty, ps, af, g⟩ ((mget m a).getD z) := fun ρ w hρ hw => by
  have hf := hk.find w a m 0 ha hm
  have hc := hk.check w (ents κ 0 m).toArray.isEmpty a ha
  simp only [execOp, hρ x _ hx, hρ y _ hy, Instr.lookup, Sem.run_bind, run_underlying hT, Result.andThen, MapKept.run_getObj_map hw, Sem.run_pure]
  rw [hc]
  simp only [hf]
  cases hq : mfind m a 0 with
  | none =>
    rw [(mfind_none hq z).2]
    simp [hz w]
  | some q =>
    obtain ⟨j, u⟩ := q
    rw [(mfind_some hq z).2.1]
    simp

theorem Eff.mapUpdate {b : Nat} (n : Nat) {m : List (α × Value)} {x y q : Operand} {a : α} {v : Value} (hT : P.underlying T = some (.map kt e)) (hk : KeyT P kt κ K)
    (hx : ev σ x = some (.map (some b))) (hy : ev σ y = some (κ a)) (hq : ev σ q = some v) (ha : K a) (hm : ∀ p ∈ m, K p.1) (hn : Ω[n]? = some (mapI κ b m)) :
    Eff P σ (Mem c Ω h) ⟨d, .mapUpdate T x y q, ty, ps, af, g⟩ fun _ w => Mem c (Ω.set n (mapI κ b (mset m a v))) h w := fun ρ w hρ hw => by
  have hb := hw.blk hn
  have hf := hk.find w a m 0 ha hm
  have hc := hk.check w false a ha
  have hset : ∀ o, (setObj b o).run P w = .ok () { w with heap := w.heap.setIfInBounds b o } := fun o => MapKept.run_setObj_map o hb
  have fin : (execOp ρ ⟨d, .mapUpdate T x y q, ty, ps, af, g⟩).run P w = .ok .skip { w with heap := w.heap.setIfInBounds b (.map (ents κ 0 (mset m a v)).toArray (mset m a v).length) } := by
    simp only [execOp, hρ x _ hx, hρ y _ hy, hρ q _ hq, Instr.mapUpdate, Sem.run_bind, run_underlying hT, Result.andThen, MapKept.run_getObj_map hb, Sem.run_pure]
    rw [hc]
    simp only [hf]
    cases hq : mfind m a 0 with
    | none =>
      rw [(mfind_none hq v).1]
      simp [hset, ents_app]
    | some q =>
      obtain ⟨j, u⟩ := q
      obtain ⟨h1, _, h3⟩ := mfind_some hq v
      have hj := ents_get (κ := κ) (i := 0) h3
      rw [h1]
      have hst := hk.stays a ha
      simp [hj, Instr.keyThatStays, hst, hset, ents_set]
      rw [modify_at hj]; simp
  rw [fin]
  have hlt : b < w.heap.size := (Array.getElem?_eq_some_iff.1 hb).1
  exact hw.change_at n hn rfl rfl rfl (by simp) (fun i _ hi => by simp [Array.getElem?_setIfInBounds, Ne.symm (show i ≠ b from hi)]) (show (_ : Array Obj)[b]? = _ by simp [hlt]) (fun i hi => .inl hi)

theorem Eff.insert {b : Nat} (n : Nat) {m : List (α × Value)} {x y q : Operand} {a : α} {v : Value} (hT : P.underlying T = some (.map kt e)) (hk : KeyT P kt κ K)
    (hx : ev σ x = some (.map (some b))) (hy : ev σ y = some (κ a)) (hq : ev σ q = some v) (ha : K a) (hm : ∀ p ∈ m, K p.1) (hn : Ω[n]? = some (mapI κ b m)) :
    Eff P σ (Mem c Ω h) ⟨d, .insert T x y q, ty, ps, af, g⟩ fun _ w => Mem c (Ω.set n (mapI κ b (mset m a v))) h w := fun ρ w hρ hw =>
  (Eff.mapUpdate (d := d) (ty := ty) (ps := ps) (af := af) (g := g) n hT hk hx hy hq ha hm hn) ρ w hρ hw

theorem Eff.mapEntry {b : Nat} (n : Nat) {m : List (α × Value)} {x y : Operand} {a : α} {z : Value} (hT : P.underlying T = some (.map kt e)) (hk : KeyT P kt κ K) (hz : ∀ w, (zeroValue e).run P w = .ok z w)
    (hx : ev σ x = some (.map (some b))) (hy : ev σ y = some (κ a)) (ha : K a) (hm : ∀ p ∈ m, K p.1) (hn : Ω[n]? = some (mapI κ b m)) :
    Eff P σ (Mem c Ω h) ⟨d, .mapEntry T x y, ty, ps, af, g⟩ fun v' w => ∃ i u, mfind (mset m a ((mget m a).getD z)) a 0 = some (i, u) ∧ v' = .tuple #[(mget m a).getD z, .int .i64 (i : Int)] ∧ Mem c (Ω.set n (mapI κ b (mset m a ((mget m a).getD z)))) h w := fun ρ w hρ hw => by
  have hb := hw.blk hn
  have hf := hk.find w a m 0 ha hm
  have hc := hk.check w false a ha
  have hset : ∀ o, (setObj b o).run P w = .ok () { w with heap := w.heap.setIfInBounds b o } := fun o => MapKept.run_setObj_map o hb
  have fin : ∃ i u, mfind (mset m a ((mget m a).getD z)) a 0 = some (i, u) ∧ (execOp ρ ⟨d, .mapEntry T x y, ty, ps, af, g⟩).run P w = .ok (.value (.tuple #[(mget m a).getD z, .int .i64 (i : Int)])) { w with heap := w.heap.setIfInBounds b (.map (ents κ 0 (mset m a ((mget m a).getD z))).toArray (mset m a ((mget m a).getD z)).length) } := by
    simp only [execOp, hρ x _ hx, hρ y _ hy, Instr.mapEntry, Sem.run_bind, run_underlying hT, Result.andThen, MapKept.run_getObj_map hb, Sem.run_pure]
    rw [hc]
    simp only [hf]
    cases hq : mfind m a 0 with
    | none =>
      obtain ⟨h1, h2⟩ := mfind_none hq z
      rw [h2]
      refine ⟨m.length, z, ?_, ?_⟩
      · rw [Option.getD_none, h1, mfind_end hq]
      simp [h1, hz w, hset, ents_app, goInt]
    | some q =>
      obtain ⟨j, u⟩ := q
      obtain ⟨h1, h2, h3⟩ := mfind_some hq u
      have hj := ents_get (κ := κ) (i := 0) h3
      rw [h2]
      have hst := hk.stays a ha
      have hm' : m.set j (a, u) = m := set_self h3
      refine ⟨j, u, ?_, ?_⟩
      · rw [Option.getD_some, h1, hm', hq]
      simp [h1, hm', hj, Instr.keyThatStays, hst, hset, goInt]
      rw [modify_at hj, set_self]
      simpa using hj
  obtain ⟨i, u, hi, fin⟩ := fin
  rw [fin]
  have hlt : b < w.heap.size := (Array.getElem?_eq_some_iff.1 hb).1
  exact ⟨i, u, hi, rfl, hw.change_at n hn rfl rfl rfl (by simp) (fun i _ hi => by simp [Ne.symm (show i ≠ b from hi)]) (show (_ : Array Obj)[b]? = _ by simp [hlt]) (fun i hi => .inl hi)⟩

theorem Eff.entryStore {b i : Nat} (n : Nat) {m : List (α × Value)} {x y q : Operand} {a : α} {u v : Value} (hx : ev σ x = some (.map (some b))) (hy : ev σ y = some (.int .i64 (i : Int))) (hq : ev σ q = some v)
    (hi : mfind m a 0 = some (i, u)) (hn : Ω[n]? = some (mapI κ b m)) :
    Eff P σ (Mem c Ω h) ⟨d, .entryStore T x y q, ty, ps, af, g⟩ fun _ w => Mem c (Ω.set n (mapI κ b (mset m a v))) h w := fun ρ w hρ hw => by
  have hb := hw.blk hn
  have hset : ∀ o, (setObj b o).run P w = .ok () { w with heap := w.heap.setIfInBounds b o } := fun o => MapKept.run_setObj_map o hb
  obtain ⟨h1, h2, h3⟩ := mfind_some hi v
  have hj := ents_get (κ := κ) (i := 0) h3
  have hfi : (ents κ 0 m).toArray.findIdx? (fun e => ((e.born : Nat) : Int) == (i : Int)) = some i := by
    rw [findIdx_arr]
    simpa using findIdx_ents κ m 0 i (by have := (List.getElem?_eq_some_iff.1 h3).1; exact this)
  have fin : (execOp ρ ⟨d, .entryStore T x y q, ty, ps, af, g⟩).run P w = .ok .skip { w with heap := w.heap.setIfInBounds b (.map (ents κ 0 (mset m a v)).toArray (mset m a v).length) } := by
    simp only [execOp, hρ x _ hx, hρ y _ hy, hρ q _ hq, Instr.entryStore, Sem.run_bind, Result.andThen, MapKept.run_getObj_map hb, Sem.run_pure]
    simp [asInt, asIntOf, hfi, hset, h1, ents_set]
    rw [modify_at hj]; simp
  rw [fin]
  have hlt : b < w.heap.size := (Array.getElem?_eq_some_iff.1 hb).1
  exact hw.change_at n hn rfl rfl rfl (by simp) (fun i _ hi => by simp [Ne.symm (show i ≠ b from hi)]) (show (_ : Array Obj)[b]? = _ by simp [hlt]) (fun i hi => .inl hi)

theorem Val.lenmap {b : Nat} {m : List (α × Value)} {x : Operand} {k : TypeId} (hT : P.underlying T = some (.map kt e)) (hx : ev σ x = some (.map (some b))) :
    Val P σ (fun w => w.heap[b]? = some (.map (ents κ 0 m).toArray m.length)) ⟨d, .call ⟨.builtin .len, #[x], #[T]⟩, k, ps, af, g⟩ (.int .i64 (m.length : Int)) := fun ρ w hρ hw => by
  simp [execOp, hρ x _ hx, resolve, invoke, builtin, Builtin.len_, run_underlying hT, MapKept.run_getObj_map hw, goInt, Result.andThen, ents_length]

/-- records compared -/
theorem Val.eqlS {S : World → Prop} {x y : Operand} {T' : TypeId} {xs ys : Array Value} {b : Bool} (hx : ev σ x = some (.agg xs)) (hy : ev σ y = some (.agg ys)) (hg : P.eqGuardType P.depth T = false) (he : ∀ w, (Op.equalIn 10000 T (.agg xs) (.agg ys)).run P w = .ok b w) :
    Val P σ S ⟨d, .binOp .eql T x y T', ty, ps, af, g⟩ (.bool b) := fun ρ w hρ hw => by
  simp [execOp, hρ x _ hx, hρ y _ hy, run_eqGuard_agg w _ T x y xs ys hg, run_eql_struct, he w, Result.andThen]
theorem Val.neqS {S : World → Prop} {x y : Operand} {T' : TypeId} {xs ys : Array Value} {b : Bool} (hx : ev σ x = some (.agg xs)) (hy : ev σ y = some (.agg ys)) (hg : P.eqGuardType P.depth T = false) (he : ∀ w, (Op.equalIn 10000 T (.agg xs) (.agg ys)).run P w = .ok b w) :
    Val P σ S ⟨d, .binOp .neq T x y T', ty, ps, af, g⟩ (.bool (!b)) := fun ρ w hρ hw => by
  simp [execOp, hρ x _ hx, hρ y _ hy, run_eqGuard_agg w _ T x y xs ys hg, run_neq_struct, he w, Result.andThen]
end
end Go.Sy
