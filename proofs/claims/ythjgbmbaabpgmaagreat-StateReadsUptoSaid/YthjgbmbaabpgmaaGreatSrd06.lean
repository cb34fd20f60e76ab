/-
  The walk's own logic, sixth part: slices that are made and grown, texts that are cut, numbers' bits.
-/
import Derived.Test.YthjgbmbaabpgmaaGreatSrd04
set_option linter.unusedVariables false
set_option linter.unusedSimpArgs false
set_option linter.unusedSectionVars false
namespace Go.Sy
open Go Go.RowKit

/-- of a slice's type: its elements' type, how many cells and bytes one has -/
def elt (P : Program) (T : Nat) : Option (Nat × Nat × Nat) :=
  match P.underlying T with
  | some (.slice e) => match P.info? e with
    | some i => match i.zero with
      | some z => if z.cells.size = i.size ∧ 0 < i.size then some (e, i.size, i.bytes) else none
      | none => none
    | none => none
  | _ => none

theorem elt_spec {P : Program} {T e m by_ : Nat} (h : elt P T = some (e, m, by_)) : P.underlying T = some (.slice e) ∧ ∃ i z, P.info? e = some i ∧ i.zero = some z ∧ i.size = m ∧ i.bytes = by_ ∧ z.cells.size = m ∧ 0 < m := by
  unfold elt at h
  split at h
  · rename_i e' hu
    split at h
    · rename_i i hi
      split at h
      · rename_i z hz
        split at h
        · rename_i hc
          cases h
          exact ⟨hu, i, z, hi, hz, rfl, rfl, hc.1, hc.2⟩
        · cases h
      · cases h
    · cases h
  · cases h

section
variable {P : Program} {Q : Exit → Act → World → Prop} {n : Sz} {σ : Slots} {S : World → Prop} {k : List It} {ty : TypeId} {ps : String} {af : Array Edge} {g : Option (Nat × Bool)} {d : Option Nat}
variable {c : Ctx} {Ω : List Itm} {h : HV}

theorem Mem.row_nil {w : World} (m : Mem c Ω h w) (e size : Nat) : Mem c (row e size (.slice none 0 0) 0 [] :: Ω) h w := by
  refine { m with own := ?_, sep := ?_, apart := ?_, mine := ?_ }
  · intro i hi
    rcases List.mem_cons.1 hi with rfl | hi
    · exact World.ownsRow_nil w 0 e size
    · exact m.own i hi
  · refine List.pairwise_cons.2 ⟨fun i _ b hb => ?_, m.sep⟩
    have hb' : (Value.slice none 0 0).ownBlock = some b := hb
    simp [Value.ownBlock] at hb'
  · intro i hi b hb
    rcases List.mem_cons.1 hi with rfl | hi
    · have hb' : (Value.slice none 0 0).ownBlock = some b := hb
      simp [Value.ownBlock] at hb'
    · exact m.apart i hi b hb
  · intro i hi b hb
    rcases List.mem_cons.1 hi with rfl | hi
    · have hb' : (Value.slice none 0 0).ownBlock = some b := hb
      simp [Value.ownBlock] at hb'
    · exact m.mine i hi b hb

/-- a nil slice is owned for nothing -/
theorem At.row_nil (e size : Nat) (hk : At P Q n σ (Mem c (row e size (.slice none 0 0) 0 [] :: Ω) h) k) : At P Q n σ (Mem c Ω h) k := hk.imp fun _ m => m.row_nil e size

/-- what is not wanted any more is let go -/
theorem At.sub_mem {Ω' : List Itm} (hs : Ω'.Sublist Ω) (hk : At P Q n σ (Mem c Ω' h) k) : At P Q n σ (Mem c Ω h) k := hk.imp fun _ m => m.sub hs
theorem At.perm_mem {Ω' : List Itm} (hs : Ω.Perm Ω') (hk : At P Q n σ (Mem c Ω' h) k) : At P Q n σ (Mem c Ω h) k := hk.imp fun _ m => m.perm hs

/-- a slice of one element -/
theorem Eff.buildSlice1 {T e m by_ : Nat} {x : Operand} {v : Value} (hT : elt P T = some (e, m, by_)) (hx : ev σ x = some v) (hm : v.cells.size = m) (hsm : Nat.ble m 1000 = true) :
    Eff P σ (Mem c Ω h) ⟨d, .buildSlice T 1 #[(0, x)], ty, ps, af, g⟩ fun u w => ∃ b, u = .slice (some ⟨b, 0, none⟩) 1 1 ∧ Mem c (blk b (.cells v.cells e (0, 0)) :: Ω) h w := fun ρ w hρ hw => by
  obtain ⟨hu, i, z, hi, hz, hs, hb, hzc, hpos⟩ := elt_spec hT
  have hm1000 : m ≤ 1000 := Nat.le_of_ble_eq_true hsm
  have hcells : Instr.fill (fun i => some (i * m, m)) ((Array.range m).map (fun x => z.cells[x % z.cells.size]!)) [(0, v)] = some v.cells := by
    have hlen : v.cells.size ≤ ((Array.range m).map (fun x => z.cells[x % z.cells.size]!)).size := by simp [hm]
    simp only [Instr.fill, Nat.zero_mul, Nat.zero_add]
    have hsz : ((Array.range m).map (fun x => z.cells[x % z.cells.size]!)).size = m := by simp
    rw [if_neg (by simp only [hsz, hm]; simp)]
    congr 1
    have key : ∀ (l : List Value) (k : Nat) (acc : Array Value), k + l.length ≤ acc.size → ∀ j, ((l.zipIdx k).foldl (fun cs (x : Value × Nat) => cs.setIfInBounds x.2 x.1) acc)[j]? = if k ≤ j ∧ j < k + l.length then l[j - k]? else acc[j]? := by
      intro l
      induction l with
      | nil => intro k acc _ j; simp; omega
      | cons a r ih =>
        intro k acc hk j
        simp only [List.length_cons] at hk
        simp only [List.zipIdx_cons, List.foldl_cons]
        rw [ih (k + 1) _ (by simp; omega) j]
        simp only [List.length_cons]
        by_cases h1 : k + 1 ≤ j ∧ j < k + 1 + r.length
        · rw [if_pos h1, if_pos (by omega), show j - k = (j - (k + 1)) + 1 from by omega]; simp
        · rw [if_neg h1]
          by_cases h2 : j = k
          · subst h2
            rw [if_pos (by omega)]
            simp [Array.getElem?_setIfInBounds]; omega
          · rw [if_neg (by omega), Array.getElem?_setIfInBounds, if_neg (by omega)]
    have h1 := key v.cells.toList 0 ((Array.range m).map (fun x => z.cells[x % z.cells.size]!)) (by simp [hm])
    apply Array.ext_getElem?
    intro j
    have h2 := h1 j
    simp only [Nat.zero_add, Nat.sub_zero, Nat.zero_le, true_and, Array.length_toList] at h2
    have h3 : (v.cells.zipIdx.foldl (fun cs (x : Value × Nat) => cs.setIfInBounds x.2 x.1) ((Array.range m).map (fun x => z.cells[x % z.cells.size]!))) = (v.cells.toList.zipIdx 0).foldl (fun cs (x : Value × Nat) => cs.setIfInBounds x.2 x.1) ((Array.range m).map (fun x => z.cells[x % z.cells.size]!)) := by
      rw [← Array.foldl_toList]; simp
    rw [h3, h2]
    split
    · simp
    · rename_i hj
      simp only [hm] at hj
      rw [Array.getElem?_eq_none (by simp; omega), Array.getElem?_eq_none (by omega)]
  have hne : ¬ (1 * m = 0) := by omega
  have hnot : ¬ (1 * m > 2 ^ 24) := by omega
  have hrun : (execOp ρ ⟨d, .buildSlice T 1 #[(0, x)], ty, ps, af, g⟩).run P w = .ok (.value (.slice (some ⟨w.heap.size, 0, none⟩) 1 1)) (w.alloc (.cells v.cells e (0, 0))) := by
    have hzero : (zeroValue e).run P w = .ok z w := by simp [zeroValue, typeInfo, hi, hz]
    have hsize : (sizeOf e).run P w = .ok m w := by simp [sizeOf, typeInfo, hi, hs]
    have h10 : ¬ (m = 0) := by omega
    have h224 : ¬ (16777216 < m) := by omega
    simp [execOp, hρ x _ hx, Instr.buildSlice, run_underlying hu, hsize, hzero, h10, h224, newRow, newObj, Sem.run, Nat.one_mul, hcells]
  rw [hrun]
  exact ⟨_, rfl, hw.alloc _⟩

/-- append to a slice of the call's own -/
theorem Eff.append {T e m by_ j b o N M cp : Nat} {x y : Operand} {v : Value} {xs news : List Value} (hT : elt P T = some (e, m, by_)) (hx : ev σ x = some v) (hy : ev σ y = some (.slice (some ⟨b, o, none⟩) M cp))
    (hj : Ω[j]? = some (row e m v N xs)) (hl : news.length = M * m) (h1 : news.all (·.oneCell') = true) (hN : (N + M) * by_ ≤ 140737488355328) (hN' : N + M ≤ 140737488355328)
    (hnews : ∀ w, Mem c Ω h w → ∀ i u, news[i]? = some u → w.cell? ⟨b, o + i, none⟩ = some u) :
    Eff P σ (Mem c Ω h) ⟨d, .call ⟨.builtin .append, #[x, y], #[T, T]⟩, ty, ps, af, g⟩ fun v' w => (v' = .slice none 0 0 ↔ v = .slice none 0 0 ∧ M = 0) ∧ Mem c (Ω.set j (row e m v' (N + M) (xs ++ news))) h w := fun ρ w hρ hw => by
  obtain ⟨hu, i, z, hi, hz, hs, hb, hzc, hpos⟩ := elt_spec hT
  have hown : w.ownsRow 0 e m v N xs := hw.own _ (List.mem_of_getElem? hj)
  obtain ⟨v', w', hr, hown', hgr, hnil, hat⟩ := run_append_own_at w 0 T ty e i z m by_ hu hi hz hs hb hzc hpos v N xs hown ⟨b, o, none⟩ M cp news hl
    (fun j' u hu' => by rw [add_addr]; exact hnews w hw j' u hu') (fun u hu' => List.all_eq_true.1 h1 u hu') (by unfold maxLen; omega) hN (Nat.zero_le _)
  have : (execOp ρ ⟨d, .call ⟨.builtin .append, #[x, y], #[T, T]⟩, ty, ps, af, g⟩).run P w = .ok (.value v') w' := by
    simp [execOp, resolve, hρ x _ hx, hρ y _ hy, invoke, builtin, hr]
  rw [this]
  refine ⟨hnil, hw.change_at j hj hgr.os hgr.tape hgr.output hgr.size (fun k hk hnk => hgr.block k hk (fun e => hnk (by show v.ownBlock = some k; exact e.symm))) hown' (fun k hk => ?_)⟩
  have hk' : v'.ownBlock = some k := hk
  rcases hat with h2 | h2
  · left; show v.ownBlock = some k; rw [← h2]; exact hk'
  · right; rw [h2] at hk'; cases hk'; exact Nat.le_refl _

/-- append of one element: the cells that were laid for it are let go -/
theorem Eff.append1 {T e m by_ j b N cp : Nat} {x y : Operand} {v : Value} {xs news : List Value} (hT : elt P T = some (e, m, by_)) (hx : ev σ x = some v) (hy : ev σ y = some (.slice (some ⟨b, 0, none⟩) 1 cp))
    (hj : Ω[j]? = some (row e m v N xs)) (hl : news.length = m) (h1 : news.all (·.oneCell') = true) (hN : (N + 1) * by_ ≤ 140737488355328) (hN' : N + 1 ≤ 140737488355328) :
    Eff P σ (Mem c (blk b (.cells news.toArray e (0, 0)) :: Ω) h) ⟨d, .call ⟨.builtin .append, #[x, y], #[T, T]⟩, ty, ps, af, g⟩ fun v' w => v' ≠ .slice none 0 0 ∧ Mem c (Ω.set j (row e m v' (N + 1) (xs ++ news))) h w := fun ρ w hρ hw => by
  have he := Eff.append (Ω := blk b (.cells news.toArray e (0, 0)) :: Ω) (j := j + 1) (o := 0) (M := 1) (news := news) (c := c) (h := h) (ty := ty) (ps := ps) (af := af) (g := g) (d := d) hT hx hy (by simpa using hj) (by omega) h1 hN hN'
    (fun w hw i u hu => by
      have := Mem.cell (n := 0) (b := b) (T := e) (o := i) (cs := news) (fr := (0, 0)) (v := u) hw rfl hu
      simpa using this)
  have h2 := he ρ w hρ hw
  generalize (execOp ρ ⟨d, .call ⟨.builtin .append, #[x, y], #[T, T]⟩, ty, ps, af, g⟩).run P w = r at h2
  unfold Comes1 at h2 ⊢
  split at h2
  · refine ⟨fun e => by have := (h2.1.1 e).2; omega, ?_⟩
    exact h2.2.sub (by simp)
  · refine ⟨fun e => by have := (h2.1.1 e).2; omega, ?_⟩
    exact h2.2.sub (by simp)
  · refine Calls.mono h2 ?_
    rintro e' w' ⟨v', rfl, h3, h4⟩
    exact ⟨v', rfl, fun e => by have := (h3.1 e).2; omega, h4.sub (by simp)⟩
  · exact h2.elim

theorem extract_str (a : List UInt8) (l r : Nat) : (⟨a.toArray⟩ : ByteArray).extract l r = ⟨((a.drop l).take (r - l)).toArray⟩ := by
  apply ByteArray.ext
  rw [ByteArray.data_extract]
  simp

/-- the same, with the new slice's form -/
theorem Eff.append1s {T e m by_ j b N cp : Nat} {x y : Operand} {v : Value} {xs news : List Value} (hT : elt P T = some (e, m, by_)) (hx : ev σ x = some v) (hy : ev σ y = some (.slice (some ⟨b, 0, none⟩) 1 cp))
    (hj : Ω[j]? = some (row e m v N xs)) (hl : news.length = m) (h1 : news.all (·.oneCell') = true) (hN : (N + 1) * by_ ≤ 140737488355328) (hN' : N + 1 ≤ 140737488355328) :
    Eff P σ (Mem c (blk b (.cells news.toArray e (0, 0)) :: Ω) h) ⟨d, .call ⟨.builtin .append, #[x, y], #[T, T]⟩, ty, ps, af, g⟩ fun v' w => ∃ g' cp', v' = .slice (some ⟨g', 0, none⟩) (N + 1) cp' ∧ Mem c (Ω.set j (row e m v' (N + 1) (xs ++ news))) h w := fun ρ w hρ hw => by
  have h2 := Eff.append1 (ty := ty) (ps := ps) (af := af) (g := g) (d := d) hT hx hy hj hl h1 hN hN' ρ w hρ hw
  have key : ∀ v' w', (v' ≠ .slice none 0 0 ∧ Mem c (Ω.set j (row e m v' (N + 1) (xs ++ news))) h w') → ∃ g' cp', v' = .slice (some ⟨g', 0, none⟩) (N + 1) cp' ∧ Mem c (Ω.set j (row e m v' (N + 1) (xs ++ news))) h w' := by
    rintro v' w' ⟨hne, hm⟩
    have hj' : j < Ω.length := (List.getElem?_eq_some_iff.1 hj).1
    have hown : w'.ownsRow 0 e m v' (N + 1) (xs ++ news) := hm.own _ (List.mem_of_getElem? (i := j) (by simp [hj']; rfl))
    rcases hown.2 with ⟨e1, _⟩ | ⟨g', cap, cur, e1, _⟩
    · exact absurd e1 hne
    · exact ⟨g', cap, e1, hm⟩
  generalize (execOp ρ ⟨d, .call ⟨.builtin .append, #[x, y], #[T, T]⟩, ty, ps, af, g⟩).run P w = r at h2
  unfold Comes1 at h2 ⊢
  split at h2
  · exact key _ _ h2
  · exact key _ _ h2
  · refine Calls.mono h2 ?_
    rintro e' w' ⟨v', rfl, h3⟩
    exact ⟨v', rfl, key _ _ h3⟩
  · exact h2.elim

/-- a text cut: from i to j -/
theorem Val.slicestr {T : Nat} {x i j : Operand} {a : List UInt8} {ki kj : IntKind} {l r : Nat} (hT : P.underlying T = some .string) (hx : ev σ x = some (str a)) (hi : ev σ i = some (.int ki (l : Int))) (hj : ev σ j = some (.int kj (r : Int)))
    (hlr : l ≤ r) (hr : r ≤ a.length) : Val P σ S ⟨d, .slice T x (some i) (some j) none, ty, ps, af, g⟩ (str ((a.drop l).take (r - l))) := fun ρ w hρ _ => by
  simp [execOp, hρ x _ hx, hρ i _ hi, hρ j _ hj, Instr.sliceAt, Instr.slice, run_underlying hT, str, Instr.sliceBounds, Instr.sliceBound, asIntOf, -ByteArray.size_data, size_str, hr, hlr]
  exact extract_str a l r
theorem Val.slicestr_from {T : Nat} {x i : Operand} {a : List UInt8} {ki : IntKind} {l : Nat} (hT : P.underlying T = some .string) (hx : ev σ x = some (str a)) (hi : ev σ i = some (.int ki (l : Int)))
    (hl : l ≤ a.length) : Val P σ S ⟨d, .slice T x (some i) none none, ty, ps, af, g⟩ (str (a.drop l)) := fun ρ w hρ _ => by
  simp [execOp, hρ x _ hx, hρ i _ hi, Instr.sliceAt, Instr.slice, run_underlying hT, str, Instr.sliceBounds, Instr.sliceBound, asIntOf, -ByteArray.size_data, size_str, hl]
  rw [extract_str, List.take_of_length_le (by simp)]
theorem Val.slicestr_to {T : Nat} {x j : Operand} {a : List UInt8} {kj : IntKind} {r : Nat} (hT : P.underlying T = some .string) (hx : ev σ x = some (str a)) (hj : ev σ j = some (.int kj (r : Int)))
    (hr : r ≤ a.length) : Val P σ S ⟨d, .slice T x none (some j) none, ty, ps, af, g⟩ (str (a.take r)) := fun ρ w hρ _ => by
  simp [execOp, hρ x _ hx, hρ j _ hj, Instr.sliceAt, Instr.slice, run_underlying hT, str, Instr.sliceBounds, Instr.sliceBound, asIntOf, -ByteArray.size_data, size_str, hr]
  exact extract_str a 0 r

/-- where a part of a slice begins -/
def off (cp l : Nat) (a : Addr) (m : Nat) : Addr := if cp = l then a else a.add (l * m)

theorem Val.slice {T e m : Nat} {ag : Bool} {x i j : Operand} {a : Addr} {N cp : Nat} {ki kj : IntKind} {l r : Nat} (hT : P.underlying T = some (.slice e)) (hm : lay P e = some (ag, m)) (hx : ev σ x = some (.slice (some a) N cp))
    (hi : ev σ i = some (.int ki (l : Int))) (hj : ev σ j = some (.int kj (r : Int))) (hlr : l ≤ r) (hr : r ≤ cp) :
    Val P σ S ⟨d, .slice T x (some i) (some j) none, ty, ps, af, g⟩ (.slice (some (off cp l a m)) (r - l) (cp - l)) := fun ρ w hρ _ => by
  simp [execOp, hρ x _ hx, hρ i _ hi, hρ j _ hj, Instr.sliceAt, Instr.slice, run_underlying hT, Instr.sliceBounds, Instr.sliceBound, asIntOf, hlr, hr, lay_sizeOf hm, off]
  split <;> rfl
theorem Val.slice_from {T e m : Nat} {ag : Bool} {x i : Operand} {a : Addr} {N cp : Nat} {ki : IntKind} {l : Nat} (hT : P.underlying T = some (.slice e)) (hm : lay P e = some (ag, m)) (hx : ev σ x = some (.slice (some a) N cp))
    (hi : ev σ i = some (.int ki (l : Int))) (hlr : l ≤ N) :
    Val P σ S ⟨d, .slice T x (some i) none none, ty, ps, af, g⟩ (.slice (some (off cp l a m)) (N - l) (cp - l)) := fun ρ w hρ _ => by
  simp [execOp, hρ x _ hx, hρ i _ hi, Instr.sliceAt, Instr.slice, run_underlying hT, Instr.sliceBounds, Instr.sliceBound, asIntOf, hlr, lay_sizeOf hm, off]
  split <;> rfl
theorem Val.slice_to {T e m : Nat} {ag : Bool} {x j : Operand} {a : Option Addr} {N cp : Nat} {kj : IntKind} {r : Nat} (hT : P.underlying T = some (.slice e)) (hm : lay P e = some (ag, m)) (hx : ev σ x = some (.slice a N cp))
    (hj : ev σ j = some (.int kj (r : Int))) (hr : r ≤ cp) :
    Val P σ S ⟨d, .slice T x none (some j) none, ty, ps, af, g⟩ (.slice a r cp) := fun ρ w hρ _ => by
  simp [execOp, hρ x _ hx, hρ j _ hj, Instr.sliceAt, Instr.slice, run_underlying hT, Instr.sliceBounds, Instr.sliceBound, asIntOf, hr, lay_sizeOf hm]
  intro _
  cases a with
  | none => rfl
  | some a => simp [Addr.add]
/-- a part of a nil slice: from 0 to 0 -/
theorem Val.slice_nil {T e m : Nat} {ag : Bool} {x i : Operand} {ki : IntKind} (hT : P.underlying T = some (.slice e)) (hm : lay P e = some (ag, m)) (hx : ev σ x = some (.slice none 0 0))
    (hi : ev σ i = some (.int ki 0)) : Val P σ S ⟨d, .slice T x (some i) none none, ty, ps, af, g⟩ (.slice none 0 0) := fun ρ w hρ _ => by
  simp [execOp, hρ x _ hx, hρ i _ hi, Instr.sliceAt, Instr.slice, run_underlying hT, Instr.sliceBounds, Instr.sliceBound, asIntOf, lay_sizeOf hm]

theorem Val.slice0 {T e m : Nat} {ag : Bool} {x i j : Operand} {ki kj : IntKind} (hT : P.underlying T = some (.slice e)) (hm : lay P e = some (ag, m)) (hx : ev σ x = some (.slice none 0 0))
    (hi : ev σ i = some (.int ki ((0 : Nat) : Int))) (hj : ev σ j = some (.int kj ((0 : Nat) : Int))) : Val P σ S ⟨d, .slice T x (some i) (some j) none, ty, ps, af, g⟩ (.slice none 0 0) := fun ρ w hρ _ => by
  simp [execOp, hρ x _ hx, hρ i _ hi, hρ j _ hj, Instr.sliceAt, Instr.slice, run_underlying hT, Instr.sliceBounds, Instr.sliceBound, asIntOf, lay_sizeOf hm]

/-! numbers' bits and kinds -/
theorem Val.conv {T T' : Nat} {x : Operand} {k k' : IntKind} {z : Int} {src : TypeDesc} (hs : P.underlying T = some src) (hT : P.underlying T' = some (.int k)) (hx : ev σ x = some (.int k' z)) :
    Val P σ S ⟨d, .convert T T' x, ty, ps, af, g⟩ (.int k (k.wrap z)) := fun ρ w hρ _ => by
  simp [execOp, hρ x _ hx, convert, run_underlying hs, run_underlying hT, Conv.intToInt]

theorem wrap_u8 (z : Int) : IntKind.u8.wrap z = z % 256 := by rw [IntKind.wrap_u8]
theorem wrap_i64_nat {a : Nat} (h : a < 9223372036854775808) : IntKind.i64.wrap (a : Int) = (a : Int) := wrap_i64 (by omega) (by omega)
theorem wrap_u8_nat (a : Nat) : IntKind.u8.wrap (a : Int) = ((a % 256 : Nat) : Int) := by rw [wrap_u8]; omega

theorem Val.shrN {T T' : TypeId} {x y : Operand} {k k' : IntKind} (a b : Nat) {za zb : Int} (hx : ev σ x = some (.int k za)) (hy : ev σ y = some (.int k' zb)) (hza : za = (a : Int)) (hzb : zb = (b : Int)) (hb : b ≤ k.bits) :
    Val P σ S ⟨d, .binOp .shr T x y T', ty, ps, af, g⟩ (.int k ((a / 2 ^ b : Nat) : Int)) := fun ρ w hρ _ => by
  subst hza hzb
  have hg : (eqGuard .shr T x y (.int k a) (.int k' b)).run P w = .ok () w := by simp [eqGuard]
  have hmin : min b k.bits = b := Nat.min_eq_left hb
  have hd : (a : Int).fdiv (2 ^ b) = ((a / 2 ^ b : Nat) : Int) := by
    rw [Int.fdiv_eq_ediv_of_nonneg _ (Int.le_of_lt (Int.pow_pos (by decide)))]
    simp [Int.natCast_ediv, Int.natCast_pow]
  have hs : binOp .shr T (.int k a) (.int k' b) = Op.shift .shr k a k' b := rfl
  have hnb : ¬ ((b : Int) < 0) := by omega
  simp only [execOp, hρ x _ hx, hρ y _ hy, Sem.run_bind, hg, Result.andThen_ok, hs, Op.shift, if_neg hnb, Int.toNat_natCast, hmin, hd, Sem.run_pure]

theorem Val.shlN {T T' : TypeId} {x y : Operand} {k' : IntKind} (a b : Nat) {za zb : Int} (hx : ev σ x = some (.int .i64 za)) (hy : ev σ y = some (.int k' zb)) (hza : za = (a : Int)) (hzb : zb = (b : Int)) (hb : b ≤ 64) (hlt : a * 2 ^ b < 9223372036854775808) :
    Val P σ S ⟨d, .binOp .shl T x y T', ty, ps, af, g⟩ (.int .i64 ((a * 2 ^ b : Nat) : Int)) := fun ρ w hρ _ => by
  subst hza hzb
  have hg : (eqGuard .shl T x y (.int .i64 a) (.int k' b)).run P w = .ok () w := by simp [eqGuard]
  have hmin : min b IntKind.i64.bits = b := Nat.min_eq_left hb
  have hd : IntKind.i64.wrap ((a : Int) * 2 ^ b) = ((a * 2 ^ b : Nat) : Int) := by
    have : ((a : Int) * 2 ^ b) = ((a * 2 ^ b : Nat) : Int) := by simp [Int.natCast_mul, Int.natCast_pow]
    rw [this]; exact wrap_i64_nat hlt
  have hs : binOp .shl T (.int .i64 a) (.int k' b) = Op.shift .shl .i64 a k' b := rfl
  have hnb : ¬ ((b : Int) < 0) := by omega
  simp only [execOp, hρ x _ hx, hρ y _ hy, Sem.run_bind, hg, Result.andThen_ok, hs, Op.shift, if_neg hnb, Int.toNat_natCast, hmin, hd, Sem.run_pure]

theorem bv_nat {n a : Nat} (h : a < 2 ^ n) : (BitVec.ofInt n (a : Int)).toNat = a := by
  rw [BitVec.toNat_ofInt]
  have : ((a : Int) % ((2 ^ n : Nat) : Int)) = (a : Int) := Int.emod_eq_of_lt (by omega) (by omega)
  rw [this]; rfl

theorem Val.and8 {T T' : TypeId} {x y : Operand} (a b : Nat) {za zb : Int} (hx : ev σ x = some (.int .u8 za)) (hy : ev σ y = some (.int .u8 zb)) (hza : za = (a : Int)) (hzb : zb = (b : Int)) (ha : a < 256) (hb : b < 256) :
    Val P σ S ⟨d, .binOp .and T x y T', ty, ps, af, g⟩ (.int .u8 ((a &&& b : Nat) : Int)) := by
  subst hza hzb
  refine Val.intop hx hy fun w => ?_
  have h1 : (BitVec.ofInt 8 (a : Int) &&& BitVec.ofInt 8 (b : Int)).toNat = a &&& b := by rw [BitVec.toNat_and, bv_nat ha, bv_nat hb]
  have h2 : a &&& b < 256 := Nat.lt_of_le_of_lt Nat.and_le_left ha
  have h3 : IntKind.u8.wrap ((a &&& b : Nat) : Int) = ((a &&& b : Nat) : Int) := by rw [wrap_u8_nat, Nat.mod_eq_of_lt h2]
  have hb : binOp .and T (.int .u8 a) (.int .u8 b) = pure (.int .u8 (IntKind.u8.wrap ((BitVec.ofInt 8 (a : Int) &&& BitVec.ofInt 8 (b : Int)).toNat : Int))) := by
    simp only [binOp, Op.intBits]
    rfl
  rw [hb, h1, h3]
  rfl
theorem Val.or8 {T T' : TypeId} {x y : Operand} (a b : Nat) {za zb : Int} (hx : ev σ x = some (.int .u8 za)) (hy : ev σ y = some (.int .u8 zb)) (hza : za = (a : Int)) (hzb : zb = (b : Int)) (ha : a < 256) (hb : b < 256) :
    Val P σ S ⟨d, .binOp .or T x y T', ty, ps, af, g⟩ (.int .u8 ((a ||| b : Nat) : Int)) := by
  subst hza hzb
  refine Val.intop hx hy fun w => ?_
  have h1 : (BitVec.ofInt 8 (a : Int) ||| BitVec.ofInt 8 (b : Int)).toNat = a ||| b := by rw [BitVec.toNat_or, bv_nat ha, bv_nat hb]
  have h2 : a ||| b < 256 := Nat.or_lt_two_pow (n := 8) ha hb
  have h3 : IntKind.u8.wrap ((a ||| b : Nat) : Int) = ((a ||| b : Nat) : Int) := by rw [wrap_u8_nat, Nat.mod_eq_of_lt h2]
  have hb : binOp .or T (.int .u8 a) (.int .u8 b) = pure (.int .u8 (IntKind.u8.wrap ((BitVec.ofInt 8 (a : Int) ||| BitVec.ofInt 8 (b : Int)).toNat : Int))) := by
    simp only [binOp, Op.intBits]
    rfl
  rw [hb, h1, h3]
  rfl
theorem Val.or64 {T T' : TypeId} {x y : Operand} (a b : Nat) {za zb : Int} (hx : ev σ x = some (.int .i64 za)) (hy : ev σ y = some (.int .i64 zb)) (hza : za = (a : Int)) (hzb : zb = (b : Int)) (ha : a < 9223372036854775808) (hb : b < 9223372036854775808) :
    Val P σ S ⟨d, .binOp .or T x y T', ty, ps, af, g⟩ (.int .i64 ((a ||| b : Nat) : Int)) := by
  subst hza hzb
  refine Val.intop hx hy fun w => ?_
  have h1 : (BitVec.ofInt 64 (a : Int) ||| BitVec.ofInt 64 (b : Int)).toNat = a ||| b := by
    rw [BitVec.toNat_or, bv_nat (Nat.lt_of_lt_of_le ha (by decide)), bv_nat (Nat.lt_of_lt_of_le hb (by decide))]
  have h2 : a ||| b < 9223372036854775808 := Nat.or_lt_two_pow (n := 63) ha hb
  have h3 := wrap_i64_nat h2
  have hb : binOp .or T (.int .i64 a) (.int .i64 b) = pure (.int .i64 (IntKind.i64.wrap ((BitVec.ofInt 64 (a : Int) ||| BitVec.ofInt 64 (b : Int)).toNat : Int))) := by
    simp only [binOp, Op.intBits]
    rfl
  rw [hb, h1, h3]
  rfl
end
end Go.Sy
/-
  The walk's own logic, seventh part: slices in memory that stays as it is.
-/
namespace Go.Sy
open Go Go.RowKit

/-- more memory stays as it is -/
def HV.le (h h' : HV) : Prop := ∀ b o, h b = some o → h' b = some o
theorem HV.le.refl (h : HV) : HV.le h h := fun _ _ e => e
theorem HV.le.trans {a b c : HV} (h : HV.le a b) (k : HV.le b c) : HV.le a c := fun i o e => k i o (h i o e)
theorem HV.le.cell {h h' : HV} (l : HV.le h h') {b o : Nat} {v : Value} (c : cellH h b o = some v) : cellH h' b o = some v := by
  unfold cellH at c ⊢
  split at c
  · rename_i cs T fr hb; rw [l b _ hb]; exact c
  · cases c

/-- a slice of n elements of m cells each, whose cells are xs -/
def SlH (h : HV) (v : Value) (m n : Nat) (xs : List Value) : Prop :=
  xs.length = n * m ∧ (((∃ a, v = .slice a 0 0) ∧ n = 0) ∨ ∃ b o cap, v = .slice (some ⟨b, o, none⟩) n cap ∧ n ≤ cap ∧ ∀ i u, xs[i]? = some u → cellH h b (o + i) = some u)

theorem SlH.mono {h h' : HV} {v : Value} {m n : Nat} {xs : List Value} (s : SlH h v m n xs) (l : HV.le h h') : SlH h' v m n xs := by
  refine ⟨s.1, ?_⟩
  rcases s.2 with hn | ⟨b, o, cap, rfl, hc, hx⟩
  · exact .inl hn
  · exact .inr ⟨b, o, cap, rfl, hc, fun i u hu => l.cell (hx i u hu)⟩

theorem SlH.nil (h : HV) (m : Nat) : SlH h (.slice none 0 0) m 0 [] := ⟨by simp, .inl ⟨⟨_, rfl⟩, rfl⟩⟩

/-- a slice opened -/
theorem SlH.form {h : HV} {v : Value} {m n : Nat} {xs : List Value} (s : SlH h v m n xs) : ∃ a cap, v = .slice a n cap := by
  rcases s.2 with ⟨⟨_, rfl⟩, rfl⟩ | ⟨b, o, cap, rfl, hc, hx⟩
  · exact ⟨_, _, rfl⟩
  · exact ⟨_, _, rfl⟩

theorem SlH.at_ {h : HV} {v : Value} {m n : Nat} {xs : List Value} (s : SlH h v m n xs) {i : Nat} (hi : i < n) : ∃ b o cap, v = .slice (some ⟨b, o, none⟩) n cap ∧ n ≤ cap ∧ ∀ j, j < m → ∃ u, xs[i * m + j]? = some u ∧ cellH h b (o + i * m + j) = some u := by
  rcases s.2 with ⟨⟨_, rfl⟩, rfl⟩ | ⟨b, o, cap, rfl, hc, hx⟩
  · omega
  · refine ⟨b, o, cap, rfl, hc, fun j hj => ?_⟩
    have hlt : i * m + j < xs.length := by
      rw [s.1]
      have : (i + 1) * m ≤ n * m := Nat.mul_le_mul_right m hi
      rw [Nat.add_mul, Nat.one_mul] at this
      omega
    refine ⟨xs[i * m + j], by simp [hlt], ?_⟩
    rw [Nat.add_assoc]; exact hx _ _ (by simp [hlt])

section
variable {P : Program} {Q : Exit → Act → World → Prop} {n : Sz} {σ : Slots} {k : List It} {c : Ctx} {Ω : List Itm} {h : HV} {w : World}

theorem Mem.publish_row {e m N : Nat} {v : Value} {xs : List Value} (M : Mem c (row e m v N xs :: Ω) h w) : ∃ h', HV.le h h' ∧ SlH h' v m N xs ∧ Mem c Ω h' w := by
  have hown : w.ownsRow 0 e m v N xs := M.own _ (List.mem_cons_self ..)
  rcases hown.2 with ⟨rfl, rfl⟩ | ⟨g, cap, cur, rfl, _, hg, hn, _, hs, ht⟩
  · exact ⟨h, HV.le.refl h, ⟨hown.1, .inl ⟨⟨_, rfl⟩, rfl⟩⟩, M.sub (by simp)⟩
  · have M' : Mem c (blk g (.cells cur e (0, 0)) :: Ω) h w := by
      refine { M with own := ?_, sep := ?_, apart := ?_, mine := ?_ }
      · intro i hi
        rcases List.mem_cons.1 hi with rfl | hi
        · exact hg
        · exact M.own i (by simp [hi])
      · have := List.pairwise_cons.1 M.sep
        exact List.pairwise_cons.2 ⟨fun i hi b hb => this.1 i hi b (by have hb' : b = g := hb; subst hb'; rfl), this.2⟩
      · intro i hi b hb
        rcases List.mem_cons.1 hi with rfl | hi
        · have hb' : b = g := hb
          subst hb'
          exact M.apart _ (List.mem_cons_self ..) b rfl
        · exact M.apart i (by simp [hi]) b hb
      · intro i hi b hb
        rcases List.mem_cons.1 hi with rfl | hi
        · have hb' : b = g := hb
          subst hb'
          exact M.mine _ (List.mem_cons_self ..) b rfl
        · exact M.mine i (by simp [hi]) b hb
    refine ⟨_, ?_, ⟨hown.1, .inr ⟨g, 0, cap, rfl, hn, ?_⟩⟩, M'.publish⟩
    · intro i u hu
      have : i ≠ g := fun e => by
        subst e
        have := M'.apart _ (List.mem_cons_self ..) i rfl
        rw [hu] at this; cases this
      show (if i = g then _ else h i) = some u
      rw [if_neg this]; exact hu
    · intro i u hu
      have : Sy.cellH (HV.put h g (.cells cur e (0, 0))) g (0 + i) = cur[i]? := by simp [Sy.cellH, HV.put]
      rw [this]
      have h1 : (cur.toList.take (N * m))[i]? = some u := by rw [ht]; exact hu
      rw [List.getElem?_take] at h1
      split at h1
      · simpa using h1
      · cases h1

/-- what was learned of memory is not wanted any more -/
theorem Mem.forget {h' : HV} (M : Mem c Ω h' w) (le : HV.le h h') (h0 : c.h0 = h) : Mem c Ω h w := by
  subst h0
  refine { M with hext := HExt.refl _ _ _, hv := fun b o e => M.hv b o (le b o e), apart := fun i hi b hb => ?_ }
  cases hc : c.h0 b with
  | none => rfl
  | some o => have := le b o hc; rw [M.apart i hi b hb] at this; cases this
theorem At.forget {h' : HV} (le : HV.le h h') (h0 : c.h0 = h) (hk : At P Q n σ (Mem c Ω h) k) : At P Q n σ (Mem c Ω h') k := hk.imp fun _ M => M.forget le h0
/-- ways that meet again, with more memory known to stay as it is -/
theorem Ops.forkH {ops : Array Oper} {l : List Oper} (t : Nat) (v : Value) (js : List Nat) (main : ∀ h', HV.le h h' → At P Q n ((t, v) :: keep js σ) (Mem c Ω h') k)
    (paths : (∀ h', HV.le h h' → At P Q n ((t, v) :: keep js σ) (Mem c Ω h') k) → Ops P Q n σ (Mem c Ω h) ops l k) : Ops P Q n σ (Mem c Ω h) ops l k := paths main

/-- what was grown stays as it is from here on -/
theorem At.publish_row {e m N : Nat} {v : Value} {xs : List Value} (j : Nat) (hj : Ω[j]? = some (row e m v N xs)) (hk : ∀ h', HV.le h h' → SlH h' v m N xs → At P Q n σ (Mem c (Ω.eraseIdx j) h') k) : At P Q n σ (Mem c Ω h) k := by
  intro a w ha hw
  have M := hw.perm (set_perm Ω j _ (row e m v N xs) hj).1
  obtain ⟨h', hle, hsl, M'⟩ := M.publish_row
  exact hk h' hle hsl a w ha M'
end

/-- one cell of a slice of single cells -/
theorem SlH.one {h : HV} {v : Value} {n : Nat} {xs : List Value} (s : SlH h v 1 n xs) {i : Nat} {u : Value} (hu : xs[i]? = some u) : ∃ b o cap, v = .slice (some ⟨b, o, none⟩) n cap ∧ i < n ∧ n ≤ cap ∧ cellH h b (o + i * 1) = some u := by
  have hi : i < n := by have := (List.getElem?_eq_some_iff.1 hu).1; rw [s.1] at this; omega
  obtain ⟨b, o, cap, e, hc, hx⟩ := s.at_ hi
  obtain ⟨u', h1, h2⟩ := hx 0 (by omega)
  simp only [Nat.mul_one, Nat.add_zero] at h1 h2
  rw [hu] at h1; cases h1
  exact ⟨b, o, cap, e, hi, hc, by simpa using h2⟩

theorem SlH.get {h : HV} {a : Option Addr} {n cp : Nat} {xs : List Value} (s : SlH h (.slice a n cp) 1 n xs) {i : Nat} {u : Value} (hu : xs[i]? = some u) : ∃ b o, a = some ⟨b, o, none⟩ ∧ i < n ∧ n ≤ cp ∧ cellH h b (o + i * 1) = some u := by
  obtain ⟨b, o, cap, e, hi, hc, hx⟩ := s.one hu
  cases e
  exact ⟨b, o, rfl, hi, hc, hx⟩

/-- an element's cells -/
theorem SlH.elem {h : HV} {a : Option Addr} {n cp m : Nat} {xs : List Value} (s : SlH h (.slice a n cp) m n xs) {i : Nat} (hi : i < n) : ∃ b o, a = some ⟨b, o, none⟩ ∧ n ≤ cp ∧ ∀ j, j < m → ∃ u, xs[i * m + j]? = some u ∧ cellH h b (o + i * m + j) = some u := by
  obtain ⟨b, o, cap, e, hc, hx⟩ := s.at_ hi
  cases e
  exact ⟨b, o, rfl, hc, hx⟩

/-- a part of a slice -/
theorem SlH.part {h : HV} {a : Option Addr} {n cp m : Nat} {xs : List Value} (s : SlH h (.slice a n cp) m n xs) (l r : Nat) (hlr : l ≤ r) (hr : r ≤ n) (b : Addr) (hb : a = some b) : SlH h (.slice (some (off cp l b m)) (r - l) (cp - l)) m (r - l) ((xs.drop (l * m)).take ((r - l) * m)) := by
  subst hb
  have hlen : ((xs.drop (l * m)).take ((r - l) * m)).length = (r - l) * m := by
    rw [List.length_take, List.length_drop, s.1]
    have : r * m ≤ n * m := Nat.mul_le_mul_right m hr
    rw [Nat.sub_mul] at *
    omega
  refine ⟨hlen, ?_⟩
  rcases s.2 with ⟨⟨a', e⟩, rfl⟩ | ⟨g, o, cap, e, hc, hx⟩
  · cases e
    obtain rfl : r = 0 := by omega
    obtain rfl : l = 0 := by omega
    exact .inl ⟨⟨_, rfl⟩, rfl⟩
  · cases e
    right
    by_cases hcl : cp = l
    · subst hcl
      refine ⟨g, o, cp - cp, by simp [off], by omega, fun i u hu => ?_⟩
      have : i < ((xs.drop (cp * m)).take ((r - cp) * m)).length := (List.getElem?_eq_some_iff.1 hu).1
      rw [hlen, show r - cp = 0 from by omega] at this
      omega
    · refine ⟨g, o + l * m, cp - l, by simp [off, hcl, add_addr], by omega, fun i u hu => ?_⟩
      rw [List.getElem?_take] at hu
      split at hu
      · rw [List.getElem?_drop] at hu
        rw [Nat.add_assoc]; exact hx _ _ hu
      · cases hu

/-- a byte in memory -/
def B (b : UInt8) : Value := .int .u8 (b.toNat : Int)

section
variable {P : Program} {σ : Slots} {ty : TypeId} {ps : String} {af : Array Edge} {g : Option (Nat × Bool)} {d : Option Nat} {c : Ctx} {Ω : List Itm} {h : HV}

theorem foldl_bytes (l : List UInt8) : ∀ s : ByteArray, (l.map fun b => (b.toNat : Int)).foldl (fun r n => r.push (UInt8.ofNat n.toNat)) s = ⟨(s.data.toList ++ l).toArray⟩ := by
  induction l with
  | nil => intro s; simp
  | cons b r ih =>
    intro s
    simp only [List.map_cons, List.foldl_cons]
    rw [ih]
    apply ByteArray.ext
    simp [ByteArray.push]

/-- bytes of the call's own, as a text -/
theorem Val.strbytes {T T' e j N : Nat} {x : Operand} {v : Value} {l : List UInt8} (hT : P.underlying T = some (.slice e)) (he : P.underlying e = some (.int .u8)) (hT' : P.underlying T' = some .string) (hx : ev σ x = some v)
    (hj : Ω[j]? = some (row e 1 v N (l.map B))) : Val P σ (Mem c Ω h) ⟨d, .convert T T' x, ty, ps, af, g⟩ (str l) := fun ρ w hρ hw => by
  have hown : w.ownsRow 0 e 1 v N (l.map B) := hw.own _ (List.mem_of_getElem? hj)
  have hl : l.length = N := by have := hown.1; simpa using this
  have hrun : (convert T T' v).run P w = .ok (str l) w := by
    rcases hown.2 with ⟨rfl, rfl⟩ | ⟨gb, cap, cur, rfl, _, hg, hn, _, hs, ht⟩
    · have : l = [] := List.length_eq_zero_iff.1 hl
      subst this
      rw [run_convert_bytes_string w T T' e none 0 0 hT he hT']
      simp [Conv.bytesToString, str]
      rfl
    · rw [run_convert_bytes_string w T T' e _ N cap hT he hT']
      have hload : (loadCells ⟨gb, 0, none⟩ N).run P w = .ok ((l.map fun b => (b.toNat : Int)).map (Value.int .u8)).toArray w := by
        have h1 := run_loadCells_list (P := P) w ⟨gb, 0, none⟩ (l.map B) (fun i u hu => by
          rw [add_addr, Nat.zero_add, cell_of_row w gb i cur e (0, 0) hg]
          have h2 : (cur.toList.take (N * 1))[i]? = some u := by rw [ht]; exact hu
          rw [List.getElem?_take] at h2
          split at h2
          · simpa using h2
          · cases h2)
        rw [List.length_map, hl] at h1
        rw [h1]
        simp [List.map_map, B, Function.comp_def]
      rw [run_bytesToString w ⟨gb, 0, none⟩ N cap _ hload, foldl_bytes]
      simp [str]
  simp only [execOp, hρ x _ hx, Sem.run_bind, hrun, Result.andThen_ok]
  simp
end
end Go.Sy
