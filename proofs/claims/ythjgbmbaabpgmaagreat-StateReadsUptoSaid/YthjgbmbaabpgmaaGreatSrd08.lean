/-
  The walk's own logic, tenth part: a slice of the call's own, laid open and shut.
-/
import Derived.Test.YthjgbmbaabpgmaaGreatSrd07
import Derived.Lib.AppendStr
set_option linter.unusedVariables false
set_option linter.unusedSimpArgs false
set_option linter.unusedSectionVars false
namespace Go.Sy
open Go Go.RowKit

theorem Comes1.mono {P : Program} {R R' : Value → World → Prop} {r : Result Next} (h : Comes1 P R r) (hr : ∀ v w, R v w → R' v w) : Comes1 P R' r := by
  unfold Comes1 at *
  split at h
  · exact hr _ _ h
  · exact hr _ _ h
  · refine Calls.mono h ?_
    rintro e w' ⟨v, rfl, hv⟩
    exact ⟨v, rfl, hr _ _ hv⟩
  · exact h.elim
theorem Eff.mono {P : Program} {σ : Slots} {S : World → Prop} {o : Oper} {R R' : Value → World → Prop} (h : Eff P σ S o R) (hr : ∀ v w, R v w → R' v w) : Eff P σ S o R' := fun ρ w hρ hw => (h ρ w hρ hw).mono hr

section
variable {P : Program} {Q : Exit → Act → World → Prop} {n : Sz} {σ : Slots} {k : List It} {c : Ctx} {Ω : List Itm} {h : HV}
theorem Mem.retag {i j : Itm} {w : World} (t : Nat) (ht : Ω[t]? = some i) (m : Mem c Ω h w) (hj : j.ok w) (hB : ∀ b, j.B b → i.B b) : Mem c (Ω.set t j) h w :=
  m.change_at t ht rfl rfl rfl (Nat.le_refl _) (fun _ _ _ => rfl) hj (fun b hb => .inl (hB b hb))

theorem At.open_row {e size N : Nat} {v : Value} {xs : List Value} (t : Nat) (ht : Ω[t]? = some (row e size v N xs)) (hN : 0 < N)
    (hk : ∀ g cp rest, v = .slice (some ⟨g, 0, none⟩) N cp → xs.length = N * size → (xs ++ rest).length = cp * size → N ≤ cp → cp ≤ maxLen → At P Q n σ (Mem c (Ω.set t (cells g (xs ++ rest) e)) h) k) :
    At P Q n σ (Mem c Ω h) k := fun a w ha m => by
  have hr : w.ownsRow 0 e size v N xs := m.own _ (List.mem_of_getElem? ht)
  obtain ⟨hl, h0 | ⟨g, cap, cur, rfl, _, hg, h1, h2, h3, h4⟩⟩ := hr
  · omega
  · have e1 : cur.toList = xs ++ cur.toList.drop (N * size) := by rw [← h4, List.take_append_drop]
    refine hk g cap (cur.toList.drop (N * size)) rfl hl (by rw [← e1]; simpa using h3) h1 h2 a w ha ?_
    refine m.retag t ht ?_ (fun b hb => ?_)
    · show w.heap[g]? = _
      rw [← e1]; simpa using hg
    · have : b = g := hb
      subst this; rfl
theorem At.row_form {e size N : Nat} {v : Value} {xs : List Value} (t : Nat) (ht : Ω[t]? = some (row e size v N xs)) (hk : ∀ a cp, v = .slice a N cp → At P Q n σ (Mem c Ω h) k) : At P Q n σ (Mem c Ω h) k := fun a w ha m => by
  have hr : w.ownsRow 0 e size v N xs := m.own _ (List.mem_of_getElem? ht)
  obtain ⟨hl, ⟨h0, h1⟩ | ⟨g, cap, cur, hv, _⟩⟩ := hr
  · exact hk none 0 (by rw [h0, h1]) a w ha m
  · exact hk _ _ hv a w ha m
theorem At.close_row {e size N g cp : Nat} {xs rest : List Value} (t : Nat) (ht : Ω[t]? = some (cells g (xs ++ rest) e)) (hl : xs.length = N * size) (hr : (xs ++ rest).length = cp * size) (h1 : N ≤ cp) (h2 : cp ≤ maxLen)
    (hk : At P Q n σ (Mem c (Ω.set t (row e size (.slice (some ⟨g, 0, none⟩) N cp) N xs)) h) k) : At P Q n σ (Mem c Ω h) k := fun a w ha m => by
  have hg : w.heap[g]? = some (.cells (xs ++ rest).toArray e (0, 0)) := m.own _ (List.mem_of_getElem? ht)
  refine hk a w ha (m.retag t ht ?_ (fun b hb => ?_))
  · refine ⟨hl, .inr ⟨g, cp, _, rfl, Nat.zero_le _, hg, h1, h2, by simpa using hr, ?_⟩⟩
    simp [← hl]
  · have hb' : (Value.slice (some ⟨g, 0, none⟩) N cp).ownBlock = some b := hb
    simp [Value.ownBlock] at hb'
    exact hb'.symm
theorem set_mid {A B : List Value} {i k o : Nat} {v : Value} (hA : A.length = i) (ho : o = i + k) : (A ++ B).set o v = A ++ B.set k v := by
  subst ho hA
  rw [List.set_append_right _ _ (by omega)]; simp
theorem get_mid {A B : List Value} {i k o : Nat} (hA : A.length = i) (ho : o = i + k) : (A ++ B)[o]? = B[k]? := by
  subst ho hA
  rw [List.getElem?_append_right (by omega)]; simp
/-- the cells of an element of a row -/
theorem flat_drop {α : Type} {f : α → List Value} {m : Nat} (hf : ∀ a, (f a).length = m) : ∀ (d : List α) (i : Nat), (d.flatMap f).drop (i * m) = (d.drop i).flatMap f
  | [], i => by simp
  | a :: d, 0 => by simp
  | a :: d, i + 1 => by
    rw [List.flatMap_cons, List.drop_append, hf, List.drop_eq_nil_of_le (by rw [hf, Nat.succ_mul]; omega), show (i + 1) * m - m = i * m by rw [Nat.succ_mul]; omega, flat_drop hf d i]; simp
theorem flat_take {α : Type} {f : α → List Value} {m : Nat} (hf : ∀ a, (f a).length = m) : ∀ (d : List α) (i : Nat), (d.flatMap f).take (i * m) = (d.take i).flatMap f
  | [], i => by simp
  | a :: d, 0 => by simp
  | a :: d, i + 1 => by
    rw [List.flatMap_cons, List.take_append, hf, List.take_of_length_le (by rw [hf, Nat.succ_mul]; omega), show (i + 1) * m - m = i * m by rw [Nat.succ_mul]; omega, flat_take hf d i]; simp

theorem off_none (cp l b o m : Nat) : off cp l ⟨b, o, none⟩ m = ⟨b, if cp = l then o else o + l * m, none⟩ := by
  unfold off; split
  · rfl
  · rw [add_addr]
/-- all but the first of a row in memory -/
theorem RowH.tail {α : Type} {f : α → List Value} {m : Nat} (hf : ∀ a, (f a).length = m) {h : HV} {b o cp : Nat} {x : α} {l : List α} (r : RowH f m h (.slice (some ⟨b, o, none⟩) (x :: l).length cp) (x :: l)) :
    RowH f m h (.slice (some ⟨b, if cp = 1 then o else o + 1 * m, none⟩) l.length (cp - 1)) l := by
  have h1 := SlH.part r 1 (x :: l).length (by simp) (Nat.le_refl _) _ rfl
  rw [off_none] at h1
  have e : (x :: l).length - 1 = l.length := by simp
  rw [e] at h1
  unfold RowH
  have e2 : (((x :: l).flatMap f).drop (1 * m)).take (l.length * m) = l.flatMap f := by
    rw [flat_drop hf]
    simp only [List.drop_succ_cons, List.drop_zero]
    rw [List.take_of_length_le]
    rw [flat_length f m hf]; exact Nat.le_refl _
  rw [e2] at h1
  exact h1
theorem RowH.flatc {α : Type} {f : α → List Value} {m : Nat} {h : HV} {b o cp : Nat} {l : List α} (r : RowH f m h (.slice (some ⟨b, o, none⟩) l.length cp) l) : ∀ i u, (l.flatMap f)[i]? = some u → cellH h b (o + i) = some u := by
  rcases r.2 with ⟨_, e⟩ | ⟨b', o', cp', e, _, hx⟩
  · rw [List.eq_nil_of_length_eq_zero e]; intro i u hu; simp at hu
  · cases e; exact hx

/-- a text put behind bytes of the call's own -/
theorem Eff.appendStr {T U e j N : Nat} {x y : Operand} {v : Value} {xs : List Value} {l : List UInt8} {ty : TypeId} {ps : String} {af : Array Edge} {g : Option (Nat × Bool)} {d : Option Nat}
    (hT : elt P T = some (e, 1, 1)) (he : zval P e = some (.int .u8 0)) (hU : P.underlying U = some .string) (hx : ev σ x = some v) (hy : ev σ y = some (str l))
    (hj : Ω[j]? = some (row e 1 v N xs)) (hN : N + l.length ≤ 140737488355328) :
    Eff P σ (Mem c Ω h) ⟨d, .call ⟨.builtin .append, #[x, y], #[T, U]⟩, ty, ps, af, g⟩ fun v' w => Mem c (Ω.set j (row e 1 v' (N + l.length) (xs ++ l.map B))) h w := fun ρ w hρ hw => by
  obtain ⟨hu, i, z, hi, hz, hs, hb, hzc, hpos⟩ := elt_spec hT
  have hz' : i.zero = some (.int .u8 0) := by
    have := he; unfold zval at this; rw [hi] at this; exact this
  have hown : w.ownsRow 0 e 1 v N xs := hw.own _ (List.mem_of_getElem? hj)
  have hsz : (⟨l.toArray⟩ : ByteArray).size = l.length := by simp [ByteArray.size]
  have hcells : Lib.strCells ⟨l.toArray⟩ = l.map B := by simp [Lib.strCells, B]
  obtain ⟨v', w', hr, hown', hgr, hnil⟩ := Lib.run_append_own_string (P := P) w 0 T U ty e i hu hU hi hz' hs hb v N xs hown ⟨l.toArray⟩ (by rw [hsz]; unfold maxLen; omega) (by rw [hsz]; omega) (Nat.zero_le _)
  have hat : v'.ownBlock = v.ownBlock ∨ v'.ownBlock = some w.heap.size := by
    rcases hown.2 with ⟨rfl, rfl⟩ | ⟨gb, cap, cur, rfl, _, hg, hnc, hcm, hcs, _⟩
    · by_cases hm : (⟨l.toArray⟩ : ByteArray).size = 0
      · left
        rw [hnil.2 ⟨rfl, hm⟩]
      · have h2 := run_append_nil_string (P := P) w T U ty e i (.int .u8 0) hu hU hi hz' ⟨l.toArray⟩ (by omega) (by rw [hsz]; omega) (by rw [hb, hsz]; omega)
        rw [hr] at h2
        cases h2
        exact .inr rfl
    · by_cases hroom : N + (⟨l.toArray⟩ : ByteArray).size ≤ cap
      · have h2 := Lib.run_append_room_string (P := P) w T U ty e i hu hU hi hs gb N cap cur hg ⟨l.toArray⟩ hroom (by simp at hcs; omega)
        rw [hr] at h2
        cases h2
        exact .inl rfl
      · have h2 := Lib.run_append_grow_string (P := P) w T U ty e i (.int .u8 0) hu hU hi hz' ⟨gb, 0, none⟩ N cap xs (by rw [hs]; exact hown.1) (hown.cells (g := gb) rfl) ⟨l.toArray⟩ (by omega) (by rw [hsz]; omega) (by rw [hb, hsz]; exact growslice_fits (by omega) (by omega))
        rw [hr] at h2
        cases h2
        exact .inr rfl
  have : (execOp ρ ⟨d, .call ⟨.builtin .append, #[x, y], #[T, U]⟩, ty, ps, af, g⟩).run P w = .ok (.value v') w' := by
    simp [execOp, resolve, hρ x _ hx, hρ y _ hy, invoke, builtin, str, hr]
  rw [this]
  rw [hsz, hcells] at hown'
  refine hw.change_at j hj hgr.os hgr.tape hgr.output hgr.size (fun k hk hnk => hgr.block k hk (fun e => hnk (by show v.ownBlock = some k; exact e.symm))) hown' (fun k hk => ?_)
  have hk' : v'.ownBlock = some k := hk
  rcases hat with h2 | h2
  · left; show v.ownBlock = some k; rw [← h2]; exact hk'
  · right; rw [h2] at hk'; cases hk'; exact Nat.le_refl _
end
end Go.Sy
