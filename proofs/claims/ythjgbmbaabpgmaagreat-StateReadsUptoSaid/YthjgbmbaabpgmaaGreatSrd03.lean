/-
  The walk's own logic, fourth part: memory's operations, calls, the frame of a function.
-/
import Derived.Test.YthjgbmbaabpgmaaGreatSrd02
set_option linter.unusedVariables false
set_option linter.unusedSimpArgs false
set_option linter.unusedSectionVars false
namespace Go.Sy
open Go Go.RowKit

/-- a field's place, in cells -/
def fldOff (P : Program) (T i : Nat) : Option Nat :=
  match P.underlying T with
  | some (.struct fs) => match fs[i]? with
    | some f => match P.info? f.type with
      | some inf => if inf.size = 0 then none else some f.offset
      | none => none
    | none => none
  | _ => none

/-- is a type a struct's or an array's, and how many cells has it? -/
def lay (P : Program) (T : Nat) : Option (Bool × Nat) :=
  match P.underlying T, P.info? T with
  | some d, some i => some ((match d with | .struct _ | .array _ _ => true | _ => false), i.size)
  | _, _ => none

/-- the zero of a type -/
def zero (P : Program) (T : Nat) : Option (Array Value) := ((P.info? T).bind (·.zero)).map (·.cells)

theorem lay_isAgg {P : Program} {T : Nat} {b : Bool} {m : Nat} (h : lay P T = some (b, m)) (w : World) : (isAgg T).run P w = .ok b w := by
  unfold lay at h
  split at h
  · rename_i d i hd hi
    have hb := (Prod.mk.inj (Option.some.inj h)).1
    unfold isAgg
    rw [Sem.run_bind, run_underlying hd w]
    cases d <;> simp_all
  · cases h

theorem lay_size {P : Program} {T : Nat} {b : Bool} {m : Nat} (h : lay P T = some (b, m)) : (P.info? T).map (·.size) = some m := by
  unfold lay at h
  split at h
  · rename_i d i hd hi
    have hb := (Prod.mk.inj (Option.some.inj h)).2
    simp [hi, hb]
  · cases h

theorem lay_sizeOf {P : Program} {T : Nat} {b : Bool} {m : Nat} (h : lay P T = some (b, m)) (w : World) : (sizeOf T).run P w = .ok m w := by
  have hs := lay_size h
  cases hi : P.info? T with
  | none => simp [hi] at hs
  | some i => simp [hi] at hs; simp [sizeOf, typeInfo, hi, hs]

theorem zero_run {P : Program} {T : Nat} {z : Array Value} (h : zero P T = some z) (w : World) : ∃ v, v.cells = z ∧ (zeroValue T).run P w = .ok v w := by
  unfold zero at h
  cases hi : P.info? T with
  | none => simp [hi] at h
  | some i =>
    cases hz : i.zero with
    | none => simp [hi, hz] at h
    | some v => simp [hi, hz] at h; exact ⟨v, h, by simp [zeroValue, typeInfo, hi, hz]⟩

theorem add_addr (b o n : Nat) : (⟨b, o, none⟩ : Addr).add n = ⟨b, o + n, none⟩ := by unfold Addr.add; split <;> simp_all

/-- a cell of memory that stays as it is -/
def cellH (h : HV) (b o : Nat) : Option Value :=
  match h b with
  | some (.cells c _ _) => c[o]?
  | _ => none

theorem Mem.cellH {c : Ctx} {Ω : List Itm} {h : HV} {w : World} (m : Mem c Ω h w) {b o : Nat} {v : Value} (hc : cellH h b o = some v) : w.cell? ⟨b, o, none⟩ = some v := by
  unfold Sy.cellH at hc
  split at hc
  · rename_i cs T fr hb
    simp [World.cell?, m.hv b _ hb, hc]
  · cases hc

section
variable {P : Program} {σ : Slots} {S : World → Prop} {ty : TypeId} {ps : String} {af : Array Edge} {g : Option (Nat × Bool)} {d : Option Nat}
variable {c : Ctx} {Ω : List Itm} {h : HV}

theorem Val.fieldAddr {T i k b o : Nat} {x : Operand} (hf : fldOff P T i = some k) (hx : ev σ x = some (.pointer (some ⟨b, o, none⟩))) : Val P σ S ⟨d, .fieldAddr T x i, ty, ps, af, g⟩ (.pointer (some ⟨b, o + k, none⟩)) := fun ρ w hρ _ => by
  unfold fldOff at hf
  split at hf
  · rename_i fs hu
    split at hf
    · rename_i f hfi
      split at hf
      · rename_i inf hinf
        split at hf
        · cases hf
        · rename_i hne
          cases hf
          simp [execOp, hρ x _ hx, Instr.fieldAt, run_underlying hu, hfi, Instr.sureAddr, fieldPlace, sizeOf, typeInfo, hinf, hne, add_addr]
      · cases hf
    · cases hf
  · cases hf

theorem Val.indexAddr {T e m b o n cp : Nat} {x ix : Operand} {K : IntKind} {i : Nat} {ag : Bool} (hT : P.underlying T = some (.slice e)) (hm : lay P e = some (ag, m)) (hx : ev σ x = some (.slice (some ⟨b, o, none⟩) n cp)) (hi : ev σ ix = some (.int K (i : Int)))
    (hlt : i < n) : Val P σ S ⟨d, .indexAddr T x ix, ty, ps, af, g⟩ (.pointer (some ⟨b, o + i * m, none⟩)) := fun ρ w hρ _ => by
  simp [execOp, hρ x _ hx, hρ ix _ hi, Instr.indexAt, asIntOf, run_underlying hT, lay_sizeOf hm, add_addr]
  omega

theorem Val.load {T b o m : Nat} {x : Operand} {v : Value} (hT : lay P T = some (false, m)) (hx : ev σ x = some (.pointer (some ⟨b, o, none⟩)))
    (hc : ∀ w, S w → w.cell? ⟨b, o, none⟩ = some v) : Val P σ S ⟨d, .load T x, ty, ps, af, g⟩ v := fun ρ w hρ hw => by
  simp [execOp, hρ x _ hx, Instr.loadAt, Instr.sureAddr, loadVar, lay_isAgg hT, Go.load, Sem.run, hc w hw]

theorem Val.loadN {T b o m : Nat} {x : Operand} {cs : List Value} (hT : lay P T = some (true, m)) (hx : ev σ x = some (.pointer (some ⟨b, o, none⟩))) (hm : cs.length = m)
    (hc : ∀ w, S w → ∀ i u, cs[i]? = some u → w.cell? ⟨b, o + i, none⟩ = some u) : Val P σ S ⟨d, .load T x, ty, ps, af, g⟩ (.agg cs.toArray) := fun ρ w hρ hw => by
  have hl : (loadCells ⟨b, o, none⟩ m).run P w = .ok cs.toArray w := by
    rw [← hm]
    exact run_loadCells_list (P := P) w ⟨b, o, none⟩ cs (fun j v hv => by rw [add_addr]; exact hc w hw j v hv)
  simp [execOp, hρ x _ hx, Instr.loadAt, Instr.sureAddr, loadVar, lay_isAgg hT, lay_sizeOf hT, hl]

/-- a cell of what is owned -/
theorem Mem.cell {n b T o : Nat} {cs : List Value} {fr : Nat × Nat} {w : World} {v : Value} (m : Mem c Ω h w) (hn : Ω[n]? = some (blk b (.cells cs.toArray T fr))) (hv : cs[o]? = some v) : w.cell? ⟨b, o, none⟩ = some v := by
  have hw : w.heap[b]? = some (.cells cs.toArray T fr) := m.own _ (List.mem_of_getElem? hn)
  simp [World.cell?, hw, hv]

theorem Val.loadO {T b o m n U : Nat} {cs : List Value} {fr : Nat × Nat} {x : Operand} {v : Value} (hT : lay P T = some (false, m)) (hx : ev σ x = some (.pointer (some ⟨b, o, none⟩)))
    (hn : Ω[n]? = some (blk b (.cells cs.toArray U fr))) (hv : cs[o]? = some v) : Val P σ (Mem c Ω h) ⟨d, .load T x, ty, ps, af, g⟩ v := Val.load hT hx fun _ hw => hw.cell hn hv

theorem Val.loadOA {T b m n U : Nat} {cs : List Value} {fr : Nat × Nat} {x : Operand} (hT : lay P T = some (true, m)) (hx : ev σ x = some (.pointer (some ⟨b, 0, none⟩)))
    (hn : Ω[n]? = some (blk b (.cells cs.toArray U fr))) (hm : cs.length = m) : Val P σ (Mem c Ω h) ⟨d, .load T x, ty, ps, af, g⟩ (.agg cs.toArray) :=
  Val.loadN hT hx hm fun _ hw i u hu => hw.cell hn (by simpa using hu)

theorem Val.loadH {T b o m : Nat} {x : Operand} {v : Value} (hT : lay P T = some (false, m)) (hx : ev σ x = some (.pointer (some ⟨b, o, none⟩)))
    (hc : cellH h b o = some v) : Val P σ (Mem c Ω h) ⟨d, .load T x, ty, ps, af, g⟩ v := Val.load hT hx fun _ hw => hw.cellH hc

theorem Val.loadHA {T b o m : Nat} {x : Operand} {cs : List Value} (hT : lay P T = some (true, m)) (hx : ev σ x = some (.pointer (some ⟨b, o, none⟩))) (hm : cs.length = m)
    (hc : ∀ i u, cs[i]? = some u → cellH h b (o + i) = some u) : Val P σ (Mem c Ω h) ⟨d, .load T x, ty, ps, af, g⟩ (.agg cs.toArray) := Val.loadN hT hx hm fun _ hw i u hu => hw.cellH (hc i u hu)

/-- a new variable -/
theorem Eff.box {T : Nat} {x : Operand} {v : Value} (hx : ev σ x = some v) :
    Eff P σ (Mem c Ω h) ⟨d, .box T x, ty, ps, af, g⟩ fun u w => ∃ b, u = .pointer (some ⟨b, 0, none⟩) ∧ Mem c (blk b (.cells v.cells T (0, 0)) :: Ω) h w := fun ρ w hρ hw => by
  have : (execOp ρ ⟨d, .box T x, ty, ps, af, g⟩).run P w = .ok (.value (.pointer (some ⟨w.heap.size, 0, none⟩))) (w.alloc (.cells v.cells T (0, 0))) := by
    simp [execOp, hρ x _ hx, Instr.box, newVar, newRow, newObj, Sem.run]
  rw [this]
  exact ⟨_, rfl, hw.alloc _⟩

theorem Eff.alloc {T : Nat} {z : Array Value} (hz : zero P T = some z) :
    Eff P σ (Mem c Ω h) ⟨d, .alloc T, ty, ps, af, g⟩ fun u w => ∃ b, u = .pointer (some ⟨b, 0, none⟩) ∧ Mem c (blk b (.cells z T (0, 0)) :: Ω) h w := fun ρ w hρ hw => by
  obtain ⟨v, hv, hr⟩ := zero_run hz w
  have : (execOp ρ ⟨d, .alloc T, ty, ps, af, g⟩).run P w = .ok (.value (.pointer (some ⟨w.heap.size, 0, none⟩))) (w.alloc (.cells z T (0, 0))) := by
    simp [execOp, Instr.alloc, hr, newVar, newRow, newObj, Sem.run, hv]
  rw [this]
  exact ⟨_, rfl, hw.alloc _⟩

/-- the cells from o on are those of l -/
def sets (cs : List Value) (o : Nat) : List Value → List Value
  | [] => cs
  | v :: r => sets (cs.set o v) (o + 1) r

theorem sets_length (cs : List Value) (o : Nat) (l : List Value) : (sets cs o l).length = cs.length := by
  induction l generalizing cs o with
  | nil => rfl
  | cons v r ih => simp [sets, ih]

theorem storeCells_own {b T : Nat} (P : Program) : ∀ (l : List Value) (i o : Nat) (cs : List Value) (w : World), w.heap[b]? = some (.cells cs.toArray T (0, 0)) → o + i + l.length ≤ cs.length → (l.all (·.oneCell') = true) →
    ∃ w', (storeCells ⟨b, o, none⟩ l i).run P w = .ok () w' ∧ w'.heap[b]? = some (.cells (sets cs (o + i) l).toArray T (0, 0)) ∧ w'.os = w.os ∧ w'.tape = w.tape ∧ w'.output = w.output ∧ w'.heap.size = w.heap.size ∧
      ∀ j, j ≠ b → w'.heap[j]? = w.heap[j]?
  | [], i, o, cs, w, hw, _, _ => ⟨w, by simp [storeCells], by simpa [sets] using hw, rfl, rfl, rfl, rfl, fun _ _ => rfl⟩
  | v :: r, i, o, cs, w, hw, hl, h1 => by
    simp only [List.length_cons] at hl
    simp only [List.all_cons, Bool.and_eq_true] at h1
    have hb : b < w.heap.size := (Array.getElem?_eq_some_iff.1 hw).1
    have hget : w.heap[b] = .cells cs.toArray T (0, 0) := by
      have := Array.getElem?_eq_some_iff.1 hw; exact this.2
    have hset : (w.setCell ⟨b, o + i, none⟩ v).heap[b]? = some (.cells (cs.set (o + i) v).toArray T (0, 0)) := by
      simp [World.setCell, Array.getElem?_modify, hw]
    obtain ⟨w', hr, hb', h2, h3, h4, h5, h6⟩ := storeCells_own P r (i + 1) o (cs.set (o + i) v) (w.setCell ⟨b, o + i, none⟩ v) hset (by simp; omega) h1.2
    have hcell : w.cell? ⟨b, o + i, none⟩ = some (cs[o + i]'(by omega)) := by simp [World.cell?, hw]
    have hfr : w.frozen? ⟨b, o + i, none⟩ = false := by simp [World.frozen?, hw]
    have hstep : (store ⟨b, o + i, none⟩ v).run P w = .ok () (w.setCell ⟨b, o + i, none⟩ v) := by
      have hv := h1.1
      cases v <;> simp_all [store, Sem.run, Value.oneCell']
    refine ⟨w', ?_, by simpa [sets, Nat.add_assoc] using hb', ?_, ?_, ?_, ?_, ?_⟩
    · simp only [storeCells, add_addr, Sem.run_bind, hstep, Result.andThen_ok, hr]
    · rw [h2]; rfl
    · rw [h3]; rfl
    · rw [h4]; rfl
    · rw [h5]; simp [World.setCell]
    · intro j hj
      rw [h6 j hj]
      simp only [World.setCell, Array.getElem?_modify]
      rw [if_neg (by omega)]

/-- a store into what is owned -/
theorem Eff.store {T b o m n U : Nat} {cs : List Value} {x y : Operand} {v : Value} {ag : Bool} (hT : lay P T = some (ag, m)) (hx : ev σ x = some (.pointer (some ⟨b, o, none⟩))) (hy : ev σ y = some v)
    (hn : Ω[n]? = some (cells b cs U)) (hm : v.cells.size = m) (hl : o + m ≤ cs.length) (h1 : v.cells.toList.all (·.oneCell') = true) :
    Eff P σ (Mem c Ω h) ⟨d, .store T x y, ty, ps, af, g⟩ fun _ w => Mem c (Ω.set n (cells b (sets cs o v.cells.toList) U)) h w := fun ρ w hρ hw => by
  have hb : w.heap[b]? = some (.cells cs.toArray U (0, 0)) := hw.own _ (List.mem_of_getElem? hn)
  obtain ⟨w', hr, hb', h2, h3, h4, h5, h6⟩ := storeCells_own P v.cells.toList 0 o cs w hb (by simp; omega) h1
  have : (execOp ρ ⟨d, .store T x y, ty, ps, af, g⟩).run P w = .ok .skip w' := by
    simp [execOp, hρ x _ hx, hρ y _ hy, Instr.storeAt, Instr.sureAddr, storeVar, lay_sizeOf hT, hm, hr]
  rw [this]
  refine hw.change_at n hn h2 h3 h4 (Nat.le_of_eq h5.symm) (fun j _ hj => h6 j hj) (show w'.heap[b]? = _ by simpa using hb') (fun j hj => .inl hj)

def evs (σ : Slots) : List Operand → Option (List Value)
  | [] => some []
  | x :: r => match ev σ x, evs σ r with
    | some v, some vs => some (v :: vs)
    | _, _ => none

theorem Fit.evs {ρ : Operand → Value} (h : Fit σ ρ) : ∀ {l : List Operand} {vs : List Value}, Sy.evs σ l = some vs → l.map ρ = vs
  | [], vs, e => by simp [Sy.evs] at e; simp [e]
  | x :: r, vs, e => by
    simp only [Sy.evs] at e
    split at e
    · rename_i v us h1 h2
      cases e
      simp [h x v h1, h.evs h2]
    · cases e

/-- is a number a function's that has a body? -/
def isFn (P : Program) (f : FuncId) : Bool :=
  match P.funcs[f]? with
  | some fn => fn.body.isSome && !(fn.name == "runtime.NumGoroutine")
  | none => false

theorem callFunc_run {f : FuncId} {args : Array Value} {w : World} (hf : isFn P f = true) : (callFunc f args).run P w = .ok (.enter f args) w := by
  unfold isFn at hf
  split at hf
  · rename_i fn hfn
    simp only [Bool.and_eq_true, Bool.not_eq_true'] at hf
    have hn : fn.body.isNone = false := by simpa using hf.1
    simp only [callFunc, program, Sem.run_bind, Sem.run, Result.andThen_ok, hfn, hf.2, hn]
    simp
  · cases hf

/-- a call of a function whose contract is known; Ωc is what it is handed -/
theorem Eff.call {f : FuncId} {xs : List Operand} {ts : Array TypeId} {args : List Value} {Ωc Ωr : List Itm} {post : Value → List Itm → HV → Prop}
    (hf : isFn P f = true) (ha : Sy.evs σ xs = some args) (hΩ : Ω = Ωc ++ Ωr) (hs : Does P f args.toArray Ωc h post) :
    Eff P σ (Mem c Ω h) ⟨d, .call ⟨.value (.func f), xs.toArray, ts⟩, ty, ps, af, g⟩ fun v w => ∃ Ω' h', post v Ω' h' ∧ Mem c (Ω' ++ Ωr) h' w := fun ρ w hρ hw => by
  subst hΩ
  have hfun : ρ (.func f) = .func (.func f) #[] #[] := hρ _ _ rfl
  have : (execOp ρ ⟨d, .call ⟨.value (.func f), xs.toArray, ts⟩, ty, ps, af, g⟩).run P w = .ok (.enter f args.toArray) w := by
    have hcf : (callFunc f args.toArray).run P w = .ok (.enter f args.toArray) w := callFunc_run hf
    simp [execOp, resolve, hfun, Deferred.ofValue, hρ.evs ha, invoke, hcf]
  rw [this]
  refine Calls.mono (hs w hw.hand) ?_
  rintro e w' ⟨v, rfl, Ω', h', hp, hm⟩
  exact ⟨v, rfl, Ω', h', hp, hw.call hm⟩

/-- a call of a function value: a function literal with what it has captured -/
theorem Eff.callv {f : FuncId} {t : Nat} {xs : List Operand} {ts : Array TypeId} {args : List Value} {cap : Array Value} {Ωc Ωr : List Itm} {post : Value → List Itm → HV → Prop}
    (hf : isFn P f = true) (hv : lk σ t = some (.func (.func f) #[] cap)) (ha : Sy.evs σ xs = some args) (hΩ : Ω = Ωc ++ Ωr) (hs : Does P f (args.toArray ++ cap) Ωc h post) :
    Eff P σ (Mem c Ω h) ⟨d, .call ⟨.value (.tmp t), xs.toArray, ts⟩, ty, ps, af, g⟩ fun v w => ∃ Ω' h', post v Ω' h' ∧ Mem c (Ω' ++ Ωr) h' w := fun ρ w hρ hw => by
  subst hΩ
  have hfun : ρ (.tmp t) = .func (.func f) #[] cap := hρ _ _ hv
  have : (execOp ρ ⟨d, .call ⟨.value (.tmp t), xs.toArray, ts⟩, ty, ps, af, g⟩).run P w = .ok (.enter f (args.toArray ++ cap)) w := by
    have hcf : (callFunc f (args.toArray ++ cap)).run P w = .ok (.enter f (args.toArray ++ cap)) w := callFunc_run hf
    simp [execOp, resolve, hfun, Deferred.ofValue, hρ.evs ha, invoke, hcf]
  rw [this]
  refine Calls.mono (hs w hw.hand) ?_
  rintro e w' ⟨v, rfl, Ω', h', hp, hm⟩
  exact ⟨v, rfl, Ω', h', hp, hw.call hm⟩

/-- the same where what is handed over stands behind n others -/
theorem Eff.callAt (n : Nat) {f : FuncId} {xs : List Operand} {ts : Array TypeId} {args : List Value} {Ωc Ωr : List Itm} {post : Value → List Itm → HV → Prop}
    (hf : isFn P f = true) (ha : Sy.evs σ xs = some args) (hΩ : Ω.drop n = Ωc ++ Ωr) (hs : Does P f args.toArray Ωc h post) :
    Eff P σ (Mem c Ω h) ⟨d, .call ⟨.value (.func f), xs.toArray, ts⟩, ty, ps, af, g⟩ fun v w => ∃ Ω' h', post v Ω' h' ∧ Mem c (Ω' ++ (Ω.take n ++ Ωr)) h' w := fun ρ w hρ hw => by
  refine Eff.call (Ωr := Ω.take n ++ Ωr) hf ha rfl hs ρ w hρ (hw.perm ?_)
  conv => lhs; rw [← List.take_append_drop n Ω, hΩ]
  rw [← List.append_assoc, ← List.append_assoc]
  exact List.perm_append_comm.append_right _
theorem Eff.callvAt (n : Nat) {f : FuncId} {t : Nat} {xs : List Operand} {ts : Array TypeId} {args : List Value} {cap : Array Value} {Ωc Ωr : List Itm} {post : Value → List Itm → HV → Prop}
    (hf : isFn P f = true) (hv : lk σ t = some (.func (.func f) #[] cap)) (ha : Sy.evs σ xs = some args) (hΩ : Ω.drop n = Ωc ++ Ωr) (hs : Does P f (args.toArray ++ cap) Ωc h post) :
    Eff P σ (Mem c Ω h) ⟨d, .call ⟨.value (.tmp t), xs.toArray, ts⟩, ty, ps, af, g⟩ fun v w => ∃ Ω' h', post v Ω' h' ∧ Mem c (Ω' ++ (Ω.take n ++ Ωr)) h' w := fun ρ w hρ hw => by
  refine Eff.callv (Ωr := Ω.take n ++ Ωr) hf hv ha rfl hs ρ w hρ (hw.perm ?_)
  conv => lhs; rw [← List.take_append_drop n Ω, hΩ]
  rw [← List.append_assoc, ← List.append_assoc]
  exact List.perm_append_comm.append_right _
end

/-! ## The frame of a function -/
/-- slots from i on -/
def params (i : Nat) : List Value → Slots
  | [] => []
  | v :: r => (i, v) :: params (i + 1) r

theorem params_lk : ∀ (l : List Value) (i t : Nat) (v : Value), lk (params i l) t = some v → i ≤ t ∧ l[t - i]? = some v
  | [], i, t, v, h => by simp [params, lk] at h
  | u :: r, i, t, v, h => by
    rw [params, lk_cons] at h
    split at h
    · rename_i e; subst e; cases h; simp
    · have := params_lk r (i + 1) t v h
      refine ⟨by omega, ?_⟩
      rw [show t - i = (t - (i + 1)) + 1 from by omega]
      simpa using this.2

def retPost (c : Ctx) (post : Value → List Itm → HV → Prop) : Ending → World → Prop :=
  fun e w' => ∃ v, e = .returned v ∧ ∃ Ω' h', post v Ω' h' ∧ Mem c Ω' h' w'

section
variable {P : Program} {fn : Func} {n : Nat} {σ : Slots} {S : World → Prop} {k : List It} {c : Ctx} {Ω Ω' : List Itm} {h : HV} {post : Value → List Itm → HV → Prop} {n0 : Sz}

theorem Does.of {f : FuncId} {args : List Value} {body : Code} (hf : P.funcs[f]? = some fn) (hb : fn.body = some body) (hn : fn.ntmps = n) (ha : Nat.ble args.length n = true)
    (h1 : ∀ c, c.h0 = h → At P (bodyPost P fn (retPost c post)) ⟨n, []⟩ (params 0 args) (Mem c Ω h) [.code body]) : Does P f args.toArray Ω h post := by
  intro w0 hm
  refine calls_of_wp hf hb ?_
  have hle : args.length ≤ n := Nat.le_of_ble_eq_true ha
  refine wp_mono (h1 (ctx w0 Ω h) rfl _ _ ⟨rfl, by simp [hn]; omega, ?_⟩ hm) fun e a w hq => hq
  intro t v ht
  have ⟨_, hv⟩ := params_lk args 0 t v ht
  simp at hv
  have hlt : t < args.length := (List.getElem?_eq_some_iff.1 hv).1
  simp [Array.getElem?_append, hlt]
  exact (List.getElem?_eq_some_iff.1 hv).2

def resSem (tmps : Array Value) : ResultVar → Sem Value
  | .tmp t => pure (tmps.getD t undef)
  | .cell p t => do loadVar t (← asAddr (tmps.getD p undef))

theorem results_eq (fn : Func) (tmps : Array Value) : results fn tmps = (do let vs ← fn.results.mapM (resSem tmps); pure (if h : vs.size = 1 then vs[0] else .tuple vs)) := by
  unfold results
  congr 2

/-- a result's value -/
def Res (P : Program) (σ : Slots) (S : World → Prop) (r : ResultVar) (v : Value) : Prop :=
  ∀ n a w, Sees n σ a → S w → (resSem a.tmps r).run P w = .ok v w

theorem Res.tmp {t : Nat} {v : Value} (hv : lk σ t = some v) : Res P σ S (.tmp t) v := fun n a w ha _ => by
  simp [resSem, ha.val t v hv]

theorem Res.cell {T b p m j U : Nat} {cs : List Value} {v : Value} (hT : lay P T = some (false, m)) (hp : lk σ p = some (.pointer (some ⟨b, 0, none⟩))) (hj : Ω[j]? = some (cells b cs U)) (hv : cs[0]? = some v) :
    Res P σ (Mem c Ω h) (.cell p T) v := fun n a w ha hw => by
  simp [resSem, ha.val _ _ hp, asAddr, loadVar, lay_isAgg hT, Go.load, Sem.run, hw.cell hj hv]

theorem Res.cellA {T b p m j U : Nat} {cs : List Value} (hT : lay P T = some (true, m)) (hp : lk σ p = some (.pointer (some ⟨b, 0, none⟩))) (hj : Ω[j]? = some (cells b cs U)) (hm : cs.length = m) :
    Res P σ (Mem c Ω h) (.cell p T) (.agg cs.toArray) := fun n a w ha hw => by
  have hl : (loadCells ⟨b, 0, none⟩ m).run P w = .ok cs.toArray w := by
    rw [← hm]
    exact run_loadCells_list (P := P) w ⟨b, 0, none⟩ cs (fun j v hv => by rw [add_addr]; exact hw.cell hj (by simpa using hv))
  simp [resSem, ha.val _ _ hp, asAddr, loadVar, lay_isAgg hT, lay_sizeOf hT, hl]

theorem results1 {r : ResultVar} {v : Value} {a : Act} {w : World} (hr : fn.results = #[r]) (ha : Sees n0 σ a) (hw : S w) (h1 : Res P σ S r v) : (results fn a.tmps).run P w = .ok v w := by
  have e1 := h1 n0 a w ha hw
  simp [results_eq, hr, e1]
theorem results2 {r1 r2 : ResultVar} {v1 v2 : Value} {a : Act} {w : World} (hr : fn.results = #[r1, r2]) (ha : Sees n0 σ a) (hw : S w) (h1 : Res P σ S r1 v1) (h2 : Res P σ S r2 v2) :
    (results fn a.tmps).run P w = .ok (.tuple #[v1, v2]) w := by
  have e1 := h1 n0 a w ha hw
  have e2 := h2 n0 a w ha hw
  simp [results_eq, hr, e1, e2]
theorem results3 {r1 r2 r3 : ResultVar} {v1 v2 v3 : Value} {a : Act} {w : World} (hr : fn.results = #[r1, r2, r3]) (ha : Sees n0 σ a) (hw : S w) (h1 : Res P σ S r1 v1) (h2 : Res P σ S r2 v2) (h3 : Res P σ S r3 v3) :
    (results fn a.tmps).run P w = .ok (.tuple #[v1, v2, v3]) w := by
  have e1 := h1 n0 a w ha hw
  have e2 := h2 n0 a w ha hw
  have e3 := h3 n0 a w ha hw
  simp [results_eq, hr, e1, e2, e3]
theorem results0 {a : Act} {w : World} (hr : fn.results = #[]) : (results fn a.tmps).run P w = .ok (.tuple #[]) w := by
  simp [results_eq, hr]

/-- what is left when a function returns -/
theorem At.ret1 {r : ResultVar} {v : Value} (hr : fn.results = #[r]) (h1 : Res P σ (Mem c Ω h) r v) (hs : Ω'.Sublist Ω) (hp : post v Ω' h) :
    At P (bodyPost P fn (retPost c post)) ⟨n, []⟩ σ (Mem c Ω h) (.code .ret :: k) :=
  At.ret fun _ _ ha hw => ⟨ha.defers, v, results1 hr ha hw h1, v, rfl, Ω', h, hp, hw.sub hs⟩
theorem At.ret2 {r1 r2 : ResultVar} {v1 v2 : Value} (hr : fn.results = #[r1, r2]) (h1 : Res P σ (Mem c Ω h) r1 v1) (h2 : Res P σ (Mem c Ω h) r2 v2) (hs : Ω'.Sublist Ω) (hp : post (.tuple #[v1, v2]) Ω' h) :
    At P (bodyPost P fn (retPost c post)) ⟨n, []⟩ σ (Mem c Ω h) (.code .ret :: k) :=
  At.ret fun _ _ ha hw => ⟨ha.defers, _, results2 hr ha hw h1 h2, _, rfl, Ω', h, hp, hw.sub hs⟩
theorem At.ret3 {r1 r2 r3 : ResultVar} {v1 v2 v3 : Value} (hr : fn.results = #[r1, r2, r3]) (h1 : Res P σ (Mem c Ω h) r1 v1) (h2 : Res P σ (Mem c Ω h) r2 v2) (h3 : Res P σ (Mem c Ω h) r3 v3) (hs : Ω'.Sublist Ω) (hp : post (.tuple #[v1, v2, v3]) Ω' h) :
    At P (bodyPost P fn (retPost c post)) ⟨n, []⟩ σ (Mem c Ω h) (.code .ret :: k) :=
  At.ret fun _ _ ha hw => ⟨ha.defers, _, results3 hr ha hw h1 h2 h3, _, rfl, Ω', h, hp, hw.sub hs⟩
theorem At.ret0 (hr : fn.results = #[]) (hs : Ω'.Sublist Ω) (hp : post (.tuple #[]) Ω' h) :
    At P (bodyPost P fn (retPost c post)) ⟨n, []⟩ σ (Mem c Ω h) (.code .ret :: k) :=
  At.ret fun _ _ ha hw => ⟨ha.defers, _, results0 hr, _, rfl, Ω', h, hp, hw.sub hs⟩
/-- the text's end -/
theorem At.fin0 (hr : fn.results = #[]) (hs : Ω'.Sublist Ω) (hp : post (.tuple #[]) Ω' h) :
    At P (bodyPost P fn (retPost c post)) ⟨n, []⟩ σ (Mem c Ω h) [] :=
  fun _ _ ha hw => ⟨ha.defers, _, results0 hr, _, rfl, Ω', h, hp, hw.sub hs⟩
end
end Go.Sy
