/-
  The walk's own logic: what can be read, whether it is owned or stays; pointers compared with nil; bytes of a text; a look into a map that tells whether it is there.
-/
import Derived.Test.YthjgbmbaabpgmaaGreatSrd18
import Derived.Laws.IdiomStrings
import Derived.Test.YthjgbmbaabpgmaaGreatSrd05
import Derived.Test.YthjgbmbaabpgmaaGreatSrd21
import Derived.Shelf.SlIterI.Nil
import Derived.Shelf.SortM.Plain
import Derived.Shelf.SortM.SortNone
import Derived.Test.YthjgbmbaabpgmaaGreatProg
set_option linter.unusedVariables false
set_option linter.unusedSimpArgs false
set_option linter.unusedSectionVars false
namespace Go.Sy
open Go Go.RowKit

/-- where R is owned and h stays, this cell holds v -/
def CellR (R : List Itm) (h : HV) (b o : Nat) (v : Value) : Prop := ∀ c Ω h' w, HV.le h h' → (∀ i ∈ R, i ∈ Ω) → Mem c Ω h' w → w.cell? ⟨b, o, none⟩ = some v
/-- a slice that can be read where R is owned and h stays -/
def Reads (R : List Itm) (h : HV) (v : Value) (m n : Nat) (xs : List Value) : Prop :=
  xs.length = n * m ∧ (((∃ a, v = .slice a 0 0) ∧ n = 0) ∨ ∃ b o cp, v = .slice (some ⟨b, o, none⟩) n cp ∧ n ≤ cp ∧ ∀ i u, xs[i]? = some u → CellR R h b (o + i) u)
def RowRd {α : Type} (f : α → List Value) (m : Nat) (R : List Itm) (h : HV) (v : Value) (l : List α) : Prop := Reads R h v m l.length (l.flatMap f)

theorem CellR.ofH {R : List Itm} {h : HV} {b o : Nat} {v : Value} (hc : cellH h b o = some v) : CellR R h b o v := fun _ _ _ _ le _ hw => hw.cellH (le.cell hc)
theorem CellR.mono {R R' : List Itm} {h h' : HV} {b o : Nat} {v : Value} (r : CellR R h b o v) (le : HV.le h h') (hR : ∀ i ∈ R, i ∈ R') : CellR R' h' b o v := fun c Ω h'' w le' hs hw => r c Ω h'' w (le.trans le') (fun i hi => hs i (hR i hi)) hw
theorem Reads.ofH {R : List Itm} {h : HV} {v : Value} {m n : Nat} {xs : List Value} (s : SlH h v m n xs) : Reads R h v m n xs := by
  refine ⟨s.1, ?_⟩
  rcases s.2 with h1 | ⟨b, o, cp, rfl, hc, hx⟩
  · exact .inl h1
  · exact .inr ⟨b, o, cp, rfl, hc, fun i u hu => .ofH (hx i u hu)⟩
theorem Reads.mono {R R' : List Itm} {h h' : HV} {v : Value} {m n : Nat} {xs : List Value} (s : Reads R h v m n xs) (le : HV.le h h') (hR : ∀ i ∈ R, i ∈ R') : Reads R' h' v m n xs := by
  refine ⟨s.1, ?_⟩
  rcases s.2 with h1 | ⟨b, o, cp, rfl, hc, hx⟩
  · exact .inl h1
  · exact .inr ⟨b, o, cp, rfl, hc, fun i u hu => (hx i u hu).mono le hR⟩
theorem Reads.form {R : List Itm} {h : HV} {v : Value} {m n : Nat} {xs : List Value} (s : Reads R h v m n xs) : ∃ a cp, v = .slice a n cp := by
  rcases s.2 with ⟨⟨_, rfl⟩, rfl⟩ | ⟨b, o, cp, rfl, hc, hx⟩
  · exact ⟨_, _, rfl⟩
  · exact ⟨_, _, rfl⟩
theorem RowRd.mono {α : Type} {f : α → List Value} {m : Nat} {R R' : List Itm} {h h' : HV} {v : Value} {l : List α} (s : RowRd f m R h v l) (le : HV.le h h') (hR : ∀ i ∈ R, i ∈ R') : RowRd f m R' h' v l := Reads.mono s le hR
theorem RowRd.form {α : Type} {f : α → List Value} {m : Nat} {R : List Itm} {h : HV} {v : Value} {l : List α} (s : RowRd f m R h v l) : ∃ a cp, v = .slice a l.length cp := Reads.form s
theorem RowRd.elem {α : Type} {f : α → List Value} {m : Nat} (hf : ∀ a, (f a).length = m) {R : List Itm} {h : HV} {a : Option Addr} {cp : Nat} {l : List α} (r : RowRd f m R h (.slice a l.length cp) l) {i : Nat} {x : α} (hi : l[i]? = some x) :
    ∃ b o, a = some ⟨b, o, none⟩ ∧ i < l.length ∧ l.length ≤ cp ∧ ∀ j u, (f x)[j]? = some u → CellR R h b (o + i * m + j) u := by
  have hlt := (List.getElem?_eq_some_iff.1 hi).1
  rcases r.2 with ⟨_, h1⟩ | ⟨b, o, cp', e, hc, hx⟩
  · omega
  · cases e
    refine ⟨b, o, rfl, hlt, hc, fun j u hu => ?_⟩
    have hj : j < m := by rw [← hf x]; exact (List.getElem?_eq_some_iff.1 hu).1
    have := hx (i * m + j) u (by rw [flat_get f m hf l i j hj x hi]; exact hu)
    rwa [← Nat.add_assoc] at this

/-- a row of the call's own can be read -/
theorem Mem.row_reads {c : Ctx} {Ω : List Itm} {h : HV} {w : World} {e size N t : Nat} {v : Value} {xs : List Value} (M : Mem c Ω h w) (ht : Ω[t]? = some (row e size v N xs)) : Reads [row e size v N xs] h v size N xs := by
  have hr : w.ownsRow 0 e size v N xs := M.own _ (List.mem_of_getElem? ht)
  refine ⟨hr.1, ?_⟩
  rcases hr.2 with h1 | ⟨g, cp, cur, rfl, _, _, hn, _⟩
  · exact .inl ⟨⟨_, h1.1⟩, h1.2⟩
  · refine .inr ⟨g, 0, cp, rfl, hn, fun i u hu c' Ω' h' w' _ hs hw => ?_⟩
    have hr' : w'.ownsRow 0 e size (.slice (some ⟨g, 0, none⟩) N cp) N xs := hw.own _ (hs _ (List.mem_singleton_self _))
    have := hr'.cells (g := g) rfl i u hu
    rwa [add_addr] at this
/-- and so can cells -/
theorem CellR.own {h : HV} {b T o : Nat} {cs : List Value} {v : Value} (hv : cs[o]? = some v) : CellR [cells b cs T] h b o v := fun _ _ _ w _ hs hw => by
  have hb : w.heap[b]? = some (.cells cs.toArray T (0, 0)) := hw.own _ (hs _ (List.mem_singleton_self _))
  simp [World.cell?, hb, hv]

section
variable {P : Program} {Q : Exit → Act → World → Prop} {n : Sz} {σ : Slots} {k : List It} {c : Ctx} {Ω : List Itm} {h : HV} {ops : Array Oper} {l : List Oper}
theorem At.row_reads {e size N : Nat} {v : Value} {xs : List Value} (t : Nat) (ht : Ω[t]? = some (row e size v N xs)) (hk : Reads [row e size v N xs] h v size N xs → At P Q n σ (Mem c Ω h) k) : At P Q n σ (Mem c Ω h) k := fun a w ha m => hk (m.row_reads ht) a w ha m
theorem Ops.row_reads {e size N : Nat} {v : Value} {xs : List Value} (t : Nat) (ht : Ω[t]? = some (row e size v N xs)) (hk : Reads [row e size v N xs] h v size N xs → Ops P Q n σ (Mem c Ω h) ops l k) : Ops P Q n σ (Mem c Ω h) ops l k := fun a w ha m => hk (m.row_reads ht) a w ha m
end
theorem Does.row_reads {P : Program} {f : FuncId} {args : Array Value} {Ω : List Itm} {h : HV} {post : Value → List Itm → HV → Prop} {e size N : Nat} {v : Value} {xs : List Value} (t : Nat) (ht : Ω[t]? = some (row e size v N xs)) (hk : Reads [row e size v N xs] h v size N xs → Does P f args Ω h post) : Does P f args Ω h post := fun w hm => hk (hm.row_reads ht) w hm

section
variable {P : Program} {σ : Slots} {S : World → Prop} {c : Ctx} {Ω : List Itm} {h : HV} {ty T e : TypeId} {ps : String} {af : Array Edge} {g : Option (Nat × Bool)} {d : Option Nat} {x y : Operand}
theorem Mem.cellR {R : List Itm} {w : World} {b o : Nat} {v : Value} (hc : CellR R h b o v) (hR : ∀ i ∈ R, i ∈ Ω) (hw : Mem c Ω h w) : w.cell? ⟨b, o, none⟩ = some v := hc c Ω h w (HV.le.refl h) hR hw

/-- pointers compared with nil -/
theorem Val.eqlPtr {T' : TypeId} {p : Option Addr} (hT : P.underlying T = some (.pointer e)) (hx : ev σ x = some (.pointer p)) : Val P σ S ⟨d, .binOp .eql T x (.const (.pointer none)) T', ty, ps, af, g⟩ (.bool p.isNone) := fun ρ w hρ _ => by
  have hy : ρ (.const (.pointer none)) = .pointer none := hρ _ _ rfl
  have he : ∀ d : Nat, (Op.equalIn (d + 1) T (.pointer p) (.pointer none)).run P w = .ok p.isNone w := fun d => by
    cases p <;> simp [Op.equalIn, run_underlying hT]
  simp [execOp, hρ x _ hx, hy, binOp, Op.equal, Op.maxDepth, he 9999, eqGuard]
theorem Val.neqPtr {T' : TypeId} {p : Option Addr} (hT : P.underlying T = some (.pointer e)) (hx : ev σ x = some (.pointer p)) : Val P σ S ⟨d, .binOp .neq T x (.const (.pointer none)) T', ty, ps, af, g⟩ (.bool !p.isNone) := fun ρ w hρ _ => by
  have hy : ρ (.const (.pointer none)) = .pointer none := hρ _ _ rfl
  have he : ∀ d : Nat, (Op.equalIn (d + 1) T (.pointer p) (.pointer none)).run P w = .ok p.isNone w := fun d => by
    cases p <;> simp [Op.equalIn, run_underlying hT]
  simp [execOp, hρ x _ hx, hy, binOp, Op.equal, Op.maxDepth, he 9999, eqGuard]
/-- a function compared with nil -/
theorem Val.eqlFunc {T' : TypeId} {a b : Array TypeId} {vv : Bool} {f : Fn} {cs : Array Value} (hT : P.underlying T = some (.func a b vv)) (hx : ev σ x = some (.func f #[] cs)) : Val P σ S ⟨d, .binOp .eql T x (.const .nilFunc) T', ty, ps, af, g⟩ (.bool false) := fun ρ w hρ _ => by
  have hy : ρ (.const .nilFunc) = .nilFunc := hρ _ _ rfl
  have he : ∀ d : Nat, (Op.equalIn (d + 1) T (.func f #[] cs) .nilFunc).run P w = .ok false w := fun d => by simp [Op.equalIn, run_underlying hT]
  simp [execOp, hρ x _ hx, hy, binOp, Op.equal, Op.maxDepth, he 9999, eqGuard]
theorem Val.eqlNilFunc {T' : TypeId} {a b : Array TypeId} {vv : Bool} (hT : P.underlying T = some (.func a b vv)) (hx : ev σ x = some .nilFunc) : Val P σ S ⟨d, .binOp .eql T x (.const .nilFunc) T', ty, ps, af, g⟩ (.bool true) := fun ρ w hρ _ => by
  have hy : ρ (.const .nilFunc) = .nilFunc := hρ _ _ rfl
  have he : ∀ d : Nat, (Op.equalIn (d + 1) T .nilFunc .nilFunc).run P w = .ok true w := fun d => by simp [Op.equalIn, run_underlying hT]
  simp [execOp, hρ x _ hx, hy, binOp, Op.equal, Op.maxDepth, he 9999, eqGuard]

/-- the bytes of a text, laid anew -/
theorem Eff.strBytes {U : TypeId} {s : List UInt8} (hs : P.underlying T = some .string) (hd : P.underlying U = some (.slice e)) (he : P.underlying e = some (.int .u8)) (hx : ev σ x = some (str s)) :
    Eff P σ (Mem c Ω h) ⟨d, .convert T U x, ty, ps, af, g⟩ fun u w => ∃ b cp zs fr, u = .slice (some ⟨b, 0, none⟩) s.length cp ∧ s.length ≤ cp ∧ Mem c (blk b (.cells (s.map B ++ zs).toArray e fr) :: Ω) h w := fun ρ w hρ hw => by
  have hr := run_bytes_of_string (P := P) w T U e ⟨s.toArray⟩ hs hd he
  have hsz : (⟨s.toArray⟩ : ByteArray).size = s.length := by simp [ByteArray.size]
  have : (execOp ρ ⟨d, .convert T U x, ty, ps, af, g⟩).run P w = .ok (.value (.slice (some ⟨w.heap.size, 0, none⟩) s.length (grownCap w s.length 0 e))) (w.drew.alloc (.cells (s.map B ++ List.replicate (grownCap w s.length 0 e - s.length) (Value.int .u8 0)).toArray e ((bytesRow ⟨s.toArray⟩ (grownCap w s.length 0 e)).size, (bytesRow ⟨s.toArray⟩ (grownCap w s.length 0 e)).size + 1))) := by
    rw [hsz] at hr
    have e1 : bytesRow ⟨s.toArray⟩ (grownCap w s.length 0 e) = (s.map B ++ List.replicate (grownCap w s.length 0 e - s.length) (Value.int .u8 0)).toArray := by
      apply Array.ext'
      simp [bytesRow, ByteArray.size]
      exact fun _ _ => rfl
    simp only [execOp, hρ x _ hx, str, hr, Sem.run_bind, Sem.run_pure, Result.andThen_ok, e1]
  rw [this]
  exact ⟨_, _, _, _, rfl, grownCap_ge w _ _ e, (hw.drew (w.drawn + 1)).alloc _⟩
end

section
variable {P : Program} {α : Type} [DecidableEq α] {κ : α → Value} {K : α → Prop} {kt e T : TypeId} {σ : Slots} {c : Ctx} {Ω : List Itm} {h : HV} {ty : TypeId} {ps : String} {af : Array Edge} {g : Option (Nat × Bool)} {d : Option Nat}
theorem Val.lookup2 {b : Nat} {m : List (α × Value)} {x y : Operand} {a : α} {z : Value} (hT : P.underlying T = some (.map kt e)) (hk : KeyT P kt κ K) (hz : ∀ w, (zeroValue e).run P w = .ok z w)
    (hx : ev σ x = some (.map (some b))) (hy : ev σ y = some (κ a)) (ha : K a) (hm : ∀ p ∈ m, K p.1) :
    Val P σ (fun w => w.heap[b]? = some (.map (ents κ 0 m).toArray m.length)) ⟨d, .lookup T x y true, ty, ps, af, g⟩ (.tuple #[(mget m a).getD z, .bool (mget m a).isSome]) := fun ρ w hρ hw => by
  have hf := hk.find w a m 0 ha hm
  have hc := hk.check w (ents κ 0 m).toArray.isEmpty a ha
  simp only [execOp, hρ x _ hx, hρ y _ hy, Instr.lookup, Sem.run_bind, run_underlying hT, Result.andThen, MapKept.run_getObj_map hw, Sem.run_pure]
  rw [hc]
  simp only [hf]
  cases hq : mfind m a 0 with
  | none =>
    rw [(mfind_none hq z).2]
    simp [hz w]
  | some q =>
    obtain ⟨j, u⟩ := q
    rw [(mfind_some hq z).2.1]
    simp
end

/-- the form of what append hands back -/
theorem Eff.appendSlF {P : Program} {σ : Slots} {c : Ctx} {Ω : List Itm} {h : HV} {ty T e : TypeId} {ps : String} {af : Array Edge} {g : Option (Nat × Bool)} {d : Option Nat} {x y : Operand} {m by_ j N M : Nat} {u v : Value} {xs news : List Value} (hT : elt P T = some (e, m, by_)) (hx : ev σ x = some v) (hy : ev σ y = some u) (hu : SlH h u m M news)
    (hj : Ω[j]? = some (row e m v N xs)) (h1 : news.all (·.oneCell') = true) (hN : (N + M) * by_ ≤ 140737488355328) (hN' : N + M ≤ 140737488355328) :
    Eff P σ (Mem c Ω h) ⟨d, .call ⟨.builtin .append, #[x, y], #[T, T]⟩, ty, ps, af, g⟩ fun v' w => ∃ a cp, v' = .slice a (N + M) cp ∧ Mem c (Ω.set j (row e m v' (N + M) (xs ++ news))) h w :=
  (Eff.appendSl hT hx hy hu hj h1 hN hN').mono fun v' w ⟨_, hm⟩ => by
    have hlt : j < Ω.length := (List.getElem?_eq_some_iff.1 hj).1
    have hr : w.ownsRow 0 e m v' (N + M) (xs ++ news) := hm.own _ (List.mem_of_getElem? (i := j) (List.getElem?_set_self hlt))
    rcases hr.2 with ⟨rfl, h0⟩ | ⟨g, cap, cur, rfl, _⟩
    · exact ⟨none, 0, by rw [h0], hm⟩
    · exact ⟨_, _, rfl, hm⟩
end Go.Sy
/-
  Copies of slices.
-/
namespace Go.Proofs.YthjgbmbaabpgmaaGreat
open Go.Sy
set_option maxRecDepth 4000
set_option maxHeartbeats 4000000
attribute [local irreducible] At Ops Val Eff Does Res Dr

theorem CloneOp_does (v : Value) (M : Nat) (xs : List Value) (h1 : xs.all (·.oneCell') = true) (hM : M ≤ 1000000000) (h : HV) (hv : SlH h v 3 M xs) : Does Tryz.prog 62 #[v] [] h (fun r Ω' h' => Ω' = [row 112 3 r M xs] ∧ h = h') := by
  obtain ⟨a, cp, rfl⟩ := hv.form
  refine Does.of Tryz.func62 rfl Tryz.ntmps62 rfl fun c hc0 => ?_
  refine goK _ ?_
  refine Ops.val rfl rfl rfl (Val.eqlNil Tryz.underlying38 rfl) ?_
  refine Ops.nil ?_
  cases a with
  | none =>
    have hM0 : M = 0 := by
      rcases hv.2 with ⟨_, e⟩ | ⟨_, _, _, e, _, _⟩
      · exact e
      · cases e
    subst hM0
    have hxs : xs = [] := List.eq_nil_of_length_eq_zero (by simpa using hv.1)
    subst hxs
    refine goK _ ?_
    refine At.row_nil 112 3 ?_
    exact At.ret1 Tryz.results62 (Res.tmp rfl) (List.Sublist.refl _) ⟨rfl, hc0.symm ▸ rfl⟩
  | some a =>
    refine goK _ ?_
    refine Ops.eff rfl rfl rfl (Eff.buildSlice0 (ap rfl)) fun _ => Ops.ex fun g => Ops.pure ?_
    rintro rfl
    refine goK _ ?_
    refine Ops.eff rfl rfl rfl (Eff.appendSl (j := 0) (ap rfl) rfl rfl hv rfl h1 (by omega) (by omega)) fun u => Ops.pure fun _ => ?_
    refine goK _ ?_
    refine At.ret1 Tryz.results62 (Res.tmp rfl) (Ω' := [row 112 3 u M xs]) ?_ ⟨rfl, hc0.symm ▸ rfl⟩
    rw [Nat.zero_add, List.nil_append]
    exact List.Sublist.refl _

theorem CloneCl_does (v : Value) (M : Nat) (xs : List Value) (h1 : xs.all (·.oneCell') = true) (hM : M ≤ 1000000000) (h : HV) (hv : SlH h v 3 M xs) : Does Tryz.prog 67 #[v] [] h (fun r Ω' h' => Ω' = [row 127 3 r M xs] ∧ h = h') := by
  obtain ⟨a, cp, rfl⟩ := hv.form
  refine Does.of Tryz.func67 rfl Tryz.ntmps67 rfl fun c hc0 => ?_
  refine goK _ ?_
  refine Ops.val rfl rfl rfl (Val.eqlNil Tryz.underlying25 rfl) ?_
  refine Ops.nil ?_
  cases a with
  | none =>
    have hM0 : M = 0 := by
      rcases hv.2 with ⟨_, e⟩ | ⟨_, _, _, e, _, _⟩
      · exact e
      · cases e
    subst hM0
    have hxs : xs = [] := List.eq_nil_of_length_eq_zero (by simpa using hv.1)
    subst hxs
    refine goK _ ?_
    refine At.row_nil 127 3 ?_
    exact At.ret1 Tryz.results67 (Res.tmp rfl) (List.Sublist.refl _) ⟨rfl, hc0.symm ▸ rfl⟩
  | some a =>
    refine goK _ ?_
    refine Ops.eff rfl rfl rfl (Eff.buildSlice0 (ap rfl)) fun _ => Ops.ex fun g => Ops.pure ?_
    rintro rfl
    refine goK _ ?_
    refine Ops.eff rfl rfl rfl (Eff.appendSl (j := 0) (ap rfl) rfl rfl hv rfl h1 (by omega) (by omega)) fun u => Ops.pure fun _ => ?_
    refine goK _ ?_
    refine At.ret1 Tryz.results67 (Res.tmp rfl) (Ω' := [row 127 3 u M xs]) ?_ ⟨rfl, hc0.symm ▸ rfl⟩
    rw [Nat.zero_add, List.nil_append]
    exact List.Sublist.refl _

theorem CloneZ_does (v : Value) (M : Nat) (xs : List Value) (h1 : xs.all (·.oneCell') = true) (hM : M ≤ 1000000000) (h : HV) (hv : SlH h v 1 M xs) : Does Tryz.prog 69 #[v] [] h (fun r Ω' h' => Ω' = [row 3 1 r M xs] ∧ h = h') := by
  obtain ⟨a, cp, rfl⟩ := hv.form
  refine Does.of Tryz.func69 rfl Tryz.ntmps69 rfl fun c hc0 => ?_
  refine goK _ ?_
  refine Ops.val rfl rfl rfl (Val.eqlNil Tryz.underlying32 rfl) ?_
  refine Ops.nil ?_
  cases a with
  | none =>
    have hM0 : M = 0 := by
      rcases hv.2 with ⟨_, e⟩ | ⟨_, _, _, e, _, _⟩
      · exact e
      · cases e
    subst hM0
    have hxs : xs = [] := List.eq_nil_of_length_eq_zero (by simpa using hv.1)
    subst hxs
    refine goK _ ?_
    refine At.row_nil 3 1 ?_
    exact At.ret1 Tryz.results69 (Res.tmp rfl) (List.Sublist.refl _) ⟨rfl, hc0.symm ▸ rfl⟩
  | some a =>
    refine goK _ ?_
    refine Ops.eff rfl rfl rfl (Eff.buildSlice0 (ap rfl)) fun _ => Ops.ex fun g => Ops.pure ?_
    rintro rfl
    refine goK _ ?_
    refine Ops.eff rfl rfl rfl (Eff.appendSl (j := 0) (ap rfl) rfl rfl hv rfl h1 (by omega) (by omega)) fun u => Ops.pure fun _ => ?_
    refine goK _ ?_
    refine At.ret1 Tryz.results69 (Res.tmp rfl) (Ω' := [row 3 1 u M xs]) ?_ ⟨rfl, hc0.symm ▸ rfl⟩
    rw [Nat.zero_add, List.nil_append]
    exact List.Sublist.refl _

theorem CloneCm_does (v : Value) (M : Nat) (xs : List Value) (h1 : xs.all (·.oneCell') = true) (hM : M ≤ 1000000000) (h : HV) (hv : SlH h v 6 M xs) : Does Tryz.prog 88 #[v] [] h (fun r Ω' h' => Ω' = [row 47 6 r M xs] ∧ h = h') := by
  obtain ⟨a, cp, rfl⟩ := hv.form
  refine Does.of Tryz.func88 rfl Tryz.ntmps88 rfl fun c hc0 => ?_
  refine goK _ ?_
  refine Ops.val rfl rfl rfl (Val.eqlNil Tryz.underlying23 rfl) ?_
  refine Ops.nil ?_
  cases a with
  | none =>
    have hM0 : M = 0 := by
      rcases hv.2 with ⟨_, e⟩ | ⟨_, _, _, e, _, _⟩
      · exact e
      · cases e
    subst hM0
    have hxs : xs = [] := List.eq_nil_of_length_eq_zero (by simpa using hv.1)
    subst hxs
    refine goK _ ?_
    refine At.row_nil 47 6 ?_
    exact At.ret1 Tryz.results88 (Res.tmp rfl) (List.Sublist.refl _) ⟨rfl, hc0.symm ▸ rfl⟩
  | some a =>
    refine goK _ ?_
    refine Ops.eff rfl rfl rfl (Eff.buildSlice0 (ap rfl)) fun _ => Ops.ex fun g => Ops.pure ?_
    rintro rfl
    refine goK _ ?_
    refine Ops.eff rfl rfl rfl (Eff.appendSl (j := 0) (ap rfl) rfl rfl hv rfl h1 (by omega) (by omega)) fun u => Ops.pure fun _ => ?_
    refine goK _ ?_
    refine At.ret1 Tryz.results88 (Res.tmp rfl) (Ω' := [row 47 6 u M xs]) ?_ ⟨rfl, hc0.symm ▸ rfl⟩
    rw [Nat.zero_add, List.nil_append]
    exact List.Sublist.refl _

theorem CloneBr_does (v : Value) (M : Nat) (xs : List Value) (h1 : xs.all (·.oneCell') = true) (hM : M ≤ 1000000000) (h : HV) (hv : SlH h v 3 M xs) : Does Tryz.prog 89 #[v] [] h (fun r Ω' h' => Ω' = [row 71 3 r M xs] ∧ h = h') := by
  obtain ⟨a, cp, rfl⟩ := hv.form
  refine Does.of Tryz.func89 rfl Tryz.ntmps89 rfl fun c hc0 => ?_
  refine goK _ ?_
  refine Ops.val rfl rfl rfl (Val.eqlNil Tryz.underlying24 rfl) ?_
  refine Ops.nil ?_
  cases a with
  | none =>
    have hM0 : M = 0 := by
      rcases hv.2 with ⟨_, e⟩ | ⟨_, _, _, e, _, _⟩
      · exact e
      · cases e
    subst hM0
    have hxs : xs = [] := List.eq_nil_of_length_eq_zero (by simpa using hv.1)
    subst hxs
    refine goK _ ?_
    refine At.row_nil 71 3 ?_
    exact At.ret1 Tryz.results89 (Res.tmp rfl) (List.Sublist.refl _) ⟨rfl, hc0.symm ▸ rfl⟩
  | some a =>
    refine goK _ ?_
    refine Ops.eff rfl rfl rfl (Eff.buildSlice0 (ap rfl)) fun _ => Ops.ex fun g => Ops.pure ?_
    rintro rfl
    refine goK _ ?_
    refine Ops.eff rfl rfl rfl (Eff.appendSl (j := 0) (ap rfl) rfl rfl hv rfl h1 (by omega) (by omega)) fun u => Ops.pure fun _ => ?_
    refine goK _ ?_
    refine At.ret1 Tryz.results89 (Res.tmp rfl) (Ω' := [row 71 3 u M xs]) ?_ ⟨rfl, hc0.symm ▸ rfl⟩
    rw [Nat.zero_add, List.nil_append]
    exact List.Sublist.refl _

theorem CloneAt_does (v : Value) (M : Nat) (xs : List Value) (h1 : xs.all (·.oneCell') = true) (hM : M ≤ 1000000000) (h : HV) (hv : SlH h v 4 M xs) : Does Tryz.prog 137 #[v] [] h (fun r Ω' h' => Ω' = [row 106 4 r M xs] ∧ h = h') := by
  obtain ⟨a, cp, rfl⟩ := hv.form
  refine Does.of Tryz.func137 rfl Tryz.ntmps137 rfl fun c hc0 => ?_
  refine goK _ ?_
  refine Ops.val rfl rfl rfl (Val.eqlNil Tryz.underlying31 rfl) ?_
  refine Ops.nil ?_
  cases a with
  | none =>
    have hM0 : M = 0 := by
      rcases hv.2 with ⟨_, e⟩ | ⟨_, _, _, e, _, _⟩
      · exact e
      · cases e
    subst hM0
    have hxs : xs = [] := List.eq_nil_of_length_eq_zero (by simpa using hv.1)
    subst hxs
    refine goK _ ?_
    refine At.row_nil 106 4 ?_
    exact At.ret1 Tryz.results137 (Res.tmp rfl) (List.Sublist.refl _) ⟨rfl, hc0.symm ▸ rfl⟩
  | some a =>
    refine goK _ ?_
    refine Ops.eff rfl rfl rfl (Eff.buildSlice0 (ap rfl)) fun _ => Ops.ex fun g => Ops.pure ?_
    rintro rfl
    refine goK _ ?_
    refine Ops.eff rfl rfl rfl (Eff.appendSl (j := 0) (ap rfl) rfl rfl hv rfl h1 (by omega) (by omega)) fun u => Ops.pure fun _ => ?_
    refine goK _ ?_
    refine At.ret1 Tryz.results137 (Res.tmp rfl) (Ω' := [row 106 4 u M xs]) ?_ ⟨rfl, hc0.symm ▸ rfl⟩
    rw [Nat.zero_add, List.nil_append]
    exact List.Sublist.refl _

end Go.Proofs.YthjgbmbaabpgmaaGreat
/-
  DERIVED: THE SHELF's CONTRACTS AT THIS DUMP, IN PLAIN WORDS (tools/lay-plain.mjs out of 'YthjgbmbaabpgmaaGreatLay0.lean', which tools/lay-shelf.mjs wrote): THE SAME DECLARATIONS UNDER THE SAME NAMES: 'import', 'namespace', 'open', 'def', 'theorem' AND NOTHING ELSE: no command of the shelf's: FOR A HAND-IN. Each laying: the table of numbers ('.._ren') and one theorem, a field a fact of the dump's own or the kernel's comparison; each contract: ONE APPLICATION.
-/
namespace Go.Proofs
open Go.Shelf
def Tryz.keysA_ren : Go.Shelf.Ren := ⟨fun | 7 => 139 | 10 => 185 | n => n, fun | 23 => 225 | 26 => 3 | 3 => 3 | 28 => 140 | 0 => 0 | 27 => 139 | 33 => 168 | 4 => 4 | n => n, fun | n => n⟩
theorem Tryz.keysA : Go.Proofs.SlLaysZI.n7 Tryz.prog Tryz.keysA_ren := {
  mixed := by kernel_rfl
  f7 := ⟨Tryz.f139.name, by decide, Tryz.func139.trans (congrArg some (by kernel_rfl))⟩
  f10 := ⟨Tryz.f185.name, by decide, Tryz.func185.trans (congrArg some (by kernel_rfl))⟩
  t0 := Tryz.underlying0
  a0 := Tryz.isAgg0
  z0 := Tryz.sizeOf0
  v0 := Tryz.zeroValue0
  t4 := Tryz.underlying4
  a4 := Tryz.isAgg4
  z4 := Tryz.sizeOf4
  v4 := Tryz.zeroValue4
  t23 := Tryz.underlying225
  a23 := Tryz.isAgg225
  z23 := Tryz.sizeOf225
  v23 := Tryz.zeroValue225
  t26 := Tryz.underlying3
  a26 := Tryz.isAgg3
  z26 := Tryz.sizeOf3
  v26 := Tryz.zeroValue3
  t27 := Tryz.underlying139
  a27 := Tryz.isAgg139
  z27 := Tryz.sizeOf139
  v27 := Tryz.zeroValue139
  t28 := Tryz.underlying140
  a28 := Tryz.isAgg140
  z28 := Tryz.sizeOf140
  v28 := Tryz.zeroValue140
  t33 := Tryz.underlying168
  a33 := Tryz.isAgg168
  z33 := Tryz.sizeOf168
  v33 := Tryz.zeroValue168 }
def Tryz.keysB_ren : Go.Shelf.Ren := ⟨fun | 7 => 66 | 10 => 118 | n => n, fun | 23 => 134 | 26 => 3 | 3 => 135 | 28 => 140 | 0 => 0 | 27 => 139 | 33 => 168 | 4 => 4 | n => n, fun | n => n⟩
theorem Tryz.keysB : Go.Proofs.SlLaysZI.n7 Tryz.prog Tryz.keysB_ren := {
  mixed := by kernel_rfl
  f7 := ⟨Tryz.f66.name, by decide, Tryz.func66.trans (congrArg some (by kernel_rfl))⟩
  f10 := ⟨Tryz.f118.name, by decide, Tryz.func118.trans (congrArg some (by kernel_rfl))⟩
  t0 := Tryz.underlying0
  a0 := Tryz.isAgg0
  z0 := Tryz.sizeOf0
  v0 := Tryz.zeroValue0
  t4 := Tryz.underlying4
  a4 := Tryz.isAgg4
  z4 := Tryz.sizeOf4
  v4 := Tryz.zeroValue4
  t23 := Tryz.underlying134
  a23 := Tryz.isAgg134
  z23 := Tryz.sizeOf134
  v23 := Tryz.zeroValue134
  t26 := Tryz.underlying3
  a26 := Tryz.isAgg3
  z26 := Tryz.sizeOf3
  v26 := Tryz.zeroValue3
  t27 := Tryz.underlying139
  a27 := Tryz.isAgg139
  z27 := Tryz.sizeOf139
  v27 := Tryz.zeroValue139
  t28 := Tryz.underlying140
  a28 := Tryz.isAgg140
  z28 := Tryz.sizeOf140
  v28 := Tryz.zeroValue140
  t33 := Tryz.underlying168
  a33 := Tryz.isAgg168
  z33 := Tryz.sizeOf168
  v33 := Tryz.zeroValue168 }
def Tryz.sortedA_ren : Go.Shelf.Ren := ⟨fun | 6 => 65 | 8 => 116 | 9 => 117 | 11 => 149 | 13 => 151 | 12 => 150 | 23 => 199 | 24 => 200 | 14 => 191 | 15 => 192 | 16 => 193 | 17 => 194 | 18 => 195 | 19 => 196 | 20 => 119 | 21 => 197 | 22 => 198 | 25 => 212 | 26 => 213 | 27 => 214 | 28 => 215 | 29 => 216 | 30 => 152 | 31 => 218 | n => n, fun | 26 => 3 | 28 => 140 | 24 => 32 | 0 => 0 | 3 => 3 | 37 => 192 | 48 => 295 | 50 => 297 | 4 => 4 | 40 => 289 | 39 => 288 | 45 => 143 | 5 => 5 | 9 => 9 | 51 => 312 | 55 => 316 | 57 => 319 | 58 => 165 | 33 => 168 | n => n, fun | n => n⟩
theorem Tryz.sortedA : Go.Proofs.SlLaysZI.n6 Tryz.prog Tryz.sortedA_ren := {
  mixed := by kernel_rfl
  f6 := ⟨Tryz.f65.name, by decide, Tryz.func65.trans (congrArg some (by kernel_rfl))⟩
  f8 := ⟨Tryz.f116.name, by decide, Tryz.func116.trans (congrArg some (by kernel_rfl))⟩
  f11 := ⟨Tryz.f149.name, by decide, Tryz.func149.trans (congrArg some (by kernel_rfl))⟩
  t0 := Tryz.underlying0
  a0 := Tryz.isAgg0
  z0 := Tryz.sizeOf0
  v0 := Tryz.zeroValue0
  t24 := Tryz.underlying32
  a24 := Tryz.isAgg32
  z24 := Tryz.sizeOf32
  v24 := Tryz.zeroValue32
  t26 := Tryz.underlying3
  a26 := Tryz.isAgg3
  z26 := Tryz.sizeOf3
  v26 := Tryz.zeroValue3
  t28 := Tryz.underlying140
  a28 := Tryz.isAgg140
  z28 := Tryz.sizeOf140
  v28 := Tryz.zeroValue140
  i26 := by kernel_rfl }
def Tryz.sortA_ren : Go.Shelf.Ren := ⟨fun | 5 => 117 | 8 => 151 | 7 => 150 | 19 => 199 | 20 => 200 | 10 => 191 | 11 => 192 | 12 => 193 | 13 => 194 | 14 => 195 | 15 => 196 | 16 => 119 | 17 => 197 | 18 => 198 | 30 => 212 | 31 => 213 | 32 => 214 | 33 => 215 | 34 => 216 | 35 => 152 | 40 => 218 | n => n, fun | 23 => 32 | 25 => 3 | 3 => 3 | 32 => 192 | 22 => 32 | 0 => 0 | 44 => 295 | 46 => 297 | 4 => 4 | 36 => 289 | 35 => 288 | 41 => 143 | 5 => 5 | 9 => 9 | 53 => 312 | 57 => 316 | 63 => 319 | 64 => 165 | n => n, fun | n => n⟩
theorem Tryz.sortA : Go.Proofs.SlLaysM.n5 Tryz.prog Tryz.sortA_ren := {
  mixed := by kernel_rfl
  f5 := ⟨Tryz.f117.name, by decide, Tryz.func117.trans (congrArg some (by kernel_rfl))⟩
  f7 := ⟨Tryz.f150.name, by decide, Tryz.func150.trans (congrArg some (by kernel_rfl))⟩
  f8 := Tryz.func151.trans (congrArg some (by kernel_rfl))
  f10 := ⟨Tryz.f191.name, by decide, Tryz.func191.trans (congrArg some (by kernel_rfl))⟩
  f11 := ⟨Tryz.f192.name, by decide, Tryz.func192.trans (congrArg some (by kernel_rfl))⟩
  f12 := ⟨Tryz.f193.name, by decide, Tryz.func193.trans (congrArg some (by kernel_rfl))⟩
  f13 := ⟨Tryz.f194.name, by decide, Tryz.func194.trans (congrArg some (by kernel_rfl))⟩
  f14 := ⟨Tryz.f195.name, by decide, Tryz.func195.trans (congrArg some (by kernel_rfl))⟩
  f15 := ⟨Tryz.f196.name, by decide, Tryz.func196.trans (congrArg some (by kernel_rfl))⟩
  f16 := ⟨Tryz.f119.name, by decide, Tryz.func119.trans (congrArg some (by kernel_rfl))⟩
  f17 := ⟨Tryz.f197.name, by decide, Tryz.func197.trans (congrArg some (by kernel_rfl))⟩
  f18 := ⟨Tryz.f198.name, by decide, Tryz.func198.trans (congrArg some (by kernel_rfl))⟩
  f19 := Tryz.func199.trans (congrArg some (by kernel_rfl))
  f20 := Tryz.func200.trans (congrArg some (by kernel_rfl))
  f30 := ⟨Tryz.f212.name, by decide, Tryz.func212.trans (congrArg some (by kernel_rfl))⟩
  f31 := Tryz.func213.trans (congrArg some (by kernel_rfl))
  f32 := Tryz.func214.trans (congrArg some (by kernel_rfl))
  f33 := ⟨Tryz.f215.name, by decide, Tryz.func215.trans (congrArg some (by kernel_rfl))⟩
  f34 := ⟨Tryz.f216.name, by decide, Tryz.func216.trans (congrArg some (by kernel_rfl))⟩
  f35 := ⟨Tryz.f152.name, by decide, Tryz.func152.trans (congrArg some (by kernel_rfl))⟩
  f40 := ⟨Tryz.f218.name, by decide, Tryz.func218.trans (congrArg some (by kernel_rfl))⟩
  t0 := Tryz.underlying0
  a0 := Tryz.isAgg0
  z0 := Tryz.sizeOf0
  v0 := Tryz.zeroValue0
  t3 := Tryz.underlying3
  a3 := Tryz.isAgg3
  z3 := Tryz.sizeOf3
  v3 := Tryz.zeroValue3
  t4 := Tryz.underlying4
  a4 := Tryz.isAgg4
  z4 := Tryz.sizeOf4
  v4 := Tryz.zeroValue4
  t5 := Tryz.underlying5
  a5 := Tryz.isAgg5
  z5 := Tryz.sizeOf5
  v5 := Tryz.zeroValue5
  t9 := Tryz.underlying9
  a9 := Tryz.isAgg9
  z9 := Tryz.sizeOf9
  v9 := Tryz.zeroValue9
  t22 := Tryz.underlying32
  a22 := Tryz.isAgg32
  z22 := Tryz.sizeOf32
  v22 := Tryz.zeroValue32
  t23 := Tryz.underlying32
  a23 := Tryz.isAgg32
  z23 := Tryz.sizeOf32
  v23 := Tryz.zeroValue32
  t25 := Tryz.underlying3
  a25 := Tryz.isAgg3
  z25 := Tryz.sizeOf3
  v25 := Tryz.zeroValue3
  t32 := Tryz.underlying192
  a32 := Tryz.isAgg192
  z32 := Tryz.sizeOf192
  v32 := Tryz.zeroValue192
  t35 := Tryz.underlying288
  a35 := Tryz.isAgg288
  z35 := Tryz.sizeOf288
  v35 := Tryz.zeroValue288
  t36 := Tryz.underlying289
  a36 := Tryz.isAgg289
  z36 := Tryz.sizeOf289
  v36 := Tryz.zeroValue289
  t41 := Tryz.underlying143
  a41 := Tryz.isAgg143
  z41 := Tryz.sizeOf143
  v41 := Tryz.zeroValue143
  t44 := Tryz.underlying295
  a44 := Tryz.isAgg295
  z44 := Tryz.sizeOf295
  v44 := Tryz.zeroValue295
  t46 := Tryz.underlying297
  a46 := Tryz.isAgg297
  z46 := Tryz.sizeOf297
  v46 := Tryz.zeroValue297
  t53 := Tryz.underlying312
  a53 := Tryz.isAgg312
  z53 := Tryz.sizeOf312
  v53 := Tryz.zeroValue312
  t57 := Tryz.underlying316
  a57 := Tryz.isAgg316
  z57 := Tryz.sizeOf316
  v57 := Tryz.zeroValue316
  t63 := Tryz.underlying319
  a63 := Tryz.isAgg319
  z63 := Tryz.sizeOf319
  v63 := Tryz.zeroValue319
  t64 := Tryz.underlying165
  a64 := Tryz.isAgg165
  z64 := Tryz.sizeOf165
  v64 := Tryz.zeroValue165 }
end Go.Proofs
