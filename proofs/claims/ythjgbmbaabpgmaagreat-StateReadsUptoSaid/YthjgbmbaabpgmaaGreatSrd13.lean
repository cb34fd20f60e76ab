/-
  Keys of this program's maps, records compared, and maps that are owned, at the program's own types.
-/
import Derived.Test.YthjgbmbaabpgmaaGreatSrd09
import Derived.Test.YthjgbmbaabpgmaaGreatSrd05
import Derived.Test.YthjgbmbaabpgmaaGreatSrd12
set_option linter.unusedVariables false
set_option linter.unusedSimpArgs false
set_option linter.unusedSectionVars false
namespace Go.Proofs.YthjgbmbaabpgmaaGreat
open Go Go.Sy Go.RowKit
set_option maxRecDepth 4000
set_option maxHeartbeats 400000
namespace Ox
/-- an origin: client, number -/
structure Org where
  c : Int
  n : Int
  deriving DecidableEq
/-- an atom's name: origin, number -/
structure Pt where
  o : Org
  n : Int
  deriving DecidableEq
/-- a run of atoms -/
structure Atom where
  o : Org
  n : Int
  text : List UInt8
  deriving DecidableEq
end Ox
def orgv (o : Ox.Org) : Value := .agg #[.int .i64 o.c, .int .i64 o.n]
def ptv (p : Ox.Pt) : Value := .agg #[.int .i64 p.o.c, .int .i64 p.o.n, .int .i64 p.n]
def atv (a : Ox.Atom) : Value := .agg #[.int .i64 a.o.c, .int .i64 a.o.n, .int .i64 a.n, str a.text]
def key (i : Int) : Value := .int .i64 i

theorem key3 : KeyT Tryz.prog 3 key (fun _ => True) := KeyT.int (ik rfl)

theorem r66 : recT Tryz.prog 66 [(3, 0), (3, 1)] = true := by kernel_rfl
theorem r106 : recT Tryz.prog 106 [(66, 0), (3, 2), (9, 3)] = true := by kernel_rfl
theorem r112 : recT Tryz.prog 112 [(3, 0), (3, 1), (9, 2)] = true := by kernel_rfl
theorem r127 : recT Tryz.prog 127 [(3, 0), (3, 1), (3, 2)] = true := by kernel_rfl
theorem r210 : recT Tryz.prog 210 [(66, 0), (3, 2)] = true := by kernel_rfl
theorem r263 : recT Tryz.prog 263 [(66, 0), (3, 2)] = true := by kernel_rfl
theorem r306 : recT Tryz.prog 306 [(66, 0), (3, 2)] = true := by kernel_rfl

theorem eq3 (n : Nat) (a b : Int) (w : World) : (Op.equalIn (n + 1) 3 (.int .i64 a) (.int .i64 b)).run Tryz.prog w = .ok (decide (a = b)) w := by
  rw [run_equalIn_int w n 3 .i64 .i64 a b (ik rfl)]
  by_cases h : a = b <;> simp [h]
theorem eq66 (n : Nat) (a b : Ox.Org) (w : World) : (Op.equalIn (n + 2) 66 (orgv a) (orgv b)).run Tryz.prog w = .ok (decide (a = b)) w := by
  refine rec_eq r66 ⟨_, _, _, _, part_cell (ly rfl) rfl w, part_cell (ly rfl) rfl w, eq3 n _ _ w, ⟨_, _, _, _, part_cell (ly rfl) rfl w, part_cell (ly rfl) rfl w, eq3 n _ _ w, rfl, rfl⟩, ?_⟩
  obtain ⟨a1, a2⟩ := a
  obtain ⟨b1, b2⟩ := b
  simp
theorem eqPt {T : Nat} (h : recT Tryz.prog T [(66, 0), (3, 2)] = true) (n : Nat) (a b : Ox.Pt) (w : World) : (Op.equalIn (n + 3) T (ptv a) (ptv b)).run Tryz.prog w = .ok (decide (a = b)) w := by
  have ha : (part 66 #[.int .i64 a.o.c, .int .i64 a.o.n, .int .i64 a.n] 0).run Tryz.prog w = .ok (orgv a.o) w := part_agg (m := 2) (ly rfl) rfl w
  have hb : (part 66 #[.int .i64 b.o.c, .int .i64 b.o.n, .int .i64 b.n] 0).run Tryz.prog w = .ok (orgv b.o) w := part_agg (m := 2) (ly rfl) rfl w
  have h1 := eq66 n a.o b.o w
  have h2 := eq3 (n + 1) a.n b.n w
  refine rec_eq (n := n + 2) h ⟨_, _, _, _, ha, hb, h1, ⟨_, _, _, _, part_cell (ly rfl) rfl w, part_cell (ly rfl) rfl w, h2, rfl, rfl⟩, ?_⟩
  obtain ⟨a1, a2⟩ := a
  obtain ⟨b1, b2⟩ := b
  simp
theorem chk3 (em : Bool) (n : Nat) (a : Int) (w : World) : (Instr.checkKey em (n + 1) 3 (.int .i64 a)).run Tryz.prog w = .ok () w := MapKept.run_checkKey (ik (t := 3) rfl) (by simp [MapKept.IsKey]) em n
theorem chk66 (em : Bool) (n : Nat) (a : Ox.Org) (w : World) : (Instr.checkKey em (n + 2) 66 (orgv a)).run Tryz.prog w = .ok () w := rec_check r66 fun q hq => by
  simp only [List.mem_cons, List.not_mem_nil, or_false] at hq
  rcases hq with rfl | rfl
  · exact ⟨_, part_cell (ly rfl) rfl w, chk3 em n _ w⟩
  · exact ⟨_, part_cell (ly rfl) rfl w, chk3 em n _ w⟩
theorem keyPt {T : Nat} (h : recT Tryz.prog T [(66, 0), (3, 2)] = true) : KeyT Tryz.prog T ptv (fun _ => True) := by
  obtain ⟨fs, hu, _⟩ := recT_struct h
  refine KeyT.ofAsking hu (fun w em a _ => rec_check h fun q hq => ?_) (fun a b _ _ => rec_now h hu) (fun w a b _ _ => ?_) (fun a _ => ?_)
  · simp only [List.mem_cons, List.not_mem_nil, or_false] at hq
    rcases hq with rfl | rfl
    · have ha : (part 66 #[.int .i64 a.o.c, .int .i64 a.o.n, .int .i64 a.n] 0).run Tryz.prog w = .ok (orgv a.o) w := part_agg (m := 2) (ly rfl) rfl w
      exact ⟨orgv a.o, ha, chk66 em 9997 _ w⟩
    · exact ⟨_, part_cell (ly rfl) rfl w, chk3 em 9998 _ w⟩
  · have := eqPt h 9997 a b w
    rw [show decide (b = a) = decide (a = b) by simp [eq_comm]]
    exact this
  · simp [ptv, Instr.sameBits]
theorem key306 : KeyT Tryz.prog 306 ptv (fun _ => True) := keyPt r306
theorem key263 : KeyT Tryz.prog 263 ptv (fun _ => True) := keyPt r263
theorem key210 : KeyT Tryz.prog 210 ptv (fun _ => True) := keyPt r210

section
variable {σ : Slots} {S : World → Prop} {ty : TypeId} {ps : String} {af : Array Edge} {g : Option (Nat × Bool)} {d : Option Nat} {c0 : Ctx} {Ω : List Itm} {h : HV} {T kt e : TypeId} {x y q : Operand}
theorem _root_.Go.Sy.Mem.cellsAt {n b T o : Nat} {cs vs : List Value} {fr : Nat × Nat} {w : World} (m : Mem c0 Ω h w) (hn : Ω[n]? = some (blk b (.cells cs.toArray T fr))) (hv : (cs.drop o).take vs.length = vs) : ∀ i u, vs[i]? = some u → w.cell? ⟨b, o + i, none⟩ = some u := fun i u hu => by
  refine m.cell hn ?_
  rw [← hv] at hu
  have hi : i < vs.length := by
    have := (List.getElem?_eq_some_iff.1 hu).1
    simp at this; omega
  simpa [List.getElem?_take, hi] using hu
/-- a part of what is owned -/
theorem V.loadOP {T b o m U : Nat} (n : Nat) (vs : List Value) {cs : List Value} {fr : Nat × Nat} {x : Operand} (hT : look lyL T = some (true, m)) (hx : ev σ x = some (.pointer (some ⟨b, o, none⟩)))
    (hn : Ω[n]? = some (blk b (.cells cs.toArray U fr))) (hv : (cs.drop o).take vs.length = vs) (hm : vs.length = m) : Val Tryz.prog σ (Mem c0 Ω h) ⟨d, .load T x, ty, ps, af, g⟩ (.agg vs.toArray) :=
  V.loadN hT hx hm fun _ hw => hw.cellsAt hn hv
theorem V.eql66 {c1 n1 c2 n2 : Int} {T' : TypeId} (hx : ev σ x = some (.agg #[.int .i64 c1, .int .i64 n1])) (hy : ev σ y = some (.agg #[.int .i64 c2, .int .i64 n2])) :
    Val Tryz.prog σ S ⟨d, .binOp .eql 66 x y T', ty, ps, af, g⟩ (.bool (decide (Ox.Org.mk c1 n1 = Ox.Org.mk c2 n2))) := Val.eqlS hx hy (rec_guard r66) (eq66 9998 ⟨c1, n1⟩ ⟨c2, n2⟩)
theorem V.neq66 {c1 n1 c2 n2 : Int} {T' : TypeId} (hx : ev σ x = some (.agg #[.int .i64 c1, .int .i64 n1])) (hy : ev σ y = some (.agg #[.int .i64 c2, .int .i64 n2])) :
    Val Tryz.prog σ S ⟨d, .binOp .neq 66 x y T', ty, ps, af, g⟩ (.bool (!decide (Ox.Org.mk c1 n1 = Ox.Org.mk c2 n2))) := Val.neqS hx hy (rec_guard r66) (eq66 9998 ⟨c1, n1⟩ ⟨c2, n2⟩)

theorem E.makeMap {α : Type} (κ : α → Value) : Eff Tryz.prog σ (Mem c0 Ω h) ⟨d, .makeMap T none, ty, ps, af, g⟩ fun u w => ∃ b, u = .map (some b) ∧ Mem c0 (mapI κ b [] :: Ω) h w := fun ρ w hρ hw => by
  have : (execOp ρ ⟨d, .makeMap T none, ty, ps, af, g⟩).run Tryz.prog w = .ok (.value (.map (some w.heap.size))) (w.alloc (.map #[] 0)) := by
    simp [execOp, Instr.makeMap, newObj, Sem.run]
  rw [this]
  exact ⟨_, rfl, hw.alloc _⟩

/-- a map that holds v at a, or v is what is read where nothing is held -/
def MapAt {α : Type} [DecidableEq α] (κ : α → Value) (b : Nat) (a : α) (z v : Value) (w : World) : Prop := ∃ m : List (α × Value), w.heap[b]? = some (.map (ents κ 0 m).toArray m.length) ∧ (mget m a).getD z = v
theorem MapAt.of {α : Type} [DecidableEq α] {κ : α → Value} {b : Nat} {a : α} {z : Value} {m : List (α × Value)} (n : Nat) {w : World} (hw : Mem c0 Ω h w) (hn : Ω[n]? = some (mapI κ b m)) : MapAt κ b a z ((mget m a).getD z) w := ⟨m, hw.blk hn, rfl⟩

/-- what is read at an entry that was put in stands -/
theorem MapAt.entry {α : Type} [DecidableEq α] {κ : α → Value} {b j : Nat} {a : α} {z v : Value} {m : List (α × Value)} (hj : j < Ω.length) (hq : (mget m a).getD z = v) : ∀ (v' : Value) (w : World), (∃ i u, mfind (mset m a ((mget m a).getD z)) a 0 = some (i, u) ∧ v' = .tuple #[(mget m a).getD z, .int .i64 ((i : Nat) : Int)] ∧ Mem c0 (Ω.set j (mapI κ b (mset m a ((mget m a).getD z)))) h w) → MapAt κ b a z v w := by
  rintro _ w ⟨_, _, _, _, hw⟩
  exact ⟨_, hw.blk (List.getElem?_set_self hj), by rw [mget_mset, if_pos rfl]; exact hq⟩
theorem V.lookupW {α : Type} [DecidableEq α] {κ : α → Value} {b : Nat} {a : α} {z v : Value} (hk : KeyT Tryz.prog kt κ (fun _ => True)) (hT : look mpL T = some (kt, e)) (hz : look zsL e = some z) (hx : ev σ x = some (.map (some b))) (hy : ev σ y = some (κ a)) :
    Val Tryz.prog σ (MapAt κ b a z v) ⟨d, .lookup T x y false, ty, ps, af, g⟩ v := fun ρ w hρ hw => by
  obtain ⟨m, hm, rfl⟩ := hw
  exact Val.lookup (n := 0) (mp hT) hk (zval_run (zs hz)) hx hy trivial (fun _ _ => trivial) ρ w hρ hm
theorem V.lookup {α : Type} [DecidableEq α] {κ : α → Value} {b : Nat} {a : α} {z : Value} {m : List (α × Value)} (n : Nat) (hk : KeyT Tryz.prog kt κ (fun _ => True)) (hT : look mpL T = some (kt, e)) (hz : look zsL e = some z) (hx : ev σ x = some (.map (some b))) (hy : ev σ y = some (κ a))
    (hn : Ω[n]? = some (mapI κ b m)) : Val Tryz.prog σ (Mem c0 Ω h) ⟨d, .lookup T x y false, ty, ps, af, g⟩ ((mget m a).getD z) := fun ρ w hρ hw =>
  Val.lookup (n := 0) (mp hT) hk (zval_run (zs hz)) hx hy trivial (fun _ _ => trivial) ρ w hρ (hw.blk hn)
theorem V.lenmap {α : Type} [DecidableEq α] {κ : α → Value} {b : Nat} {m : List (α × Value)} {k : TypeId} (n : Nat) (hT : look mpL T = some (kt, e)) (hx : ev σ x = some (.map (some b))) (hn : Ω[n]? = some (mapI κ b m)) :
    Val Tryz.prog σ (Mem c0 Ω h) ⟨d, .call ⟨.builtin .len, #[x], #[T]⟩, k, ps, af, g⟩ (.int .i64 (m.length : Int)) := fun ρ w hρ hw => Val.lenmap (mp hT) hx ρ w hρ (hw.blk hn)
theorem E.mapUpdate {α : Type} [DecidableEq α] {κ : α → Value} {b : Nat} {a : α} {v : Value} {m : List (α × Value)} (n : Nat) (hk : KeyT Tryz.prog kt κ (fun _ => True)) (hT : look mpL T = some (kt, e)) (hx : ev σ x = some (.map (some b))) (hy : ev σ y = some (κ a)) (hq : ev σ q = some v)
    (hn : Ω[n]? = some (mapI κ b m)) : Eff Tryz.prog σ (Mem c0 Ω h) ⟨d, .mapUpdate T x y q, ty, ps, af, g⟩ fun _ w => Mem c0 (Ω.set n (mapI κ b (mset m a v))) h w := Eff.mapUpdate n (mp hT) hk hx hy hq trivial (fun _ _ => trivial) hn
theorem E.insert {α : Type} [DecidableEq α] {κ : α → Value} {b : Nat} {a : α} {v : Value} {m : List (α × Value)} (n : Nat) (hk : KeyT Tryz.prog kt κ (fun _ => True)) (hT : look mpL T = some (kt, e)) (hx : ev σ x = some (.map (some b))) (hy : ev σ y = some (κ a)) (hq : ev σ q = some v)
    (hn : Ω[n]? = some (mapI κ b m)) : Eff Tryz.prog σ (Mem c0 Ω h) ⟨d, .insert T x y q, ty, ps, af, g⟩ fun _ w => Mem c0 (Ω.set n (mapI κ b (mset m a v))) h w := Eff.insert n (mp hT) hk hx hy hq trivial (fun _ _ => trivial) hn
theorem E.mapEntry {α : Type} [DecidableEq α] {κ : α → Value} {b : Nat} {a : α} {z : Value} {m : List (α × Value)} (n : Nat) (hk : KeyT Tryz.prog kt κ (fun _ => True)) (hT : look mpL T = some (kt, e)) (hz : look zsL e = some z) (hx : ev σ x = some (.map (some b))) (hy : ev σ y = some (κ a))
    (hn : Ω[n]? = some (mapI κ b m)) : Eff Tryz.prog σ (Mem c0 Ω h) ⟨d, .mapEntry T x y, ty, ps, af, g⟩ fun v' w => ∃ i u, mfind (mset m a ((mget m a).getD z)) a 0 = some (i, u) ∧ v' = .tuple #[(mget m a).getD z, .int .i64 (i : Int)] ∧ Mem c0 (Ω.set n (mapI κ b (mset m a ((mget m a).getD z)))) h w :=
  Eff.mapEntry n (mp hT) hk (zval_run (zs hz)) hx hy trivial (fun _ _ => trivial) hn
theorem E.entryStore {α : Type} [DecidableEq α] {κ : α → Value} {b i : Nat} {a : α} {u v : Value} {m : List (α × Value)} (n : Nat) (hi : mfind m a 0 = some (i, u)) (hx : ev σ x = some (.map (some b))) (hy : ev σ y = some (.int .i64 (i : Int))) (hq : ev σ q = some v)
    (hn : Ω[n]? = some (mapI κ b m)) : Eff Tryz.prog σ (Mem c0 Ω h) ⟨d, .entryStore T x y q, ty, ps, af, g⟩ fun _ w => Mem c0 (Ω.set n (mapI κ b (mset m a v))) h w := Eff.entryStore n hx hy hq hi hn

theorem Val.minN {k : IntKind} (a b : Nat) {za zb : Int} (hx : ev σ x = some (.int k za)) (hy : ev σ y = some (.int k zb)) (ha : za = (a : Int)) (hb : zb = (b : Int)) :
    Val Tryz.prog σ S ⟨d, .call ⟨.builtin .min, #[x, y], #[T, kt]⟩, ty, ps, af, g⟩ (.int k ((min a b : Nat) : Int)) := fun ρ w hρ _ => by
  subst ha hb
  have : (if b < a then (b : Int) else (a : Int)) = ((min a b : Nat) : Int) := by split <;> omega
  simp [execOp, resolve, hρ x _ hx, hρ y _ hy, invoke, builtin, Builtin.min_, Builtin.min2, this]

theorem E.buildSlice1R {e m by_ : Nat} {v : Value} (hT : look apL T = some (e, m, by_)) (hx : ev σ x = some v) (hm : v.cells.size = m) (hsm : Nat.ble m 1000 = true) :
    Eff Tryz.prog σ (Mem c0 Ω h) ⟨d, .buildSlice T 1 #[(0, x)], ty, ps, af, g⟩ fun u w => ∃ b, u = .slice (some ⟨b, 0, none⟩) 1 1 ∧ Mem c0 (row e m (.slice (some ⟨b, 0, none⟩) 1 1) 1 v.cells.toList :: Ω) h w := Eff.mono (E.buildSlice1 hT hx hm hsm) fun u w hu => by
  obtain ⟨b, rfl, hm'⟩ := hu
  refine ⟨b, rfl, ?_⟩
  refine hm'.retag 0 rfl ?_ (fun i hi => ?_)
  · refine ⟨by simp [hm], .inr ⟨b, 1, v.cells, rfl, Nat.zero_le _, ?_, Nat.le_refl _, by simp [maxLen], by simp [hm], ?_⟩⟩
    · exact hm'.blk (n := 0) rfl
    · rw [List.take_of_length_le]; simp [hm]
  · have hb' : (Value.slice (some ⟨b, 0, none⟩) 1 1).ownBlock = some i := hi
    simp [Value.ownBlock] at hb'
    exact hb'.symm

theorem E.appendS {e m by_ b o N M cp : Nat} (j : Nat) {v : Value} {xs news : List Value} (hT : look apL T = some (e, m, by_)) (hx : ev σ x = some v) (hy : ev σ y = some (.slice (some ⟨b, o, none⟩) M cp))
    (hj : Ω[j]? = some (row e m v N xs)) (hN1 : 1 ≤ N) (hl : news.length = M * m) (h1 : news.all (·.oneCell') = true) (hN : (N + M) * by_ ≤ 140737488355328) (hN' : N + M ≤ 140737488355328)
    (hnews : ∀ w, Mem c0 Ω h w → ∀ i u, news[i]? = some u → w.cell? ⟨b, o + i, none⟩ = some u) :
    Eff Tryz.prog σ (Mem c0 Ω h) ⟨d, .call ⟨.builtin .append, #[x, y], #[T, T]⟩, ty, ps, af, g⟩ fun v' w => ∃ g cp, v' = .slice (some ⟨g, 0, none⟩) (N + M) cp ∧ Mem c0 (Ω.set j (row e m (.slice (some ⟨g, 0, none⟩) (N + M) cp) (N + M) (xs ++ news))) h w :=
  Eff.mono (E.append j hT hx hy hj hl h1 hN hN' hnews) fun v' w ⟨_, hw⟩ => by
    have hlt : j < Ω.length := (List.getElem?_eq_some_iff.1 hj).1
    have hr : w.ownsRow 0 e m v' (N + M) (xs ++ news) := hw.own (row e m v' (N + M) (xs ++ news)) (List.mem_of_getElem? (List.getElem?_set_self hlt))
    obtain ⟨_, ⟨_, h0⟩ | ⟨g, cap, cur, rfl, _⟩⟩ := hr
    · omega
    · exact ⟨g, cap, rfl, hw⟩
theorem flat_one {α : Type} {f : α → List Value} (hf : ∀ a, (f a).all (·.oneCell') = true) : ∀ l : List α, (l.flatMap f).all (·.oneCell') = true
  | [] => rfl
  | a :: r => by rw [List.flatMap_cons, List.all_append, hf a, flat_one hf r]; rfl
end
end Go.Proofs.YthjgbmbaabpgmaaGreat
/-
  Documents: origins, what follows what, add, take.
-/
namespace Go.Proofs.YthjgbmbaabpgmaaGreat
open Go.Sy
set_option maxRecDepth 4000
set_option maxHeartbeats 4000000
attribute [local irreducible] At Ops Val Eff Does Res Dr
namespace Ox
def Org.ok (o : Org) : Bool := decide (0 ≤ o.c ∧ o.c ≤ 8 ∧ 1 ≤ o.n ∧ o.n ≤ 100000)
def follows (a b : Atom) : Bool := decide (a.o = b.o ∧ a.n + tlen a.text = b.n)
end Ox
/-- an atom's cells -/
def atc (a : Ox.Atom) : List Value := [.int .i64 a.o.c, .int .i64 a.o.n, .int .i64 a.n, str a.text]
theorem atc_length (a : Ox.Atom) : (atc a).length = 4 := rfl
abbrev AtsH (h : HV) (v : Value) (d : List Ox.Atom) : Prop := RowH atc 4 h v d

theorem isOrigin_does (o : Ox.Org) (h : HV) : Does Tryz.prog 186 #[.agg #[.int .i64 o.c, .int .i64 o.n]] [] h (Just h (· = .bool o.ok)) := by
  obtain ⟨oc, on⟩ := o
  refine Does.of Tryz.func186 rfl Tryz.ntmps186 rfl fun c hc0 => ?_
  refine goK _ ?_
  refine Ops.eff rfl rfl rfl (Eff.box rfl) fun _ => Ops.ex fun b => Ops.pure ?_
  rintro rfl
  refine goK _ ?_
  refine Ops.forkR 2 (.bool ((Ox.Org.mk oc on).ok)) [0] ?_ (fun main => ?_)
  rotate_left
  · repeat' (first
      | refine opS _ ?_
      | refine Ops.gsplit rfl rfl (fun hb => ?_) (fun hb => ?_)
      | refine Ops.psplit rfl (fun hb => ?_) (fun hb => ?_))
    all_goals (refine Ops.nil ?_; refine main.sub ⟨congrArg (fun b => some (Value.bool b)) ?_, (by repeat (first | exact trivial | refine ⟨rfl, ?_⟩))⟩; clear main; (rw [Bool.eq_iff_iff]; simp [Ox.Org.ok] at *; omega))
  exact At.ret1 Tryz.results186 (Res.tmp rfl) (List.nil_sublist _) ⟨rfl, rfl, rfl⟩

theorem follows_does (a b : Ox.Atom) (ha : -1000000000000 ≤ a.n ∧ a.n ≤ 1000000000000) (ht : a.text.length ≤ 10000000000) (h : HV) :
    Does Tryz.prog 205 #[.agg (atc a).toArray, .agg (atc b).toArray] [] h (Just h (· = .bool (Ox.follows a b))) := by
  obtain ⟨⟨ac, am⟩, an, at'⟩ := a
  obtain ⟨⟨bc, bm⟩, bn, bt⟩ := b
  simp only [atc] at *
  have htl : -1 ≤ Ox.tlen at' ∧ Ox.tlen at' ≤ 10000000000 := by
    unfold Ox.tlen
    cases hp : Ox.points at' with
    | none => simp
    | some l => have := Ox.points_length hp; simp; omega
  refine Does.of Tryz.func205 rfl Tryz.ntmps205 rfl fun c hc0 => ?_
  refine goK _ ?_
  refine Ops.eff rfl rfl rfl (Eff.box rfl) fun _ => Ops.ex fun b1 => Ops.pure ?_
  rintro rfl
  refine goK _ ?_
  refine Ops.eff rfl rfl rfl (Eff.box rfl) fun _ => Ops.ex fun b2 => Ops.pure ?_
  rintro rfl
  refine goK _ ?_
  first | refine At.drawn mo (fun _ _ m => m.drew _) ?_ | refine At.seq (At.drawn mo (fun _ _ m => m.drew _) ?_)
  refine Dr.val 0 rfl rfl rfl rfl (by kernel_rfl) rfl (V.fieldAddr rfl rfl) ?_
  refine Dr.valS 1 _ rfl rfl rfl rfl (by kernel_rfl) rfl (V.loadN (cs := [.int .i64 ac, .int .i64 am]) rfl rfl rfl (fun _ hh => hh)) (fun w hw => hw.cellsAt (n := 1) rfl rfl) ?_
  refine Dr.val 2 rfl rfl rfl rfl (by kernel_rfl) rfl (V.fieldAddr rfl rfl) ?_
  refine Dr.valS 3 _ rfl rfl rfl rfl (by kernel_rfl) rfl (V.loadN (cs := [.int .i64 bc, .int .i64 bm]) rfl rfl rfl (fun _ hh => hh)) (fun w hw => hw.cellsAt (n := 0) rfl rfl) ?_
  refine Dr.val 4 rfl rfl rfl rfl (by kernel_rfl) rfl (V.eql66 rfl rfl) ?_
  refine Dr.val 5 rfl rfl rfl rfl (by kernel_rfl) rfl (Val.move rfl) ?_
  refine Dr.boolP (t := 10) rfl (fun heq => ?_) (fun heq => ?_)
  · refine Dr.val 6 rfl rfl rfl rfl (by kernel_rfl) rfl (V.fieldAddr rfl rfl) ?_
    refine Dr.valS 7 _ rfl rfl rfl rfl (by kernel_rfl) rfl (V.load rfl rfl (fun _ hh => hh)) (fun w hw => hw.cell (n := 1) rfl rfl) ?_
    refine Dr.val 8 rfl rfl rfl rfl (by kernel_rfl) rfl (V.fieldAddr rfl rfl) ?_
    refine Dr.valS 9 _ rfl rfl rfl rfl (by kernel_rfl) rfl (V.load rfl rfl (fun _ hh => hh)) (fun w hw => hw.cell (n := 1) rfl rfl) ?_
    refine Dr.val 12 rfl rfl rfl rfl (by kernel_rfl) rfl (V.fieldAddr rfl rfl) ?_
    refine Dr.valS 13 _ rfl rfl rfl rfl (by kernel_rfl) rfl (V.load rfl rfl (fun _ hh => hh)) (fun w hw => hw.cell (n := 0) rfl rfl) ?_
    refine Dr.next (e := 10) rfl rfl (by kernel_rfl) rfl (by kernel_rfl) (by kernel_rfl) rfl rfl (Eff.call (fn (by kernel_rfl)) rfl (Ωc := []) rfl (Len_does at' (by omega) h)) aokK fun _ => Dr.ex fun _ => Dr.ex fun _ => Dr.pure ?_
    rintro ⟨rfl, rfl, rfl⟩
    refine Dr.val 11 rfl rfl rfl rfl (by kernel_rfl) rfl (Val.add rfl rfl (by omega) (by omega)) ?_
    refine Dr.val 14 rfl rfl rfl rfl (by kernel_rfl) rfl (Val.eql rfl rfl) ?_
    refine Dr.val 15 rfl rfl rfl rfl (by kernel_rfl) rfl (Val.pick rfl rfl) ?_
    refine Dr.val 16 rfl rfl rfl rfl (by kernel_rfl) rfl (Val.assign rfl) ?_
    refine Dr.done (by kernel_rfl) (by kernel_rfl) ?_
    refine goK _ ?_
    refine At.ret1 Tryz.results205 (Res.tmp rfl) (List.nil_sublist _) ⟨?_, rfl, rfl⟩
    simp [Ox.follows, heq]
  · refine Dr.skip 6 rfl rfl rfl rfl (by kernel_rfl) rfl ?_
    refine Dr.skip 7 rfl rfl rfl rfl (by kernel_rfl) rfl ?_
    refine Dr.skip 8 rfl rfl rfl rfl (by kernel_rfl) rfl ?_
    refine Dr.skip 9 rfl rfl rfl rfl (by kernel_rfl) rfl ?_
    refine Dr.skip 10 rfl rfl rfl rfl (by kernel_rfl) rfl ?_
    refine Dr.skip 11 rfl rfl rfl rfl (by kernel_rfl) rfl ?_
    refine Dr.skip 12 rfl rfl rfl rfl (by kernel_rfl) rfl ?_
    refine Dr.skip 13 rfl rfl rfl rfl (by kernel_rfl) rfl ?_
    refine Dr.skip 14 rfl rfl rfl rfl (by kernel_rfl) rfl ?_
    refine Dr.val 15 rfl rfl rfl rfl (by kernel_rfl) rfl (Val.pick rfl rfl) ?_
    refine Dr.val 16 rfl rfl rfl rfl (by kernel_rfl) rfl (Val.assign rfl) ?_
    refine Dr.done (by kernel_rfl) (by kernel_rfl) ?_
    refine goK _ ?_
    refine At.ret1 Tryz.results205 (Res.tmp rfl) (List.nil_sublist _) ⟨?_, rfl, rfl⟩
    simp [Ox.follows, heq]

namespace Ox
def add (d : List Atom) (a : Atom) : List Atom := if a.text = [] then d else match d.getLast? with
  | none => [a]
  | some l => if follows l a = true then d.dropLast ++ [{ l with text := l.text ++ a.text }] else d ++ [a]
/-- numbers and texts that are not too large -/
def Atom.small (a : Atom) : Prop := (-1000000000000 ≤ a.n ∧ a.n ≤ 1000000000000) ∧ a.text.length ≤ 10000000000
end Ox

theorem add_does (v : Value) (d : List Ox.Atom) (a : Ox.Atom) (hd : ∀ l ∈ d, l.small) (hl : d.length ≤ 1000000) (ha : a.small) (h : HV) :
    Does Tryz.prog 187 #[v, .agg (atc a).toArray] [row 106 4 v d.length (d.flatMap atc)] h (fun r Ω' h' => h = h' ∧ Ω' = [row 106 4 r (Ox.add d a).length ((Ox.add d a).flatMap atc)]) := by
  refine Does.of Tryz.func187 rfl Tryz.ntmps187 rfl fun c hc0 => ?_
  refine At.row_form 0 rfl fun av acp hv => ?_
  subst hv
  refine goK _ ?_
  refine Ops.eff rfl rfl rfl (Eff.box rfl) fun _ => Ops.ex fun b => Ops.pure ?_
  rintro rfl
  refine goK _ ?_
  refine At.condP rfl (fun h1 => ?_) (fun h1 => ?_)
  · refine goK _ ?_
    refine At.ret1 Tryz.results187 (Res.tmp rfl) (List.sublist_cons_self _ _) ⟨rfl, ?_⟩
    rw [Ox.add, if_pos h1]
  refine goK _ ?_
  rcases List.eq_nil_or_concat d with rfl | ⟨d0, l, rfl⟩
  · first | refine At.drawn mo (fun _ _ m => m.drew _) ?_ | refine At.seq (At.drawn mo (fun _ _ m => m.drew _) ?_)
    refine Dr.val 0 rfl rfl rfl rfl (by kernel_rfl) rfl (Val.move rfl) ?_
    refine Dr.val 1 rfl rfl rfl rfl (by kernel_rfl) rfl (Val.gtr rfl rfl) ?_
    refine Dr.val 2 rfl rfl rfl rfl (by kernel_rfl) rfl (Val.move rfl) ?_
    refine Dr.boolP (t := 14) rfl (fun h2 => ?_) (fun h2 => ?_)
    · simp at h2
    refine Dr.skip 3 rfl rfl rfl rfl (by kernel_rfl) rfl ?_
    refine Dr.skip 4 rfl rfl rfl rfl (by kernel_rfl) rfl ?_
    refine Dr.skip 5 rfl rfl rfl rfl (by kernel_rfl) rfl ?_
    refine Dr.skip 6 rfl rfl rfl rfl (by kernel_rfl) rfl ?_
    refine Dr.skip 7 rfl rfl rfl rfl (by kernel_rfl) rfl ?_
    refine Dr.skip 8 rfl rfl rfl rfl (by kernel_rfl) rfl ?_
    refine Dr.skip 9 rfl rfl rfl rfl (by kernel_rfl) rfl ?_
    refine Dr.val 10 rfl rfl rfl rfl (by kernel_rfl) rfl (Val.pick rfl rfl) ?_
    refine Dr.done (by kernel_rfl) (by kernel_rfl) ?_
    refine goK _ ?_
    refine Ops.eff rfl rfl rfl (E.buildSlice1 rfl rfl rfl rfl) fun _ => Ops.ex fun _ => Ops.pure ?_
    rintro rfl
    refine Ops.eff rfl rfl rfl (E.append1s 1 rfl rfl rfl rfl rfl rfl (by simp) (by simp)) fun _ => Ops.ex fun g => Ops.ex fun cp => Ops.pure ?_
    rintro rfl
    refine goK _ ?_
    refine At.ret1 Tryz.results187 (Res.tmp rfl) (Ω' := [row 106 4 (.slice (some ⟨g, 0, none⟩) 1 cp) 1 (atc a)]) (List.sublist_cons_self _ _) ⟨rfl, ?_⟩
    rw [Ox.add, if_neg h1]; simp
  · simp only [List.concat_eq_append] at *
    have hlb : (atc l).length = 4 := rfl
    have hlm := hd l (by simp)
    have hln : (d0 ++ [l]).length = d0.length + 1 := by simp
    have hxl : ((d0 ++ [l]).flatMap atc).length = (d0 ++ [l]).length * 4 := flat_length atc 4 (fun _ => rfl) _
    refine At.open_row 1 rfl (by simp) fun g cp rest hv hl1 hl2 hN hcp => ?_
    cases hv
    first | refine At.drawn mo (fun _ _ m => m.drew _) ?_ | refine At.seq (At.drawn mo (fun _ _ m => m.drew _) ?_)
    refine Dr.val 0 rfl rfl rfl rfl (by kernel_rfl) rfl (Val.move rfl) ?_
    refine Dr.val 1 rfl rfl rfl rfl (by kernel_rfl) rfl (Val.gtr rfl rfl) ?_
    refine Dr.val 2 rfl rfl rfl rfl (by kernel_rfl) rfl (Val.move rfl) ?_
    refine Dr.boolP (t := 14) rfl (fun h2 => ?_) (fun h2 => ?_)
    rotate_left
    · simp at h2
    refine Dr.val 3 rfl rfl rfl rfl (by kernel_rfl) rfl (Val.move rfl) ?_
    refine Dr.val 4 rfl rfl rfl rfl (by kernel_rfl) rfl (Val.move rfl) ?_
    refine Dr.val 5 rfl rfl rfl rfl (by kernel_rfl) rfl (Val.sub rfl rfl (by omega) (by omega)) ?_
    refine Dr.respell (t := 17) (v' := .int .i64 ((d0.length : Nat) : Int)) rfl (by simp) ?_
    refine Dr.val 6 rfl rfl rfl rfl (by kernel_rfl) rfl (V.indexAddr rfl rfl rfl rfl (by simp)) ?_
    have hdr : (((d0 ++ [l]).flatMap atc ++ rest).drop (0 + d0.length * 4)).take (atc l).length = atc l := by
      rw [Nat.zero_add, List.flatMap_append, List.append_assoc, List.drop_append_of_le_length (by rw [flat_length atc 4 (fun _ => rfl)]; omega), flat_drop (m := 4) (fun _ => rfl)]
      simp
    refine Dr.valS 7 _ rfl rfl rfl rfl (by kernel_rfl) rfl (V.loadN (cs := atc l) rfl rfl rfl (fun _ hh => hh)) (fun w hw => hw.cellsAt (n := 1) rfl hdr) ?_
    refine Dr.valS 8 _ rfl rfl rfl rfl (by kernel_rfl) rfl (V.loadN (cs := atc a) rfl rfl rfl (fun _ hh => hh)) (fun w hw => hw.cellsAt (n := 0) rfl rfl) ?_
    refine Dr.next (e := 9) rfl rfl (by kernel_rfl) rfl (by kernel_rfl) (by kernel_rfl) rfl rfl (Eff.call (fn (by kernel_rfl)) rfl (Ωc := []) rfl (follows_does l a hlm.1 hlm.2 h)) aokK fun _ => Dr.ex fun _ => Dr.ex fun _ => Dr.pure ?_
    rintro ⟨rfl, rfl, rfl⟩
    refine Dr.val 10 rfl rfl rfl rfl (by kernel_rfl) rfl (Val.pick rfl rfl) ?_
    refine Dr.done (by kernel_rfl) (by kernel_rfl) ?_
    refine goK _ ?_
    have hfm : (d0 ++ [l]).flatMap atc ++ rest = d0.flatMap atc ++ (atc l ++ rest) := by simp
    have hfl : (d0.flatMap atc).length = d0.length * 4 := flat_length atc 4 (fun _ => rfl) d0
    refine At.cond rfl (fun h3 => ?_) (fun h3 => ?_)
    · first | refine At.drawn mo (fun _ _ m => m.drew _) ?_ | refine At.seq (At.drawn mo (fun _ _ m => m.drew _) ?_)
      refine Dr.val 0 rfl rfl rfl rfl (by kernel_rfl) rfl (Val.move rfl) ?_
      refine Dr.val 1 rfl rfl rfl rfl (by kernel_rfl) rfl (Val.move rfl) ?_
      refine Dr.val 2 rfl rfl rfl rfl (by kernel_rfl) rfl (Val.sub rfl rfl (by omega) (by omega)) ?_
      refine Dr.respell (t := 25) (v' := .int .i64 ((d0.length : Nat) : Int)) rfl (by simp) ?_
      refine Dr.val 3 rfl rfl rfl rfl (by kernel_rfl) rfl (V.indexAddr rfl rfl rfl rfl (by simp)) ?_
      refine Dr.val 4 rfl rfl rfl rfl (by kernel_rfl) rfl (V.fieldAddr rfl rfl) ?_
      refine Dr.valS 5 _ rfl rfl rfl rfl (by kernel_rfl) rfl (V.load rfl rfl (fun _ hh => hh)) (fun w hw => hw.cell (n := 1) (v := str l.text) rfl (by rw [hfm, List.getElem?_append_right (by omega)]; simp [hfl, atc])) ?_
      refine Dr.val 6 rfl rfl rfl rfl (by kernel_rfl) rfl (V.fieldAddr rfl rfl) ?_
      refine Dr.valS 7 _ rfl rfl rfl rfl (by kernel_rfl) rfl (V.load rfl rfl (fun _ hh => hh)) (fun w hw => hw.cell (n := 0) rfl rfl) ?_
      refine Dr.val 8 rfl rfl rfl rfl (by kernel_rfl) rfl (Val.stradd rfl rfl (by have := hlm.2; have := ha.2; omega)) ?_
      refine Dr.val 9 rfl rfl rfl rfl (by kernel_rfl) rfl (V.indexAddr rfl rfl rfl rfl (by simp)) ?_
      refine Dr.val 10 rfl rfl rfl rfl (by kernel_rfl) rfl (V.fieldAddr rfl rfl) ?_
      refine Dr.next0 (e := 11) rfl rfl (by kernel_rfl) rfl (by kernel_rfl) (by kernel_rfl) rfl (E.store 1 rfl rfl rfl rfl rfl (by rw [hfm]; simp [hfl]; omega) rfl) aokK fun _ => ?_
      refine Dr.done (by kernel_rfl) (by kernel_rfl) ?_
      refine At.close_row (N := d0.length + 1) (xs := (d0 ++ [{ l with text := l.text ++ a.text }]).flatMap atc) (rest := rest) (cp := acp) (e := 106) (size := 4) (g := g) 1 ?_ ?_ ?_ ?_ hcp ?_
      · refine congrArg (fun z => some (cells g z 106)) ?_
        show ((d0 ++ [l]).flatMap atc ++ rest).set (0 + d0.length * 4 + 3) (str (l.text ++ a.text)) = _
        rw [hfm, set_mid hfl (k := 3) (by omega)]
        simp [atc]
      · rw [flat_length atc 4 (fun _ => rfl)]; simp
      · rw [← hl2, List.length_append, List.length_append, flat_length atc 4 (fun _ => rfl), flat_length atc 4 (fun _ => rfl)]; simp
      · omega
      refine goK _ ?_
      refine At.ret1 Tryz.results187 (Res.tmp rfl) (Ω' := [row 106 4 (.slice (some ⟨g, 0, none⟩) (d0.length + 1) acp) (d0.length + 1) ((d0 ++ [{ l with text := l.text ++ a.text }]).flatMap atc)]) (List.sublist_cons_self _ _) ⟨rfl, ?_⟩
      rw [Ox.add, if_neg h1]; simp [h3]
    · refine At.close_row (N := (d0 ++ [l]).length) (xs := (d0 ++ [l]).flatMap atc) (rest := rest) (cp := acp) (e := 106) (size := 4) (g := g) 1 rfl hxl hl2 hN hcp ?_
      refine goK _ ?_
      refine Ops.eff rfl rfl rfl (E.buildSlice1 rfl rfl rfl rfl) fun _ => Ops.ex fun _ => Ops.pure ?_
      rintro rfl
      refine Ops.eff rfl rfl rfl (E.append1s 1 rfl rfl rfl rfl rfl rfl (by omega) (by omega)) fun _ => Ops.ex fun g2 => Ops.ex fun cp2 => Ops.pure ?_
      rintro rfl
      refine goK _ ?_
      refine At.ret1 Tryz.results187 (Res.tmp rfl) (Ω' := [row 106 4 (.slice (some ⟨g2, 0, none⟩) ((d0 ++ [l]).length + 1) cp2) ((d0 ++ [l]).length + 1) ((d0 ++ [l]).flatMap atc ++ atc a)]) (List.sublist_cons_self _ _) ⟨rfl, ?_⟩
      rw [Ox.add, if_neg h1]; simp [h3]
end Go.Proofs.YthjgbmbaabpgmaaGreat
