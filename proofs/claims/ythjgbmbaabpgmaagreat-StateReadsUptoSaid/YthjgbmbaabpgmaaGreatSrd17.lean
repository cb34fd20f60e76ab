/-
  The walk's own logic: arrays, made slices, copies, the greater of two.
-/
import Derived.Test.YthjgbmbaabpgmaaGreatSrd16
import Derived.Laws.MakeOwn
import Derived.Test.YthjgbmbaabpgmaaGreatSrd05
set_option linter.unusedVariables false
set_option linter.unusedSimpArgs false
set_option linter.unusedSectionVars false
namespace Go.Sy
open Go Go.RowKit
section
variable {P : Program} {σ : Slots} {S : World → Prop} {c : Ctx} {Ω : List Itm} {h : HV} {ty T e : TypeId} {ps : String} {af : Array Edge} {g : Option (Nat × Bool)} {d : Option Nat} {x y : Operand}

theorem madeCells_one (z : Value) (n : Nat) : madeCells #[z] n = (List.replicate n z).toArray := by
  apply Array.ext_getElem?
  intro i
  simp only [madeCells, Array.getElem?_map, List.getElem?_toArray, List.getElem?_replicate, Array.getElem?_range]
  by_cases hi : i < n
  · simp [hi, Nat.mod_one]
  · simp [hi]

theorem Eff.makeSlice1 {by_ n : Nat} {z : Value} (hT : elt P T = some (e, 1, by_)) (hz1 : ((P.info? e).bind (·.zero)) = some z) (hzc : z.cells = #[z]) (hx : ev σ x = some (.int .i64 (n : Int))) (hy : ev σ y = some (.int .i64 (n : Int))) (hn : by_ * n ≤ 140737488355328) (hn' : n ≤ 140737488355328) :
    Eff P σ (Mem c Ω h) ⟨d, .makeSlice T x y, ty, ps, af, g⟩ fun v w => ∃ b, v = .slice (some ⟨b, 0, none⟩) n n ∧ Mem c (cells b (List.replicate n z) e :: Ω) h w := fun ρ w hρ hw => by
  obtain ⟨hu', i, z', hi, hz, hs, hb, _, hpos⟩ := elt_spec hT
  rw [hi] at hz1
  simp only [Option.bind_some] at hz1
  rw [hz1] at hz; cases hz
  have hby : (i.bytes : Int) * (n : Int) ≤ 281474976710656 := by
    have h0 : ((i.bytes * n : Nat) : Int) ≤ 281474976710656 := by rw [hb]; omega
    rwa [Int.natCast_mul] at h0
  have hr := run_make (P := P) w T e i z hu' hi hz1 .i64 .i64 n n (by omega) (Int.le_refl _) hby (by omega)
  simp only [Int.toNat_natCast, hs, Nat.mul_one, hzc, madeCells_one] at hr
  have : (execOp ρ ⟨d, .makeSlice T x y, ty, ps, af, g⟩).run P w = .ok (.value (.slice (some ⟨w.heap.size, 0, none⟩) n n)) (w.alloc (.cells (List.replicate n z).toArray e)) := by
    simp [execOp, hρ x _ hx, hρ y _ hy, hr]
  rw [this]
  exact ⟨_, rfl, hw.alloc _⟩

theorem Val.indexAddrA {m b o n : Nat} {ix : Operand} {K : IntKind} {i : Nat} {ag : Bool} (hT : P.underlying T = some (.array n e)) (hm : lay P e = some (ag, m)) (hx : ev σ x = some (.pointer (some ⟨b, o, none⟩))) (hi : ev σ ix = some (.int K (i : Int)))
    (hlt : i < n) : Val P σ S ⟨d, .indexAddr T x ix, ty, ps, af, g⟩ (.pointer (some ⟨b, o + i * m, none⟩)) := fun ρ w hρ _ => by
  simp [execOp, hρ x _ hx, hρ ix _ hi, Instr.indexAt, Instr.sureAddr, asIntOf, run_underlying hT, lay_sizeOf hm, add_addr]
  omega

theorem Val.sliceA {m b o n : Nat} {ag : Bool} (hT : P.underlying T = some (.array n e)) (hm : lay P e = some (ag, m)) (hx : ev σ x = some (.pointer (some ⟨b, o, none⟩))) :
    Val P σ S ⟨d, .slice T x none none none, ty, ps, af, g⟩ (.slice (some ⟨b, o, none⟩) n n) := fun ρ w hρ _ => by
  simp [execOp, hρ x _ hx, Instr.sliceAt, Instr.sureAddr, Instr.sliceBounds, run_underlying hT, lay_sizeOf hm, add_addr]

theorem Val.maxI {T' : TypeId} {k : IntKind} {a b : Int} (hx : ev σ x = some (.int k a)) (hy : ev σ y = some (.int k b)) :
    Val P σ S ⟨d, .call ⟨.builtin .max, #[x, y], #[T, T']⟩, ty, ps, af, g⟩ (.int k (max a b)) := fun ρ w hρ _ => by
  have : (if b > a then b else a) = max a b := by split <;> omega
  simp [execOp, resolve, hρ x _ hx, hρ y _ hy, invoke, builtin, Builtin.max_, Builtin.max2]
  omega

theorem Eff.copy {m b o N cp b2 o2 M cp2 U : Nat} {T' : TypeId} {ag : Bool} {cs vs : List Value} (j : Nat) (hT : P.underlying T = some (.slice e)) (hm : lay P e = some (ag, m)) (hx : ev σ x = some (.slice (some ⟨b, o, none⟩) N cp)) (hy : ev σ y = some (.slice (some ⟨b2, o2, none⟩) M cp2))
    (hj : Ω[j]? = some (cells b cs U)) (hl : vs.length = min M N * m) (hfit : o + vs.length ≤ cs.length) (h1 : vs.all (·.oneCell') = true) (hsrc : ∀ w, Mem c Ω h w → ∀ i u, vs[i]? = some u → w.cell? ⟨b2, o2 + i, none⟩ = some u) :
    Eff P σ (Mem c Ω h) ⟨d, .call ⟨.builtin .copy, #[x, y], #[T, T']⟩, ty, ps, af, g⟩ fun _ w => Mem c (Ω.set j (cells b (sets cs o vs) U)) h w := fun ρ w hρ hw => by
  have hb : w.heap[b]? = some (.cells cs.toArray U (0, 0)) := hw.blk hj
  have hload : (loadCells ⟨b2, o2, none⟩ (min M N * m)).run P w = .ok vs.toArray w := by
    rw [← hl]
    exact run_loadCells_list (P := P) w ⟨b2, o2, none⟩ vs (fun j v hv => by rw [add_addr]; exact hsrc w hw j v hv)
  obtain ⟨w', hst, hb', h2, h3, h4, h5, h6⟩ := storeCells_own P vs 0 o cs w hb (by omega) h1
  have : (execOp ρ ⟨d, .call ⟨.builtin .copy, #[x, y], #[T, T']⟩, ty, ps, af, g⟩).run P w = .ok (.value (.int .i64 ((min M N : Nat) : Int))) w' := by
    simp [execOp, resolve, hρ x _ hx, hρ y _ hy, invoke, builtin, Builtin.copy_, Builtin.lenOf, Builtin.firstCells, run_underlying hT, lay_sizeOf hm, hload, hst, goInt]
  rw [this]
  refine hw.change_at j hj h2 h3 h4 (by omega) (fun k _ hk => h6 k hk) ?_ (fun k hk => .inl hk)
  show w'.heap[b]? = _
  simpa using hb'
end
end Go.Sy
/-
  Merging: the pieces of a document, and where they stand.
-/
namespace Go.Proofs.YthjgbmbaabpgmaaGreat
open Go.Sy
set_option maxRecDepth 4000
set_option maxHeartbeats 4000000
/-- a piece: an atom's name and its code point -/
def pcc (p : Ox.Pt × Nat) : List Value := [.int .i64 p.1.o.c, .int .i64 p.1.o.n, .int .i64 p.1.n, str (Ox.enc p.2)]
theorem pcc_length (p : Ox.Pt × Nat) : (pcc p).length = 4 := rfl
def PcsH (h : HV) (v : Value) (l : List (Ox.Pt × Nat)) : Prop := RowH pcc 4 h v l
theorem PcsH.mono {h h' : HV} {v : Value} {l : List (Ox.Pt × Nat)} (r : PcsH h v l) (le : HV.le h h') : PcsH h' v l := RowH.mono r le
namespace Ox
/-- where a name stands (from 1 on); 0: nowhere -/
def posF (l : List (Pt × Nat)) (a : Pt) : Nat := l.zipIdx.foldl (fun r p => if a = p.1.1 then p.2 + 1 else r) 0
theorem posF_nil (a : Pt) : posF [] a = 0 := rfl
theorem posF_snoc (l : List (Pt × Nat)) (p : Pt × Nat) (a : Pt) : posF (l ++ [p]) a = if a = p.1 then l.length + 1 else posF l a := by
  simp [posF, List.zipIdx_append]
theorem posF_at (l : List (Pt × Nat)) (a : Pt) : posF l a ≤ l.length ∧ ∀ k, posF l a = k + 1 → ∃ q, l[k]? = some q ∧ q.1 = a := by
  rcases l.eq_nil_or_concat with rfl | ⟨r, p, rfl⟩
  · simp [posF]
  · have h := posF_at r a
    rw [List.concat_eq_append, posF_snoc]
    split
    · rename_i ha
      refine ⟨by simp, fun k hk => ⟨p, ?_, ha.symm⟩⟩
      have : k = r.length := by omega
      subst this; simp
    · refine ⟨by simp; omega, fun k hk => ?_⟩
      obtain ⟨q, hq, e⟩ := h.2 k hk
      have hl := (List.getElem?_eq_some_iff.1 hq).1
      exact ⟨q, by rw [List.getElem?_append_left hl]; exact hq, e⟩
termination_by l.length
decreasing_by subst_vars; simp
theorem posF_pos (l : List (Pt × Nat)) (a : Pt) : 0 < posF l a ↔ a ∈ l.map (·.1) := by
  rcases l.eq_nil_or_concat with rfl | ⟨r, p, rfl⟩
  · simp [posF]
  · have h := posF_pos r a
    rw [List.concat_eq_append, posF_snoc]
    split
    · rename_i ha; subst ha; simp
    · rename_i ha; rw [h]; simp [ha]
termination_by l.length
decreasing_by subst_vars; simp
end Ox
/-- where names stand, in memory -/
def PlM (m : List (Ox.Pt × Value)) (l : List (Ox.Pt × Nat)) : Prop := ∀ a, (mget m a).getD (.int .i64 0) = .int .i64 (Ox.posF l a : Int)
attribute [local irreducible] At Ops Val Eff Does Res Dr

theorem places_does (v : Value) (l : List (Ox.Pt × Nat)) (hl : l.length ≤ 10000000000) (h : HV) (hv : PcsH h v l) :
    Does Tryz.prog 166 #[v] [] h (fun r Ω' h' => h = h' ∧ ∃ b m, r = .map (some b) ∧ Ω' = [mapI ptv b m] ∧ PlM m l) := by
  obtain ⟨a, cp, rfl⟩ := hv.form
  refine Does.of Tryz.func166 rfl Tryz.ntmps166 rfl fun c hc0 => ?_
  refine goK _ ?_
  refine Ops.eff rfl rfl rfl (E.makeMap ptv) fun _ => Ops.ex fun bm => Ops.pure ?_
  rintro rfl
  refine goK _ ?_
  refine At.loop2 (fun (i : Nat) (_ : List (Ox.Pt × Value)) => [(3, .map (some bm)), (7, .slice a l.length cp), (8, .int .i64 (l.length : Int)), (9, .int .i64 (i : Int))])
    (fun (i : Nat) (m : List (Ox.Pt × Value)) w => (i ≤ l.length ∧ PlM m (l.take i)) ∧ Mem c [mapI ptv bm m] h w) (fun (i : Nat) (_ : List (Ox.Pt × Value)) => l.length - i)
    0 [] ⟨rfl, rfl, rfl, rfl, trivial⟩ (fun w hw => ⟨⟨Nat.zero_le _, fun a => rfl⟩, hw⟩) (fun i m => At.pure (fun hq => ?_))
  obtain ⟨hi, hm⟩ := hq
  refine goK _ ?_
  refine At.condP rfl (fun h2 => ?_) (fun h2 => ?_)
  rotate_left
  · obtain rfl : i = l.length := by omega
    rw [List.take_length] at hm
    refine goK _ ?_
    exact At.ret1 Tryz.results166 (Res.tmp rfl) (List.Sublist.refl _) ⟨hc0.symm ▸ rfl, bm, m, rfl, rfl, hm⟩
  have hlt : i < l.length := by omega
  obtain ⟨b, o, rfl, _, _, hc⟩ := RowH.elem pcc_length hv (i := i) (x := l[i]) (by simp [hlt])
  have hts : l.take (i + 1) = l.take i ++ [l[i]] := by rw [List.take_succ_eq_append_getElem hlt]
  generalize hx : l[i] = x at *
  obtain ⟨⟨⟨xc, xm⟩, xn⟩, xt⟩ := x
  repeat (first | refine Ops.val rfl rfl rfl (V.loadHA (cs := [.int .i64 xc, .int .i64 xm, .int .i64 xn, str (Ox.enc xt)]) rfl rfl rfl hc) ?_ | refine goS _ ?_)
  refine Ops.eff rfl rfl rfl (E.alloc rfl) fun _ => Ops.ex fun b5 => Ops.pure ?_
  rintro rfl
  refine goK _ ?_
  refine Ops.eff0 rfl rfl (E.store 0 rfl rfl rfl rfl rfl rfl rfl) fun _ => ?_
  repeat (first | refine Ops.val rfl rfl rfl (V.loadOP 0 [.int .i64 xc, .int .i64 xm, .int .i64 xn] rfl rfl rfl rfl rfl) ?_ | refine goS _ ?_)
  refine Ops.eff0 rfl rfl (E.mapUpdate (κ := ptv) (a := ⟨⟨xc, xm⟩, xn⟩) 1 key263 rfl rfl rfl rfl rfl) fun _ => ?_
  refine goK _ ?_
  refine At.back2 (i + 1) (mset m ⟨⟨xc, xm⟩, xn⟩ (.int .i64 ((i : Int) + 1))) (by show l.length - (i + 1) < l.length - i; omega) (by exact ⟨rfl, rfl, rfl, rfl, trivial⟩) (fun w hw => ⟨⟨hlt, fun q => ?_⟩, hw.sub (List.sublist_cons_self _ _)⟩)
  rw [hts, Ox.posF_snoc, mget_mset]
  by_cases hq : (⟨⟨xc, xm⟩, xn⟩ : Ox.Pt) = q
  · rw [if_pos hq, if_pos hq.symm, List.length_take]; simp; omega
  · rw [if_neg hq, if_neg (Ne.symm hq)]; exact hm q

/-- atoms that two have are the same code points -/
def Ox.Alike (a b : List (Ox.Pt × Nat)) : Prop := ∀ p ∈ a, ∀ k q, Ox.posF b p.1 = k + 1 → b[k]? = some q → Ox.enc q.2 = Ox.enc p.2
open Classical in
theorem alike_does (u v : Value) (a b : List (Ox.Pt × Nat)) (ha : a.length ≤ 10000000000) (hb : b.length ≤ 10000000000) (h : HV) (hu : PcsH h u a) (hv : PcsH h v b) :
    Does Tryz.prog 168 #[u, v] [] h (Just h (· = .bool (decide (Ox.Alike a b)))) := by
  obtain ⟨ua, ucp, rfl⟩ := hu.form
  obtain ⟨va, vcp, rfl⟩ := hv.form
  refine Does.of Tryz.func168 rfl Tryz.ntmps168 rfl fun c hc0 => ?_
  refine goK _ ?_
  refine Ops.eff rfl rfl rfl (Eff.call (fn (by kernel_rfl)) rfl (Ωc := []) rfl (places_does _ b hb h hv)) fun _ => Ops.ex fun _ => Ops.ex fun _ => Ops.pure ?_
  rintro ⟨rfl, bm, m, rfl, rfl, hm⟩
  refine goK _ ?_
  refine At.loop1 (fun (i : Nat) => [(1, .slice va b.length vcp), (5, .map (some bm)), (11, .slice ua a.length ucp), (12, .int .i64 (a.length : Int)), (13, .int .i64 (i : Int))])
    (fun (i : Nat) w => (i ≤ a.length ∧ Ox.Alike (a.take i) b) ∧ Mem c [mapI ptv bm m] h w) (fun (i : Nat) => a.length - i)
    0 ⟨rfl, rfl, rfl, rfl, rfl, trivial⟩ (fun w hw => ⟨⟨Nat.zero_le _, fun p hp => by simp at hp⟩, hw⟩) (fun i => At.pure (fun hq => ?_))
  obtain ⟨hi, hA⟩ := hq
  refine goK _ ?_
  refine At.condP rfl (fun h2 => ?_) (fun h2 => ?_)
  rotate_left
  · obtain rfl : i = a.length := by omega
    rw [List.take_length] at hA
    refine goK _ ?_
    exact At.ret1 Tryz.results168 (Res.tmp rfl) (List.nil_sublist _) ⟨by rw [decide_eq_true hA], rfl, hc0.symm ▸ rfl⟩
  have hlt : i < a.length := by omega
  obtain ⟨b0, o0, rfl, _, _, hc⟩ := RowH.elem pcc_length hu (i := i) (x := a[i]) (by simp [hlt])
  have hts : a.take (i + 1) = a.take i ++ [a[i]] := by rw [List.take_succ_eq_append_getElem hlt]
  have hmem : a[i] ∈ a := by simp
  generalize hx : a[i] = x at *
  obtain ⟨⟨⟨xc, xm⟩, xn⟩, xt⟩ := x
  have hpa := Ox.posF_at b ⟨⟨xc, xm⟩, xn⟩
  have hpm := hm ⟨⟨xc, xm⟩, xn⟩
  have hstep : (∀ k q, Ox.posF b ⟨⟨xc, xm⟩, xn⟩ = k + 1 → b[k]? = some q → Ox.enc q.2 = Ox.enc xt) → Ox.Alike (a.take (i + 1)) b := fun hk p hp => by
    rw [hts] at hp
    rcases List.mem_append.1 hp with hp | hp
    · exact hA p hp
    · simp at hp; subst hp; exact hk
  generalize hP : Ox.posF b ⟨⟨xc, xm⟩, xn⟩ = P at *
  repeat (first | refine Ops.val rfl rfl rfl (V.loadHA (cs := [.int .i64 xc, .int .i64 xm, .int .i64 xn, str (Ox.enc xt)]) rfl rfl rfl hc) ?_ | refine goS _ ?_)
  refine Ops.eff rfl rfl rfl (E.alloc rfl) fun _ => Ops.ex fun b7 => Ops.pure ?_
  rintro rfl
  refine goK _ ?_
  refine Ops.eff0 rfl rfl (E.store 0 rfl rfl rfl rfl rfl rfl rfl) fun _ => ?_
  repeat (first | refine Ops.val rfl rfl rfl (V.loadOP 0 [.int .i64 xc, .int .i64 xm, .int .i64 xn] rfl rfl rfl rfl rfl) ?_ | refine goS _ ?_)
  refine Ops.val rfl rfl rfl (V.lookup (κ := ptv) (a := ⟨⟨xc, xm⟩, xn⟩) (m := m) 1 key263 rfl rfl rfl rfl rfl) ?_
  refine Ops.respell (t := 20) rfl hpm ?_
  refine goK _ ?_
  first | refine At.drawn mo (fun _ _ m => m.drew _) ?_ | refine At.seq (At.drawn mo (fun _ _ m => m.drew _) ?_)
  refine draA 0 _ ?_
  refine draA 1 _ ?_
  refine draA 2 _ ?_
  refine Dr.boolP (t := 23) rfl (fun h3 => ?_) (fun h3 => ?_)
  rotate_left
  · refine draA 3 _ ?_
    refine draA 4 _ ?_
    refine draA 5 _ ?_
    refine draA 6 _ ?_
    refine draA 7 _ ?_
    refine draA 8 _ ?_
    refine draA 9 _ ?_
    refine draA 10 _ ?_
    refine draA 11 _ ?_
    refine draA 12 _ ?_
    refine Dr.done (by kernel_rfl) (by kernel_rfl) ?_
    refine goK _ ?_
    refine At.back (i + 1) (by show a.length - (i + 1) < a.length - i; omega) (by exact ⟨rfl, rfl, rfl, rfl, rfl, trivial⟩) (fun w hw => ⟨⟨hlt, hstep fun k q hk => by omega⟩, hw.sub (List.sublist_cons_self _ _)⟩)
  obtain ⟨k, rfl⟩ : ∃ k, P = k + 1 := ⟨P - 1, by omega⟩
  obtain ⟨q, hq, _⟩ := hpa.2 k rfl
  obtain ⟨b1, o1, rfl, _, _, hc1⟩ := RowH.elem pcc_length hv hq
  refine Dr.val 3 rfl rfl rfl rfl (by kernel_rfl) rfl (Val.move rfl) ?_
  refine Dr.val 4 rfl rfl rfl rfl (by kernel_rfl) rfl (Val.move rfl) ?_
  refine Dr.val 5 rfl rfl rfl rfl (by kernel_rfl) rfl (Val.sub rfl rfl (by omega) (by omega)) ?_
  refine Dr.respell (t := 26) (v' := .int .i64 ((k : Nat) : Int)) rfl (by congr 1; omega) ?_
  refine Dr.val 6 rfl rfl rfl rfl (by kernel_rfl) rfl (V.indexAddr rfl rfl rfl rfl (by omega)) ?_
  refine Dr.val 7 rfl rfl rfl rfl (by kernel_rfl) rfl (V.fieldAddr rfl rfl) ?_
  refine Dr.valS 8 _ rfl rfl rfl rfl (by kernel_rfl) rfl (V.load rfl rfl (fun _ hh => hh)) (fun w hw => hw.cellH (hc1 3 _ rfl)) ?_
  refine Dr.val 9 rfl rfl rfl rfl (by kernel_rfl) rfl (V.fieldAddr rfl rfl) ?_
  refine Dr.valS 10 _ rfl rfl rfl rfl (by kernel_rfl) rfl (V.load rfl rfl (fun _ hh => hh)) (fun w hw => hw.cell (n := 0) rfl rfl) ?_
  refine Dr.val 11 rfl rfl rfl rfl (by kernel_rfl) rfl (Val.strneq rfl rfl) ?_
  refine Dr.val 12 rfl rfl rfl rfl (by kernel_rfl) rfl (Val.pick rfl rfl) ?_
  refine Dr.done (by kernel_rfl) (by kernel_rfl) ?_
  refine goK _ ?_
  refine At.condN rfl (fun h4 => ?_) (fun h4 => ?_)
  · refine goK _ ?_
    refine At.ret1 Tryz.results168 (Res.tmp rfl) (List.nil_sublist _) ⟨?_, rfl, hc0.symm ▸ rfl⟩
    rw [decide_eq_false fun hal => h4 (hal _ hmem k q hP hq)]
  refine goK _ ?_
  refine At.back (i + 1) (by show a.length - (i + 1) < a.length - i; omega) (by exact ⟨rfl, rfl, rfl, rfl, rfl, trivial⟩) (fun w hw => ⟨⟨hlt, hstep fun k' q' hk' hq' => ?_⟩, hw.sub (List.sublist_cons_self _ _)⟩)
  obtain rfl : k = k' := by omega
  rw [hq] at hq'; cases hq'; exact h4

theorem said_does (v : Value) (l : List (Ox.Pt × Nat)) (hl : l.length ≤ 1000000) (h : HV) (hv : PcsH h v l) : Does Tryz.prog 177 #[v] [] h (Just h (· = str (Ox.encs (l.map (·.2))))) := by
  obtain ⟨a, cp, rfl⟩ := hv.form
  refine Does.of Tryz.func177 rfl Tryz.ntmps177 rfl fun c hc0 => ?_
  refine goK _ ?_
  refine At.loop1 (fun (i : Nat) => [(3, str (Ox.encs ((l.take i).map (·.2)))), (6, .slice a l.length cp), (7, .int .i64 (l.length : Int)), (8, .int .i64 (i : Int))])
    (fun (i : Nat) w => i ≤ l.length ∧ Mem c [] h w) (fun (i : Nat) => l.length - i)
    0 ⟨rfl, rfl, rfl, rfl, trivial⟩ (fun w hw => ⟨Nat.zero_le _, hw⟩) (fun i => At.pure (fun hi => ?_))
  refine goK _ ?_
  refine At.condP rfl (fun h2 => ?_) (fun h2 => ?_)
  rotate_left
  · obtain rfl : i = l.length := by omega
    rw [List.take_length]
    refine goK _ ?_
    exact At.ret1 Tryz.results177 (Res.tmp rfl) (List.nil_sublist _) ⟨rfl, rfl, hc0.symm ▸ rfl⟩
  have hlt : i < l.length := by omega
  obtain ⟨b0, o0, rfl, _, _, hc⟩ := RowH.elem pcc_length hv (i := i) (x := l[i]) (by simp [hlt])
  have hts : (l.take (i + 1)).map (·.2) = (l.take i).map (·.2) ++ [l[i].2] := by rw [List.take_succ_eq_append_getElem hlt, List.map_append]; rfl
  generalize hx : l[i] = x at *
  obtain ⟨⟨⟨xc, xm⟩, xn⟩, xt⟩ := x
  have hel := Ox.encs_length ((l.take i).map (·.2))
  rw [List.length_map, List.length_take] at hel
  have hen := Ox.enc_length xt
  have hsz := Ox.size_pos xt
  simp only at hts
  repeat (first | refine Ops.val rfl rfl rfl (V.loadHA (cs := [.int .i64 xc, .int .i64 xm, .int .i64 xn, str (Ox.enc xt)]) rfl rfl rfl hc) ?_ | refine goS _ ?_)
  refine Ops.eff rfl rfl rfl (E.alloc rfl) fun _ => Ops.ex fun b5 => Ops.pure ?_
  rintro rfl
  refine Ops.eff0 rfl rfl (E.store 0 rfl rfl rfl rfl rfl rfl rfl) fun _ => ?_
  repeat (first | refine Ops.val rfl rfl rfl (Val.stradd rfl rfl (by omega)) ?_ | refine goS _ ?_)
  refine At.back (i + 1) (by show l.length - (i + 1) < l.length - i; omega) (by exact ⟨congrArg (fun z => some (str z)) (by rw [hts, Ox.encs_snoc]), rfl, rfl, rfl, trivial⟩) (fun w hw => ⟨hlt, hw.sub (List.nil_sublist _)⟩)

/-- a text of one code point, read off a slice of the call's own -/
theorem textOne_does (b n : Nat) (hn : Ox.isPoint n = true) (h : HV) : Does Tryz.prog 125 #[.slice (some ⟨b, 0, none⟩) 1 1] [row 3 1 (.slice (some ⟨b, 0, none⟩) 1 1) 1 [.int .i64 (n : Int)]] h (fun r Ω' h' => r = .tuple #[str (Ox.enc n), .bool true] ∧ Ω' = [row 3 1 (.slice (some ⟨b, 0, none⟩) 1 1) 1 [.int .i64 (n : Int)]] ∧ h = h') :=
  (Does.lend (Ωc := []) (post := fun r Ω' => r = .tuple #[str (Ox.enc n), .bool true] ∧ Ω' = []) (fun h' _ hsl => (Text_does _ [n] (by simpa using hn) (by simp) h' hsl).mono fun r Ω' h'' ⟨e1, e2, e3⟩ => ⟨⟨by rw [e1]; simp [Ox.encs], e2⟩, e3⟩)).mono fun r Ω' h' ⟨⟨Ω'', ⟨e1, e2⟩, e3⟩, e4⟩ => ⟨e1, by rw [e3, e2]; rfl, e4⟩

theorem pieces_does (v : Value) (d : List Ox.Atom) (hd : Ox.Good d) (h : HV) (hv : AtsH h v d) :
    Does Tryz.prog 165 #[v] [] h (fun r Ω' h' => HV.le h h' ∧ Ω' = [row 265 4 r (Ox.flat d).length ((Ox.flat d).flatMap pcc)]) := by
  obtain ⟨a, cp, rfl⟩ := hv.form
  have hdl := Ox.flat_ge hd.canon.ok
  have hfew := hd.few
  refine Does.of Tryz.func165 rfl Tryz.ntmps165 rfl fun c hc0 => ?_
  refine goK _ ?_
  refine At.row_nil 265 4 ?_
  refine At.loop3 (fun (i : Nat) (u : Value) (_ : HV) => [(3, u), (12, .slice a d.length cp), (13, .int .i64 (d.length : Int)), (14, .int .i64 (i : Int))])
    (fun (i : Nat) (u : Value) (h' : HV) w => (i ≤ d.length ∧ HV.le h h') ∧ Mem c [row 265 4 u (Ox.flat (d.take i)).length ((Ox.flat (d.take i)).flatMap pcc)] h' w) (fun (i : Nat) (_ : Value) (_ : HV) => d.length - i)
    0 (.slice none 0 0) h ⟨rfl, rfl, rfl, rfl, trivial⟩ (fun w hw => ⟨⟨Nat.zero_le _, HV.le.refl _⟩, hw⟩) (fun i u h' => At.pure (fun hq => ?_))
  obtain ⟨hi, hle⟩ := hq
  refine goK _ ?_
  refine At.condP rfl (fun h2 => ?_) (fun h2 => ?_)
  rotate_left
  · obtain rfl : i = d.length := by omega
    rw [List.take_length]
    refine goK _ ?_
    exact At.ret1 Tryz.results165 (Res.tmp rfl) (List.Sublist.refl _) ⟨hle, rfl⟩
  have hlt : i < d.length := by omega
  obtain ⟨b, o, rfl, _, _, hc⟩ := RowH.elem atc_length hv (i := i) (x := d[i]) (by simp [hlt])
  have hts : d.take (i + 1) = d.take i ++ [d[i]] := by rw [List.take_succ_eq_append_getElem hlt]
  have hft : Ox.flat (d.take (i + 1)) = Ox.flat (d.take i) ++ d[i].flat := by rw [hts, Ox.flat_append]; simp [Ox.flat]
  have hok := hd.canon.ok d[i] (by simp)
  have hfl : (Ox.flat (d.take (i + 1))).length ≤ 1000 := by
    have := congrArg List.length (Ox.flat_take_drop d (i + 1))
    rw [List.length_append] at this; omega
  rw [hft, List.length_append] at hfl
  have htl := hok.tlen
  have hxs := hok.short
  have hhigh := hok.high
  have hlow := hok.low
  have hflx := hok.flat_length
  generalize hx : d[i] = x at *
  obtain ⟨⟨xc, xm⟩, xn, xt⟩ := x
  generalize hpts : (Ox.Atom.mk ⟨xc, xm⟩ xn xt).pts = pts at *
  have hptx : Ox.points xt = some pts := by rw [← hpts]; exact hok.text
  have hfx : (Ox.Atom.mk ⟨xc, xm⟩ xn xt).flat = Ox.names ⟨xc, xm⟩ xn pts := by rw [Ox.Atom.flat, hpts]
  have hpe := Ox.encs_points hptx
  rw [hfx] at hft hfl
  rw [Ox.names_length] at hfl
  simp only at hlow hhigh hxs
  repeat (first | refine Ops.val rfl rfl rfl (V.loadHA (cs := [.int .i64 xc, .int .i64 xm, .int .i64 xn, str xt]) rfl rfl rfl (fun j u hj => HV.le.cell hle (hc j u hj))) ?_ | refine goS _ ?_)
  refine Ops.eff rfl rfl rfl (E.alloc rfl) fun _ => Ops.ex fun b5 => Ops.pure ?_
  rintro rfl
  refine Ops.eff0 rfl rfl (E.store 0 rfl rfl rfl rfl rfl rfl rfl) fun _ => ?_
  refine goK _ ?_
  refine Ops.eff rfl rfl rfl (Eff.call (fn (by kernel_rfl)) rfl (Ωc := []) rfl (points_does xt (by omega) h')) fun _ => Ops.ex fun _ => Ops.ex fun _ => Ops.pure ?_
  rintro ⟨rfl, hle2, hpp⟩
  rename_i h3
  rw [hptx] at hpp
  obtain ⟨uv, rfl, huv⟩ := hpp
  obtain ⟨pa, pcp, rfl⟩ := huv.form
  refine goK _ ?_
  have he0 : Ox.flat (d.take i) ++ Ox.names ⟨xc, xm⟩ xn (pts.take 0) = Ox.flat (d.take i) := by simp [Ox.names]
  refine At.loop2 (fun (k : Nat) (u' : Value) => [(3, u'), (5, .pointer (some ⟨b5, 0, none⟩)), (12, .slice (some ⟨b, o, none⟩) d.length cp), (13, .int .i64 (d.length : Int)), (14, .int .i64 (i : Int)), (24, .slice pa pts.length pcp), (25, .int .i64 (pts.length : Int)), (26, .int .i64 (k : Int))])
    (fun (k : Nat) (u' : Value) w => k ≤ pts.length ∧ Mem c [cells b5 [.int .i64 xc, .int .i64 xm, .int .i64 xn, str xt] 106, row 265 4 u' (Ox.flat (d.take i) ++ Ox.names ⟨xc, xm⟩ xn (pts.take k)).length ((Ox.flat (d.take i) ++ Ox.names ⟨xc, xm⟩ xn (pts.take k)).flatMap pcc)] h3 w) (fun (k : Nat) (_ : Value) => pts.length - k)
    0 u ⟨rfl, rfl, rfl, rfl, rfl, rfl, rfl, rfl, trivial⟩ (fun w hw => ⟨Nat.zero_le _, by rw [he0]; exact hw⟩) (fun k u' => At.pure (fun hk => ?_))
  refine goK _ ?_
  refine At.condP rfl (fun h4 => ?_) (fun h4 => ?_)
  rotate_left
  · obtain rfl : k = pts.length := by omega
    rw [List.take_length, ← hft]
    refine goK _ ?_
    refine At.back3 (i + 1) u' h3 (by show d.length - (i + 1) < d.length - i; omega) (by exact ⟨rfl, rfl, rfl, rfl, trivial⟩) (fun w hw => ⟨⟨hlt, hle.trans hle2⟩, hw.sub (List.sublist_cons_self _ _)⟩)
  have hkl : k < pts.length := by omega
  obtain ⟨bq, oq, rfl, _, _, hcq⟩ := SlH.get huv (i := k) (u := .int .i64 (pts[k] : Int)) (by simp [ints, hkl])
  have hpt := hpe.2 pts[k] (by simp)
  have hnm : Ox.names ⟨xc, xm⟩ xn (pts.take (k + 1)) = Ox.names ⟨xc, xm⟩ xn (pts.take k) ++ [((⟨⟨xc, xm⟩, xn + k⟩, pts[k]) : Ox.Pt × Nat)] := by
    rw [List.take_succ_eq_append_getElem hkl, Ox.names_append]; simp [Ox.names]; omega
  have hnl : (Ox.flat (d.take i) ++ Ox.names ⟨xc, xm⟩ xn (pts.take k)).length ≤ 1000 := by rw [List.length_append, Ox.names_length, List.length_take]; omega
  generalize pts[k] = n at *
  repeat (first | refine Ops.val rfl rfl rfl (V.loadH rfl rfl hcq) ?_ | refine goS _ ?_)
  refine Ops.eff rfl rfl rfl (E.buildSlice1R rfl rfl rfl rfl) fun _ => Ops.ex fun bw => Ops.pure ?_
  rintro rfl
  refine Ops.eff rfl rfl rfl (Eff.call (fn (by kernel_rfl)) rfl (Ωc := [row 3 1 (.slice (some ⟨bw, 0, none⟩) 1 1) 1 [.int .i64 (n : Int)]]) rfl (textOne_does bw n hpt h3)) fun _ => Ops.ex fun _ => Ops.ex fun _ => Ops.pure ?_
  rintro ⟨rfl, rfl, rfl⟩
  repeat (first | refine Ops.val rfl rfl rfl (V.loadOP 1 [.int .i64 xc, .int .i64 xm] rfl rfl rfl rfl rfl) ?_ | refine goS _ ?_)
  refine Ops.eff rfl rfl rfl (E.buildSlice1 rfl rfl rfl rfl) fun _ => Ops.ex fun _ => Ops.pure ?_
  rintro rfl
  refine Ops.eff rfl rfl rfl (E.append1s 2 rfl rfl rfl rfl rfl rfl (by omega) (by omega)) fun _ => Ops.ex fun g2 => Ops.ex fun cp2 => Ops.pure ?_
  rintro rfl
  refine goK _ ?_
  refine At.back2 (k + 1) (.slice (some ⟨g2, 0, none⟩) ((Ox.flat (d.take i) ++ Ox.names ⟨xc, xm⟩ xn (pts.take k)).length + 1) cp2) (by omega) (by exact ⟨rfl, rfl, rfl, rfl, rfl, rfl, rfl, rfl, trivial⟩) (fun w hw => ⟨hkl, ?_⟩)
  have e1 : (Ox.flat (d.take i) ++ Ox.names ⟨xc, xm⟩ xn (pts.take (k + 1))) = (Ox.flat (d.take i) ++ Ox.names ⟨xc, xm⟩ xn (pts.take k)) ++ [((⟨⟨xc, xm⟩, xn + k⟩, n) : Ox.Pt × Nat)] := by rw [hnm, List.append_assoc]
  have e2 : ∀ L : List (Ox.Pt × Nat), (L ++ [((⟨⟨xc, xm⟩, xn + k⟩, n) : Ox.Pt × Nat)]).flatMap pcc = L.flatMap pcc ++ pcc ((⟨⟨xc, xm⟩, xn + k⟩, n) : Ox.Pt × Nat) := fun L => by simp
  rw [e1, e2, List.length_append (bs := [((⟨⟨xc, xm⟩, xn + k⟩, n) : Ox.Pt × Nat)])]
  exact hw.sub (List.sublist_cons_self _ _)
end Go.Proofs.YthjgbmbaabpgmaaGreat
/-
  Merging: what is asked of a piece.
-/
namespace Go.Proofs.YthjgbmbaabpgmaaGreat
open Go.Sy
set_option maxRecDepth 4000
set_option maxHeartbeats 4000000
/-- a piece as a value -/
def pcv (p : Ox.Pt × Nat) : Value := .agg #[.int .i64 p.1.o.c, .int .i64 p.1.o.n, .int .i64 p.1.n, str (Ox.enc p.2)]
/-- three maps of places, each in its box -/
def Mp3 (x y z a b d : Nat) (ma mb md : List (Ox.Pt × Value)) : List Itm := [cells x [.map (some a)] 260, cells y [.map (some b)] 260, cells z [.map (some d)] 260, mapI ptv a ma, mapI ptv b mb, mapI ptv d md]
attribute [local irreducible] At Ops Val Eff Does Res Dr
section
variable (x y z a b d : Nat) (ma mb md : List (Ox.Pt × Value)) (A B D : List (Ox.Pt × Nat)) (hA : PlM ma A) (hB : PlM mb B) (hD : PlM md D) (p : Ox.Pt × Nat) (h : HV)
include hA hB hD

theorem both_does : Does Tryz.prog 167 #[pcv p, .pointer (some ⟨x, 0, none⟩), .pointer (some ⟨z, 0, none⟩)] (Mp3 x y z a b d ma mb md) h (fun r Ω' h' => r = .bool (decide (Ox.posF A p.1 = 0 ∧ 0 < Ox.posF D p.1)) ∧ Ω' = Mp3 x y z a b d ma mb md ∧ h = h') := by
  unfold Mp3 pcv
  obtain ⟨⟨⟨xc, xm⟩, xn⟩, xt⟩ := p
  have h1 := hA ⟨⟨xc, xm⟩, xn⟩; have h3 := hD ⟨⟨xc, xm⟩, xn⟩
  refine Does.of Tryz.func167 rfl Tryz.ntmps167 rfl fun c hc0 => ?_
  refine goK _ ?_
  refine Ops.eff rfl rfl rfl (Eff.box rfl) fun _ => Ops.ex fun b4 => Ops.pure ?_
  rintro rfl
  refine goK _ ?_
  refine Ops.forkR 4 (.bool (decide (Ox.posF A ⟨⟨xc, xm⟩, xn⟩ = 0 ∧ 0 < Ox.posF D ⟨⟨xc, xm⟩, xn⟩))) [1] ?_ (fun main => ?_)
  rotate_left
  · repeat' (first
      | refine Ops.val rfl rfl rfl (V.loadOP 0 [.int .i64 xc, .int .i64 xm, .int .i64 xn] rfl rfl rfl rfl rfl) ?_
      | (refine Ops.val rfl rfl rfl (V.lookup (κ := ptv) (a := ⟨⟨xc, xm⟩, xn⟩) (m := ma) 4 key263 rfl rfl rfl rfl rfl) ?_; refine Ops.respell (t := 8) rfl h1 ?_)
      | (refine Ops.val rfl rfl rfl (V.lookup (κ := ptv) (a := ⟨⟨xc, xm⟩, xn⟩) (m := md) 6 key263 rfl rfl rfl rfl rfl) ?_; refine Ops.respell (t := 14) rfl h3 ?_)
      | refine opS _ ?_
      | refine Ops.gsplit rfl rfl (fun hb => ?_) (fun hb => ?_)
      | refine Ops.psplit rfl (fun hb => ?_) (fun hb => ?_))
    all_goals (refine Ops.nil ?_; refine main.sub ⟨congrArg (fun b => some (Value.bool b)) ?_, (by repeat (first | exact trivial | refine ⟨rfl, ?_⟩))⟩; clear main; (rw [Bool.eq_iff_iff]; simp at *; try omega))
  exact At.ret1 Tryz.results167 (Res.tmp rfl) (List.sublist_cons_self _ _) ⟨rfl, rfl, hc0.symm ▸ rfl⟩

theorem inB_does : Does Tryz.prog 170 #[pcv p, .pointer (some ⟨y, 0, none⟩)] (Mp3 x y z a b d ma mb md) h (fun r Ω' h' => r = .int .i64 (Ox.posF B p.1 : Int) ∧ Ω' = Mp3 x y z a b d ma mb md ∧ h = h') := by
  unfold Mp3 pcv
  obtain ⟨⟨⟨xc, xm⟩, xn⟩, xt⟩ := p
  have h2 := hB ⟨⟨xc, xm⟩, xn⟩
  refine Does.of Tryz.func170 rfl Tryz.ntmps170 rfl fun c hc0 => ?_
  refine goK _ ?_
  refine Ops.eff rfl rfl rfl (Eff.box rfl) fun _ => Ops.ex fun b4 => Ops.pure ?_
  rintro rfl
  repeat (first | refine Ops.val rfl rfl rfl (V.loadOP 0 [.int .i64 xc, .int .i64 xm, .int .i64 xn] rfl rfl rfl rfl rfl) ?_ | refine goS _ ?_)
  refine Ops.val rfl rfl rfl (V.lookup (κ := ptv) (a := ⟨⟨xc, xm⟩, xn⟩) (m := mb) 5 key263 rfl rfl rfl rfl rfl) ?_
  refine Ops.respell (t := 7) rfl h2 ?_
  refine goK _ ?_
  exact At.ret1 Tryz.results170 (Res.tmp rfl) (List.sublist_cons_self _ _) ⟨rfl, rfl, hc0.symm ▸ rfl⟩

theorem inC_does : Does Tryz.prog 171 #[pcv p, .pointer (some ⟨z, 0, none⟩)] (Mp3 x y z a b d ma mb md) h (fun r Ω' h' => r = .int .i64 (Ox.posF D p.1 : Int) ∧ Ω' = Mp3 x y z a b d ma mb md ∧ h = h') := by
  unfold Mp3 pcv
  obtain ⟨⟨⟨xc, xm⟩, xn⟩, xt⟩ := p
  have h2 := hD ⟨⟨xc, xm⟩, xn⟩
  refine Does.of Tryz.func171 rfl Tryz.ntmps171 rfl fun c hc0 => ?_
  refine goK _ ?_
  refine Ops.eff rfl rfl rfl (Eff.box rfl) fun _ => Ops.ex fun b4 => Ops.pure ?_
  rintro rfl
  repeat (first | refine Ops.val rfl rfl rfl (V.loadOP 0 [.int .i64 xc, .int .i64 xm, .int .i64 xn] rfl rfl rfl rfl rfl) ?_ | refine goS _ ?_)
  refine Ops.val rfl rfl rfl (V.lookup (κ := ptv) (a := ⟨⟨xc, xm⟩, xn⟩) (m := md) 6 key263 rfl rfl rfl rfl rfl) ?_
  refine Ops.respell (t := 7) rfl h2 ?_
  refine goK _ ?_
  exact At.ret1 Tryz.results171 (Res.tmp rfl) (List.sublist_cons_self _ _) ⟨rfl, rfl, hc0.symm ▸ rfl⟩

theorem fresh_does : Does Tryz.prog 174 #[pcv p, .pointer (some ⟨x, 0, none⟩)] (Mp3 x y z a b d ma mb md) h (fun r Ω' h' => r = .bool (decide (Ox.posF A p.1 = 0)) ∧ Ω' = Mp3 x y z a b d ma mb md ∧ h = h') := by
  unfold Mp3 pcv
  obtain ⟨⟨⟨xc, xm⟩, xn⟩, xt⟩ := p
  have h2 := hA ⟨⟨xc, xm⟩, xn⟩
  refine Does.of Tryz.func174 rfl Tryz.ntmps174 rfl fun c hc0 => ?_
  refine goK _ ?_
  refine Ops.eff rfl rfl rfl (Eff.box rfl) fun _ => Ops.ex fun b4 => Ops.pure ?_
  rintro rfl
  repeat (first | refine Ops.val rfl rfl rfl (V.loadOP 0 [.int .i64 xc, .int .i64 xm, .int .i64 xn] rfl rfl rfl rfl rfl) ?_ | refine goS _ ?_)
  refine Ops.val rfl rfl rfl (V.lookup (κ := ptv) (a := ⟨⟨xc, xm⟩, xn⟩) (m := ma) 4 key263 rfl rfl rfl rfl rfl) ?_
  refine Ops.respell (t := 7) rfl h2 ?_
  refine goK _ ?_
  exact At.ret1 Tryz.results174 (Res.tmp rfl) (List.sublist_cons_self _ _) ⟨congrArg Value.bool (by simp), rfl, hc0.symm ▸ rfl⟩

theorem survives_does : Does Tryz.prog 173 #[pcv p, .pointer (some ⟨x, 0, none⟩), .pointer (some ⟨y, 0, none⟩), .pointer (some ⟨z, 0, none⟩)] (Mp3 x y z a b d ma mb md) h (fun r Ω' h' => r = .bool (decide (0 < Ox.posF A p.1 ∧ 0 < Ox.posF B p.1 ∧ 0 < Ox.posF D p.1)) ∧ Ω' = Mp3 x y z a b d ma mb md ∧ h = h') := by
  unfold Mp3 pcv
  obtain ⟨⟨⟨xc, xm⟩, xn⟩, xt⟩ := p
  have h1 := hA ⟨⟨xc, xm⟩, xn⟩; have h2 := hB ⟨⟨xc, xm⟩, xn⟩; have h3 := hD ⟨⟨xc, xm⟩, xn⟩
  refine Does.of Tryz.func173 rfl Tryz.ntmps173 rfl fun c hc0 => ?_
  refine goK _ ?_
  refine Ops.eff rfl rfl rfl (Eff.box rfl) fun _ => Ops.ex fun b4 => Ops.pure ?_
  rintro rfl
  refine goK _ ?_
  refine Ops.forkR 5 (.bool (decide (0 < Ox.posF A ⟨⟨xc, xm⟩, xn⟩ ∧ 0 < Ox.posF B ⟨⟨xc, xm⟩, xn⟩ ∧ 0 < Ox.posF D ⟨⟨xc, xm⟩, xn⟩))) [1] ?_ (fun main => ?_)
  rotate_left
  · repeat' (first
      | refine Ops.val rfl rfl rfl (V.loadOP 0 [.int .i64 xc, .int .i64 xm, .int .i64 xn] rfl rfl rfl rfl rfl) ?_
      | (refine Ops.val rfl rfl rfl (V.lookup (κ := ptv) (a := ⟨⟨xc, xm⟩, xn⟩) (m := ma) 4 key263 rfl rfl rfl rfl rfl) ?_; refine Ops.respell (t := 9) rfl h1 ?_)
      | (refine Ops.val rfl rfl rfl (V.lookup (κ := ptv) (a := ⟨⟨xc, xm⟩, xn⟩) (m := mb) 5 key263 rfl rfl rfl rfl rfl) ?_; refine Ops.respell (t := 15) rfl h2 ?_)
      | (refine Ops.val rfl rfl rfl (V.lookup (κ := ptv) (a := ⟨⟨xc, xm⟩, xn⟩) (m := md) 6 key263 rfl rfl rfl rfl rfl) ?_; refine Ops.respell (t := 22) rfl h3 ?_)
      | refine opS _ ?_
      | refine Ops.gsplit rfl rfl (fun hb => ?_) (fun hb => ?_)
      | refine Ops.psplit rfl (fun hb => ?_) (fun hb => ?_))
    all_goals (refine Ops.nil ?_; refine main.sub ⟨congrArg (fun b => some (Value.bool b)) ?_, (by repeat (first | exact trivial | refine ⟨rfl, ?_⟩))⟩; clear main; (rw [Bool.eq_iff_iff]; simp at *; try omega))
  exact At.ret1 Tryz.results173 (Res.tmp rfl) (List.sublist_cons_self _ _) ⟨rfl, rfl, hc0.symm ▸ rfl⟩
end
end Go.Proofs.YthjgbmbaabpgmaaGreat
