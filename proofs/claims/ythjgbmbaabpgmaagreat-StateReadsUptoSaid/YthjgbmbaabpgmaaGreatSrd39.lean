/-
  The walk's own logic: cells written over by others; a part of the call's own memory cleared.
-/
import Derived.Test.YthjgbmbaabpgmaaGreatSrd22
import Derived.Test.YthjgbmbaabpgmaaGreatSrd05
import Derived.Test.YthjgbmbaabpgmaaGreatSrd38
import Derived.Lib.Overlaps
set_option linter.unusedVariables false
set_option linter.unusedSimpArgs false
set_option linter.unusedSectionVars false
namespace Go.Sy
open Go Go.RowKit

theorem sets_eq : ∀ (l cs : List Value) (o : Nat), o + l.length ≤ cs.length → sets cs o l = cs.take o ++ l ++ cs.drop (o + l.length)
  | [], cs, o, h => by simp [sets]
  | v :: r, cs, o, h => by
    simp only [List.length_cons] at h
    rw [sets, sets_eq r (cs.set o v) (o + 1) (by rw [List.length_set]; omega)]
    have h1 : (cs.set o v).take (o + 1) = cs.take o ++ [v] := by
      rw [List.set_eq_take_append_cons_drop, if_pos (by omega)]
      rw [List.take_append, List.length_take, Nat.min_eq_left (by omega), show o + 1 - o = 1 by omega]
      rw [List.take_of_length_le (by simp; omega)]; simp
    have h2 : (cs.set o v).drop (o + 1 + r.length) = cs.drop (o + 1 + r.length) := by
      rw [List.drop_set, if_pos (by omega)]
    rw [h1, h2, List.length_cons, show o + (r.length + 1) = o + 1 + r.length by omega]
    simp
theorem sets_left {A B l : List Value} {o : Nat} (h : o + l.length ≤ A.length) : sets (A ++ B) o l = sets A o l ++ B := by
  rw [sets_eq _ _ _ (by rw [List.length_append]; omega), sets_eq _ _ _ h]
  rw [List.take_append_of_le_length (by omega), List.drop_append_of_le_length h]; simp
/-- an element of a row written over -/
theorem flat_sets {α : Type} {f : α → List Value} {m : Nat} (hf : ∀ a, (f a).length = m) {x' : α} {l : List α} {i : Nat} (hi : i < l.length) : sets (l.flatMap f) (i * m) (f x') = (l.set i x').flatMap f := by
  have h0 : (i + 1) * m ≤ l.length * m := Nat.mul_le_mul_right m hi
  rw [sets_eq _ _ _ (by rw [hf, flat_length f m hf]; rw [Nat.succ_mul] at h0; exact h0), hf, show i * m + m = (i + 1) * m by rw [Nat.succ_mul], flat_take hf, flat_drop hf]
  rw [List.set_eq_take_append_cons_drop, if_pos hi]
  simp

section
variable {P : Program} {Q : Exit → Act → World → Prop} {n : Sz} {σ : Slots} {k : List It} {c : Ctx} {Ω : List Itm} {h : HV} {ty T e : TypeId} {ps : String} {af : Array Edge} {g : Option (Nat × Bool)} {d : Option Nat} {x y : Operand}
theorem zeroCells_length (z : Array Value) (n : Nat) : (Builtin.zeroCells z n).toList.length = n * z.size := by simp [Builtin.zeroCells]
theorem zeroCells_one {z : Array Value} (h1 : z.toList.all (·.oneCell') = true) (n : Nat) : (Builtin.zeroCells z n).toList.all (·.oneCell') = true := by
  rw [List.all_eq_true]
  intro v hv
  simp only [Builtin.zeroCells, Array.mem_toList_iff, Array.mem_map, Array.mem_range] at hv
  obtain ⟨i, hi, rfl⟩ := hv
  have hz : 0 < z.size := by
    rcases Nat.eq_zero_or_pos z.size with h0 | h0
    · rw [h0, Nat.mul_zero] at hi; omega
    · exact h0
  have hm : i % z.size < z.size := Nat.mod_lt _ hz
  rw [getElem!_pos z _ hm]
  exact List.all_eq_true.1 h1 _ (by simp)
/-- a part of the call's own memory cleared -/
theorem Eff.clearS {m by_ b o N cp U : Nat} {z : List Value} {cs : List Value} (j : Nat) (hT : elt P T = some (e, m, by_)) (hz : zero P e = some z.toArray) (h1 : z.all (·.oneCell') = true) (hx : ev σ x = some (.slice (some ⟨b, o, none⟩) N cp))
    (hj : Ω[j]? = some (cells b cs U)) (hfit : N = 0 ∨ o + N * m ≤ cs.length) :
    Eff P σ (Mem c Ω h) ⟨d, .call ⟨.builtin .clear, #[x], #[T]⟩, ty, ps, af, g⟩ fun _ w => ∃ zs, (N = 0 → zs = []) ∧ zs.length = N * m ∧ Mem c (Ω.set j (cells b (sets cs o zs) U)) h w := fun ρ w hρ hw => by
  have hb : w.heap[b]? = some (.cells cs.toArray U (0, 0)) := hw.blk hj
  obtain ⟨hu, i, z', hi, hz', hs, hby, hzc, hpos⟩ := elt_spec hT
  have hzz : z'.cells = z.toArray := by
    unfold zero at hz
    rw [hi] at hz
    simp only [Option.bind_some, hz', Option.map_some, Option.some.injEq] at hz
    exact hz
  have hzr : (zeroValue e).run P w = .ok z' w := by simp [zeroValue, typeInfo, hi, hz']
  by_cases h0 : N = 0
  · subst h0
    have : (execOp ρ ⟨d, .call ⟨.builtin .clear, #[x], #[T]⟩, ty, ps, af, g⟩).run P w = .ok (.value (.tuple #[])) w := by
      simp [execOp, resolve, hρ x _ hx, invoke, builtin, Builtin.clear_, run_underlying hu]
    rw [this]
    refine ⟨[], fun _ => rfl, by simp, ?_⟩
    have e1 : Ω.set j (cells b (sets cs o []) U) = Ω := by
      rw [sets]
      apply List.ext_getElem?
      intro k
      by_cases hk : j = k
      · subst hk
        rw [List.getElem?_set_self (List.getElem?_eq_some_iff.1 hj).1, hj]
      · rw [List.getElem?_set_ne hk]
    rw [e1]; exact hw
  · have hfit' : o + N * m ≤ cs.length := hfit.resolve_left h0
    have hlen : (Builtin.zeroCells z'.cells N).toList.length = N * m := by rw [zeroCells_length, hzc]
    obtain ⟨w', hst, hb', h2, h3, h4, h5, h6⟩ := storeCells_own P (Builtin.zeroCells z'.cells N).toList 0 o cs w hb (by rw [hlen]; omega) (zeroCells_one (by rw [hzz]; simpa using h1) N)
    have : (execOp ρ ⟨d, .call ⟨.builtin .clear, #[x], #[T]⟩, ty, ps, af, g⟩).run P w = .ok (.value (.tuple #[])) w' := by
      obtain ⟨k, rfl⟩ : ∃ k, N = k + 1 := ⟨N - 1, by omega⟩
      simp [execOp, resolve, hρ x _ hx, invoke, builtin, Builtin.clear_, run_underlying hu, hzr, hst]
    rw [this]
    refine ⟨_, fun e => absurd e h0, hlen, hw.change_at j hj h2 h3 h4 (by omega) (fun k _ hk => h6 k hk) ?_ (fun k hk => .inl hk)⟩
    show w'.heap[b]? = _
    simpa using hb'
end
end Go.Sy
/-
  The first one of which something holds; those of which it holds taken out.
-/
namespace Go.Proofs.YthjgbmbaabpgmaaGreat
open Go.Sy
set_option maxRecDepth 4000
set_option maxHeartbeats 4000000
/-- where the first one stands; -1: nowhere -/
def ixOf {α : Type} (q : α → Bool) (l : List α) : Int := match l.findIdx? q with | some i => (i : Int) | none => -1
theorem ixOf_none {α : Type} {q : α → Bool} {l : List α} (h : ∀ x ∈ l, q x = false) : ixOf q l = -1 := by
  unfold ixOf
  rw [List.findIdx?_eq_none_iff.2 h]
theorem ixOf_at {α : Type} {q : α → Bool} {l : List α} {i : Nat} {x : α} (hx : l[i]? = some x) (hq : q x = true) (hb : ∀ y ∈ l.take i, q y = false) : ixOf q l = (i : Int) := by
  unfold ixOf
  have hlt : i < l.length := (List.getElem?_eq_some_iff.1 hx).1
  have : l.findIdx? q = some i := by
    rw [List.findIdx?_eq_some_iff_getElem]
    refine ⟨hlt, ?_, fun j hj => ?_⟩
    · have := (List.getElem?_eq_some_iff.1 hx).2; rw [this]; exact hq
    · have := hb l[j] (List.mem_take_iff_getElem.2 ⟨j, by omega, rfl⟩)
      simp [this]
  rw [this]
attribute [local irreducible] At Ops Val Eff Does Res Dr

theorem IndexBr_does (g : Nat) (cap : Array Value) (Ωc : List Itm) (q : BrV → Bool) (h : HV) (v : Value) (l : List BrV) (hg : isFn Tryz.prog g = true) (hf : ∀ p ∈ l, Does Tryz.prog g (#[.agg (brc p).toArray] ++ cap) Ωc h (fun r Ω' h' => r = .bool (q p) ∧ Ω' = Ωc ∧ h = h'))
    (hl : l.length ≤ 1000000000) (hv : RowRd brc 3 Ωc h v l) :
    Does Tryz.prog 181 #[v, .func (.func g) #[] cap] Ωc h (fun r Ω' h' => r = .int .i64 (ixOf q l) ∧ Ω' = Ωc ∧ h = h') := by
  obtain ⟨a, cp, rfl⟩ := hv.form
  refine Does.of Tryz.func181 rfl Tryz.ntmps181 rfl fun c hc0 => ?_
  refine goK _ ?_
  refine At.loop1 (fun (i : Nat) => [(0, .slice a l.length cp), (1, .func (.func g) #[] cap), (7, .int .i64 (l.length : Int)), (8, .int .i64 (i : Int))])
    (fun (i : Nat) w => (i ≤ l.length ∧ ∀ p ∈ l.take i, q p = false) ∧ Mem c Ωc h w) (fun (i : Nat) => l.length - i)
    0 ⟨rfl, rfl, rfl, rfl, trivial⟩ (fun w hw => ⟨⟨Nat.zero_le _, by simp⟩, hw⟩) (fun i => At.pure (fun hq => ?_))
  obtain ⟨hi, hm⟩ := hq
  refine goK _ ?_
  refine At.condP rfl (fun h2 => ?_) (fun h2 => ?_)
  rotate_left
  · obtain rfl : i = l.length := by omega
    rw [List.take_length] at hm
    refine goK _ ?_
    exact At.ret1 Tryz.results181 (Res.tmp rfl) (List.Sublist.refl _) ⟨by rw [ixOf_none hm], rfl, hc0.symm ▸ rfl⟩
  have hlt : i < l.length := by omega
  obtain ⟨b0, o0, rfl, _, _, hc⟩ := RowRd.elem brc_length hv (i := i) (x := l[i]) (by simp [hlt])
  have hts : l.take (i + 1) = l.take i ++ [l[i]] := by rw [List.take_succ_eq_append_getElem hlt]
  have hmem : l[i]? = some l[i] := by simp [hlt]
  generalize hx : l[i] = x at *
  have hfp := hf x (List.mem_of_getElem? hmem)
  repeat (first | refine Ops.val rfl rfl rfl (V.loadN (cs := brc x) rfl rfl rfl (fun w hw j u hu => Mem.cellR (hc j u hu) (by first | exact fun _ hi => hi | exact fun _ hi => List.mem_cons_of_mem _ hi | exact fun _ hi => List.mem_cons_of_mem _ (List.mem_cons_of_mem _ hi) | simp +contextual | grind) hw)) ?_ | refine goS _ ?_)
  refine Ops.eff rfl rfl rfl (Eff.callvAt 0 hg rfl rfl (Ωc := Ωc) (Ωr := []) (by simp) hfp) fun _ => Ops.ex fun _ => Ops.ex fun _ => Ops.pure ?_
  rintro ⟨rfl, e5, rfl⟩
  subst e5
  refine goK _ ?_
  refine At.cond rfl (fun h3 => ?_) (fun h3 => ?_)
  · refine goK _ ?_
    exact At.ret1 Tryz.results181 (Res.tmp rfl) (by simp) ⟨by rw [ixOf_at hmem h3 hm], rfl, hc0.symm ▸ rfl⟩
  refine goK _ ?_
  refine At.back (i + 1) (by show l.length - (i + 1) < l.length - i; omega) (by exact ⟨rfl, rfl, rfl, rfl, trivial⟩) (fun w hw => ⟨⟨hlt, fun p hp => ?_⟩, hw.sub (by simp)⟩)
  rw [hts] at hp
  rcases List.mem_append.1 hp with h4 | h4
  · exact hm p h4
  · simp at h4; subst h4; exact h3

theorem IndexCl_does (g : Nat) (cap : Array Value) (Ωc : List Itm) (q : Ox.Cl → Bool) (h : HV) (v : Value) (l : List Ox.Cl) (hg : isFn Tryz.prog g = true) (hf : ∀ p ∈ l, Does Tryz.prog g (#[.agg (clc p).toArray] ++ cap) Ωc h (fun r Ω' h' => r = .bool (q p) ∧ Ω' = Ωc ∧ h = h'))
    (hl : l.length ≤ 1000000000) (hv : RowRd clc 3 Ωc h v l) :
    Does Tryz.prog 99 #[v, .func (.func g) #[] cap] Ωc h (fun r Ω' h' => r = .int .i64 (ixOf q l) ∧ Ω' = Ωc ∧ h = h') := by
  obtain ⟨a, cp, rfl⟩ := hv.form
  refine Does.of Tryz.func99 rfl Tryz.ntmps99 rfl fun c hc0 => ?_
  refine goK _ ?_
  refine At.loop1 (fun (i : Nat) => [(0, .slice a l.length cp), (1, .func (.func g) #[] cap), (7, .int .i64 (l.length : Int)), (8, .int .i64 (i : Int))])
    (fun (i : Nat) w => (i ≤ l.length ∧ ∀ p ∈ l.take i, q p = false) ∧ Mem c Ωc h w) (fun (i : Nat) => l.length - i)
    0 ⟨rfl, rfl, rfl, rfl, trivial⟩ (fun w hw => ⟨⟨Nat.zero_le _, by simp⟩, hw⟩) (fun i => At.pure (fun hq => ?_))
  obtain ⟨hi, hm⟩ := hq
  refine goK _ ?_
  refine At.condP rfl (fun h2 => ?_) (fun h2 => ?_)
  rotate_left
  · obtain rfl : i = l.length := by omega
    rw [List.take_length] at hm
    refine goK _ ?_
    exact At.ret1 Tryz.results99 (Res.tmp rfl) (List.Sublist.refl _) ⟨by rw [ixOf_none hm], rfl, hc0.symm ▸ rfl⟩
  have hlt : i < l.length := by omega
  obtain ⟨b0, o0, rfl, _, _, hc⟩ := RowRd.elem clc_length hv (i := i) (x := l[i]) (by simp [hlt])
  have hts : l.take (i + 1) = l.take i ++ [l[i]] := by rw [List.take_succ_eq_append_getElem hlt]
  have hmem : l[i]? = some l[i] := by simp [hlt]
  generalize hx : l[i] = x at *
  have hfp := hf x (List.mem_of_getElem? hmem)
  repeat (first | refine Ops.val rfl rfl rfl (V.loadN (cs := clc x) rfl rfl rfl (fun w hw j u hu => Mem.cellR (hc j u hu) (by first | exact fun _ hi => hi | exact fun _ hi => List.mem_cons_of_mem _ hi | exact fun _ hi => List.mem_cons_of_mem _ (List.mem_cons_of_mem _ hi) | simp +contextual | grind) hw)) ?_ | refine goS _ ?_)
  refine Ops.eff rfl rfl rfl (Eff.callvAt 0 hg rfl rfl (Ωc := Ωc) (Ωr := []) (by simp) hfp) fun _ => Ops.ex fun _ => Ops.ex fun _ => Ops.pure ?_
  rintro ⟨rfl, e5, rfl⟩
  subst e5
  refine goK _ ?_
  refine At.cond rfl (fun h3 => ?_) (fun h3 => ?_)
  · refine goK _ ?_
    exact At.ret1 Tryz.results99 (Res.tmp rfl) (by simp) ⟨by rw [ixOf_at hmem h3 hm], rfl, hc0.symm ▸ rfl⟩
  refine goK _ ?_
  refine At.back (i + 1) (by show l.length - (i + 1) < l.length - i; omega) (by exact ⟨rfl, rfl, rfl, rfl, trivial⟩) (fun w hw => ⟨⟨hlt, fun p hp => ?_⟩, hw.sub (by simp)⟩)
  rw [hts] at hp
  rcases List.mem_append.1 hp with h4 | h4
  · exact hm p h4
  · simp at h4; subst h4; exact h3

/-- is a branch that one -/
theorem isBr_does (y : BrV) (bk : Nat) (n : Int) (Ωr : List Itm) (h : HV) : Does Tryz.prog 136 #[.agg (brc y).toArray, .pointer (some ⟨bk, 0, none⟩)] (cells bk [.int .i64 n] 3 :: Ωr) h (fun r Ω' h' => r = .bool (decide (y.b.id = n)) ∧ Ω' = cells bk [.int .i64 n] 3 :: Ωr ∧ h = h') := by
  obtain ⟨yb, lv⟩ := y
  simp only [brc]
  refine Does.of Tryz.func136 rfl Tryz.ntmps136 rfl fun c hc0 => ?_
  refine goK _ ?_
  refine Ops.eff rfl rfl rfl (Eff.box rfl) fun _ => Ops.ex fun b2 => Ops.pure ?_
  rintro rfl
  refine goK _ ?_
  exact At.ret1 Tryz.results136 (Res.tmp rfl) (Ω' := cells bk [.int .i64 n] 3 :: Ωr) (List.sublist_cons_self _ _) ⟨rfl, rfl, hc0.symm ▸ rfl⟩
end Go.Proofs.YthjgbmbaabpgmaaGreat
/-
  One more put into a row.
-/
namespace Go.Proofs.YthjgbmbaabpgmaaGreat
open Go.Sy
set_option maxRecDepth 4000
set_option maxHeartbeats 4000000
/-- a row of the call's own: it has a block, or it is nil -/
theorem atRowCases {P : Program} {Q : Exit → Act → World → Prop} {n : Sz} {σ : Slots} {k : List It} {c : Ctx} {Ω : List Itm} {h : HV} {e size N : Nat} {v : Value} {xs : List Value} (t : Nat) (ht : Ω[t]? = some (row e size v N xs))
    (h1 : v = .slice none 0 0 → N = 0 → At P Q n σ (Mem c Ω h) k) (h2 : ∀ g cp, v = .slice (some ⟨g, 0, none⟩) N cp → N ≤ cp → At P Q n σ (Mem c Ω h) k) : At P Q n σ (Mem c Ω h) k := fun a w ha m => by
  have hr : w.ownsRow 0 e size v N xs := m.own _ (List.mem_of_getElem? ht)
  obtain ⟨_, ⟨h0, h3⟩ | ⟨g, cap, cur, hv, _, _, hn, _⟩⟩ := hr
  · exact h1 h0 h3 a w ha m
  · exact h2 g cap hv hn a w ha m
theorem sets_app {A Z L : List Value} {o : Nat} (ho : o = A.length) (h : L.length ≤ Z.length) : sets (A ++ Z) o L = A ++ L ++ Z.drop L.length := by
  subst ho
  rw [sets_eq _ _ _ (by rw [List.length_append]; omega), List.take_left, List.drop_append]
  rw [List.drop_eq_nil_of_le (by omega), Nat.add_sub_cancel_left]; simp
theorem overlapsX (w : World) (bw g o n cp : Nat) (xs ys : List Value) (hne : bw ≠ g) (h1 : w.heap[bw]? = some (.cells xs.toArray 127 (0, 0))) (h2 : w.heap[g]? = some (.cells ys.toArray 127 (0, 0))) (hy : ys ≠ []) :
    (callFunc 147 #[.slice (some ⟨bw, 0, none⟩) 1 1, .slice (some ⟨g, o, none⟩) n cp]).run Tryz.prog w = .ok (.value (.bool false)) w := by
  rw [run_callFunc_extern Tryz.func147 (by kernel_rfl) (by kernel_rfl) (by kernel_rfl) (e := Extern.SlicesOverlaps.overlaps #[25, 25] #[4]) (by kernel_rfl)]
  have := Lib.run_overlaps_apart (P := Tryz.prog) w 25 4 127 Tryz.underlying25 3 Tryz.sizeOf127 ⟨bw, 0, none⟩ ⟨g, o, none⟩ 1 1 n cp hne 127 127 xs.length ys.length (by simp [World.shape?, h1]) (by simp [World.shape?, h2]) (by simpa using hy) (by simp [World.frozen?, h1]) (by simp [World.frozen?, h1])
  show ((Extern.SlicesOverlaps.overlaps #[25, 25] #[4] #[.slice (some ⟨bw, 0, none⟩) 1 1, .slice (some ⟨g, o, none⟩) n cp]).run Tryz.prog w).andThen _ = _
  rw [this]; rfl
attribute [local irreducible] At Ops Val Eff Does Res Dr

theorem InsertCl_does (v : Value) (ks : List Ox.Cl) (i : Nat) (hi : i ≤ ks.length) (hkl : ks.length ≤ 1000) (x : Ox.Cl) (bw : Nat) (h : HV) :
    Does Tryz.prog 114 #[v, .int .i64 (i : Int), .slice (some ⟨bw, 0, none⟩) 1 1] [row 127 3 v ks.length (ks.flatMap clc), cells bw (clc x) 127] h
      (fun r Ω' h' => (∃ a cp, r = .slice a (ks.length + 1) cp) ∧ Ω' = [row 127 3 r (ks.length + 1) ((ks.take i ++ x :: ks.drop i).flatMap clc)] ∧ h = h') := by
  have happ : ∀ c : Ctx, ∀ w, Mem c [row 127 3 v ks.length (ks.flatMap clc), cells bw (clc x) 127] h w → ∀ i u, (clc x)[i]? = some u → w.cell? ⟨bw, 0 + i, none⟩ = some u := fun c w hw i u hu => hw.cell (n := 1) rfl (by rw [Nat.zero_add]; exact hu)
  have hxl : (ks.flatMap clc).length = ks.length * 3 := flat_length clc 3 clc_length ks
  have happE : i = ks.length → (ks.take i ++ x :: ks.drop i).flatMap clc = ks.flatMap clc ++ clc x := fun e => by subst e; simp
  refine Does.of Tryz.func114 rfl Tryz.ntmps114 rfl fun c hc0 => ?_
  refine atRowCases 0 rfl (fun hv0 h0 => ?_) (fun g cp hv hcp => ?_)
  · subst hv0
    obtain rfl : i = 0 := by omega
    have happE := happE (by omega)
    refine At.respell (t := 1) (v' := .int .i64 0) rfl rfl ?_
    refine goK _ ?_
    refine Ops.val rfl rfl rfl (Val.slice_nil Tryz.underlying25 (ly rfl) rfl rfl) ?_
    refine goK _ ?_
    refine Ops.eff rfl rfl rfl (E.append 0 (N := ks.length) (news := clc x) rfl rfl rfl rfl rfl rfl (by omega) (by omega) (happ c)) fun u => Ops.pure fun _ => ?_
    refine goK _ ?_
    refine At.row_form 0 rfl fun a cp e => ?_
    subst e
    refine At.ret1 Tryz.results114 (Res.tmp rfl) (Ω' := [row 127 3 (.slice a (ks.length + 1) cp) (ks.length + 1) (ks.flatMap clc ++ clc x)]) ((List.nil_sublist _).cons_cons _) ⟨⟨a, cp, rfl⟩, ?_, hc0.symm ▸ rfl⟩
    rw [happE]
  subst hv
  repeat (first | refine Ops.val rfl rfl rfl (V.slice_from (l := i) rfl rfl rfl rfl (by omega)) ?_ | refine goS _ ?_)
  refine At.condP rfl (fun h1 => ?_) (fun h1 => ?_)
  · obtain rfl : i = ks.length := by omega
    have happE := happE rfl
    refine goK _ ?_
    refine Ops.eff rfl rfl rfl (E.append 0 (N := ks.length) (news := clc x) rfl rfl rfl rfl rfl rfl (by omega) (by omega) (happ c)) fun u => Ops.pure fun _ => ?_
    refine goK _ ?_
    refine At.row_form 0 rfl fun a cp e => ?_
    subst e
    refine At.ret1 Tryz.results114 (Res.tmp rfl) (Ω' := [row 127 3 (.slice a (ks.length + 1) cp) (ks.length + 1) (ks.flatMap clc ++ clc x)]) ((List.nil_sublist _).cons_cons _) ⟨⟨a, cp, rfl⟩, ?_, hc0.symm ▸ rfl⟩
    rw [happE]
  have hlt : i < ks.length := by omega
  have hAl : ((ks.take i).flatMap clc).length = i * 3 := by rw [flat_length clc 3 clc_length, List.length_take, Nat.min_eq_left hi]
  have hDl : ((ks.drop i).flatMap clc).length = (ks.length - i) * 3 := by rw [flat_length clc 3 clc_length, List.length_drop]
  have hAD : ks.flatMap clc = (ks.take i).flatMap clc ++ (ks.drop i).flatMap clc := by rw [← List.flatMap_append, List.take_append_drop]
  have hfin : (ks.take i ++ x :: ks.drop i).flatMap clc = (ks.take i).flatMap clc ++ clc x ++ (ks.drop i).flatMap clc := by simp
  rw [hfin, hAD]
  have hA1 : ((ks.take i).flatMap clc).all (·.oneCell') = true := flat_one (fun _ => rfl) _
  have hD1 : ((ks.drop i).flatMap clc).all (·.oneCell') = true := flat_one (fun _ => rfl) _
  rw [hAD] at hxl
  generalize hAe : (ks.take i).flatMap clc = A at *
  generalize hDe : (ks.drop i).flatMap clc = D at *
  repeat (first | refine At.skip ?_ | refine At.blk ?_ | refine At.seq ?_ | refine At.exit rfl ?_)
  refine At.open_row 0 rfl (by omega) fun g' acp rest hvv hl1 hl2 hNN hcpm => ?_
  cases hvv
  have hsep : ∀ w, Mem c [cells g (A ++ D ++ rest) 127, cells bw (clc x) 127] h w → bw ≠ g := fun w hw e => by
    have := List.pairwise_cons.1 hw.sep
    exact this.1 (cells bw (clc x) 127) (by simp) g rfl e.symm
  repeat (first | refine Ops.val rfl rfl rfl (Val.capslice Tryz.underlying25 rfl) ?_ | refine goS _ ?_)
  refine At.condP rfl (fun h2 => ?_) (fun h2 => ?_)
  · repeat (first | refine Ops.val rfl rfl rfl (V.slice_to (r := i) rfl rfl rfl rfl (by omega)) ?_ | refine goS _ ?_)
    refine Ops.respell (t := 39) (v' := .int .i64 ((ks.length + 1 - i : Nat) : Int)) rfl (congrArg (Value.int .i64) (by omega)) ?_
    refine Ops.eff rfl rfl rfl (Eff.appendMake (K := .i64) (olds := A) (ap rfl) Tryz.underlying3 rfl rfl (by omega) (by omega) (by omega) (fun w hw b e j u hu => ?_) (fun e => by cases e) (by omega) (by omega)) fun _ => Ops.ex fun g2 => Ops.ex fun cp2 => Ops.ex fun zs => Ops.pure ?_
    · cases e
      rw [add_addr]
      refine hw.cell (n := 0) rfl ?_
      have hj : j < A.length := (List.getElem?_eq_some_iff.1 hu).1
      rw [Nat.zero_add, List.append_assoc, List.getElem?_append_left hj]; exact hu
    rintro rfl
    refine Ops.pure fun hc2 => Ops.pure fun hc3 => Ops.pure fun hzl => ?_
    have hoff1 : off cp2 i ⟨g2, 0, none⟩ 3 = ⟨g2, i * 3, none⟩ := by rw [off_none, if_neg (by omega), Nat.zero_add]
    have hoff2 : off cp2 (i + 1) ⟨g2, 0, none⟩ 3 = ⟨g2, (i + 1) * 3, none⟩ := by rw [off_none, if_neg (by omega), Nat.zero_add]
    have hoff3 : off cp i ⟨g, 0, none⟩ 3 = ⟨g, i * 3, none⟩ := by rw [off_none, if_neg (by omega), Nat.zero_add]
    repeat (first | refine Ops.val rfl rfl rfl (V.slice_from (l := i) rfl rfl rfl rfl (by omega)) ?_ | refine goS _ ?_)
    refine Ops.respell (t := 43) (v' := .slice (some ⟨g2, i * 3, none⟩) (i + (ks.length + 1 - i) - i) (cp2 - i)) rfl (by rw [hoff1]) ?_
    refine goK _ ?_
    refine Ops.eff rfl rfl rfl (Eff.copy (m := 3) (vs := clc x) 0 Tryz.underlying25 (ly rfl) rfl rfl rfl (by rw [clc_length, Nat.min_eq_left (by omega)]) (by rw [clc_length, hzl]; omega) rfl (fun w hw i u hu => hw.cell (n := 2) rfl (by rw [Nat.zero_add]; exact hu))) fun _ => ?_
    refine goK _ ?_
    first | refine At.drawn mo (fun _ _ m => m.drew _) ?_ | refine At.seq (At.drawn mo (fun _ _ m => m.drew _) ?_)
    refine Dr.val 0 rfl rfl rfl rfl (by kernel_rfl) rfl (Val.move rfl) ?_
    refine Dr.val 1 rfl rfl rfl rfl (by kernel_rfl) rfl (Val.move rfl) ?_
    refine Dr.val 2 rfl rfl rfl rfl (by kernel_rfl) rfl (Val.move rfl) ?_
    refine Dr.val 3 rfl rfl rfl rfl (by kernel_rfl) rfl (Val.add rfl rfl (by omega) (by omega)) ?_
    refine Dr.respell (t := 49) (v' := .int .i64 ((i + 1 : Nat) : Int)) rfl (congrArg (Value.int .i64) (by omega)) ?_
    refine Dr.val 4 rfl rfl rfl rfl (by kernel_rfl) rfl (V.slice_from (l := i + 1) rfl rfl rfl rfl (by omega)) ?_
    refine Dr.respell (t := 50) (v' := .slice (some ⟨g2, (i + 1) * 3, none⟩) (i + (ks.length + 1 - i) - (i + 1)) (cp2 - (i + 1))) rfl (by rw [hoff2]) ?_
    refine Dr.val 5 rfl rfl rfl rfl (by kernel_rfl) rfl (Val.move rfl) ?_
    refine Dr.val 6 rfl rfl rfl rfl (by kernel_rfl) rfl (Val.move rfl) ?_
    refine Dr.val 7 rfl rfl rfl rfl (by kernel_rfl) rfl (V.slice_from (l := i) rfl rfl rfl rfl (by omega)) ?_
    refine Dr.respell (t := 53) (v' := .slice (some ⟨g, i * 3, none⟩) (ks.length - i) (cp - i)) rfl (by rw [hoff3]) ?_
    refine Dr.next (e := 8) rfl rfl (by kernel_rfl) rfl (by kernel_rfl) (by kernel_rfl) rfl rfl (Eff.copy (m := 3) (vs := D) 0 Tryz.underlying25 (ly rfl) rfl rfl rfl (by rw [hDl, Nat.min_eq_left (by omega)]) (by rw [sets_length, hzl, hDl]; omega) hD1 (fun w hw j u hu => hw.cell (n := 1) rfl (by rw [List.append_assoc, List.getElem?_append_right (by omega), hAl, Nat.add_sub_cancel_left, List.getElem?_append_left (List.getElem?_eq_some_iff.1 hu).1]; exact hu))) aokK fun _ => ?_
    refine Dr.done (by kernel_rfl) (by kernel_rfl) ?_
    have hcs : sets (sets (A ++ zs) (i * 3) (clc x)) ((i + 1) * 3) D = A ++ clc x ++ D ++ (zs.drop 3).drop D.length := by
      have hz3 : 3 + D.length ≤ zs.length := by rw [List.length_append] at hzl; omega
      rw [sets_app hAl.symm (by rw [clc_length]; omega)]
      rw [sets_app (A := A ++ clc x) (by rw [List.length_append, hAl, clc_length]; omega) (by rw [List.length_drop, clc_length]; omega), clc_length]
    refine At.close_row (N := ks.length + 1) (xs := A ++ clc x ++ D) (rest := (zs.drop 3).drop D.length) (cp := cp2) (e := 127) (size := 3) (g := g2) 0 ?_ ?_ ?_ (by omega) hc3 ?_
    · refine congrArg (fun z => some (cells g2 z 127)) ?_
      exact hcs
    · rw [List.length_append, List.length_append, hAl, hDl, clc_length]; omega
    · rw [← hcs, sets_length, sets_length, hzl]
    refine goK _ ?_
    refine At.respell (t := 6) (v' := .slice (some ⟨g2, 0, none⟩) (ks.length + 1) cp2) rfl (by rw [show i + (ks.length + 1 - i) = ks.length + 1 by omega]) ?_
    exact At.ret1 Tryz.results114 (Res.tmp rfl) (Ω' := [row 127 3 (.slice (some ⟨g2, 0, none⟩) (ks.length + 1) cp2) (ks.length + 1) (A ++ clc x ++ D)]) ((List.nil_sublist _).cons_cons _) ⟨⟨_, _, rfl⟩, rfl, hc0.symm ▸ rfl⟩
  · have hcp1 : ks.length + 1 ≤ cp := by omega
    have hoff1 : off cp (i + 1) ⟨g, 0, none⟩ 3 = ⟨g, (i + 1) * 3, none⟩ := by rw [off_none, if_neg (by omega), Nat.zero_add]
    have hoff3 : off cp i ⟨g, 0, none⟩ 3 = ⟨g, i * 3, none⟩ := by rw [off_none, if_neg (by omega), Nat.zero_add]
    refine goK _ ?_
    refine Ops.respell (t := 59) (v' := .int .i64 ((ks.length + 1 : Nat) : Int)) rfl (congrArg (Value.int .i64) (by omega)) ?_
    refine Ops.val rfl rfl rfl (V.slice_to (r := ks.length + 1) rfl rfl rfl rfl (by omega)) ?_
    refine goK _ ?_
    refine Ops.respell (t := 65) (v' := .int .i64 ((i + 1 : Nat) : Int)) rfl (congrArg (Value.int .i64) (by omega)) ?_
    refine Ops.val rfl rfl rfl (V.slice_from (l := i + 1) rfl rfl rfl rfl (by omega)) ?_
    refine Ops.respell (t := 66) (v' := .slice (some ⟨g, (i + 1) * 3, none⟩) (ks.length + 1 - (i + 1)) (cp - (i + 1))) rfl (by rw [hoff1]) ?_
    refine Ops.val rfl rfl rfl (Val.ext (v := .bool false) rfl (fun w hw => overlapsX w bw g _ _ _ (clc x) (A ++ D ++ rest) (hsep w hw) (hw.own (cells bw (clc x) 127) (by simp)) (hw.own (cells g (A ++ D ++ rest) 127) (by simp)) (fun e => by have := congrArg List.length e; rw [List.length_append, hxl] at this; simp at this; omega))) ?_
    refine goK _ ?_
    first | refine At.drawn mo (fun _ _ m => m.drew _) ?_ | refine At.seq (At.drawn mo (fun _ _ m => m.drew _) ?_)
    refine Dr.val 0 rfl rfl rfl rfl (by kernel_rfl) rfl (Val.move rfl) ?_
    refine Dr.val 1 rfl rfl rfl rfl (by kernel_rfl) rfl (Val.move rfl) ?_
    refine Dr.val 2 rfl rfl rfl rfl (by kernel_rfl) rfl (Val.move rfl) ?_
    refine Dr.val 3 rfl rfl rfl rfl (by kernel_rfl) rfl (Val.add rfl rfl (by omega) (by omega)) ?_
    refine Dr.respell (t := 72) (v' := .int .i64 ((i + 1 : Nat) : Int)) rfl (congrArg (Value.int .i64) (by omega)) ?_
    refine Dr.val 4 rfl rfl rfl rfl (by kernel_rfl) rfl (V.slice_from (l := i + 1) rfl rfl rfl rfl (by omega)) ?_
    refine Dr.respell (t := 73) (v' := .slice (some ⟨g, (i + 1) * 3, none⟩) (ks.length + 1 - (i + 1)) (cp - (i + 1))) rfl (by rw [hoff1]) ?_
    refine Dr.val 5 rfl rfl rfl rfl (by kernel_rfl) rfl (Val.move rfl) ?_
    refine Dr.val 6 rfl rfl rfl rfl (by kernel_rfl) rfl (Val.move rfl) ?_
    refine Dr.val 7 rfl rfl rfl rfl (by kernel_rfl) rfl (V.slice_from (l := i) rfl rfl rfl rfl (by omega)) ?_
    refine Dr.respell (t := 76) (v' := .slice (some ⟨g, i * 3, none⟩) (ks.length + 1 - i) (cp - i)) rfl (by rw [hoff3]) ?_
    have hll : (A ++ D ++ rest).length = cp * 3 := hl2
    refine Dr.next (e := 8) rfl rfl (by kernel_rfl) rfl (by kernel_rfl) (by kernel_rfl) rfl rfl (Eff.copy (m := 3) (vs := D) 0 Tryz.underlying25 (ly rfl) rfl rfl rfl (by rw [hDl, Nat.min_eq_right (by omega)]; congr 1; omega) (by rw [hll, hDl]; omega) hD1 (fun w hw j u hu => hw.cell (n := 0) rfl (by rw [List.append_assoc, List.getElem?_append_right (by omega), hAl, Nat.add_sub_cancel_left, List.getElem?_append_left (List.getElem?_eq_some_iff.1 hu).1]; exact hu))) aokK fun _ => ?_
    refine Dr.done (by kernel_rfl) (by kernel_rfl) ?_
    repeat (first | refine Ops.val rfl rfl rfl (V.slice_from (l := i) rfl rfl rfl rfl (by omega)) ?_ | refine goS _ ?_)
    refine Ops.respell (t := 80) (v' := .slice (some ⟨g, i * 3, none⟩) (ks.length + 1 - i) (cp - i)) rfl (by rw [hoff3]) ?_
    refine goK _ ?_
    refine Ops.eff rfl rfl rfl (Eff.copy (m := 3) (vs := clc x) 0 Tryz.underlying25 (ly rfl) rfl rfl rfl (by rw [clc_length, Nat.min_eq_left (by omega)]) (by rw [sets_length, clc_length, hll]; omega) rfl (fun w hw i u hu => hw.cell (n := 1) rfl (by rw [Nat.zero_add]; exact hu))) fun _ => ?_
    refine Ops.nil ?_
    have hcs : sets (sets (A ++ D ++ rest) ((i + 1) * 3) D) (i * 3) (clc x) = A ++ clc x ++ D ++ (A ++ D ++ rest).drop ((i + 1) * 3 + D.length) := by
      rw [sets_eq D _ _ (by rw [hll, hDl]; omega)]
      have ht : (A ++ D ++ rest).take ((i + 1) * 3) = A ++ (D ++ rest).take 3 := by
        rw [List.append_assoc, List.take_append, hAl, List.take_of_length_le (by omega), show (i + 1) * 3 - i * 3 = 3 by omega]
      have h3 : ((D ++ rest).take 3).length = 3 := by
        rw [List.length_take]
        have : (A ++ (D ++ rest)).length = cp * 3 := by rw [← List.append_assoc]; exact hll
        rw [List.length_append, hAl] at this; omega
      rw [ht, List.append_assoc, List.append_assoc, sets_app hAl.symm (by rw [clc_length, List.length_append, h3]; omega), clc_length, List.drop_append, h3, List.drop_eq_nil_of_le (by rw [h3]; exact Nat.le_refl _)]
      simp
    refine At.close_row (N := ks.length + 1) (xs := A ++ clc x ++ D) (rest := (A ++ D ++ rest).drop ((i + 1) * 3 + D.length)) (cp := cp) (e := 127) (size := 3) (g := g) 0 ?_ ?_ ?_ (by omega) hcpm ?_
    · refine congrArg (fun z => some (cells g z 127)) ?_
      exact hcs
    · rw [List.length_append, List.length_append, hAl, hDl, clc_length]; omega
    · rw [← hcs, sets_length, sets_length, hll]
    refine goK _ ?_
    exact At.ret1 Tryz.results114 (Res.tmp rfl) (Ω' := [row 127 3 (.slice (some ⟨g, 0, none⟩) (ks.length + 1) cp) (ks.length + 1) (A ++ clc x ++ D)]) ((List.nil_sublist _).cons_cons _) ⟨⟨_, _, rfl⟩, rfl, hc0.symm ▸ rfl⟩
end Go.Proofs.YthjgbmbaabpgmaaGreat
