/-
  Merging: does what stands somewhere stand there in order; is there a piece of a kind.
-/
import Derived.Test.YthjgbmbaabpgmaaGreatSrd05
import Derived.Test.YthjgbmbaabpgmaaGreatSrd17
import Derived.Laws.Externs
import Derived.Lib.SliceRun
set_option linter.unusedVariables false
set_option linter.unusedSimpArgs false
set_option linter.unusedSectionVars false
namespace Go.Proofs.YthjgbmbaabpgmaaGreat
open Go.Sy
set_option maxRecDepth 4000
set_option maxHeartbeats 4000000
namespace Ox
def riseStep (f : Pt → Nat) (s : Option Nat) (p : Pt × Nat) : Option Nat := s.bind fun last => if 0 < f p.1 then (if f p.1 < last then none else some (f p.1)) else some last
/-- does what stands somewhere stand there in order -/
def riseB (f : Pt → Nat) (l : List (Pt × Nat)) : Bool := (l.foldl (riseStep f) (some 0)).isSome
theorem rise_none (f : Pt → Nat) : ∀ l : List (Pt × Nat), l.foldl (riseStep f) none = none
  | [] => rfl
  | _ :: r => by simp only [List.foldl_cons, riseStep, Option.bind_none]; exact rise_none f r
theorem rise_bad {f : Pt → Nat} {l : List (Pt × Nat)} {i : Nat} (h : (l.take i).foldl (riseStep f) (some 0) = none) : riseB f l = false := by
  rw [riseB, ← List.take_append_drop i l, List.foldl_append, h, rise_none]; rfl
end Ox
attribute [local irreducible] At Ops Val Eff Does Res Dr

theorem rising_does (g : Nat) (cap : Array Value) (Ωc : List Itm) (f : Ox.Pt → Nat) (h : HV) (hg : isFn Tryz.prog g = true) (hfl : ∀ p, f p ≤ 10000000000) (hf : ∀ p, Does Tryz.prog g (#[pcv p] ++ cap) Ωc h (fun r Ω' h' => r = .int .i64 (f p.1 : Int) ∧ Ω' = Ωc ∧ h = h'))
    (v : Value) (l : List (Ox.Pt × Nat)) (hl : l.length ≤ 10000000000) (hv : PcsH h v l) :
    Does Tryz.prog 169 #[v, .func (.func g) #[] cap] Ωc h (fun r Ω' h' => r = .bool (Ox.riseB f l) ∧ Ω' = Ωc ∧ h = h') := by
  obtain ⟨a, cp, rfl⟩ := hv.form
  refine Does.of Tryz.func169 rfl Tryz.ntmps169 rfl fun c hc0 => ?_
  refine goK _ ?_
  refine At.loop2 (fun (i : Nat) (last : Nat) => [(1, .func (.func g) #[] cap), (5, .int .i64 (last : Int)), (9, .slice a l.length cp), (10, .int .i64 (l.length : Int)), (11, .int .i64 (i : Int))])
    (fun (i : Nat) (last : Nat) w => (i ≤ l.length ∧ (l.take i).foldl (Ox.riseStep f) (some 0) = some last ∧ last ≤ 10000000000) ∧ Mem c Ωc h w) (fun (i : Nat) (_ : Nat) => l.length - i)
    0 0 ⟨rfl, rfl, rfl, rfl, rfl, trivial⟩ (fun w hw => ⟨⟨Nat.zero_le _, rfl, by omega⟩, hw⟩) (fun i last => At.pure (fun hq => ?_))
  obtain ⟨hi, hfo, hll⟩ := hq
  refine goK _ ?_
  refine At.condP rfl (fun h2 => ?_) (fun h2 => ?_)
  rotate_left
  · obtain rfl : i = l.length := by omega
    rw [List.take_length] at hfo
    refine goK _ ?_
    exact At.ret1 Tryz.results169 (Res.tmp rfl) (List.Sublist.refl _) ⟨by rw [Ox.riseB, hfo]; rfl, rfl, hc0.symm ▸ rfl⟩
  have hlt : i < l.length := by omega
  obtain ⟨b0, o0, rfl, _, _, hc⟩ := RowH.elem pcc_length hv (i := i) (x := l[i]) (by simp [hlt])
  have hts : l.take (i + 1) = l.take i ++ [l[i]] := by rw [List.take_succ_eq_append_getElem hlt]
  have hst : (l.take (i + 1)).foldl (Ox.riseStep f) (some 0) = if 0 < f l[i].1 then (if f l[i].1 < last then none else some (f l[i].1)) else some last := by
    rw [hts, List.foldl_append, hfo]; rfl
  have hbad := Ox.rise_bad (f := f) (l := l) (i := i + 1)
  have hfx := hfl l[i].1
  generalize hx : l[i] = x at *
  have hfp := hf x
  repeat (first | refine Ops.val rfl rfl rfl (V.loadHA (cs := pcc x) rfl rfl rfl hc) ?_ | refine goS _ ?_)
  refine Ops.eff rfl rfl rfl (E.alloc rfl) fun _ => Ops.ex fun b7 => Ops.pure ?_
  rintro rfl
  refine Ops.eff0 rfl rfl (E.store 0 rfl rfl rfl rfl rfl rfl rfl) fun _ => ?_
  repeat (first | refine Ops.val rfl rfl rfl (V.loadOA 0 rfl rfl rfl rfl) ?_ | refine goS _ ?_)
  refine Ops.eff rfl rfl rfl (Eff.callvAt 1 hg rfl rfl (Ωc := Ωc) (Ωr := []) (by simp) hfp) fun _ => Ops.ex fun _ => Ops.ex fun _ => Ops.pure ?_
  rintro ⟨rfl, e5, rfl⟩
  subst e5
  refine goK _ ?_
  refine At.condP rfl (fun h3 => ?_) (fun h3 => ?_)
  · refine goK _ ?_
    refine At.condP rfl (fun h4 => ?_) (fun h4 => ?_)
    · refine goK _ ?_
      refine At.ret1 Tryz.results169 (Res.tmp rfl) (by simp) ⟨?_, rfl, hc0.symm ▸ rfl⟩
      rw [hbad (by rw [hst, if_pos (by omega), if_pos (by omega)])]
    refine goK _ ?_
    refine At.back2 (i + 1) (f x.1) (by show l.length - (i + 1) < l.length - i; omega) (by exact ⟨rfl, rfl, rfl, rfl, rfl, trivial⟩) (fun w hw => ⟨⟨hlt, by rw [hst, if_pos (by omega), if_neg (by omega)], hfx⟩, hw.sub (by simp)⟩)
  refine goK _ ?_
  refine At.back2 (i + 1) last (by show l.length - (i + 1) < l.length - i; omega) (by exact ⟨rfl, rfl, rfl, rfl, rfl, trivial⟩) (fun w hw => ⟨⟨hlt, by rw [hst, if_neg (by omega)], hll⟩, hw.sub (by simp)⟩)

theorem indexPc_does (g : Nat) (cap : Array Value) (Ωc : List Itm) (q : Ox.Pt → Bool) (h : HV) (hg : isFn Tryz.prog g = true) (hf : ∀ p, Does Tryz.prog g (#[pcv p] ++ cap) Ωc h (fun r Ω' h' => r = .bool (q p.1) ∧ Ω' = Ωc ∧ h = h'))
    (v : Value) (l : List (Ox.Pt × Nat)) (hl : l.length ≤ 10000000000) (hv : PcsH h v l) :
    Does Tryz.prog 206 #[v, .func (.func g) #[] cap] Ωc h (fun r Ω' h' => (∃ z, r = .int .i64 z ∧ (0 ≤ z ↔ (l.any fun p => q p.1) = true)) ∧ Ω' = Ωc ∧ h = h') := by
  obtain ⟨a, cp, rfl⟩ := hv.form
  refine Does.of Tryz.func206 rfl Tryz.ntmps206 rfl fun c hc0 => ?_
  refine goK _ ?_
  refine At.loop1 (fun (i : Nat) => [(0, .slice a l.length cp), (1, .func (.func g) #[] cap), (7, .int .i64 (l.length : Int)), (8, .int .i64 (i : Int))])
    (fun (i : Nat) w => (i ≤ l.length ∧ ∀ p ∈ l.take i, q p.1 = false) ∧ Mem c Ωc h w) (fun (i : Nat) => l.length - i)
    0 ⟨rfl, rfl, rfl, rfl, trivial⟩ (fun w hw => ⟨⟨Nat.zero_le _, by simp⟩, hw⟩) (fun i => At.pure (fun hq => ?_))
  obtain ⟨hi, hm⟩ := hq
  refine goK _ ?_
  refine At.condP rfl (fun h2 => ?_) (fun h2 => ?_)
  rotate_left
  · obtain rfl : i = l.length := by omega
    rw [List.take_length] at hm
    refine goK _ ?_
    refine At.ret1 Tryz.results206 (Res.tmp rfl) (List.Sublist.refl _) ⟨⟨-1, rfl, ⟨fun h => by omega, fun h => ?_⟩⟩, rfl, hc0.symm ▸ rfl⟩
    obtain ⟨p, hp, e⟩ := List.any_eq_true.1 h
    rw [hm p hp] at e; cases e
  have hlt : i < l.length := by omega
  obtain ⟨b0, o0, rfl, _, _, hc⟩ := RowH.elem pcc_length hv (i := i) (x := l[i]) (by simp [hlt])
  have hts : l.take (i + 1) = l.take i ++ [l[i]] := by rw [List.take_succ_eq_append_getElem hlt]
  have hmem : l[i] ∈ l := by simp
  generalize hx : l[i] = x at *
  have hfp := hf x
  repeat (first | refine Ops.val rfl rfl rfl (V.loadHA (cs := pcc x) rfl rfl rfl hc) ?_ | refine goS _ ?_)
  refine Ops.eff rfl rfl rfl (Eff.callvAt 0 hg rfl rfl (Ωc := Ωc) (Ωr := []) (by simp) hfp) fun _ => Ops.ex fun _ => Ops.ex fun _ => Ops.pure ?_
  rintro ⟨rfl, e5, rfl⟩
  subst e5
  refine goK _ ?_
  refine At.cond rfl (fun h3 => ?_) (fun h3 => ?_)
  · refine goK _ ?_
    refine At.ret1 Tryz.results206 (Res.tmp rfl) (by simp) ⟨⟨(i : Int), rfl, ⟨fun _ => List.any_eq_true.2 ⟨x, hmem, h3⟩, fun _ => by omega⟩⟩, rfl, hc0.symm ▸ rfl⟩
  refine goK _ ?_
  refine At.back (i + 1) (by show l.length - (i + 1) < l.length - i; omega) (by exact ⟨rfl, rfl, rfl, rfl, trivial⟩) (fun w hw => ⟨⟨hlt, fun p hp => ?_⟩, hw.sub (by simp)⟩)
  rw [hts] at hp
  rcases List.mem_append.1 hp with h4 | h4
  · exact hm p h4
  · simp at h4; subst h4; exact h3

theorem containsPc_does (g : Nat) (cap : Array Value) (Ωc : List Itm) (q : Ox.Pt → Bool) (h : HV) (hg : isFn Tryz.prog g = true) (hf : ∀ p, Does Tryz.prog g (#[pcv p] ++ cap) Ωc h (fun r Ω' h' => r = .bool (q p.1) ∧ Ω' = Ωc ∧ h = h'))
    (v : Value) (l : List (Ox.Pt × Nat)) (hl : l.length ≤ 10000000000) (hv : PcsH h v l) :
    Does Tryz.prog 172 #[v, .func (.func g) #[] cap] Ωc h (fun r Ω' h' => r = .bool (l.any fun p => q p.1) ∧ Ω' = Ωc ∧ h = h') := by
  refine Does.of Tryz.func172 rfl Tryz.ntmps172 rfl fun c hc0 => ?_
  refine goK _ ?_
  refine Ops.eff rfl rfl rfl (Eff.call (fn (by kernel_rfl)) rfl (Ωc := Ωc) (Ωr := []) (by simp) (indexPc_does g cap Ωc q h hg hf v l hl hv)) fun _ => Ops.ex fun _ => Ops.ex fun _ => Ops.pure ?_
  rintro ⟨⟨z, rfl, hz⟩, rfl, rfl⟩
  refine goK _ ?_
  exact At.ret1 Tryz.results172 (Res.tmp rfl) (by simp) ⟨congrArg Value.bool (by rw [Bool.eq_iff_iff]; simpa using hz), rfl, hc0.symm ▸ rfl⟩
end Go.Proofs.YthjgbmbaabpgmaaGreat
/-
  The walk's own logic: append of a made slice, of a slice that stays, a slice of none, nil compared, calls of entries of the library.
-/
namespace Go.Sy
open Go Go.RowKit
section
variable {P : Program} {σ : Slots} {S : World → Prop} {c : Ctx} {Ω : List Itm} {h : HV} {ty T e : TypeId} {ps : String} {af : Array Edge} {g : Option (Nat × Bool)} {d : Option Nat} {x y : Operand}

/-- what a new row holds when n elements are in it -/
theorem run_append_make (w : World) (t u ty e : TypeId) (i : TypeInfo) (z : Value) (K : IntKind) (ht : P.underlying t = some (.slice e)) (hu : P.underlying u = some (.int K)) (hi : P.info? e = some i) (hz : i.zero = some z)
    (a : Option Addr) (s cp k : Nat) (olds : List Value) (hlo : olds.length = s * i.size) (holds : ∀ b, a = some b → ∀ j v, olds[j]? = some v → w.cell? (b.add j) = some v) (ha : a = none → s = 0)
    (hzs : z.cells.size = i.size) (hpos : 0 < i.size) (hg : cp < s + k) (hk : 0 < k) (h63 : s + k ≤ maxLen) (hb : (s + k) * i.bytes ≤ 140737488355328) :
    ∃ zs : List Value, (olds ++ zs).length = grownCap w (s + k) cp e * i.size ∧ (Builtin.append_ #[t, u] ty #[.slice a s cp, .int .i64 (k : Int)]).run P w =
      .ok (.slice (some ⟨w.heap.size, 0, none⟩) (s + k) (grownCap w (s + k) cp e)) (w.drew.alloc (.cells (olds ++ zs).toArray e)) := by
  have hn : ¬ (s + k ≤ cp) := by omega
  have hk0 : (k : Int) ≥ 0 := by omega
  have hkm : k ≤ maxLen := by omega
  have h63' : ¬ (9223372036854775807 < ((s : Int) + (k : Int))) := by simp only [maxLen] at h63; omega
  have hfit := growslice_fits (bytes := i.bytes) hg hb
  have h48' : ¬ (281474976710656 < Builtin.nextslicecap (s + k) cp * i.bytes) := by omega
  have hkb : k * i.bytes ≤ 140737488355328 := Nat.le_trans (Nat.mul_le_mul_right _ (by omega)) hb
  have hkb' : ¬ (281474976710656 < (k : Int) * (i.bytes : Int)) := by
    have : ((k * i.bytes : Nat) : Int) ≤ 140737488355328 := by omega
    rw [Int.natCast_mul] at this; omega
  have hwr : IntKind.i64.wrap (k : Int) = (k : Int) := wrap_i64 (by omega) (by simp only [maxLen] at hkm; omega)
  have hkp : ¬ (k * i.size = 0) := by
    have := Nat.mul_pos hk hpos; omega
  have hkz : ¬ (k = 0 ∨ i.size = 0) := by omega
  have hge := grownCap_ge w (s + k) cp e
  refine ⟨(Builtin.zeroCells z.cells k).toList ++ (Builtin.zeroCells z.cells (grownCap w (s + k) cp e - (s + k))).toList, ?_, ?_⟩
  · simp only [List.length_append, hlo, Array.length_toList, size_zeroCells, hzs]
    rw [← Nat.add_mul, ← Nat.add_mul]
    congr 1
    omega
  · have hlt : ¬ ((k : Int) < 0) := by omega
    have hone : ∀ x y : Nat, x ≠ 0 → y ≠ 0 → ¬ (x = 0 ∨ y = 0) := fun _ _ h1 h2 => by omega
    have hkl : (k : Int) ≤ 9223372036854775807 := by simp only [maxLen] at hkm; omega
    cases a with
    | none =>
      have hs0 := ha rfl
      subst hs0
      have ho : olds = [] := List.eq_nil_of_length_eq_zero (by simpa using hlo)
      subst ho
      have hkl' : ¬ (9223372036854775807 < (k : Int)) := by omega
      simp only [Nat.zero_add] at h48' hn ⊢
      simp [Builtin.append_, run_underlying ht, run_underlying hu, sizeOf, typeInfo, zeroValue, hi, hz, asInt, asIntOf, hwr, if_neg hlt, if_neg hkp, hkb', hn, h48', Question.forced, newRow, grownCap, Builtin.firstCells, if_neg hkl']
      rw [← Array.toList_append]
    | some b =>
      have hfo := run_firstCells_some (P := P) w.drew i.size s b s cp olds hlo (by simpa using holds b rfl)
      simp [Builtin.append_, run_underlying ht, run_underlying hu, sizeOf, typeInfo, zeroValue, hi, hz, asInt, asIntOf, hwr, if_neg hlt, if_neg hkp, hkb', hn, h48', Question.forced, hfo, newRow, grownCap, h63']
      congr 2
      apply Array.ext'
      simp [List.append_assoc]

/-- append of a made slice, where it does not fit behind what is there -/
theorem Eff.appendMake {U e m by_ s cp k : Nat} {K : IntKind} {a : Option Addr} {olds : List Value} (hT : elt P T = some (e, m, by_)) (hU : P.underlying U = some (.int K)) (hx : ev σ x = some (.slice a s cp)) (hy : ev σ y = some (.int .i64 (k : Int)))
    (hg : cp < s + k) (hk : 0 < k) (hlo : olds.length = s * m) (holds : ∀ w, Mem c Ω h w → ∀ b, a = some b → ∀ j v, olds[j]? = some v → w.cell? (b.add j) = some v) (ha : a = none → s = 0) (hb : (s + k) * by_ ≤ 140737488355328) (hb' : s + k ≤ 140737488355328) :
    Eff P σ (Mem c Ω h) ⟨d, .call ⟨.builtin .append, #[x, y], #[T, U]⟩, ty, ps, af, g⟩ fun u w => ∃ b cap zs, u = .slice (some ⟨b, 0, none⟩) (s + k) cap ∧ s + k ≤ cap ∧ cap ≤ maxLen ∧ (olds ++ zs).length = cap * m ∧ Mem c (cells b (olds ++ zs) e :: Ω) h w := fun ρ w hρ hw => by
  obtain ⟨hu, i, z, hi, hz, hs, hby, hzc, hpos⟩ := elt_spec hT
  subst hs; subst hby
  have hml : s + k ≤ maxLen := by unfold maxLen; omega
  obtain ⟨zs, hl, hr⟩ := run_append_make w T U ty e i z K hu hU hi hz a s cp k olds hlo (holds w hw) ha hzc hpos hg hk hml hb
  have : (execOp ρ ⟨d, .call ⟨.builtin .append, #[x, y], #[T, U]⟩, ty, ps, af, g⟩).run P w = .ok (.value (.slice (some ⟨w.heap.size, 0, none⟩) (s + k) (grownCap w (s + k) cp e))) (w.drew.alloc (.cells (olds ++ zs).toArray e)) := by
    simp [execOp, resolve, hρ x _ hx, hρ y _ hy, invoke, builtin, hr]
  rw [this]
  exact ⟨_, _, zs, rfl, grownCap_ge w _ _ e, grownCap_le_maxLen w _ _ e hml, hl, (hw.drew (w.drawn + 1)).alloc _⟩

/-- append of a slice that stays as it is -/
theorem Eff.appendSl {T e m by_ j N M : Nat} {u v : Value} {xs news : List Value} (hT : elt P T = some (e, m, by_)) (hx : ev σ x = some v) (hy : ev σ y = some u) (hu : SlH h u m M news)
    (hj : Ω[j]? = some (row e m v N xs)) (h1 : news.all (·.oneCell') = true) (hN : (N + M) * by_ ≤ 140737488355328) (hN' : N + M ≤ 140737488355328) :
    Eff P σ (Mem c Ω h) ⟨d, .call ⟨.builtin .append, #[x, y], #[T, T]⟩, ty, ps, af, g⟩ fun v' w => (v' = .slice none 0 0 ↔ v = .slice none 0 0 ∧ M = 0) ∧ Mem c (Ω.set j (row e m v' (N + M) (xs ++ news))) h w := by
  have hl := hu.1
  rcases hu.2 with ⟨⟨a0, rfl⟩, rfl⟩ | ⟨b, o, cp, rfl, hc, hxs⟩
  · intro ρ w hρ hw
    have hn : news = [] := List.eq_nil_of_length_eq_zero (by simpa using hl)
    subst hn
    obtain ⟨hu', i, z, hi, hz, hs, hb, hzc, hpos⟩ := elt_spec hT
    have hown : w.ownsRow 0 e m v N xs := hw.own _ (List.mem_of_getElem? hj)
    obtain ⟨v0, rfl, hvn, hrun⟩ : ∃ v0, v0 = v ∧ (v0 = .slice none 0 0 ↔ v = .slice none 0 0 ∧ (0 : Nat) = 0) ∧ (Builtin.append_ #[T, T] ty #[v0, .slice a0 0 0]).run P w = .ok v0 w := by
      refine ⟨v, rfl, by simp, ?_⟩
      cases a0 <;> rcases hown.2 with ⟨rfl, rfl⟩ | ⟨g, cap, cur, rfl, hbg, hg, hnc, hcm, hcs, htake⟩
      · simp [Builtin.append_, run_underlying hu', sizeOf, typeInfo, hi, Builtin.lenOf, Builtin.firstCells, loadCells, loadCellsFrom]
      · simp [Builtin.append_, run_underlying hu', sizeOf, typeInfo, hi, Builtin.lenOf, Builtin.firstCells, loadCells, loadCellsFrom, hnc, storeCells]
      · simp [Builtin.append_, run_underlying hu', sizeOf, typeInfo, hi, Builtin.lenOf, Builtin.firstCells, loadCells, loadCellsFrom]
      · simp [Builtin.append_, run_underlying hu', sizeOf, typeInfo, hi, Builtin.lenOf, Builtin.firstCells, loadCells, loadCellsFrom, hnc, storeCells]
    have : (execOp ρ ⟨d, .call ⟨.builtin .append, #[x, y], #[T, T]⟩, ty, ps, af, g⟩).run P w = .ok (.value v0) w := by
      simp [execOp, resolve, hρ x _ hx, hρ y _ hy, invoke, builtin, hrun]
    rw [this]
    refine ⟨hvn, ?_⟩
    rw [Nat.add_zero, List.append_nil]
    have hset : Ω.set j (row e m v0 N xs) = Ω := by
      obtain ⟨hjl, hje⟩ := List.getElem?_eq_some_iff.1 hj
      rw [← hje]; exact List.set_getElem_self hjl
    rw [hset]; exact hw
  · exact Eff.append hT hx hy hj hl h1 hN hN' fun w hw i u hu => hw.cellH (hxs i u hu)

/-- a slice of none that is not nil -/
theorem Eff.buildSlice0 {T e m by_ : Nat} (hT : elt P T = some (e, m, by_)) :
    Eff P σ (Mem c Ω h) ⟨d, .buildSlice T 0 #[], ty, ps, af, g⟩ fun u w => ∃ b, u = .slice (some ⟨b, 0, none⟩) 0 0 ∧ Mem c (row e m (.slice (some ⟨b, 0, none⟩) 0 0) 0 [] :: Ω) h w := fun ρ w hρ hw => by
  obtain ⟨hu', i, z, hi, hz, hs, hb, _, hpos⟩ := elt_spec hT
  have hsize : (sizeOf e).run P w = .ok m w := by simp [sizeOf, typeInfo, hi, hs]
  have hrun : (execOp ρ ⟨d, .buildSlice T 0 #[], ty, ps, af, g⟩).run P w = .ok (.value (.slice (some ⟨w.heap.size, 0, none⟩) 0 0)) (w.alloc (.cells #[] e (0, 0))) := by
    simp [execOp, Instr.buildSlice, run_underlying hu', hsize, newRow, newObj, Sem.run, Instr.fill]
    rw [Array.eq_empty_of_size_eq_zero (xs := Array.map (fun _ => (default : Value)) (Array.range 0)) (by simp)]
  rw [hrun]
  exact ⟨_, rfl, Mem.rowOf (cs := []) (hw.alloc _) (by simp) (by simp)⟩

/-- a slice compared with nil -/
theorem Val.eqlNil {T T' : TypeId} {a : Option Addr} {n cp : Nat} (hT : P.underlying T = some (.slice e)) (hx : ev σ x = some (.slice a n cp)) :
    Val P σ S ⟨d, .binOp .eql T x (.const (.slice none 0 0)) T', ty, ps, af, g⟩ (.bool a.isNone) := fun ρ w hρ _ => by
  have hy : ρ (.const (.slice none 0 0)) = .slice none 0 0 := hρ _ _ rfl
  simp [execOp, hρ x _ hx, hy, Lib.run_eql_slice_nil w T e a n cp 0 0 hT, eqGuard]

/-- an entry of the library's -/
theorem Val.ext {f : FuncId} {xs : List Operand} {ts : Array TypeId} {args : List Value} {v : Value} (ha : Sy.evs σ xs = some args) (hr : ∀ w, S w → (callFunc f args.toArray).run P w = .ok (.value v) w) :
    Val P σ S ⟨d, .call ⟨.value (.func f), xs.toArray, ts⟩, ty, ps, af, g⟩ v := fun ρ w hρ hw => by
  have hfun : ρ (.func f) = .func (.func f) #[] #[] := hρ _ _ rfl
  simp [execOp, resolve, hfun, Deferred.ofValue, hρ.evs ha, invoke, hr w hw]

/-- a call that leaves everything as it was -/
theorem Eff.callP (n : Nat) {f : FuncId} {xs : List Operand} {ts : Array TypeId} {args : List Value} {Ωc Ωr : List Itm} {q : Value → Prop}
    (hf : isFn P f = true) (ha : Sy.evs σ xs = some args) (hΩ : Ω.drop n = Ωc ++ Ωr) (hs : Does P f args.toArray Ωc h (fun r Ω' h' => q r ∧ Ω' = Ωc ∧ h = h')) :
    Eff P σ (Mem c Ω h) ⟨d, .call ⟨.value (.func f), xs.toArray, ts⟩, ty, ps, af, g⟩ fun v w => q v ∧ Mem c Ω h w := (Eff.callAt n hf ha hΩ hs).mono fun v w ⟨Ω', h', ⟨h1, h2, h3⟩, hm⟩ => by
  subst h2; subst h3
  refine ⟨h1, hm.perm ?_⟩
  conv => rhs; rw [← List.take_append_drop n Ω, hΩ]
  rw [← List.append_assoc, ← List.append_assoc]
  exact List.perm_append_comm.append_right _
theorem Eff.callvP (n : Nat) {f : FuncId} {t : Nat} {xs : List Operand} {ts : Array TypeId} {args : List Value} {cap : Array Value} {Ωc Ωr : List Itm} {q : Value → Prop}
    (hf : isFn P f = true) (hv : lk σ t = some (.func (.func f) #[] cap)) (ha : Sy.evs σ xs = some args) (hΩ : Ω.drop n = Ωc ++ Ωr) (hs : Does P f (args.toArray ++ cap) Ωc h (fun r Ω' h' => q r ∧ Ω' = Ωc ∧ h = h')) :
    Eff P σ (Mem c Ω h) ⟨d, .call ⟨.value (.tmp t), xs.toArray, ts⟩, ty, ps, af, g⟩ fun v w => q v ∧ Mem c Ω h w := (Eff.callvAt n hf hv ha hΩ hs).mono fun v w ⟨Ω', h', ⟨h1, h2, h3⟩, hm⟩ => by
  subst h2; subst h3
  refine ⟨h1, hm.perm ?_⟩
  conv => rhs; rw [← List.take_append_drop n Ω, hΩ]
  rw [← List.append_assoc, ← List.append_assoc]
  exact List.perm_append_comm.append_right _
end

section
variable {P : Program} {Q : Exit → Act → World → Prop} {n : Sz} {σ : Slots} {S : World → Prop} {k : List It}
theorem At.meet4 {A B C D : Type} (τ : A → B → C → D → Slots) (I : A → B → C → D → World → Prop) {x : It}
    (paths : ∀ k' : List It, (∀ {σ' : Slots} {S' : World → Prop} a b c d, Sub (τ a b c d) σ' → (∀ w, S' w → I a b c d w) → At P Q n σ' S' k') → At P Q n σ S (x :: k'))
    (main : ∀ a b c d, At P Q n (τ a b c d) (I a b c d) k) : At P Q n σ S (x :: k) := paths k fun {_ _} a b c d h1 h2 => ((main a b c d).sub h1).imp h2
end
end Go.Sy
/-
  Merging: a side's new atoms parted by the survivors that they stand behind.
-/
namespace Go.Proofs.YthjgbmbaabpgmaaGreat
open Go.Sy
set_option maxRecDepth 4000
set_option maxHeartbeats 4000000
theorem snocInd {α : Type} {p : List α → Prop} (nil : p []) (snoc : ∀ l a, p l → p (l ++ [a])) (l : List α) : p l := by
  have h : ∀ r : List α, p r.reverse := fun r => by
    induction r with
    | nil => exact nil
    | cons a r ih => rw [List.reverse_cons]; exact snoc _ _ ih
  simpa using h l.reverse
namespace Ox
abbrev Pc := Pt × Nat
def splStep (ends is : Pt → Bool) (s : List (List Pc) × List Pc) (p : Pc) : List (List Pc) × List Pc := if ends p.1 = true then (s.1 ++ [s.2], []) else if is p.1 = true then (s.1, s.2 ++ [p]) else s
def splF (ends is : Pt → Bool) (l : List Pc) : List (List Pc) × List Pc := l.foldl (splStep ends is) ([], [])
/-- the parts -/
def splits (ends is : Pt → Bool) (l : List Pc) : List (List Pc) := (splF ends is l).1 ++ [(splF ends is l).2]
theorem splF_snoc (ends is : Pt → Bool) (l : List Pc) (p : Pc) : splF ends is (l ++ [p]) = splStep ends is (splF ends is l) p := by simp [splF]
theorem splF_len (ends is : Pt → Bool) (l : List Pc) : (splF ends is l).1.length = l.countP fun p => ends p.1 := by
  induction l using snocInd with
  | nil => rfl
  | snoc l p ih =>
    rw [splF_snoc, List.countP_append, splStep]
    by_cases h1 : ends p.1 = true
    · rw [if_pos h1]; simp [ih, h1]
    · rw [if_neg h1]
      have h2 : ends p.1 = false := by simpa using h1
      by_cases h3 : is p.1 = true
      · rw [if_pos h3]; simp [ih, h2]
      · rw [if_neg h3]; simp [ih, h2]
theorem splF_cur (ends is : Pt → Bool) (l : List Pc) : (splF ends is l).2.length ≤ l.length := by
  induction l using snocInd with
  | nil => exact Nat.le_refl _
  | snoc l p ih =>
    rw [splF_snoc, splStep, List.length_append]
    split
    · simp
    · split
      · simp; omega
      · simp; omega
end Ox
/-- rows of pieces that stay -/
def PartsH (h : HV) (us : List Value) (ls : List (List Ox.Pc)) : Prop := ∀ j, j < us.length → ∃ w, us[j]? = some w ∧ PcsH h w ((ls[j]?).getD [])
theorem PartsH.mono {h h' : HV} {us : List Value} {ls : List (List Ox.Pc)} (r : PartsH h us ls) (le : HV.le h h') : PartsH h' us ls := fun j hj => by
  obtain ⟨w, h1, h2⟩ := r j hj
  exact ⟨w, h1, h2.mono le⟩
attribute [local irreducible] At Ops Val Eff Does Res Dr

theorem split_does (g1 g2 : Nat) (cap1 cap2 : Array Value) (Ωc : List Itm) (ends is : Ox.Pt → Bool) (h : HV) (hg1 : isFn Tryz.prog g1 = true) (hg2 : isFn Tryz.prog g2 = true)
    (hf1 : ∀ h p, Does Tryz.prog g1 (#[pcv p] ++ cap1) Ωc h (fun r Ω' h' => r = .bool (ends p.1) ∧ Ω' = Ωc ∧ h = h'))
    (hf2 : ∀ h p, Does Tryz.prog g2 (#[pcv p] ++ cap2) Ωc h (fun r Ω' h' => r = .bool (is p.1) ∧ Ω' = Ωc ∧ h = h'))
    (v : Value) (l : List Ox.Pc) (n : Nat) (hl : l.length ≤ 1000000) (hn : n ≤ 1000000) (hc : (l.countP fun p => ends p.1) ≤ n) (hv : PcsH h v l) :
    Does Tryz.prog 175 #[v, .func (.func g1) #[] cap1, .func (.func g2) #[] cap2, .int .i64 (n : Int)] Ωc h
      (fun r Ω' h' => HV.le h h' ∧ ∃ us, us.length = n + 1 ∧ Ω' = row 258 1 r (n + 1) us :: Ωc ∧ PartsH h' us (Ox.splits ends is l)) := by
  obtain ⟨a, cp, rfl⟩ := hv.form
  refine Does.of Tryz.func175 rfl Tryz.ntmps175 rfl fun c hc0 => ?_
  refine goK _ ?_
  refine Ops.respell (t := 14) (v' := .int .i64 ((n + 1 : Nat) : Int)) rfl (by congr 1) ?_
  refine Ops.eff rfl rfl rfl (Eff.makeSlice1 (z := .slice none 0 0) (ap rfl) (by kernel_rfl) rfl rfl rfl (by omega) (by omega)) fun _ => Ops.ex fun b9 => Ops.pure ?_
  rintro rfl
  refine goK _ ?_
  refine At.row_nil 265 4 ?_
  refine At.loop4 (fun (i : Nat) (_ : List Value) (_ : Value) (_ : HV) => [(0, .slice a l.length cp), (1, .func (.func g1) #[] cap1), (2, .func (.func g2) #[] cap2), (9, .slice (some ⟨b9, 0, none⟩) (n + 1) (n + 1)), (10, .int .i64 (((Ox.splF ends is (l.take i)).1.length : Nat) : Int)), (16, .slice a l.length cp), (17, .int .i64 (l.length : Int)), (18, .int .i64 (i : Int))])
    (fun (i : Nat) (us : List Value) (u : Value) (h' : HV) w => (i ≤ l.length ∧ us.length = n + 1 ∧ HV.le h h' ∧ us[(Ox.splF ends is (l.take i)).1.length]? = some u ∧ (∀ j, j < (Ox.splF ends is (l.take i)).1.length → ∃ w, us[j]? = some w ∧ PcsH h' w (((Ox.splF ends is (l.take i)).1[j]?).getD [])) ∧ (∀ j, (Ox.splF ends is (l.take i)).1.length < j → j ≤ n → us[j]? = some (.slice none 0 0)))
      ∧ Mem c (row 265 4 u (Ox.splF ends is (l.take i)).2.length ((Ox.splF ends is (l.take i)).2.flatMap pcc) :: cells b9 us 258 :: Ωc) h' w) (fun (i : Nat) (_ : List Value) (_ : Value) (_ : HV) => l.length - i)
    0 (List.replicate (n + 1) (.slice none 0 0)) (.slice none 0 0) h ⟨rfl, rfl, rfl, rfl, rfl, rfl, rfl, rfl, trivial⟩ (fun w hw => ⟨⟨Nat.zero_le _, by simp, HV.le.refl _, by simp [Ox.splF], fun j hj => by simp [Ox.splF] at hj, fun j _ hj => by rw [List.getElem?_replicate, if_pos (by omega)]⟩, hw⟩) (fun i us u h' => At.pure (fun hq => ?_))
  obtain ⟨hi, hul, hle, huc, hdo, hni⟩ := hq
  have hv' := hv.mono hle
  refine goK _ ?_
  refine At.condP rfl (fun h2 => ?_) (fun h2 => ?_)
  rotate_left
  · obtain rfl : i = l.length := by omega
    rw [List.take_length] at *
    refine goK _ ?_
    refine At.publish_row 0 rfl fun h3 hle3 hsl3 => ?_
    refine At.imp (S' := Mem c (row 258 1 (.slice (some ⟨b9, 0, none⟩) (n + 1) (n + 1)) (n + 1) us :: Ωc) h3) ?_ (fun w hw => Mem.rowOf hw (by omega) (by simp [maxLen]; omega))
    refine At.ret1 Tryz.results175 (Res.tmp rfl) (List.Sublist.refl _) ⟨hle.trans hle3, us, hul, rfl, fun j hj => ?_⟩
    rw [Ox.splits]
    rcases Nat.lt_trichotomy j (Ox.splF ends is l).1.length with h4 | h4 | h4
    · obtain ⟨w, h5, h6⟩ := hdo j h4
      refine ⟨w, h5, ?_⟩
      rw [List.getElem?_append_left h4]; exact h6.mono hle3
    · subst h4
      refine ⟨u, huc, ?_⟩
      rw [List.getElem?_append_right (Nat.le_refl _), Nat.sub_self]; exact hsl3
    · refine ⟨_, hni j h4 (by omega), ?_⟩
      rw [List.getElem?_eq_none (by simp; omega)]
      exact SlH.nil _ _
  have hlt : i < l.length := by omega
  obtain ⟨b0, o0, rfl, _, _, hcx⟩ := RowH.elem pcc_length hv' (i := i) (x := l[i]) (by simp [hlt])
  have hts : l.take (i + 1) = l.take i ++ [l[i]] := by rw [List.take_succ_eq_append_getElem hlt]
  have hsn := Ox.splF_snoc ends is (l.take i) l[i]
  rw [← hts] at hsn
  have hln := Ox.splF_len ends is (l.take i)
  have hcu := Ox.splF_cur ends is (l.take i)
  have hcl : (l.take (i + 1)).countP (fun p => ends p.1) ≤ n := Nat.le_trans ((List.take_sublist _ _).countP_le) hc
  rw [hts, List.countP_append, ← hln] at hcl
  have hcl0 : (Ox.splF ends is (l.take i)).1.length ≤ n := by omega
  rw [List.length_take] at hcu
  generalize hs : Ox.splF ends is (l.take i) = s at *
  generalize hx : l[i] = x at *
  obtain ⟨done, cur⟩ := s
  simp only at *
  repeat (first | refine Ops.val rfl rfl rfl (V.loadHA (cs := pcc x) rfl rfl rfl hcx) ?_ | refine goS _ ?_)
  refine Ops.eff rfl rfl rfl (E.alloc rfl) fun _ => Ops.ex fun b12 => Ops.pure ?_
  rintro rfl
  refine Ops.eff0 rfl rfl (E.store 0 rfl rfl rfl rfl rfl rfl rfl) fun _ => ?_
  repeat (first | refine Ops.val rfl rfl rfl (V.loadOA 0 rfl rfl rfl rfl) ?_ | refine goS _ ?_)
  refine Ops.eff rfl rfl rfl (Eff.callvP 3 hg1 rfl rfl (Ωc := Ωc) (Ωr := []) (by simp) (hf1 h' x)) fun _ => Ops.pure ?_
  rintro rfl
  refine goK _ ?_
  refine At.cond rfl (fun h3 => ?_) (fun h3 => ?_)
  · have hst : Ox.splF ends is (l.take (i + 1)) = (done ++ [cur], []) := by rw [hsn, Ox.splStep, if_pos h3]
    rw [show List.countP (fun p => ends p.1) [x] = 1 from by simp [h3]] at hcl
    refine goK _ ?_
    refine At.publish_row 1 rfl fun h4 hle4 hsl4 => ?_
    refine At.row_nil 265 4 ?_
    refine At.back4 (i + 1) us (.slice none 0 0) h4 (by show l.length - (i + 1) < l.length - i; omega) (by exact ⟨rfl, rfl, rfl, rfl, congrArg (fun z => some (Value.int .i64 z)) (by rw [hst]; simp), rfl, rfl, rfl, trivial⟩) (fun w hw => ⟨⟨hlt, hul, hle.trans hle4, ?_, fun j hj => ?_, fun j hj hjn => ?_⟩, ?_⟩)
    · rw [hst]; exact hni _ (by simp) (by simp; omega)
    · rw [hst] at hj ⊢
      simp only [List.length_append, List.length_cons, List.length_nil] at hj
      rcases Nat.lt_or_ge j done.length with h5 | h5
      · obtain ⟨w, h6, h7⟩ := hdo j h5
        exact ⟨w, h6, by simp only; rw [List.getElem?_append_left h5]; exact h7.mono hle4⟩
      · obtain rfl : j = done.length := by omega
        exact ⟨u, huc, by simp only; rw [List.getElem?_append_right (Nat.le_refl _), Nat.sub_self]; exact hsl4⟩
    · rw [hst] at hj
      simp only [List.length_append, List.length_cons, List.length_nil] at hj
      exact hni j (by omega) hjn
    · rw [hst]; exact hw.sub (by simp)
  repeat (first | refine Ops.val rfl rfl rfl (V.loadOA 0 rfl rfl rfl rfl) ?_ | refine goS _ ?_)
  refine Ops.eff rfl rfl rfl (Eff.callvP 3 hg2 rfl rfl (Ωc := Ωc) (Ωr := []) (by simp) (hf2 h' x)) fun _ => Ops.pure ?_
  rintro rfl
  refine goK _ ?_
  refine At.cond rfl (fun h4 => ?_) (fun h4 => ?_)
  rotate_left
  · have hst : Ox.splF ends is (l.take (i + 1)) = (done, cur) := by rw [hsn, Ox.splStep, if_neg (by simp [h3]), if_neg (by simp [h4])]
    refine goK _ ?_
    refine At.back4 (i + 1) us u h' (by show l.length - (i + 1) < l.length - i; omega) (by exact ⟨rfl, rfl, rfl, rfl, congrArg (fun z => some (Value.int .i64 z)) (by rw [hst]), rfl, rfl, rfl, trivial⟩) (fun w hw => ⟨⟨hlt, hul, hle, by rw [hst]; exact huc, by rw [hst]; exact hdo, by rw [hst]; exact hni⟩, by rw [hst]; exact hw.sub (by simp)⟩)
  have hst : Ox.splF ends is (l.take (i + 1)) = (done, cur ++ [x]) := by rw [hsn, Ox.splStep, if_neg (by simp [h3]), if_pos h4]
  first | refine At.drawn mo (fun _ _ m => m.drew _) ?_ | refine At.seq (At.drawn mo (fun _ _ m => m.drew _) ?_)
  refine Dr.val 0 rfl rfl rfl rfl (by kernel_rfl) rfl (Val.move rfl) ?_
  refine Dr.val 1 rfl rfl rfl rfl (by kernel_rfl) rfl (Val.move rfl) ?_
  refine Dr.val 2 rfl rfl rfl rfl (by kernel_rfl) rfl (Val.move rfl) ?_
  refine Dr.val 3 rfl rfl rfl rfl (by kernel_rfl) rfl (Val.move rfl) ?_
  refine Dr.val 4 rfl rfl rfl rfl (by kernel_rfl) rfl (V.indexAddr rfl rfl rfl rfl (by omega)) ?_
  refine Dr.valS 5 _ rfl rfl rfl rfl (by kernel_rfl) rfl (V.load rfl rfl (fun _ hh => hh)) (fun w hw => hw.cell (n := 2) (v := u) rfl (by rw [Nat.zero_add, Nat.mul_one]; exact huc)) ?_
  refine Dr.valS 6 _ rfl rfl rfl rfl (by kernel_rfl) rfl (V.loadN (cs := (pcc x)) rfl rfl rfl (fun _ hh => hh)) (fun w hw => hw.cellsAt (n := 0) rfl rfl) ?_
  refine Dr.next (e := 7) rfl rfl (by kernel_rfl) rfl (by kernel_rfl) (by kernel_rfl) rfl rfl (E.buildSlice1 rfl rfl rfl rfl) aokK fun _ => Dr.ex fun _ => Dr.pure ?_
  rintro rfl
  refine Dr.next (e := 8) rfl rfl (by kernel_rfl) rfl (by kernel_rfl) (by kernel_rfl) rfl rfl (E.append1s 1 rfl rfl rfl rfl rfl rfl (by omega) (by omega)) aokK fun _ => ?_
  refine Dr.ex fun g2 => Dr.ex fun cp2 => Dr.pure ?_
  rintro rfl
  refine Dr.val 9 rfl rfl rfl rfl (by kernel_rfl) rfl (V.indexAddr rfl rfl rfl rfl (by omega)) ?_
  refine Dr.next0 (e := 10) rfl rfl (by kernel_rfl) rfl (by kernel_rfl) (by kernel_rfl) rfl (E.store 2 rfl rfl rfl rfl rfl (by simp [hul]; omega) rfl) aokK fun _ => ?_
  refine Dr.done (by kernel_rfl) (by kernel_rfl) ?_
  refine goK _ ?_
  refine At.back4 (i + 1) (us.set done.length (.slice (some ⟨g2, 0, none⟩) (cur.length + 1) cp2)) (.slice (some ⟨g2, 0, none⟩) (cur.length + 1) cp2) h' (by show l.length - (i + 1) < l.length - i; omega) (by exact ⟨rfl, rfl, rfl, rfl, congrArg (fun z => some (Value.int .i64 z)) (by rw [hst]), rfl, rfl, rfl, trivial⟩) (fun w hw => ⟨⟨hlt, by simp [hul], hle, ?_, fun j hj => ?_, fun j hj hjn => ?_⟩, ?_⟩)
  · rw [hst]; simp only; exact List.getElem?_set_self (by omega)
  · rw [hst] at hj ⊢; simp only at hj ⊢; rw [List.getElem?_set_ne (by omega)]; exact hdo j hj
  · rw [hst] at hj; simp only at hj; rw [List.getElem?_set_ne (by omega)]; exact hni j hj hjn
  · rw [hst]
    simp only [List.length_append, List.length_cons, List.length_nil, List.flatMap_append]
    have hw' := hw.sub (Ω' := row 265 4 (.slice (some ⟨g2, 0, none⟩) (cur.length + 1) cp2) (cur.length + 1) (cur.flatMap pcc ++ pcc x) :: cells b9 (us.set done.length (.slice (some ⟨g2, 0, none⟩) (cur.length + 1) cp2)) 258 :: Ωc) ?_
    · simpa using hw'
    · simp [sets, Value.cells]
end Go.Proofs.YthjgbmbaabpgmaaGreat
