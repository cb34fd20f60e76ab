/-
  Binary searches.
-/
import Derived.Test.YthjgbmbaabpgmaaGreatSrd05
import Derived.Test.YthjgbmbaabpgmaaGreatSrd31
set_option linter.unusedVariables false
set_option linter.unusedSimpArgs false
set_option linter.unusedSectionVars false
namespace Go.Proofs.YthjgbmbaabpgmaaGreat
open Go.Sy
set_option maxRecDepth 4000
set_option maxHeartbeats 4000000
attribute [local irreducible] At Ops Val Eff Does Res Dr
/-- numbers that are far from an int64's end -/
def Near (n : Int) : Prop := -4000000000000000000 ≤ n ∧ n ≤ 4000000000000000000
def I64 (n : Int) : Prop := -9223372036854775808 ≤ n ∧ n ≤ 9223372036854775807
theorem wrap_zero {a n : Int} (ha : 0 ≤ a) (ha' : a ≤ 1000000000) (hn : I64 n) : IntKind.i64.wrap (a - n) = 0 ↔ a = n := by
  obtain ⟨h1, h2⟩ := hn
  rw [IntKind.wrap_i64]; omega
theorem wrap_near {a n : Int} (ha : 0 ≤ a) (ha' : a ≤ 1000000000) (hn : Near n) : IntKind.i64.wrap (a - n) = a - n := by
  obtain ⟨h1, h2⟩ := hn
  exact wrap_i64 (by omega) (by omega)
/-- what a binary search knows -/
structure BsI (nums : List Int) (n : Int) (i j : Nat) : Prop where
  le : i ≤ j
  lt : j ≤ nums.length
  low : Near n → ∀ k a, k < i → nums[k]? = some a → a < n
  high : Near n → ∀ k a, j ≤ k → nums[k]? = some a → n ≤ a
/-- what it finds -/
structure BsP (nums : List Int) (n : Int) (i : Nat) (f : Bool) : Prop where
  le : i ≤ nums.length
  iff : f = true ↔ n ∈ nums
  at_ : f = true → nums[i]? = some n
  low : Near n → ∀ k a, k < i → nums[k]? = some a → a < n
  high : Near n → ∀ k a, i ≤ k → nums[k]? = some a → n ≤ a
theorem sorted_lt {l : List Int} (hs : l.Pairwise (· < ·)) {i j : Nat} {a b : Int} (hi : l[i]? = some a) (hj : l[j]? = some b) (h : i < j) : a < b := by
  obtain ⟨h1, rfl⟩ := List.getElem?_eq_some_iff.1 hi
  obtain ⟨h2, rfl⟩ := List.getElem?_eq_some_iff.1 hj
  exact List.pairwise_iff_getElem.1 hs i j h1 h2 h
theorem BsI.left {nums : List Int} {n : Int} {i j : Nat} (b : BsI nums n i j) (hs : nums.Pairwise (· < ·)) (hb : ∀ a ∈ nums, 0 ≤ a ∧ a ≤ 1000000000) {h : Nat} {a : Int} (h1 : i ≤ h) (h2 : h < j) (ha : nums[h]? = some a) (hc : ¬ IntKind.i64.wrap (a - n) < 0) : BsI nums n i h := by
  refine ⟨h1, by have := b.lt; omega, b.low, fun hn k x hk hx => ?_⟩
  have hm := hb a (List.mem_of_getElem? ha)
  rw [wrap_near hm.1 hm.2 hn] at hc
  rcases Nat.lt_or_ge h k with h3 | h3
  · have := sorted_lt hs ha hx h3; omega
  · obtain rfl : k = h := by omega
    rw [ha] at hx; cases hx; omega
theorem BsI.right {nums : List Int} {n : Int} {i j : Nat} (b : BsI nums n i j) (hs : nums.Pairwise (· < ·)) (hb : ∀ a ∈ nums, 0 ≤ a ∧ a ≤ 1000000000) {h : Nat} {a : Int} (h1 : i ≤ h) (h2 : h < j) (ha : nums[h]? = some a) (hc : IntKind.i64.wrap (a - n) < 0) : BsI nums n (h + 1) j := by
  refine ⟨by omega, b.lt, fun hn k x hk hx => ?_, b.high⟩
  have hm := hb a (List.mem_of_getElem? ha)
  rw [wrap_near hm.1 hm.2 hn] at hc
  rcases Nat.lt_or_ge k h with h3 | h3
  · have := sorted_lt hs hx ha h3; omega
  · obtain rfl : k = h := by omega
    rw [ha] at hx; cases hx; omega
theorem BsI.fin {nums : List Int} {n : Int} {i : Nat} (b : BsI nums n i i) (hs : nums.Pairwise (· < ·)) (hb : ∀ a ∈ nums, 0 ≤ a ∧ a ≤ 1000000000) (hn : I64 n) (f : Bool) (hf : f = true ↔ ∃ a, nums[i]? = some a ∧ IntKind.i64.wrap (a - n) = 0) : BsP nums n i f := by
  have hz : ∀ a, nums[i]? = some a → (IntKind.i64.wrap (a - n) = 0 ↔ a = n) := fun a ha => by
    have hm := hb a (List.mem_of_getElem? ha)
    exact wrap_zero hm.1 hm.2 hn
  have hat : f = true → nums[i]? = some n := fun e => by
    obtain ⟨a, h1, h2⟩ := hf.1 e
    rw [(hz a h1).1 h2] at h1; exact h1
  refine ⟨b.lt, ⟨fun e => List.mem_of_getElem? (hat e), fun hm => ?_⟩, hat, b.low, b.high⟩
  have hm' := hb n hm
  have hnr : Near n := ⟨by omega, by omega⟩
  obtain ⟨k, hk⟩ := List.getElem?_of_mem hm
  have h1 : ¬ k < i := fun h => by have := b.low hnr k n h hk; omega
  refine hf.2 ?_
  have h2 : i < nums.length := by have := (List.getElem?_eq_some_iff.1 hk).1; omega
  have h3 := b.high hnr i nums[i] (Nat.le_refl _) (by simp [h2])
  have h4 : nums[i] = n := by
    rcases Nat.lt_or_ge i k with h5 | h5
    · have := sorted_lt hs (List.getElem?_eq_getElem h2) hk h5; omega
    · obtain rfl : i = k := by omega
      rw [List.getElem?_eq_getElem h2] at hk; exact Option.some.inj hk
  exact ⟨n, by rw [← h4]; exact List.getElem?_eq_getElem h2, by rw [Int.sub_self, IntKind.wrap_i64]; rfl⟩


theorem cmpCm_does (z : CmV) (n : Int) (h : HV) : Does Tryz.prog 91 #[.agg #[.int .i64 z.c.num, z.pv, z.dv, z.ov, .int .i64 z.c.cl, .int .i64 z.c.sq], .int .i64 n] [] h (Just h (· = .int .i64 (IntKind.i64.wrap (z.c.num - n)))) := by
  refine Does.of Tryz.func91 rfl Tryz.ntmps91 rfl fun c hc0 => ?_
  refine goK _ ?_
  refine Ops.eff rfl rfl rfl (Eff.box rfl) fun _ => Ops.ex fun b => Ops.pure ?_
  rintro rfl
  refine goK _ ?_
  refine Ops.val rfl rfl rfl (Val.sub_wrap rfl rfl) ?_
  refine goK _ ?_
  exact At.ret1 Tryz.results91 (Res.tmp rfl) (List.nil_sublist _) ⟨rfl, rfl, hc0.symm ▸ rfl⟩

theorem BSearchCm_does (R : List Itm) (v : Value) (l : List CmV) (n : Int) (hn : I64 n) (hs : (l.map fun z => z.c.num).Pairwise (· < ·)) (hb : ∀ a ∈ l.map (fun z => z.c.num), 0 ≤ a ∧ a ≤ 1000000000) (hl : l.length ≤ 1000000000) (h : HV) (hv : RowRd cmc 6 R h v l) :
    Does Tryz.prog 90 #[v, .int .i64 n, .func (.func 91) #[] #[]] R h (fun r Ω' h' => (∃ (i : Nat) (f : Bool), r = .tuple #[.int .i64 (i : Int), .bool f] ∧ BsP (l.map fun z => z.c.num) n i f) ∧ Ω' = R ∧ h = h') := by
  obtain ⟨a, cp, rfl⟩ := hv.form
  refine Does.of Tryz.func90 rfl Tryz.ntmps90 rfl fun c hc0 => ?_
  refine goK _ ?_
  refine At.loop2 (fun (i : Nat) (j : Nat) => [(0, .slice a l.length cp), (1, .int .i64 n), (2, .func (.func 91) #[] #[]), (8, .int .i64 (l.length : Int)), (9, .int .i64 (i : Int)), (10, .int .i64 (j : Int))])
    (fun (i : Nat) (j : Nat) w => BsI (l.map fun z => z.c.num) n i j ∧ Mem c R h w) (fun (i : Nat) (j : Nat) => j - i)
    0 l.length ⟨rfl, rfl, rfl, rfl, rfl, rfl, trivial⟩ (fun w hw => ⟨⟨Nat.zero_le _, by simp, fun _ k a hk => by omega, fun _ k a hk ha => by have := (List.getElem?_eq_some_iff.1 ha).1; simp at this; omega⟩, hw⟩) (fun i j => At.pure (fun hq => ?_))
  have hle := hq.le
  have hlt := hq.lt
  rw [List.length_map] at hlt
  refine goK _ ?_
  refine At.condP rfl (fun h2 => ?_) (fun h2 => ?_)
  rotate_left
  · obtain rfl : i = j := by omega
    refine goK _ ?_
    refine Ops.boolP (t := 39) rfl (fun h3 => ?_) (fun h3 => ?_)
    rotate_left
    · repeat (first | refine Ops.skip rfl rfl rfl ?_ | refine Ops.val rfl rfl rfl (Val.pick rfl rfl) ?_ | refine Ops.val rfl rfl rfl (Val.move rfl) ?_)
      refine Ops.val rfl rfl rfl (Val.assign rfl) ?_
      refine Ops.val rfl rfl rfl (Val.assign rfl) ?_
      refine Ops.nil ?_
      exact At.ret2 Tryz.results90 (Res.tmp rfl) (Res.tmp rfl) (List.Sublist.refl _) ⟨⟨i, false, rfl, hq.fin hs hb hn false ⟨fun e => (by cases e), fun ⟨a, ha, _⟩ => (by have := (List.getElem?_eq_some_iff.1 ha).1; simp at this; omega)⟩⟩, rfl, hc0.symm ▸ rfl⟩
    have hil : i < l.length := by omega
    obtain ⟨b0, o0, rfl, _, _, hc⟩ := RowRd.elem cmc_length hv (i := i) (x := l[i]) (by simp [hil])
    have hnum : (l.map fun z => z.c.num)[i]? = some ((fun z => z.c.num) l[i]) := by rw [List.getElem?_map, List.getElem?_eq_getElem hil]; rfl
    generalize l[i] = z at *
    repeat (first | refine Ops.val rfl rfl rfl (V.indexAddr rfl rfl rfl rfl (by omega)) ?_ | refine goS _ ?_)
    refine Ops.val rfl rfl rfl (V.loadN (cs := cmc z) rfl rfl rfl (fun w hw j u hu => Mem.cellR (hc j u hu) (fun _ hi => hi) hw)) ?_
    refine Ops.val rfl rfl rfl (Val.move rfl) ?_
    refine Ops.eff rfl rfl rfl (Eff.callvP 0 (fn (by kernel_rfl)) rfl rfl (Ωc := []) rfl (cmpCm_does z n h)) fun _ => Ops.pure ?_
    rintro rfl
    refine goK _ ?_
    refine At.ret2 Tryz.results90 (Res.tmp rfl) (Res.tmp rfl) (List.Sublist.refl _) ⟨⟨i, _, rfl, hq.fin hs hb hn _ ?_⟩, rfl, hc0.symm ▸ rfl⟩
    rw [decide_eq_true_iff]
    exact ⟨fun e => ⟨_, hnum, e⟩, fun ⟨a, ha, e⟩ => by rw [hnum] at ha; cases ha; exact e⟩
  have hij : i < j := by omega
  refine goK _ ?_
  refine Ops.respell (t := 21) (v' := .int .u64 ((i + j : Nat) : Int)) rfl (congrArg (Value.int .u64) (by rw [IntKind.wrap_u64]; omega)) ?_
  refine Ops.val rfl rfl rfl (Val.shrN (i + j) 1 rfl rfl rfl rfl (by decide)) ?_
  refine Ops.val rfl rfl rfl (V.conv rfl rfl rfl) ?_
  refine Ops.respell (t := 23) (v' := .int .i64 (((i + j) / 2 : Nat) : Int)) rfl (congrArg (Value.int .i64) (by rw [IntKind.wrap_i64]; omega)) ?_
  obtain ⟨m, hm⟩ : ∃ m, (i + j) / 2 = m := ⟨_, rfl⟩
  rw [hm]
  have hm1 : i ≤ m := by omega
  have hm2 : m < j := by omega
  have hml : m < l.length := by omega
  obtain ⟨b0, o0, rfl, _, _, hc⟩ := RowRd.elem cmc_length hv (i := m) (x := l[m]) (by simp [hml])
  have hnum : (l.map fun z => z.c.num)[m]? = some ((fun z => z.c.num) l[m]) := by rw [List.getElem?_map, List.getElem?_eq_getElem hml]; rfl
  generalize l[m] = z at *
  refine goK _ ?_
  refine Ops.val rfl rfl rfl (V.loadN (cs := cmc z) rfl rfl rfl (fun w hw j u hu => Mem.cellR (hc j u hu) (fun _ hi => hi) hw)) ?_
  refine Ops.val rfl rfl rfl (Val.move rfl) ?_
  refine Ops.eff rfl rfl rfl (Eff.callvP 0 (fn (by kernel_rfl)) rfl rfl (Ωc := []) rfl (cmpCm_does z n h)) fun _ => Ops.pure ?_
  rintro rfl
  refine goK _ ?_
  refine At.condP rfl (fun h3 => ?_) (fun h3 => ?_)
  · refine goK _ ?_
    exact At.back2 (m + 1) j (by show j - (m + 1) < j - i; omega) (by exact ⟨rfl, rfl, rfl, rfl, rfl, rfl, trivial⟩) (fun w hw => ⟨hq.right hs hb hm1 hm2 hnum h3, hw⟩)
  · refine goK _ ?_
    exact At.back2 i m (by show m - i < j - i; omega) (by exact ⟨rfl, rfl, rfl, rfl, rfl, rfl, trivial⟩) (fun w hw => ⟨hq.left hs hb hm1 hm2 hnum h3, hw⟩)


theorem cmpCl_does (z : Ox.Cl) (n : Int) (h : HV) : Does Tryz.prog 113 #[.agg #[.int .i64 z.c, .int .i64 z.b, .int .i64 z.s], .int .i64 n] [] h (Just h (· = .int .i64 (IntKind.i64.wrap (z.c - n)))) := by
  refine Does.of Tryz.func113 rfl Tryz.ntmps113 rfl fun c hc0 => ?_
  refine goK _ ?_
  refine Ops.eff rfl rfl rfl (Eff.box rfl) fun _ => Ops.ex fun b => Ops.pure ?_
  rintro rfl
  refine goK _ ?_
  refine Ops.val rfl rfl rfl (Val.sub_wrap rfl rfl) ?_
  refine goK _ ?_
  exact At.ret1 Tryz.results113 (Res.tmp rfl) (List.nil_sublist _) ⟨rfl, rfl, hc0.symm ▸ rfl⟩

theorem BSearchCl_does (R : List Itm) (v : Value) (l : List Ox.Cl) (n : Int) (hn : I64 n) (hs : (l.map fun z => z.c).Pairwise (· < ·)) (hb : ∀ a ∈ l.map (fun z => z.c), 0 ≤ a ∧ a ≤ 1000000000) (hl : l.length ≤ 1000000000) (h : HV) (hv : RowRd clc 3 R h v l) :
    Does Tryz.prog 112 #[v, .int .i64 n, .func (.func 113) #[] #[]] R h (fun r Ω' h' => (∃ (i : Nat) (f : Bool), r = .tuple #[.int .i64 (i : Int), .bool f] ∧ BsP (l.map fun z => z.c) n i f) ∧ Ω' = R ∧ h = h') := by
  obtain ⟨a, cp, rfl⟩ := hv.form
  refine Does.of Tryz.func112 rfl Tryz.ntmps112 rfl fun c hc0 => ?_
  refine goK _ ?_
  refine At.loop2 (fun (i : Nat) (j : Nat) => [(0, .slice a l.length cp), (1, .int .i64 n), (2, .func (.func 113) #[] #[]), (8, .int .i64 (l.length : Int)), (9, .int .i64 (i : Int)), (10, .int .i64 (j : Int))])
    (fun (i : Nat) (j : Nat) w => BsI (l.map fun z => z.c) n i j ∧ Mem c R h w) (fun (i : Nat) (j : Nat) => j - i)
    0 l.length ⟨rfl, rfl, rfl, rfl, rfl, rfl, trivial⟩ (fun w hw => ⟨⟨Nat.zero_le _, by simp, fun _ k a hk => by omega, fun _ k a hk ha => by have := (List.getElem?_eq_some_iff.1 ha).1; simp at this; omega⟩, hw⟩) (fun i j => At.pure (fun hq => ?_))
  have hle := hq.le
  have hlt := hq.lt
  rw [List.length_map] at hlt
  refine goK _ ?_
  refine At.condP rfl (fun h2 => ?_) (fun h2 => ?_)
  rotate_left
  · obtain rfl : i = j := by omega
    refine goK _ ?_
    refine Ops.boolP (t := 39) rfl (fun h3 => ?_) (fun h3 => ?_)
    rotate_left
    · repeat (first | refine Ops.skip rfl rfl rfl ?_ | refine Ops.val rfl rfl rfl (Val.pick rfl rfl) ?_ | refine Ops.val rfl rfl rfl (Val.move rfl) ?_)
      refine Ops.val rfl rfl rfl (Val.assign rfl) ?_
      refine Ops.val rfl rfl rfl (Val.assign rfl) ?_
      refine Ops.nil ?_
      exact At.ret2 Tryz.results112 (Res.tmp rfl) (Res.tmp rfl) (List.Sublist.refl _) ⟨⟨i, false, rfl, hq.fin hs hb hn false ⟨fun e => (by cases e), fun ⟨a, ha, _⟩ => (by have := (List.getElem?_eq_some_iff.1 ha).1; simp at this; omega)⟩⟩, rfl, hc0.symm ▸ rfl⟩
    have hil : i < l.length := by omega
    obtain ⟨b0, o0, rfl, _, _, hc⟩ := RowRd.elem clc_length hv (i := i) (x := l[i]) (by simp [hil])
    have hnum : (l.map fun z => z.c)[i]? = some ((fun z => z.c) l[i]) := by rw [List.getElem?_map, List.getElem?_eq_getElem hil]; rfl
    generalize l[i] = z at *
    repeat (first | refine Ops.val rfl rfl rfl (V.indexAddr rfl rfl rfl rfl (by omega)) ?_ | refine goS _ ?_)
    refine Ops.val rfl rfl rfl (V.loadN (cs := clc z) rfl rfl rfl (fun w hw j u hu => Mem.cellR (hc j u hu) (fun _ hi => hi) hw)) ?_
    refine Ops.val rfl rfl rfl (Val.move rfl) ?_
    refine Ops.eff rfl rfl rfl (Eff.callvP 0 (fn (by kernel_rfl)) rfl rfl (Ωc := []) rfl (cmpCl_does z n h)) fun _ => Ops.pure ?_
    rintro rfl
    refine goK _ ?_
    refine At.ret2 Tryz.results112 (Res.tmp rfl) (Res.tmp rfl) (List.Sublist.refl _) ⟨⟨i, _, rfl, hq.fin hs hb hn _ ?_⟩, rfl, hc0.symm ▸ rfl⟩
    rw [decide_eq_true_iff]
    exact ⟨fun e => ⟨_, hnum, e⟩, fun ⟨a, ha, e⟩ => by rw [hnum] at ha; cases ha; exact e⟩
  have hij : i < j := by omega
  refine goK _ ?_
  refine Ops.respell (t := 21) (v' := .int .u64 ((i + j : Nat) : Int)) rfl (congrArg (Value.int .u64) (by rw [IntKind.wrap_u64]; omega)) ?_
  refine Ops.val rfl rfl rfl (Val.shrN (i + j) 1 rfl rfl rfl rfl (by decide)) ?_
  refine Ops.val rfl rfl rfl (V.conv rfl rfl rfl) ?_
  refine Ops.respell (t := 23) (v' := .int .i64 (((i + j) / 2 : Nat) : Int)) rfl (congrArg (Value.int .i64) (by rw [IntKind.wrap_i64]; omega)) ?_
  obtain ⟨m, hm⟩ : ∃ m, (i + j) / 2 = m := ⟨_, rfl⟩
  rw [hm]
  have hm1 : i ≤ m := by omega
  have hm2 : m < j := by omega
  have hml : m < l.length := by omega
  obtain ⟨b0, o0, rfl, _, _, hc⟩ := RowRd.elem clc_length hv (i := m) (x := l[m]) (by simp [hml])
  have hnum : (l.map fun z => z.c)[m]? = some ((fun z => z.c) l[m]) := by rw [List.getElem?_map, List.getElem?_eq_getElem hml]; rfl
  generalize l[m] = z at *
  refine goK _ ?_
  refine Ops.val rfl rfl rfl (V.loadN (cs := clc z) rfl rfl rfl (fun w hw j u hu => Mem.cellR (hc j u hu) (fun _ hi => hi) hw)) ?_
  refine Ops.val rfl rfl rfl (Val.move rfl) ?_
  refine Ops.eff rfl rfl rfl (Eff.callvP 0 (fn (by kernel_rfl)) rfl rfl (Ωc := []) rfl (cmpCl_does z n h)) fun _ => Ops.pure ?_
  rintro rfl
  refine goK _ ?_
  refine At.condP rfl (fun h3 => ?_) (fun h3 => ?_)
  · refine goK _ ?_
    exact At.back2 (m + 1) j (by show j - (m + 1) < j - i; omega) (by exact ⟨rfl, rfl, rfl, rfl, rfl, rfl, trivial⟩) (fun w hw => ⟨hq.right hs hb hm1 hm2 hnum h3, hw⟩)
  · refine goK _ ?_
    exact At.back2 i m (by show m - i < j - i; omega) (by exact ⟨rfl, rfl, rfl, rfl, rfl, rfl, trivial⟩) (fun w hw => ⟨hq.left hs hb hm1 hm2 hnum h3, hw⟩)

end Go.Proofs.YthjgbmbaabpgmaaGreat
/-
  The machine: what is asked of it, the small questions.
-/
namespace Go.Proofs.YthjgbmbaabpgmaaGreat
open Go.Sy
set_option maxRecDepth 4000
set_option maxHeartbeats 4000000
namespace Ox
/-- the last one of a log -/
def lastZ (l : List Int) : Int := l.getLast?.getD 0
theorem lastZ_get {l : List Int} (h : l ≠ []) : l[l.length - 1]? = some (lastZ l) := by
  rw [← List.getLast?_eq_getElem?, lastZ]
  cases hl : l.getLast? with
  | none => exact absurd (List.getLast?_eq_none_iff.1 hl) h
  | some a => rfl
/-- may a text be a branch's name -/
def okB (b : UInt8) : Bool := decide ((97 ≤ b.toNat ∧ b.toNat ≤ 122) ∨ (48 ≤ b.toNat ∧ b.toNat ≤ 57))
def isName (s : List UInt8) : Bool := s.all okB && decide (s ≠ [] ∧ s.length ≤ 12)
end Ox
attribute [local irreducible] At Ops Val Eff Does Res Dr

theorem tip_does (R : List Itm) (bb o : Nat) (lv : Value) (log : List Int) (h : HV) (hc : CellR R h bb (o + 2) lv) (hl : RowRd zc 1 R h lv log) (hne : log ≠ []) (hlen : log.length ≤ 1000000000) :
    Does Tryz.prog 111 #[.pointer (some ⟨bb, o, none⟩)] R h (fun r Ω' h' => r = .int .i64 (Ox.lastZ log) ∧ Ω' = R ∧ h = h') := by
  obtain ⟨a, cp, rfl⟩ := hl.form
  have hp : 0 < log.length := List.length_pos_iff.2 hne
  obtain ⟨b0, o0, rfl, _, _, hcl⟩ := RowRd.elem zc_length hl (Ox.lastZ_get hne)
  refine Does.of Tryz.func111 rfl Tryz.ntmps111 rfl fun c hc0 => ?_
  refine goK _ ?_
  first | refine At.drawn mo (fun _ _ m => m.drew _) ?_ | refine At.seq (At.drawn mo (fun _ _ m => m.drew _) ?_)
  refine Dr.val 0 rfl rfl rfl rfl (by kernel_rfl) rfl (Val.move rfl) ?_
  refine Dr.val 1 rfl rfl rfl rfl (by kernel_rfl) rfl (Val.nilCheck rfl) ?_
  refine Dr.val 2 rfl rfl rfl rfl (by kernel_rfl) rfl (V.fieldAddr rfl rfl) ?_
  refine Dr.valS 3 _ rfl rfl rfl rfl (by kernel_rfl) rfl (V.load rfl rfl (fun _ hh => hh)) (fun w hw => Mem.cellR (hc) (by first | exact fun _ hi => hi | exact fun _ hi => List.mem_cons_of_mem _ hi | exact fun _ hi => List.mem_cons_of_mem _ (List.mem_cons_of_mem _ hi) | simp +contextual | grind) hw) ?_
  refine Dr.val 4 rfl rfl rfl rfl (by kernel_rfl) rfl (Val.move rfl) ?_
  refine Dr.val 5 rfl rfl rfl rfl (by kernel_rfl) rfl (Val.nilCheck rfl) ?_
  refine Dr.val 6 rfl rfl rfl rfl (by kernel_rfl) rfl (V.fieldAddr rfl rfl) ?_
  refine Dr.valS 7 _ rfl rfl rfl rfl (by kernel_rfl) rfl (V.load rfl rfl (fun _ hh => hh)) (fun w hw => Mem.cellR (hc) (by first | exact fun _ hi => hi | exact fun _ hi => List.mem_cons_of_mem _ hi | exact fun _ hi => List.mem_cons_of_mem _ (List.mem_cons_of_mem _ hi) | simp +contextual | grind) hw) ?_
  refine Dr.val 8 rfl rfl rfl rfl (by kernel_rfl) rfl (V.lenslice rfl rfl) ?_
  refine Dr.val 9 rfl rfl rfl rfl (by kernel_rfl) rfl (Val.sub rfl rfl (by omega) (by omega)) ?_
  refine Dr.respell (t := 12) (v' := .int .i64 ((log.length - 1 : Nat) : Int)) rfl (congrArg (Value.int .i64) (by omega)) ?_
  refine Dr.val 10 rfl rfl rfl rfl (by kernel_rfl) rfl (V.indexAddr rfl rfl rfl rfl (by omega)) ?_
  refine Dr.valS 11 _ rfl rfl rfl rfl (by kernel_rfl) rfl (V.load rfl rfl (fun _ hh => hh)) (fun w hw => Mem.cellR (hcl 0 _ rfl) (by first | exact fun _ hi => hi | exact fun _ hi => List.mem_cons_of_mem _ hi | exact fun _ hi => List.mem_cons_of_mem _ (List.mem_cons_of_mem _ hi) | simp +contextual | grind) hw) ?_
  refine Dr.val 12 rfl rfl rfl rfl (by kernel_rfl) rfl (Val.assign rfl) ?_
  refine Dr.done (by kernel_rfl) (by kernel_rfl) ?_
  exact At.ret1 Tryz.results111 (Res.tmp rfl) (List.Sublist.refl _) ⟨rfl, rfl, hc0.symm ▸ rfl⟩

/-- where a branch stands -/
def BrPost (bsv : Value) (ys : List BrV) (p : Ox.Br → Prop) (r : Value) : Prop :=
  (∃ bb o cp i y, bsv = .slice (some ⟨bb, o, none⟩) ys.length cp ∧ ys[i]? = some y ∧ p y.b ∧ (∀ k x, k < i → ys[k]? = some x → ¬ p x.b) ∧ r = .pointer (some ⟨bb, o + i * 3, none⟩)) ∨ ((∀ y ∈ ys, ¬ p y.b) ∧ r = .pointer none)

section
variable (R : List Itm) (m : Nat) (nc nb : Int) (csv bsv ksv : Value) (dm : Nat) (ys : List BrV) (hyl : ys.length ≤ 1000000000) (h : HV)
include hyl
theorem branch_does (s : List UInt8) (hv : RowRd brc 3 R h bsv ys) :
    Does Tryz.prog 43 #[.pointer (some ⟨m, 0, none⟩), str s] (cells m (mcc nc nb csv bsv ksv dm) 101 :: R) h (fun r Ω' h' => BrPost bsv ys (fun b => b.name = s) r ∧ Ω' = cells m (mcc nc nb csv bsv ksv dm) 101 :: R ∧ h = h') := by
  obtain ⟨a, cp, rfl⟩ := hv.form
  unfold mcc
  refine Does.of Tryz.func43 rfl Tryz.ntmps43 rfl fun c hc0 => ?_
  refine goK _ ?_
  refine At.loop1 (fun (i : Nat) => [(0, .pointer (some ⟨m, 0, none⟩)), (1, str s), (11, .int .i64 (ys.length : Int)), (12, .int .i64 (i : Int))])
    (fun (i : Nat) w => (i ≤ ys.length ∧ ∀ k x, k < i → ys[k]? = some x → ¬ x.b.name = s) ∧ Mem c (cells m [.int .i64 nc, .int .i64 nb, csv, .slice a ys.length cp, ksv, .map (some dm)] 101 :: R) h w) (fun (i : Nat) => ys.length - i)
    0 ⟨rfl, rfl, rfl, rfl, trivial⟩ (fun w hw => ⟨⟨Nat.zero_le _, fun k x hk => by omega⟩, hw⟩) (fun i => At.pure (fun hq => ?_))
  obtain ⟨hi, hno⟩ := hq
  refine goK _ ?_
  refine At.condP rfl (fun h2 => ?_) (fun h2 => ?_)
  rotate_left
  · obtain rfl : i = ys.length := by omega
    refine goK _ ?_
    refine At.ret1 Tryz.results43 (Res.tmp rfl) (List.Sublist.refl _) ⟨.inr ⟨fun y hy => ?_, rfl⟩, rfl, hc0.symm ▸ rfl⟩
    obtain ⟨k, hk⟩ := List.getElem?_of_mem hy
    exact hno k y (List.getElem?_eq_some_iff.1 hk).1 hk
  have hlt : i < ys.length := by omega
  obtain ⟨b0, o0, rfl, _, _, hcx⟩ := RowRd.elem brc_length hv (i := i) (x := ys[i]) (by simp [hlt])
  have hyi : ys[i]? = some ys[i] := by simp [hlt]
  generalize ys[i] = y at *
  refine goK _ ?_
  refine Ops.val rfl rfl rfl (V.load rfl rfl (fun w hw => Mem.cellR (hcx 1 (str y.b.name) rfl) (by first | exact fun _ hi => hi | exact fun _ hi => List.mem_cons_of_mem _ hi | exact fun _ hi => List.mem_cons_of_mem _ (List.mem_cons_of_mem _ hi) | simp +contextual | grind) hw)) ?_
  refine goK _ ?_
  refine At.condP rfl (fun h3 => ?_) (fun h3 => ?_)
  · refine goK _ ?_
    exact At.ret1 Tryz.results43 (Res.tmp rfl) (List.Sublist.refl _) ⟨.inl ⟨b0, o0, cp, i, y, rfl, hyi, h3, hno, rfl⟩, rfl, hc0.symm ▸ rfl⟩
  · refine goK _ ?_
    refine At.back (i + 1) (by show ys.length - (i + 1) < ys.length - i; omega) (by exact ⟨rfl, rfl, rfl, rfl, trivial⟩) (fun w hw => ⟨⟨hlt, fun k x hk hx => ?_⟩, hw⟩)
    rcases Nat.lt_or_ge k i with h4 | h4
    · exact hno k x h4 hx
    · obtain rfl : k = i := by omega
      rw [hyi] at hx; cases hx; exact h3
theorem byId_does (s : Int) (hv : RowRd brc 3 R h bsv ys) :
    Does Tryz.prog 51 #[.pointer (some ⟨m, 0, none⟩), .int .i64 s] (cells m (mcc nc nb csv bsv ksv dm) 101 :: R) h (fun r Ω' h' => BrPost bsv ys (fun b => b.id = s) r ∧ Ω' = cells m (mcc nc nb csv bsv ksv dm) 101 :: R ∧ h = h') := by
  obtain ⟨a, cp, rfl⟩ := hv.form
  unfold mcc
  refine Does.of Tryz.func51 rfl Tryz.ntmps51 rfl fun c hc0 => ?_
  refine goK _ ?_
  refine At.loop1 (fun (i : Nat) => [(0, .pointer (some ⟨m, 0, none⟩)), (1, .int .i64 s), (11, .int .i64 (ys.length : Int)), (12, .int .i64 (i : Int))])
    (fun (i : Nat) w => (i ≤ ys.length ∧ ∀ k x, k < i → ys[k]? = some x → ¬ x.b.id = s) ∧ Mem c (cells m [.int .i64 nc, .int .i64 nb, csv, .slice a ys.length cp, ksv, .map (some dm)] 101 :: R) h w) (fun (i : Nat) => ys.length - i)
    0 ⟨rfl, rfl, rfl, rfl, trivial⟩ (fun w hw => ⟨⟨Nat.zero_le _, fun k x hk => by omega⟩, hw⟩) (fun i => At.pure (fun hq => ?_))
  obtain ⟨hi, hno⟩ := hq
  refine goK _ ?_
  refine At.condP rfl (fun h2 => ?_) (fun h2 => ?_)
  rotate_left
  · obtain rfl : i = ys.length := by omega
    refine goK _ ?_
    refine At.ret1 Tryz.results51 (Res.tmp rfl) (List.Sublist.refl _) ⟨.inr ⟨fun y hy => ?_, rfl⟩, rfl, hc0.symm ▸ rfl⟩
    obtain ⟨k, hk⟩ := List.getElem?_of_mem hy
    exact hno k y (List.getElem?_eq_some_iff.1 hk).1 hk
  have hlt : i < ys.length := by omega
  obtain ⟨b0, o0, rfl, _, _, hcx⟩ := RowRd.elem brc_length hv (i := i) (x := ys[i]) (by simp [hlt])
  have hyi : ys[i]? = some ys[i] := by simp [hlt]
  generalize ys[i] = y at *
  refine goK _ ?_
  refine Ops.val rfl rfl rfl (V.load rfl rfl (fun w hw => Mem.cellR (hcx 0 (.int .i64 y.b.id) rfl) (by first | exact fun _ hi => hi | exact fun _ hi => List.mem_cons_of_mem _ hi | exact fun _ hi => List.mem_cons_of_mem _ (List.mem_cons_of_mem _ hi) | simp +contextual | grind) hw)) ?_
  refine goK _ ?_
  refine At.condP rfl (fun h3 => ?_) (fun h3 => ?_)
  · refine goK _ ?_
    exact At.ret1 Tryz.results51 (Res.tmp rfl) (List.Sublist.refl _) ⟨.inl ⟨b0, o0, cp, i, y, rfl, hyi, h3, hno, rfl⟩, rfl, hc0.symm ▸ rfl⟩
  · refine goK _ ?_
    refine At.back (i + 1) (by show ys.length - (i + 1) < ys.length - i; omega) (by exact ⟨rfl, rfl, rfl, rfl, trivial⟩) (fun w hw => ⟨⟨hlt, fun k x hk hx => ?_⟩, hw⟩)
    rcases Nat.lt_or_ge k i with h4 | h4
    · exact hno k x h4 hx
    · obtain rfl : k = i := by omega
      rw [hyi] at hx; cases hx; exact h3
end
theorem full_does (R : List Itm) (m : Nat) (nc nb : Int) (csv bsv ksv : Value) (dm : Nat) (h : HV) :
    Does Tryz.prog 56 #[.pointer (some ⟨m, 0, none⟩)] (cells m (mcc nc nb csv bsv ksv dm) 101 :: R) h (fun r Ω' h' => r = .bool (decide (300 < nc)) ∧ Ω' = cells m (mcc nc nb csv bsv ksv dm) 101 :: R ∧ h = h') := by
  unfold mcc
  refine Does.of Tryz.func56 rfl Tryz.ntmps56 rfl fun c hc0 => ?_
  refine goK _ ?_
  exact At.ret1 Tryz.results56 (Res.tmp rfl) (List.Sublist.refl _) ⟨rfl, rfl, hc0.symm ▸ rfl⟩
theorem on_does (nc nb : Int) (csv bsv ksv : Value) (h : HV) :
    Does Tryz.prog 40 #[.agg #[.int .i64 nc, .int .i64 nb, csv, bsv, ksv]] [] h (fun r Ω' h' => (∃ m dm, r = .pointer (some ⟨m, 0, none⟩) ∧ Ω' = [cells m (mcc nc nb csv bsv ksv dm) 101, mapI key dm []]) ∧ h = h') := by
  unfold mcc
  refine Does.of Tryz.func40 rfl Tryz.ntmps40 rfl fun c hc0 => ?_
  refine goK _ ?_
  refine Ops.eff rfl rfl rfl (Eff.box rfl) fun _ => Ops.ex fun b1 => Ops.pure ?_
  rintro rfl
  refine goK _ ?_
  refine Ops.eff rfl rfl rfl (Eff.makeMap (κ := key)) fun _ => Ops.ex fun dm => Ops.pure ?_
  rintro rfl
  refine goK _ ?_
  refine Ops.eff rfl rfl rfl (Eff.box rfl) fun _ => Ops.ex fun m => Ops.pure ?_
  rintro rfl
  refine goK _ ?_
  exact At.ret1 Tryz.results40 (Res.tmp rfl) (Ω' := [cells m [.int .i64 nc, .int .i64 nb, csv, bsv, ksv, .map (some dm)] 101, mapI key dm []]) (((List.nil_sublist _).cons_cons _).cons_cons _) ⟨⟨m, dm, rfl, rfl⟩, hc0.symm ▸ rfl⟩
theorem New_does (h : HV) : Does Tryz.prog 34 #[] [] h (Just h (· = .agg #[.int .i64 1, .int .i64 1, .slice none 0 0, .slice none 0 0, .slice none 0 0])) := by
  refine Does.of Tryz.func34 rfl Tryz.ntmps34 rfl fun c hc0 => ?_
  refine goK _ ?_
  refine Ops.eff rfl rfl rfl (E.alloc rfl) fun _ => Ops.ex fun b0 => Ops.pure ?_
  rintro rfl
  refine goK _ ?_
  refine Ops.eff0 rfl rfl (E.store 0 rfl rfl rfl rfl rfl rfl rfl) fun _ => ?_
  refine goK _ ?_
  exact At.ret1 Tryz.results34 (Res.cellA (j := 0) (cs := [.int .i64 1, .int .i64 1, .slice none 0 0, .slice none 0 0, .slice none 0 0]) (ly rfl) rfl rfl rfl) (List.nil_sublist _) ⟨rfl, rfl, hc0.symm ▸ rfl⟩

theorem isName_does (s : List UInt8) (hs : s.length ≤ 1000000000) (h : HV) : Does Tryz.prog 42 #[str s] [] h (Just h (· = .bool (Ox.isName s))) := by
  refine Does.of Tryz.func42 rfl Tryz.ntmps42 rfl fun c hc0 => ?_
  refine goK _ ?_
  refine Ops.eff rfl rfl rfl (Eff.strBytes (st (t := 9) rfl) Tryz.underlying115 Tryz.underlying5 rfl) fun _ => Ops.ex fun b => Ops.ex fun cp => Ops.ex fun zs => Ops.ex fun fr => Ops.pure ?_
  rintro rfl
  refine Ops.pure fun hcp => ?_
  refine goK _ ?_
  refine At.loop1 (fun (i : Nat) => [(0, str s), (6, .slice (some ⟨b, 0, none⟩) s.length cp), (7, .int .i64 (s.length : Int)), (8, .int .i64 (i : Int))])
    (fun (i : Nat) w => (i ≤ s.length ∧ (s.take i).all Ox.okB = true) ∧ Mem c [blk b (.cells (s.map B ++ zs).toArray 5 fr)] h w) (fun (i : Nat) => s.length - i)
    0 ⟨rfl, rfl, rfl, rfl, trivial⟩ (fun w hw => ⟨⟨Nat.zero_le _, rfl⟩, hw⟩) (fun i => At.pure (fun hq => ?_))
  obtain ⟨hi, hok⟩ := hq
  refine goK _ ?_
  refine At.condP rfl (fun h2 => ?_) (fun h2 => ?_)
  rotate_left
  · obtain rfl : i = s.length := by omega
    rw [List.take_length] at hok
    refine goK _ ?_
    have hfin0 : Ox.isName [] = false := rfl
    have hfin1 : ¬ s = [] → Ox.isName s = decide ((s.length : Int) ≤ 12) := fun e => by
      rw [Ox.isName, hok, Bool.true_and, decide_eq_decide]; exact ⟨fun h => by omega, fun h => ⟨e, by omega⟩⟩
    clear hok hi h2
    refine Ops.forkR 2 (.bool (Ox.isName s)) [0] ?_ (fun main => ?_)
    rotate_left
    · repeat' (first
        | refine opS _ ?_
        | refine Ops.gsplit rfl rfl (fun hb => ?_) (fun hb => ?_)
        | refine Ops.psplit rfl (fun hb => ?_) (fun hb => ?_))
      all_goals (refine Ops.nil ?_; refine main.sub ⟨congrArg (fun b => some (Value.bool b)) ?_, (by repeat (first | exact trivial | refine ⟨rfl, ?_⟩))⟩; clear main; (simp at hb; simp [hfin0, hfin1, hb]))
    exact At.ret1 Tryz.results42 (Res.tmp rfl) (List.nil_sublist _) ⟨rfl, rfl, hc0.symm ▸ rfl⟩
  have hlt : i < s.length := by omega
  have hts : s.take (i + 1) = s.take i ++ [s[i]] := by rw [List.take_succ_eq_append_getElem hlt]
  have hbi : (s.map B ++ zs)[0 + i * 1]? = some (.int .u8 (s[i].toNat : Int)) := by
    rw [Nat.zero_add, Nat.mul_one, List.getElem?_append_left (by simpa using hlt), List.getElem?_map, List.getElem?_eq_getElem hlt]; rfl
  have hall : s.all Ox.okB = true → Ox.okB s[i] = true := fun e => List.all_eq_true.1 e _ (by simp)
  generalize s[i] = x at *
  repeat (first | refine Ops.val rfl rfl rfl (V.loadO 0 rfl rfl rfl hbi) ?_ | refine goS _ ?_)
  refine Ops.forkR 25 (.bool (!Ox.okB x)) [0, 6, 7, 8, 2] ?_ (fun main => ?_)
  rotate_left
  · repeat' (first
      | refine opS _ ?_
      | refine Ops.gsplit rfl rfl (fun hb => ?_) (fun hb => ?_)
      | refine Ops.psplit rfl (fun hb => ?_) (fun hb => ?_))
    all_goals (refine Ops.nil ?_; refine main.sub ⟨congrArg (fun b => some (Value.bool b)) ?_, (by repeat (first | exact trivial | refine ⟨rfl, ?_⟩))⟩; clear main; (rw [Bool.eq_iff_iff]; simp [Ox.okB] at *; try omega))
  refine At.cond rfl (fun h3 => ?_) (fun h3 => ?_)
  · refine goK _ ?_
    refine At.ret1 Tryz.results42 (Res.tmp rfl) (List.nil_sublist _) ⟨?_, rfl, hc0.symm ▸ rfl⟩
    have h4 : Ox.okB x = false := by simpa using h3
    have h5 : s.all Ox.okB = false := by
      cases hb : s.all Ox.okB with
      | false => rfl
      | true => rw [hall hb] at h4; cases h4
    rw [Ox.isName, h5]; rfl
  · refine goK _ ?_
    refine At.back (i + 1) (by show s.length - (i + 1) < s.length - i; omega) (by exact ⟨rfl, rfl, rfl, rfl, trivial⟩) (fun w hw => ⟨⟨hlt, ?_⟩, hw⟩)
    rw [hts, List.all_append, hok]
    simpa using h3
end Go.Proofs.YthjgbmbaabpgmaaGreat
