/-
  Code points: what the functions of package text do.
-/
import Derived.Test.YthjgbmbaabpgmaaGreatSrd05
import Derived.Test.YthjgbmbaabpgmaaGreatSrd09
set_option linter.unusedVariables false
set_option linter.unusedSimpArgs false
set_option linter.unusedSectionVars false
namespace Go.Proofs.YthjgbmbaabpgmaaGreat
open Go.Sy
set_option maxRecDepth 4000
set_option maxHeartbeats 4000000
attribute [local irreducible] At Ops Val Eff Does Res Dr
namespace Ox
def size (n : Int) : Nat := if n < 128 then 1 else if n < 2048 then 2 else if n < 65536 then 3 else 4
def isPoint (n : Int) : Bool := decide (0 ≤ n) && decide (n ≤ 1114111) && (decide (n < 55296) || decide (57343 < n))
end Ox
/-- only a value comes of it -/
def Just (h : HV) (p : Value → Prop) : Value → List Itm → HV → Prop := fun v Ω' h' => p v ∧ Ω' = [] ∧ h = h'

theorem size_does (n : Int) (h : HV) : Does Tryz.prog 202 #[.int .i64 n] [] h (Just h (· = .int .i64 (Ox.size n : Int))) := by
  refine Does.of Tryz.func202 rfl Tryz.ntmps202 rfl fun c hc0 => ?_
  refine goK _ ?_
  refine At.cond rfl (fun h1 => ?_) (fun h1 => ?_)
  · have h1 := of_decide_eq_true h1
    refine goK _ ?_
    exact At.ret1 Tryz.results202 (Res.tmp rfl) (List.Sublist.refl _) ⟨by simp [Ox.size, h1], rfl, rfl⟩
  have h1 := of_decide_eq_false h1
  refine goK _ ?_
  refine At.cond rfl (fun h2 => ?_) (fun h2 => ?_)
  · have h2 := of_decide_eq_true h2
    refine goK _ ?_
    exact At.ret1 Tryz.results202 (Res.tmp rfl) (List.Sublist.refl _) ⟨by simp [Ox.size, h1, h2], rfl, rfl⟩
  have h2 := of_decide_eq_false h2
  refine goK _ ?_
  refine At.cond rfl (fun h3 => ?_) (fun h3 => ?_)
  · have h3 := of_decide_eq_true h3
    refine goK _ ?_
    exact At.ret1 Tryz.results202 (Res.tmp rfl) (List.Sublist.refl _) ⟨by simp [Ox.size, h1, h2, h3], rfl, rfl⟩
  have h3 := of_decide_eq_false h3
  refine goK _ ?_
  exact At.ret1 Tryz.results202 (Res.tmp rfl) (List.Sublist.refl _) ⟨by simp [Ox.size, h1, h2, h3], rfl, rfl⟩

theorem isPoint_does (n : Int) (h : HV) : Does Tryz.prog 156 #[.int .i64 n] [] h (Just h (· = .bool (Ox.isPoint n))) := by
  refine Does.of Tryz.func156 rfl Tryz.ntmps156 rfl fun c hc0 => ?_
  refine goK _ ?_
  refine Ops.forkR 2 (.bool (Ox.isPoint n)) [] ?_ (fun main => ?_)
  rotate_left
  · repeat' (first
      | refine opS _ ?_
      | refine Ops.gsplit rfl rfl (fun hb => ?_) (fun hb => ?_)
      | refine Ops.psplit rfl (fun hb => ?_) (fun hb => ?_))
    all_goals (refine Ops.nil ?_; refine main.sub ⟨congrArg (fun b => some (Value.bool b)) ?_, (by repeat (first | exact trivial | refine ⟨rfl, ?_⟩))⟩; clear main; simp [*, Ox.isPoint])
  refine goK _ ?_
  exact At.ret1 Tryz.results156 (Res.tmp rfl) (List.Sublist.refl _) ⟨rfl, rfl, rfl⟩

namespace Ox
/-- the bytes behind the first one: m of them -/
def cont (n : Nat) : Nat → List UInt8
  | 0 => []
  | m + 1 => UInt8.ofNat (128 + n / 2 ^ (6 * m) % 64) :: cont n m
/-- the first byte of k -/
def lead (n k : Nat) : UInt8 := UInt8.ofNat (if k = 1 then n else if k = 2 then 192 + n / 64 else if k = 3 then 224 + n / 4096 else 240 + n / 262144)
/-- a code point's bytes -/
def enc (n : Nat) : List UInt8 := lead n (size n) :: cont n (size n - 1)
theorem cont_length (n m : Nat) : (cont n m).length = m := by induction m with | zero => rfl | succ m ih => simp [cont, ih]
theorem size_pos (n : Int) : 1 ≤ size n ∧ size n ≤ 4 := by unfold size; split <;> (try split) <;> (try split) <;> omega
theorem enc_length (n : Nat) : (enc n).length = size n := by have := size_pos n; simp [enc, cont_length]; omega
theorem or_low : ∀ y, y < 64 → 128 ||| y = 128 + y := by decide
theorem or_2 : ∀ y, y < 32 → 192 ||| y = 192 + y := by decide
theorem or_3 : ∀ y, y < 16 → 224 ||| y = 224 + y := by decide
theorem or_4 : ∀ y, y < 8 → 240 ||| y = 240 + y := by decide
end Ox

theorem cont_bits (z : Nat) : 128 ||| (z % 256 &&& 63) = (UInt8.ofNat (128 + z % 64)).toNat := by
  have h1 : z % 256 &&& 63 = z % 64 := by
    rw [show (63 : Nat) = 2 ^ 6 - 1 from rfl, Nat.and_two_pow_sub_one_eq_mod]; omega
  rw [h1, Ox.or_low _ (Nat.mod_lt _ (by omega))]
  simp; omega
theorem size_cases (n : Nat) : (Ox.size n = 1 ∧ n < 128) ∨ (Ox.size n = 2 ∧ 128 ≤ n ∧ n < 2048) ∨ (Ox.size n = 3 ∧ 2048 ≤ n ∧ n < 65536) ∨ (Ox.size n = 4 ∧ 65536 ≤ n) := by
  unfold Ox.size; split
  · omega
  · split
    · omega
    · split <;> omega
theorem lead_bits (n : Nat) (hn : n ≤ 1114111) (h1 : Ox.size n ≠ 1) : 3840 / 2 ^ Ox.size n % 256 ||| n / 2 ^ (6 * (Ox.size n - 1)) % 256 = (Ox.lead n (Ox.size n)).toNat := by
  rcases size_cases n with ⟨h, _⟩ | ⟨h, h2, h3⟩ | ⟨h, h2, h3⟩ | ⟨h, h2⟩
  · exact absurd h h1
  · rw [h]; simp only [Ox.lead]
    have := Ox.or_2 (n / 64) (by omega)
    have e : n / 64 % 256 = n / 64 := by omega
    simp [e, this]; omega
  · rw [h]; simp only [Ox.lead]
    have := Ox.or_3 (n / 4096) (by omega)
    have e : n / 4096 % 256 = n / 4096 := by omega
    simp [e, this]; omega
  · rw [h]; simp only [Ox.lead]
    have := Ox.or_4 (n / 262144) (by omega)
    have e : n / 262144 % 256 = n / 262144 := by omega
    simp [e, this]; omega

theorem put_does (n : Nat) (hn : Ox.isPoint n = true) (v : Value) (N : Nat) (xs : List Value) (hN : N ≤ 100000000000) (h : HV) :
    Does Tryz.prog 157 #[v, .int .i64 (n : Int)] [row 5 1 v N xs] h (fun u Ω' h' => Ω' = [row 5 1 u (N + (Ox.enc n).length) (xs ++ (Ox.enc n).map B)] ∧ u ≠ .slice none 0 0 ∧ h = h') := by
  have hn' : n ≤ 1114111 := by simp [Ox.isPoint] at hn; omega
  have hs := Ox.size_pos n
  refine Does.of Tryz.func157 rfl Tryz.ntmps157 rfl fun c hc0 => ?_
  refine goK _ ?_
  refine Ops.eff rfl rfl rfl (Eff.call (fn (by kernel_rfl)) rfl (Ωc := []) rfl (size_does n h)) fun u => Ops.ex fun Ω' => Ops.ex fun h' => Ops.pure fun ⟨e1, e2, e3⟩ => ?_
  subst e1 e2 e3
  refine goK _ ?_
  refine At.condP rfl (fun h1 => ?_) (fun h1 => ?_)
  · refine goK _ ?_
    refine Ops.eff rfl rfl rfl (Eff.buildSlice1 (by exact ap rfl) rfl rfl rfl) fun _ => Ops.ex fun b => Ops.pure fun e => ?_
    subst e
    refine Ops.eff rfl rfl rfl (E.append1 0 rfl rfl rfl rfl rfl rfl (by omega) (by omega)) fun v' => Ops.pure fun hv' => ?_
    refine goK _ ?_
    refine At.ret1 Tryz.results157 (Res.tmp rfl) (List.Sublist.refl _) ⟨?_, hv', rfl⟩
    have hs1 : Ox.size n = 1 := by omega
    have hlt : n < 128 := by unfold Ox.size at hs1; split at hs1 <;> (try omega); split at hs1 <;> (try omega); split at hs1 <;> omega
    have hb : (UInt8.ofNat n).toNat = n := by simp; omega
    simp [Ox.enc, hs1, Ox.cont, Ox.lead, B, hb, wrap_u8_nat, Nat.mod_eq_of_lt (show n < 256 by omega)]
  refine goK _ ?_
  refine At.drawn mo (fun _ _ m => m.drew _) ?_
  refine Dr.val 0 rfl rfl rfl rfl (by kernel_rfl) rfl (Val.move rfl) ?_
  refine Dr.val 1 rfl rfl rfl rfl (by kernel_rfl) rfl (Val.move rfl) ?_
  refine Dr.val 2 rfl rfl rfl rfl (by kernel_rfl) rfl (Val.shrN 3840 (Ox.size n) rfl rfl rfl rfl (by simp [IntKind.bits]; omega)) ?_
  refine Dr.val 3 rfl rfl rfl rfl (by kernel_rfl) rfl (V.conv rfl rfl rfl) ?_
  refine Dr.val 4 rfl rfl rfl rfl (by kernel_rfl) rfl (Val.move rfl) ?_
  refine Dr.val 5 rfl rfl rfl rfl (by kernel_rfl) rfl (Val.move rfl) ?_
  refine Dr.val 6 rfl rfl rfl rfl (by kernel_rfl) rfl (Val.sub rfl rfl (by omega) (by omega)) ?_
  refine Dr.val 7 rfl rfl rfl rfl (by kernel_rfl) rfl (Val.mul rfl rfl (by omega) (by omega)) ?_
  refine Dr.val 8 rfl rfl rfl rfl (by kernel_rfl) rfl (Val.shrN n (6 * (Ox.size n - 1)) rfl rfl rfl (by omega) (by simp [IntKind.bits]; omega)) ?_
  refine Dr.val 9 rfl rfl rfl rfl (by kernel_rfl) rfl (V.conv rfl rfl rfl) ?_
  refine Dr.val 10 rfl rfl rfl rfl (by kernel_rfl) rfl (Val.or8 (3840 / 2 ^ Ox.size n % 256) (n / 2 ^ (6 * (Ox.size n - 1)) % 256) rfl rfl (wrap_u8_nat _) (wrap_u8_nat _) (by omega) (by omega)) ?_
  refine Dr.next (e := 11) rfl rfl (by kernel_rfl) rfl (by kernel_rfl) (by kernel_rfl) rfl rfl (E.buildSlice1 rfl rfl rfl rfl) aokK fun _ => Dr.ex fun _ => Dr.pure ?_
  rintro rfl
  refine Dr.next (e := 12) rfl rfl (by kernel_rfl) rfl (by kernel_rfl) (by kernel_rfl) rfl rfl (E.append1 0 rfl rfl rfl rfl rfl rfl (by omega) (by omega)) aokK fun v' => ?_
  refine Dr.pure fun hv' => ?_
  refine Dr.val 13 rfl rfl rfl rfl (by kernel_rfl) rfl (Val.assign rfl) ?_
  refine Dr.done (by kernel_rfl) (by kernel_rfl) ?_
  refine goK _ ?_
  refine At.loop3 (fun (m : Nat) (u : Value) (_ : List Value) => [(0, u), (1, .int .i64 (n : Int)), (6, .int .i64 ((m : Int) - 1))])
    (fun (m : Nat) (u : Value) (ys : List Value) w => (ys ++ (Ox.cont n m).map B = xs ++ (Ox.enc n).map B ∧ m ≤ 3 ∧ m < Ox.size n ∧ u ≠ .slice none 0 0) ∧ Mem c [row 5 1 u (N + (Ox.size n - m)) ys] h w) (fun (m : Nat) (_ : Value) (_ : List Value) => m)
    (Ox.size n - 1) v' (xs ++ [B (Ox.lead n (Ox.size n))]) ⟨rfl, rfl, ?_, trivial⟩ (fun w hw => ⟨⟨?_, by omega, by omega, hv'⟩, ?_⟩) (fun m u ys => At.pure fun ⟨hy, hm, hm', hu⟩ => ?_)
  · exact congrArg (fun z => some (Value.int .i64 z)) (by omega)
  · simp [Ox.enc]
  · have e1 : N + (Ox.size n - (Ox.size n - 1)) = N + 1 := by omega
    have e2 : 3840 / 2 ^ Ox.size n % 256 ||| n / 2 ^ (6 * (Ox.size n - 1)) % 256 = (Ox.lead n (Ox.size n)).toNat := lead_bits n hn' (by omega)
    rw [e1, B, ← e2]; exact hw
  refine goK _ ?_
  refine At.condP rfl (fun h2 => ?_) (fun h2 => ?_)
  · obtain ⟨m, rfl⟩ : ∃ m', m = m' + 1 := ⟨m - 1, by omega⟩
    refine goK _ ?_
    refine Ops.val rfl rfl rfl (Val.mul rfl rfl (by omega) (by omega)) ?_
    refine Ops.val rfl rfl rfl (Val.shrN n (6 * m) rfl rfl rfl (by omega) (by simp [IntKind.bits]; omega)) ?_
    refine goK _ ?_
    refine Ops.val rfl rfl rfl (Val.and8 (n / 2 ^ (6 * m) % 256) 63 rfl rfl (wrap_u8_nat _) rfl (by omega) (by omega)) ?_
    refine Ops.val rfl rfl rfl (Val.or8 128 (n / 2 ^ (6 * m) % 256 &&& 63) rfl rfl rfl rfl (by omega) (Nat.lt_of_le_of_lt Nat.and_le_right (by omega))) ?_
    refine Ops.eff rfl rfl rfl (E.buildSlice1 rfl rfl rfl rfl) fun _ => Ops.ex fun _ => Ops.pure ?_
    rintro rfl
    refine Ops.eff rfl rfl rfl (E.append1 0 rfl rfl rfl rfl rfl rfl (by omega) (by omega)) fun v' => Ops.pure fun hv' => ?_
    refine goK _ ?_
    refine At.back3 m v' (ys ++ [B (UInt8.ofNat (128 + n / 2 ^ (6 * m) % 64))]) (Nat.lt_succ_self m) ⟨rfl, rfl, ?_, trivial⟩ (fun w hw => ⟨⟨?_, by omega, by omega, hv'⟩, ?_⟩)
    · exact congrArg (fun z => some (Value.int .i64 z)) (by omega)
    · rw [← hy]; simp [Ox.cont]
    · have e1 : N + (Ox.size n - m) = N + (Ox.size n - (m + 1)) + 1 := by omega
      have e2 : 128 ||| (n / 2 ^ (6 * m) % 256 &&& 63) = (UInt8.ofNat (128 + n / 2 ^ (6 * m) % 64)).toNat := cont_bits _
      rw [e1, B, ← e2]; exact hw
  · obtain rfl : m = 0 := by omega
    refine goK _ ?_
    refine At.ret1 Tryz.results157 (Res.tmp rfl) (List.Sublist.refl _) ⟨?_, hu, rfl⟩
    rw [Ox.enc_length, Nat.sub_zero, ← hy]; simp [Ox.cont]

namespace Ox
/-- how many bytes begin so -/
def wide (b : Nat) : Nat := if b < 128 then 1 else if b / 32 = 6 then 2 else if b / 16 = 14 then 3 else if b / 8 = 30 then 4 else 0
/-- the number that continues -/
def fold (n : Nat) : List UInt8 → Option Nat
  | [] => some n
  | b :: r => if b.toNat / 64 = 2 then fold (n * 64 + b.toNat % 64) r else none
/-- what k bytes with a number come to -/
def fin (k : Nat) : Option Nat → Nat × Nat
  | none => (0, 0)
  | some n => if size n = k ∧ isPoint n = true then (n, k) else (0, 0)
/-- the code point with which a text begins, and its bytes; 0: none does -/
def take : List UInt8 → Nat × Nat
  | [] => (0, 0)
  | b :: r => if b.toNat < 128 then (b.toNat, 1) else
    if wide b.toNat = 0 ∨ r.length + 1 < wide b.toNat then (0, 0) else
    fin (wide b.toNat) (fold (b.toNat % 2 ^ (7 - wide b.toNat)) (r.take (wide b.toNat - 1)))
end Ox
theorem byte_lt (b : UInt8) : b.toNat < 256 := by have := b.toNat_lt; omega
theorem take_does (b : UInt8) (r : List UInt8) (h : HV) :
    Does Tryz.prog 189 #[str (b :: r)] [] h (Just h (· = .tuple #[.int .i64 ((Ox.take (b :: r)).1 : Int), .int .i64 ((Ox.take (b :: r)).2 : Int)])) := by
  have hb := byte_lt b
  refine Does.of Tryz.func189 rfl Tryz.ntmps189 rfl fun c hc0 => ?_
  repeat (first | refine Ops.val rfl rfl rfl (V.indexstr (i := 0) (b := b) rfl rfl rfl rfl) ?_ | refine goS _ ?_)
  refine At.condP rfl (fun h1 => ?_) (fun h1 => ?_)
  · refine goK _ ?_
    refine At.ret2 Tryz.results189 (Res.tmp rfl) (Res.tmp rfl) (List.Sublist.refl _) ⟨?_, rfl, rfl⟩
    have h1' : b.toNat < 128 := by omega
    simp only [Ox.take, if_pos h1', wrap_i64_nat (show b.toNat < 9223372036854775808 by omega)]; rfl
  repeat (first | refine Ops.val rfl rfl rfl (Val.shrN b.toNat 5 rfl rfl rfl rfl (by decide)) ?_ | refine goS _ ?_)
  refine At.join 5 (.int .i64 (Ox.wide b.toNat : Int)) [0, 4] ?_ (fun main => ?_)
  rotate_left
  · refine At.condP rfl (fun h2 => ?_) (fun h2 => ?_)
    · refine At.region ?_
      refine opsK _ ?_
      refine Ops.nil ?_
      exact main.sub ⟨congrArg (fun z => some (Value.int .i64 z)) (by unfold Ox.wide; rw [if_neg (by omega), if_pos (by omega)]; rfl), rfl, rfl, trivial⟩
    refine At.seq ?_
    refine At.region ?_
    repeat (first | refine Ops.val rfl rfl rfl (Val.shrN b.toNat 4 rfl rfl rfl rfl (by decide)) ?_ | refine opS _ ?_)
    refine Ops.nil ?_
    refine At.condP rfl (fun h3 => ?_) (fun h3 => ?_)
    · refine At.region ?_
      refine opsK _ ?_
      refine Ops.nil ?_
      exact main.sub ⟨congrArg (fun z => some (Value.int .i64 z)) (by unfold Ox.wide; rw [if_neg (by omega), if_neg (by omega), if_pos (by omega)]; rfl), rfl, rfl, trivial⟩
    refine At.seq ?_
    refine At.region ?_
    repeat (first | refine Ops.val rfl rfl rfl (Val.shrN b.toNat 3 rfl rfl rfl rfl (by decide)) ?_ | refine opS _ ?_)
    refine Ops.nil ?_
    refine At.condP rfl (fun h4 => ?_) (fun h4 => ?_)
    · refine At.region ?_
      refine opsK _ ?_
      refine Ops.nil ?_
      exact main.sub ⟨congrArg (fun z => some (Value.int .i64 z)) (by unfold Ox.wide; rw [if_neg (by omega), if_neg (by omega), if_neg (by omega), if_pos (by omega)]; rfl), rfl, rfl, trivial⟩
    refine At.skip ?_
    exact main.sub ⟨congrArg (fun z => some (Value.int .i64 z)) (by unfold Ox.wide; rw [if_neg (by omega), if_neg (by omega), if_neg (by omega), if_neg (by omega)]; rfl), rfl, rfl, trivial⟩
  generalize hk : Ox.wide b.toNat = k
  have hk4 : k ≤ 4 ∧ k ≠ 1 := by subst hk; unfold Ox.wide; split <;> (try split) <;> (try split) <;> (try split) <;> omega
  refine goK _ ?_
  refine Ops.forkR 34 (.bool (decide (k = 0 ∨ r.length + 1 < k))) [0, 4, 5] ?_ (fun main => ?_)
  rotate_left
  · repeat' (first
      | refine opS _ ?_
      | refine Ops.gsplit rfl rfl (fun hb => ?_) (fun hb => ?_)
      | refine Ops.psplit rfl (fun hb => ?_) (fun hb => ?_))
    all_goals (refine Ops.nil ?_; refine main.sub ⟨congrArg (fun b => some (Value.bool b)) ?_, (by repeat (first | exact trivial | refine ⟨rfl, ?_⟩))⟩; clear main; (rw [Bool.eq_iff_iff]; simp at *; omega))
  have hnot : ¬ b.toNat < 128 := by omega
  refine At.condP rfl (fun h2 => ?_) (fun h2 => ?_)
  · refine goK _ ?_
    refine At.ret2 Tryz.results189 (Res.tmp rfl) (Res.tmp rfl) (List.Sublist.refl _) ⟨?_, rfl, rfl⟩
    simp only [Ox.take, if_neg hnot, hk, if_pos h2]; rfl
  have ht : Ox.take (b :: r) = Ox.fin k (Ox.fold (b.toNat % 2 ^ (7 - k)) (r.take (k - 1))) := by simp only [Ox.take, if_neg hnot, hk, if_neg h2]
  refine goK _ ?_
  refine Ops.val rfl rfl rfl (Val.shrN 127 k rfl rfl rfl rfl (by simp [IntKind.bits]; omega)) ?_
  refine Ops.val rfl rfl rfl (Val.and8 b.toNat (127 / 2 ^ k) rfl rfl rfl rfl hb (Nat.lt_of_le_of_lt (Nat.div_le_self _ _) (by decide))) ?_
  refine goK _ ?_
  refine At.loop2 (fun (i : Nat) (m : Nat) => [(0, str (b :: r)), (5, .int .i64 (k : Int)), (6, .int .i64 (m : Int)), (7, .int .i64 (i : Int))])
    (fun (i : Nat) (m : Nat) w => (1 ≤ i ∧ i ≤ k ∧ m < 128 * 64 ^ (i - 1) ∧ Ox.fold m ((r.drop (i - 1)).take (k - i)) = Ox.fold (b.toNat % 2 ^ (7 - k)) (r.take (k - 1))) ∧ Mem c [] h w) (fun (i : Nat) (_ : Nat) => k - i)
    1 (b.toNat &&& 127 / 2 ^ k) ⟨rfl, rfl, ?_, rfl, trivial⟩ (fun w hw => ⟨⟨by omega, by omega, ?_, ?_⟩, hw⟩) (fun i m => At.pure fun ⟨hi1, hik, hm, hf⟩ => ?_)
  · exact congrArg (fun z => some (Value.int .i64 z)) (wrap_i64_nat (Nat.lt_of_le_of_lt Nat.and_le_left (by omega)))
  · exact Nat.lt_of_le_of_lt Nat.and_le_right (by simp; exact Nat.lt_of_le_of_lt (Nat.div_le_self _ _) (by omega))
  · simp only [Nat.sub_self, List.drop_zero]
    congr 1
    rcases (by omega : k = 2 ∨ k = 3 ∨ k = 4) with rfl | rfl | rfl
    · exact Nat.and_two_pow_sub_one_eq_mod b.toNat 5
    · exact Nat.and_two_pow_sub_one_eq_mod b.toNat 4
    · exact Nat.and_two_pow_sub_one_eq_mod b.toNat 3
  have hm2 : m < 33554432 := by
    rcases (by omega : i = 1 ∨ i = 2 ∨ i = 3 ∨ i = 4) with rfl | rfl | rfl | rfl <;> simp at hm <;> omega
  refine goK _ ?_
  refine At.condP rfl (fun h3 => ?_) (fun h3 => ?_)
  · have hik' : i < k := by omega
    have hilt : i - 1 < r.length := by omega
    have hget : (b :: r)[i]? = some r[i - 1] := by
      obtain ⟨j, rfl⟩ : ∃ j, i = j + 1 := ⟨i - 1, by omega⟩
      simp [List.getElem?_eq_getElem (show j < r.length by omega)]
    have hd : (r.drop (i - 1)).take (k - i) = r[i - 1] :: (r.drop i).take (k - (i + 1)) := by
      rw [List.drop_eq_getElem_cons hilt, show k - i = (k - (i + 1)) + 1 from by omega, List.take_succ_cons, show i - 1 + 1 = i from by omega]
    generalize hx : r[i - 1] = x at *
    have hxb := byte_lt x
    repeat (first | refine Ops.val rfl rfl rfl (V.indexstr (b := x) rfl rfl rfl hget) ?_ | refine Ops.val rfl rfl rfl (Val.shrN x.toNat 6 rfl rfl rfl rfl (by decide)) ?_ | refine goS _ ?_)
    refine At.condN rfl (fun h4 => ?_) (fun h4 => ?_)
    · refine goK _ ?_
      refine At.ret2 Tryz.results189 (Res.tmp rfl) (Res.tmp rfl) (List.Sublist.refl _) ⟨?_, rfl, rfl⟩
      have : ¬ x.toNat / 64 = 2 := by omega
      rw [ht, ← hf, hd]; simp only [Ox.fold, if_neg this]; rfl
    have h4' : x.toNat / 64 = 2 := by omega
    repeat (first | refine Ops.val rfl rfl rfl (V.indexstr (b := x) rfl rfl rfl hget) ?_ | refine Ops.val rfl rfl rfl (Val.shlN m 6 rfl rfl rfl rfl (by decide) (by omega)) ?_ | refine Ops.val rfl rfl rfl (Val.and8 x.toNat 63 rfl rfl rfl rfl (by omega) (by decide)) ?_ | refine Ops.val rfl rfl rfl (Val.or64 (m * 2 ^ 6) (x.toNat &&& 63) rfl rfl rfl (wrap_i64_nat (Nat.lt_of_le_of_lt Nat.and_le_left (by omega))) (by omega) (Nat.lt_of_le_of_lt Nat.and_le_left (by omega))) ?_ | refine goS _ ?_)
    have hor : (m * 2 ^ 6 ||| (x.toNat &&& 63)) = m * 64 + x.toNat % 64 := by
      have h1 : x.toNat &&& 63 = x.toNat % 64 := Nat.and_two_pow_sub_one_eq_mod x.toNat 6
      rw [h1, Nat.mul_comm, Nat.two_pow_add_eq_or_of_lt (i := 6) (Nat.mod_lt _ (by decide)) m |>.symm]
    refine At.back2 (i + 1) (m * 2 ^ 6 ||| (x.toNat &&& 63)) (by omega) ⟨rfl, rfl, rfl, rfl, trivial⟩ (fun w hw => ⟨⟨by omega, by omega, ?_, ?_⟩, hw⟩)
    · rw [hor]
      obtain ⟨j, rfl⟩ : ∃ j, i = j + 1 := ⟨i - 1, by omega⟩
      simp only [Nat.add_sub_cancel] at hm ⊢
      have := Nat.mod_lt x.toNat (show 0 < 64 by decide)
      rw [Nat.pow_succ]; omega
    · rw [hor, ← hf, hd, Nat.add_sub_cancel]; simp only [Ox.fold, if_pos h4']
  obtain rfl : k = i := by omega
  simp only [Nat.sub_self, List.take_zero, Ox.fold] at hf
  rw [← hf] at ht
  refine goK _ ?_
  refine Ops.eff rfl rfl rfl (Eff.call (fn (by kernel_rfl)) rfl (Ωc := []) rfl (size_does m h)) fun _ => Ops.ex fun _ => Ops.ex fun _ => Ops.pure ?_
  rintro ⟨rfl, rfl, rfl⟩
  refine goK _ ?_
  refine Ops.forkR 66 (.bool (!decide (Ox.size m = k ∧ Ox.isPoint m = true))) [0, 5, 6] ?_ (fun main => ?_)
  rotate_left
  · refine Ops.gsplit rfl rfl (fun hb => ?_) (fun hb => ?_)
    · have hb : Ox.size m ≠ k := by simp at hb; omega
      refine opsK _ ?_
      refine Ops.nil ?_
      exact main.sub ⟨congrArg (fun b => some (Value.bool b)) (by simp [hb]), rfl, rfl, rfl, trivial⟩
    have hb : Ox.size m = k := by simp at hb; omega
    repeat (first | refine Ops.val rfl rfl rfl (Val.move rfl) ?_)
    refine Ops.eff rfl rfl rfl (Eff.call (fn (by kernel_rfl)) rfl (Ωc := []) rfl (isPoint_does m h)) fun _ => Ops.ex fun _ => Ops.ex fun _ => Ops.pure ?_
    rintro ⟨rfl, rfl, rfl⟩
    refine opsK _ ?_
    refine Ops.nil ?_
    exact main.sub ⟨congrArg (fun b => some (Value.bool b)) (by simp [hb]), rfl, rfl, rfl, trivial⟩
  refine At.condN rfl (fun h4 => ?_) (fun h4 => ?_)
  · refine goK _ ?_
    refine At.ret2 Tryz.results189 (Res.tmp rfl) (Res.tmp rfl) (List.Sublist.refl _) ⟨?_, rfl, rfl⟩
    rw [ht]; simp only [Ox.fin, if_neg h4]; rfl
  refine goK _ ?_
  refine At.ret2 Tryz.results189 (Res.tmp rfl) (Res.tmp rfl) (List.Sublist.refl _) ⟨?_, rfl, rfl⟩
  rw [ht]; simp only [Ox.fin, if_pos h4]
end Go.Proofs.YthjgbmbaabpgmaaGreat
/-
  Code points: what Points, Text, Len and Cut do.
-/
namespace Go.Proofs.YthjgbmbaabpgmaaGreat
open Go.Sy
set_option maxRecDepth 4000
set_option maxHeartbeats 4000000
attribute [local irreducible] At Ops Val Eff Does Res Dr
namespace Ox
theorem take_le (s : List UInt8) : (take s).2 ≤ s.length := by
  cases s with
  | nil => simp [take]
  | cons b r =>
    simp only [take]
    split
    · simp
    · split
      · simp
      · rename_i h
        unfold fin
        split
        · simp
        · split
          · simp; omega
          · simp
/-- the code points of a text; none: it is no valid UTF-8 -/
def points (s : List UInt8) : Option (List Nat) :=
  match s with
  | [] => some []
  | b :: r => if _h : (take (b :: r)).2 = 0 then none else (points ((b :: r).drop (take (b :: r)).2)).map ((take (b :: r)).1 :: ·)
termination_by s.length
decreasing_by simp; omega
theorem points_cons (b : UInt8) (r : List UInt8) : points (b :: r) = if (take (b :: r)).2 = 0 then none else (points ((b :: r).drop (take (b :: r)).2)).map ((take (b :: r)).1 :: ·) := by
  rw [points]; rfl
end Ox
/-- numbers in memory -/
def ints (l : List Nat) : List Value := l.map fun (n : Nat) => .int .i64 (n : Int)
theorem ints_length (l : List Nat) : (ints l).length = l.length := by simp [ints]
def IntsH (h : HV) (v : Value) (l : List Nat) : Prop := SlH h v 1 l.length (ints l)
/-- what Points gives -/
def PointsPost (h : HV) (o : Option (List Nat)) : Value → List Itm → HV → Prop := fun v Ω' h' => Ω' = [] ∧ HV.le h h' ∧ match o with
  | some l => ∃ u, v = .tuple #[u, .bool true] ∧ IntsH h' u l
  | none => v = .tuple #[.slice none 0 0, .bool false]

theorem points_does (s : List UInt8) (hs : s.length ≤ 100000000000) (h : HV) : Does Tryz.prog 145 #[str s] [] h (PointsPost h (Ox.points s)) := by
  refine Does.of Tryz.func145 rfl Tryz.ntmps145 rfl fun c hc0 => ?_
  refine goK _ ?_
  refine At.row_nil 3 1 ?_
  refine At.loop3 (fun (r : List UInt8) (v : Value) (_ : List Nat) => [(0, str r), (4, v)])
    (fun (r : List UInt8) (v : Value) (acc : List Nat) w => (acc.length + r.length ≤ s.length ∧ Ox.points s = (Ox.points r).map (acc ++ ·)) ∧ Mem c [row 3 1 v acc.length (ints acc)] h w) (fun (r : List UInt8) (_ : Value) (_ : List Nat) => r.length)
    s (.slice none 0 0) [] ⟨rfl, rfl, trivial⟩ (fun w hw => ⟨⟨by simp, by simp⟩, hw⟩) (fun r v acc => At.pure fun ⟨hr, hp⟩ => ?_)
  refine goK _ ?_
  refine At.condN rfl (fun h1 => ?_) (fun h1 => ?_)
  · obtain ⟨b, r, rfl⟩ : ∃ b r', r = b :: r' := by cases r with | nil => exact absurd rfl h1 | cons b r => exact ⟨b, r, rfl⟩
    have htl := Ox.take_le (b :: r)
    have hpc := Ox.points_cons b r
    simp only [List.length_cons] at hr
    refine goK _ ?_
    refine Ops.eff rfl rfl rfl (Eff.call (fn (by kernel_rfl)) rfl (Ωc := []) rfl (take_does b r h)) fun _ => Ops.ex fun _ => Ops.ex fun _ => Ops.pure ?_
    rintro ⟨rfl, rfl, rfl⟩
    refine goK _ ?_
    refine At.condP rfl (fun h2 => ?_) (fun h2 => ?_)
    · refine goK _ ?_
      refine At.ret2 Tryz.results145 (Res.tmp rfl) (Res.tmp rfl) (List.nil_sublist _) ⟨rfl, HV.le.refl h, ?_⟩
      rw [hp, hpc, if_pos (by omega)]; rfl
    have hk : ¬ (Ox.take (b :: r)).2 = 0 := by omega
    rw [if_neg hk] at hpc
    generalize hn : (Ox.take (b :: r)).1 = n at *
    generalize hk' : (Ox.take (b :: r)).2 = k at *
    refine goK _ ?_
    refine Ops.eff rfl rfl rfl (E.buildSlice1 rfl rfl rfl rfl) fun _ => Ops.ex fun _ => Ops.pure ?_
    rintro rfl
    refine Ops.eff rfl rfl rfl (E.append1 0 rfl rfl rfl rfl rfl rfl (by omega) (by omega)) fun v' => Ops.pure fun hv' => ?_
    repeat (first | refine Ops.val rfl rfl rfl (V.slicestr_from rfl rfl rfl (by simpa using htl)) ?_ | refine goS _ ?_)
    refine At.back3 ((b :: r).drop k) v' (acc ++ [n]) (by simp; omega) ⟨rfl, rfl, trivial⟩ (fun w hw => ⟨⟨by simp; omega, ?_⟩, ?_⟩)
    · rw [hp, hpc]; simp [Option.map_map, Function.comp_def]
    · simp only [ints, List.length_append, List.map_append] at hw ⊢; exact hw
  subst h1
  refine goK _ ?_
  refine At.publish_row 0 rfl fun h' hle hsl => ?_
  refine At.ret2 Tryz.results145 (Res.tmp rfl) (Res.tmp rfl) (List.nil_sublist _) ⟨rfl, hle, ?_⟩
  rw [hp]; simp only [Ox.points, Option.map_some, List.append_nil]
  exact ⟨v, rfl, hsl⟩

namespace Ox
def encs (l : List Nat) : List UInt8 := l.flatMap enc
theorem encs_snoc (l : List Nat) (n : Nat) : encs (l ++ [n]) = encs l ++ enc n := by simp [encs]
theorem encs_length (l : List Nat) : (encs l).length ≤ 4 * l.length := by
  induction l with
  | nil => simp [encs]
  | cons n r ih => have := size_pos n; simp only [encs, List.flatMap_cons, List.length_append, enc_length, List.length_cons] at *; omega
end Ox

theorem Text_does (u : Value) (l : List Nat) (hl : ∀ n ∈ l, Ox.isPoint n = true) (hlen : l.length ≤ 10000000000) (h : HV) (hu : IntsH h u l) :
    Does Tryz.prog 125 #[u] [] h (Just h (· = .tuple #[str (Ox.encs l), .bool true])) := by
  obtain ⟨a, cp, rfl⟩ := hu.form
  refine Does.of Tryz.func125 rfl Tryz.ntmps125 rfl fun c hc0 => ?_
  refine goK _ ?_
  refine At.row_nil 5 1 ?_
  refine At.loop2 (fun (i : Nat) (v : Value) => [(4, v), (7, .slice a l.length cp), (8, .int .i64 (l.length : Int)), (9, .int .i64 (i : Int))])
    (fun (i : Nat) (v : Value) w => i ≤ l.length ∧ Mem c [row 5 1 v (Ox.encs (l.take i)).length ((Ox.encs (l.take i)).map B)] h w) (fun (i : Nat) (_ : Value) => l.length - i)
    0 (.slice none 0 0) ⟨rfl, rfl, rfl, rfl, trivial⟩ (fun w hw => ⟨by simp, hw⟩) (fun i v => At.pure fun hi => ?_)
  refine goK _ ?_
  refine At.condP rfl (fun h1 => ?_) (fun h1 => ?_)
  · have hlt : i < l.length := by omega
    obtain ⟨b, o, rfl, _, _, hc⟩ := SlH.get hu (i := i) (u := .int .i64 (l[i] : Int)) (by simp [ints, hlt])
    have hts : l.take (i + 1) = l.take i ++ [l[i]] := by rw [List.take_succ_eq_append_getElem hlt]
    have hp := hl l[i] (by simp)
    have hel := Ox.encs_length (l.take i)
    have hen := Ox.enc_length l[i]
    have hsz := Ox.size_pos l[i]
    rw [List.length_take, Nat.min_eq_left hi] at hel
    generalize l[i] = n at *
    repeat (first | refine Ops.val rfl rfl rfl (V.indexAddr rfl rfl rfl rfl hlt) ?_ | refine Ops.val rfl rfl rfl (V.loadH rfl rfl hc) ?_ | refine goS _ ?_)
    refine Ops.eff rfl rfl rfl (Eff.call (fn (by kernel_rfl)) rfl (Ωc := []) rfl (isPoint_does n h)) fun _ => Ops.ex fun _ => Ops.ex fun _ => Ops.pure ?_
    rintro ⟨rfl, rfl, rfl⟩
    refine goK _ ?_
    refine At.cond rfl (fun h2 => ?_) (fun h2 => ?_)
    · rw [hp] at h2; cases h2
    refine goK _ ?_
    refine Ops.eff rfl rfl rfl (Eff.call (fn (by kernel_rfl)) rfl (Ωc := [row 5 1 v (Ox.encs (l.take i)).length ((Ox.encs (l.take i)).map B)]) rfl (put_does n hp v _ _ (by omega) h)) fun _ => Ops.ex fun _ => Ops.ex fun _ => Ops.pure ?_
    rintro ⟨rfl, hne, rfl⟩
    refine goK _ ?_
    refine At.back2 (i + 1) _ (by omega) ⟨rfl, rfl, rfl, rfl, trivial⟩ (fun w hw => ⟨by omega, ?_⟩)
    rw [hts, Ox.encs_snoc, List.length_append, List.map_append]; exact hw
  have : i = l.length := by omega
  subst this
  rw [List.take_length]
  repeat (first | refine Ops.val rfl rfl rfl (Val.strbytes (j := 0) (by exact sl rfl) (by exact ik rfl) (by exact st rfl) rfl rfl) ?_ | refine goS _ ?_)
  exact At.ret2 Tryz.results125 (Res.tmp rfl) (Res.tmp rfl) (List.nil_sublist _) ⟨rfl, rfl, rfl⟩

namespace Ox
/-- how many code points a text has; -1: it is not valid -/
def tlen (s : List UInt8) : Int := match points s with | some l => (l.length : Int) | none => -1
end Ox

theorem Len_does (s : List UInt8) (hs : s.length ≤ 100000000000) (h : HV) : Does Tryz.prog 105 #[str s] [] h (Just h (· = .int .i64 (Ox.tlen s))) := by
  refine Does.of Tryz.func105 rfl Tryz.ntmps105 rfl fun c hc0 => ?_
  refine goK _ ?_
  refine Ops.eff rfl rfl rfl (Eff.call (fn (by kernel_rfl)) rfl (Ωc := []) rfl (points_does s hs h)) fun _ => Ops.ex fun _ => Ops.ex fun h' => Ops.pure ?_
  rintro ⟨rfl, hle, hp⟩
  cases hq : Ox.points s with
  | none =>
    rw [hq] at hp
    obtain rfl := hp
    refine goK _ ?_
    refine At.forget hle hc0 ?_
    exact At.ret1 Tryz.results105 (Res.tmp rfl) (List.Sublist.refl _) ⟨by simp [Ox.tlen, hq], rfl, rfl⟩
  | some l =>
    rw [hq] at hp
    obtain ⟨u, rfl, hu⟩ := hp
    obtain ⟨a, cp, rfl⟩ := hu.form
    refine goK _ ?_
    refine At.forget hle hc0 ?_
    exact At.ret1 Tryz.results105 (Res.tmp rfl) (List.Sublist.refl _) ⟨by simp [Ox.tlen, hq], rfl, rfl⟩

/-- a part of numbers in memory -/
theorem IntsH.part {h : HV} {a : Option Addr} {cp : Nat} {l : List Nat} (hu : IntsH h (.slice a l.length cp) l) (i j : Nat) (hij : i ≤ j) (hj : j ≤ l.length) (b : Addr) (hb : a = some b) :
    IntsH h (.slice (some (off cp i b 1)) (j - i) (cp - i)) ((l.drop i).take (j - i)) := by
  have := SlH.part hu i j hij hj b hb
  simp only [Nat.mul_one] at this
  have hlen : ((l.drop i).take (j - i)).length = j - i := by rw [List.length_take, List.length_drop]; omega
  unfold IntsH
  rw [hlen]
  have e : ints ((l.drop i).take (j - i)) = ((ints l).drop i).take (j - i) := by simp [ints, List.map_take, List.map_drop]
  rw [e]; exact this

theorem Cut_does (s : List UInt8) (hs : s.length ≤ 10000000000) (l : List Nat) (hp : Ox.points s = some l) (hl : ∀ n ∈ l, Ox.isPoint n = true) (hln : l.length ≤ s.length) (i j : Nat) (hij : i ≤ j) (hj : j ≤ l.length) (h : HV) :
    Does Tryz.prog 210 #[str s, .int .i64 (i : Int), .int .i64 (j : Int)] [] h (Just h (· = .tuple #[str (Ox.encs ((l.drop i).take (j - i))), .int .i64 0])) := by
  refine Does.of Tryz.func210 rfl Tryz.ntmps210 rfl fun c hc0 => ?_
  refine goK _ ?_
  refine Ops.eff rfl rfl rfl (Eff.call (fn (by kernel_rfl)) rfl (Ωc := []) rfl (points_does s (by omega) h)) fun _ => Ops.ex fun _ => Ops.ex fun h' => Ops.pure ?_
  rintro ⟨rfl, hle, hq⟩
  rw [hp] at hq
  obtain ⟨u, rfl, hu⟩ := hq
  obtain ⟨a, cp, rfl⟩ := hu.form
  refine goK _ ?_
  refine Ops.forkR 20 (.bool (false)) [1, 2, 8] ?_ (fun main => ?_)
  rotate_left
  · repeat' (first
      | refine opS _ ?_
      | refine Ops.gsplit rfl rfl (fun hb => ?_) (fun hb => ?_)
      | refine Ops.psplit rfl (fun hb => ?_) (fun hb => ?_))
    all_goals (refine Ops.nil ?_; refine main.sub ⟨congrArg (fun b => some (Value.bool b)) ?_, (by repeat (first | exact trivial | refine ⟨rfl, ?_⟩))⟩; clear main; (rw [Bool.eq_iff_iff]; simp at *; omega))
  refine goK _ ?_
  have fin : ∀ (x : Value), IntsH h' x ((l.drop i).take (j - i)) → Does Tryz.prog 125 #[x] [] h' (Just h' (· = .tuple #[str (Ox.encs ((l.drop i).take (j - i))), .bool true])) := fun x hx =>
    Text_does x _ (fun n hn => hl n (List.mem_of_mem_drop (List.mem_of_mem_take hn))) (by rw [List.length_take, List.length_drop]; omega) h' hx
  have hcap : j ≤ cp := by
    rcases hu.2 with ⟨e, e'⟩ | ⟨_, _, _, e, hc, _⟩
    · omega
    · simp only [Value.slice.injEq] at e; omega
  cases a with
  | none =>
    have hl0 : l.length = 0 ∧ cp = 0 := by
      rcases hu.2 with ⟨e, e'⟩ | ⟨_, _, _, e, hc, _⟩
      · obtain ⟨_, e⟩ := e; simp only [Value.slice.injEq] at e; exact ⟨e', e.2.2⟩
      · simp at e
    obtain ⟨hl0, rfl⟩ := hl0
    have : l = [] := List.length_eq_zero_iff.1 hl0
    subst this
    obtain rfl : j = 0 := by simpa using hj
    obtain rfl : i = 0 := by omega
    refine Ops.val rfl rfl rfl (V.slice0 rfl rfl rfl rfl rfl) ?_
    refine goK _ ?_
    refine Ops.eff rfl rfl rfl (Eff.call (fn (by kernel_rfl)) rfl (Ωc := []) rfl (fin _ (SlH.nil h' 1))) fun _ => Ops.ex fun _ => Ops.ex fun _ => Ops.pure ?_
    rintro ⟨rfl, rfl, rfl⟩
    refine goK _ ?_
    refine At.forget hle hc0 ?_
    exact At.ret2 Tryz.results210 (Res.tmp rfl) (Res.tmp rfl) (List.Sublist.refl _) ⟨rfl, rfl, rfl⟩
  | some b =>
    repeat (first | refine Ops.val rfl rfl rfl (V.slice rfl rfl rfl rfl rfl hij hcap) ?_ | refine goS _ ?_)
    refine Ops.eff rfl rfl rfl (Eff.call (fn (by kernel_rfl)) rfl (Ωc := []) rfl (fin _ (IntsH.part hu i j hij hj b rfl))) fun _ => Ops.ex fun _ => Ops.ex fun _ => Ops.pure ?_
    rintro ⟨rfl, rfl, rfl⟩
    refine goK _ ?_
    refine At.forget hle hc0 ?_
    exact At.ret2 Tryz.results210 (Res.tmp rfl) (Res.tmp rfl) (List.Sublist.refl _) ⟨rfl, rfl, rfl⟩
end Go.Proofs.YthjgbmbaabpgmaaGreat
