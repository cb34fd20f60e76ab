/-
  Code points and bytes, there and back. No program.
-/
import Derived.Test.YthjgbmbaabpgmaaGreatSrd10
import Derived.Test.YthjgbmbaabpgmaaGreatSrd05
set_option linter.unusedVariables false
set_option linter.unusedSimpArgs false
set_option linter.unusedSectionVars false
namespace Go.Proofs.YthjgbmbaabpgmaaGreat.Ox
set_option maxRecDepth 4000

theorem ofNat_eq {b : UInt8} {x : Nat} (h : x = b.toNat) : UInt8.ofNat x = b := by subst h; simp

theorem byte_ofNat {x : Nat} (h : x < 256) : (UInt8.ofNat x).toNat = x := by simp; omega

theorem fold_cons {n : Nat} {b : UInt8} {r : List UInt8} (h : b.toNat / 64 = 2) : fold n (b :: r) = fold (n * 64 + b.toNat % 64) r := by simp only [fold, if_pos h]

theorem isPoint_le {n : Nat} (h : isPoint n = true) : n ≤ 1114111 := by simp [isPoint] at h; omega

theorem take_enc {n : Nat} (h : isPoint n = true) (r : List UInt8) : take (enc n ++ r) = (n, size n) := by
  have hn := isPoint_le h
  rcases size_cases n with ⟨hs, h1⟩ | ⟨hs, h1, h2⟩ | ⟨hs, h1, h2⟩ | ⟨hs, h1⟩
  · simp only [enc, hs, cont, lead, Nat.sub_self, if_true, List.cons_append, List.nil_append, take]
    rw [byte_ofNat (by omega), if_pos h1]
  · have hb : (UInt8.ofNat (192 + n / 64)).toNat = 192 + n / 64 := byte_ofNat (by omega)
    have hc : (UInt8.ofNat (128 + n % 64)).toNat = 128 + n % 64 := byte_ofNat (by omega)
    have hw : wide (192 + n / 64) = 2 := by unfold wide; rw [if_neg (by omega), if_pos (by omega)]
    simp only [enc, hs, cont, lead, List.cons_append, List.nil_append, take]
    simp only [show (2 : Nat) = 1 ↔ False from by decide, if_false, if_true, hb, hw, List.length_cons, Nat.reduceSub, Nat.mul_zero, Nat.pow_zero, Nat.div_one, List.take_succ_cons, List.take_zero]
    rw [if_neg (by omega), if_neg (by omega), fold_cons (by omega), hc]
    simp only [fold]
    have e : (192 + n / 64) % 2 ^ 5 * 64 + (128 + n % 64) % 64 = n := by omega
    rw [e]; simp [fin, hs, h]
  · have hb : (UInt8.ofNat (224 + n / 4096)).toNat = 224 + n / 4096 := byte_ofNat (by omega)
    have hc : (UInt8.ofNat (128 + n / 64 % 64)).toNat = 128 + n / 64 % 64 := byte_ofNat (by omega)
    have hd : (UInt8.ofNat (128 + n % 64)).toNat = 128 + n % 64 := byte_ofNat (by omega)
    have hw : wide (224 + n / 4096) = 3 := by unfold wide; rw [if_neg (by omega), if_neg (by omega), if_pos (by omega)]
    simp only [enc, hs, cont, lead, List.cons_append, List.nil_append, take]
    simp only [show (3 : Nat) = 1 ↔ False from by decide, show (3 : Nat) = 2 ↔ False from by decide, if_false, if_true, hb, hw, List.length_cons, Nat.reduceSub, Nat.mul_zero, Nat.pow_zero, Nat.div_one, Nat.reduceMul, Nat.reducePow, List.take_succ_cons, List.take_zero]
    rw [if_neg (by omega), if_neg (by omega), fold_cons (by omega), fold_cons (by omega), hc, hd]
    simp only [fold]
    have e : ((224 + n / 4096) % 16 * 64 + (128 + n / 64 % 64) % 64) * 64 + (128 + n % 64) % 64 = n := by omega
    rw [e]; simp [fin, hs, h]
  · have hb : (UInt8.ofNat (240 + n / 262144)).toNat = 240 + n / 262144 := byte_ofNat (by omega)
    have hc : (UInt8.ofNat (128 + n / 4096 % 64)).toNat = 128 + n / 4096 % 64 := byte_ofNat (by omega)
    have hd : (UInt8.ofNat (128 + n / 64 % 64)).toNat = 128 + n / 64 % 64 := byte_ofNat (by omega)
    have he : (UInt8.ofNat (128 + n % 64)).toNat = 128 + n % 64 := byte_ofNat (by omega)
    have hw : wide (240 + n / 262144) = 4 := by unfold wide; rw [if_neg (by omega), if_neg (by omega), if_neg (by omega), if_pos (by omega)]
    simp only [enc, hs, cont, lead, List.cons_append, List.nil_append, take]
    simp only [show (4 : Nat) = 1 ↔ False from by decide, show (4 : Nat) = 2 ↔ False from by decide, show (4 : Nat) = 3 ↔ False from by decide, if_false, hb, hw, List.length_cons, Nat.reduceSub, Nat.mul_zero, Nat.pow_zero, Nat.div_one, Nat.reduceMul, Nat.reducePow, List.take_succ_cons, List.take_zero]
    rw [if_neg (by omega), if_neg (by omega), fold_cons (by omega), fold_cons (by omega), fold_cons (by omega), hc, hd, he]
    simp only [fold]
    have e : (((240 + n / 262144) % 8 * 64 + (128 + n / 4096 % 64) % 64) * 64 + (128 + n / 64 % 64) % 64) * 64 + (128 + n % 64) % 64 = n := by omega
    rw [e]; simp [fin, hs, h]

theorem fin_some {k : Nat} {o : Option Nat} (h : (fin k o).2 ≠ 0) : ∃ n, o = some n ∧ size n = k ∧ isPoint n = true ∧ fin k o = (n, k) := by
  cases o with
  | none => simp [fin] at h
  | some n =>
    simp only [fin] at h ⊢
    split at h
    · rename_i hc; exact ⟨n, rfl, hc.1, hc.2, if_pos hc⟩
    · exact absurd rfl h

theorem take_spec {s : List UInt8} (h : (take s).2 ≠ 0) : isPoint (take s).1 = true ∧ (take s).2 = size (take s).1 ∧ s = enc (take s).1 ++ s.drop (take s).2 := by
  cases s with
  | nil => simp [take] at h
  | cons b r =>
    have hb := b.toNat_lt
    by_cases h1 : b.toNat < 128
    · have ht : take (b :: r) = (b.toNat, 1) := by simp only [take, if_pos h1]
      rw [ht]
      have hs : size (b.toNat : Int) = 1 := by unfold size; rw [if_pos (by omega)]
      refine ⟨by simp [isPoint]; omega, hs.symm, ?_⟩
      simp [enc, hs, cont, lead]
    · by_cases h2 : wide b.toNat = 0 ∨ r.length + 1 < wide b.toNat
      · simp only [take, if_neg h1, if_pos h2] at h; exact absurd rfl h
      · have ht : take (b :: r) = fin (wide b.toNat) (fold (b.toNat % 2 ^ (7 - wide b.toNat)) (r.take (wide b.toNat - 1))) := by simp only [take, if_neg h1, if_neg h2]
        rw [ht] at h ⊢
        obtain ⟨n, hf, hs, hp, he⟩ := fin_some h
        rw [he]
        refine ⟨hp, hs.symm, ?_⟩
        have hn := isPoint_le hp
        have hw4 : (wide b.toNat = 2 ∧ b.toNat / 32 = 6) ∨ (wide b.toNat = 3 ∧ b.toNat / 16 = 14) ∨ (wide b.toNat = 4 ∧ b.toNat / 8 = 30) ∨ wide b.toNat = 0 := by
          unfold wide; rw [if_neg h1]
          split
          · exact .inl ⟨rfl, by assumption⟩
          · split
            · exact .inr (.inl ⟨rfl, by assumption⟩)
            · split
              · exact .inr (.inr (.inl ⟨rfl, by assumption⟩))
              · exact .inr (.inr (.inr rfl))
        rcases hw4 with ⟨hw, hbw⟩ | ⟨hw, hbw⟩ | ⟨hw, hbw⟩ | hw
        · rw [hw] at hf h2 hs ⊢
          match r, h2 with
          | [], h2 => simp at h2
          | c :: r, h2 =>
            have hcb := c.toNat_lt
            simp only [Nat.reduceSub, List.take_succ_cons, List.take_zero, fold] at hf
            split at hf
            · rename_i hc
              have e : n = b.toNat % 2 ^ 5 * 64 + c.toNat % 64 := by injection hf with hf; exact hf.symm
              simp only [enc, hs, lead, cont, List.drop_succ_cons, List.drop_zero, List.cons_append, List.nil_append, Nat.reduceSub, Nat.mul_zero, Nat.pow_zero, Nat.div_one]
              simp only [show (2 : Nat) = 1 ↔ False from by decide, if_false, if_true]
              rw [ofNat_eq (b := b) (by omega), ofNat_eq (b := c) (by omega)]
            · cases hf
        · rw [hw] at hf h2 hs ⊢
          match r, h2 with
          | [], h2 => simp at h2
          | [_], h2 => simp at h2
          | c :: d :: r, h2 =>
            have hcb := c.toNat_lt
            have hdb := d.toNat_lt
            simp only [Nat.reduceSub, List.take_succ_cons, List.take_zero, fold] at hf
            split at hf
            · split at hf
              · have e : n = (b.toNat % 2 ^ 4 * 64 + c.toNat % 64) * 64 + d.toNat % 64 := by injection hf with hf; exact hf.symm
                simp only [enc, hs, lead, cont, List.drop_succ_cons, List.drop_zero, List.cons_append, List.nil_append, Nat.reduceSub, Nat.mul_zero, Nat.pow_zero, Nat.div_one, Nat.reduceMul, Nat.reducePow]
                simp only [show (3 : Nat) = 1 ↔ False from by decide, show (3 : Nat) = 2 ↔ False from by decide, if_false, if_true]
                rw [ofNat_eq (b := b) (by omega), ofNat_eq (b := c) (by omega), ofNat_eq (b := d) (by omega)]
              · cases hf
            · cases hf
        · rw [hw] at hf h2 hs ⊢
          match r, h2 with
          | [], h2 => simp at h2
          | [_], h2 => simp at h2
          | [_, _], h2 => simp at h2
          | c :: d :: x :: r, h2 =>
            have hcb := c.toNat_lt
            have hdb := d.toNat_lt
            have hxb := x.toNat_lt
            simp only [Nat.reduceSub, List.take_succ_cons, List.take_zero, fold] at hf
            split at hf
            · split at hf
              · split at hf
                · have e : n = ((b.toNat % 2 ^ 3 * 64 + c.toNat % 64) * 64 + d.toNat % 64) * 64 + x.toNat % 64 := by injection hf with hf; exact hf.symm
                  simp only [enc, hs, lead, cont, List.drop_succ_cons, List.drop_zero, List.cons_append, List.nil_append, Nat.reduceSub, Nat.mul_zero, Nat.pow_zero, Nat.div_one, Nat.reduceMul, Nat.reducePow]
                  simp only [show (4 : Nat) = 1 ↔ False from by decide, show (4 : Nat) = 2 ↔ False from by decide, show (4 : Nat) = 3 ↔ False from by decide, if_false]
                  rw [ofNat_eq (b := b) (by omega), ofNat_eq (b := c) (by omega), ofNat_eq (b := d) (by omega), ofNat_eq (b := x) (by omega)]
                · cases hf
              · cases hf
            · cases hf
        · exact absurd (.inl hw) h2

theorem enc_ne (n : Nat) : enc n ≠ [] := by simp [enc]

theorem points_append {n : Nat} (h : isPoint n = true) (r : List UInt8) : points (enc n ++ r) = (points r).map (n :: ·) := by
  have ht := take_enc h r
  cases hs : enc n ++ r with
  | nil => simp [enc_ne] at hs
  | cons b t =>
    rw [points_cons, ← hs, ht]
    have hp := size_pos n
    rw [if_neg (by simp; omega)]
    simp only
    congr 2
    rw [← enc_length n, List.drop_left]

/-- the bytes of code points are theirs -/
theorem points_encs {l : List Nat} (h : ∀ n ∈ l, isPoint n = true) : points (encs l) = some l := by
  induction l with
  | nil => simp [encs, points]
  | cons n r ih =>
    have : encs (n :: r) = enc n ++ encs r := by simp [encs]
    rw [this, points_append (h n (by simp)), ih (fun m hm => h m (by simp [hm]))]
    rfl

/-- and back -/
theorem encs_points : ∀ {s : List UInt8} {l : List Nat}, points s = some l → s = encs l ∧ ∀ n ∈ l, isPoint n = true := by
  intro s
  induction hlen : s.length using Nat.strongRecOn generalizing s with
  | _ k ih =>
    intro l hp
    cases s with
    | nil => simp [points] at hp; subst hp; simp [encs]
    | cons b r =>
      rw [points_cons] at hp
      split at hp
      · cases hp
      · rename_i h
        obtain ⟨hpt, hsz, he⟩ := take_spec h
        cases hq : points ((b :: r).drop (take (b :: r)).2) with
        | none => rw [hq] at hp; cases hp
        | some t =>
          rw [hq] at hp
          simp only [Option.map_some, Option.some.injEq] at hp
          subst hp
          have hlt : ((b :: r).drop (take (b :: r)).2).length < k := by
            have : 0 < k := by rw [← hlen]; simp
            rw [List.length_drop, hlen]; omega
          obtain ⟨h1, h2⟩ := ih _ hlt rfl hq
          refine ⟨?_, ?_⟩
          · have : encs ((take (b :: r)).1 :: t) = enc (take (b :: r)).1 ++ encs t := by simp [encs]
            rw [this, ← h1]; exact he
          · intro n hn
            rcases List.mem_cons.1 hn with rfl | hn
            · exact hpt
            · exact h2 n hn

theorem points_length {s : List UInt8} {l : List Nat} (h : points s = some l) : l.length ≤ s.length := by
  obtain ⟨rfl, h2⟩ := encs_points h
  clear h h2
  induction l with
  | nil => simp
  | cons n r ih =>
    have := enc_length n
    have := size_pos n
    simp only [encs, List.flatMap_cons, List.length_append, List.length_cons] at *
    omega

theorem encs_append (a b : List Nat) : encs (a ++ b) = encs a ++ encs b := by simp [encs]
theorem encs_inj {a b : List Nat} (ha : ∀ n ∈ a, isPoint n = true) (hb : ∀ n ∈ b, isPoint n = true) (h : encs a = encs b) : a = b := by
  have := points_encs ha
  rw [h, points_encs hb] at this
  exact (Option.some.inj this).symm
theorem encs_eq_nil {a : List Nat} : encs a = [] ↔ a = [] := by
  cases a with
  | nil => simp [encs]
  | cons n r => simp [encs, enc_ne]
end Go.Proofs.YthjgbmbaabpgmaaGreat.Ox
/-
  Deltas: what kind, lengths, Base and Check do.
-/
namespace Go.Proofs.YthjgbmbaabpgmaaGreat
open Go.Sy
set_option maxRecDepth 4000
set_option maxHeartbeats 4000000
attribute [local irreducible] At Ops Val Eff Does Res Dr
namespace Ox
/-- an operation, as it lies in memory -/
structure Op where
  kind : Int
  n : Int
  text : List UInt8
/-- an operation that may be -/
inductive DOp where
  | keep (n : Nat)
  | del (n : Nat)
  | ins (l : List Nat)
def Op.plain (o : Op) : Bool := decide (o.text = []) && decide (1 ≤ o.n) && decide (o.n ≤ 1000)
def Op.isIns (o : Op) : Bool := decide (o.kind = 2) && decide (o.n = 0) && decide (0 < tlen o.text)
/-- an operation read -/
def Op.parse (o : Op) : Option DOp :=
  if o.kind = 1 ∧ o.plain = true then some (.keep o.n.toNat)
  else if o.kind = 3 ∧ o.plain = true then some (.del o.n.toNat)
  else if o.isIns = true then (points o.text).map .ins
  else none
end Ox
/-- an operation's cells -/
def opc (o : Ox.Op) : List Value := [.int .i64 o.kind, .int .i64 o.n, str o.text]
theorem opc_length (o : Ox.Op) : (opc o).length = 3 := rfl
/-- what kind gives -/
def kindVal : Option Ox.DOp → Value
  | some (.keep n) => .iface 230 (.int .i64 (n : Int))
  | some (.del n) => .iface 231 (.int .i64 (n : Int))
  | some (.ins l) => .iface 232 (str (Ox.encs l))
  | none => .nilIface

theorem kind_does (o : Ox.Op) (ht : o.text.length ≤ 10000000000) (h : HV) :
    Does Tryz.prog 144 #[.agg #[.int .i64 o.kind, .int .i64 o.n, str o.text]] [] h (Just h (· = kindVal o.parse)) := by
  obtain ⟨ok, on, ot⟩ := o
  simp only at ht
  refine Does.of Tryz.func144 rfl Tryz.ntmps144 rfl fun c hc0 => ?_
  refine goK _ ?_
  refine Ops.eff rfl rfl rfl (Eff.box rfl) fun _ => Ops.ex fun b => Ops.pure ?_
  rintro rfl
  refine goK _ ?_
  refine Ops.forkR 3 (.bool ((Ox.Op.mk ok on ot).plain)) [0, 1] ?_ (fun main => ?_)
  rotate_left
  · repeat' (first
      | refine opS _ ?_
      | refine Ops.gsplit rfl rfl (fun hb => ?_) (fun hb => ?_)
      | refine Ops.psplit rfl (fun hb => ?_) (fun hb => ?_))
    all_goals (refine Ops.nil ?_; refine main.sub ⟨congrArg (fun b => some (Value.bool b)) ?_, (by repeat (first | exact trivial | refine ⟨rfl, ?_⟩))⟩; clear main; (rw [Bool.eq_iff_iff]; simp [Ox.Op.plain] at *; first | (simp [*]; done) | (simp [*]; omega)))
  refine goK _ ?_
  refine Ops.forkR 17 (.bool (decide (ok = 1 ∧ (Ox.Op.mk ok on ot).plain = true))) [0, 1, 3] ?_ (fun main => ?_)
  rotate_left
  · repeat' (first
      | refine opS _ ?_
      | refine Ops.gsplit rfl rfl (fun hb => ?_) (fun hb => ?_)
      | refine Ops.psplit rfl (fun hb => ?_) (fun hb => ?_))
    all_goals (refine Ops.nil ?_; refine main.sub ⟨congrArg (fun b => some (Value.bool b)) ?_, (by repeat (first | exact trivial | refine ⟨rfl, ?_⟩))⟩; clear main; (rw [Bool.eq_iff_iff]; simp at *; simp [*]))
  refine At.condP rfl (fun h1 => ?_) (fun h1 => ?_)
  · have hpl := h1.2
    simp [Ox.Op.plain] at hpl
    refine goK _ ?_
    refine At.ret1 Tryz.results144 (Res.tmp rfl) (List.nil_sublist _) ⟨?_, rfl, rfl⟩
    simp only [Ox.Op.parse, if_pos h1, kindVal]
    rw [Int.toNat_of_nonneg (by omega)]
  refine goK _ ?_
  refine Ops.forkR 27 (.bool (decide (ok = 3 ∧ (Ox.Op.mk ok on ot).plain = true))) [0, 1, 3] ?_ (fun main => ?_)
  rotate_left
  · repeat' (first
      | refine opS _ ?_
      | refine Ops.gsplit rfl rfl (fun hb => ?_) (fun hb => ?_)
      | refine Ops.psplit rfl (fun hb => ?_) (fun hb => ?_))
    all_goals (refine Ops.nil ?_; refine main.sub ⟨congrArg (fun b => some (Value.bool b)) ?_, (by repeat (first | exact trivial | refine ⟨rfl, ?_⟩))⟩; clear main; (rw [Bool.eq_iff_iff]; simp at *; simp [*]))
  refine At.condP rfl (fun h2 => ?_) (fun h2 => ?_)
  · have hpl := h2.2
    simp [Ox.Op.plain] at hpl
    refine goK _ ?_
    refine At.ret1 Tryz.results144 (Res.tmp rfl) (List.nil_sublist _) ⟨?_, rfl, rfl⟩
    simp only [Ox.Op.parse, if_neg h1, if_pos h2, kindVal]
    rw [Int.toNat_of_nonneg (by omega)]
  refine goK _ ?_
  refine Ops.forkR 37 (.bool (Ox.Op.mk ok on ot).isIns) [0, 1] ?_ (fun main => ?_)
  rotate_left
  · refine Ops.gsplit rfl rfl (fun hb => ?_) (fun hb => ?_)
    · have hb1 : ok = 2 := of_decide_eq_true hb
      refine opsK _ ?_
      refine Ops.gsplit rfl rfl (fun hb => ?_) (fun hb => ?_)
      · have hb2 : on = 0 := of_decide_eq_true hb
        refine opsK _ ?_
        refine Ops.eff rfl rfl rfl (Eff.call (fn (by kernel_rfl)) rfl (Ωc := []) rfl (Len_does ot (by omega) h)) fun _ => Ops.ex fun _ => Ops.ex fun _ => Ops.pure ?_
        rintro ⟨rfl, rfl, rfl⟩
        refine opsK _ ?_
        refine Ops.nil ?_
        exact main.sub ⟨congrArg (fun b => some (Value.bool b)) (by simp [Ox.Op.isIns, hb1, hb2]), rfl, rfl, trivial⟩
      · have hb2 : ¬ on = 0 := of_decide_eq_false hb
        refine opsK _ ?_
        refine Ops.nil ?_
        exact main.sub ⟨congrArg (fun b => some (Value.bool b)) (by simp [Ox.Op.isIns, hb2]), rfl, rfl, trivial⟩
    · have hb1 : ¬ ok = 2 := of_decide_eq_false hb
      refine opsK _ ?_
      refine Ops.nil ?_
      exact main.sub ⟨congrArg (fun b => some (Value.bool b)) (by simp [Ox.Op.isIns, hb1]), rfl, rfl, trivial⟩
  refine At.cond rfl (fun h3 => ?_) (fun h3 => ?_)
  · refine goK _ ?_
    refine At.ret1 Tryz.results144 (Res.tmp rfl) (List.nil_sublist _) ⟨?_, rfl, rfl⟩
    simp only [Ox.Op.parse, if_neg h1, if_neg h2, if_pos h3]
    cases hq : Ox.points ot with
    | none => simp [Ox.Op.isIns, Ox.tlen, hq] at h3
    | some l => simp only [Option.map_some, kindVal]; rw [← (Ox.encs_points hq).1]
  refine goK _ ?_
  refine At.ret1 Tryz.results144 (Res.tmp rfl) (List.nil_sublist _) ⟨?_, rfl, rfl⟩
  simp only [Ox.Op.parse, if_neg h1, if_neg h2, h3]; rfl

namespace Ox
def parseAll : List Op → Option (List DOp)
  | [] => some []
  | o :: r => o.parse.bind fun p => (parseAll r).map (p :: ·)
theorem parseAll_append (a b : List Op) : parseAll (a ++ b) = (parseAll a).bind fun x => (parseAll b).map (x ++ ·) := by
  induction a with
  | nil => simp [parseAll]
  | cons o r ih =>
    simp only [List.cons_append, parseAll, ih]
    cases o.parse with
    | none => rfl
    | some p =>
      cases parseAll r with
      | none => rfl
      | some x => cases parseAll b <;> simp
def DOp.base : DOp → Nat
  | .keep n => n
  | .del n => n
  | .ins _ => 0
def DOp.target : DOp → Nat
  | .keep n => n
  | .del _ => 0
  | .ins l => l.length
def base (d : List DOp) : Nat := (d.map DOp.base).sum
def target (d : List DOp) : Nat := (d.map DOp.target).sum
/-- what lengths gives: base, target, error -/
def lens (d : List Op) : Nat × Nat × Nat :=
  if 3000 < d.length then (0, 0, 90) else match parseAll d with
    | none => (0, 0, 90)
    | some ds => if 1000 < base ds ∨ 1000 < target ds then (0, 0, 91) else (base ds, target ds, 0)
theorem parse_le {o : Op} {p : DOp} (h : o.parse = some p) (ht : o.text.length ≤ 10000000000) : p.base ≤ 1000 ∧ p.target ≤ 10000000000 := by
  unfold Op.parse at h
  split at h
  · rename_i hc; cases h
    have := hc.2
    simp [Op.plain] at this
    simp [DOp.base, DOp.target]; omega
  · split at h
    · rename_i hc; cases h
      have := hc.2
      simp [Op.plain] at this
      simp [DOp.base, DOp.target]; omega
    · split at h
      · cases hq : points o.text with
        | none => rw [hq] at h; cases h
        | some l =>
          rw [hq] at h; simp only [Option.map_some, Option.some.injEq] at h; subst h
          have := points_length hq
          simp [DOp.base, DOp.target]; omega
      · cases h
end Ox
theorem Ox.parse_ins {o : Ox.Op} {l : List Nat} (h : o.parse = some (.ins l)) : o.kind = 2 ∧ o.n = 0 ∧ Ox.points o.text = some l ∧ l ≠ [] := by
  unfold Ox.Op.parse at h
  split at h
  · cases h
  · split at h
    · cases h
    · split at h
      · rename_i hi
        cases hq : Ox.points o.text with
        | none => rw [hq] at h; cases h
        | some m =>
          rw [hq] at h; simp only [Option.map_some, Option.some.injEq, Ox.DOp.ins.injEq] at h; subst h
          simp [Ox.Op.isIns, Ox.tlen, hq] at hi
          exact ⟨hi.1.1, hi.1.2, rfl, fun e => by subst e; simp at hi⟩
      · cases h
abbrev OpsH (h : HV) (v : Value) (d : List Ox.Op) : Prop := RowH opc 3 h v d

theorem lengths_does (v : Value) (d : List Ox.Op) (ht : ∀ o ∈ d, o.text.length ≤ 10000000000) (h : HV) (hv : OpsH h v d) :
    Does Tryz.prog 104 #[v] [] h (Just h (· = .tuple #[.int .i64 ((Ox.lens d).1 : Int), .int .i64 ((Ox.lens d).2.1 : Int), .int .i64 ((Ox.lens d).2.2 : Int)])) := by
  obtain ⟨a, cp, rfl⟩ := hv.form
  refine Does.of Tryz.func104 rfl Tryz.ntmps104 rfl fun c hc0 => ?_
  refine goK _ ?_
  refine At.condP rfl (fun h1 => ?_) (fun h1 => ?_)
  · refine goK _ ?_
    refine At.ret3 Tryz.results104 (Res.tmp rfl) (Res.tmp rfl) (Res.tmp rfl) (List.nil_sublist _) ⟨?_, rfl, rfl⟩
    simp only [Ox.lens]; rw [if_pos (by omega)]; rfl
  have h1' : ¬ 3000 < d.length := by omega
  refine goK _ ?_
  refine At.loop2 (fun (i : Nat) (ds : List Ox.DOp) => [(5, .int .i64 (Ox.base ds : Int)), (6, .int .i64 (Ox.target ds : Int)), (16, .slice a d.length cp), (17, .int .i64 (d.length : Int)), (18, .int .i64 (i : Int))])
    (fun (i : Nat) (ds : List Ox.DOp) w => (i ≤ d.length ∧ Ox.parseAll (d.take i) = some ds ∧ Ox.base ds ≤ 1000 * i ∧ Ox.target ds ≤ 10000000000 * i) ∧ Mem c [] h w) (fun (i : Nat) (_ : List Ox.DOp) => d.length - i)
    0 [] ⟨rfl, rfl, rfl, rfl, rfl, trivial⟩ (fun w hw => ⟨⟨by omega, rfl, by simp [Ox.base], by simp [Ox.target]⟩, hw⟩) (fun i ds => At.pure fun ⟨hi, hds, hb, htg⟩ => ?_)
  refine goK _ ?_
  refine At.condP rfl (fun h2 => ?_) (fun h2 => ?_)
  · have hlt : i < d.length := by omega
    obtain ⟨b, o, rfl, _, _, hc⟩ := RowH.elem opc_length hv (i := i) (x := d[i]) (by simp [hlt])
    have hts : d.take (i + 1) = d.take i ++ [d[i]] := by rw [List.take_succ_eq_append_getElem hlt]
    have htx := ht d[i] (by simp)
    have hall : ∀ p, d[i].parse = some p → Ox.parseAll (d.take (i + 1)) = some (ds ++ [p]) := fun p hp => by rw [hts, Ox.parseAll_append, hds]; simp [Ox.parseAll, hp]
    have hnone : d[i].parse = none → Ox.parseAll d = none := fun hp => by
      have : d = d.take i ++ (d[i] :: d.drop (i + 1)) := by rw [← List.drop_eq_getElem_cons hlt, List.take_append_drop]
      rw [this, Ox.parseAll_append, hds]; simp [Ox.parseAll, hp]
    have hple : ∀ p, d[i].parse = some p → p.base ≤ 1000 ∧ p.target ≤ 10000000000 := fun p hp => Ox.parse_le hp htx
    have hkd := kind_does d[i] htx h
    have hins : ∀ l, d[i].parse = some (.ins l) → Ox.tlen (Ox.encs l) = (l.length : Int) ∧ (Ox.encs l).length ≤ 10000000000 := fun l hp => by
      have := (Ox.parse_ins hp).2.2.1
      have he := (Ox.encs_points this).1
      rw [← he]; exact ⟨by simp [Ox.tlen, this], htx⟩
    generalize d[i] = x at *
    repeat (first | refine Ops.val rfl rfl rfl (V.loadHA (cs := opc x) rfl rfl rfl hc) ?_ | refine goS _ ?_)
    refine Ops.eff rfl rfl rfl (E.alloc rfl) fun _ => Ops.ex fun b1 => Ops.pure ?_
    rintro rfl
    refine Ops.eff0 rfl rfl (E.store 0 rfl rfl rfl rfl rfl rfl rfl) fun _ => ?_
    refine goK _ ?_
    generalize x.parse = p at *
    refine Ops.eff rfl rfl rfl (Eff.call (fn (by kernel_rfl)) rfl (Ωc := []) rfl (hkd)) fun _ => Ops.ex fun _ => Ops.ex fun _ => Ops.pure ?_
    rintro ⟨rfl, rfl, rfl⟩
    cases p with
    | none =>
      refine goK _ ?_
      refine At.ret3 Tryz.results104 (Res.tmp rfl) (Res.tmp rfl) (Res.tmp rfl) (List.nil_sublist _) ⟨?_, rfl, rfl⟩
      simp only [Ox.lens, if_neg h1', hnone rfl]; rfl
    | some p =>
      have hpl := hple p rfl
      have hbs : Ox.base (ds ++ [p]) = Ox.base ds + p.base := by simp [Ox.base]
      have hts' : Ox.target (ds ++ [p]) = Ox.target ds + p.target := by simp [Ox.target]
      cases p with
      | keep n =>
        simp only [Ox.DOp.base, Ox.DOp.target] at hpl hbs hts'
        refine goK _ ?_
        refine At.back2 (i + 1) (ds ++ [.keep n]) (by omega) ⟨?_, ?_, rfl, rfl, rfl, trivial⟩ (fun w hw => ⟨⟨by omega, hall _ rfl, by omega, by omega⟩, hw.sub (List.nil_sublist _)⟩)
        · exact congrArg (fun z => some (Value.int .i64 z)) (by omega)
        · exact congrArg (fun z => some (Value.int .i64 z)) (by omega)
      | del n =>
        simp only [Ox.DOp.base, Ox.DOp.target] at hpl hbs hts'
        refine goK _ ?_
        refine At.back2 (i + 1) (ds ++ [.del n]) (by omega) ⟨?_, ?_, rfl, rfl, rfl, trivial⟩ (fun w hw => ⟨⟨by omega, hall _ rfl, by omega, by omega⟩, hw.sub (List.nil_sublist _)⟩)
        · exact congrArg (fun z => some (Value.int .i64 z)) (by omega)
        · exact congrArg (fun z => some (Value.int .i64 z)) (by omega)
      | ins l =>
        simp only [Ox.DOp.base, Ox.DOp.target] at hpl hbs hts'
        refine goK _ ?_
        obtain ⟨hl1, hl2⟩ := hins l rfl
        refine Ops.eff rfl rfl rfl (Eff.call (fn (by kernel_rfl)) rfl (Ωc := []) rfl (Len_does (Ox.encs l) (by omega) h)) fun _ => Ops.ex fun _ => Ops.ex fun _ => Ops.pure ?_
        rintro ⟨rfl, rfl, rfl⟩
        rw [hl1]
        refine goK _ ?_
        refine At.back2 (i + 1) (ds ++ [.ins l]) (by omega) ⟨?_, ?_, rfl, rfl, rfl, trivial⟩ (fun w hw => ⟨⟨by omega, hall _ rfl, by omega, by omega⟩, hw.sub (List.nil_sublist _)⟩)
        · exact congrArg (fun z => some (Value.int .i64 z)) (by omega)
        · exact congrArg (fun z => some (Value.int .i64 z)) (by omega)
  obtain rfl : i = d.length := by omega
  rw [List.take_length] at hds
  have hlens : Ox.lens d = if 1000 < Ox.base ds ∨ 1000 < Ox.target ds then (0, 0, 91) else (Ox.base ds, Ox.target ds, 0) := by simp only [Ox.lens, if_neg h1', hds]
  refine goK _ ?_
  refine Ops.forkR 52 (.bool (decide (1000 < Ox.base ds ∨ 1000 < Ox.target ds))) [5, 6] ?_ (fun main => ?_)
  rotate_left
  · repeat' (first
      | refine opS _ ?_
      | refine Ops.gsplit rfl rfl (fun hb => ?_) (fun hb => ?_)
      | refine Ops.psplit rfl (fun hb => ?_) (fun hb => ?_))
    all_goals (refine Ops.nil ?_; refine main.sub ⟨congrArg (fun b => some (Value.bool b)) ?_, (by repeat (first | exact trivial | refine ⟨rfl, ?_⟩))⟩; clear main; (rw [Bool.eq_iff_iff]; simp at *; omega))
  refine At.condP rfl (fun h3 => ?_) (fun h3 => ?_)
  · refine goK _ ?_
    refine At.ret3 Tryz.results104 (Res.tmp rfl) (Res.tmp rfl) (Res.tmp rfl) (List.nil_sublist _) ⟨?_, rfl, rfl⟩
    rw [hlens, if_pos h3]; rfl
  refine goK _ ?_
  refine At.ret3 Tryz.results104 (Res.tmp rfl) (Res.tmp rfl) (Res.tmp rfl) (List.nil_sublist _) ⟨?_, rfl, rfl⟩
  rw [hlens, if_neg h3]; rfl

theorem Check_does (v : Value) (d : List Ox.Op) (ht : ∀ o ∈ d, o.text.length ≤ 10000000000) (h : HV) (hv : OpsH h v d) :
    Does Tryz.prog 101 #[v] [] h (Just h (· = .int .i64 ((Ox.lens d).2.2 : Int))) := by
  refine Does.of Tryz.func101 rfl Tryz.ntmps101 rfl fun c hc0 => ?_
  refine goK _ ?_
  refine Ops.eff rfl rfl rfl (Eff.call (fn (by kernel_rfl)) rfl (Ωc := []) rfl (lengths_does v d ht h hv)) fun _ => Ops.ex fun _ => Ops.ex fun _ => Ops.pure ?_
  rintro ⟨rfl, rfl, rfl⟩
  refine goK _ ?_
  exact At.ret1 Tryz.results101 (Res.tmp rfl) (List.nil_sublist _) ⟨rfl, rfl, rfl⟩

theorem Base_does (v : Value) (d : List Ox.Op) (ht : ∀ o ∈ d, o.text.length ≤ 10000000000) (h : HV) (hv : OpsH h v d) :
    Does Tryz.prog 53 #[v] [] h (Just h (· = .tuple #[.int .i64 ((Ox.lens d).1 : Int), .int .i64 ((Ox.lens d).2.2 : Int)])) := by
  refine Does.of Tryz.func53 rfl Tryz.ntmps53 rfl fun c hc0 => ?_
  refine goK _ ?_
  refine Ops.eff rfl rfl rfl (Eff.call (fn (by kernel_rfl)) rfl (Ωc := []) rfl (lengths_does v d ht h hv)) fun _ => Ops.ex fun _ => Ops.ex fun _ => Ops.pure ?_
  rintro ⟨rfl, rfl, rfl⟩
  refine goK _ ?_
  exact At.ret2 Tryz.results53 (Res.tmp rfl) (Res.tmp rfl) (List.nil_sublist _) ⟨rfl, rfl, rfl⟩
end Go.Proofs.YthjgbmbaabpgmaaGreat
