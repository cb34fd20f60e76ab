/-
  The closure of slices.Backward over ints, as an iterator.
-/
import Derived.RangeFuncBox
import Derived.RangeFuncLeaves
import Derived.RangeFuncWrites
import Derived.Shelf.Abstract
import Derived.WalkKit
import Derived.OwnWalkIn
import Derived.TacticsInMore
import Derived.LoopNIn
import Derived.LoopIn
import Derived.Test.YthjgbmbaabpgmaaGreatProg
import Derived.Test.YthjgbmbaabpgmaaGreatSrd16
import Derived.RangeFuncNested
import Derived.RangeFuncCalls
import Derived.RangeFuncRecord
set_option linter.unusedVariables false
set_option linter.unusedSimpArgs false
set_option linter.unusedSectionVars false
namespace Go.Proofs.YthjgbmbaabpgmaaGreat
open Go.RowKit Go.Shelf

attribute [local go_sem] Oper.semAt_some

/-- two blocks stay -/
def Kp2 (bs g : Nat) (W W' : World) : Prop := W'.heap[bs]? = W.heap[bs]? ∧ W'.heap[g]? = W.heap[g]?
/-- what has come when k rounds are over -/
def upto {α : Type} (f : Nat → α) (k : Nat) : List α := (List.range k).map f
theorem upto_succ {α : Type} (f : Nat → α) (k : Nat) : upto f (k + 1) = upto f k ++ [f k] := by simp [upto, List.range_succ]
theorem upto_length {α : Type} (f : Nat → α) (k : Nat) : (upto f k).length = k := by simp [upto]
theorem cell_same {W W' : World} {b o : Nat} {v : Value} (h : W'.heap[b]? = W.heap[b]?) (hc : W.cell? ⟨b, o, none⟩ = some v) : W'.cell? ⟨b, o, none⟩ = some v := by
  simp only [World.cell?] at hc ⊢
  rw [h]; exact hc

set_option maxRecDepth 100000 in
set_option maxHeartbeats 2000000 in
theorem backZ1_in (F : Fence) (n : Nat) (h7 : F.fn 204) (hro : F.round = none) (hn : 1 ≤ n) (l Bs b off len cap : Nat) (zs : List Int) (hreach : len * 8 ≤ 140737488351232) (J Jx : List (Int × Int) → World → Prop)
    (hY : ∀ pre x W, J pre W → pre.length < len → YieldAt F (n - 1) Tryz.prog l #[.int .i64 x.1, .int .i64 x.2] W fun e W' =>
      (e = .returned (.bool true) ∧ J (pre ++ [x]) W' ∧ Kp2 Bs b W W') ∨ (e = .returned (.bool false) ∧ Jx (pre ++ [x]) W'))
    (W : World) (hBs : W.cell? ⟨Bs, 0, none⟩ = some (.slice (some ⟨b, off, none⟩) len cap)) (hc : ∀ j, j < len → W.cell? ⟨b, off + j, none⟩ = some (.int .i64 (zs[j]?.getD 0))) (h0 : J [] W) :
    CallsIn F n Tryz.prog 204 #[.func (.yield l) #[] #[], .pointer (some ⟨Bs, 0, none⟩)] W fun e W' => (∃ v, e = .returned v) ∧
      ((∃ ys, ys = upto (fun j => (((len - 1 - j : Nat) : Int), zs[len - 1 - j]?.getD 0)) len ∧ J ys W') ∨ (∃ pre, True ∧ Jx pre W')) := by
  refine callsIn_of_wp Tryz.func204 rfl h7 ?_ hro
  simp only [Tryz.ntmps204, List.size_toArray, List.length_cons, List.length_nil, Nat.reduceAdd, Nat.reduceSub, Array.replicate_succ, Array.replicate_zero, List.push_toArray, List.append_toArray, List.nil_append, List.cons_append]
  gi_wp2
  gi_loopw [3] (fun i wr => ∃ k : Nat, ((k = len ∧ i = .int .i64 (-1)) ∨ ∃ m : Nat, len = m + 1 + k ∧ i = .int .i64 (m : Int)) ∧ J (upto (fun j => (((len - 1 - j : Nat) : Int), zs[len - 1 - j]?.getD 0)) k) wr ∧ Kp2 Bs b W wr)
    (fun i _ => (intOf i + 1).toNat)
  case atStart =>
    refine ⟨0, ?_, h0, rfl, rfl⟩
    rcases Nat.eq_zero_or_pos len with h | h
    · exact .inl ⟨h.symm, by subst h; rfl⟩
    · exact .inr ⟨len - 1, by omega, by congr 1; omega⟩
  case round =>
    obtain ⟨k, hk, hJs, hnx⟩ := hrel
    rcases hk with ⟨rfl, rfl⟩ | ⟨m, hm, rfl⟩
    · gi_wp2
      go_end0
      exact ⟨⟨_, rfl⟩, .inl ⟨_, rfl, hJs⟩⟩
    · have hml : m < len := by omega
      have hcx : wr.cell? ⟨b, off + m, none⟩ = some (.int .i64 (zs[m]?.getD 0)) := cell_same hnx.2 (hc m hml)
      have hcb : wr.cell? ⟨Bs, 0, none⟩ = some (.slice (some ⟨b, off, none⟩) len cap) := cell_same hnx.1 hBs
      obtain ⟨fn, tmps, assign, body, hy, hR⟩ := hY _ ((m : Int), zs[m]?.getD 0) wr hJs (by rw [upto_length]; omega)
      dsimp only at hy
      have HD : Hid (len = m + 1 + k) := hm
      clear hm
      gi_wp2
      refine hR.mono ?_
      rintro e W3 (⟨rfl, hJ3, hk3⟩ | ⟨rfl, hJx3⟩)
      · gi_wp2
        go_roundw
        case rel =>
          have hm := HD.out
          have hmk : len - 1 - k = m := by omega
          refine ⟨k + 1, ?_, by rw [upto_succ]; simp only [hmk]; exact hJ3, hk3.1.trans hnx.1, hk3.2.trans hnx.2⟩
          rcases Nat.eq_zero_or_pos m with h | h
          · subst h; exact .inl ⟨by omega, by simp⟩
          · exact .inr ⟨m - 1, by omega, by congr 1; omega⟩
        case measure => simp [intOf]
      · gi_wp2
        refine bodyPost_ret (results_none rfl _ _ _) rfl ?_
        exact ⟨⟨_, rfl⟩, .inr ⟨_, trivial, hJx3⟩⟩

theorem backZ_stops (Bs b off cap : Nat) (zs : List Int) (hreach : zs.length * 8 ≤ 140737488351232) (w : World) (hBl : Bs < w.heap.size) (hbl : b < w.heap.size)
    (hBs : w.cell? ⟨Bs, 0, none⟩ = some (.slice (some ⟨b, off, none⟩) zs.length cap)) (hc : ∀ j, j < zs.length → w.cell? ⟨b, off + j, none⟩ = some (.int .i64 (zs[j]?.getD 0))) :
    SeqStopsK Fence.wide 3 Tryz.prog 204 #[.pointer (some ⟨Bs, 0, none⟩)] (fun y : Int × Int => #[.int .i64 y.1, .int .i64 y.2]) (Kp2 Bs b) (fun ys => ys.map Prod.snd = zs.reverse) (fun _ => True) zs.length w := fun l J Jx W hW _ _ hY h0 => by
  have h1 : W.heap[Bs]? = w.heap[Bs]? := hW.block Bs hBl
  have h2 : W.heap[b]? = w.heap[b]? := hW.block b hbl
  refine (backZ1_in Fence.wide 3 trivial rfl (by omega) l Bs b off zs.length cap zs hreach J Jx hY W (cell_same h1 hBs) (fun j hj => cell_same h2 (hc j hj)) h0).mono ?_
  rintro e W' ⟨he, ⟨ys, rfl, hj⟩ | ⟨pre, _, hj⟩⟩
  · refine ⟨he, .inl ⟨_, ?_, hj⟩⟩
    apply List.ext_getElem
    · simp [upto]
    · intro i h3 h4
      have h5 : i < zs.length := by simpa using h4
      have h6 : zs.length - 1 - i < zs.length := by omega
      simp [upto, h6]
  · exact ⟨he, .inr ⟨pre, trivial, hj⟩⟩
end Go.Proofs.YthjgbmbaabpgmaaGreat
/-
  The walk's own logic: a range over a function of two loop variables; its rounds; the return behind it.
-/
namespace Go.Sy
open Go Go.RowKit

section
variable {P : Program} {l : Nat} {Q : Exit → Act → World → Prop} {n : Sz} {σ : Slots} {S : World → Prop} {ops : Array Oper} {os : List Oper} {o : Oper} {c x y : Code}

/-- the goal in a round -/
def AtR (P : Program) (l : Nat) (Q : Exit → Act → World → Prop) (n : Sz) (σ : Slots) (S : World → Prop) (c : Code) : Prop := ∀ a w, Sees n σ a → S w → c.wpIn (Fence.wide.inRound l) 2 P Q a w
def OpsR (P : Program) (l : Nat) (Q : Exit → Act → World → Prop) (n : Sz) (σ : Slots) (S : World → Prop) (ops : Array Oper) (os : List Oper) : Prop := ∀ a w, Sees n σ a → S w → wpListIn (Fence.wide.inRound l) 2 P ops Q os a w

theorem AtR.region {id : Nat} (h : OpsR P l Q n σ S os.toArray os) : AtR P l Q n σ S (.region id os.toArray false) := fun a w ha hw => wpIn_region_lit (h a w ha hw)
theorem AtR.seq (h : AtR P l (Exit.then (y.wpIn (Fence.wide.inRound l) 2 P Q) Q) n σ S x) : AtR P l Q n σ S (.seq x y) := fun a w ha hw => wpIn_seq (h a w ha hw)
theorem AtR.block {id : Nat} (h : AtR P l (Exit.inBlock id Q) n σ S c) : AtR P l Q n σ S (.block id c) := fun a w ha hw => wpIn_block (h a w ha hw)
theorem AtR.skip (h : ∀ a w, Sees n σ a → S w → Q .normal a w) : AtR P l Q n σ S .skip := fun a w ha hw => wpIn_skip (h a w ha hw)
theorem AtR.condP {t : Operand} {p : Prop} [Decidable p] (hc : ev σ t = some (.bool (decide p))) (h1 : p → AtR P l Q n σ S x) (h2 : ¬ p → AtR P l Q n σ S y) : AtR P l Q n σ S (.cond t x y) := fun a w ha hw =>
  wpIn_cond_split (ha.ev hc) (fun h => h1 (of_decide_eq_true h) a w ha hw) (fun h => h2 (of_decide_eq_false h) a w ha hw)
theorem OpsR.nil (h : ∀ a w, Sees n σ a → S w → Q .normal a w) : OpsR P l Q n σ S ops [] := fun a w ha hw => h a w ha hw
theorem OpsR.next (h : AtR P l Q n σ S y) : OpsR P l (Exit.then (y.wpIn (Fence.wide.inRound l) 2 P Q) Q) n σ S ops [] := fun a w ha hw => h a w ha hw
theorem OpsR.ex {α : Sort _} {S : α → World → Prop} (h : ∀ x, OpsR P l Q n σ (S x) ops os) : OpsR P l Q n σ (fun w => ∃ x, S x w) ops os := fun a w ha ⟨x, hw⟩ => h x a w ha hw
theorem OpsR.pure {p : Prop} (h : p → OpsR P l Q n σ S ops os) : OpsR P l Q n σ (fun w => p ∧ S w) ops os := fun a w ha ⟨hp, hw⟩ => h hp a w ha hw
theorem OpsR.respell {t : Nat} {v v' : Value} (hv : lk σ t = some v) (e : v = v') (h : OpsR P l Q n ((t, v') :: σ) S ops os) : OpsR P l Q n σ S ops os := fun a w ha hw => h a w (ha.respell hv e) hw
theorem Comes1.uponIn {R : Value → World → Prop} {r : Result Next} (h : Comes1 P R r) {a : Act} {K : Act → World → Prop} (hk : ∀ v w, R v w → K (a.put o.dst v) w) : o.uponIn (Fence.wide.inRound l) 2 P a K Q r := by
  unfold Comes1 at h
  split at h
  · exact hk _ _ h
  · exact hk _ _ h
  · refine ⟨fun e => (by cases e), CallsIn.inRound l (callsIn_wide.2 (Calls.mono h ?_))⟩
    rintro e w' ⟨v, rfl, hr⟩
    exact hk _ _ hr
  · exact h.elim
theorem OpsR.eff {R : Value → World → Prop} {d : Nat} (hd : o.dst = some d) (hg : o.guard = none) (hlt : Nat.blt d n.k = true) (he : Eff P σ S o R) (h : ∀ v, OpsR P l Q n ((d, v) :: σ) (R v) ops os)
    (hnd : ∀ c, o.op ≠ .defer c := by intro c h; cases h) : OpsR P l Q n σ S ops (o :: os) := fun a w ha hw => by
  refine wpListIn_plain hg fun K hK => ⟨fun _ _ => trivial, ?_⟩
  have e1 : o.semAt (Fence.wide.inRound l).round a.eval = execOp a.eval o := Oper.semAt_some l a.eval o hnd
  rw [e1]
  refine (he a.eval w ha.fit hw).uponIn fun v w' hr => hK _ _ ?_
  rw [hd]
  exact h v _ _ (ha.put d v hlt) hr
theorem OpsR.eff0 {R : Value → World → Prop} (hd : o.dst = none) (hg : o.guard = none) (he : Eff P σ S o R) (h : ∀ v, OpsR P l Q n σ (R v) ops os)
    (hnd : ∀ c, o.op ≠ .defer c := by intro c h; cases h) : OpsR P l Q n σ S ops (o :: os) := fun a w ha hw => by
  refine wpListIn_plain hg fun K hK => ⟨fun _ _ => trivial, ?_⟩
  have e1 : o.semAt (Fence.wide.inRound l).round a.eval = execOp a.eval o := Oper.semAt_some l a.eval o hnd
  rw [e1]
  refine (he a.eval w ha.fit hw).uponIn fun v w' hr => hK _ _ ?_
  rw [hd]
  exact h v _ _ ha hr
theorem OpsR.val {d : Nat} {v : Value} (hd : o.dst = some d) (hg : o.guard = none) (hlt : Nat.blt d n.k = true) (hv : Val P σ S o v) (h : OpsR P l Q n ((d, v) :: σ) S ops os)
    (hnd : ∀ c, o.op ≠ .defer c := by intro c h; cases h) : OpsR P l Q n σ S ops (o :: os) := OpsR.eff hd hg hlt hv.eff (fun u => OpsR.pure fun e => by subst e; exact h) hnd
end

/-- the mark that a range over a function leaves among what is deferred -/
abbrev mark (D : Nat) : Deferred := { target := .collected D, args := #[] }
/-- the rounds' deferred calls: none -/
abbrev dblk (D : Nat) : Itm := blk D (.deferred (some []))

section
variable {P : Program} {Q : Exit → Act → World → Prop} {n : Nat} {σ : Slots} {k : List It} {c : Ctx} {Ω Ωr : List Itm} {h : HV}

theorem Mem.turn {Ω : List Itm} {w w' : World} {row : Option Nat} {B : Nat} (m : Mem c Ω h w) (hg : w.grownBy w' row) (hB : c.w0.heap.size ≤ B) (hr : ∀ r, row = some r → B ≤ r ∧ ∃ o : Obj, w.heap[r]? = some o ∧ o.isCells = false)
    (hΩ : ∀ b, blocks Ω b → b < B ∨ ∃ o : Obj, w.heap[b]? = some o ∧ o.isCells = true) (hh : ∀ b o, h b = some o → b < B) : Mem c Ω h w' := by
  have hne : ∀ b, blocks Ω b → some b ≠ row := fun b hb e => by
    obtain ⟨h1, o, h2, h3⟩ := hr b e.symm
    rcases hΩ b hb with h4 | ⟨o', h4, h5⟩
    · omega
    · rw [h2] at h4; cases h4; rw [h3] at h5; cases h5
  have hlt : ∀ b, b < B → some b ≠ row := fun b hb e => by have := (hr b e.symm).1; omega
  refine ⟨hg.os.trans m.os, hg.tape.trans m.tape, hg.output.trans m.output, Nat.le_trans m.size hg.size, fun b h1 h2 => ?_, m.hext, fun b o ho => ?_, fun i hi => ?_, m.sep, m.apart, m.mine⟩
  · rw [hg.block b (Nat.lt_of_lt_of_le h1 m.size) (hlt b (by omega))]; exact m.still b h1 h2
  · rw [hg.block b (Array.getElem?_eq_some_iff.1 (m.hv b o ho)).1 (hlt b (hh b o ho))]; exact m.hv b o ho
  · exact i.loc w w' (fun b hb => hg.block b (i.alive w b (m.own i hi) hb) (hne b ⟨i, hi, hb⟩)) (m.own i hi)

/-- a range over a function with two loop variables, of which the second is taken over -/
theorem At.rangeFunc2 {α X : Type} {t p0 p1 d rid : Nat} {ty : TypeId} {ps : String} {af : Array Edge} {body : Code} {gf : Nat} {lb : Array Value} {v0 v1 : α → Value} {Kp : World → World → Prop} {Ss Sp : List α → Prop} {N : Nat}
    (hv : lk σ t = some (.func (.func gf) #[] lb)) (heg : ∀ args w, (callFunc gf args).run P w = .ok (.enter gf args) w)
    (h0n : Nat.blt p0 n = true) (h1n : Nat.blt p1 n = true) (hdn : Nat.blt d n = true)
    (hseq : ∀ w, Mem c (Ω ++ Ωr) h w → SeqStopsK Fence.wide 3 P gf lb (fun y => #[v0 y, v1 y]) Kp Ss Sp N w)
    (hKt : ∀ {A B C : World}, Kp A B → Kp B C → Kp A C)
    (I : List α → X → Prop) (Ωf : List α → X → List Itm) (x0 : X) (hI0 : I [] x0) (hΩ0 : Ωf [] x0 = Ω)
    (hKp : ∀ w, Mem c (Ω ++ Ωr) h w → ∀ W W' pre x, Mem c (Ωf pre x ++ Ωr) h W → (∀ b, b < W.heap.size → ¬ blocks (Ωf pre x) b → W'.heap[b]? = W.heap[b]?) → Kp W W')
    (hKo : ∀ w, Mem c (Ω ++ Ωr) h w → ∀ (W : World) (r : Nat) (o' : Obj), w.heap.size ≤ r → Kp W (W.putObj r o'))
    (hcl0 : ∀ w, Mem c (Ω ++ Ωr) h w → ∀ pre x W, I pre x → Mem c (Ωf pre x ++ Ωr) h W → ∀ b, blocks (Ωf pre x) b → b < w.heap.size ∨ ∃ o : Obj, W.heap[b]? = some o ∧ o.isCells = true)
    (hbody : ∀ l pre x y, I pre x → pre.length < N → ∀ W0, AtR P l (fun e _ W' => e = .normal ∧ ∃ x', I (pre ++ [y]) x' ∧ Mem (ctx W0 (Ωf pre x) h) (Ωf (pre ++ [y]) x') h W') ⟨n, []⟩ ((d, v1 y) :: (p1, v1 y) :: (p0, v0 y) :: σ) (Mem (ctx W0 (Ωf pre x) h) (Ωf pre x) h) body)
    (hdone : ∀ D xs x, Ss xs → I xs x → At P Q ⟨n, [mark D]⟩ σ (Mem c (dblk D :: (Ωf xs x ++ Ωr)) h) k) :
    At P Q ⟨n, []⟩ σ (Mem c (Ω ++ Ωr) h) (.code (.rangeFunc (.tmp t) #[p0, p1] (.region rid #[⟨some d, .assign (.tmp p1), ty, ps, af, none⟩] false) body) :: k) := fun a w ha hw => by
  have hcw : c.w0.heap.size ≤ w.heap.size := hw.size
  have hhv : ∀ b o, h b = some o → b < w.heap.size := fun b o ho => (Array.getElem?_eq_some_iff.1 (hw.hv b o ho)).1
  have hcl : ∀ w, Mem c (Ω ++ Ωr) h w → ∀ pre x W, I pre x → Mem c (Ωf pre x ++ Ωr) h W → ∀ b, blocks (Ωf pre x ++ Ωr) b → b < w.heap.size ∨ ∃ o : Obj, W.heap[b]? = some o ∧ o.isCells = true := fun w hw pre x W hx hm b ⟨i, hi, hib⟩ => by
    rcases List.mem_append.1 hi with hi | hi
    · exact hcl0 w hw pre x W hx hm b ⟨i, hi, hib⟩
    · exact .inl (i.alive w b (hw.own i (List.mem_append_right _ hi)) hib)
  refine (wpIn_wide (n := 4)).1 ?_
  refine wpIn_rangeFunc_ownH (F := Fence.wide) (n := 4) rfl (by omega) (gf := gf) (lb := lb) (by simp [Act.eval, ha.val t _ hv]) trivial heg (hseq w hw) hKt (fun W l o o' hl _ _ _ => hKo w hw W l o' hl) (Below.refl _ _) (fun _ => rfl)
    (fun pre W => ∃ x, I pre x ∧ Mem c (Ωf pre x ++ Ωr) h W) (fun _ _ _ => False)
    (fun pre W W' row ⟨x, hx, hm⟩ hg hr => ⟨x, hx, hm.turn hg hcw hr (fun b hb => hcl w hw pre x W hx hm b hb) (fun b o ho => hhv b o ho)⟩)
    (fun _ _ _ _ _ hs _ _ => hs) ⟨x0, hI0, by rw [hΩ0]; exact hw⟩
    (fun y a' _ => Sees ⟨n, []⟩ ((d, v1 y) :: (p1, v1 y) :: (p0, v0 y) :: σ) a') (fun _ _ _ _ _ _ hs _ _ => hs) ?_ ?_ ?_ (fun _ _ _ _ _ _ hf _ => hf.elim)
  · intro l pre y W K hI hK
    have hs0 : Sees ⟨n, []⟩ σ { tmps := a.tmps, defers := [] } := ⟨rfl, ha.size, ha.val⟩
    have hs1 := (hs0.put p0 (v0 y) h0n).put p1 (v1 y) h1n
    have hk : OpsR P l (Exit.then K (fun _ _ _ => False)) ⟨n, []⟩ ((p1, v1 y) :: (p0, v0 y) :: σ) (fun W' => W' = W) #[⟨some d, .assign (.tmp p1), ty, ps, af, none⟩] [⟨some d, .assign (.tmp p1), ty, ps, af, none⟩] :=
      OpsR.val rfl rfl hdn (Val.assign (v := v1 y) (by simp [ev, lk])) (OpsR.nil fun a' W' ha' e => by
        subst e
        exact hK a' W' (KeepsFrom.refl _ _) (by
          obtain ⟨x, hx, hm⟩ := hI
          exact hKp w hw W' W' pre x hm fun _ _ _ => rfl) hI ha')
    exact wpIn_region_lit (l := [⟨some d, .assign (.tmp p1), ty, ps, af, none⟩]) (hk _ W (by simpa [Act.put] using hs1) rfl)
  · rintro l pre y a' W hl hr ⟨x, hx, hm⟩ ha' hlen
    have hb := hbody l pre x y hx hlen W a' W ha' hm.hand
    refine wpIn_mono hb ?_
    rintro e a'' W' ⟨rfl, x', hx', hm'⟩
    have hst : ∀ b, b < W.heap.size → ¬ blocks (Ωf pre x) b → W'.heap[b]? = W.heap[b]? := fun b h1 h2 => hm'.still b h1 h2
    refine ⟨⟨hm'.size, fun b o hB ho hc => ?_⟩, hKp w hw W W' pre x hm hst, x', hx', hm.call hm'⟩
    rw [hst b (Array.getElem?_eq_some_iff.1 ho).1 fun hbl => ?_]
    · exact ho
    · obtain ⟨i, hi, hib⟩ := hbl
      rcases hcl w hw pre x W hx hm b ⟨i, List.mem_append_left _ hi, hib⟩ with h1 | ⟨o', h1, h2⟩
      · omega
      · rw [ho] at h1; cases h1; rw [hc] at h2; cases h2
  · rintro D xs W hD hS ⟨x, hx, hm⟩ hK
    have hbl : ∀ b, blocks (Ωf xs x ++ Ωr) b → b ≠ D := fun b hb e => by
      subst e
      rcases hcl w hw xs x W hx hm b hb with h1 | ⟨o', h1, h2⟩
      · omega
      · rw [hK] at h1; cases h1; cases h2
    refine hdone D xs x hS hx _ W ⟨by simp [ha.defers], ha.size, ha.val⟩ ?_
    refine { hm with own := fun i hi => ?_, sep := List.pairwise_cons.2 ⟨fun i hi b h1 h2 => ?_, hm.sep⟩, apart := fun i hi b h1 => ?_, mine := fun i hi b h1 => ?_ }
    · rcases List.mem_cons.1 hi with rfl | hi
      · exact hK
      · exact hm.own i hi
    · exact hbl b ⟨i, hi, h2⟩ h1
    · rcases List.mem_cons.1 hi with rfl | hi
      · cases ho : h b with
        | none => rfl
        | some o =>
          have h2 := hhv b o ho
          have h3 : b = D := h1
          omega
      · exact hm.apart i hi b h1
    · rcases List.mem_cons.1 hi with rfl | hi
      · have h3 : b = D := h1
        exact .inl (by omega)
      · exact hm.mine i hi b h1
end

/-! the return behind a mark -/
section
variable {P : Program} {fn : Func} {n : Nat} {σ : Slots} {S : World → Prop} {k : List It} {c : Ctx} {Ω Ω' : List Itm} {h : HV} {post : Value → List Itm → HV → Prop}

theorem Does.ofM {f : FuncId} {args : List Value} {body : Code} (hf : P.funcs[f]? = some fn) (hb : fn.body = some body) (hn : fn.ntmps = n) (ha : Nat.ble args.length n = true)
    (h1 : ∀ c, c.h0 = h → At P (bodyPostM Fence.wide 4 P fn (retPost c post)) ⟨n, []⟩ (params 0 args) (Mem c Ω h) [.code body]) : Does P f args.toArray Ω h post := by
  intro w0 hm
  refine (callsIn_wide (n := 4)).1 (callsIn_of_wp_marks hf hb trivial (wpIn_wide.2 ?_))
  have hle : args.length ≤ n := Nat.le_of_ble_eq_true ha
  refine wp_mono (h1 (ctx w0 Ω h) rfl _ _ ⟨rfl, by simp [hn]; omega, ?_⟩ hm) fun e a w hq => hq
  intro t v ht
  have ⟨_, hv⟩ := params_lk args 0 t v ht
  simp at hv
  have hlt : t < args.length := (List.getElem?_eq_some_iff.1 hv).1
  simp [Array.getElem?_append, hlt]
  exact (List.getElem?_eq_some_iff.1 hv).2

theorem Mem.shut {D : Nat} {w : World} (m : Mem c (dblk D :: Ω) h w) : ∃ w', (Instr.takeDeferred D).run P w = .ok [] w' ∧ Mem c Ω h w' := by
  have hD : w.heap[D]? = some (.deferred (some [])) := m.own _ (List.mem_cons_self ..)
  have hsep := List.pairwise_cons.1 m.sep
  have hg := grownBy_putObj' w D (.deferred none)
  have hne : ∀ i ∈ Ω, ∀ b, i.B b → b ≠ D := fun i hi b hb e => hsep.1 i hi b e hb
  refine ⟨_, run_takeDeferred hD, ?_⟩
  refine ⟨hg.os.trans m.os, hg.tape.trans m.tape, hg.output.trans m.output, Nat.le_trans m.size hg.size, fun b h1 h2 => ?_, m.hext, fun b o ho => ?_, fun i hi => ?_, hsep.2, fun i hi => m.apart i (List.mem_cons_of_mem _ hi), fun i hi => m.mine i (List.mem_cons_of_mem _ hi)⟩
  · have hbD : b ≠ D := fun e => by
      subst e
      rcases m.mine (dblk b) (List.mem_cons_self ..) b rfl with h3 | h3
      · omega
      · exact h2 h3
    rw [hg.block b (Nat.lt_of_lt_of_le h1 m.size) (by simpa using hbD)]; exact m.still b h1 h2
  · have hbD : b ≠ D := fun e => by
      subst e
      have := m.apart (dblk b) (List.mem_cons_self ..) b rfl
      rw [this] at ho; cases ho
    rw [hg.block b (Array.getElem?_eq_some_iff.1 (m.hv b o ho)).1 (by simpa using hbD)]; exact m.hv b o ho
  · exact i.loc w _ (fun b hb => hg.block b (i.alive w b (m.own i (List.mem_cons_of_mem _ hi)) hb) (by simpa using hne i hi b hb)) (m.own i (List.mem_cons_of_mem _ hi))

theorem At.ret1M {D : Nat} {r : ResultVar} {v : Value} (hr : fn.results = #[r]) (h1 : Res P σ (Mem c Ω h) r v) (hs : Ω'.Sublist Ω) (hp : post v Ω' h) :
    At P (bodyPostM Fence.wide 4 P fn (retPost c post)) ⟨n, [mark D]⟩ σ (Mem c (dblk D :: Ω) h) (.code .ret :: k) :=
  At.ret fun a w ha hw => by
    obtain ⟨w', ht, hm⟩ := hw.shut (P := P)
    show LeavesInM Fence.wide 4 P fn a.tmps (retPost c post) a.defers .returning w
    rw [ha.defers]
    exact ⟨by simp, .inl ⟨D, w', rfl, ht, v, results1 hr ha hm h1, v, rfl, Ω', h, hp, hm.sub hs⟩⟩
theorem At.ret2M {D : Nat} {r1 r2 : ResultVar} {v1 v2 : Value} (hr : fn.results = #[r1, r2]) (h1 : Res P σ (Mem c Ω h) r1 v1) (h2 : Res P σ (Mem c Ω h) r2 v2) (hs : Ω'.Sublist Ω) (hp : post (.tuple #[v1, v2]) Ω' h) :
    At P (bodyPostM Fence.wide 4 P fn (retPost c post)) ⟨n, [mark D]⟩ σ (Mem c (dblk D :: Ω) h) (.code .ret :: k) :=
  At.ret fun a w ha hw => by
    obtain ⟨w', ht, hm⟩ := hw.shut (P := P)
    show LeavesInM Fence.wide 4 P fn a.tmps (retPost c post) a.defers .returning w
    rw [ha.defers]
    exact ⟨by simp, .inl ⟨D, w', rfl, ht, _, results2 hr ha hm h1 h2, _, rfl, Ω', h, hp, hm.sub hs⟩⟩
/-- the return ahead of the range -/
theorem At.ret2M0 {r1 r2 : ResultVar} {v1 v2 : Value} (hr : fn.results = #[r1, r2]) (h1 : Res P σ (Mem c Ω h) r1 v1) (h2 : Res P σ (Mem c Ω h) r2 v2) (hs : Ω'.Sublist Ω) (hp : post (.tuple #[v1, v2]) Ω' h) :
    At P (bodyPostM Fence.wide 4 P fn (retPost c post)) ⟨n, []⟩ σ (Mem c Ω h) (.code .ret :: k) :=
  At.ret fun a w ha hw => by
    show LeavesInM Fence.wide 4 P fn a.tmps (retPost c post) a.defers .returning w
    rw [ha.defers]
    exact ⟨_, results2 hr ha hw h1 h2, _, rfl, Ω', h, hp, hw.sub hs⟩
end
end Go.Sy
