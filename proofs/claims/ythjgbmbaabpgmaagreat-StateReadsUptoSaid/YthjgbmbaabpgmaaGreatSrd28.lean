/-
  From text to text: the delta.
-/
import Derived.Test.YthjgbmbaabpgmaaGreatSrd05
import Derived.Test.YthjgbmbaabpgmaaGreatSrd27
set_option linter.unusedVariables false
set_option linter.unusedSimpArgs false
set_option linter.unusedSectionVars false
namespace Go.Proofs.YthjgbmbaabpgmaaGreat
open Go.Sy
set_option maxRecDepth 4000
set_option maxHeartbeats 4000000
attribute [local irreducible] At Ops Val Eff Does Res Dr tabc
namespace Ox
/-- where two texts that are compared may stand, and what was put out -/
inductive DiffR (x y : List Nat) : Nat → Nat → Gp → Prop
  | start : DiffR x y 0 0 ⟨0, 0, 0, []⟩
  | same {i k : Nat} {s : Gp} : DiffR x y i k s → (h1 : i < x.length) → (h2 : k < y.length) → x[i] = y[k] → DiffR x y (i + 1) (k + 1) ⟨gapK s + 1, 0, 0, gap3 y k s⟩
  | del {i k : Nat} {s : Gp} : DiffR x y i k s → (h1 : i < x.length) → (∀ h2 : k < y.length, x[i] ≠ y[k] ∧ lcs (x.drop i) (y.drop (k + 1)) ≤ lcs (x.drop (i + 1)) (y.drop k)) → DiffR x y (i + 1) k ⟨s.kept, s.ins, s.gone + 1, s.out⟩
  | ins {i k : Nat} {s : Gp} : DiffR x y i k s → (h2 : k < y.length) → (∀ h1 : i < x.length, x[i] ≠ y[k] ∧ lcs (x.drop (i + 1)) (y.drop k) < lcs (x.drop i) (y.drop (k + 1))) → DiffR x y i (k + 1) ⟨s.kept, s.ins + 1, s.gone, s.out⟩
theorem DiffR.le {x y : List Nat} {i k : Nat} {s : Gp} (h : DiffR x y i k s) : i ≤ x.length ∧ k ≤ y.length ∧ s.ins ≤ k ∧ s.kept ≤ i ∧ s.gone ≤ i ∧ s.out.length ≤ 3 * i := by
  induction h with
  | start => simp
  | @same i k s _ h1 h2 _ ih =>
    have := gap3_length y k s
    have hK : gapK s ≤ s.kept := by unfold gapK; split <;> omega
    simp only
    omega
  | del _ h1 _ ih => simp only; omega
  | ins _ h1 _ ih => simp only; omega
theorem gap3_short {y : List Nat} (hy : y.length ≤ 1000) (k : Nat) (s : Gp) (hs : ∀ o ∈ s.out, o.text.length ≤ 100000) : ∀ o ∈ gap3 y k s, o.text.length ≤ 100000 := by
  have henc : ∀ a b : Nat, (encs ((y.drop a).take b)).length ≤ 100000 := fun a b => by
    have := encs_length ((y.drop a).take b)
    have h1 : ((y.drop a).take b).length ≤ 1000 := by rw [List.length_take, List.length_drop]; omega
    omega
  have h1 : ∀ o ∈ gap1 s, o.text.length ≤ 100000 := fun o ho => by
    unfold gap1 at ho; split at ho
    · rcases List.mem_append.1 ho with h | h
      · exact hs o h
      · simp at h; subst h; simp
    · exact hs o ho
  have h2 : ∀ o ∈ gap2 y k s, o.text.length ≤ 100000 := fun o ho => by
    unfold gap2 at ho; split at ho
    · rcases List.mem_append.1 ho with h | h
      · exact h1 o h
      · simp at h; subst h; exact henc _ _
    · exact h1 o ho
  intro o ho
  unfold gap3 at ho; split at ho
  · rcases List.mem_append.1 ho with h | h
    · exact h2 o h
    · simp at h; subst h; simp
  · exact h2 o ho
/-- a text short enough is not asked more of -/
theorem DiffR.short {x y : List Nat} {i k : Nat} {s : Gp} (h : DiffR x y i k s) (hy : y.length ≤ 1000) : ∀ o ∈ s.out, o.text.length ≤ 100000 := by
  induction h with
  | start => simp
  | same _ _ _ _ ih => exact gap3_short hy _ _ ih
  | del _ _ _ ih => exact ih
  | ins _ _ _ ih => exact ih
/-- what is handed back at the end -/
def diffOut (y : List Nat) (s : Gp) : List Op := if 0 < gapK s then gap3 y y.length s ++ [⟨1, (gapK s : Int), []⟩] else gap3 y y.length s
theorem DiffR.fin {x y : List Nat} {i k : Nat} {s : Gp} (h : DiffR x y i k s) (hy : y.length ≤ 1000) : ∀ o ∈ diffOut y s, o.text.length ≤ 100000 := fun o ho => by
  have h3 := gap3_short hy y.length s (h.short hy)
  unfold diffOut at ho; split at ho
  · rcases List.mem_append.1 ho with h | h
    · exact h3 o h
    · simp at h; subst h; simp
  · exact h3 o ho
end Ox

theorem Diff_does (a b : List UInt8) (ha : a.length ≤ 10000000000) (hb : b.length ≤ 10000000000) (h : HV) :
    Does Tryz.prog 130 #[str a, str b] [] h (fun r Ω' h' => HV.le h h' ∧ ((Ox.pointsE a b ≠ 0 ∧ r = .tuple #[.slice none 0 0, .int .i64 (Ox.pointsE a b)] ∧ Ω' = []) ∨
      (Ox.pointsE a b = 0 ∧ ∃ x y u s, Ox.points a = some x ∧ Ox.points b = some y ∧ x.length ≤ 1000 ∧ y.length ≤ 1000 ∧ Ox.DiffR x y x.length y.length s ∧ r = .tuple #[u, .int .i64 ((Ox.lens (Ox.diffOut y s)).2.2 : Int)] ∧ Ω' = [OpM u (Ox.diffOut y s)]))) := by
  refine Does.of Tryz.func130 rfl Tryz.ntmps130 rfl fun c hc0 => ?_
  refine goK _ ?_
  refine Ops.eff rfl rfl rfl (Eff.call (fn (by kernel_rfl)) rfl (Ωc := []) rfl (dpoints_does a b ha hb h)) fun _ => Ops.ex fun _ => Ops.ex fun _ => Ops.pure ?_
  rintro ⟨rfl, hle, hq⟩
  rcases hq with ⟨hne, rfl⟩ | ⟨h0, x, y, u, v, hpa, hpb, hxl, hyl, rfl, hu, hv⟩
  · refine goK _ ?_
    refine Ops.eff rfl rfl rfl (E.alloc rfl) fun _ => Ops.ex fun b7 => Ops.pure ?_
    rintro rfl
    refine goK _ ?_
    refine Ops.eff0 rfl rfl (E.store 0 rfl rfl rfl rfl rfl rfl rfl) fun _ => ?_
    refine goK _ ?_
    refine At.condN rfl (fun h1 => ?_) (fun h1 => ?_)
    · refine goK _ ?_
      exact At.ret2 Tryz.results130 (Res.tmp rfl) (Res.tmp rfl) (List.nil_sublist _) ⟨hle, .inl ⟨hne, rfl, rfl⟩⟩
    · exact absurd h1 hne
  obtain ⟨xa, xcp, rfl⟩ := hu.form
  obtain ⟨ya, ycp, rfl⟩ := hv.form
  have hyp := (Ox.encs_points hpb).2
  refine goK _ ?_
  refine Ops.eff rfl rfl rfl (E.alloc rfl) fun _ => Ops.ex fun b7 => Ops.pure ?_
  rintro rfl
  refine goK _ ?_
  refine Ops.eff0 rfl rfl (E.store 0 rfl rfl rfl rfl rfl rfl rfl) fun _ => ?_
  refine goK _ ?_
  refine Ops.eff rfl rfl rfl (Eff.call (fn (by kernel_rfl)) rfl (Ωc := []) rfl (rows_does (.slice xa x.length xcp) (.slice ya y.length ycp) x y hxl hyl _ hu hv)) fun _ => Ops.ex fun _ => Ops.ex fun _ => Ops.pure ?_
  rintro ⟨hle2, us, hul, rfl, htab⟩
  refine Ops.val rfl rfl rfl (Val.assign rfl) ?_
  refine Ops.nil ?_
  refine At.publish_row 0 rfl fun h3 hle3 hsl3 => ?_
  obtain ⟨ta, tcp, rfl⟩ := hsl3.form
  have hu3 := hu.mono (hle2.trans hle3)
  have hv3 := hv.mono (hle2.trans hle3)
  have htab3 : TabH h3 us x y 0 := fun j h1 h2 => by
    obtain ⟨w, h4, h5⟩ := htab j h1 h2
    exact ⟨w, h4, h5.mono hle3⟩
  refine goK _ ?_
  refine Ops.eff rfl rfl rfl (E.alloc rfl) fun _ => Ops.ex fun b10 => Ops.pure ?_
  rintro rfl
  refine goK _ ?_
  refine Ops.eff rfl rfl rfl (E.alloc rfl) fun _ => Ops.ex fun b11 => Ops.pure ?_
  rintro rfl
  refine goK _ ?_
  refine Ops.eff rfl rfl rfl (E.alloc rfl) fun _ => Ops.ex fun b12 => Ops.pure ?_
  rintro rfl
  refine goK _ ?_
  refine Ops.eff rfl rfl rfl (E.alloc rfl) fun _ => Ops.ex fun b13 => Ops.pure ?_
  rintro rfl
  refine goK _ ?_
  refine Ops.eff0 rfl rfl (E.store 2 rfl rfl rfl rfl rfl rfl rfl) fun _ => ?_
  refine Ops.eff0 rfl rfl (E.store 1 rfl rfl rfl rfl rfl rfl rfl) fun _ => ?_
  refine Ops.eff0 rfl rfl (E.store 0 rfl rfl rfl rfl rfl rfl rfl) fun _ => ?_
  refine goK _ ?_
  refine Ops.val rfl rfl rfl (Val.makeFunc (cs := #[.pointer (some ⟨b13, 0, none⟩), .pointer (some ⟨b11, 0, none⟩), .pointer (some ⟨b12, 0, none⟩), .pointer (some ⟨b10, 0, none⟩), .pointer (some ⟨b7, 0, none⟩)]) (fun ρ hρ => by simp [hρ _ _ (show ev _ (.tmp 13) = some _ from rfl), hρ _ _ (show ev _ (.tmp 11) = some _ from rfl), hρ _ _ (show ev _ (.tmp 12) = some _ from rfl), hρ _ _ (show ev _ (.tmp 10) = some _ from rfl), hρ _ _ (show ev _ (.tmp 7) = some _ from rfl)])) ?_
  refine goK _ ?_
  refine At.row_nil 112 3 ?_
  refine At.pick (Ω' := GpM b13 b11 b12 b10 b7 (.slice none 0 0) (.slice ya y.length ycp) ⟨0, 0, 0, []⟩) [1, 3, 2, 4, 0, 5] (by decide) rfl ?_
  refine At.loop4 (fun (i : Nat) (k : Nat) (_ : Ox.Gp) (_ : Value) => [(6, .slice xa x.length xcp), (7, .pointer (some ⟨b7, 0, none⟩)), (9, .slice ta (x.length + 1) tcp), (10, .pointer (some ⟨b10, 0, none⟩)), (11, .pointer (some ⟨b11, 0, none⟩)), (12, .pointer (some ⟨b12, 0, none⟩)), (13, .pointer (some ⟨b13, 0, none⟩)),
      (14, .func (.func 160) #[] #[.pointer (some ⟨b13, 0, none⟩), .pointer (some ⟨b11, 0, none⟩), .pointer (some ⟨b12, 0, none⟩), .pointer (some ⟨b10, 0, none⟩), .pointer (some ⟨b7, 0, none⟩)]), (15, .int .i64 (i : Int)), (16, .int .i64 (k : Int))])
    (fun (i : Nat) (k : Nat) (s : Ox.Gp) (ov : Value) w => Ox.DiffR x y i k s ∧ Mem c [cells b13 [.int .i64 (s.kept : Int)] 3, cells b11 [.int .i64 (s.ins : Int)] 3, cells b12 [.int .i64 (s.gone : Int)] 3, cells b10 [ov] 38, row 112 3 ov s.out.length (s.out.flatMap opc), cells b7 [.slice ya y.length ycp] 32] h3 w) (fun (i : Nat) (k : Nat) (_ : Ox.Gp) (_ : Value) => (x.length - i) + (y.length - k))
    0 0 ⟨0, 0, 0, []⟩ (.slice none 0 0) ⟨rfl, rfl, rfl, rfl, rfl, rfl, rfl, rfl, rfl, rfl, trivial⟩ (fun w hw => ⟨.start, hw⟩) (fun i k s ov => At.pure (fun hR => ?_))
  obtain ⟨hi, hk, hb1, hb2, hb3, hb4⟩ := hR.le
  refine goK _ ?_
  refine Ops.forkR 40 (.bool (decide (i < x.length ∨ k < y.length))) [6, 7, 9, 10, 11, 12, 13, 14, 15, 16] ?_ (fun main => ?_)
  rotate_left
  · repeat' (first
      | refine opS _ ?_
      | refine Ops.gsplit rfl rfl (fun hb => ?_) (fun hb => ?_)
      | refine Ops.psplit rfl (fun hb => ?_) (fun hb => ?_))
    all_goals (refine Ops.nil ?_; refine main.sub ⟨congrArg (fun b => some (Value.bool b)) ?_, (by repeat (first | exact trivial | refine ⟨rfl, ?_⟩))⟩; clear main; (rw [Bool.eq_iff_iff]; simp at *; try omega))
  refine At.condP rfl (fun h4 => ?_) (fun h4 => ?_)
  rotate_left
  · obtain rfl : i = x.length := by omega
    obtain rfl : k = y.length := by omega
    refine goK _ ?_
    refine Ops.eff rfl rfl rfl (Eff.callv (fn (by kernel_rfl)) rfl rfl (Ωc := GpM b13 b11 b12 b10 b7 ov (.slice ya y.length ycp) s) rfl (dgap_does b13 b11 b12 b10 b7 y.length ov (.slice ya y.length ycp) y s hyl (Nat.le_refl _) hb1 (by omega) (by omega) (by omega) hyp h3 hv3)) fun _ => Ops.ex fun _ => Ops.ex fun _ => Ops.pure ?_
    rintro ⟨⟨v', rfl⟩, rfl⟩
    refine Ops.imp (S' := Mem c [cells b13 [.int .i64 (Ox.gapK s : Int)] 3, cells b11 [.int .i64 0] 3, cells b12 [.int .i64 0] 3, cells b10 [v'] 38, row 112 3 v' (Ox.gap3 y y.length s).length ((Ox.gap3 y y.length s).flatMap opc), cells b7 [.slice ya y.length ycp] 32] h3) ?_ (fun w hw => hw)
    have hg3 := Ox.gap3_length y y.length s
    refine goK _ ?_
    refine At.meet1 (fun (_ : Value) => [(10, .pointer (some ⟨b10, 0, none⟩))]) (fun (v2 : Value) w => Mem c [row 112 3 v2 (Ox.diffOut y s).length ((Ox.diffOut y s).flatMap opc), cells b10 [v2] 38] h3 w) (fun k' meet => ?_) (fun v2 => ?_)
    · refine At.condP rfl (fun h5 => ?_) (fun h5 => ?_)
      · refine goK _ ?_
        refine Ops.eff rfl rfl rfl (E.buildSlice1 rfl rfl rfl rfl) fun _ => Ops.ex fun _ => Ops.pure ?_
        rintro rfl
        refine Ops.eff rfl rfl rfl (E.append1s 4 rfl rfl rfl rfl rfl rfl (by omega) (by omega)) fun _ => Ops.ex fun g2 => Ops.ex fun cp2 => Ops.pure ?_
        rintro rfl
        refine Ops.eff0 rfl rfl (E.store 3 rfl rfl rfl rfl rfl rfl rfl) fun _ => ?_
        refine goK _ ?_
        refine meet (.slice (some ⟨g2, 0, none⟩) ((Ox.gap3 y y.length s).length + 1) cp2) (by exact ⟨rfl, trivial⟩) (fun w hw => ?_)
        rw [Ox.diffOut, if_pos (by omega), List.length_append, List.flatMap_append]
        exact hw.pick [4, 3] (by decide) rfl
      · refine goK _ ?_
        refine meet v' (by exact ⟨rfl, trivial⟩) (fun w hw => ?_)
        rw [Ox.diffOut, if_neg (by omega)]
        exact hw.pick [4, 3] (by decide) rfl
    have hos : ∀ o ∈ Ox.diffOut y s, o.text.length ≤ 10000000000 := fun o ho => by
      have h7 := (Ox.DiffR.fin hR hyl) o ho
      omega
    have hchk : Does Tryz.prog 101 #[v2] [row 112 3 v2 (Ox.diffOut y s).length ((Ox.diffOut y s).flatMap opc)] h3 (fun r Ω' h' => r = .int .i64 ((Ox.lens (Ox.diffOut y s)).2.2 : Int) ∧ Ω' = [row 112 3 v2 (Ox.diffOut y s).length ((Ox.diffOut y s).flatMap opc)] ∧ h3 = h') :=
      (Does.lend (Ωc := []) (post := fun r Ω' => r = .int .i64 ((Ox.lens (Ox.diffOut y s)).2.2 : Int) ∧ Ω' = []) (fun h' hle' hsl => (Check_does v2 (Ox.diffOut y s) hos h' hsl).mono fun r Ω' h'' ⟨e1, e2, e3⟩ => ⟨⟨e1, e2⟩, e3⟩)).mono fun r Ω' h' ⟨⟨Ω'', ⟨e1, e2⟩, e3⟩, e4⟩ => ⟨e1, by rw [e3, e2], e4⟩
    refine goK _ ?_
    first | refine At.drawn mo (fun _ _ m => m.drew _) ?_ | refine At.seq (At.drawn mo (fun _ _ m => m.drew _) ?_)
    refine draA 0 _ ?_
    refine draA 1 _ ?_
    refine Dr.next (e := 2) rfl rfl (by kernel_rfl) rfl (by kernel_rfl) (by kernel_rfl) rfl rfl (Eff.call (fn (by kernel_rfl)) rfl (Ωc := [row 112 3 v2 (Ox.diffOut y s).length ((Ox.diffOut y s).flatMap opc)]) rfl (hchk)) aokK fun _ => Dr.ex fun _ => Dr.ex fun _ => Dr.pure ?_
    rintro ⟨rfl, rfl, rfl⟩
    refine draA 3 _ ?_
    refine draA 4 _ ?_
    refine Dr.done (by kernel_rfl) (by kernel_rfl) ?_
    exact At.ret2 Tryz.results130 (Res.tmp rfl) (Res.tmp rfl) ((List.nil_sublist _).cons_cons _) ⟨hle.trans (hle2.trans hle3), .inr ⟨h0, x, y, v2, s, hpa, hpb, hxl, hyl, hR, rfl, rfl⟩⟩
  refine goK _ ?_
  refine At.meet1 (fun (_ : Unit) => [(45, .bool (decide (i < x.length ∧ k < y.length ∧ x[i]? = y[k]?))), (6, .slice xa x.length xcp), (7, .pointer (some ⟨b7, 0, none⟩)), (9, .slice ta (x.length + 1) tcp), (10, .pointer (some ⟨b10, 0, none⟩)), (11, .pointer (some ⟨b11, 0, none⟩)), (12, .pointer (some ⟨b12, 0, none⟩)), (13, .pointer (some ⟨b13, 0, none⟩)), (14, .func (.func 160) #[] #[.pointer (some ⟨b13, 0, none⟩), .pointer (some ⟨b11, 0, none⟩), .pointer (some ⟨b12, 0, none⟩), .pointer (some ⟨b10, 0, none⟩), .pointer (some ⟨b7, 0, none⟩)]), (15, .int .i64 (i : Int)), (16, .int .i64 (k : Int))])
    (fun _ w => Mem c [cells b13 [.int .i64 (s.kept : Int)] 3, cells b11 [.int .i64 (s.ins : Int)] 3, cells b12 [.int .i64 (s.gone : Int)] 3, cells b10 [ov] 38, row 112 3 ov s.out.length (s.out.flatMap opc), cells b7 [.slice ya y.length ycp] 32] h3 w) (fun k' meet => ?_) (fun _ => ?_)
  · first | refine At.drawn mo (fun _ _ m => m.drew _) ?_ | refine At.seq (At.drawn mo (fun _ _ m => m.drew _) ?_)
    refine draA 0 _ ?_
    refine draA 1 _ ?_
    refine draA 2 _ ?_
    refine draA 3 _ ?_
    refine draA 4 _ ?_
    refine Dr.boolP (t := 50) rfl (fun h5 => ?_) (fun h5 => ?_)
    rotate_left
    · refine draA 5 _ ?_
      refine draA 6 _ ?_
      refine draA 7 _ ?_
      refine draA 8 _ ?_
      refine draA 9 _ ?_
      refine draA 10 _ ?_
      refine draA 11 _ ?_
      refine draA 12 _ ?_
      refine draA 13 _ ?_
      refine draA 14 _ ?_
      refine draA 15 _ ?_
      refine draA 16 _ ?_
      refine draA 17 _ ?_
      refine draA 18 _ ?_
      refine draA 19 _ ?_
      refine draA 20 _ ?_
      refine draA 21 _ ?_
      refine Dr.done (by kernel_rfl) (by kernel_rfl) ?_
      refine meet () (by exact ⟨congrArg (fun z => some (Value.bool z)) (by simp; omega), rfl, rfl, rfl, rfl, rfl, rfl, rfl, rfl, rfl, rfl, trivial⟩) (fun w hw => hw)
    refine draA 5 _ ?_
    refine draA 6 _ ?_
    refine draA 7 _ ?_
    refine draA 8 _ ?_
    refine draA 9 _ ?_
    refine draA 10 _ ?_
    refine Dr.boolP (t := 56) rfl (fun h6 => ?_) (fun h6 => ?_)
    rotate_left
    · refine draA 11 _ ?_
      refine draA 12 _ ?_
      refine draA 13 _ ?_
      refine draA 14 _ ?_
      refine draA 15 _ ?_
      refine draA 16 _ ?_
      refine draA 17 _ ?_
      refine draA 18 _ ?_
      refine draA 19 _ ?_
      refine draA 20 _ ?_
      refine draA 21 _ ?_
      refine Dr.done (by kernel_rfl) (by kernel_rfl) ?_
      refine meet () (by exact ⟨congrArg (fun z => some (Value.bool z)) (by simp; omega), rfl, rfl, rfl, rfl, rfl, rfl, rfl, rfl, rfl, rfl, trivial⟩) (fun w hw => hw)
    have hil : i < x.length := by omega
    have hkl : k < y.length := by omega
    obtain ⟨b0, o0, rfl, _, _, hcx⟩ := SlH.get hu3 (i := i) (u := .int .i64 (x[i] : Int)) (by simp [ints, hil])
    obtain ⟨b1, o1, rfl, _, _, hcy⟩ := SlH.get hv3 (i := k) (u := .int .i64 (y[k] : Int)) (by simp [ints, hkl])
    refine Dr.val 11 rfl rfl rfl rfl (by kernel_rfl) rfl (Val.move rfl) ?_
    refine Dr.val 12 rfl rfl rfl rfl (by kernel_rfl) rfl (Val.move rfl) ?_
    refine Dr.val 13 rfl rfl rfl rfl (by kernel_rfl) rfl (V.indexAddr rfl rfl rfl rfl hil) ?_
    refine Dr.valS 14 _ rfl rfl rfl rfl (by kernel_rfl) rfl (V.load rfl rfl (fun _ hh => hh)) (fun w hw => hw.cellH (hcx)) ?_
    refine draA 15 _ ?_
    refine draA 16 _ ?_
    refine Dr.val 17 rfl rfl rfl rfl (by kernel_rfl) rfl (V.indexAddr rfl rfl rfl rfl hkl) ?_
    refine Dr.valS 18 _ rfl rfl rfl rfl (by kernel_rfl) rfl (V.load rfl rfl (fun _ hh => hh)) (fun w hw => hw.cellH (hcy)) ?_
    refine draA 19 _ ?_
    refine draA 20 _ ?_
    refine draA 21 _ ?_
    refine Dr.done (by kernel_rfl) (by kernel_rfl) ?_
    refine meet () (by exact ⟨congrArg (fun z => some (Value.bool z)) (by rw [Bool.eq_iff_iff]; simp [hil, hkl]; omega), rfl, rfl, rfl, rfl, rfl, rfl, rfl, rfl, rfl, rfl, trivial⟩) (fun w hw => hw)
  refine goK _ ?_
  refine At.condP rfl (fun h5 => ?_) (fun h5 => ?_)
  · obtain ⟨hil, hkl, heq⟩ := h5
    have heq' : x[i] = y[k] := by simpa [hil, hkl] using heq
    refine goK _ ?_
    refine Ops.eff rfl rfl rfl (Eff.callv (fn (by kernel_rfl)) rfl rfl (Ωc := GpM b13 b11 b12 b10 b7 ov (.slice ya y.length ycp) s) rfl (dgap_does b13 b11 b12 b10 b7 k ov (.slice ya y.length ycp) y s hyl hk hb1 (by omega) (by omega) (by omega) hyp h3 hv3)) fun _ => Ops.ex fun _ => Ops.ex fun _ => Ops.pure ?_
    rintro ⟨⟨v', rfl⟩, rfl⟩
    refine Ops.imp (S' := Mem c [cells b13 [.int .i64 (Ox.gapK s : Int)] 3, cells b11 [.int .i64 0] 3, cells b12 [.int .i64 0] 3, cells b10 [v'] 38, row 112 3 v' (Ox.gap3 y k s).length ((Ox.gap3 y k s).flatMap opc), cells b7 [.slice ya y.length ycp] 32] h3) ?_ (fun w hw => hw)
    have hgk : Ox.gapK s ≤ s.kept := by unfold Ox.gapK; split <;> omega
    refine goK _ ?_
    refine Ops.eff0 rfl rfl (E.store 0 rfl rfl rfl rfl rfl rfl rfl) fun _ => ?_
    refine goK _ ?_
    refine At.back4 (i + 1) (k + 1) ⟨Ox.gapK s + 1, 0, 0, Ox.gap3 y k s⟩ v' (by show (x.length - (i + 1)) + (y.length - (k + 1)) < (x.length - i) + (y.length - k); omega) (by exact ⟨rfl, rfl, rfl, rfl, rfl, rfl, rfl, rfl, rfl, rfl, trivial⟩) (fun w hw => ⟨.same hR hil hkl heq', hw⟩)
  have hne : ∀ (h1 : i < x.length) (h2 : k < y.length), x[i] ≠ y[k] := fun h1 h2 e => h5 ⟨h1, h2, by simp [h1, h2, e]⟩
  refine goK _ ?_
  refine At.meet1 (fun (_ : Unit) => [(76, .bool (decide (k = y.length ∨ (i < x.length ∧ Ox.lcs (x.drop i) (y.drop (k + 1)) ≤ Ox.lcs (x.drop (i + 1)) (y.drop k))))), (6, .slice xa x.length xcp), (7, .pointer (some ⟨b7, 0, none⟩)), (9, .slice ta (x.length + 1) tcp), (10, .pointer (some ⟨b10, 0, none⟩)), (11, .pointer (some ⟨b11, 0, none⟩)), (12, .pointer (some ⟨b12, 0, none⟩)), (13, .pointer (some ⟨b13, 0, none⟩)), (14, .func (.func 160) #[] #[.pointer (some ⟨b13, 0, none⟩), .pointer (some ⟨b11, 0, none⟩), .pointer (some ⟨b12, 0, none⟩), .pointer (some ⟨b10, 0, none⟩), .pointer (some ⟨b7, 0, none⟩)]), (15, .int .i64 (i : Int)), (16, .int .i64 (k : Int))])
    (fun _ w => Mem c [cells b13 [.int .i64 (s.kept : Int)] 3, cells b11 [.int .i64 (s.ins : Int)] 3, cells b12 [.int .i64 (s.gone : Int)] 3, cells b10 [ov] 38, row 112 3 ov s.out.length (s.out.flatMap opc), cells b7 [.slice ya y.length ycp] 32] h3 w) (fun k' meet => ?_) (fun _ => ?_)
  · first | refine At.drawn mo (fun _ _ m => m.drew _) ?_ | refine At.seq (At.drawn mo (fun _ _ m => m.drew _) ?_)
    refine draA 0 _ ?_
    refine draA 1 _ ?_
    refine draA 2 _ ?_
    refine draA 3 _ ?_
    refine draA 4 _ ?_
    refine Dr.boolP (t := 81) rfl (fun h6 => ?_) (fun h6 => ?_)
    · refine draA 5 _ ?_
      refine draA 6 _ ?_
      refine draA 7 _ ?_
      refine draA 8 _ ?_
      refine draA 9 _ ?_
      refine draA 10 _ ?_
      refine draA 11 _ ?_
      refine draA 12 _ ?_
      refine draA 13 _ ?_
      refine draA 14 _ ?_
      refine draA 15 _ ?_
      refine draA 16 _ ?_
      refine draA 17 _ ?_
      refine draA 18 _ ?_
      refine draA 19 _ ?_
      refine draA 20 _ ?_
      refine draA 21 _ ?_
      refine draA 22 _ ?_
      refine draA 23 _ ?_
      refine draA 24 _ ?_
      refine draA 25 _ ?_
      refine draA 26 _ ?_
      refine draA 27 _ ?_
      refine draA 28 _ ?_
      refine draA 29 _ ?_
      refine Dr.done (by kernel_rfl) (by kernel_rfl) ?_
      refine meet () (by exact ⟨congrArg (fun z => some (Value.bool z)) (by simp; omega), rfl, rfl, rfl, rfl, rfl, rfl, rfl, rfl, rfl, rfl, trivial⟩) (fun w hw => hw)
    refine draA 5 _ ?_
    refine draA 6 _ ?_
    refine draA 7 _ ?_
    refine draA 8 _ ?_
    refine draA 9 _ ?_
    refine Dr.boolP (t := 86) rfl (fun h7 => ?_) (fun h7 => ?_)
    rotate_left
    · refine draA 10 _ ?_
      refine draA 11 _ ?_
      refine draA 12 _ ?_
      refine draA 13 _ ?_
      refine draA 14 _ ?_
      refine draA 15 _ ?_
      refine draA 16 _ ?_
      refine draA 17 _ ?_
      refine draA 18 _ ?_
      refine draA 19 _ ?_
      refine draA 20 _ ?_
      refine draA 21 _ ?_
      refine draA 22 _ ?_
      refine draA 23 _ ?_
      refine draA 24 _ ?_
      refine draA 25 _ ?_
      refine draA 26 _ ?_
      refine draA 27 _ ?_
      refine draA 28 _ ?_
      refine draA 29 _ ?_
      refine Dr.done (by kernel_rfl) (by kernel_rfl) ?_
      refine meet () (by exact ⟨congrArg (fun z => some (Value.bool z)) (by simp; omega), rfl, rfl, rfl, rfl, rfl, rfl, rfl, rfl, rfl, rfl, trivial⟩) (fun w hw => hw)
    have hil : i < x.length := by omega
    have hkl : k < y.length := by omega
    obtain ⟨w1, hw1, ht1⟩ := htab3 (i + 1) (Nat.zero_le _) hil
    obtain ⟨w0, hw0, ht0⟩ := htab3 i (Nat.zero_le _) hi
    obtain ⟨a1, cp1, rfl⟩ := ht1.form
    obtain ⟨a0, cp0, rfl⟩ := ht0.form
    obtain ⟨bt, ot, rfl, _, _, hct1⟩ := SlH.get hsl3 hw1
    obtain ⟨bt', ot', e', _, _, hct0⟩ := SlH.get hsl3 hw0
    cases e'
    obtain ⟨br1, or1, rfl, _, _, hcr1⟩ := SlH.get ht1 (i := k) (tabc_get x y (i + 1) (by omega))
    obtain ⟨br0, or0, rfl, _, _, hcr0⟩ := SlH.get ht0 (i := k + 1) (tabc_get x y i (by omega))
    refine draA 10 _ ?_
    refine draA 11 _ ?_
    refine draA 12 _ ?_
    refine Dr.respell (t := 89) (v' := .int .i64 ((i + 1 : Nat) : Int)) rfl (by congr 1) ?_
    refine Dr.val 13 rfl rfl rfl rfl (by kernel_rfl) rfl (V.indexAddr rfl rfl rfl rfl (by omega)) ?_
    refine Dr.valS 14 _ rfl rfl rfl rfl (by kernel_rfl) rfl (V.load rfl rfl (fun _ hh => hh)) (fun w hw => hw.cellH (hct1)) ?_
    refine Dr.val 15 rfl rfl rfl rfl (by kernel_rfl) rfl (Val.move rfl) ?_
    refine Dr.val 16 rfl rfl rfl rfl (by kernel_rfl) rfl (V.indexAddr rfl rfl rfl rfl (by omega)) ?_
    refine Dr.valS 17 _ rfl rfl rfl rfl (by kernel_rfl) rfl (V.load rfl rfl (fun _ hh => hh)) (fun w hw => hw.cellH (hcr1)) ?_
    refine Dr.val 18 rfl rfl rfl rfl (by kernel_rfl) rfl (Val.move rfl) ?_
    refine Dr.val 19 rfl rfl rfl rfl (by kernel_rfl) rfl (Val.move rfl) ?_
    refine Dr.val 20 rfl rfl rfl rfl (by kernel_rfl) rfl (V.indexAddr rfl rfl rfl rfl (by omega)) ?_
    refine Dr.valS 21 _ rfl rfl rfl rfl (by kernel_rfl) rfl (V.load rfl rfl (fun _ hh => hh)) (fun w hw => hw.cellH (hct0)) ?_
    refine Dr.val 22 rfl rfl rfl rfl (by kernel_rfl) rfl (Val.move rfl) ?_
    refine Dr.val 23 rfl rfl rfl rfl (by kernel_rfl) rfl (Val.add rfl rfl (by omega) (by omega)) ?_
    refine Dr.respell (t := 100) (v' := .int .i64 ((k + 1 : Nat) : Int)) rfl (by congr 1) ?_
    refine Dr.val 24 rfl rfl rfl rfl (by kernel_rfl) rfl (V.indexAddr rfl rfl rfl rfl (by omega)) ?_
    refine Dr.valS 25 _ rfl rfl rfl rfl (by kernel_rfl) rfl (V.load rfl rfl (fun _ hh => hh)) (fun w hw => hw.cellH (hcr0)) ?_
    refine draA 26 _ ?_
    refine draA 27 _ ?_
    refine draA 28 _ ?_
    refine draA 29 _ ?_
    refine Dr.done (by kernel_rfl) (by kernel_rfl) ?_
    refine meet () (by exact ⟨congrArg (fun z => some (Value.bool z)) (by rw [Bool.eq_iff_iff]; simp [hil]; omega), rfl, rfl, rfl, rfl, rfl, rfl, rfl, rfl, rfl, rfl, trivial⟩) (fun w hw => hw)
  refine goK _ ?_
  refine At.condP rfl (fun h6 => ?_) (fun h6 => ?_)
  · have hil : i < x.length := by omega
    refine goK _ ?_
    refine Ops.eff0 rfl rfl (E.store 2 rfl rfl rfl rfl rfl rfl rfl) fun _ => ?_
    refine goK _ ?_
    refine At.back4 (i + 1) k ⟨s.kept, s.ins, s.gone + 1, s.out⟩ ov (by show (x.length - (i + 1)) + (y.length - k) < (x.length - i) + (y.length - k); omega) (by exact ⟨rfl, rfl, rfl, rfl, rfl, rfl, rfl, rfl, rfl, rfl, trivial⟩) (fun w hw => ⟨.del hR hil (fun h2 => ⟨hne hil h2, by omega⟩), hw⟩)
  · have hkl : k < y.length := by omega
    refine goK _ ?_
    refine Ops.eff0 rfl rfl (E.store 1 rfl rfl rfl rfl rfl rfl rfl) fun _ => ?_
    refine goK _ ?_
    refine At.back4 i (k + 1) ⟨s.kept, s.ins + 1, s.gone, s.out⟩ ov (by show (x.length - i) + (y.length - (k + 1)) < (x.length - i) + (y.length - k); omega) (by exact ⟨rfl, rfl, rfl, rfl, rfl, rfl, rfl, rfl, rfl, rfl, trivial⟩) (fun w hw => ⟨.ins hR hkl (fun h1 => ⟨hne h1 hkl, by omega⟩), hw⟩)
end Go.Proofs.YthjgbmbaabpgmaaGreat
