/-
  From text to text: the code points, the table's row ahead of one.
-/
import Derived.Test.YthjgbmbaabpgmaaGreatSrd05
import Derived.Test.YthjgbmbaabpgmaaGreatSrd11
import Derived.Test.YthjgbmbaabpgmaaGreatSrd13
import Derived.Test.YthjgbmbaabpgmaaGreatSrd17
set_option linter.unusedVariables false
set_option linter.unusedSimpArgs false
set_option linter.unusedSectionVars false
namespace Go.Proofs.YthjgbmbaabpgmaaGreat
open Go.Sy
set_option maxRecDepth 4000
set_option maxHeartbeats 4000000
attribute [local irreducible] At Ops Val Eff Does Res Dr
namespace Ox
/-- the greatest common length -/
def lcs : List Nat → List Nat → Nat
  | [], _ => 0
  | _ :: _, [] => 0
  | a :: x, b :: y => if b = a then lcs x y + 1 else max (lcs x (b :: y)) (lcs (a :: x) y)
termination_by x y => x.length + y.length
theorem lcs_nil (x : List Nat) : lcs x [] = 0 := by cases x <;> simp [lcs]
theorem lcs_cons (a b : Nat) (x y : List Nat) : lcs (a :: x) (b :: y) = if b = a then lcs x y + 1 else max (lcs x (b :: y)) (lcs (a :: x) y) := by rw [lcs]
theorem lcs_le : ∀ (x y : List Nat), lcs x y ≤ x.length
  | [], _ => by simp [lcs]
  | _ :: _, [] => by simp [lcs]
  | a :: x, b :: y => by
    rw [lcs_cons]
    have h1 := lcs_le x y; have h2 := lcs_le x (b :: y); have h3 := lcs_le (a :: x) y
    simp only [List.length_cons] at *
    split <;> omega
termination_by x y => x.length + y.length
/-- why two texts are not compared; 0: they are -/
def pointsE (a b : List UInt8) : Int := match points a, points b with
  | some x, some y => if x.length ≤ 1000 ∧ y.length ≤ 1000 then 0 else 91
  | _, _ => 10
end Ox
/-- a table's row in memory -/
def arrc (f : Nat → Nat) : List Value := (List.range 1001).map fun k => .int .i16 (f k : Int)
theorem arrc_length (f : Nat → Nat) : (arrc f).length = 1001 := by simp [arrc]
theorem arrc_get (f : Nat → Nat) {k : Nat} (h : k < 1001) : (arrc f)[0 + k * 1]? = some (.int .i16 (f k : Int)) := by simp [arrc, h]
theorem arrc_set (f : Nat → Nat) (k v : Nat) : (arrc f).set (0 + k * 1) (.int .i16 (v : Int)) = arrc (fun j => if j = k then v else f j) := by
  apply List.ext_getElem?
  intro j
  simp only [Nat.zero_add, Nat.mul_one, List.getElem?_set, arrc_length]
  unfold arrc
  simp only [List.getElem?_map]
  by_cases hj : j < 1001
  · by_cases hk : k = j
    · subst hk; simp [hj]
    · simp [hj, hk, Ne.symm hk]
  · rw [List.getElem?_eq_none (by simpa using hj)]
    by_cases hk : k = j
    · subst hk; simp [hj]
    · simp [hk]
theorem arrc_one (f : Nat → Nat) : (arrc f).all (·.oneCell') = true := by simp [arrc, Value.oneCell']
theorem arrc_cells (f : Nat → Nat) : (Value.agg (arrc f).toArray).cells = (arrc f).toArray := rfl
theorem sets_all {cs l : List Value} (h : cs.length = l.length) : sets cs 0 l = l := by
  have key : ∀ (l cs : List Value) (o : Nat), cs.length = o + l.length → sets cs o l = cs.take o ++ l := by
    intro l
    induction l with
    | nil => intro cs o h; simp at h; simp [sets, ← h]
    | cons v r ih =>
      intro cs o h
      simp only [List.length_cons] at h
      rw [sets, ih (cs.set o v) (o + 1) (by simp; omega)]
      rw [List.take_succ_eq_append_getElem (by simp; omega)]
      simp [List.take_set_of_le]
  simpa using key l cs 0 (by simpa using h)
theorem arrc_zero : Tryz.zeroCells301 = (arrc (fun _ => 0)).toArray := by kernel_rfl
section
variable {σ : Slots} {c : Ctx} {Ω : List Itm} {h : HV} {ty : TypeId} {ps : String} {af : Array Edge} {g : Option (Nat × Bool)} {d : Option Nat} {x y ix : Operand}
theorem E.allocA : Eff Tryz.prog σ (Mem c Ω h) ⟨d, .alloc 301, ty, ps, af, g⟩ fun u w => ∃ b, u = .pointer (some ⟨b, 0, none⟩) ∧ Mem c (cells b (arrc (fun _ => 0)) 301 :: Ω) h w :=
  Eff.mono (Eff.alloc (z := Tryz.zeroCells301) (by kernel_rfl)) fun u w ⟨b, e, hw⟩ => ⟨b, e, by rw [arrc_zero] at hw; exact hw⟩
theorem E.storeA {b : Nat} (n : Nat) {f f' : Nat → Nat} (hx : ev σ x = some (.pointer (some ⟨b, 0, none⟩))) (hy : ev σ y = some (.agg (arrc f).toArray)) (hn : Ω[n]? = some (cells b (arrc f') 301)) :
    Eff Tryz.prog σ (Mem c Ω h) ⟨d, .store 301 x y, ty, ps, af, g⟩ fun _ w => Mem c (Ω.set n (cells b (arrc f) 301)) h w :=
  Eff.mono (Eff.store (ly (t := 301) rfl) hx hy hn (by simp [Value.cells, arrc_length]) (by rw [arrc_length]; omega) (by simpa [Value.cells] using arrc_one f)) fun u w hw => by
    have e : sets (arrc f') 0 (Value.agg (arrc f).toArray).cells.toList = arrc f := sets_all (by simp [Value.cells, arrc_length])
    rw [e] at hw; exact hw
theorem V.indexA {b o i : Nat} {K : IntKind} (hx : ev σ x = some (.pointer (some ⟨b, o, none⟩))) (hi : ev σ ix = some (.int K (i : Int))) (hlt : i < 1001) {S : World → Prop} :
    Val Tryz.prog σ S ⟨d, .indexAddr 301 x ix, ty, ps, af, g⟩ (.pointer (some ⟨b, o + i * 1, none⟩)) := Val.indexAddrA Tryz.underlying301 (ly (t := 251) rfl) hx hi hlt
theorem E.storeI {b k v : Nat} (n : Nat) {f : Nat → Nat} (hx : ev σ x = some (.pointer (some ⟨b, 0 + k * 1, none⟩))) (hy : ev σ y = some (.int .i16 (v : Int))) (hk : k < 1001) (hn : Ω[n]? = some (cells b (arrc f) 301)) :
    Eff Tryz.prog σ (Mem c Ω h) ⟨d, .store 251 x y, ty, ps, af, g⟩ fun _ w => Mem c (Ω.set n (cells b (arrc (fun j => if j = k then v else f j)) 301)) h w :=
  Eff.mono (Eff.store (ly (t := 251) rfl) hx hy hn rfl (by rw [arrc_length]; omega) rfl) fun u w hw => by
    rw [← arrc_set]; exact hw
theorem wrap_i16 {z : Int} (h0 : 0 ≤ z) (h1 : z < 32768) : IntKind.i16.wrap z = z := by
  simp only [IntKind.wrap, IntKind.signed, IntKind.bits]
  simp
  omega
theorem V.add16 {T T' : TypeId} {a : Nat} {S : World → Prop} (hx : ev σ x = some (.int .i16 (a : Int))) (hy : ev σ y = some (.int .i16 1)) (ha : a < 30000) :
    Val Tryz.prog σ S ⟨d, .binOp .add T x y T', ty, ps, af, g⟩ (.int .i16 ((a + 1 : Nat) : Int)) := Val.intop hx hy fun w => by
  simp [binOp, Op.intArith, wrap_i16 (z := (a : Int) + 1) (by omega) (by omega)]
end
attribute [local irreducible] arrc

theorem points_does' (s : List UInt8) (hs : s.length ≤ 100000000000) (h : HV) : Does Tryz.prog 145 #[str s] [] h (fun r Ω' h' => Ω' = [] ∧ HV.le h h' ∧ ∃ u x, r = .tuple #[u, .bool (Ox.points s).isSome] ∧ IntsH h' u x ∧ (Ox.points s).getD [] = x) :=
  (points_does s hs h).mono fun r Ω' h' ⟨e, hle, hp⟩ => ⟨e, hle, by
    cases hpa : Ox.points s with
    | none => rw [hpa] at hp; exact ⟨_, [], hp, SlH.nil _ _, rfl⟩
    | some x => rw [hpa] at hp; obtain ⟨u, e, hu⟩ := hp; exact ⟨u, x, e, hu, rfl⟩⟩

theorem dpoints_does (a b : List UInt8) (ha : a.length ≤ 10000000000) (hb : b.length ≤ 10000000000) (h : HV) :
    Does Tryz.prog 158 #[str a, str b] [] h (fun r Ω' h' => Ω' = [] ∧ HV.le h h' ∧ ((Ox.pointsE a b ≠ 0 ∧ r = .tuple #[.slice none 0 0, .slice none 0 0, .int .i64 (Ox.pointsE a b)]) ∨
      (Ox.pointsE a b = 0 ∧ ∃ x y u v, Ox.points a = some x ∧ Ox.points b = some y ∧ x.length ≤ 1000 ∧ y.length ≤ 1000 ∧ r = .tuple #[u, v, .int .i64 0] ∧ IntsH h' u x ∧ IntsH h' v y))) := by
  refine Does.of Tryz.func158 rfl Tryz.ntmps158 rfl fun c hc0 => ?_
  refine goK _ ?_
  refine Ops.eff rfl rfl rfl (Eff.call (fn (by kernel_rfl)) rfl (Ωc := []) rfl (points_does' a (by omega) h)) fun _ => Ops.ex fun _ => Ops.ex fun _ => Ops.pure ?_
  rintro ⟨rfl, hle1, u, x, rfl, hu, hx⟩
  refine goK _ ?_
  refine Ops.eff rfl rfl rfl (Eff.call (fn (by kernel_rfl)) rfl (Ωc := []) rfl (points_does' b (by omega) _)) fun _ => Ops.ex fun _ => Ops.ex fun _ => Ops.pure ?_
  rintro ⟨rfl, hle2, v, y, rfl, hv, hy⟩
  obtain ⟨ua, ucp, rfl⟩ := hu.form
  obtain ⟨va, vcp, rfl⟩ := hv.form
  refine goK _ ?_
  obtain ⟨sa, hsa⟩ : ∃ sa, (Ox.points a).isSome = sa := ⟨_, rfl⟩
  obtain ⟨sb, hsb⟩ : ∃ sb, (Ox.points b).isSome = sb := ⟨_, rfl⟩
  rw [hsa, hsb]
  refine Ops.forkR 21 (.bool (decide (sa = false ∨ sb = false))) [7, 9] ?_ (fun main => ?_)
  rotate_left
  · repeat' (first
      | refine opS _ ?_
      | refine Ops.gsplit rfl rfl (fun hb => ?_) (fun hb => ?_)
      | refine Ops.psplit rfl (fun hb => ?_) (fun hb => ?_))
    all_goals (refine Ops.nil ?_; refine main.sub ⟨congrArg (fun b => some (Value.bool b)) ?_, (by repeat (first | exact trivial | refine ⟨rfl, ?_⟩))⟩; clear main; (cases sa <;> cases sb <;> simp_all))
  refine At.condP rfl (fun h1 => ?_) (fun h1 => ?_)
  · refine goK _ ?_
    refine At.ret3 Tryz.results158 (Res.tmp rfl) (Res.tmp rfl) (Res.tmp rfl) (List.Sublist.refl _) ⟨rfl, hle1.trans hle2, .inl ?_⟩
    have : Ox.pointsE a b = 10 := by
      unfold Ox.pointsE
      cases hpa : Ox.points a <;> cases hpb : Ox.points b <;> simp_all
    rw [this]; exact ⟨by omega, rfl⟩
  refine goK _ ?_
  refine Ops.forkR 28 (.bool (decide (1000 < x.length ∨ 1000 < y.length))) [7, 9] ?_ (fun main => ?_)
  rotate_left
  · repeat' (first
      | refine opS _ ?_
      | refine Ops.gsplit rfl rfl (fun hb => ?_) (fun hb => ?_)
      | refine Ops.psplit rfl (fun hb => ?_) (fun hb => ?_))
    all_goals (refine Ops.nil ?_; refine main.sub ⟨congrArg (fun b => some (Value.bool b)) ?_, (by repeat (first | exact trivial | refine ⟨rfl, ?_⟩))⟩; clear main; (rw [Bool.eq_iff_iff]; simp at *; try omega))
  have hpe : Ox.pointsE a b = if x.length ≤ 1000 ∧ y.length ≤ 1000 then 0 else 91 := by
    unfold Ox.pointsE
    cases hpa : Ox.points a <;> cases hpb : Ox.points b <;> simp_all
  refine At.condP rfl (fun h2 => ?_) (fun h2 => ?_)
  · refine goK _ ?_
    refine At.ret3 Tryz.results158 (Res.tmp rfl) (Res.tmp rfl) (Res.tmp rfl) (List.Sublist.refl _) ⟨rfl, hle1.trans hle2, .inl ?_⟩
    rw [hpe, if_neg (by omega)]; exact ⟨by omega, rfl⟩
  refine goK _ ?_
  refine At.ret3 Tryz.results158 (Res.tmp rfl) (Res.tmp rfl) (Res.tmp rfl) (List.Sublist.refl _) ⟨rfl, hle1.trans hle2, .inr ⟨by rw [hpe, if_pos (by omega)], x, y, _, _, ?_, ?_, by omega, by omega, rfl, hu.mono hle2, hv⟩⟩
  · cases hpa : Ox.points a <;> simp_all
  · cases hpb : Ox.points b <;> simp_all

/-- the row ahead of one -/
def rowAt (x y : List Nat) (j : Nat) : Nat := Ox.lcs x (y.drop j)
theorem next_does (b p : Nat) (v : Value) (x y : List Nat) (hx : x.length < 1000) (hy : y.length ≤ 1000) (h : HV) (hv : IntsH h v y) :
    Does Tryz.prog 203 #[.pointer (some ⟨b, 0, none⟩), .int .i64 (p : Int), v] [cells b (arrc (rowAt x y)) 301] h (fun r Ω' h' => Ω' = [cells b (arrc (rowAt (p :: x) y)) 301] ∧ h = h') := by
  obtain ⟨va, vcp, rfl⟩ := hv.form
  refine Does.of Tryz.func203 rfl Tryz.ntmps203 rfl fun c hc0 => ?_
  repeat (first | refine Ops.val rfl rfl rfl (V.loadOA 0 rfl rfl rfl (arrc_length _)) ?_ | refine goS _ ?_)
  refine Ops.eff rfl rfl rfl E.allocA fun _ => Ops.ex fun b6 => Ops.pure ?_
  rintro rfl
  refine goK _ ?_
  refine Ops.eff0 rfl rfl (E.storeA 0 rfl rfl rfl) fun _ => ?_
  refine goK _ ?_
  refine At.loop1 (fun (k : Nat) => [(0, .pointer (some ⟨b, 0, none⟩)), (1, .int .i64 (p : Int)), (2, .slice va y.length vcp), (6, .pointer (some ⟨b6, 0, none⟩)), (7, .int .i64 ((k : Int) - 1))])
    (fun (k : Nat) w => k ≤ y.length ∧ Mem c [cells b6 (arrc (rowAt x y)) 301, cells b (arrc (fun j => if k ≤ j then rowAt (p :: x) y j else rowAt x y j)) 301] h w) (fun (k : Nat) => k)
    y.length ⟨rfl, rfl, rfl, rfl, rfl, trivial⟩ (fun w hw => ⟨Nat.le_refl _, ?_⟩) (fun k => At.pure (fun hk => ?_))
  · have e : (fun j => if y.length ≤ j then rowAt (p :: x) y j else rowAt x y j) = rowAt x y := by
      funext j
      split
      · simp only [rowAt]; rw [List.drop_eq_nil_of_le (by omega), Ox.lcs_nil, Ox.lcs_nil]
      · rfl
    rw [e]; exact hw
  refine goK _ ?_
  refine At.condP rfl (fun h2 => ?_) (fun h2 => ?_)
  rotate_left
  · obtain rfl : k = 0 := by omega
    refine goK _ ?_
    refine At.fin0 Tryz.results203 (List.sublist_cons_self _ _) ⟨?_, hc0.symm ▸ rfl⟩
    congr 2
  obtain ⟨k', rfl⟩ : ∃ k', k = k' + 1 := ⟨k - 1, by omega⟩
  have hkl : k' < y.length := by omega
  refine At.respell (t := 7) (v' := .int .i64 (k' : Int)) rfl (by congr 1; omega) ?_
  obtain ⟨b0, o0, rfl, _, _, hc⟩ := SlH.get hv (i := k') (u := .int .i64 (y[k'] : Int)) (by simp [ints, hkl])
  have hdr : y.drop k' = y[k'] :: y.drop (k' + 1) := List.drop_eq_getElem_cons hkl
  have hL := Ox.lcs_le x (y.drop (k' + 1))
  have hL2 := Ox.lcs_le x (y.drop k')
  have hL3 := Ox.lcs_le (p :: x) (y.drop (k' + 1))
  simp only [List.length_cons] at hL3
  have hnew : ∀ v : Nat, v = rowAt (p :: x) y k' → (fun j => if j = k' then v else (if k' + 1 ≤ j then rowAt (p :: x) y j else rowAt x y j)) = fun j => if k' ≤ j then rowAt (p :: x) y j else rowAt x y j := fun v hv => by
    funext j
    by_cases hj : j = k'
    · subst hj; simp [hv]
    · by_cases hj2 : k' + 1 ≤ j
      · rw [if_neg hj, if_pos hj2, if_pos (by omega)]
      · rw [if_neg hj, if_neg hj2, if_neg (by omega)]
  generalize hyk : y[k'] = q at *
  repeat (first | refine Ops.val rfl rfl rfl (V.loadH rfl rfl hc) ?_ | refine goS _ ?_)
  refine At.condP rfl (fun h3 => ?_) (fun h3 => ?_)
  · refine goK _ ?_
    first | refine At.drawn mo (fun _ _ m => m.drew _) ?_ | refine At.seq (At.drawn mo (fun _ _ m => m.drew _) ?_)
    refine Dr.val 0 rfl rfl rfl rfl (by kernel_rfl) rfl (Val.move rfl) ?_
    refine Dr.val 1 rfl rfl rfl rfl (by kernel_rfl) rfl (Val.move rfl) ?_
    refine Dr.val 2 rfl rfl rfl rfl (by kernel_rfl) rfl (Val.move rfl) ?_
    refine Dr.val 3 rfl rfl rfl rfl (by kernel_rfl) rfl (Val.add rfl rfl (by omega) (by omega)) ?_
    refine Dr.respell (t := 27) (v' := .int .i64 ((k' + 1 : Nat) : Int)) rfl (by congr 1) ?_
    refine Dr.val 4 rfl rfl rfl rfl (by kernel_rfl) rfl (V.indexA rfl rfl (by omega)) ?_
    refine Dr.valS 5 _ rfl rfl rfl rfl (by kernel_rfl) rfl (V.load rfl rfl (fun _ hh => hh)) (fun w hw => hw.cell (n := 0) (v := .int .i16 (rowAt x y (k' + 1) : Int)) rfl (arrc_get _ (by omega))) ?_
    have hra : rowAt x y (k' + 1) < 30000 := by show Ox.lcs _ _ < _; omega
    refine Dr.val 6 rfl rfl rfl rfl (by kernel_rfl) rfl (V.add16 rfl rfl hra) ?_
    refine Dr.val 7 rfl rfl rfl rfl (by kernel_rfl) rfl (Val.nilCheck rfl) ?_
    refine Dr.val 8 rfl rfl rfl rfl (by kernel_rfl) rfl (V.indexA rfl rfl (by omega)) ?_
    refine Dr.next0 (e := 9) rfl rfl (by kernel_rfl) rfl (by kernel_rfl) (by kernel_rfl) rfl (E.storeI 1 rfl rfl (by omega) rfl) aokK fun _ => ?_
    refine Dr.done (by kernel_rfl) (by kernel_rfl) ?_
    refine goK _ ?_
    refine At.back k' (by omega) (by exact ⟨rfl, rfl, rfl, rfl, rfl, trivial⟩) (fun w hw => ⟨by omega, ?_⟩)
    rw [← hnew (rowAt x y (k' + 1) + 1) (by simp only [rowAt]; rw [hdr, Ox.lcs_cons, if_pos (by omega)])]
    exact hw
  · refine goK _ ?_
    first | refine At.drawn mo (fun _ _ m => m.drew _) ?_ | refine At.seq (At.drawn mo (fun _ _ m => m.drew _) ?_)
    refine Dr.val 0 rfl rfl rfl rfl (by kernel_rfl) rfl (Val.move rfl) ?_
    refine Dr.val 1 rfl rfl rfl rfl (by kernel_rfl) rfl (Val.move rfl) ?_
    refine Dr.val 2 rfl rfl rfl rfl (by kernel_rfl) rfl (Val.move rfl) ?_
    refine Dr.val 3 rfl rfl rfl rfl (by kernel_rfl) rfl (V.indexA rfl rfl (by omega)) ?_
    refine Dr.valS 4 _ rfl rfl rfl rfl (by kernel_rfl) rfl (V.load rfl rfl (fun _ hh => hh)) (fun w hw => hw.cell (n := 0) (v := .int .i16 (rowAt x y k' : Int)) rfl (arrc_get _ (by omega))) ?_
    refine Dr.val 5 rfl rfl rfl rfl (by kernel_rfl) rfl (Val.move rfl) ?_
    refine Dr.val 6 rfl rfl rfl rfl (by kernel_rfl) rfl (Val.move rfl) ?_
    refine Dr.val 7 rfl rfl rfl rfl (by kernel_rfl) rfl (Val.add rfl rfl (by omega) (by omega)) ?_
    refine Dr.respell (t := 40) (v' := .int .i64 ((k' + 1 : Nat) : Int)) rfl (by congr 1) ?_
    refine Dr.val 8 rfl rfl rfl rfl (by kernel_rfl) rfl (Val.nilCheck rfl) ?_
    refine Dr.val 9 rfl rfl rfl rfl (by kernel_rfl) rfl (V.indexA rfl rfl (by omega)) ?_
    refine Dr.valS 10 _ rfl rfl rfl rfl (by kernel_rfl) rfl (V.load rfl rfl (fun _ hh => hh)) (fun w hw => hw.cell (n := 1) (v := .int .i16 (rowAt (p :: x) y (k' + 1) : Int)) rfl (by rw [arrc_get _ (by omega), if_pos (Nat.le_refl _)])) ?_
    refine Dr.val 11 rfl rfl rfl rfl (by kernel_rfl) rfl (Val.maxI rfl rfl) ?_
    refine Dr.respell (t := 44) (v' := .int .i16 ((max (rowAt x y k') (rowAt (p :: x) y (k' + 1)) : Nat) : Int)) rfl (by congr 1; omega) ?_
    refine Dr.val 12 rfl rfl rfl rfl (by kernel_rfl) rfl (Val.nilCheck rfl) ?_
    refine Dr.val 13 rfl rfl rfl rfl (by kernel_rfl) rfl (V.indexA rfl rfl (by omega)) ?_
    refine Dr.next0 (e := 14) rfl rfl (by kernel_rfl) rfl (by kernel_rfl) (by kernel_rfl) rfl (E.storeI 1 rfl rfl (by omega) rfl) aokK fun _ => ?_
    refine Dr.done (by kernel_rfl) (by kernel_rfl) ?_
    refine goK _ ?_
    refine At.back k' (by omega) (by exact ⟨rfl, rfl, rfl, rfl, rfl, trivial⟩) (fun w hw => ⟨by omega, ?_⟩)
    rw [← hnew (max (rowAt x y k') (rowAt (p :: x) y (k' + 1))) (by simp only [rowAt]; rw [hdr, Ox.lcs_cons, if_neg (by omega)])]
    exact hw
end Go.Proofs.YthjgbmbaabpgmaaGreat
/-
  From text to text: the table.
-/
namespace Go.Proofs.YthjgbmbaabpgmaaGreat
open Go.Sy
set_option maxRecDepth 4000
set_option maxHeartbeats 4000000
/-- the table's row that stands ahead of the i'th code point -/
def tabc (x y : List Nat) (i : Nat) : List Value := (List.range (y.length + 1)).map fun k => .int .i16 (rowAt (x.drop i) y k : Int)
theorem tabc_length (x y : List Nat) (i : Nat) : (tabc x y i).length = y.length + 1 := by simp [tabc]
theorem tabc_get (x y : List Nat) (i : Nat) {k : Nat} (h : k ≤ y.length) : (tabc x y i)[k]? = some (.int .i16 (Ox.lcs (x.drop i) (y.drop k) : Int)) := by
  unfold tabc
  rw [List.getElem?_map, List.getElem?_range (by omega)]; rfl
theorem tabc_one (x y : List Nat) (i : Nat) : (tabc x y i).all (·.oneCell') = true := by simp [tabc, Value.oneCell']
def TabH (h : HV) (us : List Value) (x y : List Nat) (i : Nat) : Prop := ∀ j, i ≤ j → j ≤ x.length → ∃ w, us[j]? = some w ∧ SlH h w 1 (y.length + 1) (tabc x y j)
theorem V.buildA {σ : Slots} {S : World → Prop} {ty : TypeId} {ps : String} {af : Array Edge} {g : Option (Nat × Bool)} {d : Option Nat} : Val Tryz.prog σ S ⟨d, .build 301 #[], ty, ps, af, g⟩ (.agg (arrc (fun _ => 0)).toArray) := fun ρ w hρ _ => by
  have hz := Tryz.zeroValue301 w
  rw [arrc_zero] at hz
  simp [execOp, Instr.build, hz, run_underlying Tryz.underlying301, Value.cells, Instr.fill]
attribute [local irreducible] At Ops Val Eff Does Res Dr arrc tabc

theorem rows_does (u v : Value) (x y : List Nat) (hx : x.length ≤ 1000) (hy : y.length ≤ 1000) (h : HV) (hu : IntsH h u x) (hv : IntsH h v y) :
    Does Tryz.prog 159 #[u, v] [] h (fun r Ω' h' => HV.le h h' ∧ ∃ us, us.length = x.length + 1 ∧ Ω' = [row 252 1 r (x.length + 1) us] ∧ TabH h' us x y 0) := by
  obtain ⟨ua, ucp, rfl⟩ := hu.form
  obtain ⟨va, vcp, rfl⟩ := hv.form
  refine Does.of Tryz.func159 rfl Tryz.ntmps159 rfl fun c hc0 => ?_
  refine goK _ ?_
  refine Ops.respell (t := 10) (v' := .int .i64 ((x.length + 1 : Nat) : Int)) rfl (by congr 1) ?_
  refine Ops.eff rfl rfl rfl (Eff.makeSlice1 (z := .slice none 0 0) (ap rfl) (by kernel_rfl) rfl rfl rfl (by omega) (by omega)) fun _ => Ops.ex fun b5 => Ops.pure ?_
  rintro rfl
  repeat (first | refine Ops.val rfl rfl rfl V.buildA ?_ | refine goS _ ?_)
  refine Ops.eff rfl rfl rfl E.allocA fun _ => Ops.ex fun b6 => Ops.pure ?_
  rintro rfl
  refine goK _ ?_
  refine Ops.eff0 rfl rfl (E.storeA 0 rfl rfl rfl) fun _ => ?_
  refine goK _ ?_
  refine At.loop3 (fun (i : Nat) (_ : List Value) (_ : HV) => [(0, .slice ua x.length ucp), (1, .slice va y.length vcp), (5, .slice (some ⟨b5, 0, none⟩) (x.length + 1) (x.length + 1)), (6, .pointer (some ⟨b6, 0, none⟩)), (7, .int .i64 ((i : Int) - 1))])
    (fun (i : Nat) (us : List Value) (h' : HV) w => (i ≤ x.length + 1 ∧ us.length = x.length + 1 ∧ HV.le h h' ∧ TabH h' us x y i) ∧ Mem c [cells b6 (arrc (rowAt (x.drop i) y)) 301, cells b5 us 252] h' w) (fun (i : Nat) (_ : List Value) (_ : HV) => i)
    (x.length + 1) (List.replicate (x.length + 1) (.slice none 0 0)) h ⟨rfl, rfl, rfl, rfl, congrArg (fun z => some (Value.int .i64 z)) (by omega), trivial⟩ (fun w hw => ⟨⟨Nat.le_refl _, by simp, HV.le.refl _, fun j h1 h2 => by omega⟩, ?_⟩) (fun i us h' => At.pure (fun hq => ?_))
  · have e : rowAt (x.drop (x.length + 1)) y = fun _ => 0 := by
      funext j; rw [rowAt, List.drop_eq_nil_of_le (by omega)]; simp [Ox.lcs]
    rw [e]; exact hw
  obtain ⟨hi, hul, hle, htab⟩ := hq
  refine goK _ ?_
  refine At.condP rfl (fun h2 => ?_) (fun h2 => ?_)
  rotate_left
  · obtain rfl : i = 0 := by omega
    refine goK _ ?_
    refine At.pick (Ω' := [cells b5 us 252]) [1] (by decide) rfl ?_
    refine At.imp (S' := Mem c [row 252 1 (.slice (some ⟨b5, 0, none⟩) (x.length + 1) (x.length + 1)) (x.length + 1) us] h') ?_ (fun w hw => hw.rowOf (by omega) (by simp [maxLen]; omega))
    exact At.ret1 Tryz.results159 (Res.tmp rfl) (List.Sublist.refl _) ⟨hle, us, hul, rfl, htab⟩
  obtain ⟨i', rfl⟩ : ∃ k', i = k' + 1 := ⟨i - 1, by omega⟩
  refine At.respell (t := 7) (v' := .int .i64 (i' : Int)) rfl (by congr 1; omega) ?_
  have hu' := hu.mono hle
  have hv' := hv.mono hle
  refine goK _ ?_
  refine At.meet1 (fun (_ : Unit) => [(0, .slice ua x.length ucp), (1, .slice va y.length vcp), (5, .slice (some ⟨b5, 0, none⟩) (x.length + 1) (x.length + 1)), (6, .pointer (some ⟨b6, 0, none⟩)), (7, .int .i64 (i' : Int))])
    (fun _ w => Mem c [cells b6 (arrc (rowAt (x.drop i') y)) 301, cells b5 us 252] h' w) (fun k meet => ?_) (fun _ => ?_)
  · refine At.condP rfl (fun h3 => ?_) (fun h3 => ?_)
    · have hlt : i' < x.length := by omega
      obtain ⟨b0, o0, rfl, _, _, hc⟩ := SlH.get hu' (i := i') (u := .int .i64 (x[i'] : Int)) (by simp [ints, hlt])
      have hdr : x.drop i' = x[i'] :: x.drop (i' + 1) := List.drop_eq_getElem_cons hlt
      generalize hxi : x[i'] = p at *
      have hdl : (x.drop (i' + 1)).length < 1000 := by rw [List.length_drop]; omega
      repeat (first | refine Ops.val rfl rfl rfl (V.loadH rfl rfl hc) ?_ | refine goS _ ?_)
      refine Ops.eff rfl rfl rfl (Eff.call (fn (by kernel_rfl)) rfl (Ωc := [cells b6 (arrc (rowAt (x.drop (i' + 1)) y)) 301]) rfl (next_does b6 p (.slice va y.length vcp) (x.drop (i' + 1)) y hdl hy h' hv')) fun _ => Ops.ex fun _ => Ops.ex fun _ => Ops.pure ?_
      rintro ⟨rfl, rfl⟩
      refine goK _ ?_
      refine meet () (by exact ⟨rfl, rfl, rfl, rfl, rfl, trivial⟩) (fun w hw => by rw [hdr]; exact hw)
    · have hdr : x.drop i' = x.drop (i' + 1) := by rw [List.drop_eq_nil_of_le (by omega), List.drop_eq_nil_of_le (by omega)]
      refine goK _ ?_
      refine meet () (by exact ⟨rfl, rfl, rfl, rfl, rfl, trivial⟩) (fun w hw => by rw [hdr]; exact hw)
  refine goK _ ?_
  refine Ops.respell (t := 33) (v' := .int .i64 ((y.length + 1 : Nat) : Int)) rfl (by congr 1) ?_
  refine Ops.eff rfl rfl rfl (Eff.makeSlice1 (z := .int .i16 0) (ap rfl) (by kernel_rfl) rfl rfl rfl (by omega) (by omega)) fun _ => Ops.ex fun bq => Ops.pure ?_
  rintro rfl
  repeat (first | refine Ops.val rfl rfl rfl (V.indexAddr rfl rfl rfl rfl (by omega)) ?_ | refine goS _ ?_)
  refine Ops.eff0 rfl rfl (E.store 2 rfl rfl rfl rfl rfl (by simp [hul]; omega) rfl) fun _ => ?_
  refine goK _ ?_
  first | refine At.drawn mo (fun _ _ m => m.drew _) ?_ | refine At.seq (At.drawn mo (fun _ _ m => m.drew _) ?_)
  refine Dr.val 0 rfl rfl rfl rfl (by kernel_rfl) rfl (Val.move rfl) ?_
  refine Dr.val 1 rfl rfl rfl rfl (by kernel_rfl) rfl (Val.move rfl) ?_
  refine Dr.val 2 rfl rfl rfl rfl (by kernel_rfl) rfl (V.indexAddr rfl rfl rfl rfl (by omega)) ?_
  refine Dr.valS 3 _ rfl rfl rfl rfl (by kernel_rfl) rfl (V.load rfl rfl (fun _ hh => hh)) (fun w hw => hw.cell (n := 2) (v := .slice (some ⟨bq, 0, none⟩) (y.length + 1) (y.length + 1)) rfl (by show (us.set (0 + i' * 1) _)[0 + i' * 1]? = _; exact List.getElem?_set_self (by omega))) ?_
  refine Dr.val 4 rfl rfl rfl rfl (by kernel_rfl) rfl (Val.sliceA Tryz.underlying301 (ly (t := 251) rfl) rfl) ?_
  have harr : ∀ i u, (tabc x y i')[i]? = some u → (arrc (rowAt (x.drop i') y))[0 + i]? = some u := fun i u hiu => by
    have hil : i < y.length + 1 := by have := (List.getElem?_eq_some_iff.1 hiu).1; rwa [tabc_length] at this
    rw [tabc_get _ _ _ (by omega)] at hiu
    rw [← hiu]
    have := arrc_get (rowAt (x.drop i') y) (k := i) (by omega)
    rw [Nat.mul_one] at this
    exact this
  refine Dr.next (e := 5) rfl rfl (by kernel_rfl) rfl (by kernel_rfl) (by kernel_rfl) rfl rfl (Eff.copy (vs := tabc x y i') 0 (sl rfl) (ly rfl) rfl rfl rfl (by rw [tabc_length]; omega) (by rw [tabc_length]; simp) (tabc_one _ _ _) (fun w hw i u hiu => hw.cell (n := 1) rfl (harr i u hiu))) aokK fun _ => ?_
  refine Dr.done (by kernel_rfl) (by kernel_rfl) ?_
  refine At.imp (S' := Mem c [row 251 1 (.slice (some ⟨bq, 0, none⟩) (y.length + 1) (y.length + 1)) (y.length + 1) (tabc x y i'), cells b6 (arrc (rowAt (x.drop i') y)) 301, cells b5 (us.set i' (.slice (some ⟨bq, 0, none⟩) (y.length + 1) (y.length + 1))) 252] h') ?_ (fun w hw => ?_)
  rotate_left
  · refine Mem.rowOf ?_ (by rw [tabc_length]; omega) (by simp [maxLen]; omega)
    have e : sets (List.replicate (y.length + 1) (.int .i16 0)) 0 (tabc x y i') = tabc x y i' := sets_all (by simp [tabc_length])
    rw [← e]
    simpa [sets, Value.cells] using hw
  refine At.publish_row 0 rfl fun h2 hle2 hsl2 => ?_
  refine goK _ ?_
  refine At.back3 i' (us.set i' (.slice (some ⟨bq, 0, none⟩) (y.length + 1) (y.length + 1))) h2 (by omega) (by exact ⟨rfl, rfl, rfl, rfl, rfl, trivial⟩) (fun w hw => ⟨⟨by omega, by simp [hul], hle.trans hle2, fun j h3 h4 => ?_⟩, hw⟩)
  by_cases hj : j = i'
  · subst hj; exact ⟨_, List.getElem?_set_self (by omega), hsl2⟩
  · obtain ⟨w, h5, h6⟩ := htab j (by omega) h4
    exact ⟨w, by rw [List.getElem?_set_ne (by omega)]; exact h5, h6.mono hle2⟩
end Go.Proofs.YthjgbmbaabpgmaaGreat
/-
  From text to text: the gap ahead of what is kept.
-/
namespace Go.Proofs.YthjgbmbaabpgmaaGreat
open Go.Sy
set_option maxRecDepth 4000
set_option maxHeartbeats 4000000
attribute [local irreducible] At Ops Val Eff Does Res Dr
namespace Ox
/-- what is counted, and what was put out -/
structure Gp where
  kept : Nat
  ins : Nat
  gone : Nat
  out : List Op
/-- a gap put out -/
def gap1 (s : Gp) : List Op := if 0 < s.kept ∧ 0 < s.ins + s.gone then s.out ++ [⟨1, (s.kept : Int), []⟩] else s.out
def gap2 (y : List Nat) (k : Nat) (s : Gp) : List Op := if 0 < s.ins then gap1 s ++ [⟨2, 0, encs ((y.drop (k - s.ins)).take (k - (k - s.ins)))⟩] else gap1 s
def gap3 (y : List Nat) (k : Nat) (s : Gp) : List Op := if 0 < s.gone then gap2 y k s ++ [⟨3, (s.gone : Int), []⟩] else gap2 y k s
def gapK (s : Gp) : Nat := if 0 < s.kept ∧ 0 < s.ins + s.gone then 0 else s.kept
def gapG (y : List Nat) (k : Nat) (s : Gp) : Gp := ⟨gapK s, 0, 0, gap3 y k s⟩
theorem gap1_length (s : Gp) : (gap1 s).length ≤ s.out.length + 1 := by unfold gap1; split <;> simp
theorem gap2_length (y : List Nat) (k : Nat) (s : Gp) : (gap2 y k s).length ≤ s.out.length + 2 := by
  have := gap1_length s
  unfold gap2; split <;> simp <;> omega
theorem gap3_length (y : List Nat) (k : Nat) (s : Gp) : (gap3 y k s).length ≤ s.out.length + 3 := by
  have := gap2_length y k s
  unfold gap3; split <;> simp <;> omega
end Ox
/-- operations that the call owns -/
def OpM (v : Value) (l : List Ox.Op) : Itm := row 112 3 v l.length (l.flatMap opc)
/-- what is counted, in memory -/
def GpM (b1 b2 b3 b4 b5 : Nat) (v yv : Value) (s : Ox.Gp) : List Itm := [cells b1 [.int .i64 (s.kept : Int)] 3, cells b2 [.int .i64 (s.ins : Int)] 3, cells b3 [.int .i64 (s.gone : Int)] 3, cells b4 [v] 38, OpM v s.out, cells b5 [yv] 32]

theorem dgap_does (b1 b2 b3 b4 b5 k : Nat) (v yv : Value) (y : List Nat) (s : Ox.Gp) (hy : y.length ≤ 1000) (hk : k ≤ y.length) (hi : s.ins ≤ k) (hkl : s.kept ≤ 1000) (hg : s.gone ≤ 1000) (ho : s.out.length ≤ 1000000) (hyp : ∀ n ∈ y, Ox.isPoint n = true) (h : HV) (hv : IntsH h yv y) :
    Does Tryz.prog 160 #[.int .i64 (k : Int), .pointer (some ⟨b1, 0, none⟩), .pointer (some ⟨b2, 0, none⟩), .pointer (some ⟨b3, 0, none⟩), .pointer (some ⟨b4, 0, none⟩), .pointer (some ⟨b5, 0, none⟩)] (GpM b1 b2 b3 b4 b5 v yv s) h
      (fun r Ω' h' => (∃ v', Ω' = GpM b1 b2 b3 b4 b5 v' yv (Ox.gapG y k s)) ∧ h = h') := by
  obtain ⟨ya, ycp, rfl⟩ := hv.form
  unfold GpM OpM
  have h1l := Ox.gap1_length s
  have h2l := Ox.gap2_length y k s
  refine Does.of Tryz.func160 rfl Tryz.ntmps160 rfl fun c hc0 => ?_
  refine goK _ ?_
  refine Ops.forkR 16 (.bool (decide (0 < s.kept ∧ 0 < s.ins + s.gone))) [0, 1, 2, 3, 4, 5] ?_ (fun main => ?_)
  rotate_left
  · repeat' (first
      | refine opS _ ?_
      | refine Ops.gsplit rfl rfl (fun hb => ?_) (fun hb => ?_)
      | refine Ops.psplit rfl (fun hb => ?_) (fun hb => ?_))
    all_goals (refine Ops.nil ?_; refine main.sub ⟨congrArg (fun b => some (Value.bool b)) ?_, (by repeat (first | exact trivial | refine ⟨rfl, ?_⟩))⟩; clear main; (rw [Bool.eq_iff_iff]; simp at *; try omega))
  refine At.meet1 (fun (_ : Value) => [(0, .int .i64 (k : Int)), (1, .pointer (some ⟨b1, 0, none⟩)), (2, .pointer (some ⟨b2, 0, none⟩)), (3, .pointer (some ⟨b3, 0, none⟩)), (4, .pointer (some ⟨b4, 0, none⟩)), (5, .pointer (some ⟨b5, 0, none⟩))])
    (fun v' w => Mem c [cells b1 [.int .i64 (Ox.gapK s : Int)] 3, cells b2 [.int .i64 (s.ins : Int)] 3, cells b3 [.int .i64 (s.gone : Int)] 3, cells b4 [v'] 38, row 112 3 v' (Ox.gap1 s).length ((Ox.gap1 s).flatMap opc), cells b5 [.slice ya y.length ycp] 32] h w) (fun k' meet => ?_) (fun v1 => ?_)
  · refine At.condP rfl (fun h1 => ?_) (fun h1 => ?_)
    · refine goK _ ?_
      refine Ops.eff rfl rfl rfl (E.buildSlice1 rfl rfl rfl rfl) fun _ => Ops.ex fun _ => Ops.pure ?_
      rintro rfl
      refine Ops.eff rfl rfl rfl (E.append1s 4 rfl rfl rfl rfl rfl rfl (by omega) (by omega)) fun _ => Ops.ex fun g2 => Ops.ex fun cp2 => Ops.pure ?_
      rintro rfl
      refine Ops.eff0 rfl rfl (E.store 3 rfl rfl rfl rfl rfl rfl rfl) fun _ => ?_
      refine goK _ ?_
      refine Ops.eff0 rfl rfl (E.store 0 rfl rfl rfl rfl rfl rfl rfl) fun _ => ?_
      refine goK _ ?_
      refine meet (.slice (some ⟨g2, 0, none⟩) (s.out.length + 1) cp2) (by exact ⟨rfl, rfl, rfl, rfl, rfl, rfl, trivial⟩) (fun w hw => ?_)
      rw [Ox.gapK, if_pos h1, Ox.gap1, if_pos h1, List.length_append, List.flatMap_append]
      exact hw
    · refine goK _ ?_
      refine meet v (by exact ⟨rfl, rfl, rfl, rfl, rfl, rfl, trivial⟩) (fun w hw => ?_)
      rw [Ox.gapK, if_neg h1, Ox.gap1, if_neg h1]
      exact hw
  refine goK _ ?_
  refine At.meet1 (fun (_ : Value) => [(0, .int .i64 (k : Int)), (1, .pointer (some ⟨b1, 0, none⟩)), (2, .pointer (some ⟨b2, 0, none⟩)), (3, .pointer (some ⟨b3, 0, none⟩)), (4, .pointer (some ⟨b4, 0, none⟩)), (5, .pointer (some ⟨b5, 0, none⟩))])
    (fun v' w => Mem c [cells b1 [.int .i64 (Ox.gapK s : Int)] 3, cells b2 [.int .i64 (s.ins : Int)] 3, cells b3 [.int .i64 (s.gone : Int)] 3, cells b4 [v'] 38, row 112 3 v' (Ox.gap2 y k s).length ((Ox.gap2 y k s).flatMap opc), cells b5 [.slice ya y.length ycp] 32] h w) (fun k' meet => ?_) (fun v2 => ?_)
  · refine At.condP rfl (fun h1 => ?_) (fun h1 => ?_)
    · have hy0 : 0 < y.length := by omega
      obtain ⟨b0, o0, rfl, _, _, hc⟩ := SlH.get hv (i := 0) (u := .int .i64 (y[0] : Int)) (by simp [ints, hy0])
      refine goK _ ?_
      refine Ops.respell (t := 28) (v' := .int .i64 ((k - s.ins : Nat) : Int)) rfl (by congr 1; omega) ?_
      repeat (first | refine Ops.val rfl rfl rfl (V.slice (l := k - s.ins) (r := k) rfl rfl rfl rfl rfl (by omega) (by omega)) ?_ | refine goS _ ?_)
      have hpl : ((y.drop (k - s.ins)).take (k - (k - s.ins))).length ≤ 1000 := by rw [List.length_take, List.length_drop]; omega
      refine Ops.eff rfl rfl rfl (Eff.call (fn (by kernel_rfl)) rfl (Ωc := []) rfl (Text_does _ ((y.drop (k - s.ins)).take (k - (k - s.ins))) (fun n hn => hyp n (List.mem_of_mem_drop (List.mem_of_mem_take hn))) (by omega) h (IntsH.part hv (k - s.ins) k (by omega) hk ⟨b0, o0, none⟩ rfl))) fun _ => Ops.ex fun _ => Ops.ex fun _ => Ops.pure ?_
      rintro ⟨rfl, rfl, rfl⟩
      refine goK _ ?_
      refine Ops.eff rfl rfl rfl (E.buildSlice1 rfl rfl rfl rfl) fun _ => Ops.ex fun _ => Ops.pure ?_
      rintro rfl
      refine Ops.eff rfl rfl rfl (E.append1s 4 rfl rfl rfl rfl rfl rfl (by omega) (by omega)) fun _ => Ops.ex fun g2 => Ops.ex fun cp2 => Ops.pure ?_
      rintro rfl
      refine Ops.eff0 rfl rfl (E.store 3 rfl rfl rfl rfl rfl rfl rfl) fun _ => ?_
      refine goK _ ?_
      refine meet (.slice (some ⟨g2, 0, none⟩) ((Ox.gap1 s).length + 1) cp2) (by exact ⟨rfl, rfl, rfl, rfl, rfl, rfl, trivial⟩) (fun w hw => ?_)
      rw [Ox.gap2, if_pos (by omega), List.length_append, List.flatMap_append]
      exact hw
    · refine goK _ ?_
      refine meet v1 (by exact ⟨rfl, rfl, rfl, rfl, rfl, rfl, trivial⟩) (fun w hw => ?_)
      rw [Ox.gap2, if_neg (by omega)]
      exact hw
  refine goK _ ?_
  refine At.meet1 (fun (_ : Value) => [(0, .int .i64 (k : Int)), (1, .pointer (some ⟨b1, 0, none⟩)), (2, .pointer (some ⟨b2, 0, none⟩)), (3, .pointer (some ⟨b3, 0, none⟩)), (4, .pointer (some ⟨b4, 0, none⟩)), (5, .pointer (some ⟨b5, 0, none⟩))])
    (fun v' w => Mem c [cells b1 [.int .i64 (Ox.gapK s : Int)] 3, cells b2 [.int .i64 (s.ins : Int)] 3, cells b3 [.int .i64 (s.gone : Int)] 3, cells b4 [v'] 38, row 112 3 v' (Ox.gap3 y k s).length ((Ox.gap3 y k s).flatMap opc), cells b5 [.slice ya y.length ycp] 32] h w) (fun k' meet => ?_) (fun v3 => ?_)
  · refine At.condP rfl (fun h1 => ?_) (fun h1 => ?_)
    · refine goK _ ?_
      refine Ops.eff rfl rfl rfl (E.buildSlice1 rfl rfl rfl rfl) fun _ => Ops.ex fun _ => Ops.pure ?_
      rintro rfl
      refine Ops.eff rfl rfl rfl (E.append1s 4 rfl rfl rfl rfl rfl rfl (by omega) (by omega)) fun _ => Ops.ex fun g2 => Ops.ex fun cp2 => Ops.pure ?_
      rintro rfl
      refine Ops.eff0 rfl rfl (E.store 3 rfl rfl rfl rfl rfl rfl rfl) fun _ => ?_
      refine goK _ ?_
      refine meet (.slice (some ⟨g2, 0, none⟩) ((Ox.gap2 y k s).length + 1) cp2) (by exact ⟨rfl, rfl, rfl, rfl, rfl, rfl, trivial⟩) (fun w hw => ?_)
      rw [Ox.gap3, if_pos (by omega), List.length_append, List.flatMap_append]
      exact hw
    · refine goK _ ?_
      refine meet v2 (by exact ⟨rfl, rfl, rfl, rfl, rfl, rfl, trivial⟩) (fun w hw => ?_)
      rw [Ox.gap3, if_neg (by omega)]
      exact hw
  refine goK _ ?_
  refine Ops.eff0 rfl rfl (E.store 1 rfl rfl rfl rfl rfl rfl rfl) fun _ => ?_
  refine Ops.eff0 rfl rfl (E.store 2 rfl rfl rfl rfl rfl rfl rfl) fun _ => ?_
  refine goK _ ?_
  exact At.fin0 Tryz.results160 (List.Sublist.refl _) ⟨⟨v3, rfl⟩, hc0.symm ▸ rfl⟩
end Go.Proofs.YthjgbmbaabpgmaaGreat
