/-
  Merging: texts compared; rows put together.
-/
import Derived.Test.YthjgbmbaabpgmaaGreatSrd05
import Derived.Test.YthjgbmbaabpgmaaGreatSrd18
import Derived.Lib.Bytealg
set_option linter.unusedVariables false
set_option linter.unusedSimpArgs false
set_option linter.unusedSectionVars false
namespace Go.Proofs.YthjgbmbaabpgmaaGreat
open Go.Sy
set_option maxRecDepth 4000
set_option maxHeartbeats 4000000
/-- how two texts compare -/
abbrev Ox.cmp (a b : List UInt8) : Int := Lib.compareBytes a b
attribute [local irreducible] At Ops Val Eff Does Res Dr

theorem cmpS_does (a b : List UInt8) (h : HV) : Does Tryz.prog 217 #[str a, str b] [] h (Just h (· = .int .i64 (Ox.cmp a b))) := by
  refine Does.of Tryz.func217 rfl Tryz.ntmps217 rfl fun c hc0 => ?_
  refine goK _ ?_
  refine Ops.val rfl rfl rfl (Val.ext (v := .int .i64 (Ox.cmp a b)) rfl (fun w _ => ?_)) ?_
  · rw [run_callFunc_extern Tryz.func219 (by kernel_rfl) (by kernel_rfl) (by kernel_rfl) (e := Extern.BytealgCompare.compare) (by kernel_rfl), show #[str a, str b] = #[Value.string ⟨a.toArray⟩, Value.string ⟨b.toArray⟩] from rfl]
    show ((Extern.BytealgCompare.compare #[Value.string ⟨a.toArray⟩, Value.string ⟨b.toArray⟩]).run Tryz.prog w).andThen _ = _
    rw [Lib.run_compareString]; rfl
  refine goK _ ?_
  exact At.ret1 Tryz.results217 (Res.tmp rfl) (List.nil_sublist _) ⟨rfl, rfl, hc0.symm ▸ rfl⟩
theorem cmpT_does (a b : List UInt8) (h : HV) : Does Tryz.prog 207 #[str a, str b] [] h (Just h (· = .int .i64 (Ox.cmp a b))) := by
  refine Does.of Tryz.func207 rfl Tryz.ntmps207 rfl fun c hc0 => ?_
  refine goK _ ?_
  refine Ops.eff rfl rfl rfl (Eff.call (fn (by kernel_rfl)) rfl (Ωc := []) rfl (cmpS_does a b h)) fun _ => Ops.ex fun _ => Ops.ex fun _ => Ops.pure ?_
  rintro ⟨rfl, rfl, rfl⟩
  refine goK _ ?_
  exact At.ret1 Tryz.results207 (Res.tmp rfl) (List.nil_sublist _) ⟨rfl, rfl, hc0.symm ▸ rfl⟩
theorem Compare_does (a b : List UInt8) (h : HV) : Does Tryz.prog 176 #[str a, str b] [] h (Just h (· = .int .i64 (Ox.cmp a b))) := by
  refine Does.of Tryz.func176 rfl Tryz.ntmps176 rfl fun c hc0 => ?_
  refine goK _ ?_
  refine Ops.eff rfl rfl rfl (Eff.call (fn (by kernel_rfl)) rfl (Ωc := []) rfl (cmpT_does a b h)) fun _ => Ops.ex fun _ => Ops.ex fun _ => Ops.pure ?_
  rintro ⟨rfl, rfl, rfl⟩
  refine goK _ ?_
  exact At.ret1 Tryz.results176 (Res.tmp rfl) (List.nil_sublist _) ⟨rfl, rfl, hc0.symm ▸ rfl⟩

/-- room for n more, in a slice of none -/
theorem Grow_does (n : Nat) (hn : n ≤ 100000000) (h : HV) : Does Tryz.prog 208 #[.slice none 0 0, .int .i64 (n : Int)] [] h (fun r Ω' h' => h = h' ∧ Ω' = [row 265 4 r 0 []]) := by
  refine Does.of Tryz.func208 rfl Tryz.ntmps208 rfl fun c hc0 => ?_
  repeat (first | refine Ops.val rfl rfl rfl (Val.capslice (sl rfl) rfl) ?_ | refine goS _ ?_)
  refine At.condP rfl (fun h2 => ?_) (fun h2 => ?_)
  rotate_left
  · obtain rfl : n = 0 := by omega
    refine goK _ ?_
    refine At.row_nil 265 4 ?_
    exact At.ret1 Tryz.results208 (Res.tmp rfl) (List.Sublist.refl _) ⟨hc0.symm ▸ rfl, rfl⟩
  repeat (first | refine Ops.val rfl rfl rfl (Val.capslice (sl rfl) rfl) ?_ | refine Ops.val rfl rfl rfl (V.slice_to (r := 0) rfl rfl rfl rfl (by omega)) ?_ | refine goS _ ?_)
  refine Ops.respell (t := 21) (v' := .int .i64 (n : Int)) rfl (congrArg (Value.int .i64) (by omega)) ?_
  refine Ops.eff rfl rfl rfl (Eff.appendMake (olds := []) (a := none) (s := 0) (cp := 0) (K := .i64) (ap rfl) Tryz.underlying3 rfl rfl (by omega) (by omega) rfl (fun _ _ _ e => by cases e) (fun _ => rfl) (by omega) (by omega)) fun _ => Ops.ex fun b => Ops.ex fun cp => Ops.ex fun zs => Ops.pure ?_
  rintro rfl
  refine Ops.pure fun h3 => Ops.pure fun h4 => Ops.pure fun h5 => ?_
  repeat (first | refine Ops.val rfl rfl rfl (V.slice_to (r := 0) rfl rfl rfl rfl (by omega)) ?_ | refine goS _ ?_)
  refine At.close_row (N := 0) (xs := []) (rest := zs) (cp := cp) (e := 265) (size := 4) (g := b) 0 rfl rfl (by simpa using h5) (by omega) h4 ?_
  exact At.ret1 Tryz.results208 (Res.tmp rfl) (List.Sublist.refl _) ⟨hc0.symm ▸ rfl, rfl⟩

theorem flat_take_succ {α : Type} (ls : List (List α)) (i : Nat) (hi : i < ls.length) : (ls.take (i + 1)).flatten = (ls.take i).flatten ++ ls[i] := by
  rw [List.take_succ_eq_append_getElem hi, List.flatten_append]; simp
theorem flat_take_le {α : Type} (ls : List (List α)) (i : Nat) : (ls.take i).flatten.length ≤ ls.flatten.length := by
  conv => rhs; rw [← List.take_append_drop i ls, List.flatten_append, List.length_append]
  omega

/-- rows put together -/
theorem Concat_does (v : Value) (us : List Value) (ls : List (List Ox.Pc)) (hul : us.length = ls.length) (hN : ls.length ≤ 1000000) (hl : ls.flatten.length ≤ 100000000) (h : HV) (hv : SlH h v 1 us.length us) (hp : PartsH h us ls) :
    Does Tryz.prog 178 #[v] [] h (fun r Ω' h' => Ω' = [row 265 4 r ls.flatten.length (ls.flatten.flatMap pcc)] ∧ h = h') := by
  obtain ⟨a, cp, rfl⟩ := hv.form
  refine Does.of Tryz.func178 rfl Tryz.ntmps178 rfl fun c hc0 => ?_
  refine goK _ ?_
  refine At.loop1 (fun (i : Nat) => [(0, .slice a us.length cp), (3, .int .i64 (((ls.take i).flatten.length : Nat) : Int)), (9, .slice a us.length cp), (10, .int .i64 (us.length : Int)), (11, .int .i64 (i : Int))])
    (fun (i : Nat) w => i ≤ us.length ∧ Mem c [] h w) (fun (i : Nat) => us.length - i)
    0 ⟨rfl, rfl, rfl, rfl, rfl, trivial⟩ (fun w hw => ⟨Nat.zero_le _, hw⟩) (fun i => At.pure (fun hi => ?_))
  refine goK _ ?_
  refine At.condP rfl (fun h2 => ?_) (fun h2 => ?_)
  · have hlt : i < us.length := by omega
    obtain ⟨w, hw1, hw2⟩ := hp i hlt
    obtain ⟨b0, o0, rfl, _, _, hc⟩ := SlH.get hv hw1
    have hlt' : i < ls.length := by omega
    have hft := flat_take_succ ls i hlt'
    have hfl := flat_take_le ls (i + 1)
    rw [hft, List.length_append] at hfl
    rw [List.getElem?_eq_getElem hlt', Option.getD_some] at hw2
    obtain ⟨wa, wcp, rfl⟩ := hw2.form
    repeat (first | refine Ops.val rfl rfl rfl (V.loadH rfl rfl hc) ?_ | refine goS _ ?_)
    refine At.back (i + 1) (by show us.length - (i + 1) < us.length - i; omega) (by exact ⟨rfl, congrArg (fun z => some (Value.int .i64 z)) (by rw [hft, List.length_append]; omega), rfl, rfl, rfl, trivial⟩) (fun w hw => ⟨hlt, hw⟩)
  obtain rfl : i = us.length := by omega
  rw [hul, List.take_length]
  refine goK _ ?_
  refine Ops.eff rfl rfl rfl (Eff.call (fn (by kernel_rfl)) rfl (Ωc := []) rfl (Grow_does ls.flatten.length hl h)) fun _ => Ops.ex fun _ => Ops.ex fun _ => Ops.pure ?_
  rintro ⟨rfl, rfl⟩
  rename_i u0
  refine goK _ ?_
  refine At.loop2 (fun (i : Nat) (u : Value) => [(6, u), (25, .slice a ls.length cp), (26, .int .i64 (ls.length : Int)), (27, .int .i64 (i : Int))])
    (fun (i : Nat) (u : Value) w => i ≤ ls.length ∧ Mem c [row 265 4 u (ls.take i).flatten.length ((ls.take i).flatten.flatMap pcc)] h w) (fun (i : Nat) (_ : Value) => ls.length - i)
    0 u0 ⟨rfl, rfl, rfl, rfl, trivial⟩ (fun w hw => ⟨Nat.zero_le _, hw⟩) (fun i u => At.pure (fun hi => ?_))
  refine goK _ ?_
  refine At.condP rfl (fun h2 => ?_) (fun h2 => ?_)
  rotate_left
  · obtain rfl : i = ls.length := by omega
    rw [List.take_length]
    refine goK _ ?_
    exact At.ret1 Tryz.results178 (Res.tmp rfl) (List.Sublist.refl _) ⟨rfl, hc0.symm ▸ rfl⟩
  have hlt : i < ls.length := by omega
  obtain ⟨w, hw1, hw2⟩ := hp i (by omega)
  obtain ⟨b0, o0, rfl, _, _, hc⟩ := SlH.get hv hw1
  have hlt' : i < ls.length := by omega
  have hft := flat_take_succ ls i hlt'
  have hfl := flat_take_le ls (i + 1)
  rw [hft, List.length_append] at hfl
  rw [List.getElem?_eq_getElem hlt', Option.getD_some] at hw2
  repeat (first | refine Ops.val rfl rfl rfl (V.loadH rfl rfl hc) ?_ | refine goS _ ?_)
  refine Ops.eff rfl rfl rfl (Eff.appendSl (j := 0) (ap rfl) rfl rfl hw2 rfl (flat_one (fun _ => rfl) _) (by omega) (by omega)) fun u' => Ops.pure fun _ => ?_
  refine goK _ ?_
  refine At.back2 (i + 1) u' (by show ls.length - (i + 1) < ls.length - i; omega) (by exact ⟨rfl, rfl, rfl, rfl, trivial⟩) (fun w hw => ⟨hlt, ?_⟩)
  rw [hft, List.length_append, List.flatMap_append]
  exact hw
end Go.Proofs.YthjgbmbaabpgmaaGreat
/-
  Merging: the document of pieces.
-/
namespace Go.Proofs.YthjgbmbaabpgmaaGreat
open Go.Sy
set_option maxRecDepth 4000
set_option maxHeartbeats 4000000
namespace Ox
/-- a piece as a run -/
def one (p : Pc) : Atom := ⟨p.1.o, p.1.n, enc p.2⟩
structure PcOk (p : Pc) : Prop where
  org : p.1.o.ok = true
  low : 0 ≤ p.1.n
  high : p.1.n < 1000
  point : isPoint p.2 = true
theorem PcOk.one {p : Pc} (h : PcOk p) : (one p).ok ∧ (one p).flat = [p] := by
  have h1 : points (enc p.2) = some [p.2] := by
    have := points_encs (l := [p.2]) (by simpa using h.point)
    simpa [encs] using this
  have h2 : (Ox.one p).pts = [p.2] := by simp [Ox.one, Atom.pts, h1]
  refine ⟨⟨h.org, h.low, ?_, by rw [h2]; exact h1, by rw [h2]; simp⟩, ?_⟩
  · rw [h2]; have := h.high; simp [Ox.one]; omega
  · rw [Atom.flat, h2]; rfl
/-- the document of pieces -/
def runsOf (l : List Pc) : List Atom := (l.map one).foldl add []
theorem runsOf_snoc (l : List Pc) (p : Pc) : runsOf (l ++ [p]) = add (runsOf l) (one p) := by simp [runsOf]
theorem runsOf_flat (l : List Pc) : (∀ p ∈ l, PcOk p) → Canon (runsOf l) ∧ flat (runsOf l) = l := by
  induction l using snocInd with
  | nil => exact fun _ => ⟨⟨by simp [runsOf], by simp [runsOf, gaps]⟩, rfl⟩
  | snoc l p ih =>
    intro h
    have h1 := ih fun q hq => h q (by simp [hq])
    have h2 := (h p (by simp)).one
    have h3 := add_flat h1.1 h2.1
    rw [runsOf_snoc]
    exact ⟨h3.1, by rw [h3.2, h1.2, h2.2]⟩
theorem flat_ok {d : List Atom} (hd : ∀ a ∈ d, a.ok) : ∀ p ∈ flat d, PcOk p := fun p hp => by
  obtain ⟨a, ha, hpa⟩ := List.mem_flatMap.1 hp
  have h := hd a ha
  have h1 := names_mem _ _ _ _ hpa
  have h2 : p.2 ∈ a.pts := by
    have : p.2 ∈ (names a.o a.n a.pts).map (·.2) := List.mem_map_of_mem hpa
    rwa [names_snd] at this
  exact ⟨by rw [h1.1]; exact h.org, by have := h.low; omega, by have := h.high; omega, h.enc.2 _ h2⟩
/-- the last run ends with the last piece -/
theorem last_flat {d0 : List Atom} {a : Atom} {L : List Pc} {q : Pc} (ha : a.ok) (h : flat (d0 ++ [a]) = L ++ [q]) : a.o = q.1.o ∧ a.n + a.pts.length = q.1.n + 1 := by
  rcases List.eq_nil_or_concat a.pts with h0 | ⟨ps, x, h0⟩
  · exact absurd h0 ha.full
  · rw [List.concat_eq_append] at h0
    have h1 : flat (d0 ++ [a]) = (flat d0 ++ names a.o a.n ps) ++ [((⟨a.o, a.n + ps.length⟩, x) : Pc)] := by
      rw [flat_append]
      show flat d0 ++ (a.flat ++ []) = _
      rw [List.append_nil, Atom.flat, h0, names_append]
      simp [names]
    rw [h1] at h
    have h2 := List.append_inj_right' h rfl
    simp only [List.cons.injEq, and_true] at h2
    subst h2
    rw [h0]; simp; omega
theorem runsOf_fol {l : List Pc} {q p : Pc} {d0 : List Atom} {a : Atom} (h : ∀ p ∈ l ++ [q], PcOk p) (hd : runsOf (l ++ [q]) = d0 ++ [a]) : a.ok ∧ follows a (one p) = decide (q.1.o = p.1.o ∧ q.1.n + 1 = p.1.n) := by
  have h1 := runsOf_flat (l ++ [q]) h
  rw [hd] at h1
  have h2 := h1.1.ok a (by simp)
  have h3 := last_flat h2 h1.2
  refine ⟨h2, ?_⟩
  rw [Bool.eq_iff_iff, follows_ok h2, decide_eq_true_iff, h3.1, h3.2]; rfl
theorem runsOf_ne {l : List Pc} {q : Pc} (h : ∀ p ∈ l ++ [q], PcOk p) : ∃ d0 a, runsOf (l ++ [q]) = d0 ++ [a] := by
  rcases List.eq_nil_or_concat (runsOf (l ++ [q])) with h0 | ⟨d0, a, h0⟩
  · have h1 := (runsOf_flat (l ++ [q]) h).2
    rw [h0] at h1; simp [flat] at h1
  · exact ⟨d0, a, by rw [h0, List.concat_eq_append]⟩
theorem runsOf_length {l : List Pc} (h : ∀ p ∈ l, PcOk p) : (runsOf l).length ≤ l.length := by
  have h1 := runsOf_flat l h
  have h2 := flat_ge h1.1.ok
  rw [h1.2] at h2; exact h2
theorem runsOf_new (l : List Pc) (p : Pc) (hp : PcOk p) (hf : ∀ a, (runsOf l).getLast? = some a → follows a (one p) = false) : runsOf (l ++ [p]) = runsOf l ++ [one p] := by
  rw [runsOf_snoc, add, if_neg hp.one.1.ne]
  cases hl : (runsOf l).getLast? with
  | none => rw [List.getLast?_eq_none_iff.1 hl]; rfl
  | some a => simp only; rw [hf a hl]; simp
theorem runsOf_more {l : List Pc} {p : Pc} {d0 : List Atom} {a : Atom} (hp : PcOk p) (hd : runsOf l = d0 ++ [a]) (hf : follows a (one p) = true) : runsOf (l ++ [p]) = d0 ++ [{ a with text := a.text ++ enc p.2 }] := by
  rw [runsOf_snoc, add, if_neg hp.one.1.ne, hd]
  simp only [List.getLast?_append, List.getLast?_singleton, Option.some_or, List.dropLast_concat]
  rw [if_pos hf]; rfl
end Ox
attribute [local irreducible] At Ops Val Eff Does Res Dr

open Classical in
theorem runs_does (v : Value) (l : List Ox.Pc) (hl : l.length ≤ 1000000) (hok : ∀ p ∈ l, Ox.PcOk p) (h : HV) (hv : PcsH h v l) :
    Does Tryz.prog 179 #[v] [] h (fun r Ω' h' => Ω' = [row 106 4 r (Ox.runsOf l).length ((Ox.runsOf l).flatMap atc)] ∧ h = h') := by
  obtain ⟨a, cp, rfl⟩ := hv.form
  refine Does.of Tryz.func179 rfl Tryz.ntmps179 rfl fun c hc0 => ?_
  refine goK _ ?_
  refine At.row_nil 106 4 ?_
  refine At.loop2 (fun (i : Nat) (u : Value) => [(0, .slice a l.length cp), (3, u), (6, .slice a l.length cp), (7, .int .i64 (l.length : Int)), (8, .int .i64 (i : Int))])
    (fun (i : Nat) (u : Value) w => i ≤ l.length ∧ Mem c [row 106 4 u (Ox.runsOf (l.take i)).length ((Ox.runsOf (l.take i)).flatMap atc)] h w) (fun (i : Nat) (_ : Value) => l.length - i)
    0 (.slice none 0 0) ⟨rfl, rfl, rfl, rfl, rfl, trivial⟩ (fun w hw => ⟨Nat.zero_le _, hw⟩) (fun i u => At.pure (fun hi => ?_))
  refine goK _ ?_
  refine At.condP rfl (fun h2 => ?_) (fun h2 => ?_)
  rotate_left
  · obtain rfl : i = l.length := by omega
    rw [List.take_length]
    refine goK _ ?_
    exact At.ret1 Tryz.results179 (Res.tmp rfl) (List.Sublist.refl _) ⟨rfl, hc0.symm ▸ rfl⟩
  have hlt : i < l.length := by omega
  obtain ⟨b0, o0, rfl, _, _, hc⟩ := RowH.elem pcc_length hv (i := i) (x := l[i]) (by simp [hlt])
  have hts : l.take (i + 1) = l.take i ++ [l[i]] := by rw [List.take_succ_eq_append_getElem hlt]
  have hxo := hok l[i] (by simp)
  have hprev : ∀ k, i = k + 1 → ∃ q, l[k]? = some q ∧ Ox.PcOk q ∧ l.take i = l.take k ++ [q] := fun k hk => by
    subst hk
    exact ⟨l[k], List.getElem?_eq_getElem (by omega), hok _ (by simp), by rw [List.take_succ_eq_append_getElem (by omega)]⟩
  have htk : ∀ p ∈ l.take i, Ox.PcOk p := fun p hp => hok p (List.mem_of_mem_take hp)
  have hrl := Ox.runsOf_length htk
  rw [List.length_take] at hrl
  generalize hx : l[i] = x at *
  obtain ⟨⟨⟨xc, xm⟩, xn⟩, xt⟩ := x
  have hx1 := hxo.low; have hx2 := hxo.high
  simp only at hx1 hx2
  have hen := Ox.enc_length xt
  have hsz := Ox.size_pos xt
  repeat (first | refine Ops.val rfl rfl rfl (V.loadHA (cs := [.int .i64 xc, .int .i64 xm, .int .i64 xn, str (Ox.enc xt)]) rfl rfl rfl hc) ?_ | refine goS _ ?_)
  refine Ops.eff rfl rfl rfl (E.alloc rfl) fun _ => Ops.ex fun b5 => Ops.pure ?_
  rintro rfl
  refine goK _ ?_
  refine Ops.eff0 rfl rfl (E.store 0 rfl rfl rfl rfl rfl rfl rfl) fun _ => ?_
  refine goK _ ?_
  refine At.meet1 (fun (_ : Unit) => [(0, .slice (some ⟨b0, o0, none⟩) l.length cp), (3, u), (4, .int .i64 (i : Int)), (5, .pointer (some ⟨b5, 0, none⟩)), (6, .slice (some ⟨b0, o0, none⟩) l.length cp), (7, .int .i64 (l.length : Int)), (8, .int .i64 (i : Int)), (41, .bool (decide (∃ k q, i = k + 1 ∧ l[k]? = some q ∧ q.1.o = ⟨xc, xm⟩ ∧ q.1.n + 1 = xn)))])
    (fun _ w => Mem c [cells b5 [.int .i64 xc, .int .i64 xm, .int .i64 xn, str (Ox.enc xt)] 265, row 106 4 u (Ox.runsOf (l.take i)).length ((Ox.runsOf (l.take i)).flatMap atc)] h w) (fun k' meet => ?_) (fun _ => ?_)
  · rcases i with _ | k
    · first | refine At.drawn mo (fun _ _ m => m.drew _) ?_ | refine At.seq (At.drawn mo (fun _ _ m => m.drew _) ?_)
      refine Dr.val 0 rfl rfl rfl rfl (by kernel_rfl) rfl (Val.move rfl) ?_
      refine Dr.val 1 rfl rfl rfl rfl (by kernel_rfl) rfl (Val.gtr rfl rfl) ?_
      refine Dr.val 2 rfl rfl rfl rfl (by kernel_rfl) rfl (Val.move rfl) ?_
      refine Dr.boolP (t := 15) rfl (fun h3 => ?_) (fun h3 => ?_)
      · omega
      refine draA 3 _ ?_
      refine draA 4 _ ?_
      refine draA 5 _ ?_
      refine draA 6 _ ?_
      refine draA 7 _ ?_
      refine draA 8 _ ?_
      refine draA 9 _ ?_
      refine draA 10 _ ?_
      refine draA 11 _ ?_
      refine draA 12 _ ?_
      refine draA 13 _ ?_
      refine draA 14 _ ?_
      refine draA 15 _ ?_
      refine draA 16 _ ?_
      refine draA 17 _ ?_
      refine draA 18 _ ?_
      refine draA 19 _ ?_
      refine draA 20 _ ?_
      refine draA 21 _ ?_
      refine draA 22 _ ?_
      refine draA 23 _ ?_
      refine draA 24 _ ?_
      refine draA 25 _ ?_
      refine draA 26 _ ?_
      refine draA 27 _ ?_
      refine draA 28 _ ?_
      refine Dr.done (by kernel_rfl) (by kernel_rfl) ?_
      refine meet () (by exact ⟨rfl, rfl, rfl, rfl, rfl, rfl, rfl, congrArg (fun b => some (Value.bool b)) (by simp), trivial⟩) (fun w hw => hw)
    · obtain ⟨q, hq, hqo, _⟩ := hprev k rfl
      obtain ⟨b1, o1, e1, _, _, hcq⟩ := RowH.elem pcc_length hv hq
      cases e1
      have hq1 := hqo.low; have hq2 := hqo.high
      obtain ⟨⟨⟨qc, qm⟩, qn⟩, qt⟩ := q
      simp only at hq1 hq2
      first | refine At.drawn mo (fun _ _ m => m.drew _) ?_ | refine At.seq (At.drawn mo (fun _ _ m => m.drew _) ?_)
      refine Dr.val 0 rfl rfl rfl rfl (by kernel_rfl) rfl (Val.move rfl) ?_
      refine Dr.val 1 rfl rfl rfl rfl (by kernel_rfl) rfl (Val.gtr rfl rfl) ?_
      refine Dr.val 2 rfl rfl rfl rfl (by kernel_rfl) rfl (Val.move rfl) ?_
      refine Dr.boolP (t := 15) rfl (fun h3 => ?_) (fun h3 => ?_)
      rotate_left
      · omega
      refine Dr.val 3 rfl rfl rfl rfl (by kernel_rfl) rfl (Val.move rfl) ?_
      refine Dr.val 4 rfl rfl rfl rfl (by kernel_rfl) rfl (Val.move rfl) ?_
      refine Dr.val 5 rfl rfl rfl rfl (by kernel_rfl) rfl (Val.sub rfl rfl (by omega) (by omega)) ?_
      refine Dr.respell (t := 18) (v' := .int .i64 ((k : Nat) : Int)) rfl (congrArg (Value.int .i64) (by omega)) ?_
      refine Dr.val 6 rfl rfl rfl rfl (by kernel_rfl) rfl (V.indexAddr rfl rfl rfl rfl (by omega)) ?_
      refine Dr.val 7 rfl rfl rfl rfl (by kernel_rfl) rfl (V.fieldAddr rfl rfl) ?_
      refine Dr.val 8 rfl rfl rfl rfl (by kernel_rfl) rfl (V.fieldAddr rfl rfl) ?_
      refine Dr.valS 9 _ rfl rfl rfl rfl (by kernel_rfl) rfl (V.loadN (cs := [.int .i64 qc, .int .i64 qm]) rfl rfl rfl (fun _ hh => hh)) (fun w hw j u hu => hw.cellH (hcq j u (by
        rcases j with _ | _ | j
        · exact hu
        · exact hu
        · simp at hu))) ?_
      refine Dr.val 10 rfl rfl rfl rfl (by kernel_rfl) rfl (V.fieldAddr rfl rfl) ?_
      refine Dr.val 11 rfl rfl rfl rfl (by kernel_rfl) rfl (V.fieldAddr rfl rfl) ?_
      refine Dr.valS 12 _ rfl rfl rfl rfl (by kernel_rfl) rfl (V.loadN (cs := [.int .i64 xc, .int .i64 xm]) rfl rfl rfl (fun _ hh => hh)) (fun w hw => hw.cellsAt (n := 0) rfl rfl) ?_
      refine Dr.val 13 rfl rfl rfl rfl (by kernel_rfl) rfl (V.eql66 rfl rfl) ?_
      refine Dr.val 14 rfl rfl rfl rfl (by kernel_rfl) rfl (Val.pick rfl rfl) ?_
      refine Dr.val 15 rfl rfl rfl rfl (by kernel_rfl) rfl (Val.move rfl) ?_
      refine Dr.boolP (t := 28) rfl (fun h4 => ?_) (fun h4 => ?_)
      rotate_left
      · refine draA 16 _ ?_
        refine draA 17 _ ?_
        refine draA 18 _ ?_
        refine draA 19 _ ?_
        refine draA 20 _ ?_
        refine draA 21 _ ?_
        refine draA 22 _ ?_
        refine draA 23 _ ?_
        refine draA 24 _ ?_
        refine draA 25 _ ?_
        refine draA 26 _ ?_
        refine draA 27 _ ?_
        refine draA 28 _ ?_
        refine Dr.done (by kernel_rfl) (by kernel_rfl) ?_
        refine meet () (by exact ⟨rfl, rfl, rfl, rfl, rfl, rfl, rfl, congrArg (fun b => some (Value.bool b)) (decide_eq_false (by
          rintro ⟨k2, q2, e2, e3, e4, _⟩
          obtain rfl : k = k2 := by omega
          rw [hq] at e3; cases e3
          exact h4 e4)).symm, trivial⟩) (fun w hw => hw)
      refine Dr.val 16 rfl rfl rfl rfl (by kernel_rfl) rfl (Val.move rfl) ?_
      refine Dr.val 17 rfl rfl rfl rfl (by kernel_rfl) rfl (Val.move rfl) ?_
      refine Dr.val 18 rfl rfl rfl rfl (by kernel_rfl) rfl (Val.sub rfl rfl (by omega) (by omega)) ?_
      refine Dr.respell (t := 31) (v' := .int .i64 ((k : Nat) : Int)) rfl (congrArg (Value.int .i64) (by omega)) ?_
      refine Dr.val 19 rfl rfl rfl rfl (by kernel_rfl) rfl (V.indexAddr rfl rfl rfl rfl (by omega)) ?_
      refine Dr.val 20 rfl rfl rfl rfl (by kernel_rfl) rfl (V.fieldAddr rfl rfl) ?_
      refine Dr.val 21 rfl rfl rfl rfl (by kernel_rfl) rfl (V.fieldAddr rfl rfl) ?_
      refine Dr.valS 22 _ rfl rfl rfl rfl (by kernel_rfl) rfl (V.load rfl rfl (fun _ hh => hh)) (fun w hw => hw.cellH (hcq 2 (.int .i64 qn) rfl)) ?_
      refine Dr.val 23 rfl rfl rfl rfl (by kernel_rfl) rfl (Val.add rfl rfl (by omega) (by omega)) ?_
      refine Dr.val 24 rfl rfl rfl rfl (by kernel_rfl) rfl (V.fieldAddr rfl rfl) ?_
      refine Dr.val 25 rfl rfl rfl rfl (by kernel_rfl) rfl (V.fieldAddr rfl rfl) ?_
      refine Dr.valS 26 _ rfl rfl rfl rfl (by kernel_rfl) rfl (V.load rfl rfl (fun _ hh => hh)) (fun w hw => hw.cell (n := 0) rfl rfl) ?_
      refine Dr.val 27 rfl rfl rfl rfl (by kernel_rfl) rfl (Val.eql rfl rfl) ?_
      refine Dr.val 28 rfl rfl rfl rfl (by kernel_rfl) rfl (Val.pick rfl rfl) ?_
      refine Dr.done (by kernel_rfl) (by kernel_rfl) ?_
      have e9 : decide (qn + 1 = xn) = decide (∃ k' q, k + 1 = k' + 1 ∧ l[k']? = some q ∧ q.1.o = ⟨xc, xm⟩ ∧ q.1.n + 1 = xn) := by
        rw [decide_eq_decide]
        constructor
        · exact fun e => ⟨k, _, rfl, hq, h4, e⟩
        · rintro ⟨k2, q2, e2, e3, _, e5⟩
          obtain rfl : k = k2 := by omega
          rw [hq] at e3; cases e3
          exact e5
      refine meet () (by exact ⟨rfl, rfl, rfl, rfl, rfl, rfl, rfl, congrArg (fun b => some (Value.bool b)) e9, trivial⟩) (fun w hw => hw)
  refine goK _ ?_
  refine At.condP rfl (fun h3 => ?_) (fun h3 => ?_)
  · obtain ⟨k, q, rfl, hq, ho, hn⟩ := h3
    obtain ⟨q', hq', hqo, htq⟩ := hprev k rfl
    rw [hq] at hq'; cases hq'
    obtain ⟨d0, lr, hd⟩ := Ox.runsOf_ne (l := l.take k) (q := q) (fun p hp => htk p (by rw [htq]; exact hp))
    have hfo := Ox.runsOf_fol (p := ⟨⟨⟨xc, xm⟩, xn⟩, xt⟩) (fun p hp => htk p (by rw [htq]; exact hp)) hd
    rw [← htq] at hd
    have hlo := hfo.1.short
    have hnx : Ox.runsOf (l.take (k + 1 + 1)) = d0 ++ [{ lr with text := lr.text ++ Ox.enc xt }] := by
      rw [hts]; exact Ox.runsOf_more hxo hd (by rw [hfo.2]; exact decide_eq_true ⟨ho, hn⟩)
    rw [hd] at hrl ⊢
    have hxl : ((d0 ++ [lr]).flatMap atc).length = (d0 ++ [lr]).length * 4 := flat_length atc 4 (fun _ => rfl) _
    refine At.open_row 1 rfl (by simp) fun g acp rest hv hl1 hl2 hN hcp => ?_
    cases hv
    have hlb : (atc lr).length = 4 := rfl
    have hfm : (d0 ++ [lr]).flatMap atc ++ rest = d0.flatMap atc ++ (atc lr ++ rest) := by simp
    have hfl : (d0.flatMap atc).length = d0.length * 4 := flat_length atc 4 (fun _ => rfl) d0
    refine goK _ ?_
    first | refine At.drawn mo (fun _ _ m => m.drew _) ?_ | refine At.seq (At.drawn mo (fun _ _ m => m.drew _) ?_)
    refine Dr.val 0 rfl rfl rfl rfl (by kernel_rfl) rfl (Val.move rfl) ?_
    refine Dr.val 1 rfl rfl rfl rfl (by kernel_rfl) rfl (Val.move rfl) ?_
    refine Dr.val 2 rfl rfl rfl rfl (by kernel_rfl) rfl (V.lenslice rfl rfl) ?_
    refine Dr.val 3 rfl rfl rfl rfl (by kernel_rfl) rfl (Val.sub rfl rfl (by omega) (by omega)) ?_
    refine Dr.respell (t := 45) (v' := .int .i64 ((d0.length : Nat) : Int)) rfl (by simp) ?_
    refine Dr.val 4 rfl rfl rfl rfl (by kernel_rfl) rfl (V.indexAddr rfl rfl rfl rfl (by simp)) ?_
    refine Dr.val 5 rfl rfl rfl rfl (by kernel_rfl) rfl (V.fieldAddr rfl rfl) ?_
    refine Dr.valS 6 _ rfl rfl rfl rfl (by kernel_rfl) rfl (V.load rfl rfl (fun _ hh => hh)) (fun w hw => hw.cell (n := 1) (v := str lr.text) rfl (by rw [hfm, List.getElem?_append_right (by omega)]; simp [hfl, atc])) ?_
    refine Dr.val 7 rfl rfl rfl rfl (by kernel_rfl) rfl (V.fieldAddr rfl rfl) ?_
    refine Dr.valS 8 _ rfl rfl rfl rfl (by kernel_rfl) rfl (V.load rfl rfl (fun _ hh => hh)) (fun w hw => hw.cell (n := 0) rfl rfl) ?_
    refine Dr.val 9 rfl rfl rfl rfl (by kernel_rfl) rfl (Val.stradd rfl rfl (by omega)) ?_
    refine Dr.val 10 rfl rfl rfl rfl (by kernel_rfl) rfl (V.indexAddr rfl rfl rfl rfl (by simp)) ?_
    refine Dr.val 11 rfl rfl rfl rfl (by kernel_rfl) rfl (V.fieldAddr rfl rfl) ?_
    refine Dr.next0 (e := 12) rfl rfl (by kernel_rfl) rfl (by kernel_rfl) (by kernel_rfl) rfl (E.store 1 rfl rfl rfl rfl rfl (by rw [hfm]; simp [hfl]; omega) rfl) aokK fun _ => ?_
    refine Dr.done (by kernel_rfl) (by kernel_rfl) ?_
    refine At.close_row (N := d0.length + 1) (xs := (d0 ++ [{ lr with text := lr.text ++ Ox.enc xt }]).flatMap atc) (rest := rest) (cp := acp) (e := 106) (size := 4) (g := g) 1 ?_ ?_ ?_ ?_ hcp ?_
    · refine congrArg (fun z => some (cells g z 106)) ?_
      show ((d0 ++ [lr]).flatMap atc ++ rest).set (0 + d0.length * 4 + 3) (str (lr.text ++ Ox.enc xt)) = _
      rw [hfm, set_mid hfl (k := 3) (by omega)]
      simp [atc]
    · rw [flat_length atc 4 (fun _ => rfl)]; simp
    · rw [← hl2, List.length_append, List.length_append, flat_length atc 4 (fun _ => rfl), flat_length atc 4 (fun _ => rfl)]; simp
    · simpa using hN
    refine goK _ ?_
    refine At.back2 (k + 1 + 1) (.slice (some ⟨g, 0, none⟩) (d0 ++ [lr]).length acp) (by show l.length - (k + 1 + 1) < l.length - (k + 1); omega) (by exact ⟨rfl, rfl, rfl, rfl, rfl, trivial⟩) (fun w hw => ⟨hlt, ?_⟩)
    rw [hnx]
    simp only [List.length_append, List.length_cons, List.length_nil] at hw ⊢
    exact hw.sub (List.sublist_cons_self _ _)
  · have hnx : Ox.runsOf (l.take (i + 1)) = Ox.runsOf (l.take i) ++ [Ox.one ⟨⟨⟨xc, xm⟩, xn⟩, xt⟩] := by
      rw [hts]
      refine Ox.runsOf_new _ _ hxo fun lr hlr => ?_
      rcases i with _ | k
      · simp [Ox.runsOf] at hlr
      obtain ⟨q, hq, hqo, htq⟩ := hprev k rfl
      rw [htq] at hlr
      obtain ⟨d0, lr', hd⟩ := Ox.runsOf_ne (l := l.take k) (q := q) (fun p hp => htk p (by rw [htq]; exact hp))
      rw [hd] at hlr
      have : lr' = lr := by simpa using hlr
      subst this
      have hfo := Ox.runsOf_fol (p := ⟨⟨⟨xc, xm⟩, xn⟩, xt⟩) (fun p hp => htk p (by rw [htq]; exact hp)) hd
      rw [hfo.2]
      exact decide_eq_false fun ⟨ho, hn⟩ => h3 ⟨k, q, rfl, hq, ho, hn⟩
    repeat (first | refine Ops.val rfl rfl rfl (V.loadOP 0 [.int .i64 xc, .int .i64 xm] rfl rfl rfl rfl rfl) ?_ | refine goS _ ?_)
    refine Ops.eff rfl rfl rfl (E.buildSlice1 rfl rfl rfl rfl) fun _ => Ops.ex fun _ => Ops.pure ?_
    rintro rfl
    refine Ops.eff rfl rfl rfl (E.append1s 1 rfl rfl rfl rfl rfl rfl (by omega) (by omega)) fun _ => Ops.ex fun g2 => Ops.ex fun cp2 => Ops.pure ?_
    rintro rfl
    refine goK _ ?_
    refine At.back2 (i + 1) (.slice (some ⟨g2, 0, none⟩) ((Ox.runsOf (l.take i)).length + 1) cp2) (by show l.length - (i + 1) < l.length - i; omega) (by exact ⟨rfl, rfl, rfl, rfl, rfl, trivial⟩) (fun w hw => ⟨hlt, ?_⟩)
    rw [hnx, List.length_append, List.flatMap_append]
    exact hw.sub (List.sublist_cons_self _ _)
end Go.Proofs.YthjgbmbaabpgmaaGreat
/-
  Merging: the document of two that came of one. What it is.
-/
namespace Go.Proofs.YthjgbmbaabpgmaaGreat
open Go.Sy
set_option maxRecDepth 4000
set_option maxHeartbeats 4000000
namespace Ox
/-- stands in all three -/
def surv (A B D : List Pc) (p : Pt) : Bool := decide (0 < posF A p ∧ 0 < posF B p ∧ 0 < posF D p)
/-- is new -/
def fresh (A : List Pc) (p : Pt) : Bool := decide (posF A p = 0)
def bothB (A D : List Pc) (p : Pt) : Bool := decide (posF A p = 0 ∧ 0 < posF D p)
def saidOf (l : List Pc) : List UInt8 := encs (l.map (·.2))
/-- what two sides put in at one place -/
def mpart (nx ny : Int) (l r : List Pc) : List Pc := if 0 < cmp (saidOf l) (saidOf r) ∨ (cmp (saidOf l) (saidOf r) = 0 ∧ nx > ny) then r ++ l else l ++ r
def mgap (nx ny : Int) (all : List Pc) (L R : List (List Pc)) (g : Nat) : List Pc := mpart nx ny (L[g]?.getD []) (R[g]?.getD []) ++ all[g]?.toList
def mtake (nx ny : Int) (all : List Pc) (L R : List (List Pc)) (k : Nat) : List Pc := (List.range k).flatMap (mgap nx ny all L R)
theorem mtake_succ (nx ny : Int) (all : List Pc) (L R : List (List Pc)) (k : Nat) : mtake nx ny all L R (k + 1) = mtake nx ny all L R k ++ mgap nx ny all L R k := by simp [mtake, List.range_succ]
def kept (a b c : List Pc) : List Pc := a.filter fun p => surv a b c p.1
/-- the pieces of the merged document -/
def mergePcs (nx ny : Int) (a b c : List Pc) : List Pc := mtake nx ny (kept a b c) (splits (surv a b c) (fresh a) b) (splits (surv a b c) (fresh a) c) ((kept a b c).length + 1)
/-- may these three be merged -/
def Mergeable (a b c : List Pc) : Prop := Alike a b ∧ Alike a c ∧ riseB (posF b) a = true ∧ riseB (posF c) a = true ∧ (b.any fun p => bothB a c p.1) = false
open Classical in
noncomputable def docsE (base x y : List Atom) (nx ny : Int) : Int :=
  if ¬ (Good base ∧ Good x ∧ Good y) then 120 else if ¬ Mergeable (flat base) (flat x) (flat y) then 141 else if 1000 < (mergePcs nx ny (flat base) (flat x) (flat y)).length then 91 else 0
theorem nodup_leP {α : Type} [DecidableEq α] : ∀ {l V : List α}, l.Nodup → (∀ k ∈ l, k ∈ V) → l.length ≤ V.length
  | [], _, _, _ => by simp
  | a :: l, V, hn, hs => by
    have ha := hs a (by simp)
    have h1 : l.length ≤ (V.erase a).length := nodup_leP (List.nodup_cons.1 hn).2 fun k hk => by
      have hne : k ≠ a := fun e => (List.nodup_cons.1 hn).1 (e ▸ hk)
      exact (List.mem_erase_of_ne hne).2 (hs k (by simp [hk]))
    have h2 := List.length_erase_of_mem ha
    have h3 := List.length_pos_of_mem ha
    simp only [List.length_cons]; omega
theorem surv_few {a b c l : List Pc} (hl : (l.map (·.1)).Nodup) : (l.countP fun p => surv a b c p.1) ≤ (kept a b c).length := by
  rw [List.countP_eq_length_filter]
  have h1 : ((l.filter fun p => surv a b c p.1).map (·.1)).Nodup := hl.sublist ((List.filter_sublist (l := l)).map _)
  have h2 := nodup_leP (V := (kept a b c).map (·.1)) h1 fun k hk => by
    obtain ⟨p, hp, rfl⟩ := List.mem_map.1 hk
    have hs := (List.mem_filter.1 hp).2
    have h3 : p.1 ∈ a.map (·.1) := (posF_pos a p.1).1 (of_decide_eq_true hs).1
    obtain ⟨q, hq, e⟩ := List.mem_map.1 h3
    exact List.mem_map.2 ⟨q, List.mem_filter.2 ⟨hq, by rw [e]; exact hs⟩, e⟩
  simpa using h2
theorem splits_sum (ends is : Pt → Bool) (l : List Pc) : (splits ends is l).flatten.length ≤ l.length := by
  induction l using snocInd with
  | nil => simp [splits, splF]
  | snoc l p ih =>
    rw [splits] at ih ⊢
    rw [splF_snoc, splStep]
    simp only [List.flatten_append, List.length_append, List.flatten_cons, List.flatten_nil, List.append_nil, List.length_cons, List.length_nil] at ih ⊢
    split
    · simp [-List.length_flatten]; omega
    · split
      · simp [-List.length_flatten]; omega
      · simp [-List.length_flatten]; omega
theorem part_le (L : List (List Pc)) (g : Nat) : (L[g]?.getD []).length ≤ L.flatten.length := by
  cases hg : L[g]? with
  | none => simp
  | some l =>
    obtain ⟨h1, h2⟩ := List.getElem?_eq_some_iff.1 hg
    have := (List.sublist_flatten_of_mem (List.mem_of_getElem? hg)).length_le
    simpa using this
theorem mpart_length (nx ny : Int) (l r : List Pc) : (mpart nx ny l r).length = l.length + r.length := by
  unfold mpart; split <;> simp; omega
theorem mpart_mem {nx ny : Int} {l r : List Pc} {p : Pc} : p ∈ mpart nx ny l r ↔ p ∈ l ∨ p ∈ r := by
  unfold mpart; split
  · rw [List.mem_append]; exact Or.comm
  · exact List.mem_append
theorem mgap_length (nx ny : Int) (all : List Pc) (L R : List (List Pc)) (g : Nat) : (mgap nx ny all L R g).length ≤ L.flatten.length + R.flatten.length + 1 := by
  have h1 := part_le L g
  have h2 := part_le R g
  rw [mgap, List.length_append, mpart_length]
  cases all[g]? <;> simp [-List.length_flatten] <;> omega
theorem mtake_length (nx ny : Int) (all : List Pc) (L R : List (List Pc)) (k : Nat) : (mtake nx ny all L R k).length ≤ k * (L.flatten.length + R.flatten.length + 1) := by
  induction k with
  | zero => simp [mtake]
  | succ k ih =>
    have := mgap_length nx ny all L R k
    rw [mtake_succ, List.length_append, Nat.add_mul, Nat.one_mul]; omega
theorem splits_mem {ends is : Pt → Bool} {l : List Pc} {g : Nat} {p : Pc} (h : p ∈ (splits ends is l)[g]?.getD []) : p ∈ l := by
  have key : ∀ l : List Pc, ∀ q ∈ (splits ends is l).flatten, q ∈ l := by
    intro l
    induction l using snocInd with
    | nil => simp [splits, splF]
    | snoc l p ih =>
      intro q hq
      rw [splits] at ih hq
      rw [splF_snoc, splStep] at hq
      simp only [List.flatten_append, List.mem_append, List.flatten_cons, List.flatten_nil, List.append_nil, List.mem_singleton] at ih hq ⊢
      split at hq
      · simp at hq; exact .inl (ih q (by simpa using hq))
      · split at hq
        · rcases hq with h | h
          · exact .inl (ih q (.inl h))
          · rcases List.mem_append.1 h with h | h
            · exact .inl (ih q (.inr h))
            · exact .inr (by simpa using h)
        · exact .inl (ih q hq)
  cases hg : (splits ends is l)[g]? with
  | none => rw [hg] at h; simp at h
  | some m =>
    rw [hg] at h
    exact key l p (List.mem_flatten.2 ⟨m, List.mem_of_getElem? hg, h⟩)
theorem mgap_mem {nx ny : Int} {a b c : List Pc} {g : Nat} {p : Pc} (h : p ∈ mgap nx ny (kept a b c) (splits (surv a b c) (fresh a) b) (splits (surv a b c) (fresh a) c) g) : p ∈ a ∨ p ∈ b ∨ p ∈ c := by
  rw [mgap, List.mem_append, mpart_mem] at h
  rcases h with (h | h) | h
  · exact .inr (.inl (splits_mem h))
  · exact .inr (.inr (splits_mem h))
  · left
    cases hg : (kept a b c)[g]? with
    | none => rw [hg] at h; simp at h
    | some q =>
      rw [hg] at h
      simp only [Option.toList_some, List.mem_singleton] at h
      subst h
      exact (List.mem_filter.1 (List.mem_of_getElem? hg)).1
theorem mtake_mem {nx ny : Int} {a b c : List Pc} {k : Nat} {p : Pc} (h : p ∈ mtake nx ny (kept a b c) (splits (surv a b c) (fresh a) b) (splits (surv a b c) (fresh a) c) k) : p ∈ a ∨ p ∈ b ∨ p ∈ c := by
  obtain ⟨g, _, h⟩ := List.mem_flatMap.1 h
  exact mgap_mem h
end Ox
end Go.Proofs.YthjgbmbaabpgmaaGreat
