/-
  Documents: Check.
-/
import Derived.Test.YthjgbmbaabpgmaaGreatSrd05
import Derived.Test.YthjgbmbaabpgmaaGreatSrd14
set_option linter.unusedVariables false
set_option linter.unusedSimpArgs false
set_option linter.unusedSectionVars false
namespace Go.Proofs.YthjgbmbaabpgmaaGreat
open Go.Sy
set_option maxRecDepth 4000
set_option maxHeartbeats 4000000
attribute [local irreducible] At Ops Val Eff Does Res Dr
namespace Ox
/-- is a run, behind another one or none, no run of a document? -/
def bad (q : Option Atom) (a : Atom) : Bool := !a.o.ok || (decide (tlen a.text < 1) || (decide (a.n < 0) || (decide (a.n > 999) || (decide (a.n + tlen a.text - 1 > 999) || (match q with | none => false | some q => follows q a)))))
def namesOf (d : List Atom) : List Pt := (flat d).map (·.1)
/-- what Check lets pass -/
structure Good (d : List Atom) : Prop where
  canon : Canon d
  nodup : (namesOf d).Nodup
  few : (flat d).length ≤ 1000
theorem tlen_le (s : List UInt8) : -1 ≤ tlen s ∧ tlen s ≤ s.length := by
  unfold tlen
  cases hp : points s with
  | none => simp
  | some l => have := points_length hp; simp; omega
/-- names counted once each -/
def ones (ks : List Pt) : List (Pt × Value) := ks.map fun p => (p, .int .i64 1)
theorem mget_ones (ks : List Pt) (a : Pt) : (mget (ones ks) a).getD (.int .i64 0) = .int .i64 (if a ∈ ks then 1 else 0) := by
  induction ks with
  | nil => simp [ones, mget]
  | cons b r ih =>
    simp only [ones, List.map_cons, mget] at ih ⊢
    by_cases h : b = a
    · subst h; simp
    · rw [if_neg h, ih]
      simp [Ne.symm h]
theorem mset_ones {ks : List Pt} {a : Pt} (h : a ∉ ks) : mset (ones ks) a (.int .i64 1) = ones (ks ++ [a]) := by
  induction ks with
  | nil => rfl
  | cons b r ih =>
    simp only [List.mem_cons, not_or] at h
    simp only [ones, List.map_cons, List.cons_append, mset, if_neg (Ne.symm h.1)]
    have := ih h.2
    simp only [ones] at this
    rw [this]
theorem mset_mset {α β : Type} [DecidableEq α] (m : List (α × β)) (a : α) (u v : β) : mset (mset m a u) a v = mset m a v := by
  induction m with
  | nil => simp [mset]
  | cons p r ih =>
    obtain ⟨b, w⟩ := p
    simp only [mset]
    by_cases h : b = a
    · simp [h, mset]
    · simp [h, mset, ih]
theorem names_get (o : Org) : ∀ (l : List Nat) (n : Int) (k : Nat), k < l.length → ((names o n l).map (·.1))[k]? = some ⟨o, n + k⟩
  | [], _, _, h => by simp at h
  | p :: r, n, 0, _ => by simp [names]
  | p :: r, n, k + 1, h => by
    have := names_get o r (n + 1) k (by simpa using h)
    simp only [names, List.map_cons, List.getElem?_cons_succ, this]
    congr 2; omega
theorem bad_ok {q : Option Atom} {a : Atom} (h : bad q a = false) : a.ok ∧ ∀ p, q = some p → follows p a = false := by
  simp only [bad, Bool.or_eq_false_iff, Bool.not_eq_false', decide_eq_false_iff_not] at h
  obtain ⟨h1, h2, h3, h4, h5, h6⟩ := h
  cases hp : points a.text with
  | none => simp [tlen, hp] at h2
  | some l =>
    have hpt : a.pts = l := by simp [Atom.pts, hp]
    have hl : tlen a.text = (l.length : Int) := by simp [tlen, hp]
    rw [hl] at h2 h5
    refine ⟨⟨h1, by omega, by rw [hpt]; omega, by rw [hpt]; exact hp, by rw [hpt]; intro e; subst e; simp at h2⟩, fun p hp' => ?_⟩
    subst hp'; exact h6
theorem ok_bad {q : Option Atom} {a : Atom} (h : a.ok) (hq : ∀ p, q = some p → follows p a = false) : bad q a = false := by
  have h1 := h.org; have h2 := h.low; have h3 := h.high
  have h4 := h.flat_length
  rw [h4.1] at h4
  have h5 := h.tlen
  simp only [bad, Bool.or_eq_false_iff, Bool.not_eq_false', decide_eq_false_iff_not]
  refine ⟨h1, by omega, by omega, by omega, by omega, ?_⟩
  cases q with
  | none => rfl
  | some p => exact hq p rfl
theorem gaps_take : ∀ {d : List Atom} (j : Nat), gaps d → gaps (d.take j)
  | [], j, _ => by simp [gaps]
  | [a], 0, _ => by simp [gaps]
  | [a], j + 1, _ => by simp [gaps]
  | a :: b :: r, 0, _ => by simp [gaps]
  | a :: b :: r, 1, _ => by simp [gaps]
  | a :: b :: r, j + 2, h => by
    have := gaps_take (d := b :: r) (j + 1) h.2
    simp only [List.take_succ_cons, gaps] at this ⊢
    exact ⟨h.1, this⟩
theorem flat_take_drop (d : List Atom) (j : Nat) : flat d = flat (d.take j) ++ flat (d.drop j) := by
  rw [← flat_append, List.take_append_drop]
theorem Good.take {d : List Atom} (h : Good d) (j : Nat) : Good (d.take j) := by
  have e := flat_take_drop d j
  refine ⟨⟨fun a ha => h.canon.ok a (List.mem_of_mem_take ha), gaps_take j h.canon.gaps⟩, ?_, ?_⟩
  · have := h.nodup
    unfold namesOf at *
    rw [e, List.map_append] at this
    exact (List.nodup_append.1 this).1
  · have := h.few
    rw [e, List.length_append] at this; omega
theorem gaps_pair : ∀ {d : List Atom} {p a : Atom}, gaps (d ++ [p] ++ [a]) → follows p a = false
  | [], p, a, h => by simp [gaps] at h; exact h
  | [x], p, a, h => by simp [gaps] at h; exact h.2
  | x :: y :: r, p, a, h => gaps_pair (d := y :: r) (by simp only [List.cons_append, gaps] at h ⊢; exact h.2)
theorem Good.at_ {d : List Atom} (h : Good d) {a : Atom} {d0 : List Atom} {i : Nat} (hd : d.take (i + 1) = d0 ++ [a]) : a.ok ∧ ∀ p, d0.getLast? = some p → follows p a = false := by
  have h1 := h.take (i + 1)
  rw [hd] at h1
  refine ⟨h1.canon.ok a (by simp), fun p hp => ?_⟩
  obtain ⟨d1, rfl⟩ : ∃ d1, d0 = d1 ++ [p] := by
    rcases List.eq_nil_or_concat d0 with rfl | ⟨d1, l, rfl⟩
    · simp at hp
    · simp at hp; subst hp; exact ⟨d1, by simp⟩
  exact gaps_pair h1.canon.gaps
theorem canon_snoc {d : List Atom} {a : Atom} (h : Canon d) (ha : a.ok) (hf : ∀ p, d.getLast? = some p → follows p a = false) : Canon (d ++ [a]) := by
  refine ⟨fun x hx => ?_, ?_⟩
  · rcases List.mem_append.1 hx with h1 | h1
    · exact h.ok x h1
    · simp at h1; subst h1; exact ha
  · rcases List.eq_nil_or_concat d with rfl | ⟨d1, l, rfl⟩
    · simp [gaps]
    · simp only [List.concat_eq_append] at *
      exact gaps_concat h.gaps (hf l (by simp))
end Ox
open Classical in
noncomputable def Ox.check (d : List Ox.Atom) : Int := if Ox.Good d then 0 else 120

theorem DocCheck_does (v : Value) (d : List Ox.Atom) (ht : ∀ a ∈ d, a.text.length ≤ 10000000000) (hdl : d.length ≤ 10000000000) (h : HV) (hv : AtsH h v d) :
    Does Tryz.prog 164 #[v] [] h (Just h (· = .int .i64 (Ox.check d))) := by
  obtain ⟨a, cp, rfl⟩ := hv.form
  refine Does.of Tryz.func164 rfl Tryz.ntmps164 rfl fun c hc0 => ?_
  refine goK _ ?_
  refine Ops.eff rfl rfl rfl (E.makeMap ptv) fun _ => Ops.ex fun bm => Ops.pure ?_
  rintro rfl
  refine goK _ ?_
  refine At.loop2 (fun (i : Nat) (_ : List (Ox.Pt × Value)) => [(0, .slice a d.length cp), (3, .map (some bm)), (9, .slice a d.length cp), (10, .int .i64 (d.length : Int)), (11, .int .i64 (i : Int))])
    (fun (i : Nat) (m : List (Ox.Pt × Value)) w => (i ≤ d.length ∧ Ox.Good (d.take i) ∧ m = Ox.ones (Ox.namesOf (d.take i))) ∧ Mem c [mapI ptv bm m] h w) (fun (i : Nat) (_ : List (Ox.Pt × Value)) => d.length - i)
    0 [] ⟨rfl, rfl, rfl, rfl, rfl, trivial⟩ (fun w hw => ⟨⟨Nat.zero_le _, ⟨⟨by simp, by simp [Ox.gaps]⟩, by simp [Ox.namesOf, Ox.flat], by simp [Ox.flat]⟩, rfl⟩, hw⟩) (fun i m => At.pure fun ⟨hi, hg, hm⟩ => ?_)
  refine goK _ ?_
  refine At.condP rfl (fun h2 => ?_) (fun h2 => ?_)
  rotate_left
  · obtain rfl : i = d.length := by omega
    rw [List.take_length] at hg
    refine goK _ ?_
    refine At.ret1 Tryz.results164 (Res.tmp rfl) (List.nil_sublist _) ⟨?_, rfl, rfl⟩
    rw [Ox.check, if_pos hg]
  have hlt : i < d.length := by omega
  obtain ⟨b, o, rfl, _, _, hc⟩ := RowH.elem atc_length hv (i := i) (x := d[i]) (by simp [hlt])
  have hts : d.take (i + 1) = d.take i ++ [d[i]] := by rw [List.take_succ_eq_append_getElem hlt]
  have htx := ht d[i] (by simp)
  generalize hx : d[i] = x at *
  obtain ⟨⟨xc, xm⟩, xn, xt⟩ := x
  simp only at htx
  have htl := Ox.tlen_le xt
  repeat (first | refine Ops.val rfl rfl rfl (V.loadHA (cs := [.int .i64 xc, .int .i64 xm, .int .i64 xn, str xt]) rfl rfl rfl hc) ?_ | refine goS _ ?_)
  refine Ops.eff rfl rfl rfl (E.alloc rfl) fun _ => Ops.ex fun b5 => Ops.pure ?_
  rintro rfl
  refine goK _ ?_
  refine Ops.eff0 rfl rfl (E.store 0 rfl rfl rfl rfl rfl rfl rfl) fun _ => ?_
  refine goK _ ?_
  refine Ops.eff rfl rfl rfl (Eff.call (fn (by kernel_rfl)) rfl (Ωc := []) rfl (Len_does xt (by omega) h)) fun _ => Ops.ex fun _ => Ops.ex fun _ => Ops.pure ?_
  rintro ⟨rfl, rfl, rfl⟩
  refine goK _ ?_
  refine At.meet1 (fun (_ : Unit) => [(0, .slice (some ⟨b, o, none⟩) d.length cp), (3, .map (some bm)), (5, .pointer (some ⟨b5, 0, none⟩)), (6, .int .i64 (Ox.tlen xt)), (9, .slice (some ⟨b, o, none⟩) d.length cp), (10, .int .i64 (d.length : Int)), (11, .int .i64 (i : Int)), (57, .bool (Ox.bad (d.take i).getLast? ⟨⟨xc, xm⟩, xn, xt⟩))])
    (fun _ w => Mem c [cells b5 [.int .i64 xc, .int .i64 xm, .int .i64 xn, str xt] 106, mapI ptv bm m] h w) (fun k meet => ?_) (fun _ => ?_)
  · first | refine At.drawn mo (fun _ _ m => m.drew _) ?_ | refine At.seq (At.drawn mo (fun _ _ m => m.drew _) ?_)
    refine Dr.val 0 rfl rfl rfl rfl (by kernel_rfl) rfl (V.fieldAddr rfl rfl) ?_
    refine Dr.valS 1 _ rfl rfl rfl rfl (by kernel_rfl) rfl (V.loadN (cs := [.int .i64 xc, .int .i64 xm]) rfl rfl rfl (fun _ hh => hh)) (fun w hw => hw.cellsAt (n := 0) rfl rfl) ?_
    refine Dr.next (e := 2) rfl rfl (by kernel_rfl) rfl (by kernel_rfl) (by kernel_rfl) rfl rfl (Eff.call (fn (by kernel_rfl)) rfl (Ωc := []) rfl (isOrigin_does ⟨xc, xm⟩ h)) aokK fun _ => Dr.ex fun _ => Dr.ex fun _ => Dr.pure ?_
    rintro ⟨rfl, rfl, rfl⟩
    refine draA 3 _ ?_
    refine draA 4 _ ?_
    refine Dr.boolB (t := 23) rfl (fun hb1 => ?_) (fun hb1 => ?_)
    · refine draA 5 _ ?_
      refine draA 6 _ ?_
      refine draA 7 _ ?_
      refine draA 8 _ ?_
      refine draA 9 _ ?_
      refine draA 10 _ ?_
      refine draA 11 _ ?_
      refine draA 12 _ ?_
      refine draA 13 _ ?_
      refine draA 14 _ ?_
      refine draA 15 _ ?_
      refine draA 16 _ ?_
      refine draA 17 _ ?_
      refine draA 18 _ ?_
      refine draA 19 _ ?_
      refine draA 20 _ ?_
      refine draA 21 _ ?_
      refine draA 22 _ ?_
      refine draA 23 _ ?_
      refine draA 24 _ ?_
      refine draA 25 _ ?_
      refine draA 26 _ ?_
      refine draA 27 _ ?_
      refine draA 28 _ ?_
      refine draA 29 _ ?_
      refine draA 30 _ ?_
      refine draA 31 _ ?_
      refine draA 32 _ ?_
      refine draA 33 _ ?_
      refine draA 34 _ ?_
      refine draA 35 _ ?_
      refine draA 36 _ ?_
      refine draA 37 _ ?_
      refine draA 38 _ ?_
      refine Dr.done (by kernel_rfl) (by kernel_rfl) ?_
      refine meet () (by exact ⟨rfl, rfl, rfl, rfl, rfl, rfl, rfl, congrArg (fun z => some (Value.bool z)) (by simp only [Ox.bad, hb1]; simp), trivial⟩) (fun w hw => hw)
    refine draA 5 _ ?_
    refine draA 6 _ ?_
    refine draA 7 _ ?_
    refine draA 8 _ ?_
    refine Dr.boolP (t := 27) rfl (fun hb2 => ?_) (fun hb2 => ?_)
    · refine draA 9 _ ?_
      refine draA 10 _ ?_
      refine draA 11 _ ?_
      refine draA 12 _ ?_
      refine draA 13 _ ?_
      refine draA 14 _ ?_
      refine draA 15 _ ?_
      refine draA 16 _ ?_
      refine draA 17 _ ?_
      refine draA 18 _ ?_
      refine draA 19 _ ?_
      refine draA 20 _ ?_
      refine draA 21 _ ?_
      refine draA 22 _ ?_
      refine draA 23 _ ?_
      refine draA 24 _ ?_
      refine draA 25 _ ?_
      refine draA 26 _ ?_
      refine draA 27 _ ?_
      refine draA 28 _ ?_
      refine draA 29 _ ?_
      refine draA 30 _ ?_
      refine draA 31 _ ?_
      refine draA 32 _ ?_
      refine draA 33 _ ?_
      refine draA 34 _ ?_
      refine draA 35 _ ?_
      refine draA 36 _ ?_
      refine draA 37 _ ?_
      refine draA 38 _ ?_
      refine Dr.done (by kernel_rfl) (by kernel_rfl) ?_
      refine meet () (by exact ⟨rfl, rfl, rfl, rfl, rfl, rfl, rfl, congrArg (fun z => some (Value.bool z)) (by simp only [Ox.bad, hb1, hb2]; simp), trivial⟩) (fun w hw => hw)
    refine draA 9 _ ?_
    refine draA 10 _ ?_
    refine draA 11 _ ?_
    refine draA 12 _ ?_
    refine draA 13 _ ?_
    refine Dr.boolP (t := 32) rfl (fun hb3 => ?_) (fun hb3 => ?_)
    · refine draA 14 _ ?_
      refine draA 15 _ ?_
      refine draA 16 _ ?_
      refine draA 17 _ ?_
      refine draA 18 _ ?_
      refine draA 19 _ ?_
      refine draA 20 _ ?_
      refine draA 21 _ ?_
      refine draA 22 _ ?_
      refine draA 23 _ ?_
      refine draA 24 _ ?_
      refine draA 25 _ ?_
      refine draA 26 _ ?_
      refine draA 27 _ ?_
      refine draA 28 _ ?_
      refine draA 29 _ ?_
      refine draA 30 _ ?_
      refine draA 31 _ ?_
      refine draA 32 _ ?_
      refine draA 33 _ ?_
      refine draA 34 _ ?_
      refine draA 35 _ ?_
      refine draA 36 _ ?_
      refine draA 37 _ ?_
      refine draA 38 _ ?_
      refine Dr.done (by kernel_rfl) (by kernel_rfl) ?_
      refine meet () (by exact ⟨rfl, rfl, rfl, rfl, rfl, rfl, rfl, congrArg (fun z => some (Value.bool z)) (by simp only [Ox.bad, hb1, hb2, hb3]; simp), trivial⟩) (fun w hw => hw)
    refine draA 14 _ ?_
    refine draA 15 _ ?_
    refine draA 16 _ ?_
    refine draA 17 _ ?_
    refine draA 18 _ ?_
    refine Dr.boolP (t := 37) rfl (fun hb4 => ?_) (fun hb4 => ?_)
    · refine draA 19 _ ?_
      refine draA 20 _ ?_
      refine draA 21 _ ?_
      refine draA 22 _ ?_
      refine draA 23 _ ?_
      refine draA 24 _ ?_
      refine draA 25 _ ?_
      refine draA 26 _ ?_
      refine draA 27 _ ?_
      refine draA 28 _ ?_
      refine draA 29 _ ?_
      refine draA 30 _ ?_
      refine draA 31 _ ?_
      refine draA 32 _ ?_
      refine draA 33 _ ?_
      refine draA 34 _ ?_
      refine draA 35 _ ?_
      refine draA 36 _ ?_
      refine draA 37 _ ?_
      refine draA 38 _ ?_
      refine Dr.done (by kernel_rfl) (by kernel_rfl) ?_
      refine meet () (by exact ⟨rfl, rfl, rfl, rfl, rfl, rfl, rfl, congrArg (fun z => some (Value.bool z)) (by simp only [Ox.bad, hb1, hb2, hb3, hb4]; simp), trivial⟩) (fun w hw => hw)
    refine draA 19 _ ?_
    refine draA 20 _ ?_
    refine draA 21 _ ?_
    refine draA 22 _ ?_
    refine draA 23 _ ?_
    refine draA 24 _ ?_
    refine draA 25 _ ?_
    refine draA 26 _ ?_
    refine Dr.boolP (t := 45) rfl (fun hb5 => ?_) (fun hb5 => ?_)
    · refine draA 27 _ ?_
      refine draA 28 _ ?_
      refine draA 29 _ ?_
      refine draA 30 _ ?_
      refine draA 31 _ ?_
      refine draA 32 _ ?_
      refine draA 33 _ ?_
      refine draA 34 _ ?_
      refine draA 35 _ ?_
      refine draA 36 _ ?_
      refine draA 37 _ ?_
      refine draA 38 _ ?_
      refine Dr.done (by kernel_rfl) (by kernel_rfl) ?_
      refine meet () (by exact ⟨rfl, rfl, rfl, rfl, rfl, rfl, rfl, congrArg (fun z => some (Value.bool z)) (by simp only [Ox.bad, hb1, hb2, hb3, hb4, hb5]; simp), trivial⟩) (fun w hw => hw)
    refine draA 27 _ ?_
    refine draA 28 _ ?_
    refine draA 29 _ ?_
    refine Dr.boolP (t := 48) rfl (fun hb6 => ?_) (fun hb6 => ?_)
    rotate_left
    · refine draA 30 _ ?_
      refine draA 31 _ ?_
      refine draA 32 _ ?_
      refine draA 33 _ ?_
      refine draA 34 _ ?_
      refine draA 35 _ ?_
      refine draA 36 _ ?_
      refine draA 37 _ ?_
      refine draA 38 _ ?_
      refine Dr.done (by kernel_rfl) (by kernel_rfl) ?_
      have hi0 : i = 0 := by omega
      refine meet () (by exact ⟨rfl, rfl, rfl, rfl, rfl, rfl, rfl, congrArg (fun z => some (Value.bool z)) (by subst hi0; simp only [Ox.bad, hb1, hb2, hb3, hb4, hb5]; simp), trivial⟩) (fun w hw => hw)
    have hip : i - 1 < d.length := by omega
    obtain ⟨b', o', e', _, _, hc'⟩ := RowH.elem atc_length hv (i := i - 1) (x := d[i - 1]) (by simp [hip])
    cases e'
    refine Dr.val 30 rfl rfl rfl rfl (by kernel_rfl) rfl (Val.move rfl) ?_
    refine Dr.val 31 rfl rfl rfl rfl (by kernel_rfl) rfl (Val.move rfl) ?_
    refine Dr.val 32 rfl rfl rfl rfl (by kernel_rfl) rfl (Val.sub rfl rfl (by omega) (by omega)) ?_
    refine Dr.respell (t := 51) (v' := .int .i64 ((i - 1 : Nat) : Int)) rfl (by congr 1; omega) ?_
    refine Dr.val 33 rfl rfl rfl rfl (by kernel_rfl) rfl (V.indexAddr rfl rfl rfl rfl hip) ?_
    refine Dr.valS 34 _ rfl rfl rfl rfl (by kernel_rfl) rfl (V.loadN (cs := atc d[i - 1]) rfl rfl rfl (fun _ hh => hh)) (fun w hw j u hu => hw.cellH (hc' j u hu)) ?_
    refine Dr.valS 35 _ rfl rfl rfl rfl (by kernel_rfl) rfl (V.loadN (cs := [.int .i64 xc, .int .i64 xm, .int .i64 xn, str xt]) rfl rfl rfl (fun _ hh => hh)) (fun w hw => hw.cellsAt (n := 0) rfl rfl) ?_
    have hpo : d[i - 1].ok := hg.canon.ok _ (List.mem_take_iff_getElem.2 ⟨i - 1, by omega, rfl⟩)
    refine Dr.next (e := 36) rfl rfl (by kernel_rfl) rfl (by kernel_rfl) (by kernel_rfl) rfl rfl (Eff.call (fn (by kernel_rfl)) rfl (Ωc := []) rfl (follows_does d[i - 1] ⟨⟨xc, xm⟩, xn, xt⟩ hpo.small.1 hpo.small.2 h)) aokK fun _ => Dr.ex fun _ => Dr.ex fun _ => Dr.pure ?_
    rintro ⟨rfl, rfl, rfl⟩
    refine draA 37 _ ?_
    refine draA 38 _ ?_
    refine Dr.done (by kernel_rfl) (by kernel_rfl) ?_
    have hgl : (d.take i).getLast? = some d[i - 1] := by
      rw [List.getLast?_take, if_neg (by omega)]; simp [hip]
    refine meet () (by exact ⟨rfl, rfl, rfl, rfl, rfl, rfl, rfl, congrArg (fun z => some (Value.bool z)) (by rw [hgl]; simp only [Ox.bad, hb1, hb2, hb3, hb4, hb5]; simp), trivial⟩) (fun w hw => hw)
  have hbad : Ox.bad (d.take i).getLast? ⟨⟨xc, xm⟩, xn, xt⟩ = true → Ox.check d = 120 := fun hb => by
    rw [Ox.check, if_neg]
    intro hG
    have := hG.at_ hts
    rw [Ox.ok_bad this.1 this.2] at hb
    cases hb
  refine At.cond rfl (fun h3 => ?_) (fun h3 => ?_)
  · refine goK _ ?_
    refine At.ret1 Tryz.results164 (Res.tmp rfl) (List.nil_sublist _) ⟨?_, rfl, rfl⟩
    rw [hbad h3]
  obtain ⟨hok, hfol⟩ := Ox.bad_ok h3
  have hcan := Ox.canon_snoc hg.canon hok hfol
  rw [← hts] at hcan
  have htlen := hok.tlen
  have hhigh := hok.high
  have hlow := hok.low
  generalize hpts : (Ox.Atom.mk ⟨xc, xm⟩ xn xt).pts = pts at *
  simp only at htlen hhigh hlow
  rw [htlen]
  have hnames : Ox.namesOf (d.take (i + 1)) = Ox.namesOf (d.take i) ++ (Ox.names ⟨xc, xm⟩ xn pts).map (·.1) := by
    rw [hts, Ox.namesOf, Ox.namesOf, Ox.flat_append, List.map_append]
    simp [Ox.flat, Ox.Atom.flat, hpts]
  have hnl : ((Ox.names ⟨xc, xm⟩ xn pts).map (·.1)).length = pts.length := by rw [List.length_map, Ox.names_length]
  have hng := fun k => Ox.names_get ⟨xc, xm⟩ pts xn k
  generalize hnm : (Ox.names ⟨xc, xm⟩ xn pts).map (·.1) = nm at *
  have hfew := hg.few
  have hfl : (Ox.namesOf (d.take i)).length = (Ox.flat (d.take i)).length := by simp [Ox.namesOf]
  have hfl2 : (Ox.namesOf (d.take (i + 1))).length = (Ox.flat (d.take (i + 1))).length := by simp [Ox.namesOf]
  refine goK _ ?_
  refine At.loop2 (fun (k : Nat) (_ : List Ox.Pt) => [(0, .slice (some ⟨b, o, none⟩) d.length cp), (3, .map (some bm)), (5, .pointer (some ⟨b5, 0, none⟩)), (9, .slice (some ⟨b, o, none⟩) d.length cp), (10, .int .i64 (d.length : Int)), (11, .int .i64 (i : Int)), (58, .int .i64 (pts.length : Int)), (59, .int .i64 (k : Int))])
    (fun (k : Nat) (ks : List Ox.Pt) w => (k ≤ pts.length ∧ ks = Ox.namesOf (d.take i) ++ nm.take k ∧ ks.Nodup) ∧ Mem c [cells b5 [.int .i64 xc, .int .i64 xm, .int .i64 xn, str xt] 106, mapI ptv bm (Ox.ones ks)] h w) (fun (k : Nat) (_ : List Ox.Pt) => pts.length - k)
    0 (Ox.namesOf (d.take i)) ⟨rfl, rfl, rfl, rfl, rfl, rfl, rfl, rfl, trivial⟩ (fun w hw => ⟨⟨Nat.zero_le _, by simp, hg.nodup⟩, by rw [← hm]; exact hw⟩) (fun k ks => At.pure fun ⟨hk, hks, hnd⟩ => ?_)
  refine goK _ ?_
  refine At.condP rfl (fun h4 => ?_) (fun h4 => ?_)
  · have hkl : k < pts.length := by omega
    have hkk := hng k hkl
    have htk : nm.take (k + 1) = nm.take k ++ [⟨⟨xc, xm⟩, xn + k⟩] := by rw [List.take_add_one, hkk]; rfl
    have hq := Ox.mget_ones ks ⟨⟨xc, xm⟩, xn + k⟩
    obtain ⟨q, hqd⟩ : ∃ q : Int, (if (⟨⟨xc, xm⟩, xn + k⟩ : Ox.Pt) ∈ ks then 1 else 0) = q := ⟨_, rfl⟩
    have hq01 : q = 0 ∨ q = 1 := by rw [← hqd]; split <;> simp
    rw [hqd] at hq
    refine goK _ ?_
    first | refine At.drawn mo (fun _ _ m => m.drew _) ?_ | refine At.seq (At.drawn mo (fun _ _ m => m.drew _) ?_)
    refine Dr.val 0 rfl rfl rfl rfl (by kernel_rfl) rfl (Val.move rfl) ?_
    refine Dr.val 1 rfl rfl rfl rfl (by kernel_rfl) rfl (V.fieldAddr rfl rfl) ?_
    refine Dr.valS 2 _ rfl rfl rfl rfl (by kernel_rfl) rfl (V.loadN (cs := [.int .i64 xc, .int .i64 xm]) rfl rfl rfl (fun _ hh => hh)) (fun w hw => hw.cellsAt (n := 0) rfl rfl) ?_
    refine Dr.val 3 rfl rfl rfl rfl (by kernel_rfl) rfl (V.fieldAddr rfl rfl) ?_
    refine Dr.valS 4 _ rfl rfl rfl rfl (by kernel_rfl) rfl (V.load rfl rfl (fun _ hh => hh)) (fun w hw => hw.cell (n := 0) rfl rfl) ?_
    refine Dr.val 5 rfl rfl rfl rfl (by kernel_rfl) rfl (Val.move rfl) ?_
    refine Dr.val 6 rfl rfl rfl rfl (by kernel_rfl) rfl (Val.add rfl rfl (by omega) (by omega)) ?_
    refine Dr.val 7 rfl rfl rfl rfl (by kernel_rfl) rfl (V.build rfl rfl rfl) ?_
    refine Dr.valS 8 (MapAt ptv bm (⟨⟨xc, xm⟩, xn + k⟩ : Ox.Pt) (.int .i64 0) (.int .i64 q)) rfl rfl rfl rfl (by kernel_rfl) rfl (V.lookupW (κ := ptv) (a := ⟨⟨xc, xm⟩, xn + k⟩) (z := .int .i64 0) key306 rfl rfl rfl rfl) (fun w hw => by have := MapAt.of (κ := ptv) (a := (⟨⟨xc, xm⟩, xn + k⟩ : Ox.Pt)) (z := .int .i64 0) 1 hw rfl; rw [hq] at this; exact this) ?_
    refine Dr.val 9 rfl rfl rfl rfl (by kernel_rfl) rfl (Val.add rfl rfl (by omega) (by omega)) ?_
    refine Dr.next (e := 10) rfl rfl (by kernel_rfl) rfl (by kernel_rfl) (by kernel_rfl) rfl rfl (E.mapEntry (κ := ptv) (a := ⟨⟨xc, xm⟩, xn + k⟩) (z := .int .i64 0) 1 key306 rfl rfl rfl rfl rfl) (AllOk.triv (AllOk.cons (MapAt.entry (by simp) hq) AllOk.nil)) fun v10 => ?_
    refine Dr.ex fun i' => Dr.ex fun u' => Dr.pure fun hmf => Dr.pure ?_
    rintro rfl
    refine Dr.val 11 rfl rfl rfl rfl (by kernel_rfl) rfl (Val.extract rfl rfl) ?_
    refine Dr.next0 (e := 12) rfl rfl (by kernel_rfl) rfl (by kernel_rfl) (by kernel_rfl) rfl (E.entryStore (κ := ptv) (a := ⟨⟨xc, xm⟩, xn + k⟩) 1 hmf rfl rfl rfl rfl) aokK fun _ => ?_
    refine Dr.done (by kernel_rfl) (by kernel_rfl) ?_
    repeat (first | refine Ops.val rfl rfl rfl (V.loadOP 0 [.int .i64 xc, .int .i64 xm] rfl rfl rfl rfl rfl) ?_ | refine goS _ ?_)
    refine Ops.val rfl rfl rfl (V.lookup (κ := ptv) (a := ⟨⟨xc, xm⟩, xn + k⟩) 1 key306 rfl rfl rfl rfl rfl) ?_
    refine Ops.respell (v' := .int .i64 (q + 1)) (t := 82) rfl (by rw [mget_mset, if_pos rfl]; rfl) ?_
    refine goK _ ?_
    have hfin : q = 1 → Ox.check d = 120 := fun hq1 => by
      rw [Ox.check, if_neg]
      intro hG
      have h5 := (hG.take (i + 1)).nodup
      rw [hnames] at h5
      have hin : (⟨⟨xc, xm⟩, xn + k⟩ : Ox.Pt) ∈ ks := by
        apply Classical.byContradiction; intro hni
        rw [if_neg hni] at hqd; omega
      rw [show nm = nm.take (k + 1) ++ nm.drop (k + 1) by rw [List.take_append_drop], htk, ← List.append_assoc, ← List.append_assoc, ← hks] at h5
      have h6 := (List.nodup_append.1 (List.nodup_append.1 h5).1).2.2
      exact h6 _ hin _ (by simp) rfl
    refine At.condP rfl (fun h5 => ?_) (fun h5 => ?_)
    · refine goK _ ?_
      refine At.ret1 Tryz.results164 (Res.tmp rfl) (List.nil_sublist _) ⟨?_, rfl, rfl⟩
      rw [hfin (by omega)]
    have hq0 : q = 0 := by omega
    have hni : (⟨⟨xc, xm⟩, xn + k⟩ : Ox.Pt) ∉ ks := fun hin => by rw [if_pos hin] at hqd; omega
    subst hq0
    refine goK _ ?_
    refine At.back2 (k + 1) (ks ++ [⟨⟨xc, xm⟩, xn + k⟩]) (by omega) (by exact ⟨rfl, rfl, rfl, rfl, rfl, rfl, rfl, rfl, trivial⟩) (fun w hw => ⟨⟨hkl, by rw [hks, htk, List.append_assoc], List.nodup_append.2 ⟨hnd, by simp, fun a ha b hb => by simp at hb; subst hb; intro e; exact hni (e ▸ ha)⟩⟩, ?_⟩)
    rw [← Ox.mset_ones hni, ← Ox.mset_mset _ _ ((mget (Ox.ones ks) ⟨⟨xc, xm⟩, xn + k⟩).getD (.int .i64 0)) (.int .i64 1)]
    exact hw
  obtain rfl : k = pts.length := by omega
  have hall : ks = Ox.namesOf (d.take (i + 1)) := by rw [hks, hnames, List.take_of_length_le (l := nm) (i := pts.length) (by omega)]
  have hml : (Ox.ones ks).length = ks.length := by simp [Ox.ones]
  have hkl2 : ks.length = (Ox.flat (d.take (i + 1))).length := by rw [hall]; exact hfl2
  repeat (first | refine Ops.val rfl rfl rfl (V.lenmap (κ := ptv) 1 rfl rfl rfl) ?_ | refine goS _ ?_)
  refine At.condP rfl (fun h5 => ?_) (fun h5 => ?_)
  · refine goK _ ?_
    refine At.ret1 Tryz.results164 (Res.tmp rfl) (List.nil_sublist _) ⟨?_, rfl, rfl⟩
    rw [Ox.check, if_neg]
    intro hG
    have h6 := (hG.take (i + 1)).few
    omega
  refine goK _ ?_
  refine At.back2 (i + 1) (Ox.ones ks) (by omega) (by exact ⟨rfl, rfl, rfl, rfl, rfl, trivial⟩) (fun w hw => ⟨⟨hlt, ⟨hcan, hall ▸ hnd, by omega⟩, by rw [hall]⟩, hw.sub (List.sublist_cons_self _ _)⟩)
end Go.Proofs.YthjgbmbaabpgmaaGreat
