/-
  Documents as rows of single atoms: names and points. Pure.
-/
import Derived.Test.YthjgbmbaabpgmaaGreatSrd13
import Derived.Test.YthjgbmbaabpgmaaGreatSrd05
set_option linter.unusedVariables false
set_option linter.unusedSimpArgs false
set_option linter.unusedSectionVars false
namespace Go.Proofs.YthjgbmbaabpgmaaGreat
open Go.Sy
namespace Ox
/-- the single atoms of a run -/
def names (o : Org) : Int → List Nat → List (Pt × Nat)
  | _, [] => []
  | n, p :: r => (⟨o, n⟩, p) :: names o (n + 1) r
theorem names_length (o : Org) : ∀ (l : List Nat) (n : Int), (names o n l).length = l.length
  | [], _ => rfl
  | _ :: r, n => by simp [names, names_length o r]
theorem names_append (o : Org) : ∀ (l m : List Nat) (n : Int), names o n (l ++ m) = names o n l ++ names o (n + l.length) m
  | [], m, n => by simp [names]
  | p :: r, m, n => by simp [names, names_append o r]; congr 1; omega
theorem names_take (o : Org) : ∀ (l : List Nat) (n : Int) (k : Nat), (names o n l).take k = names o n (l.take k)
  | [], n, k => by simp [names]
  | p :: r, n, 0 => by simp [names]
  | p :: r, n, k + 1 => by simp [names, names_take o r]
theorem names_drop (o : Org) : ∀ (l : List Nat) (n : Int) (k : Nat), (names o n l).drop k = names o (n + k) (l.drop k)
  | [], n, k => by simp [names]
  | p :: r, n, 0 => by simp [names]
  | p :: r, n, k + 1 => by simp [names, names_drop o r]; congr 1; omega
theorem names_snd (o : Org) : ∀ (l : List Nat) (n : Int), (names o n l).map (·.2) = l
  | [], _ => rfl
  | _ :: r, n => by simp [names, names_snd o r]
theorem names_mem (o : Org) : ∀ (l : List Nat) (n : Int) (q : Pt × Nat), q ∈ names o n l → q.1.o = o ∧ n ≤ q.1.n ∧ q.1.n < n + l.length
  | [], _, _, h => by simp [names] at h
  | p :: r, n, q, h => by
    simp only [names, List.mem_cons] at h
    rcases h with rfl | h
    · simp; omega
    · have := names_mem o r (n + 1) q h
      simp only [List.length_cons]; refine ⟨this.1, ?_, ?_⟩ <;> omega

def Atom.pts (a : Atom) : List Nat := (points a.text).getD []
def Atom.flat (a : Atom) : List (Pt × Nat) := names a.o a.n a.pts
def flat (d : List Atom) : List (Pt × Nat) := d.flatMap Atom.flat
theorem flat_cons (a : Atom) (d : List Atom) : flat (a :: d) = a.flat ++ flat d := rfl
theorem flat_append (a b : List Atom) : flat (a ++ b) = flat a ++ flat b := by simp [flat]

/-- a run that may stand in a document -/
structure Atom.ok (a : Atom) : Prop where
  org : a.o.ok = true
  low : 0 ≤ a.n
  high : a.n + a.pts.length ≤ 1000
  text : points a.text = some a.pts
  full : a.pts ≠ []
theorem Atom.ok.enc {a : Atom} (h : a.ok) : a.text = encs a.pts ∧ ∀ n ∈ a.pts, isPoint n = true := encs_points h.text
theorem Atom.ok.ne {a : Atom} (h : a.ok) : a.text ≠ [] := fun e => by
  have h1 := h.text
  rw [e] at h1
  rw [points] at h1
  exact h.full (Option.some.inj h1).symm
theorem Atom.ok.tlen {a : Atom} (h : a.ok) : Ox.tlen a.text = (a.pts.length : Int) := by simp [Ox.tlen, h.text]
theorem Atom.ok.short {a : Atom} (h : a.ok) : a.text.length ≤ 4000 := by
  have h1 := encs_length a.pts
  have h2 := h.high; have h3 := h.low
  rw [h.enc.1]; omega
theorem Atom.ok.small {a : Atom} (h : a.ok) : a.small := ⟨by have := h.low; have := h.high; omega, by have := h.short; omega⟩
theorem Atom.ok.flat_length {a : Atom} (h : a.ok) : a.flat.length = a.pts.length ∧ 1 ≤ a.flat.length := by
  have : a.pts.length ≠ 0 := fun e => h.full (List.eq_nil_of_length_eq_zero e)
  exact ⟨names_length .., by rw [Atom.flat, names_length]; omega⟩

/-- no run goes on in the next one -/
def gaps : List Atom → Prop
  | a :: b :: r => follows a b = false ∧ gaps (b :: r)
  | _ => True
structure Canon (d : List Atom) : Prop where
  ok : ∀ a ∈ d, a.ok
  gaps : gaps d
theorem flat_ge {d : List Atom} (h : ∀ a ∈ d, a.ok) : d.length ≤ (flat d).length := by
  induction d with
  | nil => simp
  | cons a r ih =>
    have h1 := (h a (by simp)).flat_length
    have h2 := ih fun x hx => h x (by simp [hx])
    rw [flat_cons]; simp; omega
theorem follows_ok {a b : Atom} (h : a.ok) : follows a b = true ↔ a.o = b.o ∧ a.n + a.pts.length = b.n := by
  simp [follows, h.tlen]
theorem gaps_concat : ∀ {d : List Atom} {l a : Atom}, gaps (d ++ [l]) → follows l a = false → gaps (d ++ [l] ++ [a])
  | [], l, a, _, h => by simpa [gaps] using h
  | [x], l, a, h, h2 => by simp [gaps] at h ⊢; exact ⟨h, h2⟩
  | x :: y :: r, l, a, h, h2 => by
    simp only [List.cons_append, gaps] at h ⊢
    exact ⟨h.1, gaps_concat (d := y :: r) h.2 h2⟩
theorem follows_left {x a b : Atom} (h1 : a.o = b.o) (h2 : a.n = b.n) : follows x a = follows x b := by simp [follows, h1, h2]
theorem gaps_last : ∀ {d : List Atom} {l l' : Atom}, gaps (d ++ [l]) → l.o = l'.o → l.n = l'.n → gaps (d ++ [l'])
  | [], l, l', _, _, _ => by simp [gaps]
  | [x], l, l', h, h1, h2 => by simp [gaps] at h ⊢; rw [← follows_left h1 h2]; exact h
  | x :: y :: r, l, l', h, h1, h2 => by
    simp only [List.cons_append, gaps] at h ⊢
    exact ⟨h.1, gaps_last (d := y :: r) h.2 h1 h2⟩
theorem joined_text {l a : Atom} (hl : l.ok) (ha : a.ok) (hf : follows l a = true) : (Atom.mk l.o l.n (l.text ++ a.text)).ok ∧ (Atom.mk l.o l.n (l.text ++ a.text)).flat = l.flat ++ a.flat := by
  obtain ⟨h1, h2⟩ := (follows_ok hl).1 hf
  have ht : l.text ++ a.text = encs (l.pts ++ a.pts) := by rw [encs_append, ← hl.enc.1, ← ha.enc.1]
  have hp : points (l.text ++ a.text) = some (l.pts ++ a.pts) := by
    rw [ht]; exact points_encs fun n hn => by
      rcases List.mem_append.1 hn with h | h
      · exact hl.enc.2 n h
      · exact ha.enc.2 n h
  have hq : (Atom.mk l.o l.n (l.text ++ a.text)).pts = l.pts ++ a.pts := by simp [Atom.pts, hp]
  refine ⟨⟨hl.org, hl.low, ?_, ?_, ?_⟩, ?_⟩
  · rw [hq]; have := ha.high; simp; omega
  · rw [hq]; exact hp
  · rw [hq]; simp [hl.full]
  · rw [Atom.flat, hq]
    show names l.o l.n (l.pts ++ a.pts) = names l.o l.n l.pts ++ names a.o a.n a.pts
    rw [names_append, h2, h1]
theorem add_flat {d : List Atom} {a : Atom} (hd : Canon d) (ha : a.ok) : Canon (add d a) ∧ flat (add d a) = flat d ++ a.flat := by
  unfold add
  rw [if_neg ha.ne]
  rcases List.eq_nil_or_concat d with rfl | ⟨d0, l, rfl⟩
  · simp only [List.getLast?_nil]
    exact ⟨⟨by simpa using ha, by simp [gaps]⟩, by simp [flat]⟩
  · simp only [List.concat_eq_append] at *
    have hl := hd.ok l (by simp)
    simp only [List.getLast?_append, List.getLast?_singleton, Option.some_or, List.dropLast_concat]
    cases hf : follows l a with
    | true =>
      have hj := joined_text hl ha hf
      rw [if_pos rfl]
      refine ⟨⟨fun x hx => ?_, gaps_last hd.gaps rfl rfl⟩, ?_⟩
      · rcases List.mem_append.1 hx with h | h
        · exact hd.ok x (by simp [h])
        · simp at h; subst h; exact hj.1
      · rw [flat_append, flat_append]
        show flat d0 ++ ((Atom.mk l.o l.n (l.text ++ a.text)).flat ++ []) = _
        rw [hj.2]; simp [flat]
    | false =>
      rw [if_neg (by simp)]
      refine ⟨⟨fun x hx => ?_, gaps_concat hd.gaps hf⟩, by rw [flat_append]; simp [flat]⟩
      rcases List.mem_append.1 hx with h | h
      · exact hd.ok x h
      · simp at h; subst h; exact ha
theorem names_head {o o' : Org} {n n' : Int} {l m : List Nat} {s t : List (Pt × Nat)} (hl : l ≠ []) (hm : m ≠ []) (h : names o n l ++ s = names o' n' m ++ t) : o = o' ∧ n = n' := by
  cases l with
  | nil => exact absurd rfl hl
  | cons x l =>
    cases m with
    | nil => exact absurd rfl hm
    | cons y m =>
      simp [names] at h
      exact h.1.1
/-- documents in this form are told apart by their single atoms -/
theorem Canon.tail {a : Atom} {d : List Atom} (h : Canon (a :: d)) : Canon d := ⟨fun x hx => h.ok x (by simp [hx]), by
  cases d with
  | nil => simp [Ox.gaps]
  | cons b r => exact h.gaps.2⟩
theorem canon_inj : ∀ {d e : List Atom}, Canon d → Canon e → flat d = flat e → d = e
  | [], [], _, _, _ => rfl
  | [], b :: e, _, he, h => by
    have := ((he.ok b (by simp)).flat_length).2
    rw [flat_cons] at h
    have := congrArg List.length h
    rw [List.length_append] at this; simp only [flat, List.flatMap_nil, List.length_nil] at this; omega
  | a :: d, [], hd, _, h => by
    have := ((hd.ok a (by simp)).flat_length).2
    rw [flat_cons] at h
    have := congrArg List.length h
    rw [List.length_append] at this; simp only [flat, List.flatMap_nil, List.length_nil] at this; omega
  | a :: d, b :: e, hd, he, h => by
    have ha := hd.ok a (by simp)
    have hb := he.ok b (by simp)
    have key : ∀ {a b : Atom} {d e : List Atom}, Canon (a :: d) → Canon (b :: e) → flat (a :: d) = flat (b :: e) → a.pts.length ≤ b.pts.length → a.pts = b.pts ∧ a.o = b.o ∧ a.n = b.n := by
      intro a b d e hd he h hle
      have ha := hd.ok a (by simp)
      have hb := he.ok b (by simp)
      rw [flat_cons, flat_cons] at h
      obtain ⟨ho, hn⟩ := names_head ha.full hb.full h
      have hpre : a.pts = b.pts.take a.pts.length := by
        have h2 := congrArg (fun z => (z.take a.pts.length).map (·.2)) h
        simp only [Atom.flat] at h2
        rw [List.take_append_of_le_length (by rw [names_length]; exact Nat.le_refl _), List.take_of_length_le (by rw [names_length]; exact Nat.le_refl _), List.take_append_of_le_length (by rw [names_length]; exact hle), names_take, names_snd, names_snd] at h2
        exact h2
      rcases Nat.lt_or_ge a.pts.length b.pts.length with hlt | hge
      · exfalso
        have hrest : flat d = names b.o (b.n + a.pts.length) (b.pts.drop a.pts.length) ++ flat e := by
          have h2 := congrArg (fun z => z.drop a.pts.length) h
          simp only [Atom.flat] at h2
          rw [List.drop_append_of_le_length (by rw [names_length]; exact Nat.le_refl _), List.drop_of_length_le (by rw [names_length]; exact Nat.le_refl _), List.drop_append_of_le_length (by rw [names_length]; exact hle), names_drop] at h2
          simpa using h2
        have hne : b.pts.drop a.pts.length ≠ [] := by
          intro e0
          have := congrArg List.length e0
          simp at this; omega
        cases d with
        | nil =>
          have := congrArg List.length hrest
          simp [flat, names_length] at this; omega
        | cons x d =>
          have hx := hd.ok x (by simp)
          rw [flat_cons] at hrest
          obtain ⟨h3, h4⟩ := names_head hx.full hne hrest
          have : follows a x = true := (follows_ok ha).2 ⟨by rw [h3, ho], by rw [h4, hn]⟩
          have h5 := hd.gaps.1
          rw [this] at h5; cases h5
      · exact ⟨by rw [hpre, List.take_of_length_le hge], ho, hn⟩
    have hsame : a.pts = b.pts ∧ a.o = b.o ∧ a.n = b.n := by
      rcases Nat.le_total a.pts.length b.pts.length with hle | hle
      · exact key hd he h hle
      · obtain ⟨h1, h2, h3⟩ := key he hd h.symm hle
        exact ⟨h1.symm, h2.symm, h3.symm⟩
    obtain ⟨h1, h2, h3⟩ := hsame
    have hab : a = b := by
      obtain ⟨ao, an, at'⟩ := a
      obtain ⟨bo, bn, bt⟩ := b
      have e1 := ha.enc.1
      have e2 := hb.enc.1
      simp only at h2 h3 e1 e2
      rw [h1, ← e2] at e1
      rw [h2, h3, e1]
    subst hab
    rw [flat_cons, flat_cons] at h
    rw [canon_inj hd.tail he.tail (List.append_cancel_left h)]
end Ox
end Go.Proofs.YthjgbmbaabpgmaaGreat
/-
  Documents: the reader's take.
-/
namespace Go.Proofs.YthjgbmbaabpgmaaGreat
open Go.Sy
set_option maxRecDepth 4000
set_option maxHeartbeats 4000000
attribute [local irreducible] At Ops Val Eff Does Res Dr
namespace Ox
/-- where take stands -/
structure TkS where
  n : Nat
  d : List Atom
  rd : List Atom
  u : Value
  v : Value
  h : HV
end Ox
/-- a reader in memory -/
def RdM (br : Nat) (u : Value) : Itm := cells br [u] 284
/-- a document that the call owns -/
def DocM (v : Value) (d : List Ox.Atom) : Itm := row 106 4 v d.length (d.flatMap atc)

theorem rtake_does (br : Nat) (u v : Value) (n : Nat) (d rd : List Ox.Atom) (keep : Bool) (hd : Ox.Canon d) (hr : ∀ a ∈ rd, a.ok) (hn : (Ox.flat d).length + n ≤ 900000) (hrl : rd.length ≤ 1000000) (h : HV) (hu : AtsH h u rd) :
    Does Tryz.prog 188 #[.pointer (some ⟨br, 0, none⟩), .int .i64 (n : Int), v, .bool keep] [RdM br u, DocM v d] h (fun r Ω' h' => HV.le h h' ∧ ∃ d' rd' u', Ω' = [RdM br u', DocM r d'] ∧ AtsH h' u' rd' ∧ (∀ a ∈ rd', a.ok) ∧ Ox.Canon d' ∧
      Ox.flat d' = Ox.flat d ++ (if keep = true then (Ox.flat rd).take n else []) ∧ Ox.flat rd' = (Ox.flat rd).drop n) := by
  refine Does.of Tryz.func188 rfl Tryz.ntmps188 rfl fun c hc0 => ?_
  refine goK _ ?_
  refine At.loop1 (fun (s : Ox.TkS) => [(0, .pointer (some ⟨br, 0, none⟩)), (1, .int .i64 (s.n : Int)), (2, s.v), (3, .bool keep)])
    (fun (s : Ox.TkS) w => (HV.le h s.h ∧ AtsH s.h s.u s.rd ∧ (∀ a ∈ s.rd, a.ok) ∧ s.rd.length ≤ 1000000 ∧ Ox.Canon s.d ∧ (Ox.flat s.d).length + s.n ≤ 900000 ∧ Ox.flat s.d ++ (if keep = true then (Ox.flat s.rd).take s.n else []) = Ox.flat d ++ (if keep = true then (Ox.flat rd).take n else []) ∧
      (Ox.flat s.rd).drop s.n = (Ox.flat rd).drop n) ∧ Mem c [RdM br s.u, DocM s.v s.d] s.h w) (fun (s : Ox.TkS) => s.n)
    ⟨n, d, rd, u, v, h⟩ ⟨rfl, rfl, rfl, rfl, trivial⟩ (fun w hw => ⟨⟨HV.le.refl _, hu, hr, hrl, hd, hn, rfl, rfl⟩, hw⟩) (fun s => At.pure fun ⟨hle, hsu, hsr, hsl, hsd, hsn, hfd, hfr⟩ => ?_)
  obtain ⟨sn, sd, srd, su, sv, sh⟩ := s
  simp only at hle hsu hsr hsl hsd hsn hfd hfr
  obtain ⟨ua, ucp, rfl⟩ := hsu.form
  unfold RdM
  refine goK _ ?_
  refine Ops.forkR 23 (.bool (decide (0 < sn ∧ srd ≠ []))) [0, 1, 2, 3] ?_ (fun main => ?_)
  rotate_left
  · repeat' (first
      | refine opS _ ?_
      | refine Ops.gsplit rfl rfl (fun hb => ?_) (fun hb => ?_)
      | refine Ops.psplit rfl (fun hb => ?_) (fun hb => ?_))
    all_goals (refine Ops.nil ?_; refine main.sub ⟨congrArg (fun b => some (Value.bool b)) ?_, (by repeat (first | exact trivial | refine ⟨rfl, ?_⟩))⟩; clear main; (rw [Bool.eq_iff_iff]; cases srd <;> simp at * <;> omega))
  refine At.condP rfl (fun h1 => ?_) (fun h1 => ?_)
  rotate_left
  · refine goK _ ?_
    refine At.ret1 Tryz.results188 (Res.tmp rfl) (List.Sublist.refl _) ⟨hle, sd, srd, _, rfl, hsu, hsr, hsd, ?_, ?_⟩
    · rw [← hfd]
      by_cases h0 : sn = 0
      · subst h0; simp
      · have : srd = [] := by
          apply Classical.byContradiction; intro hne; exact h1 ⟨by omega, hne⟩
        subst this; simp [Ox.flat]
    · rw [← hfr]
      by_cases h0 : sn = 0
      · subst h0; simp
      · have : srd = [] := by
          apply Classical.byContradiction; intro hne; exact h1 ⟨by omega, hne⟩
        subst this; simp [Ox.flat]
  obtain ⟨h1, hne⟩ := h1
  obtain ⟨x, r, rfl⟩ : ∃ x r, srd = x :: r := by cases srd with | nil => exact absurd rfl hne | cons x r => exact ⟨x, r, rfl⟩
  have hx := hsr x (by simp)
  obtain ⟨b, o, rfl, _, _, hc⟩ := RowH.elem atc_length hsu (i := 0) (x := x) rfl
  have htl := hx.tlen
  have hxs := hx.short
  have hxl := hx.high
  have hx0 := hx.low
  obtain ⟨xo, xn, xt⟩ := x
  generalize hpts : (Ox.Atom.mk xo xn xt).pts = pts at *
  have hptx : Ox.points xt = some pts := by rw [← hpts]; exact hx.text
  have hpe := Ox.encs_points hptx
  have hpn : pts ≠ [] := by rw [← hpts]; exact hx.full
  have hpl : 1 ≤ pts.length := by
    rcases Nat.eq_zero_or_pos pts.length with h0 | h0
    · exact absurd (List.eq_nil_of_length_eq_zero h0) hpn
    · exact h0
  have hptl := Ox.points_length hptx
  simp only at htl hxs hxl hx0
  repeat (first | refine Ops.val rfl rfl rfl (V.indexAddr (i := 0) rfl rfl rfl rfl (by simp)) ?_ | refine Ops.val rfl rfl rfl (V.loadHA (cs := [.int .i64 xo.c, .int .i64 xo.n, .int .i64 xn, str xt]) rfl rfl rfl (fun i u hi => by simpa using hc i u hi)) ?_ | refine goS _ ?_)
  refine Ops.eff rfl rfl rfl (E.alloc rfl) fun _ => Ops.ex fun b9 => Ops.pure ?_
  rintro rfl
  refine Ops.eff0 rfl rfl (E.store 0 rfl rfl rfl rfl rfl rfl rfl) fun _ => ?_
  refine goK _ ?_
  refine Ops.eff rfl rfl rfl (Eff.call (fn (by kernel_rfl)) rfl (Ωc := []) rfl (Len_does xt (by omega) sh)) fun _ => Ops.ex fun _ => Ops.ex fun _ => Ops.pure ?_
  rintro ⟨rfl, rfl, rfl⟩
  rw [htl]
  obtain ⟨m, hmin⟩ : ∃ m, min sn pts.length = m := ⟨_, rfl⟩
  have hm1 : 1 ≤ m := by omega
  have hm2 : m ≤ sn := by omega
  have hm3 : m ≤ pts.length := by omega
  repeat (first | refine Ops.val rfl rfl rfl (Val.minN sn pts.length rfl rfl rfl rfl) ?_ | refine goS _ ?_)
  rw [hmin]
  have hcut := Cut_does xt (by omega) pts hptx hpe.2 hptl 0 m (by omega) (by omega) sh
  rw [List.drop_zero, Nat.sub_zero] at hcut
  refine Ops.eff rfl rfl rfl (Eff.call (fn (by kernel_rfl)) rfl (Ωc := []) rfl (hcut)) fun _ => Ops.ex fun _ => Ops.ex fun _ => Ops.pure ?_
  rintro ⟨rfl, rfl, rfl⟩
  refine goK _ ?_
  have hpk : ∀ q ∈ pts.take m, Ox.isPoint q = true := fun q hq => hpe.2 q (List.mem_of_mem_take hq)
  have hpx : Ox.points (Ox.encs (pts.take m)) = some (pts.take m) := Ox.points_encs hpk
  have hpp : (Ox.Atom.mk xo xn (Ox.encs (pts.take m))).pts = pts.take m := by simp [Ox.Atom.pts, hpx]
  have hpok : (Ox.Atom.mk xo xn (Ox.encs (pts.take m))).ok := by
    refine ⟨hx.org, hx0, ?_, ?_, ?_⟩
    · rw [hpp]; show xn + ((pts.take m).length : Int) ≤ 1000; rw [List.length_take, Nat.min_eq_left hm3]; omega
    · rw [hpp]; exact hpx
    · rw [hpp]; intro e0; have := congrArg List.length e0; rw [List.length_take] at this; simp only [List.length_nil] at this; omega
  have hpf : (Ox.Atom.mk xo xn (Ox.encs (pts.take m))).flat = Ox.names xo xn (pts.take m) := by rw [Ox.Atom.flat, hpp]
  have hff : Ox.flat (⟨xo, xn, xt⟩ :: r) = Ox.names xo xn pts ++ Ox.flat r := by rw [Ox.flat_cons, Ox.Atom.flat, hpts]
  have hnl := Ox.names_length xo pts xn
  refine At.meet2 (fun (v' : Value) (_ : List Ox.Atom) => [(0, .pointer (some ⟨br, 0, none⟩)), (1, .int .i64 (sn : Int)), (2, v'), (3, .bool keep), (9, .pointer (some ⟨b9, 0, none⟩)), (10, .int .i64 (pts.length : Int)), (11, .int .i64 (m : Int))])
    (fun v' d' w => (Ox.Canon d' ∧ Ox.flat d' = Ox.flat sd ++ (if keep = true then Ox.names xo xn (pts.take m) else [])) ∧ Mem c [cells b9 [.int .i64 xo.c, .int .i64 xo.n, .int .i64 xn, str xt] 106, RdM br (.slice (some ⟨b, o, none⟩) (r.length + 1) ucp), DocM v' d'] sh w) (fun k meet => ?_) (fun v' d' => At.pure fun ⟨hd', hfd'⟩ => ?_)
  · refine At.cond rfl (fun h2 => ?_) (fun h2 => ?_)
    · repeat (first | refine Ops.val rfl rfl rfl (V.loadOP 0 [.int .i64 xo.c, .int .i64 xo.n] rfl rfl rfl rfl rfl) ?_ | refine goS _ ?_)
      have hfg := Ox.flat_ge hsd.ok
      refine Ops.eff rfl rfl rfl (Eff.callAt 2 (fn (by kernel_rfl)) rfl (Ωc := [DocM sv sd]) rfl (add_does sv sd ⟨xo, xn, Ox.encs (pts.take m)⟩ (fun l hl => (hsd.ok l hl).small) (by omega) hpok.small sh)) fun _ => Ops.ex fun _ => Ops.ex fun _ => Ops.pure ?_
      rintro ⟨rfl, rfl⟩
      refine goK _ ?_
      obtain ⟨hA, hB⟩ := Ox.add_flat hsd hpok
      refine meet _ (Ox.add sd ⟨xo, xn, Ox.encs (pts.take m)⟩) (by exact ⟨rfl, rfl, rfl, rfl, rfl, rfl, rfl, trivial⟩) (fun w hw => ⟨⟨hA, by rw [hB, hpf, if_pos h2]⟩, hw.perm ((List.Perm.swap ..).trans (List.Perm.cons _ (List.Perm.swap ..)))⟩)
    · refine goK _ ?_
      refine meet sv sd (by exact ⟨rfl, rfl, rfl, rfl, rfl, rfl, rfl, trivial⟩) (fun w hw => ⟨⟨hsd, by simp [h2]⟩, hw⟩)
  unfold RdM
  refine goK _ ?_
  refine At.condP rfl (fun h3 => ?_) (fun h3 => ?_)
  · repeat (first | refine Ops.val rfl rfl rfl (V.slice_from (l := 1) rfl rfl rfl rfl (by simp)) ?_ | refine goS _ ?_)
    refine Ops.eff0 rfl rfl (E.store 1 rfl rfl rfl rfl rfl rfl rfl) fun _ => ?_
    refine goK _ ?_
    have hmp : pts.length = m := by omega
    have ht := RowH.tail atc_length hsu
    rw [hff, List.drop_append, hnl, List.drop_eq_nil_of_le (by omega), List.nil_append] at hfr
    rw [hff, List.take_append, hnl, List.take_of_length_le (by omega)] at hfd
    rw [List.take_of_length_le (by omega)] at hfd'
    refine At.back ⟨sn - m, d', r, .slice (some ⟨b, if ucp = 1 then o else o + 1 * 4, none⟩) r.length (ucp - 1), v', sh⟩ (by show sn - m < sn; omega) ⟨rfl, congrArg (fun z => some (Value.int .i64 z)) (by show (sn : Int) - m = ((sn - m : Nat) : Int); omega), rfl, rfl, trivial⟩ (fun w hw => ⟨⟨hle, ht, fun a ha => hsr a (by simp [ha]), by simp at hsl; show r.length ≤ _; omega, hd', ?_, ?_, ?_⟩, ?_⟩)
    · show (Ox.flat d').length + (sn - m) ≤ 900000
      rw [hfd', List.length_append]
      by_cases hk : keep = true
      · rw [if_pos hk, Ox.names_length]; omega
      · rw [if_neg hk]; simp; omega
    · show Ox.flat d' ++ (if keep = true then (Ox.flat r).take (sn - m) else []) = _
      rw [← hfd, hfd', List.append_assoc]
      congr 1
      by_cases hk : keep = true
      · simp only [if_pos hk]; rw [hmp]
      · simp only [if_neg hk]; simp
    · show (Ox.flat r).drop (sn - m) = _
      rw [← hfr, hmp]
    · have e := off_none ucp 1 b o 4
      refine Eq.mp (congrArg (fun z => Mem c [RdM br (.slice (some z) r.length (ucp - 1)), DocM v' d'] sh w) e) ?_
      exact hw.sub (List.sublist_cons_self _ _)
  have hlt : m < pts.length := by omega
  have hcut2 := Cut_does xt (by omega) pts hptx hpe.2 hptl m pts.length (by omega) (by omega) sh
  rw [List.take_of_length_le (by simp)] at hcut2
  refine goK _ ?_
  refine Ops.eff0 rfl rfl (E.store 0 rfl rfl rfl rfl rfl rfl rfl) fun _ => ?_
  refine goK _ ?_
  refine Ops.eff rfl rfl rfl (Eff.call (fn (by kernel_rfl)) rfl (Ωc := []) rfl (hcut2)) fun _ => Ops.ex fun _ => Ops.ex fun _ => Ops.pure ?_
  rintro ⟨rfl, rfl, rfl⟩
  refine goK _ ?_
  refine Ops.eff0 rfl rfl (E.store 0 rfl rfl rfl rfl rfl rfl rfl) fun _ => ?_
  refine goK _ ?_
  first | refine At.drawn mo (fun _ _ m => m.drew _) ?_ | refine At.seq (At.drawn mo (fun _ _ m => m.drew _) ?_)
  refine Dr.val 0 rfl rfl rfl rfl (by kernel_rfl) rfl (Val.move rfl) ?_
  refine Dr.valS 1 _ rfl rfl rfl rfl (by kernel_rfl) rfl (V.loadN (cs := [.int .i64 xo.c, .int .i64 xo.n, .int .i64 (xn + m), str (Ox.encs (pts.drop m))]) rfl rfl rfl (fun _ hh => hh)) (fun w hw => hw.cellsAt (n := 0) rfl rfl) ?_
  refine Dr.val 3 rfl rfl rfl rfl (by kernel_rfl) rfl (Val.move rfl) ?_
  refine Dr.val 4 rfl rfl rfl rfl (by kernel_rfl) rfl (Val.nilCheck rfl) ?_
  refine Dr.val 5 rfl rfl rfl rfl (by kernel_rfl) rfl (V.fieldAddr rfl rfl) ?_
  refine Dr.valS 6 _ rfl rfl rfl rfl (by kernel_rfl) rfl (V.load rfl rfl (fun _ hh => hh)) (fun w hw => hw.cell (n := 1) rfl rfl) ?_
  refine Dr.val 7 rfl rfl rfl rfl (by kernel_rfl) rfl (V.slice_from (l := 1) rfl rfl rfl rfl (by simp)) ?_
  refine Dr.respell (t := 87) (v' := .slice (some ⟨b, if ucp = 1 then o else o + 1 * 4, none⟩) r.length (ucp - 1)) rfl (by rw [off_none]; rfl) ?_
  refine Dr.next (e := 2) rfl rfl (by kernel_rfl) rfl (by kernel_rfl) (by kernel_rfl) rfl rfl (E.buildSlice1R rfl rfl rfl rfl) aokK fun _ => ?_
  refine Dr.ex fun bs => Dr.pure ?_
  rintro rfl
  have ht := RowH.tail atc_length hsu
  simp only [List.length_cons] at hsl
  refine Dr.next (e := 8) rfl rfl (by kernel_rfl) rfl (by kernel_rfl) (by kernel_rfl) rfl rfl (E.appendS (news := r.flatMap atc) 0 rfl rfl rfl rfl (Nat.le_refl _) (by rw [flat_length atc 4 (fun _ => rfl)]) (flat_one (fun _ => rfl) _) (by omega) (by omega) (fun w hw i u hu => hw.cellH (RowH.flatc ht i u hu))) aokK fun _ => ?_
  refine Dr.ex fun g2 => Dr.ex fun cp2 => Dr.pure ?_
  rintro rfl
  refine Dr.val 9 rfl rfl rfl rfl (by kernel_rfl) rfl (Val.nilCheck rfl) ?_
  refine Dr.val 10 rfl rfl rfl rfl (by kernel_rfl) rfl (V.fieldAddr rfl rfl) ?_
  refine Dr.next0 (e := 11) rfl rfl (by kernel_rfl) rfl (by kernel_rfl) (by kernel_rfl) rfl (E.store 2 rfl rfl rfl rfl rfl rfl rfl) aokK fun _ => ?_
  refine Dr.done (by kernel_rfl) (by kernel_rfl) ?_
  refine goK _ ?_
  refine At.publish_row 0 rfl fun h2 hle2 hsl2 => ?_
  have hpk2 : ∀ q ∈ pts.drop m, Ox.isPoint q = true := fun q hq => hpe.2 q (List.mem_of_mem_drop hq)
  have hpx2 : Ox.points (Ox.encs (pts.drop m)) = some (pts.drop m) := Ox.points_encs hpk2
  have hpp2 : (Ox.Atom.mk xo (xn + m) (Ox.encs (pts.drop m))).pts = pts.drop m := by simp [Ox.Atom.pts, hpx2]
  have hpok2 : (Ox.Atom.mk xo (xn + m) (Ox.encs (pts.drop m))).ok := by
    refine ⟨hx.org, by show 0 ≤ xn + m; omega, ?_, ?_, ?_⟩
    · rw [hpp2]; show xn + m + ((pts.drop m).length : Int) ≤ 1000; rw [List.length_drop]; omega
    · rw [hpp2]; exact hpx2
    · rw [hpp2]; intro e0; have := congrArg List.length e0; rw [List.length_drop] at this; simp only [List.length_nil] at this; omega
  have hpf2 : (Ox.Atom.mk xo (xn + m) (Ox.encs (pts.drop m))).flat = Ox.names xo (xn + m) (pts.drop m) := by rw [Ox.Atom.flat, hpp2]
  have hms : m = sn := by omega
  have hA2 : AtsH h2 (.slice (some ⟨g2, 0, none⟩) (1 + r.length) cp2) (⟨xo, xn + m, Ox.encs (pts.drop m)⟩ :: r) := by
    show SlH h2 _ 4 (r.length + 1) _
    rw [show r.length + 1 = 1 + r.length by omega]
    exact hsl2
  have hf2 : Ox.flat (⟨xo, xn + m, Ox.encs (pts.drop m)⟩ :: r) = Ox.names xo (xn + m) (pts.drop m) ++ Ox.flat r := by rw [Ox.flat_cons, hpf2]
  rw [hff, List.drop_append_of_le_length (by rw [hnl]; omega), Ox.names_drop, ← hms] at hfr
  rw [hff, List.take_append_of_le_length (by rw [hnl]; omega), Ox.names_take, ← hms] at hfd
  refine At.back ⟨sn - m, d', ⟨xo, xn + m, Ox.encs (pts.drop m)⟩ :: r, .slice (some ⟨g2, 0, none⟩) (1 + r.length) cp2, v', h2⟩ (by show sn - m < sn; omega) ⟨rfl, congrArg (fun z => some (Value.int .i64 z)) (by show (sn : Int) - m = ((sn - m : Nat) : Int); omega), rfl, rfl, trivial⟩ (fun w hw => ⟨⟨hle.trans hle2, hA2, ?_, by show r.length + 1 ≤ _; omega, hd', ?_, ?_, ?_⟩, ?_⟩)
  · intro a ha
    rcases List.mem_cons.1 ha with rfl | ha
    · exact hpok2
    · exact hsr a (by simp [ha])
  · show (Ox.flat d').length + (sn - m) ≤ 900000
    rw [hfd', List.length_append]
    by_cases hk : keep = true
    · rw [if_pos hk, Ox.names_length, List.length_take]; omega
    · rw [if_neg hk]; simp; omega
  · show Ox.flat d' ++ (if keep = true then (Ox.flat (⟨xo, xn + m, Ox.encs (pts.drop m)⟩ :: r)).take (sn - m) else []) = _
    rw [← hfd, hfd', List.append_assoc, show sn - m = 0 by omega]
    by_cases hk : keep = true
    · simp only [if_pos hk]; simp
    · simp only [if_neg hk]; simp
  · show (Ox.flat (⟨xo, xn + m, Ox.encs (pts.drop m)⟩ :: r)).drop (sn - m) = _
    rw [← hfr, hf2, show sn - m = 0 by omega]; simp
  · exact hw.sub (List.sublist_cons_self _ _)
end Go.Proofs.YthjgbmbaabpgmaaGreat
/-
  Documents: Text and Len.
-/
namespace Go.Proofs.YthjgbmbaabpgmaaGreat
open Go.Sy
set_option maxRecDepth 4000
set_option maxHeartbeats 4000000
attribute [local irreducible] At Ops Val Eff Does Res Dr
namespace Ox
def text (d : List Atom) : List UInt8 := d.flatMap (·.text)
end Ox

theorem DocText_does (v : Value) (d : List Ox.Atom) (hl : (Ox.text d).length ≤ 10000000000) (hdl : d.length ≤ 10000000000) (h : HV) (hv : AtsH h v d) :
    Does Tryz.prog 18 #[v] [] h (Just h (· = str (Ox.text d))) := by
  obtain ⟨a, cp, rfl⟩ := hv.form
  refine Does.of Tryz.func18 rfl Tryz.ntmps18 rfl fun c hc0 => ?_
  refine goK _ ?_
  refine At.row_nil 5 1 ?_
  refine At.loop2 (fun (i : Nat) (u : Value) => [(3, u), (6, .slice a d.length cp), (7, .int .i64 (d.length : Int)), (8, .int .i64 (i : Int))])
    (fun (i : Nat) (u : Value) w => i ≤ d.length ∧ Mem c [row 5 1 u (Ox.text (d.take i)).length ((Ox.text (d.take i)).map B)] h w) (fun (i : Nat) (_ : Value) => d.length - i)
    0 (.slice none 0 0) ⟨rfl, rfl, rfl, rfl, trivial⟩ (fun w hw => ⟨Nat.zero_le _, hw⟩) (fun i u => At.pure fun hi => ?_)
  refine goK _ ?_
  refine At.condP rfl (fun h2 => ?_) (fun h2 => ?_)
  · have hlt : i < d.length := by omega
    obtain ⟨b, o, rfl, _, _, hc⟩ := RowH.elem atc_length hv (i := i) (x := d[i]) (by simp [hlt])
    have hts : d.take (i + 1) = d.take i ++ [d[i]] := by rw [List.take_succ_eq_append_getElem hlt]
    have htx : Ox.text (d.take (i + 1)) = Ox.text (d.take i) ++ d[i].text := by rw [hts, Ox.text, List.flatMap_append]; simp [Ox.text]
    have hpre : (Ox.text (d.take (i + 1))).length ≤ (Ox.text d).length := by
      conv => rhs; rw [← List.take_append_drop (i + 1) d]
      rw [Ox.text, Ox.text, List.flatMap_append, List.length_append]; omega
    rw [htx, List.length_append] at hpre
    generalize hx : d[i] = x at *
    obtain ⟨xo, xn, xt⟩ := x
    simp only at htx hpre
    repeat (first | refine Ops.val rfl rfl rfl (V.loadHA (cs := [.int .i64 xo.c, .int .i64 xo.n, .int .i64 xn, str xt]) rfl rfl rfl hc) ?_ | refine goS _ ?_)
    refine Ops.eff rfl rfl rfl (E.alloc rfl) fun _ => Ops.ex fun b5 => Ops.pure ?_
    rintro rfl
    refine Ops.eff0 rfl rfl (E.store 0 rfl rfl rfl rfl rfl rfl rfl) fun _ => ?_
    refine goK _ ?_
    refine Ops.eff rfl rfl rfl (Eff.appendStr (e := 5) (j := 1) (ap rfl) (zs rfl) (st rfl) rfl rfl rfl (by omega)) fun v3 => ?_
    refine goK _ ?_
    refine At.back2 (i + 1) v3 (by omega) (by exact ⟨rfl, rfl, rfl, rfl, trivial⟩) (fun w hw => ⟨hlt, ?_⟩)
    rw [htx, List.length_append, List.map_append]
    exact hw.sub (List.sublist_cons_self _ _)
  obtain rfl : i = d.length := by omega
  rw [List.take_length]
  repeat (first | refine Ops.val rfl rfl rfl (Val.strbytes (j := 0) (by exact sl rfl) (by exact ik rfl) (by exact st rfl) rfl rfl) ?_ | refine goS _ ?_)
  exact At.ret1 Tryz.results18 (Res.tmp rfl) (List.nil_sublist _) ⟨rfl, rfl, rfl⟩

theorem DocLen_does (v : Value) (d : List Ox.Atom) (hl : (Ox.text d).length ≤ 10000000000) (hdl : d.length ≤ 10000000000) (h : HV) (hv : AtsH h v d) :
    Does Tryz.prog 54 #[v] [] h (Just h (· = .int .i64 (Ox.tlen (Ox.text d)))) := by
  refine Does.of Tryz.func54 rfl Tryz.ntmps54 rfl fun c hc0 => ?_
  refine goK _ ?_
  refine Ops.eff rfl rfl rfl (Eff.call (fn (by kernel_rfl)) rfl (Ωc := []) rfl (DocText_does v d hl hdl h hv)) fun _ => Ops.ex fun _ => Ops.ex fun _ => Ops.pure ?_
  rintro ⟨rfl, rfl, rfl⟩
  refine goK _ ?_
  refine Ops.eff rfl rfl rfl (Eff.call (fn (by kernel_rfl)) rfl (Ωc := []) rfl (Len_does (Ox.text d) (by omega) h)) fun _ => Ops.ex fun _ => Ops.ex fun _ => Ops.pure ?_
  rintro ⟨rfl, rfl, rfl⟩
  refine goK _ ?_
  exact At.ret1 Tryz.results54 (Res.tmp rfl) (List.nil_sublist _) ⟨rfl, rfl, rfl⟩
end Go.Proofs.YthjgbmbaabpgmaaGreat
