/-
  What a normal delta makes is what the delta made.
-/
import Derived.Test.YthjgbmbaabpgmaaGreatSrd35
import Derived.Test.YthjgbmbaabpgmaaGreatSrd05
import Derived.Test.YthjgbmbaabpgmaaGreatSrd38
set_option linter.unusedVariables false
set_option linter.unusedSimpArgs false
set_option linter.unusedSectionVars false
namespace Go.Proofs.YthjgbmbaabpgmaaGreat
open Go.Sy
set_option maxRecDepth 4000
set_option maxHeartbeats 4000000
namespace Ox
/-- a delta applied, whatever is put in for code points -/
def applyG {α : Type} (f : Nat → List Nat → List α) : Nat → List α → List DOp → List α
  | _, _, [] => []
  | k, fl, .keep n :: r => fl.take n ++ applyG f k (fl.drop n) r
  | k, fl, .del n :: r => applyG f k (fl.drop n) r
  | k, fl, .ins l :: r => f k l ++ applyG f (k + l.length) fl r
def DOp.insl : DOp → Nat
  | .ins l => l.length
  | _ => 0
def insLen (ds : List DOp) : Nat := (ds.map DOp.insl).sum
theorem base_app (x y : List DOp) : base (x ++ y) = base x + base y := by simp [base]
theorem target_app (x y : List DOp) : target (x ++ y) = target x + target y := by simp [target]
theorem insLen_app (x y : List DOp) : insLen (x ++ y) = insLen x + insLen y := by simp [insLen]
theorem base_cons (p : DOp) (y : List DOp) : base (p :: y) = p.base + base y := by simp [base]
theorem insLen_cons (p : DOp) (y : List DOp) : insLen (p :: y) = p.insl + insLen y := by simp [insLen]
theorem applyG_append {α : Type} (f : Nat → List Nat → List α) : ∀ (x r : List DOp) (k : Nat) (fl : List α), applyG f k fl (x ++ r) = applyG f k fl x ++ applyG f (k + insLen x) (fl.drop (base x)) r
  | [], r, k, fl => by simp [applyG, insLen, base]
  | .keep n :: x, r, k, fl => by
    simp only [List.cons_append, applyG, applyG_append f x r, base_cons, insLen_cons, DOp.base, DOp.insl, List.drop_drop, List.append_assoc, Nat.zero_add]
  | .del n :: x, r, k, fl => by
    simp only [List.cons_append, applyG, applyG_append f x r, base_cons, insLen_cons, DOp.base, DOp.insl, List.drop_drop, Nat.zero_add]
  | .ins l :: x, r, k, fl => by
    simp only [List.cons_append, applyG, applyG_append f x r, base_cons, insLen_cons, DOp.base, DOp.insl, List.append_assoc, Nat.zero_add, Nat.add_assoc]
/-- two deltas that make the same -/
structure Like (x y : List DOp) : Prop where
  app : ∀ {α : Type} (f : Nat → List Nat → List α), (∀ k, f k [] = []) → (∀ k l m, f k (l ++ m) = f k l ++ f (k + l.length) m) → ∀ (k : Nat) (fl : List α), applyG f k fl x = applyG f k fl y
  base : base x = base y
  ins : insLen x = insLen y
  target : target x = target y
theorem Like.refl (x : List DOp) : Like x x := ⟨fun _ _ _ _ _ => rfl, rfl, rfl, rfl⟩
theorem Like.symm {x y : List DOp} (h : Like x y) : Like y x := ⟨fun f h0 h1 k fl => (h.app f h0 h1 k fl).symm, h.base.symm, h.ins.symm, h.target.symm⟩
theorem Like.trans {x y z : List DOp} (h : Like x y) (g : Like y z) : Like x z := ⟨fun f h0 h1 k fl => (h.app f h0 h1 k fl).trans (g.app f h0 h1 k fl), h.base.trans g.base, h.ins.trans g.ins, h.target.trans g.target⟩
theorem Like.append {x y z w : List DOp} (h : Like x y) (g : Like z w) : Like (x ++ z) (y ++ w) := by
  refine ⟨fun f h0 h1 k fl => ?_, ?_, ?_, ?_⟩
  · rw [applyG_append, applyG_append, h.app f h0 h1, h.base, h.ins, g.app f h0 h1]
  · rw [base_app, base_app, h.base, g.base]
  · rw [insLen_app, insLen_app, h.ins, g.ins]
  · rw [target_app, target_app, h.target, g.target]
theorem like_keep0 : Like [.keep 0] [] := ⟨fun f h0 h1 k fl => by simp [applyG], by simp [Ox.base, DOp.base], by simp [insLen, DOp.insl], by simp [Ox.target, DOp.target]⟩
theorem like_del0 : Like [.del 0] [] := ⟨fun f h0 h1 k fl => by simp [applyG], by simp [Ox.base, DOp.base], by simp [insLen, DOp.insl], by simp [Ox.target, DOp.target]⟩
theorem like_ins0 : Like [.ins []] [] := ⟨fun f h0 h1 k fl => by simp [applyG, h0], by simp [Ox.base, DOp.base], by simp [insLen, DOp.insl], by simp [Ox.target, DOp.target]⟩
theorem like_keeps (a b : Nat) : Like [.keep a, .keep b] [.keep (a + b)] := ⟨fun f h0 h1 k fl => by simp [applyG, List.take_add], by simp [Ox.base, DOp.base], by simp [insLen, DOp.insl], by simp [Ox.target, DOp.target]⟩
theorem like_dels (a b : Nat) : Like [.del a, .del b] [.del (a + b)] := ⟨fun f h0 h1 k fl => by simp [applyG], by simp [Ox.base, DOp.base], by simp [insLen, DOp.insl], by simp [Ox.target, DOp.target]⟩
theorem like_inss (l m : List Nat) : Like [.ins l, .ins m] [.ins (l ++ m)] := ⟨fun f h0 h1 k fl => by simp [applyG, h1], by simp [Ox.base, DOp.base], by simp [insLen, DOp.insl], by simp [Ox.target, DOp.target]⟩
theorem like_swap (a : Nat) (l : List Nat) : Like [.del a, .ins l] [.ins l, .del a] := ⟨fun f h0 h1 k fl => by simp [applyG], by simp [Ox.base, DOp.base], by simp [insLen, DOp.insl], by simp [Ox.target, DOp.target]⟩

theorem parse_keepI {n : Nat} (h1 : 1 ≤ n) (h2 : n ≤ 1000) : (Op.mk 1 (n : Int) []).parse = some (.keep n) := by
  have : (Op.mk 1 (n : Int) []).plain = true := by simp [Op.plain]; omega
  simp [Op.parse, this]
theorem parse_delI {n : Nat} (h1 : 1 ≤ n) (h2 : n ≤ 1000) : (Op.mk 3 (n : Int) []).parse = some (.del n) := by
  have : (Op.mk 3 (n : Int) []).plain = true := by simp [Op.plain]; omega
  simp [Op.parse, this]
theorem parse_insI {l : List Nat} (h1 : l ≠ []) (h2 : ∀ p ∈ l, isPoint p = true) : (Op.mk 2 0 (encs l)).parse = some (.ins l) := by
  have hp := points_encs h2
  have hl : 0 < l.length := List.length_pos_iff.2 h1
  have : (Op.mk 2 0 (encs l)).isIns = true := by simp [Op.isIns, tlen, hp]; exact hl
  simp [Op.parse, this, hp]
theorem parseAll_snoc {a : List Op} {o : Op} {os : List DOp} {p : DOp} (h : parseAll a = some os) (ho : o.parse = some p) : parseAll (a ++ [o]) = some (os ++ [p]) := by
  rw [parseAll_append, h]
  simp [parseAll, ho]
theorem encs_nil {l : List Nat} (h : encs l = []) : l = [] := by
  cases l with
  | nil => rfl
  | cons a r =>
    have := congrArg List.length h
    simp [encs, enc_length] at this
    have := (size_pos (a : Int)).1
    omega
/-- what a joiner stands for -/
structure JR (j : J) (os : List DOp) (l : List Nat) (ds : List DOp) : Prop where
  out : parseAll j.out = some os
  ins : j.ins = encs l
  pts : ∀ p ∈ l, isPoint p = true
  like : Like (os ++ [.keep j.kept, .ins l, .del j.gone]) ds
theorem JR.bound {j : J} {os : List DOp} {l : List Nat} {ds : List DOp} (r : JR j os l ds) : j.kept ≤ base ds ∧ j.gone ≤ base ds := by
  have := r.like.base
  rw [base_app] at this
  simp [base, DOp.base] at this
  unfold base; omega
theorem JR.keeps {j : J} {os : List DOp} {l : List Nat} {ds : List DOp} (r : JR j os l ds) (hb : base ds ≤ 1000) : ∃ os', JR j.keeps os' l ds ∧ j.keeps.kept = 0 ∧ j.keeps.ins = j.ins ∧ j.keeps.gone = j.gone := by
  have hk := r.bound
  unfold J.keeps
  split
  · rename_i h0
    refine ⟨os ++ [.keep j.kept], ⟨parseAll_snoc r.out (parse_keepI h0 (by omega)), r.ins, r.pts, ?_⟩, rfl, rfl, rfl⟩
    refine Like.trans ?_ r.like
    rw [List.append_assoc]
    refine (Like.refl os).append ?_
    exact (Like.refl [.keep j.kept]).append (like_keep0.append (Like.refl _))
  · exact ⟨os, r, by omega, rfl, rfl⟩
theorem JR.gap {j : J} {os : List DOp} {l : List Nat} {ds : List DOp} (r : JR j os l ds) (hb : base ds ≤ 1000) : ∃ os', JR j.gap os' [] ds ∧ j.gap.gone = 0 := by
  unfold J.gap
  split
  · rename_i h0
    have hl : l = [] := encs_nil (by rw [← r.ins]; exact h0.1)
    subst hl
    exact ⟨os, r, h0.2⟩
  · obtain ⟨os1, r1, hk, hi, hg⟩ := r.keeps hb
    have hbd := r1.bound
    -- the text put in
    obtain ⟨os2, h2, h3, h4⟩ : ∃ os2, parseAll j.keeps.gapIns.out = some os2 ∧ j.keeps.gapIns.gone = j.gone ∧ Like os2 (os1 ++ [.ins l]) := by
      unfold J.gapIns
      split
      · rename_i hne
        have hl : l ≠ [] := fun e => hne (by rw [r1.ins, e]; rfl)
        exact ⟨os1 ++ [.ins l], parseAll_snoc r1.out (by rw [r1.ins]; exact parse_insI hl r1.pts), hg, Like.refl _⟩
      · rename_i hne
        have hl : l = [] := encs_nil (by rw [← r1.ins]; exact Classical.not_not.1 hne)
        subst hl
        refine ⟨os1, r1.out, hg, ?_⟩
        have := (Like.refl os1).append like_ins0.symm
        simpa using this
    obtain ⟨os3, h5, h6⟩ : ∃ os3, parseAll j.keeps.gapIns.gapDel.out = some os3 ∧ Like os3 (os2 ++ [.del j.gone]) := by
      unfold J.gapDel
      split
      · rename_i h0
        rw [h3] at h0 ⊢
        exact ⟨os2 ++ [.del j.gone], parseAll_snoc h2 (parse_delI h0 (by rw [hg] at hbd; omega)), Like.refl _⟩
      · rename_i h0
        refine ⟨os2, h2, ?_⟩
        have h7 : j.gone = 0 := by omega
        rw [h7]
        have := (Like.refl os2).append like_del0.symm
        simpa using this
    refine ⟨os3, ⟨h5, rfl, by simp, ?_⟩, rfl⟩
    have hkk : j.keeps.gapIns.gapDel.kept = 0 := by
      have e1 : j.keeps.gapIns.kept = j.keeps.kept := by unfold J.gapIns; split <;> rfl
      have e2 : j.keeps.gapIns.gapDel.kept = j.keeps.gapIns.kept := by unfold J.gapDel; split <;> rfl
      rw [e2, e1, hk]
    refine Like.trans ?_ r1.like
    rw [hk, hg]
    simp only [hkk]
    have z : Like [DOp.keep 0, .ins [], .del 0] [] := like_keep0.append (like_ins0.append like_del0)
    have h8 : Like (os3 ++ [.keep 0, .ins [], .del 0]) (os3 ++ []) := (Like.refl _).append z
    rw [List.append_nil] at h8
    have h9 : Like os3 (os1 ++ [.ins l] ++ [.del j.gone]) := h6.trans (h4.append (Like.refl _))
    have h10 : Like (os1 ++ ([.keep 0] ++ [.ins l, .del j.gone])) (os1 ++ ([] ++ [.ins l, .del j.gone])) := (Like.refl _).append (like_keep0.append (Like.refl _))
    refine h8.trans (h9.trans ?_)
    simp only [List.append_assoc, List.singleton_append, List.cons_append, List.nil_append] at h10 ⊢
    exact h10.symm
theorem JR.step {j : J} {os : List DOp} {l : List Nat} {ds : List DOp} (r : JR j os l ds) {p : DOp} (hb : base (ds ++ [p]) ≤ 1000) (hp : ∀ m, p = .ins m → ∀ q ∈ m, isPoint q = true) : ∃ os' l', JR (j.step p) os' l' (ds ++ [p]) := by
  have hb' : base ds ≤ 1000 := by rw [base_app] at hb; omega
  cases p with
  | keep n =>
    obtain ⟨os', r', hg⟩ := r.gap hb'
    refine ⟨os', [], ⟨r'.out, r'.ins, by simp, ?_⟩⟩
    have h1 := r'.like.append (Like.refl [.keep n])
    refine Like.trans ?_ h1
    rw [List.append_assoc]
    refine (Like.refl os').append ?_
    simp only [J.step, hg]
    have h2 : Like [DOp.ins [], .del 0] [] := like_ins0.append like_del0
    have h3 : Like ([DOp.keep (j.gap.kept + n)] ++ [.ins [], .del 0]) ([.keep (j.gap.kept + n)] ++ []) := (Like.refl _).append h2
    have h4 : Like ([DOp.keep j.gap.kept] ++ ([.ins [], .del 0] ++ [.keep n])) ([.keep j.gap.kept] ++ ([] ++ [.keep n])) := (Like.refl _).append (h2.append (Like.refl _))
    exact h3.trans ((like_keeps _ _).symm.trans h4.symm)
  | del n =>
    refine ⟨os, l, ⟨r.out, r.ins, r.pts, ?_⟩⟩
    have h1 := r.like.append (Like.refl [.del n])
    refine Like.trans ?_ h1
    rw [List.append_assoc]
    refine (Like.refl os).append ?_
    simp only [J.step]
    exact (Like.refl [.keep j.kept, .ins l]).append (like_dels _ _).symm
  | ins m =>
    refine ⟨os, l ++ m, ⟨r.out, by simp only [J.step]; rw [r.ins, encs_append], fun q hq => ?_, ?_⟩⟩
    · rcases List.mem_append.1 hq with h1 | h1
      · exact r.pts q h1
      · exact hp m rfl q h1
    · have h1 := r.like.append (Like.refl [.ins m])
      refine Like.trans ?_ h1
      rw [List.append_assoc]
      refine (Like.refl os).append ?_
      simp only [J.step]
      have h2 : Like ([DOp.keep j.kept] ++ ([.ins (l ++ m)] ++ [.del j.gone])) ([.keep j.kept] ++ ([.ins l, .ins m] ++ [.del j.gone])) := (Like.refl _).append ((like_inss l m).symm.append (Like.refl _))
      have h3 : Like ([DOp.keep j.kept, .ins l] ++ [.ins m, .del j.gone]) ([.keep j.kept, .ins l] ++ [.del j.gone, .ins m]) := (Like.refl _).append (like_swap _ _).symm
      exact h2.trans h3
theorem joined_JR : ∀ (ds : List DOp), base ds ≤ 1000 → (∀ m, DOp.ins m ∈ ds → ∀ q ∈ m, isPoint q = true) → ∃ os l, JR (joined ds) os l ds := fun ds => by
  induction ds using snocInd with
  | nil => exact fun _ _ => ⟨[], [], rfl, rfl, by simp, like_keep0.append (like_ins0.append like_del0)⟩
  | snoc ds p ih =>
    intro hb hp
    obtain ⟨os, l, r⟩ := ih (by rw [base_app] at hb; omega) fun m hm => hp m (by simp [hm])
    rw [joined_app]
    exact r.step hb fun m e => hp m (by simp [e])
/-- a normal delta makes what the delta made -/
theorem norm_like {ds : List DOp} (hb : base ds ≤ 1000) (hp : ∀ m, DOp.ins m ∈ ds → ∀ q ∈ m, isPoint q = true) : ∃ os, parseAll (norm ds) = some os ∧ Like os ds := by
  obtain ⟨os, l, r⟩ := joined_JR ds hb hp
  obtain ⟨os1, r1, hg1⟩ := r.gap hb
  obtain ⟨os2, r2, hk, hi, hg⟩ := r1.keeps hb
  refine ⟨os2, r2.out, Like.trans ?_ r2.like⟩
  rw [hk, hg, hg1]
  have z : Like [DOp.keep 0, .ins [], .del 0] [] := like_keep0.append (like_ins0.append like_del0)
  have h8 : Like (os2 ++ [.keep 0, .ins [], .del 0]) (os2 ++ []) := (Like.refl _).append z
  rw [List.append_nil] at h8
  exact h8.symm
theorem parseAll_weight : ∀ {x : List Op} {os : List DOp}, parseAll x = some os → os.length ≤ base os + insLen os
  | [], os, h => by simp [parseAll] at h; subst h; simp
  | o :: r, os, h => by
    simp only [parseAll] at h
    cases hp : o.parse with
    | none => rw [hp] at h; cases h
    | some p =>
      cases hr : parseAll r with
      | none => rw [hp, hr] at h; cases h
      | some x =>
        rw [hp, hr] at h
        simp at h
        subst h
        have ih := parseAll_weight hr
        rw [base_cons, insLen_cons, List.length_cons]
        have : 1 ≤ p.base + p.insl := by
          cases p with
          | keep n => exact (parse_keep hp).2
          | del n => have := (parse_del hp).2; simp only [DOp.base, DOp.insl]; omega
          | ins l => have := List.length_pos_iff.2 (parse_ins' hp).2; simp only [DOp.base, DOp.insl]; omega
        omega
theorem insLen_target : ∀ ds : List DOp, insLen ds ≤ target ds
  | [] => by simp [insLen, target]
  | p :: r => by
    have := insLen_target r
    simp only [insLen, target, List.map_cons, List.sum_cons] at *
    cases p <;> simp only [DOp.insl, DOp.target] <;> omega
theorem lens_of {d : List Op} {ds : List DOp} (h : (lens d).2.2 = 0) (hp : parseAll d = some ds) : lens d = (base ds, target ds, 0) ∧ base ds ≤ 1000 ∧ target ds ≤ 1000 := by
  obtain ⟨ds', h1, h2, h3, h4⟩ := lens_ok h
  rw [hp] at h1; cases h1
  refine ⟨?_, h3, h4⟩
  unfold lens
  rw [if_neg (by omega), hp]
  simp only
  rw [if_neg (by omega)]
/-- what is said of a normal delta -/
theorem lens_norm {ds : List DOp} (hb : base ds ≤ 1000) (ht : target ds ≤ 1000) (hp : ∀ m, DOp.ins m ∈ ds → ∀ q ∈ m, isPoint q = true) : ∃ os, parseAll (norm ds) = some os ∧ Like os ds ∧ lens (norm ds) = (base ds, target ds, 0) ∧ (norm ds).length ≤ 2000 := by
  obtain ⟨os, h1, h2⟩ := norm_like hb hp
  have h3 := parseAll_weight h1
  have h4 := insLen_target os
  rw [h2.target] at h4; rw [h2.base] at h3
  have h5 := parseAll_length h1
  refine ⟨os, h1, h2, ?_, by omega⟩
  unfold lens
  rw [if_neg (by omega), h1]
  simp only
  rw [h2.base, h2.target, if_neg (by omega)]
theorem lens_norm' {d : List Op} {ds : List DOp} (h : (lens d).2.2 = 0) (hp : parseAll d = some ds) : lens (norm ds) = lens d := by
  obtain ⟨h1, h2, h3⟩ := lens_of h hp
  obtain ⟨_, _, _, h4, _⟩ := lens_norm h2 h3 (parseAll_ins hp)
  rw [h4, h1]
end Ox
end Go.Proofs.YthjgbmbaabpgmaaGreat
/-
  The machine: a text brought in, an edit.
-/
namespace Go.Proofs.YthjgbmbaabpgmaaGreat
open Go.Sy
set_option maxRecDepth 4000
set_option maxHeartbeats 4000000
namespace Ox
/-- the code points of a document -/
def ptsOf (d : List Atom) : List Nat := (flat d).map (·.2)
theorem text_pts {d : List Atom} (h : ∀ a ∈ d, a.ok) : text d = encs (ptsOf d) ∧ ∀ p ∈ ptsOf d, isPoint p = true := by
  induction d with
  | nil => exact ⟨rfl, by simp [ptsOf, flat]⟩
  | cons a r ih =>
    obtain ⟨h1, h2⟩ := ih fun x hx => h x (by simp [hx])
    obtain ⟨h3, h4⟩ := (h a (by simp)).enc
    have e : ptsOf (a :: r) = a.pts ++ ptsOf r := by rw [ptsOf, flat_cons, List.map_append, Atom.flat, names_snd]; rfl
    refine ⟨?_, fun p hp => ?_⟩
    · rw [e, encs_append, ← h1, ← h3]; simp [text]
    · rw [e] at hp
      rcases List.mem_append.1 hp with h5 | h5
      · exact h4 p h5
      · exact h2 p h5
theorem text_points {d : List Atom} (h : ∀ a ∈ d, a.ok) : points (text d) = some (ptsOf d) := by
  rw [(text_pts h).1]; exact points_encs (text_pts h).2
theorem ptsOf_length (d : List Atom) : (ptsOf d).length = (flat d).length := by simp [ptsOf]
theorem DocB.tlen {d : List Atom} (h : DocB d) : Ox.tlen (text d) = ((flat d).length : Int) := by
  rw [Ox.tlen, text_points h.canon.ok, ← ptsOf_length]
end Ox
theorem lgs_own {ys : List BrV} {i : Nat} {b : Ox.Br} {lv : Value} (hy : ys[i]? = some ⟨b, lv⟩) : lgs ys (some i) ys.length = [lgI lv b.log] := by
  have hlt : i < ys.length := (List.getElem?_eq_some_iff.1 hy).1
  unfold lgs
  simp only [if_pos hlt, hy]
theorem MOk.addC {h : HV} {s : Ox.St} {zs : List CmV} {ys : List BrV} {i : Nat} (r : MOk h s zs ys (some i)) {b : Ox.Br} {lv lv' pv dv ov : Value} {ps : List Int} {d o : List Ox.Op} {cl sq : Int} (hy : ys[i]? = some ⟨b, lv⟩) (hz : CmOk h ⟨⟨s.nc, Ox.lastZ b.log :: ps, d, o, cl, sq⟩, pv, dv, ov⟩) :
    MOk h (s.addC i b ps d o cl sq) (zs ++ [⟨⟨s.nc, Ox.lastZ b.log :: ps, d, o, cl, sq⟩, pv, dv, ov⟩]) (ys.set i ⟨b.put s.nc, lv'⟩) (some i) :=
  ⟨by rw [List.map_append, r.cs]; rfl, by rw [List.map_set, r.bs]; rfl, fun z hzm => by
    rcases List.mem_append.1 hzm with h1 | h1
    · exact r.cok z h1
    · simp at h1; subst h1; exact hz, fun k y hk hn => by
    have hki : i ≠ k := fun e => hn (by rw [e])
    rw [List.getElem?_set_ne hki] at hk
    exact r.lok k y hk hn⟩
attribute [local irreducible] At Ops Val Eff Does Res Dr

section
variable (m dm : Nat) (s : Ox.St) (csv bsv ksv : Value) (M : List (Int × Value)) (zs : List CmV) (ys : List BrV) (N : Nat) (inv : Ox.Inv N s) (h : HV) (i : Nat) (b : Ox.Br) (lv : Value) (ok : MOk h s zs ys (some i)) (hyi : ys[i]? = some ⟨b, lv⟩) (bb : Nat) (hbf : BsForm bb ys bsv)
include inv ok hyi hbf
theorem mAdd_does (ps : List Int) (zd zo : List Ox.Op) (cl sq : Int) (pv dv ov : Value) (hpl : ps.length ≤ 1000) (hps : ZsH h pv ps) (hds : OpsH h dv zd) (hos : OpsH h ov zo) :
    Does Tryz.prog 57 #[.pointer (some ⟨m, 0, none⟩), .pointer (some ⟨bb, 0 + i * 3, none⟩), .agg #[.int .i64 0, pv, dv, ov, .int .i64 cl, .int .i64 sq]] (MS m dm s csv bsv ksv M zs ys [lgI lv b.log]) h
      (fun r Ω' h' => HV.le h h' ∧ r = .int .i64 s.nc ∧ ∃ csv' zs' ys' lv', MOk h' (s.addC i b ps zd zo cl sq) zs' ys' (some i) ∧ ys'[i]? = some ⟨b.put s.nc, lv'⟩ ∧ Ω' = MS m dm (s.addC i b ps zd zo cl sq) csv' bsv ksv M zs' ys' [lgI lv' (b.put s.nc).log]) := by
  have hbm : b ∈ s.bs := by rw [← ok.bs]; exact List.mem_map.2 ⟨_, List.mem_of_getElem? hyi, rfl⟩
  have hlt : i < ys.length := (List.getElem?_eq_some_iff.1 hyi).1
  have hnc := inv.nc
  have hzl : s.cs.length = zs.length := by rw [← ok.cs, List.length_map]
  have hyl : s.bs.length = ys.length := by rw [← ok.bs, List.length_map]
  have h1 := inv.cslen; have h2 := inv.few; have h3 := inv.loglen hbm
  obtain ⟨cp, rfl⟩ : ∃ cp, bsv = .slice (some ⟨bb, 0, none⟩) ys.length cp := by
    rcases hbf with h4 | ⟨h4, _⟩
    · exact h4
    · rw [h4] at hlt; simp at hlt
  refine (madd_does m dm s.nc s.nb csv _ ksv M zs ys s.ks lv i b hyi (inv.logs b hbm).1 ⟨by omega, by omega⟩ (by omega) (by omega) (by omega) bb cp rfl 0 ps zd zo cl sq pv dv ov hpl h hps hds hos).mono fun r Ω' h' ⟨h5, h6, csv', lv', pv', h7, h8, h9⟩ => ?_
  exact ⟨h5, h6, csv', _, _, lv', (ok.mono h5).addC (lv' := lv') hyi h7, by rw [List.getElem?_set_self hlt], h9⟩
end

section
variable (m dm : Nat) (s : Ox.St) (csv bsv ksv : Value) (zs : List CmV) (ys : List BrV) (N : Nat) (inv : Ox.Inv N s) (h : HV) (i : Nat) (b : Ox.Br) (lv : Value) (ok : MOk h s zs ys (some i)) (hyi : ys[i]? = some ⟨b, lv⟩) (q : Ox.Rq) (qv dv : Value) (hq : RqH h qv q dv) (ha : Ox.BrAt s.bs (·.name = q.name) i b)
include inv ok hq ha hyi
theorem hload_does : Does Tryz.prog 78 #[.pointer (some ⟨m, 0, none⟩), qv] (MS m dm s csv bsv ksv [] zs ys [lgI lv b.log]) h (HdPost m dm s q 2 (some i) h) := by
  refine MX.reads fun _ _ _ hbb => ?_
  obtain ⟨bb, hbf⟩ := hbb
  have hbr := mbranch_does m dm s csv bsv ksv [] zs ys [lgI lv b.log] (some i) N inv h ok bb hbf q.name i b ha
  have hfl := mfull_does m dm s csv bsv ksv [] zs ys [lgI lv b.log] h
  have htp := mtipO_does s csv bsv ksv zs ys (some i) N inv h ok bb hbf i b lv hyi
  have hdc := mdoc_does m dm s csv bsv ksv [] zs ys [lgI lv b.log] (some i) N inv h ok (Ox.lastZ b.log) (inv.tip (BrAt.mem ha)) (DocMap.nil _ _)
  have hadd := fun M h' (hle : HV.le h h') => mAdd_does m dm s csv bsv ksv M zs ys N inv h' i b lv (ok.mono hle) hyi bb hbf
  have hds := (inv.cs.doc (Ox.lastZ b.log))
  obtain ⟨da, dcp, e⟩ := hq.d.form
  have hqv := hq.val
  have hql := hq.text
  subst e; subst hqv
  refine Does.of Tryz.func78 rfl Tryz.ntmps78 rfl fun c hc0 => ?_
  refine goK _ ?_
  refine Ops.eff rfl rfl rfl (Eff.box rfl) fun _ => Ops.ex fun b3 => Ops.pure ?_
  rintro rfl
  refine Ops.eff rfl rfl rfl (E.alloc rfl) fun _ => Ops.ex fun b4 => Ops.pure ?_
  rintro rfl
  refine goK _ ?_
  refine Ops.eff rfl rfl rfl (Eff.callP 2 (fn (by kernel_rfl)) rfl (Ωc := MS m dm s csv bsv ksv [] zs ys [lgI lv b.log]) (Ωr := []) (by simp) hbr) fun _ => Ops.pure ?_
  rintro rfl
  refine goK _ ?_
  refine Ops.eff rfl rfl rfl (Eff.callAt 0 (fn (by kernel_rfl)) rfl (Ωc := []) rfl (Len_does q.text (by omega) h)) fun _ => Ops.ex fun _ => Ops.ex fun _ => Ops.pure ?_
  rintro ⟨rfl, rfl, rfl⟩
  refine goK _ ?_
  refine At.condP rfl (fun h1 => ?_) (fun h1 => ?_)
  · have hE : Ox.loadE s q = 10 := by rw [Ox.loadE, if_pos h1]
    refine goK _ ?_
    refine Ops.eff0 rfl rfl (E.store 0 rfl rfl rfl rfl rfl rfl rfl) fun _ => ?_
    refine goK _ ?_
    exact At.ret2 Tryz.results78 (Res.cellA (j := 0) (cs := z34) (ly rfl) rfl rfl rfl) (Res.tmp rfl) (List.nil_sublist _) (HdPost.bad (hc0.symm ▸ HV.le.refl _) (by decide) (by rw [← hE]; exact .loadE (by rw [hE]; decide)))
  refine goK _ ?_
  refine At.condP rfl (fun h2 => ?_) (fun h2 => ?_)
  · have hE : Ox.loadE s q = 198 := by rw [Ox.loadE, if_neg h1, if_pos (by omega)]
    refine goK _ ?_
    refine Ops.eff0 rfl rfl (E.store 0 rfl rfl rfl rfl rfl rfl rfl) fun _ => ?_
    refine goK _ ?_
    exact At.ret2 Tryz.results78 (Res.cellA (j := 0) (cs := z34) (ly rfl) rfl rfl rfl) (Res.tmp rfl) (List.nil_sublist _) (HdPost.bad (hc0.symm ▸ HV.le.refl _) (by decide) (by rw [← hE]; exact .loadE (by rw [hE]; decide)))
  refine goK _ ?_
  refine Ops.eff rfl rfl rfl (Eff.callP 2 (fn (by kernel_rfl)) rfl (Ωc := MS m dm s csv bsv ksv [] zs ys [lgI lv b.log]) (Ωr := []) (by simp) hfl) fun _ => Ops.pure ?_
  rintro rfl
  refine goK _ ?_
  refine At.condP rfl (fun h3 => ?_) (fun h3 => ?_)
  · have hE : Ox.loadE s q = 193 := by rw [Ox.loadE, if_neg h1, if_neg (by omega), if_pos h3]
    refine goK _ ?_
    refine Ops.eff0 rfl rfl (E.store 0 rfl rfl rfl rfl rfl rfl rfl) fun _ => ?_
    refine goK _ ?_
    exact At.ret2 Tryz.results78 (Res.cellA (j := 0) (cs := z34) (ly rfl) rfl rfl rfl) (Res.tmp rfl) (List.nil_sublist _) (HdPost.bad (hc0.symm ▸ HV.le.refl _) (by decide) (by rw [← hE]; exact .loadE (by rw [hE]; decide)))
  have hE : Ox.loadE s q = 0 := by rw [Ox.loadE, if_neg h1, if_neg (by omega), if_neg h3]
  refine goK _ ?_
  first | refine At.drawn mo (fun _ _ m => m.drew _) ?_ | refine At.seq (At.drawn mo (fun _ _ m => m.drew _) ?_)
  refine Dr.val 0 rfl rfl rfl rfl (by kernel_rfl) rfl (Val.move rfl) ?_
  refine Dr.val 1 rfl rfl rfl rfl (by kernel_rfl) rfl (Val.move rfl) ?_
  refine Dr.val 5 rfl rfl rfl rfl (by kernel_rfl) rfl (V.fieldAddr rfl rfl) ?_
  refine Dr.valS 6 _ rfl rfl rfl rfl (by kernel_rfl) rfl (V.load rfl rfl (fun _ hh => hh)) (fun w hw => hw.cell (n := 1) rfl rfl) ?_
  refine Dr.next (e := 2) rfl rfl (by kernel_rfl) rfl (by kernel_rfl) (by kernel_rfl) rfl rfl (Eff.callP 4 (fn (by kernel_rfl)) rfl (Ωc := RX csv bsv ksv zs ys s.ks [lgI lv b.log]) (Ωr := []) (by simp) htp) aokK fun _ => Dr.pure ?_
  rintro rfl
  refine Dr.next (e := 3) rfl rfl (by kernel_rfl) rfl (by kernel_rfl) (by kernel_rfl) rfl rfl (Eff.callAt 2 (fn (by kernel_rfl)) rfl (Ωc := MS m dm s csv bsv ksv [] zs ys [lgI lv b.log]) (Ωr := []) (by simp) hdc) (by repeat (first | exact AllOk.nil | refine AllOk.triv ?_ | refine AllOk.cons (by rintro _ _ ⟨_, _, ⟨_, _, rfl, _⟩, hw⟩; exact hw.cell (n := 7) rfl rfl) ?_)) fun _ => Dr.ex fun _ => Dr.ex fun _ => Dr.pure ?_
  rintro ⟨hle, M', rfl, hr, hD'⟩
  rename_i r1 h1'
  have hsh := hds.short
  refine Dr.next (e := 4) rfl rfl (by kernel_rfl) rfl (by kernel_rfl) (by kernel_rfl) rfl rfl (Eff.callP 0 (fn (by kernel_rfl)) rfl (Ωc := []) rfl (DocText_does r1 (s.doc (Ox.lastZ b.log)) (Nat.le_trans hsh.2.2 (by omega)) (Nat.le_trans hsh.2.1 (by omega)) h1' hr)) (by repeat (first | exact AllOk.nil | refine AllOk.triv ?_ | refine AllOk.cons (by rintro _ _ ⟨_, hw⟩; exact hw.cell (n := 7) rfl rfl) ?_)) fun _ => Dr.pure ?_
  rintro rfl
  obtain ⟨y, hy⟩ : ∃ y, Ox.points q.text = some y := by
    cases hp : Ox.points q.text with
    | none => rw [Ox.tlen, hp] at h1; simp at h1
    | some y => exact ⟨y, rfl⟩
  have hyl : y.length ≤ 1000 := by rw [Ox.tlen, hy] at h2; simp at h2; omega
  have hx : Ox.points (Ox.text (s.doc (Ox.lastZ b.log))) = some (Ox.ptsOf (s.doc (Ox.lastZ b.log))) := Ox.text_points hds.canon.ok
  have hxl : (Ox.ptsOf (s.doc (Ox.lastZ b.log))).length ≤ 1000 := by rw [Ox.ptsOf_length]; exact hds.few
  have hpe : Ox.pointsE (Ox.text (s.doc (Ox.lastZ b.log))) q.text = 0 := by
    unfold Ox.pointsE
    rw [hx, hy]
    simp only
    rw [if_pos ⟨hxl, hyl⟩]
  refine Dr.next (e := 7) rfl rfl (by kernel_rfl) rfl (by kernel_rfl) (by kernel_rfl) rfl rfl (Eff.call (fn (by kernel_rfl)) rfl (Ωc := []) rfl (Diff_does (Ox.text (s.doc (Ox.lastZ b.log))) q.text (Nat.le_trans hsh.2.2 (by omega)) (by omega) h1')) aokK fun _ => ?_
  refine Dr.ex fun _ => Dr.ex fun h2' => Dr.pure ?_
  rintro ⟨hle2, (⟨hx0, _⟩ | ⟨_, x', y', u, g, hx', hy', _, _, hR, rfl, rfl⟩)⟩
  · exact absurd hpe hx0
  rw [hx] at hx'; rw [hy] at hy'
  cases hx'; cases hy'
  refine Dr.val 8 rfl rfl rfl rfl (by kernel_rfl) rfl (Val.move rfl) ?_
  refine Dr.val 9 rfl rfl rfl rfl (by kernel_rfl) rfl (Val.extract rfl rfl) ?_
  refine Dr.val 10 rfl rfl rfl rfl (by kernel_rfl) rfl (Val.extract rfl rfl) ?_
  refine Dr.val 11 rfl rfl rfl rfl (by kernel_rfl) rfl (Val.assign rfl) ?_
  refine Dr.val 12 rfl rfl rfl rfl (by kernel_rfl) rfl (Val.assign rfl) ?_
  refine Dr.done (by kernel_rfl) (by kernel_rfl) ?_
  refine At.publish_row 0 rfl fun h3' hle3 hsl => ?_
  obtain ⟨ua, ucp, rfl⟩ := SlH.form hsl
  have hle' := (hle.trans hle2).trans hle3
  refine goK _ ?_
  refine Ops.eff rfl rfl rfl (Eff.callAt 0 (fn (by kernel_rfl)) rfl (Ωc := MS m dm s csv bsv ksv M' zs ys [lgI lv b.log]) rfl (hadd M' h3' hle' [] (Ox.diffOut y g) [] 0 0 (.slice none 0 0) (.slice ua (Ox.diffOut y g).length ucp) (.slice none 0 0) (by simp) (SlH.nil _ _) hsl (SlH.nil _ _))) fun _ => Ops.ex fun _ => Ops.ex fun _ => Ops.pure ?_
  rintro ⟨hle4, rfl, csv', zs', ys', lv', ok', hyi', rfl⟩
  refine Ops.val rfl rfl rfl (V.build rfl rfl rfl) ?_
  refine Ops.eff0 rfl rfl (E.store 6 rfl rfl rfl rfl rfl rfl rfl) fun _ => ?_
  refine goK _ ?_
  exact At.ret2 Tryz.results78 (Res.cellA (j := 6) (cs := [.int .i64 0, .int .i64 s.nc, str [], .slice none 0 0, .slice none 0 0]) (ly rfl) rfl rfl rfl) (Res.tmp rfl) (List.sublist_append_left _ _)
    ⟨hc0.symm ▸ hle'.trans hle4, 0, _, _, _, .load i b _ _ g hE ha hx hy hR, rfl, RpH.plain _ _ _ _, fun _ => ⟨csv', bsv, ksv, M', zs', ys', ok', by rw [lgs_own hyi']⟩⟩
theorem hedit_does : Does Tryz.prog 79 #[.pointer (some ⟨m, 0, none⟩), qv] (MS m dm s csv bsv ksv [] zs ys [lgI lv b.log]) h (HdPost m dm s q 3 (some i) h) := by
  refine MX.reads fun _ _ _ hbb => ?_
  obtain ⟨bb, hbf⟩ := hbb
  have hbr := mbranch_does m dm s csv bsv ksv [] zs ys [lgI lv b.log] (some i) N inv h ok bb hbf q.name i b ha
  have hfl := fun M h' => mfull_does m dm s csv bsv ksv M zs ys [lgI lv b.log] h'
  have htp := fun h' (hle : HV.le h h') => mtipO_does s csv bsv ksv zs ys (some i) N inv h' (ok.mono hle) bb hbf i b lv hyi
  have hdc := fun h' (hle : HV.le h h') => mdoc_does m dm s csv bsv ksv [] zs ys [lgI lv b.log] (some i) N inv h' (ok.mono hle) (Ox.lastZ b.log) (inv.tip (BrAt.mem ha)) (DocMap.nil _ _)
  have hadd := fun M h' (hle : HV.le h h') => mAdd_does m dm s csv bsv ksv M zs ys N inv h' i b lv (ok.mono hle) hyi bb hbf
  have hds := (inv.cs.doc (Ox.lastZ b.log))
  obtain ⟨da, dcp, e⟩ := hq.d.form
  have hqv := hq.val
  have hops := hq.ops
  have hqd := hq.d
  subst e; subst hqv
  refine Does.of Tryz.func79 rfl Tryz.ntmps79 rfl fun c hc0 => ?_
  refine goK _ ?_
  refine Ops.eff rfl rfl rfl (Eff.box rfl) fun _ => Ops.ex fun b3 => Ops.pure ?_
  rintro rfl
  refine Ops.eff rfl rfl rfl (E.alloc rfl) fun _ => Ops.ex fun b4 => Ops.pure ?_
  rintro rfl
  refine goK _ ?_
  refine Ops.eff rfl rfl rfl (Eff.callP 2 (fn (by kernel_rfl)) rfl (Ωc := MS m dm s csv bsv ksv [] zs ys [lgI lv b.log]) (Ωr := []) (by simp) hbr) fun _ => Ops.pure ?_
  rintro rfl
  refine goK _ ?_
  refine Ops.eff rfl rfl rfl (Eff.call (fn (by kernel_rfl)) rfl (Ωc := []) rfl (Normal_does _ q.d (fun o ho => by have := hops o ho; omega) h hqd)) fun _ => Ops.ex fun _ => Ops.ex fun _ => Ops.pure ?_
  rintro ⟨rfl, hle1, hr⟩
  rename_i h1
  rcases hr with ⟨ds, u, hl0, hpa, rfl, hu⟩ | ⟨hne, rfl⟩
  rotate_left
  · have hE : Ox.editE s b q = ((Ox.lens q.d).2.2 : Int) := by rw [Ox.editE, if_pos hne]
    refine Ops.val rfl rfl rfl (Val.move rfl) ?_
    refine Ops.val rfl rfl rfl (Val.extract rfl rfl) ?_
    refine Ops.val rfl rfl rfl (Val.extract rfl rfl) ?_
    refine Ops.val rfl rfl rfl (Val.assign rfl) ?_
    refine Ops.val rfl rfl rfl (Val.assign rfl) ?_
    refine Ops.nil ?_
    refine goK _ ?_
    refine At.condN rfl (fun h2 => ?_) (fun h2 => ?_)
    rotate_left
    · exact absurd h2 (by omega)
    refine goK _ ?_
    refine Ops.eff0 rfl rfl (E.store 0 rfl rfl rfl rfl rfl rfl rfl) fun _ => ?_
    refine goK _ ?_
    exact At.ret2 Tryz.results79 (Res.cellA (j := 0) (cs := z34) (ly rfl) rfl rfl rfl) (Res.tmp rfl) (List.nil_sublist _) (HdPost.bad (hc0.symm ▸ hle1) (by omega) (by rw [← hE]; exact .editE i b ha (by rw [hE]; omega)))
  obtain ⟨ua, ucp, rfl⟩ := hu.form
  have hln := Ox.lens_norm' hl0 hpa
  have hls := Ox.lens_of hl0 hpa
  have hsn := Ox.norm_sane ds hls.2.1 hls.2.2
  refine goK _ ?_
  refine Ops.eff rfl rfl rfl (Eff.callAt 0 (fn (by kernel_rfl)) rfl (Ωc := []) rfl (Base_does _ (Ox.norm ds) (fun o ho => by have := (hsn o ho).2.2; omega) h1 hu)) fun _ => Ops.ex fun _ => Ops.ex fun _ => Ops.pure ?_
  rintro ⟨rfl, rfl, rfl⟩
  have hbr' := htp h1 hle1
  refine goK _ ?_
  refine Ops.eff rfl rfl rfl (Eff.callP 4 (fn (by kernel_rfl)) rfl (Ωc := RX csv bsv ksv zs ys s.ks [lgI lv b.log]) (Ωr := []) (by simp) hbr') fun _ => Ops.pure ?_
  rintro rfl
  refine Ops.eff rfl rfl rfl (Eff.callAt 2 (fn (by kernel_rfl)) rfl (Ωc := MS m dm s csv bsv ksv [] zs ys [lgI lv b.log]) rfl (hdc h1 hle1)) fun _ => Ops.ex fun _ => Ops.ex fun _ => Ops.pure ?_
  rintro ⟨hle2, M', rfl, hr2, hD'⟩
  rename_i r2 h2
  have hsh := hds.short
  refine Ops.eff rfl rfl rfl (Eff.callAt 0 (fn (by kernel_rfl)) rfl (Ωc := []) rfl (DocLen_does r2 (s.doc (Ox.lastZ b.log)) (Nat.le_trans hsh.2.2 (by omega)) (Nat.le_trans hsh.2.1 (by omega)) h2 hr2)) fun _ => Ops.ex fun _ => Ops.ex fun _ => Ops.pure ?_
  rintro ⟨rfl, rfl, rfl⟩
  refine goK _ ?_
  refine At.condN rfl (fun h3 => ?_) (fun h3 => ?_)
  · have hE : Ox.editE s b q = 91 := by rw [Ox.editE, if_neg (by omega), if_pos (by rw [← hln]; exact h3)]
    refine goK _ ?_
    refine Ops.eff0 rfl rfl (E.store 6 rfl rfl rfl rfl rfl rfl rfl) fun _ => ?_
    refine goK _ ?_
    exact At.ret2 Tryz.results79 (Res.cellA (j := 6) (cs := z34) (ly rfl) rfl rfl rfl) (Res.tmp rfl) (List.nil_sublist _) (HdPost.bad (hc0.symm ▸ hle1.trans hle2) (by decide) (by rw [← hE]; exact .editE i b ha (by rw [hE]; decide)))
  refine goK _ ?_
  refine Ops.eff rfl rfl rfl (Eff.callP 0 (fn (by kernel_rfl)) rfl (Ωc := MS m dm s csv bsv ksv M' zs ys [lgI lv b.log]) rfl (hfl M' h2)) fun _ => Ops.pure ?_
  rintro rfl
  refine goK _ ?_
  refine At.condP rfl (fun h4 => ?_) (fun h4 => ?_)
  · have hE : Ox.editE s b q = 193 := by rw [Ox.editE, if_neg (by omega), if_neg (by rw [← hln]; simpa using h3), if_pos h4]
    refine goK _ ?_
    refine Ops.eff0 rfl rfl (E.store 6 rfl rfl rfl rfl rfl rfl rfl) fun _ => ?_
    refine goK _ ?_
    exact At.ret2 Tryz.results79 (Res.cellA (j := 6) (cs := z34) (ly rfl) rfl rfl rfl) (Res.tmp rfl) (List.nil_sublist _) (HdPost.bad (hc0.symm ▸ hle1.trans hle2) (by decide) (by rw [← hE]; exact .editE i b ha (by rw [hE]; decide)))
  have hE : Ox.editE s b q = 0 := by rw [Ox.editE, if_neg (by omega), if_neg (by rw [← hln]; simpa using h3), if_neg h4]
  refine goK _ ?_
  refine Ops.eff rfl rfl rfl (Eff.callAt 0 (fn (by kernel_rfl)) rfl (Ωc := MS m dm s csv bsv ksv M' zs ys [lgI lv b.log]) rfl (hadd M' h2 (hle1.trans hle2) [] (Ox.norm ds) [] 0 0 (.slice none 0 0) (.slice ua (Ox.norm ds).length ucp) (.slice none 0 0) (by simp) (SlH.nil _ _) (hu.mono hle2) (SlH.nil _ _))) fun _ => Ops.ex fun _ => Ops.ex fun _ => Ops.pure ?_
  rintro ⟨hle4, rfl, csv', zs', ys', lv', ok', hyi', rfl⟩
  refine Ops.val rfl rfl rfl (V.build rfl rfl rfl) ?_
  refine Ops.eff0 rfl rfl (E.store 6 rfl rfl rfl rfl rfl rfl rfl) fun _ => ?_
  refine goK _ ?_
  exact At.ret2 Tryz.results79 (Res.cellA (j := 6) (cs := [.int .i64 0, .int .i64 s.nc, str [], .slice none 0 0, .slice none 0 0]) (ly rfl) rfl rfl rfl) (Res.tmp rfl) (List.sublist_append_left _ _)
    ⟨hc0.symm ▸ (hle1.trans hle2).trans hle4, 0, _, _, _, .edit i b ds ha hE hpa, rfl, RpH.plain _ _ _ _, fun _ => ⟨csv', bsv, ksv, M', zs', ys', ok', by rw [lgs_own hyi']⟩⟩
end
end Go.Proofs.YthjgbmbaabpgmaaGreat
