/-
  The documents of commits, from the commits alone; a commit more.
-/
import Derived.Test.YthjgbmbaabpgmaaGreatSrd34
import Derived.Test.YthjgbmbaabpgmaaGreatSrd05
set_option linter.unusedVariables false
set_option linter.unusedSimpArgs false
set_option linter.unusedSectionVars false
namespace Go.Proofs.YthjgbmbaabpgmaaGreat
open Go.Sy
set_option maxRecDepth 4000
set_option maxHeartbeats 4000000
namespace Ox
noncomputable def docStep (s : List Cm × (Int → List Atom)) (c : Cm) : List Cm × (Int → List Atom) :=
  (s.1 ++ [c], fun k => if k = c.num then madeD (linksC (s.1 ++ [c])) s.2 c else s.2 k)
noncomputable def docFold (cs : List Cm) : List Cm × (Int → List Atom) := cs.foldl docStep ([], fun _ => [])
/-- the documents of all commits -/
noncomputable def docsOf (cs : List Cm) : Int → List Atom := (docFold cs).2
theorem docFold_snoc (cs : List Cm) (c : Cm) : docFold (cs ++ [c]) = docStep (docFold cs) c := by simp [docFold]
theorem docFold_fst (cs : List Cm) : (docFold cs).1 = cs := by
  induction cs using snocInd with
  | nil => rfl
  | snoc l c ih => rw [docFold_snoc, docStep, ih]
theorem docsOf_snoc (cs : List Cm) (c : Cm) : docsOf (cs ++ [c]) = fun k => if k = c.num then madeD (linksC (cs ++ [c])) (docsOf cs) c else docsOf cs k := by
  rw [docsOf, docFold_snoc, docStep, docFold_fst]; rfl
theorem docsOf_nil : docsOf [] = fun _ => [] := rfl
theorem linksC_snoc (cs : List Cm) (c : Cm) : linksC (cs ++ [c]) = linksC cs ++ [⟨c.num, c.ps⟩] := by simp [linksC]
theorem linksC_num (cs : List Cm) : (linksC cs).map Lnk.num = cs.map Cm.num := by simp [linksC]

/-- what is ahead of an earlier commit is as it was -/
theorem reach_snoc {l : List Lnk} {x : Lnk} (h : DagOk l) (hx : x.num ∉ l.map Lnk.num) {n : Int} (hn : n ∈ l.map Lnk.num) (k : Int) : Reach (upOf (l ++ [x])) n k ↔ Reach (upOf l) n k := by
  have hne : ∀ b, b ∈ l.map Lnk.num → b ≠ x.num := fun b hb e => hx (e ▸ hb)
  constructor
  · intro hr
    induction hr with
    | refl => exact .refl
    | step hb hp ih =>
      have h1 := h.reach hn _ ih
      rw [upOf_snoc] at hp
      simp only [if_neg (hne _ h1)] at hp
      exact .step ih hp
  · intro hr
    induction hr with
    | refl => exact .refl
    | step hb hp ih =>
      have h1 := h.reach hn _ hb
      refine .step ih ?_
      rw [upOf_snoc]
      simp only [if_neg (hne _ h1)]
      exact hp
open Classical in
theorem ancs_snoc {l : List Lnk} {x : Lnk} (h : DagOk l) (hx : x.num ∉ l.map Lnk.num) {n : Int} (hn : n ∈ l.map Lnk.num) : ancs (l ++ [x]) n = ancs l n := by
  have e : Ancs (l ++ [x]) n = Ancs l n := by
    funext s
    exact propext ⟨fun a => ⟨a.sorted, fun k => (a.mem k).trans (reach_snoc h hx hn k)⟩, fun a => ⟨a.sorted, fun k => (a.mem k).trans (reach_snoc h hx hn k).symm⟩⟩
  unfold ancs
  exact congrArg (fun p : List Int → Prop => if h : ∃ s, p s then h.choose else []) e
theorem pick_congr {f g : Int → List Int} : ∀ {l : List Int}, (∀ m ∈ l, ∀ n, Reach f m n ↔ Reach g m n) → pick f l = pick g l := fun {l} => by
  induction l using snocInd with
  | nil => intro _; rfl
  | snoc l n ih =>
    intro h
    rw [pick_snoc, pick_snoc, ih fun m hm => h m (by simp [hm])]
    unfold pickStep
    have : (∃ m ∈ pick g l, Reach f m n) ↔ ∃ m ∈ pick g l, Reach g m n := by
      constructor
      · rintro ⟨m, hm, hr⟩; exact ⟨m, hm, (h m (by simp [pick_sub _ _ m hm]) n).1 hr⟩
      · rintro ⟨m, hm, hr⟩; exact ⟨m, hm, (h m (by simp [pick_sub _ _ m hm]) n).2 hr⟩
    by_cases hc : ∃ m ∈ pick g l, Reach g m n
    · rw [if_pos hc, if_pos (this.2 hc)]
    · rw [if_neg hc, if_neg fun hh => hc (this.1 hh)]
theorem ancs_mem {l : List Lnk} (h : DagOk l) {n : Int} (hn : n ∈ l.map Lnk.num) : ∀ k ∈ ancs l n, k ∈ l.map Lnk.num := fun k hk => h.reach hn k (ancs_reach hk)
theorem commL_snoc {l : List Lnk} {x : Lnk} (h : DagOk l) (hx : x.num ∉ l.map Lnk.num) {a b : Int} (ha : a ∈ l.map Lnk.num) (hb : b ∈ l.map Lnk.num) : commL (l ++ [x]) a b = commL l a b := by
  unfold commL commons
  rw [ancs_snoc h hx ha, ancs_snoc h hx hb]
  congr 1
  refine pick_congr fun m hm n => reach_snoc h hx ?_ n
  have := (List.mem_filter.1 hm).1
  exact ancs_mem h ha m (by simpa using this)
theorem commL_mem {l : List Lnk} (h : DagOk l) {a b : Int} (ha : a ∈ l.map Lnk.num) : ∀ k ∈ commL l a b, k ∈ l.map Lnk.num := fun k hk => ancs_mem h ha k (commons_mem k hk).1
theorem last_le {l : List Lnk} (h : DagOk l) : ∀ x ∈ l, x.num ≤ lastOf l := fun x hx => by
  rcases List.eq_nil_or_concat l with rfl | ⟨r, y, rfl⟩
  · simp at hx
  · rw [List.concat_eq_append] at *
    have hs := dag_sorted h
    rw [lastOf, List.getLast?_concat]
    rw [List.map_append, List.pairwise_append] at hs
    rcases List.mem_append.1 hx with h1 | h1
    · have := hs.2.2 _ (List.mem_map_of_mem h1) y.num (by simp)
      show x.num ≤ y.num; omega
    · simp at h1; subst h1; exact Int.le_refl _
theorem Fine.fresh {l : List Lnk} {x : Lnk} (h : DagOk l) (hf : Fine l x) : x.num ∉ l.map Lnk.num := fun hm => by
  obtain ⟨y, hy, e⟩ := List.mem_map.1 hm
  have := last_le h y hy
  have := hf.up; omega
theorem DagOk.snoc {l : List Lnk} {x : Lnk} (h : DagOk l) (hf : Fine l x) (hl : l.length < 300) : DagOk (l ++ [x]) := by
  refine ⟨by simp; omega, fun i y hy => ?_⟩
  rcases Nat.lt_or_ge i l.length with h1 | h1
  · rw [List.getElem?_append_left h1] at hy
    rw [List.take_append_of_le_length (by omega)]
    exact h.2 i y hy
  · rw [List.getElem?_append_right h1] at hy
    have h2 : i = l.length := by
      rcases Nat.lt_or_ge 0 (i - l.length) with h3 | h3
      · rw [List.getElem?_eq_none (by simp; omega)] at hy; cases hy
      · omega
    subst h2
    simp at hy; subst hy
    rw [List.take_left]; exact hf
theorem madeD_congr {l l' : List Lnk} {D D' : Int → List Atom} {c : Cm} (hD : ∀ p ∈ c.ps, D p = D' p) (hc : ∀ a b, c.ps = [a, b] → commL l a b = commL l' a b ∧ D ((commL l a b).headD 0) = D' ((commL l a b).headD 0)) : madeD l D c = madeD l' D' c := by
  unfold madeD
  split
  · rename_i a b e
    obtain ⟨h1, h2⟩ := hc a b e
    rw [← h1, h2, hD a (by rw [e]; simp), hD b (by rw [e]; simp)]
  · rename_i a e
    rw [hD a (by rw [e]; simp)]
  · rfl
/-- the head of the last common ones -/
theorem headD_mem {l : List Int} : l.headD 0 = 0 ∨ l.headD 0 ∈ l := by
  cases l <;> simp
theorem CsOk.snoc {cs : List Cm} {c : Cm} (h : CsOk cs (docsOf cs)) (hf : Fine (linksC cs) ⟨c.num, c.ps⟩) (hl : cs.length < 300) (hb : ∀ a b, c.ps = [a, b] → commL (linksC cs) a b ≠ []) (hs : ∀ o ∈ c.d, o.text.length ≤ 10000000000)
    (hd : DocB (docsOf (cs ++ [c]) c.num)) : CsOk (cs ++ [c]) (docsOf (cs ++ [c])) := by
  have hx := hf.fresh h.dag
  have hpos : 0 < c.num := by
    have h1 := hf.up
    have h2 : 0 ≤ lastOf (linksC cs) := by
      rw [lastOf]
      cases e : (linksC cs).getLast? with
      | none => simp
      | some y => have := h.dag.range y.num (List.mem_map_of_mem (List.mem_of_getLast? e)); simp; omega
    simp only at h1; omega
  have hold : ∀ k, k ∈ (linksC cs).map Lnk.num → docsOf (cs ++ [c]) k = docsOf cs k := fun k hk => by
    rw [docsOf_snoc]
    have : k ≠ c.num := fun e => hx (e ▸ hk)
    simp only [if_neg this]
  have hnil : docsOf (cs ++ [c]) 0 = docsOf cs 0 := by
    rw [docsOf_snoc]
    have : (0 : Int) ≠ c.num := by omega
    simp only [if_neg this]
  have key : ∀ c' : Cm, (∀ p ∈ c'.ps, p ∈ (linksC cs).map Lnk.num) → madeD (linksC cs) (docsOf cs) c' = madeD (linksC (cs ++ [c])) (docsOf (cs ++ [c])) c' := fun c' hp => by
    refine madeD_congr (fun p hpp => (hold p (hp p hpp)).symm) fun a b e => ?_
    have ha := hp a (by rw [e]; simp)
    have hb' := hp b (by rw [e]; simp)
    rw [linksC_snoc, commL_snoc h.dag hx ha hb']
    refine ⟨rfl, ?_⟩
    rcases headD_mem (l := commL (linksC cs) a b) with h1 | h1
    · rw [h1, hnil]
    · rw [hold _ (commL_mem h.dag ha _ h1)]
  have hdag : DagOk (linksC (cs ++ [c])) := by
    rw [linksC_snoc]
    exact h.dag.snoc hf (by simp [linksC]; omega)
  refine ⟨hdag, fun c' hc' a b e => ?_, fun c' hc' => ?_, fun c' hc' => ?_, fun n => ?_⟩
  · rw [linksC_snoc]
    rcases List.mem_append.1 hc' with h1 | h1
    · have hp := (h.dag.each ⟨c'.num, c'.ps⟩ (List.mem_map.2 ⟨c', h1, rfl⟩)).2.2
      rw [commL_snoc h.dag hx (hp a (by simp only; rw [e]; simp)) (hp b (by simp only; rw [e]; simp))]
      exact h.base c' h1 a b e
    · simp at h1; subst h1
      have hp := hf.there
      rw [commL_snoc h.dag hx (hp a (by simp only; rw [e]; simp)) (hp b (by simp only; rw [e]; simp))]
      exact hb a b e
  · rcases List.mem_append.1 hc' with h1 | h1
    · exact h.short c' h1
    · simp at h1; subst h1; exact hs
  · rcases List.mem_append.1 hc' with h1 | h1
    · have hp := (h.dag.each ⟨c'.num, c'.ps⟩ (List.mem_map.2 ⟨c', h1, rfl⟩)).2.2
      rw [hold c'.num (List.mem_map.2 ⟨⟨c'.num, c'.ps⟩, List.mem_map.2 ⟨c', h1, rfl⟩, rfl⟩), h.eq c' h1]
      exact key c' hp
    · simp at h1; subst h1
      have e : docsOf (cs ++ [c']) c'.num = madeD (linksC (cs ++ [c'])) (docsOf cs) c' := by
        rw [docsOf_snoc]; simp only [if_pos]
      rw [e]
      refine madeD_congr (fun p hpp => (hold p (hf.there p hpp)).symm) fun a b e => ⟨rfl, ?_⟩
      have ha := hf.there a (by simp only; rw [e]; simp)
      have hb' := hf.there b (by simp only; rw [e]; simp)
      rw [linksC_snoc, commL_snoc h.dag hx ha hb']
      rcases headD_mem (l := commL (linksC cs) a b) with h1 | h1
      · rw [h1, hnil]
      · rw [hold _ (commL_mem h.dag ha _ h1)]
  · by_cases e : n = c.num
    · subst e; exact hd
    · rw [docsOf_snoc]
      simp only [if_neg e]
      exact h.doc n
theorem CsOk.nil : CsOk [] (docsOf []) := ⟨⟨by simp [linksC], fun i x hx => by simp [linksC] at hx⟩, by simp, by simp, by simp, fun _ => DocB.nil⟩
/-- new atoms of a delta are fit for a document -/
theorem names_ok {o : Org} (ho : o.ok = true) : ∀ (l : List Nat) (n : Int), 0 ≤ n → n + l.length ≤ 1000 → (∀ p ∈ l, isPoint p = true) → ∀ q ∈ names o n l, PcOk q
  | [], _, _, _, _, q, h => by simp [names] at h
  | p :: r, n, h0, h1, hp, q, h => by
    simp only [List.length_cons] at h1
    rcases List.mem_cons.1 h with rfl | h2
    · exact ⟨ho, h0, by simp only; omega, hp p (by simp)⟩
    · exact names_ok ho r (n + 1) (by omega) (by omega) (fun x hx => hp x (by simp [hx])) q h2
theorem applyF_ok {o : Org} (ho : o.ok = true) : ∀ (ds : List DOp) (k : Nat) (fl : List Pc), (∀ p ∈ fl, PcOk p) → (∀ l, DOp.ins l ∈ ds → ∀ p ∈ l, isPoint p = true) → k + target ds ≤ 1000 → ∀ q ∈ applyF o k fl ds, PcOk q
  | [], _, _, _, _, _, q, h => by simp [applyF] at h
  | .keep n :: r, k, fl, hf, hi, ht, q, h => by
    simp only [target, List.map_cons, List.sum_cons, DOp.target] at ht
    rw [applyF, List.mem_append] at h
    rcases h with h | h
    · exact hf q (List.mem_of_mem_take h)
    · exact applyF_ok ho r k _ (fun p hp => hf p (List.mem_of_mem_drop hp)) (fun l hl => hi l (by simp [hl])) (by unfold target; omega) q h
  | .del n :: r, k, fl, hf, hi, ht, q, h => by
    simp only [target, List.map_cons, List.sum_cons, DOp.target] at ht
    rw [applyF] at h
    exact applyF_ok ho r k _ (fun p hp => hf p (List.mem_of_mem_drop hp)) (fun l hl => hi l (by simp [hl])) (by unfold target; omega) q h
  | .ins m :: r, k, fl, hf, hi, ht, q, h => by
    simp only [target, List.map_cons, List.sum_cons, DOp.target] at ht
    rw [applyF, List.mem_append] at h
    rcases h with h | h
    · exact names_ok ho m k (by omega) (by omega) (hi m (by simp)) q h
    · exact applyF_ok ho r _ fl hf (fun l hl => hi l (by simp [hl])) (by unfold target; omega) q h
theorem parseAll_ins {x : List Op} {ds : List DOp} (h : parseAll x = some ds) : ∀ l, DOp.ins l ∈ ds → ∀ p ∈ l, isPoint p = true := fun l hl => by
  obtain ⟨i, hi⟩ := List.getElem?_of_mem hl
  have hlt : i < x.length := by rw [← parseAll_length h]; exact (List.getElem?_eq_some_iff.1 hi).1
  obtain ⟨p, h1, h2⟩ := parseAll_get h hlt
  rw [hi] at h1; cases h1
  unfold Op.parse at h2
  split at h2
  · cases h2
  · split at h2
    · cases h2
    · split at h2
      · cases hp : points x[i].text with
        | none => rw [hp] at h2; cases h2
        | some m => rw [hp] at h2; cases h2; exact (encs_points hp).2
      · cases h2
theorem applyE_zero {d : List Atom} {x : List Op} {o : Org} (h : applyE d x o = 0) : Good d ∧ (lens x).2.2 = 0 ∧ ((lens x).1 : Int) = tlen (text d) ∧ o.ok = true ∧ o ∉ d.map (·.o) := by
  unfold applyE at h
  split at h
  · rename_i h1; exact absurd h h1
  · rename_i h1
    split at h
    · omega
    · split at h
      · omega
      · split at h
        · omega
        · split at h
          · omega
          · rename_i h2 h3 h4 h5
            exact ⟨(check_zero d).1 (by omega), by omega, by omega, by simpa using h4, h5⟩
theorem DocB.applied (d : List Atom) (x : List Op) (o : Org) : DocB (applied d x o) := by
  unfold Ox.applied
  split
  · rename_i h
    obtain ⟨hg, hl, _, ho, _⟩ := applyE_zero h
    obtain ⟨ds, h1, _, _, h3⟩ := lens_ok hl
    rw [h1, Option.getD_some]
    have hok := applyF_ok ho ds 0 (flat d) (flat_ok hg.canon.ok) (parseAll_ins h1) (by omega)
    have hr := runsOf_flat _ hok
    refine ⟨hr.1, ?_⟩
    rw [hr.2]
    have := applyF_length o ds 0 (flat d); omega
  · exact DocB.nil
theorem docsE_zero {base x y : List Atom} {nx ny : Int} (h : docsE base x y nx ny = 0) : Good base ∧ Good x ∧ Good y ∧ Mergeable (flat base) (flat x) (flat y) ∧ (mergePcs nx ny (flat base) (flat x) (flat y)).length ≤ 1000 := by
  unfold docsE at h
  split at h
  · omega
  · rename_i h1
    split at h
    · omega
    · rename_i h2
      split at h
      · omega
      · obtain ⟨g1, g2, g3⟩ := Classical.not_not.1 h1
        exact ⟨g1, g2, g3, Classical.not_not.1 h2, by omega⟩
theorem DocB.merged (base x y : List Atom) (nx ny : Int) : DocB (merged base x y nx ny) := by
  unfold Ox.merged
  split
  · rename_i h
    obtain ⟨g1, g2, g3, _, hl⟩ := docsE_zero h
    have hok : ∀ p ∈ mergePcs nx ny (flat base) (flat x) (flat y), PcOk p := fun p hp => by
      rcases mtake_mem hp with h1 | h1 | h1
      · exact flat_ok g1.canon.ok p h1
      · exact flat_ok g2.canon.ok p h1
      · exact flat_ok g3.canon.ok p h1
    have hr := runsOf_flat _ hok
    refine ⟨hr.1, ?_⟩
    rw [hr.2]; exact hl
  · exact DocB.nil
theorem DocB.made (l : List Lnk) (D : Int → List Atom) (c : Cm) : DocB (madeD l D c) := by
  unfold madeD
  split
  · exact DocB.merged ..
  · exact DocB.applied ..
  · exact DocB.applied ..
end Ox
end Go.Proofs.YthjgbmbaabpgmaaGreat
/-
  The machine: a commit put on a branch; a new branch.
-/
namespace Go.Proofs.YthjgbmbaabpgmaaGreat
open Go.Sy
set_option maxRecDepth 4000
set_option maxHeartbeats 4000000
/-- the machine's rows -/
abbrev RX (csv bsv ksv : Value) (zs : List CmV) (ys : List BrV) (ks : List Ox.Cl) (Ωl : List Itm) : List Itm := row 47 6 csv zs.length (zs.flatMap cmc) :: row 71 3 bsv ys.length (ys.flatMap brc) :: row 127 3 ksv ks.length (ks.flatMap clc) :: Ωl
/-- the machine whole -/
abbrev MX (m dm : Nat) (nc nb : Int) (csv bsv ksv : Value) (M : List (Int × Value)) (zs : List CmV) (ys : List BrV) (ks : List Ox.Cl) (Ωl : List Itm) : List Itm := cells m (mcc nc nb csv bsv ksv dm) 101 :: mapI key dm M :: RX csv bsv ksv zs ys ks Ωl
/-- a log that the machine owns -/
abbrev lgI (lv : Value) (log : List Int) : Itm := row 3 1 lv log.length (log.flatMap zc)
/-- a branch behind a new commit -/
def Ox.Br.put (b : Ox.Br) (n : Int) : Ox.Br := { b with log := b.log ++ [n] }
theorem flat_set {α : Type} {f : α → List Value} {m : Nat} (hf : ∀ a, (f a).length = m) {v : Value} {x x' : α} {k : Nat} (hk : k < m) (hx : (f x).set k v = f x') : ∀ (l : List α) (i : Nat), l[i]? = some x → (l.flatMap f).set (i * m + k) v = (l.set i x').flatMap f
  | [], i, h => by simp at h
  | a :: r, 0, h => by
    simp at h; subst h
    simp only [List.flatMap_cons, List.set_cons_zero]
    rw [Nat.zero_mul, Nat.zero_add, List.set_append_left _ _ (by rw [hf]; exact hk), hx]
  | a :: r, i + 1, h => by
    simp only [List.getElem?_cons_succ] at h
    simp only [List.flatMap_cons, List.set_cons_succ]
    have e : (i + 1) * m + k = (f a).length + (i * m + k) := by rw [hf, Nat.add_mul, Nat.one_mul]; omega
    rw [e, List.set_append_right _ _ (by omega), Nat.add_sub_cancel_left, flat_set hf hk hx r i h]
attribute [local irreducible] At Ops Val Eff Does Res Dr

theorem madd_does (m dm : Nat) (nc nb : Int) (csv bsv ksv : Value) (M : List (Int × Value)) (zs : List CmV) (ys : List BrV) (ks : List Ox.Cl) (ylv : Value) (i : Nat) (yb : Ox.Br) (hyi : ys[i]? = some ⟨yb, ylv⟩) (hne : yb.log ≠ [])
    (hnc : 0 ≤ nc ∧ nc ≤ 1000000000) (hzl : zs.length ≤ 1000000) (hyl : ys.length ≤ 1000000) (hll : yb.log.length ≤ 1000000) (bb cp : Nat) (hbs : bsv = .slice (some ⟨bb, 0, none⟩) ys.length cp)
    (x : Int) (ps : List Int) (zd zo : List Ox.Op) (cl sq : Int) (pv dv ov : Value) (hpl : ps.length ≤ 1000) (h : HV) (hps : ZsH h pv ps) (hds : OpsH h dv zd) (hos : OpsH h ov zo) :
    Does Tryz.prog 57 #[.pointer (some ⟨m, 0, none⟩), .pointer (some ⟨bb, 0 + i * 3, none⟩), .agg #[.int .i64 x, pv, dv, ov, .int .i64 cl, .int .i64 sq]] (MX m dm nc nb csv bsv ksv M zs ys ks [lgI ylv yb.log]) h
      (fun r Ω' h' => HV.le h h' ∧ r = .int .i64 nc ∧ ∃ csv' lv' pv', CmOk h' ⟨⟨nc, Ox.lastZ yb.log :: ps, zd, zo, cl, sq⟩, pv', dv, ov⟩ ∧ (∃ a c, lv' = .slice a (yb.log.length + 1) c) ∧
        Ω' = MX m dm (nc + 1) nb csv' bsv ksv M (zs ++ [⟨⟨nc, Ox.lastZ yb.log :: ps, zd, zo, cl, sq⟩, pv', dv, ov⟩]) (ys.set i ⟨yb.put nc, lv'⟩) ks [lgI lv' (yb.put nc).log]) := by
  subst hbs
  have hlt : i < ys.length := (List.getElem?_eq_some_iff.1 hyi).1
  obtain ⟨da, dcp, rfl⟩ := hds.form
  obtain ⟨oa, ocp, rfl⟩ := hos.form
  obtain ⟨pa, pcp, rfl⟩ := hps.form
  refine Does.row_reads 3 rfl fun hbr => ?_
  refine Does.row_reads 5 rfl fun hlr => ?_
  have hbR : RowRd brc 3 (RX csv (.slice (some ⟨bb, 0, none⟩) ys.length cp) ksv zs ys ks [lgI ylv yb.log]) h (.slice (some ⟨bb, 0, none⟩) ys.length cp) ys := Reads.mono hbr (HV.le.refl h) (by simp)
  have hlR : RowRd zc 1 (RX csv (.slice (some ⟨bb, 0, none⟩) ys.length cp) ksv zs ys ks [lgI ylv yb.log]) h ylv yb.log := Reads.mono hlr (HV.le.refl h) (by simp)
  obtain ⟨b0, o0, e0, _, _, hcy⟩ := RowRd.elem brc_length hbR hyi
  cases e0
  have htip := tip_does _ bb (0 + i * 3) ylv yb.log h (hcy 2 ylv rfl) hlR hne (by omega)
  clear hbr hlr hbR hlR
  unfold MX mcc
  refine Does.of Tryz.func57 rfl Tryz.ntmps57 rfl fun c hc0 => ?_
  refine goK _ ?_
  refine Ops.eff rfl rfl rfl (Eff.box rfl) fun _ => Ops.ex fun b5 => Ops.pure ?_
  rintro rfl
  refine goK _ ?_
  refine Ops.eff0 rfl rfl (E.store 0 rfl rfl rfl rfl rfl rfl rfl) fun _ => ?_
  refine goK _ ?_
  first | refine At.drawn mo (fun _ _ m => m.drew _) ?_ | refine At.seq (At.drawn mo (fun _ _ m => m.drew _) ?_)
  refine Dr.val 0 rfl rfl rfl rfl (by kernel_rfl) rfl (Val.move rfl) ?_
  refine Dr.val 3 rfl rfl rfl rfl (by kernel_rfl) rfl (V.fieldAddr rfl rfl) ?_
  refine Dr.valS 4 _ rfl rfl rfl rfl (by kernel_rfl) rfl (V.load rfl rfl (fun _ hh => hh)) (fun w hw => hw.cell (n := 0) rfl rfl) ?_
  refine Dr.next (e := 1) rfl rfl (by kernel_rfl) rfl (by kernel_rfl) (by kernel_rfl) rfl rfl (Eff.callP 3 (fn (by kernel_rfl)) rfl (Ωc := RX csv (.slice (some ⟨bb, 0, none⟩) ys.length cp) ksv zs ys ks [lgI ylv yb.log]) (Ωr := []) rfl htip) aokK fun _ => Dr.pure ?_
  rintro rfl
  refine Dr.next (e := 2) rfl rfl (by kernel_rfl) rfl (by kernel_rfl) (by kernel_rfl) rfl rfl (E.buildSlice1R rfl rfl rfl rfl) aokK fun _ => ?_
  refine Dr.ex fun bw => Dr.pure ?_
  rintro rfl
  refine Dr.next (e := 5) rfl rfl (by kernel_rfl) rfl (by kernel_rfl) (by kernel_rfl) rfl rfl (Eff.appendSlF (j := 0) (ap rfl) rfl rfl hps rfl (flat_one (fun _ => rfl) _) (by omega) (by omega)) aokK fun _ => ?_
  refine Dr.ex fun qa => Dr.ex fun qcp => Dr.pure ?_
  rintro rfl
  refine Dr.val 6 rfl rfl rfl rfl (by kernel_rfl) rfl (V.fieldAddr rfl rfl) ?_
  refine Dr.next0 (e := 7) rfl rfl (by kernel_rfl) rfl (by kernel_rfl) (by kernel_rfl) rfl (E.store 1 rfl rfl rfl rfl rfl rfl rfl) aokK fun _ => ?_
  refine Dr.done (by kernel_rfl) (by kernel_rfl) ?_
  refine At.publish_row 0 rfl fun h2 hle2 hsl => ?_
  have hzo : CmOk h2 ⟨⟨nc, Ox.lastZ yb.log :: ps, zd, zo, cl, sq⟩, .slice qa (1 + ps.length) qcp, .slice da zd.length dcp, .slice oa zo.length ocp⟩ := by
    refine ⟨?_, hds.mono hle2, hos.mono hle2⟩
    show SlH h2 (.slice qa (1 + ps.length) qcp) 1 (ps.length + 1) _
    rw [Nat.add_comm 1]
    rw [Nat.add_comm 1] at hsl
    exact hsl
  refine goK _ ?_
  refine Ops.eff0 rfl rfl (E.store 1 rfl rfl rfl rfl rfl rfl rfl) fun _ => ?_
  refine goK _ ?_
  first | refine At.drawn mo (fun _ _ m => m.drew _) ?_ | refine At.seq (At.drawn mo (fun _ _ m => m.drew _) ?_)
  refine Dr.val 0 rfl rfl rfl rfl (by kernel_rfl) rfl (Val.move rfl) ?_
  refine Dr.val 1 rfl rfl rfl rfl (by kernel_rfl) rfl (Val.move rfl) ?_
  refine Dr.val 2 rfl rfl rfl rfl (by kernel_rfl) rfl (Val.nilCheck rfl) ?_
  refine Dr.val 3 rfl rfl rfl rfl (by kernel_rfl) rfl (V.fieldAddr rfl rfl) ?_
  refine Dr.val 4 rfl rfl rfl rfl (by kernel_rfl) rfl (V.fieldAddr rfl rfl) ?_
  refine Dr.valS 5 _ rfl rfl rfl rfl (by kernel_rfl) rfl (V.load rfl rfl (fun _ hh => hh)) (fun w hw => hw.cell (n := 1) rfl rfl) ?_
  refine Dr.valS 6 _ rfl rfl rfl rfl (by kernel_rfl) rfl (V.loadN (cs := (cmc ⟨⟨nc, Ox.lastZ yb.log :: ps, zd, zo, cl, sq⟩, .slice qa (1 + ps.length) qcp, .slice da zd.length dcp, .slice oa zo.length ocp⟩)) rfl rfl rfl (fun _ hh => hh)) (fun w hw => hw.cellsAt (n := 0) rfl rfl) ?_
  refine Dr.next (e := 7) rfl rfl (by kernel_rfl) rfl (by kernel_rfl) (by kernel_rfl) rfl rfl (E.buildSlice1 rfl rfl rfl rfl) aokK fun _ => Dr.ex fun _ => Dr.pure ?_
  rintro rfl
  refine Dr.next (e := 8) rfl rfl (by kernel_rfl) rfl (by kernel_rfl) (by kernel_rfl) rfl rfl (E.append1s 3 rfl rfl rfl rfl rfl rfl (by omega) (by omega)) aokK fun _ => ?_
  refine Dr.ex fun g1 => Dr.ex fun cp1 => Dr.pure ?_
  rintro rfl
  refine Dr.val 9 rfl rfl rfl rfl (by kernel_rfl) rfl (Val.nilCheck rfl) ?_
  refine Dr.val 10 rfl rfl rfl rfl (by kernel_rfl) rfl (V.fieldAddr rfl rfl) ?_
  refine Dr.val 11 rfl rfl rfl rfl (by kernel_rfl) rfl (V.fieldAddr rfl rfl) ?_
  refine Dr.next0 (e := 12) rfl rfl (by kernel_rfl) rfl (by kernel_rfl) (by kernel_rfl) rfl (E.store 1 rfl rfl rfl rfl rfl rfl rfl) aokK fun _ => ?_
  refine Dr.done (by kernel_rfl) (by kernel_rfl) ?_
  have hyp : 0 < ys.length := by omega
  have hxl : (ys.flatMap brc).length = ys.length * 3 := flat_length brc 3 brc_length ys
  refine At.open_row 4 rfl hyp fun g acp rest hv hl1 hl2 hN hcp => ?_
  cases hv
  have hlog : (ys.flatMap brc ++ rest)[0 + i * 3 + 2]? = some ylv := by
    rw [Nat.zero_add, List.getElem?_append_left (by omega)]
    rw [flat_get brc 3 brc_length ys i 2 (by omega) _ hyi]; rfl
  refine goK _ ?_
  first | refine At.drawn mo (fun _ _ m => m.drew _) ?_ | refine At.seq (At.drawn mo (fun _ _ m => m.drew _) ?_)
  refine Dr.val 0 rfl rfl rfl rfl (by kernel_rfl) rfl (Val.move rfl) ?_
  refine Dr.val 1 rfl rfl rfl rfl (by kernel_rfl) rfl (Val.move rfl) ?_
  refine Dr.val 2 rfl rfl rfl rfl (by kernel_rfl) rfl (Val.nilCheck rfl) ?_
  refine Dr.val 3 rfl rfl rfl rfl (by kernel_rfl) rfl (V.fieldAddr rfl rfl) ?_
  refine Dr.valS 4 _ rfl rfl rfl rfl (by kernel_rfl) rfl (V.load rfl rfl (fun _ hh => hh)) (fun w hw => hw.cell (n := 4) (v := ylv) rfl hlog) ?_
  refine Dr.val 5 rfl rfl rfl rfl (by kernel_rfl) rfl (V.fieldAddr rfl rfl) ?_
  refine Dr.valS 6 _ rfl rfl rfl rfl (by kernel_rfl) rfl (V.load rfl rfl (fun _ hh => hh)) (fun w hw => hw.cell (n := 0) rfl rfl) ?_
  refine Dr.next (e := 7) rfl rfl (by kernel_rfl) rfl (by kernel_rfl) (by kernel_rfl) rfl rfl (E.buildSlice1 rfl rfl rfl rfl) aokK fun _ => Dr.ex fun _ => Dr.pure ?_
  rintro rfl
  refine Dr.next (e := 8) rfl rfl (by kernel_rfl) rfl (by kernel_rfl) (by kernel_rfl) rfl rfl (E.append1s 6 rfl rfl rfl rfl rfl rfl (by omega) (by omega)) aokK fun _ => ?_
  refine Dr.ex fun g2 => Dr.ex fun cp2 => Dr.pure ?_
  rintro rfl
  refine Dr.val 9 rfl rfl rfl rfl (by kernel_rfl) rfl (Val.nilCheck rfl) ?_
  refine Dr.val 10 rfl rfl rfl rfl (by kernel_rfl) rfl (V.fieldAddr rfl rfl) ?_
  refine Dr.next0 (e := 11) rfl rfl (by kernel_rfl) rfl (by kernel_rfl) (by kernel_rfl) rfl (E.store 4 rfl rfl rfl rfl rfl (by simp [hxl]; omega) rfl) aokK fun _ => ?_
  refine Dr.done (by kernel_rfl) (by kernel_rfl) ?_
  refine At.close_row (N := ys.length) (xs := (ys.set i ⟨yb.put nc, .slice (some ⟨g2, 0, none⟩) (yb.log.length + 1) cp2⟩).flatMap brc) (rest := rest) (cp := cp) (e := 71) (size := 3) (g := bb) 4 ?_ ?_ ?_ hN hcp ?_
  · refine congrArg (fun z => some (cells bb z 71)) ?_
    show (ys.flatMap brc ++ rest).set (0 + i * 3 + 2) (.slice (some ⟨g2, 0, none⟩) (yb.log.length + 1) cp2) = _
    rw [Nat.zero_add, List.set_append_left _ _ (by omega)]
    congr 1
    exact flat_set brc_length (by omega) rfl ys i hyi
  · rw [flat_length brc 3 brc_length, List.length_set]
  · rw [← hl2, List.length_append, List.length_append, flat_length brc 3 brc_length, flat_length brc 3 brc_length, List.length_set]
  refine goK _ ?_
  refine At.ret1 Tryz.results57 (Res.tmp rfl) (Ω' := MX m dm (nc + 1) nb (.slice (some ⟨g1, 0, none⟩) (zs.length + 1) cp1) (.slice (some ⟨bb, 0, none⟩) ys.length cp) ksv M (zs ++ [⟨⟨nc, Ox.lastZ yb.log :: ps, zd, zo, cl, sq⟩, .slice qa (1 + ps.length) qcp, .slice da zd.length dcp, .slice oa zo.length ocp⟩]) (ys.set i ⟨yb.put nc, .slice (some ⟨g2, 0, none⟩) (yb.log.length + 1) cp2⟩) ks [lgI (.slice (some ⟨g2, 0, none⟩) (yb.log.length + 1) cp2) (yb.put nc).log]) ?_ ⟨hc0.symm ▸ hle2, rfl, _, _, _, hzo, ⟨_, _, rfl⟩, rfl⟩
  unfold MX RX mcc lgI Ox.Br.put
  rw [List.length_append, List.flatMap_append, List.length_set, List.length_append, List.flatMap_append]
  exact List.sublist_cons_self _ _
end Go.Proofs.YthjgbmbaabpgmaaGreat
