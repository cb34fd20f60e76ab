/-
  What holds of a state holds of the next one.
-/
import Derived.Test.YthjgbmbaabpgmaaGreatSrd37
import Derived.Test.YthjgbmbaabpgmaaGreatSrd40
import Derived.Test.YthjgbmbaabpgmaaGreatSrd05
import Derived.Test.YthjgbmbaabpgmaaGreatSrd22
import Derived.Test.YthjgbmbaabpgmaaGreatSrd31
set_option linter.unusedVariables false
set_option linter.unusedSimpArgs false
set_option linter.unusedSectionVars false
namespace Go.Proofs.YthjgbmbaabpgmaaGreat
open Go.Sy
set_option maxRecDepth 4000
set_option maxHeartbeats 4000000
namespace Ox
theorem sorted_len {l : List Int} {n : Nat} (hs : l.Pairwise (· < ·)) (hr : ∀ a ∈ l, 0 < a ∧ a < (n : Int)) (hn : 1 ≤ n) : l.length ≤ n - 1 := by
  have h1 := nodup_le (V := (List.range (n - 1)).map fun (k : Nat) => (k : Int) + 1) (hs.imp fun {a b} hab => by omega) fun a ha => by
    have := hr a ha
    exact List.mem_map.2 ⟨(a - 1).toNat, List.mem_range.2 (by omega), by omega⟩
  simpa using h1
theorem Inv.len {N : Nat} {s : St} (h : Inv N s) : (s.cs.length : Int) < s.nc := by
  have h1 := dag_sorted h.cs.dag
  rw [linksC_num] at h1
  have hnc := h.nc
  have := sorted_len (n := s.nc.toNat) h1 (fun a ha => by
    have h2 := h.pos ha
    obtain ⟨c, hc, rfl⟩ := List.mem_map.1 ha
    have := h.num c hc; omega) (by omega)
  rw [List.length_map] at this; omega
theorem Inv.lt {N : Nat} {s : St} (h : Inv N s) {n : Int} (hn : n ∈ s.cs.map Cm.num) : n < s.nc := by
  obtain ⟨c, hc, rfl⟩ := List.mem_map.1 hn
  exact h.num c hc
theorem Inv.last {N : Nat} {s : St} (h : Inv N s) : lastOf (linksC s.cs) < s.nc := by
  have hnc := h.nc
  rw [lastOf]
  cases e : (linksC s.cs).getLast? with
  | none => simp; omega
  | some y =>
    have : y.num ∈ (linksC s.cs).map Lnk.num := List.mem_map_of_mem (List.mem_of_getLast? e)
    rw [linksC_num] at this
    exact h.lt this
theorem ancs_iff {l : List Lnk} (h : DagOk l) {n : Int} (hn : n ∈ l.map Lnk.num) (k : Int) : k ∈ ancs l n ↔ Reach (upOf l) n k := by
  classical
  have hA : Ancs l n ((l.map Lnk.num).filter fun k => decide (Reach (upOf l) n k)) := by
    refine ⟨(dag_sorted h).sublist List.filter_sublist, fun k => ?_⟩
    rw [List.mem_filter]
    simp only [decide_eq_true_eq]
    exact ⟨fun hh => hh.2, fun hh => ⟨h.reach hn k hh, hh⟩⟩
  rw [hA.eq]
  exact hA.mem k
theorem Inv.addC {N : Nat} {s : St} (h : Inv N s) {i : Nat} {b : Br} (hi : s.bs[i]? = some b) (hnc : s.nc ≤ 300) {ps : List Int} {d o : List Op} {cl sq : Int} (hps : ps = [] ∨ ∃ y, ps = [y] ∧ y ∈ s.cs.map Cm.num ∧ y ≠ lastZ b.log ∧ commL (linksC s.cs) (lastZ b.log) y ≠ [])
    (hd : ∀ p ∈ d, p.text.length ≤ 10000000000) (hdl : d.length ≤ 100000) (hol : o.length ≤ 100000) : Inv (N + 1) (s.addC i b ps d o cl sq) := by
  have hbm : b ∈ s.bs := List.mem_of_getElem? hi
  have htip := h.tip hbm
  have hlog := h.logs b hbm
  have h1 := h.nc
  have hcl := h.len
  have hlst := h.last
  have hfine : Fine (linksC s.cs) ⟨s.nc, lastZ b.log :: ps⟩ := by
    refine ⟨hlst, hnc, ?_, ?_, fun p hp => ?_⟩
    · rcases hps with rfl | ⟨y, rfl, _⟩ <;> simp
    · unfold Lnk.twice
      rw [decide_eq_false_iff_not]
      rcases hps with rfl | ⟨y, rfl, _, hne, _⟩
      · simp
      · simp only [List.length_cons, List.length_nil, List.getElem?_cons_zero, List.getElem?_cons_succ, Option.some.injEq, not_and]
        exact fun _ e => hne e.symm
    · rw [linksC_num]
      rcases List.mem_cons.1 hp with rfl | hp
      · exact htip
      · rcases hps with rfl | ⟨y, rfl, hy, _⟩
        · simp at hp
        · simp at hp; subst hp; exact hy
  have hcs : CsOk (s.cs ++ [⟨s.nc, lastZ b.log :: ps, d, o, cl, sq⟩]) (docsOf (s.cs ++ [⟨s.nc, lastZ b.log :: ps, d, o, cl, sq⟩])) := by
    refine h.cs.snoc hfine (by omega) (fun x y e => ?_) hd ?_
    · rcases hps with rfl | ⟨z, rfl, _, _, hc⟩
      · simp at e
      · simp only [List.cons.injEq, and_true] at e
        obtain ⟨rfl, rfl⟩ := e
        exact hc
    · rw [docsOf_snoc]; simp only [if_pos]; exact DocB.made _ _ _
  refine ⟨hcs, fun c hc => ?_, ⟨by show 1 ≤ s.nc + 1; omega, by show s.nc + 1 ≤ 301; omega⟩, ⟨h.nb.1, by have := h.nb.2; show s.nb ≤ _; omega⟩, fun c hc => ?_, ?_, fun b' hb' => ?_, fun b' hb' => ?_, h.ksort, fun k hk => ?_⟩
  · show c.num < s.nc + 1
    rcases List.mem_append.1 hc with h2 | h2
    · have := h.num c h2; omega
    · simp at h2; subst h2; show s.nc < s.nc + 1; omega
  · rcases List.mem_append.1 hc with h2 | h2
    · exact h.sane c h2
    · simp at h2; subst h2; exact ⟨hdl, hol⟩
  · show (s.bs.set i (b.put s.nc)).length ≤ 20
    rw [List.length_set]; exact h.few
  · have hcn : (s.addC i b ps d o cl sq).cs.map Cm.num = s.cs.map Cm.num ++ [s.nc] := by simp [St.addC]
    rw [hcn]
    rcases List.mem_or_eq_of_mem_set hb' with h2 | rfl
    · have h3 := h.logs b' h2
      exact ⟨h3.1, h3.2.1, fun n hn => List.mem_append_left _ (h3.2.2 n hn)⟩
    · refine ⟨by simp [Br.put], ?_, fun n hn => ?_⟩
      · simp only [Br.put]
        rw [List.pairwise_append]
        refine ⟨hlog.2.1, by simp, fun x hx y hy => ?_⟩
        simp at hy; subst hy
        exact h.lt (hlog.2.2 x hx)
      · simp only [Br.put] at hn
        rcases List.mem_append.1 hn with h3 | h3
        · exact List.mem_append_left _ (hlog.2.2 n h3)
        · exact List.mem_append_right _ h3
  · show b'.id < s.nb
    rcases List.mem_or_eq_of_mem_set hb' with h2 | rfl
    · exact h.ids b' h2
    · exact h.ids b hbm
  · have := h.ks k hk; omega
theorem Inv.up {N : Nat} {s : St} (h : Inv N s) : Inv (N + 1) s :=
  ⟨h.cs, h.num, h.nc, ⟨h.nb.1, by have := h.nb.2; omega⟩, h.sane, h.few, h.logs, h.ids, h.ksort, fun k hk => by have := h.ks k hk; omega⟩
theorem Inv.addB {N : Nat} {s : St} (h : Inv N s) (hf : s.bs.length < 20) {n : List UInt8} {first : Int} (hfi : first ∈ s.cs.map Cm.num) : Inv (N + 1) (s.addB n first) := by
  refine ⟨h.cs, h.num, h.nc, ⟨by show 1 ≤ s.nb + 1; have := h.nb.1; omega, by show s.nb + 1 ≤ _; have := h.nb.2; omega⟩, h.sane, ?_, fun b hb => ?_, fun b hb => ?_, h.ksort, fun k hk => by have := h.ks k hk; omega⟩
  · show (s.bs ++ [_]).length ≤ 20
    simp; omega
  · rcases List.mem_append.1 hb with h2 | h2
    · exact h.logs b h2
    · simp at h2; subst h2; exact ⟨by simp, by simp, fun n hn => by simp at hn; subst hn; exact hfi⟩
  · show b.id < s.nb + 1
    rcases List.mem_append.1 hb with h2 | h2
    · have := h.ids b h2; omega
    · simp at h2; subst h2; show s.nb < s.nb + 1; omega
theorem Inv.addE {N : Nat} {s : St} (h : Inv N s) (hnc : s.nc ≤ 300) : Inv N s.addE := by
  have h1 := h.nc
  have hcl := h.len
  have hcs : CsOk (s.cs ++ [⟨s.nc, [], [], [], 0, 0⟩]) (docsOf (s.cs ++ [⟨s.nc, [], [], [], 0, 0⟩])) := by
    refine h.cs.snoc ⟨h.last, hnc, by simp, by simp [Lnk.twice], by simp⟩ (by omega) (fun x y e => by simp at e) (by simp) ?_
    rw [docsOf_snoc]; simp only [if_pos]; exact DocB.made _ _ _
  refine ⟨hcs, fun c hc => ?_, ⟨by show 1 ≤ s.nc + 1; omega, by show s.nc + 1 ≤ 301; omega⟩, h.nb, fun c hc => ?_, h.few, fun b hb => ?_, h.ids, h.ksort, h.ks⟩
  · show c.num < s.nc + 1
    rcases List.mem_append.1 hc with h2 | h2
    · have := h.num c h2; omega
    · simp at h2; subst h2; show s.nc < s.nc + 1; omega
  · rcases List.mem_append.1 hc with h2 | h2
    · exact h.sane c h2
    · simp at h2; subst h2; simp
  · have h3 := h.logs b hb
    have hcn : s.addE.cs.map Cm.num = s.cs.map Cm.num ++ [s.nc] := by simp [St.addE]
    rw [hcn]
    exact ⟨h3.1, h3.2.1, fun n hn => List.mem_append_left _ (h3.2.2 n hn)⟩
/-- a delta that is small -/
def Tame (d : List Op) : Prop := Sane d ∧ d.length ≤ 2000
theorem tame_nil : Tame [] := ⟨fun o ho => by simp at ho, by simp⟩
theorem tame_norm {d : List Op} {ds : List DOp} (h : (lens d).2.2 = 0) (hp : parseAll d = some ds) : Tame (norm ds) := by
  obtain ⟨_, h2, h3⟩ := lens_of h hp
  obtain ⟨_, _, _, _, h5⟩ := lens_norm h2 h3 (parseAll_ins hp)
  exact ⟨norm_sane ds h2 h3, h5⟩
theorem tame_delta (x l : List Atom) : Tame (deltaOf x l) := by
  unfold deltaOf
  split
  · rename_i h
    obtain ⟨ds, hp, _⟩ := lens_ok h.2.2.2
    rw [hp, Option.getD_some]
    exact tame_norm h.2.2.2 hp
  · exact tame_nil
theorem tame_trans (a b : List Op) (f : Bool) : Tame (transD a b f) := by
  unfold transD
  split
  · rename_i h
    obtain ⟨ds, hp, _⟩ := lens_ok h
    rw [hp, Option.getD_some]
    exact tame_norm h hp
  · exact tame_nil
theorem MovR.tame {s : St} {d d' : List Op} {l : List Int} {e : Int} (h : MovR s d l e d') : Tame d → Tame d' := by
  induction h with
  | nil d => exact id
  | bad _ _ _ => exact fun _ => tame_nil
  | more _ _ _ _ ih => exact fun _ => ih (tame_trans _ _ _)
theorem Tame.short {d : List Op} (h : Tame d) : ∀ p ∈ d, p.text.length ≤ 10000000000 := fun p hp => by have := (h.1 p hp).2.2; omega
theorem diffOut_len {x y : List Nat} {g : Gp} (h : DiffR x y x.length y.length g) (hx : x.length ≤ 1000) : (diffOut y g).length ≤ 4000 := by
  have h1 := h.le
  have h2 := gap3_length y y.length g
  unfold diffOut
  split
  · rw [List.length_append]; simp; omega
  · omega
/-- a request keeps it -/
theorem Inv.done {N : Nat} {s s' : St} {q : Rq} {k : Int} {r : Rp} (h : Inv N s) (hr : HdR s q k 0 s' r) : Inv (N + 1) s' := by
  generalize he : (0 : Int) = e at hr
  cases hr with
  | createE h1 => exact absurd he.symm h1
  | create h1 =>
    unfold Ox.createE at h1
    split at h1
    · omega
    · split at h1
      · omega
      · rename_i h2 h3
        exact (h.addE (by omega)).addB (by show s.bs.length < 20; omega) (by simp [St.addE])
  | forkE h1 => exact absurd he.symm h1
  | fork h1 =>
    unfold Ox.forkE at h1
    split at h1
    · omega
    · split at h1
      · omega
      · split at h1
        · omega
        · rename_i h2 h3 h4
          exact h.addB (by omega) (Classical.not_not.1 h3)
  | loadE h1 => exact absurd he.symm h1
  | load i b x y g h1 ha hx hy hd =>
    unfold Ox.loadE at h1
    split at h1
    · omega
    · split at h1
      · omega
      · split at h1
        · omega
        · rename_i h2 h3 h4
          have hxl : x.length ≤ 1000 := by
            have h5 := (h.cs.doc (lastZ b.log))
            have h6 := h5.tlen
            rw [Ox.tlen] at h6
            rw [show text (docsOf s.cs (lastZ b.log)) = text (s.doc (lastZ b.log)) from rfl, hx] at h6
            have := h5.few
            simp only at h6; omega
          have hyl : y.length ≤ 1000 := by rw [Ox.tlen, hy] at h3; simp only at h3; omega
          exact h.addC ha.get (by omega) (.inl rfl) (fun p hp => by have := hd.fin hyl p hp; omega) (by have := diffOut_len hd hxl; omega) (by simp)
  | editE i b ha h1 => exact absurd he.symm h1
  | edit i b ds ha h1 hp =>
    unfold Ox.editE at h1
    split at h1
    · omega
    · split at h1
      · omega
      · split at h1
        · omega
        · rename_i h2 h3 h4
          have ht := tame_norm (d := q.d) (by omega) hp
          exact h.addC ha.get (by omega) (.inl rfl) ht.short (by have := ht.2; omega) (by simp)
  | mergeN _ => cases he
  | mergeO _ _ => cases he
  | mergeE i j b o _ _ _ h1 => exact absurd he.symm h1
  | merge0 i j b o _ _ _ _ => exact h.up
  | merge i j b o c hnm ha hao hny h1 hc =>
    have hbm : b ∈ s.bs := List.mem_of_getElem? ha.get
    have hom : o ∈ s.bs := List.mem_of_getElem? hao.get
    have hnc : s.nc ≤ 300 := by
      unfold Ox.mergeX at h1
      rw [if_neg hny, hc] at h1
      simp only at h1
      split at h1
      · omega
      · split at h1
        · omega
        · omega
    have hxm : lastZ b.log ∈ (linksC s.cs).map Lnk.num := by rw [linksC_num]; exact h.tip hbm
    have t1 := tame_delta (s.doc (lastZ b.log)) (merged (s.doc c) (s.doc (lastZ b.log)) (s.doc (lastZ o.log)) (lastZ b.log) (lastZ o.log))
    have t2 := tame_delta (s.doc (lastZ o.log)) (merged (s.doc c) (s.doc (lastZ b.log)) (s.doc (lastZ o.log)) (lastZ b.log) (lastZ o.log))
    refine h.addC ha.get hnc (.inr ⟨_, rfl, h.tip hom, fun e => hny ?_, ?_⟩) t1.short (by have := t1.2; omega) (by have := t2.2; omega)
    · rw [e]; exact (ancs_iff h.cs.dag hxm _).2 .refl
    · show commL s.lnk _ _ ≠ []
      rw [hc]; simp
  | renameE h1 => exact absurd he.symm h1
  | rename i b h1 ha =>
    have h2 := h.up
    refine ⟨h2.cs, h2.num, h2.nc, h2.nb, h2.sane, by show (s.bs.set i _).length ≤ 20; rw [List.length_set]; exact h.few, fun b' hb' => ?_, fun b' hb' => ?_, h2.ksort, h2.ks⟩
    · rcases List.mem_or_eq_of_mem_set hb' with h3 | rfl
      · exact h.logs b' h3
      · exact h.logs b (List.mem_of_getElem? ha.get)
    · rcases List.mem_or_eq_of_mem_set hb' with h3 | rfl
      · exact h.ids b' h3
      · exact h.ids b (List.mem_of_getElem? ha.get)
  | remove i b ha =>
    have h2 := h.up
    exact ⟨h2.cs, h2.num, h2.nc, h2.nb, h2.sane, Nat.le_trans (List.length_filter_le _ _) h.few, fun b' hb' => h.logs b' (List.mem_filter.1 hb').1, fun b' hb' => h.ids b' (List.mem_filter.1 hb').1, h2.ksort, h2.ks⟩
  | read i b ha => exact h.up
  | blame i b ha => exact h.up
  | log i b ha => exact h.up
  | tip i b ha => exact h.up
theorem Inv.req {N : Nat} {s s' : St} {q : Rq} {r : Rp} (h : Inv N s) (hr : DoR s q 0 s' r) : Inv (N + 1) s' := by
  generalize he : (0 : Int) = e at hr
  cases hr with
  | arg _ => cases he
  | name _ _ => cases he
  | none _ _ _ _ _ => cases he
  | bad _ _ _ h1 => exact absurd he.symm h1
  | done _ _ h1 => exact h.done h1
theorem mem_takeW {α : Type} {p : α → Bool} : ∀ {l : List α} {x : α}, x ∈ l.takeWhile p → p x = true
  | a :: r, x, h => by
    by_cases ha : p a = true
    · rw [List.takeWhile_cons_of_pos ha] at h
      rcases List.mem_cons.1 h with rfl | h
      · exact ha
      · exact mem_takeW h
    · rw [List.takeWhile_cons_of_neg ha] at h; simp at h
theorem take_drop_note {ks : List Cl} {x : Ms} (hs : (ks.map Cl.c).Pairwise (· < ·)) : ((note ks x).map Cl.c).Pairwise (· < ·) ∧ ∀ k ∈ note ks x, k = ⟨x.client, x.branch, x.seq⟩ ∨ k ∈ ks := by
  have hs' : ks.Pairwise fun a b => a.c < b.c := List.pairwise_map.1 hs
  refine ⟨?_, fun k hk => ?_⟩
  · rw [List.pairwise_map]
    unfold note
    rw [List.pairwise_append, List.pairwise_cons]
    have hdrop : ∀ b ∈ ks.dropWhile (fun k => decide (k.c ≤ x.client)), x.client < b.c := by
      intro b hb
      cases hd : ks.dropWhile (fun k => decide (k.c ≤ x.client)) with
      | nil => rw [hd] at hb; simp at hb
      | cons a r =>
        have ha : ¬ (a.c ≤ x.client) := by
          have := List.head_dropWhile_not (fun k : Cl => decide (k.c ≤ x.client)) (l := ks) (by rw [hd]; simp)
          simp only [hd, List.head_cons] at this
          simpa using this
        rw [hd] at hb
        have hp : (a :: r).Pairwise fun a b => a.c < b.c := by rw [← hd]; exact hs'.sublist (List.dropWhile_sublist _)
        rcases List.mem_cons.1 hb with rfl | hb
        · omega
        · have := (List.pairwise_cons.1 hp).1 b hb; omega
    have htake : ∀ b ∈ ks.takeWhile (fun k => decide (k.c < x.client)), b.c < x.client := fun b hb => by
      have := mem_takeW hb
      simpa using this
    refine ⟨hs'.sublist (List.takeWhile_sublist _), ⟨fun b hb => hdrop b hb, hs'.sublist (List.dropWhile_sublist _)⟩, fun a ha b hb => ?_⟩
    have h1 := htake a ha
    rcases List.mem_cons.1 hb with rfl | hb
    · exact h1
    · have := hdrop b hb; omega
  · unfold note at hk
    rcases List.mem_append.1 hk with h1 | h1
    · exact .inr ((List.takeWhile_sublist _).subset h1)
    · rcases List.mem_cons.1 h1 with h2 | h2
      · exact .inl h2
      · exact .inr ((List.dropWhile_sublist _).subset h2)
theorem lastE_cases (ks : List Cl) (c br : Int) : (∀ k ∈ ks, k.c ≠ c) ∧ lastE ks c br = ⟨0, br, 0⟩ ∨ lastE ks c br ∈ ks ∧ (lastE ks c br).c = c := by
  unfold lastE
  cases hf : ks.find? (fun k => decide (k.c = c)) with
  | none => exact .inl ⟨fun k hk e => by have := List.find?_eq_none.1 hf k hk; simp [e] at this, rfl⟩
  | some k => exact .inr ⟨List.mem_of_find?_eq_some hf, by have := List.find?_some hf; simpa using this⟩
theorem takenE_zero {k : Cl} {b : Br} {x : Ms} (h : takenE k b x = 0) : k.b = x.branch ∧ x.seq = k.s + 1 ∧ 0 ≤ x.rev ∧ x.rev < (b.log.length : Int) := by
  unfold takenE at h
  split at h
  · omega
  · split at h
    · omega
    · split at h
      · omega
      · split at h
        · omega
        · rename_i h1 h2 h3 h4
          exact ⟨Classical.not_not.1 h1, by omega, by omega, by omega⟩
/-- a client's edit keeps it -/
theorem Inv.edt {N : Nat} {s s' : St} {x : Ms} (h : Inv N s) (hr : EdR s x 0 s') : Inv (N + 1) s' := by
  generalize he : (0 : Int) = e at hr
  cases hr with
  | arg _ => cases he
  | none _ _ => cases he
  | not i b _ _ h1 => exact absurd he.symm h1
  | form i b _ _ _ h1 => omega
  | length i b n _ _ _ _ _ _ => cases he
  | long i b n ds d _ _ _ _ _ _ _ _ => cases he
  | full i b n ds d _ _ _ _ _ _ _ _ _ => cases he
  | done i b n ds d hx ha ht hl hn hb hp hm hf =>
    have htm := hm.tame (tame_norm hl hp)
    have h1 : Inv (N + 1) (s.addC i b [] d [] x.client x.seq) := h.addC ha.get (by omega) (.inl rfl) htm.short (by have := htm.2; omega) (by simp)
    obtain ⟨h2, h3⟩ := take_drop_note (x := x) h.ksort
    obtain ⟨_, h4, _, _⟩ := takenE_zero ht
    refine ⟨h1.cs, h1.num, h1.nc, h1.nb, h1.sane, h1.few, h1.logs, h1.ids, h2, fun k hk => ?_⟩
    rcases h3 k hk with rfl | h5
    · have h6 : 0 ≤ (lastE s.ks x.client x.branch).s ∧ (lastE s.ks x.client x.branch).s ≤ (N : Int) := by
        rcases lastE_cases s.ks x.client x.branch with ⟨_, h7⟩ | ⟨h7, _⟩
        · rw [h7]; simp
        · have := h.ks _ h7; omega
      refine ⟨hx.2.1, hx.2.2, ?_, ?_⟩
      · show 0 ≤ x.seq; omega
      · show x.seq ≤ _; omega
    · have := h.ks k h5; omega
theorem Inv.new : Inv 0 St.new := ⟨CsOk.nil, by simp [St.new], by simp [St.new], by simp [St.new], by simp [St.new], by simp [St.new], by simp [St.new], by simp [St.new], by simp [St.new], by simp [St.new]⟩
end Ox
end Go.Proofs.YthjgbmbaabpgmaaGreat
/-
  The document of a commit of a state.
-/
namespace Go.Proofs.YthjgbmbaabpgmaaGreat
open Go.Sy
set_option maxRecDepth 4000
set_option maxHeartbeats 4000000
attribute [local irreducible] At Ops Val Eff Does Res Dr

theorem StDoc_does (v : Value) (s : Ox.St) (h : HV) (hv : StH h v s) (hC : Ox.CsOk s.cs (Ox.docsOf s.cs)) (n : Int) (hni : I64 n) :
    Does Tryz.prog 15 #[v, .int .i64 n] [] h (fun r Ω' h' => Ω' = [] ∧ HV.le h h' ∧ ((n ∈ s.cs.map Ox.Cm.num ∧ ∃ u, r = .tuple #[u, .int .i64 0] ∧ AtsH h' u (s.doc n)) ∨ (n ∉ s.cs.map Ox.Cm.num ∧ r = .tuple #[.slice none 0 0, .int .i64 192]))) := by
  obtain ⟨zs, ys, csv, bsv, ksv, hx⟩ := hv
  obtain rfl := hx.val
  obtain ⟨ca, ccp, rfl⟩ := hx.crow.form
  obtain ⟨ba, bcp, rfl⟩ := hx.brow.form
  obtain ⟨ka, kcp, rfl⟩ := hx.krow.form
  have hcs := hx.cs
  have hdag : Ox.DagOk (Ox.linksC (zs.map CmV.c)) := by rw [hcs]; exact hC.dag
  have hcm := fun m dm => commit_does [mapI key dm []] m s.nc s.nb (.slice ca zs.length ccp) (.slice ba ys.length bcp) (.slice ka s.ks.length kcp) dm zs h (Reads.ofH hx.crow) hx.cok (CsNums hdag) n hni
  have hdc := fun m dm hn => doc_does [] m s.nc s.nb (.slice ca zs.length ccp) (.slice ba ys.length bcp) (.slice ka s.ks.length kcp) dm zs (Ox.docsOf s.cs) [] n hn h (Reads.ofH hx.crow) hx.cok (by rw [hcs]; exact hC) (DocMap.nil _ _)
  refine Does.of Tryz.func15 rfl Tryz.ntmps15 rfl fun c hc0 => ?_
  refine goK _ ?_
  refine Ops.eff rfl rfl rfl (Eff.box rfl) fun _ => Ops.ex fun b2 => Ops.pure ?_
  rintro rfl
  refine goK _ ?_
  refine Ops.eff rfl rfl rfl (Eff.call (fn (by kernel_rfl)) rfl (Ωc := []) rfl (on_does s.nc s.nb _ _ _ h)) fun _ => Ops.ex fun _ => Ops.ex fun _ => Ops.pure ?_
  rintro ⟨⟨m, dm, rfl, rfl⟩, rfl⟩
  refine goK _ ?_
  refine Ops.eff rfl rfl rfl (Eff.callAt 0 (fn (by kernel_rfl)) rfl (Ωc := [cells m (mcc s.nc s.nb (.slice ca zs.length ccp) (.slice ba ys.length bcp) (.slice ka s.ks.length kcp) dm) 101, mapI key dm []]) rfl (hcm m dm)) fun _ => Ops.ex fun _ => Ops.ex fun _ => Ops.pure ?_
  rintro ⟨hcp, rfl, rfl⟩
  rename_i rc
  rcases hcp with ⟨z, hz, hzn, rfl⟩ | ⟨hno, rfl⟩
  · have hin : n ∈ zs.map fun z => z.c.num := List.mem_map.2 ⟨z, hz, hzn⟩
    have hin' : n ∈ s.cs.map Ox.Cm.num := by rw [← hcs, List.map_map]; exact hin
    refine Ops.val rfl rfl rfl (Val.move rfl) ?_
    refine Ops.val rfl rfl rfl (Val.extract rfl rfl) ?_
    refine Ops.val rfl rfl rfl (Val.extract rfl rfl) ?_
    refine Ops.eff rfl rfl rfl (E.alloc rfl) fun _ => Ops.ex fun b7 => Ops.pure ?_
    rintro rfl
    refine Ops.eff0 rfl rfl (E.store 0 rfl rfl rfl rfl rfl rfl (hx.cok z hz).one) fun _ => ?_
    refine goK _ ?_
    refine Ops.eff rfl rfl rfl (Eff.callAt 1 (fn (by kernel_rfl)) rfl (Ωc := [cells m (mcc s.nc s.nb (.slice ca zs.length ccp) (.slice ba ys.length bcp) (.slice ka s.ks.length kcp) dm) 101, mapI key dm []]) rfl (hdc m dm hin)) fun _ => Ops.ex fun _ => Ops.ex fun _ => Ops.pure ?_
    rintro ⟨hle, M', rfl, hr, _⟩
    rename_i r1 h1 _
    refine goK _ ?_
    exact At.ret2 Tryz.results15 (Res.tmp rfl) (Res.tmp rfl) (List.nil_sublist _) ⟨rfl, hc0.symm ▸ hle, .inl ⟨hin', _, rfl, hr⟩⟩
  · have hin' : n ∉ s.cs.map Ox.Cm.num := fun hm => by
      rw [← hcs, List.map_map] at hm
      obtain ⟨z, hz, e⟩ := List.mem_map.1 hm
      exact hno z hz e
    refine Ops.val rfl rfl rfl (Val.move rfl) ?_
    refine Ops.val rfl rfl rfl (Val.extract rfl rfl) ?_
    refine Ops.val rfl rfl rfl (Val.extract rfl rfl) ?_
    refine Ops.eff rfl rfl rfl (E.alloc rfl) fun _ => Ops.ex fun b7 => Ops.pure ?_
    rintro rfl
    refine Ops.eff0 rfl rfl (E.store 0 rfl rfl rfl rfl rfl rfl rfl) fun _ => ?_
    refine goK _ ?_
    exact At.ret2 Tryz.results15 (Res.tmp rfl) (Res.tmp rfl) (List.nil_sublist _) ⟨rfl, hc0.symm ▸ HV.le.refl _, .inr ⟨hin', rfl⟩⟩
end Go.Proofs.YthjgbmbaabpgmaaGreat
/-
  Rows compared: the same ones are found the same. (Printed by sam.py.)
-/
namespace Go.Proofs.YthjgbmbaabpgmaaGreat
open Go Go.Sy Go.RowKit
set_option maxRecDepth 4000
set_option maxHeartbeats 4000000
theorem eq9 (n : Nat) (a b : List UInt8) (w : World) : (Op.equalIn (n + 1) 9 (str a) (str b)).run Tryz.prog w = .ok (decide (a = b)) w := by
  have hu : Tryz.prog.underlying 9 = some .string := st rfl
  have e : ((⟨a.toArray⟩ : ByteArray) == ⟨b.toArray⟩) = decide (a = b) := by
    show (a.toArray == b.toArray) = decide (a = b)
    rw [Bool.eq_iff_iff]
    simp
  simp [Op.equalIn, run_underlying hu, str, e]
theorem eq112 (n : Nat) (a b : Ox.Op) (w : World) : (Op.equalIn (n + 2) 112 (.agg (opc a).toArray) (.agg (opc b).toArray)).run Tryz.prog w = .ok (decide (a.kind = b.kind) && (decide (a.n = b.n) && decide (a.text = b.text))) w := by
  refine rec_eq r112 ⟨_, _, _, _, part_cell (ly rfl) rfl w, part_cell (ly rfl) rfl w, eq3 n _ _ w, ⟨_, _, _, _, part_cell (ly rfl) rfl w, part_cell (ly rfl) rfl w, eq3 n _ _ w, ⟨_, _, _, _, part_cell (ly rfl) rfl w, part_cell (ly rfl) rfl w, eq9 n _ _ w, rfl, rfl⟩, rfl⟩, ?_⟩
  obtain ⟨a1, a2, a3⟩ := a
  obtain ⟨b1, b2, b3⟩ := b
  simp
theorem eq106 (n : Nat) (a b : Ox.Atom) (w : World) : (Op.equalIn (n + 3) 106 (.agg (atc a).toArray) (.agg (atc b).toArray)).run Tryz.prog w = .ok (decide (a = b)) w := by
  have ha : (part 66 (atc a).toArray 0).run Tryz.prog w = .ok (orgv a.o) w := part_agg (m := 2) (ly rfl) rfl w
  have hb : (part 66 (atc b).toArray 0).run Tryz.prog w = .ok (orgv b.o) w := part_agg (m := 2) (ly rfl) rfl w
  have h1 := eq66 n a.o b.o w
  have h2 := eq3 (n + 1) a.n b.n w
  have h3 := eq9 (n + 1) a.text b.text w
  refine rec_eq (n := n + 2) r106 ⟨_, _, _, _, ha, hb, h1, ⟨_, _, _, _, part_cell (ly rfl) rfl w, part_cell (ly rfl) rfl w, h2, ⟨_, _, _, _, part_cell (ly rfl) rfl w, part_cell (ly rfl) rfl w, h3, rfl, rfl⟩, rfl⟩, ?_⟩
  obtain ⟨a1, a2, a3⟩ := a
  obtain ⟨b1, b2, b3⟩ := b
  simp
theorem eq127 (n : Nat) (a b : Ox.Cl) (w : World) : (Op.equalIn (n + 2) 127 (.agg (clc a).toArray) (.agg (clc b).toArray)).run Tryz.prog w = .ok (decide (a.c = b.c) && (decide (a.b = b.b) && decide (a.s = b.s))) w := by
  refine rec_eq r127 ⟨_, _, _, _, part_cell (ly rfl) rfl w, part_cell (ly rfl) rfl w, eq3 n _ _ w, ⟨_, _, _, _, part_cell (ly rfl) rfl w, part_cell (ly rfl) rfl w, eq3 n _ _ w, ⟨_, _, _, _, part_cell (ly rfl) rfl w, part_cell (ly rfl) rfl w, eq3 n _ _ w, rfl, rfl⟩, rfl⟩, ?_⟩
  simp
section
variable {σ : Slots} {S : World → Prop} {ty T' : TypeId} {ps : String} {af : Array Edge} {g : Option (Nat × Bool)} {d : Option Nat} {x y : Operand}
theorem V.neqT112 {a : Ox.Op} (hx : ev σ x = some (.agg (opc a).toArray)) (hy : ev σ y = some (.agg (opc a).toArray)) : Val Tryz.prog σ S ⟨d, .binOp .neq 112 x y T', ty, ps, af, g⟩ (.bool false) := by
  have := Val.neqS (P := Tryz.prog) (d := d) (ty := ty) (T' := T') (ps := ps) (af := af) (g := g) (S := S) hx hy (rec_guard r112) (eq112 9998 a a)
  simpa using this
theorem V.neqT106 {a : Ox.Atom} (hx : ev σ x = some (.agg (atc a).toArray)) (hy : ev σ y = some (.agg (atc a).toArray)) : Val Tryz.prog σ S ⟨d, .binOp .neq 106 x y T', ty, ps, af, g⟩ (.bool false) := by
  have := Val.neqS (P := Tryz.prog) (d := d) (ty := ty) (T' := T') (ps := ps) (af := af) (g := g) (S := S) hx hy (rec_guard r106) (eq106 9997 a a)
  simpa using this
theorem V.neqT127 {a : Ox.Cl} (hx : ev σ x = some (.agg (clc a).toArray)) (hy : ev σ y = some (.agg (clc a).toArray)) : Val Tryz.prog σ S ⟨d, .binOp .neq 127 x y T', ty, ps, af, g⟩ (.bool false) := by
  have := Val.neqS (P := Tryz.prog) (d := d) (ty := ty) (T' := T') (ps := ps) (af := af) (g := g) (S := S) hx hy (rec_guard r127) (eq127 9998 a a)
  simpa using this
theorem V.neqT3 {a : Int} (hx : ev σ x = some (.int .i64 a)) (hy : ev σ y = some (.int .i64 a)) : Val Tryz.prog σ S ⟨d, .binOp .neq 3 x y T', ty, ps, af, g⟩ (.bool false) := by
  have := Val.neq (P := Tryz.prog) (d := d) (ty := ty) (T := 3) (T' := T') (ps := ps) (af := af) (g := g) (S := S) hx hy
  simpa using this
theorem V.neqT9 {a : List UInt8} (hx : ev σ x = some (str a)) (hy : ev σ y = some (str a)) : Val Tryz.prog σ S ⟨d, .binOp .neq 9 x y T', ty, ps, af, g⟩ (.bool false) := by
  have := Val.strneq (P := Tryz.prog) (d := d) (ty := ty) (T := 9) (T' := T') (ps := ps) (af := af) (g := g) (S := S) hx hy
  simpa using this
end
attribute [local irreducible] At Ops Val Eff Does Res Dr

theorem ints_does (u v : Value) (l : List Int) (hl : l.length ≤ 1000000000) (h : HV) (hu : ZsH h u l) (hv : ZsH h v l) : Does Tryz.prog 59 #[u, v] [] h (Just h (· = .bool true)) := by
  obtain ⟨a, cp, rfl⟩ := hu.form
  obtain ⟨b, cq, rfl⟩ := hv.form
  refine Does.of Tryz.func59 rfl Tryz.ntmps59 rfl fun c hc0 => ?_
  repeat (first | refine Ops.val rfl rfl rfl (V.neqT3 rfl rfl) ?_ | refine goS _ ?_)
  refine At.loop1 (fun (i : Nat) => [(0, .slice a l.length cp), (1, .slice b l.length cq), (5, .int .i64 (i : Int))])
    (fun (i : Nat) w => i ≤ l.length ∧ Mem c [] h w) (fun (i : Nat) => l.length - i)
    0 ⟨rfl, rfl, rfl, trivial⟩ (fun w hw => ⟨Nat.zero_le _, hw⟩) (fun i => At.pure (fun hi => ?_))
  refine goK _ ?_
  refine At.condP rfl (fun h2 => ?_) (fun h2 => ?_)
  rotate_left
  · refine goK _ ?_
    exact At.ret1 Tryz.results59 (Res.tmp rfl) (List.Sublist.refl _) ⟨rfl, rfl, hc0.symm ▸ rfl⟩
  have hlt : i < l.length := by omega
  have hmem : l[i]? = some l[i] := by simp [hlt]
  obtain ⟨b0, o0, rfl, _, _, hc⟩ := RowH.elem zc_length hu hmem
  obtain ⟨b1, o1, rfl, _, _, hc'⟩ := RowH.elem zc_length hv hmem
  generalize l[i] = x at *
  refine goK _ ?_
  first | refine At.drawn mo (fun _ _ m => m.drew _) ?_ | refine At.seq (At.drawn mo (fun _ _ m => m.drew _) ?_)
  refine Dr.val 0 rfl rfl rfl rfl (by kernel_rfl) rfl (Val.move rfl) ?_
  refine Dr.val 1 rfl rfl rfl rfl (by kernel_rfl) rfl (Val.move rfl) ?_
  refine Dr.val 2 rfl rfl rfl rfl (by kernel_rfl) rfl (V.indexAddr rfl rfl rfl rfl hlt) ?_
  refine Dr.valS 3 _ rfl rfl rfl rfl (by kernel_rfl) rfl (V.load rfl rfl (fun _ hh => hh)) (fun w hw => hw.cellH (hc 0 (.int .i64 x) rfl)) ?_
  refine Dr.val 4 rfl rfl rfl rfl (by kernel_rfl) rfl (Val.move rfl) ?_
  refine Dr.val 5 rfl rfl rfl rfl (by kernel_rfl) rfl (Val.move rfl) ?_
  refine Dr.val 6 rfl rfl rfl rfl (by kernel_rfl) rfl (V.indexAddr rfl rfl rfl rfl hlt) ?_
  refine Dr.valS 7 _ rfl rfl rfl rfl (by kernel_rfl) rfl (V.load rfl rfl (fun _ hh => hh)) (fun w hw => hw.cellH (hc' 0 (.int .i64 x) rfl)) ?_
  refine Dr.val 8 rfl rfl rfl rfl (by kernel_rfl) rfl (V.neqT3 rfl rfl) ?_
  refine Dr.done (by kernel_rfl) (by kernel_rfl) ?_
  refine goK _ ?_
  refine At.back (i + 1) (by show l.length - (i + 1) < l.length - i; omega) (by exact ⟨rfl, rfl, rfl, trivial⟩) (fun w hw => ⟨hlt, hw⟩)

theorem opSame_does (u v : Value) (l : List Ox.Op) (hl : l.length ≤ 1000000000) (h : HV) (hu : OpsH h u l) (hv : OpsH h v l) : Does Tryz.prog 60 #[u, v] [] h (Just h (· = .bool true)) := by
  obtain ⟨a, cp, rfl⟩ := hu.form
  obtain ⟨b, cq, rfl⟩ := hv.form
  refine Does.of Tryz.func60 rfl Tryz.ntmps60 rfl fun c hc0 => ?_
  repeat (first | refine Ops.val rfl rfl rfl (V.neqT3 rfl rfl) ?_ | refine goS _ ?_)
  refine At.loop1 (fun (i : Nat) => [(0, .slice a l.length cp), (1, .slice b l.length cq), (5, .int .i64 (i : Int))])
    (fun (i : Nat) w => i ≤ l.length ∧ Mem c [] h w) (fun (i : Nat) => l.length - i)
    0 ⟨rfl, rfl, rfl, trivial⟩ (fun w hw => ⟨Nat.zero_le _, hw⟩) (fun i => At.pure (fun hi => ?_))
  refine goK _ ?_
  refine At.condP rfl (fun h2 => ?_) (fun h2 => ?_)
  rotate_left
  · refine goK _ ?_
    exact At.ret1 Tryz.results60 (Res.tmp rfl) (List.Sublist.refl _) ⟨rfl, rfl, hc0.symm ▸ rfl⟩
  have hlt : i < l.length := by omega
  have hmem : l[i]? = some l[i] := by simp [hlt]
  obtain ⟨b0, o0, rfl, _, _, hc⟩ := RowH.elem opc_length hu hmem
  obtain ⟨b1, o1, rfl, _, _, hc'⟩ := RowH.elem opc_length hv hmem
  generalize l[i] = x at *
  refine goK _ ?_
  first | refine At.drawn mo (fun _ _ m => m.drew _) ?_ | refine At.seq (At.drawn mo (fun _ _ m => m.drew _) ?_)
  refine Dr.val 0 rfl rfl rfl rfl (by kernel_rfl) rfl (Val.move rfl) ?_
  refine Dr.val 1 rfl rfl rfl rfl (by kernel_rfl) rfl (Val.move rfl) ?_
  refine Dr.val 2 rfl rfl rfl rfl (by kernel_rfl) rfl (V.indexAddr rfl rfl rfl rfl hlt) ?_
  refine Dr.valS 3 _ rfl rfl rfl rfl (by kernel_rfl) rfl (V.loadN (cs := opc x) rfl rfl rfl (fun _ hh => hh)) (fun w hw j u hu => hw.cellH (hc j u hu)) ?_
  refine Dr.val 4 rfl rfl rfl rfl (by kernel_rfl) rfl (Val.move rfl) ?_
  refine Dr.val 5 rfl rfl rfl rfl (by kernel_rfl) rfl (Val.move rfl) ?_
  refine Dr.val 6 rfl rfl rfl rfl (by kernel_rfl) rfl (V.indexAddr rfl rfl rfl rfl hlt) ?_
  refine Dr.valS 7 _ rfl rfl rfl rfl (by kernel_rfl) rfl (V.loadN (cs := opc x) rfl rfl rfl (fun _ hh => hh)) (fun w hw j u hu => hw.cellH (hc' j u hu)) ?_
  refine Dr.val 8 rfl rfl rfl rfl (by kernel_rfl) rfl (V.neqT112 rfl rfl) ?_
  refine Dr.done (by kernel_rfl) (by kernel_rfl) ?_
  refine goK _ ?_
  refine At.back (i + 1) (by show l.length - (i + 1) < l.length - i; omega) (by exact ⟨rfl, rfl, rfl, trivial⟩) (fun w hw => ⟨hlt, hw⟩)

theorem runSame_does (u v : Value) (l : List Ox.Atom) (hl : l.length ≤ 1000000000) (h : HV) (hu : AtsH h u l) (hv : AtsH h v l) : Does Tryz.prog 16 #[u, v] [] h (Just h (· = .bool true)) := by
  obtain ⟨a, cp, rfl⟩ := hu.form
  obtain ⟨b, cq, rfl⟩ := hv.form
  refine Does.of Tryz.func16 rfl Tryz.ntmps16 rfl fun c hc0 => ?_
  repeat (first | refine Ops.val rfl rfl rfl (V.neqT3 rfl rfl) ?_ | refine goS _ ?_)
  refine At.loop1 (fun (i : Nat) => [(0, .slice a l.length cp), (1, .slice b l.length cq), (5, .int .i64 (i : Int))])
    (fun (i : Nat) w => i ≤ l.length ∧ Mem c [] h w) (fun (i : Nat) => l.length - i)
    0 ⟨rfl, rfl, rfl, trivial⟩ (fun w hw => ⟨Nat.zero_le _, hw⟩) (fun i => At.pure (fun hi => ?_))
  refine goK _ ?_
  refine At.condP rfl (fun h2 => ?_) (fun h2 => ?_)
  rotate_left
  · refine goK _ ?_
    exact At.ret1 Tryz.results16 (Res.tmp rfl) (List.Sublist.refl _) ⟨rfl, rfl, hc0.symm ▸ rfl⟩
  have hlt : i < l.length := by omega
  have hmem : l[i]? = some l[i] := by simp [hlt]
  obtain ⟨b0, o0, rfl, _, _, hc⟩ := RowH.elem atc_length hu hmem
  obtain ⟨b1, o1, rfl, _, _, hc'⟩ := RowH.elem atc_length hv hmem
  generalize l[i] = x at *
  refine goK _ ?_
  first | refine At.drawn mo (fun _ _ m => m.drew _) ?_ | refine At.seq (At.drawn mo (fun _ _ m => m.drew _) ?_)
  refine Dr.val 0 rfl rfl rfl rfl (by kernel_rfl) rfl (Val.move rfl) ?_
  refine Dr.val 1 rfl rfl rfl rfl (by kernel_rfl) rfl (Val.move rfl) ?_
  refine Dr.val 2 rfl rfl rfl rfl (by kernel_rfl) rfl (V.indexAddr rfl rfl rfl rfl hlt) ?_
  refine Dr.valS 3 _ rfl rfl rfl rfl (by kernel_rfl) rfl (V.loadN (cs := atc x) rfl rfl rfl (fun _ hh => hh)) (fun w hw j u hu => hw.cellH (hc j u hu)) ?_
  refine Dr.val 4 rfl rfl rfl rfl (by kernel_rfl) rfl (Val.move rfl) ?_
  refine Dr.val 5 rfl rfl rfl rfl (by kernel_rfl) rfl (Val.move rfl) ?_
  refine Dr.val 6 rfl rfl rfl rfl (by kernel_rfl) rfl (V.indexAddr rfl rfl rfl rfl hlt) ?_
  refine Dr.valS 7 _ rfl rfl rfl rfl (by kernel_rfl) rfl (V.loadN (cs := atc x) rfl rfl rfl (fun _ hh => hh)) (fun w hw j u hu => hw.cellH (hc' j u hu)) ?_
  refine Dr.val 8 rfl rfl rfl rfl (by kernel_rfl) rfl (V.neqT106 rfl rfl) ?_
  refine Dr.done (by kernel_rfl) (by kernel_rfl) ?_
  refine goK _ ?_
  refine At.back (i + 1) (by show l.length - (i + 1) < l.length - i; omega) (by exact ⟨rfl, rfl, rfl, trivial⟩) (fun w hw => ⟨hlt, hw⟩)
end Go.Proofs.YthjgbmbaabpgmaaGreat
