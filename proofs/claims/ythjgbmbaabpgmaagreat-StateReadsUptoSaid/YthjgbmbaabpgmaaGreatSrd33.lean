/-
  The machine: a commit looked up, the commits as a graph, what does which request.
-/
import Derived.Test.YthjgbmbaabpgmaaGreatSrd05
import Derived.Test.YthjgbmbaabpgmaaGreatSrd32
set_option linter.unusedVariables false
set_option linter.unusedSimpArgs false
set_option linter.unusedSectionVars false
namespace Go.Proofs.YthjgbmbaabpgmaaGreat
open Go.Sy
set_option maxRecDepth 4000
set_option maxHeartbeats 4000000
/-- the numbers of commits, as they must be -/
structure Nums (zs : List CmV) : Prop where
  sorted : (zs.map fun z => z.c.num).Pairwise (· < ·)
  small : ∀ a ∈ zs.map (fun z => z.c.num), 0 ≤ a ∧ a ≤ 1000000000
  few : zs.length ≤ 1000000
theorem CmOk.one {h : HV} {z : CmV} (r : CmOk h z) : (cmc z).all (·.oneCell') = true := by
  obtain ⟨c, pv, dv, ov⟩ := z
  obtain ⟨_, _, e1⟩ := r.ps.form
  obtain ⟨_, _, e2⟩ := r.d.form
  obtain ⟨_, _, e3⟩ := r.o.form
  simp only at e1 e2 e3
  subst e1 e2 e3
  rfl
/-- a commit as a link -/
def zlk (z : CmV) : Ox.Lnk × Value := (⟨z.c.num, z.c.ps⟩, z.pv)
def links (zs : List CmV) : List Ox.Lnk := zs.map fun z => ⟨z.c.num, z.c.ps⟩
theorem links_of (zs : List CmV) : (zs.map zlk).map Prod.fst = links zs := by simp [links, zlk]
def cm0 : List Value := [.int .i64 0, .slice none 0 0, .slice none 0 0, .slice none 0 0, .int .i64 0, .int .i64 0]
def CmPost (zs : List CmV) (n : Int) (r : Value) : Prop := (∃ z ∈ zs, z.c.num = n ∧ r = .tuple #[.agg (cmc z).toArray, .bool true]) ∨ ((∀ z ∈ zs, z.c.num ≠ n) ∧ r = .tuple #[.agg cm0.toArray, .bool false])
attribute [local irreducible] At Ops Val Eff Does Res Dr

section
variable (R : List Itm) (m : Nat) (nc nb : Int) (csv bsv ksv : Value) (dm : Nat) (zs : List CmV) (h : HV) (hv : RowRd cmc 6 R h csv zs) (hok : ∀ z ∈ zs, CmOk h z)
include hv hok
theorem commit_does (hn : Nums zs) (n : Int) (hni : I64 n) :
    Does Tryz.prog 45 #[.pointer (some ⟨m, 0, none⟩), .int .i64 n] (cells m (mcc nc nb csv bsv ksv dm) 101 :: R) h (fun r Ω' h' => CmPost zs n r ∧ Ω' = cells m (mcc nc nb csv bsv ksv dm) 101 :: R ∧ h = h') := by
  obtain ⟨a, cp, rfl⟩ := hv.form
  unfold mcc
  have hfew := hn.few
  refine Does.of Tryz.func45 rfl Tryz.ntmps45 rfl fun c hc0 => ?_
  refine goK _ ?_
  refine Ops.eff rfl rfl rfl (E.alloc rfl) fun _ => Ops.ex fun b4 => Ops.pure ?_
  rintro rfl
  refine goK _ ?_
  refine Ops.eff rfl rfl rfl (Eff.callP 2 (fn (by kernel_rfl)) rfl (Ωc := R) (Ωr := []) (by simp) (BSearchCm_does R _ zs n hni hn.sorted hn.small (by omega) h hv)) fun _ => Ops.pure ?_
  rintro ⟨i, f, rfl, hp⟩
  refine goK _ ?_
  refine At.cond rfl (fun h1 => ?_) (fun h1 => ?_)
  · have hf : f = false := by simpa using h1
    refine goK _ ?_
    refine Ops.eff0 rfl rfl (E.store 0 rfl rfl rfl rfl rfl rfl rfl) fun _ => ?_
    refine goK _ ?_
    refine At.ret2 Tryz.results45 (Res.cellA (j := 0) (cs := cm0) (ly rfl) rfl rfl rfl) (Res.tmp rfl) (List.sublist_cons_self _ _) ⟨.inr ⟨fun z hz e => ?_, rfl⟩, rfl, hc0.symm ▸ rfl⟩
    have := hp.iff.2 (List.mem_map.2 ⟨z, hz, e⟩)
    rw [hf] at this; cases this
  · have hf : f = true := by simpa using h1
    have hat := hp.at_ hf
    rw [List.getElem?_map] at hat
    cases hz : zs[i]? with
    | none => rw [hz] at hat; cases hat
    | some z =>
      rw [hz] at hat
      have hnum : z.c.num = n := Option.some.inj hat
      obtain ⟨b0, o0, rfl, hil, _, hc⟩ := RowRd.elem cmc_length hv hz
      repeat (first | refine Ops.val rfl rfl rfl (V.indexAddr rfl rfl rfl rfl (by omega)) ?_ | refine goS _ ?_)
      refine Ops.val rfl rfl rfl (V.loadN (cs := cmc z) rfl rfl rfl (fun w hw j u hu => Mem.cellR (hc j u hu) (by first | exact fun _ hi => hi | exact fun _ hi => List.mem_cons_of_mem _ hi | exact fun _ hi => List.mem_cons_of_mem _ (List.mem_cons_of_mem _ hi) | simp +contextual | grind) hw)) ?_
      refine Ops.eff0 rfl rfl (E.store 0 rfl rfl rfl rfl rfl rfl (hok z (List.mem_of_getElem? hz)).one) fun _ => ?_
      refine goK _ ?_
      exact At.ret2 Tryz.results45 (Res.cellA (j := 0) (cs := cmc z) (ly rfl) rfl rfl rfl) (Res.tmp rfl) (List.sublist_cons_self _ _) ⟨.inl ⟨z, List.mem_of_getElem? hz, hnum, rfl⟩, rfl, hc0.symm ▸ rfl⟩
theorem links_does (hfew : zs.length ≤ 1000000) :
    Does Tryz.prog 92 #[.pointer (some ⟨m, 0, none⟩)] (cells m (mcc nc nb csv bsv ksv dm) 101 :: R) h (fun r Ω' h' => Ω' = row 222 2 r zs.length ((zs.map zlk).flatMap lkc) :: cells m (mcc nc nb csv bsv ksv dm) 101 :: R ∧ h = h') := by
  obtain ⟨a, cp, rfl⟩ := hv.form
  unfold mcc
  refine Does.of Tryz.func92 rfl Tryz.ntmps92 rfl fun c hc0 => ?_
  refine goK _ ?_
  refine At.row_nil 222 2 ?_
  refine At.loop2 (fun (i : Nat) (u : Value) => [(3, u), (10, .slice a zs.length cp), (11, .int .i64 (zs.length : Int)), (12, .int .i64 (i : Int))])
    (fun (i : Nat) (u : Value) w => i ≤ zs.length ∧ Mem c (row 222 2 u i (((zs.take i).map zlk).flatMap lkc) :: cells m [.int .i64 nc, .int .i64 nb, .slice a zs.length cp, bsv, ksv, .map (some dm)] 101 :: R) h w) (fun (i : Nat) (_ : Value) => zs.length - i)
    0 (.slice none 0 0) ⟨rfl, rfl, rfl, rfl, trivial⟩ (fun w hw => ⟨Nat.zero_le _, hw⟩) (fun i u => At.pure (fun hi => ?_))
  refine goK _ ?_
  refine At.condP rfl (fun h2 => ?_) (fun h2 => ?_)
  rotate_left
  · obtain rfl : i = zs.length := by omega
    rw [List.take_length]
    refine goK _ ?_
    exact At.ret1 Tryz.results92 (Res.tmp rfl) (List.Sublist.refl _) ⟨rfl, hc0.symm ▸ rfl⟩
  have hlt : i < zs.length := by omega
  obtain ⟨b0, o0, rfl, _, _, hc⟩ := RowRd.elem cmc_length hv (i := i) (x := zs[i]) (by simp [hlt])
  have hts : zs.take (i + 1) = zs.take i ++ [zs[i]] := by rw [List.take_succ_eq_append_getElem hlt]
  have hzk := hok zs[i] (by simp)
  generalize zs[i] = z at *
  obtain ⟨zc, pv, dv, ov⟩ := z
  obtain ⟨pa, pcp, e⟩ := hzk.ps.form
  simp only at e
  subst e
  refine goK _ ?_
  refine Ops.val rfl rfl rfl (V.loadN (cs := cmc ⟨zc, .slice pa zc.ps.length pcp, dv, ov⟩) rfl rfl rfl (fun w hw j u hu => Mem.cellR (hc j u hu) (by first | exact fun _ hi => hi | exact fun _ hi => List.mem_cons_of_mem _ hi | exact fun _ hi => List.mem_cons_of_mem _ (List.mem_cons_of_mem _ hi) | simp +contextual | grind) hw)) ?_
  refine Ops.eff rfl rfl rfl (E.alloc rfl) fun _ => Ops.ex fun b5 => Ops.pure ?_
  rintro rfl
  refine Ops.eff0 rfl rfl (E.store 0 rfl rfl rfl rfl rfl rfl hzk.one) fun _ => ?_
  refine goK _ ?_
  refine Ops.eff rfl rfl rfl (E.buildSlice1 rfl rfl rfl rfl) fun _ => Ops.ex fun _ => Ops.pure ?_
  rintro rfl
  refine Ops.eff rfl rfl rfl (E.append1s 1 rfl rfl rfl rfl rfl rfl (by omega) (by omega)) fun _ => Ops.ex fun g2 => Ops.ex fun cp2 => Ops.pure ?_
  rintro rfl
  refine goK _ ?_
  refine At.back2 (i + 1) (.slice (some ⟨g2, 0, none⟩) (i + 1) cp2) (by show zs.length - (i + 1) < zs.length - i; omega) (by exact ⟨rfl, rfl, rfl, rfl, trivial⟩) (fun w hw => ⟨hlt, ?_⟩)
  rw [hts, List.map_append, List.flatMap_append]
  exact hw.sub (List.sublist_cons_self _ _)
end

/-- what does which request -/
def hmap : List (Int × Value) := [(1, .func (.func 77) #[] #[]), (2, .func (.func 78) #[] #[]), (3, .func (.func 79) #[] #[]), (4, .func (.func 80) #[] #[]), (5, .func (.func 81) #[] #[]), (6, .func (.func 82) #[] #[]), (7, .func (.func 83) #[] #[]), (8, .func (.func 84) #[] #[]), (9, .func (.func 85) #[] #[]), (10, .func (.func 86) #[] #[]), (11, .func (.func 87) #[] #[])]
theorem handlers_does (k : Int) (h : HV) : Does Tryz.prog 39 #[.int .i64 k] [] h (Just h (· = .tuple #[(mget hmap k).getD .nilFunc, .bool (decide (k = 1 ∨ k = 4))])) := by
  refine Does.of Tryz.func39 rfl Tryz.ntmps39 rfl fun c hc0 => ?_
  refine goK _ ?_
  refine Ops.eff rfl rfl rfl (Eff.makeMap (κ := key)) fun _ => Ops.ex fun b => Ops.pure ?_
  rintro rfl
  refine Ops.eff0 rfl rfl (E.insert (κ := key) (a := (1 : Int)) 0 key3 rfl rfl rfl rfl rfl) fun _ => ?_
  refine Ops.eff0 rfl rfl (E.insert (κ := key) (a := (2 : Int)) 0 key3 rfl rfl rfl rfl rfl) fun _ => ?_
  refine Ops.eff0 rfl rfl (E.insert (κ := key) (a := (3 : Int)) 0 key3 rfl rfl rfl rfl rfl) fun _ => ?_
  refine Ops.eff0 rfl rfl (E.insert (κ := key) (a := (4 : Int)) 0 key3 rfl rfl rfl rfl rfl) fun _ => ?_
  refine Ops.eff0 rfl rfl (E.insert (κ := key) (a := (5 : Int)) 0 key3 rfl rfl rfl rfl rfl) fun _ => ?_
  refine Ops.eff0 rfl rfl (E.insert (κ := key) (a := (6 : Int)) 0 key3 rfl rfl rfl rfl rfl) fun _ => ?_
  refine Ops.eff0 rfl rfl (E.insert (κ := key) (a := (7 : Int)) 0 key3 rfl rfl rfl rfl rfl) fun _ => ?_
  refine Ops.eff0 rfl rfl (E.insert (κ := key) (a := (8 : Int)) 0 key3 rfl rfl rfl rfl rfl) fun _ => ?_
  refine Ops.eff0 rfl rfl (E.insert (κ := key) (a := (9 : Int)) 0 key3 rfl rfl rfl rfl rfl) fun _ => ?_
  refine Ops.eff0 rfl rfl (E.insert (κ := key) (a := (10 : Int)) 0 key3 rfl rfl rfl rfl rfl) fun _ => ?_
  refine Ops.eff0 rfl rfl (E.insert (κ := key) (a := (11 : Int)) 0 key3 rfl rfl rfl rfl rfl) fun _ => ?_
  refine Ops.imp (S' := Mem c [mapI key b hmap] h) ?_ (fun w hw => hw)
  refine goK _ ?_
  refine Ops.val rfl rfl rfl (V.lookup (κ := key) (a := k) (m := hmap) 0 key3 rfl rfl rfl rfl rfl) ?_
  refine Ops.val rfl rfl rfl (Val.move rfl) ?_
  refine Ops.val rfl rfl rfl (Val.eql rfl rfl) ?_
  refine Ops.val rfl rfl rfl (Val.move rfl) ?_
  refine Ops.boolP (t := 12) rfl (fun h1 => ?_) (fun h1 => ?_)
  · repeat (first | refine Ops.skip rfl rfl rfl ?_ | refine Ops.val rfl rfl rfl (Val.pick rfl rfl) ?_ | refine Ops.val rfl rfl rfl (Val.move rfl) ?_)
    refine Ops.val rfl rfl rfl (Val.assign rfl) ?_
    refine Ops.val rfl rfl rfl (Val.assign rfl) ?_
    refine Ops.nil ?_
    exact At.ret2 Tryz.results39 (Res.tmp rfl) (Res.tmp rfl) (List.nil_sublist _) ⟨by rw [decide_eq_true (.inl h1)], rfl, hc0.symm ▸ rfl⟩
  · refine goK _ ?_
    refine At.ret2 Tryz.results39 (Res.tmp rfl) (Res.tmp rfl) (List.nil_sublist _) ⟨by rw [show decide (k = 1 ∨ k = 4) = decide (k = 4) from decide_eq_decide.2 ⟨fun h => h.resolve_left h1, .inr⟩], rfl, hc0.symm ▸ rfl⟩
end Go.Proofs.YthjgbmbaabpgmaaGreat
/-
  The documents of commits. What they are.
-/
namespace Go.Proofs.YthjgbmbaabpgmaaGreat
open Go.Sy
set_option maxRecDepth 4000
set_option maxHeartbeats 4000000
namespace Ox
/-- a document as they come about -/
structure DocB (d : List Atom) : Prop where
  canon : Canon d
  few : (flat d).length ≤ 1000
theorem DocB.nil : DocB [] := ⟨⟨by simp, by simp [gaps]⟩, by simp [flat]⟩
theorem text_flat {d : List Atom} (h : ∀ a ∈ d, a.ok) : (text d).length ≤ 4 * (flat d).length := by
  induction d with
  | nil => simp [text, flat]
  | cons a r ih =>
    have h1 := ih fun x hx => h x (by simp [hx])
    have h2 := (h a (by simp))
    have h3 := h2.flat_length.1
    have h4 := encs_length a.pts
    have h5 : (text (a :: r)).length = a.text.length + (text r).length := by simp [text]
    rw [flat_cons, List.length_append, h5, h2.enc.1]; omega
theorem DocB.short {d : List Atom} (h : DocB d) : (∀ a ∈ d, a.text.length ≤ 4000) ∧ d.length ≤ 1000 ∧ (text d).length ≤ 4000 := by
  have h1 := flat_ge h.canon.ok
  have h2 := text_flat h.canon.ok
  have h3 := h.few
  exact ⟨fun a ha => (h.canon.ok a ha).short, by omega, by omega⟩
theorem runsOf_canon {d : List Atom} (h : Canon d) : runsOf (flat d) = d := by
  have h1 := runsOf_flat (flat d) (flat_ok h.ok)
  exact canon_inj h1.1 h h1.2
/-- what a delta makes of a document -/
noncomputable def applied (d : List Atom) (x : List Op) (o : Org) : List Atom := if applyE d x o = 0 then runsOf (applyF o 0 (flat d) ((parseAll x).getD [])) else []
/-- what two documents of one come to -/
noncomputable def merged (base x y : List Atom) (nx ny : Int) : List Atom := if docsE base x y nx ny = 0 then runsOf (mergePcs nx ny (flat base) (flat x) (flat y)) else []
def linksC (cs : List Cm) : List Lnk := cs.map fun c => ⟨c.num, c.ps⟩
open Classical in
/-- what is ahead of a commit -/
noncomputable def ancs (l : List Lnk) (n : Int) : List Int := if h : ∃ s, Ancs l n s then h.choose else []
theorem sorted_ext : ∀ {a b : List Int}, a.Pairwise (· < ·) → b.Pairwise (· < ·) → (∀ k, k ∈ a ↔ k ∈ b) → a = b
  | [], [], _, _, _ => rfl
  | [], y :: b, _, _, h => by have := (h y).2 (by simp); simp at this
  | x :: a, [], _, _, h => by have := (h x).1 (by simp); simp at this
  | x :: a, y :: b, ha, hb, h => by
    obtain ⟨ha1, ha2⟩ := List.pairwise_cons.1 ha
    obtain ⟨hb1, hb2⟩ := List.pairwise_cons.1 hb
    have hxy : x = y := by
      have h1 := (h x).1 (by simp)
      have h2 := (h y).2 (by simp)
      rcases List.mem_cons.1 h1 with h1 | h1
      · exact h1
      · rcases List.mem_cons.1 h2 with h2 | h2
        · exact h2.symm
        · have := hb1 x h1; have := ha1 y h2; omega
    subst hxy
    rw [sorted_ext ha2 hb2 fun k => ⟨fun hk => ?_, fun hk => ?_⟩]
    · rcases List.mem_cons.1 ((h k).1 (List.mem_cons_of_mem _ hk)) with e | h1
      · subst e; have := ha1 k hk; omega
      · exact h1
    · rcases List.mem_cons.1 ((h k).2 (List.mem_cons_of_mem _ hk)) with e | h1
      · subst e; have := hb1 k hk; omega
      · exact h1
theorem Ancs.eq {l : List Lnk} {n : Int} {s : List Int} (h : Ancs l n s) : ancs l n = s := by
  have hex : ∃ s, Ancs l n s := ⟨s, h⟩
  rw [ancs, dif_pos hex]
  exact sorted_ext hex.choose_spec.sorted h.sorted fun k => (hex.choose_spec.mem k).trans (h.mem k).symm
/-- the last common ones of two -/
noncomputable def commL (l : List Lnk) (a b : Int) : List Int := commons l (ancs l a) (ancs l b)
theorem commons_mem {l : List Lnk} {sx sy : List Int} : ∀ k ∈ commons l sx sy, k ∈ sx ∧ k ∈ sy := fun k hk => by
  rw [commons, List.mem_reverse] at hk
  have := pick_sub _ _ k hk
  simpa using this
/-- whose document it becomes -/
def Cm.org (c : Cm) : Org := ⟨c.cl, if c.cl = 0 then c.num else c.sq⟩
/-- a commit's document, from its parents' -/
noncomputable def madeD (l : List Lnk) (D : Int → List Atom) (c : Cm) : List Atom :=
  match c.ps with
  | [a, b] => merged (D ((commL l a b).headD 0)) (D a) (D b) a b
  | [a] => applied (D a) c.d c.org
  | _ => applied [] c.d c.org
/-- commits that hang together, and their documents -/
structure CsOk (cs : List Cm) (D : Int → List Atom) : Prop where
  dag : DagOk (linksC cs)
  base : ∀ c ∈ cs, ∀ a b, c.ps = [a, b] → commL (linksC cs) a b ≠ []
  short : ∀ c ∈ cs, ∀ o ∈ c.d, o.text.length ≤ 10000000000
  eq : ∀ c ∈ cs, D c.num = madeD (linksC cs) D c
  doc : ∀ n, DocB (D n)
theorem dag_sorted {l : List Lnk} (h : DagOk l) : (l.map Lnk.num).Pairwise (· < ·) := by
  have key : ∀ k, ((l.take k).map Lnk.num).Pairwise (· < ·) ∧ ∀ x ∈ l.take k, x.num ≤ lastOf (l.take k) := by
    intro k
    induction k with
    | zero => simp
    | succ k ih =>
      rcases Nat.lt_or_ge k l.length with hk | hk
      · rw [List.take_succ_eq_append_getElem hk]
        have F := (h.2 k l[k] (List.getElem?_eq_getElem hk)).up
        refine ⟨?_, fun x hx => ?_⟩
        · rw [List.map_append, List.pairwise_append]
          refine ⟨ih.1, by simp, fun a ha b hb => ?_⟩
          obtain ⟨x, hx, rfl⟩ := List.mem_map.1 ha
          simp at hb; subst hb
          have := ih.2 x hx; omega
        · rw [lastOf, List.getLast?_concat]
          rcases List.mem_append.1 hx with h1 | h1
          · have := ih.2 x h1; simp only [Option.map_some, Option.getD_some]; omega
          · simp at h1; subst h1; exact Int.le_refl _
      · rw [List.take_of_length_le (by omega)]
        rwa [List.take_of_length_le hk] at ih
  have := (key l.length).1
  rwa [List.take_length] at this
theorem DagOk.parent_lt {l : List Lnk} (h : DagOk l) {x : Lnk} (hx : x ∈ l) {p : Int} (hp : p ∈ x.ps) : p < x.num := by
  obtain ⟨i, hi⟩ := List.getElem?_of_mem hx
  have F := h.2 i x hi
  obtain ⟨y, hy, rfl⟩ := List.mem_map.1 (F.there p hp)
  obtain ⟨j, hj⟩ := List.getElem?_of_mem hy
  have hji : j < i := by have := (List.getElem?_eq_some_iff.1 hj).1; rw [List.length_take] at this; omega
  rw [List.getElem?_take, if_pos hji] at hj
  have hs := dag_sorted h
  exact sorted_lt hs (by rw [List.getElem?_map, hj]; rfl) (by rw [List.getElem?_map, hi]; rfl) hji
theorem upOf_num {l : List Lnk} (h : (l.map Lnk.num).Nodup) : ∀ x ∈ l, upOf l x.num = x.ps := by
  induction l using snocInd with
  | nil => simp
  | snoc l y ih =>
    intro x hx
    rw [upOf_snoc]
    rw [List.map_append, List.nodup_append] at h
    rcases List.mem_append.1 hx with h1 | h1
    · have : x.num ≠ y.num := h.2.2 _ (List.mem_map_of_mem h1) _ (by simp)
      simp only [if_neg this]
      exact ih h.1 x h1
    · simp at h1; subst h1; simp
theorem reach_le {l : List Lnk} (h : DagOk l) {n k : Int} (hr : Reach (upOf l) n k) : k ≤ n := by
  induction hr with
  | refl => exact Int.le_refl _
  | step _ hp ih =>
    obtain ⟨x, hx, rfl, hpx⟩ := upOf_mem l _ _ hp
    have := h.parent_lt hx hpx; omega
theorem Reach.trans {f : Int → List Int} {a b c : Int} (h1 : Reach f a b) (h2 : Reach f b c) : Reach f a c := by
  induction h2 with
  | refl => exact h1
  | step _ hp ih => exact .step ih hp
end Ox
theorem links_map (zs : List CmV) : links zs = Ox.linksC (zs.map CmV.c) := by simp [links, Ox.linksC]
theorem CsNums {zs : List CmV} (h : Ox.DagOk (Ox.linksC (zs.map CmV.c))) : Nums zs := by
  have e : (Ox.linksC (zs.map CmV.c)).map Ox.Lnk.num = zs.map fun z => z.c.num := by simp [Ox.linksC]
  refine ⟨?_, fun a ha => ?_, ?_⟩
  · rw [← e]; exact Ox.dag_sorted h
  · rw [← e] at ha; have := h.range a ha; omega
  · have := h.1; simp [Ox.linksC] at this; omega
end Go.Proofs.YthjgbmbaabpgmaaGreat
