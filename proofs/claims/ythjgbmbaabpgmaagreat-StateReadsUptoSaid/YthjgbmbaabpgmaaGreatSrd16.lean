/-
  Documents: Apply.
-/
import Derived.Test.YthjgbmbaabpgmaaGreatSrd05
import Derived.Test.YthjgbmbaabpgmaaGreatSrd15
import Derived.Test.YthjgbmbaabpgmaaGreatSrd08
import Derived.Maps.RangeRun
set_option linter.unusedVariables false
set_option linter.unusedSimpArgs false
set_option linter.unusedSectionVars false
namespace Go.Proofs.YthjgbmbaabpgmaaGreat
open Go.Sy
set_option maxRecDepth 4000
set_option maxHeartbeats 4000000
attribute [local irreducible] At Ops Val Eff Does Res Dr
namespace Ox
/-- a delta applied to single atoms -/
def applyF (o : Org) : Nat → List (Pt × Nat) → List DOp → List (Pt × Nat)
  | _, _, [] => []
  | k, fl, .keep n :: r => fl.take n ++ applyF o k (fl.drop n) r
  | k, fl, .del n :: r => applyF o k (fl.drop n) r
  | k, fl, .ins l :: r => names o k l ++ applyF o (k + l.length) fl r
theorem applyF_length (o : Org) : ∀ (ds : List DOp) (k : Nat) (fl : List (Pt × Nat)), (applyF o k fl ds).length ≤ target ds
  | [], _, _ => by simp [applyF]
  | .keep n :: r, k, fl => by
    have := applyF_length o r k (fl.drop n)
    simp only [applyF, List.length_append, List.length_take, target, List.map_cons, List.sum_cons, DOp.target] at *; omega
  | .del n :: r, k, fl => by
    have := applyF_length o r k (fl.drop n)
    simp only [applyF, target, List.map_cons, List.sum_cons, DOp.target] at *; omega
  | .ins l :: r, k, fl => by
    have := applyF_length o r (k + l.length) fl
    simp only [applyF, List.length_append, names_length, target, List.map_cons, List.sum_cons, DOp.target] at *; omega
/-- where Apply stands -/
structure ApS where
  j : Nat
  k : Nat
  d : List Atom
  rd : List Atom
  u : Value
  v : Value
  h : HV
/-- why a delta is not applied; 0: it is -/
noncomputable def applyE (d : List Atom) (x : List Op) (o : Org) : Int :=
  if check d ≠ 0 then check d else if (lens x).2.2 ≠ 0 then ((lens x).2.2 : Int) else if ((lens x).1 : Int) ≠ tlen (text d) then 91 else if o.ok = false then 1 else if o ∈ d.map (·.o) then 1 else 0
end Ox

theorem Apply_does (v u : Value) (d : List Ox.Atom) (x : List Ox.Op) (o : Ox.Org) (ht : ∀ a ∈ d, a.text.length ≤ 10000000000) (hdl : d.length ≤ 1000000) (hl : (Ox.text d).length ≤ 10000000000) (hx : ∀ q ∈ x, q.text.length ≤ 10000000000)
    (h : HV) (hv : AtsH h v d) (hu : OpsH h u x) :
    Does Tryz.prog 142 #[v, u, .agg #[.int .i64 o.c, .int .i64 o.n]] [] h (fun r Ω' h' => Ω' = [] ∧ HV.le h h' ∧ ((Ox.applyE d x o ≠ 0 ∧ r = .tuple #[.slice none 0 0, .int .i64 (Ox.applyE d x o)]) ∨
      (Ox.applyE d x o = 0 ∧ ∃ ds d' u', Ox.parseAll x = some ds ∧ Ox.Canon d' ∧ Ox.flat d' = Ox.applyF o 0 (Ox.flat d) ds ∧ r = .tuple #[u', .int .i64 0] ∧ AtsH h' u' d'))) := by
  obtain ⟨a, cp, rfl⟩ := hv.form
  obtain ⟨a2, cp2, rfl⟩ := hu.form
  obtain ⟨oc, on⟩ := o
  refine Does.of Tryz.func142 rfl Tryz.ntmps142 rfl fun c hc0 => ?_
  refine goK _ ?_
  refine Ops.eff rfl rfl rfl (Eff.box rfl) fun _ => Ops.ex fun b5 => Ops.pure ?_
  rintro rfl
  refine goK _ ?_
  refine Ops.eff rfl rfl rfl (Eff.call (fn (by kernel_rfl)) rfl (Ωc := []) rfl (DocCheck_does _ d ht (by omega) h hv)) fun _ => Ops.ex fun _ => Ops.ex fun _ => Ops.pure ?_
  rintro ⟨rfl, rfl, rfl⟩
  refine goK _ ?_
  refine At.condN rfl (fun h1 => ?_) (fun h1 => ?_)
  · refine goK _ ?_
    refine At.ret2 Tryz.results142 (Res.tmp rfl) (Res.tmp rfl) (List.nil_sublist _) ⟨rfl, HV.le.refl _, .inl ?_⟩
    rw [Ox.applyE, if_pos h1]; exact ⟨h1, rfl⟩
  refine goK _ ?_
  refine Ops.eff rfl rfl rfl (Eff.call (fn (by kernel_rfl)) rfl (Ωc := []) rfl (Base_does _ x hx h hu)) fun _ => Ops.ex fun _ => Ops.ex fun _ => Ops.pure ?_
  rintro ⟨rfl, rfl, rfl⟩
  refine goK _ ?_
  refine At.condN rfl (fun h2 => ?_) (fun h2 => ?_)
  · refine goK _ ?_
    refine At.ret2 Tryz.results142 (Res.tmp rfl) (Res.tmp rfl) (List.nil_sublist _) ⟨rfl, HV.le.refl _, .inl ?_⟩
    rw [Ox.applyE, if_neg (by simpa using h1), if_pos (by omega)]; exact ⟨h2, rfl⟩
  refine goK _ ?_
  refine Ops.eff rfl rfl rfl (Eff.call (fn (by kernel_rfl)) rfl (Ωc := []) rfl (DocLen_does _ d hl (by omega) h hv)) fun _ => Ops.ex fun _ => Ops.ex fun _ => Ops.pure ?_
  rintro ⟨rfl, rfl, rfl⟩
  refine goK _ ?_
  refine At.condN rfl (fun h3 => ?_) (fun h3 => ?_)
  · refine goK _ ?_
    refine At.ret2 Tryz.results142 (Res.tmp rfl) (Res.tmp rfl) (List.nil_sublist _) ⟨rfl, HV.le.refl _, .inl ?_⟩
    rw [Ox.applyE, if_neg (by simpa using h1), if_neg (by omega), if_pos h3]; exact ⟨by omega, rfl⟩
  repeat (first | refine Ops.val rfl rfl rfl (V.loadOP 0 [.int .i64 oc, .int .i64 on] rfl rfl rfl rfl rfl) ?_ | refine goS _ ?_)
  refine Ops.eff rfl rfl rfl (Eff.callAt 1 (fn (by kernel_rfl)) rfl (Ωc := []) rfl (isOrigin_does ⟨oc, on⟩ h)) fun _ => Ops.ex fun _ => Ops.ex fun _ => Ops.pure ?_
  rintro ⟨rfl, rfl, rfl⟩
  refine goK _ ?_
  have hE : (Ox.Org.mk oc on).ok = true → Ox.applyE d x ⟨oc, on⟩ = if (Ox.Org.mk oc on) ∈ d.map (·.o) then 1 else 0 := fun hok => by
    rw [Ox.applyE, if_neg (by simpa using h1), if_neg (by omega), if_neg (by simpa using h3), if_neg (by rw [hok]; simp)]
  refine At.cond rfl (fun h4 => ?_) (fun h4 => ?_)
  · refine goK _ ?_
    refine At.ret2 Tryz.results142 (Res.tmp rfl) (Res.tmp rfl) (List.nil_sublist _) ⟨rfl, HV.le.refl _, .inl ?_⟩
    rw [Ox.applyE, if_neg (by simpa using h1), if_neg (by omega), if_neg (by simpa using h3), if_pos (by simpa using h4)]; exact ⟨by omega, rfl⟩
  have hok : (Ox.Org.mk oc on).ok = true := by simpa using h4
  replace hE := hE hok
  refine goK _ ?_
  refine At.loop1 (fun (i : Nat) => [(0, .slice a d.length cp), (1, .slice a2 x.length cp2), (5, .pointer (some ⟨b5, 0, none⟩)), (41, .slice a d.length cp), (42, .int .i64 (d.length : Int)), (43, .int .i64 (i : Int))])
    (fun (i : Nat) w => (i ≤ d.length ∧ (Ox.Org.mk oc on) ∉ (d.take i).map (·.o)) ∧ Mem c [cells b5 [.int .i64 oc, .int .i64 on] 66] h w) (fun (i : Nat) => d.length - i)
    0 ⟨rfl, rfl, rfl, rfl, rfl, rfl, trivial⟩ (fun w hw => ⟨⟨Nat.zero_le _, by simp⟩, hw⟩) (fun i => At.pure fun ⟨hi, hni⟩ => ?_)
  refine goK _ ?_
  refine At.condP rfl (fun h5 => ?_) (fun h5 => ?_)
  · have hlt : i < d.length := by omega
    obtain ⟨b, o, rfl, _, _, hc⟩ := RowH.elem atc_length hv (i := i) (x := d[i]) (by simp [hlt])
    have hts : d.take (i + 1) = d.take i ++ [d[i]] := by rw [List.take_succ_eq_append_getElem hlt]
    have hmem : d[i].o ∈ d.map (·.o) := List.mem_map.2 ⟨d[i], by simp, rfl⟩
    generalize hdx : d[i] = y at *
    obtain ⟨⟨yc, ym⟩, yn, yt⟩ := y
    simp only at hmem
    repeat (first | refine Ops.val rfl rfl rfl (V.loadHA (cs := [.int .i64 yc, .int .i64 ym, .int .i64 yn, str yt]) rfl rfl rfl hc) ?_ | refine goS _ ?_)
    refine Ops.eff rfl rfl rfl (E.alloc rfl) fun _ => Ops.ex fun b12 => Ops.pure ?_
    rintro rfl
    refine Ops.eff0 rfl rfl (E.store 0 rfl rfl rfl rfl rfl rfl rfl) fun _ => ?_
    repeat (first | refine Ops.val rfl rfl rfl (V.loadOP 0 [.int .i64 yc, .int .i64 ym] rfl rfl rfl rfl rfl) ?_ | refine Ops.val rfl rfl rfl (V.loadOP 1 [.int .i64 oc, .int .i64 on] rfl rfl rfl rfl rfl) ?_ | refine goS _ ?_)
    refine At.condP rfl (fun h6 => ?_) (fun h6 => ?_)
    · refine goK _ ?_
      refine At.ret2 Tryz.results142 (Res.tmp rfl) (Res.tmp rfl) (List.nil_sublist _) ⟨rfl, HV.le.refl _, .inl ?_⟩
      rw [hE, if_pos (h6 ▸ hmem)]; exact ⟨by omega, rfl⟩
    refine goK _ ?_
    refine At.back (i + 1) (by show d.length - (i + 1) < d.length - i; omega) (by exact ⟨rfl, rfl, rfl, rfl, rfl, rfl, trivial⟩) (fun w hw => ⟨⟨hlt, ?_⟩, hw.sub (List.sublist_cons_self _ _)⟩)
    rw [hts, List.map_append, List.mem_append]
    rintro (h7 | h7)
    · exact hni h7
    · simp at h7; exact h6 (by simp [h7.1, h7.2])
  obtain rfl : i = d.length := by omega
  rw [List.take_length] at hni
  rw [if_neg hni] at hE
  have hG : Ox.Good d := by
    apply Classical.byContradiction; intro hn
    rw [Ox.check, if_neg hn] at h1; omega
  obtain ⟨ds, hds, hxl, hbs, htg⟩ := Ox.lens_ok (d := x) (by omega)
  have hdsl := Ox.parseAll_length hds
  have hfl := Ox.applyF_length ⟨oc, on⟩ ds 0 (Ox.flat d)
  refine goK _ ?_
  refine Ops.eff rfl rfl rfl (Eff.box rfl) fun _ => Ops.ex fun br => Ops.pure ?_
  rintro rfl
  refine goK _ ?_
  refine At.row_nil 106 4 ?_
  refine At.loop1 (fun (s : Ox.ApS) => [(1, .slice a2 x.length cp2), (5, .pointer (some ⟨b5, 0, none⟩)), (13, s.v), (14, .pointer (some ⟨br, 0, none⟩)), (15, .int .i64 (s.k : Int)), (55, .slice a2 x.length cp2), (56, .int .i64 (x.length : Int)), (57, .int .i64 (s.j : Int))])
    (fun (s : Ox.ApS) w => (s.j ≤ x.length ∧ HV.le h s.h ∧ AtsH s.h s.u s.rd ∧ (∀ a ∈ s.rd, a.ok) ∧ (Ox.flat s.rd).length ≤ 1000 ∧ Ox.Canon s.d ∧ s.k + Ox.target (ds.drop s.j) ≤ 1000 ∧ Ox.flat s.d ++ Ox.applyF ⟨oc, on⟩ s.k (Ox.flat s.rd) (ds.drop s.j) = Ox.applyF ⟨oc, on⟩ 0 (Ox.flat d) ds) ∧
      Mem c [RdM br s.u, DocM s.v s.d, cells b5 [.int .i64 oc, .int .i64 on] 66] s.h w) (fun (s : Ox.ApS) => x.length - s.j)
    ⟨0, 0, [], d, .slice a d.length cp, .slice none 0 0, h⟩ ⟨rfl, rfl, rfl, rfl, rfl, rfl, rfl, rfl, trivial⟩
    (fun w hw => ⟨⟨Nat.zero_le _, HV.le.refl _, hv, hG.canon.ok, hG.few, ⟨by simp, by simp [Ox.gaps]⟩, by simpa using htg, by simp [Ox.flat]⟩, hw.perm (List.Perm.swap ..)⟩) (fun s => At.pure fun ⟨hj, hle, hsu, hsr, hsf, hsd, hsk, hsa⟩ => ?_)
  obtain ⟨j, k, sd, srd, su, sv, sh⟩ := s
  simp only at hj hle hsu hsr hsf hsd hsk hsa
  have hsl := Ox.flat_ge hsr
  have hdl2 := Ox.flat_ge hsd.ok
  have hsal := congrArg List.length hsa
  rw [List.length_append] at hsal
  refine goK _ ?_
  refine At.condP rfl (fun h7 => ?_) (fun h7 => ?_)
  rotate_left
  · replace h7 : ¬ (j : Int) < x.length := h7
    obtain rfl : j = x.length := by omega
    refine goK _ ?_
    refine At.publish_row 1 rfl fun h' hle2 hsl2 => ?_
    refine At.ret2 Tryz.results142 (Res.tmp rfl) (Res.tmp rfl) (List.nil_sublist _) ⟨rfl, hle.trans hle2, .inr ⟨hE, ds, sd, sv, hds, hsd, ?_, rfl, hsl2⟩⟩
    rw [← hsa, List.drop_eq_nil_of_le (by omega)]; simp [Ox.applyF]
  replace h7 : (j : Int) < x.length := h7
  have hlt : j < x.length := by omega
  obtain ⟨bx, ox, rfl, _, _, hc⟩ := RowH.elem opc_length hu (i := j) (x := x[j]) (by simp [hlt])
  obtain ⟨p, hp, hpp⟩ := Ox.parseAll_get hds hlt
  have hdr : ds.drop j = p :: ds.drop (j + 1) := by
    have hjd : j < ds.length := by omega
    rw [List.drop_eq_getElem_cons hjd]
    have := List.getElem?_eq_getElem hjd
    rw [hp] at this; cases this; rfl
  have hpb : p.base ≤ 1000 := by
    have e : Ox.base ds = Ox.base (ds.take j) + Ox.base (ds.drop j) := by
      conv => lhs; rw [← List.take_append_drop j ds]
      rw [Ox.base, Ox.base, Ox.base, ← List.sum_append, ← List.map_append]
    rw [hdr] at e; simp only [Ox.base, List.map_cons, List.sum_cons] at e hbs; omega
  have hcb : ∀ q ∈ x, q.text.length ≤ 10000000000 := hx
  have hxt := hcb x[j] (by simp)
  rw [hdr] at hsk hsa hsal
  simp only [Ox.target, List.map_cons, List.sum_cons] at hsk
  generalize x[j] = y at *
  cases p with
  | ins l =>
    obtain ⟨rfl, hln⟩ := Ox.parse_ins' hpp
    have hpi := Ox.parse_ins hpp
    have hpo : Ox.points (Ox.encs l) = some l := hpi.2.2.1
    have htl : Ox.tlen (Ox.encs l) = (l.length : Int) := by simp [Ox.tlen, hpo]
    simp only [Ox.DOp.target] at hsk
    simp only at hxt
    have hpa : (Ox.Atom.mk ⟨oc, on⟩ (k : Int) (Ox.encs l)).pts = l := by simp [Ox.Atom.pts, hpo]
    have haok : (Ox.Atom.mk ⟨oc, on⟩ (k : Int) (Ox.encs l)).ok := ⟨hok, by show (0 : Int) ≤ k; omega, by rw [hpa]; show (k : Int) + l.length ≤ 1000; omega, by rw [hpa]; exact hpo, by rw [hpa]; exact hln⟩
    repeat (first | refine Ops.val rfl rfl rfl (V.loadHA (cs := [.int .i64 2, .int .i64 0, str (Ox.encs l)]) rfl rfl rfl (fun i u hi => HV.le.cell hle (hc i u hi))) ?_ | refine goS _ ?_)
    refine Ops.eff rfl rfl rfl (E.alloc rfl) fun _ => Ops.ex fun b17 => Ops.pure ?_
    rintro rfl
    refine Ops.eff0 rfl rfl (E.store 0 rfl rfl rfl rfl rfl rfl rfl) fun _ => ?_
    repeat (first | refine Ops.val rfl rfl rfl (V.loadOP 3 [.int .i64 oc, .int .i64 on] rfl rfl rfl rfl rfl) ?_ | refine goS _ ?_)
    refine Ops.eff rfl rfl rfl (Eff.callAt 2 (fn (by kernel_rfl)) rfl (Ωc := [DocM sv sd]) rfl (add_does sv sd ⟨⟨oc, on⟩, (k : Int), Ox.encs l⟩ (fun q hq => (hsd.ok q hq).small) (by omega) haok.small sh)) fun _ => Ops.ex fun _ => Ops.ex fun _ => Ops.pure ?_
    rintro ⟨rfl, rfl⟩
    refine goK _ ?_
    refine Ops.eff rfl rfl rfl (Eff.callAt 0 (fn (by kernel_rfl)) rfl (Ωc := []) rfl (Len_does (Ox.encs l) (by omega) sh)) fun _ => Ops.ex fun _ => Ops.ex fun _ => Ops.pure ?_
    rintro ⟨rfl, rfl, rfl⟩
    rw [htl]
    refine goK _ ?_
    obtain ⟨hA, hB⟩ := Ox.add_flat hsd haok
    refine At.back ⟨j + 1, k + l.length, Ox.add sd ⟨⟨oc, on⟩, (k : Int), Ox.encs l⟩, srd, su, _, sh⟩ (by show x.length - (j + 1) < x.length - j; omega) (by exact ⟨rfl, rfl, rfl, rfl, congrArg (fun z => some (Value.int .i64 z)) (by show (k : Int) + l.length = ((k + l.length : Nat) : Int); omega), rfl, rfl, rfl, trivial⟩) (fun w hw => ⟨⟨hlt, hle, hsu, hsr, hsf, hA, ?_, ?_⟩, ?_⟩)
    · show k + l.length + Ox.target (ds.drop (j + 1)) ≤ 1000
      simp only [Ox.target]; omega
    · show Ox.flat (Ox.add sd _) ++ Ox.applyF ⟨oc, on⟩ (k + l.length) (Ox.flat srd) (ds.drop (j + 1)) = _
      rw [hB, ← hsa, Ox.applyF, List.append_assoc, Ox.Atom.flat, hpa]
    · exact (hw.sub (by exact List.Sublist.cons_cons _ (List.sublist_cons_self _ _))).perm (List.Perm.swap ..)
  | keep n =>
    obtain ⟨rfl, hn1⟩ := Ox.parse_keep hpp
    simp only [Ox.DOp.target] at hsk
    simp only [Ox.DOp.base] at hpb
    repeat (first | refine Ops.val rfl rfl rfl (V.loadHA (cs := [.int .i64 1, .int .i64 (n : Int), str []]) rfl rfl rfl (fun i u hi => HV.le.cell hle (hc i u hi))) ?_ | refine goS _ ?_)
    refine Ops.eff rfl rfl rfl (E.alloc rfl) fun _ => Ops.ex fun b17 => Ops.pure ?_
    rintro rfl
    refine Ops.eff0 rfl rfl (E.store 0 rfl rfl rfl rfl rfl rfl rfl) fun _ => ?_
    refine goK _ ?_
    refine Ops.eff rfl rfl rfl (Eff.callAt 1 (fn (by kernel_rfl)) rfl (Ωc := [RdM br su, DocM sv sd]) rfl (rtake_does br su sv n sd srd true hsd hsr (by omega) (by omega) sh hsu)) fun _ => Ops.ex fun _ => Ops.ex fun _ => Ops.pure ?_
    rintro ⟨hle2, d', rd', u', rfl, hu', hr', hd', hfd', hfr'⟩
    refine goK _ ?_
    refine At.back ⟨j + 1, k, d', rd', u', _, _⟩ (by show x.length - (j + 1) < x.length - j; omega) (by exact ⟨rfl, rfl, rfl, rfl, rfl, rfl, rfl, rfl, trivial⟩) (fun w hw => ⟨⟨hlt, hle.trans hle2, hu', hr', ?_, hd', ?_, ?_⟩, ?_⟩)
    · show (Ox.flat rd').length ≤ 1000
      rw [hfr', List.length_drop]; omega
    · show k + Ox.target (ds.drop (j + 1)) ≤ 1000
      simp only [Ox.target]; omega
    · show Ox.flat d' ++ Ox.applyF ⟨oc, on⟩ k (Ox.flat rd') (ds.drop (j + 1)) = _
      rw [hfd', hfr', ← hsa, Ox.applyF]; simp
    · exact hw.sub (by exact List.Sublist.cons_cons _ (List.Sublist.cons_cons _ (List.sublist_cons_self _ _)))
  | del n =>
    obtain ⟨rfl, hn1⟩ := Ox.parse_del hpp
    simp only [Ox.DOp.target] at hsk
    simp only [Ox.DOp.base] at hpb
    repeat (first | refine Ops.val rfl rfl rfl (V.loadHA (cs := [.int .i64 3, .int .i64 (n : Int), str []]) rfl rfl rfl (fun i u hi => HV.le.cell hle (hc i u hi))) ?_ | refine goS _ ?_)
    refine Ops.eff rfl rfl rfl (E.alloc rfl) fun _ => Ops.ex fun b17 => Ops.pure ?_
    rintro rfl
    refine Ops.eff0 rfl rfl (E.store 0 rfl rfl rfl rfl rfl rfl rfl) fun _ => ?_
    refine goK _ ?_
    refine Ops.eff rfl rfl rfl (Eff.callAt 1 (fn (by kernel_rfl)) rfl (Ωc := [RdM br su, DocM sv sd]) rfl (rtake_does br su sv n sd srd false hsd hsr (by omega) (by omega) sh hsu)) fun _ => Ops.ex fun _ => Ops.ex fun _ => Ops.pure ?_
    rintro ⟨hle2, d', rd', u', rfl, hu', hr', hd', hfd', hfr'⟩
    refine goK _ ?_
    refine At.back ⟨j + 1, k, d', rd', u', _, _⟩ (by show x.length - (j + 1) < x.length - j; omega) (by exact ⟨rfl, rfl, rfl, rfl, rfl, rfl, rfl, rfl, trivial⟩) (fun w hw => ⟨⟨hlt, hle.trans hle2, hu', hr', ?_, hd', ?_, ?_⟩, ?_⟩)
    · show (Ox.flat rd').length ≤ 1000
      rw [hfr', List.length_drop]; omega
    · show k + Ox.target (ds.drop (j + 1)) ≤ 1000
      simp only [Ox.target]; omega
    · show Ox.flat d' ++ Ox.applyF ⟨oc, on⟩ k (Ox.flat rd') (ds.drop (j + 1)) = _
      rw [hfd', hfr', ← hsa, Ox.applyF]; simp
    · exact hw.sub (by exact List.Sublist.cons_cons _ (List.Sublist.cons_cons _ (List.sublist_cons_self _ _)))
end Go.Proofs.YthjgbmbaabpgmaaGreat
/-
  The walk's own logic: what the call owns is lent to a callee that reads it alone.
-/
namespace Go.Sy
open Go Go.RowKit

/-- a block more is known to stay -/
def HV.lendP (h : HV) (g : Nat) (o : Obj) : HV := fun b => if b = g then some o else h b
theorem HV.lendP_le {h : HV} {g : Nat} {o : Obj} (hg : h g = none) : HV.le h (h.lendP g o) := fun b o' e => by
  unfold HV.lendP
  by_cases hb : b = g
  · subst hb; rw [hg] at e; cases e
  · rw [if_neg hb]; exact e

theorem Mem.lend {i : Itm} {Ωc : List Itm} {h : HV} {w0 : World} {g : Nat} {o : Obj} (hm : Mem (ctx w0 (i :: Ωc) h) (i :: Ωc) h w0) (hB : ∀ b, i.B b ↔ b = g) (ho : w0.heap[g]? = some o) :
    h g = none ∧ Mem (ctx w0 Ωc (h.lendP g o)) Ωc (h.lendP g o) w0 ∧ ∀ Ω' w', Mem (ctx w0 Ωc (h.lendP g o)) Ω' (h.lendP g o) w' → Mem (ctx w0 (i :: Ωc) h) (i :: Ω') h w' := by
  have hsep := List.pairwise_cons.1 hm.sep
  have hgn : h g = none := hm.apart i (by simp) g ((hB g).2 rfl)
  have hne : ∀ j ∈ Ωc, ∀ b, j.B b → b ≠ g := fun j hj b hb e => hsep.1 j hj b ((hB b).2 e) hb
  refine ⟨hgn, ⟨rfl, rfl, rfl, Nat.le_refl _, fun _ _ _ => rfl, HExt.refl _ _ _, fun b o' e => ?_, fun j hj => hm.own j (List.mem_cons_of_mem _ hj), hsep.2, fun j hj b hb => ?_, fun j hj b hb => .inr ⟨j, hj, hb⟩⟩, fun Ω' w' m' => ?_⟩
  · unfold HV.lendP at e
    split at e
    · rename_i hb; subst hb; cases e; exact ho
    · exact hm.hv b o' e
  · unfold HV.lendP; rw [if_neg (hne j hj b hb)]; exact hm.apart j (List.mem_cons_of_mem _ hj) b hb
  · have hgw : w'.heap[g]? = some o := m'.hv g o (by simp [HV.lendP])
    have hput : ∀ b, b ≠ g → h.lendP g o b = h b := fun b hb => by simp [HV.lendP, hb]
    refine ⟨m'.os, m'.tape, m'.output, m'.size, fun b h1 h2 => m'.still b h1 fun ⟨j, hj, hb⟩ => h2 ⟨j, List.mem_cons_of_mem _ hj, hb⟩, HExt.refl _ _ _, fun b o' e => m'.hv b o' (HV.lendP_le hgn b o' e), fun j hj => ?_, List.pairwise_cons.2 ⟨fun j hj b h1 h2 => ?_, m'.sep⟩, fun j hj b hb => ?_, fun j hj b hb => ?_⟩
    · rcases List.mem_cons.1 hj with rfl | hj
      · exact j.loc w0 w' (fun b hb => by rw [(hB b).1 hb, hgw, ho]) (hm.own j (by simp))
      · exact m'.own j hj
    · have e := m'.apart j hj b h2
      rw [(hB b).1 h1] at e
      simp [HV.lendP] at e
    · rcases List.mem_cons.1 hj with rfl | hj
      · exact hm.apart j (by simp) b hb
      · have e := m'.apart j hj b hb
        by_cases hbg : b = g
        · subst hbg; exact hgn
        · rw [hput b hbg] at e; exact e
    · rcases List.mem_cons.1 hj with rfl | hj
      · exact .inr ⟨j, by simp, hb⟩
      · rcases m'.mine j hj b hb with h1 | ⟨j', hj', hb'⟩
        · exact .inl h1
        · exact .inr ⟨j', List.mem_cons_of_mem _ hj', hb'⟩

/-- a row is lent to a callee that leaves what is known as it is -/
theorem Does.lend {P : Program} {f : FuncId} {args : Array Value} {e m N : Nat} {v : Value} {xs : List Value} {Ωc : List Itm} {h : HV} {post : Value → List Itm → Prop}
    (hs : ∀ h', HV.le h h' → SlH h' v m N xs → Does P f args Ωc h' fun r Ω' h'' => post r Ω' ∧ h' = h'') :
    Does P f args (row e m v N xs :: Ωc) h fun r Ω' h' => (∃ Ω'', post r Ω'' ∧ Ω' = row e m v N xs :: Ω'') ∧ h = h' := fun w0 hm => by
  have hown : w0.ownsRow 0 e m v N xs := hm.own _ (List.mem_cons_self ..)
  rcases hown.2 with ⟨rfl, rfl⟩ | ⟨g, cap, cur, rfl, _, hg, hn, _, hsz, ht⟩
  · have m1 : Mem (ctx w0 (row e m (.slice none 0 0) 0 xs :: Ωc) h) (Ωc ++ [row e m (.slice none 0 0) 0 xs]) h w0 := hm.perm (List.perm_append_comm (l₁ := [row e m (.slice none 0 0) 0 xs]) (l₂ := Ωc))
    refine (hs h (HV.le.refl h) ⟨hown.1, .inl ⟨⟨_, rfl⟩, rfl⟩⟩ w0 m1.hand).mono ?_
    rintro e' w' ⟨r, rfl, Ω', h', ⟨hp, rfl⟩, hm'⟩
    exact ⟨r, rfl, _, h, ⟨⟨Ω', hp, rfl⟩, rfl⟩, (m1.call hm').perm (List.perm_append_comm (l₁ := Ω') (l₂ := [row e m (.slice none 0 0) 0 xs]))⟩
  · obtain ⟨hgn, hm1, hback⟩ := hm.lend (i := row e m (.slice (some ⟨g, 0, none⟩) N cap) N xs) (g := g) (o := .cells cur e (0, 0)) (fun b => by
      show (Value.slice (some ⟨g, 0, none⟩) N cap).ownBlock = some b ↔ b = g
      simp [Value.ownBlock, eq_comm]) hg
    refine (hs _ (HV.lendP_le hgn) ⟨hown.1, .inr ⟨g, 0, cap, rfl, hn, fun i u hu => ?_⟩⟩ w0 hm1).mono ?_
    · have hi : i < N * m := by have := (List.getElem?_eq_some_iff.1 hu).1; rw [hown.1] at this; exact this
      have hcu : cur[i]? = some u := by
        rw [← ht, List.getElem?_take, if_pos hi] at hu
        simpa using hu
      simp [cellH, HV.lendP, hcu]
    · rintro e' w' ⟨r, rfl, Ω', h', ⟨hp, rfl⟩, hm'⟩
      exact ⟨r, rfl, _, h, ⟨⟨Ω', hp, rfl⟩, rfl⟩, hback Ω' w' hm'⟩

theorem Does.mono {P : Program} {f : FuncId} {args : Array Value} {Ω : List Itm} {h : HV} {post post' : Value → List Itm → HV → Prop} (hs : Does P f args Ω h post) (hp : ∀ r Ω' h', post r Ω' h' → post' r Ω' h') : Does P f args Ω h post' := fun w0 hm => by
  refine (hs w0 hm).mono ?_
  rintro e w' ⟨r, rfl, Ω', h', hq, hm'⟩
  exact ⟨r, rfl, Ω', h', hp _ _ _ hq, hm'⟩
end Go.Sy
/-
  The walk's own logic: a range over a map.
-/
namespace Go.Sy
open Go Go.RowKit
open Go.ChangeMaps (setBlock)

/-- an iterator over a map of L entries, of which those numbered sn have come -/
abbrev itI (r b L : Nat) (sn : Array Nat) : Itm := blk r (.mapIter (some b) L sn L)

section
variable {P : Program} {Q : Exit → Act → World → Prop} {n : Sz} {σ : Slots} {k : List It} {ops : Array Oper} {l : List Oper} {S S' : World → Prop}
theorem Ops.or (h1 : Ops P Q n σ S ops l k) (h2 : Ops P Q n σ S' ops l k) : Ops P Q n σ (fun w => S w ∨ S' w) ops l k := fun a w ha hw => hw.elim (h1 a w ha) (h2 a w ha)
end

section
variable {α : Type} {κ : α → Value} {P : Program} {σ : Slots} {c : Ctx} {Ω : List Itm} {h : HV} {ty T kt e : TypeId} {ps : String} {af : Array Edge} {g : Option (Nat × Bool)} {d : Option Nat} {b r : Nat} {m : List (α × Value)} {sn : Array Nat} {x : Operand}

theorem Eff.range (t : Nat) (hT : P.underlying T = some (.map kt e)) (hx : ev σ x = some (.map (some b))) (ht : Ω[t]? = some (mapI κ b m)) :
    Eff P σ (Mem c Ω h) ⟨d, .range T x, ty, ps, af, g⟩ fun v w => ∃ r, v = .pointer (some ⟨r, 0, none⟩) ∧ Mem c (itI r b m.length #[] :: Ω) h w := fun ρ w hρ hw => by
  have hb := hw.blk ht
  have : (execOp ρ ⟨d, .range T x, ty, ps, af, g⟩).run P w = .ok (.value (.pointer (some ⟨w.heap.size, 0, none⟩))) (w.alloc (.mapIter (some b) m.length #[] m.length)) := by
    simp [execOp, hρ x _ hx, Instr.range, run_underlying hT, MapKept.run_getObj_map hb, newObj, Sem.run]
  rw [this]
  exact ⟨_, rfl, hw.alloc _⟩

theorem ents_stamp (κ : α → Value) : ∀ (i : Nat) (m : List (α × Value)), (ents κ i m).map (·.born) = List.range' i m.length
  | _, [] => rfl
  | i, (_, _) :: r => by simp [ents, ents_stamp κ (i + 1) r, List.range'_succ]
theorem mem_ents {i : Nat} : ∀ {m : List (α × Value)} {x : MapEntry}, x ∈ ents κ i m → ∃ j a v, m[j]? = some (a, v) ∧ x = ⟨κ a, v, i + j⟩ := by
  intro m x hx
  obtain ⟨j, hj⟩ := List.getElem?_of_mem hx
  have hl : j < m.length := by have := (List.getElem?_eq_some_iff.1 hj).1; rwa [ents_length] at this
  have hg : m[j]? = some (m[j].1, m[j].2) := by simp [hl]
  have := ents_get (κ := κ) (i := i) hg
  rw [hj] at this
  cases this
  exact ⟨j, m[j].1, m[j].2, hg, rfl⟩

theorem Eff.next (t j : Nat) (hx : ev σ x = some (.pointer (some ⟨r, 0, none⟩))) (hj : Ω[j]? = some (itI r b m.length sn)) (ht : Ω[t]? = some (mapI κ b m)) :
    Eff P σ (Mem c Ω h) ⟨d, .next x false, ty, ps, af, g⟩ fun v w => (v = .tuple #[.bool false] ∧ (∀ i, i < m.length → i ∈ sn) ∧ Mem c Ω h w) ∨
      ∃ i a u, v = .tuple #[.bool true, κ a, u] ∧ m[i]? = some (a, u) ∧ i ∉ sn ∧ Mem c (Ω.set j (itI r b m.length (sn.push i))) h w := fun ρ w hρ hw => by
  have hb := hw.blk ht
  have hr := hw.blk hj
  have hold : ∀ x ∈ (ents κ 0 m).toArray.toList, x.born < m.length := fun x hx => by
    obtain ⟨j, a, v, hg, rfl⟩ := mem_ents (κ := κ) (by simpa using hx)
    have := (List.getElem?_eq_some_iff.1 hg).1
    simpa using this
  have hexec : (execOp ρ ⟨d, .next x false, ty, ps, af, g⟩).run P w = ((Instr.next (.pointer (some ⟨r, 0, none⟩)) false ty).run P w).andThen fun v w => .ok (.value v) w := by
    simp [execOp, hρ x _ hx]
  rw [hexec]
  rcases run_next_at (P := P) w ty r b m.length m.length sn (ents κ 0 m).toArray m.length hr hb hold (Nat.le_refl _) with ⟨h0, hrun⟩ | ⟨e, he, w1, hw1, hrun⟩
  · rw [hrun]
    refine .inl ⟨rfl, fun i hi => ?_, hw⟩
    apply Classical.byContradiction
    intro hn
    have hg : m[i]? = some (m[i].1, m[i].2) := by simp [hi]
    have hm := List.mem_of_getElem? (ents_get (κ := κ) (i := 0) hg)
    have : (⟨κ m[i].1, m[i].2, 0 + i⟩ : MapEntry) ∈ (leftOf (ents κ 0 m).toArray sn) := by
      unfold leftOf
      rw [Array.mem_filter]
      exact ⟨by simpa using hm, by simpa using hn⟩
    rw [Array.size_eq_zero_iff.1 h0] at this
    simp at this
  · rw [hrun]
    have he' : e ∈ ents κ 0 m ∧ e.born ∉ sn := by
      unfold leftOf at he
      simp at he
      exact he
    obtain ⟨i, a, v, hg, rfl⟩ := mem_ents he'.1
    refine .inr ⟨i, a, v, rfl, hg, by simpa using he'.2, ?_⟩
    have hm1 : Mem c Ω h w1 := by
      rcases hw1 with rfl | rfl
      · exact hw
      · exact hw.drew _
    refine hm1.change_at j hj rfl rfl rfl ?_ ?_ ?_ (fun b hb => .inl hb)
    · simp [setBlock]
    · intro b' hb1 hb'
      have : b' ≠ r := fun e => hb' e
      simp [setBlock, this.symm]
    · have hr1 : w1.heap[r]? = some (.mapIter (some b) m.length sn m.length) := hm1.blk hj
      have hlt := (Array.getElem?_eq_some_iff.1 hr1).1
      show (setBlock w1 r _).heap[r]? = _
      simp [setBlock, hlt]

theorem Val.entry {a : α} {u : Value} {i : Nat} (t j : Nat) (hx : ev σ x = some (.pointer (some ⟨r, 0, none⟩))) (hj : Ω[j]? = some (itI r b m.length (sn.push i))) (ht : Ω[t]? = some (mapI κ b m)) (hi : m[i]? = some (a, u)) :
    Val P σ (Mem c Ω h) ⟨d, .entry x, ty, ps, af, g⟩ (.tuple #[κ a, u]) := fun ρ w hρ hw => by
  have hb := hw.blk ht
  have hr := hw.blk hj
  have := run_entry_at (P := P) w r b m.length sn (ents κ 0 m).toArray m.length ⟨κ a, u, i⟩ hr hb (by have := List.mem_of_getElem? (ents_get (κ := κ) (i := 0) hi); simpa using this) (by show (List.map _ (ents κ 0 m)).Nodup; rw [ents_stamp]; exact List.nodup_range')
  simp [execOp, hρ x _ hx, this]
end
section
variable {P : Program} {σ : Slots} {c : Ctx} {Ω : List Itm} {h : HV} {ty : TypeId} {ps : String} {af : Array Edge} {g : Option (Nat × Bool)} {d : Option Nat}
theorem Eff.buildSlice2 {T e by_ : Nat} {x0 x1 : Operand} {v0 v1 : Value} (hT : elt P T = some (e, 1, by_)) (hx0 : ev σ x0 = some v0) (hx1 : ev σ x1 = some v1) (hv0 : v0.cells = #[v0]) (hv1 : v1.cells = #[v1]) :
    Eff P σ (Mem c Ω h) ⟨d, .buildSlice T 2 #[(0, x0), (1, x1)], ty, ps, af, g⟩ fun r w => ∃ b, r = .slice (some ⟨b, 0, none⟩) 2 2 ∧ Mem c (blk b (.cells #[v0, v1] e (0, 0)) :: Ω) h w := fun ρ w hρ hw => by
  obtain ⟨hu', i, z, hi, hz, hs, hb, hzc, hpos⟩ := elt_spec hT
  have hrun : (execOp ρ ⟨d, .buildSlice T 2 #[(0, x0), (1, x1)], ty, ps, af, g⟩).run P w = .ok (.value (.slice (some ⟨w.heap.size, 0, none⟩) 2 2)) (w.alloc (.cells #[v0, v1] e (0, 0))) := by
    have hzero : (zeroValue e).run P w = .ok z w := by simp [zeroValue, typeInfo, hi, hz]
    have hsize : (sizeOf e).run P w = .ok 1 w := by simp [sizeOf, typeInfo, hi, hs]
    have hcells : Instr.fill (fun i => some (i, 1)) ((Array.range 2).map (fun x => z.cells[x % z.cells.size]!)) [(0, v0), (1, v1)] = some #[v0, v1] := by
      rw [show Array.range 2 = #[0, 1] from by decide]
      simp [Instr.fill, hv0, hv1]
    simp [execOp, Instr.buildSlice, hρ x0 _ hx0, hρ x1 _ hx1, run_underlying hu', hsize, hzero, newRow, newObj, Sem.run, hcells]
  rw [hrun]
  exact ⟨_, rfl, hw.alloc _⟩
theorem Eff.buildSlice3 {T e by_ : Nat} {x0 x1 x2 : Operand} {v0 v1 v2 : Value} (hT : elt P T = some (e, 1, by_)) (hx0 : ev σ x0 = some v0) (hx1 : ev σ x1 = some v1) (hx2 : ev σ x2 = some v2) (hv0 : v0.cells = #[v0]) (hv1 : v1.cells = #[v1]) (hv2 : v2.cells = #[v2]) :
    Eff P σ (Mem c Ω h) ⟨d, .buildSlice T 3 #[(0, x0), (1, x1), (2, x2)], ty, ps, af, g⟩ fun r w => ∃ b, r = .slice (some ⟨b, 0, none⟩) 3 3 ∧ Mem c (blk b (.cells #[v0, v1, v2] e (0, 0)) :: Ω) h w := fun ρ w hρ hw => by
  obtain ⟨hu', i, z, hi, hz, hs, hb, hzc, hpos⟩ := elt_spec hT
  have hrun : (execOp ρ ⟨d, .buildSlice T 3 #[(0, x0), (1, x1), (2, x2)], ty, ps, af, g⟩).run P w = .ok (.value (.slice (some ⟨w.heap.size, 0, none⟩) 3 3)) (w.alloc (.cells #[v0, v1, v2] e (0, 0))) := by
    have hzero : (zeroValue e).run P w = .ok z w := by simp [zeroValue, typeInfo, hi, hz]
    have hsize : (sizeOf e).run P w = .ok 1 w := by simp [sizeOf, typeInfo, hi, hs]
    have hcells : Instr.fill (fun i => some (i, 1)) ((Array.range 3).map (fun x => z.cells[x % z.cells.size]!)) [(0, v0), (1, v1), (2, v2)] = some #[v0, v1, v2] := by
      rw [show Array.range 3 = #[0, 1, 2] from by decide]
      simp [Instr.fill, hv0, hv1, hv2]
    simp [execOp, Instr.buildSlice, hρ x0 _ hx0, hρ x1 _ hx1, hρ x2 _ hx2, run_underlying hu', hsize, hzero, newRow, newObj, Sem.run, hcells]
  rw [hrun]
  exact ⟨_, rfl, hw.alloc _⟩
theorem Eff.buildSlice4 {T e by_ : Nat} {x0 x1 x2 x3 : Operand} {v0 v1 v2 v3 : Value} (hT : elt P T = some (e, 1, by_)) (hx0 : ev σ x0 = some v0) (hx1 : ev σ x1 = some v1) (hx2 : ev σ x2 = some v2) (hx3 : ev σ x3 = some v3) (hv0 : v0.cells = #[v0]) (hv1 : v1.cells = #[v1]) (hv2 : v2.cells = #[v2]) (hv3 : v3.cells = #[v3]) :
    Eff P σ (Mem c Ω h) ⟨d, .buildSlice T 4 #[(0, x0), (1, x1), (2, x2), (3, x3)], ty, ps, af, g⟩ fun r w => ∃ b, r = .slice (some ⟨b, 0, none⟩) 4 4 ∧ Mem c (blk b (.cells #[v0, v1, v2, v3] e (0, 0)) :: Ω) h w := fun ρ w hρ hw => by
  obtain ⟨hu', i, z, hi, hz, hs, hb, hzc, hpos⟩ := elt_spec hT
  have hrun : (execOp ρ ⟨d, .buildSlice T 4 #[(0, x0), (1, x1), (2, x2), (3, x3)], ty, ps, af, g⟩).run P w = .ok (.value (.slice (some ⟨w.heap.size, 0, none⟩) 4 4)) (w.alloc (.cells #[v0, v1, v2, v3] e (0, 0))) := by
    have hzero : (zeroValue e).run P w = .ok z w := by simp [zeroValue, typeInfo, hi, hz]
    have hsize : (sizeOf e).run P w = .ok 1 w := by simp [sizeOf, typeInfo, hi, hs]
    have hcells : Instr.fill (fun i => some (i, 1)) ((Array.range 4).map (fun x => z.cells[x % z.cells.size]!)) [(0, v0), (1, v1), (2, v2), (3, v3)] = some #[v0, v1, v2, v3] := by
      rw [show Array.range 4 = #[0, 1, 2, 3] from by decide]
      simp [Instr.fill, hv0, hv1, hv2, hv3]
    simp [execOp, Instr.buildSlice, hρ x0 _ hx0, hρ x1 _ hx1, hρ x2 _ hx2, hρ x3 _ hx3, run_underlying hu', hsize, hzero, newRow, newObj, Sem.run, hcells]
  rw [hrun]
  exact ⟨_, rfl, hw.alloc _⟩
end

/-- a block of cells is a row -/
theorem Mem.rowOf {c : Ctx} {Ω : List Itm} {h : HV} {w : World} {b e m N : Nat} {cs : List Value} (hw : Mem c (Sy.blk b (.cells cs.toArray e (0, 0)) :: Ω) h w) (hl : cs.length = N * m) (hN : N ≤ maxLen) :
    Mem c (row e m (.slice (some ⟨b, 0, none⟩) N N) N cs :: Ω) h w := by
  refine hw.retag 0 rfl ?_ (fun i hi => ?_)
  · exact ⟨hl, .inr ⟨b, N, cs.toArray, rfl, Nat.zero_le _, hw.blk (n := 0) rfl, Nat.le_refl _, hN, by simp [hl], by simp [← hl]⟩⟩
  · have hb' : (Value.slice (some ⟨b, 0, none⟩) N N).ownBlock = some i := hi
    simp [Value.ownBlock] at hb'
    exact hb'.symm

/-! some of what is owned, in another order -/
section
variable {P : Program} {Q : Exit → Act → World → Prop} {n : Sz} {σ : Slots} {k : List It} {ops : Array Oper} {l : List Oper} {c : Ctx} {Ω Ω' : List Itm} {h : HV} {w : World}
theorem Mem.pick (m : Mem c Ω h w) (idx : List Nat) (hn : idx.Nodup) (e : Ω' = idx.filterMap (Ω[·]?)) : Mem c Ω' h w := by
  subst e
  have hmem : ∀ i ∈ idx.filterMap (Ω[·]?), i ∈ Ω := fun i hi => by
    obtain ⟨j, _, hj⟩ := List.mem_filterMap.1 hi
    exact List.mem_of_getElem? hj
  refine { m with own := fun i hi => m.own i (hmem i hi), sep := ?_, apart := fun i hi => m.apart i (hmem i hi), mine := fun i hi => m.mine i (hmem i hi) }
  refine List.pairwise_filterMap.2 (hn.imp fun {a b} hab x hx y hy z hzx hzy => ?_)
  obtain ⟨ha, rfl⟩ := List.getElem?_eq_some_iff.1 hx
  obtain ⟨hb, rfl⟩ := List.getElem?_eq_some_iff.1 hy
  have hp := List.pairwise_iff_getElem.1 m.sep
  rcases Nat.lt_or_gt_of_ne hab with hlt | hlt
  · exact hp a b ha hb hlt z hzx hzy
  · exact hp b a hb ha hlt z hzy hzx
theorem At.pick (idx : List Nat) (hn : idx.Nodup) (e : Ω' = idx.filterMap (Ω[·]?)) (hk : At P Q n σ (Mem c Ω' h) k) : At P Q n σ (Mem c Ω h) k := hk.imp fun _ m => m.pick idx hn e
theorem Ops.pick (idx : List Nat) (hn : idx.Nodup) (e : Ω' = idx.filterMap (Ω[·]?)) (hk : Ops P Q n σ (Mem c Ω' h) ops l k) : Ops P Q n σ (Mem c Ω h) ops l k := hk.imp fun _ m => m.pick idx hn e
end
end Go.Sy
