/-
  The law's own example holds.
-/
import Derived.Test.YthjgbmbaabpgmaaGreatSrd05
import Derived.Test.YthjgbmbaabpgmaaGreatSrd44
import Derived.Test.YthjgbmbaabpgmaaGreatSrd46
import Derived.Test.YthjgbmbaabpgmaaGreatSrd45
set_option linter.unusedVariables false
set_option linter.unusedSimpArgs false
set_option linter.unusedSectionVars false
namespace Go.Proofs.YthjgbmbaabpgmaaGreat
open Go.Sy
set_option maxRecDepth 4000
set_option maxHeartbeats 4000000
namespace Ox
def nmA : List UInt8 := [97]
def abc : List Nat := [97, 98, 99]
def tAbc : List UInt8 := [97, 98, 99]
def lq1 : Rq := ⟨1, nmA, [], 0, [], []⟩
def lq2 : Rq := ⟨2, nmA, [], 0, tAbc, []⟩
theorem abc_enc : tAbc = encs abc := by decide
theorem abc_pts : ∀ p ∈ abc, isPoint p = true := by decide
theorem abc_points : points tAbc = some abc := by rw [abc_enc]; exact points_encs abc_pts
def ls1 : St := ⟨2, 2, [⟨1, [], [], [], 0, 0⟩], [⟨1, nmA, [1]⟩], []⟩
theorem live1 {e : Int} {s' : St} {r : Rp} (h : DoR St.new lq1 e s' r) : e = 0 ∧ s' = ls1 ∧ r.num = 1 ∧ r.kind = 1 := by
  have hc : createE St.new lq1 = 0 := by
    unfold createE
    rw [if_neg (by rintro ⟨b, hb, _⟩; simp [St.new] at hb), if_neg (by simp [St.new])]
  have key : ∀ k e s' r, HdR St.new lq1 k e s' r → k = 1 → e = 0 ∧ s' = ls1 ∧ r.num = 1 := by
    intro k e s' r hr hk
    cases hr with
    | createE h1 => exact absurd hc h1
    | create h1 => exact ⟨rfl, rfl, rfl⟩
    | _ => exact absurd hk (by decide)
  cases h with
  | arg h1 => exact absurd (show 1 ≤ lq1.kind ∧ lq1.kind ≤ 11 by decide) h1
  | name _ h1 => exact absurd h1 (by decide)
  | none _ _ h1 _ _ => exact absurd rfl h1
  | bad _ _ h1 h2 => exact absurd (key _ _ _ _ h1 rfl).1 h2
  | done _ _ h1 => exact ⟨rfl, (key _ _ _ _ h1 rfl).2.1, (key _ _ _ _ h1 rfl).2.2, rfl⟩
theorem applied_nil (o : Org) : applied [] [] o = [] := by
  unfold applied
  split <;> rfl
theorem ls1_doc : ls1.doc 1 = [] := by
  show docsOf ([] ++ [⟨1, [], [], [], 0, 0⟩]) 1 = []
  rw [docsOf_snoc]
  simp only [if_pos]
  exact applied_nil _
theorem diff_nil {y : List Nat} {i k : Nat} {g : Gp} (h : DiffR [] y i k g) : g = ⟨0, k, 0, []⟩ := by
  induction h with
  | start => rfl
  | same _ h1 _ _ _ => simp at h1
  | del _ h1 _ _ => simp at h1
  | ins _ _ _ ih => rw [ih]
theorem good_nil : Good [] := ⟨⟨by simp, by simp [gaps]⟩, by simp [namesOf, flat], by simp [flat]⟩
def lrun : Atom := ⟨⟨0, 2⟩, 0, tAbc⟩
theorem lrun_pts : lrun.pts = abc := by show (points tAbc).getD [] = abc; rw [abc_points]; rfl
theorem lrun_ok : lrun.ok := ⟨by decide, by decide, by rw [lrun_pts]; decide, by rw [lrun_pts]; exact abc_points, by rw [lrun_pts]; decide⟩
theorem lrun_canon : Canon [lrun] := ⟨by intro a ha; simp at ha; subst ha; exact lrun_ok, by simp [gaps]⟩
theorem live2 {e : Int} {s' : St} {r : Rp} (h : DoR ls1 lq2 e s' r) : e = 0 ∧ r.num = 2 ∧ 2 ∈ s'.cs.map Cm.num ∧ s'.doc 2 = [lrun] := by
  have hat : BrAt ls1.bs (·.name = lq2.name) 0 ⟨1, nmA, [1]⟩ := ⟨rfl, rfl, fun j x hj => by omega⟩
  have hnm : named ls1 lq2.name := ⟨⟨1, nmA, [1]⟩, by simp [ls1], rfl⟩
  have hl : loadE ls1 lq2 = 0 := by
    have ht : tlen lq2.text = 3 := by show tlen tAbc = 3; rw [tlen, abc_points]; rfl
    unfold loadE
    rw [ht, if_neg (by omega), if_neg (by omega), if_neg (by simp [ls1])]
  have key : ∀ k e s' r, HdR ls1 lq2 k e s' r → k = 2 → e = 0 ∧ r.num = 2 ∧ 2 ∈ s'.cs.map Cm.num ∧ s'.doc 2 = [lrun] := by
    intro k e s' r hr hk
    cases hr with
    | loadE h1 => exact absurd hl h1
    | load i b x y g h1 ha hx hy hd =>
      obtain ⟨rfl, rfl⟩ := ha.inj hat
      refine ⟨rfl, rfl, by simp [St.addC, ls1], ?_⟩
      have hx0 : x = [] := by
        have h2 : points (text (ls1.doc 1)) = some x := hx
        rw [ls1_doc] at h2
        simp [text, points] at h2
        exact h2
      subst hx0
      have hy0 : y = abc := by
        have h2 : points tAbc = some y := hy
        rw [abc_points] at h2; exact (Option.some.inj h2).symm
      subst hy0
      have hg := diff_nil hd
      subst hg
      have hdo : diffOut abc ⟨0, abc.length, 0, []⟩ = [⟨2, 0, encs abc⟩] := rfl
      rw [hdo]
      show docsOf (ls1.cs ++ [⟨2, [1], [⟨2, 0, encs abc⟩], [], 0, 0⟩]) 2 = [lrun]
      rw [docsOf_snoc]
      simp only [if_pos]
      show applied (ls1.doc 1) [⟨2, 0, encs abc⟩] ⟨0, 2⟩ = [lrun]
      rw [ls1_doc]
      have hpa : parseAll [(⟨2, 0, encs abc⟩ : Op)] = some [.ins abc] := parseAll_snoc (a := []) rfl (parse_insI (by decide) abc_pts)
      have hln : lens [(⟨2, 0, encs abc⟩ : Op)] = (0, 3, 0) := by
        unfold lens
        rw [if_neg (by simp), hpa]
        rfl
      have he : applyE [] [⟨2, 0, encs abc⟩] ⟨0, 2⟩ = 0 := by
        unfold applyE
        rw [if_neg (by simp [(check_zero []).2 good_nil]), hln]
        simp [tlen, text, points, Org.ok]
      unfold applied
      rw [if_pos he, hpa]
      have hf : applyF ⟨0, 2⟩ 0 (flat []) ((some [DOp.ins abc]).getD []) = flat [lrun] := by
        have e1 : flat [lrun] = names ⟨0, 2⟩ 0 lrun.pts := by simp [flat, Atom.flat, lrun]
        rw [e1, lrun_pts]; rfl
      rw [hf, runsOf_canon lrun_canon]
    | _ => exact absurd hk (by decide)
  cases h with
  | arg h1 => exact absurd (show 1 ≤ lq2.kind ∧ lq2.kind ≤ 11 by decide) h1
  | name _ h1 => exact absurd h1 (by decide)
  | none _ _ _ _ h1 => exact absurd hnm h1
  | bad _ _ h1 h2 => exact absurd (key _ _ _ _ h1 rfl).1 h2
  | done _ _ h1 =>
    obtain ⟨_, h3, h4, h5⟩ := key _ _ _ _ h1 rfl
    exact ⟨rfl, h3, h4, h5⟩
end Ox
theorem V.eqlT106 {σ : Slots} {S : World → Prop} {ty T' : TypeId} {ps : String} {af : Array Edge} {g : Option (Nat × Bool)} {d : Option Nat} {x y : Operand} {a : Ox.Atom} (hx : ev σ x = some (.agg (atc a).toArray)) (hy : ev σ y = some (.agg (atc a).toArray)) : Val Tryz.prog σ S ⟨d, .binOp .eql 106 x y T', ty, ps, af, g⟩ (.bool true) := by
  have := Val.eqlS (P := Tryz.prog) (d := d) (ty := ty) (T' := T') (ps := ps) (af := af) (g := g) (S := S) hx hy (rec_guard r106) (eq106 9997 a a)
  simpa using this
attribute [local irreducible] At Ops Val Eff Does Res Dr
theorem live_does (h : HV) : Does Tryz.prog 38 #[] [] h (fun r Ω' h' => r = .bool true ∧ Ω' = [] ∧ HV.le h h') := by
  have hsn : StH h (.agg #[.int .i64 1, .int .i64 1, .slice none 0 0, .slice none 0 0, .slice none 0 0]) Ox.St.new := ⟨[], [], _, _, _, rfl, rfl, rfl, SlH.nil _ _, by simp, SlH.nil _ _, by simp, SlH.nil _ _⟩
  have hq1 : RqH h (.agg #[.int .i64 1, str Ox.nmA, str [], .int .i64 0, str [], .slice none 0 0]) Ox.lq1 (.slice none 0 0) := ⟨rfl, SlH.nil _ _, by decide, by decide, by decide, ⟨by decide, by decide⟩, by simp [Ox.lq1]⟩
  refine Does.of Tryz.func38 rfl Tryz.ntmps38 rfl fun c hc0 => ?_
  refine goK _ ?_
  refine Ops.eff rfl rfl rfl (Eff.call (fn (by kernel_rfl)) rfl (Ωc := []) rfl (New_does h)) fun _ => Ops.ex fun _ => Ops.ex fun _ => Ops.pure ?_
  rintro ⟨rfl, rfl, rfl⟩
  refine Ops.eff rfl rfl rfl (E.alloc rfl) fun _ => Ops.ex fun b1 => Ops.pure ?_
  rintro rfl
  refine goK _ ?_
  refine Ops.eff0 rfl rfl (E.store 0 rfl rfl rfl rfl rfl rfl rfl) fun _ => ?_
  refine goK _ ?_
  refine Ops.eff rfl rfl rfl (Eff.call (fn (by kernel_rfl)) rfl (Ωc := []) rfl (Do_does _ Ox.St.new h hsn 0 (by omega) Ox.Inv.new Ox.lq1 _ _ hq1)) fun _ => Ops.ex fun _ => Ops.ex fun _ => Ops.pure ?_
  rintro ⟨hle1, rfl, e, s1, rp, sv, rv, hR, rfl, hsv, hrv⟩
  rename_i h1
  obtain ⟨rfl, rfl, hr1, hr2⟩ := Ox.live1 hR
  obtain ⟨rk, rn, rt, rr, rl⟩ := rp
  simp only at hr1 hr2
  subst hr1; subst hr2
  have hinv1 : Ox.Inv 1 Ox.ls1 := Ox.Inv.new.req hR
  obtain ⟨xv, lv, rfl, hxv, hlv⟩ := hrv
  obtain ⟨xa, xcp, rfl⟩ := hxv.form
  obtain ⟨la, lcp, rfl⟩ := hlv.form
  obtain ⟨zs, ys, csv, bsv, ksv, hx⟩ := hsv
  have hsv : StH h1 sv Ox.ls1 := ⟨zs, ys, csv, bsv, ksv, hx⟩
  obtain rfl := hx.val
  obtain ⟨ca, ccp, rfl⟩ := hx.crow.form
  obtain ⟨ba, bcp, rfl⟩ := hx.brow.form
  obtain ⟨ka, kcp, rfl⟩ := hx.krow.form
  refine Ops.val rfl rfl rfl (Val.move rfl) ?_
  refine Ops.val rfl rfl rfl (Val.extract rfl rfl) ?_
  refine Ops.val rfl rfl rfl (Val.extract rfl rfl) ?_
  refine Ops.val rfl rfl rfl (Val.extract rfl rfl) ?_
  refine Ops.eff rfl rfl rfl (E.alloc rfl) fun _ => Ops.ex fun b2 => Ops.pure ?_
  rintro rfl
  refine Ops.eff0 rfl rfl (E.store 1 rfl rfl rfl rfl rfl rfl rfl) fun _ => ?_
  refine Ops.eff0 rfl rfl (E.store 0 rfl rfl rfl rfl rfl rfl rfl) fun _ => ?_
  refine goK _ ?_
  have hq2 : RqH h1 (.agg #[.int .i64 2, str Ox.nmA, str [], .int .i64 0, str Ox.tAbc, .slice none 0 0]) Ox.lq2 (.slice none 0 0) := ⟨rfl, SlH.nil _ _, by decide, by decide, by decide, ⟨by decide, by decide⟩, by simp [Ox.lq2]⟩
  refine Ops.eff rfl rfl rfl (Eff.call (fn (by kernel_rfl)) rfl (Ωc := []) rfl (Do_does _ Ox.ls1 h1 hsv 1 (by omega) hinv1 Ox.lq2 _ _ hq2)) fun _ => Ops.ex fun _ => Ops.ex fun _ => Ops.pure ?_
  rintro ⟨hle2, rfl, e, s2, rp2, sv2, rv2, hR2, rfl, hsv2, hrv2⟩
  rename_i h2
  obtain ⟨rfl, hr3, hin, hdoc⟩ := Ox.live2 hR2
  obtain ⟨rk2, rn2, rt2, rr2, rl2⟩ := rp2
  simp only at hr3
  subst hr3
  have hinv2 : Ox.Inv 2 s2 := hinv1.req hR2
  obtain ⟨xv2, lv2, rfl, hxv2, hlv2⟩ := hrv2
  obtain ⟨xa2, xcp2, rfl⟩ := hxv2.form
  obtain ⟨la2, lcp2, rfl⟩ := hlv2.form
  obtain ⟨zs2, ys2, csv2, bsv2, ksv2, hx2⟩ := hsv2
  have hsv2 : StH h2 sv2 s2 := ⟨zs2, ys2, csv2, bsv2, ksv2, hx2⟩
  obtain rfl := hx2.val
  obtain ⟨ca2, ccp2, rfl⟩ := hx2.crow.form
  obtain ⟨ba2, bcp2, rfl⟩ := hx2.brow.form
  obtain ⟨ka2, kcp2, rfl⟩ := hx2.krow.form
  refine Ops.val rfl rfl rfl (Val.move rfl) ?_
  refine Ops.val rfl rfl rfl (Val.extract rfl rfl) ?_
  refine Ops.val rfl rfl rfl (Val.extract rfl rfl) ?_
  refine Ops.val rfl rfl rfl (Val.extract rfl rfl) ?_
  refine Ops.eff0 rfl rfl (E.store 1 rfl rfl rfl rfl rfl rfl rfl) fun _ => ?_
  refine Ops.eff0 rfl rfl (E.store 0 rfl rfl rfl rfl rfl rfl rfl) fun _ => ?_
  refine goK _ ?_
  refine Ops.eff rfl rfl rfl (Eff.call (fn (by kernel_rfl)) rfl (Ωc := []) rfl (StDoc_does _ s2 h2 hsv2 hinv2.cs 2 ⟨by decide, by decide⟩)) fun _ => Ops.ex fun _ => Ops.ex fun _ => Ops.pure ?_
  rintro ⟨rfl, hle3, hr4⟩
  rename_i h3
  rcases hr4 with ⟨_, u, rfl, hu⟩ | ⟨hno, _⟩
  rotate_left
  · exact absurd hin hno
  rw [hdoc] at hu
  obtain ⟨ua, ucp, rfl⟩ := hu.form
  obtain ⟨g, o, rfl, _, _, hc⟩ := RowH.elem atc_length hu (i := 0) (x := Ox.lrun) rfl
  refine Ops.val rfl rfl rfl (Val.move rfl) ?_
  refine Ops.val rfl rfl rfl (Val.extract rfl rfl) ?_
  refine Ops.val rfl rfl rfl (Val.extract rfl rfl) ?_
  repeat (first | refine Ops.val rfl rfl rfl (V.indexAddr (i := 0) rfl rfl rfl rfl (by decide)) ?_ | refine Ops.val rfl rfl rfl (V.loadHA (cs := atc Ox.lrun) rfl rfl rfl hc) ?_ | refine Ops.val rfl rfl rfl (V.eqlT106 (a := Ox.lrun) rfl rfl) ?_ | refine goS _ ?_)
  exact At.ret1 Tryz.results38 (Res.tmp rfl) (List.nil_sublist _) ⟨rfl, rfl, hc0.symm ▸ (hle1.trans hle2).trans hle3⟩
end Go.Proofs.YthjgbmbaabpgmaaGreat
/-
  The law's steps, one behind the other.
-/
namespace Go.Proofs.YthjgbmbaabpgmaaGreat
open Go.Sy
set_option maxRecDepth 4000
set_option maxHeartbeats 4000000
/-- a step with its slices -/
structure StpV where
  q : Ox.Rq
  qd : Value
  x : Ox.Ms
  xd : Value
def rqc (q : Ox.Rq) (d : Value) : List Value := [.int .i64 q.kind, str q.name, str q.other, .int .i64 q.num, str q.text, d]
def stc (p : StpV) : List Value := rqc p.q p.qd ++ msc p.x p.xd
theorem stc_length (p : StpV) : (stc p).length = 13 := rfl
structure StpOk (h : HV) (p : StpV) : Prop where
  q : RqH h (.agg (rqc p.q p.qd).toArray) p.q p.qd
  x : MsH h (.agg (msc p.x p.xd).toArray) p.x p.xd
theorem RqH.mono {h h' : HV} {v : Value} {q : Ox.Rq} {d : Value} (r : RqH h v q d) (le : HV.le h h') : RqH h' v q d := ⟨r.val, r.d.mono le, r.name, r.other, r.text, r.num, r.ops⟩
theorem StpOk.mono {h h' : HV} {p : StpV} (r : StpOk h p) (le : HV.le h h') : StpOk h' p := ⟨r.q.mono le, r.x.mono le⟩
namespace Ox
/-- a state behind some steps -/
inductive Run : Nat → St → Prop
  | start : Run 0 St.new
  | req {k : Nat} {s s' : St} {q : Rq} {r : Rp} : Run k s → DoR s q 0 s' r → Run (k + 1) s'
  | edt {k : Nat} {s s' : St} {x : Ms} : Run k s → EdR s x 0 s' → Run (k + 1) s'
  | stay {k : Nat} {s : St} : Run k s → Run (k + 1) s
theorem Run.inv {k : Nat} {s : St} (h : Run k s) : Inv k s := by
  induction h with
  | start => exact Inv.new
  | req _ hr ih => exact ih.req hr
  | edt _ hr ih => exact ih.edt hr
  | stay _ ih => exact ih.up
end Ox
theorem StH.cells {h : HV} {v : Value} {s : Ox.St} (r : StH h v s) : ∃ cs : List Value, v = .agg cs.toArray ∧ cs.length = 5 ∧ cs.all (·.oneCell') = true := by
  obtain ⟨zs, ys, csv, bsv, ksv, hx⟩ := r
  obtain ⟨ca, ccp, rfl⟩ := hx.crow.form
  obtain ⟨ba, bcp, rfl⟩ := hx.brow.form
  obtain ⟨ka, kcp, rfl⟩ := hx.krow.form
  exact ⟨_, hx.val, rfl, rfl⟩
theorem RpH.cells {h : HV} {v : Value} {s : Ox.Rp} (r : RpH h v s) : ∃ cs : List Value, v = .agg cs.toArray ∧ cs.length = 5 ∧ cs.all (·.oneCell') = true := by
  obtain ⟨rv, lv, rfl, h1, h2⟩ := r
  obtain ⟨_, _, rfl⟩ := h1.form
  obtain ⟨_, _, rfl⟩ := h2.form
  exact ⟨_, rfl, rfl, rfl⟩
/-- where the run stands -/
structure RnS where
  i : Nat
  s : Ox.St
  cs : List Value
  h : HV
attribute [local irreducible] At Ops Val Eff Does Res Dr

theorem few_does (v : Value) (l : List StpV) (n : Nat) (hn : n ≤ 1000) (h : HV) (hv : RowH stc 13 h v l) : Does Tryz.prog 12 #[v, .int .i64 (n : Int)] [] h (Just h fun r => RowH stc 13 h r (l.take n)) := by
  obtain ⟨a, cp, rfl⟩ := hv.form
  refine Does.of Tryz.func12 rfl Tryz.ntmps12 rfl fun c hc0 => ?_
  refine goK _ ?_
  refine At.condP rfl (fun h2 => ?_) (fun h2 => ?_)
  · obtain ⟨b, o, cap, e, hc, _⟩ := SlH.at_ hv (i := 0) (by omega)
    cases e
    repeat (first | refine Ops.val rfl rfl rfl (V.slice_to (r := n) rfl rfl rfl rfl (by omega)) ?_ | refine goS _ ?_)
    refine At.ret1 Tryz.results12 (Res.tmp rfl) (List.nil_sublist _) ⟨?_, rfl, hc0.symm ▸ rfl⟩
    have h3 := SlH.part hv 0 n (Nat.zero_le _) (by omega) _ rfl
    have e1 : (l.take n).length = n := by rw [List.length_take]; omega
    unfold RowH
    rw [e1]
    have e2 : off cp 0 ⟨b, o, none⟩ 13 = ⟨b, o, none⟩ := by rw [off_none]; split <;> simp
    rw [e2] at h3
    have e3 : (((l.flatMap stc).drop (0 * 13)).take ((n - 0) * 13)) = (l.take n).flatMap stc := by
      rw [Nat.zero_mul, List.drop_zero, Nat.sub_zero, flat_take stc_length]
    rw [e3] at h3
    simpa using h3
  · refine goK _ ?_
    refine At.ret1 Tryz.results12 (Res.tmp rfl) (List.nil_sublist _) ⟨?_, rfl, hc0.symm ▸ rfl⟩
    rw [List.take_of_length_le (by omega)]
    exact hv

theorem run_does (v : Value) (l : List StpV) (hl : l.length ≤ 1000) (h : HV) (hv : RowH stc 13 h v l) (hok : ∀ p ∈ l, StpOk h p) : Does Tryz.prog 11 #[v] [] h (fun r Ω' h' => Ω' = [] ∧ HV.le h h' ∧ ∃ s sv, Ox.Run l.length s ∧ r = .tuple #[sv, .bool true] ∧ StH h' sv s) := by
  obtain ⟨a, cp, rfl⟩ := hv.form
  refine Does.of Tryz.func11 rfl Tryz.ntmps11 rfl fun c hc0 => ?_
  refine goK _ ?_
  refine Ops.eff rfl rfl rfl (E.alloc rfl) fun _ => Ops.ex fun b2 => Ops.pure ?_
  rintro rfl
  refine goK _ ?_
  refine Ops.eff rfl rfl rfl (Eff.call (fn (by kernel_rfl)) rfl (Ωc := []) rfl (New_does h)) fun _ => Ops.ex fun _ => Ops.ex fun _ => Ops.pure ?_
  rintro ⟨rfl, rfl, rfl⟩
  refine Ops.eff rfl rfl rfl (E.alloc rfl) fun _ => Ops.ex fun b4 => Ops.pure ?_
  rintro rfl
  refine goK _ ?_
  refine Ops.eff0 rfl rfl (E.store 0 rfl rfl rfl rfl rfl rfl rfl) fun _ => ?_
  refine goK _ ?_
  have hsn : StH h (.agg #[.int .i64 1, .int .i64 1, .slice none 0 0, .slice none 0 0, .slice none 0 0]) Ox.St.new := ⟨[], [], _, _, _, rfl, rfl, rfl, SlH.nil _ _, by simp, SlH.nil _ _, by simp, SlH.nil _ _⟩
  refine At.loop (X := RnS) (fun X => [(0, .slice a l.length cp), (2, .pointer (some ⟨b2, 0, none⟩)), (3, .bool false), (4, .pointer (some ⟨b4, 0, none⟩)), (5, .int .i64 (X.i : Int))])
    (fun X w => (X.i ≤ l.length ∧ HV.le h X.h ∧ Ox.Run X.i X.s ∧ StH X.h (.agg X.cs.toArray) X.s ∧ X.cs.length = 5 ∧ X.cs.all (·.oneCell') = true) ∧ Mem c [cells b4 X.cs 27, cells b2 z27 27] X.h w)
    (fun X => l.length - X.i) ⟨0, Ox.St.new, [.int .i64 1, .int .i64 1, .slice none 0 0, .slice none 0 0, .slice none 0 0], h⟩ ⟨rfl, rfl, rfl, rfl, rfl, trivial⟩ (fun w hw => ⟨⟨Nat.zero_le _, HV.le.refl _, .start, hsn, rfl, rfl⟩, hw⟩) (fun X => At.pure (fun hq => ?_))
  obtain ⟨i, s, cs, h1⟩ := X
  simp only at hq ⊢
  obtain ⟨hi, hle1, hrn, hst, hc5, hc1⟩ := hq
  refine goK _ ?_
  refine At.condP rfl (fun h2 => ?_) (fun h2 => ?_)
  · have hlt : i < l.length := by omega
    have hpi : l[i]? = some l[i] := by simp [hlt]
    obtain ⟨g, o, rfl, _, _, hc⟩ := RowH.elem stc_length hv hpi
    have hpo := (hok l[i] (by simp)).mono hle1
    generalize l[i] = p at *
    have hch : ∀ j u, (stc p)[j]? = some u → cellH h1 g (o + i * 13 + j) = some u := fun j u hu => hle1.cell (hc j u hu)
    refine goK _ ?_
    refine Ops.val rfl rfl rfl (V.loadOA 0 rfl rfl rfl hc5) ?_
    refine Ops.eff rfl rfl rfl (E.alloc rfl) fun _ => Ops.ex fun b7 => Ops.pure ?_
    rintro rfl
    refine Ops.eff0 rfl rfl (E.store 0 rfl rfl rfl rfl (by show cs.toArray.size = 5; simpa using hc5) (by simp) (by show cs.toArray.toList.all (·.oneCell') = true; simpa using hc1)) fun _ => ?_
    refine Ops.nil ?_
    refine At.imp (S' := Mem c [cells b7 cs 27, cells b4 cs 27, cells b2 z27 27] h1) ?_ (fun w hw => ?_)
    rotate_left
    · have e1 : sets [.int .i64 0, .int .i64 0, .slice none 0 0, .slice none 0 0, .slice none 0 0] 0 cs = cs := sets_all (by rw [hc5]; rfl)
      have hw' : Mem c [cells b7 (sets [.int .i64 0, .int .i64 0, .slice none 0 0, .slice none 0 0, .slice none 0 0] 0 cs) 27, cells b4 cs 27, cells b2 z27 27] h1 w := hw
      rw [e1] at hw'; exact hw'
    repeat (first | refine Ops.val rfl rfl rfl (V.loadH rfl rfl (hch 0 (.int .i64 p.q.kind) rfl)) ?_ | refine goS _ ?_)
    have hq6 : ∀ j u, (msc p.x p.xd)[j]? = some u → cellH h1 g (o + i * 13 + 6 + j) = some u := fun j u hu => by
      rw [Nat.add_assoc (o + i * 13) 6 j]
      refine hch (6 + j) u ?_
      unfold stc
      rw [List.getElem?_append_right (by show 6 ≤ 6 + j; omega), show 6 + j - (rqc p.q p.qd).length = j by show 6 + j - 6 = j; omega]
      exact hu
    have hq0 : ∀ j u, (rqc p.q p.qd)[j]? = some u → cellH h1 g (o + i * 13 + 0 + j) = some u := fun j u hu => by
      rw [Nat.add_zero]
      refine hch j u ?_
      have hj : j < (rqc p.q p.qd).length := (List.getElem?_eq_some_iff.1 hu).1
      unfold stc
      rw [List.getElem?_append_left hj]; exact hu
    refine At.meet4 (fun (_ : List Value) (e : Int) (_ : Ox.St) (_ : HV) => [(0, .slice (some ⟨g, o, none⟩) l.length cp), (2, .pointer (some ⟨b2, 0, none⟩)), (3, .bool false), (4, .pointer (some ⟨b4, 0, none⟩)), (5, .int .i64 (i : Int)), (6, .int .i64 e), (7, .pointer (some ⟨b7, 0, none⟩))])
      (fun (cs' : List Value) (e : Int) (s' : Ox.St) (h2 : HV) w => (HV.le h1 h2 ∧ cs'.length = 5 ∧ cs'.all (·.oneCell') = true ∧ (e = 0 → Ox.Run (i + 1) s' ∧ StH h2 (.agg cs'.toArray) s')) ∧ Mem c [cells b7 cs' 27, cells b4 cs 27, cells b2 z27 27] h2 w) (fun k' meet => ?_) (fun cs' e s' h2 => At.pure fun hq2 => ?_)
    · refine At.condP rfl (fun h3 => ?_) (fun h3 => ?_)
      · refine goK _ ?_
        first | refine At.drawn mo (fun _ _ m => m.drew _) ?_ | refine At.seq (At.drawn mo (fun _ _ m => m.drew _) ?_)
        refine Dr.valS 0 _ rfl rfl rfl rfl (by kernel_rfl) rfl (V.loadN (cs := cs) rfl rfl hc5 (fun _ hh => hh)) (fun w hw => hw.cellsAt (n := 1) rfl (by rw [List.drop_zero, List.take_length])) ?_
        refine Dr.val 1 rfl rfl rfl rfl (by kernel_rfl) rfl (Val.move rfl) ?_
        refine Dr.val 2 rfl rfl rfl rfl (by kernel_rfl) rfl (Val.move rfl) ?_
        refine Dr.val 3 rfl rfl rfl rfl (by kernel_rfl) rfl (V.indexAddr rfl rfl rfl rfl hlt) ?_
        refine Dr.val 4 rfl rfl rfl rfl (by kernel_rfl) rfl (V.fieldAddr rfl rfl) ?_
        refine Dr.valS 5 _ rfl rfl rfl rfl (by kernel_rfl) rfl (V.loadN (cs := msc p.x p.xd) rfl rfl rfl (fun _ hh => hh)) (fun w hw j u hu => hw.cellH (hq6 j u hu)) ?_
        refine Dr.next (e := 6) rfl rfl (by kernel_rfl) rfl (by kernel_rfl) (by kernel_rfl) rfl rfl (Eff.call (fn (by kernel_rfl)) rfl (Ωc := []) rfl (Edit_does _ s h1 hst i (by omega) hrn.inv p.x _ p.xd hpo.x)) aokK fun _ => Dr.ex fun _ => Dr.ex fun _ => Dr.pure ?_
        rintro ⟨hle2, rfl, e, s', sv, hR, rfl, hsv⟩
        rename_i h2
        obtain ⟨cs', rfl, hc5', hc1'⟩ := hsv.cells
        refine Dr.val 7 rfl rfl rfl rfl (by kernel_rfl) rfl (Val.move rfl) ?_
        refine Dr.val 8 rfl rfl rfl rfl (by kernel_rfl) rfl (Val.extract rfl rfl) ?_
        refine Dr.val 9 rfl rfl rfl rfl (by kernel_rfl) rfl (Val.extract rfl rfl) ?_
        refine Dr.next0 (e := 10) rfl rfl (by kernel_rfl) rfl (by kernel_rfl) (by kernel_rfl) rfl (E.store (b := b7) (o := 0) (m := 5) (U := 27) (cs := cs) (v := .agg cs'.toArray) (ag := true) 0 rfl rfl rfl rfl (by show cs'.toArray.size = 5; simpa using hc5') (by rw [hc5]; rfl) (by show cs'.toArray.toList.all (·.oneCell') = true; simpa using hc1')) (.triv .nil) fun _ => ?_
        refine Dr.val 11 rfl rfl rfl rfl (by kernel_rfl) rfl (Val.assign rfl) ?_
        refine Dr.done (by kernel_rfl) (by kernel_rfl) ?_
        refine meet cs' e s' h2 (by exact ⟨rfl, rfl, rfl, rfl, rfl, rfl, rfl, trivial⟩) (fun w hw => ⟨⟨hle2, hc5', hc1', fun e0 => ?_⟩, ?_⟩)
        · subst e0; exact ⟨.edt hrn hR, hsv⟩
        · have hw' : Mem c [cells b7 (sets cs 0 cs') 27, cells b4 cs 27, cells b2 z27 27] h2 w := hw
          rw [sets_all (by rw [hc5, hc5'])] at hw'; exact hw'
      · refine goK _ ?_
        first | refine At.drawn mo (fun _ _ m => m.drew _) ?_ | refine At.seq (At.drawn mo (fun _ _ m => m.drew _) ?_)
        refine Dr.valS 0 _ rfl rfl rfl rfl (by kernel_rfl) rfl (V.loadN (cs := cs) rfl rfl hc5 (fun _ hh => hh)) (fun w hw => hw.cellsAt (n := 1) rfl (by rw [List.drop_zero, List.take_length])) ?_
        refine Dr.val 1 rfl rfl rfl rfl (by kernel_rfl) rfl (Val.move rfl) ?_
        refine Dr.val 2 rfl rfl rfl rfl (by kernel_rfl) rfl (Val.move rfl) ?_
        refine Dr.val 3 rfl rfl rfl rfl (by kernel_rfl) rfl (V.indexAddr rfl rfl rfl rfl hlt) ?_
        refine Dr.val 4 rfl rfl rfl rfl (by kernel_rfl) rfl (V.fieldAddr rfl rfl) ?_
        refine Dr.valS 5 _ rfl rfl rfl rfl (by kernel_rfl) rfl (V.loadN (cs := rqc p.q p.qd) rfl rfl rfl (fun _ hh => hh)) (fun w hw j u hu => hw.cellH (hq0 j u hu)) ?_
        refine Dr.next (e := 6) rfl rfl (by kernel_rfl) rfl (by kernel_rfl) (by kernel_rfl) rfl rfl (Eff.call (fn (by kernel_rfl)) rfl (Ωc := []) rfl (Do_does _ s h1 hst i (by omega) hrn.inv p.q _ p.qd hpo.q)) aokK fun _ => Dr.ex fun _ => Dr.ex fun _ => Dr.pure ?_
        rintro ⟨hle2, rfl, e, s', rp, sv, rv, hR, rfl, hsv, hrv⟩
        rename_i h2
        obtain ⟨cs', rfl, hc5', hc1'⟩ := hsv.cells
        refine Dr.val 7 rfl rfl rfl rfl (by kernel_rfl) rfl (Val.move rfl) ?_
        refine Dr.val 8 rfl rfl rfl rfl (by kernel_rfl) rfl (Val.extract rfl rfl) ?_
        refine Dr.val 9 rfl rfl rfl rfl (by kernel_rfl) rfl (Val.extract rfl rfl) ?_
        refine Dr.val 10 rfl rfl rfl rfl (by kernel_rfl) rfl (Val.extract rfl rfl) ?_
        refine Dr.next0 (e := 11) rfl rfl (by kernel_rfl) rfl (by kernel_rfl) (by kernel_rfl) rfl (E.store (b := b7) (o := 0) (m := 5) (U := 27) (cs := cs) (v := .agg cs'.toArray) (ag := true) 0 rfl rfl rfl rfl (by show cs'.toArray.size = 5; simpa using hc5') (by rw [hc5]; rfl) (by show cs'.toArray.toList.all (·.oneCell') = true; simpa using hc1')) (.triv (.triv .nil)) fun _ => ?_
        refine Dr.val 12 rfl rfl rfl rfl (by kernel_rfl) rfl (Val.assign rfl) ?_
        refine Dr.done (by kernel_rfl) (by kernel_rfl) ?_
        refine meet cs' e s' h2 (by exact ⟨rfl, rfl, rfl, rfl, rfl, rfl, rfl, trivial⟩) (fun w hw => ⟨⟨hle2, hc5', hc1', fun e0 => ?_⟩, ?_⟩)
        · subst e0; exact ⟨.req hrn hR, hsv⟩
        · have hw' : Mem c [cells b7 (sets cs 0 cs') 27, cells b4 cs 27, cells b2 z27 27] h2 w := hw
          rw [sets_all (by rw [hc5, hc5'])] at hw'; exact hw'
    · obtain ⟨hle2, hc5', hc1', he⟩ := hq2
      refine goK _ ?_
      refine At.condP rfl (fun h4 => ?_) (fun h4 => ?_)
      · obtain ⟨hrn', hst'⟩ := he h4
        refine goK _ ?_
        refine Ops.val rfl rfl rfl (V.loadOA 0 rfl rfl rfl hc5') ?_
        refine Ops.eff0 rfl rfl (E.store (b := b4) (o := 0) (m := 5) (U := 27) (cs := cs) (v := .agg cs'.toArray) (ag := true) 1 rfl rfl rfl rfl (by show cs'.toArray.size = 5; simpa using hc5') (by rw [hc5]; rfl) (by show cs'.toArray.toList.all (·.oneCell') = true; simpa using hc1')) fun _ => ?_
        refine goK _ ?_
        refine At.back (σI := fun X : RnS => _) (⟨i + 1, s', cs', h2⟩ : RnS) (by show l.length - (i + 1) < l.length - i; omega) (by exact ⟨rfl, rfl, rfl, rfl, rfl, trivial⟩) (fun w hw => ⟨⟨hlt, hle1.trans hle2, hrn', hst', hc5', hc1'⟩, ?_⟩)
        have hw' : Mem c [cells b7 cs' 27, cells b4 (sets cs 0 cs') 27, cells b2 z27 27] h2 w := hw
        rw [sets_all (by rw [hc5, hc5'])] at hw'
        exact hw'.sub (List.sublist_cons_self _ _)
      · refine goK _ ?_
        refine At.back (σI := fun X : RnS => _) (⟨i + 1, s, cs, h2⟩ : RnS) (by show l.length - (i + 1) < l.length - i; omega) (by exact ⟨rfl, rfl, rfl, rfl, rfl, trivial⟩) (fun w hw => ⟨⟨hlt, hle1.trans hle2, .stay hrn, hst.mono hle2, hc5, hc1⟩, hw.sub (List.sublist_cons_self _ _)⟩)
  · obtain rfl : i = l.length := by omega
    refine goK _ ?_
    first | refine At.drawn mo (fun _ _ m => m.drew _) ?_ | refine At.seq (At.drawn mo (fun _ _ m => m.drew _) ?_)
    refine Dr.valS 0 _ rfl rfl rfl rfl (by kernel_rfl) rfl (V.loadN (cs := cs) rfl rfl hc5 (fun _ hh => hh)) (fun w hw => hw.cellsAt (n := 0) rfl (by rw [List.drop_zero, List.take_length])) ?_
    refine Dr.next (e := 1) rfl rfl (by kernel_rfl) rfl (by kernel_rfl) (by kernel_rfl) rfl rfl (Eff.call (fn (by kernel_rfl)) rfl (Ωc := []) rfl (live_does h1)) ?_ fun _ => Dr.ex fun _ => Dr.ex fun h3 => Dr.pure ?_
    · refine AllOk.cons ?_ AllOk.nil
      rintro _ _ ⟨_, _, ⟨_, rfl, _⟩, hw⟩
      exact hw.cellsAt (n := 0) rfl (by rw [List.drop_zero, List.take_length])
    rintro ⟨rfl, rfl, hle3⟩
    refine Dr.next0 (e := 2) rfl rfl (by kernel_rfl) rfl (by kernel_rfl) (by kernel_rfl) rfl (E.store (b := b2) (o := 0) (m := 5) (U := 27) (cs := z27) (v := .agg cs.toArray) (ag := true) 1 rfl rfl rfl rfl (by show cs.toArray.size = 5; simpa using hc5) rfl (by show cs.toArray.toList.all (·.oneCell') = true; simpa using hc1)) AllOk.nil fun _ => ?_
    refine Dr.val 3 rfl rfl rfl rfl (by kernel_rfl) rfl (Val.assign rfl) ?_
    refine Dr.done (by kernel_rfl) (by kernel_rfl) ?_
    refine At.imp (S' := Mem c [cells b4 cs 27, cells b2 cs 27] h3) ?_ (fun w hw => ?_)
    rotate_left
    · have hw' : Mem c [cells b4 cs 27, cells b2 (sets z27 0 cs) 27] h3 w := hw
      rw [sets_all (by rw [hc5]; rfl)] at hw'; exact hw'
    exact At.ret2 Tryz.results11 (Res.cellA (j := 1) (cs := cs) (ly rfl) rfl rfl hc5) (Res.tmp rfl) (List.nil_sublist _) ⟨rfl, hc0.symm ▸ hle1.trans hle3, s, _, hrn, rfl, hst.mono hle3⟩
end Go.Proofs.YthjgbmbaabpgmaaGreat
