/-
  The machine: a client's edit taken in.
-/
import Derived.Test.YthjgbmbaabpgmaaGreatSrd05
import Derived.Test.YthjgbmbaabpgmaaGreatSrd41
import Derived.Test.YthjgbmbaabpgmaaGreatSrd44
set_option linter.unusedVariables false
set_option linter.unusedSimpArgs false
set_option linter.unusedSectionVars false
namespace Go.Proofs.YthjgbmbaabpgmaaGreat
open Go.Sy
set_option maxRecDepth 4000
set_option maxHeartbeats 4000000
/-- which log an edit writes -/
def ownE (s : Ox.St) (x : Ox.Ms) : Option Nat := s.bs.findIdx? (fun b => decide (b.id = x.branch))
theorem ownE_at {s : Ox.St} {x : Ox.Ms} {i : Nat} {b : Ox.Br} (ha : Ox.BrAt s.bs (·.id = x.branch) i b) : ownE s x = some i := by
  unfold ownE
  rw [List.findIdx?_eq_some_iff_getElem]
  have hlt : i < s.bs.length := (List.getElem?_eq_some_iff.1 ha.get).1
  have hb : s.bs[i] = b := (List.getElem?_eq_some_iff.1 ha.get).2
  refine ⟨hlt, by rw [hb]; simpa using ha.holds, fun j hj => ?_⟩
  have := ha.first j s.bs[j] hj (by simp)
  simpa using this
def EdPost (s : Ox.St) (x : Ox.Ms) (h : HV) : Value → List Itm → HV → Prop := fun r Ω' h' => HV.le h h' ∧ Ω' = [] ∧ ∃ e s' sv, Ox.EdR s x e s' ∧ r = .tuple #[sv, .int .i64 e] ∧ StH h' sv s'
theorem EdPost.bad {s : Ox.St} {x : Ox.Ms} {h h' : HV} {e : Int} (hle : HV.le h h') (hr : Ox.EdR s x e .zero) : EdPost s x h (.tuple #[.agg z27.toArray, .int .i64 e]) [] h' :=
  ⟨hle, rfl, e, .zero, _, hr, rfl, StH.zero _⟩
theorem TransF_does (u v : Value) (a b : List Ox.Op) (first : Bool) (ha : ∀ o ∈ a, o.text.length ≤ 10000000000) (hb : ∀ o ∈ b, o.text.length ≤ 10000000000) (h : HV) (hu : OpsH h u a) (hv : OpsH h v b) :
    Does Tryz.prog 55 #[u, v, .bool first] [] h (fun r Ω' h' => Ω' = [] ∧ HV.le h h' ∧ ((Ox.transE a b first ≠ 0 ∧ r = .tuple #[.slice none 0 0, .int .i64 (Ox.transE a b first)]) ∨ (Ox.transE a b first = 0 ∧ ∃ t, r = .tuple #[t, .int .i64 0] ∧ OpsH h' t (Ox.transD a b first) ∧ Ox.Sane (Ox.transD a b first)))) := by
  refine (Transform_does u v a b first ha hb h hu hv).mono fun r Ω' h' ⟨h1, h2, h3⟩ => ⟨h1, h2, ?_⟩
  rcases h3 with ⟨h4, h5⟩ | ⟨h4, da, db, t, _, _, h6, h7, _, h8, h9⟩
  · exact .inl ⟨h4, h5⟩
  · refine .inr ⟨h4, t, h8, ?_⟩
    unfold Ox.transD
    rw [h6, h7]
    simp only [Option.getD_some]
    rcases h9 with ⟨ds, h10, h11, h12⟩ | ⟨h10, rfl⟩
    · rw [if_pos h10, h11]
      have := Ox.lens_of h10 h11
      exact ⟨h12, Ox.norm_sane ds this.2.1 this.2.2⟩
    · rw [if_neg h10]; exact ⟨SlH.nil _ _, fun o ho => by simp at ho⟩
theorem mcc_at' {nc nb : Int} {csv bsv ksv : Value} {dm j : Nat} {u : Value} (h : [.int .i64 nc, .int .i64 nb, csv, bsv, ksv][j]? = some u) : (mcc nc nb csv bsv ksv dm)[0 + 0 + j]? = some u := by
  have := mcc_at (dm := dm) h
  simpa using this
theorem atOwnBs {P : Program} {Q : Exit → Act → World → Prop} {n : Sz} {σ : Slots} {k : List It} {c : Ctx} {Ω : List Itm} {h : HV} {v : Value} {ys : List BrV} (t : Nat) (ht : Ω[t]? = some (row 71 3 v ys.length (ys.flatMap brc))) (hk : ∀ bb, BsForm bb ys v → At P Q n σ (Mem c Ω h) k) : At P Q n σ (Mem c Ω h) k := fun a w ha m => by
  obtain ⟨bb, hb⟩ := Mem.ownBs m ht
  exact hk bb hb a w ha m
/-- where the moving stands -/
structure LpS where
  j : Nat
  d : List Ox.Op
  u : Value
  h : HV
def msc (x : Ox.Ms) (dv : Value) : List Value := [.int .i64 x.kind, .int .i64 x.branch, .int .i64 x.client, .int .i64 x.seq, .int .i64 x.rev, .int .i64 x.who, dv]
attribute [local irreducible] At Ops Val Eff Does Res Dr

theorem Edit_does (v : Value) (s : Ox.St) (h : HV) (hv : StH h v s) (N : Nat) (hN : N ≤ 1000) (inv : Ox.Inv N s) (x : Ox.Ms) (xv dv : Value) (hx : MsH h xv x dv) : Does Tryz.prog 20 #[v, xv] [] h (EdPost s x h) := by
  have hcp := copied_does v s (ownE s x) h hv inv.small
  obtain ⟨da, dcp, e⟩ := hx.d.form
  have hxv := hx.val
  subst e; subst hxv
  obtain ⟨zs0, ys0, csv0, bsv0, ksv0, hs⟩ := hv
  obtain rfl := hs.val
  obtain ⟨ca, ccp, rfl⟩ := hs.crow.form
  obtain ⟨ba, bcp, rfl⟩ := hs.brow.form
  obtain ⟨ka, kcp, rfl⟩ := hs.krow.form
  refine Does.of Tryz.func20 rfl Tryz.ntmps20 rfl fun c hc0 => ?_
  refine goK _ ?_
  refine Ops.eff rfl rfl rfl (Eff.box rfl) fun _ => Ops.ex fun b2 => Ops.pure ?_
  rintro rfl
  refine goK _ ?_
  refine Ops.eff rfl rfl rfl (Eff.box rfl) fun _ => Ops.ex fun b3 => Ops.pure ?_
  rintro rfl
  refine goK _ ?_
  refine Ops.eff rfl rfl rfl (E.alloc rfl) fun _ => Ops.ex fun b4 => Ops.pure ?_
  rintro rfl
  refine goK _ ?_
  refine Ops.forkR 29 (.bool (decide (¬ (x.kind = 1 ∧ 1 ≤ x.client ∧ x.client ≤ 8)))) [0, 1, 2, 3, 4, 5] ?_ (fun main => ?_)
  rotate_left
  · repeat' (first
      | refine opS _ ?_
      | refine Ops.gsplit rfl rfl (fun hb => ?_) (fun hb => ?_)
      | refine Ops.psplit rfl (fun hb => ?_) (fun hb => ?_))
    all_goals (refine Ops.nil ?_; refine main.sub ⟨congrArg (fun b => some (Value.bool b)) ?_, (by repeat (first | exact trivial | refine ⟨rfl, ?_⟩))⟩; clear main; (rw [Bool.eq_iff_iff]; simp at *; try omega))
  refine At.condP rfl (fun h1 => ?_) (fun h1 => ?_)
  · refine goK _ ?_
    refine Ops.eff0 rfl rfl (E.store 0 rfl rfl rfl rfl rfl rfl rfl) fun _ => ?_
    refine goK _ ?_
    exact At.ret2 Tryz.results20 (Res.cellA (j := 0) (cs := z27) (ly rfl) rfl rfl rfl) (Res.tmp rfl) (List.nil_sublist _) (EdPost.bad (hc0.symm ▸ HV.le.refl _) (.arg h1))
  have harg : x.kind = 1 ∧ 1 ≤ x.client ∧ x.client ≤ 8 := Classical.not_not.1 h1
  repeat (first | refine Ops.val rfl rfl rfl (V.loadOA 2 rfl rfl rfl rfl) ?_ | refine goS _ ?_)
  refine Ops.eff rfl rfl rfl (Eff.call (fn (by kernel_rfl)) rfl (Ωc := []) rfl (hcp)) fun _ => Ops.ex fun _ => Ops.ex fun _ => Ops.pure ?_
  rintro ⟨hle1, csv, bsv, ksv, zs, ys, rfl, hzc, hyb, hzo, hlo, rfl⟩
  rename_i h1'
  have ok : MOk h1' s zs ys (ownE s x) := ⟨hzc, hyb, hzo, hlo⟩
  have hx1 : MsH h1' _ x _ := hx.mono hle1
  refine opsPerm (List.perm_append_comm (l₁ := RX csv bsv ksv zs ys s.ks (lgs ys (ownE s x) ys.length))) ?_
  refine Ops.eff rfl rfl rfl (Eff.call (fn (by kernel_rfl)) rfl (Ωc := []) rfl (on_does s.nc s.nb csv bsv ksv h1')) fun _ => Ops.ex fun _ => Ops.ex fun _ => Ops.pure ?_
  rintro ⟨⟨m, dm, rfl, rfl⟩, rfl⟩
  refine opsPerm (Ω' := [cells b4 z27 27, cells b3 (msc x (.slice da x.d.length dcp)) 53, cells b2 [.int .i64 s.nc, .int .i64 s.nb, .slice ca zs0.length ccp, .slice ba ys0.length bcp, .slice ka s.ks.length kcp] 27] ++ ([cells m (mcc s.nc s.nb csv bsv ksv dm) 101, mapI key dm []] ++ RX csv bsv ksv zs ys s.ks (lgs ys (ownE s x) ys.length))) (List.perm_append_comm_assoc [cells m (mcc s.nc s.nb csv bsv ksv dm) 101, mapI key dm []] [cells b4 z27 27, cells b3 (msc x (.slice da x.d.length dcp)) 53, cells b2 [.int .i64 s.nc, .int .i64 s.nb, .slice ca zs0.length ccp, .slice ba ys0.length bcp, .slice ka s.ks.length kcp] 27] (RX csv bsv ksv zs ys s.ks (lgs ys (ownE s x) ys.length))) ?_
  refine Ops.imp (S' := Mem c (cells b4 z27 27 :: cells b3 (msc x (.slice da x.d.length dcp)) 53 :: cells b2 [.int .i64 s.nc, .int .i64 s.nb, .slice ca zs0.length ccp, .slice ba ys0.length bcp, .slice ka s.ks.length kcp] 27 :: MS m dm s csv bsv ksv [] zs ys (lgs ys (ownE s x) ys.length)) h1') ?_ (fun w hw => hw)
  generalize hB2 : cells b2 [.int .i64 s.nc, .int .i64 s.nb, .slice ca zs0.length ccp, .slice ba ys0.length bcp, .slice ka s.ks.length kcp] 27 = B2
  clear hB2
  by_cases hno : ∀ b ∈ s.bs, b.id ≠ x.branch
  · refine goK _ ?_
    refine Ops.eff rfl rfl rfl (Eff.callP 3 (fn (by kernel_rfl)) rfl (Ωc := MS m dm s csv bsv ksv [] zs ys (lgs ys (ownE s x) ys.length)) (Ωr := []) (by simp) (taken_none m dm s csv bsv ksv [] zs ys _ (ownE s x) N inv h1' ok x _ _ hx1 hno)) fun _ => Ops.pure ?_
    rintro rfl
    refine goK _ ?_
    refine Ops.eff0 rfl rfl (E.store 0 rfl rfl rfl rfl rfl rfl rfl) fun _ => ?_
    refine goK _ ?_
    exact At.ret2 Tryz.results20 (Res.cellA (j := 0) (cs := z27) (ly rfl) rfl rfl rfl) (Res.tmp rfl) (List.nil_sublist _) (EdPost.bad (hc0.symm ▸ hle1) (.none harg hno))
  obtain ⟨i, b, ha⟩ : ∃ i b, Ox.BrAt s.bs (·.id = x.branch) i b := Ox.BrAt.ex (by
    refine Classical.byContradiction fun hh => hno fun b hb e => hh ⟨b, hb, e⟩)
  rw [ownE_at ha] at ok ⊢
  obtain ⟨lv, hyi⟩ := ys_at ok.bs ha.get
  rw [lgs_own hyi]
  refine Ops.val rfl rfl rfl (Val.assign rfl) ?_
  refine Ops.nil ?_
  refine At.row_form 8 rfl fun la lcp e => ?_
  subst e
  refine atOwnBs 6 rfl fun bb hbf => ?_
  have htk := taken_does m dm s csv bsv ksv [] zs ys [lgI (.slice la b.log.length lcp) b.log] (some i) N hN inv h1' ok x _ _ hx1 i b _ ha hyi ⟨_, _, rfl⟩
  have hby := mbyId_does m dm s csv bsv ksv [] zs ys [lgI (.slice la b.log.length lcp) b.log] (some i) N inv h1' ok bb hbf x.branch i b ha
  have hfl := fun M h' => mfull_does m dm s csv bsv ksv M zs ys [lgI (.slice la b.log.length lcp) b.log] h'
  have hdc := fun n hn h' (hle : HV.le h1' h') => mdoc_does m dm s csv bsv ksv [] zs ys [lgI (.slice la b.log.length lcp) b.log] (some i) N inv h' (ok.mono hle) n hn (DocMap.nil _ _)
  have hcm := fun M n hn h' (hle : HV.le h1' h') => mcommit_does m dm s csv bsv ksv M zs ys [lgI (.slice la b.log.length lcp) b.log] (some i) N inv h' (ok.mono hle) n hn
  have hadd := fun M h' (hle : HV.le h1' h') => mAdd_does m dm s csv bsv ksv M zs ys N inv h' i b _ (ok.mono hle) hyi bb hbf
  have hbm := BrAt.mem ha
  have hlog := inv.logs b hbm
  have hll := inv.loglen hbm
  refine goK _ ?_
  refine Ops.eff rfl rfl rfl (Eff.callP 3 (fn (by kernel_rfl)) rfl (Ωc := MS m dm s csv bsv ksv [] zs ys [lgI (.slice la b.log.length lcp) b.log]) (Ωr := []) (by simp) htk) fun _ => Ops.pure ?_
  rintro rfl
  refine goK _ ?_
  refine At.condN rfl (fun h2 => ?_) (fun h2 => ?_)
  · refine goK _ ?_
    refine Ops.eff0 rfl rfl (E.store 0 rfl rfl rfl rfl rfl rfl rfl) fun _ => ?_
    refine goK _ ?_
    exact At.ret2 Tryz.results20 (Res.cellA (j := 0) (cs := z27) (ly rfl) rfl rfl rfl) (Res.tmp rfl) (List.nil_sublist _) (EdPost.bad (hc0.symm ▸ hle1) (.not i b harg ha h2))
  have htake : Ox.takenE (Ox.lastE s.ks x.client x.branch) b x = 0 := by simpa using h2
  have hrev : 0 ≤ x.rev ∧ x.rev < (b.log.length : Int) := by
    unfold Ox.takenE at htake
    split at htake
    · omega
    · split at htake
      · omega
      · split at htake
        · omega
        · split at htake
          · omega
          · rename_i hh
            exact ⟨by omega, by omega⟩
  refine goK _ ?_
  refine Ops.eff rfl rfl rfl (Eff.callP 3 (fn (by kernel_rfl)) rfl (Ωc := MS m dm s csv bsv ksv [] zs ys [lgI (.slice la b.log.length lcp) b.log]) (Ωr := []) (by simp) hby) fun _ => Ops.pure ?_
  rintro rfl
  refine goK _ ?_
  refine Ops.eff rfl rfl rfl (Eff.call (fn (by kernel_rfl)) rfl (Ωc := []) rfl (Normal_does _ x.d (fun o ho => by have := hx.ops o ho; omega) h1' hx1.d)) fun _ => Ops.ex fun _ => Ops.ex fun _ => Ops.pure ?_
  rintro ⟨rfl, hle2, hr⟩
  rename_i h2'
  rcases hr with ⟨ds, u, hl0, hpa, rfl, hu⟩ | ⟨hne, rfl⟩
  rotate_left
  · refine Ops.val rfl rfl rfl (Val.move rfl) ?_
    refine Ops.val rfl rfl rfl (Val.extract rfl rfl) ?_
    refine Ops.val rfl rfl rfl (Val.extract rfl rfl) ?_
    refine Ops.val rfl rfl rfl (Val.assign rfl) ?_
    refine Ops.val rfl rfl rfl (Val.assign rfl) ?_
    refine Ops.nil ?_
    refine goK _ ?_
    refine At.condN rfl (fun h2 => ?_) (fun h2 => absurd h2 (by omega))
    refine goK _ ?_
    refine Ops.eff0 rfl rfl (E.store 0 rfl rfl rfl rfl rfl rfl rfl) fun _ => ?_
    refine goK _ ?_
    exact At.ret2 Tryz.results20 (Res.cellA (j := 0) (cs := z27) (ly rfl) rfl rfl rfl) (Res.tmp rfl) (List.nil_sublist _) (EdPost.bad (hc0.symm ▸ hle1.trans hle2) (.form i b harg ha htake hne))
  obtain ⟨ua, ucp, rfl⟩ := hu.form
  have hln := Ox.lens_norm' hl0 hpa
  have hls := Ox.lens_of hl0 hpa
  have hsn := Ox.norm_sane ds hls.2.1 hls.2.2
  refine goK _ ?_
  refine Ops.eff rfl rfl rfl (Eff.call (fn (by kernel_rfl)) rfl (Ωc := []) rfl (Base_does _ (Ox.norm ds) (fun o ho => by have := (hsn o ho).2.2; omega) h2' hu)) fun _ => Ops.ex fun _ => Ops.ex fun _ => Ops.pure ?_
  rintro ⟨rfl, rfl, rfl⟩
  refine goK _ ?_
  obtain ⟨rv, hrv⟩ : ∃ rv : Nat, x.rev = (rv : Int) := ⟨x.rev.toNat, by omega⟩
  have hrl : rv < b.log.length := by omega
  have hn0 : b.log[rv]? = some b.log[rv] := by simp [hrl]
  have hnm : b.log[rv] ∈ s.cs.map Ox.Cm.num := hlog.2.2 _ (by simp)
  have hrt : x.rev.toNat = rv := by omega
  generalize hne : b.log[rv] = n at *
  refine At.row_reads 6 rfl fun hbr6 => ?_
  refine At.row_reads 8 rfl fun hlr8 => ?_
  obtain ⟨bcp2, rfl, hcy⟩ := br_cells (R := [row 71 3 bsv ys.length (ys.flatMap brc)]) hbr6 hbf hyi
  obtain ⟨lb, lo, rfl, _, hlcp, hcl⟩ := RowRd.elem zc_length (R := [lgI (.slice la b.log.length lcp) b.log]) hlr8 hn0
  have hds := (inv.cs.doc n)
  have hsh := hds.short
  first | refine At.drawn mo (fun _ _ m => m.drew _) ?_ | refine At.seq (At.drawn mo (fun _ _ m => m.drew _) ?_)
  refine Dr.val 0 rfl rfl rfl rfl (by kernel_rfl) rfl (Val.move rfl) ?_
  refine Dr.val 1 rfl rfl rfl rfl (by kernel_rfl) rfl (Val.move rfl) ?_
  refine Dr.val 2 rfl rfl rfl rfl (by kernel_rfl) rfl (Val.move rfl) ?_
  refine Dr.val 3 rfl rfl rfl rfl (by kernel_rfl) rfl (Val.nilCheck rfl) ?_
  refine Dr.val 4 rfl rfl rfl rfl (by kernel_rfl) rfl (V.fieldAddr rfl rfl) ?_
  refine Dr.valS 5 _ rfl rfl rfl rfl (by kernel_rfl) rfl (V.load rfl rfl (fun _ hh => hh)) (fun w hw => Mem.cellR (hcy 2 (.slice (some ⟨lb, lo, none⟩) b.log.length lcp) rfl) (by first | exact fun _ hi => hi | exact fun _ hi => List.mem_cons_of_mem _ hi | exact fun _ hi => List.mem_cons_of_mem _ (List.mem_cons_of_mem _ hi) | simp +contextual | grind) hw) ?_
  refine Dr.val 6 rfl rfl rfl rfl (by kernel_rfl) rfl (V.fieldAddr rfl rfl) ?_
  refine Dr.valS 7 _ rfl rfl rfl rfl (by kernel_rfl) rfl (V.load rfl rfl (fun _ hh => hh)) (fun w hw => hw.cell (n := 1) rfl rfl) ?_
  refine Dr.respell (t := 67) (v' := .int .i64 (rv : Int)) rfl (congrArg (Value.int .i64) hrv) ?_
  refine Dr.val 8 rfl rfl rfl rfl (by kernel_rfl) rfl (V.indexAddr rfl rfl rfl rfl hrl) ?_
  refine Dr.valS 9 _ rfl rfl rfl rfl (by kernel_rfl) rfl (V.load rfl rfl (fun _ hh => hh)) (fun w hw => Mem.cellR (hcl 0 (.int .i64 n) rfl) (by first | exact fun _ hi => hi | exact fun _ hi => List.mem_cons_of_mem _ hi | exact fun _ hi => List.mem_cons_of_mem _ (List.mem_cons_of_mem _ hi) | simp +contextual | grind) hw) ?_
  refine Dr.next (e := 10) rfl rfl (by kernel_rfl) rfl (by kernel_rfl) (by kernel_rfl) rfl rfl (Eff.callAt 3 (fn (by kernel_rfl)) rfl (Ωc := MS m dm s csv (.slice (some ⟨bb, 0, none⟩) ys.length bcp2) ksv [] zs ys [lgI (.slice (some ⟨lb, lo, none⟩) b.log.length lcp) b.log]) (Ωr := []) (by simp) (hdc n hnm h2' hle2)) (by repeat (first | exact AllOk.nil | refine AllOk.triv ?_ | refine AllOk.cons (by rintro _ _ ⟨_, _, ⟨hlq, _, rfl, _⟩, hw⟩; first | exact hw.cell (n := 7) rfl rfl | exact Mem.cellR ((hcy 2 (.slice (some ⟨lb, lo, none⟩) b.log.length lcp) rfl).mono hlq (fun _ hi => hi)) (by simp) hw | exact Mem.cellR ((hcl 0 (.int .i64 n) rfl).mono hlq (fun _ hi => hi)) (by simp) hw) ?_)) fun _ => Dr.ex fun _ => Dr.ex fun _ => Dr.pure ?_
  rintro ⟨hle3, M3, rfl, hr3, hD3⟩
  rename_i r3 h3'
  refine Dr.next (e := 11) rfl rfl (by kernel_rfl) rfl (by kernel_rfl) (by kernel_rfl) rfl rfl (Eff.callP 0 (fn (by kernel_rfl)) rfl (Ωc := []) rfl (DocLen_does r3 (s.doc n) (Nat.le_trans hsh.2.2 (by omega)) (Nat.le_trans hsh.2.1 (by omega)) h3' hr3)) (by repeat (first | exact AllOk.nil | refine AllOk.triv ?_ | refine AllOk.cons (by rintro _ _ ⟨_, hw⟩; first | exact hw.cell (n := 7) rfl rfl | exact Mem.cellR ((hcy 2 (.slice (some ⟨lb, lo, none⟩) b.log.length lcp) rfl).mono hle3 (fun _ hi => hi)) (by simp) hw | exact Mem.cellR ((hcl 0 (.int .i64 n) rfl).mono hle3 (fun _ hi => hi)) (by simp) hw) ?_)) fun _ => Dr.pure ?_
  rintro rfl
  refine Dr.val 12 rfl rfl rfl rfl (by kernel_rfl) rfl (Val.neq rfl rfl) ?_
  refine Dr.done (by kernel_rfl) (by kernel_rfl) ?_
  have hle123 := (hle1.trans hle2).trans hle3
  refine At.condN rfl (fun h4 => ?_) (fun h4 => ?_)
  · refine goK _ ?_
    refine Ops.eff0 rfl rfl (E.store 6 rfl rfl rfl rfl rfl rfl rfl) fun _ => ?_
    refine goK _ ?_
    exact At.ret2 Tryz.results20 (Res.cellA (j := 6) (cs := z27) (ly rfl) rfl rfl rfl) (Res.tmp rfl) (List.nil_sublist _) (EdPost.bad (hc0.symm ▸ hle123) (.length i b n harg ha htake hl0 (by rw [hrt]; exact hn0) (by rw [← hln]; exact h4)))
  have hbl : ((Ox.lens x.d).1 : Int) = Ox.tlen (Ox.text (s.doc n)) := by rw [← hln]; simpa using h4
  have hcy3 := fun j u hu => (hcy j u hu).mono hle3 (R' := [row 71 3 (.slice (some ⟨bb, 0, none⟩) ys.length bcp2) ys.length (ys.flatMap brc)]) (fun _ hi => hi)
  refine goK _ ?_
  first | refine At.drawn mo (fun _ _ m => m.drew _) ?_ | refine At.seq (At.drawn mo (fun _ _ m => m.drew _) ?_)
  refine Dr.val 0 rfl rfl rfl rfl (by kernel_rfl) rfl (Val.move rfl) ?_
  refine Dr.val 1 rfl rfl rfl rfl (by kernel_rfl) rfl (Val.nilCheck rfl) ?_
  refine Dr.val 2 rfl rfl rfl rfl (by kernel_rfl) rfl (V.fieldAddr rfl rfl) ?_
  refine Dr.valS 3 _ rfl rfl rfl rfl (by kernel_rfl) rfl (V.load rfl rfl (fun _ hh => hh)) (fun w hw => Mem.cellR (hcy3 2 (.slice (some ⟨lb, lo, none⟩) b.log.length lcp) rfl) (by first | exact fun _ hi => hi | exact fun _ hi => List.mem_cons_of_mem _ hi | exact fun _ hi => List.mem_cons_of_mem _ (List.mem_cons_of_mem _ hi) | simp +contextual | grind) hw) ?_
  refine Dr.val 4 rfl rfl rfl rfl (by kernel_rfl) rfl (V.fieldAddr rfl rfl) ?_
  refine Dr.valS 5 _ rfl rfl rfl rfl (by kernel_rfl) rfl (V.load rfl rfl (fun _ hh => hh)) (fun w hw => hw.cell (n := 7) rfl rfl) ?_
  refine Dr.respell (t := 79) (v' := .int .i64 (rv : Int)) rfl (congrArg (Value.int .i64) hrv) ?_
  refine Dr.val 6 rfl rfl rfl rfl (by kernel_rfl) rfl (Val.add rfl rfl (by omega) (by omega)) ?_
  refine Dr.respell (t := 80) (v' := .int .i64 ((rv + 1 : Nat) : Int)) rfl (congrArg (Value.int .i64) (by omega)) ?_
  refine Dr.val 7 rfl rfl rfl rfl (by kernel_rfl) rfl (V.slice_from (l := rv + 1) rfl rfl rfl rfl (by omega)) ?_
  refine Dr.val 8 rfl rfl rfl rfl (by kernel_rfl) rfl (V.lenslice rfl rfl) ?_
  refine Dr.val 9 rfl rfl rfl rfl (by kernel_rfl) rfl (Val.move rfl) ?_
  refine Dr.done (by kernel_rfl) (by kernel_rfl) ?_
  have hlr3 : RowRd zc 1 [lgI (.slice (some ⟨lb, lo, none⟩) b.log.length lcp) b.log] h3' (.slice (some ⟨lb, lo, none⟩) b.log.length lcp) b.log := RowRd.mono hlr8 hle3 (fun _ hi => hi)
  refine goK _ ?_
  refine At.loop (X := LpS) (fun X => [(3, .pointer (some ⟨b3, 0, none⟩)), (4, .pointer (some ⟨b4, 0, none⟩)), (6, .pointer (some ⟨m, 0, none⟩)), (8, .pointer (some ⟨bb, 0 + i * 3, none⟩)), (9, X.u), (81, .slice (some (off lcp (rv + 1) ⟨lb, lo, none⟩ 1)) (b.log.length - (rv + 1)) (lcp - (rv + 1))), (82, .int .i64 ((b.log.length - (rv + 1) : Nat) : Int)), (83, .int .i64 (X.j : Int))])
    (fun X w => (X.j ≤ b.log.length - (rv + 1) ∧ HV.le h3' X.h ∧ OpsH X.h X.u X.d ∧ Ox.Sane X.d ∧ ∀ e d', Ox.MovR s X.d (b.log.drop (rv + 1 + X.j)) e d' → Ox.MovR s (Ox.norm ds) (b.log.drop (rv + 1)) e d') ∧ Mem c (MS m dm s csv (.slice (some ⟨bb, 0, none⟩) ys.length bcp2) ksv M3 zs ys [lgI (.slice (some ⟨lb, lo, none⟩) b.log.length lcp) b.log] ++ [cells b4 z27 27, cells b3 (msc x (.slice da x.d.length dcp)) 53, B2]) X.h w)
    (fun X => b.log.length - (rv + 1) - X.j) ⟨0, Ox.norm ds, .slice ua (Ox.norm ds).length ucp, h3'⟩ ⟨rfl, rfl, rfl, rfl, rfl, rfl, rfl, rfl, trivial⟩ (fun w hw => ⟨⟨Nat.zero_le _, HV.le.refl _, hu.mono hle3, hsn, fun e d' hm => hm⟩, hw⟩) (fun X => At.pure (fun hq => ?_))
  obtain ⟨j, d, u, h5⟩ := X
  simp only at hq ⊢
  obtain ⟨hj, hle5, hud, hsd, hmv⟩ := hq
  obtain ⟨va, vcp, rfl⟩ := hud.form
  refine goK _ ?_
  refine At.condP rfl (fun h6 => ?_) (fun h6 => ?_)
  · have hjl : rv + 1 + j < b.log.length := by omega
    have hnj : b.log[rv + 1 + j]? = some b.log[rv + 1 + j] := by simp [hjl]
    have hnjm : b.log[rv + 1 + j] ∈ s.cs.map Ox.Cm.num := hlog.2.2 _ (by simp)
    have hdr : b.log.drop (rv + 1 + j) = b.log[rv + 1 + j] :: b.log.drop (rv + 1 + (j + 1)) := List.drop_eq_getElem_cons hjl
    generalize b.log[rv + 1 + j] = nj at *
    have hoff : off lcp (rv + 1) ⟨lb, lo, none⟩ 1 = ⟨lb, lo + (rv + 1) * 1, none⟩ := by rw [off_none, if_neg (by omega)]
    obtain ⟨_, _, e6, _, _, hcj⟩ := RowRd.elem zc_length hlr3 hnj
    cases e6
    have hcj' : CellR [lgI (.slice (some ⟨lb, lo, none⟩) b.log.length lcp) b.log] h5 lb (lo + (rv + 1) * 1 + j * 1) (.int .i64 nj) := by
      have := (hcj 0 (.int .i64 nj) rfl).mono hle5 (R' := [lgI (.slice (some ⟨lb, lo, none⟩) b.log.length lcp) b.log]) (fun _ hi => hi)
      rw [show lo + (rv + 1 + j) * 1 + 0 = lo + (rv + 1) * 1 + j * 1 by omega] at this
      exact this
    refine At.respell (t := 81) (v' := .slice (some ⟨lb, lo + (rv + 1) * 1, none⟩) (b.log.length - (rv + 1)) (lcp - (rv + 1))) rfl (by rw [hoff]) ?_
    repeat (first | refine Ops.val rfl rfl rfl (V.indexAddr rfl rfl rfl rfl (by omega)) ?_ | refine goS _ ?_)
    refine Ops.val rfl rfl rfl (V.load rfl rfl (fun w hw => Mem.cellR (hcj') (by first | exact fun _ hi => hi | exact fun _ hi => List.mem_cons_of_mem _ hi | exact fun _ hi => List.mem_cons_of_mem _ (List.mem_cons_of_mem _ hi) | simp +contextual | grind) hw)) ?_
    refine goK _ ?_
    refine Ops.eff rfl rfl rfl (Eff.callAt 0 (fn (by kernel_rfl)) rfl (Ωc := MS m dm s csv (.slice (some ⟨bb, 0, none⟩) ys.length bcp2) ksv M3 zs ys [lgI (.slice (some ⟨lb, lo, none⟩) b.log.length lcp) b.log]) rfl (hcm M3 nj (by have := inv.pos hnjm; exact ⟨by omega, by omega⟩) h5 (hle2.trans (hle3.trans hle5)))) fun _ => Ops.ex fun _ => Ops.ex fun _ => Ops.pure ?_
    rintro ⟨hcp', rfl, rfl⟩
    rename_i rc
    rcases hcp' with ⟨z, hz, hzn, rfl⟩ | ⟨hno', rfl⟩
    rotate_left
    · exfalso
      rw [← ok.cs, List.map_map] at hnjm
      obtain ⟨z, hz, e⟩ := List.mem_map.1 hnjm
      exact hno' z hz e
    have hzo' := (ok.cok z hz).mono (hle2.trans (hle3.trans hle5))
    have hzc' : z.c ∈ s.cs := by rw [← ok.cs]; exact List.mem_map_of_mem hz
    have hzs := inv.cs.short z.c hzc'
    refine Ops.val rfl rfl rfl (Val.move rfl) ?_
    refine Ops.val rfl rfl rfl (Val.extract rfl rfl) ?_
    refine Ops.val rfl rfl rfl (Val.extract rfl rfl) ?_
    refine Ops.eff rfl rfl rfl (E.alloc rfl) fun _ => Ops.ex fun b15 => Ops.pure ?_
    rintro rfl
    refine Ops.eff0 rfl rfl (E.store 0 rfl rfl rfl rfl rfl rfl hzo'.one) fun _ => ?_
    refine Ops.val rfl rfl rfl (Val.assign rfl) ?_
    refine Ops.nil ?_
    refine At.imp (S' := Mem c (cells b15 (cmc z) 47 :: (MS m dm s csv (.slice (some ⟨bb, 0, none⟩) ys.length bcp2) ksv M3 zs ys [lgI (.slice (some ⟨lb, lo, none⟩) b.log.length lcp) b.log] ++ [cells b4 z27 27, cells b3 (msc x (.slice da x.d.length dcp)) 53, B2])) h5) ?_ (fun w hw => hw)
    refine goK _ ?_
    refine Ops.eff rfl rfl rfl (Eff.call (fn (by kernel_rfl)) rfl (Ωc := []) rfl (TransF_does _ z.dv d z.c.d false (fun o ho => by have := (hsd o ho).2.2; omega) hzs h5 hud hzo'.d)) fun _ => Ops.ex fun _ => Ops.ex fun _ => Ops.pure ?_
    rintro ⟨rfl, hle6, hr6⟩
    rename_i r6 h6'
    rcases hr6 with ⟨he6, rfl⟩ | ⟨he6, tv, rfl, htv, hts⟩
    · refine Ops.val rfl rfl rfl (Val.move rfl) ?_
      refine Ops.val rfl rfl rfl (Val.extract rfl rfl) ?_
      refine Ops.val rfl rfl rfl (Val.extract rfl rfl) ?_
      refine Ops.val rfl rfl rfl (Val.assign rfl) ?_
      refine Ops.val rfl rfl rfl (Val.assign rfl) ?_
      refine Ops.nil ?_
      refine goK _ ?_
      refine At.condN rfl (fun h7 => ?_) (fun h7 => absurd h7 he6)
      refine goK _ ?_
      refine Ops.eff0 rfl rfl (E.store 7 rfl rfl rfl rfl rfl rfl rfl) fun _ => ?_
      refine goK _ ?_
      exact At.ret2 Tryz.results20 (Res.cellA (j := 7) (cs := z27) (ly rfl) rfl rfl rfl) (Res.tmp rfl) (List.nil_sublist _) (EdPost.bad (hc0.symm ▸ (hle123.trans hle5).trans hle6) (.long i b n ds [] harg ha htake hl0 (by rw [hrt]; exact hn0) hbl hpa (by rw [hrt]; exact hmv 198 [] (by rw [hdr]; exact .bad hzc' hzn he6))))
    · obtain ⟨ta, tcp, rfl⟩ := htv.form
      refine Ops.val rfl rfl rfl (Val.move rfl) ?_
      refine Ops.val rfl rfl rfl (Val.extract rfl rfl) ?_
      refine Ops.val rfl rfl rfl (Val.extract rfl rfl) ?_
      refine Ops.val rfl rfl rfl (Val.assign rfl) ?_
      refine Ops.val rfl rfl rfl (Val.assign rfl) ?_
      refine Ops.nil ?_
      refine goK _ ?_
      refine At.back (σI := fun X : LpS => _) (⟨j + 1, Ox.transD d z.c.d false, .slice ta (Ox.transD d z.c.d false).length tcp, h6'⟩ : LpS) (by show b.log.length - (rv + 1) - (j + 1) < b.log.length - (rv + 1) - j; omega) (by exact ⟨rfl, rfl, rfl, rfl, rfl, by rw [← hoff]; rfl, rfl, rfl, trivial⟩) (fun w hw => ⟨⟨by show j + 1 ≤ _; omega, hle5.trans hle6, htv, hts, fun e d' hm => hmv e d' (by rw [hdr]; exact .more hzc' hzn he6 hm)⟩, hw.sub (List.sublist_cons_self _ _)⟩)
  obtain rfl : j = b.log.length - (rv + 1) := by omega
  have hmv0 : Ox.MovR s (Ox.norm ds) (b.log.drop (rv + 1)) 0 d := hmv 0 d (by rw [List.drop_eq_nil_of_le (by omega)]; exact .nil d)
  have hle15 := hle2.trans (hle3.trans hle5)
  refine goK _ ?_
  refine Ops.eff rfl rfl rfl (Eff.callP 0 (fn (by kernel_rfl)) rfl (Ωc := MS m dm s csv (.slice (some ⟨bb, 0, none⟩) ys.length bcp2) ksv M3 zs ys [lgI (.slice (some ⟨lb, lo, none⟩) b.log.length lcp) b.log]) rfl (hfl M3 h5)) fun _ => Ops.pure ?_
  rintro rfl
  refine goK _ ?_
  refine At.condP rfl (fun h7 => ?_) (fun h7 => ?_)
  · refine goK _ ?_
    refine Ops.eff0 rfl rfl (E.store 6 rfl rfl rfl rfl rfl rfl rfl) fun _ => ?_
    refine goK _ ?_
    exact At.ret2 Tryz.results20 (Res.cellA (j := 6) (cs := z27) (ly rfl) rfl rfl rfl) (Res.tmp rfl) (List.nil_sublist _) (EdPost.bad (hc0.symm ▸ hle123.trans hle5) (.full i b n ds d harg ha htake hl0 (by rw [hrt]; exact hn0) hbl hpa (by rw [hrt]; exact hmv0) h7))
  repeat (first | refine Ops.val rfl rfl rfl (V.loadO 7 rfl rfl rfl rfl) ?_ | refine goS _ ?_)
  refine Ops.eff rfl rfl rfl (Eff.callAt 0 (fn (by kernel_rfl)) rfl (Ωc := MS m dm s csv (.slice (some ⟨bb, 0, none⟩) ys.length bcp2) ksv M3 zs ys [lgI (.slice (some ⟨lb, lo, none⟩) b.log.length lcp) b.log]) rfl (hadd M3 h5 hle15 [] d [] x.client x.seq (.slice none 0 0) (.slice va d.length vcp) (.slice none 0 0) (by simp) (SlH.nil _ _) hud (SlH.nil _ _))) fun _ => Ops.ex fun _ => Ops.ex fun _ => Ops.pure ?_
  rintro ⟨hle8, rfl, csv', zs', ys', lv', ok', hyi', rfl⟩
  rename_i h8
  have hx8 : MsH h8 (.agg (msc x (.slice da x.d.length dcp)).toArray) x (.slice da x.d.length dcp) := ((hx1.mono hle15).mono hle8)
  refine Ops.nil ?_
  repeat (first | refine Ops.val rfl rfl rfl (V.loadOA 7 rfl rfl rfl rfl) ?_ | refine goS _ ?_)
  refine Ops.eff rfl rfl rfl (Eff.callAt 0 (fn (by kernel_rfl)) rfl (Ωc := MX m dm (s.nc + 1) s.nb csv' (.slice (some ⟨bb, 0, none⟩) ys.length bcp2) ksv M3 zs' ys' s.ks [lgI lv' (b.put s.nc).log]) rfl (note_does m dm (s.nc + 1) s.nb csv' (.slice (some ⟨bb, 0, none⟩) ys.length bcp2) ksv M3 zs' ys' s.ks [lgI lv' (b.put s.nc).log] x _ _ h8 hx8 harg.2 inv.ksort (fun k hk => by have := inv.ks k hk; exact ⟨this.1, this.2.1⟩) inv.kslen)) fun _ => Ops.ex fun _ => Ops.ex fun _ => Ops.pure ?_
  rintro ⟨rfl, ksv', rfl⟩
  refine Ops.nil ?_
  refine At.row_form 2 rfl fun a1 c1 e1 => ?_
  subst e1
  refine At.row_form 3 rfl fun a2 c2 e2 => ?_
  clear e2
  refine At.row_form 4 rfl fun a3 c3 e3 => ?_
  subst e3
  refine goK _ ?_
  refine Ops.val rfl rfl rfl (V.loadN (cs := [.int .i64 (s.nc + 1), .int .i64 s.nb, .slice a1 zs'.length c1, .slice (some ⟨bb, 0, none⟩) ys.length bcp2, .slice a3 (Ox.note s.ks x).length c3]) rfl rfl rfl (fun w hw j u hu => hw.cell (n := 0) rfl (mcc_at' hu))) ?_
  refine Ops.eff0 rfl rfl (E.store 6 rfl rfl rfl rfl rfl rfl rfl) fun _ => ?_
  refine goK _ ?_
  refine At.imp (S' := Mem c (MS m dm { s.addC i b [] d [] x.client x.seq with ks := Ox.note s.ks x } (.slice a1 zs'.length c1) (.slice (some ⟨bb, 0, none⟩) ys.length bcp2) (.slice a3 (Ox.note s.ks x).length c3) M3 zs' ys' (lgs ys' (some i) ys'.length) ++ [cells b4 [.int .i64 (s.nc + 1), .int .i64 s.nb, .slice a1 zs'.length c1, .slice (some ⟨bb, 0, none⟩) ys.length bcp2, .slice a3 (Ox.note s.ks x).length c3] 27, cells b3 (msc x (.slice da x.d.length dcp)) 53, B2]) h8) ?_ (fun w hw => by rw [lgs_own hyi']; exact hw)
  have ok'' : MOk h8 { s.addC i b [] d [] x.client x.seq with ks := Ox.note s.ks x } zs' ys' (some i) := ⟨ok'.cs, ok'.bs, ok'.cok, ok'.lok⟩
  refine atPublish ok'' fun h9 hle9 hsv => ?_
  exact At.ret2 Tryz.results20 (Res.cellA (j := 0) (ly rfl) rfl rfl rfl) (Res.tmp rfl) (List.nil_sublist _) ⟨hc0.symm ▸ ((hle123.trans hle5).trans hle8).trans hle9, rfl, 0, _, _, .done i b n ds d harg ha htake hl0 (by rw [hrt]; exact hn0) hbl hpa (by rw [hrt]; exact hmv0) h7, rfl, hsv⟩
end Go.Proofs.YthjgbmbaabpgmaaGreat
