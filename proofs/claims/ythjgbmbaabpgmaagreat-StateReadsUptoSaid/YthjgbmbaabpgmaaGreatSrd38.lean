/-
  The machine at work: branches, tips, documents.
-/
import Derived.Test.YthjgbmbaabpgmaaGreatSrd37
import Derived.Test.YthjgbmbaabpgmaaGreatSrd05
set_option linter.unusedVariables false
set_option linter.unusedSimpArgs false
set_option linter.unusedSectionVars false
namespace Go.Proofs.YthjgbmbaabpgmaaGreat
open Go.Sy
set_option maxRecDepth 4000
set_option maxHeartbeats 4000000
theorem BrPtr.at_ {s : Ox.St} {bb : Nat} {ys : List BrV} {p : Ox.Br → Prop} {r : Value} (h : BrPtr bb ys p r) (e : ys.map BrV.b = s.bs) {i : Nat} {b : Ox.Br} (ha : Ox.BrAt s.bs p i b) : r = .pointer (some ⟨bb, 0 + i * 3, none⟩) := by
  rcases h with ⟨j, b', lv, _, hj, rfl⟩ | ⟨hn, _⟩
  · obtain ⟨rfl, _⟩ := (BrAt.of e hj).inj ha; rfl
  · exact absurd ha.holds (hn b (e ▸ BrAt.mem ha))
theorem BrPtr.none_ {s : Ox.St} {bb : Nat} {ys : List BrV} {p : Ox.Br → Prop} {r : Value} (h : BrPtr bb ys p r) (e : ys.map BrV.b = s.bs) (ha : ∀ b ∈ s.bs, ¬ p b) : r = .pointer none := by
  rcases h with ⟨j, b', lv, _, hj, _⟩ | ⟨_, rfl⟩
  · exact absurd hj.holds (ha b' (e ▸ BrAt.mem hj))
  · rfl
theorem br_cells {R : List Itm} {h : HV} {bsv : Value} {bb : Nat} {ys : List BrV} (hbr : RowRd brc 3 R h bsv ys) (hbf : BsForm bb ys bsv) {i : Nat} {y : BrV} (hy : ys[i]? = some y) : ∃ cp, bsv = .slice (some ⟨bb, 0, none⟩) ys.length cp ∧ ∀ j u, (brc y)[j]? = some u → CellR R h bb (0 + i * 3 + j) u := by
  rcases hbf with ⟨cp, rfl⟩ | ⟨rfl, _⟩
  · obtain ⟨b0, o0, e, _, _, hc⟩ := RowRd.elem brc_length hbr hy
    cases e
    exact ⟨cp, rfl, hc⟩
  · simp at hy
/-- what was grown stays as it is from here on, inside a region -/
theorem opsPublish {P : Program} {Q : Exit → Act → World → Prop} {n : Sz} {σ : Slots} {k : List It} {c : Ctx} {Ω : List Itm} {h : HV} {ops : Array Oper} {l : List Oper} {e m N : Nat} {v : Value} {xs : List Value} (j : Nat) (hj : Ω[j]? = some (row e m v N xs))
    (hk : ∀ h', HV.le h h' → SlH h' v m N xs → Ops P Q n σ (Mem c (Ω.eraseIdx j) h') ops l k) : Ops P Q n σ (Mem c Ω h) ops l k := by
  intro a w ha hw
  have M := hw.perm (set_perm Ω j _ (row e m v N xs) hj).1
  obtain ⟨h', hle, hsl, M'⟩ := M.publish_row
  exact hk h' hle hsl a w ha M'
attribute [local irreducible] At Ops Val Eff Does Res Dr

section
variable (m dm : Nat) (s : Ox.St) (csv bsv ksv : Value) (M : List (Int × Value)) (zs : List CmV) (ys : List BrV) (Ωl : List Itm) (t : Option Nat) (N : Nat) (inv : Ox.Inv N s) (h : HV) (ok : MOk h s zs ys t) (bb : Nat) (hbf : BsForm bb ys bsv)
include inv ok hbf
theorem mbranch_does (nm : List UInt8) (i : Nat) (b : Ox.Br) (ha : Ox.BrAt s.bs (·.name = nm) i b) :
    Does Tryz.prog 43 #[.pointer (some ⟨m, 0, none⟩), str nm] (MS m dm s csv bsv ksv M zs ys Ωl) h (fun r Ω' h' => r = .pointer (some ⟨bb, 0 + i * 3, none⟩) ∧ Ω' = MS m dm s csv bsv ksv M zs ys Ωl ∧ h = h') := by
  have hyl : ys.length ≤ 1000000000 := by have := inv.few; rw [← ok.bs, List.length_map] at this; omega
  refine MX.reads fun _ hbr _ _ => ?_
  exact (branch_does (mapI key dm M :: RX csv bsv ksv zs ys s.ks Ωl) m s.nc s.nb csv bsv ksv dm ys hyl h nm (hbr.mono (HV.le.refl _) fun i hi => List.mem_cons_of_mem _ hi)).mono fun r Ω' h' ⟨h1, h2, h3⟩ => ⟨(BrPost.ptr hbf h1).at_ ok.bs ha, h2, h3⟩
theorem mbranch_none (nm : List UInt8) (ha : ¬ Ox.named s nm) :
    Does Tryz.prog 43 #[.pointer (some ⟨m, 0, none⟩), str nm] (MS m dm s csv bsv ksv M zs ys Ωl) h (fun r Ω' h' => r = .pointer none ∧ Ω' = MS m dm s csv bsv ksv M zs ys Ωl ∧ h = h') := by
  have hyl : ys.length ≤ 1000000000 := by have := inv.few; rw [← ok.bs, List.length_map] at this; omega
  refine MX.reads fun _ hbr _ _ => ?_
  exact (branch_does (mapI key dm M :: RX csv bsv ksv zs ys s.ks Ωl) m s.nc s.nb csv bsv ksv dm ys hyl h nm (hbr.mono (HV.le.refl _) fun i hi => List.mem_cons_of_mem _ hi)).mono fun r Ω' h' ⟨h1, h2, h3⟩ => ⟨(BrPost.ptr hbf h1).none_ ok.bs (fun b hb e => ha ⟨b, hb, e⟩), h2, h3⟩
/-- is there a branch of that name -/
theorem mbranch_is (nm : List UInt8) :
    Does Tryz.prog 43 #[.pointer (some ⟨m, 0, none⟩), str nm] (MS m dm s csv bsv ksv M zs ys Ωl) h (fun r Ω' h' => (∃ p : Option Addr, r = .pointer p ∧ (p.isNone = true ↔ ¬ Ox.named s nm)) ∧ Ω' = MS m dm s csv bsv ksv M zs ys Ωl ∧ h = h') := by
  by_cases hn : Ox.named s nm
  · obtain ⟨i, b, ha⟩ := Ox.BrAt.ex hn
    exact (mbranch_does m dm s csv bsv ksv M zs ys Ωl t N inv h ok bb hbf nm i b ha).mono fun r Ω' h' ⟨h1, h2, h3⟩ => ⟨⟨_, h1, by simp [hn]⟩, h2, h3⟩
  · exact (mbranch_none m dm s csv bsv ksv M zs ys Ωl t N inv h ok bb hbf nm hn).mono fun r Ω' h' ⟨h1, h2, h3⟩ => ⟨⟨_, h1, by simp [hn]⟩, h2, h3⟩
theorem mbyId_does (n : Int) (i : Nat) (b : Ox.Br) (ha : Ox.BrAt s.bs (·.id = n) i b) :
    Does Tryz.prog 51 #[.pointer (some ⟨m, 0, none⟩), .int .i64 n] (MS m dm s csv bsv ksv M zs ys Ωl) h (fun r Ω' h' => r = .pointer (some ⟨bb, 0 + i * 3, none⟩) ∧ Ω' = MS m dm s csv bsv ksv M zs ys Ωl ∧ h = h') := by
  have hyl : ys.length ≤ 1000000000 := by have := inv.few; rw [← ok.bs, List.length_map] at this; omega
  refine MX.reads fun _ hbr _ _ => ?_
  exact (byId_does (mapI key dm M :: RX csv bsv ksv zs ys s.ks Ωl) m s.nc s.nb csv bsv ksv dm ys hyl h n (hbr.mono (HV.le.refl _) fun i hi => List.mem_cons_of_mem _ hi)).mono fun r Ω' h' ⟨h1, h2, h3⟩ => ⟨(BrPost.ptr hbf h1).at_ ok.bs ha, h2, h3⟩
theorem mbyId_none (n : Int) (ha : ∀ b ∈ s.bs, b.id ≠ n) :
    Does Tryz.prog 51 #[.pointer (some ⟨m, 0, none⟩), .int .i64 n] (MS m dm s csv bsv ksv M zs ys Ωl) h (fun r Ω' h' => r = .pointer none ∧ Ω' = MS m dm s csv bsv ksv M zs ys Ωl ∧ h = h') := by
  have hyl : ys.length ≤ 1000000000 := by have := inv.few; rw [← ok.bs, List.length_map] at this; omega
  refine MX.reads fun _ hbr _ _ => ?_
  exact (byId_does (mapI key dm M :: RX csv bsv ksv zs ys s.ks Ωl) m s.nc s.nb csv bsv ksv dm ys hyl h n (hbr.mono (HV.le.refl _) fun i hi => List.mem_cons_of_mem _ hi)).mono fun r Ω' h' ⟨h1, h2, h3⟩ => ⟨(BrPost.ptr hbf h1).none_ ok.bs ha, h2, h3⟩
/-- the tip of a branch whose log stays -/
theorem mtip_does (i : Nat) (b : Ox.Br) (hb : s.bs[i]? = some b) (ht : t ≠ some i) :
    Does Tryz.prog 111 #[.pointer (some ⟨bb, 0 + i * 3, none⟩)] (RX csv bsv ksv zs ys s.ks Ωl) h (fun r Ω' h' => r = .int .i64 (Ox.lastZ b.log) ∧ Ω' = RX csv bsv ksv zs ys s.ks Ωl ∧ h = h') := by
  obtain ⟨lv, hy⟩ := ys_at ok.bs hb
  refine Does.row_reads 1 rfl fun hbr0 => ?_
  have hbr : RowRd brc 3 (RX csv bsv ksv zs ys s.ks Ωl) h bsv ys := Reads.mono hbr0 (HV.le.refl h) (by simp)
  obtain ⟨cp, rfl, hc⟩ := br_cells hbr hbf hy
  have hbm := List.mem_of_getElem? hb
  exact tip_does _ bb (0 + i * 3) lv b.log h (hc 2 lv rfl) (Reads.ofH (ok.lok i _ hy ht)) (inv.logs b hbm).1 (by have := inv.loglen hbm; omega)
/-- the tip of the branch whose log is owned -/
theorem mtipO_does (i : Nat) (b : Ox.Br) (lv : Value) (hy : ys[i]? = some ⟨b, lv⟩) :
    Does Tryz.prog 111 #[.pointer (some ⟨bb, 0 + i * 3, none⟩)] (RX csv bsv ksv zs ys s.ks [lgI lv b.log]) h (fun r Ω' h' => r = .int .i64 (Ox.lastZ b.log) ∧ Ω' = RX csv bsv ksv zs ys s.ks [lgI lv b.log] ∧ h = h') := by
  refine Does.row_reads 1 rfl fun hbr0 => ?_
  refine Does.row_reads 3 rfl fun hlr0 => ?_
  have hbr : RowRd brc 3 (RX csv bsv ksv zs ys s.ks [lgI lv b.log]) h bsv ys := Reads.mono hbr0 (HV.le.refl h) (by simp)
  have hlr : RowRd zc 1 (RX csv bsv ksv zs ys s.ks [lgI lv b.log]) h lv b.log := Reads.mono hlr0 (HV.le.refl h) (by simp)
  obtain ⟨cp, rfl, hc⟩ := br_cells hbr hbf hy
  have hbm : b ∈ s.bs := by rw [← ok.bs]; exact List.mem_map.2 ⟨_, List.mem_of_getElem? hy, rfl⟩
  exact tip_does _ bb (0 + i * 3) lv b.log h (hc 2 lv rfl) hlr (inv.logs b hbm).1 (by have := inv.loglen hbm; omega)
omit hbf in
theorem mdoc_does (n : Int) (hn : n ∈ s.cs.map Ox.Cm.num) (hD : DocMap h M (Ox.docsOf s.cs)) :
    Does Tryz.prog 46 #[.pointer (some ⟨m, 0, none⟩), .int .i64 n] (MS m dm s csv bsv ksv M zs ys Ωl) h (fun r Ω' h' => HV.le h h' ∧ ∃ M', Ω' = MS m dm s csv bsv ksv M' zs ys Ωl ∧ AtsH h' r (s.doc n) ∧ DocMap h' M' (Ox.docsOf s.cs)) := by
  refine MX.reads fun hcr _ _ _ => ?_
  have hC : Ox.CsOk (zs.map CmV.c) (Ox.docsOf s.cs) := by rw [ok.cs]; exact inv.cs
  have hn' : n ∈ zs.map fun z => z.c.num := by rw [← ok.cs, List.map_map] at hn; exact hn
  exact doc_does (RX csv bsv ksv zs ys s.ks Ωl) m s.nc s.nb csv bsv ksv dm zs (Ox.docsOf s.cs) M n hn' h hcr ok.cok hC hD
omit hbf in
theorem mlinks_does :
    Does Tryz.prog 92 #[.pointer (some ⟨m, 0, none⟩)] (MS m dm s csv bsv ksv M zs ys Ωl) h (fun r Ω' h' => Ω' = row 222 2 r zs.length ((zs.map zlk).flatMap lkc) :: MS m dm s csv bsv ksv M zs ys Ωl ∧ h = h') := by
  refine MX.reads fun hcr _ _ _ => ?_
  have hzl : zs.length ≤ 1000000 := by have := inv.cslen; rw [← ok.cs, List.length_map] at this; omega
  exact links_does (mapI key dm M :: RX csv bsv ksv zs ys s.ks Ωl) m s.nc s.nb csv bsv ksv dm zs h (hcr.mono (HV.le.refl _) fun i hi => List.mem_cons_of_mem _ hi) ok.cok hzl
omit hbf in
theorem mcommit_does (n : Int) (hni : I64 n) :
    Does Tryz.prog 45 #[.pointer (some ⟨m, 0, none⟩), .int .i64 n] (MS m dm s csv bsv ksv M zs ys Ωl) h (fun r Ω' h' => CmPost zs n r ∧ Ω' = MS m dm s csv bsv ksv M zs ys Ωl ∧ h = h') := by
  refine MX.reads fun hcr _ _ _ => ?_
  have hN : Nums zs := CsNums (by rw [ok.cs]; exact inv.cs.dag)
  exact commit_does (mapI key dm M :: RX csv bsv ksv zs ys s.ks Ωl) m s.nc s.nb csv bsv ksv dm zs h (hcr.mono (HV.le.refl _) fun i hi => List.mem_cons_of_mem _ hi) ok.cok hN n hni
omit hbf in
theorem mcommit_is (n : Int) (hni : I64 n) :
    Does Tryz.prog 45 #[.pointer (some ⟨m, 0, none⟩), .int .i64 n] (MS m dm s csv bsv ksv M zs ys Ωl) h (fun r Ω' h' => (∃ cs f, r = .tuple #[.agg (List.toArray cs), .bool f] ∧ cs.length = 6 ∧ cs.all (·.oneCell') = true ∧ (f = true ↔ n ∈ s.cs.map Ox.Cm.num)) ∧ Ω' = MS m dm s csv bsv ksv M zs ys Ωl ∧ h = h') := by
  refine (mcommit_does m dm s csv bsv ksv M zs ys Ωl t N inv h ok n hni).mono fun r Ω' h' ⟨h1, h2, h3⟩ => ⟨?_, h2, h3⟩
  rcases h1 with ⟨z, hz, hzn, rfl⟩ | ⟨hno, rfl⟩
  · refine ⟨cmc z, true, rfl, rfl, (ok.cok z hz).one, ?_⟩
    simp only [true_iff]
    rw [← hzn, ← ok.cs]; exact List.mem_map_of_mem (List.mem_map_of_mem hz)
  · refine ⟨cm0, false, rfl, rfl, rfl, ?_⟩
    simp only [Bool.false_eq_true, false_iff]
    intro hm
    rw [← ok.cs, List.map_map] at hm
    obtain ⟨z, hz, e⟩ := List.mem_map.1 hm
    exact hno z hz e
omit inv ok hbf in
theorem mfull_does :
    Does Tryz.prog 56 #[.pointer (some ⟨m, 0, none⟩)] (MS m dm s csv bsv ksv M zs ys Ωl) h (fun r Ω' h' => r = .bool (decide (300 < s.nc)) ∧ Ω' = MS m dm s csv bsv ksv M zs ys Ωl ∧ h = h') :=
  full_does (mapI key dm M :: RX csv bsv ksv zs ys s.ks Ωl) m s.nc s.nb csv bsv ksv dm h
end
end Go.Proofs.YthjgbmbaabpgmaaGreat
/-
  The machine: new branches.
-/
namespace Go.Proofs.YthjgbmbaabpgmaaGreat
open Go.Sy
set_option maxRecDepth 4000
set_option maxHeartbeats 4000000
def z34 : List Value := [.int .i64 0, .int .i64 0, str [], .slice none 0 0, .slice none 0 0]
/-- a refusal -/
theorem HdPost.bad {m dm : Nat} {s : Ox.St} {q : Ox.Rq} {k : Int} {t : Option Nat} {h h' : HV} {e : Int} (hle : HV.le h h') (he : e ≠ 0) (hr : Ox.HdR s q k e .zero .zero) : HdPost m dm s q k t h (.tuple #[.agg z34.toArray, .int .i64 e]) [] h' :=
  ⟨hle, e, .zero, .zero, _, hr, rfl, RpH.plain _ _ _ _, fun h0 => absurd h0 he⟩
theorem MOk.addE {h : HV} {s : Ox.St} {zs : List CmV} {ys : List BrV} {t : Option Nat} (r : MOk h s zs ys t) : MOk h s.addE (zs ++ [⟨⟨s.nc, [], [], [], 0, 0⟩, .slice none 0 0, .slice none 0 0, .slice none 0 0⟩]) ys t :=
  ⟨by rw [List.map_append, r.cs]; rfl, r.bs, fun z hz => by
    rcases List.mem_append.1 hz with h1 | h1
    · exact r.cok z h1
    · simp at h1; subst h1; exact ⟨SlH.nil _ _, SlH.nil _ _, SlH.nil _ _⟩, r.lok⟩
theorem MOk.addB {h : HV} {s : Ox.St} {zs : List CmV} {ys : List BrV} (r : MOk h s zs ys none) {n : List UInt8} {first : Int} {lv : Value} (hl : ZsH h lv [first]) : MOk h (s.addB n first) zs (ys ++ [⟨⟨s.nb, n, [first]⟩, lv⟩]) none :=
  ⟨r.cs, by rw [List.map_append, r.bs]; rfl, r.cok, fun k y hk hn => by
    rcases Nat.lt_or_ge k ys.length with h1 | h1
    · rw [List.getElem?_append_left h1] at hk; exact r.lok k y hk hn
    · rw [List.getElem?_append_right h1] at hk
      rcases Nat.lt_or_ge 0 (k - ys.length) with h2 | h2
      · rw [List.getElem?_eq_none (by simp; omega)] at hk; cases hk
      · rw [show k - ys.length = 0 by omega] at hk; simp at hk; subst hk; exact hl⟩
attribute [local irreducible] At Ops Val Eff Does Res Dr

section
variable (m dm : Nat) (s : Ox.St) (csv bsv ksv : Value) (zs : List CmV) (ys : List BrV) (N : Nat) (hN : N ≤ 1000) (inv : Ox.Inv N s) (h : HV) (ok : MOk h s zs ys none) (q : Ox.Rq) (qv dv : Value) (hq : RqH h qv q dv)
include inv ok hq hN
theorem hfork_does : Does Tryz.prog 80 #[.pointer (some ⟨m, 0, none⟩), qv] (MS m dm s csv bsv ksv [] zs ys []) h (HdPost m dm s q 4 none h) := by
  refine MX.reads fun _ hbr0 _ hbb => ?_
  obtain ⟨bb, hbf⟩ := hbb
  obtain ⟨ba, bcp, rfl⟩ := hbr0.form
  have hbr := mbranch_is m dm s csv _ ksv [] zs ys [] none N inv h ok bb hbf q.name
  have hcm := mcommit_is m dm s csv (.slice ba ys.length bcp) ksv [] zs ys [] none N inv h ok q.num hq.num
  have hnb := inv.nb
  have hyl : s.bs.length = ys.length := by rw [← ok.bs, List.length_map]
  have hfw := inv.few
  have hfd := found_does m dm s.nc s.nb csv (.slice ba ys.length bcp) ksv [] zs ys s.ks [] q.name q.num ⟨by omega, by omega⟩ (by omega) h
  have hzs : ∀ z ∈ zs, (cmc z).all (·.oneCell') = true := fun z hz => (ok.cok z hz).one
  obtain ⟨da, dcp, e⟩ := hq.d.form
  have hqv := hq.val
  subst e; subst hqv
  refine Does.of Tryz.func80 rfl Tryz.ntmps80 rfl fun c hc0 => ?_
  refine goK _ ?_
  refine Ops.eff rfl rfl rfl (Eff.box rfl) fun _ => Ops.ex fun b3 => Ops.pure ?_
  rintro rfl
  refine Ops.eff rfl rfl rfl (E.alloc rfl) fun _ => Ops.ex fun b4 => Ops.pure ?_
  rintro rfl
  refine goK _ ?_
  refine Ops.eff rfl rfl rfl (Eff.callP 2 (fn (by kernel_rfl)) rfl (Ωc := MS m dm s csv (.slice ba ys.length bcp) ksv [] zs ys []) (Ωr := []) (by simp) hcm) fun _ => Ops.pure ?_
  rintro ⟨cs, f, rfl, hcl, hc1, hf⟩
  refine goK _ ?_
  refine Ops.eff rfl rfl rfl (E.alloc rfl) fun _ => Ops.ex fun b6 => Ops.pure ?_
  rintro rfl
  refine Ops.eff0 rfl rfl (E.store 0 rfl rfl rfl rfl (by show cs.toArray.size = 6; simpa using hcl) (by simp) (by show cs.toArray.toList.all (·.oneCell') = true; simpa using hc1)) fun _ => ?_
  refine goK _ ?_
  refine Ops.eff rfl rfl rfl (Eff.callP 3 (fn (by kernel_rfl)) rfl (Ωc := MS m dm s csv (.slice ba ys.length bcp) ksv [] zs ys []) (Ωr := []) (by simp) hbr) fun _ => Ops.pure ?_
  rintro ⟨p, rfl, hp⟩
  refine Ops.val rfl rfl rfl (Val.neqPtr Tryz.underlying96 rfl) ?_
  refine goK _ ?_
  refine At.cond rfl (fun h1 => ?_) (fun h1 => ?_)
  · have hnm : Ox.named s q.name := by
      by_cases hx : Ox.named s q.name
      · exact hx
      · rw [hp.2 hx] at h1; cases h1
    have hE : Ox.forkE s q = 191 := by rw [Ox.forkE, if_pos hnm]
    refine goK _ ?_
    refine Ops.eff0 rfl rfl (E.store 1 rfl rfl rfl rfl rfl rfl rfl) fun _ => ?_
    refine goK _ ?_
    exact At.ret2 Tryz.results80 (Res.cellA (j := 1) (cs := z34) (ly rfl) rfl rfl rfl) (Res.tmp rfl) (List.nil_sublist _) (HdPost.bad (hc0.symm ▸ HV.le.refl _) (by decide) (by rw [← hE]; exact .forkE (by rw [hE]; decide)))
  have hnm : ¬ Ox.named s q.name := fun hx => by
    have : p.isNone = true := by simpa using h1
    exact hp.1 this hx
  refine goK _ ?_
  refine At.cond rfl (fun h2 => ?_) (fun h2 => ?_)
  · have hno : q.num ∉ s.cs.map Ox.Cm.num := fun hx => by rw [hf.2 hx] at h2; cases h2
    have hE : Ox.forkE s q = 192 := by rw [Ox.forkE, if_neg hnm, if_pos hno]
    refine goK _ ?_
    refine Ops.eff0 rfl rfl (E.store 1 rfl rfl rfl rfl rfl rfl rfl) fun _ => ?_
    refine goK _ ?_
    exact At.ret2 Tryz.results80 (Res.cellA (j := 1) (cs := z34) (ly rfl) rfl rfl rfl) (Res.tmp rfl) (List.nil_sublist _) (HdPost.bad (hc0.symm ▸ HV.le.refl _) (by decide) (by rw [← hE]; exact .forkE (by rw [hE]; decide)))
  have hin : q.num ∈ s.cs.map Ox.Cm.num := hf.1 (by simpa using h2)
  refine goK _ ?_
  refine At.condP rfl (fun h3 => ?_) (fun h3 => ?_)
  · have hE : Ox.forkE s q = 193 := by rw [Ox.forkE, if_neg hnm, if_neg (by simpa using hin), if_pos (by omega)]
    refine goK _ ?_
    refine Ops.eff0 rfl rfl (E.store 1 rfl rfl rfl rfl rfl rfl rfl) fun _ => ?_
    refine goK _ ?_
    exact At.ret2 Tryz.results80 (Res.cellA (j := 1) (cs := z34) (ly rfl) rfl rfl rfl) (Res.tmp rfl) (List.nil_sublist _) (HdPost.bad (hc0.symm ▸ HV.le.refl _) (by decide) (by rw [← hE]; exact .forkE (by rw [hE]; decide)))
  have hE : Ox.forkE s q = 0 := by rw [Ox.forkE, if_neg hnm, if_neg (by simpa using hin), if_neg (by omega)]
  refine goK _ ?_
  refine Ops.eff rfl rfl rfl (Eff.callAt 3 (fn (by kernel_rfl)) rfl (Ωc := MS m dm s csv (.slice ba ys.length bcp) ksv [] zs ys []) rfl (hfd)) fun _ => Ops.ex fun _ => Ops.ex fun _ => Ops.pure ?_
  rintro ⟨hle, rfl, bsv', lv, hlv, rfl⟩
  refine Ops.val rfl rfl rfl (V.build rfl rfl rfl) ?_
  refine Ops.eff0 rfl rfl (E.store 6 rfl rfl rfl rfl rfl rfl rfl) fun _ => ?_
  refine goK _ ?_
  exact At.ret2 Tryz.results80 (Res.cellA (j := 6) (cs := [.int .i64 0, .int .i64 s.nb, str [], .slice none 0 0, .slice none 0 0]) (ly rfl) rfl rfl rfl) (Res.tmp rfl) (Ω' := MS m dm (s.addB q.name q.num) csv bsv' ksv [] zs (ys ++ [⟨⟨s.nb, q.name, [q.num]⟩, lv⟩]) []) (List.sublist_append_left _ _)
    ⟨hc0.symm ▸ hle, 0, _, _, _, .fork hE, rfl, RpH.plain _ _ _ _, fun _ => ⟨csv, bsv', ksv, [], zs, _, (ok.mono hle).addB hlv, rfl⟩⟩
theorem hcreate_does : Does Tryz.prog 77 #[.pointer (some ⟨m, 0, none⟩), qv] (MS m dm s csv bsv ksv [] zs ys []) h (HdPost m dm s q 1 none h) := by
  refine MX.reads fun _ hbr0 _ hbb => ?_
  obtain ⟨bb, hbf⟩ := hbb
  obtain ⟨ba, bcp, rfl⟩ := hbr0.form
  have hbr := mbranch_is m dm s csv _ ksv [] zs ys [] none N inv h ok bb hbf q.name
  have hfl := mfull_does m dm s csv (.slice ba ys.length bcp) ksv [] zs ys [] h
  have hnb := inv.nb
  have hnc := inv.nc
  have hyl : s.bs.length = ys.length := by rw [← ok.bs, List.length_map]
  have hzl : s.cs.length = zs.length := by rw [← ok.cs, List.length_map]
  have hzf := inv.cslen
  have hfw := inv.few
  have hfd := fun csv' => found_does m dm (s.nc + 1) s.nb csv' (.slice ba ys.length bcp) ksv [] (zs ++ [⟨⟨s.nc, [], [], [], 0, 0⟩, .slice none 0 0, .slice none 0 0, .slice none 0 0⟩]) ys s.ks [] q.name s.nc ⟨by omega, by omega⟩ (by omega) h
  obtain ⟨da, dcp, e⟩ := hq.d.form
  have hqv := hq.val
  subst e; subst hqv
  refine Does.of Tryz.func77 rfl Tryz.ntmps77 rfl fun c hc0 => ?_
  refine goK _ ?_
  refine Ops.eff rfl rfl rfl (Eff.box rfl) fun _ => Ops.ex fun b3 => Ops.pure ?_
  rintro rfl
  refine Ops.eff rfl rfl rfl (E.alloc rfl) fun _ => Ops.ex fun b4 => Ops.pure ?_
  rintro rfl
  refine goK _ ?_
  refine Ops.eff rfl rfl rfl (Eff.callP 2 (fn (by kernel_rfl)) rfl (Ωc := MS m dm s csv (.slice ba ys.length bcp) ksv [] zs ys []) (Ωr := []) (by simp) hbr) fun _ => Ops.pure ?_
  rintro ⟨p, rfl, hp⟩
  refine Ops.val rfl rfl rfl (Val.neqPtr Tryz.underlying96 rfl) ?_
  refine goK _ ?_
  refine At.cond rfl (fun h1 => ?_) (fun h1 => ?_)
  · have hnm : Ox.named s q.name := by
      by_cases hx : Ox.named s q.name
      · exact hx
      · rw [hp.2 hx] at h1; cases h1
    have hE : Ox.createE s q = 191 := by rw [Ox.createE, if_pos hnm]
    refine goK _ ?_
    refine Ops.eff0 rfl rfl (E.store 0 rfl rfl rfl rfl rfl rfl rfl) fun _ => ?_
    refine goK _ ?_
    exact At.ret2 Tryz.results77 (Res.cellA (j := 0) (cs := z34) (ly rfl) rfl rfl rfl) (Res.tmp rfl) (List.nil_sublist _) (HdPost.bad (hc0.symm ▸ HV.le.refl _) (by decide) (by rw [← hE]; exact .createE (by rw [hE]; decide)))
  have hnm : ¬ Ox.named s q.name := fun hx => by
    have : p.isNone = true := by simpa using h1
    exact hp.1 this hx
  refine goK _ ?_
  refine Ops.forkR 13 (.bool (decide (20 ≤ s.bs.length ∨ 300 < s.nc))) [0, 3, 4, 5] ?_ (fun main => ?_)
  rotate_left
  · repeat' (first
      | (refine Ops.eff rfl rfl rfl (Eff.callP 2 (fn (by kernel_rfl)) rfl (Ωc := MS m dm s csv (.slice ba ys.length bcp) ksv [] zs ys []) (Ωr := []) (by simp) hfl) fun _ => Ops.pure ?_; rintro rfl)
      | refine opS _ ?_
      | refine Ops.gsplit rfl rfl (fun hb => ?_) (fun hb => ?_)
      | refine Ops.psplit rfl (fun hb => ?_) (fun hb => ?_))
    all_goals (refine Ops.nil ?_; refine main.sub ⟨congrArg (fun b => some (Value.bool b)) ?_, (by repeat (first | exact trivial | refine ⟨rfl, ?_⟩))⟩; clear main; (rw [Bool.eq_iff_iff]; simp at *; omega))
  refine At.condP rfl (fun h3 => ?_) (fun h3 => ?_)
  · have hE : Ox.createE s q = 193 := by rw [Ox.createE, if_neg hnm, if_pos h3]
    refine goK _ ?_
    refine Ops.eff0 rfl rfl (E.store 0 rfl rfl rfl rfl rfl rfl rfl) fun _ => ?_
    refine goK _ ?_
    exact At.ret2 Tryz.results77 (Res.cellA (j := 0) (cs := z34) (ly rfl) rfl rfl rfl) (Res.tmp rfl) (List.nil_sublist _) (HdPost.bad (hc0.symm ▸ HV.le.refl _) (by decide) (by rw [← hE]; exact .createE (by rw [hE]; decide)))
  have hE : Ox.createE s q = 0 := by rw [Ox.createE, if_neg hnm, if_neg h3]
  refine goK _ ?_
  first | refine At.drawn mo (fun _ _ m => m.drew _) ?_ | refine At.seq (At.drawn mo (fun _ _ m => m.drew _) ?_)
  refine Dr.val 0 rfl rfl rfl rfl (by kernel_rfl) rfl (Val.move rfl) ?_
  refine Dr.val 1 rfl rfl rfl rfl (by kernel_rfl) rfl (Val.move rfl) ?_
  refine Dr.val 2 rfl rfl rfl rfl (by kernel_rfl) rfl (Val.nilCheck rfl) ?_
  refine Dr.val 3 rfl rfl rfl rfl (by kernel_rfl) rfl (V.fieldAddr rfl rfl) ?_
  refine Dr.val 4 rfl rfl rfl rfl (by kernel_rfl) rfl (V.fieldAddr rfl rfl) ?_
  refine Dr.valS 5 _ rfl rfl rfl rfl (by kernel_rfl) rfl (V.load rfl rfl (fun _ hh => hh)) (fun w hw => hw.cell (n := 2) rfl rfl) ?_
  refine Dr.val 6 rfl rfl rfl rfl (by kernel_rfl) rfl (Val.move rfl) ?_
  refine Dr.val 7 rfl rfl rfl rfl (by kernel_rfl) rfl (Val.nilCheck rfl) ?_
  refine Dr.val 8 rfl rfl rfl rfl (by kernel_rfl) rfl (V.fieldAddr rfl rfl) ?_
  refine Dr.val 9 rfl rfl rfl rfl (by kernel_rfl) rfl (V.fieldAddr rfl rfl) ?_
  refine Dr.valS 10 _ rfl rfl rfl rfl (by kernel_rfl) rfl (V.load rfl rfl (fun _ hh => hh)) (fun w hw => hw.cell (n := 2) rfl rfl) ?_
  refine Dr.val 11 rfl rfl rfl rfl (by kernel_rfl) rfl (V.build rfl rfl rfl) ?_
  refine Dr.next (e := 12) rfl rfl (by kernel_rfl) rfl (by kernel_rfl) (by kernel_rfl) rfl rfl (E.buildSlice1 rfl rfl rfl rfl) aokK fun _ => Dr.ex fun _ => Dr.pure ?_
  rintro rfl
  refine Dr.next (e := 13) rfl rfl (by kernel_rfl) rfl (by kernel_rfl) (by kernel_rfl) rfl rfl (E.append1s 4 rfl rfl rfl rfl rfl rfl (by omega) (by omega)) aokK fun _ => ?_
  refine Dr.ex fun g1 => Dr.ex fun cp1 => Dr.pure ?_
  rintro rfl
  refine Dr.val 14 rfl rfl rfl rfl (by kernel_rfl) rfl (Val.nilCheck rfl) ?_
  refine Dr.val 15 rfl rfl rfl rfl (by kernel_rfl) rfl (V.fieldAddr rfl rfl) ?_
  refine Dr.val 16 rfl rfl rfl rfl (by kernel_rfl) rfl (V.fieldAddr rfl rfl) ?_
  refine Dr.next0 (e := 17) rfl rfl (by kernel_rfl) rfl (by kernel_rfl) (by kernel_rfl) rfl (E.store 2 rfl rfl rfl rfl rfl rfl rfl) aokK fun _ => ?_
  refine Dr.done (by kernel_rfl) (by kernel_rfl) ?_
  refine goK _ ?_
  refine Ops.eff0 rfl rfl (E.store 2 rfl rfl rfl rfl rfl rfl rfl) fun _ => ?_
  refine goK _ ?_
  refine At.imp (S' := Mem c (cells b4 z34 34 :: cells b3 [.int .i64 q.kind, str q.name, str q.other, .int .i64 q.num, str q.text, .slice da q.d.length dcp] 40 :: MX m dm (s.nc + 1) s.nb (.slice (some ⟨g1, 0, none⟩) (zs.length + 1) cp1) (.slice ba ys.length bcp) ksv [] (zs ++ [⟨⟨s.nc, [], [], [], 0, 0⟩, .slice none 0 0, .slice none 0 0, .slice none 0 0⟩]) ys s.ks []) h) ?_ (fun w hw => ?_)
  rotate_left
  · unfold MX RX
    rw [List.length_append, List.flatMap_append]
    exact hw
  first | refine At.drawn mo (fun _ _ m => m.drew _) ?_ | refine At.seq (At.drawn mo (fun _ _ m => m.drew _) ?_)
  refine Dr.val 0 rfl rfl rfl rfl (by kernel_rfl) rfl (Val.move rfl) ?_
  refine Dr.val 1 rfl rfl rfl rfl (by kernel_rfl) rfl (V.fieldAddr rfl rfl) ?_
  refine Dr.valS 2 _ rfl rfl rfl rfl (by kernel_rfl) rfl (V.load rfl rfl (fun _ hh => hh)) (fun w hw => hw.cell (n := 1) rfl rfl) ?_
  refine Dr.val 3 rfl rfl rfl rfl (by kernel_rfl) rfl (Val.move rfl) ?_
  refine Dr.val 4 rfl rfl rfl rfl (by kernel_rfl) rfl (Val.nilCheck rfl) ?_
  refine Dr.val 5 rfl rfl rfl rfl (by kernel_rfl) rfl (V.fieldAddr rfl rfl) ?_
  refine Dr.val 6 rfl rfl rfl rfl (by kernel_rfl) rfl (V.fieldAddr rfl rfl) ?_
  refine Dr.valS 7 _ rfl rfl rfl rfl (by kernel_rfl) rfl (V.load rfl rfl (fun _ hh => hh)) (fun w hw => hw.cell (n := 2) rfl rfl) ?_
  refine Dr.val 8 rfl rfl rfl rfl (by kernel_rfl) rfl (Val.sub rfl rfl (by omega) (by omega)) ?_
  refine Dr.respell (t := 60) (v' := .int .i64 s.nc) rfl (congrArg (Value.int .i64) (by omega)) ?_
  refine Dr.next (e := 9) rfl rfl (by kernel_rfl) rfl (by kernel_rfl) (by kernel_rfl) rfl rfl (Eff.callAt 2 (fn (by kernel_rfl)) rfl (Ωc := MX m dm (s.nc + 1) s.nb (.slice (some ⟨g1, 0, none⟩) (zs.length + 1) cp1) (.slice ba ys.length bcp) ksv [] (zs ++ [⟨⟨s.nc, [], [], [], 0, 0⟩, .slice none 0 0, .slice none 0 0, .slice none 0 0⟩]) ys s.ks []) (Ωr := []) (by simp) (hfd _)) (by repeat (first | exact AllOk.nil | refine AllOk.triv ?_ | refine AllOk.cons (by rintro _ _ ⟨_, _, ⟨_, _, _, _, _, rfl⟩, hw⟩; first | exact hw.cell (n := 0) rfl rfl | exact hw.cell (n := 6) rfl rfl) ?_)) fun _ => Dr.ex fun _ => Dr.ex fun h2 => Dr.pure ?_
  rintro ⟨hle, rfl, bsv', lv, hlv, rfl⟩
  refine Dr.val 10 rfl rfl rfl rfl (by kernel_rfl) rfl (V.build rfl rfl rfl) ?_
  refine Dr.next0 (e := 11) rfl rfl (by kernel_rfl) rfl (by kernel_rfl) (by kernel_rfl) rfl (E.store 5 rfl rfl rfl rfl rfl rfl rfl) aokK fun _ => ?_
  refine Dr.val 12 rfl rfl rfl rfl (by kernel_rfl) rfl (Val.assign rfl) ?_
  refine Dr.done (by kernel_rfl) (by kernel_rfl) ?_
  exact At.ret2 Tryz.results77 (Res.cellA (j := 5) (cs := [.int .i64 0, .int .i64 s.nb, str [], .slice none 0 0, .slice none 0 0]) (ly rfl) rfl rfl rfl) (Res.tmp rfl) (Ω' := MS m dm (s.addE.addB q.name s.nc) (.slice (some ⟨g1, 0, none⟩) (zs.length + 1) cp1) bsv' ksv [] (zs ++ [⟨⟨s.nc, [], [], [], 0, 0⟩, .slice none 0 0, .slice none 0 0, .slice none 0 0⟩]) (ys ++ [⟨⟨s.nb, q.name, [s.nc]⟩, lv⟩]) []) (List.sublist_append_left _ _)
    ⟨hc0.symm ▸ hle, 0, _, _, _, .create hE, rfl, RpH.plain _ _ _ _, fun _ => ⟨_, bsv', ksv, [], _, _, (ok.mono hle).addE.addB hlv, rfl⟩⟩
end
end Go.Proofs.YthjgbmbaabpgmaaGreat
/-
  The machine: a branch renamed, a branch gone.
-/
namespace Go.Proofs.YthjgbmbaabpgmaaGreat
open Go.Sy
set_option maxRecDepth 4000
set_option maxHeartbeats 4000000
theorem MOk.ren {h : HV} {s : Ox.St} {zs : List CmV} {ys : List BrV} (r : MOk h s zs ys none) {i : Nat} {b b' : Ox.Br} {lv : Value} (hy : ys[i]? = some ⟨b, lv⟩) (hl : b'.log = b.log) : MOk h ⟨s.nc, s.nb, s.cs, s.bs.set i b', s.ks⟩ zs (ys.set i ⟨b', lv⟩) none :=
  ⟨r.cs, by rw [List.map_set, r.bs], r.cok, fun k y hk hn => by
    have hlt : i < ys.length := (List.getElem?_eq_some_iff.1 hy).1
    by_cases hki : i = k
    · subst hki
      rw [List.getElem?_set_self hlt] at hk; cases hk
      simp only; rw [hl]; exact r.lok i _ hy (by simp)
    · rw [List.getElem?_set_ne hki] at hk; exact r.lok k y hk hn⟩
attribute [local irreducible] At Ops Val Eff Does Res Dr

section
variable (m dm : Nat) (s : Ox.St) (csv bsv ksv : Value) (zs : List CmV) (ys : List BrV) (N : Nat) (hN : N ≤ 1000) (inv : Ox.Inv N s) (h : HV) (ok : MOk h s zs ys none) (q : Ox.Rq) (qv dv : Value) (hq : RqH h qv q dv) (hn : Ox.named s q.name)
include inv ok hq hN hn
theorem hrename_does : Does Tryz.prog 82 #[.pointer (some ⟨m, 0, none⟩), qv] (MS m dm s csv bsv ksv [] zs ys []) h (HdPost m dm s q 6 none h) := by
  obtain ⟨i, b, ha⟩ := Ox.BrAt.ex hn
  obtain ⟨lv, hyi⟩ := ys_at ok.bs ha.get
  have hlt : i < ys.length := (List.getElem?_eq_some_iff.1 hyi).1
  refine MX.reads fun _ hbr0 _ hbb => ?_
  obtain ⟨bb, hbf⟩ := hbb
  obtain ⟨bcp, rfl, _⟩ := br_cells hbr0 hbf hyi
  have hbr := mbranch_does m dm s csv _ ksv [] zs ys [] none N inv h ok bb hbf q.name i b ha
  have hbo := mbranch_is m dm s csv _ ksv [] zs ys [] none N inv h ok bb hbf q.other
  obtain ⟨la, lcp, hlf⟩ := (ok.lok i _ hyi (by simp)).form
  simp only at hlf
  subst hlf
  obtain ⟨da, dcp, e⟩ := hq.d.form
  have hqv := hq.val
  have hql := hq.other
  subst e; subst hqv
  refine Does.of Tryz.func82 rfl Tryz.ntmps82 rfl fun c hc0 => ?_
  refine goK _ ?_
  refine Ops.eff rfl rfl rfl (Eff.box rfl) fun _ => Ops.ex fun b3 => Ops.pure ?_
  rintro rfl
  refine Ops.eff rfl rfl rfl (E.alloc rfl) fun _ => Ops.ex fun b4 => Ops.pure ?_
  rintro rfl
  refine goK _ ?_
  refine Ops.eff rfl rfl rfl (Eff.callP 2 (fn (by kernel_rfl)) rfl (Ωc := MS m dm s csv (.slice (some ⟨bb, 0, none⟩) ys.length bcp) ksv [] zs ys []) (Ωr := []) (by simp) hbr) fun _ => Ops.pure ?_
  rintro rfl
  refine goK _ ?_
  refine Ops.eff rfl rfl rfl (Eff.callAt 0 (fn (by kernel_rfl)) rfl (Ωc := []) rfl (isName_does q.other hql h)) fun _ => Ops.ex fun _ => Ops.ex fun _ => Ops.pure ?_
  rintro ⟨rfl, rfl, rfl⟩
  refine Ops.val rfl rfl rfl (Val.not rfl) ?_
  refine goK _ ?_
  refine At.cond rfl (fun h1 => ?_) (fun h1 => ?_)
  · have hE : Ox.renameE s q = 190 := by rw [Ox.renameE, if_pos (by simpa using h1)]
    refine goK _ ?_
    refine Ops.eff0 rfl rfl (E.store 0 rfl rfl rfl rfl rfl rfl rfl) fun _ => ?_
    refine goK _ ?_
    exact At.ret2 Tryz.results82 (Res.cellA (j := 0) (cs := z34) (ly rfl) rfl rfl rfl) (Res.tmp rfl) (List.nil_sublist _) (HdPost.bad (hc0.symm ▸ HV.le.refl _) (by decide) (by rw [← hE]; exact .renameE (by rw [hE]; decide)))
  have hnm : Ox.isName q.other = true := by simpa using h1
  refine goK _ ?_
  refine Ops.eff rfl rfl rfl (Eff.callP 2 (fn (by kernel_rfl)) rfl (Ωc := MS m dm s csv (.slice (some ⟨bb, 0, none⟩) ys.length bcp) ksv [] zs ys []) (Ωr := []) (by simp) hbo) fun _ => Ops.pure ?_
  rintro ⟨p, rfl, hp⟩
  refine Ops.val rfl rfl rfl (Val.neqPtr Tryz.underlying96 rfl) ?_
  refine goK _ ?_
  refine At.cond rfl (fun h1 => ?_) (fun h1 => ?_)
  · have hnm2 : Ox.named s q.other := by
      by_cases hx : Ox.named s q.other
      · exact hx
      · rw [hp.2 hx] at h1; cases h1
    have hE : Ox.renameE s q = 191 := by rw [Ox.renameE, if_neg (by simp [hnm]), if_pos hnm2]
    refine goK _ ?_
    refine Ops.eff0 rfl rfl (E.store 0 rfl rfl rfl rfl rfl rfl rfl) fun _ => ?_
    refine goK _ ?_
    exact At.ret2 Tryz.results82 (Res.cellA (j := 0) (cs := z34) (ly rfl) rfl rfl rfl) (Res.tmp rfl) (List.nil_sublist _) (HdPost.bad (hc0.symm ▸ HV.le.refl _) (by decide) (by rw [← hE]; exact .renameE (by rw [hE]; decide)))
  have hnm2 : ¬ Ox.named s q.other := fun hx => by
    have : p.isNone = true := by simpa using h1
    exact hp.1 this hx
  have hE : Ox.renameE s q = 0 := by rw [Ox.renameE, if_neg (by simp [hnm]), if_neg hnm2]
  have hxl : (ys.flatMap brc).length = ys.length * 3 := flat_length brc 3 brc_length ys
  repeat (first | refine At.skip ?_ | refine At.blk ?_ | refine At.seq ?_ | refine At.exit rfl ?_)
  refine At.open_row 5 rfl (by omega) fun g acp rest hvv hl1 hl2 hNN hcp => ?_
  cases hvv
  refine goK _ ?_
  refine Ops.eff0 rfl rfl (E.store 5 rfl rfl rfl rfl rfl (by simp [hxl]; omega) rfl) fun _ => ?_
  refine Ops.nil ?_
  refine At.close_row (N := ys.length) (xs := (ys.set i ⟨{ b with name := q.other }, .slice la b.log.length lcp⟩).flatMap brc) (rest := rest) (cp := bcp) (e := 71) (size := 3) (g := bb) 5 ?_ ?_ ?_ hNN hcp ?_
  · refine congrArg (fun z => some (cells bb z 71)) ?_
    show (ys.flatMap brc ++ rest).set (0 + i * 3 + 1) (str q.other) = _
    rw [Nat.zero_add, List.set_append_left _ _ (by omega)]
    congr 1
    exact flat_set brc_length (by omega) rfl ys i hyi
  · rw [flat_length brc 3 brc_length, List.length_set]
  · rw [← hl2, List.length_append, List.length_append, flat_length brc 3 brc_length, flat_length brc 3 brc_length, List.length_set]
  refine At.row_reads 5 rfl fun hrr => ?_
  have hy' : (ys.set i ⟨{ b with name := q.other }, .slice la b.log.length lcp⟩)[i]? = some ⟨{ b with name := q.other }, .slice la b.log.length lcp⟩ := by rw [List.getElem?_set_self hlt]
  have hrr' : RowRd brc 3 [row 71 3 (.slice (some ⟨bb, 0, none⟩) ys.length bcp) ys.length ((ys.set i ⟨{ b with name := q.other }, .slice la b.log.length lcp⟩).flatMap brc)] h (.slice (some ⟨bb, 0, none⟩) (ys.set i ⟨{ b with name := q.other }, .slice la b.log.length lcp⟩).length bcp) (ys.set i ⟨{ b with name := q.other }, .slice la b.log.length lcp⟩) := by
    unfold RowRd; rw [List.length_set]; exact hrr
  obtain ⟨b1, o1, e1, _, _, hcy⟩ := RowRd.elem brc_length hrr' hy'
  cases e1
  refine goK _ ?_
  refine Ops.val rfl rfl rfl (V.load rfl rfl (fun w hw => Mem.cellR (hcy 0 (.int .i64 b.id) rfl) (by first | exact fun _ hi => hi | exact fun _ hi => List.mem_cons_of_mem _ hi | exact fun _ hi => List.mem_cons_of_mem _ (List.mem_cons_of_mem _ hi) | simp +contextual | grind) hw)) ?_
  refine goK _ ?_
  refine Ops.eff0 rfl rfl (E.store 0 rfl rfl rfl rfl rfl rfl rfl) fun _ => ?_
  refine goK _ ?_
  exact At.ret2 Tryz.results82 (Res.cellA (j := 0) (cs := [.int .i64 0, .int .i64 b.id, str [], .slice none 0 0, .slice none 0 0]) (ly rfl) rfl rfl rfl) (Res.tmp rfl) (Ω' := MS m dm ⟨s.nc, s.nb, s.cs, s.bs.set i { b with name := q.other }, s.ks⟩ csv (.slice (some ⟨bb, 0, none⟩) ys.length bcp) ksv [] zs (ys.set i ⟨{ b with name := q.other }, .slice la b.log.length lcp⟩) [])
    (by unfold MS MX RX; rw [List.length_set]; exact (List.sublist_cons_self _ _).trans (List.sublist_cons_self _ _))
    ⟨hc0.symm ▸ HV.le.refl _, 0, _, _, _, .rename i b hE ha, rfl, RpH.plain _ _ _ _, fun _ => ⟨csv, _, ksv, [], zs, _, hc0.symm ▸ ok.ren (b' := { b with name := q.other }) hyi rfl, rfl⟩⟩
end
end Go.Proofs.YthjgbmbaabpgmaaGreat
