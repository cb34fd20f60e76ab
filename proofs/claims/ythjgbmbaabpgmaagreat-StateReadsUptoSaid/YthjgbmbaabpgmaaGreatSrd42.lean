/-
  The machine: requests that read.
-/
import Derived.Test.YthjgbmbaabpgmaaGreatSrd05
import Derived.Test.YthjgbmbaabpgmaaGreatSrd38
import Derived.Test.YthjgbmbaabpgmaaGreatSrd39
set_option linter.unusedVariables false
set_option linter.unusedSimpArgs false
set_option linter.unusedSectionVars false
namespace Go.Proofs.YthjgbmbaabpgmaaGreat
open Go.Sy
set_option maxRecDepth 4000
set_option maxHeartbeats 4000000
attribute [local irreducible] At Ops Val Eff Does Res Dr

section
variable (m dm : Nat) (s : Ox.St) (csv bsv ksv : Value) (zs : List CmV) (ys : List BrV) (N : Nat) (inv : Ox.Inv N s) (h : HV) (ok : MOk h s zs ys none) (q : Ox.Rq) (qv dv : Value) (hq : RqH h qv q dv) (hn : Ox.named s q.name)
include inv ok hq hn
theorem htip_does : Does Tryz.prog 87 #[.pointer (some ⟨m, 0, none⟩), qv] (MS m dm s csv bsv ksv [] zs ys []) h (HdPost m dm s q 11 none h) := by
  obtain ⟨i, b, ha⟩ := Ox.BrAt.ex hn
  refine MX.reads fun _ _ _ hbb => ?_
  obtain ⟨bb, hbf⟩ := hbb
  have hbr := mbranch_does m dm s csv bsv ksv [] zs ys [] none N inv h ok bb hbf q.name i b ha
  have htp := mtip_does s csv bsv ksv zs ys [] none N inv h ok bb hbf i b ha.get (by simp)
  obtain ⟨da, dcp, e⟩ := hq.d.form
  have hqv := hq.val
  subst e; subst hqv
  refine Does.of Tryz.func87 rfl Tryz.ntmps87 rfl fun c hc0 => ?_
  refine goK _ ?_
  refine Ops.eff rfl rfl rfl (Eff.box rfl) fun _ => Ops.ex fun b3 => Ops.pure ?_
  rintro rfl
  refine Ops.eff rfl rfl rfl (E.alloc rfl) fun _ => Ops.ex fun b4 => Ops.pure ?_
  rintro rfl
  refine goK _ ?_
  refine Ops.eff rfl rfl rfl (Eff.callP 2 (fn (by kernel_rfl)) rfl (Ωc := MS m dm s csv bsv ksv [] zs ys []) (Ωr := []) (by simp) hbr) fun _ => Ops.pure ?_
  rintro rfl
  refine Ops.eff rfl rfl rfl (Eff.callP 4 (fn (by kernel_rfl)) rfl (Ωc := RX csv bsv ksv zs ys s.ks []) (Ωr := []) (by simp) htp) fun _ => Ops.pure ?_
  rintro rfl
  refine goK _ ?_
  refine Ops.eff0 rfl rfl (E.store 0 rfl rfl rfl rfl rfl rfl rfl) fun _ => ?_
  refine goK _ ?_
  exact At.ret2 Tryz.results87 (Res.cellA (j := 0) (cs := [.int .i64 0, .int .i64 (Ox.lastZ b.log), str [], .slice none 0 0, .slice none 0 0]) (ly rfl) rfl rfl rfl) (Res.tmp rfl) (Ω' := MS m dm s csv bsv ksv [] zs ys []) ((List.sublist_cons_self _ _).trans (List.sublist_cons_self _ _))
    ⟨hc0.symm ▸ HV.le.refl _, 0, s, _, _, .tip i b ha, rfl, RpH.plain _ _ _ _, fun _ => ⟨csv, bsv, ksv, [], zs, ys, hc0.symm ▸ ok, rfl⟩⟩
theorem hread_does : Does Tryz.prog 84 #[.pointer (some ⟨m, 0, none⟩), qv] (MS m dm s csv bsv ksv [] zs ys []) h (HdPost m dm s q 8 none h) := by
  obtain ⟨i, b, ha⟩ := Ox.BrAt.ex hn
  refine MX.reads fun _ _ _ hbb => ?_
  obtain ⟨bb, hbf⟩ := hbb
  have hbr := mbranch_does m dm s csv bsv ksv [] zs ys [] none N inv h ok bb hbf q.name i b ha
  have htp := mtip_does s csv bsv ksv zs ys [] none N inv h ok bb hbf i b ha.get (by simp)
  have hdc := mdoc_does m dm s csv bsv ksv [] zs ys [] none N inv h ok (Ox.lastZ b.log) (inv.tip (BrAt.mem ha)) (DocMap.nil _ _)
  have hds := (inv.cs.doc (Ox.lastZ b.log)).short
  obtain ⟨da, dcp, e⟩ := hq.d.form
  have hqv := hq.val
  subst e; subst hqv
  refine Does.of Tryz.func84 rfl Tryz.ntmps84 rfl fun c hc0 => ?_
  refine goK _ ?_
  refine Ops.eff rfl rfl rfl (Eff.box rfl) fun _ => Ops.ex fun b3 => Ops.pure ?_
  rintro rfl
  refine Ops.eff rfl rfl rfl (E.alloc rfl) fun _ => Ops.ex fun b4 => Ops.pure ?_
  rintro rfl
  refine goK _ ?_
  refine Ops.eff rfl rfl rfl (Eff.callP 2 (fn (by kernel_rfl)) rfl (Ωc := MS m dm s csv bsv ksv [] zs ys []) (Ωr := []) (by simp) hbr) fun _ => Ops.pure ?_
  rintro rfl
  refine Ops.eff rfl rfl rfl (Eff.callP 4 (fn (by kernel_rfl)) rfl (Ωc := RX csv bsv ksv zs ys s.ks []) (Ωr := []) (by simp) htp) fun _ => Ops.pure ?_
  rintro rfl
  refine goK _ ?_
  refine Ops.eff rfl rfl rfl (Eff.callAt 2 (fn (by kernel_rfl)) rfl (Ωc := MS m dm s csv bsv ksv [] zs ys []) rfl (hdc)) fun _ => Ops.ex fun _ => Ops.ex fun _ => Ops.pure ?_
  rintro ⟨hle, M', rfl, hr, hD'⟩
  rename_i r1 h1
  refine Ops.eff rfl rfl rfl (Eff.callAt 0 (fn (by kernel_rfl)) rfl (Ωc := []) rfl (DocText_does r1 (s.doc (Ox.lastZ b.log)) (by have := hds.2.2; exact Nat.le_trans this (by omega)) (by have := hds.2.1; exact Nat.le_trans this (by omega)) h1 hr)) fun _ => Ops.ex fun _ => Ops.ex fun _ => Ops.pure ?_
  rintro ⟨rfl, rfl, rfl⟩
  refine goK _ ?_
  refine Ops.eff0 rfl rfl (E.store 5 rfl rfl rfl rfl rfl rfl rfl) fun _ => ?_
  refine goK _ ?_
  exact At.ret2 Tryz.results84 (Res.cellA (j := 5) (cs := [.int .i64 0, .int .i64 (Ox.lastZ b.log), str (Ox.text (s.doc (Ox.lastZ b.log))), .slice none 0 0, .slice none 0 0]) (ly rfl) rfl rfl rfl) (Res.tmp rfl) (Ω' := MS m dm s csv bsv ksv M' zs ys []) (List.sublist_append_left _ _)
    ⟨hc0.symm ▸ hle, 0, s, _, _, .read i b ha, rfl, RpH.plain _ _ _ _, fun _ => ⟨csv, bsv, ksv, M', zs, ys, ok.mono hle, rfl⟩⟩
theorem hblame_does : Does Tryz.prog 85 #[.pointer (some ⟨m, 0, none⟩), qv] (MS m dm s csv bsv ksv [] zs ys []) h (HdPost m dm s q 9 none h) := by
  obtain ⟨i, b, ha⟩ := Ox.BrAt.ex hn
  refine MX.reads fun _ _ _ hbb => ?_
  obtain ⟨bb, hbf⟩ := hbb
  have hbr := mbranch_does m dm s csv bsv ksv [] zs ys [] none N inv h ok bb hbf q.name i b ha
  have htp := mtip_does s csv bsv ksv zs ys [] none N inv h ok bb hbf i b ha.get (by simp)
  have hdc := mdoc_does m dm s csv bsv ksv [] zs ys [] none N inv h ok (Ox.lastZ b.log) (inv.tip (BrAt.mem ha)) (DocMap.nil _ _)
  have hds := (inv.cs.doc (Ox.lastZ b.log)).short
  obtain ⟨da, dcp, e⟩ := hq.d.form
  have hqv := hq.val
  subst e; subst hqv
  refine Does.of Tryz.func85 rfl Tryz.ntmps85 rfl fun c hc0 => ?_
  refine goK _ ?_
  refine Ops.eff rfl rfl rfl (Eff.box rfl) fun _ => Ops.ex fun b3 => Ops.pure ?_
  rintro rfl
  refine Ops.eff rfl rfl rfl (E.alloc rfl) fun _ => Ops.ex fun b4 => Ops.pure ?_
  rintro rfl
  refine goK _ ?_
  refine Ops.eff rfl rfl rfl (Eff.callP 2 (fn (by kernel_rfl)) rfl (Ωc := MS m dm s csv bsv ksv [] zs ys []) (Ωr := []) (by simp) hbr) fun _ => Ops.pure ?_
  rintro rfl
  refine Ops.eff rfl rfl rfl (Eff.callP 4 (fn (by kernel_rfl)) rfl (Ωc := RX csv bsv ksv zs ys s.ks []) (Ωr := []) (by simp) htp) fun _ => Ops.pure ?_
  rintro rfl
  refine goK _ ?_
  refine Ops.eff rfl rfl rfl (Eff.callAt 2 (fn (by kernel_rfl)) rfl (Ωc := MS m dm s csv bsv ksv [] zs ys []) rfl (hdc)) fun _ => Ops.ex fun _ => Ops.ex fun _ => Ops.pure ?_
  rintro ⟨hle, M', rfl, hr, hD'⟩
  rename_i r1 h1
  obtain ⟨ra, rcp, rfl⟩ := hr.form
  refine Ops.eff rfl rfl rfl (Eff.call (fn (by kernel_rfl)) rfl (Ωc := []) rfl (Does.rowForm (CloneAt_does _ _ _ (flat_one (fun _ => rfl) _) (by have := hds.2.1; exact Nat.le_trans this (by omega)) h1 hr))) fun _ => Ops.ex fun _ => Ops.ex fun _ => Ops.pure ?_
  rintro ⟨⟨xa, xcp, rfl⟩, rfl, rfl⟩
  refine goK _ ?_
  refine Ops.eff0 rfl rfl (E.store 6 rfl rfl rfl rfl rfl rfl rfl) fun _ => ?_
  refine Ops.val rfl rfl rfl (Val.assign rfl) ?_
  refine Ops.nil ?_
  refine At.publish_row 0 rfl fun h2 hle2 hsl => ?_
  exact At.ret2 Tryz.results85 (Res.cellA (j := 5) (cs := [.int .i64 0, .int .i64 (Ox.lastZ b.log), str [], .slice xa (s.doc (Ox.lastZ b.log)).length xcp, .slice none 0 0]) (ly rfl) rfl rfl rfl) (Res.tmp rfl) (Ω' := MS m dm s csv bsv ksv M' zs ys []) (List.sublist_append_left _ _)
    ⟨hc0.symm ▸ hle.trans hle2, 0, s, _, _, .blame i b ha, rfl, ⟨_, _, rfl, hsl, SlH.nil _ _⟩, fun _ => ⟨csv, bsv, ksv, M', zs, ys, ok.mono (hle.trans hle2), rfl⟩⟩
theorem hlog_does : Does Tryz.prog 86 #[.pointer (some ⟨m, 0, none⟩), qv] (MS m dm s csv bsv ksv [] zs ys []) h (HdPost m dm s q 10 none h) := by
  obtain ⟨i, b, ha⟩ := Ox.BrAt.ex hn
  refine MX.reads fun _ _ _ hbb => ?_
  obtain ⟨bb, hbf⟩ := hbb
  have hbr := mbranch_does m dm s csv bsv ksv [] zs ys [] none N inv h ok bb hbf q.name i b ha
  have htp := mtip_does s csv bsv ksv zs ys [] none N inv h ok bb hbf i b ha.get (by simp)
  have hlk := mlinks_does m dm s csv bsv ksv [] zs ys [] none N inv h ok
  have hdag := inv.cs.dag
  have htp0 : Ox.lastZ b.log ∈ (Ox.linksC s.cs).map Ox.Lnk.num := by rw [Ox.linksC_num]; exact inv.tip (BrAt.mem ha)
  have hth : Ox.thereE (Ox.linksC s.cs) [Ox.lastZ b.log] = 0 := by
    rw [Ox.thereE, if_pos hdag, if_pos]
    intro k hk
    simp only [List.mem_singleton] at hk
    subst hk; exact htp0
  obtain ⟨da, dcp, e⟩ := hq.d.form
  have hqv := hq.val
  subst e; subst hqv
  refine Does.of Tryz.func86 rfl Tryz.ntmps86 rfl fun c hc0 => ?_
  refine goK _ ?_
  refine Ops.eff rfl rfl rfl (Eff.box rfl) fun _ => Ops.ex fun b3 => Ops.pure ?_
  rintro rfl
  refine Ops.eff rfl rfl rfl (E.alloc rfl) fun _ => Ops.ex fun b4 => Ops.pure ?_
  rintro rfl
  refine goK _ ?_
  refine Ops.eff rfl rfl rfl (Eff.callP 2 (fn (by kernel_rfl)) rfl (Ωc := MS m dm s csv bsv ksv [] zs ys []) (Ωr := []) (by simp) hbr) fun _ => Ops.pure ?_
  rintro rfl
  refine Ops.eff rfl rfl rfl (Eff.callP 4 (fn (by kernel_rfl)) rfl (Ωc := RX csv bsv ksv zs ys s.ks []) (Ωr := []) (by simp) htp) fun _ => Ops.pure ?_
  rintro rfl
  refine goK _ ?_
  refine Ops.eff rfl rfl rfl (Eff.callAt 2 (fn (by kernel_rfl)) rfl (Ωc := MS m dm s csv bsv ksv [] zs ys []) rfl (hlk)) fun _ => Ops.ex fun _ => Ops.ex fun _ => Ops.pure ?_
  rintro ⟨rfl, rfl⟩
  rename_i lu
  refine opsPublish 0 rfl fun h2 hle2 hsl => ?_
  have hL : LinksH h2 lu (Ox.linksC s.cs) := by
    have h9 := LinksOf (h := h2) hsl (fun z hz => (ok.cok z hz).mono hle2)
    rw [links_map, ok.cs] at h9; exact h9
  refine Ops.val rfl rfl rfl (Val.move rfl) ?_
  refine Ops.eff rfl rfl rfl (Eff.call (fn (by kernel_rfl)) rfl (Ωc := []) rfl (Above_does lu (Ox.linksC s.cs) (Ox.lastZ b.log) h2 hL (by have := hdag.1; omega) (fun x hx => by have := (hdag.each x hx).2.1; omega))) fun _ => Ops.ex fun _ => Ops.ex fun h3 => Ops.pure ?_
  rintro (⟨hx, _⟩ | ⟨_, u, sx, rfl, rfl, rfl, hA⟩)
  · exact absurd hth hx
  refine Ops.val rfl rfl rfl (Val.move rfl) ?_
  refine Ops.val rfl rfl rfl (Val.extract rfl rfl) ?_
  refine Ops.val rfl rfl rfl (Val.extract rfl rfl) ?_
  refine Ops.val rfl rfl rfl (Val.assign rfl) ?_
  refine Ops.val rfl rfl rfl (Val.assign rfl) ?_
  refine Ops.nil ?_
  refine At.publish_row 0 rfl fun h4 hle4 hs4 => ?_
  obtain ⟨ua, ucp, rfl⟩ := SlH.form hs4
  refine goK _ ?_
  refine Ops.eff0 rfl rfl (E.store 5 rfl rfl rfl rfl rfl rfl rfl) fun _ => ?_
  refine Ops.val rfl rfl rfl (Val.assign rfl) ?_
  refine Ops.nil ?_
  have hsx : sx = Ox.ancs s.lnk (Ox.lastZ b.log) := hA.eq.symm
  exact At.ret2 Tryz.results86 (Res.cellA (j := 5) (cs := [.int .i64 0, .int .i64 (Ox.lastZ b.log), str [], .slice none 0 0, .slice ua sx.length ucp]) (ly rfl) rfl rfl rfl) (Res.tmp rfl) (Ω' := MS m dm s csv bsv ksv [] zs ys []) (List.sublist_append_left _ _)
    ⟨hc0.symm ▸ hle2.trans hle4, 0, s, _, _, .log i b ha, rfl, ⟨_, _, rfl, SlH.nil _ _, hsx ▸ hs4⟩, fun _ => ⟨csv, bsv, ksv, [], zs, ys, ok.mono (hle2.trans hle4), rfl⟩⟩
end
end Go.Proofs.YthjgbmbaabpgmaaGreat
/-
  Those of which it holds taken out; the machine: a branch gone.
-/
namespace Go.Proofs.YthjgbmbaabpgmaaGreat
open Go.Sy
set_option maxRecDepth 4000
set_option maxHeartbeats 4000000
def keepB (n : Int) (y : BrV) : Bool := decide (y.b.id ≠ n)
/-- where the taking out stands -/
structure DlI (n : Int) (ys us : List BrV) (i j : Nat) : Prop where
  lt : i < j
  le : j ≤ ys.length
  len : us.length = ys.length
  low : us.take i = (ys.take j).filter (keepB n)
  high : us.drop j = ys.drop j
theorem DlI.start {n : Int} {ys : List BrV} {i : Nat} {y : BrV} (hy : ys[i]? = some y) (hn : y.b.id = n) (hb : ∀ x ∈ ys.take i, decide (x.b.id = n) = false) : DlI n ys ys i (i + 1) := by
  have hlt : i < ys.length := (List.getElem?_eq_some_iff.1 hy).1
  refine ⟨by omega, by omega, rfl, ?_, rfl⟩
  rw [List.take_succ_eq_append_getElem hlt, List.filter_append]
  have h1 : ys[i] = y := (List.getElem?_eq_some_iff.1 hy).2
  have h2 : (ys.take i).filter (keepB n) = ys.take i := List.filter_eq_self.2 fun x hx => by have := hb x hx; simpa [keepB] using this
  rw [h1, h2]
  simp [keepB, hn]
theorem DlI.at_ {n : Int} {ys us : List BrV} {i j : Nat} (h : DlI n ys us i j) (hj : j < ys.length) : us[j]? = ys[j]? := by
  have := congrArg (·[0]?) h.high
  simpa using this
theorem DlI.put {n : Int} {ys us : List BrV} {i j : Nat} (h : DlI n ys us i j) {y : BrV} (hy : us[j]? = some y) (hn : y.b.id ≠ n) : DlI n ys (us.set i y) (i + 1) (j + 1) := by
  have hju : j < us.length := (List.getElem?_eq_some_iff.1 hy).1
  have hj : j < ys.length := by have := h.len; omega
  have hyy : ys[j]? = some y := by rw [← h.at_ hj]; exact hy
  have h1 := h.lt
  refine ⟨by omega, by omega, by rw [List.length_set]; exact h.len, ?_, ?_⟩
  · rw [List.take_succ_eq_append_getElem hj, List.filter_append, ← h.low]
    have h2 : ys[j] = y := (List.getElem?_eq_some_iff.1 hyy).2
    rw [h2, List.take_succ_eq_append_getElem (by rw [List.length_set]; omega), List.take_set_of_le (by omega)]
    simp [keepB, hn]
  · rw [List.drop_set, if_pos (by omega)]
    have := congrArg (·.drop 1) h.high
    simpa [List.drop_drop] using this
theorem DlI.skip {n : Int} {ys us : List BrV} {i j : Nat} (h : DlI n ys us i j) {y : BrV} (hy : us[j]? = some y) (hn : y.b.id = n) : DlI n ys us i (j + 1) := by
  have hju : j < us.length := (List.getElem?_eq_some_iff.1 hy).1
  have hj : j < ys.length := by have := h.len; omega
  have hyy : ys[j]? = some y := by rw [← h.at_ hj]; exact hy
  have h1 := h.lt
  refine ⟨by omega, by omega, h.len, ?_, ?_⟩
  · rw [List.take_succ_eq_append_getElem hj, List.filter_append, ← h.low]
    have h2 : ys[j] = y := (List.getElem?_eq_some_iff.1 hyy).2
    rw [h2]; simp [keepB, hn]
  · have := congrArg (·.drop 1) h.high
    simpa [List.drop_drop] using this
theorem MOk.del {h : HV} {s : Ox.St} {zs : List CmV} {ys : List BrV} (r : MOk h s zs ys none) (n : Int) : MOk h ⟨s.nc, s.nb, s.cs, s.bs.filter fun x => decide (x.id ≠ n), s.ks⟩ zs (ys.filter (keepB n)) none :=
  ⟨r.cs, by rw [← r.bs, List.filter_map]; rfl, r.cok, fun k y hk hn => by
    have hm : y ∈ ys := (List.mem_filter.1 (List.mem_of_getElem? hk)).1
    obtain ⟨j, hj⟩ := List.getElem?_of_mem hm
    exact r.lok j y hj (by simp)⟩
/-- what is handed over, in another order -/
theorem Does.permP {P : Program} {f : FuncId} {args : Array Value} {Ω Ω1 : List Itm} {h : HV} {q : Value → Prop} (p : Ω.Perm Ω1) (hs : Does P f args Ω1 h (fun r Ω' h' => q r ∧ Ω' = Ω1 ∧ h = h')) : Does P f args Ω h (fun r Ω' h' => q r ∧ Ω' = Ω ∧ h = h') := fun w0 hm => by
  have e : ctx w0 Ω h = ctx w0 Ω1 h := by
    unfold ctx
    congr 1
    funext b
    exact propext ⟨fun ⟨i, hi, hb⟩ => ⟨i, p.mem_iff.1 hi, hb⟩, fun ⟨i, hi, hb⟩ => ⟨i, p.mem_iff.2 hi, hb⟩⟩
  rw [e] at hm ⊢
  refine (hs w0 (hm.perm p)).mono ?_
  rintro e' w' ⟨r, rfl, Ω', h', ⟨h1, rfl, rfl⟩, hm'⟩
  exact ⟨r, rfl, Ω, h, ⟨h1, rfl, rfl⟩, hm'.perm p.symm⟩
attribute [local irreducible] At Ops Val Eff Does Res Dr

theorem DeleteBr_does (bk : Nat) (n : Int) (v : Value) (ys : List BrV) (hl : ys.length ≤ 1000000) (hlf : ∀ y ∈ ys, (brc y).all (·.oneCell') = true) (h : HV) :
    Does Tryz.prog 135 #[v, .func (.func 136) #[] #[.pointer (some ⟨bk, 0, none⟩)]] [row 71 3 v ys.length (ys.flatMap brc), cells bk [.int .i64 n] 3] h
      (fun r Ω' h' => (∃ a cp, r = .slice a (ys.filter (keepB n)).length cp) ∧ Ω' = [row 71 3 r (ys.filter (keepB n)).length ((ys.filter (keepB n)).flatMap brc), cells bk [.int .i64 n] 3] ∧ h = h') := by
  refine Does.row_reads 0 rfl fun hrd0 => ?_
  have hrd : RowRd brc 3 [row 71 3 v ys.length (ys.flatMap brc), cells bk [.int .i64 n] 3] h v ys := Reads.mono hrd0 (HV.le.refl h) (by simp)
  have hix := IndexBr_does 136 #[.pointer (some ⟨bk, 0, none⟩)] [row 71 3 v ys.length (ys.flatMap brc), cells bk [.int .i64 n] 3] (fun y => decide (y.b.id = n)) h v ys (by kernel_rfl) (fun y _ => ?_) (by omega) hrd
  rotate_left
  · exact Does.permP (List.Perm.swap _ _ _) (isBr_does y bk n [row 71 3 v ys.length (ys.flatMap brc)] h)
  obtain ⟨a, cp, rfl⟩ := hrd.form
  refine Does.of Tryz.func135 rfl Tryz.ntmps135 rfl fun c hc0 => ?_
  refine goK _ ?_
  refine Ops.eff rfl rfl rfl (Eff.callP 0 (fn (by kernel_rfl)) rfl (Ωc := [row 71 3 (.slice a ys.length cp) ys.length (ys.flatMap brc), cells bk [.int .i64 n] 3]) (Ωr := []) (by simp) hix) fun _ => Ops.pure ?_
  rintro rfl
  by_cases hall : ∀ y ∈ ys, decide (y.b.id = n) = false
  · rw [ixOf_none hall]
    have hfl : ys.filter (keepB n) = ys := List.filter_eq_self.2 fun x hx => by have := hall x hx; simpa [keepB] using this
    refine goK _ ?_
    refine At.ret1 Tryz.results135 (Res.tmp rfl) (Ω' := [row 71 3 (.slice a ys.length cp) ys.length (ys.flatMap brc), cells bk [.int .i64 n] 3]) (List.Sublist.refl _) ⟨by rw [hfl]; exact ⟨a, cp, rfl⟩, by rw [hfl], hc0.symm ▸ rfl⟩
  obtain ⟨i0, y0, hy0, hn0, hb0⟩ : ∃ i y, ys[i]? = some y ∧ y.b.id = n ∧ ∀ x ∈ ys.take i, decide (x.b.id = n) = false := by
    cases hfi : ys.findIdx? (fun y => decide (y.b.id = n)) with
    | none => exact absurd (List.findIdx?_eq_none_iff.1 hfi) hall
    | some i =>
      obtain ⟨h1, h2, h3⟩ := List.findIdx?_eq_some_iff_getElem.1 hfi
      refine ⟨i, ys[i], by simp [h1], by simpa using h2, fun x hx => ?_⟩
      obtain ⟨j, hj, rfl⟩ := List.mem_take_iff_getElem.1 hx
      have := h3 j (by omega)
      simpa using this
  have hI0 := DlI.start hy0 hn0 hb0
  rw [ixOf_at hy0 (by simp [hn0]) hb0]
  refine Ops.val rfl rfl rfl (Val.assign rfl) ?_
  refine Ops.nil ?_
  have hil := hI0.le
  refine goK _ ?_
  refine At.respell (t := 6) (v' := .int .i64 ((i0 + 1 : Nat) : Int)) rfl (congrArg (Value.int .i64) (by omega)) ?_
  refine At.loop3 (fun (i j : Nat) (_ : List BrV) => [(0, .slice a ys.length cp), (1, .func (.func 136) #[] #[.pointer (some ⟨bk, 0, none⟩)]), (5, .int .i64 (i : Int)), (6, .int .i64 (j : Int))])
    (fun (i j : Nat) (us : List BrV) w => DlI n ys us i j ∧ Mem c [row 71 3 (.slice a ys.length cp) ys.length (us.flatMap brc), cells bk [.int .i64 n] 3] h w) (fun (_ j : Nat) (_ : List BrV) => ys.length - j)
    i0 (i0 + 1) ys ⟨rfl, rfl, rfl, rfl, trivial⟩ (fun w hw => ⟨hI0, hw⟩) (fun i j us => At.pure (fun hI => ?_))
  have hul := hI.len; have hij := hI.lt; have hjl := hI.le
  refine goK _ ?_
  refine At.condP rfl (fun h2 => ?_) (fun h2 => ?_)
  rotate_left
  · obtain rfl : j = ys.length := by omega
    have hlow := hI.low
    rw [List.take_length] at hlow
    have hxl : (us.flatMap brc).length = us.length * 3 := flat_length brc 3 brc_length us
    have htl : (us.take i).length = i := by rw [List.length_take]; omega
    repeat (first | refine At.skip ?_ | refine At.blk ?_ | refine At.seq ?_ | refine At.exit rfl ?_)
    refine At.open_row 0 rfl (by omega) fun g acp rest hvv hl1 hl2 hNN hcp => ?_
    cases hvv
    have hoff : off cp i ⟨g, 0, none⟩ 3 = ⟨g, i * 3, none⟩ := by rw [off_none, if_neg (by omega), Nat.zero_add]
    refine At.region ?_
    refine Ops.val rfl rfl rfl (Val.move rfl) ?_
    refine Ops.val rfl rfl rfl (Val.move rfl) ?_
    refine Ops.val rfl rfl rfl (V.slice_from (l := i) rfl rfl rfl rfl (by omega)) ?_
    refine Ops.respell (t := 38) (v' := .slice (some ⟨g, i * 3, none⟩) (ys.length - i) (cp - i)) rfl (by rw [hoff]) ?_
    refine Ops.eff0 rfl rfl (Eff.clearS (z := [.int .i64 0, str [], .slice none 0 0]) 0 (ap rfl) rfl rfl rfl rfl (.inr ?_)) fun _ => Ops.ex fun zs => Ops.pure fun _ => Ops.pure fun hzl => ?_
    · rw [List.length_append, hxl, hul]; omega
    refine Ops.nil ?_
    refine At.close_row (N := i) (xs := (us.take i).flatMap brc) (rest := zs ++ rest) (cp := cp) (e := 71) (size := 3) (g := g) 0 ?_ ?_ ?_ (by omega) hcp ?_
    · refine congrArg (fun z => some (cells g z 71)) ?_
      show sets (us.flatMap brc ++ rest) (i * 3) zs = _
      have h3 : i * 3 + zs.length = ys.length * 3 := by rw [hzl]; omega
      rw [sets_left (by rw [h3, hxl, hul]; exact Nat.le_refl _), sets_eq _ _ _ (by rw [h3, hxl, hul]; exact Nat.le_refl _), h3, flat_take brc_length, List.drop_eq_nil_of_le (by rw [hxl, hul]; exact Nat.le_refl _)]
      simp
    · rw [flat_length brc 3 brc_length, htl]
    · rw [← hl2]
      simp only [List.length_append, hxl, hzl, flat_length brc 3 brc_length, htl, hul]; omega
    refine At.seq ?_
    refine At.region ?_
    refine Ops.val rfl rfl rfl (Val.move rfl) ?_
    refine Ops.val rfl rfl rfl (Val.move rfl) ?_
    refine Ops.val rfl rfl rfl (V.slice_to (r := i) rfl rfl rfl rfl (by omega)) ?_
    refine goK _ ?_
    have hll : (ys.filter (keepB n)).length = i := by rw [← hlow, htl]
    refine At.ret1 Tryz.results135 (Res.tmp rfl) (Ω' := [row 71 3 (.slice (some ⟨g, 0, none⟩) i cp) i ((us.take i).flatMap brc), cells bk [.int .i64 n] 3]) (List.Sublist.refl _) ⟨by rw [hll]; exact ⟨_, _, rfl⟩, by rw [hll, hlow], hc0.symm ▸ rfl⟩
  have hlt : j < us.length := by omega
  have hltz : j < ys.length := by omega
  have huj : us[j]? = some us[j] := by simp [hlt]
  have hyj : us[j] ∈ ys := List.mem_of_getElem? (by rw [← hI.at_ (by omega)]; exact huj)
  have hy1 := hlf us[j] hyj
  generalize us[j] = y at *
  refine At.row_reads 0 rfl fun hrr => ?_
  have hrr' : RowRd brc 3 [row 71 3 (.slice a ys.length cp) ys.length (us.flatMap brc)] h (.slice a us.length cp) us := by
    unfold RowRd; rw [hul]; exact hrr
  obtain ⟨g, o, rfl, _, _, hcy⟩ := RowRd.elem brc_length hrr' huj
  refine goK _ ?_
  refine Ops.val rfl rfl rfl (V.loadN (cs := brc y) rfl rfl rfl (fun w hw j u hu => Mem.cellR (hcy j u hu) (by first | exact fun _ hi => hi | exact fun _ hi => List.mem_cons_of_mem _ hi | exact fun _ hi => List.mem_cons_of_mem _ (List.mem_cons_of_mem _ hi) | simp +contextual | grind) hw)) ?_
  refine Ops.eff rfl rfl rfl (E.alloc rfl) fun _ => Ops.ex fun b7 => Ops.pure ?_
  rintro rfl
  refine Ops.eff0 rfl rfl (E.store 0 rfl rfl rfl rfl rfl rfl hy1) fun _ => ?_
  refine Ops.nil ?_
  refine At.imp (S' := Mem c [cells b7 (brc y) 71, row 71 3 (.slice (some ⟨g, o, none⟩) ys.length cp) ys.length (us.flatMap brc), cells bk [.int .i64 n] 3] h) ?_ (fun w hw => hw)
  refine goK _ ?_
  refine Ops.eff rfl rfl rfl (Eff.callvP 0 (by kernel_rfl) rfl rfl (Ωc := [cells b7 (brc y) 71, row 71 3 (.slice (some ⟨g, o, none⟩) ys.length cp) ys.length (us.flatMap brc), cells bk [.int .i64 n] 3]) (Ωr := []) (by simp) (Does.permP (List.reverse_perm _).symm (isBr_does y bk n _ h))) fun _ => Ops.pure ?_
  rintro rfl
  refine goK _ ?_
  refine At.cond rfl (fun h3 => ?_) (fun h3 => ?_)
  · have hne : y.b.id ≠ n := by simpa using h3
    have hxl : (us.flatMap brc).length = us.length * 3 := flat_length brc 3 brc_length us
    repeat (first | refine At.skip ?_ | refine At.blk ?_ | refine At.seq ?_ | refine At.exit rfl ?_)
    refine At.open_row 1 rfl (by omega) fun g acp rest hvv hl1 hl2 hNN hcp => ?_
    cases hvv
    refine At.region ?_
    refine Ops.val rfl rfl rfl (Val.move rfl) ?_
    refine Ops.val rfl rfl rfl (Val.move rfl) ?_
    refine Ops.val rfl rfl rfl (V.loadOA 0 rfl rfl rfl rfl) ?_
    refine Ops.val rfl rfl rfl (V.indexAddr rfl rfl rfl rfl (by omega)) ?_
    refine Ops.eff0 rfl rfl (E.store 1 rfl rfl rfl rfl rfl (by simp [hxl]; omega) hy1) fun _ => ?_
    refine Ops.nil ?_
    refine At.close_row (N := ys.length) (xs := (us.set i y).flatMap brc) (rest := rest) (cp := cp) (e := 71) (size := 3) (g := g) 1 ?_ ?_ ?_ hNN hcp ?_
    · refine congrArg (fun z => some (cells g z 71)) ?_
      show sets (us.flatMap brc ++ rest) (0 + i * 3) (brc y) = _
      rw [Nat.zero_add, sets_left (by rw [brc_length, hxl]; omega), flat_sets brc_length (by omega)]
    · rw [flat_length brc 3 brc_length, List.length_set, hul]
    · rw [← hl2, List.length_append, List.length_append, flat_length brc 3 brc_length, flat_length brc 3 brc_length, List.length_set]
    refine goK _ ?_
    refine At.back3 (i + 1) (j + 1) (us.set i y) (by show ys.length - (j + 1) < ys.length - j; omega) (by exact ⟨rfl, rfl, rfl, rfl, trivial⟩) (fun w hw => ⟨hI.put huj hne, ?_⟩)
    exact hw.sub (List.sublist_cons_self _ _)
  · have hne : y.b.id = n := by simpa using h3
    refine goK _ ?_
    refine At.back3 i (j + 1) us (by show ys.length - (j + 1) < ys.length - j; omega) (by exact ⟨rfl, rfl, rfl, rfl, trivial⟩) (fun w hw => ⟨hI.skip huj hne, ?_⟩)
    exact hw.sub (List.sublist_cons_self _ _)

section
variable (m dm : Nat) (s : Ox.St) (csv bsv ksv : Value) (zs : List CmV) (ys : List BrV) (N : Nat) (inv : Ox.Inv N s) (h : HV) (ok : MOk h s zs ys none) (q : Ox.Rq) (qv dv : Value) (hq : RqH h qv q dv) (hn : Ox.named s q.name)
include inv ok hq hn
theorem hremove_does : Does Tryz.prog 83 #[.pointer (some ⟨m, 0, none⟩), qv] (MS m dm s csv bsv ksv [] zs ys []) h (HdPost m dm s q 7 none h) := by
  obtain ⟨i, b, ha⟩ := Ox.BrAt.ex hn
  obtain ⟨lv, hyi⟩ := ys_at ok.bs ha.get
  refine MX.reads fun _ hbr0 _ hbb => ?_
  obtain ⟨bb, hbf⟩ := hbb
  obtain ⟨bcp, rfl, hcy⟩ := br_cells hbr0 hbf hyi
  have hbr := mbranch_does m dm s csv _ ksv [] zs ys [] none N inv h ok bb hbf q.name i b ha
  have hyl : ys.length ≤ 1000000 := by have := inv.few; rw [← ok.bs, List.length_map] at this; omega
  have hlf : ∀ y ∈ ys, (brc y).all (·.oneCell') = true := fun y hy => by
    obtain ⟨k, hk⟩ := List.getElem?_of_mem hy
    obtain ⟨yb, yl⟩ := y
    obtain ⟨_, _, e⟩ := (ok.lok k _ hk (by simp)).form
    simp only at e; subst e; rfl
  obtain ⟨da, dcp, e⟩ := hq.d.form
  have hqv := hq.val
  subst e; subst hqv
  refine Does.of Tryz.func83 rfl Tryz.ntmps83 rfl fun c hc0 => ?_
  refine goK _ ?_
  refine Ops.eff rfl rfl rfl (Eff.box rfl) fun _ => Ops.ex fun b3 => Ops.pure ?_
  rintro rfl
  refine Ops.eff rfl rfl rfl (E.alloc rfl) fun _ => Ops.ex fun b4 => Ops.pure ?_
  rintro rfl
  refine goK _ ?_
  refine Ops.eff rfl rfl rfl (Eff.callP 2 (fn (by kernel_rfl)) rfl (Ωc := MS m dm s csv (.slice (some ⟨bb, 0, none⟩) ys.length bcp) ksv [] zs ys []) (Ωr := []) (by simp) hbr) fun _ => Ops.pure ?_
  rintro rfl
  refine goK _ ?_
  refine Ops.val rfl rfl rfl (V.load rfl rfl (fun w hw => Mem.cellR (hcy 0 (.int .i64 b.id) rfl) (by first | exact fun _ hi => hi | exact fun _ hi => List.mem_cons_of_mem _ hi | exact fun _ hi => List.mem_cons_of_mem _ (List.mem_cons_of_mem _ hi) | simp +contextual | grind) hw)) ?_
  refine Ops.eff rfl rfl rfl (E.alloc rfl) fun _ => Ops.ex fun b6 => Ops.pure ?_
  rintro rfl
  refine goK _ ?_
  refine Ops.eff0 rfl rfl (E.store 0 rfl rfl rfl rfl rfl rfl rfl) fun _ => ?_
  refine goK _ ?_
  refine Ops.val rfl rfl rfl (Val.makeFunc (cs := #[.pointer (some ⟨b6, 0, none⟩)]) (fun ρ hρ => by simp [hρ _ _ (show ev _ (.tmp 6) = some _ from rfl)])) ?_
  refine Ops.pick [6, 0, 1, 2, 3, 4, 5, 7] (by decide) (Ω' := row 71 3 (.slice (some ⟨bb, 0, none⟩) ys.length bcp) ys.length (ys.flatMap brc) :: cells b6 [.int .i64 b.id] 3 :: [cells b4 z34 34, cells b3 [.int .i64 q.kind, str q.name, str q.other, .int .i64 q.num, str q.text, .slice da q.d.length dcp] 40, cells m (mcc s.nc s.nb csv (.slice (some ⟨bb, 0, none⟩) ys.length bcp) ksv dm) 101, mapI key dm [], row 47 6 csv zs.length (zs.flatMap cmc), row 127 3 ksv s.ks.length (s.ks.flatMap clc)]) rfl ?_
  refine Ops.eff rfl rfl rfl (Eff.call (fn (by kernel_rfl)) rfl (Ωc := [row 71 3 (.slice (some ⟨bb, 0, none⟩) ys.length bcp) ys.length (ys.flatMap brc), cells b6 [.int .i64 b.id] 3]) rfl (DeleteBr_does b6 b.id _ ys hyl hlf h)) fun _ => Ops.ex fun _ => Ops.ex fun _ => Ops.pure ?_
  rintro ⟨⟨xa, xcp, rfl⟩, rfl, rfl⟩
  refine goK _ ?_
  refine Ops.eff0 rfl rfl (E.store 4 rfl rfl rfl rfl rfl rfl rfl) fun _ => ?_
  refine goK _ ?_
  refine Ops.eff0 rfl rfl (E.store 2 rfl rfl rfl rfl rfl rfl rfl) fun _ => ?_
  refine goK _ ?_
  refine At.pick [2, 4, 5, 6, 0, 7] (by decide) (Ω' := cells b4 [.int .i64 0, .int .i64 b.id, str [], .slice none 0 0, .slice none 0 0] 34 :: MS m dm ⟨s.nc, s.nb, s.cs, s.bs.filter fun x => decide (x.id ≠ b.id), s.ks⟩ csv (.slice xa (ys.filter (keepB b.id)).length xcp) ksv [] zs (ys.filter (keepB b.id)) []) rfl ?_
  exact At.ret2 Tryz.results83 (Res.cellA (j := 0) (ly rfl) rfl rfl rfl) (Res.tmp rfl) (List.sublist_cons_self _ _)
    ⟨hc0.symm ▸ HV.le.refl _, 0, _, _, _, .remove i b ha, rfl, RpH.plain _ _ _ _, fun _ => ⟨csv, _, ksv, [], zs, _, hc0.symm ▸ ok.del b.id, rfl⟩⟩
end
end Go.Proofs.YthjgbmbaabpgmaaGreat
