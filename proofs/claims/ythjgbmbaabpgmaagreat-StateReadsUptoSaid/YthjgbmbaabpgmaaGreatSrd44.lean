/-
  The machine: a request done.
-/
import Derived.Test.YthjgbmbaabpgmaaGreatSrd05
import Derived.Test.YthjgbmbaabpgmaaGreatSrd42
import Derived.Test.YthjgbmbaabpgmaaGreatSrd43
set_option linter.unusedVariables false
set_option linter.unusedSimpArgs false
set_option linter.unusedSectionVars false
namespace Go.Proofs.YthjgbmbaabpgmaaGreat
open Go.Sy
set_option maxRecDepth 4000
set_option maxHeartbeats 4000000
/-- which log a request writes -/
def ownT (s : Ox.St) (q : Ox.Rq) : Option Nat := if q.kind = 2 ∨ q.kind = 3 ∨ q.kind = 5 then s.bs.findIdx? (fun b => decide (b.name = q.name)) else none
theorem ownT_at {s : Ox.St} {q : Ox.Rq} (hk : q.kind = 2 ∨ q.kind = 3 ∨ q.kind = 5) (hn : Ox.named s q.name) : ∃ i b, ownT s q = some i ∧ Ox.BrAt s.bs (·.name = q.name) i b := by
  obtain ⟨i, b, ha⟩ := Ox.BrAt.ex hn
  refine ⟨i, b, ?_, ha⟩
  unfold ownT
  rw [if_pos hk, List.findIdx?_eq_some_iff_getElem]
  have hlt : i < s.bs.length := (List.getElem?_eq_some_iff.1 ha.get).1
  have hb : s.bs[i] = b := (List.getElem?_eq_some_iff.1 ha.get).2
  refine ⟨hlt, by rw [hb]; simpa using ha.holds, fun j hj => ?_⟩
  have := ha.first j s.bs[j] hj (by simp)
  simpa using this
theorem ownT_none {s : Ox.St} {q : Ox.Rq} (hk : ¬ (q.kind = 2 ∨ q.kind = 3 ∨ q.kind = 5)) : ownT s q = none := by unfold ownT; rw [if_neg hk]
theorem handler_does (m dm : Nat) (s : Ox.St) (csv bsv ksv : Value) (zs : List CmV) (ys : List BrV) (N : Nat) (hN : N ≤ 1000) (inv : Ox.Inv N s) (h : HV) (q : Ox.Rq) (ok : MOk h s zs ys (ownT s q)) (qv dv : Value) (hq : RqH h qv q dv)
    (hk : 1 ≤ q.kind ∧ q.kind ≤ 11) (hn : q.kind = 1 ∨ q.kind = 4 ∨ Ox.named s q.name) :
    ∃ f, mget hmap q.kind = some (.func (.func f) #[] #[]) ∧ isFn Tryz.prog f = true ∧ Does Tryz.prog f #[.pointer (some ⟨m, 0, none⟩), qv] (MS m dm s csv bsv ksv [] zs ys (lgs ys (ownT s q) ys.length)) h (HdPost m dm s q q.kind (ownT s q) h) := by
  have hc : q.kind = 1 ∨ q.kind = 2 ∨ q.kind = 3 ∨ q.kind = 4 ∨ q.kind = 5 ∨ q.kind = 6 ∨ q.kind = 7 ∨ q.kind = 8 ∨ q.kind = 9 ∨ q.kind = 10 ∨ q.kind = 11 := by omega
  rcases hc with e | e | e | e | e | e | e | e | e | e | e
  · rw [ownT_none (by omega)] at ok ⊢
    rw [e]; exact ⟨77, rfl, by kernel_rfl, hcreate_does m dm s csv bsv ksv zs ys N hN inv h ok q qv dv hq⟩
  · obtain ⟨i, b, ht, ha⟩ := ownT_at (.inl e) (hn.resolve_left (by omega) |>.resolve_left (by omega))
    rw [ht] at ok ⊢
    obtain ⟨lv, hyi⟩ := ys_at ok.bs ha.get
    rw [e, lgs_own hyi]; exact ⟨78, rfl, by kernel_rfl, hload_does m dm s csv bsv ksv zs ys N inv h i b lv ok hyi q qv dv hq ha⟩
  · obtain ⟨i, b, ht, ha⟩ := ownT_at (.inr (.inl e)) (hn.resolve_left (by omega) |>.resolve_left (by omega))
    rw [ht] at ok ⊢
    obtain ⟨lv, hyi⟩ := ys_at ok.bs ha.get
    rw [e, lgs_own hyi]; exact ⟨79, rfl, by kernel_rfl, hedit_does m dm s csv bsv ksv zs ys N inv h i b lv ok hyi q qv dv hq ha⟩
  · rw [ownT_none (by omega)] at ok ⊢
    rw [e]; exact ⟨80, rfl, by kernel_rfl, hfork_does m dm s csv bsv ksv zs ys N hN inv h ok q qv dv hq⟩
  · obtain ⟨i, b, ht, ha⟩ := ownT_at (.inr (.inr e)) (hn.resolve_left (by omega) |>.resolve_left (by omega))
    rw [ht] at ok ⊢
    obtain ⟨lv, hyi⟩ := ys_at ok.bs ha.get
    rw [e, lgs_own hyi]; exact ⟨81, rfl, by kernel_rfl, hmerge_does m dm s csv bsv ksv zs ys N inv h i b lv ok hyi q qv dv hq ha⟩
  all_goals rw [ownT_none (by omega)] at ok ⊢
  all_goals have hn' := hn.resolve_left (by omega) |>.resolve_left (by omega)
  · rw [e]; exact ⟨82, rfl, by kernel_rfl, hrename_does m dm s csv bsv ksv zs ys N hN inv h ok q qv dv hq hn'⟩
  · rw [e]; exact ⟨83, rfl, by kernel_rfl, hremove_does m dm s csv bsv ksv zs ys N inv h ok q qv dv hq hn'⟩
  · rw [e]; exact ⟨84, rfl, by kernel_rfl, hread_does m dm s csv bsv ksv zs ys N inv h ok q qv dv hq hn'⟩
  · rw [e]; exact ⟨85, rfl, by kernel_rfl, hblame_does m dm s csv bsv ksv zs ys N inv h ok q qv dv hq hn'⟩
  · rw [e]; exact ⟨86, rfl, by kernel_rfl, hlog_does m dm s csv bsv ksv zs ys N inv h ok q qv dv hq hn'⟩
  · rw [e]; exact ⟨87, rfl, by kernel_rfl, htip_does m dm s csv bsv ksv zs ys N inv h ok q qv dv hq hn'⟩
theorem mget_hmap {k : Int} (h : ¬ (1 ≤ k ∧ k ≤ 11)) : mget hmap k = none := by
  simp only [hmap, mget]
  repeat (rw [if_neg (by omega)])
/-- the machine's rows stay as they are from here on: a state -/
theorem MS.publish {c : Ctx} {h : HV} {w : World} {m dm : Nat} {s : Ox.St} {csv bsv ksv : Value} {M : List (Int × Value)} {zs : List CmV} {ys : List BrV} {t : Option Nat} {B : List Itm} (ok : MOk h s zs ys t) (hm : Mem c (MS m dm s csv bsv ksv M zs ys (lgs ys t ys.length) ++ B) h w) :
    ∃ h', HV.le h h' ∧ StH h' (.agg #[.int .i64 s.nc, .int .i64 s.nb, csv, bsv, ksv]) s ∧ Mem c B h' w := by
  have h1 : Mem c (row 47 6 csv zs.length (zs.flatMap cmc) :: row 71 3 bsv ys.length (ys.flatMap brc) :: row 127 3 ksv s.ks.length (s.ks.flatMap clc) :: (lgs ys t ys.length ++ B)) h w := hm.sub ((List.sublist_cons_self _ _).trans (List.sublist_cons_self _ _))
  obtain ⟨ha, le1, s1, h2⟩ := h1.publish_row
  obtain ⟨hb, le2, s2, h3⟩ := h2.publish_row
  obtain ⟨hd, le3, s3, h4⟩ := h3.publish_row
  have le := (le1.trans le2).trans le3
  have fin : ∀ h', HV.le hd h' → (∀ y ∈ ys, ZsH h' y.lv y.b.log) → StH h' (.agg #[.int .i64 s.nc, .int .i64 s.nb, csv, bsv, ksv]) s := fun h' le' hl =>
    ⟨zs, ys, csv, bsv, ksv, rfl, ok.cs, ok.bs, ((s1.mono le2).mono le3).mono le', fun z hz => (ok.cok z hz).mono (le.trans le'), (s2.mono le3).mono le', hl, s3.mono le'⟩
  cases t with
  | none => exact ⟨hd, le, fin hd (HV.le.refl _) (fun y hy => by obtain ⟨k, hk⟩ := List.getElem?_of_mem hy; exact (ok.lok k y hk (by simp)).mono le), h4⟩
  | some i =>
    cases hy : ys[i]? with
    | none =>
      have e : lgs ys (some i) ys.length = [] := by unfold lgs; simp only [hy]; split <;> rfl
      rw [e] at h4
      exact ⟨hd, le, fin hd (HV.le.refl _) (fun y hym => by obtain ⟨k, hk⟩ := List.getElem?_of_mem hym; exact (ok.lok k y hk (fun e => by cases e; rw [hy] at hk; cases hk)).mono le), h4⟩
    | some y0 =>
      obtain ⟨b, lv⟩ := y0
      rw [lgs_own hy] at h4
      obtain ⟨he, le4, s4, h5⟩ := h4.publish_row
      refine ⟨he, le.trans le4, fin he le4 (fun y hym => ?_), h5⟩
      obtain ⟨k, hk⟩ := List.getElem?_of_mem hym
      by_cases hki : i = k
      · subst hki; rw [hy] at hk; cases hk; exact s4
      · exact (ok.lok k y hk (fun e => hki (Option.some.inj e))).mono (le.trans le4)
theorem atPublish {P : Program} {Q : Exit → Act → World → Prop} {n : Sz} {σ : Slots} {k : List It} {c : Ctx} {h : HV} {m dm : Nat} {s : Ox.St} {csv bsv ksv : Value} {M : List (Int × Value)} {zs : List CmV} {ys : List BrV} {t : Option Nat} {B : List Itm} (ok : MOk h s zs ys t)
    (hk : ∀ h', HV.le h h' → StH h' (.agg #[.int .i64 s.nc, .int .i64 s.nb, csv, bsv, ksv]) s → At P Q n σ (Mem c B h') k) : At P Q n σ (Mem c (MS m dm s csv bsv ksv M zs ys (lgs ys t ys.length) ++ B) h) k := fun a w ha hw => by
  obtain ⟨h', h1, h2, h3⟩ := MS.publish ok hw
  exact hk h' h1 h2 a w ha h3
theorem opsPerm {P : Program} {Q : Exit → Act → World → Prop} {n : Sz} {σ : Slots} {k : List It} {c : Ctx} {Ω Ω' : List Itm} {h : HV} {ops : Array Oper} {l : List Oper} (p : Ω.Perm Ω') (hk : Ops P Q n σ (Mem c Ω' h) ops l k) : Ops P Q n σ (Mem c Ω h) ops l k := fun a w ha hw => hk a w ha (hw.perm p)
def DoPost (s : Ox.St) (q : Ox.Rq) (h : HV) : Value → List Itm → HV → Prop := fun r Ω' h' => HV.le h h' ∧ Ω' = [] ∧ ∃ e s' rp sv rv, Ox.DoR s q e s' rp ∧ r = .tuple #[sv, rv, .int .i64 e] ∧ StH h' sv s' ∧ RpH h' rv rp
theorem StH.zero (h : HV) : StH h (.agg #[.int .i64 0, .int .i64 0, .slice none 0 0, .slice none 0 0, .slice none 0 0]) Ox.St.zero := ⟨[], [], _, _, _, rfl, rfl, rfl, SlH.nil _ _, by simp, SlH.nil _ _, by simp, SlH.nil _ _⟩
def z27 : List Value := [.int .i64 0, .int .i64 0, .slice none 0 0, .slice none 0 0, .slice none 0 0]
theorem DoPost.bad {s : Ox.St} {q : Ox.Rq} {h h' : HV} {e : Int} (hle : HV.le h h') (hr : Ox.DoR s q e .zero .zero) : DoPost s q h (.tuple #[.agg z27.toArray, .agg z34.toArray, .int .i64 e]) [] h' :=
  ⟨hle, rfl, e, .zero, .zero, _, _, hr, rfl, StH.zero _, RpH.plain _ _ _ _⟩
theorem mcc_at {nc nb : Int} {csv bsv ksv : Value} {dm j : Nat} {u : Value} (h : [.int .i64 nc, .int .i64 nb, csv, bsv, ksv][j]? = some u) : (mcc nc nb csv bsv ksv dm)[0 + 0 + 0 + j]? = some u := by
  have hj : j < 5 := (List.getElem?_eq_some_iff.1 h).1
  have e : mcc nc nb csv bsv ksv dm = [.int .i64 nc, .int .i64 nb, csv, bsv, ksv] ++ [.map (some dm)] := rfl
  rw [e, List.getElem?_append_left (by simp; omega)]
  simpa using h
attribute [local irreducible] At Ops Val Eff Does Res Dr

theorem mbranch_is' (m dm : Nat) (s : Ox.St) (csv bsv ksv : Value) (M : List (Int × Value)) (zs : List CmV) (ys : List BrV) (Ωl : List Itm) (t : Option Nat) (N : Nat) (inv : Ox.Inv N s) (h : HV) (ok : MOk h s zs ys t) (nm : List UInt8) :
    Does Tryz.prog 43 #[.pointer (some ⟨m, 0, none⟩), str nm] (MS m dm s csv bsv ksv M zs ys Ωl) h (fun r Ω' h' => (∃ p : Option Addr, r = .pointer p ∧ (p.isNone = true ↔ ¬ Ox.named s nm)) ∧ Ω' = MS m dm s csv bsv ksv M zs ys Ωl ∧ h = h') :=
  MX.reads fun _ _ _ hbb => by
    obtain ⟨bb, hbf⟩ := hbb
    exact mbranch_is m dm s csv bsv ksv M zs ys Ωl t N inv h ok bb hbf nm
theorem Do_does (v : Value) (s : Ox.St) (h : HV) (hv : StH h v s) (N : Nat) (hN : N ≤ 1000) (inv : Ox.Inv N s) (q : Ox.Rq) (qv dv : Value) (hq : RqH h qv q dv) : Does Tryz.prog 13 #[v, qv] [] h (DoPost s q h) := by
  have hcp := copied_does v s (ownT s q) h hv inv.small
  obtain ⟨da, dcp, e⟩ := hq.d.form
  have hqv := hq.val
  have hqn := hq.name
  subst e; subst hqv
  obtain ⟨zs0, ys0, csv0, bsv0, ksv0, hx⟩ := hv
  obtain rfl := hx.val
  obtain ⟨ca, ccp, rfl⟩ := hx.crow.form
  obtain ⟨ba, bcp, rfl⟩ := hx.brow.form
  obtain ⟨ka, kcp, rfl⟩ := hx.krow.form
  refine Does.of Tryz.func13 rfl Tryz.ntmps13 rfl fun c hc0 => ?_
  refine goK _ ?_
  refine Ops.eff rfl rfl rfl (Eff.box rfl) fun _ => Ops.ex fun b2 => Ops.pure ?_
  rintro rfl
  refine goK _ ?_
  refine Ops.eff rfl rfl rfl (Eff.box rfl) fun _ => Ops.ex fun b3 => Ops.pure ?_
  rintro rfl
  refine goK _ ?_
  refine Ops.eff rfl rfl rfl (E.alloc rfl) fun _ => Ops.ex fun b4 => Ops.pure ?_
  rintro rfl
  refine goK _ ?_
  refine Ops.eff rfl rfl rfl (E.alloc rfl) fun _ => Ops.ex fun b5 => Ops.pure ?_
  rintro rfl
  refine goK _ ?_
  refine Ops.eff rfl rfl rfl (Eff.call (fn (by kernel_rfl)) rfl (Ωc := []) rfl (handlers_does q.kind h)) fun _ => Ops.ex fun _ => Ops.ex fun _ => Ops.pure ?_
  rintro ⟨rfl, rfl, rfl⟩
  repeat (first | refine Ops.val rfl rfl rfl (V.loadOA 3 rfl rfl rfl rfl) ?_ | refine goS _ ?_)
  refine Ops.eff rfl rfl rfl (Eff.call (fn (by kernel_rfl)) rfl (Ωc := []) rfl (hcp)) fun _ => Ops.ex fun _ => Ops.ex fun _ => Ops.pure ?_
  rintro ⟨hle1, csv, bsv, ksv, zs, ys, rfl, hzc, hyb, hzo, hlo, rfl⟩
  rename_i h1
  have ok : MOk h1 s zs ys (ownT s q) := ⟨hzc, hyb, hzo, hlo⟩
  have hq1 : RqH h1 _ q _ := ⟨rfl, hq.d.mono hle1, hq.name, hq.other, hq.text, hq.num, hq.ops⟩
  refine opsPerm (List.perm_append_comm (l₁ := RX csv bsv ksv zs ys s.ks (lgs ys (ownT s q) ys.length))) ?_
  refine Ops.eff rfl rfl rfl (Eff.call (fn (by kernel_rfl)) rfl (Ωc := []) rfl (on_does s.nc s.nb csv bsv ksv h1)) fun _ => Ops.ex fun _ => Ops.ex fun _ => Ops.pure ?_
  rintro ⟨⟨m, dm, rfl, rfl⟩, rfl⟩
  refine opsPerm (Ω' := [cells b5 z34 34, cells b4 z27 27, cells b3 [.int .i64 q.kind, str q.name, str q.other, .int .i64 q.num, str q.text, .slice da q.d.length dcp] 40, cells b2 [.int .i64 s.nc, .int .i64 s.nb, .slice ca zs0.length ccp, .slice ba ys0.length bcp, .slice ka s.ks.length kcp] 27] ++ ([cells m (mcc s.nc s.nb csv bsv ksv dm) 101, mapI key dm []] ++ RX csv bsv ksv zs ys s.ks (lgs ys (ownT s q) ys.length))) (List.perm_append_comm_assoc [cells m (mcc s.nc s.nb csv bsv ksv dm) 101, mapI key dm []] [cells b5 z34 34, cells b4 z27 27, cells b3 [.int .i64 q.kind, str q.name, str q.other, .int .i64 q.num, str q.text, .slice da q.d.length dcp] 40, cells b2 [.int .i64 s.nc, .int .i64 s.nb, .slice ca zs0.length ccp, .slice ba ys0.length bcp, .slice ka s.ks.length kcp] 27] (RX csv bsv ksv zs ys s.ks (lgs ys (ownT s q) ys.length))) ?_
  have hhd := handler_does m dm s csv bsv ksv zs ys N hN inv h1 q ok _ _ hq1
  refine goK _ ?_
  by_cases hk : 1 ≤ q.kind ∧ q.kind ≤ 11
  rotate_left
  · refine Ops.respell (t := 22) (v' := .nilFunc) rfl (by rw [mget_hmap hk]; rfl) ?_
    refine Ops.val rfl rfl rfl (Val.eqlNilFunc Tryz.underlying91 rfl) ?_
    refine goK _ ?_
    refine Ops.eff0 rfl rfl (E.store 1 rfl rfl rfl rfl rfl rfl rfl) fun _ => ?_
    refine Ops.eff0 rfl rfl (E.store 0 rfl rfl rfl rfl rfl rfl rfl) fun _ => ?_
    refine goK _ ?_
    exact At.ret3 Tryz.results13 (Res.cellA (j := 1) (cs := z27) (ly rfl) rfl rfl rfl) (Res.cellA (j := 0) (cs := z34) (ly rfl) rfl rfl rfl) (Res.tmp rfl) (List.nil_sublist _) (DoPost.bad (hc0.symm ▸ hle1) (.arg hk))
  obtain ⟨f0, hf0⟩ : ∃ f, mget hmap q.kind = some (.func (.func f) #[] #[]) := by
    have hc : q.kind = 1 ∨ q.kind = 2 ∨ q.kind = 3 ∨ q.kind = 4 ∨ q.kind = 5 ∨ q.kind = 6 ∨ q.kind = 7 ∨ q.kind = 8 ∨ q.kind = 9 ∨ q.kind = 10 ∨ q.kind = 11 := by omega
    rcases hc with e | e | e | e | e | e | e | e | e | e | e <;> rw [e] <;> exact ⟨_, rfl⟩
  refine Ops.respell (t := 22) (v' := .func (.func f0) #[] #[]) rfl (by rw [hf0]; rfl) ?_
  refine Ops.respell (t := 7) (v' := .func (.func f0) #[] #[]) rfl (by rw [hf0]; rfl) ?_
  refine Ops.val rfl rfl rfl (Val.eqlFunc Tryz.underlying91 rfl) ?_
  refine goK _ ?_
  refine Ops.eff rfl rfl rfl (Eff.call (fn (by kernel_rfl)) rfl (Ωc := []) rfl (isName_does q.name hqn h1)) fun _ => Ops.ex fun _ => Ops.ex fun _ => Ops.pure ?_
  rintro ⟨rfl, rfl, rfl⟩
  refine Ops.val rfl rfl rfl (Val.not rfl) ?_
  refine Ops.val rfl rfl rfl (Val.assign rfl) ?_
  refine Ops.nil ?_
  refine At.cond rfl (fun h2 => ?_) (fun h2 => ?_)
  · refine goK _ ?_
    refine Ops.eff0 rfl rfl (E.store 1 rfl rfl rfl rfl rfl rfl rfl) fun _ => ?_
    refine Ops.eff0 rfl rfl (E.store 0 rfl rfl rfl rfl rfl rfl rfl) fun _ => ?_
    refine goK _ ?_
    exact At.ret3 Tryz.results13 (Res.cellA (j := 1) (cs := z27) (ly rfl) rfl rfl rfl) (Res.cellA (j := 0) (cs := z34) (ly rfl) rfl rfl rfl) (Res.tmp rfl) (List.nil_sublist _) (DoPost.bad (hc0.symm ▸ hle1) (.name hk (by simpa using h2)))
  have hnm : Ox.isName q.name = true := by simpa using h2
  refine At.imp (S' := Mem c (cells b5 z34 34 :: cells b4 z27 27 :: cells b3 [.int .i64 q.kind, str q.name, str q.other, .int .i64 q.num, str q.text, .slice da q.d.length dcp] 40 :: cells b2 [.int .i64 s.nc, .int .i64 s.nb, .slice ca zs0.length ccp, .slice ba ys0.length bcp, .slice ka s.ks.length kcp] 27 :: MS m dm s csv bsv ksv [] zs ys (lgs ys (ownT s q) ys.length)) h1) ?_ (fun w hw => hw)
  have hbi := mbranch_is' m dm s csv bsv ksv [] zs ys (lgs ys (ownT s q) ys.length) (ownT s q) N inv h1 ok q.name
  refine At.meet1 (fun (_ : Unit) => [(3, .pointer (some ⟨b3, 0, none⟩)), (4, .pointer (some ⟨b4, 0, none⟩)), (5, .pointer (some ⟨b5, 0, none⟩)), (7, .func (.func f0) #[] #[]), (9, .pointer (some ⟨m, 0, none⟩))])
    (fun _ w => (q.kind = 1 ∨ q.kind = 4 ∨ Ox.named s q.name) ∧ Mem c (cells b5 z34 34 :: cells b4 z27 27 :: cells b3 [.int .i64 q.kind, str q.name, str q.other, .int .i64 q.num, str q.text, .slice da q.d.length dcp] 40 :: cells b2 [.int .i64 s.nc, .int .i64 s.nb, .slice ca zs0.length ccp, .slice ba ys0.length bcp, .slice ka s.ks.length kcp] 27 :: MS m dm s csv bsv ksv [] zs ys (lgs ys (ownT s q) ys.length)) h1 w) (fun k' meet => ?_) (fun _ => At.pure fun hkn => ?_)
  · by_cases hfr : q.kind = 1 ∨ q.kind = 4
    · refine At.respell (t := 8) (v' := .bool true) rfl (by rw [decide_eq_true hfr]; rfl) ?_
      refine goK _ ?_
      refine meet () (by exact ⟨rfl, rfl, rfl, rfl, rfl, trivial⟩) (fun w hw => ⟨hfr.elim .inl fun e => .inr (.inl e), hw⟩)
    · refine At.respell (t := 8) (v' := .bool false) rfl (by rw [decide_eq_false hfr]; rfl) ?_
      refine goK _ ?_
      refine Ops.eff rfl rfl rfl (Eff.callP 4 (fn (by kernel_rfl)) rfl (Ωc := MS m dm s csv bsv ksv [] zs ys (lgs ys (ownT s q) ys.length)) (Ωr := []) (by simp) hbi) fun _ => Ops.pure ?_
      rintro ⟨p, rfl, hp⟩
      refine Ops.val rfl rfl rfl (Val.eqlPtr Tryz.underlying96 rfl) ?_
      refine goK _ ?_
      refine At.cond rfl (fun h3 => ?_) (fun h3 => ?_)
      · have hno : ¬ Ox.named s q.name := hp.1 (by simpa using h3)
        refine goK _ ?_
        refine Ops.eff0 rfl rfl (E.store 1 rfl rfl rfl rfl rfl rfl rfl) fun _ => ?_
        refine Ops.eff0 rfl rfl (E.store 0 rfl rfl rfl rfl rfl rfl rfl) fun _ => ?_
        refine goK _ ?_
        exact At.ret3 Tryz.results13 (Res.cellA (j := 1) (cs := z27) (ly rfl) rfl rfl rfl) (Res.cellA (j := 0) (cs := z34) (ly rfl) rfl rfl rfl) (Res.tmp rfl) (List.nil_sublist _) (DoPost.bad (hc0.symm ▸ hle1) (.none hk hnm (fun e => hfr (.inl e)) (fun e => hfr (.inr e)) hno))
      · have hyes : Ox.named s q.name := by
          by_cases hx : Ox.named s q.name
          · exact hx
          · rw [hp.2 hx] at h3; cases h3
        refine goK _ ?_
        refine meet () (by exact ⟨rfl, rfl, rfl, rfl, rfl, trivial⟩) (fun w hw => ⟨.inr (.inr hyes), hw⟩)
  · obtain ⟨f, hf1, hf2, hfd⟩ := hhd hk hkn
    obtain rfl : f = f0 := by rw [hf0] at hf1; cases hf1; rfl
    repeat (first | refine Ops.val rfl rfl rfl (V.loadOA 2 rfl rfl rfl rfl) ?_ | refine goS _ ?_)
    refine Ops.eff rfl rfl rfl (Eff.callvAt 4 hf2 rfl rfl (Ωc := MS m dm s csv bsv ksv [] zs ys (lgs ys (ownT s q) ys.length)) (Ωr := []) (by simp) hfd) fun _ => Ops.ex fun Ω1 => Ops.ex fun h2 => Ops.pure ?_
    rintro ⟨hle2, e, s', rp, rv, hR, rfl, ⟨xv, lv, rfl, hxv, hlv⟩, hok⟩
    obtain ⟨xa, xcp, rfl⟩ := hxv.form
    obtain ⟨la, lcp, rfl⟩ := hlv.form
    refine opsPerm (List.perm_append_comm (l₁ := Ω1)) ?_
    refine Ops.val rfl rfl rfl (Val.move rfl) ?_
    refine Ops.val rfl rfl rfl (Val.extract rfl rfl) ?_
    refine Ops.val rfl rfl rfl (Val.extract rfl rfl) ?_
    refine Ops.eff rfl rfl rfl (E.alloc rfl) fun _ => Ops.ex fun b10 => Ops.pure ?_
    rintro rfl
    refine goK _ ?_
    refine Ops.eff0 rfl rfl (E.store 0 rfl rfl rfl rfl rfl rfl rfl) fun _ => ?_
    refine goK _ ?_
    refine At.condN rfl (fun h3 => ?_) (fun h3 => ?_)
    · refine goK _ ?_
      refine Ops.eff0 rfl rfl (E.store 2 rfl rfl rfl rfl rfl rfl rfl) fun _ => ?_
      refine Ops.eff0 rfl rfl (E.store 1 rfl rfl rfl rfl rfl rfl rfl) fun _ => ?_
      refine goK _ ?_
      exact At.ret3 Tryz.results13 (Res.cellA (j := 2) (cs := z27) (ly rfl) rfl rfl rfl) (Res.cellA (j := 1) (cs := z34) (ly rfl) rfl rfl rfl) (Res.tmp rfl) (List.nil_sublist _) (DoPost.bad (hc0.symm ▸ hle1.trans hle2) (.bad hnm hkn hR h3))
    have he : e = 0 := by simpa using h3
    subst he
    obtain ⟨csv', bsv', ksv', M', zs', ys', ok', rfl⟩ := hok rfl
    refine goK _ ?_
    refine Ops.eff0 rfl rfl (E.store 0 rfl rfl rfl rfl rfl rfl rfl) fun _ => ?_
    refine goK _ ?_
    refine At.row_form 7 rfl fun a1 c1 e1 => ?_
    subst e1
    refine At.row_form 8 rfl fun a2 c2 e2 => ?_
    subst e2
    refine At.row_form 9 rfl fun a3 c3 e3 => ?_
    subst e3
    first | refine At.drawn mo (fun _ _ m => m.drew _) ?_ | refine At.seq (At.drawn mo (fun _ _ m => m.drew _) ?_)
    refine Dr.val 0 rfl rfl rfl rfl (by kernel_rfl) rfl (Val.move rfl) ?_
    refine Dr.val 1 rfl rfl rfl rfl (by kernel_rfl) rfl (Val.nilCheck rfl) ?_
    refine Dr.val 2 rfl rfl rfl rfl (by kernel_rfl) rfl (V.fieldAddr rfl rfl) ?_
    refine Dr.valS 3 _ rfl rfl rfl rfl (by kernel_rfl) rfl (V.loadN (cs := [.int .i64 s'.nc, .int .i64 s'.nb, .slice a1 zs'.length c1, .slice a2 ys'.length c2, .slice a3 s'.ks.length c3]) rfl rfl rfl (fun _ hh => hh)) (fun w hw j u hu => hw.cell (n := 5) rfl (mcc_at hu)) ?_
    refine Dr.valS 4 _ rfl rfl rfl rfl (by kernel_rfl) rfl (V.loadN (cs := [.int .i64 q.kind, .int .i64 rp.num, str rp.text, .slice xa rp.runs.length xcp, .slice la rp.log.length lcp]) rfl rfl rfl (fun _ hh => hh)) (fun w hw => hw.cellsAt (n := 0) rfl rfl) ?_
    refine Dr.next0 (e := 5) rfl rfl (by kernel_rfl) rfl (by kernel_rfl) (by kernel_rfl) rfl (E.store 2 rfl rfl rfl rfl rfl rfl rfl) aokK fun _ => ?_
    refine Dr.next0 (e := 6) rfl rfl (by kernel_rfl) rfl (by kernel_rfl) (by kernel_rfl) rfl (E.store 1 rfl rfl rfl rfl rfl rfl rfl) aokK fun _ => ?_
    refine Dr.val 7 rfl rfl rfl rfl (by kernel_rfl) rfl (Val.assign rfl) ?_
    refine Dr.done (by kernel_rfl) (by kernel_rfl) ?_
    refine At.imp (S' := Mem c ([cells b10 [.int .i64 q.kind, .int .i64 rp.num, str rp.text, .slice xa rp.runs.length xcp, .slice la rp.log.length lcp] 34, cells b5 [.int .i64 q.kind, .int .i64 rp.num, str rp.text, .slice xa rp.runs.length xcp, .slice la rp.log.length lcp] 34, cells b4 [.int .i64 s'.nc, .int .i64 s'.nb, .slice a1 zs'.length c1, .slice a2 ys'.length c2, .slice a3 s'.ks.length c3] 27, cells b3 [.int .i64 q.kind, str q.name, str q.other, .int .i64 q.num, str q.text, .slice da q.d.length dcp] 40, cells b2 [.int .i64 s.nc, .int .i64 s.nb, .slice ca zs0.length ccp, .slice ba ys0.length bcp, .slice ka s.ks.length kcp] 27] ++ MS m dm s' (.slice a1 zs'.length c1) (.slice a2 ys'.length c2) (.slice a3 s'.ks.length c3) M' zs' ys' (lgs ys' (ownT s q) ys'.length)) h2) ?_ (fun w hw => hw)
    refine At.perm_mem List.perm_append_comm ?_
    refine atPublish ok' fun h3' hle3 hsv => ?_
    refine At.ret3 Tryz.results13 (Res.cellA (j := 2) (ly rfl) rfl rfl rfl) (Res.cellA (j := 1) (ly rfl) rfl rfl rfl) (Res.tmp rfl) (List.nil_sublist _) ⟨hc0.symm ▸ (hle1.trans hle2).trans hle3, rfl, 0, s', _, _, _, .done hnm hkn hR, rfl, hsv, ⟨_, _, rfl, hxv.mono hle3, hlv.mono hle3⟩⟩
end Go.Proofs.YthjgbmbaabpgmaaGreat
