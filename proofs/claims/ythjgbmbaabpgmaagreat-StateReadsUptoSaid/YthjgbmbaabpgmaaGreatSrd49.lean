/-
  States and replies compared: the same ones are found the same.
-/
import Derived.Test.YthjgbmbaabpgmaaGreatSrd05
import Derived.Test.YthjgbmbaabpgmaaGreatSrd46
import Derived.Test.YthjgbmbaabpgmaaGreatSrd37
import Derived.Test.YthjgbmbaabpgmaaGreatSrd47
import Derived.Test.YthjgbmbaabpgmaaGreatSrd48
set_option linter.unusedVariables false
set_option linter.unusedSimpArgs false
set_option linter.unusedSectionVars false
namespace Go.Proofs.YthjgbmbaabpgmaaGreat
open Go.Sy
set_option maxRecDepth 4000
set_option maxHeartbeats 4000000
theorem map_at {α β : Type} {f : α → β} {l m : List α} (e : l.map f = m.map f) {i : Nat} {x : α} (hx : l[i]? = some x) : ∃ y, m[i]? = some y ∧ f y = f x := by
  have h := congrArg (·[i]?) e
  simp only [List.getElem?_map, hx, Option.map_some] at h
  cases hy : m[i]? with
  | none => rw [hy] at h; cases h
  | some y => rw [hy] at h; exact ⟨y, rfl, (Option.some.inj h).symm⟩
attribute [local irreducible] At Ops Val Eff Does Res Dr

theorem stSame_does (u v : Value) (s : Ox.St) (h : HV) (hu : StH h u s) (hv : StH h v s) (hs : Small s) : Does Tryz.prog 21 #[u, v] [] h (Just h (· = .bool true)) := by
  obtain ⟨zs, ys, csv, bsv, ksv, hx⟩ := hu
  obtain ⟨zs', ys', csv', bsv', ksv', hx'⟩ := hv
  obtain rfl := hx.val
  obtain rfl := hx'.val
  obtain ⟨ca, ccp, rfl⟩ := hx.crow.form
  obtain ⟨ba, bcp, rfl⟩ := hx.brow.form
  obtain ⟨ka, kcp, rfl⟩ := hx.krow.form
  obtain ⟨ca', ccp', rfl⟩ := hx'.crow.form
  obtain ⟨ba', bcp', rfl⟩ := hx'.brow.form
  obtain ⟨ka', kcp', rfl⟩ := hx'.krow.form
  have ec : zs.map CmV.c = zs'.map CmV.c := hx.cs.trans hx'.cs.symm
  have eb : ys.map BrV.b = ys'.map BrV.b := hx.bs.trans hx'.bs.symm
  have hcl : zs'.length = zs.length := by have := congrArg List.length ec; simpa using this.symm
  have hbl : ys'.length = ys.length := by have := congrArg List.length eb; simpa using this.symm
  have hzl : zs.length ≤ 1000000 := by have := hs.cs; rw [← hx.cs, List.length_map] at this; exact this
  have hyl : ys.length ≤ 1000000 := by have := hs.bs; rw [← hx.bs, List.length_map] at this; exact this
  have hkl := hs.ks
  have hze : ∀ z ∈ zs, z.c.ps.length ≤ 1000000 ∧ z.c.d.length ≤ 1000000 ∧ z.c.o.length ≤ 1000000 := fun z hz => hs.each z.c (by rw [← hx.cs]; exact List.mem_map_of_mem hz)
  have hyg : ∀ y ∈ ys, y.b.log.length ≤ 1000000 := fun y hy => hs.logs y.b (by rw [← hx.bs]; exact List.mem_map_of_mem hy)
  have hcr := hx.crow; have hcr' := hx'.crow; have hbr := hx.brow; have hbr' := hx'.brow; have hkr := hx.krow; have hkr' := hx'.krow
  rw [hcl] at hcr' ⊢
  rw [hbl] at hbr' ⊢
  refine Does.of Tryz.func21 rfl Tryz.ntmps21 rfl fun c hc0 => ?_
  repeat (first | refine Ops.val rfl rfl rfl (V.neqT3 rfl rfl) ?_ | refine goS _ ?_)
  refine Ops.eff rfl rfl rfl (Eff.box rfl) fun _ => Ops.ex fun b2 => Ops.pure ?_
  rintro rfl
  refine goK _ ?_
  refine Ops.eff rfl rfl rfl (Eff.box rfl) fun _ => Ops.ex fun b3 => Ops.pure ?_
  rintro rfl
  repeat (first | refine Ops.val rfl rfl rfl (V.neqT3 rfl rfl) ?_ | refine goS _ ?_)
  refine At.loop1 (fun (i : Nat) => [(2, .pointer (some ⟨b2, 0, none⟩)), (3, .pointer (some ⟨b3, 0, none⟩)), (5, .int .i64 (i : Int))])
    (fun (i : Nat) w => i ≤ zs.length ∧ Mem c [cells b3 [.int .i64 s.nc, .int .i64 s.nb, .slice ca' zs.length ccp', .slice ba' ys.length bcp', .slice ka' s.ks.length kcp'] 27, cells b2 [.int .i64 s.nc, .int .i64 s.nb, .slice ca zs.length ccp, .slice ba ys.length bcp, .slice ka s.ks.length kcp] 27] h w) (fun (i : Nat) => zs.length - i)
    0 ⟨rfl, rfl, rfl, trivial⟩ (fun w hw => ⟨Nat.zero_le _, hw⟩) (fun i => At.pure (fun hi => ?_))
  refine goK _ ?_
  refine At.condP rfl (fun h2 => ?_) (fun h2 => ?_)
  · have hlt : i < zs.length := by omega
    have hzi : zs[i]? = some zs[i] := by simp [hlt]
    obtain ⟨z', hzi', hzz⟩ := map_at ec hzi
    have ho := hx.cok zs[i] (List.mem_of_getElem? hzi)
    have ho' := hx'.cok z' (List.mem_of_getElem? hzi')
    have hzq := hze zs[i] (List.mem_of_getElem? hzi)
    obtain ⟨g, o, rfl, _, _, hc⟩ := RowH.elem cmc_length hcr hzi
    have hcr2 : RowH cmc 6 h (.slice ca' zs'.length ccp') zs' := by rw [hcl]; exact hcr'
    obtain ⟨g', o', rfl, _, _, hc'⟩ := RowH.elem cmc_length hcr2 hzi'
    generalize zs[i] = z at *
    have h1z := ho.one; have h1z' := ho'.one
    obtain ⟨zc0, pv, dv, ov⟩ := z
    obtain ⟨zc1, pv', dv', ov'⟩ := z'
    simp only at hzz
    subst hzz
    have hi1 := ints_does pv pv' zc1.ps (by have := hzq.1; simp only at this; omega) h ho.ps ho'.ps
    have hi2 := opSame_does dv dv' zc1.d (by have := hzq.2.1; simp only at this; omega) h ho.d ho'.d
    have hi3 := opSame_does ov ov' zc1.o (by have := hzq.2.2; simp only at this; omega) h ho.o ho'.o
    repeat (first | refine Ops.val rfl rfl rfl (V.loadHA (cs := cmc ⟨zc1, pv, dv, ov⟩) rfl rfl rfl hc) ?_ | refine goS _ ?_)
    refine Ops.eff rfl rfl rfl (E.alloc rfl) fun _ => Ops.ex fun b6 => Ops.pure ?_
    rintro rfl
    refine Ops.eff0 rfl rfl (E.store 0 rfl rfl rfl rfl rfl rfl h1z) fun _ => ?_
    repeat (first | refine Ops.val rfl rfl rfl (V.loadHA (cs := cmc ⟨zc1, pv', dv', ov'⟩) rfl rfl rfl hc') ?_ | refine goS _ ?_)
    refine Ops.eff rfl rfl rfl (E.alloc rfl) fun _ => Ops.ex fun b7 => Ops.pure ?_
    rintro rfl
    refine Ops.eff0 rfl rfl (E.store 0 rfl rfl rfl rfl rfl rfl h1z') fun _ => ?_
    refine Ops.nil ?_
    refine At.imp (S' := Mem c (cells b7 (cmc ⟨zc1, pv', dv', ov'⟩) 47 :: cells b6 (cmc ⟨zc1, pv, dv, ov⟩) 47 :: [cells b3 [.int .i64 s.nc, .int .i64 s.nb, .slice (some ⟨g', o', none⟩) zs.length ccp', .slice ba' ys.length bcp', .slice ka' s.ks.length kcp'] 27, cells b2 [.int .i64 s.nc, .int .i64 s.nb, .slice (some ⟨g, o, none⟩) zs.length ccp, .slice ba ys.length bcp, .slice ka s.ks.length kcp] 27]) h) ?_ (fun w hw => hw)
    repeat (first | refine Ops.val rfl rfl rfl (V.neqT3 rfl rfl) ?_ | (refine Ops.eff rfl rfl rfl (Eff.callP 0 (fn (by kernel_rfl)) rfl (Ωc := []) rfl hi1) fun _ => Ops.pure ?_; rintro rfl) | (refine Ops.eff rfl rfl rfl (Eff.callP 0 (fn (by kernel_rfl)) rfl (Ωc := []) rfl hi2) fun _ => Ops.pure ?_; rintro rfl) | (refine Ops.eff rfl rfl rfl (Eff.callP 0 (fn (by kernel_rfl)) rfl (Ωc := []) rfl hi3) fun _ => Ops.pure ?_; rintro rfl) | refine goS _ ?_)
    refine At.back (i + 1) (by show zs.length - (i + 1) < zs.length - i; omega) (by exact ⟨rfl, rfl, rfl, trivial⟩) (fun w hw => ⟨hlt, hw.sub ((List.sublist_cons_self _ _).trans (List.sublist_cons_self _ _))⟩)
  refine goK _ ?_
  refine At.loop1 (fun (i : Nat) => [(2, .pointer (some ⟨b2, 0, none⟩)), (3, .pointer (some ⟨b3, 0, none⟩)), (8, .int .i64 (i : Int))])
    (fun (i : Nat) w => i ≤ ys.length ∧ Mem c [cells b3 [.int .i64 s.nc, .int .i64 s.nb, .slice ca' zs.length ccp', .slice ba' ys.length bcp', .slice ka' s.ks.length kcp'] 27, cells b2 [.int .i64 s.nc, .int .i64 s.nb, .slice ca zs.length ccp, .slice ba ys.length bcp, .slice ka s.ks.length kcp] 27] h w) (fun (i : Nat) => ys.length - i)
    0 ⟨rfl, rfl, rfl, trivial⟩ (fun w hw => ⟨Nat.zero_le _, hw⟩) (fun i => At.pure (fun hi => ?_))
  refine goK _ ?_
  refine At.condP rfl (fun h2 => ?_) (fun h2 => ?_)
  · have hlt : i < ys.length := by omega
    have hzi : ys[i]? = some ys[i] := by simp [hlt]
    obtain ⟨y', hzi', hzz⟩ := map_at eb hzi
    have ho := hx.bok ys[i] (List.mem_of_getElem? hzi)
    have ho' := hx'.bok y' (List.mem_of_getElem? hzi')
    have hzq := hyg ys[i] (List.mem_of_getElem? hzi)
    obtain ⟨g, o, rfl, _, _, hc⟩ := RowH.elem brc_length hbr hzi
    have hbr2 : RowH brc 3 h (.slice ba' ys'.length bcp') ys' := by rw [hbl]; exact hbr'
    obtain ⟨g', o', rfl, _, _, hc'⟩ := RowH.elem brc_length hbr2 hzi'
    generalize ys[i] = y at *
    obtain ⟨yb0, lv⟩ := y
    obtain ⟨yb1, lv'⟩ := y'
    simp only at hzz
    subst hzz
    obtain ⟨la, lcp, e1⟩ := ho.form
    obtain ⟨la', lcp', e2⟩ := ho'.form
    simp only at e1 e2 ho ho'
    subst e1 e2
    have hi1 := ints_does _ _ yb1.log (by simp only at hzq; omega) h ho ho'
    repeat (first | refine Ops.val rfl rfl rfl (V.loadHA (cs := brc ⟨yb1, .slice la yb1.log.length lcp⟩) rfl rfl rfl hc) ?_ | refine goS _ ?_)
    refine Ops.eff rfl rfl rfl (E.alloc rfl) fun _ => Ops.ex fun b9 => Ops.pure ?_
    rintro rfl
    refine Ops.eff0 rfl rfl (E.store 0 rfl rfl rfl rfl rfl rfl rfl) fun _ => ?_
    repeat (first | refine Ops.val rfl rfl rfl (V.loadHA (cs := brc ⟨yb1, .slice la' yb1.log.length lcp'⟩) rfl rfl rfl hc') ?_ | refine goS _ ?_)
    refine Ops.eff rfl rfl rfl (E.alloc rfl) fun _ => Ops.ex fun b10 => Ops.pure ?_
    rintro rfl
    refine Ops.eff0 rfl rfl (E.store 0 rfl rfl rfl rfl rfl rfl rfl) fun _ => ?_
    refine Ops.nil ?_
    refine At.imp (S' := Mem c (cells b10 (brc ⟨yb1, .slice la' yb1.log.length lcp'⟩) 71 :: cells b9 (brc ⟨yb1, .slice la yb1.log.length lcp⟩) 71 :: [cells b3 [.int .i64 s.nc, .int .i64 s.nb, .slice ca' zs.length ccp', .slice (some ⟨g', o', none⟩) ys.length bcp', .slice ka' s.ks.length kcp'] 27, cells b2 [.int .i64 s.nc, .int .i64 s.nb, .slice ca zs.length ccp, .slice (some ⟨g, o, none⟩) ys.length bcp, .slice ka s.ks.length kcp] 27]) h) ?_ (fun w hw => hw)
    repeat (first | refine Ops.val rfl rfl rfl (V.neqT3 rfl rfl) ?_ | refine Ops.val rfl rfl rfl (V.neqT9 rfl rfl) ?_ | (refine Ops.eff rfl rfl rfl (Eff.callP 0 (fn (by kernel_rfl)) rfl (Ωc := []) rfl hi1) fun _ => Ops.pure ?_; rintro rfl) | refine goS _ ?_)
    refine At.back (i + 1) (by show ys.length - (i + 1) < ys.length - i; omega) (by exact ⟨rfl, rfl, rfl, trivial⟩) (fun w hw => ⟨hlt, hw.sub ((List.sublist_cons_self _ _).trans (List.sublist_cons_self _ _))⟩)
  refine goK _ ?_
  refine At.loop1 (fun (i : Nat) => [(2, .pointer (some ⟨b2, 0, none⟩)), (3, .pointer (some ⟨b3, 0, none⟩)), (11, .int .i64 (i : Int))])
    (fun (i : Nat) w => i ≤ s.ks.length ∧ Mem c [cells b3 [.int .i64 s.nc, .int .i64 s.nb, .slice ca' zs.length ccp', .slice ba' ys.length bcp', .slice ka' s.ks.length kcp'] 27, cells b2 [.int .i64 s.nc, .int .i64 s.nb, .slice ca zs.length ccp, .slice ba ys.length bcp, .slice ka s.ks.length kcp] 27] h w) (fun (i : Nat) => s.ks.length - i)
    0 ⟨rfl, rfl, rfl, trivial⟩ (fun w hw => ⟨Nat.zero_le _, hw⟩) (fun i => At.pure (fun hi => ?_))
  refine goK _ ?_
  refine At.condP rfl (fun h2 => ?_) (fun h2 => ?_)
  · have hlt : i < s.ks.length := by omega
    have hzi : s.ks[i]? = some s.ks[i] := by simp [hlt]
    obtain ⟨g, o, rfl, _, _, hc⟩ := RowH.elem clc_length hkr hzi
    obtain ⟨g', o', rfl, _, _, hc'⟩ := RowH.elem clc_length hkr' hzi
    generalize s.ks[i] = k at *
    refine goK _ ?_
    first | refine At.drawn mo (fun _ _ m => m.drew _) ?_ | refine At.seq (At.drawn mo (fun _ _ m => m.drew _) ?_)
    refine Dr.val 0 rfl rfl rfl rfl (by kernel_rfl) rfl (V.fieldAddr rfl rfl) ?_
    refine Dr.valS 1 _ rfl rfl rfl rfl (by kernel_rfl) rfl (V.load rfl rfl (fun _ hh => hh)) (fun w hw => hw.cell (n := 1) rfl rfl) ?_
    refine Dr.val 2 rfl rfl rfl rfl (by kernel_rfl) rfl (Val.move rfl) ?_
    refine Dr.val 3 rfl rfl rfl rfl (by kernel_rfl) rfl (V.indexAddr rfl rfl rfl rfl hlt) ?_
    refine Dr.valS 4 _ rfl rfl rfl rfl (by kernel_rfl) rfl (V.loadN (cs := clc k) rfl rfl rfl (fun _ hh => hh)) (fun w hw j u hu => hw.cellH (hc j u hu)) ?_
    refine Dr.val 5 rfl rfl rfl rfl (by kernel_rfl) rfl (V.fieldAddr rfl rfl) ?_
    refine Dr.valS 6 _ rfl rfl rfl rfl (by kernel_rfl) rfl (V.load rfl rfl (fun _ hh => hh)) (fun w hw => hw.cell (n := 0) rfl rfl) ?_
    refine Dr.val 7 rfl rfl rfl rfl (by kernel_rfl) rfl (Val.move rfl) ?_
    refine Dr.val 8 rfl rfl rfl rfl (by kernel_rfl) rfl (V.indexAddr rfl rfl rfl rfl hlt) ?_
    refine Dr.valS 9 _ rfl rfl rfl rfl (by kernel_rfl) rfl (V.loadN (cs := clc k) rfl rfl rfl (fun _ hh => hh)) (fun w hw j u hu => hw.cellH (hc' j u hu)) ?_
    refine Dr.val 10 rfl rfl rfl rfl (by kernel_rfl) rfl (V.neqT127 rfl rfl) ?_
    refine Dr.done (by kernel_rfl) (by kernel_rfl) ?_
    refine goK _ ?_
    refine At.back (i + 1) (by show s.ks.length - (i + 1) < s.ks.length - i; omega) (by exact ⟨rfl, rfl, rfl, trivial⟩) (fun w hw => ⟨hlt, hw⟩)
  refine goK _ ?_
  exact At.ret1 Tryz.results21 (Res.tmp rfl) (List.nil_sublist _) ⟨rfl, rfl, hc0.symm ▸ rfl⟩

theorem rpSame_does (u v : Value) (r : Ox.Rp) (h : HV) (hu : RpH h u r) (hv : RpH h v r) (h1 : r.runs.length ≤ 1000000) (h2 : r.log.length ≤ 1000000) : Does Tryz.prog 22 #[u, v] [] h (Just h (· = .bool true)) := by
  obtain ⟨rv, lv, rfl, hr, hl⟩ := hu
  obtain ⟨rv', lv', rfl, hr', hl'⟩ := hv
  have hi1 := runSame_does rv rv' r.runs (by omega) h hr hr'
  obtain ⟨ra, rcp, rfl⟩ := hr.form
  obtain ⟨ra', rcp', rfl⟩ := hr'.form
  obtain ⟨la, lcp, rfl⟩ := hl.form
  obtain ⟨la', lcp', rfl⟩ := hl'.form
  refine Does.of Tryz.func22 rfl Tryz.ntmps22 rfl fun c hc0 => ?_
  refine goK _ ?_
  refine Ops.eff rfl rfl rfl (Eff.box rfl) fun _ => Ops.ex fun b2 => Ops.pure ?_
  rintro rfl
  refine goK _ ?_
  refine Ops.eff rfl rfl rfl (Eff.box rfl) fun _ => Ops.ex fun b3 => Ops.pure ?_
  rintro rfl
  repeat (first | refine Ops.val rfl rfl rfl (V.neqT3 rfl rfl) ?_ | refine Ops.val rfl rfl rfl (V.neqT9 rfl rfl) ?_ | (refine Ops.eff rfl rfl rfl (Eff.callP 0 (fn (by kernel_rfl)) rfl (Ωc := []) rfl hi1) fun _ => Ops.pure ?_; rintro rfl) | refine goS _ ?_)
  refine At.loop1 (fun (i : Nat) => [(2, .pointer (some ⟨b2, 0, none⟩)), (3, .pointer (some ⟨b3, 0, none⟩)), (5, .int .i64 (i : Int))])
    (fun (i : Nat) w => i ≤ r.log.length ∧ Mem c [cells b3 [.int .i64 r.kind, .int .i64 r.num, str r.text, .slice ra' r.runs.length rcp', .slice la' r.log.length lcp'] 34, cells b2 [.int .i64 r.kind, .int .i64 r.num, str r.text, .slice ra r.runs.length rcp, .slice la r.log.length lcp] 34] h w) (fun (i : Nat) => r.log.length - i)
    0 ⟨rfl, rfl, rfl, trivial⟩ (fun w hw => ⟨Nat.zero_le _, hw⟩) (fun i => At.pure (fun hi => ?_))
  refine goK _ ?_
  refine At.condP rfl (fun h2 => ?_) (fun h2 => ?_)
  · have hlt : i < r.log.length := by omega
    have hzi : r.log[i]? = some r.log[i] := by simp [hlt]
    obtain ⟨g, o, rfl, _, _, hc⟩ := RowH.elem zc_length hl hzi
    obtain ⟨g', o', rfl, _, _, hc'⟩ := RowH.elem zc_length hl' hzi
    generalize r.log[i] = k at *
    refine goK _ ?_
    first | refine At.drawn mo (fun _ _ m => m.drew _) ?_ | refine At.seq (At.drawn mo (fun _ _ m => m.drew _) ?_)
    refine Dr.val 0 rfl rfl rfl rfl (by kernel_rfl) rfl (V.fieldAddr rfl rfl) ?_
    refine Dr.valS 1 _ rfl rfl rfl rfl (by kernel_rfl) rfl (V.load rfl rfl (fun _ hh => hh)) (fun w hw => hw.cell (n := 1) rfl rfl) ?_
    refine Dr.val 2 rfl rfl rfl rfl (by kernel_rfl) rfl (Val.move rfl) ?_
    refine Dr.val 3 rfl rfl rfl rfl (by kernel_rfl) rfl (V.indexAddr rfl rfl rfl rfl hlt) ?_
    refine Dr.valS 4 _ rfl rfl rfl rfl (by kernel_rfl) rfl (V.load rfl rfl (fun _ hh => hh)) (fun w hw => hw.cellH (hc 0 (.int .i64 k) rfl)) ?_
    refine Dr.val 5 rfl rfl rfl rfl (by kernel_rfl) rfl (V.fieldAddr rfl rfl) ?_
    refine Dr.valS 6 _ rfl rfl rfl rfl (by kernel_rfl) rfl (V.load rfl rfl (fun _ hh => hh)) (fun w hw => hw.cell (n := 0) rfl rfl) ?_
    refine Dr.val 7 rfl rfl rfl rfl (by kernel_rfl) rfl (Val.move rfl) ?_
    refine Dr.val 8 rfl rfl rfl rfl (by kernel_rfl) rfl (V.indexAddr rfl rfl rfl rfl hlt) ?_
    refine Dr.valS 9 _ rfl rfl rfl rfl (by kernel_rfl) rfl (V.load rfl rfl (fun _ hh => hh)) (fun w hw => hw.cellH (hc' 0 (.int .i64 k) rfl)) ?_
    refine Dr.val 10 rfl rfl rfl rfl (by kernel_rfl) rfl (V.neqT3 rfl rfl) ?_
    refine Dr.done (by kernel_rfl) (by kernel_rfl) ?_
    refine goK _ ?_
    refine At.back (i + 1) (by show r.log.length - (i + 1) < r.log.length - i; omega) (by exact ⟨rfl, rfl, rfl, trivial⟩) (fun w hw => ⟨hlt, hw⟩)
  refine goK _ ?_
  exact At.ret1 Tryz.results22 (Res.tmp rfl) (List.nil_sublist _) ⟨rfl, rfl, hc0.symm ▸ rfl⟩
end Go.Proofs.YthjgbmbaabpgmaaGreat
/-
  The law on reading and what was refused.
-/
namespace Go.Proofs.YthjgbmbaabpgmaaGreat
open Go.Sy
set_option maxRecDepth 4000
set_option maxHeartbeats 4000000
namespace Ox
theorem EdR.zero {s s' : St} {x : Ms} {e : Int} (h : EdR s x e s') (he : e ≠ 0) : s' = .zero := by
  cases h <;> first | rfl | exact absurd rfl he
theorem DoR.zero {s s' : St} {q : Rq} {r : Rp} {e : Int} (h : DoR s q e s' r) (he : e ≠ 0) : s' = .zero ∧ r = .zero := by
  cases h <;> first | exact ⟨rfl, rfl⟩ | exact absurd rfl he
theorem DoR.reads {s s' : St} {q : Rq} {r : Rp} (h : DoR s q 0 s' r) (hk : 8 ≤ q.kind) : s' = s := by
  have key : ∀ k e s' r, HdR s q k e s' r → e = 0 → 8 ≤ k → s' = s := by
    intro k e s' r hr he hk
    cases hr <;> first | rfl | exact absurd hk (by decide)
  generalize he : (0 : Int) = e at h
  cases h with
  | arg _ => cases he
  | name _ _ => cases he
  | none _ _ _ _ _ => cases he
  | bad _ _ _ h1 => exact absurd he.symm h1
  | done _ _ h1 => exact key _ _ _ _ h1 rfl hk
end Ox
theorem small_zero : Small Ox.St.zero := ⟨by simp [Ox.St.zero], by simp [Ox.St.zero], by simp [Ox.St.zero], by simp [Ox.St.zero], by simp [Ox.St.zero]⟩
attribute [local irreducible] At Ops Val Eff Does Res Dr

theorem StateReads_does (v : Value) (l : List StpV) (h : HV) (hv : RowH stc 13 h v l) (hok : ∀ p ∈ l, StpOk h p) (p : StpV) (hp : StpOk h p) : Does Tryz.prog 5 #[v, .agg (stc p).toArray] [] h (fun r Ω' h' => r = .bool true ∧ Ω' = [] ∧ HV.le h h') := by
  obtain ⟨qa, qcp, eq⟩ := hp.q.d.form
  obtain ⟨ma, mcp, em⟩ := hp.x.d.form
  obtain ⟨a, cp, rfl⟩ := hv.form
  have htl : (l.take 40).length ≤ 40 := by rw [List.length_take]; omega
  refine Does.of Tryz.func5 rfl Tryz.ntmps5 rfl fun c hc0 => ?_
  refine goK _ ?_
  refine Ops.eff rfl rfl rfl (Eff.box rfl) fun _ => Ops.ex fun b3 => Ops.pure ?_
  rintro rfl
  refine goK _ ?_
  refine Ops.eff rfl rfl rfl (Eff.call (fn (by kernel_rfl)) rfl (Ωc := []) rfl (few_does _ l 40 (by omega) h hv)) fun _ => Ops.ex fun _ => Ops.ex fun _ => Ops.pure ?_
  rintro ⟨hv', rfl, rfl⟩
  rename_i fv
  refine Ops.eff rfl rfl rfl (Eff.call (fn (by kernel_rfl)) rfl (Ωc := []) rfl (run_does fv (l.take 40) (by omega) _ hv' (fun p hp => hok p (List.mem_of_mem_take hp)))) fun _ => Ops.ex fun _ => Ops.ex fun _ => Ops.pure ?_
  rintro ⟨rfl, hle1, s, sv, hrn, rfl, hsv⟩
  rename_i h1
  have hinv := hrn.inv
  generalize hN : (l.take 40).length = N at *
  obtain ⟨cs, rfl, hc5, hc1⟩ := hsv.cells
  refine Ops.val rfl rfl rfl (Val.move rfl) ?_
  refine Ops.val rfl rfl rfl (Val.extract rfl rfl) ?_
  refine Ops.val rfl rfl rfl (Val.extract rfl rfl) ?_
  refine Ops.eff rfl rfl rfl (E.alloc rfl) fun _ => Ops.ex fun b5 => Ops.pure ?_
  rintro rfl
  refine Ops.eff0 rfl rfl (E.store (b := b5) (o := 0) (m := 5) (U := 27) (v := .agg cs.toArray) (ag := true) 0 rfl rfl rfl rfl (by show cs.toArray.size = 5; simpa using hc5) rfl (by show cs.toArray.toList.all (·.oneCell') = true; simpa using hc1)) fun _ => ?_
  refine Ops.val rfl rfl rfl (Val.assign rfl) ?_
  refine Ops.nil ?_
  refine At.imp (S' := Mem c [cells b5 cs 27, cells b3 (stc p) 55] h1) ?_ (fun w hw => ?_)
  rotate_left
  · have hw' : Mem c [cells b5 (sets z27 0 cs) 27, cells b3 (stc p) 55] h1 w := hw
    rw [sets_all (by rw [hc5]; rfl)] at hw'; exact hw'
  repeat (first | refine At.seq ?_)
  refine At.region ?_
  refine Ops.val rfl rfl rfl (V.loadOA 0 rfl rfl rfl hc5) ?_
  refine Ops.eff rfl rfl rfl (Eff.call (fn (by kernel_rfl)) rfl (Ωc := []) rfl (Copied_does _ s h1 hsv hinv.small)) fun _ => Ops.ex fun _ => Ops.ex fun _ => Ops.pure ?_
  rintro ⟨rfl, hle2, hcv⟩
  rename_i bv h2
  obtain ⟨ds, rfl, hd5, hd1⟩ := hcv.cells
  refine Ops.eff rfl rfl rfl (E.alloc rfl) fun _ => Ops.ex fun b7 => Ops.pure ?_
  rintro rfl
  refine Ops.eff0 rfl rfl (E.store (b := b7) (o := 0) (m := 5) (U := 27) (v := .agg ds.toArray) (ag := true) 0 rfl rfl rfl rfl (by show ds.toArray.size = 5; simpa using hd5) rfl (by show ds.toArray.toList.all (·.oneCell') = true; simpa using hd1)) fun _ => ?_
  refine Ops.nil ?_
  refine At.imp (S' := Mem c [cells b7 ds 27, cells b5 cs 27, cells b3 (stc p) 55] h2) ?_ (fun w hw => ?_)
  rotate_left
  · have hw' : Mem c [cells b7 (sets z27 0 ds) 27, cells b5 cs 27, cells b3 (stc p) 55] h2 w := hw
    rw [sets_all (by rw [hd5]; rfl)] at hw'; exact hw'
  have hsame := stSame_does _ _ s h2 (hsv.mono hle2) hcv hinv.small
  refine goK _ ?_
  refine At.condP rfl (fun hk => ?_) (fun hk => ?_)
  · repeat (first | refine At.seq ?_)
    refine At.region ?_
    refine Ops.val rfl rfl rfl (V.loadOA 1 rfl rfl rfl hc5) ?_
    refine Ops.val rfl rfl rfl (V.fieldAddr rfl rfl) ?_
    refine Ops.val rfl rfl rfl (V.loadOP 2 (msc p.x p.xd) rfl rfl rfl rfl rfl) ?_
    refine Ops.eff rfl rfl rfl (Eff.call (fn (by kernel_rfl)) rfl (Ωc := []) rfl (Edit_does _ s h2 (hsv.mono hle2) N (by omega) hinv p.x _ p.xd (hp.x.mono (hle1.trans hle2)))) fun _ => Ops.ex fun _ => Ops.ex fun _ => Ops.pure ?_
    rintro ⟨hle3, rfl, e, s', tv, hR, rfl, htv⟩
    rename_i h3
    obtain ⟨es, rfl, he5, he1⟩ := htv.cells
    refine Ops.val rfl rfl rfl (Val.move rfl) ?_
    refine Ops.val rfl rfl rfl (Val.extract rfl rfl) ?_
    refine Ops.val rfl rfl rfl (Val.extract rfl rfl) ?_
    refine Ops.eff rfl rfl rfl (E.alloc rfl) fun _ => Ops.ex fun b8 => Ops.pure ?_
    rintro rfl
    refine Ops.eff0 rfl rfl (E.store (b := b8) (o := 0) (m := 5) (U := 27) (v := .agg es.toArray) (ag := true) 0 rfl rfl rfl rfl (by show es.toArray.size = 5; simpa using he5) rfl (by show es.toArray.toList.all (·.oneCell') = true; simpa using he1)) fun _ => ?_
    refine Ops.val rfl rfl rfl (Val.assign rfl) ?_
    refine Ops.nil ?_
    refine At.imp (S' := Mem c [cells b8 es 27, cells b7 ds 27, cells b5 cs 27, cells b3 (stc p) 55] h3) ?_ (fun w hw => ?_)
    rotate_left
    · have hw' : Mem c [cells b8 (sets z27 0 es) 27, cells b7 ds 27, cells b5 cs 27, cells b3 (stc p) 55] h3 w := hw
      rw [sets_all (by rw [he5]; rfl)] at hw'; exact hw'
    have hsame3 := stSame_does _ _ s h3 ((hsv.mono hle2).mono hle3) (hcv.mono hle3) hinv.small
    have hz : e ≠ 0 → Does Tryz.prog 21 #[.agg es.toArray, .agg z27.toArray] [] h3 (Just h3 (· = .bool true)) := fun he => by
      have := hR.zero he
      subst this
      exact stSame_does _ _ Ox.St.zero h3 htv (StH.zero h3) small_zero
    by_cases he : e = 0
    · subst he
      repeat (first | refine Ops.val rfl rfl rfl (V.loadOA 2 rfl rfl rfl hc5) ?_ | refine Ops.val rfl rfl rfl (V.loadOA 1 rfl rfl rfl hd5) ?_ | (refine Ops.eff rfl rfl rfl (Eff.callP 0 (fn (by kernel_rfl)) rfl (Ωc := []) rfl hsame3) fun _ => Ops.pure ?_; rintro rfl) | refine goS _ ?_)
      exact At.ret1 Tryz.results5 (Res.tmp rfl) (List.nil_sublist _) ⟨rfl, rfl, hc0.symm ▸ (hle1.trans hle2).trans hle3⟩
    · have hz' := hz he
      repeat (first | refine Ops.val rfl rfl rfl (V.loadOA 2 rfl rfl rfl hc5) ?_ | refine Ops.val rfl rfl rfl (V.loadOA 1 rfl rfl rfl hd5) ?_ | (refine Ops.eff rfl rfl rfl (Eff.callP 0 (fn (by kernel_rfl)) rfl (Ωc := []) rfl hsame3) fun _ => Ops.pure ?_; rintro rfl) | refine goS _ ?_)
      refine Ops.respell (t := 41) (v' := .bool false) rfl (by rw [decide_eq_false he]) ?_
      repeat (first | refine Ops.val rfl rfl rfl (V.loadOA 0 rfl rfl rfl he5) ?_ | (refine Ops.eff rfl rfl rfl (Eff.callP 0 (fn (by kernel_rfl)) rfl (Ωc := []) rfl hz') fun _ => Ops.pure ?_; rintro rfl) | refine goS _ ?_)
      exact At.ret1 Tryz.results5 (Res.tmp rfl) (List.nil_sublist _) ⟨rfl, rfl, hc0.symm ▸ (hle1.trans hle2).trans hle3⟩
  · repeat (first | refine At.skip ?_ | refine At.seq ?_)
    refine At.region ?_
    refine Ops.val rfl rfl rfl (V.loadOA 1 rfl rfl rfl hc5) ?_
    refine Ops.val rfl rfl rfl (V.fieldAddr rfl rfl) ?_
    refine Ops.val rfl rfl rfl (V.loadOP 2 (rqc p.q p.qd) rfl rfl rfl rfl rfl) ?_
    refine Ops.eff rfl rfl rfl (Eff.call (fn (by kernel_rfl)) rfl (Ωc := []) rfl (Do_does _ s h2 (hsv.mono hle2) N (by omega) hinv p.q _ p.qd (hp.q.mono (hle1.trans hle2)))) fun _ => Ops.ex fun _ => Ops.ex fun _ => Ops.pure ?_
    rintro ⟨hle3, rfl, e, s', rp, tv, rv, hR, rfl, htv, hrv⟩
    rename_i h3
    obtain ⟨es, rfl, he5, he1⟩ := htv.cells
    obtain ⟨rs, rfl, hr5, hr1⟩ := hrv.cells
    refine Ops.val rfl rfl rfl (Val.move rfl) ?_
    refine Ops.val rfl rfl rfl (Val.extract rfl rfl) ?_
    refine Ops.val rfl rfl rfl (Val.extract rfl rfl) ?_
    refine Ops.val rfl rfl rfl (Val.extract rfl rfl) ?_
    refine Ops.eff rfl rfl rfl (E.alloc rfl) fun _ => Ops.ex fun b10 => Ops.pure ?_
    rintro rfl
    refine Ops.eff rfl rfl rfl (E.alloc rfl) fun _ => Ops.ex fun b11 => Ops.pure ?_
    rintro rfl
    refine Ops.eff0 rfl rfl (E.store (b := b10) (o := 0) (m := 5) (U := 27) (v := .agg es.toArray) (ag := true) 1 rfl rfl rfl rfl (by show es.toArray.size = 5; simpa using he5) rfl (by show es.toArray.toList.all (·.oneCell') = true; simpa using he1)) fun _ => ?_
    refine Ops.eff0 rfl rfl (E.store (b := b11) (o := 0) (m := 5) (U := 34) (v := .agg rs.toArray) (ag := true) 0 rfl rfl rfl rfl (by show rs.toArray.size = 5; simpa using hr5) rfl (by show rs.toArray.toList.all (·.oneCell') = true; simpa using hr1)) fun _ => ?_
    refine Ops.val rfl rfl rfl (Val.assign rfl) ?_
    refine Ops.nil ?_
    refine At.imp (S' := Mem c [cells b11 rs 34, cells b10 es 27, cells b7 ds 27, cells b5 cs 27, cells b3 (stc p) 55] h3) ?_ (fun w hw => ?_)
    rotate_left
    · have hw' : Mem c [cells b11 (sets z34 0 rs) 34, cells b10 (sets z27 0 es) 27, cells b7 ds 27, cells b5 cs 27, cells b3 (stc p) 55] h3 w := hw
      rw [sets_all (by rw [hr5]; rfl), sets_all (by rw [he5]; rfl)] at hw'; exact hw'
    have hsame3 := stSame_does _ _ s h3 ((hsv.mono hle2).mono hle3) (hcv.mono hle3) hinv.small
    have hz : e ≠ 0 → Does Tryz.prog 21 #[.agg es.toArray, .agg z27.toArray] [] h3 (Just h3 (· = .bool true)) ∧ Does Tryz.prog 22 #[.agg rs.toArray, .agg z34.toArray] [] h3 (Just h3 (· = .bool true)) := fun he => by
      obtain ⟨e1, e2⟩ := hR.zero he
      subst e1; subst e2
      exact ⟨stSame_does _ _ Ox.St.zero h3 htv (StH.zero h3) small_zero, rpSame_does _ _ Ox.Rp.zero h3 hrv (RpH.plain _ _ _ _) (by simp [Ox.Rp.zero]) (by simp [Ox.Rp.zero])⟩
    repeat (first | refine Ops.val rfl rfl rfl (V.loadOA 3 rfl rfl rfl hc5) ?_ | refine Ops.val rfl rfl rfl (V.loadOA 2 rfl rfl rfl hd5) ?_ | (refine Ops.eff rfl rfl rfl (Eff.callP 0 (fn (by kernel_rfl)) rfl (Ωc := []) rfl hsame3) fun _ => Ops.pure ?_; rintro rfl) | refine goS _ ?_)
    refine At.condN rfl (fun he => ?_) (fun he => ?_)
    · obtain ⟨hz1, hz2⟩ := hz he
      repeat (first | refine Ops.val rfl rfl rfl (V.loadOA 1 rfl rfl rfl he5) ?_ | refine Ops.val rfl rfl rfl (V.loadOA 0 rfl rfl rfl hr5) ?_ | (refine Ops.eff rfl rfl rfl (Eff.callP 0 (fn (by kernel_rfl)) rfl (Ωc := []) rfl hz1) fun _ => Ops.pure ?_; rintro rfl) | (refine Ops.eff rfl rfl rfl (Eff.callP 0 (fn (by kernel_rfl)) rfl (Ωc := []) rfl hz2) fun _ => Ops.pure ?_; rintro rfl) | refine goS _ ?_)
      exact At.ret1 Tryz.results5 (Res.tmp rfl) (List.nil_sublist _) ⟨rfl, rfl, hc0.symm ▸ (hle1.trans hle2).trans hle3⟩
    · subst he
      by_cases h8 : p.q.kind < 8
      · refine goK _ ?_
        refine Ops.respell (t := 77) (v' := .bool true) rfl (by rw [decide_eq_true h8]) ?_
        refine goK _ ?_
        exact At.ret1 Tryz.results5 (Res.tmp rfl) (List.nil_sublist _) ⟨rfl, rfl, hc0.symm ▸ (hle1.trans hle2).trans hle3⟩
      · have hss := hR.reads (by omega)
        subst hss
        have hsame4 := stSame_does _ _ _ h3 htv (hcv.mono hle3) hinv.small
        refine goK _ ?_
        refine Ops.respell (t := 77) (v' := .bool false) rfl (by rw [decide_eq_false h8]) ?_
        repeat (first | refine Ops.val rfl rfl rfl (V.loadOA 1 rfl rfl rfl he5) ?_ | refine Ops.val rfl rfl rfl (V.loadOA 2 rfl rfl rfl hd5) ?_ | (refine Ops.eff rfl rfl rfl (Eff.callP 0 (fn (by kernel_rfl)) rfl (Ωc := []) rfl hsame4) fun _ => Ops.pure ?_; rintro rfl) | refine goS _ ?_)
        exact At.ret1 Tryz.results5 (Res.tmp rfl) (List.nil_sublist _) ⟨rfl, rfl, hc0.symm ▸ (hle1.trans hle2).trans hle3⟩
end Go.Proofs.YthjgbmbaabpgmaaGreat
