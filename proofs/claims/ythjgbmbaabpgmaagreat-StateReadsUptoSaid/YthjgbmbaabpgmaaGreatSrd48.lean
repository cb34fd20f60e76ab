/-
  The law's copy of a state.
-/
import Derived.Test.YthjgbmbaabpgmaaGreatSrd05
import Derived.Test.YthjgbmbaabpgmaaGreatSrd38
set_option linter.unusedVariables false
set_option linter.unusedSimpArgs false
set_option linter.unusedSectionVars false
namespace Go.Proofs.YthjgbmbaabpgmaaGreat
open Go.Sy
set_option maxRecDepth 4000
set_option maxHeartbeats 4000000
/-- where the copy stands -/
structure C2S where
  i : Nat
  u : Value
  us : List CmV
  h : HV
structure B2S where
  i : Nat
  u : Value
  us : List BrV
  h : HV
attribute [local irreducible] At Ops Val Eff Does Res Dr

theorem Copied_does (v : Value) (s : Ox.St) (h : HV) (hv : StH h v s) (hs : Small s) : Does Tryz.prog 19 #[v] [] h (fun r Ω' h' => Ω' = [] ∧ HV.le h h' ∧ StH h' r s) := by
  obtain ⟨zs, ys, csv, bsv, ksv, hx⟩ := hv
  obtain rfl := hx.val
  obtain ⟨ca, ccp, rfl⟩ := hx.crow.form
  obtain ⟨ba, bcp, rfl⟩ := hx.brow.form
  obtain ⟨ka, kcp, rfl⟩ := hx.krow.form
  have hzl : zs.length ≤ 1000000 := by have := hs.cs; rw [← hx.cs, List.length_map] at this; exact this
  have hyl : ys.length ≤ 1000000 := by have := hs.bs; rw [← hx.bs, List.length_map] at this; exact this
  have hkl := hs.ks
  have hze : ∀ z ∈ zs, z.c.ps.length ≤ 1000000 ∧ z.c.d.length ≤ 1000000 ∧ z.c.o.length ≤ 1000000 := fun z hz => hs.each z.c (by rw [← hx.cs]; exact List.mem_map_of_mem hz)
  have hyg : ∀ y ∈ ys, y.b.log.length ≤ 1000000 := fun y hy => hs.logs y.b (by rw [← hx.bs]; exact List.mem_map_of_mem hy)
  refine Does.of Tryz.func19 rfl Tryz.ntmps19 rfl fun c hc0 => ?_
  refine goK _ ?_
  refine Ops.eff rfl rfl rfl (Eff.box rfl) fun _ => Ops.ex fun b1 => Ops.pure ?_
  rintro rfl
  refine goK _ ?_
  refine Ops.eff rfl rfl rfl (E.alloc rfl) fun _ => Ops.ex fun b2 => Ops.pure ?_
  rintro rfl
  refine goK _ ?_
  refine Ops.eff rfl rfl rfl (E.alloc rfl) fun _ => Ops.ex fun b3 => Ops.pure ?_
  rintro rfl
  refine goK _ ?_
  refine Ops.eff0 rfl rfl (E.store 0 rfl rfl rfl rfl rfl rfl rfl) fun _ => ?_
  refine goK _ ?_
  refine At.row_nil 47 6 ?_
  refine At.loop (X := C2S) (fun X => [(1, .pointer (some ⟨b1, 0, none⟩)), (2, .pointer (some ⟨b2, 0, none⟩)), (3, .pointer (some ⟨b3, 0, none⟩)), (4, .int .i64 (X.i : Int))])
    (fun X w => (X.i ≤ zs.length ∧ HV.le h X.h ∧ X.us.length = X.i ∧ X.us.map CmV.c = (zs.take X.i).map CmV.c ∧ (∀ z ∈ X.us, CmOk X.h z) ∧ (∃ a cp, X.u = .slice a X.i cp)) ∧ Mem c [row 47 6 X.u X.i (X.us.flatMap cmc), cells b3 [.int .i64 s.nc, .int .i64 s.nb, X.u, .slice none 0 0, .slice none 0 0] 27, cells b2 [.int .i64 0, .int .i64 0, .slice none 0 0, .slice none 0 0, .slice none 0 0] 27, cells b1 [.int .i64 s.nc, .int .i64 s.nb, .slice ca zs.length ccp, .slice ba ys.length bcp, .slice ka s.ks.length kcp] 27] X.h w)
    (fun X => zs.length - X.i) ⟨0, .slice none 0 0, [], h⟩ ⟨rfl, rfl, rfl, rfl, trivial⟩ (fun w hw => ⟨⟨Nat.zero_le _, HV.le.refl _, rfl, rfl, by simp, ⟨_, _, rfl⟩⟩, hw⟩) (fun X => At.pure (fun hq => ?_))
  obtain ⟨i, u, us, h1⟩ := X
  simp only at hq ⊢
  obtain ⟨hi, hle1, hul, hum, huo, ⟨ua, ucp, rfl⟩⟩ := hq
  refine goK _ ?_
  refine At.condP rfl (fun h2 => ?_) (fun h2 => ?_)
  · have hlt : i < zs.length := by omega
    have hzi : zs[i]? = some zs[i] := by simp [hlt]
    have hts : zs.take (i + 1) = zs.take i ++ [zs[i]] := by rw [List.take_succ_eq_append_getElem hlt]
    have ho := (hx.cok zs[i] (List.mem_of_getElem? hzi)).mono hle1
    have hzq := hze zs[i] (List.mem_of_getElem? hzi)
    obtain ⟨g, o, rfl, _, _, hc⟩ := RowH.elem cmc_length hx.crow hzi
    generalize zs[i] = z at *
    have h1z := ho.one
    obtain ⟨zc0, pv, dv, ov⟩ := z
    simp only at hzq
    have hch : ∀ j u, (cmc ⟨zc0, pv, dv, ov⟩)[j]? = some u → cellH h1 g (o + i * 6 + j) = some u := fun j u hu => hle1.cell (hc j u hu)
    refine goK _ ?_
    refine Ops.val rfl rfl rfl (V.loadHA (cs := cmc ⟨zc0, pv, dv, ov⟩) rfl rfl rfl hch) ?_
    refine Ops.eff rfl rfl rfl (E.alloc rfl) fun _ => Ops.ex fun b5 => Ops.pure ?_
    rintro rfl
    refine Ops.eff0 rfl rfl (E.store 0 rfl rfl rfl rfl rfl rfl h1z) fun _ => ?_
    refine goK _ ?_
    refine Ops.eff0 rfl rfl (E.store 0 rfl rfl rfl rfl rfl rfl rfl) fun _ => ?_
    refine goK _ ?_
    refine Ops.eff0 rfl rfl (E.store 0 rfl rfl rfl rfl rfl rfl rfl) fun _ => ?_
    refine goK _ ?_
    refine Ops.eff0 rfl rfl (E.store 0 rfl rfl rfl rfl rfl rfl rfl) fun _ => ?_
    refine Ops.nil ?_
    refine At.imp (S' := Mem c [cells b5 [.int .i64 zc0.num, .slice none 0 0, .slice none 0 0, .slice none 0 0, .int .i64 zc0.cl, .int .i64 zc0.sq] 47, row 47 6 (.slice ua i ucp) i (us.flatMap cmc), cells b3 [.int .i64 s.nc, .int .i64 s.nb, .slice ua i ucp, .slice none 0 0, .slice none 0 0] 27, cells b2 [.int .i64 0, .int .i64 0, .slice none 0 0, .slice none 0 0, .slice none 0 0] 27, cells b1 [.int .i64 s.nc, .int .i64 s.nb, .slice (some ⟨g, o, none⟩) zs.length ccp, .slice ba ys.length bcp, .slice ka s.ks.length kcp] 27] h1) ?_ (fun w hw => hw)
    have hpl := ho.ps; have hdl := ho.d; have hol := ho.o
    simp only at hpl hdl hol
    refine At.row_nil 3 1 ?_
    refine goK _ ?_
    first | refine At.drawn mo (fun _ _ m => m.drew _) ?_ | refine At.seq (At.drawn mo (fun _ _ m => m.drew _) ?_)
    refine Dr.val 0 rfl rfl rfl rfl (by kernel_rfl) rfl (V.fieldAddr rfl rfl) ?_
    refine Dr.valS 1 _ rfl rfl rfl rfl (by kernel_rfl) rfl (V.load rfl rfl (fun _ hh => hh)) (fun w hw => hw.cell (n := 1) rfl rfl) ?_
    refine Dr.val 2 rfl rfl rfl rfl (by kernel_rfl) rfl (V.fieldAddr rfl rfl) ?_
    refine Dr.valS 3 _ rfl rfl rfl rfl (by kernel_rfl) rfl (V.load rfl rfl (fun _ hh => hh)) (fun w hw => hw.cell (n := 5) rfl rfl) ?_
    refine Dr.val 4 rfl rfl rfl rfl (by kernel_rfl) rfl (Val.move rfl) ?_
    refine Dr.val 5 rfl rfl rfl rfl (by kernel_rfl) rfl (V.indexAddr rfl rfl rfl rfl hlt) ?_
    refine Dr.val 6 rfl rfl rfl rfl (by kernel_rfl) rfl (V.fieldAddr rfl rfl) ?_
    refine Dr.valS 7 _ rfl rfl rfl rfl (by kernel_rfl) rfl (V.load rfl rfl (fun _ hh => hh)) (fun w hw => hw.cellH (hch 1 pv rfl)) ?_
    refine Dr.next (e := 8) rfl rfl (by kernel_rfl) rfl (by kernel_rfl) (by kernel_rfl) rfl rfl (Eff.appendSlF (j := 0) (ap rfl) rfl rfl hpl rfl (flat_one (fun _ => rfl) _) (by omega) (by omega)) aokK fun _ => ?_
    refine Dr.ex fun pa => Dr.ex fun pcp => Dr.pure ?_
    rintro rfl
    refine Dr.val 9 rfl rfl rfl rfl (by kernel_rfl) rfl (V.fieldAddr rfl rfl) ?_
    refine Dr.next0 (e := 10) rfl rfl (by kernel_rfl) rfl (by kernel_rfl) (by kernel_rfl) rfl (E.store 1 rfl rfl rfl rfl rfl rfl rfl) aokK fun _ => ?_
    refine Dr.done (by kernel_rfl) (by kernel_rfl) ?_
    refine At.publish_row 0 rfl fun h2' hle2 hs2 => ?_
    have hch2 : ∀ j u, (cmc ⟨zc0, pv, dv, ov⟩)[j]? = some u → cellH h2' g (o + i * 6 + j) = some u := fun j u hu => hle2.cell (hch j u hu)
    refine At.row_nil 112 3 ?_
    refine goK _ ?_
    first | refine At.drawn mo (fun _ _ m => m.drew _) ?_ | refine At.seq (At.drawn mo (fun _ _ m => m.drew _) ?_)
    refine Dr.val 0 rfl rfl rfl rfl (by kernel_rfl) rfl (V.fieldAddr rfl rfl) ?_
    refine Dr.valS 1 _ rfl rfl rfl rfl (by kernel_rfl) rfl (V.load rfl rfl (fun _ hh => hh)) (fun w hw => hw.cell (n := 1) rfl rfl) ?_
    refine Dr.val 2 rfl rfl rfl rfl (by kernel_rfl) rfl (V.fieldAddr rfl rfl) ?_
    refine Dr.valS 3 _ rfl rfl rfl rfl (by kernel_rfl) rfl (V.load rfl rfl (fun _ hh => hh)) (fun w hw => hw.cell (n := 5) rfl rfl) ?_
    refine Dr.val 4 rfl rfl rfl rfl (by kernel_rfl) rfl (Val.move rfl) ?_
    refine Dr.val 5 rfl rfl rfl rfl (by kernel_rfl) rfl (V.indexAddr rfl rfl rfl rfl hlt) ?_
    refine Dr.val 6 rfl rfl rfl rfl (by kernel_rfl) rfl (V.fieldAddr rfl rfl) ?_
    refine Dr.valS 7 _ rfl rfl rfl rfl (by kernel_rfl) rfl (V.load rfl rfl (fun _ hh => hh)) (fun w hw => hw.cellH (hch2 2 dv rfl)) ?_
    refine Dr.next (e := 8) rfl rfl (by kernel_rfl) rfl (by kernel_rfl) (by kernel_rfl) rfl rfl (Eff.appendSlF (j := 0) (ap rfl) rfl rfl (hdl.mono hle2) rfl (flat_one (fun _ => rfl) _) (by omega) (by omega)) aokK fun _ => ?_
    refine Dr.ex fun qa => Dr.ex fun qcp => Dr.pure ?_
    rintro rfl
    refine Dr.val 9 rfl rfl rfl rfl (by kernel_rfl) rfl (V.fieldAddr rfl rfl) ?_
    refine Dr.next0 (e := 10) rfl rfl (by kernel_rfl) rfl (by kernel_rfl) (by kernel_rfl) rfl (E.store 1 rfl rfl rfl rfl rfl rfl rfl) aokK fun _ => ?_
    refine Dr.done (by kernel_rfl) (by kernel_rfl) ?_
    refine At.publish_row 0 rfl fun h3' hle3 hs3 => ?_
    have hch3 : ∀ j u, (cmc ⟨zc0, pv, dv, ov⟩)[j]? = some u → cellH h3' g (o + i * 6 + j) = some u := fun j u hu => hle3.cell (hch2 j u hu)
    refine At.row_nil 112 3 ?_
    refine goK _ ?_
    first | refine At.drawn mo (fun _ _ m => m.drew _) ?_ | refine At.seq (At.drawn mo (fun _ _ m => m.drew _) ?_)
    refine Dr.val 0 rfl rfl rfl rfl (by kernel_rfl) rfl (V.fieldAddr rfl rfl) ?_
    refine Dr.valS 1 _ rfl rfl rfl rfl (by kernel_rfl) rfl (V.load rfl rfl (fun _ hh => hh)) (fun w hw => hw.cell (n := 1) rfl rfl) ?_
    refine Dr.val 2 rfl rfl rfl rfl (by kernel_rfl) rfl (V.fieldAddr rfl rfl) ?_
    refine Dr.valS 3 _ rfl rfl rfl rfl (by kernel_rfl) rfl (V.load rfl rfl (fun _ hh => hh)) (fun w hw => hw.cell (n := 5) rfl rfl) ?_
    refine Dr.val 4 rfl rfl rfl rfl (by kernel_rfl) rfl (Val.move rfl) ?_
    refine Dr.val 5 rfl rfl rfl rfl (by kernel_rfl) rfl (V.indexAddr rfl rfl rfl rfl hlt) ?_
    refine Dr.val 6 rfl rfl rfl rfl (by kernel_rfl) rfl (V.fieldAddr rfl rfl) ?_
    refine Dr.valS 7 _ rfl rfl rfl rfl (by kernel_rfl) rfl (V.load rfl rfl (fun _ hh => hh)) (fun w hw => hw.cellH (hch3 3 ov rfl)) ?_
    refine Dr.next (e := 8) rfl rfl (by kernel_rfl) rfl (by kernel_rfl) (by kernel_rfl) rfl rfl (Eff.appendSlF (j := 0) (ap rfl) rfl rfl ((hol.mono hle2).mono hle3) rfl (flat_one (fun _ => rfl) _) (by omega) (by omega)) aokK fun _ => ?_
    refine Dr.ex fun ra => Dr.ex fun rcp => Dr.pure ?_
    rintro rfl
    refine Dr.val 9 rfl rfl rfl rfl (by kernel_rfl) rfl (V.fieldAddr rfl rfl) ?_
    refine Dr.next0 (e := 10) rfl rfl (by kernel_rfl) rfl (by kernel_rfl) (by kernel_rfl) rfl (E.store 1 rfl rfl rfl rfl rfl rfl rfl) aokK fun _ => ?_
    refine Dr.done (by kernel_rfl) (by kernel_rfl) ?_
    refine At.publish_row 0 rfl fun h4' hle4 hs4 => ?_
    refine At.imp (S' := Mem c [cells b5 (cmc ⟨zc0, .slice pa (0 + zc0.ps.length) pcp, .slice qa (0 + zc0.d.length) qcp, .slice ra (0 + zc0.o.length) rcp⟩) 47, row 47 6 (.slice ua i ucp) i (us.flatMap cmc), cells b3 [.int .i64 s.nc, .int .i64 s.nb, .slice ua i ucp, .slice none 0 0, .slice none 0 0] 27, cells b2 [.int .i64 0, .int .i64 0, .slice none 0 0, .slice none 0 0, .slice none 0 0] 27, cells b1 [.int .i64 s.nc, .int .i64 s.nb, .slice (some ⟨g, o, none⟩) zs.length ccp, .slice ba ys.length bcp, .slice ka s.ks.length kcp] 27] h4') ?_ (fun w hw => hw)
    have hzn : CmOk h4' ⟨zc0, .slice pa (0 + zc0.ps.length) pcp, .slice qa (0 + zc0.d.length) qcp, .slice ra (0 + zc0.o.length) rcp⟩ := by
      refine ⟨?_, ?_, ?_⟩
      · have := (hs2.mono hle3).mono hle4
        simp only [Nat.zero_add, List.nil_append] at this ⊢
        exact this
      · have := hs3.mono hle4
        simp only [Nat.zero_add, List.nil_append] at this ⊢
        exact this
      · simp only [Nat.zero_add, List.nil_append] at hs4 ⊢
        exact hs4
    refine goK _ ?_
    refine Ops.eff rfl rfl rfl (E.buildSlice1 rfl rfl rfl rfl) fun _ => Ops.ex fun _ => Ops.pure ?_
    rintro rfl
    refine Ops.eff rfl rfl rfl (E.append1s 1 rfl rfl rfl rfl rfl rfl (by omega) (by omega)) fun _ => Ops.ex fun g2 => Ops.ex fun cp2 => Ops.pure ?_
    rintro rfl
    refine goK _ ?_
    refine Ops.eff0 rfl rfl (E.store 2 rfl rfl rfl rfl rfl rfl rfl) fun _ => ?_
    refine goK _ ?_
    refine At.back (σI := fun X : C2S => _) (⟨i + 1, .slice (some ⟨g2, 0, none⟩) (i + 1) cp2, us ++ [⟨zc0, .slice pa (0 + zc0.ps.length) pcp, .slice qa (0 + zc0.d.length) qcp, .slice ra (0 + zc0.o.length) rcp⟩], h4'⟩ : C2S) (by show zs.length - (i + 1) < zs.length - i; omega) (by exact ⟨rfl, rfl, rfl, rfl, trivial⟩)
      (fun w hw => ⟨⟨hlt, ((hle1.trans hle2).trans hle3).trans hle4, by show (us ++ [_]).length = i + 1; rw [List.length_append, hul]; rfl, by show (us ++ [_]).map CmV.c = (zs.take (i + 1)).map CmV.c; rw [hts, List.map_append, List.map_append, hum]; rfl, fun z hz => ?_, ⟨_, _, rfl⟩⟩, ?_⟩)
    · rcases List.mem_append.1 hz with h5 | h5
      · exact (((huo z h5).mono hle2).mono hle3).mono hle4
      · rw [List.mem_singleton] at h5; subst h5; exact hzn
    · show Mem c [row 47 6 (.slice (some ⟨g2, 0, none⟩) (i + 1) cp2) (i + 1) ((us ++ [_]).flatMap cmc), _, _, _] h4' w
      rw [List.flatMap_append]
      exact hw.sub (List.sublist_cons_self _ _)
  obtain rfl : i = zs.length := by omega
  rw [List.take_length] at hum
  refine goK _ ?_
  refine At.row_nil 71 3 ?_
  refine At.loop (X := B2S) (fun X => [(1, .pointer (some ⟨b1, 0, none⟩)), (2, .pointer (some ⟨b2, 0, none⟩)), (3, .pointer (some ⟨b3, 0, none⟩)), (6, .int .i64 (X.i : Int))])
    (fun X w => (X.i ≤ ys.length ∧ HV.le h1 X.h ∧ X.us.length = X.i ∧ X.us.map BrV.b = (ys.take X.i).map BrV.b ∧ (∀ y ∈ X.us, ZsH X.h y.lv y.b.log) ∧ (∃ a cp, X.u = .slice a X.i cp)) ∧ Mem c [row 71 3 X.u X.i (X.us.flatMap brc), row 47 6 (.slice ua zs.length ucp) zs.length (us.flatMap cmc), cells b3 [.int .i64 s.nc, .int .i64 s.nb, .slice ua zs.length ucp, X.u, .slice none 0 0] 27, cells b2 [.int .i64 0, .int .i64 0, .slice none 0 0, .slice none 0 0, .slice none 0 0] 27, cells b1 [.int .i64 s.nc, .int .i64 s.nb, .slice ca zs.length ccp, .slice ba ys.length bcp, .slice ka s.ks.length kcp] 27] X.h w)
    (fun X => ys.length - X.i) ⟨0, .slice none 0 0, [], h1⟩ ⟨rfl, rfl, rfl, rfl, trivial⟩ (fun w hw => ⟨⟨Nat.zero_le _, HV.le.refl _, rfl, rfl, by simp, ⟨_, _, rfl⟩⟩, hw⟩) (fun X => At.pure (fun hq => ?_))
  obtain ⟨i, u, ws, h2⟩ := X
  simp only at hq ⊢
  obtain ⟨hi', hle2, hwl, hwm, hwo, ⟨wa, wcp, rfl⟩⟩ := hq
  refine goK _ ?_
  refine At.condP rfl (fun h3 => ?_) (fun h3 => ?_)
  · have hlt : i < ys.length := by omega
    have hzi : ys[i]? = some ys[i] := by simp [hlt]
    have hts : ys.take (i + 1) = ys.take i ++ [ys[i]] := by rw [List.take_succ_eq_append_getElem hlt]
    have ho := (hx.bok ys[i] (List.mem_of_getElem? hzi)).mono (hle1.trans hle2)
    have hzq := hyg ys[i] (List.mem_of_getElem? hzi)
    obtain ⟨g, o, rfl, _, _, hc⟩ := RowH.elem brc_length hx.brow hzi
    generalize ys[i] = y at *
    obtain ⟨yb, lv⟩ := y
    obtain ⟨la, lcp, e⟩ := ho.form
    simp only at hzq ho e
    subst e
    have hch : ∀ j u, (brc ⟨yb, .slice la yb.log.length lcp⟩)[j]? = some u → cellH h2 g (o + i * 3 + j) = some u := fun j u hu => (hle1.trans hle2).cell (hc j u hu)
    refine goK _ ?_
    refine Ops.val rfl rfl rfl (V.loadHA (cs := brc ⟨yb, .slice la yb.log.length lcp⟩) rfl rfl rfl hch) ?_
    refine Ops.eff rfl rfl rfl (E.alloc rfl) fun _ => Ops.ex fun b7 => Ops.pure ?_
    rintro rfl
    refine Ops.eff0 rfl rfl (E.store 0 rfl rfl rfl rfl rfl rfl rfl) fun _ => ?_
    refine goK _ ?_
    refine Ops.eff0 rfl rfl (E.store 0 rfl rfl rfl rfl rfl rfl rfl) fun _ => ?_
    refine Ops.nil ?_
    refine At.imp (S' := Mem c [cells b7 [.int .i64 yb.id, str yb.name, .slice none 0 0] 71, row 71 3 (.slice wa i wcp) i (ws.flatMap brc), row 47 6 (.slice ua zs.length ucp) zs.length (us.flatMap cmc), cells b3 [.int .i64 s.nc, .int .i64 s.nb, .slice ua zs.length ucp, .slice wa i wcp, .slice none 0 0] 27, cells b2 [.int .i64 0, .int .i64 0, .slice none 0 0, .slice none 0 0, .slice none 0 0] 27, cells b1 [.int .i64 s.nc, .int .i64 s.nb, .slice ca zs.length ccp, .slice (some ⟨g, o, none⟩) ys.length bcp, .slice ka s.ks.length kcp] 27] h2) ?_ (fun w hw => hw)
    refine At.row_nil 3 1 ?_
    refine goK _ ?_
    first | refine At.drawn mo (fun _ _ m => m.drew _) ?_ | refine At.seq (At.drawn mo (fun _ _ m => m.drew _) ?_)
    refine Dr.val 0 rfl rfl rfl rfl (by kernel_rfl) rfl (V.fieldAddr rfl rfl) ?_
    refine Dr.valS 1 _ rfl rfl rfl rfl (by kernel_rfl) rfl (V.load rfl rfl (fun _ hh => hh)) (fun w hw => hw.cell (n := 1) rfl rfl) ?_
    refine Dr.val 2 rfl rfl rfl rfl (by kernel_rfl) rfl (V.fieldAddr rfl rfl) ?_
    refine Dr.valS 3 _ rfl rfl rfl rfl (by kernel_rfl) rfl (V.load rfl rfl (fun _ hh => hh)) (fun w hw => hw.cell (n := 6) rfl rfl) ?_
    refine Dr.val 4 rfl rfl rfl rfl (by kernel_rfl) rfl (Val.move rfl) ?_
    refine Dr.val 5 rfl rfl rfl rfl (by kernel_rfl) rfl (V.indexAddr rfl rfl rfl rfl hlt) ?_
    refine Dr.val 6 rfl rfl rfl rfl (by kernel_rfl) rfl (V.fieldAddr rfl rfl) ?_
    refine Dr.valS 7 _ rfl rfl rfl rfl (by kernel_rfl) rfl (V.load rfl rfl (fun _ hh => hh)) (fun w hw => hw.cellH (hch 2 (.slice la yb.log.length lcp) rfl)) ?_
    refine Dr.next (e := 8) rfl rfl (by kernel_rfl) rfl (by kernel_rfl) (by kernel_rfl) rfl rfl (Eff.appendSlF (j := 0) (ap rfl) rfl rfl ho rfl (flat_one (fun _ => rfl) _) (by omega) (by omega)) (by repeat (first | exact AllOk.nil | refine AllOk.triv ?_ | refine AllOk.cons (by rintro _ _ ⟨_, _, _, hw⟩; first | exact hw.cell (n := 6) rfl rfl | exact hw.cell (n := 1) rfl rfl | exact hw.cellH (hch 2 (.slice la yb.log.length lcp) rfl)) ?_)) fun _ => ?_
    refine Dr.ex fun pa => Dr.ex fun pcp => Dr.pure ?_
    rintro rfl
    refine Dr.val 9 rfl rfl rfl rfl (by kernel_rfl) rfl (V.fieldAddr rfl rfl) ?_
    refine Dr.next0 (e := 10) rfl rfl (by kernel_rfl) rfl (by kernel_rfl) (by kernel_rfl) rfl (E.store 1 rfl rfl rfl rfl rfl rfl rfl) aokK fun _ => ?_
    refine Dr.done (by kernel_rfl) (by kernel_rfl) ?_
    refine At.publish_row 0 rfl fun h4' hle4 hs4 => ?_
    refine At.imp (S' := Mem c [cells b7 (brc ⟨yb, .slice pa (0 + yb.log.length) pcp⟩) 71, row 71 3 (.slice wa i wcp) i (ws.flatMap brc), row 47 6 (.slice ua zs.length ucp) zs.length (us.flatMap cmc), cells b3 [.int .i64 s.nc, .int .i64 s.nb, .slice ua zs.length ucp, .slice wa i wcp, .slice none 0 0] 27, cells b2 [.int .i64 0, .int .i64 0, .slice none 0 0, .slice none 0 0, .slice none 0 0] 27, cells b1 [.int .i64 s.nc, .int .i64 s.nb, .slice ca zs.length ccp, .slice (some ⟨g, o, none⟩) ys.length bcp, .slice ka s.ks.length kcp] 27] h4') ?_ (fun w hw => hw)
    have hzn : ZsH h4' (.slice pa (0 + yb.log.length) pcp) yb.log := by
      simp only [Nat.zero_add, List.nil_append] at hs4 ⊢
      exact hs4
    refine goK _ ?_
    refine Ops.eff rfl rfl rfl (E.buildSlice1 rfl rfl rfl rfl) fun _ => Ops.ex fun _ => Ops.pure ?_
    rintro rfl
    refine Ops.eff rfl rfl rfl (E.append1s 1 rfl rfl rfl rfl rfl rfl (by omega) (by omega)) fun _ => Ops.ex fun g2 => Ops.ex fun cp2 => Ops.pure ?_
    rintro rfl
    refine goK _ ?_
    refine Ops.eff0 rfl rfl (E.store 3 rfl rfl rfl rfl rfl rfl rfl) fun _ => ?_
    refine goK _ ?_
    refine At.back (σI := fun X : B2S => _) (⟨i + 1, .slice (some ⟨g2, 0, none⟩) (i + 1) cp2, ws ++ [⟨yb, .slice pa (0 + yb.log.length) pcp⟩], h4'⟩ : B2S) (by show ys.length - (i + 1) < ys.length - i; omega) (by exact ⟨rfl, rfl, rfl, rfl, trivial⟩)
      (fun w hw => ⟨⟨hlt, hle2.trans hle4, by show (ws ++ [_]).length = i + 1; rw [List.length_append, hwl]; rfl, by show (ws ++ [_]).map BrV.b = (ys.take (i + 1)).map BrV.b; rw [hts, List.map_append, List.map_append, hwm]; rfl, fun z hz => ?_, ⟨_, _, rfl⟩⟩, ?_⟩)
    · rcases List.mem_append.1 hz with h5 | h5
      · exact (hwo z h5).mono hle4
      · rw [List.mem_singleton] at h5; subst h5; exact hzn
    · show Mem c [row 71 3 (.slice (some ⟨g2, 0, none⟩) (i + 1) cp2) (i + 1) ((ws ++ [_]).flatMap brc), _, _, _, _] h4' w
      rw [List.flatMap_append]
      exact hw.sub (List.sublist_cons_self _ _)
  obtain rfl : i = ys.length := by omega
  rw [List.take_length] at hwm
  have hkr := hx.krow.mono (hle1.trans hle2)
  repeat (first | refine At.skip ?_ | refine At.blk ?_ | refine At.seq ?_ | refine At.exit rfl ?_)
  refine At.row_nil 127 3 ?_
  refine goK _ ?_
  refine Ops.eff rfl rfl rfl (Eff.appendSlF (j := 0) (ap rfl) rfl rfl hkr rfl (flat_one (fun _ => rfl) _) (by omega) (by omega)) fun _ => Ops.ex fun xa => Ops.ex fun xcp => Ops.pure ?_
  rintro rfl
  refine goK _ ?_
  refine Ops.eff0 rfl rfl (E.store 3 rfl rfl rfl rfl rfl rfl rfl) fun _ => ?_
  refine Ops.nil ?_
  refine At.publish_row 0 rfl fun h5 hle5 hs5 => ?_
  refine At.publish_row 0 rfl fun h6 hle6 hs6 => ?_
  refine At.publish_row 0 rfl fun h7 hle7 hs7 => ?_
  refine goK _ ?_
  refine Ops.eff0 rfl rfl (E.store 1 rfl rfl rfl rfl rfl rfl rfl) fun _ => ?_
  refine goK _ ?_
  have hsl : StH h7 (.agg #[.int .i64 s.nc, .int .i64 s.nb, .slice ua zs.length ucp, .slice wa ys.length wcp, .slice xa (0 + s.ks.length) xcp]) s := by
    refine ⟨us, ws, _, _, _, rfl, by rw [hum]; exact hx.cs, by rw [hwm]; exact hx.bs, ?_, fun z hz => ((((huo z hz).mono hle2).mono hle5).mono hle6).mono hle7, ?_, fun y hy => (((hwo y hy).mono hle5).mono hle6).mono hle7, ?_⟩
    · unfold RowH; rw [hul]; exact hs7
    · unfold RowH; rw [hwl]; exact hs6.mono hle7
    · have := (hs5.mono hle6).mono hle7
      simp only [Nat.zero_add, List.nil_append] at this ⊢
      exact this
  exact At.ret1 Tryz.results19 (Res.cellA (j := 1) (ly rfl) rfl rfl rfl) (List.nil_sublist _) ⟨rfl, hc0.symm ▸ (((hle1.trans hle2).trans hle5).trans hle6).trans hle7, hsl⟩
end Go.Proofs.YthjgbmbaabpgmaaGreat
