/-
  The documents of commits.
-/
import Derived.Test.YthjgbmbaabpgmaaGreatSrd05
import Derived.Test.YthjgbmbaabpgmaaGreatSrd33
set_option linter.unusedVariables false
set_option linter.unusedSimpArgs false
set_option linter.unusedSectionVars false
namespace Go.Proofs.YthjgbmbaabpgmaaGreat
open Go.Sy
set_option maxRecDepth 4000
set_option maxHeartbeats 4000000
/-- the documents that are known -/
def DocMap (h : HV) (M : List (Int × Value)) (D : Int → List Ox.Atom) : Prop := ∀ k v, mget M k = some v → AtsH h v (D k)
theorem DocMap.mono {h h' : HV} {M : List (Int × Value)} {D : Int → List Ox.Atom} (r : DocMap h M D) (le : HV.le h h') : DocMap h' M D := fun k v hk => (r k v hk).mono le
theorem DocMap.put {h : HV} {M : List (Int × Value)} {D : Int → List Ox.Atom} (r : DocMap h M D) {n : Int} {v : Value} (hv : AtsH h v (D n)) : DocMap h (mset M n v) D := fun k u hk => by
  rw [mget_mset] at hk
  split at hk
  · rename_i e; cases hk; subst e; exact hv
  · exact r k u hk
theorem key99 : KeyT Tryz.prog 3 key (fun _ => True) := key3
theorem V.lookup2 {σ : Slots} {c0 : Ctx} {Ω : List Itm} {h : HV} {ty T e : TypeId} {ps : String} {af : Array Edge} {g : Option (Nat × Bool)} {d : Option Nat} {x y : Operand} {kt : TypeId} {α : Type} [DecidableEq α] {κ : α → Value} {b : Nat} {a : α} {z : Value} {m : List (α × Value)} (n : Nat) (hk : KeyT Tryz.prog kt κ (fun _ => True)) (hT : look mpL T = some (kt, e)) (hz : look zsL e = some z) (hx : ev σ x = some (.map (some b))) (hy : ev σ y = some (κ a))
    (hn : Ω[n]? = some (mapI κ b m)) : Val Tryz.prog σ (Mem c0 Ω h) ⟨d, .lookup T x y true, ty, ps, af, g⟩ (.tuple #[(mget m a).getD z, .bool (mget m a).isSome]) := fun ρ w hρ hw =>
  Val.lookup2 (mp hT) hk (zval_run (zs hz)) hx hy trivial (fun _ _ => trivial) ρ w hρ (hw.blk hn)
attribute [local irreducible] At Ops Val Eff Does Res Dr

section
variable (R : List Itm) (m : Nat) (nc nb : Int) (csv bsv ksv : Value) (dm : Nat)
/-- a document that is known already -/
theorem docHit_does (M : List (Int × Value)) (n : Int) (v : Value) (hM : mget M n = some v) (h : HV) :
    Does Tryz.prog 46 #[.pointer (some ⟨m, 0, none⟩), .int .i64 n] (cells m (mcc nc nb csv bsv ksv dm) 101 :: mapI key dm M :: R) h (fun r Ω' h' => r = v ∧ Ω' = cells m (mcc nc nb csv bsv ksv dm) 101 :: mapI key dm M :: R ∧ h = h') := by
  unfold mcc
  refine Does.of Tryz.func46 rfl Tryz.ntmps46 rfl fun c hc0 => ?_
  refine goK _ ?_
  refine Ops.val rfl rfl rfl (V.lookup2 (κ := key) (a := n) (m := M) 1 key99 rfl rfl rfl rfl rfl) ?_
  refine Ops.respell (t := 22) (v' := .tuple #[v, .bool true]) rfl (by rw [hM]; rfl) ?_
  refine goK _ ?_
  exact At.ret1 Tryz.results46 (Res.tmp rfl) (List.Sublist.refl _) ⟨rfl, rfl, hc0.symm ▸ rfl⟩

variable (zs : List CmV) (D : Int → List Ox.Atom)
theorem made_does (M : List (Int × Value)) (z : CmV) (hz : z ∈ zs) (L : Value) (hC : Ox.CsOk (zs.map CmV.c) D) (h : HV) (hzo : CmOk h z) (hL : LinksH h L (links zs)) (hD : DocMap h M D)
    (hin : ∀ k, k ∈ z.c.ps → (mget M k).isSome = true) (hba : ∀ a b, z.c.ps = [a, b] → (mget M ((Ox.commL (links zs) a b).headD 0)).isSome = true) :
    Does Tryz.prog 94 #[.pointer (some ⟨m, 0, none⟩), L, .agg (cmc z).toArray] (cells m (mcc nc nb csv bsv ksv dm) 101 :: mapI key dm M :: R) h (fun r Ω' h' => HV.le h h' ∧ Ω' = cells m (mcc nc nb csv bsv ksv dm) 101 :: mapI key dm M :: R ∧ AtsH h' r (D z.c.num)) := by
  have hDn := hC.eq z.c (List.mem_map_of_mem hz)
  have hsh := hC.short z.c (List.mem_map_of_mem hz)
  have hlz : (⟨z.c.num, z.c.ps⟩ : Ox.Lnk) ∈ Ox.linksC (zs.map CmV.c) := List.mem_map.2 ⟨z.c, List.mem_map_of_mem hz, rfl⟩
  have hpp := (hC.dag.each _ hlz).2
  have hbn := hC.base z.c (List.mem_map_of_mem hz)
  have hdag := hC.dag
  have hdoc := hC.doc
  rw [← links_map] at hDn hpp hbn hdag
  obtain ⟨⟨num, ps, zd, zo, zcl, zsq⟩, pv, dv, ov⟩ := z
  obtain ⟨pa, pcp, e1⟩ := hzo.ps.form
  obtain ⟨da, dcp, e2⟩ := hzo.d.form
  obtain ⟨oa, ocp, e3⟩ := hzo.o.form
  simp only at e1 e2 e3
  subst e1 e2 e3
  have hps := hzo.ps; have hds := hzo.d
  simp only at hDn hsh hpp hbn hin hba hps hds
  simp only [cmc]
  have hpl := hpp.1
  clear hzo hlz hz
  unfold mcc
  refine Does.of Tryz.func94 rfl Tryz.ntmps94 rfl fun c hc0 => ?_
  refine goK _ ?_
  refine Ops.eff rfl rfl rfl (Eff.box rfl) fun _ => Ops.ex fun b5 => Ops.pure ?_
  rintro rfl
  refine goK _ ?_
  refine At.meet1 (fun (v : Value) => [(0, .pointer (some ⟨m, 0, none⟩)), (5, .pointer (some ⟨b5, 0, none⟩)), (7, v)])
    (fun v w => (∃ d0, Ox.DocB d0 ∧ AtsH h v d0 ∧ D num = Ox.applied d0 zd (Ox.Cm.org ⟨num, ps, zd, zo, zcl, zsq⟩)) ∧ Mem c (cells b5 [.int .i64 num, .slice pa ps.length pcp, .slice da zd.length dcp, .slice oa zo.length ocp, .int .i64 zcl, .int .i64 zsq] 47 :: cells m [.int .i64 nc, .int .i64 nb, csv, bsv, ksv, .map (some dm)] 101 :: mapI key dm M :: R) h w) (fun k' meet => ?_) (fun v => At.pure fun hq => ?_)
  · refine At.condP rfl (fun h1 => ?_) (fun h1 => ?_)
    · obtain ⟨a, b, rfl⟩ : ∃ a b, ps = [a, b] := by
        rcases ps with _ | ⟨a, _ | ⟨b, _ | ⟨c, r⟩⟩⟩
        · simp at h1
        · simp at h1
        · exact ⟨a, b, rfl⟩
        · simp at h1; omega
      obtain ⟨va, hva⟩ := Option.isSome_iff_exists.1 (hin a (by simp))
      obtain ⟨vb, hvb⟩ := Option.isSome_iff_exists.1 (hin b (by simp))
      obtain ⟨vc, hvc⟩ := Option.isSome_iff_exists.1 (hba a b rfl)
      have hne := hbn a b rfl
      obtain ⟨b0, o0, rfl, _, _, hc⟩ := RowH.elem zc_length hps (i := 0) (x := a) rfl
      have hc' : ∀ j u, (zc b)[j]? = some u → cellH h b0 (o0 + 1 * 1 + j) = some u := by
        obtain ⟨_, _, e, _, _, hc'⟩ := RowH.elem zc_length hps (i := 1) (x := b) rfl
        cases e; exact hc'
      have hina := hpp.2 a (by simp); have hinb := hpp.2 b (by simp)
      have hth : Ox.thereE (links zs) [a, b] = 0 := by
        rw [Ox.thereE, if_pos hdag, if_pos]
        intro k hk
        simp only [List.mem_cons, List.not_mem_nil, or_false] at hk
        rcases hk with rfl | rfl
        · exact hina
        · exact hinb
      refine goK _ ?_
      first | refine At.drawn mo (fun _ _ m => m.drew _) ?_ | refine At.seq (At.drawn mo (fun _ _ m => m.drew _) ?_)
      refine Dr.val 0 rfl rfl rfl rfl (by kernel_rfl) rfl (V.fieldAddr rfl rfl) ?_
      refine Dr.valS 1 _ rfl rfl rfl rfl (by kernel_rfl) rfl (V.load rfl rfl (fun _ hh => hh)) (fun w hw => hw.cell (n := 0) rfl rfl) ?_
      refine Dr.val 2 rfl rfl rfl rfl (by kernel_rfl) rfl (V.indexAddr (i := 0) rfl rfl rfl rfl (by simp)) ?_
      refine Dr.valS 3 _ rfl rfl rfl rfl (by kernel_rfl) rfl (V.load rfl rfl (fun _ hh => hh)) (fun w hw => hw.cellH (hc 0 (.int .i64 a) rfl)) ?_
      refine Dr.val 4 rfl rfl rfl rfl (by kernel_rfl) rfl (V.fieldAddr rfl rfl) ?_
      refine Dr.valS 5 _ rfl rfl rfl rfl (by kernel_rfl) rfl (V.load rfl rfl (fun _ hh => hh)) (fun w hw => hw.cell (n := 0) rfl rfl) ?_
      refine Dr.val 6 rfl rfl rfl rfl (by kernel_rfl) rfl (V.indexAddr (i := 1) rfl rfl rfl rfl (by simp)) ?_
      refine Dr.valS 7 _ rfl rfl rfl rfl (by kernel_rfl) rfl (V.load rfl rfl (fun _ hh => hh)) (fun w hw => hw.cellH (hc' 0 (.int .i64 b) rfl)) ?_
      refine Dr.val 8 rfl rfl rfl rfl (by kernel_rfl) rfl (Val.assign rfl) ?_
      refine Dr.val 9 rfl rfl rfl rfl (by kernel_rfl) rfl (Val.assign rfl) ?_
      refine Dr.done (by kernel_rfl) (by kernel_rfl) ?_
      refine goK _ ?_
      refine Ops.eff rfl rfl rfl (Eff.call (fn (by kernel_rfl)) rfl (Ωc := []) rfl (Common_does L (links zs) a b h hL (by have := hdag.1; omega) (fun x hx => by have := (hdag.each x hx).2.1; omega))) fun _ => Ops.ex fun _ => Ops.ex fun _ => Ops.pure ?_
      rintro ⟨hle1, hr⟩
      rename_i r1 _ h1'
      rcases hr with ⟨hx, _⟩ | ⟨_, u, sx, sy, rfl, hax, hby, rfl⟩
      · exact absurd hth hx
      rw [show Ox.commons (links zs) sx sy = Ox.commL (links zs) a b from by rw [Ox.commL, hax.eq, hby.eq]]
      generalize hcm : Ox.commL (links zs) a b = cm at *
      refine Ops.val rfl rfl rfl (Val.move rfl) ?_
      refine Ops.val rfl rfl rfl (Val.extract rfl rfl) ?_
      refine Ops.val rfl rfl rfl (Val.extract rfl rfl) ?_
      refine Ops.val rfl rfl rfl (Val.assign rfl) ?_
      refine Ops.val rfl rfl rfl (Val.assign rfl) ?_
      refine Ops.nil ?_
      refine At.publish_row 0 rfl fun h3 hle3 hsl => ?_
      obtain ⟨c0, cr, rfl⟩ : ∃ c0 cr, cm = c0 :: cr := List.exists_cons_of_ne_nil hne
      obtain ⟨ua, ucp, rfl⟩ := SlH.form hsl
      obtain ⟨b3, o3, rfl, _, _, hc3⟩ := RowH.elem zc_length (show ZsH h3 _ (c0 :: cr) from hsl) (i := 0) (x := c0) rfl
      have hle := hle1.trans hle3
      have hD3 := hD.mono hle
      repeat (first | refine Ops.val rfl rfl rfl (V.indexAddr (i := 0) rfl rfl rfl rfl (by simp)) ?_ | refine goS _ ?_)
      refine Ops.val rfl rfl rfl (V.loadH rfl rfl (hc3 0 (.int .i64 c0) rfl)) ?_
      refine Ops.eff rfl rfl rfl (Eff.callP 1 (fn (by kernel_rfl)) rfl (Ωc := cells m [.int .i64 nc, .int .i64 nb, csv, bsv, ksv, .map (some dm)] 101 :: mapI key dm M :: R) (Ωr := []) (by simp) (docHit_does R m nc nb csv bsv ksv dm M c0 vc hvc h3)) fun vc' => Ops.pure ?_
      rintro rfl
      have s1 := (hdoc c0).short; have s2 := (hdoc a).short; have s3 := (hdoc b).short
      refine goK _ ?_
      first | refine At.drawn mo (fun _ _ m => m.drew _) ?_ | refine At.seq (At.drawn mo (fun _ _ m => m.drew _) ?_)
      refine Dr.val 0 rfl rfl rfl rfl (by kernel_rfl) rfl (Val.move rfl) ?_
      refine Dr.val 1 rfl rfl rfl rfl (by kernel_rfl) rfl (Val.move rfl) ?_
      refine Dr.val 2 rfl rfl rfl rfl (by kernel_rfl) rfl (Val.nilCheck rfl) ?_
      refine Dr.val 3 rfl rfl rfl rfl (by kernel_rfl) rfl (V.fieldAddr rfl rfl) ?_
      refine Dr.valS 4 _ rfl rfl rfl rfl (by kernel_rfl) rfl (V.load rfl rfl (fun _ hh => hh)) (fun w hw => hw.cell (n := 1) rfl rfl) ?_
      refine Dr.val 5 rfl rfl rfl rfl (by kernel_rfl) rfl (Val.move rfl) ?_
      refine Dr.valS 6 (MapAt key dm a (.slice none 0 0) va) rfl rfl rfl rfl (by kernel_rfl) rfl (V.lookupW (κ := key) (a := a) (z := .slice none 0 0) key99 rfl rfl rfl rfl) (fun w hw => by have := MapAt.of (κ := key) (a := a) (z := .slice none 0 0) 2 hw rfl; rw [hva] at this; exact this) ?_
      refine Dr.val 7 rfl rfl rfl rfl (by kernel_rfl) rfl (Val.move rfl) ?_
      refine Dr.val 8 rfl rfl rfl rfl (by kernel_rfl) rfl (Val.nilCheck rfl) ?_
      refine Dr.val 9 rfl rfl rfl rfl (by kernel_rfl) rfl (V.fieldAddr rfl rfl) ?_
      refine Dr.valS 10 _ rfl rfl rfl rfl (by kernel_rfl) rfl (V.load rfl rfl (fun _ hh => hh)) (fun w hw => hw.cell (n := 1) rfl rfl) ?_
      refine Dr.val 11 rfl rfl rfl rfl (by kernel_rfl) rfl (Val.move rfl) ?_
      refine Dr.valS 12 (MapAt key dm b (.slice none 0 0) vb) rfl rfl rfl rfl (by kernel_rfl) rfl (V.lookupW (κ := key) (a := b) (z := .slice none 0 0) key99 rfl rfl rfl rfl) (fun w hw => by have := MapAt.of (κ := key) (a := b) (z := .slice none 0 0) 2 hw rfl; rw [hvb] at this; exact this) ?_
      refine Dr.val 13 rfl rfl rfl rfl (by kernel_rfl) rfl (Val.move rfl) ?_
      refine Dr.val 14 rfl rfl rfl rfl (by kernel_rfl) rfl (Val.move rfl) ?_
      refine Dr.next (e := 15) rfl rfl (by kernel_rfl) rfl (by kernel_rfl) (by kernel_rfl) rfl rfl (Eff.call (fn (by kernel_rfl)) rfl (Ωc := []) rfl (Docs_does vc' va vb (D c0) (D a) (D b) a b (fun q hq => by have := s1.1 q hq; omega) (by omega) (fun q hq => by have := s2.1 q hq; omega) (by omega) (fun q hq => by have := s3.1 q hq; omega) (by omega) h3 (hD3 c0 vc' hvc) (hD3 a va hva) (hD3 b vb hvb))) (by repeat (first | exact AllOk.nil | refine AllOk.triv ?_ | refine AllOk.cons (by rintro _ _ ⟨_, _, _, hw⟩; have hw2 := hw.sub (List.sublist_append_right _ _); first | exact hw2.cell (n := 0) rfl rfl | exact hw2.cell (n := 1) rfl rfl | (exact ⟨M, hw2.blk (n := 2) rfl, by rw [hva]; rfl⟩) | (exact ⟨M, hw2.blk (n := 2) rfl, by rw [hvb]; rfl⟩)) ?_)) fun _ => Dr.ex fun _ => Dr.ex fun _ => Dr.pure ?_
      rintro ⟨hle4, hr⟩
      rename_i h4
      rcases hr with ⟨hx, rfl, rfl⟩ | ⟨hx, u, rfl, rfl⟩
      · refine Dr.val 16 rfl rfl rfl rfl (by kernel_rfl) rfl (Val.move rfl) ?_
        refine Dr.val 17 rfl rfl rfl rfl (by kernel_rfl) rfl (Val.extract rfl rfl) ?_
        refine Dr.val 18 rfl rfl rfl rfl (by kernel_rfl) rfl (Val.extract rfl rfl) ?_
        refine Dr.val 19 rfl rfl rfl rfl (by kernel_rfl) rfl (Val.assign rfl) ?_
        refine Dr.val 20 rfl rfl rfl rfl (by kernel_rfl) rfl (Val.assign rfl) ?_
        refine Dr.done (by kernel_rfl) (by kernel_rfl) ?_
        refine goK _ ?_
        refine At.ret1 Tryz.results94 (Res.tmp rfl) (List.sublist_cons_self _ _) ⟨hc0.symm ▸ hle.trans hle4, rfl, ?_⟩
        rw [hDn, Ox.madeD]
        simp only [hcm, List.headD_cons]
        rw [Ox.merged, if_neg hx]; exact SlH.nil _ _
      · refine Dr.val 16 rfl rfl rfl rfl (by kernel_rfl) rfl (Val.move rfl) ?_
        refine Dr.val 17 rfl rfl rfl rfl (by kernel_rfl) rfl (Val.extract rfl rfl) ?_
        refine Dr.val 18 rfl rfl rfl rfl (by kernel_rfl) rfl (Val.extract rfl rfl) ?_
        refine Dr.val 19 rfl rfl rfl rfl (by kernel_rfl) rfl (Val.assign rfl) ?_
        refine Dr.val 20 rfl rfl rfl rfl (by kernel_rfl) rfl (Val.assign rfl) ?_
        refine Dr.done (by kernel_rfl) (by kernel_rfl) ?_
        refine At.publish_row 0 rfl fun h5 hle5 hs5 => ?_
        refine goK _ ?_
        refine At.ret1 Tryz.results94 (Res.tmp rfl) (List.sublist_cons_self _ _) ⟨hc0.symm ▸ (hle.trans hle4).trans hle5, rfl, ?_⟩
        rw [hDn, Ox.madeD]
        simp only [hcm, List.headD_cons]
        rw [Ox.merged, if_pos hx]; exact hs5
    · refine goK _ ?_
      refine At.condP rfl (fun h2 => ?_) (fun h2 => ?_)
      · obtain ⟨a, rfl⟩ : ∃ a, ps = [a] := List.length_eq_one_iff.1 (by omega)
        obtain ⟨va, hva⟩ := Option.isSome_iff_exists.1 (hin a (by simp))
        have hav := hD a va hva
        obtain ⟨b0, o0, rfl, _, _, hc⟩ := RowH.elem zc_length hps (i := 0) (x := a) rfl
        refine goK _ ?_
        first | refine At.drawn mo (fun _ _ m => m.drew _) ?_ | refine At.seq (At.drawn mo (fun _ _ m => m.drew _) ?_)
        refine Dr.val 0 rfl rfl rfl rfl (by kernel_rfl) rfl (Val.move rfl) ?_
        refine Dr.val 1 rfl rfl rfl rfl (by kernel_rfl) rfl (Val.nilCheck rfl) ?_
        refine Dr.val 2 rfl rfl rfl rfl (by kernel_rfl) rfl (V.fieldAddr rfl rfl) ?_
        refine Dr.valS 3 _ rfl rfl rfl rfl (by kernel_rfl) rfl (V.load rfl rfl (fun _ hh => hh)) (fun w hw => hw.cell (n := 1) rfl rfl) ?_
        refine Dr.val 4 rfl rfl rfl rfl (by kernel_rfl) rfl (V.fieldAddr rfl rfl) ?_
        refine Dr.valS 5 _ rfl rfl rfl rfl (by kernel_rfl) rfl (V.load rfl rfl (fun _ hh => hh)) (fun w hw => hw.cell (n := 0) rfl rfl) ?_
        refine Dr.val 6 rfl rfl rfl rfl (by kernel_rfl) rfl (V.indexAddr (i := 0) rfl rfl rfl rfl (by simp)) ?_
        refine Dr.valS 7 _ rfl rfl rfl rfl (by kernel_rfl) rfl (V.load rfl rfl (fun _ hh => hh)) (fun w hw => hw.cellH (hc 0 (.int .i64 a) rfl)) ?_
        refine Dr.valS 8 (MapAt key dm a (.slice none 0 0) va) rfl rfl rfl rfl (by kernel_rfl) rfl (V.lookupW (κ := key) (a := a) (z := .slice none 0 0) key99 rfl rfl rfl rfl) (fun w hw => by have := MapAt.of (κ := key) (a := a) (z := .slice none 0 0) 2 hw rfl; rw [hva] at this; exact this) ?_
        refine Dr.val 9 rfl rfl rfl rfl (by kernel_rfl) rfl (Val.assign rfl) ?_
        refine Dr.done (by kernel_rfl) (by kernel_rfl) ?_
        refine goK _ ?_
        refine meet va (by exact ⟨rfl, rfl, rfl, trivial⟩) (fun w hw => ⟨⟨D a, hdoc a, hav, ?_⟩, hw⟩)
        rw [hDn, Ox.madeD]
      · refine goK _ ?_
        refine meet (.slice none 0 0) (by exact ⟨rfl, rfl, rfl, trivial⟩) (fun w hw => ⟨⟨[], Ox.DocB.nil, SlH.nil _ _, ?_⟩, hw⟩)
        rw [hDn, Ox.madeD]
        rcases ps with _ | ⟨a, _ | ⟨b, _ | ⟨c, r⟩⟩⟩
        · rfl
        · simp at h2
        · simp at h1
        · rfl
  · obtain ⟨d0, hd0, hvd, hDe⟩ := hq
    obtain ⟨va, vcp, rfl⟩ := hvd.form
    have hsd := hd0.short
    refine goK _ ?_
    refine Ops.eff rfl rfl rfl (E.alloc rfl) fun _ => Ops.ex fun b15 => Ops.pure ?_
    rintro rfl
    refine goK _ ?_
    refine Ops.eff0 rfl rfl (E.store 0 rfl rfl rfl rfl rfl rfl rfl) fun _ => ?_
    refine goK _ ?_
    refine At.meet1 (fun (_ : Unit) => [(5, .pointer (some ⟨b5, 0, none⟩)), (7, .slice va d0.length vcp), (15, .pointer (some ⟨b15, 0, none⟩))])
      (fun _ w => Mem c (cells b15 [.int .i64 (Ox.Cm.org ⟨num, ps, zd, zo, zcl, zsq⟩).c, .int .i64 (Ox.Cm.org ⟨num, ps, zd, zo, zcl, zsq⟩).n] 66 :: cells b5 [.int .i64 num, .slice pa ps.length pcp, .slice da zd.length dcp, .slice oa zo.length ocp, .int .i64 zcl, .int .i64 zsq] 47 :: cells m [.int .i64 nc, .int .i64 nb, csv, bsv, ksv, .map (some dm)] 101 :: mapI key dm M :: R) h w) (fun k' meet => ?_) (fun _ => ?_)
    · refine At.condP rfl (fun h1 => ?_) (fun h1 => ?_)
      · refine goK _ ?_
        refine Ops.eff0 rfl rfl (E.store 0 rfl rfl rfl rfl rfl rfl rfl) fun _ => ?_
        refine goK _ ?_
        refine meet () (by exact ⟨rfl, rfl, rfl, trivial⟩) (fun w hw => ?_)
        rw [Ox.Cm.org, if_pos h1]; exact hw
      · refine goK _ ?_
        refine meet () (by exact ⟨rfl, rfl, rfl, trivial⟩) (fun w hw => ?_)
        rw [Ox.Cm.org, if_neg h1]; exact hw
    refine goK _ ?_
    refine Ops.eff rfl rfl rfl (Eff.call (fn (by kernel_rfl)) rfl (Ωc := []) rfl (Apply_does _ _ d0 zd (Ox.Cm.org ⟨num, ps, zd, zo, zcl, zsq⟩) (fun a ha => by have := hsd.1 a ha; omega) (by omega) (by omega) hsh h hvd hds)) fun _ => Ops.ex fun _ => Ops.ex fun _ => Ops.pure ?_
    rintro ⟨rfl, hle, hr⟩
    rename_i u h2
    rcases hr with ⟨he, rfl⟩ | ⟨he, ds, d', u', e1, e2, e3, rfl, e4⟩
    · refine goK _ ?_
      refine At.ret1 Tryz.results94 (Res.tmp rfl) ((List.sublist_cons_self _ _).trans (List.sublist_cons_self _ _)) ⟨hc0.symm ▸ hle, rfl, ?_⟩
      rw [hDe, Ox.applied, if_neg he]; exact SlH.nil _ _
    · refine goK _ ?_
      refine At.ret1 Tryz.results94 (Res.tmp rfl) ((List.sublist_cons_self _ _).trans (List.sublist_cons_self _ _)) ⟨hc0.symm ▸ hle, rfl, ?_⟩
      rw [hDe, Ox.applied, if_pos he, e1, Option.getD_some, ← e3, Ox.runsOf_canon e2]; exact e4

theorem Ox.ancs_reach {l : List Ox.Lnk} {n k : Int} (h : k ∈ Ox.ancs l n) : Ox.Reach (Ox.upOf l) n k := by
  unfold Ox.ancs at h
  split at h
  · rename_i hex; exact (hex.choose_spec.mem k).1 h
  · simp at h
theorem LinksOf {h : HV} {u : Value} {zs : List CmV} (hs : SlH h u 2 zs.length ((zs.map zlk).flatMap lkc)) (hok : ∀ z ∈ zs, CmOk h z) : LinksH h u (links zs) := by
  refine ⟨zs.map zlk, links_of zs, ⟨?_, fun p hp => ?_⟩⟩
  · show SlH h u 2 (zs.map zlk).length _
    rw [List.length_map]; exact hs
  · obtain ⟨z, hz, rfl⟩ := List.mem_map.1 hp
    exact (hok z hz).ps
theorem mem_take_lt {s : List Int} (hs : s.Pairwise (· < ·)) {j : Nat} {k p : Int} (hk : s[j]? = some k) (hp : p ∈ s) (hlt : p < k) : p ∈ s.take j := by
  obtain ⟨i, hi⟩ := List.getElem?_of_mem hp
  rcases Nat.lt_or_ge i j with h1 | h1
  · exact List.mem_of_getElem? (i := i) (by rw [List.getElem?_take, if_pos h1]; exact hi)
  · rcases Nat.lt_or_ge j i with h2 | h2
    · have := sorted_lt hs hk hi h2; omega
    · obtain rfl : i = j := by omega
      rw [hk] at hi; cases hi; omega

theorem doc_does (M : List (Int × Value)) (n : Int) (hn : n ∈ zs.map fun z => z.c.num) (h : HV) (hv : RowRd cmc 6 R h csv zs) (hok : ∀ z ∈ zs, CmOk h z) (hC : Ox.CsOk (zs.map CmV.c) D) (hD : DocMap h M D) :
    Does Tryz.prog 46 #[.pointer (some ⟨m, 0, none⟩), .int .i64 n] (cells m (mcc nc nb csv bsv ksv dm) 101 :: mapI key dm M :: R) h (fun r Ω' h' => HV.le h h' ∧ ∃ M', Ω' = cells m (mcc nc nb csv bsv ksv dm) 101 :: mapI key dm M' :: R ∧ AtsH h' r (D n) ∧ DocMap h' M' D) := by
  cases hM : mget M n with
  | some v => exact (docHit_does R m nc nb csv bsv ksv dm M n v hM h).mono fun r Ω' h' ⟨e1, e2, e3⟩ => ⟨e3 ▸ HV.le.refl _, M, e2, by rw [e1, ← e3]; exact hD n v hM, e3 ▸ hD⟩
  | none =>
    have hN := CsNums hC.dag
    have hfew := hN.few
    have hdag := hC.dag
    rw [← links_map] at hdag
    have hnl : n ∈ (links zs).map Ox.Lnk.num := by simpa [links] using hn
    have hth : Ox.thereE (links zs) [n] = 0 := by
      rw [Ox.thereE, if_pos hdag, if_pos]
      intro k hk
      simp only [List.mem_cons, List.not_mem_nil, or_false] at hk
      subst hk; exact hnl
    have hlk := fun (M' : List (Int × Value)) => links_does (mapI key dm M' :: R) m nc nb csv bsv ksv dm zs h (hv.mono (HV.le.refl h) fun _ hi => List.mem_cons_of_mem _ hi) hok hfew
    have hcm := fun (M' : List (Int × Value)) (h' : HV) (le : HV.le h h') (k : Int) (hk : I64 k) => commit_does (mapI key dm M' :: R) m nc nb csv bsv ksv dm zs h' (hv.mono le fun _ hi => List.mem_cons_of_mem _ hi) (fun z hz => (hok z hz).mono le) hN k hk
    have hmd := fun (M' : List (Int × Value)) (h' : HV) (z : CmV) (hz : z ∈ zs) (L : Value) => made_does R m nc nb csv bsv ksv dm zs D M' z hz L hC h'
    unfold mcc at *
    refine Does.of Tryz.func46 rfl Tryz.ntmps46 rfl fun c hc0 => ?_
    refine goK _ ?_
    refine Ops.val rfl rfl rfl (V.lookup2 (κ := key) (a := n) (m := M) 1 key99 rfl rfl rfl rfl rfl) ?_
    refine Ops.respell (t := 22) (v' := .tuple #[.slice none 0 0, .bool false]) rfl (by rw [hM]; rfl) ?_
    refine goK _ ?_
    refine Ops.eff rfl rfl rfl (Eff.call (fn (by kernel_rfl)) rfl (Ωc := cells m [.int .i64 nc, .int .i64 nb, csv, bsv, ksv, .map (some dm)] 101 :: mapI key dm M :: R) (Ωr := []) (by simp) (hlk M)) fun L => Ops.ex fun _ => Ops.ex fun _ => Ops.pure ?_
    rintro ⟨rfl, rfl⟩
    refine Ops.val rfl rfl rfl (Val.assign rfl) ?_
    refine Ops.nil ?_
    refine At.publish_row 0 rfl fun h2 hle2 hsl => ?_
    have hL := LinksOf hsl fun z hz => (hok z hz).mono hle2
    refine goK _ ?_
    refine Ops.eff rfl rfl rfl (Eff.call (fn (by kernel_rfl)) rfl (Ωc := []) rfl (Above_does L (links zs) n h2 hL (by have := hdag.1; omega) (fun x hx => by have := (hdag.each x hx).2.1; omega))) fun _ => Ops.ex fun _ => Ops.ex fun _ => Ops.pure ?_
    rintro hr
    rename_i r1 _ h2'
    rcases hr with ⟨hx, _⟩ | ⟨_, u, s, rfl, rfl, rfl, hA⟩
    · exact absurd hth hx
    refine Ops.val rfl rfl rfl (Val.move rfl) ?_
    refine Ops.val rfl rfl rfl (Val.extract rfl rfl) ?_
    refine Ops.val rfl rfl rfl (Val.extract rfl rfl) ?_
    refine Ops.val rfl rfl rfl (Val.assign rfl) ?_
    refine Ops.val rfl rfl rfl (Val.assign rfl) ?_
    refine Ops.nil ?_
    refine At.publish_row 0 rfl fun h3 hle3 hss => ?_
    have hle := hle2.trans hle3
    replace hL := hL.mono hle3
    obtain ⟨ua, ucp, rfl⟩ := SlH.form hss
    have hsn : ∀ k ∈ s, k ∈ (links zs).map Ox.Lnk.num := fun k hk => hdag.reach hnl k ((hA.mem k).1 hk)
    have hsf : s.length ≤ 300 := by
      have h7 := Ox.nodup_le (hA.sorted.imp fun {a b} hab => by omega) hsn
      rw [List.length_map] at h7
      have := hdag.1; omega
    refine goK _ ?_
    refine At.loop3 (fun (j : Nat) (_ : List (Int × Value)) (_ : HV) => [(0, .pointer (some ⟨m, 0, none⟩)), (1, .int .i64 n), (7, L), (35, .slice ua s.length ucp), (36, .int .i64 (s.length : Int)), (37, .int .i64 (j : Int))])
      (fun (j : Nat) (M' : List (Int × Value)) (h' : HV) w => (j ≤ s.length ∧ HV.le h3 h' ∧ DocMap h' M' D ∧ ∀ k ∈ s.take j, (mget M' k).isSome = true) ∧ Mem c (cells m [.int .i64 nc, .int .i64 nb, csv, bsv, ksv, .map (some dm)] 101 :: mapI key dm M' :: R) h' w) (fun (j : Nat) (_ : List (Int × Value)) (_ : HV) => s.length - j)
      0 M h3 ⟨rfl, rfl, rfl, rfl, rfl, rfl, trivial⟩ (fun w hw => ⟨⟨Nat.zero_le _, HV.le.refl _, hD.mono hle, by simp⟩, by simpa using hw⟩) (fun j M' h' => At.pure (fun hq => ?_))
    obtain ⟨hj, hle', hD', hin⟩ := hq
    refine goK _ ?_
    refine At.condP rfl (fun h5 => ?_) (fun h5 => ?_)
    rotate_left
    · obtain rfl : j = s.length := by omega
      rw [List.take_length] at hin
      obtain ⟨v, hv'⟩ := Option.isSome_iff_exists.1 (hin n ((hA.mem n).2 .refl))
      refine goK _ ?_
      refine Ops.val rfl rfl rfl (V.lookup (κ := key) (a := n) (m := M') 1 key99 rfl rfl rfl rfl rfl) ?_
      refine Ops.respell (t := 73) (v' := v) rfl (by rw [hv']; rfl) ?_
      refine goK _ ?_
      exact At.ret1 Tryz.results46 (Res.tmp rfl) (List.Sublist.refl _) ⟨hc0.symm ▸ hle.trans hle', M', rfl, hD' n v hv', hD'⟩
    have hlt : j < s.length := by omega
    have hsj : s[j]? = some s[j] := by simp [hlt]
    obtain ⟨b0, o0, rfl, _, _, hc⟩ := RowH.elem zc_length (show ZsH h' _ s from SlH.mono hss hle') hsj
    have hts : s.take (j + 1) = s.take j ++ [s[j]] := by rw [List.take_succ_eq_append_getElem hlt]
    have hkn := hsn s[j] (by simp)
    generalize s[j] = k at *
    refine goK _ ?_
    refine Ops.val rfl rfl rfl (V.loadH rfl rfl (hc 0 (.int .i64 k) rfl)) ?_
    refine goK _ ?_
    refine Ops.val rfl rfl rfl (V.lookup2 (κ := key) (a := k) (m := M') 1 key99 rfl rfl rfl rfl rfl) ?_
    cases hMk : mget M' k with
    | some v =>
      refine Ops.respell (t := 47) (v' := .tuple #[v, .bool true]) rfl rfl ?_
      refine goK _ ?_
      refine At.back3 (j + 1) M' h' (by show s.length - (j + 1) < s.length - j; omega) (by exact ⟨rfl, rfl, rfl, rfl, rfl, rfl, trivial⟩) (fun w hw => ⟨⟨hlt, hle', hD', fun x hx => ?_⟩, hw⟩)
      rw [hts] at hx
      rcases List.mem_append.1 hx with h6 | h6
      · exact hin x h6
      · simp at h6; subst h6; rw [hMk]; rfl
    | none =>
      refine Ops.respell (t := 47) (v' := .tuple #[.slice none 0 0, .bool false]) rfl rfl ?_
      have hkr := hdag.range k hkn
      refine goK _ ?_
      refine Ops.eff rfl rfl rfl (Eff.callP 0 (fn (by kernel_rfl)) rfl (Ωc := cells m [.int .i64 nc, .int .i64 nb, csv, bsv, ksv, .map (some dm)] 101 :: mapI key dm M' :: R) (Ωr := []) (by simp) (hcm M' h' (hle.trans hle') k ⟨by omega, by omega⟩)) fun _ => Ops.pure ?_
      rintro (⟨z, hz, hzk, rfl⟩ | ⟨hno, _⟩)
      rotate_left
      · obtain ⟨x, hx, e⟩ := List.mem_map.1 hkn
        obtain ⟨z, hz, rfl⟩ := List.mem_map.1 hx
        exact absurd e (hno z hz)
      have hzo := (hok z hz).mono (hle.trans hle')
      have hzl : (⟨z.c.num, z.c.ps⟩ : Ox.Lnk) ∈ links zs := List.mem_map.2 ⟨z, hz, rfl⟩
      have hups := Ox.upOf_num ((Ox.dag_sorted hdag).imp fun {a b} hab => by omega) _ hzl
      simp only [hzk] at hups
      have hmem : ∀ p, Ox.Reach (Ox.upOf (links zs)) k p → p < k → p ∈ s.take j := fun p hp hlt' => mem_take_lt hA.sorted hsj ((hA.mem p).2 (((hA.mem k).1 (List.mem_of_getElem? hsj)).trans hp)) hlt'
      have hplt : ∀ p ∈ z.c.ps, p < k := fun p hp => by have := hdag.parent_lt hzl hp; rw [← hzk]; exact this
      refine goK _ ?_
      refine Ops.eff rfl rfl rfl (E.alloc rfl) fun _ => Ops.ex fun b14 => Ops.pure ?_
      rintro rfl
      refine Ops.eff0 rfl rfl (E.store 0 rfl rfl rfl rfl rfl rfl hzo.one) fun _ => ?_
      refine goK _ ?_
      first | refine At.drawn mo (fun _ _ m => m.drew _) ?_ | refine At.seq (At.drawn mo (fun _ _ m => m.drew _) ?_)
      refine Dr.val 0 rfl rfl rfl rfl (by kernel_rfl) rfl (Val.move rfl) ?_
      refine Dr.val 1 rfl rfl rfl rfl (by kernel_rfl) rfl (Val.nilCheck rfl) ?_
      refine Dr.val 2 rfl rfl rfl rfl (by kernel_rfl) rfl (V.fieldAddr rfl rfl) ?_
      refine Dr.valS 3 _ rfl rfl rfl rfl (by kernel_rfl) rfl (V.load rfl rfl (fun _ hh => hh)) (fun w hw => hw.cell (n := 1) rfl rfl) ?_
      refine Dr.val 4 rfl rfl rfl rfl (by kernel_rfl) rfl (Val.move rfl) ?_
      refine Dr.val 5 rfl rfl rfl rfl (by kernel_rfl) rfl (Val.move rfl) ?_
      refine Dr.val 6 rfl rfl rfl rfl (by kernel_rfl) rfl (Val.move rfl) ?_
      refine Dr.valS 7 _ rfl rfl rfl rfl (by kernel_rfl) rfl (V.loadN (cs := (cmc z)) rfl rfl rfl (fun _ hh => hh)) (fun w hw => hw.cellsAt (n := 0) rfl rfl) ?_
      refine Dr.next (e := 8) rfl rfl (by kernel_rfl) rfl (by kernel_rfl) (by kernel_rfl) rfl rfl (Eff.callAt 1 (fn (by kernel_rfl)) rfl (Ωc := cells m [.int .i64 nc, .int .i64 nb, csv, bsv, ksv, .map (some dm)] 101 :: mapI key dm M' :: R) (Ωr := []) (by simp) (hmd M' h' z hz L hzo (hL.mono hle') hD' (fun p hp => hin p (hmem p (.step .refl (by rw [hups]; exact hp)) (hplt p hp))) (fun a b hab => ?_))) ?_ fun r2 => Dr.ex fun _ => Dr.ex fun h6 => Dr.pure ?_
      · have hne := hC.base z.c (List.mem_map_of_mem hz) a b hab
        rw [← links_map] at hne
        obtain ⟨c0, cr, e⟩ := List.exists_cons_of_ne_nil hne
        have hc0m : c0 ∈ Ox.commL (links zs) a b := by rw [e]; simp
        have hra := Ox.ancs_reach (Ox.commons_mem c0 hc0m).1
        have hak : a ∈ z.c.ps := by rw [hab]; simp
        have hkl := hplt a hak
        have hca := Ox.reach_le hdag hra
        rw [e, List.headD_cons]
        exact hin c0 (hmem c0 ((Ox.Reach.step .refl (by rw [hups]; exact hak)).trans hra) (by omega))
      · repeat (first | exact AllOk.nil | refine AllOk.triv ?_ | refine AllOk.cons (by rintro _ _ ⟨_, _, ⟨_, rfl, _⟩, hw⟩; first | exact hw.cell (n := 0) rfl rfl | exact hw.cell (n := 1) rfl rfl | exact hw.cellsAt (n := 0) rfl rfl) ?_)
      · rintro ⟨hle6, rfl, hr2⟩
        rw [hzk] at hr2
        refine Dr.next0 (e := 9) rfl rfl (by kernel_rfl) rfl (by kernel_rfl) (by kernel_rfl) rfl (E.mapUpdate (κ := key) (a := k) 1 key99 rfl rfl rfl rfl rfl) aokK fun _ => ?_
        refine Dr.done (by kernel_rfl) (by kernel_rfl) ?_
        refine goK _ ?_
        refine At.back3 (j + 1) (mset M' k r2) h6 (by show s.length - (j + 1) < s.length - j; omega) (by exact ⟨rfl, rfl, rfl, rfl, rfl, rfl, trivial⟩) (fun w hw => ⟨⟨hlt, hle'.trans hle6, (hD'.mono hle6).put hr2, fun x hx => ?_⟩, hw.sub (List.sublist_append_left _ _)⟩)
        rw [mget_mset]
        split
        · rfl
        · rename_i hxk
          rw [hts] at hx
          rcases List.mem_append.1 hx with h7 | h7
          · exact hin x h7
          · simp at h7; exact absurd h7.symm hxk
end
end Go.Proofs.YthjgbmbaabpgmaaGreat
