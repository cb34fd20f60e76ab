/-
  The machine: a client's last edit; may an edit come now.
-/
import Derived.Test.YthjgbmbaabpgmaaGreatSrd05
import Derived.Test.YthjgbmbaabpgmaaGreatSrd39
import Derived.Test.YthjgbmbaabpgmaaGreatSrd40
set_option linter.unusedVariables false
set_option linter.unusedSimpArgs false
set_option linter.unusedSectionVars false
namespace Go.Proofs.YthjgbmbaabpgmaaGreat
open Go.Sy
set_option maxRecDepth 4000
set_option maxHeartbeats 4000000
/-- a message's value -/
structure MsH (h : HV) (v : Value) (x : Ox.Ms) (dv : Value) : Prop where
  val : v = .agg #[.int .i64 x.kind, .int .i64 x.branch, .int .i64 x.client, .int .i64 x.seq, .int .i64 x.rev, .int .i64 x.who, dv]
  d : OpsH h dv x.d
  rev : I64 x.rev
  ops : ∀ o ∈ x.d, o.text.length ≤ 1000000000
theorem MsH.mono {h h' : HV} {v : Value} {x : Ox.Ms} {dv : Value} (r : MsH h v x dv) (le : HV.le h h') : MsH h' v x dv := ⟨r.val, r.d.mono le, r.rev, r.ops⟩
namespace Ox
theorem note_new {ks : List Cl} {x : Ms} {i : Nat} (hi : i ≤ ks.length) (hn : x.client ∉ ks.map Cl.c) (lo : ∀ k a, k < i → (ks.map Cl.c)[k]? = some a → a < x.client) (hi' : ∀ k a, i ≤ k → (ks.map Cl.c)[k]? = some a → x.client ≤ a) :
    (ks.take i ++ ⟨x.client, 0, 0⟩ :: ks.drop i).set i ⟨x.client, x.branch, x.seq⟩ = note ks x := by
  have hl : (ks.take i).length = i := by rw [List.length_take]; omega
  rw [List.set_append_right _ _ (by omega), hl, Nat.sub_self, List.set_cons_zero]
  have h1 : ks.takeWhile (fun k => decide (k.c < x.client)) = ks.take i := by
    conv => lhs; rw [← List.take_append_drop i ks]
    rw [List.takeWhile_append_of_pos]
    · have : (ks.drop i).takeWhile (fun k => decide (k.c < x.client)) = [] := by
        cases hd : ks.drop i with
        | nil => rfl
        | cons a r =>
          have ha : ks[i]? = some a := by have := congrArg (·[0]?) hd; simpa using this
          have := hi' i a.c (Nat.le_refl _) (by rw [List.getElem?_map, ha]; rfl)
          rw [List.takeWhile_cons_of_neg]; simp; omega
      rw [this, List.append_nil]
    · intro a ha
      obtain ⟨k, hk, rfl⟩ := List.mem_take_iff_getElem.1 ha
      have := lo k ks[k].c (by omega) (by rw [List.getElem?_map, List.getElem?_eq_getElem (by omega)]; rfl)
      simpa using this
  have h2 : ks.dropWhile (fun k => decide (k.c ≤ x.client)) = ks.drop i := by
    conv => lhs; rw [← List.take_append_drop i ks]
    rw [List.dropWhile_append_of_pos]
    · cases hd : ks.drop i with
      | nil => rfl
      | cons a r =>
        have ha : ks[i]? = some a := by have := congrArg (·[0]?) hd; simpa using this
        have h3 := hi' i a.c (Nat.le_refl _) (by rw [List.getElem?_map, ha]; rfl)
        have h4 : a.c ≠ x.client := fun e => hn (by rw [← e]; exact List.mem_map_of_mem (List.mem_of_getElem? ha))
        rw [List.dropWhile_cons_of_neg]; simp; omega
    · intro a ha
      obtain ⟨k, hk, rfl⟩ := List.mem_take_iff_getElem.1 ha
      have := lo k ks[k].c (by omega) (by rw [List.getElem?_map, List.getElem?_eq_getElem (by omega)]; rfl)
      simp; omega
  rw [note, h1, h2]
theorem note_old {ks : List Cl} {x : Ms} {i : Nat} {k0 : Cl} (hs : (ks.map Cl.c).Pairwise (· < ·)) (hk : ks[i]? = some k0) (hc : k0.c = x.client) : ks.set i ⟨x.client, x.branch, x.seq⟩ = note ks x := by
  have hlt : i < ks.length := (List.getElem?_eq_some_iff.1 hk).1
  have hg : ∀ (a b : Nat) (u v : Cl), ks[a]? = some u → ks[b]? = some v → a < b → u.c < v.c := fun a b u v hu hv hab =>
    sorted_lt hs (by rw [List.getElem?_map, hu]; rfl) (by rw [List.getElem?_map, hv]; rfl) hab
  have h1 : ks.takeWhile (fun k => decide (k.c < x.client)) = ks.take i := by
    conv => lhs; rw [← List.take_append_drop i ks]
    rw [List.takeWhile_append_of_pos]
    · have : (ks.drop i).takeWhile (fun k => decide (k.c < x.client)) = [] := by
        rw [List.drop_eq_getElem_cons hlt, List.takeWhile_cons_of_neg]
        have : ks[i] = k0 := (List.getElem?_eq_some_iff.1 hk).2
        rw [this]; simp; omega
      rw [this, List.append_nil]
    · intro a ha
      obtain ⟨k, hkk, rfl⟩ := List.mem_take_iff_getElem.1 ha
      have := hg k i ks[k] k0 (List.getElem?_eq_getElem (by omega)) hk (by omega)
      simp; omega
  have h2 : ks.dropWhile (fun k => decide (k.c ≤ x.client)) = ks.drop (i + 1) := by
    conv => lhs; rw [← List.take_append_drop (i + 1) ks]
    rw [List.dropWhile_append_of_pos]
    · cases hd : ks.drop (i + 1) with
      | nil => rfl
      | cons a r =>
        have ha : ks[i + 1]? = some a := by have := congrArg (·[0]?) hd; simpa using this
        have := hg i (i + 1) k0 a hk ha (by omega)
        rw [List.dropWhile_cons_of_neg]; simp; omega
    · intro a ha
      obtain ⟨k, hkk, rfl⟩ := List.mem_take_iff_getElem.1 ha
      rcases Nat.lt_or_ge k i with h3 | h3
      · have := hg k i ks[k] k0 (List.getElem?_eq_getElem (by omega)) hk h3
        simp; omega
      · obtain rfl : k = i := by omega
        have : ks[k] = k0 := (List.getElem?_eq_some_iff.1 hk).2
        rw [this]; simp; omega
  rw [note, h1, h2, List.set_eq_take_append_cons_drop, if_pos hlt]
end Ox
/-- a call with more beside, in whatever order -/
theorem Does.frameP {P : Program} {f : FuncId} {args : Array Value} {Ω Ωc Ωr : List Itm} {h : HV} {post post2 : Value → List Itm → HV → Prop} (p : Ω.Perm (Ωc ++ Ωr)) (hs : Does P f args Ωc h post) (q : ∀ r Ω1 h', post r Ω1 h' → ∃ Ω2, Ω2.Perm (Ω1 ++ Ωr) ∧ post2 r Ω2 h') : Does P f args Ω h post2 := fun w0 hm => by
  have hm' := hm.perm p
  refine (hs w0 hm'.hand).mono ?_
  rintro e' w' ⟨r, rfl, Ω1, h', hp, hmm⟩
  obtain ⟨Ω2, hp2, hq⟩ := q r Ω1 h' hp
  exact ⟨r, rfl, Ω2, h', hq, (hm'.call hmm).perm hp2.symm⟩
attribute [local irreducible] At Ops Val Eff Does Res Dr

theorem note_does (m dm : Nat) (nc nb : Int) (csv bsv ksv : Value) (M : List (Int × Value)) (zs : List CmV) (ys : List BrV) (ks : List Ox.Cl) (Ωl : List Itm) (x : Ox.Ms) (xv dv : Value) (h : HV) (hx : MsH h xv x dv) (hc : 1 ≤ x.client ∧ x.client ≤ 8)
    (hs : (ks.map Ox.Cl.c).Pairwise (· < ·)) (hb : ∀ k ∈ ks, 1 ≤ k.c ∧ k.c ≤ 8) (hkl : ks.length ≤ 8) :
    Does Tryz.prog 58 #[.pointer (some ⟨m, 0, none⟩), xv] (MX m dm nc nb csv bsv ksv M zs ys ks Ωl) h (fun r Ω' h' => h = h' ∧ ∃ ksv', Ω' = MX m dm nc nb csv bsv ksv' M zs ys (Ox.note ks x) Ωl) := by
  obtain ⟨da, dcp, e⟩ := hx.d.form
  have hxv := hx.val
  subst e; subst hxv
  refine MX.reads fun _ _ hkr _ => ?_
  obtain ⟨ka, kcp, rfl⟩ := hkr.form
  have hbs := BSearchCl_does _ _ ks x.client ⟨by omega, by omega⟩ hs (fun a ha => by obtain ⟨k, hk, rfl⟩ := List.mem_map.1 ha; have := hb k hk; omega) (by omega) h hkr
  refine Does.of Tryz.func58 rfl Tryz.ntmps58 rfl fun c hc0 => ?_
  refine goK _ ?_
  refine Ops.eff rfl rfl rfl (Eff.box rfl) fun _ => Ops.ex fun b3 => Ops.pure ?_
  rintro rfl
  refine goK _ ?_
  first | refine At.drawn mo (fun _ _ m => m.drew _) ?_ | refine At.seq (At.drawn mo (fun _ _ m => m.drew _) ?_)
  refine Dr.val 0 rfl rfl rfl rfl (by kernel_rfl) rfl (Val.move rfl) ?_
  refine Dr.val 1 rfl rfl rfl rfl (by kernel_rfl) rfl (Val.nilCheck rfl) ?_
  refine Dr.val 2 rfl rfl rfl rfl (by kernel_rfl) rfl (V.fieldAddr rfl rfl) ?_
  refine Dr.val 3 rfl rfl rfl rfl (by kernel_rfl) rfl (V.fieldAddr rfl rfl) ?_
  refine Dr.valS 4 _ rfl rfl rfl rfl (by kernel_rfl) rfl (V.load rfl rfl (fun _ hh => hh)) (fun w hw => hw.cell (n := 1) rfl rfl) ?_
  refine Dr.val 5 rfl rfl rfl rfl (by kernel_rfl) rfl (V.fieldAddr rfl rfl) ?_
  refine Dr.valS 6 _ rfl rfl rfl rfl (by kernel_rfl) rfl (V.load rfl rfl (fun _ hh => hh)) (fun w hw => hw.cell (n := 0) rfl rfl) ?_
  refine Dr.next (e := 7) rfl rfl (by kernel_rfl) rfl (by kernel_rfl) (by kernel_rfl) rfl rfl (Eff.callP 3 (fn (by kernel_rfl)) rfl (Ωc := RX csv bsv (.slice ka ks.length kcp) zs ys ks Ωl) (Ωr := []) (by simp) hbs) aokK fun _ => Dr.pure ?_
  rintro ⟨i, f, rfl, hp⟩
  refine Dr.val 8 rfl rfl rfl rfl (by kernel_rfl) rfl (Val.move rfl) ?_
  refine Dr.val 9 rfl rfl rfl rfl (by kernel_rfl) rfl (Val.extract rfl rfl) ?_
  refine Dr.val 10 rfl rfl rfl rfl (by kernel_rfl) rfl (Val.extract rfl rfl) ?_
  refine Dr.val 11 rfl rfl rfl rfl (by kernel_rfl) rfl (Val.assign rfl) ?_
  refine Dr.val 12 rfl rfl rfl rfl (by kernel_rfl) rfl (Val.assign rfl) ?_
  refine Dr.done (by kernel_rfl) (by kernel_rfl) ?_
  have hil : i ≤ ks.length := by have := hp.le; simpa using this
  have hnear : Near x.client := ⟨by omega, by omega⟩
  refine goK _ ?_
  refine At.meet2 (fun (_ : List Ox.Cl) (_ : Value) => [(0, .pointer (some ⟨m, 0, none⟩)), (3, .pointer (some ⟨b3, 0, none⟩)), (4, .int .i64 (i : Int))])
    (fun (ks1 : List Ox.Cl) (kv : Value) w => ((∃ k0, ks1[i]? = some k0 ∧ k0.c = x.client) ∧ ks1.set i ⟨x.client, x.branch, x.seq⟩ = Ox.note ks x) ∧ Mem c (cells b3 [.int .i64 x.kind, .int .i64 x.branch, .int .i64 x.client, .int .i64 x.seq, .int .i64 x.rev, .int .i64 x.who, .slice da x.d.length dcp] 53 :: MX m dm nc nb csv bsv kv M zs ys ks1 Ωl) h w) (fun k' meet => ?_) (fun ks1 kv => At.pure fun hq => ?_)
  · refine At.cond rfl (fun h1 => ?_) (fun h1 => ?_)
    · have hf : f = false := by simpa using h1
      have hni : x.client ∉ ks.map Ox.Cl.c := fun hm => by
        have := hp.iff.2 hm
        rw [hf] at this; cases this
      have hnew := Ox.note_new hil hni (hp.low hnear) (hp.high hnear)
      refine goK _ ?_
      first | refine At.drawn mo (fun _ _ m => m.drew _) ?_ | refine At.seq (At.drawn mo (fun _ _ m => m.drew _) ?_)
      refine Dr.val 0 rfl rfl rfl rfl (by kernel_rfl) rfl (Val.move rfl) ?_
      refine Dr.val 1 rfl rfl rfl rfl (by kernel_rfl) rfl (Val.move rfl) ?_
      refine Dr.val 2 rfl rfl rfl rfl (by kernel_rfl) rfl (Val.nilCheck rfl) ?_
      refine Dr.val 3 rfl rfl rfl rfl (by kernel_rfl) rfl (V.fieldAddr rfl rfl) ?_
      refine Dr.val 4 rfl rfl rfl rfl (by kernel_rfl) rfl (V.fieldAddr rfl rfl) ?_
      refine Dr.valS 5 _ rfl rfl rfl rfl (by kernel_rfl) rfl (V.load rfl rfl (fun _ hh => hh)) (fun w hw => hw.cell (n := 1) rfl rfl) ?_
      refine Dr.val 6 rfl rfl rfl rfl (by kernel_rfl) rfl (Val.move rfl) ?_
      refine Dr.val 7 rfl rfl rfl rfl (by kernel_rfl) rfl (V.fieldAddr rfl rfl) ?_
      refine Dr.valS 8 _ rfl rfl rfl rfl (by kernel_rfl) rfl (V.load rfl rfl (fun _ hh => hh)) (fun w hw => hw.cell (n := 0) rfl rfl) ?_
      refine Dr.val 9 rfl rfl rfl rfl (by kernel_rfl) rfl (V.build rfl rfl rfl) ?_
      refine Dr.next (e := 10) rfl rfl (by kernel_rfl) rfl (by kernel_rfl) (by kernel_rfl) rfl rfl (E.buildSlice1 rfl rfl rfl rfl) aokK fun _ => Dr.ex fun _ => Dr.pure ?_
      rintro rfl
      rename_i bw
      refine Dr.next (e := 11) rfl rfl (by kernel_rfl) rfl (by kernel_rfl) (by kernel_rfl) rfl rfl (Eff.call (fn (by kernel_rfl)) rfl (Ωc := cells bw (clc ⟨x.client, 0, 0⟩) 127 :: cells b3 [.int .i64 x.kind, .int .i64 x.branch, .int .i64 x.client, .int .i64 x.seq, .int .i64 x.rev, .int .i64 x.who, .slice da x.d.length dcp] 53 :: MX m dm nc nb csv bsv (.slice ka ks.length kcp) M zs ys ks Ωl) (Ωr := []) (List.append_nil _).symm
        (Does.frameP (Ωc := [row 127 3 (.slice ka ks.length kcp) ks.length (ks.flatMap clc), cells bw (clc ⟨x.client, 0, 0⟩) 127]) (post2 := fun r Ω' h' => (∃ a cp, r = .slice a (ks.length + 1) cp) ∧ Ω' = cells b3 [.int .i64 x.kind, .int .i64 x.branch, .int .i64 x.client, .int .i64 x.seq, .int .i64 x.rev, .int .i64 x.who, .slice da x.d.length dcp] 53 :: cells m (mcc nc nb csv bsv (.slice ka ks.length kcp) dm) 101 :: mapI key dm M :: row 47 6 csv zs.length (zs.flatMap cmc) :: row 71 3 bsv ys.length (ys.flatMap brc) :: row 127 3 r (ks.length + 1) ((ks.take i ++ ⟨x.client, 0, 0⟩ :: ks.drop i).flatMap clc) :: Ωl ∧ h = h')
          (Ωr := [cells b3 [.int .i64 x.kind, .int .i64 x.branch, .int .i64 x.client, .int .i64 x.seq, .int .i64 x.rev, .int .i64 x.who, .slice da x.d.length dcp] 53, cells m (mcc nc nb csv bsv (.slice ka ks.length kcp) dm) 101, mapI key dm M, row 47 6 csv zs.length (zs.flatMap cmc), row 71 3 bsv ys.length (ys.flatMap brc)] ++ Ωl)
          (List.perm_middle (l₁ := [cells bw (clc ⟨x.client, 0, 0⟩) 127, cells b3 [.int .i64 x.kind, .int .i64 x.branch, .int .i64 x.client, .int .i64 x.seq, .int .i64 x.rev, .int .i64 x.who, .slice da x.d.length dcp] 53, cells m (mcc nc nb csv bsv (.slice ka ks.length kcp) dm) 101, mapI key dm M, row 47 6 csv zs.length (zs.flatMap cmc), row 71 3 bsv ys.length (ys.flatMap brc)]))
          (InsertCl_does (.slice ka ks.length kcp) ks i hil (by omega) ⟨x.client, 0, 0⟩ bw h)
          (fun _ Ω1 h' ⟨h1, h2, h3⟩ => ⟨_, by rw [h2]; exact List.perm_middle (l₁ := [cells b3 [.int .i64 x.kind, .int .i64 x.branch, .int .i64 x.client, .int .i64 x.seq, .int .i64 x.rev, .int .i64 x.who, .slice da x.d.length dcp] 53, cells m (mcc nc nb csv bsv (.slice ka ks.length kcp) dm) 101, mapI key dm M, row 47 6 csv zs.length (zs.flatMap cmc), row 71 3 bsv ys.length (ys.flatMap brc)]), h1, rfl, h3⟩))) aokK fun _ => Dr.ex fun _ => Dr.ex fun _ => Dr.pure ?_
      rintro ⟨⟨xa, xcp, rfl⟩, rfl, rfl⟩
      refine Dr.val 12 rfl rfl rfl rfl (by kernel_rfl) rfl (Val.nilCheck rfl) ?_
      refine Dr.val 13 rfl rfl rfl rfl (by kernel_rfl) rfl (V.fieldAddr rfl rfl) ?_
      refine Dr.val 14 rfl rfl rfl rfl (by kernel_rfl) rfl (V.fieldAddr rfl rfl) ?_
      refine Dr.next0 (e := 15) rfl rfl (by kernel_rfl) rfl (by kernel_rfl) (by kernel_rfl) rfl (E.store 1 rfl rfl rfl rfl rfl rfl rfl) aokK fun _ => ?_
      refine Dr.done (by kernel_rfl) (by kernel_rfl) ?_
      refine meet (ks.take i ++ ⟨x.client, 0, 0⟩ :: ks.drop i) (.slice xa (ks.length + 1) xcp) (by exact ⟨rfl, rfl, rfl, trivial⟩) (fun w hw => ⟨⟨⟨⟨x.client, 0, 0⟩, by rw [List.getElem?_append_right (by rw [List.length_take]; omega), List.length_take, Nat.min_eq_left hil, Nat.sub_self]; rfl, rfl⟩, hnew⟩, ?_⟩)
      rw [List.append_nil] at hw
      unfold MX RX
      rw [show (ks.take i ++ (⟨x.client, 0, 0⟩ : Ox.Cl) :: ks.drop i).length = ks.length + 1 by simp; omega]
      exact hw
    · have hf : f = true := by simpa using h1
      have hat := hp.at_ hf
      have hki : ∃ k0, ks[i]? = some k0 ∧ k0.c = x.client := by
        rw [List.getElem?_map] at hat
        cases hk : ks[i]? with
        | none => rw [hk] at hat; cases hat
        | some k0 => rw [hk] at hat; exact ⟨k0, rfl, Option.some.inj hat⟩
      obtain ⟨k0, hk0, hkc⟩ := hki
      have hold := Ox.note_old hs hk0 hkc
      refine goK _ ?_
      refine meet ks (.slice ka ks.length kcp) (by exact ⟨rfl, rfl, rfl, trivial⟩) (fun w hw => ⟨⟨⟨k0, hk0, hkc⟩, hold⟩, hw⟩)
  obtain ⟨⟨k0, hk0, hkc⟩, hset⟩ := hq
  have hi1 : i < ks1.length := (List.getElem?_eq_some_iff.1 hk0).1
  have hxl : (ks1.flatMap clc).length = ks1.length * 3 := flat_length clc 3 clc_length ks1
  refine At.open_row 5 rfl (by omega) fun g acp rest hvv hl1 hl2 hNN hcp => ?_
  subst hvv
  refine goK _ ?_
  first | refine At.drawn mo (fun _ _ m => m.drew _) ?_ | refine At.seq (At.drawn mo (fun _ _ m => m.drew _) ?_)
  refine Dr.val 0 rfl rfl rfl rfl (by kernel_rfl) rfl (Val.move rfl) ?_
  refine Dr.val 1 rfl rfl rfl rfl (by kernel_rfl) rfl (Val.nilCheck rfl) ?_
  refine Dr.val 2 rfl rfl rfl rfl (by kernel_rfl) rfl (V.fieldAddr rfl rfl) ?_
  refine Dr.val 3 rfl rfl rfl rfl (by kernel_rfl) rfl (V.fieldAddr rfl rfl) ?_
  refine Dr.valS 4 _ rfl rfl rfl rfl (by kernel_rfl) rfl (V.load rfl rfl (fun _ hh => hh)) (fun w hw => hw.cell (n := 1) rfl rfl) ?_
  refine Dr.val 5 rfl rfl rfl rfl (by kernel_rfl) rfl (Val.move rfl) ?_
  refine Dr.val 6 rfl rfl rfl rfl (by kernel_rfl) rfl (Val.move rfl) ?_
  refine Dr.val 7 rfl rfl rfl rfl (by kernel_rfl) rfl (Val.nilCheck rfl) ?_
  refine Dr.val 8 rfl rfl rfl rfl (by kernel_rfl) rfl (V.fieldAddr rfl rfl) ?_
  refine Dr.val 9 rfl rfl rfl rfl (by kernel_rfl) rfl (V.fieldAddr rfl rfl) ?_
  refine Dr.valS 10 _ rfl rfl rfl rfl (by kernel_rfl) rfl (V.load rfl rfl (fun _ hh => hh)) (fun w hw => hw.cell (n := 1) rfl rfl) ?_
  refine Dr.val 11 rfl rfl rfl rfl (by kernel_rfl) rfl (Val.move rfl) ?_
  refine Dr.val 12 rfl rfl rfl rfl (by kernel_rfl) rfl (V.fieldAddr rfl rfl) ?_
  refine Dr.valS 13 _ rfl rfl rfl rfl (by kernel_rfl) rfl (V.load rfl rfl (fun _ hh => hh)) (fun w hw => hw.cell (n := 0) rfl rfl) ?_
  refine Dr.val 14 rfl rfl rfl rfl (by kernel_rfl) rfl (V.fieldAddr rfl rfl) ?_
  refine Dr.valS 15 _ rfl rfl rfl rfl (by kernel_rfl) rfl (V.load rfl rfl (fun _ hh => hh)) (fun w hw => hw.cell (n := 0) rfl rfl) ?_
  refine Dr.val 16 rfl rfl rfl rfl (by kernel_rfl) rfl (V.indexAddr rfl rfl rfl rfl hi1) ?_
  refine Dr.val 17 rfl rfl rfl rfl (by kernel_rfl) rfl (V.fieldAddr rfl rfl) ?_
  refine Dr.next0 (e := 18) rfl rfl (by kernel_rfl) rfl (by kernel_rfl) (by kernel_rfl) rfl (E.store 5 rfl rfl rfl rfl rfl (by simp [hxl]; omega) rfl) aokK fun _ => ?_
  refine Dr.val 19 rfl rfl rfl rfl (by kernel_rfl) rfl (V.indexAddr rfl rfl rfl rfl hi1) ?_
  refine Dr.val 20 rfl rfl rfl rfl (by kernel_rfl) rfl (V.fieldAddr rfl rfl) ?_
  refine Dr.next0 (e := 21) rfl rfl (by kernel_rfl) rfl (by kernel_rfl) (by kernel_rfl) rfl (E.store 5 rfl rfl rfl rfl rfl (by simp [sets_length, hxl]; omega) rfl) aokK fun _ => ?_
  refine Dr.done (by kernel_rfl) (by kernel_rfl) ?_
  obtain ⟨kc, kb, ksq⟩ := k0
  simp only at hkc
  subst hkc
  refine At.close_row (N := ks1.length) (xs := (ks1.set i ⟨x.client, x.branch, x.seq⟩).flatMap clc) (rest := rest) (cp := acp) (e := 127) (size := 3) (g := g) 5 ?_ ?_ ?_ hNN hcp ?_
  · refine congrArg (fun z => some (cells g z 127)) ?_
    show (((ks1.flatMap clc ++ rest).set (0 + i * 3 + 1) (.int .i64 x.branch)).set (0 + i * 3 + 2) (.int .i64 x.seq)) = _
    rw [Nat.zero_add, List.set_append_left _ _ (by omega), List.set_append_left _ _ (by rw [List.length_set, hxl]; omega)]
    congr 1
    rw [flat_set clc_length (x' := ⟨x.client, x.branch, ksq⟩) (by omega) rfl ks1 i hk0, flat_set clc_length (x := ⟨x.client, x.branch, ksq⟩) (x' := ⟨x.client, x.branch, x.seq⟩) (by omega) rfl _ i (by simp [hi1])]
    simp
  · rw [flat_length clc 3 clc_length, List.length_set]
  · rw [← hl2, List.length_append, List.length_append, flat_length clc 3 clc_length, flat_length clc 3 clc_length, List.length_set]
  refine At.fin0 Tryz.results58 (Ω' := MX m dm nc nb csv bsv (.slice (some ⟨g, 0, none⟩) ks1.length acp) M zs ys (Ox.note ks x) Ωl) ?_ ⟨hc0.symm ▸ rfl, _, rfl⟩
  unfold MX RX
  rw [← hset, List.length_set]
  exact List.sublist_cons_self _ _
end Go.Proofs.YthjgbmbaabpgmaaGreat
/-
  The machine: may a client's edit come now.
-/
namespace Go.Proofs.YthjgbmbaabpgmaaGreat
open Go.Sy
set_option maxRecDepth 4000
set_option maxHeartbeats 4000000
theorem find_of {α : Type} {q : α → Bool} : ∀ {l : List α} {i : Nat} {x : α}, l[i]? = some x → q x = true → (∀ y ∈ l.take i, q y = false) → l.find? q = some x
  | [], i, x, h, _, _ => by simp at h
  | a :: r, 0, x, h, hq, _ => by simp at h; subst h; simp [hq]
  | a :: r, i + 1, x, h, hq, hb => by
    have ha := hb a (by simp)
    rw [List.find?_cons_of_neg (by simp [ha])]
    exact find_of (by simpa using h) hq fun y hy => hb y (by simp [hy])
theorem ix_cases {α : Type} (q : α → Bool) (l : List α) : (ixOf q l = -1 ∧ l.find? q = none) ∨ ∃ (i : Nat) (x : α), ixOf q l = (i : Int) ∧ l[i]? = some x ∧ l.find? q = some x := by
  cases hf : l.findIdx? q with
  | none =>
    left
    exact ⟨by unfold ixOf; rw [hf], List.find?_eq_none.2 fun x hx => by have := List.findIdx?_eq_none_iff.1 hf x hx; simp [this]⟩
  | some i =>
    right
    obtain ⟨h1, h2, h3⟩ := List.findIdx?_eq_some_iff_getElem.1 hf
    refine ⟨i, l[i], by unfold ixOf; rw [hf], by simp [h1], find_of (i := i) (by simp [h1]) h2 fun y hy => ?_⟩
    obtain ⟨j, hj, rfl⟩ := List.mem_take_iff_getElem.1 hy
    have := h3 j (by omega)
    simpa using this
attribute [local irreducible] At Ops Val Eff Does Res Dr

theorem isCl_does (k : Ox.Cl) (bx : Nat) (x : Ox.Ms) (dv : Value) (Ωr : List Itm) (h : HV) :
    Does Tryz.prog 100 #[.agg (clc k).toArray, .pointer (some ⟨bx, 0, none⟩)] (cells bx [.int .i64 x.kind, .int .i64 x.branch, .int .i64 x.client, .int .i64 x.seq, .int .i64 x.rev, .int .i64 x.who, dv] 53 :: Ωr) h
      (fun r Ω' h' => r = .bool (decide (k.c = x.client)) ∧ Ω' = cells bx [.int .i64 x.kind, .int .i64 x.branch, .int .i64 x.client, .int .i64 x.seq, .int .i64 x.rev, .int .i64 x.who, dv] 53 :: Ωr ∧ h = h') := by
  refine Does.of Tryz.func100 rfl Tryz.ntmps100 rfl fun c hc0 => ?_
  refine goK _ ?_
  refine Ops.eff rfl rfl rfl (Eff.box rfl) fun _ => Ops.ex fun b2 => Ops.pure ?_
  rintro rfl
  refine goK _ ?_
  exact At.ret1 Tryz.results100 (Res.tmp rfl) (List.sublist_cons_self _ _) ⟨rfl, rfl, hc0.symm ▸ rfl⟩

section
variable (m dm : Nat) (s : Ox.St) (csv bsv ksv : Value) (M : List (Int × Value)) (zs : List CmV) (ys : List BrV) (Ωl : List Itm) (t : Option Nat) (N : Nat) (hN : N ≤ 1000) (inv : Ox.Inv N s) (h : HV) (ok : MOk h s zs ys t) (x : Ox.Ms) (xv dv : Value) (hx : MsH h xv x dv)
include inv ok hx
theorem taken_none (hn : ∀ b ∈ s.bs, b.id ≠ x.branch) :
    Does Tryz.prog 50 #[.pointer (some ⟨m, 0, none⟩), xv] (MS m dm s csv bsv ksv M zs ys Ωl) h (fun r Ω' h' => r = .int .i64 192 ∧ Ω' = MS m dm s csv bsv ksv M zs ys Ωl ∧ h = h') := by
  refine MX.reads fun _ _ _ hbb => ?_
  obtain ⟨bb, hbf⟩ := hbb
  have hby := mbyId_none m dm s csv bsv ksv M zs ys Ωl t N inv h ok bb hbf x.branch hn
  have hxv := hx.val
  subst hxv
  refine Does.of Tryz.func50 rfl Tryz.ntmps50 rfl fun c hc0 => ?_
  refine goK _ ?_
  refine Ops.eff rfl rfl rfl (Eff.box rfl) fun _ => Ops.ex fun b3 => Ops.pure ?_
  rintro rfl
  refine goK _ ?_
  refine Ops.eff rfl rfl rfl (Eff.callP 1 (fn (by kernel_rfl)) rfl (Ωc := MS m dm s csv bsv ksv M zs ys Ωl) (Ωr := []) (by simp) hby) fun _ => Ops.pure ?_
  rintro rfl
  repeat (first | refine Ops.val rfl rfl rfl (Val.eqlPtr Tryz.underlying96 rfl) ?_ | refine goS _ ?_)
  exact At.ret1 Tryz.results50 (Res.tmp rfl) (Ω' := MS m dm s csv bsv ksv M zs ys Ωl) (List.sublist_cons_self _ _) ⟨rfl, rfl, hc0.symm ▸ rfl⟩
include hN in
theorem taken_does (i : Nat) (b : Ox.Br) (lv : Value) (ha : Ox.BrAt s.bs (·.id = x.branch) i b) (hyi : ys[i]? = some ⟨b, lv⟩) (hlf : ∃ a cp, lv = .slice a b.log.length cp) :
    Does Tryz.prog 50 #[.pointer (some ⟨m, 0, none⟩), xv] (MS m dm s csv bsv ksv M zs ys Ωl) h (fun r Ω' h' => r = .int .i64 (Ox.takenE (Ox.lastE s.ks x.client x.branch) b x) ∧ Ω' = MS m dm s csv bsv ksv M zs ys Ωl ∧ h = h') := by
  refine MX.reads fun _ hbr0 hkr hbb => ?_
  obtain ⟨bb, hbf⟩ := hbb
  have hby := mbyId_does m dm s csv bsv ksv M zs ys Ωl t N inv h ok bb hbf x.branch i b ha
  obtain ⟨bcp, rfl, hcy⟩ := br_cells hbr0 hbf hyi
  obtain ⟨la, lcp, rfl⟩ := hlf
  obtain ⟨ka, kcp, rfl⟩ := hkr.form
  have hkl := inv.kslen
  have hks := inv.ks
  have hll := inv.loglen (BrAt.mem ha)
  obtain ⟨da, dcp, e⟩ := hx.d.form
  have hxv := hx.val
  subst e; subst hxv
  refine Does.of Tryz.func50 rfl Tryz.ntmps50 rfl fun c hc0 => ?_
  refine goK _ ?_
  refine Ops.eff rfl rfl rfl (Eff.box rfl) fun _ => Ops.ex fun b3 => Ops.pure ?_
  rintro rfl
  refine goK _ ?_
  refine Ops.eff rfl rfl rfl (Eff.callP 1 (fn (by kernel_rfl)) rfl (Ωc := MS m dm s csv (.slice (some ⟨bb, 0, none⟩) ys.length bcp) (.slice ka s.ks.length kcp) M zs ys Ωl) (Ωr := []) (by simp) hby) fun _ => Ops.pure ?_
  rintro rfl
  repeat (first | refine Ops.val rfl rfl rfl (Val.eqlPtr Tryz.underlying96 rfl) ?_ | refine goS _ ?_)
  refine Ops.eff rfl rfl rfl (E.alloc rfl) fun _ => Ops.ex fun b6 => Ops.pure ?_
  rintro rfl
  refine goK _ ?_
  refine Ops.eff0 rfl rfl (E.store 0 rfl rfl rfl rfl rfl rfl rfl) fun _ => ?_
  refine goK _ ?_
  refine Ops.val rfl rfl rfl (Val.makeFunc (cs := #[.pointer (some ⟨b3, 0, none⟩)]) (fun ρ hρ => by simp [hρ _ _ (show ev _ (.tmp 3) = some _ from rfl)])) ?_
  have hix := IndexCl_does 100 #[.pointer (some ⟨b3, 0, none⟩)] (cells b3 [.int .i64 x.kind, .int .i64 x.branch, .int .i64 x.client, .int .i64 x.seq, .int .i64 x.rev, .int .i64 x.who, .slice da x.d.length dcp] 53 :: MS m dm s csv (.slice (some ⟨bb, 0, none⟩) ys.length bcp) (.slice ka s.ks.length kcp) M zs ys Ωl) (fun k => decide (k.c = x.client)) h _ s.ks (by kernel_rfl) (fun k _ => isCl_does k b3 x _ _ h) (by omega) (hkr.mono (HV.le.refl _) fun i hi => List.mem_cons_of_mem _ (List.mem_cons_of_mem _ (List.mem_cons_of_mem _ hi)))
  refine Ops.eff rfl rfl rfl (Eff.callP 1 (fn (by kernel_rfl)) rfl (Ωc := cells b3 [.int .i64 x.kind, .int .i64 x.branch, .int .i64 x.client, .int .i64 x.seq, .int .i64 x.rev, .int .i64 x.who, .slice da x.d.length dcp] 53 :: MS m dm s csv (.slice (some ⟨bb, 0, none⟩) ys.length bcp) (.slice ka s.ks.length kcp) M zs ys Ωl) (Ωr := []) (List.append_nil _).symm hix) fun _ => Ops.pure ?_
  rintro rfl
  refine Ops.val rfl rfl rfl (Val.assign rfl) ?_
  refine Ops.nil ?_
  have hlE : ∀ k, Ox.lastE s.ks x.client x.branch = k → (k.b = x.branch ∧ k.s = 0) ∨ k ∈ s.ks := fun k hk => by
    unfold Ox.lastE at hk
    cases hf : s.ks.find? (fun k => decide (k.c = x.client)) with
    | none => rw [hf] at hk; subst hk; exact .inl ⟨rfl, rfl⟩
    | some k' => rw [hf] at hk; subst hk; exact .inr (List.mem_of_find?_eq_some hf)
  have hkrR : RowRd clc 3 (cells b3 [.int .i64 x.kind, .int .i64 x.branch, .int .i64 x.client, .int .i64 x.seq, .int .i64 x.rev, .int .i64 x.who, .slice da x.d.length dcp] 53 :: MS m dm s csv (.slice (some ⟨bb, 0, none⟩) ys.length bcp) (.slice ka s.ks.length kcp) M zs ys Ωl) h (.slice ka s.ks.length kcp) s.ks := hkr.mono (HV.le.refl _) fun i hi => List.mem_cons_of_mem _ (List.mem_cons_of_mem _ (List.mem_cons_of_mem _ hi))
  refine goK _ ?_
  refine At.meet1 (fun (_ : Int) => [(0, .pointer (some ⟨m, 0, none⟩)), (3, .pointer (some ⟨b3, 0, none⟩)), (5, .pointer (some ⟨bb, 0 + i * 3, none⟩)), (6, .pointer (some ⟨b6, 0, none⟩))])
    (fun (kc : Int) w => Mem c (cells b6 [.int .i64 kc, .int .i64 (Ox.lastE s.ks x.client x.branch).b, .int .i64 (Ox.lastE s.ks x.client x.branch).s] 127 :: cells b3 [.int .i64 x.kind, .int .i64 x.branch, .int .i64 x.client, .int .i64 x.seq, .int .i64 x.rev, .int .i64 x.who, .slice da x.d.length dcp] 53 :: MS m dm s csv (.slice (some ⟨bb, 0, none⟩) ys.length bcp) (.slice ka s.ks.length kcp) M zs ys Ωl) h w) (fun k' meet => ?_) (fun kc => ?_)
  · rcases ix_cases (fun k : Ox.Cl => decide (k.c = x.client)) s.ks with ⟨e1, e2⟩ | ⟨j, k, e1, e2, e3⟩
    · have hl : Ox.lastE s.ks x.client x.branch = ⟨0, x.branch, 0⟩ := by unfold Ox.lastE; rw [e2]; rfl
      refine At.condP rfl (fun h1 => ?_) (fun h1 => ?_)
      · rw [e1] at h1; omega
      refine goK _ ?_
      refine meet 0 (by exact ⟨rfl, rfl, rfl, rfl, trivial⟩) (fun w hw => ?_)
      rw [hl]; exact hw
    · have hl : Ox.lastE s.ks x.client x.branch = k := by unfold Ox.lastE; rw [e3]; rfl
      refine At.condP rfl (fun h1 => ?_) (fun h1 => ?_)
      rotate_left
      · rw [e1] at h1; omega
      have hjl : j < s.ks.length := (List.getElem?_eq_some_iff.1 e2).1
      obtain ⟨kb, ko, rfl, _, _, hck⟩ := RowRd.elem clc_length hkrR e2
      refine At.respell (t := 7) (v' := .int .i64 (j : Int)) rfl (congrArg (Value.int .i64) e1) ?_
      refine goK _ ?_
      refine Ops.val rfl rfl rfl (V.loadN (cs := clc k) rfl rfl rfl (fun w hw j u hu => Mem.cellR (hck j u hu) (by first | exact fun _ hi => hi | exact fun _ hi => List.mem_cons_of_mem _ hi | exact fun _ hi => List.mem_cons_of_mem _ (List.mem_cons_of_mem _ hi) | simp +contextual | grind) hw)) ?_
      refine Ops.eff0 rfl rfl (E.store 0 rfl rfl rfl rfl rfl rfl rfl) fun _ => ?_
      refine goK _ ?_
      refine meet k.c (by exact ⟨rfl, rfl, rfl, rfl, trivial⟩) (fun w hw => ?_)
      rw [hl]; exact hw
  have hlb := hlE _ rfl
  have hcyR := fun j u hu => (hcy j u hu).mono (HV.le.refl _) (R' := cells b6 [.int .i64 kc, .int .i64 (Ox.lastE s.ks x.client x.branch).b, .int .i64 (Ox.lastE s.ks x.client x.branch).s] 127 :: cells b3 [.int .i64 x.kind, .int .i64 x.branch, .int .i64 x.client, .int .i64 x.seq, .int .i64 x.rev, .int .i64 x.who, .slice da x.d.length dcp] 53 :: MS m dm s csv (.slice (some ⟨bb, 0, none⟩) ys.length bcp) (.slice ka s.ks.length kcp) M zs ys Ωl) fun i hi => List.mem_cons_of_mem _ (List.mem_cons_of_mem _ (List.mem_cons_of_mem _ (List.mem_cons_of_mem _ hi)))
  generalize Ox.lastE s.ks x.client x.branch = k at *
  have hks0 : 0 ≤ k.s ∧ k.s ≤ 1000 := by
    rcases hlb with ⟨_, h1⟩ | h1
    · omega
    · have := hks k h1; omega
  refine goK _ ?_
  refine At.condN rfl (fun h1 => ?_) (fun h1 => ?_)
  · refine goK _ ?_
    exact At.ret1 Tryz.results50 (Res.tmp rfl) (Ω' := MS m dm s csv (.slice (some ⟨bb, 0, none⟩) ys.length bcp) (.slice ka s.ks.length kcp) M zs ys Ωl) ((List.sublist_cons_self _ _).trans (List.sublist_cons_self _ _)) ⟨by rw [Ox.takenE, if_pos h1], rfl, hc0.symm ▸ rfl⟩
  refine goK _ ?_
  refine At.condP rfl (fun h2 => ?_) (fun h2 => ?_)
  · refine goK _ ?_
    exact At.ret1 Tryz.results50 (Res.tmp rfl) (Ω' := MS m dm s csv (.slice (some ⟨bb, 0, none⟩) ys.length bcp) (.slice ka s.ks.length kcp) M zs ys Ωl) ((List.sublist_cons_self _ _).trans (List.sublist_cons_self _ _)) ⟨by rw [Ox.takenE, if_neg (by simpa using h1), if_pos h2], rfl, hc0.symm ▸ rfl⟩
  refine goK _ ?_
  refine At.condP rfl (fun h3 => ?_) (fun h3 => ?_)
  · refine goK _ ?_
    exact At.ret1 Tryz.results50 (Res.tmp rfl) (Ω' := MS m dm s csv (.slice (some ⟨bb, 0, none⟩) ys.length bcp) (.slice ka s.ks.length kcp) M zs ys Ωl) ((List.sublist_cons_self _ _).trans (List.sublist_cons_self _ _)) ⟨by rw [Ox.takenE, if_neg (by simpa using h1), if_neg h2, if_pos h3], rfl, hc0.symm ▸ rfl⟩
  refine goK _ ?_
  first | refine At.drawn mo (fun _ _ m => m.drew _) ?_ | refine At.seq (At.drawn mo (fun _ _ m => m.drew _) ?_)
  refine Dr.val 0 rfl rfl rfl rfl (by kernel_rfl) rfl (V.fieldAddr rfl rfl) ?_
  refine Dr.valS 1 _ rfl rfl rfl rfl (by kernel_rfl) rfl (V.load rfl rfl (fun _ hh => hh)) (fun w hw => hw.cell (n := 1) rfl rfl) ?_
  refine Dr.val 2 rfl rfl rfl rfl (by kernel_rfl) rfl (Val.lss rfl rfl) ?_
  refine Dr.val 3 rfl rfl rfl rfl (by kernel_rfl) rfl (Val.move rfl) ?_
  refine Dr.boolP (t := 57) rfl (fun h4 => ?_) (fun h4 => ?_)
  · refine Dr.skip 4 rfl rfl rfl rfl (by kernel_rfl) rfl ?_
    refine Dr.skip 5 rfl rfl rfl rfl (by kernel_rfl) rfl ?_
    refine Dr.skip 6 rfl rfl rfl rfl (by kernel_rfl) rfl ?_
    refine Dr.skip 7 rfl rfl rfl rfl (by kernel_rfl) rfl ?_
    refine Dr.skip 8 rfl rfl rfl rfl (by kernel_rfl) rfl ?_
    refine Dr.skip 9 rfl rfl rfl rfl (by kernel_rfl) rfl ?_
    refine Dr.skip 10 rfl rfl rfl rfl (by kernel_rfl) rfl ?_
    refine Dr.skip 11 rfl rfl rfl rfl (by kernel_rfl) rfl ?_
    refine Dr.val 12 rfl rfl rfl rfl (by kernel_rfl) rfl (Val.pick rfl rfl) ?_
    refine Dr.val 13 rfl rfl rfl rfl (by kernel_rfl) rfl (Val.assign rfl) ?_
    refine Dr.done (by kernel_rfl) (by kernel_rfl) ?_
    refine goK _ ?_
    exact At.ret1 Tryz.results50 (Res.tmp rfl) (Ω' := MS m dm s csv (.slice (some ⟨bb, 0, none⟩) ys.length bcp) (.slice ka s.ks.length kcp) M zs ys Ωl) ((List.sublist_cons_self _ _).trans (List.sublist_cons_self _ _)) ⟨by rw [Ox.takenE, if_neg (by simpa using h1), if_neg h2, if_neg h3, if_pos (.inl h4)], rfl, hc0.symm ▸ rfl⟩
  refine Dr.val 4 rfl rfl rfl rfl (by kernel_rfl) rfl (V.fieldAddr rfl rfl) ?_
  refine Dr.valS 5 _ rfl rfl rfl rfl (by kernel_rfl) rfl (V.load rfl rfl (fun _ hh => hh)) (fun w hw => hw.cell (n := 1) rfl rfl) ?_
  refine Dr.val 6 rfl rfl rfl rfl (by kernel_rfl) rfl (Val.move rfl) ?_
  refine Dr.val 7 rfl rfl rfl rfl (by kernel_rfl) rfl (Val.nilCheck rfl) ?_
  refine Dr.val 8 rfl rfl rfl rfl (by kernel_rfl) rfl (V.fieldAddr rfl rfl) ?_
  refine Dr.valS 9 _ rfl rfl rfl rfl (by kernel_rfl) rfl (V.load rfl rfl (fun _ hh => hh)) (fun w hw => Mem.cellR (hcyR 2 (.slice la b.log.length lcp) rfl) (by first | exact fun _ hi => hi | exact fun _ hi => List.mem_cons_of_mem _ hi | exact fun _ hi => List.mem_cons_of_mem _ (List.mem_cons_of_mem _ hi) | simp +contextual | grind) hw) ?_
  refine Dr.val 10 rfl rfl rfl rfl (by kernel_rfl) rfl (V.lenslice rfl rfl) ?_
  refine Dr.val 11 rfl rfl rfl rfl (by kernel_rfl) rfl (Val.geq rfl rfl) ?_
  refine Dr.val 12 rfl rfl rfl rfl (by kernel_rfl) rfl (Val.pick rfl rfl) ?_
  refine Dr.val 13 rfl rfl rfl rfl (by kernel_rfl) rfl (Val.assign rfl) ?_
  refine Dr.done (by kernel_rfl) (by kernel_rfl) ?_
  refine At.condP rfl (fun h5 => ?_) (fun h5 => ?_)
  · refine goK _ ?_
    exact At.ret1 Tryz.results50 (Res.tmp rfl) (Ω' := MS m dm s csv (.slice (some ⟨bb, 0, none⟩) ys.length bcp) (.slice ka s.ks.length kcp) M zs ys Ωl) ((List.sublist_cons_self _ _).trans (List.sublist_cons_self _ _)) ⟨by rw [Ox.takenE, if_neg (by simpa using h1), if_neg h2, if_neg h3, if_pos (.inr h5)], rfl, hc0.symm ▸ rfl⟩
  refine goK _ ?_
  exact At.ret1 Tryz.results50 (Res.tmp rfl) (Ω' := MS m dm s csv (.slice (some ⟨bb, 0, none⟩) ys.length bcp) (.slice ka s.ks.length kcp) M zs ys Ωl) ((List.sublist_cons_self _ _).trans (List.sublist_cons_self _ _)) ⟨by rw [Ox.takenE, if_neg (by simpa using h1), if_neg h2, if_neg h3, if_neg (fun hh => hh.elim h4 h5)], rfl, hc0.symm ▸ rfl⟩
end
end Go.Proofs.YthjgbmbaabpgmaaGreat
