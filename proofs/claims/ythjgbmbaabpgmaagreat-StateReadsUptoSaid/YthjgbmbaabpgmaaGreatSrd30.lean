/-
  Deltas behind one another: pair, tidy, the closure that puts out.
-/
import Derived.Test.YthjgbmbaabpgmaaGreatSrd05
import Derived.Test.YthjgbmbaabpgmaaGreatSrd29
import Derived.Test.YthjgbmbaabpgmaaGreatSrd15
set_option linter.unusedVariables false
set_option linter.unusedSimpArgs false
set_option linter.unusedSectionVars false
namespace Go.Proofs.YthjgbmbaabpgmaaGreat
open Go.Sy
set_option maxRecDepth 4000
set_option maxHeartbeats 4000000
namespace Ox
/-- put out: what is nothing is left out -/
def addF (st : List Op × Int) (o : Op) : List Op × Int := if o.text = [] ∧ o.n = 0 then st else (st.1 ++ [o], st.2 + shownI o)
/-- operations of one kind joined -/
def joinStep (l : List Op) (o : Op) : List Op := match l.getLast? with
  | some q => if q.kind = o.kind then l.dropLast ++ [⟨q.kind, q.n + o.n, q.text ++ o.text⟩] else l ++ [o]
  | none => l ++ [o]
def joinAll (d : List Op) : List Op := d.foldl joinStep []
theorem joinAll_snoc (d : List Op) (o : Op) : joinAll (d ++ [o]) = joinStep (joinAll d) o := by simp [joinAll]
/-- how long all texts are, how much all go along -/
def tot (d : List Op) : Nat := (d.map fun o => o.text.length).sum
def totn (d : List Op) : Int := (d.map fun o => o.n).sum
theorem joinStep_tot (l : List Op) (o : Op) : tot (joinStep l o) = tot l + o.text.length ∧ totn (joinStep l o) = totn l + o.n := by
  unfold joinStep
  rcases l.eq_nil_or_concat with rfl | ⟨r, q, rfl⟩
  · simp [tot, totn]
  · simp only [List.concat_eq_append, List.getLast?_concat, List.dropLast_concat]
    split <;> simp [tot, totn] <;> omega
theorem joinStep_pos (l : List Op) (o : Op) (hl : ∀ q ∈ l, 0 ≤ q.n) (ho : 0 ≤ o.n) : ∀ q ∈ joinStep l o, 0 ≤ q.n := by
  unfold joinStep
  rcases l.eq_nil_or_concat with rfl | ⟨r, p, rfl⟩
  · simpa using ho
  · have hp := hl p (by simp)
    simp only [List.concat_eq_append, List.getLast?_concat, List.dropLast_concat]
    split
    · intro q hq
      rcases List.mem_append.1 hq with h | h
      · exact hl q (by simp [h])
      · simp at h; subst h; simp only; omega
    · intro q hq
      rcases List.mem_append.1 hq with h | h
      · exact hl q (by simpa using h)
      · simp at h; subst h; exact ho
theorem joinStep_length (l : List Op) (o : Op) : (joinStep l o).length ≤ l.length + 1 := by
  unfold joinStep
  rcases l.eq_nil_or_concat with rfl | ⟨r, q, rfl⟩
  · simp
  · simp only [List.concat_eq_append, List.getLast?_concat, List.dropLast_concat]
    split <;> simp
theorem sum_ge : ∀ {l : List Op} {q : Op}, (∀ o ∈ l, 0 ≤ o.n) → q ∈ l → q.text.length ≤ tot l ∧ q.n ≤ totn l ∧ 0 ≤ totn l
  | [], _, _, h => by simp at h
  | a :: r, q, hl, h => by
    have ha := hl a (by simp)
    have hr : 0 ≤ totn r := by
      cases r with
      | nil => simp [totn]
      | cons b r' => exact (sum_ge (q := b) (fun o ho => hl o (by simp [ho])) (by simp)).2.2
    simp only [tot, totn, List.map_cons, List.sum_cons] at *
    rcases List.mem_cons.1 h with rfl | h
    · omega
    · have := sum_ge (q := q) (fun o ho => hl o (by simp [ho])) h
      simp only [tot, totn] at this
      omega
theorem tot_take (d : List Op) (i : Nat) : tot (d.take i) ≤ tot d := by
  have : tot d = tot (d.take i) + tot (d.drop i) := by
    unfold tot; rw [← List.sum_append, ← List.map_append, List.take_append_drop]
  omega
theorem totn_take {d : List Op} (h : ∀ o ∈ d, 0 ≤ o.n) (i : Nat) : totn (d.take i) ≤ totn d := by
  have e : totn d = totn (d.take i) + totn (d.drop i) := by
    unfold totn; rw [← List.sum_append, ← List.map_append, List.take_append_drop]
  have : 0 ≤ totn (d.drop i) := by
    cases hd : d.drop i with
    | nil => simp [totn]
    | cons b r => exact (sum_ge (l := b :: r) (q := b) (fun o ho => h o (List.mem_of_mem_drop (hd ▸ ho))) (by simp)).2.2
  omega
theorem joinAll_facts (d : List Op) (h : ∀ o ∈ d, 0 ≤ o.n) : tot (joinAll d) = tot d ∧ totn (joinAll d) = totn d ∧ (∀ q ∈ joinAll d, 0 ≤ q.n) ∧ (joinAll d).length ≤ d.length := by
  rcases d.eq_nil_or_concat with rfl | ⟨r, q, rfl⟩
  · simp [joinAll, tot, totn]
  · rw [List.concat_eq_append] at h ⊢
    obtain ⟨h1, h2, h3, h4⟩ := joinAll_facts r fun o ho => h o (by simp [ho])
    rw [joinAll_snoc]
    have h5 := joinStep_tot (joinAll r) q
    have h6 := joinStep_length (joinAll r) q
    refine ⟨by rw [h5.1, h1]; simp [tot], by rw [h5.2, h2]; simp [totn], joinStep_pos _ _ h3 (h q (by simp)), by simp; omega⟩
termination_by d.length
decreasing_by subst_vars; simp
end Ox
attribute [local irreducible] At Ops Val Eff Does Res Dr

theorem pair_does (u v : Value) (a b : List Ox.Op) (ha : ∀ o ∈ a, o.text.length ≤ 10000000000) (hb : ∀ o ∈ b, o.text.length ≤ 10000000000) (h : HV) (hu : OpsH h u a) (hv : OpsH h v b) :
    Does Tryz.prog 106 #[u, v] [] h (fun r Ω' h' => Ω' = [] ∧ HV.le h h' ∧ (((Ox.lens a).2.2 ≠ 0 ∧ r = .tuple #[.slice none 0 0, .slice none 0 0, .int .i64 ((Ox.lens a).2.2 : Int)]) ∨
      (∃ da u', (Ox.lens a).2.2 = 0 ∧ Ox.parseAll a = some da ∧ OpsH h' u' (Ox.norm da) ∧ (((Ox.lens b).2.2 ≠ 0 ∧ r = .tuple #[u', .slice none 0 0, .int .i64 ((Ox.lens b).2.2 : Int)]) ∨
        (∃ db v', (Ox.lens b).2.2 = 0 ∧ Ox.parseAll b = some db ∧ OpsH h' v' (Ox.norm db) ∧ r = .tuple #[u', v', .int .i64 0]))))) := by
  refine Does.of Tryz.func106 rfl Tryz.ntmps106 rfl fun c hc0 => ?_
  refine goK _ ?_
  refine Ops.eff rfl rfl rfl (Eff.call (fn (by kernel_rfl)) rfl (Ωc := []) rfl (Normal_does u a ha h hu)) fun _ => Ops.ex fun _ => Ops.ex fun _ => Ops.pure ?_
  rintro ⟨rfl, hle1, hq⟩
  rcases hq with ⟨da, u', h0, hpa, rfl, hu'⟩ | ⟨hne, rfl⟩
  rotate_left
  · refine goK _ ?_
    refine At.condN rfl (fun h1 => ?_) (fun h1 => ?_)
    · refine goK _ ?_
      exact At.ret3 Tryz.results106 (Res.tmp rfl) (Res.tmp rfl) (Res.tmp rfl) (List.nil_sublist _) ⟨rfl, hle1, .inl ⟨hne, rfl⟩⟩
    · omega
  refine goK _ ?_
  refine Ops.eff rfl rfl rfl (Eff.call (fn (by kernel_rfl)) rfl (Ωc := []) rfl (Normal_does v b hb _ (hv.mono hle1))) fun _ => Ops.ex fun _ => Ops.ex fun _ => Ops.pure ?_
  rintro ⟨rfl, hle2, hq⟩
  rcases hq with ⟨db, v', h0b, hpb, rfl, hv'⟩ | ⟨hne, rfl⟩
  · refine goK _ ?_
    exact At.ret3 Tryz.results106 (Res.tmp rfl) (Res.tmp rfl) (Res.tmp rfl) (List.nil_sublist _) ⟨rfl, hle1.trans hle2, .inr ⟨da, u', h0, hpa, hu'.mono hle2, .inr ⟨db, v', h0b, hpb, hv', rfl⟩⟩⟩
  · refine goK _ ?_
    exact At.ret3 Tryz.results106 (Res.tmp rfl) (Res.tmp rfl) (Res.tmp rfl) (List.nil_sublist _) ⟨rfl, hle1.trans hle2, .inr ⟨da, u', h0, hpa, hu'.mono hle2, .inl ⟨hne, rfl⟩⟩⟩

/-- what is put out, in memory -/
def AdM (b1 b2 : Nat) (v : Value) (st : List Ox.Op × Int) : List Itm := [cells b1 [v] 38, row 112 3 v st.1.length (st.1.flatMap opc), cells b2 [.int .i64 st.2] 3]
theorem addc_does (b1 b2 : Nat) (v : Value) (st : List Ox.Op × Int) (k n : Int) (t : List UInt8) (ht : t.length ≤ 10000000000) (hn : 0 ≤ n ∧ n ≤ 10000000000) (hl : st.1.length ≤ 10000000000) (hs : -1000000000000000 ≤ st.2 ∧ st.2 ≤ 1000000000000000) (h : HV) :
    Does Tryz.prog 108 #[.int .i64 k, str t, .int .i64 n, .pointer (some ⟨b1, 0, none⟩), .pointer (some ⟨b2, 0, none⟩)] (AdM b1 b2 v st) h (fun r Ω' h' => (∃ v', Ω' = AdM b1 b2 v' (Ox.addF st ⟨k, n, t⟩)) ∧ h = h') := by
  unfold AdM
  obtain ⟨out, sz⟩ := st
  simp only at hl hs
  show Does Tryz.prog 108 _ [cells b1 [v] 38, row 112 3 v out.length (out.flatMap opc), cells b2 [.int .i64 sz] 3] h _
  refine Does.of Tryz.func108 rfl Tryz.ntmps108 rfl fun c hc0 => ?_
  refine goK _ ?_
  refine Ops.forkR 13 (.bool (decide (t = [] ∧ n = 0))) [0, 1, 2, 3, 4] ?_ (fun main => ?_)
  rotate_left
  · repeat' (first
      | refine opS _ ?_
      | refine Ops.gsplit rfl rfl (fun hb => ?_) (fun hb => ?_)
      | refine Ops.psplit rfl (fun hb => ?_) (fun hb => ?_))
    all_goals (refine Ops.nil ?_; refine main.sub ⟨congrArg (fun b => some (Value.bool b)) ?_, (by repeat (first | exact trivial | refine ⟨rfl, ?_⟩))⟩; clear main; (rw [Bool.eq_iff_iff]; simp at *; try simp [*]))
  refine At.condP rfl (fun h1 => ?_) (fun h1 => ?_)
  · refine goK _ ?_
    exact At.ret0 Tryz.results108 (List.Sublist.refl _) ⟨⟨v, by rw [Ox.addF, if_pos h1]⟩, hc0.symm ▸ rfl⟩
  refine goK _ ?_
  refine Ops.eff rfl rfl rfl (E.buildSlice1 rfl rfl rfl rfl) fun _ => Ops.ex fun _ => Ops.pure ?_
  rintro rfl
  refine Ops.eff rfl rfl rfl (E.append1s 1 rfl rfl rfl rfl rfl rfl (by omega) (by omega)) fun _ => Ops.ex fun g2 => Ops.ex fun cp2 => Ops.pure ?_
  rintro rfl
  refine Ops.eff0 rfl rfl (E.store 0 rfl rfl rfl rfl rfl rfl rfl) fun _ => ?_
  refine goK _ ?_
  have htl := Ox.tlen_le t
  have hsh : -1 ≤ Ox.shownI ⟨k, n, t⟩ ∧ Ox.shownI ⟨k, n, t⟩ ≤ 10000000000 := by
    unfold Ox.shownI; simp only; split
    · omega
    · split
      · have := htl; omega
      · omega
  refine At.open_row (N := out.length + 1) (xs := out.flatMap opc ++ opc ⟨k, n, t⟩) 1 rfl (by omega) fun g cp rest e hl1 hl2 hN hcp => ?_
  cases e
  have hfl : (out.flatMap opc).length = out.length * 3 := flat_length opc 3 (fun _ => rfl) out
  have hdr : ((out.flatMap opc ++ opc ⟨k, n, t⟩ ++ rest).drop (0 + out.length * 3)).take (opc ⟨k, n, t⟩).length = opc ⟨k, n, t⟩ := by
    rw [Nat.zero_add, List.append_assoc, List.drop_append_of_le_length (by omega), List.drop_eq_nil_of_le (by omega), List.nil_append, List.take_append_of_le_length (Nat.le_refl _), List.take_length]
  first | refine At.drawn mo (fun _ _ m => m.drew _) ?_ | refine At.seq (At.drawn mo (fun _ _ m => m.drew _) ?_)
  refine Dr.valS 0 _ rfl rfl rfl rfl (by kernel_rfl) rfl (V.load rfl rfl (fun _ hh => hh)) (fun w hw => hw.cell (n := 2) rfl rfl) ?_
  refine Dr.valS 1 _ rfl rfl rfl rfl (by kernel_rfl) rfl (V.load rfl rfl (fun _ hh => hh)) (fun w hw => hw.cell (n := 0) rfl rfl) ?_
  refine Dr.valS 2 _ rfl rfl rfl rfl (by kernel_rfl) rfl (V.load rfl rfl (fun _ hh => hh)) (fun w hw => hw.cell (n := 0) rfl rfl) ?_
  refine Dr.val 3 rfl rfl rfl rfl (by kernel_rfl) rfl (V.lenslice rfl rfl) ?_
  refine Dr.val 4 rfl rfl rfl rfl (by kernel_rfl) rfl (Val.sub rfl rfl (by omega) (by omega)) ?_
  refine Dr.respell (t := 25) (v' := .int .i64 ((out.length : Nat) : Int)) rfl (by congr 1; omega) ?_
  refine Dr.val 5 rfl rfl rfl rfl (by kernel_rfl) rfl (V.indexAddr rfl rfl rfl rfl (by omega)) ?_
  refine Dr.valS 6 _ rfl rfl rfl rfl (by kernel_rfl) rfl (V.loadN (cs := opc ⟨k, n, t⟩) rfl rfl rfl (fun _ hh => hh)) (fun w hw => hw.cellsAt (n := 1) rfl hdr) ?_
  refine Dr.next (e := 7) rfl rfl (by kernel_rfl) rfl (by kernel_rfl) (by kernel_rfl) rfl rfl (Eff.call (fn (by kernel_rfl)) rfl (Ωc := []) rfl (shown_does ⟨k, n, t⟩ ht h)) aokK fun _ => Dr.ex fun _ => Dr.ex fun _ => Dr.pure ?_
  rintro ⟨rfl, rfl, rfl⟩
  refine Dr.val 8 rfl rfl rfl rfl (by kernel_rfl) rfl (Val.add rfl rfl (by omega) (by omega)) ?_
  refine Dr.next0 (e := 9) rfl rfl (by kernel_rfl) rfl (by kernel_rfl) (by kernel_rfl) rfl (E.store 2 rfl rfl rfl rfl rfl rfl rfl) aokK fun _ => ?_
  refine Dr.done (by kernel_rfl) (by kernel_rfl) ?_
  refine At.close_row (N := out.length + 1) (xs := out.flatMap opc ++ opc ⟨k, n, t⟩) (rest := rest) (cp := cp2) (e := 112) (size := 3) (g := g2) 1 rfl hl1 hl2 hN hcp ?_
  refine At.fin0 Tryz.results108 (List.Sublist.refl _) ⟨⟨.slice (some ⟨g2, 0, none⟩) (out.length + 1) cp2, ?_⟩, hc0.symm ▸ rfl⟩
  have e1 : Ox.addF (out, sz) ⟨k, n, t⟩ = (out ++ [⟨k, n, t⟩], sz + Ox.shownI ⟨k, n, t⟩) := by rw [Ox.addF, if_neg h1]
  have e2 : (out ++ [(⟨k, n, t⟩ : Ox.Op)]).flatMap opc = out.flatMap opc ++ opc ⟨k, n, t⟩ := by simp
  rw [e1]
  show _ = [cells b1 _ 38, row 112 3 _ (out ++ [_]).length ((out ++ [_]).flatMap opc), _]
  rw [e2, List.length_append]
  rfl

theorem tidy_does (v : Value) (d : List Ox.Op) (hn : ∀ o ∈ d, 0 ≤ o.n) (hl : d.length ≤ 1000000000) (ht : Ox.tot d ≤ 1000000000) (htn : Ox.totn d ≤ 1000000000000000) (h : HV) (hv : OpsH h v d) :
    Does Tryz.prog 110 #[v] [] h (fun r Ω' h' => Ω' = [] ∧ HV.le h h' ∧ ((∃ ds, (Ox.lens (Ox.joinAll d)).2.2 = 0 ∧ Ox.parseAll (Ox.joinAll d) = some ds ∧ OpsH h' r (Ox.norm ds)) ∨ ((Ox.lens (Ox.joinAll d)).2.2 ≠ 0 ∧ r = .slice none 0 0))) := by
  obtain ⟨a, cp, rfl⟩ := hv.form
  refine Does.of Tryz.func110 rfl Tryz.ntmps110 rfl fun c hc0 => ?_
  refine goK _ ?_
  refine At.row_nil 112 3 ?_
  refine At.loop2 (fun (i : Nat) (u : Value) => [(3, u), (9, .slice a d.length cp), (10, .int .i64 (d.length : Int)), (11, .int .i64 (i : Int))])
    (fun (i : Nat) (u : Value) w => i ≤ d.length ∧ Mem c [row 112 3 u (Ox.joinAll (d.take i)).length ((Ox.joinAll (d.take i)).flatMap opc)] h w) (fun (i : Nat) (_ : Value) => d.length - i)
    0 (.slice none 0 0) ⟨rfl, rfl, rfl, rfl, trivial⟩ (fun w hw => ⟨Nat.zero_le _, hw⟩) (fun i u => At.pure (fun hi => ?_))
  have hft := Ox.joinAll_facts (d.take i) fun o ho => hn o (List.mem_of_mem_take ho)
  have htt := Ox.tot_take d i
  have httn := Ox.totn_take hn i
  refine goK _ ?_
  refine At.condP rfl (fun h1 => ?_) (fun h1 => ?_)
  rotate_left
  · obtain rfl : i = d.length := by omega
    rw [List.take_length] at hft ⊢
    refine At.publish_row 0 rfl fun h2 hle2 hsl2 => ?_
    refine goK _ ?_
    refine Ops.eff rfl rfl rfl (Eff.call (fn (by kernel_rfl)) rfl (Ωc := []) rfl (Normal_does u (Ox.joinAll d) (fun o ho => by have := (Ox.sum_ge hft.2.2.1 ho).1; omega) h2 hsl2)) fun _ => Ops.ex fun _ => Ops.ex fun _ => Ops.pure ?_
    rintro ⟨rfl, hle3, hq⟩
    rcases hq with ⟨ds, u', h0, hpa, rfl, hu'⟩ | ⟨hne, rfl⟩
    · refine goK _ ?_
      exact At.ret1 Tryz.results110 (Res.tmp rfl) (List.nil_sublist _) ⟨rfl, hle2.trans hle3, .inl ⟨ds, h0, hpa, hu'⟩⟩
    · refine goK _ ?_
      exact At.ret1 Tryz.results110 (Res.tmp rfl) (List.nil_sublist _) ⟨rfl, hle2.trans hle3, .inr ⟨hne, rfl⟩⟩
  have hlt : i < d.length := by omega
  obtain ⟨b, o, rfl, _, _, hc⟩ := RowH.elem opc_length hv (i := i) (x := d[i]) (by simp [hlt])
  have hts : d.take (i + 1) = d.take i ++ [d[i]] := by rw [List.take_succ_eq_append_getElem hlt]
  have hx0 := hn d[i] (by simp)
  have hxs := Ox.sum_ge hn (q := d[i]) (by simp)
  have hst := Ox.joinAll_snoc (d.take i) d[i]
  rw [← hts] at hst
  generalize hJ : Ox.joinAll (d.take i) = J at *
  generalize hx : d[i] = x at *
  obtain ⟨xk, xn, xt⟩ := x
  simp only at hx0 hxs
  have hJl : J.length ≤ d.length := by have := hft.2.2.2; rw [List.length_take] at this; omega
  repeat (first | refine Ops.val rfl rfl rfl (V.loadHA (cs := [.int .i64 xk, .int .i64 xn, str xt]) rfl rfl rfl hc) ?_ | refine goS _ ?_)
  refine Ops.eff rfl rfl rfl (E.alloc rfl) fun _ => Ops.ex fun b5 => Ops.pure ?_
  rintro rfl
  refine Ops.eff0 rfl rfl (E.store 0 rfl rfl rfl rfl rfl rfl rfl) fun _ => ?_
  refine Ops.nil ?_
  refine At.row_form 1 rfl fun ua ucp eu => ?_
  subst eu
  refine goK _ ?_
  rcases J.eq_nil_or_concat with rfl | ⟨l0, q, rfl⟩
  · first | refine At.drawn mo (fun _ _ m => m.drew _) ?_ | refine At.seq (At.drawn mo (fun _ _ m => m.drew _) ?_)
    refine draA 0 _ ?_
    refine draA 1 _ ?_
    refine draA 2 _ ?_
    refine Dr.boolP (t := 20) rfl (fun h2 => ?_) (fun h2 => ?_)
    · simp at h2
    refine draA 3 _ ?_
    refine draA 4 _ ?_
    refine draA 5 _ ?_
    refine draA 6 _ ?_
    refine draA 7 _ ?_
    refine draA 8 _ ?_
    refine draA 9 _ ?_
    refine draA 10 _ ?_
    refine draA 11 _ ?_
    refine Dr.done (by kernel_rfl) (by kernel_rfl) ?_
    repeat (first | refine Ops.val rfl rfl rfl (V.loadOA 0 rfl rfl rfl rfl) ?_ | refine goS _ ?_)
    refine Ops.eff rfl rfl rfl (E.buildSlice1 rfl rfl rfl rfl) fun _ => Ops.ex fun _ => Ops.pure ?_
    rintro rfl
    refine Ops.eff rfl rfl rfl (E.append1s 1 rfl rfl rfl rfl rfl rfl (by simp) (by simp)) fun _ => Ops.ex fun g2 => Ops.ex fun cp2 => Ops.pure ?_
    rintro rfl
    refine goK _ ?_
    refine At.back2 (i + 1) (.slice (some ⟨g2, 0, none⟩) 1 cp2) (by omega) (by exact ⟨rfl, rfl, rfl, rfl, trivial⟩) (fun w hw => ⟨by omega, ?_⟩)
    rw [hst]
    exact hw.sub (List.sublist_cons_self _ _)
  simp only [List.concat_eq_append] at *
  have hjs : Ox.joinStep (l0 ++ [q]) ⟨xk, xn, xt⟩ = if q.kind = xk then l0 ++ [⟨q.kind, q.n + xn, q.text ++ xt⟩] else l0 ++ [q] ++ [⟨xk, xn, xt⟩] := by
    simp [Ox.joinStep]
  have hq := Ox.sum_ge hft.2.2.1 (q := q) (by simp)
  have hq0 := hft.2.2.1 q (by simp)
  have hln : (l0 ++ [q]).length = l0.length + 1 := by simp
  have hll : l0.length + 1 ≤ d.length := by rw [← hln]; exact hJl
  have hxl : ((l0 ++ [q]).flatMap opc).length = (l0 ++ [q]).length * 3 := flat_length opc 3 (fun _ => rfl) _
  refine At.open_row 1 rfl (by simp) fun g acp rest hv' hl1 hl2 hN hcp => ?_
  cases hv'
  have hfl : (l0.flatMap opc).length = l0.length * 3 := flat_length opc 3 (fun _ => rfl) l0
  have hfm : (l0 ++ [q]).flatMap opc ++ rest = l0.flatMap opc ++ (opc q ++ rest) := by simp
  rw [hfm]
  first | refine At.drawn mo (fun _ _ m => m.drew _) ?_ | refine At.seq (At.drawn mo (fun _ _ m => m.drew _) ?_)
  refine Dr.val 0 rfl rfl rfl rfl (by kernel_rfl) rfl (Val.move rfl) ?_
  refine Dr.val 1 rfl rfl rfl rfl (by kernel_rfl) rfl (Val.geq rfl rfl) ?_
  refine Dr.val 2 rfl rfl rfl rfl (by kernel_rfl) rfl (Val.move rfl) ?_
  refine Dr.boolP (t := 20) rfl (fun h2 => ?_) (fun h2 => ?_)
  rotate_left
  · simp at h2
  refine Dr.val 3 rfl rfl rfl rfl (by kernel_rfl) rfl (Val.move rfl) ?_
  refine Dr.val 4 rfl rfl rfl rfl (by kernel_rfl) rfl (Val.move rfl) ?_
  refine Dr.respell (t := 22) (v' := .int .i64 ((l0.length : Nat) : Int)) rfl (by simp) ?_
  refine Dr.val 5 rfl rfl rfl rfl (by kernel_rfl) rfl (V.indexAddr rfl rfl rfl rfl (by simp)) ?_
  refine Dr.val 6 rfl rfl rfl rfl (by kernel_rfl) rfl (V.fieldAddr rfl rfl) ?_
  refine Dr.valS 7 _ rfl rfl rfl rfl (by kernel_rfl) rfl (V.load rfl rfl (fun _ hh => hh)) (fun w hw => hw.cell (n := 1) (v := .int .i64 q.kind) rfl (by rw [List.getElem?_append_right (by omega)]; simp [hfl, opc])) ?_
  refine Dr.val 8 rfl rfl rfl rfl (by kernel_rfl) rfl (V.fieldAddr rfl rfl) ?_
  refine Dr.valS 9 _ rfl rfl rfl rfl (by kernel_rfl) rfl (V.load rfl rfl (fun _ hh => hh)) (fun w hw => hw.cell (n := 0) rfl rfl) ?_
  refine Dr.val 10 rfl rfl rfl rfl (by kernel_rfl) rfl (Val.eql rfl rfl) ?_
  refine Dr.val 11 rfl rfl rfl rfl (by kernel_rfl) rfl (Val.pick rfl rfl) ?_
  refine Dr.done (by kernel_rfl) (by kernel_rfl) ?_
  refine goK _ ?_
  refine At.condP rfl (fun h3 => ?_) (fun h3 => ?_)
  · refine goK _ ?_
    first | refine At.drawn mo (fun _ _ m => m.drew _) ?_ | refine At.seq (At.drawn mo (fun _ _ m => m.drew _) ?_)
    refine Dr.val 0 rfl rfl rfl rfl (by kernel_rfl) rfl (Val.move rfl) ?_
    refine Dr.val 1 rfl rfl rfl rfl (by kernel_rfl) rfl (Val.move rfl) ?_
    refine Dr.respell (t := 31) (v' := .int .i64 ((l0.length : Nat) : Int)) rfl (by simp) ?_
    refine Dr.val 2 rfl rfl rfl rfl (by kernel_rfl) rfl (V.indexAddr rfl rfl rfl rfl (by simp)) ?_
    refine Dr.val 3 rfl rfl rfl rfl (by kernel_rfl) rfl (V.fieldAddr rfl rfl) ?_
    refine Dr.valS 4 _ rfl rfl rfl rfl (by kernel_rfl) rfl (V.load rfl rfl (fun _ hh => hh)) (fun w hw => hw.cell (n := 1) (v := .int .i64 q.n) rfl (by rw [List.getElem?_append_right (by omega)]; simp [hfl, opc])) ?_
    refine Dr.val 5 rfl rfl rfl rfl (by kernel_rfl) rfl (V.fieldAddr rfl rfl) ?_
    refine Dr.valS 6 _ rfl rfl rfl rfl (by kernel_rfl) rfl (V.load rfl rfl (fun _ hh => hh)) (fun w hw => hw.cell (n := 0) rfl rfl) ?_
    refine Dr.val 7 rfl rfl rfl rfl (by kernel_rfl) rfl (Val.add rfl rfl (by omega) (by omega)) ?_
    refine Dr.val 8 rfl rfl rfl rfl (by kernel_rfl) rfl (V.indexAddr rfl rfl rfl rfl (by simp)) ?_
    refine Dr.val 9 rfl rfl rfl rfl (by kernel_rfl) rfl (V.fieldAddr rfl rfl) ?_
    refine Dr.next0 (e := 10) rfl rfl (by kernel_rfl) rfl (by kernel_rfl) (by kernel_rfl) rfl (E.store 1 rfl rfl rfl rfl rfl (by simp [hfl, opc]; omega) rfl) aokK fun _ => ?_
    refine Dr.done (by kernel_rfl) (by kernel_rfl) ?_
    have e1 : sets (l0.flatMap opc ++ (opc q ++ rest)) (0 + l0.length * 3 + 1) (Value.int .i64 (q.n + xn)).cells.toList = l0.flatMap opc ++ ([.int .i64 q.kind, .int .i64 (q.n + xn), str q.text] ++ rest) := by
      show (l0.flatMap opc ++ (opc q ++ rest)).set (0 + l0.length * 3 + 1) _ = _
      rw [set_mid hfl (k := 1) (by omega)]; simp [opc]
    refine At.imp (S' := Mem c [cells b5 [.int .i64 xk, .int .i64 xn, str xt] 112, cells g (l0.flatMap opc ++ ([.int .i64 q.kind, .int .i64 (q.n + xn), str q.text] ++ rest)) 112] h) ?_ (fun w hw => by rw [← e1]; exact hw)
    refine goK _ ?_
    first | refine At.drawn mo (fun _ _ m => m.drew _) ?_ | refine At.seq (At.drawn mo (fun _ _ m => m.drew _) ?_)
    refine Dr.val 0 rfl rfl rfl rfl (by kernel_rfl) rfl (Val.move rfl) ?_
    refine Dr.val 1 rfl rfl rfl rfl (by kernel_rfl) rfl (Val.move rfl) ?_
    refine Dr.respell (t := 41) (v' := .int .i64 ((l0.length : Nat) : Int)) rfl (by simp) ?_
    refine Dr.val 2 rfl rfl rfl rfl (by kernel_rfl) rfl (V.indexAddr rfl rfl rfl rfl (by simp)) ?_
    refine Dr.val 3 rfl rfl rfl rfl (by kernel_rfl) rfl (V.fieldAddr rfl rfl) ?_
    refine Dr.valS 4 _ rfl rfl rfl rfl (by kernel_rfl) rfl (V.load rfl rfl (fun _ hh => hh)) (fun w hw => hw.cell (n := 1) (v := str q.text) rfl (by rw [List.getElem?_append_right (by omega)]; simp [hfl])) ?_
    refine Dr.val 5 rfl rfl rfl rfl (by kernel_rfl) rfl (V.fieldAddr rfl rfl) ?_
    refine Dr.valS 6 _ rfl rfl rfl rfl (by kernel_rfl) rfl (V.load rfl rfl (fun _ hh => hh)) (fun w hw => hw.cell (n := 0) rfl rfl) ?_
    refine Dr.val 7 rfl rfl rfl rfl (by kernel_rfl) rfl (Val.stradd rfl rfl (by omega)) ?_
    refine Dr.val 8 rfl rfl rfl rfl (by kernel_rfl) rfl (V.indexAddr rfl rfl rfl rfl (by simp)) ?_
    refine Dr.val 9 rfl rfl rfl rfl (by kernel_rfl) rfl (V.fieldAddr rfl rfl) ?_
    refine Dr.next0 (e := 10) rfl rfl (by kernel_rfl) rfl (by kernel_rfl) (by kernel_rfl) rfl (E.store 1 rfl rfl rfl rfl rfl (by simp [hfl]; omega) rfl) aokK fun _ => ?_
    refine Dr.done (by kernel_rfl) (by kernel_rfl) ?_
    have e2 : sets (l0.flatMap opc ++ ([.int .i64 q.kind, .int .i64 (q.n + xn), str q.text] ++ rest)) (0 + l0.length * 3 + 2) (str (q.text ++ xt)).cells.toList = (l0 ++ [(⟨q.kind, q.n + xn, q.text ++ xt⟩ : Ox.Op)]).flatMap opc ++ rest := by
      show (l0.flatMap opc ++ ([.int .i64 q.kind, .int .i64 (q.n + xn), str q.text] ++ rest)).set (0 + l0.length * 3 + 2) _ = _
      rw [set_mid hfl (k := 2) (by omega)]; simp [opc]
    have hxl2 : ((l0 ++ [(⟨q.kind, q.n + xn, q.text ++ xt⟩ : Ox.Op)]).flatMap opc).length = (l0.length + 1) * 3 := by rw [flat_length opc 3 (fun _ => rfl)]; simp
    refine At.imp (S' := Mem c [cells b5 [.int .i64 xk, .int .i64 xn, str xt] 112, cells g ((l0 ++ [(⟨q.kind, q.n + xn, q.text ++ xt⟩ : Ox.Op)]).flatMap opc ++ rest) 112] h) ?_ (fun w hw => by rw [← e2]; exact hw)
    refine At.close_row (N := l0.length + 1) (xs := (l0 ++ [(⟨q.kind, q.n + xn, q.text ++ xt⟩ : Ox.Op)]).flatMap opc) (rest := rest) (cp := ucp) (e := 112) (size := 3) (g := g) 1 rfl hxl2 (by rw [List.length_append, hxl2]; rw [List.length_append, hxl, hln] at hl2; exact hl2) (by omega) hcp ?_
    refine goK _ ?_
    refine At.back2 (i + 1) (.slice (some ⟨g, 0, none⟩) (l0.length + 1) ucp) (by omega) (by exact ⟨congrArg (fun z => some (Value.slice (some ⟨g, 0, none⟩) z ucp)) hln, rfl, rfl, rfl, trivial⟩) (fun w hw => ⟨by omega, ?_⟩)
    rw [hst, hjs, if_pos h3, List.length_append]
    exact hw.sub (List.sublist_cons_self _ _)
  rw [← hfm]
  refine At.close_row (N := (l0 ++ [q]).length) (xs := (l0 ++ [q]).flatMap opc) (rest := rest) (cp := ucp) (e := 112) (size := 3) (g := g) 1 rfl hxl hl2 hN hcp ?_
  repeat (first | refine Ops.val rfl rfl rfl (V.loadOA 0 rfl rfl rfl rfl) ?_ | refine goS _ ?_)
  refine Ops.eff rfl rfl rfl (E.buildSlice1 rfl rfl rfl rfl) fun _ => Ops.ex fun _ => Ops.pure ?_
  rintro rfl
  refine Ops.eff rfl rfl rfl (E.append1s 1 rfl rfl rfl rfl rfl rfl (by rw [hln]; omega) (by rw [hln]; omega)) fun _ => Ops.ex fun g2 => Ops.ex fun cp2 => Ops.pure ?_
  rintro rfl
  refine goK _ ?_
  refine At.back2 (i + 1) (.slice (some ⟨g2, 0, none⟩) ((l0 ++ [q]).length + 1) cp2) (by omega) (by exact ⟨rfl, rfl, rfl, rfl, trivial⟩) (fun w hw => ⟨by omega, ?_⟩)
  have e3 : (l0 ++ [q] ++ [(⟨xk, xn, xt⟩ : Ox.Op)]).flatMap opc = (l0 ++ [q]).flatMap opc ++ opc ⟨xk, xn, xt⟩ := by rw [List.flatMap_append (xs := l0 ++ [q])]; simp
  have e4 : (l0 ++ [q] ++ [(⟨xk, xn, xt⟩ : Ox.Op)]).length = (l0 ++ [q]).length + 1 := by rw [List.length_append]; rfl
  rw [hst, hjs, if_neg h3, e4, e3]
  exact hw.sub (List.sublist_cons_self _ _)
end Go.Proofs.YthjgbmbaabpgmaaGreat
