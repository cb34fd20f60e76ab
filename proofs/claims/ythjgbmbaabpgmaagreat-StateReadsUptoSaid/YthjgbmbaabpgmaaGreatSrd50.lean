/-
  From a law's premise to the walk, and back: the memory at the start, rows that are read, what stays.
-/
import Derived.Test.YthjgbmbaabpgmaaGreatSrd09
import Derived.Deep.Slices
import Derived.WideKeyArgs
import Derived.JoinedCond
import Derived.OpenShut
import Derived.Test.YthjgbmbaabpgmaaGreatSrd47
set_option linter.unusedVariables false
set_option linter.unusedSimpArgs false
set_option linter.unusedSectionVars false
namespace Go.Proofs.YthjgbmbaabpgmaaGreat
open Go Go.Sy
set_option maxRecDepth 4000
/-- the memory as a call finds it -/
def hv (W : World) : HV := fun b => W.heap[b]?
theorem mem_start (W : World) : Mem (ctx W [] (hv W)) [] (hv W) W :=
  ⟨rfl, rfl, rfl, Nat.le_refl _, fun _ _ _ => rfl, HExt.refl _ _ _, fun _ _ e => e, (by intro i hi; cases hi), .nil, (by intro i hi; cases hi), (by intro i hi; cases hi)⟩
theorem cellH_hv {W : World} {b o : Nat} {v : Value} (h : W.cell? ⟨b, o, none⟩ = some v) : cellH (hv W) b o = some v := by
  unfold World.cell? at h
  unfold Sy.cellH hv
  split at h
  · rename_i c T fr e
    simp only at e
    rw [e]; simpa using h
  · cases h
theorem bulk_part {H : Type} {d : DataW H} {l : List (DataW H)} (h : d ∈ l) : Rows.uptoBulk d ≤ Rows.uptoBulkAll l := by
  induction l with
  | nil => cases h
  | cons x r ih =>
    simp only [Rows.uptoBulkAll]
    rcases List.mem_cons.1 h with e | e
    · subst e; omega
    · have := ih e; omega
theorem bulk_one {H : Type} (d : DataW H) : 1 ≤ Rows.uptoBulk d := by
  cases d with
  | lit l => cases l <;> simp [Rows.uptoBulk]
  | _ => simp [Rows.uptoBulk]
theorem bulk_length {H : Type} (l : List (DataW H)) : l.length ≤ Rows.uptoBulkAll l := by
  induction l with
  | nil => simp [Rows.uptoBulkAll]
  | cons x r ih => have := bulk_one x; simp only [Rows.uptoBulkAll, List.length_cons]; omega
/-- a slice that is read, as a row of records -/
theorem open_row {H : Type} {enc : TypeId × Value → H} {α : Type} {f : α → List Value} {m : Nat} (hf : ∀ a, (f a).length = m) (hm0 : 0 < m) {G : α → Prop} {W : World} {t e : TypeId}
    (ht : Tryz.prog.underlying t = some (.slice e)) (hm : Tryz.prog.cellsOf e = m)
    (hel : ∀ n cs x, DataW.trod enc Tryz.prog W 0 (fun _ => true) true n e cs = some x → Rows.uptoBulk x.1 ≤ 1048576 → ∃ a, cs = f a ∧ G a)
    {fuel : Nat} {cs : List Value} {x : DataW H × List MemPlace} (h : DataW.trod enc Tryz.prog W 0 (fun _ => true) true fuel t cs = some x) (hb : Rows.uptoBulk x.1 ≤ 1048576) :
    ∃ v l, cs = [v] ∧ RowH f m (hv W) v l ∧ (∀ a ∈ l, G a) ∧ l.length ≤ 1048576 := by
  rcases Deep.open_slice ht h with ⟨rfl, rfl⟩ | ⟨a, len, cap, M, n, D, Pl, rfl, hba, hlc, hcm, hM, rfl, hel'⟩
  · exact ⟨_, [], rfl, SlH.nil _ _, by simp, by simp⟩
  · rw [hm] at hel'
    have hMc : M = cap := by simpa using hM
    clear hM; subst hMc
    simp only [Rows.uptoBulk] at hb
    have hlen : len ≤ 1048576 := by
      have := bulk_length ((List.range len).map D)
      rw [List.length_map, List.length_range] at this; omega
    have hex : ∀ i : Fin len, ∃ y, W.cells? 0 (a.add (i.val * m)) m = some (f y) ∧ G y := fun i => by
      obtain ⟨cs', h1, h2⟩ := hel' i.val (by have := i.isLt; omega)
      have h3 : Rows.uptoBulk (D i.val) ≤ 1048576 := by
        have := bulk_part (H := H) (d := D i.val) (l := (List.range len).map D) (List.mem_map.2 ⟨i.val, List.mem_range.2 i.isLt, rfl⟩)
        omega
      obtain ⟨y, rfl, hg⟩ := hel _ _ _ h2 h3
      exact ⟨y, h1, hg⟩
    obtain ⟨g, hg⟩ := Classical.axiomOfChoice hex
    have hl : (List.ofFn g).length = len := List.length_ofFn
    refine ⟨_, List.ofFn g, rfl, ?_, ?_, by omega⟩
    · have hfl : ((List.ofFn g).flatMap f).length = len * m := by rw [flat_length f m hf, hl]
      show SlH (hv W) (.slice (some a) len M) m (List.ofFn g).length _
      rw [hl]
      refine ⟨hfl, ?_⟩
      by_cases hM0 : M = 0
      · subst hM0
        obtain rfl : len = 0 := by omega
        exact .inl ⟨⟨_, rfl⟩, rfl⟩
      · right
        obtain ⟨cs', h1, _⟩ := hel' 0 (by omega)
        have h2 := World.cells?_some h1
        have h3 := h2.2.2 0 hm0
        rw [List.getElem?_eq_getElem (by omega)] at h3
        have h4 := World.cell?_spot h3
        rw [Nat.zero_mul] at h4
        obtain ⟨b, o, s⟩ := a
        have h5 : s = none := by simpa [Addr.add] using h4
        subst h5
        refine ⟨b, o, M, rfl, hlc, fun i u hu => ?_⟩
        have hi : i < len * m := by have := (List.getElem?_eq_some_iff.1 hu).1; omega
        have hq : i / m < len := Nat.div_lt_of_lt_mul (by rw [Nat.mul_comm]; exact hi)
        have hj : i % m < m := Nat.mod_lt _ hm0
        have he : i / m * m + i % m = i := Nat.div_add_mod' i m
        have h6 := flat_get f m hf (List.ofFn g) (i / m) (i % m) hj (g ⟨i / m, hq⟩) (by rw [List.getElem?_ofFn, dif_pos hq])
        rw [he, hu] at h6
        have h7 := (World.cells?_some (hg ⟨i / m, hq⟩).1).2.2 (i % m) hj
        simp only [add_addr] at h7
        rw [← h6, Nat.add_assoc, he] at h7
        exact cellH_hv h7
    · intro y hy
      obtain ⟨i, rfl⟩ := List.mem_ofFn.1 hy
      exact (hg i).2
/-- arguments are read again where old memory is as it was -/
theorem again {H : Type} {enc : TypeId × Value → H} {W W' : World} {sp : Nat → Bool} (hW : ∀ b, b < W.heap.size → W'.heap[b]? = W.heap[b]?) (hlo : laidOutB Tryz.prog = true) :
    ∀ {ts : List TypeId} {vs : List Value} {ds : List (DataW H)} {ps : List MemPlace}, (∀ t ∈ ts, Tryz.prog.readableRec t = true ∧ t < Tryz.prog.types.size) →
      DataW.TrodAll enc Tryz.prog W 0 (fun _ => true) true ts vs ds ps → (∀ p ∈ ps, sp p.block = true) → DataW.TrodAll enc Tryz.prog W' 0 sp true ts vs ds ps
  | [], [], [], _, _, h, _ => h
  | t :: ts, v :: vs, d :: ds, ps, hr, ⟨p, q, h1, h2, e⟩, hs => by
    refine ⟨p, q, ?_, again hW hlo (fun t' ht' => hr t' (List.mem_cons_of_mem _ ht')) h2 (fun x hx => hs x (by rw [e]; exact List.mem_append_right _ hx)), e⟩
    refine WideElems.Trod_stays hlo (hr t (List.mem_cons_self ..)).1 (hr t (List.mem_cons_self ..)).2 h1 (fun x hx => ?_) (fun x hx => hs x (by rw [e]; exact List.mem_append_left _ hx))
    obtain ⟨n, hn⟩ := h1
    have hlt := DataW.trod_lt _ _ _ _ hn x hx
    cases x with
    | cell b off =>
      show W'.cell? _ = W.cell? _
      have : W'.heap[b]? = W.heap[b]? := hW b hlt
      unfold World.cell?
      rw [this]
    | map b => exact hW b hlt
/-- what a law's row asks, out of what its walk gives -/
theorem close {H : Type} {enc : TypeId × Value → H} {W W' : World} {fn : Func} {s : ChangeSpec} {args : Array Value} {ds gs : List (DataW H)} {before : List MemPlace} {e : Ending}
    (hvs : s.vars = []) (hres : fn.resultTypes = #[4]) (hfn : s.fn H (ds ++ gs) = { results := [.lit (.bool true)], args := ds }) (hlo : laidOutB Tryz.prog = true)
    (hrec : ∀ t ∈ fn.params.toList, Tryz.prog.readableRec t = true ∧ t < Tryz.prog.types.size)
    (hW : DataW.Whole enc Tryz.prog fn.params.toList s.vars false W args.toList ds gs before)
    (h : ∃ v, e = .returned v ∧ ∃ Ω' h', v = .bool true ∧ Mem (ctx W [] (hv W)) Ω' h' W') :
    ∃ v, e = .returned v ∧ s.post enc Tryz.prog fn false true false false W args v W' := by
  obtain ⟨v, rfl, Ω', h', rfl, hm⟩ := h
  refine ⟨_, rfl, ?_⟩
  have hst : ∀ b, b < W.heap.size → W'.heap[b]? = W.heap[b]? := fun b hb => hm.still b hb (by rintro ⟨i, hi, _⟩; cases hi)
  have hlt := hW.lt
  have hW' := hW
  obtain ⟨p, q, hA, hV, rfl, hfz, hnd⟩ := hW
  rw [hvs] at hV
  obtain ⟨rfl, rfl⟩ := ChangeShapes.trodVars_none hV
  refine ⟨ds, [], _, [], p, [], hW', ?_, ?_, ?_, ?_, fun h => by cases h⟩
  · rw [hfn, hres]
    exact trodAll_cons_mk (RowKit.shut_bool Tryz.underlying4 _) ChangeShapes.trodAll_mk0
  · rw [hfn]
    exact again hst hlo hrec hA fun x hx => decide_eq_true (hlt x (List.mem_append_left _ hx))
  · rw [hvs, hfn]; exact rfl
  · refine ⟨hm.os, hm.output, fun i hi => ?_⟩
    rw [hst i hi]
    cases hc : W.heap[i]? with
    | none => simp
    | some o => cases o <;> simp
end Go.Proofs.YthjgbmbaabpgmaaGreat
/-
  The steps that a law is handed, read off its arguments.
-/
namespace Go.Proofs.YthjgbmbaabpgmaaGreat
open Go Go.Sy
set_option maxRecDepth 4000
section
variable {H : Type} {enc : TypeId × Value → H} {W : World} {n : Nat} {cs : List Value} {x : DataW H × List MemPlace}
theorem c3 : Tryz.prog.cellsOf 3 = 1 := by kernel_rfl
theorem c9 : Tryz.prog.cellsOf 9 = 1 := by kernel_rfl
theorem c38 : Tryz.prog.cellsOf 38 = 1 := by kernel_rfl
theorem c40 : Tryz.prog.cellsOf 40 = 6 := by kernel_rfl
theorem c53 : Tryz.prog.cellsOf 53 = 7 := by kernel_rfl
theorem c55 : Tryz.prog.cellsOf 55 = 13 := by kernel_rfl
theorem c112 : Tryz.prog.cellsOf 112 = 3 := by kernel_rfl
theorem open_num (h : DataW.trod enc Tryz.prog W 0 (fun _ => true) true n 3 cs = some x) : ∃ k : Int, cs = [.int .i64 k] ∧ I64 k := by
  obtain ⟨k, rfl, _, hw⟩ := DataW.trod_int Tryz.underlying3 h
  exact ⟨k, rfl, bounds_i64 hw⟩
theorem open_text (h : DataW.trod enc Tryz.prog W 0 (fun _ => true) true n 9 cs = some x) (hb : Rows.uptoBulk x.1 ≤ 1048576) : ∃ l : List UInt8, cs = [str l] ∧ l.length ≤ 1048576 := by
  obtain ⟨s, rfl, rfl, hw⟩ := DataW.trod_string Tryz.underlying9 h
  simp only [Rows.uptoBulk] at hb
  exact ⟨s.data.toList, rfl, by omega⟩
theorem open_op (h : DataW.trod enc Tryz.prog W 0 (fun _ => true) true n 112 cs = some x) (hb : Rows.uptoBulk x.1 ≤ 1048576) : ∃ o : Ox.Op, cs = opc o ∧ o.text.length ≤ 1000000000 := by
  obtain ⟨xs, m, rfl, rfl, hcl, hxl, hf⟩ := DataW.trod_struct Tryz.underlying112 h
  rw [c112] at hcl
  match cs, hcl, xs, hxl with
  | [a0, a1, a2], _, [x0, x1, x2], _ =>
    have f0 := hf 0 _ rfl
    have f1 := hf 1 _ rfl
    have f2 := hf 2 _ rfl
    simp only [List.map_cons, List.map_nil, Rows.uptoBulk, Rows.uptoBulkAll] at hb
    obtain ⟨k0, e0, _⟩ := open_num f0
    obtain ⟨k1, e1, _⟩ := open_num f1
    obtain ⟨l2, e2, h2⟩ := open_text f2 (by omega)
    cases e0; cases e1; cases e2
    exact ⟨⟨k0, k1, l2⟩, rfl, by show l2.length ≤ _; omega⟩
theorem open_ops (h : DataW.trod enc Tryz.prog W 0 (fun _ => true) true n 38 cs = some x) (hb : Rows.uptoBulk x.1 ≤ 1048576) :
    ∃ v d, cs = [v] ∧ OpsH (hv W) v d ∧ (∀ o ∈ d, o.text.length ≤ 1000000000) := by
  obtain ⟨v, l, e, hr, hg, _⟩ := open_row opc_length (by omega) (G := fun o : Ox.Op => o.text.length ≤ 1000000000) Tryz.underlying38 c112 (fun n cs x h hb => open_op h hb) h hb
  exact ⟨v, l, e, hr, hg⟩
theorem open_rq (h : DataW.trod enc Tryz.prog W 0 (fun _ => true) true n 40 cs = some x) (hb : Rows.uptoBulk x.1 ≤ 1048576) : ∃ q d, cs = rqc q d ∧ RqH (hv W) (.agg (rqc q d).toArray) q d := by
  obtain ⟨xs, m, rfl, rfl, hcl, hxl, hf⟩ := DataW.trod_struct Tryz.underlying40 h
  rw [c40] at hcl
  match cs, hcl, xs, hxl with
  | [a0, a1, a2, a3, a4, a5], _, [x0, x1, x2, x3, x4, x5], _ =>
    have f0 := hf 0 _ rfl
    have f1 := hf 1 _ rfl
    have f2 := hf 2 _ rfl
    have f3 := hf 3 _ rfl
    have f4 := hf 4 _ rfl
    have f5 := hf 5 _ rfl
    simp only [List.map_cons, List.map_nil, Rows.uptoBulk, Rows.uptoBulkAll] at hb
    obtain ⟨k0, e0, _⟩ := open_num f0
    obtain ⟨l1, e1, h1⟩ := open_text f1 (by omega)
    obtain ⟨l2, e2, h2⟩ := open_text f2 (by omega)
    obtain ⟨k3, e3, h3⟩ := open_num f3
    obtain ⟨l4, e4, h4⟩ := open_text f4 (by omega)
    obtain ⟨v, d, e5, hd, hg⟩ := open_ops f5 (by omega)
    cases e0; cases e1; cases e2; cases e3; cases e4; cases e5
    exact ⟨⟨k0, l1, l2, k3, l4, d⟩, _, rfl, rfl, hd, by show l1.length ≤ _; omega, by show l2.length ≤ _; omega, by show l4.length ≤ _; omega, h3, hg⟩
theorem open_ms (h : DataW.trod enc Tryz.prog W 0 (fun _ => true) true n 53 cs = some x) (hb : Rows.uptoBulk x.1 ≤ 1048576) : ∃ q d, cs = msc q d ∧ MsH (hv W) (.agg (msc q d).toArray) q d := by
  obtain ⟨xs, m, rfl, rfl, hcl, hxl, hf⟩ := DataW.trod_struct Tryz.underlying53 h
  rw [c53] at hcl
  match cs, hcl, xs, hxl with
  | [a0, a1, a2, a3, a4, a5, a6], _, [x0, x1, x2, x3, x4, x5, x6], _ =>
    have f0 := hf 0 _ rfl
    have f1 := hf 1 _ rfl
    have f2 := hf 2 _ rfl
    have f3 := hf 3 _ rfl
    have f4 := hf 4 _ rfl
    have f5 := hf 5 _ rfl
    have f6 := hf 6 _ rfl
    simp only [List.map_cons, List.map_nil, Rows.uptoBulk, Rows.uptoBulkAll] at hb
    obtain ⟨k0, e0, _⟩ := open_num f0
    obtain ⟨k1, e1, _⟩ := open_num f1
    obtain ⟨k2, e2, _⟩ := open_num f2
    obtain ⟨k3, e3, _⟩ := open_num f3
    obtain ⟨k4, e4, h4⟩ := open_num f4
    obtain ⟨k5, e5, _⟩ := open_num f5
    obtain ⟨v, d, e6, hd, hg⟩ := open_ops f6 (by omega)
    cases e0; cases e1; cases e2; cases e3; cases e4; cases e5; cases e6
    exact ⟨⟨k0, k1, k2, k3, k4, k5, d⟩, _, rfl, rfl, hd, h4, hg⟩
theorem open_stp (h : DataW.trod enc Tryz.prog W 0 (fun _ => true) true n 55 cs = some x) (hb : Rows.uptoBulk x.1 ≤ 1048576) : ∃ p : StpV, cs = stc p ∧ StpOk (hv W) p := by
  obtain ⟨xs, m, rfl, rfl, hcl, hxl, hf⟩ := DataW.trod_struct Tryz.underlying55 h
  rw [c55] at hcl
  match xs, hxl with
  | [x0, x1], _ =>
    have f0 : DataW.trod enc Tryz.prog W 0 (fun _ => true) true m 40 ((cs.drop 0).take (Tryz.prog.cellsOf 40)) = some x0 := hf 0 _ rfl
    have f1 : DataW.trod enc Tryz.prog W 0 (fun _ => true) true m 53 ((cs.drop 6).take (Tryz.prog.cellsOf 53)) = some x1 := hf 1 _ rfl
    rw [c40, List.drop_zero] at f0
    rw [c53, List.take_of_length_le (by rw [List.length_drop]; omega)] at f1
    simp only [List.map_cons, List.map_nil, Rows.uptoBulk, Rows.uptoBulkAll] at hb
    obtain ⟨q, d, e0, h0⟩ := open_rq f0 (by omega)
    obtain ⟨y, d', e1, h1⟩ := open_ms f1 (by omega)
    refine ⟨⟨q, d, y, d'⟩, ?_, h0, h1⟩
    show cs = rqc q d ++ msc y d'
    rw [← e0, ← e1, List.take_append_drop]
theorem arg_steps {base : Nat} {v : Value} {d : DataW H} {p : List MemPlace} (hv' : Value.okWide Tryz.prog W .any base 22 v) (h : DataW.Trod enc Tryz.prog W 0 (fun _ => true) true 22 v d p) (hb : Rows.uptoBulk d ≤ 1048576) :
    ∃ l : List StpV, RowH stc 13 (hv W) v l ∧ (∀ p ∈ l, StpOk (hv W) p) ∧ l.length ≤ 1048576 := by
  obtain ⟨fuel, h⟩ := h
  obtain ⟨u, l, e, hr, hg, hl⟩ := open_row stc_length (by omega) (G := StpOk (hv W)) Tryz.underlying22 c55 (fun n cs x h hb => open_stp h hb) h hb
  have hu : v = u := by
    simp only [Value.okWide, Tryz.underlying22, Cell.okWide, Cell.ok] at hv'
    cases v <;> simp at hv' <;> simpa [Value.cells] using e
  subst hu
  exact ⟨l, hr, hg, hl⟩
theorem arg_step {base : Nat} {v : Value} {d : DataW H} {p : List MemPlace} (hv' : Value.okWide Tryz.prog W .any base 55 v) (h : DataW.Trod enc Tryz.prog W 0 (fun _ => true) true 55 v d p) (hb : Rows.uptoBulk d ≤ 1048576) :
    ∃ p : StpV, v = .agg (stc p).toArray ∧ StpOk (hv W) p := by
  obtain ⟨fuel, h⟩ := h
  obtain ⟨p, e, hp⟩ := open_stp h hb
  simp only [Value.okWide, Tryz.underlying55] at hv'
  obtain ⟨cs, rfl, _⟩ := hv'
  refine ⟨p, ?_, hp⟩
  have e' : cs.toList = stc p := e
  rw [← e']
theorem arg_text {base : Nat} {v : Value} {d : DataW H} {p : List MemPlace} (hv' : Value.okWide Tryz.prog W .any base 9 v) (h : DataW.Trod enc Tryz.prog W 0 (fun _ => true) true 9 v d p) (hb : Rows.uptoBulk d ≤ 1048576) :
    ∃ l : List UInt8, v = str l ∧ l.length ≤ 1048576 := by
  obtain ⟨fuel, h⟩ := h
  obtain ⟨l, e, hl⟩ := open_text h hb
  refine ⟨l, ?_, hl⟩
  simp only [Value.okWide, Tryz.underlying9, Cell.okWide, Cell.ok] at hv'
  cases v <;> simp at hv' <;> simpa [Value.cells, str] using e
end
end Go.Proofs.YthjgbmbaabpgmaaGreat
