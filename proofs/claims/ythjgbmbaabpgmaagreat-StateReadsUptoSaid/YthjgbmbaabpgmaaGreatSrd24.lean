/-
  A map's keys in order: maps.Keys, slices.Sorted.
-/
import Derived.Test.YthjgbmbaabpgmaaGreatSrd05
import Derived.Test.YthjgbmbaabpgmaaGreatSrd22
import Derived.Test.YthjgbmbaabpgmaaGreatSrd23
import Derived.Test.YthjgbmbaabpgmaaGreatSrd16
set_option linter.unusedVariables false
set_option linter.unusedSimpArgs false
set_option linter.unusedSectionVars false
namespace Go.Sy
open Go Go.RowKit
section
variable {c : Ctx} {Ω : List Itm} {h : HV} {w w' : World}
theorem Mem.grow (m : Mem c Ω h w) (hb : Below w.heap.size w w') {i : Itm} (hi : i.ok w') (hB : ∀ b, i.B b → w.heap.size ≤ b) : Mem c (i :: Ω) h w' := by
  have hal : ∀ j ∈ Ω, ∀ b, j.B b → b < w.heap.size := fun j hj b hjb => j.alive w b (m.own j hj) hjb
  have hhv : ∀ b o, h b = some o → b < w.heap.size := fun b o ho => (Array.getElem?_eq_some_iff.1 (m.hv b o ho)).1
  refine ⟨hb.os.trans m.os, hb.tape.trans m.tape, hb.output.trans m.output, Nat.le_trans m.size hb.size, fun b hb1 hb2 => ?_, m.hext, fun b o ho => ?_, fun j hj => ?_, List.pairwise_cons.2 ⟨fun j hj b h1 h2 => ?_, m.sep⟩, fun j hj b h1 => ?_, fun j hj b h1 => ?_⟩
  · rw [hb.block b (Nat.lt_of_lt_of_le hb1 m.size)]; exact m.still b hb1 hb2
  · rw [hb.block b (hhv b o ho)]; exact m.hv b o ho
  · rcases List.mem_cons.1 hj with rfl | hj
    · exact hi
    · exact j.loc w w' (fun b h1 => hb.block b (hal j hj b h1)) (m.own j hj)
  · have := hB b h1; have := hal j hj b h2; omega
  · rcases List.mem_cons.1 hj with rfl | hj
    · cases ho : h b with
      | none => rfl
      | some o => have := hhv b o ho; have := hB b h1; omega
    · exact m.apart j hj b h1
  · rcases List.mem_cons.1 hj with rfl | hj
    · exact .inl (Nat.le_trans m.size (hB b h1))
    · exact m.mine j hj b h1
end
end Go.Sy
namespace Go
theorem insert_perm {H : Type} (x : Lit × DataW H) : ∀ l, (DataW.insert x l).Perm (x :: l)
  | [] => List.Perm.refl _
  | y :: r => by
    simp only [DataW.insert]
    split
    · exact List.Perm.refl _
    · exact (List.Perm.cons y (insert_perm x r)).trans (List.Perm.swap ..)
theorem foldr_insert_perm {H : Type} : ∀ l : List (Lit × DataW H), (l.foldr DataW.insert []).Perm l
  | [] => List.Perm.refl _
  | x :: r => (insert_perm x _).trans (List.Perm.cons x (foldr_insert_perm r))
end Go
namespace Go.Proofs.YthjgbmbaabpgmaaGreat
open Go.Sy Go.RowKit Go.Maps
set_option maxRecDepth 4000
set_option maxHeartbeats 4000000
theorem sortsA (m : Nat) : AnyZI.SortsIn Tryz.prog Tryz.sortedA_ren Fence.wide m :=
  ⟨fun blk off cap ss W hH hblk hsz => callsIn_wide.2 (AnyM.slices_Sort_int Tryz.sortA blk off cap ss W hH hblk hsz),
   fun p cap W => callsIn_wide.2 (AnyM.slices_Sort_int_none Tryz.sortA p cap W)⟩

theorem ents_born {α : Type} (κ : α → Value) : ∀ (i : Nat) (m : List (α × Value)), (ents κ i m).map (·.born) = List.range' i m.length
  | _, [] => rfl
  | i, (_, _) :: r => by simp [ents, ents_born κ (i + 1) r, List.range'_succ]
theorem ents_keys {α : Type} (κ : α → Value) : ∀ (i : Nat) (m : List (α × Value)), (ents κ i m).map (·.key) = m.map fun p => κ p.1
  | _, [] => rfl
  | i, (_, _) :: r => by simp [ents, ents_keys κ (i + 1) r]
/-- a map as the kit reads it: its keys alone -/
theorem owns_keys {b : Nat} {m : List (Int × Value)} {w : World} (hb : w.heap[b]? = some (.map (ents key 0 m).toArray m.length)) (hnd : (m.map Prod.fst).Nodup) (hr : ∀ p ∈ m, -9223372036854775808 ≤ p.1 ∧ p.1 ≤ 9223372036854775807)
    (hl : m.length ≤ 1000000) : ∃ D0 : DataW Unit, w.ownsMap Tryz.prog 3 (fun _ => some (.nil, [])) b m.length D0 ∧ Maps.size D0 = m.length ∧ (intKeys D0).Perm (m.map Prod.fst) := by
  have e1 : IntKind.i64.min = -9223372036854775808 := by decide
  have e2 : IntKind.i64.max = 9223372036854775807 := by decide
  have hk : ∀ p ∈ m, keyOf Tryz.prog 3 (key p.1) = some (.int .i64 p.1) := fun p hp => Maps.keyOf_int_mk (q := .i64) (ik (t := 3) rfl) (by have := hr p hp; simp [Lit.wf, e1, e2]; omega)
  have hmem : ∀ {i : Nat} {x : MapEntry}, x ∈ ents key i m → ∃ p ∈ m, x.key = key p.1 := fun hx => by
    have := List.mem_map_of_mem (f := (·.key)) hx
    rw [ents_keys] at this
    obtain ⟨p, hp, e⟩ := List.mem_map.1 this
    exact ⟨p, hp, e.symm⟩
  have hrd : ∀ p ∈ m, ∀ x : MapEntry, x.key = key p.1 → WideElems.rd (H := Unit) Tryz.prog 3 (fun _ => some (.nil, [])) x = some (.int .i64 p.1, .nil) := fun p hp x e => by
    simp [WideElems.rd, e, hk p hp]
  have hrg : (ents key 0 m).map (WideElems.rg (H := Unit) Tryz.prog 3 (fun _ => some (.nil, []))) = m.map fun p => (.int .i64 p.1, .nil) := by
    have : ∀ (i : Nat) (l : List (Int × Value)), (∀ p ∈ l, p ∈ m) → (ents key i l).map (WideElems.rg (H := Unit) Tryz.prog 3 (fun _ => some (.nil, []))) = l.map fun p => (.int .i64 p.1, .nil) := by
      intro i l
      induction l generalizing i with
      | nil => intro _; rfl
      | cons p r ih =>
        intro hl
        obtain ⟨a, v⟩ := p
        simp only [ents, List.map_cons]
        rw [ih (i + 1) fun q hq => hl q (by simp [hq])]
        congr 1
        rw [WideElems.rg, hrd (a, v) (hl _ (by simp)) _ rfl]; rfl
    exact this 0 m fun _ h => h
  refine ⟨.map (((ents key 0 m).map (WideElems.rg (H := Unit) Tryz.prog 3 (fun _ => some (.nil, [])))).foldr DataW.insert []), ⟨_, _, hb, ⟨by simp [ents_length, maxLen]; omega, ⟨?_, ?_, ?_⟩, ?_⟩, by simp [ents_length], by simp⟩, ?_, ?_⟩
  · intro x hx
    have := List.mem_map_of_mem (f := (·.born)) (List.mem_toArray.1 (by simpa using hx) : x ∈ ents key 0 m)
    rw [ents_born, List.mem_range'_1] at this
    omega
  · rw [ents_born]; exact List.nodup_range'
  · rw [ents_keys]
    refine List.pairwise_map.2 ((List.pairwise_map.1 hnd).imp fun {p q} hne e => hne ?_)
    simpa [key] using e
  · intro x hx
    obtain ⟨p, hp, e⟩ := hmem (i := 0) (by simpa using hx)
    exact ⟨_, hrd p hp x e⟩
  · rw [Maps.size_eq, (foldr_insert_perm _).length_eq, List.length_map, ents_length]
  · show (List.map _ _).Perm _
    refine ((foldr_insert_perm _).map _).trans ?_
    rw [hrg, List.map_map]
    exact List.Perm.of_eq (List.map_congr_left fun p _ => rfl)

theorem sorted_of (g T bk b : Nat) (m : List (Int × Value)) (hnd : (m.map Prod.fst).Nodup) (hr : ∀ p ∈ m, -9223372036854775808 ≤ p.1 ∧ p.1 ≤ 9223372036854775807) (hl : m.length ≤ 1000000) (h : HV)
    (hgives : ∀ (D0 : DataW Unit) (w : World), bk < w.heap.size → w.cell? ⟨bk, 0, none⟩ = some (.map (some b)) → w.ownsMap Tryz.prog 3 (fun _ => some (.nil, [])) b m.length D0 →
      SeqGives Fence.wide 2 Tryz.prog g #[.pointer (some ⟨bk, 0, none⟩)] encZ (fun ss => ss.Perm (intKeys D0)) (Maps.size D0) w)
    (heg : ∀ args w, (callFunc g args).run Tryz.prog w = .ok (.enter g args) w) :
    Does Tryz.prog 65 #[.func (.func g) #[] #[.pointer (some ⟨bk, 0, none⟩)]] [cells bk [.map (some b)] T, mapI key b m] h (fun r Ω' h' => h = h' ∧
      Ω' = [row 3 1 r m.length (((m.map Prod.fst).mergeSort fun x y => decide (x ≤ y)).flatMap zc), cells bk [.map (some b)] T, mapI key b m]) := fun w0 hm => by
  have hb : w0.heap[b]? = some (.map (ents key 0 m).toArray m.length) := hm.blk (n := 1) rfl
  have hc : w0.cell? ⟨bk, 0, none⟩ = some (.map (some b)) := hm.cell (n := 0) (cs := [.map (some b)]) rfl rfl
  have hlt : bk < w0.heap.size := (cells bk [.map (some b)] T).alive w0 bk (hm.own _ (by simp)) rfl
  obtain ⟨D0, hown, hsz, hperm⟩ := owns_keys hb hnd hr hl
  have hseq := hgives D0 w0 hlt hc hown
  have cS := AnyZI.sorted_in Tryz.sortedA Fence.wide 5 trivial trivial trivial trivial rfl (by omega) (sortsA _) (enters_of Tryz.func117 (by kernel_rfl) rfl) g #[.pointer (some ⟨bk, 0, none⟩)] trivial heg _ _ (by rw [hsz]; simp [maxLen]; omega) (by rw [hsz]; omega) _ hseq
  change CallsIn _ _ Tryz.prog 65 _ _ _ at cS
  refine ((callsIn_wide (n := 5)).1 cS).mono ?_
  rintro e w' ⟨v, ss, rfl, hS, hrow, hnil, hbe⟩
  refine ⟨v, rfl, _, h, ⟨rfl, rfl⟩, ?_⟩
  have hp : ss.Perm (m.map Prod.fst) := hS.trans hperm
  have hsl : ss.length = m.length := by simpa using hp.length_eq
  have hms : ss.mergeSort (fun x y => decide (x ≤ y)) = (m.map Prod.fst).mergeSort fun x y => decide (x ≤ y) := mergeSort_of_perm_i hp
  rw [hms, hsl] at hrow
  refine hm.grow hbe ?_ (fun i hi => ?_)
  · show w'.ownsRow 0 3 1 v m.length _
    rw [flat_zc]
    obtain ⟨h1, h2 | ⟨g, cap, cur, rfl, hbase, hrest⟩⟩ := hrow
    · exact ⟨h1, .inl h2⟩
    · exact ⟨h1, .inr ⟨g, cap, cur, rfl, Nat.zero_le _, hrest⟩⟩
  · exact (hrow.lt i hi).1
attribute [local irreducible] At Ops Val Eff Does Res Dr
theorem KeysA_does (b : Nat) (h : HV) : Does Tryz.prog 139 #[.map (some b)] [] h (fun r Ω' h' => h = h' ∧ ∃ bk, r = .func (.func 185) #[] #[.pointer (some ⟨bk, 0, none⟩)] ∧ Ω' = [cells bk [.map (some b)] 225]) := by
  refine Does.of Tryz.func139 rfl Tryz.ntmps139 rfl fun c hc0 => ?_
  refine goK _ ?_
  refine Ops.eff rfl rfl rfl (Eff.box rfl) fun _ => Ops.ex fun bk => Ops.pure ?_
  rintro rfl
  refine goK _ ?_
  refine Ops.val rfl rfl rfl (Val.makeFunc (cs := #[.pointer (some ⟨bk, 0, none⟩)]) (fun ρ hρ => by simp [hρ _ _ (show ev _ (.tmp 1) = some _ from rfl)])) ?_
  refine goK _ ?_
  exact At.ret1 Tryz.results139 (Res.tmp rfl) (List.Sublist.refl _) ⟨hc0.symm ▸ rfl, bk, rfl, rfl⟩
theorem KeysB_does (b : Nat) (h : HV) : Does Tryz.prog 66 #[.map (some b)] [] h (fun r Ω' h' => h = h' ∧ ∃ bk, r = .func (.func 118) #[] #[.pointer (some ⟨bk, 0, none⟩)] ∧ Ω' = [cells bk [.map (some b)] 134]) := by
  refine Does.of Tryz.func66 rfl Tryz.ntmps66 rfl fun c hc0 => ?_
  refine goK _ ?_
  refine Ops.eff rfl rfl rfl (Eff.box rfl) fun _ => Ops.ex fun bk => Ops.pure ?_
  rintro rfl
  refine goK _ ?_
  refine Ops.val rfl rfl rfl (Val.makeFunc (cs := #[.pointer (some ⟨bk, 0, none⟩)]) (fun ρ hρ => by simp [hρ _ _ (show ev _ (.tmp 1) = some _ from rfl)])) ?_
  refine goK _ ?_
  exact At.ret1 Tryz.results66 (Res.tmp rfl) (List.Sublist.refl _) ⟨hc0.symm ▸ rfl, bk, rfl, rfl⟩

theorem SortedA_does (bk b : Nat) (m : List (Int × Value)) (hnd : (m.map Prod.fst).Nodup) (hr : ∀ p ∈ m, -9223372036854775808 ≤ p.1 ∧ p.1 ≤ 9223372036854775807) (hl : m.length ≤ 1000000) (h : HV) :
    Does Tryz.prog 65 #[.func (.func 185) #[] #[.pointer (some ⟨bk, 0, none⟩)]] [cells bk [.map (some b)] 225, mapI key b m] h (fun r Ω' h' => h = h' ∧
      Ω' = [row 3 1 r m.length (((m.map Prod.fst).mergeSort fun x y => decide (x ≤ y)).flatMap zc), cells bk [.map (some b)] 225, mapI key b m]) :=
  sorted_of 185 225 bk b m hnd hr hl h (fun D0 w h1 h2 h3 => AnyZI.keys_gives (ρ := Tryz.keysA_ren) { Tryz.keysA with } Fence.wide _ trivial rfl (by omega) bk b m.length D0 w h1 h2 h3) (enters_of Tryz.func185 (by kernel_rfl) rfl)
theorem SortedB_does (bk b : Nat) (m : List (Int × Value)) (hnd : (m.map Prod.fst).Nodup) (hr : ∀ p ∈ m, -9223372036854775808 ≤ p.1 ∧ p.1 ≤ 9223372036854775807) (hl : m.length ≤ 1000000) (h : HV) :
    Does Tryz.prog 65 #[.func (.func 118) #[] #[.pointer (some ⟨bk, 0, none⟩)]] [cells bk [.map (some b)] 134, mapI key b m] h (fun r Ω' h' => h = h' ∧
      Ω' = [row 3 1 r m.length (((m.map Prod.fst).mergeSort fun x y => decide (x ≤ y)).flatMap zc), cells bk [.map (some b)] 134, mapI key b m]) :=
  sorted_of 118 134 bk b m hnd hr hl h (fun D0 w h1 h2 h3 => AnyZI.keys_gives (ρ := Tryz.keysB_ren) { Tryz.keysB with } Fence.wide _ trivial rfl (by omega) bk b m.length D0 w h1 h2 h3) (enters_of Tryz.func118 (by kernel_rfl) rfl)
end Go.Proofs.YthjgbmbaabpgmaaGreat
/-
  Commits: is a number a commit's; all that are ahead of one.
-/
namespace Go.Proofs.YthjgbmbaabpgmaaGreat
open Go.Sy
set_option maxRecDepth 4000
set_option maxHeartbeats 4000000
attribute [local irreducible] At Ops Val Eff Does Res Dr

theorem LinksH.mono {h h' : HV} {v : Value} {l : List Ox.Lnk} (r : LinksH h v l) (le : HV.le h h') : LinksH h' v l := by
  obtain ⟨xs, e, hr, he⟩ := r
  exact ⟨xs, e, hr.mono le, fun p hp => (he p hp).mono le⟩
theorem isNum_does (bk : Nat) (n k : Int) (u : Value) (h : HV) : Does Tryz.prog 184 #[.agg #[.int .i64 k, u], .pointer (some ⟨bk, 0, none⟩)] [cells bk [.int .i64 n] 3] h (fun r Ω' h' => (r = .bool (decide (k = n)) ∧ Ω' = [cells bk [.int .i64 n] 3]) ∧ h = h') := by
  refine Does.of Tryz.func184 rfl Tryz.ntmps184 rfl fun c hc0 => ?_
  refine goK _ ?_
  refine Ops.eff rfl rfl rfl (Eff.box rfl) fun _ => Ops.ex fun b2 => Ops.pure ?_
  rintro rfl
  refine goK _ ?_
  exact At.ret1 Tryz.results184 (Res.tmp rfl) (List.sublist_cons_self _ _) ⟨⟨rfl, rfl⟩, hc0.symm ▸ rfl⟩

theorem indexLinks_does (v : Value) (l : List Ox.Lnk) (bk : Nat) (n : Int) (h : HV) (hv : LinksH h v l) (hl : l.length ≤ 10000000000) :
    Does Tryz.prog 209 #[v, .func (.func 184) #[] #[.pointer (some ⟨bk, 0, none⟩)]] [cells bk [.int .i64 n] 3] h (fun r Ω' h' => ((∃ z, r = .int .i64 z ∧ (0 ≤ z ↔ n ∈ l.map Ox.Lnk.num)) ∧ Ω' = [cells bk [.int .i64 n] 3]) ∧ h = h') := by
  obtain ⟨xs, rfl, hr, he⟩ := hv
  obtain ⟨a, cp, rfl⟩ := hr.form
  rw [List.length_map] at hl
  refine Does.of Tryz.func209 rfl Tryz.ntmps209 rfl fun c hc0 => ?_
  refine goK _ ?_
  refine At.loop1 (fun (i : Nat) => [(0, .slice a xs.length cp), (1, .func (.func 184) #[] #[.pointer (some ⟨bk, 0, none⟩)]), (7, .int .i64 (xs.length : Int)), (8, .int .i64 (i : Int))])
    (fun (i : Nat) w => (i ≤ xs.length ∧ ∀ p ∈ xs.take i, p.1.num ≠ n) ∧ Mem c [cells bk [.int .i64 n] 3] h w) (fun (i : Nat) => xs.length - i)
    0 ⟨rfl, rfl, rfl, rfl, trivial⟩ (fun w hw => ⟨⟨Nat.zero_le _, by simp⟩, hw⟩) (fun i => At.pure (fun hq => ?_))
  obtain ⟨hi, hm⟩ := hq
  refine goK _ ?_
  refine At.condP rfl (fun h2 => ?_) (fun h2 => ?_)
  rotate_left
  · obtain rfl : i = xs.length := by omega
    rw [List.take_length] at hm
    refine goK _ ?_
    refine At.ret1 Tryz.results209 (Res.tmp rfl) (List.Sublist.refl _) ⟨⟨⟨-1, rfl, ⟨fun h => by omega, fun h => ?_⟩⟩, rfl⟩, hc0.symm ▸ rfl⟩
    obtain ⟨x, hx, e⟩ := List.mem_map.1 h
    obtain ⟨p, hp, rfl⟩ := List.mem_map.1 hx
    exact absurd e (hm p hp)
  have hlt : i < xs.length := by omega
  obtain ⟨b, o, rfl, _, _, hc⟩ := RowH.elem lkc_length hr (i := i) (x := xs[i]) (by simp [hlt])
  have hts : xs.take (i + 1) = xs.take i ++ [xs[i]] := by rw [List.take_succ_eq_append_getElem hlt]
  have hmem : xs[i] ∈ xs := by simp
  generalize hx : xs[i] = x at *
  obtain ⟨⟨xn, xp⟩, u⟩ := x
  repeat (first | refine Ops.val rfl rfl rfl (V.loadHA (cs := [.int .i64 xn, u]) rfl rfl rfl hc) ?_ | refine goS _ ?_)
  refine Ops.eff rfl rfl rfl (Eff.callv (fn (by kernel_rfl)) rfl rfl (Ωc := [cells bk [.int .i64 n] 3]) rfl (isNum_does bk n xn u h)) fun _ => Ops.ex fun _ => Ops.ex fun _ => Ops.pure ?_
  rintro ⟨⟨rfl, rfl⟩, rfl⟩
  refine goK _ ?_
  refine At.condP rfl (fun h3 => ?_) (fun h3 => ?_)
  · refine goK _ ?_
    refine At.ret1 Tryz.results209 (Res.tmp rfl) (List.Sublist.refl _) ⟨⟨⟨(i : Int), rfl, ⟨fun _ => List.mem_map.2 ⟨⟨xn, xp⟩, List.mem_map.2 ⟨_, hmem, rfl⟩, h3⟩, fun _ => by omega⟩⟩, rfl⟩, hc0.symm ▸ rfl⟩
  refine goK _ ?_
  refine At.back (i + 1) (by show xs.length - (i + 1) < xs.length - i; omega) (by exact ⟨rfl, rfl, rfl, rfl, trivial⟩) (fun w hw => ⟨⟨hlt, fun p hp => ?_⟩, hw⟩)
  rw [hts] at hp
  rcases List.mem_append.1 hp with h4 | h4
  · exact hm p h4
  · simp at h4; subst h4; exact h3

theorem containsLink_does (v : Value) (l : List Ox.Lnk) (bk : Nat) (n : Int) (h : HV) (hv : LinksH h v l) (hl : l.length ≤ 10000000000) :
    Does Tryz.prog 183 #[v, .func (.func 184) #[] #[.pointer (some ⟨bk, 0, none⟩)]] [cells bk [.int .i64 n] 3] h (fun r Ω' h' => (r = .bool (decide (n ∈ l.map Ox.Lnk.num)) ∧ Ω' = [cells bk [.int .i64 n] 3]) ∧ h = h') := by
  refine Does.of Tryz.func183 rfl Tryz.ntmps183 rfl fun c hc0 => ?_
  refine goK _ ?_
  refine Ops.eff rfl rfl rfl (Eff.call (fn (by kernel_rfl)) rfl (Ωc := [cells bk [.int .i64 n] 3]) rfl (indexLinks_does v l bk n h hv hl)) fun _ => Ops.ex fun _ => Ops.ex fun _ => Ops.pure ?_
  rintro ⟨⟨⟨z, rfl, hz⟩, rfl⟩, rfl⟩
  refine goK _ ?_
  exact At.ret1 Tryz.results183 (Res.tmp rfl) (List.Sublist.refl _) ⟨⟨congrArg Value.bool (by simpa using hz), rfl⟩, hc0.symm ▸ rfl⟩
open Classical in
/-- why some numbers are not commits of a graph; 0: they are -/
noncomputable def Ox.thereE (l : List Ox.Lnk) (ns : List Int) : Int := if Ox.DagOk l then (if ∀ n ∈ ns, n ∈ l.map Ox.Lnk.num then 0 else 131) else 130

theorem there_does (v u : Value) (l : List Ox.Lnk) (ns : List Int) (h : HV) (hv : LinksH h v l) (hu : ZsH h u ns) (hl : l.length ≤ 10000000000) (hp : ∀ x ∈ l, x.ps.length ≤ 10000000000) (hn : ns.length ≤ 10000000000) :
    Does Tryz.prog 138 #[v, u] [] h (fun r Ω' h' => (r = .int .i64 (Ox.thereE l ns) ∧ Ω' = []) ∧ h = h') := by
  obtain ⟨ua, ucp, rfl⟩ := hu.form
  refine Does.of Tryz.func138 rfl Tryz.ntmps138 rfl fun c hc0 => ?_
  refine goK _ ?_
  refine Ops.eff rfl rfl rfl (Eff.call (fn (by kernel_rfl)) rfl (Ωc := []) rfl (DagCheck_does v l h hv hl hp)) fun _ => Ops.ex fun _ => Ops.ex fun _ => Ops.pure ?_
  rintro ⟨rfl, rfl, rfl⟩
  refine goK _ ?_
  refine At.condN rfl (fun h1 => ?_) (fun h1 => ?_)
  · refine goK _ ?_
    refine At.ret1 Tryz.results138 (Res.tmp rfl) (List.Sublist.refl _) ⟨⟨?_, rfl⟩, hc0.symm ▸ rfl⟩
    unfold Ox.thereE Ox.dagCheck at *
    split at h1
    · omega
    · rename_i hn; simp [hn]
  have hd : Ox.DagOk l := by
    unfold Ox.dagCheck at h1
    split at h1
    · assumption
    · omega
  refine goK _ ?_
  refine At.loop1 (fun (i : Nat) => [(0, v), (13, .slice ua ns.length ucp), (14, .int .i64 (ns.length : Int)), (15, .int .i64 (i : Int))])
    (fun (i : Nat) w => (i ≤ ns.length ∧ ∀ n ∈ ns.take i, n ∈ l.map Ox.Lnk.num) ∧ Mem c [] h w) (fun (i : Nat) => ns.length - i)
    0 ⟨rfl, rfl, rfl, rfl, trivial⟩ (fun w hw => ⟨⟨Nat.zero_le _, by simp⟩, hw⟩) (fun i => At.pure (fun hq => ?_))
  obtain ⟨hi, hm⟩ := hq
  refine goK _ ?_
  refine At.condP rfl (fun h2 => ?_) (fun h2 => ?_)
  rotate_left
  · obtain rfl : i = ns.length := by omega
    rw [List.take_length] at hm
    refine goK _ ?_
    refine At.ret1 Tryz.results138 (Res.tmp rfl) (List.Sublist.refl _) ⟨⟨?_, rfl⟩, hc0.symm ▸ rfl⟩
    rw [Ox.thereE, if_pos hd, if_pos hm]
  have hlt : i < ns.length := by omega
  obtain ⟨b, o, rfl, _, _, hc⟩ := RowH.elem zc_length hu (i := i) (x := ns[i]) (by simp [hlt])
  have hts : ns.take (i + 1) = ns.take i ++ [ns[i]] := by rw [List.take_succ_eq_append_getElem hlt]
  have hmem : ns[i] ∈ ns := by simp
  generalize hx : ns[i] = x at *
  repeat (first | refine Ops.val rfl rfl rfl (V.loadH rfl rfl (hc 0 _ rfl)) ?_ | refine goS _ ?_)
  refine Ops.eff rfl rfl rfl (E.alloc rfl) fun _ => Ops.ex fun b7 => Ops.pure ?_
  rintro rfl
  refine goK _ ?_
  refine Ops.eff0 rfl rfl (E.store 0 rfl rfl rfl rfl rfl rfl rfl) fun _ => ?_
  refine goK _ ?_
  refine Ops.val rfl rfl rfl (Val.makeFunc (cs := #[.pointer (some ⟨b7, 0, none⟩)]) (fun ρ hρ => by simp [hρ _ _ (show ev _ (.tmp 7) = some _ from rfl)])) ?_
  refine Ops.eff rfl rfl rfl (Eff.call (fn (by kernel_rfl)) rfl (Ωc := [cells b7 [.int .i64 x] 3]) rfl (containsLink_does v l b7 x h hv hl)) fun _ => Ops.ex fun _ => Ops.ex fun _ => Ops.pure ?_
  rintro ⟨⟨rfl, rfl⟩, rfl⟩
  refine goK _ ?_
  refine At.condN rfl (fun h3 => ?_) (fun h3 => ?_)
  · refine goK _ ?_
    refine At.ret1 Tryz.results138 (Res.tmp rfl) (List.nil_sublist _) ⟨⟨?_, rfl⟩, hc0.symm ▸ rfl⟩
    rw [Ox.thereE, if_pos hd, if_neg fun hall => h3 (hall x hmem)]
  refine goK _ ?_
  refine At.back (i + 1) (by show ns.length - (i + 1) < ns.length - i; omega) (by exact ⟨rfl, rfl, rfl, rfl, trivial⟩) (fun w hw => ⟨⟨hlt, fun p hp => ?_⟩, hw.sub (List.nil_sublist _)⟩)
  rw [hts] at hp
  rcases List.mem_append.1 hp with h4 | h4
  · exact hm p h4
  · simp at h4; subst h4; exact h3

namespace Ox
/-- the commits that are ahead of one, in order -/
structure Ancs (l : List Lnk) (n : Int) (s : List Int) : Prop where
  sorted : s.Pairwise (· < ·)
  mem : ∀ k, k ∈ s ↔ Reach (upOf l) n k
theorem sort_lt {m : List Int} (h : m.Nodup) : (m.mergeSort fun x y => decide (x ≤ y)).Pairwise (· < ·) := by
  have tr : ∀ a b c : Int, decide (a ≤ b) = true → decide (b ≤ c) = true → decide (a ≤ c) = true := fun a b c h1 h2 => by simp only [decide_eq_true_eq] at *; omega
  have to : ∀ a b : Int, (decide (a ≤ b) || decide (b ≤ a)) = true := fun a b => by simp only [Bool.or_eq_true, decide_eq_true_eq]; omega
  have h1 := List.pairwise_mergeSort tr to m
  have h2 : (m.mergeSort fun x y => decide (x ≤ y)).Nodup := (List.mergeSort_perm m _).nodup_iff.2 h
  refine (h1.and h2).imp fun {a b} hab => ?_
  have := of_decide_eq_true hab.1
  have := hab.2
  omega
theorem DagOk.each {l : List Lnk} (h : DagOk l) : ∀ x ∈ l, x.num ≤ 300 ∧ x.ps.length ≤ 2 ∧ ∀ p ∈ x.ps, p ∈ l.map Lnk.num := fun x hx => by
  obtain ⟨i, hi⟩ := List.getElem?_of_mem hx
  have F := h.2 i x hi
  refine ⟨F.top, F.few, fun p hp => ?_⟩
  have := F.there p hp
  obtain ⟨y, hy, e⟩ := List.mem_map.1 this
  exact List.mem_map.2 ⟨y, List.mem_of_mem_take hy, e⟩
theorem DagOk.pos {l : List Lnk} (h : DagOk l) : ∀ (i : Nat) x, l[i]? = some x → 0 < x.num := fun i => by
  induction i with
  | zero => intro x hx; have := (h.2 0 x hx).up; simpa [lastOf] using this
  | succ i ih =>
    intro x hx
    have hi : i < l.length := by have := (List.getElem?_eq_some_iff.1 hx).1; omega
    have F := (h.2 (i + 1) x hx).up
    have hp := ih l[i] (by simp [hi])
    have e : lastOf (l.take (i + 1)) = l[i].num := by rw [List.take_succ_eq_append_getElem hi, lastOf, List.getLast?_concat]; rfl
    omega
theorem DagOk.range {l : List Lnk} (h : DagOk l) : ∀ k ∈ l.map Lnk.num, 0 < k ∧ k ≤ 300 := fun k hk => by
  obtain ⟨x, hx, rfl⟩ := List.mem_map.1 hk
  obtain ⟨i, hi⟩ := List.getElem?_of_mem hx
  exact ⟨h.pos i x hi, (h.each x hx).1⟩
theorem DagOk.reach {l : List Lnk} (h : DagOk l) {n : Int} (hn : n ∈ l.map Lnk.num) : ∀ k, Reach (upOf l) n k → k ∈ l.map Lnk.num := fun k hk => by
  induction hk with
  | refl => exact hn
  | step _ hp _ =>
    obtain ⟨x, hx, _, hpx⟩ := upOf_mem l _ _ hp
    exact (h.each x hx).2.2 _ hpx
theorem flat_ps : ∀ {l : List Lnk}, (∀ x ∈ l, x.ps.length ≤ 2) → (l.flatMap Lnk.ps).length ≤ 2 * l.length
  | [], _ => by simp
  | x :: r, h => by
    have := flat_ps (l := r) fun y hy => h y (by simp [hy])
    have := h x (by simp)
    simp only [List.flatMap_cons, List.length_append, List.length_cons]; omega
theorem upOf_len (l : List Lnk) {N : Nat} (h : ∀ x ∈ l, x.ps.length ≤ N) (k : Int) : (upOf l k).length ≤ N := by
  rcases l.eq_nil_or_concat with rfl | ⟨r, x, rfl⟩
  · simp [upOf]
  · rw [List.concat_eq_append] at h ⊢
    rw [upOf_snoc]
    simp only
    split
    · exact h x (by simp)
    · exact upOf_len r (fun y hy => h y (by simp [hy])) k
termination_by l.length
decreasing_by subst_vars; simp
theorem there_ok {l : List Lnk} {ns : List Int} (h : thereE l ns = 0) : DagOk l ∧ ∀ n ∈ ns, n ∈ l.map Lnk.num := by
  unfold thereE at h
  split at h
  · rename_i hd
    split at h
    · rename_i hh; exact ⟨hd, hh⟩
    · omega
  · omega
end Ox

/-- what climb does to a graph's parents -/
theorem climbL_does (bu : Nat) (U : List (Int × Value)) (l : List Ox.Lnk) (n : Int) (h : HV) (hU : UpH h U (Ox.upOf l)) (hd : Ox.DagOk l) (hn : n ∈ l.map Ox.Lnk.num) :
    Does Tryz.prog 140 #[.map (some bu), .int .i64 n] [mapI key bu U] h (fun r Ω' h' => h = h' ∧ ∃ b met, r = .map (some b) ∧ Ω' = [mapI key b (Ox.onesZ met), mapI key bu U] ∧ met.Nodup ∧ met.length ≤ 601 ∧ (∀ k ∈ met, 0 < k ∧ k ≤ 300) ∧ ∀ k, k ∈ met ↔ Ox.Reach (Ox.upOf l) n k) := by
  have hfl := Ox.flat_ps (l := l) fun x hx => (hd.each x hx).2.1
  have hll := hd.1
  refine (climb_does bu U (Ox.upOf l) (l.flatMap Ox.Lnk.ps) n h hU (fun k p hp => ?_) (by omega) (fun k => ?_)).mono ?_
  · obtain ⟨x, hx, _, hpx⟩ := Ox.upOf_mem l k p hp
    exact List.mem_flatMap.2 ⟨x, hx, hpx⟩
  · exact Nat.le_trans (Ox.upOf_len l (N := 2) (fun x hx => (hd.each x hx).2.1) k) (by omega)
  · rintro r Ω' h' ⟨rfl, b, met, h1, h2, h3, h4, h5⟩
    exact ⟨rfl, b, met, h1, h2, h3, by omega, fun k hk => hd.range k (hd.reach hn k ((h5 k).1 hk)), h5⟩

/-- the commits that are ahead of one, in order; behind them what Above hands back -/
theorem Above_does (v : Value) (l : List Ox.Lnk) (n : Int) (h : HV) (hv : LinksH h v l) (hl : l.length ≤ 10000000000) (hp : ∀ x ∈ l, x.ps.length ≤ 1000000) :
    Does Tryz.prog 93 #[v, .int .i64 n] [] h (fun r Ω' h' => (Ox.thereE l [n] ≠ 0 ∧ r = .tuple #[.slice none 0 0, .int .i64 (Ox.thereE l [n])] ∧ Ω' = [] ∧ h = h') ∨
      (Ox.thereE l [n] = 0 ∧ ∃ u s, r = .tuple #[u, .int .i64 0] ∧ Ω' = [row 3 1 u s.length (s.flatMap zc)] ∧ h = h' ∧ Ox.Ancs l n s)) := by
  refine Does.of Tryz.func93 rfl Tryz.ntmps93 rfl fun c hc0 => ?_
  refine goK _ ?_
  refine Ops.eff rfl rfl rfl (E.buildSlice1R rfl rfl rfl rfl) fun _ => Ops.ex fun bw => Ops.pure ?_
  rintro rfl
  have hlend := Does.lend (P := Tryz.prog) (f := 138) (args := #[v, .slice (some ⟨bw, 0, none⟩) 1 1]) (e := 3) (m := 1) (N := 1) (v := .slice (some ⟨bw, 0, none⟩) 1 1) (xs := [.int .i64 n]) (Ωc := []) (h := h)
    (post := fun r Ω' => r = .int .i64 (Ox.thereE l [n]) ∧ Ω' = [])
    (fun h' hle hsl => there_does v _ l [n] h' (hv.mono hle) hsl hl (fun x hx => by have := hp x hx; omega) (by simp))
  refine Ops.eff rfl rfl rfl (Eff.call (fn (by kernel_rfl)) rfl (Ωc := [row 3 1 (.slice (some ⟨bw, 0, none⟩) 1 1) 1 [.int .i64 n]]) rfl (hlend)) fun _ => Ops.ex fun _ => Ops.ex fun _ => Ops.pure ?_
  rintro ⟨⟨_, ⟨rfl, rfl⟩, rfl⟩, rfl⟩
  refine goK _ ?_
  refine At.condN rfl (fun h1 => ?_) (fun h1 => ?_)
  · refine goK _ ?_
    exact At.ret2 Tryz.results93 (Res.tmp rfl) (Res.tmp rfl) (List.nil_sublist _) (.inl ⟨h1, rfl, rfl, hc0.symm ▸ rfl⟩)
  obtain ⟨hd, hin⟩ := Ox.there_ok h1
  replace hin := hin n (by simp)
  refine goK _ ?_
  refine Ops.eff rfl rfl rfl (Eff.call (fn (by kernel_rfl)) rfl (Ωc := []) rfl (parents_does v l h hv hl)) fun _ => Ops.ex fun _ => Ops.ex fun _ => Ops.pure ?_
  rintro ⟨rfl, bu, U, rfl, rfl, hU⟩
  refine goK _ ?_
  refine Ops.eff rfl rfl rfl (Eff.call (fn (by kernel_rfl)) rfl (Ωc := [mapI key bu U]) rfl (climbL_does bu U l n h hU hd hin)) fun _ => Ops.ex fun _ => Ops.ex fun _ => Ops.pure ?_
  rintro ⟨rfl, bm, met, rfl, rfl, hnd, hml, hmr, hmem⟩
  refine Ops.eff rfl rfl rfl (Eff.call (fn (by kernel_rfl)) rfl (Ωc := []) rfl (KeysA_does bm h)) fun _ => Ops.ex fun _ => Ops.ex fun _ => Ops.pure ?_
  rintro ⟨rfl, bk, rfl, rfl⟩
  have hfst : (Ox.onesZ met).map Prod.fst = met := by simp [Ox.onesZ, Function.comp_def]
  have hsl : ((Ox.onesZ met).map Prod.fst).length = met.length := by rw [hfst]
  refine Ops.eff rfl rfl rfl (Eff.call (fn (by kernel_rfl)) rfl (Ωc := [cells bk [.map (some bm)] 225, mapI key bm (Ox.onesZ met)]) rfl (SortedA_does bk bm (Ox.onesZ met) (by rw [hfst]; exact hnd) (fun p hp => by have := hmr p.1 (by rw [← hfst]; exact List.mem_map_of_mem hp); omega) (by rw [List.length_map] at hsl; omega) h)) fun _ => Ops.ex fun _ => Ops.ex fun _ => Ops.pure ?_
  rintro ⟨rfl, rfl⟩
  refine goK _ ?_
  rw [hfst]
  refine At.ret2 Tryz.results93 (Res.tmp rfl) (Res.tmp rfl) (Ω' := [row 3 1 _ (met.mergeSort fun x y => decide (x ≤ y)).length ((met.mergeSort fun x y => decide (x ≤ y)).flatMap zc)]) ?_ (.inr ⟨h1, _, met.mergeSort fun x y => decide (x ≤ y), rfl, rfl, hc0.symm ▸ rfl, Ox.sort_lt hnd, fun k => ?_⟩)
  · rw [List.length_mergeSort, ← hsl, List.length_map]
    exact (List.nil_sublist _).cons_cons _
  · rw [List.mem_mergeSort]; exact hmem k
end Go.Proofs.YthjgbmbaabpgmaaGreat
/-
  slices.Reverse over ints of the call's own.
-/
namespace Go.Proofs.YthjgbmbaabpgmaaGreat
open Go.Sy
set_option maxRecDepth 4000
set_option maxHeartbeats 4000000
attribute [local irreducible] At Ops Val Eff Does Res Dr
namespace Ox
/-- where Reverse stands: the first i and the last i have changed places -/
def RevAt (l z : List Int) (i : Nat) : Prop := z.length = l.length ∧ ∀ k, k < l.length → z[k]? = if k < i ∨ l.length - i ≤ k then l[l.length - 1 - k]? else l[k]?
theorem RevAt.end_ {l z : List Int} {i : Nat} (h : RevAt l z i) (hi : l.length ≤ 2 * i + 1) : z = l.reverse := by
  apply List.ext_getElem?
  intro k
  by_cases hk : k < l.length
  · rw [h.2 k hk, List.getElem?_reverse hk]
    split
    · rfl
    · congr 1; omega
  · rw [List.getElem?_eq_none (by rw [h.1]; omega), List.getElem?_eq_none (by simp; omega)]
theorem RevAt.step {l z : List Int} {i j : Nat} {a b : Int} (h : RevAt l z i) (hj : j + i + 1 = l.length) (hij : i < j) (ha : z[i]? = some a) (hb : z[j]? = some b) : RevAt l ((z.set i b).set j a) (i + 1) := by
  refine ⟨by simp [h.1], fun k hk => ?_⟩
  have h1 := h.2 k hk
  rw [h.2 i (by omega), if_neg (by omega)] at ha
  rw [h.2 j (by omega), if_neg (by omega)] at hb
  by_cases hki : k = i
  · subst hki
    rw [List.getElem?_set_ne (by omega), List.getElem?_set_self (by rw [h.1]; omega), if_pos (by omega), ← hb]
    congr 1; omega
  · by_cases hkj : k = j
    · subst hkj
      rw [List.getElem?_set_self (by simp [h.1]; omega), if_pos (by omega), ← ha]
      congr 1; omega
    · rw [List.getElem?_set_ne (by omega), List.getElem?_set_ne (by omega), h1]
      by_cases hc : k < i ∨ l.length - i ≤ k
      · rw [if_pos hc, if_pos (by omega)]
      · rw [if_neg hc, if_neg (by omega)]
end Ox

theorem Reverse_does (v : Value) (l : List Int) (hl : l.length ≤ 10000000000) (h : HV) :
    Does Tryz.prog 163 #[v] [row 3 1 v l.length (l.flatMap zc)] h (fun r Ω' h' => Ω' = [row 3 1 v l.length (l.reverse.flatMap zc)] ∧ h = h') := by
  refine Does.of Tryz.func163 rfl Tryz.ntmps163 rfl fun c hc0 => ?_
  refine At.row_form 0 rfl fun a cp e => ?_
  subst e
  refine goK _ ?_
  rcases Nat.eq_zero_or_pos l.length with h0 | h0
  · obtain rfl : l = [] := List.eq_nil_of_length_eq_zero h0
    refine At.loop1 (fun (_ : Unit) => [(2, .int .i64 0), (3, .int .i64 (-1))]) (fun _ w => Mem c [row 3 1 (.slice a 0 cp) 0 []] h w) (fun _ => 0) () ⟨rfl, rfl, trivial⟩ (fun w hw => hw) (fun _ => ?_)
    refine goK _ ?_
    exact At.fin0 Tryz.results163 (List.Sublist.refl _) ⟨rfl, hc0.symm ▸ rfl⟩
  refine At.open_row 0 rfl h0 fun g cp' rest e hl1 hl2 hcap hmax => ?_
  cases e
  refine At.loop2 (fun (i : Nat) (_ : List Int) => [(0, .slice (some ⟨g, 0, none⟩) l.length cp), (2, .int .i64 (i : Int)), (3, .int .i64 ((l.length : Int) - 1 - i))])
    (fun (i : Nat) (z : List Int) w => (i ≤ l.length ∧ Ox.RevAt l z i) ∧ Mem c [cells g (z.flatMap zc ++ rest) 3] h w) (fun (i : Nat) (_ : List Int) => l.length - i)
    0 l ⟨rfl, rfl, congrArg (fun z => some (Value.int .i64 z)) (by omega), trivial⟩ (fun w hw => ⟨⟨Nat.zero_le _, rfl, fun k hk => by rw [if_neg (by omega)]⟩, hw⟩) (fun i z => At.pure (fun hq => ?_))
  obtain ⟨hi, hR⟩ := hq
  refine goK _ ?_
  refine At.condP rfl (fun h2 => ?_) (fun h2 => ?_)
  rotate_left
  · have hz := hR.end_ (by omega)
    subst hz
    refine goK _ ?_
    have hx1 : (l.reverse.flatMap zc).length = l.length * 1 := by rw [flat_zc]; simp
    refine At.close_row (N := l.length) (xs := l.reverse.flatMap zc) (rest := rest) (cp := cp) (e := 3) (size := 1) (g := g) 0 rfl hx1 (by rw [← hl2, List.length_append, List.length_append, hx1, hl1]) hcap hmax ?_
    exact At.fin0 Tryz.results163 (List.Sublist.refl _) ⟨rfl, hc0.symm ▸ rfl⟩
  obtain ⟨j, hj⟩ : ∃ j : Nat, j + i + 1 = l.length := ⟨l.length - 1 - i, by omega⟩
  have hij : i < j := by omega
  refine At.respell (t := 3) (v' := .int .i64 (j : Int)) rfl (by congr 1; omega) ?_
  have hzl := hR.1
  have hzi : z[i]? = some (z[i]'(by omega)) := by simp
  have hzj : z[j]? = some (z[j]'(by omega)) := by simp
  have hst := hR.step hj hij hzi hzj
  generalize z[i]'(by omega) = zi at *
  generalize z[j]'(by omega) = zj at *
  have hci : (z.flatMap zc ++ rest)[0 + i * 1]? = some (.int .i64 zi) := by
    rw [flat_zc, List.getElem?_append_left (by simp; omega)]; simp [hzi]
  have hcj : (z.flatMap zc ++ rest)[0 + j * 1]? = some (.int .i64 zj) := by
    rw [flat_zc, List.getElem?_append_left (by simp; omega)]; simp [hzj]
  refine goK _ ?_
  first | refine At.drawn mo (fun _ _ m => m.drew _) ?_ | refine At.seq (At.drawn mo (fun _ _ m => m.drew _) ?_)
  refine draA 0 _ ?_
  refine draA 1 _ ?_
  refine draA 2 _ ?_
  refine draA 3 _ ?_
  refine draA 4 _ ?_
  refine draA 5 _ ?_
  refine Dr.val 6 rfl rfl rfl rfl (by kernel_rfl) rfl (V.indexAddr rfl rfl rfl rfl (by omega)) ?_
  refine Dr.valS 7 _ rfl rfl rfl rfl (by kernel_rfl) rfl (V.load rfl rfl (fun _ hh => hh)) (fun w hw => hw.cell (n := 0) (v := .int .i64 zj) rfl hcj) ?_
  refine draA 8 _ ?_
  refine draA 9 _ ?_
  refine Dr.val 10 rfl rfl rfl rfl (by kernel_rfl) rfl (V.indexAddr rfl rfl rfl rfl (by omega)) ?_
  refine Dr.valS 11 _ rfl rfl rfl rfl (by kernel_rfl) rfl (V.load rfl rfl (fun _ hh => hh)) (fun w hw => hw.cell (n := 0) (v := .int .i64 zi) rfl hci) ?_
  refine Dr.val 12 rfl rfl rfl rfl (by kernel_rfl) rfl (V.indexAddr rfl rfl rfl rfl (by omega)) ?_
  refine Dr.next0 (e := 13) rfl rfl (by kernel_rfl) rfl (by kernel_rfl) (by kernel_rfl) rfl (E.store 0 rfl rfl rfl rfl rfl (by rw [flat_zc]; simp; omega) rfl) aokK fun _ => ?_
  refine Dr.val 14 rfl rfl rfl rfl (by kernel_rfl) rfl (V.indexAddr rfl rfl rfl rfl (by omega)) ?_
  refine Dr.next0 (e := 15) rfl rfl (by kernel_rfl) rfl (by kernel_rfl) (by kernel_rfl) rfl (E.store 0 rfl rfl rfl rfl rfl (by rw [flat_zc]; simp [sets_length, hzl]; omega) rfl) aokK fun _ => ?_
  refine Dr.done (by kernel_rfl) (by kernel_rfl) ?_
  refine goK _ ?_
  refine At.back2 (i + 1) ((z.set i zj).set j zi) (by omega) (by exact ⟨rfl, rfl, congrArg (fun z => some (Value.int .i64 z)) (by omega), trivial⟩) (fun w hw => ⟨⟨by omega, hst⟩, ?_⟩)
  have e1 : (z.flatMap zc ++ rest).set (0 + i * 1) (.int .i64 zj) = (z.set i zj).flatMap zc ++ rest := by
    rw [flat_zc, flat_zc, List.set_append_left _ _ (by simp; omega)]; simp [List.map_set]
  have e2 : ((z.set i zj).flatMap zc ++ rest).set (0 + j * 1) (.int .i64 zi) = ((z.set i zj).set j zi).flatMap zc ++ rest := by
    rw [flat_zc, flat_zc, List.set_append_left _ _ (by simp; omega)]; simp [List.map_set]
  rw [← e2, ← e1]
  exact hw
end Go.Proofs.YthjgbmbaabpgmaaGreat
