/-
  The machine as a relation between states: what a request and a client's edit make of a state.
-/
import Derived.Test.YthjgbmbaabpgmaaGreatSrd35
import Derived.Test.YthjgbmbaabpgmaaGreatSrd05
set_option linter.unusedVariables false
set_option linter.unusedSimpArgs false
set_option linter.unusedSectionVars false
namespace Go.Proofs.YthjgbmbaabpgmaaGreat
open Go.Sy
set_option maxRecDepth 4000
set_option maxHeartbeats 4000000
namespace Ox
/-- a request -/
structure Rq where
  kind : Int
  name : List UInt8
  other : List UInt8
  num : Int
  text : List UInt8
  d : List Op
/-- a reply -/
structure Rp where
  kind : Int
  num : Int
  text : List UInt8
  runs : List Atom
  log : List Int
/-- a client's edit -/
structure Ms where
  kind : Int
  branch : Int
  client : Int
  seq : Int
  rev : Int
  who : Int
  d : List Op
def St.zero : St := ⟨0, 0, [], [], []⟩
def St.new : St := ⟨1, 1, [], [], []⟩
def Rp.zero : Rp := ⟨0, 0, [], [], []⟩
/-- a document of a state -/
noncomputable def St.doc (s : St) (n : Int) : List Atom := docsOf s.cs n
def St.lnk (s : St) : List Lnk := linksC s.cs
/-- the first branch of which p holds -/
structure BrAt (bs : List Br) (p : Br → Prop) (i : Nat) (b : Br) : Prop where
  get : bs[i]? = some b
  holds : p b
  first : ∀ j x, j < i → bs[j]? = some x → ¬ p x
theorem BrAt.inj {bs : List Br} {p : Br → Prop} {i j : Nat} {b b' : Br} (h : BrAt bs p i b) (h' : BrAt bs p j b') : i = j ∧ b = b' := by
  rcases Nat.lt_trichotomy i j with h1 | h1 | h1
  · exact absurd h.holds (h'.first i b h1 h.get)
  · subst h1; have := h.get.symm.trans h'.get; cases this; exact ⟨rfl, rfl⟩
  · exact absurd h'.holds (h.first j b' h1 h'.get)
theorem BrAt.ex {bs : List Br} {p : Br → Prop} (h : ∃ b ∈ bs, p b) : ∃ i b, BrAt bs p i b := by
  induction bs with
  | nil => obtain ⟨b, hb, _⟩ := h; simp at hb
  | cons a r ih =>
    by_cases ha : p a
    · exact ⟨0, a, rfl, ha, fun j _ hj => by omega⟩
    · obtain ⟨b, hb, hpb⟩ := h
      rcases List.mem_cons.1 hb with rfl | hb
      · exact absurd hpb ha
      · obtain ⟨i, b', h1, h2, h3⟩ := ih ⟨b, hb, hpb⟩
        refine ⟨i + 1, b', by simpa using h1, h2, fun j x hj hx => ?_⟩
        cases j with
        | zero => simp at hx; subst hx; exact ha
        | succ j => exact h3 j x (by omega) (by simpa using hx)
def named (s : St) (n : List UInt8) : Prop := ∃ b ∈ s.bs, b.name = n
/-- a commit more on a branch -/
def St.addC (s : St) (i : Nat) (b : Br) (ps : List Int) (d o : List Op) (cl sq : Int) : St :=
  ⟨s.nc + 1, s.nb, s.cs ++ [⟨s.nc, lastZ b.log :: ps, d, o, cl, sq⟩], s.bs.set i (b.put s.nc), s.ks⟩
/-- a branch more -/
def St.addB (s : St) (n : List UInt8) (first : Int) : St := ⟨s.nc, s.nb + 1, s.cs, s.bs ++ [⟨s.nb, n, [first]⟩], s.ks⟩
/-- an empty commit more -/
def St.addE (s : St) : St := ⟨s.nc + 1, s.nb, s.cs ++ [⟨s.nc, [], [], [], 0, 0⟩], s.bs, s.ks⟩
noncomputable section
open Classical
def createE (s : St) (q : Rq) : Int := if named s q.name then 191 else if 20 ≤ s.bs.length ∨ 300 < s.nc then 193 else 0
def forkE (s : St) (q : Rq) : Int := if named s q.name then 191 else if q.num ∉ s.cs.map Cm.num then 192 else if 20 ≤ s.bs.length then 193 else 0
def loadE (s : St) (q : Rq) : Int := if tlen q.text < 0 then 10 else if 1000 < tlen q.text then 198 else if 300 < s.nc then 193 else 0
def editE (s : St) (b : Br) (q : Rq) : Int :=
  if (lens q.d).2.2 ≠ 0 then ((lens q.d).2.2 : Int) else if ((lens q.d).1 : Int) ≠ tlen (text (s.doc (lastZ b.log))) then 91 else if 300 < s.nc then 193 else 0
def mergeX (s : St) (x y : Int) : Int :=
  if y ∈ ancs s.lnk x then 0 else match commL s.lnk x y with
    | [] => 140
    | [c] => if docsE (s.doc c) (s.doc x) (s.doc y) x y ≠ 0 then 198 else if 300 < s.nc then 193 else 0
    | _ => 142
def renameE (s : St) (q : Rq) : Int := if isName q.other = false then 190 else if named s q.other then 191 else 0
/-- the delta from one document to another -/
def deltaOf (x l : List Atom) : List Op := if Good x ∧ Good l ∧ Goes (flat x) (flat l) ∧ (lens (dOut (flat x) (flat l))).2.2 = 0 then norm ((parseAll (dOut (flat x) (flat l))).getD []) else []
/-- one delta behind another -/
def transD (a b : List Op) (first : Bool) : List Op :=
  if (lens (joinAll (transOut (sideF (norm ((parseAll a).getD []))) (sideF (norm ((parseAll b).getD []))) first).1)).2.2 = 0 then norm ((parseAll (joinAll (transOut (sideF (norm ((parseAll a).getD []))) (sideF (norm ((parseAll b).getD []))) first).1)).getD []) else []
/-- what a handler makes of a state: its error; the state behind it, the reply -/
inductive HdR (s : St) (q : Rq) : Int → Int → St → Rp → Prop
  | createE : createE s q ≠ 0 → HdR s q 1 (createE s q) .zero .zero
  | create : createE s q = 0 → HdR s q 1 0 (s.addE.addB q.name s.nc) ⟨0, s.nb, [], [], []⟩
  | forkE : forkE s q ≠ 0 → HdR s q 4 (forkE s q) .zero .zero
  | fork : forkE s q = 0 → HdR s q 4 0 (s.addB q.name q.num) ⟨0, s.nb, [], [], []⟩
  | loadE : loadE s q ≠ 0 → HdR s q 2 (loadE s q) .zero .zero
  | load (i : Nat) (b : Br) (x y : List Nat) (g : Gp) : loadE s q = 0 → BrAt s.bs (·.name = q.name) i b → points (text (s.doc (lastZ b.log))) = some x → points q.text = some y → DiffR x y x.length y.length g →
      HdR s q 2 0 (s.addC i b [] (diffOut y g) [] 0 0) ⟨0, s.nc, [], [], []⟩
  | editE (i : Nat) (b : Br) : BrAt s.bs (·.name = q.name) i b → editE s b q ≠ 0 → HdR s q 3 (editE s b q) .zero .zero
  | edit (i : Nat) (b : Br) (ds : List DOp) : BrAt s.bs (·.name = q.name) i b → editE s b q = 0 → parseAll q.d = some ds → HdR s q 3 0 (s.addC i b [] (norm ds) [] 0 0) ⟨0, s.nc, [], [], []⟩
  | mergeN : isName q.other = false → HdR s q 5 190 .zero .zero
  | mergeO : isName q.other = true → ¬ named s q.other → HdR s q 5 192 .zero .zero
  | mergeE (i j : Nat) (b o : Br) : isName q.other = true → BrAt s.bs (·.name = q.name) i b → BrAt s.bs (·.name = q.other) j o → mergeX s (lastZ b.log) (lastZ o.log) ≠ 0 → HdR s q 5 (mergeX s (lastZ b.log) (lastZ o.log)) .zero .zero
  | merge0 (i j : Nat) (b o : Br) : isName q.other = true → BrAt s.bs (·.name = q.name) i b → BrAt s.bs (·.name = q.other) j o → lastZ o.log ∈ ancs s.lnk (lastZ b.log) → HdR s q 5 0 s ⟨0, lastZ b.log, [], [], []⟩
  | merge (i j : Nat) (b o : Br) (c : Int) : isName q.other = true → BrAt s.bs (·.name = q.name) i b → BrAt s.bs (·.name = q.other) j o → lastZ o.log ∉ ancs s.lnk (lastZ b.log) → mergeX s (lastZ b.log) (lastZ o.log) = 0 → commL s.lnk (lastZ b.log) (lastZ o.log) = [c] →
      HdR s q 5 0 (s.addC i b [lastZ o.log] (deltaOf (s.doc (lastZ b.log)) (merged (s.doc c) (s.doc (lastZ b.log)) (s.doc (lastZ o.log)) (lastZ b.log) (lastZ o.log))) (deltaOf (s.doc (lastZ o.log)) (merged (s.doc c) (s.doc (lastZ b.log)) (s.doc (lastZ o.log)) (lastZ b.log) (lastZ o.log))) 0 0) ⟨0, s.nc, [], [], []⟩
  | renameE : renameE s q ≠ 0 → HdR s q 6 (renameE s q) .zero .zero
  | rename (i : Nat) (b : Br) : renameE s q = 0 → BrAt s.bs (·.name = q.name) i b → HdR s q 6 0 ⟨s.nc, s.nb, s.cs, s.bs.set i { b with name := q.other }, s.ks⟩ ⟨0, b.id, [], [], []⟩
  | remove (i : Nat) (b : Br) : BrAt s.bs (·.name = q.name) i b → HdR s q 7 0 ⟨s.nc, s.nb, s.cs, s.bs.filter fun x => decide (x.id ≠ b.id), s.ks⟩ ⟨0, b.id, [], [], []⟩
  | read (i : Nat) (b : Br) : BrAt s.bs (·.name = q.name) i b → HdR s q 8 0 s ⟨0, lastZ b.log, text (s.doc (lastZ b.log)), [], []⟩
  | blame (i : Nat) (b : Br) : BrAt s.bs (·.name = q.name) i b → HdR s q 9 0 s ⟨0, lastZ b.log, [], s.doc (lastZ b.log), []⟩
  | log (i : Nat) (b : Br) : BrAt s.bs (·.name = q.name) i b → HdR s q 10 0 s ⟨0, lastZ b.log, [], [], ancs s.lnk (lastZ b.log)⟩
  | tip (i : Nat) (b : Br) : BrAt s.bs (·.name = q.name) i b → HdR s q 11 0 s ⟨0, lastZ b.log, [], [], []⟩
end
/-- a request done -/
inductive DoR (s : St) (q : Rq) : Int → St → Rp → Prop
  | arg : ¬ (1 ≤ q.kind ∧ q.kind ≤ 11) → DoR s q 1 .zero .zero
  | name : 1 ≤ q.kind ∧ q.kind ≤ 11 → isName q.name = false → DoR s q 190 .zero .zero
  | none : 1 ≤ q.kind ∧ q.kind ≤ 11 → isName q.name = true → q.kind ≠ 1 → q.kind ≠ 4 → ¬ named s q.name → DoR s q 192 .zero .zero
  | bad {e : Int} {s' : St} {r : Rp} : isName q.name = true → (q.kind = 1 ∨ q.kind = 4 ∨ named s q.name) → HdR s q q.kind e s' r → e ≠ 0 → DoR s q e .zero .zero
  | done {s' : St} {r : Rp} : isName q.name = true → (q.kind = 1 ∨ q.kind = 4 ∨ named s q.name) → HdR s q q.kind 0 s' r → DoR s q 0 s' { r with kind := q.kind }
/-- the client's last edit -/
def lastE (ks : List Cl) (c br : Int) : Cl := (ks.find? fun k => decide (k.c = c)).getD ⟨0, br, 0⟩
/-- may a client's edit come now -/
def takenE (k : Cl) (b : Br) (x : Ms) : Int :=
  if k.b ≠ x.branch then 195 else if x.seq ≤ k.s then 196 else if k.s + 1 < x.seq then 197 else if x.rev < 0 ∨ (b.log.length : Int) ≤ x.rev then 194 else 0
/-- a client's last edit kept -/
def note (ks : List Cl) (x : Ms) : List Cl := ks.takeWhile (fun k => decide (k.c < x.client)) ++ ⟨x.client, x.branch, x.seq⟩ :: ks.dropWhile (fun k => decide (k.c ≤ x.client))
/-- an edit moved behind commits -/
inductive MovR (s : St) : List Op → List Int → Int → List Op → Prop
  | nil (d : List Op) : MovR s d [] 0 d
  | bad {d : List Op} {n : Int} {r : List Int} {c : Cm} : c ∈ s.cs → c.num = n → transE d c.d false ≠ 0 → MovR s d (n :: r) 198 []
  | more {d d' : List Op} {n e : Int} {r : List Int} {c : Cm} : c ∈ s.cs → c.num = n → transE d c.d false = 0 → MovR s (transD d c.d false) r e d' → MovR s d (n :: r) e d'
/-- a client's edit taken -/
inductive EdR (s : St) (x : Ms) : Int → St → Prop
  | arg : ¬ (x.kind = 1 ∧ 1 ≤ x.client ∧ x.client ≤ 8) → EdR s x 1 .zero
  | none : x.kind = 1 ∧ 1 ≤ x.client ∧ x.client ≤ 8 → (∀ b ∈ s.bs, b.id ≠ x.branch) → EdR s x 192 .zero
  | not (i : Nat) (b : Br) : x.kind = 1 ∧ 1 ≤ x.client ∧ x.client ≤ 8 → BrAt s.bs (·.id = x.branch) i b → takenE (lastE s.ks x.client x.branch) b x ≠ 0 → EdR s x (takenE (lastE s.ks x.client x.branch) b x) .zero
  | form (i : Nat) (b : Br) : x.kind = 1 ∧ 1 ≤ x.client ∧ x.client ≤ 8 → BrAt s.bs (·.id = x.branch) i b → takenE (lastE s.ks x.client x.branch) b x = 0 → (lens x.d).2.2 ≠ 0 → EdR s x ((lens x.d).2.2 : Int) .zero
  | length (i : Nat) (b : Br) (n : Int) : x.kind = 1 ∧ 1 ≤ x.client ∧ x.client ≤ 8 → BrAt s.bs (·.id = x.branch) i b → takenE (lastE s.ks x.client x.branch) b x = 0 → (lens x.d).2.2 = 0 → b.log[x.rev.toNat]? = some n → ((lens x.d).1 : Int) ≠ tlen (text (s.doc n)) → EdR s x 91 .zero
  | long (i : Nat) (b : Br) (n : Int) (ds : List DOp) (d : List Op) : x.kind = 1 ∧ 1 ≤ x.client ∧ x.client ≤ 8 → BrAt s.bs (·.id = x.branch) i b → takenE (lastE s.ks x.client x.branch) b x = 0 → (lens x.d).2.2 = 0 → b.log[x.rev.toNat]? = some n → ((lens x.d).1 : Int) = tlen (text (s.doc n)) →
      parseAll x.d = some ds → MovR s (norm ds) (b.log.drop (x.rev.toNat + 1)) 198 d → EdR s x 198 .zero
  | full (i : Nat) (b : Br) (n : Int) (ds : List DOp) (d : List Op) : x.kind = 1 ∧ 1 ≤ x.client ∧ x.client ≤ 8 → BrAt s.bs (·.id = x.branch) i b → takenE (lastE s.ks x.client x.branch) b x = 0 → (lens x.d).2.2 = 0 → b.log[x.rev.toNat]? = some n → ((lens x.d).1 : Int) = tlen (text (s.doc n)) →
      parseAll x.d = some ds → MovR s (norm ds) (b.log.drop (x.rev.toNat + 1)) 0 d → 300 < s.nc → EdR s x 193 .zero
  | done (i : Nat) (b : Br) (n : Int) (ds : List DOp) (d : List Op) : x.kind = 1 ∧ 1 ≤ x.client ∧ x.client ≤ 8 → BrAt s.bs (·.id = x.branch) i b → takenE (lastE s.ks x.client x.branch) b x = 0 → (lens x.d).2.2 = 0 → b.log[x.rev.toNat]? = some n → ((lens x.d).1 : Int) = tlen (text (s.doc n)) →
      parseAll x.d = some ds → MovR s (norm ds) (b.log.drop (x.rev.toNat + 1)) 0 d → ¬ 300 < s.nc → EdR s x 0 { s.addC i b [] d [] x.client x.seq with ks := note s.ks x }
end Ox
end Go.Proofs.YthjgbmbaabpgmaaGreat
/-
  The machine: a new branch.
-/
namespace Go.Proofs.YthjgbmbaabpgmaaGreat
open Go.Sy
set_option maxRecDepth 4000
set_option maxHeartbeats 4000000
attribute [local irreducible] At Ops Val Eff Does Res Dr

theorem found_does (m dm : Nat) (nc nb : Int) (csv bsv ksv : Value) (M : List (Int × Value)) (zs : List CmV) (ys : List BrV) (ks : List Ox.Cl) (Ωl : List Itm) (name : List UInt8) (first : Int)
    (hnb : 0 ≤ nb ∧ nb ≤ 1000000000) (hyl : ys.length ≤ 1000000) (h : HV) :
    Does Tryz.prog 129 #[.pointer (some ⟨m, 0, none⟩), str name, .int .i64 first] (MX m dm nc nb csv bsv ksv M zs ys ks Ωl) h
      (fun r Ω' h' => HV.le h h' ∧ r = .int .i64 nb ∧ ∃ bsv' lv, ZsH h' lv [first] ∧ Ω' = MX m dm nc (nb + 1) csv bsv' ksv M zs (ys ++ [⟨⟨nb, name, [first]⟩, lv⟩]) ks Ωl) := by
  unfold MX RX mcc
  refine Does.of Tryz.func129 rfl Tryz.ntmps129 rfl fun c hc0 => ?_
  refine goK _ ?_
  first | refine At.drawn mo (fun _ _ m => m.drew _) ?_ | refine At.seq (At.drawn mo (fun _ _ m => m.drew _) ?_)
  refine Dr.val 0 rfl rfl rfl rfl (by kernel_rfl) rfl (Val.move rfl) ?_
  refine Dr.val 1 rfl rfl rfl rfl (by kernel_rfl) rfl (Val.move rfl) ?_
  refine Dr.val 2 rfl rfl rfl rfl (by kernel_rfl) rfl (Val.nilCheck rfl) ?_
  refine Dr.val 3 rfl rfl rfl rfl (by kernel_rfl) rfl (V.fieldAddr rfl rfl) ?_
  refine Dr.val 4 rfl rfl rfl rfl (by kernel_rfl) rfl (V.fieldAddr rfl rfl) ?_
  refine Dr.valS 5 _ rfl rfl rfl rfl (by kernel_rfl) rfl (V.load rfl rfl (fun _ hh => hh)) (fun w hw => hw.cell (n := 0) rfl rfl) ?_
  refine Dr.val 6 rfl rfl rfl rfl (by kernel_rfl) rfl (Val.move rfl) ?_
  refine Dr.val 7 rfl rfl rfl rfl (by kernel_rfl) rfl (Val.nilCheck rfl) ?_
  refine Dr.val 8 rfl rfl rfl rfl (by kernel_rfl) rfl (V.fieldAddr rfl rfl) ?_
  refine Dr.val 9 rfl rfl rfl rfl (by kernel_rfl) rfl (V.fieldAddr rfl rfl) ?_
  refine Dr.valS 10 _ rfl rfl rfl rfl (by kernel_rfl) rfl (V.load rfl rfl (fun _ hh => hh)) (fun w hw => hw.cell (n := 0) rfl rfl) ?_
  refine Dr.val 11 rfl rfl rfl rfl (by kernel_rfl) rfl (Val.move rfl) ?_
  refine Dr.val 12 rfl rfl rfl rfl (by kernel_rfl) rfl (Val.move rfl) ?_
  refine Dr.next (e := 13) rfl rfl (by kernel_rfl) rfl (by kernel_rfl) (by kernel_rfl) rfl rfl (E.buildSlice1R rfl rfl rfl rfl) aokK fun _ => ?_
  refine Dr.ex fun bw => Dr.pure ?_
  rintro rfl
  refine Dr.val 14 rfl rfl rfl rfl (by kernel_rfl) rfl (V.build rfl rfl rfl) ?_
  refine Dr.next (e := 15) rfl rfl (by kernel_rfl) rfl (by kernel_rfl) (by kernel_rfl) rfl rfl (E.buildSlice1 rfl rfl rfl rfl) aokK fun _ => Dr.ex fun _ => Dr.pure ?_
  rintro rfl
  refine Dr.next (e := 16) rfl rfl (by kernel_rfl) rfl (by kernel_rfl) (by kernel_rfl) rfl rfl (E.append1s 4 rfl rfl rfl rfl rfl rfl (by omega) (by omega)) aokK fun _ => ?_
  refine Dr.ex fun g1 => Dr.ex fun cp1 => Dr.pure ?_
  rintro rfl
  refine Dr.val 17 rfl rfl rfl rfl (by kernel_rfl) rfl (Val.nilCheck rfl) ?_
  refine Dr.val 18 rfl rfl rfl rfl (by kernel_rfl) rfl (V.fieldAddr rfl rfl) ?_
  refine Dr.val 19 rfl rfl rfl rfl (by kernel_rfl) rfl (V.fieldAddr rfl rfl) ?_
  refine Dr.next0 (e := 20) rfl rfl (by kernel_rfl) rfl (by kernel_rfl) (by kernel_rfl) rfl (E.store 1 rfl rfl rfl rfl rfl rfl rfl) aokK fun _ => ?_
  refine Dr.done (by kernel_rfl) (by kernel_rfl) ?_
  refine At.publish_row 0 rfl fun h2 hle2 hsl => ?_
  refine goK _ ?_
  refine Ops.eff0 rfl rfl (E.store 0 rfl rfl rfl rfl rfl rfl rfl) fun _ => ?_
  refine goK _ ?_
  refine At.respell (t := 6) (v' := .int .i64 nb) rfl (congrArg (Value.int .i64) (by omega)) ?_
  refine At.ret1 Tryz.results129 (Res.tmp rfl) (Ω' := MX m dm nc (nb + 1) csv (.slice (some ⟨g1, 0, none⟩) (ys.length + 1) cp1) ksv M zs (ys ++ [⟨⟨nb, name, [first]⟩, .slice (some ⟨bw, 0, none⟩) 1 1⟩]) ks Ωl) ?_ ⟨hc0.symm ▸ hle2, rfl, _, _, hsl, rfl⟩
  unfold MX RX mcc
  rw [List.length_append, List.flatMap_append]
  exact List.Sublist.refl _
end Go.Proofs.YthjgbmbaabpgmaaGreat
