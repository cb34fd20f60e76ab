/-
  The layouts of the types that the program's operations name. Printed by tab.py off the translation.
-/
import Derived.Test.YthjgbmbaabpgmaaGreatRows
import Derived.Test.YthjgbmbaabpgmaaGreatSrd08
set_option linter.unusedVariables false
set_option linter.unusedSimpArgs false
set_option linter.unusedSectionVars false
namespace Go.Proofs.YthjgbmbaabpgmaaGreat
open Go.Sy
def lyL : List (Nat × (Bool × Nat)) := [(3, false, 1), (4, false, 1), (5, false, 1), (9, false, 1), (22, false, 1), (23, false, 1), (24, false, 1), (25, false, 1), (27, true, 5), (31, false, 1), (32, false, 1), (34, true, 5), (38, false, 1), (40, true, 6), (47, true, 6), (53, true, 7), (55, true, 13), (62, false, 1), (66, true, 2), (68, true, 4), (71, true, 3), (72, false, 1), (76, true, 4), (91, false, 1), (94, false, 1), (96, false, 1), (99, false, 1), (101, true, 6), (106, true, 4), (112, true, 3), (115, false, 1), (127, true, 3), (130, false, 1), (134, false, 1), (135, true, 0), (140, false, 1), (146, false, 1), (154, false, 1), (159, false, 1), (160, false, 1), (171, false, 1), (172, false, 1), (174, true, 4), (180, false, 1), (181, false, 1), (183, true, 3), (189, false, 1), (192, false, 1), (194, false, 1), (195, false, 1), (196, false, 1), (200, false, 1), (201, false, 1), (202, false, 1), (203, false, 1), (205, true, 3), (210, true, 3), (219, false, 1), (222, true, 2), (225, false, 1), (239, true, 4), (240, false, 1), (248, false, 1), (251, false, 1), (252, false, 1), (258, false, 1), (260, false, 1), (263, true, 3), (265, true, 4), (266, false, 1), (269, false, 1), (271, false, 1), (280, false, 1), (282, false, 1), (284, true, 1), (295, false, 1), (297, false, 1), (301, true, 1001), (303, false, 1), (306, true, 3), (312, false, 1), (316, false, 1)]
def foL : List (Nat × Nat × Nat) := [(27, 0, 0), (27, 1, 1), (27, 2, 2), (27, 3, 3), (27, 4, 4), (34, 0, 0), (34, 1, 1), (34, 2, 2), (34, 3, 3), (34, 4, 4), (40, 0, 0), (40, 1, 1), (40, 2, 2), (40, 3, 3), (40, 4, 4), (40, 5, 5), (47, 0, 0), (47, 1, 1), (47, 2, 2), (47, 3, 3), (47, 4, 4), (47, 5, 5), (53, 0, 0), (53, 1, 1), (53, 2, 2), (53, 3, 3), (53, 4, 4), (53, 5, 5), (53, 6, 6), (55, 0, 0), (55, 1, 6), (66, 0, 0), (66, 1, 1), (68, 0, 0), (68, 1, 2), (68, 2, 3), (71, 0, 0), (71, 1, 1), (71, 2, 2), (76, 0, 0), (76, 1, 1), (76, 2, 2), (76, 3, 3), (101, 0, 0), (101, 1, 5), (106, 0, 0), (106, 1, 2), (106, 2, 3), (112, 0, 0), (112, 1, 1), (112, 2, 2), (127, 0, 0), (127, 1, 1), (127, 2, 2), (174, 0, 0), (174, 1, 1), (174, 2, 2), (174, 3, 3), (183, 0, 0), (183, 1, 1), (183, 2, 2), (205, 0, 0), (205, 1, 1), (205, 2, 2), (210, 0, 0), (210, 1, 2), (222, 0, 0), (222, 1, 1), (239, 0, 0), (239, 1, 3), (263, 0, 0), (263, 1, 2), (265, 0, 0), (265, 1, 3), (284, 0, 0), (306, 0, 0), (306, 1, 2)]
def slL : List (Nat × Nat) := [(22, 55), (23, 47), (24, 71), (25, 127), (31, 106), (32, 3), (38, 112), (62, 68), (72, 76), (115, 5), (146, 31), (160, 222), (194, 196), (195, 4), (196, 239), (203, 210), (248, 252), (252, 251), (258, 265), (271, 258)]
def mpL : List (Nat × Nat × Nat) := [(99, 3, 31), (130, 3, 32), (134, 3, 135), (154, 3, 91), (180, 3, 9), (181, 3, 4), (201, 210, 203), (202, 210, 3), (225, 3, 3), (260, 263, 3), (303, 306, 3)]
def stL : List Nat := [9]
def fnL : List Nat := [3, 4, 5, 6, 7, 8, 9, 10, 11, 12, 13, 14, 15, 16, 17, 18, 19, 20, 21, 22, 23, 24, 25, 26, 27, 28, 29, 30, 31, 32, 33, 34, 35, 36, 37, 38, 39, 40, 41, 42, 43, 44, 45, 46, 47, 48, 49, 50, 51, 52, 53, 54, 55, 56, 57, 58, 59, 60, 61, 62, 63, 64, 65, 66, 67, 68, 69, 70, 71, 72, 73, 74, 75, 76, 77, 78, 79, 80, 81, 82, 83, 84, 85, 86, 87, 88, 89, 90, 91, 92, 93, 94, 95, 96, 97, 98, 99, 100, 101, 102, 103, 104, 105, 106, 107, 108, 109, 110, 111, 112, 113, 114, 115, 116, 117, 118, 119, 120, 121, 122, 123, 124, 125, 126, 127, 128, 129, 130, 131, 132, 133, 134, 135, 136, 137, 138, 139, 140, 141, 142, 143, 144, 145, 146, 148, 149, 150, 151, 152, 153, 154, 155, 156, 157, 158, 159, 160, 161, 162, 163, 164, 165, 166, 167, 168, 169, 170, 171, 172, 173, 174, 175, 176, 177, 178, 179, 180, 181, 182, 183, 184, 185, 186, 187, 188, 189, 190, 191, 192, 193, 194, 195, 196, 197, 198, 199, 200, 201, 202, 203, 204, 205, 206, 207, 208, 209, 210, 211, 212, 213, 214, 215, 216, 217, 218]
def apL : List (Nat × (Nat × Nat × Nat)) := [(22, (55, 13, 160)), (23, (47, 6, 96)), (24, (71, 3, 48)), (25, (127, 3, 24)), (31, (106, 4, 40)), (32, (3, 1, 8)), (38, (112, 3, 32)), (62, (68, 4, 32)), (72, (76, 4, 48)), (115, (5, 1, 1)), (146, (31, 1, 24)), (160, (222, 2, 32)), (194, (196, 1, 24)), (195, (4, 1, 1)), (196, (239, 4, 32)), (203, (210, 3, 24)), (248, (252, 1, 24)), (252, (251, 1, 2)), (258, (265, 4, 40)), (271, (258, 1, 24))]
def ikL : List (Nat × IntKind) := [(3, .i64), (5, .u8), (192, .u64), (251, .i16), (295, .u32), (297, .u64), (312, .u64)]
def zvL : List (Nat × List Value) := [(3, [.int .i64 0]), (4, [.bool false]), (5, [.int .u8 0]), (9, [.string ⟨#[]⟩]), (22, [.slice none 0 0]), (23, [.slice none 0 0]), (24, [.slice none 0 0]), (25, [.slice none 0 0]), (27, [.int .i64 0, .int .i64 0, .slice none 0 0, .slice none 0 0, .slice none 0 0]), (31, [.slice none 0 0]), (32, [.slice none 0 0]), (34, [.int .i64 0, .int .i64 0, .string ⟨#[]⟩, .slice none 0 0, .slice none 0 0]), (38, [.slice none 0 0]), (40, [.int .i64 0, .string ⟨#[]⟩, .string ⟨#[]⟩, .int .i64 0, .string ⟨#[]⟩, .slice none 0 0]), (47, [.int .i64 0, .slice none 0 0, .slice none 0 0, .slice none 0 0, .int .i64 0, .int .i64 0]), (53, [.int .i64 0, .int .i64 0, .int .i64 0, .int .i64 0, .int .i64 0, .int .i64 0, .slice none 0 0]), (55, [.int .i64 0, .string ⟨#[]⟩, .string ⟨#[]⟩, .int .i64 0, .string ⟨#[]⟩, .slice none 0 0, .int .i64 0, .int .i64 0, .int .i64 0, .int .i64 0, .int .i64 0, .int .i64 0, .slice none 0 0]), (62, [.slice none 0 0]), (66, [.int .i64 0, .int .i64 0]), (68, [.int .i64 0, .int .i64 0, .int .i64 0, .int .i64 0]), (71, [.int .i64 0, .string ⟨#[]⟩, .slice none 0 0]), (72, [.slice none 0 0]), (76, [.int .i64 0, .slice none 0 0, .int .i64 0, .int .i64 0]), (91, [.nilFunc]), (94, [.pointer none]), (96, [.pointer none]), (99, [.map none]), (101, [.int .i64 0, .int .i64 0, .slice none 0 0, .slice none 0 0, .slice none 0 0, .map none]), (106, [.int .i64 0, .int .i64 0, .int .i64 0, .string ⟨#[]⟩]), (112, [.int .i64 0, .int .i64 0, .string ⟨#[]⟩]), (115, [.slice none 0 0]), (127, [.int .i64 0, .int .i64 0, .int .i64 0]), (130, [.map none]), (134, [.map none]), (135, []), (140, [.nilFunc]), (146, [.slice none 0 0]), (154, [.map none]), (159, [.nilFunc]), (160, [.slice none 0 0]), (171, [.nilFunc]), (172, [.pointer none]), (174, [.slice none 0 0, .string ⟨#[]⟩, .int .i64 0, .int .i64 0]), (180, [.map none]), (181, [.map none]), (183, [.map none, .map none, .int .i64 0]), (189, [.nilFunc]), (192, [.int .u64 0]), (194, [.slice none 0 0]), (195, [.slice none 0 0]), (196, [.slice none 0 0]), (200, [.pointer none]), (201, [.map none]), (202, [.map none]), (203, [.slice none 0 0]), (205, [.map none, .map none, .slice none 0 0]), (210, [.int .i64 0, .int .i64 0, .int .i64 0]), (219, [.nilFunc]), (222, [.int .i64 0, .slice none 0 0]), (225, [.map none]), (230, [.int .i64 0]), (231, [.int .i64 0]), (232, [.string ⟨#[]⟩]), (239, [.int .i64 0, .int .i64 0, .int .i64 0, .int .i64 0]), (240, [.nilFunc]), (248, [.slice none 0 0]), (251, [.int .i16 0]), (252, [.slice none 0 0]), (258, [.slice none 0 0]), (260, [.map none]), (263, [.int .i64 0, .int .i64 0, .int .i64 0]), (265, [.int .i64 0, .int .i64 0, .int .i64 0, .string ⟨#[]⟩]), (266, [.nilFunc]), (269, [.nilFunc]), (271, [.slice none 0 0]), (280, [.nilFunc]), (282, [.pointer none]), (284, [.slice none 0 0]), (295, [.int .u32 0]), (297, [.int .u64 0]), (303, [.map none]), (306, [.int .i64 0, .int .i64 0, .int .i64 0]), (312, [.int .u64 0]), (316, [.pointer none])]
def zsL : List (Nat × Value) := [(3, .int .i64 0), (4, .bool false), (5, .int .u8 0), (9, .string ⟨#[]⟩), (22, .slice none 0 0), (23, .slice none 0 0), (24, .slice none 0 0), (25, .slice none 0 0), (31, .slice none 0 0), (32, .slice none 0 0), (38, .slice none 0 0), (62, .slice none 0 0), (72, .slice none 0 0), (91, .nilFunc), (94, .pointer none), (96, .pointer none), (99, .map none), (115, .slice none 0 0), (130, .map none), (134, .map none), (140, .nilFunc), (146, .slice none 0 0), (154, .map none), (159, .nilFunc), (160, .slice none 0 0), (171, .nilFunc), (172, .pointer none), (180, .map none), (181, .map none), (189, .nilFunc), (192, .int .u64 0), (194, .slice none 0 0), (195, .slice none 0 0), (196, .slice none 0 0), (200, .pointer none), (201, .map none), (202, .map none), (203, .slice none 0 0), (219, .nilFunc), (225, .map none), (230, .int .i64 0), (231, .int .i64 0), (232, .string ⟨#[]⟩), (240, .nilFunc), (248, .slice none 0 0), (251, .int .i16 0), (252, .slice none 0 0), (258, .slice none 0 0), (260, .map none), (266, .nilFunc), (269, .nilFunc), (271, .slice none 0 0), (280, .nilFunc), (282, .pointer none), (295, .int .u32 0), (297, .int .u64 0), (303, .map none), (312, .int .u64 0), (316, .pointer none)]
def cnL : List Nat := [3, 4, 5, 9, 22, 23, 24, 25, 27, 31, 32, 34, 38, 40, 47, 53, 55, 62, 66, 68, 71, 72, 76, 91, 94, 96, 99, 101, 106, 112, 115, 127, 130, 134, 135, 140, 146, 154, 159, 160, 171, 172, 174, 180, 181, 183, 189, 192, 194, 195, 196, 200, 201, 202, 203, 205, 210, 219, 222, 225, 230, 231, 232, 239, 240, 248, 251, 252, 258, 260, 263, 265, 266, 269, 271, 280, 282, 284, 295, 297, 301, 303, 306, 312, 316]
def bdL : List (Nat × (List (Nat × Nat) × List Value)) := [(27, ([(0, 1), (1, 1), (2, 1), (3, 1), (4, 1)], [.int .i64 0, .int .i64 0, .slice none 0 0, .slice none 0 0, .slice none 0 0])), (34, ([(0, 1), (1, 1), (2, 1), (3, 1), (4, 1)], [.int .i64 0, .int .i64 0, .string ⟨#[]⟩, .slice none 0 0, .slice none 0 0])), (40, ([(0, 1), (1, 1), (2, 1), (3, 1), (4, 1), (5, 1)], [.int .i64 0, .string ⟨#[]⟩, .string ⟨#[]⟩, .int .i64 0, .string ⟨#[]⟩, .slice none 0 0])), (47, ([(0, 1), (1, 1), (2, 1), (3, 1), (4, 1), (5, 1)], [.int .i64 0, .slice none 0 0, .slice none 0 0, .slice none 0 0, .int .i64 0, .int .i64 0])), (53, ([(0, 1), (1, 1), (2, 1), (3, 1), (4, 1), (5, 1), (6, 1)], [.int .i64 0, .int .i64 0, .int .i64 0, .int .i64 0, .int .i64 0, .int .i64 0, .slice none 0 0])), (55, ([(0, 6), (6, 7)], [.int .i64 0, .string ⟨#[]⟩, .string ⟨#[]⟩, .int .i64 0, .string ⟨#[]⟩, .slice none 0 0, .int .i64 0, .int .i64 0, .int .i64 0, .int .i64 0, .int .i64 0, .int .i64 0, .slice none 0 0])), (66, ([(0, 1), (1, 1)], [.int .i64 0, .int .i64 0])), (68, ([(0, 2), (2, 1), (3, 1)], [.int .i64 0, .int .i64 0, .int .i64 0, .int .i64 0])), (71, ([(0, 1), (1, 1), (2, 1)], [.int .i64 0, .string ⟨#[]⟩, .slice none 0 0])), (76, ([(0, 1), (1, 1), (2, 1), (3, 1)], [.int .i64 0, .slice none 0 0, .int .i64 0, .int .i64 0])), (101, ([(0, 5), (5, 1)], [.int .i64 0, .int .i64 0, .slice none 0 0, .slice none 0 0, .slice none 0 0, .map none])), (106, ([(0, 2), (2, 1), (3, 1)], [.int .i64 0, .int .i64 0, .int .i64 0, .string ⟨#[]⟩])), (112, ([(0, 1), (1, 1), (2, 1)], [.int .i64 0, .int .i64 0, .string ⟨#[]⟩])), (127, ([(0, 1), (1, 1), (2, 1)], [.int .i64 0, .int .i64 0, .int .i64 0])), (174, ([(0, 1), (1, 1), (2, 1), (3, 1)], [.slice none 0 0, .string ⟨#[]⟩, .int .i64 0, .int .i64 0])), (183, ([(0, 1), (1, 1), (2, 1)], [.map none, .map none, .int .i64 0])), (205, ([(0, 1), (1, 1), (2, 1)], [.map none, .map none, .slice none 0 0])), (210, ([(0, 2), (2, 1)], [.int .i64 0, .int .i64 0, .int .i64 0])), (222, ([(0, 1), (1, 1)], [.int .i64 0, .slice none 0 0])), (239, ([(0, 3), (3, 1)], [.int .i64 0, .int .i64 0, .int .i64 0, .int .i64 0])), (263, ([(0, 2), (2, 1)], [.int .i64 0, .int .i64 0, .int .i64 0])), (265, ([(0, 3), (3, 1)], [.int .i64 0, .int .i64 0, .int .i64 0, .string ⟨#[]⟩])), (284, ([(0, 1)], [.slice none 0 0])), (306, ([(0, 2), (2, 1)], [.int .i64 0, .int .i64 0, .int .i64 0]))]
def look {α : Type} (l : List (Nat × α)) (t : Nat) : Option α := match l with
  | [] => none
  | (k, v) :: r => bif Nat.beq k t then some v else look r t
def look2 (l : List (Nat × Nat × Nat)) (t i : Nat) : Option Nat := match l with
  | [] => none
  | (k, j, v) :: r => bif Nat.beq k t && Nat.beq j i then some v else look2 r t i
def has (l : List Nat) (t : Nat) : Bool := match l with
  | [] => false
  | k :: r => Nat.beq k t || has r t
theorem look_all {α : Type} {l : List (Nat × α)} {p : Nat → α → Bool} (h : (l.all fun q => p q.1 q.2) = true) {t : Nat} {v : α} (hv : look l t = some v) : p t v = true := by
  induction l with
  | nil => simp [look] at hv
  | cons q r ih =>
    obtain ⟨k, u⟩ := q
    simp only [List.all_cons, Bool.and_eq_true] at h
    simp only [look] at hv
    cases hb : Nat.beq k t with
    | true => rw [hb] at hv; cases hv; rw [← Nat.eq_of_beq_eq_true hb]; exact h.1
    | false => rw [hb] at hv; exact ih h.2 hv
theorem look2_all {l : List (Nat × Nat × Nat)} {p : Nat → Nat → Nat → Bool} (h : (l.all fun q => p q.1 q.2.1 q.2.2) = true) {t i v : Nat} (hv : look2 l t i = some v) : p t i v = true := by
  induction l with
  | nil => simp [look2] at hv
  | cons q r ih =>
    obtain ⟨k, j, u⟩ := q
    simp only [List.all_cons, Bool.and_eq_true] at h
    simp only [look2] at hv
    cases hb : Nat.beq k t && Nat.beq j i with
    | true =>
      rw [hb] at hv; cases hv
      simp only [Bool.and_eq_true] at hb
      rw [← Nat.eq_of_beq_eq_true hb.1, ← Nat.eq_of_beq_eq_true hb.2]; exact h.1
    | false => rw [hb] at hv; exact ih h.2 hv
theorem has_all {l : List Nat} {p : Nat → Bool} (h : (l.all p) = true) {t : Nat} (hv : has l t = true) : p t = true := by
  induction l with
  | nil => simp [has] at hv
  | cons k r ih =>
    simp only [List.all_cons, Bool.and_eq_true] at h
    simp only [has, Bool.or_eq_true] at hv
    rcases hv with hb | hb
    · rw [← Nat.eq_of_beq_eq_true hb]; exact h.1
    · exact ih h.2 hb
def ofSl (P : Program) (t e : Nat) : Bool := match P.underlying t with | some (.slice e') => Nat.beq e' e | _ => false
def ofMp (P : Program) (t : Nat) (k : Nat × Nat) : Bool := match P.underlying t with | some (.map a b) => Nat.beq a k.1 && Nat.beq b k.2 | _ => false
def ofSt (P : Program) (t : Nat) : Bool := match P.underlying t with | some .string => true | _ => false
def ofLy (P : Program) (t : Nat) (x : Bool × Nat) : Bool := match lay P t with | some y => (y.1 == x.1) && Nat.beq y.2 x.2 | none => false
def ofFo (P : Program) (t i o : Nat) : Bool := match fldOff P t i with | some y => Nat.beq y o | none => false
def ofAp (P : Program) (t : Nat) (x : Nat × Nat × Nat) : Bool := match elt P t with | some y => Nat.beq y.1 x.1 && (Nat.beq y.2.1 x.2.1 && Nat.beq y.2.2 x.2.2) | none => false
def ofIk (P : Program) (t : Nat) (k : IntKind) : Bool := match P.underlying t with | some (.int k') => decide (k' = k) | _ => false
theorem lyOk : (lyL.all fun q => ofLy Tryz.prog q.1 q.2) = true := by kernel_rfl
theorem foOk : (foL.all fun q => ofFo Tryz.prog q.1 q.2.1 q.2.2) = true := by kernel_rfl
theorem slOk : (slL.all fun q => ofSl Tryz.prog q.1 q.2) = true := by kernel_rfl
theorem mpOk : (mpL.all fun q => ofMp Tryz.prog q.1 q.2) = true := by kernel_rfl
theorem stOk : (stL.all fun q => ofSt Tryz.prog q) = true := by kernel_rfl
theorem apOk : (apL.all fun q => ofAp Tryz.prog q.1 q.2) = true := by kernel_rfl
theorem ikOk : (ikL.all fun q => ofIk Tryz.prog q.1 q.2) = true := by kernel_rfl
theorem zvOk : (zvL.map fun q => zero Tryz.prog q.1) = zvL.map fun q => some q.2.toArray := by kernel_rfl
theorem zsOk : (zsL.map fun q => zval Tryz.prog q.1) = zsL.map fun q => some q.2 := by kernel_rfl
theorem cnOk : (cnL.all fun q => concrete Tryz.prog q) = true := by kernel_rfl
theorem look_map {α β : Type} {l : List (Nat × α)} {f : Nat → β} {g : α → β} (h : (l.map fun q => f q.1) = l.map fun q => g q.2) {t : Nat} {v : α} (hv : look l t = some v) : f t = g v := by
  induction l with
  | nil => simp [look] at hv
  | cons q r ih =>
    obtain ⟨k, u⟩ := q
    simp only [List.map_cons, List.cons.injEq] at h
    simp only [look] at hv
    cases hb : Nat.beq k t with
    | true => rw [hb] at hv; cases hv; rw [← Nat.eq_of_beq_eq_true hb]; exact h.1
    | false => rw [hb] at hv; exact ih h.2 hv
theorem zv {t : Nat} {z : List Value} (h : look zvL t = some z) : zero Tryz.prog t = some z.toArray := look_map (f := zero Tryz.prog) (g := fun z => some z.toArray) zvOk h
theorem zs {t : Nat} {z : Value} (h : look zsL t = some z) : zval Tryz.prog t = some z := look_map (f := zval Tryz.prog) (g := some) zsOk h
theorem cn {t : Nat} (h : has cnL t = true) : concrete Tryz.prog t = true := has_all (p := concrete Tryz.prog) cnOk h
theorem bdOk : (bdL.map fun q => bld Tryz.prog q.1) = bdL.map fun q => some q.2 := by kernel_rfl
theorem bd {t : Nat} {z : List (Nat × Nat) × List Value} (h : look bdL t = some z) : bld Tryz.prog t = some z := look_map (f := bld Tryz.prog) (g := some) bdOk h
theorem mo : Tryz.prog.follows .mixedOrders = true := by kernel_rfl
theorem fnOk : (fnL.all fun q => isFn Tryz.prog q) = true := by kernel_rfl
theorem ly {t : Nat} {x : Bool × Nat} (h : look lyL t = some x) : lay Tryz.prog t = some x := by
  have := look_all (p := ofLy Tryz.prog) lyOk h
  unfold ofLy at this
  split at this
  · rename_i y hy
    simp only [Bool.and_eq_true, beq_iff_eq] at this
    rw [hy]; exact congrArg some (Prod.ext this.1 (Nat.eq_of_beq_eq_true this.2))
  · cases this
theorem fo {t i o : Nat} (h : look2 foL t i = some o) : fldOff Tryz.prog t i = some o := by
  have := look2_all (p := ofFo Tryz.prog) foOk h
  unfold ofFo at this
  split at this
  · rename_i y hy
    rw [hy, Nat.eq_of_beq_eq_true this]
  · cases this
theorem sl {t e : Nat} (h : look slL t = some e) : Tryz.prog.underlying t = some (.slice e) := by
  have := look_all (p := ofSl Tryz.prog) slOk h
  unfold ofSl at this
  split at this
  · rename_i y hy
    rw [hy, Nat.eq_of_beq_eq_true this]
  · cases this
theorem mp {t : Nat} {k : Nat × Nat} (h : look mpL t = some k) : Tryz.prog.underlying t = some (.map k.1 k.2) := by
  have := look_all (p := ofMp Tryz.prog) mpOk h
  unfold ofMp at this
  split at this
  · rename_i y hy
    simp only [Bool.and_eq_true] at this
    rw [hy, Nat.eq_of_beq_eq_true this.1, Nat.eq_of_beq_eq_true this.2]
  · cases this
theorem st {t : Nat} (h : has stL t = true) : Tryz.prog.underlying t = some .string := by
  have := has_all (p := ofSt Tryz.prog) stOk h
  unfold ofSt at this
  split at this
  · rename_i hy; exact hy
  · cases this
theorem ap {t : Nat} {x : Nat × Nat × Nat} (h : look apL t = some x) : elt Tryz.prog t = some x := by
  have := look_all (p := ofAp Tryz.prog) apOk h
  unfold ofAp at this
  split at this
  · rename_i y hy
    simp only [Bool.and_eq_true] at this
    rw [hy]; exact congrArg some (Prod.ext (Nat.eq_of_beq_eq_true this.1) (Prod.ext (Nat.eq_of_beq_eq_true this.2.1) (Nat.eq_of_beq_eq_true this.2.2)))
  · cases this
theorem ik {t : Nat} {k : IntKind} (h : look ikL t = some k) : Tryz.prog.underlying t = some (.int k) := by
  have := look_all (p := ofIk Tryz.prog) ikOk h
  unfold ofIk at this
  split at this
  · rename_i k' hy
    rw [hy, of_decide_eq_true this]
  · cases this
theorem fn {t : Nat} (h : has fnL t = true) : isFn Tryz.prog t = true := has_all fnOk h
/-! the operations, by the tables -/
section
open Go.RowKit
attribute [local irreducible] Val Eff
variable {σ : Slots} {S : World → Prop} {ty : TypeId} {ps : String} {af : Array Edge} {g : Option (Nat × Bool)} {d : Option Nat} {c : Ctx} {Ω : List Itm} {h : HV}
theorem V.fieldAddr {T i k b o : Nat} {x : Operand} (hf : look2 foL T i = some k) (hx : ev σ x = some (.pointer (some ⟨b, o, none⟩))) : Val Tryz.prog σ S ⟨d, .fieldAddr T x i, ty, ps, af, g⟩ (.pointer (some ⟨b, o + k, none⟩)) := Val.fieldAddr (fo hf) hx
theorem V.lenslice {x : Operand} {T e : Nat} {a : Option Addr} {n cp : Nat} (hT : look slL T = some e) (hx : ev σ x = some (.slice a n cp)) : Val Tryz.prog σ S ⟨d, .call ⟨.builtin .len, #[x], #[T]⟩, ty, ps, af, g⟩ (.int .i64 (n : Int)) := Val.lenslice (sl hT) hx
theorem V.lenstr {x : Operand} {T : Nat} {a : List UInt8} (hT : has stL T = true) (hx : ev σ x = some (str a)) : Val Tryz.prog σ S ⟨d, .call ⟨.builtin .len, #[x], #[T]⟩, ty, ps, af, g⟩ (.int .i64 (a.length : Int)) := Val.lenstr (st hT) hx
theorem V.conv {T T' : Nat} {x : Operand} {k k' k0 : IntKind} {z : Int} (hs : look ikL T = some k0) (hT : look ikL T' = some k) (hx : ev σ x = some (.int k' z)) : Val Tryz.prog σ S ⟨d, .convert T T' x, ty, ps, af, g⟩ (.int k (k.wrap z)) := Val.conv (ik hs) (ik hT) hx
theorem V.indexAddr {T e m b o n cp : Nat} {x ix : Operand} {K : IntKind} {i : Nat} {ag : Bool} (hT : look slL T = some e) (hm : look lyL e = some (ag, m)) (hx : ev σ x = some (.slice (some ⟨b, o, none⟩) n cp)) (hi : ev σ ix = some (.int K (i : Int)))
    (hlt : i < n) : Val Tryz.prog σ S ⟨d, .indexAddr T x ix, ty, ps, af, g⟩ (.pointer (some ⟨b, o + i * m, none⟩)) := Val.indexAddr (sl hT) (ly hm) hx hi hlt
theorem V.indexstr {T : Nat} {x ix : Operand} {a : List UInt8} {k : IntKind} {i : Nat} {b : UInt8} (hT : has stL T = true) (hx : ev σ x = some (str a)) (hi : ev σ ix = some (.int k (i : Int)))
    (hb : a[i]? = some b) : Val Tryz.prog σ S ⟨d, .index T x ix, ty, ps, af, g⟩ (.int .u8 (b.toNat : Int)) := Val.indexstr (st hT) hx hi hb
theorem V.load {T b o m : Nat} {x : Operand} {v : Value} (hT : look lyL T = some (false, m)) (hx : ev σ x = some (.pointer (some ⟨b, o, none⟩)))
    (hc : ∀ w, S w → w.cell? ⟨b, o, none⟩ = some v) : Val Tryz.prog σ S ⟨d, .load T x, ty, ps, af, g⟩ v := Val.load (ly hT) hx hc
theorem V.loadN {T b o m : Nat} {x : Operand} {cs : List Value} (hT : look lyL T = some (true, m)) (hx : ev σ x = some (.pointer (some ⟨b, o, none⟩))) (hm : cs.length = m)
    (hc : ∀ w, S w → ∀ i u, cs[i]? = some u → w.cell? ⟨b, o + i, none⟩ = some u) : Val Tryz.prog σ S ⟨d, .load T x, ty, ps, af, g⟩ (.agg cs.toArray) := Val.loadN (ly hT) hx hm hc
theorem V.loadO {T b o m U : Nat} (n : Nat) {cs : List Value} {fr : Nat × Nat} {x : Operand} {v : Value} (hT : look lyL T = some (false, m)) (hx : ev σ x = some (.pointer (some ⟨b, o, none⟩)))
    (hn : Ω[n]? = some (blk b (.cells cs.toArray U fr))) (hv : cs[o]? = some v) : Val Tryz.prog σ (Mem c Ω h) ⟨d, .load T x, ty, ps, af, g⟩ v := Val.loadO (ly hT) hx hn hv
theorem V.loadOA {T b m U : Nat} (n : Nat) {cs : List Value} {fr : Nat × Nat} {x : Operand} (hT : look lyL T = some (true, m)) (hx : ev σ x = some (.pointer (some ⟨b, 0, none⟩)))
    (hn : Ω[n]? = some (blk b (.cells cs.toArray U fr))) (hm : cs.length = m) : Val Tryz.prog σ (Mem c Ω h) ⟨d, .load T x, ty, ps, af, g⟩ (.agg cs.toArray) := Val.loadOA (ly hT) hx hn hm
theorem V.loadH {T b o m : Nat} {x : Operand} {v : Value} (hT : look lyL T = some (false, m)) (hx : ev σ x = some (.pointer (some ⟨b, o, none⟩)))
    (hc : cellH h b o = some v) : Val Tryz.prog σ (Mem c Ω h) ⟨d, .load T x, ty, ps, af, g⟩ v := Val.loadH (ly hT) hx hc
theorem V.loadHA {T b o m : Nat} {x : Operand} {cs : List Value} (hT : look lyL T = some (true, m)) (hx : ev σ x = some (.pointer (some ⟨b, o, none⟩))) (hm : cs.length = m)
    (hc : ∀ i u, cs[i]? = some u → cellH h b (o + i) = some u) : Val Tryz.prog σ (Mem c Ω h) ⟨d, .load T x, ty, ps, af, g⟩ (.agg cs.toArray) := Val.loadHA (ly hT) hx hm hc
theorem V.slicestr {T : Nat} {x i j : Operand} {a : List UInt8} {ki kj : IntKind} {l r : Nat} (hT : has stL T = true) (hx : ev σ x = some (str a)) (hi : ev σ i = some (.int ki (l : Int))) (hj : ev σ j = some (.int kj (r : Int)))
    (hlr : l ≤ r) (hr : r ≤ a.length) : Val Tryz.prog σ S ⟨d, .slice T x (some i) (some j) none, ty, ps, af, g⟩ (str ((a.drop l).take (r - l))) := Val.slicestr (st hT) hx hi hj hlr hr
theorem V.slicestr_from {T : Nat} {x i : Operand} {a : List UInt8} {ki : IntKind} {l : Nat} (hT : has stL T = true) (hx : ev σ x = some (str a)) (hi : ev σ i = some (.int ki (l : Int)))
    (hl : l ≤ a.length) : Val Tryz.prog σ S ⟨d, .slice T x (some i) none none, ty, ps, af, g⟩ (str (a.drop l)) := Val.slicestr_from (st hT) hx hi hl
theorem V.slicestr_to {T : Nat} {x j : Operand} {a : List UInt8} {kj : IntKind} {r : Nat} (hT : has stL T = true) (hx : ev σ x = some (str a)) (hj : ev σ j = some (.int kj (r : Int)))
    (hr : r ≤ a.length) : Val Tryz.prog σ S ⟨d, .slice T x none (some j) none, ty, ps, af, g⟩ (str (a.take r)) := Val.slicestr_to (st hT) hx hj hr
theorem V.slice {T e m : Nat} {ag : Bool} {x i j : Operand} {a : Addr} {N cp : Nat} {ki kj : IntKind} {l r : Nat} (hT : look slL T = some e) (hm : look lyL e = some (ag, m)) (hx : ev σ x = some (.slice (some a) N cp))
    (hi : ev σ i = some (.int ki (l : Int))) (hj : ev σ j = some (.int kj (r : Int))) (hlr : l ≤ r) (hr : r ≤ cp) :
    Val Tryz.prog σ S ⟨d, .slice T x (some i) (some j) none, ty, ps, af, g⟩ (.slice (some (off cp l a m)) (r - l) (cp - l)) := Val.slice (sl hT) (ly hm) hx hi hj hlr hr
theorem V.slice_from {T e m : Nat} {ag : Bool} {x i : Operand} {a : Addr} {N cp : Nat} {ki : IntKind} {l : Nat} (hT : look slL T = some e) (hm : look lyL e = some (ag, m)) (hx : ev σ x = some (.slice (some a) N cp))
    (hi : ev σ i = some (.int ki (l : Int))) (hlr : l ≤ N) : Val Tryz.prog σ S ⟨d, .slice T x (some i) none none, ty, ps, af, g⟩ (.slice (some (off cp l a m)) (N - l) (cp - l)) := Val.slice_from (sl hT) (ly hm) hx hi hlr
theorem V.slice_to {T e m : Nat} {ag : Bool} {x j : Operand} {a : Option Addr} {N cp : Nat} {kj : IntKind} {r : Nat} (hT : look slL T = some e) (hm : look lyL e = some (ag, m)) (hx : ev σ x = some (.slice a N cp))
    (hj : ev σ j = some (.int kj (r : Int))) (hr : r ≤ cp) : Val Tryz.prog σ S ⟨d, .slice T x none (some j) none, ty, ps, af, g⟩ (.slice a r cp) := Val.slice_to (sl hT) (ly hm) hx hj hr
theorem V.slice0 {T e m : Nat} {ag : Bool} {x i j : Operand} {ki kj : IntKind} (hT : look slL T = some e) (hm : look lyL e = some (ag, m)) (hx : ev σ x = some (.slice none 0 0))
    (hi : ev σ i = some (.int ki ((0 : Nat) : Int))) (hj : ev σ j = some (.int kj ((0 : Nat) : Int))) : Val Tryz.prog σ S ⟨d, .slice T x (some i) (some j) none, ty, ps, af, g⟩ (.slice none 0 0) := Val.slice0 (sl hT) (ly hm) hx hi hj
theorem V.makeIface {T : Nat} {x : Operand} {v : Value} (hT : has cnL T = true) (hx : ev σ x = some v) : Val Tryz.prog σ S ⟨d, .makeInterface T x, ty, ps, af, g⟩ (.iface T v) := Val.makeIface (cn hT) hx
theorem V.assert_yes {T X : Nat} {x : Operand} {v : Value} (hT : has cnL T = true) (hx : ev σ x = some (.iface T v)) : Val Tryz.prog σ S ⟨d, .typeAssert x X T true, ty, ps, af, g⟩ (.tuple #[v, .bool true]) := Val.assert_yes (cn hT) hx
theorem V.assert_no {T U X : Nat} {x : Operand} {v z : Value} (hT : has cnL T = true) (hz : look zsL T = some z) (hx : ev σ x = some (.iface U v)) (hne : Nat.beq U T = false) : Val Tryz.prog σ S ⟨d, .typeAssert x X T true, ty, ps, af, g⟩ (.tuple #[z, .bool false]) := Val.assert_no (cn hT) (zs hz) hx hne
theorem V.assert_nil {T X : Nat} {x : Operand} {z : Value} (hT : has cnL T = true) (hz : look zsL T = some z) (hx : ev σ x = some .nilIface) : Val Tryz.prog σ S ⟨d, .typeAssert x X T true, ty, ps, af, g⟩ (.tuple #[z, .bool false]) := Val.assert_nil (cn hT) (zs hz) hx
theorem V.build {T : Nat} {pl : List (Nat × Nat)} {z : List Value} {parts : List (Nat × Operand)} {vs : List (Nat × Value)} {cs : List Value} (hb : look bdL T = some (pl, z)) (hp : evp σ parts = some vs) (hf : fillL pl z vs = some cs) :
    Val Tryz.prog σ S ⟨d, .build T parts.toArray, ty, ps, af, g⟩ (.agg cs.toArray) := Val.build (bd hb) hp hf
theorem E.alloc {T : Nat} {z : List Value} (hz : look zvL T = some z) :
    Eff Tryz.prog σ (Mem c Ω h) ⟨d, .alloc T, ty, ps, af, g⟩ fun u w => ∃ b, u = .pointer (some ⟨b, 0, none⟩) ∧ Mem c (cells b z T :: Ω) h w := Eff.alloc (zv hz)
theorem E.buildSlice1 {T e m by_ : Nat} {x : Operand} {v : Value} (hT : look apL T = some (e, m, by_)) (hx : ev σ x = some v) (hm : v.cells.size = m) (hsm : Nat.ble m 1000 = true) :
    Eff Tryz.prog σ (Mem c Ω h) ⟨d, .buildSlice T 1 #[(0, x)], ty, ps, af, g⟩ fun u w => ∃ b, u = .slice (some ⟨b, 0, none⟩) 1 1 ∧ Mem c (blk b (.cells v.cells e (0, 0)) :: Ω) h w := Eff.buildSlice1 (ap hT) hx hm hsm
theorem E.append {T e m by_ b o N M cp : Nat} (j : Nat) {x y : Operand} {v : Value} {xs news : List Value} (hT : look apL T = some (e, m, by_)) (hx : ev σ x = some v) (hy : ev σ y = some (.slice (some ⟨b, o, none⟩) M cp))
    (hj : Ω[j]? = some (row e m v N xs)) (hl : news.length = M * m) (h1 : news.all (·.oneCell') = true) (hN : (N + M) * by_ ≤ 140737488355328) (hN' : N + M ≤ 140737488355328)
    (hnews : ∀ w, Mem c Ω h w → ∀ i u, news[i]? = some u → w.cell? ⟨b, o + i, none⟩ = some u) :
    Eff Tryz.prog σ (Mem c Ω h) ⟨d, .call ⟨.builtin .append, #[x, y], #[T, T]⟩, ty, ps, af, g⟩ fun v' w => (v' = .slice none 0 0 ↔ v = .slice none 0 0 ∧ M = 0) ∧ Mem c (Ω.set j (row e m v' (N + M) (xs ++ news))) h w := Eff.append (ap hT) hx hy hj hl h1 hN hN' hnews
theorem E.append1 {T e m by_ b N cp : Nat} (j : Nat) {x y : Operand} {v : Value} {xs news : List Value} (hT : look apL T = some (e, m, by_)) (hx : ev σ x = some v) (hy : ev σ y = some (.slice (some ⟨b, 0, none⟩) 1 cp))
    (hj : Ω[j]? = some (row e m v N xs)) (hl : news.length = m) (h1 : news.all (·.oneCell') = true) (hN : (N + 1) * by_ ≤ 140737488355328) (hN' : N + 1 ≤ 140737488355328) :
    Eff Tryz.prog σ (Mem c (blk b (.cells news.toArray e (0, 0)) :: Ω) h) ⟨d, .call ⟨.builtin .append, #[x, y], #[T, T]⟩, ty, ps, af, g⟩ fun v' w => v' ≠ .slice none 0 0 ∧ Mem c (Ω.set j (row e m v' (N + 1) (xs ++ news))) h w := Eff.append1 (ap hT) hx hy hj hl h1 hN hN'
theorem E.append1s {T e m by_ b N cp : Nat} (j : Nat) {x y : Operand} {v : Value} {xs news : List Value} (hT : look apL T = some (e, m, by_)) (hx : ev σ x = some v) (hy : ev σ y = some (.slice (some ⟨b, 0, none⟩) 1 cp))
    (hj : Ω[j]? = some (row e m v N xs)) (hl : news.length = m) (h1 : news.all (·.oneCell') = true) (hN : (N + 1) * by_ ≤ 140737488355328) (hN' : N + 1 ≤ 140737488355328) :
    Eff Tryz.prog σ (Mem c (blk b (.cells news.toArray e (0, 0)) :: Ω) h) ⟨d, .call ⟨.builtin .append, #[x, y], #[T, T]⟩, ty, ps, af, g⟩ fun v' w => ∃ g' cp', v' = .slice (some ⟨g', 0, none⟩) (N + 1) cp' ∧ Mem c (Ω.set j (row e m v' (N + 1) (xs ++ news))) h w := Eff.append1s (ap hT) hx hy hj hl h1 hN hN'
theorem E.store {T b o m U : Nat} (n : Nat) {cs : List Value} {x y : Operand} {v : Value} {ag : Bool} (hT : look lyL T = some (ag, m)) (hx : ev σ x = some (.pointer (some ⟨b, o, none⟩))) (hy : ev σ y = some v)
    (hn : Ω[n]? = some (cells b cs U)) (hm : v.cells.size = m) (hl : Nat.ble (o + m) cs.length = true) (h1 : v.cells.toList.all (·.oneCell') = true) :
    Eff Tryz.prog σ (Mem c Ω h) ⟨d, .store T x y, ty, ps, af, g⟩ fun _ w => Mem c (Ω.set n (cells b (sets cs o v.cells.toList) U)) h w := Eff.store (ly hT) hx hy hn hm (Nat.le_of_ble_eq_true hl) h1
end
end Go.Proofs.YthjgbmbaabpgmaaGreat
