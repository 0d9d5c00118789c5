/- A Go function: the Lean function that it comes to, and the proof. -/
import Derived.Test.YtghpokmkhlmgcaaFi2
namespace Go.Proofs.Ytghpokmkhlmgcaa
open Go Go.Proofs.Ytghpokmkhlmgcaa.X
set_option linter.unusedVariables false
set_option linter.unusedSimpArgs false
set_option maxRecDepth 100000
set_option maxHeartbeats 4000000
namespace s_entry
noncomputable def c0 : Code := match Try.f61.body with | some c => c | none => .skip
def R (F : List Atom) (x1 : List Int) (A2 : OA) (k3 : Nat) (x4 : List Int) (A5 : OA) (k6 : Nat) (r : aE × (List Int) × Bool) : Ending → World → Prop := fun e w' => ∃ (A49 : OA), ∃ (k50 : Nat), ∃ (A51 : OA), ∃ (k52 : Nat), ∃ (A53 : OA), ∃ (k54 : Nat), e = .returned (.tuple #[.agg #[.slice A49 r.1.Key.length k50, .int .u64 r.1.Seq, .bool r.1.Del, .slice A51 r.1.Value.length k52], .slice A53 r.2.1.length k54, .bool r.2.2]) ∧ SL ([sl .own ku8 A49 k50 r.1.Key, sl .own ku8 A51 k52 r.1.Value, sl .ro ku8 A53 k54 r.2.1, sl .ro ku8 A2 k3 x1, sl .ro ku8 A5 k6 x4] ++ F) w'
def J1 (z : Nat) : Option (aE × (List Int) × Bool) := some ((aE.mk ([] : List Int) 0 false ([] : List Int)), ([] : List Int), false)
def J3 (z : Nat) (q0 : (List Int) → Int → Bool → (List Int) → Option (aE × (List Int) × Bool)) (x4 : List Int) (x17 : Int) (x40 : List Int) (x43 : Bool) (x44 : List Int) : Option (aE × (List Int) × Bool) := Bd (c_TakeNumber.f z x40) fun x47 => If (x47.2.2 != 0) (some ((aE.mk ([] : List Int) 0 false ([] : List Int)), ([] : List Int), false)) (Ck (0 ≤ x47.2.1 ∧ x47.2.1 ≤ (x40.length : Int)) (Ck (0 ≤ x17 ∧ x17 < 4) (q0 (cut x40 (Int.toNat x47.2.1) (Int.toNat (x40.length : Int))) (wr .i64 (x17 + 1)) x43 (x44.set (Int.toNat x17) x47.1))))
def J2 (z : Nat) : Option (aE × (List Int) × Bool) := some ((aE.mk ([] : List Int) 0 false ([] : List Int)), ([] : List Int), false)
def L0 (z : Nat) (x4 : List Int) : Nat → (List Int) → Int → Bool → (List Int) → Option (aE × (List Int) × Bool)
 | 0, _, _, _, _ => none
 | m + 1, x11, x17, x14, x15 => If (decide (x17 < 4)) (If (x17 == 3) (If ((x11.length : Int) == 0) (J2 z) (Ck (0 < (x11.length : Int)) (If (decide ((gi (0 : Int) x11 0) > 1)) (J2 z) (Ck (1 ≤ (x11.length : Int)) (J3 z (L0 z x4 m) x4 x17 (cut x11 (Int.toNat 1) (Int.toNat (x11.length : Int))) ((gi (0 : Int) x11 0) == 1) x15))))) (J3 z (L0 z x4 m) x4 x17 x11 x14 x15)) (If (decide ((gi (0 : Int) x15 0) > (wr .u64 (x4.length : Int)))) (J1 z) (If (decide ((gi (0 : Int) x15 1) > (wr .u64 (x11.length : Int)))) (J1 z) (If (decide ((gi (0 : Int) x15 3) > (wr .u64 ((wr .u64 (x11.length : Int)) - (gi (0 : Int) x15 1))))) (J1 z) (Ck (0 ≤ gi (0 : Int) x15 0 ∧ gi (0 : Int) x15 0 ≤ (x4.length : Int)) (Ck (0 ≤ gi (0 : Int) x15 1 ∧ gi (0 : Int) x15 1 ≤ (x11.length : Int)) (Bd (slices_Concat_byte.f z [(cut x4 (Int.toNat 0) (Int.toNat (gi (0 : Int) x15 0))), (cut x11 (Int.toNat 0) (Int.toNat (gi (0 : Int) x15 1)))]) fun x2542 => Ck (0 ≤ gi (0 : Int) x15 3 ∧ gi (0 : Int) x15 3 ≤ ((cut x11 (Int.toNat (gi (0 : Int) x15 1)) (Int.toNat (x11.length : Int))).length : Int)) (Bd (bytes_Clone.f (cut (cut x11 (Int.toNat (gi (0 : Int) x15 1)) (Int.toNat (x11.length : Int))) (Int.toNat 0) (Int.toNat (gi (0 : Int) x15 3)))) fun x27 => Bd (slices_Clip_byte.f x27) fun x31 => some ((aE.mk x2542 (gi (0 : Int) x15 2) x14 x31), (cut (cut x11 (Int.toNat (gi (0 : Int) x15 1)) (Int.toNat (x11.length : Int))) (Int.toNat (gi (0 : Int) x15 3)) (Int.toNat ((cut x11 (Int.toNat (gi (0 : Int) x15 1)) (Int.toNat (x11.length : Int))).length : Int))), true))))))))
def f (z : Nat) (x1 x4 : List Int) : Option (aE × (List Int) × Bool) := L0 z x4 z x1 0 false [0, 0, 0, 0]
noncomputable def ptJ1 : List Item := [.code (cL (cr 10 (cB (cR c0)))), .code (cr 11 (cB (cR c0))), .inScope (cB (cR c0))]
noncomputable def ptJ3 : List Item := [.code (cL (cR (cR (cB (cL (cR (cR (cB (cB (cR (cL (cR (cR (cB (cR c0))))))))))))))), .code (cr 3 (cB (cL (cR (cR (cB (cB (cR (cL (cR (cR (cB (cR c0))))))))))))), .inBlock 1, .code (cr 3 (cB (cB (cR (cL (cR (cR (cB (cR c0))))))))), .inLoop (cB (cB (cR (cL (cR (cR (cB (cR c0)))))))), .inBlock 0, .code (cr 3 (cB (cR c0))), .inScope (cB (cR c0))]
noncomputable def ptJ2 : List Item := [.code (cL (cr 10 (cB (cR c0)))), .code (cr 11 (cB (cR c0))), .inScope (cB (cR c0))]
noncomputable def ptL0 : List Item := [.code (cB (cB (cR (cL (cR (cR (cB (cR c0)))))))), .inLoop (cB (cB (cR (cL (cR (cR (cB (cR c0)))))))), .inBlock 0, .code (cr 3 (cB (cR c0))), .inScope (cB (cR c0))]
abbrev y0 (A22 : OA) (k13 : Nat) (x15 x11 : List Int) : Value := .slice (slA A22 (Int.toNat (((Int.toNat (k13 : Int) - Int.toNat (gi (0 : Int) x15 1)) : Nat) : Int)) (Int.toNat (gi (0 : Int) x15 3)) 1) ((cut (cut x11 (Int.toNat (gi (0 : Int) x15 1)) (Int.toNat (x11.length : Int))) (Int.toNat (gi (0 : Int) x15 3)) (Int.toNat ((cut x11 (Int.toNat (gi (0 : Int) x15 1)) (Int.toNat (x11.length : Int))).length : Int))).length) (Int.toNat (((Int.toNat (k13 : Int) - Int.toNat (gi (0 : Int) x15 1)) : Nat) : Int) - Int.toNat (gi (0 : Int) x15 3))
abbrev y1 : List Value := [.slice none 0 0, .int .u64 0, .bool false, .slice none 0 0]
abbrev y2 (A5 : OA) (k6 : Nat) (x4 x15 : List Int) : Atom := sl .ro ku8 (slA A5 (Int.toNat (k6 : Int)) (Int.toNat 0) 1) (Int.toNat (k6 : Int) - Int.toNat 0) (cut x4 (Int.toNat 0) (Int.toNat (gi (0 : Int) x15 0)))
abbrev y3 (A12 : OA) (k13 : Nat) (x11 x15 : List Int) : Atom := sl .ro ku8 (slA A12 (Int.toNat (k13 : Int)) (Int.toNat 0) 1) (Int.toNat (k13 : Int) - Int.toNat 0) (cut x11 (Int.toNat 0) (Int.toNat (gi (0 : Int) x15 1)))
abbrev y4 (b2481 : Nat) (x4 x15 x11 : List Int) : Atom := sl .own (kSl ku8) (some ⟨b2481, 0, none⟩) 2 [(cut x4 (Int.toNat 0) (Int.toNat (gi (0 : Int) x15 0))), (cut x11 (Int.toNat 0) (Int.toNat (gi (0 : Int) x15 1)))]
abbrev y5 (A5 : OA) (k6 : Nat) (x4 x15 : List Int) : Value := .slice (slA A5 (Int.toNat (k6 : Int)) (Int.toNat 0) 1) ((cut x4 (Int.toNat 0) (Int.toNat (gi (0 : Int) x15 0))).length) (Int.toNat (k6 : Int) - Int.toNat 0)
abbrev y6 (A12 : OA) (k13 : Nat) (x11 x15 : List Int) : Value := .slice (slA A12 (Int.toNat (k13 : Int)) (Int.toNat 0) 1) ((cut x11 (Int.toNat 0) (Int.toNat (gi (0 : Int) x15 1))).length) (Int.toNat (k13 : Int) - Int.toNat 0)
abbrev y7 (A41 : OA) (k42 : Nat) (x47 : Int × Int × Int) (x40 : List Int) : Value := .slice (slA A41 (Int.toNat (k42 : Int)) (Int.toNat x47.2.1) 1) ((cut x40 (Int.toNat x47.2.1) (Int.toNat (x40.length : Int))).length) (Int.toNat (k42 : Int) - Int.toNat x47.2.1)
abbrev y8 (A22 : OA) (k13 : Nat) (x15 x11 : List Int) : Atom := sl .ro ku8 (slA A22 (Int.toNat (((Int.toNat (k13 : Int) - Int.toNat (gi (0 : Int) x15 1)) : Nat) : Int)) (Int.toNat (gi (0 : Int) x15 3)) 1) (Int.toNat (((Int.toNat (k13 : Int) - Int.toNat (gi (0 : Int) x15 1)) : Nat) : Int) - Int.toNat (gi (0 : Int) x15 3)) (cut (cut x11 (Int.toNat (gi (0 : Int) x15 1)) (Int.toNat (x11.length : Int))) (Int.toNat (gi (0 : Int) x15 3)) (Int.toNat ((cut x11 (Int.toNat (gi (0 : Int) x15 1)) (Int.toNat (x11.length : Int))).length : Int)))
abbrev y9 (b9 : Nat) (x15 : List Int) : Atom := sl .own ku64 (some ⟨b9, 0, none⟩) 4 x15
abbrev y10 (A22 : OA) (k13 : Nat) (x15 x11 : List Int) : Atom := sl .ro ku8 A22 (Int.toNat (k13 : Int) - Int.toNat (gi (0 : Int) x15 1)) (cut x11 (Int.toNat (gi (0 : Int) x15 1)) (Int.toNat (x11.length : Int)))
abbrev y11 (x15 : List Int) : Value := .int .u64 (gi (0 : Int) x15 2)
abbrev y12 (b7 : Nat) : Nat × Value := (4, .pointer (some ⟨b7, 0, none⟩))
abbrev y13 (b9 : Nat) : Value := .pointer (some (eA (some ⟨b9, 0, none⟩) (Int.toNat 0 * 1)))
abbrev y14 (b9 : Nat) : Value := .pointer (some (eA (some ⟨b9, 0, none⟩) (Int.toNat 1 * 1)))
theorem J1_ok (F : List Atom) (r : aE × (List Int) × Bool) (z : Nat) (x1 : List Int) (A2 : OA) (k3 : Nat) (x4 : List Int) (A5 : OA) (k6 b7 : Nat) (a : Act) (w : World) (T : Tm 105 [(y12 b7)] a) (S : SL ([sl .ro ku8 A2 k3 x1, sl .ro ku8 A5 k6 x4, blk b7 (y1)] ++ F) w) (H : J1 z = some r) : Gets Try.prog 61 ptJ1 a w (R F x1 A2 k3 x4 A5 k6 r) := by
 refine rg (r_build (cs := #[.slice none 0 0, .int .u64 0, .bool false, .slice none 0 0]) T stt36 rfl rfl rfl fun _ T => r_stBA (ix := 2) (vs := (y1)) T S rfl rfl rfl rfl (by simp) ts36 (nle rfl) rfl fun _ S => ?_)
 refine v2 T rfl rfl fun T => ?_
 replace S := S.nil ku8 .own
 replace S := S.nil ku8 .own
 replace S := S.nil ku8 .ro
 obtain rfl := sj H
 exact rtnM T S tf61 rfl ⟨_, _, rfl, ⟨b7, _, 5, rfl, rfl, .inl ⟨ti36, ts36, rfl⟩⟩, ⟨_, _, rfl, rfl, ⟨_, _, rfl, rfl, rfl⟩⟩⟩ ⟨none, 0, none, 0, none, 0, rfl, (S.only [2, 1, 0, 0, 0] rfl)⟩
theorem J3_ok (F : List Atom) (r : aE × (List Int) × Bool) (z : Nat) (x1 : List Int) (A2 : OA) (k3 : Nat) (x4 : List Int) (A5 : OA) (k6 b7 b8 b9 : Nat) (x17 : Int) (q0 : (List Int) → Int → Bool → (List Int) → Option (aE × (List Int) × Bool)) (hq0 : ∀ (A12 : OA) (x11 : List Int) (k13 : Nat) (x17 : Int) (x14 : Bool) (x15 : List Int) (a : Act) (w : World), Tm 105 [(0, .slice A12 x11.length k13), (1, .slice A5 x4.length k6), (y12 b7), (7, .pointer (some ⟨b8, 0, none⟩)), (8, .pointer (some ⟨b9, 0, none⟩)), (13, .int .i64 x17)] a → SL ([sl .ro ku8 A2 k3 x1, sl .ro ku8 A5 k6 x4, sl .ro ku8 A12 k13 x11, blk b7 (y1), blk b8 [.slice none 0 0, .int .u64 0, .bool x14, .slice none 0 0], (y9 b9 x15), pr (x15.length = 4)] ++ F) w → q0 x11 x17 x14 x15 = some r → Gets Try.prog 61 ptL0 a w (R F x1 A2 k3 x4 A5 k6 r)) (A41 : OA) (x40 : List Int) (k42 : Nat) (x43 : Bool) (x44 : List Int) (a : Act) (w : World) (T : Tm 105 [(0, .slice A41 x40.length k42), (1, .slice A5 x4.length k6), (y12 b7), (7, .pointer (some ⟨b8, 0, none⟩)), (8, .pointer (some ⟨b9, 0, none⟩)), (9, .int .i64 x17), (13, .int .i64 x17)] a) (S : SL ([sl .ro ku8 A2 k3 x1, sl .ro ku8 A5 k6 x4, sl .ro ku8 A41 k42 x40, blk b7 (y1), blk b8 [.slice none 0 0, .int .u64 0, .bool x43, .slice none 0 0], sl .own ku64 (some ⟨b9, 0, none⟩) 4 x44, pr (x44.length = 4)] ++ F) w) (H : J3 z q0 x4 x17 x40 x43 x44 = some r) : Gets Try.prog 61 ptJ3 a w (R F x1 A2 k3 x4 A5 k6 r) := by
 have h45 := S.getp (i := 6) rfl
 refine rg (v1 T rfl fun T => ?_)
 obtain ⟨x47, h46, H⟩ := bd H
 refine rc T Try.call85 rfl rfl (c_TakeNumber.ok _ _ z x40 (S.sel (is := [2]) rfl) _ h46) ?_
 rintro _ _ ⟨rfl, S⟩
 refine ⟨_, rfl, fun _ T => ?_⟩
 replace S : SL ([sl .ro ku8 A41 k42 x40, sl .ro ku8 A2 k3 x1, sl .ro ku8 A5 k6 x4, blk b7 (y1), blk b8 [.slice none 0 0, .int .u64 0, .bool x43, .slice none 0 0], sl .own ku64 (some ⟨b9, 0, none⟩) 4 x44, pr (x44.length = 4)] ++ F) _ := S.join
 refine v3 T rfl rfl rfl fun T => v3 T rfl rfl rfl fun T => v1 T rfl fun T => sq (sq (rg (v2 T rfl rfl fun T => ?_)))
 rcases ifE H with ⟨h48, H⟩ | ⟨h48, H⟩
 ·refine cdT T rfl h48 ?_
  refine Gets.goto rfl (sq (sk (sq ?_)))
  refine rg (r_build (cs := #[.slice none 0 0, .int .u64 0, .bool false, .slice none 0 0]) T stt36 rfl rfl rfl fun _ T => r_stBA (ix := 3) (vs := (y1)) T S rfl rfl rfl rfl (by simp) ts36 (nle rfl) rfl fun _ S => ?_)
  refine v2 T rfl rfl fun T => ?_
  replace S := S.nil ku8 .own
  replace S := S.nil ku8 .own
  replace S := S.nil ku8 .ro
  obtain rfl := sj H
  exact rtnM T S tf61 rfl ⟨_, _, rfl, ⟨b7, _, 6, rfl, rfl, .inl ⟨ti36, ts36, rfl⟩⟩, ⟨_, _, rfl, rfl, ⟨_, _, rfl, rfl, rfl⟩⟩⟩ ⟨none, 0, none, 0, none, 0, rfl, (S.only [2, 1, 0, 1, 1] rfl)⟩
 ·refine cdF T rfl h48 (sk ?_)
  have h3441 := S.len (i := 0) rfl
  obtain ⟨h3442, H⟩ := ck H
  replace S := S.cutR (ix := 0) (i := x47.2.1) (j := (x40.length : Int)) (k := (k42 : Int)) rfl h3442.1 h3442.2 (Int.le_refl _) (by omega) (by omega)
  obtain ⟨h3501, H⟩ := ck H
  refine Gets.drawn (l := [sl .ro ku8 (slA A41 (Int.toNat (k42 : Int)) (Int.toNat x47.2.1) 1) (Int.toNat (k42 : Int) - Int.toNat x47.2.1) (cut x40 (Int.toNat x47.2.1) (Int.toNat (x40.length : Int))), sl .ro ku8 A41 k42 x40, sl .ro ku8 A2 k3 x1, sl .ro ku8 A5 k6 x4, blk b7 (y1), blk b8 [.slice none 0 0, .int .u64 0, .bool x43, .slice none 0 0], sl .own ku64 (some ⟨b9, 0, none⟩) 4 x44, pr (x44.length = 4)]) (V := [some (.int .i64 x17, true), some (.int .u64 x47.1, true), some (.slice A41 x40.length k42, true), some (.int .i64 x47.2.1, true), some ((y7 A41 k42 x47 x40), true), some (.pointer (some (eA (some ⟨b9, 0, none⟩) (Int.toNat x17 * 1))), true), none, none]) mixed T S rfl ?_
  refine stage (some 6) rfl rfl ⟨⟨_, _, rfl, (avl [9] rfl), fun _ _ _ T S => v1 T rfl fun T => ⟨rfl, T⟩⟩, ⟨_, _, rfl, (avl [10] rfl), fun _ _ _ T S => v1 T rfl fun T => ⟨rfl, T⟩⟩, ⟨_, _, rfl, (avl [0] rfl), fun _ _ _ T S => v1 T rfl fun T => ⟨rfl, T⟩⟩, ⟨_, _, rfl, (avl [11] rfl), fun _ _ _ T S => v1 T rfl fun T => ⟨rfl, T⟩⟩, ⟨_, _, rfl, (avl [44, 45] rfl), fun _ _ _ T S => r_slQ (xs := x40) T rfl (fun h => by cases h) rfl rfl rfl h3442.1 h3442.2 (Int.le_refl _) (by omega) (by omega) tu24 ts5 rfl fun _ T => ⟨rfl, T⟩⟩, ⟨_, _, rfl, (avl [8, 42] rfl), fun _ _ _ T S => r_iaA T rfl rfl tu121 ts34 h3501.1 h3501.2 rfl fun _ T => ⟨rfl, T⟩⟩, trivial⟩ rfl (fun i hi => ?_) (fun h => by cases h)
  cases hi
  refine ⟨rfl, _, _, rfl, (avl [43, 47] rfl), fun u a w T S => ?_⟩
  have h3561 : (x44.set (Int.toNat x17) x47.1).length = 4 := by rw [List.length_set]; exact h45
  refine r_stE (ix := 6) (i := x17) (u := x47.1) (A := (some ⟨b9, 0, none⟩)) T S rfl rfl rfl rfl (fun _ => rfl) ts34 h3501.1 (by have q1_ : (x17 : Int) < 4 := h3501.2; have q2_ := h45; omega) rfl fun _ S => ?_
  refine ⟨_, [some (.int .i64 x17, false), some (.int .u64 x47.1, false), some (.slice A41 x40.length k42, true), some (.int .i64 x47.2.1, true), some ((y7 A41 k42 x47 x40), true), some (.pointer (some (eA (some ⟨b9, 0, none⟩) (Int.toNat x17 * 1))), false), some (undef, false), some ((y7 A41 k42 x47 x40), true)], [sl .ro ku8 (slA A41 (Int.toNat (k42 : Int)) (Int.toNat x47.2.1) 1) (Int.toNat (k42 : Int) - Int.toNat x47.2.1) (cut x40 (Int.toNat x47.2.1) (Int.toNat (x40.length : Int))), sl .ro ku8 A41 k42 x40, sl .ro ku8 A2 k3 x1, sl .ro ku8 A5 k6 x4, blk b7 (y1), blk b8 [.slice none 0 0, .int .u64 0, .bool x43, .slice none 0 0], sl .own ku64 (some ⟨b9, 0, none⟩) 4 (x44.set (Int.toNat x17) x47.1), pr (x44.length = 4)], rfl, (by repeat first | exact kx0 | apply kxs | apply kxn), rfl, ?_, T, S⟩
  refine stage none rfl rfl ⟨⟨_, _, rfl, (avl [0] rfl), fun _ _ _ T S => v1 T rfl fun T => ⟨rfl, T⟩⟩, ⟨_, _, rfl, (avl [11] rfl), fun _ _ _ T S => v1 T rfl fun T => ⟨rfl, T⟩⟩, ⟨_, _, rfl, (avl [44, 45] rfl), fun _ _ _ T S => r_slQ (xs := x40) T rfl (fun h => by cases h) rfl rfl rfl h3442.1 h3442.2 (Int.le_refl _) (by omega) (by omega) tu24 ts5 rfl fun _ T => ⟨rfl, T⟩⟩, ⟨_, _, rfl, (avl [46] rfl), fun _ _ _ T S => v1 T rfl fun T => ⟨rfl, T⟩⟩, trivial⟩ rfl (fun i hi => by cases hi) (fun _ _ a w T hv hb S => ?_)
  replace T := T.sub (r := [(0, (y7 A41 k42 x47 x40)), (1, .slice A5 x4.length k6), (y12 b7), (7, .pointer (some ⟨b8, 0, none⟩)), (8, .pointer (some ⟨b9, 0, none⟩)), (13, .int .i64 x17)]) ⟨hv 7 _ 0 rfl rfl rfl, hb 1 _ rfl rfl, hb 4 _ rfl rfl, hb 7 _ rfl rfl, hb 8 _ rfl rfl, hb 13 _ rfl rfl, trivial⟩
  refine Gets.inBlock (rg (v2 T rfl rfl fun T => Gets.inLoop ?_))
  replace S := SL.prf h3561 S
  exact hq0 (slA A41 (Int.toNat (k42 : Int)) (Int.toNat x47.2.1) 1) (cut x40 (Int.toNat x47.2.1) (Int.toNat (x40.length : Int))) (Int.toNat (k42 : Int) - Int.toNat x47.2.1) (wr .i64 (x17 + 1)) x43 (x44.set (Int.toNat x17) x47.1) _ _ (T.sb rfl) (S.only [3, 3, 1, 2, 2, 2, 0] rfl) H
theorem J2_ok (F : List Atom) (r : aE × (List Int) × Bool) (z : Nat) (x1 : List Int) (A2 : OA) (k3 : Nat) (x4 : List Int) (A5 : OA) (k6 b7 : Nat) (a : Act) (w : World) (T : Tm 105 [(y12 b7)] a) (S : SL ([sl .ro ku8 A2 k3 x1, sl .ro ku8 A5 k6 x4, blk b7 (y1)] ++ F) w) (H : J2 z = some r) : Gets Try.prog 61 ptJ2 a w (R F x1 A2 k3 x4 A5 k6 r) := by
 refine rg (r_build (cs := #[.slice none 0 0, .int .u64 0, .bool false, .slice none 0 0]) T stt36 rfl rfl rfl fun _ T => r_stBA (ix := 2) (vs := (y1)) T S rfl rfl rfl rfl (by simp) ts36 (nle rfl) rfl fun _ S => ?_)
 refine v2 T rfl rfl fun T => ?_
 replace S := S.nil ku8 .own
 replace S := S.nil ku8 .own
 replace S := S.nil ku8 .ro
 obtain rfl := sj H
 exact rtnM T S tf61 rfl ⟨_, _, rfl, ⟨b7, _, 5, rfl, rfl, .inl ⟨ti36, ts36, rfl⟩⟩, ⟨_, _, rfl, rfl, ⟨_, _, rfl, rfl, rfl⟩⟩⟩ ⟨none, 0, none, 0, none, 0, rfl, (S.only [2, 1, 0, 0, 0] rfl)⟩
theorem L0_ok (F : List Atom) (r : aE × (List Int) × Bool) (z : Nat) (x1 : List Int) (A2 : OA) (k3 : Nat) (x4 : List Int) (A5 : OA) (k6 b7 b8 b9 m : Nat) : ∀ (A12 : OA) (x11 : List Int) (k13 : Nat) (x17 : Int) (x14 : Bool) (x15 : List Int) (a : Act) (w : World), Tm 105 [(0, .slice A12 x11.length k13), (1, .slice A5 x4.length k6), (y12 b7), (7, .pointer (some ⟨b8, 0, none⟩)), (8, .pointer (some ⟨b9, 0, none⟩)), (13, .int .i64 x17)] a → SL ([sl .ro ku8 A2 k3 x1, sl .ro ku8 A5 k6 x4, sl .ro ku8 A12 k13 x11, blk b7 (y1), blk b8 [.slice none 0 0, .int .u64 0, .bool x14, .slice none 0 0], (y9 b9 x15), pr (x15.length = 4)] ++ F) w → L0 z x4 m x11 x17 x14 x15 = some r → Gets Try.prog 61 ptL0 a w (R F x1 A2 k3 x4 A5 k6 r) := by
 induction m with
 | zero => intro _ _ _ _ _ _ _ _ _ _ H; cases H
 | succ m ih =>
  intro A12 x11 k13 x17 x14 x15 a w T S H
  have h16 := S.getp (i := 6) rfl
  refine sq (rg (v1 T rfl fun T => sq ?_))
  rcases ifE H with ⟨h18, H⟩ | ⟨h18, H⟩
  ·refine cdT T rfl h18 (sk (sq (bq (sq (rg (v2 T rfl rfl fun T => sq (sq (rg (v2 T rfl rfl fun T => ?_)))))))))
   rcases ifE H with ⟨h33, H⟩ | ⟨h33, H⟩
   ·refine cdT T rfl h33 (sq (sq (rg (v1 T rfl fun T => rn T rfl tu24 rfl fun _ T => v2 T rfl rfl fun T => ?_))))
    rcases ifE H with ⟨h34, H⟩ | ⟨h34, H⟩
    ·refine gn T rfl h34 fun T => gn T rfl h34 fun T => gn T rfl h34 fun T => gn T rfl h34 fun T => pT T rfl h34 rfl rfl fun _ T => cdT T rfl rfl ?_
     refine Gets.goto rfl (sq (sk (sq ?_)))
     exact J2_ok F r z x1 A2 k3 x4 A5 k6 b7 _ _ (T.sb rfl) (S.only [0, 0, 1] rfl) H
    ·refine gy T rfl h34 (v1 T rfl fun T => gy T rfl h34 ?_)
     obtain ⟨h35, H⟩ := ck H
     refine r_ia (ix := 2) T S rfl rfl rfl rfl tu24 ts5 (by decide) h35 rfl fun _ T => ?_
     refine gy T rfl h34 (r_ldE (ix := 2) (i := 0) (off := 0) (f := (Value.int .u8)) T S rfl ti5 rfl (0 : Int) _ rfl rfl (Fld.all _) (by decide) h35 id rfl fun _ T => ?_)
     refine gy T rfl h34 (v1 T rfl fun T => pF T rfl h34 rfl rfl fun _ T => ?_)
     rcases ifE H with ⟨h36, H⟩ | ⟨h36, H⟩
     ·refine cdT T rfl h36 ?_
      refine Gets.goto rfl (sq (sk (sq ?_)))
      exact J2_ok F r z x1 A2 k3 x4 A5 k6 b7 _ _ (T.sb rfl) (S.only [0, 0, 1] rfl) H
     ·refine cdF T rfl h36 (sk (sq ?_))
      refine rg (v1 T rfl fun T => r_ia (ix := 2) T S rfl rfl rfl rfl tu24 ts5 (by decide) h35 rfl fun _ T => ?_)
      refine r_ldE (ix := 2) (i := 0) (off := 0) (f := (Value.int .u8)) T S rfl ti5 rfl (0 : Int) _ rfl rfl (Fld.all _) (by decide) h35 id rfl fun _ T => ?_
      refine v1 T rfl fun T => r_fa (o' := 2) T rfl tu36 rfl ts4 rfl rfl fun _ T => r_stB (ix := 4) T S rfl rfl rfl ts4 rfl (nle rfl) rfl fun _ S => rg (v1 T rfl fun T => ?_)
      have h37 := S.len (i := 2) rfl
      obtain ⟨h38, H⟩ := ck H
      refine r_slR (ix := 2) (xs := x11) T S rfl rfl (fun h => by cases h) rfl rfl rfl (by decide) h38 (Int.le_refl _) (by omega) (by omega) tu24 ts5 rfl fun _ A39 S T => ?_
      refine v1 T rfl fun T => sq ?_
      replace S := SL.prf h16 S
      exact J3_ok F r z x1 A2 k3 x4 A5 k6 b7 b8 b9 x17 (L0 z x4 m) ih A39 (cut x11 (Int.toNat 1) (Int.toNat (x11.length : Int))) (Int.toNat (k13 : Int) - Int.toNat 1) ((gi (0 : Int) x11 0) == 1) x15 _ _ (T.sb rfl) (S.only [2, 2, 1, 2, 2, 2, 0] rfl) H
   ·refine cdF T rfl h33 (sk (sq ?_))
    replace S := SL.prf h16 S
    exact J3_ok F r z x1 A2 k3 x4 A5 k6 b7 b8 b9 x17 (L0 z x4 m) ih A12 x11 k13 x14 x15 _ _ (T.sb rfl) (S.only [1, 1, 1, 1, 1, 1, 0] rfl) H
  ·refine cdF T rfl h18 (Gets.exit rfl (sq (sq ?_)))
   refine rg (r_iaA T rfl rfl tu121 ts34 (by decide) (by decide) rfl fun _ T => ?_)
   refine r_ldE (ix := 5) (i := 0) (off := 0) (A := (some ⟨b9, 0, none⟩)) (f := (Value.int .u64)) T S rfl ti34 rfl (0 : Int) _ rfl rfl (Fld.all _) (by decide) (by have q1_ : (0 : Int) < 4 := (by decide); have q2_ := h16; omega) id rfl fun _ T => ?_
   refine v1 T rfl fun T => rn T rfl tu24 rfl fun _ T => r_conv T rfl tu3 tu34 rfl fun _ T => v2 T rfl rfl fun T => ?_
   rcases ifE H with ⟨h19, H⟩ | ⟨h19, H⟩
   ·refine gn T rfl h19 fun T => gn T rfl h19 fun T => gn T rfl h19 fun T => gn T rfl h19 fun T => gn T rfl h19 fun T => gn T rfl h19 fun T => pT T rfl h19 rfl rfl fun _ T => v1 T rfl fun T => gn T rfl rfl fun T => gn T rfl rfl fun T => gn T rfl rfl fun T => gn T rfl rfl fun T => gn T rfl rfl fun T => gn T rfl rfl fun T => gn T rfl rfl fun T => gn T rfl rfl fun T => gn T rfl rfl fun T => pT T rfl rfl rfl rfl fun _ T => cdT T rfl rfl ?_
    refine Gets.goto rfl (sq (sk (sq ?_)))
    exact J1_ok F r z x1 A2 k3 x4 A5 k6 b7 _ _ (T.sb rfl) (S.only [0, 0, 1] rfl) H
   ·refine gy T rfl h19 ?_
    refine r_iaA T rfl rfl tu121 ts34 (by decide) (by decide) rfl fun _ T => ?_
    refine gy T rfl h19 (r_ldE (ix := 5) (i := 1) (off := 0) (A := (some ⟨b9, 0, none⟩)) (f := (Value.int .u64)) T S rfl ti34 rfl (0 : Int) _ rfl rfl (Fld.all _) (by decide) (by have q1_ : (1 : Int) < 4 := (by decide); have q2_ := h16; omega) id rfl fun _ T => ?_)
    refine gy T rfl h19 (v1 T rfl fun T => gy T rfl h19 (rn T rfl tu24 rfl fun _ T => gy T rfl h19 (r_conv T rfl tu3 tu34 rfl fun _ T => gy T rfl h19 (v1 T rfl fun T => pF T rfl h19 rfl rfl fun _ T => v1 T rfl fun T => ?_))))
    rcases ifE H with ⟨h20, H⟩ | ⟨h20, H⟩
    ·refine gn T rfl h20 fun T => gn T rfl h20 fun T => gn T rfl h20 fun T => gn T rfl h20 fun T => gn T rfl h20 fun T => gn T rfl h20 fun T => gn T rfl h20 fun T => gn T rfl h20 fun T => gn T rfl h20 fun T => pT T rfl h20 rfl rfl fun _ T => cdT T rfl rfl ?_
     refine Gets.goto rfl (sq (sk (sq ?_)))
     exact J1_ok F r z x1 A2 k3 x4 A5 k6 b7 _ _ (T.sb rfl) (S.only [0, 0, 1] rfl) H
    ·refine gy T rfl h20 ?_
     refine r_iaA T rfl rfl tu121 ts34 (by decide) (by decide) rfl fun _ T => ?_
     refine gy T rfl h20 (r_ldE (ix := 5) (i := 3) (off := 0) (A := (some ⟨b9, 0, none⟩)) (f := (Value.int .u64)) T S rfl ti34 rfl (0 : Int) _ rfl rfl (Fld.all _) (by decide) (by have q1_ : (3 : Int) < 4 := (by decide); have q2_ := h16; omega) id rfl fun _ T => ?_)
     refine gy T rfl h20 (v1 T rfl fun T => gy T rfl h20 (rn T rfl tu24 rfl fun _ T => ?_))
     refine gy T rfl h20 (r_conv T rfl tu3 tu34 rfl fun _ T => gy T rfl h20 (r_iaA T rfl rfl tu121 ts34 (by decide) (by decide) rfl fun _ T => ?_))
     refine gy T rfl h20 (r_ldE (ix := 5) (i := 1) (off := 0) (A := (some ⟨b9, 0, none⟩)) (f := (Value.int .u64)) T S rfl ti34 rfl (0 : Int) _ rfl rfl (Fld.all _) (by decide) (by have q1_ : (1 : Int) < 4 := (by decide); have q2_ := h16; omega) id rfl fun _ T => ?_)
     refine gy T rfl h20 (v1 T rfl fun T => gy T rfl h20 (v1 T rfl fun T => pF T rfl h20 rfl rfl fun _ T => ?_))
     rcases ifE H with ⟨h21, H⟩ | ⟨h21, H⟩
     ·refine cdT T rfl h21 ?_
      refine Gets.goto rfl (sq (sk (sq ?_)))
      exact J1_ok F r z x1 A2 k3 x4 A5 k6 b7 _ _ (T.sb rfl) (S.only [0, 0, 1] rfl) H
     ·refine cdF T rfl h21 (sk (sq ?_))
      refine rg (r_iaA T rfl rfl tu121 ts34 (by decide) (by decide) rfl fun _ T => ?_)
      refine r_ldE (ix := 5) (i := 2) (off := 0) (A := (some ⟨b9, 0, none⟩)) (f := (Value.int .u64)) T S rfl ti34 rfl (0 : Int) _ rfl rfl (Fld.all _) (by decide) (by have q1_ : (2 : Int) < 4 := (by decide); have q2_ := h16; omega) id rfl fun _ T => ?_
      refine r_fa (o' := 1) T rfl tu36 rfl ts34 rfl rfl fun _ T => r_stB (ix := 4) T S rfl rfl rfl ts34 rfl (nle rfl) rfl fun _ S => sq ?_
      have h2181 := S.len (i := 1) rfl
      obtain ⟨h2182, H⟩ := ck H
      replace S := S.cutR (ix := 1) (i := 0) (j := gi (0 : Int) x15 0) (k := (k6 : Int)) rfl (Int.le_refl _) h2182.1 h2182.2 (by have := h2182.2; omega) (by omega)
      have h2421 := S.len (i := 3) rfl
      obtain ⟨h2422, H⟩ := ck H
      replace S := S.cutR (ix := 3) (i := 0) (j := gi (0 : Int) x15 1) (k := (k13 : Int)) rfl (Int.le_refl _) h2422.1 h2422.2 (by have := h2422.2; omega) (by omega)
      refine Gets.drawn (l := [(y3 A12 k13 x11 x15), (y2 A5 k6 x4 x15), sl .ro ku8 A2 k3 x1, sl .ro ku8 A5 k6 x4, sl .ro ku8 A12 k13 x11, blk b7 (y1), blk b8 [.slice none 0 0, (y11 x15), .bool x14, .slice none 0 0], (y9 b9 x15), pr (x15.length = 4)]) (V := [some (.slice A5 x4.length k6, true), some ((y13 b9), true), some (.int .u64 (gi (0 : Int) x15 0), true), some ((y5 A5 k6 x4 x15), true), some (.slice A12 x11.length k13, true), some ((y14 b9), true), some (.int .u64 (gi (0 : Int) x15 1), true), some ((y6 A12 k13 x11 x15), true), none, none, none, none]) mixed T S rfl ?_
      refine stage (some 8) rfl rfl ⟨⟨_, _, rfl, (avl [1] rfl), fun _ _ _ T S => v1 T rfl fun T => ⟨rfl, T⟩⟩, ⟨_, _, rfl, (avl [8] rfl), fun _ _ _ T S => r_iaA T rfl rfl tu121 ts34 (by decide) (by decide) rfl fun _ T => ⟨rfl, T⟩⟩, ⟨_, _, rfl, (avl [78] rfl), fun _ _ _ T S => r_ldE (ix := 7) (i := 0) (off := 0) (A := (some ⟨b9, 0, none⟩)) (f := (Value.int .u64)) T S rfl ti34 rfl (0 : Int) _ rfl rfl (Fld.all _) (by decide) (by have q1_ : (0 : Int) < 4 := (by decide); have q2_ := h16; omega) id rfl fun _ T => ⟨rfl, T⟩⟩, ⟨_, _, rfl, (avl [77, 79] rfl), fun _ _ _ T S => r_slQ (xs := x4) T rfl (fun h => by cases h) rfl rfl rfl (Int.le_refl _) h2182.1 h2182.2 (by have := h2182.2; omega) (by omega) tu24 ts5 rfl fun _ T => ⟨rfl, T⟩⟩, ⟨_, _, rfl, (avl [0] rfl), fun _ _ _ T S => v1 T rfl fun T => ⟨rfl, T⟩⟩, ⟨_, _, rfl, (avl [8] rfl), fun _ _ _ T S => r_iaA T rfl rfl tu121 ts34 (by decide) (by decide) rfl fun _ T => ⟨rfl, T⟩⟩, ⟨_, _, rfl, (avl [82] rfl), fun _ _ _ T S => r_ldE (ix := 7) (i := 1) (off := 0) (A := (some ⟨b9, 0, none⟩)) (f := (Value.int .u64)) T S rfl ti34 rfl (0 : Int) _ rfl rfl (Fld.all _) (by decide) (by have q1_ : (1 : Int) < 4 := (by decide); have q2_ := h16; omega) id rfl fun _ T => ⟨rfl, T⟩⟩, ⟨_, _, rfl, (avl [81, 83] rfl), fun _ _ _ T S => r_slQ (xs := x11) T rfl (fun h => by cases h) rfl rfl rfl (Int.le_refl _) h2422.1 h2422.2 (by have := h2422.2; omega) (by omega) tu24 ts5 rfl fun _ T => ⟨rfl, T⟩⟩, trivial⟩ rfl (fun i hi => ?_) (fun h => by cases h)
      cases hi
      refine ⟨rfl, _, _, rfl, (avl [80, 84] rfl), fun u a w T S => ?_⟩
      replace S := S.asVal (i := 1) (xs := (cut x4 (Int.toNat 0) (Int.toNat (gi (0 : Int) x15 0)))) rfl
      replace S := S.asVal (i := 1) (xs := (cut x11 (Int.toNat 0) (Int.toNat (gi (0 : Int) x15 1)))) rfl
      refine r_bsl (κ := (kSl ku8)) (xs := [(cut x4 (Int.toNat 0) (Int.toNat (gi (0 : Int) x15 0))), (cut x11 (Int.toNat 0) (Int.toNat (gi (0 : Int) x15 1)))]) (vs := [(y5 A5 k6 x4 x15), (y6 A12 k13 x11 x15)]) T S sty62 rfl ⟨_, _, rfl, ⟨1, rfl⟩, ⟨_, _, rfl, ⟨0, rfl⟩, rfl⟩⟩ rfl (by decide) rfl fun _ _ b2481 S T => ?_
      replace S : SL ([(y4 b2481 x4 x15 x11), (y3 A12 k13 x11 x15), (y2 A5 k6 x4 x15), sl .ro ku8 A2 k3 x1, sl .ro ku8 A5 k6 x4, sl .ro ku8 A12 k13 x11, blk b7 (y1), blk b8 [.slice none 0 0, (y11 x15), .bool x14, .slice none 0 0], (y9 b9 x15), pr (x15.length = 4)] ++ F) _ := S.only [0, 2, 2, 2, 2, 2, 2, 2, 2, 2] rfl
      refine ⟨_, [some (.slice A5 x4.length k6, true), some ((y13 b9), true), some (.int .u64 (gi (0 : Int) x15 0), true), some ((y5 A5 k6 x4 x15), false), some (.slice A12 x11.length k13, true), some ((y14 b9), true), some (.int .u64 (gi (0 : Int) x15 1), true), some ((y6 A12 k13 x11 x15), false), some (.slice (some ⟨b2481, 0, none⟩) 2 2, false), none, none, none], [(y4 b2481 x4 x15 x11), (y3 A12 k13 x11 x15), (y2 A5 k6 x4 x15), sl .ro ku8 A2 k3 x1, sl .ro ku8 A5 k6 x4, sl .ro ku8 A12 k13 x11, blk b7 (y1), blk b8 [.slice none 0 0, (y11 x15), .bool x14, .slice none 0 0], (y9 b9 x15), pr (x15.length = 4)], rfl, (by repeat first | exact kx0 | apply kxs | apply kxn), rfl, ?_, T, S⟩
      refine stage (some 9) rfl rfl ⟨⟨_, _, rfl, (avl [1] rfl), fun _ _ _ T S => v1 T rfl fun T => ⟨rfl, T⟩⟩, ⟨_, _, rfl, (avl [8] rfl), fun _ _ _ T S => r_iaA T rfl rfl tu121 ts34 (by decide) (by decide) rfl fun _ T => ⟨rfl, T⟩⟩, ⟨_, _, rfl, (avl [78] rfl), fun _ _ _ T S => r_ldE (ix := 8) (i := 0) (off := 0) (A := (some ⟨b9, 0, none⟩)) (f := (Value.int .u64)) T S rfl ti34 rfl (0 : Int) _ rfl rfl (Fld.all _) (by decide) (by have q1_ : (0 : Int) < 4 := (by decide); have q2_ := h16; omega) id rfl fun _ T => ⟨rfl, T⟩⟩, ⟨_, _, rfl, (avl [0] rfl), fun _ _ _ T S => v1 T rfl fun T => ⟨rfl, T⟩⟩, ⟨_, _, rfl, (avl [8] rfl), fun _ _ _ T S => r_iaA T rfl rfl tu121 ts34 (by decide) (by decide) rfl fun _ T => ⟨rfl, T⟩⟩, ⟨_, _, rfl, (avl [82] rfl), fun _ _ _ T S => r_ldE (ix := 8) (i := 1) (off := 0) (A := (some ⟨b9, 0, none⟩)) (f := (Value.int .u64)) T S rfl ti34 rfl (0 : Int) _ rfl rfl (Fld.all _) (by decide) (by have q1_ : (1 : Int) < 4 := (by decide); have q2_ := h16; omega) id rfl fun _ T => ⟨rfl, T⟩⟩, trivial⟩ rfl (fun i hi => ?_) (fun h => by cases h)
      cases hi
      refine ⟨rfl, _, _, rfl, (avl [85] rfl), fun u a w T S => ?_⟩
      obtain ⟨x2542, h2541, H⟩ := bd H
      refine rc T tc58 rfl rfl (slices_Concat_byte.ok _ _ z [(cut x4 (Int.toNat 0) (Int.toNat (gi (0 : Int) x15 0))), (cut x11 (Int.toNat 0) (Int.toNat (gi (0 : Int) x15 1)))] (S.sel (is := [0]) rfl) _ h2541) ?_
      rintro _ _ ⟨A2543, k2544, rfl, S⟩
      refine ⟨_, rfl, fun _ T => ?_⟩
      replace S : SL ([sl .own ku8 A2543 k2544 x2542, (y4 b2481 x4 x15 x11), (y3 A12 k13 x11 x15), (y2 A5 k6 x4 x15), sl .ro ku8 A2 k3 x1, sl .ro ku8 A5 k6 x4, sl .ro ku8 A12 k13 x11, blk b7 (y1), blk b8 [.slice none 0 0, (y11 x15), .bool x14, .slice none 0 0], (y9 b9 x15), pr (x15.length = 4)] ++ F) _ := S.join
      refine ⟨_, [some (.slice A5 x4.length k6, true), some ((y13 b9), true), some (.int .u64 (gi (0 : Int) x15 0), true), some ((y5 A5 k6 x4 x15), false), some (.slice A12 x11.length k13, true), some ((y14 b9), true), some (.int .u64 (gi (0 : Int) x15 1), true), some ((y6 A12 k13 x11 x15), false), some (.slice (some ⟨b2481, 0, none⟩) 2 2, false), some (.slice A2543 x2542.length k2544, false), some (.pointer (some ⟨b8, 0, none⟩), true), none], [sl .own ku8 A2543 k2544 x2542, (y4 b2481 x4 x15 x11), (y3 A12 k13 x11 x15), (y2 A5 k6 x4 x15), sl .ro ku8 A2 k3 x1, sl .ro ku8 A5 k6 x4, sl .ro ku8 A12 k13 x11, blk b7 (y1), blk b8 [.slice none 0 0, (y11 x15), .bool x14, .slice none 0 0], (y9 b9 x15), pr (x15.length = 4)], rfl, (by repeat first | exact kx0 | apply kxs | apply kxn), rfl, ?_, T, S⟩
      refine stage (some 11) rfl rfl ⟨⟨_, _, rfl, (avl [1] rfl), fun _ _ _ T S => v1 T rfl fun T => ⟨rfl, T⟩⟩, ⟨_, _, rfl, (avl [8] rfl), fun _ _ _ T S => r_iaA T rfl rfl tu121 ts34 (by decide) (by decide) rfl fun _ T => ⟨rfl, T⟩⟩, ⟨_, _, rfl, (avl [78] rfl), fun _ _ _ T S => r_ldE (ix := 9) (i := 0) (off := 0) (A := (some ⟨b9, 0, none⟩)) (f := (Value.int .u64)) T S rfl ti34 rfl (0 : Int) _ rfl rfl (Fld.all _) (by decide) (by have q1_ : (0 : Int) < 4 := (by decide); have q2_ := h16; omega) id rfl fun _ T => ⟨rfl, T⟩⟩, ⟨_, _, rfl, (avl [0] rfl), fun _ _ _ T S => v1 T rfl fun T => ⟨rfl, T⟩⟩, ⟨_, _, rfl, (avl [8] rfl), fun _ _ _ T S => r_iaA T rfl rfl tu121 ts34 (by decide) (by decide) rfl fun _ T => ⟨rfl, T⟩⟩, ⟨_, _, rfl, (avl [82] rfl), fun _ _ _ T S => r_ldE (ix := 9) (i := 1) (off := 0) (A := (some ⟨b9, 0, none⟩)) (f := (Value.int .u64)) T S rfl ti34 rfl (0 : Int) _ rfl rfl (Fld.all _) (by decide) (by have q1_ : (1 : Int) < 4 := (by decide); have q2_ := h16; omega) id rfl fun _ T => ⟨rfl, T⟩⟩, ⟨_, _, rfl, (avl [7] rfl), fun _ _ _ T S => r_fa (o' := 0) T rfl tu36 rfl ts24 rfl rfl fun _ T => ⟨rfl, T⟩⟩, trivial⟩ rfl (fun i hi => ?_) (fun h => by cases h)
      cases hi
      refine ⟨rfl, _, _, rfl, (avl [86, 87] rfl), fun u a w T S => ?_⟩
      refine r_stB (ix := 8) T S rfl rfl rfl ts24 rfl (nle rfl) rfl fun _ S => ?_
      refine ⟨_, [some (.slice A5 x4.length k6, false), some ((y13 b9), false), some (.int .u64 (gi (0 : Int) x15 0), false), some ((y5 A5 k6 x4 x15), false), some (.slice A12 x11.length k13, false), some ((y14 b9), false), some (.int .u64 (gi (0 : Int) x15 1), false), some ((y6 A12 k13 x11 x15), false), some (.slice (some ⟨b2481, 0, none⟩) 2 2, false), some (.slice A2543 x2542.length k2544, false), some (.pointer (some ⟨b8, 0, none⟩), false), some (undef, false)], [sl .own ku8 A2543 k2544 x2542, (y4 b2481 x4 x15 x11), (y3 A12 k13 x11 x15), (y2 A5 k6 x4 x15), sl .ro ku8 A2 k3 x1, sl .ro ku8 A5 k6 x4, sl .ro ku8 A12 k13 x11, blk b7 (y1), blk b8 [.slice A2543 x2542.length k2544, (y11 x15), .bool x14, .slice none 0 0], (y9 b9 x15), pr (x15.length = 4)], rfl, (by repeat first | exact kx0 | apply kxs | apply kxn), rfl, ?_, T, S⟩
      refine stage none rfl rfl trivial rfl (fun i hi => by cases hi) (fun _ _ a w T hv hb S => ?_)
      replace T := T.sub (r := [(0, .slice A12 x11.length k13), (y12 b7), (7, .pointer (some ⟨b8, 0, none⟩)), (8, .pointer (some ⟨b9, 0, none⟩))]) ⟨hb 0 _ rfl rfl, hb 4 _ rfl rfl, hb 7 _ rfl rfl, hb 8 _ rfl rfl, trivial⟩
      refine sq (rg (v1 T rfl fun T => r_iaA T rfl rfl tu121 ts34 (by decide) (by decide) rfl fun _ T => ?_))
      refine r_ldE (ix := 9) (i := 1) (off := 0) (A := (some ⟨b9, 0, none⟩)) (f := (Value.int .u64)) T S rfl ti34 rfl (0 : Int) _ rfl rfl (Fld.all _) (by decide) (by have q1_ : (1 : Int) < 4 := (by decide); have q2_ := h16; omega) id rfl fun _ T => ?_
      refine r_slR (ix := 6) (xs := x11) T S rfl rfl (fun h => by cases h) rfl rfl rfl h2422.1 h2422.2 (Int.le_refl _) (by omega) (by omega) tu24 ts5 rfl fun _ A22 S T => ?_
      refine v1 T rfl fun T => sq (rg (v1 T rfl fun T => ?_))
      refine r_iaA T rfl rfl tu121 ts34 (by decide) (by decide) rfl fun _ T => ?_
      refine r_ldE (ix := 10) (i := 3) (off := 0) (A := (some ⟨b9, 0, none⟩)) (f := (Value.int .u64)) T S rfl ti34 rfl (0 : Int) _ rfl rfl (Fld.all _) (by decide) (by have q1_ : (3 : Int) < 4 := (by decide); have q2_ := h16; omega) id rfl fun _ T => ?_
      have h23 := S.len (i := 0) rfl
      obtain ⟨h24, H⟩ := ck H
      refine r_slR (ix := 0) (xs := (cut x11 (Int.toNat (gi (0 : Int) x15 1)) (Int.toNat (x11.length : Int)))) T S rfl rfl (fun h => by cases h) rfl rfl rfl (Int.le_refl _) h24.1 h24.2 (by have := h24.2; omega) (by omega) tu24 ts5 rfl fun _ A25 S T => ?_
      obtain ⟨x27, h26, H⟩ := bd H
      refine rc T tc32 rfl rfl (bytes_Clone.ok _ _ (cut (cut x11 (Int.toNat (gi (0 : Int) x15 1)) (Int.toNat (x11.length : Int))) (Int.toNat 0) (Int.toNat (gi (0 : Int) x15 3))) (S.sel (is := [0]) rfl) _ h26) ?_
      rintro _ _ ⟨A28, k29, rfl, S⟩
      refine ⟨_, rfl, fun _ T => ?_⟩
      replace S : SL ([sl .own ku8 A28 k29 x27, sl .ro ku8 A25 (Int.toNat (((Int.toNat (k13 : Int) - Int.toNat (gi (0 : Int) x15 1)) : Nat) : Int) - Int.toNat 0) (cut (cut x11 (Int.toNat (gi (0 : Int) x15 1)) (Int.toNat (x11.length : Int))) (Int.toNat 0) (Int.toNat (gi (0 : Int) x15 3))), (y10 A22 k13 x15 x11), sl .own ku8 A2543 k2544 x2542, sl .ro ku8 A2 k3 x1, sl .ro ku8 A5 k6 x4, sl .ro ku8 A12 k13 x11, blk b7 (y1), blk b8 [.slice A2543 x2542.length k2544, (y11 x15), .bool x14, .slice none 0 0], (y9 b9 x15), pr (x15.length = 4)] ++ F) _ := S.join.only [0, 0, 0, 0, 3, 3, 3, 3, 3, 3, 3] rfl
      obtain ⟨x31, h30, H⟩ := bd H
      refine rc T tc31 rfl rfl (slices_Clip_byte.ok _ _ x27 (S.sel (is := [0]) rfl) _ h30) ?_
      rintro _ _ ⟨A32, rfl, S⟩
      refine ⟨_, rfl, fun _ T => ?_⟩
      replace S : SL ([sl .own ku8 A32 x31.length x31, sl .ro ku8 A25 (Int.toNat (((Int.toNat (k13 : Int) - Int.toNat (gi (0 : Int) x15 1)) : Nat) : Int) - Int.toNat 0) (cut (cut x11 (Int.toNat (gi (0 : Int) x15 1)) (Int.toNat (x11.length : Int))) (Int.toNat 0) (Int.toNat (gi (0 : Int) x15 3))), (y10 A22 k13 x15 x11), sl .own ku8 A2543 k2544 x2542, sl .ro ku8 A2 k3 x1, sl .ro ku8 A5 k6 x4, sl .ro ku8 A12 k13 x11, blk b7 (y1), blk b8 [.slice A2543 x2542.length k2544, (y11 x15), .bool x14, .slice none 0 0], (y9 b9 x15), pr (x15.length = 4)] ++ F) _ := S.join
      refine r_fa (o' := 3) T rfl tu36 rfl ts24 rfl rfl fun _ T => r_stB (ix := 8) T S rfl rfl rfl ts24 rfl (nle rfl) rfl fun _ S => sq (sq ?_)
      replace S := S.cutR (ix := 2) (i := gi (0 : Int) x15 3) (j := ((cut x11 (Int.toNat (gi (0 : Int) x15 1)) (Int.toNat (x11.length : Int))).length : Int)) (k := (((Int.toNat (k13 : Int) - Int.toNat (gi (0 : Int) x15 1)) : Nat) : Int)) rfl h24.1 h24.2 (Int.le_refl _) (by omega) (by omega)
      refine Gets.drawn (l := [(y8 A22 k13 x15 x11), sl .own ku8 A32 x31.length x31, (y10 A22 k13 x15 x11), sl .own ku8 A2543 k2544 x2542, sl .ro ku8 A2 k3 x1, sl .ro ku8 A5 k6 x4, blk b7 (y1), blk b8 [.slice A2543 x2542.length k2544, (y11 x15), .bool x14, .slice A32 x31.length x31.length], (y9 b9 x15), pr (x15.length = 4)]) (V := [some (.agg #[.slice A2543 x2542.length k2544, (y11 x15), .bool x14, .slice A32 x31.length x31.length], true), some (.slice A22 ((cut x11 (Int.toNat (gi (0 : Int) x15 1)) (Int.toNat (x11.length : Int))).length) (Int.toNat (k13 : Int) - Int.toNat (gi (0 : Int) x15 1)), true), some (.pointer (some (eA (some ⟨b9, 0, none⟩) (Int.toNat 3 * 1))), true), some (.int .u64 (gi (0 : Int) x15 3), true), some ((y0 A22 k13 x15 x11), true), none, none, none]) mixed T (S.only [0, 0, 1, 1, 1, 1, 2, 2, 2, 2] rfl) rfl ?_
      refine stage (some 5) rfl rfl ⟨⟨_, _, rfl, (avl [7] rfl), fun _ _ _ T S => r_ldBA (ix := 7) (ds := [.slice A2543 x2542.length k2544, (y11 x15), .bool x14, .slice A32 x31.length x31.length]) T S rfl ti36 rfl rfl ts36 rfl fun _ T => ⟨rfl, T⟩⟩, ⟨_, _, rfl, (avl [0] rfl), fun _ _ _ T S => v1 T rfl fun T => ⟨rfl, T⟩⟩, ⟨_, _, rfl, (avl [8] rfl), fun _ _ _ T S => r_iaA T rfl rfl tu121 ts34 (by decide) (by decide) rfl fun _ T => ⟨rfl, T⟩⟩, ⟨_, _, rfl, (avl [101] rfl), fun _ _ _ T S => r_ldE (ix := 8) (i := 3) (off := 0) (A := (some ⟨b9, 0, none⟩)) (f := (Value.int .u64)) T S rfl ti34 rfl (0 : Int) _ rfl rfl (Fld.all _) (by decide) (by have q1_ : (3 : Int) < 4 := (by decide); have q2_ := h16; omega) id rfl fun _ T => ⟨rfl, T⟩⟩, ⟨_, _, rfl, (avl [100, 102] rfl), fun _ _ _ T S => r_slQ (xs := (cut x11 (Int.toNat (gi (0 : Int) x15 1)) (Int.toNat (x11.length : Int)))) T rfl (fun h => by cases h) rfl rfl rfl h24.1 h24.2 (Int.le_refl _) (by omega) (by omega) tu24 ts5 rfl fun _ T => ⟨rfl, T⟩⟩, trivial⟩ rfl (fun i hi => ?_) (fun h => by cases h)
      cases hi
      refine ⟨rfl, _, _, rfl, (avl [4, 99] rfl), fun u a w T S => ?_⟩
      refine r_stBA (ix := 6) (vs := [.slice A2543 x2542.length k2544, (y11 x15), .bool x14, .slice A32 x31.length x31.length]) T S rfl rfl rfl rfl (by simp) ts36 (nle rfl) rfl fun _ S => ?_
      refine ⟨_, [some (.agg #[.slice A2543 x2542.length k2544, (y11 x15), .bool x14, .slice A32 x31.length x31.length], false), some (.slice A22 ((cut x11 (Int.toNat (gi (0 : Int) x15 1)) (Int.toNat (x11.length : Int))).length) (Int.toNat (k13 : Int) - Int.toNat (gi (0 : Int) x15 1)), true), some (.pointer (some (eA (some ⟨b9, 0, none⟩) (Int.toNat 3 * 1))), true), some (.int .u64 (gi (0 : Int) x15 3), true), some ((y0 A22 k13 x15 x11), true), some (undef, false), some ((y0 A22 k13 x15 x11), true), some (.bool true, true)], [(y8 A22 k13 x15 x11), sl .own ku8 A32 x31.length x31, (y10 A22 k13 x15 x11), sl .own ku8 A2543 k2544 x2542, sl .ro ku8 A2 k3 x1, sl .ro ku8 A5 k6 x4, blk b7 [.slice A2543 x2542.length k2544, (y11 x15), .bool x14, .slice A32 x31.length x31.length], blk b8 [.slice A2543 x2542.length k2544, (y11 x15), .bool x14, .slice A32 x31.length x31.length], (y9 b9 x15), pr (x15.length = 4)], rfl, (by repeat first | exact kx0 | apply kxs | apply kxn), rfl, ?_, T, S⟩
      refine stage none rfl rfl ⟨⟨_, _, rfl, (avl [0] rfl), fun _ _ _ T S => v1 T rfl fun T => ⟨rfl, T⟩⟩, ⟨_, _, rfl, (avl [8] rfl), fun _ _ _ T S => r_iaA T rfl rfl tu121 ts34 (by decide) (by decide) rfl fun _ T => ⟨rfl, T⟩⟩, ⟨_, _, rfl, (avl [101] rfl), fun _ _ _ T S => r_ldE (ix := 8) (i := 3) (off := 0) (A := (some ⟨b9, 0, none⟩)) (f := (Value.int .u64)) T S rfl ti34 rfl (0 : Int) _ rfl rfl (Fld.all _) (by decide) (by have q1_ : (3 : Int) < 4 := (by decide); have q2_ := h16; omega) id rfl fun _ T => ⟨rfl, T⟩⟩, ⟨_, _, rfl, (avl [100, 102] rfl), fun _ _ _ T S => r_slQ (xs := (cut x11 (Int.toNat (gi (0 : Int) x15 1)) (Int.toNat (x11.length : Int)))) T rfl (fun h => by cases h) rfl rfl rfl h24.1 h24.2 (Int.le_refl _) (by omega) (by omega) tu24 ts5 rfl fun _ T => ⟨rfl, T⟩⟩, ⟨_, _, rfl, (avl [103] rfl), fun _ _ _ T S => v1 T rfl fun T => ⟨rfl, T⟩⟩, ⟨_, [], rfl, trivial, fun _ _ _ T S => v1 T rfl fun T => ⟨rfl, T⟩⟩, trivial⟩ rfl (fun i hi => by cases hi) (fun _ _ a w T hv hb S => ?_)
      replace T := T.sub (r := [(y12 b7), (5, (y0 A22 k13 x15 x11)), (6, .bool true)]) ⟨hb 4 _ rfl rfl, hv 6 _ 5 rfl rfl rfl, hv 7 _ 6 rfl rfl rfl, trivial⟩
      obtain rfl := sj H
      exact rtnM T S tf61 rfl ⟨_, _, rfl, ⟨b7, _, 6, rfl, rfl, .inl ⟨ti36, ts36, rfl⟩⟩, ⟨_, _, rfl, rfl, ⟨_, _, rfl, rfl, rfl⟩⟩⟩ ⟨A2543, k2544, A32, x31.length, (slA A22 (Int.toNat (((Int.toNat (k13 : Int) - Int.toNat (gi (0 : Int) x15 1)) : Nat) : Int)) (Int.toNat (gi (0 : Int) x15 3)) 1), (Int.toNat (((Int.toNat (k13 : Int) - Int.toNat (gi (0 : Int) x15 1)) : Nat) : Int) - Int.toNat (gi (0 : Int) x15 3)), rfl, (S.only [3, 1, 0, 1, 1] rfl)⟩
theorem ok (F : List Atom) (w : World) (z : Nat) (x1 x4 : List Int) {A2 : OA} {k3 : Nat} {A5 : OA} {k6 : Nat} (S : SL ([sl .ro ku8 A2 k3 x1, sl .ro ku8 A5 k6 x4] ++ F) w) (r : aE × (List Int) × Bool) (H : f z x1 x4 = some r) : Calls Try.prog 61 #[.slice A2 x1.length k3, .slice A5 x4.length k6] w (R F x1 A2 k3 x4 A5 k6 r) := by
 refine enter (vs := [.slice A2 x1.length k3, .slice A5 x4.length k6]) tf61 rfl Try.ntmps61 (nle rfl) fun a T => ?_
 refine sq (rg (r_alloc T S zv36 (cs := (y1)) rfl rfl fun _ _ b7 S T => v2 T rfl rfl fun T => Gets.scope (sq (rg (r_alloc T S zv36 (cs := (y1)) rfl rfl fun _ _ b8 S T => sq (rg (r_alloc T S zv121 (cs := [.int .u64 0, .int .u64 0, .int .u64 0, .int .u64 0]) rfl rfl fun _ _ b9 S T => ?_)))))))
 replace S := S.asArr (κ := ku64) (xs := [0, 0, 0, 0]) (i := 0) rfl (fun _ => ⟨_, _, rfl, rfl, ⟨_, _, rfl, rfl, ⟨_, _, rfl, rfl, ⟨_, _, rfl, rfl, rfl⟩⟩⟩⟩) rfl
 have h10 : ([0, 0, 0, 0] : List Int).length = 4 := rfl
 refine sq (sq (rg (v1 T rfl fun T => bq (Gets.loop ?_))))
 replace S := SL.prf h10 S
 replace S := S.dup (i := 4) rfl
 exact L0_ok F r z x1 A2 k3 x4 A5 k6 b7 b8 b9 z A2 x1 k3 0 false [0, 0, 0, 0] _ _ (T.sb rfl) (S.only [5, 5, 0, 3, 2, 1, 0] rfl) H
end s_entry
namespace s_entries
noncomputable def c0 : Code := match Try.f33.body with | some c => c | none => .skip
def R (F : List Atom) (x1 : List Int) (A2 : OA) (k3 : Nat) (m4 : Md) (r : (List aE) × Int × Bool) : Ending → World → Prop := fun e w' => ∃ (A36 : OA), ∃ (k37 : Nat), e = .returned (.tuple #[.slice A36 r.1.length k37, .int .i64 r.2.1, .bool r.2.2]) ∧ SL ([sl .own kaE A36 k37 r.1, sl m4 ku8 A2 k3 x1] ++ F) w'
def J1 (z : Nat) : Option ((List aE) × Int × Bool) := some (([] : List aE), 0, false)
def L0 (z : Nat) (x6 : Int × (List Int) × Int × Int) : Nat → (List Int) → (List aE) → (List Int) → Option ((List aE) × Int × Bool)
 | 0, _, _, _ => none
 | m + 1, x11, x14, x17 => If (decide ((x11.length : Int) > 0)) (Bd (s_entry.f z x11 x17) fun x22 => If (!x22.2.2) (J1 z) (If (decide ((x22.1.Key.length : Int) > 256)) (J1 z) (Ck ((x14.length + [x22.1].length) * 64 ≤ 140737488355328) (L0 z x6 m x22.2.1 (x14 ++ [x22.1]) x22.1.Key)))) (some (x14, x6.2.2.1, true))
def f (z : Nat) (x1 : List Int) : Option ((List aE) × Int × Bool) := Bd (c_TakeFrame.f z x1) fun x6 => If (x6.2.2.2 != 0) (some (([] : List aE), 0, false)) (L0 z x6 z x6.2.1 [] [])
noncomputable def ptJ1 : List Item := [.code (cL (cT (cR (cL (cR (cB (cR (cB (cB (cL (cr 5 c0))))))))))), .code (cR (cT (cR (cL (cR (cB (cR (cB (cB (cL (cr 5 c0))))))))))), .code (cR (cR (cB (cR (cB (cB (cL (cr 5 c0)))))))), .inBlock 1, .inLoop (cB (cB (cL (cr 5 c0)))), .inBlock 0, .code (cr 6 c0)]
noncomputable def ptL0 : List Item := [.code (cB (cB (cL (cr 5 c0)))), .inLoop (cB (cB (cL (cr 5 c0)))), .inBlock 0, .code (cr 6 c0)]
theorem J1_ok (F : List Atom) (r : (List aE) × Int × Bool) (z : Nat) (x1 : List Int) (A2 : OA) (k3 : Nat) (m4 : Md) (a : Act) (w : World) (T : Tm 50 [] a) (S : SL ([sl m4 ku8 A2 k3 x1] ++ F) w) (H : J1 z = some r) : Gets Try.prog 33 ptJ1 a w (R F x1 A2 k3 m4 r) := by
 refine rg (v3 T rfl rfl rfl fun T => ?_)
 replace S := S.nil kaE .own
 obtain rfl := sj H
 exact rtn T tf33 rfl rfl ⟨none, 0, rfl, (S.only [0, 0] rfl)⟩
theorem L0_ok (F : List Atom) (r : (List aE) × Int × Bool) (z : Nat) (x1 : List Int) (A2 : OA) (k3 : Nat) (m4 : Md) (x6 : Int × (List Int) × Int × Int) (m : Nat) : ∀ (A12 : OA) (x11 : List Int) (k13 : Nat) (A15 : OA) (x14 : List aE) (k16 : Nat) (A18 : OA) (x17 : List Int) (k19 : Nat) (a : Act) (w : World), Tm 50 [(6, .slice A12 x11.length k13), (7, .int .i64 x6.2.2.1), (9, .slice A15 x14.length k16), (10, .slice A18 x17.length k19)] a → SL ([sl m4 ku8 A2 k3 x1, sl .ro ku8 A12 k13 x11, sl .own kaE A15 k16 x14, sl .ro ku8 A18 k19 x17] ++ F) w → L0 z x6 m x11 x14 x17 = some r → Gets Try.prog 33 ptL0 a w (R F x1 A2 k3 m4 r) := by
 induction m with
 | zero => intro _ _ _ _ _ _ _ _ _ _ _ _ _ H; cases H
 | succ m ih =>
  intro A12 x11 k13 A15 x14 k16 A18 x17 k19 a w T S H
  refine sq (sq (rg (v1 T rfl fun T => rn T rfl tu24 rfl fun _ T => v1 T rfl fun T => ?_)))
  rcases ifE H with ⟨h20, H⟩ | ⟨h20, H⟩
  ·refine cdT T rfl h20 (sk (bq (sq (rg (v2 T rfl rfl fun T => ?_)))))
   obtain ⟨x22, h21, H⟩ := bd H
   refine rc T Try.call61 rfl rfl (s_entry.ok _ _ z x11 x17 (S.sel (is := [1, 2]) rfl) _ h21) ?_
   rintro _ _ ⟨A23, k24, A25, k26, A27, k28, rfl, S⟩
   refine ⟨_, rfl, fun _ T => ?_⟩
   replace S := S.join
   refine v3 T rfl rfl rfl fun T => v1 T rfl fun T => ?_
   refine r_alloc T S zv36 (cs := [.slice none 0 0, .int .u64 0, .bool false, .slice none 0 0]) rfl rfl fun _ _ b29 S T => r_stBA (ix := 0) (vs := [.slice A23 x22.1.Key.length k24, .int .u64 x22.1.Seq, .bool x22.1.Del, .slice A25 x22.1.Value.length k26]) T S rfl rfl rfl rfl (by simp) ts36 (nle rfl) rfl fun _ S => ?_
   refine v2 T rfl rfl fun T => sq (sq (rg (v3 T rfl rfl rfl fun T => ?_)))
   rcases ifE H with ⟨h30, H⟩ | ⟨h30, H⟩
   ·refine gn T rfl h30 fun T => gn T rfl h30 fun T => gn T rfl h30 fun T => gn T rfl h30 fun T => pT T rfl h30 rfl rfl fun _ T => cdT T rfl rfl (sq ?_)
    exact J1_ok F r z x1 A2 k3 m4 _ _ (T.sub trivial) (S.only [6] rfl) H
   ·refine gy T rfl h30 (r_fa (o' := 0) T rfl tu36 rfl ts24 rfl rfl fun _ T => gy T rfl h30 (lB (ix := 0) T S rfl ti24 rfl rfl rfl fun _ T => gy T rfl h30 (rn T rfl tu24 rfl fun _ T => gy T rfl h30 (v1 T rfl fun T => pF T rfl h30 rfl rfl fun _ T => ?_))))
    rcases ifE H with ⟨h31, H⟩ | ⟨h31, H⟩
    ·refine cdT T rfl h31 (sq ?_)
     exact J1_ok F r z x1 A2 k3 m4 _ _ (T.sub trivial) (S.only [6] rfl) H
    ·refine cdF T rfl h31 (sk (sq (rg (v1 T rfl fun T => r_ldBA (ix := 0) (ds := [.slice A23 x22.1.Key.length k24, .int .u64 x22.1.Seq, .bool x22.1.Del, .slice A25 x22.1.Value.length k26]) T S rfl ti36 rfl rfl ts36 rfl fun _ T => ?_))))
     replace S := S.fixL (i := 1) rfl rfl
     replace S := S.fixL (i := 2) rfl rfl
     replace S : SL ([rp kaE x22.1 [.slice A23 x22.1.Key.length k24, .int .u64 x22.1.Seq, .bool x22.1.Del, .slice A25 x22.1.Value.length k26], blk b29 [.slice A23 x22.1.Key.length k24, .int .u64 x22.1.Seq, .bool x22.1.Del, .slice A25 x22.1.Value.length k26], sl .ro ku8 A23 k24 x22.1.Key, sl .ro ku8 A25 k26 x22.1.Value, sl .ro ku8 A27 k28 x22.2.1, sl .ro ku8 A12 k13 x11, sl .ro ku8 A18 k19 x17, sl m4 ku8 A2 k3 x1, sl .own kaE A15 k16 x14] ++ F) _ := cl_aE (i0 := 1) (i1 := 2) S rfl rfl
     refine r_bsl (κ := kaE) (xs := [x22.1]) (vs := [.agg #[.slice A23 x22.1.Key.length k24, .int .u64 x22.1.Seq, .bool x22.1.Del, .slice A25 x22.1.Value.length k26]]) T S sty22 rfl ⟨_, _, rfl, ⟨0, rfl⟩, rfl⟩ rfl (by decide) rfl fun _ _ b32 S T => ?_
     replace S := S.only [0, 1, 1, 1, 1, 1, 1, 1, 1] rfl
     obtain ⟨h35, H⟩ := ck H
     refine r_app (ix := 8) (iy := 0) (xs := x14) (ys := [x22.1]) T S rfl rfl rfl rfl (by decide) sty22 tu22 (by decide) h35 rfl fun _ _ A33 k34 S T => ?_
     refine v1 T rfl fun T => rg (r_fa (o' := 0) T rfl tu36 rfl ts24 rfl rfl fun _ T => lB (ix := 1) T S rfl ti24 rfl rfl rfl fun _ T => v3 T rfl rfl rfl fun T => Gets.inBlock (Gets.inLoop ?_))
     exact ih A27 x22.2.1 k28 A33 (x14 ++ [x22.1]) k34 A23 x22.1.Key k24 _ _ (T.sb rfl) (S.only [7, 4, 6, 2] rfl) H
  ·refine cdF T rfl h20 (Gets.exit rfl (sq (rg (v3 T rfl rfl rfl fun T => v2 T rfl rfl fun T => ?_))))
   obtain rfl := sj H
   exact rtn T tf33 rfl rfl ⟨A15, k16, rfl, (S.only [2, 0] rfl)⟩
theorem ok (F : List Atom) (w : World) (z : Nat) (x1 : List Int) {A2 : OA} {k3 : Nat} {m4 : Md} (S : SL ([sl m4 ku8 A2 k3 x1] ++ F) w) (r : (List aE) × Int × Bool) (H : f z x1 = some r) : Calls Try.prog 33 #[.slice A2 x1.length k3] w (R F x1 A2 k3 m4 r) := by
 refine enter (vs := [.slice A2 x1.length k3]) tf33 rfl Try.ntmps33 (nle rfl) fun a T => ?_
 refine sq (rg (v3 T rfl rfl rfl fun T => sq (rg (v1 T rfl fun T => ?_))))
 obtain ⟨x6, h5, H⟩ := bd H
 obtain ⟨F7, S, h7⟩ := S.lendM (i := 0) rfl
 refine rc T Try.call35 rfl rfl (c_TakeFrame.ok _ _ z x1 (S.sel (is := [0]) rfl) _ h5) ?_
 rintro _ _ ⟨A8, k9, rfl, S⟩
 refine ⟨_, rfl, fun _ T => ?_⟩
 replace S := h7 (fl := [sl .own ku8 A8 k9 x6.2.1]) (rl := [sl .ro ku8 A2 k3 x1]) ⟨flatI, trivial⟩ S
 refine v3 T rfl rfl rfl fun T => v3 T rfl rfl rfl fun T => v3 T rfl rfl rfl fun T => sq (sq (rg (v2 T rfl rfl fun T => ?_)))
 rcases ifE H with ⟨h10, H⟩ | ⟨h10, H⟩
 ·refine cdT T rfl h10 (sq (rg (v3 T rfl rfl rfl fun T => ?_)))
  replace S := S.nil kaE .own
  obtain rfl := sj H
  exact rtn T tf33 rfl rfl ⟨none, 0, rfl, (S.only [0, 1] rfl)⟩
 ·refine cdF T rfl h10 (sk (sq (rg (v1 T rfl fun T => sq (rg (v1 T rfl fun T => sq (bq (Gets.loop ?_))))))))
  replace S := S.fixL (i := 0) rfl rfl
  replace S := S.nil kaE .own
  replace S := S.nil ku8 .ro
  exact L0_ok F r z x1 A2 k3 m4 x6 z A8 x6.2.1 k9 none [] 0 none [] 0 _ _ (T.sb rfl) (S.only [3, 2, 1, 0] rfl) H
end s_entries
namespace s_low
noncomputable def c0 : Code := match Try.f34.body with | some c => c | none => .skip
def R (F : List Atom) (x1 : List Int) (A2 : OA) (k3 : Nat) (m4 : Md) (r : Int) : Ending → World → Prop := fun e w' => e = .returned (.int .i64 r) ∧ SL ([sl m4 ku8 A2 k3 x1] ++ F) w'
def L0 (z : Nat) (x1 : List Int) : Nat → Int → Int → Option Int
 | 0, _, _ => none
 | m + 1, x5, x6 => If (decide (x6 < (x1.length : Int))) (Ck (0 ≤ x6 ∧ x6 < (x1.length : Int)) (L0 z x1 m (bOr .i64 (sShl .i64 x5 8) (wr .i64 (gi (0 : Int) x1 x6))) (wr .i64 (x6 + 1)))) (some x5)
def f (z : Nat) (x1 : List Int) : Option Int := L0 z x1 z 0 0
noncomputable def ptL0 : List Item := [.code (cB (cB (cR (cL (cR (cR c0)))))), .inLoop (cB (cB (cR (cL (cR (cR c0)))))), .inBlock 0, .code (cr 3 c0)]
theorem L0_ok (F : List Atom) (r : Int) (z : Nat) (x1 : List Int) (A2 : OA) (k3 : Nat) (m4 : Md) (m : Nat) : ∀ (x5 x6 : Int) (a : Act) (w : World), Tm 19 [(3, .int .i64 x5), (6, .slice A2 x1.length k3), (7, .int .i64 (x1.length : Int)), (8, .int .i64 x6)] a → SL ([sl m4 ku8 A2 k3 x1] ++ F) w → L0 z x1 m x5 x6 = some r → Gets Try.prog 34 ptL0 a w (R F x1 A2 k3 m4 r) := by
 induction m with
 | zero => intro _ _ _ _ _ _ H; cases H
 | succ m ih =>
  intro x5 x6 a w T S H
  refine sq (rg (v1 T rfl fun T => sq ?_))
  rcases ifE H with ⟨h7, H⟩ | ⟨h7, H⟩
  ·refine cdT T rfl h7 (sk (sq (bq (sq (rg ?_)))))
   obtain ⟨h8, H⟩ := ck H
   refine r_ia (ix := 0) T S rfl rfl rfl rfl tu24 ts5 h8.1 h8.2 rfl fun _ T => r_ldE (ix := 0) (i := x6) (off := 0) (f := (Value.int .u8)) T S rfl ti5 rfl (0 : Int) _ rfl rfl (Fld.all _) h8.1 h8.2 id rfl fun _ T => v1 T rfl fun T => rg ?_
   refine v1 T rfl fun T => r_shl T rfl rfl (by decide) rfl fun _ T => ?_
   refine v1 T rfl fun T => r_conv T rfl tu5 tu3 rfl fun _ T => v2 T rfl rfl fun T => Gets.inBlock (rg (v2 T rfl rfl fun T => Gets.inLoop ?_))
   exact ih (bOr .i64 (sShl .i64 x5 8) (wr .i64 (gi (0 : Int) x1 x6))) (wr .i64 (x6 + 1)) _ _ (T.sb rfl) (S.only [0] rfl) H
  ·refine cdF T rfl h7 (Gets.exit rfl (sq (rg (v2 T rfl rfl fun T => ?_))))
   obtain rfl := sj H
   exact rtn T Try.func34 rfl rfl ⟨rfl, (S.only [0] rfl)⟩
theorem ok (F : List Atom) (w : World) (z : Nat) (x1 : List Int) {A2 : OA} {k3 : Nat} {m4 : Md} (S : SL ([sl m4 ku8 A2 k3 x1] ++ F) w) (r : Int) (H : f z x1 = some r) : Calls Try.prog 34 #[.slice A2 x1.length k3] w (R F x1 A2 k3 m4 r) := by
 refine enter (vs := [.slice A2 x1.length k3]) Try.func34 rfl Try.ntmps34 (nle rfl) fun a T => ?_
 refine sq (rg (v1 T rfl fun T => sq (rg (v1 T rfl fun T => sq (sq (rg (v1 T rfl fun T => rn T rfl tu24 rfl fun _ T => v1 T rfl fun T => bq (Gets.loop ?_))))))))
 exact L0_ok F r z x1 A2 k3 m4 z 0 0 _ _ (T.sb rfl) (S.only [0] rfl) H
end s_low
namespace s_Open
noncomputable def c0 : Code := match Try.f8.body with | some c => c | none => .skip
def R (F : List Atom) (x1 : List Int) (A2 : OA) (k3 : Nat) (r : (Option s_Table) × Int) : Ending → World → Prop := fun e w' => omP r.1 (e = .returned (.tuple #[.pointer none, .int .i64 r.2]) ∧ SL ([sl .own ku8 A2 k3 x1] ++ F) w') (fun y => ∃ (b47 : Nat), ∃ (A48 : OA), ∃ (k49 : Nat), ∃ (A50 : OA), ∃ (k51 : Nat), ∃ (A52 : OA), ∃ (k53 : Nat), e = .returned (.tuple #[.pointer (some ⟨b47, 0, none⟩), .int .i64 r.2]) ∧ SL ([blk b47 [.slice A48 y.b.length k49, .slice A50 y.blocks.length k51, .slice A52 y.filter.length k53, .int .i64 y.count, .int .i64 y.reads], sl .ro ku8 A48 k49 y.b, sl .ro ks_block A50 k51 y.blocks, sl .ro ku8 A52 k53 y.filter, sl .own ku8 A2 k3 x1] ++ F) w')
def J4 (z : Nat) : Option ((Option s_Table) × Int) := some (none, 44)
def J3 (z : Nat) (x1 : List Int) (x11 : (List Int)) (x14 : List s_block) (x17 : List aE) (x20 : Int) : Option ((Option s_Table) × Int) := Ck (0 ≤ wr .i64 ((x1.length : Int) - 40) ∧ wr .i64 ((x1.length : Int) - 40) ≤ (x1.length : Int)) (Ck (28 ≤ ((cut x1 (Int.toNat (wr .i64 ((x1.length : Int) - 40))) (Int.toNat (x1.length : Int))).length : Int)) (Ck (32 ≤ ((cut x1 (Int.toNat (wr .i64 ((x1.length : Int) - 40))) (Int.toNat (x1.length : Int))).length : Int)) (Bd (s_low.f z (cut (cut x1 (Int.toNat (wr .i64 ((x1.length : Int) - 40))) (Int.toNat (x1.length : Int))) (Int.toNat 24) (Int.toNat 28))) fun x3862 => Bd (s_low.f z (cut (cut x1 (Int.toNat (wr .i64 ((x1.length : Int) - 40))) (Int.toNat (x1.length : Int))) (Int.toNat 28) (Int.toNat 32))) fun x4042 => Bd (s_Build.f z x17 x3862 x4042) fun x4102 => If (x4102.2 != 0) (J4 z) (Bd (bytes_Equal.f x4102.1 x1) fun x39 => If (!x39) (J4 z) (Ck (0 ≤ x20 ∧ x20 ≤ (x1.length : Int)) (Bd (c_TakeFrame.f z (cut x1 (Int.toNat x20) (Int.toNat (x1.length : Int)))) fun x43 => some ((some (s_Table.mk x11 x14 x43.2.1 (x17.length : Int) 0)), 0)))))))
def J2 (z : Nat) : Option ((Option s_Table) × Int) := some (none, 44)
def L1 (z : Nat) (x1 : List Int) (x11 : (List Int)) : Nat → (List aE) → Int → (List s_block) → Option ((Option s_Table) × Int)
 | 0, _, _, _ => none
 | m + 1, x17, x20, x14 => If (decide (x20 < (x1.length : Int))) (Ck (0 ≤ x20 ∧ x20 < (x1.length : Int)) (If ((gi (0 : Int) x1 x20) == 68) (Ck (x20 ≤ (x1.length : Int)) (Bd (s_entries.f z (cut x1 (Int.toNat x20) (Int.toNat (x1.length : Int)))) fun x27 => If (!x27.2.2) (J2 z) (If ((x27.1.length : Int) == 0) (J2 z) (Ck (0 < (x27.1.length : Int)) (Ck (0 ≤ wr .i64 ((x27.1.length : Int) - 1) ∧ wr .i64 ((x27.1.length : Int) - 1) < (x27.1.length : Int)) (Ck ((x14.length + [(s_block.mk x20 (wr .i64 (x20 + x27.2.1)) (x27.1.length : Int) ((gi daE x27.1 0).Key) ((gi daE x27.1 (wr .i64 ((x27.1.length : Int) - 1))).Key))].length) * 72 ≤ 140737488355328) (Ck ((x17.length + x27.1.length) * 64 ≤ 140737488355328) (L1 z x1 x11 m (x17 ++ x27.1) (wr .i64 (x20 + x27.2.1)) (x14 ++ [(s_block.mk x20 (wr .i64 (x20 + x27.2.1)) (x27.1.length : Int) ((gi daE x27.1 0).Key) ((gi daE x27.1 (wr .i64 ((x27.1.length : Int) - 1))).Key))]))))))))) (J3 z x1 x11 x14 x17 x20))) (J3 z x1 x11 x14 x17 x20)
def J0 (z : Nat) : Option ((Option s_Table) × Int) := some (none, 44)
def f (z : Nat) (x1 : List Int) : Option ((Option s_Table) × Int) := If (decide ((x1.length : Int) < 40)) (J0 z) (If (decide ((x1.length : Int) > 4194304)) (J0 z) (Bd (bytes_Clone.f x1) fun x7 => Bd (slices_Clip_byte.f x7) fun x11 => L1 z x1 x11 z [] 0 []))
noncomputable def ptJ4 : List Item := [.code (cL (cT (cR (cL (cr 8 c0))))), .code (cR (cT (cR (cL (cr 8 c0))))), .code (cr 9 c0)]
noncomputable def ptJ3 : List Item := [.code (cL (cr 6 c0)), .code (cr 7 c0)]
noncomputable def ptJ2 : List Item := [.code (cL (cT (cR (cL (cR (cB (cR (cB (cB (cL (cr 5 c0))))))))))), .code (cR (cT (cR (cL (cR (cB (cR (cB (cB (cL (cr 5 c0))))))))))), .code (cR (cR (cB (cR (cB (cB (cL (cr 5 c0)))))))), .inBlock 1, .inLoop (cB (cB (cL (cr 5 c0)))), .inBlock 0, .code (cr 6 c0)]
noncomputable def ptL1 : List Item := [.code (cB (cB (cL (cr 5 c0)))), .inLoop (cB (cB (cL (cr 5 c0)))), .inBlock 0, .code (cr 6 c0)]
noncomputable def ptJ0 : List Item := [.code (cL (cT (cR (cL (cR c0))))), .code (cR (cT (cR (cL (cR c0))))), .code (cR (cR c0))]
abbrev y0 (A2 : OA) (k3 : Nat) (x1 : List Int) : Option (Value × Bool) := some (.slice (slA A2 (Int.toNat (k3 : Int)) (Int.toNat (wr .i64 ((x1.length : Int) - 40))) 1) ((cut x1 (Int.toNat (wr .i64 ((x1.length : Int) - 40))) (Int.toNat (x1.length : Int))).length) (Int.toNat (k3 : Int) - Int.toNat (wr .i64 ((x1.length : Int) - 40))), true)
abbrev y1 (x20 : Int) (x27 : (List aE) × Int × Bool) : s_block := (s_block.mk x20 (wr .i64 (x20 + x27.2.1)) (x27.1.length : Int) ((gi daE x27.1 0).Key) ((gi daE x27.1 (wr .i64 ((x27.1.length : Int) - 1))).Key))
abbrev y2 (A2 : OA) (k3 : Nat) (x1 : List Int) : Value := .slice (slA (slA A2 (Int.toNat (k3 : Int)) (Int.toNat (wr .i64 ((x1.length : Int) - 40))) 1) (Int.toNat (((Int.toNat (k3 : Int) - Int.toNat (wr .i64 ((x1.length : Int) - 40))) : Nat) : Int)) (Int.toNat 24) 1) ((cut (cut x1 (Int.toNat (wr .i64 ((x1.length : Int) - 40))) (Int.toNat (x1.length : Int))) (Int.toNat 24) (Int.toNat 28)).length) (Int.toNat (((Int.toNat (k3 : Int) - Int.toNat (wr .i64 ((x1.length : Int) - 40))) : Nat) : Int) - Int.toNat 24)
abbrev y3 (A2 : OA) (k3 : Nat) (x1 : List Int) : Value := .slice (slA (slA A2 (Int.toNat (k3 : Int)) (Int.toNat (wr .i64 ((x1.length : Int) - 40))) 1) (Int.toNat (((Int.toNat (k3 : Int) - Int.toNat (wr .i64 ((x1.length : Int) - 40))) : Nat) : Int)) (Int.toNat 28) 1) ((cut (cut x1 (Int.toNat (wr .i64 ((x1.length : Int) - 40))) (Int.toNat (x1.length : Int))) (Int.toNat 28) (Int.toNat 32)).length) (Int.toNat (((Int.toNat (k3 : Int) - Int.toNat (wr .i64 ((x1.length : Int) - 40))) : Nat) : Int) - Int.toNat 28)
abbrev y4 (A3261 : OA) (x27 : (List aE) × Int × Bool) (k3262 : Nat) : Value := .slice A3261 (((gi daE x27.1 (wr .i64 ((x27.1.length : Int) - 1))).Key).length) k3262
abbrev y5 (A2841 : OA) (x27 : (List aE) × Int × Bool) (k2842 : Nat) : Value := .slice A2841 (((gi daE x27.1 0).Key).length) k2842
abbrev y6 (b13 : Nat) : Value := .pointer (some ⟨b13, 0, none⟩)
abbrev y7 (x27 : (List aE) × Int × Bool) : Value := .int .i64 (x27.1.length : Int)
abbrev y8 (A12 : OA) (x11 : (List Int)) : Value := .slice A12 x11.length x11.length
abbrev y9 (A2 : OA) (k3 : Nat) (x1 : List Int) : Atom := sl .ro ku8 (slA A2 (Int.toNat (k3 : Int)) (Int.toNat (wr .i64 ((x1.length : Int) - 40))) 1) (Int.toNat (k3 : Int) - Int.toNat (wr .i64 ((x1.length : Int) - 40))) (cut x1 (Int.toNat (wr .i64 ((x1.length : Int) - 40))) (Int.toNat (x1.length : Int)))
abbrev y10 (A3261 : OA) (k3262 : Nat) (x27 : (List aE) × Int × Bool) : Atom := sl .ro ku8 A3261 k3262 ((gi daE x27.1 (wr .i64 ((x27.1.length : Int) - 1))).Key)
abbrev y11 (x20 : Int) (x27 : (List aE) × Int × Bool) : Value := .int .i64 (wr .i64 (x20 + x27.2.1))
abbrev y12 (A28 : OA) (x27 : (List aE) × Int × Bool) (k29 : Nat) : Option (Value × Bool) := some (.slice A28 x27.1.length k29, true)
theorem J4_ok (F : List Atom) (r : (Option s_Table) × Int) (z : Nat) (x1 : List Int) (A2 : OA) (k3 : Nat) (a : Act) (w : World) (T : Tm 127 [] a) (S : SL ([sl .own ku8 A2 k3 x1] ++ F) w) (H : J4 z = some r) : Gets Try.prog 8 ptJ4 a w (R F x1 A2 k3 r) := by
 refine rg (v2 T rfl rfl fun T => ?_)
 obtain rfl := sj H
 exact rtn T tf8 rfl rfl ⟨rfl, (S.only [0] rfl)⟩
theorem J3_ok (F : List Atom) (r : (Option s_Table) × Int) (z : Nat) (x1 : List Int) (A2 : OA) (k3 b13 : Nat) (A18 : OA) (x17 : List aE) (k19 : Nat) (x20 : Int) (A12 : OA) (x11 : (List Int)) (A15 : OA) (x14 : List s_block) (k16 : Nat) (a : Act) (w : World) (T : Tm 127 [(0, .slice A2 x1.length k3), (4, (y6 b13)), (5, .slice A18 x17.length k19), (6, .int .i64 x20)] a) (S : SL ([sl .own ku8 A2 k3 x1, blk b13 [(y8 A12 x11), .slice A15 x14.length k16, .slice none 0 0, .int .i64 0, .int .i64 0], sl .own ku8 A12 x11.length x11, sl .own ks_block A15 k16 x14, sl .own kaE A18 k19 x17] ++ F) w) (H : J3 z x1 x11 x14 x17 x20 = some r) : Gets Try.prog 8 ptJ3 a w (R F x1 A2 k3 r) := by
 refine rg (v2 T rfl rfl fun T => rn T rfl tu24 rfl fun _ T => v1 T rfl fun T => ?_)
 have h35 := S.len (i := 0) rfl
 obtain ⟨h36, H⟩ := ck H
 refine r_slQ (xs := x1) T rfl (fun h => by cases h) rfl rfl rfl h36.1 h36.2 (Int.le_refl _) (by omega) (by omega) tu24 ts5 rfl fun _ T => ?_
 refine v1 T rfl fun T => sq ?_
 have h3801 : (cut x1 (Int.toNat (wr .i64 ((x1.length : Int) - 40))) (Int.toNat (x1.length : Int))).length ≤ (Int.toNat (k3 : Int) - Int.toNat (wr .i64 ((x1.length : Int) - 40))) := by rw [cut_len _ _ _ (by omega)]; omega
 obtain ⟨h3802, H⟩ := ck H
 obtain ⟨h3981, H⟩ := ck H
 refine Gets.drawn (l := [sl .own ku8 A2 k3 x1, blk b13 [(y8 A12 x11), .slice A15 x14.length k16, .slice none 0 0, .int .i64 0, .int .i64 0], sl .own ku8 A12 x11.length x11, sl .own ks_block A15 k16 x14, sl .own kaE A18 k19 x17]) (V := [some (.slice A18 x17.length k19, true), (y0 A2 k3 x1), some ((y2 A2 k3 x1), true), none, (y0 A2 k3 x1), some ((y3 A2 k3 x1), true), none, none, none, none, none, none, none]) mixed T S rfl ?_
 refine stage (some 3) rfl rfl ⟨⟨_, _, rfl, (avl [5] rfl), fun _ _ _ T S => v1 T rfl fun T => ⟨rfl, T⟩⟩, ⟨_, _, rfl, (avl [10] rfl), fun _ _ _ T S => v1 T rfl fun T => ⟨rfl, T⟩⟩, ⟨_, _, rfl, (avl [92] rfl), fun _ _ _ T S => r_slQ (xs := (cut x1 (Int.toNat (wr .i64 ((x1.length : Int) - 40))) (Int.toNat (x1.length : Int)))) T rfl (fun h => by cases h) rfl rfl rfl (by decide) (by decide) h3802 (by have := h3802; omega) (by omega) tu24 ts5 rfl fun _ T => ⟨rfl, T⟩⟩, ⟨_, _, rfl, (avl [10] rfl), fun _ _ _ T S => v1 T rfl fun T => ⟨rfl, T⟩⟩, ⟨_, _, rfl, (avl [95] rfl), fun _ _ _ T S => r_slQ (xs := (cut x1 (Int.toNat (wr .i64 ((x1.length : Int) - 40))) (Int.toNat (x1.length : Int)))) T rfl (fun h => by cases h) rfl rfl rfl (by decide) (by decide) h3981 (by have := h3981; omega) (by omega) tu24 ts5 rfl fun _ T => ⟨rfl, T⟩⟩, trivial⟩ rfl (fun i hi => ?_) (fun h => by cases h)
 cases hi
 refine ⟨rfl, _, _, rfl, (avl [93] rfl), fun u a w T S => ?_⟩
 obtain ⟨x3862, h3861, H⟩ := bd H
 obtain ⟨F3863, S, h3863⟩ := S.lendM (i := 0) rfl
 replace S := S.cutR (ix := 0) (i := wr .i64 ((x1.length : Int) - 40)) (j := (x1.length : Int)) (k := (k3 : Int)) rfl h36.1 h36.2 (Int.le_refl _) (by omega) (by omega)
 replace S := S.cutR (ix := 0) (i := 24) (j := 28) (k := (((Int.toNat (k3 : Int) - Int.toNat (wr .i64 ((x1.length : Int) - 40))) : Nat) : Int)) rfl (by decide) (by decide) h3802 (by have := h3802; omega) (by omega)
 refine rc T Try.call34 rfl rfl (s_low.ok _ _ z (cut (cut x1 (Int.toNat (wr .i64 ((x1.length : Int) - 40))) (Int.toNat (x1.length : Int))) (Int.toNat 24) (Int.toNat 28)) (S.sel (is := [0]) rfl) _ h3861) ?_
 rintro _ _ ⟨rfl, S⟩
 refine ⟨_, rfl, fun _ T => ?_⟩
 replace S := h3863 (fl := []) (rl := [sl .ro ku8 (slA (slA A2 (Int.toNat (k3 : Int)) (Int.toNat (wr .i64 ((x1.length : Int) - 40))) 1) (Int.toNat (((Int.toNat (k3 : Int) - Int.toNat (wr .i64 ((x1.length : Int) - 40))) : Nat) : Int)) (Int.toNat 24) 1) (Int.toNat (((Int.toNat (k3 : Int) - Int.toNat (wr .i64 ((x1.length : Int) - 40))) : Nat) : Int) - Int.toNat 24) (cut (cut x1 (Int.toNat (wr .i64 ((x1.length : Int) - 40))) (Int.toNat (x1.length : Int))) (Int.toNat 24) (Int.toNat 28)), (y9 A2 k3 x1), sl .ro ku8 A2 k3 x1]) trivial S
 refine ⟨_, [some (.slice A18 x17.length k19, true), (y0 A2 k3 x1), some ((y2 A2 k3 x1), false), some (.int .i64 x3862, false), (y0 A2 k3 x1), some ((y3 A2 k3 x1), true), none, none, none, none, none, none, none], [sl .own ku8 A2 k3 x1, blk b13 [(y8 A12 x11), .slice A15 x14.length k16, .slice none 0 0, .int .i64 0, .int .i64 0], sl .own ku8 A12 x11.length x11, sl .own ks_block A15 k16 x14, sl .own kaE A18 k19 x17], rfl, (by repeat first | exact kx0 | apply kxs | apply kxn), rfl, ?_, T, S⟩
 refine stage (some 6) rfl rfl ⟨⟨_, _, rfl, (avl [5] rfl), fun _ _ _ T S => v1 T rfl fun T => ⟨rfl, T⟩⟩, ⟨_, _, rfl, (avl [10] rfl), fun _ _ _ T S => v1 T rfl fun T => ⟨rfl, T⟩⟩, ⟨_, _, rfl, (avl [10] rfl), fun _ _ _ T S => v1 T rfl fun T => ⟨rfl, T⟩⟩, ⟨_, _, rfl, (avl [95] rfl), fun _ _ _ T S => r_slQ (xs := (cut x1 (Int.toNat (wr .i64 ((x1.length : Int) - 40))) (Int.toNat (x1.length : Int)))) T rfl (fun h => by cases h) rfl rfl rfl (by decide) (by decide) h3981 (by have := h3981; omega) (by omega) tu24 ts5 rfl fun _ T => ⟨rfl, T⟩⟩, trivial⟩ rfl (fun i hi => ?_) (fun h => by cases h)
 cases hi
 refine ⟨rfl, _, _, rfl, (avl [96] rfl), fun u a w T S => ?_⟩
 obtain ⟨x4042, h4041, H⟩ := bd H
 obtain ⟨F4043, S, h4043⟩ := S.lendM (i := 0) rfl
 replace S := S.cutR (ix := 0) (i := wr .i64 ((x1.length : Int) - 40)) (j := (x1.length : Int)) (k := (k3 : Int)) rfl h36.1 h36.2 (Int.le_refl _) (by omega) (by omega)
 replace S := S.cutR (ix := 0) (i := 28) (j := 32) (k := (((Int.toNat (k3 : Int) - Int.toNat (wr .i64 ((x1.length : Int) - 40))) : Nat) : Int)) rfl (by decide) (by decide) h3981 (by have := h3981; omega) (by omega)
 refine rc T Try.call34 rfl rfl (s_low.ok _ _ z (cut (cut x1 (Int.toNat (wr .i64 ((x1.length : Int) - 40))) (Int.toNat (x1.length : Int))) (Int.toNat 28) (Int.toNat 32)) (S.sel (is := [0]) rfl) _ h4041) ?_
 rintro _ _ ⟨rfl, S⟩
 refine ⟨_, rfl, fun _ T => ?_⟩
 replace S := h4043 (fl := []) (rl := [sl .ro ku8 (slA (slA A2 (Int.toNat (k3 : Int)) (Int.toNat (wr .i64 ((x1.length : Int) - 40))) 1) (Int.toNat (((Int.toNat (k3 : Int) - Int.toNat (wr .i64 ((x1.length : Int) - 40))) : Nat) : Int)) (Int.toNat 28) 1) (Int.toNat (((Int.toNat (k3 : Int) - Int.toNat (wr .i64 ((x1.length : Int) - 40))) : Nat) : Int) - Int.toNat 28) (cut (cut x1 (Int.toNat (wr .i64 ((x1.length : Int) - 40))) (Int.toNat (x1.length : Int))) (Int.toNat 28) (Int.toNat 32)), (y9 A2 k3 x1), sl .ro ku8 A2 k3 x1]) trivial S
 refine ⟨_, [some (.slice A18 x17.length k19, true), (y0 A2 k3 x1), some ((y2 A2 k3 x1), false), some (.int .i64 x3862, false), (y0 A2 k3 x1), some ((y3 A2 k3 x1), false), some (.int .i64 x4042, false), none, none, none, none, none, none], [sl .own ku8 A2 k3 x1, blk b13 [(y8 A12 x11), .slice A15 x14.length k16, .slice none 0 0, .int .i64 0, .int .i64 0], sl .own ku8 A12 x11.length x11, sl .own ks_block A15 k16 x14, sl .own kaE A18 k19 x17], rfl, (by repeat first | exact kx0 | apply kxs | apply kxn), rfl, ?_, T, S⟩
 refine stage (some 7) rfl rfl ⟨⟨_, _, rfl, (avl [5] rfl), fun _ _ _ T S => v1 T rfl fun T => ⟨rfl, T⟩⟩, ⟨_, _, rfl, (avl [10] rfl), fun _ _ _ T S => v1 T rfl fun T => ⟨rfl, T⟩⟩, ⟨_, _, rfl, (avl [10] rfl), fun _ _ _ T S => v1 T rfl fun T => ⟨rfl, T⟩⟩, trivial⟩ rfl (fun i hi => ?_) (fun h => by cases h)
 cases hi
 refine ⟨rfl, _, _, rfl, (avl [91, 94, 97] rfl), fun u a w T S => ?_⟩
 replace S := S.fixL (i := 4) rfl rfl
 obtain ⟨x4102, h4101, H⟩ := bd H
 refine rc T Try.call7 rfl rfl (s_Build.ok _ _ z x17 x3862 x4042 (S.sel (is := [4]) rfl) _ h4101) ?_
 rintro _ _ ⟨A4103, k4104, rfl, S⟩
 refine ⟨_, rfl, fun _ T => ?_⟩
 replace S := S.join
 refine ⟨_, [some (.slice A18 x17.length k19, false), (y0 A2 k3 x1), some ((y2 A2 k3 x1), false), some (.int .i64 x3862, false), (y0 A2 k3 x1), some ((y3 A2 k3 x1), false), some (.int .i64 x4042, false), some (.tuple #[.slice A4103 x4102.1.length k4104, .int .i64 x4102.2], false), some (.tuple #[.slice A4103 x4102.1.length k4104, .int .i64 x4102.2], true), some (.slice A4103 x4102.1.length k4104, true), some (.int .i64 x4102.2, true), some (.slice A4103 x4102.1.length k4104, true), some (.int .i64 x4102.2, true)], [sl .own ku8 A4103 k4104 x4102.1, sl .ro kaE A18 k19 x17, sl .own ku8 A2 k3 x1, blk b13 [(y8 A12 x11), .slice A15 x14.length k16, .slice none 0 0, .int .i64 0, .int .i64 0], sl .own ku8 A12 x11.length x11, sl .own ks_block A15 k16 x14], rfl, (by repeat first | exact kx0 | apply kxs | apply kxn), rfl, ?_, T, S⟩
 refine stage none rfl rfl ⟨⟨_, _, rfl, (avl [10] rfl), fun _ _ _ T S => v1 T rfl fun T => ⟨rfl, T⟩⟩, ⟨_, _, rfl, (avl [10] rfl), fun _ _ _ T S => v1 T rfl fun T => ⟨rfl, T⟩⟩, ⟨_, _, rfl, (avl [98] rfl), fun _ _ _ T S => v1 T rfl fun T => ⟨rfl, T⟩⟩, ⟨_, _, rfl, (avl [90] rfl), fun _ _ _ T S => v1 T rfl fun T => ⟨rfl, T⟩⟩, ⟨_, _, rfl, (avl [90] rfl), fun _ _ _ T S => v1 T rfl fun T => ⟨rfl, T⟩⟩, ⟨_, _, rfl, (avl [99] rfl), fun _ _ _ T S => v1 T rfl fun T => ⟨rfl, T⟩⟩, ⟨_, _, rfl, (avl [100] rfl), fun _ _ _ T S => v1 T rfl fun T => ⟨rfl, T⟩⟩, trivial⟩ rfl (fun i hi => by cases hi) (fun _ _ a w T hv hb S => ?_)
 replace T := T.sub (r := [(0, .slice A2 x1.length k3), (4, (y6 b13)), (5, .slice A18 x17.length k19), (6, .int .i64 x20), (11, .slice A4103 x4102.1.length k4104), (12, .int .i64 x4102.2)]) ⟨hb 0 _ rfl rfl, hb 4 _ rfl rfl, hb 5 _ rfl rfl, hb 6 _ rfl rfl, hv 11 _ 11 rfl rfl rfl, hv 12 _ 12 rfl rfl rfl, trivial⟩
 refine sq (sq (rg (v3 T rfl rfl rfl fun T => ?_)))
 rcases ifE H with ⟨h37, H⟩ | ⟨h37, H⟩
 ·refine gn T rfl h37 fun T => gn T rfl h37 fun T => gn T rfl h37 fun T => gn T rfl h37 fun T => pT T rfl h37 rfl rfl fun _ T => cdT T rfl rfl (sq ?_)
  exact J4_ok F r z x1 A2 k3 _ _ (T.sub trivial) (S.only [2] rfl) H
 ·refine gy T rfl h37 (v1 T rfl fun T => gy T rfl h37 (v1 T rfl fun T => gy T rfl h37 ?_))
  obtain ⟨x39, h38, H⟩ := bd H
  refine rc T tc28 rfl rfl (bytes_Equal.ok _ _ x4102.1 x1 (S.sel (is := [0, 1]) rfl) _ h38) ?_
  rintro _ _ ⟨rfl, S⟩
  refine ⟨_, rfl, fun _ T => ?_⟩
  replace S := S.join
  refine gy T rfl h37 (v1 T rfl fun T => pF T rfl h37 rfl rfl fun _ T => ?_)
  rcases ifE H with ⟨h40, H⟩ | ⟨h40, H⟩
  ·refine cdT T rfl h40 (sq ?_)
   exact J4_ok F r z x1 A2 k3 _ _ (T.sub trivial) (S.only [1] rfl) H
  ·refine cdF T rfl h40 (sk (sq (rg (v3 T rfl rfl rfl fun T => ?_))))
   obtain ⟨h41, H⟩ := ck H
   refine r_slQ (xs := x1) T rfl (fun h => by cases h) rfl rfl rfl h41.1 h41.2 (Int.le_refl _) (by omega) (by omega) tu24 ts5 rfl fun _ T => ?_
   obtain ⟨x43, h42, H⟩ := bd H
   obtain ⟨F44, S, h44⟩ := S.lendM (i := 1) rfl
   replace S := S.cutR (ix := 0) (i := x20) (j := (x1.length : Int)) (k := (k3 : Int)) rfl h41.1 h41.2 (Int.le_refl _) (by omega) (by omega)
   refine rc T Try.call35 rfl rfl (c_TakeFrame.ok _ _ z (cut x1 (Int.toNat x20) (Int.toNat (x1.length : Int))) (S.sel (is := [0]) rfl) _ h42) ?_
   rintro _ _ ⟨A45, k46, rfl, S⟩
   refine ⟨_, rfl, fun _ T => ?_⟩
   replace S := h44 (fl := [sl .own ku8 A45 k46 x43.2.1]) (rl := [sl .ro ku8 (slA A2 (Int.toNat (k3 : Int)) (Int.toNat x20) 1) (Int.toNat (k3 : Int) - Int.toNat x20) (cut x1 (Int.toNat x20) (Int.toNat (x1.length : Int))), sl .ro ku8 A2 k3 x1]) ⟨flatI, trivial⟩ S
   refine v3 T rfl rfl rfl fun T => v3 T rfl rfl rfl fun T => r_fa (o' := 2) T rfl tu69 rfl ts24 rfl rfl fun _ T => r_stB (ix := 4) T S rfl rfl rfl ts24 rfl (nle rfl) rfl fun _ S => sq (rg (v2 T rfl rfl fun T => rn T rfl tu22 rfl fun _ T => v1 T rfl fun T => r_fa (o' := 3) T rfl tu69 rfl ts3 rfl rfl fun _ T => r_stB (ix := 4) T S rfl rfl rfl ts3 rfl (nle rfl) rfl fun _ S => sq (rg (v3 T rfl rfl rfl fun T => ?_))))
   replace S := S.fixL (i := 5) rfl rfl
   replace S := S.fixL (i := 6) rfl rfl
   replace S := S.fixL (i := 0) rfl rfl
   obtain rfl := sj H
   exact rtn T tf8 rfl rfl ⟨b13, A12, x11.length, A15, k16, A45, k46, rfl, (S.only [4, 4, 4, 0, 0] rfl)⟩
theorem J2_ok (F : List Atom) (r : (Option s_Table) × Int) (z : Nat) (x1 : List Int) (A2 : OA) (k3 : Nat) (a : Act) (w : World) (T : Tm 127 [] a) (S : SL ([sl .own ku8 A2 k3 x1] ++ F) w) (H : J2 z = some r) : Gets Try.prog 8 ptJ2 a w (R F x1 A2 k3 r) := by
 refine rg (v2 T rfl rfl fun T => ?_)
 obtain rfl := sj H
 exact rtn T tf8 rfl rfl ⟨rfl, (S.only [0] rfl)⟩
theorem L1_ok (F : List Atom) (r : (Option s_Table) × Int) (z : Nat) (x1 : List Int) (A2 : OA) (k3 b13 : Nat) (A12 : OA) (x11 : (List Int)) (m : Nat) : ∀ (A18 : OA) (x17 : List aE) (k19 : Nat) (x20 : Int) (A15 : OA) (x14 : List s_block) (k16 : Nat) (a : Act) (w : World), Tm 127 [(0, .slice A2 x1.length k3), (4, (y6 b13)), (5, .slice A18 x17.length k19), (6, .int .i64 x20)] a → SL ([sl .own ku8 A2 k3 x1, blk b13 [(y8 A12 x11), .slice A15 x14.length k16, .slice none 0 0, .int .i64 0, .int .i64 0], sl .own ku8 A12 x11.length x11, sl .own ks_block A15 k16 x14, sl .own kaE A18 k19 x17] ++ F) w → L1 z x1 x11 m x17 x20 x14 = some r → Gets Try.prog 8 ptL1 a w (R F x1 A2 k3 r) := by
 induction m with
 | zero => intro _ _ _ _ _ _ _ _ _ _ _ H; cases H
 | succ m ih =>
  intro A18 x17 k19 x20 A15 x14 k16 a w T S H
  refine sq (sq (rg (v2 T rfl rfl fun T => rn T rfl tu24 rfl fun _ T => v2 T rfl rfl fun T => ?_)))
  rcases ifE H with ⟨h21, H⟩ | ⟨h21, H⟩
  ·refine gy T rfl h21 (v1 T rfl fun T => gy T rfl h21 (v1 T rfl fun T => gy T rfl h21 ?_))
   obtain ⟨h22, H⟩ := ck H
   refine r_ia (ix := 0) T S rfl rfl rfl rfl tu24 ts5 h22.1 h22.2 rfl fun _ T => gy T rfl h21 (r_ldE (ix := 0) (i := x20) (off := 0) (f := (Value.int .u8)) T S rfl ti5 rfl (0 : Int) _ rfl rfl (Fld.all _) h22.1 h22.2 id rfl fun _ T => gy T rfl h21 (v1 T rfl fun T => pT T rfl h21 rfl rfl fun _ T => ?_))
   rcases ifE H with ⟨h23, H⟩ | ⟨h23, H⟩
   ·refine cdT T rfl h23 (sk (bq (sq (rg (v2 T rfl rfl fun T => ?_)))))
    have h24 := S.len (i := 0) rfl
    obtain ⟨h25, H⟩ := ck H
    refine r_slQ (xs := x1) T rfl (fun h => by cases h) rfl rfl rfl h22.1 h25 (Int.le_refl _) (by omega) (by omega) tu24 ts5 rfl fun _ T => ?_
    replace S := S.focus (ix := 0) (i := x20) (j := (x1.length : Int)) (k := (k3 : Int)) rfl h22.1 h25 (Int.le_refl _) (by omega) (by omega)
    obtain ⟨x27, h26, H⟩ := bd H
    refine rc T Try.call33 rfl rfl (s_entries.ok _ _ z (cut x1 (Int.toNat x20) (Int.toNat (x1.length : Int))) (S.sel (is := [0]) rfl) _ h26) ?_
    rintro _ _ ⟨A28, k29, rfl, S⟩
    refine ⟨_, rfl, fun _ T => ?_⟩
    replace S := S.join
    replace S := S.unfocus (ix := 1) rfl
    refine v3 T rfl rfl rfl fun T => v3 T rfl rfl rfl fun T => v1 T rfl fun T => sq (sq (rg (v3 T rfl rfl rfl fun T => ?_)))
    rcases ifE H with ⟨h30, H⟩ | ⟨h30, H⟩
    ·refine gn T rfl h30 fun T => gn T rfl h30 fun T => gn T rfl h30 fun T => pT T rfl h30 rfl rfl fun _ T => cdT T rfl rfl (sq ?_)
     exact J2_ok F r z x1 A2 k3 _ _ (T.sub trivial) (S.only [1] rfl) H
    ·refine gy T rfl h30 (v1 T rfl fun T => gy T rfl h30 (rn T rfl tu22 rfl fun _ T => gy T rfl h30 (v1 T rfl fun T => pF T rfl h30 rfl rfl fun _ T => ?_)))
     rcases ifE H with ⟨h31, H⟩ | ⟨h31, H⟩
     ·refine cdT T rfl h31 (sq ?_)
      exact J2_ok F r z x1 A2 k3 _ _ (T.sub trivial) (S.only [1] rfl) H
     ·refine cdF T rfl h31 (sk (sq ?_))
      obtain ⟨h2721, H⟩ := ck H
      replace S := S.fixL (i := 0) rfl rfl
      obtain ⟨_, S⟩ := S.peek1 (ix := 0) (off := 0) (i := 0) rfl daE fld_aE_Key (by decide) h2721 rfl
      obtain ⟨A2841, k2842, hv_, S_⟩ := SL.ofVal (l := _ :: _) S
      subst hv_
      replace S := S_
      obtain ⟨h3141, H⟩ := ck H
      obtain ⟨_, S⟩ := S.peek1 (ix := 2) (off := 0) (i := wr .i64 ((x27.1.length : Int) - 1)) rfl daE fld_aE_Key h3141.1 h3141.2 rfl
      obtain ⟨A3261, k3262, hv_, S_⟩ := SL.ofVal (l := _ :: _) S
      subst hv_
      replace S := S_
      refine Gets.drawn (l := [(y10 A3261 k3262 x27), cl A28 (Int.toNat (wr .i64 ((x27.1.length : Int) - 1)) * 4 + 0) [(y4 A3261 x27 k3262)], sl .ro ku8 A2841 k2842 ((gi daE x27.1 0).Key), cl A28 (Int.toNat 0 * 4 + 0) [(y5 A2841 x27 k2842)], sl .ro kaE A28 k29 x27.1, sl .own ku8 A2 k3 x1, blk b13 [(y8 A12 x11), .slice A15 x14.length k16, .slice none 0 0, .int .i64 0, .int .i64 0], sl .own ku8 A12 x11.length x11, sl .own ks_block A15 k16 x14, sl .own kaE A18 k19 x17]) (V := [some ((y6 b13), true), some ((y6 b13), true), some ((y6 b13), true), some (.pointer (some ⟨b13, 1, none⟩), true), some (.slice A15 x14.length k16, true), some (.int .i64 x20, true), some (.int .i64 x20, true), some (.int .i64 x27.2.1, true), some ((y11 x20 x27), true), (y12 A28 x27 k29), some ((y7 x27), true), (y12 A28 x27 k29), some (.pointer (some (eA A28 (Int.toNat 0 * 4))), true), some (.pointer (some (eA A28 (Int.toNat 0 * 4 + 0))), true), some ((y5 A2841 x27 k2842), true), (y12 A28 x27 k29), (y12 A28 x27 k29), some ((y7 x27), true), some (.int .i64 (wr .i64 ((x27.1.length : Int) - 1)), true), some (.pointer (some (eA A28 (Int.toNat (wr .i64 ((x27.1.length : Int) - 1)) * 4))), true), some (.pointer (some (eA A28 (Int.toNat (wr .i64 ((x27.1.length : Int) - 1)) * 4 + 0))), true), some ((y4 A3261 x27 k3262), true), some (.agg #[.int .i64 x20, (y11 x20 x27), (y7 x27), (y5 A2841 x27 k2842), (y4 A3261 x27 k3262)], true), none, none, none, none, none]) mixed T S rfl ?_
      refine stage (some 23) rfl rfl ⟨⟨_, _, rfl, (avl [4] rfl), fun _ _ _ T S => v1 T rfl fun T => ⟨rfl, T⟩⟩, ⟨_, _, rfl, (avl [4] rfl), fun _ _ _ T S => v1 T rfl fun T => ⟨rfl, T⟩⟩, ⟨_, _, rfl, (avl [53] rfl), fun _ _ _ T S => v1 T rfl fun T => ⟨rfl, T⟩⟩, ⟨_, _, rfl, (avl [54] rfl), fun _ _ _ T S => r_fa (o' := 1) T rfl tu69 rfl ts67 rfl rfl fun _ T => ⟨rfl, T⟩⟩, ⟨_, _, rfl, (avl [55] rfl), fun _ _ _ T S => lB (ix := 6) T S rfl ti67 rfl rfl rfl fun _ T => ⟨rfl, T⟩⟩, ⟨_, _, rfl, (avl [6] rfl), fun _ _ _ T S => v1 T rfl fun T => ⟨rfl, T⟩⟩, ⟨_, _, rfl, (avl [6] rfl), fun _ _ _ T S => v1 T rfl fun T => ⟨rfl, T⟩⟩, ⟨_, _, rfl, (avl [8] rfl), fun _ _ _ T S => v1 T rfl fun T => ⟨rfl, T⟩⟩, ⟨_, _, rfl, (avl [58, 59] rfl), fun _ _ _ T S => v1 T rfl fun T => ⟨rfl, T⟩⟩, ⟨_, _, rfl, (avl [7] rfl), fun _ _ _ T S => v1 T rfl fun T => ⟨rfl, T⟩⟩, ⟨_, _, rfl, (avl [61] rfl), fun _ _ _ T S => rn T rfl tu22 rfl fun _ T => ⟨rfl, T⟩⟩, ⟨_, _, rfl, (avl [7] rfl), fun _ _ _ T S => v1 T rfl fun T => ⟨rfl, T⟩⟩, ⟨_, _, rfl, (avl [63] rfl), fun _ _ _ T S => r_ia (ix := 4) T S rfl rfl rfl rfl tu22 ts36 (by decide) h2721 rfl fun _ T => ⟨rfl, T⟩⟩, ⟨_, _, rfl, (avl [64] rfl), fun _ _ _ T S => r_faE T rfl tu36 rfl ts24 rfl fun _ T => ⟨rfl, T⟩⟩, ⟨_, _, rfl, (avl [65] rfl), fun _ _ _ T S => r_ldC (ix := 3) (A := A28) T S rfl rfl rfl ti24 rfl fun _ T => ⟨rfl, T⟩⟩, ⟨_, _, rfl, (avl [7] rfl), fun _ _ _ T S => v1 T rfl fun T => ⟨rfl, T⟩⟩, ⟨_, _, rfl, (avl [7] rfl), fun _ _ _ T S => v1 T rfl fun T => ⟨rfl, T⟩⟩, ⟨_, _, rfl, (avl [68] rfl), fun _ _ _ T S => rn T rfl tu22 rfl fun _ T => ⟨rfl, T⟩⟩, ⟨_, _, rfl, (avl [69] rfl), fun _ _ _ T S => v1 T rfl fun T => ⟨rfl, T⟩⟩, ⟨_, _, rfl, (avl [67, 70] rfl), fun _ _ _ T S => r_ia (ix := 4) T S rfl rfl rfl rfl tu22 ts36 h3141.1 h3141.2 rfl fun _ T => ⟨rfl, T⟩⟩, ⟨_, _, rfl, (avl [71] rfl), fun _ _ _ T S => r_faE T rfl tu36 rfl ts24 rfl fun _ T => ⟨rfl, T⟩⟩, ⟨_, _, rfl, (avl [72] rfl), fun _ _ _ T S => r_ldC (ix := 1) (A := A28) T S rfl rfl rfl ti24 rfl fun _ T => ⟨rfl, T⟩⟩, ⟨_, _, rfl, (avl [57, 60, 62, 66, 73] rfl), fun _ _ _ T S => r_build (cs := #[.int .i64 x20, (y11 x20 x27), (y7 x27), (y5 A2841 x27 k2842), (y4 A3261 x27 k3262)]) T stt73 rfl rfl rfl fun _ T => ⟨rfl, T⟩⟩, trivial⟩ rfl (fun i hi => ?_) (fun h => by cases h)
      cases hi
      refine ⟨rfl, _, _, rfl, (avl [74] rfl), fun u a w T S => ?_⟩
      replace S : SL ([rp ks_block (y1 x20 x27) [.int .i64 x20, (y11 x20 x27), (y7 x27), (y5 A2841 x27 k2842), (y4 A3261 x27 k3262)], (y10 A3261 k3262 x27), cl A28 (Int.toNat (wr .i64 ((x27.1.length : Int) - 1)) * 4 + 0) [(y4 A3261 x27 k3262)], sl .ro ku8 A2841 k2842 ((gi daE x27.1 0).Key), cl A28 (Int.toNat 0 * 4 + 0) [(y5 A2841 x27 k2842)], sl .ro kaE A28 k29 x27.1, sl .own ku8 A2 k3 x1, blk b13 [(y8 A12 x11), .slice A15 x14.length k16, .slice none 0 0, .int .i64 0, .int .i64 0], sl .own ku8 A12 x11.length x11, sl .own ks_block A15 k16 x14, sl .own kaE A18 k19 x17] ++ F) _ := cl_s_block (i0 := 2) (i1 := 0) S rfl rfl
      refine r_bsl (κ := ks_block) (xs := [(y1 x20 x27)]) (vs := [.agg #[.int .i64 x20, (y11 x20 x27), (y7 x27), (y5 A2841 x27 k2842), (y4 A3261 x27 k3262)]]) T S sty67 rfl ⟨_, _, rfl, ⟨0, rfl⟩, rfl⟩ rfl (by decide) rfl fun _ _ b3381 S T => ?_
      replace S := S.only [0, 1, 1, 1, 1, 1, 1, 1, 1, 1, 1] rfl
      refine ⟨_, [some ((y6 b13), true), some ((y6 b13), true), some ((y6 b13), true), some (.pointer (some ⟨b13, 1, none⟩), true), some (.slice A15 x14.length k16, true), some (.int .i64 x20, true), some (.int .i64 x20, true), some (.int .i64 x27.2.1, true), some ((y11 x20 x27), true), (y12 A28 x27 k29), some ((y7 x27), true), (y12 A28 x27 k29), some (.pointer (some (eA A28 (Int.toNat 0 * 4))), true), some (.pointer (some (eA A28 (Int.toNat 0 * 4 + 0))), true), some ((y5 A2841 x27 k2842), true), (y12 A28 x27 k29), (y12 A28 x27 k29), some ((y7 x27), true), some (.int .i64 (wr .i64 ((x27.1.length : Int) - 1)), true), some (.pointer (some (eA A28 (Int.toNat (wr .i64 ((x27.1.length : Int) - 1)) * 4))), true), some (.pointer (some (eA A28 (Int.toNat (wr .i64 ((x27.1.length : Int) - 1)) * 4 + 0))), true), some ((y4 A3261 x27 k3262), true), some (.agg #[.int .i64 x20, (y11 x20 x27), (y7 x27), (y5 A2841 x27 k2842), (y4 A3261 x27 k3262)], false), some (.slice (some ⟨b3381, 0, none⟩) 1 1, false), none, none, none, none], [sl .own ks_block (some ⟨b3381, 0, none⟩) 1 [(y1 x20 x27)], (y10 A3261 k3262 x27), cl A28 (Int.toNat (wr .i64 ((x27.1.length : Int) - 1)) * 4 + 0) [(y4 A3261 x27 k3262)], sl .ro ku8 A2841 k2842 ((gi daE x27.1 0).Key), cl A28 (Int.toNat 0 * 4 + 0) [(y5 A2841 x27 k2842)], sl .ro kaE A28 k29 x27.1, sl .own ku8 A2 k3 x1, blk b13 [(y8 A12 x11), .slice A15 x14.length k16, .slice none 0 0, .int .i64 0, .int .i64 0], sl .own ku8 A12 x11.length x11, sl .own ks_block A15 k16 x14, sl .own kaE A18 k19 x17], rfl, (by repeat first | exact kx0 | apply kxs | apply kxn), rfl, ?_, T, S⟩
      refine stage (some 24) rfl rfl ⟨⟨_, _, rfl, (avl [4] rfl), fun _ _ _ T S => v1 T rfl fun T => ⟨rfl, T⟩⟩, ⟨_, _, rfl, (avl [4] rfl), fun _ _ _ T S => v1 T rfl fun T => ⟨rfl, T⟩⟩, ⟨_, _, rfl, (avl [53] rfl), fun _ _ _ T S => v1 T rfl fun T => ⟨rfl, T⟩⟩, ⟨_, _, rfl, (avl [54] rfl), fun _ _ _ T S => r_fa (o' := 1) T rfl tu69 rfl ts67 rfl rfl fun _ T => ⟨rfl, T⟩⟩, ⟨_, _, rfl, (avl [55] rfl), fun _ _ _ T S => lB (ix := 7) T S rfl ti67 rfl rfl rfl fun _ T => ⟨rfl, T⟩⟩, ⟨_, _, rfl, (avl [6] rfl), fun _ _ _ T S => v1 T rfl fun T => ⟨rfl, T⟩⟩, ⟨_, _, rfl, (avl [6] rfl), fun _ _ _ T S => v1 T rfl fun T => ⟨rfl, T⟩⟩, ⟨_, _, rfl, (avl [8] rfl), fun _ _ _ T S => v1 T rfl fun T => ⟨rfl, T⟩⟩, ⟨_, _, rfl, (avl [58, 59] rfl), fun _ _ _ T S => v1 T rfl fun T => ⟨rfl, T⟩⟩, ⟨_, _, rfl, (avl [7] rfl), fun _ _ _ T S => v1 T rfl fun T => ⟨rfl, T⟩⟩, ⟨_, _, rfl, (avl [61] rfl), fun _ _ _ T S => rn T rfl tu22 rfl fun _ T => ⟨rfl, T⟩⟩, ⟨_, _, rfl, (avl [7] rfl), fun _ _ _ T S => v1 T rfl fun T => ⟨rfl, T⟩⟩, ⟨_, _, rfl, (avl [63] rfl), fun _ _ _ T S => r_ia (ix := 5) T S rfl rfl rfl rfl tu22 ts36 (by decide) h2721 rfl fun _ T => ⟨rfl, T⟩⟩, ⟨_, _, rfl, (avl [64] rfl), fun _ _ _ T S => r_faE T rfl tu36 rfl ts24 rfl fun _ T => ⟨rfl, T⟩⟩, ⟨_, _, rfl, (avl [65] rfl), fun _ _ _ T S => r_ldC (ix := 4) (A := A28) T S rfl rfl rfl ti24 rfl fun _ T => ⟨rfl, T⟩⟩, ⟨_, _, rfl, (avl [7] rfl), fun _ _ _ T S => v1 T rfl fun T => ⟨rfl, T⟩⟩, ⟨_, _, rfl, (avl [7] rfl), fun _ _ _ T S => v1 T rfl fun T => ⟨rfl, T⟩⟩, ⟨_, _, rfl, (avl [68] rfl), fun _ _ _ T S => rn T rfl tu22 rfl fun _ T => ⟨rfl, T⟩⟩, ⟨_, _, rfl, (avl [69] rfl), fun _ _ _ T S => v1 T rfl fun T => ⟨rfl, T⟩⟩, ⟨_, _, rfl, (avl [67, 70] rfl), fun _ _ _ T S => r_ia (ix := 5) T S rfl rfl rfl rfl tu22 ts36 h3141.1 h3141.2 rfl fun _ T => ⟨rfl, T⟩⟩, ⟨_, _, rfl, (avl [71] rfl), fun _ _ _ T S => r_faE T rfl tu36 rfl ts24 rfl fun _ T => ⟨rfl, T⟩⟩, ⟨_, _, rfl, (avl [72] rfl), fun _ _ _ T S => r_ldC (ix := 2) (A := A28) T S rfl rfl rfl ti24 rfl fun _ T => ⟨rfl, T⟩⟩, trivial⟩ rfl (fun i hi => ?_) (fun h => by cases h)
      cases hi
      refine ⟨rfl, _, _, rfl, (avl [56, 75] rfl), fun u a w T S => ?_⟩
      obtain ⟨h3443, H⟩ := ck H
      refine r_app (ix := 9) (iy := 0) (xs := x14) (ys := [(y1 x20 x27)]) T S rfl rfl rfl rfl (by decide) sty67 tu67 (by decide) h3443 rfl fun _ _ A3441 k3442 S T => ?_
      refine ⟨_, [some ((y6 b13), true), some ((y6 b13), true), some ((y6 b13), true), some (.pointer (some ⟨b13, 1, none⟩), true), some (.slice A15 x14.length k16, false), some (.int .i64 x20, true), some (.int .i64 x20, true), some (.int .i64 x27.2.1, true), some ((y11 x20 x27), true), (y12 A28 x27 k29), some ((y7 x27), true), (y12 A28 x27 k29), some (.pointer (some (eA A28 (Int.toNat 0 * 4))), true), some (.pointer (some (eA A28 (Int.toNat 0 * 4 + 0))), true), some ((y5 A2841 x27 k2842), true), (y12 A28 x27 k29), (y12 A28 x27 k29), some ((y7 x27), true), some (.int .i64 (wr .i64 ((x27.1.length : Int) - 1)), true), some (.pointer (some (eA A28 (Int.toNat (wr .i64 ((x27.1.length : Int) - 1)) * 4))), true), some (.pointer (some (eA A28 (Int.toNat (wr .i64 ((x27.1.length : Int) - 1)) * 4 + 0))), true), some ((y4 A3261 x27 k3262), true), some (.agg #[.int .i64 x20, (y11 x20 x27), (y7 x27), (y5 A2841 x27 k2842), (y4 A3261 x27 k3262)], false), some (.slice (some ⟨b3381, 0, none⟩) 1 1, false), some (.slice A3441 ((x14 ++ [(y1 x20 x27)]).length) k3442, false), some ((y6 b13), true), some (.pointer (some ⟨b13, 1, none⟩), true), none], [sl .own ks_block (some ⟨b3381, 0, none⟩) 1 [(y1 x20 x27)], (y10 A3261 k3262 x27), cl A28 (Int.toNat (wr .i64 ((x27.1.length : Int) - 1)) * 4 + 0) [(y4 A3261 x27 k3262)], sl .ro ku8 A2841 k2842 ((gi daE x27.1 0).Key), cl A28 (Int.toNat 0 * 4 + 0) [(y5 A2841 x27 k2842)], sl .ro kaE A28 k29 x27.1, sl .own ku8 A2 k3 x1, blk b13 [(y8 A12 x11), .slice A15 x14.length k16, .slice none 0 0, .int .i64 0, .int .i64 0], sl .own ku8 A12 x11.length x11, sl .own ks_block A3441 k3442 (x14 ++ [(y1 x20 x27)]), sl .own kaE A18 k19 x17], rfl, (by repeat first | exact kx0 | apply kxs | apply kxn), rfl, ?_, T, S⟩
      refine stage (some 27) rfl rfl ⟨⟨_, _, rfl, (avl [4] rfl), fun _ _ _ T S => v1 T rfl fun T => ⟨rfl, T⟩⟩, ⟨_, _, rfl, (avl [4] rfl), fun _ _ _ T S => v1 T rfl fun T => ⟨rfl, T⟩⟩, ⟨_, _, rfl, (avl [53] rfl), fun _ _ _ T S => v1 T rfl fun T => ⟨rfl, T⟩⟩, ⟨_, _, rfl, (avl [54] rfl), fun _ _ _ T S => r_fa (o' := 1) T rfl tu69 rfl ts67 rfl rfl fun _ T => ⟨rfl, T⟩⟩, ⟨_, _, rfl, (avl [6] rfl), fun _ _ _ T S => v1 T rfl fun T => ⟨rfl, T⟩⟩, ⟨_, _, rfl, (avl [6] rfl), fun _ _ _ T S => v1 T rfl fun T => ⟨rfl, T⟩⟩, ⟨_, _, rfl, (avl [8] rfl), fun _ _ _ T S => v1 T rfl fun T => ⟨rfl, T⟩⟩, ⟨_, _, rfl, (avl [58, 59] rfl), fun _ _ _ T S => v1 T rfl fun T => ⟨rfl, T⟩⟩, ⟨_, _, rfl, (avl [7] rfl), fun _ _ _ T S => v1 T rfl fun T => ⟨rfl, T⟩⟩, ⟨_, _, rfl, (avl [61] rfl), fun _ _ _ T S => rn T rfl tu22 rfl fun _ T => ⟨rfl, T⟩⟩, ⟨_, _, rfl, (avl [7] rfl), fun _ _ _ T S => v1 T rfl fun T => ⟨rfl, T⟩⟩, ⟨_, _, rfl, (avl [63] rfl), fun _ _ _ T S => r_ia (ix := 5) T S rfl rfl rfl rfl tu22 ts36 (by decide) h2721 rfl fun _ T => ⟨rfl, T⟩⟩, ⟨_, _, rfl, (avl [64] rfl), fun _ _ _ T S => r_faE T rfl tu36 rfl ts24 rfl fun _ T => ⟨rfl, T⟩⟩, ⟨_, _, rfl, (avl [65] rfl), fun _ _ _ T S => r_ldC (ix := 4) (A := A28) T S rfl rfl rfl ti24 rfl fun _ T => ⟨rfl, T⟩⟩, ⟨_, _, rfl, (avl [7] rfl), fun _ _ _ T S => v1 T rfl fun T => ⟨rfl, T⟩⟩, ⟨_, _, rfl, (avl [7] rfl), fun _ _ _ T S => v1 T rfl fun T => ⟨rfl, T⟩⟩, ⟨_, _, rfl, (avl [68] rfl), fun _ _ _ T S => rn T rfl tu22 rfl fun _ T => ⟨rfl, T⟩⟩, ⟨_, _, rfl, (avl [69] rfl), fun _ _ _ T S => v1 T rfl fun T => ⟨rfl, T⟩⟩, ⟨_, _, rfl, (avl [67, 70] rfl), fun _ _ _ T S => r_ia (ix := 5) T S rfl rfl rfl rfl tu22 ts36 h3141.1 h3141.2 rfl fun _ T => ⟨rfl, T⟩⟩, ⟨_, _, rfl, (avl [71] rfl), fun _ _ _ T S => r_faE T rfl tu36 rfl ts24 rfl fun _ T => ⟨rfl, T⟩⟩, ⟨_, _, rfl, (avl [72] rfl), fun _ _ _ T S => r_ldC (ix := 2) (A := A28) T S rfl rfl rfl ti24 rfl fun _ T => ⟨rfl, T⟩⟩, ⟨_, _, rfl, (avl [52] rfl), fun _ _ _ T S => v1 T rfl fun T => ⟨rfl, T⟩⟩, ⟨_, _, rfl, (avl [77] rfl), fun _ _ _ T S => r_fa (o' := 1) T rfl tu69 rfl ts67 rfl rfl fun _ T => ⟨rfl, T⟩⟩, trivial⟩ rfl (fun i hi => ?_) (fun h => by cases h)
      cases hi
      refine ⟨rfl, _, _, rfl, (avl [76, 78] rfl), fun u a w T S => ?_⟩
      refine r_stB (ix := 7) T S rfl rfl rfl ts67 rfl (nle rfl) rfl fun _ S => ?_
      refine ⟨_, [some ((y6 b13), false), some ((y6 b13), false), some ((y6 b13), false), some (.pointer (some ⟨b13, 1, none⟩), false), some (.slice A15 x14.length k16, false), some (.int .i64 x20, false), some (.int .i64 x20, false), some (.int .i64 x27.2.1, false), some ((y11 x20 x27), false), some (.slice A28 x27.1.length k29, false), some ((y7 x27), false), some (.slice A28 x27.1.length k29, false), some (.pointer (some (eA A28 (Int.toNat 0 * 4))), false), some (.pointer (some (eA A28 (Int.toNat 0 * 4 + 0))), false), some ((y5 A2841 x27 k2842), false), some (.slice A28 x27.1.length k29, false), some (.slice A28 x27.1.length k29, false), some ((y7 x27), false), some (.int .i64 (wr .i64 ((x27.1.length : Int) - 1)), false), some (.pointer (some (eA A28 (Int.toNat (wr .i64 ((x27.1.length : Int) - 1)) * 4))), false), some (.pointer (some (eA A28 (Int.toNat (wr .i64 ((x27.1.length : Int) - 1)) * 4 + 0))), false), some ((y4 A3261 x27 k3262), false), some (.agg #[.int .i64 x20, (y11 x20 x27), (y7 x27), (y5 A2841 x27 k2842), (y4 A3261 x27 k3262)], false), some (.slice (some ⟨b3381, 0, none⟩) 1 1, false), some (.slice A3441 ((x14 ++ [(y1 x20 x27)]).length) k3442, false), some ((y6 b13), true), some (.pointer (some ⟨b13, 1, none⟩), false), some (undef, false)], [sl .own ks_block (some ⟨b3381, 0, none⟩) 1 [(y1 x20 x27)], (y10 A3261 k3262 x27), cl A28 (Int.toNat (wr .i64 ((x27.1.length : Int) - 1)) * 4 + 0) [(y4 A3261 x27 k3262)], sl .ro ku8 A2841 k2842 ((gi daE x27.1 0).Key), cl A28 (Int.toNat 0 * 4 + 0) [(y5 A2841 x27 k2842)], sl .ro kaE A28 k29 x27.1, sl .own ku8 A2 k3 x1, blk b13 [(y8 A12 x11), .slice A3441 ((x14 ++ [(y1 x20 x27)]).length) k3442, .slice none 0 0, .int .i64 0, .int .i64 0], sl .own ku8 A12 x11.length x11, sl .own ks_block A3441 k3442 (x14 ++ [(y1 x20 x27)]), sl .own kaE A18 k19 x17], rfl, (by repeat first | exact kx0 | apply kxs | apply kxn), rfl, ?_, T, S⟩
      refine stage none rfl rfl ⟨⟨_, _, rfl, (avl [52] rfl), fun _ _ _ T S => v1 T rfl fun T => ⟨rfl, T⟩⟩, trivial⟩ rfl (fun i hi => by cases hi) (fun _ _ a w T hv hb S => ?_)
      replace T := T.sub (r := [(0, .slice A2 x1.length k3), (4, (y6 b13)), (5, .slice A18 x17.length k19), (6, .int .i64 x20), (7, .slice A28 x27.1.length k29), (8, .int .i64 x27.2.1)]) ⟨hb 0 _ rfl rfl, hb 4 _ rfl rfl, hb 5 _ rfl rfl, hb 6 _ rfl rfl, hb 7 _ rfl rfl, hb 8 _ rfl rfl, trivial⟩
      refine sq (rg (v2 T rfl rfl fun T => ?_))
      obtain ⟨h34, H⟩ := ck H
      refine r_app (ix := 10) (iy := 5) (xs := x17) (ys := x27.1) T S rfl rfl rfl rfl (by decide) sty22 tu22 (by decide) h34 rfl fun _ _ A32 k33 S T => ?_
      refine v1 T rfl fun T => rg (v3 T rfl rfl rfl fun T => v1 T rfl fun T => Gets.inBlock (Gets.inLoop ?_))
      exact ih A32 (x17 ++ x27.1) k33 (wr .i64 (x20 + x27.2.1)) A3441 (x14 ++ [(y1 x20 x27)]) k3442 _ _ (T.sb rfl) (S.only [6, 6, 6, 6, 6] rfl) H
   ·refine cdF T rfl h23 (Gets.exit rfl (sq ?_))
    exact J3_ok F r z x1 A2 k3 b13 A18 x17 k19 x20 A12 x11 A15 x14 k16 _ _ (T.sb rfl) (S.only [0, 0, 0, 0, 0] rfl) H
  ·refine gn T rfl h21 fun T => gn T rfl h21 fun T => gn T rfl h21 fun T => gn T rfl h21 fun T => gn T rfl h21 fun T => pF T rfl h21 rfl rfl fun _ T => cdF T rfl rfl (Gets.exit rfl (sq ?_))
   exact J3_ok F r z x1 A2 k3 b13 A18 x17 k19 x20 A12 x11 A15 x14 k16 _ _ (T.sb rfl) (S.only [0, 0, 0, 0, 0] rfl) H
theorem J0_ok (F : List Atom) (r : (Option s_Table) × Int) (z : Nat) (x1 : List Int) (A2 : OA) (k3 : Nat) (a : Act) (w : World) (T : Tm 127 [] a) (S : SL ([sl .own ku8 A2 k3 x1] ++ F) w) (H : J0 z = some r) : Gets Try.prog 8 ptJ0 a w (R F x1 A2 k3 r) := by
 refine rg (v2 T rfl rfl fun T => ?_)
 obtain rfl := sj H
 exact rtn T tf8 rfl rfl ⟨rfl, (S.only [0] rfl)⟩
theorem ok (F : List Atom) (w : World) (z : Nat) (x1 : List Int) {A2 : OA} {k3 : Nat} (S : SL ([sl .own ku8 A2 k3 x1] ++ F) w) (r : (Option s_Table) × Int) (H : f z x1 = some r) : Calls Try.prog 8 #[.slice A2 x1.length k3] w (R F x1 A2 k3 r) := by
 refine enter (vs := [.slice A2 x1.length k3]) tf8 rfl Try.ntmps8 (nle rfl) fun a T => ?_
 refine sq (rg (v2 T rfl rfl fun T => sq (sq (rg (v1 T rfl fun T => rn T rfl tu24 rfl fun _ T => v2 T rfl rfl fun T => ?_)))))
 rcases ifE H with ⟨h4, H⟩ | ⟨h4, H⟩
 ·refine gn T rfl h4 fun T => gn T rfl h4 fun T => gn T rfl h4 fun T => pT T rfl h4 rfl rfl fun _ T => cdT T rfl rfl (sq ?_)
  exact J0_ok F r z x1 A2 k3 _ _ (T.sub trivial) (S.only [0] rfl) H
 ·refine gy T rfl h4 (v1 T rfl fun T => gy T rfl h4 (rn T rfl tu24 rfl fun _ T => gy T rfl h4 (v1 T rfl fun T => pF T rfl h4 rfl rfl fun _ T => ?_)))
  rcases ifE H with ⟨h5, H⟩ | ⟨h5, H⟩
  ·refine cdT T rfl h5 (sq ?_)
   exact J0_ok F r z x1 A2 k3 _ _ (T.sub trivial) (S.only [0] rfl) H
  ·refine cdF T rfl h5 (sk (sq (rg (v1 T rfl fun T => ?_))))
   obtain ⟨x7, h6, H⟩ := bd H
   refine rc T tc32 rfl rfl (bytes_Clone.ok _ _ x1 (S.sel (is := [0]) rfl) _ h6) ?_
   rintro _ _ ⟨A8, k9, rfl, S⟩
   refine ⟨_, rfl, fun _ T => ?_⟩
   replace S := S.join
   obtain ⟨x11, h10, H⟩ := bd H
   refine rc T tc31 rfl rfl (slices_Clip_byte.ok _ _ x7 (S.sel (is := [0]) rfl) _ h10) ?_
   rintro _ _ ⟨A12, rfl, S⟩
   refine ⟨_, rfl, fun _ T => ?_⟩
   replace S := S.join
   refine r_build (cs := #[(y8 A12 x11), .slice none 0 0, .slice none 0 0, .int .i64 0, .int .i64 0]) T stt69 rfl rfl rfl fun _ T => r_box T S rfl (cs := [(y8 A12 x11), .slice none 0 0, .slice none 0 0, .int .i64 0, .int .i64 0]) rfl rfl fun _ _ b13 S T => v1 T rfl fun T => sq (rg (v1 T rfl fun T => sq (rg (v1 T rfl fun T => sq (bq (Gets.loop ?_))))))
   replace S := S.nil ks_block .own
   replace S := S.nil kaE .own
   exact L1_ok F r z x1 A2 k3 b13 A12 x11 z none [] 0 0 none [] 0 _ _ (T.sb rfl) (S.only [4, 2, 2, 1, 0] rfl) H
end s_Open
theorem tailS_bys (fa ia cnt bb pk : Int) : Bys (tailS fa ia cnt bb pk) := by
 unfold tailS tail36
 refine Bys.app (Bys.app (Bys.app (Bys.app (Bys.app (Bys.app (highS_bys _ _) (highS_bys _ _)) (highS_bys _ _)) (highS_bys _ _)) (highS_bys _ _)) ?_) (le4_bys _)
 intro x hx
 simp at hx
 omega
theorem outS_bys {w : s_builder} (h1 : Bys w.out) (h2 : Bys w.index) {cnt : Int} {f : List Int} (hf : Bys f) {bb pk : Int} : Bys (outS w cnt f bb pk) :=
 Bys.app (Bys.app (Bys.app h1 (frm_bys (by omega) hf)) (frm_bys (by omega) (Bys.app (num_bys _) h2))) (tailS_bys _ _ _ _ _)
theorem run_inv {bb : Int} (hb : bb ≤ 65536) : ∀ (l : List aE) (i : Nat) (keys : List (List Int)) (w : s_builder) (r : List (List Int) × s_builder), i + l.length ≤ 65536 → (∀ e ∈ l, fitS e ∧ okE e) → Inv i w → run bb l keys w = some r → Inv (i + l.length) r.2
 | [], i, keys, w, r, _, _, h, hr => by
  rw [run] at hr
  cases hr
  exact h
 | e :: l, i, keys, w, r, hl, hf, h, hr => by
  rw [run] at hr
  split at hr
  ·cases hr
  ·rename_i ho
   have := run_inv hb l (i + 1) _ _ r (by simp at hl; omega) (fun x hx => hf x (List.mem_cons_of_mem _ hx)) (h.add (by simp at hl; omega) (by omega) (hf e (List.mem_cons_self ..)).1 (hf e (List.mem_cons_self ..)).2 hb) hr
   rw [show i + (e :: l).length = i + 1 + l.length by simp; omega]
   exact this
theorem buildS_out {l : List aE} (hf : ∀ e ∈ l, okE e) {bb pk : Int} {b : List Int} (h : buildS l bb pk = (b, 0)) :
  (64 ≤ bb ∧ bb ≤ 65536) ∧ (1 ≤ pk ∧ pk ≤ 30) ∧ (0 < l.length ∧ l.length ≤ 65536) ∧ chk none l = none ∧ ∃ keys w, run bb l [] w0 = some (keys, w) ∧ Inv l.length w ∧ (idxS (closeS w)).length ≤ 2097152 ∧ b.length ≤ 4194304 ∧ b = outS (closeS w) l.length (mkS keys pk) bb pk := by
 unfold buildS at h
 split at h
 ·cases h
 rename_i h1
 split at h
 ·cases h
 rename_i h2
 have hc0 : ∀ (l : List aE) (p : Option aE) (e : Int), chk p l = some e → e ≠ 0 := by
  intro l
  induction l with
  | nil => intro p e h; cases h
  | cons x l ih =>
   intro p e h
   rw [chk] at h
   split at h
   ·cases h; decide
   ·split at h
    ·cases h; decide
    ·exact ih _ _ h
 cases hc : chk none l with
 | some e =>
  rw [hc] at h
  simp only [Prod.mk.injEq] at h
  exact absurd h.2 (hc0 l none e hc)
 | none =>
  rw [hc] at h
  dsimp only at h
  cases hr : run bb l [] w0 with
  | none => rw [hr] at h; cases h
  | some r =>
   obtain ⟨keys, w⟩ := r
   rw [hr] at h
   dsimp only at h
   unfold endS at h
   split at h
   ·cases h
   rename_i h3
   split at h
   ·cases h
   rename_i h4
   simp only [Prod.mk.injEq] at h
   refine ⟨by omega, by omega, by omega, rfl, keys, w, rfl, ?_, by omega, by rw [← h.1]; omega, h.1.symm⟩
   have := run_inv (by omega) l 0 [] w0 (keys, w) (by omega) (fun e he => ⟨chk_fit hc e he, hf e he⟩) Inv.zero hr
   simpa using this
theorem buildS_bys {l : List aE} (hf : ∀ e ∈ l, okE e) {bb pk : Int} {b : List Int} (h : buildS l bb pk = (b, 0)) : Bys b := by
 obtain ⟨_, hp, _, _, keys, w, _, hi, _, _, rfl⟩ := buildS_out hf h
 exact outS_bys (Bys.app hi.b1 (frm_bys (by omega) hi.b2)) (Bys.app hi.b3 (idx_bys hi.b4)) (mkS_bys hp)
theorem and_one (c : BitVec 32) : c &&& 1#32 = 0#32 ∨ c &&& 1#32 = 1#32 := by
 have h : (c &&& 1#32).toNat = c.toNat % 2 := by rw [BitVec.toNat_and]; exact Nat.and_one_is_mod _
 rcases Nat.mod_two_eq_zero_or_one c.toNat with q | q
 ·left; exact BitVec.eq_of_toNat_eq (by rw [h, q]; rfl)
 ·right; exact BitVec.eq_of_toNat_eq (by rw [h, q]; rfl)
theorem half_inj {c d : BitVec 32} (h : c >>> 1 = d >>> 1) (e : c &&& 1#32 = d &&& 1#32) : c = d := by
 have h1 : c.toNat / 2 = d.toNat / 2 := by
  have := congrArg BitVec.toNat h
  rw [BitVec.toNat_ushiftRight, BitVec.toNat_ushiftRight, Nat.shiftRight_eq_div_pow, Nat.shiftRight_eq_div_pow] at this
  omega
 have h2 : c.toNat % 2 = d.toNat % 2 := by
  have := congrArg BitVec.toNat e
  rw [BitVec.toNat_and, BitVec.toNat_and] at this
  rw [← Nat.and_one_is_mod, ← Nat.and_one_is_mod]
  exact this
 exact BitVec.eq_of_toNat_eq (by omega)
theorem top_ne {c d : BitVec 32} : c >>> 1 ≠ d >>> 1 ^^^ 3988292384#32 := by
 intro h
 have h1 := congrArg (fun x => BitVec.getLsbD x 31) h
 simp at h1
theorem stp_0 {c : BitVec 32} (h : c &&& 1#32 = 0#32) : stp c = c >>> 1 := by
 unfold stp; rw [h]
 show c >>> 1 ^^^ (3988292384#32 &&& 0#32) = _
 simp
theorem stp_1 {c : BitVec 32} (h : c &&& 1#32 = 1#32) : stp c = c >>> 1 ^^^ 3988292384#32 := by
 unfold stp; rw [h]
 show c >>> 1 ^^^ 3988292384#32 = _
 rfl
theorem stp_inj {c d : BitVec 32} (h : stp c = stp d) : c = d := by
 rcases and_one c with a | a <;> rcases and_one d with b | b
 ·rw [stp_0 a, stp_0 b] at h; exact half_inj h (by rw [a, b])
 ·rw [stp_0 a, stp_1 b] at h; exact absurd h top_ne
 ·rw [stp_1 a, stp_0 b] at h; exact absurd h.symm top_ne
 ·rw [stp_1 a, stp_1 b] at h
  have h' := congrArg (· ^^^ 3988292384#32) h
  simp only [BitVec.xor_assoc, BitVec.xor_self, BitVec.xor_zero] at h'
  exact half_inj h' (by rw [a, b])
theorem byt_xor {c d : BitVec 32} {x y : Int} (h : byt c x = byt d y) : c ^^^ BitVec.ofInt 32 x = d ^^^ BitVec.ofInt 32 y :=
 stp_inj (stp_inj (stp_inj (stp_inj (stp_inj (stp_inj (stp_inj (stp_inj h)))))))
theorem byt_c {c d : BitVec 32} {x : Int} (h : byt c x = byt d x) : c = d := by
 have h' := congrArg (· ^^^ BitVec.ofInt 32 x) (byt_xor h)
 simpa only [BitVec.xor_assoc, BitVec.xor_self, BitVec.xor_zero] using h'
theorem byt_x {c : BitVec 32} {x y : Int} (hx : 0 ≤ x ∧ x < 256) (hy : 0 ≤ y ∧ y < 256) (h : byt c x = byt c y) : x = y := by
 have h' := congrArg (c ^^^ ·) (byt_xor h)
 simp only [← BitVec.xor_assoc, BitVec.xor_self, BitVec.zero_xor] at h'
 have h2 := congrArg BitVec.toNat h'
 rw [BitVec.toNat_ofInt, BitVec.toNat_ofInt] at h2
 omega
theorem crc_c : ∀ (q : List Int) {c d : BitVec 32}, crc c q = crc d q → c = d
 | [], _, _, h => h
 | x :: q, c, d, h => byt_c (crc_c q h)
def Diff (xs ys : List Int) : Prop := ∃ p x y q, xs = p ++ x :: q ∧ ys = p ++ y :: q ∧ x ≠ y
theorem Diff.len {xs ys : List Int} (h : Diff xs ys) : xs.length = ys.length := by
 obtain ⟨p, x, y, q, rfl, rfl, _⟩ := h
 simp
theorem Diff.crc {xs ys : List Int} (hx : Bys xs) (hy : Bys ys) (h : Diff xs ys) {c : BitVec 32} : Go.Proofs.Ytghpokmkhlmgcaa.crc c xs ≠ Go.Proofs.Ytghpokmkhlmgcaa.crc c ys := by
 obtain ⟨p, x, y, q, rfl, rfl, hxy⟩ := h
 intro e
 rw [crc_app, crc_app] at e
 exact hxy (byt_x (hx x (by simp)) (hy y (by simp)) (crc_c q e))
theorem Diff.split : ∀ {a b r s : List Int}, a.length = b.length → Diff (a ++ r) (b ++ s) → (Diff a b ∧ r = s) ∨ (a = b ∧ Diff r s)
 | [], [], _, _, _, h => .inr ⟨rfl, h⟩
 | [], _ :: _, _, _, h, _ => by simp at h
 | _ :: _, [], _, _, h, _ => by simp at h
 | x :: a, y :: b, r, s, hl, h => by
  obtain ⟨p, u, v, q, h1, h2, h3⟩ := h
  cases p with
  | nil =>
   simp only [List.nil_append, List.cons_append, List.cons.injEq] at h1 h2
   obtain ⟨e1, e2⟩ := List.append_inj (h1.2.trans h2.2.symm) (by simpa using hl)
   left
   exact ⟨⟨[], x, y, a, rfl, by rw [e1]; rfl, by rw [h1.1, h2.1]; exact h3⟩, e2⟩
  | cons t p =>
   simp only [List.cons_append, List.cons.injEq] at h1 h2
   rcases Diff.split (by simpa using hl) ⟨p, u, v, q, h1.2, h2.2, h3⟩ with ⟨⟨p, u, v, q, g1, g2, g3⟩, e⟩ | ⟨e, d⟩
   ·left
    exact ⟨⟨x :: p, u, v, q, by rw [g1]; rfl, by rw [h1.1, ← h2.1, g2]; rfl, g3⟩, e⟩
   ·right
    exact ⟨by rw [e, h1.1, h2.1], d⟩
abbrev Blk := List Int × Int × List Int
def fr1 (f : Blk) : List Int := frm 68 f.1
def outF : List Blk → List Int
 | [] => []
 | f :: fs => fr1 f ++ outF fs
def idxF : Nat → List Blk → List Int
 | _, [] => []
 | o, f :: fs => idx o (fr1 f).length f.2.1 f.2.2 ++ idxF (o + (fr1 f).length) fs
theorem outF_snoc : ∀ (fs : List Blk) (f : Blk), outF (fs ++ [f]) = outF fs ++ fr1 f
 | [], f => by simp [outF]
 | g :: fs, f => by simp [outF, outF_snoc fs f]
theorem idxF_snoc : ∀ (fs : List Blk) (o : Nat) (f : Blk), idxF o (fs ++ [f]) = idxF o fs ++ idx (o + (outF fs).length) (fr1 f).length f.2.1 f.2.2
 | [], o, f => by simp [idxF, outF]
 | g :: fs, o, f => by simp [idxF, outF, idxF_snoc fs _ f, Nat.add_assoc]
def Str (w : s_builder) : Prop := ∃ fs : List Blk, w.out = outF fs ∧ w.index = idxF 0 fs ∧ w.blocks = fs.length
theorem Str.close {w : s_builder} (h : Str w) : Str (closeS w) := by
 obtain ⟨fs, h1, h2, h3⟩ := h
 refine ⟨fs ++ [(w.body, w.many, w.last)], ?_, ?_, ?_⟩
 ·rw [outF_snoc]; simp [closeS, h1, fr1]
 ·rw [idxF_snoc]; simp [closeS, h1, h2, fr1]
 ·simp [closeS, h3]
theorem Str.add {w : s_builder} (h : Str w) (e : aE) (bb : Int) : Str (addS w e bb) := by
 unfold addS
 split
 ·split
  ·obtain ⟨fs, h1, h2, h3⟩ := h; exact ⟨fs, h1, h2, h3⟩
  ·obtain ⟨fs, h1, h2, h3⟩ := h.close; exact ⟨fs, h1, h2, h3⟩
 ·obtain ⟨fs, h1, h2, h3⟩ := h; exact ⟨fs, h1, h2, h3⟩
namespace r1_Number
noncomputable def c0 : Code := match Try.f70.body with | some c => c | none => .skip
def R (F : List Atom) (r : (List Int)) : Ending → World → Prop := fun e w' => ∃ (A15 : OA), ∃ (k16 : Nat), e = .returned (.slice A15 r.length k16) ∧ SL ([sl .own ku8 A15 k16 r] ++ F) w'
def L0 (z : Nat) : Nat → Int → (List Int) → Option (List Int)
 | 0, _, _ => none
 | m + 1, x2, x3 => If (decide (x2 ≥ 128)) (Ck ((x3.length + [wr .u8 (wr .u64 (128 + (Int.tmod x2 128)))].length) * 1 ≤ 140737488355328) (L0 z m (wr .u64 (Int.tdiv x2 128)) (x3 ++ [wr .u8 (wr .u64 (128 + (Int.tmod x2 128)))]))) (Ck ((x3.length + [wr .u8 x2].length) * 1 ≤ 140737488355328) (some (x3 ++ [wr .u8 x2])))
def f (z : Nat) (x1 : Int) : Option (List Int) := L0 z z x1 []
noncomputable def ptL0 : List Item := [.code (cB (cB (cL (cR (cR c0))))), .inLoop (cB (cB (cL (cR (cR c0))))), .inBlock 0, .code (cr 3 c0)]
theorem L0_ok (F : List Atom) (r : (List Int)) (z : Nat) (x1 : Int) (m : Nat) : ∀ (x2 : Int) (A4 : OA) (x3 : List Int) (k5 : Nat) (a : Act) (w : World), Tm 20 [(0, .int .u64 x2), (3, .slice A4 x3.length k5)] a → SL ([sl .own ku8 A4 k5 x3] ++ F) w → L0 z m x2 x3 = some r → Gets Try.prog 70 ptL0 a w (R F r) := by
 induction m with
 | zero => intro _ _ _ _ _ _ _ _ H; cases H
 | succ m ih =>
  intro x2 A4 x3 k5 a w T S H
  refine sq (sq (rg (v2 T rfl rfl fun T => ?_)))
  rcases ifE H with ⟨h6, H⟩ | ⟨h6, H⟩
  ·refine cdT T rfl h6 (sk (bq (sq ?_)))
   refine rg (v2 T rfl rfl fun T => r_rem T rfl rfl (by decide) rfl fun _ T => ?_)
   refine v1 T rfl fun T => r_conv T rfl tu34 tu5 rfl fun _ T => ?_
   replace S := SL.val (κ := ku8) (x := wr .u8 (wr .u64 (128 + (Int.tmod x2 128)))) (cs := [.int .u8 (wr .u8 (wr .u64 (128 + (Int.tmod x2 128))))]) (fun _ => rfl) S
   refine r_bsl (κ := ku8) (xs := [wr .u8 (wr .u64 (128 + (Int.tmod x2 128)))]) (vs := [.int .u8 (wr .u8 (wr .u64 (128 + (Int.tmod x2 128))))]) T S sty24 rfl ⟨_, _, rfl, ⟨0, rfl⟩, rfl⟩ rfl (by decide) rfl fun _ _ b11 S T => ?_
   replace S := S.only [0, 1] rfl
   obtain ⟨h14, H⟩ := ck H
   refine r_app (ix := 1) (iy := 0) (xs := x3) (ys := [wr .u8 (wr .u64 (128 + (Int.tmod x2 128)))]) T S rfl rfl rfl rfl (by decide) sty24 tu24 (by decide) h14 rfl fun _ _ A12 k13 S T => ?_
   refine v1 T rfl fun T => rg (v1 T rfl fun T => r_quo T rfl rfl (by decide) rfl fun _ T => ?_)
   refine v1 T rfl fun T => Gets.inBlock (Gets.inLoop ?_)
   exact ih (wr .u64 (Int.tdiv x2 128)) A12 (x3 ++ [wr .u8 (wr .u64 (128 + (Int.tmod x2 128)))]) k13 _ _ (T.sb rfl) (S.only [1] rfl) H
  ·refine cdF T rfl h6 (Gets.exit rfl (sq (rg (v2 T rfl rfl fun T => r_conv T rfl tu34 tu5 rfl fun _ T => ?_))))
   replace S := SL.val (κ := ku8) (x := wr .u8 x2) (cs := [.int .u8 (wr .u8 x2)]) (fun _ => rfl) S
   refine r_bsl (κ := ku8) (xs := [wr .u8 x2]) (vs := [.int .u8 (wr .u8 x2)]) T S sty24 rfl ⟨_, _, rfl, ⟨0, rfl⟩, rfl⟩ rfl (by decide) rfl fun _ _ b7 S T => ?_
   replace S := S.only [0, 1] rfl
   obtain ⟨h10, H⟩ := ck H
   refine r_app (ix := 1) (iy := 0) (xs := x3) (ys := [wr .u8 x2]) T S rfl rfl rfl rfl (by decide) sty24 tu24 (by decide) h10 rfl fun _ _ A8 k9 S T => ?_
   refine v1 T rfl fun T => ?_
   obtain rfl := sj H
   exact rtn T Try.func70 rfl rfl ⟨A8, k9, rfl, (S.only [1] rfl)⟩
theorem ok (F : List Atom) (w : World) (z : Nat) (x1 : Int) (S : SL ([] ++ F) w) (r : (List Int)) (H : f z x1 = some r) : Calls Try.prog 70 #[.int .u64 x1] w (R F r) := by
 refine enter (vs := [.int .u64 x1]) Try.func70 rfl Try.ntmps70 (nle rfl) fun a T => ?_
 refine sq (rg (v1 T rfl fun T => sq (rg (v1 T rfl fun T => sq (bq (Gets.loop ?_))))))
 replace S := S.nil ku8 .own
 exact L0_ok F r z x1 z x1 none [] 0 _ _ (T.sb rfl) (S.only [0] rfl) H
end r1_Number
namespace r1_Four
def R (F : List Atom) (r : (List Int)) : Ending → World → Prop := fun e w' => ∃ (A3 : OA), ∃ (k4 : Nat), e = .returned (.slice A3 r.length k4) ∧ SL ([sl .own ku8 A3 k4 r] ++ F) w'
def f (x1 : Int) : Option (List Int) := some [wr .u8 (Int.tmod x1 256), wr .u8 (Int.tmod (wr .u32 (Int.tdiv x1 256)) 256), wr .u8 (Int.tmod (wr .u32 (Int.tdiv x1 65536)) 256), wr .u8 (wr .u32 (Int.tdiv x1 16777216))]
theorem ok (F : List Atom) (w : World) (x1 : Int) (S : SL ([] ++ F) w) (r : (List Int)) (H : f x1 = some r) : Calls Try.prog 76 #[.int .u32 x1] w (R F r) := by
 refine enter (vs := [.int .u32 x1]) Try.func76 rfl Try.ntmps76 (nle rfl) fun a T => ?_
 refine sq (rg (v1 T rfl fun T => sq ?_))
 refine rg (v1 T rfl fun T => r_rem T rfl rfl (by decide) rfl fun _ T => ?_)
 refine r_conv T rfl tu99 tu5 rfl fun _ T => v1 T rfl fun T => r_quo T rfl rfl (by decide) rfl fun _ T => ?_
 refine r_rem T rfl rfl (by decide) rfl fun _ T => ?_
 refine r_conv T rfl tu99 tu5 rfl fun _ T => v1 T rfl fun T => r_quo T rfl rfl (by decide) rfl fun _ T => ?_
 refine r_rem T rfl rfl (by decide) rfl fun _ T => ?_
 refine r_conv T rfl tu99 tu5 rfl fun _ T => v1 T rfl fun T => r_quo T rfl rfl (by decide) rfl fun _ T => ?_
 refine r_conv T rfl tu99 tu5 rfl fun _ T => ?_
 replace S := SL.val (κ := ku8) (x := wr .u8 (Int.tmod x1 256)) (cs := [.int .u8 (wr .u8 (Int.tmod x1 256))]) (fun _ => rfl) S
 replace S := SL.val (κ := ku8) (x := wr .u8 (Int.tmod (wr .u32 (Int.tdiv x1 256)) 256)) (cs := [.int .u8 (wr .u8 (Int.tmod (wr .u32 (Int.tdiv x1 256)) 256))]) (fun _ => rfl) S
 replace S := SL.val (κ := ku8) (x := wr .u8 (Int.tmod (wr .u32 (Int.tdiv x1 65536)) 256)) (cs := [.int .u8 (wr .u8 (Int.tmod (wr .u32 (Int.tdiv x1 65536)) 256))]) (fun _ => rfl) S
 replace S := SL.val (κ := ku8) (x := wr .u8 (wr .u32 (Int.tdiv x1 16777216))) (cs := [.int .u8 (wr .u8 (wr .u32 (Int.tdiv x1 16777216)))]) (fun _ => rfl) S
 refine r_bsl (κ := ku8) (xs := [wr .u8 (Int.tmod x1 256), wr .u8 (Int.tmod (wr .u32 (Int.tdiv x1 256)) 256), wr .u8 (Int.tmod (wr .u32 (Int.tdiv x1 65536)) 256), wr .u8 (wr .u32 (Int.tdiv x1 16777216))]) (vs := [.int .u8 (wr .u8 (Int.tmod x1 256)), .int .u8 (wr .u8 (Int.tmod (wr .u32 (Int.tdiv x1 256)) 256)), .int .u8 (wr .u8 (Int.tmod (wr .u32 (Int.tdiv x1 65536)) 256)), .int .u8 (wr .u8 (wr .u32 (Int.tdiv x1 16777216)))]) T S sty24 rfl ⟨_, _, rfl, ⟨3, rfl⟩, ⟨_, _, rfl, ⟨2, rfl⟩, ⟨_, _, rfl, ⟨1, rfl⟩, ⟨_, _, rfl, ⟨0, rfl⟩, rfl⟩⟩⟩⟩ rfl (by decide) rfl fun _ _ b2 S T => ?_
 replace S := S.only [0] rfl
 refine v1 T rfl fun T => ?_
 obtain rfl := sj H
 replace T := T.re (s := 2) (v' := .slice (some ⟨b2, 0, none⟩) [wr .u8 (Int.tmod x1 256), wr .u8 (Int.tmod (wr .u32 (Int.tdiv x1 256)) 256), wr .u8 (Int.tmod (wr .u32 (Int.tdiv x1 65536)) 256), wr .u8 (wr .u32 (Int.tdiv x1 16777216))].length 4) rfl (by simp)
 exact rtn T Try.func76 rfl rfl ⟨(some ⟨b2, 0, none⟩), 4, rfl, (S.only [0] rfl)⟩
end r1_Four
namespace r1_sum
noncomputable def c0 : Code := match Try.f91.body with | some c => c | none => .skip
def R (F : List Atom) (x2 : List Int) (A3 : OA) (k4 : Nat) (m5 : Md) (r : Int) : Ending → World → Prop := fun e w' => e = .returned (.int .u32 r) ∧ SL ([sl m5 ku8 A3 k4 x2] ++ F) w'
def J2 (z : Nat) (q0 q1 : Int → Int → Option Int) (x2 : List Int) (x7 x11 x14 : Int) : Option Int := q1 x14 (wr .i64 (x11 + 1))
def L1 (z : Nat) (q0 : Int → Int → Option Int) (x2 : List Int) (x7 : Int) : Nat → Int → Int → Option Int
 | 0, _, _ => none
 | m + 1, x10, x11 => If (decide (x11 < 8)) (If ((Int.tmod x10 2) == 1) (J2 z q0 (L1 z q0 x2 x7 m) x2 x7 x11 (bXor .u32 (wr .u32 (Int.tdiv x10 2)) 3988292384)) (J2 z q0 (L1 z q0 x2 x7 m) x2 x7 x11 (wr .u32 (Int.tdiv x10 2)))) (q0 x10 (wr .i64 (x7 + 1)))
def L0 (z : Nat) (x2 : List Int) : Nat → Int → Int → Option Int
 | 0, _, _ => none
 | m + 1, x6, x7 => If (decide (x7 < (x2.length : Int))) (Ck (0 ≤ x7 ∧ x7 < (x2.length : Int)) (L1 z (L0 z x2 m) x2 x7 z (bXor .u32 x6 (wr .u32 (gi (0 : Int) x2 x7))) 0)) (some x6)
def f (z : Nat) (x1 : Int) (x2 : List Int) : Option Int := L0 z x2 z x1 0
noncomputable def ptJ2 : List Item := [.code (cR (cR (cB (cB (cR (cR (cB (cL (cR (cB (cB (cR (cL (cR c0)))))))))))))), .inLoop (cB (cB (cR (cR (cB (cL (cR (cB (cB (cR (cL (cR c0)))))))))))), .inBlock 2, .inBlock 1, .code (cR (cR (cB (cB (cR (cL (cR c0))))))), .inLoop (cB (cB (cR (cL (cR c0))))), .inBlock 0, .code (cR (cR c0))]
noncomputable def ptL1 : List Item := [.code (cB (cB (cR (cR (cB (cL (cR (cB (cB (cR (cL (cR c0)))))))))))), .inLoop (cB (cB (cR (cR (cB (cL (cR (cB (cB (cR (cL (cR c0)))))))))))), .inBlock 2, .inBlock 1, .code (cR (cR (cB (cB (cR (cL (cR c0))))))), .inLoop (cB (cB (cR (cL (cR c0))))), .inBlock 0, .code (cR (cR c0))]
noncomputable def ptL0 : List Item := [.code (cB (cB (cR (cL (cR c0))))), .inLoop (cB (cB (cR (cL (cR c0))))), .inBlock 0, .code (cR (cR c0))]
theorem J2_ok (F : List Atom) (r : Int) (z : Nat) (x2 : List Int) (A3 : OA) (k4 : Nat) (m5 : Md) (x7 x11 x1 : Int) (q0 : Int → Int → Option Int) (hq0 : ∀ (x6 x7 : Int) (a : Act) (w : World), Tm 33 [(0, .int .u32 x6), (1, .slice A3 x2.length k4), (5, .int .i64 x7)] a → SL ([sl m5 ku8 A3 k4 x2] ++ F) w → q0 x6 x7 = some r → Gets Try.prog 91 ptL0 a w (R F x2 A3 k4 m5 r)) (q1 : Int → Int → Option Int) (hq1 : ∀ (x10 x11 : Int) (a : Act) (w : World), Tm 33 [(0, .int .u32 x10), (1, .slice A3 x2.length k4), (5, .int .i64 x7), (6, .int .i64 x11)] a → SL ([sl m5 ku8 A3 k4 x2] ++ F) w → q1 x10 x11 = some r → Gets Try.prog 91 ptL1 a w (R F x2 A3 k4 m5 r)) (x14 : Int) (a : Act) (w : World) (T : Tm 33 [(0, .int .u32 x14), (1, .slice A3 x2.length k4), (5, .int .i64 x7), (6, .int .i64 x11)] a) (S : SL ([sl m5 ku8 A3 k4 x2] ++ F) w) (H : J2 z q0 q1 x2 x7 x11 x14 = some r) : Gets Try.prog 91 ptJ2 a w (R F x2 A3 k4 m5 r) := by
 refine rg (v3 T rfl rfl rfl fun T => Gets.inLoop ?_)
 exact hq1 x14 (wr .i64 (x11 + 1)) _ _ (T.sb rfl) (S.only [0] rfl) H
theorem L1_ok (F : List Atom) (r : Int) (z : Nat) (x2 : List Int) (A3 : OA) (k4 : Nat) (m5 : Md) (x7 x1 : Int) (q0 : Int → Int → Option Int) (hq0 : ∀ (x6 x7 : Int) (a : Act) (w : World), Tm 33 [(0, .int .u32 x6), (1, .slice A3 x2.length k4), (5, .int .i64 x7)] a → SL ([sl m5 ku8 A3 k4 x2] ++ F) w → q0 x6 x7 = some r → Gets Try.prog 91 ptL0 a w (R F x2 A3 k4 m5 r)) (m : Nat) : ∀ (x10 x11 : Int) (a : Act) (w : World), Tm 33 [(0, .int .u32 x10), (1, .slice A3 x2.length k4), (5, .int .i64 x7), (6, .int .i64 x11)] a → SL ([sl m5 ku8 A3 k4 x2] ++ F) w → L1 z q0 x2 x7 m x10 x11 = some r → Gets Try.prog 91 ptL1 a w (R F x2 A3 k4 m5 r) := by
 induction m with
 | zero => intro _ _ _ _ _ _ H; cases H
 | succ m ih =>
  intro x10 x11 a w T S H
  refine sq (sq (rg (v2 T rfl rfl fun T => ?_)))
  rcases ifE H with ⟨h12, H⟩ | ⟨h12, H⟩
  ·refine cdT T rfl h12 (sk (sq (bq (sq ?_))))
   refine rg (v1 T rfl fun T => r_rem T rfl rfl (by decide) rfl fun _ T => ?_)
   refine v1 T rfl fun T => ?_
   rcases ifE H with ⟨h13, H⟩ | ⟨h13, H⟩
   ·refine cdT T rfl h13 ?_
    refine rg (v1 T rfl fun T => r_quo T rfl rfl (by decide) rfl fun _ T => ?_)
    refine v2 T rfl rfl fun T => Gets.inBlock ?_
    exact J2_ok F r z x2 A3 k4 m5 x7 x11 x1 q0 hq0 (L1 z q0 x2 x7 m) ih (bXor .u32 (wr .u32 (Int.tdiv x10 2)) 3988292384) _ _ (T.sb rfl) (S.only [0] rfl) H
   ·refine cdF T rfl h13 ?_
    refine rg (v1 T rfl fun T => r_quo T rfl rfl (by decide) rfl fun _ T => ?_)
    refine v1 T rfl fun T => Gets.inBlock ?_
    exact J2_ok F r z x2 A3 k4 m5 x7 x11 x1 q0 hq0 (L1 z q0 x2 x7 m) ih (wr .u32 (Int.tdiv x10 2)) _ _ (T.sb rfl) (S.only [0] rfl) H
  ·refine cdF T rfl h12 (Gets.exit rfl (Gets.inBlock (rg (v3 T rfl rfl rfl fun T => Gets.inLoop ?_))))
   exact hq0 x10 (wr .i64 (x7 + 1)) _ _ (T.sb rfl) (S.only [0] rfl) H
theorem L0_ok (F : List Atom) (r : Int) (z : Nat) (x2 : List Int) (A3 : OA) (k4 : Nat) (m5 : Md) (x1 : Int) (m : Nat) : ∀ (x6 x7 : Int) (a : Act) (w : World), Tm 33 [(0, .int .u32 x6), (1, .slice A3 x2.length k4), (5, .int .i64 x7)] a → SL ([sl m5 ku8 A3 k4 x2] ++ F) w → L0 z x2 m x6 x7 = some r → Gets Try.prog 91 ptL0 a w (R F x2 A3 k4 m5 r) := by
 induction m with
 | zero => intro _ _ _ _ _ _ H; cases H
 | succ m ih =>
  intro x6 x7 a w T S H
  refine sq (sq (rg (v2 T rfl rfl fun T => rn T rfl tu24 rfl fun _ T => v1 T rfl fun T => ?_)))
  rcases ifE H with ⟨h8, H⟩ | ⟨h8, H⟩
  ·refine cdT T rfl h8 (sk (sq (bq (sq (rg (v3 T rfl rfl rfl fun T => ?_))))))
   obtain ⟨h9, H⟩ := ck H
   refine r_ia (ix := 0) T S rfl rfl rfl rfl tu24 ts5 h9.1 h9.2 rfl fun _ T => r_ldE (ix := 0) (i := x7) (off := 0) (f := (Value.int .u8)) T S rfl ti5 rfl (0 : Int) _ rfl rfl (Fld.all _) h9.1 h9.2 id rfl fun _ T => r_conv T rfl tu5 tu99 rfl fun _ T => v2 T rfl rfl fun T => sq (rg (v1 T rfl fun T => bq (Gets.loop ?_)))
   exact L1_ok F r z x2 A3 k4 m5 x7 x1 (L0 z x2 m) ih z (bXor .u32 x6 (wr .u32 (gi (0 : Int) x2 x7))) 0 _ _ (T.sb rfl) (S.only [0] rfl) H
  ·refine cdF T rfl h8 (Gets.exit rfl (sq (rg (v2 T rfl rfl fun T => ?_))))
   obtain rfl := sj H
   exact rtn T Try.func91 rfl rfl ⟨rfl, (S.only [0] rfl)⟩
theorem ok (F : List Atom) (w : World) (z : Nat) (x1 : Int) (x2 : List Int) {A3 : OA} {k4 : Nat} {m5 : Md} (S : SL ([sl m5 ku8 A3 k4 x2] ++ F) w) (r : Int) (H : f z x1 x2 = some r) : Calls Try.prog 91 #[.int .u32 x1, .slice A3 x2.length k4] w (R F x2 A3 k4 m5 r) := by
 refine enter (vs := [.int .u32 x1, .slice A3 x2.length k4]) Try.func91 rfl Try.ntmps91 (nle rfl) fun a T => ?_
 refine sq (rg (v1 T rfl fun T => sq (sq (rg (v1 T rfl fun T => bq (Gets.loop ?_))))))
 exact L0_ok F r z x2 A3 k4 m5 x1 z x1 0 _ _ (T.sb rfl) (S.only [0] rfl) H
end r1_sum
namespace r1_sums
def R (F : List Atom) (x1 : List Int) (A2 : OA) (k3 : Nat) (m4 : Md) (x5 : List Int) (A6 : OA) (k7 : Nat) (m8 : Md) (r : (List Int)) : Ending → World → Prop := fun e w' => ∃ (A17 : OA), ∃ (k18 : Nat), e = .returned (.slice A17 r.length k18) ∧ SL ([sl .own ku8 A17 k18 r, sl m4 ku8 A2 k3 x1, sl m8 ku8 A6 k7 x5] ++ F) w'
def f (z : Nat) (x1 x5 : List Int) : Option (List Int) := Bd (r1_sum.f z 4294967295 x1) fun x10 => Bd (r1_sum.f z x10 x5) fun x12 => Bd (r1_Four.f (bXor .u32 x12 4294967295)) fun x14 => some x14
theorem ok (F : List Atom) (w : World) (z : Nat) (x1 x5 : List Int) {A2 : OA} {k3 : Nat} {m4 : Md} {A6 : OA} {k7 : Nat} {m8 : Md} (S : SL ([sl m4 ku8 A2 k3 x1, sl m8 ku8 A6 k7 x5] ++ F) w) (r : (List Int)) (H : f z x1 x5 = some r) : Calls Try.prog 93 #[.slice A2 x1.length k3, .slice A6 x5.length k7] w (R F x1 A2 k3 m4 x5 A6 k7 m8 r) := by
 refine enter (vs := [.slice A2 x1.length k3, .slice A6 x5.length k7]) Try.func93 rfl Try.ntmps93 (nle rfl) fun a T => ?_
 refine sq (rg (v1 T rfl fun T => sq (rg (v1 T rfl fun T => ?_))))
 obtain ⟨x10, h9, H⟩ := bd H
 refine rc T Try.call91 rfl rfl (r1_sum.ok _ _ z 4294967295 x1 (S.sel (is := [0]) rfl) _ h9) ?_
 rintro _ _ ⟨rfl, S⟩
 refine ⟨_, rfl, fun _ T => ?_⟩
 replace S := S.join
 refine v1 T rfl fun T => sq (rg (v2 T rfl rfl fun T => ?_))
 obtain ⟨x12, h11, H⟩ := bd H
 refine rc T Try.call91 rfl rfl (r1_sum.ok _ _ z x10 x5 (S.sel (is := [1]) rfl) _ h11) ?_
 rintro _ _ ⟨rfl, S⟩
 refine ⟨_, rfl, fun _ T => ?_⟩
 replace S := S.join
 refine v1 T rfl fun T => sq (rg (v2 T rfl rfl fun T => ?_))
 obtain ⟨x14, h13, H⟩ := bd H
 refine rc T Try.call76 rfl rfl (r1_Four.ok _ _ (bXor .u32 x12 4294967295) (S.sel (is := []) rfl) _ h13) ?_
 rintro _ _ ⟨A15, k16, rfl, S⟩
 refine ⟨_, rfl, fun _ T => ?_⟩
 replace S := S.join
 refine v1 T rfl fun T => ?_
 obtain rfl := sj H
 exact rtn T Try.func93 rfl rfl ⟨A15, k16, rfl, (S.only [0, 1, 0] rfl)⟩
end r1_sums
namespace r1_Frame
def R (F : List Atom) (x2 : List Int) (A3 : OA) (k4 : Nat) (m5 : Md) (r : (List Int) × Int) : Ending → World → Prop := fun e w' => ∃ (A25 : OA), ∃ (k26 : Nat), e = .returned (.tuple #[.slice A25 r.1.length k26, .int .i64 r.2]) ∧ SL ([sl .own ku8 A25 k26 r.1, sl m5 ku8 A3 k4 x2] ++ F) w'
def f (z : Nat) (x1 : Int) (x2 : List Int) : Option ((List Int) × Int) := If (decide ((x2.length : Int) > 2097152)) (some (([] : List Int), 12)) (Bd (r1_Number.f z (wr .u64 (x2.length : Int))) fun x8 => Ck (([x1].length + x8.length) * 1 ≤ 140737488355328) (Bd (r1_sums.f z ([x1] ++ x8) x2) fun x16 => Ck ((([x1] ++ x8).length + x16.length) * 1 ≤ 140737488355328) (Ck (((([x1] ++ x8) ++ x16).length + x2.length) * 1 ≤ 140737488355328) (some (((([x1] ++ x8) ++ x16) ++ x2), 0)))))
theorem ok (F : List Atom) (w : World) (z : Nat) (x1 : Int) (x2 : List Int) {A3 : OA} {k4 : Nat} {m5 : Md} (S : SL ([sl m5 ku8 A3 k4 x2] ++ F) w) (r : (List Int) × Int) (H : f z x1 x2 = some r) : Calls Try.prog 90 #[.int .u8 x1, .slice A3 x2.length k4] w (R F x2 A3 k4 m5 r) := by
 refine enter (vs := [.int .u8 x1, .slice A3 x2.length k4]) Try.func90 rfl Try.ntmps90 (nle rfl) fun a T => ?_
 refine sq (rg (v2 T rfl rfl fun T => sq (sq (rg (v1 T rfl fun T => rn T rfl tu24 rfl fun _ T => v1 T rfl fun T => ?_)))))
 rcases ifE H with ⟨h6, H⟩ | ⟨h6, H⟩
 ·refine cdT T rfl h6 (sq (rg (v2 T rfl rfl fun T => ?_)))
  replace S := S.nil ku8 .own
  obtain rfl := sj H
  exact rtn T Try.func90 rfl rfl ⟨none, 0, rfl, (S.only [0, 0] rfl)⟩
 ·refine cdF T rfl h6 (sk (sq (rg (v1 T rfl fun T => rn T rfl tu24 rfl fun _ T => r_conv T rfl tu3 tu34 rfl fun _ T => ?_))))
  obtain ⟨x8, h7, H⟩ := bd H
  refine rc T tc70 rfl rfl (r1_Number.ok _ _ z (wr .u64 (x2.length : Int)) (S.sel (is := []) rfl) _ h7) ?_
  rintro _ _ ⟨A9, k10, rfl, S⟩
  refine ⟨_, rfl, fun _ T => ?_⟩
  replace S := S.join
  refine v1 T rfl fun T => sq (rg (v1 T rfl fun T => ?_))
  replace S := SL.val (κ := ku8) (x := x1) (cs := [.int .u8 x1]) (fun _ => rfl) S
  refine r_bsl (κ := ku8) (xs := [x1]) (vs := [.int .u8 x1]) T S sty24 rfl ⟨_, _, rfl, ⟨0, rfl⟩, rfl⟩ rfl (by decide) rfl fun _ _ b11 S T => ?_
  replace S := S.only [0, 1, 1] rfl
  refine v1 T rfl fun T => ?_
  obtain ⟨h14, H⟩ := ck H
  refine r_app (ix := 0) (iy := 1) (xs := [x1]) (ys := x8) T S rfl rfl rfl rfl (by decide) sty24 tu24 (by decide) h14 rfl fun _ _ A12 k13 S T => ?_
  refine v1 T rfl fun T => sq (rg (v2 T rfl rfl fun T => ?_))
  obtain ⟨x16, h15, H⟩ := bd H
  refine rc T Try.call93 rfl rfl (r1_sums.ok _ _ z ([x1] ++ x8) x2 (S.sel (is := [0, 1]) rfl) _ h15) ?_
  rintro _ _ ⟨A17, k18, rfl, S⟩
  refine ⟨_, rfl, fun _ T => ?_⟩
  replace S := S.join
  refine v1 T rfl fun T => sq (rg (v2 T rfl rfl fun T => ?_))
  obtain ⟨h21, H⟩ := ck H
  refine r_app (ix := 1) (iy := 0) (xs := ([x1] ++ x8)) (ys := x16) T S rfl rfl rfl rfl (by decide) sty24 tu24 (by decide) h21 rfl fun _ _ A19 k20 S T => ?_
  refine v1 T rfl fun T => sq (rg (v2 T rfl rfl fun T => ?_))
  obtain ⟨h24, H⟩ := ck H
  refine r_app (ix := 1) (iy := 2) (xs := (([x1] ++ x8) ++ x16)) (ys := x2) T S rfl rfl rfl rfl (by decide) sty24 tu24 (by decide) h24 rfl fun _ _ A22 k23 S T => ?_
  refine v2 T rfl rfl fun T => ?_
  obtain rfl := sj H
  exact rtn T Try.func90 rfl rfl ⟨A22, k23, rfl, (S.only [1, 1] rfl)⟩
end r1_Frame
namespace r4_put
def R (F : List Atom) (x5 : List Int) (A6 : OA) (k7 : Nat) (m8 : Md) (r : (List Int)) : Ending → World → Prop := fun e w' => ∃ (A16 : OA), ∃ (k17 : Nat), e = .returned (.slice A16 r.length k17) ∧ SL ([sl .own ku8 A16 k17 r, sl m8 ku8 A6 k7 x5] ++ F) w'
def f (z : Nat) (x1 : List Int) (x4 : Int) (x5 : List Int) : Option (List Int) := Bd (r1_Frame.f z x4 x5) fun x10 => Ck ((x1.length + x10.1.length) * 1 ≤ 140737488355328) (some (x1 ++ x10.1))
theorem ok (F : List Atom) (w : World) (z : Nat) (x1 : List Int) (x4 : Int) (x5 : List Int) {A2 : OA} {k3 : Nat} {A6 : OA} {k7 : Nat} {m8 : Md} (S : SL ([sl .own ku8 A2 k3 x1, sl m8 ku8 A6 k7 x5] ++ F) w) (r : (List Int)) (H : f z x1 x4 x5 = some r) : Calls Try.prog 72 #[.slice A2 x1.length k3, .int .u8 x4, .slice A6 x5.length k7] w (R F x5 A6 k7 m8 r) := by
 refine enter (vs := [.slice A2 x1.length k3, .int .u8 x4, .slice A6 x5.length k7]) Try.func72 rfl Try.ntmps72 (nle rfl) fun a T => ?_
 refine sq (rg (v1 T rfl fun T => sq (rg (v2 T rfl rfl fun T => ?_))))
 obtain ⟨x10, h9, H⟩ := bd H
 refine rc T Try.call90 rfl rfl (r1_Frame.ok _ _ z x4 x5 (S.sel (is := [1]) rfl) _ h9) ?_
 rintro _ _ ⟨A11, k12, rfl, S⟩
 refine ⟨_, rfl, fun _ T => ?_⟩
 replace S := S.join
 refine v3 T rfl rfl rfl fun T => v2 T rfl rfl fun T => sq (rg (v2 T rfl rfl fun T => ?_))
 obtain ⟨h15, H⟩ := ck H
 refine r_app (ix := 2) (iy := 0) (xs := x1) (ys := x10.1) T S rfl rfl rfl rfl (by decide) sty24 tu24 (by decide) h15 rfl fun _ _ A13 k14 S T => ?_
 refine v1 T rfl fun T => ?_
 obtain rfl := sj H
 exact rtn T Try.func72 rfl rfl ⟨A13, k14, rfl, (S.only [2, 1] rfl)⟩
end r4_put
namespace r1_Text
def R (F : List Atom) (x1 : List Int) (A2 : OA) (k3 : Nat) (m4 : Md) (r : (List Int) × Int) : Ending → World → Prop := fun e w' => ∃ (A13 : OA), ∃ (k14 : Nat), e = .returned (.tuple #[.slice A13 r.1.length k14, .int .i64 r.2]) ∧ SL ([sl .own ku8 A13 k14 r.1, sl m4 ku8 A2 k3 x1] ++ F) w'
def f (z : Nat) (x1 : List Int) : Option ((List Int) × Int) := If (decide ((x1.length : Int) > 2097152)) (some (([] : List Int), 12)) (Bd (r1_Number.f z (wr .u64 (x1.length : Int))) fun x7 => Ck ((x7.length + x1.length) * 1 ≤ 140737488355328) (some ((x7 ++ x1), 0)))
theorem ok (F : List Atom) (w : World) (z : Nat) (x1 : List Int) {A2 : OA} {k3 : Nat} {m4 : Md} (S : SL ([sl m4 ku8 A2 k3 x1] ++ F) w) (r : (List Int) × Int) (H : f z x1 = some r) : Calls Try.prog 73 #[.slice A2 x1.length k3] w (R F x1 A2 k3 m4 r) := by
 refine enter (vs := [.slice A2 x1.length k3]) Try.func73 rfl Try.ntmps73 (nle rfl) fun a T => ?_
 refine sq (rg (v2 T rfl rfl fun T => sq (sq (rg (v1 T rfl fun T => rn T rfl tu24 rfl fun _ T => v1 T rfl fun T => ?_)))))
 rcases ifE H with ⟨h5, H⟩ | ⟨h5, H⟩
 ·refine cdT T rfl h5 (sq (rg (v2 T rfl rfl fun T => ?_)))
  replace S := S.nil ku8 .own
  obtain rfl := sj H
  exact rtn T Try.func73 rfl rfl ⟨none, 0, rfl, (S.only [0, 0] rfl)⟩
 ·refine cdF T rfl h5 (sk (sq (rg (v1 T rfl fun T => rn T rfl tu24 rfl fun _ T => r_conv T rfl tu3 tu34 rfl fun _ T => ?_))))
  obtain ⟨x7, h6, H⟩ := bd H
  refine rc T tc70 rfl rfl (r1_Number.ok _ _ z (wr .u64 (x1.length : Int)) (S.sel (is := []) rfl) _ h6) ?_
  rintro _ _ ⟨A8, k9, rfl, S⟩
  refine ⟨_, rfl, fun _ T => ?_⟩
  replace S := S.join
  refine v1 T rfl fun T => sq (rg (v2 T rfl rfl fun T => ?_))
  obtain ⟨h12, H⟩ := ck H
  refine r_app (ix := 0) (iy := 1) (xs := x7) (ys := x1) T S rfl rfl rfl rfl (by decide) sty24 tu24 (by decide) h12 rfl fun _ _ A10 k11 S T => ?_
  refine v2 T rfl rfl fun T => ?_
  obtain rfl := sj H
  exact rtn T Try.func73 rfl rfl ⟨A10, k11, rfl, (S.only [0, 0] rfl)⟩
end r1_Text
namespace r1_Sum
def R (F : List Atom) (x1 : List Int) (A2 : OA) (k3 : Nat) (m4 : Md) (r : Int) : Ending → World → Prop := fun e w' => e = .returned (.int .u32 r) ∧ SL ([sl m4 ku8 A2 k3 x1] ++ F) w'
def f (z : Nat) (x1 : List Int) : Option Int := Bd (r1_sum.f z 4294967295 x1) fun x6 => some (bXor .u32 x6 4294967295)
theorem ok (F : List Atom) (w : World) (z : Nat) (x1 : List Int) {A2 : OA} {k3 : Nat} {m4 : Md} (S : SL ([sl m4 ku8 A2 k3 x1] ++ F) w) (r : Int) (H : f z x1 = some r) : Calls Try.prog 75 #[.slice A2 x1.length k3] w (R F x1 A2 k3 m4 r) := by
 refine enter (vs := [.slice A2 x1.length k3]) Try.func75 rfl Try.ntmps75 (nle rfl) fun a T => ?_
 refine sq (rg (v1 T rfl fun T => sq (rg (v1 T rfl fun T => ?_))))
 obtain ⟨x6, h5, H⟩ := bd H
 refine rc T Try.call91 rfl rfl (r1_sum.ok _ _ z 4294967295 x1 (S.sel (is := [0]) rfl) _ h5) ?_
 rintro _ _ ⟨rfl, S⟩
 refine ⟨_, rfl, fun _ T => ?_⟩
 replace S := S.join
 refine v1 T rfl fun T => sq (rg (v3 T rfl rfl rfl fun T => ?_))
 obtain rfl := sj H
 exact rtn T Try.func75 rfl rfl ⟨rfl, (S.only [0] rfl)⟩
end r1_Sum
namespace r4_eight
noncomputable def c0 : Code := match Try.f74.body with | some c => c | none => .skip
def R (F : List Atom) (r : (List Int)) : Ending → World → Prop := fun e w' => ∃ (A11 : OA), ∃ (k12 : Nat), e = .returned (.slice A11 r.length k12) ∧ SL ([sl .own ku8 A11 k12 r] ++ F) w'
def L0 (z : Nat) : Nat → Int → (List Int) → Int → Option (List Int)
 | 0, _, _, _ => none
 | m + 1, x4, x5, x8 => If (decide (x8 ≥ 0)) (Ck (0 ≤ x8 ∧ x8 < (x5.length : Int)) (L0 z m (wr .u64 (Int.tdiv x4 256)) (x5.set (Int.toNat x8) (wr .u8 (Int.tmod x4 256))) (wr .i64 (x8 - 1)))) (some x5)
def f (z : Nat) (x1 : Int) : Option (List Int) := Ck (1 * 8 ≤ 281474976710656) (L0 z z x1 (List.replicate (Int.toNat 8) (0 : Int)) 7)
noncomputable def ptL0 : List Item := [.code (cB (cB (cR (cL (cR (cR c0)))))), .inLoop (cB (cB (cR (cL (cR (cR c0)))))), .inBlock 0, .code (cr 3 c0)]
theorem L0_ok (F : List Atom) (r : (List Int)) (z : Nat) (x1 : Int) (m : Nat) : ∀ (x4 : Int) (A6 : OA) (x5 : List Int) (k7 : Nat) (x8 : Int) (a : Act) (w : World), Tm 19 [(0, .int .u64 x4), (3, .slice A6 x5.length k7), (4, .int .i64 x8)] a → SL ([sl .own ku8 A6 k7 x5] ++ F) w → L0 z m x4 x5 x8 = some r → Gets Try.prog 74 ptL0 a w (R F r) := by
 induction m with
 | zero => intro _ _ _ _ _ _ _ _ _ H; cases H
 | succ m ih =>
  intro x4 A6 x5 k7 x8 a w T S H
  refine sq (sq (rg (v2 T rfl rfl fun T => ?_)))
  rcases ifE H with ⟨h9, H⟩ | ⟨h9, H⟩
  ·refine cdT T rfl h9 (sk (sq (bq (sq (rg (v3 T rfl rfl rfl fun T => ?_))))))
   refine r_rem T rfl rfl (by decide) rfl fun _ T => ?_
   refine r_conv T rfl tu34 tu5 rfl fun _ T => ?_
   obtain ⟨h10, H⟩ := ck H
   refine r_ia (ix := 0) T S rfl rfl rfl rfl tu24 ts5 h10.1 h10.2 rfl fun _ T => r_stE (ix := 0) (i := x8) (u := wr .u8 (Int.tmod x4 256)) T S rfl rfl rfl rfl (fun _ => rfl) ts5 h10.1 h10.2 rfl fun _ S => rg (v1 T rfl fun T => ?_)
   refine r_quo T rfl rfl (by decide) rfl fun _ T => ?_
   refine v1 T rfl fun T => Gets.inBlock (rg (v3 T rfl rfl rfl fun T => Gets.inLoop ?_))
   have T := T.re (s := 3) (v' := .slice A6 (x5.set (Int.toNat x8) (wr .u8 (Int.tmod x4 256))).length k7) rfl (by simp)
   exact ih (wr .u64 (Int.tdiv x4 256)) A6 (x5.set (Int.toNat x8) (wr .u8 (Int.tmod x4 256))) k7 (wr .i64 (x8 - 1)) _ _ (T.sb rfl) (S.only [0] rfl) H
  ·refine cdF T rfl h9 (Gets.exit rfl (sq (rg (v2 T rfl rfl fun T => ?_))))
   obtain rfl := sj H
   exact rtn T Try.func74 rfl rfl ⟨A6, k7, rfl, (S.only [0] rfl)⟩
theorem ok (F : List Atom) (w : World) (z : Nat) (x1 : Int) (S : SL ([] ++ F) w) (r : (List Int)) (H : f z x1 = some r) : Calls Try.prog 74 #[.int .u64 x1] w (R F r) := by
 refine enter (vs := [.int .u64 x1]) Try.func74 rfl Try.ntmps74 (nle rfl) fun a T => ?_
 refine sq (rg (v1 T rfl fun T => sq (rg ?_)))
 obtain ⟨h2, H⟩ := ck H
 refine r_make (κ := ku8) T S rfl rfl sty24 (0 : Int) (fun _ => rfl) (by decide) (Int.le_refl _) (by decide) (by have := h2; omega) rfl fun _ _ b3 S T => ?_
 replace T := T.re (s := 5) (v' := .slice (some ⟨b3, 0, none⟩) (List.replicate (Int.toNat 8) (0 : Int)).length (Int.toNat 8)) rfl (by simp)
 refine v1 T rfl fun T => sq (sq (rg (v1 T rfl fun T => bq (Gets.loop ?_))))
 exact L0_ok F r z x1 z x1 (some ⟨b3, 0, none⟩) (List.replicate (Int.toNat 8) (0 : Int)) (Int.toNat 8) 7 _ _ (T.sb rfl) (S.only [0] rfl) H
end r4_eight
theorem refNumber_L0 (z : Nat) : ∀ (k n m : Nat) (acc : List Int), n < 128 ^ k → n < 18446744073709551616 → 1 ≤ k → k ≤ m → acc.length + k ≤ 100 → r1_Number.L0 z m (n : Int) acc = some (acc ++ num n)
 | 0, _, _, _, _, _, h, _, _ => by omega
 | k + 1, n, 0, _, _, _, _, h, _ => by omega
 | k + 1, n, m + 1, acc, h, h64, _, hm, hl => by
  unfold r1_Number.L0
  by_cases hn : n ≤ 127
  ·rw [if_n (by simp; omega), ck_y (by simp; omega)]
   unfold num
   rw [if_pos hn]
   simp [wB]
   omega
  ·have hk : 1 ≤ k := by
    rcases k with _ | k
    ·simp at h; omega
    ·omega
   rw [if_y (by simp; omega), ck_y (by simp; omega), tmod_nn (by omega), tdiv_nn (by omega), wU (x := 128 + (n : Int) % 128) (by omega), wU (x := (n : Int) / 128) (by omega), wB, show (128 + (n : Int) % 128) % 256 = ((n % 128 + 128 : Nat) : Int) by omega, show ((n : Int) / 128) = ((n / 128 : Nat) : Int) by omega,
    refNumber_L0 z k (n / 128) m _ (by rw [Nat.pow_succ] at h; exact Nat.div_lt_of_lt_mul (by omega)) (by omega) hk (by omega) (by simp; omega)]
   rw [num.eq_1 n, if_neg hn, List.append_assoc]
   rfl
theorem refNumber_f {z : Nat} (hz : 16777216 ≤ z) {n : Nat} (h : n < 18446744073709551616) : r1_Number.f z (n : Int) = some (num n) := by
 have := refNumber_L0 z 10 n z [] (by omega) h (by omega) (by omega) (by simp)
 rw [List.nil_append] at this
 exact this
theorem refNumber_i {z : Nat} (hz : 16777216 ≤ z) {x : Int} (h : 0 ≤ x ∧ x ≤ 18446744073709551615) : r1_Number.f z x = some (num x.toNat) := by
 obtain ⟨n, rfl⟩ := Int.eq_ofNat_of_zero_le h.1
 exact refNumber_f hz (by omega)
theorem refText_f {z : Nat} (hz : 16777216 ≤ z) {s : List Int} (h : s.length ≤ 2097152) : r1_Text.f z s = some (txt s, 0) := by
 have := num_len10 (n := s.length) (by omega)
 unfold r1_Text.f
 rw [if_n (by simp; omega), wU (by omega), refNumber_f hz (by omega), bd_some, ck_y (by omega)]
 rfl
theorem refstp (c : BitVec 32) : (if Int.tmod (iv c) 2 = 1 then bXor .u32 (wr .u32 (Int.tdiv (iv c) 2)) 3988292384 else wr .u32 (Int.tdiv (iv c) 2)) = iv (stp c) := by
 have h0 : 0 ≤ iv c := by unfold iv; omega
 have hd : wr .u32 (Int.tdiv (iv c) 2) = iv (c >>> 1) := by
  have : iv c / (2 : Int) = iv (c >>> 1) := by
   unfold iv
   rw [BitVec.toNat_ushiftRight, Nat.shiftRight_eq_div_pow]
   omega
  rw [tdiv_nn h0, this, wr_iv]
 rw [hd, tmod_nn h0, show (3988292384 : Int) = iv 3988292384#32 from rfl, xor_iv]
 have hb : c &&& 1#32 = if iv c % 2 = 1 then 1#32 else 0#32 := by
  have e : (c &&& 1#32).toNat = c.toNat % 2 := by rw [BitVec.toNat_and]; exact Nat.and_one_is_mod _
  have : iv c % 2 = ((c.toNat % 2 : Nat) : Int) := by unfold iv; omega
  apply BitVec.eq_of_toNat_eq
  rw [e, this]
  split
  ·rename_i h; simp; omega
  ·rename_i h; simp; omega
 unfold stp
 rw [hb]
 split
 ·congr 1
 ·congr 1
  have : (3988292384#32 &&& (0#32 - 0#32)) = 0#32 := by decide
  rw [this]
  simp
theorem refsum_L1 (z : Nat) (hz : 16777216 ≤ z) (q : Int → Int → Option Int) (xs : List Int) (i : Int) (c : BitVec 32) (hi : 0 ≤ i ∧ i ≤ 4611686018427387904) :
  r1_sum.L1 z q xs i z (iv c) 0 = q (iv (stp (stp (stp (stp (stp (stp (stp (stp c))))))))) (i + 1) := by
 obtain ⟨n, rfl⟩ : ∃ n, z = n + 9 := ⟨z - 9, by omega⟩
 have one : ∀ (m : Nat) (c : BitVec 32) (j : Int), 0 ≤ j ∧ j < 8 → r1_sum.L1 (n + 9) q xs i (m + 1) (iv c) j = r1_sum.L1 (n + 9) q xs i m (iv (stp c)) (j + 1) := by
  intro m c j hj
  rw [r1_sum.L1, if_y (by simp; omega)]
  unfold r1_sum.J2
  rw [wI (by omega), ← refstp]
  by_cases h : Int.tmod (iv c) 2 = 1
  ·rw [if_y (by simpa using h), if_pos h]
  ·rw [if_n (by simpa using h), if_neg h]
 rw [one _ _ _ (by omega), one _ _ _ (by omega), one _ _ _ (by omega), one _ _ _ (by omega), one _ _ _ (by omega), one _ _ _ (by omega), one _ _ _ (by omega), one _ _ _ (by omega)]
 rw [r1_sum.L1, if_n (by simp), wI (by omega)]
theorem refsum_L0 (z : Nat) (hz : 16777216 ≤ z) (xs : List Int) (hx : xs.length ≤ 16777215) : ∀ (k m i : Nat) (c : BitVec 32), xs.length - i = k → i ≤ xs.length → k < m →
  r1_sum.L0 z xs m (iv c) (i : Int) = some (iv (crc c (xs.drop i)))
 | k, 0, _, _, _, _, h => by omega
 | 0, m + 1, i, c, hk, hi, _ => by
  rw [r1_sum.L0, if_n (by simp; omega), List.drop_eq_nil_of_le (by omega)]
  rfl
 | k + 1, m + 1, i, c, hk, hi, hm => by
  rw [r1_sum.L0, if_y (by simp; omega), ck_y (by omega), xor_by, refsum_L1 z hz _ _ _ _ (by omega), gi_nat _ _ _ (by omega), List.drop_eq_getElem_cons (by omega)]
  exact refsum_L0 z hz xs hx k m (i + 1) _ (by omega) (by omega) (by omega)
theorem refsum_f {z : Nat} (hz : 16777216 ≤ z) {xs : List Int} (hx : xs.length ≤ 16777215) (c : BitVec 32) : r1_sum.f z (iv c) xs = some (iv (crc c xs)) :=
 refsum_L0 z hz xs hx xs.length z 0 c (by omega) (by omega) (by omega)
theorem Four_f (c : BitVec 32) : r1_Four.f (iv c) = some (le4 c) := by
 have h0 : 0 ≤ iv c ∧ iv c < 4294967296 := by unfold iv; have := c.isLt; omega
 unfold r1_Four.f le4
 rw [tmod_nn h0.1, tdiv_nn h0.1, tdiv_nn h0.1, tdiv_nn h0.1, wW, wW, wW, tmod_nn (by omega), tmod_nn (by omega), wB, wB, wB, wB]
 simp only [Option.some.injEq, List.cons.injEq, and_true]
 refine ⟨?_, ?_, ?_, ?_⟩ <;> omega
theorem not32 (c : BitVec 32) : bXor .u32 (iv c) 4294967295 = iv (~~~c) := by
 rw [show (4294967295 : Int) = iv 4294967295#32 from rfl, xor_iv]
 congr 1
 rw [show 4294967295#32 = BitVec.allOnes 32 from by decide, BitVec.xor_allOnes]
theorem refsums_f {z : Nat} (hz : 16777216 ≤ z) {xs ys : List Int} (hx : xs.length ≤ 16777215) (hy : ys.length ≤ 16777215) : r1_sums.f z xs ys = some (sum4 (xs ++ ys)) := by
 unfold r1_sums.f
 rw [show (4294967295 : Int) = iv 4294967295#32 from rfl, refsum_f hz hx, bd_some, refsum_f hz hy, bd_some, show iv 4294967295#32 = 4294967295 from rfl, not32, Four_f, bd_some, ← crc_app]
 rfl
theorem refSum_f {z : Nat} (hz : 16777216 ≤ z) {xs : List Int} (hx : xs.length ≤ 16777215) : r1_Sum.f z xs = some (iv (~~~(crc 4294967295#32 xs))) := by
 unfold r1_Sum.f
 rw [show (4294967295 : Int) = iv 4294967295#32 from rfl, refsum_f hz hx, bd_some, show iv 4294967295#32 = 4294967295 from rfl, not32]
theorem refFrame_f {z : Nat} (hz : 16777216 ≤ z) (kind : Int) {body : List Int} (hb : body.length ≤ 2097152) : r1_Frame.f z kind body = some (frm kind body, 0) := by
 have h10 := num_len10 (n := body.length) (by omega)
 unfold r1_Frame.f
 rw [if_n (by simp; omega), wU (by omega), refNumber_f hz (by omega), bd_some, ck_y (by simp; omega), refsums_f hz (by simp; omega) (by omega), bd_some, ck_y (by simp [sum4, le4]; omega), ck_y (by simp [sum4, le4]; omega)]
 simp [frm, hd]
theorem put_f {z : Nat} (hz : 16777216 ≤ z) {out : List Int} (ho : out.length ≤ 134217728) (kind : Int) {body : List Int} (hb : body.length ≤ 2097152) : r4_put.f z out kind body = some (out ++ frm kind body) := by
 have h10 := num_len10 (n := body.length) (by omega)
 unfold r4_put.f
 rw [refFrame_f hz kind hb, bd_some, ck_y (by dsimp only; rw [frm_len]; omega)]
theorem eight_f {z : Nat} (hz : 16777216 ≤ z) {n : Int} (hn : 0 ≤ n ∧ n ≤ 18446744073709551615) : r4_eight.f z n = some (highS n 8) := by
 obtain ⟨k, rfl⟩ : ∃ k, z = k + 9 := ⟨z - 9, by omega⟩
 have one : ∀ (m : Nat) (x : Int) (xs : List Int) (j : Int), 0 ≤ x ∧ x ≤ 18446744073709551615 → xs.length = 8 → 0 ≤ j ∧ j < 8 → r4_eight.L0 (k + 9) (m + 1) x xs j = r4_eight.L0 (k + 9) m (x / 256) (xs.set j.toNat (x % 256)) (j - 1) := by
  intro m x xs j hx hxs hj
  rw [r4_eight.L0, if_y (by simp; omega), ck_y (by omega), tdiv_nn hx.1, tmod_nn hx.1, wU (by omega), wI (by omega), wB, Int.emod_emod_of_dvd _ (by decide)]
 unfold r4_eight.f
 rw [ck_y (by decide), show List.replicate (Int.toNat 8) (0 : Int) = [0, 0, 0, 0, 0, 0, 0, 0] from rfl]
 rw [one _ _ _ _ (by omega) rfl (by omega)]
 rw [one _ _ _ _ (by omega) (by simp) (by omega)]
 rw [one _ _ _ _ (by omega) (by simp) (by omega)]
 rw [one _ _ _ _ (by omega) (by simp) (by omega)]
 rw [one _ _ _ _ (by omega) (by simp) (by omega)]
 rw [one _ _ _ _ (by omega) (by simp) (by omega)]
 rw [one _ _ _ _ (by omega) (by simp) (by omega)]
 rw [one _ _ _ _ (by omega) (by simp) (by omega)]
 rw [r4_eight.L0, if_n (by simp)]
 simp only [List.set, highS, List.range, List.range.loop, List.map, Int.reduceSub, Int.reduceToNat]
 congr 1
 refine List.ext_getElem (by simp) fun i h1 h2 => ?_
 simp only [List.length_cons, List.length_nil] at h1
 rcases i with _ | _ | _ | _ | _ | _ | _ | _ | i <;> simp <;> omega
theorem gi_mid {α : Type} (d : α) (p : List α) (x : α) (q : List α) (i : Int) (hi : i = p.length) : gi d (p ++ x :: q) i = x := by
 subst hi
 unfold gi
 simp
theorem and127 (c : Int) (h : 0 ≤ c ∧ c < 256) : bAnd .u8 c 127 = c % 128 := by
 have : ∀ i : Fin 256, bAnd .u8 (i.val : Int) 127 = ((i.val % 128 : Nat) : Int) := by decide +kernel
 have q := this ⟨c.toNat, by omega⟩
 simp only [show ((c.toNat : Nat) : Int) = c by omega] at q
 rw [q]
 omega
theorem or64 (a d k : Nat) (hk63 : k ≤ 63) (ha : a < 2 ^ k) (hd : d * 2 ^ k < 18446744073709551616) : bOr .u64 (a : Int) ((d * 2 ^ k : Nat) : Int) = ((a + d * 2 ^ k : Nat) : Int) := by
 have h1 : a ||| d * 2 ^ k = a + d * 2 ^ k := by
  have := Nat.two_pow_add_eq_or_of_lt ha d
  rw [Nat.mul_comm d, Nat.or_comm, ← this, Nat.add_comm]
 rcases Nat.eq_zero_or_pos d with rfl | hp
 ·simp only [Nat.zero_mul, Nat.add_zero]
  have hk := Nat.pow_le_pow_right (n := 2) (by omega) hk63
  ·show wr .u64 (((BitVec.ofInt 64 (a : Int) ||| BitVec.ofInt 64 ((0 : Nat) : Int)).toNat : Nat) : Int) = _
   rw [BitVec.toNat_or, BitVec.toNat_ofInt, BitVec.toNat_ofInt, wU']
   simp
   omega
 ·have hk : 2 ^ k ≤ d * 2 ^ k := Nat.le_mul_of_pos_left _ hp
  have hlt : a + d * 2 ^ k < 18446744073709551616 := by
   rw [← h1]
   have q1 : a < 2 ^ 64 := by omega
   have q2 : d * 2 ^ k < 2 ^ 64 := by omega
   have := Nat.or_lt_two_pow q1 q2
   omega
  show wr .u64 (((BitVec.ofInt 64 (a : Int) ||| BitVec.ofInt 64 ((d * 2 ^ k : Nat) : Int)).toNat : Nat) : Int) = _
  rw [BitVec.toNat_or, BitVec.toNat_ofInt, BitVec.toNat_ofInt, wU']
  have e1 : ((a : Int) % ((2 ^ 64 : Nat) : Int)).toNat = a := by omega
  have e2 : (((d * 2 ^ k : Nat) : Int) % ((2 ^ 64 : Nat) : Int)).toNat = d * 2 ^ k := by omega
  rw [e1, e2, h1]
  omega
theorem take_step (a : Nat) (i : Nat) (c : Int) (hc : 0 ≤ c ∧ c < 256) (hi : i ≤ 9) (ha : a < 2 ^ (7 * i)) (hd : (c % 128).toNat * 2 ^ (7 * i) < 18446744073709551616) :
  bOr .u64 (a : Int) (sShl .u64 (wr .u64 (bAnd .u8 c 127)) (wr .i64 (7 * (i : Int)))) = ((a + (c % 128).toNat * 2 ^ (7 * i) : Nat) : Int) := by
 rw [and127 c hc, wU (by omega), wI (by omega)]
 have e : sShl .u64 (c % 128) (7 * (i : Int)) = (((c % 128).toNat * 2 ^ (7 * i) : Nat) : Int) := by
  show wr .u64 (c % 128 * 2 ^ (min (7 * (i : Int)).toNat 64)) = _
  rw [show min (7 * (i : Int)).toNat 64 = 7 * i by omega]
  have e1 : c % 128 * (2 : Int) ^ (7 * i) = (((c % 128).toNat * 2 ^ (7 * i) : Nat) : Int) := by
   rw [Int.natCast_mul, Int.natCast_pow]
   rw [show (((c % 128).toNat : Nat) : Int) = c % 128 by omega]
   rfl
  rw [e1, wU (by omega)]
 rw [e, or64 _ _ _ (by omega) ha hd]
theorem TakeNumber_num (z : Nat) (rest : List Int) : ∀ (n : Nat) (p : List Int) (a m : Nat), a < 2 ^ (7 * p.length) → n * 2 ^ (7 * p.length) < 18446744073709551616 → (p.length = 0 ∨ 0 < n) → p.length ≤ 9 → (num n).length ≤ m →
  c_TakeNumber.L0 z (p ++ (num n ++ rest)) m (a : Int) (p.length : Int) = some (((a + n * 2 ^ (7 * p.length) : Nat) : Int), ((p.length + (num n).length : Nat) : Int), 0) := by
 intro n
 induction n using Nat.strongRecOn with
 | ind n ih =>
  intro p a m ha hn hp h9 hm
  rw [num.eq_1 n] at hm ⊢
  by_cases h : n ≤ 127
  ·rw [if_pos h] at hm ⊢
   obtain ⟨m, rfl⟩ : ∃ k, m = k + 1 := ⟨m - 1, by simp at hm; omega⟩
   have hg : gi (0 : Int) (p ++ ([(n : Int)] ++ rest)) (p.length : Int) = (n : Int) := gi_mid _ _ _ _ _ rfl
   rw [c_TakeNumber.L0, if_y (by simp; omega), if_n (by simp; omega), ck_y (by simp; omega), ck_y (by rw [wI (by omega)]; omega), hg, if_n (by simp; omega)]
   have hJ2 : c_TakeNumber.J2 z (p ++ ([(n : Int)] ++ rest)) (a : Int) (p.length : Int) = some (((a + n * 2 ^ (7 * p.length) : Nat) : Int), ((p.length + 1 : Nat) : Int), 0) := by
    unfold c_TakeNumber.J2
    rw [hg, take_step a p.length n (by omega) h9 ha (by rw [show ((n : Int) % 128).toNat = n by omega]; exact hn), show ((n : Int) % 128).toNat = n by omega, wI (by omega)]
    rfl
   have hJ1 : c_TakeNumber.J1 z (p ++ ([(n : Int)] ++ rest)) (a : Int) (p.length : Int) = some (((a + n * 2 ^ (7 * p.length) : Nat) : Int), ((p.length + 1 : Nat) : Int), 0) := by
    unfold c_TakeNumber.J1
    by_cases h10 : p.length = 9
    ·rw [if_y (by simp [h10]), hg, if_n (by rw [h10] at hn; simp; omega), hJ2]
    ·rw [if_n (by simp; omega), hJ2]
   rcases hp with hp | hp
   ·rw [if_n (by rw [decide_eq_false_iff_not]; omega), hJ1]; rfl
   ·by_cases hp0 : p.length = 0
    ·rw [if_n (by rw [decide_eq_false_iff_not]; omega), hJ1]; rfl
    ·rw [if_y (by rw [decide_eq_true_iff]; omega), if_n (by rw [beq_eq_false_iff_ne]; omega), hJ1]; rfl
  ·rw [if_neg h] at hm ⊢
   obtain ⟨m, rfl⟩ : ∃ k, m = k + 1 := ⟨m - 1, by simp at hm; omega⟩
   have h8 : p.length ≤ 8 := by
    rcases Nat.lt_or_ge 8 p.length with q | q
    ·have : p.length = 9 := by omega
     rw [this] at hn
     omega
    ·exact q
   obtain ⟨c, hc⟩ : ∃ c : Int, c = ((n % 128 + 128 : Nat) : Int) := ⟨_, rfl⟩
   have hg : gi (0 : Int) (p ++ ((((n % 128 + 128 : Nat) : Int) :: num (n / 128)) ++ rest)) (p.length : Int) = ((n % 128 + 128 : Nat) : Int) := gi_mid _ _ _ _ _ rfl
   rw [c_TakeNumber.L0, if_y (by simp; omega), if_n (by simp; omega), ck_y (by simp; omega), ck_y (by rw [wI (by omega)]; omega), hg, if_y (by simp; omega)]
   have hdiv : n / 128 * 2 ^ (7 * (p.length + 1)) + n % 128 * 2 ^ (7 * p.length) = n * 2 ^ (7 * p.length) := by
    rw [show 7 * (p.length + 1) = 7 + 7 * p.length by omega, Nat.pow_add, ← Nat.mul_assoc, ← Nat.add_mul, show n / 128 * 2 ^ 7 + n % 128 = n by omega]
   rw [take_step a p.length _ (by omega) h9 ha (by rw [show ((((n % 128 + 128 : Nat) : Int)) % 128).toNat = n % 128 by omega]; omega), show ((((n % 128 + 128 : Nat) : Int)) % 128).toNat = n % 128 by omega, wI (by omega)]
   have := ih (n / 128) (by omega) (p ++ [((n % 128 + 128 : Nat) : Int)]) (a + n % 128 * 2 ^ (7 * p.length)) m ?_ ?_ (.inr (by omega)) (by simp; omega) (by simpa using hm)
   ·simp only [List.length_append, List.length_singleton] at this
    rw [show p ++ ((((n % 128 + 128 : Nat) : Int) :: num (n / 128)) ++ rest) = p ++ [((n % 128 + 128 : Nat) : Int)] ++ (num (n / 128) ++ rest) by simp]
    rw [show ((p.length : Int) + 1) = ((p.length + 1 : Nat) : Int) from rfl, this]
    congr 2
    ·congr 1; omega
    ·simp; omega
   ·simp only [List.length_append, List.length_singleton]
    rw [show 7 * (p.length + 1) = 7 + 7 * p.length by omega, Nat.pow_add]
    have : n % 128 * 2 ^ (7 * p.length) ≤ 127 * 2 ^ (7 * p.length) := Nat.mul_le_mul_right _ (by omega)
    omega
   ·simp only [List.length_append, List.length_singleton]
    omega
theorem TakeNumber_f {z : Nat} (hz : 16777216 ≤ z) (n : Nat) (hn : n < 18446744073709551616) (rest : List Int) : c_TakeNumber.f z (num n ++ rest) = some ((n : Int), ((num n).length : Int), 0) := by
 have := TakeNumber_num z rest n [] 0 z (by simp) (by simpa using hn) (.inl rfl) (by simp) (by have := num_len10 (n := n) (by omega); omega)
 simpa [c_TakeNumber.f] using this
theorem cut_drop' {α : Type} (xs : List α) (n m : Nat) (hm : m = xs.length) : cut xs n m = xs.drop n := by subst hm; simp [cut]
theorem cut_take' {α : Type} (xs : List α) (m : Nat) : cut xs 0 m = xs.take m := by simp [cut]
theorem cut_mid {α : Type} (a b c : List α) (n m : Nat) (hn : n = a.length) (hm : m = a.length + b.length) : cut (a ++ (b ++ c)) n m = b := by
 subst hn hm
 unfold cut
 rw [List.take_append, List.drop_append]
 simp
theorem length_f {z : Nat} (hz : 16777216 ≤ z) (n : Nat) (hn : n ≤ 2097152) (rest : List Int) (more : Nat) (hr : n + more ≤ rest.length) (hl : rest.length ≤ 1152921504606846976) (hm : more ≤ 100) : c_length.f z (num n ++ rest) (more : Int) = some ((n : Int), ((num n).length : Int), 0) := by
 have h10 := num_len10 (n := n) (by omega)
 unfold c_length.f
 rw [TakeNumber_f hz n (by omega), bd_some]
 dsimp only
 rw [if_n (by rfl), if_n (by simp; omega), List.length_append, wI (x := (((num n).length + rest.length : Nat) : Int) - (num n).length) (by omega), wI (by omega), wI (x := (n : Int)) (by omega), if_n (by simp; omega)]
theorem TakeFrame_f {z : Nat} (hz : 16777216 ≤ z) (k : Int) {body : List Int} (hb : Bys body) (hl : body.length ≤ 2097152) (rest : List Int) (hr : rest.length ≤ 8388608) : c_TakeFrame.f z (frm k body ++ rest) = some (k, body, ((frm k body).length : Int), 0) := by
 have h10 := num_len10 (n := body.length) (by omega)
 have hlen := frm_len k body
 obtain ⟨x, hx⟩ : ∃ x, frm k body ++ rest = x := ⟨_, rfl⟩
 have e1 : x = [k] ++ (num body.length ++ (sum4 (hd k body ++ body) ++ body ++ rest)) := by rw [← hx]; simp [frm, hd]
 have e2 : x = hd k body ++ (sum4 (hd k body ++ body) ++ (body ++ rest)) := by rw [← hx]; simp [frm]
 have e3 : x = (hd k body ++ sum4 (hd k body ++ body)) ++ (body ++ rest) := by rw [← hx]; simp [frm]
 have h4 : (sum4 (hd k body ++ body)).length = 4 := rfl
 have hh : (hd k body).length = (num body.length).length + 1 := by simp [hd]
 have hxl : x.length = (frm k body).length + rest.length := by rw [← hx, List.length_append]
 rw [hx]
 unfold c_TakeFrame.f
 rw [if_n (by rw [beq_eq_false_iff_ne]; omega), ck_y (by omega), cut_drop' x _ _ (by omega), show Int.toNat 1 = 1 from rfl]
 have hd1 : x.drop 1 = num body.length ++ (sum4 (hd k body ++ body) ++ body ++ rest) := by rw [e1]; rfl
 rw [hd1, show (4 : Int) = ((4 : Nat) : Int) from rfl, length_f hz _ hl _ 4 (by simp only [List.length_append]; omega) (by simp only [List.length_append]; omega) (by omega), bd_some]
 dsimp only
 rw [if_n (by rfl), wI (x := ((num body.length).length : Int) + 1) (by omega), wI (x := ((num body.length).length : Int) + 5) (by omega), wI (x := ((num body.length).length : Int) + 5 + body.length) (by omega), ck_y (by omega), ck_y (by omega), ck_y (by omega)]
 have c1 : cut x (Int.toNat 0) (((num body.length).length : Int) + 1).toNat = hd k body := by
  rw [show Int.toNat 0 = 0 from rfl, cut_take', e2, show (((num body.length).length : Int) + 1).toNat = (hd k body).length by omega, List.take_left']
  rfl
 have c2 : cut x (((num body.length).length : Int) + 1).toNat (((num body.length).length : Int) + 5).toNat = sum4 (hd k body ++ body) := by
  rw [e2]
  exact cut_mid _ _ _ _ _ (by omega) (by omega)
 have c3 : cut x (((num body.length).length : Int) + 5).toNat (((num body.length).length : Int) + 5 + body.length).toNat = body := by
  rw [e3]
  refine cut_mid _ _ _ _ _ ?_ ?_ <;> simp only [List.length_append] <;> omega
 rw [c1, c2, c3, sums_f hz (by omega) (by omega), bd_some, Equal_f (xs := sum4 (hd k body ++ body)) (ys := sum4 (hd k body ++ body)) (le4_bys _) (le4_bys _), bd_some]
 rw [if_n (by simp), ck_y (by omega)]
 unfold bytes_Clone.f slices_Clip_byte.f
 rw [ck_y (by omega), bd_some, bd_some]
 have hg : gi (0 : Int) x 0 = k := by rw [e1]; exact gi_mid 0 [] k _ 0 rfl
 rw [hg]
 congr 3
 rw [hlen]
 simp
 omega
def lays : List Int → List aE → List Int
 | _, [] => []
 | a, e :: r => layS a e ++ lays e.Key r
theorem entry_f {z : Nat} (hz : 16777216 ≤ z) {ahead : List Int} (ha : ahead.length ≤ 256) {e : aE} (he : fitS e) (rest : List Int) (hr : rest.length ≤ 8388608) : s_entry.f z (layS ahead e ++ rest) ahead = some (e, rest, true) := by
 have hc := com_le ahead e.Key
 obtain ⟨h1, h2, h3, h4, h5, h6⟩ := he
 have ta := num_lenp 2 (com ahead e.Key) (by omega) (by omega)
 have tb := num_lenp 2 (e.Key.length - com ahead e.Key) (by omega) (by omega)
 have tc := num_len10 (n := e.Seq.toNat) (by omega)
 have td := num_lenp 3 e.Value.length (by omega) (by omega)
 obtain ⟨N, hN⟩ : ∃ N, com ahead e.Key = N := ⟨_, rfl⟩
 obtain ⟨dl, hdl⟩ : ∃ dl : Int, (if e.Del then (1 : Int) else 0) = dl := ⟨_, rfl⟩
 have hd1 : dl ≤ 1 := by rw [← hdl]; split <;> omega
 have hd2 : (dl == 1) = e.Del := by rw [← hdl]; cases e.Del <;> rfl
 have e0 : layS ahead e ++ rest = num N ++ (num (e.Key.length - N) ++ (num e.Seq.toNat ++ (dl :: (num e.Value.length ++ (e.Key.drop N ++ (e.Value ++ rest)))))) := by
  unfold layS; rw [hN, hdl]; simp
 rw [e0]
 have hct := com_take ahead e.Key
 rw [hN] at hc ta tb hct
 obtain ⟨m, rfl⟩ : ∃ m, z = m + 5 := ⟨z - 5, by omega⟩
 unfold s_entry.f
 -- the numbers
 have J : ∀ (i : Int) (n : Nat) (X : List Int) (q : List Int → Int → Bool → List Int → Option (aE × List Int × Bool)) (d : Bool) (ns : List Int), n < 18446744073709551616 → 0 ≤ i ∧ i < 4 → (num n).length ≤ 10 →
   s_entry.J3 (m + 5) q ahead i (num n ++ X) d ns = q X (i + 1) d (ns.set i.toNat n) := by
  intro i n X q d ns hn hk hl
  unfold s_entry.J3
  rw [TakeNumber_f hz n hn, bd_some]
  dsimp only
  rw [if_n (by rfl), ck_y (by simp; omega), ck_y (by omega), wI (by omega), cut_drop' _ _ _ (by omega), Int.toNat_natCast, List.drop_left' rfl]
 rw [s_entry.L0, if_y (by rfl), if_n (by rfl), J 0 _ _ _ _ _ (by omega) (by omega) (by omega)]
 rw [s_entry.L0, if_y (by rfl), if_n (by rfl), J _ _ _ _ _ _ (by omega) (by omega) (by omega)]
 rw [s_entry.L0, if_y (by rfl), if_n (by rfl), J _ _ _ _ _ _ (by omega) (by omega) (by omega)]
 rw [s_entry.L0, if_y (by rfl), if_y (by rfl), if_n (by simp; omega), ck_y (by simp; omega)]
 have hg : gi (0 : Int) (dl :: (num e.Value.length ++ (e.Key.drop N ++ (e.Value ++ rest)))) 0 = dl := rfl
 rw [hg, if_n (by simp; omega), ck_y (by simp; omega), cut_drop' _ _ _ (by omega), hd2]
 rw [show List.drop (Int.toNat 1) (dl :: (num e.Value.length ++ (e.Key.drop N ++ (e.Value ++ rest)))) = num e.Value.length ++ (e.Key.drop N ++ (e.Value ++ rest)) from rfl]
 rw [J _ _ _ _ _ _ (by omega) (by omega) (by omega)]
 rw [s_entry.L0, if_n (by rfl)]
 have hns : ((([(0 : Int), 0, 0, 0].set (Int.toNat 0) (N : Int)).set (Int.toNat (0 + 1)) ((e.Key.length - N : Nat) : Int)).set (Int.toNat (0 + 1 + 1)) ((e.Seq.toNat : Nat) : Int)).set (Int.toNat (0 + 1 + 1 + 1)) ((e.Value.length : Nat) : Int) = [(N : Int), ((e.Key.length - N : Nat) : Int), ((e.Seq.toNat : Nat) : Int), ((e.Value.length : Nat) : Int)] := rfl
 rw [hns]
 have g0 : ∀ (a b c d : Int), gi (0 : Int) [a, b, c, d] 0 = a := fun _ _ _ _ => rfl
 have g1 : ∀ (a b c d : Int), gi (0 : Int) [a, b, c, d] 1 = b := fun _ _ _ _ => rfl
 have g2 : ∀ (a b c d : Int), gi (0 : Int) [a, b, c, d] 2 = c := fun _ _ _ _ => rfl
 have g3 : ∀ (a b c d : Int), gi (0 : Int) [a, b, c, d] 3 = d := fun _ _ _ _ => rfl
 simp only [g0, g1, g2, g3]
 have hX : (e.Key.drop N ++ (e.Value ++ rest)).length = (e.Key.length - N) + (e.Value.length + rest.length) := by simp
 rw [wU (x := (ahead.length : Int)) (by omega), wU (x := ((e.Key.drop N ++ (e.Value ++ rest)).length : Int)) (by omega), if_n (by simp; omega), if_n (by simp; omega), wU (by omega), if_n (by rw [decide_eq_false_iff_not]; omega), ck_y (by omega), ck_y (by omega)]
 have k1 : cut ahead (Int.toNat 0) (Int.toNat (N : Int)) = ahead.take N := by rw [Int.toNat_natCast]; exact cut_take' _ _
 have k2 : cut (e.Key.drop N ++ (e.Value ++ rest)) (Int.toNat 0) (Int.toNat ((e.Key.length - N : Nat) : Int)) = e.Key.drop N := by
  rw [Int.toNat_natCast]
  exact cut_mid [] _ _ _ _ rfl (by simp)
 have k3 : cut (e.Key.drop N ++ (e.Value ++ rest)) (Int.toNat ((e.Key.length - N : Nat) : Int)) (Int.toNat ((e.Key.drop N ++ (e.Value ++ rest)).length : Int)) = e.Value ++ rest := by
  rw [cut_drop' _ _ _ (by omega), Int.toNat_natCast, List.drop_left']
  simp
 rw [k1, k2, k3, Concat_f hz (by simp) (by simp; omega), bd_some, ck_y (by simp; omega)]
 have k4 : cut (e.Value ++ rest) (Int.toNat 0) (Int.toNat (e.Value.length : Int)) = e.Value := by
  rw [Int.toNat_natCast]
  exact cut_mid [] _ _ _ _ rfl (by simp)
 have k5 : cut (e.Value ++ rest) (Int.toNat (e.Value.length : Int)) (Int.toNat ((e.Value ++ rest).length : Int)) = rest := by
  rw [cut_drop' _ _ _ (by omega), Int.toNat_natCast, List.drop_left' rfl]
 rw [k4, k5]
 unfold bytes_Clone.f slices_Clip_byte.f
 rw [ck_y (by omega), bd_some, bd_some]
 have k6 : [ahead.take N, e.Key.drop N].flatten = e.Key := by simp [hct]
 rw [k6, show ((e.Seq.toNat : Nat) : Int) = e.Seq by omega]
theorem lays_len : ∀ (es : List aE) (a : List Int), es.length ≤ (lays a es).length
 | [], _ => by simp [lays]
 | e :: r, a => by
  have := lays_len r e.Key
  have h1 := num_len (com a e.Key)
  simp [lays, layS]
  omega
theorem lays_snoc : ∀ (es : List aE) (a : List Int) (e : aE), lays a (es ++ [e]) = lays a es ++ layS ((es.getLast?.map (·.Key)).getD a) e
 | [], a, e => by simp [lays]
 | x :: es, a, e => by
  simp only [List.cons_append, lays, lays_snoc es x.Key e, List.append_assoc]
  congr 3
  cases es with
  | nil => rfl
  | cons y es =>
   simp only [List.getLast?_cons_cons, List.getLast?_cons]
   rfl
theorem entries_L0' {z : Nat} (hz : 16777216 ≤ z) {fr : Int × List Int × Int × Int} : ∀ (es : List aE) (m : Nat) (out : List aE) (ahead : List Int), es.length < m → (∀ e ∈ es, fitS e) → ahead.length ≤ 256 → (lays ahead es).length ≤ 8388608 → out.length + es.length ≤ 8388608 →
  s_entries.L0 z fr m (lays ahead es) out ahead = some (out ++ es, fr.2.2.1, true)
 | _, 0, _, _, h, _, _, _, _ => by omega
 | [], m + 1, out, ahead, _, _, _, _, _ => by
  rw [s_entries.L0, lays, if_n (by rfl), List.append_nil]
 | e :: r, m + 1, out, ahead, hm, hf, ha, hl, ho => by
  have he := hf e (List.mem_cons_self ..)
  have hpos := layS_len (ahead := ahead) he
  rw [lays] at hl ⊢
  rw [List.length_append] at hl
  rw [s_entries.L0, if_y (by rw [decide_eq_true_iff, List.length_append]; omega), entry_f hz ha he _ (by omega), bd_some]
  dsimp only
  rw [if_n (by rfl), if_n (by have := he.2.2.1; simp; omega), ck_y (by simp at ho ⊢; omega)]
  rw [entries_L0' hz r m (out ++ [e]) e.Key (by simp at hm; omega) (fun x hx => hf x (List.mem_cons_of_mem _ hx)) he.2.2.1 (by omega) (by simp at ho ⊢; omega)]
  simp
theorem entries_f {z : Nat} (hz : 16777216 ≤ z) {es : List aE} (hf : ∀ e ∈ es, fitS e ∧ okE e) (hl : (lays [] es).length ≤ 2097152) (rest : List Int) (hr : rest.length ≤ 8388608) : s_entries.f z (frm 68 (lays [] es) ++ rest) = some (es, ((frm 68 (lays [] es)).length : Int), true) := by
 have hb : ∀ (es : List aE) (a : List Int), (∀ e ∈ es, okE e) → Bys (lays a es) := by
  intro es
  induction es with
  | nil => intro a _; exact Bys.nil
  | cons e r ih => intro a h; exact Bys.app (layS_bys (h e (List.mem_cons_self ..))) (ih _ fun x hx => h x (List.mem_cons_of_mem _ hx))
 unfold s_entries.f
 rw [TakeFrame_f hz 68 (hb es [] fun e he => (hf e he).2) hl rest hr, bd_some]
 dsimp only
 have hn := lays_len es []
 rw [if_n (by rfl), entries_L0' hz es z [] [] (by omega) (fun e he => (hf e he).1) (by simp) (by omega) (by simp; omega)]
 rfl
def lastKey (es : List aE) : List Int := (es.getLast?.map (·.Key)).getD []
def firstKey (es : List aE) : List Int := (es.head?.map (·.Key)).getD []
def blkOf (es : List aE) : Blk := (lays [] es, (es.length : Int), lastKey es)
theorem lastKey_snoc (es : List aE) (e : aE) : lastKey (es ++ [e]) = e.Key := by simp [lastKey]
structure Lies (w : s_builder) (pre : List aE) (gs : List (List aE)) (cur : List aE) : Prop where
 all : gs.flatten ++ cur = pre
 ne : ∀ g ∈ gs, g ≠ []
 cne : pre ≠ [] → cur ≠ []
 small : ∀ g ∈ gs, (lays [] g).length ≤ 65900
 out : w.out = outF (gs.map blkOf)
 index : w.index = idxF 0 (gs.map blkOf)
 blocks : w.blocks = gs.length
 body : w.body = lays [] cur
 many : w.many = cur.length
 last : w.last = lastKey cur
theorem Lies.zero : Lies w0 [] [] [] := ⟨rfl, by simp, by simp, by simp, rfl, rfl, rfl, rfl, rfl, rfl⟩
theorem lies_close {w : s_builder} {pre : List aE} {gs : List (List aE)} {cur : List aE} (h : Lies w pre gs cur) :
  (closeS w).out = outF ((gs ++ [cur]).map blkOf) ∧ (closeS w).index = idxF 0 ((gs ++ [cur]).map blkOf) ∧ (closeS w).blocks = (gs ++ [cur]).length := by
 obtain ⟨h1, h2, h3, h4, h5, h6, h7, h8, h9, h10⟩ := h
 rw [List.map_append, List.map_singleton, outF_snoc, idxF_snoc]
 refine ⟨?_, ?_, ?_⟩
 ·simp [closeS, h5, h8, fr1, blkOf]
 ·simp [closeS, h5, h6, h8, h9, h10, fr1, blkOf]
 ·simp [closeS, h7]
theorem Lies.add {n : Nat} {w : s_builder} {pre : List aE} {gs : List (List aE)} {cur : List aE} (h : Lies w pre gs cur) (hi : Inv n w) (e : aE) (bb : Int) : ∃ gs' cur', Lies (addS w e bb) (pre ++ [e]) gs' cur' := by
 have hc := lies_close h
 obtain ⟨h1, h2, h3, h4, h5, h6, h7, h8, h9, h10⟩ := h
 unfold addS
 by_cases hm : w.many > 0
 ·rw [if_pos hm]
  have hcur : cur ≠ [] := by rintro rfl; simp at h9; omega
  by_cases hl : ((w.body ++ layS w.last e).length : Int) ≤ bb
  ·rw [if_pos hl]
   refine ⟨gs, cur ++ [e], ?_, h2, by simp, h4, h5, h6, h7, ?_, ?_, ?_⟩
   ·rw [← List.append_assoc, h1]
   ·dsimp only; rw [h8, h10, lays_snoc]; rfl
   ·dsimp only; rw [h9]; simp
   ·dsimp only; rw [lastKey_snoc]
  ·rw [if_neg hl]
   refine ⟨gs ++ [cur], [e], ?_, ?_, by simp, ?_, hc.1, hc.2.1, hc.2.2, ?_, rfl, ?_⟩
   ·rw [List.flatten_append]; simp [← h1]
   ·intro g hg
    rcases List.mem_append.1 hg with q | q
    ·exact h2 g q
    ·rw [List.mem_singleton.1 q]; exact hcur
   ·intro g hg
    rcases List.mem_append.1 hg with q | q
    ·exact h4 g q
    ·rw [List.mem_singleton.1 q, ← h8]; exact hi.body
   ·simp [lays]
   ·simp [lastKey]
 ·rw [if_neg hm]
  have hcur : cur = [] := by
   have := hi.many
   rw [h9] at this hm
   exact List.eq_nil_of_length_eq_zero (by omega)
  subst hcur
  have hpre : pre = [] := by
   apply Classical.byContradiction
   intro hp
   exact h3 hp rfl
  subst hpre
  refine ⟨gs, [e], ?_, h2, by simp, h4, h5, h6, h7, by simp [lays], rfl, by simp [lastKey]⟩
  rw [List.append_nil] at h1
  rw [h1]
theorem low_step {n c : Int} (hn : 0 ≤ n ∧ n ≤ 1099511627776) (hc : 0 ≤ c ∧ c < 256) : bOr .i64 (sShl .i64 n 8) (wr .i64 c) = n * 256 + c := by
 have e : sShl .i64 n 8 = n * 256 := by
  show wr .i64 (n * 2 ^ (min (Int.toNat 8) 64)) = _
  rw [show (2 : Int) ^ (min (Int.toNat 8) 64) = 256 from rfl, wI (by omega)]
 rw [e, wI (x := c) (by omega)]
 show wr .i64 (((BitVec.ofInt 64 (n * 256) ||| BitVec.ofInt 64 c).toNat : Nat) : Int) = _
 have h1 : (n.toNat * 256) ||| c.toNat = n.toNat * 256 + c.toNat := by
  have := Nat.two_pow_add_eq_or_of_lt (i := 8) (b := c.toNat) (by omega) n.toNat
  rw [Nat.mul_comm n.toNat, show (256 : Nat) = 2 ^ 8 from rfl, ← this]
 rw [BitVec.toNat_or, BitVec.toNat_ofInt, BitVec.toNat_ofInt]
 have e1 : (n * 256 % ((2 ^ 64 : Nat) : Int)).toNat = n.toNat * 256 := by omega
 have e2 : (c % ((2 ^ 64 : Nat) : Int)).toNat = c.toNat := by omega
 rw [e1, e2, h1, wI (by omega)]
 omega
theorem low_f {z : Nat} (hz : 16777216 ≤ z) {n : Int} (hn : 0 ≤ n ∧ n ≤ 65536) : s_low.f z (highS n 4) = some n := by
 have e : highS n 4 = [n / 16777216 % 256, n / 65536 % 256, n / 256 % 256, n / 1 % 256] := rfl
 rw [e]
 obtain ⟨m, rfl⟩ : ∃ m, z = m + 5 := ⟨z - 5, by omega⟩
 unfold s_low.f
 have g : ∀ a b c d : Int, gi (0 : Int) [a, b, c, d] 0 = a ∧ gi (0 : Int) [a, b, c, d] (0 + 1) = b ∧ gi (0 : Int) [a, b, c, d] (0 + 1 + 1) = c ∧ gi (0 : Int) [a, b, c, d] (0 + 1 + 1 + 1) = d := fun _ _ _ _ => ⟨rfl, rfl, rfl, rfl⟩
 rw [s_low.L0, if_y (by rfl), ck_y (by simp), (g _ _ _ _).1, low_step (by omega) (by omega), wI (by omega)]
 rw [s_low.L0, if_y (by rfl), ck_y (by simp), (g _ _ _ _).2.1, low_step (by omega) (by omega), wI (by omega)]
 rw [s_low.L0, if_y (by rfl), ck_y (by simp), (g _ _ _ _).2.2.1, low_step (by omega) (by omega), wI (by omega)]
 rw [s_low.L0, if_y (by rfl), ck_y (by simp), (g _ _ _ _).2.2.2, low_step (by omega) (by omega), wI (by omega)]
 rw [s_low.L0, if_n (by rfl)]
 congr 1
 omega
def tblocks : Nat → List (List aE) → List s_block
 | _, [] => []
 | o, g :: gs => ⟨o, ((o + (fr1 (blkOf g)).length : Nat) : Int), g.length, firstKey g, lastKey g⟩ :: tblocks (o + (fr1 (blkOf g)).length) gs
theorem tblocks_len : ∀ (gs : List (List aE)) (o : Nat), (tblocks o gs).length = gs.length
 | [], _ => rfl
 | g :: gs, o => by rw [tblocks, List.length_cons, List.length_cons, tblocks_len gs]
theorem Open_L1' {z : Nat} (hz : 16777216 ≤ z) {b b' : List Int} (hb : b.length ≤ 4194304) {R : List Int} (hR : ∃ q, R = 70 :: q) : ∀ (gs : List (List aE)) (m : Nat) (P : List Int) (all : List aE) (bl : List s_block), gs.length < m → b = P ++ (outF (gs.map blkOf) ++ R) → (∀ g ∈ gs, g ≠ [] ∧ (∀ e ∈ g, fitS e ∧ okE e) ∧ (lays [] g).length ≤ 65900) →
  all.length + gs.flatten.length ≤ 65536 → bl.length + gs.length ≤ 65536 →
  s_Open.L1 z b b' m all (P.length : Int) bl = s_Open.J3 z b b' (bl ++ tblocks P.length gs) (all ++ gs.flatten) ((P.length + (outF (gs.map blkOf)).length : Nat) : Int)
 | _, 0, _, _, _, h, _, _, _, _ => by omega
 | [], m + 1, P, all, bl, _, hbP, _, _, _ => by
  obtain ⟨q, rfl⟩ := hR
  have hlen : P.length < b.length := by rw [hbP]; simp [outF]
  rw [s_Open.L1, if_y (by rw [decide_eq_true_iff]; omega), ck_y (by omega)]
  have hg : gi (0 : Int) b (P.length : Int) = 70 := by rw [hbP]; exact gi_mid _ _ _ _ _ rfl
  rw [hg, if_n (by rfl)]
  simp [tblocks, outF]
 | g :: gs, m + 1, P, all, bl, hm, hbP, hgs, hal, hbl => by
  obtain ⟨hne, hfe, hsm⟩ := hgs g (List.mem_cons_self ..)
  have hout : outF ((g :: gs).map blkOf) = fr1 (blkOf g) ++ outF (gs.map blkOf) := rfl
  rw [hout] at hbP
  have hfl : (fr1 (blkOf g)).length = (lays [] g).length + (num (lays [] g).length).length + 5 := frm_len _ _
  have h3 := num_lenp 3 (lays [] g).length (by omega) (by omega)
  have hgl : 0 < g.length := List.length_pos_iff.2 hne
  have hlen : b.length = P.length + ((fr1 (blkOf g)).length + (outF (gs.map blkOf)).length + R.length) := by rw [hbP]; simp [Nat.add_assoc]
  simp only [List.flatten_cons, List.length_append, List.length_cons] at hal hbl hm
  rw [s_Open.L1, if_y (by rw [decide_eq_true_iff]; omega), ck_y (by omega)]
  have hg : gi (0 : Int) b (P.length : Int) = 68 := by rw [hbP]; exact gi_mid _ P 68 _ _ rfl
  rw [hg, if_y (by rfl), ck_y (by omega), cut_drop' _ _ _ (by omega), Int.toNat_natCast]
  have hd : b.drop P.length = frm 68 (lays [] g) ++ (outF (gs.map blkOf) ++ R) := by
   rw [hbP, List.drop_left' rfl, List.append_assoc]; rfl
  rw [hd, entries_f hz hfe (by omega) _ (by simp only [List.length_append]; omega), bd_some]
  dsimp only
  have hlk : (gi daE g ((g.length : Int) - 1)).Key = lastKey g := by
   rw [show ((g.length : Int) - 1) = ((g.length - 1 : Nat) : Int) by omega, gi_nat _ _ _ (by omega)]
   unfold lastKey
   rw [List.getLast?_eq_getElem?, List.getElem?_eq_getElem (by omega)]
   rfl
  have hfk : (gi daE g 0).Key = firstKey g := by
   cases g with
   | nil => exact absurd rfl hne
   | cons e r => rfl
  rw [if_n (by rfl), if_n (by rw [beq_eq_false_iff_ne]; omega), ck_y (by omega), wI (x := (g.length : Int) - 1) (by omega), ck_y (by omega), hlk, hfk, ck_y (by simp; omega), ck_y (by omega)]
  have hw : wr .i64 ((P.length : Int) + ((frm 68 (lays [] g)).length : Int)) = (((P ++ fr1 (blkOf g)).length : Nat) : Int) := by
   rw [wI (by have : (fr1 (blkOf g)).length = (frm 68 (lays [] g)).length := rfl; omega)]
   simp [fr1, blkOf]
  rw [hw, Open_L1' hz (b' := b') hb hR gs m (P ++ fr1 (blkOf g)) (all ++ g) (bl ++ [(⟨(P.length : Int), ((P ++ fr1 (blkOf g)).length : Int), (g.length : Int), firstKey g, lastKey g⟩ : s_block)]) (by omega) (by rw [hbP]; simp) (fun x hx => hgs x (List.mem_cons_of_mem _ hx)) (by rw [List.length_append]; omega) (by rw [List.length_append, List.length_singleton]; omega)]
  simp [tblocks, outF, Nat.add_assoc]
namespace s_Table_find_c1
def R (F : List Atom) (b3 b4 : Nat) (x11 : List Int) (b12 : Nat) (A13 : OA) (k14 : Nat) (r : Bool × s_Table) : Ending → World → Prop := fun e w' => ∃ (A17 : OA), ∃ (k18 : Nat), ∃ (A19 : OA), ∃ (k20 : Nat), ∃ (A21 : OA), ∃ (k22 : Nat), e = .returned (.bool r.1) ∧ SL ([blk b3 [.pointer (some ⟨b4, 0, none⟩)], blk b4 [.slice A17 r.2.b.length k18, .slice A19 r.2.blocks.length k20, .slice A21 r.2.filter.length k22, .int .i64 r.2.count, .int .i64 r.2.reads], sl .ro ku8 A17 k18 r.2.b, sl .ro ks_block A19 k20 r.2.blocks, sl .ro ku8 A21 k22 r.2.filter, blk b12 [.slice A13 x11.length k14], sl .ro ku8 A13 k14 x11] ++ F) w'
def f (x1 : Int) (x2 : s_Table) (x11 : List Int) : Option (Bool × s_Table) := Ck (0 ≤ x1 ∧ x1 < (x2.blocks.length : Int)) (Bd (c_Compare.f ((gi ds_block x2.blocks x1).last) x11) fun x2542 => some (decide (x2542 ≥ 0), x2))
theorem ok (F : List Atom) (w : World) (x1 : Int) (x2 : s_Table) (x11 : List Int) {b3 b4 : Nat} {A5 : OA} {k6 : Nat} {A7 : OA} {k8 : Nat} {A9 : OA} {k10 b12 : Nat} {A13 : OA} {k14 : Nat} (S : SL ([blk b3 [.pointer (some ⟨b4, 0, none⟩)], blk b4 [.slice A5 x2.b.length k6, .slice A7 x2.blocks.length k8, .slice A9 x2.filter.length k10, .int .i64 x2.count, .int .i64 x2.reads], sl .ro ku8 A5 k6 x2.b, sl .ro ks_block A7 k8 x2.blocks, sl .ro ku8 A9 k10 x2.filter, blk b12 [.slice A13 x11.length k14], sl .ro ku8 A13 k14 x11] ++ F) w) (r : Bool × s_Table) (H : f x1 x2 x11 = some r) : Calls Try.prog 69 #[.int .i64 x1, .pointer (some ⟨b3, 0, none⟩), .pointer (some ⟨b12, 0, none⟩)] w (R F b3 b4 x11 b12 A13 k14 r) := by
 refine enter (vs := [.int .i64 x1, .pointer (some ⟨b3, 0, none⟩), .pointer (some ⟨b12, 0, none⟩)]) Try.func69 rfl Try.ntmps69 (nle rfl) fun a T => ?_
 refine sq (rg (v1 T rfl fun T => sq ?_))
 obtain ⟨h2301, H⟩ := ck H
 obtain ⟨_, S⟩ := S.peek1 (ix := 3) (off := 4) (i := x1) rfl ds_block fld_s_block_last h2301.1 h2301.2 rfl
 obtain ⟨A2421, k2422, hv_, S_⟩ := SL.ofVal (l := _ :: _) S
 subst hv_
 replace S := S_
 refine Gets.drawn (l := [sl .ro ku8 A2421 k2422 ((gi ds_block x2.blocks x1).last), cl A7 (Int.toNat x1 * 5 + 4) [.slice A2421 (((gi ds_block x2.blocks x1).last).length) k2422], blk b3 [.pointer (some ⟨b4, 0, none⟩)], blk b4 [.slice A5 x2.b.length k6, .slice A7 x2.blocks.length k8, .slice A9 x2.filter.length k10, .int .i64 x2.count, .int .i64 x2.reads], sl .ro ku8 A5 k6 x2.b, sl .ro ks_block A7 k8 x2.blocks, sl .ro ku8 A9 k10 x2.filter, blk b12 [.slice A13 x11.length k14], sl .ro ku8 A13 k14 x11]) (V := [some (.pointer (some ⟨b4, 0, none⟩), true), some (.pointer (some ⟨b4, 0, none⟩), true), some (.pointer (some ⟨b4, 1, none⟩), true), some (.slice A7 x2.blocks.length k8, true), some (.int .i64 x1, true), some (.pointer (some (eA A7 (Int.toNat x1 * 5))), true), some (.pointer (some (eA A7 (Int.toNat x1 * 5 + 4))), true), some (.slice A2421 (((gi ds_block x2.blocks x1).last).length) k2422, true), some (.slice A13 x11.length k14, true), none, none, none]) mixed T S rfl ?_
 refine stage (some 9) rfl rfl ⟨⟨_, _, rfl, (avl [1] rfl), fun _ _ _ T S => lB (ix := 2) T S rfl ti28 rfl rfl rfl fun _ T => ⟨rfl, T⟩⟩, ⟨_, _, rfl, (avl [5] rfl), fun _ _ _ T S => v1 T rfl fun T => ⟨rfl, T⟩⟩, ⟨_, _, rfl, (avl [6] rfl), fun _ _ _ T S => r_fa (o' := 1) T rfl tu69 rfl ts67 rfl rfl fun _ T => ⟨rfl, T⟩⟩, ⟨_, _, rfl, (avl [7] rfl), fun _ _ _ T S => lB (ix := 3) T S rfl ti67 rfl rfl rfl fun _ T => ⟨rfl, T⟩⟩, ⟨_, _, rfl, (avl [0] rfl), fun _ _ _ T S => v1 T rfl fun T => ⟨rfl, T⟩⟩, ⟨_, _, rfl, (avl [8, 9] rfl), fun _ _ _ T S => r_ia (ix := 5) T S rfl rfl rfl rfl tu67 ts73 h2301.1 h2301.2 rfl fun _ T => ⟨rfl, T⟩⟩, ⟨_, _, rfl, (avl [10] rfl), fun _ _ _ T S => r_faE T rfl tu73 rfl ts24 rfl fun _ T => ⟨rfl, T⟩⟩, ⟨_, _, rfl, (avl [11] rfl), fun _ _ _ T S => r_ldC (ix := 1) (A := A7) T S rfl rfl rfl ti24 rfl fun _ T => ⟨rfl, T⟩⟩, ⟨_, _, rfl, (avl [2] rfl), fun _ _ _ T S => lB (ix := 7) T S rfl ti24 rfl rfl rfl fun _ T => ⟨rfl, T⟩⟩, trivial⟩ rfl (fun i hi => ?_) (fun h => by cases h)
 cases hi
 refine ⟨rfl, _, _, rfl, (avl [12, 13] rfl), fun u a w T S => ?_⟩
 obtain ⟨x2542, h2541, H⟩ := bd H
 refine rc T tc38 rfl rfl (c_Compare.ok _ _ ((gi ds_block x2.blocks x1).last) x11 (S.sel (is := [0, 7]) rfl) _ h2541) ?_
 rintro _ _ ⟨rfl, S⟩
 refine ⟨_, rfl, fun _ T => ?_⟩
 replace S := S.join
 refine ⟨_, [some (.pointer (some ⟨b4, 0, none⟩), true), some (.pointer (some ⟨b4, 0, none⟩), true), some (.pointer (some ⟨b4, 1, none⟩), true), some (.slice A7 x2.blocks.length k8, true), some (.int .i64 x1, true), some (.pointer (some (eA A7 (Int.toNat x1 * 5))), true), some (.pointer (some (eA A7 (Int.toNat x1 * 5 + 4))), true), some (.slice A2421 (((gi ds_block x2.blocks x1).last).length) k2422, false), some (.slice A13 x11.length k14, false), some (.int .i64 x2542, false), some (.bool (decide (x2542 ≥ 0)), true), some (.bool (decide (x2542 ≥ 0)), true)], [sl .ro ku8 A2421 k2422 ((gi ds_block x2.blocks x1).last), sl .ro ku8 A13 k14 x11, cl A7 (Int.toNat x1 * 5 + 4) [.slice A2421 (((gi ds_block x2.blocks x1).last).length) k2422], blk b3 [.pointer (some ⟨b4, 0, none⟩)], blk b4 [.slice A5 x2.b.length k6, .slice A7 x2.blocks.length k8, .slice A9 x2.filter.length k10, .int .i64 x2.count, .int .i64 x2.reads], sl .ro ku8 A5 k6 x2.b, sl .ro ks_block A7 k8 x2.blocks, sl .ro ku8 A9 k10 x2.filter, blk b12 [.slice A13 x11.length k14]], rfl, (by repeat first | exact kx0 | apply kxs | apply kxn), rfl, ?_, T, S⟩
 refine stage none rfl rfl ⟨⟨_, _, rfl, (avl [1] rfl), fun _ _ _ T S => lB (ix := 3) T S rfl ti28 rfl rfl rfl fun _ T => ⟨rfl, T⟩⟩, ⟨_, _, rfl, (avl [5] rfl), fun _ _ _ T S => v1 T rfl fun T => ⟨rfl, T⟩⟩, ⟨_, _, rfl, (avl [6] rfl), fun _ _ _ T S => r_fa (o' := 1) T rfl tu69 rfl ts67 rfl rfl fun _ T => ⟨rfl, T⟩⟩, ⟨_, _, rfl, (avl [7] rfl), fun _ _ _ T S => lB (ix := 4) T S rfl ti67 rfl rfl rfl fun _ T => ⟨rfl, T⟩⟩, ⟨_, _, rfl, (avl [0] rfl), fun _ _ _ T S => v1 T rfl fun T => ⟨rfl, T⟩⟩, ⟨_, _, rfl, (avl [8, 9] rfl), fun _ _ _ T S => r_ia (ix := 6) T S rfl rfl rfl rfl tu67 ts73 h2301.1 h2301.2 rfl fun _ T => ⟨rfl, T⟩⟩, ⟨_, _, rfl, (avl [10] rfl), fun _ _ _ T S => r_faE T rfl tu73 rfl ts24 rfl fun _ T => ⟨rfl, T⟩⟩, ⟨_, _, rfl, (avl [14] rfl), fun _ _ _ T S => v1 T rfl fun T => ⟨rfl, T⟩⟩, ⟨_, _, rfl, (avl [15] rfl), fun _ _ _ T S => v1 T rfl fun T => ⟨rfl, T⟩⟩, trivial⟩ rfl (fun i hi => by cases hi) (fun _ _ a w T hv hb S => ?_)
 replace T := T.sub (r := [(4, .bool (decide (x2542 ≥ 0)))]) ⟨hv 11 _ 4 rfl rfl rfl, trivial⟩
 obtain rfl := sj H
 exact rtn T Try.func69 rfl rfl ⟨A5, k6, A7, k8, A9, k10, rfl, (S.only [3, 3, 3, 3, 3, 3, 1] rfl)⟩
end s_Table_find_c1
namespace sort_Search_at69
noncomputable def c0 : Code := match Try.f68.body with | some c => c | none => .skip
def R (F : List Atom) (b3 b4 : Nat) (x11 : List Int) (b12 : Nat) (A13 : OA) (k14 : Nat) (r : Int × s_Table) : Ending → World → Prop := fun e w' => ∃ (A42 : OA), ∃ (k43 : Nat), ∃ (A44 : OA), ∃ (k45 : Nat), ∃ (A46 : OA), ∃ (k47 : Nat), e = .returned (.int .i64 r.1) ∧ SL ([blk b3 [.pointer (some ⟨b4, 0, none⟩)], blk b4 [.slice A42 r.2.b.length k43, .slice A44 r.2.blocks.length k45, .slice A46 r.2.filter.length k47, .int .i64 r.2.count, .int .i64 r.2.reads], sl .ro ku8 A42 k43 r.2.b, sl .ro ks_block A44 k45 r.2.blocks, sl .ro ku8 A46 k47 r.2.filter, blk b12 [.slice A13 x11.length k14], sl .ro ku8 A13 k14 x11] ++ F) w'
def L0 (z : Nat) (x11 : List Int) : Nat → Int → Int → (List Int) → (List s_block) → (List Int) → Int → Int → Option (Int × s_Table)
 | 0, _, _, _, _, _, _, _ => none
 | m + 1, x26, x27, x15, x18, x21, x24, x25 => If (decide (x26 < x27)) (Bd (s_Table_find_c1.f (wr .i64 (sShr .u64 (wr .u64 (wr .i64 (x26 + x27))) 1)) (s_Table.mk x15 x18 x21 x24 x25) x11) fun x30 => If (!x30.1) (L0 z x11 m (wr .i64 ((wr .i64 (sShr .u64 (wr .u64 (wr .i64 (x26 + x27))) 1)) + 1)) x27 x30.2.b x30.2.blocks x30.2.filter x30.2.count x30.2.reads) (L0 z x11 m x26 (wr .i64 (sShr .u64 (wr .u64 (wr .i64 (x26 + x27))) 1)) x30.2.b x30.2.blocks x30.2.filter x30.2.count x30.2.reads)) (some (x26, (s_Table.mk x15 x18 x21 x24 x25)))
def f (z : Nat) (x1 : Int) (x2 : s_Table) (x11 : List Int) : Option (Int × s_Table) := L0 z x11 z 0 x1 x2.b x2.blocks x2.filter x2.count x2.reads
noncomputable def ptL0 : List Item := [.code (cB (cB (cL (cR (cR c0))))), .inLoop (cB (cB (cL (cR (cR c0))))), .inBlock 0, .code (cr 3 c0)]
theorem L0_ok (F : List Atom) (r : Int × s_Table) (z b3 b4 : Nat) (x11 : List Int) (b12 : Nat) (A13 : OA) (k14 : Nat) (x1 : Int) (m : Nat) : ∀ (x26 x27 : Int) (A16 : OA) (x15 : List Int) (k17 : Nat) (A19 : OA) (x18 : List s_block) (k20 : Nat) (A22 : OA) (x21 : List Int) (k23 : Nat) (x24 x25 : Int) (a : Act) (w : World), Tm 26 [(1, .func (.func 69) #[] #[.pointer (some ⟨b3, 0, none⟩), .pointer (some ⟨b12, 0, none⟩)]), (5, .int .i64 x26), (6, .int .i64 x27)] a → SL ([blk b3 [.pointer (some ⟨b4, 0, none⟩)], blk b4 [.slice A16 x15.length k17, .slice A19 x18.length k20, .slice A22 x21.length k23, .int .i64 x24, .int .i64 x25], sl .ro ku8 A16 k17 x15, sl .ro ks_block A19 k20 x18, sl .ro ku8 A22 k23 x21, blk b12 [.slice A13 x11.length k14], sl .ro ku8 A13 k14 x11] ++ F) w → L0 z x11 m x26 x27 x15 x18 x21 x24 x25 = some r → Gets Try.prog 68 ptL0 a w (R F b3 b4 x11 b12 A13 k14 r) := by
 induction m with
 | zero => intro _ _ _ _ _ _ _ _ _ _ _ _ _ _ _ _ _ H; cases H
 | succ m ih =>
  intro x26 x27 A16 x15 k17 A19 x18 k20 A22 x21 k23 x24 x25 a w T S H
  refine sq (sq (rg (v3 T rfl rfl rfl fun T => ?_)))
  rcases ifE H with ⟨h28, H⟩ | ⟨h28, H⟩
  ·refine cdT T rfl h28 (sk (bq (sq (rg (v3 T rfl rfl rfl fun T => ?_)))))
   refine r_conv T rfl tu3 Try.runUnderlying101 rfl fun _ T => r_shr T rfl rfl (by decide) rfl fun _ T => ?_
   refine r_conv T rfl Try.runUnderlying101 tu3 rfl fun _ T => v1 T rfl fun T => sq (rg (v2 T rfl rfl fun T => ?_))
   obtain ⟨x30, h29, H⟩ := bd H
   refine r_callF T rfl Try.call69 rfl rfl (s_Table_find_c1.ok _ _ (wr .i64 (sShr .u64 (wr .u64 (wr .i64 (x26 + x27))) 1)) (s_Table.mk x15 x18 x21 x24 x25) x11 (S.sel (is := [0, 0, 0, 0, 0, 0, 0]) rfl) _ h29) ?_
   rintro _ _ ⟨A33, k34, A35, k36, A37, k38, rfl, S⟩
   refine ⟨_, rfl, fun _ T => ?_⟩
   replace S := S.join
   refine v1 T rfl fun T => ?_
   rcases ifE H with ⟨h39, H⟩ | ⟨h39, H⟩
   ·refine cdT T rfl h39 (rg (v3 T rfl rfl rfl fun T => Gets.inBlock (Gets.inLoop ?_)))
    exact ih (wr .i64 ((wr .i64 (sShr .u64 (wr .u64 (wr .i64 (x26 + x27))) 1)) + 1)) x27 A33 x30.2.b k34 A35 x30.2.blocks k36 A37 x30.2.filter k38 x30.2.count x30.2.reads _ _ (T.sb rfl) (S.only [0, 0, 0, 0, 0, 0, 0] rfl) H
   ·refine cdF T rfl h39 (rg (v2 T rfl rfl fun T => Gets.inBlock (Gets.inLoop ?_)))
    exact ih x26 (wr .i64 (sShr .u64 (wr .u64 (wr .i64 (x26 + x27))) 1)) A33 x30.2.b k34 A35 x30.2.blocks k36 A37 x30.2.filter k38 x30.2.count x30.2.reads _ _ (T.sb rfl) (S.only [0, 0, 0, 0, 0, 0, 0] rfl) H
  ·refine cdF T rfl h28 (Gets.exit rfl (sq (rg (v2 T rfl rfl fun T => ?_))))
   obtain rfl := sj H
   exact rtn T Try.func68 rfl rfl ⟨A16, k17, A19, k20, A22, k23, rfl, (S.only [0, 0, 0, 0, 0, 0, 0] rfl)⟩
theorem ok (F : List Atom) (w : World) (z : Nat) (x1 : Int) (x2 : s_Table) (x11 : List Int) {b3 b4 : Nat} {A5 : OA} {k6 : Nat} {A7 : OA} {k8 : Nat} {A9 : OA} {k10 b12 : Nat} {A13 : OA} {k14 : Nat} (S : SL ([blk b3 [.pointer (some ⟨b4, 0, none⟩)], blk b4 [.slice A5 x2.b.length k6, .slice A7 x2.blocks.length k8, .slice A9 x2.filter.length k10, .int .i64 x2.count, .int .i64 x2.reads], sl .ro ku8 A5 k6 x2.b, sl .ro ks_block A7 k8 x2.blocks, sl .ro ku8 A9 k10 x2.filter, blk b12 [.slice A13 x11.length k14], sl .ro ku8 A13 k14 x11] ++ F) w) (r : Int × s_Table) (H : f z x1 x2 x11 = some r) : Calls Try.prog 68 #[.int .i64 x1, .func (.func 69) #[] #[.pointer (some ⟨b3, 0, none⟩), .pointer (some ⟨b12, 0, none⟩)]] w (R F b3 b4 x11 b12 A13 k14 r) := by
 refine enter (vs := [.int .i64 x1, .func (.func 69) #[] #[.pointer (some ⟨b3, 0, none⟩), .pointer (some ⟨b12, 0, none⟩)]]) Try.func68 rfl Try.ntmps68 (nle rfl) fun a T => ?_
 refine sq (rg (v1 T rfl fun T => sq (rg (v3 T rfl rfl rfl fun T => sq (bq (Gets.loop ?_))))))
 exact L0_ok F r z b3 b4 x11 b12 A13 k14 x1 z 0 x1 A5 x2.b k6 A7 x2.blocks k8 A9 x2.filter k10 x2.count x2.reads _ _ (T.sb rfl) (S.only [0, 0, 0, 0, 0, 0, 0] rfl) H
end sort_Search_at69
namespace s_Table_find
def R (F : List Atom) (b2 : Nat) (x9 : List Int) (A10 : OA) (k11 : Nat) (r : Int × s_Table) : Ending → World → Prop := fun e w' => ∃ (A25 : OA), ∃ (k26 : Nat), ∃ (A27 : OA), ∃ (k28 : Nat), ∃ (A29 : OA), ∃ (k30 : Nat), e = .returned (.int .i64 r.1) ∧ SL ([blk b2 [.slice A25 r.2.b.length k26, .slice A27 r.2.blocks.length k28, .slice A29 r.2.filter.length k30, .int .i64 r.2.count, .int .i64 r.2.reads], sl .ro ku8 A25 k26 r.2.b, sl .ro ks_block A27 k28 r.2.blocks, sl .ro ku8 A29 k30 r.2.filter, sl .ro ku8 A10 k11 x9] ++ F) w'
def f (z : Nat) (x1 : s_Table) (x9 : List Int) : Option (Int × s_Table) := Bd (sort_Search_at69.f z (x1.blocks.length : Int) x1 x9) fun x15 => some (x15.1, x15.2)
theorem ok (F : List Atom) (w : World) (z : Nat) (x1 : s_Table) (x9 : List Int) {b2 : Nat} {A3 : OA} {k4 : Nat} {A5 : OA} {k6 : Nat} {A7 : OA} {k8 : Nat} {A10 : OA} {k11 : Nat} (S : SL ([blk b2 [.slice A3 x1.b.length k4, .slice A5 x1.blocks.length k6, .slice A7 x1.filter.length k8, .int .i64 x1.count, .int .i64 x1.reads], sl .ro ku8 A3 k4 x1.b, sl .ro ks_block A5 k6 x1.blocks, sl .ro ku8 A7 k8 x1.filter, sl .ro ku8 A10 k11 x9] ++ F) w) (r : Int × s_Table) (H : f z x1 x9 = some r) : Calls Try.prog 40 #[.pointer (some ⟨b2, 0, none⟩), .slice A10 x9.length k11] w (R F b2 x9 A10 k11 r) := by
 refine enter (vs := [.pointer (some ⟨b2, 0, none⟩), .slice A10 x9.length k11]) Try.func40 rfl Try.ntmps40 (nle rfl) fun a T => ?_
 refine sq (rg (r_box T S rfl (cs := [.pointer (some ⟨b2, 0, none⟩)]) rfl rfl fun _ _ b12 S T => r_box T S rfl (cs := [.slice A10 x9.length k11]) rfl rfl fun _ _ b13 S T => v1 T rfl fun T => sq (rg (lB (ix := 1) T S rfl ti28 rfl rfl rfl fun _ T => v1 T rfl fun T => r_fa (o' := 1) T rfl tu69 rfl ts67 rfl rfl fun _ T => lB (ix := 2) T S rfl ti67 rfl rfl rfl fun _ T => rn T rfl tu67 rfl fun _ T => v1 T rfl fun T => ?_))))
 replace S := S.dup (i := 6) rfl
 obtain ⟨x15, h14, H⟩ := bd H
 refine rc T Try.call68 rfl rfl (sort_Search_at69.ok _ _ z (x1.blocks.length : Int) x1 x9 (S.sel (is := [2, 2, 2, 2, 2, 1, 0]) rfl) _ h14) ?_
 rintro _ _ ⟨A18, k19, A20, k21, A22, k23, rfl, S⟩
 refine ⟨_, rfl, fun _ T => ?_⟩
 replace S := S.join
 refine v1 T rfl fun T => ?_
 obtain rfl := sj H
 exact rtn T Try.func40 rfl rfl ⟨A18, k19, A20, k21, A22, k23, rfl, (S.only [1, 1, 1, 1, 3] rfl)⟩
end s_Table_find
namespace s_Table_look
def R (F : List Atom) (b2 : Nat) (r : (List aE) × s_Table) : Ending → World → Prop := fun e w' => ∃ (A10 : OA), ∃ (k11 : Nat), ∃ (A13 : OA), ∃ (k14 : Nat), ∃ (A15 : OA), ∃ (k16 : Nat), ∃ (A17 : OA), ∃ (k18 : Nat), e = .returned (.slice A10 r.1.length k11) ∧ SL ([sl .own kaE A10 k11 r.1, blk b2 [.slice A13 r.2.b.length k14, .slice A15 r.2.blocks.length k16, .slice A17 r.2.filter.length k18, .int .i64 r.2.count, .int .i64 r.2.reads], sl .ro ku8 A13 k14 r.2.b, sl .ro ks_block A15 k16 r.2.blocks, sl .ro ku8 A17 k18 r.2.filter] ++ F) w'
def f (z : Nat) (x1 : s_Table) (x9 : Int) : Option ((List aE) × s_Table) := Ck (0 ≤ x9 ∧ x9 < (x1.blocks.length : Int)) (Ck (0 ≤ (gi ds_block x1.blocks x9).from' ∧ (gi ds_block x1.blocks x9).from' ≤ (gi ds_block x1.blocks x9).to' ∧ (gi ds_block x1.blocks x9).to' ≤ (x1.b.length : Int)) (Bd (s_entries.f z (cut x1.b (Int.toNat ((gi ds_block x1.blocks x9).from')) (Int.toNat ((gi ds_block x1.blocks x9).to')))) fun x3262 => some (x3262.1, (s_Table.mk x1.b x1.blocks x1.filter x1.count (wr .i64 (x1.reads + 1))))))
abbrev y0 (b2 : Nat) : Option (Value × Bool) := some (.pointer (some ⟨b2, 0, none⟩), true)
abbrev y1 (A3 : OA) (k4 : Nat) (x1 : s_Table) (x9 : Int) : Value := .slice (slA A3 (Int.toNat (k4 : Int)) (Int.toNat ((gi ds_block x1.blocks x9).from')) 1) ((cut x1.b (Int.toNat ((gi ds_block x1.blocks x9).from')) (Int.toNat ((gi ds_block x1.blocks x9).to'))).length) (Int.toNat (k4 : Int) - Int.toNat ((gi ds_block x1.blocks x9).from'))
abbrev y2 (A3 : OA) (k4 : Nat) (x1 : s_Table) (x9 : Int) : Atom := sl .ro ku8 (slA A3 (Int.toNat (k4 : Int)) (Int.toNat ((gi ds_block x1.blocks x9).from')) 1) (Int.toNat (k4 : Int) - Int.toNat ((gi ds_block x1.blocks x9).from')) (cut x1.b (Int.toNat ((gi ds_block x1.blocks x9).from')) (Int.toNat ((gi ds_block x1.blocks x9).to')))
theorem ok (F : List Atom) (w : World) (z : Nat) (x1 : s_Table) (x9 : Int) {b2 : Nat} {A3 : OA} {k4 : Nat} {A5 : OA} {k6 : Nat} {A7 : OA} {k8 : Nat} (S : SL ([blk b2 [.slice A3 x1.b.length k4, .slice A5 x1.blocks.length k6, .slice A7 x1.filter.length k8, .int .i64 x1.count, .int .i64 x1.reads], sl .ro ku8 A3 k4 x1.b, sl .ro ks_block A5 k6 x1.blocks, sl .ro ku8 A7 k8 x1.filter] ++ F) w) (r : (List aE) × s_Table) (H : f z x1 x9 = some r) : Calls Try.prog 41 #[.pointer (some ⟨b2, 0, none⟩), .int .i64 x9] w (R F b2 r) := by
 refine enter (vs := [.pointer (some ⟨b2, 0, none⟩), .int .i64 x9]) tf41 rfl Try.ntmps41 (nle rfl) fun a T => ?_
 refine sq (rg (v1 T rfl fun T => sq (rg (v2 T rfl rfl fun T => r_fa (o' := 4) T rfl tu69 rfl ts3 rfl rfl fun _ T => lB (ix := 0) T S rfl ti3 rfl rfl rfl fun _ T => v2 T rfl rfl fun T => r_fa (o' := 4) T rfl tu69 rfl ts3 rfl rfl fun _ T => r_stB (ix := 0) T S rfl rfl rfl ts3 rfl (nle rfl) rfl fun _ S => sq ?_))))
 obtain ⟨h2541, H⟩ := ck H
 have h3201 := S.len (i := 1) rfl
 obtain ⟨h3202, H⟩ := ck H
 replace S := S.cutR (ix := 1) (i := (gi ds_block x1.blocks x9).from') (j := (gi ds_block x1.blocks x9).to') (k := (k4 : Int)) rfl h3202.1 h3202.2.1 h3202.2.2 (by have := h3202.2.2; omega) (by omega)
 refine Gets.drawn (l := [(y2 A3 k4 x1 x9), blk b2 [.slice A3 x1.b.length k4, .slice A5 x1.blocks.length k6, .slice A7 x1.filter.length k8, .int .i64 x1.count, .int .i64 (wr .i64 (x1.reads + 1))], sl .ro ku8 A3 k4 x1.b, sl .ro ks_block A5 k6 x1.blocks, sl .ro ku8 A7 k8 x1.filter]) (V := [(y0 b2), (y0 b2), (y0 b2), some (.slice A3 x1.b.length k4, true), (y0 b2), (y0 b2), some (.pointer (some ⟨b2, 1, none⟩), true), some (.slice A5 x1.blocks.length k6, true), some (.int .i64 x9, true), some (.pointer (some (eA A5 (Int.toNat x9 * 5))), true), some (.pointer (some (eA A5 (Int.toNat x9 * 5 + 0))), true), some (.int .i64 ((gi ds_block x1.blocks x9).from'), true), (y0 b2), (y0 b2), some (.pointer (some ⟨b2, 1, none⟩), true), some (.slice A5 x1.blocks.length k6, true), some (.int .i64 x9, true), some (.pointer (some (eA A5 (Int.toNat x9 * 5))), true), some (.pointer (some (eA A5 (Int.toNat x9 * 5 + 1))), true), some (.int .i64 ((gi ds_block x1.blocks x9).to'), true), some ((y1 A3 k4 x1 x9), true), none, none, none, none, none, none, none, none]) mixed T S rfl ?_
 refine stage (some 21) rfl rfl ⟨⟨_, _, rfl, (avl [0] rfl), fun _ _ _ T S => v1 T rfl fun T => ⟨rfl, T⟩⟩, ⟨_, _, rfl, (avl [16] rfl), fun _ _ _ T S => v1 T rfl fun T => ⟨rfl, T⟩⟩, ⟨_, _, rfl, (avl [17] rfl), fun _ _ _ T S => r_fa (o' := 0) T rfl tu69 rfl ts24 rfl rfl fun _ T => ⟨rfl, T⟩⟩, ⟨_, _, rfl, (avl [18] rfl), fun _ _ _ T S => lB (ix := 1) T S rfl ti24 rfl rfl rfl fun _ T => ⟨rfl, T⟩⟩, ⟨_, _, rfl, (avl [0] rfl), fun _ _ _ T S => v1 T rfl fun T => ⟨rfl, T⟩⟩, ⟨_, _, rfl, (avl [20] rfl), fun _ _ _ T S => v1 T rfl fun T => ⟨rfl, T⟩⟩, ⟨_, _, rfl, (avl [21] rfl), fun _ _ _ T S => r_fa (o' := 1) T rfl tu69 rfl ts67 rfl rfl fun _ T => ⟨rfl, T⟩⟩, ⟨_, _, rfl, (avl [22] rfl), fun _ _ _ T S => lB (ix := 1) T S rfl ti67 rfl rfl rfl fun _ T => ⟨rfl, T⟩⟩, ⟨_, _, rfl, (avl [1] rfl), fun _ _ _ T S => v1 T rfl fun T => ⟨rfl, T⟩⟩, ⟨_, _, rfl, (avl [23, 24] rfl), fun _ _ _ T S => r_ia (ix := 3) T S rfl rfl rfl rfl tu67 ts73 h2541.1 h2541.2 rfl fun _ T => ⟨rfl, T⟩⟩, ⟨_, _, rfl, (avl [25] rfl), fun _ _ _ T S => r_faE T rfl tu73 rfl ts3 rfl fun _ T => ⟨rfl, T⟩⟩, ⟨_, _, rfl, (avl [26] rfl), fun _ _ _ T S => r_ldE (ix := 3) (i := x9) (off := 0) (f := (Value.int .i64)) T S rfl ti3 rfl ds_block _ rfl rfl fld_s_block_from' h2541.1 h2541.2 id rfl fun _ T => ⟨rfl, T⟩⟩, ⟨_, _, rfl, (avl [0] rfl), fun _ _ _ T S => v1 T rfl fun T => ⟨rfl, T⟩⟩, ⟨_, _, rfl, (avl [28] rfl), fun _ _ _ T S => v1 T rfl fun T => ⟨rfl, T⟩⟩, ⟨_, _, rfl, (avl [29] rfl), fun _ _ _ T S => r_fa (o' := 1) T rfl tu69 rfl ts67 rfl rfl fun _ T => ⟨rfl, T⟩⟩, ⟨_, _, rfl, (avl [30] rfl), fun _ _ _ T S => lB (ix := 1) T S rfl ti67 rfl rfl rfl fun _ T => ⟨rfl, T⟩⟩, ⟨_, _, rfl, (avl [1] rfl), fun _ _ _ T S => v1 T rfl fun T => ⟨rfl, T⟩⟩, ⟨_, _, rfl, (avl [31, 32] rfl), fun _ _ _ T S => r_ia (ix := 3) T S rfl rfl rfl rfl tu67 ts73 h2541.1 h2541.2 rfl fun _ T => ⟨rfl, T⟩⟩, ⟨_, _, rfl, (avl [33] rfl), fun _ _ _ T S => r_faE T rfl tu73 rfl ts3 rfl fun _ T => ⟨rfl, T⟩⟩, ⟨_, _, rfl, (avl [34] rfl), fun _ _ _ T S => r_ldE (ix := 3) (i := x9) (off := 1) (f := (Value.int .i64)) T S rfl ti3 rfl ds_block _ rfl rfl fld_s_block_to' h2541.1 h2541.2 id rfl fun _ T => ⟨rfl, T⟩⟩, ⟨_, _, rfl, (avl [19, 27, 35] rfl), fun _ _ _ T S => r_slQ (xs := x1.b) T rfl (fun h => by cases h) rfl rfl rfl h3202.1 h3202.2.1 h3202.2.2 (by have := h3202.2.2; omega) (by omega) tu24 ts5 rfl fun _ T => ⟨rfl, T⟩⟩, trivial⟩ rfl (fun i hi => ?_) (fun h => by cases h)
 cases hi
 refine ⟨rfl, _, _, rfl, (avl [36] rfl), fun u a w T S => ?_⟩
 obtain ⟨x3262, h3261, H⟩ := bd H
 refine rc T Try.call33 rfl rfl (s_entries.ok _ _ z (cut x1.b (Int.toNat ((gi ds_block x1.blocks x9).from')) (Int.toNat ((gi ds_block x1.blocks x9).to'))) (S.sel (is := [0]) rfl) _ h3261) ?_
 rintro _ _ ⟨A3263, k3264, rfl, S⟩
 refine ⟨_, rfl, fun _ T => ?_⟩
 replace S := S.join
 refine ⟨_, [(y0 b2), (y0 b2), (y0 b2), some (.slice A3 x1.b.length k4, true), (y0 b2), (y0 b2), some (.pointer (some ⟨b2, 1, none⟩), true), some (.slice A5 x1.blocks.length k6, true), some (.int .i64 x9, true), some (.pointer (some (eA A5 (Int.toNat x9 * 5))), true), some (.pointer (some (eA A5 (Int.toNat x9 * 5 + 0))), true), some (.int .i64 ((gi ds_block x1.blocks x9).from'), true), (y0 b2), (y0 b2), some (.pointer (some ⟨b2, 1, none⟩), true), some (.slice A5 x1.blocks.length k6, true), some (.int .i64 x9, true), some (.pointer (some (eA A5 (Int.toNat x9 * 5))), true), some (.pointer (some (eA A5 (Int.toNat x9 * 5 + 1))), true), some (.int .i64 ((gi ds_block x1.blocks x9).to'), true), some ((y1 A3 k4 x1 x9), false), some (.tuple #[.slice A3263 x3262.1.length k3264, .int .i64 x3262.2.1, .bool x3262.2.2], false), some (.tuple #[.slice A3263 x3262.1.length k3264, .int .i64 x3262.2.1, .bool x3262.2.2], true), some (.slice A3263 x3262.1.length k3264, true), some (.int .i64 x3262.2.1, true), some (.bool x3262.2.2, true), some (.slice A3263 x3262.1.length k3264, true), some (.int .i64 x3262.2.1, true), some (.bool x3262.2.2, true)], [sl .own kaE A3263 k3264 x3262.1, (y2 A3 k4 x1 x9), blk b2 [.slice A3 x1.b.length k4, .slice A5 x1.blocks.length k6, .slice A7 x1.filter.length k8, .int .i64 x1.count, .int .i64 (wr .i64 (x1.reads + 1))], sl .ro ku8 A3 k4 x1.b, sl .ro ks_block A5 k6 x1.blocks, sl .ro ku8 A7 k8 x1.filter], rfl, (by repeat first | exact kx0 | apply kxs | apply kxn), rfl, ?_, T, S⟩
 refine stage none rfl rfl ⟨⟨_, _, rfl, (avl [0] rfl), fun _ _ _ T S => v1 T rfl fun T => ⟨rfl, T⟩⟩, ⟨_, _, rfl, (avl [16] rfl), fun _ _ _ T S => v1 T rfl fun T => ⟨rfl, T⟩⟩, ⟨_, _, rfl, (avl [17] rfl), fun _ _ _ T S => r_fa (o' := 0) T rfl tu69 rfl ts24 rfl rfl fun _ T => ⟨rfl, T⟩⟩, ⟨_, _, rfl, (avl [18] rfl), fun _ _ _ T S => lB (ix := 2) T S rfl ti24 rfl rfl rfl fun _ T => ⟨rfl, T⟩⟩, ⟨_, _, rfl, (avl [0] rfl), fun _ _ _ T S => v1 T rfl fun T => ⟨rfl, T⟩⟩, ⟨_, _, rfl, (avl [20] rfl), fun _ _ _ T S => v1 T rfl fun T => ⟨rfl, T⟩⟩, ⟨_, _, rfl, (avl [21] rfl), fun _ _ _ T S => r_fa (o' := 1) T rfl tu69 rfl ts67 rfl rfl fun _ T => ⟨rfl, T⟩⟩, ⟨_, _, rfl, (avl [22] rfl), fun _ _ _ T S => lB (ix := 2) T S rfl ti67 rfl rfl rfl fun _ T => ⟨rfl, T⟩⟩, ⟨_, _, rfl, (avl [1] rfl), fun _ _ _ T S => v1 T rfl fun T => ⟨rfl, T⟩⟩, ⟨_, _, rfl, (avl [23, 24] rfl), fun _ _ _ T S => r_ia (ix := 4) T S rfl rfl rfl rfl tu67 ts73 h2541.1 h2541.2 rfl fun _ T => ⟨rfl, T⟩⟩, ⟨_, _, rfl, (avl [25] rfl), fun _ _ _ T S => r_faE T rfl tu73 rfl ts3 rfl fun _ T => ⟨rfl, T⟩⟩, ⟨_, _, rfl, (avl [26] rfl), fun _ _ _ T S => r_ldE (ix := 4) (i := x9) (off := 0) (f := (Value.int .i64)) T S rfl ti3 rfl ds_block _ rfl rfl fld_s_block_from' h2541.1 h2541.2 id rfl fun _ T => ⟨rfl, T⟩⟩, ⟨_, _, rfl, (avl [0] rfl), fun _ _ _ T S => v1 T rfl fun T => ⟨rfl, T⟩⟩, ⟨_, _, rfl, (avl [28] rfl), fun _ _ _ T S => v1 T rfl fun T => ⟨rfl, T⟩⟩, ⟨_, _, rfl, (avl [29] rfl), fun _ _ _ T S => r_fa (o' := 1) T rfl tu69 rfl ts67 rfl rfl fun _ T => ⟨rfl, T⟩⟩, ⟨_, _, rfl, (avl [30] rfl), fun _ _ _ T S => lB (ix := 2) T S rfl ti67 rfl rfl rfl fun _ T => ⟨rfl, T⟩⟩, ⟨_, _, rfl, (avl [1] rfl), fun _ _ _ T S => v1 T rfl fun T => ⟨rfl, T⟩⟩, ⟨_, _, rfl, (avl [31, 32] rfl), fun _ _ _ T S => r_ia (ix := 4) T S rfl rfl rfl rfl tu67 ts73 h2541.1 h2541.2 rfl fun _ T => ⟨rfl, T⟩⟩, ⟨_, _, rfl, (avl [33] rfl), fun _ _ _ T S => r_faE T rfl tu73 rfl ts3 rfl fun _ T => ⟨rfl, T⟩⟩, ⟨_, _, rfl, (avl [34] rfl), fun _ _ _ T S => r_ldE (ix := 4) (i := x9) (off := 1) (f := (Value.int .i64)) T S rfl ti3 rfl ds_block _ rfl rfl fld_s_block_to' h2541.1 h2541.2 id rfl fun _ T => ⟨rfl, T⟩⟩, ⟨_, _, rfl, (avl [37] rfl), fun _ _ _ T S => v1 T rfl fun T => ⟨rfl, T⟩⟩, ⟨_, _, rfl, (avl [15] rfl), fun _ _ _ T S => v1 T rfl fun T => ⟨rfl, T⟩⟩, ⟨_, _, rfl, (avl [15] rfl), fun _ _ _ T S => v1 T rfl fun T => ⟨rfl, T⟩⟩, ⟨_, _, rfl, (avl [15] rfl), fun _ _ _ T S => v1 T rfl fun T => ⟨rfl, T⟩⟩, ⟨_, _, rfl, (avl [38] rfl), fun _ _ _ T S => v1 T rfl fun T => ⟨rfl, T⟩⟩, ⟨_, _, rfl, (avl [39] rfl), fun _ _ _ T S => v1 T rfl fun T => ⟨rfl, T⟩⟩, ⟨_, _, rfl, (avl [40] rfl), fun _ _ _ T S => v1 T rfl fun T => ⟨rfl, T⟩⟩, trivial⟩ rfl (fun i hi => by cases hi) (fun _ _ a w T hv hb S => ?_)
 replace T := T.sub (r := [(5, .slice A3263 x3262.1.length k3264)]) ⟨hv 26 _ 5 rfl rfl rfl, trivial⟩
 refine sq (rg (v2 T rfl rfl fun T => ?_))
 obtain rfl := sj H
 exact rtn T tf41 rfl rfl ⟨A3263, k3264, A3, k4, A5, k6, A7, k8, rfl, (S.only [0, 1, 1, 1, 1] rfl)⟩
end s_Table_look
def cmpL : List Int → List Int → Int
 | [], [] => 0
 | [], _ :: _ => -1
 | _ :: _, [] => 1
 | x :: xs, y :: ys => if x = y then cmpL xs ys else if x < y then -1 else 1
theorem cmpL_refl : ∀ x : List Int, cmpL x x = 0
 | [] => rfl
 | x :: xs => by simp [cmpL, cmpL_refl xs]
theorem cmpL_eq : ∀ {x y : List Int}, cmpL x y = 0 → x = y
 | [], [], _ => rfl
 | [], _ :: _, h => by simp [cmpL] at h
 | _ :: _, [], h => by simp [cmpL] at h
 | x :: xs, y :: ys, h => by
  unfold cmpL at h
  split at h
  ·rename_i e; rw [e, cmpL_eq h]
  ·split at h <;> simp at h
theorem cmpL_swap : ∀ x y : List Int, cmpL y x = - cmpL x y
 | [], [] => rfl
 | [], _ :: _ => rfl
 | _ :: _, [] => rfl
 | x :: xs, y :: ys => by
  unfold cmpL
  by_cases e : x = y
  ·rw [if_pos e, if_pos e.symm]; exact cmpL_swap xs ys
  ·rw [if_neg e, if_neg fun h => e h.symm]
   by_cases l : x < y
   ·rw [if_pos l, if_neg (by omega)]; rfl
   ·rw [if_neg l, if_pos (by omega)]
theorem cmpL_trans : ∀ {x y w : List Int}, cmpL x y ≤ 0 → cmpL y w ≤ 0 → cmpL x w ≤ 0
 | [], _, [], _, _ => by simp [cmpL]
 | [], _, _ :: _, _, _ => by simp [cmpL]
 | _ :: _, [], _, h, _ => by simp [cmpL] at h
 | _ :: _, _ :: _, [], _, h => by simp [cmpL] at h
 | x :: xs, y :: ys, w :: ws, h1, h2 => by
  unfold cmpL at h1 h2 ⊢
  by_cases e1 : x = y
  ·rw [if_pos e1] at h1
   by_cases e2 : y = w
   ·rw [if_pos e2] at h2
    rw [if_pos (e1.trans e2)]
    exact cmpL_trans h1 h2
   ·rw [if_neg e2] at h2
    rw [e1, if_neg e2]
    exact h2
  ·rw [if_neg e1] at h1
   have l1 : x < y := by
    by_cases l : x < y
    ·exact l
    ·rw [if_neg l] at h1; omega
   by_cases e2 : y = w
   ·rw [if_neg (by omega), if_pos (by omega)]; decide
   ·rw [if_neg e2] at h2
    have l2 : y < w := by
     by_cases l : y < w
     ·exact l
     ·rw [if_neg l] at h2; omega
    rw [if_neg (by omega), if_pos (by omega)]; decide
theorem bstr_get : ∀ (xs : List Int) (i : Nat), i < xs.length → (bstr xs)[i]! = UInt8.ofNat (xs[i]!).toNat := by
 intro xs i hi
 have hs : i < (bstr xs).size := by show i < (List.map _ xs).toArray.size; simpa using hi
 rw [getElem!_pos (bstr xs) i hs, getElem!_pos xs i hi]
 show ((xs.map fun n => UInt8.ofNat n.toNat).toArray)[i]'(by simpa using hi) = _
 simp
theorem u8_ne {x y : Int} (hx : 0 ≤ x ∧ x < 256) (hy : 0 ≤ y ∧ y < 256) : (UInt8.ofNat x.toNat != UInt8.ofNat y.toNat) = decide (x ≠ y) := by
 by_cases e : x = y
 ·simp [e]
 ·have : UInt8.ofNat x.toNat ≠ UInt8.ofNat y.toNat := by
   intro h
   have := congrArg UInt8.toNat h
   simp only [UInt8.toNat_ofNat'] at this
   omega
  simp [e, this]
theorem u8_lt {x y : Int} (hx : 0 ≤ x ∧ x < 256) (hy : 0 ≤ y ∧ y < 256) : (UInt8.ofNat x.toNat < UInt8.ofNat y.toNat) ↔ x < y := by
 rw [UInt8.lt_iff_toNat_lt]
 simp only [UInt8.toNat_ofNat']
 omega
theorem bstr_size (xs : List Int) : (bstr xs).size = xs.length := by show (List.map _ xs).toArray.size = _; simp
def cmpR (n : Nat) (p : Nat → Bool) (l : Nat → Bool) (e : Int) : Int := match (List.range n).find? p with | some i => if l i then -1 else 1 | none => e
theorem cmpR_succ (n : Nat) (p l : Nat → Bool) (e : Int) : cmpR (n + 1) p l e = if p 0 then (if l 0 then -1 else 1) else cmpR n (fun i => p (i + 1)) (fun i => l (i + 1)) e := by
 unfold cmpR
 rw [List.range_succ_eq_map, List.find?_cons]
 cases h : p 0 with
 | true => rfl
 | false =>
  simp only [List.find?_map, Bool.false_eq_true, if_false]
  cases h2 : List.find? (p ∘ Nat.succ) (List.range n) with
  | none =>
   have : List.find? (fun i => p (i + 1)) (List.range n) = none := h2
   simp [this]
  | some j =>
   have : List.find? (fun i => p (i + 1)) (List.range n) = some j := h2
   simp [this]
theorem bcmp_eq : ∀ {xs ys : List Int}, Bys xs → Bys ys → bcmp xs ys = cmpL xs ys := by
 have key : ∀ (xs ys : List Int), Bys xs → Bys ys → cmpR (min xs.length ys.length) (fun i => decide (xs[i]! ≠ ys[i]!)) (fun i => decide (xs[i]! < ys[i]!)) (if xs.length < ys.length then -1 else if xs.length > ys.length then 1 else 0) = cmpL xs ys := by
  intro xs
  induction xs with
  | nil =>
   intro ys _ _
   cases ys with
   | nil => rfl
   | cons y ys => simp [cmpR, cmpL]
  | cons x xs ih =>
   intro ys hx hy
   cases ys with
   | nil => simp [cmpR, cmpL]
   | cons y ys =>
    have h := ih ys (fun a ha => hx a (List.mem_cons_of_mem _ ha)) (fun a ha => hy a (List.mem_cons_of_mem _ ha))
    rw [show min (x :: xs).length (y :: ys).length = min xs.length ys.length + 1 by simp, cmpR_succ]
    have e0 : (decide ((x :: xs)[0]! ≠ (y :: ys)[0]!)) = decide (x ≠ y) := rfl
    have e1 : (decide ((x :: xs)[0]! < (y :: ys)[0]!)) = decide (x < y) := rfl
    have e2 : (fun i => decide ((x :: xs)[i + 1]! ≠ (y :: ys)[i + 1]!)) = fun i => decide (xs[i]! ≠ ys[i]!) := by funext i; simp
    have e3 : (fun i => decide ((x :: xs)[i + 1]! < (y :: ys)[i + 1]!)) = fun i => decide (xs[i]! < ys[i]!) := by funext i; simp
    rw [e0, e1, e2, e3]
    have e4 : (if (x :: xs).length < (y :: ys).length then (-1 : Int) else if (x :: xs).length > (y :: ys).length then 1 else 0) = (if xs.length < ys.length then -1 else if xs.length > ys.length then 1 else 0) := by simp
    rw [e4, h, cmpL.eq_4]
    by_cases e : x = y
    ·simp [e]
    ·by_cases l : x < y
     ·simp [e, l]
     ·simp [e, l]
 intro xs ys hx hy
 rw [← key xs ys hx hy]
 unfold bcmp Extern.BytealgCompare.cmp cmpR
 rw [bstr_size, bstr_size]
 have hf : (List.range (min xs.length ys.length)).find? (fun i => (bstr xs)[i]! != (bstr ys)[i]!) = (List.range (min xs.length ys.length)).find? (fun i => decide (xs[i]! ≠ ys[i]!)) := by
  have hc : ∀ (l : List Nat), (∀ i ∈ l, i < min xs.length ys.length) → l.find? (fun i => (bstr xs)[i]! != (bstr ys)[i]!) = l.find? (fun i => decide (xs[i]! ≠ ys[i]!)) := by
   intro l
   induction l with
   | nil => intro _; rfl
   | cons a l ih =>
    intro h
    have ha := h a (List.mem_cons_self ..)
    have e : ((bstr xs)[a]! != (bstr ys)[a]!) = decide (xs[a]! ≠ ys[a]!) := by
     rw [bstr_get xs a (by omega), bstr_get ys a (by omega)]
     refine u8_ne ?_ ?_
     ·rw [getElem!_pos xs a (by omega)]; exact hx _ (List.getElem_mem _)
     ·rw [getElem!_pos ys a (by omega)]; exact hy _ (List.getElem_mem _)
    rw [List.find?_cons, List.find?_cons, e, ih fun i hi => h i (List.mem_cons_of_mem _ hi)]
  exact hc _ fun i hi => List.mem_range.1 hi
 rw [hf]
 cases hq : (List.range (min xs.length ys.length)).find? (fun i => decide (xs[i]! ≠ ys[i]!)) with
 | none => rfl
 | some i =>
  have hi := List.mem_range.1 (List.mem_of_find?_eq_some hq)
  have hx' : 0 ≤ xs[i]! ∧ xs[i]! < 256 := by rw [getElem!_pos xs i (by omega)]; exact hx _ (List.getElem_mem _)
  have hy' : 0 ≤ ys[i]! ∧ ys[i]! < 256 := by rw [getElem!_pos ys i (by omega)]; exact hy _ (List.getElem_mem _)
  dsimp only
  rw [bstr_get xs i (by omega), bstr_get ys i (by omega)]
  by_cases l : xs[i]! < ys[i]!
  ·rw [if_pos ((u8_lt hx' hy').2 l), if_pos (by simpa using l)]
  ·rw [if_neg fun h => l ((u8_lt hx' hy').1 h), if_neg (by simpa using l)]
theorem Compare_f {xs ys : List Int} (hx : Bys xs) (hy : Bys ys) : c_Compare.f xs ys = some (cmpL xs ys) := by
 unfold c_Compare.f bytes_Compare.f
 rw [bd_some, bcmp_eq hx hy]
def ordL (a b : aE) : Prop := cmpL a.Key b.Key < 0 ∨ (a.Key = b.Key ∧ b.Seq < a.Seq)
theorem ordL_trans {a b c : aE} (h1 : ordL a b) (h2 : ordL b c) : ordL a c := by
 rcases h1 with h1 | ⟨h1, h1'⟩
 ·rcases h2 with h2 | ⟨h2, h2'⟩
  ·left
   have h3 := cmpL_trans (Int.le_of_lt h1) (Int.le_of_lt h2)
   rcases Int.lt_or_eq_of_le h3 with q | q
   ·exact q
   ·have e := cmpL_eq q
    have := cmpL_swap b.Key c.Key
    rw [← e] at this h2
    omega
  ·left; rw [← h2]; exact h1
 ·rcases h2 with h2 | ⟨h2, h2'⟩
  ·left; rw [h1]; exact h2
  ·right; exact ⟨h1.trans h2, by omega⟩
theorem ordL_of {a b : aE} (ha : okE a) (hb : okE b) (h : ¬ ordS a b ≥ 0) : ordL a b := by
 unfold ordS at h
 rw [bcmp_eq ha.1 hb.1] at h
 by_cases q : cmpL a.Key b.Key = 0
 ·have e := cmpL_eq q
  by_cases q2 : a.Seq = b.Seq
  ·rw [if_pos (.inr q2)] at h; omega
  ·rw [if_neg (by rintro (z | z); exact z q; exact q2 z)] at h
   by_cases q3 : a.Seq > b.Seq
   ·exact .inr ⟨e, q3⟩
   ·rw [if_neg q3] at h; omega
 ·rw [if_pos (.inl q)] at h
  exact .inl (by omega)
theorem chk_ord : ∀ {l : List aE} {p : aE}, okE p → (∀ e ∈ l, okE e) → chk (some p) l = none → (∀ e ∈ l, ordL p e) ∧ l.Pairwise ordL
 | [], _, _, _, _ => ⟨by simp, List.Pairwise.nil⟩
 | e :: r, p, hp, hl, h => by
  unfold chk at h
  split at h
  ·cases h
  ·split at h
   ·cases h
   ·rename_i hb
    have he := hl e (List.mem_cons_self ..)
    have hpe : ordL p e := ordL_of hp he (by simpa [bad] using hb)
    obtain ⟨h1, h2⟩ := chk_ord he (fun x hx => hl x (List.mem_cons_of_mem _ hx)) h
    refine ⟨fun x hx => ?_, List.Pairwise.cons h1 h2⟩
    rcases List.mem_cons.1 hx with rfl | hx
    ·exact hpe
    ·exact ordL_trans hpe (h1 x hx)
theorem chk_sorted {l : List aE} (hl : ∀ e ∈ l, okE e) (h : chk none l = none) : l.Pairwise ordL := by
 cases l with
 | nil => exact List.Pairwise.nil
 | cons e r =>
  unfold chk at h
  split at h
  ·cases h
  ·split at h
   ·cases h
   ·obtain ⟨h1, h2⟩ := chk_ord (hl e (List.mem_cons_self ..)) (fun x hx => hl x (List.mem_cons_of_mem _ hx)) h
    exact List.Pairwise.cons h1 h2
theorem half_eq {i j : Int} (hi : 0 ≤ i ∧ i ≤ 1000000) (hj : 0 ≤ j ∧ j ≤ 1000000) : wr .i64 (sShr .u64 (wr .u64 (wr .i64 (i + j))) 1) = (i + j) / 2 := by
 rw [wI (x := i + j) (by omega), wU (by omega), show (1 : Int) = ((1 : Nat) : Int) from rfl, shr_d _ _ _ (by decide), show (2 : Int) ^ 1 = 2 from rfl, wI (by omega)]
theorem Search_L0 (z : Nat) {t : s_Table} {key : List Int} (hk : Bys key) (hb : ∀ x ∈ t.blocks, Bys x.last) (hn : t.blocks.length ≤ 100000) {s : Nat} (hlo : ∀ k : Nat, k < s → cmpL (gi ds_block t.blocks (k : Int)).last key < 0) (hhi : ∀ k : Nat, s ≤ k → k < t.blocks.length → 0 ≤ cmpL (gi ds_block t.blocks (k : Int)).last key) :
  ∀ (n m i j : Nat), j - i = n → n < m → i ≤ s → s ≤ j → j ≤ t.blocks.length → sort_Search_at69.L0 z key m (i : Int) (j : Int) t.b t.blocks t.filter t.count t.reads = some ((s : Int), t) := by
 intro n
 induction n using Nat.strongRecOn with
 | ind n ih =>
  intro m i j hn' hm his hsj hjn
  obtain ⟨m, rfl⟩ : ∃ k, m = k + 1 := ⟨m - 1, by omega⟩
  rw [sort_Search_at69.L0]
  by_cases hij : i < j
  ·rw [if_y (by simp; omega), half_eq (by omega) (by omega), show ((i : Int) + j) / 2 = (((i + j) / 2 : Nat) : Int) by omega]
   obtain ⟨h, hh⟩ : ∃ h, (i + j) / 2 = h := ⟨_, rfl⟩
   rw [hh]
   unfold s_Table_find_c1.f
   dsimp only
   have hlt : h < t.blocks.length := by omega
   rw [ck_y (by omega), Compare_f (by rw [gi_nat _ _ _ hlt]; exact hb _ (List.getElem_mem _)) hk, bd_some, bd_some]
   dsimp only
   by_cases hs : h < s
   ·have := hlo h hs
    rw [if_y (by simp; omega), wI (by omega)]
    exact ih (j - (h + 1)) (by omega) m (h + 1) j rfl (by omega) (by omega) hsj hjn
   ·have := hhi h (by omega) hlt
    rw [if_n (by simp; omega)]
    exact ih (h - i) (by omega) m i h rfl (by omega) his (by omega) (by omega)
  ·rw [if_n (by simp; omega), show i = s by omega]
theorem find_f {z : Nat} (hz : 16777216 ≤ z) {t : s_Table} {key : List Int} (hk : Bys key) (hb : ∀ x ∈ t.blocks, Bys x.last) (hn : t.blocks.length ≤ 100000) {s : Nat} (hs : s ≤ t.blocks.length) (hlo : ∀ k : Nat, k < s → cmpL (gi ds_block t.blocks (k : Int)).last key < 0) (hhi : ∀ k : Nat, s ≤ k → k < t.blocks.length → 0 ≤ cmpL (gi ds_block t.blocks (k : Int)).last key) :
  s_Table_find.f z t key = some ((s : Int), t) := by
 unfold s_Table_find.f sort_Search_at69.f
 have := Search_L0 z hk hb hn hlo hhi (t.blocks.length - 0) z 0 t.blocks.length rfl (by omega) (by omega) hs (Nat.le_refl _)
 rw [show (0 : Int) = ((0 : Nat) : Int) from rfl, this, bd_some]
theorem tblocks_at : ∀ (P : List (List aE)) (g : List aE) (Q : List (List aE)) (o : Nat), gi ds_block (tblocks o (P ++ g :: Q)) (P.length : Int) = ⟨((o + (outF (P.map blkOf)).length : Nat) : Int), ((o + (outF (P.map blkOf)).length + (fr1 (blkOf g)).length : Nat) : Int), g.length, firstKey g, lastKey g⟩
 | [], g, Q, o => rfl
 | p :: P, g, Q, o => by
  have h := tblocks_at P g Q (o + (fr1 (blkOf p)).length)
  have e : gi ds_block (tblocks o ((p :: P) ++ g :: Q)) ((p :: P).length : Int) = gi ds_block (tblocks (o + (fr1 (blkOf p)).length) (P ++ g :: Q)) (P.length : Int) := by
   unfold gi
   rw [Int.toNat_natCast, Int.toNat_natCast]
   rfl
  rw [e, h]
  simp [outF, Nat.add_assoc]
theorem look_f {z : Nat} (hz : 16777216 ≤ z) {b : List Int} {P : List (List aE)} {g : List aE} {Q : List (List aE)} {R : List Int} (hb : b = outF ((P ++ g :: Q).map blkOf) ++ R) (hbl : b.length ≤ 4194304) (hg : ∀ e ∈ g, fitS e ∧ okE e) (hs : (lays [] g).length ≤ 65900) (F : List Int) (c r : Int) :
  s_Table_look.f z ⟨b, tblocks 0 (P ++ g :: Q), F, c, r⟩ (P.length : Int) = some (g, ⟨b, tblocks 0 (P ++ g :: Q), F, c, wr .i64 (r + 1)⟩) := by
 have hout : ∀ (P : List (List aE)), outF ((P ++ g :: Q).map blkOf) = outF (P.map blkOf) ++ (fr1 (blkOf g) ++ outF (Q.map blkOf)) := by
  intro P
  induction P with
  | nil => rfl
  | cons p P ih =>
   show fr1 (blkOf p) ++ outF ((P ++ g :: Q).map blkOf) = (fr1 (blkOf p) ++ outF (P.map blkOf)) ++ _
   rw [ih, List.append_assoc]
 have hb2 : b = outF (P.map blkOf) ++ (fr1 (blkOf g) ++ (outF (Q.map blkOf) ++ R)) := by rw [hb, hout]; simp
 have hlen := congrArg List.length hb2
 simp only [List.length_append] at hlen
 unfold s_Table_look.f
 dsimp only
 rw [ck_y (by rw [tblocks_len]; simp; omega), tblocks_at]
 dsimp only
 rw [ck_y (by omega), Int.toNat_natCast, Int.toNat_natCast, Nat.zero_add]
 have hcut : cut b (outF (P.map blkOf)).length ((outF (P.map blkOf)).length + (fr1 (blkOf g)).length) = frm 68 (lays [] g) := by
  conv => lhs; rw [hb2]
  exact cut_mid _ _ _ _ _ rfl rfl
 have := entries_f hz hg (by omega) [] (by simp)
 rw [List.append_nil] at this
 rw [hcut, this, bd_some]
namespace r4_May
noncomputable def c0 : Code := match Try.f42.body with | some c => c | none => .skip
def R (F : List Atom) (x1 : aE) (A2 : OA) (k3 : Nat) (A4 : OA) (k5 : Nat) (r : Bool) : Ending → World → Prop := fun e w' => e = .returned (.bool r) ∧ SL ([sl .ro ku8 A2 k3 x1.Key, sl .ro ku8 A4 k5 x1.Value] ++ F) w'
def J0 (x13 : Bool) : Option Bool := some x13
def f (x1 : aE) : Option Bool := If (decide ((x1.Key.length : Int) ≥ 1)) (If (decide ((x1.Key.length : Int) ≤ 256)) (If (decide (x1.Seq ≥ 1)) (If (decide (x1.Seq ≤ 4611686018427387904)) (If (decide ((x1.Value.length : Int) ≤ 65536)) (If (!x1.Del) (J0 true) (J0 ((x1.Value.length : Int) == 0))) (J0 false)) (J0 false)) (J0 false)) (J0 false)) (J0 false)
noncomputable def ptJ0 : List Item := [.code (cR (cR c0))]
theorem J0_ok (F : List Atom) (r : Bool) (x1 : aE) (A2 : OA) (k3 : Nat) (A4 : OA) (k5 : Nat) (x13 : Bool) (a : Act) (w : World) (T : Tm 40 [(2, .bool x13)] a) (S : SL ([sl .ro ku8 A2 k3 x1.Key, sl .ro ku8 A4 k5 x1.Value] ++ F) w) (H : J0 x13 = some r) : Gets Try.prog 42 ptJ0 a w (R F x1 A2 k3 A4 k5 r) := by
 obtain rfl := sj H
 exact rtn T Try.func42 rfl rfl ⟨rfl, (S.only [0, 0] rfl)⟩
theorem ok (F : List Atom) (w : World) (x1 : aE) {A2 : OA} {k3 : Nat} {A4 : OA} {k5 : Nat} (S : SL ([sl .ro ku8 A2 k3 x1.Key, sl .ro ku8 A4 k5 x1.Value] ++ F) w) (r : Bool) (H : f x1 = some r) : Calls Try.prog 42 #[.agg #[.slice A2 x1.Key.length k3, .int .u64 x1.Seq, .bool x1.Del, .slice A4 x1.Value.length k5]] w (R F x1 A2 k3 A4 k5 r) := by
 refine enter (vs := [.agg #[.slice A2 x1.Key.length k3, .int .u64 x1.Seq, .bool x1.Del, .slice A4 x1.Value.length k5]]) Try.func42 rfl Try.ntmps42 (nle rfl) fun a T => ?_
 refine sq (rg (r_box T S rfl (cs := [.slice A2 x1.Key.length k3, .int .u64 x1.Seq, .bool x1.Del, .slice A4 x1.Value.length k5]) rfl rfl fun _ _ b6 S T => v1 T rfl fun T => sq (rg (r_fa (o' := 0) T rfl tu36 rfl ts24 rfl rfl fun _ T => lB (ix := 0) T S rfl ti24 rfl rfl rfl fun _ T => rn T rfl tu24 rfl fun _ T => v2 T rfl rfl fun T => ?_))))
 rcases ifE H with ⟨h7, H⟩ | ⟨h7, H⟩
 ·refine gy T rfl h7 (r_fa (o' := 0) T rfl tu36 rfl ts24 rfl rfl fun _ T => gy T rfl h7 (lB (ix := 0) T S rfl ti24 rfl rfl rfl fun _ T => gy T rfl h7 (rn T rfl tu24 rfl fun _ T => gy T rfl h7 (v1 T rfl fun T => pT T rfl h7 rfl rfl fun _ T => v1 T rfl fun T => ?_))))
  rcases ifE H with ⟨h8, H⟩ | ⟨h8, H⟩
  ·refine gy T rfl h8 (r_fa (o' := 1) T rfl tu36 rfl ts34 rfl rfl fun _ T => gy T rfl h8 (lB (ix := 0) T S rfl ti34 rfl rfl rfl fun _ T => gy T rfl h8 (v1 T rfl fun T => pT T rfl h8 rfl rfl fun _ T => v1 T rfl fun T => ?_)))
   rcases ifE H with ⟨h9, H⟩ | ⟨h9, H⟩
   ·refine gy T rfl h9 (r_fa (o' := 1) T rfl tu36 rfl ts34 rfl rfl fun _ T => gy T rfl h9 (lB (ix := 0) T S rfl ti34 rfl rfl rfl fun _ T => gy T rfl h9 (v1 T rfl fun T => pT T rfl h9 rfl rfl fun _ T => v1 T rfl fun T => ?_)))
    rcases ifE H with ⟨h10, H⟩ | ⟨h10, H⟩
    ·refine gy T rfl h10 (r_fa (o' := 3) T rfl tu36 rfl ts24 rfl rfl fun _ T => gy T rfl h10 (lB (ix := 0) T S rfl ti24 rfl rfl rfl fun _ T => gy T rfl h10 (rn T rfl tu24 rfl fun _ T => gy T rfl h10 (v1 T rfl fun T => pT T rfl h10 rfl rfl fun _ T => v1 T rfl fun T => ?_))))
     rcases ifE H with ⟨h11, H⟩ | ⟨h11, H⟩
     ·refine gy T rfl h11 (r_fa (o' := 2) T rfl tu36 rfl ts4 rfl rfl fun _ T => gy T rfl h11 (lB (ix := 0) T S rfl ti4 rfl rfl rfl fun _ T => gy T rfl h11 (v1 T rfl fun T => gy T rfl h11 (v1 T rfl fun T => ?_))))
      rcases ifE H with ⟨h12, H⟩ | ⟨h12, H⟩
      ·refine gn T rfl h12 fun T => gn T rfl h12 fun T => gn T rfl h12 fun T => gn T rfl h12 fun T => gy T rfl h11 (pT T rfl h12 rfl rfl fun _ T => pT T rfl h11 rfl rfl fun _ T => v1 T rfl fun T => ?_)
       exact J0_ok F r x1 A2 k3 A4 k5 true _ _ (T.sb rfl) (S.only [1, 1] rfl) H
      ·refine gy T rfl h12 (r_fa (o' := 3) T rfl tu36 rfl ts24 rfl rfl fun _ T => gy T rfl h12 (lB (ix := 0) T S rfl ti24 rfl rfl rfl fun _ T => gy T rfl h12 (rn T rfl tu24 rfl fun _ T => gy T rfl h12 (v1 T rfl fun T => gy T rfl h11 (pF T rfl h12 rfl rfl fun _ T => pT T rfl h11 rfl rfl fun _ T => v1 T rfl fun T => ?_)))))
       exact J0_ok F r x1 A2 k3 A4 k5 ((x1.Value.length : Int) == 0) _ _ (T.sb rfl) (S.only [1, 1] rfl) H
     ·refine gn T rfl h11 fun T => gn T rfl h11 fun T => gn T rfl h11 fun T => gn T rfl h11 fun T => g_und T rfl rfl rfl fun _ T => g_und T rfl rfl rfl fun _ T => g_und T rfl rfl rfl fun _ T => g_und T rfl rfl rfl fun _ T => gn T rfl h11 fun T => pF T rfl h11 rfl rfl fun _ T => v1 T rfl fun T => ?_
      exact J0_ok F r x1 A2 k3 A4 k5 false _ _ (T.sb rfl) (S.only [1, 1] rfl) H
    ·refine gn T rfl h10 fun T => gn T rfl h10 fun T => gn T rfl h10 fun T => gn T rfl h10 fun T => pF T rfl h10 rfl rfl fun _ T => v1 T rfl fun T => gn T rfl rfl fun T => gn T rfl rfl fun T => gn T rfl rfl fun T => gn T rfl rfl fun T => g_und T rfl rfl rfl fun _ T => g_und T rfl rfl rfl fun _ T => g_und T rfl rfl rfl fun _ T => g_und T rfl rfl rfl fun _ T => gn T rfl rfl fun T => pF T rfl rfl rfl rfl fun _ T => v1 T rfl fun T => ?_
     exact J0_ok F r x1 A2 k3 A4 k5 false _ _ (T.sb rfl) (S.only [1, 1] rfl) H
   ·refine gn T rfl h9 fun T => gn T rfl h9 fun T => gn T rfl h9 fun T => pF T rfl h9 rfl rfl fun _ T => v1 T rfl fun T => gn T rfl rfl fun T => gn T rfl rfl fun T => gn T rfl rfl fun T => gn T rfl rfl fun T => pF T rfl rfl rfl rfl fun _ T => v1 T rfl fun T => gn T rfl rfl fun T => gn T rfl rfl fun T => gn T rfl rfl fun T => gn T rfl rfl fun T => g_und T rfl rfl rfl fun _ T => g_und T rfl rfl rfl fun _ T => g_und T rfl rfl rfl fun _ T => g_und T rfl rfl rfl fun _ T => gn T rfl rfl fun T => pF T rfl rfl rfl rfl fun _ T => v1 T rfl fun T => ?_
    exact J0_ok F r x1 A2 k3 A4 k5 false _ _ (T.sb rfl) (S.only [1, 1] rfl) H
  ·refine gn T rfl h8 fun T => gn T rfl h8 fun T => gn T rfl h8 fun T => pF T rfl h8 rfl rfl fun _ T => v1 T rfl fun T => gn T rfl rfl fun T => gn T rfl rfl fun T => gn T rfl rfl fun T => pF T rfl rfl rfl rfl fun _ T => v1 T rfl fun T => gn T rfl rfl fun T => gn T rfl rfl fun T => gn T rfl rfl fun T => gn T rfl rfl fun T => pF T rfl rfl rfl rfl fun _ T => v1 T rfl fun T => gn T rfl rfl fun T => gn T rfl rfl fun T => gn T rfl rfl fun T => gn T rfl rfl fun T => g_und T rfl rfl rfl fun _ T => g_und T rfl rfl rfl fun _ T => g_und T rfl rfl rfl fun _ T => g_und T rfl rfl rfl fun _ T => gn T rfl rfl fun T => pF T rfl rfl rfl rfl fun _ T => v1 T rfl fun T => ?_
   exact J0_ok F r x1 A2 k3 A4 k5 false _ _ (T.sb rfl) (S.only [1, 1] rfl) H
 ·refine gn T rfl h7 fun T => gn T rfl h7 fun T => gn T rfl h7 fun T => gn T rfl h7 fun T => pF T rfl h7 rfl rfl fun _ T => v1 T rfl fun T => gn T rfl rfl fun T => gn T rfl rfl fun T => gn T rfl rfl fun T => pF T rfl rfl rfl rfl fun _ T => v1 T rfl fun T => gn T rfl rfl fun T => gn T rfl rfl fun T => gn T rfl rfl fun T => pF T rfl rfl rfl rfl fun _ T => v1 T rfl fun T => gn T rfl rfl fun T => gn T rfl rfl fun T => gn T rfl rfl fun T => gn T rfl rfl fun T => pF T rfl rfl rfl rfl fun _ T => v1 T rfl fun T => gn T rfl rfl fun T => gn T rfl rfl fun T => gn T rfl rfl fun T => gn T rfl rfl fun T => g_und T rfl rfl rfl fun _ T => g_und T rfl rfl rfl fun _ T => g_und T rfl rfl rfl fun _ T => g_und T rfl rfl rfl fun _ T => gn T rfl rfl fun T => pF T rfl rfl rfl rfl fun _ T => v1 T rfl fun T => ?_
  exact J0_ok F r x1 A2 k3 A4 k5 false _ _ (T.sb rfl) (S.only [1, 1] rfl) H
end r4_May
namespace r1_Compare
noncomputable def c0 : Code := match Try.f51.body with | some c => c | none => .skip
def R (F : List Atom) (x1 : List Int) (A2 : OA) (k3 : Nat) (m4 : Md) (x5 : List Int) (A6 : OA) (k7 : Nat) (m8 : Md) (r : Int) : Ending → World → Prop := fun e w' => e = .returned (.int .i64 r) ∧ SL ([sl m4 ku8 A2 k3 x1, sl m8 ku8 A6 k7 x5] ++ F) w'
def J1 (z : Nat) (x1 x5 : List Int) : Option Int := If ((x1.length : Int) == (x5.length : Int)) (some 0) (If (decide ((x1.length : Int) < (x5.length : Int))) (some (-1)) (some 1))
def L0 (z : Nat) (x1 x5 : List Int) : Nat → Int → Option Int
 | 0, _ => none
 | m + 1, x9 => If (decide (x9 < (x1.length : Int))) (If (decide (x9 < (x5.length : Int))) (Ck (0 ≤ x9 ∧ x9 < (x1.length : Int)) (Ck (x9 < (x5.length : Int)) (If ((gi (0 : Int) x1 x9) != (gi (0 : Int) x5 x9)) (If (decide ((gi (0 : Int) x1 x9) < (gi (0 : Int) x5 x9))) (some (-1)) (some 1)) (L0 z x1 x5 m (wr .i64 (x9 + 1)))))) (J1 z x1 x5)) (J1 z x1 x5)
def f (z : Nat) (x1 x5 : List Int) : Option Int := L0 z x1 x5 z 0
noncomputable def ptJ1 : List Item := [.code (cL (cL (cR (cR c0)))), .code (cR (cL (cR (cR c0)))), .code (cr 3 c0)]
noncomputable def ptL0 : List Item := [.code (cB (cB (cR (cL (cR c0))))), .inLoop (cB (cB (cR (cL (cR c0))))), .inBlock 0, .code (cR (cR c0))]
theorem J1_ok (F : List Atom) (r : Int) (z : Nat) (x1 : List Int) (A2 : OA) (k3 : Nat) (m4 : Md) (x5 : List Int) (A6 : OA) (k7 : Nat) (m8 : Md) (a : Act) (w : World) (T : Tm 46 [(0, .slice A2 x1.length k3), (1, .slice A6 x5.length k7)] a) (S : SL ([sl m4 ku8 A2 k3 x1, sl m8 ku8 A6 k7 x5] ++ F) w) (H : J1 z x1 x5 = some r) : Gets Try.prog 51 ptJ1 a w (R F x1 A2 k3 m4 x5 A6 k7 m8 r) := by
 refine rg (v1 T rfl fun T => rn T rfl tu24 rfl fun _ T => v1 T rfl fun T => rn T rfl tu24 rfl fun _ T => v1 T rfl fun T => ?_)
 rcases ifE H with ⟨h14, H⟩ | ⟨h14, H⟩
 ·refine cdT T rfl h14 (sq (rg (v1 T rfl fun T => ?_)))
  obtain rfl := sj H
  exact rtn T tf51 rfl rfl ⟨rfl, (S.only [0, 0] rfl)⟩
 ·refine cdF T rfl h14 (sk (sq (sq (rg (v1 T rfl fun T => rn T rfl tu24 rfl fun _ T => v1 T rfl fun T => rn T rfl tu24 rfl fun _ T => v1 T rfl fun T => ?_)))))
  rcases ifE H with ⟨h15, H⟩ | ⟨h15, H⟩
  ·refine cdT T rfl h15 (sq (rg (v1 T rfl fun T => ?_)))
   obtain rfl := sj H
   exact rtn T tf51 rfl rfl ⟨rfl, (S.only [0, 0] rfl)⟩
  ·refine cdF T rfl h15 (sk (sq (rg (v1 T rfl fun T => ?_))))
   obtain rfl := sj H
   exact rtn T tf51 rfl rfl ⟨rfl, (S.only [0, 0] rfl)⟩
theorem L0_ok (F : List Atom) (r : Int) (z : Nat) (x1 : List Int) (A2 : OA) (k3 : Nat) (m4 : Md) (x5 : List Int) (A6 : OA) (k7 : Nat) (m8 : Md) (m : Nat) : ∀ (x9 : Int) (a : Act) (w : World), Tm 46 [(0, .slice A2 x1.length k3), (1, .slice A6 x5.length k7), (5, .int .i64 x9)] a → SL ([sl m4 ku8 A2 k3 x1, sl m8 ku8 A6 k7 x5] ++ F) w → L0 z x1 x5 m x9 = some r → Gets Try.prog 51 ptL0 a w (R F x1 A2 k3 m4 x5 A6 k7 m8 r) := by
 induction m with
 | zero => intro _ _ _ _ _ H; cases H
 | succ m ih =>
  intro x9 a w T S H
  refine sq (sq (rg (v2 T rfl rfl fun T => rn T rfl tu24 rfl fun _ T => v2 T rfl rfl fun T => ?_)))
  rcases ifE H with ⟨h10, H⟩ | ⟨h10, H⟩
  ·refine gy T rfl h10 (v1 T rfl fun T => gy T rfl h10 (v1 T rfl fun T => gy T rfl h10 (rn T rfl tu24 rfl fun _ T => gy T rfl h10 (v1 T rfl fun T => pT T rfl h10 rfl rfl fun _ T => ?_))))
   rcases ifE H with ⟨h11, H⟩ | ⟨h11, H⟩
   ·refine cdT T rfl h11 (sk (sq (bq (sq ?_))))
    obtain ⟨h2121, H⟩ := ck H
    obtain ⟨h2361, H⟩ := ck H
    refine Gets.drawn (l := [sl m4 ku8 A2 k3 x1, sl m8 ku8 A6 k7 x5]) (V := [some (.slice A2 x1.length k3, true), some (.int .i64 x9, true), some (.pointer (some (eA A2 (Int.toNat x9 * 1))), true), some (.int .u8 (gi (0 : Int) x1 x9), true), some (.slice A6 x5.length k7, true), some (.int .i64 x9, true), some (.pointer (some (eA A6 (Int.toNat x9 * 1))), true), some (.int .u8 (gi (0 : Int) x5 x9), true), some (.bool ((gi (0 : Int) x1 x9) != (gi (0 : Int) x5 x9)), true)]) mixed T S rfl ?_
    refine stage none rfl rfl ⟨⟨_, _, rfl, (avl [0] rfl), fun _ _ _ T S => v1 T rfl fun T => ⟨rfl, T⟩⟩, ⟨_, _, rfl, (avl [5] rfl), fun _ _ _ T S => v1 T rfl fun T => ⟨rfl, T⟩⟩, ⟨_, _, rfl, (avl [18, 19] rfl), fun _ _ _ T S => r_ia (ix := 0) T S rfl rfl rfl rfl tu24 ts5 h2121.1 h2121.2 rfl fun _ T => ⟨rfl, T⟩⟩, ⟨_, _, rfl, (avl [20] rfl), fun _ _ _ T S => r_ldE (ix := 0) (i := x9) (off := 0) (f := (Value.int .u8)) T S rfl ti5 rfl (0 : Int) _ rfl rfl (Fld.all _) h2121.1 h2121.2 id rfl fun _ T => ⟨rfl, T⟩⟩, ⟨_, _, rfl, (avl [1] rfl), fun _ _ _ T S => v1 T rfl fun T => ⟨rfl, T⟩⟩, ⟨_, _, rfl, (avl [5] rfl), fun _ _ _ T S => v1 T rfl fun T => ⟨rfl, T⟩⟩, ⟨_, _, rfl, (avl [22, 23] rfl), fun _ _ _ T S => r_ia (ix := 1) T S rfl rfl rfl rfl tu24 ts5 h2121.1 h2361 rfl fun _ T => ⟨rfl, T⟩⟩, ⟨_, _, rfl, (avl [24] rfl), fun _ _ _ T S => r_ldE (ix := 1) (i := x9) (off := 0) (f := (Value.int .u8)) T S rfl ti5 rfl (0 : Int) _ rfl rfl (Fld.all _) h2121.1 h2361 id rfl fun _ T => ⟨rfl, T⟩⟩, ⟨_, _, rfl, (avl [21, 25] rfl), fun _ _ _ T S => v1 T rfl fun T => ⟨rfl, T⟩⟩, trivial⟩ rfl (fun i hi => by cases hi) (fun _ _ a w T hv hb S => ?_)
    replace T := T.sub (r := [(0, .slice A2 x1.length k3), (1, .slice A6 x5.length k7), (5, .int .i64 x9), (26, .bool ((gi (0 : Int) x1 x9) != (gi (0 : Int) x5 x9)))]) ⟨hb 0 _ rfl rfl, hb 1 _ rfl rfl, hb 5 _ rfl rfl, hv 8 _ 26 rfl rfl rfl, trivial⟩
    rcases ifE H with ⟨h12, H⟩ | ⟨h12, H⟩
    ·refine cdT T rfl h12 (sq (sq ?_))
     refine Gets.drawn (l := [sl m4 ku8 A2 k3 x1, sl m8 ku8 A6 k7 x5]) (V := [some (.slice A2 x1.length k3, true), some (.int .i64 x9, true), some (.pointer (some (eA A2 (Int.toNat x9 * 1))), true), some (.int .u8 (gi (0 : Int) x1 x9), true), some (.slice A6 x5.length k7, true), some (.int .i64 x9, true), some (.pointer (some (eA A6 (Int.toNat x9 * 1))), true), some (.int .u8 (gi (0 : Int) x5 x9), true), some (.bool (decide ((gi (0 : Int) x1 x9) < (gi (0 : Int) x5 x9))), true)]) mixed T S rfl ?_
     refine stage none rfl rfl ⟨⟨_, _, rfl, (avl [0] rfl), fun _ _ _ T S => v1 T rfl fun T => ⟨rfl, T⟩⟩, ⟨_, _, rfl, (avl [5] rfl), fun _ _ _ T S => v1 T rfl fun T => ⟨rfl, T⟩⟩, ⟨_, _, rfl, (avl [27, 28] rfl), fun _ _ _ T S => r_ia (ix := 0) T S rfl rfl rfl rfl tu24 ts5 h2121.1 h2121.2 rfl fun _ T => ⟨rfl, T⟩⟩, ⟨_, _, rfl, (avl [29] rfl), fun _ _ _ T S => r_ldE (ix := 0) (i := x9) (off := 0) (f := (Value.int .u8)) T S rfl ti5 rfl (0 : Int) _ rfl rfl (Fld.all _) h2121.1 h2121.2 id rfl fun _ T => ⟨rfl, T⟩⟩, ⟨_, _, rfl, (avl [1] rfl), fun _ _ _ T S => v1 T rfl fun T => ⟨rfl, T⟩⟩, ⟨_, _, rfl, (avl [5] rfl), fun _ _ _ T S => v1 T rfl fun T => ⟨rfl, T⟩⟩, ⟨_, _, rfl, (avl [31, 32] rfl), fun _ _ _ T S => r_ia (ix := 1) T S rfl rfl rfl rfl tu24 ts5 h2121.1 h2361 rfl fun _ T => ⟨rfl, T⟩⟩, ⟨_, _, rfl, (avl [33] rfl), fun _ _ _ T S => r_ldE (ix := 1) (i := x9) (off := 0) (f := (Value.int .u8)) T S rfl ti5 rfl (0 : Int) _ rfl rfl (Fld.all _) h2121.1 h2361 id rfl fun _ T => ⟨rfl, T⟩⟩, ⟨_, _, rfl, (avl [30, 34] rfl), fun _ _ _ T S => v1 T rfl fun T => ⟨rfl, T⟩⟩, trivial⟩ rfl (fun i hi => by cases hi) (fun _ _ a w T hv hb S => ?_)
     replace T := T.sub (r := [(35, .bool (decide ((gi (0 : Int) x1 x9) < (gi (0 : Int) x5 x9))))]) ⟨hv 8 _ 35 rfl rfl rfl, trivial⟩
     rcases ifE H with ⟨h13, H⟩ | ⟨h13, H⟩
     ·refine cdT T rfl h13 (sq (rg (v1 T rfl fun T => ?_)))
      obtain rfl := sj H
      exact rtn T tf51 rfl rfl ⟨rfl, (S.only [0, 0] rfl)⟩
     ·refine cdF T rfl h13 (sk (sq (rg (v1 T rfl fun T => ?_))))
      obtain rfl := sj H
      exact rtn T tf51 rfl rfl ⟨rfl, (S.only [0, 0] rfl)⟩
    ·refine cdF T rfl h12 (sk (Gets.inBlock (rg (v3 T rfl rfl rfl fun T => Gets.inLoop ?_))))
     exact ih (wr .i64 (x9 + 1)) _ _ (T.sb rfl) (S.only [0, 0] rfl) H
   ·refine cdF T rfl h11 (Gets.exit rfl (sq (sq ?_)))
    exact J1_ok F r z x1 A2 k3 m4 x5 A6 k7 m8 _ _ (T.sb rfl) (S.only [0, 0] rfl) H
  ·refine gn T rfl h10 fun T => gn T rfl h10 fun T => gn T rfl h10 fun T => gn T rfl h10 fun T => pF T rfl h10 rfl rfl fun _ T => cdF T rfl rfl (Gets.exit rfl (sq (sq ?_)))
   exact J1_ok F r z x1 A2 k3 m4 x5 A6 k7 m8 _ _ (T.sb rfl) (S.only [0, 0] rfl) H
theorem ok (F : List Atom) (w : World) (z : Nat) (x1 x5 : List Int) {A2 : OA} {k3 : Nat} {m4 : Md} {A6 : OA} {k7 : Nat} {m8 : Md} (S : SL ([sl m4 ku8 A2 k3 x1, sl m8 ku8 A6 k7 x5] ++ F) w) (r : Int) (H : f z x1 x5 = some r) : Calls Try.prog 51 #[.slice A2 x1.length k3, .slice A6 x5.length k7] w (R F x1 A2 k3 m4 x5 A6 k7 m8 r) := by
 refine enter (vs := [.slice A2 x1.length k3, .slice A6 x5.length k7]) tf51 rfl Try.ntmps51 (nle rfl) fun a T => ?_
 refine sq (rg (v1 T rfl fun T => sq (sq (rg (v1 T rfl fun T => bq (Gets.loop ?_))))))
 exact L0_ok F r z x1 A2 k3 m4 x5 A6 k7 m8 z 0 _ _ (T.sb rfl) (S.only [0, 0] rfl) H
end r1_Compare
namespace r4_Compare
def R (F : List Atom) (x1 : aE) (A2 : OA) (k3 : Nat) (A4 : OA) (k5 : Nat) (x6 : aE) (A7 : OA) (k8 : Nat) (A9 : OA) (k10 : Nat) (r : Int) : Ending → World → Prop := fun e w' => e = .returned (.int .i64 r) ∧ SL ([sl .ro ku8 A2 k3 x1.Key, sl .ro ku8 A4 k5 x1.Value, sl .ro ku8 A7 k8 x6.Key, sl .ro ku8 A9 k10 x6.Value] ++ F) w'
def f (z : Nat) (x1 x6 : aE) : Option Int := Bd (r1_Compare.f z x1.Key x6.Key) fun x14 => If (x14 != 0) (some x14) (If (decide (x1.Seq > x6.Seq)) (some (-1)) (If (decide (x1.Seq < x6.Seq)) (some 1) (some 0)))
theorem ok (F : List Atom) (w : World) (z : Nat) (x1 x6 : aE) {A2 : OA} {k3 : Nat} {A4 : OA} {k5 : Nat} {A7 : OA} {k8 : Nat} {A9 : OA} {k10 : Nat} (S : SL ([sl .ro ku8 A2 k3 x1.Key, sl .ro ku8 A4 k5 x1.Value, sl .ro ku8 A7 k8 x6.Key, sl .ro ku8 A9 k10 x6.Value] ++ F) w) (r : Int) (H : f z x1 x6 = some r) : Calls Try.prog 43 #[.agg #[.slice A2 x1.Key.length k3, .int .u64 x1.Seq, .bool x1.Del, .slice A4 x1.Value.length k5], .agg #[.slice A7 x6.Key.length k8, .int .u64 x6.Seq, .bool x6.Del, .slice A9 x6.Value.length k10]] w (R F x1 A2 k3 A4 k5 x6 A7 k8 A9 k10 r) := by
 refine enter (vs := [.agg #[.slice A2 x1.Key.length k3, .int .u64 x1.Seq, .bool x1.Del, .slice A4 x1.Value.length k5], .agg #[.slice A7 x6.Key.length k8, .int .u64 x6.Seq, .bool x6.Del, .slice A9 x6.Value.length k10]]) tf43 rfl Try.ntmps43 (nle rfl) fun a T => ?_
 refine sq (rg (r_box T S rfl (cs := [.slice A2 x1.Key.length k3, .int .u64 x1.Seq, .bool x1.Del, .slice A4 x1.Value.length k5]) rfl rfl fun _ _ b11 S T => r_box T S rfl (cs := [.slice A7 x6.Key.length k8, .int .u64 x6.Seq, .bool x6.Del, .slice A9 x6.Value.length k10]) rfl rfl fun _ _ b12 S T => v1 T rfl fun T => sq (rg (r_fa (o' := 0) T rfl tu36 rfl ts24 rfl rfl fun _ T => lB (ix := 1) T S rfl ti24 rfl rfl rfl fun _ T => r_fa (o' := 0) T rfl tu36 rfl ts24 rfl rfl fun _ T => lB (ix := 0) T S rfl ti24 rfl rfl rfl fun _ T => ?_))))
 replace S := S.dup (i := 2) rfl
 replace S := S.dup (i := 5) rfl
 obtain ⟨x14, h13, H⟩ := bd H
 refine rc T tc51 rfl rfl (r1_Compare.ok _ _ z x1.Key x6.Key (S.sel (is := [1, 0]) rfl) _ h13) ?_
 rintro _ _ ⟨rfl, S⟩
 refine ⟨_, rfl, fun _ T => ?_⟩
 replace S := S.join.only [2, 2, 2, 2, 2, 2] rfl
 refine v1 T rfl fun T => sq (bq (sq (rg (v3 T rfl rfl rfl fun T => ?_))))
 rcases ifE H with ⟨h15, H⟩ | ⟨h15, H⟩
 ·refine cdT T rfl h15 (sq (rg (v2 T rfl rfl fun T => ?_)))
  obtain rfl := sj H
  exact rtn T tf43 rfl rfl ⟨rfl, (S.only [2, 2, 2, 2] rfl)⟩
 ·refine cdF T rfl h15 (sq (rg (r_fa (o' := 1) T rfl tu36 rfl ts34 rfl rfl fun _ T => lB (ix := 1) T S rfl ti34 rfl rfl rfl fun _ T => r_fa (o' := 1) T rfl tu36 rfl ts34 rfl rfl fun _ T => lB (ix := 0) T S rfl ti34 rfl rfl rfl fun _ T => v2 T rfl rfl fun T => ?_)))
  rcases ifE H with ⟨h16, H⟩ | ⟨h16, H⟩
  ·refine cdT T rfl h16 (sq (rg (v1 T rfl fun T => ?_)))
   obtain rfl := sj H
   exact rtn T tf43 rfl rfl ⟨rfl, (S.only [2, 2, 2, 2] rfl)⟩
  ·refine cdF T rfl h16 (sq (rg (r_fa (o' := 1) T rfl tu36 rfl ts34 rfl rfl fun _ T => lB (ix := 1) T S rfl ti34 rfl rfl rfl fun _ T => r_fa (o' := 1) T rfl tu36 rfl ts34 rfl rfl fun _ T => lB (ix := 0) T S rfl ti34 rfl rfl rfl fun _ T => v2 T rfl rfl fun T => ?_)))
   rcases ifE H with ⟨h17, H⟩ | ⟨h17, H⟩
   ·refine cdT T rfl h17 (sq (rg (v1 T rfl fun T => ?_)))
    obtain rfl := sj H
    exact rtn T tf43 rfl rfl ⟨rfl, (S.only [2, 2, 2, 2] rfl)⟩
   ·refine cdF T rfl h17 (sk (Gets.inBlock (sq (rg (v1 T rfl fun T => ?_)))))
    obtain rfl := sj H
    exact rtn T tf43 rfl rfl ⟨rfl, (S.only [2, 2, 2, 2] rfl)⟩
end r4_Compare
namespace r3_Hash
noncomputable def c0 : Code := match Try.f96.body with | some c => c | none => .skip
def R (F : List Atom) (x1 : List Int) (A2 : OA) (k3 : Nat) (m4 : Md) (r : Int) : Ending → World → Prop := fun e w' => e = .returned (.int .u64 r) ∧ SL ([sl m4 ku8 A2 k3 x1] ++ F) w'
def L0 (z : Nat) (x1 : List Int) : Nat → Int → Int → Option Int
 | 0, _, _ => none
 | m + 1, x5, x6 => If (decide (x6 < (x1.length : Int))) (Ck (0 ≤ x6 ∧ x6 < (x1.length : Int)) (L0 z x1 m (wr .u64 ((bXor .u64 x5 (wr .u64 (gi (0 : Int) x1 x6))) * 1099511628211)) (wr .i64 (x6 + 1)))) (some x5)
def f (z : Nat) (x1 : List Int) : Option Int := L0 z x1 z 14695981039346656037 0
noncomputable def ptL0 : List Item := [.code (cB (cB (cR (cL (cR (cR c0)))))), .inLoop (cB (cB (cR (cL (cR (cR c0)))))), .inBlock 0, .code (cr 3 c0)]
theorem L0_ok (F : List Atom) (r : Int) (z : Nat) (x1 : List Int) (A2 : OA) (k3 : Nat) (m4 : Md) (m : Nat) : ∀ (x5 x6 : Int) (a : Act) (w : World), Tm 20 [(0, .slice A2 x1.length k3), (3, .int .u64 x5), (4, .int .i64 x6)] a → SL ([sl m4 ku8 A2 k3 x1] ++ F) w → L0 z x1 m x5 x6 = some r → Gets Try.prog 96 ptL0 a w (R F x1 A2 k3 m4 r) := by
 induction m with
 | zero => intro _ _ _ _ _ _ H; cases H
 | succ m ih =>
  intro x5 x6 a w T S H
  refine sq (sq (rg (v2 T rfl rfl fun T => rn T rfl tu24 rfl fun _ T => v1 T rfl fun T => ?_)))
  rcases ifE H with ⟨h7, H⟩ | ⟨h7, H⟩
  ·refine cdT T rfl h7 (sk (sq (bq (rg (v3 T rfl rfl rfl fun T => ?_)))))
   obtain ⟨h8, H⟩ := ck H
   refine r_ia (ix := 0) T S rfl rfl rfl rfl tu24 ts5 h8.1 h8.2 rfl fun _ T => r_ldE (ix := 0) (i := x6) (off := 0) (f := (Value.int .u8)) T S rfl ti5 rfl (0 : Int) _ rfl rfl (Fld.all _) h8.1 h8.2 id rfl fun _ T => r_conv T rfl tu5 tu34 rfl fun _ T => v3 T rfl rfl rfl fun T => Gets.inBlock (rg (v3 T rfl rfl rfl fun T => Gets.inLoop ?_))
   exact ih (wr .u64 ((bXor .u64 x5 (wr .u64 (gi (0 : Int) x1 x6))) * 1099511628211)) (wr .i64 (x6 + 1)) _ _ (T.sb rfl) (S.only [0] rfl) H
  ·refine cdF T rfl h7 (Gets.exit rfl (sq (rg (v2 T rfl rfl fun T => ?_))))
   obtain rfl := sj H
   exact rtn T Try.func96 rfl rfl ⟨rfl, (S.only [0] rfl)⟩
theorem ok (F : List Atom) (w : World) (z : Nat) (x1 : List Int) {A2 : OA} {k3 : Nat} {m4 : Md} (S : SL ([sl m4 ku8 A2 k3 x1] ++ F) w) (r : Int) (H : f z x1 = some r) : Calls Try.prog 96 #[.slice A2 x1.length k3] w (R F x1 A2 k3 m4 r) := by
 refine enter (vs := [.slice A2 x1.length k3]) Try.func96 rfl Try.ntmps96 (nle rfl) fun a T => ?_
 refine sq (rg (v1 T rfl fun T => sq (rg (v1 T rfl fun T => sq (sq (rg (v1 T rfl fun T => bq (Gets.loop ?_))))))))
 exact L0_ok F r z x1 A2 k3 m4 z 14695981039346656037 0 _ _ (T.sb rfl) (S.only [0] rfl) H
end r3_Hash
namespace r3_bits
noncomputable def c0 : Code := match Try.f80.body with | some c => c | none => .skip
def R (F : List Atom) (x1 : List Int) (A2 : OA) (k3 : Nat) (m4 : Md) (r : (List Int)) : Ending → World → Prop := fun e w' => ∃ (A22 : OA), ∃ (k23 : Nat), e = .returned (.slice A22 r.length k23) ∧ SL ([sl .own ku64 A22 k23 r, sl m4 ku8 A2 k3 x1] ++ F) w'
def L1 (z : Nat) (x5 x6 x10 : Int) : Nat → Int → (List Int) → Int → Option (List Int)
 | 0, _, _, _ => none
 | m + 1, x11, x12, x15 => If (decide (x15 < x5)) (Ck (x6 ≠ 0) (Ck ((x12.length + [Int.tmod x11 x6].length) * 8 ≤ 140737488355328) (L1 z x5 x6 x10 m (wr .u64 (x11 + x10)) (x12 ++ [Int.tmod x11 x6]) (wr .i64 (x15 + 1))))) (some x12)
def J0 (z : Nat) (x5 x6 x8 x10 : Int) : Option (List Int) := L1 z x5 x6 x10 z x8 [] 0
def f (z : Nat) (x1 : List Int) (x5 x6 : Int) : Option (List Int) := Bd (r3_Hash.f z x1) fun x8 => If ((Int.tmod (wr .u64 ((wr .u64 ((Int.tmod x8 8589934592) * 2147483648)) + (wr .u64 (Int.tdiv x8 8589934592)))) 2) == 0) (J0 z x5 x6 x8 (wr .u64 ((wr .u64 ((wr .u64 ((Int.tmod x8 8589934592) * 2147483648)) + (wr .u64 (Int.tdiv x8 8589934592)))) + 1))) (J0 z x5 x6 x8 (wr .u64 ((wr .u64 ((Int.tmod x8 8589934592) * 2147483648)) + (wr .u64 (Int.tdiv x8 8589934592)))))
noncomputable def ptL1 : List Item := [.code (cB (cB (cR (cL (cr 5 c0))))), .inLoop (cB (cB (cR (cL (cr 5 c0))))), .inBlock 0, .code (cr 6 c0)]
noncomputable def ptJ0 : List Item := [.code (cL (cr 4 c0)), .code (cr 5 c0)]
theorem L1_ok (F : List Atom) (r : (List Int)) (z : Nat) (x1 : List Int) (A2 : OA) (k3 : Nat) (m4 : Md) (x5 x6 x10 : Int) (m : Nat) : ∀ (x11 : Int) (A13 : OA) (x12 : List Int) (k14 : Nat) (x15 : Int) (a : Act) (w : World), Tm 39 [(1, .int .i64 x5), (2, .int .u64 x6), (7, .int .u64 x11), (8, .int .u64 x10), (9, .slice A13 x12.length k14), (10, .int .i64 x15)] a → SL ([sl m4 ku8 A2 k3 x1, sl .own ku64 A13 k14 x12] ++ F) w → L1 z x5 x6 x10 m x11 x12 x15 = some r → Gets Try.prog 80 ptL1 a w (R F x1 A2 k3 m4 r) := by
 induction m with
 | zero => intro _ _ _ _ _ _ _ _ _ H; cases H
 | succ m ih =>
  intro x11 A13 x12 k14 x15 a w T S H
  refine sq (sq (rg (v3 T rfl rfl rfl fun T => ?_)))
  rcases ifE H with ⟨h16, H⟩ | ⟨h16, H⟩
  ·refine cdT T rfl h16 (sk (sq (bq (sq (rg (v3 T rfl rfl rfl fun T => ?_))))))
   obtain ⟨h17, H⟩ := ck H
   refine r_rem T rfl rfl h17 rfl fun _ T => ?_
   replace S := SL.val (κ := ku64) (x := Int.tmod x11 x6) (cs := [.int .u64 (Int.tmod x11 x6)]) (fun _ => rfl) S
   refine r_bsl (κ := ku64) (xs := [Int.tmod x11 x6]) (vs := [.int .u64 (Int.tmod x11 x6)]) T S sty116 rfl ⟨_, _, rfl, ⟨0, rfl⟩, rfl⟩ rfl (by decide) rfl fun _ _ b18 S T => ?_
   replace S := S.only [0, 1, 1] rfl
   obtain ⟨h21, H⟩ := ck H
   refine r_app (ix := 2) (iy := 0) (xs := x12) (ys := [Int.tmod x11 x6]) T S rfl rfl rfl rfl (by decide) sty116 tu116 (by decide) h21 rfl fun _ _ A19 k20 S T => ?_
   refine v1 T rfl fun T => rg (v3 T rfl rfl rfl fun T => v1 T rfl fun T => Gets.inBlock (rg (v3 T rfl rfl rfl fun T => Gets.inLoop ?_)))
   exact ih (wr .u64 (x11 + x10)) A19 (x12 ++ [Int.tmod x11 x6]) k20 (wr .i64 (x15 + 1)) _ _ (T.sb rfl) (S.only [1, 1] rfl) H
  ·refine cdF T rfl h16 (Gets.exit rfl (sq (rg (v2 T rfl rfl fun T => ?_))))
   obtain rfl := sj H
   exact rtn T Try.func80 rfl rfl ⟨A13, k14, rfl, (S.only [1, 0] rfl)⟩
theorem J0_ok (F : List Atom) (r : (List Int)) (z : Nat) (x1 : List Int) (A2 : OA) (k3 : Nat) (m4 : Md) (x5 x6 x8 x10 : Int) (a : Act) (w : World) (T : Tm 39 [(1, .int .i64 x5), (2, .int .u64 x6), (7, .int .u64 x8), (8, .int .u64 x10)] a) (S : SL ([sl m4 ku8 A2 k3 x1] ++ F) w) (H : J0 z x5 x6 x8 x10 = some r) : Gets Try.prog 80 ptJ0 a w (R F x1 A2 k3 m4 r) := by
 refine rg (v1 T rfl fun T => sq (sq (rg (v1 T rfl fun T => bq (Gets.loop ?_)))))
 replace S := S.nil ku64 .own
 exact L1_ok F r z x1 A2 k3 m4 x5 x6 x10 z x8 none [] 0 0 _ _ (T.sb rfl) (S.only [1, 0] rfl) H
theorem ok (F : List Atom) (w : World) (z : Nat) (x1 : List Int) (x5 x6 : Int) {A2 : OA} {k3 : Nat} {m4 : Md} (S : SL ([sl m4 ku8 A2 k3 x1] ++ F) w) (r : (List Int)) (H : f z x1 x5 x6 = some r) : Calls Try.prog 80 #[.slice A2 x1.length k3, .int .i64 x5, .int .u64 x6] w (R F x1 A2 k3 m4 r) := by
 refine enter (vs := [.slice A2 x1.length k3, .int .i64 x5, .int .u64 x6]) Try.func80 rfl Try.ntmps80 (nle rfl) fun a T => ?_
 refine sq (rg (v1 T rfl fun T => sq (rg (v1 T rfl fun T => ?_))))
 obtain ⟨x8, h7, H⟩ := bd H
 refine rc T Try.call96 rfl rfl (r3_Hash.ok _ _ z x1 (S.sel (is := [0]) rfl) _ h7) ?_
 rintro _ _ ⟨rfl, S⟩
 refine ⟨_, rfl, fun _ T => ?_⟩
 replace S := S.join
 refine v1 T rfl fun T => sq (rg (v1 T rfl fun T => ?_))
 refine r_rem T rfl rfl (by decide) rfl fun _ T => ?_
 refine v2 T rfl rfl fun T => r_quo T rfl rfl (by decide) rfl fun _ T => ?_
 refine v2 T rfl rfl fun T => sq (sq ?_)
 refine rg (v1 T rfl fun T => r_rem T rfl rfl (by decide) rfl fun _ T => ?_)
 refine v1 T rfl fun T => ?_
 rcases ifE H with ⟨h9, H⟩ | ⟨h9, H⟩
 ·refine cdT T rfl h9 (rg (v3 T rfl rfl rfl fun T => sq ?_))
  exact J0_ok F r z x1 A2 k3 m4 x5 x6 x8 (wr .u64 ((wr .u64 ((wr .u64 ((Int.tmod x8 8589934592) * 2147483648)) + (wr .u64 (Int.tdiv x8 8589934592)))) + 1)) _ _ (T.sb rfl) (S.only [0] rfl) H
 ·refine cdF T rfl h9 (sk (sq ?_))
  exact J0_ok F r z x1 A2 k3 m4 x5 x6 x8 (wr .u64 ((wr .u64 ((Int.tmod x8 8589934592) * 2147483648)) + (wr .u64 (Int.tdiv x8 8589934592)))) _ _ (T.sb rfl) (S.only [0] rfl) H
end r3_bits
namespace r3_Make
noncomputable def c0 : Code := match Try.f46.body with | some c => c | none => .skip
def R (F : List Atom) (x1 : List (List Int)) (A2 : OA) (k3 : Nat) (m4 : Md) (r : (List Int) × Int) : Ending → World → Prop := fun e w' => ∃ (A32 : OA), ∃ (k33 : Nat), e = .returned (.tuple #[.slice A32 r.1.length k33, .int .i64 r.2]) ∧ SL ([sl .own ku8 A32 k33 r.1, sl m4 (kSl ku8) A2 k3 x1] ++ F) w'
def L2 (z : Nat) (q1 : (List Int) → Int → Option ((List Int) × Int)) (x1 : List (List Int)) (x5 x15 : Int) (x21 : (List Int)) : Nat → (List Int) → Int → Option ((List Int) × Int)
 | 0, _, _ => none
 | m + 1, x24, x27 => If (decide (x27 < (x21.length : Int))) (Ck (0 ≤ x27 ∧ x27 < (x21.length : Int)) (Ck (0 ≤ Int.tmod (gi (0 : Int) x21 x27) 8) (Ck (0 ≤ wr .i64 (1 + (wr .i64 (wr .u64 (Int.tdiv (gi (0 : Int) x21 x27) 8)))) ∧ wr .i64 (1 + (wr .i64 (wr .u64 (Int.tdiv (gi (0 : Int) x21 x27) 8)))) < (x24.length : Int)) (L2 z q1 x1 x5 x15 x21 m (x24.set (Int.toNat (wr .i64 (1 + (wr .i64 (wr .u64 (Int.tdiv (gi (0 : Int) x21 x27) 8)))))) (bOr .u8 (gi (0 : Int) x24 (wr .i64 (1 + (wr .i64 (wr .u64 (Int.tdiv (gi (0 : Int) x21 x27) 8)))))) (sShl .u8 1 (Int.tmod (gi (0 : Int) x21 x27) 8)))) (wr .i64 (x27 + 1)))))) (q1 x24 (wr .i64 (x15 + 1)))
def L1 (z : Nat) (x1 : List (List Int)) (x5 : Int) : Nat → (List Int) → Int → Option ((List Int) × Int)
 | 0, _, _ => none
 | m + 1, x12, x15 => If (decide (x15 < (x1.length : Int))) (Ck (0 ≤ x15 ∧ x15 < (x1.length : Int)) (Bd (r3_bits.f z (gi [] x1 x15) (mx 1 (wr .i64 (Int.tdiv (wr .i64 (x5 * 69)) 100))) (wr .u64 (wr .i64 (64 * (mx 1 (wr .i64 (Int.tdiv (wr .i64 ((wr .i64 ((x1.length : Int) * x5)) + 63)) 64))))))) fun x21 => L2 z (L1 z x1 x5 m) x1 x5 x15 x21 z x12 0)) (some (x12, 0))
def J0 (z : Nat) : Option ((List Int) × Int) := some (([] : List Int), 1)
def f (z : Nat) (x1 : List (List Int)) (x5 : Int) : Option ((List Int) × Int) := If (decide (x5 < 1)) (J0 z) (If (decide (x5 > 30)) (J0 z) (If (decide ((x1.length : Int) > 65536)) (J0 z) (Ck (0 ≤ wr .i64 (1 + (wr .i64 (8 * (mx 1 (wr .i64 (Int.tdiv (wr .i64 ((wr .i64 ((x1.length : Int) * x5)) + 63)) 64)))))) ∧ wr .i64 (1 + (wr .i64 (8 * (mx 1 (wr .i64 (Int.tdiv (wr .i64 ((wr .i64 ((x1.length : Int) * x5)) + 63)) 64)))))) ≤ wr .i64 (1 + (wr .i64 (8 * (mx 1 (wr .i64 (Int.tdiv (wr .i64 ((wr .i64 ((x1.length : Int) * x5)) + 63)) 64)))))) ∧ 1 * (wr .i64 (1 + (wr .i64 (8 * (mx 1 (wr .i64 (Int.tdiv (wr .i64 ((wr .i64 ((x1.length : Int) * x5)) + 63)) 64))))))) ≤ 281474976710656) (Ck (0 < ((List.replicate (Int.toNat (wr .i64 (1 + (wr .i64 (8 * (mx 1 (wr .i64 (Int.tdiv (wr .i64 ((wr .i64 ((x1.length : Int) * x5)) + 63)) 64)))))))) (0 : Int)).length : Int)) (L1 z x1 x5 z ((List.replicate (Int.toNat (wr .i64 (1 + (wr .i64 (8 * (mx 1 (wr .i64 (Int.tdiv (wr .i64 ((wr .i64 ((x1.length : Int) * x5)) + 63)) 64)))))))) (0 : Int)).set (Int.toNat 0) (wr .u8 (mx 1 (wr .i64 (Int.tdiv (wr .i64 (x5 * 69)) 100))))) 0)))))
noncomputable def ptL2 : List Item := [.code (cB (cB (cR (cR (cB (cL (cR (cB (cB (cR (cL (cr 6 c0)))))))))))), .inLoop (cB (cB (cR (cR (cB (cL (cR (cB (cB (cR (cL (cr 6 c0)))))))))))), .inBlock 2, .inBlock 1, .code (cR (cR (cB (cB (cR (cL (cr 6 c0))))))), .inLoop (cB (cB (cR (cL (cr 6 c0))))), .inBlock 0, .code (cr 7 c0)]
noncomputable def ptL1 : List Item := [.code (cB (cB (cR (cL (cr 6 c0))))), .inLoop (cB (cB (cR (cL (cr 6 c0))))), .inBlock 0, .code (cr 7 c0)]
noncomputable def ptJ0 : List Item := [.code (cL (cT (cR (cL (cR c0))))), .code (cR (cT (cR (cL (cR c0))))), .code (cR (cR c0))]
theorem L2_ok (F : List Atom) (r : (List Int) × Int) (z : Nat) (x1 : List (List Int)) (A2 : OA) (k3 : Nat) (m4 : Md) (x5 x15 : Int) (A22 : OA) (x21 : (List Int)) (k23 : Nat) (q1 : (List Int) → Int → Option ((List Int) × Int)) (hq1 : ∀ (A13 : OA) (x12 : List Int) (k14 : Nat) (x15 : Int) (a : Act) (w : World), Tm 88 [(0, .slice A2 x1.length k3), (6, .int .i64 (mx 1 (wr .i64 (Int.tdiv (wr .i64 ((wr .i64 ((x1.length : Int) * x5)) + 63)) 64)))), (7, .int .i64 (mx 1 (wr .i64 (Int.tdiv (wr .i64 (x5 * 69)) 100)))), (8, .slice A13 x12.length k14), (9, .int .i64 x15)] a → SL ([sl m4 (kSl ku8) A2 k3 x1, sl .own ku8 A13 k14 x12] ++ F) w → q1 x12 x15 = some r → Gets Try.prog 46 ptL1 a w (R F x1 A2 k3 m4 r)) (m : Nat) : ∀ (A25 : OA) (x24 : List Int) (k26 : Nat) (x27 : Int) (a : Act) (w : World), Tm 88 [(0, .slice A2 x1.length k3), (6, .int .i64 (mx 1 (wr .i64 (Int.tdiv (wr .i64 ((wr .i64 ((x1.length : Int) * x5)) + 63)) 64)))), (7, .int .i64 (mx 1 (wr .i64 (Int.tdiv (wr .i64 (x5 * 69)) 100)))), (8, .slice A25 x24.length k26), (9, .int .i64 x15), (10, .slice A22 x21.length k23), (11, .int .i64 x27)] a → SL ([sl m4 (kSl ku8) A2 k3 x1, sl .own ku8 A25 k26 x24, sl .own ku64 A22 k23 x21] ++ F) w → L2 z q1 x1 x5 x15 x21 m x24 x27 = some r → Gets Try.prog 46 ptL2 a w (R F x1 A2 k3 m4 r) := by
 induction m with
 | zero => intro _ _ _ _ _ _ _ _ H; cases H
 | succ m ih =>
  intro A25 x24 k26 x27 a w T S H
  refine sq (sq (rg (v2 T rfl rfl fun T => rn T rfl tu116 rfl fun _ T => v1 T rfl fun T => ?_)))
  rcases ifE H with ⟨h28, H⟩ | ⟨h28, H⟩
  ·refine cdT T rfl h28 (sk (sq (bq (sq (rg (v2 T rfl rfl fun T => ?_))))))
   obtain ⟨h29, H⟩ := ck H
   refine r_ia (ix := 2) T S rfl rfl rfl rfl tu116 ts34 h29.1 h29.2 rfl fun _ T => r_ldE (ix := 2) (i := x27) (off := 0) (f := (Value.int .u64)) T S rfl ti34 rfl (0 : Int) _ rfl rfl (Fld.all _) h29.1 h29.2 id rfl fun _ T => r_quo T rfl rfl (by decide) rfl fun _ T => ?_
   refine r_conv T rfl tu34 tu3 rfl fun _ T => v2 T rfl rfl fun T => sq (rg (v2 T rfl rfl fun T => r_ia (ix := 2) T S rfl rfl rfl rfl tu116 ts34 h29.1 h29.2 rfl fun _ T => ?_))
   refine r_ldE (ix := 2) (i := x27) (off := 0) (f := (Value.int .u64)) T S rfl ti34 rfl (0 : Int) _ rfl rfl (Fld.all _) h29.1 h29.2 id rfl fun _ T => r_rem T rfl rfl (by decide) rfl fun _ T => ?_
   obtain ⟨h30, H⟩ := ck H
   refine r_shl T rfl rfl h30 rfl fun _ T => v1 T rfl fun T => rg (v3 T rfl rfl rfl fun T => v1 T rfl fun T => ?_)
   obtain ⟨h31, H⟩ := ck H
   refine r_ia (ix := 1) T S rfl rfl rfl rfl tu24 ts5 h31.1 h31.2 rfl fun _ T => r_ldE (ix := 1) (i := wr .i64 (1 + (wr .i64 (wr .u64 (Int.tdiv (gi (0 : Int) x21 x27) 8))))) (off := 0) (f := (Value.int .u8)) T S rfl ti5 rfl (0 : Int) _ rfl rfl (Fld.all _) h31.1 h31.2 id rfl fun _ T => v2 T rfl rfl fun T => r_ia (ix := 1) T S rfl rfl rfl rfl tu24 ts5 h31.1 h31.2 rfl fun _ T => r_stE (ix := 1) (i := wr .i64 (1 + (wr .i64 (wr .u64 (Int.tdiv (gi (0 : Int) x21 x27) 8))))) (u := bOr .u8 (gi (0 : Int) x24 (wr .i64 (1 + (wr .i64 (wr .u64 (Int.tdiv (gi (0 : Int) x21 x27) 8)))))) (sShl .u8 1 (Int.tmod (gi (0 : Int) x21 x27) 8))) T S rfl rfl rfl rfl (fun _ => rfl) ts5 h31.1 h31.2 rfl fun _ S => Gets.inBlock (rg (v3 T rfl rfl rfl fun T => Gets.inLoop ?_))
   have T := T.re (s := 8) (v' := .slice A25 (x24.set (Int.toNat (wr .i64 (1 + (wr .i64 (wr .u64 (Int.tdiv (gi (0 : Int) x21 x27) 8)))))) (bOr .u8 (gi (0 : Int) x24 (wr .i64 (1 + (wr .i64 (wr .u64 (Int.tdiv (gi (0 : Int) x21 x27) 8)))))) (sShl .u8 1 (Int.tmod (gi (0 : Int) x21 x27) 8)))).length k26) rfl (by simp)
   exact ih A25 (x24.set (Int.toNat (wr .i64 (1 + (wr .i64 (wr .u64 (Int.tdiv (gi (0 : Int) x21 x27) 8)))))) (bOr .u8 (gi (0 : Int) x24 (wr .i64 (1 + (wr .i64 (wr .u64 (Int.tdiv (gi (0 : Int) x21 x27) 8)))))) (sShl .u8 1 (Int.tmod (gi (0 : Int) x21 x27) 8)))) k26 (wr .i64 (x27 + 1)) _ _ (T.sb rfl) (S.only [0, 0, 0] rfl) H
  ·refine cdF T rfl h28 (Gets.exit rfl (Gets.inBlock (rg (v3 T rfl rfl rfl fun T => Gets.inLoop ?_))))
   exact hq1 A25 x24 k26 (wr .i64 (x15 + 1)) _ _ (T.sb rfl) (S.only [0, 0] rfl) H
theorem L1_ok (F : List Atom) (r : (List Int) × Int) (z : Nat) (x1 : List (List Int)) (A2 : OA) (k3 : Nat) (m4 : Md) (x5 : Int) (m : Nat) : ∀ (A13 : OA) (x12 : List Int) (k14 : Nat) (x15 : Int) (a : Act) (w : World), Tm 88 [(0, .slice A2 x1.length k3), (6, .int .i64 (mx 1 (wr .i64 (Int.tdiv (wr .i64 ((wr .i64 ((x1.length : Int) * x5)) + 63)) 64)))), (7, .int .i64 (mx 1 (wr .i64 (Int.tdiv (wr .i64 (x5 * 69)) 100)))), (8, .slice A13 x12.length k14), (9, .int .i64 x15)] a → SL ([sl m4 (kSl ku8) A2 k3 x1, sl .own ku8 A13 k14 x12] ++ F) w → L1 z x1 x5 m x12 x15 = some r → Gets Try.prog 46 ptL1 a w (R F x1 A2 k3 m4 r) := by
 induction m with
 | zero => intro _ _ _ _ _ _ _ _ H; cases H
 | succ m ih =>
  intro A13 x12 k14 x15 a w T S H
  refine sq (sq (rg (v2 T rfl rfl fun T => rn T rfl tu62 rfl fun _ T => v1 T rfl fun T => ?_)))
  rcases ifE H with ⟨h16, H⟩ | ⟨h16, H⟩
  ·refine cdT T rfl h16 (sk (sq (bq (sq (rg (v2 T rfl rfl fun T => ?_))))))
   obtain ⟨h17, H⟩ := ck H
   refine r_ia (ix := 0) T S rfl rfl rfl rfl tu62 ts24 h17.1 h17.2 rfl fun _ T => r_ldR (ix := 0) (i := x15) (off := 0) T S rfl ti24 rfl [] _ rfl rfl (Fld.all _) h17.1 h17.2 rfl rfl fun _ _ S T => ?_
   obtain ⟨A18, k19, hv_, S_⟩ := S.ofVal
   subst hv_
   replace S := S_
   refine v3 T rfl rfl rfl fun T => r_conv T rfl tu3 tu34 rfl fun _ T => ?_
   obtain ⟨x21, h20, H⟩ := bd H
   refine rc T Try.call80 rfl rfl (r3_bits.ok _ _ z (gi [] x1 x15) (mx 1 (wr .i64 (Int.tdiv (wr .i64 (x5 * 69)) 100))) (wr .u64 (wr .i64 (64 * (mx 1 (wr .i64 (Int.tdiv (wr .i64 ((wr .i64 ((x1.length : Int) * x5)) + 63)) 64)))))) (S.sel (is := [0]) rfl) _ h20) ?_
   rintro _ _ ⟨A22, k23, rfl, S⟩
   refine ⟨_, rfl, fun _ T => ?_⟩
   replace S := S.join
   refine v1 T rfl fun T => sq (rg (v1 T rfl fun T => bq (Gets.loop ?_)))
   exact L2_ok F r z x1 A2 k3 m4 x5 x15 A22 x21 k23 (L1 z x1 x5 m) ih z A13 x12 k14 0 _ _ (T.sb rfl) (S.only [2, 2, 0] rfl) H
  ·refine cdF T rfl h16 (Gets.exit rfl (sq (rg (v3 T rfl rfl rfl fun T => ?_))))
   obtain rfl := sj H
   exact rtn T Try.func46 rfl rfl ⟨A13, k14, rfl, (S.only [1, 0] rfl)⟩
theorem J0_ok (F : List Atom) (r : (List Int) × Int) (z : Nat) (x1 : List (List Int)) (A2 : OA) (k3 : Nat) (m4 : Md) (x5 : Int) (a : Act) (w : World) (T : Tm 88 [] a) (S : SL ([sl m4 (kSl ku8) A2 k3 x1] ++ F) w) (H : J0 z = some r) : Gets Try.prog 46 ptJ0 a w (R F x1 A2 k3 m4 r) := by
 refine rg (v2 T rfl rfl fun T => ?_)
 replace S := S.nil ku8 .own
 obtain rfl := sj H
 exact rtn T Try.func46 rfl rfl ⟨none, 0, rfl, (S.only [0, 0] rfl)⟩
theorem ok (F : List Atom) (w : World) (z : Nat) (x1 : List (List Int)) (x5 : Int) {A2 : OA} {k3 : Nat} {m4 : Md} (S : SL ([sl m4 (kSl ku8) A2 k3 x1] ++ F) w) (r : (List Int) × Int) (H : f z x1 x5 = some r) : Calls Try.prog 46 #[.slice A2 x1.length k3, .int .i64 x5] w (R F x1 A2 k3 m4 r) := by
 refine enter (vs := [.slice A2 x1.length k3, .int .i64 x5]) Try.func46 rfl Try.ntmps46 (nle rfl) fun a T => ?_
 refine sq (rg (v2 T rfl rfl fun T => sq (sq (rg (v3 T rfl rfl rfl fun T => ?_)))))
 rcases ifE H with ⟨h6, H⟩ | ⟨h6, H⟩
 ·refine gn T rfl h6 fun T => gn T rfl h6 fun T => pT T rfl h6 rfl rfl fun _ T => v1 T rfl fun T => gn T rfl rfl fun T => gn T rfl rfl fun T => gn T rfl rfl fun T => pT T rfl rfl rfl rfl fun _ T => cdT T rfl rfl (sq ?_)
  exact J0_ok F r z x1 A2 k3 m4 x5 _ _ (T.sub trivial) (S.only [0] rfl) H
 ·refine gy T rfl h6 (v1 T rfl fun T => gy T rfl h6 (v1 T rfl fun T => pF T rfl h6 rfl rfl fun _ T => v1 T rfl fun T => ?_))
  rcases ifE H with ⟨h7, H⟩ | ⟨h7, H⟩
  ·refine gn T rfl h7 fun T => gn T rfl h7 fun T => gn T rfl h7 fun T => pT T rfl h7 rfl rfl fun _ T => cdT T rfl rfl (sq ?_)
   exact J0_ok F r z x1 A2 k3 m4 x5 _ _ (T.sub trivial) (S.only [0] rfl) H
  ·refine gy T rfl h7 (v1 T rfl fun T => gy T rfl h7 (rn T rfl tu62 rfl fun _ T => gy T rfl h7 (v1 T rfl fun T => pF T rfl h7 rfl rfl fun _ T => ?_)))
   rcases ifE H with ⟨h8, H⟩ | ⟨h8, H⟩
   ·refine cdT T rfl h8 (sq ?_)
    exact J0_ok F r z x1 A2 k3 m4 x5 _ _ (T.sub trivial) (S.only [0] rfl) H
   ·refine cdF T rfl h8 (sk (sq (rg (v1 T rfl fun T => rn T rfl tu62 rfl fun _ T => v1 T rfl fun T => ?_))))
    refine v2 T rfl rfl fun T => r_quo T rfl rfl (by decide) rfl fun _ T => ?_
    refine r_max T rfl rfl rfl fun _ T => v1 T rfl fun T => sq (rg ?_)
    refine v2 T rfl rfl fun T => r_quo T rfl rfl (by decide) rfl fun _ T => ?_
    refine r_max T rfl rfl rfl fun _ T => v1 T rfl fun T => sq (rg (v3 T rfl rfl rfl fun T => ?_))
    obtain ⟨h9, H⟩ := ck H
    refine r_make (κ := ku8) T S rfl rfl sty24 (0 : Int) (fun _ => rfl) h9.1 (Int.le_refl _) (by decide) (by have := h9.2.2; omega) rfl fun _ _ b10 S T => ?_
    replace T := T.re (s := 39) (v' := .slice (some ⟨b10, 0, none⟩) (List.replicate (Int.toNat (wr .i64 (1 + (wr .i64 (8 * (mx 1 (wr .i64 (Int.tdiv (wr .i64 ((wr .i64 ((x1.length : Int) * x5)) + 63)) 64)))))))) (0 : Int)).length (Int.toNat (wr .i64 (1 + (wr .i64 (8 * (mx 1 (wr .i64 (Int.tdiv (wr .i64 ((wr .i64 ((x1.length : Int) * x5)) + 63)) 64))))))))) rfl (by simp)
    refine v1 T rfl fun T => sq (rg (v2 T rfl rfl fun T => r_conv T rfl tu3 tu5 rfl fun _ T => ?_))
    obtain ⟨h11, H⟩ := ck H
    refine r_ia (ix := 0) T S rfl rfl rfl rfl tu24 ts5 (by decide) h11 rfl fun _ T => ?_
    refine r_stE (ix := 0) (i := 0) (u := wr .u8 (mx 1 (wr .i64 (Int.tdiv (wr .i64 (x5 * 69)) 100)))) T S rfl rfl rfl rfl (fun _ => rfl) ts5 (by decide) h11 rfl fun _ S => ?_
    refine sq (sq (rg (v1 T rfl fun T => bq (Gets.loop ?_))))
    have T := T.re (s := 8) (v' := .slice (some ⟨b10, 0, none⟩) ((List.replicate (Int.toNat (wr .i64 (1 + (wr .i64 (8 * (mx 1 (wr .i64 (Int.tdiv (wr .i64 ((wr .i64 ((x1.length : Int) * x5)) + 63)) 64)))))))) (0 : Int)).set (Int.toNat 0) (wr .u8 (mx 1 (wr .i64 (Int.tdiv (wr .i64 (x5 * 69)) 100))))).length (Int.toNat (wr .i64 (1 + (wr .i64 (8 * (mx 1 (wr .i64 (Int.tdiv (wr .i64 ((wr .i64 ((x1.length : Int) * x5)) + 63)) 64))))))))) rfl (by simp)
    exact L1_ok F r z x1 A2 k3 m4 x5 z (some ⟨b10, 0, none⟩) ((List.replicate (Int.toNat (wr .i64 (1 + (wr .i64 (8 * (mx 1 (wr .i64 (Int.tdiv (wr .i64 ((wr .i64 ((x1.length : Int) * x5)) + 63)) 64)))))))) (0 : Int)).set (Int.toNat 0) (wr .u8 (mx 1 (wr .i64 (Int.tdiv (wr .i64 (x5 * 69)) 100))))) (Int.toNat (wr .i64 (1 + (wr .i64 (8 * (mx 1 (wr .i64 (Int.tdiv (wr .i64 ((wr .i64 ((x1.length : Int) * x5)) + 63)) 64)))))))) 0 _ _ (T.sb rfl) (S.only [1, 0] rfl) H
end r3_Make
namespace r4_keys
noncomputable def c0 : Code := match Try.f47.body with | some c => c | none => .skip
def R (F : List Atom) (x1 : List aE) (A2 : OA) (k3 : Nat) (r : (List (List Int))) : Ending → World → Prop := fun e w' => ∃ (A21 : OA), ∃ (k22 : Nat), e = .returned (.slice A21 r.length k22) ∧ SL ([sl .own (kSl ku8) A21 k22 r, sl .ro kaE A2 k3 x1] ++ F) w'
def J2 (z : Nat) (q0 : (List (List Int)) → Int → Option (List (List Int))) (x1 : List aE) (x7 : Int) (x18 : List (List Int)) : Option (List (List Int)) := q0 x18 (wr .i64 (x7 + 1))
def J1 (z : Nat) (q0 : (List (List Int)) → Int → Option (List (List Int))) (x1 : List aE) (x4 : List (List Int)) (x7 : Int) : Option (List (List Int)) := Ck (0 ≤ x7 ∧ x7 < (x1.length : Int)) (Ck ((x4.length + [((gi daE x1 x7).Key)].length) * 24 ≤ 140737488355328) (J2 z q0 x1 x7 (x4 ++ [((gi daE x1 x7).Key)])))
def L0 (z : Nat) (x1 : List aE) : Nat → (List (List Int)) → Int → Option (List (List Int))
 | 0, _, _ => none
 | m + 1, x4, x7 => If (decide (x7 < (x1.length : Int))) (If (x7 == 0) (J1 z (L0 z x1 m) x1 x4 x7) (Ck (0 ≤ wr .i64 (x7 - 1) ∧ wr .i64 (x7 - 1) < (x1.length : Int)) (Ck (0 ≤ x7 ∧ x7 < (x1.length : Int)) (If (!((bstr ((gi daE x1 (wr .i64 (x7 - 1))).Key)).toList == (bstr ((gi daE x1 x7).Key)).toList)) (J1 z (L0 z x1 m) x1 x4 x7) (J2 z (L0 z x1 m) x1 x7 x4))))) (some x4)
def f (z : Nat) (x1 : List aE) : Option (List (List Int)) := L0 z x1 z [] 0
noncomputable def ptJ2 : List Item := [.code (cR (cR (cB (cB (cR (cL (cR (cR c0)))))))), .inLoop (cB (cB (cR (cL (cR (cR c0)))))), .inBlock 0, .code (cr 3 c0)]
noncomputable def ptJ1 : List Item := [.code (cT (cR (cB (cL (cR (cB (cB (cR (cL (cR (cR c0))))))))))), .inBlock 1, .code (cR (cR (cB (cB (cR (cL (cR (cR c0)))))))), .inLoop (cB (cB (cR (cL (cR (cR c0)))))), .inBlock 0, .code (cr 3 c0)]
noncomputable def ptL0 : List Item := [.code (cB (cB (cR (cL (cR (cR c0)))))), .inLoop (cB (cB (cR (cL (cR (cR c0)))))), .inBlock 0, .code (cr 3 c0)]
theorem J2_ok (F : List Atom) (r : (List (List Int))) (z : Nat) (x1 : List aE) (A2 : OA) (k3 : Nat) (x7 : Int) (q0 : (List (List Int)) → Int → Option (List (List Int))) (hq0 : ∀ (A5 : OA) (x4 : List (List Int)) (k6 : Nat) (x7 : Int) (a : Act) (w : World), Tm 38 [(0, .slice A2 x1.length k3), (3, .slice A5 x4.length k6), (4, .int .i64 x7)] a → SL ([sl .ro kaE A2 k3 x1, sl .own (kSl ku8) A5 k6 x4] ++ F) w → q0 x4 x7 = some r → Gets Try.prog 47 ptL0 a w (R F x1 A2 k3 r)) (A19 : OA) (x18 : List (List Int)) (k20 : Nat) (a : Act) (w : World) (T : Tm 38 [(0, .slice A2 x1.length k3), (3, .slice A19 x18.length k20), (4, .int .i64 x7)] a) (S : SL ([sl .ro kaE A2 k3 x1, sl .own (kSl ku8) A19 k20 x18] ++ F) w) (H : J2 z q0 x1 x7 x18 = some r) : Gets Try.prog 47 ptJ2 a w (R F x1 A2 k3 r) := by
 refine rg (v3 T rfl rfl rfl fun T => Gets.inLoop ?_)
 exact hq0 A19 x18 k20 (wr .i64 (x7 + 1)) _ _ (T.sb rfl) (S.only [0, 0] rfl) H
theorem J1_ok (F : List Atom) (r : (List (List Int))) (z : Nat) (x1 : List aE) (A2 : OA) (k3 : Nat) (A5 : OA) (x4 : List (List Int)) (k6 : Nat) (x7 : Int) (q0 : (List (List Int)) → Int → Option (List (List Int))) (hq0 : ∀ (A5 : OA) (x4 : List (List Int)) (k6 : Nat) (x7 : Int) (a : Act) (w : World), Tm 38 [(0, .slice A2 x1.length k3), (3, .slice A5 x4.length k6), (4, .int .i64 x7)] a → SL ([sl .ro kaE A2 k3 x1, sl .own (kSl ku8) A5 k6 x4] ++ F) w → q0 x4 x7 = some r → Gets Try.prog 47 ptL0 a w (R F x1 A2 k3 r)) (a : Act) (w : World) (T : Tm 38 [(0, .slice A2 x1.length k3), (3, .slice A5 x4.length k6), (4, .int .i64 x7)] a) (S : SL ([sl .ro kaE A2 k3 x1, sl .own (kSl ku8) A5 k6 x4] ++ F) w) (H : J1 z q0 x1 x4 x7 = some r) : Gets Try.prog 47 ptJ1 a w (R F x1 A2 k3 r) := by
 refine rg (v3 T rfl rfl rfl fun T => ?_)
 obtain ⟨h11, H⟩ := ck H
 refine r_ia (ix := 0) T S rfl rfl rfl rfl tu22 ts36 h11.1 h11.2 rfl fun _ T => r_faE T rfl tu36 rfl ts24 rfl fun _ T => r_ldR (ix := 0) (i := x7) (off := 0) T S rfl ti24 rfl daE _ rfl rfl fld_aE_Key h11.1 h11.2 rfl rfl fun _ _ S T => ?_
 obtain ⟨A12, k13, hv_, S_⟩ := S.ofVal
 subst hv_
 replace S := S_
 replace S := S.asVal (i := 0) (xs := ((gi daE x1 x7).Key)) rfl
 refine r_bsl (κ := (kSl ku8)) (xs := [((gi daE x1 x7).Key)]) (vs := [.slice A12 (((gi daE x1 x7).Key).length) k13]) T S sty62 rfl ⟨_, _, rfl, ⟨0, rfl⟩, rfl⟩ rfl (by decide) rfl fun _ _ b14 S T => ?_
 replace S := S.only [0, 1, 1, 1] rfl
 obtain ⟨h17, H⟩ := ck H
 refine r_app (ix := 3) (iy := 0) (xs := x4) (ys := [((gi daE x1 x7).Key)]) T S rfl rfl rfl rfl (by decide) sty62 tu62 (by decide) h17 rfl fun _ _ A15 k16 S T => ?_
 refine v1 T rfl fun T => Gets.inBlock ?_
 exact J2_ok F r z x1 A2 k3 x7 q0 hq0 A15 (x4 ++ [((gi daE x1 x7).Key)]) k16 _ _ (T.sb rfl) (S.only [2, 2] rfl) H
theorem L0_ok (F : List Atom) (r : (List (List Int))) (z : Nat) (x1 : List aE) (A2 : OA) (k3 m : Nat) : ∀ (A5 : OA) (x4 : List (List Int)) (k6 : Nat) (x7 : Int) (a : Act) (w : World), Tm 38 [(0, .slice A2 x1.length k3), (3, .slice A5 x4.length k6), (4, .int .i64 x7)] a → SL ([sl .ro kaE A2 k3 x1, sl .own (kSl ku8) A5 k6 x4] ++ F) w → L0 z x1 m x4 x7 = some r → Gets Try.prog 47 ptL0 a w (R F x1 A2 k3 r) := by
 induction m with
 | zero => intro _ _ _ _ _ _ _ _ H; cases H
 | succ m ih =>
  intro A5 x4 k6 x7 a w T S H
  refine sq (sq (rg (v2 T rfl rfl fun T => rn T rfl tu22 rfl fun _ T => v1 T rfl fun T => ?_)))
  rcases ifE H with ⟨h8, H⟩ | ⟨h8, H⟩
  ·refine cdT T rfl h8 (sk (sq (bq (sq ?_))))
   rcases ifE H with ⟨h9, H⟩ | ⟨h9, H⟩
   ·refine Gets.drawn (l := [sl .ro kaE A2 k3 x1, sl .own (kSl ku8) A5 k6 x4]) (V := [some (.int .i64 x7, true), some (.bool (x7 == 0), true), some (.bool (x7 == 0), true), some (undef, true), some (undef, true), some (undef, true), some (undef, true), some (undef, true), some (undef, true), some (undef, true), some (undef, true), some (undef, true), some (undef, true), some (undef, true), some (undef, true), some (undef, true), some (undef, true), some (.bool true, true)]) mixed T S rfl ?_
    refine stage none rfl rfl ⟨⟨_, _, rfl, (avl [4] rfl), fun _ _ _ T S => v1 T rfl fun T => ⟨rfl, T⟩⟩, ⟨_, _, rfl, (avl [11] rfl), fun _ _ _ T S => v1 T rfl fun T => ⟨rfl, T⟩⟩, ⟨_, _, rfl, (avl [12] rfl), fun _ _ _ T S => v1 T rfl fun T => ⟨rfl, T⟩⟩, ⟨_, _, rfl, (avl [0, 13] rfl), fun _ _ _ T S => gn T rfl h9 fun T => ⟨rfl, T⟩⟩, ⟨_, _, rfl, (avl [4, 13] rfl), fun _ _ _ T S => gn T rfl h9 fun T => ⟨rfl, T⟩⟩, ⟨_, _, rfl, (avl [15, 13] rfl), fun _ _ _ T S => gn T rfl h9 fun T => ⟨rfl, T⟩⟩, ⟨_, _, rfl, (avl [14, 16, 13] rfl), fun _ _ _ T S => gn T rfl h9 fun T => ⟨rfl, T⟩⟩, ⟨_, _, rfl, (avl [17, 13] rfl), fun _ _ _ T S => gn T rfl h9 fun T => ⟨rfl, T⟩⟩, ⟨_, _, rfl, (avl [18, 13] rfl), fun _ _ _ T S => gn T rfl h9 fun T => ⟨rfl, T⟩⟩, ⟨_, _, rfl, (avl [19, 13] rfl), fun _ _ _ T S => gn T rfl h9 fun T => ⟨rfl, T⟩⟩, ⟨_, _, rfl, (avl [0, 13] rfl), fun _ _ _ T S => gn T rfl h9 fun T => ⟨rfl, T⟩⟩, ⟨_, _, rfl, (avl [4, 13] rfl), fun _ _ _ T S => gn T rfl h9 fun T => ⟨rfl, T⟩⟩, ⟨_, _, rfl, (avl [21, 22, 13] rfl), fun _ _ _ T S => gn T rfl h9 fun T => ⟨rfl, T⟩⟩, ⟨_, _, rfl, (avl [23, 13] rfl), fun _ _ _ T S => gn T rfl h9 fun T => ⟨rfl, T⟩⟩, ⟨_, _, rfl, (avl [24, 13] rfl), fun _ _ _ T S => gn T rfl h9 fun T => ⟨rfl, T⟩⟩, ⟨_, _, rfl, (avl [25, 13] rfl), fun _ _ _ T S => gn T rfl h9 fun T => ⟨rfl, T⟩⟩, ⟨_, _, rfl, (avl [20, 26, 13] rfl), fun _ _ _ T S => gn T rfl h9 fun T => ⟨rfl, T⟩⟩, ⟨_, _, rfl, (avl [13, 27] rfl), fun _ _ _ T S => pT T rfl h9 rfl rfl fun _ T => ⟨rfl, T⟩⟩, trivial⟩ rfl (fun i hi => by cases hi) (fun _ _ a w T hv hb S => ?_)
    replace T := T.sub (r := [(0, .slice A2 x1.length k3), (3, .slice A5 x4.length k6), (4, .int .i64 x7), (28, .bool true)]) ⟨hb 0 _ rfl rfl, hb 3 _ rfl rfl, hb 4 _ rfl rfl, hv 17 _ 28 rfl rfl rfl, trivial⟩
    refine cdT T rfl rfl ?_
    exact J1_ok F r z x1 A2 k3 A5 x4 k6 x7 (L0 z x1 m) ih _ _ (T.sb rfl) (S.only [0, 0] rfl) H
   ·obtain ⟨h2361, H⟩ := ck H
    obtain ⟨_, S⟩ := S.peek1 (ix := 0) (off := 0) (i := wr .i64 (x7 - 1)) rfl daE fld_aE_Key h2361.1 h2361.2 rfl
    obtain ⟨A2481, k2482, hv_, S_⟩ := SL.ofVal (l := _ :: _) S
    subst hv_
    replace S := S_
    obtain ⟨h2721, H⟩ := ck H
    obtain ⟨_, S⟩ := S.peek1 (ix := 2) (off := 0) (i := x7) rfl daE fld_aE_Key h2721.1 h2721.2 rfl
    obtain ⟨A2841, k2842, hv_, S_⟩ := SL.ofVal (l := _ :: _) S
    subst hv_
    replace S := S_
    refine Gets.drawn (l := [sl .ro ku8 A2841 k2842 ((gi daE x1 x7).Key), cl A2 (Int.toNat x7 * 4 + 0) [.slice A2841 (((gi daE x1 x7).Key).length) k2842], sl .ro ku8 A2481 k2482 ((gi daE x1 (wr .i64 (x7 - 1))).Key), cl A2 (Int.toNat (wr .i64 (x7 - 1)) * 4 + 0) [.slice A2481 (((gi daE x1 (wr .i64 (x7 - 1))).Key).length) k2482], sl .ro kaE A2 k3 x1, sl .own (kSl ku8) A5 k6 x4]) (V := [some (.int .i64 x7, true), some (.bool (x7 == 0), true), some (.bool (x7 == 0), true), some (.slice A2 x1.length k3, true), some (.int .i64 x7, true), some (.int .i64 (wr .i64 (x7 - 1)), true), some (.pointer (some (eA A2 (Int.toNat (wr .i64 (x7 - 1)) * 4))), true), some (.pointer (some (eA A2 (Int.toNat (wr .i64 (x7 - 1)) * 4 + 0))), true), some (.slice A2481 (((gi daE x1 (wr .i64 (x7 - 1))).Key).length) k2482, true), some (.string (bstr ((gi daE x1 (wr .i64 (x7 - 1))).Key)), true), some (.slice A2 x1.length k3, true), some (.int .i64 x7, true), some (.pointer (some (eA A2 (Int.toNat x7 * 4))), true), some (.pointer (some (eA A2 (Int.toNat x7 * 4 + 0))), true), some (.slice A2841 (((gi daE x1 x7).Key).length) k2842, true), some (.string (bstr ((gi daE x1 x7).Key)), true), some (.bool (!((bstr ((gi daE x1 (wr .i64 (x7 - 1))).Key)).toList == (bstr ((gi daE x1 x7).Key)).toList)), true), some (.bool (!((bstr ((gi daE x1 (wr .i64 (x7 - 1))).Key)).toList == (bstr ((gi daE x1 x7).Key)).toList)), true)]) mixed T S rfl ?_
    refine stage none rfl rfl ⟨⟨_, _, rfl, (avl [4] rfl), fun _ _ _ T S => v1 T rfl fun T => ⟨rfl, T⟩⟩, ⟨_, _, rfl, (avl [11] rfl), fun _ _ _ T S => v1 T rfl fun T => ⟨rfl, T⟩⟩, ⟨_, _, rfl, (avl [12] rfl), fun _ _ _ T S => v1 T rfl fun T => ⟨rfl, T⟩⟩, ⟨_, _, rfl, (avl [0, 13] rfl), fun _ _ _ T S => gy T rfl h9 (v1 T rfl fun T => ⟨rfl, T⟩)⟩, ⟨_, _, rfl, (avl [4, 13] rfl), fun _ _ _ T S => gy T rfl h9 (v1 T rfl fun T => ⟨rfl, T⟩)⟩, ⟨_, _, rfl, (avl [15, 13] rfl), fun _ _ _ T S => gy T rfl h9 (v1 T rfl fun T => ⟨rfl, T⟩)⟩, ⟨_, _, rfl, (avl [14, 16, 13] rfl), fun _ _ _ T S => gy T rfl h9 (r_ia (ix := 4) T S rfl rfl rfl rfl tu22 ts36 h2361.1 h2361.2 rfl fun _ T => ⟨rfl, T⟩)⟩, ⟨_, _, rfl, (avl [17, 13] rfl), fun _ _ _ T S => gy T rfl h9 (r_faE T rfl tu36 rfl ts24 rfl fun _ T => ⟨rfl, T⟩)⟩, ⟨_, _, rfl, (avl [18, 13] rfl), fun _ _ _ T S => gy T rfl h9 (r_ldC (ix := 3) (A := A2) T S rfl rfl rfl ti24 rfl fun _ T => ⟨rfl, T⟩)⟩, ⟨_, _, rfl, (avl [19, 13] rfl), fun _ _ _ T S => gy T rfl h9 (r_b2s (ix := 2) (xs := ((gi daE x1 (wr .i64 (x7 - 1))).Key)) T S rfl rfl tu24 tu9 tu5 rfl fun _ T => ⟨rfl, T⟩)⟩, ⟨_, _, rfl, (avl [0, 13] rfl), fun _ _ _ T S => gy T rfl h9 (v1 T rfl fun T => ⟨rfl, T⟩)⟩, ⟨_, _, rfl, (avl [4, 13] rfl), fun _ _ _ T S => gy T rfl h9 (v1 T rfl fun T => ⟨rfl, T⟩)⟩, ⟨_, _, rfl, (avl [21, 22, 13] rfl), fun _ _ _ T S => gy T rfl h9 (r_ia (ix := 4) T S rfl rfl rfl rfl tu22 ts36 h2721.1 h2721.2 rfl fun _ T => ⟨rfl, T⟩)⟩, ⟨_, _, rfl, (avl [23, 13] rfl), fun _ _ _ T S => gy T rfl h9 (r_faE T rfl tu36 rfl ts24 rfl fun _ T => ⟨rfl, T⟩)⟩, ⟨_, _, rfl, (avl [24, 13] rfl), fun _ _ _ T S => gy T rfl h9 (r_ldC (ix := 1) (A := A2) T S rfl rfl rfl ti24 rfl fun _ T => ⟨rfl, T⟩)⟩, ⟨_, _, rfl, (avl [25, 13] rfl), fun _ _ _ T S => gy T rfl h9 (r_b2s (ix := 0) (xs := ((gi daE x1 x7).Key)) T S rfl rfl tu24 tu9 tu5 rfl fun _ T => ⟨rfl, T⟩)⟩, ⟨_, _, rfl, (avl [20, 26, 13] rfl), fun _ _ _ T S => gy T rfl h9 (v1 T rfl fun T => ⟨rfl, T⟩)⟩, ⟨_, _, rfl, (avl [13, 27] rfl), fun _ _ _ T S => pF T rfl h9 rfl rfl fun _ T => ⟨rfl, T⟩⟩, trivial⟩ rfl (fun i hi => by cases hi) (fun _ _ a w T hv hb S => ?_)
    replace T := T.sub (r := [(0, .slice A2 x1.length k3), (3, .slice A5 x4.length k6), (4, .int .i64 x7), (28, .bool (!((bstr ((gi daE x1 (wr .i64 (x7 - 1))).Key)).toList == (bstr ((gi daE x1 x7).Key)).toList)))]) ⟨hb 0 _ rfl rfl, hb 3 _ rfl rfl, hb 4 _ rfl rfl, hv 17 _ 28 rfl rfl rfl, trivial⟩
    rcases ifE H with ⟨h10, H⟩ | ⟨h10, H⟩
    ·refine cdT T rfl h10 ?_
     exact J1_ok F r z x1 A2 k3 A5 x4 k6 x7 (L0 z x1 m) ih _ _ (T.sb rfl) (S.only [4, 4] rfl) H
    ·refine cdF T rfl h10 (sk (Gets.inBlock ?_))
     exact J2_ok F r z x1 A2 k3 x7 (L0 z x1 m) ih A5 x4 k6 _ _ (T.sb rfl) (S.only [4, 4] rfl) H
  ·refine cdF T rfl h8 (Gets.exit rfl (sq (rg (v2 T rfl rfl fun T => ?_))))
   obtain rfl := sj H
   exact rtn T Try.func47 rfl rfl ⟨A5, k6, rfl, (S.only [1, 0] rfl)⟩
theorem ok (F : List Atom) (w : World) (z : Nat) (x1 : List aE) {A2 : OA} {k3 : Nat} (S : SL ([sl .ro kaE A2 k3 x1] ++ F) w) (r : (List (List Int))) (H : f z x1 = some r) : Calls Try.prog 47 #[.slice A2 x1.length k3] w (R F x1 A2 k3 r) := by
 refine enter (vs := [.slice A2 x1.length k3]) Try.func47 rfl Try.ntmps47 (nle rfl) fun a T => ?_
 refine sq (rg (v1 T rfl fun T => sq (rg (v1 T rfl fun T => sq (sq (rg (v1 T rfl fun T => bq (Gets.loop ?_))))))))
 replace S := S.nil (kSl ku8) .own
 exact L0_ok F r z x1 A2 k3 z none [] 0 0 _ _ (T.sb rfl) (S.only [1, 0] rfl) H
end r4_keys
namespace r4_common
noncomputable def c0 : Code := match Try.f89.body with | some c => c | none => .skip
def R (F : List Atom) (x1 : List Int) (A2 : OA) (k3 : Nat) (m4 : Md) (x5 : List Int) (A6 : OA) (k7 : Nat) (m8 : Md) (r : Int) : Ending → World → Prop := fun e w' => e = .returned (.int .i64 r) ∧ SL ([sl m4 ku8 A2 k3 x1, sl m8 ku8 A6 k7 x5] ++ F) w'
def J1 (z : Nat) (x9 : Int) : Option Int := some x9
def L0 (z : Nat) (x1 x5 : List Int) : Nat → Int → Option Int
 | 0, _ => none
 | m + 1, x9 => If (decide (x9 < (x1.length : Int))) (If (decide (x9 < (x5.length : Int))) (Ck (0 ≤ x9 ∧ x9 < (x1.length : Int)) (Ck (x9 < (x5.length : Int)) (If ((gi (0 : Int) x1 x9) == (gi (0 : Int) x5 x9)) (L0 z x1 x5 m (wr .i64 (x9 + 1))) (J1 z x9)))) (J1 z x9)) (J1 z x9)
def f (z : Nat) (x1 x5 : List Int) : Option Int := L0 z x1 x5 z 0
noncomputable def ptJ1 : List Item := [.code (cL (cr 3 c0)), .code (cr 4 c0)]
noncomputable def ptL0 : List Item := [.code (cB (cB (cL (cR (cR c0))))), .inLoop (cB (cB (cL (cR (cR c0))))), .inBlock 0, .code (cr 3 c0)]
abbrev y0 (x9 : Int) (x1 : List Int) : Option (Value × Bool) := some (.bool (decide (x9 < (x1.length : Int))), true)
abbrev y1 (x9 : Int) (x5 : List Int) : Option (Value × Bool) := some (.bool (decide (x9 < (x5.length : Int))), true)
theorem J1_ok (F : List Atom) (r : Int) (z : Nat) (x1 : List Int) (A2 : OA) (k3 : Nat) (m4 : Md) (x5 : List Int) (A6 : OA) (k7 : Nat) (m8 : Md) (x9 : Int) (a : Act) (w : World) (T : Tm 30 [(5, .int .i64 x9)] a) (S : SL ([sl m4 ku8 A2 k3 x1, sl m8 ku8 A6 k7 x5] ++ F) w) (H : J1 z x9 = some r) : Gets Try.prog 89 ptJ1 a w (R F x1 A2 k3 m4 x5 A6 k7 m8 r) := by
 refine rg (v2 T rfl rfl fun T => ?_)
 obtain rfl := sj H
 exact rtn T Try.func89 rfl rfl ⟨rfl, (S.only [0, 0] rfl)⟩
theorem L0_ok (F : List Atom) (r : Int) (z : Nat) (x1 : List Int) (A2 : OA) (k3 : Nat) (m4 : Md) (x5 : List Int) (A6 : OA) (k7 : Nat) (m8 : Md) (m : Nat) : ∀ (x9 : Int) (a : Act) (w : World), Tm 30 [(0, .slice A2 x1.length k3), (1, .slice A6 x5.length k7), (5, .int .i64 x9)] a → SL ([sl m4 ku8 A2 k3 x1, sl m8 ku8 A6 k7 x5] ++ F) w → L0 z x1 x5 m x9 = some r → Gets Try.prog 89 ptL0 a w (R F x1 A2 k3 m4 x5 A6 k7 m8 r) := by
 induction m with
 | zero => intro _ _ _ _ _ H; cases H
 | succ m ih =>
  intro x9 a w T S H
  refine sq (sq ?_)
  rcases ifE H with ⟨h10, H⟩ | ⟨h10, H⟩
  ·rcases ifE H with ⟨h11, H⟩ | ⟨h11, H⟩
   ·obtain ⟨h2781, H⟩ := ck H
    obtain ⟨h3021, H⟩ := ck H
    refine Gets.drawn (l := [sl m4 ku8 A2 k3 x1, sl m8 ku8 A6 k7 x5]) (V := [some (.int .i64 x9, true), some (.slice A2 x1.length k3, true), some (.int .i64 (x1.length : Int), true), (y0 x9 x1), (y0 x9 x1), some (.int .i64 x9, true), some (.slice A6 x5.length k7, true), some (.int .i64 (x5.length : Int), true), (y1 x9 x5), (y1 x9 x5), (y1 x9 x5), some (.slice A2 x1.length k3, true), some (.int .i64 x9, true), some (.pointer (some (eA A2 (Int.toNat x9 * 1))), true), some (.int .u8 (gi (0 : Int) x1 x9), true), some (.slice A6 x5.length k7, true), some (.int .i64 x9, true), some (.pointer (some (eA A6 (Int.toNat x9 * 1))), true), some (.int .u8 (gi (0 : Int) x5 x9), true), some (.bool ((gi (0 : Int) x1 x9) == (gi (0 : Int) x5 x9)), true), some (.bool ((gi (0 : Int) x1 x9) == (gi (0 : Int) x5 x9)), true)]) mixed T S rfl ?_
    refine stage none rfl rfl ⟨⟨_, _, rfl, (avl [5] rfl), fun _ _ _ T S => v1 T rfl fun T => ⟨rfl, T⟩⟩, ⟨_, _, rfl, (avl [0] rfl), fun _ _ _ T S => v1 T rfl fun T => ⟨rfl, T⟩⟩, ⟨_, _, rfl, (avl [7] rfl), fun _ _ _ T S => rn T rfl tu24 rfl fun _ T => ⟨rfl, T⟩⟩, ⟨_, _, rfl, (avl [6, 8] rfl), fun _ _ _ T S => v1 T rfl fun T => ⟨rfl, T⟩⟩, ⟨_, _, rfl, (avl [9] rfl), fun _ _ _ T S => v1 T rfl fun T => ⟨rfl, T⟩⟩, ⟨_, _, rfl, (avl [5, 10] rfl), fun _ _ _ T S => gy T rfl h10 (v1 T rfl fun T => ⟨rfl, T⟩)⟩, ⟨_, _, rfl, (avl [1, 10] rfl), fun _ _ _ T S => gy T rfl h10 (v1 T rfl fun T => ⟨rfl, T⟩)⟩, ⟨_, _, rfl, (avl [12, 10] rfl), fun _ _ _ T S => gy T rfl h10 (rn T rfl tu24 rfl fun _ T => ⟨rfl, T⟩)⟩, ⟨_, _, rfl, (avl [11, 13, 10] rfl), fun _ _ _ T S => gy T rfl h10 (v1 T rfl fun T => ⟨rfl, T⟩)⟩, ⟨_, _, rfl, (avl [10, 14] rfl), fun _ _ _ T S => pT T rfl h10 rfl rfl fun _ T => ⟨rfl, T⟩⟩, ⟨_, _, rfl, (avl [15] rfl), fun _ _ _ T S => v1 T rfl fun T => ⟨rfl, T⟩⟩, ⟨_, _, rfl, (avl [0, 16] rfl), fun _ _ _ T S => gy T rfl h11 (v1 T rfl fun T => ⟨rfl, T⟩)⟩, ⟨_, _, rfl, (avl [5, 16] rfl), fun _ _ _ T S => gy T rfl h11 (v1 T rfl fun T => ⟨rfl, T⟩)⟩, ⟨_, _, rfl, (avl [17, 18, 16] rfl), fun _ _ _ T S => gy T rfl h11 (r_ia (ix := 0) T S rfl rfl rfl rfl tu24 ts5 h2781.1 h2781.2 rfl fun _ T => ⟨rfl, T⟩)⟩, ⟨_, _, rfl, (avl [19, 16] rfl), fun _ _ _ T S => gy T rfl h11 (r_ldE (ix := 0) (i := x9) (off := 0) (f := (Value.int .u8)) T S rfl ti5 rfl (0 : Int) _ rfl rfl (Fld.all _) h2781.1 h2781.2 id rfl fun _ T => ⟨rfl, T⟩)⟩, ⟨_, _, rfl, (avl [1, 16] rfl), fun _ _ _ T S => gy T rfl h11 (v1 T rfl fun T => ⟨rfl, T⟩)⟩, ⟨_, _, rfl, (avl [5, 16] rfl), fun _ _ _ T S => gy T rfl h11 (v1 T rfl fun T => ⟨rfl, T⟩)⟩, ⟨_, _, rfl, (avl [21, 22, 16] rfl), fun _ _ _ T S => gy T rfl h11 (r_ia (ix := 1) T S rfl rfl rfl rfl tu24 ts5 h2781.1 h3021 rfl fun _ T => ⟨rfl, T⟩)⟩, ⟨_, _, rfl, (avl [23, 16] rfl), fun _ _ _ T S => gy T rfl h11 (r_ldE (ix := 1) (i := x9) (off := 0) (f := (Value.int .u8)) T S rfl ti5 rfl (0 : Int) _ rfl rfl (Fld.all _) h2781.1 h3021 id rfl fun _ T => ⟨rfl, T⟩)⟩, ⟨_, _, rfl, (avl [20, 24, 16] rfl), fun _ _ _ T S => gy T rfl h11 (v1 T rfl fun T => ⟨rfl, T⟩)⟩, ⟨_, _, rfl, (avl [16, 25] rfl), fun _ _ _ T S => pT T rfl h11 rfl rfl fun _ T => ⟨rfl, T⟩⟩, trivial⟩ rfl (fun i hi => by cases hi) (fun _ _ a w T hv hb S => ?_)
    replace T := T.sub (r := [(0, .slice A2 x1.length k3), (1, .slice A6 x5.length k7), (5, .int .i64 x9), (26, .bool ((gi (0 : Int) x1 x9) == (gi (0 : Int) x5 x9)))]) ⟨hb 0 _ rfl rfl, hb 1 _ rfl rfl, hb 5 _ rfl rfl, hv 20 _ 26 rfl rfl rfl, trivial⟩
    rcases ifE H with ⟨h12, H⟩ | ⟨h12, H⟩
    ·refine cdT T rfl h12 (sk (bq (rg (v3 T rfl rfl rfl fun T => Gets.inBlock (Gets.inLoop ?_)))))
     exact ih (wr .i64 (x9 + 1)) _ _ (T.sb rfl) (S.only [0, 0] rfl) H
    ·refine cdF T rfl h12 (Gets.exit rfl (sq ?_))
     exact J1_ok F r z x1 A2 k3 m4 x5 A6 k7 m8 x9 _ _ (T.sb rfl) (S.only [0, 0] rfl) H
   ·refine Gets.drawn (l := [sl m4 ku8 A2 k3 x1, sl m8 ku8 A6 k7 x5]) (V := [some (.int .i64 x9, true), some (.slice A2 x1.length k3, true), some (.int .i64 (x1.length : Int), true), (y0 x9 x1), (y0 x9 x1), some (.int .i64 x9, true), some (.slice A6 x5.length k7, true), some (.int .i64 (x5.length : Int), true), (y1 x9 x5), (y1 x9 x5), (y1 x9 x5), some (undef, true), some (undef, true), some (undef, true), some (undef, true), some (undef, true), some (undef, true), some (undef, true), some (undef, true), some (undef, true), some (.bool false, true)]) mixed T S rfl ?_
    refine stage none rfl rfl ⟨⟨_, _, rfl, (avl [5] rfl), fun _ _ _ T S => v1 T rfl fun T => ⟨rfl, T⟩⟩, ⟨_, _, rfl, (avl [0] rfl), fun _ _ _ T S => v1 T rfl fun T => ⟨rfl, T⟩⟩, ⟨_, _, rfl, (avl [7] rfl), fun _ _ _ T S => rn T rfl tu24 rfl fun _ T => ⟨rfl, T⟩⟩, ⟨_, _, rfl, (avl [6, 8] rfl), fun _ _ _ T S => v1 T rfl fun T => ⟨rfl, T⟩⟩, ⟨_, _, rfl, (avl [9] rfl), fun _ _ _ T S => v1 T rfl fun T => ⟨rfl, T⟩⟩, ⟨_, _, rfl, (avl [5, 10] rfl), fun _ _ _ T S => gy T rfl h10 (v1 T rfl fun T => ⟨rfl, T⟩)⟩, ⟨_, _, rfl, (avl [1, 10] rfl), fun _ _ _ T S => gy T rfl h10 (v1 T rfl fun T => ⟨rfl, T⟩)⟩, ⟨_, _, rfl, (avl [12, 10] rfl), fun _ _ _ T S => gy T rfl h10 (rn T rfl tu24 rfl fun _ T => ⟨rfl, T⟩)⟩, ⟨_, _, rfl, (avl [11, 13, 10] rfl), fun _ _ _ T S => gy T rfl h10 (v1 T rfl fun T => ⟨rfl, T⟩)⟩, ⟨_, _, rfl, (avl [10, 14] rfl), fun _ _ _ T S => pT T rfl h10 rfl rfl fun _ T => ⟨rfl, T⟩⟩, ⟨_, _, rfl, (avl [15] rfl), fun _ _ _ T S => v1 T rfl fun T => ⟨rfl, T⟩⟩, ⟨_, _, rfl, (avl [0, 16] rfl), fun _ _ _ T S => gn T rfl h11 fun T => ⟨rfl, T⟩⟩, ⟨_, _, rfl, (avl [5, 16] rfl), fun _ _ _ T S => gn T rfl h11 fun T => ⟨rfl, T⟩⟩, ⟨_, _, rfl, (avl [17, 18, 16] rfl), fun _ _ _ T S => gn T rfl h11 fun T => ⟨rfl, T⟩⟩, ⟨_, _, rfl, (avl [19, 16] rfl), fun _ _ _ T S => gn T rfl h11 fun T => ⟨rfl, T⟩⟩, ⟨_, _, rfl, (avl [1, 16] rfl), fun _ _ _ T S => gn T rfl h11 fun T => ⟨rfl, T⟩⟩, ⟨_, _, rfl, (avl [5, 16] rfl), fun _ _ _ T S => gn T rfl h11 fun T => ⟨rfl, T⟩⟩, ⟨_, _, rfl, (avl [21, 22, 16] rfl), fun _ _ _ T S => gn T rfl h11 fun T => ⟨rfl, T⟩⟩, ⟨_, _, rfl, (avl [23, 16] rfl), fun _ _ _ T S => gn T rfl h11 fun T => ⟨rfl, T⟩⟩, ⟨_, _, rfl, (avl [20, 24, 16] rfl), fun _ _ _ T S => gn T rfl h11 fun T => ⟨rfl, T⟩⟩, ⟨_, _, rfl, (avl [16, 25] rfl), fun _ _ _ T S => pF T rfl h11 rfl rfl fun _ T => ⟨rfl, T⟩⟩, trivial⟩ rfl (fun i hi => by cases hi) (fun _ _ a w T hv hb S => ?_)
    replace T := T.sub (r := [(0, .slice A2 x1.length k3), (1, .slice A6 x5.length k7), (5, .int .i64 x9), (26, .bool false)]) ⟨hb 0 _ rfl rfl, hb 1 _ rfl rfl, hb 5 _ rfl rfl, hv 20 _ 26 rfl rfl rfl, trivial⟩
    refine cdF T rfl rfl (Gets.exit rfl (sq ?_))
    exact J1_ok F r z x1 A2 k3 m4 x5 A6 k7 m8 x9 _ _ (T.sb rfl) (S.only [0, 0] rfl) H
  ·refine Gets.drawn (l := [sl m4 ku8 A2 k3 x1, sl m8 ku8 A6 k7 x5]) (V := [some (.int .i64 x9, true), some (.slice A2 x1.length k3, true), some (.int .i64 (x1.length : Int), true), (y0 x9 x1), (y0 x9 x1), some (undef, true), some (undef, true), some (undef, true), some (undef, true), some (.bool false, true), some (.bool false, true), some (undef, true), some (undef, true), some (undef, true), some (undef, true), some (undef, true), some (undef, true), some (undef, true), some (undef, true), some (undef, true), some (.bool false, true)]) mixed T S rfl ?_
   refine stage none rfl rfl ⟨⟨_, _, rfl, (avl [5] rfl), fun _ _ _ T S => v1 T rfl fun T => ⟨rfl, T⟩⟩, ⟨_, _, rfl, (avl [0] rfl), fun _ _ _ T S => v1 T rfl fun T => ⟨rfl, T⟩⟩, ⟨_, _, rfl, (avl [7] rfl), fun _ _ _ T S => rn T rfl tu24 rfl fun _ T => ⟨rfl, T⟩⟩, ⟨_, _, rfl, (avl [6, 8] rfl), fun _ _ _ T S => v1 T rfl fun T => ⟨rfl, T⟩⟩, ⟨_, _, rfl, (avl [9] rfl), fun _ _ _ T S => v1 T rfl fun T => ⟨rfl, T⟩⟩, ⟨_, _, rfl, (avl [5, 10] rfl), fun _ _ _ T S => gn T rfl h10 fun T => ⟨rfl, T⟩⟩, ⟨_, _, rfl, (avl [1, 10] rfl), fun _ _ _ T S => gn T rfl h10 fun T => ⟨rfl, T⟩⟩, ⟨_, _, rfl, (avl [12, 10] rfl), fun _ _ _ T S => gn T rfl h10 fun T => ⟨rfl, T⟩⟩, ⟨_, _, rfl, (avl [11, 13, 10] rfl), fun _ _ _ T S => gn T rfl h10 fun T => ⟨rfl, T⟩⟩, ⟨_, _, rfl, (avl [10, 14] rfl), fun _ _ _ T S => pF T rfl h10 rfl rfl fun _ T => ⟨rfl, T⟩⟩, ⟨_, _, rfl, (avl [15] rfl), fun _ _ _ T S => v1 T rfl fun T => ⟨rfl, T⟩⟩, ⟨_, _, rfl, (avl [0, 16] rfl), fun _ _ _ T S => gn T rfl rfl fun T => ⟨rfl, T⟩⟩, ⟨_, _, rfl, (avl [5, 16] rfl), fun _ _ _ T S => gn T rfl rfl fun T => ⟨rfl, T⟩⟩, ⟨_, _, rfl, (avl [17, 18, 16] rfl), fun _ _ _ T S => gn T rfl rfl fun T => ⟨rfl, T⟩⟩, ⟨_, _, rfl, (avl [19, 16] rfl), fun _ _ _ T S => gn T rfl rfl fun T => ⟨rfl, T⟩⟩, ⟨_, _, rfl, (avl [1, 16] rfl), fun _ _ _ T S => gn T rfl rfl fun T => ⟨rfl, T⟩⟩, ⟨_, _, rfl, (avl [5, 16] rfl), fun _ _ _ T S => gn T rfl rfl fun T => ⟨rfl, T⟩⟩, ⟨_, _, rfl, (avl [21, 22, 16] rfl), fun _ _ _ T S => gn T rfl rfl fun T => ⟨rfl, T⟩⟩, ⟨_, _, rfl, (avl [23, 16] rfl), fun _ _ _ T S => gn T rfl rfl fun T => ⟨rfl, T⟩⟩, ⟨_, _, rfl, (avl [20, 24, 16] rfl), fun _ _ _ T S => gn T rfl rfl fun T => ⟨rfl, T⟩⟩, ⟨_, _, rfl, (avl [16, 25] rfl), fun _ _ _ T S => pF T rfl rfl rfl rfl fun _ T => ⟨rfl, T⟩⟩, trivial⟩ rfl (fun i hi => by cases hi) (fun _ _ a w T hv hb S => ?_)
   replace T := T.sub (r := [(0, .slice A2 x1.length k3), (1, .slice A6 x5.length k7), (5, .int .i64 x9), (26, .bool false)]) ⟨hb 0 _ rfl rfl, hb 1 _ rfl rfl, hb 5 _ rfl rfl, hv 20 _ 26 rfl rfl rfl, trivial⟩
   refine cdF T rfl rfl (Gets.exit rfl (sq ?_))
   exact J1_ok F r z x1 A2 k3 m4 x5 A6 k7 m8 x9 _ _ (T.sb rfl) (S.only [0, 0] rfl) H
theorem ok (F : List Atom) (w : World) (z : Nat) (x1 x5 : List Int) {A2 : OA} {k3 : Nat} {m4 : Md} {A6 : OA} {k7 : Nat} {m8 : Md} (S : SL ([sl m4 ku8 A2 k3 x1, sl m8 ku8 A6 k7 x5] ++ F) w) (r : Int) (H : f z x1 x5 = some r) : Calls Try.prog 89 #[.slice A2 x1.length k3, .slice A6 x5.length k7] w (R F x1 A2 k3 m4 x5 A6 k7 m8 r) := by
 refine enter (vs := [.slice A2 x1.length k3, .slice A6 x5.length k7]) Try.func89 rfl Try.ntmps89 (nle rfl) fun a T => ?_
 refine sq (rg (v1 T rfl fun T => sq (rg (v1 T rfl fun T => sq (bq (Gets.loop ?_))))))
 exact L0_ok F r z x1 A2 k3 m4 x5 A6 k7 m8 z 0 _ _ (T.sb rfl) (S.only [0, 0] rfl) H
end r4_common
end Go.Proofs.Ytghpokmkhlmgcaa
