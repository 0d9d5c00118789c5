/- A Go function: the Lean function that it comes to, and the proof. -/
import Derived.Test.YtghpokmkhlmgcaaBa1
import Derived.Test.YtghpokmkhlmgcaaBa2
import Derived.IntWalk
import Derived.KernelRfl
namespace Go.Proofs.Ytghpokmkhlmgcaa
open Go Go.Proofs.Ytghpokmkhlmgcaa.X
set_option linter.unusedVariables false
set_option linter.unusedSimpArgs false
set_option maxRecDepth 100000
set_option maxHeartbeats 4000000
/-! ### cormorant.cormorantlaw04.mark: function 23 -/
namespace cormorantlaw04_mark
noncomputable def c0 : Code := match Try.f23.body with | some c => c | none => .skip
def R (F : List Atom) (r : Unit) : Ending → World → Prop := fun e w' => e = .returned (.tuple #[]) ∧ SL ([] ++ F) w'
def L1 (z : Nat) : Nat → Int → (List Int) → Option Unit
  | 0, _, _ => none
  | m + 1, x15, x12 => If (decide (x15 < (x12.length : Int))) (Ck (0 ≤ x15 ∧ x15 < (x12.length : Int)) (L1 z m (wr .i64 (x15 + 1)) (x12.set (Int.toNat x15) 77))) (some ())
def L0 (z : Nat) (x1 : api_Entry) : Nat → Int → (List Int) → Option Unit
  | 0, _, _ => none
  | m + 1, x10, x7 => If (decide (x10 < (x7.length : Int))) (Ck (0 ≤ x10 ∧ x10 < (x7.length : Int)) (L0 z x1 m (wr .i64 (x10 + 1)) (x7.set (Int.toNat x10) 77))) (L1 z z 0 x1.Value)
def f (z : Nat) (x1 : api_Entry) : Option Unit := L0 z x1 z 0 x1.Key
noncomputable def ptL1 : List Item := [.code (cB (cB (cR (cR (cR c0))))), .inLoop (cB (cB (cR (cR (cR c0))))), .inBlock 2]
noncomputable def ptL0 : List Item := [.code (cB (cB (cR (cL (cR c0))))), .inLoop (cB (cB (cR (cL (cR c0))))), .inBlock 0, .code (cR (cR c0))]
theorem L1_ok (F : List Atom) (r : Unit) (z : Nat) (b6 : Nat) (A8 : Option Addr) (x7 : List Int) (k9 : Nat) (x1 : api_Entry) (m : Nat) : ∀ (x15 : Int) (A13 : Option Addr) (x12 : List Int) (k14 : Nat) (a : Act) (w : World), Tm 26 [(1, .pointer (some ⟨b6, 0, none⟩)), (3, .int .i64 x15)] a → SL ([blk b6 [.slice A8 x7.length k9, .int .u64 x1.Seq, .bool x1.Del, .slice A13 x12.length k14], sl .own ku8 A8 k9 x7, sl .own ku8 A13 k14 x12] ++ F) w → L1 z m x15 x12 = some r → Gets Try.prog 23 ptL1 a w (R F r) := by
  induction m with
  | zero => intro _ _ _ _ _ _ _ _ H; cases H
  | succ m ih =>
    intro x15 A13 x12 k14 a w T S H
    refine Gets.seq ?_
    refine Gets.seq ?_
    refine rg ?_
    refine r_pv T rfl rfl fun _ T => ?_
    refine r_fa (o' := 3) T rfl Try.runUnderlying36 rfl Try.sizeOf24 rfl rfl fun _ T => ?_
    refine r_ldB (ix := 0) T S rfl Try.isAgg24 rfl rfl rfl fun _ T => ?_
    refine r_lenS T rfl Try.runUnderlying24 rfl fun _ T => ?_
    refine r_pv T rfl rfl fun _ T => ?_
    rcases ifE H with ⟨h16, H⟩ | ⟨h16, H⟩
    · refine cdT T rfl h16 ?_
      refine Gets.skip (Gets.seq (Gets.block ?_))
      refine rg ?_
      refine r_fa (o' := 3) T rfl Try.runUnderlying36 rfl Try.sizeOf24 rfl rfl fun _ T => ?_
      refine r_ldB (ix := 0) T S rfl Try.isAgg24 rfl rfl rfl fun _ T => ?_
      refine r_pv T rfl rfl fun _ T => ?_
      obtain ⟨h17, H⟩ := ck H
      refine r_ia (ix := 2) T S rfl rfl rfl rfl Try.runUnderlying24 Try.sizeOf5 h17.1 h17.2 rfl fun _ T => ?_
      refine r_stE (ix := 2) (i := x15) (u := 77) (l' := [blk b6 [.slice A8 x7.length k9, .int .u64 x1.Seq, .bool x1.Del, .slice A13 x12.length k14], sl .own ku8 A8 k9 x7, sl .own ku8 A13 k14 (x12.set (Int.toNat x15) 77)]) T S rfl rfl rfl rfl (fun _ => rfl) Try.sizeOf5 h17.1 h17.2 rfl fun _ S => ?_
      refine Gets.inBlock ?_
      refine rg ?_
      refine r_pv T rfl rfl fun _ T => ?_
      refine r_pv T rfl rfl fun _ T => ?_
      refine r_pv T rfl rfl fun _ T => ?_
      refine Gets.inLoop ?_
      replace S : SL ([blk b6 [.slice A8 x7.length k9, .int .u64 x1.Seq, .bool x1.Del, .slice A13 ((x12.set (Int.toNat x15) 77).length) k14], sl .own ku8 A8 k9 x7, sl .own ku8 A13 k14 (x12.set (Int.toNat x15) 77)] ++ F) _ := S.reB (i := 0) rfl (by simp) rfl
      exact ih (wr .i64 (x15 + 1)) A13 (x12.set (Int.toNat x15) 77) k14 _ _ (T.sub ⟨rfl, rfl, trivial⟩) (S.only (p := [blk b6 [.slice A8 x7.length k9, .int .u64 x1.Seq, .bool x1.Del, .slice A13 ((x12.set (Int.toNat x15) 77).length) k14], sl .own ku8 A8 k9 x7, sl .own ku8 A13 k14 (x12.set (Int.toNat x15) 77)]) [0, 0, 0] rfl) H
    · refine cdF T rfl h16 ?_
      refine Gets.exit rfl ?_
      replace H := Option.some.inj H
      subst H
      exact rtf T Try.func23 rfl rfl ⟨rfl, (S.only (p := []) [] rfl)⟩
theorem L0_ok (F : List Atom) (r : Unit) (z : Nat) (b6 : Nat) (x1 : api_Entry) (A4 : Option Addr) (k5 : Nat) (m : Nat) : ∀ (x10 : Int) (A8 : Option Addr) (x7 : List Int) (k9 : Nat) (a : Act) (w : World), Tm 26 [(1, .pointer (some ⟨b6, 0, none⟩)), (2, .int .i64 x10)] a → SL ([blk b6 [.slice A8 x7.length k9, .int .u64 x1.Seq, .bool x1.Del, .slice A4 x1.Value.length k5], sl .own ku8 A8 k9 x7, sl .own ku8 A4 k5 x1.Value] ++ F) w → L0 z x1 m x10 x7 = some r → Gets Try.prog 23 ptL0 a w (R F r) := by
  induction m with
  | zero => intro _ _ _ _ _ _ _ _ H; cases H
  | succ m ih =>
    intro x10 A8 x7 k9 a w T S H
    refine Gets.seq ?_
    refine Gets.seq ?_
    refine rg ?_
    refine r_pv T rfl rfl fun _ T => ?_
    refine r_fa (o' := 0) T rfl Try.runUnderlying36 rfl Try.sizeOf24 rfl rfl fun _ T => ?_
    refine r_ldB (ix := 0) T S rfl Try.isAgg24 rfl rfl rfl fun _ T => ?_
    refine r_lenS T rfl Try.runUnderlying24 rfl fun _ T => ?_
    refine r_pv T rfl rfl fun _ T => ?_
    rcases ifE H with ⟨h11, H⟩ | ⟨h11, H⟩
    · refine cdT T rfl h11 ?_
      refine Gets.skip (Gets.seq (Gets.block ?_))
      refine rg ?_
      refine r_fa (o' := 0) T rfl Try.runUnderlying36 rfl Try.sizeOf24 rfl rfl fun _ T => ?_
      refine r_ldB (ix := 0) T S rfl Try.isAgg24 rfl rfl rfl fun _ T => ?_
      refine r_pv T rfl rfl fun _ T => ?_
      obtain ⟨h18, H⟩ := ck H
      refine r_ia (ix := 1) T S rfl rfl rfl rfl Try.runUnderlying24 Try.sizeOf5 h18.1 h18.2 rfl fun _ T => ?_
      refine r_stE (ix := 1) (i := x10) (u := 77) (l' := [blk b6 [.slice A8 x7.length k9, .int .u64 x1.Seq, .bool x1.Del, .slice A4 x1.Value.length k5], sl .own ku8 A8 k9 (x7.set (Int.toNat x10) 77), sl .own ku8 A4 k5 x1.Value]) T S rfl rfl rfl rfl (fun _ => rfl) Try.sizeOf5 h18.1 h18.2 rfl fun _ S => ?_
      refine Gets.inBlock ?_
      refine rg ?_
      refine r_pv T rfl rfl fun _ T => ?_
      refine r_pv T rfl rfl fun _ T => ?_
      refine r_pv T rfl rfl fun _ T => ?_
      refine Gets.inLoop ?_
      replace S : SL ([blk b6 [.slice A8 ((x7.set (Int.toNat x10) 77).length) k9, .int .u64 x1.Seq, .bool x1.Del, .slice A4 x1.Value.length k5], sl .own ku8 A8 k9 (x7.set (Int.toNat x10) 77), sl .own ku8 A4 k5 x1.Value] ++ F) _ := S.reB (i := 0) rfl (by simp) rfl
      exact ih (wr .i64 (x10 + 1)) A8 (x7.set (Int.toNat x10) 77) k9 _ _ (T.sub ⟨rfl, rfl, trivial⟩) (S.only (p := [blk b6 [.slice A8 ((x7.set (Int.toNat x10) 77).length) k9, .int .u64 x1.Seq, .bool x1.Del, .slice A4 x1.Value.length k5], sl .own ku8 A8 k9 (x7.set (Int.toNat x10) 77), sl .own ku8 A4 k5 x1.Value]) [0, 0, 0] rfl) H
    · refine cdF T rfl h11 ?_
      refine Gets.exit rfl (Gets.seq ?_)
      refine rg ?_
      refine r_pv T rfl rfl fun _ T => ?_
      refine Gets.block ?_
      refine Gets.loop ?_
      exact L1_ok F r z b6 A8 x7 k9 x1 z 0 A4 x1.Value k5 _ _ (T.sub ⟨rfl, rfl, trivial⟩) (S.only (p := [blk b6 [.slice A8 x7.length k9, .int .u64 x1.Seq, .bool x1.Del, .slice A4 x1.Value.length k5], sl .own ku8 A8 k9 x7, sl .own ku8 A4 k5 x1.Value]) [0, 0, 0] rfl) H
theorem ok (F : List Atom) (w : World) (z : Nat) (x1 : api_Entry) {A2 : Option Addr} {k3 : Nat} {A4 : Option Addr} {k5 : Nat} (S : SL ([sl .own ku8 A2 k3 x1.Key, sl .own ku8 A4 k5 x1.Value] ++ F) w) (r : Unit) (H : f z x1 = some r) : Calls Try.prog 23 #[.agg #[.slice A2 x1.Key.length k3, .int .u64 x1.Seq, .bool x1.Del, .slice A4 x1.Value.length k5]] w (R F r) := by
  refine enter (vs := [.agg #[.slice A2 x1.Key.length k3, .int .u64 x1.Seq, .bool x1.Del, .slice A4 x1.Value.length k5]]) Try.func23 rfl Try.ntmps23 (Nat.le_of_ble_eq_true rfl) fun a T => ?_
  refine Gets.seq ?_
  refine rg ?_
  refine r_box T S rfl (cs := [.slice A2 x1.Key.length k3, .int .u64 x1.Seq, .bool x1.Del, .slice A4 x1.Value.length k5]) rfl rfl fun _ _ b6 S T => ?_
  refine Gets.seq (Gets.seq ?_)
  refine rg ?_
  refine r_pv T rfl rfl fun _ T => ?_
  refine Gets.block ?_
  refine Gets.loop ?_
  exact L0_ok F r z b6 x1 A4 k5 z 0 A2 x1.Key k3 _ _ (T.sub ⟨rfl, rfl, trivial⟩) (S.only (p := [blk b6 [.slice A2 x1.Key.length k3, .int .u64 x1.Seq, .bool x1.Del, .slice A4 x1.Value.length k5], sl .own ku8 A2 k3 x1.Key, sl .own ku8 A4 k5 x1.Value]) [0, 0, 0] rfl) H
end cormorantlaw04_mark
end Go.Proofs.Ytghpokmkhlmgcaa

namespace Go.Proofs.Ytghpokmkhlmgcaa
open Go Go.Proofs.Ytghpokmkhlmgcaa.X
set_option linter.unusedVariables false
set_option linter.unusedSimpArgs false
set_option maxRecDepth 100000
set_option maxHeartbeats 4000000
/-! ### cormorant.cormorantref04.Copy: function 37 -/
namespace cormorantref04_Copy
noncomputable def c0 : Code := match Try.f37.body with | some c => c | none => .skip
def R (F : List Atom) (x1 : api_Entry) (A2 : Option Addr) (k3 : Nat) (m4 : Md) (A5 : Option Addr) (k6 : Nat) (m7 : Md) (r : api_Entry) : Ending → World → Prop := fun e w' => ∃ (A17 : Option Addr), ∃ (k18 : Nat), ∃ (A19 : Option Addr), ∃ (k20 : Nat), e = .returned (.agg #[.slice A17 r.Key.length k18, .int .u64 r.Seq, .bool r.Del, .slice A19 r.Value.length k20]) ∧ SL ([sl .ro ku8 A17 k18 r.Key, sl .ro ku8 A19 k20 r.Value, sl m4 ku8 A2 k3 x1.Key, sl m7 ku8 A5 k6 x1.Value] ++ F) w'
def f (x1 : api_Entry) : Option api_Entry := Ck ((([] : List Int).length + x1.Key.length) * 1 ≤ 140737488355328) (Ck ((([] : List Int).length + x1.Value.length) * 1 ≤ 140737488355328) (some (api_Entry.mk (([] : List Int) ++ x1.Key) x1.Seq x1.Del (([] : List Int) ++ x1.Value))))
theorem ok (F : List Atom) (w : World) (x1 : api_Entry) {A2 : Option Addr} {k3 : Nat} {m4 : Md} {A5 : Option Addr} {k6 : Nat} {m7 : Md} (S : SL ([sl m4 ku8 A2 k3 x1.Key, sl m7 ku8 A5 k6 x1.Value] ++ F) w) (r : api_Entry) (H : f x1 = some r) : Calls Try.prog 37 #[.agg #[.slice A2 x1.Key.length k3, .int .u64 x1.Seq, .bool x1.Del, .slice A5 x1.Value.length k6]] w (R F x1 A2 k3 m4 A5 k6 m7 r) := by
  refine enter (vs := [.agg #[.slice A2 x1.Key.length k3, .int .u64 x1.Seq, .bool x1.Del, .slice A5 x1.Value.length k6]]) Try.func37 rfl Try.ntmps37 (Nat.le_of_ble_eq_true rfl) fun a T => ?_
  refine Gets.seq ?_
  refine rg ?_
  refine r_box T S rfl (cs := [.slice A2 x1.Key.length k3, .int .u64 x1.Seq, .bool x1.Del, .slice A5 x1.Value.length k6]) rfl rfl fun _ _ b8 S T => ?_
  refine r_alloc T S zv36 (cs := [.slice none 0 0, .int .u64 0, .bool false, .slice none 0 0]) rfl rfl fun _ _ b9 S T => ?_
  refine Gets.seq ?_
  refine rg ?_
  refine r_fa (o' := 1) T rfl Try.runUnderlying36 rfl Try.sizeOf34 rfl rfl fun _ T => ?_
  refine r_ldB (ix := 1) T S rfl Try.isAgg34 rfl rfl rfl fun _ T => ?_
  refine r_fa (o' := 2) T rfl Try.runUnderlying36 rfl Try.sizeOf4 rfl rfl fun _ T => ?_
  refine r_ldB (ix := 1) T S rfl Try.isAgg4 rfl rfl rfl fun _ T => ?_
  refine r_build (cs := #[.slice none 0 0, .int .u64 x1.Seq, .bool x1.Del, .slice none 0 0]) T stt36 rfl rfl rfl fun _ T => ?_
  refine r_alloc T S zv36 (cs := [.slice none 0 0, .int .u64 0, .bool false, .slice none 0 0]) rfl rfl fun _ _ b10 S T => ?_
  refine r_stBA (ix := 0) (vs := [.slice none 0 0, .int .u64 x1.Seq, .bool x1.Del, .slice none 0 0]) (l' := [blk b10 [.slice none 0 0, .int .u64 x1.Seq, .bool x1.Del, .slice none 0 0], blk b9 [.slice none 0 0, .int .u64 0, .bool false, .slice none 0 0], blk b8 [.slice A2 x1.Key.length k3, .int .u64 x1.Seq, .bool x1.Del, .slice A5 x1.Value.length k6], sl m4 ku8 A2 k3 x1.Key, sl m7 ku8 A5 k6 x1.Value]) T S rfl rfl rfl rfl (by simp) Try.sizeOf36 (Nat.le_of_ble_eq_true rfl) rfl fun _ S => ?_
  refine Gets.seq ?_
  refine rg ?_
  refine r_fa (o' := 0) T rfl Try.runUnderlying36 rfl Try.sizeOf24 rfl rfl fun _ T => ?_
  refine r_ldB (ix := 0) T S rfl Try.isAgg24 rfl rfl rfl fun _ T => ?_
  refine r_fa (o' := 0) T rfl Try.runUnderlying36 rfl Try.sizeOf24 rfl rfl fun _ T => ?_
  refine r_ldB (ix := 2) T S rfl Try.isAgg24 rfl rfl rfl fun _ T => ?_
  replace S := S.nil ku8 .own
  obtain ⟨h13, H⟩ := ck H
  refine r_app (ix := 0) (iy := 4) (xs := ([] : List Int)) (ys := x1.Key) T S rfl rfl rfl rfl (by decide) sty24 Try.runUnderlying24 (by decide) h13 rfl fun _ _ A11 k12 S T => ?_
  replace S : SL ([sl .own ku8 A11 k12 (([] : List Int) ++ x1.Key), blk b10 [.slice none 0 0, .int .u64 x1.Seq, .bool x1.Del, .slice none 0 0], blk b9 [.slice none 0 0, .int .u64 0, .bool false, .slice none 0 0], blk b8 [.slice A2 x1.Key.length k3, .int .u64 x1.Seq, .bool x1.Del, .slice A5 x1.Value.length k6], sl m4 ku8 A2 k3 x1.Key, sl m7 ku8 A5 k6 x1.Value] ++ F) _ := S
  refine r_fa (o' := 0) T rfl Try.runUnderlying36 rfl Try.sizeOf24 rfl rfl fun _ T => ?_
  refine r_stB (ix := 1) (l' := [sl .own ku8 A11 k12 (([] : List Int) ++ x1.Key), blk b10 [.slice A11 ((([] : List Int) ++ x1.Key).length) k12, .int .u64 x1.Seq, .bool x1.Del, .slice none 0 0], blk b9 [.slice none 0 0, .int .u64 0, .bool false, .slice none 0 0], blk b8 [.slice A2 x1.Key.length k3, .int .u64 x1.Seq, .bool x1.Del, .slice A5 x1.Value.length k6], sl m4 ku8 A2 k3 x1.Key, sl m7 ku8 A5 k6 x1.Value]) T S rfl rfl rfl Try.sizeOf24 rfl (Nat.le_of_ble_eq_true rfl) rfl fun _ S => ?_
  refine Gets.seq ?_
  refine rg ?_
  refine r_fa (o' := 3) T rfl Try.runUnderlying36 rfl Try.sizeOf24 rfl rfl fun _ T => ?_
  refine r_ldB (ix := 1) T S rfl Try.isAgg24 rfl rfl rfl fun _ T => ?_
  refine r_fa (o' := 3) T rfl Try.runUnderlying36 rfl Try.sizeOf24 rfl rfl fun _ T => ?_
  refine r_ldB (ix := 3) T S rfl Try.isAgg24 rfl rfl rfl fun _ T => ?_
  replace S := S.nil ku8 .own
  obtain ⟨h16, H⟩ := ck H
  refine r_app (ix := 0) (iy := 6) (xs := ([] : List Int)) (ys := x1.Value) T S rfl rfl rfl rfl (by decide) sty24 Try.runUnderlying24 (by decide) h16 rfl fun _ _ A14 k15 S T => ?_
  replace S : SL ([sl .own ku8 A14 k15 (([] : List Int) ++ x1.Value), sl .own ku8 A11 k12 (([] : List Int) ++ x1.Key), blk b10 [.slice A11 ((([] : List Int) ++ x1.Key).length) k12, .int .u64 x1.Seq, .bool x1.Del, .slice none 0 0], blk b9 [.slice none 0 0, .int .u64 0, .bool false, .slice none 0 0], blk b8 [.slice A2 x1.Key.length k3, .int .u64 x1.Seq, .bool x1.Del, .slice A5 x1.Value.length k6], sl m4 ku8 A2 k3 x1.Key, sl m7 ku8 A5 k6 x1.Value] ++ F) _ := S
  refine r_fa (o' := 3) T rfl Try.runUnderlying36 rfl Try.sizeOf24 rfl rfl fun _ T => ?_
  refine r_stB (ix := 2) (l' := [sl .own ku8 A14 k15 (([] : List Int) ++ x1.Value), sl .own ku8 A11 k12 (([] : List Int) ++ x1.Key), blk b10 [.slice A11 ((([] : List Int) ++ x1.Key).length) k12, .int .u64 x1.Seq, .bool x1.Del, .slice A14 ((([] : List Int) ++ x1.Value).length) k15], blk b9 [.slice none 0 0, .int .u64 0, .bool false, .slice none 0 0], blk b8 [.slice A2 x1.Key.length k3, .int .u64 x1.Seq, .bool x1.Del, .slice A5 x1.Value.length k6], sl m4 ku8 A2 k3 x1.Key, sl m7 ku8 A5 k6 x1.Value]) T S rfl rfl rfl Try.sizeOf24 rfl (Nat.le_of_ble_eq_true rfl) rfl fun _ S => ?_
  refine Gets.seq ?_
  refine rg ?_
  refine r_ldBA (ix := 2) (ds := [.slice A11 ((([] : List Int) ++ x1.Key).length) k12, .int .u64 x1.Seq, .bool x1.Del, .slice A14 ((([] : List Int) ++ x1.Value).length) k15]) T S rfl Try.isAgg36 rfl rfl Try.sizeOf36 rfl fun _ T => ?_
  refine r_stBA (ix := 3) (vs := [.slice A11 ((([] : List Int) ++ x1.Key).length) k12, .int .u64 x1.Seq, .bool x1.Del, .slice A14 ((([] : List Int) ++ x1.Value).length) k15]) (l' := [sl .own ku8 A14 k15 (([] : List Int) ++ x1.Value), sl .own ku8 A11 k12 (([] : List Int) ++ x1.Key), blk b10 [.slice A11 ((([] : List Int) ++ x1.Key).length) k12, .int .u64 x1.Seq, .bool x1.Del, .slice A14 ((([] : List Int) ++ x1.Value).length) k15], blk b9 [.slice A11 ((([] : List Int) ++ x1.Key).length) k12, .int .u64 x1.Seq, .bool x1.Del, .slice A14 ((([] : List Int) ++ x1.Value).length) k15], blk b8 [.slice A2 x1.Key.length k3, .int .u64 x1.Seq, .bool x1.Del, .slice A5 x1.Value.length k6], sl m4 ku8 A2 k3 x1.Key, sl m7 ku8 A5 k6 x1.Value]) T S rfl rfl rfl rfl (by simp) Try.sizeOf36 (Nat.le_of_ble_eq_true rfl) rfl fun _ S => ?_
  replace S : SL ([sl .own ku8 A14 k15 (([] : List Int) ++ x1.Value), sl .ro ku8 A11 k12 (([] : List Int) ++ x1.Key), blk b10 [.slice A11 ((([] : List Int) ++ x1.Key).length) k12, .int .u64 x1.Seq, .bool x1.Del, .slice A14 ((([] : List Int) ++ x1.Value).length) k15], blk b9 [.slice A11 ((([] : List Int) ++ x1.Key).length) k12, .int .u64 x1.Seq, .bool x1.Del, .slice A14 ((([] : List Int) ++ x1.Value).length) k15], blk b8 [.slice A2 x1.Key.length k3, .int .u64 x1.Seq, .bool x1.Del, .slice A5 x1.Value.length k6], sl m4 ku8 A2 k3 x1.Key, sl m7 ku8 A5 k6 x1.Value] ++ F) _ := S.fixL (i := 1) rfl rfl
  replace S : SL ([sl .ro ku8 A14 k15 (([] : List Int) ++ x1.Value), sl .ro ku8 A11 k12 (([] : List Int) ++ x1.Key), blk b10 [.slice A11 ((([] : List Int) ++ x1.Key).length) k12, .int .u64 x1.Seq, .bool x1.Del, .slice A14 ((([] : List Int) ++ x1.Value).length) k15], blk b9 [.slice A11 ((([] : List Int) ++ x1.Key).length) k12, .int .u64 x1.Seq, .bool x1.Del, .slice A14 ((([] : List Int) ++ x1.Value).length) k15], blk b8 [.slice A2 x1.Key.length k3, .int .u64 x1.Seq, .bool x1.Del, .slice A5 x1.Value.length k6], sl m4 ku8 A2 k3 x1.Key, sl m7 ku8 A5 k6 x1.Value] ++ F) _ := S.fixL (i := 0) rfl rfl
  replace H := Option.some.inj H
  subst H
  exact rtnM T S Try.func37 rfl ⟨_, _, rfl, ⟨b9, _, 3, rfl, rfl, .inl ⟨Try.isAgg36, Try.sizeOf36, rfl⟩⟩, rfl⟩ ⟨A11, k12, A14, k15, rfl, (S.only (p := [sl .ro ku8 A11 k12 (([] : List Int) ++ x1.Key), sl .ro ku8 A14 k15 (([] : List Int) ++ x1.Value), sl m4 ku8 A2 k3 x1.Key, sl m7 ku8 A5 k6 x1.Value]) [1, 0, 3, 3] rfl)⟩
end cormorantref04_Copy
end Go.Proofs.Ytghpokmkhlmgcaa

namespace Go.Proofs.Ytghpokmkhlmgcaa
open Go Go.Proofs.Ytghpokmkhlmgcaa.X
set_option linter.unusedVariables false
set_option linter.unusedSimpArgs false
set_option maxRecDepth 100000
set_option maxHeartbeats 4000000
namespace cormorantlaw04_scan
def rfA : Code → Code | .rangeFunc _ _ x _ => x | _ => .skip
def rfB : Code → Code | .rangeFunc _ _ _ x => x | _ => .skip
noncomputable def c0 : Code := match Try.f9.body with | some c => c | none => .skip
noncomputable def rA : Code := rfA (cB (cR (cL (cR (cR c0)))))
noncomputable def rB : Code := rfB (cB (cR (cL (cR (cR c0)))))
abbrev vE (e : api_Entry) (A1 : Option Addr) (k1 : Nat) (A2 : Option Addr) (k2 : Nat) : List Value := [.slice A1 e.Key.length k1, .int .u64 e.Seq, .bool e.Del, .slice A2 e.Value.length k2]
/-- one round -/
def rnd (z : Nat) (most : Int) (e : api_Entry) (out : List api_Entry) : Option (Bool × List api_Entry) := Bd (cormorantref04_Copy.f e) fun own => Ck ((out.length + [own].length) * 64 ≤ 140737488355328) (Bd (cormorantlaw04_mark.f z e) fun _ => If (decide (((out ++ [own]).length : Int) ≥ most)) (some (false, out ++ [own])) (some (true, out ++ [own])))
/-- the loop's record: more is wanted, or not -/
noncomputable def lp (l D : Nat) (a0 : Act) (more : Bool) : Atom := ob l (.loop (rdy 9 a0 #[13] rA rB D (if more then .ready else .done) (if more then none else some (.exit 0))))
theorem rnd_ok (F : List Atom) (w : World) (z : Nat) (most : Int) (e : api_Entry) (out : List api_Entry) {l D b5 b7 : Nat} {a0 : Act} {A1 A2 Ao : Option Addr} {k1 k2 ko : Nat} (T0 : Tm 27 [(5, .pointer (some ⟨b5, 0, none⟩)), (7, .pointer (some ⟨b7, 0, none⟩))] a0)
    (S : SL ([lp l D a0 true, sl .own ku8 A1 k1 e.Key, sl .own ku8 A2 k2 e.Value, blk b5 [.int .i64 most], blk b7 [.slice Ao out.length ko], sl .own kapi_Entry Ao ko out] ++ F) w) (r : Bool × List api_Entry) (H : rnd z most e out = some r) :
    Rnds Try.prog l #[.agg (vE e A1 k1 A2 k2).toArray] w (fun en w' => ∃ Ao ko, en = .returned (.bool r.1) ∧ SL ([lp l D a0 r.1, blk b5 [.int .i64 most], blk b7 [.slice Ao r.2.length ko], sl .own kapi_Entry Ao ko r.2] ++ F) w') := by
  refine yields_of (L := [sl .own ku8 A1 k1 e.Key, sl .own ku8 A2 k2 e.Value, blk b5 [.int .i64 most], blk b7 [.slice Ao out.length ko], sl .own kapi_Entry Ao ko out] ++ F) (tm := a0.tmps.setIfInBounds 13 (.agg (vE e A1 k1 A2 k2).toArray)) S rfl (by simp [rdy]) ?_
  have T : Tm 27 [(13, .agg (vE e A1 k1 A2 k2).toArray), (5, .pointer (some ⟨b5, 0, none⟩)), (7, .pointer (some ⟨b7, 0, none⟩))] { tmps := a0.tmps.setIfInBounds 13 (.agg (vE e A1 k1 A2 k2).toArray), defers := [] } := by
    have q := T0.put (d := 13) rfl (.agg (vE e A1 k1 A2 k2).toArray)
    exact ⟨rfl, q.size, q.at_⟩
  show Gets Try.prog { fn := 9, rnd := some l } [.code rA, .beginRound, .code rB] { tmps := a0.tmps.setIfInBounds 13 (.agg (vE e A1 k1 A2 k2).toArray), defers := [] } w _
  refine rg ?_
  refine r_alloc T S zv36 (cs := [.slice none 0 0, .int .u64 0, .bool false, .slice none 0 0]) rfl rfl fun _ _ b8 S T => ?_
  refine r_stBA (ix := 0) (vs := vE e A1 k1 A2 k2) (l' := [blk b8 (vE e A1 k1 A2 k2), lp l D a0 true, sl .own ku8 A1 k1 e.Key, sl .own ku8 A2 k2 e.Value, blk b5 [.int .i64 most], blk b7 [.slice Ao out.length ko], sl .own kapi_Entry Ao ko out]) T S rfl rfl rfl rfl (by simp) Try.sizeOf36 (Nat.le_of_ble_eq_true rfl) rfl fun _ S => ?_
  have S' := SL.only (p := [lp l D a0 true, blk b8 (vE e A1 k1 A2 k2), sl .own ku8 A1 k1 e.Key, sl .own ku8 A2 k2 e.Value, blk b5 [.int .i64 most], blk b7 [.slice Ao out.length ko], sl .own kapi_Entry Ao ko out]) [1, 0, 0, 0, 0, 0, 0] S rfl
  refine Gets.begin (L := [blk b8 (vE e A1 k1 A2 k2), sl .own ku8 A1 k1 e.Key, sl .own ku8 A2 k2 e.Value, blk b5 [.int .i64 most], blk b7 [.slice Ao out.length ko], sl .own kapi_Entry Ao ko out] ++ F) S' rfl fun w1 S => ?_
  obtain ⟨bz, hbz⟩ : ∃ bz, bz = ob l (.loop { rdy 9 a0 #[13] rA rB D .ready none with state := .busy }) := ⟨_, rfl⟩
  replace S : SL ([bz, blk b8 (vE e A1 k1 A2 k2), sl .own ku8 A1 k1 e.Key, sl .own ku8 A2 k2 e.Value, blk b5 [.int .i64 most], blk b7 [.slice Ao out.length ko], sl .own kapi_Entry Ao ko out] ++ F) w1 := by rw [hbz]; exact S
  unfold rnd at H
  refine Gets.block (Gets.seq ?_)
  refine rg ?_
  refine r_ldBA (ix := 1) (ds := vE e A1 k1 A2 k2) T S rfl Try.isAgg36 rfl rfl Try.sizeOf36 rfl fun _ T => ?_
  obtain ⟨own, h1, H⟩ := bd H
  refine r_call T Try.call37 rfl rfl (cormorantref04_Copy.ok _ _ e (S.sel (p := [sl .own ku8 A1 k1 e.Key, sl .own ku8 A2 k2 e.Value]) (is := [2, 2]) rfl) _ h1) ?_
  rintro _ _ ⟨A3, k3, A4, k4, rfl, S⟩
  refine ⟨_, rfl, fun _ T => ?_⟩
  replace S : SL ([sl .ro ku8 A3 k3 own.Key, sl .ro ku8 A4 k4 own.Value, sl .own ku8 A1 k1 e.Key, sl .own ku8 A2 k2 e.Value, bz, blk b8 (vE e A1 k1 A2 k2), blk b5 [.int .i64 most], blk b7 [.slice Ao out.length ko], sl .own kapi_Entry Ao ko out] ++ F) _ := S.join
  refine r_alloc T S zv36 (cs := [.slice none 0 0, .int .u64 0, .bool false, .slice none 0 0]) rfl rfl fun _ _ b9 S T => ?_
  refine r_stBA (ix := 0) (vs := vE own A3 k3 A4 k4) (l' := [blk b9 (vE own A3 k3 A4 k4), sl .ro ku8 A3 k3 own.Key, sl .ro ku8 A4 k4 own.Value, sl .own ku8 A1 k1 e.Key, sl .own ku8 A2 k2 e.Value, bz, blk b8 (vE e A1 k1 A2 k2), blk b5 [.int .i64 most], blk b7 [.slice Ao out.length ko], sl .own kapi_Entry Ao ko out]) T S rfl rfl rfl rfl (by simp) Try.sizeOf36 (Nat.le_of_ble_eq_true rfl) rfl fun _ S => ?_
  refine Gets.seq ?_
  refine rg ?_
  refine r_ldB (ix := 8) T S rfl Try.isAgg22 rfl rfl rfl fun _ T => ?_
  refine r_ldBA (ix := 0) (ds := vE own A3 k3 A4 k4) T S rfl Try.isAgg36 rfl rfl Try.sizeOf36 rfl fun _ T => ?_
  replace S : SL ([rp kapi_Entry own (vE own A3 k3 A4 k4), blk b9 (vE own A3 k3 A4 k4), sl .ro ku8 A3 k3 own.Key, sl .ro ku8 A4 k4 own.Value, sl .own ku8 A1 k1 e.Key, sl .own ku8 A2 k2 e.Value, bz, blk b8 (vE e A1 k1 A2 k2), blk b5 [.int .i64 most], blk b7 [.slice Ao out.length ko], sl .own kapi_Entry Ao ko out] ++ F) _ := cl_api_Entry (i0 := 1) (i1 := 2) S rfl rfl
  refine r_bsl (κ := kapi_Entry) (xs := [own]) (vs := [.agg (vE own A3 k3 A4 k4).toArray]) T S sty22 rfl ⟨_, _, rfl, ⟨0, rfl⟩, rfl⟩ rfl (by decide) rfl fun _ _ b10 S T => ?_
  obtain ⟨h2, H⟩ := ck H
  refine r_app (ix := 11) (iy := 0) (xs := out) (ys := [own]) T S rfl rfl rfl rfl (by decide) sty22 Try.runUnderlying22 (by decide) h2 rfl fun _ _ A5 k5 S T => ?_
  replace S : SL ([sl .own kapi_Entry (some ⟨b10, 0, none⟩) 1 [own], rp kapi_Entry own (vE own A3 k3 A4 k4), blk b9 (vE own A3 k3 A4 k4), sl .ro ku8 A3 k3 own.Key, sl .ro ku8 A4 k4 own.Value, sl .own ku8 A1 k1 e.Key, sl .own ku8 A2 k2 e.Value, bz, blk b8 (vE e A1 k1 A2 k2), blk b5 [.int .i64 most], blk b7 [.slice Ao out.length ko], sl .own kapi_Entry A5 k5 (out ++ [own])] ++ F) _ := S
  refine r_stB (ix := 10) (l' := [sl .own kapi_Entry (some ⟨b10, 0, none⟩) 1 [own], rp kapi_Entry own (vE own A3 k3 A4 k4), blk b9 (vE own A3 k3 A4 k4), sl .ro ku8 A3 k3 own.Key, sl .ro ku8 A4 k4 own.Value, sl .own ku8 A1 k1 e.Key, sl .own ku8 A2 k2 e.Value, bz, blk b8 (vE e A1 k1 A2 k2), blk b5 [.int .i64 most], blk b7 [.slice A5 (out ++ [own]).length k5], sl .own kapi_Entry A5 k5 (out ++ [own])]) T S rfl rfl rfl Try.sizeOf22 rfl (Nat.le_of_ble_eq_true rfl) rfl fun _ S => ?_
  refine Gets.seq ?_
  refine rg ?_
  refine r_ldBA (ix := 8) (ds := vE e A1 k1 A2 k2) T S rfl Try.isAgg36 rfl rfl Try.sizeOf36 rfl fun _ T => ?_
  obtain ⟨u, h3, H⟩ := bd H
  refine r_call T Try.call23 rfl rfl (cormorantlaw04_mark.ok _ _ z e (S.sel (p := [sl .own ku8 A1 k1 e.Key, sl .own ku8 A2 k2 e.Value]) (is := [5, 5]) rfl) _ h3) ?_
  rintro _ _ ⟨rfl, S⟩
  refine ⟨_, rfl, fun _ T => ?_⟩
  replace S : SL ([sl .own kapi_Entry (some ⟨b10, 0, none⟩) 1 [own], rp kapi_Entry own (vE own A3 k3 A4 k4), blk b9 (vE own A3 k3 A4 k4), sl .ro ku8 A3 k3 own.Key, sl .ro ku8 A4 k4 own.Value, bz, blk b8 (vE e A1 k1 A2 k2), blk b5 [.int .i64 most], blk b7 [.slice A5 (out ++ [own]).length k5], sl .own kapi_Entry A5 k5 (out ++ [own])] ++ F) _ := S.join
  refine Gets.seq ?_
  refine rg ?_
  refine r_ldB (ix := 8) T S rfl Try.isAgg22 rfl rfl rfl fun _ T => ?_
  refine r_lenS T rfl Try.runUnderlying22 rfl fun _ T => ?_
  refine r_ldB (ix := 7) T S rfl Try.isAgg3 rfl rfl rfl fun _ T => ?_
  refine r_pv T rfl rfl fun _ T => ?_
  have SE := S.only (p := [bz, blk b5 [.int .i64 most], blk b7 [.slice A5 (out ++ [own]).length k5], sl .own kapi_Entry A5 k5 (out ++ [own])]) [5, 6, 6, 6] rfl
  rw [hbz] at SE
  rcases ifE H with ⟨h4, H⟩ | ⟨h4, H⟩
  · refine cdT T rfl h4 ?_
    replace H := Option.some.inj H
    subst H
    exact Gets.roundExit (L := [blk b5 [.int .i64 most], blk b7 [.slice A5 (out ++ [own]).length k5], sl .own kapi_Entry A5 k5 (out ++ [own])] ++ F) SE rfl fun w' S => ⟨A5, k5, rfl, S⟩
  · refine cdF T rfl h4 ?_
    refine Gets.skip (Gets.inBlock ?_)
    replace H := Option.some.inj H
    subst H
    exact Gets.roundEnd (L := [blk b5 [.int .i64 most], blk b7 [.slice A5 (out ++ [own]).length k5], sl .own kapi_Entry A5 k5 (out ++ [own])] ++ F) SE fun w' S => ⟨A5, k5, rfl, S⟩
end cormorantlaw04_scan
end Go.Proofs.Ytghpokmkhlmgcaa

namespace Go.Proofs.Ytghpokmkhlmgcaa
open Go Go.Proofs.Ytghpokmkhlmgcaa.X
set_option linter.unusedVariables false
set_option linter.unusedSimpArgs false
set_option maxRecDepth 100000
set_option maxHeartbeats 4000000
namespace cormorantlaw04_scan
def dRE : RE := ⟨dapi_Entry, none, 0, none, 0⟩
theorem gi_RE (ys : List RE) (j : Int) : gi dapi_Entry (ys.map (·.e)) j = (gi dRE ys j).e := by
  unfold gi
  rw [List.getElem?_map]
  cases ys[j.toNat]? <;> rfl
theorem op_RE {l F : List Atom} {w : World} {y : RE} {cs : List Value} (S : SL ((rp kRE y cs :: l) ++ F) w) : cs = y.cells ∧ SL (l ++ F) w := by
  obtain ⟨G, h, H, a1, a2, a3, d1, d2, d3, g, s⟩ := SL.front S
  exact ⟨g, G, H, a1, a3, d2, s⟩
theorem pls_drop {ys : List RE} {j : Nat} (h : j < ys.length) : own8 (pls (ys.drop j)) = sl .own k8 ys[j].A1 ys[j].k1 ys[j].e.Key :: sl .own k8 ys[j].A2 ys[j].k2 ys[j].e.Value :: own8 (pls (ys.drop (j + 1))) := by
  rw [List.drop_eq_getElem_cons h]
  rfl
theorem SL.pk {L M : List Atom} {w : World} (S : SL (L ++ M) w) : SL (X.pack L :: M) w := by
  obtain ⟨G, H, a, b, c, s⟩ := S
  obtain ⟨h1, h2, e1, e2, e3, s1, s2⟩ := sats_append s
  exact ⟨G, H, a, b, c, h1, h2, e1, e2, e3, s1, s2⟩
theorem SL.pop {ys : List RE} {j : Nat} (h : j < ys.length) {M : List Atom} {w : World} (S : SL (X.pack (own8 (pls (ys.drop j))) :: M) w) :
    SL (sl .own k8 ys[j].A1 ys[j].k1 ys[j].e.Key :: sl .own k8 ys[j].A2 ys[j].k2 ys[j].e.Value :: X.pack (own8 (pls (ys.drop (j + 1)))) :: M) w := by
  have S1 := S.unpack
  rw [pls_drop h] at S1
  have S2 : SL (own8 (pls (ys.drop (j + 1))) ++ (sl .own k8 ys[j].A1 ys[j].k1 ys[j].e.Key :: sl .own k8 ys[j].A2 ys[j].k2 ys[j].e.Value :: M)) w := by
    refine S1.perm ?_
    have := (List.perm_append_comm (l₁ := [sl .own k8 ys[j].A1 ys[j].k1 ys[j].e.Key, sl .own k8 ys[j].A2 ys[j].k2 ys[j].e.Value]) (l₂ := own8 (pls (ys.drop (j + 1))))).append_right M
    simpa using this
  have S3 := SL.pk S2
  exact S3.perm ((List.Perm.swap ..).trans ((List.Perm.swap ..).cons _))
theorem zv22 (w : World) : (zeroValue 22).run Try.prog w = .ok (.slice none 0 0) w := by kernel_rfl
noncomputable def i0 : Code := match Try.f64.body with | some c => c | none => .skip
/-- the entries of a block, one by one -/
def S2 (z : Nat) (most : Int) (from' : List Int) (xs : List api_Entry) (t : sstable_Table) (q : List api_Entry → Option (Bool × sstable_Table × List api_Entry)) : Nat → Int → List api_Entry → Option (Bool × sstable_Table × List api_Entry)
  | 0, _, _ => none
  | m + 1, j, out => If (decide (j < (xs.length : Int))) (Ck (0 ≤ j ∧ j < (xs.length : Int) ∧ j < 4611686018427387904) (Bd (codec_Compare.f (gi dapi_Entry xs j).Key from') fun c => If (decide (c ≥ 0)) (Bd (rnd z most (gi dapi_Entry xs j) out) fun r => If (!r.1) (some (false, t, r.2)) (S2 z most from' xs t q m (wr .i64 (j + 1)) r.2)) (S2 z most from' xs t q m (wr .i64 (j + 1)) out))) (q out)
/-- block by block -/
def S1 (z : Nat) (most : Int) (from' : List Int) : Nat → Int → sstable_Table → List api_Entry → Option (Bool × sstable_Table × List api_Entry)
  | 0, _, _, _ => none
  | m + 1, i, t, out => If (decide (i < (t.blocks.length : Int))) (Bd (sstable_Table_look.f z t i) fun x => S2 z most from' x.1 x.2 (S1 z most from' m (wr .i64 (i + 1)) x.2) z 0 out) (some (true, t, out))
def iter (z : Nat) (t : sstable_Table) (from' : List Int) (most : Int) (out : List api_Entry) : Option (Bool × sstable_Table × List api_Entry) := Bd (sstable_Table_find.f z t from') fun x => S1 z most from' z x.1 x.2 out
def RS (F : List Atom) (from' : List Int) (most : Int) (l D b5 b7 tb fb b : Nat) (a0 : Act) (Af : Option Addr) (kf : Nat) (r : Bool × sstable_Table × List api_Entry) : Ending → World → Prop := fun e w' => ∃ (A3 : Option Addr) (k4 : Nat) (A5 : Option Addr) (k6 : Nat) (A7 : Option Addr) (k8 : Nat) (Ao : Option Addr) (ko : Nat), e = .returned (.tuple #[]) ∧ SL ([lp l D a0 r.1, blk tb [.pointer (some ⟨b, 0, none⟩)], blk fb [.slice Af from'.length kf], sl .ro ku8 Af kf from', blk b [.slice A3 r.2.1.b.length k4, .slice A5 r.2.1.blocks.length k6, .slice A7 r.2.1.filter.length k8, .int .i64 r.2.1.count, .int .i64 r.2.1.reads], sl .ro ku8 A3 k4 r.2.1.b, sl .ro ksstable_block A5 k6 r.2.1.blocks, sl .ro ku8 A7 k8 r.2.1.filter, blk b5 [.int .i64 most], blk b7 [.slice Ao r.2.2.length ko], sl .own kapi_Entry Ao ko r.2.2] ++ F) w'
noncomputable def pt1 : List Item := [.code (cB (cB (cR i0))), .inLoop (cB (cB (cR i0))), .inBlock 0]
noncomputable def pt2 : List Item := [.code (cB (cB (cR (cB (cL (cR (cB (cB (cR i0))))))))), .inLoop (cB (cB (cR (cB (cL (cR (cB (cB (cR i0))))))))), .inBlock 2, .inBlock 1, .code (cR (cR (cB (cB (cR i0))))), .inLoop (cB (cB (cR i0))), .inBlock 0]
theorem S2_ok (F : List Atom) (r : Bool × sstable_Table × List api_Entry) (z : Nat) (from' : List Int) (most : Int) {l D b5 b7 tb fb b : Nat} {a0 : Act} {Af : Option Addr} {kf : Nat} (T0 : Tm 27 [(5, .pointer (some ⟨b5, 0, none⟩)), (7, .pointer (some ⟨b7, 0, none⟩))] a0)
    (i : Int) (t : sstable_Table) {A3 A5 A7 A : Option Addr} {k4 k6 k8 k : Nat} (ys : List RE) (q : List api_Entry → Option (Bool × sstable_Table × List api_Entry))
    (hq : ∀ (Ao : Option Addr) (ko : Nat) (out : List api_Entry) (a : Act) (w : World), Tm 39 [(0, .func (.yield l) #[] #[]), (1, .pointer (some ⟨tb, 0, none⟩)), (2, .pointer (some ⟨fb, 0, none⟩)), (4, .int .i64 (wr .i64 (i + 1)))] a → SL ([lp l D a0 true, blk tb [.pointer (some ⟨b, 0, none⟩)], blk fb [.slice Af from'.length kf], sl .ro ku8 Af kf from', blk b [.slice A3 t.b.length k4, .slice A5 t.blocks.length k6, .slice A7 t.filter.length k8, .int .i64 t.count, .int .i64 t.reads], sl .ro ku8 A3 k4 t.b, sl .ro ksstable_block A5 k6 t.blocks, sl .ro ku8 A7 k8 t.filter, blk b5 [.int .i64 most], blk b7 [.slice Ao out.length ko], sl .own kapi_Entry Ao ko out] ++ F) w → q out = some r → Gets Try.prog 64 pt1 a w (RS F from' most l D b5 b7 tb fb b a0 Af kf r)) (m : Nat) :
    ∀ (j : Nat) (out : List api_Entry) (Ao : Option Addr) (ko : Nat) (a : Act) (w : World), Tm 39 [(0, .func (.yield l) #[] #[]), (1, .pointer (some ⟨tb, 0, none⟩)), (2, .pointer (some ⟨fb, 0, none⟩)), (4, .int .i64 i), (21, .slice A ys.length k), (22, .int .i64 (ys.length : Int)), (23, .int .i64 (j : Int))] a →
      SL ([lp l D a0 true, blk tb [.pointer (some ⟨b, 0, none⟩)], blk fb [.slice Af from'.length kf], sl .ro ku8 Af kf from', blk b [.slice A3 t.b.length k4, .slice A5 t.blocks.length k6, .slice A7 t.filter.length k8, .int .i64 t.count, .int .i64 t.reads], sl .ro ku8 A3 k4 t.b, sl .ro ksstable_block A5 k6 t.blocks, sl .ro ku8 A7 k8 t.filter, blk b5 [.int .i64 most], blk b7 [.slice Ao out.length ko], sl .own kapi_Entry Ao ko out, sl .own kRE A k ys, pack (own8 (pls (ys.drop j)))] ++ F) w → S2 z most from' (ys.map (·.e)) t q m (j : Int) out = some r → Gets Try.prog 64 pt2 a w (RS F from' most l D b5 b7 tb fb b a0 Af kf r) := by
  induction m with
  | zero => intro _ _ _ _ _ _ _ _ H; cases H
  | succ m ih =>
    intro j out Ao ko a w T S H
    unfold S2 at H
    rw [List.length_map] at H
    refine Gets.seq ?_
    refine rg ?_
    refine r_pv T rfl rfl fun _ T => ?_
    refine Gets.seq ?_
    rcases ifE H with ⟨h1, H⟩ | ⟨h1, H⟩
    · refine cdT T rfl h1 ?_
      refine Gets.skip (Gets.seq (Gets.block (Gets.seq ?_)))
      obtain ⟨h2, H⟩ := ck H
      have hjl : j < ys.length := by omega
      refine rg ?_
      refine r_ia (ix := 11) T S rfl rfl rfl rfl Try.runUnderlying22 Try.sizeOf36 h2.1 h2.2.1 rfl fun _ T => ?_
      refine r_ldEA (ix := 11) (i := (j : Int)) (off := 0) T S rfl rfl Try.isAgg36 Try.sizeOf36 dRE rfl (Fld.all _) h2.1 h2.2.1 rfl fun _ _ S T => ?_
      obtain ⟨hv_, S_⟩ := op_RE S
      subst hv_
      replace S := S_
      rw [gi_RE] at H
      have hgi : gi dRE ys (j : Int) = ys[j] := by unfold gi; rw [Int.toNat_natCast, List.getElem?_eq_getElem hjl]; rfl
      rw [hgi] at H
      have hcells : (RE.cells (gi dRE ys (j : Int))) = vE ys[j].e ys[j].A1 ys[j].k1 ys[j].A2 ys[j].k2 := by rw [hgi]; rfl
      replace T := T.re (s := 26) (v' := .agg (vE ys[j].e ys[j].A1 ys[j].k1 ys[j].A2 ys[j].k2).toArray) rfl (by show Value.agg (RE.cells (gi dRE ys (j : Int))).toArray = _; rw [hcells])
      have SP := S.only (p := [pack (own8 (pls (ys.drop j))), lp l D a0 true, blk tb [.pointer (some ⟨b, 0, none⟩)], blk fb [.slice Af from'.length kf], sl .ro ku8 Af kf from', blk b [.slice A3 t.b.length k4, .slice A5 t.blocks.length k6, .slice A7 t.filter.length k8, .int .i64 t.count, .int .i64 t.reads], sl .ro ku8 A3 k4 t.b, sl .ro ksstable_block A5 k6 t.blocks, sl .ro ku8 A7 k8 t.filter, blk b5 [.int .i64 most], blk b7 [.slice Ao out.length ko], sl .own kapi_Entry Ao ko out, sl .own kRE A k ys]) [12, 0, 0, 0, 0, 0, 0, 0, 0, 0, 0, 0, 0] rfl
      have SQ := SL.pop hjl SP
      clear SP S S_ hgi hcells
      generalize ys[j] = y at H T SQ
      obtain ⟨ye, yA1, yk1, yA2, yk2⟩ := y
      simp only at H T SQ
      replace S := SL.only (l := [sl .own ku8 yA1 yk1 ye.Key, sl .own ku8 yA2 yk2 ye.Value, pack (own8 (pls (ys.drop (j + 1)))), lp l D a0 true, blk tb [.pointer (some ⟨b, 0, none⟩)], blk fb [.slice Af from'.length kf], sl .ro ku8 Af kf from', blk b [.slice A3 t.b.length k4, .slice A5 t.blocks.length k6, .slice A7 t.filter.length k8, .int .i64 t.count, .int .i64 t.reads], sl .ro ku8 A3 k4 t.b, sl .ro ksstable_block A5 k6 t.blocks, sl .ro ku8 A7 k8 t.filter, blk b5 [.int .i64 most], blk b7 [.slice Ao out.length ko], sl .own kapi_Entry Ao ko out, sl .own kRE A k ys]) (F := F) (p := [lp l D a0 true, blk tb [.pointer (some ⟨b, 0, none⟩)], blk fb [.slice Af from'.length kf], sl .ro ku8 Af kf from', blk b [.slice A3 t.b.length k4, .slice A5 t.blocks.length k6, .slice A7 t.filter.length k8, .int .i64 t.count, .int .i64 t.reads], sl .ro ku8 A3 k4 t.b, sl .ro ksstable_block A5 k6 t.blocks, sl .ro ku8 A7 k8 t.filter, blk b5 [.int .i64 most], blk b7 [.slice Ao out.length ko], sl .own kapi_Entry Ao ko out, sl .own kRE A k ys, pack (own8 (pls (ys.drop (j + 1)))), sl .own ku8 yA1 yk1 ye.Key, sl .own ku8 yA2 yk2 ye.Value]) [3, 3, 3, 3, 3, 3, 3, 3, 3, 3, 3, 3, 2, 0, 0] SQ rfl
      refine r_alloc T S zv36 (cs := [.slice none 0 0, .int .u64 0, .bool false, .slice none 0 0]) rfl rfl fun _ _ b6 S T => ?_
      refine r_stBA (ix := 0) (vs := vE ye yA1 yk1 yA2 yk2) (l' := [blk b6 (vE ye yA1 yk1 yA2 yk2), lp l D a0 true, blk tb [.pointer (some ⟨b, 0, none⟩)], blk fb [.slice Af from'.length kf], sl .ro ku8 Af kf from', blk b [.slice A3 t.b.length k4, .slice A5 t.blocks.length k6, .slice A7 t.filter.length k8, .int .i64 t.count, .int .i64 t.reads], sl .ro ku8 A3 k4 t.b, sl .ro ksstable_block A5 k6 t.blocks, sl .ro ku8 A7 k8 t.filter, blk b5 [.int .i64 most], blk b7 [.slice Ao out.length ko], sl .own kapi_Entry Ao ko out, sl .own kRE A k ys, pack (own8 (pls (ys.drop (j + 1)))), sl .own ku8 yA1 yk1 ye.Key, sl .own ku8 yA2 yk2 ye.Value]) T S rfl rfl rfl rfl (by simp) Try.sizeOf36 (Nat.le_of_ble_eq_true rfl) rfl fun _ S => ?_
      refine Gets.seq ?_
      refine rg ?_
      refine r_fa (o' := 0) T rfl Try.runUnderlying36 rfl Try.sizeOf24 rfl rfl fun _ T => ?_
      refine r_ldB (ix := 0) T S rfl Try.isAgg24 rfl rfl rfl fun _ T => ?_
      refine r_ldB (ix := 3) T S rfl Try.isAgg24 rfl rfl rfl fun _ T => ?_
      obtain ⟨c, h3, H⟩ := bd H
      refine r_call T Try.call38 rfl rfl (codec_Compare.ok _ _ ye.Key from' (S.sel (p := [sl .own ku8 yA1 yk1 ye.Key, sl .ro ku8 Af kf from']) (is := [14, 4]) rfl) _ h3) ?_
      rintro _ _ ⟨rfl, S⟩
      refine ⟨_, rfl, fun _ T => ?_⟩
      replace S : SL ([sl .own ku8 yA1 yk1 ye.Key, sl .ro ku8 Af kf from', blk b6 (vE ye yA1 yk1 yA2 yk2), lp l D a0 true, blk tb [.pointer (some ⟨b, 0, none⟩)], blk fb [.slice Af from'.length kf], blk b [.slice A3 t.b.length k4, .slice A5 t.blocks.length k6, .slice A7 t.filter.length k8, .int .i64 t.count, .int .i64 t.reads], sl .ro ku8 A3 k4 t.b, sl .ro ksstable_block A5 k6 t.blocks, sl .ro ku8 A7 k8 t.filter, blk b5 [.int .i64 most], blk b7 [.slice Ao out.length ko], sl .own kapi_Entry Ao ko out, sl .own kRE A k ys, pack (own8 (pls (ys.drop (j + 1)))), sl .own ku8 yA2 yk2 ye.Value] ++ F) _ := S.join
      refine r_pv T rfl rfl fun _ T => ?_
      refine r_pv T rfl rfl fun _ T => ?_
      have next : ∀ (out' : List api_Entry) (Ao : Option Addr) (ko : Nat) (a : Act) (w : World), Tm 39 [(0, .func (.yield l) #[] #[]), (1, .pointer (some ⟨tb, 0, none⟩)), (2, .pointer (some ⟨fb, 0, none⟩)), (4, .int .i64 i), (21, .slice A ys.length k), (22, .int .i64 (ys.length : Int)), (23, .int .i64 (j : Int))] a →
          SL ([lp l D a0 true, blk tb [.pointer (some ⟨b, 0, none⟩)], blk fb [.slice Af from'.length kf], sl .ro ku8 Af kf from', blk b [.slice A3 t.b.length k4, .slice A5 t.blocks.length k6, .slice A7 t.filter.length k8, .int .i64 t.count, .int .i64 t.reads], sl .ro ku8 A3 k4 t.b, sl .ro ksstable_block A5 k6 t.blocks, sl .ro ku8 A7 k8 t.filter, blk b5 [.int .i64 most], blk b7 [.slice Ao out'.length ko], sl .own kapi_Entry Ao ko out', sl .own kRE A k ys, pack (own8 (pls (ys.drop (j + 1))))] ++ F) w → S2 z most from' (ys.map (·.e)) t q m (wr .i64 ((j : Int) + 1)) out' = some r →
          Gets Try.prog 64 (.inBlock 3 :: .code (cR (cR (cR (cB (cB (cR (cB (cL (cR (cB (cB (cR i0)))))))))))) :: pt2.tail) a w (RS F from' most l D b5 b7 tb fb b a0 Af kf r) := by
        intro out' Ao ko a w T S H
        refine Gets.inBlock ?_
        refine rg ?_
        refine r_pv T rfl rfl fun _ T => ?_
        refine r_pv T rfl rfl fun _ T => ?_
        refine Gets.inLoop ?_
        have hw : wr .i64 ((j : Int) + 1) = ((j + 1 : Nat) : Int) := by
          show IntKind.wrap _ _ = _
          rw [IntWalk.i64_in _ (by omega)]
          rfl
        rw [hw] at H T
        exact ih (j + 1) out' Ao ko _ _ (T.sub ⟨rfl, rfl, rfl, rfl, rfl, rfl, rfl, trivial⟩) S H
      rcases ifE H with ⟨h4, H⟩ | ⟨h4, H⟩
      · refine g_yes T rfl rfl h4 ?_
        refine r_pv T rfl rfl fun _ T => ?_
        refine g_yes T rfl rfl h4 ?_
        refine r_ldBA (ix := 2) (ds := vE ye yA1 yk1 yA2 yk2) T S rfl Try.isAgg36 rfl rfl Try.sizeOf36 rfl fun _ T => ?_
        refine g_yes T rfl rfl h4 ?_
        obtain ⟨x, h5, H⟩ := bd H
        refine r_yield T rfl rfl rfl (rnd_ok _ _ z most ye out T0 (S.sel (p := [lp l D a0 true, sl .own ku8 yA1 yk1 ye.Key, sl .own ku8 yA2 yk2 ye.Value, blk b5 [.int .i64 most], blk b7 [.slice Ao out.length ko], sl .own kapi_Entry Ao ko out]) (is := [3, 0, 13, 8, 8, 8]) rfl) _ h5) ?_
        rintro _ _ ⟨Ao', ko', rfl, S⟩
        refine ⟨_, rfl, fun _ T => ?_⟩
        replace S : SL ([lp l D a0 x.1, blk b5 [.int .i64 most], blk b7 [.slice Ao' x.2.length ko'], sl .own kapi_Entry Ao' ko' x.2, sl .ro ku8 Af kf from', blk b6 (vE ye yA1 yk1 yA2 yk2), blk tb [.pointer (some ⟨b, 0, none⟩)], blk fb [.slice Af from'.length kf], blk b [.slice A3 t.b.length k4, .slice A5 t.blocks.length k6, .slice A7 t.filter.length k8, .int .i64 t.count, .int .i64 t.reads], sl .ro ku8 A3 k4 t.b, sl .ro ksstable_block A5 k6 t.blocks, sl .ro ku8 A7 k8 t.filter, sl .own kRE A k ys, pack (own8 (pls (ys.drop (j + 1))))] ++ F) _ := S.join
        refine g_yes T rfl rfl h4 ?_
        refine r_pv T rfl rfl fun _ T => ?_
        refine r_pickT T rfl h4 rfl rfl fun _ T => ?_
        rcases ifE H with ⟨h6, H⟩ | ⟨h6, H⟩
        · refine cdT T rfl h6 ?_
          replace H := Option.some.inj H
          subst H
          have h6' : x.1 = false := by simpa using h6
          rw [h6'] at S
          exact rtn T Try.func64 rfl rfl ⟨A3, k4, A5, k6, A7, k8, Ao', ko', rfl, S.only (p := [lp l D a0 false, blk tb [.pointer (some ⟨b, 0, none⟩)], blk fb [.slice Af from'.length kf], sl .ro ku8 Af kf from', blk b [.slice A3 t.b.length k4, .slice A5 t.blocks.length k6, .slice A7 t.filter.length k8, .int .i64 t.count, .int .i64 t.reads], sl .ro ku8 A3 k4 t.b, sl .ro ksstable_block A5 k6 t.blocks, sl .ro ku8 A7 k8 t.filter, blk b5 [.int .i64 most], blk b7 [.slice Ao' x.2.length ko'], sl .own kapi_Entry Ao' ko' x.2]) [0, 5, 5, 3, 4, 4, 4, 4, 0, 0, 0] rfl⟩
        · refine cdF T rfl h6 ?_
          have h6' : x.1 = true := by simpa using h6
          rw [h6'] at S
          refine Gets.skip ?_
          exact next x.2 Ao' ko' _ _ (T.sub ⟨rfl, rfl, rfl, rfl, rfl, rfl, rfl, trivial⟩) (S.only (p := [lp l D a0 true, blk tb [.pointer (some ⟨b, 0, none⟩)], blk fb [.slice Af from'.length kf], sl .ro ku8 Af kf from', blk b [.slice A3 t.b.length k4, .slice A5 t.blocks.length k6, .slice A7 t.filter.length k8, .int .i64 t.count, .int .i64 t.reads], sl .ro ku8 A3 k4 t.b, sl .ro ksstable_block A5 k6 t.blocks, sl .ro ku8 A7 k8 t.filter, blk b5 [.int .i64 most], blk b7 [.slice Ao' x.2.length ko'], sl .own kapi_Entry Ao' ko' x.2, sl .own kRE A k ys, pack (own8 (pls (ys.drop (j + 1))))]) [0, 5, 5, 3, 4, 4, 4, 4, 0, 0, 0, 1, 1] rfl) H
      · refine g_no T rfl rfl h4 rfl fun _ T => ?_
        refine g_no T rfl rfl h4 rfl fun _ T => ?_
        refine g_no T rfl rfl h4 rfl fun _ T => ?_
        refine g_no T rfl rfl h4 rfl fun _ T => ?_
        refine r_pickF T rfl h4 rfl rfl fun _ T => ?_
        refine cdF T rfl rfl ?_
        refine Gets.skip ?_
        exact next out Ao ko _ _ (T.sub ⟨rfl, rfl, rfl, rfl, rfl, rfl, rfl, trivial⟩) (S.only (p := [lp l D a0 true, blk tb [.pointer (some ⟨b, 0, none⟩)], blk fb [.slice Af from'.length kf], sl .ro ku8 Af kf from', blk b [.slice A3 t.b.length k4, .slice A5 t.blocks.length k6, .slice A7 t.filter.length k8, .int .i64 t.count, .int .i64 t.reads], sl .ro ku8 A3 k4 t.b, sl .ro ksstable_block A5 k6 t.blocks, sl .ro ku8 A7 k8 t.filter, blk b5 [.int .i64 most], blk b7 [.slice Ao out.length ko], sl .own kapi_Entry Ao ko out, sl .own kRE A k ys, pack (own8 (pls (ys.drop (j + 1))))]) [3, 3, 3, 1, 2, 2, 2, 2, 2, 2, 2, 2, 2] rfl) H
    · refine cdF T rfl h1 ?_
      refine Gets.exit rfl (Gets.inBlock ?_)
      refine rg ?_
      refine r_pv T rfl rfl fun _ T => ?_
      refine r_pv T rfl rfl fun _ T => ?_
      refine r_pv T rfl rfl fun _ T => ?_
      refine Gets.inLoop ?_
      exact hq Ao ko out _ _ (T.sub ⟨rfl, rfl, rfl, rfl, trivial⟩) (S.only (p := [lp l D a0 true, blk tb [.pointer (some ⟨b, 0, none⟩)], blk fb [.slice Af from'.length kf], sl .ro ku8 Af kf from', blk b [.slice A3 t.b.length k4, .slice A5 t.blocks.length k6, .slice A7 t.filter.length k8, .int .i64 t.count, .int .i64 t.reads], sl .ro ku8 A3 k4 t.b, sl .ro ksstable_block A5 k6 t.blocks, sl .ro ku8 A7 k8 t.filter, blk b5 [.int .i64 most], blk b7 [.slice Ao out.length ko], sl .own kapi_Entry Ao ko out]) [0, 0, 0, 0, 0, 0, 0, 0, 0, 0, 0] rfl) H
theorem S1_ok (F : List Atom) (r : Bool × sstable_Table × List api_Entry) (z : Nat) (from' : List Int) (most : Int) {l D b5 b7 tb fb b : Nat} {a0 : Act} {Af : Option Addr} {kf : Nat} (T0 : Tm 27 [(5, .pointer (some ⟨b5, 0, none⟩)), (7, .pointer (some ⟨b7, 0, none⟩))] a0) (m : Nat) :
    ∀ (i : Int) (t : sstable_Table) (out : List api_Entry) (A3 : Option Addr) (k4 : Nat) (A5 : Option Addr) (k6 : Nat) (A7 : Option Addr) (k8 : Nat) (Ao : Option Addr) (ko : Nat) (a : Act) (w : World), Tm 39 [(0, .func (.yield l) #[] #[]), (1, .pointer (some ⟨tb, 0, none⟩)), (2, .pointer (some ⟨fb, 0, none⟩)), (4, .int .i64 i)] a →
      SL ([lp l D a0 true, blk tb [.pointer (some ⟨b, 0, none⟩)], blk fb [.slice Af from'.length kf], sl .ro ku8 Af kf from', blk b [.slice A3 t.b.length k4, .slice A5 t.blocks.length k6, .slice A7 t.filter.length k8, .int .i64 t.count, .int .i64 t.reads], sl .ro ku8 A3 k4 t.b, sl .ro ksstable_block A5 k6 t.blocks, sl .ro ku8 A7 k8 t.filter, blk b5 [.int .i64 most], blk b7 [.slice Ao out.length ko], sl .own kapi_Entry Ao ko out] ++ F) w → S1 z most from' m i t out = some r → Gets Try.prog 64 pt1 a w (RS F from' most l D b5 b7 tb fb b a0 Af kf r) := by
  induction m with
  | zero => intro _ _ _ _ _ _ _ _ _ _ _ _ _ _ _ H; cases H
  | succ m ih =>
    intro i t out A3 k4 A5 k6 A7 k8 Ao ko a w T S H
    unfold S1 at H
    refine Gets.seq (Gets.seq ?_)
    refine rg ?_
    refine r_pv T rfl rfl fun _ T => ?_
    refine r_ldB (ix := 1) T S rfl Try.isAgg28 rfl rfl rfl fun _ T => ?_
    refine r_pv T rfl rfl fun _ T => ?_
    refine r_fa (o' := 1) T rfl Try.runUnderlying69 rfl Try.sizeOf67 rfl rfl fun _ T => ?_
    refine r_ldB (ix := 4) T S rfl Try.isAgg67 rfl rfl rfl fun _ T => ?_
    refine r_lenS T rfl Try.runUnderlying67 rfl fun _ T => ?_
    refine r_pv T rfl rfl fun _ T => ?_
    rcases ifE H with ⟨h1, H⟩ | ⟨h1, H⟩
    · refine cdT T rfl h1 ?_
      refine Gets.skip (Gets.seq (Gets.block (Gets.seq ?_)))
      refine rg ?_
      refine r_ldB (ix := 1) T S rfl Try.isAgg28 rfl rfl rfl fun _ T => ?_
      refine r_pv T rfl rfl fun _ T => ?_
      obtain ⟨x, h2, H⟩ := bd H
      refine r_call T Try.call41 rfl rfl (sstable_Table_look.okD _ _ z t i (S.sel (p := [blk b [.slice A3 t.b.length k4, .slice A5 t.blocks.length k6, .slice A7 t.filter.length k8, .int .i64 t.count, .int .i64 t.reads], sl .ro ku8 A3 k4 t.b, sl .ro ksstable_block A5 k6 t.blocks, sl .ro ku8 A7 k8 t.filter]) (is := [4, 4, 4, 4]) rfl) _ h2) ?_
      rintro _ _ ⟨ys, A9, k9, A3', k4', A5', k6', A7', k8', hys, rfl, S⟩
      refine ⟨_, rfl, fun _ T => ?_⟩
      replace S : SL ([sl .own kRE A9 k9 ys, blk b [.slice A3' x.2.b.length k4', .slice A5' x.2.blocks.length k6', .slice A7' x.2.filter.length k8', .int .i64 x.2.count, .int .i64 x.2.reads], sl .ro ku8 A3' k4' x.2.b, sl .ro ksstable_block A5' k6' x.2.blocks, sl .ro ku8 A7' k8' x.2.filter, pack (own8 (pls ys)), lp l D a0 true, blk tb [.pointer (some ⟨b, 0, none⟩)], blk fb [.slice Af from'.length kf], sl .ro ku8 Af kf from', blk b5 [.int .i64 most], blk b7 [.slice Ao out.length ko], sl .own kapi_Entry Ao ko out] ++ F) _ := S.join
      refine r_lenS T rfl Try.runUnderlying22 rfl fun _ T => ?_
      refine r_pv T rfl rfl fun _ T => ?_
      refine Gets.block (Gets.loop ?_)
      rw [hys] at H
      refine S2_ok F r z from' most T0 i x.2 (A3 := A3') (k4 := k4') (A5 := A5') (k6 := k6') (A7 := A7') (k8 := k8') ys (S1 z most from' m (wr .i64 (i + 1)) x.2) (fun Ao ko out a w T S H => ih (wr .i64 (i + 1)) x.2 out A3' k4' A5' k6' A7' k8' Ao ko a w T S H) z 0 out Ao ko _ _ (T.sub ⟨rfl, rfl, rfl, rfl, rfl, rfl, rfl, trivial⟩)
        (S.only (p := [lp l D a0 true, blk tb [.pointer (some ⟨b, 0, none⟩)], blk fb [.slice Af from'.length kf], sl .ro ku8 Af kf from', blk b [.slice A3' x.2.b.length k4', .slice A5' x.2.blocks.length k6', .slice A7' x.2.filter.length k8', .int .i64 x.2.count, .int .i64 x.2.reads], sl .ro ku8 A3' k4' x.2.b, sl .ro ksstable_block A5' k6' x.2.blocks, sl .ro ku8 A7' k8' x.2.filter, blk b5 [.int .i64 most], blk b7 [.slice Ao out.length ko], sl .own kapi_Entry Ao ko out, sl .own kRE A9 k9 ys, pack (own8 (pls (ys.drop 0)))]) [6, 6, 6, 6, 1, 1, 1, 1, 2, 2, 2, 0, 0] rfl) H
    · refine cdF T rfl h1 ?_
      refine Gets.exit rfl ?_
      replace H := Option.some.inj H
      subst H
      exact rtf T Try.func64 rfl rfl ⟨A3, k4, A5, k6, A7, k8, Ao, ko, rfl, S.only (p := [lp l D a0 true, blk tb [.pointer (some ⟨b, 0, none⟩)], blk fb [.slice Af from'.length kf], sl .ro ku8 Af kf from', blk b [.slice A3 t.b.length k4, .slice A5 t.blocks.length k6, .slice A7 t.filter.length k8, .int .i64 t.count, .int .i64 t.reads], sl .ro ku8 A3 k4 t.b, sl .ro ksstable_block A5 k6 t.blocks, sl .ro ku8 A7 k8 t.filter, blk b5 [.int .i64 most], blk b7 [.slice Ao out.length ko], sl .own kapi_Entry Ao ko out]) [0, 0, 0, 0, 0, 0, 0, 0, 0, 0, 0] rfl⟩
theorem iter_ok (F : List Atom) (w : World) (z : Nat) (t : sstable_Table) (from' : List Int) (most : Int) (out : List api_Entry) {l D b5 b7 tb fb b : Nat} {a0 : Act} {Af A3 A5 A7 Ao : Option Addr} {kf k4 k6 k8 ko : Nat} (T0 : Tm 27 [(5, .pointer (some ⟨b5, 0, none⟩)), (7, .pointer (some ⟨b7, 0, none⟩))] a0)
    (S : SL ([lp l D a0 true, blk tb [.pointer (some ⟨b, 0, none⟩)], blk fb [.slice Af from'.length kf], sl .ro ku8 Af kf from', blk b [.slice A3 t.b.length k4, .slice A5 t.blocks.length k6, .slice A7 t.filter.length k8, .int .i64 t.count, .int .i64 t.reads], sl .ro ku8 A3 k4 t.b, sl .ro ksstable_block A5 k6 t.blocks, sl .ro ku8 A7 k8 t.filter, blk b5 [.int .i64 most], blk b7 [.slice Ao out.length ko], sl .own kapi_Entry Ao ko out] ++ F) w) (r : Bool × sstable_Table × List api_Entry) (H : iter z t from' most out = some r) :
    Calls Try.prog 64 #[.func (.yield l) #[] #[], .pointer (some ⟨tb, 0, none⟩), .pointer (some ⟨fb, 0, none⟩)] w (RS F from' most l D b5 b7 tb fb b a0 Af kf r) := by
  refine enter (vs := [.func (.yield l) #[] #[], .pointer (some ⟨tb, 0, none⟩), .pointer (some ⟨fb, 0, none⟩)]) Try.func64 rfl Try.ntmps64 (Nat.le_of_ble_eq_true rfl) fun a T => ?_
  unfold iter at H
  refine Gets.seq ?_
  refine rg ?_
  refine r_ldB (ix := 1) T S rfl Try.isAgg28 rfl rfl rfl fun _ T => ?_
  refine r_ldB (ix := 2) T S rfl Try.isAgg24 rfl rfl rfl fun _ T => ?_
  obtain ⟨x, h1, H⟩ := bd H
  refine r_call T Try.call40 rfl rfl (sstable_Table_find.ok _ _ z t from' (S.sel (p := [blk b [.slice A3 t.b.length k4, .slice A5 t.blocks.length k6, .slice A7 t.filter.length k8, .int .i64 t.count, .int .i64 t.reads], sl .ro ku8 A3 k4 t.b, sl .ro ksstable_block A5 k6 t.blocks, sl .ro ku8 A7 k8 t.filter, sl .ro ku8 Af kf from']) (is := [4, 4, 4, 4, 3]) rfl) _ h1) ?_
  rintro _ _ ⟨A3', k4', A5', k6', A7', k8', rfl, S⟩
  refine ⟨_, rfl, fun _ T => ?_⟩
  replace S : SL ([blk b [.slice A3' x.2.b.length k4', .slice A5' x.2.blocks.length k6', .slice A7' x.2.filter.length k8', .int .i64 x.2.count, .int .i64 x.2.reads], sl .ro ku8 A3' k4' x.2.b, sl .ro ksstable_block A5' k6' x.2.blocks, sl .ro ku8 A7' k8' x.2.filter, sl .ro ku8 Af kf from', lp l D a0 true, blk tb [.pointer (some ⟨b, 0, none⟩)], blk fb [.slice Af from'.length kf], blk b5 [.int .i64 most], blk b7 [.slice Ao out.length ko], sl .own kapi_Entry Ao ko out] ++ F) _ := S.join
  refine r_pv T rfl rfl fun _ T => ?_
  refine Gets.block (Gets.loop ?_)
  exact S1_ok F r z from' most T0 z x.1 x.2 out A3' k4' A5' k6' A7' k8' Ao ko _ _ (T.sub ⟨rfl, rfl, rfl, rfl, trivial⟩) (S.only (p := [lp l D a0 true, blk tb [.pointer (some ⟨b, 0, none⟩)], blk fb [.slice Af from'.length kf], sl .ro ku8 Af kf from', blk b [.slice A3' x.2.b.length k4', .slice A5' x.2.blocks.length k6', .slice A7' x.2.filter.length k8', .int .i64 x.2.count, .int .i64 x.2.reads], sl .ro ku8 A3' k4' x.2.b, sl .ro ksstable_block A5' k6' x.2.blocks, sl .ro ku8 A7' k8' x.2.filter, blk b5 [.int .i64 most], blk b7 [.slice Ao out.length ko], sl .own kapi_Entry Ao ko out]) [5, 5, 5, 4, 0, 0, 0, 0, 0, 0, 0] rfl) H
/-- Scan itself: the iterator's value -/
theorem Scan_ok (F : List Atom) (w : World) (b : Nat) (from' : List Int) {m : Md} {A : Option Addr} {k : Nat} (S : SL ([sl m ku8 A k from'] ++ F) w) (r : List Int) (H : bytes_Clone.f from' = some r) :
    Calls Try.prog 36 #[.pointer (some ⟨b, 0, none⟩), .slice A from'.length k] w (fun e w' => ∃ (tb fb : Nat) (Af : Option Addr) (kf : Nat), e = .returned (.func (.func 64) #[] #[.pointer (some ⟨tb, 0, none⟩), .pointer (some ⟨fb, 0, none⟩)]) ∧ SL ([blk tb [.pointer (some ⟨b, 0, none⟩)], blk fb [.slice Af r.length kf], sl .own ku8 Af kf r, sl m ku8 A k from'] ++ F) w') := by
  refine enter (vs := [.pointer (some ⟨b, 0, none⟩), .slice A from'.length k]) Try.func36 rfl Try.ntmps36 (Nat.le_of_ble_eq_true rfl) fun a T => ?_
  refine Gets.seq ?_
  refine rg ?_
  refine r_box T S rfl (cs := [.pointer (some ⟨b, 0, none⟩)]) rfl rfl fun _ _ tb S T => ?_
  refine r_box T S rfl (cs := [.slice A from'.length k]) rfl rfl fun _ _ fb S T => ?_
  refine r_pv T rfl rfl fun _ T => ?_
  refine Gets.seq ?_
  refine rg ?_
  refine r_ldB (ix := 0) T S rfl Try.isAgg24 rfl rfl rfl fun _ T => ?_
  refine r_call T Try.call32 rfl rfl (bytes_Clone.ok _ _ from' (S.sel (p := [sl m ku8 A k from']) (is := [2]) rfl) _ H) ?_
  rintro _ _ ⟨A2, k2, rfl, S⟩
  refine ⟨_, rfl, fun _ T => ?_⟩
  replace S : SL ([sl .own ku8 A2 k2 r, sl m ku8 A k from', blk fb [.slice A from'.length k], blk tb [.pointer (some ⟨b, 0, none⟩)]] ++ F) _ := S.join
  refine r_stB (ix := 2) (l' := [sl .own ku8 A2 k2 r, sl m ku8 A k from', blk fb [.slice A2 r.length k2], blk tb [.pointer (some ⟨b, 0, none⟩)]]) T S rfl rfl rfl Try.sizeOf24 rfl (Nat.le_of_ble_eq_true rfl) rfl fun _ S => ?_
  refine Gets.seq ?_
  refine rg ?_
  refine r_pv T rfl rfl fun _ T => ?_
  refine r_pv T rfl rfl fun _ T => ?_
  exact rtn T Try.func36 rfl rfl ⟨tb, fb, A2, k2, rfl, S.only (p := [blk tb [.pointer (some ⟨b, 0, none⟩)], blk fb [.slice A2 r.length k2], sl .own ku8 A2 k2 r, sl m ku8 A k from']) [3, 2, 0, 0] rfl⟩
/-- scan: the first entries that a table tells from a key on -/
def f (z : Nat) (t : sstable_Table) (from' : List Int) (most : Int) : Option (List api_Entry × sstable_Table) := Bd (bytes_Clone.f from') fun fr => Bd (iter z t fr most []) fun x => some (x.2.2, x.2.1)
def R (F : List Atom) (b : Nat) (from' : List Int) (m : Md) (A : Option Addr) (k : Nat) (r : List api_Entry × sstable_Table) : Ending → World → Prop := fun e w' => ∃ (Ao : Option Addr) (ko : Nat) (A3 : Option Addr) (k4 : Nat) (A5 : Option Addr) (k6 : Nat) (A7 : Option Addr) (k8 : Nat), e = .returned (.slice Ao r.1.length ko) ∧ SL ([sl .own kapi_Entry Ao ko r.1, blk b [.slice A3 r.2.b.length k4, .slice A5 r.2.blocks.length k6, .slice A7 r.2.filter.length k8, .int .i64 r.2.count, .int .i64 r.2.reads], sl .ro ku8 A3 k4 r.2.b, sl .ro ksstable_block A5 k6 r.2.blocks, sl .ro ku8 A7 k8 r.2.filter, sl m ku8 A k from'] ++ F) w'
theorem ok (F : List Atom) (w : World) (z : Nat) (t : sstable_Table) (from' : List Int) (most : Int) {b : Nat} {A3 : Option Addr} {k4 : Nat} {A5 : Option Addr} {k6 : Nat} {A7 : Option Addr} {k8 : Nat} {A : Option Addr} {k : Nat} {m : Md} (S : SL ([blk b [.slice A3 t.b.length k4, .slice A5 t.blocks.length k6, .slice A7 t.filter.length k8, .int .i64 t.count, .int .i64 t.reads], sl .ro ku8 A3 k4 t.b, sl .ro ksstable_block A5 k6 t.blocks, sl .ro ku8 A7 k8 t.filter, sl m ku8 A k from'] ++ F) w) (r : List api_Entry × sstable_Table) (H : f z t from' most = some r) :
    Calls Try.prog 9 #[.pointer (some ⟨b, 0, none⟩), .slice A from'.length k, .int .i64 most] w (R F b from' m A k r) := by
  refine enter (vs := [.pointer (some ⟨b, 0, none⟩), .slice A from'.length k, .int .i64 most]) Try.func9 rfl Try.ntmps9 (Nat.le_of_ble_eq_true rfl) fun a T => ?_
  unfold f at H
  refine Gets.seq ?_
  refine rg ?_
  refine r_box T S rfl (cs := [.int .i64 most]) rfl rfl fun _ _ b5 S T => ?_
  refine r_pv T rfl rfl fun _ T => ?_
  refine Gets.seq ?_
  refine rg ?_
  refine r_alloc T S zv22 (cs := [.slice none 0 0]) rfl rfl fun _ _ b7 S T => ?_
  refine Gets.seq (Gets.seq ?_)
  refine rg ?_
  refine r_pv T rfl rfl fun _ T => ?_
  refine r_pv T rfl rfl fun _ T => ?_
  obtain ⟨fr, h1, H⟩ := bd H
  refine r_call T Try.call36 rfl rfl (Scan_ok _ _ b from' (S.sel (p := [sl m ku8 A k from']) (is := [6]) rfl) _ h1) ?_
  rintro _ _ ⟨tb, fb, Af, kf, rfl, S⟩
  refine ⟨_, rfl, fun a1 T => ?_⟩
  replace S : SL ([blk tb [.pointer (some ⟨b, 0, none⟩)], blk fb [.slice Af fr.length kf], sl .own ku8 Af kf fr, sl m ku8 A k from', blk b7 [.slice none 0 0], blk b5 [.int .i64 most], blk b [.slice A3 t.b.length k4, .slice A5 t.blocks.length k6, .slice A7 t.filter.length k8, .int .i64 t.count, .int .i64 t.reads], sl .ro ku8 A3 k4 t.b, sl .ro ksstable_block A5 k6 t.blocks, sl .ro ku8 A7 k8 t.filter] ++ F) _ := S.join
  replace S : SL ([blk tb [.pointer (some ⟨b, 0, none⟩)], blk fb [.slice Af fr.length kf], sl .ro ku8 Af kf fr, sl m ku8 A k from', blk b7 [.slice none 0 0], blk b5 [.int .i64 most], blk b [.slice A3 t.b.length k4, .slice A5 t.blocks.length k6, .slice A7 t.filter.length k8, .int .i64 t.count, .int .i64 t.reads], sl .ro ku8 A3 k4 t.b, sl .ro ksstable_block A5 k6 t.blocks, sl .ro ku8 A7 k8 t.filter] ++ F) _ := S.fixL (i := 2) rfl rfl
  replace S := S.nil kapi_Entry .own
  obtain ⟨x, h2, H⟩ := bd H
  replace H := Option.some.inj H
  subst H
  refine Gets.block ?_
  have T0 : Tm 27 [(5, .pointer (some ⟨b5, 0, none⟩)), (7, .pointer (some ⟨b7, 0, none⟩))] a1 := T.sub ⟨rfl, rfl, trivial⟩
  refine Gets.range (cs := [.pointer (some ⟨tb, 0, none⟩), .pointer (some ⟨fb, 0, none⟩)]) (RI := fun D => RS ([ob D (.deferred (some [])), sl m ku8 A k from'] ++ F) fr most (D + 1) D b5 b7 tb fb b a1 Af kf x) T S rfl Try.call64 (fun D w1 S => ?_) (fun D e w2 hR => ?_)
  · refine iter_ok _ w1 z t fr most [] (A3 := A3) (k4 := k4) (A5 := A5) (k6 := k6) (A7 := A7) (k8 := k8) (Ao := none) (ko := 0) T0 ?_ x h2
    have S' := SL.only (l := [ob D (.deferred (some [])), lp (D + 1) D a1 true, sl .own kapi_Entry none 0 [], blk tb [.pointer (some ⟨b, 0, none⟩)], blk fb [.slice Af fr.length kf], sl .ro ku8 Af kf fr, sl m ku8 A k from', blk b7 [.slice none 0 0], blk b5 [.int .i64 most], blk b [.slice A3 t.b.length k4, .slice A5 t.blocks.length k6, .slice A7 t.filter.length k8, .int .i64 t.count, .int .i64 t.reads], sl .ro ku8 A3 k4 t.b, sl .ro ksstable_block A5 k6 t.blocks, sl .ro ku8 A7 k8 t.filter]) (F := F)
      (p := [lp (D + 1) D a1 true, blk tb [.pointer (some ⟨b, 0, none⟩)], blk fb [.slice Af fr.length kf], sl .ro ku8 Af kf fr, blk b [.slice A3 t.b.length k4, .slice A5 t.blocks.length k6, .slice A7 t.filter.length k8, .int .i64 t.count, .int .i64 t.reads], sl .ro ku8 A3 k4 t.b, sl .ro ksstable_block A5 k6 t.blocks, sl .ro ku8 A7 k8 t.filter, blk b5 [.int .i64 most], blk b7 [.slice none 0 0], sl .own kapi_Entry none 0 [], ob D (.deferred (some [])), sl m ku8 A k from']) [1, 2, 2, 2, 5, 5, 5, 5, 4, 3, 1, 0, 0] S rfl
    exact S'
  · obtain ⟨A3, k4, A5, k6, A7, k8, Ao, ko, rfl, S⟩ := hR
    have S' := SL.only (l := [lp (D + 1) D a1 x.1, blk tb [.pointer (some ⟨b, 0, none⟩)], blk fb [.slice Af fr.length kf], sl .ro ku8 Af kf fr, blk b [.slice A3 x.2.1.b.length k4, .slice A5 x.2.1.blocks.length k6, .slice A7 x.2.1.filter.length k8, .int .i64 x.2.1.count, .int .i64 x.2.1.reads], sl .ro ku8 A3 k4 x.2.1.b, sl .ro ksstable_block A5 k6 x.2.1.blocks, sl .ro ku8 A7 k8 x.2.1.filter, blk b5 [.int .i64 most], blk b7 [.slice Ao x.2.2.length ko], sl .own kapi_Entry Ao ko x.2.2, ob D (.deferred (some [])), sl m ku8 A k from']) (F := F) (p := [ob D (.deferred (some [])), lp (D + 1) D a1 x.1, sl .own kapi_Entry Ao ko x.2.2, blk b [.slice A3 x.2.1.b.length k4, .slice A5 x.2.1.blocks.length k6, .slice A7 x.2.1.filter.length k8, .int .i64 x.2.1.count, .int .i64 x.2.1.reads], sl .ro ku8 A3 k4 x.2.1.b, sl .ro ksstable_block A5 k6 x.2.1.blocks, sl .ro ku8 A7 k8 x.2.1.filter, sl m ku8 A k from', blk b7 [.slice Ao x.2.2.length ko]]) [11, 0, 9, 3, 3, 3, 3, 5, 4] S rfl
    refine ⟨_, _, [sl .own kapi_Entry Ao ko x.2.2, blk b [.slice A3 x.2.1.b.length k4, .slice A5 x.2.1.blocks.length k6, .slice A7 x.2.1.filter.length k8, .int .i64 x.2.1.count, .int .i64 x.2.1.reads], sl .ro ku8 A3 k4 x.2.1.b, sl .ro ksstable_block A5 k6 x.2.1.blocks, sl .ro ku8 A7 k8 x.2.1.filter, sl m ku8 A k from', blk b7 [.slice Ao x.2.2.length ko]] ++ F, rfl, S', ?_, fun w3 S => ?_⟩
    · cases x.1 <;> simp
    have fin : ∀ (a2 : Act), Tm 27 [(7, .pointer (some ⟨b7, 0, none⟩))] a2 → Gets Try.prog { fn := 9, dfs := X.mark D } [.code (cR (cR (cR c0)))] a2 w3 (R F b from' m A k (x.2.2, x.2.1)) := by
      intro a2 T
      replace S : SL ([ob D (.deferred (some [])), sl .own kapi_Entry Ao ko x.2.2, blk b [.slice A3 x.2.1.b.length k4, .slice A5 x.2.1.blocks.length k6, .slice A7 x.2.1.filter.length k8, .int .i64 x.2.1.count, .int .i64 x.2.1.reads], sl .ro ku8 A3 k4 x.2.1.b, sl .ro ksstable_block A5 k6 x.2.1.blocks, sl .ro ku8 A7 k8 x.2.1.filter, sl m ku8 A k from', blk b7 [.slice Ao x.2.2.length ko]] ++ F) w3 := S
      refine Gets.seq ?_
      refine rg ?_
      refine r_ldB (ix := 7) T S rfl Try.isAgg22 rfl rfl rfl fun _ T => ?_
      refine r_pv T rfl rfl fun _ T => ?_
      refine rtnD (R := R F b from' m A k (x.2.2, x.2.1)) (L := [sl .own kapi_Entry Ao ko x.2.2, blk b [.slice A3 x.2.1.b.length k4, .slice A5 x.2.1.blocks.length k6, .slice A7 x.2.1.filter.length k8, .int .i64 x.2.1.count, .int .i64 x.2.1.reads], sl .ro ku8 A3 k4 x.2.1.b, sl .ro ksstable_block A5 k6 x.2.1.blocks, sl .ro ku8 A7 k8 x.2.1.filter, sl m ku8 A k from', blk b7 [.slice Ao x.2.2.length ko]] ++ F) T S Try.func9 rfl rfl fun w4 S => ⟨Ao, ko, A3, k4, A5, k6, A7, k8, rfl, ?_⟩
      exact SL.only (l := [sl .own kapi_Entry Ao ko x.2.2, blk b [.slice A3 x.2.1.b.length k4, .slice A5 x.2.1.blocks.length k6, .slice A7 x.2.1.filter.length k8, .int .i64 x.2.1.count, .int .i64 x.2.1.reads], sl .ro ku8 A3 k4 x.2.1.b, sl .ro ksstable_block A5 k6 x.2.1.blocks, sl .ro ku8 A7 k8 x.2.1.filter, sl m ku8 A k from', blk b7 [.slice Ao x.2.2.length ko]]) (F := F) (p := [sl .own kapi_Entry Ao ko x.2.2, blk b [.slice A3 x.2.1.b.length k4, .slice A5 x.2.1.blocks.length k6, .slice A7 x.2.1.filter.length k8, .int .i64 x.2.1.count, .int .i64 x.2.1.reads], sl .ro ku8 A3 k4 x.2.1.b, sl .ro ksstable_block A5 k6 x.2.1.blocks, sl .ro ku8 A7 k8 x.2.1.filter, sl m ku8 A k from']) [0, 0, 0, 0, 0, 0] S rfl
    have T7 : Tm 27 [(7, .pointer (some ⟨b7, 0, none⟩))] a1 := T.sub ⟨rfl, trivial⟩
    cases hx : x.1 with
    | true => exact Gets.inBlock (fin _ T7)
    | false => exact Gets.exit rfl (fin _ T7)
end cormorantlaw04_scan
end Go.Proofs.Ytghpokmkhlmgcaa

namespace Go.Proofs.Ytghpokmkhlmgcaa
open Go Go.Proofs.Ytghpokmkhlmgcaa.X
set_option linter.unusedVariables false
set_option linter.unusedSimpArgs false
set_option maxRecDepth 100000
set_option maxHeartbeats 4000000
/-! ### cormorant.cormorantlaw04.sameOne: function 12 -/
namespace cormorantlaw04_sameOne
noncomputable def c0 : Code := match Try.f12.body with | some c => c | none => .skip
def R (F : List Atom) (x1 : api_Entry) (A2 : Option Addr) (k3 : Nat) (m4 : Md) (A5 : Option Addr) (k6 : Nat) (m7 : Md) (x8 : api_Entry) (A9 : Option Addr) (k10 : Nat) (m11 : Md) (A12 : Option Addr) (k13 : Nat) (m14 : Md) (r : Bool) : Ending → World → Prop := fun e w' => e = .returned (.bool r) ∧ SL ([sl m4 ku8 A2 k3 x1.Key, sl m7 ku8 A5 k6 x1.Value, sl m11 ku8 A9 k10 x8.Key, sl m14 ku8 A12 k13 x8.Value] ++ F) w'
def J0 (x20 : Bool) : Option Bool := some x20
def f (x1 : api_Entry) (x8 : api_Entry) : Option Bool := If ((bstr x1.Key).toList == (bstr x8.Key).toList) (If (x1.Seq == x8.Seq) (If (x1.Del == x8.Del) (J0 ((bstr x1.Value).toList == (bstr x8.Value).toList)) (J0 false)) (J0 false)) (J0 false)
noncomputable def ptJ0 : List Item := [.code (cR (cR c0))]
theorem J0_ok (F : List Atom) (r : Bool) (x1 : api_Entry) (A2 : Option Addr) (k3 : Nat) (m4 : Md) (A5 : Option Addr) (k6 : Nat) (m7 : Md) (x8 : api_Entry) (A9 : Option Addr) (k10 : Nat) (m11 : Md) (A12 : Option Addr) (k13 : Nat) (m14 : Md) (x20 : Bool) (a : Act) (w : World) (T : Tm 35 [(4, .bool x20)] a) (S : SL ([sl m4 ku8 A2 k3 x1.Key, sl m7 ku8 A5 k6 x1.Value, sl m11 ku8 A9 k10 x8.Key, sl m14 ku8 A12 k13 x8.Value] ++ F) w) (H : J0 x20 = some r) : Gets Try.prog 12 ptJ0 a w (R F x1 A2 k3 m4 A5 k6 m7 x8 A9 k10 m11 A12 k13 m14 r) := by
  replace H := Option.some.inj H
  subst H
  exact rtn T Try.func12 rfl rfl ⟨rfl, (S.only (p := [sl m4 ku8 A2 k3 x1.Key, sl m7 ku8 A5 k6 x1.Value, sl m11 ku8 A9 k10 x8.Key, sl m14 ku8 A12 k13 x8.Value]) [0, 0, 0, 0] rfl)⟩
theorem ok (F : List Atom) (w : World) (x1 : api_Entry) (x8 : api_Entry) {A2 : Option Addr} {k3 : Nat} {m4 : Md} {A5 : Option Addr} {k6 : Nat} {m7 : Md} {A9 : Option Addr} {k10 : Nat} {m11 : Md} {A12 : Option Addr} {k13 : Nat} {m14 : Md} (S : SL ([sl m4 ku8 A2 k3 x1.Key, sl m7 ku8 A5 k6 x1.Value, sl m11 ku8 A9 k10 x8.Key, sl m14 ku8 A12 k13 x8.Value] ++ F) w) (r : Bool) (H : f x1 x8 = some r) : Calls Try.prog 12 #[.agg #[.slice A2 x1.Key.length k3, .int .u64 x1.Seq, .bool x1.Del, .slice A5 x1.Value.length k6], .agg #[.slice A9 x8.Key.length k10, .int .u64 x8.Seq, .bool x8.Del, .slice A12 x8.Value.length k13]] w (R F x1 A2 k3 m4 A5 k6 m7 x8 A9 k10 m11 A12 k13 m14 r) := by
  refine enter (vs := [.agg #[.slice A2 x1.Key.length k3, .int .u64 x1.Seq, .bool x1.Del, .slice A5 x1.Value.length k6], .agg #[.slice A9 x8.Key.length k10, .int .u64 x8.Seq, .bool x8.Del, .slice A12 x8.Value.length k13]]) Try.func12 rfl Try.ntmps12 (Nat.le_of_ble_eq_true rfl) fun a T => ?_
  refine Gets.seq ?_
  refine rg ?_
  refine r_box T S rfl (cs := [.slice A2 x1.Key.length k3, .int .u64 x1.Seq, .bool x1.Del, .slice A5 x1.Value.length k6]) rfl rfl fun _ _ b15 S T => ?_
  refine r_box T S rfl (cs := [.slice A9 x8.Key.length k10, .int .u64 x8.Seq, .bool x8.Del, .slice A12 x8.Value.length k13]) rfl rfl fun _ _ b16 S T => ?_
  refine r_pv T rfl rfl fun _ T => ?_
  refine Gets.seq ?_
  refine rg ?_
  refine r_fa (o' := 0) T rfl Try.runUnderlying36 rfl Try.sizeOf24 rfl rfl fun _ T => ?_
  refine r_ldB (ix := 1) T S rfl Try.isAgg24 rfl rfl rfl fun _ T => ?_
  refine r_b2s (ix := 2) (xs := x1.Key) T S rfl rfl Try.runUnderlying24 Try.runUnderlying9 Try.runUnderlying5 rfl fun _ T => ?_
  refine r_fa (o' := 0) T rfl Try.runUnderlying36 rfl Try.sizeOf24 rfl rfl fun _ T => ?_
  refine r_ldB (ix := 0) T S rfl Try.isAgg24 rfl rfl rfl fun _ T => ?_
  refine r_b2s (ix := 4) (xs := x8.Key) T S rfl rfl Try.runUnderlying24 Try.runUnderlying9 Try.runUnderlying5 rfl fun _ T => ?_
  refine r_pv T rfl rfl fun _ T => ?_
  refine r_pv T rfl rfl fun _ T => ?_
  rcases ifE H with ⟨h17, H⟩ | ⟨h17, H⟩
  · refine g_yes T rfl rfl h17 ?_
    refine r_fa (o' := 1) T rfl Try.runUnderlying36 rfl Try.sizeOf34 rfl rfl fun _ T => ?_
    refine g_yes T rfl rfl h17 ?_
    refine r_ldB (ix := 1) T S rfl Try.isAgg34 rfl rfl rfl fun _ T => ?_
    refine g_yes T rfl rfl h17 ?_
    refine r_fa (o' := 1) T rfl Try.runUnderlying36 rfl Try.sizeOf34 rfl rfl fun _ T => ?_
    refine g_yes T rfl rfl h17 ?_
    refine r_ldB (ix := 0) T S rfl Try.isAgg34 rfl rfl rfl fun _ T => ?_
    refine g_yes T rfl rfl h17 ?_
    refine r_pv T rfl rfl fun _ T => ?_
    refine r_pickT T rfl h17 rfl rfl fun _ T => ?_
    refine r_pv T rfl rfl fun _ T => ?_
    rcases ifE H with ⟨h18, H⟩ | ⟨h18, H⟩
    · refine g_yes T rfl rfl h18 ?_
      refine r_fa (o' := 2) T rfl Try.runUnderlying36 rfl Try.sizeOf4 rfl rfl fun _ T => ?_
      refine g_yes T rfl rfl h18 ?_
      refine r_ldB (ix := 1) T S rfl Try.isAgg4 rfl rfl rfl fun _ T => ?_
      refine g_yes T rfl rfl h18 ?_
      refine r_fa (o' := 2) T rfl Try.runUnderlying36 rfl Try.sizeOf4 rfl rfl fun _ T => ?_
      refine g_yes T rfl rfl h18 ?_
      refine r_ldB (ix := 0) T S rfl Try.isAgg4 rfl rfl rfl fun _ T => ?_
      refine g_yes T rfl rfl h18 ?_
      refine r_eqB T rfl rfl Try.runUnderlying4 rfl fun _ T => ?_
      refine r_pickT T rfl h18 rfl rfl fun _ T => ?_
      refine r_pv T rfl rfl fun _ T => ?_
      rcases ifE H with ⟨h19, H⟩ | ⟨h19, H⟩
      · refine g_yes T rfl rfl h19 ?_
        refine r_fa (o' := 3) T rfl Try.runUnderlying36 rfl Try.sizeOf24 rfl rfl fun _ T => ?_
        refine g_yes T rfl rfl h19 ?_
        refine r_ldB (ix := 1) T S rfl Try.isAgg24 rfl rfl rfl fun _ T => ?_
        refine g_yes T rfl rfl h19 ?_
        refine r_b2s (ix := 3) (xs := x1.Value) T S rfl rfl Try.runUnderlying24 Try.runUnderlying9 Try.runUnderlying5 rfl fun _ T => ?_
        refine g_yes T rfl rfl h19 ?_
        refine r_fa (o' := 3) T rfl Try.runUnderlying36 rfl Try.sizeOf24 rfl rfl fun _ T => ?_
        refine g_yes T rfl rfl h19 ?_
        refine r_ldB (ix := 0) T S rfl Try.isAgg24 rfl rfl rfl fun _ T => ?_
        refine g_yes T rfl rfl h19 ?_
        refine r_b2s (ix := 5) (xs := x8.Value) T S rfl rfl Try.runUnderlying24 Try.runUnderlying9 Try.runUnderlying5 rfl fun _ T => ?_
        refine g_yes T rfl rfl h19 ?_
        refine r_pv T rfl rfl fun _ T => ?_
        refine r_pickT T rfl h19 rfl rfl fun _ T => ?_
        refine r_pv T rfl rfl fun _ T => ?_
        exact J0_ok F r x1 A2 k3 m4 A5 k6 m7 x8 A9 k10 m11 A12 k13 m14 ((bstr x1.Value).toList == (bstr x8.Value).toList) _ _ (T.sub ⟨rfl, trivial⟩) (S.only (p := [sl m4 ku8 A2 k3 x1.Key, sl m7 ku8 A5 k6 x1.Value, sl m11 ku8 A9 k10 x8.Key, sl m14 ku8 A12 k13 x8.Value]) [2, 2, 2, 2] rfl) H
      · refine g_no T rfl rfl h19 rfl fun _ T => ?_
        refine g_no T rfl rfl h19 rfl fun _ T => ?_
        refine g_no T rfl rfl h19 rfl fun _ T => ?_
        refine g_no T rfl rfl h19 rfl fun _ T => ?_
        refine g_no T rfl rfl h19 rfl fun _ T => ?_
        refine g_no T rfl rfl h19 rfl fun _ T => ?_
        refine g_no T rfl rfl h19 rfl fun _ T => ?_
        refine r_pickF T rfl h19 rfl rfl fun _ T => ?_
        refine r_pv T rfl rfl fun _ T => ?_
        exact J0_ok F r x1 A2 k3 m4 A5 k6 m7 x8 A9 k10 m11 A12 k13 m14 false _ _ (T.sub ⟨rfl, trivial⟩) (S.only (p := [sl m4 ku8 A2 k3 x1.Key, sl m7 ku8 A5 k6 x1.Value, sl m11 ku8 A9 k10 x8.Key, sl m14 ku8 A12 k13 x8.Value]) [2, 2, 2, 2] rfl) H
    · refine g_no T rfl rfl h18 rfl fun _ T => ?_
      refine g_no T rfl rfl h18 rfl fun _ T => ?_
      refine g_no T rfl rfl h18 rfl fun _ T => ?_
      refine g_no T rfl rfl h18 rfl fun _ T => ?_
      refine g_no T rfl rfl h18 rfl fun _ T => ?_
      refine r_pickF T rfl h18 rfl rfl fun _ T => ?_
      refine r_pv T rfl rfl fun _ T => ?_
      refine g_no T rfl rfl rfl rfl fun _ T => ?_
      refine g_no T rfl rfl rfl rfl fun _ T => ?_
      refine g_no T rfl rfl rfl rfl fun _ T => ?_
      refine g_no T rfl rfl rfl rfl fun _ T => ?_
      refine g_no T rfl rfl rfl rfl fun _ T => ?_
      refine g_no T rfl rfl rfl rfl fun _ T => ?_
      refine g_no T rfl rfl rfl rfl fun _ T => ?_
      refine r_pickF T rfl rfl rfl rfl fun _ T => ?_
      refine r_pv T rfl rfl fun _ T => ?_
      exact J0_ok F r x1 A2 k3 m4 A5 k6 m7 x8 A9 k10 m11 A12 k13 m14 false _ _ (T.sub ⟨rfl, trivial⟩) (S.only (p := [sl m4 ku8 A2 k3 x1.Key, sl m7 ku8 A5 k6 x1.Value, sl m11 ku8 A9 k10 x8.Key, sl m14 ku8 A12 k13 x8.Value]) [2, 2, 2, 2] rfl) H
  · refine g_no T rfl rfl h17 rfl fun _ T => ?_
    refine g_no T rfl rfl h17 rfl fun _ T => ?_
    refine g_no T rfl rfl h17 rfl fun _ T => ?_
    refine g_no T rfl rfl h17 rfl fun _ T => ?_
    refine g_no T rfl rfl h17 rfl fun _ T => ?_
    refine r_pickF T rfl h17 rfl rfl fun _ T => ?_
    refine r_pv T rfl rfl fun _ T => ?_
    refine g_no T rfl rfl rfl rfl fun _ T => ?_
    refine g_no T rfl rfl rfl rfl fun _ T => ?_
    refine g_no T rfl rfl rfl rfl fun _ T => ?_
    refine g_no T rfl rfl rfl rfl fun _ T => ?_
    refine g_no T rfl rfl rfl rfl fun _ T => ?_
    refine r_pickF T rfl rfl rfl rfl fun _ T => ?_
    refine r_pv T rfl rfl fun _ T => ?_
    refine g_no T rfl rfl rfl rfl fun _ T => ?_
    refine g_no T rfl rfl rfl rfl fun _ T => ?_
    refine g_no T rfl rfl rfl rfl fun _ T => ?_
    refine g_no T rfl rfl rfl rfl fun _ T => ?_
    refine g_no T rfl rfl rfl rfl fun _ T => ?_
    refine g_no T rfl rfl rfl rfl fun _ T => ?_
    refine g_no T rfl rfl rfl rfl fun _ T => ?_
    refine r_pickF T rfl rfl rfl rfl fun _ T => ?_
    refine r_pv T rfl rfl fun _ T => ?_
    exact J0_ok F r x1 A2 k3 m4 A5 k6 m7 x8 A9 k10 m11 A12 k13 m14 false _ _ (T.sub ⟨rfl, trivial⟩) (S.only (p := [sl m4 ku8 A2 k3 x1.Key, sl m7 ku8 A5 k6 x1.Value, sl m11 ku8 A9 k10 x8.Key, sl m14 ku8 A12 k13 x8.Value]) [2, 2, 2, 2] rfl) H
end cormorantlaw04_sameOne
end Go.Proofs.Ytghpokmkhlmgcaa

namespace Go.Proofs.Ytghpokmkhlmgcaa
open Go Go.Proofs.Ytghpokmkhlmgcaa.X
set_option linter.unusedVariables false
set_option linter.unusedSimpArgs false
set_option maxRecDepth 100000
set_option maxHeartbeats 4000000
/-! ### cormorant.cormorantlaw04.same: function 10 -/
namespace cormorantlaw04_same
noncomputable def c0 : Code := match Try.f10.body with | some c => c | none => .skip
def R (F : List Atom) (x1 : List api_Entry) (A2 : Option Addr) (k3 : Nat) (x4 : List api_Entry) (A5 : Option Addr) (k6 : Nat) (r : Bool) : Ending → World → Prop := fun e w' => e = .returned (.bool r) ∧ SL ([sl .ro kapi_Entry A2 k3 x1, sl .ro kapi_Entry A5 k6 x4] ++ F) w'
def L0 (z : Nat) (x1 : List api_Entry) (x4 : List api_Entry) : Nat → Int → Option Bool
  | 0, _ => none
  | m + 1, x8 => If (decide (x8 < (x1.length : Int))) (Ck (0 ≤ x8 ∧ x8 < (x1.length : Int)) (Ck (x8 < (x4.length : Int)) (Bd (cormorantlaw04_sameOne.f (gi dapi_Entry x1 x8) (gi dapi_Entry x4 x8)) fun x21 => If (!x21) (some false) (L0 z x1 x4 m (wr .i64 (x8 + 1)))))) (some true)
def f (z : Nat) (x1 : List api_Entry) (x4 : List api_Entry) : Option Bool := If ((x1.length : Int) != (x4.length : Int)) (some false) (L0 z x1 x4 z 0)
noncomputable def ptL0 : List Item := [.code (cB (cB (cR (cL (cR (cR c0)))))), .inLoop (cB (cB (cR (cL (cR (cR c0)))))), .inBlock 0, .code (cR (cR (cR c0)))]
theorem L0_ok (F : List Atom) (r : Bool) (z : Nat) (x1 : List api_Entry) (A2 : Option Addr) (k3 : Nat) (x4 : List api_Entry) (A5 : Option Addr) (k6 : Nat) (m : Nat) : ∀ (x8 : Int) (a : Act) (w : World), Tm 29 [(0, .slice A2 x1.length k3), (1, .slice A5 x4.length k6), (5, .int .i64 x8)] a → SL ([sl .ro kapi_Entry A2 k3 x1, sl .ro kapi_Entry A5 k6 x4] ++ F) w → L0 z x1 x4 m x8 = some r → Gets Try.prog 10 ptL0 a w (R F x1 A2 k3 x4 A5 k6 r) := by
  induction m with
  | zero => intro _ _ _ _ _ H; cases H
  | succ m ih =>
    intro x8 a w T S H
    refine Gets.seq ?_
    refine Gets.seq ?_
    refine rg ?_
    refine r_pv T rfl rfl fun _ T => ?_
    refine r_pv T rfl rfl fun _ T => ?_
    refine r_lenS T rfl Try.runUnderlying22 rfl fun _ T => ?_
    refine r_pv T rfl rfl fun _ T => ?_
    rcases ifE H with ⟨h9, H⟩ | ⟨h9, H⟩
    · refine cdT T rfl h9 ?_
      refine Gets.skip (Gets.seq (Gets.block (Gets.seq ?_)))
      obtain ⟨h10, H⟩ := ck H
      obtain ⟨_, S⟩ := S.peek (ix := 0) (off := 0) (i := x8) rfl dapi_Entry (Fld.all _) h10.1 h10.2
      obtain ⟨A11, k12, A13, k14, hv_, S_⟩ := op_api_Entry (l := _ :: _) S
      subst hv_
      replace S := S_
      obtain ⟨h15, H⟩ := ck H
      obtain ⟨_, S⟩ := S.peek (ix := 4) (off := 0) (i := x8) rfl dapi_Entry (Fld.all _) h10.1 h15
      obtain ⟨A16, k17, A18, k19, hv_, S_⟩ := op_api_Entry (l := _ :: _) S
      subst hv_
      replace S := S_
      refine Gets.drawn (l := [sl .ro ku8 A16 k17 ((gi dapi_Entry x4 x8).Key), sl .ro ku8 A18 k19 ((gi dapi_Entry x4 x8).Value), cl A5 (Int.toNat x8 * 4) [.slice A16 (((gi dapi_Entry x4 x8).Key).length) k17, .int .u64 ((gi dapi_Entry x4 x8).Seq), .bool ((gi dapi_Entry x4 x8).Del), .slice A18 (((gi dapi_Entry x4 x8).Value).length) k19], sl .ro ku8 A11 k12 ((gi dapi_Entry x1 x8).Key), sl .ro ku8 A13 k14 ((gi dapi_Entry x1 x8).Value), cl A2 (Int.toNat x8 * 4) [.slice A11 (((gi dapi_Entry x1 x8).Key).length) k12, .int .u64 ((gi dapi_Entry x1 x8).Seq), .bool ((gi dapi_Entry x1 x8).Del), .slice A13 (((gi dapi_Entry x1 x8).Value).length) k14], sl .ro kapi_Entry A2 k3 x1, sl .ro kapi_Entry A5 k6 x4]) (V := [some (.slice A2 x1.length k3, true), some (.int .i64 x8, true), some (.pointer (some (eA A2 (Int.toNat x8 * 4))), true), some (.agg #[.slice A11 (((gi dapi_Entry x1 x8).Key).length) k12, .int .u64 ((gi dapi_Entry x1 x8).Seq), .bool ((gi dapi_Entry x1 x8).Del), .slice A13 (((gi dapi_Entry x1 x8).Value).length) k14], true), some (.slice A5 x4.length k6, true), some (.int .i64 x8, true), some (.pointer (some (eA A5 (Int.toNat x8 * 4))), true), some (.agg #[.slice A16 (((gi dapi_Entry x4 x8).Key).length) k17, .int .u64 ((gi dapi_Entry x4 x8).Seq), .bool ((gi dapi_Entry x4 x8).Del), .slice A18 (((gi dapi_Entry x4 x8).Value).length) k19], true), none, none]) mixed T S rfl ?_
      refine stage (some 8) rfl rfl ⟨⟨_, [(0, .slice A2 x1.length k3)], rfl, ⟨.inr ⟨rfl, rfl⟩, trivial⟩, fun u a w T S => (by refine r_pv T rfl rfl fun _ T => ?_; exact ⟨rfl, T⟩)⟩, ⟨_, [(5, .int .i64 x8)], rfl, ⟨.inr ⟨rfl, rfl⟩, trivial⟩, fun u a w T S => (by refine r_pv T rfl rfl fun _ T => ?_; exact ⟨rfl, T⟩)⟩, ⟨_, [(18, .slice A2 x1.length k3), (19, .int .i64 x8)], rfl, ⟨.inl ⟨0, rfl, rfl, rfl, rfl⟩, .inl ⟨1, rfl, rfl, rfl, rfl⟩, trivial⟩, fun u a w T S => (by refine r_ia (ix := 6) T S rfl rfl rfl rfl Try.runUnderlying22 Try.sizeOf36 h10.1 h10.2 rfl fun _ T => ?_; exact ⟨rfl, T⟩)⟩, ⟨_, [(20, .pointer (some (eA A2 (Int.toNat x8 * 4))))], rfl, ⟨.inl ⟨2, rfl, rfl, rfl, rfl⟩, trivial⟩, fun u a w T S => (by refine r_ldCA (ix := 5) (A := A2) T S rfl rfl rfl Try.isAgg36 Try.sizeOf36 rfl fun _ T => ?_; exact ⟨rfl, T⟩)⟩, ⟨_, [(1, .slice A5 x4.length k6)], rfl, ⟨.inr ⟨rfl, rfl⟩, trivial⟩, fun u a w T S => (by refine r_pv T rfl rfl fun _ T => ?_; exact ⟨rfl, T⟩)⟩, ⟨_, [(5, .int .i64 x8)], rfl, ⟨.inr ⟨rfl, rfl⟩, trivial⟩, fun u a w T S => (by refine r_pv T rfl rfl fun _ T => ?_; exact ⟨rfl, T⟩)⟩, ⟨_, [(22, .slice A5 x4.length k6), (23, .int .i64 x8)], rfl, ⟨.inl ⟨4, rfl, rfl, rfl, rfl⟩, .inl ⟨5, rfl, rfl, rfl, rfl⟩, trivial⟩, fun u a w T S => (by refine r_ia (ix := 7) T S rfl rfl rfl rfl Try.runUnderlying22 Try.sizeOf36 h10.1 h15 rfl fun _ T => ?_; exact ⟨rfl, T⟩)⟩, ⟨_, [(24, .pointer (some (eA A5 (Int.toNat x8 * 4))))], rfl, ⟨.inl ⟨6, rfl, rfl, rfl, rfl⟩, trivial⟩, fun u a w T S => (by refine r_ldCA (ix := 2) (A := A5) T S rfl rfl rfl Try.isAgg36 Try.sizeOf36 rfl fun _ T => ?_; exact ⟨rfl, T⟩)⟩, trivial⟩ rfl (fun i hi => ?_) (fun h => by cases h)
      cases hi
      refine ⟨rfl, _, [(21, .agg #[.slice A11 (((gi dapi_Entry x1 x8).Key).length) k12, .int .u64 ((gi dapi_Entry x1 x8).Seq), .bool ((gi dapi_Entry x1 x8).Del), .slice A13 (((gi dapi_Entry x1 x8).Value).length) k14]), (25, .agg #[.slice A16 (((gi dapi_Entry x4 x8).Key).length) k17, .int .u64 ((gi dapi_Entry x4 x8).Seq), .bool ((gi dapi_Entry x4 x8).Del), .slice A18 (((gi dapi_Entry x4 x8).Value).length) k19])], rfl, ⟨.inl ⟨3, rfl, rfl, rfl, rfl⟩, .inl ⟨7, rfl, rfl, rfl, rfl⟩, trivial⟩, fun u a w T S => ?_⟩
      obtain ⟨x21, h20, H⟩ := bd H
      refine r_call T Try.call12 rfl rfl (cormorantlaw04_sameOne.ok _ _ (gi dapi_Entry x1 x8) (gi dapi_Entry x4 x8) (S.sel (p := [sl .ro ku8 A11 k12 ((gi dapi_Entry x1 x8).Key), sl .ro ku8 A13 k14 ((gi dapi_Entry x1 x8).Value), sl .ro ku8 A16 k17 ((gi dapi_Entry x4 x8).Key), sl .ro ku8 A18 k19 ((gi dapi_Entry x4 x8).Value)]) (is := [3, 3, 0, 0]) rfl) _ h20) ?_
      rintro _ _ ⟨rfl, S⟩
      refine ⟨_, rfl, fun _ T => ?_⟩
      replace S : SL ([sl .ro ku8 A11 k12 ((gi dapi_Entry x1 x8).Key), sl .ro ku8 A13 k14 ((gi dapi_Entry x1 x8).Value), sl .ro ku8 A16 k17 ((gi dapi_Entry x4 x8).Key), sl .ro ku8 A18 k19 ((gi dapi_Entry x4 x8).Value), cl A5 (Int.toNat x8 * 4) [.slice A16 (((gi dapi_Entry x4 x8).Key).length) k17, .int .u64 ((gi dapi_Entry x4 x8).Seq), .bool ((gi dapi_Entry x4 x8).Del), .slice A18 (((gi dapi_Entry x4 x8).Value).length) k19], cl A2 (Int.toNat x8 * 4) [.slice A11 (((gi dapi_Entry x1 x8).Key).length) k12, .int .u64 ((gi dapi_Entry x1 x8).Seq), .bool ((gi dapi_Entry x1 x8).Del), .slice A13 (((gi dapi_Entry x1 x8).Value).length) k14], sl .ro kapi_Entry A2 k3 x1, sl .ro kapi_Entry A5 k6 x4] ++ F) _ := S.join
      refine ⟨_, [some (.slice A2 x1.length k3, true), some (.int .i64 x8, true), some (.pointer (some (eA A2 (Int.toNat x8 * 4))), true), some (.agg #[.slice A11 (((gi dapi_Entry x1 x8).Key).length) k12, .int .u64 ((gi dapi_Entry x1 x8).Seq), .bool ((gi dapi_Entry x1 x8).Del), .slice A13 (((gi dapi_Entry x1 x8).Value).length) k14], false), some (.slice A5 x4.length k6, true), some (.int .i64 x8, true), some (.pointer (some (eA A5 (Int.toNat x8 * 4))), true), some (.agg #[.slice A16 (((gi dapi_Entry x4 x8).Key).length) k17, .int .u64 ((gi dapi_Entry x4 x8).Seq), .bool ((gi dapi_Entry x4 x8).Del), .slice A18 (((gi dapi_Entry x4 x8).Value).length) k19], false), some (.bool x21, false), some (.bool x21, true)], [sl .ro ku8 A11 k12 ((gi dapi_Entry x1 x8).Key), sl .ro ku8 A13 k14 ((gi dapi_Entry x1 x8).Value), sl .ro ku8 A16 k17 ((gi dapi_Entry x4 x8).Key), sl .ro ku8 A18 k19 ((gi dapi_Entry x4 x8).Value), cl A5 (Int.toNat x8 * 4) [.slice A16 (((gi dapi_Entry x4 x8).Key).length) k17, .int .u64 ((gi dapi_Entry x4 x8).Seq), .bool ((gi dapi_Entry x4 x8).Del), .slice A18 (((gi dapi_Entry x4 x8).Value).length) k19], cl A2 (Int.toNat x8 * 4) [.slice A11 (((gi dapi_Entry x1 x8).Key).length) k12, .int .u64 ((gi dapi_Entry x1 x8).Seq), .bool ((gi dapi_Entry x1 x8).Del), .slice A13 (((gi dapi_Entry x1 x8).Value).length) k14], sl .ro kapi_Entry A2 k3 x1, sl .ro kapi_Entry A5 k6 x4], rfl, ⟨.inr ⟨_, _, _, rfl, rfl⟩, .inr ⟨_, _, _, rfl, rfl⟩, .inr ⟨_, _, _, rfl, rfl⟩, .inr ⟨_, _, _, rfl, rfl⟩, .inr ⟨_, _, _, rfl, rfl⟩, .inr ⟨_, _, _, rfl, rfl⟩, .inr ⟨_, _, _, rfl, rfl⟩, .inr ⟨_, _, _, rfl, rfl⟩, .inl rfl, .inl rfl, trivial⟩, rfl, ?_, T, S⟩
      refine stage none rfl rfl ⟨⟨_, [(0, .slice A2 x1.length k3)], rfl, ⟨.inr ⟨rfl, rfl⟩, trivial⟩, fun u a w T S => (by refine r_pv T rfl rfl fun _ T => ?_; exact ⟨rfl, T⟩)⟩, ⟨_, [(5, .int .i64 x8)], rfl, ⟨.inr ⟨rfl, rfl⟩, trivial⟩, fun u a w T S => (by refine r_pv T rfl rfl fun _ T => ?_; exact ⟨rfl, T⟩)⟩, ⟨_, [(18, .slice A2 x1.length k3), (19, .int .i64 x8)], rfl, ⟨.inl ⟨0, rfl, rfl, rfl, rfl⟩, .inl ⟨1, rfl, rfl, rfl, rfl⟩, trivial⟩, fun u a w T S => (by refine r_ia (ix := 6) T S rfl rfl rfl rfl Try.runUnderlying22 Try.sizeOf36 h10.1 h10.2 rfl fun _ T => ?_; exact ⟨rfl, T⟩)⟩, ⟨_, [(1, .slice A5 x4.length k6)], rfl, ⟨.inr ⟨rfl, rfl⟩, trivial⟩, fun u a w T S => (by refine r_pv T rfl rfl fun _ T => ?_; exact ⟨rfl, T⟩)⟩, ⟨_, [(5, .int .i64 x8)], rfl, ⟨.inr ⟨rfl, rfl⟩, trivial⟩, fun u a w T S => (by refine r_pv T rfl rfl fun _ T => ?_; exact ⟨rfl, T⟩)⟩, ⟨_, [(22, .slice A5 x4.length k6), (23, .int .i64 x8)], rfl, ⟨.inl ⟨4, rfl, rfl, rfl, rfl⟩, .inl ⟨5, rfl, rfl, rfl, rfl⟩, trivial⟩, fun u a w T S => (by refine r_ia (ix := 7) T S rfl rfl rfl rfl Try.runUnderlying22 Try.sizeOf36 h10.1 h15 rfl fun _ T => ?_; exact ⟨rfl, T⟩)⟩, ⟨_, [(26, .bool x21)], rfl, ⟨.inl ⟨8, rfl, rfl, rfl, rfl⟩, trivial⟩, fun u a w T S => (by refine r_pv T rfl rfl fun _ T => ?_; exact ⟨rfl, T⟩)⟩, trivial⟩ rfl (fun i hi => by cases hi) (fun _ _ a w T hv hb S => ?_)
      replace T := T.sub (r := [(0, .slice A2 x1.length k3), (1, .slice A5 x4.length k6), (5, .int .i64 x8), (6, .bool x21)]) ⟨hb 0 _ rfl rfl, hb 1 _ rfl rfl, hb 5 _ rfl rfl, hv 9 _ 6 rfl rfl rfl, trivial⟩
      refine Gets.seq ?_
      refine rg ?_
      refine r_pv T rfl rfl fun _ T => ?_
      refine r_pv T rfl rfl fun _ T => ?_
      rcases ifE H with ⟨h22, H⟩ | ⟨h22, H⟩
      · refine cdT T rfl h22 ?_
        refine Gets.seq ?_
        refine rg ?_
        refine r_pv T rfl rfl fun _ T => ?_
        replace H := Option.some.inj H
        subst H
        exact rtn T Try.func10 rfl rfl ⟨rfl, (S.only (p := [sl .ro kapi_Entry A2 k3 x1, sl .ro kapi_Entry A5 k6 x4]) [6, 6] rfl)⟩
      · refine cdF T rfl h22 ?_
        refine Gets.skip (Gets.inBlock ?_)
        refine rg ?_
        refine r_pv T rfl rfl fun _ T => ?_
        refine r_pv T rfl rfl fun _ T => ?_
        refine r_pv T rfl rfl fun _ T => ?_
        refine Gets.inLoop ?_
        exact ih (wr .i64 (x8 + 1)) _ _ (T.sub ⟨rfl, rfl, rfl, trivial⟩) (S.only (p := [sl .ro kapi_Entry A2 k3 x1, sl .ro kapi_Entry A5 k6 x4]) [6, 6] rfl) H
    · refine cdF T rfl h9 ?_
      refine Gets.exit rfl (Gets.seq ?_)
      refine rg ?_
      refine r_pv T rfl rfl fun _ T => ?_
      replace H := Option.some.inj H
      subst H
      exact rtn T Try.func10 rfl rfl ⟨rfl, (S.only (p := [sl .ro kapi_Entry A2 k3 x1, sl .ro kapi_Entry A5 k6 x4]) [0, 0] rfl)⟩
theorem ok (F : List Atom) (w : World) (z : Nat) (x1 : List api_Entry) (x4 : List api_Entry) {A2 : Option Addr} {k3 : Nat} {A5 : Option Addr} {k6 : Nat} (S : SL ([sl .ro kapi_Entry A2 k3 x1, sl .ro kapi_Entry A5 k6 x4] ++ F) w) (r : Bool) (H : f z x1 x4 = some r) : Calls Try.prog 10 #[.slice A2 x1.length k3, .slice A5 x4.length k6] w (R F x1 A2 k3 x4 A5 k6 r) := by
  refine enter (vs := [.slice A2 x1.length k3, .slice A5 x4.length k6]) Try.func10 rfl Try.ntmps10 (Nat.le_of_ble_eq_true rfl) fun a T => ?_
  refine Gets.seq ?_
  refine rg ?_
  refine r_pv T rfl rfl fun _ T => ?_
  refine Gets.seq (Gets.seq ?_)
  refine rg ?_
  refine r_pv T rfl rfl fun _ T => ?_
  refine r_lenS T rfl Try.runUnderlying22 rfl fun _ T => ?_
  refine r_pv T rfl rfl fun _ T => ?_
  refine r_lenS T rfl Try.runUnderlying22 rfl fun _ T => ?_
  refine r_pv T rfl rfl fun _ T => ?_
  rcases ifE H with ⟨h7, H⟩ | ⟨h7, H⟩
  · refine cdT T rfl h7 ?_
    refine Gets.seq ?_
    refine rg ?_
    refine r_pv T rfl rfl fun _ T => ?_
    replace H := Option.some.inj H
    subst H
    exact rtn T Try.func10 rfl rfl ⟨rfl, (S.only (p := [sl .ro kapi_Entry A2 k3 x1, sl .ro kapi_Entry A5 k6 x4]) [0, 0] rfl)⟩
  · refine cdF T rfl h7 ?_
    refine Gets.skip (Gets.seq (Gets.seq ?_))
    refine rg ?_
    refine r_pv T rfl rfl fun _ T => ?_
    refine Gets.block ?_
    refine Gets.loop ?_
    exact L0_ok F r z x1 A2 k3 x4 A5 k6 z 0 _ _ (T.sub ⟨rfl, rfl, rfl, trivial⟩) (S.only (p := [sl .ro kapi_Entry A2 k3 x1, sl .ro kapi_Entry A5 k6 x4]) [0, 0] rfl) H
end cormorantlaw04_same
end Go.Proofs.Ytghpokmkhlmgcaa

namespace Go.Proofs.Ytghpokmkhlmgcaa
open Go Go.Proofs.Ytghpokmkhlmgcaa.X
set_option linter.unusedVariables false
set_option linter.unusedSimpArgs false
set_option maxRecDepth 100000
set_option maxHeartbeats 4000000
/-! ### (*cormorant.sstable.Table).First: function 15 -/
namespace sstable_Table_First
noncomputable def c0 : Code := match Try.f15.body with | some c => c | none => .skip
def R (F : List Atom) (b2 : Nat) (r : (List Int) × sstable_Table) : Ending → World → Prop := fun e w' => ∃ (A19 : Option Addr), ∃ (k20 : Nat), ∃ (A22 : Option Addr), ∃ (k23 : Nat), ∃ (A24 : Option Addr), ∃ (k25 : Nat), ∃ (A26 : Option Addr), ∃ (k27 : Nat), e = .returned (.slice A19 r.1.length k20) ∧ SL ([sl .own ku8 A19 k20 r.1, blk b2 [.slice A22 r.2.b.length k23, .slice A24 r.2.blocks.length k25, .slice A26 r.2.filter.length k27, .int .i64 r.2.count, .int .i64 r.2.reads], sl .ro ku8 A22 k23 r.2.b, sl .ro ksstable_block A24 k25 r.2.blocks, sl .ro ku8 A26 k27 r.2.filter] ++ F) w'
def f (x1 : sstable_Table) : Option ((List Int) × sstable_Table) := Ck (0 < (x1.blocks.length : Int)) (Bd (bytes_Clone.f ((gi dsstable_block x1.blocks 0).first)) fun x13 => Bd (slices_Clip_byte.f x13) fun x17 => some (x17, x1))
theorem ok (F : List Atom) (w : World) (x1 : sstable_Table) {b2 : Nat} {A3 : Option Addr} {k4 : Nat} {A5 : Option Addr} {k6 : Nat} {A7 : Option Addr} {k8 : Nat} (S : SL ([blk b2 [.slice A3 x1.b.length k4, .slice A5 x1.blocks.length k6, .slice A7 x1.filter.length k8, .int .i64 x1.count, .int .i64 x1.reads], sl .ro ku8 A3 k4 x1.b, sl .ro ksstable_block A5 k6 x1.blocks, sl .ro ku8 A7 k8 x1.filter] ++ F) w) (r : (List Int) × sstable_Table) (H : f x1 = some r) : Calls Try.prog 15 #[.pointer (some ⟨b2, 0, none⟩)] w (R F b2 r) := by
  refine enter (vs := [.pointer (some ⟨b2, 0, none⟩)]) Try.func15 rfl Try.ntmps15 (Nat.le_of_ble_eq_true rfl) fun a T => ?_
  refine Gets.seq ?_
  refine rg ?_
  refine r_pv T rfl rfl fun _ T => ?_
  refine Gets.seq ?_
  refine rg ?_
  refine r_pv T rfl rfl fun _ T => ?_
  refine r_pv T rfl rfl fun _ T => ?_
  refine r_fa (o' := 1) T rfl Try.runUnderlying69 rfl Try.sizeOf67 rfl rfl fun _ T => ?_
  refine r_ldB (ix := 0) T S rfl Try.isAgg67 rfl rfl rfl fun _ T => ?_
  obtain ⟨h9, H⟩ := ck H
  refine r_ia (ix := 2) T S rfl rfl rfl rfl Try.runUnderlying67 Try.sizeOf73 (by decide) h9 rfl fun _ T => ?_
  refine r_faE T rfl Try.runUnderlying73 rfl Try.sizeOf24 rfl fun _ T => ?_
  refine r_ldR (ix := 2) (i := 0) (off := 3) T S rfl Try.isAgg24 rfl dsstable_block _ rfl rfl fld_sstable_block_first (by decide) h9 rfl rfl fun _ _ S T => ?_
  obtain ⟨A10, k11, hv_, S_⟩ := S.ofVal
  subst hv_
  replace S := S_
  obtain ⟨x13, h12, H⟩ := bd H
  refine r_call T Try.call32 rfl rfl (bytes_Clone.ok _ _ ((gi dsstable_block x1.blocks 0).first) (S.sel (p := [sl .ro ku8 A10 k11 ((gi dsstable_block x1.blocks 0).first)]) (is := [0]) rfl) _ h12) ?_
  rintro _ _ ⟨A14, k15, rfl, S⟩
  refine ⟨_, rfl, fun _ T => ?_⟩
  replace S : SL ([sl .own ku8 A14 k15 x13, sl .ro ku8 A10 k11 ((gi dsstable_block x1.blocks 0).first), blk b2 [.slice A3 x1.b.length k4, .slice A5 x1.blocks.length k6, .slice A7 x1.filter.length k8, .int .i64 x1.count, .int .i64 x1.reads], sl .ro ku8 A3 k4 x1.b, sl .ro ksstable_block A5 k6 x1.blocks, sl .ro ku8 A7 k8 x1.filter] ++ F) _ := S.join
  obtain ⟨x17, h16, H⟩ := bd H
  refine r_call T Try.call31 rfl rfl (slices_Clip_byte.ok _ _ x13 (S.sel (p := [sl .own ku8 A14 k15 x13]) (is := [0]) rfl) _ h16) ?_
  rintro _ _ ⟨A18, rfl, S⟩
  refine ⟨_, rfl, fun _ T => ?_⟩
  replace S : SL ([sl .own ku8 A18 x17.length x17, sl .ro ku8 A10 k11 ((gi dsstable_block x1.blocks 0).first), blk b2 [.slice A3 x1.b.length k4, .slice A5 x1.blocks.length k6, .slice A7 x1.filter.length k8, .int .i64 x1.count, .int .i64 x1.reads], sl .ro ku8 A3 k4 x1.b, sl .ro ksstable_block A5 k6 x1.blocks, sl .ro ku8 A7 k8 x1.filter] ++ F) _ := S.join
  refine r_pv T rfl rfl fun _ T => ?_
  replace H := Option.some.inj H
  subst H
  exact rtn T Try.func15 rfl rfl ⟨A18, x17.length, A3, k4, A5, k6, A7, k8, rfl, (S.only (p := [sl .own ku8 A18 x17.length x17, blk b2 [.slice A3 x1.b.length k4, .slice A5 x1.blocks.length k6, .slice A7 x1.filter.length k8, .int .i64 x1.count, .int .i64 x1.reads], sl .ro ku8 A3 k4 x1.b, sl .ro ksstable_block A5 k6 x1.blocks, sl .ro ku8 A7 k8 x1.filter]) [0, 1, 1, 1, 1] rfl)⟩
end sstable_Table_First
end Go.Proofs.Ytghpokmkhlmgcaa

namespace Go.Proofs.Ytghpokmkhlmgcaa
open Go Go.Proofs.Ytghpokmkhlmgcaa.X
set_option linter.unusedVariables false
set_option linter.unusedSimpArgs false
set_option maxRecDepth 100000
set_option maxHeartbeats 4000000
/-! ### (*cormorant.sstable.Table).Last: function 16 -/
namespace sstable_Table_Last
noncomputable def c0 : Code := match Try.f16.body with | some c => c | none => .skip
def R (F : List Atom) (b2 : Nat) (r : (List Int) × sstable_Table) : Ending → World → Prop := fun e w' => ∃ (A19 : Option Addr), ∃ (k20 : Nat), ∃ (A22 : Option Addr), ∃ (k23 : Nat), ∃ (A24 : Option Addr), ∃ (k25 : Nat), ∃ (A26 : Option Addr), ∃ (k27 : Nat), e = .returned (.slice A19 r.1.length k20) ∧ SL ([sl .own ku8 A19 k20 r.1, blk b2 [.slice A22 r.2.b.length k23, .slice A24 r.2.blocks.length k25, .slice A26 r.2.filter.length k27, .int .i64 r.2.count, .int .i64 r.2.reads], sl .ro ku8 A22 k23 r.2.b, sl .ro ksstable_block A24 k25 r.2.blocks, sl .ro ku8 A26 k27 r.2.filter] ++ F) w'
def f (x1 : sstable_Table) : Option ((List Int) × sstable_Table) := Ck (0 ≤ wr .i64 ((x1.blocks.length : Int) - 1) ∧ wr .i64 ((x1.blocks.length : Int) - 1) < (x1.blocks.length : Int)) (Bd (bytes_Clone.f ((gi dsstable_block x1.blocks (wr .i64 ((x1.blocks.length : Int) - 1))).last)) fun x13 => Bd (slices_Clip_byte.f x13) fun x17 => some (x17, x1))
theorem ok (F : List Atom) (w : World) (x1 : sstable_Table) {b2 : Nat} {A3 : Option Addr} {k4 : Nat} {A5 : Option Addr} {k6 : Nat} {A7 : Option Addr} {k8 : Nat} (S : SL ([blk b2 [.slice A3 x1.b.length k4, .slice A5 x1.blocks.length k6, .slice A7 x1.filter.length k8, .int .i64 x1.count, .int .i64 x1.reads], sl .ro ku8 A3 k4 x1.b, sl .ro ksstable_block A5 k6 x1.blocks, sl .ro ku8 A7 k8 x1.filter] ++ F) w) (r : (List Int) × sstable_Table) (H : f x1 = some r) : Calls Try.prog 16 #[.pointer (some ⟨b2, 0, none⟩)] w (R F b2 r) := by
  refine enter (vs := [.pointer (some ⟨b2, 0, none⟩)]) Try.func16 rfl Try.ntmps16 (Nat.le_of_ble_eq_true rfl) fun a T => ?_
  refine Gets.seq ?_
  refine rg ?_
  refine r_pv T rfl rfl fun _ T => ?_
  refine Gets.seq ?_
  obtain ⟨h9, H⟩ := ck H
  obtain ⟨_, S⟩ := S.peek1 (ix := 2) (off := 4) (i := wr .i64 ((x1.blocks.length : Int) - 1)) rfl dsstable_block fld_sstable_block_last h9.1 h9.2 rfl
  obtain ⟨A10, k11, hv_, S_⟩ := SL.ofVal (l := _ :: _) S
  subst hv_
  replace S := S_
  refine Gets.drawn (l := [sl .ro ku8 A10 k11 ((gi dsstable_block x1.blocks (wr .i64 ((x1.blocks.length : Int) - 1))).last), cl A5 (Int.toNat (wr .i64 ((x1.blocks.length : Int) - 1)) * 5 + 4) [.slice A10 (((gi dsstable_block x1.blocks (wr .i64 ((x1.blocks.length : Int) - 1))).last).length) k11], blk b2 [.slice A3 x1.b.length k4, .slice A5 x1.blocks.length k6, .slice A7 x1.filter.length k8, .int .i64 x1.count, .int .i64 x1.reads], sl .ro ku8 A3 k4 x1.b, sl .ro ksstable_block A5 k6 x1.blocks, sl .ro ku8 A7 k8 x1.filter]) (V := [some (.pointer (some ⟨b2, 0, none⟩), true), some (.pointer (some ⟨b2, 0, none⟩), true), some (.pointer (some ⟨b2, 1, none⟩), true), some (.slice A5 x1.blocks.length k6, true), some (.pointer (some ⟨b2, 0, none⟩), true), some (.pointer (some ⟨b2, 0, none⟩), true), some (.pointer (some ⟨b2, 1, none⟩), true), some (.slice A5 x1.blocks.length k6, true), some (.int .i64 (x1.blocks.length : Int), true), some (.int .i64 (wr .i64 ((x1.blocks.length : Int) - 1)), true), some (.pointer (some (eA A5 (Int.toNat (wr .i64 ((x1.blocks.length : Int) - 1)) * 5))), true), some (.pointer (some (eA A5 (Int.toNat (wr .i64 ((x1.blocks.length : Int) - 1)) * 5 + 4))), true), some (.slice A10 (((gi dsstable_block x1.blocks (wr .i64 ((x1.blocks.length : Int) - 1))).last).length) k11, true), none, none, none]) mixed T S rfl ?_
  refine stage (some 13) rfl rfl ⟨⟨_, [(0, .pointer (some ⟨b2, 0, none⟩))], rfl, ⟨.inr ⟨rfl, rfl⟩, trivial⟩, fun u a w T S => (by refine r_pv T rfl rfl fun _ T => ?_; exact ⟨rfl, T⟩)⟩, ⟨_, [(3, .pointer (some ⟨b2, 0, none⟩))], rfl, ⟨.inl ⟨0, rfl, rfl, rfl, rfl⟩, trivial⟩, fun u a w T S => (by refine r_pv T rfl rfl fun _ T => ?_; exact ⟨rfl, T⟩)⟩, ⟨_, [(4, .pointer (some ⟨b2, 0, none⟩))], rfl, ⟨.inl ⟨1, rfl, rfl, rfl, rfl⟩, trivial⟩, fun u a w T S => (by refine r_fa (o' := 1) T rfl Try.runUnderlying69 rfl Try.sizeOf67 rfl rfl fun _ T => ?_; exact ⟨rfl, T⟩)⟩, ⟨_, [(5, .pointer (some ⟨b2, 1, none⟩))], rfl, ⟨.inl ⟨2, rfl, rfl, rfl, rfl⟩, trivial⟩, fun u a w T S => (by refine r_ldB (ix := 2) T S rfl Try.isAgg67 rfl rfl rfl fun _ T => ?_; exact ⟨rfl, T⟩)⟩, ⟨_, [(0, .pointer (some ⟨b2, 0, none⟩))], rfl, ⟨.inr ⟨rfl, rfl⟩, trivial⟩, fun u a w T S => (by refine r_pv T rfl rfl fun _ T => ?_; exact ⟨rfl, T⟩)⟩, ⟨_, [(7, .pointer (some ⟨b2, 0, none⟩))], rfl, ⟨.inl ⟨4, rfl, rfl, rfl, rfl⟩, trivial⟩, fun u a w T S => (by refine r_pv T rfl rfl fun _ T => ?_; exact ⟨rfl, T⟩)⟩, ⟨_, [(8, .pointer (some ⟨b2, 0, none⟩))], rfl, ⟨.inl ⟨5, rfl, rfl, rfl, rfl⟩, trivial⟩, fun u a w T S => (by refine r_fa (o' := 1) T rfl Try.runUnderlying69 rfl Try.sizeOf67 rfl rfl fun _ T => ?_; exact ⟨rfl, T⟩)⟩, ⟨_, [(9, .pointer (some ⟨b2, 1, none⟩))], rfl, ⟨.inl ⟨6, rfl, rfl, rfl, rfl⟩, trivial⟩, fun u a w T S => (by refine r_ldB (ix := 2) T S rfl Try.isAgg67 rfl rfl rfl fun _ T => ?_; exact ⟨rfl, T⟩)⟩, ⟨_, [(10, .slice A5 x1.blocks.length k6)], rfl, ⟨.inl ⟨7, rfl, rfl, rfl, rfl⟩, trivial⟩, fun u a w T S => (by refine r_lenS T rfl Try.runUnderlying67 rfl fun _ T => ?_; exact ⟨rfl, T⟩)⟩, ⟨_, [(11, .int .i64 (x1.blocks.length : Int))], rfl, ⟨.inl ⟨8, rfl, rfl, rfl, rfl⟩, trivial⟩, fun u a w T S => (by refine r_pv T rfl rfl fun _ T => ?_; exact ⟨rfl, T⟩)⟩, ⟨_, [(6, .slice A5 x1.blocks.length k6), (12, .int .i64 (wr .i64 ((x1.blocks.length : Int) - 1)))], rfl, ⟨.inl ⟨3, rfl, rfl, rfl, rfl⟩, .inl ⟨9, rfl, rfl, rfl, rfl⟩, trivial⟩, fun u a w T S => (by refine r_ia (ix := 4) T S rfl rfl rfl rfl Try.runUnderlying67 Try.sizeOf73 h9.1 h9.2 rfl fun _ T => ?_; exact ⟨rfl, T⟩)⟩, ⟨_, [(13, .pointer (some (eA A5 (Int.toNat (wr .i64 ((x1.blocks.length : Int) - 1)) * 5))))], rfl, ⟨.inl ⟨10, rfl, rfl, rfl, rfl⟩, trivial⟩, fun u a w T S => (by refine r_faE T rfl Try.runUnderlying73 rfl Try.sizeOf24 rfl fun _ T => ?_; exact ⟨rfl, T⟩)⟩, ⟨_, [(14, .pointer (some (eA A5 (Int.toNat (wr .i64 ((x1.blocks.length : Int) - 1)) * 5 + 4))))], rfl, ⟨.inl ⟨11, rfl, rfl, rfl, rfl⟩, trivial⟩, fun u a w T S => (by refine r_ldC (ix := 1) (A := A5) T S rfl rfl rfl Try.isAgg24 rfl fun _ T => ?_; exact ⟨rfl, T⟩)⟩, trivial⟩ rfl (fun i hi => ?_) (fun h => by cases h)
  cases hi
  refine ⟨rfl, _, [(15, .slice A10 (((gi dsstable_block x1.blocks (wr .i64 ((x1.blocks.length : Int) - 1))).last).length) k11)], rfl, ⟨.inl ⟨12, rfl, rfl, rfl, rfl⟩, trivial⟩, fun u a w T S => ?_⟩
  obtain ⟨x13, h12, H⟩ := bd H
  refine r_call T Try.call32 rfl rfl (bytes_Clone.ok _ _ ((gi dsstable_block x1.blocks (wr .i64 ((x1.blocks.length : Int) - 1))).last) (S.sel (p := [sl .ro ku8 A10 k11 ((gi dsstable_block x1.blocks (wr .i64 ((x1.blocks.length : Int) - 1))).last)]) (is := [0]) rfl) _ h12) ?_
  rintro _ _ ⟨A14, k15, rfl, S⟩
  refine ⟨_, rfl, fun _ T => ?_⟩
  replace S : SL ([sl .own ku8 A14 k15 x13, sl .ro ku8 A10 k11 ((gi dsstable_block x1.blocks (wr .i64 ((x1.blocks.length : Int) - 1))).last), cl A5 (Int.toNat (wr .i64 ((x1.blocks.length : Int) - 1)) * 5 + 4) [.slice A10 (((gi dsstable_block x1.blocks (wr .i64 ((x1.blocks.length : Int) - 1))).last).length) k11], blk b2 [.slice A3 x1.b.length k4, .slice A5 x1.blocks.length k6, .slice A7 x1.filter.length k8, .int .i64 x1.count, .int .i64 x1.reads], sl .ro ku8 A3 k4 x1.b, sl .ro ksstable_block A5 k6 x1.blocks, sl .ro ku8 A7 k8 x1.filter] ++ F) _ := S.join
  refine ⟨_, [some (.pointer (some ⟨b2, 0, none⟩), true), some (.pointer (some ⟨b2, 0, none⟩), true), some (.pointer (some ⟨b2, 1, none⟩), true), some (.slice A5 x1.blocks.length k6, true), some (.pointer (some ⟨b2, 0, none⟩), true), some (.pointer (some ⟨b2, 0, none⟩), true), some (.pointer (some ⟨b2, 1, none⟩), true), some (.slice A5 x1.blocks.length k6, true), some (.int .i64 (x1.blocks.length : Int), true), some (.int .i64 (wr .i64 ((x1.blocks.length : Int) - 1)), true), some (.pointer (some (eA A5 (Int.toNat (wr .i64 ((x1.blocks.length : Int) - 1)) * 5))), true), some (.pointer (some (eA A5 (Int.toNat (wr .i64 ((x1.blocks.length : Int) - 1)) * 5 + 4))), true), some (.slice A10 (((gi dsstable_block x1.blocks (wr .i64 ((x1.blocks.length : Int) - 1))).last).length) k11, false), some (.slice A14 x13.length k15, false), none, none], [sl .own ku8 A14 k15 x13, sl .ro ku8 A10 k11 ((gi dsstable_block x1.blocks (wr .i64 ((x1.blocks.length : Int) - 1))).last), cl A5 (Int.toNat (wr .i64 ((x1.blocks.length : Int) - 1)) * 5 + 4) [.slice A10 (((gi dsstable_block x1.blocks (wr .i64 ((x1.blocks.length : Int) - 1))).last).length) k11], blk b2 [.slice A3 x1.b.length k4, .slice A5 x1.blocks.length k6, .slice A7 x1.filter.length k8, .int .i64 x1.count, .int .i64 x1.reads], sl .ro ku8 A3 k4 x1.b, sl .ro ksstable_block A5 k6 x1.blocks, sl .ro ku8 A7 k8 x1.filter], rfl, ⟨.inr ⟨_, _, _, rfl, rfl⟩, .inr ⟨_, _, _, rfl, rfl⟩, .inr ⟨_, _, _, rfl, rfl⟩, .inr ⟨_, _, _, rfl, rfl⟩, .inr ⟨_, _, _, rfl, rfl⟩, .inr ⟨_, _, _, rfl, rfl⟩, .inr ⟨_, _, _, rfl, rfl⟩, .inr ⟨_, _, _, rfl, rfl⟩, .inr ⟨_, _, _, rfl, rfl⟩, .inr ⟨_, _, _, rfl, rfl⟩, .inr ⟨_, _, _, rfl, rfl⟩, .inr ⟨_, _, _, rfl, rfl⟩, .inr ⟨_, _, _, rfl, rfl⟩, .inl rfl, .inl rfl, .inl rfl, trivial⟩, rfl, ?_, T, S⟩
  refine stage (some 14) rfl rfl ⟨⟨_, [(0, .pointer (some ⟨b2, 0, none⟩))], rfl, ⟨.inr ⟨rfl, rfl⟩, trivial⟩, fun u a w T S => (by refine r_pv T rfl rfl fun _ T => ?_; exact ⟨rfl, T⟩)⟩, ⟨_, [(3, .pointer (some ⟨b2, 0, none⟩))], rfl, ⟨.inl ⟨0, rfl, rfl, rfl, rfl⟩, trivial⟩, fun u a w T S => (by refine r_pv T rfl rfl fun _ T => ?_; exact ⟨rfl, T⟩)⟩, ⟨_, [(4, .pointer (some ⟨b2, 0, none⟩))], rfl, ⟨.inl ⟨1, rfl, rfl, rfl, rfl⟩, trivial⟩, fun u a w T S => (by refine r_fa (o' := 1) T rfl Try.runUnderlying69 rfl Try.sizeOf67 rfl rfl fun _ T => ?_; exact ⟨rfl, T⟩)⟩, ⟨_, [(5, .pointer (some ⟨b2, 1, none⟩))], rfl, ⟨.inl ⟨2, rfl, rfl, rfl, rfl⟩, trivial⟩, fun u a w T S => (by refine r_ldB (ix := 3) T S rfl Try.isAgg67 rfl rfl rfl fun _ T => ?_; exact ⟨rfl, T⟩)⟩, ⟨_, [(0, .pointer (some ⟨b2, 0, none⟩))], rfl, ⟨.inr ⟨rfl, rfl⟩, trivial⟩, fun u a w T S => (by refine r_pv T rfl rfl fun _ T => ?_; exact ⟨rfl, T⟩)⟩, ⟨_, [(7, .pointer (some ⟨b2, 0, none⟩))], rfl, ⟨.inl ⟨4, rfl, rfl, rfl, rfl⟩, trivial⟩, fun u a w T S => (by refine r_pv T rfl rfl fun _ T => ?_; exact ⟨rfl, T⟩)⟩, ⟨_, [(8, .pointer (some ⟨b2, 0, none⟩))], rfl, ⟨.inl ⟨5, rfl, rfl, rfl, rfl⟩, trivial⟩, fun u a w T S => (by refine r_fa (o' := 1) T rfl Try.runUnderlying69 rfl Try.sizeOf67 rfl rfl fun _ T => ?_; exact ⟨rfl, T⟩)⟩, ⟨_, [(9, .pointer (some ⟨b2, 1, none⟩))], rfl, ⟨.inl ⟨6, rfl, rfl, rfl, rfl⟩, trivial⟩, fun u a w T S => (by refine r_ldB (ix := 3) T S rfl Try.isAgg67 rfl rfl rfl fun _ T => ?_; exact ⟨rfl, T⟩)⟩, ⟨_, [(10, .slice A5 x1.blocks.length k6)], rfl, ⟨.inl ⟨7, rfl, rfl, rfl, rfl⟩, trivial⟩, fun u a w T S => (by refine r_lenS T rfl Try.runUnderlying67 rfl fun _ T => ?_; exact ⟨rfl, T⟩)⟩, ⟨_, [(11, .int .i64 (x1.blocks.length : Int))], rfl, ⟨.inl ⟨8, rfl, rfl, rfl, rfl⟩, trivial⟩, fun u a w T S => (by refine r_pv T rfl rfl fun _ T => ?_; exact ⟨rfl, T⟩)⟩, ⟨_, [(6, .slice A5 x1.blocks.length k6), (12, .int .i64 (wr .i64 ((x1.blocks.length : Int) - 1)))], rfl, ⟨.inl ⟨3, rfl, rfl, rfl, rfl⟩, .inl ⟨9, rfl, rfl, rfl, rfl⟩, trivial⟩, fun u a w T S => (by refine r_ia (ix := 5) T S rfl rfl rfl rfl Try.runUnderlying67 Try.sizeOf73 h9.1 h9.2 rfl fun _ T => ?_; exact ⟨rfl, T⟩)⟩, ⟨_, [(13, .pointer (some (eA A5 (Int.toNat (wr .i64 ((x1.blocks.length : Int) - 1)) * 5))))], rfl, ⟨.inl ⟨10, rfl, rfl, rfl, rfl⟩, trivial⟩, fun u a w T S => (by refine r_faE T rfl Try.runUnderlying73 rfl Try.sizeOf24 rfl fun _ T => ?_; exact ⟨rfl, T⟩)⟩, trivial⟩ rfl (fun i hi => ?_) (fun h => by cases h)
  cases hi
  refine ⟨rfl, _, [(16, .slice A14 x13.length k15)], rfl, ⟨.inl ⟨13, rfl, rfl, rfl, rfl⟩, trivial⟩, fun u a w T S => ?_⟩
  obtain ⟨x17, h16, H⟩ := bd H
  refine r_call T Try.call31 rfl rfl (slices_Clip_byte.ok _ _ x13 (S.sel (p := [sl .own ku8 A14 k15 x13]) (is := [0]) rfl) _ h16) ?_
  rintro _ _ ⟨A18, rfl, S⟩
  refine ⟨_, rfl, fun _ T => ?_⟩
  replace S : SL ([sl .own ku8 A18 x17.length x17, sl .ro ku8 A10 k11 ((gi dsstable_block x1.blocks (wr .i64 ((x1.blocks.length : Int) - 1))).last), cl A5 (Int.toNat (wr .i64 ((x1.blocks.length : Int) - 1)) * 5 + 4) [.slice A10 (((gi dsstable_block x1.blocks (wr .i64 ((x1.blocks.length : Int) - 1))).last).length) k11], blk b2 [.slice A3 x1.b.length k4, .slice A5 x1.blocks.length k6, .slice A7 x1.filter.length k8, .int .i64 x1.count, .int .i64 x1.reads], sl .ro ku8 A3 k4 x1.b, sl .ro ksstable_block A5 k6 x1.blocks, sl .ro ku8 A7 k8 x1.filter] ++ F) _ := S.join
  refine ⟨_, [some (.pointer (some ⟨b2, 0, none⟩), true), some (.pointer (some ⟨b2, 0, none⟩), true), some (.pointer (some ⟨b2, 1, none⟩), true), some (.slice A5 x1.blocks.length k6, true), some (.pointer (some ⟨b2, 0, none⟩), true), some (.pointer (some ⟨b2, 0, none⟩), true), some (.pointer (some ⟨b2, 1, none⟩), true), some (.slice A5 x1.blocks.length k6, true), some (.int .i64 (x1.blocks.length : Int), true), some (.int .i64 (wr .i64 ((x1.blocks.length : Int) - 1)), true), some (.pointer (some (eA A5 (Int.toNat (wr .i64 ((x1.blocks.length : Int) - 1)) * 5))), true), some (.pointer (some (eA A5 (Int.toNat (wr .i64 ((x1.blocks.length : Int) - 1)) * 5 + 4))), true), some (.slice A10 (((gi dsstable_block x1.blocks (wr .i64 ((x1.blocks.length : Int) - 1))).last).length) k11, false), some (.slice A14 x13.length k15, false), some (.slice A18 x17.length x17.length, false), some (.slice A18 x17.length x17.length, true)], [sl .own ku8 A18 x17.length x17, sl .ro ku8 A10 k11 ((gi dsstable_block x1.blocks (wr .i64 ((x1.blocks.length : Int) - 1))).last), cl A5 (Int.toNat (wr .i64 ((x1.blocks.length : Int) - 1)) * 5 + 4) [.slice A10 (((gi dsstable_block x1.blocks (wr .i64 ((x1.blocks.length : Int) - 1))).last).length) k11], blk b2 [.slice A3 x1.b.length k4, .slice A5 x1.blocks.length k6, .slice A7 x1.filter.length k8, .int .i64 x1.count, .int .i64 x1.reads], sl .ro ku8 A3 k4 x1.b, sl .ro ksstable_block A5 k6 x1.blocks, sl .ro ku8 A7 k8 x1.filter], rfl, ⟨.inr ⟨_, _, _, rfl, rfl⟩, .inr ⟨_, _, _, rfl, rfl⟩, .inr ⟨_, _, _, rfl, rfl⟩, .inr ⟨_, _, _, rfl, rfl⟩, .inr ⟨_, _, _, rfl, rfl⟩, .inr ⟨_, _, _, rfl, rfl⟩, .inr ⟨_, _, _, rfl, rfl⟩, .inr ⟨_, _, _, rfl, rfl⟩, .inr ⟨_, _, _, rfl, rfl⟩, .inr ⟨_, _, _, rfl, rfl⟩, .inr ⟨_, _, _, rfl, rfl⟩, .inr ⟨_, _, _, rfl, rfl⟩, .inr ⟨_, _, _, rfl, rfl⟩, .inr ⟨_, _, _, rfl, rfl⟩, .inl rfl, .inl rfl, trivial⟩, rfl, ?_, T, S⟩
  refine stage none rfl rfl ⟨⟨_, [(0, .pointer (some ⟨b2, 0, none⟩))], rfl, ⟨.inr ⟨rfl, rfl⟩, trivial⟩, fun u a w T S => (by refine r_pv T rfl rfl fun _ T => ?_; exact ⟨rfl, T⟩)⟩, ⟨_, [(3, .pointer (some ⟨b2, 0, none⟩))], rfl, ⟨.inl ⟨0, rfl, rfl, rfl, rfl⟩, trivial⟩, fun u a w T S => (by refine r_pv T rfl rfl fun _ T => ?_; exact ⟨rfl, T⟩)⟩, ⟨_, [(4, .pointer (some ⟨b2, 0, none⟩))], rfl, ⟨.inl ⟨1, rfl, rfl, rfl, rfl⟩, trivial⟩, fun u a w T S => (by refine r_fa (o' := 1) T rfl Try.runUnderlying69 rfl Try.sizeOf67 rfl rfl fun _ T => ?_; exact ⟨rfl, T⟩)⟩, ⟨_, [(5, .pointer (some ⟨b2, 1, none⟩))], rfl, ⟨.inl ⟨2, rfl, rfl, rfl, rfl⟩, trivial⟩, fun u a w T S => (by refine r_ldB (ix := 3) T S rfl Try.isAgg67 rfl rfl rfl fun _ T => ?_; exact ⟨rfl, T⟩)⟩, ⟨_, [(0, .pointer (some ⟨b2, 0, none⟩))], rfl, ⟨.inr ⟨rfl, rfl⟩, trivial⟩, fun u a w T S => (by refine r_pv T rfl rfl fun _ T => ?_; exact ⟨rfl, T⟩)⟩, ⟨_, [(7, .pointer (some ⟨b2, 0, none⟩))], rfl, ⟨.inl ⟨4, rfl, rfl, rfl, rfl⟩, trivial⟩, fun u a w T S => (by refine r_pv T rfl rfl fun _ T => ?_; exact ⟨rfl, T⟩)⟩, ⟨_, [(8, .pointer (some ⟨b2, 0, none⟩))], rfl, ⟨.inl ⟨5, rfl, rfl, rfl, rfl⟩, trivial⟩, fun u a w T S => (by refine r_fa (o' := 1) T rfl Try.runUnderlying69 rfl Try.sizeOf67 rfl rfl fun _ T => ?_; exact ⟨rfl, T⟩)⟩, ⟨_, [(9, .pointer (some ⟨b2, 1, none⟩))], rfl, ⟨.inl ⟨6, rfl, rfl, rfl, rfl⟩, trivial⟩, fun u a w T S => (by refine r_ldB (ix := 3) T S rfl Try.isAgg67 rfl rfl rfl fun _ T => ?_; exact ⟨rfl, T⟩)⟩, ⟨_, [(10, .slice A5 x1.blocks.length k6)], rfl, ⟨.inl ⟨7, rfl, rfl, rfl, rfl⟩, trivial⟩, fun u a w T S => (by refine r_lenS T rfl Try.runUnderlying67 rfl fun _ T => ?_; exact ⟨rfl, T⟩)⟩, ⟨_, [(11, .int .i64 (x1.blocks.length : Int))], rfl, ⟨.inl ⟨8, rfl, rfl, rfl, rfl⟩, trivial⟩, fun u a w T S => (by refine r_pv T rfl rfl fun _ T => ?_; exact ⟨rfl, T⟩)⟩, ⟨_, [(6, .slice A5 x1.blocks.length k6), (12, .int .i64 (wr .i64 ((x1.blocks.length : Int) - 1)))], rfl, ⟨.inl ⟨3, rfl, rfl, rfl, rfl⟩, .inl ⟨9, rfl, rfl, rfl, rfl⟩, trivial⟩, fun u a w T S => (by refine r_ia (ix := 5) T S rfl rfl rfl rfl Try.runUnderlying67 Try.sizeOf73 h9.1 h9.2 rfl fun _ T => ?_; exact ⟨rfl, T⟩)⟩, ⟨_, [(13, .pointer (some (eA A5 (Int.toNat (wr .i64 ((x1.blocks.length : Int) - 1)) * 5))))], rfl, ⟨.inl ⟨10, rfl, rfl, rfl, rfl⟩, trivial⟩, fun u a w T S => (by refine r_faE T rfl Try.runUnderlying73 rfl Try.sizeOf24 rfl fun _ T => ?_; exact ⟨rfl, T⟩)⟩, ⟨_, [(17, .slice A18 x17.length x17.length)], rfl, ⟨.inl ⟨14, rfl, rfl, rfl, rfl⟩, trivial⟩, fun u a w T S => (by refine r_pv T rfl rfl fun _ T => ?_; exact ⟨rfl, T⟩)⟩, trivial⟩ rfl (fun i hi => by cases hi) (fun _ _ a w T hv hb S => ?_)
  replace T := T.sub (r := [(2, .slice A18 x17.length x17.length)]) ⟨hv 15 _ 2 rfl rfl rfl, trivial⟩
  replace H := Option.some.inj H
  subst H
  exact rtn T Try.func16 rfl rfl ⟨A18, x17.length, A3, k4, A5, k6, A7, k8, rfl, (S.only (p := [sl .own ku8 A18 x17.length x17, blk b2 [.slice A3 x1.b.length k4, .slice A5 x1.blocks.length k6, .slice A7 x1.filter.length k8, .int .i64 x1.count, .int .i64 x1.reads], sl .ro ku8 A3 k4 x1.b, sl .ro ksstable_block A5 k6 x1.blocks, sl .ro ku8 A7 k8 x1.filter]) [0, 2, 2, 2, 2] rfl)⟩
end sstable_Table_Last
end Go.Proofs.Ytghpokmkhlmgcaa

namespace Go.Proofs.Ytghpokmkhlmgcaa
open Go Go.Proofs.Ytghpokmkhlmgcaa.X
set_option linter.unusedVariables false
set_option linter.unusedSimpArgs false
set_option maxRecDepth 100000
set_option maxHeartbeats 4000000
/-! ### cormorant.bloom.May$1: function 67 -/
namespace bloom_May_c1
noncomputable def c0 : Code := match Try.f67.body with | some c => c | none => .skip
def R (F : List Atom) (x3 : List Int) (b4 : Nat) (A5 : Option Addr) (k6 : Nat) (r : Bool) : Ending → World → Prop := fun e w' => e = .returned (.bool r) ∧ SL ([blk b4 [.slice A5 x3.length k6], sl .ro ku8 A5 k6 x3] ++ F) w'
def f (x1 : Int) (x2 : Int) (x3 : List Int) : Option Bool := Ck (0 ≤ wr .i64 (1 + x1) ∧ wr .i64 (1 + x1) < (x3.length : Int)) (some ((bAnd .u8 (gi (0 : Int) x3 (wr .i64 (1 + x1))) x2) != 0))
theorem ok (F : List Atom) (w : World) (x1 : Int) (x2 : Int) (x3 : List Int) {b4 : Nat} {A5 : Option Addr} {k6 : Nat} (S : SL ([blk b4 [.slice A5 x3.length k6], sl .ro ku8 A5 k6 x3] ++ F) w) (r : Bool) (H : f x1 x2 x3 = some r) : Calls Try.prog 67 #[.int .i64 x1, .int .u8 x2, .pointer (some ⟨b4, 0, none⟩)] w (R F x3 b4 A5 k6 r) := by
  refine enter (vs := [.int .i64 x1, .int .u8 x2, .pointer (some ⟨b4, 0, none⟩)]) Try.func67 rfl Try.ntmps67 (Nat.le_of_ble_eq_true rfl) fun a T => ?_
  refine Gets.seq ?_
  refine rg ?_
  refine r_pv T rfl rfl fun _ T => ?_
  refine Gets.seq ?_
  refine rg ?_
  refine r_ldB (ix := 0) T S rfl Try.isAgg24 rfl rfl rfl fun _ T => ?_
  refine r_pv T rfl rfl fun _ T => ?_
  refine r_pv T rfl rfl fun _ T => ?_
  obtain ⟨h7, H⟩ := ck H
  refine r_ia (ix := 1) T S rfl rfl rfl rfl Try.runUnderlying24 Try.sizeOf5 h7.1 h7.2 rfl fun _ T => ?_
  refine r_ldE (ix := 1) (i := wr .i64 (1 + x1)) (off := 0) (f := (Value.int .u8)) T S rfl Try.isAgg5 rfl (0 : Int) _ rfl rfl (Fld.all _) h7.1 h7.2 (fun h => h) rfl fun _ T => ?_
  refine r_pv T rfl rfl fun _ T => ?_
  refine r_pv T rfl rfl fun _ T => ?_
  refine r_pv T rfl rfl fun _ T => ?_
  refine r_pv T rfl rfl fun _ T => ?_
  replace H := Option.some.inj H
  subst H
  exact rtn T Try.func67 rfl rfl ⟨rfl, (S.only (p := [blk b4 [.slice A5 x3.length k6], sl .ro ku8 A5 k6 x3]) [0, 0] rfl)⟩
end bloom_May_c1
end Go.Proofs.Ytghpokmkhlmgcaa

namespace Go.Proofs.Ytghpokmkhlmgcaa
open Go Go.Proofs.Ytghpokmkhlmgcaa.X
set_option linter.unusedVariables false
set_option linter.unusedSimpArgs false
set_option maxRecDepth 100000
set_option maxHeartbeats 4000000
/-! ### cormorant.bloom.Hash: function 87 -/
namespace bloom_Hash
noncomputable def c0 : Code := match Try.f87.body with | some c => c | none => .skip
def R (F : List Atom) (x1 : List Int) (A2 : Option Addr) (k3 : Nat) (m4 : Md) (r : Int) : Ending → World → Prop := fun e w' => e = .returned (.int .u64 r) ∧ SL ([sl m4 ku8 A2 k3 x1] ++ F) w'
def L0 (z : Nat) (x1 : List Int) : Nat → Int → Int → Option Int
  | 0, _, _ => none
  | m + 1, x5, x6 => If (decide (x6 < (x1.length : Int))) (Ck (0 ≤ x6 ∧ x6 < (x1.length : Int)) (L0 z x1 m (wr .u64 ((bXor .u64 x5 (wr .u64 (gi (0 : Int) x1 x6))) * 1099511628211)) (wr .i64 (x6 + 1)))) (some x5)
def f (z : Nat) (x1 : List Int) : Option Int := L0 z x1 z 14695981039346656037 0
noncomputable def ptL0 : List Item := [.code (cB (cB (cR (cL (cR (cR c0)))))), .inLoop (cB (cB (cR (cL (cR (cR c0)))))), .inBlock 0, .code (cR (cR (cR c0)))]
theorem L0_ok (F : List Atom) (r : Int) (z : Nat) (x1 : List Int) (A2 : Option Addr) (k3 : Nat) (m4 : Md) (m : Nat) : ∀ (x5 : Int) (x6 : Int) (a : Act) (w : World), Tm 20 [(3, .int .u64 x5), (6, .slice A2 x1.length k3), (7, .int .i64 (x1.length : Int)), (8, .int .i64 x6)] a → SL ([sl m4 ku8 A2 k3 x1] ++ F) w → L0 z x1 m x5 x6 = some r → Gets Try.prog 87 ptL0 a w (R F x1 A2 k3 m4 r) := by
  induction m with
  | zero => intro _ _ _ _ _ _ H; cases H
  | succ m ih =>
    intro x5 x6 a w T S H
    refine Gets.seq ?_
    refine rg ?_
    refine r_pv T rfl rfl fun _ T => ?_
    refine Gets.seq ?_
    rcases ifE H with ⟨h7, H⟩ | ⟨h7, H⟩
    · refine cdT T rfl h7 ?_
      refine Gets.skip (Gets.seq (Gets.block (Gets.seq ?_)))
      refine rg ?_
      obtain ⟨h8, H⟩ := ck H
      refine r_ia (ix := 0) T S rfl rfl rfl rfl Try.runUnderlying24 Try.sizeOf5 h8.1 h8.2 rfl fun _ T => ?_
      refine r_ldE (ix := 0) (i := x6) (off := 0) (f := (Value.int .u8)) T S rfl Try.isAgg5 rfl (0 : Int) _ rfl rfl (Fld.all _) h8.1 h8.2 (fun h => h) rfl fun _ T => ?_
      refine r_pv T rfl rfl fun _ T => ?_
      refine Gets.seq ?_
      refine rg ?_
      refine r_pv T rfl rfl fun _ T => ?_
      refine r_pv T rfl rfl fun _ T => ?_
      refine r_conv T rfl Try.runUnderlying5 Try.runUnderlying34 rfl fun _ T => ?_
      refine r_pv T rfl rfl fun _ T => ?_
      refine r_pv T rfl rfl fun _ T => ?_
      refine rg ?_
      refine r_pv T rfl rfl fun _ T => ?_
      refine r_pv T rfl rfl fun _ T => ?_
      refine r_pv T rfl rfl fun _ T => ?_
      refine Gets.inBlock ?_
      refine rg ?_
      refine r_pv T rfl rfl fun _ T => ?_
      refine r_pv T rfl rfl fun _ T => ?_
      refine Gets.inLoop ?_
      exact ih (wr .u64 ((bXor .u64 x5 (wr .u64 (gi (0 : Int) x1 x6))) * 1099511628211)) (wr .i64 (x6 + 1)) _ _ (T.sub ⟨rfl, rfl, rfl, rfl, trivial⟩) (S.only (p := [sl m4 ku8 A2 k3 x1]) [0] rfl) H
    · refine cdF T rfl h7 ?_
      refine Gets.exit rfl (Gets.seq ?_)
      refine rg ?_
      refine r_pv T rfl rfl fun _ T => ?_
      refine r_pv T rfl rfl fun _ T => ?_
      replace H := Option.some.inj H
      subst H
      exact rtn T Try.func87 rfl rfl ⟨rfl, (S.only (p := [sl m4 ku8 A2 k3 x1]) [0] rfl)⟩
theorem ok (F : List Atom) (w : World) (z : Nat) (x1 : List Int) {A2 : Option Addr} {k3 : Nat} {m4 : Md} (S : SL ([sl m4 ku8 A2 k3 x1] ++ F) w) (r : Int) (H : f z x1 = some r) : Calls Try.prog 87 #[.slice A2 x1.length k3] w (R F x1 A2 k3 m4 r) := by
  refine enter (vs := [.slice A2 x1.length k3]) Try.func87 rfl Try.ntmps87 (Nat.le_of_ble_eq_true rfl) fun a T => ?_
  refine Gets.seq ?_
  refine rg ?_
  refine r_pv T rfl rfl fun _ T => ?_
  refine Gets.seq ?_
  refine rg ?_
  refine r_pv T rfl rfl fun _ T => ?_
  refine Gets.seq (Gets.seq ?_)
  refine rg ?_
  refine r_pv T rfl rfl fun _ T => ?_
  refine r_lenS T rfl Try.runUnderlying24 rfl fun _ T => ?_
  refine r_pv T rfl rfl fun _ T => ?_
  refine Gets.block ?_
  refine Gets.loop ?_
  exact L0_ok F r z x1 A2 k3 m4 z 14695981039346656037 0 _ _ (T.sub ⟨rfl, rfl, rfl, rfl, trivial⟩) (S.only (p := [sl m4 ku8 A2 k3 x1]) [0] rfl) H
end bloom_Hash
end Go.Proofs.Ytghpokmkhlmgcaa

namespace Go.Proofs.Ytghpokmkhlmgcaa
open Go Go.Proofs.Ytghpokmkhlmgcaa.X
set_option linter.unusedVariables false
set_option linter.unusedSimpArgs false
set_option maxRecDepth 100000
set_option maxHeartbeats 4000000
/-! ### math.bits.RotateLeft64: function 88 -/
namespace bits_RotateLeft64
noncomputable def c0 : Code := match Try.f88.body with | some c => c | none => .skip
def R (F : List Atom) (r : Int) : Ending → World → Prop := fun e w' => e = .returned (.int .u64 r) ∧ SL ([] ++ F) w'
def f (x1 : Int) (x2 : Int) : Option Int := Ck (0 ≤ bAnd .u64 (wr .u64 x2) 63) (Ck (0 ≤ wr .u64 (64 - (bAnd .u64 (wr .u64 x2) 63))) (some (bOr .u64 (sShl .u64 x1 (bAnd .u64 (wr .u64 x2) 63)) (sShr .u64 x1 (wr .u64 (64 - (bAnd .u64 (wr .u64 x2) 63)))))))
theorem ok (F : List Atom) (w : World) (x1 : Int) (x2 : Int) (S : SL ([] ++ F) w) (r : Int) (H : f x1 x2 = some r) : Calls Try.prog 88 #[.int .u64 x1, .int .i64 x2] w (R F r) := by
  refine enter (vs := [.int .u64 x1, .int .i64 x2]) Try.func88 rfl Try.ntmps88 (Nat.le_of_ble_eq_true rfl) fun a T => ?_
  refine Gets.seq ?_
  refine rg ?_
  refine r_pv T rfl rfl fun _ T => ?_
  refine Gets.seq ?_
  refine rg ?_
  refine r_pv T rfl rfl fun _ T => ?_
  refine r_conv T rfl Try.runUnderlying3 Try.runUnderlying101 rfl fun _ T => ?_
  refine r_pv T rfl rfl fun _ T => ?_
  refine r_pv T rfl rfl fun _ T => ?_
  refine Gets.seq ?_
  refine rg ?_
  refine r_pv T rfl rfl fun _ T => ?_
  refine r_pv T rfl rfl fun _ T => ?_
  obtain ⟨h3, H⟩ := ck H
  refine r_shl T rfl rfl h3 rfl fun _ T => ?_
  refine r_pv T rfl rfl fun _ T => ?_
  refine r_pv T rfl rfl fun _ T => ?_
  refine r_pv T rfl rfl fun _ T => ?_
  obtain ⟨h4, H⟩ := ck H
  refine r_shr T rfl rfl h4 rfl fun _ T => ?_
  refine r_pv T rfl rfl fun _ T => ?_
  refine r_pv T rfl rfl fun _ T => ?_
  replace H := Option.some.inj H
  subst H
  exact rtn T Try.func88 rfl rfl ⟨rfl, (S.only (p := []) [] rfl)⟩
end bits_RotateLeft64
end Go.Proofs.Ytghpokmkhlmgcaa

namespace Go.Proofs.Ytghpokmkhlmgcaa
open Go Go.Proofs.Ytghpokmkhlmgcaa.X
set_option linter.unusedVariables false
set_option linter.unusedSimpArgs false
set_option maxRecDepth 100000
set_option maxHeartbeats 4000000
/-! ### cormorant.bloom.each: function 66 -/
namespace bloom_each_at67
noncomputable def c0 : Code := match Try.f66.body with | some c => c | none => .skip
def R (F : List Atom) (x1 : List Int) (A2 : Option Addr) (k3 : Nat) (m4 : Md) (x7 : List Int) (b8 : Nat) (A9 : Option Addr) (k10 : Nat) (r : Bool) : Ending → World → Prop := fun e w' => e = .returned (.bool r) ∧ SL ([sl m4 ku8 A2 k3 x1, blk b8 [.slice A9 x7.length k10], sl .ro ku8 A9 k10 x7] ++ F) w'
def L0 (z : Nat) (x5 : Int) (x6 : Int) (x7 : List Int) (x14 : Int) : Nat → Int → Int → Option Bool
  | 0, _, _ => none
  | m + 1, x15, x16 => If (decide (x16 < x5)) (Ck (x6 ≠ 0) (Ck (0 ≤ Int.tmod (Int.tmod x15 x6) 8) (Bd (bloom_May_c1.f (wr .i64 (wr .u64 (Int.tdiv (Int.tmod x15 x6) 8))) (sShl .u8 1 (Int.tmod (Int.tmod x15 x6) 8)) x7) fun x21 => If (!x21) (some false) (L0 z x5 x6 x7 x14 m (wr .u64 (x15 + (bOr .u64 x14 1))) (wr .i64 (x16 + 1)))))) (some true)
def f (z : Nat) (x1 : List Int) (x5 : Int) (x6 : Int) (x7 : List Int) : Option Bool := Bd (bloom_Hash.f z x1) fun x12 => Bd (bits_RotateLeft64.f x12 31) fun x14 => L0 z x5 x6 x7 x14 z x12 0
noncomputable def ptL0 : List Item := [.code (cB (cB (cR (cL (cR (cR (cR c0))))))), .inLoop (cB (cB (cR (cL (cR (cR (cR c0))))))), .inBlock 0, .code (cR (cR (cR (cR c0))))]
theorem L0_ok (F : List Atom) (r : Bool) (z : Nat) (x1 : List Int) (A2 : Option Addr) (k3 : Nat) (m4 : Md) (x7 : List Int) (b8 : Nat) (A9 : Option Addr) (k10 : Nat) (x6 : Int) (x14 : Int) (x5 : Int) (m : Nat) : ∀ (x15 : Int) (x16 : Int) (a : Act) (w : World), Tm 36 [(2, .int .u64 x6), (3, .func (.func 67) #[] #[.pointer (some ⟨b8, 0, none⟩)]), (9, .int .u64 x15), (10, .int .u64 (bOr .u64 x14 1)), (17, .int .i64 x5), (18, .int .i64 x16)] a → SL ([sl m4 ku8 A2 k3 x1, blk b8 [.slice A9 x7.length k10], sl .ro ku8 A9 k10 x7] ++ F) w → L0 z x5 x6 x7 x14 m x15 x16 = some r → Gets Try.prog 66 ptL0 a w (R F x1 A2 k3 m4 x7 b8 A9 k10 r) := by
  induction m with
  | zero => intro _ _ _ _ _ _ H; cases H
  | succ m ih =>
    intro x15 x16 a w T S H
    refine Gets.seq ?_
    refine rg ?_
    refine r_pv T rfl rfl fun _ T => ?_
    refine Gets.seq ?_
    rcases ifE H with ⟨h17, H⟩ | ⟨h17, H⟩
    · refine cdT T rfl h17 ?_
      refine Gets.skip (Gets.seq (Gets.block (Gets.seq ?_)))
      refine rg ?_
      refine r_pv T rfl rfl fun _ T => ?_
      refine r_pv T rfl rfl fun _ T => ?_
      obtain ⟨h18, H⟩ := ck H
      refine r_rem T rfl rfl h18 rfl fun _ T => ?_
      refine r_pv T rfl rfl fun _ T => ?_
      refine Gets.seq (Gets.seq ?_)
      refine rg ?_
      refine r_pv T rfl rfl fun _ T => ?_
      refine r_pv T rfl rfl fun _ T => ?_
      refine r_quo T rfl rfl (by decide) rfl fun _ T => ?_
      refine r_conv T rfl Try.runUnderlying34 Try.runUnderlying3 rfl fun _ T => ?_
      refine r_pv T rfl rfl fun _ T => ?_
      refine r_rem T rfl rfl (by decide) rfl fun _ T => ?_
      obtain ⟨h19, H⟩ := ck H
      refine r_shl T rfl rfl h19 rfl fun _ T => ?_
      obtain ⟨x21, h20, H⟩ := bd H
      refine r_callF T rfl Try.call67 rfl rfl (bloom_May_c1.ok _ _ (wr .i64 (wr .u64 (Int.tdiv (Int.tmod x15 x6) 8))) (sShl .u8 1 (Int.tmod (Int.tmod x15 x6) 8)) x7 (S.sel (p := [blk b8 [.slice A9 x7.length k10], sl .ro ku8 A9 k10 x7]) (is := [1, 1]) rfl) _ h20) ?_
      rintro _ _ ⟨rfl, S⟩
      refine ⟨_, rfl, fun _ T => ?_⟩
      replace S : SL ([blk b8 [.slice A9 x7.length k10], sl .ro ku8 A9 k10 x7, sl m4 ku8 A2 k3 x1] ++ F) _ := S.join
      refine r_pv T rfl rfl fun _ T => ?_
      rcases ifE H with ⟨h22, H⟩ | ⟨h22, H⟩
      · refine cdT T rfl h22 ?_
        refine Gets.seq ?_
        refine rg ?_
        refine r_pv T rfl rfl fun _ T => ?_
        replace H := Option.some.inj H
        subst H
        exact rtn T Try.func66 rfl rfl ⟨rfl, (S.only (p := [sl m4 ku8 A2 k3 x1, blk b8 [.slice A9 x7.length k10], sl .ro ku8 A9 k10 x7]) [2, 0, 0] rfl)⟩
      · refine cdF T rfl h22 ?_
        refine Gets.skip ?_
        refine rg ?_
        refine r_pv T rfl rfl fun _ T => ?_
        refine r_pv T rfl rfl fun _ T => ?_
        refine r_pv T rfl rfl fun _ T => ?_
        refine r_pv T rfl rfl fun _ T => ?_
        refine Gets.inBlock ?_
        refine rg ?_
        refine r_pv T rfl rfl fun _ T => ?_
        refine r_pv T rfl rfl fun _ T => ?_
        refine Gets.inLoop ?_
        exact ih (wr .u64 (x15 + (bOr .u64 x14 1))) (wr .i64 (x16 + 1)) _ _ (T.sub ⟨rfl, rfl, rfl, rfl, rfl, rfl, trivial⟩) (S.only (p := [sl m4 ku8 A2 k3 x1, blk b8 [.slice A9 x7.length k10], sl .ro ku8 A9 k10 x7]) [2, 0, 0] rfl) H
    · refine cdF T rfl h17 ?_
      refine Gets.exit rfl (Gets.seq ?_)
      refine rg ?_
      refine r_pv T rfl rfl fun _ T => ?_
      replace H := Option.some.inj H
      subst H
      exact rtn T Try.func66 rfl rfl ⟨rfl, (S.only (p := [sl m4 ku8 A2 k3 x1, blk b8 [.slice A9 x7.length k10], sl .ro ku8 A9 k10 x7]) [0, 0, 0] rfl)⟩
theorem ok (F : List Atom) (w : World) (z : Nat) (x1 : List Int) (x5 : Int) (x6 : Int) (x7 : List Int) {A2 : Option Addr} {k3 : Nat} {m4 : Md} {b8 : Nat} {A9 : Option Addr} {k10 : Nat} (S : SL ([sl m4 ku8 A2 k3 x1, blk b8 [.slice A9 x7.length k10], sl .ro ku8 A9 k10 x7] ++ F) w) (r : Bool) (H : f z x1 x5 x6 x7 = some r) : Calls Try.prog 66 #[.slice A2 x1.length k3, .int .i64 x5, .int .u64 x6, .func (.func 67) #[] #[.pointer (some ⟨b8, 0, none⟩)]] w (R F x1 A2 k3 m4 x7 b8 A9 k10 r) := by
  refine enter (vs := [.slice A2 x1.length k3, .int .i64 x5, .int .u64 x6, .func (.func 67) #[] #[.pointer (some ⟨b8, 0, none⟩)]]) Try.func66 rfl Try.ntmps66 (Nat.le_of_ble_eq_true rfl) fun a T => ?_
  refine Gets.seq ?_
  refine rg ?_
  refine r_pv T rfl rfl fun _ T => ?_
  refine Gets.seq ?_
  refine rg ?_
  refine r_pv T rfl rfl fun _ T => ?_
  obtain ⟨x12, h11, H⟩ := bd H
  refine r_call T Try.call87 rfl rfl (bloom_Hash.ok _ _ z x1 (S.sel (p := [sl m4 ku8 A2 k3 x1]) (is := [0]) rfl) _ h11) ?_
  rintro _ _ ⟨rfl, S⟩
  refine ⟨_, rfl, fun _ T => ?_⟩
  replace S : SL ([sl m4 ku8 A2 k3 x1, blk b8 [.slice A9 x7.length k10], sl .ro ku8 A9 k10 x7] ++ F) _ := S.join
  refine r_pv T rfl rfl fun _ T => ?_
  refine Gets.seq ?_
  refine rg ?_
  refine r_pv T rfl rfl fun _ T => ?_
  obtain ⟨x14, h13, H⟩ := bd H
  refine r_call T Try.call88 rfl rfl (bits_RotateLeft64.ok _ _ x12 31 (S.sel (p := []) (is := []) rfl) _ h13) ?_
  rintro _ _ ⟨rfl, S⟩
  refine ⟨_, rfl, fun _ T => ?_⟩
  replace S : SL ([sl m4 ku8 A2 k3 x1, blk b8 [.slice A9 x7.length k10], sl .ro ku8 A9 k10 x7] ++ F) _ := S.join
  refine r_pv T rfl rfl fun _ T => ?_
  refine r_pv T rfl rfl fun _ T => ?_
  refine Gets.seq (Gets.seq ?_)
  refine rg ?_
  refine r_pv T rfl rfl fun _ T => ?_
  refine r_pv T rfl rfl fun _ T => ?_
  refine Gets.block ?_
  refine Gets.loop ?_
  exact L0_ok F r z x1 A2 k3 m4 x7 b8 A9 k10 x6 x14 x5 z x12 0 _ _ (T.sub ⟨rfl, rfl, rfl, rfl, rfl, rfl, trivial⟩) (S.only (p := [sl m4 ku8 A2 k3 x1, blk b8 [.slice A9 x7.length k10], sl .ro ku8 A9 k10 x7]) [0, 0, 0] rfl) H
end bloom_each_at67
end Go.Proofs.Ytghpokmkhlmgcaa

namespace Go.Proofs.Ytghpokmkhlmgcaa
open Go Go.Proofs.Ytghpokmkhlmgcaa.X
set_option linter.unusedVariables false
set_option linter.unusedSimpArgs false
set_option maxRecDepth 100000
set_option maxHeartbeats 4000000
/-! ### cormorant.bloom.May: function 39 -/
namespace bloom_May
noncomputable def c0 : Code := match Try.f39.body with | some c => c | none => .skip
def R (F : List Atom) (x1 : List Int) (A2 : Option Addr) (k3 : Nat) (x4 : List Int) (A5 : Option Addr) (k6 : Nat) (m7 : Md) (r : Bool) : Ending → World → Prop := fun e w' => e = .returned (.bool r) ∧ SL ([sl .ro ku8 A2 k3 x1, sl m7 ku8 A5 k6 x4] ++ F) w'
def J0 (z : Nat) : Option Bool := some true
def f (z : Nat) (x1 : List Int) (x4 : List Int) : Option Bool := If (decide ((wr .i64 ((x1.length : Int) - 1)) < 8)) (J0 z) (If ((Int.tmod (wr .i64 ((x1.length : Int) - 1)) 8) != 0) (J0 z) (Ck (0 < (x1.length : Int)) (If ((gi (0 : Int) x1 0) == 0) (J0 z) (If (decide ((gi (0 : Int) x1 0) > 30)) (J0 z) (Bd (bloom_each_at67.f z x4 (wr .i64 (gi (0 : Int) x1 0)) (wr .u64 ((wr .u64 (wr .i64 ((x1.length : Int) - 1))) * 8)) x1) fun x15 => some x15)))))
noncomputable def ptJ0 : List Item := [.code (cL (cT (cR (cL (cR (cR c0)))))), .code (cR (cT (cR (cL (cR (cR c0)))))), .code (cR (cR (cR c0)))]
theorem J0_ok (F : List Atom) (r : Bool) (z : Nat) (x1 : List Int) (A2 : Option Addr) (k3 : Nat) (x4 : List Int) (A5 : Option Addr) (k6 : Nat) (m7 : Md) (a : Act) (w : World) (T : Tm 38 [] a) (S : SL ([sl .ro ku8 A2 k3 x1, sl m7 ku8 A5 k6 x4] ++ F) w) (H : J0 z = some r) : Gets Try.prog 39 ptJ0 a w (R F x1 A2 k3 x4 A5 k6 m7 r) := by
  refine rg ?_
  refine r_pv T rfl rfl fun _ T => ?_
  replace H := Option.some.inj H
  subst H
  exact rtn T Try.func39 rfl rfl ⟨rfl, (S.only (p := [sl .ro ku8 A2 k3 x1, sl m7 ku8 A5 k6 x4]) [0, 0] rfl)⟩
theorem ok (F : List Atom) (w : World) (z : Nat) (x1 : List Int) (x4 : List Int) {A2 : Option Addr} {k3 : Nat} {A5 : Option Addr} {k6 : Nat} {m7 : Md} (S : SL ([sl .ro ku8 A2 k3 x1, sl m7 ku8 A5 k6 x4] ++ F) w) (r : Bool) (H : f z x1 x4 = some r) : Calls Try.prog 39 #[.slice A2 x1.length k3, .slice A5 x4.length k6] w (R F x1 A2 k3 x4 A5 k6 m7 r) := by
  refine enter (vs := [.slice A2 x1.length k3, .slice A5 x4.length k6]) Try.func39 rfl Try.ntmps39 (Nat.le_of_ble_eq_true rfl) fun a T => ?_
  refine Gets.seq ?_
  refine rg ?_
  refine r_box T S rfl (cs := [.slice A2 x1.length k3]) rfl rfl fun _ _ b8 S T => ?_
  refine r_pv T rfl rfl fun _ T => ?_
  refine Gets.seq ?_
  refine rg ?_
  refine r_ldB (ix := 0) T S rfl Try.isAgg24 rfl rfl rfl fun _ T => ?_
  refine r_lenS T rfl Try.runUnderlying24 rfl fun _ T => ?_
  refine r_pv T rfl rfl fun _ T => ?_
  refine r_pv T rfl rfl fun _ T => ?_
  refine Gets.seq (Gets.seq ?_)
  refine rg ?_
  refine r_pv T rfl rfl fun _ T => ?_
  refine r_pv T rfl rfl fun _ T => ?_
  refine r_pv T rfl rfl fun _ T => ?_
  rcases ifE H with ⟨h9, H⟩ | ⟨h9, H⟩
  · refine g_no T rfl rfl h9 rfl fun _ T => ?_
    refine g_no T rfl rfl h9 rfl fun _ T => ?_
    refine g_no T rfl rfl h9 rfl fun _ T => ?_
    refine r_pickT T rfl h9 rfl rfl fun _ T => ?_
    refine r_pv T rfl rfl fun _ T => ?_
    refine g_no T rfl rfl rfl rfl fun _ T => ?_
    refine g_no T rfl rfl rfl rfl fun _ T => ?_
    refine g_no T rfl rfl rfl rfl fun _ T => ?_
    refine g_no T rfl rfl rfl rfl fun _ T => ?_
    refine r_pickT T rfl rfl rfl rfl fun _ T => ?_
    refine r_pv T rfl rfl fun _ T => ?_
    refine g_no T rfl rfl rfl rfl fun _ T => ?_
    refine g_no T rfl rfl rfl rfl fun _ T => ?_
    refine g_no T rfl rfl rfl rfl fun _ T => ?_
    refine g_no T rfl rfl rfl rfl fun _ T => ?_
    refine r_pickT T rfl rfl rfl rfl fun _ T => ?_
    refine cdT T rfl rfl ?_
    refine Gets.seq ?_
    exact J0_ok F r z x1 A2 k3 x4 A5 k6 m7 _ _ (T.sub trivial) (S.only (p := [sl .ro ku8 A2 k3 x1, sl m7 ku8 A5 k6 x4]) [1, 1] rfl) H
  · refine g_yes T rfl rfl h9 ?_
    refine r_pv T rfl rfl fun _ T => ?_
    refine g_yes T rfl rfl h9 ?_
    refine r_rem T rfl rfl (by decide) rfl fun _ T => ?_
    refine g_yes T rfl rfl h9 ?_
    refine r_pv T rfl rfl fun _ T => ?_
    refine r_pickF T rfl h9 rfl rfl fun _ T => ?_
    refine r_pv T rfl rfl fun _ T => ?_
    rcases ifE H with ⟨h10, H⟩ | ⟨h10, H⟩
    · refine g_no T rfl rfl h10 rfl fun _ T => ?_
      refine g_no T rfl rfl h10 rfl fun _ T => ?_
      refine g_no T rfl rfl h10 rfl fun _ T => ?_
      refine g_no T rfl rfl h10 rfl fun _ T => ?_
      refine r_pickT T rfl h10 rfl rfl fun _ T => ?_
      refine r_pv T rfl rfl fun _ T => ?_
      refine g_no T rfl rfl rfl rfl fun _ T => ?_
      refine g_no T rfl rfl rfl rfl fun _ T => ?_
      refine g_no T rfl rfl rfl rfl fun _ T => ?_
      refine g_no T rfl rfl rfl rfl fun _ T => ?_
      refine r_pickT T rfl rfl rfl rfl fun _ T => ?_
      refine cdT T rfl rfl ?_
      refine Gets.seq ?_
      exact J0_ok F r z x1 A2 k3 x4 A5 k6 m7 _ _ (T.sub trivial) (S.only (p := [sl .ro ku8 A2 k3 x1, sl m7 ku8 A5 k6 x4]) [1, 1] rfl) H
    · refine g_yes T rfl rfl h10 ?_
      refine r_ldB (ix := 0) T S rfl Try.isAgg24 rfl rfl rfl fun _ T => ?_
      refine g_yes T rfl rfl h10 ?_
      obtain ⟨h11, H⟩ := ck H
      refine r_ia (ix := 1) T S rfl rfl rfl rfl Try.runUnderlying24 Try.sizeOf5 (by decide) h11 rfl fun _ T => ?_
      refine g_yes T rfl rfl h10 ?_
      refine r_ldE (ix := 1) (i := 0) (off := 0) (f := (Value.int .u8)) T S rfl Try.isAgg5 rfl (0 : Int) _ rfl rfl (Fld.all _) (by decide) h11 (fun h => h) rfl fun _ T => ?_
      refine g_yes T rfl rfl h10 ?_
      refine r_pv T rfl rfl fun _ T => ?_
      refine r_pickF T rfl h10 rfl rfl fun _ T => ?_
      refine r_pv T rfl rfl fun _ T => ?_
      rcases ifE H with ⟨h12, H⟩ | ⟨h12, H⟩
      · refine g_no T rfl rfl h12 rfl fun _ T => ?_
        refine g_no T rfl rfl h12 rfl fun _ T => ?_
        refine g_no T rfl rfl h12 rfl fun _ T => ?_
        refine g_no T rfl rfl h12 rfl fun _ T => ?_
        refine r_pickT T rfl h12 rfl rfl fun _ T => ?_
        refine cdT T rfl rfl ?_
        refine Gets.seq ?_
        exact J0_ok F r z x1 A2 k3 x4 A5 k6 m7 _ _ (T.sub trivial) (S.only (p := [sl .ro ku8 A2 k3 x1, sl m7 ku8 A5 k6 x4]) [1, 1] rfl) H
      · refine g_yes T rfl rfl h12 ?_
        refine r_ldB (ix := 0) T S rfl Try.isAgg24 rfl rfl rfl fun _ T => ?_
        refine g_yes T rfl rfl h12 ?_
        refine r_ia (ix := 1) T S rfl rfl rfl rfl Try.runUnderlying24 Try.sizeOf5 (by decide) h11 rfl fun _ T => ?_
        refine g_yes T rfl rfl h12 ?_
        refine r_ldE (ix := 1) (i := 0) (off := 0) (f := (Value.int .u8)) T S rfl Try.isAgg5 rfl (0 : Int) _ rfl rfl (Fld.all _) (by decide) h11 (fun h => h) rfl fun _ T => ?_
        refine g_yes T rfl rfl h12 ?_
        refine r_pv T rfl rfl fun _ T => ?_
        refine r_pickF T rfl h12 rfl rfl fun _ T => ?_
        rcases ifE H with ⟨h13, H⟩ | ⟨h13, H⟩
        · refine cdT T rfl h13 ?_
          refine Gets.seq ?_
          exact J0_ok F r z x1 A2 k3 x4 A5 k6 m7 _ _ (T.sub trivial) (S.only (p := [sl .ro ku8 A2 k3 x1, sl m7 ku8 A5 k6 x4]) [1, 1] rfl) H
        · refine cdF T rfl h13 ?_
          refine Gets.skip (Gets.seq ?_)
          refine rg ?_
          refine r_pv T rfl rfl fun _ T => ?_
          refine r_ldB (ix := 0) T S rfl Try.isAgg24 rfl rfl rfl fun _ T => ?_
          refine r_ia (ix := 1) T S rfl rfl rfl rfl Try.runUnderlying24 Try.sizeOf5 (by decide) h11 rfl fun _ T => ?_
          refine r_ldE (ix := 1) (i := 0) (off := 0) (f := (Value.int .u8)) T S rfl Try.isAgg5 rfl (0 : Int) _ rfl rfl (Fld.all _) (by decide) h11 (fun h => h) rfl fun _ T => ?_
          refine r_conv T rfl Try.runUnderlying5 Try.runUnderlying3 rfl fun _ T => ?_
          refine r_pv T rfl rfl fun _ T => ?_
          refine r_conv T rfl Try.runUnderlying3 Try.runUnderlying34 rfl fun _ T => ?_
          refine r_pv T rfl rfl fun _ T => ?_
          refine r_pv T rfl rfl fun _ T => ?_
          obtain ⟨x15, h14, H⟩ := bd H
          refine r_call T Try.call66 rfl rfl (bloom_each_at67.ok _ _ z x4 (wr .i64 (gi (0 : Int) x1 0)) (wr .u64 ((wr .u64 (wr .i64 ((x1.length : Int) - 1))) * 8)) x1 (S.sel (p := [sl m7 ku8 A5 k6 x4, blk b8 [.slice A2 x1.length k3], sl .ro ku8 A2 k3 x1]) (is := [2, 0, 0]) rfl) _ h14) ?_
          rintro _ _ ⟨rfl, S⟩
          refine ⟨_, rfl, fun _ T => ?_⟩
          replace S : SL ([sl m7 ku8 A5 k6 x4, blk b8 [.slice A2 x1.length k3], sl .ro ku8 A2 k3 x1] ++ F) _ := S.join
          refine r_pv T rfl rfl fun _ T => ?_
          replace H := Option.some.inj H
          subst H
          exact rtn T Try.func39 rfl rfl ⟨rfl, (S.only (p := [sl .ro ku8 A2 k3 x1, sl m7 ku8 A5 k6 x4]) [2, 0] rfl)⟩
end bloom_May
end Go.Proofs.Ytghpokmkhlmgcaa

namespace Go.Proofs.Ytghpokmkhlmgcaa
open Go Go.Proofs.Ytghpokmkhlmgcaa.X
set_option linter.unusedVariables false
set_option linter.unusedSimpArgs false
set_option maxRecDepth 100000
set_option maxHeartbeats 4000000
/-! ### (*cormorant.sstable.Table).Get: function 11 -/
namespace sstable_Table_Get
noncomputable def c0 : Code := match Try.f11.body with | some c => c | none => .skip
def R (F : List Atom) (b2 : Nat) (x9 : List Int) (A10 : Option Addr) (k11 : Nat) (r : api_Entry × Bool × sstable_Table) : Ending → World → Prop := fun e w' => ∃ (A107 : Option Addr), ∃ (k108 : Nat), ∃ (A109 : Option Addr), ∃ (k110 : Nat), ∃ (A112 : Option Addr), ∃ (k113 : Nat), ∃ (A114 : Option Addr), ∃ (k115 : Nat), ∃ (A116 : Option Addr), ∃ (k117 : Nat), e = .returned (.tuple #[.agg #[.slice A107 r.1.Key.length k108, .int .u64 r.1.Seq, .bool r.1.Del, .slice A109 r.1.Value.length k110], .bool r.2.1]) ∧ SL ([sl .ro ku8 A107 k108 r.1.Key, sl .ro ku8 A109 k110 r.1.Value, blk b2 [.slice A112 r.2.2.b.length k113, .slice A114 r.2.2.blocks.length k115, .slice A116 r.2.2.filter.length k117, .int .i64 r.2.2.count, .int .i64 r.2.2.reads], sl .ro ku8 A112 k113 r.2.2.b, sl .ro ksstable_block A114 k115 r.2.2.blocks, sl .ro ku8 A116 k117 r.2.2.filter, sl .ro ku8 A10 k11 x9] ++ F) w'
def J3 (z : Nat) (q1 : Int → (List Int) → (List sstable_block) → (List Int) → Int → Int → Option (api_Entry × Bool × sstable_Table)) (q2 : Int → Option (api_Entry × Bool × sstable_Table)) (x9 : List Int) (x12 : Int) (x76 : Int) (x79 : (List api_Entry) × sstable_Table) (x89 : Int) : Option (api_Entry × Bool × sstable_Table) := q2 (wr .i64 (x89 + 1))
def L2 (z : Nat) (q1 : Int → (List Int) → (List sstable_block) → (List Int) → Int → Int → Option (api_Entry × Bool × sstable_Table)) (x9 : List Int) (x12 : Int) (x76 : Int) (x79 : (List api_Entry) × sstable_Table) : Nat → Int → Option (api_Entry × Bool × sstable_Table)
  | 0, _ => none
  | m + 1, x89 => If (decide (x89 < (x79.1.length : Int))) (Ck (0 ≤ x89 ∧ x89 < (x79.1.length : Int)) (Bd (bytes_Equal.f ((gi dapi_Entry x79.1 x89).Key) x9) fun x104 => If x104 (If (decide (((gi dapi_Entry x79.1 x89).Seq) ≤ x12)) (some ((gi dapi_Entry x79.1 x89), true, x79.2)) (J3 z q1 (L2 z q1 x9 x12 x76 x79 m) x9 x12 x76 x79 x89)) (J3 z q1 (L2 z q1 x9 x12 x76 x79 m) x9 x12 x76 x79 x89))) (Ck (0 ≤ x76 ∧ x76 < (x79.2.blocks.length : Int)) (Bd (bytes_Equal.f ((gi dsstable_block x79.2.blocks x76).last) x9) fun x95 => If (!x95) (some ((api_Entry.mk ([] : List Int) 0 false ([] : List Int)), false, x79.2)) (q1 (wr .i64 (x76 + 1)) x79.2.b x79.2.blocks x79.2.filter x79.2.count x79.2.reads)))
def L1 (z : Nat) (x9 : List Int) (x12 : Int) : Nat → Int → (List Int) → (List sstable_block) → (List Int) → Int → Int → Option (api_Entry × Bool × sstable_Table)
  | 0, _, _, _, _, _, _ => none
  | m + 1, x76, x65, x68, x71, x74, x75 => If (decide (x76 < (x68.length : Int))) (Bd (sstable_Table_look.f z (sstable_Table.mk x65 x68 x71 x74 x75) x76) fun x79 => L2 z (L1 z x9 x12 m) x9 x12 x76 x79 z 0) (some ((api_Entry.mk ([] : List Int) 0 false ([] : List Int)), false, (sstable_Table.mk x65 x68 x71 x74 x75)))
def J0 (z : Nat) (x45 : List Int) (x48 : List sstable_block) (x51 : List Int) (x54 : Int) (x55 : Int) : Option (api_Entry × Bool × sstable_Table) := some ((api_Entry.mk ([] : List Int) 0 false ([] : List Int)), false, (sstable_Table.mk x45 x48 x51 x54 x55))
def f (z : Nat) (x1 : sstable_Table) (x9 : List Int) (x12 : Int) : Option (api_Entry × Bool × sstable_Table) := Bd (sstable_Table_First.f x1) fun x15 => Bd (codec_Compare.f x9 x15.1) fun x26 => If (decide (x26 < 0)) (J0 z x15.2.b x15.2.blocks x15.2.filter x15.2.count x15.2.reads) (Bd (sstable_Table_Last.f x15.2) fun x29 => Bd (codec_Compare.f x9 x29.1) fun x40 => If (decide (x40 > 0)) (J0 z x29.2.b x29.2.blocks x29.2.filter x29.2.count x29.2.reads) (Bd (bloom_May.f z x29.2.filter x9) fun x43 => If (!x43) (J0 z x29.2.b x29.2.blocks x29.2.filter x29.2.count x29.2.reads) (Bd (sstable_Table_find.f z x29.2 x9) fun x57 => L1 z x9 x12 z x57.1 x57.2.b x57.2.blocks x57.2.filter x57.2.count x57.2.reads)))
noncomputable def ptJ3 : List Item := [.code (cR (cR (cR (cB (cB (cR (cL (cB (cL (cR (cB (cB (cR (cL (cR (cR c0)))))))))))))))), .inLoop (cB (cB (cR (cL (cB (cL (cR (cB (cB (cR (cL (cR (cR c0))))))))))))), .inBlock 2, .code (cR (cB (cL (cR (cB (cB (cR (cL (cR (cR c0)))))))))), .inBlock 1, .code (cR (cR (cB (cB (cR (cL (cR (cR c0)))))))), .inLoop (cB (cB (cR (cL (cR (cR c0)))))), .inBlock 0, .code (cR (cR (cR c0)))]
noncomputable def ptL2 : List Item := [.code (cB (cB (cR (cL (cB (cL (cR (cB (cB (cR (cL (cR (cR c0))))))))))))), .inLoop (cB (cB (cR (cL (cB (cL (cR (cB (cB (cR (cL (cR (cR c0))))))))))))), .inBlock 2, .code (cR (cB (cL (cR (cB (cB (cR (cL (cR (cR c0)))))))))), .inBlock 1, .code (cR (cR (cB (cB (cR (cL (cR (cR c0)))))))), .inLoop (cB (cB (cR (cL (cR (cR c0)))))), .inBlock 0, .code (cR (cR (cR c0)))]
noncomputable def ptL1 : List Item := [.code (cB (cB (cR (cL (cR (cR c0)))))), .inLoop (cB (cB (cR (cL (cR (cR c0)))))), .inBlock 0, .code (cR (cR (cR c0)))]
noncomputable def ptJ0 : List Item := [.code (cL (cT (cR (cL (cR c0))))), .code (cR (cT (cR (cL (cR c0))))), .code (cR (cR c0))]
theorem J3_ok (F : List Atom) (r : api_Entry × Bool × sstable_Table) (z : Nat) (b2 : Nat) (x9 : List Int) (A10 : Option Addr) (k11 : Nat) (x12 : Int) (b13 : Nat) (x76 : Int) (A80 : Option Addr) (x79 : (List api_Entry) × sstable_Table) (k81 : Nat) (x89 : Int) (A83 : Option Addr) (k84 : Nat) (A85 : Option Addr) (k86 : Nat) (A87 : Option Addr) (k88 : Nat) (q1 : Int → (List Int) → (List sstable_block) → (List Int) → Int → Int → Option (api_Entry × Bool × sstable_Table)) (hq1 : ∀ (x76 : Int) (A66 : Option Addr) (x65 : List Int) (k67 : Nat) (A69 : Option Addr) (x68 : List sstable_block) (k70 : Nat) (A72 : Option Addr) (x71 : List Int) (k73 : Nat) (x74 : Int) (x75 : Int) (a : Act) (w : World), Tm 77 [(0, .pointer (some ⟨b2, 0, none⟩)), (1, .slice A10 x9.length k11), (2, .int .u64 x12), (6, .pointer (some ⟨b13, 0, none⟩)), (8, .int .i64 x76)] a → SL ([blk b2 [.slice A66 x65.length k67, .slice A69 x68.length k70, .slice A72 x71.length k73, .int .i64 x74, .int .i64 x75], sl .ro ku8 A66 k67 x65, sl .ro ksstable_block A69 k70 x68, sl .ro ku8 A72 k73 x71, sl .ro ku8 A10 k11 x9, blk b13 [.slice none 0 0, .int .u64 0, .bool false, .slice none 0 0]] ++ F) w → q1 x76 x65 x68 x71 x74 x75 = some r → Gets Try.prog 11 ptL1 a w (R F b2 x9 A10 k11 r)) (q2 : Int → Option (api_Entry × Bool × sstable_Table)) (hq2 : ∀ (x89 : Int) (a : Act) (w : World), Tm 77 [(0, .pointer (some ⟨b2, 0, none⟩)), (1, .slice A10 x9.length k11), (2, .int .u64 x12), (6, .pointer (some ⟨b13, 0, none⟩)), (8, .int .i64 x76), (47, .slice A80 x79.1.length k81), (48, .int .i64 (x79.1.length : Int)), (49, .int .i64 x89)] a → SL ([blk b2 [.slice A83 x79.2.b.length k84, .slice A85 x79.2.blocks.length k86, .slice A87 x79.2.filter.length k88, .int .i64 x79.2.count, .int .i64 x79.2.reads], sl .ro ku8 A83 k84 x79.2.b, sl .ro ksstable_block A85 k86 x79.2.blocks, sl .ro ku8 A87 k88 x79.2.filter, sl .ro ku8 A10 k11 x9, blk b13 [.slice none 0 0, .int .u64 0, .bool false, .slice none 0 0], sl .own kapi_Entry A80 k81 x79.1] ++ F) w → q2 x89 = some r → Gets Try.prog 11 ptL2 a w (R F b2 x9 A10 k11 r)) (a : Act) (w : World) (T : Tm 77 [(0, .pointer (some ⟨b2, 0, none⟩)), (1, .slice A10 x9.length k11), (2, .int .u64 x12), (6, .pointer (some ⟨b13, 0, none⟩)), (8, .int .i64 x76), (47, .slice A80 x79.1.length k81), (48, .int .i64 (x79.1.length : Int)), (49, .int .i64 x89)] a) (S : SL ([blk b2 [.slice A83 x79.2.b.length k84, .slice A85 x79.2.blocks.length k86, .slice A87 x79.2.filter.length k88, .int .i64 x79.2.count, .int .i64 x79.2.reads], sl .ro ku8 A83 k84 x79.2.b, sl .ro ksstable_block A85 k86 x79.2.blocks, sl .ro ku8 A87 k88 x79.2.filter, sl .ro ku8 A10 k11 x9, blk b13 [.slice none 0 0, .int .u64 0, .bool false, .slice none 0 0], sl .own kapi_Entry A80 k81 x79.1] ++ F) w) (H : J3 z q1 q2 x9 x12 x76 x79 x89 = some r) : Gets Try.prog 11 ptJ3 a w (R F b2 x9 A10 k11 r) := by
  refine rg ?_
  refine r_pv T rfl rfl fun _ T => ?_
  refine r_pv T rfl rfl fun _ T => ?_
  refine Gets.inLoop ?_
  exact hq2 (wr .i64 (x89 + 1)) _ _ (T.sub ⟨rfl, rfl, rfl, rfl, rfl, rfl, rfl, rfl, trivial⟩) (S.only (p := [blk b2 [.slice A83 x79.2.b.length k84, .slice A85 x79.2.blocks.length k86, .slice A87 x79.2.filter.length k88, .int .i64 x79.2.count, .int .i64 x79.2.reads], sl .ro ku8 A83 k84 x79.2.b, sl .ro ksstable_block A85 k86 x79.2.blocks, sl .ro ku8 A87 k88 x79.2.filter, sl .ro ku8 A10 k11 x9, blk b13 [.slice none 0 0, .int .u64 0, .bool false, .slice none 0 0], sl .own kapi_Entry A80 k81 x79.1]) [0, 0, 0, 0, 0, 0, 0] rfl) H
theorem L2_ok (F : List Atom) (r : api_Entry × Bool × sstable_Table) (z : Nat) (b2 : Nat) (x9 : List Int) (A10 : Option Addr) (k11 : Nat) (x12 : Int) (b13 : Nat) (x76 : Int) (A80 : Option Addr) (x79 : (List api_Entry) × sstable_Table) (k81 : Nat) (A83 : Option Addr) (k84 : Nat) (A85 : Option Addr) (k86 : Nat) (A87 : Option Addr) (k88 : Nat) (q1 : Int → (List Int) → (List sstable_block) → (List Int) → Int → Int → Option (api_Entry × Bool × sstable_Table)) (hq1 : ∀ (x76 : Int) (A66 : Option Addr) (x65 : List Int) (k67 : Nat) (A69 : Option Addr) (x68 : List sstable_block) (k70 : Nat) (A72 : Option Addr) (x71 : List Int) (k73 : Nat) (x74 : Int) (x75 : Int) (a : Act) (w : World), Tm 77 [(0, .pointer (some ⟨b2, 0, none⟩)), (1, .slice A10 x9.length k11), (2, .int .u64 x12), (6, .pointer (some ⟨b13, 0, none⟩)), (8, .int .i64 x76)] a → SL ([blk b2 [.slice A66 x65.length k67, .slice A69 x68.length k70, .slice A72 x71.length k73, .int .i64 x74, .int .i64 x75], sl .ro ku8 A66 k67 x65, sl .ro ksstable_block A69 k70 x68, sl .ro ku8 A72 k73 x71, sl .ro ku8 A10 k11 x9, blk b13 [.slice none 0 0, .int .u64 0, .bool false, .slice none 0 0]] ++ F) w → q1 x76 x65 x68 x71 x74 x75 = some r → Gets Try.prog 11 ptL1 a w (R F b2 x9 A10 k11 r)) (m : Nat) : ∀ (x89 : Int) (a : Act) (w : World), Tm 77 [(0, .pointer (some ⟨b2, 0, none⟩)), (1, .slice A10 x9.length k11), (2, .int .u64 x12), (6, .pointer (some ⟨b13, 0, none⟩)), (8, .int .i64 x76), (47, .slice A80 x79.1.length k81), (48, .int .i64 (x79.1.length : Int)), (49, .int .i64 x89)] a → SL ([blk b2 [.slice A83 x79.2.b.length k84, .slice A85 x79.2.blocks.length k86, .slice A87 x79.2.filter.length k88, .int .i64 x79.2.count, .int .i64 x79.2.reads], sl .ro ku8 A83 k84 x79.2.b, sl .ro ksstable_block A85 k86 x79.2.blocks, sl .ro ku8 A87 k88 x79.2.filter, sl .ro ku8 A10 k11 x9, blk b13 [.slice none 0 0, .int .u64 0, .bool false, .slice none 0 0], sl .own kapi_Entry A80 k81 x79.1] ++ F) w → L2 z q1 x9 x12 x76 x79 m x89 = some r → Gets Try.prog 11 ptL2 a w (R F b2 x9 A10 k11 r) := by
  induction m with
  | zero => intro _ _ _ _ _ H; cases H
  | succ m ih =>
    intro x89 a w T S H
    refine Gets.seq ?_
    refine rg ?_
    refine r_pv T rfl rfl fun _ T => ?_
    refine Gets.seq ?_
    rcases ifE H with ⟨h90, H⟩ | ⟨h90, H⟩
    · refine cdT T rfl h90 ?_
      refine Gets.skip (Gets.seq (Gets.block (Gets.seq ?_)))
      refine rg ?_
      obtain ⟨h97, H⟩ := ck H
      refine r_ia (ix := 6) T S rfl rfl rfl rfl Try.runUnderlying22 Try.sizeOf36 h97.1 h97.2 rfl fun _ T => ?_
      refine r_ldEA (ix := 6) (i := x89) (off := 0) T S rfl rfl Try.isAgg36 Try.sizeOf36 dapi_Entry rfl (Fld.all _) h97.1 h97.2 rfl fun _ _ S T => ?_
      obtain ⟨A98, k99, A100, k101, hv_, S_⟩ := op_api_Entry S
      subst hv_
      replace S := S_
      refine r_alloc T S zv36 (cs := [.slice none 0 0, .int .u64 0, .bool false, .slice none 0 0]) rfl rfl fun _ _ b102 S T => ?_
      refine r_stBA (ix := 0) (vs := [.slice A98 (((gi dapi_Entry x79.1 x89).Key).length) k99, .int .u64 ((gi dapi_Entry x79.1 x89).Seq), .bool ((gi dapi_Entry x79.1 x89).Del), .slice A100 (((gi dapi_Entry x79.1 x89).Value).length) k101]) (l' := [blk b102 [.slice A98 (((gi dapi_Entry x79.1 x89).Key).length) k99, .int .u64 ((gi dapi_Entry x79.1 x89).Seq), .bool ((gi dapi_Entry x79.1 x89).Del), .slice A100 (((gi dapi_Entry x79.1 x89).Value).length) k101], sl .ro ku8 A98 k99 ((gi dapi_Entry x79.1 x89).Key), sl .ro ku8 A100 k101 ((gi dapi_Entry x79.1 x89).Value), blk b2 [.slice A83 x79.2.b.length k84, .slice A85 x79.2.blocks.length k86, .slice A87 x79.2.filter.length k88, .int .i64 x79.2.count, .int .i64 x79.2.reads], sl .ro ku8 A83 k84 x79.2.b, sl .ro ksstable_block A85 k86 x79.2.blocks, sl .ro ku8 A87 k88 x79.2.filter, sl .ro ku8 A10 k11 x9, blk b13 [.slice none 0 0, .int .u64 0, .bool false, .slice none 0 0], sl .own kapi_Entry A80 k81 x79.1]) T S rfl rfl rfl rfl (by simp) Try.sizeOf36 (Nat.le_of_ble_eq_true rfl) rfl fun _ S => ?_
      refine Gets.seq ?_
      refine rg ?_
      refine r_fa (o' := 0) T rfl Try.runUnderlying36 rfl Try.sizeOf24 rfl rfl fun _ T => ?_
      refine r_ldB (ix := 0) T S rfl Try.isAgg24 rfl rfl rfl fun _ T => ?_
      refine r_pv T rfl rfl fun _ T => ?_
      obtain ⟨x104, h103, H⟩ := bd H
      refine r_call T Try.call28 rfl rfl (bytes_Equal.ok _ _ ((gi dapi_Entry x79.1 x89).Key) x9 (S.sel (p := [sl .ro ku8 A98 k99 ((gi dapi_Entry x79.1 x89).Key), sl .ro ku8 A10 k11 x9]) (is := [1, 6]) rfl) _ h103) ?_
      rintro _ _ ⟨rfl, S⟩
      refine ⟨_, rfl, fun _ T => ?_⟩
      replace S : SL ([sl .ro ku8 A98 k99 ((gi dapi_Entry x79.1 x89).Key), sl .ro ku8 A10 k11 x9, blk b102 [.slice A98 (((gi dapi_Entry x79.1 x89).Key).length) k99, .int .u64 ((gi dapi_Entry x79.1 x89).Seq), .bool ((gi dapi_Entry x79.1 x89).Del), .slice A100 (((gi dapi_Entry x79.1 x89).Value).length) k101], sl .ro ku8 A100 k101 ((gi dapi_Entry x79.1 x89).Value), blk b2 [.slice A83 x79.2.b.length k84, .slice A85 x79.2.blocks.length k86, .slice A87 x79.2.filter.length k88, .int .i64 x79.2.count, .int .i64 x79.2.reads], sl .ro ku8 A83 k84 x79.2.b, sl .ro ksstable_block A85 k86 x79.2.blocks, sl .ro ku8 A87 k88 x79.2.filter, blk b13 [.slice none 0 0, .int .u64 0, .bool false, .slice none 0 0], sl .own kapi_Entry A80 k81 x79.1] ++ F) _ := S.join
      refine r_pv T rfl rfl fun _ T => ?_
      rcases ifE H with ⟨h105, H⟩ | ⟨h105, H⟩
      · refine g_yes T rfl rfl h105 ?_
        refine r_fa (o' := 1) T rfl Try.runUnderlying36 rfl Try.sizeOf34 rfl rfl fun _ T => ?_
        refine g_yes T rfl rfl h105 ?_
        refine r_ldB (ix := 2) T S rfl Try.isAgg34 rfl rfl rfl fun _ T => ?_
        refine g_yes T rfl rfl h105 ?_
        refine r_pv T rfl rfl fun _ T => ?_
        refine g_yes T rfl rfl h105 ?_
        refine r_pv T rfl rfl fun _ T => ?_
        refine r_pickT T rfl h105 rfl rfl fun _ T => ?_
        rcases ifE H with ⟨h106, H⟩ | ⟨h106, H⟩
        · refine cdT T rfl h106 ?_
          refine Gets.seq ?_
          refine rg ?_
          refine r_ldBA (ix := 2) (ds := [.slice A98 (((gi dapi_Entry x79.1 x89).Key).length) k99, .int .u64 ((gi dapi_Entry x79.1 x89).Seq), .bool ((gi dapi_Entry x79.1 x89).Del), .slice A100 (((gi dapi_Entry x79.1 x89).Value).length) k101]) T S rfl Try.isAgg36 rfl rfl Try.sizeOf36 rfl fun _ T => ?_
          refine r_stBA (ix := 8) (vs := [.slice A98 (((gi dapi_Entry x79.1 x89).Key).length) k99, .int .u64 ((gi dapi_Entry x79.1 x89).Seq), .bool ((gi dapi_Entry x79.1 x89).Del), .slice A100 (((gi dapi_Entry x79.1 x89).Value).length) k101]) (l' := [sl .ro ku8 A98 k99 ((gi dapi_Entry x79.1 x89).Key), sl .ro ku8 A10 k11 x9, blk b102 [.slice A98 (((gi dapi_Entry x79.1 x89).Key).length) k99, .int .u64 ((gi dapi_Entry x79.1 x89).Seq), .bool ((gi dapi_Entry x79.1 x89).Del), .slice A100 (((gi dapi_Entry x79.1 x89).Value).length) k101], sl .ro ku8 A100 k101 ((gi dapi_Entry x79.1 x89).Value), blk b2 [.slice A83 x79.2.b.length k84, .slice A85 x79.2.blocks.length k86, .slice A87 x79.2.filter.length k88, .int .i64 x79.2.count, .int .i64 x79.2.reads], sl .ro ku8 A83 k84 x79.2.b, sl .ro ksstable_block A85 k86 x79.2.blocks, sl .ro ku8 A87 k88 x79.2.filter, blk b13 [.slice A98 (((gi dapi_Entry x79.1 x89).Key).length) k99, .int .u64 ((gi dapi_Entry x79.1 x89).Seq), .bool ((gi dapi_Entry x79.1 x89).Del), .slice A100 (((gi dapi_Entry x79.1 x89).Value).length) k101], sl .own kapi_Entry A80 k81 x79.1]) T S rfl rfl rfl rfl (by simp) Try.sizeOf36 (Nat.le_of_ble_eq_true rfl) rfl fun _ S => ?_
          refine r_pv T rfl rfl fun _ T => ?_
          replace H := Option.some.inj H
          subst H
          exact rtnM T S Try.func11 rfl ⟨_, _, rfl, ⟨b13, _, 8, rfl, rfl, .inl ⟨Try.isAgg36, Try.sizeOf36, rfl⟩⟩, ⟨_, _, rfl, rfl, rfl⟩⟩ ⟨A98, k99, A100, k101, A83, k84, A85, k86, A87, k88, rfl, (S.only (p := [sl .ro ku8 A98 k99 ((gi dapi_Entry x79.1 x89).Key), sl .ro ku8 A100 k101 ((gi dapi_Entry x79.1 x89).Value), blk b2 [.slice A83 x79.2.b.length k84, .slice A85 x79.2.blocks.length k86, .slice A87 x79.2.filter.length k88, .int .i64 x79.2.count, .int .i64 x79.2.reads], sl .ro ku8 A83 k84 x79.2.b, sl .ro ksstable_block A85 k86 x79.2.blocks, sl .ro ku8 A87 k88 x79.2.filter, sl .ro ku8 A10 k11 x9]) [0, 2, 2, 2, 2, 2, 0] rfl)⟩
        · refine cdF T rfl h106 ?_
          refine Gets.skip (Gets.inBlock ?_)
          exact J3_ok F r z b2 x9 A10 k11 x12 b13 x76 A80 x79 k81 x89 A83 k84 A85 k86 A87 k88 q1 hq1 (L2 z q1 x9 x12 x76 x79 m) ih _ _ (T.sub ⟨rfl, rfl, rfl, rfl, rfl, rfl, rfl, rfl, trivial⟩) (S.only (p := [blk b2 [.slice A83 x79.2.b.length k84, .slice A85 x79.2.blocks.length k86, .slice A87 x79.2.filter.length k88, .int .i64 x79.2.count, .int .i64 x79.2.reads], sl .ro ku8 A83 k84 x79.2.b, sl .ro ksstable_block A85 k86 x79.2.blocks, sl .ro ku8 A87 k88 x79.2.filter, sl .ro ku8 A10 k11 x9, blk b13 [.slice none 0 0, .int .u64 0, .bool false, .slice none 0 0], sl .own kapi_Entry A80 k81 x79.1]) [4, 4, 4, 4, 1, 3, 3] rfl) H
      · refine g_no T rfl rfl h105 rfl fun _ T => ?_
        refine g_no T rfl rfl h105 rfl fun _ T => ?_
        refine g_no T rfl rfl h105 rfl fun _ T => ?_
        refine g_no T rfl rfl h105 rfl fun _ T => ?_
        refine r_pickF T rfl h105 rfl rfl fun _ T => ?_
        refine cdF T rfl rfl ?_
        refine Gets.skip (Gets.inBlock ?_)
        exact J3_ok F r z b2 x9 A10 k11 x12 b13 x76 A80 x79 k81 x89 A83 k84 A85 k86 A87 k88 q1 hq1 (L2 z q1 x9 x12 x76 x79 m) ih _ _ (T.sub ⟨rfl, rfl, rfl, rfl, rfl, rfl, rfl, rfl, trivial⟩) (S.only (p := [blk b2 [.slice A83 x79.2.b.length k84, .slice A85 x79.2.blocks.length k86, .slice A87 x79.2.filter.length k88, .int .i64 x79.2.count, .int .i64 x79.2.reads], sl .ro ku8 A83 k84 x79.2.b, sl .ro ksstable_block A85 k86 x79.2.blocks, sl .ro ku8 A87 k88 x79.2.filter, sl .ro ku8 A10 k11 x9, blk b13 [.slice none 0 0, .int .u64 0, .bool false, .slice none 0 0], sl .own kapi_Entry A80 k81 x79.1]) [4, 4, 4, 4, 1, 3, 3] rfl) H
    · refine cdF T rfl h90 ?_
      refine Gets.exit rfl (Gets.seq ?_)
      refine rg ?_
      refine r_pv T rfl rfl fun _ T => ?_
      refine r_pv T rfl rfl fun _ T => ?_
      refine r_fa (o' := 1) T rfl Try.runUnderlying69 rfl Try.sizeOf67 rfl rfl fun _ T => ?_
      refine r_ldB (ix := 0) T S rfl Try.isAgg67 rfl rfl rfl fun _ T => ?_
      refine r_pv T rfl rfl fun _ T => ?_
      obtain ⟨h91, H⟩ := ck H
      refine r_ia (ix := 2) T S rfl rfl rfl rfl Try.runUnderlying67 Try.sizeOf73 h91.1 h91.2 rfl fun _ T => ?_
      refine r_faE T rfl Try.runUnderlying73 rfl Try.sizeOf24 rfl fun _ T => ?_
      refine r_ldR (ix := 2) (i := x76) (off := 4) T S rfl Try.isAgg24 rfl dsstable_block _ rfl rfl fld_sstable_block_last h91.1 h91.2 rfl rfl fun _ _ S T => ?_
      obtain ⟨A92, k93, hv_, S_⟩ := S.ofVal
      subst hv_
      replace S := S_
      refine r_pv T rfl rfl fun _ T => ?_
      obtain ⟨x95, h94, H⟩ := bd H
      refine r_call T Try.call28 rfl rfl (bytes_Equal.ok _ _ ((gi dsstable_block x79.2.blocks x76).last) x9 (S.sel (p := [sl .ro ku8 A92 k93 ((gi dsstable_block x79.2.blocks x76).last), sl .ro ku8 A10 k11 x9]) (is := [0, 4]) rfl) _ h94) ?_
      rintro _ _ ⟨rfl, S⟩
      refine ⟨_, rfl, fun _ T => ?_⟩
      replace S : SL ([sl .ro ku8 A92 k93 ((gi dsstable_block x79.2.blocks x76).last), sl .ro ku8 A10 k11 x9, blk b2 [.slice A83 x79.2.b.length k84, .slice A85 x79.2.blocks.length k86, .slice A87 x79.2.filter.length k88, .int .i64 x79.2.count, .int .i64 x79.2.reads], sl .ro ku8 A83 k84 x79.2.b, sl .ro ksstable_block A85 k86 x79.2.blocks, sl .ro ku8 A87 k88 x79.2.filter, blk b13 [.slice none 0 0, .int .u64 0, .bool false, .slice none 0 0], sl .own kapi_Entry A80 k81 x79.1] ++ F) _ := S.join
      refine r_pv T rfl rfl fun _ T => ?_
      rcases ifE H with ⟨h96, H⟩ | ⟨h96, H⟩
      · refine cdT T rfl h96 ?_
        refine Gets.exit rfl (Gets.seq ?_)
        refine rg ?_
        refine r_build (cs := #[.slice none 0 0, .int .u64 0, .bool false, .slice none 0 0]) T stt36 rfl rfl rfl fun _ T => ?_
        refine r_stBA (ix := 6) (vs := [.slice none 0 0, .int .u64 0, .bool false, .slice none 0 0]) (l' := [sl .ro ku8 A92 k93 ((gi dsstable_block x79.2.blocks x76).last), sl .ro ku8 A10 k11 x9, blk b2 [.slice A83 x79.2.b.length k84, .slice A85 x79.2.blocks.length k86, .slice A87 x79.2.filter.length k88, .int .i64 x79.2.count, .int .i64 x79.2.reads], sl .ro ku8 A83 k84 x79.2.b, sl .ro ksstable_block A85 k86 x79.2.blocks, sl .ro ku8 A87 k88 x79.2.filter, blk b13 [.slice none 0 0, .int .u64 0, .bool false, .slice none 0 0], sl .own kapi_Entry A80 k81 x79.1]) T S rfl rfl rfl rfl (by simp) Try.sizeOf36 (Nat.le_of_ble_eq_true rfl) rfl fun _ S => ?_
        refine r_pv T rfl rfl fun _ T => ?_
        replace S := S.nil ku8 .ro
        replace S := S.nil ku8 .ro
        replace H := Option.some.inj H
        subst H
        exact rtnM T S Try.func11 rfl ⟨_, _, rfl, ⟨b13, _, 8, rfl, rfl, .inl ⟨Try.isAgg36, Try.sizeOf36, rfl⟩⟩, ⟨_, _, rfl, rfl, rfl⟩⟩ ⟨none, 0, none, 0, A83, k84, A85, k86, A87, k88, rfl, (S.only (p := [sl .ro ku8 none 0 ([] : List Int), sl .ro ku8 none 0 ([] : List Int), blk b2 [.slice A83 x79.2.b.length k84, .slice A85 x79.2.blocks.length k86, .slice A87 x79.2.filter.length k88, .int .i64 x79.2.count, .int .i64 x79.2.reads], sl .ro ku8 A83 k84 x79.2.b, sl .ro ksstable_block A85 k86 x79.2.blocks, sl .ro ku8 A87 k88 x79.2.filter, sl .ro ku8 A10 k11 x9]) [1, 0, 2, 2, 2, 2, 1] rfl)⟩
      · refine cdF T rfl h96 ?_
        refine Gets.skip (Gets.inBlock ?_)
        refine rg ?_
        refine r_pv T rfl rfl fun _ T => ?_
        refine r_pv T rfl rfl fun _ T => ?_
        refine r_pv T rfl rfl fun _ T => ?_
        refine Gets.inLoop ?_
        exact hq1 (wr .i64 (x76 + 1)) A83 x79.2.b k84 A85 x79.2.blocks k86 A87 x79.2.filter k88 x79.2.count x79.2.reads _ _ (T.sub ⟨rfl, rfl, rfl, rfl, rfl, trivial⟩) (S.only (p := [blk b2 [.slice A83 x79.2.b.length k84, .slice A85 x79.2.blocks.length k86, .slice A87 x79.2.filter.length k88, .int .i64 x79.2.count, .int .i64 x79.2.reads], sl .ro ku8 A83 k84 x79.2.b, sl .ro ksstable_block A85 k86 x79.2.blocks, sl .ro ku8 A87 k88 x79.2.filter, sl .ro ku8 A10 k11 x9, blk b13 [.slice none 0 0, .int .u64 0, .bool false, .slice none 0 0]]) [2, 2, 2, 2, 1, 1] rfl) H
theorem L1_ok (F : List Atom) (r : api_Entry × Bool × sstable_Table) (z : Nat) (b2 : Nat) (x9 : List Int) (A10 : Option Addr) (k11 : Nat) (x12 : Int) (b13 : Nat) (m : Nat) : ∀ (x76 : Int) (A66 : Option Addr) (x65 : List Int) (k67 : Nat) (A69 : Option Addr) (x68 : List sstable_block) (k70 : Nat) (A72 : Option Addr) (x71 : List Int) (k73 : Nat) (x74 : Int) (x75 : Int) (a : Act) (w : World), Tm 77 [(0, .pointer (some ⟨b2, 0, none⟩)), (1, .slice A10 x9.length k11), (2, .int .u64 x12), (6, .pointer (some ⟨b13, 0, none⟩)), (8, .int .i64 x76)] a → SL ([blk b2 [.slice A66 x65.length k67, .slice A69 x68.length k70, .slice A72 x71.length k73, .int .i64 x74, .int .i64 x75], sl .ro ku8 A66 k67 x65, sl .ro ksstable_block A69 k70 x68, sl .ro ku8 A72 k73 x71, sl .ro ku8 A10 k11 x9, blk b13 [.slice none 0 0, .int .u64 0, .bool false, .slice none 0 0]] ++ F) w → L1 z x9 x12 m x76 x65 x68 x71 x74 x75 = some r → Gets Try.prog 11 ptL1 a w (R F b2 x9 A10 k11 r) := by
  induction m with
  | zero => intro _ _ _ _ _ _ _ _ _ _ _ _ _ _ _ _ H; cases H
  | succ m ih =>
    intro x76 A66 x65 k67 A69 x68 k70 A72 x71 k73 x74 x75 a w T S H
    refine Gets.seq ?_
    refine Gets.seq ?_
    refine rg ?_
    refine r_pv T rfl rfl fun _ T => ?_
    refine r_pv T rfl rfl fun _ T => ?_
    refine r_pv T rfl rfl fun _ T => ?_
    refine r_fa (o' := 1) T rfl Try.runUnderlying69 rfl Try.sizeOf67 rfl rfl fun _ T => ?_
    refine r_ldB (ix := 0) T S rfl Try.isAgg67 rfl rfl rfl fun _ T => ?_
    refine r_lenS T rfl Try.runUnderlying67 rfl fun _ T => ?_
    refine r_pv T rfl rfl fun _ T => ?_
    rcases ifE H with ⟨h77, H⟩ | ⟨h77, H⟩
    · refine cdT T rfl h77 ?_
      refine Gets.skip (Gets.seq (Gets.block (Gets.seq (Gets.seq ?_))))
      refine rg ?_
      refine r_pv T rfl rfl fun _ T => ?_
      refine r_pv T rfl rfl fun _ T => ?_
      obtain ⟨x79, h78, H⟩ := bd H
      refine r_call T Try.call41 rfl rfl (sstable_Table_look.ok _ _ z (sstable_Table.mk x65 x68 x71 x74 x75) x76 (S.sel (p := [blk b2 [.slice A66 x65.length k67, .slice A69 x68.length k70, .slice A72 x71.length k73, .int .i64 x74, .int .i64 x75], sl .ro ku8 A66 k67 x65, sl .ro ksstable_block A69 k70 x68, sl .ro ku8 A72 k73 x71]) (is := [0, 0, 0, 0]) rfl) _ h78) ?_
      rintro _ _ ⟨A80, k81, A83, k84, A85, k86, A87, k88, rfl, S⟩
      refine ⟨_, rfl, fun _ T => ?_⟩
      replace S : SL ([sl .own kapi_Entry A80 k81 x79.1, blk b2 [.slice A83 x79.2.b.length k84, .slice A85 x79.2.blocks.length k86, .slice A87 x79.2.filter.length k88, .int .i64 x79.2.count, .int .i64 x79.2.reads], sl .ro ku8 A83 k84 x79.2.b, sl .ro ksstable_block A85 k86 x79.2.blocks, sl .ro ku8 A87 k88 x79.2.filter, sl .ro ku8 A10 k11 x9, blk b13 [.slice none 0 0, .int .u64 0, .bool false, .slice none 0 0]] ++ F) _ := S.join
      refine r_lenS T rfl Try.runUnderlying22 rfl fun _ T => ?_
      refine r_pv T rfl rfl fun _ T => ?_
      refine Gets.block ?_
      refine Gets.loop ?_
      exact L2_ok F r z b2 x9 A10 k11 x12 b13 x76 A80 x79 k81 A83 k84 A85 k86 A87 k88 (L1 z x9 x12 m) ih z 0 _ _ (T.sub ⟨rfl, rfl, rfl, rfl, rfl, rfl, rfl, rfl, trivial⟩) (S.only (p := [blk b2 [.slice A83 x79.2.b.length k84, .slice A85 x79.2.blocks.length k86, .slice A87 x79.2.filter.length k88, .int .i64 x79.2.count, .int .i64 x79.2.reads], sl .ro ku8 A83 k84 x79.2.b, sl .ro ksstable_block A85 k86 x79.2.blocks, sl .ro ku8 A87 k88 x79.2.filter, sl .ro ku8 A10 k11 x9, blk b13 [.slice none 0 0, .int .u64 0, .bool false, .slice none 0 0], sl .own kapi_Entry A80 k81 x79.1]) [1, 1, 1, 1, 1, 1, 0] rfl) H
    · refine cdF T rfl h77 ?_
      refine Gets.exit rfl (Gets.seq ?_)
      refine rg ?_
      refine r_build (cs := #[.slice none 0 0, .int .u64 0, .bool false, .slice none 0 0]) T stt36 rfl rfl rfl fun _ T => ?_
      refine r_stBA (ix := 5) (vs := [.slice none 0 0, .int .u64 0, .bool false, .slice none 0 0]) (l' := [blk b2 [.slice A66 x65.length k67, .slice A69 x68.length k70, .slice A72 x71.length k73, .int .i64 x74, .int .i64 x75], sl .ro ku8 A66 k67 x65, sl .ro ksstable_block A69 k70 x68, sl .ro ku8 A72 k73 x71, sl .ro ku8 A10 k11 x9, blk b13 [.slice none 0 0, .int .u64 0, .bool false, .slice none 0 0]]) T S rfl rfl rfl rfl (by simp) Try.sizeOf36 (Nat.le_of_ble_eq_true rfl) rfl fun _ S => ?_
      refine r_pv T rfl rfl fun _ T => ?_
      replace S := S.nil ku8 .ro
      replace S := S.nil ku8 .ro
      replace H := Option.some.inj H
      subst H
      exact rtnM T S Try.func11 rfl ⟨_, _, rfl, ⟨b13, _, 7, rfl, rfl, .inl ⟨Try.isAgg36, Try.sizeOf36, rfl⟩⟩, ⟨_, _, rfl, rfl, rfl⟩⟩ ⟨none, 0, none, 0, A66, k67, A69, k70, A72, k73, rfl, (S.only (p := [sl .ro ku8 none 0 ([] : List Int), sl .ro ku8 none 0 ([] : List Int), blk b2 [.slice A66 x65.length k67, .slice A69 x68.length k70, .slice A72 x71.length k73, .int .i64 x74, .int .i64 x75], sl .ro ku8 A66 k67 x65, sl .ro ksstable_block A69 k70 x68, sl .ro ku8 A72 k73 x71, sl .ro ku8 A10 k11 x9]) [1, 0, 0, 0, 0, 0, 0] rfl)⟩
theorem J0_ok (F : List Atom) (r : api_Entry × Bool × sstable_Table) (z : Nat) (b2 : Nat) (x9 : List Int) (A10 : Option Addr) (k11 : Nat) (b13 : Nat) (x12 : Int) (A46 : Option Addr) (x45 : List Int) (k47 : Nat) (A49 : Option Addr) (x48 : List sstable_block) (k50 : Nat) (A52 : Option Addr) (x51 : List Int) (k53 : Nat) (x54 : Int) (x55 : Int) (a : Act) (w : World) (T : Tm 77 [(6, .pointer (some ⟨b13, 0, none⟩))] a) (S : SL ([blk b2 [.slice A46 x45.length k47, .slice A49 x48.length k50, .slice A52 x51.length k53, .int .i64 x54, .int .i64 x55], sl .ro ku8 A46 k47 x45, sl .ro ksstable_block A49 k50 x48, sl .ro ku8 A52 k53 x51, sl .ro ku8 A10 k11 x9, blk b13 [.slice none 0 0, .int .u64 0, .bool false, .slice none 0 0]] ++ F) w) (H : J0 z x45 x48 x51 x54 x55 = some r) : Gets Try.prog 11 ptJ0 a w (R F b2 x9 A10 k11 r) := by
  refine rg ?_
  refine r_build (cs := #[.slice none 0 0, .int .u64 0, .bool false, .slice none 0 0]) T stt36 rfl rfl rfl fun _ T => ?_
  refine r_stBA (ix := 5) (vs := [.slice none 0 0, .int .u64 0, .bool false, .slice none 0 0]) (l' := [blk b2 [.slice A46 x45.length k47, .slice A49 x48.length k50, .slice A52 x51.length k53, .int .i64 x54, .int .i64 x55], sl .ro ku8 A46 k47 x45, sl .ro ksstable_block A49 k50 x48, sl .ro ku8 A52 k53 x51, sl .ro ku8 A10 k11 x9, blk b13 [.slice none 0 0, .int .u64 0, .bool false, .slice none 0 0]]) T S rfl rfl rfl rfl (by simp) Try.sizeOf36 (Nat.le_of_ble_eq_true rfl) rfl fun _ S => ?_
  refine r_pv T rfl rfl fun _ T => ?_
  replace S := S.nil ku8 .ro
  replace S := S.nil ku8 .ro
  replace H := Option.some.inj H
  subst H
  exact rtnM T S Try.func11 rfl ⟨_, _, rfl, ⟨b13, _, 7, rfl, rfl, .inl ⟨Try.isAgg36, Try.sizeOf36, rfl⟩⟩, ⟨_, _, rfl, rfl, rfl⟩⟩ ⟨none, 0, none, 0, A46, k47, A49, k50, A52, k53, rfl, (S.only (p := [sl .ro ku8 none 0 ([] : List Int), sl .ro ku8 none 0 ([] : List Int), blk b2 [.slice A46 x45.length k47, .slice A49 x48.length k50, .slice A52 x51.length k53, .int .i64 x54, .int .i64 x55], sl .ro ku8 A46 k47 x45, sl .ro ksstable_block A49 k50 x48, sl .ro ku8 A52 k53 x51, sl .ro ku8 A10 k11 x9]) [1, 0, 0, 0, 0, 0, 0] rfl)⟩
theorem ok (F : List Atom) (w : World) (z : Nat) (x1 : sstable_Table) (x9 : List Int) (x12 : Int) {b2 : Nat} {A3 : Option Addr} {k4 : Nat} {A5 : Option Addr} {k6 : Nat} {A7 : Option Addr} {k8 : Nat} {A10 : Option Addr} {k11 : Nat} (S : SL ([blk b2 [.slice A3 x1.b.length k4, .slice A5 x1.blocks.length k6, .slice A7 x1.filter.length k8, .int .i64 x1.count, .int .i64 x1.reads], sl .ro ku8 A3 k4 x1.b, sl .ro ksstable_block A5 k6 x1.blocks, sl .ro ku8 A7 k8 x1.filter, sl .ro ku8 A10 k11 x9] ++ F) w) (r : api_Entry × Bool × sstable_Table) (H : f z x1 x9 x12 = some r) : Calls Try.prog 11 #[.pointer (some ⟨b2, 0, none⟩), .slice A10 x9.length k11, .int .u64 x12] w (R F b2 x9 A10 k11 r) := by
  refine enter (vs := [.pointer (some ⟨b2, 0, none⟩), .slice A10 x9.length k11, .int .u64 x12]) Try.func11 rfl Try.ntmps11 (Nat.le_of_ble_eq_true rfl) fun a T => ?_
  refine Gets.seq ?_
  refine rg ?_
  refine r_alloc T S zv36 (cs := [.slice none 0 0, .int .u64 0, .bool false, .slice none 0 0]) rfl rfl fun _ _ b13 S T => ?_
  refine r_pv T rfl rfl fun _ T => ?_
  refine Gets.seq (Gets.seq ?_)
  refine rg ?_
  refine r_pv T rfl rfl fun _ T => ?_
  refine r_pv T rfl rfl fun _ T => ?_
  obtain ⟨x15, h14, H⟩ := bd H
  refine r_call T Try.call15 rfl rfl (sstable_Table_First.ok _ _ x1 (S.sel (p := [blk b2 [.slice A3 x1.b.length k4, .slice A5 x1.blocks.length k6, .slice A7 x1.filter.length k8, .int .i64 x1.count, .int .i64 x1.reads], sl .ro ku8 A3 k4 x1.b, sl .ro ksstable_block A5 k6 x1.blocks, sl .ro ku8 A7 k8 x1.filter]) (is := [1, 1, 1, 1]) rfl) _ h14) ?_
  rintro _ _ ⟨A16, k17, A19, k20, A21, k22, A23, k24, rfl, S⟩
  refine ⟨_, rfl, fun _ T => ?_⟩
  replace S : SL ([sl .own ku8 A16 k17 x15.1, blk b2 [.slice A19 x15.2.b.length k20, .slice A21 x15.2.blocks.length k22, .slice A23 x15.2.filter.length k24, .int .i64 x15.2.count, .int .i64 x15.2.reads], sl .ro ku8 A19 k20 x15.2.b, sl .ro ksstable_block A21 k22 x15.2.blocks, sl .ro ku8 A23 k24 x15.2.filter, blk b13 [.slice none 0 0, .int .u64 0, .bool false, .slice none 0 0], sl .ro ku8 A10 k11 x9] ++ F) _ := S.join
  obtain ⟨x26, h25, H⟩ := bd H
  refine r_call T Try.call38 rfl rfl (codec_Compare.ok _ _ x9 x15.1 (S.sel (p := [sl .ro ku8 A10 k11 x9, sl .own ku8 A16 k17 x15.1]) (is := [6, 0]) rfl) _ h25) ?_
  rintro _ _ ⟨rfl, S⟩
  refine ⟨_, rfl, fun _ T => ?_⟩
  replace S : SL ([sl .ro ku8 A10 k11 x9, sl .own ku8 A16 k17 x15.1, blk b2 [.slice A19 x15.2.b.length k20, .slice A21 x15.2.blocks.length k22, .slice A23 x15.2.filter.length k24, .int .i64 x15.2.count, .int .i64 x15.2.reads], sl .ro ku8 A19 k20 x15.2.b, sl .ro ksstable_block A21 k22 x15.2.blocks, sl .ro ku8 A23 k24 x15.2.filter, blk b13 [.slice none 0 0, .int .u64 0, .bool false, .slice none 0 0]] ++ F) _ := S.join
  refine r_pv T rfl rfl fun _ T => ?_
  refine r_pv T rfl rfl fun _ T => ?_
  rcases ifE H with ⟨h27, H⟩ | ⟨h27, H⟩
  · refine g_no T rfl rfl h27 rfl fun _ T => ?_
    refine g_no T rfl rfl h27 rfl fun _ T => ?_
    refine g_no T rfl rfl h27 rfl fun _ T => ?_
    refine g_no T rfl rfl h27 rfl fun _ T => ?_
    refine g_no T rfl rfl h27 rfl fun _ T => ?_
    refine r_pickT T rfl h27 rfl rfl fun _ T => ?_
    refine r_pv T rfl rfl fun _ T => ?_
    refine g_no T rfl rfl rfl rfl fun _ T => ?_
    refine g_no T rfl rfl rfl rfl fun _ T => ?_
    refine g_no T rfl rfl rfl rfl fun _ T => ?_
    refine g_no T rfl rfl rfl rfl fun _ T => ?_
    refine g_no T rfl rfl rfl rfl fun _ T => ?_
    refine g_no T rfl rfl rfl rfl fun _ T => ?_
    refine g_no T rfl rfl rfl rfl fun _ T => ?_
    refine r_pickT T rfl rfl rfl rfl fun _ T => ?_
    refine cdT T rfl rfl ?_
    refine Gets.seq ?_
    exact J0_ok F r z b2 x9 A10 k11 b13 x12 A19 x15.2.b k20 A21 x15.2.blocks k22 A23 x15.2.filter k24 x15.2.count x15.2.reads _ _ (T.sub ⟨rfl, trivial⟩) (S.only (p := [blk b2 [.slice A19 x15.2.b.length k20, .slice A21 x15.2.blocks.length k22, .slice A23 x15.2.filter.length k24, .int .i64 x15.2.count, .int .i64 x15.2.reads], sl .ro ku8 A19 k20 x15.2.b, sl .ro ksstable_block A21 k22 x15.2.blocks, sl .ro ku8 A23 k24 x15.2.filter, sl .ro ku8 A10 k11 x9, blk b13 [.slice none 0 0, .int .u64 0, .bool false, .slice none 0 0]]) [2, 2, 2, 2, 0, 1] rfl) H
  · refine g_yes T rfl rfl h27 ?_
    refine r_pv T rfl rfl fun _ T => ?_
    refine g_yes T rfl rfl h27 ?_
    refine r_pv T rfl rfl fun _ T => ?_
    refine g_yes T rfl rfl h27 ?_
    obtain ⟨x29, h28, H⟩ := bd H
    refine r_call T Try.call16 rfl rfl (sstable_Table_Last.ok _ _ x15.2 (S.sel (p := [blk b2 [.slice A19 x15.2.b.length k20, .slice A21 x15.2.blocks.length k22, .slice A23 x15.2.filter.length k24, .int .i64 x15.2.count, .int .i64 x15.2.reads], sl .ro ku8 A19 k20 x15.2.b, sl .ro ksstable_block A21 k22 x15.2.blocks, sl .ro ku8 A23 k24 x15.2.filter]) (is := [2, 2, 2, 2]) rfl) _ h28) ?_
    rintro _ _ ⟨A30, k31, A33, k34, A35, k36, A37, k38, rfl, S⟩
    refine ⟨_, rfl, fun _ T => ?_⟩
    replace S : SL ([sl .own ku8 A30 k31 x29.1, blk b2 [.slice A33 x29.2.b.length k34, .slice A35 x29.2.blocks.length k36, .slice A37 x29.2.filter.length k38, .int .i64 x29.2.count, .int .i64 x29.2.reads], sl .ro ku8 A33 k34 x29.2.b, sl .ro ksstable_block A35 k36 x29.2.blocks, sl .ro ku8 A37 k38 x29.2.filter, sl .ro ku8 A10 k11 x9, sl .own ku8 A16 k17 x15.1, blk b13 [.slice none 0 0, .int .u64 0, .bool false, .slice none 0 0]] ++ F) _ := S.join
    refine g_yes T rfl rfl h27 ?_
    obtain ⟨x40, h39, H⟩ := bd H
    refine r_call T Try.call38 rfl rfl (codec_Compare.ok _ _ x9 x29.1 (S.sel (p := [sl .ro ku8 A10 k11 x9, sl .own ku8 A30 k31 x29.1]) (is := [5, 0]) rfl) _ h39) ?_
    rintro _ _ ⟨rfl, S⟩
    refine ⟨_, rfl, fun _ T => ?_⟩
    replace S : SL ([sl .ro ku8 A10 k11 x9, sl .own ku8 A30 k31 x29.1, blk b2 [.slice A33 x29.2.b.length k34, .slice A35 x29.2.blocks.length k36, .slice A37 x29.2.filter.length k38, .int .i64 x29.2.count, .int .i64 x29.2.reads], sl .ro ku8 A33 k34 x29.2.b, sl .ro ksstable_block A35 k36 x29.2.blocks, sl .ro ku8 A37 k38 x29.2.filter, sl .own ku8 A16 k17 x15.1, blk b13 [.slice none 0 0, .int .u64 0, .bool false, .slice none 0 0]] ++ F) _ := S.join
    refine g_yes T rfl rfl h27 ?_
    refine r_pv T rfl rfl fun _ T => ?_
    refine r_pickF T rfl h27 rfl rfl fun _ T => ?_
    refine r_pv T rfl rfl fun _ T => ?_
    rcases ifE H with ⟨h41, H⟩ | ⟨h41, H⟩
    · refine g_no T rfl rfl h41 rfl fun _ T => ?_
      refine g_no T rfl rfl h41 rfl fun _ T => ?_
      refine g_no T rfl rfl h41 rfl fun _ T => ?_
      refine g_no T rfl rfl h41 rfl fun _ T => ?_
      refine g_no T rfl rfl h41 rfl fun _ T => ?_
      refine g_no T rfl rfl h41 rfl fun _ T => ?_
      refine g_no T rfl rfl h41 rfl fun _ T => ?_
      refine r_pickT T rfl h41 rfl rfl fun _ T => ?_
      refine cdT T rfl rfl ?_
      refine Gets.seq ?_
      exact J0_ok F r z b2 x9 A10 k11 b13 x12 A33 x29.2.b k34 A35 x29.2.blocks k36 A37 x29.2.filter k38 x29.2.count x29.2.reads _ _ (T.sub ⟨rfl, trivial⟩) (S.only (p := [blk b2 [.slice A33 x29.2.b.length k34, .slice A35 x29.2.blocks.length k36, .slice A37 x29.2.filter.length k38, .int .i64 x29.2.count, .int .i64 x29.2.reads], sl .ro ku8 A33 k34 x29.2.b, sl .ro ksstable_block A35 k36 x29.2.blocks, sl .ro ku8 A37 k38 x29.2.filter, sl .ro ku8 A10 k11 x9, blk b13 [.slice none 0 0, .int .u64 0, .bool false, .slice none 0 0]]) [2, 2, 2, 2, 0, 2] rfl) H
    · refine g_yes T rfl rfl h41 ?_
      refine r_pv T rfl rfl fun _ T => ?_
      refine g_yes T rfl rfl h41 ?_
      refine r_pv T rfl rfl fun _ T => ?_
      refine g_yes T rfl rfl h41 ?_
      refine r_fa (o' := 2) T rfl Try.runUnderlying69 rfl Try.sizeOf24 rfl rfl fun _ T => ?_
      refine g_yes T rfl rfl h41 ?_
      refine r_ldB (ix := 2) T S rfl Try.isAgg24 rfl rfl rfl fun _ T => ?_
      refine g_yes T rfl rfl h41 ?_
      refine r_pv T rfl rfl fun _ T => ?_
      refine g_yes T rfl rfl h41 ?_
      obtain ⟨x43, h42, H⟩ := bd H
      refine r_call T Try.call39 rfl rfl (bloom_May.ok _ _ z x29.2.filter x9 (S.sel (p := [sl .ro ku8 A37 k38 x29.2.filter, sl .ro ku8 A10 k11 x9]) (is := [5, 0]) rfl) _ h42) ?_
      rintro _ _ ⟨rfl, S⟩
      refine ⟨_, rfl, fun _ T => ?_⟩
      replace S : SL ([sl .ro ku8 A37 k38 x29.2.filter, sl .ro ku8 A10 k11 x9, sl .own ku8 A30 k31 x29.1, blk b2 [.slice A33 x29.2.b.length k34, .slice A35 x29.2.blocks.length k36, .slice A37 x29.2.filter.length k38, .int .i64 x29.2.count, .int .i64 x29.2.reads], sl .ro ku8 A33 k34 x29.2.b, sl .ro ksstable_block A35 k36 x29.2.blocks, sl .own ku8 A16 k17 x15.1, blk b13 [.slice none 0 0, .int .u64 0, .bool false, .slice none 0 0]] ++ F) _ := S.join
      refine g_yes T rfl rfl h41 ?_
      refine r_pv T rfl rfl fun _ T => ?_
      refine r_pickF T rfl h41 rfl rfl fun _ T => ?_
      rcases ifE H with ⟨h44, H⟩ | ⟨h44, H⟩
      · refine cdT T rfl h44 ?_
        refine Gets.seq ?_
        exact J0_ok F r z b2 x9 A10 k11 b13 x12 A33 x29.2.b k34 A35 x29.2.blocks k36 A37 x29.2.filter k38 x29.2.count x29.2.reads _ _ (T.sub ⟨rfl, trivial⟩) (S.only (p := [blk b2 [.slice A33 x29.2.b.length k34, .slice A35 x29.2.blocks.length k36, .slice A37 x29.2.filter.length k38, .int .i64 x29.2.count, .int .i64 x29.2.reads], sl .ro ku8 A33 k34 x29.2.b, sl .ro ksstable_block A35 k36 x29.2.blocks, sl .ro ku8 A37 k38 x29.2.filter, sl .ro ku8 A10 k11 x9, blk b13 [.slice none 0 0, .int .u64 0, .bool false, .slice none 0 0]]) [3, 3, 3, 0, 0, 2] rfl) H
      · refine cdF T rfl h44 ?_
        refine Gets.skip (Gets.seq (Gets.seq ?_))
        refine rg ?_
        refine r_pv T rfl rfl fun _ T => ?_
        refine r_pv T rfl rfl fun _ T => ?_
        obtain ⟨x57, h56, H⟩ := bd H
        refine r_call T Try.call40 rfl rfl (sstable_Table_find.ok _ _ z x29.2 x9 (S.sel (p := [blk b2 [.slice A33 x29.2.b.length k34, .slice A35 x29.2.blocks.length k36, .slice A37 x29.2.filter.length k38, .int .i64 x29.2.count, .int .i64 x29.2.reads], sl .ro ku8 A33 k34 x29.2.b, sl .ro ksstable_block A35 k36 x29.2.blocks, sl .ro ku8 A37 k38 x29.2.filter, sl .ro ku8 A10 k11 x9]) (is := [3, 3, 3, 0, 0]) rfl) _ h56) ?_
        rintro _ _ ⟨A59, k60, A61, k62, A63, k64, rfl, S⟩
        refine ⟨_, rfl, fun _ T => ?_⟩
        replace S : SL ([blk b2 [.slice A59 x57.2.b.length k60, .slice A61 x57.2.blocks.length k62, .slice A63 x57.2.filter.length k64, .int .i64 x57.2.count, .int .i64 x57.2.reads], sl .ro ku8 A59 k60 x57.2.b, sl .ro ksstable_block A61 k62 x57.2.blocks, sl .ro ku8 A63 k64 x57.2.filter, sl .ro ku8 A10 k11 x9, sl .own ku8 A30 k31 x29.1, sl .own ku8 A16 k17 x15.1, blk b13 [.slice none 0 0, .int .u64 0, .bool false, .slice none 0 0]] ++ F) _ := S.join
        refine r_pv T rfl rfl fun _ T => ?_
        refine Gets.block ?_
        refine Gets.loop ?_
        exact L1_ok F r z b2 x9 A10 k11 x12 b13 z x57.1 A59 x57.2.b k60 A61 x57.2.blocks k62 A63 x57.2.filter k64 x57.2.count x57.2.reads _ _ (T.sub ⟨rfl, rfl, rfl, rfl, rfl, trivial⟩) (S.only (p := [blk b2 [.slice A59 x57.2.b.length k60, .slice A61 x57.2.blocks.length k62, .slice A63 x57.2.filter.length k64, .int .i64 x57.2.count, .int .i64 x57.2.reads], sl .ro ku8 A59 k60 x57.2.b, sl .ro ksstable_block A61 k62 x57.2.blocks, sl .ro ku8 A63 k64 x57.2.filter, sl .ro ku8 A10 k11 x9, blk b13 [.slice none 0 0, .int .u64 0, .bool false, .slice none 0 0]]) [0, 0, 0, 0, 0, 2] rfl) H
end sstable_Table_Get
end Go.Proofs.Ytghpokmkhlmgcaa

namespace Go.Proofs.Ytghpokmkhlmgcaa
open Go Go.Proofs.Ytghpokmkhlmgcaa.X
set_option linter.unusedVariables false
set_option linter.unusedSimpArgs false
set_option maxRecDepth 100000
set_option maxHeartbeats 4000000
/-! ### (*cormorant.sstable.Table).Count: function 17 -/
namespace sstable_Table_Count
noncomputable def c0 : Code := match Try.f17.body with | some c => c | none => .skip
def R (F : List Atom) (b2 : Nat) (r : Int × sstable_Table) : Ending → World → Prop := fun e w' => ∃ (A10 : Option Addr), ∃ (k11 : Nat), ∃ (A12 : Option Addr), ∃ (k13 : Nat), ∃ (A14 : Option Addr), ∃ (k15 : Nat), e = .returned (.int .i64 r.1) ∧ SL ([blk b2 [.slice A10 r.2.b.length k11, .slice A12 r.2.blocks.length k13, .slice A14 r.2.filter.length k15, .int .i64 r.2.count, .int .i64 r.2.reads], sl .ro ku8 A10 k11 r.2.b, sl .ro ksstable_block A12 k13 r.2.blocks, sl .ro ku8 A14 k15 r.2.filter] ++ F) w'
def f (x1 : sstable_Table) : Option (Int × sstable_Table) := some (x1.count, x1)
theorem ok (F : List Atom) (w : World) (x1 : sstable_Table) {b2 : Nat} {A3 : Option Addr} {k4 : Nat} {A5 : Option Addr} {k6 : Nat} {A7 : Option Addr} {k8 : Nat} (S : SL ([blk b2 [.slice A3 x1.b.length k4, .slice A5 x1.blocks.length k6, .slice A7 x1.filter.length k8, .int .i64 x1.count, .int .i64 x1.reads], sl .ro ku8 A3 k4 x1.b, sl .ro ksstable_block A5 k6 x1.blocks, sl .ro ku8 A7 k8 x1.filter] ++ F) w) (r : Int × sstable_Table) (H : f x1 = some r) : Calls Try.prog 17 #[.pointer (some ⟨b2, 0, none⟩)] w (R F b2 r) := by
  refine enter (vs := [.pointer (some ⟨b2, 0, none⟩)]) Try.func17 rfl Try.ntmps17 (Nat.le_of_ble_eq_true rfl) fun a T => ?_
  refine Gets.seq ?_
  refine rg ?_
  refine r_pv T rfl rfl fun _ T => ?_
  refine Gets.seq ?_
  refine rg ?_
  refine r_pv T rfl rfl fun _ T => ?_
  refine r_pv T rfl rfl fun _ T => ?_
  refine r_fa (o' := 3) T rfl Try.runUnderlying69 rfl Try.sizeOf3 rfl rfl fun _ T => ?_
  refine r_ldB (ix := 0) T S rfl Try.isAgg3 rfl rfl rfl fun _ T => ?_
  refine r_pv T rfl rfl fun _ T => ?_
  replace H := Option.some.inj H
  subst H
  exact rtn T Try.func17 rfl rfl ⟨A3, k4, A5, k6, A7, k8, rfl, (S.only (p := [blk b2 [.slice A3 x1.b.length k4, .slice A5 x1.blocks.length k6, .slice A7 x1.filter.length k8, .int .i64 x1.count, .int .i64 x1.reads], sl .ro ku8 A3 k4 x1.b, sl .ro ksstable_block A5 k6 x1.blocks, sl .ro ku8 A7 k8 x1.filter]) [0, 0, 0, 0] rfl)⟩
end sstable_Table_Count
end Go.Proofs.Ytghpokmkhlmgcaa

namespace Go.Proofs.Ytghpokmkhlmgcaa
open Go Go.Proofs.Ytghpokmkhlmgcaa.X
set_option linter.unusedVariables false
set_option linter.unusedSimpArgs false
set_option maxRecDepth 100000
set_option maxHeartbeats 4000000
/-! ### (*cormorant.sstable.Table).Blocks: function 18 -/
namespace sstable_Table_Blocks
noncomputable def c0 : Code := match Try.f18.body with | some c => c | none => .skip
def R (F : List Atom) (b2 : Nat) (r : Int × sstable_Table) : Ending → World → Prop := fun e w' => ∃ (A10 : Option Addr), ∃ (k11 : Nat), ∃ (A12 : Option Addr), ∃ (k13 : Nat), ∃ (A14 : Option Addr), ∃ (k15 : Nat), e = .returned (.int .i64 r.1) ∧ SL ([blk b2 [.slice A10 r.2.b.length k11, .slice A12 r.2.blocks.length k13, .slice A14 r.2.filter.length k15, .int .i64 r.2.count, .int .i64 r.2.reads], sl .ro ku8 A10 k11 r.2.b, sl .ro ksstable_block A12 k13 r.2.blocks, sl .ro ku8 A14 k15 r.2.filter] ++ F) w'
def f (x1 : sstable_Table) : Option (Int × sstable_Table) := some ((x1.blocks.length : Int), x1)
theorem ok (F : List Atom) (w : World) (x1 : sstable_Table) {b2 : Nat} {A3 : Option Addr} {k4 : Nat} {A5 : Option Addr} {k6 : Nat} {A7 : Option Addr} {k8 : Nat} (S : SL ([blk b2 [.slice A3 x1.b.length k4, .slice A5 x1.blocks.length k6, .slice A7 x1.filter.length k8, .int .i64 x1.count, .int .i64 x1.reads], sl .ro ku8 A3 k4 x1.b, sl .ro ksstable_block A5 k6 x1.blocks, sl .ro ku8 A7 k8 x1.filter] ++ F) w) (r : Int × sstable_Table) (H : f x1 = some r) : Calls Try.prog 18 #[.pointer (some ⟨b2, 0, none⟩)] w (R F b2 r) := by
  refine enter (vs := [.pointer (some ⟨b2, 0, none⟩)]) Try.func18 rfl Try.ntmps18 (Nat.le_of_ble_eq_true rfl) fun a T => ?_
  refine Gets.seq ?_
  refine rg ?_
  refine r_pv T rfl rfl fun _ T => ?_
  refine Gets.seq ?_
  refine rg ?_
  refine r_pv T rfl rfl fun _ T => ?_
  refine r_pv T rfl rfl fun _ T => ?_
  refine r_fa (o' := 1) T rfl Try.runUnderlying69 rfl Try.sizeOf67 rfl rfl fun _ T => ?_
  refine r_ldB (ix := 0) T S rfl Try.isAgg67 rfl rfl rfl fun _ T => ?_
  refine r_lenS T rfl Try.runUnderlying67 rfl fun _ T => ?_
  refine r_pv T rfl rfl fun _ T => ?_
  replace H := Option.some.inj H
  subst H
  exact rtn T Try.func18 rfl rfl ⟨A3, k4, A5, k6, A7, k8, rfl, (S.only (p := [blk b2 [.slice A3 x1.b.length k4, .slice A5 x1.blocks.length k6, .slice A7 x1.filter.length k8, .int .i64 x1.count, .int .i64 x1.reads], sl .ro ku8 A3 k4 x1.b, sl .ro ksstable_block A5 k6 x1.blocks, sl .ro ku8 A7 k8 x1.filter]) [0, 0, 0, 0] rfl)⟩
end sstable_Table_Blocks
end Go.Proofs.Ytghpokmkhlmgcaa

namespace Go.Proofs.Ytghpokmkhlmgcaa
open Go Go.Proofs.Ytghpokmkhlmgcaa.X
set_option linter.unusedVariables false
set_option linter.unusedSimpArgs false
set_option maxRecDepth 100000
set_option maxHeartbeats 4000000
/-! ### cormorant.cormorantlaw04.few: function 24 -/
namespace cormorantlaw04_few
noncomputable def c0 : Code := match Try.f24.body with | some c => c | none => .skip
def R (F : List Atom) (r : (List api_Entry)) : Ending → World → Prop := fun e w' => ∃ (A7 : Option Addr), ∃ (k8 : Nat), e = .returned (.slice A7 r.length k8) ∧ SL ([sl .own kapi_Entry A7 k8 r] ++ F) w'
def f : Option (List api_Entry) := some [(api_Entry.mk [97] 2 false [120]), (api_Entry.mk [97] 1 true ([] : List Int)), (api_Entry.mk [98] 3 false [121, 122])]
theorem ok (F : List Atom) (w : World) (S : SL ([] ++ F) w) (r : (List api_Entry)) (H : f  = some r) : Calls Try.prog 24 #[] w (R F r) := by
  refine enter (vs := []) Try.func24 rfl Try.ntmps24 (Nat.le_of_ble_eq_true rfl) fun a T => ?_
  refine Gets.seq ?_
  refine rg ?_
  refine r_pv T rfl rfl fun _ T => ?_
  refine Gets.seq ?_
  refine rg ?_
  replace S := SL.val (κ := ku8) (x := 97) (cs := [.int .u8 97]) (fun _ => rfl) S
  refine r_bsl (κ := ku8) (xs := [97]) (vs := [.int .u8 97]) T S sty24 rfl ⟨_, _, rfl, ⟨0, rfl⟩, rfl⟩ rfl (by decide) rfl fun _ _ b1 S T => ?_
  replace S : SL ([sl .own ku8 (some ⟨b1, 0, none⟩) 1 [97]] ++ F) _ := S.only [0] rfl
  refine r_cvS (ix := 0) T S rfl rfl Try.runUnderlying24 Try.runUnderlying5 rfl ⟨_, rfl⟩ fun _ _ S T => ?_
  replace S := SL.val (κ := ku8) (x := 120) (cs := [.int .u8 120]) (fun _ => rfl) S
  refine r_bsl (κ := ku8) (xs := [120]) (vs := [.int .u8 120]) T S sty24 rfl ⟨_, _, rfl, ⟨0, rfl⟩, rfl⟩ rfl (by decide) rfl fun _ _ b2 S T => ?_
  replace S : SL ([sl .own ku8 (some ⟨b2, 0, none⟩) 1 [120], sl .own ku8 (some ⟨b1, 0, none⟩) 1 [97]] ++ F) _ := S.only [0, 1] rfl
  refine r_cvS (ix := 0) T S rfl rfl Try.runUnderlying24 Try.runUnderlying5 rfl ⟨_, rfl⟩ fun _ _ S T => ?_
  refine r_build (cs := #[.slice (some ⟨b1, 0, none⟩) 1 1, .int .u64 2, .bool false, .slice (some ⟨b2, 0, none⟩) 1 1]) T stt36 rfl rfl rfl fun _ T => ?_
  replace S := SL.val (κ := ku8) (x := 97) (cs := [.int .u8 97]) (fun _ => rfl) S
  refine r_bsl (κ := ku8) (xs := [97]) (vs := [.int .u8 97]) T S sty24 rfl ⟨_, _, rfl, ⟨0, rfl⟩, rfl⟩ rfl (by decide) rfl fun _ _ b3 S T => ?_
  replace S : SL ([sl .own ku8 (some ⟨b3, 0, none⟩) 1 [97], sl .own ku8 (some ⟨b2, 0, none⟩) 1 [120], sl .own ku8 (some ⟨b1, 0, none⟩) 1 [97]] ++ F) _ := S.only [0, 1, 1] rfl
  refine r_cvS (ix := 0) T S rfl rfl Try.runUnderlying24 Try.runUnderlying5 rfl ⟨_, rfl⟩ fun _ _ S T => ?_
  refine r_build (cs := #[.slice (some ⟨b3, 0, none⟩) 1 1, .int .u64 1, .bool true, .slice none 0 0]) T stt36 rfl rfl rfl fun _ T => ?_
  replace S := SL.val (κ := ku8) (x := 98) (cs := [.int .u8 98]) (fun _ => rfl) S
  refine r_bsl (κ := ku8) (xs := [98]) (vs := [.int .u8 98]) T S sty24 rfl ⟨_, _, rfl, ⟨0, rfl⟩, rfl⟩ rfl (by decide) rfl fun _ _ b4 S T => ?_
  replace S : SL ([sl .own ku8 (some ⟨b4, 0, none⟩) 1 [98], sl .own ku8 (some ⟨b3, 0, none⟩) 1 [97], sl .own ku8 (some ⟨b2, 0, none⟩) 1 [120], sl .own ku8 (some ⟨b1, 0, none⟩) 1 [97]] ++ F) _ := S.only [0, 1, 1, 1] rfl
  refine r_cvS (ix := 0) T S rfl rfl Try.runUnderlying24 Try.runUnderlying5 rfl ⟨_, rfl⟩ fun _ _ S T => ?_
  replace S := SL.val (κ := ku8) (x := 121) (cs := [.int .u8 121]) (fun _ => rfl) S
  replace S := SL.val (κ := ku8) (x := 122) (cs := [.int .u8 122]) (fun _ => rfl) S
  refine r_bsl (κ := ku8) (xs := [121, 122]) (vs := [.int .u8 121, .int .u8 122]) T S sty24 rfl ⟨_, _, rfl, ⟨1, rfl⟩, ⟨_, _, rfl, ⟨0, rfl⟩, rfl⟩⟩ rfl (by decide) rfl fun _ _ b5 S T => ?_
  replace S : SL ([sl .own ku8 (some ⟨b5, 0, none⟩) 2 [121, 122], sl .own ku8 (some ⟨b4, 0, none⟩) 1 [98], sl .own ku8 (some ⟨b3, 0, none⟩) 1 [97], sl .own ku8 (some ⟨b2, 0, none⟩) 1 [120], sl .own ku8 (some ⟨b1, 0, none⟩) 1 [97]] ++ F) _ := S.only [0, 2, 2, 2, 2] rfl
  refine r_cvS (ix := 0) T S rfl rfl Try.runUnderlying24 Try.runUnderlying5 rfl ⟨_, rfl⟩ fun _ _ S T => ?_
  refine r_build (cs := #[.slice (some ⟨b4, 0, none⟩) 1 1, .int .u64 3, .bool false, .slice (some ⟨b5, 0, none⟩) 2 2]) T stt36 rfl rfl rfl fun _ T => ?_
  replace S : SL ([sl .own ku8 (some ⟨b5, 0, none⟩) 2 [121, 122], sl .own ku8 (some ⟨b4, 0, none⟩) 1 [98], sl .own ku8 (some ⟨b3, 0, none⟩) 1 [97], sl .own ku8 (some ⟨b2, 0, none⟩) 1 [120], sl .ro ku8 (some ⟨b1, 0, none⟩) 1 [97]] ++ F) _ := S.fixL (i := 4) rfl rfl
  replace S : SL ([sl .own ku8 (some ⟨b5, 0, none⟩) 2 [121, 122], sl .own ku8 (some ⟨b4, 0, none⟩) 1 [98], sl .own ku8 (some ⟨b3, 0, none⟩) 1 [97], sl .ro ku8 (some ⟨b2, 0, none⟩) 1 [120], sl .ro ku8 (some ⟨b1, 0, none⟩) 1 [97]] ++ F) _ := S.fixL (i := 3) rfl rfl
  replace S : SL ([rp kapi_Entry (api_Entry.mk [97] 2 false [120]) [.slice (some ⟨b1, 0, none⟩) 1 1, .int .u64 2, .bool false, .slice (some ⟨b2, 0, none⟩) 1 1], sl .own ku8 (some ⟨b5, 0, none⟩) 2 [121, 122], sl .own ku8 (some ⟨b4, 0, none⟩) 1 [98], sl .own ku8 (some ⟨b3, 0, none⟩) 1 [97], sl .ro ku8 (some ⟨b2, 0, none⟩) 1 [120], sl .ro ku8 (some ⟨b1, 0, none⟩) 1 [97]] ++ F) _ := cl_api_Entry (i0 := 4) (i1 := 3) S rfl rfl
  replace S : SL ([rp kapi_Entry (api_Entry.mk [97] 2 false [120]) [.slice (some ⟨b1, 0, none⟩) 1 1, .int .u64 2, .bool false, .slice (some ⟨b2, 0, none⟩) 1 1], sl .own ku8 (some ⟨b5, 0, none⟩) 2 [121, 122], sl .own ku8 (some ⟨b4, 0, none⟩) 1 [98], sl .ro ku8 (some ⟨b3, 0, none⟩) 1 [97], sl .ro ku8 (some ⟨b2, 0, none⟩) 1 [120], sl .ro ku8 (some ⟨b1, 0, none⟩) 1 [97]] ++ F) _ := S.fixL (i := 3) rfl rfl
  replace S := S.nil ku8 .ro
  replace S : SL ([rp kapi_Entry (api_Entry.mk [97] 1 true ([] : List Int)) [.slice (some ⟨b3, 0, none⟩) 1 1, .int .u64 1, .bool true, .slice none 0 0], sl .ro ku8 none 0 ([] : List Int), rp kapi_Entry (api_Entry.mk [97] 2 false [120]) [.slice (some ⟨b1, 0, none⟩) 1 1, .int .u64 2, .bool false, .slice (some ⟨b2, 0, none⟩) 1 1], sl .own ku8 (some ⟨b5, 0, none⟩) 2 [121, 122], sl .own ku8 (some ⟨b4, 0, none⟩) 1 [98], sl .ro ku8 (some ⟨b3, 0, none⟩) 1 [97], sl .ro ku8 (some ⟨b2, 0, none⟩) 1 [120], sl .ro ku8 (some ⟨b1, 0, none⟩) 1 [97]] ++ F) _ := cl_api_Entry (i0 := 4) (i1 := 0) S rfl rfl
  replace S : SL ([rp kapi_Entry (api_Entry.mk [97] 1 true ([] : List Int)) [.slice (some ⟨b3, 0, none⟩) 1 1, .int .u64 1, .bool true, .slice none 0 0], sl .ro ku8 none 0 ([] : List Int), rp kapi_Entry (api_Entry.mk [97] 2 false [120]) [.slice (some ⟨b1, 0, none⟩) 1 1, .int .u64 2, .bool false, .slice (some ⟨b2, 0, none⟩) 1 1], sl .own ku8 (some ⟨b5, 0, none⟩) 2 [121, 122], sl .ro ku8 (some ⟨b4, 0, none⟩) 1 [98], sl .ro ku8 (some ⟨b3, 0, none⟩) 1 [97], sl .ro ku8 (some ⟨b2, 0, none⟩) 1 [120], sl .ro ku8 (some ⟨b1, 0, none⟩) 1 [97]] ++ F) _ := S.fixL (i := 4) rfl rfl
  replace S : SL ([rp kapi_Entry (api_Entry.mk [97] 1 true ([] : List Int)) [.slice (some ⟨b3, 0, none⟩) 1 1, .int .u64 1, .bool true, .slice none 0 0], sl .ro ku8 none 0 ([] : List Int), rp kapi_Entry (api_Entry.mk [97] 2 false [120]) [.slice (some ⟨b1, 0, none⟩) 1 1, .int .u64 2, .bool false, .slice (some ⟨b2, 0, none⟩) 1 1], sl .ro ku8 (some ⟨b5, 0, none⟩) 2 [121, 122], sl .ro ku8 (some ⟨b4, 0, none⟩) 1 [98], sl .ro ku8 (some ⟨b3, 0, none⟩) 1 [97], sl .ro ku8 (some ⟨b2, 0, none⟩) 1 [120], sl .ro ku8 (some ⟨b1, 0, none⟩) 1 [97]] ++ F) _ := S.fixL (i := 3) rfl rfl
  replace S : SL ([rp kapi_Entry (api_Entry.mk [98] 3 false [121, 122]) [.slice (some ⟨b4, 0, none⟩) 1 1, .int .u64 3, .bool false, .slice (some ⟨b5, 0, none⟩) 2 2], rp kapi_Entry (api_Entry.mk [97] 1 true ([] : List Int)) [.slice (some ⟨b3, 0, none⟩) 1 1, .int .u64 1, .bool true, .slice none 0 0], sl .ro ku8 none 0 ([] : List Int), rp kapi_Entry (api_Entry.mk [97] 2 false [120]) [.slice (some ⟨b1, 0, none⟩) 1 1, .int .u64 2, .bool false, .slice (some ⟨b2, 0, none⟩) 1 1], sl .ro ku8 (some ⟨b5, 0, none⟩) 2 [121, 122], sl .ro ku8 (some ⟨b4, 0, none⟩) 1 [98], sl .ro ku8 (some ⟨b3, 0, none⟩) 1 [97], sl .ro ku8 (some ⟨b2, 0, none⟩) 1 [120], sl .ro ku8 (some ⟨b1, 0, none⟩) 1 [97]] ++ F) _ := cl_api_Entry (i0 := 4) (i1 := 3) S rfl rfl
  refine r_bsl (κ := kapi_Entry) (xs := [(api_Entry.mk [97] 2 false [120]), (api_Entry.mk [97] 1 true ([] : List Int)), (api_Entry.mk [98] 3 false [121, 122])]) (vs := [.agg #[.slice (some ⟨b1, 0, none⟩) 1 1, .int .u64 2, .bool false, .slice (some ⟨b2, 0, none⟩) 1 1], .agg #[.slice (some ⟨b3, 0, none⟩) 1 1, .int .u64 1, .bool true, .slice none 0 0], .agg #[.slice (some ⟨b4, 0, none⟩) 1 1, .int .u64 3, .bool false, .slice (some ⟨b5, 0, none⟩) 2 2]]) T S sty22 rfl ⟨_, _, rfl, ⟨3, rfl⟩, ⟨_, _, rfl, ⟨1, rfl⟩, ⟨_, _, rfl, ⟨0, rfl⟩, rfl⟩⟩⟩ rfl (by decide) rfl fun _ _ b6 S T => ?_
  replace S : SL ([sl .own kapi_Entry (some ⟨b6, 0, none⟩) 3 [(api_Entry.mk [97] 2 false [120]), (api_Entry.mk [97] 1 true ([] : List Int)), (api_Entry.mk [98] 3 false [121, 122])], sl .ro ku8 none 0 ([] : List Int), sl .ro ku8 (some ⟨b5, 0, none⟩) 2 [121, 122], sl .ro ku8 (some ⟨b4, 0, none⟩) 1 [98], sl .ro ku8 (some ⟨b3, 0, none⟩) 1 [97], sl .ro ku8 (some ⟨b2, 0, none⟩) 1 [120], sl .ro ku8 (some ⟨b1, 0, none⟩) 1 [97]] ++ F) _ := S.only [0, 2, 3, 3, 3, 3, 3] rfl
  refine r_pv T rfl rfl fun _ T => ?_
  replace H := Option.some.inj H
  subst H
  replace T := T.re (s := 0) (v' := .slice (some ⟨b6, 0, none⟩) [(api_Entry.mk [97] 2 false [120]), (api_Entry.mk [97] 1 true ([] : List Int)), (api_Entry.mk [98] 3 false [121, 122])].length 3) rfl (by simp)
  exact rtn T Try.func24 rfl rfl ⟨(some ⟨b6, 0, none⟩), 3, rfl, (S.only (p := [sl .own kapi_Entry (some ⟨b6, 0, none⟩) 3 [(api_Entry.mk [97] 2 false [120]), (api_Entry.mk [97] 1 true ([] : List Int)), (api_Entry.mk [98] 3 false [121, 122])]]) [0] rfl)⟩
end cormorantlaw04_few
end Go.Proofs.Ytghpokmkhlmgcaa

namespace Go.Proofs.Ytghpokmkhlmgcaa
open Go Go.Proofs.Ytghpokmkhlmgcaa.X
set_option linter.unusedVariables false
set_option linter.unusedSimpArgs false
set_option maxRecDepth 100000
set_option maxHeartbeats 4000000
/-! ### cormorant.sstable.fits: function 25 -/
namespace sstable_fits
noncomputable def c0 : Code := match Try.f25.body with | some c => c | none => .skip
def R (F : List Atom) (x1 : api_Entry) (A2 : Option Addr) (k3 : Nat) (A4 : Option Addr) (k5 : Nat) (r : Bool) : Ending → World → Prop := fun e w' => e = .returned (.bool r) ∧ SL ([sl .ro ku8 A2 k3 x1.Key, sl .ro ku8 A4 k5 x1.Value] ++ F) w'
def J1 (x13 : Bool) : Option Bool := some x13
def J0 (x1 : api_Entry) : Option Bool := If (decide ((x1.Key.length : Int) > 0)) (If (decide ((x1.Key.length : Int) ≤ 256)) (If (decide (x1.Seq > 0)) (If (decide (x1.Seq ≤ 4611686018427387904)) (J1 (decide ((x1.Value.length : Int) ≤ 65536))) (J1 false)) (J1 false)) (J1 false)) (J1 false)
def f (x1 : api_Entry) : Option Bool := If x1.Del (If (decide ((x1.Value.length : Int) > 0)) (some false) (J0 x1)) (J0 x1)
noncomputable def ptJ1 : List Item := [.code (cR (cR (cR c0)))]
noncomputable def ptJ0 : List Item := [.code (cL (cR (cR c0))), .code (cR (cR (cR c0)))]
theorem J1_ok (F : List Atom) (r : Bool) (x1 : api_Entry) (A2 : Option Addr) (k3 : Nat) (A4 : Option Addr) (k5 : Nat) (x13 : Bool) (a : Act) (w : World) (T : Tm 37 [(2, .bool x13)] a) (S : SL ([sl .ro ku8 A2 k3 x1.Key, sl .ro ku8 A4 k5 x1.Value] ++ F) w) (H : J1 x13 = some r) : Gets Try.prog 25 ptJ1 a w (R F x1 A2 k3 A4 k5 r) := by
  replace H := Option.some.inj H
  subst H
  exact rtn T Try.func25 rfl rfl ⟨rfl, (S.only (p := [sl .ro ku8 A2 k3 x1.Key, sl .ro ku8 A4 k5 x1.Value]) [0, 0] rfl)⟩
theorem J0_ok (F : List Atom) (r : Bool) (x1 : api_Entry) (A2 : Option Addr) (k3 : Nat) (A4 : Option Addr) (k5 : Nat) (b6 : Nat) (a : Act) (w : World) (T : Tm 37 [(1, .pointer (some ⟨b6, 0, none⟩))] a) (S : SL ([sl .ro ku8 A2 k3 x1.Key, sl .ro ku8 A4 k5 x1.Value, blk b6 [.slice A2 x1.Key.length k3, .int .u64 x1.Seq, .bool x1.Del, .slice A4 x1.Value.length k5]] ++ F) w) (H : J0 x1 = some r) : Gets Try.prog 25 ptJ0 a w (R F x1 A2 k3 A4 k5 r) := by
  refine rg ?_
  refine r_fa (o' := 0) T rfl Try.runUnderlying36 rfl Try.sizeOf24 rfl rfl fun _ T => ?_
  refine r_ldB (ix := 2) T S rfl Try.isAgg24 rfl rfl rfl fun _ T => ?_
  refine r_lenS T rfl Try.runUnderlying24 rfl fun _ T => ?_
  refine r_pv T rfl rfl fun _ T => ?_
  refine r_pv T rfl rfl fun _ T => ?_
  rcases ifE H with ⟨h9, H⟩ | ⟨h9, H⟩
  · refine g_yes T rfl rfl h9 ?_
    refine r_fa (o' := 0) T rfl Try.runUnderlying36 rfl Try.sizeOf24 rfl rfl fun _ T => ?_
    refine g_yes T rfl rfl h9 ?_
    refine r_ldB (ix := 2) T S rfl Try.isAgg24 rfl rfl rfl fun _ T => ?_
    refine g_yes T rfl rfl h9 ?_
    refine r_lenS T rfl Try.runUnderlying24 rfl fun _ T => ?_
    refine g_yes T rfl rfl h9 ?_
    refine r_pv T rfl rfl fun _ T => ?_
    refine r_pickT T rfl h9 rfl rfl fun _ T => ?_
    refine r_pv T rfl rfl fun _ T => ?_
    rcases ifE H with ⟨h10, H⟩ | ⟨h10, H⟩
    · refine g_yes T rfl rfl h10 ?_
      refine r_fa (o' := 1) T rfl Try.runUnderlying36 rfl Try.sizeOf34 rfl rfl fun _ T => ?_
      refine g_yes T rfl rfl h10 ?_
      refine r_ldB (ix := 2) T S rfl Try.isAgg34 rfl rfl rfl fun _ T => ?_
      refine g_yes T rfl rfl h10 ?_
      refine r_pv T rfl rfl fun _ T => ?_
      refine r_pickT T rfl h10 rfl rfl fun _ T => ?_
      refine r_pv T rfl rfl fun _ T => ?_
      rcases ifE H with ⟨h11, H⟩ | ⟨h11, H⟩
      · refine g_yes T rfl rfl h11 ?_
        refine r_fa (o' := 1) T rfl Try.runUnderlying36 rfl Try.sizeOf34 rfl rfl fun _ T => ?_
        refine g_yes T rfl rfl h11 ?_
        refine r_ldB (ix := 2) T S rfl Try.isAgg34 rfl rfl rfl fun _ T => ?_
        refine g_yes T rfl rfl h11 ?_
        refine r_pv T rfl rfl fun _ T => ?_
        refine r_pickT T rfl h11 rfl rfl fun _ T => ?_
        refine r_pv T rfl rfl fun _ T => ?_
        rcases ifE H with ⟨h12, H⟩ | ⟨h12, H⟩
        · refine g_yes T rfl rfl h12 ?_
          refine r_fa (o' := 3) T rfl Try.runUnderlying36 rfl Try.sizeOf24 rfl rfl fun _ T => ?_
          refine g_yes T rfl rfl h12 ?_
          refine r_ldB (ix := 2) T S rfl Try.isAgg24 rfl rfl rfl fun _ T => ?_
          refine g_yes T rfl rfl h12 ?_
          refine r_lenS T rfl Try.runUnderlying24 rfl fun _ T => ?_
          refine g_yes T rfl rfl h12 ?_
          refine r_pv T rfl rfl fun _ T => ?_
          refine r_pickT T rfl h12 rfl rfl fun _ T => ?_
          refine r_pv T rfl rfl fun _ T => ?_
          exact J1_ok F r x1 A2 k3 A4 k5 (decide ((x1.Value.length : Int) ≤ 65536)) _ _ (T.sub ⟨rfl, trivial⟩) (S.only (p := [sl .ro ku8 A2 k3 x1.Key, sl .ro ku8 A4 k5 x1.Value]) [0, 0] rfl) H
        · refine g_no T rfl rfl h12 rfl fun _ T => ?_
          refine g_no T rfl rfl h12 rfl fun _ T => ?_
          refine g_no T rfl rfl h12 rfl fun _ T => ?_
          refine g_no T rfl rfl h12 rfl fun _ T => ?_
          refine r_pickF T rfl h12 rfl rfl fun _ T => ?_
          refine r_pv T rfl rfl fun _ T => ?_
          exact J1_ok F r x1 A2 k3 A4 k5 false _ _ (T.sub ⟨rfl, trivial⟩) (S.only (p := [sl .ro ku8 A2 k3 x1.Key, sl .ro ku8 A4 k5 x1.Value]) [0, 0] rfl) H
      · refine g_no T rfl rfl h11 rfl fun _ T => ?_
        refine g_no T rfl rfl h11 rfl fun _ T => ?_
        refine g_no T rfl rfl h11 rfl fun _ T => ?_
        refine r_pickF T rfl h11 rfl rfl fun _ T => ?_
        refine r_pv T rfl rfl fun _ T => ?_
        refine g_no T rfl rfl rfl rfl fun _ T => ?_
        refine g_no T rfl rfl rfl rfl fun _ T => ?_
        refine g_no T rfl rfl rfl rfl fun _ T => ?_
        refine g_no T rfl rfl rfl rfl fun _ T => ?_
        refine r_pickF T rfl rfl rfl rfl fun _ T => ?_
        refine r_pv T rfl rfl fun _ T => ?_
        exact J1_ok F r x1 A2 k3 A4 k5 false _ _ (T.sub ⟨rfl, trivial⟩) (S.only (p := [sl .ro ku8 A2 k3 x1.Key, sl .ro ku8 A4 k5 x1.Value]) [0, 0] rfl) H
    · refine g_no T rfl rfl h10 rfl fun _ T => ?_
      refine g_no T rfl rfl h10 rfl fun _ T => ?_
      refine g_no T rfl rfl h10 rfl fun _ T => ?_
      refine r_pickF T rfl h10 rfl rfl fun _ T => ?_
      refine r_pv T rfl rfl fun _ T => ?_
      refine g_no T rfl rfl rfl rfl fun _ T => ?_
      refine g_no T rfl rfl rfl rfl fun _ T => ?_
      refine g_no T rfl rfl rfl rfl fun _ T => ?_
      refine r_pickF T rfl rfl rfl rfl fun _ T => ?_
      refine r_pv T rfl rfl fun _ T => ?_
      refine g_no T rfl rfl rfl rfl fun _ T => ?_
      refine g_no T rfl rfl rfl rfl fun _ T => ?_
      refine g_no T rfl rfl rfl rfl fun _ T => ?_
      refine g_no T rfl rfl rfl rfl fun _ T => ?_
      refine r_pickF T rfl rfl rfl rfl fun _ T => ?_
      refine r_pv T rfl rfl fun _ T => ?_
      exact J1_ok F r x1 A2 k3 A4 k5 false _ _ (T.sub ⟨rfl, trivial⟩) (S.only (p := [sl .ro ku8 A2 k3 x1.Key, sl .ro ku8 A4 k5 x1.Value]) [0, 0] rfl) H
  · refine g_no T rfl rfl h9 rfl fun _ T => ?_
    refine g_no T rfl rfl h9 rfl fun _ T => ?_
    refine g_no T rfl rfl h9 rfl fun _ T => ?_
    refine g_no T rfl rfl h9 rfl fun _ T => ?_
    refine r_pickF T rfl h9 rfl rfl fun _ T => ?_
    refine r_pv T rfl rfl fun _ T => ?_
    refine g_no T rfl rfl rfl rfl fun _ T => ?_
    refine g_no T rfl rfl rfl rfl fun _ T => ?_
    refine g_no T rfl rfl rfl rfl fun _ T => ?_
    refine r_pickF T rfl rfl rfl rfl fun _ T => ?_
    refine r_pv T rfl rfl fun _ T => ?_
    refine g_no T rfl rfl rfl rfl fun _ T => ?_
    refine g_no T rfl rfl rfl rfl fun _ T => ?_
    refine g_no T rfl rfl rfl rfl fun _ T => ?_
    refine r_pickF T rfl rfl rfl rfl fun _ T => ?_
    refine r_pv T rfl rfl fun _ T => ?_
    refine g_no T rfl rfl rfl rfl fun _ T => ?_
    refine g_no T rfl rfl rfl rfl fun _ T => ?_
    refine g_no T rfl rfl rfl rfl fun _ T => ?_
    refine g_no T rfl rfl rfl rfl fun _ T => ?_
    refine r_pickF T rfl rfl rfl rfl fun _ T => ?_
    refine r_pv T rfl rfl fun _ T => ?_
    exact J1_ok F r x1 A2 k3 A4 k5 false _ _ (T.sub ⟨rfl, trivial⟩) (S.only (p := [sl .ro ku8 A2 k3 x1.Key, sl .ro ku8 A4 k5 x1.Value]) [0, 0] rfl) H
theorem ok (F : List Atom) (w : World) (x1 : api_Entry) {A2 : Option Addr} {k3 : Nat} {A4 : Option Addr} {k5 : Nat} (S : SL ([sl .ro ku8 A2 k3 x1.Key, sl .ro ku8 A4 k5 x1.Value] ++ F) w) (r : Bool) (H : f x1 = some r) : Calls Try.prog 25 #[.agg #[.slice A2 x1.Key.length k3, .int .u64 x1.Seq, .bool x1.Del, .slice A4 x1.Value.length k5]] w (R F x1 A2 k3 A4 k5 r) := by
  refine enter (vs := [.agg #[.slice A2 x1.Key.length k3, .int .u64 x1.Seq, .bool x1.Del, .slice A4 x1.Value.length k5]]) Try.func25 rfl Try.ntmps25 (Nat.le_of_ble_eq_true rfl) fun a T => ?_
  refine Gets.seq ?_
  refine rg ?_
  refine r_box T S rfl (cs := [.slice A2 x1.Key.length k3, .int .u64 x1.Seq, .bool x1.Del, .slice A4 x1.Value.length k5]) rfl rfl fun _ _ b6 S T => ?_
  refine r_pv T rfl rfl fun _ T => ?_
  refine Gets.seq (Gets.seq ?_)
  refine rg ?_
  refine r_fa (o' := 2) T rfl Try.runUnderlying36 rfl Try.sizeOf4 rfl rfl fun _ T => ?_
  refine r_ldB (ix := 0) T S rfl Try.isAgg4 rfl rfl rfl fun _ T => ?_
  refine r_pv T rfl rfl fun _ T => ?_
  rcases ifE H with ⟨h7, H⟩ | ⟨h7, H⟩
  · refine g_yes T rfl rfl h7 ?_
    refine r_fa (o' := 3) T rfl Try.runUnderlying36 rfl Try.sizeOf24 rfl rfl fun _ T => ?_
    refine g_yes T rfl rfl h7 ?_
    refine r_ldB (ix := 0) T S rfl Try.isAgg24 rfl rfl rfl fun _ T => ?_
    refine g_yes T rfl rfl h7 ?_
    refine r_lenS T rfl Try.runUnderlying24 rfl fun _ T => ?_
    refine g_yes T rfl rfl h7 ?_
    refine r_pv T rfl rfl fun _ T => ?_
    refine r_pickT T rfl h7 rfl rfl fun _ T => ?_
    rcases ifE H with ⟨h8, H⟩ | ⟨h8, H⟩
    · refine cdT T rfl h8 ?_
      refine Gets.seq ?_
      refine rg ?_
      refine r_pv T rfl rfl fun _ T => ?_
      replace H := Option.some.inj H
      subst H
      exact rtn T Try.func25 rfl rfl ⟨rfl, (S.only (p := [sl .ro ku8 A2 k3 x1.Key, sl .ro ku8 A4 k5 x1.Value]) [1, 1] rfl)⟩
    · refine cdF T rfl h8 ?_
      refine Gets.skip (Gets.seq ?_)
      exact J0_ok F r x1 A2 k3 A4 k5 b6 _ _ (T.sub ⟨rfl, trivial⟩) (S.only (p := [sl .ro ku8 A2 k3 x1.Key, sl .ro ku8 A4 k5 x1.Value, blk b6 [.slice A2 x1.Key.length k3, .int .u64 x1.Seq, .bool x1.Del, .slice A4 x1.Value.length k5]]) [1, 1, 0] rfl) H
  · refine g_no T rfl rfl h7 rfl fun _ T => ?_
    refine g_no T rfl rfl h7 rfl fun _ T => ?_
    refine g_no T rfl rfl h7 rfl fun _ T => ?_
    refine g_no T rfl rfl h7 rfl fun _ T => ?_
    refine r_pickF T rfl h7 rfl rfl fun _ T => ?_
    refine cdF T rfl rfl ?_
    refine Gets.skip (Gets.seq ?_)
    exact J0_ok F r x1 A2 k3 A4 k5 b6 _ _ (T.sub ⟨rfl, trivial⟩) (S.only (p := [sl .ro ku8 A2 k3 x1.Key, sl .ro ku8 A4 k5 x1.Value, blk b6 [.slice A2 x1.Key.length k3, .int .u64 x1.Seq, .bool x1.Del, .slice A4 x1.Value.length k5]]) [1, 1, 0] rfl) H
end sstable_fits
end Go.Proofs.Ytghpokmkhlmgcaa

namespace Go.Proofs.Ytghpokmkhlmgcaa
open Go Go.Proofs.Ytghpokmkhlmgcaa.X
set_option linter.unusedVariables false
set_option linter.unusedSimpArgs false
set_option maxRecDepth 100000
set_option maxHeartbeats 4000000
/-! ### cormorant.sstable.order: function 26 -/
namespace sstable_order
noncomputable def c0 : Code := match Try.f26.body with | some c => c | none => .skip
def R (F : List Atom) (x1 : api_Entry) (A2 : Option Addr) (k3 : Nat) (A4 : Option Addr) (k5 : Nat) (x6 : api_Entry) (A7 : Option Addr) (k8 : Nat) (A9 : Option Addr) (k10 : Nat) (r : Int) : Ending → World → Prop := fun e w' => e = .returned (.int .i64 r) ∧ SL ([sl .ro ku8 A2 k3 x1.Key, sl .ro ku8 A4 k5 x1.Value, sl .ro ku8 A7 k8 x6.Key, sl .ro ku8 A9 k10 x6.Value] ++ F) w'
def J0 (x14 : Int) : Option Int := some x14
def f (x1 : api_Entry) (x6 : api_Entry) : Option Int := Bd (codec_Compare.f x1.Key x6.Key) fun x14 => If (x14 != 0) (J0 x14) (If (x1.Seq == x6.Seq) (J0 x14) (If (decide (x1.Seq > x6.Seq)) (some (-1)) (some 1)))
noncomputable def ptJ0 : List Item := [.code (cL (cT (cR (cR (cL (cR c0)))))), .code (cR (cT (cR (cR (cL (cR c0)))))), .code (cR (cR c0))]
theorem J0_ok (F : List Atom) (r : Int) (x1 : api_Entry) (A2 : Option Addr) (k3 : Nat) (A4 : Option Addr) (k5 : Nat) (x6 : api_Entry) (A7 : Option Addr) (k8 : Nat) (A9 : Option Addr) (k10 : Nat) (x14 : Int) (a : Act) (w : World) (T : Tm 26 [(5, .int .i64 x14)] a) (S : SL ([sl .ro ku8 A2 k3 x1.Key, sl .ro ku8 A4 k5 x1.Value, sl .ro ku8 A7 k8 x6.Key, sl .ro ku8 A9 k10 x6.Value] ++ F) w) (H : J0 x14 = some r) : Gets Try.prog 26 ptJ0 a w (R F x1 A2 k3 A4 k5 x6 A7 k8 A9 k10 r) := by
  refine rg ?_
  refine r_pv T rfl rfl fun _ T => ?_
  refine r_pv T rfl rfl fun _ T => ?_
  replace H := Option.some.inj H
  subst H
  exact rtn T Try.func26 rfl rfl ⟨rfl, (S.only (p := [sl .ro ku8 A2 k3 x1.Key, sl .ro ku8 A4 k5 x1.Value, sl .ro ku8 A7 k8 x6.Key, sl .ro ku8 A9 k10 x6.Value]) [0, 0, 0, 0] rfl)⟩
theorem ok (F : List Atom) (w : World) (x1 : api_Entry) (x6 : api_Entry) {A2 : Option Addr} {k3 : Nat} {A4 : Option Addr} {k5 : Nat} {A7 : Option Addr} {k8 : Nat} {A9 : Option Addr} {k10 : Nat} (S : SL ([sl .ro ku8 A2 k3 x1.Key, sl .ro ku8 A4 k5 x1.Value, sl .ro ku8 A7 k8 x6.Key, sl .ro ku8 A9 k10 x6.Value] ++ F) w) (r : Int) (H : f x1 x6 = some r) : Calls Try.prog 26 #[.agg #[.slice A2 x1.Key.length k3, .int .u64 x1.Seq, .bool x1.Del, .slice A4 x1.Value.length k5], .agg #[.slice A7 x6.Key.length k8, .int .u64 x6.Seq, .bool x6.Del, .slice A9 x6.Value.length k10]] w (R F x1 A2 k3 A4 k5 x6 A7 k8 A9 k10 r) := by
  refine enter (vs := [.agg #[.slice A2 x1.Key.length k3, .int .u64 x1.Seq, .bool x1.Del, .slice A4 x1.Value.length k5], .agg #[.slice A7 x6.Key.length k8, .int .u64 x6.Seq, .bool x6.Del, .slice A9 x6.Value.length k10]]) Try.func26 rfl Try.ntmps26 (Nat.le_of_ble_eq_true rfl) fun a T => ?_
  refine Gets.seq ?_
  refine rg ?_
  refine r_box T S rfl (cs := [.slice A2 x1.Key.length k3, .int .u64 x1.Seq, .bool x1.Del, .slice A4 x1.Value.length k5]) rfl rfl fun _ _ b11 S T => ?_
  refine r_box T S rfl (cs := [.slice A7 x6.Key.length k8, .int .u64 x6.Seq, .bool x6.Del, .slice A9 x6.Value.length k10]) rfl rfl fun _ _ b12 S T => ?_
  refine r_pv T rfl rfl fun _ T => ?_
  refine Gets.seq (Gets.seq ?_)
  refine rg ?_
  refine r_fa (o' := 0) T rfl Try.runUnderlying36 rfl Try.sizeOf24 rfl rfl fun _ T => ?_
  refine r_ldB (ix := 1) T S rfl Try.isAgg24 rfl rfl rfl fun _ T => ?_
  refine r_fa (o' := 0) T rfl Try.runUnderlying36 rfl Try.sizeOf24 rfl rfl fun _ T => ?_
  refine r_ldB (ix := 0) T S rfl Try.isAgg24 rfl rfl rfl fun _ T => ?_
  obtain ⟨x14, h13, H⟩ := bd H
  refine r_call T Try.call38 rfl rfl (codec_Compare.ok _ _ x1.Key x6.Key (S.sel (p := [sl .ro ku8 A2 k3 x1.Key, sl .ro ku8 A7 k8 x6.Key]) (is := [2, 3]) rfl) _ h13) ?_
  rintro _ _ ⟨rfl, S⟩
  refine ⟨_, rfl, fun _ T => ?_⟩
  replace S : SL ([sl .ro ku8 A2 k3 x1.Key, sl .ro ku8 A7 k8 x6.Key, blk b12 [.slice A7 x6.Key.length k8, .int .u64 x6.Seq, .bool x6.Del, .slice A9 x6.Value.length k10], blk b11 [.slice A2 x1.Key.length k3, .int .u64 x1.Seq, .bool x1.Del, .slice A4 x1.Value.length k5], sl .ro ku8 A4 k5 x1.Value, sl .ro ku8 A9 k10 x6.Value] ++ F) _ := S.join
  refine r_pv T rfl rfl fun _ T => ?_
  refine Gets.seq ?_
  refine rg ?_
  refine r_pv T rfl rfl fun _ T => ?_
  refine r_pv T rfl rfl fun _ T => ?_
  refine r_pv T rfl rfl fun _ T => ?_
  rcases ifE H with ⟨h15, H⟩ | ⟨h15, H⟩
  · refine g_no T rfl rfl h15 rfl fun _ T => ?_
    refine g_no T rfl rfl h15 rfl fun _ T => ?_
    refine g_no T rfl rfl h15 rfl fun _ T => ?_
    refine g_no T rfl rfl h15 rfl fun _ T => ?_
    refine g_no T rfl rfl h15 rfl fun _ T => ?_
    refine r_pickT T rfl h15 rfl rfl fun _ T => ?_
    refine cdT T rfl rfl ?_
    refine Gets.seq ?_
    exact J0_ok F r x1 A2 k3 A4 k5 x6 A7 k8 A9 k10 x14 _ _ (T.sub ⟨rfl, trivial⟩) (S.only (p := [sl .ro ku8 A2 k3 x1.Key, sl .ro ku8 A4 k5 x1.Value, sl .ro ku8 A7 k8 x6.Key, sl .ro ku8 A9 k10 x6.Value]) [0, 3, 0, 2] rfl) H
  · refine g_yes T rfl rfl h15 ?_
    refine r_fa (o' := 1) T rfl Try.runUnderlying36 rfl Try.sizeOf34 rfl rfl fun _ T => ?_
    refine g_yes T rfl rfl h15 ?_
    refine r_ldB (ix := 3) T S rfl Try.isAgg34 rfl rfl rfl fun _ T => ?_
    refine g_yes T rfl rfl h15 ?_
    refine r_fa (o' := 1) T rfl Try.runUnderlying36 rfl Try.sizeOf34 rfl rfl fun _ T => ?_
    refine g_yes T rfl rfl h15 ?_
    refine r_ldB (ix := 2) T S rfl Try.isAgg34 rfl rfl rfl fun _ T => ?_
    refine g_yes T rfl rfl h15 ?_
    refine r_pv T rfl rfl fun _ T => ?_
    refine r_pickF T rfl h15 rfl rfl fun _ T => ?_
    rcases ifE H with ⟨h16, H⟩ | ⟨h16, H⟩
    · refine cdT T rfl h16 ?_
      refine Gets.seq ?_
      exact J0_ok F r x1 A2 k3 A4 k5 x6 A7 k8 A9 k10 x14 _ _ (T.sub ⟨rfl, trivial⟩) (S.only (p := [sl .ro ku8 A2 k3 x1.Key, sl .ro ku8 A4 k5 x1.Value, sl .ro ku8 A7 k8 x6.Key, sl .ro ku8 A9 k10 x6.Value]) [0, 3, 0, 2] rfl) H
    · refine cdF T rfl h16 ?_
      refine Gets.skip (Gets.seq (Gets.seq ?_))
      refine rg ?_
      refine r_fa (o' := 1) T rfl Try.runUnderlying36 rfl Try.sizeOf34 rfl rfl fun _ T => ?_
      refine r_ldB (ix := 3) T S rfl Try.isAgg34 rfl rfl rfl fun _ T => ?_
      refine r_fa (o' := 1) T rfl Try.runUnderlying36 rfl Try.sizeOf34 rfl rfl fun _ T => ?_
      refine r_ldB (ix := 2) T S rfl Try.isAgg34 rfl rfl rfl fun _ T => ?_
      refine r_pv T rfl rfl fun _ T => ?_
      rcases ifE H with ⟨h17, H⟩ | ⟨h17, H⟩
      · refine cdT T rfl h17 ?_
        refine Gets.seq ?_
        refine rg ?_
        refine r_pv T rfl rfl fun _ T => ?_
        replace H := Option.some.inj H
        subst H
        exact rtn T Try.func26 rfl rfl ⟨rfl, (S.only (p := [sl .ro ku8 A2 k3 x1.Key, sl .ro ku8 A4 k5 x1.Value, sl .ro ku8 A7 k8 x6.Key, sl .ro ku8 A9 k10 x6.Value]) [0, 3, 0, 2] rfl)⟩
      · refine cdF T rfl h17 ?_
        refine Gets.skip (Gets.seq ?_)
        refine rg ?_
        refine r_pv T rfl rfl fun _ T => ?_
        replace H := Option.some.inj H
        subst H
        exact rtn T Try.func26 rfl rfl ⟨rfl, (S.only (p := [sl .ro ku8 A2 k3 x1.Key, sl .ro ku8 A4 k5 x1.Value, sl .ro ku8 A7 k8 x6.Key, sl .ro ku8 A9 k10 x6.Value]) [0, 3, 0, 2] rfl)⟩
end sstable_order
end Go.Proofs.Ytghpokmkhlmgcaa

namespace Go.Proofs.Ytghpokmkhlmgcaa
open Go Go.Proofs.Ytghpokmkhlmgcaa.X
set_option linter.unusedVariables false
set_option linter.unusedSimpArgs false
set_option maxRecDepth 100000
set_option maxHeartbeats 4000000
/-! ### cormorant.codec.Number: function 55 -/
namespace codec_Number
noncomputable def c0 : Code := match Try.f55.body with | some c => c | none => .skip
def R (F : List Atom) (r : (List Int)) : Ending → World → Prop := fun e w' => ∃ (A18 : Option Addr), ∃ (k19 : Nat), e = .returned (.slice A18 r.length k19) ∧ SL ([sl .own ku8 A18 k19 r] ++ F) w'
def L0 (z : Nat) : Nat → Int → (List Int) → Option (List Int)
  | 0, _, _ => none
  | m + 1, x2, x3 => If (decide (x2 > 127)) (Ck ((x3.length + [bOr .u8 (wr .u8 x2) 128].length) * 1 ≤ 140737488355328) (L0 z m (sShr .u64 x2 7) (x3 ++ [bOr .u8 (wr .u8 x2) 128]))) (Ck ((x3.length + [wr .u8 x2].length) * 1 ≤ 140737488355328) (Bd (slices_Clip_byte.f (x3 ++ [wr .u8 x2])) fun x12 => some x12))
def f (z : Nat) (x1 : Int) : Option (List Int) := L0 z z x1 []
noncomputable def ptL0 : List Item := [.code (cB (cB (cL (cR (cR c0))))), .inLoop (cB (cB (cL (cR (cR c0))))), .inBlock 0, .code (cR (cR (cR c0)))]
theorem L0_ok (F : List Atom) (r : (List Int)) (z : Nat) (x1 : Int) (m : Nat) : ∀ (x2 : Int) (A4 : Option Addr) (x3 : List Int) (k5 : Nat) (a : Act) (w : World), Tm 20 [(0, .int .u64 x2), (3, .slice A4 x3.length k5)] a → SL ([sl .own ku8 A4 k5 x3] ++ F) w → L0 z m x2 x3 = some r → Gets Try.prog 55 ptL0 a w (R F r) := by
  induction m with
  | zero => intro _ _ _ _ _ _ _ _ H; cases H
  | succ m ih =>
    intro x2 A4 x3 k5 a w T S H
    refine Gets.seq ?_
    refine Gets.seq ?_
    refine rg ?_
    refine r_pv T rfl rfl fun _ T => ?_
    refine r_pv T rfl rfl fun _ T => ?_
    rcases ifE H with ⟨h6, H⟩ | ⟨h6, H⟩
    · refine cdT T rfl h6 ?_
      refine Gets.skip (Gets.seq (Gets.block ?_))
      refine rg ?_
      refine r_pv T rfl rfl fun _ T => ?_
      refine r_pv T rfl rfl fun _ T => ?_
      refine r_conv T rfl Try.runUnderlying34 Try.runUnderlying5 rfl fun _ T => ?_
      refine r_pv T rfl rfl fun _ T => ?_
      replace S := SL.val (κ := ku8) (x := bOr .u8 (wr .u8 x2) 128) (cs := [.int .u8 (bOr .u8 (wr .u8 x2) 128)]) (fun _ => rfl) S
      refine r_bsl (κ := ku8) (xs := [bOr .u8 (wr .u8 x2) 128]) (vs := [.int .u8 (bOr .u8 (wr .u8 x2) 128)]) T S sty24 rfl ⟨_, _, rfl, ⟨0, rfl⟩, rfl⟩ rfl (by decide) rfl fun _ _ b14 S T => ?_
      replace S : SL ([sl .own ku8 (some ⟨b14, 0, none⟩) 1 [bOr .u8 (wr .u8 x2) 128], sl .own ku8 A4 k5 x3] ++ F) _ := S.only [0, 1] rfl
      obtain ⟨h17, H⟩ := ck H
      refine r_app (ix := 1) (iy := 0) (xs := x3) (ys := [bOr .u8 (wr .u8 x2) 128]) T S rfl rfl rfl rfl (by decide) sty24 Try.runUnderlying24 (by decide) h17 rfl fun _ _ A15 k16 S T => ?_
      replace S : SL ([sl .own ku8 (some ⟨b14, 0, none⟩) 1 [bOr .u8 (wr .u8 x2) 128], sl .own ku8 A15 k16 (x3 ++ [bOr .u8 (wr .u8 x2) 128])] ++ F) _ := S
      refine r_pv T rfl rfl fun _ T => ?_
      refine Gets.inBlock ?_
      refine rg ?_
      refine r_pv T rfl rfl fun _ T => ?_
      refine r_shr T rfl rfl (by decide) rfl fun _ T => ?_
      refine r_pv T rfl rfl fun _ T => ?_
      refine Gets.inLoop ?_
      exact ih (sShr .u64 x2 7) A15 (x3 ++ [bOr .u8 (wr .u8 x2) 128]) k16 _ _ (T.sub ⟨rfl, rfl, trivial⟩) (S.only (p := [sl .own ku8 A15 k16 (x3 ++ [bOr .u8 (wr .u8 x2) 128])]) [1] rfl) H
    · refine cdF T rfl h6 ?_
      refine Gets.exit rfl (Gets.seq ?_)
      refine rg ?_
      refine r_pv T rfl rfl fun _ T => ?_
      refine r_pv T rfl rfl fun _ T => ?_
      refine r_conv T rfl Try.runUnderlying34 Try.runUnderlying5 rfl fun _ T => ?_
      replace S := SL.val (κ := ku8) (x := wr .u8 x2) (cs := [.int .u8 (wr .u8 x2)]) (fun _ => rfl) S
      refine r_bsl (κ := ku8) (xs := [wr .u8 x2]) (vs := [.int .u8 (wr .u8 x2)]) T S sty24 rfl ⟨_, _, rfl, ⟨0, rfl⟩, rfl⟩ rfl (by decide) rfl fun _ _ b7 S T => ?_
      replace S : SL ([sl .own ku8 (some ⟨b7, 0, none⟩) 1 [wr .u8 x2], sl .own ku8 A4 k5 x3] ++ F) _ := S.only [0, 1] rfl
      obtain ⟨h10, H⟩ := ck H
      refine r_app (ix := 1) (iy := 0) (xs := x3) (ys := [wr .u8 x2]) T S rfl rfl rfl rfl (by decide) sty24 Try.runUnderlying24 (by decide) h10 rfl fun _ _ A8 k9 S T => ?_
      replace S : SL ([sl .own ku8 (some ⟨b7, 0, none⟩) 1 [wr .u8 x2], sl .own ku8 A8 k9 (x3 ++ [wr .u8 x2])] ++ F) _ := S
      obtain ⟨x12, h11, H⟩ := bd H
      refine r_call T Try.call31 rfl rfl (slices_Clip_byte.ok _ _ (x3 ++ [wr .u8 x2]) (S.sel (p := [sl .own ku8 A8 k9 (x3 ++ [wr .u8 x2])]) (is := [1]) rfl) _ h11) ?_
      rintro _ _ ⟨A13, rfl, S⟩
      refine ⟨_, rfl, fun _ T => ?_⟩
      replace S : SL ([sl .own ku8 A13 x12.length x12, sl .own ku8 (some ⟨b7, 0, none⟩) 1 [wr .u8 x2]] ++ F) _ := S.join
      refine r_pv T rfl rfl fun _ T => ?_
      replace H := Option.some.inj H
      subst H
      exact rtn T Try.func55 rfl rfl ⟨A13, x12.length, rfl, (S.only (p := [sl .own ku8 A13 x12.length x12]) [0] rfl)⟩
theorem ok (F : List Atom) (w : World) (z : Nat) (x1 : Int) (S : SL ([] ++ F) w) (r : (List Int)) (H : f z x1 = some r) : Calls Try.prog 55 #[.int .u64 x1] w (R F r) := by
  refine enter (vs := [.int .u64 x1]) Try.func55 rfl Try.ntmps55 (Nat.le_of_ble_eq_true rfl) fun a T => ?_
  refine Gets.seq ?_
  refine rg ?_
  refine r_pv T rfl rfl fun _ T => ?_
  refine Gets.seq ?_
  refine rg ?_
  refine r_pv T rfl rfl fun _ T => ?_
  refine Gets.seq (Gets.block ?_)
  refine Gets.loop ?_
  replace S := S.nil ku8 .own
  exact L0_ok F r z x1 z x1 none [] 0 _ _ (T.sub ⟨rfl, rfl, trivial⟩) (S.only (p := [sl .own ku8 none 0 []]) [0] rfl) H
end codec_Number
end Go.Proofs.Ytghpokmkhlmgcaa

namespace Go.Proofs.Ytghpokmkhlmgcaa
open Go Go.Proofs.Ytghpokmkhlmgcaa.X
set_option linter.unusedVariables false
set_option linter.unusedSimpArgs false
set_option maxRecDepth 100000
set_option maxHeartbeats 4000000
/-! ### cormorant.codec.Frame: function 81 -/
namespace codec_Frame
noncomputable def c0 : Code := match Try.f81.body with | some c => c | none => .skip
def R (F : List Atom) (x2 : List Int) (A3 : Option Addr) (k4 : Nat) (r : (List Int) × Int) : Ending → World → Prop := fun e w' => ∃ (A23 : Option Addr), ∃ (k24 : Nat), e = .returned (.tuple #[.slice A23 r.1.length k24, .int .i64 r.2]) ∧ SL ([sl .own ku8 A23 k24 r.1, sl .ro ku8 A3 k4 x2] ++ F) w'
def f (z : Nat) (x1 : Int) (x2 : List Int) : Option ((List Int) × Int) := If (decide ((x2.length : Int) > 2097152)) (some (([] : List Int), 12)) (Bd (codec_Number.f z (wr .u64 (x2.length : Int))) fun x8 => Ck (([x1].length + x8.length) * 1 ≤ 140737488355328) (Bd (codec_sums.f z ([x1] ++ x8) x2) fun x15 => Bd (slices_Concat_byte.f z [([x1] ++ x8), x15, x2]) fun x20 => some (x20, 0)))
theorem ok (F : List Atom) (w : World) (z : Nat) (x1 : Int) (x2 : List Int) {A3 : Option Addr} {k4 : Nat} (S : SL ([sl .ro ku8 A3 k4 x2] ++ F) w) (r : (List Int) × Int) (H : f z x1 x2 = some r) : Calls Try.prog 81 #[.int .u8 x1, .slice A3 x2.length k4] w (R F x2 A3 k4 r) := by
  refine enter (vs := [.int .u8 x1, .slice A3 x2.length k4]) Try.func81 rfl Try.ntmps81 (Nat.le_of_ble_eq_true rfl) fun a T => ?_
  refine Gets.seq ?_
  refine rg ?_
  refine r_pv T rfl rfl fun _ T => ?_
  refine r_pv T rfl rfl fun _ T => ?_
  refine Gets.seq (Gets.seq ?_)
  refine rg ?_
  refine r_pv T rfl rfl fun _ T => ?_
  refine r_lenS T rfl Try.runUnderlying24 rfl fun _ T => ?_
  refine r_pv T rfl rfl fun _ T => ?_
  rcases ifE H with ⟨h5, H⟩ | ⟨h5, H⟩
  · refine cdT T rfl h5 ?_
    refine Gets.seq ?_
    refine rg ?_
    refine r_pv T rfl rfl fun _ T => ?_
    refine r_pv T rfl rfl fun _ T => ?_
    replace S := S.nil ku8 .own
    replace H := Option.some.inj H
    subst H
    exact rtn T Try.func81 rfl rfl ⟨none, 0, rfl, (S.only (p := [sl .own ku8 none 0 ([] : List Int), sl .ro ku8 A3 k4 x2]) [0, 0] rfl)⟩
  · refine cdF T rfl h5 ?_
    refine Gets.skip (Gets.seq ?_)
    refine rg ?_
    refine r_pv T rfl rfl fun _ T => ?_
    replace S := SL.val (κ := ku8) (x := x1) (cs := [.int .u8 x1]) (fun _ => rfl) S
    refine r_bsl (κ := ku8) (xs := [x1]) (vs := [.int .u8 x1]) T S sty24 rfl ⟨_, _, rfl, ⟨0, rfl⟩, rfl⟩ rfl (by decide) rfl fun _ _ b6 S T => ?_
    replace S : SL ([sl .own ku8 (some ⟨b6, 0, none⟩) 1 [x1], sl .ro ku8 A3 k4 x2] ++ F) _ := S.only [0, 1] rfl
    refine r_pv T rfl rfl fun _ T => ?_
    refine r_lenS T rfl Try.runUnderlying24 rfl fun _ T => ?_
    refine r_conv T rfl Try.runUnderlying3 Try.runUnderlying34 rfl fun _ T => ?_
    obtain ⟨x8, h7, H⟩ := bd H
    refine r_call T Try.call55 rfl rfl (codec_Number.ok _ _ z (wr .u64 (x2.length : Int)) (S.sel (p := []) (is := []) rfl) _ h7) ?_
    rintro _ _ ⟨A9, k10, rfl, S⟩
    refine ⟨_, rfl, fun _ T => ?_⟩
    replace S : SL ([sl .own ku8 A9 k10 x8, sl .own ku8 (some ⟨b6, 0, none⟩) 1 [x1], sl .ro ku8 A3 k4 x2] ++ F) _ := S.join
    obtain ⟨h13, H⟩ := ck H
    refine r_app (ix := 1) (iy := 0) (xs := [x1]) (ys := x8) T S rfl rfl rfl rfl (by decide) sty24 Try.runUnderlying24 (by decide) h13 rfl fun _ _ A11 k12 S T => ?_
    replace S : SL ([sl .own ku8 A9 k10 x8, sl .own ku8 A11 k12 ([x1] ++ x8), sl .ro ku8 A3 k4 x2] ++ F) _ := S
    refine r_pv T rfl rfl fun _ T => ?_
    refine Gets.seq ?_
    refine rg ?_
    refine r_pv T rfl rfl fun _ T => ?_
    refine r_pv T rfl rfl fun _ T => ?_
    refine r_pv T rfl rfl fun _ T => ?_
    obtain ⟨x15, h14, H⟩ := bd H
    refine r_call T Try.call63 rfl rfl (codec_sums.ok _ _ z ([x1] ++ x8) x2 (S.sel (p := [sl .own ku8 A11 k12 ([x1] ++ x8), sl .ro ku8 A3 k4 x2]) (is := [1, 1]) rfl) _ h14) ?_
    rintro _ _ ⟨A16, k17, rfl, S⟩
    refine ⟨_, rfl, fun _ T => ?_⟩
    replace S : SL ([sl .own ku8 A16 k17 x15, sl .own ku8 A11 k12 ([x1] ++ x8), sl .ro ku8 A3 k4 x2, sl .own ku8 A9 k10 x8] ++ F) _ := S.join
    refine r_pv T rfl rfl fun _ T => ?_
    replace S : SL ([sl .own ku8 A16 k17 x15, sl .ro ku8 A11 k12 ([x1] ++ x8), sl .ro ku8 A3 k4 x2, sl .own ku8 A9 k10 x8] ++ F) _ := S.fixL (i := 1) rfl rfl
    replace S := S.asVal (i := 1) (xs := ([x1] ++ x8)) rfl
    replace S : SL ([rp (kSl ku8) ([x1] ++ x8) [.slice A11 (([x1] ++ x8).length) k12], sl .ro ku8 A16 k17 x15, sl .ro ku8 A11 k12 ([x1] ++ x8), sl .ro ku8 A3 k4 x2, sl .own ku8 A9 k10 x8] ++ F) _ := S.fixL (i := 1) rfl rfl
    replace S := S.asVal (i := 1) (xs := x15) rfl
    replace S := S.asVal (i := 4) (xs := x2) rfl
    refine r_bsl (κ := (kSl ku8)) (xs := [([x1] ++ x8), x15, x2]) (vs := [.slice A11 (([x1] ++ x8).length) k12, .slice A16 x15.length k17, .slice A3 x2.length k4]) T S sty62 rfl ⟨_, _, rfl, ⟨2, rfl⟩, ⟨_, _, rfl, ⟨1, rfl⟩, ⟨_, _, rfl, ⟨0, rfl⟩, rfl⟩⟩⟩ rfl (by decide) rfl fun _ _ b18 S T => ?_
    replace S : SL ([sl .own (kSl ku8) (some ⟨b18, 0, none⟩) 3 [([x1] ++ x8), x15, x2], sl .ro ku8 A16 k17 x15, sl .ro ku8 A11 k12 ([x1] ++ x8), sl .ro ku8 A3 k4 x2, sl .own ku8 A9 k10 x8] ++ F) _ := S.only [0, 3, 3, 3, 3] rfl
    obtain ⟨x20, h19, H⟩ := bd H
    refine r_call T Try.call58 rfl rfl (slices_Concat_byte.ok _ _ z [([x1] ++ x8), x15, x2] (S.sel (p := [sl .own (kSl ku8) (some ⟨b18, 0, none⟩) 3 [([x1] ++ x8), x15, x2]]) (is := [0]) rfl) _ h19) ?_
    rintro _ _ ⟨A21, k22, rfl, S⟩
    refine ⟨_, rfl, fun _ T => ?_⟩
    replace S : SL ([sl .own ku8 A21 k22 x20, sl .own (kSl ku8) (some ⟨b18, 0, none⟩) 3 [([x1] ++ x8), x15, x2], sl .ro ku8 A16 k17 x15, sl .ro ku8 A11 k12 ([x1] ++ x8), sl .ro ku8 A3 k4 x2, sl .own ku8 A9 k10 x8] ++ F) _ := S.join
    refine r_pv T rfl rfl fun _ T => ?_
    refine r_pv T rfl rfl fun _ T => ?_
    replace H := Option.some.inj H
    subst H
    exact rtn T Try.func81 rfl rfl ⟨A21, k22, rfl, (S.only (p := [sl .own ku8 A21 k22 x20, sl .ro ku8 A3 k4 x2]) [0, 3] rfl)⟩
end codec_Frame
end Go.Proofs.Ytghpokmkhlmgcaa

namespace Go.Proofs.Ytghpokmkhlmgcaa
open Go Go.Proofs.Ytghpokmkhlmgcaa.X
set_option linter.unusedVariables false
set_option linter.unusedSimpArgs false
set_option maxRecDepth 100000
set_option maxHeartbeats 4000000
/-! ### (*cormorant.sstable.builder).frame: function 54 -/
namespace sstable_builder_frame
noncomputable def c0 : Code := match Try.f54.body with | some c => c | none => .skip
def R (F : List Atom) (b2 : Nat) (x12 : List Int) (A13 : Option Addr) (k14 : Nat) (r : sstable_builder) : Ending → World → Prop := fun e w' => ∃ (A23 : Option Addr), ∃ (k24 : Nat), ∃ (A25 : Option Addr), ∃ (k26 : Nat), ∃ (A27 : Option Addr), ∃ (k28 : Nat), ∃ (A29 : Option Addr), ∃ (k30 : Nat), e = .returned (.tuple #[]) ∧ SL ([blk b2 [.slice A23 r.out.length k24, .slice A25 r.body.length k26, .slice A27 r.index.length k28, .int .i64 r.many, .int .i64 r.blocks, .slice A29 r.last.length k30], sl .own ku8 A23 k24 r.out, sl .ro ku8 A25 k26 r.body, sl .own ku8 A27 k28 r.index, sl .ro ku8 A29 k30 r.last, sl .ro ku8 A13 k14 x12] ++ F) w'
def f (z : Nat) (x1 : sstable_builder) (x11 : Int) (x12 : List Int) : Option sstable_builder := Bd (codec_Frame.f z x11 x12) fun x16 => Ck ((x1.out.length + x16.1.length) * 1 ≤ 140737488355328) (some (sstable_builder.mk (x1.out ++ x16.1) x1.body x1.index x1.many x1.blocks x1.last))
theorem ok (F : List Atom) (w : World) (z : Nat) (x1 : sstable_builder) (x11 : Int) (x12 : List Int) {b2 : Nat} {A3 : Option Addr} {k4 : Nat} {A5 : Option Addr} {k6 : Nat} {A7 : Option Addr} {k8 : Nat} {A9 : Option Addr} {k10 : Nat} {A13 : Option Addr} {k14 : Nat} (S : SL ([blk b2 [.slice A3 x1.out.length k4, .slice A5 x1.body.length k6, .slice A7 x1.index.length k8, .int .i64 x1.many, .int .i64 x1.blocks, .slice A9 x1.last.length k10], sl .own ku8 A3 k4 x1.out, sl .ro ku8 A5 k6 x1.body, sl .own ku8 A7 k8 x1.index, sl .ro ku8 A9 k10 x1.last, sl .ro ku8 A13 k14 x12] ++ F) w) (r : sstable_builder) (H : f z x1 x11 x12 = some r) : Calls Try.prog 54 #[.pointer (some ⟨b2, 0, none⟩), .int .u8 x11, .slice A13 x12.length k14] w (R F b2 x12 A13 k14 r) := by
  refine enter (vs := [.pointer (some ⟨b2, 0, none⟩), .int .u8 x11, .slice A13 x12.length k14]) Try.func54 rfl Try.ntmps54 (Nat.le_of_ble_eq_true rfl) fun a T => ?_
  refine Gets.seq ?_
  refine rg ?_
  refine r_pv T rfl rfl fun _ T => ?_
  refine r_pv T rfl rfl fun _ T => ?_
  obtain ⟨x16, h15, H⟩ := bd H
  refine r_call T Try.call81 rfl rfl (codec_Frame.ok _ _ z x11 x12 (S.sel (p := [sl .ro ku8 A13 k14 x12]) (is := [5]) rfl) _ h15) ?_
  rintro _ _ ⟨A17, k18, rfl, S⟩
  refine ⟨_, rfl, fun _ T => ?_⟩
  replace S : SL ([sl .own ku8 A17 k18 x16.1, sl .ro ku8 A13 k14 x12, blk b2 [.slice A3 x1.out.length k4, .slice A5 x1.body.length k6, .slice A7 x1.index.length k8, .int .i64 x1.many, .int .i64 x1.blocks, .slice A9 x1.last.length k10], sl .own ku8 A3 k4 x1.out, sl .ro ku8 A5 k6 x1.body, sl .own ku8 A7 k8 x1.index, sl .ro ku8 A9 k10 x1.last] ++ F) _ := S.join
  refine r_pv T rfl rfl fun _ T => ?_
  refine r_pv T rfl rfl fun _ T => ?_
  refine r_pv T rfl rfl fun _ T => ?_
  refine r_pv T rfl rfl fun _ T => ?_
  refine r_pv T rfl rfl fun _ T => ?_
  refine rg ?_
  refine r_pv T rfl rfl fun _ T => ?_
  refine r_pv T rfl rfl fun _ T => ?_
  refine r_pv T rfl rfl fun _ T => ?_
  refine r_fa (o' := 0) T rfl Try.runUnderlying61 rfl Try.sizeOf24 rfl rfl fun _ T => ?_
  refine r_ldB (ix := 2) T S rfl Try.isAgg24 rfl rfl rfl fun _ T => ?_
  refine r_pv T rfl rfl fun _ T => ?_
  obtain ⟨h21, H⟩ := ck H
  refine r_app (ix := 3) (iy := 0) (xs := x1.out) (ys := x16.1) T S rfl rfl rfl rfl (by decide) sty24 Try.runUnderlying24 (by decide) h21 rfl fun _ _ A19 k20 S T => ?_
  replace S : SL ([sl .own ku8 A17 k18 x16.1, sl .ro ku8 A13 k14 x12, blk b2 [.slice A3 x1.out.length k4, .slice A5 x1.body.length k6, .slice A7 x1.index.length k8, .int .i64 x1.many, .int .i64 x1.blocks, .slice A9 x1.last.length k10], sl .own ku8 A19 k20 (x1.out ++ x16.1), sl .ro ku8 A5 k6 x1.body, sl .own ku8 A7 k8 x1.index, sl .ro ku8 A9 k10 x1.last] ++ F) _ := S
  refine r_pv T rfl rfl fun _ T => ?_
  refine r_fa (o' := 0) T rfl Try.runUnderlying61 rfl Try.sizeOf24 rfl rfl fun _ T => ?_
  refine r_stB (ix := 2) (l' := [sl .own ku8 A17 k18 x16.1, sl .ro ku8 A13 k14 x12, blk b2 [.slice A19 ((x1.out ++ x16.1).length) k20, .slice A5 x1.body.length k6, .slice A7 x1.index.length k8, .int .i64 x1.many, .int .i64 x1.blocks, .slice A9 x1.last.length k10], sl .own ku8 A19 k20 (x1.out ++ x16.1), sl .ro ku8 A5 k6 x1.body, sl .own ku8 A7 k8 x1.index, sl .ro ku8 A9 k10 x1.last]) T S rfl rfl rfl Try.sizeOf24 rfl (Nat.le_of_ble_eq_true rfl) rfl fun _ S => ?_
  replace H := Option.some.inj H
  subst H
  exact rtf T Try.func54 rfl rfl ⟨A19, k20, A5, k6, A7, k8, A9, k10, rfl, (S.only (p := [blk b2 [.slice A19 ((x1.out ++ x16.1).length) k20, .slice A5 x1.body.length k6, .slice A7 x1.index.length k8, .int .i64 x1.many, .int .i64 x1.blocks, .slice A9 x1.last.length k10], sl .own ku8 A19 k20 (x1.out ++ x16.1), sl .ro ku8 A5 k6 x1.body, sl .own ku8 A7 k8 x1.index, sl .ro ku8 A9 k10 x1.last, sl .ro ku8 A13 k14 x12]) [2, 2, 2, 2, 2, 1] rfl)⟩
end sstable_builder_frame
end Go.Proofs.Ytghpokmkhlmgcaa

namespace Go.Proofs.Ytghpokmkhlmgcaa
open Go Go.Proofs.Ytghpokmkhlmgcaa.X
set_option linter.unusedVariables false
set_option linter.unusedSimpArgs false
set_option maxRecDepth 100000
set_option maxHeartbeats 4000000
/-! ### cormorant.codec.Text: function 56 -/
namespace codec_Text
noncomputable def c0 : Code := match Try.f56.body with | some c => c | none => .skip
def R (F : List Atom) (x1 : List Int) (A2 : Option Addr) (k3 : Nat) (r : (List Int) × Int) : Ending → World → Prop := fun e w' => ∃ (A14 : Option Addr), ∃ (k15 : Nat), e = .returned (.tuple #[.slice A14 r.1.length k15, .int .i64 r.2]) ∧ SL ([sl .own ku8 A14 k15 r.1, sl .ro ku8 A2 k3 x1] ++ F) w'
def f (z : Nat) (x1 : List Int) : Option ((List Int) × Int) := If (decide ((x1.length : Int) > 2097152)) (some (([] : List Int), 12)) (Bd (codec_Number.f z (wr .u64 (x1.length : Int))) fun x6 => Bd (slices_Concat_byte.f z [x6, x1]) fun x11 => some (x11, 0))
theorem ok (F : List Atom) (w : World) (z : Nat) (x1 : List Int) {A2 : Option Addr} {k3 : Nat} (S : SL ([sl .ro ku8 A2 k3 x1] ++ F) w) (r : (List Int) × Int) (H : f z x1 = some r) : Calls Try.prog 56 #[.slice A2 x1.length k3] w (R F x1 A2 k3 r) := by
  refine enter (vs := [.slice A2 x1.length k3]) Try.func56 rfl Try.ntmps56 (Nat.le_of_ble_eq_true rfl) fun a T => ?_
  refine Gets.seq ?_
  refine rg ?_
  refine r_pv T rfl rfl fun _ T => ?_
  refine r_pv T rfl rfl fun _ T => ?_
  refine Gets.seq (Gets.seq ?_)
  refine rg ?_
  refine r_pv T rfl rfl fun _ T => ?_
  refine r_lenS T rfl Try.runUnderlying24 rfl fun _ T => ?_
  refine r_pv T rfl rfl fun _ T => ?_
  rcases ifE H with ⟨h4, H⟩ | ⟨h4, H⟩
  · refine cdT T rfl h4 ?_
    refine Gets.seq ?_
    refine rg ?_
    refine r_pv T rfl rfl fun _ T => ?_
    refine r_pv T rfl rfl fun _ T => ?_
    replace S := S.nil ku8 .own
    replace H := Option.some.inj H
    subst H
    exact rtn T Try.func56 rfl rfl ⟨none, 0, rfl, (S.only (p := [sl .own ku8 none 0 ([] : List Int), sl .ro ku8 A2 k3 x1]) [0, 0] rfl)⟩
  · refine cdF T rfl h4 ?_
    refine Gets.skip (Gets.seq ?_)
    refine rg ?_
    refine r_pv T rfl rfl fun _ T => ?_
    refine r_lenS T rfl Try.runUnderlying24 rfl fun _ T => ?_
    refine r_conv T rfl Try.runUnderlying3 Try.runUnderlying34 rfl fun _ T => ?_
    obtain ⟨x6, h5, H⟩ := bd H
    refine r_call T Try.call55 rfl rfl (codec_Number.ok _ _ z (wr .u64 (x1.length : Int)) (S.sel (p := []) (is := []) rfl) _ h5) ?_
    rintro _ _ ⟨A7, k8, rfl, S⟩
    refine ⟨_, rfl, fun _ T => ?_⟩
    replace S : SL ([sl .own ku8 A7 k8 x6, sl .ro ku8 A2 k3 x1] ++ F) _ := S.join
    refine r_pv T rfl rfl fun _ T => ?_
    replace S : SL ([sl .ro ku8 A7 k8 x6, sl .ro ku8 A2 k3 x1] ++ F) _ := S.fixL (i := 0) rfl rfl
    replace S := S.asVal (i := 0) (xs := x6) rfl
    replace S := S.asVal (i := 2) (xs := x1) rfl
    refine r_bsl (κ := (kSl ku8)) (xs := [x6, x1]) (vs := [.slice A7 x6.length k8, .slice A2 x1.length k3]) T S sty62 rfl ⟨_, _, rfl, ⟨1, rfl⟩, ⟨_, _, rfl, ⟨0, rfl⟩, rfl⟩⟩ rfl (by decide) rfl fun _ _ b9 S T => ?_
    replace S : SL ([sl .own (kSl ku8) (some ⟨b9, 0, none⟩) 2 [x6, x1], sl .ro ku8 A7 k8 x6, sl .ro ku8 A2 k3 x1] ++ F) _ := S.only [0, 2, 2] rfl
    obtain ⟨x11, h10, H⟩ := bd H
    refine r_call T Try.call58 rfl rfl (slices_Concat_byte.ok _ _ z [x6, x1] (S.sel (p := [sl .own (kSl ku8) (some ⟨b9, 0, none⟩) 2 [x6, x1]]) (is := [0]) rfl) _ h10) ?_
    rintro _ _ ⟨A12, k13, rfl, S⟩
    refine ⟨_, rfl, fun _ T => ?_⟩
    replace S : SL ([sl .own ku8 A12 k13 x11, sl .own (kSl ku8) (some ⟨b9, 0, none⟩) 2 [x6, x1], sl .ro ku8 A7 k8 x6, sl .ro ku8 A2 k3 x1] ++ F) _ := S.join
    refine r_pv T rfl rfl fun _ T => ?_
    refine r_pv T rfl rfl fun _ T => ?_
    replace H := Option.some.inj H
    subst H
    exact rtn T Try.func56 rfl rfl ⟨A12, k13, rfl, (S.only (p := [sl .own ku8 A12 k13 x11, sl .ro ku8 A2 k3 x1]) [0, 2] rfl)⟩
end codec_Text
end Go.Proofs.Ytghpokmkhlmgcaa
