/- A Go function: the Lean function that it comes to, and the proof. -/
import Derived.Test.YtghpokmkhlmgcaaBa1
namespace Go.Proofs.Ytghpokmkhlmgcaa
open Go Go.Proofs.Ytghpokmkhlmgcaa.X
set_option linter.unusedVariables false
set_option linter.unusedSimpArgs false
set_option maxRecDepth 100000
set_option maxHeartbeats 4000000
/-! ### bytes.Equal: function 28 -/
namespace bytes_Equal
noncomputable def c0 : Code := match Try.f28.body with | some c => c | none => .skip
def R (F : List Atom) (x1 : List Int) (A2 : Option Addr) (k3 : Nat) (m4 : Md) (x5 : List Int) (A6 : Option Addr) (k7 : Nat) (m8 : Md) (r : Bool) : Ending → World → Prop := fun e w' => e = .returned (.bool r) ∧ SL ([sl m4 ku8 A2 k3 x1, sl m8 ku8 A6 k7 x5] ++ F) w'
def f (x1 : List Int) (x5 : List Int) : Option Bool := some ((bstr x1).toList == (bstr x5).toList)
theorem ok (F : List Atom) (w : World) (x1 : List Int) (x5 : List Int) {A2 : Option Addr} {k3 : Nat} {m4 : Md} {A6 : Option Addr} {k7 : Nat} {m8 : Md} (S : SL ([sl m4 ku8 A2 k3 x1, sl m8 ku8 A6 k7 x5] ++ F) w) (r : Bool) (H : f x1 x5 = some r) : Calls Try.prog 28 #[.slice A2 x1.length k3, .slice A6 x5.length k7] w (R F x1 A2 k3 m4 x5 A6 k7 m8 r) := by
  refine enter (vs := [.slice A2 x1.length k3, .slice A6 x5.length k7]) Try.func28 rfl Try.ntmps28 (Nat.le_of_ble_eq_true rfl) fun a T => ?_
  refine Gets.seq ?_
  refine rg ?_
  refine r_pv T rfl rfl fun _ T => ?_
  refine Gets.seq ?_
  refine rg ?_
  refine r_pv T rfl rfl fun _ T => ?_
  refine r_b2s (ix := 0) (xs := x1) T S rfl rfl Try.runUnderlying24 Try.runUnderlying9 Try.runUnderlying5 rfl fun _ T => ?_
  refine r_pv T rfl rfl fun _ T => ?_
  refine r_b2s (ix := 1) (xs := x5) T S rfl rfl Try.runUnderlying24 Try.runUnderlying9 Try.runUnderlying5 rfl fun _ T => ?_
  refine r_pv T rfl rfl fun _ T => ?_
  refine r_pv T rfl rfl fun _ T => ?_
  replace H := Option.some.inj H
  subst H
  exact rtn T Try.func28 rfl rfl ⟨rfl, (S.only (p := [sl m4 ku8 A2 k3 x1, sl m8 ku8 A6 k7 x5]) [0, 0] rfl)⟩
end bytes_Equal
end Go.Proofs.Ytghpokmkhlmgcaa

namespace Go.Proofs.Ytghpokmkhlmgcaa
open Go Go.Proofs.Ytghpokmkhlmgcaa.X
set_option linter.unusedVariables false
set_option linter.unusedSimpArgs false
set_option maxRecDepth 100000
set_option maxHeartbeats 4000000
/-! ### cormorant.codec.TakeNumber: function 85 -/
namespace codec_TakeNumber
noncomputable def c0 : Code := match Try.f85.body with | some c => c | none => .skip
def R (F : List Atom) (x1 : List Int) (A2 : Option Addr) (k3 : Nat) (m4 : Md) (r : Int × Int × Int) : Ending → World → Prop := fun e w' => e = .returned (.tuple #[.int .u64 r.1, .int .i64 r.2.1, .int .i64 r.2.2]) ∧ SL ([sl m4 ku8 A2 k3 x1] ++ F) w'
def J2 (z : Nat) (x1 : List Int) (x5 : Int) (x6 : Int) : Option (Int × Int × Int) := some (bOr .u64 x5 (sShl .u64 (wr .u64 (bAnd .u8 (gi (0 : Int) x1 x6) 127)) (wr .i64 (7 * x6))), wr .i64 (x6 + 1), 0)
def J1 (z : Nat) (x1 : List Int) (x5 : Int) (x6 : Int) : Option (Int × Int × Int) := If (x6 == 9) (If (decide ((gi (0 : Int) x1 x6) > 1)) (some (0, 0, 11)) (J2 z x1 x5 x6)) (J2 z x1 x5 x6)
def L0 (z : Nat) (x1 : List Int) : Nat → Int → Int → Option (Int × Int × Int)
  | 0, _, _ => none
  | m + 1, x5, x6 => If (decide (x6 < 10)) (If (x6 == (x1.length : Int)) (some (0, 0, 10)) (Ck (0 ≤ x6 ∧ x6 < (x1.length : Int)) (Ck (0 ≤ wr .i64 (7 * x6)) (If (decide ((gi (0 : Int) x1 x6) > 127)) (L0 z x1 m (bOr .u64 x5 (sShl .u64 (wr .u64 (bAnd .u8 (gi (0 : Int) x1 x6) 127)) (wr .i64 (7 * x6)))) (wr .i64 (x6 + 1))) (If (decide (x6 > 0)) (If ((gi (0 : Int) x1 x6) == 0) (some (0, 0, 11)) (J1 z x1 x5 x6)) (J1 z x1 x5 x6)))))) (some (0, 0, 11))
def f (z : Nat) (x1 : List Int) : Option (Int × Int × Int) := L0 z x1 z 0 0
noncomputable def ptJ2 : List Item := [.code (cL (cR (cR (cR (cR (cR (cB (cL (cR (cR (cB (cB (cR (cL (cR (cR c0)))))))))))))))), .code (cR (cR (cR (cR (cR (cR (cB (cL (cR (cR (cB (cB (cR (cL (cR (cR c0)))))))))))))))), .inBlock 1, .code (cR (cR (cR (cB (cB (cR (cL (cR (cR c0))))))))), .inLoop (cB (cB (cR (cL (cR (cR c0)))))), .inBlock 0, .code (cR (cR (cR c0)))]
noncomputable def ptJ1 : List Item := [.code (cE (cR (cL (cE (cR (cB (cL (cR (cR (cR (cR (cB (cL (cR (cR (cB (cB (cR (cL (cR (cR c0))))))))))))))))))))), .code (cR (cE (cR (cB (cL (cR (cR (cR (cR (cB (cL (cR (cR (cB (cB (cR (cL (cR (cR c0))))))))))))))))))), .inBlock 2, .code (cR (cR (cR (cR (cR (cB (cL (cR (cR (cB (cB (cR (cL (cR (cR c0))))))))))))))), .inBlock 1, .code (cR (cR (cR (cB (cB (cR (cL (cR (cR c0))))))))), .inLoop (cB (cB (cR (cL (cR (cR c0)))))), .inBlock 0, .code (cR (cR (cR c0)))]
noncomputable def ptL0 : List Item := [.code (cB (cB (cR (cL (cR (cR c0)))))), .inLoop (cB (cB (cR (cL (cR (cR c0)))))), .inBlock 0, .code (cR (cR (cR c0)))]
theorem J2_ok (F : List Atom) (r : Int × Int × Int) (z : Nat) (x1 : List Int) (A2 : Option Addr) (k3 : Nat) (m4 : Md) (x5 : Int) (x6 : Int) (a : Act) (w : World) (T : Tm 47 [(5, .int .u64 (bOr .u64 x5 (sShl .u64 (wr .u64 (bAnd .u8 (gi (0 : Int) x1 x6) 127)) (wr .i64 (7 * x6))))), (6, .int .i64 x6)] a) (S : SL ([sl m4 ku8 A2 k3 x1] ++ F) w) (H : J2 z x1 x5 x6 = some r) : Gets Try.prog 85 ptJ2 a w (R F x1 A2 k3 m4 r) := by
  refine rg ?_
  refine r_pv T rfl rfl fun _ T => ?_
  refine r_pv T rfl rfl fun _ T => ?_
  refine r_pv T rfl rfl fun _ T => ?_
  refine r_pv T rfl rfl fun _ T => ?_
  refine r_pv T rfl rfl fun _ T => ?_
  refine r_pv T rfl rfl fun _ T => ?_
  replace H := Option.some.inj H
  subst H
  exact rtn T Try.func85 rfl rfl ⟨rfl, (S.only (p := [sl m4 ku8 A2 k3 x1]) [0] rfl)⟩
theorem J1_ok (F : List Atom) (r : Int × Int × Int) (z : Nat) (x1 : List Int) (A2 : Option Addr) (k3 : Nat) (m4 : Md) (x5 : Int) (x6 : Int) (a : Act) (w : World) (T : Tm 47 [(5, .int .u64 (bOr .u64 x5 (sShl .u64 (wr .u64 (bAnd .u8 (gi (0 : Int) x1 x6) 127)) (wr .i64 (7 * x6))))), (6, .int .i64 x6), (7, .int .u8 (gi (0 : Int) x1 x6))] a) (S : SL ([sl m4 ku8 A2 k3 x1] ++ F) w) (H : J1 z x1 x5 x6 = some r) : Gets Try.prog 85 ptJ1 a w (R F x1 A2 k3 m4 r) := by
  refine rg ?_
  refine r_pv T rfl rfl fun _ T => ?_
  refine r_pv T rfl rfl fun _ T => ?_
  refine r_pv T rfl rfl fun _ T => ?_
  rcases ifE H with ⟨h14, H⟩ | ⟨h14, H⟩
  · refine g_yes T rfl rfl h14 ?_
    refine r_pv T rfl rfl fun _ T => ?_
    refine g_yes T rfl rfl h14 ?_
    refine r_pv T rfl rfl fun _ T => ?_
    refine r_pickT T rfl h14 rfl rfl fun _ T => ?_
    refine r_pv T rfl rfl fun _ T => ?_
    rcases ifE H with ⟨h15, H⟩ | ⟨h15, H⟩
    · refine cdT T rfl h15 ?_
      refine Gets.seq ?_
      refine rg ?_
      refine r_pv T rfl rfl fun _ T => ?_
      refine r_pv T rfl rfl fun _ T => ?_
      refine r_pv T rfl rfl fun _ T => ?_
      replace H := Option.some.inj H
      subst H
      exact rtn T Try.func85 rfl rfl ⟨rfl, (S.only (p := [sl m4 ku8 A2 k3 x1]) [0] rfl)⟩
    · refine cdF T rfl h15 ?_
      refine Gets.skip (Gets.inBlock (Gets.seq ?_))
      exact J2_ok F r z x1 A2 k3 m4 x5 x6 _ _ (T.sub ⟨rfl, rfl, trivial⟩) (S.only (p := [sl m4 ku8 A2 k3 x1]) [0] rfl) H
  · refine g_no T rfl rfl h14 rfl fun _ T => ?_
    refine g_no T rfl rfl h14 rfl fun _ T => ?_
    refine r_pickF T rfl h14 rfl rfl fun _ T => ?_
    refine r_pv T rfl rfl fun _ T => ?_
    refine cdF T rfl rfl ?_
    refine Gets.skip (Gets.inBlock (Gets.seq ?_))
    exact J2_ok F r z x1 A2 k3 m4 x5 x6 _ _ (T.sub ⟨rfl, rfl, trivial⟩) (S.only (p := [sl m4 ku8 A2 k3 x1]) [0] rfl) H
theorem L0_ok (F : List Atom) (r : Int × Int × Int) (z : Nat) (x1 : List Int) (A2 : Option Addr) (k3 : Nat) (m4 : Md) (m : Nat) : ∀ (x5 : Int) (x6 : Int) (a : Act) (w : World), Tm 47 [(0, .slice A2 x1.length k3), (5, .int .u64 x5), (8, .int .i64 x6)] a → SL ([sl m4 ku8 A2 k3 x1] ++ F) w → L0 z x1 m x5 x6 = some r → Gets Try.prog 85 ptL0 a w (R F x1 A2 k3 m4 r) := by
  induction m with
  | zero => intro _ _ _ _ _ _ H; cases H
  | succ m ih =>
    intro x5 x6 a w T S H
    refine Gets.seq ?_
    refine rg ?_
    refine r_pv T rfl rfl fun _ T => ?_
    refine Gets.seq ?_
    rcases ifE H with ⟨h7, H⟩ | ⟨h7, H⟩
    · refine cdT T rfl h7 ?_
      refine Gets.skip (Gets.seq (Gets.block (Gets.seq ?_)))
      refine rg ?_
      refine r_pv T rfl rfl fun _ T => ?_
      refine r_pv T rfl rfl fun _ T => ?_
      refine Gets.seq (Gets.seq ?_)
      refine rg ?_
      refine r_pv T rfl rfl fun _ T => ?_
      refine r_pv T rfl rfl fun _ T => ?_
      refine r_lenS T rfl Try.runUnderlying24 rfl fun _ T => ?_
      refine r_pv T rfl rfl fun _ T => ?_
      rcases ifE H with ⟨h8, H⟩ | ⟨h8, H⟩
      · refine cdT T rfl h8 ?_
        refine Gets.seq ?_
        refine rg ?_
        refine r_pv T rfl rfl fun _ T => ?_
        refine r_pv T rfl rfl fun _ T => ?_
        refine r_pv T rfl rfl fun _ T => ?_
        replace H := Option.some.inj H
        subst H
        exact rtn T Try.func85 rfl rfl ⟨rfl, (S.only (p := [sl m4 ku8 A2 k3 x1]) [0] rfl)⟩
      · refine cdF T rfl h8 ?_
        refine Gets.skip (Gets.seq ?_)
        refine rg ?_
        refine r_pv T rfl rfl fun _ T => ?_
        refine r_pv T rfl rfl fun _ T => ?_
        obtain ⟨h9, H⟩ := ck H
        refine r_ia (ix := 0) T S rfl rfl rfl rfl Try.runUnderlying24 Try.sizeOf5 h9.1 h9.2 rfl fun _ T => ?_
        refine r_ldE (ix := 0) (i := x6) (off := 0) (f := (Value.int .u8)) T S rfl Try.isAgg5 rfl (0 : Int) _ rfl rfl (Fld.all _) h9.1 h9.2 (fun h => h) rfl fun _ T => ?_
        refine r_pv T rfl rfl fun _ T => ?_
        refine Gets.seq ?_
        refine rg ?_
        refine r_pv T rfl rfl fun _ T => ?_
        refine r_pv T rfl rfl fun _ T => ?_
        refine r_pv T rfl rfl fun _ T => ?_
        refine r_conv T rfl Try.runUnderlying5 Try.runUnderlying34 rfl fun _ T => ?_
        refine r_pv T rfl rfl fun _ T => ?_
        refine r_pv T rfl rfl fun _ T => ?_
        obtain ⟨h10, H⟩ := ck H
        refine r_shl T rfl rfl h10 rfl fun _ T => ?_
        refine r_pv T rfl rfl fun _ T => ?_
        refine r_pv T rfl rfl fun _ T => ?_
        refine Gets.seq (Gets.block (Gets.seq ?_))
        refine rg ?_
        refine r_pv T rfl rfl fun _ T => ?_
        refine r_pv T rfl rfl fun _ T => ?_
        refine r_pv T rfl rfl fun _ T => ?_
        rcases ifE H with ⟨h11, H⟩ | ⟨h11, H⟩
        · refine cdT T rfl h11 ?_
          refine Gets.exit rfl ?_
          refine rg ?_
          refine r_pv T rfl rfl fun _ T => ?_
          refine r_pv T rfl rfl fun _ T => ?_
          refine Gets.inLoop ?_
          exact ih (bOr .u64 x5 (sShl .u64 (wr .u64 (bAnd .u8 (gi (0 : Int) x1 x6) 127)) (wr .i64 (7 * x6)))) (wr .i64 (x6 + 1)) _ _ (T.sub ⟨rfl, rfl, rfl, trivial⟩) (S.only (p := [sl m4 ku8 A2 k3 x1]) [0] rfl) H
        · refine cdF T rfl h11 ?_
          refine Gets.seq (Gets.seq ?_)
          refine rg ?_
          refine r_pv T rfl rfl fun _ T => ?_
          refine r_pv T rfl rfl fun _ T => ?_
          refine r_pv T rfl rfl fun _ T => ?_
          rcases ifE H with ⟨h12, H⟩ | ⟨h12, H⟩
          · refine g_yes T rfl rfl h12 ?_
            refine r_pv T rfl rfl fun _ T => ?_
            refine g_yes T rfl rfl h12 ?_
            refine r_pv T rfl rfl fun _ T => ?_
            refine r_pickT T rfl h12 rfl rfl fun _ T => ?_
            refine r_pv T rfl rfl fun _ T => ?_
            rcases ifE H with ⟨h13, H⟩ | ⟨h13, H⟩
            · refine cdT T rfl h13 ?_
              refine Gets.skip ?_
              refine cdT T rfl h13 ?_
              refine Gets.seq ?_
              refine rg ?_
              refine r_pv T rfl rfl fun _ T => ?_
              refine r_pv T rfl rfl fun _ T => ?_
              refine r_pv T rfl rfl fun _ T => ?_
              replace H := Option.some.inj H
              subst H
              exact rtn T Try.func85 rfl rfl ⟨rfl, (S.only (p := [sl m4 ku8 A2 k3 x1]) [0] rfl)⟩
            · refine cdF T rfl h13 ?_
              exact J1_ok F r z x1 A2 k3 m4 x5 x6 _ _ (T.sub ⟨rfl, rfl, rfl, trivial⟩) (S.only (p := [sl m4 ku8 A2 k3 x1]) [0] rfl) H
          · refine g_no T rfl rfl h12 rfl fun _ T => ?_
            refine g_no T rfl rfl h12 rfl fun _ T => ?_
            refine r_pickF T rfl h12 rfl rfl fun _ T => ?_
            refine r_pv T rfl rfl fun _ T => ?_
            refine cdF T rfl rfl ?_
            exact J1_ok F r z x1 A2 k3 m4 x5 x6 _ _ (T.sub ⟨rfl, rfl, rfl, trivial⟩) (S.only (p := [sl m4 ku8 A2 k3 x1]) [0] rfl) H
    · refine cdF T rfl h7 ?_
      refine Gets.exit rfl (Gets.seq ?_)
      refine rg ?_
      refine r_pv T rfl rfl fun _ T => ?_
      refine r_pv T rfl rfl fun _ T => ?_
      refine r_pv T rfl rfl fun _ T => ?_
      replace H := Option.some.inj H
      subst H
      exact rtn T Try.func85 rfl rfl ⟨rfl, (S.only (p := [sl m4 ku8 A2 k3 x1]) [0] rfl)⟩
theorem ok (F : List Atom) (w : World) (z : Nat) (x1 : List Int) {A2 : Option Addr} {k3 : Nat} {m4 : Md} (S : SL ([sl m4 ku8 A2 k3 x1] ++ F) w) (r : Int × Int × Int) (H : f z x1 = some r) : Calls Try.prog 85 #[.slice A2 x1.length k3] w (R F x1 A2 k3 m4 r) := by
  refine enter (vs := [.slice A2 x1.length k3]) Try.func85 rfl Try.ntmps85 (Nat.le_of_ble_eq_true rfl) fun a T => ?_
  refine Gets.seq ?_
  refine rg ?_
  refine r_pv T rfl rfl fun _ T => ?_
  refine r_pv T rfl rfl fun _ T => ?_
  refine r_pv T rfl rfl fun _ T => ?_
  refine Gets.seq ?_
  refine rg ?_
  refine r_pv T rfl rfl fun _ T => ?_
  refine Gets.seq (Gets.seq ?_)
  refine rg ?_
  refine r_pv T rfl rfl fun _ T => ?_
  refine Gets.block ?_
  refine Gets.loop ?_
  exact L0_ok F r z x1 A2 k3 m4 z 0 0 _ _ (T.sub ⟨rfl, rfl, rfl, trivial⟩) (S.only (p := [sl m4 ku8 A2 k3 x1]) [0] rfl) H
end codec_TakeNumber
end Go.Proofs.Ytghpokmkhlmgcaa

namespace Go.Proofs.Ytghpokmkhlmgcaa
open Go Go.Proofs.Ytghpokmkhlmgcaa.X
set_option linter.unusedVariables false
set_option linter.unusedSimpArgs false
set_option maxRecDepth 100000
set_option maxHeartbeats 4000000
/-! ### cormorant.codec.length: function 62 -/
namespace codec_length
noncomputable def c0 : Code := match Try.f62.body with | some c => c | none => .skip
def R (F : List Atom) (x1 : List Int) (A2 : Option Addr) (k3 : Nat) (m4 : Md) (r : Int × Int × Int) : Ending → World → Prop := fun e w' => e = .returned (.tuple #[.int .i64 r.1, .int .i64 r.2.1, .int .i64 r.2.2]) ∧ SL ([sl m4 ku8 A2 k3 x1] ++ F) w'
def f (z : Nat) (x1 : List Int) (x5 : Int) : Option (Int × Int × Int) := Bd (codec_TakeNumber.f z x1) fun x7 => If (x7.2.2 != 0) (some (0, 0, x7.2.2)) (If (decide (x7.1 > 2097152)) (some (0, 0, 12)) (If (decide ((wr .i64 ((wr .i64 ((x1.length : Int) - x7.2.1)) - x5)) < (wr .i64 x7.1))) (some (0, 0, 10)) (some (wr .i64 x7.1, x7.2.1, 0))))
theorem ok (F : List Atom) (w : World) (z : Nat) (x1 : List Int) (x5 : Int) {A2 : Option Addr} {k3 : Nat} {m4 : Md} (S : SL ([sl m4 ku8 A2 k3 x1] ++ F) w) (r : Int × Int × Int) (H : f z x1 x5 = some r) : Calls Try.prog 62 #[.slice A2 x1.length k3, .int .i64 x5] w (R F x1 A2 k3 m4 r) := by
  refine enter (vs := [.slice A2 x1.length k3, .int .i64 x5]) Try.func62 rfl Try.ntmps62 (Nat.le_of_ble_eq_true rfl) fun a T => ?_
  refine Gets.seq ?_
  refine rg ?_
  refine r_pv T rfl rfl fun _ T => ?_
  refine r_pv T rfl rfl fun _ T => ?_
  refine r_pv T rfl rfl fun _ T => ?_
  refine Gets.seq ?_
  refine rg ?_
  refine r_pv T rfl rfl fun _ T => ?_
  obtain ⟨x7, h6, H⟩ := bd H
  refine r_call T Try.call85 rfl rfl (codec_TakeNumber.ok _ _ z x1 (S.sel (p := [sl m4 ku8 A2 k3 x1]) (is := [0]) rfl) _ h6) ?_
  rintro _ _ ⟨rfl, S⟩
  refine ⟨_, rfl, fun _ T => ?_⟩
  replace S : SL ([sl m4 ku8 A2 k3 x1] ++ F) _ := S.join
  refine r_pv T rfl rfl fun _ T => ?_
  refine r_pv T rfl rfl fun _ T => ?_
  refine r_pv T rfl rfl fun _ T => ?_
  refine r_pv T rfl rfl fun _ T => ?_
  refine r_pv T rfl rfl fun _ T => ?_
  refine r_pv T rfl rfl fun _ T => ?_
  refine r_pv T rfl rfl fun _ T => ?_
  refine Gets.seq (Gets.block (Gets.seq ?_))
  refine rg ?_
  refine r_pv T rfl rfl fun _ T => ?_
  refine r_pv T rfl rfl fun _ T => ?_
  refine r_pv T rfl rfl fun _ T => ?_
  rcases ifE H with ⟨h8, H⟩ | ⟨h8, H⟩
  · refine cdT T rfl h8 ?_
    refine Gets.seq ?_
    refine rg ?_
    refine r_pv T rfl rfl fun _ T => ?_
    refine r_pv T rfl rfl fun _ T => ?_
    refine r_pv T rfl rfl fun _ T => ?_
    refine r_pv T rfl rfl fun _ T => ?_
    replace H := Option.some.inj H
    subst H
    exact rtn T Try.func62 rfl rfl ⟨rfl, (S.only (p := [sl m4 ku8 A2 k3 x1]) [0] rfl)⟩
  · refine cdF T rfl h8 ?_
    refine Gets.seq ?_
    refine rg ?_
    refine r_pv T rfl rfl fun _ T => ?_
    refine r_pv T rfl rfl fun _ T => ?_
    refine r_pv T rfl rfl fun _ T => ?_
    rcases ifE H with ⟨h9, H⟩ | ⟨h9, H⟩
    · refine cdT T rfl h9 ?_
      refine Gets.seq ?_
      refine rg ?_
      refine r_pv T rfl rfl fun _ T => ?_
      refine r_pv T rfl rfl fun _ T => ?_
      refine r_pv T rfl rfl fun _ T => ?_
      replace H := Option.some.inj H
      subst H
      exact rtn T Try.func62 rfl rfl ⟨rfl, (S.only (p := [sl m4 ku8 A2 k3 x1]) [0] rfl)⟩
    · refine cdF T rfl h9 ?_
      refine Gets.seq ?_
      refine rg ?_
      refine r_pv T rfl rfl fun _ T => ?_
      refine r_lenS T rfl Try.runUnderlying24 rfl fun _ T => ?_
      refine r_pv T rfl rfl fun _ T => ?_
      refine r_pv T rfl rfl fun _ T => ?_
      refine r_pv T rfl rfl fun _ T => ?_
      refine r_pv T rfl rfl fun _ T => ?_
      refine r_pv T rfl rfl fun _ T => ?_
      refine r_conv T rfl Try.runUnderlying34 Try.runUnderlying3 rfl fun _ T => ?_
      refine r_pv T rfl rfl fun _ T => ?_
      refine r_pv T rfl rfl fun _ T => ?_
      rcases ifE H with ⟨h10, H⟩ | ⟨h10, H⟩
      · refine cdT T rfl h10 ?_
        refine Gets.seq ?_
        refine rg ?_
        refine r_pv T rfl rfl fun _ T => ?_
        refine r_pv T rfl rfl fun _ T => ?_
        refine r_pv T rfl rfl fun _ T => ?_
        replace H := Option.some.inj H
        subst H
        exact rtn T Try.func62 rfl rfl ⟨rfl, (S.only (p := [sl m4 ku8 A2 k3 x1]) [0] rfl)⟩
      · refine cdF T rfl h10 ?_
        refine Gets.skip (Gets.inBlock (Gets.seq ?_))
        refine rg ?_
        refine r_pv T rfl rfl fun _ T => ?_
        refine r_conv T rfl Try.runUnderlying34 Try.runUnderlying3 rfl fun _ T => ?_
        refine r_pv T rfl rfl fun _ T => ?_
        refine r_pv T rfl rfl fun _ T => ?_
        refine r_pv T rfl rfl fun _ T => ?_
        refine r_pv T rfl rfl fun _ T => ?_
        replace H := Option.some.inj H
        subst H
        exact rtn T Try.func62 rfl rfl ⟨rfl, (S.only (p := [sl m4 ku8 A2 k3 x1]) [0] rfl)⟩
end codec_length
end Go.Proofs.Ytghpokmkhlmgcaa

namespace Go.Proofs.Ytghpokmkhlmgcaa
open Go Go.Proofs.Ytghpokmkhlmgcaa.X
set_option linter.unusedVariables false
set_option linter.unusedSimpArgs false
set_option maxRecDepth 100000
set_option maxHeartbeats 4000000
/-! ### cormorant.codec.register: function 84 -/
namespace codec_register
noncomputable def c0 : Code := match Try.f84.body with | some c => c | none => .skip
def R (F : List Atom) (x2 : List Int) (A3 : Option Addr) (k4 : Nat) (m5 : Md) (r : Int) : Ending → World → Prop := fun e w' => e = .returned (.int .u32 r) ∧ SL ([sl m5 ku8 A3 k4 x2] ++ F) w'
def L1 (z : Nat) (q0 : Int → Int → Option Int) (x2 : List Int) (x7 : Int) : Nat → Int → Int → Option Int
  | 0, _, _ => none
  | m + 1, x10, x11 => If (decide (x11 < 8)) (L1 z q0 x2 x7 m (bXor .u32 (sShr .u32 x10 1) (bAnd .u32 3988292384 (wr .u32 (0 - (bAnd .u32 x10 1))))) (wr .i64 (x11 + 1))) (q0 x10 (wr .i64 (x7 + 1)))
def L0 (z : Nat) (x2 : List Int) : Nat → Int → Int → Option Int
  | 0, _, _ => none
  | m + 1, x6, x7 => If (decide (x7 < (x2.length : Int))) (Ck (0 ≤ x7 ∧ x7 < (x2.length : Int)) (L1 z (L0 z x2 m) x2 x7 z (bXor .u32 x6 (wr .u32 (gi (0 : Int) x2 x7))) 0)) (some x6)
def f (z : Nat) (x1 : Int) (x2 : List Int) : Option Int := L0 z x2 z x1 0
noncomputable def ptL1 : List Item := [.code (cB (cB (cR (cR (cR (cB (cL (cR (cR (cB (cB (cR (cL (cR c0)))))))))))))), .inLoop (cB (cB (cR (cR (cR (cB (cL (cR (cR (cB (cB (cR (cL (cR c0)))))))))))))), .inBlock 2, .inBlock 1, .code (cR (cR (cR (cB (cB (cR (cL (cR c0)))))))), .inLoop (cB (cB (cR (cL (cR c0))))), .inBlock 0, .code (cR (cR c0))]
noncomputable def ptL0 : List Item := [.code (cB (cB (cR (cL (cR c0))))), .inLoop (cB (cB (cR (cL (cR c0))))), .inBlock 0, .code (cR (cR c0))]
theorem L1_ok (F : List Atom) (r : Int) (z : Nat) (x2 : List Int) (A3 : Option Addr) (k4 : Nat) (m5 : Md) (x7 : Int) (x1 : Int) (q0 : Int → Int → Option Int) (hq0 : ∀ (x6 : Int) (x7 : Int) (a : Act) (w : World), Tm 32 [(0, .int .u32 x6), (8, .slice A3 x2.length k4), (9, .int .i64 (x2.length : Int)), (10, .int .i64 x7)] a → SL ([sl m5 ku8 A3 k4 x2] ++ F) w → q0 x6 x7 = some r → Gets Try.prog 84 ptL0 a w (R F x2 A3 k4 m5 r)) (m : Nat) : ∀ (x10 : Int) (x11 : Int) (a : Act) (w : World), Tm 32 [(0, .int .u32 x10), (8, .slice A3 x2.length k4), (9, .int .i64 (x2.length : Int)), (10, .int .i64 x7), (18, .int .i64 x11)] a → SL ([sl m5 ku8 A3 k4 x2] ++ F) w → L1 z q0 x2 x7 m x10 x11 = some r → Gets Try.prog 84 ptL1 a w (R F x2 A3 k4 m5 r) := by
  induction m with
  | zero => intro _ _ _ _ _ _ H; cases H
  | succ m ih =>
    intro x10 x11 a w T S H
    refine Gets.seq ?_
    refine rg ?_
    refine r_pv T rfl rfl fun _ T => ?_
    refine Gets.seq ?_
    rcases ifE H with ⟨h12, H⟩ | ⟨h12, H⟩
    · refine cdT T rfl h12 ?_
      refine Gets.skip (Gets.seq (Gets.block (Gets.seq ?_)))
      refine rg ?_
      refine r_pv T rfl rfl fun _ T => ?_
      refine r_pv T rfl rfl fun _ T => ?_
      refine r_pv T rfl rfl fun _ T => ?_
      refine Gets.seq ?_
      refine rg ?_
      refine r_pv T rfl rfl fun _ T => ?_
      refine r_shr T rfl rfl (by decide) rfl fun _ T => ?_
      refine r_pv T rfl rfl fun _ T => ?_
      refine rg ?_
      refine r_pv T rfl rfl fun _ T => ?_
      refine r_pv T rfl rfl fun _ T => ?_
      refine r_pv T rfl rfl fun _ T => ?_
      refine r_pv T rfl rfl fun _ T => ?_
      refine r_pv T rfl rfl fun _ T => ?_
      refine r_pv T rfl rfl fun _ T => ?_
      refine Gets.inBlock ?_
      refine rg ?_
      refine r_pv T rfl rfl fun _ T => ?_
      refine r_pv T rfl rfl fun _ T => ?_
      refine Gets.inLoop ?_
      exact ih (bXor .u32 (sShr .u32 x10 1) (bAnd .u32 3988292384 (wr .u32 (0 - (bAnd .u32 x10 1))))) (wr .i64 (x11 + 1)) _ _ (T.sub ⟨rfl, rfl, rfl, rfl, rfl, trivial⟩) (S.only (p := [sl m5 ku8 A3 k4 x2]) [0] rfl) H
    · refine cdF T rfl h12 ?_
      refine Gets.exit rfl (Gets.inBlock ?_)
      refine rg ?_
      refine r_pv T rfl rfl fun _ T => ?_
      refine r_pv T rfl rfl fun _ T => ?_
      refine Gets.inLoop ?_
      exact hq0 x10 (wr .i64 (x7 + 1)) _ _ (T.sub ⟨rfl, rfl, rfl, rfl, trivial⟩) (S.only (p := [sl m5 ku8 A3 k4 x2]) [0] rfl) H
theorem L0_ok (F : List Atom) (r : Int) (z : Nat) (x2 : List Int) (A3 : Option Addr) (k4 : Nat) (m5 : Md) (x1 : Int) (m : Nat) : ∀ (x6 : Int) (x7 : Int) (a : Act) (w : World), Tm 32 [(0, .int .u32 x6), (8, .slice A3 x2.length k4), (9, .int .i64 (x2.length : Int)), (10, .int .i64 x7)] a → SL ([sl m5 ku8 A3 k4 x2] ++ F) w → L0 z x2 m x6 x7 = some r → Gets Try.prog 84 ptL0 a w (R F x2 A3 k4 m5 r) := by
  induction m with
  | zero => intro _ _ _ _ _ _ H; cases H
  | succ m ih =>
    intro x6 x7 a w T S H
    refine Gets.seq ?_
    refine rg ?_
    refine r_pv T rfl rfl fun _ T => ?_
    refine Gets.seq ?_
    rcases ifE H with ⟨h8, H⟩ | ⟨h8, H⟩
    · refine cdT T rfl h8 ?_
      refine Gets.skip (Gets.seq (Gets.block (Gets.seq ?_)))
      refine rg ?_
      obtain ⟨h9, H⟩ := ck H
      refine r_ia (ix := 0) T S rfl rfl rfl rfl Try.runUnderlying24 Try.sizeOf5 h9.1 h9.2 rfl fun _ T => ?_
      refine r_ldE (ix := 0) (i := x7) (off := 0) (f := (Value.int .u8)) T S rfl Try.isAgg5 rfl (0 : Int) _ rfl rfl (Fld.all _) h9.1 h9.2 (fun h => h) rfl fun _ T => ?_
      refine r_pv T rfl rfl fun _ T => ?_
      refine Gets.seq ?_
      refine rg ?_
      refine r_pv T rfl rfl fun _ T => ?_
      refine r_pv T rfl rfl fun _ T => ?_
      refine r_conv T rfl Try.runUnderlying5 Try.runUnderlying99 rfl fun _ T => ?_
      refine r_pv T rfl rfl fun _ T => ?_
      refine r_pv T rfl rfl fun _ T => ?_
      refine Gets.seq ?_
      refine rg ?_
      refine r_pv T rfl rfl fun _ T => ?_
      refine Gets.block ?_
      refine Gets.loop ?_
      exact L1_ok F r z x2 A3 k4 m5 x7 x1 (L0 z x2 m) ih z (bXor .u32 x6 (wr .u32 (gi (0 : Int) x2 x7))) 0 _ _ (T.sub ⟨rfl, rfl, rfl, rfl, rfl, trivial⟩) (S.only (p := [sl m5 ku8 A3 k4 x2]) [0] rfl) H
    · refine cdF T rfl h8 ?_
      refine Gets.exit rfl (Gets.seq ?_)
      refine rg ?_
      refine r_pv T rfl rfl fun _ T => ?_
      refine r_pv T rfl rfl fun _ T => ?_
      replace H := Option.some.inj H
      subst H
      exact rtn T Try.func84 rfl rfl ⟨rfl, (S.only (p := [sl m5 ku8 A3 k4 x2]) [0] rfl)⟩
theorem ok (F : List Atom) (w : World) (z : Nat) (x1 : Int) (x2 : List Int) {A3 : Option Addr} {k4 : Nat} {m5 : Md} (S : SL ([sl m5 ku8 A3 k4 x2] ++ F) w) (r : Int) (H : f z x1 x2 = some r) : Calls Try.prog 84 #[.int .u32 x1, .slice A3 x2.length k4] w (R F x2 A3 k4 m5 r) := by
  refine enter (vs := [.int .u32 x1, .slice A3 x2.length k4]) Try.func84 rfl Try.ntmps84 (Nat.le_of_ble_eq_true rfl) fun a T => ?_
  refine Gets.seq ?_
  refine rg ?_
  refine r_pv T rfl rfl fun _ T => ?_
  refine Gets.seq (Gets.seq ?_)
  refine rg ?_
  refine r_pv T rfl rfl fun _ T => ?_
  refine r_lenS T rfl Try.runUnderlying24 rfl fun _ T => ?_
  refine r_pv T rfl rfl fun _ T => ?_
  refine Gets.block ?_
  refine Gets.loop ?_
  exact L0_ok F r z x2 A3 k4 m5 x1 z x1 0 _ _ (T.sub ⟨rfl, rfl, rfl, rfl, trivial⟩) (S.only (p := [sl m5 ku8 A3 k4 x2]) [0] rfl) H
end codec_register
end Go.Proofs.Ytghpokmkhlmgcaa

namespace Go.Proofs.Ytghpokmkhlmgcaa
open Go Go.Proofs.Ytghpokmkhlmgcaa.X
set_option linter.unusedVariables false
set_option linter.unusedSimpArgs false
set_option maxRecDepth 100000
set_option maxHeartbeats 4000000
/-! ### cormorant.codec.sums: function 63 -/
namespace codec_sums
noncomputable def c0 : Code := match Try.f63.body with | some c => c | none => .skip
def R (F : List Atom) (x1 : List Int) (A2 : Option Addr) (k3 : Nat) (m4 : Md) (x5 : List Int) (A6 : Option Addr) (k7 : Nat) (m8 : Md) (r : (List Int)) : Ending → World → Prop := fun e w' => ∃ (A14 : Option Addr), ∃ (k15 : Nat), e = .returned (.slice A14 r.length k15) ∧ SL ([sl .own ku8 A14 k15 r, sl m4 ku8 A2 k3 x1, sl m8 ku8 A6 k7 x5] ++ F) w'
def f (z : Nat) (x1 : List Int) (x5 : List Int) : Option (List Int) := Bd (codec_register.f z 4294967295 x1) fun x10 => Bd (codec_register.f z x10 x5) fun x12 => some [wr .u8 (bNot .u32 x12), wr .u8 (sShr .u32 (bNot .u32 x12) 8), wr .u8 (sShr .u32 (bNot .u32 x12) 16), wr .u8 (sShr .u32 (bNot .u32 x12) 24)]
theorem ok (F : List Atom) (w : World) (z : Nat) (x1 : List Int) (x5 : List Int) {A2 : Option Addr} {k3 : Nat} {m4 : Md} {A6 : Option Addr} {k7 : Nat} {m8 : Md} (S : SL ([sl m4 ku8 A2 k3 x1, sl m8 ku8 A6 k7 x5] ++ F) w) (r : (List Int)) (H : f z x1 x5 = some r) : Calls Try.prog 63 #[.slice A2 x1.length k3, .slice A6 x5.length k7] w (R F x1 A2 k3 m4 x5 A6 k7 m8 r) := by
  refine enter (vs := [.slice A2 x1.length k3, .slice A6 x5.length k7]) Try.func63 rfl Try.ntmps63 (Nat.le_of_ble_eq_true rfl) fun a T => ?_
  refine Gets.seq ?_
  refine rg ?_
  refine r_pv T rfl rfl fun _ T => ?_
  refine Gets.seq ?_
  refine rg ?_
  refine r_pv T rfl rfl fun _ T => ?_
  obtain ⟨x10, h9, H⟩ := bd H
  refine r_call T Try.call84 rfl rfl (codec_register.ok _ _ z 4294967295 x1 (S.sel (p := [sl m4 ku8 A2 k3 x1]) (is := [0]) rfl) _ h9) ?_
  rintro _ _ ⟨rfl, S⟩
  refine ⟨_, rfl, fun _ T => ?_⟩
  replace S : SL ([sl m4 ku8 A2 k3 x1, sl m8 ku8 A6 k7 x5] ++ F) _ := S.join
  refine r_pv T rfl rfl fun _ T => ?_
  obtain ⟨x12, h11, H⟩ := bd H
  refine r_call T Try.call84 rfl rfl (codec_register.ok _ _ z x10 x5 (S.sel (p := [sl m8 ku8 A6 k7 x5]) (is := [1]) rfl) _ h11) ?_
  rintro _ _ ⟨rfl, S⟩
  refine ⟨_, rfl, fun _ T => ?_⟩
  replace S : SL ([sl m8 ku8 A6 k7 x5, sl m4 ku8 A2 k3 x1] ++ F) _ := S.join
  refine r_pv T rfl rfl fun _ T => ?_
  refine r_pv T rfl rfl fun _ T => ?_
  refine Gets.seq ?_
  refine rg ?_
  refine r_pv T rfl rfl fun _ T => ?_
  refine r_conv T rfl Try.runUnderlying99 Try.runUnderlying5 rfl fun _ T => ?_
  refine r_pv T rfl rfl fun _ T => ?_
  refine r_shr T rfl rfl (by decide) rfl fun _ T => ?_
  refine r_conv T rfl Try.runUnderlying99 Try.runUnderlying5 rfl fun _ T => ?_
  refine r_pv T rfl rfl fun _ T => ?_
  refine r_shr T rfl rfl (by decide) rfl fun _ T => ?_
  refine r_conv T rfl Try.runUnderlying99 Try.runUnderlying5 rfl fun _ T => ?_
  refine r_pv T rfl rfl fun _ T => ?_
  refine r_shr T rfl rfl (by decide) rfl fun _ T => ?_
  refine r_conv T rfl Try.runUnderlying99 Try.runUnderlying5 rfl fun _ T => ?_
  replace S := SL.val (κ := ku8) (x := wr .u8 (bNot .u32 x12)) (cs := [.int .u8 (wr .u8 (bNot .u32 x12))]) (fun _ => rfl) S
  replace S := SL.val (κ := ku8) (x := wr .u8 (sShr .u32 (bNot .u32 x12) 8)) (cs := [.int .u8 (wr .u8 (sShr .u32 (bNot .u32 x12) 8))]) (fun _ => rfl) S
  replace S := SL.val (κ := ku8) (x := wr .u8 (sShr .u32 (bNot .u32 x12) 16)) (cs := [.int .u8 (wr .u8 (sShr .u32 (bNot .u32 x12) 16))]) (fun _ => rfl) S
  replace S := SL.val (κ := ku8) (x := wr .u8 (sShr .u32 (bNot .u32 x12) 24)) (cs := [.int .u8 (wr .u8 (sShr .u32 (bNot .u32 x12) 24))]) (fun _ => rfl) S
  refine r_bsl (κ := ku8) (xs := [wr .u8 (bNot .u32 x12), wr .u8 (sShr .u32 (bNot .u32 x12) 8), wr .u8 (sShr .u32 (bNot .u32 x12) 16), wr .u8 (sShr .u32 (bNot .u32 x12) 24)]) (vs := [.int .u8 (wr .u8 (bNot .u32 x12)), .int .u8 (wr .u8 (sShr .u32 (bNot .u32 x12) 8)), .int .u8 (wr .u8 (sShr .u32 (bNot .u32 x12) 16)), .int .u8 (wr .u8 (sShr .u32 (bNot .u32 x12) 24))]) T S sty24 rfl ⟨_, _, rfl, ⟨3, rfl⟩, ⟨_, _, rfl, ⟨2, rfl⟩, ⟨_, _, rfl, ⟨1, rfl⟩, ⟨_, _, rfl, ⟨0, rfl⟩, rfl⟩⟩⟩⟩ rfl (by decide) rfl fun _ _ b13 S T => ?_
  replace S : SL ([sl .own ku8 (some ⟨b13, 0, none⟩) 4 [wr .u8 (bNot .u32 x12), wr .u8 (sShr .u32 (bNot .u32 x12) 8), wr .u8 (sShr .u32 (bNot .u32 x12) 16), wr .u8 (sShr .u32 (bNot .u32 x12) 24)], sl m8 ku8 A6 k7 x5, sl m4 ku8 A2 k3 x1] ++ F) _ := S.only [0, 4, 4] rfl
  refine r_pv T rfl rfl fun _ T => ?_
  replace H := Option.some.inj H
  subst H
  replace T := T.re (s := 4) (v' := .slice (some ⟨b13, 0, none⟩) [wr .u8 (bNot .u32 x12), wr .u8 (sShr .u32 (bNot .u32 x12) 8), wr .u8 (sShr .u32 (bNot .u32 x12) 16), wr .u8 (sShr .u32 (bNot .u32 x12) 24)].length 4) rfl (by simp)
  exact rtn T Try.func63 rfl rfl ⟨(some ⟨b13, 0, none⟩), 4, rfl, (S.only (p := [sl .own ku8 (some ⟨b13, 0, none⟩) 4 [wr .u8 (bNot .u32 x12), wr .u8 (sShr .u32 (bNot .u32 x12) 8), wr .u8 (sShr .u32 (bNot .u32 x12) 16), wr .u8 (sShr .u32 (bNot .u32 x12) 24)], sl m4 ku8 A2 k3 x1, sl m8 ku8 A6 k7 x5]) [0, 1, 0] rfl)⟩
end codec_sums
end Go.Proofs.Ytghpokmkhlmgcaa

namespace Go.Proofs.Ytghpokmkhlmgcaa
open Go Go.Proofs.Ytghpokmkhlmgcaa.X
set_option linter.unusedVariables false
set_option linter.unusedSimpArgs false
set_option maxRecDepth 100000
set_option maxHeartbeats 4000000
namespace slices_Clip_byte
def f (x : List Int) : Option (List Int) := some x
def R (F : List Atom) (r : List Int) : Ending → World → Prop := fun e w' => ∃ (A : Option Addr), e = .returned (.slice A r.length r.length) ∧ SL ([sl .own ku8 A r.length r] ++ F) w'
theorem ok (F : List Atom) (w : World) (x : List Int) {A : Option Addr} {k : Nat} (S : SL ([sl .own ku8 A k x] ++ F) w) (r : List Int) (H : f x = some r) : Calls Try.prog 31 #[.slice A x.length k] w (R F r) := by
  refine enter (vs := [.slice A x.length k]) Try.func31 rfl Try.ntmps31 (Nat.le_of_ble_eq_true rfl) fun a T => ?_
  refine Gets.seq (rg ?_)
  refine r_pv T rfl rfl fun _ T => ?_
  refine Gets.seq (rg ?_)
  refine r_pv T rfl rfl fun _ T => ?_
  refine r_pv T rfl rfl fun _ T => ?_
  refine r_lenS T rfl Try.runUnderlying24 rfl fun _ T => ?_
  refine r_pv T rfl rfl fun _ T => ?_
  refine r_lenS T rfl Try.runUnderlying24 rfl fun _ T => ?_
  have hk := S.len (i := 0) rfl
  refine r_slO (ix := 0) (xs := x) T S rfl rfl (fun _ => rfl) rfl rfl rfl (Int.le_refl 0) (by omega) (Int.le_refl _) (Int.le_refl _) (by omega) Try.runUnderlying24 Try.sizeOf5 rfl fun _ A2 S T => ?_
  have hc : cut x (Int.toNat 0) (Int.toNat (x.length : Int)) = x := by simp [cut]
  have hn : (Int.toNat (x.length : Int) - Int.toNat 0) = x.length := by simp
  rw [hc, hn] at S T
  refine r_pv T rfl rfl fun _ T => ?_
  cases H
  exact rtn T Try.func31 rfl rfl ⟨A2, rfl, S⟩
end slices_Clip_byte
namespace slices_Clip_byte_ro
def f (x : List Int) : Option (List Int) := some x
def R (F : List Atom) (x : List Int) (A : Option Addr) (k : Nat) (r : List Int) : Ending → World → Prop := fun e w' => ∃ (A2 : Option Addr), e = .returned (.slice A2 r.length r.length) ∧ SL ([sl .ro ku8 A2 r.length r, sl .ro ku8 A k x] ++ F) w'
theorem ok (F : List Atom) (w : World) (x : List Int) {A : Option Addr} {k : Nat} (S : SL ([sl .ro ku8 A k x] ++ F) w) (r : List Int) (H : f x = some r) : Calls Try.prog 31 #[.slice A x.length k] w (R F x A k r) := by
  refine enter (vs := [.slice A x.length k]) Try.func31 rfl Try.ntmps31 (Nat.le_of_ble_eq_true rfl) fun a T => ?_
  refine Gets.seq (rg ?_)
  refine r_pv T rfl rfl fun _ T => ?_
  refine Gets.seq (rg ?_)
  refine r_pv T rfl rfl fun _ T => ?_
  refine r_pv T rfl rfl fun _ T => ?_
  refine r_lenS T rfl Try.runUnderlying24 rfl fun _ T => ?_
  refine r_pv T rfl rfl fun _ T => ?_
  refine r_lenS T rfl Try.runUnderlying24 rfl fun _ T => ?_
  have hk := S.len (i := 0) rfl
  refine r_slR (ix := 0) (xs := x) T S rfl rfl (fun _ => rfl) rfl rfl rfl (Int.le_refl 0) (by omega) (Int.le_refl _) (Int.le_refl _) (by omega) Try.runUnderlying24 Try.sizeOf5 rfl fun _ A2 S T => ?_
  have hc : cut x (Int.toNat 0) (Int.toNat (x.length : Int)) = x := by simp [cut]
  have hn : (Int.toNat (x.length : Int) - Int.toNat 0) = x.length := by simp
  rw [hc, hn] at S T
  refine r_pv T rfl rfl fun _ T => ?_
  cases H
  exact rtn T Try.func31 rfl rfl ⟨A2, rfl, S⟩
end slices_Clip_byte_ro

namespace bytes_Clone
def f (x : List Int) : Option (List Int) := Ck ((0 + x.length) * 1 ≤ 140737488355328) (some x)
def R (F : List Atom) (m : Md) (x : List Int) (A : Option Addr) (k : Nat) (r : List Int) : Ending → World → Prop := fun e w' => ∃ (A2 : Option Addr) (k2 : Nat), e = .returned (.slice A2 r.length k2) ∧ SL ([sl .own ku8 A2 k2 r, sl m ku8 A k x] ++ F) w'
theorem ok (F : List Atom) (w : World) (x : List Int) {m : Md} {A : Option Addr} {k : Nat} (S : SL ([sl m ku8 A k x] ++ F) w) (r : List Int) (H : f x = some r) : Calls Try.prog 32 #[.slice A x.length k] w (R F m x A k r) := by
  refine enter (vs := [.slice A x.length k]) Try.func32 rfl Try.ntmps32 (Nat.le_of_ble_eq_true rfl) fun a T => ?_
  refine Gets.seq (rg ?_)
  refine r_pv T rfl rfl fun _ T => ?_
  refine Gets.seq (Gets.seq (rg ?_))
  refine r_pv T rfl rfl fun _ T => ?_
  refine r_slNil T rfl Try.runUnderlying24 rfl fun _ T => ?_
  cases A with
  | none =>
    have hx : x = [] := by
      obtain ⟨_, _, _, _, _, h⟩ := S.memF (i := 0) rfl
      have h1 := sl_len h
      have h2 : k = 0 := by
        cases m with
        | ro => exact h.2.1 rfl
        | own =>
          rcases h.2 with q | ⟨_, _, _, _, _, q, _⟩
          · exact q.2
          · cases q
        | part off zs =>
          rcases h.1.2 with q | ⟨_, _, _, _, _, q, _⟩
          · exact q.2
          · cases q
      exact List.eq_nil_of_length_eq_zero (by omega)
    subst hx
    refine cdT T rfl rfl (Gets.seq (rg ?_))
    refine r_pv T rfl rfl fun _ T => ?_
    replace S := S.nil ku8 .own
    obtain ⟨_, H⟩ := ck H
    cases H
    exact rtn T Try.func32 rfl rfl ⟨none, 0, rfl, S⟩
  | some ad =>
    refine cdF T rfl rfl (Gets.skip (Gets.seq (rg ?_)))
    refine r_bsl (κ := ku8) (xs := []) (vs := []) T S sty24 rfl rfl rfl (by decide) rfl fun _ _ b S T => ?_
    refine r_pv T rfl rfl fun _ T => ?_
    obtain ⟨h, H⟩ := ck H
    refine r_app (ix := 0) (iy := 1) (xs := []) (ys := x) T S rfl rfl rfl rfl (by decide) sty24 Try.runUnderlying24 (by decide) (by simpa using h) rfl fun _ _ A2 k2 S T => ?_
    refine r_pv T rfl rfl fun _ T => ?_
    cases H
    exact rtn T Try.func32 rfl rfl ⟨A2, k2, rfl, S⟩
end bytes_Clone

theorem ext_bytes_Compare (u v : Value) (w : World) : (callFunc 86 #[u, v]).run Try.prog w = (Extern.BytealgCompare.compare #[u, v] >>= fun v => (pure (.value v) : Sem Next)).run Try.prog w := by kernel_rfl
namespace bytes_Compare
def f (x y : List Int) : Option Int := some (bcmp x y)
def R (F : List Atom) (x y : List Int) (m1 m2 : Md) (A1 A2 : Option Addr) (k1 k2 : Nat) (r : Int) : Ending → World → Prop := fun e w' => e = .returned (.int .i64 r) ∧ SL ([sl m1 (kInt .u8) A1 k1 x, sl m2 (kInt .u8) A2 k2 y] ++ F) w'
theorem ok (F : List Atom) (w : World) (x y : List Int) {m1 m2 : Md} {A1 A2 : Option Addr} {k1 k2 : Nat} (S : SL ([sl m1 (kInt .u8) A1 k1 x, sl m2 (kInt .u8) A2 k2 y] ++ F) w) (r : Int) (H : f x y = some r) : Calls Try.prog 65 #[.slice A1 x.length k1, .slice A2 y.length k2] w (R F x y m1 m2 A1 A2 k1 k2 r) := by
  refine enter (vs := [.slice A1 x.length k1, .slice A2 y.length k2]) Try.func65 rfl Try.ntmps65 (Nat.le_of_ble_eq_true rfl) fun a T => ?_
  refine Gets.seq (rg ?_)
  refine r_pv T rfl rfl fun _ T => ?_
  refine Gets.seq (rg ?_)
  refine r_pv T rfl rfl fun _ T => ?_
  refine r_pv T rfl rfl fun _ T => ?_
  refine r_cmp (ix := 0) (iy := 1) (xs := x) (ys := y) T S ext_bytes_Compare rfl rfl rfl rfl rfl fun _ T => ?_
  refine r_pv T rfl rfl fun _ T => ?_
  cases H
  exact rtn T Try.func65 rfl rfl ⟨rfl, S⟩
end bytes_Compare
end Go.Proofs.Ytghpokmkhlmgcaa

namespace Go.Proofs.Ytghpokmkhlmgcaa
open Go Go.Proofs.Ytghpokmkhlmgcaa.X
set_option linter.unusedVariables false
set_option linter.unusedSimpArgs false
set_option maxRecDepth 100000
set_option maxHeartbeats 4000000
/-! ### cormorant.codec.TakeFrame: function 35 -/
namespace codec_TakeFrame
noncomputable def c0 : Code := match Try.f35.body with | some c => c | none => .skip
def R (F : List Atom) (x1 : List Int) (A2 : Option Addr) (k3 : Nat) (r : Int × (List Int) × Int × Int) : Ending → World → Prop := fun e w' => ∃ (A29 : Option Addr), ∃ (k30 : Nat), e = .returned (.tuple #[.int .u8 r.1, .slice A29 r.2.1.length k30, .int .i64 r.2.2.1, .int .i64 r.2.2.2]) ∧ SL ([sl .own ku8 A29 k30 r.2.1, sl .ro ku8 A2 k3 x1] ++ F) w'
def f (z : Nat) (x1 : List Int) : Option (Int × (List Int) × Int × Int) := If ((x1.length : Int) == 0) (some (0, ([] : List Int), 0, 10)) (Ck (1 ≤ (x1.length : Int)) (Bd (codec_length.f z (cut x1 (Int.toNat 1) (Int.toNat (x1.length : Int))) 4) fun x9 => If (x9.2.2 != 0) (some (0, ([] : List Int), 0, x9.2.2)) (Ck (0 ≤ wr .i64 (x9.2.1 + 1) ∧ wr .i64 (x9.2.1 + 1) ≤ (x1.length : Int)) (Ck (wr .i64 (x9.2.1 + 1) ≤ wr .i64 (x9.2.1 + 5) ∧ wr .i64 (x9.2.1 + 5) ≤ (x1.length : Int)) (Ck (0 ≤ wr .i64 (x9.2.1 + 5) ∧ wr .i64 (x9.2.1 + 5) ≤ wr .i64 ((wr .i64 (x9.2.1 + 5)) + x9.1) ∧ wr .i64 ((wr .i64 (x9.2.1 + 5)) + x9.1) ≤ (x1.length : Int)) (Bd (codec_sums.f z (cut x1 (Int.toNat 0) (Int.toNat (wr .i64 (x9.2.1 + 1)))) (cut x1 (Int.toNat (wr .i64 (x9.2.1 + 5))) (Int.toNat (wr .i64 ((wr .i64 (x9.2.1 + 5)) + x9.1))))) fun x15 => Bd (bytes_Equal.f (cut x1 (Int.toNat (wr .i64 (x9.2.1 + 1))) (Int.toNat (wr .i64 (x9.2.1 + 5)))) x15) fun x19 => If (!x19) (some (0, ([] : List Int), 0, 13)) (Ck (0 < (x1.length : Int)) (Bd (bytes_Clone.f (cut x1 (Int.toNat (wr .i64 (x9.2.1 + 5))) (Int.toNat (wr .i64 ((wr .i64 (x9.2.1 + 5)) + x9.1))))) fun x23 => Bd (slices_Clip_byte.f x23) fun x27 => some (gi (0 : Int) x1 0, x27, wr .i64 ((wr .i64 (x9.2.1 + 5)) + x9.1), 0)))))))))
theorem ok (F : List Atom) (w : World) (z : Nat) (x1 : List Int) {A2 : Option Addr} {k3 : Nat} (S : SL ([sl .ro ku8 A2 k3 x1] ++ F) w) (r : Int × (List Int) × Int × Int) (H : f z x1 = some r) : Calls Try.prog 35 #[.slice A2 x1.length k3] w (R F x1 A2 k3 r) := by
  refine enter (vs := [.slice A2 x1.length k3]) Try.func35 rfl Try.ntmps35 (Nat.le_of_ble_eq_true rfl) fun a T => ?_
  refine Gets.seq ?_
  refine rg ?_
  refine r_pv T rfl rfl fun _ T => ?_
  refine r_pv T rfl rfl fun _ T => ?_
  refine r_pv T rfl rfl fun _ T => ?_
  refine r_pv T rfl rfl fun _ T => ?_
  refine Gets.seq (Gets.seq ?_)
  refine rg ?_
  refine r_pv T rfl rfl fun _ T => ?_
  refine r_lenS T rfl Try.runUnderlying24 rfl fun _ T => ?_
  refine r_pv T rfl rfl fun _ T => ?_
  rcases ifE H with ⟨h4, H⟩ | ⟨h4, H⟩
  · refine cdT T rfl h4 ?_
    refine Gets.seq ?_
    refine rg ?_
    refine r_pv T rfl rfl fun _ T => ?_
    refine r_pv T rfl rfl fun _ T => ?_
    refine r_pv T rfl rfl fun _ T => ?_
    refine r_pv T rfl rfl fun _ T => ?_
    replace S := S.nil ku8 .own
    replace H := Option.some.inj H
    subst H
    exact rtn T Try.func35 rfl rfl ⟨none, 0, rfl, (S.only (p := [sl .own ku8 none 0 ([] : List Int), sl .ro ku8 A2 k3 x1]) [0, 0] rfl)⟩
  · refine cdF T rfl h4 ?_
    refine Gets.skip (Gets.seq ?_)
    refine rg ?_
    refine r_pv T rfl rfl fun _ T => ?_
    have h5 := S.len (i := 0) rfl
    obtain ⟨h6, H⟩ := ck H
    refine r_slR (ix := 0) (xs := x1) T S rfl rfl (fun h => by cases h) rfl rfl rfl (by decide) h6 (Int.le_refl _) (by omega) (by omega) Try.runUnderlying24 Try.sizeOf5 rfl fun _ A7 S T => ?_
    obtain ⟨x9, h8, H⟩ := bd H
    refine r_call T Try.call62 rfl rfl (codec_length.ok _ _ z (cut x1 (Int.toNat 1) (Int.toNat (x1.length : Int))) 4 (S.sel (p := [sl .ro ku8 A7 (Int.toNat (k3 : Int) - Int.toNat 1) (cut x1 (Int.toNat 1) (Int.toNat (x1.length : Int)))]) (is := [0]) rfl) _ h8) ?_
    rintro _ _ ⟨rfl, S⟩
    refine ⟨_, rfl, fun _ T => ?_⟩
    replace S : SL ([sl .ro ku8 A7 (Int.toNat (k3 : Int) - Int.toNat 1) (cut x1 (Int.toNat 1) (Int.toNat (x1.length : Int))), sl .ro ku8 A2 k3 x1] ++ F) _ := S.join
    refine r_pv T rfl rfl fun _ T => ?_
    refine r_pv T rfl rfl fun _ T => ?_
    refine r_pv T rfl rfl fun _ T => ?_
    refine r_pv T rfl rfl fun _ T => ?_
    refine r_pv T rfl rfl fun _ T => ?_
    refine r_pv T rfl rfl fun _ T => ?_
    refine r_pv T rfl rfl fun _ T => ?_
    refine Gets.seq (Gets.seq ?_)
    refine rg ?_
    refine r_pv T rfl rfl fun _ T => ?_
    refine r_pv T rfl rfl fun _ T => ?_
    rcases ifE H with ⟨h10, H⟩ | ⟨h10, H⟩
    · refine cdT T rfl h10 ?_
      refine Gets.seq ?_
      refine rg ?_
      refine r_pv T rfl rfl fun _ T => ?_
      refine r_pv T rfl rfl fun _ T => ?_
      refine r_pv T rfl rfl fun _ T => ?_
      refine r_pv T rfl rfl fun _ T => ?_
      refine r_pv T rfl rfl fun _ T => ?_
      replace S := S.nil ku8 .own
      replace H := Option.some.inj H
      subst H
      exact rtn T Try.func35 rfl rfl ⟨none, 0, rfl, (S.only (p := [sl .own ku8 none 0 ([] : List Int), sl .ro ku8 A2 k3 x1]) [0, 1] rfl)⟩
    · refine cdF T rfl h10 ?_
      refine Gets.skip (Gets.seq ?_)
      obtain ⟨h11, H⟩ := ck H
      replace S := S.cutR (ix := 1) (i := 0) (j := wr .i64 (x9.2.1 + 1)) (k := (k3 : Int)) rfl (Int.le_refl _) h11.1 h11.2 (by have := h11.2; omega) (by omega)
      obtain ⟨h12, H⟩ := ck H
      replace S := S.cutR (ix := 2) (i := wr .i64 (x9.2.1 + 1)) (j := wr .i64 (x9.2.1 + 5)) (k := (k3 : Int)) rfl h11.1 h12.1 h12.2 (by have := h12.2; omega) (by omega)
      obtain ⟨h13, H⟩ := ck H
      replace S := S.cutR (ix := 3) (i := wr .i64 (x9.2.1 + 5)) (j := wr .i64 ((wr .i64 (x9.2.1 + 5)) + x9.1)) (k := (k3 : Int)) rfl h13.1 h13.2.1 h13.2.2 (by have := h13.2.2; omega) (by omega)
      refine Gets.drawn (l := [sl .ro ku8 (slA A2 (Int.toNat (k3 : Int)) (Int.toNat (wr .i64 (x9.2.1 + 5))) 1) (Int.toNat (k3 : Int) - Int.toNat (wr .i64 (x9.2.1 + 5))) (cut x1 (Int.toNat (wr .i64 (x9.2.1 + 5))) (Int.toNat (wr .i64 ((wr .i64 (x9.2.1 + 5)) + x9.1)))), sl .ro ku8 (slA A2 (Int.toNat (k3 : Int)) (Int.toNat (wr .i64 (x9.2.1 + 1))) 1) (Int.toNat (k3 : Int) - Int.toNat (wr .i64 (x9.2.1 + 1))) (cut x1 (Int.toNat (wr .i64 (x9.2.1 + 1))) (Int.toNat (wr .i64 (x9.2.1 + 5)))), sl .ro ku8 (slA A2 (Int.toNat (k3 : Int)) (Int.toNat 0) 1) (Int.toNat (k3 : Int) - Int.toNat 0) (cut x1 (Int.toNat 0) (Int.toNat (wr .i64 (x9.2.1 + 1)))), sl .ro ku8 A7 (Int.toNat (k3 : Int) - Int.toNat 1) (cut x1 (Int.toNat 1) (Int.toNat (x1.length : Int))), sl .ro ku8 A2 k3 x1]) (V := [some (.slice A2 x1.length k3, true), some (.int .i64 x9.2.1, true), some (.int .i64 (wr .i64 (x9.2.1 + 1)), true), some (.slice (slA A2 (Int.toNat (k3 : Int)) (Int.toNat 0) 1) ((cut x1 (Int.toNat 0) (Int.toNat (wr .i64 (x9.2.1 + 1)))).length) (Int.toNat (k3 : Int) - Int.toNat 0), true), some (.slice A2 x1.length k3, true), some (.int .i64 x9.2.1, true), some (.int .i64 (wr .i64 (x9.2.1 + 1)), true), some (.int .i64 x9.2.1, true), some (.int .i64 (wr .i64 (x9.2.1 + 5)), true), some (.slice (slA A2 (Int.toNat (k3 : Int)) (Int.toNat (wr .i64 (x9.2.1 + 1))) 1) ((cut x1 (Int.toNat (wr .i64 (x9.2.1 + 1))) (Int.toNat (wr .i64 (x9.2.1 + 5)))).length) (Int.toNat (k3 : Int) - Int.toNat (wr .i64 (x9.2.1 + 1))), true), some (.slice A2 x1.length k3, true), some (.int .i64 x9.2.1, true), some (.int .i64 (wr .i64 (x9.2.1 + 5)), true), some (.int .i64 x9.2.1, true), some (.int .i64 (wr .i64 (x9.2.1 + 5)), true), some (.int .i64 x9.1, true), some (.int .i64 (wr .i64 ((wr .i64 (x9.2.1 + 5)) + x9.1)), true), some (.slice (slA A2 (Int.toNat (k3 : Int)) (Int.toNat (wr .i64 (x9.2.1 + 5))) 1) ((cut x1 (Int.toNat (wr .i64 (x9.2.1 + 5))) (Int.toNat (wr .i64 ((wr .i64 (x9.2.1 + 5)) + x9.1)))).length) (Int.toNat (k3 : Int) - Int.toNat (wr .i64 (x9.2.1 + 5))), true), some (.slice (slA A2 (Int.toNat (k3 : Int)) (Int.toNat 0) 1) ((cut x1 (Int.toNat 0) (Int.toNat (wr .i64 (x9.2.1 + 1)))).length) (Int.toNat (k3 : Int) - Int.toNat 0), true), some (.slice (slA A2 (Int.toNat (k3 : Int)) (Int.toNat (wr .i64 (x9.2.1 + 1))) 1) ((cut x1 (Int.toNat (wr .i64 (x9.2.1 + 1))) (Int.toNat (wr .i64 (x9.2.1 + 5)))).length) (Int.toNat (k3 : Int) - Int.toNat (wr .i64 (x9.2.1 + 1))), true), some (.slice (slA A2 (Int.toNat (k3 : Int)) (Int.toNat (wr .i64 (x9.2.1 + 5))) 1) ((cut x1 (Int.toNat (wr .i64 (x9.2.1 + 5))) (Int.toNat (wr .i64 ((wr .i64 (x9.2.1 + 5)) + x9.1)))).length) (Int.toNat (k3 : Int) - Int.toNat (wr .i64 (x9.2.1 + 5))), true)]) mixed T S rfl ?_
      refine stage none rfl rfl ⟨⟨_, [(0, .slice A2 x1.length k3)], rfl, ⟨.inr ⟨rfl, rfl⟩, trivial⟩, fun u a w T S => (by refine r_pv T rfl rfl fun _ T => ?_; exact ⟨rfl, T⟩)⟩, ⟨_, [(7, .int .i64 x9.2.1)], rfl, ⟨.inr ⟨rfl, rfl⟩, trivial⟩, fun u a w T S => (by refine r_pv T rfl rfl fun _ T => ?_; exact ⟨rfl, T⟩)⟩, ⟨_, [(26, .int .i64 x9.2.1)], rfl, ⟨.inl ⟨1, rfl, rfl, rfl, rfl⟩, trivial⟩, fun u a w T S => (by refine r_pv T rfl rfl fun _ T => ?_; exact ⟨rfl, T⟩)⟩, ⟨_, [(25, .slice A2 x1.length k3), (27, .int .i64 (wr .i64 (x9.2.1 + 1)))], rfl, ⟨.inl ⟨0, rfl, rfl, rfl, rfl⟩, .inl ⟨2, rfl, rfl, rfl, rfl⟩, trivial⟩, fun u a w T S => (by refine r_slQ (xs := x1) T rfl (fun h => by cases h) rfl rfl rfl (Int.le_refl _) h11.1 h11.2 (by have := h11.2; omega) (by omega) Try.runUnderlying24 Try.sizeOf5 rfl fun _ T => ?_; exact ⟨rfl, T⟩)⟩, ⟨_, [(0, .slice A2 x1.length k3)], rfl, ⟨.inr ⟨rfl, rfl⟩, trivial⟩, fun u a w T S => (by refine r_pv T rfl rfl fun _ T => ?_; exact ⟨rfl, T⟩)⟩, ⟨_, [(7, .int .i64 x9.2.1)], rfl, ⟨.inr ⟨rfl, rfl⟩, trivial⟩, fun u a w T S => (by refine r_pv T rfl rfl fun _ T => ?_; exact ⟨rfl, T⟩)⟩, ⟨_, [(30, .int .i64 x9.2.1)], rfl, ⟨.inl ⟨5, rfl, rfl, rfl, rfl⟩, trivial⟩, fun u a w T S => (by refine r_pv T rfl rfl fun _ T => ?_; exact ⟨rfl, T⟩)⟩, ⟨_, [(7, .int .i64 x9.2.1)], rfl, ⟨.inr ⟨rfl, rfl⟩, trivial⟩, fun u a w T S => (by refine r_pv T rfl rfl fun _ T => ?_; exact ⟨rfl, T⟩)⟩, ⟨_, [(32, .int .i64 x9.2.1)], rfl, ⟨.inl ⟨7, rfl, rfl, rfl, rfl⟩, trivial⟩, fun u a w T S => (by refine r_pv T rfl rfl fun _ T => ?_; exact ⟨rfl, T⟩)⟩, ⟨_, [(29, .slice A2 x1.length k3), (31, .int .i64 (wr .i64 (x9.2.1 + 1))), (33, .int .i64 (wr .i64 (x9.2.1 + 5)))], rfl, ⟨.inl ⟨4, rfl, rfl, rfl, rfl⟩, .inl ⟨6, rfl, rfl, rfl, rfl⟩, .inl ⟨8, rfl, rfl, rfl, rfl⟩, trivial⟩, fun u a w T S => (by refine r_slQ (xs := x1) T rfl (fun h => by cases h) rfl rfl rfl h11.1 h12.1 h12.2 (by have := h12.2; omega) (by omega) Try.runUnderlying24 Try.sizeOf5 rfl fun _ T => ?_; exact ⟨rfl, T⟩)⟩, ⟨_, [(0, .slice A2 x1.length k3)], rfl, ⟨.inr ⟨rfl, rfl⟩, trivial⟩, fun u a w T S => (by refine r_pv T rfl rfl fun _ T => ?_; exact ⟨rfl, T⟩)⟩, ⟨_, [(7, .int .i64 x9.2.1)], rfl, ⟨.inr ⟨rfl, rfl⟩, trivial⟩, fun u a w T S => (by refine r_pv T rfl rfl fun _ T => ?_; exact ⟨rfl, T⟩)⟩, ⟨_, [(36, .int .i64 x9.2.1)], rfl, ⟨.inl ⟨11, rfl, rfl, rfl, rfl⟩, trivial⟩, fun u a w T S => (by refine r_pv T rfl rfl fun _ T => ?_; exact ⟨rfl, T⟩)⟩, ⟨_, [(7, .int .i64 x9.2.1)], rfl, ⟨.inr ⟨rfl, rfl⟩, trivial⟩, fun u a w T S => (by refine r_pv T rfl rfl fun _ T => ?_; exact ⟨rfl, T⟩)⟩, ⟨_, [(38, .int .i64 x9.2.1)], rfl, ⟨.inl ⟨13, rfl, rfl, rfl, rfl⟩, trivial⟩, fun u a w T S => (by refine r_pv T rfl rfl fun _ T => ?_; exact ⟨rfl, T⟩)⟩, ⟨_, [(6, .int .i64 x9.1)], rfl, ⟨.inr ⟨rfl, rfl⟩, trivial⟩, fun u a w T S => (by refine r_pv T rfl rfl fun _ T => ?_; exact ⟨rfl, T⟩)⟩, ⟨_, [(39, .int .i64 (wr .i64 (x9.2.1 + 5))), (40, .int .i64 x9.1)], rfl, ⟨.inl ⟨14, rfl, rfl, rfl, rfl⟩, .inl ⟨15, rfl, rfl, rfl, rfl⟩, trivial⟩, fun u a w T S => (by refine r_pv T rfl rfl fun _ T => ?_; exact ⟨rfl, T⟩)⟩, ⟨_, [(35, .slice A2 x1.length k3), (37, .int .i64 (wr .i64 (x9.2.1 + 5))), (41, .int .i64 (wr .i64 ((wr .i64 (x9.2.1 + 5)) + x9.1)))], rfl, ⟨.inl ⟨10, rfl, rfl, rfl, rfl⟩, .inl ⟨12, rfl, rfl, rfl, rfl⟩, .inl ⟨16, rfl, rfl, rfl, rfl⟩, trivial⟩, fun u a w T S => (by refine r_slQ (xs := x1) T rfl (fun h => by cases h) rfl rfl rfl h13.1 h13.2.1 h13.2.2 (by have := h13.2.2; omega) (by omega) Try.runUnderlying24 Try.sizeOf5 rfl fun _ T => ?_; exact ⟨rfl, T⟩)⟩, ⟨_, [(28, .slice (slA A2 (Int.toNat (k3 : Int)) (Int.toNat 0) 1) ((cut x1 (Int.toNat 0) (Int.toNat (wr .i64 (x9.2.1 + 1)))).length) (Int.toNat (k3 : Int) - Int.toNat 0))], rfl, ⟨.inl ⟨3, rfl, rfl, rfl, rfl⟩, trivial⟩, fun u a w T S => (by refine r_pv T rfl rfl fun _ T => ?_; exact ⟨rfl, T⟩)⟩, ⟨_, [(34, .slice (slA A2 (Int.toNat (k3 : Int)) (Int.toNat (wr .i64 (x9.2.1 + 1))) 1) ((cut x1 (Int.toNat (wr .i64 (x9.2.1 + 1))) (Int.toNat (wr .i64 (x9.2.1 + 5)))).length) (Int.toNat (k3 : Int) - Int.toNat (wr .i64 (x9.2.1 + 1))))], rfl, ⟨.inl ⟨9, rfl, rfl, rfl, rfl⟩, trivial⟩, fun u a w T S => (by refine r_pv T rfl rfl fun _ T => ?_; exact ⟨rfl, T⟩)⟩, ⟨_, [(42, .slice (slA A2 (Int.toNat (k3 : Int)) (Int.toNat (wr .i64 (x9.2.1 + 5))) 1) ((cut x1 (Int.toNat (wr .i64 (x9.2.1 + 5))) (Int.toNat (wr .i64 ((wr .i64 (x9.2.1 + 5)) + x9.1)))).length) (Int.toNat (k3 : Int) - Int.toNat (wr .i64 (x9.2.1 + 5))))], rfl, ⟨.inl ⟨17, rfl, rfl, rfl, rfl⟩, trivial⟩, fun u a w T S => (by refine r_pv T rfl rfl fun _ T => ?_; exact ⟨rfl, T⟩)⟩, trivial⟩ rfl (fun i hi => by cases hi) (fun _ _ a w T hv hb S => ?_)
      replace T := T.sub (r := [(0, .slice A2 x1.length k3), (6, .int .i64 x9.1), (7, .int .i64 x9.2.1), (9, .slice (slA A2 (Int.toNat (k3 : Int)) (Int.toNat 0) 1) ((cut x1 (Int.toNat 0) (Int.toNat (wr .i64 (x9.2.1 + 1)))).length) (Int.toNat (k3 : Int) - Int.toNat 0)), (10, .slice (slA A2 (Int.toNat (k3 : Int)) (Int.toNat (wr .i64 (x9.2.1 + 1))) 1) ((cut x1 (Int.toNat (wr .i64 (x9.2.1 + 1))) (Int.toNat (wr .i64 (x9.2.1 + 5)))).length) (Int.toNat (k3 : Int) - Int.toNat (wr .i64 (x9.2.1 + 1)))), (11, .slice (slA A2 (Int.toNat (k3 : Int)) (Int.toNat (wr .i64 (x9.2.1 + 5))) 1) ((cut x1 (Int.toNat (wr .i64 (x9.2.1 + 5))) (Int.toNat (wr .i64 ((wr .i64 (x9.2.1 + 5)) + x9.1)))).length) (Int.toNat (k3 : Int) - Int.toNat (wr .i64 (x9.2.1 + 5))))]) ⟨hb 0 _ rfl rfl, hb 6 _ rfl rfl, hb 7 _ rfl rfl, hv 18 _ 9 rfl rfl rfl, hv 19 _ 10 rfl rfl rfl, hv 20 _ 11 rfl rfl rfl, trivial⟩
      refine Gets.seq (Gets.seq ?_)
      refine rg ?_
      refine r_pv T rfl rfl fun _ T => ?_
      refine r_pv T rfl rfl fun _ T => ?_
      refine r_pv T rfl rfl fun _ T => ?_
      obtain ⟨x15, h14, H⟩ := bd H
      refine r_call T Try.call63 rfl rfl (codec_sums.ok _ _ z (cut x1 (Int.toNat 0) (Int.toNat (wr .i64 (x9.2.1 + 1)))) (cut x1 (Int.toNat (wr .i64 (x9.2.1 + 5))) (Int.toNat (wr .i64 ((wr .i64 (x9.2.1 + 5)) + x9.1)))) (S.sel (p := [sl .ro ku8 (slA A2 (Int.toNat (k3 : Int)) (Int.toNat 0) 1) (Int.toNat (k3 : Int) - Int.toNat 0) (cut x1 (Int.toNat 0) (Int.toNat (wr .i64 (x9.2.1 + 1)))), sl .ro ku8 (slA A2 (Int.toNat (k3 : Int)) (Int.toNat (wr .i64 (x9.2.1 + 5))) 1) (Int.toNat (k3 : Int) - Int.toNat (wr .i64 (x9.2.1 + 5))) (cut x1 (Int.toNat (wr .i64 (x9.2.1 + 5))) (Int.toNat (wr .i64 ((wr .i64 (x9.2.1 + 5)) + x9.1))))]) (is := [2, 0]) rfl) _ h14) ?_
      rintro _ _ ⟨A16, k17, rfl, S⟩
      refine ⟨_, rfl, fun _ T => ?_⟩
      replace S : SL ([sl .own ku8 A16 k17 x15, sl .ro ku8 (slA A2 (Int.toNat (k3 : Int)) (Int.toNat 0) 1) (Int.toNat (k3 : Int) - Int.toNat 0) (cut x1 (Int.toNat 0) (Int.toNat (wr .i64 (x9.2.1 + 1)))), sl .ro ku8 (slA A2 (Int.toNat (k3 : Int)) (Int.toNat (wr .i64 (x9.2.1 + 5))) 1) (Int.toNat (k3 : Int) - Int.toNat (wr .i64 (x9.2.1 + 5))) (cut x1 (Int.toNat (wr .i64 (x9.2.1 + 5))) (Int.toNat (wr .i64 ((wr .i64 (x9.2.1 + 5)) + x9.1)))), sl .ro ku8 (slA A2 (Int.toNat (k3 : Int)) (Int.toNat (wr .i64 (x9.2.1 + 1))) 1) (Int.toNat (k3 : Int) - Int.toNat (wr .i64 (x9.2.1 + 1))) (cut x1 (Int.toNat (wr .i64 (x9.2.1 + 1))) (Int.toNat (wr .i64 (x9.2.1 + 5)))), sl .ro ku8 A7 (Int.toNat (k3 : Int) - Int.toNat 1) (cut x1 (Int.toNat 1) (Int.toNat (x1.length : Int))), sl .ro ku8 A2 k3 x1] ++ F) _ := S.join
      obtain ⟨x19, h18, H⟩ := bd H
      refine r_call T Try.call28 rfl rfl (bytes_Equal.ok _ _ (cut x1 (Int.toNat (wr .i64 (x9.2.1 + 1))) (Int.toNat (wr .i64 (x9.2.1 + 5)))) x15 (S.sel (p := [sl .ro ku8 (slA A2 (Int.toNat (k3 : Int)) (Int.toNat (wr .i64 (x9.2.1 + 1))) 1) (Int.toNat (k3 : Int) - Int.toNat (wr .i64 (x9.2.1 + 1))) (cut x1 (Int.toNat (wr .i64 (x9.2.1 + 1))) (Int.toNat (wr .i64 (x9.2.1 + 5)))), sl .own ku8 A16 k17 x15]) (is := [3, 0]) rfl) _ h18) ?_
      rintro _ _ ⟨rfl, S⟩
      refine ⟨_, rfl, fun _ T => ?_⟩
      replace S : SL ([sl .ro ku8 (slA A2 (Int.toNat (k3 : Int)) (Int.toNat (wr .i64 (x9.2.1 + 1))) 1) (Int.toNat (k3 : Int) - Int.toNat (wr .i64 (x9.2.1 + 1))) (cut x1 (Int.toNat (wr .i64 (x9.2.1 + 1))) (Int.toNat (wr .i64 (x9.2.1 + 5)))), sl .own ku8 A16 k17 x15, sl .ro ku8 (slA A2 (Int.toNat (k3 : Int)) (Int.toNat 0) 1) (Int.toNat (k3 : Int) - Int.toNat 0) (cut x1 (Int.toNat 0) (Int.toNat (wr .i64 (x9.2.1 + 1)))), sl .ro ku8 (slA A2 (Int.toNat (k3 : Int)) (Int.toNat (wr .i64 (x9.2.1 + 5))) 1) (Int.toNat (k3 : Int) - Int.toNat (wr .i64 (x9.2.1 + 5))) (cut x1 (Int.toNat (wr .i64 (x9.2.1 + 5))) (Int.toNat (wr .i64 ((wr .i64 (x9.2.1 + 5)) + x9.1)))), sl .ro ku8 A7 (Int.toNat (k3 : Int) - Int.toNat 1) (cut x1 (Int.toNat 1) (Int.toNat (x1.length : Int))), sl .ro ku8 A2 k3 x1] ++ F) _ := S.join
      refine r_pv T rfl rfl fun _ T => ?_
      rcases ifE H with ⟨h20, H⟩ | ⟨h20, H⟩
      · refine cdT T rfl h20 ?_
        refine Gets.seq ?_
        refine rg ?_
        refine r_pv T rfl rfl fun _ T => ?_
        refine r_pv T rfl rfl fun _ T => ?_
        refine r_pv T rfl rfl fun _ T => ?_
        refine r_pv T rfl rfl fun _ T => ?_
        replace S := S.nil ku8 .own
        replace H := Option.some.inj H
        subst H
        exact rtn T Try.func35 rfl rfl ⟨none, 0, rfl, (S.only (p := [sl .own ku8 none 0 ([] : List Int), sl .ro ku8 A2 k3 x1]) [0, 5] rfl)⟩
      · refine cdF T rfl h20 ?_
        refine Gets.skip (Gets.seq ?_)
        obtain ⟨h21, H⟩ := ck H
        refine Gets.drawn (l := [sl .ro ku8 (slA A2 (Int.toNat (k3 : Int)) (Int.toNat (wr .i64 (x9.2.1 + 1))) 1) (Int.toNat (k3 : Int) - Int.toNat (wr .i64 (x9.2.1 + 1))) (cut x1 (Int.toNat (wr .i64 (x9.2.1 + 1))) (Int.toNat (wr .i64 (x9.2.1 + 5)))), sl .own ku8 A16 k17 x15, sl .ro ku8 (slA A2 (Int.toNat (k3 : Int)) (Int.toNat 0) 1) (Int.toNat (k3 : Int) - Int.toNat 0) (cut x1 (Int.toNat 0) (Int.toNat (wr .i64 (x9.2.1 + 1)))), sl .ro ku8 (slA A2 (Int.toNat (k3 : Int)) (Int.toNat (wr .i64 (x9.2.1 + 5))) 1) (Int.toNat (k3 : Int) - Int.toNat (wr .i64 (x9.2.1 + 5))) (cut x1 (Int.toNat (wr .i64 (x9.2.1 + 5))) (Int.toNat (wr .i64 ((wr .i64 (x9.2.1 + 5)) + x9.1)))), sl .ro ku8 A7 (Int.toNat (k3 : Int) - Int.toNat 1) (cut x1 (Int.toNat 1) (Int.toNat (x1.length : Int))), sl .ro ku8 A2 k3 x1]) (V := [some (.slice A2 x1.length k3, true), some (.pointer (some (eA A2 (Int.toNat 0 * 1))), true), some (.int .u8 (gi (0 : Int) x1 0), true), some (.slice (slA A2 (Int.toNat (k3 : Int)) (Int.toNat (wr .i64 (x9.2.1 + 5))) 1) ((cut x1 (Int.toNat (wr .i64 (x9.2.1 + 5))) (Int.toNat (wr .i64 ((wr .i64 (x9.2.1 + 5)) + x9.1)))).length) (Int.toNat (k3 : Int) - Int.toNat (wr .i64 (x9.2.1 + 5))), true), none, none, some (.int .i64 x9.2.1, true), some (.int .i64 (wr .i64 (x9.2.1 + 5)), true), some (.int .i64 x9.1, true), some (.int .i64 (wr .i64 ((wr .i64 (x9.2.1 + 5)) + x9.1)), true), none, none, none, none]) mixed T S rfl ?_
        refine stage (some 4) rfl rfl ⟨⟨_, [(0, .slice A2 x1.length k3)], rfl, ⟨.inr ⟨rfl, rfl⟩, trivial⟩, fun u a w T S => (by refine r_pv T rfl rfl fun _ T => ?_; exact ⟨rfl, T⟩)⟩, ⟨_, [(49, .slice A2 x1.length k3)], rfl, ⟨.inl ⟨0, rfl, rfl, rfl, rfl⟩, trivial⟩, fun u a w T S => (by refine r_ia (ix := 5) T S rfl rfl rfl rfl Try.runUnderlying24 Try.sizeOf5 (by decide) h21 rfl fun _ T => ?_; exact ⟨rfl, T⟩)⟩, ⟨_, [(50, .pointer (some (eA A2 (Int.toNat 0 * 1))))], rfl, ⟨.inl ⟨1, rfl, rfl, rfl, rfl⟩, trivial⟩, fun u a w T S => (by refine r_ldE (ix := 5) (i := 0) (off := 0) (f := (Value.int .u8)) T S rfl Try.isAgg5 rfl (0 : Int) _ rfl rfl (Fld.all _) (by decide) h21 (fun h => h) rfl fun _ T => ?_; exact ⟨rfl, T⟩)⟩, ⟨_, [(11, .slice (slA A2 (Int.toNat (k3 : Int)) (Int.toNat (wr .i64 (x9.2.1 + 5))) 1) ((cut x1 (Int.toNat (wr .i64 (x9.2.1 + 5))) (Int.toNat (wr .i64 ((wr .i64 (x9.2.1 + 5)) + x9.1)))).length) (Int.toNat (k3 : Int) - Int.toNat (wr .i64 (x9.2.1 + 5))))], rfl, ⟨.inr ⟨rfl, rfl⟩, trivial⟩, fun u a w T S => (by refine r_pv T rfl rfl fun _ T => ?_; exact ⟨rfl, T⟩)⟩, ⟨_, [(7, .int .i64 x9.2.1)], rfl, ⟨.inr ⟨rfl, rfl⟩, trivial⟩, fun u a w T S => (by refine r_pv T rfl rfl fun _ T => ?_; exact ⟨rfl, T⟩)⟩, ⟨_, [(55, .int .i64 x9.2.1)], rfl, ⟨.inl ⟨6, rfl, rfl, rfl, rfl⟩, trivial⟩, fun u a w T S => (by refine r_pv T rfl rfl fun _ T => ?_; exact ⟨rfl, T⟩)⟩, ⟨_, [(6, .int .i64 x9.1)], rfl, ⟨.inr ⟨rfl, rfl⟩, trivial⟩, fun u a w T S => (by refine r_pv T rfl rfl fun _ T => ?_; exact ⟨rfl, T⟩)⟩, ⟨_, [(56, .int .i64 (wr .i64 (x9.2.1 + 5))), (57, .int .i64 x9.1)], rfl, ⟨.inl ⟨7, rfl, rfl, rfl, rfl⟩, .inl ⟨8, rfl, rfl, rfl, rfl⟩, trivial⟩, fun u a w T S => (by refine r_pv T rfl rfl fun _ T => ?_; exact ⟨rfl, T⟩)⟩, trivial⟩ rfl (fun i hi => ?_) (fun h => by cases h)
        cases hi
        refine ⟨rfl, _, [(52, .slice (slA A2 (Int.toNat (k3 : Int)) (Int.toNat (wr .i64 (x9.2.1 + 5))) 1) ((cut x1 (Int.toNat (wr .i64 (x9.2.1 + 5))) (Int.toNat (wr .i64 ((wr .i64 (x9.2.1 + 5)) + x9.1)))).length) (Int.toNat (k3 : Int) - Int.toNat (wr .i64 (x9.2.1 + 5))))], rfl, ⟨.inl ⟨3, rfl, rfl, rfl, rfl⟩, trivial⟩, fun u a w T S => ?_⟩
        obtain ⟨x23, h22, H⟩ := bd H
        refine r_call T Try.call32 rfl rfl (bytes_Clone.ok _ _ (cut x1 (Int.toNat (wr .i64 (x9.2.1 + 5))) (Int.toNat (wr .i64 ((wr .i64 (x9.2.1 + 5)) + x9.1)))) (S.sel (p := [sl .ro ku8 (slA A2 (Int.toNat (k3 : Int)) (Int.toNat (wr .i64 (x9.2.1 + 5))) 1) (Int.toNat (k3 : Int) - Int.toNat (wr .i64 (x9.2.1 + 5))) (cut x1 (Int.toNat (wr .i64 (x9.2.1 + 5))) (Int.toNat (wr .i64 ((wr .i64 (x9.2.1 + 5)) + x9.1))))]) (is := [3]) rfl) _ h22) ?_
        rintro _ _ ⟨A24, k25, rfl, S⟩
        refine ⟨_, rfl, fun _ T => ?_⟩
        replace S : SL ([sl .own ku8 A24 k25 x23, sl .ro ku8 (slA A2 (Int.toNat (k3 : Int)) (Int.toNat (wr .i64 (x9.2.1 + 5))) 1) (Int.toNat (k3 : Int) - Int.toNat (wr .i64 (x9.2.1 + 5))) (cut x1 (Int.toNat (wr .i64 (x9.2.1 + 5))) (Int.toNat (wr .i64 ((wr .i64 (x9.2.1 + 5)) + x9.1)))), sl .ro ku8 (slA A2 (Int.toNat (k3 : Int)) (Int.toNat (wr .i64 (x9.2.1 + 1))) 1) (Int.toNat (k3 : Int) - Int.toNat (wr .i64 (x9.2.1 + 1))) (cut x1 (Int.toNat (wr .i64 (x9.2.1 + 1))) (Int.toNat (wr .i64 (x9.2.1 + 5)))), sl .own ku8 A16 k17 x15, sl .ro ku8 (slA A2 (Int.toNat (k3 : Int)) (Int.toNat 0) 1) (Int.toNat (k3 : Int) - Int.toNat 0) (cut x1 (Int.toNat 0) (Int.toNat (wr .i64 (x9.2.1 + 1)))), sl .ro ku8 A7 (Int.toNat (k3 : Int) - Int.toNat 1) (cut x1 (Int.toNat 1) (Int.toNat (x1.length : Int))), sl .ro ku8 A2 k3 x1] ++ F) _ := S.join
        refine ⟨_, [some (.slice A2 x1.length k3, true), some (.pointer (some (eA A2 (Int.toNat 0 * 1))), true), some (.int .u8 (gi (0 : Int) x1 0), true), some (.slice (slA A2 (Int.toNat (k3 : Int)) (Int.toNat (wr .i64 (x9.2.1 + 5))) 1) ((cut x1 (Int.toNat (wr .i64 (x9.2.1 + 5))) (Int.toNat (wr .i64 ((wr .i64 (x9.2.1 + 5)) + x9.1)))).length) (Int.toNat (k3 : Int) - Int.toNat (wr .i64 (x9.2.1 + 5))), false), some (.slice A24 x23.length k25, false), none, some (.int .i64 x9.2.1, true), some (.int .i64 (wr .i64 (x9.2.1 + 5)), true), some (.int .i64 x9.1, true), some (.int .i64 (wr .i64 ((wr .i64 (x9.2.1 + 5)) + x9.1)), true), none, none, none, none], [sl .own ku8 A24 k25 x23, sl .ro ku8 (slA A2 (Int.toNat (k3 : Int)) (Int.toNat (wr .i64 (x9.2.1 + 5))) 1) (Int.toNat (k3 : Int) - Int.toNat (wr .i64 (x9.2.1 + 5))) (cut x1 (Int.toNat (wr .i64 (x9.2.1 + 5))) (Int.toNat (wr .i64 ((wr .i64 (x9.2.1 + 5)) + x9.1)))), sl .ro ku8 (slA A2 (Int.toNat (k3 : Int)) (Int.toNat (wr .i64 (x9.2.1 + 1))) 1) (Int.toNat (k3 : Int) - Int.toNat (wr .i64 (x9.2.1 + 1))) (cut x1 (Int.toNat (wr .i64 (x9.2.1 + 1))) (Int.toNat (wr .i64 (x9.2.1 + 5)))), sl .own ku8 A16 k17 x15, sl .ro ku8 (slA A2 (Int.toNat (k3 : Int)) (Int.toNat 0) 1) (Int.toNat (k3 : Int) - Int.toNat 0) (cut x1 (Int.toNat 0) (Int.toNat (wr .i64 (x9.2.1 + 1)))), sl .ro ku8 A7 (Int.toNat (k3 : Int) - Int.toNat 1) (cut x1 (Int.toNat 1) (Int.toNat (x1.length : Int))), sl .ro ku8 A2 k3 x1], rfl, ⟨.inr ⟨_, _, _, rfl, rfl⟩, .inr ⟨_, _, _, rfl, rfl⟩, .inr ⟨_, _, _, rfl, rfl⟩, .inr ⟨_, _, _, rfl, rfl⟩, .inl rfl, .inl rfl, .inr ⟨_, _, _, rfl, rfl⟩, .inr ⟨_, _, _, rfl, rfl⟩, .inr ⟨_, _, _, rfl, rfl⟩, .inr ⟨_, _, _, rfl, rfl⟩, .inl rfl, .inl rfl, .inl rfl, .inl rfl, trivial⟩, rfl, ?_, T, S⟩
        refine stage (some 5) rfl rfl ⟨⟨_, [(0, .slice A2 x1.length k3)], rfl, ⟨.inr ⟨rfl, rfl⟩, trivial⟩, fun u a w T S => (by refine r_pv T rfl rfl fun _ T => ?_; exact ⟨rfl, T⟩)⟩, ⟨_, [(49, .slice A2 x1.length k3)], rfl, ⟨.inl ⟨0, rfl, rfl, rfl, rfl⟩, trivial⟩, fun u a w T S => (by refine r_ia (ix := 6) T S rfl rfl rfl rfl Try.runUnderlying24 Try.sizeOf5 (by decide) h21 rfl fun _ T => ?_; exact ⟨rfl, T⟩)⟩, ⟨_, [(50, .pointer (some (eA A2 (Int.toNat 0 * 1))))], rfl, ⟨.inl ⟨1, rfl, rfl, rfl, rfl⟩, trivial⟩, fun u a w T S => (by refine r_ldE (ix := 6) (i := 0) (off := 0) (f := (Value.int .u8)) T S rfl Try.isAgg5 rfl (0 : Int) _ rfl rfl (Fld.all _) (by decide) h21 (fun h => h) rfl fun _ T => ?_; exact ⟨rfl, T⟩)⟩, ⟨_, [(7, .int .i64 x9.2.1)], rfl, ⟨.inr ⟨rfl, rfl⟩, trivial⟩, fun u a w T S => (by refine r_pv T rfl rfl fun _ T => ?_; exact ⟨rfl, T⟩)⟩, ⟨_, [(55, .int .i64 x9.2.1)], rfl, ⟨.inl ⟨6, rfl, rfl, rfl, rfl⟩, trivial⟩, fun u a w T S => (by refine r_pv T rfl rfl fun _ T => ?_; exact ⟨rfl, T⟩)⟩, ⟨_, [(6, .int .i64 x9.1)], rfl, ⟨.inr ⟨rfl, rfl⟩, trivial⟩, fun u a w T S => (by refine r_pv T rfl rfl fun _ T => ?_; exact ⟨rfl, T⟩)⟩, ⟨_, [(56, .int .i64 (wr .i64 (x9.2.1 + 5))), (57, .int .i64 x9.1)], rfl, ⟨.inl ⟨7, rfl, rfl, rfl, rfl⟩, .inl ⟨8, rfl, rfl, rfl, rfl⟩, trivial⟩, fun u a w T S => (by refine r_pv T rfl rfl fun _ T => ?_; exact ⟨rfl, T⟩)⟩, trivial⟩ rfl (fun i hi => ?_) (fun h => by cases h)
        cases hi
        refine ⟨rfl, _, [(53, .slice A24 x23.length k25)], rfl, ⟨.inl ⟨4, rfl, rfl, rfl, rfl⟩, trivial⟩, fun u a w T S => ?_⟩
        obtain ⟨x27, h26, H⟩ := bd H
        refine r_call T Try.call31 rfl rfl (slices_Clip_byte.ok _ _ x23 (S.sel (p := [sl .own ku8 A24 k25 x23]) (is := [0]) rfl) _ h26) ?_
        rintro _ _ ⟨A28, rfl, S⟩
        refine ⟨_, rfl, fun _ T => ?_⟩
        replace S : SL ([sl .own ku8 A28 x27.length x27, sl .ro ku8 (slA A2 (Int.toNat (k3 : Int)) (Int.toNat (wr .i64 (x9.2.1 + 5))) 1) (Int.toNat (k3 : Int) - Int.toNat (wr .i64 (x9.2.1 + 5))) (cut x1 (Int.toNat (wr .i64 (x9.2.1 + 5))) (Int.toNat (wr .i64 ((wr .i64 (x9.2.1 + 5)) + x9.1)))), sl .ro ku8 (slA A2 (Int.toNat (k3 : Int)) (Int.toNat (wr .i64 (x9.2.1 + 1))) 1) (Int.toNat (k3 : Int) - Int.toNat (wr .i64 (x9.2.1 + 1))) (cut x1 (Int.toNat (wr .i64 (x9.2.1 + 1))) (Int.toNat (wr .i64 (x9.2.1 + 5)))), sl .own ku8 A16 k17 x15, sl .ro ku8 (slA A2 (Int.toNat (k3 : Int)) (Int.toNat 0) 1) (Int.toNat (k3 : Int) - Int.toNat 0) (cut x1 (Int.toNat 0) (Int.toNat (wr .i64 (x9.2.1 + 1)))), sl .ro ku8 A7 (Int.toNat (k3 : Int) - Int.toNat 1) (cut x1 (Int.toNat 1) (Int.toNat (x1.length : Int))), sl .ro ku8 A2 k3 x1] ++ F) _ := S.join
        refine ⟨_, [some (.slice A2 x1.length k3, true), some (.pointer (some (eA A2 (Int.toNat 0 * 1))), true), some (.int .u8 (gi (0 : Int) x1 0), true), some (.slice (slA A2 (Int.toNat (k3 : Int)) (Int.toNat (wr .i64 (x9.2.1 + 5))) 1) ((cut x1 (Int.toNat (wr .i64 (x9.2.1 + 5))) (Int.toNat (wr .i64 ((wr .i64 (x9.2.1 + 5)) + x9.1)))).length) (Int.toNat (k3 : Int) - Int.toNat (wr .i64 (x9.2.1 + 5))), false), some (.slice A24 x23.length k25, false), some (.slice A28 x27.length x27.length, false), some (.int .i64 x9.2.1, true), some (.int .i64 (wr .i64 (x9.2.1 + 5)), true), some (.int .i64 x9.1, true), some (.int .i64 (wr .i64 ((wr .i64 (x9.2.1 + 5)) + x9.1)), true), some (.int .u8 (gi (0 : Int) x1 0), true), some (.slice A28 x27.length x27.length, true), some (.int .i64 (wr .i64 ((wr .i64 (x9.2.1 + 5)) + x9.1)), true), some (.int .i64 0, true)], [sl .own ku8 A28 x27.length x27, sl .ro ku8 (slA A2 (Int.toNat (k3 : Int)) (Int.toNat (wr .i64 (x9.2.1 + 5))) 1) (Int.toNat (k3 : Int) - Int.toNat (wr .i64 (x9.2.1 + 5))) (cut x1 (Int.toNat (wr .i64 (x9.2.1 + 5))) (Int.toNat (wr .i64 ((wr .i64 (x9.2.1 + 5)) + x9.1)))), sl .ro ku8 (slA A2 (Int.toNat (k3 : Int)) (Int.toNat (wr .i64 (x9.2.1 + 1))) 1) (Int.toNat (k3 : Int) - Int.toNat (wr .i64 (x9.2.1 + 1))) (cut x1 (Int.toNat (wr .i64 (x9.2.1 + 1))) (Int.toNat (wr .i64 (x9.2.1 + 5)))), sl .own ku8 A16 k17 x15, sl .ro ku8 (slA A2 (Int.toNat (k3 : Int)) (Int.toNat 0) 1) (Int.toNat (k3 : Int) - Int.toNat 0) (cut x1 (Int.toNat 0) (Int.toNat (wr .i64 (x9.2.1 + 1)))), sl .ro ku8 A7 (Int.toNat (k3 : Int) - Int.toNat 1) (cut x1 (Int.toNat 1) (Int.toNat (x1.length : Int))), sl .ro ku8 A2 k3 x1], rfl, ⟨.inr ⟨_, _, _, rfl, rfl⟩, .inr ⟨_, _, _, rfl, rfl⟩, .inr ⟨_, _, _, rfl, rfl⟩, .inr ⟨_, _, _, rfl, rfl⟩, .inr ⟨_, _, _, rfl, rfl⟩, .inl rfl, .inr ⟨_, _, _, rfl, rfl⟩, .inr ⟨_, _, _, rfl, rfl⟩, .inr ⟨_, _, _, rfl, rfl⟩, .inr ⟨_, _, _, rfl, rfl⟩, .inl rfl, .inl rfl, .inl rfl, .inl rfl, trivial⟩, rfl, ?_, T, S⟩
        refine stage none rfl rfl ⟨⟨_, [(0, .slice A2 x1.length k3)], rfl, ⟨.inr ⟨rfl, rfl⟩, trivial⟩, fun u a w T S => (by refine r_pv T rfl rfl fun _ T => ?_; exact ⟨rfl, T⟩)⟩, ⟨_, [(49, .slice A2 x1.length k3)], rfl, ⟨.inl ⟨0, rfl, rfl, rfl, rfl⟩, trivial⟩, fun u a w T S => (by refine r_ia (ix := 6) T S rfl rfl rfl rfl Try.runUnderlying24 Try.sizeOf5 (by decide) h21 rfl fun _ T => ?_; exact ⟨rfl, T⟩)⟩, ⟨_, [(50, .pointer (some (eA A2 (Int.toNat 0 * 1))))], rfl, ⟨.inl ⟨1, rfl, rfl, rfl, rfl⟩, trivial⟩, fun u a w T S => (by refine r_ldE (ix := 6) (i := 0) (off := 0) (f := (Value.int .u8)) T S rfl Try.isAgg5 rfl (0 : Int) _ rfl rfl (Fld.all _) (by decide) h21 (fun h => h) rfl fun _ T => ?_; exact ⟨rfl, T⟩)⟩, ⟨_, [(7, .int .i64 x9.2.1)], rfl, ⟨.inr ⟨rfl, rfl⟩, trivial⟩, fun u a w T S => (by refine r_pv T rfl rfl fun _ T => ?_; exact ⟨rfl, T⟩)⟩, ⟨_, [(55, .int .i64 x9.2.1)], rfl, ⟨.inl ⟨6, rfl, rfl, rfl, rfl⟩, trivial⟩, fun u a w T S => (by refine r_pv T rfl rfl fun _ T => ?_; exact ⟨rfl, T⟩)⟩, ⟨_, [(6, .int .i64 x9.1)], rfl, ⟨.inr ⟨rfl, rfl⟩, trivial⟩, fun u a w T S => (by refine r_pv T rfl rfl fun _ T => ?_; exact ⟨rfl, T⟩)⟩, ⟨_, [(56, .int .i64 (wr .i64 (x9.2.1 + 5))), (57, .int .i64 x9.1)], rfl, ⟨.inl ⟨7, rfl, rfl, rfl, rfl⟩, .inl ⟨8, rfl, rfl, rfl, rfl⟩, trivial⟩, fun u a w T S => (by refine r_pv T rfl rfl fun _ T => ?_; exact ⟨rfl, T⟩)⟩, ⟨_, [(51, .int .u8 (gi (0 : Int) x1 0))], rfl, ⟨.inl ⟨2, rfl, rfl, rfl, rfl⟩, trivial⟩, fun u a w T S => (by refine r_pv T rfl rfl fun _ T => ?_; exact ⟨rfl, T⟩)⟩, ⟨_, [(54, .slice A28 x27.length x27.length)], rfl, ⟨.inl ⟨5, rfl, rfl, rfl, rfl⟩, trivial⟩, fun u a w T S => (by refine r_pv T rfl rfl fun _ T => ?_; exact ⟨rfl, T⟩)⟩, ⟨_, [(58, .int .i64 (wr .i64 ((wr .i64 (x9.2.1 + 5)) + x9.1)))], rfl, ⟨.inl ⟨9, rfl, rfl, rfl, rfl⟩, trivial⟩, fun u a w T S => (by refine r_pv T rfl rfl fun _ T => ?_; exact ⟨rfl, T⟩)⟩, ⟨_, [], rfl, trivial, fun u a w T S => (by refine r_pv T rfl rfl fun _ T => ?_; exact ⟨rfl, T⟩)⟩, trivial⟩ rfl (fun i hi => by cases hi) (fun _ _ a w T hv hb S => ?_)
        replace T := T.sub (r := [(2, .int .u8 (gi (0 : Int) x1 0)), (3, .slice A28 x27.length x27.length), (4, .int .i64 (wr .i64 ((wr .i64 (x9.2.1 + 5)) + x9.1))), (5, .int .i64 0)]) ⟨hv 10 _ 2 rfl rfl rfl, hv 11 _ 3 rfl rfl rfl, hv 12 _ 4 rfl rfl rfl, hv 13 _ 5 rfl rfl rfl, trivial⟩
        replace H := Option.some.inj H
        subst H
        exact rtn T Try.func35 rfl rfl ⟨A28, x27.length, rfl, (S.only (p := [sl .own ku8 A28 x27.length x27, sl .ro ku8 A2 k3 x1]) [0, 5] rfl)⟩
end codec_TakeFrame
end Go.Proofs.Ytghpokmkhlmgcaa

namespace Go.Proofs.Ytghpokmkhlmgcaa
open Go Go.Proofs.Ytghpokmkhlmgcaa.X
set_option linter.unusedVariables false
set_option linter.unusedSimpArgs false
set_option maxRecDepth 100000
set_option maxHeartbeats 4000000
/-! ### slices.Grow[[]byte,byte]: function 83 -/
namespace slices_Grow_byte
noncomputable def c0 : Code := match Try.f83.body with | some c => c | none => .skip
def R (F : List Atom) (r : (List Int)) : Ending → World → Prop := fun e w' => ∃ (A16 : Option Addr), ∃ (k17 : Nat), e = .returned (.slice A16 r.length k17) ∧ SL ([sl .own ku8 A16 k17 r] ++ F) w'
def J0 (x13 : List Int) : Option (List Int) := some x13
def f (x1 : Int) : Option (List Int) := If (decide (x1 < 0)) (none) (If (decide ((wr .i64 (x1 - (wr .i64 ((0 : Int) - (0 : Int))))) > 0)) (Ck (0 ≤ (0 : Int) ∧ (0 : Int) ≤ (([] : List Int).length : Int)) (Ck (0 < wr .i64 (x1 - (wr .i64 ((0 : Int) - (0 : Int)))) ∧ (wr .i64 (x1 - (wr .i64 ((0 : Int) - (0 : Int))))) * 1 ≤ 140737488355328) (Ck ((0 : Int) ≤ ((List.replicate (Int.toNat (wr .i64 (x1 - (wr .i64 ((0 : Int) - (0 : Int)))))) (0 : Int)).length : Int)) (J0 (cut (List.replicate (Int.toNat (wr .i64 (x1 - (wr .i64 ((0 : Int) - (0 : Int)))))) (0 : Int)) (Int.toNat 0) (Int.toNat (0 : Int))))))) (J0 []))
noncomputable def ptJ0 : List Item := [.code (cL (cR (cR (cR c0)))), .code (cR (cR (cR (cR c0))))]
theorem J0_ok (F : List Atom) (r : (List Int)) (x1 : Int) (A14 : Option Addr) (x13 : List Int) (k15 : Nat) (a : Act) (w : World) (T : Tm 27 [(0, .slice A14 x13.length k15)] a) (S : SL ([sl .own ku8 A14 k15 x13] ++ F) w) (H : J0 x13 = some r) : Gets Try.prog 83 ptJ0 a w (R F r) := by
  refine rg ?_
  refine r_pv T rfl rfl fun _ T => ?_
  refine r_pv T rfl rfl fun _ T => ?_
  replace H := Option.some.inj H
  subst H
  exact rtn T Try.func83 rfl rfl ⟨A14, k15, rfl, (S.only (p := [sl .own ku8 A14 k15 x13]) [0] rfl)⟩
theorem ok (F : List Atom) (w : World) (x1 : Int) (S : SL ([] ++ F) w) (r : (List Int)) (H : f x1 = some r) : Calls Try.prog 83 #[.slice none 0 0, .int .i64 x1] w (R F r) := by
  refine enter (vs := [.slice none 0 0, .int .i64 x1]) Try.func83 rfl Try.ntmps83 (Nat.le_of_ble_eq_true rfl) fun a T => ?_
  refine Gets.seq ?_
  refine rg ?_
  refine r_pv T rfl rfl fun _ T => ?_
  refine Gets.seq (Gets.seq ?_)
  refine rg ?_
  refine r_pv T rfl rfl fun _ T => ?_
  refine r_pv T rfl rfl fun _ T => ?_
  rcases ifE H with ⟨h2, H⟩ | ⟨h2, H⟩
  · refine cdT T rfl h2 ?_
    cases H
  · refine cdF T rfl h2 ?_
    refine Gets.skip (Gets.seq (Gets.seq ?_))
    refine rg ?_
    refine r_pv T rfl rfl fun _ T => ?_
    refine r_pv T rfl rfl fun _ T => ?_
    refine r_capS T rfl Try.runUnderlying24 rfl fun _ T => ?_
    refine r_pv T rfl rfl fun _ T => ?_
    refine r_lenS T rfl Try.runUnderlying24 rfl fun _ T => ?_
    refine r_pv T rfl rfl fun _ T => ?_
    refine r_pv T rfl rfl fun _ T => ?_
    refine r_pv T rfl rfl fun _ T => ?_
    refine Gets.seq ?_
    refine rg ?_
    refine r_pv T rfl rfl fun _ T => ?_
    refine r_pv T rfl rfl fun _ T => ?_
    rcases ifE H with ⟨h3, H⟩ | ⟨h3, H⟩
    · refine cdT T rfl h3 ?_
      refine rg ?_
      refine r_pv T rfl rfl fun _ T => ?_
      refine r_pv T rfl rfl fun _ T => ?_
      refine r_capS T rfl Try.runUnderlying24 rfl fun _ T => ?_
      replace S := S.nil ku8 .ro
      have h4 := S.len (i := 0) rfl
      obtain ⟨h5, H⟩ := ck H
      refine r_slR (ix := 0) (xs := ([] : List Int)) T S rfl rfl (fun h => by cases h) rfl rfl rfl (Int.le_refl _) h5.1 h5.2 (by omega) (by omega) Try.runUnderlying24 Try.sizeOf5 rfl fun _ A6 S T => ?_
      replace T := T.re (s := 20) (v' := .slice A6 0 0) rfl (by simp [cut])
      refine r_pv T rfl rfl fun _ T => ?_
      obtain ⟨h7, H⟩ := ck H
      refine r_appZ (κ := ku8) T S rfl rfl sty24 (0 : Int) (fun _ => rfl) Try.runUnderlying3 (by decide) h7.1 h7.2 rfl fun _ _ b8 k9 S T => ?_
      replace T := T.re (s := 22) (v' := .slice (some ⟨b8, 0, none⟩) (List.replicate (Int.toNat (wr .i64 (x1 - (wr .i64 ((0 : Int) - (0 : Int)))))) (0 : Int)).length k9) rfl (by simp)
      refine r_pv T rfl rfl fun _ T => ?_
      refine r_lenS T rfl Try.runUnderlying24 rfl fun _ T => ?_
      have h10 := S.len (i := 0) rfl
      obtain ⟨h11, H⟩ := ck H
      refine r_slO (ix := 0) (xs := (List.replicate (Int.toNat (wr .i64 (x1 - (wr .i64 ((0 : Int) - (0 : Int)))))) (0 : Int))) T S rfl rfl (fun h => by cases h) rfl rfl rfl (Int.le_refl _) h5.1 h11 (by have := h11; omega) (by omega) Try.runUnderlying24 Try.sizeOf5 rfl fun _ A12 S T => ?_
      replace S : SL ([sl .own ku8 A12 (Int.toNat (k9 : Int) - Int.toNat 0) (cut (List.replicate (Int.toNat (wr .i64 (x1 - (wr .i64 ((0 : Int) - (0 : Int)))))) (0 : Int)) (Int.toNat 0) (Int.toNat (0 : Int))), sl .ro ku8 A6 (Int.toNat (0 : Int) - Int.toNat 0) (cut ([] : List Int) (Int.toNat 0) (Int.toNat (0 : Int))), sl .ro ku8 none 0 ([] : List Int)] ++ F) _ := S
      refine r_pv T rfl rfl fun _ T => ?_
      refine Gets.seq ?_
      exact J0_ok F r x1 A12 (cut (List.replicate (Int.toNat (wr .i64 (x1 - (wr .i64 ((0 : Int) - (0 : Int)))))) (0 : Int)) (Int.toNat 0) (Int.toNat (0 : Int))) (Int.toNat (k9 : Int) - Int.toNat 0) _ _ (T.sub ⟨rfl, trivial⟩) (S.only (p := [sl .own ku8 A12 (Int.toNat (k9 : Int) - Int.toNat 0) (cut (List.replicate (Int.toNat (wr .i64 (x1 - (wr .i64 ((0 : Int) - (0 : Int)))))) (0 : Int)) (Int.toNat 0) (Int.toNat (0 : Int)))]) [0] rfl) H
    · refine cdF T rfl h3 ?_
      refine Gets.skip (Gets.seq ?_)
      replace S := S.nil ku8 .own
      exact J0_ok F r x1 none [] 0 _ _ (T.sub ⟨rfl, trivial⟩) (S.only (p := [sl .own ku8 none 0 []]) [0] rfl) H
end slices_Grow_byte
end Go.Proofs.Ytghpokmkhlmgcaa

namespace Go.Proofs.Ytghpokmkhlmgcaa
open Go Go.Proofs.Ytghpokmkhlmgcaa.X
set_option linter.unusedVariables false
set_option linter.unusedSimpArgs false
set_option maxRecDepth 100000
set_option maxHeartbeats 4000000
/-! ### slices.Concat[[]byte,byte]: function 58 -/
namespace slices_Concat_byte
noncomputable def c0 : Code := match Try.f58.body with | some c => c | none => .skip
def R (F : List Atom) (x1 : List (List Int)) (A2 : Option Addr) (k3 : Nat) (m4 : Md) (r : (List Int)) : Ending → World → Prop := fun e w' => ∃ (A27 : Option Addr), ∃ (k28 : Nat), e = .returned (.slice A27 r.length k28) ∧ SL ([sl .own ku8 A27 k28 r, sl m4 (kSl ku8) A2 k3 x1] ++ F) w'
def L1 (z : Nat) (x1 : List (List Int)) : Nat → (List Int) → Int → Option (List Int)
  | 0, _, _ => none
  | m + 1, x12, x15 => If (decide (x15 < (x1.length : Int))) (Ck (0 ≤ x15 ∧ x15 < (x1.length : Int)) (Ck ((x12.length + (gi [] x1 x15).length) * 1 ≤ 140737488355328) (L1 z x1 m (x12 ++ (gi [] x1 x15)) (wr .i64 (x15 + 1))))) (some x12)
def L0 (z : Nat) (x1 : List (List Int)) : Nat → Int → Int → Option (List Int)
  | 0, _, _ => none
  | m + 1, x5, x6 => If (decide (x6 < (x1.length : Int))) (Ck (0 ≤ x6 ∧ x6 < (x1.length : Int)) (If (decide ((wr .i64 (x5 + ((gi [] x1 x6).length : Int))) < 0)) (none) (L0 z x1 m (wr .i64 (x5 + ((gi [] x1 x6).length : Int))) (wr .i64 (x6 + 1))))) (Bd (slices_Grow_byte.f x5) fun x9 => L1 z x1 z x9 0)
def f (z : Nat) (x1 : List (List Int)) : Option (List Int) := L0 z x1 z 0 0
noncomputable def ptL1 : List Item := [.code (cB (cB (cR (cL (cR (cR (cR (cR c0)))))))), .inLoop (cB (cB (cR (cL (cR (cR (cR (cR c0)))))))), .inBlock 2, .code (cR (cR (cR (cR (cR c0)))))]
noncomputable def ptL0 : List Item := [.code (cB (cB (cR (cL (cR (cR c0)))))), .inLoop (cB (cB (cR (cL (cR (cR c0)))))), .inBlock 0, .code (cR (cR (cR c0)))]
theorem L1_ok (F : List Atom) (r : (List Int)) (z : Nat) (x1 : List (List Int)) (A2 : Option Addr) (k3 : Nat) (m4 : Md) (m : Nat) : ∀ (A13 : Option Addr) (x12 : List Int) (k14 : Nat) (x15 : Int) (a : Act) (w : World), Tm 36 [(6, .slice A13 x12.length k14), (25, .slice A2 x1.length k3), (26, .int .i64 (x1.length : Int)), (27, .int .i64 x15)] a → SL ([sl m4 (kSl ku8) A2 k3 x1, sl .own ku8 A13 k14 x12] ++ F) w → L1 z x1 m x12 x15 = some r → Gets Try.prog 58 ptL1 a w (R F x1 A2 k3 m4 r) := by
  induction m with
  | zero => intro _ _ _ _ _ _ _ _ H; cases H
  | succ m ih =>
    intro A13 x12 k14 x15 a w T S H
    refine Gets.seq ?_
    refine rg ?_
    refine r_pv T rfl rfl fun _ T => ?_
    refine Gets.seq ?_
    rcases ifE H with ⟨h16, H⟩ | ⟨h16, H⟩
    · refine cdT T rfl h16 ?_
      refine Gets.skip (Gets.seq (Gets.block (Gets.seq ?_)))
      refine rg ?_
      obtain ⟨h17, H⟩ := ck H
      refine r_ia (ix := 0) T S rfl rfl rfl rfl Try.runUnderlying62 Try.sizeOf24 h17.1 h17.2 rfl fun _ T => ?_
      refine r_ldR (ix := 0) (i := x15) (off := 0) T S rfl Try.isAgg24 rfl [] _ rfl rfl (Fld.all _) h17.1 h17.2 rfl rfl fun _ _ S T => ?_
      obtain ⟨A18, k19, hv_, S_⟩ := S.ofVal
      subst hv_
      replace S := S_
      refine r_pv T rfl rfl fun _ T => ?_
      refine rg ?_
      refine r_pv T rfl rfl fun _ T => ?_
      refine r_pv T rfl rfl fun _ T => ?_
      obtain ⟨h22, H⟩ := ck H
      refine r_app (ix := 2) (iy := 0) (xs := x12) (ys := (gi [] x1 x15)) T S rfl rfl rfl rfl (by decide) sty24 Try.runUnderlying24 (by decide) h22 rfl fun _ _ A20 k21 S T => ?_
      replace S : SL ([sl .ro ku8 A18 k19 (gi [] x1 x15), sl m4 (kSl ku8) A2 k3 x1, sl .own ku8 A20 k21 (x12 ++ (gi [] x1 x15))] ++ F) _ := S
      refine r_pv T rfl rfl fun _ T => ?_
      refine Gets.inBlock ?_
      refine rg ?_
      refine r_pv T rfl rfl fun _ T => ?_
      refine r_pv T rfl rfl fun _ T => ?_
      refine Gets.inLoop ?_
      exact ih A20 (x12 ++ (gi [] x1 x15)) k21 (wr .i64 (x15 + 1)) _ _ (T.sub ⟨rfl, rfl, rfl, rfl, trivial⟩) (S.only (p := [sl m4 (kSl ku8) A2 k3 x1, sl .own ku8 A20 k21 (x12 ++ (gi [] x1 x15))]) [1, 1] rfl) H
    · refine cdF T rfl h16 ?_
      refine Gets.exit rfl (Gets.seq ?_)
      refine rg ?_
      refine r_pv T rfl rfl fun _ T => ?_
      refine r_pv T rfl rfl fun _ T => ?_
      replace H := Option.some.inj H
      subst H
      exact rtn T Try.func58 rfl rfl ⟨A13, k14, rfl, (S.only (p := [sl .own ku8 A13 k14 x12, sl m4 (kSl ku8) A2 k3 x1]) [1, 0] rfl)⟩
theorem L0_ok (F : List Atom) (r : (List Int)) (z : Nat) (x1 : List (List Int)) (A2 : Option Addr) (k3 : Nat) (m4 : Md) (m : Nat) : ∀ (x5 : Int) (x6 : Int) (a : Act) (w : World), Tm 36 [(0, .slice A2 x1.length k3), (3, .int .i64 x5), (9, .slice A2 x1.length k3), (10, .int .i64 (x1.length : Int)), (11, .int .i64 x6)] a → SL ([sl m4 (kSl ku8) A2 k3 x1] ++ F) w → L0 z x1 m x5 x6 = some r → Gets Try.prog 58 ptL0 a w (R F x1 A2 k3 m4 r) := by
  induction m with
  | zero => intro _ _ _ _ _ _ H; cases H
  | succ m ih =>
    intro x5 x6 a w T S H
    refine Gets.seq ?_
    refine rg ?_
    refine r_pv T rfl rfl fun _ T => ?_
    refine Gets.seq ?_
    rcases ifE H with ⟨h7, H⟩ | ⟨h7, H⟩
    · refine cdT T rfl h7 ?_
      refine Gets.skip (Gets.seq (Gets.block (Gets.seq ?_)))
      refine rg ?_
      obtain ⟨h23, H⟩ := ck H
      refine r_ia (ix := 0) T S rfl rfl rfl rfl Try.runUnderlying62 Try.sizeOf24 h23.1 h23.2 rfl fun _ T => ?_
      refine r_ldR (ix := 0) (i := x6) (off := 0) T S rfl Try.isAgg24 rfl [] _ rfl rfl (Fld.all _) h23.1 h23.2 rfl rfl fun _ _ S T => ?_
      obtain ⟨A24, k25, hv_, S_⟩ := S.ofVal
      subst hv_
      replace S := S_
      refine r_pv T rfl rfl fun _ T => ?_
      refine Gets.seq ?_
      refine rg ?_
      refine r_pv T rfl rfl fun _ T => ?_
      refine r_pv T rfl rfl fun _ T => ?_
      refine r_lenS T rfl Try.runUnderlying24 rfl fun _ T => ?_
      refine r_pv T rfl rfl fun _ T => ?_
      refine r_pv T rfl rfl fun _ T => ?_
      refine Gets.seq ?_
      refine rg ?_
      refine r_pv T rfl rfl fun _ T => ?_
      refine r_pv T rfl rfl fun _ T => ?_
      rcases ifE H with ⟨h26, H⟩ | ⟨h26, H⟩
      · refine cdT T rfl h26 ?_
        cases H
      · refine cdF T rfl h26 ?_
        refine Gets.skip (Gets.inBlock ?_)
        refine rg ?_
        refine r_pv T rfl rfl fun _ T => ?_
        refine r_pv T rfl rfl fun _ T => ?_
        refine Gets.inLoop ?_
        exact ih (wr .i64 (x5 + ((gi [] x1 x6).length : Int))) (wr .i64 (x6 + 1)) _ _ (T.sub ⟨rfl, rfl, rfl, rfl, rfl, trivial⟩) (S.only (p := [sl m4 (kSl ku8) A2 k3 x1]) [1] rfl) H
    · refine cdF T rfl h7 ?_
      refine Gets.exit rfl (Gets.seq ?_)
      refine rg ?_
      refine r_pv T rfl rfl fun _ T => ?_
      obtain ⟨x9, h8, H⟩ := bd H
      refine r_call T Try.call83 rfl rfl (slices_Grow_byte.ok _ _ x5 (S.sel (p := []) (is := []) rfl) _ h8) ?_
      rintro _ _ ⟨A10, k11, rfl, S⟩
      refine ⟨_, rfl, fun _ T => ?_⟩
      replace S : SL ([sl .own ku8 A10 k11 x9, sl m4 (kSl ku8) A2 k3 x1] ++ F) _ := S.join
      refine r_pv T rfl rfl fun _ T => ?_
      refine Gets.seq (Gets.seq ?_)
      refine rg ?_
      refine r_pv T rfl rfl fun _ T => ?_
      refine r_lenS T rfl Try.runUnderlying62 rfl fun _ T => ?_
      refine r_pv T rfl rfl fun _ T => ?_
      refine Gets.block ?_
      refine Gets.loop ?_
      exact L1_ok F r z x1 A2 k3 m4 z A10 x9 k11 0 _ _ (T.sub ⟨rfl, rfl, rfl, rfl, trivial⟩) (S.only (p := [sl m4 (kSl ku8) A2 k3 x1, sl .own ku8 A10 k11 x9]) [1, 0] rfl) H
theorem ok (F : List Atom) (w : World) (z : Nat) (x1 : List (List Int)) {A2 : Option Addr} {k3 : Nat} {m4 : Md} (S : SL ([sl m4 (kSl ku8) A2 k3 x1] ++ F) w) (r : (List Int)) (H : f z x1 = some r) : Calls Try.prog 58 #[.slice A2 x1.length k3] w (R F x1 A2 k3 m4 r) := by
  refine enter (vs := [.slice A2 x1.length k3]) Try.func58 rfl Try.ntmps58 (Nat.le_of_ble_eq_true rfl) fun a T => ?_
  refine Gets.seq ?_
  refine rg ?_
  refine r_pv T rfl rfl fun _ T => ?_
  refine Gets.seq ?_
  refine rg ?_
  refine r_pv T rfl rfl fun _ T => ?_
  refine Gets.seq (Gets.seq ?_)
  refine rg ?_
  refine r_pv T rfl rfl fun _ T => ?_
  refine r_lenS T rfl Try.runUnderlying62 rfl fun _ T => ?_
  refine r_pv T rfl rfl fun _ T => ?_
  refine Gets.block ?_
  refine Gets.loop ?_
  exact L0_ok F r z x1 A2 k3 m4 z 0 0 _ _ (T.sub ⟨rfl, rfl, rfl, rfl, rfl, trivial⟩) (S.only (p := [sl m4 (kSl ku8) A2 k3 x1]) [0] rfl) H
end slices_Concat_byte
end Go.Proofs.Ytghpokmkhlmgcaa

namespace Go.Proofs.Ytghpokmkhlmgcaa
open Go Go.Proofs.Ytghpokmkhlmgcaa.X
set_option linter.unusedVariables false
set_option linter.unusedSimpArgs false
set_option maxRecDepth 100000
set_option maxHeartbeats 4000000
/-! ### cormorant.sstable.entry: function 61 -/
namespace sstable_entry
noncomputable def c0 : Code := match Try.f61.body with | some c => c | none => .skip
def R (F : List Atom) (x1 : List Int) (A2 : Option Addr) (k3 : Nat) (x4 : List Int) (A5 : Option Addr) (k6 : Nat) (r : api_Entry × (List Int) × Bool) : Ending → World → Prop := fun e w' => ∃ (A62 : Option Addr), ∃ (k63 : Nat), ∃ (A64 : Option Addr), ∃ (k65 : Nat), ∃ (A66 : Option Addr), ∃ (k67 : Nat), e = .returned (.tuple #[.agg #[.slice A62 r.1.Key.length k63, .int .u64 r.1.Seq, .bool r.1.Del, .slice A64 r.1.Value.length k65], .slice A66 r.2.1.length k67, .bool r.2.2]) ∧ SL ([sl .own ku8 A62 k63 r.1.Key, sl .own ku8 A64 k65 r.1.Value, sl .ro ku8 A66 k67 r.2.1, sl .ro ku8 A2 k3 x1, sl .ro ku8 A5 k6 x4] ++ F) w'
def J1 (z : Nat) : Option (api_Entry × (List Int) × Bool) := some ((api_Entry.mk ([] : List Int) 0 false ([] : List Int)), ([] : List Int), false)
def J3 (z : Nat) (q0 : (List Int) → Int → Bool → (List Int) → Option (api_Entry × (List Int) × Bool)) (x4 : List Int) (x17 : Int) (x49 : List Int) (x52 : Bool) (x53 : List Int) : Option (api_Entry × (List Int) × Bool) := Bd (codec_TakeNumber.f z x49) fun x56 => If (x56.2.2 != 0) (some ((api_Entry.mk ([] : List Int) 0 false ([] : List Int)), ([] : List Int), false)) (Ck (0 ≤ x56.2.1 ∧ x56.2.1 ≤ (x49.length : Int)) (Ck (0 ≤ x17 ∧ x17 < 4) (q0 (cut x49 (Int.toNat x56.2.1) (Int.toNat (x49.length : Int))) (wr .i64 (x17 + 1)) x52 (x53.set (Int.toNat x17) x56.1))))
def J2 (z : Nat) : Option (api_Entry × (List Int) × Bool) := some ((api_Entry.mk ([] : List Int) 0 false ([] : List Int)), ([] : List Int), false)
def L0 (z : Nat) (x4 : List Int) : Nat → (List Int) → Int → Bool → (List Int) → Option (api_Entry × (List Int) × Bool)
  | 0, _, _, _, _ => none
  | m + 1, x11, x17, x14, x15 => If (decide (x17 < 4)) (If (x17 == 3) (If ((x11.length : Int) == 0) (J2 z) (Ck (0 < (x11.length : Int)) (If (decide ((gi (0 : Int) x11 0) > 1)) (J2 z) (Ck (1 ≤ (x11.length : Int)) (J3 z (L0 z x4 m) x4 x17 (cut x11 (Int.toNat 1) (Int.toNat (x11.length : Int))) ((gi (0 : Int) x11 0) == 1) x15))))) (J3 z (L0 z x4 m) x4 x17 x11 x14 x15)) (If (decide ((gi (0 : Int) x15 0) > (wr .u64 (x4.length : Int)))) (J1 z) (If (decide ((gi (0 : Int) x15 1) > (wr .u64 (x11.length : Int)))) (J1 z) (If (decide ((gi (0 : Int) x15 3) > (wr .u64 ((wr .u64 (x11.length : Int)) - (gi (0 : Int) x15 1))))) (J1 z) (Ck (0 ≤ gi (0 : Int) x15 0 ∧ gi (0 : Int) x15 0 ≤ (x4.length : Int)) (Ck (0 ≤ gi (0 : Int) x15 1 ∧ gi (0 : Int) x15 1 ≤ (x11.length : Int)) (Bd (slices_Concat_byte.f z [(cut x4 (Int.toNat 0) (Int.toNat (gi (0 : Int) x15 0))), (cut x11 (Int.toNat 0) (Int.toNat (gi (0 : Int) x15 1)))]) fun x28 => Ck (0 ≤ gi (0 : Int) x15 3 ∧ gi (0 : Int) x15 3 ≤ ((cut x11 (Int.toNat (gi (0 : Int) x15 1)) (Int.toNat (x11.length : Int))).length : Int)) (Bd (bytes_Clone.f (cut (cut x11 (Int.toNat (gi (0 : Int) x15 1)) (Int.toNat (x11.length : Int))) (Int.toNat 0) (Int.toNat (gi (0 : Int) x15 3)))) fun x36 => Bd (slices_Clip_byte.f x36) fun x40 => some ((api_Entry.mk x28 (gi (0 : Int) x15 2) x14 x40), (cut (cut x11 (Int.toNat (gi (0 : Int) x15 1)) (Int.toNat (x11.length : Int))) (Int.toNat (gi (0 : Int) x15 3)) (Int.toNat ((cut x11 (Int.toNat (gi (0 : Int) x15 1)) (Int.toNat (x11.length : Int))).length : Int))), true))))))))
def f (z : Nat) (x1 : List Int) (x4 : List Int) : Option (api_Entry × (List Int) × Bool) := L0 z x4 z x1 0 false [0, 0, 0, 0]
noncomputable def ptJ1 : List Item := [.code (cL (cR (cR (cR (cR (cR (cR (cR (cR (cR (cR (cB (cR c0))))))))))))), .code (cR (cR (cR (cR (cR (cR (cR (cR (cR (cR (cR (cB (cR c0))))))))))))), .inScope (cB (cR c0))]
noncomputable def ptJ3 : List Item := [.code (cL (cR (cR (cB (cL (cR (cR (cB (cB (cR (cL (cR (cR (cB (cR c0))))))))))))))), .code (cR (cR (cR (cB (cL (cR (cR (cB (cB (cR (cL (cR (cR (cB (cR c0))))))))))))))), .inBlock 1, .code (cR (cR (cR (cB (cB (cR (cL (cR (cR (cB (cR c0))))))))))), .inLoop (cB (cB (cR (cL (cR (cR (cB (cR c0)))))))), .inBlock 0, .code (cR (cR (cR (cB (cR c0))))), .inScope (cB (cR c0))]
noncomputable def ptJ2 : List Item := [.code (cL (cR (cR (cR (cR (cR (cR (cR (cR (cR (cR (cB (cR c0))))))))))))), .code (cR (cR (cR (cR (cR (cR (cR (cR (cR (cR (cR (cB (cR c0))))))))))))), .inScope (cB (cR c0))]
noncomputable def ptL0 : List Item := [.code (cB (cB (cR (cL (cR (cR (cB (cR c0)))))))), .inLoop (cB (cB (cR (cL (cR (cR (cB (cR c0)))))))), .inBlock 0, .code (cR (cR (cR (cB (cR c0))))), .inScope (cB (cR c0))]
theorem J1_ok (F : List Atom) (r : api_Entry × (List Int) × Bool) (z : Nat) (x1 : List Int) (A2 : Option Addr) (k3 : Nat) (x4 : List Int) (A5 : Option Addr) (k6 : Nat) (b7 : Nat) (a : Act) (w : World) (T : Tm 105 [(4, .pointer (some ⟨b7, 0, none⟩))] a) (S : SL ([sl .ro ku8 A2 k3 x1, sl .ro ku8 A5 k6 x4, blk b7 [.slice none 0 0, .int .u64 0, .bool false, .slice none 0 0]] ++ F) w) (H : J1 z = some r) : Gets Try.prog 61 ptJ1 a w (R F x1 A2 k3 x4 A5 k6 r) := by
  refine rg ?_
  refine r_build (cs := #[.slice none 0 0, .int .u64 0, .bool false, .slice none 0 0]) T stt36 rfl rfl rfl fun _ T => ?_
  refine r_stBA (ix := 2) (vs := [.slice none 0 0, .int .u64 0, .bool false, .slice none 0 0]) (l' := [sl .ro ku8 A2 k3 x1, sl .ro ku8 A5 k6 x4, blk b7 [.slice none 0 0, .int .u64 0, .bool false, .slice none 0 0]]) T S rfl rfl rfl rfl (by simp) Try.sizeOf36 (Nat.le_of_ble_eq_true rfl) rfl fun _ S => ?_
  refine r_pv T rfl rfl fun _ T => ?_
  refine r_pv T rfl rfl fun _ T => ?_
  replace S := S.nil ku8 .own
  replace S := S.nil ku8 .own
  replace S := S.nil ku8 .ro
  replace H := Option.some.inj H
  subst H
  exact rtnM T S Try.func61 rfl ⟨_, _, rfl, ⟨b7, _, 5, rfl, rfl, .inl ⟨Try.isAgg36, Try.sizeOf36, rfl⟩⟩, ⟨_, _, rfl, rfl, ⟨_, _, rfl, rfl, rfl⟩⟩⟩ ⟨none, 0, none, 0, none, 0, rfl, (S.only (p := [sl .own ku8 none 0 ([] : List Int), sl .own ku8 none 0 ([] : List Int), sl .ro ku8 none 0 ([] : List Int), sl .ro ku8 A2 k3 x1, sl .ro ku8 A5 k6 x4]) [2, 1, 0, 0, 0] rfl)⟩
theorem J3_ok (F : List Atom) (r : api_Entry × (List Int) × Bool) (z : Nat) (x1 : List Int) (A2 : Option Addr) (k3 : Nat) (x4 : List Int) (A5 : Option Addr) (k6 : Nat) (b7 : Nat) (b8 : Nat) (b9 : Nat) (x17 : Int) (q0 : (List Int) → Int → Bool → (List Int) → Option (api_Entry × (List Int) × Bool)) (hq0 : ∀ (A12 : Option Addr) (x11 : List Int) (k13 : Nat) (x17 : Int) (x14 : Bool) (x15 : List Int) (a : Act) (w : World), Tm 105 [(0, .slice A12 x11.length k13), (1, .slice A5 x4.length k6), (4, .pointer (some ⟨b7, 0, none⟩)), (7, .pointer (some ⟨b8, 0, none⟩)), (8, .pointer (some ⟨b9, 0, none⟩)), (13, .int .i64 x17)] a → SL ([sl .ro ku8 A2 k3 x1, sl .ro ku8 A5 k6 x4, sl .ro ku8 A12 k13 x11, blk b7 [.slice none 0 0, .int .u64 0, .bool false, .slice none 0 0], blk b8 [.slice none 0 0, .int .u64 0, .bool x14, .slice none 0 0], sl .own ku64 (some ⟨b9, 0, none⟩) 4 x15, pr (x15.length = 4)] ++ F) w → q0 x11 x17 x14 x15 = some r → Gets Try.prog 61 ptL0 a w (R F x1 A2 k3 x4 A5 k6 r)) (A50 : Option Addr) (x49 : List Int) (k51 : Nat) (x52 : Bool) (x53 : List Int) (a : Act) (w : World) (T : Tm 105 [(0, .slice A50 x49.length k51), (1, .slice A5 x4.length k6), (4, .pointer (some ⟨b7, 0, none⟩)), (7, .pointer (some ⟨b8, 0, none⟩)), (8, .pointer (some ⟨b9, 0, none⟩)), (9, .int .i64 x17), (13, .int .i64 x17)] a) (S : SL ([sl .ro ku8 A2 k3 x1, sl .ro ku8 A5 k6 x4, sl .ro ku8 A50 k51 x49, blk b7 [.slice none 0 0, .int .u64 0, .bool false, .slice none 0 0], blk b8 [.slice none 0 0, .int .u64 0, .bool x52, .slice none 0 0], sl .own ku64 (some ⟨b9, 0, none⟩) 4 x53, pr (x53.length = 4)] ++ F) w) (H : J3 z q0 x4 x17 x49 x52 x53 = some r) : Gets Try.prog 61 ptJ3 a w (R F x1 A2 k3 x4 A5 k6 r) := by
  have h54 := S.getp (i := 6) rfl
  refine rg ?_
  refine r_pv T rfl rfl fun _ T => ?_
  obtain ⟨x56, h55, H⟩ := bd H
  refine r_call T Try.call85 rfl rfl (codec_TakeNumber.ok _ _ z x49 (S.sel (p := [sl .ro ku8 A50 k51 x49]) (is := [2]) rfl) _ h55) ?_
  rintro _ _ ⟨rfl, S⟩
  refine ⟨_, rfl, fun _ T => ?_⟩
  replace S : SL ([sl .ro ku8 A50 k51 x49, sl .ro ku8 A2 k3 x1, sl .ro ku8 A5 k6 x4, blk b7 [.slice none 0 0, .int .u64 0, .bool false, .slice none 0 0], blk b8 [.slice none 0 0, .int .u64 0, .bool x52, .slice none 0 0], sl .own ku64 (some ⟨b9, 0, none⟩) 4 x53, pr (x53.length = 4)] ++ F) _ := S.join
  refine r_pv T rfl rfl fun _ T => ?_
  refine r_pv T rfl rfl fun _ T => ?_
  refine r_pv T rfl rfl fun _ T => ?_
  refine r_pv T rfl rfl fun _ T => ?_
  refine r_pv T rfl rfl fun _ T => ?_
  refine r_pv T rfl rfl fun _ T => ?_
  refine r_pv T rfl rfl fun _ T => ?_
  refine Gets.seq (Gets.seq ?_)
  refine rg ?_
  refine r_pv T rfl rfl fun _ T => ?_
  refine r_pv T rfl rfl fun _ T => ?_
  rcases ifE H with ⟨h57, H⟩ | ⟨h57, H⟩
  · refine cdT T rfl h57 ?_
    refine Gets.goto rfl (Gets.seq (Gets.skip (Gets.seq ?_)))
    refine rg ?_
    refine r_build (cs := #[.slice none 0 0, .int .u64 0, .bool false, .slice none 0 0]) T stt36 rfl rfl rfl fun _ T => ?_
    refine r_stBA (ix := 3) (vs := [.slice none 0 0, .int .u64 0, .bool false, .slice none 0 0]) (l' := [sl .ro ku8 A50 k51 x49, sl .ro ku8 A2 k3 x1, sl .ro ku8 A5 k6 x4, blk b7 [.slice none 0 0, .int .u64 0, .bool false, .slice none 0 0], blk b8 [.slice none 0 0, .int .u64 0, .bool x52, .slice none 0 0], sl .own ku64 (some ⟨b9, 0, none⟩) 4 x53, pr (x53.length = 4)]) T S rfl rfl rfl rfl (by simp) Try.sizeOf36 (Nat.le_of_ble_eq_true rfl) rfl fun _ S => ?_
    refine r_pv T rfl rfl fun _ T => ?_
    refine r_pv T rfl rfl fun _ T => ?_
    replace S := S.nil ku8 .own
    replace S := S.nil ku8 .own
    replace S := S.nil ku8 .ro
    replace H := Option.some.inj H
    subst H
    exact rtnM T S Try.func61 rfl ⟨_, _, rfl, ⟨b7, _, 6, rfl, rfl, .inl ⟨Try.isAgg36, Try.sizeOf36, rfl⟩⟩, ⟨_, _, rfl, rfl, ⟨_, _, rfl, rfl, rfl⟩⟩⟩ ⟨none, 0, none, 0, none, 0, rfl, (S.only (p := [sl .own ku8 none 0 ([] : List Int), sl .own ku8 none 0 ([] : List Int), sl .ro ku8 none 0 ([] : List Int), sl .ro ku8 A2 k3 x1, sl .ro ku8 A5 k6 x4]) [2, 1, 0, 1, 1] rfl)⟩
  · refine cdF T rfl h57 ?_
    refine Gets.skip ?_
    have h58 := S.len (i := 0) rfl
    obtain ⟨h59, H⟩ := ck H
    replace S := S.cutR (ix := 0) (i := x56.2.1) (j := (x49.length : Int)) (k := (k51 : Int)) rfl h59.1 h59.2 (Int.le_refl _) (by omega) (by omega)
    obtain ⟨h60, H⟩ := ck H
    refine Gets.drawn (l := [sl .ro ku8 (slA A50 (Int.toNat (k51 : Int)) (Int.toNat x56.2.1) 1) (Int.toNat (k51 : Int) - Int.toNat x56.2.1) (cut x49 (Int.toNat x56.2.1) (Int.toNat (x49.length : Int))), sl .ro ku8 A50 k51 x49, sl .ro ku8 A2 k3 x1, sl .ro ku8 A5 k6 x4, blk b7 [.slice none 0 0, .int .u64 0, .bool false, .slice none 0 0], blk b8 [.slice none 0 0, .int .u64 0, .bool x52, .slice none 0 0], sl .own ku64 (some ⟨b9, 0, none⟩) 4 x53, pr (x53.length = 4)]) (V := [some (.int .i64 x17, true), some (.int .u64 x56.1, true), some (.slice A50 x49.length k51, true), some (.int .i64 x56.2.1, true), some (.slice (slA A50 (Int.toNat (k51 : Int)) (Int.toNat x56.2.1) 1) ((cut x49 (Int.toNat x56.2.1) (Int.toNat (x49.length : Int))).length) (Int.toNat (k51 : Int) - Int.toNat x56.2.1), true), some (.pointer (some (eA (some ⟨b9, 0, none⟩) (Int.toNat x17 * 1))), true), none, none]) mixed T S rfl ?_
    refine stage (some 6) rfl rfl ⟨⟨_, [(9, .int .i64 x17)], rfl, ⟨.inr ⟨rfl, rfl⟩, trivial⟩, fun u a w T S => (by refine r_pv T rfl rfl fun _ T => ?_; exact ⟨rfl, T⟩)⟩, ⟨_, [(10, .int .u64 x56.1)], rfl, ⟨.inr ⟨rfl, rfl⟩, trivial⟩, fun u a w T S => (by refine r_pv T rfl rfl fun _ T => ?_; exact ⟨rfl, T⟩)⟩, ⟨_, [(0, .slice A50 x49.length k51)], rfl, ⟨.inr ⟨rfl, rfl⟩, trivial⟩, fun u a w T S => (by refine r_pv T rfl rfl fun _ T => ?_; exact ⟨rfl, T⟩)⟩, ⟨_, [(11, .int .i64 x56.2.1)], rfl, ⟨.inr ⟨rfl, rfl⟩, trivial⟩, fun u a w T S => (by refine r_pv T rfl rfl fun _ T => ?_; exact ⟨rfl, T⟩)⟩, ⟨_, [(44, .slice A50 x49.length k51), (45, .int .i64 x56.2.1)], rfl, ⟨.inl ⟨2, rfl, rfl, rfl, rfl⟩, .inl ⟨3, rfl, rfl, rfl, rfl⟩, trivial⟩, fun u a w T S => (by refine r_slQ (xs := x49) T rfl (fun h => by cases h) rfl rfl rfl h59.1 h59.2 (Int.le_refl _) (by omega) (by omega) Try.runUnderlying24 Try.sizeOf5 rfl fun _ T => ?_; exact ⟨rfl, T⟩)⟩, ⟨_, [(8, .pointer (some ⟨b9, 0, none⟩)), (42, .int .i64 x17)], rfl, ⟨.inr ⟨rfl, rfl⟩, .inl ⟨0, rfl, rfl, rfl, rfl⟩, trivial⟩, fun u a w T S => (by refine r_iaA T rfl rfl Try.runUnderlying121 Try.sizeOf34 h60.1 h60.2 rfl fun _ T => ?_; exact ⟨rfl, T⟩)⟩, trivial⟩ rfl (fun i hi => ?_) (fun h => by cases h)
    cases hi
    refine ⟨rfl, _, [(43, .int .u64 x56.1), (47, .pointer (some (eA (some ⟨b9, 0, none⟩) (Int.toNat x17 * 1))))], rfl, ⟨.inl ⟨1, rfl, rfl, rfl, rfl⟩, .inl ⟨5, rfl, rfl, rfl, rfl⟩, trivial⟩, fun u a w T S => ?_⟩
    have h61 : (x53.set (Int.toNat x17) x56.1).length = 4 := by rw [List.length_set]; exact h54
    refine r_stE (ix := 6) (i := x17) (u := x56.1) (A := (some ⟨b9, 0, none⟩)) (l' := [sl .ro ku8 (slA A50 (Int.toNat (k51 : Int)) (Int.toNat x56.2.1) 1) (Int.toNat (k51 : Int) - Int.toNat x56.2.1) (cut x49 (Int.toNat x56.2.1) (Int.toNat (x49.length : Int))), sl .ro ku8 A50 k51 x49, sl .ro ku8 A2 k3 x1, sl .ro ku8 A5 k6 x4, blk b7 [.slice none 0 0, .int .u64 0, .bool false, .slice none 0 0], blk b8 [.slice none 0 0, .int .u64 0, .bool x52, .slice none 0 0], sl .own ku64 (some ⟨b9, 0, none⟩) 4 (x53.set (Int.toNat x17) x56.1), pr (x53.length = 4)]) T S rfl rfl rfl rfl (fun _ => rfl) Try.sizeOf34 h60.1 (by have q1_ : (x17 : Int) < 4 := h60.2; have q2_ := h54; omega) rfl fun _ S => ?_
    refine ⟨_, [some (.int .i64 x17, false), some (.int .u64 x56.1, false), some (.slice A50 x49.length k51, true), some (.int .i64 x56.2.1, true), some (.slice (slA A50 (Int.toNat (k51 : Int)) (Int.toNat x56.2.1) 1) ((cut x49 (Int.toNat x56.2.1) (Int.toNat (x49.length : Int))).length) (Int.toNat (k51 : Int) - Int.toNat x56.2.1), true), some (.pointer (some (eA (some ⟨b9, 0, none⟩) (Int.toNat x17 * 1))), false), some (undef, false), some (.slice (slA A50 (Int.toNat (k51 : Int)) (Int.toNat x56.2.1) 1) ((cut x49 (Int.toNat x56.2.1) (Int.toNat (x49.length : Int))).length) (Int.toNat (k51 : Int) - Int.toNat x56.2.1), true)], [sl .ro ku8 (slA A50 (Int.toNat (k51 : Int)) (Int.toNat x56.2.1) 1) (Int.toNat (k51 : Int) - Int.toNat x56.2.1) (cut x49 (Int.toNat x56.2.1) (Int.toNat (x49.length : Int))), sl .ro ku8 A50 k51 x49, sl .ro ku8 A2 k3 x1, sl .ro ku8 A5 k6 x4, blk b7 [.slice none 0 0, .int .u64 0, .bool false, .slice none 0 0], blk b8 [.slice none 0 0, .int .u64 0, .bool x52, .slice none 0 0], sl .own ku64 (some ⟨b9, 0, none⟩) 4 (x53.set (Int.toNat x17) x56.1), pr (x53.length = 4)], rfl, ⟨.inr ⟨_, _, _, rfl, rfl⟩, .inr ⟨_, _, _, rfl, rfl⟩, .inr ⟨_, _, _, rfl, rfl⟩, .inr ⟨_, _, _, rfl, rfl⟩, .inr ⟨_, _, _, rfl, rfl⟩, .inr ⟨_, _, _, rfl, rfl⟩, .inl rfl, .inl rfl, trivial⟩, rfl, ?_, T, S⟩
    refine stage none rfl rfl ⟨⟨_, [(0, .slice A50 x49.length k51)], rfl, ⟨.inr ⟨rfl, rfl⟩, trivial⟩, fun u a w T S => (by refine r_pv T rfl rfl fun _ T => ?_; exact ⟨rfl, T⟩)⟩, ⟨_, [(11, .int .i64 x56.2.1)], rfl, ⟨.inr ⟨rfl, rfl⟩, trivial⟩, fun u a w T S => (by refine r_pv T rfl rfl fun _ T => ?_; exact ⟨rfl, T⟩)⟩, ⟨_, [(44, .slice A50 x49.length k51), (45, .int .i64 x56.2.1)], rfl, ⟨.inl ⟨2, rfl, rfl, rfl, rfl⟩, .inl ⟨3, rfl, rfl, rfl, rfl⟩, trivial⟩, fun u a w T S => (by refine r_slQ (xs := x49) T rfl (fun h => by cases h) rfl rfl rfl h59.1 h59.2 (Int.le_refl _) (by omega) (by omega) Try.runUnderlying24 Try.sizeOf5 rfl fun _ T => ?_; exact ⟨rfl, T⟩)⟩, ⟨_, [(46, .slice (slA A50 (Int.toNat (k51 : Int)) (Int.toNat x56.2.1) 1) ((cut x49 (Int.toNat x56.2.1) (Int.toNat (x49.length : Int))).length) (Int.toNat (k51 : Int) - Int.toNat x56.2.1))], rfl, ⟨.inl ⟨4, rfl, rfl, rfl, rfl⟩, trivial⟩, fun u a w T S => (by refine r_pv T rfl rfl fun _ T => ?_; exact ⟨rfl, T⟩)⟩, trivial⟩ rfl (fun i hi => by cases hi) (fun _ _ a w T hv hb S => ?_)
    replace T := T.sub (r := [(0, .slice (slA A50 (Int.toNat (k51 : Int)) (Int.toNat x56.2.1) 1) ((cut x49 (Int.toNat x56.2.1) (Int.toNat (x49.length : Int))).length) (Int.toNat (k51 : Int) - Int.toNat x56.2.1)), (1, .slice A5 x4.length k6), (4, .pointer (some ⟨b7, 0, none⟩)), (7, .pointer (some ⟨b8, 0, none⟩)), (8, .pointer (some ⟨b9, 0, none⟩)), (13, .int .i64 x17)]) ⟨hv 7 _ 0 rfl rfl rfl, hb 1 _ rfl rfl, hb 4 _ rfl rfl, hb 7 _ rfl rfl, hb 8 _ rfl rfl, hb 13 _ rfl rfl, trivial⟩
    refine Gets.inBlock ?_
    refine rg ?_
    refine r_pv T rfl rfl fun _ T => ?_
    refine r_pv T rfl rfl fun _ T => ?_
    refine Gets.inLoop ?_
    replace S := SL.prf h61 S
    exact hq0 (slA A50 (Int.toNat (k51 : Int)) (Int.toNat x56.2.1) 1) (cut x49 (Int.toNat x56.2.1) (Int.toNat (x49.length : Int))) (Int.toNat (k51 : Int) - Int.toNat x56.2.1) (wr .i64 (x17 + 1)) x52 (x53.set (Int.toNat x17) x56.1) _ _ (T.sub ⟨rfl, rfl, rfl, rfl, rfl, rfl, trivial⟩) (S.only (p := [sl .ro ku8 A2 k3 x1, sl .ro ku8 A5 k6 x4, sl .ro ku8 (slA A50 (Int.toNat (k51 : Int)) (Int.toNat x56.2.1) 1) (Int.toNat (k51 : Int) - Int.toNat x56.2.1) (cut x49 (Int.toNat x56.2.1) (Int.toNat (x49.length : Int))), blk b7 [.slice none 0 0, .int .u64 0, .bool false, .slice none 0 0], blk b8 [.slice none 0 0, .int .u64 0, .bool x52, .slice none 0 0], sl .own ku64 (some ⟨b9, 0, none⟩) 4 (x53.set (Int.toNat x17) x56.1), pr ((x53.set (Int.toNat x17) x56.1).length = 4)]) [3, 3, 1, 2, 2, 2, 0] rfl) H
theorem J2_ok (F : List Atom) (r : api_Entry × (List Int) × Bool) (z : Nat) (x1 : List Int) (A2 : Option Addr) (k3 : Nat) (x4 : List Int) (A5 : Option Addr) (k6 : Nat) (b7 : Nat) (a : Act) (w : World) (T : Tm 105 [(4, .pointer (some ⟨b7, 0, none⟩))] a) (S : SL ([sl .ro ku8 A2 k3 x1, sl .ro ku8 A5 k6 x4, blk b7 [.slice none 0 0, .int .u64 0, .bool false, .slice none 0 0]] ++ F) w) (H : J2 z = some r) : Gets Try.prog 61 ptJ2 a w (R F x1 A2 k3 x4 A5 k6 r) := by
  refine rg ?_
  refine r_build (cs := #[.slice none 0 0, .int .u64 0, .bool false, .slice none 0 0]) T stt36 rfl rfl rfl fun _ T => ?_
  refine r_stBA (ix := 2) (vs := [.slice none 0 0, .int .u64 0, .bool false, .slice none 0 0]) (l' := [sl .ro ku8 A2 k3 x1, sl .ro ku8 A5 k6 x4, blk b7 [.slice none 0 0, .int .u64 0, .bool false, .slice none 0 0]]) T S rfl rfl rfl rfl (by simp) Try.sizeOf36 (Nat.le_of_ble_eq_true rfl) rfl fun _ S => ?_
  refine r_pv T rfl rfl fun _ T => ?_
  refine r_pv T rfl rfl fun _ T => ?_
  replace S := S.nil ku8 .own
  replace S := S.nil ku8 .own
  replace S := S.nil ku8 .ro
  replace H := Option.some.inj H
  subst H
  exact rtnM T S Try.func61 rfl ⟨_, _, rfl, ⟨b7, _, 5, rfl, rfl, .inl ⟨Try.isAgg36, Try.sizeOf36, rfl⟩⟩, ⟨_, _, rfl, rfl, ⟨_, _, rfl, rfl, rfl⟩⟩⟩ ⟨none, 0, none, 0, none, 0, rfl, (S.only (p := [sl .own ku8 none 0 ([] : List Int), sl .own ku8 none 0 ([] : List Int), sl .ro ku8 none 0 ([] : List Int), sl .ro ku8 A2 k3 x1, sl .ro ku8 A5 k6 x4]) [2, 1, 0, 0, 0] rfl)⟩
theorem L0_ok (F : List Atom) (r : api_Entry × (List Int) × Bool) (z : Nat) (x1 : List Int) (A2 : Option Addr) (k3 : Nat) (x4 : List Int) (A5 : Option Addr) (k6 : Nat) (b7 : Nat) (b8 : Nat) (b9 : Nat) (m : Nat) : ∀ (A12 : Option Addr) (x11 : List Int) (k13 : Nat) (x17 : Int) (x14 : Bool) (x15 : List Int) (a : Act) (w : World), Tm 105 [(0, .slice A12 x11.length k13), (1, .slice A5 x4.length k6), (4, .pointer (some ⟨b7, 0, none⟩)), (7, .pointer (some ⟨b8, 0, none⟩)), (8, .pointer (some ⟨b9, 0, none⟩)), (13, .int .i64 x17)] a → SL ([sl .ro ku8 A2 k3 x1, sl .ro ku8 A5 k6 x4, sl .ro ku8 A12 k13 x11, blk b7 [.slice none 0 0, .int .u64 0, .bool false, .slice none 0 0], blk b8 [.slice none 0 0, .int .u64 0, .bool x14, .slice none 0 0], sl .own ku64 (some ⟨b9, 0, none⟩) 4 x15, pr (x15.length = 4)] ++ F) w → L0 z x4 m x11 x17 x14 x15 = some r → Gets Try.prog 61 ptL0 a w (R F x1 A2 k3 x4 A5 k6 r) := by
  induction m with
  | zero => intro _ _ _ _ _ _ _ _ _ _ H; cases H
  | succ m ih =>
    intro A12 x11 k13 x17 x14 x15 a w T S H
    have h16 := S.getp (i := 6) rfl
    refine Gets.seq ?_
    refine rg ?_
    refine r_pv T rfl rfl fun _ T => ?_
    refine Gets.seq ?_
    rcases ifE H with ⟨h18, H⟩ | ⟨h18, H⟩
    · refine cdT T rfl h18 ?_
      refine Gets.skip (Gets.seq (Gets.block (Gets.seq ?_)))
      refine rg ?_
      refine r_pv T rfl rfl fun _ T => ?_
      refine r_pv T rfl rfl fun _ T => ?_
      refine Gets.seq (Gets.seq ?_)
      refine rg ?_
      refine r_pv T rfl rfl fun _ T => ?_
      refine r_pv T rfl rfl fun _ T => ?_
      rcases ifE H with ⟨h42, H⟩ | ⟨h42, H⟩
      · refine cdT T rfl h42 ?_
        refine Gets.seq (Gets.seq ?_)
        refine rg ?_
        refine r_pv T rfl rfl fun _ T => ?_
        refine r_lenS T rfl Try.runUnderlying24 rfl fun _ T => ?_
        refine r_pv T rfl rfl fun _ T => ?_
        refine r_pv T rfl rfl fun _ T => ?_
        rcases ifE H with ⟨h43, H⟩ | ⟨h43, H⟩
        · refine g_no T rfl rfl h43 rfl fun _ T => ?_
          refine g_no T rfl rfl h43 rfl fun _ T => ?_
          refine g_no T rfl rfl h43 rfl fun _ T => ?_
          refine g_no T rfl rfl h43 rfl fun _ T => ?_
          refine r_pickT T rfl h43 rfl rfl fun _ T => ?_
          refine cdT T rfl rfl ?_
          refine Gets.goto rfl (Gets.seq (Gets.skip (Gets.seq ?_)))
          exact J2_ok F r z x1 A2 k3 x4 A5 k6 b7 _ _ (T.sub ⟨rfl, trivial⟩) (S.only (p := [sl .ro ku8 A2 k3 x1, sl .ro ku8 A5 k6 x4, blk b7 [.slice none 0 0, .int .u64 0, .bool false, .slice none 0 0]]) [0, 0, 1] rfl) H
        · refine g_yes T rfl rfl h43 ?_
          refine r_pv T rfl rfl fun _ T => ?_
          refine g_yes T rfl rfl h43 ?_
          obtain ⟨h44, H⟩ := ck H
          refine r_ia (ix := 2) T S rfl rfl rfl rfl Try.runUnderlying24 Try.sizeOf5 (by decide) h44 rfl fun _ T => ?_
          refine g_yes T rfl rfl h43 ?_
          refine r_ldE (ix := 2) (i := 0) (off := 0) (f := (Value.int .u8)) T S rfl Try.isAgg5 rfl (0 : Int) _ rfl rfl (Fld.all _) (by decide) h44 (fun h => h) rfl fun _ T => ?_
          refine g_yes T rfl rfl h43 ?_
          refine r_pv T rfl rfl fun _ T => ?_
          refine r_pickF T rfl h43 rfl rfl fun _ T => ?_
          rcases ifE H with ⟨h45, H⟩ | ⟨h45, H⟩
          · refine cdT T rfl h45 ?_
            refine Gets.goto rfl (Gets.seq (Gets.skip (Gets.seq ?_)))
            exact J2_ok F r z x1 A2 k3 x4 A5 k6 b7 _ _ (T.sub ⟨rfl, trivial⟩) (S.only (p := [sl .ro ku8 A2 k3 x1, sl .ro ku8 A5 k6 x4, blk b7 [.slice none 0 0, .int .u64 0, .bool false, .slice none 0 0]]) [0, 0, 1] rfl) H
          · refine cdF T rfl h45 ?_
            refine Gets.skip (Gets.seq ?_)
            refine rg ?_
            refine r_pv T rfl rfl fun _ T => ?_
            refine r_ia (ix := 2) T S rfl rfl rfl rfl Try.runUnderlying24 Try.sizeOf5 (by decide) h44 rfl fun _ T => ?_
            refine r_ldE (ix := 2) (i := 0) (off := 0) (f := (Value.int .u8)) T S rfl Try.isAgg5 rfl (0 : Int) _ rfl rfl (Fld.all _) (by decide) h44 (fun h => h) rfl fun _ T => ?_
            refine r_pv T rfl rfl fun _ T => ?_
            refine r_fa (o' := 2) T rfl Try.runUnderlying36 rfl Try.sizeOf4 rfl rfl fun _ T => ?_
            refine r_stB (ix := 4) (l' := [sl .ro ku8 A2 k3 x1, sl .ro ku8 A5 k6 x4, sl .ro ku8 A12 k13 x11, blk b7 [.slice none 0 0, .int .u64 0, .bool false, .slice none 0 0], blk b8 [.slice none 0 0, .int .u64 0, .bool ((gi (0 : Int) x11 0) == 1), .slice none 0 0], sl .own ku64 (some ⟨b9, 0, none⟩) 4 x15, pr (x15.length = 4)]) T S rfl rfl rfl Try.sizeOf4 rfl (Nat.le_of_ble_eq_true rfl) rfl fun _ S => ?_
            refine rg ?_
            refine r_pv T rfl rfl fun _ T => ?_
            have h46 := S.len (i := 2) rfl
            obtain ⟨h47, H⟩ := ck H
            refine r_slR (ix := 2) (xs := x11) T S rfl rfl (fun h => by cases h) rfl rfl rfl (by decide) h47 (Int.le_refl _) (by omega) (by omega) Try.runUnderlying24 Try.sizeOf5 rfl fun _ A48 S T => ?_
            refine r_pv T rfl rfl fun _ T => ?_
            refine Gets.seq ?_
            replace S := SL.prf h16 S
            exact J3_ok F r z x1 A2 k3 x4 A5 k6 b7 b8 b9 x17 (L0 z x4 m) ih A48 (cut x11 (Int.toNat 1) (Int.toNat (x11.length : Int))) (Int.toNat (k13 : Int) - Int.toNat 1) ((gi (0 : Int) x11 0) == 1) x15 _ _ (T.sub ⟨rfl, rfl, rfl, rfl, rfl, rfl, rfl, trivial⟩) (S.only (p := [sl .ro ku8 A2 k3 x1, sl .ro ku8 A5 k6 x4, sl .ro ku8 A48 (Int.toNat (k13 : Int) - Int.toNat 1) (cut x11 (Int.toNat 1) (Int.toNat (x11.length : Int))), blk b7 [.slice none 0 0, .int .u64 0, .bool false, .slice none 0 0], blk b8 [.slice none 0 0, .int .u64 0, .bool ((gi (0 : Int) x11 0) == 1), .slice none 0 0], sl .own ku64 (some ⟨b9, 0, none⟩) 4 x15, pr (x15.length = 4)]) [2, 2, 1, 2, 2, 2, 0] rfl) H
      · refine cdF T rfl h42 ?_
        refine Gets.skip (Gets.seq ?_)
        replace S := SL.prf h16 S
        exact J3_ok F r z x1 A2 k3 x4 A5 k6 b7 b8 b9 x17 (L0 z x4 m) ih A12 x11 k13 x14 x15 _ _ (T.sub ⟨rfl, rfl, rfl, rfl, rfl, rfl, rfl, trivial⟩) (S.only (p := [sl .ro ku8 A2 k3 x1, sl .ro ku8 A5 k6 x4, sl .ro ku8 A12 k13 x11, blk b7 [.slice none 0 0, .int .u64 0, .bool false, .slice none 0 0], blk b8 [.slice none 0 0, .int .u64 0, .bool x14, .slice none 0 0], sl .own ku64 (some ⟨b9, 0, none⟩) 4 x15, pr (x15.length = 4)]) [1, 1, 1, 1, 1, 1, 0] rfl) H
    · refine cdF T rfl h18 ?_
      refine Gets.exit rfl (Gets.seq (Gets.seq ?_))
      refine rg ?_
      refine r_iaA T rfl rfl Try.runUnderlying121 Try.sizeOf34 (by decide) (by decide) rfl fun _ T => ?_
      refine r_ldE (ix := 5) (i := 0) (off := 0) (A := (some ⟨b9, 0, none⟩)) (f := (Value.int .u64)) T S rfl Try.isAgg34 rfl (0 : Int) _ rfl rfl (Fld.all _) (by decide) (by have q1_ : (0 : Int) < 4 := (by decide); have q2_ := h16; omega) (fun h => h) rfl fun _ T => ?_
      refine r_pv T rfl rfl fun _ T => ?_
      refine r_lenS T rfl Try.runUnderlying24 rfl fun _ T => ?_
      refine r_conv T rfl Try.runUnderlying3 Try.runUnderlying34 rfl fun _ T => ?_
      refine r_pv T rfl rfl fun _ T => ?_
      refine r_pv T rfl rfl fun _ T => ?_
      rcases ifE H with ⟨h19, H⟩ | ⟨h19, H⟩
      · refine g_no T rfl rfl h19 rfl fun _ T => ?_
        refine g_no T rfl rfl h19 rfl fun _ T => ?_
        refine g_no T rfl rfl h19 rfl fun _ T => ?_
        refine g_no T rfl rfl h19 rfl fun _ T => ?_
        refine g_no T rfl rfl h19 rfl fun _ T => ?_
        refine g_no T rfl rfl h19 rfl fun _ T => ?_
        refine r_pickT T rfl h19 rfl rfl fun _ T => ?_
        refine r_pv T rfl rfl fun _ T => ?_
        refine g_no T rfl rfl rfl rfl fun _ T => ?_
        refine g_no T rfl rfl rfl rfl fun _ T => ?_
        refine g_no T rfl rfl rfl rfl fun _ T => ?_
        refine g_no T rfl rfl rfl rfl fun _ T => ?_
        refine g_no T rfl rfl rfl rfl fun _ T => ?_
        refine g_no T rfl rfl rfl rfl fun _ T => ?_
        refine g_no T rfl rfl rfl rfl fun _ T => ?_
        refine g_no T rfl rfl rfl rfl fun _ T => ?_
        refine g_no T rfl rfl rfl rfl fun _ T => ?_
        refine r_pickT T rfl rfl rfl rfl fun _ T => ?_
        refine cdT T rfl rfl ?_
        refine Gets.goto rfl (Gets.seq (Gets.skip (Gets.seq ?_)))
        exact J1_ok F r z x1 A2 k3 x4 A5 k6 b7 _ _ (T.sub ⟨rfl, trivial⟩) (S.only (p := [sl .ro ku8 A2 k3 x1, sl .ro ku8 A5 k6 x4, blk b7 [.slice none 0 0, .int .u64 0, .bool false, .slice none 0 0]]) [0, 0, 1] rfl) H
      · refine g_yes T rfl rfl h19 ?_
        refine r_iaA T rfl rfl Try.runUnderlying121 Try.sizeOf34 (by decide) (by decide) rfl fun _ T => ?_
        refine g_yes T rfl rfl h19 ?_
        refine r_ldE (ix := 5) (i := 1) (off := 0) (A := (some ⟨b9, 0, none⟩)) (f := (Value.int .u64)) T S rfl Try.isAgg34 rfl (0 : Int) _ rfl rfl (Fld.all _) (by decide) (by have q1_ : (1 : Int) < 4 := (by decide); have q2_ := h16; omega) (fun h => h) rfl fun _ T => ?_
        refine g_yes T rfl rfl h19 ?_
        refine r_pv T rfl rfl fun _ T => ?_
        refine g_yes T rfl rfl h19 ?_
        refine r_lenS T rfl Try.runUnderlying24 rfl fun _ T => ?_
        refine g_yes T rfl rfl h19 ?_
        refine r_conv T rfl Try.runUnderlying3 Try.runUnderlying34 rfl fun _ T => ?_
        refine g_yes T rfl rfl h19 ?_
        refine r_pv T rfl rfl fun _ T => ?_
        refine r_pickF T rfl h19 rfl rfl fun _ T => ?_
        refine r_pv T rfl rfl fun _ T => ?_
        rcases ifE H with ⟨h20, H⟩ | ⟨h20, H⟩
        · refine g_no T rfl rfl h20 rfl fun _ T => ?_
          refine g_no T rfl rfl h20 rfl fun _ T => ?_
          refine g_no T rfl rfl h20 rfl fun _ T => ?_
          refine g_no T rfl rfl h20 rfl fun _ T => ?_
          refine g_no T rfl rfl h20 rfl fun _ T => ?_
          refine g_no T rfl rfl h20 rfl fun _ T => ?_
          refine g_no T rfl rfl h20 rfl fun _ T => ?_
          refine g_no T rfl rfl h20 rfl fun _ T => ?_
          refine g_no T rfl rfl h20 rfl fun _ T => ?_
          refine r_pickT T rfl h20 rfl rfl fun _ T => ?_
          refine cdT T rfl rfl ?_
          refine Gets.goto rfl (Gets.seq (Gets.skip (Gets.seq ?_)))
          exact J1_ok F r z x1 A2 k3 x4 A5 k6 b7 _ _ (T.sub ⟨rfl, trivial⟩) (S.only (p := [sl .ro ku8 A2 k3 x1, sl .ro ku8 A5 k6 x4, blk b7 [.slice none 0 0, .int .u64 0, .bool false, .slice none 0 0]]) [0, 0, 1] rfl) H
        · refine g_yes T rfl rfl h20 ?_
          refine r_iaA T rfl rfl Try.runUnderlying121 Try.sizeOf34 (by decide) (by decide) rfl fun _ T => ?_
          refine g_yes T rfl rfl h20 ?_
          refine r_ldE (ix := 5) (i := 3) (off := 0) (A := (some ⟨b9, 0, none⟩)) (f := (Value.int .u64)) T S rfl Try.isAgg34 rfl (0 : Int) _ rfl rfl (Fld.all _) (by decide) (by have q1_ : (3 : Int) < 4 := (by decide); have q2_ := h16; omega) (fun h => h) rfl fun _ T => ?_
          refine g_yes T rfl rfl h20 ?_
          refine r_pv T rfl rfl fun _ T => ?_
          refine g_yes T rfl rfl h20 ?_
          refine r_lenS T rfl Try.runUnderlying24 rfl fun _ T => ?_
          refine g_yes T rfl rfl h20 ?_
          refine r_conv T rfl Try.runUnderlying3 Try.runUnderlying34 rfl fun _ T => ?_
          refine g_yes T rfl rfl h20 ?_
          refine r_iaA T rfl rfl Try.runUnderlying121 Try.sizeOf34 (by decide) (by decide) rfl fun _ T => ?_
          refine g_yes T rfl rfl h20 ?_
          refine r_ldE (ix := 5) (i := 1) (off := 0) (A := (some ⟨b9, 0, none⟩)) (f := (Value.int .u64)) T S rfl Try.isAgg34 rfl (0 : Int) _ rfl rfl (Fld.all _) (by decide) (by have q1_ : (1 : Int) < 4 := (by decide); have q2_ := h16; omega) (fun h => h) rfl fun _ T => ?_
          refine g_yes T rfl rfl h20 ?_
          refine r_pv T rfl rfl fun _ T => ?_
          refine g_yes T rfl rfl h20 ?_
          refine r_pv T rfl rfl fun _ T => ?_
          refine r_pickF T rfl h20 rfl rfl fun _ T => ?_
          rcases ifE H with ⟨h21, H⟩ | ⟨h21, H⟩
          · refine cdT T rfl h21 ?_
            refine Gets.goto rfl (Gets.seq (Gets.skip (Gets.seq ?_)))
            exact J1_ok F r z x1 A2 k3 x4 A5 k6 b7 _ _ (T.sub ⟨rfl, trivial⟩) (S.only (p := [sl .ro ku8 A2 k3 x1, sl .ro ku8 A5 k6 x4, blk b7 [.slice none 0 0, .int .u64 0, .bool false, .slice none 0 0]]) [0, 0, 1] rfl) H
          · refine cdF T rfl h21 ?_
            refine Gets.skip (Gets.seq ?_)
            refine rg ?_
            refine r_iaA T rfl rfl Try.runUnderlying121 Try.sizeOf34 (by decide) (by decide) rfl fun _ T => ?_
            refine r_ldE (ix := 5) (i := 2) (off := 0) (A := (some ⟨b9, 0, none⟩)) (f := (Value.int .u64)) T S rfl Try.isAgg34 rfl (0 : Int) _ rfl rfl (Fld.all _) (by decide) (by have q1_ : (2 : Int) < 4 := (by decide); have q2_ := h16; omega) (fun h => h) rfl fun _ T => ?_
            refine r_fa (o' := 1) T rfl Try.runUnderlying36 rfl Try.sizeOf34 rfl rfl fun _ T => ?_
            refine r_stB (ix := 4) (l' := [sl .ro ku8 A2 k3 x1, sl .ro ku8 A5 k6 x4, sl .ro ku8 A12 k13 x11, blk b7 [.slice none 0 0, .int .u64 0, .bool false, .slice none 0 0], blk b8 [.slice none 0 0, .int .u64 (gi (0 : Int) x15 2), .bool x14, .slice none 0 0], sl .own ku64 (some ⟨b9, 0, none⟩) 4 x15, pr (x15.length = 4)]) T S rfl rfl rfl Try.sizeOf34 rfl (Nat.le_of_ble_eq_true rfl) rfl fun _ S => ?_
            refine Gets.seq ?_
            have h22 := S.len (i := 1) rfl
            obtain ⟨h23, H⟩ := ck H
            replace S := S.cutR (ix := 1) (i := 0) (j := gi (0 : Int) x15 0) (k := (k6 : Int)) rfl (Int.le_refl _) h23.1 h23.2 (by have := h23.2; omega) (by omega)
            have h24 := S.len (i := 3) rfl
            obtain ⟨h25, H⟩ := ck H
            replace S := S.cutR (ix := 3) (i := 0) (j := gi (0 : Int) x15 1) (k := (k13 : Int)) rfl (Int.le_refl _) h25.1 h25.2 (by have := h25.2; omega) (by omega)
            refine Gets.drawn (l := [sl .ro ku8 (slA A12 (Int.toNat (k13 : Int)) (Int.toNat 0) 1) (Int.toNat (k13 : Int) - Int.toNat 0) (cut x11 (Int.toNat 0) (Int.toNat (gi (0 : Int) x15 1))), sl .ro ku8 (slA A5 (Int.toNat (k6 : Int)) (Int.toNat 0) 1) (Int.toNat (k6 : Int) - Int.toNat 0) (cut x4 (Int.toNat 0) (Int.toNat (gi (0 : Int) x15 0))), sl .ro ku8 A2 k3 x1, sl .ro ku8 A5 k6 x4, sl .ro ku8 A12 k13 x11, blk b7 [.slice none 0 0, .int .u64 0, .bool false, .slice none 0 0], blk b8 [.slice none 0 0, .int .u64 (gi (0 : Int) x15 2), .bool x14, .slice none 0 0], sl .own ku64 (some ⟨b9, 0, none⟩) 4 x15, pr (x15.length = 4)]) (V := [some (.slice A5 x4.length k6, true), some (.pointer (some (eA (some ⟨b9, 0, none⟩) (Int.toNat 0 * 1))), true), some (.int .u64 (gi (0 : Int) x15 0), true), some (.slice (slA A5 (Int.toNat (k6 : Int)) (Int.toNat 0) 1) ((cut x4 (Int.toNat 0) (Int.toNat (gi (0 : Int) x15 0))).length) (Int.toNat (k6 : Int) - Int.toNat 0), true), some (.slice A12 x11.length k13, true), some (.pointer (some (eA (some ⟨b9, 0, none⟩) (Int.toNat 1 * 1))), true), some (.int .u64 (gi (0 : Int) x15 1), true), some (.slice (slA A12 (Int.toNat (k13 : Int)) (Int.toNat 0) 1) ((cut x11 (Int.toNat 0) (Int.toNat (gi (0 : Int) x15 1))).length) (Int.toNat (k13 : Int) - Int.toNat 0), true), none, none, none, none]) mixed T S rfl ?_
            refine stage (some 8) rfl rfl ⟨⟨_, [(1, .slice A5 x4.length k6)], rfl, ⟨.inr ⟨rfl, rfl⟩, trivial⟩, fun u a w T S => (by refine r_pv T rfl rfl fun _ T => ?_; exact ⟨rfl, T⟩)⟩, ⟨_, [(8, .pointer (some ⟨b9, 0, none⟩))], rfl, ⟨.inr ⟨rfl, rfl⟩, trivial⟩, fun u a w T S => (by refine r_iaA T rfl rfl Try.runUnderlying121 Try.sizeOf34 (by decide) (by decide) rfl fun _ T => ?_; exact ⟨rfl, T⟩)⟩, ⟨_, [(78, .pointer (some (eA (some ⟨b9, 0, none⟩) (Int.toNat 0 * 1))))], rfl, ⟨.inl ⟨1, rfl, rfl, rfl, rfl⟩, trivial⟩, fun u a w T S => (by refine r_ldE (ix := 7) (i := 0) (off := 0) (A := (some ⟨b9, 0, none⟩)) (f := (Value.int .u64)) T S rfl Try.isAgg34 rfl (0 : Int) _ rfl rfl (Fld.all _) (by decide) (by have q1_ : (0 : Int) < 4 := (by decide); have q2_ := h16; omega) (fun h => h) rfl fun _ T => ?_; exact ⟨rfl, T⟩)⟩, ⟨_, [(77, .slice A5 x4.length k6), (79, .int .u64 (gi (0 : Int) x15 0))], rfl, ⟨.inl ⟨0, rfl, rfl, rfl, rfl⟩, .inl ⟨2, rfl, rfl, rfl, rfl⟩, trivial⟩, fun u a w T S => (by refine r_slQ (xs := x4) T rfl (fun h => by cases h) rfl rfl rfl (Int.le_refl _) h23.1 h23.2 (by have := h23.2; omega) (by omega) Try.runUnderlying24 Try.sizeOf5 rfl fun _ T => ?_; exact ⟨rfl, T⟩)⟩, ⟨_, [(0, .slice A12 x11.length k13)], rfl, ⟨.inr ⟨rfl, rfl⟩, trivial⟩, fun u a w T S => (by refine r_pv T rfl rfl fun _ T => ?_; exact ⟨rfl, T⟩)⟩, ⟨_, [(8, .pointer (some ⟨b9, 0, none⟩))], rfl, ⟨.inr ⟨rfl, rfl⟩, trivial⟩, fun u a w T S => (by refine r_iaA T rfl rfl Try.runUnderlying121 Try.sizeOf34 (by decide) (by decide) rfl fun _ T => ?_; exact ⟨rfl, T⟩)⟩, ⟨_, [(82, .pointer (some (eA (some ⟨b9, 0, none⟩) (Int.toNat 1 * 1))))], rfl, ⟨.inl ⟨5, rfl, rfl, rfl, rfl⟩, trivial⟩, fun u a w T S => (by refine r_ldE (ix := 7) (i := 1) (off := 0) (A := (some ⟨b9, 0, none⟩)) (f := (Value.int .u64)) T S rfl Try.isAgg34 rfl (0 : Int) _ rfl rfl (Fld.all _) (by decide) (by have q1_ : (1 : Int) < 4 := (by decide); have q2_ := h16; omega) (fun h => h) rfl fun _ T => ?_; exact ⟨rfl, T⟩)⟩, ⟨_, [(81, .slice A12 x11.length k13), (83, .int .u64 (gi (0 : Int) x15 1))], rfl, ⟨.inl ⟨4, rfl, rfl, rfl, rfl⟩, .inl ⟨6, rfl, rfl, rfl, rfl⟩, trivial⟩, fun u a w T S => (by refine r_slQ (xs := x11) T rfl (fun h => by cases h) rfl rfl rfl (Int.le_refl _) h25.1 h25.2 (by have := h25.2; omega) (by omega) Try.runUnderlying24 Try.sizeOf5 rfl fun _ T => ?_; exact ⟨rfl, T⟩)⟩, trivial⟩ rfl (fun i hi => ?_) (fun h => by cases h)
            cases hi
            refine ⟨rfl, _, [(80, .slice (slA A5 (Int.toNat (k6 : Int)) (Int.toNat 0) 1) ((cut x4 (Int.toNat 0) (Int.toNat (gi (0 : Int) x15 0))).length) (Int.toNat (k6 : Int) - Int.toNat 0)), (84, .slice (slA A12 (Int.toNat (k13 : Int)) (Int.toNat 0) 1) ((cut x11 (Int.toNat 0) (Int.toNat (gi (0 : Int) x15 1))).length) (Int.toNat (k13 : Int) - Int.toNat 0))], rfl, ⟨.inl ⟨3, rfl, rfl, rfl, rfl⟩, .inl ⟨7, rfl, rfl, rfl, rfl⟩, trivial⟩, fun u a w T S => ?_⟩
            replace S := S.asVal (i := 1) (xs := (cut x4 (Int.toNat 0) (Int.toNat (gi (0 : Int) x15 0)))) rfl
            replace S := S.asVal (i := 1) (xs := (cut x11 (Int.toNat 0) (Int.toNat (gi (0 : Int) x15 1)))) rfl
            refine r_bsl (κ := (kSl ku8)) (xs := [(cut x4 (Int.toNat 0) (Int.toNat (gi (0 : Int) x15 0))), (cut x11 (Int.toNat 0) (Int.toNat (gi (0 : Int) x15 1)))]) (vs := [.slice (slA A5 (Int.toNat (k6 : Int)) (Int.toNat 0) 1) ((cut x4 (Int.toNat 0) (Int.toNat (gi (0 : Int) x15 0))).length) (Int.toNat (k6 : Int) - Int.toNat 0), .slice (slA A12 (Int.toNat (k13 : Int)) (Int.toNat 0) 1) ((cut x11 (Int.toNat 0) (Int.toNat (gi (0 : Int) x15 1))).length) (Int.toNat (k13 : Int) - Int.toNat 0)]) T S sty62 rfl ⟨_, _, rfl, ⟨1, rfl⟩, ⟨_, _, rfl, ⟨0, rfl⟩, rfl⟩⟩ rfl (by decide) rfl fun _ _ b26 S T => ?_
            replace S : SL ([sl .own (kSl ku8) (some ⟨b26, 0, none⟩) 2 [(cut x4 (Int.toNat 0) (Int.toNat (gi (0 : Int) x15 0))), (cut x11 (Int.toNat 0) (Int.toNat (gi (0 : Int) x15 1)))], sl .ro ku8 (slA A12 (Int.toNat (k13 : Int)) (Int.toNat 0) 1) (Int.toNat (k13 : Int) - Int.toNat 0) (cut x11 (Int.toNat 0) (Int.toNat (gi (0 : Int) x15 1))), sl .ro ku8 (slA A5 (Int.toNat (k6 : Int)) (Int.toNat 0) 1) (Int.toNat (k6 : Int) - Int.toNat 0) (cut x4 (Int.toNat 0) (Int.toNat (gi (0 : Int) x15 0))), sl .ro ku8 A2 k3 x1, sl .ro ku8 A5 k6 x4, sl .ro ku8 A12 k13 x11, blk b7 [.slice none 0 0, .int .u64 0, .bool false, .slice none 0 0], blk b8 [.slice none 0 0, .int .u64 (gi (0 : Int) x15 2), .bool x14, .slice none 0 0], sl .own ku64 (some ⟨b9, 0, none⟩) 4 x15, pr (x15.length = 4)] ++ F) _ := S.only [0, 2, 2, 2, 2, 2, 2, 2, 2, 2] rfl
            refine ⟨_, [some (.slice A5 x4.length k6, true), some (.pointer (some (eA (some ⟨b9, 0, none⟩) (Int.toNat 0 * 1))), true), some (.int .u64 (gi (0 : Int) x15 0), true), some (.slice (slA A5 (Int.toNat (k6 : Int)) (Int.toNat 0) 1) ((cut x4 (Int.toNat 0) (Int.toNat (gi (0 : Int) x15 0))).length) (Int.toNat (k6 : Int) - Int.toNat 0), false), some (.slice A12 x11.length k13, true), some (.pointer (some (eA (some ⟨b9, 0, none⟩) (Int.toNat 1 * 1))), true), some (.int .u64 (gi (0 : Int) x15 1), true), some (.slice (slA A12 (Int.toNat (k13 : Int)) (Int.toNat 0) 1) ((cut x11 (Int.toNat 0) (Int.toNat (gi (0 : Int) x15 1))).length) (Int.toNat (k13 : Int) - Int.toNat 0), false), some (.slice (some ⟨b26, 0, none⟩) 2 2, false), none, none, none], [sl .own (kSl ku8) (some ⟨b26, 0, none⟩) 2 [(cut x4 (Int.toNat 0) (Int.toNat (gi (0 : Int) x15 0))), (cut x11 (Int.toNat 0) (Int.toNat (gi (0 : Int) x15 1)))], sl .ro ku8 (slA A12 (Int.toNat (k13 : Int)) (Int.toNat 0) 1) (Int.toNat (k13 : Int) - Int.toNat 0) (cut x11 (Int.toNat 0) (Int.toNat (gi (0 : Int) x15 1))), sl .ro ku8 (slA A5 (Int.toNat (k6 : Int)) (Int.toNat 0) 1) (Int.toNat (k6 : Int) - Int.toNat 0) (cut x4 (Int.toNat 0) (Int.toNat (gi (0 : Int) x15 0))), sl .ro ku8 A2 k3 x1, sl .ro ku8 A5 k6 x4, sl .ro ku8 A12 k13 x11, blk b7 [.slice none 0 0, .int .u64 0, .bool false, .slice none 0 0], blk b8 [.slice none 0 0, .int .u64 (gi (0 : Int) x15 2), .bool x14, .slice none 0 0], sl .own ku64 (some ⟨b9, 0, none⟩) 4 x15, pr (x15.length = 4)], rfl, ⟨.inr ⟨_, _, _, rfl, rfl⟩, .inr ⟨_, _, _, rfl, rfl⟩, .inr ⟨_, _, _, rfl, rfl⟩, .inr ⟨_, _, _, rfl, rfl⟩, .inr ⟨_, _, _, rfl, rfl⟩, .inr ⟨_, _, _, rfl, rfl⟩, .inr ⟨_, _, _, rfl, rfl⟩, .inr ⟨_, _, _, rfl, rfl⟩, .inl rfl, .inl rfl, .inl rfl, .inl rfl, trivial⟩, rfl, ?_, T, S⟩
            refine stage (some 9) rfl rfl ⟨⟨_, [(1, .slice A5 x4.length k6)], rfl, ⟨.inr ⟨rfl, rfl⟩, trivial⟩, fun u a w T S => (by refine r_pv T rfl rfl fun _ T => ?_; exact ⟨rfl, T⟩)⟩, ⟨_, [(8, .pointer (some ⟨b9, 0, none⟩))], rfl, ⟨.inr ⟨rfl, rfl⟩, trivial⟩, fun u a w T S => (by refine r_iaA T rfl rfl Try.runUnderlying121 Try.sizeOf34 (by decide) (by decide) rfl fun _ T => ?_; exact ⟨rfl, T⟩)⟩, ⟨_, [(78, .pointer (some (eA (some ⟨b9, 0, none⟩) (Int.toNat 0 * 1))))], rfl, ⟨.inl ⟨1, rfl, rfl, rfl, rfl⟩, trivial⟩, fun u a w T S => (by refine r_ldE (ix := 8) (i := 0) (off := 0) (A := (some ⟨b9, 0, none⟩)) (f := (Value.int .u64)) T S rfl Try.isAgg34 rfl (0 : Int) _ rfl rfl (Fld.all _) (by decide) (by have q1_ : (0 : Int) < 4 := (by decide); have q2_ := h16; omega) (fun h => h) rfl fun _ T => ?_; exact ⟨rfl, T⟩)⟩, ⟨_, [(0, .slice A12 x11.length k13)], rfl, ⟨.inr ⟨rfl, rfl⟩, trivial⟩, fun u a w T S => (by refine r_pv T rfl rfl fun _ T => ?_; exact ⟨rfl, T⟩)⟩, ⟨_, [(8, .pointer (some ⟨b9, 0, none⟩))], rfl, ⟨.inr ⟨rfl, rfl⟩, trivial⟩, fun u a w T S => (by refine r_iaA T rfl rfl Try.runUnderlying121 Try.sizeOf34 (by decide) (by decide) rfl fun _ T => ?_; exact ⟨rfl, T⟩)⟩, ⟨_, [(82, .pointer (some (eA (some ⟨b9, 0, none⟩) (Int.toNat 1 * 1))))], rfl, ⟨.inl ⟨5, rfl, rfl, rfl, rfl⟩, trivial⟩, fun u a w T S => (by refine r_ldE (ix := 8) (i := 1) (off := 0) (A := (some ⟨b9, 0, none⟩)) (f := (Value.int .u64)) T S rfl Try.isAgg34 rfl (0 : Int) _ rfl rfl (Fld.all _) (by decide) (by have q1_ : (1 : Int) < 4 := (by decide); have q2_ := h16; omega) (fun h => h) rfl fun _ T => ?_; exact ⟨rfl, T⟩)⟩, trivial⟩ rfl (fun i hi => ?_) (fun h => by cases h)
            cases hi
            refine ⟨rfl, _, [(85, .slice (some ⟨b26, 0, none⟩) 2 2)], rfl, ⟨.inl ⟨8, rfl, rfl, rfl, rfl⟩, trivial⟩, fun u a w T S => ?_⟩
            obtain ⟨x28, h27, H⟩ := bd H
            refine r_call T Try.call58 rfl rfl (slices_Concat_byte.ok _ _ z [(cut x4 (Int.toNat 0) (Int.toNat (gi (0 : Int) x15 0))), (cut x11 (Int.toNat 0) (Int.toNat (gi (0 : Int) x15 1)))] (S.sel (p := [sl .own (kSl ku8) (some ⟨b26, 0, none⟩) 2 [(cut x4 (Int.toNat 0) (Int.toNat (gi (0 : Int) x15 0))), (cut x11 (Int.toNat 0) (Int.toNat (gi (0 : Int) x15 1)))]]) (is := [0]) rfl) _ h27) ?_
            rintro _ _ ⟨A29, k30, rfl, S⟩
            refine ⟨_, rfl, fun _ T => ?_⟩
            replace S : SL ([sl .own ku8 A29 k30 x28, sl .own (kSl ku8) (some ⟨b26, 0, none⟩) 2 [(cut x4 (Int.toNat 0) (Int.toNat (gi (0 : Int) x15 0))), (cut x11 (Int.toNat 0) (Int.toNat (gi (0 : Int) x15 1)))], sl .ro ku8 (slA A12 (Int.toNat (k13 : Int)) (Int.toNat 0) 1) (Int.toNat (k13 : Int) - Int.toNat 0) (cut x11 (Int.toNat 0) (Int.toNat (gi (0 : Int) x15 1))), sl .ro ku8 (slA A5 (Int.toNat (k6 : Int)) (Int.toNat 0) 1) (Int.toNat (k6 : Int) - Int.toNat 0) (cut x4 (Int.toNat 0) (Int.toNat (gi (0 : Int) x15 0))), sl .ro ku8 A2 k3 x1, sl .ro ku8 A5 k6 x4, sl .ro ku8 A12 k13 x11, blk b7 [.slice none 0 0, .int .u64 0, .bool false, .slice none 0 0], blk b8 [.slice none 0 0, .int .u64 (gi (0 : Int) x15 2), .bool x14, .slice none 0 0], sl .own ku64 (some ⟨b9, 0, none⟩) 4 x15, pr (x15.length = 4)] ++ F) _ := S.join
            refine ⟨_, [some (.slice A5 x4.length k6, true), some (.pointer (some (eA (some ⟨b9, 0, none⟩) (Int.toNat 0 * 1))), true), some (.int .u64 (gi (0 : Int) x15 0), true), some (.slice (slA A5 (Int.toNat (k6 : Int)) (Int.toNat 0) 1) ((cut x4 (Int.toNat 0) (Int.toNat (gi (0 : Int) x15 0))).length) (Int.toNat (k6 : Int) - Int.toNat 0), false), some (.slice A12 x11.length k13, true), some (.pointer (some (eA (some ⟨b9, 0, none⟩) (Int.toNat 1 * 1))), true), some (.int .u64 (gi (0 : Int) x15 1), true), some (.slice (slA A12 (Int.toNat (k13 : Int)) (Int.toNat 0) 1) ((cut x11 (Int.toNat 0) (Int.toNat (gi (0 : Int) x15 1))).length) (Int.toNat (k13 : Int) - Int.toNat 0), false), some (.slice (some ⟨b26, 0, none⟩) 2 2, false), some (.slice A29 x28.length k30, false), some (.pointer (some ⟨b8, 0, none⟩), true), none], [sl .own ku8 A29 k30 x28, sl .own (kSl ku8) (some ⟨b26, 0, none⟩) 2 [(cut x4 (Int.toNat 0) (Int.toNat (gi (0 : Int) x15 0))), (cut x11 (Int.toNat 0) (Int.toNat (gi (0 : Int) x15 1)))], sl .ro ku8 (slA A12 (Int.toNat (k13 : Int)) (Int.toNat 0) 1) (Int.toNat (k13 : Int) - Int.toNat 0) (cut x11 (Int.toNat 0) (Int.toNat (gi (0 : Int) x15 1))), sl .ro ku8 (slA A5 (Int.toNat (k6 : Int)) (Int.toNat 0) 1) (Int.toNat (k6 : Int) - Int.toNat 0) (cut x4 (Int.toNat 0) (Int.toNat (gi (0 : Int) x15 0))), sl .ro ku8 A2 k3 x1, sl .ro ku8 A5 k6 x4, sl .ro ku8 A12 k13 x11, blk b7 [.slice none 0 0, .int .u64 0, .bool false, .slice none 0 0], blk b8 [.slice none 0 0, .int .u64 (gi (0 : Int) x15 2), .bool x14, .slice none 0 0], sl .own ku64 (some ⟨b9, 0, none⟩) 4 x15, pr (x15.length = 4)], rfl, ⟨.inr ⟨_, _, _, rfl, rfl⟩, .inr ⟨_, _, _, rfl, rfl⟩, .inr ⟨_, _, _, rfl, rfl⟩, .inr ⟨_, _, _, rfl, rfl⟩, .inr ⟨_, _, _, rfl, rfl⟩, .inr ⟨_, _, _, rfl, rfl⟩, .inr ⟨_, _, _, rfl, rfl⟩, .inr ⟨_, _, _, rfl, rfl⟩, .inr ⟨_, _, _, rfl, rfl⟩, .inl rfl, .inl rfl, .inl rfl, trivial⟩, rfl, ?_, T, S⟩
            refine stage (some 11) rfl rfl ⟨⟨_, [(1, .slice A5 x4.length k6)], rfl, ⟨.inr ⟨rfl, rfl⟩, trivial⟩, fun u a w T S => (by refine r_pv T rfl rfl fun _ T => ?_; exact ⟨rfl, T⟩)⟩, ⟨_, [(8, .pointer (some ⟨b9, 0, none⟩))], rfl, ⟨.inr ⟨rfl, rfl⟩, trivial⟩, fun u a w T S => (by refine r_iaA T rfl rfl Try.runUnderlying121 Try.sizeOf34 (by decide) (by decide) rfl fun _ T => ?_; exact ⟨rfl, T⟩)⟩, ⟨_, [(78, .pointer (some (eA (some ⟨b9, 0, none⟩) (Int.toNat 0 * 1))))], rfl, ⟨.inl ⟨1, rfl, rfl, rfl, rfl⟩, trivial⟩, fun u a w T S => (by refine r_ldE (ix := 9) (i := 0) (off := 0) (A := (some ⟨b9, 0, none⟩)) (f := (Value.int .u64)) T S rfl Try.isAgg34 rfl (0 : Int) _ rfl rfl (Fld.all _) (by decide) (by have q1_ : (0 : Int) < 4 := (by decide); have q2_ := h16; omega) (fun h => h) rfl fun _ T => ?_; exact ⟨rfl, T⟩)⟩, ⟨_, [(0, .slice A12 x11.length k13)], rfl, ⟨.inr ⟨rfl, rfl⟩, trivial⟩, fun u a w T S => (by refine r_pv T rfl rfl fun _ T => ?_; exact ⟨rfl, T⟩)⟩, ⟨_, [(8, .pointer (some ⟨b9, 0, none⟩))], rfl, ⟨.inr ⟨rfl, rfl⟩, trivial⟩, fun u a w T S => (by refine r_iaA T rfl rfl Try.runUnderlying121 Try.sizeOf34 (by decide) (by decide) rfl fun _ T => ?_; exact ⟨rfl, T⟩)⟩, ⟨_, [(82, .pointer (some (eA (some ⟨b9, 0, none⟩) (Int.toNat 1 * 1))))], rfl, ⟨.inl ⟨5, rfl, rfl, rfl, rfl⟩, trivial⟩, fun u a w T S => (by refine r_ldE (ix := 9) (i := 1) (off := 0) (A := (some ⟨b9, 0, none⟩)) (f := (Value.int .u64)) T S rfl Try.isAgg34 rfl (0 : Int) _ rfl rfl (Fld.all _) (by decide) (by have q1_ : (1 : Int) < 4 := (by decide); have q2_ := h16; omega) (fun h => h) rfl fun _ T => ?_; exact ⟨rfl, T⟩)⟩, ⟨_, [(7, .pointer (some ⟨b8, 0, none⟩))], rfl, ⟨.inr ⟨rfl, rfl⟩, trivial⟩, fun u a w T S => (by refine r_fa (o' := 0) T rfl Try.runUnderlying36 rfl Try.sizeOf24 rfl rfl fun _ T => ?_; exact ⟨rfl, T⟩)⟩, trivial⟩ rfl (fun i hi => ?_) (fun h => by cases h)
            cases hi
            refine ⟨rfl, _, [(86, .slice A29 x28.length k30), (87, .pointer (some ⟨b8, 0, none⟩))], rfl, ⟨.inl ⟨9, rfl, rfl, rfl, rfl⟩, .inl ⟨10, rfl, rfl, rfl, rfl⟩, trivial⟩, fun u a w T S => ?_⟩
            refine r_stB (ix := 8) (l' := [sl .own ku8 A29 k30 x28, sl .own (kSl ku8) (some ⟨b26, 0, none⟩) 2 [(cut x4 (Int.toNat 0) (Int.toNat (gi (0 : Int) x15 0))), (cut x11 (Int.toNat 0) (Int.toNat (gi (0 : Int) x15 1)))], sl .ro ku8 (slA A12 (Int.toNat (k13 : Int)) (Int.toNat 0) 1) (Int.toNat (k13 : Int) - Int.toNat 0) (cut x11 (Int.toNat 0) (Int.toNat (gi (0 : Int) x15 1))), sl .ro ku8 (slA A5 (Int.toNat (k6 : Int)) (Int.toNat 0) 1) (Int.toNat (k6 : Int) - Int.toNat 0) (cut x4 (Int.toNat 0) (Int.toNat (gi (0 : Int) x15 0))), sl .ro ku8 A2 k3 x1, sl .ro ku8 A5 k6 x4, sl .ro ku8 A12 k13 x11, blk b7 [.slice none 0 0, .int .u64 0, .bool false, .slice none 0 0], blk b8 [.slice A29 x28.length k30, .int .u64 (gi (0 : Int) x15 2), .bool x14, .slice none 0 0], sl .own ku64 (some ⟨b9, 0, none⟩) 4 x15, pr (x15.length = 4)]) T S rfl rfl rfl Try.sizeOf24 rfl (Nat.le_of_ble_eq_true rfl) rfl fun _ S => ?_
            refine ⟨_, [some (.slice A5 x4.length k6, false), some (.pointer (some (eA (some ⟨b9, 0, none⟩) (Int.toNat 0 * 1))), false), some (.int .u64 (gi (0 : Int) x15 0), false), some (.slice (slA A5 (Int.toNat (k6 : Int)) (Int.toNat 0) 1) ((cut x4 (Int.toNat 0) (Int.toNat (gi (0 : Int) x15 0))).length) (Int.toNat (k6 : Int) - Int.toNat 0), false), some (.slice A12 x11.length k13, false), some (.pointer (some (eA (some ⟨b9, 0, none⟩) (Int.toNat 1 * 1))), false), some (.int .u64 (gi (0 : Int) x15 1), false), some (.slice (slA A12 (Int.toNat (k13 : Int)) (Int.toNat 0) 1) ((cut x11 (Int.toNat 0) (Int.toNat (gi (0 : Int) x15 1))).length) (Int.toNat (k13 : Int) - Int.toNat 0), false), some (.slice (some ⟨b26, 0, none⟩) 2 2, false), some (.slice A29 x28.length k30, false), some (.pointer (some ⟨b8, 0, none⟩), false), some (undef, false)], [sl .own ku8 A29 k30 x28, sl .own (kSl ku8) (some ⟨b26, 0, none⟩) 2 [(cut x4 (Int.toNat 0) (Int.toNat (gi (0 : Int) x15 0))), (cut x11 (Int.toNat 0) (Int.toNat (gi (0 : Int) x15 1)))], sl .ro ku8 (slA A12 (Int.toNat (k13 : Int)) (Int.toNat 0) 1) (Int.toNat (k13 : Int) - Int.toNat 0) (cut x11 (Int.toNat 0) (Int.toNat (gi (0 : Int) x15 1))), sl .ro ku8 (slA A5 (Int.toNat (k6 : Int)) (Int.toNat 0) 1) (Int.toNat (k6 : Int) - Int.toNat 0) (cut x4 (Int.toNat 0) (Int.toNat (gi (0 : Int) x15 0))), sl .ro ku8 A2 k3 x1, sl .ro ku8 A5 k6 x4, sl .ro ku8 A12 k13 x11, blk b7 [.slice none 0 0, .int .u64 0, .bool false, .slice none 0 0], blk b8 [.slice A29 x28.length k30, .int .u64 (gi (0 : Int) x15 2), .bool x14, .slice none 0 0], sl .own ku64 (some ⟨b9, 0, none⟩) 4 x15, pr (x15.length = 4)], rfl, ⟨.inr ⟨_, _, _, rfl, rfl⟩, .inr ⟨_, _, _, rfl, rfl⟩, .inr ⟨_, _, _, rfl, rfl⟩, .inr ⟨_, _, _, rfl, rfl⟩, .inr ⟨_, _, _, rfl, rfl⟩, .inr ⟨_, _, _, rfl, rfl⟩, .inr ⟨_, _, _, rfl, rfl⟩, .inr ⟨_, _, _, rfl, rfl⟩, .inr ⟨_, _, _, rfl, rfl⟩, .inr ⟨_, _, _, rfl, rfl⟩, .inr ⟨_, _, _, rfl, rfl⟩, .inl rfl, trivial⟩, rfl, ?_, T, S⟩
            refine stage none rfl rfl trivial rfl (fun i hi => by cases hi) (fun _ _ a w T hv hb S => ?_)
            replace T := T.sub (r := [(0, .slice A12 x11.length k13), (4, .pointer (some ⟨b7, 0, none⟩)), (7, .pointer (some ⟨b8, 0, none⟩)), (8, .pointer (some ⟨b9, 0, none⟩))]) ⟨hb 0 _ rfl rfl, hb 4 _ rfl rfl, hb 7 _ rfl rfl, hb 8 _ rfl rfl, trivial⟩
            refine Gets.seq ?_
            refine rg ?_
            refine r_pv T rfl rfl fun _ T => ?_
            refine r_iaA T rfl rfl Try.runUnderlying121 Try.sizeOf34 (by decide) (by decide) rfl fun _ T => ?_
            refine r_ldE (ix := 9) (i := 1) (off := 0) (A := (some ⟨b9, 0, none⟩)) (f := (Value.int .u64)) T S rfl Try.isAgg34 rfl (0 : Int) _ rfl rfl (Fld.all _) (by decide) (by have q1_ : (1 : Int) < 4 := (by decide); have q2_ := h16; omega) (fun h => h) rfl fun _ T => ?_
            refine r_slR (ix := 6) (xs := x11) T S rfl rfl (fun h => by cases h) rfl rfl rfl h25.1 h25.2 (Int.le_refl _) (by omega) (by omega) Try.runUnderlying24 Try.sizeOf5 rfl fun _ A31 S T => ?_
            refine r_pv T rfl rfl fun _ T => ?_
            refine Gets.seq ?_
            refine rg ?_
            refine r_pv T rfl rfl fun _ T => ?_
            refine r_iaA T rfl rfl Try.runUnderlying121 Try.sizeOf34 (by decide) (by decide) rfl fun _ T => ?_
            refine r_ldE (ix := 10) (i := 3) (off := 0) (A := (some ⟨b9, 0, none⟩)) (f := (Value.int .u64)) T S rfl Try.isAgg34 rfl (0 : Int) _ rfl rfl (Fld.all _) (by decide) (by have q1_ : (3 : Int) < 4 := (by decide); have q2_ := h16; omega) (fun h => h) rfl fun _ T => ?_
            have h32 := S.len (i := 0) rfl
            obtain ⟨h33, H⟩ := ck H
            refine r_slR (ix := 0) (xs := (cut x11 (Int.toNat (gi (0 : Int) x15 1)) (Int.toNat (x11.length : Int)))) T S rfl rfl (fun h => by cases h) rfl rfl rfl (Int.le_refl _) h33.1 h33.2 (by have := h33.2; omega) (by omega) Try.runUnderlying24 Try.sizeOf5 rfl fun _ A34 S T => ?_
            obtain ⟨x36, h35, H⟩ := bd H
            refine r_call T Try.call32 rfl rfl (bytes_Clone.ok _ _ (cut (cut x11 (Int.toNat (gi (0 : Int) x15 1)) (Int.toNat (x11.length : Int))) (Int.toNat 0) (Int.toNat (gi (0 : Int) x15 3))) (S.sel (p := [sl .ro ku8 A34 (Int.toNat (((Int.toNat (k13 : Int) - Int.toNat (gi (0 : Int) x15 1)) : Nat) : Int) - Int.toNat 0) (cut (cut x11 (Int.toNat (gi (0 : Int) x15 1)) (Int.toNat (x11.length : Int))) (Int.toNat 0) (Int.toNat (gi (0 : Int) x15 3)))]) (is := [0]) rfl) _ h35) ?_
            rintro _ _ ⟨A37, k38, rfl, S⟩
            refine ⟨_, rfl, fun _ T => ?_⟩
            replace S : SL ([sl .own ku8 A37 k38 x36, sl .ro ku8 A34 (Int.toNat (((Int.toNat (k13 : Int) - Int.toNat (gi (0 : Int) x15 1)) : Nat) : Int) - Int.toNat 0) (cut (cut x11 (Int.toNat (gi (0 : Int) x15 1)) (Int.toNat (x11.length : Int))) (Int.toNat 0) (Int.toNat (gi (0 : Int) x15 3))), sl .ro ku8 A31 (Int.toNat (k13 : Int) - Int.toNat (gi (0 : Int) x15 1)) (cut x11 (Int.toNat (gi (0 : Int) x15 1)) (Int.toNat (x11.length : Int))), sl .own ku8 A29 k30 x28, sl .own (kSl ku8) (some ⟨b26, 0, none⟩) 2 [(cut x4 (Int.toNat 0) (Int.toNat (gi (0 : Int) x15 0))), (cut x11 (Int.toNat 0) (Int.toNat (gi (0 : Int) x15 1)))], sl .ro ku8 (slA A12 (Int.toNat (k13 : Int)) (Int.toNat 0) 1) (Int.toNat (k13 : Int) - Int.toNat 0) (cut x11 (Int.toNat 0) (Int.toNat (gi (0 : Int) x15 1))), sl .ro ku8 (slA A5 (Int.toNat (k6 : Int)) (Int.toNat 0) 1) (Int.toNat (k6 : Int) - Int.toNat 0) (cut x4 (Int.toNat 0) (Int.toNat (gi (0 : Int) x15 0))), sl .ro ku8 A2 k3 x1, sl .ro ku8 A5 k6 x4, sl .ro ku8 A12 k13 x11, blk b7 [.slice none 0 0, .int .u64 0, .bool false, .slice none 0 0], blk b8 [.slice A29 x28.length k30, .int .u64 (gi (0 : Int) x15 2), .bool x14, .slice none 0 0], sl .own ku64 (some ⟨b9, 0, none⟩) 4 x15, pr (x15.length = 4)] ++ F) _ := S.join
            obtain ⟨x40, h39, H⟩ := bd H
            refine r_call T Try.call31 rfl rfl (slices_Clip_byte.ok _ _ x36 (S.sel (p := [sl .own ku8 A37 k38 x36]) (is := [0]) rfl) _ h39) ?_
            rintro _ _ ⟨A41, rfl, S⟩
            refine ⟨_, rfl, fun _ T => ?_⟩
            replace S : SL ([sl .own ku8 A41 x40.length x40, sl .ro ku8 A34 (Int.toNat (((Int.toNat (k13 : Int) - Int.toNat (gi (0 : Int) x15 1)) : Nat) : Int) - Int.toNat 0) (cut (cut x11 (Int.toNat (gi (0 : Int) x15 1)) (Int.toNat (x11.length : Int))) (Int.toNat 0) (Int.toNat (gi (0 : Int) x15 3))), sl .ro ku8 A31 (Int.toNat (k13 : Int) - Int.toNat (gi (0 : Int) x15 1)) (cut x11 (Int.toNat (gi (0 : Int) x15 1)) (Int.toNat (x11.length : Int))), sl .own ku8 A29 k30 x28, sl .own (kSl ku8) (some ⟨b26, 0, none⟩) 2 [(cut x4 (Int.toNat 0) (Int.toNat (gi (0 : Int) x15 0))), (cut x11 (Int.toNat 0) (Int.toNat (gi (0 : Int) x15 1)))], sl .ro ku8 (slA A12 (Int.toNat (k13 : Int)) (Int.toNat 0) 1) (Int.toNat (k13 : Int) - Int.toNat 0) (cut x11 (Int.toNat 0) (Int.toNat (gi (0 : Int) x15 1))), sl .ro ku8 (slA A5 (Int.toNat (k6 : Int)) (Int.toNat 0) 1) (Int.toNat (k6 : Int) - Int.toNat 0) (cut x4 (Int.toNat 0) (Int.toNat (gi (0 : Int) x15 0))), sl .ro ku8 A2 k3 x1, sl .ro ku8 A5 k6 x4, sl .ro ku8 A12 k13 x11, blk b7 [.slice none 0 0, .int .u64 0, .bool false, .slice none 0 0], blk b8 [.slice A29 x28.length k30, .int .u64 (gi (0 : Int) x15 2), .bool x14, .slice none 0 0], sl .own ku64 (some ⟨b9, 0, none⟩) 4 x15, pr (x15.length = 4)] ++ F) _ := S.join
            refine r_fa (o' := 3) T rfl Try.runUnderlying36 rfl Try.sizeOf24 rfl rfl fun _ T => ?_
            refine r_stB (ix := 11) (l' := [sl .own ku8 A41 x40.length x40, sl .ro ku8 A34 (Int.toNat (((Int.toNat (k13 : Int) - Int.toNat (gi (0 : Int) x15 1)) : Nat) : Int) - Int.toNat 0) (cut (cut x11 (Int.toNat (gi (0 : Int) x15 1)) (Int.toNat (x11.length : Int))) (Int.toNat 0) (Int.toNat (gi (0 : Int) x15 3))), sl .ro ku8 A31 (Int.toNat (k13 : Int) - Int.toNat (gi (0 : Int) x15 1)) (cut x11 (Int.toNat (gi (0 : Int) x15 1)) (Int.toNat (x11.length : Int))), sl .own ku8 A29 k30 x28, sl .own (kSl ku8) (some ⟨b26, 0, none⟩) 2 [(cut x4 (Int.toNat 0) (Int.toNat (gi (0 : Int) x15 0))), (cut x11 (Int.toNat 0) (Int.toNat (gi (0 : Int) x15 1)))], sl .ro ku8 (slA A12 (Int.toNat (k13 : Int)) (Int.toNat 0) 1) (Int.toNat (k13 : Int) - Int.toNat 0) (cut x11 (Int.toNat 0) (Int.toNat (gi (0 : Int) x15 1))), sl .ro ku8 (slA A5 (Int.toNat (k6 : Int)) (Int.toNat 0) 1) (Int.toNat (k6 : Int) - Int.toNat 0) (cut x4 (Int.toNat 0) (Int.toNat (gi (0 : Int) x15 0))), sl .ro ku8 A2 k3 x1, sl .ro ku8 A5 k6 x4, sl .ro ku8 A12 k13 x11, blk b7 [.slice none 0 0, .int .u64 0, .bool false, .slice none 0 0], blk b8 [.slice A29 x28.length k30, .int .u64 (gi (0 : Int) x15 2), .bool x14, .slice A41 x40.length x40.length], sl .own ku64 (some ⟨b9, 0, none⟩) 4 x15, pr (x15.length = 4)]) T S rfl rfl rfl Try.sizeOf24 rfl (Nat.le_of_ble_eq_true rfl) rfl fun _ S => ?_
            refine Gets.seq (Gets.seq ?_)
            replace S := S.cutR (ix := 2) (i := gi (0 : Int) x15 3) (j := ((cut x11 (Int.toNat (gi (0 : Int) x15 1)) (Int.toNat (x11.length : Int))).length : Int)) (k := (((Int.toNat (k13 : Int) - Int.toNat (gi (0 : Int) x15 1)) : Nat) : Int)) rfl h33.1 h33.2 (Int.le_refl _) (by omega) (by omega)
            refine Gets.drawn (l := [sl .ro ku8 (slA A31 (Int.toNat (((Int.toNat (k13 : Int) - Int.toNat (gi (0 : Int) x15 1)) : Nat) : Int)) (Int.toNat (gi (0 : Int) x15 3)) 1) (Int.toNat (((Int.toNat (k13 : Int) - Int.toNat (gi (0 : Int) x15 1)) : Nat) : Int) - Int.toNat (gi (0 : Int) x15 3)) (cut (cut x11 (Int.toNat (gi (0 : Int) x15 1)) (Int.toNat (x11.length : Int))) (Int.toNat (gi (0 : Int) x15 3)) (Int.toNat ((cut x11 (Int.toNat (gi (0 : Int) x15 1)) (Int.toNat (x11.length : Int))).length : Int))), sl .own ku8 A41 x40.length x40, sl .ro ku8 A34 (Int.toNat (((Int.toNat (k13 : Int) - Int.toNat (gi (0 : Int) x15 1)) : Nat) : Int) - Int.toNat 0) (cut (cut x11 (Int.toNat (gi (0 : Int) x15 1)) (Int.toNat (x11.length : Int))) (Int.toNat 0) (Int.toNat (gi (0 : Int) x15 3))), sl .ro ku8 A31 (Int.toNat (k13 : Int) - Int.toNat (gi (0 : Int) x15 1)) (cut x11 (Int.toNat (gi (0 : Int) x15 1)) (Int.toNat (x11.length : Int))), sl .own ku8 A29 k30 x28, sl .own (kSl ku8) (some ⟨b26, 0, none⟩) 2 [(cut x4 (Int.toNat 0) (Int.toNat (gi (0 : Int) x15 0))), (cut x11 (Int.toNat 0) (Int.toNat (gi (0 : Int) x15 1)))], sl .ro ku8 (slA A12 (Int.toNat (k13 : Int)) (Int.toNat 0) 1) (Int.toNat (k13 : Int) - Int.toNat 0) (cut x11 (Int.toNat 0) (Int.toNat (gi (0 : Int) x15 1))), sl .ro ku8 (slA A5 (Int.toNat (k6 : Int)) (Int.toNat 0) 1) (Int.toNat (k6 : Int) - Int.toNat 0) (cut x4 (Int.toNat 0) (Int.toNat (gi (0 : Int) x15 0))), sl .ro ku8 A2 k3 x1, sl .ro ku8 A5 k6 x4, sl .ro ku8 A12 k13 x11, blk b7 [.slice none 0 0, .int .u64 0, .bool false, .slice none 0 0], blk b8 [.slice A29 x28.length k30, .int .u64 (gi (0 : Int) x15 2), .bool x14, .slice A41 x40.length x40.length], sl .own ku64 (some ⟨b9, 0, none⟩) 4 x15, pr (x15.length = 4)]) (V := [some (.agg #[.slice A29 x28.length k30, .int .u64 (gi (0 : Int) x15 2), .bool x14, .slice A41 x40.length x40.length], true), some (.slice A31 ((cut x11 (Int.toNat (gi (0 : Int) x15 1)) (Int.toNat (x11.length : Int))).length) (Int.toNat (k13 : Int) - Int.toNat (gi (0 : Int) x15 1)), true), some (.pointer (some (eA (some ⟨b9, 0, none⟩) (Int.toNat 3 * 1))), true), some (.int .u64 (gi (0 : Int) x15 3), true), some (.slice (slA A31 (Int.toNat (((Int.toNat (k13 : Int) - Int.toNat (gi (0 : Int) x15 1)) : Nat) : Int)) (Int.toNat (gi (0 : Int) x15 3)) 1) ((cut (cut x11 (Int.toNat (gi (0 : Int) x15 1)) (Int.toNat (x11.length : Int))) (Int.toNat (gi (0 : Int) x15 3)) (Int.toNat ((cut x11 (Int.toNat (gi (0 : Int) x15 1)) (Int.toNat (x11.length : Int))).length : Int))).length) (Int.toNat (((Int.toNat (k13 : Int) - Int.toNat (gi (0 : Int) x15 1)) : Nat) : Int) - Int.toNat (gi (0 : Int) x15 3)), true), none, none, none]) mixed T S rfl ?_
            refine stage (some 5) rfl rfl ⟨⟨_, [(7, .pointer (some ⟨b8, 0, none⟩))], rfl, ⟨.inr ⟨rfl, rfl⟩, trivial⟩, fun u a w T S => (by refine r_ldBA (ix := 12) (ds := [.slice A29 x28.length k30, .int .u64 (gi (0 : Int) x15 2), .bool x14, .slice A41 x40.length x40.length]) T S rfl Try.isAgg36 rfl rfl Try.sizeOf36 rfl fun _ T => ?_; exact ⟨rfl, T⟩)⟩, ⟨_, [(0, .slice A31 ((cut x11 (Int.toNat (gi (0 : Int) x15 1)) (Int.toNat (x11.length : Int))).length) (Int.toNat (k13 : Int) - Int.toNat (gi (0 : Int) x15 1)))], rfl, ⟨.inr ⟨rfl, rfl⟩, trivial⟩, fun u a w T S => (by refine r_pv T rfl rfl fun _ T => ?_; exact ⟨rfl, T⟩)⟩, ⟨_, [(8, .pointer (some ⟨b9, 0, none⟩))], rfl, ⟨.inr ⟨rfl, rfl⟩, trivial⟩, fun u a w T S => (by refine r_iaA T rfl rfl Try.runUnderlying121 Try.sizeOf34 (by decide) (by decide) rfl fun _ T => ?_; exact ⟨rfl, T⟩)⟩, ⟨_, [(101, .pointer (some (eA (some ⟨b9, 0, none⟩) (Int.toNat 3 * 1))))], rfl, ⟨.inl ⟨2, rfl, rfl, rfl, rfl⟩, trivial⟩, fun u a w T S => (by refine r_ldE (ix := 13) (i := 3) (off := 0) (A := (some ⟨b9, 0, none⟩)) (f := (Value.int .u64)) T S rfl Try.isAgg34 rfl (0 : Int) _ rfl rfl (Fld.all _) (by decide) (by have q1_ : (3 : Int) < 4 := (by decide); have q2_ := h16; omega) (fun h => h) rfl fun _ T => ?_; exact ⟨rfl, T⟩)⟩, ⟨_, [(100, .slice A31 ((cut x11 (Int.toNat (gi (0 : Int) x15 1)) (Int.toNat (x11.length : Int))).length) (Int.toNat (k13 : Int) - Int.toNat (gi (0 : Int) x15 1))), (102, .int .u64 (gi (0 : Int) x15 3))], rfl, ⟨.inl ⟨1, rfl, rfl, rfl, rfl⟩, .inl ⟨3, rfl, rfl, rfl, rfl⟩, trivial⟩, fun u a w T S => (by refine r_slQ (xs := (cut x11 (Int.toNat (gi (0 : Int) x15 1)) (Int.toNat (x11.length : Int)))) T rfl (fun h => by cases h) rfl rfl rfl h33.1 h33.2 (Int.le_refl _) (by omega) (by omega) Try.runUnderlying24 Try.sizeOf5 rfl fun _ T => ?_; exact ⟨rfl, T⟩)⟩, trivial⟩ rfl (fun i hi => ?_) (fun h => by cases h)
            cases hi
            refine ⟨rfl, _, [(4, .pointer (some ⟨b7, 0, none⟩)), (99, .agg #[.slice A29 x28.length k30, .int .u64 (gi (0 : Int) x15 2), .bool x14, .slice A41 x40.length x40.length])], rfl, ⟨.inr ⟨rfl, rfl⟩, .inl ⟨0, rfl, rfl, rfl, rfl⟩, trivial⟩, fun u a w T S => ?_⟩
            refine r_stBA (ix := 11) (vs := [.slice A29 x28.length k30, .int .u64 (gi (0 : Int) x15 2), .bool x14, .slice A41 x40.length x40.length]) (l' := [sl .ro ku8 (slA A31 (Int.toNat (((Int.toNat (k13 : Int) - Int.toNat (gi (0 : Int) x15 1)) : Nat) : Int)) (Int.toNat (gi (0 : Int) x15 3)) 1) (Int.toNat (((Int.toNat (k13 : Int) - Int.toNat (gi (0 : Int) x15 1)) : Nat) : Int) - Int.toNat (gi (0 : Int) x15 3)) (cut (cut x11 (Int.toNat (gi (0 : Int) x15 1)) (Int.toNat (x11.length : Int))) (Int.toNat (gi (0 : Int) x15 3)) (Int.toNat ((cut x11 (Int.toNat (gi (0 : Int) x15 1)) (Int.toNat (x11.length : Int))).length : Int))), sl .own ku8 A41 x40.length x40, sl .ro ku8 A34 (Int.toNat (((Int.toNat (k13 : Int) - Int.toNat (gi (0 : Int) x15 1)) : Nat) : Int) - Int.toNat 0) (cut (cut x11 (Int.toNat (gi (0 : Int) x15 1)) (Int.toNat (x11.length : Int))) (Int.toNat 0) (Int.toNat (gi (0 : Int) x15 3))), sl .ro ku8 A31 (Int.toNat (k13 : Int) - Int.toNat (gi (0 : Int) x15 1)) (cut x11 (Int.toNat (gi (0 : Int) x15 1)) (Int.toNat (x11.length : Int))), sl .own ku8 A29 k30 x28, sl .own (kSl ku8) (some ⟨b26, 0, none⟩) 2 [(cut x4 (Int.toNat 0) (Int.toNat (gi (0 : Int) x15 0))), (cut x11 (Int.toNat 0) (Int.toNat (gi (0 : Int) x15 1)))], sl .ro ku8 (slA A12 (Int.toNat (k13 : Int)) (Int.toNat 0) 1) (Int.toNat (k13 : Int) - Int.toNat 0) (cut x11 (Int.toNat 0) (Int.toNat (gi (0 : Int) x15 1))), sl .ro ku8 (slA A5 (Int.toNat (k6 : Int)) (Int.toNat 0) 1) (Int.toNat (k6 : Int) - Int.toNat 0) (cut x4 (Int.toNat 0) (Int.toNat (gi (0 : Int) x15 0))), sl .ro ku8 A2 k3 x1, sl .ro ku8 A5 k6 x4, sl .ro ku8 A12 k13 x11, blk b7 [.slice A29 x28.length k30, .int .u64 (gi (0 : Int) x15 2), .bool x14, .slice A41 x40.length x40.length], blk b8 [.slice A29 x28.length k30, .int .u64 (gi (0 : Int) x15 2), .bool x14, .slice A41 x40.length x40.length], sl .own ku64 (some ⟨b9, 0, none⟩) 4 x15, pr (x15.length = 4)]) T S rfl rfl rfl rfl (by simp) Try.sizeOf36 (Nat.le_of_ble_eq_true rfl) rfl fun _ S => ?_
            refine ⟨_, [some (.agg #[.slice A29 x28.length k30, .int .u64 (gi (0 : Int) x15 2), .bool x14, .slice A41 x40.length x40.length], false), some (.slice A31 ((cut x11 (Int.toNat (gi (0 : Int) x15 1)) (Int.toNat (x11.length : Int))).length) (Int.toNat (k13 : Int) - Int.toNat (gi (0 : Int) x15 1)), true), some (.pointer (some (eA (some ⟨b9, 0, none⟩) (Int.toNat 3 * 1))), true), some (.int .u64 (gi (0 : Int) x15 3), true), some (.slice (slA A31 (Int.toNat (((Int.toNat (k13 : Int) - Int.toNat (gi (0 : Int) x15 1)) : Nat) : Int)) (Int.toNat (gi (0 : Int) x15 3)) 1) ((cut (cut x11 (Int.toNat (gi (0 : Int) x15 1)) (Int.toNat (x11.length : Int))) (Int.toNat (gi (0 : Int) x15 3)) (Int.toNat ((cut x11 (Int.toNat (gi (0 : Int) x15 1)) (Int.toNat (x11.length : Int))).length : Int))).length) (Int.toNat (((Int.toNat (k13 : Int) - Int.toNat (gi (0 : Int) x15 1)) : Nat) : Int) - Int.toNat (gi (0 : Int) x15 3)), true), some (undef, false), some (.slice (slA A31 (Int.toNat (((Int.toNat (k13 : Int) - Int.toNat (gi (0 : Int) x15 1)) : Nat) : Int)) (Int.toNat (gi (0 : Int) x15 3)) 1) ((cut (cut x11 (Int.toNat (gi (0 : Int) x15 1)) (Int.toNat (x11.length : Int))) (Int.toNat (gi (0 : Int) x15 3)) (Int.toNat ((cut x11 (Int.toNat (gi (0 : Int) x15 1)) (Int.toNat (x11.length : Int))).length : Int))).length) (Int.toNat (((Int.toNat (k13 : Int) - Int.toNat (gi (0 : Int) x15 1)) : Nat) : Int) - Int.toNat (gi (0 : Int) x15 3)), true), some (.bool true, true)], [sl .ro ku8 (slA A31 (Int.toNat (((Int.toNat (k13 : Int) - Int.toNat (gi (0 : Int) x15 1)) : Nat) : Int)) (Int.toNat (gi (0 : Int) x15 3)) 1) (Int.toNat (((Int.toNat (k13 : Int) - Int.toNat (gi (0 : Int) x15 1)) : Nat) : Int) - Int.toNat (gi (0 : Int) x15 3)) (cut (cut x11 (Int.toNat (gi (0 : Int) x15 1)) (Int.toNat (x11.length : Int))) (Int.toNat (gi (0 : Int) x15 3)) (Int.toNat ((cut x11 (Int.toNat (gi (0 : Int) x15 1)) (Int.toNat (x11.length : Int))).length : Int))), sl .own ku8 A41 x40.length x40, sl .ro ku8 A34 (Int.toNat (((Int.toNat (k13 : Int) - Int.toNat (gi (0 : Int) x15 1)) : Nat) : Int) - Int.toNat 0) (cut (cut x11 (Int.toNat (gi (0 : Int) x15 1)) (Int.toNat (x11.length : Int))) (Int.toNat 0) (Int.toNat (gi (0 : Int) x15 3))), sl .ro ku8 A31 (Int.toNat (k13 : Int) - Int.toNat (gi (0 : Int) x15 1)) (cut x11 (Int.toNat (gi (0 : Int) x15 1)) (Int.toNat (x11.length : Int))), sl .own ku8 A29 k30 x28, sl .own (kSl ku8) (some ⟨b26, 0, none⟩) 2 [(cut x4 (Int.toNat 0) (Int.toNat (gi (0 : Int) x15 0))), (cut x11 (Int.toNat 0) (Int.toNat (gi (0 : Int) x15 1)))], sl .ro ku8 (slA A12 (Int.toNat (k13 : Int)) (Int.toNat 0) 1) (Int.toNat (k13 : Int) - Int.toNat 0) (cut x11 (Int.toNat 0) (Int.toNat (gi (0 : Int) x15 1))), sl .ro ku8 (slA A5 (Int.toNat (k6 : Int)) (Int.toNat 0) 1) (Int.toNat (k6 : Int) - Int.toNat 0) (cut x4 (Int.toNat 0) (Int.toNat (gi (0 : Int) x15 0))), sl .ro ku8 A2 k3 x1, sl .ro ku8 A5 k6 x4, sl .ro ku8 A12 k13 x11, blk b7 [.slice A29 x28.length k30, .int .u64 (gi (0 : Int) x15 2), .bool x14, .slice A41 x40.length x40.length], blk b8 [.slice A29 x28.length k30, .int .u64 (gi (0 : Int) x15 2), .bool x14, .slice A41 x40.length x40.length], sl .own ku64 (some ⟨b9, 0, none⟩) 4 x15, pr (x15.length = 4)], rfl, ⟨.inr ⟨_, _, _, rfl, rfl⟩, .inr ⟨_, _, _, rfl, rfl⟩, .inr ⟨_, _, _, rfl, rfl⟩, .inr ⟨_, _, _, rfl, rfl⟩, .inr ⟨_, _, _, rfl, rfl⟩, .inl rfl, .inl rfl, .inl rfl, trivial⟩, rfl, ?_, T, S⟩
            refine stage none rfl rfl ⟨⟨_, [(0, .slice A31 ((cut x11 (Int.toNat (gi (0 : Int) x15 1)) (Int.toNat (x11.length : Int))).length) (Int.toNat (k13 : Int) - Int.toNat (gi (0 : Int) x15 1)))], rfl, ⟨.inr ⟨rfl, rfl⟩, trivial⟩, fun u a w T S => (by refine r_pv T rfl rfl fun _ T => ?_; exact ⟨rfl, T⟩)⟩, ⟨_, [(8, .pointer (some ⟨b9, 0, none⟩))], rfl, ⟨.inr ⟨rfl, rfl⟩, trivial⟩, fun u a w T S => (by refine r_iaA T rfl rfl Try.runUnderlying121 Try.sizeOf34 (by decide) (by decide) rfl fun _ T => ?_; exact ⟨rfl, T⟩)⟩, ⟨_, [(101, .pointer (some (eA (some ⟨b9, 0, none⟩) (Int.toNat 3 * 1))))], rfl, ⟨.inl ⟨2, rfl, rfl, rfl, rfl⟩, trivial⟩, fun u a w T S => (by refine r_ldE (ix := 13) (i := 3) (off := 0) (A := (some ⟨b9, 0, none⟩)) (f := (Value.int .u64)) T S rfl Try.isAgg34 rfl (0 : Int) _ rfl rfl (Fld.all _) (by decide) (by have q1_ : (3 : Int) < 4 := (by decide); have q2_ := h16; omega) (fun h => h) rfl fun _ T => ?_; exact ⟨rfl, T⟩)⟩, ⟨_, [(100, .slice A31 ((cut x11 (Int.toNat (gi (0 : Int) x15 1)) (Int.toNat (x11.length : Int))).length) (Int.toNat (k13 : Int) - Int.toNat (gi (0 : Int) x15 1))), (102, .int .u64 (gi (0 : Int) x15 3))], rfl, ⟨.inl ⟨1, rfl, rfl, rfl, rfl⟩, .inl ⟨3, rfl, rfl, rfl, rfl⟩, trivial⟩, fun u a w T S => (by refine r_slQ (xs := (cut x11 (Int.toNat (gi (0 : Int) x15 1)) (Int.toNat (x11.length : Int)))) T rfl (fun h => by cases h) rfl rfl rfl h33.1 h33.2 (Int.le_refl _) (by omega) (by omega) Try.runUnderlying24 Try.sizeOf5 rfl fun _ T => ?_; exact ⟨rfl, T⟩)⟩, ⟨_, [(103, .slice (slA A31 (Int.toNat (((Int.toNat (k13 : Int) - Int.toNat (gi (0 : Int) x15 1)) : Nat) : Int)) (Int.toNat (gi (0 : Int) x15 3)) 1) ((cut (cut x11 (Int.toNat (gi (0 : Int) x15 1)) (Int.toNat (x11.length : Int))) (Int.toNat (gi (0 : Int) x15 3)) (Int.toNat ((cut x11 (Int.toNat (gi (0 : Int) x15 1)) (Int.toNat (x11.length : Int))).length : Int))).length) (Int.toNat (((Int.toNat (k13 : Int) - Int.toNat (gi (0 : Int) x15 1)) : Nat) : Int) - Int.toNat (gi (0 : Int) x15 3)))], rfl, ⟨.inl ⟨4, rfl, rfl, rfl, rfl⟩, trivial⟩, fun u a w T S => (by refine r_pv T rfl rfl fun _ T => ?_; exact ⟨rfl, T⟩)⟩, ⟨_, [], rfl, trivial, fun u a w T S => (by refine r_pv T rfl rfl fun _ T => ?_; exact ⟨rfl, T⟩)⟩, trivial⟩ rfl (fun i hi => by cases hi) (fun _ _ a w T hv hb S => ?_)
            replace T := T.sub (r := [(4, .pointer (some ⟨b7, 0, none⟩)), (5, .slice (slA A31 (Int.toNat (((Int.toNat (k13 : Int) - Int.toNat (gi (0 : Int) x15 1)) : Nat) : Int)) (Int.toNat (gi (0 : Int) x15 3)) 1) ((cut (cut x11 (Int.toNat (gi (0 : Int) x15 1)) (Int.toNat (x11.length : Int))) (Int.toNat (gi (0 : Int) x15 3)) (Int.toNat ((cut x11 (Int.toNat (gi (0 : Int) x15 1)) (Int.toNat (x11.length : Int))).length : Int))).length) (Int.toNat (((Int.toNat (k13 : Int) - Int.toNat (gi (0 : Int) x15 1)) : Nat) : Int) - Int.toNat (gi (0 : Int) x15 3))), (6, .bool true)]) ⟨hb 4 _ rfl rfl, hv 6 _ 5 rfl rfl rfl, hv 7 _ 6 rfl rfl rfl, trivial⟩
            replace H := Option.some.inj H
            subst H
            exact rtnM T S Try.func61 rfl ⟨_, _, rfl, ⟨b7, _, 11, rfl, rfl, .inl ⟨Try.isAgg36, Try.sizeOf36, rfl⟩⟩, ⟨_, _, rfl, rfl, ⟨_, _, rfl, rfl, rfl⟩⟩⟩ ⟨A29, k30, A41, x40.length, (slA A31 (Int.toNat (((Int.toNat (k13 : Int) - Int.toNat (gi (0 : Int) x15 1)) : Nat) : Int)) (Int.toNat (gi (0 : Int) x15 3)) 1), (Int.toNat (((Int.toNat (k13 : Int) - Int.toNat (gi (0 : Int) x15 1)) : Nat) : Int) - Int.toNat (gi (0 : Int) x15 3)), rfl, (S.only (p := [sl .own ku8 A29 k30 x28, sl .own ku8 A41 x40.length x40, sl .ro ku8 (slA A31 (Int.toNat (((Int.toNat (k13 : Int) - Int.toNat (gi (0 : Int) x15 1)) : Nat) : Int)) (Int.toNat (gi (0 : Int) x15 3)) 1) (Int.toNat (((Int.toNat (k13 : Int) - Int.toNat (gi (0 : Int) x15 1)) : Nat) : Int) - Int.toNat (gi (0 : Int) x15 3)) (cut (cut x11 (Int.toNat (gi (0 : Int) x15 1)) (Int.toNat (x11.length : Int))) (Int.toNat (gi (0 : Int) x15 3)) (Int.toNat ((cut x11 (Int.toNat (gi (0 : Int) x15 1)) (Int.toNat (x11.length : Int))).length : Int))), sl .ro ku8 A2 k3 x1, sl .ro ku8 A5 k6 x4]) [4, 1, 0, 5, 5] rfl)⟩
theorem ok (F : List Atom) (w : World) (z : Nat) (x1 : List Int) (x4 : List Int) {A2 : Option Addr} {k3 : Nat} {A5 : Option Addr} {k6 : Nat} (S : SL ([sl .ro ku8 A2 k3 x1, sl .ro ku8 A5 k6 x4] ++ F) w) (r : api_Entry × (List Int) × Bool) (H : f z x1 x4 = some r) : Calls Try.prog 61 #[.slice A2 x1.length k3, .slice A5 x4.length k6] w (R F x1 A2 k3 x4 A5 k6 r) := by
  refine enter (vs := [.slice A2 x1.length k3, .slice A5 x4.length k6]) Try.func61 rfl Try.ntmps61 (Nat.le_of_ble_eq_true rfl) fun a T => ?_
  refine Gets.seq ?_
  refine rg ?_
  refine r_alloc T S zv36 (cs := [.slice none 0 0, .int .u64 0, .bool false, .slice none 0 0]) rfl rfl fun _ _ b7 S T => ?_
  refine r_pv T rfl rfl fun _ T => ?_
  refine r_pv T rfl rfl fun _ T => ?_
  refine Gets.scope (Gets.seq ?_)
  refine rg ?_
  refine r_alloc T S zv36 (cs := [.slice none 0 0, .int .u64 0, .bool false, .slice none 0 0]) rfl rfl fun _ _ b8 S T => ?_
  refine Gets.seq ?_
  refine rg ?_
  refine r_alloc T S zv121 (cs := [.int .u64 0, .int .u64 0, .int .u64 0, .int .u64 0]) rfl rfl fun _ _ b9 S T => ?_
  replace S : SL ([sl .own ku64 (some ⟨b9, 0, none⟩) 4 [0, 0, 0, 0], blk b8 [.slice none 0 0, .int .u64 0, .bool false, .slice none 0 0], blk b7 [.slice none 0 0, .int .u64 0, .bool false, .slice none 0 0], sl .ro ku8 A2 k3 x1, sl .ro ku8 A5 k6 x4] ++ F) _ := S.asArr (κ := ku64) (xs := [0, 0, 0, 0]) (i := 0) rfl (fun _ => ⟨_, _, rfl, rfl, ⟨_, _, rfl, rfl, ⟨_, _, rfl, rfl, ⟨_, _, rfl, rfl, rfl⟩⟩⟩⟩) rfl
  have h10 : ([0, 0, 0, 0] : List Int).length = 4 := rfl
  refine Gets.seq (Gets.seq ?_)
  refine rg ?_
  refine r_pv T rfl rfl fun _ T => ?_
  refine Gets.block ?_
  refine Gets.loop ?_
  replace S := SL.prf h10 S
  replace S := S.dup (i := 4) rfl
  exact L0_ok F r z x1 A2 k3 x4 A5 k6 b7 b8 b9 z A2 x1 k3 0 false [0, 0, 0, 0] _ _ (T.sub ⟨rfl, rfl, rfl, rfl, rfl, rfl, trivial⟩) (S.only (p := [sl .ro ku8 A2 k3 x1, sl .ro ku8 A5 k6 x4, sl .ro ku8 A2 k3 x1, blk b7 [.slice none 0 0, .int .u64 0, .bool false, .slice none 0 0], blk b8 [.slice none 0 0, .int .u64 0, .bool false, .slice none 0 0], sl .own ku64 (some ⟨b9, 0, none⟩) 4 [0, 0, 0, 0], pr ([0, 0, 0, 0].length = 4)]) [5, 5, 0, 3, 2, 1, 0] rfl) H
end sstable_entry
end Go.Proofs.Ytghpokmkhlmgcaa

namespace Go.Proofs.Ytghpokmkhlmgcaa
open Go Go.Proofs.Ytghpokmkhlmgcaa.X
set_option linter.unusedVariables false
set_option linter.unusedSimpArgs false
set_option maxRecDepth 100000
set_option maxHeartbeats 4000000
/-! ### cormorant.sstable.entries: function 33 -/
namespace sstable_entries
noncomputable def c0 : Code := match Try.f33.body with | some c => c | none => .skip
def R (F : List Atom) (x1 : List Int) (A2 : Option Addr) (k3 : Nat) (r : (List api_Entry) × Int × Bool) : Ending → World → Prop := fun e w' => ∃ (A34 : Option Addr), ∃ (k35 : Nat), e = .returned (.tuple #[.slice A34 r.1.length k35, .int .i64 r.2.1, .bool r.2.2]) ∧ SL ([sl .own kapi_Entry A34 k35 r.1, sl .ro ku8 A2 k3 x1] ++ F) w'
def J1 (z : Nat) : Option ((List api_Entry) × Int × Bool) := some (([] : List api_Entry), 0, false)
def L0 (z : Nat) (x5 : Int × (List Int) × Int × Int) : Nat → (List Int) → (List api_Entry) → (List Int) → Option ((List api_Entry) × Int × Bool)
  | 0, _, _, _ => none
  | m + 1, x9, x12, x15 => If (decide ((x9.length : Int) > 0)) (Bd (sstable_entry.f z x9 x15) fun x20 => If (!x20.2.2) (J1 z) (If (decide ((x20.1.Key.length : Int) > 256)) (J1 z) (Ck ((x12.length + [x20.1].length) * 64 ≤ 140737488355328) (L0 z x5 m x20.2.1 (x12 ++ [x20.1]) x20.1.Key)))) (some (x12, x5.2.2.1, true))
def f (z : Nat) (x1 : List Int) : Option ((List api_Entry) × Int × Bool) := Bd (codec_TakeFrame.f z x1) fun x5 => If (x5.2.2.2 != 0) (some (([] : List api_Entry), 0, false)) (L0 z x5 z x5.2.1 [] [])
noncomputable def ptJ1 : List Item := [.code (cL (cT (cR (cL (cR (cB (cR (cB (cB (cL (cR (cR (cR (cR (cR c0))))))))))))))), .code (cR (cT (cR (cL (cR (cB (cR (cB (cB (cL (cR (cR (cR (cR (cR c0))))))))))))))), .code (cR (cR (cB (cR (cB (cB (cL (cR (cR (cR (cR (cR c0)))))))))))), .inBlock 1, .inLoop (cB (cB (cL (cR (cR (cR (cR (cR c0)))))))), .inBlock 0, .code (cR (cR (cR (cR (cR (cR c0))))))]
noncomputable def ptL0 : List Item := [.code (cB (cB (cL (cR (cR (cR (cR (cR c0)))))))), .inLoop (cB (cB (cL (cR (cR (cR (cR (cR c0)))))))), .inBlock 0, .code (cR (cR (cR (cR (cR (cR c0))))))]
theorem J1_ok (F : List Atom) (r : (List api_Entry) × Int × Bool) (z : Nat) (x1 : List Int) (A2 : Option Addr) (k3 : Nat) (a : Act) (w : World) (T : Tm 50 [] a) (S : SL ([sl .ro ku8 A2 k3 x1] ++ F) w) (H : J1 z = some r) : Gets Try.prog 33 ptJ1 a w (R F x1 A2 k3 r) := by
  refine rg ?_
  refine r_pv T rfl rfl fun _ T => ?_
  refine r_pv T rfl rfl fun _ T => ?_
  refine r_pv T rfl rfl fun _ T => ?_
  replace S := S.nil kapi_Entry .own
  replace H := Option.some.inj H
  subst H
  exact rtn T Try.func33 rfl rfl ⟨none, 0, rfl, (S.only (p := [sl .own kapi_Entry none 0 ([] : List api_Entry), sl .ro ku8 A2 k3 x1]) [0, 0] rfl)⟩
theorem L0_ok (F : List Atom) (r : (List api_Entry) × Int × Bool) (z : Nat) (x1 : List Int) (A2 : Option Addr) (k3 : Nat) (x5 : Int × (List Int) × Int × Int) (m : Nat) : ∀ (A10 : Option Addr) (x9 : List Int) (k11 : Nat) (A13 : Option Addr) (x12 : List api_Entry) (k14 : Nat) (A16 : Option Addr) (x15 : List Int) (k17 : Nat) (a : Act) (w : World), Tm 50 [(6, .slice A10 x9.length k11), (7, .int .i64 x5.2.2.1), (9, .slice A13 x12.length k14), (10, .slice A16 x15.length k17)] a → SL ([sl .ro ku8 A2 k3 x1, sl .ro ku8 A10 k11 x9, sl .own kapi_Entry A13 k14 x12, sl .ro ku8 A16 k17 x15] ++ F) w → L0 z x5 m x9 x12 x15 = some r → Gets Try.prog 33 ptL0 a w (R F x1 A2 k3 r) := by
  induction m with
  | zero => intro _ _ _ _ _ _ _ _ _ _ _ _ _ H; cases H
  | succ m ih =>
    intro A10 x9 k11 A13 x12 k14 A16 x15 k17 a w T S H
    refine Gets.seq ?_
    refine Gets.seq ?_
    refine rg ?_
    refine r_pv T rfl rfl fun _ T => ?_
    refine r_lenS T rfl Try.runUnderlying24 rfl fun _ T => ?_
    refine r_pv T rfl rfl fun _ T => ?_
    rcases ifE H with ⟨h18, H⟩ | ⟨h18, H⟩
    · refine cdT T rfl h18 ?_
      refine Gets.skip (Gets.block (Gets.seq ?_))
      refine rg ?_
      refine r_pv T rfl rfl fun _ T => ?_
      refine r_pv T rfl rfl fun _ T => ?_
      obtain ⟨x20, h19, H⟩ := bd H
      refine r_call T Try.call61 rfl rfl (sstable_entry.ok _ _ z x9 x15 (S.sel (p := [sl .ro ku8 A10 k11 x9, sl .ro ku8 A16 k17 x15]) (is := [1, 2]) rfl) _ h19) ?_
      rintro _ _ ⟨A21, k22, A23, k24, A25, k26, rfl, S⟩
      refine ⟨_, rfl, fun _ T => ?_⟩
      replace S : SL ([sl .own ku8 A21 k22 x20.1.Key, sl .own ku8 A23 k24 x20.1.Value, sl .ro ku8 A25 k26 x20.2.1, sl .ro ku8 A10 k11 x9, sl .ro ku8 A16 k17 x15, sl .ro ku8 A2 k3 x1, sl .own kapi_Entry A13 k14 x12] ++ F) _ := S.join
      refine r_pv T rfl rfl fun _ T => ?_
      refine r_pv T rfl rfl fun _ T => ?_
      refine r_pv T rfl rfl fun _ T => ?_
      refine r_pv T rfl rfl fun _ T => ?_
      refine r_alloc T S zv36 (cs := [.slice none 0 0, .int .u64 0, .bool false, .slice none 0 0]) rfl rfl fun _ _ b27 S T => ?_
      refine r_stBA (ix := 0) (vs := [.slice A21 x20.1.Key.length k22, .int .u64 x20.1.Seq, .bool x20.1.Del, .slice A23 x20.1.Value.length k24]) (l' := [blk b27 [.slice A21 x20.1.Key.length k22, .int .u64 x20.1.Seq, .bool x20.1.Del, .slice A23 x20.1.Value.length k24], sl .own ku8 A21 k22 x20.1.Key, sl .own ku8 A23 k24 x20.1.Value, sl .ro ku8 A25 k26 x20.2.1, sl .ro ku8 A10 k11 x9, sl .ro ku8 A16 k17 x15, sl .ro ku8 A2 k3 x1, sl .own kapi_Entry A13 k14 x12]) T S rfl rfl rfl rfl (by simp) Try.sizeOf36 (Nat.le_of_ble_eq_true rfl) rfl fun _ S => ?_
      refine r_pv T rfl rfl fun _ T => ?_
      refine r_pv T rfl rfl fun _ T => ?_
      refine Gets.seq (Gets.seq ?_)
      refine rg ?_
      refine r_pv T rfl rfl fun _ T => ?_
      refine r_pv T rfl rfl fun _ T => ?_
      refine r_pv T rfl rfl fun _ T => ?_
      rcases ifE H with ⟨h28, H⟩ | ⟨h28, H⟩
      · refine g_no T rfl rfl h28 rfl fun _ T => ?_
        refine g_no T rfl rfl h28 rfl fun _ T => ?_
        refine g_no T rfl rfl h28 rfl fun _ T => ?_
        refine g_no T rfl rfl h28 rfl fun _ T => ?_
        refine r_pickT T rfl h28 rfl rfl fun _ T => ?_
        refine cdT T rfl rfl ?_
        refine Gets.seq ?_
        exact J1_ok F r z x1 A2 k3 _ _ (T.sub trivial) (S.only (p := [sl .ro ku8 A2 k3 x1]) [6] rfl) H
      · refine g_yes T rfl rfl h28 ?_
        refine r_fa (o' := 0) T rfl Try.runUnderlying36 rfl Try.sizeOf24 rfl rfl fun _ T => ?_
        refine g_yes T rfl rfl h28 ?_
        refine r_ldB (ix := 0) T S rfl Try.isAgg24 rfl rfl rfl fun _ T => ?_
        refine g_yes T rfl rfl h28 ?_
        refine r_lenS T rfl Try.runUnderlying24 rfl fun _ T => ?_
        refine g_yes T rfl rfl h28 ?_
        refine r_pv T rfl rfl fun _ T => ?_
        refine r_pickF T rfl h28 rfl rfl fun _ T => ?_
        rcases ifE H with ⟨h29, H⟩ | ⟨h29, H⟩
        · refine cdT T rfl h29 ?_
          refine Gets.seq ?_
          exact J1_ok F r z x1 A2 k3 _ _ (T.sub trivial) (S.only (p := [sl .ro ku8 A2 k3 x1]) [6] rfl) H
        · refine cdF T rfl h29 ?_
          refine Gets.skip (Gets.seq ?_)
          refine rg ?_
          refine r_pv T rfl rfl fun _ T => ?_
          refine r_ldBA (ix := 0) (ds := [.slice A21 x20.1.Key.length k22, .int .u64 x20.1.Seq, .bool x20.1.Del, .slice A23 x20.1.Value.length k24]) T S rfl Try.isAgg36 rfl rfl Try.sizeOf36 rfl fun _ T => ?_
          replace S : SL ([blk b27 [.slice A21 x20.1.Key.length k22, .int .u64 x20.1.Seq, .bool x20.1.Del, .slice A23 x20.1.Value.length k24], sl .ro ku8 A21 k22 x20.1.Key, sl .own ku8 A23 k24 x20.1.Value, sl .ro ku8 A25 k26 x20.2.1, sl .ro ku8 A10 k11 x9, sl .ro ku8 A16 k17 x15, sl .ro ku8 A2 k3 x1, sl .own kapi_Entry A13 k14 x12] ++ F) _ := S.fixL (i := 1) rfl rfl
          replace S : SL ([blk b27 [.slice A21 x20.1.Key.length k22, .int .u64 x20.1.Seq, .bool x20.1.Del, .slice A23 x20.1.Value.length k24], sl .ro ku8 A21 k22 x20.1.Key, sl .ro ku8 A23 k24 x20.1.Value, sl .ro ku8 A25 k26 x20.2.1, sl .ro ku8 A10 k11 x9, sl .ro ku8 A16 k17 x15, sl .ro ku8 A2 k3 x1, sl .own kapi_Entry A13 k14 x12] ++ F) _ := S.fixL (i := 2) rfl rfl
          replace S : SL ([rp kapi_Entry x20.1 [.slice A21 x20.1.Key.length k22, .int .u64 x20.1.Seq, .bool x20.1.Del, .slice A23 x20.1.Value.length k24], blk b27 [.slice A21 x20.1.Key.length k22, .int .u64 x20.1.Seq, .bool x20.1.Del, .slice A23 x20.1.Value.length k24], sl .ro ku8 A21 k22 x20.1.Key, sl .ro ku8 A23 k24 x20.1.Value, sl .ro ku8 A25 k26 x20.2.1, sl .ro ku8 A10 k11 x9, sl .ro ku8 A16 k17 x15, sl .ro ku8 A2 k3 x1, sl .own kapi_Entry A13 k14 x12] ++ F) _ := cl_api_Entry (i0 := 1) (i1 := 2) S rfl rfl
          refine r_bsl (κ := kapi_Entry) (xs := [x20.1]) (vs := [.agg #[.slice A21 x20.1.Key.length k22, .int .u64 x20.1.Seq, .bool x20.1.Del, .slice A23 x20.1.Value.length k24]]) T S sty22 rfl ⟨_, _, rfl, ⟨0, rfl⟩, rfl⟩ rfl (by decide) rfl fun _ _ b30 S T => ?_
          replace S : SL ([sl .own kapi_Entry (some ⟨b30, 0, none⟩) 1 [x20.1], blk b27 [.slice A21 x20.1.Key.length k22, .int .u64 x20.1.Seq, .bool x20.1.Del, .slice A23 x20.1.Value.length k24], sl .ro ku8 A21 k22 x20.1.Key, sl .ro ku8 A23 k24 x20.1.Value, sl .ro ku8 A25 k26 x20.2.1, sl .ro ku8 A10 k11 x9, sl .ro ku8 A16 k17 x15, sl .ro ku8 A2 k3 x1, sl .own kapi_Entry A13 k14 x12] ++ F) _ := S.only [0, 1, 1, 1, 1, 1, 1, 1, 1] rfl
          obtain ⟨h33, H⟩ := ck H
          refine r_app (ix := 8) (iy := 0) (xs := x12) (ys := [x20.1]) T S rfl rfl rfl rfl (by decide) sty22 Try.runUnderlying22 (by decide) h33 rfl fun _ _ A31 k32 S T => ?_
          replace S : SL ([sl .own kapi_Entry (some ⟨b30, 0, none⟩) 1 [x20.1], blk b27 [.slice A21 x20.1.Key.length k22, .int .u64 x20.1.Seq, .bool x20.1.Del, .slice A23 x20.1.Value.length k24], sl .ro ku8 A21 k22 x20.1.Key, sl .ro ku8 A23 k24 x20.1.Value, sl .ro ku8 A25 k26 x20.2.1, sl .ro ku8 A10 k11 x9, sl .ro ku8 A16 k17 x15, sl .ro ku8 A2 k3 x1, sl .own kapi_Entry A31 k32 (x12 ++ [x20.1])] ++ F) _ := S
          refine r_pv T rfl rfl fun _ T => ?_
          refine rg ?_
          refine r_fa (o' := 0) T rfl Try.runUnderlying36 rfl Try.sizeOf24 rfl rfl fun _ T => ?_
          refine r_ldB (ix := 1) T S rfl Try.isAgg24 rfl rfl rfl fun _ T => ?_
          refine r_pv T rfl rfl fun _ T => ?_
          refine r_pv T rfl rfl fun _ T => ?_
          refine r_pv T rfl rfl fun _ T => ?_
          refine Gets.inBlock (Gets.inLoop ?_)
          exact ih A25 x20.2.1 k26 A31 (x12 ++ [x20.1]) k32 A21 x20.1.Key k22 _ _ (T.sub ⟨rfl, rfl, rfl, rfl, trivial⟩) (S.only (p := [sl .ro ku8 A2 k3 x1, sl .ro ku8 A25 k26 x20.2.1, sl .own kapi_Entry A31 k32 (x12 ++ [x20.1]), sl .ro ku8 A21 k22 x20.1.Key]) [7, 4, 6, 2] rfl) H
    · refine cdF T rfl h18 ?_
      refine Gets.exit rfl (Gets.seq ?_)
      refine rg ?_
      refine r_pv T rfl rfl fun _ T => ?_
      refine r_pv T rfl rfl fun _ T => ?_
      refine r_pv T rfl rfl fun _ T => ?_
      refine r_pv T rfl rfl fun _ T => ?_
      refine r_pv T rfl rfl fun _ T => ?_
      replace H := Option.some.inj H
      subst H
      exact rtn T Try.func33 rfl rfl ⟨A13, k14, rfl, (S.only (p := [sl .own kapi_Entry A13 k14 x12, sl .ro ku8 A2 k3 x1]) [2, 0] rfl)⟩
theorem ok (F : List Atom) (w : World) (z : Nat) (x1 : List Int) {A2 : Option Addr} {k3 : Nat} (S : SL ([sl .ro ku8 A2 k3 x1] ++ F) w) (r : (List api_Entry) × Int × Bool) (H : f z x1 = some r) : Calls Try.prog 33 #[.slice A2 x1.length k3] w (R F x1 A2 k3 r) := by
  refine enter (vs := [.slice A2 x1.length k3]) Try.func33 rfl Try.ntmps33 (Nat.le_of_ble_eq_true rfl) fun a T => ?_
  refine Gets.seq ?_
  refine rg ?_
  refine r_pv T rfl rfl fun _ T => ?_
  refine r_pv T rfl rfl fun _ T => ?_
  refine r_pv T rfl rfl fun _ T => ?_
  refine Gets.seq ?_
  refine rg ?_
  refine r_pv T rfl rfl fun _ T => ?_
  obtain ⟨x5, h4, H⟩ := bd H
  refine r_call T Try.call35 rfl rfl (codec_TakeFrame.ok _ _ z x1 (S.sel (p := [sl .ro ku8 A2 k3 x1]) (is := [0]) rfl) _ h4) ?_
  rintro _ _ ⟨A6, k7, rfl, S⟩
  refine ⟨_, rfl, fun _ T => ?_⟩
  replace S : SL ([sl .own ku8 A6 k7 x5.2.1, sl .ro ku8 A2 k3 x1] ++ F) _ := S.join
  refine r_pv T rfl rfl fun _ T => ?_
  refine r_pv T rfl rfl fun _ T => ?_
  refine r_pv T rfl rfl fun _ T => ?_
  refine r_pv T rfl rfl fun _ T => ?_
  refine r_pv T rfl rfl fun _ T => ?_
  refine r_pv T rfl rfl fun _ T => ?_
  refine r_pv T rfl rfl fun _ T => ?_
  refine r_pv T rfl rfl fun _ T => ?_
  refine r_pv T rfl rfl fun _ T => ?_
  refine Gets.seq (Gets.seq ?_)
  refine rg ?_
  refine r_pv T rfl rfl fun _ T => ?_
  refine r_pv T rfl rfl fun _ T => ?_
  rcases ifE H with ⟨h8, H⟩ | ⟨h8, H⟩
  · refine cdT T rfl h8 ?_
    refine Gets.seq ?_
    refine rg ?_
    refine r_pv T rfl rfl fun _ T => ?_
    refine r_pv T rfl rfl fun _ T => ?_
    refine r_pv T rfl rfl fun _ T => ?_
    replace S := S.nil kapi_Entry .own
    replace H := Option.some.inj H
    subst H
    exact rtn T Try.func33 rfl rfl ⟨none, 0, rfl, (S.only (p := [sl .own kapi_Entry none 0 ([] : List api_Entry), sl .ro ku8 A2 k3 x1]) [0, 1] rfl)⟩
  · refine cdF T rfl h8 ?_
    refine Gets.skip (Gets.seq ?_)
    refine rg ?_
    refine r_pv T rfl rfl fun _ T => ?_
    refine Gets.seq ?_
    refine rg ?_
    refine r_pv T rfl rfl fun _ T => ?_
    refine Gets.seq (Gets.block ?_)
    refine Gets.loop ?_
    replace S : SL ([sl .ro ku8 A6 k7 x5.2.1, sl .ro ku8 A2 k3 x1] ++ F) _ := S.fixL (i := 0) rfl rfl
    replace S := S.nil kapi_Entry .own
    replace S := S.nil ku8 .ro
    exact L0_ok F r z x1 A2 k3 x5 z A6 x5.2.1 k7 none [] 0 none [] 0 _ _ (T.sub ⟨rfl, rfl, rfl, rfl, trivial⟩) (S.only (p := [sl .ro ku8 A2 k3 x1, sl .ro ku8 A6 k7 x5.2.1, sl .own kapi_Entry none 0 [], sl .ro ku8 none 0 []]) [3, 2, 1, 0] rfl) H
end sstable_entries
end Go.Proofs.Ytghpokmkhlmgcaa

namespace Go.Proofs.Ytghpokmkhlmgcaa
open Go Go.Proofs.Ytghpokmkhlmgcaa.X
set_option linter.unusedVariables false
set_option linter.unusedSimpArgs false
set_option maxRecDepth 100000
set_option maxHeartbeats 4000000
/-- an entry, and where its slices lie -/
structure RE where
  e : api_Entry
  A1 : Option Addr
  k1 : Nat
  A2 : Option Addr
  k2 : Nat
def RE.cells (y : RE) : List Value := [.slice y.A1 y.e.Key.length y.k1, .int .u64 y.e.Seq, .bool y.e.Del, .slice y.A2 y.e.Value.length y.k2]
def kRE : K RE where
  sz := 4
  rep _ y cs := cs = y.cells
  len h := by rw [h]; rfl
  mono _ h := h
  one h := by rw [h]; intro v hv; simp [RE.cells] at hv; rcases hv with rfl | rfl | rfl | rfl <;> rfl
theorem cells_RE {G G' : Hp} : ∀ {xs : List RE} {cs : List Value}, cells kRE G xs cs → cells kRE G' xs cs
  | [], _, h => h
  | _ :: _, _, ⟨c1, c2, e, h1, h2⟩ => ⟨c1, c2, e, h1, cells_RE h2⟩
theorem flat_RE {A : Option Addr} {c : Nat} {zs : List RE} : ∀ G G' h, owR kRE G h A c zs → owR kRE G' h A c zs := by
  rintro G G' h ⟨h0, q | ⟨b, o, arr, e, fr, h1, h2, h3, h4, cs, g1, g2⟩⟩
  · exact ⟨h0, .inl q⟩
  · exact ⟨h0, .inr ⟨b, o, arr, e, fr, h1, h2, h3, h4, cs, cells_RE g1, g2⟩⟩
def pls (ys : List RE) : List Pl := ys.flatMap fun y => [⟨y.A1, y.k1, y.e.Key⟩, ⟨y.A2, y.k2, y.e.Value⟩]
theorem pls_snoc (ys : List RE) (y : RE) : pls (ys ++ [y]) = pls ys ++ [⟨y.A1, y.k1, y.e.Key⟩] ++ [⟨y.A2, y.k2, y.e.Value⟩] := by simp [pls]
namespace sstable_entries
def RD (M : List Atom) (r : (List api_Entry) × Int × Bool) : Ending → World → Prop := fun e w' => ∃ (ys : List RE) (A : Option Addr) (k : Nat), r.1 = ys.map (·.e) ∧ e = .returned (.tuple #[.slice A ys.length k, .int .i64 r.2.1, .bool r.2.2]) ∧ SL (sl .own kRE A k ys :: pack (own8 (pls ys)) :: M) w'
theorem J1D_ok (M : List Atom) (G0 H0 : Hp) (r : (List api_Entry) × Int × Bool) (z : Nat) (a : Act) (w : World) (T : Tm 50 [] a) (S : SL [holdL M G0 H0] w) (H : J1 z = some r) : Gets Try.prog 33 ptJ1 a w (RD M r) := by
  refine rg ?_
  refine r_pv T rfl rfl fun _ T => ?_
  refine r_pv T rfl rfl fun _ T => ?_
  refine r_pv T rfl rfl fun _ T => ?_
  replace H := Option.some.inj H
  subst H
  have S1 := SL.free (B := rof []) S fun G y hy => by cases hy
  have S2 := S1.toN.nil kRE .own
  refine rtn T Try.func33 rfl rfl ⟨[], none, 0, rfl, rfl, (SL.unfix flat_RE S2.ofN (ys := pls []) ⟨by simp [bks, pls], by simp [bks, pls], by simp [bks, pls]⟩).pack⟩
theorem L0D_ok (M : List Atom) (G0 H0 : Hp) (r : (List api_Entry) × Int × Bool) (z : Nat) (x1 : List Int) (A2 : Option Addr) (k3 : Nat) (x5 : Int × (List Int) × Int × Int) (m : Nat) : ∀ (A10 : Option Addr) (x9 : List Int) (k11 : Nat) (A13 : Option Addr) (ys : List RE) (k14 : Nat) (A16 : Option Addr) (x15 : List Int) (k17 : Nat) (a : Act) (w : World), Tm 50 [(6, .slice A10 x9.length k11), (7, .int .i64 x5.2.2.1), (9, .slice A13 ys.length k14), (10, .slice A16 x15.length k17)] a → SL ([sl .ro ku8 A2 k3 x1, sl .ro ku8 A10 k11 x9, sl .own kRE A13 k14 ys, sl .ro ku8 A16 k17 x15, rof (pls ys)] ++ [holdL M G0 H0]) w → Dis G0 H0 (pls ys) → L0 z x5 m x9 (ys.map (·.e)) x15 = some r → Gets Try.prog 33 ptL0 a w (RD M r) := by
  induction m with
  | zero => intro _ _ _ _ _ _ _ _ _ _ _ _ _ _ H; cases H
  | succ m ih =>
    intro A10 x9 k11 A13 ys k14 A16 x15 k17 a w T S D H
    refine Gets.seq ?_
    refine Gets.seq ?_
    refine rg ?_
    refine r_pv T rfl rfl fun _ T => ?_
    refine r_lenS T rfl Try.runUnderlying24 rfl fun _ T => ?_
    refine r_pv T rfl rfl fun _ T => ?_
    rcases ifE H with ⟨h18, H⟩ | ⟨h18, H⟩
    · refine cdT T rfl h18 ?_
      refine Gets.skip (Gets.block (Gets.seq ?_))
      refine rg ?_
      refine r_pv T rfl rfl fun _ T => ?_
      refine r_pv T rfl rfl fun _ T => ?_
      obtain ⟨x20, h19, H⟩ := bd H
      refine r_call T Try.call61 rfl rfl (sstable_entry.ok _ _ z x9 x15 (S.sel (p := [sl .ro ku8 A10 k11 x9, sl .ro ku8 A16 k17 x15]) (is := [1, 2]) rfl) _ h19) ?_
      rintro _ _ ⟨A21, k22, A23, k24, A25, k26, rfl, S⟩
      refine ⟨_, rfl, fun _ T => ?_⟩
      replace S : SL ([sl .own ku8 A21 k22 x20.1.Key, sl .own ku8 A23 k24 x20.1.Value, sl .ro ku8 A25 k26 x20.2.1, sl .ro ku8 A10 k11 x9, sl .ro ku8 A16 k17 x15, sl .ro ku8 A2 k3 x1, sl .own kRE A13 k14 ys, rof (pls ys)] ++ [holdL M G0 H0]) _ := S.join
      refine r_pv T rfl rfl fun _ T => ?_
      refine r_pv T rfl rfl fun _ T => ?_
      refine r_pv T rfl rfl fun _ T => ?_
      refine r_pv T rfl rfl fun _ T => ?_
      refine r_alloc T S zv36 (cs := [.slice none 0 0, .int .u64 0, .bool false, .slice none 0 0]) rfl rfl fun _ _ b27 S T => ?_
      refine r_stBA (ix := 0) (vs := [.slice A21 x20.1.Key.length k22, .int .u64 x20.1.Seq, .bool x20.1.Del, .slice A23 x20.1.Value.length k24]) (l' := [blk b27 [.slice A21 x20.1.Key.length k22, .int .u64 x20.1.Seq, .bool x20.1.Del, .slice A23 x20.1.Value.length k24], sl .own ku8 A21 k22 x20.1.Key, sl .own ku8 A23 k24 x20.1.Value, sl .ro ku8 A25 k26 x20.2.1, sl .ro ku8 A10 k11 x9, sl .ro ku8 A16 k17 x15, sl .ro ku8 A2 k3 x1, sl .own kRE A13 k14 ys, rof (pls ys)]) T S rfl rfl rfl rfl (by simp) Try.sizeOf36 (Nat.le_of_ble_eq_true rfl) rfl fun _ S => ?_
      refine r_pv T rfl rfl fun _ T => ?_
      refine r_pv T rfl rfl fun _ T => ?_
      refine Gets.seq (Gets.seq ?_)
      refine rg ?_
      refine r_pv T rfl rfl fun _ T => ?_
      refine r_pv T rfl rfl fun _ T => ?_
      refine r_pv T rfl rfl fun _ T => ?_
      rcases ifE H with ⟨h28, H⟩ | ⟨h28, H⟩
      · refine g_no T rfl rfl h28 rfl fun _ T => ?_
        refine g_no T rfl rfl h28 rfl fun _ T => ?_
        refine g_no T rfl rfl h28 rfl fun _ T => ?_
        refine g_no T rfl rfl h28 rfl fun _ T => ?_
        refine r_pickT T rfl h28 rfl rfl fun _ T => ?_
        refine cdT T rfl rfl ?_
        refine Gets.seq ?_
        exact J1D_ok M G0 H0 r z _ _ (T.sub trivial) S.dropL H
      · refine g_yes T rfl rfl h28 ?_
        refine r_fa (o' := 0) T rfl Try.runUnderlying36 rfl Try.sizeOf24 rfl rfl fun _ T => ?_
        refine g_yes T rfl rfl h28 ?_
        refine r_ldB (ix := 0) T S rfl Try.isAgg24 rfl rfl rfl fun _ T => ?_
        refine g_yes T rfl rfl h28 ?_
        refine r_lenS T rfl Try.runUnderlying24 rfl fun _ T => ?_
        refine g_yes T rfl rfl h28 ?_
        refine r_pv T rfl rfl fun _ T => ?_
        refine r_pickF T rfl h28 rfl rfl fun _ T => ?_
        rcases ifE H with ⟨h29, H⟩ | ⟨h29, H⟩
        · refine cdT T rfl h29 ?_
          refine Gets.seq ?_
          exact J1D_ok M G0 H0 r z _ _ (T.sub trivial) S.dropL H
        · refine cdF T rfl h29 ?_
          refine Gets.skip (Gets.seq ?_)
          refine rg ?_
          refine r_pv T rfl rfl fun _ T => ?_
          refine r_ldBA (ix := 0) (ds := [.slice A21 x20.1.Key.length k22, .int .u64 x20.1.Seq, .bool x20.1.Del, .slice A23 x20.1.Value.length k24]) T S rfl Try.isAgg36 rfl rfl Try.sizeOf36 rfl fun _ T => ?_
          obtain ⟨y, hy⟩ : ∃ y : RE, y = ⟨x20.1, A21, k22, A23, k24⟩ := ⟨_, rfl⟩
          have S2 := S.toN.only (p := [sl .own ku8 A21 k22 x20.1.Key, rof (pls ys), holdL M G0 H0, blk b27 [.slice A21 x20.1.Key.length k22, .int .u64 x20.1.Seq, .bool x20.1.Del, .slice A23 x20.1.Value.length k24], sl .own ku8 A23 k24 x20.1.Value, sl .ro ku8 A25 k26 x20.2.1, sl .ro ku8 A2 k3 x1, sl .own kRE A13 k14 ys]) [1, 7, 7, 0, 0, 0, 2, 2] rfl
          obtain ⟨D1, S3⟩ := SL.push S2.ofN D
          have S4 := SL.only (l := [sl .ro ku8 A21 k22 x20.1.Key, rof (pls ys ++ [⟨A21, k22, x20.1.Key⟩]), holdL M G0 H0, blk b27 [.slice A21 x20.1.Key.length k22, .int .u64 x20.1.Seq, .bool x20.1.Del, .slice A23 x20.1.Value.length k24], sl .own ku8 A23 k24 x20.1.Value, sl .ro ku8 A25 k26 x20.2.1, sl .ro ku8 A2 k3 x1, sl .own kRE A13 k14 ys]) (F := []) (p := [sl .own ku8 A23 k24 x20.1.Value, rof (pls ys ++ [⟨A21, k22, x20.1.Key⟩]), holdL M G0 H0, sl .ro ku8 A21 k22 x20.1.Key, blk b27 [.slice A21 x20.1.Key.length k22, .int .u64 x20.1.Seq, .bool x20.1.Del, .slice A23 x20.1.Value.length k24], sl .ro ku8 A25 k26 x20.2.1, sl .ro ku8 A2 k3 x1, sl .own kRE A13 k14 ys]) [4, 1, 1, 0, 0, 0, 0, 0] S3.toN rfl
          obtain ⟨D2, S5⟩ := SL.push S4.ofN D1
          have hp : pls ys ++ [⟨A21, k22, x20.1.Key⟩] ++ [⟨A23, k24, x20.1.Value⟩] = pls (ys ++ [y]) := by rw [pls_snoc, hy]
          rw [hp] at D2 S5
          replace S := SL.only (l := [sl .ro k8 A23 k24 x20.1.Value, rof (pls (ys ++ [y])), holdL M G0 H0, sl .ro ku8 A21 k22 x20.1.Key, blk b27 [.slice A21 x20.1.Key.length k22, .int .u64 x20.1.Seq, .bool x20.1.Del, .slice A23 x20.1.Value.length k24], sl .ro ku8 A25 k26 x20.2.1, sl .ro ku8 A2 k3 x1, sl .own kRE A13 k14 ys]) (F := []) (p := [blk b27 [.slice A21 x20.1.Key.length k22, .int .u64 x20.1.Seq, .bool x20.1.Del, .slice A23 x20.1.Value.length k24], sl .ro ku8 A21 k22 x20.1.Key, sl .ro ku8 A25 k26 x20.2.1, sl .ro ku8 A2 k3 x1, sl .own kRE A13 k14 ys, rof (pls (ys ++ [y])), holdL M G0 H0]) [4, 3, 3, 3, 3, 1, 1] S5.toN rfl
          replace S : SL ([blk b27 [.slice A21 x20.1.Key.length k22, .int .u64 x20.1.Seq, .bool x20.1.Del, .slice A23 x20.1.Value.length k24], sl .ro ku8 A21 k22 x20.1.Key, sl .ro ku8 A25 k26 x20.2.1, sl .ro ku8 A2 k3 x1, sl .own kRE A13 k14 ys, rof (pls (ys ++ [y]))] ++ [holdL M G0 H0]) _ := S.ofN
          replace S := SL.val (κ := kRE) (x := y) (cs := [.slice A21 x20.1.Key.length k22, .int .u64 x20.1.Seq, .bool x20.1.Del, .slice A23 x20.1.Value.length k24]) (fun _ => by rw [hy]; rfl) S
          refine r_bsl (κ := kRE) (xs := [y]) (vs := [.agg #[.slice A21 x20.1.Key.length k22, .int .u64 x20.1.Seq, .bool x20.1.Del, .slice A23 x20.1.Value.length k24]]) T S sty22 rfl ⟨_, _, rfl, ⟨0, rfl⟩, rfl⟩ rfl (by decide) rfl fun _ _ b30 S T => ?_
          replace S : SL ([sl .own kRE (some ⟨b30, 0, none⟩) 1 [y], blk b27 [.slice A21 x20.1.Key.length k22, .int .u64 x20.1.Seq, .bool x20.1.Del, .slice A23 x20.1.Value.length k24], sl .ro ku8 A21 k22 x20.1.Key, sl .ro ku8 A25 k26 x20.2.1, sl .ro ku8 A2 k3 x1, sl .own kRE A13 k14 ys, rof (pls (ys ++ [y]))] ++ [holdL M G0 H0]) _ := S.only [0, 1, 1, 1, 1, 1, 1] rfl
          obtain ⟨h33, H⟩ := ck H
          refine r_app (ix := 5) (iy := 0) (xs := ys) (ys := [y]) T S rfl rfl rfl rfl (by decide) sty22 Try.runUnderlying22 (by decide) (by simpa using h33) rfl fun _ _ A31 k32 S T => ?_
          replace S : SL ([sl .own kRE (some ⟨b30, 0, none⟩) 1 [y], blk b27 [.slice A21 x20.1.Key.length k22, .int .u64 x20.1.Seq, .bool x20.1.Del, .slice A23 x20.1.Value.length k24], sl .ro ku8 A21 k22 x20.1.Key, sl .ro ku8 A25 k26 x20.2.1, sl .ro ku8 A2 k3 x1, sl .own kRE A31 k32 (ys ++ [y]), rof (pls (ys ++ [y]))] ++ [holdL M G0 H0]) _ := S
          refine r_pv T rfl rfl fun _ T => ?_
          refine rg ?_
          refine r_fa (o' := 0) T rfl Try.runUnderlying36 rfl Try.sizeOf24 rfl rfl fun _ T => ?_
          refine r_ldB (ix := 1) T S rfl Try.isAgg24 rfl rfl rfl fun _ T => ?_
          refine r_pv T rfl rfl fun _ T => ?_
          refine r_pv T rfl rfl fun _ T => ?_
          refine r_pv T rfl rfl fun _ T => ?_
          refine Gets.inBlock (Gets.inLoop ?_)
          exact ih A25 x20.2.1 k26 A31 (ys ++ [y]) k32 A21 x20.1.Key k22 _ _ (T.sub ⟨rfl, rfl, rfl, rfl, trivial⟩) (S.only (p := [sl .ro ku8 A2 k3 x1, sl .ro ku8 A25 k26 x20.2.1, sl .own kRE A31 k32 (ys ++ [y]), sl .ro ku8 A21 k22 x20.1.Key, rof (pls (ys ++ [y]))]) [4, 3, 3, 2, 2] rfl) D2 (by rw [List.map_append, List.map_singleton, hy]; exact H)
    · refine cdF T rfl h18 ?_
      refine Gets.exit rfl (Gets.seq ?_)
      refine rg ?_
      refine r_pv T rfl rfl fun _ T => ?_
      refine r_pv T rfl rfl fun _ T => ?_
      refine r_pv T rfl rfl fun _ T => ?_
      refine r_pv T rfl rfl fun _ T => ?_
      refine r_pv T rfl rfl fun _ T => ?_
      replace H := Option.some.inj H
      subst H
      have S1 := S.only (p := [sl .own kRE A13 k14 ys, rof (pls ys)]) [2, 3] rfl
      exact rtn T Try.func33 rfl rfl ⟨ys, A13, k14, rfl, rfl, (SL.unfix flat_RE S1 D).pack⟩
theorem okD (F : List Atom) (w : World) (z : Nat) (x1 : List Int) {A2 : Option Addr} {k3 : Nat} (S : SL ([sl .ro ku8 A2 k3 x1] ++ F) w) (r : (List api_Entry) × Int × Bool) (H : f z x1 = some r) : Calls Try.prog 33 #[.slice A2 x1.length k3] w (RD ([sl .ro ku8 A2 k3 x1] ++ F) r) := by
  obtain ⟨G0, H0, SH⟩ := SL.hold S
  have hS : SL ([sl .ro ku8 A2 k3 x1] ++ [holdL ([sl .ro ku8 A2 k3 x1] ++ F) G0 H0]) w := SL.withRo S SH
  clear S SH
  have S := hS
  clear hS
  refine enter (vs := [.slice A2 x1.length k3]) Try.func33 rfl Try.ntmps33 (Nat.le_of_ble_eq_true rfl) fun a T => ?_
  refine Gets.seq ?_
  refine rg ?_
  refine r_pv T rfl rfl fun _ T => ?_
  refine r_pv T rfl rfl fun _ T => ?_
  refine r_pv T rfl rfl fun _ T => ?_
  refine Gets.seq ?_
  refine rg ?_
  refine r_pv T rfl rfl fun _ T => ?_
  obtain ⟨x5, h4, H⟩ := bd H
  refine r_call T Try.call35 rfl rfl (codec_TakeFrame.ok _ _ z x1 (S.sel (p := [sl .ro ku8 A2 k3 x1]) (is := [0]) rfl) _ h4) ?_
  rintro _ _ ⟨A6, k7, rfl, S⟩
  refine ⟨_, rfl, fun _ T => ?_⟩
  replace S : SL ([sl .own ku8 A6 k7 x5.2.1, sl .ro ku8 A2 k3 x1] ++ [holdL ([sl .ro ku8 A2 k3 x1] ++ F) G0 H0]) _ := S.join
  refine r_pv T rfl rfl fun _ T => ?_
  refine r_pv T rfl rfl fun _ T => ?_
  refine r_pv T rfl rfl fun _ T => ?_
  refine r_pv T rfl rfl fun _ T => ?_
  refine r_pv T rfl rfl fun _ T => ?_
  refine r_pv T rfl rfl fun _ T => ?_
  refine r_pv T rfl rfl fun _ T => ?_
  refine r_pv T rfl rfl fun _ T => ?_
  refine r_pv T rfl rfl fun _ T => ?_
  refine Gets.seq (Gets.seq ?_)
  refine rg ?_
  refine r_pv T rfl rfl fun _ T => ?_
  refine r_pv T rfl rfl fun _ T => ?_
  rcases ifE H with ⟨h8, H⟩ | ⟨h8, H⟩
  · refine cdT T rfl h8 ?_
    refine Gets.seq ?_
    refine rg ?_
    refine r_pv T rfl rfl fun _ T => ?_
    refine r_pv T rfl rfl fun _ T => ?_
    refine r_pv T rfl rfl fun _ T => ?_
    replace H := Option.some.inj H
    subst H
    have S1 := SL.free (B := rof []) S.dropL fun G y hy => by cases hy
    have S2 := S1.toN.nil kRE .own
    exact rtn T Try.func33 rfl rfl ⟨[], none, 0, rfl, rfl, (SL.unfix flat_RE S2.ofN (ys := pls []) ⟨by simp [bks, pls], by simp [bks, pls], by simp [bks, pls]⟩).pack⟩
  · refine cdF T rfl h8 ?_
    refine Gets.skip (Gets.seq ?_)
    refine rg ?_
    refine r_pv T rfl rfl fun _ T => ?_
    refine Gets.seq ?_
    refine rg ?_
    refine r_pv T rfl rfl fun _ T => ?_
    refine Gets.seq (Gets.block ?_)
    refine Gets.loop ?_
    replace S : SL ([sl .ro ku8 A6 k7 x5.2.1, sl .ro ku8 A2 k3 x1] ++ [holdL ([sl .ro ku8 A2 k3 x1] ++ F) G0 H0]) _ := S.fixL (i := 0) rfl rfl
    replace S := S.nil kRE .own
    replace S := S.nil ku8 .ro
    replace S := SL.free (B := rof (pls [])) S fun G y hy => by cases hy
    exact L0D_ok _ G0 H0 r z x1 A2 k3 x5 z A6 x5.2.1 k7 none [] 0 none [] 0 _ _ (T.sub ⟨rfl, rfl, rfl, rfl, trivial⟩) (SL.only (l := [rof (pls []), sl .ro ku8 none 0 [], sl .own kRE none 0 [], sl .ro ku8 A6 k7 x5.2.1, sl .ro ku8 A2 k3 x1]) (p := [sl .ro ku8 A2 k3 x1, sl .ro ku8 A6 k7 x5.2.1, sl .own kRE none 0 [], sl .ro ku8 none 0 [], rof (pls [])]) [4, 3, 2, 1, 0] S rfl) ⟨by simp [bks, pls], by simp [bks, pls], by simp [bks, pls]⟩ H
end sstable_entries
end Go.Proofs.Ytghpokmkhlmgcaa

namespace Go.Proofs.Ytghpokmkhlmgcaa
open Go Go.Proofs.Ytghpokmkhlmgcaa.X
set_option linter.unusedVariables false
set_option linter.unusedSimpArgs false
set_option maxRecDepth 100000
set_option maxHeartbeats 4000000
/-! ### (*cormorant.sstable.Table).look: function 41 -/
namespace sstable_Table_look
noncomputable def c0 : Code := match Try.f41.body with | some c => c | none => .skip
def R (F : List Atom) (b2 : Nat) (r : (List api_Entry) × sstable_Table) : Ending → World → Prop := fun e w' => ∃ (A17 : Option Addr), ∃ (k18 : Nat), ∃ (A20 : Option Addr), ∃ (k21 : Nat), ∃ (A22 : Option Addr), ∃ (k23 : Nat), ∃ (A24 : Option Addr), ∃ (k25 : Nat), e = .returned (.slice A17 r.1.length k18) ∧ SL ([sl .own kapi_Entry A17 k18 r.1, blk b2 [.slice A20 r.2.b.length k21, .slice A22 r.2.blocks.length k23, .slice A24 r.2.filter.length k25, .int .i64 r.2.count, .int .i64 r.2.reads], sl .ro ku8 A20 k21 r.2.b, sl .ro ksstable_block A22 k23 r.2.blocks, sl .ro ku8 A24 k25 r.2.filter] ++ F) w'
def f (z : Nat) (x1 : sstable_Table) (x9 : Int) : Option ((List api_Entry) × sstable_Table) := Ck (0 ≤ x9 ∧ x9 < (x1.blocks.length : Int)) (Ck (0 ≤ (gi dsstable_block x1.blocks x9).from' ∧ (gi dsstable_block x1.blocks x9).from' ≤ (gi dsstable_block x1.blocks x9).to' ∧ (gi dsstable_block x1.blocks x9).to' ≤ (x1.b.length : Int)) (Bd (sstable_entries.f z (cut x1.b (Int.toNat ((gi dsstable_block x1.blocks x9).from')) (Int.toNat ((gi dsstable_block x1.blocks x9).to')))) fun x14 => some (x14.1, (sstable_Table.mk x1.b x1.blocks x1.filter x1.count (wr .i64 (x1.reads + 1))))))
theorem ok (F : List Atom) (w : World) (z : Nat) (x1 : sstable_Table) (x9 : Int) {b2 : Nat} {A3 : Option Addr} {k4 : Nat} {A5 : Option Addr} {k6 : Nat} {A7 : Option Addr} {k8 : Nat} (S : SL ([blk b2 [.slice A3 x1.b.length k4, .slice A5 x1.blocks.length k6, .slice A7 x1.filter.length k8, .int .i64 x1.count, .int .i64 x1.reads], sl .ro ku8 A3 k4 x1.b, sl .ro ksstable_block A5 k6 x1.blocks, sl .ro ku8 A7 k8 x1.filter] ++ F) w) (r : (List api_Entry) × sstable_Table) (H : f z x1 x9 = some r) : Calls Try.prog 41 #[.pointer (some ⟨b2, 0, none⟩), .int .i64 x9] w (R F b2 r) := by
  refine enter (vs := [.pointer (some ⟨b2, 0, none⟩), .int .i64 x9]) Try.func41 rfl Try.ntmps41 (Nat.le_of_ble_eq_true rfl) fun a T => ?_
  refine Gets.seq ?_
  refine rg ?_
  refine r_pv T rfl rfl fun _ T => ?_
  refine Gets.seq ?_
  refine rg ?_
  refine r_pv T rfl rfl fun _ T => ?_
  refine r_pv T rfl rfl fun _ T => ?_
  refine r_fa (o' := 4) T rfl Try.runUnderlying69 rfl Try.sizeOf3 rfl rfl fun _ T => ?_
  refine r_ldB (ix := 0) T S rfl Try.isAgg3 rfl rfl rfl fun _ T => ?_
  refine r_pv T rfl rfl fun _ T => ?_
  refine r_pv T rfl rfl fun _ T => ?_
  refine r_fa (o' := 4) T rfl Try.runUnderlying69 rfl Try.sizeOf3 rfl rfl fun _ T => ?_
  refine r_stB (ix := 0) (l' := [blk b2 [.slice A3 x1.b.length k4, .slice A5 x1.blocks.length k6, .slice A7 x1.filter.length k8, .int .i64 x1.count, .int .i64 (wr .i64 (x1.reads + 1))], sl .ro ku8 A3 k4 x1.b, sl .ro ksstable_block A5 k6 x1.blocks, sl .ro ku8 A7 k8 x1.filter]) T S rfl rfl rfl Try.sizeOf3 rfl (Nat.le_of_ble_eq_true rfl) rfl fun _ S => ?_
  refine Gets.seq ?_
  obtain ⟨h10, H⟩ := ck H
  have h11 := S.len (i := 1) rfl
  obtain ⟨h12, H⟩ := ck H
  replace S := S.cutR (ix := 1) (i := (gi dsstable_block x1.blocks x9).from') (j := (gi dsstable_block x1.blocks x9).to') (k := (k4 : Int)) rfl h12.1 h12.2.1 h12.2.2 (by have := h12.2.2; omega) (by omega)
  refine Gets.drawn (l := [sl .ro ku8 (slA A3 (Int.toNat (k4 : Int)) (Int.toNat ((gi dsstable_block x1.blocks x9).from')) 1) (Int.toNat (k4 : Int) - Int.toNat ((gi dsstable_block x1.blocks x9).from')) (cut x1.b (Int.toNat ((gi dsstable_block x1.blocks x9).from')) (Int.toNat ((gi dsstable_block x1.blocks x9).to'))), blk b2 [.slice A3 x1.b.length k4, .slice A5 x1.blocks.length k6, .slice A7 x1.filter.length k8, .int .i64 x1.count, .int .i64 (wr .i64 (x1.reads + 1))], sl .ro ku8 A3 k4 x1.b, sl .ro ksstable_block A5 k6 x1.blocks, sl .ro ku8 A7 k8 x1.filter]) (V := [some (.pointer (some ⟨b2, 0, none⟩), true), some (.pointer (some ⟨b2, 0, none⟩), true), some (.pointer (some ⟨b2, 0, none⟩), true), some (.slice A3 x1.b.length k4, true), some (.pointer (some ⟨b2, 0, none⟩), true), some (.pointer (some ⟨b2, 0, none⟩), true), some (.pointer (some ⟨b2, 1, none⟩), true), some (.slice A5 x1.blocks.length k6, true), some (.int .i64 x9, true), some (.pointer (some (eA A5 (Int.toNat x9 * 5))), true), some (.pointer (some (eA A5 (Int.toNat x9 * 5 + 0))), true), some (.int .i64 ((gi dsstable_block x1.blocks x9).from'), true), some (.pointer (some ⟨b2, 0, none⟩), true), some (.pointer (some ⟨b2, 0, none⟩), true), some (.pointer (some ⟨b2, 1, none⟩), true), some (.slice A5 x1.blocks.length k6, true), some (.int .i64 x9, true), some (.pointer (some (eA A5 (Int.toNat x9 * 5))), true), some (.pointer (some (eA A5 (Int.toNat x9 * 5 + 1))), true), some (.int .i64 ((gi dsstable_block x1.blocks x9).to'), true), some (.slice (slA A3 (Int.toNat (k4 : Int)) (Int.toNat ((gi dsstable_block x1.blocks x9).from')) 1) ((cut x1.b (Int.toNat ((gi dsstable_block x1.blocks x9).from')) (Int.toNat ((gi dsstable_block x1.blocks x9).to'))).length) (Int.toNat (k4 : Int) - Int.toNat ((gi dsstable_block x1.blocks x9).from')), true), none, none, none, none, none, none, none, none]) mixed T S rfl ?_
  refine stage (some 21) rfl rfl ⟨⟨_, [(0, .pointer (some ⟨b2, 0, none⟩))], rfl, ⟨.inr ⟨rfl, rfl⟩, trivial⟩, fun u a w T S => (by refine r_pv T rfl rfl fun _ T => ?_; exact ⟨rfl, T⟩)⟩, ⟨_, [(16, .pointer (some ⟨b2, 0, none⟩))], rfl, ⟨.inl ⟨0, rfl, rfl, rfl, rfl⟩, trivial⟩, fun u a w T S => (by refine r_pv T rfl rfl fun _ T => ?_; exact ⟨rfl, T⟩)⟩, ⟨_, [(17, .pointer (some ⟨b2, 0, none⟩))], rfl, ⟨.inl ⟨1, rfl, rfl, rfl, rfl⟩, trivial⟩, fun u a w T S => (by refine r_fa (o' := 0) T rfl Try.runUnderlying69 rfl Try.sizeOf24 rfl rfl fun _ T => ?_; exact ⟨rfl, T⟩)⟩, ⟨_, [(18, .pointer (some ⟨b2, 0, none⟩))], rfl, ⟨.inl ⟨2, rfl, rfl, rfl, rfl⟩, trivial⟩, fun u a w T S => (by refine r_ldB (ix := 1) T S rfl Try.isAgg24 rfl rfl rfl fun _ T => ?_; exact ⟨rfl, T⟩)⟩, ⟨_, [(0, .pointer (some ⟨b2, 0, none⟩))], rfl, ⟨.inr ⟨rfl, rfl⟩, trivial⟩, fun u a w T S => (by refine r_pv T rfl rfl fun _ T => ?_; exact ⟨rfl, T⟩)⟩, ⟨_, [(20, .pointer (some ⟨b2, 0, none⟩))], rfl, ⟨.inl ⟨4, rfl, rfl, rfl, rfl⟩, trivial⟩, fun u a w T S => (by refine r_pv T rfl rfl fun _ T => ?_; exact ⟨rfl, T⟩)⟩, ⟨_, [(21, .pointer (some ⟨b2, 0, none⟩))], rfl, ⟨.inl ⟨5, rfl, rfl, rfl, rfl⟩, trivial⟩, fun u a w T S => (by refine r_fa (o' := 1) T rfl Try.runUnderlying69 rfl Try.sizeOf67 rfl rfl fun _ T => ?_; exact ⟨rfl, T⟩)⟩, ⟨_, [(22, .pointer (some ⟨b2, 1, none⟩))], rfl, ⟨.inl ⟨6, rfl, rfl, rfl, rfl⟩, trivial⟩, fun u a w T S => (by refine r_ldB (ix := 1) T S rfl Try.isAgg67 rfl rfl rfl fun _ T => ?_; exact ⟨rfl, T⟩)⟩, ⟨_, [(1, .int .i64 x9)], rfl, ⟨.inr ⟨rfl, rfl⟩, trivial⟩, fun u a w T S => (by refine r_pv T rfl rfl fun _ T => ?_; exact ⟨rfl, T⟩)⟩, ⟨_, [(23, .slice A5 x1.blocks.length k6), (24, .int .i64 x9)], rfl, ⟨.inl ⟨7, rfl, rfl, rfl, rfl⟩, .inl ⟨8, rfl, rfl, rfl, rfl⟩, trivial⟩, fun u a w T S => (by refine r_ia (ix := 3) T S rfl rfl rfl rfl Try.runUnderlying67 Try.sizeOf73 h10.1 h10.2 rfl fun _ T => ?_; exact ⟨rfl, T⟩)⟩, ⟨_, [(25, .pointer (some (eA A5 (Int.toNat x9 * 5))))], rfl, ⟨.inl ⟨9, rfl, rfl, rfl, rfl⟩, trivial⟩, fun u a w T S => (by refine r_faE T rfl Try.runUnderlying73 rfl Try.sizeOf3 rfl fun _ T => ?_; exact ⟨rfl, T⟩)⟩, ⟨_, [(26, .pointer (some (eA A5 (Int.toNat x9 * 5 + 0))))], rfl, ⟨.inl ⟨10, rfl, rfl, rfl, rfl⟩, trivial⟩, fun u a w T S => (by refine r_ldE (ix := 3) (i := x9) (off := 0) (f := (Value.int .i64)) T S rfl Try.isAgg3 rfl dsstable_block _ rfl rfl fld_sstable_block_from' h10.1 h10.2 (fun h => h) rfl fun _ T => ?_; exact ⟨rfl, T⟩)⟩, ⟨_, [(0, .pointer (some ⟨b2, 0, none⟩))], rfl, ⟨.inr ⟨rfl, rfl⟩, trivial⟩, fun u a w T S => (by refine r_pv T rfl rfl fun _ T => ?_; exact ⟨rfl, T⟩)⟩, ⟨_, [(28, .pointer (some ⟨b2, 0, none⟩))], rfl, ⟨.inl ⟨12, rfl, rfl, rfl, rfl⟩, trivial⟩, fun u a w T S => (by refine r_pv T rfl rfl fun _ T => ?_; exact ⟨rfl, T⟩)⟩, ⟨_, [(29, .pointer (some ⟨b2, 0, none⟩))], rfl, ⟨.inl ⟨13, rfl, rfl, rfl, rfl⟩, trivial⟩, fun u a w T S => (by refine r_fa (o' := 1) T rfl Try.runUnderlying69 rfl Try.sizeOf67 rfl rfl fun _ T => ?_; exact ⟨rfl, T⟩)⟩, ⟨_, [(30, .pointer (some ⟨b2, 1, none⟩))], rfl, ⟨.inl ⟨14, rfl, rfl, rfl, rfl⟩, trivial⟩, fun u a w T S => (by refine r_ldB (ix := 1) T S rfl Try.isAgg67 rfl rfl rfl fun _ T => ?_; exact ⟨rfl, T⟩)⟩, ⟨_, [(1, .int .i64 x9)], rfl, ⟨.inr ⟨rfl, rfl⟩, trivial⟩, fun u a w T S => (by refine r_pv T rfl rfl fun _ T => ?_; exact ⟨rfl, T⟩)⟩, ⟨_, [(31, .slice A5 x1.blocks.length k6), (32, .int .i64 x9)], rfl, ⟨.inl ⟨15, rfl, rfl, rfl, rfl⟩, .inl ⟨16, rfl, rfl, rfl, rfl⟩, trivial⟩, fun u a w T S => (by refine r_ia (ix := 3) T S rfl rfl rfl rfl Try.runUnderlying67 Try.sizeOf73 h10.1 h10.2 rfl fun _ T => ?_; exact ⟨rfl, T⟩)⟩, ⟨_, [(33, .pointer (some (eA A5 (Int.toNat x9 * 5))))], rfl, ⟨.inl ⟨17, rfl, rfl, rfl, rfl⟩, trivial⟩, fun u a w T S => (by refine r_faE T rfl Try.runUnderlying73 rfl Try.sizeOf3 rfl fun _ T => ?_; exact ⟨rfl, T⟩)⟩, ⟨_, [(34, .pointer (some (eA A5 (Int.toNat x9 * 5 + 1))))], rfl, ⟨.inl ⟨18, rfl, rfl, rfl, rfl⟩, trivial⟩, fun u a w T S => (by refine r_ldE (ix := 3) (i := x9) (off := 1) (f := (Value.int .i64)) T S rfl Try.isAgg3 rfl dsstable_block _ rfl rfl fld_sstable_block_to' h10.1 h10.2 (fun h => h) rfl fun _ T => ?_; exact ⟨rfl, T⟩)⟩, ⟨_, [(19, .slice A3 x1.b.length k4), (27, .int .i64 ((gi dsstable_block x1.blocks x9).from')), (35, .int .i64 ((gi dsstable_block x1.blocks x9).to'))], rfl, ⟨.inl ⟨3, rfl, rfl, rfl, rfl⟩, .inl ⟨11, rfl, rfl, rfl, rfl⟩, .inl ⟨19, rfl, rfl, rfl, rfl⟩, trivial⟩, fun u a w T S => (by refine r_slQ (xs := x1.b) T rfl (fun h => by cases h) rfl rfl rfl h12.1 h12.2.1 h12.2.2 (by have := h12.2.2; omega) (by omega) Try.runUnderlying24 Try.sizeOf5 rfl fun _ T => ?_; exact ⟨rfl, T⟩)⟩, trivial⟩ rfl (fun i hi => ?_) (fun h => by cases h)
  cases hi
  refine ⟨rfl, _, [(36, .slice (slA A3 (Int.toNat (k4 : Int)) (Int.toNat ((gi dsstable_block x1.blocks x9).from')) 1) ((cut x1.b (Int.toNat ((gi dsstable_block x1.blocks x9).from')) (Int.toNat ((gi dsstable_block x1.blocks x9).to'))).length) (Int.toNat (k4 : Int) - Int.toNat ((gi dsstable_block x1.blocks x9).from')))], rfl, ⟨.inl ⟨20, rfl, rfl, rfl, rfl⟩, trivial⟩, fun u a w T S => ?_⟩
  obtain ⟨x14, h13, H⟩ := bd H
  refine r_call T Try.call33 rfl rfl (sstable_entries.ok _ _ z (cut x1.b (Int.toNat ((gi dsstable_block x1.blocks x9).from')) (Int.toNat ((gi dsstable_block x1.blocks x9).to'))) (S.sel (p := [sl .ro ku8 (slA A3 (Int.toNat (k4 : Int)) (Int.toNat ((gi dsstable_block x1.blocks x9).from')) 1) (Int.toNat (k4 : Int) - Int.toNat ((gi dsstable_block x1.blocks x9).from')) (cut x1.b (Int.toNat ((gi dsstable_block x1.blocks x9).from')) (Int.toNat ((gi dsstable_block x1.blocks x9).to')))]) (is := [0]) rfl) _ h13) ?_
  rintro _ _ ⟨A15, k16, rfl, S⟩
  refine ⟨_, rfl, fun _ T => ?_⟩
  replace S : SL ([sl .own kapi_Entry A15 k16 x14.1, sl .ro ku8 (slA A3 (Int.toNat (k4 : Int)) (Int.toNat ((gi dsstable_block x1.blocks x9).from')) 1) (Int.toNat (k4 : Int) - Int.toNat ((gi dsstable_block x1.blocks x9).from')) (cut x1.b (Int.toNat ((gi dsstable_block x1.blocks x9).from')) (Int.toNat ((gi dsstable_block x1.blocks x9).to'))), blk b2 [.slice A3 x1.b.length k4, .slice A5 x1.blocks.length k6, .slice A7 x1.filter.length k8, .int .i64 x1.count, .int .i64 (wr .i64 (x1.reads + 1))], sl .ro ku8 A3 k4 x1.b, sl .ro ksstable_block A5 k6 x1.blocks, sl .ro ku8 A7 k8 x1.filter] ++ F) _ := S.join
  refine ⟨_, [some (.pointer (some ⟨b2, 0, none⟩), true), some (.pointer (some ⟨b2, 0, none⟩), true), some (.pointer (some ⟨b2, 0, none⟩), true), some (.slice A3 x1.b.length k4, true), some (.pointer (some ⟨b2, 0, none⟩), true), some (.pointer (some ⟨b2, 0, none⟩), true), some (.pointer (some ⟨b2, 1, none⟩), true), some (.slice A5 x1.blocks.length k6, true), some (.int .i64 x9, true), some (.pointer (some (eA A5 (Int.toNat x9 * 5))), true), some (.pointer (some (eA A5 (Int.toNat x9 * 5 + 0))), true), some (.int .i64 ((gi dsstable_block x1.blocks x9).from'), true), some (.pointer (some ⟨b2, 0, none⟩), true), some (.pointer (some ⟨b2, 0, none⟩), true), some (.pointer (some ⟨b2, 1, none⟩), true), some (.slice A5 x1.blocks.length k6, true), some (.int .i64 x9, true), some (.pointer (some (eA A5 (Int.toNat x9 * 5))), true), some (.pointer (some (eA A5 (Int.toNat x9 * 5 + 1))), true), some (.int .i64 ((gi dsstable_block x1.blocks x9).to'), true), some (.slice (slA A3 (Int.toNat (k4 : Int)) (Int.toNat ((gi dsstable_block x1.blocks x9).from')) 1) ((cut x1.b (Int.toNat ((gi dsstable_block x1.blocks x9).from')) (Int.toNat ((gi dsstable_block x1.blocks x9).to'))).length) (Int.toNat (k4 : Int) - Int.toNat ((gi dsstable_block x1.blocks x9).from')), false), some (.tuple #[.slice A15 x14.1.length k16, .int .i64 x14.2.1, .bool x14.2.2], false), some (.tuple #[.slice A15 x14.1.length k16, .int .i64 x14.2.1, .bool x14.2.2], true), some (.slice A15 x14.1.length k16, true), some (.int .i64 x14.2.1, true), some (.bool x14.2.2, true), some (.slice A15 x14.1.length k16, true), some (.int .i64 x14.2.1, true), some (.bool x14.2.2, true)], [sl .own kapi_Entry A15 k16 x14.1, sl .ro ku8 (slA A3 (Int.toNat (k4 : Int)) (Int.toNat ((gi dsstable_block x1.blocks x9).from')) 1) (Int.toNat (k4 : Int) - Int.toNat ((gi dsstable_block x1.blocks x9).from')) (cut x1.b (Int.toNat ((gi dsstable_block x1.blocks x9).from')) (Int.toNat ((gi dsstable_block x1.blocks x9).to'))), blk b2 [.slice A3 x1.b.length k4, .slice A5 x1.blocks.length k6, .slice A7 x1.filter.length k8, .int .i64 x1.count, .int .i64 (wr .i64 (x1.reads + 1))], sl .ro ku8 A3 k4 x1.b, sl .ro ksstable_block A5 k6 x1.blocks, sl .ro ku8 A7 k8 x1.filter], rfl, ⟨.inr ⟨_, _, _, rfl, rfl⟩, .inr ⟨_, _, _, rfl, rfl⟩, .inr ⟨_, _, _, rfl, rfl⟩, .inr ⟨_, _, _, rfl, rfl⟩, .inr ⟨_, _, _, rfl, rfl⟩, .inr ⟨_, _, _, rfl, rfl⟩, .inr ⟨_, _, _, rfl, rfl⟩, .inr ⟨_, _, _, rfl, rfl⟩, .inr ⟨_, _, _, rfl, rfl⟩, .inr ⟨_, _, _, rfl, rfl⟩, .inr ⟨_, _, _, rfl, rfl⟩, .inr ⟨_, _, _, rfl, rfl⟩, .inr ⟨_, _, _, rfl, rfl⟩, .inr ⟨_, _, _, rfl, rfl⟩, .inr ⟨_, _, _, rfl, rfl⟩, .inr ⟨_, _, _, rfl, rfl⟩, .inr ⟨_, _, _, rfl, rfl⟩, .inr ⟨_, _, _, rfl, rfl⟩, .inr ⟨_, _, _, rfl, rfl⟩, .inr ⟨_, _, _, rfl, rfl⟩, .inr ⟨_, _, _, rfl, rfl⟩, .inl rfl, .inl rfl, .inl rfl, .inl rfl, .inl rfl, .inl rfl, .inl rfl, .inl rfl, trivial⟩, rfl, ?_, T, S⟩
  refine stage none rfl rfl ⟨⟨_, [(0, .pointer (some ⟨b2, 0, none⟩))], rfl, ⟨.inr ⟨rfl, rfl⟩, trivial⟩, fun u a w T S => (by refine r_pv T rfl rfl fun _ T => ?_; exact ⟨rfl, T⟩)⟩, ⟨_, [(16, .pointer (some ⟨b2, 0, none⟩))], rfl, ⟨.inl ⟨0, rfl, rfl, rfl, rfl⟩, trivial⟩, fun u a w T S => (by refine r_pv T rfl rfl fun _ T => ?_; exact ⟨rfl, T⟩)⟩, ⟨_, [(17, .pointer (some ⟨b2, 0, none⟩))], rfl, ⟨.inl ⟨1, rfl, rfl, rfl, rfl⟩, trivial⟩, fun u a w T S => (by refine r_fa (o' := 0) T rfl Try.runUnderlying69 rfl Try.sizeOf24 rfl rfl fun _ T => ?_; exact ⟨rfl, T⟩)⟩, ⟨_, [(18, .pointer (some ⟨b2, 0, none⟩))], rfl, ⟨.inl ⟨2, rfl, rfl, rfl, rfl⟩, trivial⟩, fun u a w T S => (by refine r_ldB (ix := 2) T S rfl Try.isAgg24 rfl rfl rfl fun _ T => ?_; exact ⟨rfl, T⟩)⟩, ⟨_, [(0, .pointer (some ⟨b2, 0, none⟩))], rfl, ⟨.inr ⟨rfl, rfl⟩, trivial⟩, fun u a w T S => (by refine r_pv T rfl rfl fun _ T => ?_; exact ⟨rfl, T⟩)⟩, ⟨_, [(20, .pointer (some ⟨b2, 0, none⟩))], rfl, ⟨.inl ⟨4, rfl, rfl, rfl, rfl⟩, trivial⟩, fun u a w T S => (by refine r_pv T rfl rfl fun _ T => ?_; exact ⟨rfl, T⟩)⟩, ⟨_, [(21, .pointer (some ⟨b2, 0, none⟩))], rfl, ⟨.inl ⟨5, rfl, rfl, rfl, rfl⟩, trivial⟩, fun u a w T S => (by refine r_fa (o' := 1) T rfl Try.runUnderlying69 rfl Try.sizeOf67 rfl rfl fun _ T => ?_; exact ⟨rfl, T⟩)⟩, ⟨_, [(22, .pointer (some ⟨b2, 1, none⟩))], rfl, ⟨.inl ⟨6, rfl, rfl, rfl, rfl⟩, trivial⟩, fun u a w T S => (by refine r_ldB (ix := 2) T S rfl Try.isAgg67 rfl rfl rfl fun _ T => ?_; exact ⟨rfl, T⟩)⟩, ⟨_, [(1, .int .i64 x9)], rfl, ⟨.inr ⟨rfl, rfl⟩, trivial⟩, fun u a w T S => (by refine r_pv T rfl rfl fun _ T => ?_; exact ⟨rfl, T⟩)⟩, ⟨_, [(23, .slice A5 x1.blocks.length k6), (24, .int .i64 x9)], rfl, ⟨.inl ⟨7, rfl, rfl, rfl, rfl⟩, .inl ⟨8, rfl, rfl, rfl, rfl⟩, trivial⟩, fun u a w T S => (by refine r_ia (ix := 4) T S rfl rfl rfl rfl Try.runUnderlying67 Try.sizeOf73 h10.1 h10.2 rfl fun _ T => ?_; exact ⟨rfl, T⟩)⟩, ⟨_, [(25, .pointer (some (eA A5 (Int.toNat x9 * 5))))], rfl, ⟨.inl ⟨9, rfl, rfl, rfl, rfl⟩, trivial⟩, fun u a w T S => (by refine r_faE T rfl Try.runUnderlying73 rfl Try.sizeOf3 rfl fun _ T => ?_; exact ⟨rfl, T⟩)⟩, ⟨_, [(26, .pointer (some (eA A5 (Int.toNat x9 * 5 + 0))))], rfl, ⟨.inl ⟨10, rfl, rfl, rfl, rfl⟩, trivial⟩, fun u a w T S => (by refine r_ldE (ix := 4) (i := x9) (off := 0) (f := (Value.int .i64)) T S rfl Try.isAgg3 rfl dsstable_block _ rfl rfl fld_sstable_block_from' h10.1 h10.2 (fun h => h) rfl fun _ T => ?_; exact ⟨rfl, T⟩)⟩, ⟨_, [(0, .pointer (some ⟨b2, 0, none⟩))], rfl, ⟨.inr ⟨rfl, rfl⟩, trivial⟩, fun u a w T S => (by refine r_pv T rfl rfl fun _ T => ?_; exact ⟨rfl, T⟩)⟩, ⟨_, [(28, .pointer (some ⟨b2, 0, none⟩))], rfl, ⟨.inl ⟨12, rfl, rfl, rfl, rfl⟩, trivial⟩, fun u a w T S => (by refine r_pv T rfl rfl fun _ T => ?_; exact ⟨rfl, T⟩)⟩, ⟨_, [(29, .pointer (some ⟨b2, 0, none⟩))], rfl, ⟨.inl ⟨13, rfl, rfl, rfl, rfl⟩, trivial⟩, fun u a w T S => (by refine r_fa (o' := 1) T rfl Try.runUnderlying69 rfl Try.sizeOf67 rfl rfl fun _ T => ?_; exact ⟨rfl, T⟩)⟩, ⟨_, [(30, .pointer (some ⟨b2, 1, none⟩))], rfl, ⟨.inl ⟨14, rfl, rfl, rfl, rfl⟩, trivial⟩, fun u a w T S => (by refine r_ldB (ix := 2) T S rfl Try.isAgg67 rfl rfl rfl fun _ T => ?_; exact ⟨rfl, T⟩)⟩, ⟨_, [(1, .int .i64 x9)], rfl, ⟨.inr ⟨rfl, rfl⟩, trivial⟩, fun u a w T S => (by refine r_pv T rfl rfl fun _ T => ?_; exact ⟨rfl, T⟩)⟩, ⟨_, [(31, .slice A5 x1.blocks.length k6), (32, .int .i64 x9)], rfl, ⟨.inl ⟨15, rfl, rfl, rfl, rfl⟩, .inl ⟨16, rfl, rfl, rfl, rfl⟩, trivial⟩, fun u a w T S => (by refine r_ia (ix := 4) T S rfl rfl rfl rfl Try.runUnderlying67 Try.sizeOf73 h10.1 h10.2 rfl fun _ T => ?_; exact ⟨rfl, T⟩)⟩, ⟨_, [(33, .pointer (some (eA A5 (Int.toNat x9 * 5))))], rfl, ⟨.inl ⟨17, rfl, rfl, rfl, rfl⟩, trivial⟩, fun u a w T S => (by refine r_faE T rfl Try.runUnderlying73 rfl Try.sizeOf3 rfl fun _ T => ?_; exact ⟨rfl, T⟩)⟩, ⟨_, [(34, .pointer (some (eA A5 (Int.toNat x9 * 5 + 1))))], rfl, ⟨.inl ⟨18, rfl, rfl, rfl, rfl⟩, trivial⟩, fun u a w T S => (by refine r_ldE (ix := 4) (i := x9) (off := 1) (f := (Value.int .i64)) T S rfl Try.isAgg3 rfl dsstable_block _ rfl rfl fld_sstable_block_to' h10.1 h10.2 (fun h => h) rfl fun _ T => ?_; exact ⟨rfl, T⟩)⟩, ⟨_, [(37, .tuple #[.slice A15 x14.1.length k16, .int .i64 x14.2.1, .bool x14.2.2])], rfl, ⟨.inl ⟨21, rfl, rfl, rfl, rfl⟩, trivial⟩, fun u a w T S => (by refine r_pv T rfl rfl fun _ T => ?_; exact ⟨rfl, T⟩)⟩, ⟨_, [(15, .tuple #[.slice A15 x14.1.length k16, .int .i64 x14.2.1, .bool x14.2.2])], rfl, ⟨.inl ⟨22, rfl, rfl, rfl, rfl⟩, trivial⟩, fun u a w T S => (by refine r_pv T rfl rfl fun _ T => ?_; exact ⟨rfl, T⟩)⟩, ⟨_, [(15, .tuple #[.slice A15 x14.1.length k16, .int .i64 x14.2.1, .bool x14.2.2])], rfl, ⟨.inl ⟨22, rfl, rfl, rfl, rfl⟩, trivial⟩, fun u a w T S => (by refine r_pv T rfl rfl fun _ T => ?_; exact ⟨rfl, T⟩)⟩, ⟨_, [(15, .tuple #[.slice A15 x14.1.length k16, .int .i64 x14.2.1, .bool x14.2.2])], rfl, ⟨.inl ⟨22, rfl, rfl, rfl, rfl⟩, trivial⟩, fun u a w T S => (by refine r_pv T rfl rfl fun _ T => ?_; exact ⟨rfl, T⟩)⟩, ⟨_, [(38, .slice A15 x14.1.length k16)], rfl, ⟨.inl ⟨23, rfl, rfl, rfl, rfl⟩, trivial⟩, fun u a w T S => (by refine r_pv T rfl rfl fun _ T => ?_; exact ⟨rfl, T⟩)⟩, ⟨_, [(39, .int .i64 x14.2.1)], rfl, ⟨.inl ⟨24, rfl, rfl, rfl, rfl⟩, trivial⟩, fun u a w T S => (by refine r_pv T rfl rfl fun _ T => ?_; exact ⟨rfl, T⟩)⟩, ⟨_, [(40, .bool x14.2.2)], rfl, ⟨.inl ⟨25, rfl, rfl, rfl, rfl⟩, trivial⟩, fun u a w T S => (by refine r_pv T rfl rfl fun _ T => ?_; exact ⟨rfl, T⟩)⟩, trivial⟩ rfl (fun i hi => by cases hi) (fun _ _ a w T hv hb S => ?_)
  replace T := T.sub (r := [(5, .slice A15 x14.1.length k16)]) ⟨hv 26 _ 5 rfl rfl rfl, trivial⟩
  refine Gets.seq ?_
  refine rg ?_
  refine r_pv T rfl rfl fun _ T => ?_
  refine r_pv T rfl rfl fun _ T => ?_
  replace H := Option.some.inj H
  subst H
  exact rtn T Try.func41 rfl rfl ⟨A15, k16, A3, k4, A5, k6, A7, k8, rfl, (S.only (p := [sl .own kapi_Entry A15 k16 x14.1, blk b2 [.slice A3 x1.b.length k4, .slice A5 x1.blocks.length k6, .slice A7 x1.filter.length k8, .int .i64 x1.count, .int .i64 (wr .i64 (x1.reads + 1))], sl .ro ku8 A3 k4 x1.b, sl .ro ksstable_block A5 k6 x1.blocks, sl .ro ku8 A7 k8 x1.filter]) [0, 1, 1, 1, 1] rfl)⟩
end sstable_Table_look
end Go.Proofs.Ytghpokmkhlmgcaa

namespace Go.Proofs.Ytghpokmkhlmgcaa
open Go Go.Proofs.Ytghpokmkhlmgcaa.X
set_option linter.unusedVariables false
set_option linter.unusedSimpArgs false
set_option maxRecDepth 100000
set_option maxHeartbeats 4000000
namespace sstable_Table_look
def RD (F : List Atom) (b2 : Nat) (r : (List api_Entry) × sstable_Table) : Ending → World → Prop := fun e w' => ∃ (ys : List RE), ∃ (A17 : Option Addr), ∃ (k18 : Nat), ∃ (A20 : Option Addr), ∃ (k21 : Nat), ∃ (A22 : Option Addr), ∃ (k23 : Nat), ∃ (A24 : Option Addr), ∃ (k25 : Nat), r.1 = ys.map (·.e) ∧ e = .returned (.slice A17 ys.length k18) ∧ SL ([sl .own kRE A17 k18 ys, blk b2 [.slice A20 r.2.b.length k21, .slice A22 r.2.blocks.length k23, .slice A24 r.2.filter.length k25, .int .i64 r.2.count, .int .i64 r.2.reads], sl .ro ku8 A20 k21 r.2.b, sl .ro ksstable_block A22 k23 r.2.blocks, sl .ro ku8 A24 k25 r.2.filter, pack (own8 (pls ys))] ++ F) w'
theorem okD (F : List Atom) (w : World) (z : Nat) (x1 : sstable_Table) (x9 : Int) {b2 : Nat} {A3 : Option Addr} {k4 : Nat} {A5 : Option Addr} {k6 : Nat} {A7 : Option Addr} {k8 : Nat} (S : SL ([blk b2 [.slice A3 x1.b.length k4, .slice A5 x1.blocks.length k6, .slice A7 x1.filter.length k8, .int .i64 x1.count, .int .i64 x1.reads], sl .ro ku8 A3 k4 x1.b, sl .ro ksstable_block A5 k6 x1.blocks, sl .ro ku8 A7 k8 x1.filter] ++ F) w) (r : (List api_Entry) × sstable_Table) (H : f z x1 x9 = some r) : Calls Try.prog 41 #[.pointer (some ⟨b2, 0, none⟩), .int .i64 x9] w (RD F b2 r) := by
  refine enter (vs := [.pointer (some ⟨b2, 0, none⟩), .int .i64 x9]) Try.func41 rfl Try.ntmps41 (Nat.le_of_ble_eq_true rfl) fun a T => ?_
  refine Gets.seq ?_
  refine rg ?_
  refine r_pv T rfl rfl fun _ T => ?_
  refine Gets.seq ?_
  refine rg ?_
  refine r_pv T rfl rfl fun _ T => ?_
  refine r_pv T rfl rfl fun _ T => ?_
  refine r_fa (o' := 4) T rfl Try.runUnderlying69 rfl Try.sizeOf3 rfl rfl fun _ T => ?_
  refine r_ldB (ix := 0) T S rfl Try.isAgg3 rfl rfl rfl fun _ T => ?_
  refine r_pv T rfl rfl fun _ T => ?_
  refine r_pv T rfl rfl fun _ T => ?_
  refine r_fa (o' := 4) T rfl Try.runUnderlying69 rfl Try.sizeOf3 rfl rfl fun _ T => ?_
  refine r_stB (ix := 0) (l' := [blk b2 [.slice A3 x1.b.length k4, .slice A5 x1.blocks.length k6, .slice A7 x1.filter.length k8, .int .i64 x1.count, .int .i64 (wr .i64 (x1.reads + 1))], sl .ro ku8 A3 k4 x1.b, sl .ro ksstable_block A5 k6 x1.blocks, sl .ro ku8 A7 k8 x1.filter]) T S rfl rfl rfl Try.sizeOf3 rfl (Nat.le_of_ble_eq_true rfl) rfl fun _ S => ?_
  refine Gets.seq ?_
  obtain ⟨h10, H⟩ := ck H
  have h11 := S.len (i := 1) rfl
  obtain ⟨h12, H⟩ := ck H
  replace S := S.cutR (ix := 1) (i := (gi dsstable_block x1.blocks x9).from') (j := (gi dsstable_block x1.blocks x9).to') (k := (k4 : Int)) rfl h12.1 h12.2.1 h12.2.2 (by have := h12.2.2; omega) (by omega)
  refine Gets.drawn (l := [sl .ro ku8 (slA A3 (Int.toNat (k4 : Int)) (Int.toNat ((gi dsstable_block x1.blocks x9).from')) 1) (Int.toNat (k4 : Int) - Int.toNat ((gi dsstable_block x1.blocks x9).from')) (cut x1.b (Int.toNat ((gi dsstable_block x1.blocks x9).from')) (Int.toNat ((gi dsstable_block x1.blocks x9).to'))), blk b2 [.slice A3 x1.b.length k4, .slice A5 x1.blocks.length k6, .slice A7 x1.filter.length k8, .int .i64 x1.count, .int .i64 (wr .i64 (x1.reads + 1))], sl .ro ku8 A3 k4 x1.b, sl .ro ksstable_block A5 k6 x1.blocks, sl .ro ku8 A7 k8 x1.filter]) (V := [some (.pointer (some ⟨b2, 0, none⟩), true), some (.pointer (some ⟨b2, 0, none⟩), true), some (.pointer (some ⟨b2, 0, none⟩), true), some (.slice A3 x1.b.length k4, true), some (.pointer (some ⟨b2, 0, none⟩), true), some (.pointer (some ⟨b2, 0, none⟩), true), some (.pointer (some ⟨b2, 1, none⟩), true), some (.slice A5 x1.blocks.length k6, true), some (.int .i64 x9, true), some (.pointer (some (eA A5 (Int.toNat x9 * 5))), true), some (.pointer (some (eA A5 (Int.toNat x9 * 5 + 0))), true), some (.int .i64 ((gi dsstable_block x1.blocks x9).from'), true), some (.pointer (some ⟨b2, 0, none⟩), true), some (.pointer (some ⟨b2, 0, none⟩), true), some (.pointer (some ⟨b2, 1, none⟩), true), some (.slice A5 x1.blocks.length k6, true), some (.int .i64 x9, true), some (.pointer (some (eA A5 (Int.toNat x9 * 5))), true), some (.pointer (some (eA A5 (Int.toNat x9 * 5 + 1))), true), some (.int .i64 ((gi dsstable_block x1.blocks x9).to'), true), some (.slice (slA A3 (Int.toNat (k4 : Int)) (Int.toNat ((gi dsstable_block x1.blocks x9).from')) 1) ((cut x1.b (Int.toNat ((gi dsstable_block x1.blocks x9).from')) (Int.toNat ((gi dsstable_block x1.blocks x9).to'))).length) (Int.toNat (k4 : Int) - Int.toNat ((gi dsstable_block x1.blocks x9).from')), true), none, none, none, none, none, none, none, none]) mixed T S rfl ?_
  refine stage (some 21) rfl rfl ⟨⟨_, [(0, .pointer (some ⟨b2, 0, none⟩))], rfl, ⟨.inr ⟨rfl, rfl⟩, trivial⟩, fun u a w T S => (by refine r_pv T rfl rfl fun _ T => ?_; exact ⟨rfl, T⟩)⟩, ⟨_, [(16, .pointer (some ⟨b2, 0, none⟩))], rfl, ⟨.inl ⟨0, rfl, rfl, rfl, rfl⟩, trivial⟩, fun u a w T S => (by refine r_pv T rfl rfl fun _ T => ?_; exact ⟨rfl, T⟩)⟩, ⟨_, [(17, .pointer (some ⟨b2, 0, none⟩))], rfl, ⟨.inl ⟨1, rfl, rfl, rfl, rfl⟩, trivial⟩, fun u a w T S => (by refine r_fa (o' := 0) T rfl Try.runUnderlying69 rfl Try.sizeOf24 rfl rfl fun _ T => ?_; exact ⟨rfl, T⟩)⟩, ⟨_, [(18, .pointer (some ⟨b2, 0, none⟩))], rfl, ⟨.inl ⟨2, rfl, rfl, rfl, rfl⟩, trivial⟩, fun u a w T S => (by refine r_ldB (ix := 1) T S rfl Try.isAgg24 rfl rfl rfl fun _ T => ?_; exact ⟨rfl, T⟩)⟩, ⟨_, [(0, .pointer (some ⟨b2, 0, none⟩))], rfl, ⟨.inr ⟨rfl, rfl⟩, trivial⟩, fun u a w T S => (by refine r_pv T rfl rfl fun _ T => ?_; exact ⟨rfl, T⟩)⟩, ⟨_, [(20, .pointer (some ⟨b2, 0, none⟩))], rfl, ⟨.inl ⟨4, rfl, rfl, rfl, rfl⟩, trivial⟩, fun u a w T S => (by refine r_pv T rfl rfl fun _ T => ?_; exact ⟨rfl, T⟩)⟩, ⟨_, [(21, .pointer (some ⟨b2, 0, none⟩))], rfl, ⟨.inl ⟨5, rfl, rfl, rfl, rfl⟩, trivial⟩, fun u a w T S => (by refine r_fa (o' := 1) T rfl Try.runUnderlying69 rfl Try.sizeOf67 rfl rfl fun _ T => ?_; exact ⟨rfl, T⟩)⟩, ⟨_, [(22, .pointer (some ⟨b2, 1, none⟩))], rfl, ⟨.inl ⟨6, rfl, rfl, rfl, rfl⟩, trivial⟩, fun u a w T S => (by refine r_ldB (ix := 1) T S rfl Try.isAgg67 rfl rfl rfl fun _ T => ?_; exact ⟨rfl, T⟩)⟩, ⟨_, [(1, .int .i64 x9)], rfl, ⟨.inr ⟨rfl, rfl⟩, trivial⟩, fun u a w T S => (by refine r_pv T rfl rfl fun _ T => ?_; exact ⟨rfl, T⟩)⟩, ⟨_, [(23, .slice A5 x1.blocks.length k6), (24, .int .i64 x9)], rfl, ⟨.inl ⟨7, rfl, rfl, rfl, rfl⟩, .inl ⟨8, rfl, rfl, rfl, rfl⟩, trivial⟩, fun u a w T S => (by refine r_ia (ix := 3) T S rfl rfl rfl rfl Try.runUnderlying67 Try.sizeOf73 h10.1 h10.2 rfl fun _ T => ?_; exact ⟨rfl, T⟩)⟩, ⟨_, [(25, .pointer (some (eA A5 (Int.toNat x9 * 5))))], rfl, ⟨.inl ⟨9, rfl, rfl, rfl, rfl⟩, trivial⟩, fun u a w T S => (by refine r_faE T rfl Try.runUnderlying73 rfl Try.sizeOf3 rfl fun _ T => ?_; exact ⟨rfl, T⟩)⟩, ⟨_, [(26, .pointer (some (eA A5 (Int.toNat x9 * 5 + 0))))], rfl, ⟨.inl ⟨10, rfl, rfl, rfl, rfl⟩, trivial⟩, fun u a w T S => (by refine r_ldE (ix := 3) (i := x9) (off := 0) (f := (Value.int .i64)) T S rfl Try.isAgg3 rfl dsstable_block _ rfl rfl fld_sstable_block_from' h10.1 h10.2 (fun h => h) rfl fun _ T => ?_; exact ⟨rfl, T⟩)⟩, ⟨_, [(0, .pointer (some ⟨b2, 0, none⟩))], rfl, ⟨.inr ⟨rfl, rfl⟩, trivial⟩, fun u a w T S => (by refine r_pv T rfl rfl fun _ T => ?_; exact ⟨rfl, T⟩)⟩, ⟨_, [(28, .pointer (some ⟨b2, 0, none⟩))], rfl, ⟨.inl ⟨12, rfl, rfl, rfl, rfl⟩, trivial⟩, fun u a w T S => (by refine r_pv T rfl rfl fun _ T => ?_; exact ⟨rfl, T⟩)⟩, ⟨_, [(29, .pointer (some ⟨b2, 0, none⟩))], rfl, ⟨.inl ⟨13, rfl, rfl, rfl, rfl⟩, trivial⟩, fun u a w T S => (by refine r_fa (o' := 1) T rfl Try.runUnderlying69 rfl Try.sizeOf67 rfl rfl fun _ T => ?_; exact ⟨rfl, T⟩)⟩, ⟨_, [(30, .pointer (some ⟨b2, 1, none⟩))], rfl, ⟨.inl ⟨14, rfl, rfl, rfl, rfl⟩, trivial⟩, fun u a w T S => (by refine r_ldB (ix := 1) T S rfl Try.isAgg67 rfl rfl rfl fun _ T => ?_; exact ⟨rfl, T⟩)⟩, ⟨_, [(1, .int .i64 x9)], rfl, ⟨.inr ⟨rfl, rfl⟩, trivial⟩, fun u a w T S => (by refine r_pv T rfl rfl fun _ T => ?_; exact ⟨rfl, T⟩)⟩, ⟨_, [(31, .slice A5 x1.blocks.length k6), (32, .int .i64 x9)], rfl, ⟨.inl ⟨15, rfl, rfl, rfl, rfl⟩, .inl ⟨16, rfl, rfl, rfl, rfl⟩, trivial⟩, fun u a w T S => (by refine r_ia (ix := 3) T S rfl rfl rfl rfl Try.runUnderlying67 Try.sizeOf73 h10.1 h10.2 rfl fun _ T => ?_; exact ⟨rfl, T⟩)⟩, ⟨_, [(33, .pointer (some (eA A5 (Int.toNat x9 * 5))))], rfl, ⟨.inl ⟨17, rfl, rfl, rfl, rfl⟩, trivial⟩, fun u a w T S => (by refine r_faE T rfl Try.runUnderlying73 rfl Try.sizeOf3 rfl fun _ T => ?_; exact ⟨rfl, T⟩)⟩, ⟨_, [(34, .pointer (some (eA A5 (Int.toNat x9 * 5 + 1))))], rfl, ⟨.inl ⟨18, rfl, rfl, rfl, rfl⟩, trivial⟩, fun u a w T S => (by refine r_ldE (ix := 3) (i := x9) (off := 1) (f := (Value.int .i64)) T S rfl Try.isAgg3 rfl dsstable_block _ rfl rfl fld_sstable_block_to' h10.1 h10.2 (fun h => h) rfl fun _ T => ?_; exact ⟨rfl, T⟩)⟩, ⟨_, [(19, .slice A3 x1.b.length k4), (27, .int .i64 ((gi dsstable_block x1.blocks x9).from')), (35, .int .i64 ((gi dsstable_block x1.blocks x9).to'))], rfl, ⟨.inl ⟨3, rfl, rfl, rfl, rfl⟩, .inl ⟨11, rfl, rfl, rfl, rfl⟩, .inl ⟨19, rfl, rfl, rfl, rfl⟩, trivial⟩, fun u a w T S => (by refine r_slQ (xs := x1.b) T rfl (fun h => by cases h) rfl rfl rfl h12.1 h12.2.1 h12.2.2 (by have := h12.2.2; omega) (by omega) Try.runUnderlying24 Try.sizeOf5 rfl fun _ T => ?_; exact ⟨rfl, T⟩)⟩, trivial⟩ rfl (fun i hi => ?_) (fun h => by cases h)
  cases hi
  refine ⟨rfl, _, [(36, .slice (slA A3 (Int.toNat (k4 : Int)) (Int.toNat ((gi dsstable_block x1.blocks x9).from')) 1) ((cut x1.b (Int.toNat ((gi dsstable_block x1.blocks x9).from')) (Int.toNat ((gi dsstable_block x1.blocks x9).to'))).length) (Int.toNat (k4 : Int) - Int.toNat ((gi dsstable_block x1.blocks x9).from')))], rfl, ⟨.inl ⟨20, rfl, rfl, rfl, rfl⟩, trivial⟩, fun u a w T S => ?_⟩
  obtain ⟨x14, h13, H⟩ := bd H
  refine r_call T Try.call33 rfl rfl (sstable_entries.okD _ _ z (cut x1.b (Int.toNat ((gi dsstable_block x1.blocks x9).from')) (Int.toNat ((gi dsstable_block x1.blocks x9).to'))) (S.sel (p := [sl .ro ku8 (slA A3 (Int.toNat (k4 : Int)) (Int.toNat ((gi dsstable_block x1.blocks x9).from')) 1) (Int.toNat (k4 : Int) - Int.toNat ((gi dsstable_block x1.blocks x9).from')) (cut x1.b (Int.toNat ((gi dsstable_block x1.blocks x9).from')) (Int.toNat ((gi dsstable_block x1.blocks x9).to')))]) (is := [0]) rfl) _ h13) ?_
  rintro _ _ ⟨ys, A15, k16, hys, rfl, S⟩
  refine ⟨_, rfl, fun _ T => ?_⟩
  replace S : SL ([sl .own kRE A15 k16 ys, pack (own8 (pls ys)), sl .ro ku8 (slA A3 (Int.toNat (k4 : Int)) (Int.toNat ((gi dsstable_block x1.blocks x9).from')) 1) (Int.toNat (k4 : Int) - Int.toNat ((gi dsstable_block x1.blocks x9).from')) (cut x1.b (Int.toNat ((gi dsstable_block x1.blocks x9).from')) (Int.toNat ((gi dsstable_block x1.blocks x9).to'))), blk b2 [.slice A3 x1.b.length k4, .slice A5 x1.blocks.length k6, .slice A7 x1.filter.length k8, .int .i64 x1.count, .int .i64 (wr .i64 (x1.reads + 1))], sl .ro ku8 A3 k4 x1.b, sl .ro ksstable_block A5 k6 x1.blocks, sl .ro ku8 A7 k8 x1.filter] ++ F) _ := S
  replace S : SL ([sl .own kRE A15 k16 ys, sl .ro ku8 (slA A3 (Int.toNat (k4 : Int)) (Int.toNat ((gi dsstable_block x1.blocks x9).from')) 1) (Int.toNat (k4 : Int) - Int.toNat ((gi dsstable_block x1.blocks x9).from')) (cut x1.b (Int.toNat ((gi dsstable_block x1.blocks x9).from')) (Int.toNat ((gi dsstable_block x1.blocks x9).to'))), blk b2 [.slice A3 x1.b.length k4, .slice A5 x1.blocks.length k6, .slice A7 x1.filter.length k8, .int .i64 x1.count, .int .i64 (wr .i64 (x1.reads + 1))], sl .ro ku8 A3 k4 x1.b, sl .ro ksstable_block A5 k6 x1.blocks, sl .ro ku8 A7 k8 x1.filter, pack (own8 (pls ys))] ++ F) _ := S.only [0, 1, 1, 1, 1, 1, 0] rfl
  refine ⟨_, [some (.pointer (some ⟨b2, 0, none⟩), true), some (.pointer (some ⟨b2, 0, none⟩), true), some (.pointer (some ⟨b2, 0, none⟩), true), some (.slice A3 x1.b.length k4, true), some (.pointer (some ⟨b2, 0, none⟩), true), some (.pointer (some ⟨b2, 0, none⟩), true), some (.pointer (some ⟨b2, 1, none⟩), true), some (.slice A5 x1.blocks.length k6, true), some (.int .i64 x9, true), some (.pointer (some (eA A5 (Int.toNat x9 * 5))), true), some (.pointer (some (eA A5 (Int.toNat x9 * 5 + 0))), true), some (.int .i64 ((gi dsstable_block x1.blocks x9).from'), true), some (.pointer (some ⟨b2, 0, none⟩), true), some (.pointer (some ⟨b2, 0, none⟩), true), some (.pointer (some ⟨b2, 1, none⟩), true), some (.slice A5 x1.blocks.length k6, true), some (.int .i64 x9, true), some (.pointer (some (eA A5 (Int.toNat x9 * 5))), true), some (.pointer (some (eA A5 (Int.toNat x9 * 5 + 1))), true), some (.int .i64 ((gi dsstable_block x1.blocks x9).to'), true), some (.slice (slA A3 (Int.toNat (k4 : Int)) (Int.toNat ((gi dsstable_block x1.blocks x9).from')) 1) ((cut x1.b (Int.toNat ((gi dsstable_block x1.blocks x9).from')) (Int.toNat ((gi dsstable_block x1.blocks x9).to'))).length) (Int.toNat (k4 : Int) - Int.toNat ((gi dsstable_block x1.blocks x9).from')), false), some (.tuple #[.slice A15 ys.length k16, .int .i64 x14.2.1, .bool x14.2.2], false), some (.tuple #[.slice A15 ys.length k16, .int .i64 x14.2.1, .bool x14.2.2], true), some (.slice A15 ys.length k16, true), some (.int .i64 x14.2.1, true), some (.bool x14.2.2, true), some (.slice A15 ys.length k16, true), some (.int .i64 x14.2.1, true), some (.bool x14.2.2, true)], [sl .own kRE A15 k16 ys, sl .ro ku8 (slA A3 (Int.toNat (k4 : Int)) (Int.toNat ((gi dsstable_block x1.blocks x9).from')) 1) (Int.toNat (k4 : Int) - Int.toNat ((gi dsstable_block x1.blocks x9).from')) (cut x1.b (Int.toNat ((gi dsstable_block x1.blocks x9).from')) (Int.toNat ((gi dsstable_block x1.blocks x9).to'))), blk b2 [.slice A3 x1.b.length k4, .slice A5 x1.blocks.length k6, .slice A7 x1.filter.length k8, .int .i64 x1.count, .int .i64 (wr .i64 (x1.reads + 1))], sl .ro ku8 A3 k4 x1.b, sl .ro ksstable_block A5 k6 x1.blocks, sl .ro ku8 A7 k8 x1.filter, pack (own8 (pls ys))], rfl, ⟨.inr ⟨_, _, _, rfl, rfl⟩, .inr ⟨_, _, _, rfl, rfl⟩, .inr ⟨_, _, _, rfl, rfl⟩, .inr ⟨_, _, _, rfl, rfl⟩, .inr ⟨_, _, _, rfl, rfl⟩, .inr ⟨_, _, _, rfl, rfl⟩, .inr ⟨_, _, _, rfl, rfl⟩, .inr ⟨_, _, _, rfl, rfl⟩, .inr ⟨_, _, _, rfl, rfl⟩, .inr ⟨_, _, _, rfl, rfl⟩, .inr ⟨_, _, _, rfl, rfl⟩, .inr ⟨_, _, _, rfl, rfl⟩, .inr ⟨_, _, _, rfl, rfl⟩, .inr ⟨_, _, _, rfl, rfl⟩, .inr ⟨_, _, _, rfl, rfl⟩, .inr ⟨_, _, _, rfl, rfl⟩, .inr ⟨_, _, _, rfl, rfl⟩, .inr ⟨_, _, _, rfl, rfl⟩, .inr ⟨_, _, _, rfl, rfl⟩, .inr ⟨_, _, _, rfl, rfl⟩, .inr ⟨_, _, _, rfl, rfl⟩, .inl rfl, .inl rfl, .inl rfl, .inl rfl, .inl rfl, .inl rfl, .inl rfl, .inl rfl, trivial⟩, rfl, ?_, T, S⟩
  refine stage none rfl rfl ⟨⟨_, [(0, .pointer (some ⟨b2, 0, none⟩))], rfl, ⟨.inr ⟨rfl, rfl⟩, trivial⟩, fun u a w T S => (by refine r_pv T rfl rfl fun _ T => ?_; exact ⟨rfl, T⟩)⟩, ⟨_, [(16, .pointer (some ⟨b2, 0, none⟩))], rfl, ⟨.inl ⟨0, rfl, rfl, rfl, rfl⟩, trivial⟩, fun u a w T S => (by refine r_pv T rfl rfl fun _ T => ?_; exact ⟨rfl, T⟩)⟩, ⟨_, [(17, .pointer (some ⟨b2, 0, none⟩))], rfl, ⟨.inl ⟨1, rfl, rfl, rfl, rfl⟩, trivial⟩, fun u a w T S => (by refine r_fa (o' := 0) T rfl Try.runUnderlying69 rfl Try.sizeOf24 rfl rfl fun _ T => ?_; exact ⟨rfl, T⟩)⟩, ⟨_, [(18, .pointer (some ⟨b2, 0, none⟩))], rfl, ⟨.inl ⟨2, rfl, rfl, rfl, rfl⟩, trivial⟩, fun u a w T S => (by refine r_ldB (ix := 2) T S rfl Try.isAgg24 rfl rfl rfl fun _ T => ?_; exact ⟨rfl, T⟩)⟩, ⟨_, [(0, .pointer (some ⟨b2, 0, none⟩))], rfl, ⟨.inr ⟨rfl, rfl⟩, trivial⟩, fun u a w T S => (by refine r_pv T rfl rfl fun _ T => ?_; exact ⟨rfl, T⟩)⟩, ⟨_, [(20, .pointer (some ⟨b2, 0, none⟩))], rfl, ⟨.inl ⟨4, rfl, rfl, rfl, rfl⟩, trivial⟩, fun u a w T S => (by refine r_pv T rfl rfl fun _ T => ?_; exact ⟨rfl, T⟩)⟩, ⟨_, [(21, .pointer (some ⟨b2, 0, none⟩))], rfl, ⟨.inl ⟨5, rfl, rfl, rfl, rfl⟩, trivial⟩, fun u a w T S => (by refine r_fa (o' := 1) T rfl Try.runUnderlying69 rfl Try.sizeOf67 rfl rfl fun _ T => ?_; exact ⟨rfl, T⟩)⟩, ⟨_, [(22, .pointer (some ⟨b2, 1, none⟩))], rfl, ⟨.inl ⟨6, rfl, rfl, rfl, rfl⟩, trivial⟩, fun u a w T S => (by refine r_ldB (ix := 2) T S rfl Try.isAgg67 rfl rfl rfl fun _ T => ?_; exact ⟨rfl, T⟩)⟩, ⟨_, [(1, .int .i64 x9)], rfl, ⟨.inr ⟨rfl, rfl⟩, trivial⟩, fun u a w T S => (by refine r_pv T rfl rfl fun _ T => ?_; exact ⟨rfl, T⟩)⟩, ⟨_, [(23, .slice A5 x1.blocks.length k6), (24, .int .i64 x9)], rfl, ⟨.inl ⟨7, rfl, rfl, rfl, rfl⟩, .inl ⟨8, rfl, rfl, rfl, rfl⟩, trivial⟩, fun u a w T S => (by refine r_ia (ix := 4) T S rfl rfl rfl rfl Try.runUnderlying67 Try.sizeOf73 h10.1 h10.2 rfl fun _ T => ?_; exact ⟨rfl, T⟩)⟩, ⟨_, [(25, .pointer (some (eA A5 (Int.toNat x9 * 5))))], rfl, ⟨.inl ⟨9, rfl, rfl, rfl, rfl⟩, trivial⟩, fun u a w T S => (by refine r_faE T rfl Try.runUnderlying73 rfl Try.sizeOf3 rfl fun _ T => ?_; exact ⟨rfl, T⟩)⟩, ⟨_, [(26, .pointer (some (eA A5 (Int.toNat x9 * 5 + 0))))], rfl, ⟨.inl ⟨10, rfl, rfl, rfl, rfl⟩, trivial⟩, fun u a w T S => (by refine r_ldE (ix := 4) (i := x9) (off := 0) (f := (Value.int .i64)) T S rfl Try.isAgg3 rfl dsstable_block _ rfl rfl fld_sstable_block_from' h10.1 h10.2 (fun h => h) rfl fun _ T => ?_; exact ⟨rfl, T⟩)⟩, ⟨_, [(0, .pointer (some ⟨b2, 0, none⟩))], rfl, ⟨.inr ⟨rfl, rfl⟩, trivial⟩, fun u a w T S => (by refine r_pv T rfl rfl fun _ T => ?_; exact ⟨rfl, T⟩)⟩, ⟨_, [(28, .pointer (some ⟨b2, 0, none⟩))], rfl, ⟨.inl ⟨12, rfl, rfl, rfl, rfl⟩, trivial⟩, fun u a w T S => (by refine r_pv T rfl rfl fun _ T => ?_; exact ⟨rfl, T⟩)⟩, ⟨_, [(29, .pointer (some ⟨b2, 0, none⟩))], rfl, ⟨.inl ⟨13, rfl, rfl, rfl, rfl⟩, trivial⟩, fun u a w T S => (by refine r_fa (o' := 1) T rfl Try.runUnderlying69 rfl Try.sizeOf67 rfl rfl fun _ T => ?_; exact ⟨rfl, T⟩)⟩, ⟨_, [(30, .pointer (some ⟨b2, 1, none⟩))], rfl, ⟨.inl ⟨14, rfl, rfl, rfl, rfl⟩, trivial⟩, fun u a w T S => (by refine r_ldB (ix := 2) T S rfl Try.isAgg67 rfl rfl rfl fun _ T => ?_; exact ⟨rfl, T⟩)⟩, ⟨_, [(1, .int .i64 x9)], rfl, ⟨.inr ⟨rfl, rfl⟩, trivial⟩, fun u a w T S => (by refine r_pv T rfl rfl fun _ T => ?_; exact ⟨rfl, T⟩)⟩, ⟨_, [(31, .slice A5 x1.blocks.length k6), (32, .int .i64 x9)], rfl, ⟨.inl ⟨15, rfl, rfl, rfl, rfl⟩, .inl ⟨16, rfl, rfl, rfl, rfl⟩, trivial⟩, fun u a w T S => (by refine r_ia (ix := 4) T S rfl rfl rfl rfl Try.runUnderlying67 Try.sizeOf73 h10.1 h10.2 rfl fun _ T => ?_; exact ⟨rfl, T⟩)⟩, ⟨_, [(33, .pointer (some (eA A5 (Int.toNat x9 * 5))))], rfl, ⟨.inl ⟨17, rfl, rfl, rfl, rfl⟩, trivial⟩, fun u a w T S => (by refine r_faE T rfl Try.runUnderlying73 rfl Try.sizeOf3 rfl fun _ T => ?_; exact ⟨rfl, T⟩)⟩, ⟨_, [(34, .pointer (some (eA A5 (Int.toNat x9 * 5 + 1))))], rfl, ⟨.inl ⟨18, rfl, rfl, rfl, rfl⟩, trivial⟩, fun u a w T S => (by refine r_ldE (ix := 4) (i := x9) (off := 1) (f := (Value.int .i64)) T S rfl Try.isAgg3 rfl dsstable_block _ rfl rfl fld_sstable_block_to' h10.1 h10.2 (fun h => h) rfl fun _ T => ?_; exact ⟨rfl, T⟩)⟩, ⟨_, [(37, .tuple #[.slice A15 ys.length k16, .int .i64 x14.2.1, .bool x14.2.2])], rfl, ⟨.inl ⟨21, rfl, rfl, rfl, rfl⟩, trivial⟩, fun u a w T S => (by refine r_pv T rfl rfl fun _ T => ?_; exact ⟨rfl, T⟩)⟩, ⟨_, [(15, .tuple #[.slice A15 ys.length k16, .int .i64 x14.2.1, .bool x14.2.2])], rfl, ⟨.inl ⟨22, rfl, rfl, rfl, rfl⟩, trivial⟩, fun u a w T S => (by refine r_pv T rfl rfl fun _ T => ?_; exact ⟨rfl, T⟩)⟩, ⟨_, [(15, .tuple #[.slice A15 ys.length k16, .int .i64 x14.2.1, .bool x14.2.2])], rfl, ⟨.inl ⟨22, rfl, rfl, rfl, rfl⟩, trivial⟩, fun u a w T S => (by refine r_pv T rfl rfl fun _ T => ?_; exact ⟨rfl, T⟩)⟩, ⟨_, [(15, .tuple #[.slice A15 ys.length k16, .int .i64 x14.2.1, .bool x14.2.2])], rfl, ⟨.inl ⟨22, rfl, rfl, rfl, rfl⟩, trivial⟩, fun u a w T S => (by refine r_pv T rfl rfl fun _ T => ?_; exact ⟨rfl, T⟩)⟩, ⟨_, [(38, .slice A15 ys.length k16)], rfl, ⟨.inl ⟨23, rfl, rfl, rfl, rfl⟩, trivial⟩, fun u a w T S => (by refine r_pv T rfl rfl fun _ T => ?_; exact ⟨rfl, T⟩)⟩, ⟨_, [(39, .int .i64 x14.2.1)], rfl, ⟨.inl ⟨24, rfl, rfl, rfl, rfl⟩, trivial⟩, fun u a w T S => (by refine r_pv T rfl rfl fun _ T => ?_; exact ⟨rfl, T⟩)⟩, ⟨_, [(40, .bool x14.2.2)], rfl, ⟨.inl ⟨25, rfl, rfl, rfl, rfl⟩, trivial⟩, fun u a w T S => (by refine r_pv T rfl rfl fun _ T => ?_; exact ⟨rfl, T⟩)⟩, trivial⟩ rfl (fun i hi => by cases hi) (fun _ _ a w T hv hb S => ?_)
  replace T := T.sub (r := [(5, .slice A15 ys.length k16)]) ⟨hv 26 _ 5 rfl rfl rfl, trivial⟩
  refine Gets.seq ?_
  refine rg ?_
  refine r_pv T rfl rfl fun _ T => ?_
  refine r_pv T rfl rfl fun _ T => ?_
  replace H := Option.some.inj H
  subst H
  exact rtn T Try.func41 rfl rfl ⟨ys, A15, k16, A3, k4, A5, k6, A7, k8, hys, rfl, (S.only (p := [sl .own kRE A15 k16 ys, blk b2 [.slice A3 x1.b.length k4, .slice A5 x1.blocks.length k6, .slice A7 x1.filter.length k8, .int .i64 x1.count, .int .i64 (wr .i64 (x1.reads + 1))], sl .ro ku8 A3 k4 x1.b, sl .ro ksstable_block A5 k6 x1.blocks, sl .ro ku8 A7 k8 x1.filter, pack (own8 (pls ys))]) [0, 1, 1, 1, 1, 1] rfl)⟩
end sstable_Table_look
end Go.Proofs.Ytghpokmkhlmgcaa

namespace Go.Proofs.Ytghpokmkhlmgcaa
open Go Go.Proofs.Ytghpokmkhlmgcaa.X
set_option linter.unusedVariables false
set_option linter.unusedSimpArgs false
set_option maxRecDepth 100000
set_option maxHeartbeats 4000000
/-! ### cormorant.codec.Compare: function 38 -/
namespace codec_Compare
noncomputable def c0 : Code := match Try.f38.body with | some c => c | none => .skip
def R (F : List Atom) (x1 : List Int) (A2 : Option Addr) (k3 : Nat) (m4 : Md) (x5 : List Int) (A6 : Option Addr) (k7 : Nat) (m8 : Md) (r : Int) : Ending → World → Prop := fun e w' => e = .returned (.int .i64 r) ∧ SL ([sl m4 ku8 A2 k3 x1, sl m8 ku8 A6 k7 x5] ++ F) w'
def f (x1 : List Int) (x5 : List Int) : Option Int := Bd (bytes_Compare.f x1 x5) fun x10 => some x10
theorem ok (F : List Atom) (w : World) (x1 : List Int) (x5 : List Int) {A2 : Option Addr} {k3 : Nat} {m4 : Md} {A6 : Option Addr} {k7 : Nat} {m8 : Md} (S : SL ([sl m4 ku8 A2 k3 x1, sl m8 ku8 A6 k7 x5] ++ F) w) (r : Int) (H : f x1 x5 = some r) : Calls Try.prog 38 #[.slice A2 x1.length k3, .slice A6 x5.length k7] w (R F x1 A2 k3 m4 x5 A6 k7 m8 r) := by
  refine enter (vs := [.slice A2 x1.length k3, .slice A6 x5.length k7]) Try.func38 rfl Try.ntmps38 (Nat.le_of_ble_eq_true rfl) fun a T => ?_
  refine Gets.seq ?_
  refine rg ?_
  refine r_pv T rfl rfl fun _ T => ?_
  refine Gets.seq ?_
  refine rg ?_
  refine r_pv T rfl rfl fun _ T => ?_
  refine r_pv T rfl rfl fun _ T => ?_
  obtain ⟨x10, h9, H⟩ := bd H
  refine r_call T Try.call65 rfl rfl (bytes_Compare.ok _ _ x1 x5 (S.sel (p := [sl m4 ku8 A2 k3 x1, sl m8 ku8 A6 k7 x5]) (is := [0, 0]) rfl) _ h9) ?_
  rintro _ _ ⟨rfl, S⟩
  refine ⟨_, rfl, fun _ T => ?_⟩
  replace S : SL ([sl m4 ku8 A2 k3 x1, sl m8 ku8 A6 k7 x5] ++ F) _ := S.join
  refine r_pv T rfl rfl fun _ T => ?_
  replace H := Option.some.inj H
  subst H
  exact rtn T Try.func38 rfl rfl ⟨rfl, (S.only (p := [sl m4 ku8 A2 k3 x1, sl m8 ku8 A6 k7 x5]) [0, 0] rfl)⟩
end codec_Compare
end Go.Proofs.Ytghpokmkhlmgcaa

namespace Go.Proofs.Ytghpokmkhlmgcaa
open Go Go.Proofs.Ytghpokmkhlmgcaa.X
set_option linter.unusedVariables false
set_option linter.unusedSimpArgs false
set_option maxRecDepth 100000
set_option maxHeartbeats 4000000
/-! ### (*cormorant.sstable.Table).find$1: function 69 -/
namespace sstable_Table_find_c1
noncomputable def c0 : Code := match Try.f69.body with | some c => c | none => .skip
def R (F : List Atom) (b3 : Nat) (b4 : Nat) (x11 : List Int) (b12 : Nat) (A13 : Option Addr) (k14 : Nat) (r : Bool × sstable_Table) : Ending → World → Prop := fun e w' => ∃ (A22 : Option Addr), ∃ (k23 : Nat), ∃ (A24 : Option Addr), ∃ (k25 : Nat), ∃ (A26 : Option Addr), ∃ (k27 : Nat), e = .returned (.bool r.1) ∧ SL ([blk b3 [.pointer (some ⟨b4, 0, none⟩)], blk b4 [.slice A22 r.2.b.length k23, .slice A24 r.2.blocks.length k25, .slice A26 r.2.filter.length k27, .int .i64 r.2.count, .int .i64 r.2.reads], sl .ro ku8 A22 k23 r.2.b, sl .ro ksstable_block A24 k25 r.2.blocks, sl .ro ku8 A26 k27 r.2.filter, blk b12 [.slice A13 x11.length k14], sl .ro ku8 A13 k14 x11] ++ F) w'
def f (x1 : Int) (x2 : sstable_Table) (x11 : List Int) : Option (Bool × sstable_Table) := Ck (0 ≤ x1 ∧ x1 < (x2.blocks.length : Int)) (Bd (codec_Compare.f ((gi dsstable_block x2.blocks x1).last) x11) fun x19 => some (decide (x19 ≥ 0), x2))
theorem ok (F : List Atom) (w : World) (x1 : Int) (x2 : sstable_Table) (x11 : List Int) {b3 : Nat} {b4 : Nat} {A5 : Option Addr} {k6 : Nat} {A7 : Option Addr} {k8 : Nat} {A9 : Option Addr} {k10 : Nat} {b12 : Nat} {A13 : Option Addr} {k14 : Nat} (S : SL ([blk b3 [.pointer (some ⟨b4, 0, none⟩)], blk b4 [.slice A5 x2.b.length k6, .slice A7 x2.blocks.length k8, .slice A9 x2.filter.length k10, .int .i64 x2.count, .int .i64 x2.reads], sl .ro ku8 A5 k6 x2.b, sl .ro ksstable_block A7 k8 x2.blocks, sl .ro ku8 A9 k10 x2.filter, blk b12 [.slice A13 x11.length k14], sl .ro ku8 A13 k14 x11] ++ F) w) (r : Bool × sstable_Table) (H : f x1 x2 x11 = some r) : Calls Try.prog 69 #[.int .i64 x1, .pointer (some ⟨b3, 0, none⟩), .pointer (some ⟨b12, 0, none⟩)] w (R F b3 b4 x11 b12 A13 k14 r) := by
  refine enter (vs := [.int .i64 x1, .pointer (some ⟨b3, 0, none⟩), .pointer (some ⟨b12, 0, none⟩)]) Try.func69 rfl Try.ntmps69 (Nat.le_of_ble_eq_true rfl) fun a T => ?_
  refine Gets.seq ?_
  refine rg ?_
  refine r_pv T rfl rfl fun _ T => ?_
  refine Gets.seq ?_
  obtain ⟨h15, H⟩ := ck H
  obtain ⟨_, S⟩ := S.peek1 (ix := 3) (off := 4) (i := x1) rfl dsstable_block fld_sstable_block_last h15.1 h15.2 rfl
  obtain ⟨A16, k17, hv_, S_⟩ := SL.ofVal (l := _ :: _) S
  subst hv_
  replace S := S_
  refine Gets.drawn (l := [sl .ro ku8 A16 k17 ((gi dsstable_block x2.blocks x1).last), cl A7 (Int.toNat x1 * 5 + 4) [.slice A16 (((gi dsstable_block x2.blocks x1).last).length) k17], blk b3 [.pointer (some ⟨b4, 0, none⟩)], blk b4 [.slice A5 x2.b.length k6, .slice A7 x2.blocks.length k8, .slice A9 x2.filter.length k10, .int .i64 x2.count, .int .i64 x2.reads], sl .ro ku8 A5 k6 x2.b, sl .ro ksstable_block A7 k8 x2.blocks, sl .ro ku8 A9 k10 x2.filter, blk b12 [.slice A13 x11.length k14], sl .ro ku8 A13 k14 x11]) (V := [some (.pointer (some ⟨b4, 0, none⟩), true), some (.pointer (some ⟨b4, 0, none⟩), true), some (.pointer (some ⟨b4, 1, none⟩), true), some (.slice A7 x2.blocks.length k8, true), some (.int .i64 x1, true), some (.pointer (some (eA A7 (Int.toNat x1 * 5))), true), some (.pointer (some (eA A7 (Int.toNat x1 * 5 + 4))), true), some (.slice A16 (((gi dsstable_block x2.blocks x1).last).length) k17, true), some (.slice A13 x11.length k14, true), none, none, none]) mixed T S rfl ?_
  refine stage (some 9) rfl rfl ⟨⟨_, [(1, .pointer (some ⟨b3, 0, none⟩))], rfl, ⟨.inr ⟨rfl, rfl⟩, trivial⟩, fun u a w T S => (by refine r_ldB (ix := 2) T S rfl Try.isAgg28 rfl rfl rfl fun _ T => ?_; exact ⟨rfl, T⟩)⟩, ⟨_, [(5, .pointer (some ⟨b4, 0, none⟩))], rfl, ⟨.inl ⟨0, rfl, rfl, rfl, rfl⟩, trivial⟩, fun u a w T S => (by refine r_pv T rfl rfl fun _ T => ?_; exact ⟨rfl, T⟩)⟩, ⟨_, [(6, .pointer (some ⟨b4, 0, none⟩))], rfl, ⟨.inl ⟨1, rfl, rfl, rfl, rfl⟩, trivial⟩, fun u a w T S => (by refine r_fa (o' := 1) T rfl Try.runUnderlying69 rfl Try.sizeOf67 rfl rfl fun _ T => ?_; exact ⟨rfl, T⟩)⟩, ⟨_, [(7, .pointer (some ⟨b4, 1, none⟩))], rfl, ⟨.inl ⟨2, rfl, rfl, rfl, rfl⟩, trivial⟩, fun u a w T S => (by refine r_ldB (ix := 3) T S rfl Try.isAgg67 rfl rfl rfl fun _ T => ?_; exact ⟨rfl, T⟩)⟩, ⟨_, [(0, .int .i64 x1)], rfl, ⟨.inr ⟨rfl, rfl⟩, trivial⟩, fun u a w T S => (by refine r_pv T rfl rfl fun _ T => ?_; exact ⟨rfl, T⟩)⟩, ⟨_, [(8, .slice A7 x2.blocks.length k8), (9, .int .i64 x1)], rfl, ⟨.inl ⟨3, rfl, rfl, rfl, rfl⟩, .inl ⟨4, rfl, rfl, rfl, rfl⟩, trivial⟩, fun u a w T S => (by refine r_ia (ix := 5) T S rfl rfl rfl rfl Try.runUnderlying67 Try.sizeOf73 h15.1 h15.2 rfl fun _ T => ?_; exact ⟨rfl, T⟩)⟩, ⟨_, [(10, .pointer (some (eA A7 (Int.toNat x1 * 5))))], rfl, ⟨.inl ⟨5, rfl, rfl, rfl, rfl⟩, trivial⟩, fun u a w T S => (by refine r_faE T rfl Try.runUnderlying73 rfl Try.sizeOf24 rfl fun _ T => ?_; exact ⟨rfl, T⟩)⟩, ⟨_, [(11, .pointer (some (eA A7 (Int.toNat x1 * 5 + 4))))], rfl, ⟨.inl ⟨6, rfl, rfl, rfl, rfl⟩, trivial⟩, fun u a w T S => (by refine r_ldC (ix := 1) (A := A7) T S rfl rfl rfl Try.isAgg24 rfl fun _ T => ?_; exact ⟨rfl, T⟩)⟩, ⟨_, [(2, .pointer (some ⟨b12, 0, none⟩))], rfl, ⟨.inr ⟨rfl, rfl⟩, trivial⟩, fun u a w T S => (by refine r_ldB (ix := 7) T S rfl Try.isAgg24 rfl rfl rfl fun _ T => ?_; exact ⟨rfl, T⟩)⟩, trivial⟩ rfl (fun i hi => ?_) (fun h => by cases h)
  cases hi
  refine ⟨rfl, _, [(12, .slice A16 (((gi dsstable_block x2.blocks x1).last).length) k17), (13, .slice A13 x11.length k14)], rfl, ⟨.inl ⟨7, rfl, rfl, rfl, rfl⟩, .inl ⟨8, rfl, rfl, rfl, rfl⟩, trivial⟩, fun u a w T S => ?_⟩
  obtain ⟨x19, h18, H⟩ := bd H
  refine r_call T Try.call38 rfl rfl (codec_Compare.ok _ _ ((gi dsstable_block x2.blocks x1).last) x11 (S.sel (p := [sl .ro ku8 A16 k17 ((gi dsstable_block x2.blocks x1).last), sl .ro ku8 A13 k14 x11]) (is := [0, 7]) rfl) _ h18) ?_
  rintro _ _ ⟨rfl, S⟩
  refine ⟨_, rfl, fun _ T => ?_⟩
  replace S : SL ([sl .ro ku8 A16 k17 ((gi dsstable_block x2.blocks x1).last), sl .ro ku8 A13 k14 x11, cl A7 (Int.toNat x1 * 5 + 4) [.slice A16 (((gi dsstable_block x2.blocks x1).last).length) k17], blk b3 [.pointer (some ⟨b4, 0, none⟩)], blk b4 [.slice A5 x2.b.length k6, .slice A7 x2.blocks.length k8, .slice A9 x2.filter.length k10, .int .i64 x2.count, .int .i64 x2.reads], sl .ro ku8 A5 k6 x2.b, sl .ro ksstable_block A7 k8 x2.blocks, sl .ro ku8 A9 k10 x2.filter, blk b12 [.slice A13 x11.length k14]] ++ F) _ := S.join
  refine ⟨_, [some (.pointer (some ⟨b4, 0, none⟩), true), some (.pointer (some ⟨b4, 0, none⟩), true), some (.pointer (some ⟨b4, 1, none⟩), true), some (.slice A7 x2.blocks.length k8, true), some (.int .i64 x1, true), some (.pointer (some (eA A7 (Int.toNat x1 * 5))), true), some (.pointer (some (eA A7 (Int.toNat x1 * 5 + 4))), true), some (.slice A16 (((gi dsstable_block x2.blocks x1).last).length) k17, false), some (.slice A13 x11.length k14, false), some (.int .i64 x19, false), some (.bool (decide (x19 ≥ 0)), true), some (.bool (decide (x19 ≥ 0)), true)], [sl .ro ku8 A16 k17 ((gi dsstable_block x2.blocks x1).last), sl .ro ku8 A13 k14 x11, cl A7 (Int.toNat x1 * 5 + 4) [.slice A16 (((gi dsstable_block x2.blocks x1).last).length) k17], blk b3 [.pointer (some ⟨b4, 0, none⟩)], blk b4 [.slice A5 x2.b.length k6, .slice A7 x2.blocks.length k8, .slice A9 x2.filter.length k10, .int .i64 x2.count, .int .i64 x2.reads], sl .ro ku8 A5 k6 x2.b, sl .ro ksstable_block A7 k8 x2.blocks, sl .ro ku8 A9 k10 x2.filter, blk b12 [.slice A13 x11.length k14]], rfl, ⟨.inr ⟨_, _, _, rfl, rfl⟩, .inr ⟨_, _, _, rfl, rfl⟩, .inr ⟨_, _, _, rfl, rfl⟩, .inr ⟨_, _, _, rfl, rfl⟩, .inr ⟨_, _, _, rfl, rfl⟩, .inr ⟨_, _, _, rfl, rfl⟩, .inr ⟨_, _, _, rfl, rfl⟩, .inr ⟨_, _, _, rfl, rfl⟩, .inr ⟨_, _, _, rfl, rfl⟩, .inl rfl, .inl rfl, .inl rfl, trivial⟩, rfl, ?_, T, S⟩
  refine stage none rfl rfl ⟨⟨_, [(1, .pointer (some ⟨b3, 0, none⟩))], rfl, ⟨.inr ⟨rfl, rfl⟩, trivial⟩, fun u a w T S => (by refine r_ldB (ix := 3) T S rfl Try.isAgg28 rfl rfl rfl fun _ T => ?_; exact ⟨rfl, T⟩)⟩, ⟨_, [(5, .pointer (some ⟨b4, 0, none⟩))], rfl, ⟨.inl ⟨0, rfl, rfl, rfl, rfl⟩, trivial⟩, fun u a w T S => (by refine r_pv T rfl rfl fun _ T => ?_; exact ⟨rfl, T⟩)⟩, ⟨_, [(6, .pointer (some ⟨b4, 0, none⟩))], rfl, ⟨.inl ⟨1, rfl, rfl, rfl, rfl⟩, trivial⟩, fun u a w T S => (by refine r_fa (o' := 1) T rfl Try.runUnderlying69 rfl Try.sizeOf67 rfl rfl fun _ T => ?_; exact ⟨rfl, T⟩)⟩, ⟨_, [(7, .pointer (some ⟨b4, 1, none⟩))], rfl, ⟨.inl ⟨2, rfl, rfl, rfl, rfl⟩, trivial⟩, fun u a w T S => (by refine r_ldB (ix := 4) T S rfl Try.isAgg67 rfl rfl rfl fun _ T => ?_; exact ⟨rfl, T⟩)⟩, ⟨_, [(0, .int .i64 x1)], rfl, ⟨.inr ⟨rfl, rfl⟩, trivial⟩, fun u a w T S => (by refine r_pv T rfl rfl fun _ T => ?_; exact ⟨rfl, T⟩)⟩, ⟨_, [(8, .slice A7 x2.blocks.length k8), (9, .int .i64 x1)], rfl, ⟨.inl ⟨3, rfl, rfl, rfl, rfl⟩, .inl ⟨4, rfl, rfl, rfl, rfl⟩, trivial⟩, fun u a w T S => (by refine r_ia (ix := 6) T S rfl rfl rfl rfl Try.runUnderlying67 Try.sizeOf73 h15.1 h15.2 rfl fun _ T => ?_; exact ⟨rfl, T⟩)⟩, ⟨_, [(10, .pointer (some (eA A7 (Int.toNat x1 * 5))))], rfl, ⟨.inl ⟨5, rfl, rfl, rfl, rfl⟩, trivial⟩, fun u a w T S => (by refine r_faE T rfl Try.runUnderlying73 rfl Try.sizeOf24 rfl fun _ T => ?_; exact ⟨rfl, T⟩)⟩, ⟨_, [(14, .int .i64 x19)], rfl, ⟨.inl ⟨9, rfl, rfl, rfl, rfl⟩, trivial⟩, fun u a w T S => (by refine r_pv T rfl rfl fun _ T => ?_; exact ⟨rfl, T⟩)⟩, ⟨_, [(15, .bool (decide (x19 ≥ 0)))], rfl, ⟨.inl ⟨10, rfl, rfl, rfl, rfl⟩, trivial⟩, fun u a w T S => (by refine r_pv T rfl rfl fun _ T => ?_; exact ⟨rfl, T⟩)⟩, trivial⟩ rfl (fun i hi => by cases hi) (fun _ _ a w T hv hb S => ?_)
  replace T := T.sub (r := [(4, .bool (decide (x19 ≥ 0)))]) ⟨hv 11 _ 4 rfl rfl rfl, trivial⟩
  replace H := Option.some.inj H
  subst H
  exact rtn T Try.func69 rfl rfl ⟨A5, k6, A7, k8, A9, k10, rfl, (S.only (p := [blk b3 [.pointer (some ⟨b4, 0, none⟩)], blk b4 [.slice A5 x2.b.length k6, .slice A7 x2.blocks.length k8, .slice A9 x2.filter.length k10, .int .i64 x2.count, .int .i64 x2.reads], sl .ro ku8 A5 k6 x2.b, sl .ro ksstable_block A7 k8 x2.blocks, sl .ro ku8 A9 k10 x2.filter, blk b12 [.slice A13 x11.length k14], sl .ro ku8 A13 k14 x11]) [3, 3, 3, 3, 3, 3, 1] rfl)⟩
end sstable_Table_find_c1
end Go.Proofs.Ytghpokmkhlmgcaa

namespace Go.Proofs.Ytghpokmkhlmgcaa
open Go Go.Proofs.Ytghpokmkhlmgcaa.X
set_option linter.unusedVariables false
set_option linter.unusedSimpArgs false
set_option maxRecDepth 100000
set_option maxHeartbeats 4000000
/-! ### sort.Search: function 68 -/
namespace sort_Search_at69
noncomputable def c0 : Code := match Try.f68.body with | some c => c | none => .skip
def R (F : List Atom) (b3 : Nat) (b4 : Nat) (x11 : List Int) (b12 : Nat) (A13 : Option Addr) (k14 : Nat) (r : Int × sstable_Table) : Ending → World → Prop := fun e w' => ∃ (A42 : Option Addr), ∃ (k43 : Nat), ∃ (A44 : Option Addr), ∃ (k45 : Nat), ∃ (A46 : Option Addr), ∃ (k47 : Nat), e = .returned (.int .i64 r.1) ∧ SL ([blk b3 [.pointer (some ⟨b4, 0, none⟩)], blk b4 [.slice A42 r.2.b.length k43, .slice A44 r.2.blocks.length k45, .slice A46 r.2.filter.length k47, .int .i64 r.2.count, .int .i64 r.2.reads], sl .ro ku8 A42 k43 r.2.b, sl .ro ksstable_block A44 k45 r.2.blocks, sl .ro ku8 A46 k47 r.2.filter, blk b12 [.slice A13 x11.length k14], sl .ro ku8 A13 k14 x11] ++ F) w'
def L0 (z : Nat) (x11 : List Int) : Nat → Int → Int → (List Int) → (List sstable_block) → (List Int) → Int → Int → Option (Int × sstable_Table)
  | 0, _, _, _, _, _, _, _ => none
  | m + 1, x26, x27, x15, x18, x21, x24, x25 => If (decide (x26 < x27)) (Bd (sstable_Table_find_c1.f (wr .i64 (sShr .u64 (wr .u64 (wr .i64 (x26 + x27))) 1)) (sstable_Table.mk x15 x18 x21 x24 x25) x11) fun x30 => If (!x30.1) (L0 z x11 m (wr .i64 ((wr .i64 (sShr .u64 (wr .u64 (wr .i64 (x26 + x27))) 1)) + 1)) x27 x30.2.b x30.2.blocks x30.2.filter x30.2.count x30.2.reads) (L0 z x11 m x26 (wr .i64 (sShr .u64 (wr .u64 (wr .i64 (x26 + x27))) 1)) x30.2.b x30.2.blocks x30.2.filter x30.2.count x30.2.reads)) (some (x26, (sstable_Table.mk x15 x18 x21 x24 x25)))
def f (z : Nat) (x1 : Int) (x2 : sstable_Table) (x11 : List Int) : Option (Int × sstable_Table) := L0 z x11 z 0 x1 x2.b x2.blocks x2.filter x2.count x2.reads
noncomputable def ptL0 : List Item := [.code (cB (cB (cL (cR (cR c0))))), .inLoop (cB (cB (cL (cR (cR c0))))), .inBlock 0, .code (cR (cR (cR c0)))]
theorem L0_ok (F : List Atom) (r : Int × sstable_Table) (z : Nat) (b3 : Nat) (b4 : Nat) (x11 : List Int) (b12 : Nat) (A13 : Option Addr) (k14 : Nat) (x1 : Int) (m : Nat) : ∀ (x26 : Int) (x27 : Int) (A16 : Option Addr) (x15 : List Int) (k17 : Nat) (A19 : Option Addr) (x18 : List sstable_block) (k20 : Nat) (A22 : Option Addr) (x21 : List Int) (k23 : Nat) (x24 : Int) (x25 : Int) (a : Act) (w : World), Tm 26 [(1, .func (.func 69) #[] #[.pointer (some ⟨b3, 0, none⟩), .pointer (some ⟨b12, 0, none⟩)]), (5, .int .i64 x26), (6, .int .i64 x27)] a → SL ([blk b3 [.pointer (some ⟨b4, 0, none⟩)], blk b4 [.slice A16 x15.length k17, .slice A19 x18.length k20, .slice A22 x21.length k23, .int .i64 x24, .int .i64 x25], sl .ro ku8 A16 k17 x15, sl .ro ksstable_block A19 k20 x18, sl .ro ku8 A22 k23 x21, blk b12 [.slice A13 x11.length k14], sl .ro ku8 A13 k14 x11] ++ F) w → L0 z x11 m x26 x27 x15 x18 x21 x24 x25 = some r → Gets Try.prog 68 ptL0 a w (R F b3 b4 x11 b12 A13 k14 r) := by
  induction m with
  | zero => intro _ _ _ _ _ _ _ _ _ _ _ _ _ _ _ _ _ H; cases H
  | succ m ih =>
    intro x26 x27 A16 x15 k17 A19 x18 k20 A22 x21 k23 x24 x25 a w T S H
    refine Gets.seq ?_
    refine Gets.seq ?_
    refine rg ?_
    refine r_pv T rfl rfl fun _ T => ?_
    refine r_pv T rfl rfl fun _ T => ?_
    refine r_pv T rfl rfl fun _ T => ?_
    rcases ifE H with ⟨h28, H⟩ | ⟨h28, H⟩
    · refine cdT T rfl h28 ?_
      refine Gets.skip (Gets.block (Gets.seq ?_))
      refine rg ?_
      refine r_pv T rfl rfl fun _ T => ?_
      refine r_pv T rfl rfl fun _ T => ?_
      refine r_pv T rfl rfl fun _ T => ?_
      refine r_conv T rfl Try.runUnderlying3 Try.runUnderlying101 rfl fun _ T => ?_
      refine r_shr T rfl rfl (by decide) rfl fun _ T => ?_
      refine r_conv T rfl Try.runUnderlying101 Try.runUnderlying3 rfl fun _ T => ?_
      refine r_pv T rfl rfl fun _ T => ?_
      refine Gets.seq ?_
      refine rg ?_
      refine r_pv T rfl rfl fun _ T => ?_
      refine r_pv T rfl rfl fun _ T => ?_
      obtain ⟨x30, h29, H⟩ := bd H
      refine r_callF T rfl Try.call69 rfl rfl (sstable_Table_find_c1.ok _ _ (wr .i64 (sShr .u64 (wr .u64 (wr .i64 (x26 + x27))) 1)) (sstable_Table.mk x15 x18 x21 x24 x25) x11 (S.sel (p := [blk b3 [.pointer (some ⟨b4, 0, none⟩)], blk b4 [.slice A16 x15.length k17, .slice A19 x18.length k20, .slice A22 x21.length k23, .int .i64 x24, .int .i64 x25], sl .ro ku8 A16 k17 x15, sl .ro ksstable_block A19 k20 x18, sl .ro ku8 A22 k23 x21, blk b12 [.slice A13 x11.length k14], sl .ro ku8 A13 k14 x11]) (is := [0, 0, 0, 0, 0, 0, 0]) rfl) _ h29) ?_
      rintro _ _ ⟨A33, k34, A35, k36, A37, k38, rfl, S⟩
      refine ⟨_, rfl, fun _ T => ?_⟩
      replace S : SL ([blk b3 [.pointer (some ⟨b4, 0, none⟩)], blk b4 [.slice A33 x30.2.b.length k34, .slice A35 x30.2.blocks.length k36, .slice A37 x30.2.filter.length k38, .int .i64 x30.2.count, .int .i64 x30.2.reads], sl .ro ku8 A33 k34 x30.2.b, sl .ro ksstable_block A35 k36 x30.2.blocks, sl .ro ku8 A37 k38 x30.2.filter, blk b12 [.slice A13 x11.length k14], sl .ro ku8 A13 k14 x11] ++ F) _ := S.join
      refine r_pv T rfl rfl fun _ T => ?_
      rcases ifE H with ⟨h39, H⟩ | ⟨h39, H⟩
      · refine cdT T rfl h39 ?_
        refine rg ?_
        refine r_pv T rfl rfl fun _ T => ?_
        refine r_pv T rfl rfl fun _ T => ?_
        refine r_pv T rfl rfl fun _ T => ?_
        refine Gets.inBlock (Gets.inLoop ?_)
        exact ih (wr .i64 ((wr .i64 (sShr .u64 (wr .u64 (wr .i64 (x26 + x27))) 1)) + 1)) x27 A33 x30.2.b k34 A35 x30.2.blocks k36 A37 x30.2.filter k38 x30.2.count x30.2.reads _ _ (T.sub ⟨rfl, rfl, rfl, trivial⟩) (S.only (p := [blk b3 [.pointer (some ⟨b4, 0, none⟩)], blk b4 [.slice A33 x30.2.b.length k34, .slice A35 x30.2.blocks.length k36, .slice A37 x30.2.filter.length k38, .int .i64 x30.2.count, .int .i64 x30.2.reads], sl .ro ku8 A33 k34 x30.2.b, sl .ro ksstable_block A35 k36 x30.2.blocks, sl .ro ku8 A37 k38 x30.2.filter, blk b12 [.slice A13 x11.length k14], sl .ro ku8 A13 k14 x11]) [0, 0, 0, 0, 0, 0, 0] rfl) H
      · refine cdF T rfl h39 ?_
        refine rg ?_
        refine r_pv T rfl rfl fun _ T => ?_
        refine r_pv T rfl rfl fun _ T => ?_
        refine Gets.inBlock (Gets.inLoop ?_)
        exact ih x26 (wr .i64 (sShr .u64 (wr .u64 (wr .i64 (x26 + x27))) 1)) A33 x30.2.b k34 A35 x30.2.blocks k36 A37 x30.2.filter k38 x30.2.count x30.2.reads _ _ (T.sub ⟨rfl, rfl, rfl, trivial⟩) (S.only (p := [blk b3 [.pointer (some ⟨b4, 0, none⟩)], blk b4 [.slice A33 x30.2.b.length k34, .slice A35 x30.2.blocks.length k36, .slice A37 x30.2.filter.length k38, .int .i64 x30.2.count, .int .i64 x30.2.reads], sl .ro ku8 A33 k34 x30.2.b, sl .ro ksstable_block A35 k36 x30.2.blocks, sl .ro ku8 A37 k38 x30.2.filter, blk b12 [.slice A13 x11.length k14], sl .ro ku8 A13 k14 x11]) [0, 0, 0, 0, 0, 0, 0] rfl) H
    · refine cdF T rfl h28 ?_
      refine Gets.exit rfl (Gets.seq ?_)
      refine rg ?_
      refine r_pv T rfl rfl fun _ T => ?_
      refine r_pv T rfl rfl fun _ T => ?_
      replace H := Option.some.inj H
      subst H
      exact rtn T Try.func68 rfl rfl ⟨A16, k17, A19, k20, A22, k23, rfl, (S.only (p := [blk b3 [.pointer (some ⟨b4, 0, none⟩)], blk b4 [.slice A16 x15.length k17, .slice A19 x18.length k20, .slice A22 x21.length k23, .int .i64 x24, .int .i64 x25], sl .ro ku8 A16 k17 x15, sl .ro ksstable_block A19 k20 x18, sl .ro ku8 A22 k23 x21, blk b12 [.slice A13 x11.length k14], sl .ro ku8 A13 k14 x11]) [0, 0, 0, 0, 0, 0, 0] rfl)⟩
theorem ok (F : List Atom) (w : World) (z : Nat) (x1 : Int) (x2 : sstable_Table) (x11 : List Int) {b3 : Nat} {b4 : Nat} {A5 : Option Addr} {k6 : Nat} {A7 : Option Addr} {k8 : Nat} {A9 : Option Addr} {k10 : Nat} {b12 : Nat} {A13 : Option Addr} {k14 : Nat} (S : SL ([blk b3 [.pointer (some ⟨b4, 0, none⟩)], blk b4 [.slice A5 x2.b.length k6, .slice A7 x2.blocks.length k8, .slice A9 x2.filter.length k10, .int .i64 x2.count, .int .i64 x2.reads], sl .ro ku8 A5 k6 x2.b, sl .ro ksstable_block A7 k8 x2.blocks, sl .ro ku8 A9 k10 x2.filter, blk b12 [.slice A13 x11.length k14], sl .ro ku8 A13 k14 x11] ++ F) w) (r : Int × sstable_Table) (H : f z x1 x2 x11 = some r) : Calls Try.prog 68 #[.int .i64 x1, .func (.func 69) #[] #[.pointer (some ⟨b3, 0, none⟩), .pointer (some ⟨b12, 0, none⟩)]] w (R F b3 b4 x11 b12 A13 k14 r) := by
  refine enter (vs := [.int .i64 x1, .func (.func 69) #[] #[.pointer (some ⟨b3, 0, none⟩), .pointer (some ⟨b12, 0, none⟩)]]) Try.func68 rfl Try.ntmps68 (Nat.le_of_ble_eq_true rfl) fun a T => ?_
  refine Gets.seq ?_
  refine rg ?_
  refine r_pv T rfl rfl fun _ T => ?_
  refine Gets.seq ?_
  refine rg ?_
  refine r_pv T rfl rfl fun _ T => ?_
  refine r_pv T rfl rfl fun _ T => ?_
  refine r_pv T rfl rfl fun _ T => ?_
  refine Gets.seq (Gets.block ?_)
  refine Gets.loop ?_
  exact L0_ok F r z b3 b4 x11 b12 A13 k14 x1 z 0 x1 A5 x2.b k6 A7 x2.blocks k8 A9 x2.filter k10 x2.count x2.reads _ _ (T.sub ⟨rfl, rfl, rfl, trivial⟩) (S.only (p := [blk b3 [.pointer (some ⟨b4, 0, none⟩)], blk b4 [.slice A5 x2.b.length k6, .slice A7 x2.blocks.length k8, .slice A9 x2.filter.length k10, .int .i64 x2.count, .int .i64 x2.reads], sl .ro ku8 A5 k6 x2.b, sl .ro ksstable_block A7 k8 x2.blocks, sl .ro ku8 A9 k10 x2.filter, blk b12 [.slice A13 x11.length k14], sl .ro ku8 A13 k14 x11]) [0, 0, 0, 0, 0, 0, 0] rfl) H
end sort_Search_at69
end Go.Proofs.Ytghpokmkhlmgcaa

namespace Go.Proofs.Ytghpokmkhlmgcaa
open Go Go.Proofs.Ytghpokmkhlmgcaa.X
set_option linter.unusedVariables false
set_option linter.unusedSimpArgs false
set_option maxRecDepth 100000
set_option maxHeartbeats 4000000
/-! ### (*cormorant.sstable.Table).find: function 40 -/
namespace sstable_Table_find
noncomputable def c0 : Code := match Try.f40.body with | some c => c | none => .skip
def R (F : List Atom) (b2 : Nat) (x9 : List Int) (A10 : Option Addr) (k11 : Nat) (r : Int × sstable_Table) : Ending → World → Prop := fun e w' => ∃ (A25 : Option Addr), ∃ (k26 : Nat), ∃ (A27 : Option Addr), ∃ (k28 : Nat), ∃ (A29 : Option Addr), ∃ (k30 : Nat), e = .returned (.int .i64 r.1) ∧ SL ([blk b2 [.slice A25 r.2.b.length k26, .slice A27 r.2.blocks.length k28, .slice A29 r.2.filter.length k30, .int .i64 r.2.count, .int .i64 r.2.reads], sl .ro ku8 A25 k26 r.2.b, sl .ro ksstable_block A27 k28 r.2.blocks, sl .ro ku8 A29 k30 r.2.filter, sl .ro ku8 A10 k11 x9] ++ F) w'
def f (z : Nat) (x1 : sstable_Table) (x9 : List Int) : Option (Int × sstable_Table) := Bd (sort_Search_at69.f z (x1.blocks.length : Int) x1 x9) fun x15 => some (x15.1, x15.2)
theorem ok (F : List Atom) (w : World) (z : Nat) (x1 : sstable_Table) (x9 : List Int) {b2 : Nat} {A3 : Option Addr} {k4 : Nat} {A5 : Option Addr} {k6 : Nat} {A7 : Option Addr} {k8 : Nat} {A10 : Option Addr} {k11 : Nat} (S : SL ([blk b2 [.slice A3 x1.b.length k4, .slice A5 x1.blocks.length k6, .slice A7 x1.filter.length k8, .int .i64 x1.count, .int .i64 x1.reads], sl .ro ku8 A3 k4 x1.b, sl .ro ksstable_block A5 k6 x1.blocks, sl .ro ku8 A7 k8 x1.filter, sl .ro ku8 A10 k11 x9] ++ F) w) (r : Int × sstable_Table) (H : f z x1 x9 = some r) : Calls Try.prog 40 #[.pointer (some ⟨b2, 0, none⟩), .slice A10 x9.length k11] w (R F b2 x9 A10 k11 r) := by
  refine enter (vs := [.pointer (some ⟨b2, 0, none⟩), .slice A10 x9.length k11]) Try.func40 rfl Try.ntmps40 (Nat.le_of_ble_eq_true rfl) fun a T => ?_
  refine Gets.seq ?_
  refine rg ?_
  refine r_box T S rfl (cs := [.pointer (some ⟨b2, 0, none⟩)]) rfl rfl fun _ _ b12 S T => ?_
  refine r_box T S rfl (cs := [.slice A10 x9.length k11]) rfl rfl fun _ _ b13 S T => ?_
  refine r_pv T rfl rfl fun _ T => ?_
  refine Gets.seq ?_
  refine rg ?_
  refine r_ldB (ix := 1) T S rfl Try.isAgg28 rfl rfl rfl fun _ T => ?_
  refine r_pv T rfl rfl fun _ T => ?_
  refine r_fa (o' := 1) T rfl Try.runUnderlying69 rfl Try.sizeOf67 rfl rfl fun _ T => ?_
  refine r_ldB (ix := 2) T S rfl Try.isAgg67 rfl rfl rfl fun _ T => ?_
  refine r_lenS T rfl Try.runUnderlying67 rfl fun _ T => ?_
  refine r_pv T rfl rfl fun _ T => ?_
  obtain ⟨x15, h14, H⟩ := bd H
  refine r_call T Try.call68 rfl rfl (sort_Search_at69.ok _ _ z (x1.blocks.length : Int) x1 x9 (S.sel (p := [blk b12 [.pointer (some ⟨b2, 0, none⟩)], blk b2 [.slice A3 x1.b.length k4, .slice A5 x1.blocks.length k6, .slice A7 x1.filter.length k8, .int .i64 x1.count, .int .i64 x1.reads], sl .ro ku8 A3 k4 x1.b, sl .ro ksstable_block A5 k6 x1.blocks, sl .ro ku8 A7 k8 x1.filter, blk b13 [.slice A10 x9.length k11], sl .ro ku8 A10 k11 x9]) (is := [1, 1, 1, 1, 1, 0, 0]) rfl) _ h14) ?_
  rintro _ _ ⟨A18, k19, A20, k21, A22, k23, rfl, S⟩
  refine ⟨_, rfl, fun _ T => ?_⟩
  replace S : SL ([blk b12 [.pointer (some ⟨b2, 0, none⟩)], blk b2 [.slice A18 x15.2.b.length k19, .slice A20 x15.2.blocks.length k21, .slice A22 x15.2.filter.length k23, .int .i64 x15.2.count, .int .i64 x15.2.reads], sl .ro ku8 A18 k19 x15.2.b, sl .ro ksstable_block A20 k21 x15.2.blocks, sl .ro ku8 A22 k23 x15.2.filter, blk b13 [.slice A10 x9.length k11], sl .ro ku8 A10 k11 x9] ++ F) _ := S.join
  refine r_pv T rfl rfl fun _ T => ?_
  replace H := Option.some.inj H
  subst H
  exact rtn T Try.func40 rfl rfl ⟨A18, k19, A20, k21, A22, k23, rfl, (S.only (p := [blk b2 [.slice A18 x15.2.b.length k19, .slice A20 x15.2.blocks.length k21, .slice A22 x15.2.filter.length k23, .int .i64 x15.2.count, .int .i64 x15.2.reads], sl .ro ku8 A18 k19 x15.2.b, sl .ro ksstable_block A20 k21 x15.2.blocks, sl .ro ku8 A22 k23 x15.2.filter, sl .ro ku8 A10 k11 x9]) [1, 1, 1, 1, 2] rfl)⟩
end sstable_Table_find
end Go.Proofs.Ytghpokmkhlmgcaa
