/- A Go function: the Lean function that it comes to, and the proof. -/
import Derived.Test.YtohelmfkpmphoaaDoorRt1
namespace Go.Proofs.YtohelmfkpmphoaaDoor
open Go Go.Proofs.YtohelmfkpmphoaaDoor.X
set_option linter.unusedVariables false
set_option linter.unusedSimpArgs false
set_option maxRecDepth 100000
set_option maxHeartbeats 4000000
namespace codec_Text
def R (F : List Atom) (x1 : List Int) (A2 : OA) (k3 : Nat) (r : (List Int) × Int) : Ending → World → Prop := fun e w' => ∃ (A14 : OA), ∃ (k15 : Nat), e = .returned (.tuple #[.slice A14 r.1.length k15, .int .i64 r.2]) ∧ SL ([sl .own ku8 A14 k15 r.1, sl .ro ku8 A2 k3 x1] ++ F) w'
def f (z : Nat) (x1 : List Int) : Option ((List Int) × Int) := If (decide ((x1.length : Int) > 2097152)) (some (([] : List Int), 12)) (Bd (codec_Number.f z (wr .u64 (x1.length : Int))) fun x6 => Bd (slices_Concat_byte.f z [x6, x1]) fun x11 => some (x11, 0))
theorem ok (F : List Atom) (w : World) (z : Nat) (x1 : List Int) {A2 : OA} {k3 : Nat} (S : SL ([sl .ro ku8 A2 k3 x1] ++ F) w) (r : (List Int) × Int) (H : f z x1 = some r) : Calls Tryd.prog 57 #[.slice A2 x1.length k3] w (R F x1 A2 k3 r) := by
 refine enter (vs := [.slice A2 x1.length k3]) Tryd.func57 rfl Tryd.ntmps57 (Nat.le_of_ble_eq_true rfl) fun a T => ?_
 refine Gets.seq (rg (r_pv T rfl rfl fun _ T => r_pv T rfl rfl fun _ T => ?_))
 refine Gets.seq (Gets.seq ?_)
 refine rg (r_pv T rfl rfl fun _ T => r_lenS T rfl Tryd.runUnderlying29 rfl fun _ T => r_pv T rfl rfl fun _ T => ?_)
 rcases ifE H with ⟨h4, H⟩ | ⟨h4, H⟩
 ·refine cdT T rfl h4 ?_
  refine Gets.seq (rg (r_pv T rfl rfl fun _ T => r_pv T rfl rfl fun _ T => ?_))
  replace S := S.nil ku8 .own
  replace H := Option.some.inj H
  subst H
  exact rtn T Tryd.func57 rfl rfl ⟨none, 0, rfl, (S.only (p := [sl .own ku8 none 0 ([] : List Int), sl .ro ku8 A2 k3 x1]) [0, 0] rfl)⟩
 ·refine cdF T rfl h4 ?_
  refine Gets.skip (Gets.seq ?_)
  refine rg (r_pv T rfl rfl fun _ T => r_lenS T rfl Tryd.runUnderlying29 rfl fun _ T => r_conv T rfl Tryd.runUnderlying3 Tryd.runUnderlying109 rfl fun _ T => ?_)
  obtain ⟨x6, h5, H⟩ := bd H
  refine r_call T Tryd.call72 rfl rfl (codec_Number.ok _ _ z (wr .u64 (x1.length : Int)) (S.sel (p := []) (is := []) rfl) _ h5) ?_
  rintro _ _ ⟨A7, k8, rfl, S⟩
  refine ⟨_, rfl, fun _ T => ?_⟩
  replace S : SL ([sl .own ku8 A7 k8 x6, sl .ro ku8 A2 k3 x1] ++ F) _ := S.join
  refine r_pv T rfl rfl fun _ T => ?_
  replace S : SL ([sl .ro ku8 A7 k8 x6, sl .ro ku8 A2 k3 x1] ++ F) _ := S.fixL (i := 0) rfl rfl
  replace S := S.asVal (i := 0) (xs := x6) rfl
  replace S := S.asVal (i := 2) (xs := x1) rfl
  refine r_bsl (κ := (kSl ku8)) (xs := [x6, x1]) (vs := [.slice A7 x6.length k8, .slice A2 x1.length k3]) T S sty92 rfl ⟨_, _, rfl, ⟨1, rfl⟩, ⟨_, _, rfl, ⟨0, rfl⟩, rfl⟩⟩ rfl (by decide) rfl fun _ _ b9 S T => ?_
  replace S : SL ([sl .own (kSl ku8) (some ⟨b9, 0, none⟩) 2 [x6, x1], sl .ro ku8 A7 k8 x6, sl .ro ku8 A2 k3 x1] ++ F) _ := S.only [0, 2, 2] rfl
  obtain ⟨x11, h10, H⟩ := bd H
  refine r_call T Tryd.call25 rfl rfl (slices_Concat_byte.ok _ _ z [x6, x1] (S.sel (p := [sl .own (kSl ku8) (some ⟨b9, 0, none⟩) 2 [x6, x1]]) (is := [0]) rfl) _ h10) ?_
  rintro _ _ ⟨A12, k13, rfl, S⟩
  refine ⟨_, rfl, fun _ T => ?_⟩
  replace S : SL ([sl .own ku8 A12 k13 x11, sl .own (kSl ku8) (some ⟨b9, 0, none⟩) 2 [x6, x1], sl .ro ku8 A7 k8 x6, sl .ro ku8 A2 k3 x1] ++ F) _ := S.join
  refine r_pv T rfl rfl fun _ T => r_pv T rfl rfl fun _ T => ?_
  replace H := Option.some.inj H
  subst H
  exact rtn T Tryd.func57 rfl rfl ⟨A12, k13, rfl, (S.only (p := [sl .own ku8 A12 k13 x11, sl .ro ku8 A2 k3 x1]) [0, 2] rfl)⟩
end codec_Text
end Go.Proofs.YtohelmfkpmphoaaDoor
namespace Go.Proofs.YtohelmfkpmphoaaDoor
open Go Go.Proofs.YtohelmfkpmphoaaDoor.X
set_option linter.unusedVariables false
set_option linter.unusedSimpArgs false
set_option maxRecDepth 100000
set_option maxHeartbeats 4000000
namespace codec_TakeNumber
noncomputable def c0 : Code := match Tryd.f74.body with | some c => c | none => .skip
def R (F : List Atom) (x1 : List Int) (A2 : OA) (k3 : Nat) (m4 : Md) (r : Int × Int × Int) : Ending → World → Prop := fun e w' => e = .returned (.tuple #[.int .u64 r.1, .int .i64 r.2.1, .int .i64 r.2.2]) ∧ SL ([sl m4 ku8 A2 k3 x1] ++ F) w'
def J2 (z : Nat) (x1 : List Int) (x5 x6 : Int) : Option (Int × Int × Int) := some (bOr .u64 x5 (sShl .u64 (wr .u64 (bAnd .u8 (gi (0 : Int) x1 x6) 127)) (wr .i64 (7 * x6))), wr .i64 (x6 + 1), 0)
def J1 (z : Nat) (x1 : List Int) (x5 x6 : Int) : Option (Int × Int × Int) := If (x6 == 9) (If (decide ((gi (0 : Int) x1 x6) > 1)) (some (0, 0, 11)) (J2 z x1 x5 x6)) (J2 z x1 x5 x6)
def L0 (z : Nat) (x1 : List Int) : Nat → Int → Int → Option (Int × Int × Int)
 | 0, _, _ => none
 | m + 1, x5, x6 => If (decide (x6 < 10)) (If (x6 == (x1.length : Int)) (some (0, 0, 10)) (Ck (0 ≤ x6 ∧ x6 < (x1.length : Int)) (Ck (0 ≤ wr .i64 (7 * x6)) (If (decide ((gi (0 : Int) x1 x6) > 127)) (L0 z x1 m (bOr .u64 x5 (sShl .u64 (wr .u64 (bAnd .u8 (gi (0 : Int) x1 x6) 127)) (wr .i64 (7 * x6)))) (wr .i64 (x6 + 1))) (If (decide (x6 > 0)) (If ((gi (0 : Int) x1 x6) == 0) (some (0, 0, 11)) (J1 z x1 x5 x6)) (J1 z x1 x5 x6)))))) (some (0, 0, 11))
def f (z : Nat) (x1 : List Int) : Option (Int × Int × Int) := L0 z x1 z 0 0
noncomputable def ptJ2 : List Item := [.code (cL (cr 5 (cB (cL (cR (cR (cB (cB (cR (cL (cR (cR c0)))))))))))), .code (cr 6 (cB (cL (cR (cR (cB (cB (cR (cL (cR (cR c0))))))))))), .inBlock 1, .code (cr 3 (cB (cB (cR (cL (cR (cR c0))))))), .inLoop (cB (cB (cR (cL (cR (cR c0)))))), .inBlock 0, .code (cr 3 c0)]
noncomputable def ptJ1 : List Item := [.code (cE (cR (cL (cE (cR (cB (cL (cr 4 (cB (cL (cR (cR (cB (cB (cR (cL (cR (cR c0)))))))))))))))))), .code (cR (cE (cR (cB (cL (cr 4 (cB (cL (cR (cR (cB (cB (cR (cL (cR (cR c0)))))))))))))))), .inBlock 2, .code (cr 5 (cB (cL (cR (cR (cB (cB (cR (cL (cR (cR c0))))))))))), .inBlock 1, .code (cr 3 (cB (cB (cR (cL (cR (cR c0))))))), .inLoop (cB (cB (cR (cL (cR (cR c0)))))), .inBlock 0, .code (cr 3 c0)]
noncomputable def ptL0 : List Item := [.code (cB (cB (cR (cL (cR (cR c0)))))), .inLoop (cB (cB (cR (cL (cR (cR c0)))))), .inBlock 0, .code (cr 3 c0)]
theorem J2_ok (F : List Atom) (r : Int × Int × Int) (z : Nat) (x1 : List Int) (A2 : OA) (k3 : Nat) (m4 : Md) (x5 x6 : Int) (a : Act) (w : World) (T : Tm 47 [(5, .int .u64 (bOr .u64 x5 (sShl .u64 (wr .u64 (bAnd .u8 (gi (0 : Int) x1 x6) 127)) (wr .i64 (7 * x6))))), (6, .int .i64 x6)] a) (S : SL ([sl m4 ku8 A2 k3 x1] ++ F) w) (H : J2 z x1 x5 x6 = some r) : Gets Tryd.prog 74 ptJ2 a w (R F x1 A2 k3 m4 r) := by
 refine rg (r_pv T rfl rfl fun _ T => r_pv T rfl rfl fun _ T => r_pv T rfl rfl fun _ T => ?_)
 refine r_pv T rfl rfl fun _ T => r_pv T rfl rfl fun _ T => r_pv T rfl rfl fun _ T => ?_
 replace H := Option.some.inj H
 subst H
 exact rtn T Tryd.func74 rfl rfl ⟨rfl, (S.only (p := [sl m4 ku8 A2 k3 x1]) [0] rfl)⟩
theorem J1_ok (F : List Atom) (r : Int × Int × Int) (z : Nat) (x1 : List Int) (A2 : OA) (k3 : Nat) (m4 : Md) (x5 x6 : Int) (a : Act) (w : World) (T : Tm 47 [(5, .int .u64 (bOr .u64 x5 (sShl .u64 (wr .u64 (bAnd .u8 (gi (0 : Int) x1 x6) 127)) (wr .i64 (7 * x6))))), (6, .int .i64 x6), (7, .int .u8 (gi (0 : Int) x1 x6))] a) (S : SL ([sl m4 ku8 A2 k3 x1] ++ F) w) (H : J1 z x1 x5 x6 = some r) : Gets Tryd.prog 74 ptJ1 a w (R F x1 A2 k3 m4 r) := by
 refine rg (r_pv T rfl rfl fun _ T => r_pv T rfl rfl fun _ T => r_pv T rfl rfl fun _ T => ?_)
 rcases ifE H with ⟨h14, H⟩ | ⟨h14, H⟩
 ·refine g_yes T rfl rfl h14 ?_
  refine r_pv T rfl rfl fun _ T => g_yes T rfl rfl h14 (r_pv T rfl rfl fun _ T => r_pickT T rfl h14 rfl rfl fun _ T => ?_)
  refine r_pv T rfl rfl fun _ T => ?_
  rcases ifE H with ⟨h15, H⟩ | ⟨h15, H⟩
  ·refine cdT T rfl h15 ?_
   refine Gets.seq (rg (r_pv T rfl rfl fun _ T => r_pv T rfl rfl fun _ T => ?_))
   refine r_pv T rfl rfl fun _ T => ?_
   replace H := Option.some.inj H
   subst H
   exact rtn T Tryd.func74 rfl rfl ⟨rfl, (S.only (p := [sl m4 ku8 A2 k3 x1]) [0] rfl)⟩
  ·refine cdF T rfl h15 ?_
   refine Gets.skip (Gets.inBlock (Gets.seq ?_))
   exact J2_ok F r z x1 A2 k3 m4 x5 x6 _ _ (T.sub ⟨rfl, rfl, trivial⟩) (S.only (p := [sl m4 ku8 A2 k3 x1]) [0] rfl) H
 ·refine g_no T rfl rfl h14 rfl fun _ T => ?_
  refine g_no T rfl rfl h14 rfl fun _ T => r_pickF T rfl h14 rfl rfl fun _ T => r_pv T rfl rfl fun _ T => cdF T rfl rfl ?_
  refine Gets.skip (Gets.inBlock (Gets.seq ?_))
  exact J2_ok F r z x1 A2 k3 m4 x5 x6 _ _ (T.sub ⟨rfl, rfl, trivial⟩) (S.only (p := [sl m4 ku8 A2 k3 x1]) [0] rfl) H
theorem L0_ok (F : List Atom) (r : Int × Int × Int) (z : Nat) (x1 : List Int) (A2 : OA) (k3 : Nat) (m4 : Md) (m : Nat) : ∀ (x5 x6 : Int) (a : Act) (w : World), Tm 47 [(0, .slice A2 x1.length k3), (5, .int .u64 x5), (8, .int .i64 x6)] a → SL ([sl m4 ku8 A2 k3 x1] ++ F) w → L0 z x1 m x5 x6 = some r → Gets Tryd.prog 74 ptL0 a w (R F x1 A2 k3 m4 r) := by
 induction m with
 | zero => intro _ _ _ _ _ _ H; cases H
 | succ m ih =>
  intro x5 x6 a w T S H
  refine Gets.seq (rg (r_pv T rfl rfl fun _ T => Gets.seq ?_))
  rcases ifE H with ⟨h7, H⟩ | ⟨h7, H⟩
  ·refine cdT T rfl h7 ?_
   refine Gets.skip (Gets.seq (Gets.block (Gets.seq ?_)))
   refine rg (r_pv T rfl rfl fun _ T => r_pv T rfl rfl fun _ T => ?_)
   refine Gets.seq (Gets.seq ?_)
   refine rg (r_pv T rfl rfl fun _ T => r_pv T rfl rfl fun _ T => r_lenS T rfl Tryd.runUnderlying29 rfl fun _ T => ?_)
   refine r_pv T rfl rfl fun _ T => ?_
   rcases ifE H with ⟨h8, H⟩ | ⟨h8, H⟩
   ·refine cdT T rfl h8 ?_
    refine Gets.seq (rg (r_pv T rfl rfl fun _ T => r_pv T rfl rfl fun _ T => ?_))
    refine r_pv T rfl rfl fun _ T => ?_
    replace H := Option.some.inj H
    subst H
    exact rtn T Tryd.func74 rfl rfl ⟨rfl, (S.only (p := [sl m4 ku8 A2 k3 x1]) [0] rfl)⟩
   ·refine cdF T rfl h8 ?_
    refine Gets.skip (Gets.seq ?_)
    refine rg (r_pv T rfl rfl fun _ T => r_pv T rfl rfl fun _ T => ?_)
    obtain ⟨h9, H⟩ := ck H
    refine r_ia (ix := 0) T S rfl rfl rfl rfl Tryd.runUnderlying29 Tryd.sizeOf5 h9.1 h9.2 rfl fun _ T => r_ldE (ix := 0) (i := x6) (off := 0) (f := (Value.int .u8)) T S rfl Tryd.isAgg5 rfl (0 : Int) _ rfl rfl (Fld.all _) h9.1 h9.2 (fun h => h) rfl fun _ T => r_pv T rfl rfl fun _ T => Gets.seq ?_
    refine rg (r_pv T rfl rfl fun _ T => r_pv T rfl rfl fun _ T => r_pv T rfl rfl fun _ T => ?_)
    refine r_conv T rfl Tryd.runUnderlying5 Tryd.runUnderlying109 rfl fun _ T => r_pv T rfl rfl fun _ T => r_pv T rfl rfl fun _ T => ?_
    obtain ⟨h10, H⟩ := ck H
    refine r_shl T rfl rfl h10 rfl fun _ T => r_pv T rfl rfl fun _ T => r_pv T rfl rfl fun _ T => ?_
    refine Gets.seq (Gets.block (Gets.seq ?_))
    refine rg (r_pv T rfl rfl fun _ T => r_pv T rfl rfl fun _ T => r_pv T rfl rfl fun _ T => ?_)
    rcases ifE H with ⟨h11, H⟩ | ⟨h11, H⟩
    ·refine cdT T rfl h11 ?_
     refine Gets.exit rfl ?_
     refine rg (r_pv T rfl rfl fun _ T => r_pv T rfl rfl fun _ T => Gets.inLoop ?_)
     exact ih (bOr .u64 x5 (sShl .u64 (wr .u64 (bAnd .u8 (gi (0 : Int) x1 x6) 127)) (wr .i64 (7 * x6)))) (wr .i64 (x6 + 1)) _ _ (T.sub ⟨rfl, rfl, rfl, trivial⟩) (S.only (p := [sl m4 ku8 A2 k3 x1]) [0] rfl) H
    ·refine cdF T rfl h11 ?_
     refine Gets.seq (Gets.seq ?_)
     refine rg (r_pv T rfl rfl fun _ T => r_pv T rfl rfl fun _ T => r_pv T rfl rfl fun _ T => ?_)
     rcases ifE H with ⟨h12, H⟩ | ⟨h12, H⟩
     ·refine g_yes T rfl rfl h12 ?_
      refine r_pv T rfl rfl fun _ T => g_yes T rfl rfl h12 (r_pv T rfl rfl fun _ T => r_pickT T rfl h12 rfl rfl fun _ T => ?_)
      refine r_pv T rfl rfl fun _ T => ?_
      rcases ifE H with ⟨h13, H⟩ | ⟨h13, H⟩
      ·refine cdT T rfl h13 ?_
       refine Gets.skip (cdT T rfl h13 (Gets.seq (rg ?_)))
       refine r_pv T rfl rfl fun _ T => r_pv T rfl rfl fun _ T => r_pv T rfl rfl fun _ T => ?_
       replace H := Option.some.inj H
       subst H
       exact rtn T Tryd.func74 rfl rfl ⟨rfl, (S.only (p := [sl m4 ku8 A2 k3 x1]) [0] rfl)⟩
      ·refine cdF T rfl h13 ?_
       exact J1_ok F r z x1 A2 k3 m4 x5 x6 _ _ (T.sub ⟨rfl, rfl, rfl, trivial⟩) (S.only (p := [sl m4 ku8 A2 k3 x1]) [0] rfl) H
     ·refine g_no T rfl rfl h12 rfl fun _ T => ?_
      refine g_no T rfl rfl h12 rfl fun _ T => r_pickF T rfl h12 rfl rfl fun _ T => r_pv T rfl rfl fun _ T => cdF T rfl rfl ?_
      exact J1_ok F r z x1 A2 k3 m4 x5 x6 _ _ (T.sub ⟨rfl, rfl, rfl, trivial⟩) (S.only (p := [sl m4 ku8 A2 k3 x1]) [0] rfl) H
  ·refine cdF T rfl h7 ?_
   refine Gets.exit rfl (Gets.seq ?_)
   refine rg (r_pv T rfl rfl fun _ T => r_pv T rfl rfl fun _ T => r_pv T rfl rfl fun _ T => ?_)
   replace H := Option.some.inj H
   subst H
   exact rtn T Tryd.func74 rfl rfl ⟨rfl, (S.only (p := [sl m4 ku8 A2 k3 x1]) [0] rfl)⟩
theorem ok (F : List Atom) (w : World) (z : Nat) (x1 : List Int) {A2 : OA} {k3 : Nat} {m4 : Md} (S : SL ([sl m4 ku8 A2 k3 x1] ++ F) w) (r : Int × Int × Int) (H : f z x1 = some r) : Calls Tryd.prog 74 #[.slice A2 x1.length k3] w (R F x1 A2 k3 m4 r) := by
 refine enter (vs := [.slice A2 x1.length k3]) Tryd.func74 rfl Tryd.ntmps74 (Nat.le_of_ble_eq_true rfl) fun a T => ?_
 refine Gets.seq (rg (r_pv T rfl rfl fun _ T => r_pv T rfl rfl fun _ T => ?_))
 refine r_pv T rfl rfl fun _ T => Gets.seq (rg (r_pv T rfl rfl fun _ T => ?_))
 refine Gets.seq (Gets.seq ?_)
 refine rg (r_pv T rfl rfl fun _ T => Gets.block (Gets.loop ?_))
 exact L0_ok F r z x1 A2 k3 m4 z 0 0 _ _ (T.sub ⟨rfl, rfl, rfl, trivial⟩) (S.only (p := [sl m4 ku8 A2 k3 x1]) [0] rfl) H
end codec_TakeNumber
end Go.Proofs.YtohelmfkpmphoaaDoor
namespace Go.Proofs.YtohelmfkpmphoaaDoor
open Go Go.Proofs.YtohelmfkpmphoaaDoor.X
set_option linter.unusedVariables false
set_option linter.unusedSimpArgs false
set_option maxRecDepth 100000
set_option maxHeartbeats 4000000
namespace codec_length
def R (F : List Atom) (x1 : List Int) (A2 : OA) (k3 : Nat) (m4 : Md) (r : Int × Int × Int) : Ending → World → Prop := fun e w' => e = .returned (.tuple #[.int .i64 r.1, .int .i64 r.2.1, .int .i64 r.2.2]) ∧ SL ([sl m4 ku8 A2 k3 x1] ++ F) w'
def f (z : Nat) (x1 : List Int) (x5 : Int) : Option (Int × Int × Int) := Bd (codec_TakeNumber.f z x1) fun x7 => If (x7.2.2 != 0) (some (0, 0, x7.2.2)) (If (decide (x7.1 > 2097152)) (some (0, 0, 12)) (If (decide ((wr .i64 ((wr .i64 ((x1.length : Int) - x7.2.1)) - x5)) < (wr .i64 x7.1))) (some (0, 0, 10)) (some (wr .i64 x7.1, x7.2.1, 0))))
theorem ok (F : List Atom) (w : World) (z : Nat) (x1 : List Int) (x5 : Int) {A2 : OA} {k3 : Nat} {m4 : Md} (S : SL ([sl m4 ku8 A2 k3 x1] ++ F) w) (r : Int × Int × Int) (H : f z x1 x5 = some r) : Calls Tryd.prog 62 #[.slice A2 x1.length k3, .int .i64 x5] w (R F x1 A2 k3 m4 r) := by
 refine enter (vs := [.slice A2 x1.length k3, .int .i64 x5]) Tryd.func62 rfl Tryd.ntmps62 (Nat.le_of_ble_eq_true rfl) fun a T => ?_
 refine Gets.seq (rg (r_pv T rfl rfl fun _ T => r_pv T rfl rfl fun _ T => ?_))
 refine r_pv T rfl rfl fun _ T => Gets.seq (rg (r_pv T rfl rfl fun _ T => ?_))
 obtain ⟨x7, h6, H⟩ := bd H
 refine r_call T Tryd.call74 rfl rfl (codec_TakeNumber.ok _ _ z x1 (S.sel (p := [sl m4 ku8 A2 k3 x1]) (is := [0]) rfl) _ h6) ?_
 rintro _ _ ⟨rfl, S⟩
 refine ⟨_, rfl, fun _ T => ?_⟩
 replace S : SL ([sl m4 ku8 A2 k3 x1] ++ F) _ := S.join
 refine r_pv T rfl rfl fun _ T => r_pv T rfl rfl fun _ T => r_pv T rfl rfl fun _ T => r_pv T rfl rfl fun _ T => ?_
 refine r_pv T rfl rfl fun _ T => r_pv T rfl rfl fun _ T => r_pv T rfl rfl fun _ T => ?_
 refine Gets.seq (Gets.block (Gets.seq ?_))
 refine rg (r_pv T rfl rfl fun _ T => r_pv T rfl rfl fun _ T => r_pv T rfl rfl fun _ T => ?_)
 rcases ifE H with ⟨h8, H⟩ | ⟨h8, H⟩
 ·refine cdT T rfl h8 ?_
  refine Gets.seq (rg (r_pv T rfl rfl fun _ T => r_pv T rfl rfl fun _ T => ?_))
  refine r_pv T rfl rfl fun _ T => r_pv T rfl rfl fun _ T => ?_
  replace H := Option.some.inj H
  subst H
  exact rtn T Tryd.func62 rfl rfl ⟨rfl, (S.only (p := [sl m4 ku8 A2 k3 x1]) [0] rfl)⟩
 ·refine cdF T rfl h8 ?_
  refine Gets.seq (rg (r_pv T rfl rfl fun _ T => r_pv T rfl rfl fun _ T => ?_))
  refine r_pv T rfl rfl fun _ T => ?_
  rcases ifE H with ⟨h9, H⟩ | ⟨h9, H⟩
  ·refine cdT T rfl h9 ?_
   refine Gets.seq (rg (r_pv T rfl rfl fun _ T => r_pv T rfl rfl fun _ T => ?_))
   refine r_pv T rfl rfl fun _ T => ?_
   replace H := Option.some.inj H
   subst H
   exact rtn T Tryd.func62 rfl rfl ⟨rfl, (S.only (p := [sl m4 ku8 A2 k3 x1]) [0] rfl)⟩
  ·refine cdF T rfl h9 ?_
   refine Gets.seq (rg (r_pv T rfl rfl fun _ T => r_lenS T rfl Tryd.runUnderlying29 rfl fun _ T => ?_))
   refine r_pv T rfl rfl fun _ T => r_pv T rfl rfl fun _ T => r_pv T rfl rfl fun _ T => r_pv T rfl rfl fun _ T => ?_
   refine r_pv T rfl rfl fun _ T => r_conv T rfl Tryd.runUnderlying109 Tryd.runUnderlying3 rfl fun _ T => r_pv T rfl rfl fun _ T => r_pv T rfl rfl fun _ T => ?_
   rcases ifE H with ⟨h10, H⟩ | ⟨h10, H⟩
   ·refine cdT T rfl h10 ?_
    refine Gets.seq (rg (r_pv T rfl rfl fun _ T => r_pv T rfl rfl fun _ T => ?_))
    refine r_pv T rfl rfl fun _ T => ?_
    replace H := Option.some.inj H
    subst H
    exact rtn T Tryd.func62 rfl rfl ⟨rfl, (S.only (p := [sl m4 ku8 A2 k3 x1]) [0] rfl)⟩
   ·refine cdF T rfl h10 ?_
    refine Gets.skip (Gets.inBlock (Gets.seq ?_))
    refine rg (r_pv T rfl rfl fun _ T => r_conv T rfl Tryd.runUnderlying109 Tryd.runUnderlying3 rfl fun _ T => r_pv T rfl rfl fun _ T => ?_)
    refine r_pv T rfl rfl fun _ T => r_pv T rfl rfl fun _ T => r_pv T rfl rfl fun _ T => ?_
    replace H := Option.some.inj H
    subst H
    exact rtn T Tryd.func62 rfl rfl ⟨rfl, (S.only (p := [sl m4 ku8 A2 k3 x1]) [0] rfl)⟩
end codec_length
end Go.Proofs.YtohelmfkpmphoaaDoor
namespace Go.Proofs.YtohelmfkpmphoaaDoor
open Go Go.Proofs.YtohelmfkpmphoaaDoor.X
set_option linter.unusedVariables false
set_option linter.unusedSimpArgs false
set_option maxRecDepth 100000
set_option maxHeartbeats 4000000
namespace codec_TakeText
def R (F : List Atom) (x1 : List Int) (A2 : OA) (k3 : Nat) (r : (List Int) × Int × Int) : Ending → World → Prop := fun e w' => ∃ (A17 : OA), ∃ (k18 : Nat), e = .returned (.tuple #[.slice A17 r.1.length k18, .int .i64 r.2.1, .int .i64 r.2.2]) ∧ SL ([sl .own ku8 A17 k18 r.1, sl .ro ku8 A2 k3 x1] ++ F) w'
def f (z : Nat) (x1 : List Int) : Option ((List Int) × Int × Int) := Bd (codec_length.f z x1 0) fun x5 => If (x5.2.2 != 0) (some (([] : List Int), 0, x5.2.2)) (Ck (0 ≤ x5.2.1 ∧ x5.2.1 ≤ wr .i64 (x5.2.1 + x5.1) ∧ wr .i64 (x5.2.1 + x5.1) ≤ (x1.length : Int)) (Bd (bytes_Clone.f (cut x1 (Int.toNat x5.2.1) (Int.toNat (wr .i64 (x5.2.1 + x5.1))))) fun x11 => Bd (slices_Clip_byte.f x11) fun x15 => some (x15, wr .i64 (x5.2.1 + x5.1), 0)))
theorem ok (F : List Atom) (w : World) (z : Nat) (x1 : List Int) {A2 : OA} {k3 : Nat} (S : SL ([sl .ro ku8 A2 k3 x1] ++ F) w) (r : (List Int) × Int × Int) (H : f z x1 = some r) : Calls Tryd.prog 33 #[.slice A2 x1.length k3] w (R F x1 A2 k3 r) := by
 refine enter (vs := [.slice A2 x1.length k3]) Tryd.func33 rfl Tryd.ntmps33 (Nat.le_of_ble_eq_true rfl) fun a T => ?_
 refine Gets.seq (rg (r_pv T rfl rfl fun _ T => r_pv T rfl rfl fun _ T => ?_))
 refine r_pv T rfl rfl fun _ T => Gets.seq (rg (r_pv T rfl rfl fun _ T => ?_))
 replace S := S.dup (i := 0) rfl
 obtain ⟨x5, h4, H⟩ := bd H
 refine r_call T Tryd.call62 rfl rfl (codec_length.ok _ _ z x1 0 (S.sel (p := [sl .ro ku8 A2 k3 x1]) (is := [0]) rfl) _ h4) ?_
 rintro _ _ ⟨rfl, S⟩
 refine ⟨_, rfl, fun _ T => ?_⟩
 replace S : SL ([sl .ro ku8 A2 k3 x1] ++ F) _ := S.join.only [1] rfl
 refine r_pv T rfl rfl fun _ T => r_pv T rfl rfl fun _ T => r_pv T rfl rfl fun _ T => r_pv T rfl rfl fun _ T => ?_
 refine r_pv T rfl rfl fun _ T => r_pv T rfl rfl fun _ T => r_pv T rfl rfl fun _ T => ?_
 refine Gets.seq (Gets.seq ?_)
 refine rg (r_pv T rfl rfl fun _ T => r_pv T rfl rfl fun _ T => ?_)
 rcases ifE H with ⟨h6, H⟩ | ⟨h6, H⟩
 ·refine cdT T rfl h6 ?_
  refine Gets.seq (rg (r_pv T rfl rfl fun _ T => r_pv T rfl rfl fun _ T => ?_))
  refine r_pv T rfl rfl fun _ T => r_pv T rfl rfl fun _ T => ?_
  replace S := S.nil ku8 .own
  replace H := Option.some.inj H
  subst H
  exact rtn T Tryd.func33 rfl rfl ⟨none, 0, rfl, (S.only (p := [sl .own ku8 none 0 ([] : List Int), sl .ro ku8 A2 k3 x1]) [0, 0] rfl)⟩
 ·refine cdF T rfl h6 ?_
  refine Gets.skip (Gets.seq ?_)
  refine rg (r_pv T rfl rfl fun _ T => r_pv T rfl rfl fun _ T => r_pv T rfl rfl fun _ T => ?_)
  refine r_pv T rfl rfl fun _ T => r_pv T rfl rfl fun _ T => ?_
  have h7 := S.len (i := 0) rfl
  obtain ⟨h8, H⟩ := ck H
  refine r_slR (ix := 0) (xs := x1) T S rfl rfl (fun h => by cases h) rfl rfl rfl h8.1 h8.2.1 h8.2.2 (by have := h8.2.2; omega) (by omega) Tryd.runUnderlying29 Tryd.sizeOf5 rfl fun _ A9 S T => ?_
  obtain ⟨x11, h10, H⟩ := bd H
  refine r_call T Tryd.call63 rfl rfl (bytes_Clone.ok _ _ (cut x1 (Int.toNat x5.2.1) (Int.toNat (wr .i64 (x5.2.1 + x5.1)))) (S.sel (p := [sl .ro ku8 A9 (Int.toNat (k3 : Int) - Int.toNat x5.2.1) (cut x1 (Int.toNat x5.2.1) (Int.toNat (wr .i64 (x5.2.1 + x5.1))))]) (is := [0]) rfl) _ h10) ?_
  rintro _ _ ⟨A12, k13, rfl, S⟩
  refine ⟨_, rfl, fun _ T => ?_⟩
  replace S : SL ([sl .own ku8 A12 k13 x11, sl .ro ku8 A9 (Int.toNat (k3 : Int) - Int.toNat x5.2.1) (cut x1 (Int.toNat x5.2.1) (Int.toNat (wr .i64 (x5.2.1 + x5.1)))), sl .ro ku8 A2 k3 x1] ++ F) _ := S.join
  obtain ⟨x15, h14, H⟩ := bd H
  refine r_call T Tryd.call30 rfl rfl (slices_Clip_byte.ok _ _ x11 (S.sel (p := [sl .own ku8 A12 k13 x11]) (is := [0]) rfl) _ h14) ?_
  rintro _ _ ⟨A16, rfl, S⟩
  refine ⟨_, rfl, fun _ T => ?_⟩
  replace S : SL ([sl .own ku8 A16 x15.length x15, sl .ro ku8 A9 (Int.toNat (k3 : Int) - Int.toNat x5.2.1) (cut x1 (Int.toNat x5.2.1) (Int.toNat (wr .i64 (x5.2.1 + x5.1)))), sl .ro ku8 A2 k3 x1] ++ F) _ := S.join
  refine r_pv T rfl rfl fun _ T => r_pv T rfl rfl fun _ T => r_pv T rfl rfl fun _ T => r_pv T rfl rfl fun _ T => ?_
  refine r_pv T rfl rfl fun _ T => r_pv T rfl rfl fun _ T => ?_
  replace H := Option.some.inj H
  subst H
  exact rtn T Tryd.func33 rfl rfl ⟨A16, x15.length, rfl, (S.only (p := [sl .own ku8 A16 x15.length x15, sl .ro ku8 A2 k3 x1]) [0, 1] rfl)⟩
end codec_TakeText
end Go.Proofs.YtohelmfkpmphoaaDoor
namespace Go.Proofs.YtohelmfkpmphoaaDoor
open Go Go.Proofs.YtohelmfkpmphoaaDoor.X
set_option linter.unusedVariables false
set_option linter.unusedSimpArgs false
set_option maxRecDepth 100000
set_option maxHeartbeats 4000000
namespace codec_KeyInt
noncomputable def c0 : Code := match Tryd.f55.body with | some c => c | none => .skip
def R (F : List Atom) (r : (List Int)) : Ending → World → Prop := fun e w' => ∃ (A11 : OA), ∃ (k12 : Nat), e = .returned (.slice A11 r.length k12) ∧ SL ([sl .own ku8 A11 k12 r] ++ F) w'
def L0 (z : Nat) (x1 : Int) : Nat → (List Int) → Int → Option (List Int)
 | 0, _, _ => none
 | m + 1, x4, x7 => If (decide (x7 < ((List.replicate (Int.toNat 8) (0 : Int)).length : Int))) (Ck (0 ≤ wr .i64 (56 - (wr .i64 (8 * x7)))) (Ck (0 ≤ x7 ∧ x7 < (x4.length : Int)) (L0 z x1 m (x4.set (Int.toNat x7) (wr .u8 (sShr .u64 (bXor .u64 (wr .u64 x1) 9223372036854775808) (wr .i64 (56 - (wr .i64 (8 * x7))))))) (wr .i64 (x7 + 1))))) (some x4)
def f (z : Nat) (x1 : Int) : Option (List Int) := Ck (1 * 8 ≤ 281474976710656) (L0 z x1 z (List.replicate (Int.toNat 8) (0 : Int)) 0)
noncomputable def ptL0 : List Item := [.code (cB (cB (cR (cL (cr 3 c0))))), .inLoop (cB (cB (cR (cL (cr 3 c0))))), .inBlock 0, .code (cr 4 c0)]
theorem L0_ok (F : List Atom) (r : (List Int)) (z : Nat) (x1 : Int) (m : Nat) : ∀ (A5 : OA) (x4 : List Int) (k6 : Nat) (x7 : Int) (a : Act) (w : World), Tm 26 [(3, .int .u64 (bXor .u64 (wr .u64 x1) 9223372036854775808)), (4, .slice A5 x4.length k6), (11, .int .i64 ((List.replicate (Int.toNat 8) (0 : Int)).length : Int)), (12, .int .i64 x7)] a → SL ([sl .own ku8 A5 k6 x4] ++ F) w → L0 z x1 m x4 x7 = some r → Gets Tryd.prog 55 ptL0 a w (R F r) := by
 induction m with
 | zero => intro _ _ _ _ _ _ _ _ H; cases H
 | succ m ih =>
  intro A5 x4 k6 x7 a w T S H
  refine Gets.seq (rg (r_pv T rfl rfl fun _ T => Gets.seq ?_))
  rcases ifE H with ⟨h8, H⟩ | ⟨h8, H⟩
  ·refine cdT T rfl h8 ?_
   refine Gets.skip (Gets.seq (Gets.block (Gets.seq ?_)))
   refine rg (r_pv T rfl rfl fun _ T => r_pv T rfl rfl fun _ T => rg ?_)
   refine r_pv T rfl rfl fun _ T => r_pv T rfl rfl fun _ T => r_pv T rfl rfl fun _ T => r_pv T rfl rfl fun _ T => ?_
   refine r_pv T rfl rfl fun _ T => r_pv T rfl rfl fun _ T => ?_
   obtain ⟨h9, H⟩ := ck H
   refine r_shr T rfl rfl h9 rfl fun _ T => r_conv T rfl Tryd.runUnderlying109 Tryd.runUnderlying5 rfl fun _ T => ?_
   obtain ⟨h10, H⟩ := ck H
   refine r_ia (ix := 0) T S rfl rfl rfl rfl Tryd.runUnderlying29 Tryd.sizeOf5 h10.1 h10.2 rfl fun _ T => r_stE (ix := 0) (i := x7) (u := wr .u8 (sShr .u64 (bXor .u64 (wr .u64 x1) 9223372036854775808) (wr .i64 (56 - (wr .i64 (8 * x7)))))) (l' := [sl .own ku8 A5 k6 (x4.set (Int.toNat x7) (wr .u8 (sShr .u64 (bXor .u64 (wr .u64 x1) 9223372036854775808) (wr .i64 (56 - (wr .i64 (8 * x7)))))))]) T S rfl rfl rfl rfl (fun _ => rfl) Tryd.sizeOf5 h10.1 h10.2 rfl fun _ S => Gets.inBlock (rg ?_)
   refine r_pv T rfl rfl fun _ T => r_pv T rfl rfl fun _ T => Gets.inLoop ?_
   have T := T.re (s := 4) (v' := .slice A5 (x4.set (Int.toNat x7) (wr .u8 (sShr .u64 (bXor .u64 (wr .u64 x1) 9223372036854775808) (wr .i64 (56 - (wr .i64 (8 * x7))))))).length k6) rfl (by simp)
   exact ih A5 (x4.set (Int.toNat x7) (wr .u8 (sShr .u64 (bXor .u64 (wr .u64 x1) 9223372036854775808) (wr .i64 (56 - (wr .i64 (8 * x7))))))) k6 (wr .i64 (x7 + 1)) _ _ (T.sub ⟨rfl, rfl, rfl, rfl, trivial⟩) (S.only (p := [sl .own ku8 A5 k6 (x4.set (Int.toNat x7) (wr .u8 (sShr .u64 (bXor .u64 (wr .u64 x1) 9223372036854775808) (wr .i64 (56 - (wr .i64 (8 * x7)))))))]) [0] rfl) H
  ·refine cdF T rfl h8 ?_
   refine Gets.exit rfl (Gets.seq ?_)
   refine rg (r_pv T rfl rfl fun _ T => r_pv T rfl rfl fun _ T => ?_)
   replace H := Option.some.inj H
   subst H
   exact rtn T Tryd.func55 rfl rfl ⟨A5, k6, rfl, (S.only (p := [sl .own ku8 A5 k6 x4]) [0] rfl)⟩
theorem ok (F : List Atom) (w : World) (z : Nat) (x1 : Int) (S : SL ([] ++ F) w) (r : (List Int)) (H : f z x1 = some r) : Calls Tryd.prog 55 #[.int .i64 x1] w (R F r) := by
 refine enter (vs := [.int .i64 x1]) Tryd.func55 rfl Tryd.ntmps55 (Nat.le_of_ble_eq_true rfl) fun a T => ?_
 refine Gets.seq (rg (r_pv T rfl rfl fun _ T => Gets.seq ?_))
 refine rg (r_pv T rfl rfl fun _ T => r_conv T rfl Tryd.runUnderlying2 Tryd.runUnderlying109 rfl fun _ T => r_pv T rfl rfl fun _ T => ?_)
 refine r_pv T rfl rfl fun _ T => Gets.seq (rg ?_)
 obtain ⟨h2, H⟩ := ck H
 refine r_make (κ := ku8) T S rfl rfl sty29 (0 : Int) (fun _ => rfl) (by decide) (Int.le_refl _) (by decide) (by have := h2; omega) rfl fun _ _ b3 S T => ?_
 replace T := T.re (s := 9) (v' := .slice (some ⟨b3, 0, none⟩) (List.replicate (Int.toNat 8) (0 : Int)).length (Int.toNat 8)) rfl (by simp)
 refine r_pv T rfl rfl fun _ T => ?_
 refine Gets.seq (Gets.seq ?_)
 refine rg (r_pv T rfl rfl fun _ T => r_lenS T rfl Tryd.runUnderlying29 rfl fun _ T => r_pv T rfl rfl fun _ T => ?_)
 refine Gets.block (Gets.loop ?_)
 exact L0_ok F r z x1 z (some ⟨b3, 0, none⟩) (List.replicate (Int.toNat 8) (0 : Int)) (Int.toNat 8) 0 _ _ (T.sub ⟨rfl, rfl, rfl, rfl, trivial⟩) (S.only (p := [sl .own ku8 (some ⟨b3, 0, none⟩) (Int.toNat 8) (List.replicate (Int.toNat 8) (0 : Int))]) [0] rfl) H
end codec_KeyInt
end Go.Proofs.YtohelmfkpmphoaaDoor
namespace Go.Proofs.YtohelmfkpmphoaaDoor
open Go Go.Proofs.YtohelmfkpmphoaaDoor.X
set_option linter.unusedVariables false
set_option linter.unusedSimpArgs false
set_option maxRecDepth 100000
set_option maxHeartbeats 4000000
namespace codec_TakeKeyInt
noncomputable def c0 : Code := match Tryd.f60.body with | some c => c | none => .skip
def R (F : List Atom) (x1 : List Int) (A2 : OA) (k3 : Nat) (r : Int × Int × Int) : Ending → World → Prop := fun e w' => e = .returned (.tuple #[.int .i64 r.1, .int .i64 r.2.1, .int .i64 r.2.2]) ∧ SL ([sl .ro ku8 A2 k3 x1] ++ F) w'
def L0 (z : Nat) (x1 : List Int) : Nat → Int → Int → Option (Int × Int × Int)
 | 0, _, _ => none
 | m + 1, x8, x9 => If (decide (x9 < ((cut x1 (Int.toNat 0) (Int.toNat 8)).length : Int))) (Ck (0 ≤ x9 ∧ x9 < ((cut x1 (Int.toNat 0) (Int.toNat 8)).length : Int)) (L0 z x1 m (bOr .u64 (sShl .u64 x8 8) (wr .u64 (gi (0 : Int) (cut x1 (Int.toNat 0) (Int.toNat 8)) x9))) (wr .i64 (x9 + 1)))) (some (wr .i64 (bXor .u64 x8 9223372036854775808), 8, 0))
def f (z : Nat) (x1 : List Int) : Option (Int × Int × Int) := If (decide ((x1.length : Int) < 8)) (some (0, 0, 10)) (Ck (8 ≤ (x1.length : Int)) (L0 z x1 z 0 0))
noncomputable def ptL0 : List Item := [.code (cB (cB (cR (cL (cr 3 c0))))), .inLoop (cB (cB (cR (cL (cr 3 c0))))), .inBlock 0, .code (cr 4 c0)]
theorem L0_ok (F : List Atom) (r : Int × Int × Int) (z : Nat) (x1 : List Int) (A2 : OA) (k3 : Nat) (A7 : OA) (m : Nat) : ∀ (x8 x9 : Int) (a : Act) (w : World), Tm 27 [(5, .int .u64 x8), (12, .slice A7 ((cut x1 (Int.toNat 0) (Int.toNat 8)).length) (Int.toNat (k3 : Int) - Int.toNat 0)), (13, .int .i64 ((cut x1 (Int.toNat 0) (Int.toNat 8)).length : Int)), (14, .int .i64 x9)] a → SL ([sl .ro ku8 A2 k3 x1, sl .ro ku8 A7 (Int.toNat (k3 : Int) - Int.toNat 0) (cut x1 (Int.toNat 0) (Int.toNat 8))] ++ F) w → L0 z x1 m x8 x9 = some r → Gets Tryd.prog 60 ptL0 a w (R F x1 A2 k3 r) := by
 induction m with
 | zero => intro _ _ _ _ _ _ H; cases H
 | succ m ih =>
  intro x8 x9 a w T S H
  refine Gets.seq (rg (r_pv T rfl rfl fun _ T => Gets.seq ?_))
  rcases ifE H with ⟨h10, H⟩ | ⟨h10, H⟩
  ·refine cdT T rfl h10 ?_
   refine Gets.skip (Gets.seq (Gets.block (Gets.seq ?_)))
   refine rg ?_
   obtain ⟨h11, H⟩ := ck H
   refine r_ia (ix := 1) T S rfl rfl rfl rfl Tryd.runUnderlying29 Tryd.sizeOf5 h11.1 h11.2 rfl fun _ T => r_ldE (ix := 1) (i := x9) (off := 0) (f := (Value.int .u8)) T S rfl Tryd.isAgg5 rfl (0 : Int) _ rfl rfl (Fld.all _) h11.1 h11.2 (fun h => h) rfl fun _ T => r_pv T rfl rfl fun _ T => rg ?_
   refine r_pv T rfl rfl fun _ T => r_shl T rfl rfl (by decide) rfl fun _ T => ?_
   refine r_pv T rfl rfl fun _ T => r_conv T rfl Tryd.runUnderlying5 Tryd.runUnderlying109 rfl fun _ T => r_pv T rfl rfl fun _ T => r_pv T rfl rfl fun _ T => ?_
   refine Gets.inBlock (rg (r_pv T rfl rfl fun _ T => r_pv T rfl rfl fun _ T => ?_))
   refine Gets.inLoop ?_
   exact ih (bOr .u64 (sShl .u64 x8 8) (wr .u64 (gi (0 : Int) (cut x1 (Int.toNat 0) (Int.toNat 8)) x9))) (wr .i64 (x9 + 1)) _ _ (T.sub ⟨rfl, rfl, rfl, rfl, trivial⟩) (S.only (p := [sl .ro ku8 A2 k3 x1, sl .ro ku8 A7 (Int.toNat (k3 : Int) - Int.toNat 0) (cut x1 (Int.toNat 0) (Int.toNat 8))]) [0, 0] rfl) H
  ·refine cdF T rfl h10 ?_
   refine Gets.exit rfl (Gets.seq ?_)
   refine rg (r_pv T rfl rfl fun _ T => r_pv T rfl rfl fun _ T => r_conv T rfl Tryd.runUnderlying109 Tryd.runUnderlying2 rfl fun _ T => ?_)
   refine r_pv T rfl rfl fun _ T => r_pv T rfl rfl fun _ T => r_pv T rfl rfl fun _ T => ?_
   replace H := Option.some.inj H
   subst H
   exact rtn T Tryd.func60 rfl rfl ⟨rfl, (S.only (p := [sl .ro ku8 A2 k3 x1]) [0] rfl)⟩
theorem ok (F : List Atom) (w : World) (z : Nat) (x1 : List Int) {A2 : OA} {k3 : Nat} (S : SL ([sl .ro ku8 A2 k3 x1] ++ F) w) (r : Int × Int × Int) (H : f z x1 = some r) : Calls Tryd.prog 60 #[.slice A2 x1.length k3] w (R F x1 A2 k3 r) := by
 refine enter (vs := [.slice A2 x1.length k3]) Tryd.func60 rfl Tryd.ntmps60 (Nat.le_of_ble_eq_true rfl) fun a T => ?_
 refine Gets.seq (rg (r_pv T rfl rfl fun _ T => r_pv T rfl rfl fun _ T => ?_))
 refine r_pv T rfl rfl fun _ T => ?_
 refine Gets.seq (Gets.seq ?_)
 refine rg (r_pv T rfl rfl fun _ T => r_lenS T rfl Tryd.runUnderlying29 rfl fun _ T => r_pv T rfl rfl fun _ T => ?_)
 rcases ifE H with ⟨h4, H⟩ | ⟨h4, H⟩
 ·refine cdT T rfl h4 ?_
  refine Gets.seq (rg (r_pv T rfl rfl fun _ T => r_pv T rfl rfl fun _ T => ?_))
  refine r_pv T rfl rfl fun _ T => ?_
  replace H := Option.some.inj H
  subst H
  exact rtn T Tryd.func60 rfl rfl ⟨rfl, (S.only (p := [sl .ro ku8 A2 k3 x1]) [0] rfl)⟩
 ·refine cdF T rfl h4 ?_
  refine Gets.skip (Gets.seq ?_)
  refine rg (r_pv T rfl rfl fun _ T => ?_)
  refine Gets.seq (Gets.seq ?_)
  refine rg (r_pv T rfl rfl fun _ T => ?_)
  have h5 := S.len (i := 0) rfl
  obtain ⟨h6, H⟩ := ck H
  refine r_slR (ix := 0) (xs := x1) T S rfl rfl (fun h => by cases h) rfl rfl rfl (Int.le_refl _) (by decide) h6 (by have := h6; omega) (by omega) Tryd.runUnderlying29 Tryd.sizeOf5 rfl fun _ A7 S T => ?_
  refine r_lenS T rfl Tryd.runUnderlying29 rfl fun _ T => r_pv T rfl rfl fun _ T => Gets.block (Gets.loop ?_)
  exact L0_ok F r z x1 A2 k3 A7 z 0 0 _ _ (T.sub ⟨rfl, rfl, rfl, rfl, trivial⟩) (S.only (p := [sl .ro ku8 A2 k3 x1, sl .ro ku8 A7 (Int.toNat (k3 : Int) - Int.toNat 0) (cut x1 (Int.toNat 0) (Int.toNat 8))]) [1, 0] rfl) H
end codec_TakeKeyInt
end Go.Proofs.YtohelmfkpmphoaaDoor
namespace Go.Proofs.YtohelmfkpmphoaaDoor
open Go Go.Proofs.YtohelmfkpmphoaaDoor.X
set_option linter.unusedVariables false
set_option linter.unusedSimpArgs false
set_option maxRecDepth 100000
set_option maxHeartbeats 4000000
namespace bytes_Equal
def R (F : List Atom) (x1 : List Int) (A2 : OA) (k3 : Nat) (m4 : Md) (x5 : List Int) (A6 : OA) (k7 : Nat) (m8 : Md) (r : Bool) : Ending → World → Prop := fun e w' => e = .returned (.bool r) ∧ SL ([sl m4 ku8 A2 k3 x1, sl m8 ku8 A6 k7 x5] ++ F) w'
def f (x1 x5 : List Int) : Option Bool := some ((bstr x1).toList == (bstr x5).toList)
theorem ok (F : List Atom) (w : World) (x1 x5 : List Int) {A2 : OA} {k3 : Nat} {m4 : Md} {A6 : OA} {k7 : Nat} {m8 : Md} (S : SL ([sl m4 ku8 A2 k3 x1, sl m8 ku8 A6 k7 x5] ++ F) w) (r : Bool) (H : f x1 x5 = some r) : Calls Tryd.prog 34 #[.slice A2 x1.length k3, .slice A6 x5.length k7] w (R F x1 A2 k3 m4 x5 A6 k7 m8 r) := by
 refine enter (vs := [.slice A2 x1.length k3, .slice A6 x5.length k7]) Tryd.func34 rfl Tryd.ntmps34 (Nat.le_of_ble_eq_true rfl) fun a T => ?_
 refine Gets.seq (rg (r_pv T rfl rfl fun _ T => Gets.seq ?_))
 refine rg (r_pv T rfl rfl fun _ T => r_b2s (ix := 0) (xs := x1) T S rfl rfl Tryd.runUnderlying29 Tryd.runUnderlying9 Tryd.runUnderlying5 rfl fun _ T => r_pv T rfl rfl fun _ T => ?_)
 refine r_b2s (ix := 1) (xs := x5) T S rfl rfl Tryd.runUnderlying29 Tryd.runUnderlying9 Tryd.runUnderlying5 rfl fun _ T => r_pv T rfl rfl fun _ T => r_pv T rfl rfl fun _ T => ?_
 replace H := Option.some.inj H
 subst H
 exact rtn T Tryd.func34 rfl rfl ⟨rfl, (S.only (p := [sl m4 ku8 A2 k3 x1, sl m8 ku8 A6 k7 x5]) [0, 0] rfl)⟩
end bytes_Equal
end Go.Proofs.YtohelmfkpmphoaaDoor
namespace Go.Proofs.YtohelmfkpmphoaaDoor
open Go Go.Proofs.YtohelmfkpmphoaaDoor.X
set_option linter.unusedVariables false
set_option linter.unusedSimpArgs false
set_option maxRecDepth 100000
set_option maxHeartbeats 4000000
namespace bytes_IndexByte
def R (F : List Atom) (x1 : List Int) (A2 : OA) (k3 : Nat) (m4 : Md) (r : Int) : Ending → World → Prop := fun e w' => e = .returned (.int .i64 r) ∧ SL ([sl m4 ku8 A2 k3 x1] ++ F) w'
def f (x1 : List Int) (x5 : Int) : Option Int := some (idxP (bstr x1) x5)
theorem ok (F : List Atom) (w : World) (x1 : List Int) (x5 : Int) {A2 : OA} {k3 : Nat} {m4 : Md} (S : SL ([sl m4 ku8 A2 k3 x1] ++ F) w) (r : Int) (H : f x1 x5 = some r) : Calls Tryd.prog 73 #[.slice A2 x1.length k3, .int .u8 x5] w (R F x1 A2 k3 m4 r) := by
 refine enter (vs := [.slice A2 x1.length k3, .int .u8 x5]) Tryd.func73 rfl Tryd.ntmps73 (Nat.le_of_ble_eq_true rfl) fun a T => ?_
 refine Gets.seq (rg (r_pv T rfl rfl fun _ T => Gets.seq ?_))
 refine rg (r_pv T rfl rfl fun _ T => r_pv T rfl rfl fun _ T => r_idxB (ix := 0) (xs := x1) T S ext83 rfl rfl rfl rfl fun _ T => ?_)
 refine r_pv T rfl rfl fun _ T => ?_
 replace H := Option.some.inj H
 subst H
 exact rtn T Tryd.func73 rfl rfl ⟨rfl, (S.only (p := [sl m4 ku8 A2 k3 x1]) [0] rfl)⟩
end bytes_IndexByte
end Go.Proofs.YtohelmfkpmphoaaDoor
namespace Go.Proofs.YtohelmfkpmphoaaDoor
open Go Go.Proofs.YtohelmfkpmphoaaDoor.X
set_option linter.unusedVariables false
set_option linter.unusedSimpArgs false
set_option maxRecDepth 100000
set_option maxHeartbeats 4000000
namespace bytes_Index
def R (F : List Atom) (x1 : List Int) (A2 : OA) (k3 : Nat) (m4 : Md) (x5 : List Int) (A6 : OA) (k7 : Nat) (m8 : Md) (r : Int) : Ending → World → Prop := fun e w' => e = .returned (.int .i64 r) ∧ SL ([sl m4 ku8 A2 k3 x1, sl m8 ku8 A6 k7 x5] ++ F) w'
def f (x1 x5 : List Int) : Option Int := If ((x5.length : Int) == 0) (some 0) (If ((x5.length : Int) == 1) (Ck (0 < (x5.length : Int)) (Bd (bytes_IndexByte.f x1 (gi (0 : Int) x5 0)) fun x13 => some x13)) (If ((x5.length : Int) == (x1.length : Int)) (Bd (bytes_Equal.f x5 x1) fun x16 => If x16 (some 0) (some (-1))) (If (decide ((x5.length : Int) > (x1.length : Int))) (some (-1)) (none))))
theorem ok (F : List Atom) (w : World) (x1 x5 : List Int) {A2 : OA} {k3 : Nat} {m4 : Md} {A6 : OA} {k7 : Nat} {m8 : Md} (S : SL ([sl m4 ku8 A2 k3 x1, sl m8 ku8 A6 k7 x5] ++ F) w) (r : Int) (H : f x1 x5 = some r) : Calls Tryd.prog 89 #[.slice A2 x1.length k3, .slice A6 x5.length k7] w (R F x1 A2 k3 m4 x5 A6 k7 m8 r) := by
 refine enter (vs := [.slice A2 x1.length k3, .slice A6 x5.length k7]) Tryd.func89 rfl Tryd.ntmps89 (Nat.le_of_ble_eq_true rfl) fun a T => ?_
 refine Gets.seq (rg (r_pv T rfl rfl fun _ T => Gets.seq ?_))
 refine rg (r_pv T rfl rfl fun _ T => r_lenS T rfl Tryd.runUnderlying29 rfl fun _ T => r_pv T rfl rfl fun _ T => ?_)
 refine Gets.seq (Gets.block (Gets.seq ?_))
 refine rg (r_pv T rfl rfl fun _ T => r_pv T rfl rfl fun _ T => r_pv T rfl rfl fun _ T => ?_)
 rcases ifE H with ⟨h9, H⟩ | ⟨h9, H⟩
 ·refine cdT T rfl h9 ?_
  refine Gets.seq (rg (r_pv T rfl rfl fun _ T => ?_))
  replace H := Option.some.inj H
  subst H
  exact rtn T Tryd.func89 rfl rfl ⟨rfl, (S.only (p := [sl m4 ku8 A2 k3 x1, sl m8 ku8 A6 k7 x5]) [0, 0] rfl)⟩
 ·refine cdF T rfl h9 ?_
  refine Gets.seq (rg (r_pv T rfl rfl fun _ T => r_pv T rfl rfl fun _ T => ?_))
  refine r_pv T rfl rfl fun _ T => ?_
  rcases ifE H with ⟨h10, H⟩ | ⟨h10, H⟩
  ·refine cdT T rfl h10 ?_
   refine Gets.seq (rg (r_pv T rfl rfl fun _ T => r_pv T rfl rfl fun _ T => ?_))
   obtain ⟨h11, H⟩ := ck H
   refine r_ia (ix := 1) T S rfl rfl rfl rfl Tryd.runUnderlying29 Tryd.sizeOf5 (by decide) h11 rfl fun _ T => ?_
   refine r_ldE (ix := 1) (i := 0) (off := 0) (f := (Value.int .u8)) T S rfl Tryd.isAgg5 rfl (0 : Int) _ rfl rfl (Fld.all _) (by decide) h11 (fun h => h) rfl fun _ T => ?_
   obtain ⟨x13, h12, H⟩ := bd H
   refine r_call T Tryd.call73 rfl rfl (bytes_IndexByte.ok _ _ x1 (gi (0 : Int) x5 0) (S.sel (p := [sl m4 ku8 A2 k3 x1]) (is := [0]) rfl) _ h12) ?_
   rintro _ _ ⟨rfl, S⟩
   refine ⟨_, rfl, fun _ T => ?_⟩
   replace S : SL ([sl m4 ku8 A2 k3 x1, sl m8 ku8 A6 k7 x5] ++ F) _ := S.join
   refine r_pv T rfl rfl fun _ T => ?_
   replace H := Option.some.inj H
   subst H
   exact rtn T Tryd.func89 rfl rfl ⟨rfl, (S.only (p := [sl m4 ku8 A2 k3 x1, sl m8 ku8 A6 k7 x5]) [0, 0] rfl)⟩
  ·refine cdF T rfl h10 ?_
   refine Gets.seq (rg (r_pv T rfl rfl fun _ T => r_pv T rfl rfl fun _ T => ?_))
   refine r_lenS T rfl Tryd.runUnderlying29 rfl fun _ T => r_pv T rfl rfl fun _ T => r_pv T rfl rfl fun _ T => ?_
   rcases ifE H with ⟨h14, H⟩ | ⟨h14, H⟩
   ·refine cdT T rfl h14 ?_
    refine Gets.seq (Gets.seq ?_)
    refine rg (r_pv T rfl rfl fun _ T => r_pv T rfl rfl fun _ T => ?_)
    obtain ⟨x16, h15, H⟩ := bd H
    refine r_call T Tryd.call34 rfl rfl (bytes_Equal.ok _ _ x5 x1 (S.sel (p := [sl m8 ku8 A6 k7 x5, sl m4 ku8 A2 k3 x1]) (is := [1, 0]) rfl) _ h15) ?_
    rintro _ _ ⟨rfl, S⟩
    refine ⟨_, rfl, fun _ T => ?_⟩
    replace S : SL ([sl m8 ku8 A6 k7 x5, sl m4 ku8 A2 k3 x1] ++ F) _ := S.join
    rcases ifE H with ⟨h17, H⟩ | ⟨h17, H⟩
    ·refine cdT T rfl h17 ?_
     refine Gets.seq (rg (r_pv T rfl rfl fun _ T => ?_))
     replace H := Option.some.inj H
     subst H
     exact rtn T Tryd.func89 rfl rfl ⟨rfl, (S.only (p := [sl m4 ku8 A2 k3 x1, sl m8 ku8 A6 k7 x5]) [1, 0] rfl)⟩
    ·refine cdF T rfl h17 ?_
     refine Gets.skip (Gets.seq ?_)
     refine rg (r_pv T rfl rfl fun _ T => ?_)
     replace H := Option.some.inj H
     subst H
     exact rtn T Tryd.func89 rfl rfl ⟨rfl, (S.only (p := [sl m4 ku8 A2 k3 x1, sl m8 ku8 A6 k7 x5]) [1, 0] rfl)⟩
   ·refine cdF T rfl h14 ?_
    refine Gets.seq (rg (r_pv T rfl rfl fun _ T => r_pv T rfl rfl fun _ T => ?_))
    refine r_lenS T rfl Tryd.runUnderlying29 rfl fun _ T => r_pv T rfl rfl fun _ T => r_pv T rfl rfl fun _ T => ?_
    rcases ifE H with ⟨h18, H⟩ | ⟨h18, H⟩
    ·refine cdT T rfl h18 ?_
     refine Gets.seq (rg (r_pv T rfl rfl fun _ T => ?_))
     replace H := Option.some.inj H
     subst H
     exact rtn T Tryd.func89 rfl rfl ⟨rfl, (S.only (p := [sl m4 ku8 A2 k3 x1, sl m8 ku8 A6 k7 x5]) [0, 0] rfl)⟩
    ·refine cdF T rfl h18 ?_
     refine Gets.seq (rg (r_pv T rfl rfl fun _ T => ?_))
     cases H
end bytes_Index
end Go.Proofs.YtohelmfkpmphoaaDoor
namespace Go.Proofs.YtohelmfkpmphoaaDoor
open Go Go.Proofs.YtohelmfkpmphoaaDoor.X
set_option linter.unusedVariables false
set_option linter.unusedSimpArgs false
set_option maxRecDepth 100000
set_option maxHeartbeats 4000000
namespace bytes_Count
noncomputable def c0 : Code := match Tryd.f88.body with | some c => c | none => .skip
def R (F : List Atom) (x1 : List Int) (A2 : OA) (k3 : Nat) (x4 : List Int) (A5 : OA) (k6 : Nat) (m7 : Md) (r : Int) : Ending → World → Prop := fun e w' => e = .returned (.int .i64 r) ∧ SL ([sl .ro ku8 A2 k3 x1, sl m7 ku8 A5 k6 x4] ++ F) w'
def L0 (z : Nat) (x4 : List Int) : Nat → (List Int) → Int → Option Int
 | 0, _, _ => none
 | m + 1, x11, x14 => Bd (bytes_Index.f x11 x4) fun x16 => If (x16 == (-1)) (some x14) (Ck (0 ≤ wr .i64 (x16 + (x4.length : Int)) ∧ wr .i64 (x16 + (x4.length : Int)) ≤ (x11.length : Int)) (L0 z x4 m (cut x11 (Int.toNat (wr .i64 (x16 + (x4.length : Int)))) (Int.toNat (x11.length : Int))) (wr .i64 (x14 + 1))))
def f (z : Nat) (x1 x4 : List Int) : Option Int := If ((x4.length : Int) == 0) (none) (If ((x4.length : Int) == 1) (Ck (0 < (x4.length : Int)) (some (cntP (bstr x1) (gi (0 : Int) x4 0)))) (L0 z x4 z x1 0))
noncomputable def ptL0 : List Item := [.code (cB (cB (cr 4 c0))), .inLoop (cB (cB (cr 4 c0))), .inBlock 0]
theorem L0_ok (F : List Atom) (r : Int) (z : Nat) (x1 : List Int) (A2 : OA) (k3 : Nat) (x4 : List Int) (A5 : OA) (k6 : Nat) (m7 : Md) (m : Nat) : ∀ (A12 : OA) (x11 : List Int) (k13 : Nat) (x14 : Int) (a : Act) (w : World), Tm 35 [(0, .slice A12 x11.length k13), (1, .slice A5 x4.length k6), (5, .int .i64 x14)] a → SL ([sl .ro ku8 A2 k3 x1, sl m7 ku8 A5 k6 x4, sl .ro ku8 A12 k13 x11] ++ F) w → L0 z x4 m x11 x14 = some r → Gets Tryd.prog 88 ptL0 a w (R F x1 A2 k3 x4 A5 k6 m7 r) := by
 induction m with
 | zero => intro _ _ _ _ _ _ _ _ H; cases H
 | succ m ih =>
  intro A12 x11 k13 x14 a w T S H
  refine Gets.block (Gets.seq (rg (r_pv T rfl rfl fun _ T => ?_)))
  refine r_pv T rfl rfl fun _ T => ?_
  obtain ⟨x16, h15, H⟩ := bd H
  refine r_call T Tryd.call89 rfl rfl (bytes_Index.ok _ _ x11 x4 (S.sel (p := [sl .ro ku8 A12 k13 x11, sl m7 ku8 A5 k6 x4]) (is := [2, 1]) rfl) _ h15) ?_
  rintro _ _ ⟨rfl, S⟩
  refine ⟨_, rfl, fun _ T => ?_⟩
  replace S : SL ([sl .ro ku8 A12 k13 x11, sl m7 ku8 A5 k6 x4, sl .ro ku8 A2 k3 x1] ++ F) _ := S.join
  refine r_pv T rfl rfl fun _ T => ?_
  refine Gets.seq (Gets.seq ?_)
  refine rg (r_pv T rfl rfl fun _ T => r_pv T rfl rfl fun _ T => ?_)
  rcases ifE H with ⟨h17, H⟩ | ⟨h17, H⟩
  ·refine cdT T rfl h17 ?_
   refine Gets.seq (rg (r_pv T rfl rfl fun _ T => r_pv T rfl rfl fun _ T => ?_))
   replace H := Option.some.inj H
   subst H
   exact rtn T Tryd.func88 rfl rfl ⟨rfl, (S.only (p := [sl .ro ku8 A2 k3 x1, sl m7 ku8 A5 k6 x4]) [2, 1] rfl)⟩
  ·refine cdF T rfl h17 ?_
   refine Gets.skip (Gets.seq ?_)
   refine rg (r_pv T rfl rfl fun _ T => r_pv T rfl rfl fun _ T => r_pv T rfl rfl fun _ T => ?_)
   refine rg (r_pv T rfl rfl fun _ T => r_pv T rfl rfl fun _ T => r_pv T rfl rfl fun _ T => ?_)
   refine r_lenS T rfl Tryd.runUnderlying29 rfl fun _ T => r_pv T rfl rfl fun _ T => ?_
   have h18 := S.len (i := 0) rfl
   obtain ⟨h19, H⟩ := ck H
   refine r_slR (ix := 0) (xs := x11) T S rfl rfl (fun h => by cases h) rfl rfl rfl h19.1 h19.2 (Int.le_refl _) (by omega) (by omega) Tryd.runUnderlying29 Tryd.sizeOf5 rfl fun _ A20 S T => ?_
   refine r_pv T rfl rfl fun _ T => ?_
   refine Gets.inBlock (Gets.inLoop ?_)
   exact ih A20 (cut x11 (Int.toNat (wr .i64 (x16 + (x4.length : Int)))) (Int.toNat (x11.length : Int))) (Int.toNat (k13 : Int) - Int.toNat (wr .i64 (x16 + (x4.length : Int)))) (wr .i64 (x14 + 1)) _ _ (T.sub ⟨rfl, rfl, rfl, trivial⟩) (S.only (p := [sl .ro ku8 A2 k3 x1, sl m7 ku8 A5 k6 x4, sl .ro ku8 A20 (Int.toNat (k13 : Int) - Int.toNat (wr .i64 (x16 + (x4.length : Int)))) (cut x11 (Int.toNat (wr .i64 (x16 + (x4.length : Int)))) (Int.toNat (x11.length : Int)))]) [3, 2, 0] rfl) H
theorem ok (F : List Atom) (w : World) (z : Nat) (x1 x4 : List Int) {A2 : OA} {k3 : Nat} {A5 : OA} {k6 : Nat} {m7 : Md} (S : SL ([sl .ro ku8 A2 k3 x1, sl m7 ku8 A5 k6 x4] ++ F) w) (r : Int) (H : f z x1 x4 = some r) : Calls Tryd.prog 88 #[.slice A2 x1.length k3, .slice A5 x4.length k6] w (R F x1 A2 k3 x4 A5 k6 m7 r) := by
 refine enter (vs := [.slice A2 x1.length k3, .slice A5 x4.length k6]) Tryd.func88 rfl Tryd.ntmps88 (Nat.le_of_ble_eq_true rfl) fun a T => ?_
 refine Gets.seq (rg (r_pv T rfl rfl fun _ T => ?_))
 refine Gets.seq (Gets.seq ?_)
 refine rg (r_pv T rfl rfl fun _ T => r_lenS T rfl Tryd.runUnderlying29 rfl fun _ T => r_pv T rfl rfl fun _ T => ?_)
 rcases ifE H with ⟨h8, H⟩ | ⟨h8, H⟩
 ·refine cdT T rfl h8 ?_
  refine Gets.seq (rg (r_pv T rfl rfl fun _ T => ?_))
  cases H
 ·refine cdF T rfl h8 ?_
  refine Gets.skip (Gets.seq (Gets.seq ?_))
  refine rg (r_pv T rfl rfl fun _ T => r_lenS T rfl Tryd.runUnderlying29 rfl fun _ T => r_pv T rfl rfl fun _ T => ?_)
  rcases ifE H with ⟨h9, H⟩ | ⟨h9, H⟩
  ·refine cdT T rfl h9 ?_
   refine Gets.seq (rg (r_pv T rfl rfl fun _ T => r_pv T rfl rfl fun _ T => ?_))
   obtain ⟨h10, H⟩ := ck H
   refine r_ia (ix := 1) T S rfl rfl rfl rfl Tryd.runUnderlying29 Tryd.sizeOf5 (by decide) h10 rfl fun _ T => ?_
   refine r_ldE (ix := 1) (i := 0) (off := 0) (f := (Value.int .u8)) T S rfl Tryd.isAgg5 rfl (0 : Int) _ rfl rfl (Fld.all _) (by decide) h10 (fun h => h) rfl fun _ T => ?_
   refine r_cntB (ix := 0) (xs := x1) T S ext92 rfl rfl rfl rfl fun _ T => r_pv T rfl rfl fun _ T => ?_
   replace H := Option.some.inj H
   subst H
   exact rtn T Tryd.func88 rfl rfl ⟨rfl, (S.only (p := [sl .ro ku8 A2 k3 x1, sl m7 ku8 A5 k6 x4]) [0, 0] rfl)⟩
  ·refine cdF T rfl h9 ?_
   refine Gets.skip (Gets.seq ?_)
   refine rg (r_pv T rfl rfl fun _ T => Gets.block (Gets.loop ?_))
   replace S := S.dup (i := 0) rfl
   exact L0_ok F r z x1 A2 k3 x4 A5 k6 m7 z A2 x1 k3 0 _ _ (T.sub ⟨rfl, rfl, rfl, trivial⟩) (S.only (p := [sl .ro ku8 A2 k3 x1, sl m7 ku8 A5 k6 x4, sl .ro ku8 A2 k3 x1]) [1, 1, 0] rfl) H
end bytes_Count
end Go.Proofs.YtohelmfkpmphoaaDoor
namespace Go.Proofs.YtohelmfkpmphoaaDoor
open Go Go.Proofs.YtohelmfkpmphoaaDoor.X
set_option linter.unusedVariables false
set_option linter.unusedSimpArgs false
set_option maxRecDepth 100000
set_option maxHeartbeats 4000000
namespace utf8_decodeRuneSlow
def R (F : List Atom) (x1 : List Int) (A2 : OA) (k3 : Nat) (m4 : Md) (r : Int × Int) : Ending → World → Prop := fun e w' => e = .returned (.tuple #[.int .i32 r.1, .int .i64 r.2]) ∧ SL ([sl m4 ku8 A2 k3 x1] ++ F) w'
def f (x1 : List Int) : Option (Int × Int) := If (decide ((x1.length : Int) < 1)) (some (65533, 0)) (Ck (0 < (x1.length : Int)) (none))
theorem ok (F : List Atom) (w : World) (x1 : List Int) {A2 : OA} {k3 : Nat} {m4 : Md} (S : SL ([sl m4 ku8 A2 k3 x1] ++ F) w) (r : Int × Int) (H : f x1 = some r) : Calls Tryd.prog 96 #[.slice A2 x1.length k3] w (R F x1 A2 k3 m4 r) := by
 refine enter (vs := [.slice A2 x1.length k3]) Tryd.func96 rfl Tryd.ntmps96 (Nat.le_of_ble_eq_true rfl) fun a T => ?_
 refine Gets.seq (rg (r_pv T rfl rfl fun _ T => r_pv T rfl rfl fun _ T => ?_))
 refine Gets.seq (rg (r_pv T rfl rfl fun _ T => r_lenS T rfl Tryd.runUnderlying29 rfl fun _ T => ?_))
 refine r_pv T rfl rfl fun _ T => ?_
 refine Gets.seq (Gets.seq ?_)
 refine rg (r_pv T rfl rfl fun _ T => r_pv T rfl rfl fun _ T => ?_)
 rcases ifE H with ⟨h5, H⟩ | ⟨h5, H⟩
 ·refine cdT T rfl h5 ?_
  refine Gets.seq (rg (r_pv T rfl rfl fun _ T => r_pv T rfl rfl fun _ T => ?_))
  replace H := Option.some.inj H
  subst H
  exact rtn T Tryd.func96 rfl rfl ⟨rfl, (S.only (p := [sl m4 ku8 A2 k3 x1]) [0] rfl)⟩
 ·refine cdF T rfl h5 ?_
  refine Gets.skip (Gets.seq ?_)
  refine rg (r_pv T rfl rfl fun _ T => ?_)
  obtain ⟨h6, H⟩ := ck H
  refine r_ia (ix := 0) T S rfl rfl rfl rfl Tryd.runUnderlying29 Tryd.sizeOf5 (by decide) h6 rfl fun _ T => ?_
  refine r_ldE (ix := 0) (i := 0) (off := 0) (f := (Value.int .u8)) T S rfl Tryd.isAgg5 rfl (0 : Int) _ rfl rfl (Fld.all _) (by decide) h6 (fun h => h) rfl fun _ T => ?_
  refine r_pv T rfl rfl fun _ T => Gets.seq (rg (r_pv T rfl rfl fun _ T => ?_))
  cases H
end utf8_decodeRuneSlow
end Go.Proofs.YtohelmfkpmphoaaDoor
namespace Go.Proofs.YtohelmfkpmphoaaDoor
open Go Go.Proofs.YtohelmfkpmphoaaDoor.X
set_option linter.unusedVariables false
set_option linter.unusedSimpArgs false
set_option maxRecDepth 100000
set_option maxHeartbeats 4000000
namespace utf8_DecodeRune
noncomputable def c0 : Code := match Tryd.f90.body with | some c => c | none => .skip
def R (F : List Atom) (x1 : List Int) (A2 : OA) (k3 : Nat) (m4 : Md) (r : Int × Int) : Ending → World → Prop := fun e w' => e = .returned (.tuple #[.int .i32 r.1, .int .i64 r.2]) ∧ SL ([sl m4 ku8 A2 k3 x1] ++ F) w'
def L0 (z : Nat) (x1 : List Int) : Nat → Int → Option (Int × Int)
 | 0, _ => none
 | m + 1, x5 => If (decide (x5 < (x1.length : Int))) (Ck (0 ≤ x5 ∧ x5 < (x1.length : Int)) (If (decide ((gi (0 : Int) x1 x5) < 128)) (some (wr .i32 (gi (0 : Int) x1 x5), 1)) (Bd (utf8_decodeRuneSlow.f x1) fun x12 => some (x12.1, x12.2)))) (Bd (utf8_decodeRuneSlow.f x1) fun x8 => some (x8.1, x8.2))
def f (z : Nat) (x1 : List Int) : Option (Int × Int) := L0 z x1 z 0
noncomputable def ptL0 : List Item := [.code (cB (cB (cR (cL (cR c0))))), .inLoop (cB (cB (cR (cL (cR c0))))), .inBlock 0, .code (cR (cR c0))]
theorem L0_ok (F : List Atom) (r : Int × Int) (z : Nat) (x1 : List Int) (A2 : OA) (k3 : Nat) (m4 : Md) (m : Nat) : ∀ (x5 : Int) (a : Act) (w : World), Tm 22 [(0, .slice A2 x1.length k3), (6, .slice A2 x1.length k3), (7, .int .i64 (x1.length : Int)), (8, .int .i64 x5)] a → SL ([sl m4 ku8 A2 k3 x1] ++ F) w → L0 z x1 m x5 = some r → Gets Tryd.prog 90 ptL0 a w (R F x1 A2 k3 m4 r) := by
 induction m with
 | zero => intro _ _ _ _ _ H; cases H
 | succ m ih =>
  intro x5 a w T S H
  refine Gets.seq (rg (r_pv T rfl rfl fun _ T => Gets.seq ?_))
  rcases ifE H with ⟨h6, H⟩ | ⟨h6, H⟩
  ·refine cdT T rfl h6 ?_
   refine Gets.skip (Gets.seq (Gets.block (Gets.seq ?_)))
   refine rg ?_
   obtain ⟨h9, H⟩ := ck H
   refine r_ia (ix := 0) T S rfl rfl rfl rfl Tryd.runUnderlying29 Tryd.sizeOf5 h9.1 h9.2 rfl fun _ T => r_ldE (ix := 0) (i := x5) (off := 0) (f := (Value.int .u8)) T S rfl Tryd.isAgg5 rfl (0 : Int) _ rfl rfl (Fld.all _) h9.1 h9.2 (fun h => h) rfl fun _ T => r_pv T rfl rfl fun _ T => ?_
   refine Gets.seq (Gets.seq ?_)
   refine rg (r_pv T rfl rfl fun _ T => r_pv T rfl rfl fun _ T => ?_)
   rcases ifE H with ⟨h10, H⟩ | ⟨h10, H⟩
   ·refine cdT T rfl h10 ?_
    refine Gets.seq (rg (r_pv T rfl rfl fun _ T => r_conv T rfl Tryd.runUnderlying5 Tryd.runUnderlying21 rfl fun _ T => ?_))
    refine r_pv T rfl rfl fun _ T => r_pv T rfl rfl fun _ T => ?_
    replace H := Option.some.inj H
    subst H
    exact rtn T Tryd.func90 rfl rfl ⟨rfl, (S.only (p := [sl m4 ku8 A2 k3 x1]) [0] rfl)⟩
   ·refine cdF T rfl h10 ?_
    refine Gets.skip (Gets.exit rfl (Gets.seq ?_))
    refine rg (r_pv T rfl rfl fun _ T => ?_)
    obtain ⟨x12, h11, H⟩ := bd H
    refine r_call T Tryd.call96 rfl rfl (utf8_decodeRuneSlow.ok _ _ x1 (S.sel (p := [sl m4 ku8 A2 k3 x1]) (is := [0]) rfl) _ h11) ?_
    rintro _ _ ⟨rfl, S⟩
    refine ⟨_, rfl, fun _ T => ?_⟩
    replace S : SL ([sl m4 ku8 A2 k3 x1] ++ F) _ := S.join
    refine r_pv T rfl rfl fun _ T => r_pv T rfl rfl fun _ T => r_pv T rfl rfl fun _ T => r_pv T rfl rfl fun _ T => ?_
    refine r_pv T rfl rfl fun _ T => ?_
    replace H := Option.some.inj H
    subst H
    exact rtn T Tryd.func90 rfl rfl ⟨rfl, (S.only (p := [sl m4 ku8 A2 k3 x1]) [0] rfl)⟩
  ·refine cdF T rfl h6 ?_
   refine Gets.exit rfl (Gets.seq ?_)
   refine rg (r_pv T rfl rfl fun _ T => ?_)
   obtain ⟨x8, h7, H⟩ := bd H
   refine r_call T Tryd.call96 rfl rfl (utf8_decodeRuneSlow.ok _ _ x1 (S.sel (p := [sl m4 ku8 A2 k3 x1]) (is := [0]) rfl) _ h7) ?_
   rintro _ _ ⟨rfl, S⟩
   refine ⟨_, rfl, fun _ T => ?_⟩
   replace S : SL ([sl m4 ku8 A2 k3 x1] ++ F) _ := S.join
   refine r_pv T rfl rfl fun _ T => r_pv T rfl rfl fun _ T => r_pv T rfl rfl fun _ T => r_pv T rfl rfl fun _ T => ?_
   refine r_pv T rfl rfl fun _ T => ?_
   replace H := Option.some.inj H
   subst H
   exact rtn T Tryd.func90 rfl rfl ⟨rfl, (S.only (p := [sl m4 ku8 A2 k3 x1]) [0] rfl)⟩
theorem ok (F : List Atom) (w : World) (z : Nat) (x1 : List Int) {A2 : OA} {k3 : Nat} {m4 : Md} (S : SL ([sl m4 ku8 A2 k3 x1] ++ F) w) (r : Int × Int) (H : f z x1 = some r) : Calls Tryd.prog 90 #[.slice A2 x1.length k3] w (R F x1 A2 k3 m4 r) := by
 refine enter (vs := [.slice A2 x1.length k3]) Tryd.func90 rfl Tryd.ntmps90 (Nat.le_of_ble_eq_true rfl) fun a T => ?_
 refine Gets.seq (rg (r_pv T rfl rfl fun _ T => r_pv T rfl rfl fun _ T => ?_))
 refine Gets.seq (Gets.seq ?_)
 refine rg (r_pv T rfl rfl fun _ T => r_lenS T rfl Tryd.runUnderlying29 rfl fun _ T => r_pv T rfl rfl fun _ T => ?_)
 refine Gets.block (Gets.loop ?_)
 exact L0_ok F r z x1 A2 k3 m4 z 0 _ _ (T.sub ⟨rfl, rfl, rfl, rfl, trivial⟩) (S.only (p := [sl m4 ku8 A2 k3 x1]) [0] rfl) H
end utf8_DecodeRune
end Go.Proofs.YtohelmfkpmphoaaDoor
namespace Go.Proofs.YtohelmfkpmphoaaDoor
open Go Go.Proofs.YtohelmfkpmphoaaDoor.X
set_option linter.unusedVariables false
set_option linter.unusedSimpArgs false
set_option maxRecDepth 100000
set_option maxHeartbeats 4000000
namespace bytes_Replace
noncomputable def c0 : Code := match Tryd.f85.body with | some c => c | none => .skip
def R (F : List Atom) (x1 : List Int) (A2 : OA) (k3 : Nat) (x4 : List Int) (A5 : OA) (k6 : Nat) (m7 : Md) (x8 : List Int) (A9 : OA) (k10 : Nat) (m11 : Md) (r : (List Int)) : Ending → World → Prop := fun e w' => ∃ (A70 : OA), ∃ (k71 : Nat), e = .returned (.slice A70 r.length k71) ∧ SL ([sl .own ku8 A70 k71 r, sl .ro ku8 A2 k3 x1, sl m7 ku8 A5 k6 x4, sl m11 ku8 A9 k10 x8] ++ F) w'
def J5 (z : Nat) (x1 x62 : List Int) (x65 x66 : Int) : Option (List Int) := Ck (0 ≤ x65 ∧ x65 ≤ (x62.length : Int)) (Ck (0 ≤ x66 ∧ x66 ≤ (x1.length : Int)) (Ck (0 ≤ wr .i64 (x65 + ((min (cut x1 (Int.toNat x66) (Int.toNat (x1.length : Int))).length (cut x62 (Int.toNat x65) (Int.toNat (x62.length : Int))).length : Nat) : Int)) ∧ wr .i64 (x65 + ((min (cut x1 (Int.toNat x66) (Int.toNat (x1.length : Int))).length (cut x62 (Int.toNat x65) (Int.toNat (x62.length : Int))).length : Nat) : Int)) ≤ ((putAt x62 (Int.toNat x65) (cut x1 (Int.toNat x66) (Int.toNat (x1.length : Int)))).length : Int)) (some (cut (putAt x62 (Int.toNat x65) (cut x1 (Int.toNat x66) (Int.toNat (x1.length : Int)))) (Int.toNat 0) (Int.toNat (wr .i64 (x65 + ((min (cut x1 (Int.toNat x66) (Int.toNat (x1.length : Int))).length (cut x62 (Int.toNat x65) (Int.toNat (x62.length : Int))).length : Nat) : Int))))))))
def L4 (z : Nat) (x1 x8 : List Int) (x23 : Int) : Nat → (List Int) → Int → Int → Int → Option (List Int)
 | 0, _, _, _, _ => none
 | m + 1, x46, x49, x50, x51 => If (decide (x51 < (wr .i64 (x23 - 1)))) (Ck (0 ≤ x50 ∧ x50 ≤ (x1.length : Int)) (Bd (utf8_DecodeRune.f z (cut x1 (Int.toNat x50) (Int.toNat (x1.length : Int)))) fun x57 => Ck (0 ≤ x49 ∧ x49 ≤ (x46.length : Int)) (Ck (x50 ≤ wr .i64 (x50 + x57.2) ∧ wr .i64 (x50 + x57.2) ≤ (x1.length : Int)) (Ck (0 ≤ wr .i64 (x49 + ((min (cut x1 (Int.toNat x50) (Int.toNat (wr .i64 (x50 + x57.2)))).length (cut x46 (Int.toNat x49) (Int.toNat (x46.length : Int))).length : Nat) : Int)) ∧ wr .i64 (x49 + ((min (cut x1 (Int.toNat x50) (Int.toNat (wr .i64 (x50 + x57.2)))).length (cut x46 (Int.toNat x49) (Int.toNat (x46.length : Int))).length : Nat) : Int)) ≤ ((putAt x46 (Int.toNat x49) (cut x1 (Int.toNat x50) (Int.toNat (wr .i64 (x50 + x57.2))))).length : Int)) (L4 z x1 x8 x23 m (putAt (putAt x46 (Int.toNat x49) (cut x1 (Int.toNat x50) (Int.toNat (wr .i64 (x50 + x57.2))))) (Int.toNat (wr .i64 (x49 + ((min (cut x1 (Int.toNat x50) (Int.toNat (wr .i64 (x50 + x57.2)))).length (cut x46 (Int.toNat x49) (Int.toNat (x46.length : Int))).length : Nat) : Int)))) x8) (wr .i64 ((wr .i64 (x49 + ((min (cut x1 (Int.toNat x50) (Int.toNat (wr .i64 (x50 + x57.2)))).length (cut x46 (Int.toNat x49) (Int.toNat (x46.length : Int))).length : Nat) : Int))) + ((min x8.length (cut (putAt x46 (Int.toNat x49) (cut x1 (Int.toNat x50) (Int.toNat (wr .i64 (x50 + x57.2))))) (Int.toNat (wr .i64 (x49 + ((min (cut x1 (Int.toNat x50) (Int.toNat (wr .i64 (x50 + x57.2)))).length (cut x46 (Int.toNat x49) (Int.toNat (x46.length : Int))).length : Nat) : Int)))) (Int.toNat ((putAt x46 (Int.toNat x49) (cut x1 (Int.toNat x50) (Int.toNat (wr .i64 (x50 + x57.2))))).length : Int))).length : Nat) : Int))) (wr .i64 (x50 + x57.2)) (wr .i64 (x51 + 1))))))) (J5 z x1 x46 x49 x50)
def L3 (z : Nat) (x1 x4 x8 : List Int) (x23 : Int) : Nat → (List Int) → Int → Int → Int → Option (List Int)
 | 0, _, _, _, _ => none
 | m + 1, x27, x30, x31, x32 => If (decide (x32 < x23)) (Ck (0 ≤ x31 ∧ x31 ≤ (x1.length : Int)) (Bd (bytes_Index.f (cut x1 (Int.toNat x31) (Int.toNat (x1.length : Int))) x4) fun x38 => Ck (0 ≤ x30 ∧ x30 ≤ (x27.length : Int)) (Ck (x31 ≤ wr .i64 (x31 + x38) ∧ wr .i64 (x31 + x38) ≤ (x1.length : Int)) (Ck (0 ≤ wr .i64 (x30 + ((min (cut x1 (Int.toNat x31) (Int.toNat (wr .i64 (x31 + x38)))).length (cut x27 (Int.toNat x30) (Int.toNat (x27.length : Int))).length : Nat) : Int)) ∧ wr .i64 (x30 + ((min (cut x1 (Int.toNat x31) (Int.toNat (wr .i64 (x31 + x38)))).length (cut x27 (Int.toNat x30) (Int.toNat (x27.length : Int))).length : Nat) : Int)) ≤ ((putAt x27 (Int.toNat x30) (cut x1 (Int.toNat x31) (Int.toNat (wr .i64 (x31 + x38))))).length : Int)) (L3 z x1 x4 x8 x23 m (putAt (putAt x27 (Int.toNat x30) (cut x1 (Int.toNat x31) (Int.toNat (wr .i64 (x31 + x38))))) (Int.toNat (wr .i64 (x30 + ((min (cut x1 (Int.toNat x31) (Int.toNat (wr .i64 (x31 + x38)))).length (cut x27 (Int.toNat x30) (Int.toNat (x27.length : Int))).length : Nat) : Int)))) x8) (wr .i64 ((wr .i64 (x30 + ((min (cut x1 (Int.toNat x31) (Int.toNat (wr .i64 (x31 + x38)))).length (cut x27 (Int.toNat x30) (Int.toNat (x27.length : Int))).length : Nat) : Int))) + ((min x8.length (cut (putAt x27 (Int.toNat x30) (cut x1 (Int.toNat x31) (Int.toNat (wr .i64 (x31 + x38))))) (Int.toNat (wr .i64 (x30 + ((min (cut x1 (Int.toNat x31) (Int.toNat (wr .i64 (x31 + x38)))).length (cut x27 (Int.toNat x30) (Int.toNat (x27.length : Int))).length : Nat) : Int)))) (Int.toNat ((putAt x27 (Int.toNat x30) (cut x1 (Int.toNat x31) (Int.toNat (wr .i64 (x31 + x38))))).length : Int))).length : Nat) : Int))) (wr .i64 ((wr .i64 (x31 + x38)) + (x4.length : Int))) (wr .i64 (x32 + 1))))))) (J5 z x1 x27 x30 x31)
def J2 (z : Nat) (x1 x4 x8 : List Int) (x23 : Int) : Option (List Int) := Ck (0 ≤ wr .i64 ((x1.length : Int) + (wr .i64 (x23 * (wr .i64 ((x8.length : Int) - (x4.length : Int)))))) ∧ wr .i64 ((x1.length : Int) + (wr .i64 (x23 * (wr .i64 ((x8.length : Int) - (x4.length : Int)))))) ≤ wr .i64 ((x1.length : Int) + (wr .i64 (x23 * (wr .i64 ((x8.length : Int) - (x4.length : Int)))))) ∧ 1 * (wr .i64 ((x1.length : Int) + (wr .i64 (x23 * (wr .i64 ((x8.length : Int) - (x4.length : Int))))))) ≤ 281474976710656) (If (decide ((x4.length : Int) > 0)) (L3 z x1 x4 x8 x23 z (List.replicate (Int.toNat (wr .i64 ((x1.length : Int) + (wr .i64 (x23 * (wr .i64 ((x8.length : Int) - (x4.length : Int)))))))) (0 : Int)) 0 0 0) (L4 z x1 x8 x23 z (putAt (List.replicate (Int.toNat (wr .i64 ((x1.length : Int) + (wr .i64 (x23 * (wr .i64 ((x8.length : Int) - (x4.length : Int)))))))) (0 : Int)) (Int.toNat 0) x8) (wr .i64 (0 + ((min x8.length (cut (List.replicate (Int.toNat (wr .i64 ((x1.length : Int) + (wr .i64 (x23 * (wr .i64 ((x8.length : Int) - (x4.length : Int)))))))) (0 : Int)) (Int.toNat 0) (Int.toNat ((List.replicate (Int.toNat (wr .i64 ((x1.length : Int) + (wr .i64 (x23 * (wr .i64 ((x8.length : Int) - (x4.length : Int)))))))) (0 : Int)).length : Int))).length : Nat) : Int))) 0 0))
def J1 (z : Nat) (x1 x4 x8 : List Int) (x16 : Int) : Option (List Int) := J2 z x1 x4 x8 x16
def J0 (z : Nat) (x1 x4 x8 : List Int) (x12 x16 : Int) : Option (List Int) := If (x16 == 0) (Ck ((([] : List Int).length + x1.length) * 1 ≤ 140737488355328) (some (([] : List Int) ++ x1))) (If (decide (x12 < 0)) (J1 z x1 x4 x8 x16) (If (decide (x16 < x12)) (J1 z x1 x4 x8 x16) (J2 z x1 x4 x8 x12)))
def f (z : Nat) (x1 x4 x8 : List Int) (x12 : Int) : Option (List Int) := If (x12 != 0) (Bd (bytes_Count.f z x1 x4) fun x15 => J0 z x1 x4 x8 x12 x15) (J0 z x1 x4 x8 x12 0)
noncomputable def ptJ5 : List Item := [.code (cL (cr 9 c0)), .code (cr 10 c0)]
noncomputable def ptL4 : List Item := [.code (cB (cB (cR (cR (cE (cR (cL (cr 8 c0)))))))), .inLoop (cB (cB (cR (cR (cE (cR (cL (cr 8 c0)))))))), .inBlock 2, .code (cr 9 c0)]
noncomputable def ptL3 : List Item := [.code (cB (cB (cR (cT (cR (cL (cr 8 c0))))))), .inLoop (cB (cB (cR (cT (cR (cL (cr 8 c0))))))), .inBlock 0, .code (cr 9 c0)]
noncomputable def ptJ2 : List Item := [.code (cL (cr 5 c0)), .code (cr 6 c0)]
noncomputable def ptJ1 : List Item := [.code (cT (cR (cL (cr 4 c0)))), .code (cr 5 c0)]
noncomputable def ptJ0 : List Item := [.code (cL (cL (cr 3 c0))), .code (cR (cL (cr 3 c0))), .code (cr 4 c0)]
abbrev y0 (A2 : OA) (k3 : Nat) (x66 : Int) (x1 : List Int) : Atom := sl .ro ku8 (slA A2 (Int.toNat (k3 : Int)) (Int.toNat x66) 1) (Int.toNat (k3 : Int) - Int.toNat x66) (cut x1 (Int.toNat x66) (Int.toNat (x1.length : Int)))
abbrev y1 (A2 : OA) (k3 : Nat) (x31 : Int) (x1 : List Int) (x38 : Int) : Atom := sl .ro ku8 (slA A2 (Int.toNat (k3 : Int)) (Int.toNat x31) 1) (Int.toNat (k3 : Int) - Int.toNat x31) (cut x1 (Int.toNat x31) (Int.toNat (wr .i64 (x31 + x38))))
abbrev y2 (A2 : OA) (k3 : Nat) (x50 : Int) (x1 : List Int) (x57 : Int × Int) : Atom := sl .ro ku8 (slA A2 (Int.toNat (k3 : Int)) (Int.toNat x50) 1) (Int.toNat (k3 : Int) - Int.toNat x50) (cut x1 (Int.toNat x50) (Int.toNat (wr .i64 (x50 + x57.2))))
abbrev y3 (x65 : Int) (x1 : List Int) (x66 : Int) (x62 : List Int) : Value := .int .i64 (wr .i64 (x65 + ((min (cut x1 (Int.toNat x66) (Int.toNat (x1.length : Int))).length (cut x62 (Int.toNat x65) (Int.toNat (x62.length : Int))).length : Nat) : Int)))
abbrev y4 (b25 : Nat) (x1 : List Int) (x23 : Int) (x8 x4 : List Int) : Atom := sl .own ku8 (some ⟨b25, 0, none⟩) (Int.toNat (wr .i64 ((x1.length : Int) + (wr .i64 (x23 * (wr .i64 ((x8.length : Int) - (x4.length : Int)))))))) (putAt (List.replicate (Int.toNat (wr .i64 ((x1.length : Int) + (wr .i64 (x23 * (wr .i64 ((x8.length : Int) - (x4.length : Int)))))))) (0 : Int)) (Int.toNat 0) x8)
abbrev y5 (A69 : OA) (k64 : Nat) (x62 : List Int) (x65 : Int) (x1 : List Int) (x66 : Int) : Atom := sl .own ku8 A69 (Int.toNat (k64 : Int) - Int.toNat 0) (cut (putAt x62 (Int.toNat x65) (cut x1 (Int.toNat x66) (Int.toNat (x1.length : Int)))) (Int.toNat 0) (Int.toNat (wr .i64 (x65 + ((min (cut x1 (Int.toNat x66) (Int.toNat (x1.length : Int))).length (cut x62 (Int.toNat x65) (Int.toNat (x62.length : Int))).length : Nat) : Int)))))
theorem J5_ok (F : List Atom) (r : (List Int)) (z : Nat) (x1 : List Int) (A2 : OA) (k3 : Nat) (x4 : List Int) (A5 : OA) (k6 : Nat) (m7 : Md) (x8 : List Int) (A9 : OA) (k10 : Nat) (m11 : Md) (x12 : Int) (A63 : OA) (x62 : List Int) (k64 : Nat) (x65 x66 : Int) (a : Act) (w : World) (T : Tm 132 [(0, .slice A2 x1.length k3), (10, .slice A63 x62.length k64), (11, .int .i64 x65), (12, .int .i64 x66)] a) (S : SL ([sl .ro ku8 A2 k3 x1, sl m7 ku8 A5 k6 x4, sl m11 ku8 A9 k10 x8, sl .own ku8 A63 k64 x62] ++ F) w) (H : J5 z x1 x62 x65 x66 = some r) : Gets Tryd.prog 85 ptJ5 a w (R F x1 A2 k3 x4 A5 k6 m7 x8 A9 k10 m11 r) := by
 have h3501 := S.len (i := 3) rfl
 obtain ⟨h3502, H⟩ := ck H
 have h3681 := S.len (i := 0) rfl
 obtain ⟨h3682, H⟩ := ck H
 replace S := S.cutR (ix := 0) (i := x66) (j := (x1.length : Int)) (k := (k3 : Int)) rfl h3682.1 h3682.2 (Int.le_refl _) (by omega) (by omega)
 refine Gets.drawn (l := [(y0 A2 k3 x66 x1), sl .ro ku8 A2 k3 x1, sl m7 ku8 A5 k6 x4, sl m11 ku8 A9 k10 x8, sl .own ku8 A63 k64 x62]) (V := [some (.int .i64 x65, true), some (.slice A63 x62.length k64, true), some (.int .i64 x65, true), some (.slice (slA A63 (Int.toNat (k64 : Int)) (Int.toNat x65) 1) (cut x62 (Int.toNat x65) (Int.toNat (x62.length : Int))).length (Int.toNat (k64 : Int) - Int.toNat x65), true), some (.slice A2 x1.length k3, true), some (.int .i64 x66, true), some (.slice (slA A2 (Int.toNat (k3 : Int)) (Int.toNat x66) 1) ((cut x1 (Int.toNat x66) (Int.toNat (x1.length : Int))).length) (Int.toNat (k3 : Int) - Int.toNat x66), true), none, none, none]) mixed T S rfl ?_
 refine stage (some 7) rfl rfl ⟨⟨_, _, rfl, (avl [11] rfl), fun _ _ _ T S => r_pv T rfl rfl fun _ T => ⟨rfl, T⟩⟩, ⟨_, _, rfl, (avl [10] rfl), fun _ _ _ T S => r_pv T rfl rfl fun _ T => ⟨rfl, T⟩⟩, ⟨_, _, rfl, (avl [11] rfl), fun _ _ _ T S => r_pv T rfl rfl fun _ T => ⟨rfl, T⟩⟩, ⟨_, _, rfl, (avl [121, 122] rfl), fun _ _ _ T S => r_slQ (xs := x62) T rfl (fun h => by cases h) rfl rfl rfl h3502.1 h3502.2 (Int.le_refl _) (by omega) (by omega) Tryd.runUnderlying29 Tryd.sizeOf5 rfl fun _ T => ⟨rfl, T⟩⟩, ⟨_, _, rfl, (avl [0] rfl), fun _ _ _ T S => r_pv T rfl rfl fun _ T => ⟨rfl, T⟩⟩, ⟨_, _, rfl, (avl [12] rfl), fun _ _ _ T S => r_pv T rfl rfl fun _ T => ⟨rfl, T⟩⟩, ⟨_, _, rfl, (avl [124, 125] rfl), fun _ _ _ T S => r_slQ (xs := x1) T rfl (fun h => by cases h) rfl rfl rfl h3682.1 h3682.2 (Int.le_refl _) (by omega) (by omega) Tryd.runUnderlying29 Tryd.sizeOf5 rfl fun _ T => ⟨rfl, T⟩⟩, trivial⟩ rfl (fun i hi => ?_) (fun h => by cases h)
 cases hi
 refine ⟨rfl, _, _, rfl, (avl [123, 126] rfl), fun u a w T S => ?_⟩
 have h3741 : (putAt x62 (Int.toNat x65) (cut x1 (Int.toNat x66) (Int.toNat (x1.length : Int)))).length = x62.length := (putAt_len x62 (Int.toNat x65) (cut x1 (Int.toNat x66) (Int.toNat (x1.length : Int))) (by have q0_ : (0 : Int) ≤ x65 := h3502.1; have q1_ : x65 ≤ (x62.length : Int) := h3502.2; omega))
 refine r_copy (ix := 4) (iy := 0) (lo := (Int.toNat x65)) (xs := x62) (ys := (cut x1 (Int.toNat x66) (Int.toNat (x1.length : Int)))) (l' := [(y0 A2 k3 x66 x1), sl .ro ku8 A2 k3 x1, sl m7 ku8 A5 k6 x4, sl m11 ku8 A9 k10 x8, sl .own ku8 A63 k64 (putAt x62 (Int.toNat x65) (cut x1 (Int.toNat x66) (Int.toNat (x1.length : Int))))]) T S rfl rfl (by have q0_ : (0 : Int) ≤ x65 := h3502.1; have q1_ : x65 ≤ (x62.length : Int) := h3502.2; omega) (by rw [cut_len _ _ _ (by omega)]; omega) (by have q0_ := h3501; omega) rfl rfl rfl Tryd.runUnderlying29 Tryd.sizeOf5 rfl rfl fun _ _ S T => ?_
 refine ⟨_, [some (.int .i64 x65, true), some (.slice A63 x62.length k64, true), some (.int .i64 x65, true), some (.slice (slA A63 (Int.toNat (k64 : Int)) (Int.toNat x65) 1) (cut x62 (Int.toNat x65) (Int.toNat (x62.length : Int))).length (Int.toNat (k64 : Int) - Int.toNat x65), false), some (.slice A2 x1.length k3, true), some (.int .i64 x66, true), some (.slice (slA A2 (Int.toNat (k3 : Int)) (Int.toNat x66) 1) ((cut x1 (Int.toNat x66) (Int.toNat (x1.length : Int))).length) (Int.toNat (k3 : Int) - Int.toNat x66), false), some (.int .i64 ((min (cut x1 (Int.toNat x66) (Int.toNat (x1.length : Int))).length (cut x62 (Int.toNat x65) (Int.toNat (x62.length : Int))).length : Nat) : Int), false), some ((y3 x65 x1 x66 x62), true), some ((y3 x65 x1 x66 x62), true)], [(y0 A2 k3 x66 x1), sl .ro ku8 A2 k3 x1, sl m7 ku8 A5 k6 x4, sl m11 ku8 A9 k10 x8, sl .own ku8 A63 k64 (putAt x62 (Int.toNat x65) (cut x1 (Int.toNat x66) (Int.toNat (x1.length : Int))))], rfl, (by repeat first | exact kx0 | apply kxs | apply kxn), rfl, ?_, T, S⟩
 refine stage none rfl rfl ⟨⟨_, _, rfl, (avl [11] rfl), fun _ _ _ T S => r_pv T rfl rfl fun _ T => ⟨rfl, T⟩⟩, ⟨_, _, rfl, (avl [10] rfl), fun _ _ _ T S => r_pv T rfl rfl fun _ T => ⟨rfl, T⟩⟩, ⟨_, _, rfl, (avl [11] rfl), fun _ _ _ T S => r_pv T rfl rfl fun _ T => ⟨rfl, T⟩⟩, ⟨_, _, rfl, (avl [0] rfl), fun _ _ _ T S => r_pv T rfl rfl fun _ T => ⟨rfl, T⟩⟩, ⟨_, _, rfl, (avl [12] rfl), fun _ _ _ T S => r_pv T rfl rfl fun _ T => ⟨rfl, T⟩⟩, ⟨_, _, rfl, (avl [120, 127] rfl), fun _ _ _ T S => r_pv T rfl rfl fun _ T => ⟨rfl, T⟩⟩, ⟨_, _, rfl, (avl [128] rfl), fun _ _ _ T S => r_pv T rfl rfl fun _ T => ⟨rfl, T⟩⟩, trivial⟩ rfl (fun i hi => by cases hi) (fun _ _ a w T hv hb S => ?_)
 replace T := T.sub (r := [(10, .slice A63 x62.length k64), (11, (y3 x65 x1 x66 x62))]) ⟨hb 10 _ rfl rfl, hv 9 _ 11 rfl rfl rfl, trivial⟩
 refine Gets.seq (rg (r_pv T rfl rfl fun _ T => r_pv T rfl rfl fun _ T => ?_))
 have h67 := S.len (i := 4) rfl
 obtain ⟨h68, H⟩ := ck H
 replace T := T.re (s := 129) (v' := .slice A63 ((putAt x62 (Int.toNat x65) (cut x1 (Int.toNat x66) (Int.toNat (x1.length : Int)))).length) k64) rfl (by rw [h3741])
 refine r_slO (ix := 4) (xs := (putAt x62 (Int.toNat x65) (cut x1 (Int.toNat x66) (Int.toNat (x1.length : Int))))) T S rfl rfl (fun h => by cases h) rfl rfl rfl (Int.le_refl _) h68.1 h68.2 (by have := h68.2; omega) (by omega) Tryd.runUnderlying29 Tryd.sizeOf5 rfl fun _ A69 S T => ?_
 replace S : SL ([(y0 A2 k3 x66 x1), sl .ro ku8 A2 k3 x1, sl m7 ku8 A5 k6 x4, sl m11 ku8 A9 k10 x8, (y5 A69 k64 x62 x65 x1 x66)] ++ F) _ := S
 refine r_pv T rfl rfl fun _ T => ?_
 replace H := Option.some.inj H
 subst H
 exact rtn T Tryd.func85 rfl rfl ⟨A69, (Int.toNat (k64 : Int) - Int.toNat 0), rfl, (S.only (p := [(y5 A69 k64 x62 x65 x1 x66), sl .ro ku8 A2 k3 x1, sl m7 ku8 A5 k6 x4, sl m11 ku8 A9 k10 x8]) [4, 1, 1, 1] rfl)⟩
theorem L4_ok (F : List Atom) (r : (List Int)) (z : Nat) (x1 : List Int) (A2 : OA) (k3 : Nat) (x4 : List Int) (A5 : OA) (k6 : Nat) (m7 : Md) (x8 : List Int) (A9 : OA) (k10 : Nat) (m11 : Md) (x23 x12 : Int) (m : Nat) : ∀ (A47 : OA) (x46 : List Int) (k48 : Nat) (x49 x50 x51 : Int) (a : Act) (w : World), Tm 132 [(0, .slice A2 x1.length k3), (2, .slice A9 x8.length k10), (10, .slice A47 x46.length k48), (11, .int .i64 x49), (12, .int .i64 x50), (88, .int .i64 (wr .i64 (x23 - 1))), (89, .int .i64 x51)] a → SL ([sl .ro ku8 A2 k3 x1, sl m7 ku8 A5 k6 x4, sl m11 ku8 A9 k10 x8, sl .own ku8 A47 k48 x46] ++ F) w → L4 z x1 x8 x23 m x46 x49 x50 x51 = some r → Gets Tryd.prog 85 ptL4 a w (R F x1 A2 k3 x4 A5 k6 m7 x8 A9 k10 m11 r) := by
 induction m with
 | zero => intro _ _ _ _ _ _ _ _ _ _ H; cases H
 | succ m ih =>
  intro A47 x46 k48 x49 x50 x51 a w T S H
  refine Gets.seq (rg (r_pv T rfl rfl fun _ T => Gets.seq ?_))
  rcases ifE H with ⟨h52, H⟩ | ⟨h52, H⟩
  ·refine cdT T rfl h52 ?_
   refine Gets.skip (Gets.seq (Gets.block (Gets.seq ?_)))
   refine rg (r_pv T rfl rfl fun _ T => r_pv T rfl rfl fun _ T => ?_)
   have h53 := S.len (i := 0) rfl
   obtain ⟨h54, H⟩ := ck H
   refine r_slR (ix := 0) (xs := x1) T S rfl rfl (fun h => by cases h) rfl rfl rfl h54.1 h54.2 (Int.le_refl _) (by omega) (by omega) Tryd.runUnderlying29 Tryd.sizeOf5 rfl fun _ A55 S T => ?_
   obtain ⟨x57, h56, H⟩ := bd H
   refine r_call T Tryd.call90 rfl rfl (utf8_DecodeRune.ok _ _ z (cut x1 (Int.toNat x50) (Int.toNat (x1.length : Int))) (S.sel (p := [sl .ro ku8 A55 (Int.toNat (k3 : Int) - Int.toNat x50) (cut x1 (Int.toNat x50) (Int.toNat (x1.length : Int)))]) (is := [0]) rfl) _ h56) ?_
   rintro _ _ ⟨rfl, S⟩
   refine ⟨_, rfl, fun _ T => ?_⟩
   replace S : SL ([sl .ro ku8 A55 (Int.toNat (k3 : Int) - Int.toNat x50) (cut x1 (Int.toNat x50) (Int.toNat (x1.length : Int))), sl .ro ku8 A2 k3 x1, sl m7 ku8 A5 k6 x4, sl m11 ku8 A9 k10 x8, sl .own ku8 A47 k48 x46] ++ F) _ := S.join
   refine r_pv T rfl rfl fun _ T => r_pv T rfl rfl fun _ T => r_pv T rfl rfl fun _ T => r_pv T rfl rfl fun _ T => ?_
   refine r_pv T rfl rfl fun _ T => Gets.seq (rg (r_pv T rfl rfl fun _ T => ?_))
   refine r_pv T rfl rfl fun _ T => r_pv T rfl rfl fun _ T => r_pv T rfl rfl fun _ T => Gets.seq ?_
   have h2841 := S.len (i := 4) rfl
   obtain ⟨h2842, H⟩ := ck H
   obtain ⟨h3081, H⟩ := ck H
   replace S := S.cutR (ix := 1) (i := x50) (j := wr .i64 (x50 + x57.2)) (k := (k3 : Int)) rfl h54.1 h3081.1 h3081.2 (by have := h3081.2; omega) (by omega)
   refine Gets.drawn (l := [(y2 A2 k3 x50 x1 x57), sl .ro ku8 A2 k3 x1, sl m7 ku8 A5 k6 x4, sl m11 ku8 A9 k10 x8, sl .own ku8 A47 k48 x46]) (V := [some (.int .i64 x49, true), some (.slice A47 x46.length k48, true), some (.int .i64 x49, true), some (.slice (slA A47 (Int.toNat (k48 : Int)) (Int.toNat x49) 1) (cut x46 (Int.toNat x49) (Int.toNat (x46.length : Int))).length (Int.toNat (k48 : Int) - Int.toNat x49), true), some (.slice A2 x1.length k3, true), some (.int .i64 x50, true), some (.int .i64 (wr .i64 (x50 + x57.2)), true), some (.slice (slA A2 (Int.toNat (k3 : Int)) (Int.toNat x50) 1) ((cut x1 (Int.toNat x50) (Int.toNat (wr .i64 (x50 + x57.2)))).length) (Int.toNat (k3 : Int) - Int.toNat x50), true), none, none, none]) mixed T (S.only [0, 1, 1, 1, 1] rfl) rfl ?_
   refine stage (some 8) rfl rfl ⟨⟨_, _, rfl, (avl [11] rfl), fun _ _ _ T S => r_pv T rfl rfl fun _ T => ⟨rfl, T⟩⟩, ⟨_, _, rfl, (avl [10] rfl), fun _ _ _ T S => r_pv T rfl rfl fun _ T => ⟨rfl, T⟩⟩, ⟨_, _, rfl, (avl [11] rfl), fun _ _ _ T S => r_pv T rfl rfl fun _ T => ⟨rfl, T⟩⟩, ⟨_, _, rfl, (avl [102, 103] rfl), fun _ _ _ T S => r_slQ (xs := x46) T rfl (fun h => by cases h) rfl rfl rfl h2842.1 h2842.2 (Int.le_refl _) (by omega) (by omega) Tryd.runUnderlying29 Tryd.sizeOf5 rfl fun _ T => ⟨rfl, T⟩⟩, ⟨_, _, rfl, (avl [0] rfl), fun _ _ _ T S => r_pv T rfl rfl fun _ T => ⟨rfl, T⟩⟩, ⟨_, _, rfl, (avl [12] rfl), fun _ _ _ T S => r_pv T rfl rfl fun _ T => ⟨rfl, T⟩⟩, ⟨_, _, rfl, (avl [16] rfl), fun _ _ _ T S => r_pv T rfl rfl fun _ T => ⟨rfl, T⟩⟩, ⟨_, _, rfl, (avl [105, 106, 107] rfl), fun _ _ _ T S => r_slQ (xs := x1) T rfl (fun h => by cases h) rfl rfl rfl h54.1 h3081.1 h3081.2 (by have := h3081.2; omega) (by omega) Tryd.runUnderlying29 Tryd.sizeOf5 rfl fun _ T => ⟨rfl, T⟩⟩, trivial⟩ rfl (fun i hi => ?_) (fun h => by cases h)
   cases hi
   refine ⟨rfl, _, _, rfl, (avl [104, 108] rfl), fun u a w T S => ?_⟩
   have h3141 : (putAt x46 (Int.toNat x49) (cut x1 (Int.toNat x50) (Int.toNat (wr .i64 (x50 + x57.2))))).length = x46.length := (putAt_len x46 (Int.toNat x49) (cut x1 (Int.toNat x50) (Int.toNat (wr .i64 (x50 + x57.2)))) (by have q0_ : (0 : Int) ≤ x49 := h2842.1; have q1_ : x49 ≤ (x46.length : Int) := h2842.2; omega))
   refine r_copy (ix := 4) (iy := 0) (lo := (Int.toNat x49)) (xs := x46) (ys := (cut x1 (Int.toNat x50) (Int.toNat (wr .i64 (x50 + x57.2))))) (l' := [(y2 A2 k3 x50 x1 x57), sl .ro ku8 A2 k3 x1, sl m7 ku8 A5 k6 x4, sl m11 ku8 A9 k10 x8, sl .own ku8 A47 k48 (putAt x46 (Int.toNat x49) (cut x1 (Int.toNat x50) (Int.toNat (wr .i64 (x50 + x57.2)))))]) T S rfl rfl (by have q0_ : (0 : Int) ≤ x49 := h2842.1; have q1_ : x49 ≤ (x46.length : Int) := h2842.2; omega) (by rw [cut_len _ _ _ (by omega)]; omega) (by have q0_ := h2841; omega) rfl rfl rfl Tryd.runUnderlying29 Tryd.sizeOf5 rfl rfl fun _ _ S T => ?_
   refine ⟨_, [some (.int .i64 x49, true), some (.slice A47 x46.length k48, true), some (.int .i64 x49, true), some (.slice (slA A47 (Int.toNat (k48 : Int)) (Int.toNat x49) 1) (cut x46 (Int.toNat x49) (Int.toNat (x46.length : Int))).length (Int.toNat (k48 : Int) - Int.toNat x49), false), some (.slice A2 x1.length k3, true), some (.int .i64 x50, true), some (.int .i64 (wr .i64 (x50 + x57.2)), true), some (.slice (slA A2 (Int.toNat (k3 : Int)) (Int.toNat x50) 1) ((cut x1 (Int.toNat x50) (Int.toNat (wr .i64 (x50 + x57.2)))).length) (Int.toNat (k3 : Int) - Int.toNat x50), false), some (.int .i64 ((min (cut x1 (Int.toNat x50) (Int.toNat (wr .i64 (x50 + x57.2)))).length (cut x46 (Int.toNat x49) (Int.toNat (x46.length : Int))).length : Nat) : Int), false), some (.int .i64 (wr .i64 (x49 + ((min (cut x1 (Int.toNat x50) (Int.toNat (wr .i64 (x50 + x57.2)))).length (cut x46 (Int.toNat x49) (Int.toNat (x46.length : Int))).length : Nat) : Int))), true), some (.int .i64 (wr .i64 (x49 + ((min (cut x1 (Int.toNat x50) (Int.toNat (wr .i64 (x50 + x57.2)))).length (cut x46 (Int.toNat x49) (Int.toNat (x46.length : Int))).length : Nat) : Int))), true)], [(y2 A2 k3 x50 x1 x57), sl .ro ku8 A2 k3 x1, sl m7 ku8 A5 k6 x4, sl m11 ku8 A9 k10 x8, sl .own ku8 A47 k48 (putAt x46 (Int.toNat x49) (cut x1 (Int.toNat x50) (Int.toNat (wr .i64 (x50 + x57.2)))))], rfl, (by repeat first | exact kx0 | apply kxs | apply kxn), rfl, ?_, T, S⟩
   refine stage none rfl rfl ⟨⟨_, _, rfl, (avl [11] rfl), fun _ _ _ T S => r_pv T rfl rfl fun _ T => ⟨rfl, T⟩⟩, ⟨_, _, rfl, (avl [10] rfl), fun _ _ _ T S => r_pv T rfl rfl fun _ T => ⟨rfl, T⟩⟩, ⟨_, _, rfl, (avl [11] rfl), fun _ _ _ T S => r_pv T rfl rfl fun _ T => ⟨rfl, T⟩⟩, ⟨_, _, rfl, (avl [0] rfl), fun _ _ _ T S => r_pv T rfl rfl fun _ T => ⟨rfl, T⟩⟩, ⟨_, _, rfl, (avl [12] rfl), fun _ _ _ T S => r_pv T rfl rfl fun _ T => ⟨rfl, T⟩⟩, ⟨_, _, rfl, (avl [16] rfl), fun _ _ _ T S => r_pv T rfl rfl fun _ T => ⟨rfl, T⟩⟩, ⟨_, _, rfl, (avl [101, 109] rfl), fun _ _ _ T S => r_pv T rfl rfl fun _ T => ⟨rfl, T⟩⟩, ⟨_, _, rfl, (avl [110] rfl), fun _ _ _ T S => r_pv T rfl rfl fun _ T => ⟨rfl, T⟩⟩, trivial⟩ rfl (fun i hi => by cases hi) (fun _ _ a w T hv hb S => ?_)
   replace T := T.sub (r := [(0, .slice A2 x1.length k3), (2, .slice A9 x8.length k10), (10, .slice A47 x46.length k48), (11, .int .i64 (wr .i64 (x49 + ((min (cut x1 (Int.toNat x50) (Int.toNat (wr .i64 (x50 + x57.2)))).length (cut x46 (Int.toNat x49) (Int.toNat (x46.length : Int))).length : Nat) : Int)))), (16, .int .i64 (wr .i64 (x50 + x57.2))), (88, .int .i64 (wr .i64 (x23 - 1))), (89, .int .i64 x51)]) ⟨hb 0 _ rfl rfl, hb 2 _ rfl rfl, hb 10 _ rfl rfl, hv 10 _ 11 rfl rfl rfl, hb 16 _ rfl rfl, hb 88 _ rfl rfl, hb 89 _ rfl rfl, trivial⟩
   refine Gets.seq (rg (r_pv T rfl rfl fun _ T => r_pv T rfl rfl fun _ T => ?_))
   refine r_pv T rfl rfl fun _ T => ?_
   have h58 := S.len (i := 4) rfl
   obtain ⟨h59, H⟩ := ck H
   replace T := T.re (s := 112) (v' := .slice A47 ((putAt x46 (Int.toNat x49) (cut x1 (Int.toNat x50) (Int.toNat (wr .i64 (x50 + x57.2))))).length) k48) rfl (by rw [h3141])
   refine r_slQ (xs := (putAt x46 (Int.toNat x49) (cut x1 (Int.toNat x50) (Int.toNat (wr .i64 (x50 + x57.2)))))) T rfl (fun h => by cases h) rfl rfl rfl h59.1 h59.2 (Int.le_refl _) (by omega) (by omega) Tryd.runUnderlying29 Tryd.sizeOf5 rfl fun _ T => ?_
   refine r_pv T rfl rfl fun _ T => ?_
   have h61 : (putAt (putAt x46 (Int.toNat x49) (cut x1 (Int.toNat x50) (Int.toNat (wr .i64 (x50 + x57.2))))) (Int.toNat (wr .i64 (x49 + ((min (cut x1 (Int.toNat x50) (Int.toNat (wr .i64 (x50 + x57.2)))).length (cut x46 (Int.toNat x49) (Int.toNat (x46.length : Int))).length : Nat) : Int)))) x8).length = x46.length := ((putAt_len (putAt x46 (Int.toNat x49) (cut x1 (Int.toNat x50) (Int.toNat (wr .i64 (x50 + x57.2))))) (Int.toNat (wr .i64 (x49 + ((min (cut x1 (Int.toNat x50) (Int.toNat (wr .i64 (x50 + x57.2)))).length (cut x46 (Int.toNat x49) (Int.toNat (x46.length : Int))).length : Nat) : Int)))) x8 (by have q0_ : (0 : Int) ≤ wr .i64 (x49 + ((min (cut x1 (Int.toNat x50) (Int.toNat (wr .i64 (x50 + x57.2)))).length (cut x46 (Int.toNat x49) (Int.toNat (x46.length : Int))).length : Nat) : Int)) := h59.1; have q1_ : wr .i64 (x49 + ((min (cut x1 (Int.toNat x50) (Int.toNat (wr .i64 (x50 + x57.2)))).length (cut x46 (Int.toNat x49) (Int.toNat (x46.length : Int))).length : Nat) : Int)) ≤ ((putAt x46 (Int.toNat x49) (cut x1 (Int.toNat x50) (Int.toNat (wr .i64 (x50 + x57.2))))).length : Int) := h59.2; omega)).trans h3141)
   refine r_copy (ix := 4) (iy := 3) (lo := (Int.toNat (wr .i64 (x49 + ((min (cut x1 (Int.toNat x50) (Int.toNat (wr .i64 (x50 + x57.2)))).length (cut x46 (Int.toNat x49) (Int.toNat (x46.length : Int))).length : Nat) : Int))))) (xs := (putAt x46 (Int.toNat x49) (cut x1 (Int.toNat x50) (Int.toNat (wr .i64 (x50 + x57.2)))))) (ys := x8) (l' := [(y2 A2 k3 x50 x1 x57), sl .ro ku8 A2 k3 x1, sl m7 ku8 A5 k6 x4, sl m11 ku8 A9 k10 x8, sl .own ku8 A47 k48 (putAt (putAt x46 (Int.toNat x49) (cut x1 (Int.toNat x50) (Int.toNat (wr .i64 (x50 + x57.2))))) (Int.toNat (wr .i64 (x49 + ((min (cut x1 (Int.toNat x50) (Int.toNat (wr .i64 (x50 + x57.2)))).length (cut x46 (Int.toNat x49) (Int.toNat (x46.length : Int))).length : Nat) : Int)))) x8)]) T S rfl rfl (by have q0_ : (0 : Int) ≤ wr .i64 (x49 + ((min (cut x1 (Int.toNat x50) (Int.toNat (wr .i64 (x50 + x57.2)))).length (cut x46 (Int.toNat x49) (Int.toNat (x46.length : Int))).length : Nat) : Int)) := h59.1; have q1_ : wr .i64 (x49 + ((min (cut x1 (Int.toNat x50) (Int.toNat (wr .i64 (x50 + x57.2)))).length (cut x46 (Int.toNat x49) (Int.toNat (x46.length : Int))).length : Nat) : Int)) ≤ ((putAt x46 (Int.toNat x49) (cut x1 (Int.toNat x50) (Int.toNat (wr .i64 (x50 + x57.2))))).length : Int) := h59.2; omega) (by rw [cut_len _ _ _ (by omega)]; omega) (by have q0_ := h58; omega) rfl rfl rfl Tryd.runUnderlying29 Tryd.sizeOf5 rfl rfl fun _ _ S T => ?_
   refine r_pv T rfl rfl fun _ T => r_pv T rfl rfl fun _ T => rg (r_pv T rfl rfl fun _ T => ?_)
   refine r_pv T rfl rfl fun _ T => Gets.inBlock (rg (r_pv T rfl rfl fun _ T => ?_))
   refine r_pv T rfl rfl fun _ T => Gets.inLoop ?_
   have T := T.re (s := 10) (v' := .slice A47 (putAt (putAt x46 (Int.toNat x49) (cut x1 (Int.toNat x50) (Int.toNat (wr .i64 (x50 + x57.2))))) (Int.toNat (wr .i64 (x49 + ((min (cut x1 (Int.toNat x50) (Int.toNat (wr .i64 (x50 + x57.2)))).length (cut x46 (Int.toNat x49) (Int.toNat (x46.length : Int))).length : Nat) : Int)))) x8).length k48) rfl (by rw [h61])
   exact ih A47 (putAt (putAt x46 (Int.toNat x49) (cut x1 (Int.toNat x50) (Int.toNat (wr .i64 (x50 + x57.2))))) (Int.toNat (wr .i64 (x49 + ((min (cut x1 (Int.toNat x50) (Int.toNat (wr .i64 (x50 + x57.2)))).length (cut x46 (Int.toNat x49) (Int.toNat (x46.length : Int))).length : Nat) : Int)))) x8) k48 (wr .i64 ((wr .i64 (x49 + ((min (cut x1 (Int.toNat x50) (Int.toNat (wr .i64 (x50 + x57.2)))).length (cut x46 (Int.toNat x49) (Int.toNat (x46.length : Int))).length : Nat) : Int))) + ((min x8.length (cut (putAt x46 (Int.toNat x49) (cut x1 (Int.toNat x50) (Int.toNat (wr .i64 (x50 + x57.2))))) (Int.toNat (wr .i64 (x49 + ((min (cut x1 (Int.toNat x50) (Int.toNat (wr .i64 (x50 + x57.2)))).length (cut x46 (Int.toNat x49) (Int.toNat (x46.length : Int))).length : Nat) : Int)))) (Int.toNat ((putAt x46 (Int.toNat x49) (cut x1 (Int.toNat x50) (Int.toNat (wr .i64 (x50 + x57.2))))).length : Int))).length : Nat) : Int))) (wr .i64 (x50 + x57.2)) (wr .i64 (x51 + 1)) _ _ (T.sub ⟨rfl, rfl, rfl, rfl, rfl, rfl, rfl, trivial⟩) (S.only (p := [sl .ro ku8 A2 k3 x1, sl m7 ku8 A5 k6 x4, sl m11 ku8 A9 k10 x8, sl .own ku8 A47 k48 (putAt (putAt x46 (Int.toNat x49) (cut x1 (Int.toNat x50) (Int.toNat (wr .i64 (x50 + x57.2))))) (Int.toNat (wr .i64 (x49 + ((min (cut x1 (Int.toNat x50) (Int.toNat (wr .i64 (x50 + x57.2)))).length (cut x46 (Int.toNat x49) (Int.toNat (x46.length : Int))).length : Nat) : Int)))) x8)]) [1, 1, 1, 1] rfl) H
  ·refine cdF T rfl h52 ?_
   refine Gets.exit rfl (Gets.seq ?_)
   exact J5_ok F r z x1 A2 k3 x4 A5 k6 m7 x8 A9 k10 m11 x12 A47 x46 k48 x49 x50 _ _ (T.sub ⟨rfl, rfl, rfl, rfl, trivial⟩) (S.only (p := [sl .ro ku8 A2 k3 x1, sl m7 ku8 A5 k6 x4, sl m11 ku8 A9 k10 x8, sl .own ku8 A47 k48 x46]) [0, 0, 0, 0] rfl) H
theorem L3_ok (F : List Atom) (r : (List Int)) (z : Nat) (x1 : List Int) (A2 : OA) (k3 : Nat) (x4 : List Int) (A5 : OA) (k6 : Nat) (m7 : Md) (x8 : List Int) (A9 : OA) (k10 : Nat) (m11 : Md) (x23 x12 : Int) (m : Nat) : ∀ (A28 : OA) (x27 : List Int) (k29 : Nat) (x30 x31 x32 : Int) (a : Act) (w : World), Tm 132 [(0, .slice A2 x1.length k3), (1, .slice A5 x4.length k6), (2, .slice A9 x8.length k10), (10, .slice A28 x27.length k29), (11, .int .i64 x30), (12, .int .i64 x31), (48, .int .i64 x23), (49, .int .i64 x32)] a → SL ([sl .ro ku8 A2 k3 x1, sl m7 ku8 A5 k6 x4, sl m11 ku8 A9 k10 x8, sl .own ku8 A28 k29 x27] ++ F) w → L3 z x1 x4 x8 x23 m x27 x30 x31 x32 = some r → Gets Tryd.prog 85 ptL3 a w (R F x1 A2 k3 x4 A5 k6 m7 x8 A9 k10 m11 r) := by
 induction m with
 | zero => intro _ _ _ _ _ _ _ _ _ _ H; cases H
 | succ m ih =>
  intro A28 x27 k29 x30 x31 x32 a w T S H
  refine Gets.seq (rg (r_pv T rfl rfl fun _ T => Gets.seq ?_))
  rcases ifE H with ⟨h33, H⟩ | ⟨h33, H⟩
  ·refine cdT T rfl h33 ?_
   refine Gets.skip (Gets.seq (Gets.block (Gets.seq ?_)))
   refine rg (r_pv T rfl rfl fun _ T => r_pv T rfl rfl fun _ T => r_pv T rfl rfl fun _ T => ?_)
   have h34 := S.len (i := 0) rfl
   obtain ⟨h35, H⟩ := ck H
   refine r_slR (ix := 0) (xs := x1) T S rfl rfl (fun h => by cases h) rfl rfl rfl h35.1 h35.2 (Int.le_refl _) (by omega) (by omega) Tryd.runUnderlying29 Tryd.sizeOf5 rfl fun _ A36 S T => ?_
   refine r_pv T rfl rfl fun _ T => ?_
   obtain ⟨x38, h37, H⟩ := bd H
   refine r_call T Tryd.call89 rfl rfl (bytes_Index.ok _ _ (cut x1 (Int.toNat x31) (Int.toNat (x1.length : Int))) x4 (S.sel (p := [sl .ro ku8 A36 (Int.toNat (k3 : Int) - Int.toNat x31) (cut x1 (Int.toNat x31) (Int.toNat (x1.length : Int))), sl m7 ku8 A5 k6 x4]) (is := [0, 1]) rfl) _ h37) ?_
   rintro _ _ ⟨rfl, S⟩
   refine ⟨_, rfl, fun _ T => ?_⟩
   replace S : SL ([sl .ro ku8 A36 (Int.toNat (k3 : Int) - Int.toNat x31) (cut x1 (Int.toNat x31) (Int.toNat (x1.length : Int))), sl m7 ku8 A5 k6 x4, sl .ro ku8 A2 k3 x1, sl m11 ku8 A9 k10 x8, sl .own ku8 A28 k29 x27] ++ F) _ := S.join
   refine r_pv T rfl rfl fun _ T => r_pv T rfl rfl fun _ T => Gets.seq ?_
   have h2181 := S.len (i := 4) rfl
   obtain ⟨h2182, H⟩ := ck H
   obtain ⟨h2421, H⟩ := ck H
   replace S := S.cutR (ix := 2) (i := x31) (j := wr .i64 (x31 + x38)) (k := (k3 : Int)) rfl h35.1 h2421.1 h2421.2 (by have := h2421.2; omega) (by omega)
   refine Gets.drawn (l := [(y1 A2 k3 x31 x1 x38), sl m7 ku8 A5 k6 x4, sl .ro ku8 A2 k3 x1, sl m11 ku8 A9 k10 x8, sl .own ku8 A28 k29 x27]) (V := [some (.int .i64 x30, true), some (.slice A28 x27.length k29, true), some (.int .i64 x30, true), some (.slice (slA A28 (Int.toNat (k29 : Int)) (Int.toNat x30) 1) (cut x27 (Int.toNat x30) (Int.toNat (x27.length : Int))).length (Int.toNat (k29 : Int) - Int.toNat x30), true), some (.slice A2 x1.length k3, true), some (.int .i64 x31, true), some (.int .i64 (wr .i64 (x31 + x38)), true), some (.slice (slA A2 (Int.toNat (k3 : Int)) (Int.toNat x31) 1) ((cut x1 (Int.toNat x31) (Int.toNat (wr .i64 (x31 + x38)))).length) (Int.toNat (k3 : Int) - Int.toNat x31), true), none, none, none]) mixed T (S.only [0, 1, 1, 1, 1] rfl) rfl ?_
   refine stage (some 8) rfl rfl ⟨⟨_, _, rfl, (avl [11] rfl), fun _ _ _ T S => r_pv T rfl rfl fun _ T => ⟨rfl, T⟩⟩, ⟨_, _, rfl, (avl [10] rfl), fun _ _ _ T S => r_pv T rfl rfl fun _ T => ⟨rfl, T⟩⟩, ⟨_, _, rfl, (avl [11] rfl), fun _ _ _ T S => r_pv T rfl rfl fun _ T => ⟨rfl, T⟩⟩, ⟨_, _, rfl, (avl [59, 60] rfl), fun _ _ _ T S => r_slQ (xs := x27) T rfl (fun h => by cases h) rfl rfl rfl h2182.1 h2182.2 (Int.le_refl _) (by omega) (by omega) Tryd.runUnderlying29 Tryd.sizeOf5 rfl fun _ T => ⟨rfl, T⟩⟩, ⟨_, _, rfl, (avl [0] rfl), fun _ _ _ T S => r_pv T rfl rfl fun _ T => ⟨rfl, T⟩⟩, ⟨_, _, rfl, (avl [12] rfl), fun _ _ _ T S => r_pv T rfl rfl fun _ T => ⟨rfl, T⟩⟩, ⟨_, _, rfl, (avl [13] rfl), fun _ _ _ T S => r_pv T rfl rfl fun _ T => ⟨rfl, T⟩⟩, ⟨_, _, rfl, (avl [62, 63, 64] rfl), fun _ _ _ T S => r_slQ (xs := x1) T rfl (fun h => by cases h) rfl rfl rfl h35.1 h2421.1 h2421.2 (by have := h2421.2; omega) (by omega) Tryd.runUnderlying29 Tryd.sizeOf5 rfl fun _ T => ⟨rfl, T⟩⟩, trivial⟩ rfl (fun i hi => ?_) (fun h => by cases h)
   cases hi
   refine ⟨rfl, _, _, rfl, (avl [61, 65] rfl), fun u a w T S => ?_⟩
   have h2481 : (putAt x27 (Int.toNat x30) (cut x1 (Int.toNat x31) (Int.toNat (wr .i64 (x31 + x38))))).length = x27.length := (putAt_len x27 (Int.toNat x30) (cut x1 (Int.toNat x31) (Int.toNat (wr .i64 (x31 + x38)))) (by have q0_ : (0 : Int) ≤ x30 := h2182.1; have q1_ : x30 ≤ (x27.length : Int) := h2182.2; omega))
   refine r_copy (ix := 4) (iy := 0) (lo := (Int.toNat x30)) (xs := x27) (ys := (cut x1 (Int.toNat x31) (Int.toNat (wr .i64 (x31 + x38))))) (l' := [(y1 A2 k3 x31 x1 x38), sl m7 ku8 A5 k6 x4, sl .ro ku8 A2 k3 x1, sl m11 ku8 A9 k10 x8, sl .own ku8 A28 k29 (putAt x27 (Int.toNat x30) (cut x1 (Int.toNat x31) (Int.toNat (wr .i64 (x31 + x38)))))]) T S rfl rfl (by have q0_ : (0 : Int) ≤ x30 := h2182.1; have q1_ : x30 ≤ (x27.length : Int) := h2182.2; omega) (by rw [cut_len _ _ _ (by omega)]; omega) (by have q0_ := h2181; omega) rfl rfl rfl Tryd.runUnderlying29 Tryd.sizeOf5 rfl rfl fun _ _ S T => ?_
   refine ⟨_, [some (.int .i64 x30, true), some (.slice A28 x27.length k29, true), some (.int .i64 x30, true), some (.slice (slA A28 (Int.toNat (k29 : Int)) (Int.toNat x30) 1) (cut x27 (Int.toNat x30) (Int.toNat (x27.length : Int))).length (Int.toNat (k29 : Int) - Int.toNat x30), false), some (.slice A2 x1.length k3, true), some (.int .i64 x31, true), some (.int .i64 (wr .i64 (x31 + x38)), true), some (.slice (slA A2 (Int.toNat (k3 : Int)) (Int.toNat x31) 1) ((cut x1 (Int.toNat x31) (Int.toNat (wr .i64 (x31 + x38)))).length) (Int.toNat (k3 : Int) - Int.toNat x31), false), some (.int .i64 ((min (cut x1 (Int.toNat x31) (Int.toNat (wr .i64 (x31 + x38)))).length (cut x27 (Int.toNat x30) (Int.toNat (x27.length : Int))).length : Nat) : Int), false), some (.int .i64 (wr .i64 (x30 + ((min (cut x1 (Int.toNat x31) (Int.toNat (wr .i64 (x31 + x38)))).length (cut x27 (Int.toNat x30) (Int.toNat (x27.length : Int))).length : Nat) : Int))), true), some (.int .i64 (wr .i64 (x30 + ((min (cut x1 (Int.toNat x31) (Int.toNat (wr .i64 (x31 + x38)))).length (cut x27 (Int.toNat x30) (Int.toNat (x27.length : Int))).length : Nat) : Int))), true)], [(y1 A2 k3 x31 x1 x38), sl m7 ku8 A5 k6 x4, sl .ro ku8 A2 k3 x1, sl m11 ku8 A9 k10 x8, sl .own ku8 A28 k29 (putAt x27 (Int.toNat x30) (cut x1 (Int.toNat x31) (Int.toNat (wr .i64 (x31 + x38)))))], rfl, (by repeat first | exact kx0 | apply kxs | apply kxn), rfl, ?_, T, S⟩
   refine stage none rfl rfl ⟨⟨_, _, rfl, (avl [11] rfl), fun _ _ _ T S => r_pv T rfl rfl fun _ T => ⟨rfl, T⟩⟩, ⟨_, _, rfl, (avl [10] rfl), fun _ _ _ T S => r_pv T rfl rfl fun _ T => ⟨rfl, T⟩⟩, ⟨_, _, rfl, (avl [11] rfl), fun _ _ _ T S => r_pv T rfl rfl fun _ T => ⟨rfl, T⟩⟩, ⟨_, _, rfl, (avl [0] rfl), fun _ _ _ T S => r_pv T rfl rfl fun _ T => ⟨rfl, T⟩⟩, ⟨_, _, rfl, (avl [12] rfl), fun _ _ _ T S => r_pv T rfl rfl fun _ T => ⟨rfl, T⟩⟩, ⟨_, _, rfl, (avl [13] rfl), fun _ _ _ T S => r_pv T rfl rfl fun _ T => ⟨rfl, T⟩⟩, ⟨_, _, rfl, (avl [58, 66] rfl), fun _ _ _ T S => r_pv T rfl rfl fun _ T => ⟨rfl, T⟩⟩, ⟨_, _, rfl, (avl [67] rfl), fun _ _ _ T S => r_pv T rfl rfl fun _ T => ⟨rfl, T⟩⟩, trivial⟩ rfl (fun i hi => by cases hi) (fun _ _ a w T hv hb S => ?_)
   replace T := T.sub (r := [(0, .slice A2 x1.length k3), (1, .slice A5 x4.length k6), (2, .slice A9 x8.length k10), (10, .slice A28 x27.length k29), (11, .int .i64 (wr .i64 (x30 + ((min (cut x1 (Int.toNat x31) (Int.toNat (wr .i64 (x31 + x38)))).length (cut x27 (Int.toNat x30) (Int.toNat (x27.length : Int))).length : Nat) : Int)))), (13, .int .i64 (wr .i64 (x31 + x38))), (48, .int .i64 x23), (49, .int .i64 x32)]) ⟨hb 0 _ rfl rfl, hb 1 _ rfl rfl, hb 2 _ rfl rfl, hb 10 _ rfl rfl, hv 10 _ 11 rfl rfl rfl, hb 13 _ rfl rfl, hb 48 _ rfl rfl, hb 49 _ rfl rfl, trivial⟩
   refine Gets.seq (rg (r_pv T rfl rfl fun _ T => r_pv T rfl rfl fun _ T => ?_))
   refine r_pv T rfl rfl fun _ T => ?_
   have h39 := S.len (i := 4) rfl
   obtain ⟨h40, H⟩ := ck H
   replace T := T.re (s := 69) (v' := .slice A28 ((putAt x27 (Int.toNat x30) (cut x1 (Int.toNat x31) (Int.toNat (wr .i64 (x31 + x38))))).length) k29) rfl (by rw [h2481])
   refine r_slQ (xs := (putAt x27 (Int.toNat x30) (cut x1 (Int.toNat x31) (Int.toNat (wr .i64 (x31 + x38)))))) T rfl (fun h => by cases h) rfl rfl rfl h40.1 h40.2 (Int.le_refl _) (by omega) (by omega) Tryd.runUnderlying29 Tryd.sizeOf5 rfl fun _ T => ?_
   refine r_pv T rfl rfl fun _ T => ?_
   have h42 : (putAt (putAt x27 (Int.toNat x30) (cut x1 (Int.toNat x31) (Int.toNat (wr .i64 (x31 + x38))))) (Int.toNat (wr .i64 (x30 + ((min (cut x1 (Int.toNat x31) (Int.toNat (wr .i64 (x31 + x38)))).length (cut x27 (Int.toNat x30) (Int.toNat (x27.length : Int))).length : Nat) : Int)))) x8).length = x27.length := ((putAt_len (putAt x27 (Int.toNat x30) (cut x1 (Int.toNat x31) (Int.toNat (wr .i64 (x31 + x38))))) (Int.toNat (wr .i64 (x30 + ((min (cut x1 (Int.toNat x31) (Int.toNat (wr .i64 (x31 + x38)))).length (cut x27 (Int.toNat x30) (Int.toNat (x27.length : Int))).length : Nat) : Int)))) x8 (by have q0_ : (0 : Int) ≤ wr .i64 (x30 + ((min (cut x1 (Int.toNat x31) (Int.toNat (wr .i64 (x31 + x38)))).length (cut x27 (Int.toNat x30) (Int.toNat (x27.length : Int))).length : Nat) : Int)) := h40.1; have q1_ : wr .i64 (x30 + ((min (cut x1 (Int.toNat x31) (Int.toNat (wr .i64 (x31 + x38)))).length (cut x27 (Int.toNat x30) (Int.toNat (x27.length : Int))).length : Nat) : Int)) ≤ ((putAt x27 (Int.toNat x30) (cut x1 (Int.toNat x31) (Int.toNat (wr .i64 (x31 + x38))))).length : Int) := h40.2; omega)).trans h2481)
   refine r_copy (ix := 4) (iy := 3) (lo := (Int.toNat (wr .i64 (x30 + ((min (cut x1 (Int.toNat x31) (Int.toNat (wr .i64 (x31 + x38)))).length (cut x27 (Int.toNat x30) (Int.toNat (x27.length : Int))).length : Nat) : Int))))) (xs := (putAt x27 (Int.toNat x30) (cut x1 (Int.toNat x31) (Int.toNat (wr .i64 (x31 + x38)))))) (ys := x8) (l' := [(y1 A2 k3 x31 x1 x38), sl m7 ku8 A5 k6 x4, sl .ro ku8 A2 k3 x1, sl m11 ku8 A9 k10 x8, sl .own ku8 A28 k29 (putAt (putAt x27 (Int.toNat x30) (cut x1 (Int.toNat x31) (Int.toNat (wr .i64 (x31 + x38))))) (Int.toNat (wr .i64 (x30 + ((min (cut x1 (Int.toNat x31) (Int.toNat (wr .i64 (x31 + x38)))).length (cut x27 (Int.toNat x30) (Int.toNat (x27.length : Int))).length : Nat) : Int)))) x8)]) T S rfl rfl (by have q0_ : (0 : Int) ≤ wr .i64 (x30 + ((min (cut x1 (Int.toNat x31) (Int.toNat (wr .i64 (x31 + x38)))).length (cut x27 (Int.toNat x30) (Int.toNat (x27.length : Int))).length : Nat) : Int)) := h40.1; have q1_ : wr .i64 (x30 + ((min (cut x1 (Int.toNat x31) (Int.toNat (wr .i64 (x31 + x38)))).length (cut x27 (Int.toNat x30) (Int.toNat (x27.length : Int))).length : Nat) : Int)) ≤ ((putAt x27 (Int.toNat x30) (cut x1 (Int.toNat x31) (Int.toNat (wr .i64 (x31 + x38))))).length : Int) := h40.2; omega) (by rw [cut_len _ _ _ (by omega)]; omega) (by have q0_ := h39; omega) rfl rfl rfl Tryd.runUnderlying29 Tryd.sizeOf5 rfl rfl fun _ _ S T => ?_
   refine r_pv T rfl rfl fun _ T => r_pv T rfl rfl fun _ T => rg (r_pv T rfl rfl fun _ T => ?_)
   refine r_pv T rfl rfl fun _ T => r_lenS T rfl Tryd.runUnderlying29 rfl fun _ T => r_pv T rfl rfl fun _ T => r_pv T rfl rfl fun _ T => ?_
   refine Gets.inBlock (rg (r_pv T rfl rfl fun _ T => r_pv T rfl rfl fun _ T => ?_))
   refine Gets.inLoop ?_
   have T := T.re (s := 10) (v' := .slice A28 (putAt (putAt x27 (Int.toNat x30) (cut x1 (Int.toNat x31) (Int.toNat (wr .i64 (x31 + x38))))) (Int.toNat (wr .i64 (x30 + ((min (cut x1 (Int.toNat x31) (Int.toNat (wr .i64 (x31 + x38)))).length (cut x27 (Int.toNat x30) (Int.toNat (x27.length : Int))).length : Nat) : Int)))) x8).length k29) rfl (by rw [h42])
   exact ih A28 (putAt (putAt x27 (Int.toNat x30) (cut x1 (Int.toNat x31) (Int.toNat (wr .i64 (x31 + x38))))) (Int.toNat (wr .i64 (x30 + ((min (cut x1 (Int.toNat x31) (Int.toNat (wr .i64 (x31 + x38)))).length (cut x27 (Int.toNat x30) (Int.toNat (x27.length : Int))).length : Nat) : Int)))) x8) k29 (wr .i64 ((wr .i64 (x30 + ((min (cut x1 (Int.toNat x31) (Int.toNat (wr .i64 (x31 + x38)))).length (cut x27 (Int.toNat x30) (Int.toNat (x27.length : Int))).length : Nat) : Int))) + ((min x8.length (cut (putAt x27 (Int.toNat x30) (cut x1 (Int.toNat x31) (Int.toNat (wr .i64 (x31 + x38))))) (Int.toNat (wr .i64 (x30 + ((min (cut x1 (Int.toNat x31) (Int.toNat (wr .i64 (x31 + x38)))).length (cut x27 (Int.toNat x30) (Int.toNat (x27.length : Int))).length : Nat) : Int)))) (Int.toNat ((putAt x27 (Int.toNat x30) (cut x1 (Int.toNat x31) (Int.toNat (wr .i64 (x31 + x38))))).length : Int))).length : Nat) : Int))) (wr .i64 ((wr .i64 (x31 + x38)) + (x4.length : Int))) (wr .i64 (x32 + 1)) _ _ (T.sub ⟨rfl, rfl, rfl, rfl, rfl, rfl, rfl, rfl, trivial⟩) (S.only (p := [sl .ro ku8 A2 k3 x1, sl m7 ku8 A5 k6 x4, sl m11 ku8 A9 k10 x8, sl .own ku8 A28 k29 (putAt (putAt x27 (Int.toNat x30) (cut x1 (Int.toNat x31) (Int.toNat (wr .i64 (x31 + x38))))) (Int.toNat (wr .i64 (x30 + ((min (cut x1 (Int.toNat x31) (Int.toNat (wr .i64 (x31 + x38)))).length (cut x27 (Int.toNat x30) (Int.toNat (x27.length : Int))).length : Nat) : Int)))) x8)]) [2, 1, 1, 1] rfl) H
  ·refine cdF T rfl h33 ?_
   refine Gets.exit rfl (Gets.seq ?_)
   exact J5_ok F r z x1 A2 k3 x4 A5 k6 m7 x8 A9 k10 m11 x12 A28 x27 k29 x30 x31 _ _ (T.sub ⟨rfl, rfl, rfl, rfl, trivial⟩) (S.only (p := [sl .ro ku8 A2 k3 x1, sl m7 ku8 A5 k6 x4, sl m11 ku8 A9 k10 x8, sl .own ku8 A28 k29 x27]) [0, 0, 0, 0] rfl) H
theorem J2_ok (F : List Atom) (r : (List Int)) (z : Nat) (x1 : List Int) (A2 : OA) (k3 : Nat) (x4 : List Int) (A5 : OA) (k6 : Nat) (m7 : Md) (x8 : List Int) (A9 : OA) (k10 : Nat) (m11 : Md) (x12 x23 : Int) (a : Act) (w : World) (T : Tm 132 [(0, .slice A2 x1.length k3), (1, .slice A5 x4.length k6), (2, .slice A9 x8.length k10), (3, .int .i64 x23)] a) (S : SL ([sl .ro ku8 A2 k3 x1, sl m7 ku8 A5 k6 x4, sl m11 ku8 A9 k10 x8] ++ F) w) (H : J2 z x1 x4 x8 x23 = some r) : Gets Tryd.prog 85 ptJ2 a w (R F x1 A2 k3 x4 A5 k6 m7 x8 A9 k10 m11 r) := by
 refine rg (r_pv T rfl rfl fun _ T => r_lenS T rfl Tryd.runUnderlying29 rfl fun _ T => r_pv T rfl rfl fun _ T => ?_)
 refine r_pv T rfl rfl fun _ T => r_lenS T rfl Tryd.runUnderlying29 rfl fun _ T => r_pv T rfl rfl fun _ T => r_lenS T rfl Tryd.runUnderlying29 rfl fun _ T => ?_
 refine r_pv T rfl rfl fun _ T => r_pv T rfl rfl fun _ T => r_pv T rfl rfl fun _ T => ?_
 obtain ⟨h24, H⟩ := ck H
 refine r_make (κ := ku8) T S rfl rfl sty29 (0 : Int) (fun _ => rfl) h24.1 (Int.le_refl _) (by decide) (by have := h24.2.2; omega) rfl fun _ _ b25 S T => ?_
 replace T := T.re (s := 44) (v' := .slice (some ⟨b25, 0, none⟩) (List.replicate (Int.toNat (wr .i64 ((x1.length : Int) + (wr .i64 (x23 * (wr .i64 ((x8.length : Int) - (x4.length : Int)))))))) (0 : Int)).length (Int.toNat (wr .i64 ((x1.length : Int) + (wr .i64 (x23 * (wr .i64 ((x8.length : Int) - (x4.length : Int))))))))) rfl (by simp)
 refine r_pv T rfl rfl fun _ T => Gets.seq (rg (r_pv T rfl rfl fun _ T => ?_))
 refine Gets.seq (rg (r_pv T rfl rfl fun _ T => ?_))
 refine Gets.seq (Gets.seq ?_)
 refine rg (r_pv T rfl rfl fun _ T => r_lenS T rfl Tryd.runUnderlying29 rfl fun _ T => r_pv T rfl rfl fun _ T => ?_)
 rcases ifE H with ⟨h26, H⟩ | ⟨h26, H⟩
 ·refine cdT T rfl h26 ?_
  refine Gets.seq (rg (r_pv T rfl rfl fun _ T => r_pv T rfl rfl fun _ T => ?_))
  refine Gets.block (Gets.loop ?_)
  exact L3_ok F r z x1 A2 k3 x4 A5 k6 m7 x8 A9 k10 m11 x23 x12 z (some ⟨b25, 0, none⟩) (List.replicate (Int.toNat (wr .i64 ((x1.length : Int) + (wr .i64 (x23 * (wr .i64 ((x8.length : Int) - (x4.length : Int)))))))) (0 : Int)) (Int.toNat (wr .i64 ((x1.length : Int) + (wr .i64 (x23 * (wr .i64 ((x8.length : Int) - (x4.length : Int)))))))) 0 0 0 _ _ (T.sub ⟨rfl, rfl, rfl, rfl, rfl, rfl, rfl, rfl, trivial⟩) (S.only (p := [sl .ro ku8 A2 k3 x1, sl m7 ku8 A5 k6 x4, sl m11 ku8 A9 k10 x8, sl .own ku8 (some ⟨b25, 0, none⟩) (Int.toNat (wr .i64 ((x1.length : Int) + (wr .i64 (x23 * (wr .i64 ((x8.length : Int) - (x4.length : Int)))))))) (List.replicate (Int.toNat (wr .i64 ((x1.length : Int) + (wr .i64 (x23 * (wr .i64 ((x8.length : Int) - (x4.length : Int)))))))) (0 : Int))]) [1, 1, 1, 0] rfl) H
 ·refine cdF T rfl h26 ?_
  refine Gets.seq (rg (r_pv T rfl rfl fun _ T => r_pv T rfl rfl fun _ T => ?_))
  refine r_pv T rfl rfl fun _ T => ?_
  have h43 := S.len (i := 0) rfl
  refine r_slQ (xs := (List.replicate (Int.toNat (wr .i64 ((x1.length : Int) + (wr .i64 (x23 * (wr .i64 ((x8.length : Int) - (x4.length : Int)))))))) (0 : Int))) T rfl (fun h => by cases h) rfl rfl rfl (Int.le_refl _) (by omega) (Int.le_refl _) (by omega) (by omega) Tryd.runUnderlying29 Tryd.sizeOf5 rfl fun _ T => ?_
  refine r_pv T rfl rfl fun _ T => ?_
  have h45 : (putAt (List.replicate (Int.toNat (wr .i64 ((x1.length : Int) + (wr .i64 (x23 * (wr .i64 ((x8.length : Int) - (x4.length : Int)))))))) (0 : Int)) (Int.toNat 0) x8).length = (List.replicate (Int.toNat (wr .i64 ((x1.length : Int) + (wr .i64 (x23 * (wr .i64 ((x8.length : Int) - (x4.length : Int)))))))) (0 : Int)).length := (putAt_len (List.replicate (Int.toNat (wr .i64 ((x1.length : Int) + (wr .i64 (x23 * (wr .i64 ((x8.length : Int) - (x4.length : Int)))))))) (0 : Int)) (Int.toNat 0) x8 (by have q0_ : (0 : Int) ≤ 0 := (Int.le_refl _); have q1_ : 0 ≤ ((List.replicate (Int.toNat (wr .i64 ((x1.length : Int) + (wr .i64 (x23 * (wr .i64 ((x8.length : Int) - (x4.length : Int)))))))) (0 : Int)).length : Int) := (by omega); omega))
  refine r_copy (ix := 0) (iy := 3) (lo := (Int.toNat 0)) (xs := (List.replicate (Int.toNat (wr .i64 ((x1.length : Int) + (wr .i64 (x23 * (wr .i64 ((x8.length : Int) - (x4.length : Int)))))))) (0 : Int))) (ys := x8) (l' := [(y4 b25 x1 x23 x8 x4), sl .ro ku8 A2 k3 x1, sl m7 ku8 A5 k6 x4, sl m11 ku8 A9 k10 x8]) T S rfl rfl (by have q0_ : (0 : Int) ≤ 0 := (Int.le_refl _); have q1_ : 0 ≤ ((List.replicate (Int.toNat (wr .i64 ((x1.length : Int) + (wr .i64 (x23 * (wr .i64 ((x8.length : Int) - (x4.length : Int)))))))) (0 : Int)).length : Int) := (by omega); omega) (by rw [cut_len _ _ _ (by omega)]; omega) (by have q0_ := h43; omega) rfl rfl rfl Tryd.runUnderlying29 Tryd.sizeOf5 rfl rfl fun _ _ S T => ?_
  refine r_pv T rfl rfl fun _ T => r_pv T rfl rfl fun _ T => Gets.seq (rg ?_)
  refine r_pv T rfl rfl fun _ T => r_pv T rfl rfl fun _ T => r_pv T rfl rfl fun _ T => Gets.block ?_
  refine Gets.loop ?_
  have T := T.re (s := 10) (v' := .slice (some ⟨b25, 0, none⟩) (putAt (List.replicate (Int.toNat (wr .i64 ((x1.length : Int) + (wr .i64 (x23 * (wr .i64 ((x8.length : Int) - (x4.length : Int)))))))) (0 : Int)) (Int.toNat 0) x8).length (Int.toNat (wr .i64 ((x1.length : Int) + (wr .i64 (x23 * (wr .i64 ((x8.length : Int) - (x4.length : Int))))))))) rfl (by rw [h45])
  exact L4_ok F r z x1 A2 k3 x4 A5 k6 m7 x8 A9 k10 m11 x23 x12 z (some ⟨b25, 0, none⟩) (putAt (List.replicate (Int.toNat (wr .i64 ((x1.length : Int) + (wr .i64 (x23 * (wr .i64 ((x8.length : Int) - (x4.length : Int)))))))) (0 : Int)) (Int.toNat 0) x8) (Int.toNat (wr .i64 ((x1.length : Int) + (wr .i64 (x23 * (wr .i64 ((x8.length : Int) - (x4.length : Int)))))))) (wr .i64 (0 + ((min x8.length (cut (List.replicate (Int.toNat (wr .i64 ((x1.length : Int) + (wr .i64 (x23 * (wr .i64 ((x8.length : Int) - (x4.length : Int)))))))) (0 : Int)) (Int.toNat 0) (Int.toNat ((List.replicate (Int.toNat (wr .i64 ((x1.length : Int) + (wr .i64 (x23 * (wr .i64 ((x8.length : Int) - (x4.length : Int)))))))) (0 : Int)).length : Int))).length : Nat) : Int))) 0 0 _ _ (T.sub ⟨rfl, rfl, rfl, rfl, rfl, rfl, rfl, trivial⟩) (S.only (p := [sl .ro ku8 A2 k3 x1, sl m7 ku8 A5 k6 x4, sl m11 ku8 A9 k10 x8, (y4 b25 x1 x23 x8 x4)]) [1, 1, 1, 0] rfl) H
theorem J1_ok (F : List Atom) (r : (List Int)) (z : Nat) (x1 : List Int) (A2 : OA) (k3 : Nat) (x4 : List Int) (A5 : OA) (k6 : Nat) (m7 : Md) (x8 : List Int) (A9 : OA) (k10 : Nat) (m11 : Md) (x16 x12 : Int) (a : Act) (w : World) (T : Tm 132 [(0, .slice A2 x1.length k3), (1, .slice A5 x4.length k6), (2, .slice A9 x8.length k10), (9, .int .i64 x16)] a) (S : SL ([sl .ro ku8 A2 k3 x1, sl m7 ku8 A5 k6 x4, sl m11 ku8 A9 k10 x8] ++ F) w) (H : J1 z x1 x4 x8 x16 = some r) : Gets Tryd.prog 85 ptJ1 a w (R F x1 A2 k3 x4 A5 k6 m7 x8 A9 k10 m11 r) := by
 refine rg (r_pv T rfl rfl fun _ T => r_pv T rfl rfl fun _ T => Gets.seq ?_)
 exact J2_ok F r z x1 A2 k3 x4 A5 k6 m7 x8 A9 k10 m11 x12 x16 _ _ (T.sub ⟨rfl, rfl, rfl, rfl, trivial⟩) (S.only (p := [sl .ro ku8 A2 k3 x1, sl m7 ku8 A5 k6 x4, sl m11 ku8 A9 k10 x8]) [0, 0, 0] rfl) H
theorem J0_ok (F : List Atom) (r : (List Int)) (z : Nat) (x1 : List Int) (A2 : OA) (k3 : Nat) (x4 : List Int) (A5 : OA) (k6 : Nat) (m7 : Md) (x8 : List Int) (A9 : OA) (k10 : Nat) (m11 : Md) (x12 x16 : Int) (a : Act) (w : World) (T : Tm 132 [(0, .slice A2 x1.length k3), (1, .slice A5 x4.length k6), (2, .slice A9 x8.length k10), (3, .int .i64 x12), (9, .int .i64 x16)] a) (S : SL ([sl .ro ku8 A2 k3 x1, sl m7 ku8 A5 k6 x4, sl m11 ku8 A9 k10 x8] ++ F) w) (H : J0 z x1 x4 x8 x12 x16 = some r) : Gets Tryd.prog 85 ptJ0 a w (R F x1 A2 k3 x4 A5 k6 m7 x8 A9 k10 m11 r) := by
 refine rg (r_pv T rfl rfl fun _ T => r_pv T rfl rfl fun _ T => ?_)
 rcases ifE H with ⟨h17, H⟩ | ⟨h17, H⟩
 ·refine cdT T rfl h17 ?_
  refine Gets.seq (rg (r_pv T rfl rfl fun _ T => ?_))
  replace S := S.nil ku8 .own
  obtain ⟨h20, H⟩ := ck H
  refine r_app (ix := 0) (iy := 1) (xs := ([] : List Int)) (ys := x1) T S rfl rfl rfl rfl (by decide) sty29 Tryd.runUnderlying29 (by decide) h20 rfl fun _ _ A18 k19 S T => ?_
  replace S : SL ([sl .own ku8 A18 k19 (([] : List Int) ++ x1), sl .ro ku8 A2 k3 x1, sl m7 ku8 A5 k6 x4, sl m11 ku8 A9 k10 x8] ++ F) _ := S
  refine r_pv T rfl rfl fun _ T => ?_
  replace H := Option.some.inj H
  subst H
  exact rtn T Tryd.func85 rfl rfl ⟨A18, k19, rfl, (S.only (p := [sl .own ku8 A18 k19 (([] : List Int) ++ x1), sl .ro ku8 A2 k3 x1, sl m7 ku8 A5 k6 x4, sl m11 ku8 A9 k10 x8]) [0, 0, 0, 0] rfl)⟩
 ·refine cdF T rfl h17 ?_
  refine Gets.skip (Gets.seq (Gets.seq ?_))
  refine rg (r_pv T rfl rfl fun _ T => r_pv T rfl rfl fun _ T => r_pv T rfl rfl fun _ T => ?_)
  rcases ifE H with ⟨h21, H⟩ | ⟨h21, H⟩
  ·refine g_no T rfl rfl h21 rfl fun _ T => ?_
   refine g_no T rfl rfl h21 rfl fun _ T => g_no T rfl rfl h21 rfl fun _ T => r_pickT T rfl h21 rfl rfl fun _ T => cdT T rfl rfl ?_
   exact J1_ok F r z x1 A2 k3 x4 A5 k6 m7 x8 A9 k10 m11 x16 x12 _ _ (T.sub ⟨rfl, rfl, rfl, rfl, trivial⟩) (S.only (p := [sl .ro ku8 A2 k3 x1, sl m7 ku8 A5 k6 x4, sl m11 ku8 A9 k10 x8]) [0, 0, 0] rfl) H
  ·refine g_yes T rfl rfl h21 ?_
   refine r_pv T rfl rfl fun _ T => g_yes T rfl rfl h21 (r_pv T rfl rfl fun _ T => g_yes T rfl rfl h21 ?_)
   refine r_pv T rfl rfl fun _ T => r_pickF T rfl h21 rfl rfl fun _ T => ?_
   rcases ifE H with ⟨h22, H⟩ | ⟨h22, H⟩
   ·refine cdT T rfl h22 ?_
    exact J1_ok F r z x1 A2 k3 x4 A5 k6 m7 x8 A9 k10 m11 x16 x12 _ _ (T.sub ⟨rfl, rfl, rfl, rfl, trivial⟩) (S.only (p := [sl .ro ku8 A2 k3 x1, sl m7 ku8 A5 k6 x4, sl m11 ku8 A9 k10 x8]) [0, 0, 0] rfl) H
   ·refine cdF T rfl h22 ?_
    refine Gets.skip (Gets.seq ?_)
    exact J2_ok F r z x1 A2 k3 x4 A5 k6 m7 x8 A9 k10 m11 x12 x12 _ _ (T.sub ⟨rfl, rfl, rfl, rfl, trivial⟩) (S.only (p := [sl .ro ku8 A2 k3 x1, sl m7 ku8 A5 k6 x4, sl m11 ku8 A9 k10 x8]) [0, 0, 0] rfl) H
theorem ok (F : List Atom) (w : World) (z : Nat) (x1 x4 x8 : List Int) (x12 : Int) {A2 : OA} {k3 : Nat} {A5 : OA} {k6 : Nat} {m7 : Md} {A9 : OA} {k10 : Nat} {m11 : Md} (S : SL ([sl .ro ku8 A2 k3 x1, sl m7 ku8 A5 k6 x4, sl m11 ku8 A9 k10 x8] ++ F) w) (r : (List Int)) (H : f z x1 x4 x8 x12 = some r) : Calls Tryd.prog 85 #[.slice A2 x1.length k3, .slice A5 x4.length k6, .slice A9 x8.length k10, .int .i64 x12] w (R F x1 A2 k3 x4 A5 k6 m7 x8 A9 k10 m11 r) := by
 refine enter (vs := [.slice A2 x1.length k3, .slice A5 x4.length k6, .slice A9 x8.length k10, .int .i64 x12]) Tryd.func85 rfl Tryd.ntmps85 (Nat.le_of_ble_eq_true rfl) fun a T => ?_
 refine Gets.seq (rg (r_pv T rfl rfl fun _ T => Gets.seq ?_))
 refine rg (r_pv T rfl rfl fun _ T => ?_)
 refine Gets.seq (Gets.seq ?_)
 refine rg (r_pv T rfl rfl fun _ T => r_pv T rfl rfl fun _ T => ?_)
 rcases ifE H with ⟨h13, H⟩ | ⟨h13, H⟩
 ·refine cdT T rfl h13 ?_
  refine rg (r_pv T rfl rfl fun _ T => r_pv T rfl rfl fun _ T => ?_)
  replace S := S.dup (i := 0) rfl
  obtain ⟨x15, h14, H⟩ := bd H
  refine r_call T Tryd.call88 rfl rfl (bytes_Count.ok _ _ z x1 x4 (S.sel (p := [sl .ro ku8 A2 k3 x1, sl m7 ku8 A5 k6 x4]) (is := [0, 1]) rfl) _ h14) ?_
  rintro _ _ ⟨rfl, S⟩
  refine ⟨_, rfl, fun _ T => ?_⟩
  replace S : SL ([sl m7 ku8 A5 k6 x4, sl .ro ku8 A2 k3 x1, sl m11 ku8 A9 k10 x8] ++ F) _ := S.join.only [1, 1, 1] rfl
  refine r_pv T rfl rfl fun _ T => ?_
  refine Gets.seq (Gets.seq ?_)
  exact J0_ok F r z x1 A2 k3 x4 A5 k6 m7 x8 A9 k10 m11 x12 x15 _ _ (T.sub ⟨rfl, rfl, rfl, rfl, rfl, trivial⟩) (S.only (p := [sl .ro ku8 A2 k3 x1, sl m7 ku8 A5 k6 x4, sl m11 ku8 A9 k10 x8]) [1, 0, 0] rfl) H
 ·refine cdF T rfl h13 ?_
  refine Gets.skip (Gets.seq (Gets.seq ?_))
  exact J0_ok F r z x1 A2 k3 x4 A5 k6 m7 x8 A9 k10 m11 x12 0 _ _ (T.sub ⟨rfl, rfl, rfl, rfl, rfl, trivial⟩) (S.only (p := [sl .ro ku8 A2 k3 x1, sl m7 ku8 A5 k6 x4, sl m11 ku8 A9 k10 x8]) [0, 0, 0] rfl) H
end bytes_Replace
end Go.Proofs.YtohelmfkpmphoaaDoor
namespace Go.Proofs.YtohelmfkpmphoaaDoor
open Go Go.Proofs.YtohelmfkpmphoaaDoor.X
set_option linter.unusedVariables false
set_option linter.unusedSimpArgs false
set_option maxRecDepth 100000
set_option maxHeartbeats 4000000
namespace bytes_ReplaceAll
def R (F : List Atom) (x1 : List Int) (A2 : OA) (k3 : Nat) (x4 : List Int) (A5 : OA) (k6 : Nat) (m7 : Md) (x8 : List Int) (A9 : OA) (k10 : Nat) (m11 : Md) (r : (List Int)) : Ending → World → Prop := fun e w' => ∃ (A16 : OA), ∃ (k17 : Nat), e = .returned (.slice A16 r.length k17) ∧ SL ([sl .own ku8 A16 k17 r, sl .ro ku8 A2 k3 x1, sl m7 ku8 A5 k6 x4, sl m11 ku8 A9 k10 x8] ++ F) w'
def f (z : Nat) (x1 x4 x8 : List Int) : Option (List Int) := Bd (bytes_Replace.f z x1 x4 x8 (-1)) fun x13 => some x13
theorem ok (F : List Atom) (w : World) (z : Nat) (x1 x4 x8 : List Int) {A2 : OA} {k3 : Nat} {A5 : OA} {k6 : Nat} {m7 : Md} {A9 : OA} {k10 : Nat} {m11 : Md} (S : SL ([sl .ro ku8 A2 k3 x1, sl m7 ku8 A5 k6 x4, sl m11 ku8 A9 k10 x8] ++ F) w) (r : (List Int)) (H : f z x1 x4 x8 = some r) : Calls Tryd.prog 80 #[.slice A2 x1.length k3, .slice A5 x4.length k6, .slice A9 x8.length k10] w (R F x1 A2 k3 x4 A5 k6 m7 x8 A9 k10 m11 r) := by
 refine enter (vs := [.slice A2 x1.length k3, .slice A5 x4.length k6, .slice A9 x8.length k10]) Tryd.func80 rfl Tryd.ntmps80 (Nat.le_of_ble_eq_true rfl) fun a T => ?_
 refine Gets.seq (rg (r_pv T rfl rfl fun _ T => Gets.seq ?_))
 refine rg (r_pv T rfl rfl fun _ T => r_pv T rfl rfl fun _ T => r_pv T rfl rfl fun _ T => ?_)
 replace S := S.dup (i := 0) rfl
 obtain ⟨x13, h12, H⟩ := bd H
 refine r_call T Tryd.call85 rfl rfl (bytes_Replace.ok _ _ z x1 x4 x8 (-1) (S.sel (p := [sl .ro ku8 A2 k3 x1, sl m7 ku8 A5 k6 x4, sl m11 ku8 A9 k10 x8]) (is := [0, 1, 1]) rfl) _ h12) ?_
 rintro _ _ ⟨A14, k15, rfl, S⟩
 refine ⟨_, rfl, fun _ T => ?_⟩
 replace S : SL ([sl .own ku8 A14 k15 x13, sl m7 ku8 A5 k6 x4, sl m11 ku8 A9 k10 x8, sl .ro ku8 A2 k3 x1] ++ F) _ := S.join.only [0, 1, 1, 1] rfl
 refine r_pv T rfl rfl fun _ T => ?_
 replace H := Option.some.inj H
 subst H
 exact rtn T Tryd.func80 rfl rfl ⟨A14, k15, rfl, (S.only (p := [sl .own ku8 A14 k15 x13, sl .ro ku8 A2 k3 x1, sl m7 ku8 A5 k6 x4, sl m11 ku8 A9 k10 x8]) [0, 2, 0, 0] rfl)⟩
end bytes_ReplaceAll
end Go.Proofs.YtohelmfkpmphoaaDoor
namespace Go.Proofs.YtohelmfkpmphoaaDoor
open Go Go.Proofs.YtohelmfkpmphoaaDoor.X
set_option linter.unusedVariables false
set_option linter.unusedSimpArgs false
set_option maxRecDepth 100000
set_option maxHeartbeats 4000000
namespace codec_KeyText
def R (F : List Atom) (x1 : List Int) (A2 : OA) (k3 : Nat) (r : (List Int)) : Ending → World → Prop := fun e w' => ∃ (A16 : OA), ∃ (k17 : Nat), e = .returned (.slice A16 r.length k17) ∧ SL ([sl .own ku8 A16 k17 r, sl .ro ku8 A2 k3 x1] ++ F) w'
def f (z : Nat) (x1 : List Int) : Option (List Int) := Bd (bytes_ReplaceAll.f z x1 [0] [0, 255]) fun x7 => Bd (slices_Concat_byte.f z [x7, [0, 1]]) fun x13 => some x13
abbrev y0 (b4 : Nat) : Atom := sl .own ku8 (some ⟨b4, 0, none⟩) 1 [0]
abbrev y1 (b5 : Nat) : Atom := sl .own ku8 (some ⟨b5, 0, none⟩) 2 [0, 255]
theorem ok (F : List Atom) (w : World) (z : Nat) (x1 : List Int) {A2 : OA} {k3 : Nat} (S : SL ([sl .ro ku8 A2 k3 x1] ++ F) w) (r : (List Int)) (H : f z x1 = some r) : Calls Tryd.prog 67 #[.slice A2 x1.length k3] w (R F x1 A2 k3 r) := by
 refine enter (vs := [.slice A2 x1.length k3]) Tryd.func67 rfl Tryd.ntmps67 (Nat.le_of_ble_eq_true rfl) fun a T => ?_
 refine Gets.seq (rg (r_pv T rfl rfl fun _ T => Gets.seq ?_))
 refine rg (r_pv T rfl rfl fun _ T => ?_)
 replace S := SL.val (κ := ku8) (x := 0) (cs := [.int .u8 0]) (fun _ => rfl) S
 refine r_bsl (κ := ku8) (xs := [0]) (vs := [.int .u8 0]) T S sty29 rfl ⟨_, _, rfl, ⟨0, rfl⟩, rfl⟩ rfl (by decide) rfl fun _ _ b4 S T => ?_
 replace S : SL ([(y0 b4), sl .ro ku8 A2 k3 x1] ++ F) _ := S.only [0, 1] rfl
 replace S := SL.val (κ := ku8) (x := 0) (cs := [.int .u8 0]) (fun _ => rfl) S
 replace S := SL.val (κ := ku8) (x := 255) (cs := [.int .u8 255]) (fun _ => rfl) S
 refine r_bsl (κ := ku8) (xs := [0, 255]) (vs := [.int .u8 0, .int .u8 255]) T S sty29 rfl ⟨_, _, rfl, ⟨1, rfl⟩, ⟨_, _, rfl, ⟨0, rfl⟩, rfl⟩⟩ rfl (by decide) rfl fun _ _ b5 S T => ?_
 replace S : SL ([(y1 b5), (y0 b4), sl .ro ku8 A2 k3 x1] ++ F) _ := S.only [0, 2, 2] rfl
 replace S := S.dup (i := 2) rfl
 obtain ⟨x7, h6, H⟩ := bd H
 refine r_call T Tryd.call80 rfl rfl (bytes_ReplaceAll.ok _ _ z x1 [0] [0, 255] (S.sel (p := [sl .ro ku8 A2 k3 x1, (y0 b4), (y1 b5)]) (is := [0, 1, 0]) rfl) _ h6) ?_
 rintro _ _ ⟨A8, k9, rfl, S⟩
 refine ⟨_, rfl, fun _ T => ?_⟩
 replace S : SL ([sl .own ku8 A8 k9 x7, (y0 b4), (y1 b5), sl .ro ku8 A2 k3 x1] ++ F) _ := S.join.only [0, 1, 1, 1] rfl
 refine r_pv T rfl rfl fun _ T => Gets.seq (rg (r_pv T rfl rfl fun _ T => ?_))
 replace S := SL.val (κ := ku8) (x := 0) (cs := [.int .u8 0]) (fun _ => rfl) S
 replace S := SL.val (κ := ku8) (x := 1) (cs := [.int .u8 1]) (fun _ => rfl) S
 refine r_bsl (κ := ku8) (xs := [0, 1]) (vs := [.int .u8 0, .int .u8 1]) T S sty29 rfl ⟨_, _, rfl, ⟨1, rfl⟩, ⟨_, _, rfl, ⟨0, rfl⟩, rfl⟩⟩ rfl (by decide) rfl fun _ _ b10 S T => ?_
 replace S : SL ([sl .own ku8 (some ⟨b10, 0, none⟩) 2 [0, 1], sl .own ku8 A8 k9 x7, (y0 b4), (y1 b5), sl .ro ku8 A2 k3 x1] ++ F) _ := S.only [0, 2, 2, 2, 2] rfl
 replace S : SL ([sl .own ku8 (some ⟨b10, 0, none⟩) 2 [0, 1], sl .ro ku8 A8 k9 x7, (y0 b4), (y1 b5), sl .ro ku8 A2 k3 x1] ++ F) _ := S.fixL (i := 1) rfl rfl
 replace S := S.asVal (i := 1) (xs := x7) rfl
 replace S : SL ([rp (kSl ku8) x7 [.slice A8 x7.length k9], sl .ro ku8 (some ⟨b10, 0, none⟩) 2 [0, 1], sl .ro ku8 A8 k9 x7, (y0 b4), (y1 b5), sl .ro ku8 A2 k3 x1] ++ F) _ := S.fixL (i := 1) rfl rfl
 replace S := S.asVal (i := 1) (xs := [0, 1]) rfl
 refine r_bsl (κ := (kSl ku8)) (xs := [x7, [0, 1]]) (vs := [.slice A8 x7.length k9, .slice (some ⟨b10, 0, none⟩) 2 2]) T S sty92 rfl ⟨_, _, rfl, ⟨1, rfl⟩, ⟨_, _, rfl, ⟨0, rfl⟩, rfl⟩⟩ rfl (by decide) rfl fun _ _ b11 S T => ?_
 replace S : SL ([sl .own (kSl ku8) (some ⟨b11, 0, none⟩) 2 [x7, [0, 1]], sl .ro ku8 (some ⟨b10, 0, none⟩) 2 [0, 1], sl .ro ku8 A8 k9 x7, (y0 b4), (y1 b5), sl .ro ku8 A2 k3 x1] ++ F) _ := S.only [0, 2, 2, 2, 2, 2] rfl
 obtain ⟨x13, h12, H⟩ := bd H
 refine r_call T Tryd.call25 rfl rfl (slices_Concat_byte.ok _ _ z [x7, [0, 1]] (S.sel (p := [sl .own (kSl ku8) (some ⟨b11, 0, none⟩) 2 [x7, [0, 1]]]) (is := [0]) rfl) _ h12) ?_
 rintro _ _ ⟨A14, k15, rfl, S⟩
 refine ⟨_, rfl, fun _ T => ?_⟩
 replace S : SL ([sl .own ku8 A14 k15 x13, sl .own (kSl ku8) (some ⟨b11, 0, none⟩) 2 [x7, [0, 1]], sl .ro ku8 (some ⟨b10, 0, none⟩) 2 [0, 1], sl .ro ku8 A8 k9 x7, (y0 b4), (y1 b5), sl .ro ku8 A2 k3 x1] ++ F) _ := S.join
 refine r_pv T rfl rfl fun _ T => ?_
 replace H := Option.some.inj H
 subst H
 exact rtn T Tryd.func67 rfl rfl ⟨A14, k15, rfl, (S.only (p := [sl .own ku8 A14 k15 x13, sl .ro ku8 A2 k3 x1]) [0, 5] rfl)⟩
end codec_KeyText
end Go.Proofs.YtohelmfkpmphoaaDoor
namespace Go.Proofs.YtohelmfkpmphoaaDoor
open Go Go.Proofs.YtohelmfkpmphoaaDoor.X
set_option linter.unusedVariables false
set_option linter.unusedSimpArgs false
set_option maxRecDepth 100000
set_option maxHeartbeats 4000000
namespace codec_TakeKeyText
noncomputable def c0 : Code := match Tryd.f58.body with | some c => c | none => .skip
def R (F : List Atom) (x1 : List Int) (A2 : OA) (k3 : Nat) (r : (List Int) × Int × Int) : Ending → World → Prop := fun e w' => ∃ (A30 : OA), ∃ (k31 : Nat), e = .returned (.tuple #[.slice A30 r.1.length k31, .int .i64 r.2.1, .int .i64 r.2.2]) ∧ SL ([sl .own ku8 A30 k31 r.1, sl .ro ku8 A2 k3 x1] ++ F) w'
def J1 (z : Nat) : Option ((List Int) × Int × Int) := some (([] : List Int), 0, 10)
def L0 (z : Nat) (x1 : List Int) : Nat → (List Int) → Int → Option ((List Int) × Int × Int)
 | 0, _, _ => none
 | m + 1, x4, x7 => Ck (0 ≤ x7 ∧ x7 ≤ (x1.length : Int)) (Bd (bytes_IndexByte.f (cut x1 (Int.toNat x7) (Int.toNat (x1.length : Int))) 0) fun x12 => If (decide (x12 < 0)) (J1 z) (If ((wr .i64 ((wr .i64 (x7 + x12)) + 1)) == (x1.length : Int)) (J1 z) (Ck (x7 ≤ wr .i64 (x7 + x12) ∧ wr .i64 (x7 + x12) ≤ (x1.length : Int)) (Ck ((x4.length + (cut x1 (Int.toNat x7) (Int.toNat (wr .i64 (x7 + x12)))).length) * 1 ≤ 140737488355328) (Ck (0 ≤ wr .i64 ((wr .i64 (x7 + (wr .i64 (x12 + 2)))) - 1) ∧ wr .i64 ((wr .i64 (x7 + (wr .i64 (x12 + 2)))) - 1) < (x1.length : Int)) (If ((gi (0 : Int) x1 (wr .i64 ((wr .i64 (x7 + (wr .i64 (x12 + 2)))) - 1))) == 1) (Bd (slices_Clip_byte.f (x4 ++ (cut x1 (Int.toNat x7) (Int.toNat (wr .i64 (x7 + x12)))))) fun x23 => some (x23, wr .i64 (x7 + (wr .i64 (x12 + 2))), 0)) (If ((gi (0 : Int) x1 (wr .i64 ((wr .i64 (x7 + (wr .i64 (x12 + 2)))) - 1))) == 255) (Ck (((x4 ++ (cut x1 (Int.toNat x7) (Int.toNat (wr .i64 (x7 + x12))))).length + [0].length) * 1 ≤ 140737488355328) (L0 z x1 m ((x4 ++ (cut x1 (Int.toNat x7) (Int.toNat (wr .i64 (x7 + x12))))) ++ [0]) (wr .i64 (x7 + (wr .i64 (x12 + 2)))))) (some (([] : List Int), 0, 11)))))))))
def f (z : Nat) (x1 : List Int) : Option ((List Int) × Int × Int) := L0 z x1 z [] 0
noncomputable def ptJ1 : List Item := [.code (cL (cT (cR (cL (cR (cB (cB (cB (cr 3 c0))))))))), .code (cR (cT (cR (cL (cR (cB (cB (cB (cr 3 c0))))))))), .code (cR (cR (cB (cB (cB (cr 3 c0)))))), .inBlock 1, .inLoop (cB (cB (cr 3 c0))), .inBlock 0]
noncomputable def ptL0 : List Item := [.code (cB (cB (cr 3 c0))), .inLoop (cB (cB (cr 3 c0))), .inBlock 0]
abbrev y0 (A10 : OA) (k3 : Nat) (x7 : Int) (x1 : List Int) : Atom := sl .ro ku8 A10 (Int.toNat (k3 : Int) - Int.toNat x7) (cut x1 (Int.toNat x7) (Int.toNat (x1.length : Int)))
abbrev y1 (A16 : OA) (k3 : Nat) (x7 : Int) (x1 : List Int) (x12 : Int) : Atom := sl .ro ku8 A16 (Int.toNat (k3 : Int) - Int.toNat x7) (cut x1 (Int.toNat x7) (Int.toNat (wr .i64 (x7 + x12))))
theorem J1_ok (F : List Atom) (r : (List Int) × Int × Int) (z : Nat) (x1 : List Int) (A2 : OA) (k3 : Nat) (a : Act) (w : World) (T : Tm 50 [] a) (S : SL ([sl .ro ku8 A2 k3 x1] ++ F) w) (H : J1 z = some r) : Gets Tryd.prog 58 ptJ1 a w (R F x1 A2 k3 r) := by
 refine rg (r_pv T rfl rfl fun _ T => r_pv T rfl rfl fun _ T => r_pv T rfl rfl fun _ T => ?_)
 replace S := S.nil ku8 .own
 replace H := Option.some.inj H
 subst H
 exact rtn T Tryd.func58 rfl rfl ⟨none, 0, rfl, (S.only (p := [sl .own ku8 none 0 ([] : List Int), sl .ro ku8 A2 k3 x1]) [0, 0] rfl)⟩
theorem L0_ok (F : List Atom) (r : (List Int) × Int × Int) (z : Nat) (x1 : List Int) (A2 : OA) (k3 m : Nat) : ∀ (A5 : OA) (x4 : List Int) (k6 : Nat) (x7 : Int) (a : Act) (w : World), Tm 50 [(0, .slice A2 x1.length k3), (5, .slice A5 x4.length k6), (6, .int .i64 x7)] a → SL ([sl .ro ku8 A2 k3 x1, sl .own ku8 A5 k6 x4] ++ F) w → L0 z x1 m x4 x7 = some r → Gets Tryd.prog 58 ptL0 a w (R F x1 A2 k3 r) := by
 induction m with
 | zero => intro _ _ _ _ _ _ _ _ H; cases H
 | succ m ih =>
  intro A5 x4 k6 x7 a w T S H
  refine Gets.block (Gets.seq (rg (r_pv T rfl rfl fun _ T => ?_)))
  refine r_pv T rfl rfl fun _ T => ?_
  have h8 := S.len (i := 0) rfl
  obtain ⟨h9, H⟩ := ck H
  refine r_slR (ix := 0) (xs := x1) T S rfl rfl (fun h => by cases h) rfl rfl rfl h9.1 h9.2 (Int.le_refl _) (by omega) (by omega) Tryd.runUnderlying29 Tryd.sizeOf5 rfl fun _ A10 S T => ?_
  obtain ⟨x12, h11, H⟩ := bd H
  refine r_call T Tryd.call73 rfl rfl (bytes_IndexByte.ok _ _ (cut x1 (Int.toNat x7) (Int.toNat (x1.length : Int))) 0 (S.sel (p := [(y0 A10 k3 x7 x1)]) (is := [0]) rfl) _ h11) ?_
  rintro _ _ ⟨rfl, S⟩
  refine ⟨_, rfl, fun _ T => ?_⟩
  replace S : SL ([(y0 A10 k3 x7 x1), sl .ro ku8 A2 k3 x1, sl .own ku8 A5 k6 x4] ++ F) _ := S.join
  refine r_pv T rfl rfl fun _ T => ?_
  refine Gets.seq (Gets.seq ?_)
  refine rg (r_pv T rfl rfl fun _ T => r_pv T rfl rfl fun _ T => r_pv T rfl rfl fun _ T => ?_)
  rcases ifE H with ⟨h13, H⟩ | ⟨h13, H⟩
  ·refine g_no T rfl rfl h13 rfl fun _ T => ?_
   refine g_no T rfl rfl h13 rfl fun _ T => g_no T rfl rfl h13 rfl fun _ T => g_no T rfl rfl h13 rfl fun _ T => g_no T rfl rfl h13 rfl fun _ T => ?_
   refine g_no T rfl rfl h13 rfl fun _ T => g_no T rfl rfl h13 rfl fun _ T => r_pickT T rfl h13 rfl rfl fun _ T => cdT T rfl rfl ?_
   refine Gets.seq ?_
   exact J1_ok F r z x1 A2 k3 _ _ (T.sub trivial) (S.only (p := [sl .ro ku8 A2 k3 x1]) [1] rfl) H
  ·refine g_yes T rfl rfl h13 ?_
   refine r_pv T rfl rfl fun _ T => g_yes T rfl rfl h13 (r_pv T rfl rfl fun _ T => g_yes T rfl rfl h13 ?_)
   refine r_pv T rfl rfl fun _ T => g_yes T rfl rfl h13 (r_pv T rfl rfl fun _ T => g_yes T rfl rfl h13 ?_)
   refine r_pv T rfl rfl fun _ T => g_yes T rfl rfl h13 (r_lenS T rfl Tryd.runUnderlying29 rfl fun _ T => g_yes T rfl rfl h13 ?_)
   refine r_pv T rfl rfl fun _ T => r_pickF T rfl h13 rfl rfl fun _ T => ?_
   rcases ifE H with ⟨h14, H⟩ | ⟨h14, H⟩
   ·refine cdT T rfl h14 ?_
    refine Gets.seq ?_
    exact J1_ok F r z x1 A2 k3 _ _ (T.sub trivial) (S.only (p := [sl .ro ku8 A2 k3 x1]) [1] rfl) H
   ·refine cdF T rfl h14 ?_
    refine Gets.skip (Gets.seq ?_)
    refine rg (r_pv T rfl rfl fun _ T => r_pv T rfl rfl fun _ T => r_pv T rfl rfl fun _ T => ?_)
    refine r_pv T rfl rfl fun _ T => r_pv T rfl rfl fun _ T => r_pv T rfl rfl fun _ T => ?_
    obtain ⟨h15, H⟩ := ck H
    refine r_slR (ix := 1) (xs := x1) T S rfl rfl (fun h => by cases h) rfl rfl rfl h9.1 h15.1 h15.2 (by have := h15.2; omega) (by omega) Tryd.runUnderlying29 Tryd.sizeOf5 rfl fun _ A16 S T => ?_
    obtain ⟨h19, H⟩ := ck H
    refine r_app (ix := 3) (iy := 0) (xs := x4) (ys := (cut x1 (Int.toNat x7) (Int.toNat (wr .i64 (x7 + x12))))) T S rfl rfl rfl rfl (by decide) sty29 Tryd.runUnderlying29 (by decide) h19 rfl fun _ _ A17 k18 S T => ?_
    replace S : SL ([(y1 A16 k3 x7 x1 x12), (y0 A10 k3 x7 x1), sl .ro ku8 A2 k3 x1, sl .own ku8 A17 k18 (x4 ++ (cut x1 (Int.toNat x7) (Int.toNat (wr .i64 (x7 + x12)))))] ++ F) _ := S
    refine r_pv T rfl rfl fun _ T => Gets.seq (rg (r_pv T rfl rfl fun _ T => ?_))
    refine r_pv T rfl rfl fun _ T => r_pv T rfl rfl fun _ T => r_pv T rfl rfl fun _ T => r_pv T rfl rfl fun _ T => ?_
    refine Gets.seq (rg (r_pv T rfl rfl fun _ T => r_pv T rfl rfl fun _ T => ?_))
    refine r_pv T rfl rfl fun _ T => ?_
    obtain ⟨h20, H⟩ := ck H
    refine r_ia (ix := 2) T S rfl rfl rfl rfl Tryd.runUnderlying29 Tryd.sizeOf5 h20.1 h20.2 rfl fun _ T => r_ldE (ix := 2) (i := wr .i64 ((wr .i64 (x7 + (wr .i64 (x12 + 2)))) - 1)) (off := 0) (f := (Value.int .u8)) T S rfl Tryd.isAgg5 rfl (0 : Int) _ rfl rfl (Fld.all _) h20.1 h20.2 (fun h => h) rfl fun _ T => ?_
    refine Gets.block (Gets.seq ?_)
    refine rg (r_pv T rfl rfl fun _ T => r_pv T rfl rfl fun _ T => ?_)
    rcases ifE H with ⟨h21, H⟩ | ⟨h21, H⟩
    ·refine cdT T rfl h21 ?_
     refine Gets.seq (rg (r_pv T rfl rfl fun _ T => ?_))
     obtain ⟨x23, h22, H⟩ := bd H
     refine r_call T Tryd.call30 rfl rfl (slices_Clip_byte.ok _ _ (x4 ++ (cut x1 (Int.toNat x7) (Int.toNat (wr .i64 (x7 + x12))))) (S.sel (p := [sl .own ku8 A17 k18 (x4 ++ (cut x1 (Int.toNat x7) (Int.toNat (wr .i64 (x7 + x12)))))]) (is := [3]) rfl) _ h22) ?_
     rintro _ _ ⟨A24, rfl, S⟩
     refine ⟨_, rfl, fun _ T => ?_⟩
     replace S : SL ([sl .own ku8 A24 x23.length x23, (y1 A16 k3 x7 x1 x12), (y0 A10 k3 x7 x1), sl .ro ku8 A2 k3 x1] ++ F) _ := S.join
     refine r_pv T rfl rfl fun _ T => r_pv T rfl rfl fun _ T => r_pv T rfl rfl fun _ T => r_pv T rfl rfl fun _ T => ?_
     replace H := Option.some.inj H
     subst H
     exact rtn T Tryd.func58 rfl rfl ⟨A24, x23.length, rfl, (S.only (p := [sl .own ku8 A24 x23.length x23, sl .ro ku8 A2 k3 x1]) [0, 2] rfl)⟩
    ·refine cdF T rfl h21 ?_
     refine Gets.seq (rg (r_pv T rfl rfl fun _ T => r_pv T rfl rfl fun _ T => ?_))
     rcases ifE H with ⟨h25, H⟩ | ⟨h25, H⟩
     ·refine cdT T rfl h25 ?_
      refine rg (r_pv T rfl rfl fun _ T => ?_)
      replace S := SL.val (κ := ku8) (x := 0) (cs := [.int .u8 0]) (fun _ => rfl) S
      refine r_bsl (κ := ku8) (xs := [0]) (vs := [.int .u8 0]) T S sty29 rfl ⟨_, _, rfl, ⟨0, rfl⟩, rfl⟩ rfl (by decide) rfl fun _ _ b26 S T => ?_
      replace S : SL ([sl .own ku8 (some ⟨b26, 0, none⟩) 1 [0], (y1 A16 k3 x7 x1 x12), (y0 A10 k3 x7 x1), sl .ro ku8 A2 k3 x1, sl .own ku8 A17 k18 (x4 ++ (cut x1 (Int.toNat x7) (Int.toNat (wr .i64 (x7 + x12)))))] ++ F) _ := S.only [0, 1, 1, 1, 1] rfl
      obtain ⟨h29, H⟩ := ck H
      refine r_app (ix := 4) (iy := 0) (xs := (x4 ++ (cut x1 (Int.toNat x7) (Int.toNat (wr .i64 (x7 + x12)))))) (ys := [0]) T S rfl rfl rfl rfl (by decide) sty29 Tryd.runUnderlying29 (by decide) h29 rfl fun _ _ A27 k28 S T => ?_
      replace S : SL ([sl .own ku8 (some ⟨b26, 0, none⟩) 1 [0], (y1 A16 k3 x7 x1 x12), (y0 A10 k3 x7 x1), sl .ro ku8 A2 k3 x1, sl .own ku8 A27 k28 ((x4 ++ (cut x1 (Int.toNat x7) (Int.toNat (wr .i64 (x7 + x12))))) ++ [0])] ++ F) _ := S
      refine r_pv T rfl rfl fun _ T => ?_
      refine Gets.inBlock (Gets.inBlock (Gets.inLoop ?_))
      exact ih A27 ((x4 ++ (cut x1 (Int.toNat x7) (Int.toNat (wr .i64 (x7 + x12))))) ++ [0]) k28 (wr .i64 (x7 + (wr .i64 (x12 + 2)))) _ _ (T.sub ⟨rfl, rfl, rfl, trivial⟩) (S.only (p := [sl .ro ku8 A2 k3 x1, sl .own ku8 A27 k28 ((x4 ++ (cut x1 (Int.toNat x7) (Int.toNat (wr .i64 (x7 + x12))))) ++ [0])]) [3, 3] rfl) H
     ·refine cdF T rfl h25 ?_
      refine Gets.seq (rg (r_pv T rfl rfl fun _ T => r_pv T rfl rfl fun _ T => ?_))
      refine r_pv T rfl rfl fun _ T => ?_
      replace S := S.nil ku8 .own
      replace H := Option.some.inj H
      subst H
      exact rtn T Tryd.func58 rfl rfl ⟨none, 0, rfl, (S.only (p := [sl .own ku8 none 0 ([] : List Int), sl .ro ku8 A2 k3 x1]) [0, 2] rfl)⟩
theorem ok (F : List Atom) (w : World) (z : Nat) (x1 : List Int) {A2 : OA} {k3 : Nat} (S : SL ([sl .ro ku8 A2 k3 x1] ++ F) w) (r : (List Int) × Int × Int) (H : f z x1 = some r) : Calls Tryd.prog 58 #[.slice A2 x1.length k3] w (R F x1 A2 k3 r) := by
 refine enter (vs := [.slice A2 x1.length k3]) Tryd.func58 rfl Tryd.ntmps58 (Nat.le_of_ble_eq_true rfl) fun a T => ?_
 refine Gets.seq (rg (r_pv T rfl rfl fun _ T => r_pv T rfl rfl fun _ T => ?_))
 refine r_pv T rfl rfl fun _ T => Gets.seq (rg (r_pv T rfl rfl fun _ T => ?_))
 refine Gets.seq (rg (r_pv T rfl rfl fun _ T => Gets.block ?_))
 refine Gets.loop ?_
 replace S := S.nil ku8 .own
 exact L0_ok F r z x1 A2 k3 z none [] 0 0 _ _ (T.sub ⟨rfl, rfl, rfl, trivial⟩) (S.only (p := [sl .ro ku8 A2 k3 x1, sl .own ku8 none 0 []]) [1, 0] rfl) H
end codec_TakeKeyText
end Go.Proofs.YtohelmfkpmphoaaDoor
namespace Go.Proofs.YtohelmfkpmphoaaDoor
open Go Go.Proofs.YtohelmfkpmphoaaDoor.X
set_option linter.unusedVariables false
set_option linter.unusedSimpArgs false
set_option maxRecDepth 100000
set_option maxHeartbeats 4000000
namespace cormorantref01_KeyInt
noncomputable def c0 : Code := match Tryd.f50.body with | some c => c | none => .skip
def R (F : List Atom) (r : (List Int)) : Ending → World → Prop := fun e w' => ∃ (A11 : OA), ∃ (k12 : Nat), e = .returned (.slice A11 r.length k12) ∧ SL ([sl .own ku8 A11 k12 r] ++ F) w'
def L0 (z : Nat) : Nat → Int → (List Int) → Int → Option (List Int)
 | 0, _, _, _ => none
 | m + 1, x4, x5, x8 => If (decide (x8 ≥ 0)) (Ck (0 ≤ x8 ∧ x8 < (x5.length : Int)) (L0 z m (wr .u64 (Int.tdiv x4 256)) (x5.set (Int.toNat x8) (wr .u8 (Int.tmod x4 256))) (wr .i64 (x8 - 1)))) (some x5)
def f (z : Nat) (x1 : Int) : Option (List Int) := Ck (1 * 8 ≤ 281474976710656) (L0 z z (bXor .u64 (wr .u64 x1) 9223372036854775808) (List.replicate (Int.toNat 8) (0 : Int)) 7)
noncomputable def ptL0 : List Item := [.code (cB (cB (cR (cL (cr 3 c0))))), .inLoop (cB (cB (cR (cL (cr 3 c0))))), .inBlock 0, .code (cr 4 c0)]
theorem L0_ok (F : List Atom) (r : (List Int)) (z : Nat) (x1 : Int) (m : Nat) : ∀ (x4 : Int) (A6 : OA) (x5 : List Int) (k7 : Nat) (x8 : Int) (a : Act) (w : World), Tm 23 [(3, .int .u64 x4), (4, .slice A6 x5.length k7), (5, .int .i64 x8)] a → SL ([sl .own ku8 A6 k7 x5] ++ F) w → L0 z m x4 x5 x8 = some r → Gets Tryd.prog 50 ptL0 a w (R F r) := by
 induction m with
 | zero => intro _ _ _ _ _ _ _ _ _ H; cases H
 | succ m ih =>
  intro x4 A6 x5 k7 x8 a w T S H
  refine Gets.seq (Gets.seq (rg (r_pv T rfl rfl fun _ T => ?_)))
  refine r_pv T rfl rfl fun _ T => ?_
  rcases ifE H with ⟨h9, H⟩ | ⟨h9, H⟩
  ·refine cdT T rfl h9 ?_
   refine Gets.skip (Gets.seq (Gets.block (Gets.seq ?_)))
   refine rg (r_pv T rfl rfl fun _ T => r_pv T rfl rfl fun _ T => r_pv T rfl rfl fun _ T => ?_)
   refine r_rem T rfl rfl (by decide) rfl fun _ T => ?_
   refine r_conv T rfl Tryd.runUnderlying109 Tryd.runUnderlying5 rfl fun _ T => ?_
   obtain ⟨h10, H⟩ := ck H
   refine r_ia (ix := 0) T S rfl rfl rfl rfl Tryd.runUnderlying29 Tryd.sizeOf5 h10.1 h10.2 rfl fun _ T => r_stE (ix := 0) (i := x8) (u := wr .u8 (Int.tmod x4 256)) (l' := [sl .own ku8 A6 k7 (x5.set (Int.toNat x8) (wr .u8 (Int.tmod x4 256)))]) T S rfl rfl rfl rfl (fun _ => rfl) Tryd.sizeOf5 h10.1 h10.2 rfl fun _ S => rg (r_pv T rfl rfl fun _ T => ?_)
   refine r_quo T rfl rfl (by decide) rfl fun _ T => ?_
   refine r_pv T rfl rfl fun _ T => Gets.inBlock (rg (r_pv T rfl rfl fun _ T => ?_))
   refine r_pv T rfl rfl fun _ T => r_pv T rfl rfl fun _ T => Gets.inLoop ?_
   have T := T.re (s := 4) (v' := .slice A6 (x5.set (Int.toNat x8) (wr .u8 (Int.tmod x4 256))).length k7) rfl (by simp)
   exact ih (wr .u64 (Int.tdiv x4 256)) A6 (x5.set (Int.toNat x8) (wr .u8 (Int.tmod x4 256))) k7 (wr .i64 (x8 - 1)) _ _ (T.sub ⟨rfl, rfl, rfl, trivial⟩) (S.only (p := [sl .own ku8 A6 k7 (x5.set (Int.toNat x8) (wr .u8 (Int.tmod x4 256)))]) [0] rfl) H
  ·refine cdF T rfl h9 ?_
   refine Gets.exit rfl (Gets.seq ?_)
   refine rg (r_pv T rfl rfl fun _ T => r_pv T rfl rfl fun _ T => ?_)
   replace H := Option.some.inj H
   subst H
   exact rtn T Tryd.func50 rfl rfl ⟨A6, k7, rfl, (S.only (p := [sl .own ku8 A6 k7 x5]) [0] rfl)⟩
theorem ok (F : List Atom) (w : World) (z : Nat) (x1 : Int) (S : SL ([] ++ F) w) (r : (List Int)) (H : f z x1 = some r) : Calls Tryd.prog 50 #[.int .i64 x1] w (R F r) := by
 refine enter (vs := [.int .i64 x1]) Tryd.func50 rfl Tryd.ntmps50 (Nat.le_of_ble_eq_true rfl) fun a T => ?_
 refine Gets.seq (rg (r_pv T rfl rfl fun _ T => Gets.seq ?_))
 refine rg (r_pv T rfl rfl fun _ T => r_conv T rfl Tryd.runUnderlying2 Tryd.runUnderlying109 rfl fun _ T => r_pv T rfl rfl fun _ T => ?_)
 refine r_pv T rfl rfl fun _ T => Gets.seq (rg ?_)
 obtain ⟨h2, H⟩ := ck H
 refine r_make (κ := ku8) T S rfl rfl sty29 (0 : Int) (fun _ => rfl) (by decide) (Int.le_refl _) (by decide) (by have := h2; omega) rfl fun _ _ b3 S T => ?_
 replace T := T.re (s := 9) (v' := .slice (some ⟨b3, 0, none⟩) (List.replicate (Int.toNat 8) (0 : Int)).length (Int.toNat 8)) rfl (by simp)
 refine r_pv T rfl rfl fun _ T => ?_
 refine Gets.seq (Gets.seq ?_)
 refine rg (r_pv T rfl rfl fun _ T => Gets.block (Gets.loop ?_))
 exact L0_ok F r z x1 z (bXor .u64 (wr .u64 x1) 9223372036854775808) (some ⟨b3, 0, none⟩) (List.replicate (Int.toNat 8) (0 : Int)) (Int.toNat 8) 7 _ _ (T.sub ⟨rfl, rfl, rfl, trivial⟩) (S.only (p := [sl .own ku8 (some ⟨b3, 0, none⟩) (Int.toNat 8) (List.replicate (Int.toNat 8) (0 : Int))]) [0] rfl) H
end cormorantref01_KeyInt
end Go.Proofs.YtohelmfkpmphoaaDoor
namespace Go.Proofs.YtohelmfkpmphoaaDoor
open Go Go.Proofs.YtohelmfkpmphoaaDoor.X
set_option linter.unusedVariables false
set_option linter.unusedSimpArgs false
set_option maxRecDepth 100000
set_option maxHeartbeats 4000000
namespace cormorantref01_TakeKeyInt
noncomputable def c0 : Code := match Tryd.f75.body with | some c => c | none => .skip
def R (F : List Atom) (x1 : List Int) (A2 : OA) (k3 : Nat) (m4 : Md) (r : Int × Int × Int) : Ending → World → Prop := fun e w' => e = .returned (.tuple #[.int .i64 r.1, .int .i64 r.2.1, .int .i64 r.2.2]) ∧ SL ([sl m4 ku8 A2 k3 x1] ++ F) w'
def L0 (z : Nat) (x1 : List Int) : Nat → Int → Int → Option (Int × Int × Int)
 | 0, _, _ => none
 | m + 1, x6, x7 => If (decide (x7 < 8)) (Ck (0 ≤ x7 ∧ x7 < (x1.length : Int)) (L0 z x1 m (wr .u64 ((wr .u64 (256 * x6)) + (wr .u64 (gi (0 : Int) x1 x7)))) (wr .i64 (x7 + 1)))) (some (wr .i64 (bXor .u64 x6 9223372036854775808), 8, 0))
def f (z : Nat) (x1 : List Int) : Option (Int × Int × Int) := If (decide ((x1.length : Int) < 8)) (some (0, 0, 10)) (L0 z x1 z 0 0)
noncomputable def ptL0 : List Item := [.code (cB (cB (cR (cL (cr 3 c0))))), .inLoop (cB (cB (cR (cL (cr 3 c0))))), .inBlock 0, .code (cr 4 c0)]
theorem L0_ok (F : List Atom) (r : Int × Int × Int) (z : Nat) (x1 : List Int) (A2 : OA) (k3 : Nat) (m4 : Md) (m : Nat) : ∀ (x6 x7 : Int) (a : Act) (w : World), Tm 25 [(0, .slice A2 x1.length k3), (5, .int .u64 x6), (6, .int .i64 x7)] a → SL ([sl m4 ku8 A2 k3 x1] ++ F) w → L0 z x1 m x6 x7 = some r → Gets Tryd.prog 75 ptL0 a w (R F x1 A2 k3 m4 r) := by
 induction m with
 | zero => intro _ _ _ _ _ _ H; cases H
 | succ m ih =>
  intro x6 x7 a w T S H
  refine Gets.seq (Gets.seq (rg (r_pv T rfl rfl fun _ T => ?_)))
  refine r_pv T rfl rfl fun _ T => ?_
  rcases ifE H with ⟨h8, H⟩ | ⟨h8, H⟩
  ·refine cdT T rfl h8 ?_
   refine Gets.skip (Gets.seq (Gets.block ?_))
   refine rg (r_pv T rfl rfl fun _ T => r_pv T rfl rfl fun _ T => r_pv T rfl rfl fun _ T => ?_)
   refine r_pv T rfl rfl fun _ T => ?_
   obtain ⟨h9, H⟩ := ck H
   refine r_ia (ix := 0) T S rfl rfl rfl rfl Tryd.runUnderlying29 Tryd.sizeOf5 h9.1 h9.2 rfl fun _ T => r_ldE (ix := 0) (i := x7) (off := 0) (f := (Value.int .u8)) T S rfl Tryd.isAgg5 rfl (0 : Int) _ rfl rfl (Fld.all _) h9.1 h9.2 (fun h => h) rfl fun _ T => r_conv T rfl Tryd.runUnderlying5 Tryd.runUnderlying109 rfl fun _ T => r_pv T rfl rfl fun _ T => ?_
   refine r_pv T rfl rfl fun _ T => Gets.inBlock (rg (r_pv T rfl rfl fun _ T => ?_))
   refine r_pv T rfl rfl fun _ T => r_pv T rfl rfl fun _ T => Gets.inLoop ?_
   exact ih (wr .u64 ((wr .u64 (256 * x6)) + (wr .u64 (gi (0 : Int) x1 x7)))) (wr .i64 (x7 + 1)) _ _ (T.sub ⟨rfl, rfl, rfl, trivial⟩) (S.only (p := [sl m4 ku8 A2 k3 x1]) [0] rfl) H
  ·refine cdF T rfl h8 ?_
   refine Gets.exit rfl (Gets.seq ?_)
   refine rg (r_pv T rfl rfl fun _ T => r_pv T rfl rfl fun _ T => r_conv T rfl Tryd.runUnderlying109 Tryd.runUnderlying2 rfl fun _ T => ?_)
   refine r_pv T rfl rfl fun _ T => r_pv T rfl rfl fun _ T => r_pv T rfl rfl fun _ T => ?_
   replace H := Option.some.inj H
   subst H
   exact rtn T Tryd.func75 rfl rfl ⟨rfl, (S.only (p := [sl m4 ku8 A2 k3 x1]) [0] rfl)⟩
theorem ok (F : List Atom) (w : World) (z : Nat) (x1 : List Int) {A2 : OA} {k3 : Nat} {m4 : Md} (S : SL ([sl m4 ku8 A2 k3 x1] ++ F) w) (r : Int × Int × Int) (H : f z x1 = some r) : Calls Tryd.prog 75 #[.slice A2 x1.length k3] w (R F x1 A2 k3 m4 r) := by
 refine enter (vs := [.slice A2 x1.length k3]) Tryd.func75 rfl Tryd.ntmps75 (Nat.le_of_ble_eq_true rfl) fun a T => ?_
 refine Gets.seq (rg (r_pv T rfl rfl fun _ T => r_pv T rfl rfl fun _ T => ?_))
 refine r_pv T rfl rfl fun _ T => ?_
 refine Gets.seq (Gets.seq ?_)
 refine rg (r_pv T rfl rfl fun _ T => r_lenS T rfl Tryd.runUnderlying29 rfl fun _ T => r_pv T rfl rfl fun _ T => ?_)
 rcases ifE H with ⟨h5, H⟩ | ⟨h5, H⟩
 ·refine cdT T rfl h5 ?_
  refine Gets.seq (rg (r_pv T rfl rfl fun _ T => r_pv T rfl rfl fun _ T => ?_))
  refine r_pv T rfl rfl fun _ T => ?_
  replace H := Option.some.inj H
  subst H
  exact rtn T Tryd.func75 rfl rfl ⟨rfl, (S.only (p := [sl m4 ku8 A2 k3 x1]) [0] rfl)⟩
 ·refine cdF T rfl h5 ?_
  refine Gets.skip (Gets.seq ?_)
  refine rg (r_pv T rfl rfl fun _ T => ?_)
  refine Gets.seq (Gets.seq ?_)
  refine rg (r_pv T rfl rfl fun _ T => Gets.block (Gets.loop ?_))
  exact L0_ok F r z x1 A2 k3 m4 z 0 0 _ _ (T.sub ⟨rfl, rfl, rfl, trivial⟩) (S.only (p := [sl m4 ku8 A2 k3 x1]) [0] rfl) H
end cormorantref01_TakeKeyInt
end Go.Proofs.YtohelmfkpmphoaaDoor
namespace Go.Proofs.YtohelmfkpmphoaaDoor
open Go Go.Proofs.YtohelmfkpmphoaaDoor.X
set_option linter.unusedVariables false
set_option linter.unusedSimpArgs false
set_option maxRecDepth 100000
set_option maxHeartbeats 4000000
namespace cormorantref01_KeyText
noncomputable def c0 : Code := match Tryd.f69.body with | some c => c | none => .skip
def R (F : List Atom) (x1 : List Int) (A2 : OA) (k3 : Nat) (m4 : Md) (r : (List Int)) : Ending → World → Prop := fun e w' => ∃ (A27 : OA), ∃ (k28 : Nat), e = .returned (.slice A27 r.length k28) ∧ SL ([sl .own ku8 A27 k28 r, sl m4 ku8 A2 k3 x1] ++ F) w'
def J1 (z : Nat) (q0 : (List Int) → Int → Option (List Int)) (x1 : List Int) (x8 : Int) (x24 : List Int) : Option (List Int) := q0 x24 (wr .i64 (x8 + 1))
def L0 (z : Nat) (x1 : List Int) : Nat → (List Int) → Int → Option (List Int)
 | 0, _, _ => none
 | m + 1, x5, x8 => If (decide (x8 < (x1.length : Int))) (Ck (0 ≤ x8 ∧ x8 < (x1.length : Int)) (Ck ((x5.length + [gi (0 : Int) x1 x8].length) * 1 ≤ 140737488355328) (If ((gi (0 : Int) x1 x8) == 0) (Ck (((x5 ++ [gi (0 : Int) x1 x8]).length + [255].length) * 1 ≤ 140737488355328) (J1 z (L0 z x1 m) x1 x8 ((x5 ++ [gi (0 : Int) x1 x8]) ++ [255]))) (J1 z (L0 z x1 m) x1 x8 (x5 ++ [gi (0 : Int) x1 x8]))))) (Ck ((x5.length + [0, 1].length) * 1 ≤ 140737488355328) (some (x5 ++ [0, 1])))
def f (z : Nat) (x1 : List Int) : Option (List Int) := L0 z x1 z [] 0
noncomputable def ptJ1 : List Item := [.code (cR (cR (cB (cB (cR (cL (cR (cR c0)))))))), .inLoop (cB (cB (cR (cL (cR (cR c0)))))), .inBlock 0, .code (cr 3 c0)]
noncomputable def ptL0 : List Item := [.code (cB (cB (cR (cL (cR (cR c0)))))), .inLoop (cB (cB (cR (cL (cR (cR c0)))))), .inBlock 0, .code (cr 3 c0)]
theorem J1_ok (F : List Atom) (r : (List Int)) (z : Nat) (x1 : List Int) (A2 : OA) (k3 : Nat) (m4 : Md) (x8 : Int) (q0 : (List Int) → Int → Option (List Int)) (hq0 : ∀ (A6 : OA) (x5 : List Int) (k7 : Nat) (x8 : Int) (a : Act) (w : World), Tm 29 [(0, .slice A2 x1.length k3), (3, .slice A6 x5.length k7), (4, .int .i64 x8)] a → SL ([sl m4 ku8 A2 k3 x1, sl .own ku8 A6 k7 x5] ++ F) w → q0 x5 x8 = some r → Gets Tryd.prog 69 ptL0 a w (R F x1 A2 k3 m4 r)) (A25 : OA) (x24 : List Int) (k26 : Nat) (a : Act) (w : World) (T : Tm 29 [(0, .slice A2 x1.length k3), (3, .slice A25 x24.length k26), (4, .int .i64 x8)] a) (S : SL ([sl m4 ku8 A2 k3 x1, sl .own ku8 A25 k26 x24] ++ F) w) (H : J1 z q0 x1 x8 x24 = some r) : Gets Tryd.prog 69 ptJ1 a w (R F x1 A2 k3 m4 r) := by
 refine rg (r_pv T rfl rfl fun _ T => r_pv T rfl rfl fun _ T => r_pv T rfl rfl fun _ T => ?_)
 refine Gets.inLoop ?_
 exact hq0 A25 x24 k26 (wr .i64 (x8 + 1)) _ _ (T.sub ⟨rfl, rfl, rfl, trivial⟩) (S.only (p := [sl m4 ku8 A2 k3 x1, sl .own ku8 A25 k26 x24]) [0, 0] rfl) H
theorem L0_ok (F : List Atom) (r : (List Int)) (z : Nat) (x1 : List Int) (A2 : OA) (k3 : Nat) (m4 : Md) (m : Nat) : ∀ (A6 : OA) (x5 : List Int) (k7 : Nat) (x8 : Int) (a : Act) (w : World), Tm 29 [(0, .slice A2 x1.length k3), (3, .slice A6 x5.length k7), (4, .int .i64 x8)] a → SL ([sl m4 ku8 A2 k3 x1, sl .own ku8 A6 k7 x5] ++ F) w → L0 z x1 m x5 x8 = some r → Gets Tryd.prog 69 ptL0 a w (R F x1 A2 k3 m4 r) := by
 induction m with
 | zero => intro _ _ _ _ _ _ _ _ H; cases H
 | succ m ih =>
  intro A6 x5 k7 x8 a w T S H
  refine Gets.seq (Gets.seq (rg (r_pv T rfl rfl fun _ T => ?_)))
  refine r_pv T rfl rfl fun _ T => r_lenS T rfl Tryd.runUnderlying29 rfl fun _ T => r_pv T rfl rfl fun _ T => ?_
  rcases ifE H with ⟨h9, H⟩ | ⟨h9, H⟩
  ·refine cdT T rfl h9 ?_
   refine Gets.skip (Gets.seq (Gets.block (Gets.seq ?_)))
   refine rg (r_pv T rfl rfl fun _ T => r_pv T rfl rfl fun _ T => r_pv T rfl rfl fun _ T => ?_)
   obtain ⟨h14, H⟩ := ck H
   refine r_ia (ix := 0) T S rfl rfl rfl rfl Tryd.runUnderlying29 Tryd.sizeOf5 h14.1 h14.2 rfl fun _ T => r_ldE (ix := 0) (i := x8) (off := 0) (f := (Value.int .u8)) T S rfl Tryd.isAgg5 rfl (0 : Int) _ rfl rfl (Fld.all _) h14.1 h14.2 (fun h => h) rfl fun _ T => ?_
   replace S := SL.val (κ := ku8) (x := gi (0 : Int) x1 x8) (cs := [.int .u8 (gi (0 : Int) x1 x8)]) (fun _ => rfl) S
   refine r_bsl (κ := ku8) (xs := [gi (0 : Int) x1 x8]) (vs := [.int .u8 (gi (0 : Int) x1 x8)]) T S sty29 rfl ⟨_, _, rfl, ⟨0, rfl⟩, rfl⟩ rfl (by decide) rfl fun _ _ b15 S T => ?_
   replace S : SL ([sl .own ku8 (some ⟨b15, 0, none⟩) 1 [gi (0 : Int) x1 x8], sl m4 ku8 A2 k3 x1, sl .own ku8 A6 k7 x5] ++ F) _ := S.only [0, 1, 1] rfl
   obtain ⟨h18, H⟩ := ck H
   refine r_app (ix := 2) (iy := 0) (xs := x5) (ys := [gi (0 : Int) x1 x8]) T S rfl rfl rfl rfl (by decide) sty29 Tryd.runUnderlying29 (by decide) h18 rfl fun _ _ A16 k17 S T => ?_
   replace S : SL ([sl .own ku8 (some ⟨b15, 0, none⟩) 1 [gi (0 : Int) x1 x8], sl m4 ku8 A2 k3 x1, sl .own ku8 A16 k17 (x5 ++ [gi (0 : Int) x1 x8])] ++ F) _ := S
   refine r_pv T rfl rfl fun _ T => Gets.seq (rg (r_pv T rfl rfl fun _ T => ?_))
   refine r_pv T rfl rfl fun _ T => r_ia (ix := 1) T S rfl rfl rfl rfl Tryd.runUnderlying29 Tryd.sizeOf5 h14.1 h14.2 rfl fun _ T => r_ldE (ix := 1) (i := x8) (off := 0) (f := (Value.int .u8)) T S rfl Tryd.isAgg5 rfl (0 : Int) _ rfl rfl (Fld.all _) h14.1 h14.2 (fun h => h) rfl fun _ T => r_pv T rfl rfl fun _ T => ?_
   rcases ifE H with ⟨h19, H⟩ | ⟨h19, H⟩
   ·refine cdT T rfl h19 ?_
    refine rg (r_pv T rfl rfl fun _ T => ?_)
    replace S := SL.val (κ := ku8) (x := 255) (cs := [.int .u8 255]) (fun _ => rfl) S
    refine r_bsl (κ := ku8) (xs := [255]) (vs := [.int .u8 255]) T S sty29 rfl ⟨_, _, rfl, ⟨0, rfl⟩, rfl⟩ rfl (by decide) rfl fun _ _ b20 S T => ?_
    replace S : SL ([sl .own ku8 (some ⟨b20, 0, none⟩) 1 [255], sl .own ku8 (some ⟨b15, 0, none⟩) 1 [gi (0 : Int) x1 x8], sl m4 ku8 A2 k3 x1, sl .own ku8 A16 k17 (x5 ++ [gi (0 : Int) x1 x8])] ++ F) _ := S.only [0, 1, 1, 1] rfl
    obtain ⟨h23, H⟩ := ck H
    refine r_app (ix := 3) (iy := 0) (xs := (x5 ++ [gi (0 : Int) x1 x8])) (ys := [255]) T S rfl rfl rfl rfl (by decide) sty29 Tryd.runUnderlying29 (by decide) h23 rfl fun _ _ A21 k22 S T => ?_
    replace S : SL ([sl .own ku8 (some ⟨b20, 0, none⟩) 1 [255], sl .own ku8 (some ⟨b15, 0, none⟩) 1 [gi (0 : Int) x1 x8], sl m4 ku8 A2 k3 x1, sl .own ku8 A21 k22 ((x5 ++ [gi (0 : Int) x1 x8]) ++ [255])] ++ F) _ := S
    refine r_pv T rfl rfl fun _ T => Gets.inBlock ?_
    exact J1_ok F r z x1 A2 k3 m4 x8 (L0 z x1 m) ih A21 ((x5 ++ [gi (0 : Int) x1 x8]) ++ [255]) k22 _ _ (T.sub ⟨rfl, rfl, rfl, trivial⟩) (S.only (p := [sl m4 ku8 A2 k3 x1, sl .own ku8 A21 k22 ((x5 ++ [gi (0 : Int) x1 x8]) ++ [255])]) [2, 2] rfl) H
   ·refine cdF T rfl h19 ?_
    refine Gets.skip (Gets.inBlock ?_)
    exact J1_ok F r z x1 A2 k3 m4 x8 (L0 z x1 m) ih A16 (x5 ++ [gi (0 : Int) x1 x8]) k17 _ _ (T.sub ⟨rfl, rfl, rfl, trivial⟩) (S.only (p := [sl m4 ku8 A2 k3 x1, sl .own ku8 A16 k17 (x5 ++ [gi (0 : Int) x1 x8])]) [1, 1] rfl) H
  ·refine cdF T rfl h9 ?_
   refine Gets.exit rfl (Gets.seq ?_)
   refine rg (r_pv T rfl rfl fun _ T => ?_)
   replace S := SL.val (κ := ku8) (x := 0) (cs := [.int .u8 0]) (fun _ => rfl) S
   replace S := SL.val (κ := ku8) (x := 1) (cs := [.int .u8 1]) (fun _ => rfl) S
   refine r_bsl (κ := ku8) (xs := [0, 1]) (vs := [.int .u8 0, .int .u8 1]) T S sty29 rfl ⟨_, _, rfl, ⟨1, rfl⟩, ⟨_, _, rfl, ⟨0, rfl⟩, rfl⟩⟩ rfl (by decide) rfl fun _ _ b10 S T => ?_
   replace S : SL ([sl .own ku8 (some ⟨b10, 0, none⟩) 2 [0, 1], sl m4 ku8 A2 k3 x1, sl .own ku8 A6 k7 x5] ++ F) _ := S.only [0, 2, 2] rfl
   obtain ⟨h13, H⟩ := ck H
   refine r_app (ix := 2) (iy := 0) (xs := x5) (ys := [0, 1]) T S rfl rfl rfl rfl (by decide) sty29 Tryd.runUnderlying29 (by decide) h13 rfl fun _ _ A11 k12 S T => ?_
   replace S : SL ([sl .own ku8 (some ⟨b10, 0, none⟩) 2 [0, 1], sl m4 ku8 A2 k3 x1, sl .own ku8 A11 k12 (x5 ++ [0, 1])] ++ F) _ := S
   refine r_pv T rfl rfl fun _ T => ?_
   replace H := Option.some.inj H
   subst H
   exact rtn T Tryd.func69 rfl rfl ⟨A11, k12, rfl, (S.only (p := [sl .own ku8 A11 k12 (x5 ++ [0, 1]), sl m4 ku8 A2 k3 x1]) [2, 1] rfl)⟩
theorem ok (F : List Atom) (w : World) (z : Nat) (x1 : List Int) {A2 : OA} {k3 : Nat} {m4 : Md} (S : SL ([sl m4 ku8 A2 k3 x1] ++ F) w) (r : (List Int)) (H : f z x1 = some r) : Calls Tryd.prog 69 #[.slice A2 x1.length k3] w (R F x1 A2 k3 m4 r) := by
 refine enter (vs := [.slice A2 x1.length k3]) Tryd.func69 rfl Tryd.ntmps69 (Nat.le_of_ble_eq_true rfl) fun a T => ?_
 refine Gets.seq (rg (r_pv T rfl rfl fun _ T => Gets.seq ?_))
 refine rg (r_pv T rfl rfl fun _ T => ?_)
 refine Gets.seq (Gets.seq ?_)
 refine rg (r_pv T rfl rfl fun _ T => Gets.block (Gets.loop ?_))
 replace S := S.nil ku8 .own
 exact L0_ok F r z x1 A2 k3 m4 z none [] 0 0 _ _ (T.sub ⟨rfl, rfl, rfl, trivial⟩) (S.only (p := [sl m4 ku8 A2 k3 x1, sl .own ku8 none 0 []]) [1, 0] rfl) H
end cormorantref01_KeyText
end Go.Proofs.YtohelmfkpmphoaaDoor
namespace Go.Proofs.YtohelmfkpmphoaaDoor
open Go Go.Proofs.YtohelmfkpmphoaaDoor.X
set_option linter.unusedVariables false
set_option linter.unusedSimpArgs false
set_option maxRecDepth 100000
set_option maxHeartbeats 4000000
namespace cormorantref01_TakeKeyText
noncomputable def c0 : Code := match Tryd.f76.body with | some c => c | none => .skip
def R (F : List Atom) (x1 : List Int) (A2 : OA) (k3 : Nat) (m4 : Md) (r : (List Int) × Int × Int) : Ending → World → Prop := fun e w' => ∃ (A24 : OA), ∃ (k25 : Nat), e = .returned (.tuple #[.slice A24 r.1.length k25, .int .i64 r.2.1, .int .i64 r.2.2]) ∧ SL ([sl .own ku8 A24 k25 r.1, sl m4 ku8 A2 k3 x1] ++ F) w'
def L0 (z : Nat) (x1 : List Int) : Nat → (List Int) → Int → Option ((List Int) × Int × Int)
 | 0, _, _ => none
 | m + 1, x5, x8 => If (decide (x8 < (x1.length : Int))) (Ck (0 ≤ x8 ∧ x8 < (x1.length : Int)) (If ((gi (0 : Int) x1 x8) != 0) (Ck ((x5.length + [gi (0 : Int) x1 x8].length) * 1 ≤ 140737488355328) (L0 z x1 m (x5 ++ [gi (0 : Int) x1 x8]) (wr .i64 (x8 + 1)))) (If ((wr .i64 (x8 + 1)) == (x1.length : Int)) (some (([] : List Int), 0, 10)) (Ck (0 ≤ wr .i64 (x8 + 1) ∧ wr .i64 (x8 + 1) < (x1.length : Int)) (If ((gi (0 : Int) x1 (wr .i64 (x8 + 1))) == 1) (some (x5, wr .i64 ((wr .i64 (x8 + 1)) + 1), 0)) (If ((gi (0 : Int) x1 (wr .i64 (x8 + 1))) == 255) (Ck ((x5.length + [0].length) * 1 ≤ 140737488355328) (L0 z x1 m (x5 ++ [0]) (wr .i64 ((wr .i64 (x8 + 1)) + 1)))) (some (([] : List Int), 0, 11)))))))) (some (([] : List Int), 0, 10))
def f (z : Nat) (x1 : List Int) : Option ((List Int) × Int × Int) := L0 z x1 z [] 0
noncomputable def ptL0 : List Item := [.code (cB (cB (cR (cL (cR (cR c0)))))), .inLoop (cB (cB (cR (cL (cR (cR c0)))))), .inBlock 0, .code (cr 3 c0)]
theorem L0_ok (F : List Atom) (r : (List Int) × Int × Int) (z : Nat) (x1 : List Int) (A2 : OA) (k3 : Nat) (m4 : Md) (m : Nat) : ∀ (A6 : OA) (x5 : List Int) (k7 : Nat) (x8 : Int) (a : Act) (w : World), Tm 46 [(0, .slice A2 x1.length k3), (5, .slice A6 x5.length k7), (6, .int .i64 x8)] a → SL ([sl m4 ku8 A2 k3 x1, sl .own ku8 A6 k7 x5] ++ F) w → L0 z x1 m x5 x8 = some r → Gets Tryd.prog 76 ptL0 a w (R F x1 A2 k3 m4 r) := by
 induction m with
 | zero => intro _ _ _ _ _ _ _ _ H; cases H
 | succ m ih =>
  intro A6 x5 k7 x8 a w T S H
  refine Gets.seq (Gets.seq (rg (r_pv T rfl rfl fun _ T => ?_)))
  refine r_pv T rfl rfl fun _ T => r_lenS T rfl Tryd.runUnderlying29 rfl fun _ T => r_pv T rfl rfl fun _ T => ?_
  rcases ifE H with ⟨h9, H⟩ | ⟨h9, H⟩
  ·refine cdT T rfl h9 ?_
   refine Gets.skip (Gets.seq (Gets.block (Gets.seq (Gets.seq ?_))))
   refine rg (r_pv T rfl rfl fun _ T => r_pv T rfl rfl fun _ T => ?_)
   obtain ⟨h10, H⟩ := ck H
   refine r_ia (ix := 0) T S rfl rfl rfl rfl Tryd.runUnderlying29 Tryd.sizeOf5 h10.1 h10.2 rfl fun _ T => r_ldE (ix := 0) (i := x8) (off := 0) (f := (Value.int .u8)) T S rfl Tryd.isAgg5 rfl (0 : Int) _ rfl rfl (Fld.all _) h10.1 h10.2 (fun h => h) rfl fun _ T => r_pv T rfl rfl fun _ T => ?_
   rcases ifE H with ⟨h11, H⟩ | ⟨h11, H⟩
   ·refine cdT T rfl h11 ?_
    refine Gets.seq (rg (r_pv T rfl rfl fun _ T => r_pv T rfl rfl fun _ T => ?_))
    refine r_pv T rfl rfl fun _ T => r_ia (ix := 0) T S rfl rfl rfl rfl Tryd.runUnderlying29 Tryd.sizeOf5 h10.1 h10.2 rfl fun _ T => r_ldE (ix := 0) (i := x8) (off := 0) (f := (Value.int .u8)) T S rfl Tryd.isAgg5 rfl (0 : Int) _ rfl rfl (Fld.all _) h10.1 h10.2 (fun h => h) rfl fun _ T => ?_
    replace S := SL.val (κ := ku8) (x := gi (0 : Int) x1 x8) (cs := [.int .u8 (gi (0 : Int) x1 x8)]) (fun _ => rfl) S
    refine r_bsl (κ := ku8) (xs := [gi (0 : Int) x1 x8]) (vs := [.int .u8 (gi (0 : Int) x1 x8)]) T S sty29 rfl ⟨_, _, rfl, ⟨0, rfl⟩, rfl⟩ rfl (by decide) rfl fun _ _ b12 S T => ?_
    replace S : SL ([sl .own ku8 (some ⟨b12, 0, none⟩) 1 [gi (0 : Int) x1 x8], sl m4 ku8 A2 k3 x1, sl .own ku8 A6 k7 x5] ++ F) _ := S.only [0, 1, 1] rfl
    obtain ⟨h15, H⟩ := ck H
    refine r_app (ix := 2) (iy := 0) (xs := x5) (ys := [gi (0 : Int) x1 x8]) T S rfl rfl rfl rfl (by decide) sty29 Tryd.runUnderlying29 (by decide) h15 rfl fun _ _ A13 k14 S T => ?_
    replace S : SL ([sl .own ku8 (some ⟨b12, 0, none⟩) 1 [gi (0 : Int) x1 x8], sl m4 ku8 A2 k3 x1, sl .own ku8 A13 k14 (x5 ++ [gi (0 : Int) x1 x8])] ++ F) _ := S
    refine r_pv T rfl rfl fun _ T => ?_
    refine Gets.exit rfl ?_
    refine rg (r_pv T rfl rfl fun _ T => r_pv T rfl rfl fun _ T => r_pv T rfl rfl fun _ T => ?_)
    refine Gets.inLoop ?_
    exact ih A13 (x5 ++ [gi (0 : Int) x1 x8]) k14 (wr .i64 (x8 + 1)) _ _ (T.sub ⟨rfl, rfl, rfl, trivial⟩) (S.only (p := [sl m4 ku8 A2 k3 x1, sl .own ku8 A13 k14 (x5 ++ [gi (0 : Int) x1 x8])]) [1, 1] rfl) H
   ·refine cdF T rfl h11 ?_
    refine Gets.skip (Gets.seq (Gets.seq ?_))
    refine rg (r_pv T rfl rfl fun _ T => r_pv T rfl rfl fun _ T => r_pv T rfl rfl fun _ T => ?_)
    refine r_lenS T rfl Tryd.runUnderlying29 rfl fun _ T => r_pv T rfl rfl fun _ T => ?_
    rcases ifE H with ⟨h16, H⟩ | ⟨h16, H⟩
    ·refine cdT T rfl h16 ?_
     refine Gets.exit rfl (Gets.seq ?_)
     refine rg (r_pv T rfl rfl fun _ T => r_pv T rfl rfl fun _ T => r_pv T rfl rfl fun _ T => ?_)
     replace S := S.nil ku8 .own
     replace H := Option.some.inj H
     subst H
     exact rtn T Tryd.func76 rfl rfl ⟨none, 0, rfl, (S.only (p := [sl .own ku8 none 0 ([] : List Int), sl m4 ku8 A2 k3 x1]) [0, 0] rfl)⟩
    ·refine cdF T rfl h16 ?_
     refine Gets.skip (Gets.seq ?_)
     refine rg (r_pv T rfl rfl fun _ T => r_pv T rfl rfl fun _ T => r_pv T rfl rfl fun _ T => ?_)
     refine Gets.seq (rg (r_pv T rfl rfl fun _ T => r_pv T rfl rfl fun _ T => ?_))
     obtain ⟨h17, H⟩ := ck H
     refine r_ia (ix := 0) T S rfl rfl rfl rfl Tryd.runUnderlying29 Tryd.sizeOf5 h17.1 h17.2 rfl fun _ T => r_ldE (ix := 0) (i := wr .i64 (x8 + 1)) (off := 0) (f := (Value.int .u8)) T S rfl Tryd.isAgg5 rfl (0 : Int) _ rfl rfl (Fld.all _) h17.1 h17.2 (fun h => h) rfl fun _ T => ?_
     refine Gets.block (Gets.seq ?_)
     refine rg (r_pv T rfl rfl fun _ T => r_pv T rfl rfl fun _ T => ?_)
     rcases ifE H with ⟨h18, H⟩ | ⟨h18, H⟩
     ·refine cdT T rfl h18 ?_
      refine Gets.seq (rg (r_pv T rfl rfl fun _ T => r_pv T rfl rfl fun _ T => ?_))
      refine r_pv T rfl rfl fun _ T => r_pv T rfl rfl fun _ T => r_pv T rfl rfl fun _ T => r_pv T rfl rfl fun _ T => ?_
      replace H := Option.some.inj H
      subst H
      exact rtn T Tryd.func76 rfl rfl ⟨A6, k7, rfl, (S.only (p := [sl .own ku8 A6 k7 x5, sl m4 ku8 A2 k3 x1]) [1, 0] rfl)⟩
     ·refine cdF T rfl h18 ?_
      refine Gets.seq (rg (r_pv T rfl rfl fun _ T => r_pv T rfl rfl fun _ T => ?_))
      rcases ifE H with ⟨h19, H⟩ | ⟨h19, H⟩
      ·refine cdT T rfl h19 ?_
       refine rg (r_pv T rfl rfl fun _ T => ?_)
       replace S := SL.val (κ := ku8) (x := 0) (cs := [.int .u8 0]) (fun _ => rfl) S
       refine r_bsl (κ := ku8) (xs := [0]) (vs := [.int .u8 0]) T S sty29 rfl ⟨_, _, rfl, ⟨0, rfl⟩, rfl⟩ rfl (by decide) rfl fun _ _ b20 S T => ?_
       replace S : SL ([sl .own ku8 (some ⟨b20, 0, none⟩) 1 [0], sl m4 ku8 A2 k3 x1, sl .own ku8 A6 k7 x5] ++ F) _ := S.only [0, 1, 1] rfl
       obtain ⟨h23, H⟩ := ck H
       refine r_app (ix := 2) (iy := 0) (xs := x5) (ys := [0]) T S rfl rfl rfl rfl (by decide) sty29 Tryd.runUnderlying29 (by decide) h23 rfl fun _ _ A21 k22 S T => ?_
       replace S : SL ([sl .own ku8 (some ⟨b20, 0, none⟩) 1 [0], sl m4 ku8 A2 k3 x1, sl .own ku8 A21 k22 (x5 ++ [0])] ++ F) _ := S
       refine r_pv T rfl rfl fun _ T => ?_
       refine Gets.inBlock (Gets.inBlock ?_)
       refine rg (r_pv T rfl rfl fun _ T => r_pv T rfl rfl fun _ T => r_pv T rfl rfl fun _ T => ?_)
       refine Gets.inLoop ?_
       exact ih A21 (x5 ++ [0]) k22 (wr .i64 ((wr .i64 (x8 + 1)) + 1)) _ _ (T.sub ⟨rfl, rfl, rfl, trivial⟩) (S.only (p := [sl m4 ku8 A2 k3 x1, sl .own ku8 A21 k22 (x5 ++ [0])]) [1, 1] rfl) H
      ·refine cdF T rfl h19 ?_
       refine Gets.seq (rg (r_pv T rfl rfl fun _ T => r_pv T rfl rfl fun _ T => ?_))
       refine r_pv T rfl rfl fun _ T => ?_
       replace S := S.nil ku8 .own
       replace H := Option.some.inj H
       subst H
       exact rtn T Tryd.func76 rfl rfl ⟨none, 0, rfl, (S.only (p := [sl .own ku8 none 0 ([] : List Int), sl m4 ku8 A2 k3 x1]) [0, 0] rfl)⟩
  ·refine cdF T rfl h9 ?_
   refine Gets.exit rfl (Gets.seq ?_)
   refine rg (r_pv T rfl rfl fun _ T => r_pv T rfl rfl fun _ T => r_pv T rfl rfl fun _ T => ?_)
   replace S := S.nil ku8 .own
   replace H := Option.some.inj H
   subst H
   exact rtn T Tryd.func76 rfl rfl ⟨none, 0, rfl, (S.only (p := [sl .own ku8 none 0 ([] : List Int), sl m4 ku8 A2 k3 x1]) [0, 0] rfl)⟩
theorem ok (F : List Atom) (w : World) (z : Nat) (x1 : List Int) {A2 : OA} {k3 : Nat} {m4 : Md} (S : SL ([sl m4 ku8 A2 k3 x1] ++ F) w) (r : (List Int) × Int × Int) (H : f z x1 = some r) : Calls Tryd.prog 76 #[.slice A2 x1.length k3] w (R F x1 A2 k3 m4 r) := by
 refine enter (vs := [.slice A2 x1.length k3]) Tryd.func76 rfl Tryd.ntmps76 (Nat.le_of_ble_eq_true rfl) fun a T => ?_
 refine Gets.seq (rg (r_pv T rfl rfl fun _ T => r_pv T rfl rfl fun _ T => ?_))
 refine r_pv T rfl rfl fun _ T => Gets.seq (rg (r_pv T rfl rfl fun _ T => ?_))
 refine Gets.seq (Gets.seq ?_)
 refine rg (r_pv T rfl rfl fun _ T => Gets.block (Gets.loop ?_))
 replace S := S.nil ku8 .own
 exact L0_ok F r z x1 A2 k3 m4 z none [] 0 0 _ _ (T.sub ⟨rfl, rfl, rfl, trivial⟩) (S.only (p := [sl m4 ku8 A2 k3 x1, sl .own ku8 none 0 []]) [1, 0] rfl) H
end cormorantref01_TakeKeyText
end Go.Proofs.YtohelmfkpmphoaaDoor
namespace Go.Proofs.YtohelmfkpmphoaaDoor
open Go Go.Proofs.YtohelmfkpmphoaaDoor.X
set_option linter.unusedVariables false
set_option linter.unusedSimpArgs false
set_option maxRecDepth 100000
set_option maxHeartbeats 4000000
namespace cormorantref01_Number
noncomputable def c0 : Code := match Tryd.f81.body with | some c => c | none => .skip
def R (F : List Atom) (r : (List Int)) : Ending → World → Prop := fun e w' => ∃ (A15 : OA), ∃ (k16 : Nat), e = .returned (.slice A15 r.length k16) ∧ SL ([sl .own ku8 A15 k16 r] ++ F) w'
def L0 (z : Nat) : Nat → Int → (List Int) → Option (List Int)
 | 0, _, _ => none
 | m + 1, x2, x3 => If (decide (x2 ≥ 128)) (Ck ((x3.length + [wr .u8 (wr .u64 (128 + (Int.tmod x2 128)))].length) * 1 ≤ 140737488355328) (L0 z m (wr .u64 (Int.tdiv x2 128)) (x3 ++ [wr .u8 (wr .u64 (128 + (Int.tmod x2 128)))]))) (Ck ((x3.length + [wr .u8 x2].length) * 1 ≤ 140737488355328) (some (x3 ++ [wr .u8 x2])))
def f (z : Nat) (x1 : Int) : Option (List Int) := L0 z z x1 []
noncomputable def ptL0 : List Item := [.code (cB (cB (cL (cR (cR c0))))), .inLoop (cB (cB (cL (cR (cR c0))))), .inBlock 0, .code (cr 3 c0)]
theorem L0_ok (F : List Atom) (r : (List Int)) (z : Nat) (x1 : Int) (m : Nat) : ∀ (x2 : Int) (A4 : OA) (x3 : List Int) (k5 : Nat) (a : Act) (w : World), Tm 20 [(0, .int .u64 x2), (3, .slice A4 x3.length k5)] a → SL ([sl .own ku8 A4 k5 x3] ++ F) w → L0 z m x2 x3 = some r → Gets Tryd.prog 81 ptL0 a w (R F r) := by
 induction m with
 | zero => intro _ _ _ _ _ _ _ _ H; cases H
 | succ m ih =>
  intro x2 A4 x3 k5 a w T S H
  refine Gets.seq (Gets.seq (rg (r_pv T rfl rfl fun _ T => ?_)))
  refine r_pv T rfl rfl fun _ T => ?_
  rcases ifE H with ⟨h6, H⟩ | ⟨h6, H⟩
  ·refine cdT T rfl h6 ?_
   refine Gets.skip (Gets.block (Gets.seq ?_))
   refine rg (r_pv T rfl rfl fun _ T => r_pv T rfl rfl fun _ T => r_rem T rfl rfl (by decide) rfl fun _ T => ?_)
   refine r_pv T rfl rfl fun _ T => r_conv T rfl Tryd.runUnderlying109 Tryd.runUnderlying5 rfl fun _ T => ?_
   replace S := SL.val (κ := ku8) (x := wr .u8 (wr .u64 (128 + (Int.tmod x2 128)))) (cs := [.int .u8 (wr .u8 (wr .u64 (128 + (Int.tmod x2 128))))]) (fun _ => rfl) S
   refine r_bsl (κ := ku8) (xs := [wr .u8 (wr .u64 (128 + (Int.tmod x2 128)))]) (vs := [.int .u8 (wr .u8 (wr .u64 (128 + (Int.tmod x2 128))))]) T S sty29 rfl ⟨_, _, rfl, ⟨0, rfl⟩, rfl⟩ rfl (by decide) rfl fun _ _ b11 S T => ?_
   replace S : SL ([sl .own ku8 (some ⟨b11, 0, none⟩) 1 [wr .u8 (wr .u64 (128 + (Int.tmod x2 128)))], sl .own ku8 A4 k5 x3] ++ F) _ := S.only [0, 1] rfl
   obtain ⟨h14, H⟩ := ck H
   refine r_app (ix := 1) (iy := 0) (xs := x3) (ys := [wr .u8 (wr .u64 (128 + (Int.tmod x2 128)))]) T S rfl rfl rfl rfl (by decide) sty29 Tryd.runUnderlying29 (by decide) h14 rfl fun _ _ A12 k13 S T => ?_
   replace S : SL ([sl .own ku8 (some ⟨b11, 0, none⟩) 1 [wr .u8 (wr .u64 (128 + (Int.tmod x2 128)))], sl .own ku8 A12 k13 (x3 ++ [wr .u8 (wr .u64 (128 + (Int.tmod x2 128)))])] ++ F) _ := S
   refine r_pv T rfl rfl fun _ T => rg (r_pv T rfl rfl fun _ T => r_quo T rfl rfl (by decide) rfl fun _ T => ?_)
   refine r_pv T rfl rfl fun _ T => ?_
   refine Gets.inBlock (Gets.inLoop ?_)
   exact ih (wr .u64 (Int.tdiv x2 128)) A12 (x3 ++ [wr .u8 (wr .u64 (128 + (Int.tmod x2 128)))]) k13 _ _ (T.sub ⟨rfl, rfl, trivial⟩) (S.only (p := [sl .own ku8 A12 k13 (x3 ++ [wr .u8 (wr .u64 (128 + (Int.tmod x2 128)))])]) [1] rfl) H
  ·refine cdF T rfl h6 ?_
   refine Gets.exit rfl (Gets.seq ?_)
   refine rg (r_pv T rfl rfl fun _ T => r_pv T rfl rfl fun _ T => r_conv T rfl Tryd.runUnderlying109 Tryd.runUnderlying5 rfl fun _ T => ?_)
   replace S := SL.val (κ := ku8) (x := wr .u8 x2) (cs := [.int .u8 (wr .u8 x2)]) (fun _ => rfl) S
   refine r_bsl (κ := ku8) (xs := [wr .u8 x2]) (vs := [.int .u8 (wr .u8 x2)]) T S sty29 rfl ⟨_, _, rfl, ⟨0, rfl⟩, rfl⟩ rfl (by decide) rfl fun _ _ b7 S T => ?_
   replace S : SL ([sl .own ku8 (some ⟨b7, 0, none⟩) 1 [wr .u8 x2], sl .own ku8 A4 k5 x3] ++ F) _ := S.only [0, 1] rfl
   obtain ⟨h10, H⟩ := ck H
   refine r_app (ix := 1) (iy := 0) (xs := x3) (ys := [wr .u8 x2]) T S rfl rfl rfl rfl (by decide) sty29 Tryd.runUnderlying29 (by decide) h10 rfl fun _ _ A8 k9 S T => ?_
   replace S : SL ([sl .own ku8 (some ⟨b7, 0, none⟩) 1 [wr .u8 x2], sl .own ku8 A8 k9 (x3 ++ [wr .u8 x2])] ++ F) _ := S
   refine r_pv T rfl rfl fun _ T => ?_
   replace H := Option.some.inj H
   subst H
   exact rtn T Tryd.func81 rfl rfl ⟨A8, k9, rfl, (S.only (p := [sl .own ku8 A8 k9 (x3 ++ [wr .u8 x2])]) [1] rfl)⟩
theorem ok (F : List Atom) (w : World) (z : Nat) (x1 : Int) (S : SL ([] ++ F) w) (r : (List Int)) (H : f z x1 = some r) : Calls Tryd.prog 81 #[.int .u64 x1] w (R F r) := by
 refine enter (vs := [.int .u64 x1]) Tryd.func81 rfl Tryd.ntmps81 (Nat.le_of_ble_eq_true rfl) fun a T => ?_
 refine Gets.seq (rg (r_pv T rfl rfl fun _ T => Gets.seq ?_))
 refine rg (r_pv T rfl rfl fun _ T => ?_)
 refine Gets.seq (Gets.block ?_)
 refine Gets.loop ?_
 replace S := S.nil ku8 .own
 exact L0_ok F r z x1 z x1 none [] 0 _ _ (T.sub ⟨rfl, rfl, trivial⟩) (S.only (p := [sl .own ku8 none 0 []]) [0] rfl) H
end cormorantref01_Number
end Go.Proofs.YtohelmfkpmphoaaDoor
namespace Go.Proofs.YtohelmfkpmphoaaDoor
open Go Go.Proofs.YtohelmfkpmphoaaDoor.X
set_option linter.unusedVariables false
set_option linter.unusedSimpArgs false
set_option maxRecDepth 100000
set_option maxHeartbeats 4000000
namespace cormorantref01_Text
def R (F : List Atom) (x1 : List Int) (A2 : OA) (k3 : Nat) (m4 : Md) (r : (List Int) × Int) : Ending → World → Prop := fun e w' => ∃ (A13 : OA), ∃ (k14 : Nat), e = .returned (.tuple #[.slice A13 r.1.length k14, .int .i64 r.2]) ∧ SL ([sl .own ku8 A13 k14 r.1, sl m4 ku8 A2 k3 x1] ++ F) w'
def f (z : Nat) (x1 : List Int) : Option ((List Int) × Int) := If (decide ((x1.length : Int) > 2097152)) (some (([] : List Int), 12)) (Bd (cormorantref01_Number.f z (wr .u64 (x1.length : Int))) fun x7 => Ck ((x7.length + x1.length) * 1 ≤ 140737488355328) (some ((x7 ++ x1), 0)))
theorem ok (F : List Atom) (w : World) (z : Nat) (x1 : List Int) {A2 : OA} {k3 : Nat} {m4 : Md} (S : SL ([sl m4 ku8 A2 k3 x1] ++ F) w) (r : (List Int) × Int) (H : f z x1 = some r) : Calls Tryd.prog 70 #[.slice A2 x1.length k3] w (R F x1 A2 k3 m4 r) := by
 refine enter (vs := [.slice A2 x1.length k3]) Tryd.func70 rfl Tryd.ntmps70 (Nat.le_of_ble_eq_true rfl) fun a T => ?_
 refine Gets.seq (rg (r_pv T rfl rfl fun _ T => r_pv T rfl rfl fun _ T => ?_))
 refine Gets.seq (Gets.seq ?_)
 refine rg (r_pv T rfl rfl fun _ T => r_lenS T rfl Tryd.runUnderlying29 rfl fun _ T => r_pv T rfl rfl fun _ T => ?_)
 rcases ifE H with ⟨h5, H⟩ | ⟨h5, H⟩
 ·refine cdT T rfl h5 ?_
  refine Gets.seq (rg (r_pv T rfl rfl fun _ T => r_pv T rfl rfl fun _ T => ?_))
  replace S := S.nil ku8 .own
  replace H := Option.some.inj H
  subst H
  exact rtn T Tryd.func70 rfl rfl ⟨none, 0, rfl, (S.only (p := [sl .own ku8 none 0 ([] : List Int), sl m4 ku8 A2 k3 x1]) [0, 0] rfl)⟩
 ·refine cdF T rfl h5 ?_
  refine Gets.skip (Gets.seq ?_)
  refine rg (r_pv T rfl rfl fun _ T => r_lenS T rfl Tryd.runUnderlying29 rfl fun _ T => r_conv T rfl Tryd.runUnderlying3 Tryd.runUnderlying109 rfl fun _ T => ?_)
  obtain ⟨x7, h6, H⟩ := bd H
  refine r_call T Tryd.call81 rfl rfl (cormorantref01_Number.ok _ _ z (wr .u64 (x1.length : Int)) (S.sel (p := []) (is := []) rfl) _ h6) ?_
  rintro _ _ ⟨A8, k9, rfl, S⟩
  refine ⟨_, rfl, fun _ T => ?_⟩
  replace S : SL ([sl .own ku8 A8 k9 x7, sl m4 ku8 A2 k3 x1] ++ F) _ := S.join
  refine r_pv T rfl rfl fun _ T => Gets.seq (rg (r_pv T rfl rfl fun _ T => ?_))
  refine r_pv T rfl rfl fun _ T => ?_
  obtain ⟨h12, H⟩ := ck H
  refine r_app (ix := 0) (iy := 1) (xs := x7) (ys := x1) T S rfl rfl rfl rfl (by decide) sty29 Tryd.runUnderlying29 (by decide) h12 rfl fun _ _ A10 k11 S T => ?_
  replace S : SL ([sl .own ku8 A10 k11 (x7 ++ x1), sl m4 ku8 A2 k3 x1] ++ F) _ := S
  refine r_pv T rfl rfl fun _ T => r_pv T rfl rfl fun _ T => ?_
  replace H := Option.some.inj H
  subst H
  exact rtn T Tryd.func70 rfl rfl ⟨A10, k11, rfl, (S.only (p := [sl .own ku8 A10 k11 (x7 ++ x1), sl m4 ku8 A2 k3 x1]) [0, 0] rfl)⟩
end cormorantref01_Text
end Go.Proofs.YtohelmfkpmphoaaDoor
namespace Go.Proofs.YtohelmfkpmphoaaDoor
open Go Go.Proofs.YtohelmfkpmphoaaDoor.X
set_option linter.unusedVariables false
set_option linter.unusedSimpArgs false
set_option maxRecDepth 100000
set_option maxHeartbeats 4000000
namespace cormorantref01_TakeNumber
noncomputable def c0 : Code := match Tryd.f87.body with | some c => c | none => .skip
def R (F : List Atom) (x1 : List Int) (A2 : OA) (k3 : Nat) (m4 : Md) (r : Int × Int × Int) : Ending → World → Prop := fun e w' => e = .returned (.tuple #[.int .u64 r.1, .int .i64 r.2.1, .int .i64 r.2.2]) ∧ SL ([sl m4 ku8 A2 k3 x1] ++ F) w'
def L6 (z : Nat) (x1 : List Int) (x5 : Int) : Nat → Int → Int → Option (Int × Int × Int)
 | 0, _, _ => none
 | m + 1, x25, x26 => If (decide (x26 ≥ 0)) (Ck (0 ≤ x26 ∧ x26 < (x1.length : Int)) (L6 z x1 x5 m (wr .u64 ((wr .u64 (128 * x25)) + (wr .u64 (Int.tmod (gi (0 : Int) x1 x26) 128)))) (wr .i64 (x26 - 1)))) (some (x25, wr .i64 (x5 + 1), 0))
def J5 (z : Nat) (x1 : List Int) (x5 : Int) : Option (Int × Int × Int) := L6 z x1 x5 z 0 x5
def J4 (z : Nat) : Option (Int × Int × Int) := some (0, 0, 11)
def J3 (z : Nat) (x1 : List Int) (x5 : Int) : Option (Int × Int × Int) := If (decide (x5 < 0)) (J4 z) (If (decide (x5 > 0)) (Ck (0 ≤ x5 ∧ x5 < (x1.length : Int)) (If ((gi (0 : Int) x1 x5) == 0) (J4 z) (If (x5 == 9) (Ck (9 < (x1.length : Int)) (If (decide ((gi (0 : Int) x1 9) > 1)) (J4 z) (J5 z x1 x5))) (J5 z x1 x5)))) (If (x5 == 9) (Ck (9 < (x1.length : Int)) (If (decide ((gi (0 : Int) x1 9) > 1)) (J4 z) (J5 z x1 x5))) (J5 z x1 x5)))
def J2 (z : Nat) (x1 : List Int) (x5 : Int) : Option (Int × Int × Int) := If (decide (x5 < 0)) (If (decide ((x1.length : Int) < 10)) (some (0, 0, 10)) (J3 z x1 x5)) (J3 z x1 x5)
def J1 (z : Nat) (q0 : Int → Int → Option (Int × Int × Int)) (x1 : List Int) (x6 x12 : Int) : Option (Int × Int × Int) := q0 x12 (wr .i64 (x6 + 1))
def L0 (z : Nat) (x1 : List Int) : Nat → Int → Int → Option (Int × Int × Int)
 | 0, _, _ => none
 | m + 1, x5, x6 => If (decide (x6 < (x1.length : Int))) (If (decide (x6 < 10)) (If (decide (x5 < 0)) (Ck (0 ≤ x6 ∧ x6 < (x1.length : Int)) (If (decide ((gi (0 : Int) x1 x6) < 128)) (J1 z (L0 z x1 m) x1 x6 x6) (J1 z (L0 z x1 m) x1 x6 x5))) (J2 z x1 x5)) (J2 z x1 x5)) (J2 z x1 x5)
def f (z : Nat) (x1 : List Int) : Option (Int × Int × Int) := L0 z x1 z (-1) 0
noncomputable def ptL6 : List Item := [.code (cB (cB (cR (cL (cr 6 c0))))), .inLoop (cB (cB (cR (cL (cr 6 c0))))), .inBlock 2, .code (cr 7 c0)]
noncomputable def ptJ5 : List Item := [.code (cL (cr 5 c0)), .code (cr 6 c0)]
noncomputable def ptJ4 : List Item := [.code (cL (cT (cR (cL (cr 4 c0))))), .code (cR (cT (cR (cL (cr 4 c0))))), .code (cr 5 c0)]
noncomputable def ptJ3 : List Item := [.code (cL (cL (cr 4 c0))), .code (cR (cL (cr 4 c0))), .code (cr 5 c0)]
noncomputable def ptJ2 : List Item := [.code (cL (cL (cr 3 c0))), .code (cR (cL (cr 3 c0))), .code (cr 4 c0)]
noncomputable def ptJ1 : List Item := [.code (cR (cR (cB (cB (cR (cL (cR (cR c0)))))))), .inLoop (cB (cB (cR (cL (cR (cR c0)))))), .inBlock 0, .code (cr 3 c0)]
noncomputable def ptL0 : List Item := [.code (cB (cB (cR (cL (cR (cR c0)))))), .inLoop (cB (cB (cR (cL (cR (cR c0)))))), .inBlock 0, .code (cr 3 c0)]
theorem L6_ok (F : List Atom) (r : Int × Int × Int) (z : Nat) (x1 : List Int) (A2 : OA) (k3 : Nat) (m4 : Md) (x5 : Int) (m : Nat) : ∀ (x25 x26 : Int) (a : Act) (w : World), Tm 76 [(0, .slice A2 x1.length k3), (5, .int .i64 x5), (7, .int .u64 x25), (8, .int .i64 x26)] a → SL ([sl m4 ku8 A2 k3 x1] ++ F) w → L6 z x1 x5 m x25 x26 = some r → Gets Tryd.prog 87 ptL6 a w (R F x1 A2 k3 m4 r) := by
 induction m with
 | zero => intro _ _ _ _ _ _ H; cases H
 | succ m ih =>
  intro x25 x26 a w T S H
  refine Gets.seq (Gets.seq (rg (r_pv T rfl rfl fun _ T => ?_)))
  refine r_pv T rfl rfl fun _ T => ?_
  rcases ifE H with ⟨h27, H⟩ | ⟨h27, H⟩
  ·refine cdT T rfl h27 ?_
   refine Gets.skip (Gets.seq (Gets.block ?_))
   refine rg (r_pv T rfl rfl fun _ T => r_pv T rfl rfl fun _ T => r_pv T rfl rfl fun _ T => ?_)
   refine r_pv T rfl rfl fun _ T => ?_
   obtain ⟨h28, H⟩ := ck H
   refine r_ia (ix := 0) T S rfl rfl rfl rfl Tryd.runUnderlying29 Tryd.sizeOf5 h28.1 h28.2 rfl fun _ T => r_ldE (ix := 0) (i := x26) (off := 0) (f := (Value.int .u8)) T S rfl Tryd.isAgg5 rfl (0 : Int) _ rfl rfl (Fld.all _) h28.1 h28.2 (fun h => h) rfl fun _ T => r_rem T rfl rfl (by decide) rfl fun _ T => ?_
   refine r_conv T rfl Tryd.runUnderlying5 Tryd.runUnderlying109 rfl fun _ T => r_pv T rfl rfl fun _ T => r_pv T rfl rfl fun _ T => Gets.inBlock ?_
   refine rg (r_pv T rfl rfl fun _ T => r_pv T rfl rfl fun _ T => r_pv T rfl rfl fun _ T => ?_)
   refine Gets.inLoop ?_
   exact ih (wr .u64 ((wr .u64 (128 * x25)) + (wr .u64 (Int.tmod (gi (0 : Int) x1 x26) 128)))) (wr .i64 (x26 - 1)) _ _ (T.sub ⟨rfl, rfl, rfl, rfl, trivial⟩) (S.only (p := [sl m4 ku8 A2 k3 x1]) [0] rfl) H
  ·refine cdF T rfl h27 ?_
   refine Gets.exit rfl (Gets.seq ?_)
   refine rg (r_pv T rfl rfl fun _ T => r_pv T rfl rfl fun _ T => r_pv T rfl rfl fun _ T => ?_)
   refine r_pv T rfl rfl fun _ T => r_pv T rfl rfl fun _ T => r_pv T rfl rfl fun _ T => ?_
   replace H := Option.some.inj H
   subst H
   exact rtn T Tryd.func87 rfl rfl ⟨rfl, (S.only (p := [sl m4 ku8 A2 k3 x1]) [0] rfl)⟩
theorem J5_ok (F : List Atom) (r : Int × Int × Int) (z : Nat) (x1 : List Int) (A2 : OA) (k3 : Nat) (m4 : Md) (x5 : Int) (a : Act) (w : World) (T : Tm 76 [(0, .slice A2 x1.length k3), (5, .int .i64 x5)] a) (S : SL ([sl m4 ku8 A2 k3 x1] ++ F) w) (H : J5 z x1 x5 = some r) : Gets Tryd.prog 87 ptJ5 a w (R F x1 A2 k3 m4 r) := by
 refine rg (r_pv T rfl rfl fun _ T => ?_)
 refine Gets.seq (Gets.seq ?_)
 refine rg (r_pv T rfl rfl fun _ T => r_pv T rfl rfl fun _ T => Gets.block ?_)
 refine Gets.loop ?_
 exact L6_ok F r z x1 A2 k3 m4 x5 z 0 x5 _ _ (T.sub ⟨rfl, rfl, rfl, rfl, trivial⟩) (S.only (p := [sl m4 ku8 A2 k3 x1]) [0] rfl) H
theorem J4_ok (F : List Atom) (r : Int × Int × Int) (z : Nat) (x1 : List Int) (A2 : OA) (k3 : Nat) (m4 : Md) (a : Act) (w : World) (T : Tm 76 [] a) (S : SL ([sl m4 ku8 A2 k3 x1] ++ F) w) (H : J4 z = some r) : Gets Tryd.prog 87 ptJ4 a w (R F x1 A2 k3 m4 r) := by
 refine rg (r_pv T rfl rfl fun _ T => r_pv T rfl rfl fun _ T => r_pv T rfl rfl fun _ T => ?_)
 replace H := Option.some.inj H
 subst H
 exact rtn T Tryd.func87 rfl rfl ⟨rfl, (S.only (p := [sl m4 ku8 A2 k3 x1]) [0] rfl)⟩
theorem J3_ok (F : List Atom) (r : Int × Int × Int) (z : Nat) (x1 : List Int) (A2 : OA) (k3 : Nat) (m4 : Md) (x5 : Int) (a : Act) (w : World) (T : Tm 76 [(0, .slice A2 x1.length k3), (5, .int .i64 x5)] a) (S : SL ([sl m4 ku8 A2 k3 x1] ++ F) w) (H : J3 z x1 x5 = some r) : Gets Tryd.prog 87 ptJ3 a w (R F x1 A2 k3 m4 r) := by
 refine rg (r_pv T rfl rfl fun _ T => r_pv T rfl rfl fun _ T => r_pv T rfl rfl fun _ T => ?_)
 rcases ifE H with ⟨h15, H⟩ | ⟨h15, H⟩
 ·refine g_no T rfl rfl h15 rfl fun _ T => ?_
  refine g_no T rfl rfl h15 rfl fun _ T => g_no T rfl rfl h15 rfl fun _ T => g_und T rfl rfl rfl fun _ T => g_und T rfl rfl rfl fun _ T => ?_
  refine g_und T rfl rfl rfl fun _ T => g_und T rfl rfl rfl fun _ T => g_und T rfl rfl rfl fun _ T => g_no T rfl rfl h15 rfl fun _ T => ?_
  refine r_pickT T rfl h15 rfl rfl fun _ T => r_pv T rfl rfl fun _ T => g_no T rfl rfl rfl rfl fun _ T => g_no T rfl rfl rfl rfl fun _ T => ?_
  refine g_no T rfl rfl rfl rfl fun _ T => g_und T rfl rfl rfl fun _ T => g_und T rfl rfl rfl fun _ T => g_und T rfl rfl rfl fun _ T => ?_
  refine g_und T rfl rfl rfl fun _ T => g_no T rfl rfl rfl rfl fun _ T => r_pickT T rfl rfl rfl rfl fun _ T => cdT T rfl rfl ?_
  refine Gets.seq ?_
  exact J4_ok F r z x1 A2 k3 m4 _ _ (T.sub trivial) (S.only (p := [sl m4 ku8 A2 k3 x1]) [0] rfl) H
 ·refine g_yes T rfl rfl h15 ?_
  refine r_pv T rfl rfl fun _ T => g_yes T rfl rfl h15 (r_pv T rfl rfl fun _ T => g_yes T rfl rfl h15 ?_)
  refine r_pv T rfl rfl fun _ T => ?_
  rcases ifE H with ⟨h16, H⟩ | ⟨h16, H⟩
  ·refine g_yes T rfl rfl h16 ?_
   refine r_pv T rfl rfl fun _ T => g_yes T rfl rfl h16 (r_pv T rfl rfl fun _ T => g_yes T rfl rfl h16 ?_)
   obtain ⟨h17, H⟩ := ck H
   refine r_ia (ix := 0) T S rfl rfl rfl rfl Tryd.runUnderlying29 Tryd.sizeOf5 h17.1 h17.2 rfl fun _ T => g_yes T rfl rfl h16 (r_ldE (ix := 0) (i := x5) (off := 0) (f := (Value.int .u8)) T S rfl Tryd.isAgg5 rfl (0 : Int) _ rfl rfl (Fld.all _) h17.1 h17.2 (fun h => h) rfl fun _ T => g_yes T rfl rfl h16 ?_)
   refine r_pv T rfl rfl fun _ T => g_yes T rfl rfl h15 (r_pickT T rfl h16 rfl rfl fun _ T => r_pickF T rfl h15 rfl rfl fun _ T => ?_)
   refine r_pv T rfl rfl fun _ T => ?_
   rcases ifE H with ⟨h18, H⟩ | ⟨h18, H⟩
   ·refine g_no T rfl rfl h18 rfl fun _ T => ?_
    refine g_no T rfl rfl h18 rfl fun _ T => g_no T rfl rfl h18 rfl fun _ T => g_und T rfl rfl rfl fun _ T => g_und T rfl rfl rfl fun _ T => ?_
    refine g_und T rfl rfl rfl fun _ T => g_und T rfl rfl rfl fun _ T => g_no T rfl rfl h18 rfl fun _ T => r_pickT T rfl h18 rfl rfl fun _ T => ?_
    refine cdT T rfl rfl (Gets.seq ?_)
    exact J4_ok F r z x1 A2 k3 m4 _ _ (T.sub trivial) (S.only (p := [sl m4 ku8 A2 k3 x1]) [0] rfl) H
   ·refine g_yes T rfl rfl h18 ?_
    refine r_pv T rfl rfl fun _ T => g_yes T rfl rfl h18 (r_pv T rfl rfl fun _ T => g_yes T rfl rfl h18 ?_)
    refine r_pv T rfl rfl fun _ T => ?_
    rcases ifE H with ⟨h19, H⟩ | ⟨h19, H⟩
    ·refine g_yes T rfl rfl h19 ?_
     refine r_pv T rfl rfl fun _ T => g_yes T rfl rfl h19 ?_
     obtain ⟨h20, H⟩ := ck H
     refine r_ia (ix := 0) T S rfl rfl rfl rfl Tryd.runUnderlying29 Tryd.sizeOf5 (by decide) h20 rfl fun _ T => ?_
     refine g_yes T rfl rfl h19 (r_ldE (ix := 0) (i := 9) (off := 0) (f := (Value.int .u8)) T S rfl Tryd.isAgg5 rfl (0 : Int) _ rfl rfl (Fld.all _) (by decide) h20 (fun h => h) rfl fun _ T => ?_)
     refine g_yes T rfl rfl h19 (r_pv T rfl rfl fun _ T => g_yes T rfl rfl h18 (r_pickT T rfl h19 rfl rfl fun _ T => ?_))
     refine r_pickF T rfl h18 rfl rfl fun _ T => ?_
     rcases ifE H with ⟨h21, H⟩ | ⟨h21, H⟩
     ·refine cdT T rfl h21 ?_
      refine Gets.seq ?_
      exact J4_ok F r z x1 A2 k3 m4 _ _ (T.sub trivial) (S.only (p := [sl m4 ku8 A2 k3 x1]) [0] rfl) H
     ·refine cdF T rfl h21 ?_
      refine Gets.skip (Gets.seq ?_)
      exact J5_ok F r z x1 A2 k3 m4 x5 _ _ (T.sub ⟨rfl, rfl, trivial⟩) (S.only (p := [sl m4 ku8 A2 k3 x1]) [0] rfl) H
    ·refine g_no T rfl rfl h19 rfl fun _ T => ?_
     refine g_no T rfl rfl h19 rfl fun _ T => g_no T rfl rfl h19 rfl fun _ T => g_no T rfl rfl h19 rfl fun _ T => g_yes T rfl rfl h18 ?_
     refine r_pickF T rfl h19 rfl rfl fun _ T => r_pickF T rfl h18 rfl rfl fun _ T => cdF T rfl rfl ?_
     refine Gets.skip (Gets.seq ?_)
     exact J5_ok F r z x1 A2 k3 m4 x5 _ _ (T.sub ⟨rfl, rfl, trivial⟩) (S.only (p := [sl m4 ku8 A2 k3 x1]) [0] rfl) H
  ·refine g_no T rfl rfl h16 rfl fun _ T => ?_
   refine g_no T rfl rfl h16 rfl fun _ T => g_no T rfl rfl h16 rfl fun _ T => g_no T rfl rfl h16 rfl fun _ T => g_no T rfl rfl h16 rfl fun _ T => ?_
   refine g_yes T rfl rfl h15 (r_pickF T rfl h16 rfl rfl fun _ T => r_pickF T rfl h15 rfl rfl fun _ T => r_pv T rfl rfl fun _ T => ?_)
   refine g_yes T rfl rfl rfl (r_pv T rfl rfl fun _ T => g_yes T rfl rfl rfl (r_pv T rfl rfl fun _ T => ?_))
   refine g_yes T rfl rfl rfl (r_pv T rfl rfl fun _ T => ?_)
   rcases ifE H with ⟨h22, H⟩ | ⟨h22, H⟩
   ·refine g_yes T rfl rfl h22 ?_
    refine r_pv T rfl rfl fun _ T => g_yes T rfl rfl h22 ?_
    obtain ⟨h23, H⟩ := ck H
    refine r_ia (ix := 0) T S rfl rfl rfl rfl Tryd.runUnderlying29 Tryd.sizeOf5 (by decide) h23 rfl fun _ T => ?_
    refine g_yes T rfl rfl h22 (r_ldE (ix := 0) (i := 9) (off := 0) (f := (Value.int .u8)) T S rfl Tryd.isAgg5 rfl (0 : Int) _ rfl rfl (Fld.all _) (by decide) h23 (fun h => h) rfl fun _ T => ?_)
    refine g_yes T rfl rfl h22 (r_pv T rfl rfl fun _ T => g_yes T rfl rfl rfl (r_pickT T rfl h22 rfl rfl fun _ T => ?_))
    refine r_pickF T rfl rfl rfl rfl fun _ T => ?_
    rcases ifE H with ⟨h24, H⟩ | ⟨h24, H⟩
    ·refine cdT T rfl h24 ?_
     refine Gets.seq ?_
     exact J4_ok F r z x1 A2 k3 m4 _ _ (T.sub trivial) (S.only (p := [sl m4 ku8 A2 k3 x1]) [0] rfl) H
    ·refine cdF T rfl h24 ?_
     refine Gets.skip (Gets.seq ?_)
     exact J5_ok F r z x1 A2 k3 m4 x5 _ _ (T.sub ⟨rfl, rfl, trivial⟩) (S.only (p := [sl m4 ku8 A2 k3 x1]) [0] rfl) H
   ·refine g_no T rfl rfl h22 rfl fun _ T => ?_
    refine g_no T rfl rfl h22 rfl fun _ T => g_no T rfl rfl h22 rfl fun _ T => g_no T rfl rfl h22 rfl fun _ T => g_yes T rfl rfl rfl ?_
    refine r_pickF T rfl h22 rfl rfl fun _ T => r_pickF T rfl rfl rfl rfl fun _ T => cdF T rfl rfl ?_
    refine Gets.skip (Gets.seq ?_)
    exact J5_ok F r z x1 A2 k3 m4 x5 _ _ (T.sub ⟨rfl, rfl, trivial⟩) (S.only (p := [sl m4 ku8 A2 k3 x1]) [0] rfl) H
theorem J2_ok (F : List Atom) (r : Int × Int × Int) (z : Nat) (x1 : List Int) (A2 : OA) (k3 : Nat) (m4 : Md) (x5 : Int) (a : Act) (w : World) (T : Tm 76 [(0, .slice A2 x1.length k3), (5, .int .i64 x5)] a) (S : SL ([sl m4 ku8 A2 k3 x1] ++ F) w) (H : J2 z x1 x5 = some r) : Gets Tryd.prog 87 ptJ2 a w (R F x1 A2 k3 m4 r) := by
 refine rg (r_pv T rfl rfl fun _ T => r_pv T rfl rfl fun _ T => r_pv T rfl rfl fun _ T => ?_)
 rcases ifE H with ⟨h13, H⟩ | ⟨h13, H⟩
 ·refine g_yes T rfl rfl h13 ?_
  refine r_pv T rfl rfl fun _ T => g_yes T rfl rfl h13 (r_lenS T rfl Tryd.runUnderlying29 rfl fun _ T => g_yes T rfl rfl h13 ?_)
  refine r_pv T rfl rfl fun _ T => r_pickT T rfl h13 rfl rfl fun _ T => ?_
  rcases ifE H with ⟨h14, H⟩ | ⟨h14, H⟩
  ·refine cdT T rfl h14 ?_
   refine Gets.seq (rg (r_pv T rfl rfl fun _ T => r_pv T rfl rfl fun _ T => ?_))
   refine r_pv T rfl rfl fun _ T => ?_
   replace H := Option.some.inj H
   subst H
   exact rtn T Tryd.func87 rfl rfl ⟨rfl, (S.only (p := [sl m4 ku8 A2 k3 x1]) [0] rfl)⟩
  ·refine cdF T rfl h14 ?_
   refine Gets.skip (Gets.seq (Gets.seq ?_))
   exact J3_ok F r z x1 A2 k3 m4 x5 _ _ (T.sub ⟨rfl, rfl, trivial⟩) (S.only (p := [sl m4 ku8 A2 k3 x1]) [0] rfl) H
 ·refine g_no T rfl rfl h13 rfl fun _ T => ?_
  refine g_no T rfl rfl h13 rfl fun _ T => g_no T rfl rfl h13 rfl fun _ T => r_pickF T rfl h13 rfl rfl fun _ T => cdF T rfl rfl ?_
  refine Gets.skip (Gets.seq (Gets.seq ?_))
  exact J3_ok F r z x1 A2 k3 m4 x5 _ _ (T.sub ⟨rfl, rfl, trivial⟩) (S.only (p := [sl m4 ku8 A2 k3 x1]) [0] rfl) H
theorem J1_ok (F : List Atom) (r : Int × Int × Int) (z : Nat) (x1 : List Int) (A2 : OA) (k3 : Nat) (m4 : Md) (x6 : Int) (q0 : Int → Int → Option (Int × Int × Int)) (hq0 : ∀ (x5 x6 : Int) (a : Act) (w : World), Tm 76 [(0, .slice A2 x1.length k3), (5, .int .i64 x5), (6, .int .i64 x6)] a → SL ([sl m4 ku8 A2 k3 x1] ++ F) w → q0 x5 x6 = some r → Gets Tryd.prog 87 ptL0 a w (R F x1 A2 k3 m4 r)) (x12 : Int) (a : Act) (w : World) (T : Tm 76 [(0, .slice A2 x1.length k3), (5, .int .i64 x12), (6, .int .i64 x6)] a) (S : SL ([sl m4 ku8 A2 k3 x1] ++ F) w) (H : J1 z q0 x1 x6 x12 = some r) : Gets Tryd.prog 87 ptJ1 a w (R F x1 A2 k3 m4 r) := by
 refine rg (r_pv T rfl rfl fun _ T => r_pv T rfl rfl fun _ T => r_pv T rfl rfl fun _ T => ?_)
 refine Gets.inLoop ?_
 exact hq0 x12 (wr .i64 (x6 + 1)) _ _ (T.sub ⟨rfl, rfl, rfl, trivial⟩) (S.only (p := [sl m4 ku8 A2 k3 x1]) [0] rfl) H
theorem L0_ok (F : List Atom) (r : Int × Int × Int) (z : Nat) (x1 : List Int) (A2 : OA) (k3 : Nat) (m4 : Md) (m : Nat) : ∀ (x5 x6 : Int) (a : Act) (w : World), Tm 76 [(0, .slice A2 x1.length k3), (5, .int .i64 x5), (6, .int .i64 x6)] a → SL ([sl m4 ku8 A2 k3 x1] ++ F) w → L0 z x1 m x5 x6 = some r → Gets Tryd.prog 87 ptL0 a w (R F x1 A2 k3 m4 r) := by
 induction m with
 | zero => intro _ _ _ _ _ _ H; cases H
 | succ m ih =>
  intro x5 x6 a w T S H
  refine Gets.seq (Gets.seq (rg (r_pv T rfl rfl fun _ T => ?_)))
  refine r_pv T rfl rfl fun _ T => r_lenS T rfl Tryd.runUnderlying29 rfl fun _ T => r_pv T rfl rfl fun _ T => r_pv T rfl rfl fun _ T => ?_
  rcases ifE H with ⟨h7, H⟩ | ⟨h7, H⟩
  ·refine g_yes T rfl rfl h7 ?_
   refine r_pv T rfl rfl fun _ T => g_yes T rfl rfl h7 (r_pv T rfl rfl fun _ T => r_pickT T rfl h7 rfl rfl fun _ T => ?_)
   refine r_pv T rfl rfl fun _ T => ?_
   rcases ifE H with ⟨h8, H⟩ | ⟨h8, H⟩
   ·refine g_yes T rfl rfl h8 ?_
    refine r_pv T rfl rfl fun _ T => g_yes T rfl rfl h8 (r_pv T rfl rfl fun _ T => r_pickT T rfl h8 rfl rfl fun _ T => ?_)
    rcases ifE H with ⟨h9, H⟩ | ⟨h9, H⟩
    ·refine cdT T rfl h9 ?_
     refine Gets.skip (Gets.seq (Gets.block (Gets.seq ?_)))
     refine rg (r_pv T rfl rfl fun _ T => r_pv T rfl rfl fun _ T => ?_)
     obtain ⟨h10, H⟩ := ck H
     refine r_ia (ix := 0) T S rfl rfl rfl rfl Tryd.runUnderlying29 Tryd.sizeOf5 h10.1 h10.2 rfl fun _ T => r_ldE (ix := 0) (i := x6) (off := 0) (f := (Value.int .u8)) T S rfl Tryd.isAgg5 rfl (0 : Int) _ rfl rfl (Fld.all _) h10.1 h10.2 (fun h => h) rfl fun _ T => r_pv T rfl rfl fun _ T => ?_
     rcases ifE H with ⟨h11, H⟩ | ⟨h11, H⟩
     ·refine cdT T rfl h11 ?_
      refine rg (r_pv T rfl rfl fun _ T => r_pv T rfl rfl fun _ T => Gets.inBlock ?_)
      exact J1_ok F r z x1 A2 k3 m4 x6 (L0 z x1 m) ih x6 _ _ (T.sub ⟨rfl, rfl, rfl, trivial⟩) (S.only (p := [sl m4 ku8 A2 k3 x1]) [0] rfl) H
     ·refine cdF T rfl h11 ?_
      refine Gets.skip (Gets.inBlock ?_)
      exact J1_ok F r z x1 A2 k3 m4 x6 (L0 z x1 m) ih x5 _ _ (T.sub ⟨rfl, rfl, rfl, trivial⟩) (S.only (p := [sl m4 ku8 A2 k3 x1]) [0] rfl) H
    ·refine cdF T rfl h9 ?_
     refine Gets.exit rfl (Gets.seq (Gets.seq ?_))
     exact J2_ok F r z x1 A2 k3 m4 x5 _ _ (T.sub ⟨rfl, rfl, trivial⟩) (S.only (p := [sl m4 ku8 A2 k3 x1]) [0] rfl) H
   ·refine g_no T rfl rfl h8 rfl fun _ T => ?_
    refine g_no T rfl rfl h8 rfl fun _ T => r_pickF T rfl h8 rfl rfl fun _ T => cdF T rfl rfl ?_
    refine Gets.exit rfl (Gets.seq (Gets.seq ?_))
    exact J2_ok F r z x1 A2 k3 m4 x5 _ _ (T.sub ⟨rfl, rfl, trivial⟩) (S.only (p := [sl m4 ku8 A2 k3 x1]) [0] rfl) H
  ·refine g_no T rfl rfl h7 rfl fun _ T => ?_
   refine g_no T rfl rfl h7 rfl fun _ T => r_pickF T rfl h7 rfl rfl fun _ T => r_pv T rfl rfl fun _ T => g_no T rfl rfl rfl rfl fun _ T => ?_
   refine g_no T rfl rfl rfl rfl fun _ T => r_pickF T rfl rfl rfl rfl fun _ T => cdF T rfl rfl ?_
   refine Gets.exit rfl (Gets.seq (Gets.seq ?_))
   exact J2_ok F r z x1 A2 k3 m4 x5 _ _ (T.sub ⟨rfl, rfl, trivial⟩) (S.only (p := [sl m4 ku8 A2 k3 x1]) [0] rfl) H
theorem ok (F : List Atom) (w : World) (z : Nat) (x1 : List Int) {A2 : OA} {k3 : Nat} {m4 : Md} (S : SL ([sl m4 ku8 A2 k3 x1] ++ F) w) (r : Int × Int × Int) (H : f z x1 = some r) : Calls Tryd.prog 87 #[.slice A2 x1.length k3] w (R F x1 A2 k3 m4 r) := by
 refine enter (vs := [.slice A2 x1.length k3]) Tryd.func87 rfl Tryd.ntmps87 (Nat.le_of_ble_eq_true rfl) fun a T => ?_
 refine Gets.seq (rg (r_pv T rfl rfl fun _ T => r_pv T rfl rfl fun _ T => ?_))
 refine r_pv T rfl rfl fun _ T => Gets.seq (rg (r_pv T rfl rfl fun _ T => ?_))
 refine Gets.seq (Gets.seq ?_)
 refine rg (r_pv T rfl rfl fun _ T => Gets.block (Gets.loop ?_))
 exact L0_ok F r z x1 A2 k3 m4 z (-1) 0 _ _ (T.sub ⟨rfl, rfl, rfl, trivial⟩) (S.only (p := [sl m4 ku8 A2 k3 x1]) [0] rfl) H
end cormorantref01_TakeNumber
end Go.Proofs.YtohelmfkpmphoaaDoor
namespace Go.Proofs.YtohelmfkpmphoaaDoor
open Go Go.Proofs.YtohelmfkpmphoaaDoor.X
set_option linter.unusedVariables false
set_option linter.unusedSimpArgs false
set_option maxRecDepth 100000
set_option maxHeartbeats 4000000
namespace cormorantref01_TakeText
def R (F : List Atom) (x1 : List Int) (A2 : OA) (k3 : Nat) (r : (List Int) × Int × Int) : Ending → World → Prop := fun e w' => ∃ (A15 : OA), ∃ (k16 : Nat), e = .returned (.tuple #[.slice A15 r.1.length k16, .int .i64 r.2.1, .int .i64 r.2.2]) ∧ SL ([sl .own ku8 A15 k16 r.1, sl .ro ku8 A2 k3 x1] ++ F) w'
def f (z : Nat) (x1 : List Int) : Option ((List Int) × Int × Int) := Bd (cormorantref01_TakeNumber.f z x1) fun x5 => If (x5.2.2 != 0) (some (([] : List Int), 0, x5.2.2)) (If (decide (x5.1 > 2097152)) (some (([] : List Int), 0, 12)) (If (decide ((wr .u64 (wr .i64 ((x1.length : Int) - x5.2.1))) < x5.1)) (some (([] : List Int), 0, 10)) (Ck (0 ≤ x5.2.1 ∧ x5.2.1 ≤ wr .i64 (x5.2.1 + (wr .i64 x5.1)) ∧ wr .i64 (x5.2.1 + (wr .i64 x5.1)) ≤ (x1.length : Int)) (Ck ((([] : List Int).length + (cut x1 (Int.toNat x5.2.1) (Int.toNat (wr .i64 (x5.2.1 + (wr .i64 x5.1))))).length) * 1 ≤ 140737488355328) (some ((([] : List Int) ++ (cut x1 (Int.toNat x5.2.1) (Int.toNat (wr .i64 (x5.2.1 + (wr .i64 x5.1)))))), wr .i64 (x5.2.1 + (wr .i64 x5.1)), 0))))))
theorem ok (F : List Atom) (w : World) (z : Nat) (x1 : List Int) {A2 : OA} {k3 : Nat} (S : SL ([sl .ro ku8 A2 k3 x1] ++ F) w) (r : (List Int) × Int × Int) (H : f z x1 = some r) : Calls Tryd.prog 84 #[.slice A2 x1.length k3] w (R F x1 A2 k3 r) := by
 refine enter (vs := [.slice A2 x1.length k3]) Tryd.func84 rfl Tryd.ntmps84 (Nat.le_of_ble_eq_true rfl) fun a T => ?_
 refine Gets.seq (rg (r_pv T rfl rfl fun _ T => r_pv T rfl rfl fun _ T => ?_))
 refine r_pv T rfl rfl fun _ T => Gets.seq (rg (r_pv T rfl rfl fun _ T => ?_))
 replace S := S.dup (i := 0) rfl
 obtain ⟨x5, h4, H⟩ := bd H
 refine r_call T Tryd.call87 rfl rfl (cormorantref01_TakeNumber.ok _ _ z x1 (S.sel (p := [sl .ro ku8 A2 k3 x1]) (is := [0]) rfl) _ h4) ?_
 rintro _ _ ⟨rfl, S⟩
 refine ⟨_, rfl, fun _ T => ?_⟩
 replace S : SL ([sl .ro ku8 A2 k3 x1] ++ F) _ := S.join.only [1] rfl
 refine r_pv T rfl rfl fun _ T => r_pv T rfl rfl fun _ T => r_pv T rfl rfl fun _ T => r_pv T rfl rfl fun _ T => ?_
 refine r_pv T rfl rfl fun _ T => r_pv T rfl rfl fun _ T => r_pv T rfl rfl fun _ T => ?_
 refine Gets.seq (Gets.block (Gets.seq ?_))
 refine rg (r_pv T rfl rfl fun _ T => r_pv T rfl rfl fun _ T => r_pv T rfl rfl fun _ T => ?_)
 rcases ifE H with ⟨h6, H⟩ | ⟨h6, H⟩
 ·refine cdT T rfl h6 ?_
  refine Gets.seq (rg (r_pv T rfl rfl fun _ T => r_pv T rfl rfl fun _ T => ?_))
  refine r_pv T rfl rfl fun _ T => r_pv T rfl rfl fun _ T => ?_
  replace S := S.nil ku8 .own
  replace H := Option.some.inj H
  subst H
  exact rtn T Tryd.func84 rfl rfl ⟨none, 0, rfl, (S.only (p := [sl .own ku8 none 0 ([] : List Int), sl .ro ku8 A2 k3 x1]) [0, 0] rfl)⟩
 ·refine cdF T rfl h6 ?_
  refine Gets.seq (rg (r_pv T rfl rfl fun _ T => r_pv T rfl rfl fun _ T => ?_))
  refine r_pv T rfl rfl fun _ T => ?_
  rcases ifE H with ⟨h7, H⟩ | ⟨h7, H⟩
  ·refine cdT T rfl h7 ?_
   refine Gets.seq (rg (r_pv T rfl rfl fun _ T => r_pv T rfl rfl fun _ T => ?_))
   refine r_pv T rfl rfl fun _ T => ?_
   replace S := S.nil ku8 .own
   replace H := Option.some.inj H
   subst H
   exact rtn T Tryd.func84 rfl rfl ⟨none, 0, rfl, (S.only (p := [sl .own ku8 none 0 ([] : List Int), sl .ro ku8 A2 k3 x1]) [0, 0] rfl)⟩
  ·refine cdF T rfl h7 ?_
   refine Gets.seq (rg (r_pv T rfl rfl fun _ T => r_lenS T rfl Tryd.runUnderlying29 rfl fun _ T => ?_))
   refine r_pv T rfl rfl fun _ T => r_pv T rfl rfl fun _ T => r_conv T rfl Tryd.runUnderlying3 Tryd.runUnderlying109 rfl fun _ T => r_pv T rfl rfl fun _ T => ?_
   refine r_pv T rfl rfl fun _ T => r_pv T rfl rfl fun _ T => ?_
   rcases ifE H with ⟨h8, H⟩ | ⟨h8, H⟩
   ·refine cdT T rfl h8 ?_
    refine Gets.seq (rg (r_pv T rfl rfl fun _ T => r_pv T rfl rfl fun _ T => ?_))
    refine r_pv T rfl rfl fun _ T => ?_
    replace S := S.nil ku8 .own
    replace H := Option.some.inj H
    subst H
    exact rtn T Tryd.func84 rfl rfl ⟨none, 0, rfl, (S.only (p := [sl .own ku8 none 0 ([] : List Int), sl .ro ku8 A2 k3 x1]) [0, 0] rfl)⟩
   ·refine cdF T rfl h8 ?_
    refine Gets.skip (Gets.inBlock (Gets.seq ?_))
    refine rg (r_pv T rfl rfl fun _ T => r_pv T rfl rfl fun _ T => r_conv T rfl Tryd.runUnderlying109 Tryd.runUnderlying3 rfl fun _ T => ?_)
    refine r_pv T rfl rfl fun _ T => r_pv T rfl rfl fun _ T => Gets.seq (rg ?_)
    refine r_pv T rfl rfl fun _ T => Gets.seq (rg (r_pv T rfl rfl fun _ T => ?_))
    refine r_pv T rfl rfl fun _ T => r_pv T rfl rfl fun _ T => r_pv T rfl rfl fun _ T => ?_
    have h9 := S.len (i := 0) rfl
    obtain ⟨h10, H⟩ := ck H
    refine r_slR (ix := 0) (xs := x1) T S rfl rfl (fun h => by cases h) rfl rfl rfl h10.1 h10.2.1 h10.2.2 (by have := h10.2.2; omega) (by omega) Tryd.runUnderlying29 Tryd.sizeOf5 rfl fun _ A11 S T => ?_
    replace S := S.nil ku8 .own
    obtain ⟨h14, H⟩ := ck H
    refine r_app (ix := 0) (iy := 1) (xs := ([] : List Int)) (ys := (cut x1 (Int.toNat x5.2.1) (Int.toNat (wr .i64 (x5.2.1 + (wr .i64 x5.1)))))) T S rfl rfl rfl rfl (by decide) sty29 Tryd.runUnderlying29 (by decide) h14 rfl fun _ _ A12 k13 S T => ?_
    replace S : SL ([sl .own ku8 A12 k13 (([] : List Int) ++ (cut x1 (Int.toNat x5.2.1) (Int.toNat (wr .i64 (x5.2.1 + (wr .i64 x5.1)))))), sl .ro ku8 A11 (Int.toNat (k3 : Int) - Int.toNat x5.2.1) (cut x1 (Int.toNat x5.2.1) (Int.toNat (wr .i64 (x5.2.1 + (wr .i64 x5.1))))), sl .ro ku8 A2 k3 x1] ++ F) _ := S
    refine r_pv T rfl rfl fun _ T => Gets.seq (rg (r_pv T rfl rfl fun _ T => ?_))
    refine r_pv T rfl rfl fun _ T => r_pv T rfl rfl fun _ T => r_pv T rfl rfl fun _ T => r_pv T rfl rfl fun _ T => ?_
    replace H := Option.some.inj H
    subst H
    exact rtn T Tryd.func84 rfl rfl ⟨A12, k13, rfl, (S.only (p := [sl .own ku8 A12 k13 (([] : List Int) ++ (cut x1 (Int.toNat x5.2.1) (Int.toNat (wr .i64 (x5.2.1 + (wr .i64 x5.1)))))), sl .ro ku8 A2 k3 x1]) [0, 1] rfl)⟩
end cormorantref01_TakeText
end Go.Proofs.YtohelmfkpmphoaaDoor
namespace Go.Proofs.YtohelmfkpmphoaaDoor
open Go Go.Proofs.YtohelmfkpmphoaaDoor.X
set_option linter.unusedVariables false
set_option linter.unusedSimpArgs false
def num (n : Nat) : List Int := if n ≤ 127 then [(n : Int)] else ((n % 128 + 128 : Nat) : Int) :: num (n / 128)
termination_by n
decreasing_by omega
theorem num_bys (n : Nat) : Bys (num n) := by
 induction n using Nat.strongRecOn with
 | ind n ih =>
  unfold num
  split
  ·exact Bys.cons (by omega) Bys.nil
  ·exact Bys.cons (by omega) (ih _ (by omega))
theorem num_lenp : ∀ (k n : Nat), n < 128 ^ k → 1 ≤ k → (num n).length ≤ k
 | 0, _, _, h => by omega
 | k + 1, n, h, _ => by
  unfold num
  split
  ·simp
  ·have hk : 1 ≤ k := by
    rcases k with _ | k
    ·simp at h; omega
    ·omega
   have := num_lenp k (n / 128) (by rw [Nat.pow_succ] at h; exact Nat.div_lt_of_lt_mul (by omega)) hk
   simp; omega
theorem num_len10 {n : Nat} (h : n ≤ 18446744073709551615) : (num n).length ≤ 10 := num_lenp 10 n (by omega) (by omega)
theorem or128 (n : Nat) : bOr .u8 (wr .u8 (n : Int)) 128 = ((n % 128 + 128 : Nat) : Int) := by
 rw [wB]
 have : ∀ i : Fin 256, bOr .u8 (i.val : Int) 128 = ((i.val % 128 + 128 : Nat) : Int) := by decide +kernel
 have h := this ⟨n % 256, by omega⟩
 simp only at h
 rw [show ((n : Int) % 256) = ((n % 256 : Nat) : Int) by omega, h]
 omega
theorem Number_L0 (z : Nat) : ∀ (k n m : Nat) (acc : List Int), n < 128 ^ k → 1 ≤ k → k ≤ m → acc.length + k ≤ 100 → codec_Number.L0 z m (n : Int) acc = some (acc ++ num n)
 | 0, _, _, _, _, h, _, _ => by omega
 | k + 1, n, 0, _, _, _, h, _ => by omega
 | k + 1, n, m + 1, acc, h, _, hm, hl => by
  unfold codec_Number.L0
  by_cases hn : n ≤ 127
  ·rw [if_n (by simp; omega), ck_y (by simp; omega)]
   unfold num
   rw [if_pos hn]
   simp [slices_Clip_byte.f, wB]
   omega
  ·have hk : 1 ≤ k := by
    rcases k with _ | k
    ·simp at h; omega
    ·omega
   rw [if_y (by simp; omega), ck_y (by simp; omega), or128, show (7 : Int) = ((7 : Nat) : Int) from rfl, shr_d _ _ _ (by decide), show ((n : Int) / 2 ^ 7) = ((n / 128 : Nat) : Int) by omega,
    Number_L0 z k (n / 128) m _ (by rw [Nat.pow_succ] at h; exact Nat.div_lt_of_lt_mul (by omega)) hk (by omega) (by simp; omega)]
   rw [num.eq_1 n, if_neg hn, List.append_assoc]
   rfl
theorem Number_f {z : Nat} (hz : 16777216 ≤ z) {x : Int} (h : 0 ≤ x ∧ x ≤ 18446744073709551615) : codec_Number.f z x = some (num x.toNat) := by
 obtain ⟨n, rfl⟩ := Int.eq_ofNat_of_zero_le h.1
 have := Number_L0 z 10 n z [] (by omega) (by omega) (by omega) (by simp)
 rw [List.nil_append] at this
 exact this
theorem Concat_L1 (z : Nat) (xs : List (List Int)) (hx : xs.length ≤ 1000) : ∀ (k m i : Nat) (acc : List Int), xs.length - i = k → i ≤ xs.length → k < m → acc.length + (xs.drop i).flatten.length ≤ 140737488355328 →
  slices_Concat_byte.L1 z xs m acc (i : Int) = some (acc ++ (xs.drop i).flatten)
 | k, 0, _, _, _, _, h, _ => by omega
 | 0, m + 1, i, c, hk, hi, _, _ => by
  rw [slices_Concat_byte.L1, if_n (by simp; omega), List.drop_eq_nil_of_le (by omega)]
  simp
 | k + 1, m + 1, i, acc, hk, hi, hm, hl => by
  rw [List.drop_eq_getElem_cons (by omega)] at hl ⊢
  simp only [List.flatten_cons, List.length_append] at hl
  rw [slices_Concat_byte.L1, if_y (by simp; omega), ck_y (by omega), gi_nat _ _ _ (by omega), ck_y (by omega), wI (by omega)]
  rw [show ((i : Int) + 1) = ((i + 1 : Nat) : Int) from rfl, Concat_L1 z xs hx k m (i + 1) _ (by omega) (by omega) (by omega) (by rw [List.length_append]; omega)]
  rw [List.append_assoc, List.flatten_cons]
theorem Grow_f {n : Int} (h : 0 ≤ n ∧ n ≤ 140737488355328) : slices_Grow_byte.f n = some [] := by
 unfold slices_Grow_byte.f
 rw [if_n (by simp; omega)]
 simp only [Int.sub_zero]
 rw [wI (x := 0) (by omega), Int.sub_zero, wI (by omega)]
 by_cases hn : n = 0
 ·subst hn; rfl
 ·rw [if_y (by simp; omega), ck_y (by simp), ck_y (by omega), ck_y (by omega)]
  simp [slices_Grow_byte.J0, cut]
theorem Concat_L0 (z : Nat) (hz : 16777216 ≤ z) (xs : List (List Int)) (hx : xs.length ≤ 1000) (hall : xs.flatten.length ≤ 140737488355328) : ∀ (k m i : Nat) (s : Nat), xs.length - i = k → i ≤ xs.length → k < m → s + (xs.drop i).flatten.length ≤ 140737488355328 →
  slices_Concat_byte.L0 z xs m (s : Int) (i : Int) = some xs.flatten
 | k, 0, _, _, _, _, h, _ => by omega
 | 0, m + 1, i, s, hk, hi, _, hl => by
  rw [slices_Concat_byte.L0, if_n (by simp; omega), Grow_f (by omega), bd_some]
  have := Concat_L1 z xs hx xs.length z 0 [] (by omega) (by omega) (by omega) (by simpa using hall)
  simpa using this
 | k + 1, m + 1, i, s, hk, hi, hm, hl => by
  rw [List.drop_eq_getElem_cons (by omega)] at hl
  simp only [List.flatten_cons, List.length_append] at hl
  rw [slices_Concat_byte.L0, if_y (by simp; omega), ck_y (by omega), gi_nat _ _ _ (by omega), wI (by omega), if_n (by simp; omega), wI (by omega)]
  exact Concat_L0 z hz xs hx hall k m (i + 1) (s + xs[i].length) (by omega) (by omega) (by omega) (by omega)
theorem Concat_f {z : Nat} (hz : 16777216 ≤ z) {xs : List (List Int)} (hx : xs.length ≤ 1000) (hall : xs.flatten.length ≤ 140737488355328) : slices_Concat_byte.f z xs = some xs.flatten :=
 Concat_L0 z hz xs hx hall xs.length z 0 0 (by omega) (by omega) (by omega) (by simpa using hall)
def txt (s : List Int) : List Int := num s.length ++ s
theorem Text_f {z : Nat} (hz : 16777216 ≤ z) {s : List Int} (hb : s.length ≤ 2097152) : codec_Text.f z s = some (txt s, 0) := by
 unfold codec_Text.f
 have h10 := num_len10 (n := s.length) (by omega)
 rw [if_n (by simp; omega), wU (by omega), Number_f hz (by omega), bd_some, Int.toNat_natCast, Concat_f hz (by simp) (by simp; omega), bd_some]
 simp [txt]
theorem txt_bys {s : List Int} (h : Bys s) : Bys (txt s) := Bys.app (num_bys _) h
theorem wrU_in (x : Int) : 0 ≤ wr .u64 x ∧ wr .u64 x ≤ 18446744073709551615 := by rw [wU']; omega
theorem bor64_in (x y : Int) : 0 ≤ bOr .u64 x y ∧ bOr .u64 x y ≤ 18446744073709551615 := wrU_in _
theorem TakeNumber_L0 (z : Nat) {xs : List Int} (hx : xs.length ≤ 16777215) : ∀ (k m i : Nat) (a : Int), 10 - i = k → i ≤ 10 → i ≤ xs.length → k < m →
  Ok (codec_TakeNumber.L0 z xs m a (i : Int)) fun r => r.2.2 ≠ 0 ∨ ((0 ≤ r.1 ∧ r.1 ≤ 18446744073709551615) ∧ 1 ≤ r.2.1 ∧ r.2.1 ≤ xs.length ∧ r.2.2 = 0)
 | k, 0, _, _, _, _, _, h => by omega
 | 0, m + 1, i, a, hk, hi, hl, hm => by
  rw [codec_TakeNumber.L0, if_n (by simp; omega)]
  exact Ok.some (.inl (by decide))
 | k + 1, m + 1, i, a, hk, hi, hl, hm => by
  rw [codec_TakeNumber.L0, if_y (by simp; omega)]
  refine Ok.ite (fun _ => Ok.some (.inl (by decide))) fun h1 => ?_
  rw [beq_eq_false_iff_ne] at h1
  have hil : i < xs.length := by omega
  refine Ok.ck (by omega) (Ok.ck (by rw [wI (by omega)]; omega) ?_)
  have hJ2 : Ok (codec_TakeNumber.J2 z xs a (i : Int)) fun r => r.2.2 ≠ 0 ∨ ((0 ≤ r.1 ∧ r.1 ≤ 18446744073709551615) ∧ 1 ≤ r.2.1 ∧ r.2.1 ≤ xs.length ∧ r.2.2 = 0) := by
   unfold codec_TakeNumber.J2
   rw [wI (x := (i : Int) + 1) (by omega)]
   exact Ok.some (.inr ⟨bor64_in _ _, by dsimp only; omega, by dsimp only; omega, rfl⟩)
  have hJ1 : Ok (codec_TakeNumber.J1 z xs a (i : Int)) fun r => r.2.2 ≠ 0 ∨ ((0 ≤ r.1 ∧ r.1 ≤ 18446744073709551615) ∧ 1 ≤ r.2.1 ∧ r.2.1 ≤ xs.length ∧ r.2.2 = 0) := by
   unfold codec_TakeNumber.J1
   exact Ok.ite (fun _ => Ok.ite (fun _ => Ok.some (.inl (by decide))) fun _ => hJ2) fun _ => hJ2
  refine Ok.ite (fun _ => ?_) fun _ => Ok.ite (fun _ => Ok.ite (fun _ => Ok.some (.inl (by decide))) fun _ => hJ1) fun _ => hJ1
  rw [wI (x := (i : Int) + 1) (by omega)]
  exact TakeNumber_L0 z hx k m (i + 1) _ (by omega) (by omega) (by omega) (by omega)
theorem TakeNumber_ok {z : Nat} (hz : 16777216 ≤ z) {xs : List Int} (hx : xs.length ≤ 16777215) : Ok (codec_TakeNumber.f z xs) fun r => r.2.2 ≠ 0 ∨ ((0 ≤ r.1 ∧ r.1 ≤ 18446744073709551615) ∧ 1 ≤ r.2.1 ∧ r.2.1 ≤ xs.length ∧ r.2.2 = 0) :=
 TakeNumber_L0 z hx 10 z 0 0 rfl (by omega) (by omega) (by omega)
theorem length_ok {z : Nat} (hz : 16777216 ≤ z) {xs : List Int} (hx : xs.length ≤ 16777215) {more : Int} (hm : 0 ≤ more ∧ more ≤ 100) : Ok (codec_length.f z xs more) fun r => r.2.2 ≠ 0 ∨ (0 ≤ r.1 ∧ 1 ≤ r.2.1 ∧ r.1 + r.2.1 + more ≤ xs.length ∧ r.2.2 = 0) := by
 unfold codec_length.f
 refine (TakeNumber_ok hz hx).bd fun r h => ?_
 refine Ok.ite (fun h1 => Ok.some (.inl (by simpa using h1))) fun h1 => ?_
 rw [bne_eq_false_iff_eq] at h1
 rcases h with h | ⟨h2, h3, h4, _⟩
 ·exact absurd h1 h
 refine Ok.ite (fun _ => Ok.some (.inl (by decide))) fun h5 => ?_
 have h5' : r.1 ≤ 2097152 := by simpa using h5
 rw [wI (x := (xs.length : Int) - r.2.1) (by omega), wI (x := (xs.length : Int) - r.2.1 - more) (by omega), wI (x := r.1) (by omega)]
 refine Ok.ite (fun _ => Ok.some (.inl (by decide))) fun h6 => ?_
 have h6' : r.1 ≤ (xs.length : Int) - r.2.1 - more := by simpa using h6
 exact Ok.some (.inr ⟨h2.1, h3, by dsimp only; omega, rfl⟩)
theorem gi_mid {α : Type} (d : α) (p : List α) (x : α) (q : List α) (i : Int) (hi : i = p.length) : gi d (p ++ x :: q) i = x := by
 subst hi
 unfold gi
 simp
theorem and127 (c : Int) (h : 0 ≤ c ∧ c < 256) : bAnd .u8 c 127 = c % 128 := by
 have : ∀ i : Fin 256, bAnd .u8 (i.val : Int) 127 = ((i.val % 128 : Nat) : Int) := by decide +kernel
 have q := this ⟨c.toNat, by omega⟩
 simp only [show ((c.toNat : Nat) : Int) = c by omega] at q
 rw [q]
 omega
theorem or64 (a d k : Nat) (hk63 : k ≤ 63) (ha : a < 2 ^ k) (hd : d * 2 ^ k < 18446744073709551616) : bOr .u64 (a : Int) ((d * 2 ^ k : Nat) : Int) = ((a + d * 2 ^ k : Nat) : Int) := by
 have h1 : a ||| d * 2 ^ k = a + d * 2 ^ k := by
  have := Nat.two_pow_add_eq_or_of_lt ha d
  rw [Nat.mul_comm d, Nat.or_comm, ← this, Nat.add_comm]
 rcases Nat.eq_zero_or_pos d with rfl | hp
 ·simp only [Nat.zero_mul, Nat.add_zero]
  have hk := Nat.pow_le_pow_right (n := 2) (by omega) hk63
  ·show wr .u64 (((BitVec.ofInt 64 (a : Int) ||| BitVec.ofInt 64 ((0 : Nat) : Int)).toNat : Nat) : Int) = _
   rw [BitVec.toNat_or, BitVec.toNat_ofInt, BitVec.toNat_ofInt, wU']
   simp
   omega
 ·have hk : 2 ^ k ≤ d * 2 ^ k := Nat.le_mul_of_pos_left _ hp
  have hlt : a + d * 2 ^ k < 18446744073709551616 := by
   rw [← h1]
   have q1 : a < 2 ^ 64 := by omega
   have q2 : d * 2 ^ k < 2 ^ 64 := by omega
   have := Nat.or_lt_two_pow q1 q2
   omega
  show wr .u64 (((BitVec.ofInt 64 (a : Int) ||| BitVec.ofInt 64 ((d * 2 ^ k : Nat) : Int)).toNat : Nat) : Int) = _
  rw [BitVec.toNat_or, BitVec.toNat_ofInt, BitVec.toNat_ofInt, wU']
  have e1 : ((a : Int) % ((2 ^ 64 : Nat) : Int)).toNat = a := by omega
  have e2 : (((d * 2 ^ k : Nat) : Int) % ((2 ^ 64 : Nat) : Int)).toNat = d * 2 ^ k := by omega
  rw [e1, e2, h1]
  omega
theorem take_step (a : Nat) (i : Nat) (c : Int) (hc : 0 ≤ c ∧ c < 256) (hi : i ≤ 9) (ha : a < 2 ^ (7 * i)) (hd : (c % 128).toNat * 2 ^ (7 * i) < 18446744073709551616) :
  bOr .u64 (a : Int) (sShl .u64 (wr .u64 (bAnd .u8 c 127)) (wr .i64 (7 * (i : Int)))) = ((a + (c % 128).toNat * 2 ^ (7 * i) : Nat) : Int) := by
 rw [and127 c hc, wU (by omega), wI (by omega)]
 have e : sShl .u64 (c % 128) (7 * (i : Int)) = (((c % 128).toNat * 2 ^ (7 * i) : Nat) : Int) := by
  show wr .u64 (c % 128 * 2 ^ (min (7 * (i : Int)).toNat 64)) = _
  rw [show min (7 * (i : Int)).toNat 64 = 7 * i by omega]
  have e1 : c % 128 * (2 : Int) ^ (7 * i) = (((c % 128).toNat * 2 ^ (7 * i) : Nat) : Int) := by
   rw [Int.natCast_mul, Int.natCast_pow]
   rw [show (((c % 128).toNat : Nat) : Int) = c % 128 by omega]
   rfl
  rw [e1, wU (by omega)]
 rw [e, or64 _ _ _ (by omega) ha hd]
theorem TakeNumber_num (z : Nat) (rest : List Int) : ∀ (n : Nat) (p : List Int) (a m : Nat), a < 2 ^ (7 * p.length) → n * 2 ^ (7 * p.length) < 18446744073709551616 → (p.length = 0 ∨ 0 < n) → p.length ≤ 9 → (num n).length ≤ m →
  codec_TakeNumber.L0 z (p ++ (num n ++ rest)) m (a : Int) (p.length : Int) = some (((a + n * 2 ^ (7 * p.length) : Nat) : Int), ((p.length + (num n).length : Nat) : Int), 0) := by
 intro n
 induction n using Nat.strongRecOn with
 | ind n ih =>
  intro p a m ha hn hp h9 hm
  rw [num.eq_1 n] at hm ⊢
  by_cases h : n ≤ 127
  ·rw [if_pos h] at hm ⊢
   obtain ⟨m, rfl⟩ : ∃ k, m = k + 1 := ⟨m - 1, by simp at hm; omega⟩
   have hg : gi (0 : Int) (p ++ ([(n : Int)] ++ rest)) (p.length : Int) = (n : Int) := gi_mid _ _ _ _ _ rfl
   rw [codec_TakeNumber.L0, if_y (by simp; omega), if_n (by simp; omega), ck_y (by simp; omega), ck_y (by rw [wI (by omega)]; omega), hg, if_n (by simp; omega)]
   have hJ2 : codec_TakeNumber.J2 z (p ++ ([(n : Int)] ++ rest)) (a : Int) (p.length : Int) = some (((a + n * 2 ^ (7 * p.length) : Nat) : Int), ((p.length + 1 : Nat) : Int), 0) := by
    unfold codec_TakeNumber.J2
    rw [hg, take_step a p.length n (by omega) h9 ha (by rw [show ((n : Int) % 128).toNat = n by omega]; exact hn), show ((n : Int) % 128).toNat = n by omega, wI (by omega)]
    rfl
   have hJ1 : codec_TakeNumber.J1 z (p ++ ([(n : Int)] ++ rest)) (a : Int) (p.length : Int) = some (((a + n * 2 ^ (7 * p.length) : Nat) : Int), ((p.length + 1 : Nat) : Int), 0) := by
    unfold codec_TakeNumber.J1
    by_cases h10 : p.length = 9
    ·rw [if_y (by simp [h10]), hg, if_n (by rw [h10] at hn; simp; omega), hJ2]
    ·rw [if_n (by simp; omega), hJ2]
   rcases hp with hp | hp
   ·rw [if_n (by rw [decide_eq_false_iff_not]; omega), hJ1]; rfl
   ·by_cases hp0 : p.length = 0
    ·rw [if_n (by rw [decide_eq_false_iff_not]; omega), hJ1]; rfl
    ·rw [if_y (by rw [decide_eq_true_iff]; omega), if_n (by rw [beq_eq_false_iff_ne]; omega), hJ1]; rfl
  ·rw [if_neg h] at hm ⊢
   obtain ⟨m, rfl⟩ : ∃ k, m = k + 1 := ⟨m - 1, by simp at hm; omega⟩
   have h8 : p.length ≤ 8 := by
    rcases Nat.lt_or_ge 8 p.length with q | q
    ·have : p.length = 9 := by omega
     rw [this] at hn
     omega
    ·exact q
   obtain ⟨c, hc⟩ : ∃ c : Int, c = ((n % 128 + 128 : Nat) : Int) := ⟨_, rfl⟩
   have hg : gi (0 : Int) (p ++ ((((n % 128 + 128 : Nat) : Int) :: num (n / 128)) ++ rest)) (p.length : Int) = ((n % 128 + 128 : Nat) : Int) := gi_mid _ _ _ _ _ rfl
   rw [codec_TakeNumber.L0, if_y (by simp; omega), if_n (by simp; omega), ck_y (by simp; omega), ck_y (by rw [wI (by omega)]; omega), hg, if_y (by simp; omega)]
   have hdiv : n / 128 * 2 ^ (7 * (p.length + 1)) + n % 128 * 2 ^ (7 * p.length) = n * 2 ^ (7 * p.length) := by
    rw [show 7 * (p.length + 1) = 7 + 7 * p.length by omega, Nat.pow_add, ← Nat.mul_assoc, ← Nat.add_mul, show n / 128 * 2 ^ 7 + n % 128 = n by omega]
   rw [take_step a p.length _ (by omega) h9 ha (by rw [show ((((n % 128 + 128 : Nat) : Int)) % 128).toNat = n % 128 by omega]; omega), show ((((n % 128 + 128 : Nat) : Int)) % 128).toNat = n % 128 by omega, wI (by omega)]
   have := ih (n / 128) (by omega) (p ++ [((n % 128 + 128 : Nat) : Int)]) (a + n % 128 * 2 ^ (7 * p.length)) m ?_ ?_ (.inr (by omega)) (by simp; omega) (by simpa using hm)
   ·simp only [List.length_append, List.length_singleton] at this
    rw [show p ++ ((((n % 128 + 128 : Nat) : Int) :: num (n / 128)) ++ rest) = p ++ [((n % 128 + 128 : Nat) : Int)] ++ (num (n / 128) ++ rest) by simp]
    rw [show ((p.length : Int) + 1) = ((p.length + 1 : Nat) : Int) from rfl, this]
    congr 2
    ·congr 1; omega
    ·simp; omega
   ·simp only [List.length_append, List.length_singleton]
    rw [show 7 * (p.length + 1) = 7 + 7 * p.length by omega, Nat.pow_add]
    have : n % 128 * 2 ^ (7 * p.length) ≤ 127 * 2 ^ (7 * p.length) := Nat.mul_le_mul_right _ (by omega)
    omega
   ·simp only [List.length_append, List.length_singleton]
    omega
theorem TakeNumber_f {z : Nat} (hz : 16777216 ≤ z) (n : Nat) (hn : n < 18446744073709551616) (rest : List Int) : codec_TakeNumber.f z (num n ++ rest) = some ((n : Int), ((num n).length : Int), 0) := by
 have := TakeNumber_num z rest n [] 0 z (by simp) (by simpa using hn) (.inl rfl) (by simp) (by have := num_len10 (n := n) (by omega); omega)
 simpa [codec_TakeNumber.f] using this
theorem cut_drop' {α : Type} (xs : List α) (n m : Nat) (hm : m = xs.length) : cut xs n m = xs.drop n := by subst hm; simp [cut]
theorem cut_mid {α : Type} (a b c : List α) (n m : Nat) (hn : n = a.length) (hm : m = a.length + b.length) : cut (a ++ (b ++ c)) n m = b := by
 subst hn hm
 unfold cut
 rw [List.take_append, List.drop_append]
 simp
theorem length_f {z : Nat} (hz : 16777216 ≤ z) (n : Nat) (hn : n ≤ 2097152) (rest : List Int) (more : Nat) (hr : n + more ≤ rest.length) (hl : rest.length ≤ 1152921504606846976) (hm : more ≤ 100) : codec_length.f z (num n ++ rest) (more : Int) = some ((n : Int), ((num n).length : Int), 0) := by
 have h10 := num_len10 (n := n) (by omega)
 unfold codec_length.f
 rw [TakeNumber_f hz n (by omega), bd_some]
 dsimp only
 rw [if_n (by rfl), if_n (by simp; omega), List.length_append, wI (x := (((num n).length + rest.length : Nat) : Int) - (num n).length) (by omega), wI (by omega), wI (x := (n : Int)) (by omega), if_n (by simp; omega)]
theorem Equal_f {xs ys : List Int} (hx : Bys xs) (hy : Bys ys) : bytes_Equal.f xs ys = some (decide (xs = ys)) := by
 unfold bytes_Equal.f
 rw [bstr_inj hx hy]
theorem xor_pow (k r : Nat) (h : r < 2 ^ k) : 2 ^ k ^^^ r = 2 ^ k + r := by
 apply Nat.eq_of_testBit_eq
 intro i
 rw [Nat.testBit_xor, Nat.testBit_two_pow]
 rcases Nat.lt_trichotomy i k with q | q | q
 ·rw [Nat.testBit_two_pow_add_gt q, decide_eq_false (by omega), Bool.false_xor]
 ·subst q
  rw [Nat.testBit_two_pow_add_eq, Nat.testBit_lt_two_pow h]
  simp
 ·have h1 : r < 2 ^ i := Nat.lt_of_lt_of_le h (Nat.pow_le_pow_right (by omega) (by omega))
  have h2 : 2 ^ k + r < 2 ^ i := by
   have : 2 ^ (k + 1) ≤ 2 ^ i := Nat.pow_le_pow_right (by omega) (by omega)
   rw [Nat.pow_succ] at this
   omega
  rw [Nat.testBit_lt_two_pow h1, Nat.testBit_lt_two_pow h2, decide_eq_false (by omega), Bool.false_xor]
theorem xor63 (u : Nat) (h : u < 18446744073709551616) : bXor .u64 (u : Int) 9223372036854775808 = if u < 9223372036854775808 then (u : Int) + 9223372036854775808 else (u : Int) - 9223372036854775808 := by
 show wr .u64 (((BitVec.ofInt 64 (u : Int) ^^^ BitVec.ofInt 64 9223372036854775808).toNat : Nat) : Int) = _
 rw [BitVec.toNat_xor, BitVec.toNat_ofInt, BitVec.toNat_ofInt, wU']
 have e1 : ((u : Int) % ((2 ^ 64 : Nat) : Int)).toNat = u := by omega
 have e2 : ((9223372036854775808 : Int) % ((2 ^ 64 : Nat) : Int)).toNat = 2 ^ 63 := by decide
 rw [e1, e2]
 split
 ·rename_i hlt
  have := xor_pow 63 u (by omega)
  rw [Nat.xor_comm, this]
  omega
 ·rename_i hge
  obtain ⟨r, rfl⟩ : ∃ r, u = 2 ^ 63 + r := ⟨u - 2 ^ 63, by omega⟩
  have := xor_pow 63 r (by omega)
  rw [← this, Nat.xor_comm, ← Nat.xor_assoc, Nat.xor_self, Nat.zero_xor]
  rw [this]
  omega
def inR (n : Int) : Prop := -9223372036854775808 ≤ n ∧ n ≤ 9223372036854775807
theorem flip_in {n : Int} (h : inR n) : bXor .u64 (wr .u64 n) 9223372036854775808 = n + 9223372036854775808 := by
 obtain ⟨h1, h2⟩ := h
 rw [wU']
 have hn : (n % 18446744073709551616) = ((n % 18446744073709551616).toNat : Int) := by omega
 rw [hn, xor63 _ (by omega)]
 split <;> omega
theorem flip_out (u : Nat) (h : u < 18446744073709551616) : wr .i64 (bXor .u64 (u : Int) 9223372036854775808) = (u : Int) - 9223372036854775808 := by
 rw [xor63 u h]
 have : ∀ x : Int, wr .i64 x = (x + 9223372036854775808) % 18446744073709551616 - 9223372036854775808 := by
  intro x
  show IntKind.wrap _ _ = _
  simp [IntKind.wrap, IntKind.bits, IntKind.signed]
  omega
 rw [this]
 split <;> omega
theorem wI_in (x : Int) : inR (wr .i64 x) := by
 have : wr .i64 x = (x + 9223372036854775808) % 18446744073709551616 - 9223372036854775808 := by
  show IntKind.wrap _ _ = _
  simp [IntKind.wrap, IntKind.bits, IntKind.signed]
  omega
 rw [this]
 unfold inR
 omega
def be8 (u : Nat) : List Int := [((u / 72057594037927936 % 256 : Nat) : Int), ((u / 281474976710656 % 256 : Nat) : Int), ((u / 1099511627776 % 256 : Nat) : Int), ((u / 4294967296 % 256 : Nat) : Int), ((u / 16777216 % 256 : Nat) : Int), ((u / 65536 % 256 : Nat) : Int), ((u / 256 % 256 : Nat) : Int), ((u % 256 : Nat) : Int)]
def kI (n : Int) : List Int := be8 (n + 9223372036854775808).toNat
theorem be8_len (u : Nat) : (be8 u).length = 8 := rfl
theorem kI_len (n : Int) : (kI n).length = 8 := rfl
theorem be8_bys (u : Nat) : Bys (be8 u) := by
 intro x hx
 simp only [be8, List.mem_cons, List.not_mem_nil, or_false] at hx
 omega
theorem kI_bys (n : Int) : Bys (kI n) := be8_bys _
theorem KeyInt_L (z : Nat) {n : Int} (h : inR n) (m i : Nat) (hi : i < 8) (xs : List Int) (hx : xs.length = 8) : codec_KeyInt.L0 z n (m + 1) xs (i : Int) = codec_KeyInt.L0 z n m (xs.set i (((n + 9223372036854775808).toNat / 2 ^ (56 - 8 * i) % 256 : Nat) : Int)) ((i + 1 : Nat) : Int) := by
 have hu : bXor .u64 (wr .u64 n) 9223372036854775808 = (((n + 9223372036854775808).toNat : Nat) : Int) := by rw [flip_in h]; unfold inR at h; omega
 rw [codec_KeyInt.L0, if_y (by simp; omega), wI (x := 8 * (i : Int)) (by omega), wI (x := 56 - 8 * (i : Int)) (by omega), ck_y (by omega), ck_y (by omega), wI (by omega), hu]
 rw [show (56 - 8 * (i : Int)) = ((56 - 8 * i : Nat) : Int) by omega, shr_d _ _ _ (by show 56 - 8 * i ≤ 64; omega), wB]
 congr 1
theorem KeyInt_f {z : Nat} (hz : 16777216 ≤ z) {n : Int} (h : inR n) : codec_KeyInt.f z n = some (kI n) := by
 obtain ⟨k, rfl⟩ : ∃ k, z = k + 9 := ⟨z - 9, by omega⟩
 unfold codec_KeyInt.f
 rw [ck_y (by decide)]
 have hL := KeyInt_L (k + 9) h
 show codec_KeyInt.L0 (k + 9) n (k + 8 + 1) [0, 0, 0, 0, 0, 0, 0, 0] ((0 : Nat) : Int) = _
 rw [hL _ 0 (by omega) _ (by simp), hL _ 1 (by omega) _ (by simp), hL _ 2 (by omega) _ (by simp), hL _ 3 (by omega) _ (by simp), hL _ 4 (by omega) _ (by simp), hL _ 5 (by omega) _ (by simp), hL _ 6 (by omega) _ (by simp), hL _ 7 (by omega) _ (by simp)]
 rw [codec_KeyInt.L0, if_n (by simp)]
 unfold kI be8
 simp
theorem refKeyInt_L (z : Nat) (m i : Nat) (hi : i < 8) (j : Int) (hj : j = (i : Int) - 1) (u : Nat) (hu : u < 18446744073709551616) (xs : List Int) (hx : xs.length = 8) : cormorantref01_KeyInt.L0 z (m + 1) (u : Int) xs (i : Int) = cormorantref01_KeyInt.L0 z m ((u / 256 : Nat) : Int) (xs.set i ((u % 256 : Nat) : Int)) j := by
 rw [cormorantref01_KeyInt.L0, if_y (by simp), ck_y (by omega), tdiv_nn (by omega), tmod_nn (by omega), wU (by omega), wB, wI (by omega), ← hj]
 congr 1
 congr 1
 omega
theorem refKeyInt_f {z : Nat} (hz : 16777216 ≤ z) {n : Int} (h : inR n) : cormorantref01_KeyInt.f z n = some (kI n) := by
 obtain ⟨k, rfl⟩ : ∃ k, z = k + 9 := ⟨z - 9, by omega⟩
 unfold cormorantref01_KeyInt.f
 rw [ck_y (by decide)]
 have hu : bXor .u64 (wr .u64 n) 9223372036854775808 = (((n + 9223372036854775808).toNat : Nat) : Int) := by rw [flip_in h]; unfold inR at h; omega
 have hlt : (n + 9223372036854775808).toNat < 18446744073709551616 := by unfold inR at h; omega
 rw [hu]
 unfold kI
 generalize (n + 9223372036854775808).toNat = u at hlt
 show cormorantref01_KeyInt.L0 (k + 9) (k + 8 + 1) (u : Int) [0, 0, 0, 0, 0, 0, 0, 0] ((7 : Nat) : Int) = _
 rw [refKeyInt_L _ _ 7 (by omega) ((6 : Nat) : Int) (by omega) _ (by omega) _ (by simp), refKeyInt_L _ _ 6 (by omega) ((5 : Nat) : Int) (by omega) _ (by omega) _ (by simp), refKeyInt_L _ _ 5 (by omega) ((4 : Nat) : Int) (by omega) _ (by omega) _ (by simp),
  refKeyInt_L _ _ 4 (by omega) ((3 : Nat) : Int) (by omega) _ (by omega) _ (by simp), refKeyInt_L _ _ 3 (by omega) ((2 : Nat) : Int) (by omega) _ (by omega) _ (by simp), refKeyInt_L _ _ 2 (by omega) ((1 : Nat) : Int) (by omega) _ (by omega) _ (by simp),
  refKeyInt_L _ _ 1 (by omega) ((0 : Nat) : Int) (by omega) _ (by omega) _ (by simp), refKeyInt_L _ _ 0 (by omega) (-1) (by omega) _ (by omega) _ (by simp)]
 rw [cormorantref01_KeyInt.L0, if_n (by decide)]
 unfold be8
 simp [Nat.div_div_eq_div_mul]
theorem bOr_comm (x y : Int) : bOr .u64 x y = bOr .u64 y x := by unfold bOr; rw [BitVec.or_comm]
theorem shl8 (a : Nat) (c : Int) (hc : 0 ≤ c ∧ c < 256) (ha : a < 72057594037927936) : bOr .u64 (sShl .u64 (a : Int) 8) (wr .u64 c) = ((a * 256 + c.toNat : Nat) : Int) := by
 rw [wU (by omega), bOr_comm]
 have e : sShl .u64 (a : Int) 8 = ((a * 2 ^ 8 : Nat) : Int) := by
  show wr .u64 ((a : Int) * 2 ^ 8) = _
  rw [wU (by omega)]
  omega
 have := or64 c.toNat a 8 (by omega) (by omega) (by omega)
 rw [show ((c.toNat : Nat) : Int) = c by omega] at this
 rw [e, this]
 omega
theorem digit (u : Nat) (i : Nat) (hi : i < 8) : u / 2 ^ (64 - 8 * i) * 256 + ((be8 u)[i]'(by rw [be8_len]; omega)).toNat = u / 2 ^ (56 - 8 * i) := by
 match i, hi with
 | 0, _ => simp only [be8, List.getElem_cons_zero, Nat.mul_zero, Nat.sub_zero, Nat.reducePow]; omega
 | 1, _ => simp only [be8, List.getElem_cons_zero, List.getElem_cons_succ, Nat.mul_one, Nat.reduceSub, Nat.reducePow]; omega
 | 2, _ => simp only [be8, List.getElem_cons_zero, List.getElem_cons_succ, Nat.reduceMul, Nat.reduceSub, Nat.reducePow]; omega
 | 3, _ => simp only [be8, List.getElem_cons_zero, List.getElem_cons_succ, Nat.reduceMul, Nat.reduceSub, Nat.reducePow]; omega
 | 4, _ => simp only [be8, List.getElem_cons_zero, List.getElem_cons_succ, Nat.reduceMul, Nat.reduceSub, Nat.reducePow]; omega
 | 5, _ => simp only [be8, List.getElem_cons_zero, List.getElem_cons_succ, Nat.reduceMul, Nat.reduceSub, Nat.reducePow]; omega
 | 6, _ => simp only [be8, List.getElem_cons_zero, List.getElem_cons_succ, Nat.reduceMul, Nat.reduceSub, Nat.reducePow]; omega
 | 7, _ => simp only [be8, List.getElem_cons_zero, List.getElem_cons_succ, Nat.reduceMul, Nat.reduceSub, Nat.reducePow]; omega
theorem digit_lt (u : Nat) (hu : u < 18446744073709551616) (i : Nat) (hi : i < 8) : u / 2 ^ (64 - 8 * i) < 72057594037927936 := by
 have : 2 ^ 8 ≤ 2 ^ (64 - 8 * i) := Nat.pow_le_pow_right (by omega) (by omega)
 exact Nat.div_lt_of_lt_mul (Nat.lt_of_lt_of_le hu (by
  have := Nat.mul_le_mul_right 72057594037927936 this
  omega))
theorem TakeKeyInt_f {z : Nat} (hz : 16777216 ≤ z) {n : Int} (h : inR n) (rest : List Int) : codec_TakeKeyInt.f z (kI n ++ rest) = some (n, 8, 0) := by
 have hlt : (n + 9223372036854775808).toNat < 18446744073709551616 := by unfold inR at h; omega
 unfold codec_TakeKeyInt.f
 rw [if_n (by simp [kI_len]; omega), ck_y (by simp [kI_len]; omega)]
 have hc : cut (kI n ++ rest) (Int.toNat 0) (Int.toNat 8) = kI n := by
  have : (kI n ++ rest).take 8 = kI n := List.take_left' (kI_len n)
  simpa [cut] using this
 have key : ∀ (k m i : Nat), 8 - i = k → i ≤ 8 → k < m → codec_TakeKeyInt.L0 z (kI n ++ rest) m (((n + 9223372036854775808).toNat / 2 ^ (64 - 8 * i) : Nat) : Int) (i : Int) = some (n, 8, 0) := by
  intro k
  induction k with
  | zero =>
   intro m i h1 h2 h3
   obtain ⟨m, rfl⟩ : ∃ q, m = q + 1 := ⟨m - 1, by omega⟩
   have : i = 8 := by omega
   subst this
   rw [codec_TakeKeyInt.L0, hc, if_n (by rw [kI_len]; decide), show (2 : Nat) ^ (64 - 8 * 8) = 1 from rfl, Nat.div_one, flip_out _ hlt]
   have : (((n + 9223372036854775808).toNat : Nat) : Int) - 9223372036854775808 = n := by unfold inR at h; omega
   rw [this]
  | succ k ih =>
   intro m i h1 h2 h3
   obtain ⟨m, rfl⟩ : ∃ q, m = q + 1 := ⟨m - 1, by omega⟩
   have hd := digit (n + 9223372036854775808).toNat i (by omega)
   have hl := digit_lt _ hlt i (by omega)
   rw [codec_TakeKeyInt.L0, hc, if_y (by rw [kI_len]; simp; omega), ck_y (by rw [kI_len]; omega), gi_nat _ _ _ (by rw [kI_len]; omega), shl8 _ _ (kI_bys n _ (List.getElem_mem _)) hl, wI (by omega)]
   have : (n + 9223372036854775808).toNat / 2 ^ (64 - 8 * i) * 256 + ((kI n)[i]'(by rw [kI_len]; omega)).toNat = (n + 9223372036854775808).toNat / 2 ^ (64 - 8 * (i + 1)) := by
    rw [show 64 - 8 * (i + 1) = 56 - 8 * i by omega, ← hd]
    rfl
   rw [this]
   exact ih m (i + 1) (by omega) (by omega) (by omega)
 have := key 8 z 0 rfl (by omega) (by omega)
 rw [show (2 : Nat) ^ (64 - 8 * 0) = 18446744073709551616 from rfl, Nat.div_eq_of_lt hlt] at this
 exact this
theorem TakeKeyInt_ok {z : Nat} (hz : 16777216 ≤ z) {xs : List Int} (hx : xs.length ≤ 16777215) : Ok (codec_TakeKeyInt.f z xs) fun r => inR r.1 ∧ 0 ≤ r.2.1 ∧ (r.2.2 = 0 → r.2.1 ≤ xs.length) := by
 unfold codec_TakeKeyInt.f
 refine Ok.ite (fun _ => Ok.some ⟨by unfold inR; decide, by decide, fun h => by cases h⟩) fun h => ?_
 have h8 : 8 ≤ (xs.length : Int) := by simpa using h
 refine Ok.ck h8 ?_
 have hcl : (cut xs (Int.toNat 0) (Int.toNat 8)).length = 8 := by rw [cut_len _ _ _ (by show 8 ≤ xs.length; omega)]; rfl
 have key : ∀ (k m : Nat) (i : Nat) (a : Int), 8 - i = k → i ≤ 8 → k < m → Ok (codec_TakeKeyInt.L0 z xs m a (i : Int)) fun r => inR r.1 ∧ 0 ≤ r.2.1 ∧ (r.2.2 = 0 → r.2.1 ≤ xs.length) := by
  intro k
  induction k with
  | zero =>
   intro m i a h1 h2 h3
   obtain ⟨m, rfl⟩ : ∃ q, m = q + 1 := ⟨m - 1, by omega⟩
   rw [codec_TakeKeyInt.L0, hcl, if_n (by simp; omega)]
   exact Ok.some ⟨wI_in _, Int.le_of_lt (by decide : (0 : Int) < 8), fun _ => h8⟩
  | succ k ih =>
   intro m i a h1 h2 h3
   obtain ⟨m, rfl⟩ : ∃ q, m = q + 1 := ⟨m - 1, by omega⟩
   rw [codec_TakeKeyInt.L0, hcl, if_y (by simp; omega), ck_y (by omega), wI (by omega)]
   exact ih m (i + 1) _ (by omega) (by omega) (by omega)
 exact key 8 z 0 0 rfl (by omega) (by omega)
theorem refTakeKeyInt_L (z : Nat) (xs : List Int) (hB : Bys xs) (h8 : 8 ≤ xs.length) (m a i : Nat) (hi : i < 8) (ha : a < 72057594037927936) : cormorantref01_TakeKeyInt.L0 z xs (m + 1) (a : Int) (i : Int) = cormorantref01_TakeKeyInt.L0 z xs m ((a * 256 + (xs[i]'(by omega)).toNat : Nat) : Int) ((i + 1 : Nat) : Int) := by
 have := hB _ (List.getElem_mem (l := xs) (n := i) (by omega))
 rw [cormorantref01_TakeKeyInt.L0, if_y (by simp; omega), ck_y (by omega), gi_nat _ _ _ (by omega), wU (x := 256 * (a : Int)) (by omega), wU (x := xs[i]) (by omega), wU (by omega), wI (by omega)]
 congr 1
 omega
theorem refTakeKeyInt_f {z : Nat} (hz : 16777216 ≤ z) {n : Int} (h : inR n) {rest : List Int} (hr : Bys rest) : cormorantref01_TakeKeyInt.f z (kI n ++ rest) = some (n, 8, 0) := by
 have hlt : (n + 9223372036854775808).toNat < 18446744073709551616 := by unfold inR at h; omega
 unfold cormorantref01_TakeKeyInt.f
 rw [if_n (by simp [kI_len]; omega)]
 have hB : Bys (kI n ++ rest) := (kI_bys n).app hr
 have hl : 8 ≤ (kI n ++ rest).length := by rw [List.length_append, kI_len]; omega
 have key : ∀ (k m i : Nat), 8 - i = k → i ≤ 8 → k < m → cormorantref01_TakeKeyInt.L0 z (kI n ++ rest) m (((n + 9223372036854775808).toNat / 2 ^ (64 - 8 * i) : Nat) : Int) (i : Int) = some (n, 8, 0) := by
  intro k
  induction k with
  | zero =>
   intro m i h1 h2 h3
   obtain ⟨m, rfl⟩ : ∃ q, m = q + 1 := ⟨m - 1, by omega⟩
   have : i = 8 := by omega
   subst this
   rw [cormorantref01_TakeKeyInt.L0, if_n (by decide), show (2 : Nat) ^ (64 - 8 * 8) = 1 from rfl, Nat.div_one, flip_out _ hlt]
   have : (((n + 9223372036854775808).toNat : Nat) : Int) - 9223372036854775808 = n := by unfold inR at h; omega
   rw [this]
  | succ k ih =>
   intro m i h1 h2 h3
   obtain ⟨m, rfl⟩ : ∃ q, m = q + 1 := ⟨m - 1, by omega⟩
   have hd := digit (n + 9223372036854775808).toNat i (by omega)
   have hl' := digit_lt _ hlt i (by omega)
   rw [refTakeKeyInt_L z _ hB hl m _ i (by omega) hl']
   have : (n + 9223372036854775808).toNat / 2 ^ (64 - 8 * i) * 256 + ((kI n ++ rest)[i]'(by omega)).toNat = (n + 9223372036854775808).toNat / 2 ^ (64 - 8 * (i + 1)) := by
    rw [show 64 - 8 * (i + 1) = 56 - 8 * i by omega, ← hd, List.getElem_append_left (by rw [kI_len]; omega)]
    rfl
   rw [this]
   exact ih m (i + 1) (by omega) (by omega) (by omega)
 have := key 8 z 0 rfl (by omega) (by omega)
 rw [show (2 : Nat) ^ (64 - 8 * 0) = 18446744073709551616 from rfl, Nat.div_eq_of_lt hlt] at this
 exact this
theorem refTakeKeyInt_ok {z : Nat} (hz : 16777216 ≤ z) {xs : List Int} (hx : xs.length ≤ 16777215) : Ok (cormorantref01_TakeKeyInt.f z xs) fun r => inR r.1 ∧ 0 ≤ r.2.1 ∧ (r.2.2 = 0 → r.2.1 ≤ xs.length) := by
 unfold cormorantref01_TakeKeyInt.f
 refine Ok.ite (fun _ => Ok.some ⟨by unfold inR; decide, by decide, fun h => by cases h⟩) fun h => ?_
 have h8 : 8 ≤ (xs.length : Int) := by simpa using h
 have key : ∀ (k m : Nat) (i : Nat) (a : Int), 8 - i = k → i ≤ 8 → k < m → Ok (cormorantref01_TakeKeyInt.L0 z xs m a (i : Int)) fun r => inR r.1 ∧ 0 ≤ r.2.1 ∧ (r.2.2 = 0 → r.2.1 ≤ xs.length) := by
  intro k
  induction k with
  | zero =>
   intro m i a h1 h2 h3
   obtain ⟨m, rfl⟩ : ∃ q, m = q + 1 := ⟨m - 1, by omega⟩
   rw [cormorantref01_TakeKeyInt.L0, if_n (by simp; omega)]
   exact Ok.some ⟨wI_in _, Int.le_of_lt (by decide : (0 : Int) < 8), fun _ => h8⟩
  | succ k ih =>
   intro m i a h1 h2 h3
   obtain ⟨m, rfl⟩ : ∃ q, m = q + 1 := ⟨m - 1, by omega⟩
   rw [cormorantref01_TakeKeyInt.L0, if_y (by simp; omega), ck_y (by omega), wI (x := (i : Int) + 1) (by omega)]
   exact ih m (i + 1) _ (by omega) (by omega) (by omega)
 exact key 8 z 0 0 rfl (by omega) (by omega)
theorem ne0 {xs : List Int} (h : (0 : Int) ∉ xs) {i : Nat} (hi : i < xs.length) : xs[i] ≠ 0 := fun e => h (e ▸ List.getElem_mem hi)
theorem bstr_size (xs : List Int) : (bstr xs).size = xs.length := by simp [bstr, ← ByteArray.size_data]
theorem bstr_get (xs : List Int) (i : Nat) (h : i < xs.length) : (bstr xs)[i]! = UInt8.ofNat (xs[i].toNat) := by
 have hs := bstr_size xs
 rw [getElem!_pos (bstr xs) i (by omega)]
 simp [bstr, ByteArray.getElem_eq_getElem_data]
theorem byte0 {x : Int} (h : 0 ≤ x ∧ x < 256) : (UInt8.ofNat x.toNat == (0 : Int).toNat.toUInt8) = decide (x = 0) := by
 have : ∀ i : Fin 256, (UInt8.ofNat i.val == (0 : Int).toNat.toUInt8) = decide (i.val = 0) := by decide +kernel
 have q := this ⟨x.toNat, by omega⟩
 simp only at q
 rw [q]
 by_cases e : x = 0
 ·subst e; rfl
 ·rw [decide_eq_false e, decide_eq_false (by omega)]
theorem idx_none {xs : List Int} (hb : Bys xs) (h : (0 : Int) ∉ xs) : idxP (bstr xs) 0 = -1 := by
 have : (List.range (bstr xs).size).find? (fun i => (bstr xs)[i]! == (0 : Int).toNat.toUInt8) = none := by
  rw [List.find?_range_eq_none]
  intro i hi
  rw [bstr_size] at hi
  rw [bstr_get xs i hi, byte0 (hb _ (List.getElem_mem _)), decide_eq_false (ne0 h hi)]
  rfl
 unfold idxP
 rw [this]
theorem idx_some {p q : List Int} (hb : Bys (p ++ 0 :: q)) (h : (0 : Int) ∉ p) : idxP (bstr (p ++ 0 :: q)) 0 = p.length := by
 have : (List.range (bstr (p ++ 0 :: q)).size).find? (fun i => (bstr (p ++ 0 :: q))[i]! == (0 : Int).toNat.toUInt8) = some p.length := by
  rw [List.find?_range_eq_some]
  refine ⟨?_, by rw [bstr_size]; simp, fun j hj => ?_⟩
  ·rw [bstr_get _ _ (by simp), List.getElem_append_right (by omega)]
   simp
  ·rw [bstr_get _ _ (by simp; omega), byte0 (hb _ (List.getElem_mem _)), List.getElem_append_left hj, decide_eq_false (ne0 h hj)]
   rfl
 unfold idxP
 rw [this]
theorem idx_any {xs : List Int} (hb : Bys xs) : idxP (bstr xs) 0 = -1 ∨ ∃ p q, xs = p ++ 0 :: q ∧ idxP (bstr xs) 0 = p.length := by
 by_cases h : (0 : Int) ∈ xs
 ·obtain ⟨p, q, rfl, hp⟩ := List.eq_append_cons_of_mem h
  exact .inr ⟨p, q, rfl, idx_some hb hp⟩
 ·exact .inl (idx_none hb h)
theorem fold_loop {β : Type} (f : β → UInt8 → β) (b : ByteArray) (stop : Nat) (h : stop ≤ b.size) (hf : ∀ (x : β) (j : Nat) (hj : j < b.size), f x b[j] = x) : ∀ (i j : Nat) (x : β), _root_.Id.run (ByteArray.foldlM.loop (m := _root_.Id) (fun x y => pure (f x y)) b stop h i j x) = x
 | 0, j, x => by
  unfold ByteArray.foldlM.loop
  split <;> rfl
 | i + 1, j, x => by
  unfold ByteArray.foldlM.loop
  split
  ·rename_i hj
   show _root_.Id.run (ByteArray.foldlM.loop (m := _root_.Id) (fun x y => pure (f x y)) b stop h i (j + 1) (f x (b[j]'(by omega)))) = x
   rw [hf x j (by omega)]
   exact fold_loop f b stop h hf i (j + 1) x
  ·rfl
theorem cnt_none {xs : List Int} (hb : Bys xs) (h : (0 : Int) ∉ xs) : cntP (bstr xs) 0 = 0 := by
 unfold cntP
 have hf : ∀ (x : Int) (j : Nat) (hj : j < (bstr xs).size), (fun (n : Int) (y : UInt8) => if y == (0 : Int).toNat.toUInt8 then n + 1 else n) x (bstr xs)[j] = x := by
  intro x j hj
  have hj' : j < xs.length := by rw [bstr_size] at hj; exact hj
  have e := bstr_get xs j hj'
  rw [getElem!_pos (bstr xs) j hj] at e
  simp only [e]
  rw [byte0 (hb _ (List.getElem_mem _)), decide_eq_false (ne0 h hj')]
  rfl
 unfold ByteArray.foldl ByteArray.foldlM
 simp only [Nat.le_refl, dif_pos]
 exact fold_loop _ _ _ _ hf _ _ _
theorem sbytes_bys (s : ByteArray) : Bys (sbytes s) := by
 intro x hx
 simp only [sbytes, List.mem_map] at hx
 obtain ⟨b, _, rfl⟩ := hx
 have := b.toNat_lt
 omega
theorem sbytes_len (s : ByteArray) : (sbytes s).length = s.size := by simp [sbytes, ← ByteArray.size_data]
theorem bstr_sbytes (s : ByteArray) : bstr (sbytes s) = s := by
 cases s with
 | mk d =>
  simp only [bstr, sbytes, List.map_map]
  congr 1
  apply Array.ext'
  simp only
  rw [show (fun n : Int => UInt8.ofNat n.toNat) ∘ (fun b : UInt8 => (b.toNat : Int)) = id from by funext b; simp]
  simp
def kT (s : List Int) : List Int := s ++ [0, 1]
theorem KeyText_f {z : Nat} (hz : 16777216 ≤ z) {s : List Int} (hb : Bys s) (h0 : (0 : Int) ∉ s) (hl : s.length ≤ 16777216) : codec_KeyText.f z s = some (kT s) := by
 unfold codec_KeyText.f bytes_ReplaceAll.f bytes_Replace.f
 rw [if_y (by decide)]
 have hc : bytes_Count.f z s [0] = some 0 := by
  unfold bytes_Count.f
  rw [if_n (by decide), if_y (by decide), ck_y (by decide), show gi (0 : Int) [0] 0 = 0 from rfl, cnt_none hb h0]
 rw [hc, bd_some]
 unfold bytes_Replace.J0
 rw [if_y (by decide), ck_y (by simp; omega), bd_some, bd_some, Concat_f hz (by simp) (by simp; omega), bd_some]
 simp [kT]
theorem refKeyText_L (z : Nat) (s : List Int) (h0 : (0 : Int) ∉ s) (hl : s.length ≤ 16777214) : ∀ (k m i : Nat) (acc : List Int), s.length - i = k → i ≤ s.length → k < m → acc.length + k ≤ 16777214 → cormorantref01_KeyText.L0 z s m acc (i : Int) = some (acc ++ (s.drop i ++ [0, 1]))
 | k, 0, _, _, _, _, h, _ => by omega
 | 0, m + 1, i, acc, hk, hi, _, ha => by
  rw [cormorantref01_KeyText.L0, if_n (by simp; omega), ck_y (by simp; omega), List.drop_eq_nil_of_le (by omega)]
  simp
 | k + 1, m + 1, i, acc, hk, hi, hm, ha => by
  have hi' : i < s.length := by omega
  rw [cormorantref01_KeyText.L0, if_y (by simp; omega), ck_y (by omega), ck_y (by simp; omega), gi_nat _ _ _ hi', if_n (by simp; exact ne0 h0 hi')]
  unfold cormorantref01_KeyText.J1
  rw [wI (by omega)]
  have := refKeyText_L z s h0 hl k m (i + 1) (acc ++ [s[i]]) (by omega) (by omega) (by omega) (by simp; omega)
  rw [show ((i : Int) + 1) = ((i + 1 : Nat) : Int) by omega, this, List.drop_eq_getElem_cons hi', List.append_assoc]
  rfl
theorem refKeyText_f {z : Nat} (hz : 16777216 ≤ z) {s : List Int} (h0 : (0 : Int) ∉ s) (hl : s.length ≤ 16777214) : cormorantref01_KeyText.f z s = some (kT s) := by
 have := refKeyText_L z s h0 hl s.length z 0 [] (by omega) (by omega) (by omega) (by simp; omega)
 simpa [kT, cormorantref01_KeyText.f] using this
theorem TakeKeyText_f {z : Nat} (hz : 16777216 ≤ z) {s rest : List Int} (hb : Bys s) (h0 : (0 : Int) ∉ s) (hr : Bys rest) (hl : (kT s ++ rest).length ≤ 16777214) : codec_TakeKeyText.f z (kT s ++ rest) = some (s, ((s.length + 2 : Nat) : Int), 0) := by
 obtain ⟨k, rfl⟩ : ∃ k, z = k + 1 := ⟨z - 1, by omega⟩
 have hlen : (kT s ++ rest).length = s.length + 2 + rest.length := by simp [kT]; omega
 have hkt : (kT s).length = s.length + 2 := by simp [kT]
 have hB : Bys (kT s ++ rest) := ((hb.app (Bys.cons (by omega) (Bys.cons (by omega) Bys.nil))).app hr)
 have e0 : kT s ++ rest = s ++ 0 :: (1 :: rest) := by simp [kT]
 unfold codec_TakeKeyText.f
 rw [codec_TakeKeyText.L0, ck_y (by omega)]
 unfold bytes_IndexByte.f
 have hc : cut (kT s ++ rest) (Int.toNat 0) (Int.toNat ((kT s ++ rest).length : Int)) = kT s ++ rest := by
  rw [show Int.toNat ((kT s ++ rest).length : Int) = (kT s ++ rest).length by omega]; show ((kT s ++ rest).take (kT s ++ rest).length).drop 0 = _; rw [List.take_length, List.drop_zero]
 rw [bd_some, hc, show idxP (bstr (kT s ++ rest)) 0 = s.length by rw [e0] at hB ⊢; exact idx_some hB h0]
 rw [if_n (by simp), wI (x := 0 + (s.length : Int)) (by omega), wI (x := 0 + (s.length : Int) + 1) (by omega), if_n (by simp; omega), ck_y (by omega)]
 rw [show Int.toNat (0 + (s.length : Int)) = s.length by omega]
 have hc2 : cut (kT s ++ rest) (Int.toNat 0) s.length = s := by rw [e0]; simp [cut]
 rw [hc2, ck_y (by simp; omega), wI (x := (s.length : Int) + 2) (by omega), wI (x := 0 + ((s.length : Int) + 2)) (by omega), wI (by omega), ck_y (by omega)]
 have hg : gi (0 : Int) (kT s ++ rest) (0 + ((s.length : Int) + 2) - 1) = 1 := by
  rw [show kT s ++ rest = (s ++ [0]) ++ 1 :: rest by simp [kT]]
  exact gi_mid _ _ _ _ _ (by simp; omega)
 rw [hg, if_y (by decide)]
 simp [slices_Clip_byte.f]
theorem TakeKeyText_ok {z : Nat} (hz : 16777216 ≤ z) {xs : List Int} (hb : Bys xs) (hx : xs.length ≤ 16777214) : Ok (codec_TakeKeyText.f z xs) fun r => 0 ≤ r.2.1 ∧ (r.2.2 = 0 → r.2.1 ≤ xs.length) := by
 have key : ∀ (k m i : Nat) (acc : List Int), xs.length - i = k → i ≤ xs.length → k < m → acc.length ≤ i → Ok (codec_TakeKeyText.L0 z xs m acc (i : Int)) fun r => 0 ≤ r.2.1 ∧ (r.2.2 = 0 → r.2.1 ≤ xs.length) := by
  intro k
  induction k using Nat.strongRecOn with
  | ind k ih =>
   intro m i acc h1 h2 h3 h4
   obtain ⟨m, rfl⟩ : ∃ q, m = q + 1 := ⟨m - 1, by omega⟩
   have hJ : Ok (codec_TakeKeyText.J1 z) fun r => 0 ≤ r.2.1 ∧ (r.2.2 = 0 → r.2.1 ≤ xs.length) := Ok.some ⟨Int.le_refl _, fun h => by cases h⟩
   rw [codec_TakeKeyText.L0, ck_y (by omega)]
   unfold bytes_IndexByte.f
   rw [bd_some, show Int.toNat (i : Int) = i by omega, cut_drop' xs i _ (by omega)]
   rcases idx_any (hb.drop i) with hn | ⟨p, q, hs, hn⟩
   ·rw [hn, if_y (by decide)]
    exact hJ
   ·have hlen : p.length + 1 + q.length = xs.length - i := by
     have := congrArg List.length hs
     simp at this; omega
    rw [hn, if_n (by simp), wI (x := (i : Int) + p.length) (by omega), wI (x := (i : Int) + p.length + 1) (by omega)]
    refine Ok.ite (fun _ => hJ) fun hne => ?_
    have hne' : (i : Int) + p.length + 1 ≠ xs.length := by simpa using hne
    have hcl : (cut xs i (i + p.length)).length = p.length := by rw [cut_len _ _ _ (by omega)]; omega
    rw [ck_y (by omega), show Int.toNat ((i : Int) + p.length) = i + p.length by omega, ck_y (by rw [hcl]; omega), wI (x := (p.length : Int) + 2) (by omega), wI (x := (i : Int) + (p.length + 2)) (by omega), wI (by omega), ck_y (by omega)]
    refine Ok.ite (fun _ => ?_) fun _ => Ok.ite (fun _ => ?_) fun _ => Ok.some ⟨Int.le_refl _, fun h => by cases h⟩
    ·unfold slices_Clip_byte.f
     rw [bd_some]
     exact Ok.some ⟨by dsimp only; omega, fun _ => by dsimp only; omega⟩
    ·rw [ck_y (by simp [hcl]; omega)]
     have := ih (xs.length - (i + p.length + 2)) (by omega) m (i + p.length + 2) (acc ++ cut xs i (i + p.length) ++ [0]) rfl (by omega) (by omega) (by simp [hcl]; omega)
     rw [show ((i + p.length + 2 : Nat) : Int) = (i : Int) + (p.length + 2) by omega] at this
     exact this
 exact key xs.length z 0 [] (by omega) (by omega) (by omega) (by simp)
theorem refTakeKeyText_f {z : Nat} (hz : 16777216 ≤ z) {s rest : List Int} (h0 : (0 : Int) ∉ s) (hl : (kT s ++ rest).length ≤ 16777214) : cormorantref01_TakeKeyText.f z (kT s ++ rest) = some (s, ((s.length + 2 : Nat) : Int), 0) := by
 have hlen : (kT s ++ rest).length = s.length + 2 + rest.length := by simp [kT]; omega
 have hkt : (kT s).length = s.length + 2 := by simp [kT]
 have key : ∀ (k m i : Nat), s.length - i = k → i ≤ s.length → k < m → cormorantref01_TakeKeyText.L0 z (kT s ++ rest) m (s.take i) (i : Int) = some (s, ((s.length + 2 : Nat) : Int), 0) := by
  intro k
  induction k with
  | zero =>
   intro m i h1 h2 h3
   obtain ⟨m, rfl⟩ : ∃ q, m = q + 1 := ⟨m - 1, by omega⟩
   have : i = s.length := by omega
   subst this
   have e0 : kT s ++ rest = s ++ 0 :: (1 :: rest) := by simp [kT]
   have hg : gi (0 : Int) (kT s ++ rest) (s.length : Int) = 0 := by rw [e0]; exact gi_mid _ _ _ _ _ rfl
   have hg1 : gi (0 : Int) (kT s ++ rest) ((s.length : Int) + 1) = 1 := by
    rw [show kT s ++ rest = (s ++ [0]) ++ 1 :: rest by simp [kT]]
    exact gi_mid _ _ _ _ _ (by simp)
   rw [cormorantref01_TakeKeyText.L0, if_y (by simp; omega), ck_y (by omega), hg, if_n (by decide), wI (x := (s.length : Int) + 1) (by omega), if_n (by simp; omega), ck_y (by omega), hg1, if_y (by decide), wI (by omega), List.take_length]
   rfl
  | succ k ih =>
   intro m i h1 h2 h3
   obtain ⟨m, rfl⟩ : ∃ q, m = q + 1 := ⟨m - 1, by omega⟩
   have hi : i < s.length := by omega
   have hg : gi (0 : Int) (kT s ++ rest) (i : Int) = s[i] := by
    rw [gi_nat _ _ _ (by omega)]
    simp only [kT, List.append_assoc]
    rw [List.getElem_append_left hi]
   rw [cormorantref01_TakeKeyText.L0, if_y (by simp; omega), ck_y (by omega), hg, if_y (by simp; exact ne0 h0 hi), ck_y (by simp; omega), wI (by omega)]
   have := ih m (i + 1) (by omega) (by omega) (by omega)
   rw [List.take_succ_eq_append_getElem hi] at this
   exact this
 exact key s.length z 0 (by omega) (by omega) (by omega)
theorem refTakeKeyText_ok {z : Nat} (hz : 16777216 ≤ z) {xs : List Int} (hx : xs.length ≤ 16777214) : Ok (cormorantref01_TakeKeyText.f z xs) fun r => 0 ≤ r.2.1 ∧ (r.2.2 = 0 → r.2.1 ≤ xs.length) := by
 have key : ∀ (k m i : Nat) (acc : List Int), xs.length - i = k → i ≤ xs.length → k < m → acc.length ≤ i → Ok (cormorantref01_TakeKeyText.L0 z xs m acc (i : Int)) fun r => 0 ≤ r.2.1 ∧ (r.2.2 = 0 → r.2.1 ≤ xs.length) := by
  intro k
  induction k using Nat.strongRecOn with
  | ind k ih =>
   intro m i acc h1 h2 h3 h4
   obtain ⟨m, rfl⟩ : ∃ q, m = q + 1 := ⟨m - 1, by omega⟩
   rw [cormorantref01_TakeKeyText.L0]
   refine Ok.ite (fun h => ?_) fun _ => Ok.some ⟨Int.le_refl _, fun h => by cases h⟩
   have hi : (i : Int) < xs.length := by simpa using h
   rw [ck_y (by omega), wI (x := (i : Int) + 1) (by omega)]
   refine Ok.ite (fun _ => ?_) fun _ => Ok.ite (fun _ => Ok.some ⟨Int.le_refl _, fun h => by cases h⟩) fun hne => ?_
   ·rw [ck_y (by simp; omega)]
    exact ih (xs.length - (i + 1)) (by omega) m (i + 1) _ rfl (by omega) (by omega) (by simp; omega)
   ·have hne' : (i : Int) + 1 ≠ xs.length := by simpa using hne
    rw [ck_y (by omega), wI (by omega)]
    refine Ok.ite (fun _ => Ok.some ⟨by dsimp only; omega, fun _ => by dsimp only; omega⟩) fun _ => Ok.ite (fun _ => ?_) fun _ => Ok.some ⟨Int.le_refl _, fun h => by cases h⟩
    rw [ck_y (by simp; omega)]
    have := ih (xs.length - (i + 2)) (by omega) m (i + 2) (acc ++ [0]) rfl (by omega) (by omega) (by simp; omega)
    rw [show ((i + 2 : Nat) : Int) = (i : Int) + 1 + 1 by omega] at this
    exact this
 exact key xs.length z 0 [] (by omega) (by omega) (by omega) (by simp)
theorem refNumber_L0 (z : Nat) : ∀ (k n m : Nat) (acc : List Int), n < 128 ^ k → n < 18446744073709551616 → 1 ≤ k → k ≤ m → acc.length + k ≤ 100 → cormorantref01_Number.L0 z m (n : Int) acc = some (acc ++ num n)
 | 0, _, _, _, _, _, h, _, _ => by omega
 | k + 1, n, 0, _, _, _, _, h, _ => by omega
 | k + 1, n, m + 1, acc, h, h64, _, hm, hl => by
  unfold cormorantref01_Number.L0
  by_cases hn : n ≤ 127
  ·rw [if_n (by simp; omega), ck_y (by simp; omega)]
   unfold num
   rw [if_pos hn]
   simp [wB]
   omega
  ·have hk : 1 ≤ k := by
    rcases k with _ | k
    ·simp at h; omega
    ·omega
   rw [if_y (by simp; omega), ck_y (by simp; omega), tmod_nn (by omega), tdiv_nn (by omega), wU (x := 128 + (n : Int) % 128) (by omega), wU (x := (n : Int) / 128) (by omega), wB, show (128 + (n : Int) % 128) % 256 = ((n % 128 + 128 : Nat) : Int) by omega, show ((n : Int) / 128) = ((n / 128 : Nat) : Int) by omega,
    refNumber_L0 z k (n / 128) m _ (by rw [Nat.pow_succ] at h; exact Nat.div_lt_of_lt_mul (by omega)) (by omega) hk (by omega) (by simp; omega)]
   rw [num.eq_1 n, if_neg hn, List.append_assoc]
   rfl
theorem refNumber_f {z : Nat} (hz : 16777216 ≤ z) {n : Nat} (h : n < 18446744073709551616) : cormorantref01_Number.f z (n : Int) = some (num n) := by
 have := refNumber_L0 z 10 n z [] (by omega) h (by omega) (by omega) (by simp)
 rw [List.nil_append] at this
 exact this
theorem txt_len {s : List Int} (h : s.length ≤ 65536) : (txt s).length ≤ s.length + 10 := by
 have := num_len10 (n := s.length) (by omega)
 simp [txt]; omega
theorem refText_f {z : Nat} (hz : 16777216 ≤ z) {s : List Int} (h : s.length ≤ 2097152) : cormorantref01_Text.f z s = some (txt s, 0) := by
 have := num_len10 (n := s.length) (by omega)
 unfold cormorantref01_Text.f
 rw [if_n (by simp; omega), wU (by omega), refNumber_f hz (by omega), bd_some, ck_y (by omega)]
 rfl
theorem TakeText_f {z : Nat} (hz : 16777216 ≤ z) {s rest : List Int} (h : s.length ≤ 65536) (hl : (txt s ++ rest).length ≤ 16777214) : codec_TakeText.f z (txt s ++ rest) = some (s, ((txt s).length : Int), 0) := by
 have h10 := num_len10 (n := s.length) (by omega)
 have ht : (txt s).length = (num s.length).length + s.length := by simp [txt]
 have hl' : (txt s ++ rest).length = (txt s).length + rest.length := by simp
 unfold codec_TakeText.f
 rw [show txt s ++ rest = num s.length ++ (s ++ rest) by simp [txt], show (0 : Int) = ((0 : Nat) : Int) from rfl, length_f hz s.length (by omega) (s ++ rest) 0 (by simp) (by simp; omega) (by omega), bd_some]
 dsimp only
 rw [if_n (by rfl), wI (by omega), ck_y (by simp; omega), cut_mid _ s rest _ _ (by omega) (by omega)]
 unfold bytes_Clone.f slices_Clip_byte.f
 rw [ck_y (by omega)]
 simp [ht]
theorem TakeText_ok {z : Nat} (hz : 16777216 ≤ z) {xs : List Int} (hx : xs.length ≤ 16777214) : Ok (codec_TakeText.f z xs) fun r => 0 ≤ r.2.1 ∧ (r.2.2 = 0 → r.2.1 ≤ xs.length) := by
 unfold codec_TakeText.f
 refine (length_ok hz (by omega) (by omega)).bd fun r h => ?_
 refine Ok.ite (fun h1 => Ok.some ⟨Int.le_refl _, fun h => absurd h (by simpa using h1)⟩) fun h1 => ?_
 rcases h with h | ⟨h2, h3, h4, h5⟩
 ·exact absurd (by simpa using h1) h
 rw [wI (by omega), ck_y (by omega)]
 unfold bytes_Clone.f slices_Clip_byte.f
 rw [ck_y (by rw [cut_len _ _ _ (by omega)]; omega), bd_some, bd_some]
 exact Ok.some ⟨by dsimp only; omega, fun _ => by dsimp only; omega⟩
theorem num1 {n : Nat} (h : n ≤ 127) : num n = [(n : Int)] := by rw [num.eq_1, if_pos h]
theorem num2 {n : Nat} (h : 127 < n) (h' : n ≤ 16383) : num n = [((n % 128 + 128 : Nat) : Int), ((n / 128 : Nat) : Int)] := by rw [num.eq_1, if_neg (by omega), num1 (by omega)]
theorem num3 {n : Nat} (h : 16383 < n) (h' : n ≤ 2097151) : num n = [((n % 128 + 128 : Nat) : Int), ((n / 128 % 128 + 128 : Nat) : Int), ((n / 16384 : Nat) : Int)] := by
 rw [num.eq_1, if_neg (by omega), num2 (by omega) (by omega), Nat.div_div_eq_div_mul]
section
variable {z : Nat} {xs : List Int} {m : Nat}
theorem rtA {i : Int} (hi : 0 ≤ i ∧ i < xs.length ∧ i < 10) (hl : xs.length ≤ 16777214) (hg : 128 ≤ gi 0 xs i) : cormorantref01_TakeNumber.L0 z xs (m + 1) (-1) i = cormorantref01_TakeNumber.L0 z xs m (-1) (i + 1) := by
 rw [cormorantref01_TakeNumber.L0, if_y (by simp; omega), if_y (by simp; omega), if_y (by decide), ck_y (by omega), if_n (by simp; omega)]
 unfold cormorantref01_TakeNumber.J1
 rw [wI (by omega)]
theorem rtB {i : Int} (hi : 0 ≤ i ∧ i < xs.length ∧ i < 10) (hl : xs.length ≤ 16777214) (hg : gi 0 xs i < 128) : cormorantref01_TakeNumber.L0 z xs (m + 1) (-1) i = cormorantref01_TakeNumber.L0 z xs m i (i + 1) := by
 rw [cormorantref01_TakeNumber.L0, if_y (by simp; omega), if_y (by simp; omega), if_y (by decide), ck_y (by omega), if_y (by simp; omega)]
 unfold cormorantref01_TakeNumber.J1
 rw [wI (by omega)]
theorem rtC {e i : Int} (he : 0 ≤ e) : cormorantref01_TakeNumber.L0 z xs (m + 1) e i = cormorantref01_TakeNumber.J3 z xs e := by
 have hJ : cormorantref01_TakeNumber.J2 z xs e = cormorantref01_TakeNumber.J3 z xs e := by
  unfold cormorantref01_TakeNumber.J2
  rw [if_n (by simp; omega)]
 rw [cormorantref01_TakeNumber.L0, hJ]
 cases h : decide (i < (xs.length : Int))
 ·rfl
 ·rw [if_t]
  cases h2 : decide (i < 10)
  ·rfl
  ·rw [if_t, if_n (by simp; omega)]
theorem rtD {u : Nat} {i : Int} {e : Int} (hi : 0 ≤ i ∧ i < xs.length) (hl : xs.length ≤ 16777214) (hu : u < 65537) (hb : 0 ≤ gi 0 xs i ∧ gi 0 xs i < 256) : cormorantref01_TakeNumber.L6 z xs e (m + 1) (u : Int) i = cormorantref01_TakeNumber.L6 z xs e m ((128 * u + (gi 0 xs i).toNat % 128 : Nat) : Int) (i - 1) := by
 rw [cormorantref01_TakeNumber.L6, if_y (by simp; omega), ck_y (by omega), tmod_nn (by omega), wU (x := 128 * (u : Int)) (by omega), wU (x := gi 0 xs i % 128) (by omega), wU (by omega), wI (by omega)]
 congr 1
 omega
end
theorem refTakeNumber_f {z : Nat} (hz : 16777216 ≤ z) {n : Nat} (hn : n ≤ 65536) (rest : List Int) (hl : rest.length ≤ 16777000) : cormorantref01_TakeNumber.f z (num n ++ rest) = some ((n : Int), ((num n).length : Int), 0) := by
 obtain ⟨k, rfl⟩ : ∃ k, z = k + 6 := ⟨z - 6, by omega⟩
 unfold cormorantref01_TakeNumber.f
 by_cases h1 : n ≤ 127
 ·rw [num1 h1]
  obtain ⟨xs, hxs⟩ : ∃ xs, [(n : Int)] ++ rest = xs := ⟨_, rfl⟩
  have hx : xs.length = 1 + rest.length := by rw [← hxs]; simp; omega
  have g0 : gi 0 xs 0 = (n : Int) := by rw [← hxs]; rfl
  rw [hxs, rtB (by omega) (by omega) (by rw [g0]; omega), rtC (by omega)]
  unfold cormorantref01_TakeNumber.J3
  rw [if_n (by decide), if_n (by decide), if_n (by decide)]
  unfold cormorantref01_TakeNumber.J5
  rw [show (0 : Int) = ((0 : Nat) : Int) from rfl, rtD (by omega) (by omega) (by omega) (by simp only [Int.natCast_zero]; rw [g0]; omega), cormorantref01_TakeNumber.L6, if_n (by decide), Int.natCast_zero, g0]
  have : 128 * 0 + (n : Int).toNat % 128 = n := by omega
  rw [this]
  rfl
 ·by_cases h2 : n ≤ 16383
  ·rw [num2 (by omega) h2]
   obtain ⟨xs, hxs⟩ : ∃ xs, [((n % 128 + 128 : Nat) : Int), ((n / 128 : Nat) : Int)] ++ rest = xs := ⟨_, rfl⟩
   have hx : xs.length = 2 + rest.length := by rw [← hxs]; simp; omega
   have g0 : gi 0 xs 0 = ((n % 128 + 128 : Nat) : Int) := by rw [← hxs]; rfl
   have g1 : gi 0 xs (0 + 1) = ((n / 128 : Nat) : Int) := by rw [← hxs]; rfl
   rw [hxs, rtA (by omega) (by omega) (by rw [g0]; omega), rtB (by omega) (by omega) (by rw [g1]; omega), rtC (by omega)]
   unfold cormorantref01_TakeNumber.J3
   rw [if_n (by decide), if_y (by decide), ck_y (by omega), g1, if_n (by simp; omega), if_n (by decide)]
   unfold cormorantref01_TakeNumber.J5
   rw [show (0 : Int) = ((0 : Nat) : Int) from rfl, rtD (by omega) (by omega) (by omega) (by simp only [Int.natCast_zero]; rw [g1]; omega), rtD (by omega) (by omega) (by simp only [Int.natCast_zero]; rw [g1]; omega) (by simp only [Int.natCast_zero]; rw [show (0 : Int) + 1 - 1 = 0 by omega, g0]; omega), cormorantref01_TakeNumber.L6, if_n (by decide), Int.natCast_zero, g1, show (0 : Int) + 1 - 1 = 0 by omega, g0]
   have : 128 * (128 * 0 + (((n / 128 : Nat) : Int)).toNat % 128) + (((n % 128 + 128 : Nat) : Int)).toNat % 128 = n := by omega
   rw [this]
   rfl
  ·rw [num3 (by omega) (by omega)]
   obtain ⟨xs, hxs⟩ : ∃ xs, [((n % 128 + 128 : Nat) : Int), ((n / 128 % 128 + 128 : Nat) : Int), ((n / 16384 : Nat) : Int)] ++ rest = xs := ⟨_, rfl⟩
   have hx : xs.length = 3 + rest.length := by rw [← hxs]; simp; omega
   have g0 : gi 0 xs 0 = ((n % 128 + 128 : Nat) : Int) := by rw [← hxs]; rfl
   have g1 : gi 0 xs (0 + 1) = ((n / 128 % 128 + 128 : Nat) : Int) := by rw [← hxs]; rfl
   have g2 : gi 0 xs (0 + 1 + 1) = ((n / 16384 : Nat) : Int) := by rw [← hxs]; rfl
   rw [hxs, rtA (by omega) (by omega) (by rw [g0]; omega), rtA (by omega) (by omega) (by rw [g1]; omega), rtB (by omega) (by omega) (by rw [g2]; omega), rtC (by omega)]
   unfold cormorantref01_TakeNumber.J3
   rw [if_n (by decide), if_y (by decide), ck_y (by omega), g2, if_n (by simp; omega), if_n (by decide)]
   unfold cormorantref01_TakeNumber.J5
   rw [show (0 : Int) = ((0 : Nat) : Int) from rfl, rtD (by omega) (by omega) (by omega) (by simp only [Int.natCast_zero]; rw [g2]; omega), rtD (by omega) (by omega) (by simp only [Int.natCast_zero]; rw [g2]; omega) (by simp only [Int.natCast_zero]; rw [show (0 : Int) + 1 + 1 - 1 = 0 + 1 by omega, g1]; omega),
    rtD (by omega) (by omega) (by simp only [Int.natCast_zero]; rw [g2, show (0 : Int) + 1 + 1 - 1 = 0 + 1 by omega, g1]; omega) (by simp only [Int.natCast_zero]; rw [show (0 : Int) + 1 + 1 - 1 - 1 = 0 by omega, g0]; omega), cormorantref01_TakeNumber.L6, if_n (by decide), Int.natCast_zero, g2, show (0 : Int) + 1 + 1 - 1 = 0 + 1 by omega, g1, show (0 : Int) + 1 - 1 = 0 by omega, g0]
   have : 128 * (128 * (128 * 0 + (((n / 16384 : Nat) : Int)).toNat % 128) + (((n / 128 % 128 + 128 : Nat) : Int)).toNat % 128) + (((n % 128 + 128 : Nat) : Int)).toNat % 128 = n := by omega
   rw [this]
   rfl
def NumOk (xs : List Int) (r : Int × Int × Int) : Prop := r.2.2 ≠ 0 ∨ ((0 ≤ r.1 ∧ r.1 ≤ 18446744073709551615) ∧ 1 ≤ r.2.1 ∧ r.2.1 ≤ xs.length ∧ r.2.2 = 0)
theorem refTakeNumber_L6 (z : Nat) {xs : List Int} (hx : xs.length ≤ 16777214) {e : Int} (he : 0 ≤ e ∧ e < xs.length) : ∀ (m : Nat) (i : Int) (u : Int), -1 ≤ i → i ≤ e → i + 1 < m → 0 ≤ u ∧ u ≤ 18446744073709551615 → Ok (cormorantref01_TakeNumber.L6 z xs e m u i) (NumOk xs)
 | 0, i, u, h1, h2, h3, h4 => by omega
 | m + 1, i, u, h1, h2, h3, h4 => by
  rw [cormorantref01_TakeNumber.L6]
  refine Ok.ite (fun h => ?_) fun h => ?_
  ·have h0 : 0 ≤ i := by simpa using h
   rw [ck_y (by omega), wI (by omega)]
   exact refTakeNumber_L6 z hx he m (i - 1) _ (by omega) (by omega) (by omega) (wrU_in _)
  ·rw [wI (by omega)]
   exact Ok.some (.inr ⟨h4, by dsimp only; omega, by dsimp only; omega, rfl⟩)
theorem refTakeNumber_J2 {z : Nat} (hz : 16777216 ≤ z) {xs : List Int} (hx : xs.length ≤ 16777214) {e : Int} (he : -1 ≤ e ∧ e < 10) (hl : e < xs.length) : Ok (cormorantref01_TakeNumber.J2 z xs e) (NumOk xs) := by
 have hJ4 : Ok (cormorantref01_TakeNumber.J4 z) (NumOk xs) := Ok.some (.inl (by decide))
 have hJ5 : 0 ≤ e → Ok (cormorantref01_TakeNumber.J5 z xs e) (NumOk xs) := fun h0 => by
  unfold cormorantref01_TakeNumber.J5
  exact refTakeNumber_L6 z hx ⟨h0, hl⟩ z e 0 (by omega) (by omega) (by omega) (by omega)
 have hJ3 : Ok (cormorantref01_TakeNumber.J3 z xs e) (NumOk xs) := by
  unfold cormorantref01_TakeNumber.J3
  refine Ok.ite (fun _ => hJ4) fun h => ?_
  have h0 : 0 ≤ e := by simpa using h
  have h9 : ∀ {p : Bool}, p = (e == 9) → p = true → 9 < (xs.length : Int) := fun h1 h2 => by
   rw [h1] at h2
   have : e = 9 := by simpa using h2
   omega
  refine Ok.ite (fun _ => ?_) fun _ => ?_
  ·rw [ck_y (by omega)]
   refine Ok.ite (fun _ => hJ4) fun _ => Ok.ite (fun h => ?_) fun _ => hJ5 h0
   rw [ck_y (h9 rfl h)]
   exact Ok.ite (fun _ => hJ4) fun _ => hJ5 h0
  ·refine Ok.ite (fun h => ?_) fun _ => hJ5 h0
   rw [ck_y (h9 rfl h)]
   exact Ok.ite (fun _ => hJ4) fun _ => hJ5 h0
 unfold cormorantref01_TakeNumber.J2
 exact Ok.ite (fun _ => Ok.ite (fun _ => Ok.some (.inl (by decide))) fun _ => hJ3) fun _ => hJ3
theorem refTakeNumber_ok {z : Nat} (hz : 16777216 ≤ z) {xs : List Int} (hx : xs.length ≤ 16777214) : Ok (cormorantref01_TakeNumber.f z xs) (NumOk xs) := by
 have key : ∀ (k m i : Nat) (e : Int), xs.length - i = k → i ≤ xs.length → k < m → -1 ≤ e ∧ e < 10 → e < xs.length → Ok (cormorantref01_TakeNumber.L0 z xs m e (i : Int)) (NumOk xs) := by
  intro k
  induction k with
  | zero =>
   intro m i e h1 h2 h3 h4 h5
   obtain ⟨m, rfl⟩ : ∃ q, m = q + 1 := ⟨m - 1, by omega⟩
   rw [cormorantref01_TakeNumber.L0, if_n (by simp; omega)]
   exact refTakeNumber_J2 hz hx h4 h5
  | succ k ih =>
   intro m i e h1 h2 h3 h4 h5
   obtain ⟨m, rfl⟩ : ∃ q, m = q + 1 := ⟨m - 1, by omega⟩
   rw [cormorantref01_TakeNumber.L0, if_y (by simp; omega)]
   refine Ok.ite (fun hi => ?_) fun _ => refTakeNumber_J2 hz hx h4 h5
   have hi' : (i : Int) < 10 := by simpa using hi
   refine Ok.ite (fun _ => ?_) fun _ => refTakeNumber_J2 hz hx h4 h5
   rw [ck_y (by omega)]
   unfold cormorantref01_TakeNumber.J1
   rw [wI (by omega)]
   exact Ok.ite (fun _ => ih m (i + 1) _ (by omega) (by omega) (by omega) (by omega) (by omega)) fun _ => ih m (i + 1) _ (by omega) (by omega) (by omega) h4 h5
 exact key xs.length z 0 (-1) (by omega) (by omega) (by omega) (by omega) (by omega)
theorem refTakeText_f {z : Nat} (hz : 16777216 ≤ z) {s rest : List Int} (h : s.length ≤ 65536) (hl : rest.length ≤ 8388608) : cormorantref01_TakeText.f z (txt s ++ rest) = some (s, ((txt s).length : Int), 0) := by
 have h10 := num_len10 (n := s.length) (by omega)
 have ht : (txt s).length = (num s.length).length + s.length := by simp [txt]
 have hl' : (txt s ++ rest).length = (txt s).length + rest.length := by simp
 unfold cormorantref01_TakeText.f
 have e0 : txt s ++ rest = num s.length ++ (s ++ rest) := by simp [txt]
 have hf : cormorantref01_TakeNumber.f z (txt s ++ rest) = some ((s.length : Int), ((num s.length).length : Int), 0) := by rw [e0]; exact refTakeNumber_f hz (by omega) (s ++ rest) (by simp; omega)
 rw [hf, bd_some]
 dsimp only
 rw [if_n (by rfl), if_n (by simp; omega), wI (x := ((txt s ++ rest).length : Int) - (num s.length).length) (by omega), wU (by omega), if_n (by simp; omega), wI (x := (s.length : Int)) (by omega), wI (by omega), ck_y (by omega), e0, cut_mid _ s rest _ _ (by omega) (by omega), ck_y (by simp; omega)]
 simp [ht]
theorem refTakeText_ok {z : Nat} (hz : 16777216 ≤ z) {xs : List Int} (hx : xs.length ≤ 16777214) : Ok (cormorantref01_TakeText.f z xs) fun r => 0 ≤ r.2.1 ∧ (r.2.2 = 0 → r.2.1 ≤ xs.length) := by
 unfold cormorantref01_TakeText.f
 refine (refTakeNumber_ok hz hx).bd fun r h => ?_
 refine Ok.ite (fun h1 => Ok.some ⟨Int.le_refl _, fun h => absurd h (by simpa using h1)⟩) fun h1 => ?_
 rcases h with h | ⟨h2, h3, h4, h5⟩
 ·exact absurd (by simpa using h1) h
 refine Ok.ite (fun _ => Ok.some ⟨Int.le_refl _, fun h => by cases h⟩) fun h6 => ?_
 have h6' : r.1 ≤ 2097152 := by simpa using h6
 rw [wI (x := (xs.length : Int) - r.2.1) (by omega), wU (by omega)]
 refine Ok.ite (fun _ => Ok.some ⟨Int.le_refl _, fun h => by cases h⟩) fun h7 => ?_
 have h7' : r.1 ≤ (xs.length : Int) - r.2.1 := by simpa using h7
 rw [wI (x := r.1) (by omega), wI (by omega), ck_y (by omega), ck_y (by rw [cut_len _ _ _ (by omega)]; simp; omega)]
 exact Ok.some ⟨by dsimp only; omega, fun _ => by dsimp only; omega⟩
end Go.Proofs.YtohelmfkpmphoaaDoor
namespace Go.Proofs.YtohelmfkpmphoaaDoor
open Go Go.Proofs.YtohelmfkpmphoaaDoor.X
set_option linter.unusedVariables false
set_option linter.unusedSimpArgs false
set_option maxRecDepth 100000
set_option maxHeartbeats 4000000
namespace rowkey_ofColumns
noncomputable def c0 : Code := match Tryd.f52.body with | some c => c | none => .skip
def R (F : List Atom) (x1 : api_Table) (A2 : OA) (k3 : Nat) (A4 : OA) (k5 : Nat) (A6 : OA) (k7 : Nat) (x8 : List Int) (A9 : OA) (k10 : Nat) (m11 : Md) (r : Bool) : Ending → World → Prop := fun e w' => e = .returned (.bool r) ∧ SL ([sl .ro kapi_Column A2 k3 x1.Columns, sl .ro ki64 A4 k5 x1.Key, sl .ro kapi_Index A6 k7 x1.Indexes, sl m11 ki64 A9 k10 x8] ++ F) w'
def J1 (z : Nat) : Option Bool := some false
def L0 (z : Nat) (x1 : api_Table) (x8 : List Int) : Nat → Int → (List Int) → Option Bool
 | 0, _, _ => none
 | m + 1, x15, x14 => If (decide (x15 < (x8.length : Int))) (Ck (0 ≤ x15 ∧ x15 < (x8.length : Int)) (If (decide ((gi (0 : Int) x8 x15) < 0)) (J1 z) (If (decide ((gi (0 : Int) x8 x15) ≥ (x1.Columns.length : Int))) (J1 z) (If (x14.contains (gi (0 : Int) x8 x15)) (J1 z) (L0 z x1 x8 m (wr .i64 (x15 + 1)) (addK x14 (gi (0 : Int) x8 x15))))))) (some (decide ((x8.length : Int) > 0)))
def f (z : Nat) (x1 : api_Table) (x8 : List Int) : Option Bool := L0 z x1 x8 z 0 ([] : List Int)
noncomputable def ptJ1 : List Item := [.code (cL (cT (cR (cL (cR (cB (cL (cR (cR (cB (cB (cR (cL (cR (cR c0))))))))))))))), .code (cR (cT (cR (cL (cR (cB (cL (cR (cR (cB (cB (cR (cL (cR (cR c0))))))))))))))), .code (cR (cR (cB (cL (cR (cR (cB (cB (cR (cL (cR (cR c0)))))))))))), .inBlock 1, .code (cr 3 (cB (cB (cR (cL (cR (cR c0))))))), .inLoop (cB (cB (cR (cL (cR (cR c0)))))), .inBlock 0, .code (cr 3 c0)]
noncomputable def ptL0 : List Item := [.code (cB (cB (cR (cL (cR (cR c0)))))), .inLoop (cB (cB (cR (cL (cR (cR c0)))))), .inBlock 0, .code (cr 3 c0)]
abbrev y0 (A2 : OA) (k3 : Nat) (x1 : api_Table) (A4 : OA) (k5 : Nat) (A6 : OA) (k7 : Nat) (m11 : Md) (A9 : OA) (k10 : Nat) (x8 : List Int) : List Atom := [sl .ro kapi_Column A2 k3 x1.Columns, sl .ro ki64 A4 k5 x1.Key, sl .ro kapi_Index A6 k7 x1.Indexes, sl m11 ki64 A9 k10 x8]
abbrev y1 (x1 : api_Table) (A2 : OA) (k3 : Nat) (A4 : OA) (k5 : Nat) (A6 : OA) (k7 : Nat) : List Value := [.int .i64 x1.Id, .string x1.Name, .slice A2 x1.Columns.length k3, .slice A4 x1.Key.length k5, .slice A6 x1.Indexes.length k7]
theorem J1_ok (F : List Atom) (r : Bool) (z : Nat) (x1 : api_Table) (A2 : OA) (k3 : Nat) (A4 : OA) (k5 : Nat) (A6 : OA) (k7 : Nat) (x8 : List Int) (A9 : OA) (k10 : Nat) (m11 : Md) (a : Act) (w : World) (T : Tm 35 [] a) (S : SL ((y0 A2 k3 x1 A4 k5 A6 k7 m11 A9 k10 x8) ++ F) w) (H : J1 z = some r) : Gets Tryd.prog 52 ptJ1 a w (R F x1 A2 k3 A4 k5 A6 k7 x8 A9 k10 m11 r) := by
 refine rg (r_pv T rfl rfl fun _ T => ?_)
 replace H := Option.some.inj H
 subst H
 exact rtn T Tryd.func52 rfl rfl ⟨rfl, (S.only (p := (y0 A2 k3 x1 A4 k5 A6 k7 m11 A9 k10 x8)) [0, 0, 0, 0] rfl)⟩
theorem L0_ok (F : List Atom) (r : Bool) (z : Nat) (x1 : api_Table) (A2 : OA) (k3 : Nat) (A4 : OA) (k5 : Nat) (A6 : OA) (k7 : Nat) (x8 : List Int) (A9 : OA) (k10 : Nat) (m11 : Md) (b12 b13 m : Nat) : ∀ (x15 : Int) (x14 : List Int) (a : Act) (w : World), Tm 35 [(1, .slice A9 x8.length k10), (2, .pointer (some ⟨b12, 0, none⟩)), (5, .map (some b13)), (9, .slice A9 x8.length k10), (10, .int .i64 (x8.length : Int)), (11, .int .i64 x15)] a → SL ([sl .ro kapi_Column A2 k3 x1.Columns, sl .ro ki64 A4 k5 x1.Key, sl .ro kapi_Index A6 k7 x1.Indexes, sl m11 ki64 A9 k10 x8, blk b12 (y1 x1 A2 k3 A4 k5 A6 k7), mset b13 x14] ++ F) w → L0 z x1 x8 m x15 x14 = some r → Gets Tryd.prog 52 ptL0 a w (R F x1 A2 k3 A4 k5 A6 k7 x8 A9 k10 m11 r) := by
 induction m with
 | zero => intro _ _ _ _ _ _ H; cases H
 | succ m ih =>
  intro x15 x14 a w T S H
  refine Gets.seq (rg (r_pv T rfl rfl fun _ T => Gets.seq ?_))
  rcases ifE H with ⟨h16, H⟩ | ⟨h16, H⟩
  ·refine cdT T rfl h16 ?_
   refine Gets.skip (Gets.seq (Gets.block (Gets.seq ?_)))
   refine rg ?_
   obtain ⟨h17, H⟩ := ck H
   refine r_ia (ix := 3) T S rfl rfl rfl rfl Tryd.runUnderlying23 Tryd.sizeOf3 h17.1 h17.2 rfl fun _ T => r_ldE (ix := 3) (i := x15) (off := 0) (f := (Value.int .i64)) T S rfl Tryd.isAgg3 rfl (0 : Int) _ rfl rfl (Fld.all _) h17.1 h17.2 (fun h => h) rfl fun _ T => r_pv T rfl rfl fun _ T => ?_
   refine Gets.seq (Gets.seq ?_)
   refine rg (r_pv T rfl rfl fun _ T => r_pv T rfl rfl fun _ T => r_pv T rfl rfl fun _ T => ?_)
   rcases ifE H with ⟨h18, H⟩ | ⟨h18, H⟩
   ·refine g_no T rfl rfl h18 rfl fun _ T => ?_
    refine g_no T rfl rfl h18 rfl fun _ T => g_no T rfl rfl h18 rfl fun _ T => g_no T rfl rfl h18 rfl fun _ T => g_no T rfl rfl h18 rfl fun _ T => ?_
    refine r_pickT T rfl h18 rfl rfl fun _ T => r_pv T rfl rfl fun _ T => g_no T rfl rfl rfl rfl fun _ T => g_no T rfl rfl rfl rfl fun _ T => ?_
    refine g_no T rfl rfl rfl rfl fun _ T => r_pickT T rfl rfl rfl rfl fun _ T => cdT T rfl rfl (Gets.seq ?_)
    exact J1_ok F r z x1 A2 k3 A4 k5 A6 k7 x8 A9 k10 m11 _ _ (T.sub trivial) (S.only (p := (y0 A2 k3 x1 A4 k5 A6 k7 m11 A9 k10 x8)) [0, 0, 0, 0] rfl) H
   ·refine g_yes T rfl rfl h18 ?_
    refine r_pv T rfl rfl fun _ T => g_yes T rfl rfl h18 (r_fa (o' := 2) T rfl Tryd.runUnderlying26 rfl Tryd.sizeOf22 rfl rfl fun _ T => g_yes T rfl rfl h18 ?_)
    refine r_ldB (ix := 4) T S rfl Tryd.isAgg22 rfl rfl rfl fun _ T => g_yes T rfl rfl h18 (r_lenS T rfl Tryd.runUnderlying22 rfl fun _ T => g_yes T rfl rfl h18 ?_)
    refine r_pv T rfl rfl fun _ T => r_pickF T rfl h18 rfl rfl fun _ T => r_pv T rfl rfl fun _ T => ?_
    rcases ifE H with ⟨h19, H⟩ | ⟨h19, H⟩
    ·refine g_no T rfl rfl h19 rfl fun _ T => ?_
     refine g_no T rfl rfl h19 rfl fun _ T => g_no T rfl rfl h19 rfl fun _ T => r_pickT T rfl h19 rfl rfl fun _ T => cdT T rfl rfl ?_
     refine Gets.seq ?_
     exact J1_ok F r z x1 A2 k3 A4 k5 A6 k7 x8 A9 k10 m11 _ _ (T.sub trivial) (S.only (p := (y0 A2 k3 x1 A4 k5 A6 k7 m11 A9 k10 x8)) [0, 0, 0, 0] rfl) H
    ·refine g_yes T rfl rfl h19 ?_
     refine r_pv T rfl rfl fun _ T => g_yes T rfl rfl h19 (r_pv T rfl rfl fun _ T => g_yes T rfl rfl h19 ?_)
     refine r_lkset (ix := 5) T S rfl rfl rfl Tryd.runUnderlying110 Tryd.runUnderlying3 zv4 rfl fun _ T => r_pickF T rfl h19 rfl rfl fun _ T => ?_
     rcases ifE H with ⟨h20, H⟩ | ⟨h20, H⟩
     ·refine cdT T rfl h20 ?_
      refine Gets.seq ?_
      exact J1_ok F r z x1 A2 k3 A4 k5 A6 k7 x8 A9 k10 m11 _ _ (T.sub trivial) (S.only (p := (y0 A2 k3 x1 A4 k5 A6 k7 m11 A9 k10 x8)) [0, 0, 0, 0] rfl) H
     ·refine cdF T rfl h20 ?_
      refine Gets.skip (rg (r_pv T rfl rfl fun _ T => r_pv T rfl rfl fun _ T => ?_))
      refine r_upset (ix := 5) (l' := [sl .ro kapi_Column A2 k3 x1.Columns, sl .ro ki64 A4 k5 x1.Key, sl .ro kapi_Index A6 k7 x1.Indexes, sl m11 ki64 A9 k10 x8, blk b12 (y1 x1 A2 k3 A4 k5 A6 k7), mset b13 (addK x14 (gi (0 : Int) x8 x15))]) T S rfl rfl rfl rfl Tryd.runUnderlying110 Tryd.runUnderlying3 rfl fun _ S => Gets.inBlock (rg (r_pv T rfl rfl fun _ T => ?_))
      refine r_pv T rfl rfl fun _ T => Gets.inLoop ?_
      exact ih (wr .i64 (x15 + 1)) (addK x14 (gi (0 : Int) x8 x15)) _ _ (T.sub ⟨rfl, rfl, rfl, rfl, rfl, rfl, trivial⟩) (S.only (p := [sl .ro kapi_Column A2 k3 x1.Columns, sl .ro ki64 A4 k5 x1.Key, sl .ro kapi_Index A6 k7 x1.Indexes, sl m11 ki64 A9 k10 x8, blk b12 (y1 x1 A2 k3 A4 k5 A6 k7), mset b13 (addK x14 (gi (0 : Int) x8 x15))]) [0, 0, 0, 0, 0, 0] rfl) H
  ·refine cdF T rfl h16 ?_
   refine Gets.exit rfl (Gets.seq ?_)
   refine rg (r_pv T rfl rfl fun _ T => r_lenS T rfl Tryd.runUnderlying23 rfl fun _ T => r_pv T rfl rfl fun _ T => ?_)
   refine r_pv T rfl rfl fun _ T => ?_
   replace H := Option.some.inj H
   subst H
   exact rtn T Tryd.func52 rfl rfl ⟨rfl, (S.only (p := (y0 A2 k3 x1 A4 k5 A6 k7 m11 A9 k10 x8)) [0, 0, 0, 0] rfl)⟩
theorem ok (F : List Atom) (w : World) (z : Nat) (x1 : api_Table) (x8 : List Int) {A2 : OA} {k3 : Nat} {A4 : OA} {k5 : Nat} {A6 : OA} {k7 : Nat} {A9 : OA} {k10 : Nat} {m11 : Md} (S : SL ((y0 A2 k3 x1 A4 k5 A6 k7 m11 A9 k10 x8) ++ F) w) (r : Bool) (H : f z x1 x8 = some r) : Calls Tryd.prog 52 #[.agg #[.int .i64 x1.Id, .string x1.Name, .slice A2 x1.Columns.length k3, .slice A4 x1.Key.length k5, .slice A6 x1.Indexes.length k7], .slice A9 x8.length k10] w (R F x1 A2 k3 A4 k5 A6 k7 x8 A9 k10 m11 r) := by
 refine enter (vs := [.agg #[.int .i64 x1.Id, .string x1.Name, .slice A2 x1.Columns.length k3, .slice A4 x1.Key.length k5, .slice A6 x1.Indexes.length k7], .slice A9 x8.length k10]) Tryd.func52 rfl Tryd.ntmps52 (Nat.le_of_ble_eq_true rfl) fun a T => ?_
 refine Gets.seq (rg (r_box T S rfl (cs := (y1 x1 A2 k3 A4 k5 A6 k7)) rfl rfl fun _ _ b12 S T => r_pv T rfl rfl fun _ T => ?_))
 refine Gets.seq (rg (r_mkmap T S rfl fun _ _ b13 S T => r_pv T rfl rfl fun _ T => ?_))
 refine Gets.seq (Gets.seq ?_)
 refine rg (r_pv T rfl rfl fun _ T => r_lenS T rfl Tryd.runUnderlying23 rfl fun _ T => r_pv T rfl rfl fun _ T => ?_)
 refine Gets.block (Gets.loop ?_)
 exact L0_ok F r z x1 A2 k3 A4 k5 A6 k7 x8 A9 k10 m11 b12 b13 z 0 ([] : List Int) _ _ (T.sub ⟨rfl, rfl, rfl, rfl, rfl, rfl, trivial⟩) (S.only (p := [sl .ro kapi_Column A2 k3 x1.Columns, sl .ro ki64 A4 k5 x1.Key, sl .ro kapi_Index A6 k7 x1.Indexes, sl m11 ki64 A9 k10 x8, blk b12 (y1 x1 A2 k3 A4 k5 A6 k7), mset b13 ([] : List Int)]) [2, 2, 2, 2, 1, 0] rfl) H
end rowkey_ofColumns
end Go.Proofs.YtohelmfkpmphoaaDoor
namespace Go.Proofs.YtohelmfkpmphoaaDoor
open Go Go.Proofs.YtohelmfkpmphoaaDoor.X
set_option linter.unusedVariables false
set_option linter.unusedSimpArgs false
set_option maxRecDepth 100000
set_option maxHeartbeats 4000000
namespace rowkey_tabled
noncomputable def c0 : Code := match Tryd.f23.body with | some c => c | none => .skip
def R (F : List Atom) (x1 : api_Table) (A2 : OA) (k3 : Nat) (A4 : OA) (k5 : Nat) (A6 : OA) (k7 : Nat) (x8 : List Int) (A9 : OA) (k10 : Nat) (m11 : Md) (r : Bool) : Ending → World → Prop := fun e w' => e = .returned (.bool r) ∧ SL ([sl .ro kapi_Column A2 k3 x1.Columns, sl .ro ki64 A4 k5 x1.Key, sl .ro kapi_Index A6 k7 x1.Indexes, sl m11 ki64 A9 k10 x8] ++ F) w'
def J1 (z : Nat) (x20 : Bool) : Option Bool := some x20
def J2 (z : Nat) : Option Bool := some false
def L0 (z : Nat) (x1 : api_Table) (x8 : List Int) : Nat → Int → Option Bool
 | 0, _ => none
 | m + 1, x13 => If (decide (x13 < (x1.Columns.length : Int))) (Ck (0 ≤ x13 ∧ x13 < (x1.Columns.length : Int)) (If (decide (((gi dapi_Column x1.Columns x13).Type') < 1)) (J2 z) (If (decide (((gi dapi_Column x1.Columns x13).Type') > 3)) (J2 z) (L0 z x1 x8 m (wr .i64 (x13 + 1)))))) (Bd (rowkey_ofColumns.f z x1 x1.Key) fun x16 => If x16 (Bd (rowkey_ofColumns.f z x1 x8) fun x19 => J1 z x19) (J1 z false))
def f (z : Nat) (x1 : api_Table) (x8 : List Int) : Option Bool := L0 z x1 x8 z 0
noncomputable def ptJ1 : List Item := [.code (cr 3 c0)]
noncomputable def ptJ2 : List Item := [.code (cL (cT (cR (cR (cB (cL (cR (cR (cB (cB (cR (cL (cR c0))))))))))))), .code (cR (cT (cR (cR (cB (cL (cR (cR (cB (cB (cR (cL (cR c0))))))))))))), .inBlock 1, .code (cr 3 (cB (cB (cR (cL (cR c0)))))), .inLoop (cB (cB (cR (cL (cR c0))))), .inBlock 0, .code (cR (cR c0))]
noncomputable def ptL0 : List Item := [.code (cB (cB (cR (cL (cR c0))))), .inLoop (cB (cB (cR (cL (cR c0))))), .inBlock 0, .code (cR (cR c0))]
abbrev y0 (x1 : api_Table) (A2 : OA) (k3 : Nat) (A4 : OA) (k5 : Nat) (A6 : OA) (k7 : Nat) : List Value := [.int .i64 x1.Id, .string x1.Name, .slice A2 x1.Columns.length k3, .slice A4 x1.Key.length k5, .slice A6 x1.Indexes.length k7]
abbrev y1 (A2 : OA) (k3 : Nat) (x1 : api_Table) (A4 : OA) (k5 : Nat) (A6 : OA) (k7 : Nat) (m11 : Md) (A9 : OA) (k10 : Nat) (x8 : List Int) : List Atom := [sl .ro kapi_Column A2 k3 x1.Columns, sl .ro ki64 A4 k5 x1.Key, sl .ro kapi_Index A6 k7 x1.Indexes, sl m11 ki64 A9 k10 x8]
abbrev y2 (x1 : api_Table) (x13 : Int) : List Value := [.string ((gi dapi_Column x1.Columns x13).Name), .int .i64 ((gi dapi_Column x1.Columns x13).Type'), .bool ((gi dapi_Column x1.Columns x13).NotNull), .int .i64 (((gi dapi_Column x1.Columns x13).Default).Type'), .bool (((gi dapi_Column x1.Columns x13).Default).Null), .int .i64 (((gi dapi_Column x1.Columns x13).Default).Int), .string (((gi dapi_Column x1.Columns x13).Default).Text)]
theorem J1_ok (F : List Atom) (r : Bool) (z : Nat) (x1 : api_Table) (A2 : OA) (k3 : Nat) (A4 : OA) (k5 : Nat) (A6 : OA) (k7 : Nat) (x8 : List Int) (A9 : OA) (k10 : Nat) (m11 : Md) (x20 : Bool) (a : Act) (w : World) (T : Tm 32 [(4, .bool x20)] a) (S : SL ((y1 A2 k3 x1 A4 k5 A6 k7 m11 A9 k10 x8) ++ F) w) (H : J1 z x20 = some r) : Gets Tryd.prog 23 ptJ1 a w (R F x1 A2 k3 A4 k5 A6 k7 x8 A9 k10 m11 r) := by
 replace H := Option.some.inj H
 subst H
 exact rtn T Tryd.func23 rfl rfl ⟨rfl, (S.only (p := (y1 A2 k3 x1 A4 k5 A6 k7 m11 A9 k10 x8)) [0, 0, 0, 0] rfl)⟩
theorem J2_ok (F : List Atom) (r : Bool) (z : Nat) (x1 : api_Table) (A2 : OA) (k3 : Nat) (A4 : OA) (k5 : Nat) (A6 : OA) (k7 : Nat) (x8 : List Int) (A9 : OA) (k10 : Nat) (m11 : Md) (a : Act) (w : World) (T : Tm 32 [] a) (S : SL ((y1 A2 k3 x1 A4 k5 A6 k7 m11 A9 k10 x8) ++ F) w) (H : J2 z = some r) : Gets Tryd.prog 23 ptJ2 a w (R F x1 A2 k3 A4 k5 A6 k7 x8 A9 k10 m11 r) := by
 refine rg (r_pv T rfl rfl fun _ T => ?_)
 replace H := Option.some.inj H
 subst H
 exact rtn T Tryd.func23 rfl rfl ⟨rfl, (S.only (p := (y1 A2 k3 x1 A4 k5 A6 k7 m11 A9 k10 x8)) [0, 0, 0, 0] rfl)⟩
theorem L0_ok (F : List Atom) (r : Bool) (z : Nat) (x1 : api_Table) (A2 : OA) (k3 : Nat) (A4 : OA) (k5 : Nat) (A6 : OA) (k7 : Nat) (x8 : List Int) (A9 : OA) (k10 : Nat) (m11 : Md) (b12 m : Nat) : ∀ (x13 : Int) (a : Act) (w : World), Tm 32 [(1, .slice A9 x8.length k10), (2, .pointer (some ⟨b12, 0, none⟩)), (8, .slice A2 x1.Columns.length k3), (9, .int .i64 (x1.Columns.length : Int)), (10, .int .i64 x13)] a → SL ([sl .ro kapi_Column A2 k3 x1.Columns, sl .ro ki64 A4 k5 x1.Key, sl .ro kapi_Index A6 k7 x1.Indexes, sl m11 ki64 A9 k10 x8, blk b12 (y0 x1 A2 k3 A4 k5 A6 k7)] ++ F) w → L0 z x1 x8 m x13 = some r → Gets Tryd.prog 23 ptL0 a w (R F x1 A2 k3 A4 k5 A6 k7 x8 A9 k10 m11 r) := by
 induction m with
 | zero => intro _ _ _ _ _ H; cases H
 | succ m ih =>
  intro x13 a w T S H
  refine Gets.seq (rg (r_pv T rfl rfl fun _ T => Gets.seq ?_))
  rcases ifE H with ⟨h14, H⟩ | ⟨h14, H⟩
  ·refine cdT T rfl h14 ?_
   refine Gets.skip (Gets.seq (Gets.block (Gets.seq ?_)))
   refine rg ?_
   obtain ⟨h21, H⟩ := ck H
   refine r_ia (ix := 0) T S rfl rfl rfl rfl Tryd.runUnderlying22 Tryd.sizeOf72 h21.1 h21.2 rfl fun _ T => r_ldEA (ix := 0) (i := x13) (off := 0) T S rfl rfl Tryd.isAgg72 Tryd.sizeOf72 dapi_Column rfl (Fld.all _) h21.1 h21.2 rfl fun _ _ S T => ?_
   obtain ⟨hv_, S_⟩ := op_api_Column S
   subst hv_
   replace S := S_
   refine r_alloc T S zv72 (cs := [.string (⟨#[]⟩ : ByteArray), .int .i64 0, .bool false, .int .i64 0, .bool false, .int .i64 0, .string (⟨#[]⟩ : ByteArray)]) rfl rfl fun _ _ b22 S T => r_stBA (ix := 0) (vs := (y2 x1 x13)) (l' := [blk b22 (y2 x1 x13), sl .ro kapi_Column A2 k3 x1.Columns, sl .ro ki64 A4 k5 x1.Key, sl .ro kapi_Index A6 k7 x1.Indexes, sl m11 ki64 A9 k10 x8, blk b12 (y0 x1 A2 k3 A4 k5 A6 k7)]) T S rfl rfl rfl rfl (by simp) Tryd.sizeOf72 (Nat.le_of_ble_eq_true rfl) rfl fun _ S => ?_
   refine Gets.seq (rg (r_fa (o' := 1) T rfl Tryd.runUnderlying72 rfl Tryd.sizeOf3 rfl rfl fun _ T => r_ldB (ix := 0) T S rfl Tryd.isAgg3 rfl rfl rfl fun _ T => ?_))
   refine r_pv T rfl rfl fun _ T => r_pv T rfl rfl fun _ T => ?_
   rcases ifE H with ⟨h23, H⟩ | ⟨h23, H⟩
   ·refine g_no T rfl rfl h23 rfl fun _ T => ?_
    refine g_no T rfl rfl h23 rfl fun _ T => g_no T rfl rfl h23 rfl fun _ T => r_pickT T rfl h23 rfl rfl fun _ T => cdT T rfl rfl ?_
    refine Gets.seq ?_
    exact J2_ok F r z x1 A2 k3 A4 k5 A6 k7 x8 A9 k10 m11 _ _ (T.sub trivial) (S.only (p := (y1 A2 k3 x1 A4 k5 A6 k7 m11 A9 k10 x8)) [1, 1, 1, 1] rfl) H
   ·refine g_yes T rfl rfl h23 ?_
    refine r_fa (o' := 1) T rfl Tryd.runUnderlying72 rfl Tryd.sizeOf3 rfl rfl fun _ T => g_yes T rfl rfl h23 (r_ldB (ix := 0) T S rfl Tryd.isAgg3 rfl rfl rfl fun _ T => g_yes T rfl rfl h23 ?_)
    refine r_pv T rfl rfl fun _ T => r_pickF T rfl h23 rfl rfl fun _ T => ?_
    rcases ifE H with ⟨h24, H⟩ | ⟨h24, H⟩
    ·refine cdT T rfl h24 ?_
     refine Gets.seq ?_
     exact J2_ok F r z x1 A2 k3 A4 k5 A6 k7 x8 A9 k10 m11 _ _ (T.sub trivial) (S.only (p := (y1 A2 k3 x1 A4 k5 A6 k7 m11 A9 k10 x8)) [1, 1, 1, 1] rfl) H
    ·refine cdF T rfl h24 ?_
     refine Gets.skip (Gets.inBlock ?_)
     refine rg (r_pv T rfl rfl fun _ T => r_pv T rfl rfl fun _ T => Gets.inLoop ?_)
     exact ih (wr .i64 (x13 + 1)) _ _ (T.sub ⟨rfl, rfl, rfl, rfl, rfl, trivial⟩) (S.only (p := [sl .ro kapi_Column A2 k3 x1.Columns, sl .ro ki64 A4 k5 x1.Key, sl .ro kapi_Index A6 k7 x1.Indexes, sl m11 ki64 A9 k10 x8, blk b12 (y0 x1 A2 k3 A4 k5 A6 k7)]) [1, 1, 1, 1, 1] rfl) H
  ·refine cdF T rfl h14 ?_
   refine Gets.exit rfl (Gets.seq ?_)
   refine rg (r_ldBA (ix := 4) (ds := (y0 x1 A2 k3 A4 k5 A6 k7)) T S rfl Tryd.isAgg26 rfl rfl Tryd.sizeOf26 rfl fun _ T => r_fa (o' := 3) T rfl Tryd.runUnderlying26 rfl Tryd.sizeOf23 rfl rfl fun _ T => r_ldB (ix := 4) T S rfl Tryd.isAgg23 rfl rfl rfl fun _ T => ?_)
   replace S := S.dup (i := 0) rfl
   replace S := S.dup (i := 2) rfl
   replace S := S.dup (i := 4) rfl
   replace S := S.dup (i := 4) rfl
   obtain ⟨x16, h15, H⟩ := bd H
   refine r_call T Tryd.call52 rfl rfl (rowkey_ofColumns.ok _ _ z x1 x1.Key (S.sel (p := [sl .ro kapi_Column A2 k3 x1.Columns, sl .ro ki64 A4 k5 x1.Key, sl .ro kapi_Index A6 k7 x1.Indexes, sl .ro ki64 A4 k5 x1.Key]) (is := [3, 2, 1, 0]) rfl) _ h15) ?_
   rintro _ _ ⟨rfl, S⟩
   refine ⟨_, rfl, fun _ T => ?_⟩
   replace S : SL ([sl .ro kapi_Column A2 k3 x1.Columns, sl .ro ki64 A4 k5 x1.Key, sl .ro kapi_Index A6 k7 x1.Indexes, sl m11 ki64 A9 k10 x8, blk b12 (y0 x1 A2 k3 A4 k5 A6 k7)] ++ F) _ := S.join.only [4, 4, 4, 4, 4] rfl
   refine r_pv T rfl rfl fun _ T => ?_
   rcases ifE H with ⟨h17, H⟩ | ⟨h17, H⟩
   ·refine g_yes T rfl rfl h17 ?_
    refine r_ldBA (ix := 4) (ds := (y0 x1 A2 k3 A4 k5 A6 k7)) T S rfl Tryd.isAgg26 rfl rfl Tryd.sizeOf26 rfl fun _ T => g_yes T rfl rfl h17 (r_pv T rfl rfl fun _ T => g_yes T rfl rfl h17 ?_)
    replace S := S.dup (i := 0) rfl
    replace S := S.dup (i := 2) rfl
    replace S := S.dup (i := 4) rfl
    obtain ⟨x19, h18, H⟩ := bd H
    refine r_call T Tryd.call52 rfl rfl (rowkey_ofColumns.ok _ _ z x1 x8 (S.sel (p := (y1 A2 k3 x1 A4 k5 A6 k7 m11 A9 k10 x8)) (is := [2, 1, 0, 3]) rfl) _ h18) ?_
    rintro _ _ ⟨rfl, S⟩
    refine ⟨_, rfl, fun _ T => ?_⟩
    replace S : SL ([sl m11 ki64 A9 k10 x8, sl .ro kapi_Column A2 k3 x1.Columns, sl .ro ki64 A4 k5 x1.Key, sl .ro kapi_Index A6 k7 x1.Indexes, blk b12 (y0 x1 A2 k3 A4 k5 A6 k7)] ++ F) _ := S.join.only [3, 3, 3, 3, 3] rfl
    refine r_pickT T rfl h17 rfl rfl fun _ T => r_pv T rfl rfl fun _ T => ?_
    exact J1_ok F r z x1 A2 k3 A4 k5 A6 k7 x8 A9 k10 m11 x19 _ _ (T.sub ⟨rfl, trivial⟩) (S.only (p := (y1 A2 k3 x1 A4 k5 A6 k7 m11 A9 k10 x8)) [1, 1, 1, 0] rfl) H
   ·refine g_no T rfl rfl h17 rfl fun _ T => ?_
    refine g_no T rfl rfl h17 rfl fun _ T => g_no T rfl rfl h17 rfl fun _ T => r_pickF T rfl h17 rfl rfl fun _ T => r_pv T rfl rfl fun _ T => ?_
    exact J1_ok F r z x1 A2 k3 A4 k5 A6 k7 x8 A9 k10 m11 false _ _ (T.sub ⟨rfl, trivial⟩) (S.only (p := (y1 A2 k3 x1 A4 k5 A6 k7 m11 A9 k10 x8)) [0, 0, 0, 0] rfl) H
theorem ok (F : List Atom) (w : World) (z : Nat) (x1 : api_Table) (x8 : List Int) {A2 : OA} {k3 : Nat} {A4 : OA} {k5 : Nat} {A6 : OA} {k7 : Nat} {A9 : OA} {k10 : Nat} {m11 : Md} (S : SL ((y1 A2 k3 x1 A4 k5 A6 k7 m11 A9 k10 x8) ++ F) w) (r : Bool) (H : f z x1 x8 = some r) : Calls Tryd.prog 23 #[.agg #[.int .i64 x1.Id, .string x1.Name, .slice A2 x1.Columns.length k3, .slice A4 x1.Key.length k5, .slice A6 x1.Indexes.length k7], .slice A9 x8.length k10] w (R F x1 A2 k3 A4 k5 A6 k7 x8 A9 k10 m11 r) := by
 refine enter (vs := [.agg #[.int .i64 x1.Id, .string x1.Name, .slice A2 x1.Columns.length k3, .slice A4 x1.Key.length k5, .slice A6 x1.Indexes.length k7], .slice A9 x8.length k10]) Tryd.func23 rfl Tryd.ntmps23 (Nat.le_of_ble_eq_true rfl) fun a T => ?_
 refine Gets.seq (rg (r_box T S rfl (cs := (y0 x1 A2 k3 A4 k5 A6 k7)) rfl rfl fun _ _ b12 S T => r_pv T rfl rfl fun _ T => ?_))
 refine Gets.seq (Gets.seq ?_)
 refine rg (r_fa (o' := 2) T rfl Tryd.runUnderlying26 rfl Tryd.sizeOf22 rfl rfl fun _ T => r_ldB (ix := 0) T S rfl Tryd.isAgg22 rfl rfl rfl fun _ T => r_lenS T rfl Tryd.runUnderlying22 rfl fun _ T => ?_)
 refine r_pv T rfl rfl fun _ T => Gets.block (Gets.loop ?_)
 exact L0_ok F r z x1 A2 k3 A4 k5 A6 k7 x8 A9 k10 m11 b12 z 0 _ _ (T.sub ⟨rfl, rfl, rfl, rfl, rfl, trivial⟩) (S.only (p := [sl .ro kapi_Column A2 k3 x1.Columns, sl .ro ki64 A4 k5 x1.Key, sl .ro kapi_Index A6 k7 x1.Indexes, sl m11 ki64 A9 k10 x8, blk b12 (y0 x1 A2 k3 A4 k5 A6 k7)]) [1, 1, 1, 1, 0] rfl) H
end rowkey_tabled
end Go.Proofs.YtohelmfkpmphoaaDoor
namespace Go.Proofs.YtohelmfkpmphoaaDoor
open Go Go.Proofs.YtohelmfkpmphoaaDoor.X
set_option linter.unusedVariables false
set_option linter.unusedSimpArgs false
set_option maxRecDepth 100000
set_option maxHeartbeats 4000000
namespace stringslite_IndexByte
def R (F : List Atom) (r : Int) : Ending → World → Prop := fun e w' => e = .returned (.int .i64 r) ∧ SL ([] ++ F) w'
def f (x1 : ByteArray) (x2 : Int) : Option Int := some (idxP x1 x2)
theorem ok (F : List Atom) (w : World) (x1 : ByteArray) (x2 : Int) (S : SL ([] ++ F) w) (r : Int) (H : f x1 x2 = some r) : Calls Tryd.prog 82 #[.string x1, .int .u8 x2] w (R F r) := by
 refine enter (vs := [.string x1, .int .u8 x2]) Tryd.func82 rfl Tryd.ntmps82 (Nat.le_of_ble_eq_true rfl) fun a T => ?_
 refine Gets.seq (rg (r_pv T rfl rfl fun _ T => Gets.seq ?_))
 refine rg (r_pv T rfl rfl fun _ T => r_pv T rfl rfl fun _ T => r_idxS T ext86 rfl rfl rfl fun _ T => ?_)
 refine r_pv T rfl rfl fun _ T => ?_
 replace H := Option.some.inj H
 subst H
 exact rtn T Tryd.func82 rfl rfl ⟨rfl, (S.only (p := []) [] rfl)⟩
end stringslite_IndexByte
end Go.Proofs.YtohelmfkpmphoaaDoor
namespace Go.Proofs.YtohelmfkpmphoaaDoor
open Go Go.Proofs.YtohelmfkpmphoaaDoor.X
set_option linter.unusedVariables false
set_option linter.unusedSimpArgs false
set_option maxRecDepth 100000
set_option maxHeartbeats 4000000
namespace strings_IndexByte
def R (F : List Atom) (r : Int) : Ending → World → Prop := fun e w' => e = .returned (.int .i64 r) ∧ SL ([] ++ F) w'
def f (x1 : ByteArray) (x2 : Int) : Option Int := Bd (stringslite_IndexByte.f x1 x2) fun x4 => some x4
theorem ok (F : List Atom) (w : World) (x1 : ByteArray) (x2 : Int) (S : SL ([] ++ F) w) (r : Int) (H : f x1 x2 = some r) : Calls Tryd.prog 71 #[.string x1, .int .u8 x2] w (R F r) := by
 refine enter (vs := [.string x1, .int .u8 x2]) Tryd.func71 rfl Tryd.ntmps71 (Nat.le_of_ble_eq_true rfl) fun a T => ?_
 refine Gets.seq (rg (r_pv T rfl rfl fun _ T => Gets.seq ?_))
 refine rg (r_pv T rfl rfl fun _ T => r_pv T rfl rfl fun _ T => ?_)
 obtain ⟨x4, h3, H⟩ := bd H
 refine r_call T Tryd.call82 rfl rfl (stringslite_IndexByte.ok _ _ x1 x2 (S.sel (p := []) (is := []) rfl) _ h3) ?_
 rintro _ _ ⟨rfl, S⟩
 refine ⟨_, rfl, fun _ T => ?_⟩
 replace S : SL ([] ++ F) _ := S.join
 refine r_pv T rfl rfl fun _ T => ?_
 replace H := Option.some.inj H
 subst H
 exact rtn T Tryd.func71 rfl rfl ⟨rfl, (S.only (p := []) [] rfl)⟩
end strings_IndexByte
end Go.Proofs.YtohelmfkpmphoaaDoor
namespace Go.Proofs.YtohelmfkpmphoaaDoor
open Go Go.Proofs.YtohelmfkpmphoaaDoor.X
set_option linter.unusedVariables false
set_option linter.unusedSimpArgs false
set_option maxRecDepth 100000
set_option maxHeartbeats 4000000
namespace rowkey_fits
noncomputable def c0 : Code := match Tryd.f53.body with | some c => c | none => .skip
def R (F : List Atom) (r : Bool) : Ending → World → Prop := fun e w' => e = .returned (.bool r) ∧ SL ([] ++ F) w'
def J3 (x17 : Bool) : Option Bool := some x17
def J2 (x13 : Bool) : Option Bool := some x13
def J1 (x1 : api_Value) (x2 : Int) : Option Bool := If (x2 == 3) (If (x1.Int == 0) (If (decide ((x1.Text.size : Int) ≤ 65536)) (Bd (strings_IndexByte.f x1.Text 0) fun x12 => J2 (decide (x12 < 0))) (J2 false)) (J2 false)) (If (x2 == 2) (If (x1.Text.toList == (⟨#[]⟩ : ByteArray).toList) (If (x1.Int == 0) (J3 true) (J3 (x1.Int == 1))) (J3 false)) (some (x1.Text.toList == (⟨#[]⟩ : ByteArray).toList)))
def J0 : Option Bool := some false
def f (x1 : api_Value) (x2 : Int) : Option Bool := If (x1.Type' != x2) (J0) (If x1.Null (If (x1.Int != 0) (J0) (If (!(x1.Text.toList == (⟨#[]⟩ : ByteArray).toList)) (J0) (J1 x1 x2))) (J1 x1 x2))
noncomputable def ptJ3 : List Item := [.code (cR (cT (cR (cE (cR (cB (cR (cL (cR (cR c0)))))))))), .inBlock 0, .code (cr 3 c0)]
noncomputable def ptJ2 : List Item := [.code (cR (cT (cR (cB (cR (cL (cR (cR c0)))))))), .inBlock 0, .code (cr 3 c0)]
noncomputable def ptJ1 : List Item := [.code (cL (cL (cR (cR c0)))), .code (cR (cL (cR (cR c0)))), .code (cr 3 c0)]
noncomputable def ptJ0 : List Item := [.code (cL (cT (cR (cL (cR c0))))), .code (cR (cT (cR (cL (cR c0))))), .code (cR (cR c0))]
abbrev y0 (x1 : api_Value) : List Value := [.int .i64 x1.Type', .bool x1.Null, .int .i64 x1.Int, .string x1.Text]
theorem J3_ok (F : List Atom) (r : Bool) (x1 : api_Value) (x2 : Int) (x17 : Bool) (a : Act) (w : World) (T : Tm 59 [(4, .bool x17)] a) (S : SL ([] ++ F) w) (H : J3 x17 = some r) : Gets Tryd.prog 53 ptJ3 a w (R F r) := by
 replace H := Option.some.inj H
 subst H
 exact rtn T Tryd.func53 rfl rfl ⟨rfl, (S.only (p := []) [] rfl)⟩
theorem J2_ok (F : List Atom) (r : Bool) (x1 : api_Value) (x2 : Int) (x13 : Bool) (a : Act) (w : World) (T : Tm 59 [(4, .bool x13)] a) (S : SL ([] ++ F) w) (H : J2 x13 = some r) : Gets Tryd.prog 53 ptJ2 a w (R F r) := by
 replace H := Option.some.inj H
 subst H
 exact rtn T Tryd.func53 rfl rfl ⟨rfl, (S.only (p := []) [] rfl)⟩
theorem J1_ok (F : List Atom) (r : Bool) (x2 : Int) (b3 : Nat) (x1 : api_Value) (a : Act) (w : World) (T : Tm 59 [(1, .int .i64 x2), (2, .pointer (some ⟨b3, 0, none⟩))] a) (S : SL ([blk b3 (y0 x1)] ++ F) w) (H : J1 x1 x2 = some r) : Gets Tryd.prog 53 ptJ1 a w (R F r) := by
 refine rg (r_pv T rfl rfl fun _ T => ?_)
 refine Gets.block (Gets.seq ?_)
 refine rg (r_pv T rfl rfl fun _ T => r_pv T rfl rfl fun _ T => ?_)
 rcases ifE H with ⟨h8, H⟩ | ⟨h8, H⟩
 ·refine cdT T rfl h8 ?_
  refine Gets.seq (rg (r_fa (o' := 2) T rfl Tryd.runUnderlying43 rfl Tryd.sizeOf2 rfl rfl fun _ T => r_ldB (ix := 0) T S rfl Tryd.isAgg2 rfl rfl rfl fun _ T => ?_))
  refine r_pv T rfl rfl fun _ T => r_pv T rfl rfl fun _ T => ?_
  rcases ifE H with ⟨h9, H⟩ | ⟨h9, H⟩
  ·refine g_yes T rfl rfl h9 ?_
   refine r_fa (o' := 3) T rfl Tryd.runUnderlying43 rfl Tryd.sizeOf9 rfl rfl fun _ T => g_yes T rfl rfl h9 (r_ldB (ix := 0) T S rfl Tryd.isAgg9 rfl rfl rfl fun _ T => g_yes T rfl rfl h9 ?_)
   refine r_lenStr T rfl Tryd.runUnderlying9 rfl fun _ T => g_yes T rfl rfl h9 (r_pv T rfl rfl fun _ T => r_pickT T rfl h9 rfl rfl fun _ T => ?_)
   refine r_pv T rfl rfl fun _ T => ?_
   rcases ifE H with ⟨h10, H⟩ | ⟨h10, H⟩
   ·refine g_yes T rfl rfl h10 ?_
    refine r_fa (o' := 3) T rfl Tryd.runUnderlying43 rfl Tryd.sizeOf9 rfl rfl fun _ T => g_yes T rfl rfl h10 (r_ldB (ix := 0) T S rfl Tryd.isAgg9 rfl rfl rfl fun _ T => g_yes T rfl rfl h10 ?_)
    obtain ⟨x12, h11, H⟩ := bd H
    refine r_call T Tryd.call71 rfl rfl (strings_IndexByte.ok _ _ x1.Text 0 (S.sel (p := []) (is := []) rfl) _ h11) ?_
    rintro _ _ ⟨rfl, S⟩
    refine ⟨_, rfl, fun _ T => ?_⟩
    replace S : SL ([blk b3 (y0 x1)] ++ F) _ := S.join
    refine g_yes T rfl rfl h10 (r_pv T rfl rfl fun _ T => r_pickT T rfl h10 rfl rfl fun _ T => r_pv T rfl rfl fun _ T => ?_)
    exact J2_ok F r x1 x2 (decide (x12 < 0)) _ _ (T.sub ⟨rfl, trivial⟩) (S.only (p := []) [] rfl) H
   ·refine g_no T rfl rfl h10 rfl fun _ T => ?_
    refine g_no T rfl rfl h10 rfl fun _ T => g_no T rfl rfl h10 rfl fun _ T => g_no T rfl rfl h10 rfl fun _ T => r_pickF T rfl h10 rfl rfl fun _ T => ?_
    refine r_pv T rfl rfl fun _ T => ?_
    exact J2_ok F r x1 x2 false _ _ (T.sub ⟨rfl, trivial⟩) (S.only (p := []) [] rfl) H
  ·refine g_no T rfl rfl h9 rfl fun _ T => ?_
   refine g_no T rfl rfl h9 rfl fun _ T => g_no T rfl rfl h9 rfl fun _ T => g_no T rfl rfl h9 rfl fun _ T => r_pickF T rfl h9 rfl rfl fun _ T => ?_
   refine r_pv T rfl rfl fun _ T => g_no T rfl rfl rfl rfl fun _ T => g_no T rfl rfl rfl rfl fun _ T => g_no T rfl rfl rfl rfl fun _ T => ?_
   refine g_no T rfl rfl rfl rfl fun _ T => r_pickF T rfl rfl rfl rfl fun _ T => r_pv T rfl rfl fun _ T => ?_
   exact J2_ok F r x1 x2 false _ _ (T.sub ⟨rfl, trivial⟩) (S.only (p := []) [] rfl) H
 ·refine cdF T rfl h8 ?_
  refine Gets.seq (rg (r_pv T rfl rfl fun _ T => r_pv T rfl rfl fun _ T => ?_))
  rcases ifE H with ⟨h14, H⟩ | ⟨h14, H⟩
  ·refine cdT T rfl h14 ?_
   refine Gets.seq (rg (r_fa (o' := 3) T rfl Tryd.runUnderlying43 rfl Tryd.sizeOf9 rfl rfl fun _ T => r_ldB (ix := 0) T S rfl Tryd.isAgg9 rfl rfl rfl fun _ T => ?_))
   refine r_pv T rfl rfl fun _ T => r_pv T rfl rfl fun _ T => ?_
   rcases ifE H with ⟨h15, H⟩ | ⟨h15, H⟩
   ·refine g_yes T rfl rfl h15 ?_
    refine r_fa (o' := 2) T rfl Tryd.runUnderlying43 rfl Tryd.sizeOf2 rfl rfl fun _ T => g_yes T rfl rfl h15 (r_ldB (ix := 0) T S rfl Tryd.isAgg2 rfl rfl rfl fun _ T => g_yes T rfl rfl h15 ?_)
    refine r_pv T rfl rfl fun _ T => g_yes T rfl rfl h15 (r_pv T rfl rfl fun _ T => ?_)
    rcases ifE H with ⟨h16, H⟩ | ⟨h16, H⟩
    ·refine g_no T rfl rfl h16 rfl fun _ T => ?_
     refine g_no T rfl rfl h16 rfl fun _ T => g_no T rfl rfl h16 rfl fun _ T => g_yes T rfl rfl h15 (r_pickT T rfl h16 rfl rfl fun _ T => ?_)
     refine r_pickT T rfl h15 rfl rfl fun _ T => r_pv T rfl rfl fun _ T => ?_
     exact J3_ok F r x1 x2 true _ _ (T.sub ⟨rfl, trivial⟩) (S.only (p := []) [] rfl) H
    ·refine g_yes T rfl rfl h16 ?_
     refine r_fa (o' := 2) T rfl Tryd.runUnderlying43 rfl Tryd.sizeOf2 rfl rfl fun _ T => g_yes T rfl rfl h16 (r_ldB (ix := 0) T S rfl Tryd.isAgg2 rfl rfl rfl fun _ T => g_yes T rfl rfl h16 ?_)
     refine r_pv T rfl rfl fun _ T => g_yes T rfl rfl h15 (r_pickF T rfl h16 rfl rfl fun _ T => r_pickT T rfl h15 rfl rfl fun _ T => ?_)
     refine r_pv T rfl rfl fun _ T => ?_
     exact J3_ok F r x1 x2 (x1.Int == 1) _ _ (T.sub ⟨rfl, trivial⟩) (S.only (p := []) [] rfl) H
   ·refine g_no T rfl rfl h15 rfl fun _ T => ?_
    refine g_no T rfl rfl h15 rfl fun _ T => g_no T rfl rfl h15 rfl fun _ T => g_no T rfl rfl h15 rfl fun _ T => g_und T rfl rfl rfl fun _ T => ?_
    refine g_und T rfl rfl rfl fun _ T => g_und T rfl rfl rfl fun _ T => g_no T rfl rfl h15 rfl fun _ T => r_pickF T rfl h15 rfl rfl fun _ T => ?_
    refine r_pv T rfl rfl fun _ T => ?_
    exact J3_ok F r x1 x2 false _ _ (T.sub ⟨rfl, trivial⟩) (S.only (p := []) [] rfl) H
  ·refine cdF T rfl h14 ?_
   refine Gets.skip (Gets.inBlock (Gets.seq ?_))
   refine rg (r_fa (o' := 3) T rfl Tryd.runUnderlying43 rfl Tryd.sizeOf9 rfl rfl fun _ T => r_ldB (ix := 0) T S rfl Tryd.isAgg9 rfl rfl rfl fun _ T => r_pv T rfl rfl fun _ T => ?_)
   refine r_pv T rfl rfl fun _ T => ?_
   replace H := Option.some.inj H
   subst H
   exact rtn T Tryd.func53 rfl rfl ⟨rfl, (S.only (p := []) [] rfl)⟩
theorem J0_ok (F : List Atom) (r : Bool) (x1 : api_Value) (x2 : Int) (a : Act) (w : World) (T : Tm 59 [] a) (S : SL ([] ++ F) w) (H : J0 = some r) : Gets Tryd.prog 53 ptJ0 a w (R F r) := by
 refine rg (r_pv T rfl rfl fun _ T => ?_)
 replace H := Option.some.inj H
 subst H
 exact rtn T Tryd.func53 rfl rfl ⟨rfl, (S.only (p := []) [] rfl)⟩
theorem ok (F : List Atom) (w : World) (x1 : api_Value) (x2 : Int) (S : SL ([] ++ F) w) (r : Bool) (H : f x1 x2 = some r) : Calls Tryd.prog 53 #[.agg #[.int .i64 x1.Type', .bool x1.Null, .int .i64 x1.Int, .string x1.Text], .int .i64 x2] w (R F r) := by
 refine enter (vs := [.agg #[.int .i64 x1.Type', .bool x1.Null, .int .i64 x1.Int, .string x1.Text], .int .i64 x2]) Tryd.func53 rfl Tryd.ntmps53 (Nat.le_of_ble_eq_true rfl) fun a T => ?_
 refine Gets.seq (rg (r_box T S rfl (cs := (y0 x1)) rfl rfl fun _ _ b3 S T => r_pv T rfl rfl fun _ T => ?_))
 refine Gets.seq (Gets.seq ?_)
 refine rg (r_fa (o' := 0) T rfl Tryd.runUnderlying43 rfl Tryd.sizeOf3 rfl rfl fun _ T => r_ldB (ix := 0) T S rfl Tryd.isAgg3 rfl rfl rfl fun _ T => r_pv T rfl rfl fun _ T => ?_)
 refine r_pv T rfl rfl fun _ T => r_pv T rfl rfl fun _ T => ?_
 rcases ifE H with ⟨h4, H⟩ | ⟨h4, H⟩
 ·refine g_no T rfl rfl h4 rfl fun _ T => ?_
  refine g_no T rfl rfl h4 rfl fun _ T => g_no T rfl rfl h4 rfl fun _ T => g_und T rfl rfl rfl fun _ T => g_und T rfl rfl rfl fun _ T => ?_
  refine g_und T rfl rfl rfl fun _ T => g_und T rfl rfl rfl fun _ T => g_und T rfl rfl rfl fun _ T => g_und T rfl rfl rfl fun _ T => ?_
  refine g_und T rfl rfl rfl fun _ T => g_und T rfl rfl rfl fun _ T => g_no T rfl rfl h4 rfl fun _ T => r_pickT T rfl h4 rfl rfl fun _ T => ?_
  refine cdT T rfl rfl (Gets.seq ?_)
  exact J0_ok F r x1 x2 _ _ (T.sub trivial) (S.only (p := []) [] rfl) H
 ·refine g_yes T rfl rfl h4 ?_
  refine r_fa (o' := 1) T rfl Tryd.runUnderlying43 rfl Tryd.sizeOf4 rfl rfl fun _ T => g_yes T rfl rfl h4 (r_ldB (ix := 0) T S rfl Tryd.isAgg4 rfl rfl rfl fun _ T => g_yes T rfl rfl h4 ?_)
  refine r_pv T rfl rfl fun _ T => ?_
  rcases ifE H with ⟨h5, H⟩ | ⟨h5, H⟩
  ·refine g_yes T rfl rfl h5 ?_
   refine r_fa (o' := 2) T rfl Tryd.runUnderlying43 rfl Tryd.sizeOf2 rfl rfl fun _ T => g_yes T rfl rfl h5 (r_ldB (ix := 0) T S rfl Tryd.isAgg2 rfl rfl rfl fun _ T => g_yes T rfl rfl h5 ?_)
   refine r_pv T rfl rfl fun _ T => g_yes T rfl rfl h5 (r_pv T rfl rfl fun _ T => ?_)
   rcases ifE H with ⟨h6, H⟩ | ⟨h6, H⟩
   ·refine g_no T rfl rfl h6 rfl fun _ T => ?_
    refine g_no T rfl rfl h6 rfl fun _ T => g_no T rfl rfl h6 rfl fun _ T => g_yes T rfl rfl h5 (r_pickT T rfl h6 rfl rfl fun _ T => ?_)
    refine g_yes T rfl rfl h4 (r_pickT T rfl h5 rfl rfl fun _ T => r_pickF T rfl h4 rfl rfl fun _ T => cdT T rfl rfl ?_)
    refine Gets.seq ?_
    exact J0_ok F r x1 x2 _ _ (T.sub trivial) (S.only (p := []) [] rfl) H
   ·refine g_yes T rfl rfl h6 ?_
    refine r_fa (o' := 3) T rfl Tryd.runUnderlying43 rfl Tryd.sizeOf9 rfl rfl fun _ T => g_yes T rfl rfl h6 (r_ldB (ix := 0) T S rfl Tryd.isAgg9 rfl rfl rfl fun _ T => g_yes T rfl rfl h6 ?_)
    refine r_pv T rfl rfl fun _ T => g_yes T rfl rfl h5 (r_pickF T rfl h6 rfl rfl fun _ T => g_yes T rfl rfl h4 ?_)
    refine r_pickT T rfl h5 rfl rfl fun _ T => r_pickF T rfl h4 rfl rfl fun _ T => ?_
    rcases ifE H with ⟨h7, H⟩ | ⟨h7, H⟩
    ·refine cdT T rfl h7 ?_
     refine Gets.seq ?_
     exact J0_ok F r x1 x2 _ _ (T.sub trivial) (S.only (p := []) [] rfl) H
    ·refine cdF T rfl h7 ?_
     refine Gets.skip (Gets.seq (Gets.seq ?_))
     exact J1_ok F r x2 b3 x1 _ _ (T.sub ⟨rfl, rfl, trivial⟩) (S.only (p := [blk b3 (y0 x1)]) [0] rfl) H
  ·refine g_no T rfl rfl h5 rfl fun _ T => ?_
   refine g_no T rfl rfl h5 rfl fun _ T => g_no T rfl rfl h5 rfl fun _ T => g_no T rfl rfl h5 rfl fun _ T => g_und T rfl rfl rfl fun _ T => ?_
   refine g_und T rfl rfl rfl fun _ T => g_und T rfl rfl rfl fun _ T => g_no T rfl rfl h5 rfl fun _ T => g_yes T rfl rfl h4 ?_
   refine r_pickF T rfl h5 rfl rfl fun _ T => r_pickF T rfl h4 rfl rfl fun _ T => cdF T rfl rfl ?_
   refine Gets.skip (Gets.seq (Gets.seq ?_))
   exact J1_ok F r x2 b3 x1 _ _ (T.sub ⟨rfl, rfl, trivial⟩) (S.only (p := [blk b3 (y0 x1)]) [0] rfl) H
end rowkey_fits
end Go.Proofs.YtohelmfkpmphoaaDoor
