/- scan: the loop over what a table's Scan tells, with its rounds. -/
import Derived.Test.YtghpokmkhlmgcaaFi3
namespace Go.Proofs.Ytghpokmkhlmgcaa
open Go Go.Proofs.Ytghpokmkhlmgcaa.X
set_option linter.unusedVariables false
set_option linter.unusedSimpArgs false
set_option maxRecDepth 100000
set_option maxHeartbeats 4000000
namespace r4_laid
noncomputable def c0 : Code := match Try.f71.body with | some c => c | none => .skip
def R (F : List Atom) (x1 : List Int) (A2 : OA) (k3 : Nat) (m4 : Md) (x5 : aE) (A6 : OA) (k7 : Nat) (A8 : OA) (k9 : Nat) (r : (List Int)) : Ending → World → Prop := fun e w' => ∃ (A59 : OA), ∃ (k60 : Nat), e = .returned (.slice A59 r.length k60) ∧ SL ([sl .own ku8 A59 k60 r, sl m4 ku8 A2 k3 x1, sl .ro ku8 A6 k7 x5.Key, sl .ro ku8 A8 k9 x5.Value] ++ F) w'
def J0 (z : Nat) (x5 : aE) (x12 : Int) (x40 : List Int) : Option (List Int) := Bd (r1_Number.f z (wr .u64 (x5.Value.length : Int))) fun x44 => Ck ((x40.length + x44.length) * 1 ≤ 140737488355328) (Ck (0 ≤ x12 ∧ x12 ≤ (x5.Key.length : Int)) (Ck (((x40 ++ x44).length + (cut x5.Key (Int.toNat x12) (Int.toNat (x5.Key.length : Int))).length) * 1 ≤ 140737488355328) (Ck ((((x40 ++ x44) ++ (cut x5.Key (Int.toNat x12) (Int.toNat (x5.Key.length : Int)))).length + x5.Value.length) * 1 ≤ 140737488355328) (some (((x40 ++ x44) ++ (cut x5.Key (Int.toNat x12) (Int.toNat (x5.Key.length : Int)))) ++ x5.Value)))))
def f (z : Nat) (x1 : List Int) (x5 : aE) : Option (List Int) := Bd (r4_common.f z x1 x5.Key) fun x12 => Bd (r1_Number.f z (wr .u64 x12)) fun x14 => Bd (r1_Number.f z (wr .u64 (wr .i64 ((x5.Key.length : Int) - x12)))) fun x18 => Ck ((x14.length + x18.length) * 1 ≤ 140737488355328) (Bd (r1_Number.f z x5.Seq) fun x25 => Ck (((x14 ++ x18).length + x25.length) * 1 ≤ 140737488355328) (If x5.Del (Ck ((((x14 ++ x18) ++ x25).length + [1].length) * 1 ≤ 140737488355328) (J0 z x5 x12 (((x14 ++ x18) ++ x25) ++ [1]))) (Ck ((((x14 ++ x18) ++ x25).length + [0].length) * 1 ≤ 140737488355328) (J0 z x5 x12 (((x14 ++ x18) ++ x25) ++ [0])))))
noncomputable def ptJ0 : List Item := [.code (cL (cr 8 c0)), .code (cr 9 c0)]
theorem J0_ok (F : List Atom) (r : (List Int)) (z : Nat) (x1 : List Int) (A2 : OA) (k3 : Nat) (m4 : Md) (x5 : aE) (A6 : OA) (k7 : Nat) (A8 : OA) (k9 b10 : Nat) (x12 : Int) (A41 : OA) (x40 : List Int) (k42 : Nat) (a : Act) (w : World) (T : Tm 57 [(3, .pointer (some ⟨b10, 0, none⟩)), (5, .int .i64 x12), (6, .slice A41 x40.length k42)] a) (S : SL ([sl m4 ku8 A2 k3 x1, sl .ro ku8 A6 k7 x5.Key, sl .ro ku8 A8 k9 x5.Value, blk b10 [.slice A6 x5.Key.length k7, .int .u64 x5.Seq, .bool x5.Del, .slice A8 x5.Value.length k9], sl .own ku8 A41 k42 x40] ++ F) w) (H : J0 z x5 x12 x40 = some r) : Gets Try.prog 71 ptJ0 a w (R F x1 A2 k3 m4 x5 A6 k7 A8 k9 r) := by
 refine rg (r_fa (o' := 3) T rfl tu36 rfl ts24 rfl rfl fun _ T => lB (ix := 3) T S rfl ti24 rfl rfl rfl fun _ T => rn T rfl tu24 rfl fun _ T => r_conv T rfl tu3 tu34 rfl fun _ T => ?_)
 obtain ⟨x44, h43, H⟩ := bd H
 refine rc T tc70 rfl rfl (r1_Number.ok _ _ z (wr .u64 (x5.Value.length : Int)) (S.sel (is := []) rfl) _ h43) ?_
 rintro _ _ ⟨A45, k46, rfl, S⟩
 refine ⟨_, rfl, fun _ T => ?_⟩
 replace S := S.join
 refine v1 T rfl fun T => sq (rg (v2 T rfl rfl fun T => ?_))
 obtain ⟨h49, H⟩ := ck H
 refine r_app (ix := 5) (iy := 0) (xs := x40) (ys := x44) T S rfl rfl rfl rfl (by decide) sty24 tu24 (by decide) h49 rfl fun _ _ A47 k48 S T => ?_
 refine v1 T rfl fun T => sq (rg (v1 T rfl fun T => r_fa (o' := 0) T rfl tu36 rfl ts24 rfl rfl fun _ T => lB (ix := 4) T S rfl ti24 rfl rfl rfl fun _ T => v1 T rfl fun T => ?_))
 have h50 := S.len (i := 2) rfl
 obtain ⟨h51, H⟩ := ck H
 refine r_slR (ix := 2) (xs := x5.Key) T S rfl rfl (fun h => by cases h) rfl rfl rfl h51.1 h51.2 (Int.le_refl _) (by omega) (by omega) tu24 ts5 rfl fun _ A52 S T => ?_
 obtain ⟨h55, H⟩ := ck H
 refine r_app (ix := 6) (iy := 0) (xs := (x40 ++ x44)) (ys := (cut x5.Key (Int.toNat x12) (Int.toNat (x5.Key.length : Int)))) T S rfl rfl rfl rfl (by decide) sty24 tu24 (by decide) h55 rfl fun _ _ A53 k54 S T => ?_
 refine v1 T rfl fun T => sq (rg (v1 T rfl fun T => r_fa (o' := 3) T rfl tu36 rfl ts24 rfl rfl fun _ T => lB (ix := 5) T S rfl ti24 rfl rfl rfl fun _ T => ?_))
 obtain ⟨h58, H⟩ := ck H
 refine r_app (ix := 6) (iy := 4) (xs := ((x40 ++ x44) ++ (cut x5.Key (Int.toNat x12) (Int.toNat (x5.Key.length : Int))))) (ys := x5.Value) T S rfl rfl rfl rfl (by decide) sty24 tu24 (by decide) h58 rfl fun _ _ A56 k57 S T => ?_
 refine v1 T rfl fun T => ?_
 obtain rfl := sj H
 exact rtn T Try.func71 rfl rfl ⟨A56, k57, rfl, (S.only [6, 2, 2, 2] rfl)⟩
theorem ok (F : List Atom) (w : World) (z : Nat) (x1 : List Int) (x5 : aE) {A2 : OA} {k3 : Nat} {m4 : Md} {A6 : OA} {k7 : Nat} {A8 : OA} {k9 : Nat} (S : SL ([sl m4 ku8 A2 k3 x1, sl .ro ku8 A6 k7 x5.Key, sl .ro ku8 A8 k9 x5.Value] ++ F) w) (r : (List Int)) (H : f z x1 x5 = some r) : Calls Try.prog 71 #[.slice A2 x1.length k3, .agg #[.slice A6 x5.Key.length k7, .int .u64 x5.Seq, .bool x5.Del, .slice A8 x5.Value.length k9]] w (R F x1 A2 k3 m4 x5 A6 k7 A8 k9 r) := by
 refine enter (vs := [.slice A2 x1.length k3, .agg #[.slice A6 x5.Key.length k7, .int .u64 x5.Seq, .bool x5.Del, .slice A8 x5.Value.length k9]]) Try.func71 rfl Try.ntmps71 (nle rfl) fun a T => ?_
 refine sq (rg (r_box T S rfl (cs := [.slice A6 x5.Key.length k7, .int .u64 x5.Seq, .bool x5.Del, .slice A8 x5.Value.length k9]) rfl rfl fun _ _ b10 S T => v1 T rfl fun T => sq (rg (v1 T rfl fun T => r_fa (o' := 0) T rfl tu36 rfl ts24 rfl rfl fun _ T => lB (ix := 0) T S rfl ti24 rfl rfl rfl fun _ T => ?_))))
 replace S := S.dup (i := 2) rfl
 obtain ⟨x12, h11, H⟩ := bd H
 refine rc T Try.call89 rfl rfl (r4_common.ok _ _ z x1 x5.Key (S.sel (is := [2, 0]) rfl) _ h11) ?_
 rintro _ _ ⟨rfl, S⟩
 refine ⟨_, rfl, fun _ T => ?_⟩
 replace S := S.join.only [0, 1, 1, 1] rfl
 refine v1 T rfl fun T => sq (rg (v1 T rfl fun T => r_conv T rfl tu3 tu34 rfl fun _ T => ?_))
 obtain ⟨x14, h13, H⟩ := bd H
 refine rc T tc70 rfl rfl (r1_Number.ok _ _ z (wr .u64 x12) (S.sel (is := []) rfl) _ h13) ?_
 rintro _ _ ⟨A15, k16, rfl, S⟩
 refine ⟨_, rfl, fun _ T => ?_⟩
 replace S := S.join
 refine v1 T rfl fun T => sq (rg (r_fa (o' := 0) T rfl tu36 rfl ts24 rfl rfl fun _ T => lB (ix := 2) T S rfl ti24 rfl rfl rfl fun _ T => rn T rfl tu24 rfl fun _ T => v2 T rfl rfl fun T => r_conv T rfl tu3 tu34 rfl fun _ T => ?_))
 obtain ⟨x18, h17, H⟩ := bd H
 refine rc T tc70 rfl rfl (r1_Number.ok _ _ z (wr .u64 (wr .i64 ((x5.Key.length : Int) - x12))) (S.sel (is := []) rfl) _ h17) ?_
 rintro _ _ ⟨A19, k20, rfl, S⟩
 refine ⟨_, rfl, fun _ T => ?_⟩
 replace S := S.join
 refine v1 T rfl fun T => sq (rg (v2 T rfl rfl fun T => ?_))
 obtain ⟨h23, H⟩ := ck H
 refine r_app (ix := 1) (iy := 0) (xs := x14) (ys := x18) T S rfl rfl rfl rfl (by decide) sty24 tu24 (by decide) h23 rfl fun _ _ A21 k22 S T => ?_
 refine v1 T rfl fun T => sq (rg (r_fa (o' := 1) T rfl tu36 rfl ts34 rfl rfl fun _ T => lB (ix := 3) T S rfl ti34 rfl rfl rfl fun _ T => ?_))
 obtain ⟨x25, h24, H⟩ := bd H
 refine rc T tc70 rfl rfl (r1_Number.ok _ _ z x5.Seq (S.sel (is := []) rfl) _ h24) ?_
 rintro _ _ ⟨A26, k27, rfl, S⟩
 refine ⟨_, rfl, fun _ T => ?_⟩
 replace S := S.join
 refine v1 T rfl fun T => sq (rg (v2 T rfl rfl fun T => ?_))
 obtain ⟨h30, H⟩ := ck H
 refine r_app (ix := 2) (iy := 0) (xs := (x14 ++ x18)) (ys := x25) T S rfl rfl rfl rfl (by decide) sty24 tu24 (by decide) h30 rfl fun _ _ A28 k29 S T => ?_
 refine v1 T rfl fun T => sq (sq (rg (r_fa (o' := 2) T rfl tu36 rfl ts4 rfl rfl fun _ T => lB (ix := 4) T S rfl ti4 rfl rfl rfl fun _ T => ?_)))
 rcases ifE H with ⟨h31, H⟩ | ⟨h31, H⟩
 ·refine cdT T rfl h31 (rg (v1 T rfl fun T => ?_))
  replace S := SL.val (κ := ku8) (x := 1) (cs := [.int .u8 1]) (fun _ => rfl) S
  refine r_bsl (κ := ku8) (xs := [1]) (vs := [.int .u8 1]) T S sty24 rfl ⟨_, _, rfl, ⟨0, rfl⟩, rfl⟩ rfl (by decide) rfl fun _ _ b32 S T => ?_
  replace S := S.only [0, 1, 1, 1, 1, 1, 1, 1] rfl
  obtain ⟨h35, H⟩ := ck H
  refine r_app (ix := 3) (iy := 0) (xs := ((x14 ++ x18) ++ x25)) (ys := [1]) T S rfl rfl rfl rfl (by decide) sty24 tu24 (by decide) h35 rfl fun _ _ A33 k34 S T => ?_
  refine v1 T rfl fun T => sq ?_
  exact J0_ok F r z x1 A2 k3 m4 x5 A6 k7 A8 k9 b10 x12 A33 (((x14 ++ x18) ++ x25) ++ [1]) k34 _ _ (T.sb rfl) (S.only [4, 5, 5, 4, 3] rfl) H
 ·refine cdF T rfl h31 (rg (v1 T rfl fun T => ?_))
  replace S := SL.val (κ := ku8) (x := 0) (cs := [.int .u8 0]) (fun _ => rfl) S
  refine r_bsl (κ := ku8) (xs := [0]) (vs := [.int .u8 0]) T S sty24 rfl ⟨_, _, rfl, ⟨0, rfl⟩, rfl⟩ rfl (by decide) rfl fun _ _ b36 S T => ?_
  replace S := S.only [0, 1, 1, 1, 1, 1, 1, 1] rfl
  obtain ⟨h39, H⟩ := ck H
  refine r_app (ix := 3) (iy := 0) (xs := ((x14 ++ x18) ++ x25)) (ys := [0]) T S rfl rfl rfl rfl (by decide) sty24 tu24 (by decide) h39 rfl fun _ _ A37 k38 S T => ?_
  refine v1 T rfl fun T => sq ?_
  exact J0_ok F r z x1 A2 k3 m4 x5 A6 k7 A8 k9 b10 x12 A37 (((x14 ++ x18) ++ x25) ++ [0]) k38 _ _ (T.sb rfl) (S.only [4, 5, 5, 4, 3] rfl) H
end r4_laid
namespace r4_Cuts
noncomputable def c0 : Code := match Try.f48.body with | some c => c | none => .skip
def R (F : List Atom) (x1 : List aE) (A2 : OA) (k3 : Nat) (m4 : Md) (r : (List Int)) : Ending → World → Prop := fun e w' => ∃ (A54 : OA), ∃ (k55 : Nat), e = .returned (.slice A54 r.length k55) ∧ SL ([sl .own ki64 A54 k55 r, sl m4 kaE A2 k3 x1] ++ F) w'
def J1 (z : Nat) (q0 : (List Int) → Int → Int → (List Int) → Int → Option (List Int)) (x1 : List aE) (x5 x14 : Int) (x43 : List Int) (x46 x47 : Int) (x48 : List Int) : Option (List Int) := Ck (0 ≤ x14 ∧ x14 < (x1.length : Int)) (q0 x43 (wr .i64 (x46 + (x48.length : Int))) (wr .i64 (x47 + 1)) ((gi daE x1 x14).Key) (wr .i64 (x14 + 1)))
def L0 (z : Nat) (x1 : List aE) (x5 : Int) : Nat → (List Int) → Int → Int → (List Int) → Int → Option (List Int)
 | 0, _, _, _, _, _ => none
 | m + 1, x6, x9, x10, x11, x14 => If (decide (x14 < (x1.length : Int))) (Ck (0 ≤ x14 ∧ x14 < (x1.length : Int)) (Bd (r4_laid.f z x11 (gi daE x1 x14)) fun x26 => If (decide (x10 > 0)) (If (decide ((wr .i64 (x9 + (x26.length : Int))) > x5)) (Ck ((x6.length + [x10].length) * 8 ≤ 140737488355328) (Bd (r4_laid.f z ([] : List Int) (gi daE x1 x14)) fun x40 => J1 z (L0 z x1 x5 m) x1 x5 x14 (x6 ++ [x10]) 0 0 x40)) (J1 z (L0 z x1 x5 m) x1 x5 x14 x6 x9 x10 x26)) (J1 z (L0 z x1 x5 m) x1 x5 x14 x6 x9 x10 x26))) (Ck ((x6.length + [x10].length) * 8 ≤ 140737488355328) (some (x6 ++ [x10])))
def f (z : Nat) (x1 : List aE) (x5 : Int) : Option (List Int) := L0 z x1 x5 z [] 0 0 [] 0
noncomputable def ptJ1 : List Item := [.code (cL (cR (cR (cB (cL (cR (cB (cB (cR (cL (cr 5 c0))))))))))), .code (cr 3 (cB (cL (cR (cB (cB (cR (cL (cr 5 c0))))))))), .inBlock 1, .code (cR (cR (cB (cB (cR (cL (cr 5 c0))))))), .inLoop (cB (cB (cR (cL (cr 5 c0))))), .inBlock 0, .code (cr 6 c0)]
noncomputable def ptL0 : List Item := [.code (cB (cB (cR (cL (cr 5 c0))))), .inLoop (cB (cB (cR (cL (cr 5 c0))))), .inBlock 0, .code (cr 6 c0)]
theorem J1_ok (F : List Atom) (r : (List Int)) (z : Nat) (x1 : List aE) (A2 : OA) (k3 : Nat) (m4 : Md) (x5 x14 : Int) (q0 : (List Int) → Int → Int → (List Int) → Int → Option (List Int)) (hq0 : ∀ (A7 : OA) (x6 : List Int) (k8 : Nat) (x9 x10 : Int) (A12 : OA) (x11 : List Int) (k13 : Nat) (x14 : Int) (a : Act) (w : World), Tm 57 [(0, .slice A2 x1.length k3), (1, .int .i64 x5), (5, .slice A7 x6.length k8), (6, .int .i64 x9), (7, .int .i64 x10), (8, .slice A12 x11.length k13), (9, .int .i64 x14)] a → SL ([sl m4 kaE A2 k3 x1, sl .own ki64 A7 k8 x6, sl .ro ku8 A12 k13 x11] ++ F) w → q0 x6 x9 x10 x11 x14 = some r → Gets Try.prog 48 ptL0 a w (R F x1 A2 k3 m4 r)) (A44 : OA) (x43 : List Int) (k45 : Nat) (x46 x47 : Int) (A49 : OA) (x48 : List Int) (k50 : Nat) (a : Act) (w : World) (T : Tm 57 [(0, .slice A2 x1.length k3), (1, .int .i64 x5), (5, .slice A44 x43.length k45), (6, .int .i64 x46), (7, .int .i64 x47), (9, .int .i64 x14), (10, .slice A49 x48.length k50)] a) (S : SL ([sl m4 kaE A2 k3 x1, sl .own ki64 A44 k45 x43, sl .own ku8 A49 k50 x48] ++ F) w) (H : J1 z q0 x1 x5 x14 x43 x46 x47 x48 = some r) : Gets Try.prog 48 ptJ1 a w (R F x1 A2 k3 m4 r) := by
 refine rg (v3 T rfl rfl rfl fun T => sq (rg (v2 T rfl rfl fun T => rn T rfl tu24 rfl fun _ T => v2 T rfl rfl fun T => rg (v2 T rfl rfl fun T => ?_))))
 obtain ⟨h51, H⟩ := ck H
 refine r_ia (ix := 0) T S rfl rfl rfl rfl tu22 ts36 h51.1 h51.2 rfl fun _ T => r_faE T rfl tu36 rfl ts24 rfl fun _ T => r_ldR (ix := 0) (i := x14) (off := 0) T S rfl ti24 rfl daE _ rfl rfl fld_aE_Key h51.1 h51.2 rfl rfl fun _ _ S T => ?_
 obtain ⟨A52, k53, hv_, S_⟩ := S.ofVal
 subst hv_
 replace S := S_
 refine v1 T rfl fun T => Gets.inBlock (rg (v3 T rfl rfl rfl fun T => Gets.inLoop ?_))
 exact hq0 A44 x43 k45 (wr .i64 (x46 + (x48.length : Int))) (wr .i64 (x47 + 1)) A52 ((gi daE x1 x14).Key) k53 (wr .i64 (x14 + 1)) _ _ (T.sb rfl) (S.only [1, 1, 0] rfl) H
theorem L0_ok (F : List Atom) (r : (List Int)) (z : Nat) (x1 : List aE) (A2 : OA) (k3 : Nat) (m4 : Md) (x5 : Int) (m : Nat) : ∀ (A7 : OA) (x6 : List Int) (k8 : Nat) (x9 x10 : Int) (A12 : OA) (x11 : List Int) (k13 : Nat) (x14 : Int) (a : Act) (w : World), Tm 57 [(0, .slice A2 x1.length k3), (1, .int .i64 x5), (5, .slice A7 x6.length k8), (6, .int .i64 x9), (7, .int .i64 x10), (8, .slice A12 x11.length k13), (9, .int .i64 x14)] a → SL ([sl m4 kaE A2 k3 x1, sl .own ki64 A7 k8 x6, sl .ro ku8 A12 k13 x11] ++ F) w → L0 z x1 x5 m x6 x9 x10 x11 x14 = some r → Gets Try.prog 48 ptL0 a w (R F x1 A2 k3 m4 r) := by
 induction m with
 | zero => intro _ _ _ _ _ _ _ _ _ _ _ _ _ H; cases H
 | succ m ih =>
  intro A7 x6 k8 x9 x10 A12 x11 k13 x14 a w T S H
  refine sq (sq (rg (v2 T rfl rfl fun T => rn T rfl tu22 rfl fun _ T => v1 T rfl fun T => ?_)))
  rcases ifE H with ⟨h15, H⟩ | ⟨h15, H⟩
  ·refine cdT T rfl h15 (sk (sq (bq (sq (rg (v3 T rfl rfl rfl fun T => ?_))))))
   obtain ⟨h20, H⟩ := ck H
   refine r_ia (ix := 0) T S rfl rfl rfl rfl tu22 ts36 h20.1 h20.2 rfl fun _ T => r_ldEA (ix := 0) (i := x14) (off := 0) T S rfl rfl ti36 ts36 daE rfl (Fld.all _) h20.1 h20.2 rfl fun _ _ S T => ?_
   obtain ⟨A21, k22, A23, k24, hv_, S_⟩ := op_aE S
   subst hv_
   replace S := S_
   obtain ⟨x26, h25, H⟩ := bd H
   refine rc T Try.call71 rfl rfl (r4_laid.ok _ _ z x11 (gi daE x1 x14) (S.sel (is := [4, 0, 0]) rfl) _ h25) ?_
   rintro _ _ ⟨A27, k28, rfl, S⟩
   refine ⟨_, rfl, fun _ T => ?_⟩
   replace S := S.join
   refine v1 T rfl fun T => sq (sq (rg (v3 T rfl rfl rfl fun T => ?_)))
   rcases ifE H with ⟨h29, H⟩ | ⟨h29, H⟩
   ·refine gy T rfl h29 (v1 T rfl fun T => gy T rfl h29 (v1 T rfl fun T => gy T rfl h29 (rn T rfl tu24 rfl fun _ T => gy T rfl h29 (v1 T rfl fun T => gy T rfl h29 (v1 T rfl fun T => gy T rfl h29 (v1 T rfl fun T => pT T rfl h29 rfl rfl fun _ T => ?_))))))
    rcases ifE H with ⟨h30, H⟩ | ⟨h30, H⟩
    ·refine cdT T rfl h30 (sq (rg (v2 T rfl rfl fun T => ?_)))
     replace S := SL.val (κ := ki64) (x := x10) (cs := [.int .i64 x10]) (fun _ => rfl) S
     refine r_bsl (κ := ki64) (xs := [x10]) (vs := [.int .i64 x10]) T S sty48 rfl ⟨_, _, rfl, ⟨0, rfl⟩, rfl⟩ rfl (by decide) rfl fun _ _ b31 S T => ?_
     replace S := S.only [0, 1, 1, 1, 1, 1, 1] rfl
     obtain ⟨h34, H⟩ := ck H
     refine r_app (ix := 6) (iy := 0) (xs := x6) (ys := [x10]) T S rfl rfl rfl rfl (by decide) sty48 tu48 (by decide) h34 rfl fun _ _ A32 k33 S T => ?_
     refine v1 T rfl fun T => sq (rg (v1 T rfl fun T => sq (rg (v1 T rfl fun T => rg (v2 T rfl rfl fun T => r_ia (ix := 5) T S rfl rfl rfl rfl tu22 ts36 h20.1 h20.2 rfl fun _ T => r_ldEA (ix := 5) (i := x14) (off := 0) T S rfl rfl ti36 ts36 daE rfl (Fld.all _) h20.1 h20.2 rfl fun _ _ S T => ?_)))))
     obtain ⟨A35, k36, A37, k38, hv_, S_⟩ := op_aE S
     subst hv_
     replace S := S_
     replace S := S.nil ku8 .ro
     obtain ⟨x40, h39, H⟩ := bd H
     refine rc T Try.call71 rfl rfl (r4_laid.ok _ _ z ([] : List Int) (gi daE x1 x14) (S.sel (is := [0, 0, 0]) rfl) _ h39) ?_
     rintro _ _ ⟨A41, k42, rfl, S⟩
     refine ⟨_, rfl, fun _ T => ?_⟩
     replace S := S.join
     refine v1 T rfl fun T => sq ?_
     exact J1_ok F r z x1 A2 k3 m4 x5 x14 (L0 z x1 x5 m) ih A32 (x6 ++ [x10]) k33 0 0 A41 x40 k42 _ _ (T.sb rfl) (S.only [9, 9, 0] rfl) H
    ·refine cdF T rfl h30 (sk (sq ?_))
     exact J1_ok F r z x1 A2 k3 m4 x5 x14 (L0 z x1 x5 m) ih A7 x6 k8 x9 x10 A27 x26 k28 _ _ (T.sb rfl) (S.only [4, 4, 0] rfl) H
   ·refine gn T rfl h29 fun T => gn T rfl h29 fun T => gn T rfl h29 fun T => gn T rfl h29 fun T => gn T rfl h29 fun T => gn T rfl h29 fun T => pF T rfl h29 rfl rfl fun _ T => cdF T rfl rfl (sk (sq ?_))
    exact J1_ok F r z x1 A2 k3 m4 x5 x14 (L0 z x1 x5 m) ih A7 x6 k8 x9 x10 A27 x26 k28 _ _ (T.sb rfl) (S.only [4, 4, 0] rfl) H
  ·refine cdF T rfl h15 (Gets.exit rfl (sq (rg (v2 T rfl rfl fun T => ?_))))
   replace S := SL.val (κ := ki64) (x := x10) (cs := [.int .i64 x10]) (fun _ => rfl) S
   refine r_bsl (κ := ki64) (xs := [x10]) (vs := [.int .i64 x10]) T S sty48 rfl ⟨_, _, rfl, ⟨0, rfl⟩, rfl⟩ rfl (by decide) rfl fun _ _ b16 S T => ?_
   replace S := S.only [0, 1, 1, 1] rfl
   obtain ⟨h19, H⟩ := ck H
   refine r_app (ix := 2) (iy := 0) (xs := x6) (ys := [x10]) T S rfl rfl rfl rfl (by decide) sty48 tu48 (by decide) h19 rfl fun _ _ A17 k18 S T => ?_
   refine v1 T rfl fun T => ?_
   obtain rfl := sj H
   exact rtn T Try.func48 rfl rfl ⟨A17, k18, rfl, (S.only [2, 1] rfl)⟩
theorem ok (F : List Atom) (w : World) (z : Nat) (x1 : List aE) (x5 : Int) {A2 : OA} {k3 : Nat} {m4 : Md} (S : SL ([sl m4 kaE A2 k3 x1] ++ F) w) (r : (List Int)) (H : f z x1 x5 = some r) : Calls Try.prog 48 #[.slice A2 x1.length k3, .int .i64 x5] w (R F x1 A2 k3 m4 r) := by
 refine enter (vs := [.slice A2 x1.length k3, .int .i64 x5]) Try.func48 rfl Try.ntmps48 (nle rfl) fun a T => ?_
 refine sq (rg (v1 T rfl fun T => sq (rg (v1 T rfl fun T => sq (rg (v1 T rfl fun T => sq (rg (v1 T rfl fun T => sq (rg (v1 T rfl fun T => sq (sq (rg (v1 T rfl fun T => bq (Gets.loop ?_))))))))))))))
 replace S := S.nil ki64 .own
 replace S := S.nil ku8 .ro
 exact L0_ok F r z x1 A2 k3 m4 x5 z none [] 0 0 0 none [] 0 0 _ _ (T.sb rfl) (S.only [2, 1, 0] rfl) H
end r4_Cuts
namespace r4_bytes
noncomputable def c0 : Code := match Try.f44.body with | some c => c | none => .skip
def R (F : List Atom) (x1 : List aE) (A2 : OA) (k3 : Nat) (r : (List Int) × Bool) : Ending → World → Prop := fun e w' => ∃ (A149 : OA), ∃ (k150 : Nat), e = .returned (.tuple #[.slice A149 r.1.length k150, .bool r.2]) ∧ SL ([sl .own ku8 A149 k150 r.1, sl .ro kaE A2 k3 x1] ++ F) w'
def L1 (z : Nat) (q0 : (List Int) → (List Int) → Int → Int → Option ((List Int) × Bool)) (x1 : List aE) (x4 x5 : Int) (x7 : (List Int)) (x14 x17 : List Int) (x20 x21 : Int) : Nat → (List Int) → (List Int) → Int → Option ((List Int) × Bool)
 | 0, _, _, _ => none
 | m + 1, x94, x97, x100 => Ck (0 ≤ x21 ∧ x21 < (x7.length : Int)) (If (decide (x100 < (wr .i64 (x20 + (gi (0 : Int) x7 x21))))) (Ck (0 ≤ x100 ∧ x100 < (x1.length : Int)) (Bd (r4_laid.f z x97 (gi daE x1 x100)) fun x141 => Ck ((x94.length + x141.length) * 1 ≤ 140737488355328) (L1 z q0 x1 x4 x5 x7 x14 x17 x20 x21 m (x94 ++ x141) ((gi daE x1 x100).Key) (wr .i64 (x100 + 1))))) (Bd (r4_put.f z x14 68 x94) fun x104 => Bd (r1_Number.f z (wr .u64 (x14.length : Int))) fun x108 => Ck ((x17.length + x108.length) * 1 ≤ 140737488355328) (Bd (r1_Number.f z (wr .u64 (wr .i64 ((x104.length : Int) - (x14.length : Int))))) fun x115 => Ck (((x17 ++ x108).length + x115.length) * 1 ≤ 140737488355328) (Bd (r1_Number.f z (wr .u64 (gi (0 : Int) x7 x21))) fun x122 => Ck ((((x17 ++ x108) ++ x115).length + x122.length) * 1 ≤ 140737488355328) (Bd (r1_Text.f z x97) fun x129 => Ck (((((x17 ++ x108) ++ x115) ++ x122).length + x129.1.length) * 1 ≤ 140737488355328) (q0 x104 ((((x17 ++ x108) ++ x115) ++ x122) ++ x129.1) (wr .i64 (x20 + (gi (0 : Int) x7 x21))) (wr .i64 (x21 + 1))))))))
def L0 (z : Nat) (x1 : List aE) (x4 x5 : Int) (x7 : (List Int)) : Nat → (List Int) → (List Int) → Int → Int → Option ((List Int) × Bool)
 | 0, _, _, _, _ => none
 | m + 1, x14, x17, x20, x21 => If (decide (x21 < (x7.length : Int))) (L1 z (L0 z x1 x4 x5 x7 m) x1 x4 x5 x7 x14 x17 x20 x21 z [] [] x20) (If (decide ((x17.length : Int) > 2097152)) (some (([] : List Int), false)) (Bd (r4_keys.f z x1) fun x25 => Bd (r3_Make.f z x25 x5) fun x29 => Bd (r4_put.f z x14 70 x29.1) fun x33 => Bd (r4_put.f z x33 73 x17) fun x37 => Bd (r4_eight.f z (wr .u64 (x14.length : Int))) fun x41 => Bd (r4_eight.f z (wr .u64 (x33.length : Int))) fun x45 => Ck ((x41.length + x45.length) * 1 ≤ 140737488355328) (Bd (r4_eight.f z (wr .u64 (x1.length : Int))) fun x52 => Ck (((x41 ++ x45).length + x52.length) * 1 ≤ 140737488355328) (Bd (r4_eight.f z (wr .u64 x4)) fun x59 => Ck (4 ≤ (x59.length : Int)) (Ck ((((x41 ++ x45) ++ x52).length + (cut x59 (Int.toNat 4) (Int.toNat (x59.length : Int))).length) * 1 ≤ 140737488355328) (Bd (r4_eight.f z (wr .u64 x5)) fun x69 => Ck (4 ≤ (x69.length : Int)) (Ck (((((x41 ++ x45) ++ x52) ++ (cut x59 (Int.toNat 4) (Int.toNat (x59.length : Int)))).length + (cut x69 (Int.toNat 4) (Int.toNat (x69.length : Int))).length) * 1 ≤ 140737488355328) (Ck ((((((x41 ++ x45) ++ x52) ++ (cut x59 (Int.toNat 4) (Int.toNat (x59.length : Int)))) ++ (cut x69 (Int.toNat 4) (Int.toNat (x69.length : Int)))).length + [67, 79, 82, 77].length) * 1 ≤ 140737488355328) (Bd (r1_Sum.f z (((((x41 ++ x45) ++ x52) ++ (cut x59 (Int.toNat 4) (Int.toNat (x59.length : Int)))) ++ (cut x69 (Int.toNat 4) (Int.toNat (x69.length : Int)))) ++ [67, 79, 82, 77])) fun x83 => Bd (r1_Four.f x83) fun x85 => Ck (((((((x41 ++ x45) ++ x52) ++ (cut x59 (Int.toNat 4) (Int.toNat (x59.length : Int)))) ++ (cut x69 (Int.toNat 4) (Int.toNat (x69.length : Int)))) ++ [67, 79, 82, 77]).length + x85.length) * 1 ≤ 140737488355328) (Ck ((x37.length + ((((((x41 ++ x45) ++ x52) ++ (cut x59 (Int.toNat 4) (Int.toNat (x59.length : Int)))) ++ (cut x69 (Int.toNat 4) (Int.toNat (x69.length : Int)))) ++ [67, 79, 82, 77]) ++ x85).length) * 1 ≤ 140737488355328) (some ((x37 ++ ((((((x41 ++ x45) ++ x52) ++ (cut x59 (Int.toNat 4) (Int.toNat (x59.length : Int)))) ++ (cut x69 (Int.toNat 4) (Int.toNat (x69.length : Int)))) ++ [67, 79, 82, 77]) ++ x85)), true))))))))))))
def f (z : Nat) (x1 : List aE) (x4 x5 : Int) : Option ((List Int) × Bool) := Bd (r4_Cuts.f z x1 x4) fun x7 => Bd (r1_Number.f z (wr .u64 (x7.length : Int))) fun x11 => L0 z x1 x4 x5 x7 z [] x11 0 0
noncomputable def ptL1 : List Item := [.code (cB (cB (cR (cL (cR (cR (cB (cL (cR (cB (cB (cR (cL (cr 5 c0)))))))))))))), .inLoop (cB (cB (cR (cL (cR (cR (cB (cL (cR (cB (cB (cR (cL (cr 5 c0)))))))))))))), .inBlock 2, .code (cr 3 (cB (cL (cR (cB (cB (cR (cL (cr 5 c0))))))))), .inBlock 1, .code (cR (cR (cB (cB (cR (cL (cr 5 c0))))))), .inLoop (cB (cB (cR (cL (cr 5 c0))))), .inBlock 0, .code (cr 6 c0)]
noncomputable def ptL0 : List Item := [.code (cB (cB (cR (cL (cr 5 c0))))), .inLoop (cB (cB (cR (cL (cr 5 c0))))), .inBlock 0, .code (cr 6 c0)]
theorem L1_ok (F : List Atom) (r : (List Int) × Bool) (z : Nat) (x1 : List aE) (A2 : OA) (k3 : Nat) (x4 x5 : Int) (A15 : OA) (x14 : List Int) (k16 : Nat) (A8 : OA) (x7 : (List Int)) (k9 : Nat) (A18 : OA) (x17 : List Int) (k19 : Nat) (x20 x21 : Int) (q0 : (List Int) → (List Int) → Int → Int → Option ((List Int) × Bool)) (hq0 : ∀ (A15 : OA) (x14 : List Int) (k16 : Nat) (A18 : OA) (x17 : List Int) (k19 : Nat) (x20 x21 : Int) (a : Act) (w : World), Tm 170 [(0, .slice A2 x1.length k3), (1, .int .i64 x4), (2, .int .i64 x5), (8, .slice A15 x14.length k16), (9, .slice A8 x7.length k9), (10, .slice A18 x17.length k19), (11, .int .i64 x20), (12, .int .i64 x21)] a → SL ([sl .ro kaE A2 k3 x1, sl .own ku8 A15 k16 x14, sl .own ki64 A8 k9 x7, sl .own ku8 A18 k19 x17] ++ F) w → q0 x14 x17 x20 x21 = some r → Gets Try.prog 44 ptL0 a w (R F x1 A2 k3 r)) (m : Nat) : ∀ (A95 : OA) (x94 : List Int) (k96 : Nat) (A98 : OA) (x97 : List Int) (k99 : Nat) (x100 : Int) (a : Act) (w : World), Tm 170 [(0, .slice A2 x1.length k3), (1, .int .i64 x4), (2, .int .i64 x5), (8, .slice A15 x14.length k16), (9, .slice A8 x7.length k9), (10, .slice A18 x17.length k19), (11, .int .i64 x20), (12, .int .i64 x21), (13, .slice A95 x94.length k96), (14, .slice A98 x97.length k99), (15, .int .i64 x100)] a → SL ([sl .ro kaE A2 k3 x1, sl .own ku8 A15 k16 x14, sl .own ki64 A8 k9 x7, sl .own ku8 A18 k19 x17, sl .own ku8 A95 k96 x94, sl .ro ku8 A98 k99 x97] ++ F) w → L1 z q0 x1 x4 x5 x7 x14 x17 x20 x21 m x94 x97 x100 = some r → Gets Try.prog 44 ptL1 a w (R F x1 A2 k3 r) := by
 induction m with
 | zero => intro _ _ _ _ _ _ _ _ _ _ _ H; cases H
 | succ m ih =>
  intro A95 x94 k96 A98 x97 k99 x100 a w T S H
  refine sq (sq (rg (v3 T rfl rfl rfl fun T => v1 T rfl fun T => ?_)))
  obtain ⟨h101, H⟩ := ck H
  refine r_ia (ix := 2) T S rfl rfl rfl rfl tu48 ts3 h101.1 h101.2 rfl fun _ T => r_ldE (ix := 2) (i := x21) (off := 0) (f := (Value.int .i64)) T S rfl ti3 rfl (0 : Int) _ rfl rfl (Fld.all _) h101.1 h101.2 id rfl fun _ T => v2 T rfl rfl fun T => ?_
  rcases ifE H with ⟨h102, H⟩ | ⟨h102, H⟩
  ·refine cdT T rfl h102 (sk (sq (bq (sq (rg (v3 T rfl rfl rfl fun T => ?_))))))
   obtain ⟨h135, H⟩ := ck H
   refine r_ia (ix := 0) T S rfl rfl rfl rfl tu22 ts36 h135.1 h135.2 rfl fun _ T => r_ldEA (ix := 0) (i := x100) (off := 0) T S rfl rfl ti36 ts36 daE rfl (Fld.all _) h135.1 h135.2 rfl fun _ _ S T => ?_
   obtain ⟨A136, k137, A138, k139, hv_, S_⟩ := op_aE S
   subst hv_
   replace S := S_
   obtain ⟨x141, h140, H⟩ := bd H
   refine rc T Try.call71 rfl rfl (r4_laid.ok _ _ z x97 (gi daE x1 x100) (S.sel (is := [7, 0, 0]) rfl) _ h140) ?_
   rintro _ _ ⟨A142, k143, rfl, S⟩
   refine ⟨_, rfl, fun _ T => ?_⟩
   replace S := S.join
   refine v1 T rfl fun T => sq (rg (v2 T rfl rfl fun T => ?_))
   obtain ⟨h146, H⟩ := ck H
   refine r_app (ix := 8) (iy := 0) (xs := x94) (ys := x141) T S rfl rfl rfl rfl (by decide) sty24 tu24 (by decide) h146 rfl fun _ _ A144 k145 S T => ?_
   refine v1 T rfl fun T => rg (v2 T rfl rfl fun T => r_ia (ix := 4) T S rfl rfl rfl rfl tu22 ts36 h135.1 h135.2 rfl fun _ T => r_faE T rfl tu36 rfl ts24 rfl fun _ T => r_ldR (ix := 4) (i := x100) (off := 0) T S rfl ti24 rfl daE _ rfl rfl fld_aE_Key h135.1 h135.2 rfl rfl fun _ _ S T => ?_)
   obtain ⟨A147, k148, hv_, S_⟩ := S.ofVal
   subst hv_
   replace S := S_
   refine v1 T rfl fun T => Gets.inBlock (rg (v3 T rfl rfl rfl fun T => Gets.inLoop ?_))
   exact ih A144 (x94 ++ x141) k145 A147 ((gi daE x1 x100).Key) k148 (wr .i64 (x100 + 1)) _ _ (T.sb rfl) (S.only [5, 5, 5, 5, 5, 0] rfl) H
  ·refine cdF T rfl h102 (Gets.exit rfl (sq (rg (v1 T rfl fun T => rn T rfl tu24 rfl fun _ T => v1 T rfl fun T => sq (rg (v2 T rfl rfl fun T => ?_))))))
   obtain ⟨x104, h103, H⟩ := bd H
   refine rc T Try.call72 rfl rfl (r4_put.ok _ _ z x14 68 x94 (S.sel (is := [1, 3]) rfl) _ h103) ?_
   rintro _ _ ⟨A105, k106, rfl, S⟩
   refine ⟨_, rfl, fun _ T => ?_⟩
   replace S := S.join
   refine v1 T rfl fun T => sq (rg (v1 T rfl fun T => r_conv T rfl tu3 tu34 rfl fun _ T => ?_))
   obtain ⟨x108, h107, H⟩ := bd H
   refine rc T tc70 rfl rfl (r1_Number.ok _ _ z (wr .u64 (x14.length : Int)) (S.sel (is := []) rfl) _ h107) ?_
   rintro _ _ ⟨A109, k110, rfl, S⟩
   refine ⟨_, rfl, fun _ T => ?_⟩
   replace S := S.join
   refine v1 T rfl fun T => sq (rg (v2 T rfl rfl fun T => ?_))
   obtain ⟨h113, H⟩ := ck H
   refine r_app (ix := 5) (iy := 0) (xs := x17) (ys := x108) T S rfl rfl rfl rfl (by decide) sty24 tu24 (by decide) h113 rfl fun _ _ A111 k112 S T => ?_
   refine v1 T rfl fun T => sq (rg (v1 T rfl fun T => rn T rfl tu24 rfl fun _ T => v2 T rfl rfl fun T => r_conv T rfl tu3 tu34 rfl fun _ T => ?_))
   obtain ⟨x115, h114, H⟩ := bd H
   refine rc T tc70 rfl rfl (r1_Number.ok _ _ z (wr .u64 (wr .i64 ((x104.length : Int) - (x14.length : Int)))) (S.sel (is := []) rfl) _ h114) ?_
   rintro _ _ ⟨A116, k117, rfl, S⟩
   refine ⟨_, rfl, fun _ T => ?_⟩
   replace S := S.join
   refine v1 T rfl fun T => sq (rg (v2 T rfl rfl fun T => ?_))
   obtain ⟨h120, H⟩ := ck H
   refine r_app (ix := 6) (iy := 0) (xs := (x17 ++ x108)) (ys := x115) T S rfl rfl rfl rfl (by decide) sty24 tu24 (by decide) h120 rfl fun _ _ A118 k119 S T => ?_
   refine v1 T rfl fun T => sq (rg (v2 T rfl rfl fun T => r_ia (ix := 5) T S rfl rfl rfl rfl tu48 ts3 h101.1 h101.2 rfl fun _ T => r_ldE (ix := 5) (i := x21) (off := 0) (f := (Value.int .i64)) T S rfl ti3 rfl (0 : Int) _ rfl rfl (Fld.all _) h101.1 h101.2 id rfl fun _ T => r_conv T rfl tu3 tu34 rfl fun _ T => ?_))
   obtain ⟨x122, h121, H⟩ := bd H
   refine rc T tc70 rfl rfl (r1_Number.ok _ _ z (wr .u64 (gi (0 : Int) x7 x21)) (S.sel (is := []) rfl) _ h121) ?_
   rintro _ _ ⟨A123, k124, rfl, S⟩
   refine ⟨_, rfl, fun _ T => ?_⟩
   replace S := S.join
   refine v1 T rfl fun T => sq (rg (v2 T rfl rfl fun T => ?_))
   obtain ⟨h127, H⟩ := ck H
   refine r_app (ix := 7) (iy := 0) (xs := ((x17 ++ x108) ++ x115)) (ys := x122) T S rfl rfl rfl rfl (by decide) sty24 tu24 (by decide) h127 rfl fun _ _ A125 k126 S T => ?_
   refine v1 T rfl fun T => sq (rg (v1 T rfl fun T => ?_))
   obtain ⟨x129, h128, H⟩ := bd H
   refine rc T Try.call73 rfl rfl (r1_Text.ok _ _ z x97 (S.sel (is := [8]) rfl) _ h128) ?_
   rintro _ _ ⟨A130, k131, rfl, S⟩
   refine ⟨_, rfl, fun _ T => ?_⟩
   replace S := S.join
   refine v3 T rfl rfl rfl fun T => v1 T rfl fun T => sq (rg (v2 T rfl rfl fun T => ?_))
   obtain ⟨h134, H⟩ := ck H
   refine r_app (ix := 9) (iy := 0) (xs := (((x17 ++ x108) ++ x115) ++ x122)) (ys := x129.1) T S rfl rfl rfl rfl (by decide) sty24 tu24 (by decide) h134 rfl fun _ _ A132 k133 S T => ?_
   refine v1 T rfl fun T => rg (v3 T rfl rfl rfl fun T => r_ia (ix := 8) T S rfl rfl rfl rfl tu48 ts3 h101.1 h101.2 rfl fun _ T => r_ldE (ix := 8) (i := x21) (off := 0) (f := (Value.int .i64)) T S rfl ti3 rfl (0 : Int) _ rfl rfl (Fld.all _) h101.1 h101.2 id rfl fun _ T => v2 T rfl rfl fun T => Gets.inBlock (rg (v3 T rfl rfl rfl fun T => Gets.inLoop ?_)))
   exact hq0 A105 x104 k106 A132 ((((x17 ++ x108) ++ x115) ++ x122) ++ x129.1) k133 (wr .i64 (x20 + (gi (0 : Int) x7 x21))) (wr .i64 (x21 + 1)) _ _ (T.sb rfl) (S.only [7, 5, 6, 6] rfl) H
theorem L0_ok (F : List Atom) (r : (List Int) × Bool) (z : Nat) (x1 : List aE) (A2 : OA) (k3 : Nat) (x4 x5 : Int) (A8 : OA) (x7 : (List Int)) (k9 m : Nat) : ∀ (A15 : OA) (x14 : List Int) (k16 : Nat) (A18 : OA) (x17 : List Int) (k19 : Nat) (x20 x21 : Int) (a : Act) (w : World), Tm 170 [(0, .slice A2 x1.length k3), (1, .int .i64 x4), (2, .int .i64 x5), (8, .slice A15 x14.length k16), (9, .slice A8 x7.length k9), (10, .slice A18 x17.length k19), (11, .int .i64 x20), (12, .int .i64 x21)] a → SL ([sl .ro kaE A2 k3 x1, sl .own ku8 A15 k16 x14, sl .own ki64 A8 k9 x7, sl .own ku8 A18 k19 x17] ++ F) w → L0 z x1 x4 x5 x7 m x14 x17 x20 x21 = some r → Gets Try.prog 44 ptL0 a w (R F x1 A2 k3 r) := by
 induction m with
 | zero => intro _ _ _ _ _ _ _ _ _ _ _ _ H; cases H
 | succ m ih =>
  intro A15 x14 k16 A18 x17 k19 x20 x21 a w T S H
  refine sq (sq (rg (v2 T rfl rfl fun T => rn T rfl tu48 rfl fun _ T => v1 T rfl fun T => ?_)))
  rcases ifE H with ⟨h22, H⟩ | ⟨h22, H⟩
  ·refine cdT T rfl h22 (sk (sq (bq (sq (rg (v1 T rfl fun T => sq (rg (v1 T rfl fun T => sq (sq (rg (v2 T rfl rfl fun T => bq (Gets.loop ?_))))))))))))
   replace S := S.nil ku8 .own
   replace S := S.nil ku8 .ro
   exact L1_ok F r z x1 A2 k3 x4 x5 A15 x14 k16 A8 x7 k9 A18 x17 k19 x20 x21 (L0 z x1 x4 x5 x7 m) ih z none [] 0 none [] 0 x20 _ _ (T.sb rfl) (S.only [2, 2, 2, 2, 1, 0] rfl) H
  ·refine cdF T rfl h22 (Gets.exit rfl (sq (sq (rg (v1 T rfl fun T => rn T rfl tu24 rfl fun _ T => v1 T rfl fun T => ?_)))))
   rcases ifE H with ⟨h23, H⟩ | ⟨h23, H⟩
   ·refine cdT T rfl h23 (sq (rg (v2 T rfl rfl fun T => ?_)))
    replace S := S.nil ku8 .own
    obtain rfl := sj H
    exact rtn T Try.func44 rfl rfl ⟨none, 0, rfl, (S.only [0, 0] rfl)⟩
   ·refine cdF T rfl h23 (sk (sq (rg (v1 T rfl fun T => rn T rfl tu24 rfl fun _ T => r_conv T rfl tu3 tu34 rfl fun _ T => v1 T rfl fun T => sq (rg (v1 T rfl fun T => ?_))))))
    replace S := S.dup (i := 0) rfl
    obtain ⟨x25, h24, H⟩ := bd H
    refine rc T Try.call47 rfl rfl (r4_keys.ok _ _ z x1 (S.sel (is := [0]) rfl) _ h24) ?_
    rintro _ _ ⟨A26, k27, rfl, S⟩
    refine ⟨_, rfl, fun _ T => ?_⟩
    replace S := S.join.only [0, 1, 1, 1, 1] rfl
    refine v1 T rfl fun T => ?_
    obtain ⟨x29, h28, H⟩ := bd H
    refine rc T Try.call46 rfl rfl (r3_Make.ok _ _ z x25 x5 (S.sel (is := [0]) rfl) _ h28) ?_
    rintro _ _ ⟨A30, k31, rfl, S⟩
    refine ⟨_, rfl, fun _ T => ?_⟩
    replace S := S.join
    refine v3 T rfl rfl rfl fun T => v2 T rfl rfl fun T => sq (rg (v2 T rfl rfl fun T => ?_))
    obtain ⟨x33, h32, H⟩ := bd H
    refine rc T Try.call72 rfl rfl (r4_put.ok _ _ z x14 70 x29.1 (S.sel (is := [3, 0]) rfl) _ h32) ?_
    rintro _ _ ⟨A34, k35, rfl, S⟩
    refine ⟨_, rfl, fun _ T => ?_⟩
    replace S := S.join
    refine v1 T rfl fun T => sq (rg (v1 T rfl fun T => rn T rfl tu24 rfl fun _ T => r_conv T rfl tu3 tu34 rfl fun _ T => v1 T rfl fun T => sq (rg (v2 T rfl rfl fun T => ?_))))
    obtain ⟨x37, h36, H⟩ := bd H
    refine rc T Try.call72 rfl rfl (r4_put.ok _ _ z x33 73 x17 (S.sel (is := [0, 4]) rfl) _ h36) ?_
    rintro _ _ ⟨A38, k39, rfl, S⟩
    refine ⟨_, rfl, fun _ T => ?_⟩
    replace S := S.join
    refine v1 T rfl fun T => sq (rg (v1 T rfl fun T => ?_))
    obtain ⟨x41, h40, H⟩ := bd H
    refine rc T tc74 rfl rfl (r4_eight.ok _ _ z (wr .u64 (x14.length : Int)) (S.sel (is := []) rfl) _ h40) ?_
    rintro _ _ ⟨A42, k43, rfl, S⟩
    refine ⟨_, rfl, fun _ T => ?_⟩
    replace S := S.join
    refine v1 T rfl fun T => sq (rg (v1 T rfl fun T => ?_))
    obtain ⟨x45, h44, H⟩ := bd H
    refine rc T tc74 rfl rfl (r4_eight.ok _ _ z (wr .u64 (x33.length : Int)) (S.sel (is := []) rfl) _ h44) ?_
    rintro _ _ ⟨A46, k47, rfl, S⟩
    refine ⟨_, rfl, fun _ T => ?_⟩
    replace S := S.join
    refine v1 T rfl fun T => sq (rg (v2 T rfl rfl fun T => ?_))
    obtain ⟨h50, H⟩ := ck H
    refine r_app (ix := 1) (iy := 0) (xs := x41) (ys := x45) T S rfl rfl rfl rfl (by decide) sty24 tu24 (by decide) h50 rfl fun _ _ A48 k49 S T => ?_
    refine v1 T rfl fun T => sq (rg (v1 T rfl fun T => rn T rfl tu22 rfl fun _ T => r_conv T rfl tu3 tu34 rfl fun _ T => ?_))
    obtain ⟨x52, h51, H⟩ := bd H
    refine rc T tc74 rfl rfl (r4_eight.ok _ _ z (wr .u64 (x1.length : Int)) (S.sel (is := []) rfl) _ h51) ?_
    rintro _ _ ⟨A53, k54, rfl, S⟩
    refine ⟨_, rfl, fun _ T => ?_⟩
    replace S := S.join
    refine v1 T rfl fun T => sq (rg (v2 T rfl rfl fun T => ?_))
    obtain ⟨h57, H⟩ := ck H
    refine r_app (ix := 2) (iy := 0) (xs := (x41 ++ x45)) (ys := x52) T S rfl rfl rfl rfl (by decide) sty24 tu24 (by decide) h57 rfl fun _ _ A55 k56 S T => ?_
    refine v1 T rfl fun T => sq (rg (v1 T rfl fun T => r_conv T rfl tu3 tu34 rfl fun _ T => ?_))
    obtain ⟨x59, h58, H⟩ := bd H
    refine rc T tc74 rfl rfl (r4_eight.ok _ _ z (wr .u64 x4) (S.sel (is := []) rfl) _ h58) ?_
    rintro _ _ ⟨A60, k61, rfl, S⟩
    refine ⟨_, rfl, fun _ T => ?_⟩
    replace S := S.join
    refine v1 T rfl fun T => sq (rg (v2 T rfl rfl fun T => ?_))
    have h62 := S.len (i := 0) rfl
    obtain ⟨h63, H⟩ := ck H
    replace S := S.fixL (i := 0) rfl rfl
    refine r_slR (ix := 0) (xs := x59) T S rfl rfl (fun h => by cases h) rfl rfl rfl (by decide) h63 (Int.le_refl _) (by omega) (by omega) tu24 ts5 rfl fun _ A64 S T => ?_
    obtain ⟨h67, H⟩ := ck H
    refine r_app (ix := 4) (iy := 0) (xs := ((x41 ++ x45) ++ x52)) (ys := (cut x59 (Int.toNat 4) (Int.toNat (x59.length : Int)))) T S rfl rfl rfl rfl (by decide) sty24 tu24 (by decide) h67 rfl fun _ _ A65 k66 S T => ?_
    refine v1 T rfl fun T => sq (rg (v1 T rfl fun T => r_conv T rfl tu3 tu34 rfl fun _ T => ?_))
    obtain ⟨x69, h68, H⟩ := bd H
    refine rc T tc74 rfl rfl (r4_eight.ok _ _ z (wr .u64 x5) (S.sel (is := []) rfl) _ h68) ?_
    rintro _ _ ⟨A70, k71, rfl, S⟩
    refine ⟨_, rfl, fun _ T => ?_⟩
    replace S := S.join
    refine v1 T rfl fun T => sq (rg (v2 T rfl rfl fun T => ?_))
    have h72 := S.len (i := 0) rfl
    obtain ⟨h73, H⟩ := ck H
    replace S := S.fixL (i := 0) rfl rfl
    refine r_slR (ix := 0) (xs := x69) T S rfl rfl (fun h => by cases h) rfl rfl rfl (by decide) h73 (Int.le_refl _) (by omega) (by omega) tu24 ts5 rfl fun _ A74 S T => ?_
    obtain ⟨h77, H⟩ := ck H
    refine r_app (ix := 6) (iy := 0) (xs := (((x41 ++ x45) ++ x52) ++ (cut x59 (Int.toNat 4) (Int.toNat (x59.length : Int))))) (ys := (cut x69 (Int.toNat 4) (Int.toNat (x69.length : Int)))) T S rfl rfl rfl rfl (by decide) sty24 tu24 (by decide) h77 rfl fun _ _ A75 k76 S T => ?_
    refine v1 T rfl fun T => sq (rg (v1 T rfl fun T => ?_))
    replace S := SL.val (κ := ku8) (x := 67) (cs := [.int .u8 67]) (fun _ => rfl) S
    replace S := SL.val (κ := ku8) (x := 79) (cs := [.int .u8 79]) (fun _ => rfl) S
    replace S := SL.val (κ := ku8) (x := 82) (cs := [.int .u8 82]) (fun _ => rfl) S
    replace S := SL.val (κ := ku8) (x := 77) (cs := [.int .u8 77]) (fun _ => rfl) S
    refine r_bsl (κ := ku8) (xs := [67, 79, 82, 77]) (vs := [.int .u8 67, .int .u8 79, .int .u8 82, .int .u8 77]) T S sty24 rfl ⟨_, _, rfl, ⟨3, rfl⟩, ⟨_, _, rfl, ⟨2, rfl⟩, ⟨_, _, rfl, ⟨1, rfl⟩, ⟨_, _, rfl, ⟨0, rfl⟩, rfl⟩⟩⟩⟩ rfl (by decide) rfl fun _ _ b78 S T => ?_
    replace S := S.only [0, 4, 4, 4, 4, 4, 4, 4, 4, 4, 4, 4, 4, 4] rfl
    obtain ⟨h81, H⟩ := ck H
    refine r_app (ix := 7) (iy := 0) (xs := ((((x41 ++ x45) ++ x52) ++ (cut x59 (Int.toNat 4) (Int.toNat (x59.length : Int)))) ++ (cut x69 (Int.toNat 4) (Int.toNat (x69.length : Int))))) (ys := [67, 79, 82, 77]) T S rfl rfl rfl rfl (by decide) sty24 tu24 (by decide) h81 rfl fun _ _ A79 k80 S T => ?_
    refine v1 T rfl fun T => sq (rg (v1 T rfl fun T => ?_))
    obtain ⟨x83, h82, H⟩ := bd H
    refine rc T Try.call75 rfl rfl (r1_Sum.ok _ _ z (((((x41 ++ x45) ++ x52) ++ (cut x59 (Int.toNat 4) (Int.toNat (x59.length : Int)))) ++ (cut x69 (Int.toNat 4) (Int.toNat (x69.length : Int)))) ++ [67, 79, 82, 77]) (S.sel (is := [7]) rfl) _ h82) ?_
    rintro _ _ ⟨rfl, S⟩
    refine ⟨_, rfl, fun _ T => ?_⟩
    replace S := S.join
    refine v1 T rfl fun T => sq (rg (v1 T rfl fun T => ?_))
    obtain ⟨x85, h84, H⟩ := bd H
    refine rc T Try.call76 rfl rfl (r1_Four.ok _ _ x83 (S.sel (is := []) rfl) _ h84) ?_
    rintro _ _ ⟨A86, k87, rfl, S⟩
    refine ⟨_, rfl, fun _ T => ?_⟩
    replace S := S.join
    refine v1 T rfl fun T => sq (rg (v2 T rfl rfl fun T => ?_))
    obtain ⟨h90, H⟩ := ck H
    refine r_app (ix := 1) (iy := 0) (xs := (((((x41 ++ x45) ++ x52) ++ (cut x59 (Int.toNat 4) (Int.toNat (x59.length : Int)))) ++ (cut x69 (Int.toNat 4) (Int.toNat (x69.length : Int)))) ++ [67, 79, 82, 77])) (ys := x85) T S rfl rfl rfl rfl (by decide) sty24 tu24 (by decide) h90 rfl fun _ _ A88 k89 S T => ?_
    refine v1 T rfl fun T => sq (rg (v2 T rfl rfl fun T => ?_))
    obtain ⟨h93, H⟩ := ck H
    refine r_app (ix := 9) (iy := 1) (xs := x37) (ys := ((((((x41 ++ x45) ++ x52) ++ (cut x59 (Int.toNat 4) (Int.toNat (x59.length : Int)))) ++ (cut x69 (Int.toNat 4) (Int.toNat (x69.length : Int)))) ++ [67, 79, 82, 77]) ++ x85)) T S rfl rfl rfl rfl (by decide) sty24 tu24 (by decide) h93 rfl fun _ _ A91 k92 S T => ?_
    refine v2 T rfl rfl fun T => ?_
    obtain rfl := sj H
    exact rtn T Try.func44 rfl rfl ⟨A91, k92, rfl, (S.only [9, 12] rfl)⟩
theorem ok (F : List Atom) (w : World) (z : Nat) (x1 : List aE) (x4 x5 : Int) {A2 : OA} {k3 : Nat} (S : SL ([sl .ro kaE A2 k3 x1] ++ F) w) (r : (List Int) × Bool) (H : f z x1 x4 x5 = some r) : Calls Try.prog 44 #[.slice A2 x1.length k3, .int .i64 x4, .int .i64 x5] w (R F x1 A2 k3 r) := by
 refine enter (vs := [.slice A2 x1.length k3, .int .i64 x4, .int .i64 x5]) Try.func44 rfl Try.ntmps44 (nle rfl) fun a T => ?_
 refine sq (rg (v2 T rfl rfl fun T => sq (rg (v1 T rfl fun T => sq (rg (v2 T rfl rfl fun T => ?_))))))
 replace S := S.dup (i := 0) rfl
 obtain ⟨x7, h6, H⟩ := bd H
 refine rc T Try.call48 rfl rfl (r4_Cuts.ok _ _ z x1 x4 (S.sel (is := [0]) rfl) _ h6) ?_
 rintro _ _ ⟨A8, k9, rfl, S⟩
 refine ⟨_, rfl, fun _ T => ?_⟩
 replace S := S.join.only [0, 1] rfl
 refine v1 T rfl fun T => sq (rg (v1 T rfl fun T => rn T rfl tu48 rfl fun _ T => r_conv T rfl tu3 tu34 rfl fun _ T => ?_))
 obtain ⟨x11, h10, H⟩ := bd H
 refine rc T tc70 rfl rfl (r1_Number.ok _ _ z (wr .u64 (x7.length : Int)) (S.sel (is := []) rfl) _ h10) ?_
 rintro _ _ ⟨A12, k13, rfl, S⟩
 refine ⟨_, rfl, fun _ T => ?_⟩
 replace S := S.join
 refine v1 T rfl fun T => sq (rg (v1 T rfl fun T => sq (sq (rg (v1 T rfl fun T => bq (Gets.loop ?_))))))
 replace S := S.nil ku8 .own
 exact L0_ok F r z x1 A2 k3 x4 x5 A8 x7 k9 z none [] 0 A12 x11 k13 0 0 _ _ (T.sb rfl) (S.only [3, 0, 1, 0] rfl) H
end r4_bytes
namespace r4_Build
noncomputable def c0 : Code := match Try.f13.body with | some c => c | none => .skip
def R (F : List Atom) (x1 : List aE) (A2 : OA) (k3 : Nat) (r : (List Int) × Int) : Ending → World → Prop := fun e w' => ∃ (A35 : OA), ∃ (k36 : Nat), e = .returned (.tuple #[.slice A35 r.1.length k36, .int .i64 r.2]) ∧ SL ([sl .own ku8 A35 k36 r.1, sl .ro kaE A2 k3 x1] ++ F) w'
def J3 (z : Nat) : Option ((List Int) × Int) := some (([] : List Int), 43)
def J4 (z : Nat) (q2 : Int → Int → Option ((List Int) × Int)) (x1 : List aE) (x4 x5 x12 x13 : Int) : Option ((List Int) × Int) := Ck (0 ≤ x13 ∧ x13 < (x1.length : Int)) (q2 (mn (wr .i64 (x12 + (((gi daE x1 x13).Value).length : Int))) 16777216) (wr .i64 (x13 + 1)))
def L2 (z : Nat) (x1 : List aE) (x4 x5 : Int) : Nat → Int → Int → Option ((List Int) × Int)
 | 0, _, _ => none
 | m + 1, x12, x13 => If (decide (x13 < (x1.length : Int))) (Ck (0 ≤ x13 ∧ x13 < (x1.length : Int)) (Bd (r4_May.f (gi daE x1 x13)) fun x28 => If (!x28) (some (([] : List Int), 41)) (If (decide (x13 > 0)) (Ck (0 ≤ wr .i64 (x13 - 1) ∧ wr .i64 (x13 - 1) < (x1.length : Int)) (Bd (r4_Compare.f z (gi daE x1 (wr .i64 (x13 - 1))) (gi daE x1 x13)) fun x2542 => If (decide (x2542 ≥ 0)) (some (([] : List Int), 42)) (J4 z (L2 z x1 x4 x5 m) x1 x4 x5 x12 x13))) (J4 z (L2 z x1 x4 x5 m) x1 x4 x5 x12 x13)))) (If (decide (x12 > 4194304)) (some (([] : List Int), 43)) (Bd (r4_bytes.f z x1 x4 x5) fun x17 => If (!x17.2) (J3 z) (If (decide ((x17.1.length : Int) > 4194304)) (J3 z) (some (x17.1, 0)))))
def J1 (z : Nat) : Option ((List Int) × Int) := some (([] : List Int), 40)
def J0 (z : Nat) : Option ((List Int) × Int) := some (([] : List Int), 1)
def f (z : Nat) (x1 : List aE) (x4 x5 : Int) : Option ((List Int) × Int) := If (decide (x4 < 64)) (J0 z) (If (decide (x4 > 65536)) (J0 z) (If (decide (x5 < 1)) (J0 z) (If (decide (x5 > 30)) (J0 z) (If (decide ((x1.length : Int) < 1)) (J1 z) (If (decide ((x1.length : Int) > 65536)) (J1 z) (L2 z x1 x4 x5 z 0 0))))))
noncomputable def ptJ3 : List Item := [.code (cL (cT (cR (cL (cr 7 c0))))), .code (cR (cT (cR (cL (cr 7 c0))))), .code (cr 8 c0)]
noncomputable def ptJ4 : List Item := [.code (cr 3 (cB (cL (cR (cB (cB (cR (cL (cr 4 c0))))))))), .inBlock 1, .code (cR (cR (cB (cB (cR (cL (cr 4 c0))))))), .inLoop (cB (cB (cR (cL (cr 4 c0))))), .inBlock 0, .code (cr 5 c0)]
noncomputable def ptL2 : List Item := [.code (cB (cB (cR (cL (cr 4 c0))))), .inLoop (cB (cB (cR (cL (cr 4 c0))))), .inBlock 0, .code (cr 5 c0)]
noncomputable def ptJ1 : List Item := [.code (cL (cT (cR (cL (cR (cR c0)))))), .code (cR (cT (cR (cL (cR (cR c0)))))), .code (cr 3 c0)]
noncomputable def ptJ0 : List Item := [.code (cL (cT (cR (cL (cR c0))))), .code (cR (cT (cR (cL (cR c0))))), .code (cR (cR c0))]
theorem J3_ok (F : List Atom) (r : (List Int) × Int) (z : Nat) (x1 : List aE) (A2 : OA) (k3 : Nat) (x4 x5 : Int) (a : Act) (w : World) (T : Tm 89 [] a) (S : SL ([sl .ro kaE A2 k3 x1] ++ F) w) (H : J3 z = some r) : Gets Try.prog 13 ptJ3 a w (R F x1 A2 k3 r) := by
 refine rg (v2 T rfl rfl fun T => ?_)
 replace S := S.nil ku8 .own
 obtain rfl := sj H
 exact rtn T tf13 rfl rfl ⟨none, 0, rfl, (S.only [0, 0] rfl)⟩
theorem J4_ok (F : List Atom) (r : (List Int) × Int) (z : Nat) (x1 : List aE) (A2 : OA) (k3 : Nat) (x4 x5 x12 x13 : Int) (q2 : Int → Int → Option ((List Int) × Int)) (hq2 : ∀ (x12 x13 : Int) (a : Act) (w : World), Tm 89 [(0, .slice A2 x1.length k3), (1, .int .i64 x4), (2, .int .i64 x5), (8, .int .i64 x12), (9, .int .i64 x13)] a → SL ([sl .ro kaE A2 k3 x1] ++ F) w → q2 x12 x13 = some r → Gets Try.prog 13 ptL2 a w (R F x1 A2 k3 r)) (a : Act) (w : World) (T : Tm 89 [(0, .slice A2 x1.length k3), (1, .int .i64 x4), (2, .int .i64 x5), (8, .int .i64 x12), (9, .int .i64 x13)] a) (S : SL ([sl .ro kaE A2 k3 x1] ++ F) w) (H : J4 z q2 x1 x4 x5 x12 x13 = some r) : Gets Try.prog 13 ptJ4 a w (R F x1 A2 k3 r) := by
 refine rg (v3 T rfl rfl rfl fun T => ?_)
 obtain ⟨h32, H⟩ := ck H
 refine r_ia (ix := 0) T S rfl rfl rfl rfl tu22 ts36 h32.1 h32.2 rfl fun _ T => r_faE T rfl tu36 rfl ts24 rfl fun _ T => r_ldR (ix := 0) (i := x13) (off := 3) T S rfl ti24 rfl daE _ rfl rfl fld_aE_Value h32.1 h32.2 rfl rfl fun _ _ S T => ?_
 obtain ⟨A33, k34, hv_, S_⟩ := S.ofVal
 subst hv_
 replace S := S_
 refine rn T rfl tu24 rfl fun _ T => v1 T rfl fun T => r_min T rfl rfl rfl fun _ T => v1 T rfl fun T => Gets.inBlock (rg (v3 T rfl rfl rfl fun T => Gets.inLoop ?_))
 exact hq2 (mn (wr .i64 (x12 + (((gi daE x1 x13).Value).length : Int))) 16777216) (wr .i64 (x13 + 1)) _ _ (T.sb rfl) (S.only [1] rfl) H
theorem L2_ok (F : List Atom) (r : (List Int) × Int) (z : Nat) (x1 : List aE) (A2 : OA) (k3 : Nat) (x4 x5 : Int) (m : Nat) : ∀ (x12 x13 : Int) (a : Act) (w : World), Tm 89 [(0, .slice A2 x1.length k3), (1, .int .i64 x4), (2, .int .i64 x5), (8, .int .i64 x12), (9, .int .i64 x13)] a → SL ([sl .ro kaE A2 k3 x1] ++ F) w → L2 z x1 x4 x5 m x12 x13 = some r → Gets Try.prog 13 ptL2 a w (R F x1 A2 k3 r) := by
 induction m with
 | zero => intro _ _ _ _ _ _ H; cases H
 | succ m ih =>
  intro x12 x13 a w T S H
  refine sq (sq (rg (v2 T rfl rfl fun T => rn T rfl tu22 rfl fun _ T => v1 T rfl fun T => ?_)))
  rcases ifE H with ⟨h14, H⟩ | ⟨h14, H⟩
  ·refine cdT T rfl h14 (sk (sq (bq (sq (rg (v2 T rfl rfl fun T => ?_))))))
   obtain ⟨h22, H⟩ := ck H
   refine r_ia (ix := 0) T S rfl rfl rfl rfl tu22 ts36 h22.1 h22.2 rfl fun _ T => r_ldEA (ix := 0) (i := x13) (off := 0) T S rfl rfl ti36 ts36 daE rfl (Fld.all _) h22.1 h22.2 rfl fun _ _ S T => ?_
   obtain ⟨A23, k24, A25, k26, hv_, S_⟩ := op_aE S
   subst hv_
   replace S := S_
   obtain ⟨x28, h27, H⟩ := bd H
   refine rc T Try.call42 rfl rfl (r4_May.ok _ _ (gi daE x1 x13) (S.sel (is := [0, 0]) rfl) _ h27) ?_
   rintro _ _ ⟨rfl, S⟩
   refine ⟨_, rfl, fun _ T => ?_⟩
   replace S := S.join
   refine v1 T rfl fun T => sq (sq (rg (v2 T rfl rfl fun T => ?_)))
   rcases ifE H with ⟨h29, H⟩ | ⟨h29, H⟩
   ·refine cdT T rfl h29 (sq (rg (v2 T rfl rfl fun T => ?_)))
    replace S := S.nil ku8 .own
    obtain rfl := sj H
    exact rtn T tf13 rfl rfl ⟨none, 0, rfl, (S.only [0, 2] rfl)⟩
   ·refine cdF T rfl h29 (sk (sq (sq (rg (v2 T rfl rfl fun T => ?_)))))
    rcases ifE H with ⟨h30, H⟩ | ⟨h30, H⟩
    ·refine cdT T rfl h30 (sq ?_)
     obtain ⟨h2181, H⟩ := ck H
     obtain ⟨_, S⟩ := S.peek (ix := 2) (off := 0) (i := wr .i64 (x13 - 1)) rfl daE (Fld.all _) h2181.1 h2181.2
     obtain ⟨A2241, k2242, A2243, k2244, hv_, S_⟩ := op_aE (l := _ :: _) S
     subst hv_
     replace S := S_
     obtain ⟨_, S⟩ := S.peek (ix := 5) (off := 0) (i := x13) rfl daE (Fld.all _) h22.1 h22.2
     obtain ⟨A2481, k2482, A2483, k2484, hv_, S_⟩ := op_aE (l := _ :: _) S
     subst hv_
     replace S := S_
     refine Gets.drawn (l := [sl .ro ku8 A2481 k2482 ((gi daE x1 x13).Key), sl .ro ku8 A2483 k2484 ((gi daE x1 x13).Value), cl A2 (Int.toNat x13 * 4) [.slice A2481 (((gi daE x1 x13).Key).length) k2482, .int .u64 ((gi daE x1 x13).Seq), .bool ((gi daE x1 x13).Del), .slice A2483 (((gi daE x1 x13).Value).length) k2484], sl .ro ku8 A2241 k2242 ((gi daE x1 (wr .i64 (x13 - 1))).Key), sl .ro ku8 A2243 k2244 ((gi daE x1 (wr .i64 (x13 - 1))).Value), cl A2 (Int.toNat (wr .i64 (x13 - 1)) * 4) [.slice A2241 (((gi daE x1 (wr .i64 (x13 - 1))).Key).length) k2242, .int .u64 ((gi daE x1 (wr .i64 (x13 - 1))).Seq), .bool ((gi daE x1 (wr .i64 (x13 - 1))).Del), .slice A2243 (((gi daE x1 (wr .i64 (x13 - 1))).Value).length) k2244], sl .ro kaE A2 k3 x1]) (V := [some (.slice A2 x1.length k3, true), some (.int .i64 x13, true), some (.int .i64 (wr .i64 (x13 - 1)), true), some (.pointer (some (eA A2 (Int.toNat (wr .i64 (x13 - 1)) * 4))), true), some (.agg #[.slice A2241 (((gi daE x1 (wr .i64 (x13 - 1))).Key).length) k2242, .int .u64 ((gi daE x1 (wr .i64 (x13 - 1))).Seq), .bool ((gi daE x1 (wr .i64 (x13 - 1))).Del), .slice A2243 (((gi daE x1 (wr .i64 (x13 - 1))).Value).length) k2244], true), some (.slice A2 x1.length k3, true), some (.int .i64 x13, true), some (.pointer (some (eA A2 (Int.toNat x13 * 4))), true), some (.agg #[.slice A2481 (((gi daE x1 x13).Key).length) k2482, .int .u64 ((gi daE x1 x13).Seq), .bool ((gi daE x1 x13).Del), .slice A2483 (((gi daE x1 x13).Value).length) k2484], true), none, none]) mixed T (S.only [0, 0, 0, 0, 0, 0, 2] rfl) rfl ?_
     refine stage (some 9) rfl rfl ⟨⟨_, _, rfl, (avl [0] rfl), fun _ _ _ T S => v1 T rfl fun T => ⟨rfl, T⟩⟩, ⟨_, _, rfl, (avl [9] rfl), fun _ _ _ T S => v1 T rfl fun T => ⟨rfl, T⟩⟩, ⟨_, _, rfl, (avl [52] rfl), fun _ _ _ T S => v1 T rfl fun T => ⟨rfl, T⟩⟩, ⟨_, _, rfl, (avl [51, 53] rfl), fun _ _ _ T S => r_ia (ix := 6) T S rfl rfl rfl rfl tu22 ts36 h2181.1 h2181.2 rfl fun _ T => ⟨rfl, T⟩⟩, ⟨_, _, rfl, (avl [54] rfl), fun _ _ _ T S => r_ldCA (ix := 5) (A := A2) T S rfl rfl rfl ti36 ts36 rfl fun _ T => ⟨rfl, T⟩⟩, ⟨_, _, rfl, (avl [0] rfl), fun _ _ _ T S => v1 T rfl fun T => ⟨rfl, T⟩⟩, ⟨_, _, rfl, (avl [9] rfl), fun _ _ _ T S => v1 T rfl fun T => ⟨rfl, T⟩⟩, ⟨_, _, rfl, (avl [56, 57] rfl), fun _ _ _ T S => r_ia (ix := 6) T S rfl rfl rfl rfl tu22 ts36 h22.1 h22.2 rfl fun _ T => ⟨rfl, T⟩⟩, ⟨_, _, rfl, (avl [58] rfl), fun _ _ _ T S => r_ldCA (ix := 2) (A := A2) T S rfl rfl rfl ti36 ts36 rfl fun _ T => ⟨rfl, T⟩⟩, trivial⟩ rfl (fun i hi => ?_) (fun h => by cases h)
     cases hi
     refine ⟨rfl, _, _, rfl, (avl [55, 59] rfl), fun u a w T S => ?_⟩
     obtain ⟨x2542, h2541, H⟩ := bd H
     refine rc T Try.call43 rfl rfl (r4_Compare.ok _ _ z (gi daE x1 (wr .i64 (x13 - 1))) (gi daE x1 x13) (S.sel (is := [3, 3, 0, 0]) rfl) _ h2541) ?_
     rintro _ _ ⟨rfl, S⟩
     refine ⟨_, rfl, fun _ T => ?_⟩
     replace S := S.join
     refine ⟨_, [some (.slice A2 x1.length k3, true), some (.int .i64 x13, true), some (.int .i64 (wr .i64 (x13 - 1)), true), some (.pointer (some (eA A2 (Int.toNat (wr .i64 (x13 - 1)) * 4))), true), some (.agg #[.slice A2241 (((gi daE x1 (wr .i64 (x13 - 1))).Key).length) k2242, .int .u64 ((gi daE x1 (wr .i64 (x13 - 1))).Seq), .bool ((gi daE x1 (wr .i64 (x13 - 1))).Del), .slice A2243 (((gi daE x1 (wr .i64 (x13 - 1))).Value).length) k2244], false), some (.slice A2 x1.length k3, true), some (.int .i64 x13, true), some (.pointer (some (eA A2 (Int.toNat x13 * 4))), true), some (.agg #[.slice A2481 (((gi daE x1 x13).Key).length) k2482, .int .u64 ((gi daE x1 x13).Seq), .bool ((gi daE x1 x13).Del), .slice A2483 (((gi daE x1 x13).Value).length) k2484], false), some (.int .i64 x2542, false), some (.int .i64 x2542, true)], [sl .ro ku8 A2241 k2242 ((gi daE x1 (wr .i64 (x13 - 1))).Key), sl .ro ku8 A2243 k2244 ((gi daE x1 (wr .i64 (x13 - 1))).Value), sl .ro ku8 A2481 k2482 ((gi daE x1 x13).Key), sl .ro ku8 A2483 k2484 ((gi daE x1 x13).Value), cl A2 (Int.toNat x13 * 4) [.slice A2481 (((gi daE x1 x13).Key).length) k2482, .int .u64 ((gi daE x1 x13).Seq), .bool ((gi daE x1 x13).Del), .slice A2483 (((gi daE x1 x13).Value).length) k2484], cl A2 (Int.toNat (wr .i64 (x13 - 1)) * 4) [.slice A2241 (((gi daE x1 (wr .i64 (x13 - 1))).Key).length) k2242, .int .u64 ((gi daE x1 (wr .i64 (x13 - 1))).Seq), .bool ((gi daE x1 (wr .i64 (x13 - 1))).Del), .slice A2243 (((gi daE x1 (wr .i64 (x13 - 1))).Value).length) k2244], sl .ro kaE A2 k3 x1], rfl, (by repeat first | exact kx0 | apply kxs | apply kxn), rfl, ?_, T, S⟩
     refine stage none rfl rfl ⟨⟨_, _, rfl, (avl [0] rfl), fun _ _ _ T S => v1 T rfl fun T => ⟨rfl, T⟩⟩, ⟨_, _, rfl, (avl [9] rfl), fun _ _ _ T S => v1 T rfl fun T => ⟨rfl, T⟩⟩, ⟨_, _, rfl, (avl [52] rfl), fun _ _ _ T S => v1 T rfl fun T => ⟨rfl, T⟩⟩, ⟨_, _, rfl, (avl [51, 53] rfl), fun _ _ _ T S => r_ia (ix := 6) T S rfl rfl rfl rfl tu22 ts36 h2181.1 h2181.2 rfl fun _ T => ⟨rfl, T⟩⟩, ⟨_, _, rfl, (avl [0] rfl), fun _ _ _ T S => v1 T rfl fun T => ⟨rfl, T⟩⟩, ⟨_, _, rfl, (avl [9] rfl), fun _ _ _ T S => v1 T rfl fun T => ⟨rfl, T⟩⟩, ⟨_, _, rfl, (avl [56, 57] rfl), fun _ _ _ T S => r_ia (ix := 6) T S rfl rfl rfl rfl tu22 ts36 h22.1 h22.2 rfl fun _ T => ⟨rfl, T⟩⟩, ⟨_, _, rfl, (avl [60] rfl), fun _ _ _ T S => v1 T rfl fun T => ⟨rfl, T⟩⟩, trivial⟩ rfl (fun i hi => by cases hi) (fun _ _ a w T hv hb S => ?_)
     replace T := T.sub (r := [(0, .slice A2 x1.length k3), (1, .int .i64 x4), (2, .int .i64 x5), (8, .int .i64 x12), (9, .int .i64 x13), (11, .int .i64 x2542)]) ⟨hb 0 _ rfl rfl, hb 1 _ rfl rfl, hb 2 _ rfl rfl, hb 8 _ rfl rfl, hb 9 _ rfl rfl, hv 10 _ 11 rfl rfl rfl, trivial⟩
     refine sq (rg (v2 T rfl rfl fun T => ?_))
     rcases ifE H with ⟨h31, H⟩ | ⟨h31, H⟩
     ·refine cdT T rfl h31 (sq (rg (v2 T rfl rfl fun T => ?_)))
      replace S := S.nil ku8 .own
      obtain rfl := sj H
      exact rtn T tf13 rfl rfl ⟨none, 0, rfl, (S.only [0, 6] rfl)⟩
     ·refine cdF T rfl h31 (sk ?_)
      exact J4_ok F r z x1 A2 k3 x4 x5 x12 x13 (L2 z x1 x4 x5 m) ih _ _ (T.sb rfl) (S.only [6] rfl) H
    ·refine cdF T rfl h30 (sk ?_)
     exact J4_ok F r z x1 A2 k3 x4 x5 x12 x13 (L2 z x1 x4 x5 m) ih _ _ (T.sb rfl) (S.only [2] rfl) H
  ·refine cdF T rfl h14 (Gets.exit rfl (sq (sq (rg (v2 T rfl rfl fun T => ?_)))))
   rcases ifE H with ⟨h15, H⟩ | ⟨h15, H⟩
   ·refine cdT T rfl h15 (sq (rg (v2 T rfl rfl fun T => ?_)))
    replace S := S.nil ku8 .own
    obtain rfl := sj H
    exact rtn T tf13 rfl rfl ⟨none, 0, rfl, (S.only [0, 0] rfl)⟩
   ·refine cdF T rfl h15 (sk (sq (rg (v3 T rfl rfl rfl fun T => ?_))))
    replace S := S.dup (i := 0) rfl
    obtain ⟨x17, h16, H⟩ := bd H
    refine rc T Try.call44 rfl rfl (r4_bytes.ok _ _ z x1 x4 x5 (S.sel (is := [0]) rfl) _ h16) ?_
    rintro _ _ ⟨A18, k19, rfl, S⟩
    refine ⟨_, rfl, fun _ T => ?_⟩
    replace S := S.join.only [0, 1] rfl
    refine v3 T rfl rfl rfl fun T => v2 T rfl rfl fun T => sq (sq (rg (v3 T rfl rfl rfl fun T => ?_)))
    rcases ifE H with ⟨h20, H⟩ | ⟨h20, H⟩
    ·refine gn T rfl h20 fun T => gn T rfl h20 fun T => gn T rfl h20 fun T => pT T rfl h20 rfl rfl fun _ T => cdT T rfl rfl (sq ?_)
     exact J3_ok F r z x1 A2 k3 x4 x5 _ _ (T.sub trivial) (S.only [1] rfl) H
    ·refine gy T rfl h20 (v1 T rfl fun T => gy T rfl h20 (rn T rfl tu24 rfl fun _ T => gy T rfl h20 (v1 T rfl fun T => pF T rfl h20 rfl rfl fun _ T => ?_)))
     rcases ifE H with ⟨h21, H⟩ | ⟨h21, H⟩
     ·refine cdT T rfl h21 (sq ?_)
      exact J3_ok F r z x1 A2 k3 x4 x5 _ _ (T.sub trivial) (S.only [1] rfl) H
     ·refine cdF T rfl h21 (sk (sq (rg (v3 T rfl rfl rfl fun T => ?_))))
      obtain rfl := sj H
      exact rtn T tf13 rfl rfl ⟨A18, k19, rfl, (S.only [0, 0] rfl)⟩
theorem J1_ok (F : List Atom) (r : (List Int) × Int) (z : Nat) (x1 : List aE) (A2 : OA) (k3 : Nat) (x4 x5 : Int) (a : Act) (w : World) (T : Tm 89 [] a) (S : SL ([sl .ro kaE A2 k3 x1] ++ F) w) (H : J1 z = some r) : Gets Try.prog 13 ptJ1 a w (R F x1 A2 k3 r) := by
 refine rg (v2 T rfl rfl fun T => ?_)
 replace S := S.nil ku8 .own
 obtain rfl := sj H
 exact rtn T tf13 rfl rfl ⟨none, 0, rfl, (S.only [0, 0] rfl)⟩
theorem J0_ok (F : List Atom) (r : (List Int) × Int) (z : Nat) (x1 : List aE) (A2 : OA) (k3 : Nat) (x4 x5 : Int) (a : Act) (w : World) (T : Tm 89 [] a) (S : SL ([sl .ro kaE A2 k3 x1] ++ F) w) (H : J0 z = some r) : Gets Try.prog 13 ptJ0 a w (R F x1 A2 k3 r) := by
 refine rg (v2 T rfl rfl fun T => ?_)
 replace S := S.nil ku8 .own
 obtain rfl := sj H
 exact rtn T tf13 rfl rfl ⟨none, 0, rfl, (S.only [0, 0] rfl)⟩
theorem ok (F : List Atom) (w : World) (z : Nat) (x1 : List aE) (x4 x5 : Int) {A2 : OA} {k3 : Nat} (S : SL ([sl .ro kaE A2 k3 x1] ++ F) w) (r : (List Int) × Int) (H : f z x1 x4 x5 = some r) : Calls Try.prog 13 #[.slice A2 x1.length k3, .int .i64 x4, .int .i64 x5] w (R F x1 A2 k3 r) := by
 refine enter (vs := [.slice A2 x1.length k3, .int .i64 x4, .int .i64 x5]) tf13 rfl Try.ntmps13 (nle rfl) fun a T => ?_
 refine sq (rg (v2 T rfl rfl fun T => sq (sq (rg (v3 T rfl rfl rfl fun T => ?_)))))
 rcases ifE H with ⟨h6, H⟩ | ⟨h6, H⟩
 ·refine gn T rfl h6 fun T => gn T rfl h6 fun T => pT T rfl h6 rfl rfl fun _ T => v1 T rfl fun T => gn T rfl rfl fun T => gn T rfl rfl fun T => pT T rfl rfl rfl rfl fun _ T => v1 T rfl fun T => gn T rfl rfl fun T => gn T rfl rfl fun T => pT T rfl rfl rfl rfl fun _ T => cdT T rfl rfl (sq ?_)
  exact J0_ok F r z x1 A2 k3 x4 x5 _ _ (T.sub trivial) (S.only [0] rfl) H
 ·refine gy T rfl h6 (v1 T rfl fun T => gy T rfl h6 (v1 T rfl fun T => pF T rfl h6 rfl rfl fun _ T => v1 T rfl fun T => ?_))
  rcases ifE H with ⟨h7, H⟩ | ⟨h7, H⟩
  ·refine gn T rfl h7 fun T => gn T rfl h7 fun T => pT T rfl h7 rfl rfl fun _ T => v1 T rfl fun T => gn T rfl rfl fun T => gn T rfl rfl fun T => pT T rfl rfl rfl rfl fun _ T => cdT T rfl rfl (sq ?_)
   exact J0_ok F r z x1 A2 k3 x4 x5 _ _ (T.sub trivial) (S.only [0] rfl) H
  ·refine gy T rfl h7 (v1 T rfl fun T => gy T rfl h7 (v1 T rfl fun T => pF T rfl h7 rfl rfl fun _ T => v1 T rfl fun T => ?_))
   rcases ifE H with ⟨h8, H⟩ | ⟨h8, H⟩
   ·refine gn T rfl h8 fun T => gn T rfl h8 fun T => pT T rfl h8 rfl rfl fun _ T => cdT T rfl rfl (sq ?_)
    exact J0_ok F r z x1 A2 k3 x4 x5 _ _ (T.sub trivial) (S.only [0] rfl) H
   ·refine gy T rfl h8 (v1 T rfl fun T => gy T rfl h8 (v1 T rfl fun T => pF T rfl h8 rfl rfl fun _ T => ?_))
    rcases ifE H with ⟨h9, H⟩ | ⟨h9, H⟩
    ·refine cdT T rfl h9 (sq ?_)
     exact J0_ok F r z x1 A2 k3 x4 x5 _ _ (T.sub trivial) (S.only [0] rfl) H
    ·refine cdF T rfl h9 (sk (sq (sq (rg (v1 T rfl fun T => rn T rfl tu22 rfl fun _ T => v2 T rfl rfl fun T => ?_)))))
     rcases ifE H with ⟨h10, H⟩ | ⟨h10, H⟩
     ·refine gn T rfl h10 fun T => gn T rfl h10 fun T => gn T rfl h10 fun T => pT T rfl h10 rfl rfl fun _ T => cdT T rfl rfl (sq ?_)
      exact J1_ok F r z x1 A2 k3 x4 x5 _ _ (T.sub trivial) (S.only [0] rfl) H
     ·refine gy T rfl h10 (v1 T rfl fun T => gy T rfl h10 (rn T rfl tu22 rfl fun _ T => gy T rfl h10 (v1 T rfl fun T => pF T rfl h10 rfl rfl fun _ T => ?_)))
      rcases ifE H with ⟨h11, H⟩ | ⟨h11, H⟩
      ·refine cdT T rfl h11 (sq ?_)
       exact J1_ok F r z x1 A2 k3 x4 x5 _ _ (T.sub trivial) (S.only [0] rfl) H
      ·refine cdF T rfl h11 (sk (sq (rg (v1 T rfl fun T => sq (sq (rg (v1 T rfl fun T => bq (Gets.loop ?_))))))))
       exact L2_ok F r z x1 A2 k3 x4 x5 z 0 0 _ _ (T.sb rfl) (S.only [0] rfl) H
end r4_Build
theorem drop_nil {α : Type} {xs : List α} {i : Nat} (h : xs.length ≤ i) : xs.drop i = [] := List.drop_eq_nil_of_le h
theorem refMay_f (e : aE) : r4_May.f e = some (decide (fitS e)) := by
 unfold r4_May.f r4_May.J0
 simp only [fitS]
 obtain ⟨K, Sq, D, V⟩ := e
 dsimp only
 by_cases h1 : K.length ≥ 1
 ·rw [if_y (by simp; omega)]
  by_cases h2 : K.length ≤ 256
  ·rw [if_y (by simp; omega)]
   by_cases h3 : Sq ≥ 1
   ·rw [if_y (by simpa using h3)]
    by_cases h4 : Sq ≤ 4611686018427387904
    ·rw [if_y (by simpa using h4)]
     by_cases h5 : V.length ≤ 65536
     ·rw [if_y (by simp; omega)]
      cases D
      ·rw [if_y (by rfl)]; congr 1; exact (decide_eq_true ⟨(fun h => by cases h), by omega, h2, by omega, h4, h5⟩).symm
      ·rw [if_n (by rfl)]
       by_cases h6 : V = []
       ·rw [h6]; congr 1; exact (decide_eq_true ⟨(fun _ => rfl), by omega, h2, by omega, h4, by simp⟩).symm
       ·congr 1
        have : V.length ≠ 0 := fun q => h6 (List.eq_nil_of_length_eq_zero q)
        exact (show ((V.length : Int) == 0) = false by simpa using this).trans (decide_eq_false fun q => h6 (q.1 rfl)).symm
     ·rw [if_n (by simp; omega)]; congr 1; exact (decide_eq_false fun q => h5 q.2.2.2.2.2).symm
    ·rw [if_n (by simpa using h4)]; congr 1; exact (decide_eq_false fun q => h4 q.2.2.2.2.1).symm
   ·rw [if_n (by simpa using h3)]; congr 1; exact (decide_eq_false fun q => h3 (by have := q.2.2.2.1; omega)).symm
  ·rw [if_n (by simp; omega)]; congr 1; exact (decide_eq_false fun q => h2 q.2.2.1).symm
 ·rw [if_n (by simp; omega)]; congr 1; exact (decide_eq_false fun q => h1 (by have := q.2.1; omega)).symm
theorem cmp_J1 {z : Nat} (xs ys : List Int) (i : Nat) (h : i ≤ xs.length) (h' : i ≤ ys.length) (hx : xs.length ≤ i ∨ ys.length ≤ i) : r1_Compare.J1 z xs ys = some (cmpL (xs.drop i) (ys.drop i)) := by
 unfold r1_Compare.J1
 rcases Nat.lt_trichotomy xs.length ys.length with q | q | q
 ·rw [if_n (by simp; omega), if_y (by simp; omega), drop_nil (xs := xs) (by omega), List.drop_eq_getElem_cons (l := ys) (by omega)]; rfl
 ·rw [if_y (by simp; omega), drop_nil (xs := xs) (by omega), drop_nil (xs := ys) (by omega)]; rfl
 ·rw [if_n (by simp; omega), if_n (by simp; omega), drop_nil (xs := ys) (by omega), List.drop_eq_getElem_cons (l := xs) (by omega)]; rfl
theorem refCmp_L0 (z : Nat) (xs ys : List Int) (hl : xs.length ≤ 16777214 ∨ ys.length ≤ 16777214) : ∀ (k m i : Nat), min xs.length ys.length - i = k → i ≤ xs.length → i ≤ ys.length → k < m → r1_Compare.L0 z xs ys m (i : Int) = some (cmpL (xs.drop i) (ys.drop i))
 | k, 0, _, _, _, _, h => by omega
 | 0, m + 1, i, hk, h1, h2, _ => by
  rw [r1_Compare.L0]
  by_cases h : i < xs.length
  ·rw [if_y (by simp; omega), if_n (by simp; omega), cmp_J1 xs ys i h1 h2 (by omega)]
  ·rw [if_n (by simp; omega), cmp_J1 xs ys i h1 h2 (by omega)]
 | k + 1, m + 1, i, hk, h1, h2, hm => by
  rw [r1_Compare.L0, if_y (by simp; omega), if_y (by simp; omega), ck_y (by omega), ck_y (by omega), gi_nat _ _ _ (by omega), gi_nat _ _ _ (by omega), List.drop_eq_getElem_cons (l := xs) (by omega), List.drop_eq_getElem_cons (l := ys) (by omega), cmpL]
  by_cases e : xs[i] = ys[i]
  ·rw [if_n (by simpa using e), if_pos e, wI (by omega)]
   exact refCmp_L0 z xs ys hl k m (i + 1) (by omega) (by omega) (by omega) (by omega)
  ·rw [if_y (by simpa using e), if_neg e]
   by_cases l : xs[i] < ys[i]
   ·rw [if_y (by simpa using l), if_pos l]
   ·rw [if_n (by simpa using l), if_neg l]
theorem refCmp_f {z : Nat} (hz : 16777216 ≤ z) {xs ys : List Int} (hl : xs.length ≤ 16777214 ∨ ys.length ≤ 16777214) : r1_Compare.f z xs ys = some (cmpL xs ys) :=
 refCmp_L0 z xs ys hl _ z 0 rfl (by omega) (by omega) (by omega)
theorem refCompare_bad {z : Nat} (hz : 16777216 ≤ z) {a b : aE} (ha : okE a) (hb : okE b) (hl : b.Key.length ≤ 256) : Ok (r4_Compare.f z a b) fun r => decide (r ≥ 0) = bad (some a) b := by
 unfold r4_Compare.f
 rw [refCmp_f hz (.inr (by omega)), bd_some]
 show Ok _ fun r => decide (r ≥ 0) = decide (ordS a b ≥ 0)
 unfold ordS
 rw [bcmp_eq ha.1 hb.1]
 by_cases h : cmpL a.Key b.Key = 0
 ·rw [if_n (by simpa using h)]
  rcases Int.lt_trichotomy a.Seq b.Seq with q | q | q
  ·rw [if_n (by simp; omega), if_y (by simpa using q), if_neg (by omega), if_neg (by omega)]; exact Ok.some rfl
  ·rw [if_n (by simp; omega), if_n (by simp; omega), if_pos (.inr q), h]; exact Ok.some rfl
  ·rw [if_y (by simpa using q), if_neg (by omega), if_pos q]; exact Ok.some rfl
 ·rw [if_y (by simpa using h), if_pos (.inl h)]; exact Ok.some rfl
theorem common_L0 (z : Nat) (xs ys : List Int) (hl : ys.length ≤ 16777214) : ∀ (k m i : Nat), ys.length - i = k → i ≤ xs.length → i ≤ ys.length → k < m → r4_common.L0 z xs ys m (i : Int) = some ((i + com (xs.drop i) (ys.drop i) : Nat) : Int)
 | k, 0, _, _, _, _, h => by omega
 | k, m + 1, i, hk, h1, h2, hm => by
  rw [r4_common.L0]
  unfold r4_common.J1
  by_cases a : i < xs.length
  ·by_cases b : i < ys.length
   ·rw [if_y (by simp; omega), if_y (by simp; omega), ck_y (by omega), ck_y (by omega), gi_nat _ _ _ a, gi_nat _ _ _ b, List.drop_eq_getElem_cons a, List.drop_eq_getElem_cons b, com]
    by_cases e : xs[i] = ys[i]
    ·rw [if_y (by simpa using e), if_pos e, wI (by omega)]
     have := common_L0 z xs ys hl (k - 1) m (i + 1) (by omega) (by omega) (by omega) (by omega)
     rw [show ((i : Int) + 1) = ((i + 1 : Nat) : Int) from rfl, this]
     congr 1; congr 1; omega
    ·rw [if_n (by simpa using e), if_neg e]; rfl
   ·rw [if_y (by simp; omega), if_n (by simp; omega), drop_nil (xs := ys) (by omega)]
    cases xs.drop i <;> rfl
  ·rw [if_n (by simp; omega), drop_nil (xs := xs) (by omega)]; rfl
theorem common_f {z : Nat} (hz : 16777216 ≤ z) {xs ys : List Int} (hl : ys.length ≤ 16777214) : r4_common.f z xs ys = some (com xs ys : Int) := by
 have := common_L0 z xs ys hl ys.length z 0 (by omega) (by omega) (by omega) (by omega)
 show r4_common.L0 z xs ys z 0 = _
 simpa using this
theorem laid_f {z : Nat} (hz : 16777216 ≤ z) (ahead : List Int) {e : aE} (he : fitS e) : r4_laid.f z ahead e = some (layS ahead e) := by
 obtain ⟨_, h1, h2, h3, h4, h5⟩ := he
 have hc := (com_le ahead e.Key).2
 have a := num_lenp 4 (com ahead e.Key) (by omega) (by omega)
 have b := num_lenp 4 (e.Key.length - com ahead e.Key) (by omega) (by omega)
 have c := num_len10 (n := e.Seq.toNat) (by omega)
 have d := num_lenp 4 e.Value.length (by omega) (by omega)
 have hcut : cut e.Key (Int.toNat (com ahead e.Key : Int)) (Int.toNat (e.Key.length : Int)) = e.Key.drop (com ahead e.Key) := by
  rw [Int.toNat_natCast, Int.toNat_natCast]; simp [cut]
 have hJ : ∀ x : List Int, x.length ≤ 100 → r4_laid.J0 z e (com ahead e.Key : Int) x = some (x ++ num e.Value.length ++ e.Key.drop (com ahead e.Key) ++ e.Value) := by
  intro x hx
  unfold r4_laid.J0
  rw [wU (by omega), refNumber_f hz (by omega), bd_some, ck_y (by omega), ck_y (by omega), hcut, ck_y (by simp; omega), ck_y (by simp; omega)]
 unfold r4_laid.f
 rw [common_f hz (by omega), bd_some, wU (by omega), refNumber_f hz (by omega), bd_some, wI (by omega), show ((e.Key.length : Int) - (com ahead e.Key : Int)) = ((e.Key.length - com ahead e.Key : Nat) : Int) by omega, wU (by omega), refNumber_f hz (by omega), bd_some, ck_y (by omega), refNumber_i hz (by omega), bd_some, ck_y (by simp; omega)]
 unfold layS
 cases e.Del
 ·rw [if_f, ck_y (by simp; omega), hJ _ (by simp; omega)]; simp
 ·rw [if_t, ck_y (by simp; omega), hJ _ (by simp; omega)]; simp
def grp (bb : Int) : List (List aE) → List aE → List aE → List (List aE)
 | done, cur, [] => done ++ [cur]
 | done, cur, e :: r => if 0 < cur.length ∧ ((lays [] cur).length : Int) + (layS (lastKey cur) e).length > bb then grp bb (done ++ [cur]) [e] r else grp bb done (cur ++ [e]) r
def groups (bb : Int) (l : List aE) : List (List aE) := grp bb [] [] l
theorem lays_snoc' (cur : List aE) (e : aE) : lays [] (cur ++ [e]) = lays [] cur ++ layS (lastKey cur) e := lays_snoc cur [] e
theorem lays_one (e : aE) : lays [] [e] = layS [] e := by simp [lays]
theorem Cuts_L0 {z : Nat} (hz : 16777216 ≤ z) {l : List aE} (hl : l.length ≤ 65536) (hf : ∀ e ∈ l, fitS e) {bb : Int} (hb : bb ≤ 65536) : ∀ (k m i : Nat) (done : List (List aE)) (cur : List aE), l.length - i = k → i ≤ l.length → k < m → done.length + cur.length ≤ i → (lays [] cur).length ≤ 65900 →
  r4_Cuts.L0 z l bb m (done.map fun g => (g.length : Int)) ((lays [] cur).length : Int) (cur.length : Int) (lastKey cur) (i : Int) = some ((grp bb done cur (l.drop i)).map fun g => (g.length : Int))
 | k, 0, _, _, _, _, _, h, _, _ => by omega
 | 0, m + 1, i, done, cur, hk, hi, _, hd, hc => by
  rw [r4_Cuts.L0, if_n (by simp; omega), List.drop_eq_nil_of_le (by omega), ck_y (by simp; omega), grp]
  simp
 | k + 1, m + 1, i, done, cur, hk, hi, hm, hd, hc => by
  have hil : i < l.length := by omega
  have he := hf _ (List.getElem_mem hil)
  have hl1 := layS_len (ahead := lastKey cur) he
  have hl0 := layS_len (ahead := []) he
  rw [r4_Cuts.L0, if_y (by simp; omega), ck_y (by omega), gi_nat _ _ _ hil, laid_f hz _ he, bd_some, List.drop_eq_getElem_cons hil, grp]
  have hgo : ∀ (d : List (List aE)) (c : List aE) (x : List Int) (by_ many : Int), (lays [] c).length = by_ + x.length → (c.length : Int) = many + 1 → lastKey c = l[i].Key → d.length + c.length ≤ i + 1 → (lays [] c).length ≤ 65900 →
    r4_Cuts.J1 z (r4_Cuts.L0 z l bb m) l bb (i : Int) (d.map fun g => (g.length : Int)) by_ many x = some ((grp bb d c (l.drop (i + 1))).map fun g => (g.length : Int)) := by
   intro d c x by_ many e1 e2 e3 e4 e5
   unfold r4_Cuts.J1
   rw [ck_y (by omega), gi_nat _ _ _ hil, ← e1, wI (by omega), ← e2, wI (by omega), ← e3, wI (by omega)]
   exact Cuts_L0 hz hl hf hb k m (i + 1) d c (by omega) (by omega) (by omega) e4 e5
  by_cases h0 : 0 < cur.length
  ·rw [if_y (by simp; omega)]
   by_cases h1 : ((lays [] cur).length : Int) + (layS (lastKey cur) l[i]).length > bb
   ·rw [wI (by omega), if_y (by simpa using h1), ck_y (by simp; omega), laid_f hz _ he, bd_some, if_pos ⟨h0, h1⟩]
    have := hgo (done ++ [cur]) [l[i]] (layS [] l[i]) 0 0 (by rw [lays_one]; omega) (by simp) (by simp [lastKey]) (by simp; omega) (by rw [lays_one]; omega)
    rw [List.map_append, List.map_singleton] at this
    exact this
   ·rw [wI (by omega), if_n (by simpa using h1), if_neg (fun q => h1 q.2)]
    exact hgo done (cur ++ [l[i]]) _ _ _ (by rw [lays_snoc', List.length_append]; omega) (by simp) (lastKey_snoc _ _) (by simp; omega) (by rw [lays_snoc', List.length_append]; omega)
  ·have : cur = [] := List.eq_nil_of_length_eq_zero (by omega)
   subst this
   rw [if_n (by simp), if_neg (fun q => h0 q.1)]
   exact hgo done ([] ++ [l[i]]) _ _ _ (by rw [lays_snoc', List.length_append]; omega) (by simp) (lastKey_snoc _ _) (by simp; simp at hd; omega) (by rw [lays_snoc', List.length_append]; simp [lays]; omega)
theorem Cuts_f {z : Nat} (hz : 16777216 ≤ z) {l : List aE} (hl : l.length ≤ 65536) (hf : ∀ e ∈ l, fitS e) {bb : Int} (hb : bb ≤ 65536) : r4_Cuts.f z l bb = some ((groups bb l).map fun g => (g.length : Int)) := by
 have := Cuts_L0 hz hl hf hb l.length z 0 [] [] (by omega) (by omega) (by omega) (by simp) (by simp [lays])
 exact this
def keysL (l : List aE) : List (List Int) := l.foldl (fun ks e => keyAdd ks e.Key) []
theorem keyAdd_last (ks : List (List Int)) (k : List Int) : (keyAdd ks k).getLast? = some k := by
 unfold keyAdd
 split
 ·rename_i h; exact h
 ·simp
theorem keys_L0 {z : Nat} (hz : 16777216 ≤ z) {l : List aE} (hl : l.length ≤ 65536) (hf : ∀ e ∈ l, okE e) : ∀ (k m i : Nat) (ks : List (List Int)), l.length - i = k → i ≤ l.length → k < m → ks.length ≤ i → (i = 0 ∧ ks = [] ∨ ∃ h : i - 1 < l.length, 0 < i ∧ ks.getLast? = some l[i - 1].Key) →
  r4_keys.L0 z l m ks (i : Int) = some ((l.drop i).foldl (fun ks e => keyAdd ks e.Key) ks)
 | k, 0, _, _, _, _, h, _, _ => by omega
 | 0, m + 1, i, ks, hk, hi, _, hd, _ => by rw [r4_keys.L0, if_n (by simp; omega), List.drop_eq_nil_of_le (by omega)]; rfl
 | k + 1, m + 1, i, ks, hk, hi, hm, hd, hc => by
  have hil : i < l.length := by omega
  have hgo : ∀ ks' : List (List Int), ks' = keyAdd ks l[i].Key → r4_keys.J2 z (r4_keys.L0 z l m) l (i : Int) ks' = some ((l.drop i).foldl (fun ks e => keyAdd ks e.Key) ks) := by
   intro ks' e
   unfold r4_keys.J2
   rw [wI (by omega), List.drop_eq_getElem_cons hil, List.foldl_cons, ← e]
   refine keys_L0 hz hl hf k m (i + 1) ks' (by omega) (by omega) (by omega) (by rw [e]; have := keyAdd_len ks l[i].Key; omega) (.inr ⟨by omega, by omega, ?_⟩)
   rw [e, keyAdd_last]; rfl
  have hap : ks.getLast? ≠ some l[i].Key → r4_keys.J1 z (r4_keys.L0 z l m) l ks (i : Int) = some ((l.drop i).foldl (fun ks e => keyAdd ks e.Key) ks) := by
   intro h
   unfold r4_keys.J1
   rw [ck_y (by omega), gi_nat _ _ _ hil, ck_y (by simp; omega)]
   exact hgo _ (by unfold keyAdd; rw [if_neg h])
  rw [r4_keys.L0, if_y (by simp; omega)]
  rcases hc with ⟨h0, h1⟩ | ⟨h0, h1, h2⟩
  ·subst h0 h1
   rw [if_y (by rfl)]
   exact hap (by simp)
  ·rw [if_n (by simp; omega), wI (by omega), show ((i : Int) - 1) = ((i - 1 : Nat) : Int) by omega, ck_y (by omega), ck_y (by omega), gi_nat _ _ _ h0, gi_nat _ _ _ hil, bstr_inj (hf _ (List.getElem_mem h0)).1 (hf _ (List.getElem_mem hil)).1]
   by_cases e : l[i - 1].Key = l[i].Key
   ·rw [if_n (by simp [e])]
    exact hgo _ (by unfold keyAdd; rw [if_pos (by rw [h2, e])])
   ·rw [if_y (by simp [e])]
    exact hap (by rw [h2]; intro q; exact e (Option.some.inj q))
theorem keys_f' {z : Nat} (hz : 16777216 ≤ z) {l : List aE} (hl : l.length ≤ 65536) (hf : ∀ e ∈ l, okE e) : r4_keys.f z l = some (keysL l) :=
 keys_L0 hz hl hf l.length z 0 [] (by omega) (by omega) (by omega) (by simp) (.inl ⟨rfl, rfl⟩)
theorem bOr_comm (x y : Int) : bOr .u64 x y = bOr .u64 y x := by unfold bOr; rw [BitVec.or_comm]
theorem or_one (d : Nat) : (2 * d + 1) ||| 1 = 2 * d + 1 := by
 apply Nat.eq_of_testBit_eq
 intro i
 rw [Nat.testBit_or]
 cases i with
 | zero => simp [Nat.testBit_zero]
 | succ i =>
  have : Nat.testBit 1 (i + 1) = false := by rw [Nat.testBit_succ]; simp
  rw [this, Bool.or_false]
theorem or1 (s : Nat) (hs : s < 18446744073709551616) : bOr .u64 (s : Int) 1 = if s % 2 = 0 then (s : Int) + 1 else (s : Int) := by
 split
 ·rename_i h
  have e : s = s / 2 * 2 ^ 1 := by omega
  have := or64 1 (s / 2) 1 (by omega) (by omega) (by omega)
  rw [← e] at this
  rw [bOr_comm]
  show bOr .u64 ((1 : Nat) : Int) (s : Int) = _
  rw [this]; omega
 ·rename_i h
  have e : s = 2 * (s / 2) + 1 := by omega
  show wr .u64 (((BitVec.ofInt 64 (s : Int) ||| BitVec.ofInt 64 ((1 : Nat) : Int)).toNat : Nat) : Int) = _
  rw [BitVec.toNat_or, BitVec.toNat_ofInt, BitVec.toNat_ofInt, wU']
  have e1 : ((s : Int) % ((2 ^ 64 : Nat) : Int)).toNat = s := by omega
  have e2 : (((1 : Nat) : Int) % ((2 ^ 64 : Nat) : Int)).toNat = 1 := by decide
  rw [e1, e2]
  have := or_one (s / 2)
  rw [← e] at this
  rw [this]; omega
theorem rot_eq (h : Nat) (hh : h < 18446744073709551616) : bOr .u64 (sShl .u64 (h : Int) 31) (sShr .u64 (h : Int) 33) = (((h % 8589934592) * 2147483648 + h / 8589934592 : Nat) : Int) := by
 have e1 : sShl .u64 (h : Int) 31 = ((h % 8589934592 * 2 ^ 31 : Nat) : Int) := by
  show wr .u64 ((h : Int) * 2 ^ (min (Int.toNat 31) 64)) = _
  rw [wU', show (min (Int.toNat 31) 64) = 31 from rfl]
  omega
 have e2 : sShr .u64 (h : Int) 33 = ((h / 8589934592 : Nat) : Int) := by
  rw [show (33 : Int) = ((33 : Nat) : Int) from rfl, shr_d _ _ _ (by decide)]
  omega
 rw [e1, e2, bOr_comm, or64 _ _ _ (by omega) (by omega) (by omega)]
 congr 1
 omega
def stepR (h : Int) : Int :=
 if Int.tmod (wr .u64 ((wr .u64 ((Int.tmod h 8589934592) * 2147483648)) + (wr .u64 (Int.tdiv h 8589934592)))) 2 = 0 then wr .u64 ((wr .u64 ((wr .u64 ((Int.tmod h 8589934592) * 2147483648)) + (wr .u64 (Int.tdiv h 8589934592)))) + 1)
 else wr .u64 ((wr .u64 ((Int.tmod h 8589934592) * 2147483648)) + (wr .u64 (Int.tdiv h 8589934592)))
theorem stepR_eq {h : Int} (hh : 0 ≤ h ∧ h ≤ 18446744073709551615) : stepR h = stepS h := by
 obtain ⟨n, rfl⟩ := Int.eq_ofNat_of_zero_le hh.1
 have hn : n < 18446744073709551616 := by omega
 unfold stepR stepS
 rw [rot_eq n hn, tmod_nn (a := (n : Int)) (b := 8589934592) (by omega), tdiv_nn (a := (n : Int)) (b := 8589934592) (by omega)]
 have e : wr .u64 (wr .u64 ((n : Int) % 8589934592 * 2147483648) + wr .u64 ((n : Int) / 8589934592)) = (((n % 8589934592) * 2147483648 + n / 8589934592 : Nat) : Int) := by
  rw [wU (x := (n : Int) % 8589934592 * 2147483648) (by omega), wU (x := (n : Int) / 8589934592) (by omega), wU (by omega)]
  omega
 rw [e, or1 _ (by omega), tmod_nn (by omega)]
 have hs : (n % 8589934592) * 2147483648 + n / 8589934592 < 18446744073709551616 := by omega
 clear e
 generalize ((n % 8589934592) * 2147483648 + n / 8589934592) = s at *
 by_cases h0 : s % 2 = 0
 ·rw [if_pos (by omega), if_pos h0, wU' _]
  omega
 ·rw [if_neg (by omega), if_neg h0]
theorem refHash_L0 (z : Nat) (xs : List Int) (hx : xs.length < 4611686018427387904) : ∀ (k m i : Nat) (h : Int), xs.length - i = k → i ≤ xs.length → k < m →
  r3_Hash.L0 z xs m h (i : Int) = some ((xs.drop i).foldl (fun h x => wr .u64 ((bXor .u64 h (wr .u64 x)) * 1099511628211)) h)
 | k, 0, _, _, _, _, h => by omega
 | 0, m + 1, i, h, hk, hi, _ => by rw [r3_Hash.L0, if_n (by simp; omega), List.drop_eq_nil_of_le (by omega)]; rfl
 | k + 1, m + 1, i, h, hk, hi, hm => by
  rw [r3_Hash.L0, if_y (by simp; omega), ck_y (by omega), gi_nat _ _ _ (by omega), wI (by omega), List.drop_eq_getElem_cons (by omega), List.foldl_cons]
  exact refHash_L0 z xs hx k m (i + 1) _ (by omega) (by omega) (by omega)
theorem refHash_f {z : Nat} {xs : List Int} (hz : xs.length < z) (hx : xs.length < 4611686018427387904) : r3_Hash.f z xs = some (hashS xs) :=
 refHash_L0 z xs hx xs.length z 0 _ (by omega) (by omega) hz
def posS (m step : Int) : Nat → Int → List Int
 | 0, _ => []
 | k + 1, h => h % m :: posS m step k (wr .u64 (h + step))
theorem posS_len (m step : Int) : ∀ (k : Nat) (h : Int), (posS m step k h).length = k
 | 0, _ => rfl
 | k + 1, h => by simp [posS, posS_len m step k]
theorem posS_in {m step : Int} (hm : 0 < m) : ∀ (k : Nat) (h : Int), ∀ x ∈ posS m step k h, 0 ≤ x ∧ x < m
 | 0, _, x, hx => by cases hx
 | k + 1, h, x, hx => by
  rcases List.mem_cons.1 hx with rfl | hx
  ·exact ⟨Int.emod_nonneg _ (by omega), Int.emod_lt_of_pos _ hm⟩
  ·exact posS_in hm k _ x hx
theorem each_pos (m step : Int) : ∀ (k : Nat) (h : Int) (b : List Int), eachS m step k h b = (posS m step k h).foldl setb b
 | 0, _, _ => rfl
 | k + 1, h, b => by rw [eachS, posS, List.foldl_cons, each_pos m step k]
theorem bits_L1 (z : Nat) {p m step : Int} (hp : 0 ≤ p ∧ p ≤ 100) (hm : 0 < m ∧ m ≤ 4611686018427387904) : ∀ (k n i : Nat) (h : Int) (acc : List Int), p.toNat - i = k → i ≤ p.toNat → k < n → 0 ≤ h ∧ h ≤ 18446744073709551615 → acc.length = i →
  r3_bits.L1 z p m step n h acc (i : Int) = some (acc ++ posS m step k h)
 | k, 0, _, _, _, _, _, h, _, _ => by omega
 | 0, n + 1, i, h, acc, hk, hi, _, _, ha => by rw [r3_bits.L1, if_n (by simp; omega)]; simp [posS]
 | k + 1, n + 1, i, h, acc, hk, hi, hn, hh, ha => by
  rw [r3_bits.L1, if_y (by simp; omega), ck_y (by omega), ck_y (by simp; omega), tmod_nn hh.1, wI (by omega), posS]
  rw [show ((i : Int) + 1) = ((i + 1 : Nat) : Int) from rfl, bits_L1 z hp hm k n (i + 1) _ _ (by omega) (by omega) (by omega) (wrU_in _) (by simp; omega), List.append_assoc]
  rfl
theorem bits_f {z : Nat} (hz : 16777216 ≤ z) {key : List Int} (hk : key.length < z) (hk2 : key.length < 4611686018427387904) {p m : Int} (hp : 0 ≤ p ∧ p ≤ 100) (hm : 0 < m ∧ m ≤ 4611686018427387904) : r3_bits.f z key p m = some (posS m (stepS (hashS key)) p.toNat (hashS key)) := by
 have hh := hash_in key
 unfold r3_bits.f r3_bits.J0
 rw [refHash_f hk hk2, bd_some, ← stepR_eq hh]
 have := fun s => bits_L1 z (step := s) hp hm p.toNat z 0 (hashS key) [] (by omega) (by omega) (by omega) hh rfl
 unfold stepR
 split
 ·rename_i h
  rw [if_y (by simpa using h)]
  exact this _
 ·rename_i h
  rw [if_n (by simpa using h)]
  exact this _
theorem Make_L2 {z : Nat} (hz : 16777216 ≤ z) {m : Int} (hm : 0 < m ∧ m ≤ 4611686018427387904 ∧ m % 8 = 0) {ps : List Int} (hp : ∀ x ∈ ps, 0 ≤ x ∧ x < m) (hpl : ps.length ≤ 1000) (q : List Int → Int → Option (List Int × Int)) (keys : List (List Int)) (pk j : Int) (hj : 0 ≤ j ∧ j ≤ 1000000) : ∀ (k n i : Nat) (b : List Int), ps.length - i = k → i ≤ ps.length → k < n → (b.length : Int) = 1 + m / 8 →
  r3_Make.L2 z q keys pk j ps n b (i : Int) = q ((ps.drop i).foldl setb b) (j + 1)
 | k, 0, _, _, _, _, h, _ => by omega
 | 0, n + 1, i, b, hk, hi, _, _ => by rw [r3_Make.L2, if_n (by simp; omega), List.drop_eq_nil_of_le (by omega), wI (by omega)]; rfl
 | k + 1, n + 1, i, b, hk, hi, hn, hb => by
  have hil : i < ps.length := by omega
  have hx := hp _ (List.getElem_mem hil)
  rw [r3_Make.L2, if_y (by simp; omega), ck_y (by omega), gi_nat _ _ _ hil, tmod_nn hx.1, tdiv_nn hx.1, ck_y (by omega), wU (x := ps[i] / 8) (by omega), wI (x := ps[i] / 8) (by omega), wI (x := 1 + ps[i] / 8) (by omega), ck_y (by omega), wI (by omega), List.drop_eq_getElem_cons hil, List.foldl_cons]
  exact Make_L2 hz hm hp hpl q keys pk j hj k n (i + 1) _ (by omega) (by omega) (by omega) (by simpa using hb)
theorem refMake_L1 {z : Nat} (hz : 16777216 ≤ z) {keys : List (List Int)} {pk : Int} (hn : keys.length ≤ 65536) (hp : 1 ≤ pk ∧ pk ≤ 30) (hk : ∀ k ∈ keys, k.length ≤ 16777215) : ∀ (k m i : Nat) (b : List Int), keys.length - i = k → i ≤ keys.length → k < m → (b.length : Int) = 1 + bitsS keys.length pk / 8 →
  r3_Make.L1 z keys pk m b (i : Int) = some ((keys.drop i).foldl (keyS (probS pk) (bitsS keys.length pk)) b, 0)
 | k, 0, _, _, _, _, h, _ => by omega
 | 0, m + 1, i, c, hk, hi, _, _ => by
  rw [r3_Make.L1, if_n (by simp; omega), List.drop_eq_nil_of_le (by omega)]
  rfl
 | k + 1, m + 1, i, b, hk', hi, hm, hb => by
  have h1 : (keys.length : Int) * pk ≤ 65536 * 30 := Int.mul_le_mul (by omega) hp.2 (by omega) (by omega)
  have h2 : 0 ≤ (keys.length : Int) * pk := Int.mul_nonneg (by omega) (by omega)
  have hbi := bits_in hn hp
  have hpi := prob_in hp
  have hkl := hk _ (List.getElem_mem (by omega : i < keys.length))
  have hbe : 64 * mx 1 (((keys.length : Int) * pk + 63) / 64) = bitsS keys.length pk := by unfold bitsS; omega
  have hg : gi ([] : List Int) keys (i : Int) = keys[i] := gi_nat _ _ _ (by omega)
  rw [r3_Make.L1, if_y (by simp; omega), ck_y (by omega), hg, wI (x := (keys.length : Int) * pk) (by omega), wI (x := (keys.length : Int) * pk + 63) (by omega), tdiv_nn (a := (keys.length : Int) * pk + 63) (by omega), wI (x := ((keys.length : Int) * pk + 63) / 64) (by omega),
   wI (x := pk * 69) (by omega), tdiv_nn (a := pk * 69) (by omega), wI (x := pk * 69 / 100) (by omega), hbe, show mx 1 (pk * 69 / 100) = probS pk from rfl, wI (x := bitsS keys.length pk) (by omega), wU (x := bitsS keys.length pk) (by omega), bits_f hz (by omega) (by omega) (by omega) (by omega), bd_some]
  have := Make_L2 hz (m := bitsS keys.length pk) (by omega) (posS_in (step := stepS (hashS keys[i])) (by omega) (probS pk).toNat (hashS keys[i])) (by rw [posS_len]; omega) (r3_Make.L1 z keys pk m) keys pk (i : Int) (by omega) _ z 0 b rfl (by omega) (by rw [posS_len]; omega) hb
  rw [show ((0 : Nat) : Int) = 0 from rfl] at this
  rw [this, List.drop_zero, ← each_pos, List.drop_eq_getElem_cons (by omega), List.foldl_cons]
  exact refMake_L1 hz hn hp hk k m (i + 1) _ (by omega) (by omega) (by omega) (by show ((eachS _ _ _ _ _).length : Int) = _; rw [eachS_len]; exact hb)
theorem refMake_f {z : Nat} (hz : 16777216 ≤ z) {keys : List (List Int)} {pk : Int} (hn : keys.length ≤ 65536) (hp : 1 ≤ pk ∧ pk ≤ 30) (hk : ∀ k ∈ keys, k.length ≤ 16777215) : r3_Make.f z keys pk = some (mkS keys pk, 0) := by
 have h1 : (keys.length : Int) * pk ≤ 65536 * 30 := Int.mul_le_mul (by omega) hp.2 (by omega) (by omega)
 have h2 : 0 ≤ (keys.length : Int) * pk := Int.mul_nonneg (by omega) (by omega)
 have hbi := bits_in hn hp
 have hpi := prob_in hp
 have hbe : 8 * mx 1 (((keys.length : Int) * pk + 63) / 64) = bitsS keys.length pk / 8 := by unfold bitsS; omega
 unfold r3_Make.f
 rw [if_n (by simp; omega), if_n (by simp; omega), if_n (by simp; omega), wI (x := (keys.length : Int) * pk) (by omega), wI (x := (keys.length : Int) * pk + 63) (by omega), tdiv_nn (a := (keys.length : Int) * pk + 63) (by omega), wI (x := ((keys.length : Int) * pk + 63) / 64) (by omega)]
 rw [hbe, wI (x := bitsS keys.length pk / 8) (by omega), wI (x := 1 + bitsS keys.length pk / 8) (by omega), ck_y (by omega), ck_y (by simp; omega),
   wI (x := pk * 69) (by omega), tdiv_nn (a := pk * 69) (by omega), wI (x := pk * 69 / 100) (by omega), show mx 1 (pk * 69 / 100) = probS pk from rfl, wB, Int.emod_eq_of_lt (by omega) (by omega)]
 exact refMake_L1 hz hn hp hk keys.length z 0 ((List.replicate (1 + bitsS keys.length pk / 8).toNat (0 : Int)).set 0 (probS pk)) (by omega) (by omega) (by omega) (by simp; omega)
theorem chk_snoc : ∀ (l : List aE) (p : Option aE) (e : aE), chk p l = none → fitS e → bad (match l.getLast? with | some q => some q | none => p) e = false → chk p (l ++ [e]) = none
 | [], p, e, _, h1, h2 => by
  simp only [List.getLast?_nil] at h2
  show chk p [e] = none
  rw [chk, if_neg (fun q => q h1), if_neg (by rw [h2]; decide)]; rfl
 | x :: l, p, e, h0, h1, h2 => by
  rw [chk] at h0
  rw [List.cons_append, chk]
  split at h0
  ·cases h0
  ·rename_i a
   rw [if_neg a]
   split at h0
   ·cases h0
   ·rename_i b
    rw [if_neg b]
    refine chk_snoc l (some x) e h0 h1 ?_
    rw [List.getLast?_cons] at h2
    cases hl : l.getLast? with
    | none => rw [hl] at h2; exact h2
    | some q => rw [hl] at h2; exact h2
def vsum (l : List aE) : Nat := (l.map fun e => e.Value.length).sum
theorem vsum_app (a b : List aE) : vsum (a ++ b) = vsum a + vsum b := by simp [vsum]
theorem layS_len2 {ahead : List Int} {e : aE} (he : fitS e) : (layS ahead e).length ≤ e.Value.length + 300 := by
 obtain ⟨_, h1, h2, h3, h4, h5⟩ := he
 have hc := (com_le ahead e.Key).2
 have a := num_lenp 4 (com ahead e.Key) (by omega) (by omega)
 have b := num_lenp 4 (e.Key.length - com ahead e.Key) (by omega) (by omega)
 have c := num_len10 (n := e.Seq.toNat) (by omega)
 have d := num_lenp 4 e.Value.length (by omega) (by omega)
 simp [layS]
 omega
theorem lays_len2 : ∀ (g : List aE) (a : List Int), (∀ e ∈ g, fitS e) → (lays a g).length ≤ vsum g + 300 * g.length
 | [], _, _ => by simp [lays]
 | e :: g, a, h => by
  have h1 := layS_len2 (ahead := a) (h e (List.mem_cons_self ..))
  have h2 := lays_len2 g e.Key fun x hx => h x (List.mem_cons_of_mem _ hx)
  simp only [lays, List.length_append, List.length_cons, vsum, List.map_cons, List.sum_cons] at *
  omega
theorem grp_all {bb : Int} (hb : bb ≤ 65536) : ∀ (r : List aE) (done : List (List aE)) (cur : List aE), (∀ e ∈ r, fitS e) → (∀ g ∈ done, g ≠ [] ∧ (lays [] g).length ≤ 65900) → (lays [] cur).length ≤ 65900 → (cur ≠ [] ∨ r ≠ []) →
  (grp bb done cur r).flatten = done.flatten ++ cur ++ r ∧ (∀ g ∈ grp bb done cur r, g ≠ [] ∧ (lays [] g).length ≤ 65900) ∧ ∃ t, grp bb done cur r = done ++ t
 | [], done, cur, _, hd, hc, hne => by
  rw [grp]
  refine ⟨by simp, fun g hg => ?_, ⟨[cur], rfl⟩⟩
  rcases List.mem_append.1 hg with q | q
  ·exact hd g q
  ·rw [List.mem_singleton.1 q]; exact ⟨hne.resolve_right (fun q => q rfl), hc⟩
 | e :: r, done, cur, hr, hd, hc, hne => by
  have he := hr e (List.mem_cons_self ..)
  have hr' : ∀ x ∈ r, fitS x := fun x hx => hr x (List.mem_cons_of_mem _ hx)
  have hl := layS_len (ahead := lastKey cur) he
  rw [grp]
  split
  ·rename_i h
   have := grp_all hb r (done ++ [cur]) [e] hr' (fun g hg => by
    rcases List.mem_append.1 hg with q | q
    ·exact hd g q
    ·rw [List.mem_singleton.1 q]; exact ⟨fun q => by rw [q] at h; simp at h, hc⟩) (by rw [lays_one]; exact (layS_len he).1) (.inl (by simp))
   obtain ⟨h1, h2, t, h3⟩ := this
   exact ⟨by rw [h1]; simp, h2, [cur] ++ t, by rw [h3]; simp⟩
  ·rename_i h
   have hc' : (lays [] (cur ++ [e])).length ≤ 65900 := by
    rw [lays_snoc', List.length_append]
    by_cases h0 : 0 < cur.length
    ·have : ¬ ((lays [] cur).length : Int) + (layS (lastKey cur) e).length > bb := fun q => h ⟨h0, q⟩
     omega
    ·have : cur = [] := List.eq_nil_of_length_eq_zero (by omega)
     subst this
     simp [lays]; omega
   have := grp_all hb r done (cur ++ [e]) hr' hd hc' (.inl (by simp))
   obtain ⟨h1, h2, h3⟩ := this
   exact ⟨by rw [h1]; simp, h2, h3⟩
theorem groups_all {bb : Int} (hb : bb ≤ 65536) {l : List aE} (hf : ∀ e ∈ l, fitS e) (hne : l ≠ []) : (groups bb l).flatten = l ∧ ∀ g ∈ groups bb l, g ≠ [] ∧ (lays [] g).length ≤ 65900 := by
 have := grp_all hb l [] [] hf (fun g hg => by cases hg) (by simp [lays]) (.inr hne)
 exact ⟨by show (grp bb [] [] l).flatten = l; simpa using this.1, this.2.1⟩
structure Lz (w : s_builder) (gs : List (List aE)) (cur : List aE) : Prop where
 out : w.out = outF (gs.map blkOf)
 index : w.index = idxF 0 (gs.map blkOf)
 blocks : w.blocks = gs.length
 body : w.body = lays [] cur
 many : w.many = cur.length
 last : w.last = lastKey cur
theorem lz_close {w : s_builder} {gs : List (List aE)} {cur : List aE} (h : Lz w gs cur) :
  (closeS w).out = outF ((gs ++ [cur]).map blkOf) ∧ (closeS w).index = idxF 0 ((gs ++ [cur]).map blkOf) ∧ (closeS w).blocks = (gs ++ [cur]).length := by
 obtain ⟨h5, h6, h7, h8, h9, h10⟩ := h
 rw [List.map_append, List.map_singleton, outF_snoc, idxF_snoc]
 refine ⟨?_, ?_, ?_⟩
 ·simp [closeS, h5, h8, fr1, blkOf]
 ·simp [closeS, h5, h6, h8, h9, h10, fr1, blkOf]
 ·simp [closeS, h7]
theorem outF_app : ∀ (a b : List Blk), outF (a ++ b) = outF a ++ outF b
 | [], _ => rfl
 | x :: a, b => by simp [outF, outF_app a b]
theorem run_grp {bb : Int} : ∀ (r : List aE) (keys : List (List Int)) (w : s_builder) (gs : List (List aE)) (cur : List aE), Lz w gs cur → (∃ t, grp bb gs cur r = gs ++ t) → (∀ d c r', grp bb d c r' = grp bb gs cur r → ∃ t, grp bb d c r' = d ++ t) →
  (outF ((grp bb gs cur r).map blkOf)).length ≤ 4194304 →
  ∃ w', run bb r keys w = some (r.foldl (fun ks e => keyAdd ks e.Key) keys, w') ∧ (closeS w').out = outF ((grp bb gs cur r).map blkOf) ∧ (closeS w').index = idxF 0 ((grp bb gs cur r).map blkOf) ∧ (closeS w').blocks = (grp bb gs cur r).length
 | [], keys, w, gs, cur, h, _, _, _ => ⟨w, rfl, by rw [grp]; exact lz_close h⟩
 | e :: r, keys, w, gs, cur, h, ⟨t, ht⟩, hall, hlen => by
  have hlo : w.out.length ≤ 4194304 := by
   rw [ht, List.map_append, outF_app, List.length_append] at hlen
   rw [h.out]; omega
  have hc := lz_close h
  obtain ⟨h5, h6, h7, h8, h9, h10⟩ := h
  rw [run, if_neg (by omega), List.foldl_cons]
  have step : ∀ gs' cur', grp bb gs cur (e :: r) = grp bb gs' cur' r → Lz (addS w e bb) gs' cur' → ∃ w', run bb r (keyAdd keys e.Key) (addS w e bb) = some (r.foldl (fun ks e => keyAdd ks e.Key) (keyAdd keys e.Key), w') ∧ (closeS w').out = outF ((grp bb gs cur (e :: r)).map blkOf) ∧ (closeS w').index = idxF 0 ((grp bb gs cur (e :: r)).map blkOf) ∧ (closeS w').blocks = (grp bb gs cur (e :: r)).length := by
   intro gs' cur' e1 hz
   rw [e1] at hlen ⊢
   exact run_grp r _ _ gs' cur' hz (hall gs' cur' r e1.symm) (fun d c r' q => hall d c r' (q.trans e1.symm)) hlen
  unfold addS at step ⊢
  by_cases hm : w.many > 0
  ·rw [if_pos hm] at step ⊢
   by_cases hl : ((w.body ++ layS w.last e).length : Int) ≤ bb
   ·rw [if_pos hl] at step ⊢
    refine step gs (cur ++ [e]) ?_ ⟨h5, h6, h7, ?_, ?_, ?_⟩
    ·rw [grp, if_neg (fun q => by rw [h8, h10, List.length_append] at hl; have := q.2; omega)]
    ·dsimp only; rw [h8, h10, lays_snoc']
    ·dsimp only; rw [h9]; simp
    ·dsimp only; rw [lastKey_snoc]
   ·rw [if_neg hl] at step ⊢
    refine step (gs ++ [cur]) [e] ?_ ⟨hc.1, hc.2.1, hc.2.2, ?_, rfl, ?_⟩
    ·rw [grp, if_pos (by rw [h8, h10, List.length_append] at hl; rw [h9] at hm; exact ⟨by omega, by omega⟩)]
    ·simp [lays]
    ·simp [lastKey]
  ·rw [if_neg hm] at step ⊢
   have hcur : cur = [] := List.eq_nil_of_length_eq_zero (by
    rw [h9] at hm; omega)
   subst hcur
   refine step gs ([] ++ [e]) ?_ ⟨h5, h6, h7, by simp [lays], rfl, by simp [lastKey]⟩
   rw [grp, if_neg (fun q => by have := q.1; simp at this)]
theorem run_groups {bb : Int} (hb : bb ≤ 65536) {l : List aE} (hf : ∀ e ∈ l, fitS e) (hne : l ≠ []) (hlen : (outF ((groups bb l).map blkOf)).length ≤ 4194304) :
  ∃ w', run bb l [] w0 = some (keysL l, w') ∧ (closeS w').out = outF ((groups bb l).map blkOf) ∧ (closeS w').index = idxF 0 ((groups bb l).map blkOf) ∧ (closeS w').blocks = (groups bb l).length := by
 have pre : ∀ r d c, ∃ t, grp bb d c r = d ++ t := by
  intro r
  induction r with
  | nil => intro d c; exact ⟨[c], rfl⟩
  | cons e r ih =>
   intro d c
   rw [grp]
   split
   ·obtain ⟨t, ht⟩ := ih (d ++ [c]) [e]; exact ⟨[c] ++ t, by rw [ht]; simp⟩
   ·exact ih d _
 exact run_grp l [] w0 [] [] ⟨rfl, rfl, rfl, rfl, rfl, rfl⟩ (pre _ _ _) (fun d c r _ => pre r d c) hlen
theorem outF_len2 : ∀ (gs : List (List aE)), (∀ g ∈ gs, g ≠ [] ∧ (lays [] g).length ≤ 65900) → (∀ e ∈ gs.flatten, fitS e) → (outF (gs.map blkOf)).length ≤ vsum gs.flatten + 320 * gs.flatten.length
 | [], _, _ => by simp [outF]
 | g :: gs, h, hf => by
  have h1 := outF_len2 gs (fun x hx => h x (List.mem_cons_of_mem _ hx)) (fun e he => hf e (by rw [List.flatten_cons]; exact List.mem_append_right _ he))
  have h2 := lays_len2 g [] (fun e he => hf e (by rw [List.flatten_cons]; exact List.mem_append_left _ he))
  have h3 := frm_len 68 (lays [] g)
  have h4 := num_len10 (n := (lays [] g).length) (by have := (h g (List.mem_cons_self ..)).2; omega)
  have h5 : 1 ≤ g.length := List.length_pos_iff.2 (h g (List.mem_cons_self ..)).1
  simp only [List.map_cons, outF, fr1, blkOf, List.length_append, List.flatten_cons, vsum_app] at *
  omega
theorem idx_len2 {a b : Nat} {m : Int} {l : List Int} (ha : a ≤ 134217728) (hb : b ≤ 134217728) (hm : 0 ≤ m ∧ m ≤ 65536) (hl : l.length ≤ 256) : (idx a b m l).length ≤ 300 := by
 have a := num_lenp 4 a (by omega) (by omega)
 have b := num_lenp 4 b (by omega) (by omega)
 have c := num_lenp 3 m.toNat (by omega) (by omega)
 have d := num_lenp 2 l.length (by omega) (by omega)
 simp [idx, txt]
 omega
theorem gi_at {α : Type} (d : α) (p : List α) (x : α) (q : List α) (i : Int) (hi : i = p.length) : gi d (p ++ x :: q) i = x := by
 subst hi; simp [gi]
theorem lays_pre : ∀ (a b : List aE) (p : List Int), (lays p a).length ≤ (lays p (a ++ b)).length
 | [], _, _ => by simp [lays]
 | e :: a, b, p => by simp only [List.cons_append, lays, List.length_append]; have := lays_pre a b e.Key; omega
theorem lastKey_le {g : List aE} (h : ∀ e ∈ g, fitS e) : (lastKey g).length ≤ 256 := by
 unfold lastKey
 cases hl : g.getLast? with
 | none => simp
 | some e => exact (h e (List.mem_of_getLast? hl)).2.2.1
section
variable {z : Nat} (hz : 16777216 ≤ z) {l : List aE} (hl : l.length ≤ 65536) (hf : ∀ e ∈ l, fitS e) {bb pk : Int}
include hz hl hf
theorem bytes_L1 {P : List (List aE)} {g : List aE} {Q : List (List aE)} (hfl : (P ++ g :: Q).flatten = l) (hg : (lays [] g).length ≤ 65900) (hP : (outF (P.map blkOf)).length ≤ 60000000) (hPl : P.length ≤ 1000000) {ix : List Int} (hix : ix.length ≤ 60000000) (q0 : List Int → List Int → Int → Int → Option (List Int × Bool)) : ∀ (g2 g1 : List aE) (m : Nat), g = g1 ++ g2 → g2.length < m →
  r4_bytes.L1 z q0 l bb pk ((P ++ g :: Q).map fun x => (x.length : Int)) (outF (P.map blkOf)) ix (P.flatten.length : Int) (P.length : Int) m (lays [] g1) (lastKey g1) ((P.flatten.length + g1.length : Nat) : Int) =
   q0 (outF ((P ++ [g]).map blkOf)) (ix ++ idx (outF (P.map blkOf)).length (frm 68 (lays [] g)).length (g.length : Int) (lastKey g)) (((P ++ [g]).flatten.length : Nat) : Int) (((P ++ [g]).length : Nat) : Int)
 | _, _, 0, _, h => by omega
 | g2, g1, m + 1, hgg, hm => by
  have hlen : l.length = P.flatten.length + (g.length + Q.flatten.length) := by rw [← hfl]; simp
  have hgl : g.length = g1.length + g2.length := by rw [hgg]; simp
  have hcut : gi (0 : Int) ((P ++ g :: Q).map fun x => (x.length : Int)) (P.length : Int) = (g.length : Int) := by
   rw [List.map_append, List.map_cons]
   exact gi_at _ _ _ _ _ (by simp)
  rw [r4_bytes.L1, ck_y (by simp; omega), hcut, wI (x := (P.flatten.length : Int) + (g.length : Int)) (by omega)]
  cases g2 with
  | nil =>
   rw [List.append_nil] at hgg
   subst hgg
   have hlk : (lastKey g).length ≤ 256 := lastKey_le fun e he => hf e (by rw [← hfl]; simp; exact .inr (.inl he))
   have hF := frm_len 68 (lays [] g)
   have hn := num_len10 (n := (lays [] g).length) (by omega)
   have a := num_len10 (n := (outF (P.map blkOf)).length) (by omega)
   have b := num_len10 (n := (frm 68 (lays [] g)).length) (by omega)
   have c := num_len10 (n := g.length) (by omega)
   have d := num_len10 (n := (lastKey g).length) (by omega)
   rw [if_n (by simp <;> omega), put_f hz (by omega) _ (by omega), bd_some, wU (x := ((outF (P.map blkOf)).length : Int)) (by omega), refNumber_f hz (by omega), bd_some, ck_y (by omega)]
   rw [List.length_append, wI (x := (((outF (P.map blkOf)).length + (frm 68 (lays [] g)).length : Nat) : Int) - ((outF (P.map blkOf)).length : Int)) (by omega), show (((outF (P.map blkOf)).length + (frm 68 (lays [] g)).length : Nat) : Int) - ((outF (P.map blkOf)).length : Int) = ((frm 68 (lays [] g)).length : Int) by omega]
   rw [wU (x := ((frm 68 (lays [] g)).length : Int)) (by omega), refNumber_f hz (by omega), bd_some, ck_y (by simp; omega), wU (by omega), refNumber_f hz (by omega), bd_some, ck_y (by simp; omega), refText_f hz (by omega), bd_some, ck_y (by simp [txt]; omega), wI (by omega)]
   congr 1
   ·rw [List.map_append, List.map_singleton, outF_snoc]; rfl
   ·simp [idx]
   ·simp
   ·simp
  | cons e g2 =>
   have hgi : gi daE l ((P.flatten.length + g1.length : Nat) : Int) = e := by
    have : l = (P.flatten ++ g1) ++ e :: (g2 ++ Q.flatten) := by rw [← hfl, hgg]; simp
    rw [this]
    exact gi_at _ _ _ _ _ (by simp)
   have he : fitS e := hf e (by rw [← hfl, hgg]; simp)
   have hle := layS_len (ahead := lastKey g1) he
   have hs : lays [] g1 ++ layS (lastKey g1) e = lays [] (g1 ++ [e]) := (lays_snoc' g1 e).symm
   have hle2 : (lays [] (g1 ++ [e])).length ≤ 65900 := by
    have : g = (g1 ++ [e]) ++ g2 := by rw [hgg]; simp
    have q := lays_pre (g1 ++ [e]) g2 []
    rw [← this] at q
    omega
   simp only [List.length_cons] at hgl hm
   rw [if_y (by simp; omega), ck_y (by omega), hgi, laid_f hz _ he, bd_some, ck_y (by rw [← List.length_append, hs]; omega), hs, wI (by omega), ← lastKey_snoc g1 e]
   have := bytes_L1 hfl hg hP hPl hix q0 g2 (g1 ++ [e]) m (by rw [hgg]; simp) (by omega)
   rw [List.length_append, List.length_singleton] at this
   exact this
def finS (gs : List (List aE)) (l : List aE) (bb pk : Int) : List Int :=
 let out := outF (gs.map blkOf)
 let f := frm 70 (mkS (keysL l) pk)
 out ++ f ++ frm 73 (num gs.length ++ idxF 0 (gs.map blkOf)) ++ tailS out.length (out ++ f).length l.length bb pk
theorem bytes_L0 (hoe : ∀ e ∈ l, okE e) (hbb : 64 ≤ bb ∧ bb ≤ 65536) (hpk : 1 ≤ pk ∧ pk ≤ 30) {gs : List (List aE)} (hfl : gs.flatten = l) (hg : ∀ g ∈ gs, g ≠ [] ∧ (lays [] g).length ≤ 65900) (ho : (outF (gs.map blkOf)).length ≤ 60000000) (hgn : gs.length ≤ 65536) : ∀ (Q P : List (List aE)) (m : Nat), gs = P ++ Q → Q.length < m → (idxF 0 (P.map blkOf)).length ≤ 300 * P.length →
  r4_bytes.L0 z l bb pk (gs.map fun x => (x.length : Int)) m (outF (P.map blkOf)) (num gs.length ++ idxF 0 (P.map blkOf)) (P.flatten.length : Int) (P.length : Int) =
   some (if (num gs.length ++ idxF 0 (gs.map blkOf)).length > 2097152 then ([], false) else (finS gs l bb pk, true))
 | _, _, 0, _, h, _ => by omega
 | g :: Q, P, m + 1, hgs, hm, hix => by
  have hPg := hg g (by rw [hgs]; simp)
  have hop : (outF (P.map blkOf)).length ≤ 60000000 := by
   rw [hgs, List.map_append, outF_app, List.length_append] at ho; omega
  have hn := num_len10 (n := gs.length) (by omega)
  have hPn : P.length + 1 ≤ gs.length := by rw [hgs, List.length_append, List.length_cons]; omega
  have hlk : (lastKey g).length ≤ 256 := lastKey_le fun e he => hf e (by rw [← hfl, hgs]; simp; exact .inr (.inl he))
  have hF := frm_len 68 (lays [] g)
  have hn' := num_len10 (n := (lays [] g).length) (by omega)
  have hgl : g.length ≤ 65536 := by
   have : l.length = P.flatten.length + (g.length + Q.flatten.length) := by rw [← hfl, hgs]; simp
   omega
  have hidx := idx_len2 (a := (outF (P.map blkOf)).length) (b := (frm 68 (lays [] g)).length) (m := (g.length : Int)) (l := lastKey g) (by omega) (by omega) (by omega) hlk
  have hsn : idxF 0 ((P ++ [g]).map blkOf) = idxF 0 (P.map blkOf) ++ idx (outF (P.map blkOf)).length (frm 68 (lays [] g)).length (g.length : Int) (lastKey g) := by
   rw [List.map_append, List.map_singleton, idxF_snoc, Nat.zero_add]; rfl
  rw [r4_bytes.L0, if_y (by rw [hgs]; simp; omega)]
  have := bytes_L1 hz hl hf (bb := bb) (pk := pk) (P := P) (g := g) (Q := Q) (by rw [← hgs]; exact hfl) hPg.2 hop (by omega) (ix := num gs.length ++ idxF 0 (P.map blkOf)) (by rw [List.length_append]; omega) (r4_bytes.L0 z l bb pk (gs.map fun x => (x.length : Int)) m) g [] z (by simp) (by omega)
  rw [← hgs, List.length_nil, Nat.add_zero] at this
  rw [show lays [] ([] : List aE) = [] from rfl, show lastKey ([] : List aE) = [] from rfl] at this
  rw [this, List.append_assoc, ← hsn]
  exact bytes_L0 hoe hbb hpk hfl hg ho hgn Q (P ++ [g]) m (by rw [hgs]; simp) (by simp at hm; omega) (by rw [hsn, List.length_append, List.length_append, List.length_singleton]; omega)
 | [], P, m + 1, hgs, hm, hix => by
  rw [List.append_nil] at hgs
  subst hgs
  have hn := num_len10 (n := gs.length) (by omega)
  have hkl : (keysL l).length ≤ 65536 := by
   have : ∀ (r : List aE) (ks : List (List Int)), (r.foldl (fun ks e => keyAdd ks e.Key) ks).length ≤ ks.length + r.length := by
    intro r
    induction r with
    | nil => intro ks; simp
    | cons e r ih => intro ks; have h1 := ih (keyAdd ks e.Key); have h2 := keyAdd_len ks e.Key; simp only [List.foldl_cons, List.length_cons]; omega
   have := this l []
   unfold keysL
   simp at this; omega
  have hkk : ∀ k ∈ keysL l, k.length ≤ 16777215 := by
   have : ∀ (r : List aE) (ks : List (List Int)), (∀ e ∈ r, fitS e) → (∀ k ∈ ks, k.length ≤ 16777215) → ∀ k ∈ r.foldl (fun ks e => keyAdd ks e.Key) ks, k.length ≤ 16777215 := by
    intro r
    induction r with
    | nil => intro ks _ h; exact h
    | cons e r ih =>
     intro ks h1 h2
     refine ih _ (fun x hx => h1 x (List.mem_cons_of_mem _ hx)) fun k hk => ?_
     replace hk : k ∈ keyAdd ks e.Key := hk
     unfold keyAdd at hk
     split at hk
     ·exact h2 k hk
     ·rcases List.mem_append.1 hk with q | q
      ·exact h2 k q
      ·rw [List.mem_singleton.1 q]; have := (h1 e (List.mem_cons_self ..)).2.2.1; omega
   exact this l [] hf (fun k hk => by cases hk)
  have hms := mkS_len hkl hpk
  have hF := frm_len 70 (mkS (keysL l) pk)
  have hF' := num_len10 (n := (mkS (keysL l) pk).length) (by omega)
  rw [r4_bytes.L0, if_n (by simp)]
  by_cases hi : (num gs.length ++ idxF 0 (gs.map blkOf)).length > 2097152
  ·rw [if_y (by simp only [decide_eq_true_eq]; omega), if_pos hi]
  ·have hFi := frm_len 73 (num gs.length ++ idxF 0 (gs.map blkOf))
   have hFi' := num_len10 (n := (num gs.length ++ idxF 0 (gs.map blkOf)).length) (by omega)
   have hFi2 : (frm 73 (num gs.length ++ idxF 0 (gs.map blkOf))).length ≤ 3000000 := by omega
   clear hFi hFi'
   have hh : ∀ n, (highS n 8).length = 8 := fun n => highS_len n 8
   have hc4 : ∀ {n : Int}, cut (highS n 8) (Int.toNat 4) (Int.toNat ((highS n 8).length : Int)) = highS n 4 := by
    intro n
    rw [hh]
    show ((highS n 8).take 8).drop 4 = highS n 4
    rw [List.take_of_length_le (by rw [hh]; omega)]
    simp [highS, List.range, List.range.loop]
   rw [if_n (by simp only [decide_eq_false_iff_not]; omega), if_neg hi, keys_f' hz hl hoe, bd_some, refMake_f hz hkl hpk hkk, bd_some]
   dsimp only
   rw [put_f hz (by omega) _ (by omega), bd_some, put_f hz (by rw [List.length_append]; omega) _ (by omega), bd_some, wU (x := ((outF (gs.map blkOf)).length : Int)) (by omega), eight_f hz (by omega), bd_some, wU (x := ((outF (gs.map blkOf) ++ frm 70 (mkS (keysL l) pk)).length : Int)) (by rw [List.length_append]; omega), eight_f hz (by rw [List.length_append]; omega), bd_some, ck_y (by rw [hh, hh]; omega),
    wU (x := (l.length : Int)) (by omega), eight_f hz (by omega), bd_some, ck_y (by simp [hh]), wU (x := bb) (by omega), eight_f hz (by omega), bd_some, ck_y (by rw [hh]; decide), hc4, ck_y (by simp [highS_len]), wU (x := pk) (by omega), eight_f hz (by omega), bd_some, ck_y (by rw [hh]; decide), hc4, ck_y (by simp [highS_len]), ck_y (by simp [highS_len])]
   have htl : (highS ((outF (gs.map blkOf)).length : Int) 8 ++ highS ((outF (gs.map blkOf) ++ frm 70 (mkS (keysL l) pk)).length : Int) 8 ++ highS (l.length : Int) 8 ++ highS bb 4 ++ highS pk 4 ++ [67, 79, 82, 77]) = tail36 ((outF (gs.map blkOf)).length : Int) ((outF (gs.map blkOf) ++ frm 70 (mkS (keysL l) pk)).length : Int) (l.length : Int) bb pk := rfl
   rw [htl, refSum_f hz (by rw [tail36_len]; omega), bd_some, Four_f, bd_some, ck_y (by rw [tail36_len]; simp [le4]), ck_y (by simp only [List.length_append, tail36_len]; simp only [le4, List.length_cons, List.length_nil]; omega)]
   rfl
theorem bytes_f (hoe : ∀ e ∈ l, okE e) (hne : l ≠ []) (hbb : 64 ≤ bb ∧ bb ≤ 65536) (hpk : 1 ≤ pk ∧ pk ≤ 30) (hv : vsum l ≤ 4194304) : r4_bytes.f z l bb pk =
  some (if (num (groups bb l).length ++ idxF 0 ((groups bb l).map blkOf)).length > 2097152 then ([], false) else (finS (groups bb l) l bb pk, true)) := by
 obtain ⟨h1, h2⟩ := groups_all hbb.2 hf hne
 have h3 := outF_len2 (groups bb l) h2 (by rw [h1]; exact hf)
 rw [h1] at h3
 have hgn : (groups bb l).length ≤ 65536 := by
  have : ∀ gs : List (List aE), (∀ g ∈ gs, g ≠ [] ∧ (lays [] g).length ≤ 65900) → gs.length ≤ gs.flatten.length := by
   intro gs
   induction gs with
   | nil => intro _; simp
   | cons g gs ih =>
    intro h
    have h1 := List.length_pos_iff.2 (h g (List.mem_cons_self ..)).1
    have h2 := ih fun x hx => h x (List.mem_cons_of_mem _ hx)
    simp only [List.flatten_cons, List.length_append, List.length_cons]
    omega
  have := this _ h2
  rw [h1] at this
  omega
 unfold r4_bytes.f
 rw [Cuts_f hz hl hf hbb.2, bd_some, List.length_map, wU (by omega), refNumber_f hz (by omega), bd_some]
 have := bytes_L0 hz hl hf hoe hbb hpk h1 h2 (by omega) hgn (groups bb l) [] z (by simp) (by omega) (by simp [idxF])
 simp only [List.map_nil, outF, idxF, List.append_nil, List.flatten_nil, List.length_nil] at this
 exact this
end
theorem refBuild_ok {z : Nat} (hz : 16777216 ≤ z) {l : List aE} (hoe : ∀ e ∈ l, okE e) (bb pk : Int) : Ok (r4_Build.f z l bb pk) fun r =>
  r.2 ≠ 0 ∨ (r.2 = 0 ∧ buildS l bb pk = r ∧ (∀ e ∈ l, fitS e) ∧ l ≠ [] ∧ l.length ≤ 65536 ∧ (64 ≤ bb ∧ bb ≤ 65536) ∧ (1 ≤ pk ∧ pk ≤ 30) ∧ chk none l = none ∧ r.1 = finS (groups bb l) l bb pk ∧ r.1.length ≤ 4194304) := by
 unfold r4_Build.f r4_Build.J0 r4_Build.J1
 have no : ∀ {x : List Int × Int}, x.2 ≠ 0 → Ok (some x) fun r => r.2 ≠ 0 ∨ (r.2 = 0 ∧ buildS l bb pk = r ∧ (∀ e ∈ l, fitS e) ∧ l ≠ [] ∧ l.length ≤ 65536 ∧ (64 ≤ bb ∧ bb ≤ 65536) ∧ (1 ≤ pk ∧ pk ≤ 30) ∧ chk none l = none ∧ r.1 = finS (groups bb l) l bb pk ∧ r.1.length ≤ 4194304) := fun h => Ok.some (.inl h)
 refine Ok.ite (fun _ => no (by decide)) fun a1 => Ok.ite (fun _ => no (by decide)) fun a2 => Ok.ite (fun _ => no (by decide)) fun a3 => Ok.ite (fun _ => no (by decide)) fun a4 => Ok.ite (fun _ => no (by decide)) fun a5 => Ok.ite (fun _ => no (by decide)) fun a6 => ?_
 simp only [decide_eq_false_iff_not] at a1 a2 a3 a4 a5 a6
 have hl : l.length ≤ 65536 := by omega
 have hne : l ≠ [] := by rintro rfl; simp at a5
 have key : ∀ (k m i : Nat), l.length - i = k → i ≤ l.length → k < m → (∀ e ∈ l.take i, fitS e) → chk none (l.take i) = none → Ok (r4_Build.L2 z l bb pk m ((min (vsum (l.take i)) 16777216 : Nat) : Int) (i : Int)) fun r =>
   r.2 ≠ 0 ∨ (r.2 = 0 ∧ buildS l bb pk = r ∧ (∀ e ∈ l, fitS e) ∧ l ≠ [] ∧ l.length ≤ 65536 ∧ (64 ≤ bb ∧ bb ≤ 65536) ∧ (1 ≤ pk ∧ pk ≤ 30) ∧ chk none l = none ∧ r.1 = finS (groups bb l) l bb pk ∧ r.1.length ≤ 4194304) := by
  intro k
  induction k with
  | zero =>
   intro m i h1 h2 h3 h4 h5
   obtain ⟨m, rfl⟩ : ∃ q, m = q + 1 := ⟨m - 1, by omega⟩
   rw [List.take_of_length_le (by omega)] at h4 h5 ⊢
   rw [r4_Build.L2, if_n (by simp; omega)]
   refine Ok.ite (fun _ => no (by decide)) fun b1 => ?_
   simp only [decide_eq_false_iff_not] at b1
   have hv : vsum l ≤ 4194304 := by omega
   rw [bytes_f hz hl h4 hoe hne (by omega) (by omega) hv, bd_some]
   unfold r4_Build.J3
   by_cases hi : (num (groups bb l).length ++ idxF 0 ((groups bb l).map blkOf)).length > 2097152
   ·rw [if_pos hi, if_y (by rfl)]; exact no (by decide)
   ·rw [if_neg hi, if_n (by rfl)]
    refine Ok.ite (fun _ => no (by decide)) fun b2 => Ok.some (.inr ⟨rfl, ?_, h4, hne, hl, by omega, by omega, h5, rfl, ?_⟩)
    ·simp only [decide_eq_false_iff_not] at b2
     have hfl : (finS (groups bb l) l bb pk).length ≤ 4194304 := by omega
     have hol : (outF ((groups bb l).map blkOf)).length ≤ 4194304 := by
      unfold finS at hfl
      simp only [List.length_append] at hfl
      omega
     obtain ⟨w, r1, r2, r3, r4⟩ := run_groups (bb := bb) (by omega) h4 hne hol
     unfold buildS
     rw [if_neg (by omega), if_neg (by omega), h5, r1]
     dsimp only
     unfold endS idxS
     rw [r3, r4, Int.toNat_natCast, if_neg hi]
     have ho : outS (closeS w) (l.length : Int) (mkS (keysL l) pk) bb pk = finS (groups bb l) l bb pk := by
      unfold outS idxS finS
      rw [r2, r3, r4, Int.toNat_natCast]
     rw [ho, if_neg (by omega)]
    ·simp only [decide_eq_false_iff_not] at b2
     show (finS (groups bb l) l bb pk).length ≤ 4194304
     omega
  | succ k ih =>
   intro m i h1 h2 h3 h4 h5
   obtain ⟨m, rfl⟩ : ∃ q, m = q + 1 := ⟨m - 1, by omega⟩
   have hi : i < l.length := by omega
   have htk : l.take (i + 1) = l.take i ++ [l[i]] := by rw [List.take_succ_eq_append_getElem hi]
   rw [r4_Build.L2, if_y (by simp; omega), ck_y (by omega), gi_nat _ _ _ hi, refMay_f, bd_some]
   refine Ok.ite (fun _ => no (by decide)) fun c1 => ?_
   have hfit : fitS l[i] := by simpa using c1
   have go : bad (match (l.take i).getLast? with | some q => some q | none => none) l[i] = false → Ok (r4_Build.J4 z (r4_Build.L2 z l bb pk m) l bb pk ((min (vsum (l.take i)) 16777216 : Nat) : Int) (i : Int)) fun r =>
     r.2 ≠ 0 ∨ (r.2 = 0 ∧ buildS l bb pk = r ∧ (∀ e ∈ l, fitS e) ∧ l ≠ [] ∧ l.length ≤ 65536 ∧ (64 ≤ bb ∧ bb ≤ 65536) ∧ (1 ≤ pk ∧ pk ≤ 30) ∧ chk none l = none ∧ r.1 = finS (groups bb l) l bb pk ∧ r.1.length ≤ 4194304) := by
    intro hbad
    have hval := hfit.2.2.2.2.2
    unfold r4_Build.J4
    rw [ck_y (by omega), gi_nat _ _ _ hi, wI (x := ((min (vsum (l.take i)) 16777216 : Nat) : Int) + (l[i].Value.length : Int)) (by omega), wI (by omega)]
    have hs : vsum (l.take (i + 1)) = vsum (l.take i) + l[i].Value.length := by rw [htk, vsum_app]; simp [vsum]
    have hmn : mn (((min (vsum (l.take i)) 16777216 : Nat) : Int) + (l[i].Value.length : Int)) 16777216 = ((min (vsum (l.take (i + 1))) 16777216 : Nat) : Int) := by
     unfold mn; rw [hs]; split <;> omega
    rw [hmn]
    refine ih m (i + 1) (by omega) (by omega) (by omega) (fun e he => ?_) ?_
    ·rw [htk] at he
     rcases List.mem_append.1 he with q | q
     ·exact h4 e q
     ·rw [List.mem_singleton.1 q]; exact hfit
    ·rw [htk]
     exact chk_snoc _ none _ h5 hfit hbad
   refine Ok.ite (fun c2 => ?_) fun c2 => ?_
   ·have hi0 : 0 < i := by simp at c2; omega
    rw [wI (by omega), show ((i : Int) - 1) = ((i - 1 : Nat) : Int) by omega, ck_y (by omega), gi_nat _ _ _ (by omega)]
    refine (refCompare_bad hz (hoe _ (List.getElem_mem (by omega : i - 1 < l.length))) (hoe _ (List.getElem_mem hi)) hfit.2.2.1).bd fun c hc => ?_
    refine Ok.ite (fun _ => no (by decide)) fun c3 => go ?_
    have hlast : (l.take i).getLast? = some l[i - 1] := by
     rw [List.getLast?_eq_getElem?, List.length_take, Nat.min_eq_left (by omega), List.getElem?_take, if_pos (by omega), List.getElem?_eq_getElem (by omega)]
    rw [hlast]
    dsimp only
    rw [← hc]; exact c3
   ·have hi0 : i = 0 := by simp at c2; omega
    subst hi0
    exact go (by simp [bad])
 have := key l.length z 0 (by omega) (by omega) (by omega) (by simp) (by simp [chk])
 exact this
namespace r1_TakeNumber
noncomputable def c0 : Code := match Try.f92.body with | some c => c | none => .skip
def R (F : List Atom) (x1 : List Int) (A2 : OA) (k3 : Nat) (m4 : Md) (r : Int × Int × Int) : Ending → World → Prop := fun e w' => e = .returned (.tuple #[.int .u64 r.1, .int .i64 r.2.1, .int .i64 r.2.2]) ∧ SL ([sl m4 ku8 A2 k3 x1] ++ F) w'
def L6 (z : Nat) (x1 : List Int) (x5 : Int) : Nat → Int → Int → Option (Int × Int × Int)
 | 0, _, _ => none
 | m + 1, x25, x26 => If (decide (x26 ≥ 0)) (Ck (0 ≤ x26 ∧ x26 < (x1.length : Int)) (L6 z x1 x5 m (wr .u64 ((wr .u64 (128 * x25)) + (wr .u64 (Int.tmod (gi (0 : Int) x1 x26) 128)))) (wr .i64 (x26 - 1)))) (some (x25, wr .i64 (x5 + 1), 0))
def J5 (z : Nat) (x1 : List Int) (x5 : Int) : Option (Int × Int × Int) := L6 z x1 x5 z 0 x5
def J4 (z : Nat) : Option (Int × Int × Int) := some (0, 0, 11)
def J3 (z : Nat) (x1 : List Int) (x5 : Int) : Option (Int × Int × Int) := If (decide (x5 < 0)) (J4 z) (If (decide (x5 > 0)) (Ck (0 ≤ x5 ∧ x5 < (x1.length : Int)) (If ((gi (0 : Int) x1 x5) == 0) (J4 z) (If (x5 == 9) (Ck (9 < (x1.length : Int)) (If (decide ((gi (0 : Int) x1 9) > 1)) (J4 z) (J5 z x1 x5))) (J5 z x1 x5)))) (If (x5 == 9) (Ck (9 < (x1.length : Int)) (If (decide ((gi (0 : Int) x1 9) > 1)) (J4 z) (J5 z x1 x5))) (J5 z x1 x5)))
def J2 (z : Nat) (x1 : List Int) (x5 : Int) : Option (Int × Int × Int) := If (decide (x5 < 0)) (If (decide ((x1.length : Int) < 10)) (some (0, 0, 10)) (J3 z x1 x5)) (J3 z x1 x5)
def J1 (z : Nat) (q0 : Int → Int → Option (Int × Int × Int)) (x1 : List Int) (x6 x12 : Int) : Option (Int × Int × Int) := q0 x12 (wr .i64 (x6 + 1))
def L0 (z : Nat) (x1 : List Int) : Nat → Int → Int → Option (Int × Int × Int)
 | 0, _, _ => none
 | m + 1, x5, x6 => If (decide (x6 < (x1.length : Int))) (If (decide (x6 < 10)) (If (decide (x5 < 0)) (Ck (0 ≤ x6 ∧ x6 < (x1.length : Int)) (If (decide ((gi (0 : Int) x1 x6) < 128)) (J1 z (L0 z x1 m) x1 x6 x6) (J1 z (L0 z x1 m) x1 x6 x5))) (J2 z x1 x5)) (J2 z x1 x5)) (J2 z x1 x5)
def f (z : Nat) (x1 : List Int) : Option (Int × Int × Int) := L0 z x1 z (-1) 0
noncomputable def ptL6 : List Item := [.code (cB (cB (cR (cL (cr 6 c0))))), .inLoop (cB (cB (cR (cL (cr 6 c0))))), .inBlock 2, .code (cr 7 c0)]
noncomputable def ptJ5 : List Item := [.code (cL (cr 5 c0)), .code (cr 6 c0)]
noncomputable def ptJ4 : List Item := [.code (cL (cT (cR (cL (cr 4 c0))))), .code (cR (cT (cR (cL (cr 4 c0))))), .code (cr 5 c0)]
noncomputable def ptJ3 : List Item := [.code (cL (cL (cr 4 c0))), .code (cR (cL (cr 4 c0))), .code (cr 5 c0)]
noncomputable def ptJ2 : List Item := [.code (cL (cL (cr 3 c0))), .code (cR (cL (cr 3 c0))), .code (cr 4 c0)]
noncomputable def ptJ1 : List Item := [.code (cR (cR (cB (cB (cR (cL (cR (cR c0)))))))), .inLoop (cB (cB (cR (cL (cR (cR c0)))))), .inBlock 0, .code (cr 3 c0)]
noncomputable def ptL0 : List Item := [.code (cB (cB (cR (cL (cR (cR c0)))))), .inLoop (cB (cB (cR (cL (cR (cR c0)))))), .inBlock 0, .code (cr 3 c0)]
theorem L6_ok (F : List Atom) (r : Int × Int × Int) (z : Nat) (x1 : List Int) (A2 : OA) (k3 : Nat) (m4 : Md) (x5 : Int) (m : Nat) : ∀ (x25 x26 : Int) (a : Act) (w : World), Tm 76 [(0, .slice A2 x1.length k3), (5, .int .i64 x5), (7, .int .u64 x25), (8, .int .i64 x26)] a → SL ([sl m4 ku8 A2 k3 x1] ++ F) w → L6 z x1 x5 m x25 x26 = some r → Gets Try.prog 92 ptL6 a w (R F x1 A2 k3 m4 r) := by
 induction m with
 | zero => intro _ _ _ _ _ _ H; cases H
 | succ m ih =>
  intro x25 x26 a w T S H
  refine sq (sq (rg (v2 T rfl rfl fun T => ?_)))
  rcases ifE H with ⟨h27, H⟩ | ⟨h27, H⟩
  ·refine cdT T rfl h27 (sk (sq (bq (rg (v3 T rfl rfl rfl fun T => v1 T rfl fun T => ?_)))))
   obtain ⟨h28, H⟩ := ck H
   refine r_ia (ix := 0) T S rfl rfl rfl rfl tu24 ts5 h28.1 h28.2 rfl fun _ T => r_ldE (ix := 0) (i := x26) (off := 0) (f := (Value.int .u8)) T S rfl ti5 rfl (0 : Int) _ rfl rfl (Fld.all _) h28.1 h28.2 id rfl fun _ T => r_rem T rfl rfl (by decide) rfl fun _ T => ?_
   refine r_conv T rfl tu5 tu34 rfl fun _ T => v2 T rfl rfl fun T => Gets.inBlock (rg (v3 T rfl rfl rfl fun T => Gets.inLoop ?_))
   exact ih (wr .u64 ((wr .u64 (128 * x25)) + (wr .u64 (Int.tmod (gi (0 : Int) x1 x26) 128)))) (wr .i64 (x26 - 1)) _ _ (T.sb rfl) (S.only [0] rfl) H
  ·refine cdF T rfl h27 (Gets.exit rfl (sq (rg (v3 T rfl rfl rfl fun T => v3 T rfl rfl rfl fun T => ?_))))
   obtain rfl := sj H
   exact rtn T tf92 rfl rfl ⟨rfl, (S.only [0] rfl)⟩
theorem J5_ok (F : List Atom) (r : Int × Int × Int) (z : Nat) (x1 : List Int) (A2 : OA) (k3 : Nat) (m4 : Md) (x5 : Int) (a : Act) (w : World) (T : Tm 76 [(0, .slice A2 x1.length k3), (5, .int .i64 x5)] a) (S : SL ([sl m4 ku8 A2 k3 x1] ++ F) w) (H : J5 z x1 x5 = some r) : Gets Try.prog 92 ptJ5 a w (R F x1 A2 k3 m4 r) := by
 refine rg (v1 T rfl fun T => sq (sq (rg (v2 T rfl rfl fun T => bq (Gets.loop ?_)))))
 exact L6_ok F r z x1 A2 k3 m4 x5 z 0 x5 _ _ (T.sb rfl) (S.only [0] rfl) H
theorem J4_ok (F : List Atom) (r : Int × Int × Int) (z : Nat) (x1 : List Int) (A2 : OA) (k3 : Nat) (m4 : Md) (a : Act) (w : World) (T : Tm 76 [] a) (S : SL ([sl m4 ku8 A2 k3 x1] ++ F) w) (H : J4 z = some r) : Gets Try.prog 92 ptJ4 a w (R F x1 A2 k3 m4 r) := by
 refine rg (v3 T rfl rfl rfl fun T => ?_)
 obtain rfl := sj H
 exact rtn T tf92 rfl rfl ⟨rfl, (S.only [0] rfl)⟩
theorem J3_ok (F : List Atom) (r : Int × Int × Int) (z : Nat) (x1 : List Int) (A2 : OA) (k3 : Nat) (m4 : Md) (x5 : Int) (a : Act) (w : World) (T : Tm 76 [(0, .slice A2 x1.length k3), (5, .int .i64 x5)] a) (S : SL ([sl m4 ku8 A2 k3 x1] ++ F) w) (H : J3 z x1 x5 = some r) : Gets Try.prog 92 ptJ3 a w (R F x1 A2 k3 m4 r) := by
 refine rg (v3 T rfl rfl rfl fun T => ?_)
 rcases ifE H with ⟨h15, H⟩ | ⟨h15, H⟩
 ·refine gn T rfl h15 fun T => gn T rfl h15 fun T => gn T rfl h15 fun T => g_und T rfl rfl rfl fun _ T => g_und T rfl rfl rfl fun _ T => g_und T rfl rfl rfl fun _ T => g_und T rfl rfl rfl fun _ T => g_und T rfl rfl rfl fun _ T => gn T rfl h15 fun T => pT T rfl h15 rfl rfl fun _ T => v1 T rfl fun T => gn T rfl rfl fun T => gn T rfl rfl fun T => gn T rfl rfl fun T => g_und T rfl rfl rfl fun _ T => g_und T rfl rfl rfl fun _ T => g_und T rfl rfl rfl fun _ T => g_und T rfl rfl rfl fun _ T => gn T rfl rfl fun T => pT T rfl rfl rfl rfl fun _ T => cdT T rfl rfl (sq ?_)
  exact J4_ok F r z x1 A2 k3 m4 _ _ (T.sub trivial) (S.only [0] rfl) H
 ·refine gy T rfl h15 (v1 T rfl fun T => gy T rfl h15 (v1 T rfl fun T => gy T rfl h15 (v1 T rfl fun T => ?_)))
  rcases ifE H with ⟨h16, H⟩ | ⟨h16, H⟩
  ·refine gy T rfl h16 (v1 T rfl fun T => gy T rfl h16 (v1 T rfl fun T => gy T rfl h16 ?_))
   obtain ⟨h17, H⟩ := ck H
   refine r_ia (ix := 0) T S rfl rfl rfl rfl tu24 ts5 h17.1 h17.2 rfl fun _ T => gy T rfl h16 (r_ldE (ix := 0) (i := x5) (off := 0) (f := (Value.int .u8)) T S rfl ti5 rfl (0 : Int) _ rfl rfl (Fld.all _) h17.1 h17.2 id rfl fun _ T => gy T rfl h16 (v1 T rfl fun T => gy T rfl h15 (pT T rfl h16 rfl rfl fun _ T => pF T rfl h15 rfl rfl fun _ T => v1 T rfl fun T => ?_)))
   rcases ifE H with ⟨h18, H⟩ | ⟨h18, H⟩
   ·refine gn T rfl h18 fun T => gn T rfl h18 fun T => gn T rfl h18 fun T => g_und T rfl rfl rfl fun _ T => g_und T rfl rfl rfl fun _ T => g_und T rfl rfl rfl fun _ T => g_und T rfl rfl rfl fun _ T => gn T rfl h18 fun T => pT T rfl h18 rfl rfl fun _ T => cdT T rfl rfl (sq ?_)
    exact J4_ok F r z x1 A2 k3 m4 _ _ (T.sub trivial) (S.only [0] rfl) H
   ·refine gy T rfl h18 (v1 T rfl fun T => gy T rfl h18 (v1 T rfl fun T => gy T rfl h18 (v1 T rfl fun T => ?_)))
    rcases ifE H with ⟨h19, H⟩ | ⟨h19, H⟩
    ·refine gy T rfl h19 (v1 T rfl fun T => gy T rfl h19 ?_)
     obtain ⟨h20, H⟩ := ck H
     refine r_ia (ix := 0) T S rfl rfl rfl rfl tu24 ts5 (by decide) h20 rfl fun _ T => ?_
     refine gy T rfl h19 (r_ldE (ix := 0) (i := 9) (off := 0) (f := (Value.int .u8)) T S rfl ti5 rfl (0 : Int) _ rfl rfl (Fld.all _) (by decide) h20 id rfl fun _ T => ?_)
     refine gy T rfl h19 (v1 T rfl fun T => gy T rfl h18 (pT T rfl h19 rfl rfl fun _ T => pF T rfl h18 rfl rfl fun _ T => ?_))
     rcases ifE H with ⟨h21, H⟩ | ⟨h21, H⟩
     ·refine cdT T rfl h21 (sq ?_)
      exact J4_ok F r z x1 A2 k3 m4 _ _ (T.sub trivial) (S.only [0] rfl) H
     ·refine cdF T rfl h21 (sk (sq ?_))
      exact J5_ok F r z x1 A2 k3 m4 x5 _ _ (T.sb rfl) (S.only [0] rfl) H
    ·refine gn T rfl h19 fun T => gn T rfl h19 fun T => gn T rfl h19 fun T => gn T rfl h19 fun T => gy T rfl h18 (pF T rfl h19 rfl rfl fun _ T => pF T rfl h18 rfl rfl fun _ T => cdF T rfl rfl (sk (sq ?_)))
     exact J5_ok F r z x1 A2 k3 m4 x5 _ _ (T.sb rfl) (S.only [0] rfl) H
  ·refine gn T rfl h16 fun T => gn T rfl h16 fun T => gn T rfl h16 fun T => gn T rfl h16 fun T => gn T rfl h16 fun T => gy T rfl h15 (pF T rfl h16 rfl rfl fun _ T => pF T rfl h15 rfl rfl fun _ T => v1 T rfl fun T => gy T rfl rfl (v1 T rfl fun T => gy T rfl rfl (v1 T rfl fun T => gy T rfl rfl (v1 T rfl fun T => ?_))))
   rcases ifE H with ⟨h22, H⟩ | ⟨h22, H⟩
   ·refine gy T rfl h22 (v1 T rfl fun T => gy T rfl h22 ?_)
    obtain ⟨h23, H⟩ := ck H
    refine r_ia (ix := 0) T S rfl rfl rfl rfl tu24 ts5 (by decide) h23 rfl fun _ T => ?_
    refine gy T rfl h22 (r_ldE (ix := 0) (i := 9) (off := 0) (f := (Value.int .u8)) T S rfl ti5 rfl (0 : Int) _ rfl rfl (Fld.all _) (by decide) h23 id rfl fun _ T => ?_)
    refine gy T rfl h22 (v1 T rfl fun T => gy T rfl rfl (pT T rfl h22 rfl rfl fun _ T => pF T rfl rfl rfl rfl fun _ T => ?_))
    rcases ifE H with ⟨h24, H⟩ | ⟨h24, H⟩
    ·refine cdT T rfl h24 (sq ?_)
     exact J4_ok F r z x1 A2 k3 m4 _ _ (T.sub trivial) (S.only [0] rfl) H
    ·refine cdF T rfl h24 (sk (sq ?_))
     exact J5_ok F r z x1 A2 k3 m4 x5 _ _ (T.sb rfl) (S.only [0] rfl) H
   ·refine gn T rfl h22 fun T => gn T rfl h22 fun T => gn T rfl h22 fun T => gn T rfl h22 fun T => gy T rfl rfl (pF T rfl h22 rfl rfl fun _ T => pF T rfl rfl rfl rfl fun _ T => cdF T rfl rfl (sk (sq ?_)))
    exact J5_ok F r z x1 A2 k3 m4 x5 _ _ (T.sb rfl) (S.only [0] rfl) H
theorem J2_ok (F : List Atom) (r : Int × Int × Int) (z : Nat) (x1 : List Int) (A2 : OA) (k3 : Nat) (m4 : Md) (x5 : Int) (a : Act) (w : World) (T : Tm 76 [(0, .slice A2 x1.length k3), (5, .int .i64 x5)] a) (S : SL ([sl m4 ku8 A2 k3 x1] ++ F) w) (H : J2 z x1 x5 = some r) : Gets Try.prog 92 ptJ2 a w (R F x1 A2 k3 m4 r) := by
 refine rg (v3 T rfl rfl rfl fun T => ?_)
 rcases ifE H with ⟨h13, H⟩ | ⟨h13, H⟩
 ·refine gy T rfl h13 (v1 T rfl fun T => gy T rfl h13 (rn T rfl tu24 rfl fun _ T => gy T rfl h13 (v1 T rfl fun T => pT T rfl h13 rfl rfl fun _ T => ?_)))
  rcases ifE H with ⟨h14, H⟩ | ⟨h14, H⟩
  ·refine cdT T rfl h14 (sq (rg (v3 T rfl rfl rfl fun T => ?_)))
   obtain rfl := sj H
   exact rtn T tf92 rfl rfl ⟨rfl, (S.only [0] rfl)⟩
  ·refine cdF T rfl h14 (sk (sq (sq ?_)))
   exact J3_ok F r z x1 A2 k3 m4 x5 _ _ (T.sb rfl) (S.only [0] rfl) H
 ·refine gn T rfl h13 fun T => gn T rfl h13 fun T => gn T rfl h13 fun T => pF T rfl h13 rfl rfl fun _ T => cdF T rfl rfl (sk (sq (sq ?_)))
  exact J3_ok F r z x1 A2 k3 m4 x5 _ _ (T.sb rfl) (S.only [0] rfl) H
theorem J1_ok (F : List Atom) (r : Int × Int × Int) (z : Nat) (x1 : List Int) (A2 : OA) (k3 : Nat) (m4 : Md) (x6 : Int) (q0 : Int → Int → Option (Int × Int × Int)) (hq0 : ∀ (x5 x6 : Int) (a : Act) (w : World), Tm 76 [(0, .slice A2 x1.length k3), (5, .int .i64 x5), (6, .int .i64 x6)] a → SL ([sl m4 ku8 A2 k3 x1] ++ F) w → q0 x5 x6 = some r → Gets Try.prog 92 ptL0 a w (R F x1 A2 k3 m4 r)) (x12 : Int) (a : Act) (w : World) (T : Tm 76 [(0, .slice A2 x1.length k3), (5, .int .i64 x12), (6, .int .i64 x6)] a) (S : SL ([sl m4 ku8 A2 k3 x1] ++ F) w) (H : J1 z q0 x1 x6 x12 = some r) : Gets Try.prog 92 ptJ1 a w (R F x1 A2 k3 m4 r) := by
 refine rg (v3 T rfl rfl rfl fun T => Gets.inLoop ?_)
 exact hq0 x12 (wr .i64 (x6 + 1)) _ _ (T.sb rfl) (S.only [0] rfl) H
theorem L0_ok (F : List Atom) (r : Int × Int × Int) (z : Nat) (x1 : List Int) (A2 : OA) (k3 : Nat) (m4 : Md) (m : Nat) : ∀ (x5 x6 : Int) (a : Act) (w : World), Tm 76 [(0, .slice A2 x1.length k3), (5, .int .i64 x5), (6, .int .i64 x6)] a → SL ([sl m4 ku8 A2 k3 x1] ++ F) w → L0 z x1 m x5 x6 = some r → Gets Try.prog 92 ptL0 a w (R F x1 A2 k3 m4 r) := by
 induction m with
 | zero => intro _ _ _ _ _ _ H; cases H
 | succ m ih =>
  intro x5 x6 a w T S H
  refine sq (sq (rg (v2 T rfl rfl fun T => rn T rfl tu24 rfl fun _ T => v2 T rfl rfl fun T => ?_)))
  rcases ifE H with ⟨h7, H⟩ | ⟨h7, H⟩
  ·refine gy T rfl h7 (v1 T rfl fun T => gy T rfl h7 (v1 T rfl fun T => pT T rfl h7 rfl rfl fun _ T => v1 T rfl fun T => ?_))
   rcases ifE H with ⟨h8, H⟩ | ⟨h8, H⟩
   ·refine gy T rfl h8 (v1 T rfl fun T => gy T rfl h8 (v1 T rfl fun T => pT T rfl h8 rfl rfl fun _ T => ?_))
    rcases ifE H with ⟨h9, H⟩ | ⟨h9, H⟩
    ·refine cdT T rfl h9 (sk (sq (bq (sq (rg (v2 T rfl rfl fun T => ?_))))))
     obtain ⟨h10, H⟩ := ck H
     refine r_ia (ix := 0) T S rfl rfl rfl rfl tu24 ts5 h10.1 h10.2 rfl fun _ T => r_ldE (ix := 0) (i := x6) (off := 0) (f := (Value.int .u8)) T S rfl ti5 rfl (0 : Int) _ rfl rfl (Fld.all _) h10.1 h10.2 id rfl fun _ T => v1 T rfl fun T => ?_
     rcases ifE H with ⟨h11, H⟩ | ⟨h11, H⟩
     ·refine cdT T rfl h11 (rg (v2 T rfl rfl fun T => Gets.inBlock ?_))
      exact J1_ok F r z x1 A2 k3 m4 x6 (L0 z x1 m) ih x6 _ _ (T.sb rfl) (S.only [0] rfl) H
     ·refine cdF T rfl h11 (sk (Gets.inBlock ?_))
      exact J1_ok F r z x1 A2 k3 m4 x6 (L0 z x1 m) ih x5 _ _ (T.sb rfl) (S.only [0] rfl) H
    ·refine cdF T rfl h9 (Gets.exit rfl (sq (sq ?_)))
     exact J2_ok F r z x1 A2 k3 m4 x5 _ _ (T.sb rfl) (S.only [0] rfl) H
   ·refine gn T rfl h8 fun T => gn T rfl h8 fun T => pF T rfl h8 rfl rfl fun _ T => cdF T rfl rfl (Gets.exit rfl (sq (sq ?_)))
    exact J2_ok F r z x1 A2 k3 m4 x5 _ _ (T.sb rfl) (S.only [0] rfl) H
  ·refine gn T rfl h7 fun T => gn T rfl h7 fun T => pF T rfl h7 rfl rfl fun _ T => v1 T rfl fun T => gn T rfl rfl fun T => gn T rfl rfl fun T => pF T rfl rfl rfl rfl fun _ T => cdF T rfl rfl (Gets.exit rfl (sq (sq ?_)))
   exact J2_ok F r z x1 A2 k3 m4 x5 _ _ (T.sb rfl) (S.only [0] rfl) H
theorem ok (F : List Atom) (w : World) (z : Nat) (x1 : List Int) {A2 : OA} {k3 : Nat} {m4 : Md} (S : SL ([sl m4 ku8 A2 k3 x1] ++ F) w) (r : Int × Int × Int) (H : f z x1 = some r) : Calls Try.prog 92 #[.slice A2 x1.length k3] w (R F x1 A2 k3 m4 r) := by
 refine enter (vs := [.slice A2 x1.length k3]) tf92 rfl Try.ntmps92 (nle rfl) fun a T => ?_
 refine sq (rg (v3 T rfl rfl rfl fun T => sq (rg (v1 T rfl fun T => sq (sq (rg (v1 T rfl fun T => bq (Gets.loop ?_))))))))
 exact L0_ok F r z x1 A2 k3 m4 z (-1) 0 _ _ (T.sb rfl) (S.only [0] rfl) H
end r1_TakeNumber
namespace r1_TakeFrame
def R (F : List Atom) (x1 : List Int) (A2 : OA) (k3 : Nat) (r : Int × (List Int) × Int × Int) : Ending → World → Prop := fun e w' => ∃ (A19 : OA), ∃ (k20 : Nat), e = .returned (.tuple #[.int .u8 r.1, .slice A19 r.2.1.length k20, .int .i64 r.2.2.1, .int .i64 r.2.2.2]) ∧ SL ([sl .own ku8 A19 k20 r.2.1, sl .ro ku8 A2 k3 x1] ++ F) w'
def f (z : Nat) (x1 : List Int) : Option (Int × (List Int) × Int × Int) := If ((x1.length : Int) == 0) (some (0, ([] : List Int), 0, 10)) (Ck (1 ≤ (x1.length : Int)) (Bd (r1_TakeNumber.f z (cut x1 (Int.toNat 1) (Int.toNat (x1.length : Int)))) fun x9 => If (x9.2.2 != 0) (some (0, ([] : List Int), 0, x9.2.2)) (If (decide (x9.1 > 2097152)) (some (0, ([] : List Int), 0, 12)) (If (decide ((wr .u64 (wr .i64 ((x1.length : Int) - (wr .i64 (1 + x9.2.1))))) < (wr .u64 (4 + x9.1)))) (some (0, ([] : List Int), 0, 10)) (Ck (0 ≤ wr .i64 (1 + x9.2.1) ∧ wr .i64 (1 + x9.2.1) ≤ (x1.length : Int)) (Ck (0 ≤ wr .i64 ((wr .i64 (1 + x9.2.1)) + 4) ∧ wr .i64 ((wr .i64 (1 + x9.2.1)) + 4) ≤ wr .i64 ((wr .i64 ((wr .i64 (1 + x9.2.1)) + 4)) + (wr .i64 x9.1)) ∧ wr .i64 ((wr .i64 ((wr .i64 (1 + x9.2.1)) + 4)) + (wr .i64 x9.1)) ≤ (x1.length : Int)) (Bd (r1_sums.f z (cut x1 (Int.toNat 0) (Int.toNat (wr .i64 (1 + x9.2.1)))) (cut x1 (Int.toNat (wr .i64 ((wr .i64 (1 + x9.2.1)) + 4))) (Int.toNat (wr .i64 ((wr .i64 ((wr .i64 (1 + x9.2.1)) + 4)) + (wr .i64 x9.1)))))) fun x2482 => Ck (wr .i64 (1 + x9.2.1) ≤ wr .i64 ((wr .i64 (1 + x9.2.1)) + 4) ∧ wr .i64 ((wr .i64 (1 + x9.2.1)) + 4) ≤ (x1.length : Int)) (If (!((bstr x2482).toList == (bstr (cut x1 (Int.toNat (wr .i64 (1 + x9.2.1))) (Int.toNat (wr .i64 ((wr .i64 (1 + x9.2.1)) + 4))))).toList)) (some (0, ([] : List Int), 0, 13)) (Ck ((([] : List Int).length + (cut x1 (Int.toNat (wr .i64 ((wr .i64 (1 + x9.2.1)) + 4))) (Int.toNat (wr .i64 ((wr .i64 ((wr .i64 (1 + x9.2.1)) + 4)) + (wr .i64 x9.1))))).length) * 1 ≤ 140737488355328) (Ck (0 < (x1.length : Int)) (some (gi (0 : Int) x1 0, (([] : List Int) ++ (cut x1 (Int.toNat (wr .i64 ((wr .i64 (1 + x9.2.1)) + 4))) (Int.toNat (wr .i64 ((wr .i64 ((wr .i64 (1 + x9.2.1)) + 4)) + (wr .i64 x9.1)))))), wr .i64 ((wr .i64 ((wr .i64 (1 + x9.2.1)) + 4)) + (wr .i64 x9.1)), 0))))))))))))
abbrev y0 (A2 : OA) (k3 : Nat) (x9 : Int × Int × Int) (x1 : List Int) : Value := .slice (slA A2 (Int.toNat (k3 : Int)) (Int.toNat (wr .i64 ((wr .i64 (1 + x9.2.1)) + 4))) 1) ((cut x1 (Int.toNat (wr .i64 ((wr .i64 (1 + x9.2.1)) + 4))) (Int.toNat (wr .i64 ((wr .i64 ((wr .i64 (1 + x9.2.1)) + 4)) + (wr .i64 x9.1))))).length) (Int.toNat (k3 : Int) - Int.toNat (wr .i64 ((wr .i64 (1 + x9.2.1)) + 4)))
abbrev y1 (A2 : OA) (k3 : Nat) (x9 : Int × Int × Int) (x1 : List Int) : Atom := sl .ro ku8 (slA A2 (Int.toNat (k3 : Int)) (Int.toNat (wr .i64 ((wr .i64 (1 + x9.2.1)) + 4))) 1) (Int.toNat (k3 : Int) - Int.toNat (wr .i64 ((wr .i64 (1 + x9.2.1)) + 4))) (cut x1 (Int.toNat (wr .i64 ((wr .i64 (1 + x9.2.1)) + 4))) (Int.toNat (wr .i64 ((wr .i64 ((wr .i64 (1 + x9.2.1)) + 4)) + (wr .i64 x9.1)))))
abbrev y2 (x9 : Int × Int × Int) : Value := .int .i64 (wr .i64 ((wr .i64 ((wr .i64 (1 + x9.2.1)) + 4)) + (wr .i64 x9.1)))
abbrev y3 (x9 : Int × Int × Int) : Value := .int .i64 (wr .i64 (1 + x9.2.1))
theorem ok (F : List Atom) (w : World) (z : Nat) (x1 : List Int) {A2 : OA} {k3 : Nat} (S : SL ([sl .ro ku8 A2 k3 x1] ++ F) w) (r : Int × (List Int) × Int × Int) (H : f z x1 = some r) : Calls Try.prog 77 #[.slice A2 x1.length k3] w (R F x1 A2 k3 r) := by
 refine enter (vs := [.slice A2 x1.length k3]) tf77 rfl Try.ntmps77 (nle rfl) fun a T => ?_
 refine sq (rg (v3 T rfl rfl rfl fun T => v1 T rfl fun T => sq (sq (rg (v1 T rfl fun T => rn T rfl tu24 rfl fun _ T => v1 T rfl fun T => ?_)))))
 rcases ifE H with ⟨h4, H⟩ | ⟨h4, H⟩
 ·refine cdT T rfl h4 (sq (rg (v3 T rfl rfl rfl fun T => v1 T rfl fun T => ?_)))
  replace S := S.nil ku8 .own
  obtain rfl := sj H
  exact rtn T tf77 rfl rfl ⟨none, 0, rfl, (S.only [0, 0] rfl)⟩
 ·refine cdF T rfl h4 (sk (sq (rg (v1 T rfl fun T => ?_))))
  have h5 := S.len (i := 0) rfl
  obtain ⟨h6, H⟩ := ck H
  refine r_slR (ix := 0) (xs := x1) T S rfl rfl (fun h => by cases h) rfl rfl rfl (by decide) h6 (Int.le_refl _) (by omega) (by omega) tu24 ts5 rfl fun _ A7 S T => ?_
  obtain ⟨x9, h8, H⟩ := bd H
  refine rc T Try.call92 rfl rfl (r1_TakeNumber.ok _ _ z (cut x1 (Int.toNat 1) (Int.toNat (x1.length : Int))) (S.sel (is := [0]) rfl) _ h8) ?_
  rintro _ _ ⟨rfl, S⟩
  refine ⟨_, rfl, fun _ T => ?_⟩
  replace S := S.join
  refine v3 T rfl rfl rfl fun T => v3 T rfl rfl rfl fun T => v1 T rfl fun T => sq (sq (rg (v2 T rfl rfl fun T => ?_)))
  rcases ifE H with ⟨h10, H⟩ | ⟨h10, H⟩
  ·refine cdT T rfl h10 (sq (rg (v3 T rfl rfl rfl fun T => v2 T rfl rfl fun T => ?_)))
   replace S := S.nil ku8 .own
   obtain rfl := sj H
   exact rtn T tf77 rfl rfl ⟨none, 0, rfl, (S.only [0, 1] rfl)⟩
  ·refine cdF T rfl h10 (sk (sq (sq (rg (v2 T rfl rfl fun T => ?_)))))
   rcases ifE H with ⟨h11, H⟩ | ⟨h11, H⟩
   ·refine cdT T rfl h11 (sq (rg (v3 T rfl rfl rfl fun T => v1 T rfl fun T => ?_)))
    replace S := S.nil ku8 .own
    obtain rfl := sj H
    exact rtn T tf77 rfl rfl ⟨none, 0, rfl, (S.only [0, 1] rfl)⟩
   ·refine cdF T rfl h11 (sk (sq (rg (v3 T rfl rfl rfl fun T => sq (sq (rg (v1 T rfl fun T => rn T rfl tu24 rfl fun _ T => v2 T rfl rfl fun T => r_conv T rfl tu3 tu34 rfl fun _ T => v3 T rfl rfl rfl fun T => ?_)))))))
    rcases ifE H with ⟨h12, H⟩ | ⟨h12, H⟩
    ·refine cdT T rfl h12 (sq (rg (v3 T rfl rfl rfl fun T => v1 T rfl fun T => ?_)))
     replace S := S.nil ku8 .own
     obtain rfl := sj H
     exact rtn T tf77 rfl rfl ⟨none, 0, rfl, (S.only [0, 1] rfl)⟩
    ·refine cdF T rfl h12 (sk (sq (rg (v3 T rfl rfl rfl fun T => r_conv T rfl tu34 tu3 rfl fun _ T => v2 T rfl rfl fun T => sq ?_))))
     obtain ⟨h2121, H⟩ := ck H
     replace S := S.cutR (ix := 1) (i := 0) (j := wr .i64 (1 + x9.2.1)) (k := (k3 : Int)) rfl (Int.le_refl _) h2121.1 h2121.2 (by have := h2121.2; omega) (by omega)
     obtain ⟨h2421, H⟩ := ck H
     replace S := S.cutR (ix := 2) (i := wr .i64 ((wr .i64 (1 + x9.2.1)) + 4)) (j := wr .i64 ((wr .i64 ((wr .i64 (1 + x9.2.1)) + 4)) + (wr .i64 x9.1))) (k := (k3 : Int)) rfl h2421.1 h2421.2.1 h2421.2.2 (by have := h2421.2.2; omega) (by omega)
     refine Gets.drawn (l := [(y1 A2 k3 x9 x1), sl .ro ku8 (slA A2 (Int.toNat (k3 : Int)) (Int.toNat 0) 1) (Int.toNat (k3 : Int) - Int.toNat 0) (cut x1 (Int.toNat 0) (Int.toNat (wr .i64 (1 + x9.2.1)))), sl .ro ku8 A2 k3 x1]) (V := [some (.slice A2 x1.length k3, true), some ((y3 x9), true), some (.slice (slA A2 (Int.toNat (k3 : Int)) (Int.toNat 0) 1) ((cut x1 (Int.toNat 0) (Int.toNat (wr .i64 (1 + x9.2.1)))).length) (Int.toNat (k3 : Int) - Int.toNat 0), true), some (.slice A2 x1.length k3, true), some ((y3 x9), true), some (.int .i64 (wr .i64 ((wr .i64 (1 + x9.2.1)) + 4)), true), some ((y2 x9), true), some ((y0 A2 k3 x9 x1), true), none, none]) mixed T (S.only [0, 0, 1] rfl) rfl ?_
     refine stage (some 8) rfl rfl ⟨⟨_, _, rfl, (avl [0] rfl), fun _ _ _ T S => v1 T rfl fun T => ⟨rfl, T⟩⟩, ⟨_, _, rfl, (avl [9] rfl), fun _ _ _ T S => v1 T rfl fun T => ⟨rfl, T⟩⟩, ⟨_, _, rfl, (avl [43, 44] rfl), fun _ _ _ T S => r_slQ (xs := x1) T rfl (fun h => by cases h) rfl rfl rfl (Int.le_refl _) h2121.1 h2121.2 (by have := h2121.2; omega) (by omega) tu24 ts5 rfl fun _ T => ⟨rfl, T⟩⟩, ⟨_, _, rfl, (avl [0] rfl), fun _ _ _ T S => v1 T rfl fun T => ⟨rfl, T⟩⟩, ⟨_, _, rfl, (avl [9] rfl), fun _ _ _ T S => v1 T rfl fun T => ⟨rfl, T⟩⟩, ⟨_, _, rfl, (avl [47] rfl), fun _ _ _ T S => v1 T rfl fun T => ⟨rfl, T⟩⟩, ⟨_, _, rfl, (avl [10] rfl), fun _ _ _ T S => v1 T rfl fun T => ⟨rfl, T⟩⟩, ⟨_, _, rfl, (avl [46, 48, 49] rfl), fun _ _ _ T S => r_slQ (xs := x1) T rfl (fun h => by cases h) rfl rfl rfl h2421.1 h2421.2.1 h2421.2.2 (by have := h2421.2.2; omega) (by omega) tu24 ts5 rfl fun _ T => ⟨rfl, T⟩⟩, trivial⟩ rfl (fun i hi => ?_) (fun h => by cases h)
     cases hi
     refine ⟨rfl, _, _, rfl, (avl [45, 50] rfl), fun u a w T S => ?_⟩
     obtain ⟨x2482, h2481, H⟩ := bd H
     refine rc T Try.call93 rfl rfl (r1_sums.ok _ _ z (cut x1 (Int.toNat 0) (Int.toNat (wr .i64 (1 + x9.2.1)))) (cut x1 (Int.toNat (wr .i64 ((wr .i64 (1 + x9.2.1)) + 4))) (Int.toNat (wr .i64 ((wr .i64 ((wr .i64 (1 + x9.2.1)) + 4)) + (wr .i64 x9.1))))) (S.sel (is := [1, 0]) rfl) _ h2481) ?_
     rintro _ _ ⟨A2483, k2484, rfl, S⟩
     refine ⟨_, rfl, fun _ T => ?_⟩
     replace S := S.join
     refine ⟨_, [some (.slice A2 x1.length k3, true), some ((y3 x9), true), some (.slice (slA A2 (Int.toNat (k3 : Int)) (Int.toNat 0) 1) ((cut x1 (Int.toNat 0) (Int.toNat (wr .i64 (1 + x9.2.1)))).length) (Int.toNat (k3 : Int) - Int.toNat 0), false), some (.slice A2 x1.length k3, true), some ((y3 x9), true), some (.int .i64 (wr .i64 ((wr .i64 (1 + x9.2.1)) + 4)), true), some ((y2 x9), true), some ((y0 A2 k3 x9 x1), false), some (.slice A2483 x2482.length k2484, false), some (.slice A2483 x2482.length k2484, true)], [sl .own ku8 A2483 k2484 x2482, sl .ro ku8 (slA A2 (Int.toNat (k3 : Int)) (Int.toNat 0) 1) (Int.toNat (k3 : Int) - Int.toNat 0) (cut x1 (Int.toNat 0) (Int.toNat (wr .i64 (1 + x9.2.1)))), (y1 A2 k3 x9 x1), sl .ro ku8 A2 k3 x1], rfl, (by repeat first | exact kx0 | apply kxs | apply kxn), rfl, ?_, T, S⟩
     refine stage none rfl rfl ⟨⟨_, _, rfl, (avl [0] rfl), fun _ _ _ T S => v1 T rfl fun T => ⟨rfl, T⟩⟩, ⟨_, _, rfl, (avl [9] rfl), fun _ _ _ T S => v1 T rfl fun T => ⟨rfl, T⟩⟩, ⟨_, _, rfl, (avl [0] rfl), fun _ _ _ T S => v1 T rfl fun T => ⟨rfl, T⟩⟩, ⟨_, _, rfl, (avl [9] rfl), fun _ _ _ T S => v1 T rfl fun T => ⟨rfl, T⟩⟩, ⟨_, _, rfl, (avl [47] rfl), fun _ _ _ T S => v1 T rfl fun T => ⟨rfl, T⟩⟩, ⟨_, _, rfl, (avl [10] rfl), fun _ _ _ T S => v1 T rfl fun T => ⟨rfl, T⟩⟩, ⟨_, _, rfl, (avl [51] rfl), fun _ _ _ T S => v1 T rfl fun T => ⟨rfl, T⟩⟩, trivial⟩ rfl (fun i hi => by cases hi) (fun _ _ a w T hv hb S => ?_)
     replace T := T.sub (r := [(0, .slice A2 x1.length k3), (9, (y3 x9)), (10, (y2 x9)), (11, .slice A2483 x2482.length k2484)]) ⟨hb 0 _ rfl rfl, hb 9 _ rfl rfl, hb 10 _ rfl rfl, hv 9 _ 11 rfl rfl rfl, trivial⟩
     refine sq (sq ?_)
     obtain ⟨h2961, H⟩ := ck H
     replace S := S.cutR (ix := 3) (i := wr .i64 (1 + x9.2.1)) (j := wr .i64 ((wr .i64 (1 + x9.2.1)) + 4)) (k := (k3 : Int)) rfl h2121.1 h2961.1 h2961.2 (by have := h2961.2; omega) (by omega)
     refine Gets.drawn (l := [sl .ro ku8 (slA A2 (Int.toNat (k3 : Int)) (Int.toNat (wr .i64 (1 + x9.2.1))) 1) (Int.toNat (k3 : Int) - Int.toNat (wr .i64 (1 + x9.2.1))) (cut x1 (Int.toNat (wr .i64 (1 + x9.2.1))) (Int.toNat (wr .i64 ((wr .i64 (1 + x9.2.1)) + 4)))), sl .own ku8 A2483 k2484 x2482, sl .ro ku8 A2 k3 x1]) (V := [some (.slice A2483 x2482.length k2484, true), some (.string (bstr x2482), true), some (.slice A2 x1.length k3, true), some ((y3 x9), true), some ((y3 x9), true), some (.int .i64 (wr .i64 ((wr .i64 (1 + x9.2.1)) + 4)), true), some (.slice (slA A2 (Int.toNat (k3 : Int)) (Int.toNat (wr .i64 (1 + x9.2.1))) 1) ((cut x1 (Int.toNat (wr .i64 (1 + x9.2.1))) (Int.toNat (wr .i64 ((wr .i64 (1 + x9.2.1)) + 4)))).length) (Int.toNat (k3 : Int) - Int.toNat (wr .i64 (1 + x9.2.1))), true), some (.string (bstr (cut x1 (Int.toNat (wr .i64 (1 + x9.2.1))) (Int.toNat (wr .i64 ((wr .i64 (1 + x9.2.1)) + 4))))), true), some (.bool (!((bstr x2482).toList == (bstr (cut x1 (Int.toNat (wr .i64 (1 + x9.2.1))) (Int.toNat (wr .i64 ((wr .i64 (1 + x9.2.1)) + 4))))).toList)), true)]) mixed T (S.only [0, 0, 2] rfl) rfl ?_
     refine stage none rfl rfl ⟨⟨_, _, rfl, (avl [11] rfl), fun _ _ _ T S => v1 T rfl fun T => ⟨rfl, T⟩⟩, ⟨_, _, rfl, (avl [52] rfl), fun _ _ _ T S => r_b2s (ix := 1) (xs := x2482) T S rfl rfl tu24 tu9 tu5 rfl fun _ T => ⟨rfl, T⟩⟩, ⟨_, _, rfl, (avl [0] rfl), fun _ _ _ T S => v1 T rfl fun T => ⟨rfl, T⟩⟩, ⟨_, _, rfl, (avl [9] rfl), fun _ _ _ T S => v1 T rfl fun T => ⟨rfl, T⟩⟩, ⟨_, _, rfl, (avl [9] rfl), fun _ _ _ T S => v1 T rfl fun T => ⟨rfl, T⟩⟩, ⟨_, _, rfl, (avl [56] rfl), fun _ _ _ T S => v1 T rfl fun T => ⟨rfl, T⟩⟩, ⟨_, _, rfl, (avl [54, 55, 57] rfl), fun _ _ _ T S => r_slQ (xs := x1) T rfl (fun h => by cases h) rfl rfl rfl h2121.1 h2961.1 h2961.2 (by have := h2961.2; omega) (by omega) tu24 ts5 rfl fun _ T => ⟨rfl, T⟩⟩, ⟨_, _, rfl, (avl [58] rfl), fun _ _ _ T S => r_b2s (ix := 0) (xs := (cut x1 (Int.toNat (wr .i64 (1 + x9.2.1))) (Int.toNat (wr .i64 ((wr .i64 (1 + x9.2.1)) + 4))))) T S rfl rfl tu24 tu9 tu5 rfl fun _ T => ⟨rfl, T⟩⟩, ⟨_, _, rfl, (avl [53, 59] rfl), fun _ _ _ T S => v1 T rfl fun T => ⟨rfl, T⟩⟩, trivial⟩ rfl (fun i hi => by cases hi) (fun _ _ a w T hv hb S => ?_)
     replace T := T.sub (r := [(0, .slice A2 x1.length k3), (9, (y3 x9)), (10, (y2 x9)), (60, .bool (!((bstr x2482).toList == (bstr (cut x1 (Int.toNat (wr .i64 (1 + x9.2.1))) (Int.toNat (wr .i64 ((wr .i64 (1 + x9.2.1)) + 4))))).toList)))]) ⟨hb 0 _ rfl rfl, hb 9 _ rfl rfl, hb 10 _ rfl rfl, hv 8 _ 60 rfl rfl rfl, trivial⟩
     rcases ifE H with ⟨h13, H⟩ | ⟨h13, H⟩
     ·refine cdT T rfl h13 (sq (rg (v3 T rfl rfl rfl fun T => v1 T rfl fun T => ?_)))
      replace S := S.nil ku8 .own
      obtain rfl := sj H
      exact rtn T tf77 rfl rfl ⟨none, 0, rfl, (S.only [0, 2] rfl)⟩
     ·refine cdF T rfl h13 (sk (sq (rg (v1 T rfl fun T => sq (rg (v3 T rfl rfl rfl fun T => v1 T rfl fun T => ?_))))))
      refine v1 T rfl fun T => r_slR (ix := 2) (xs := x1) T S rfl rfl (fun h => by cases h) rfl rfl rfl h2421.1 h2421.2.1 h2421.2.2 (by have := h2421.2.2; omega) (by omega) tu24 ts5 rfl fun _ A14 S T => ?_
      replace S := S.nil ku8 .own
      obtain ⟨h17, H⟩ := ck H
      refine r_app (ix := 0) (iy := 1) (xs := ([] : List Int)) (ys := (cut x1 (Int.toNat (wr .i64 ((wr .i64 (1 + x9.2.1)) + 4))) (Int.toNat (wr .i64 ((wr .i64 ((wr .i64 (1 + x9.2.1)) + 4)) + (wr .i64 x9.1)))))) T S rfl rfl rfl rfl (by decide) sty24 tu24 (by decide) h17 rfl fun _ _ A15 k16 S T => ?_
      refine v1 T rfl fun T => sq (rg (v1 T rfl fun T => ?_))
      obtain ⟨h18, H⟩ := ck H
      refine r_ia (ix := 4) T S rfl rfl rfl rfl tu24 ts5 (by decide) h18 rfl fun _ T => ?_
      refine r_ldE (ix := 4) (i := 0) (off := 0) (f := (Value.int .u8)) T S rfl ti5 rfl (0 : Int) _ rfl rfl (Fld.all _) (by decide) h18 id rfl fun _ T => ?_
      refine v3 T rfl rfl rfl fun T => v3 T rfl rfl rfl fun T => ?_
      obtain rfl := sj H
      exact rtn T tf77 rfl rfl ⟨A15, k16, rfl, (S.only [0, 3] rfl)⟩
end r1_TakeFrame
namespace r4_reader_number
def R (F : List Atom) (b2 : Nat) (r : Int × r4_reader) : Ending → World → Prop := fun e w' => ∃ (A12 : OA), ∃ (k13 : Nat), e = .returned (.int .u64 r.1) ∧ SL ([blk b2 [.slice A12 r.2.b.length k13, .bool r.2.bad], sl .ro ku8 A12 k13 r.2.b] ++ F) w'
def f (z : Nat) (x1 : r4_reader) : Option (Int × r4_reader) := Bd (r1_TakeNumber.f z x1.b) fun x6 => If (x6.2.2 != 0) (some (0, (r4_reader.mk ([] : List Int) true))) (Ck (0 ≤ x6.2.1 ∧ x6.2.1 ≤ (x1.b.length : Int)) (some (x6.1, (r4_reader.mk (cut x1.b (Int.toNat x6.2.1) (Int.toNat (x1.b.length : Int))) x1.bad))))
theorem ok (F : List Atom) (w : World) (z : Nat) (x1 : r4_reader) {b2 : Nat} {A3 : OA} {k4 : Nat} (S : SL ([blk b2 [.slice A3 x1.b.length k4, .bool x1.bad], sl .ro ku8 A3 k4 x1.b] ++ F) w) (r : Int × r4_reader) (H : f z x1 = some r) : Calls Try.prog 94 #[.pointer (some ⟨b2, 0, none⟩)] w (R F b2 r) := by
 refine enter (vs := [.pointer (some ⟨b2, 0, none⟩)]) Try.func94 rfl Try.ntmps94 (nle rfl) fun a T => ?_
 refine sq (rg (v1 T rfl fun T => sq (rg (v2 T rfl rfl fun T => r_fa (o' := 0) T rfl tu128 rfl ts24 rfl rfl fun _ T => lB (ix := 0) T S rfl ti24 rfl rfl rfl fun _ T => ?_))))
 obtain ⟨x6, h5, H⟩ := bd H
 refine rc T Try.call92 rfl rfl (r1_TakeNumber.ok _ _ z x1.b (S.sel (is := [1]) rfl) _ h5) ?_
 rintro _ _ ⟨rfl, S⟩
 refine ⟨_, rfl, fun _ T => ?_⟩
 replace S := S.join
 refine v3 T rfl rfl rfl fun T => v3 T rfl rfl rfl fun T => v1 T rfl fun T => sq (sq (rg (v2 T rfl rfl fun T => ?_)))
 rcases ifE H with ⟨h7, H⟩ | ⟨h7, H⟩
 ·refine cdT T rfl h7 (sq (rg (v2 T rfl rfl fun T => r_fa (o' := 1) T rfl tu128 rfl ts4 rfl rfl fun _ T => r_stB (ix := 1) T S rfl rfl rfl ts4 rfl (nle rfl) rfl fun _ S => sq (rg (v2 T rfl rfl fun T => r_fa (o' := 0) T rfl tu128 rfl ts24 rfl rfl fun _ T => r_stB (ix := 1) T S rfl rfl rfl ts24 rfl (nle rfl) rfl fun _ S => sq (rg (v1 T rfl fun T => ?_)))))))
  replace S := S.nil ku8 .ro
  replace S : SL ([sl .ro ku8 none 0 ([] : List Int), sl .ro ku8 A3 k4 x1.b, blk b2 [.slice none (([] : List Int).length) 0, .bool true]] ++ F) _ := S.reB (i := 2) rfl (by simp) rfl
  obtain rfl := sj H
  exact rtn T Try.func94 rfl rfl ⟨none, 0, rfl, (S.only [2, 0] rfl)⟩
 ·refine cdF T rfl h7 (sk (sq (rg (v3 T rfl rfl rfl fun T => r_fa (o' := 0) T rfl tu128 rfl ts24 rfl rfl fun _ T => lB (ix := 1) T S rfl ti24 rfl rfl rfl fun _ T => v1 T rfl fun T => ?_))))
  have h8 := S.len (i := 0) rfl
  obtain ⟨h9, H⟩ := ck H
  refine r_slR (ix := 0) (xs := x1.b) T S rfl rfl (fun h => by cases h) rfl rfl rfl h9.1 h9.2 (Int.le_refl _) (by omega) (by omega) tu24 ts5 rfl fun _ A10 S T => ?_
  refine v1 T rfl fun T => r_fa (o' := 0) T rfl tu128 rfl ts24 rfl rfl fun _ T => r_stB (ix := 2) T S rfl rfl rfl ts24 rfl (nle rfl) rfl fun _ S => sq (rg (v2 T rfl rfl fun T => ?_))
  obtain rfl := sj H
  exact rtn T Try.func94 rfl rfl ⟨A10, (Int.toNat (k4 : Int) - Int.toNat x6.2.1), rfl, (S.only [2, 0] rfl)⟩
end r4_reader_number
namespace r4_reader_take
def R (F : List Atom) (b2 : Nat) (r : (List Int) × r4_reader) : Ending → World → Prop := fun e w' => ∃ (A11 : OA), ∃ (k12 : Nat), ∃ (A14 : OA), ∃ (k15 : Nat), e = .returned (.slice A11 r.1.length k12) ∧ SL ([sl .ro ku8 A11 k12 r.1, blk b2 [.slice A14 r.2.b.length k15, .bool r.2.bad], sl .ro ku8 A14 k15 r.2.b] ++ F) w'
def f (x1 : r4_reader) (x5 : Int) : Option ((List Int) × r4_reader) := If (decide (x5 > (wr .u64 (x1.b.length : Int)))) (some (([] : List Int), (r4_reader.mk ([] : List Int) true))) (Ck (0 ≤ x5 ∧ x5 ≤ (x1.b.length : Int)) (some ((cut x1.b (Int.toNat 0) (Int.toNat x5)), (r4_reader.mk (cut x1.b (Int.toNat x5) (Int.toNat (x1.b.length : Int))) x1.bad))))
theorem ok (F : List Atom) (w : World) (x1 : r4_reader) (x5 : Int) {b2 : Nat} {A3 : OA} {k4 : Nat} (S : SL ([blk b2 [.slice A3 x1.b.length k4, .bool x1.bad], sl .ro ku8 A3 k4 x1.b] ++ F) w) (r : (List Int) × r4_reader) (H : f x1 x5 = some r) : Calls Try.prog 95 #[.pointer (some ⟨b2, 0, none⟩), .int .u64 x5] w (R F b2 r) := by
 refine enter (vs := [.pointer (some ⟨b2, 0, none⟩), .int .u64 x5]) Try.func95 rfl Try.ntmps95 (nle rfl) fun a T => ?_
 refine sq (rg (v1 T rfl fun T => sq (sq (rg (v3 T rfl rfl rfl fun T => r_fa (o' := 0) T rfl tu128 rfl ts24 rfl rfl fun _ T => lB (ix := 0) T S rfl ti24 rfl rfl rfl fun _ T => rn T rfl tu24 rfl fun _ T => r_conv T rfl tu3 tu34 rfl fun _ T => v1 T rfl fun T => ?_)))))
 rcases ifE H with ⟨h6, H⟩ | ⟨h6, H⟩
 ·refine cdT T rfl h6 (sq (rg (v2 T rfl rfl fun T => r_fa (o' := 1) T rfl tu128 rfl ts4 rfl rfl fun _ T => r_stB (ix := 0) T S rfl rfl rfl ts4 rfl (nle rfl) rfl fun _ S => sq (rg (v2 T rfl rfl fun T => r_fa (o' := 0) T rfl tu128 rfl ts24 rfl rfl fun _ T => r_stB (ix := 0) T S rfl rfl rfl ts24 rfl (nle rfl) rfl fun _ S => sq (rg (v1 T rfl fun T => ?_)))))))
  replace S := S.nil ku8 .ro
  replace S := S.nil ku8 .ro
  replace S : SL ([sl .ro ku8 none 0 ([] : List Int), sl .ro ku8 none 0 ([] : List Int), blk b2 [.slice none (([] : List Int).length) 0, .bool true], sl .ro ku8 A3 k4 x1.b] ++ F) _ := S.reB (i := 2) rfl (by simp) rfl
  obtain rfl := sj H
  exact rtn T Try.func95 rfl rfl ⟨none, 0, none, 0, rfl, (S.only [1, 1, 0] rfl)⟩
 ·refine cdF T rfl h6 (sk (sq (rg (v2 T rfl rfl fun T => r_fa (o' := 0) T rfl tu128 rfl ts24 rfl rfl fun _ T => lB (ix := 0) T S rfl ti24 rfl rfl rfl fun _ T => v1 T rfl fun T => ?_))))
  have h7 := S.len (i := 1) rfl
  obtain ⟨h8, H⟩ := ck H
  refine r_slR (ix := 1) (xs := x1.b) T S rfl rfl (fun h => by cases h) rfl rfl rfl (Int.le_refl _) h8.1 h8.2 (by have := h8.2; omega) (by omega) tu24 ts5 rfl fun _ A9 S T => ?_
  refine v1 T rfl fun T => sq (rg (v3 T rfl rfl rfl fun T => r_fa (o' := 0) T rfl tu128 rfl ts24 rfl rfl fun _ T => lB (ix := 1) T S rfl ti24 rfl rfl rfl fun _ T => ?_))
  refine v1 T rfl fun T => r_slR (ix := 2) (xs := x1.b) T S rfl rfl (fun h => by cases h) rfl rfl rfl h8.1 h8.2 (Int.le_refl _) (by omega) (by omega) tu24 ts5 rfl fun _ A10 S T => ?_
  refine v1 T rfl fun T => r_fa (o' := 0) T rfl tu128 rfl ts24 rfl rfl fun _ T => r_stB (ix := 2) T S rfl rfl rfl ts24 rfl (nle rfl) rfl fun _ S => sq (rg (v2 T rfl rfl fun T => ?_))
  obtain rfl := sj H
  exact rtn T Try.func95 rfl rfl ⟨A9, (Int.toNat (k4 : Int) - Int.toNat 0), A10, (Int.toNat (k4 : Int) - Int.toNat x5), rfl, (S.only [1, 1, 0] rfl)⟩
end r4_reader_take
namespace r4_entries
noncomputable def c0 : Code := match Try.f78.body with | some c => c | none => .skip
def R (F : List Atom) (x1 : List Int) (A2 : OA) (k3 : Nat) (r : (List aE) × Bool) : Ending → World → Prop := fun e w' => ∃ (A75 : OA), ∃ (k76 : Nat), e = .returned (.tuple #[.slice A75 r.1.length k76, .bool r.2]) ∧ SL ([sl .own kaE A75 k76 r.1, sl .ro ku8 A2 k3 x1] ++ F) w'
def J2 (z : Nat) (x8 : Bool) (x9 : List aE) : Option ((List aE) × Bool) := some (x9, !x8)
def J1 (z : Nat) : Option ((List aE) × Bool) := some (([] : List aE), false)
def L0 (z : Nat) : Nat → (List aE) → (List Int) → (List Int) → Bool → Option ((List aE) × Bool)
 | 0, _, _, _, _ => none
 | m + 1, x9, x12, x5, x8 => If (decide ((x5.length : Int) > 0)) (If (!x8) (Bd (r4_reader_number.f z (r4_reader.mk x5 x8)) fun x18 => Bd (r4_reader_number.f z x18.2) fun x23 => Bd (r4_reader_number.f z x23.2) fun x28 => Bd (r4_reader_take.f x28.2 1) fun x33 => Bd (r4_reader_number.f z x33.2) fun x40 => Bd (r4_reader_take.f x40.2 x23.1) fun x45 => Bd (r4_reader_take.f x45.2 x40.1) fun x52 => If x52.2.bad (J1 z) (If (decide (x18.1 > (wr .u64 (x12.length : Int)))) (J1 z) (If (decide (x23.1 > 256)) (J1 z) (If (decide ((wr .u64 (x18.1 + x23.1)) > 256)) (J1 z) (If (decide ((x9.length : Int) ≥ 65536)) (J1 z) (Ck (0 ≤ x18.1 ∧ x18.1 ≤ (x12.length : Int)) (Ck ((([] : List Int).length + (cut x12 (Int.toNat 0) (Int.toNat x18.1)).length) * 1 ≤ 140737488355328) (Ck (((([] : List Int) ++ (cut x12 (Int.toNat 0) (Int.toNat x18.1))).length + x45.1.length) * 1 ≤ 140737488355328) (Ck (0 < (x33.1.length : Int)) (Ck ((([] : List Int).length + x52.1.length) * 1 ≤ 140737488355328) (Ck ((x9.length + [(aE.mk ((([] : List Int) ++ (cut x12 (Int.toNat 0) (Int.toNat x18.1))) ++ x45.1) x28.1 ((gi (0 : Int) x33.1 0) == 1) (([] : List Int) ++ x52.1))].length) * 64 ≤ 140737488355328) (L0 z m (x9 ++ [(aE.mk ((([] : List Int) ++ (cut x12 (Int.toNat 0) (Int.toNat x18.1))) ++ x45.1) x28.1 ((gi (0 : Int) x33.1 0) == 1) (([] : List Int) ++ x52.1))]) ((([] : List Int) ++ (cut x12 (Int.toNat 0) (Int.toNat x18.1))) ++ x45.1) x52.2.b x52.2.bad)))))))))))) (J2 z x8 x9)) (J2 z x8 x9)
def f (z : Nat) (x1 : List Int) : Option ((List aE) × Bool) := L0 z z [] [] x1 false
noncomputable def ptJ2 : List Item := [.code (cL (cr 5 c0)), .code (cr 6 c0)]
noncomputable def ptJ1 : List Item := [.code (cL (cT (cR (cL (cr 7 (cB (cR (cB (cB (cL (cr 4 c0))))))))))), .code (cR (cT (cR (cL (cr 7 (cB (cR (cB (cB (cL (cr 4 c0))))))))))), .code (cr 8 (cB (cR (cB (cB (cL (cr 4 c0))))))), .inBlock 1, .inLoop (cB (cB (cL (cr 4 c0)))), .inBlock 0, .code (cr 5 c0)]
noncomputable def ptL0 : List Item := [.code (cB (cB (cL (cr 4 c0)))), .inLoop (cB (cB (cL (cr 4 c0)))), .inBlock 0, .code (cr 5 c0)]
abbrev y0 (A13 : OA) (k14 : Nat) (x12 : List Int) (x18 : Int × r4_reader) : Atom := sl .ro ku8 (slA A13 (Int.toNat (k14 : Int)) (Int.toNat 0) 1) (Int.toNat (k14 : Int) - Int.toNat 0) (cut x12 (Int.toNat 0) (Int.toNat x18.1))
abbrev y1 (A13 : OA) (k14 : Nat) (x12 : List Int) (x18 : Int × r4_reader) : Value := .slice (slA A13 (Int.toNat (k14 : Int)) (Int.toNat 0) 1) ((cut x12 (Int.toNat 0) (Int.toNat x18.1)).length) (Int.toNat (k14 : Int) - Int.toNat 0)
theorem J2_ok (F : List Atom) (r : (List aE) × Bool) (z : Nat) (x1 : List Int) (A2 : OA) (k3 b4 : Nat) (A10 : OA) (x9 : List aE) (k11 : Nat) (A6 : OA) (x5 : List Int) (k7 : Nat) (x8 : Bool) (a : Act) (w : World) (T : Tm 109 [(4, .pointer (some ⟨b4, 0, none⟩)), (5, .slice A10 x9.length k11)] a) (S : SL ([sl .ro ku8 A2 k3 x1, blk b4 [.slice A6 x5.length k7, .bool x8], sl .ro ku8 A6 k7 x5, sl .own kaE A10 k11 x9] ++ F) w) (H : J2 z x8 x9 = some r) : Gets Try.prog 78 ptJ2 a w (R F x1 A2 k3 r) := by
 refine Gets.drawn (l := [sl .ro ku8 A2 k3 x1, blk b4 [.slice A6 x5.length k7, .bool x8], sl .ro ku8 A6 k7 x5, sl .own kaE A10 k11 x9]) (V := [some (.slice A10 x9.length k11, true), some (.pointer (some ⟨b4, 0, none⟩), true), some (.pointer (some ⟨b4, 0, none⟩), true), some (.pointer (some ⟨b4, 1, none⟩), true), some (.bool x8, true), some (.bool (!x8), true), some (.slice A10 x9.length k11, true), some (.bool (!x8), true)]) mixed T S rfl ?_
 refine stage none rfl rfl ⟨⟨_, _, rfl, (avl [5] rfl), fun _ _ _ T S => v1 T rfl fun T => ⟨rfl, T⟩⟩, ⟨_, _, rfl, (avl [4] rfl), fun _ _ _ T S => v1 T rfl fun T => ⟨rfl, T⟩⟩, ⟨_, _, rfl, (avl [104] rfl), fun _ _ _ T S => v1 T rfl fun T => ⟨rfl, T⟩⟩, ⟨_, _, rfl, (avl [105] rfl), fun _ _ _ T S => r_fa (o' := 1) T rfl tu128 rfl ts4 rfl rfl fun _ T => ⟨rfl, T⟩⟩, ⟨_, _, rfl, (avl [106] rfl), fun _ _ _ T S => lB (ix := 1) T S rfl ti4 rfl rfl rfl fun _ T => ⟨rfl, T⟩⟩, ⟨_, _, rfl, (avl [107] rfl), fun _ _ _ T S => v1 T rfl fun T => ⟨rfl, T⟩⟩, ⟨_, _, rfl, (avl [103] rfl), fun _ _ _ T S => v1 T rfl fun T => ⟨rfl, T⟩⟩, ⟨_, _, rfl, (avl [108] rfl), fun _ _ _ T S => v1 T rfl fun T => ⟨rfl, T⟩⟩, trivial⟩ rfl (fun i hi => by cases hi) (fun _ _ a w T hv hb S => ?_)
 replace T := T.sub (r := [(2, .slice A10 x9.length k11), (3, .bool (!x8))]) ⟨hv 6 _ 2 rfl rfl rfl, hv 7 _ 3 rfl rfl rfl, trivial⟩
 obtain rfl := sj H
 exact rtn T Try.func78 rfl rfl ⟨A10, k11, rfl, (S.only [3, 0] rfl)⟩
theorem J1_ok (F : List Atom) (r : (List aE) × Bool) (z : Nat) (x1 : List Int) (A2 : OA) (k3 : Nat) (a : Act) (w : World) (T : Tm 109 [] a) (S : SL ([sl .ro ku8 A2 k3 x1] ++ F) w) (H : J1 z = some r) : Gets Try.prog 78 ptJ1 a w (R F x1 A2 k3 r) := by
 refine rg (v2 T rfl rfl fun T => ?_)
 replace S := S.nil kaE .own
 obtain rfl := sj H
 exact rtn T Try.func78 rfl rfl ⟨none, 0, rfl, (S.only [0, 0] rfl)⟩
theorem L0_ok (F : List Atom) (r : (List aE) × Bool) (z : Nat) (x1 : List Int) (A2 : OA) (k3 b4 m : Nat) : ∀ (A10 : OA) (x9 : List aE) (k11 : Nat) (A13 : OA) (x12 : List Int) (k14 : Nat) (A6 : OA) (x5 : List Int) (k7 : Nat) (x8 : Bool) (a : Act) (w : World), Tm 109 [(4, .pointer (some ⟨b4, 0, none⟩)), (5, .slice A10 x9.length k11), (6, .slice A13 x12.length k14)] a → SL ([sl .ro ku8 A2 k3 x1, blk b4 [.slice A6 x5.length k7, .bool x8], sl .ro ku8 A6 k7 x5, sl .own kaE A10 k11 x9, sl .ro ku8 A13 k14 x12] ++ F) w → L0 z m x9 x12 x5 x8 = some r → Gets Try.prog 78 ptL0 a w (R F x1 A2 k3 r) := by
 induction m with
 | zero => intro _ _ _ _ _ _ _ _ _ _ _ _ _ _ H; cases H
 | succ m ih =>
  intro A10 x9 k11 A13 x12 k14 A6 x5 k7 x8 a w T S H
  refine sq (sq (rg (v2 T rfl rfl fun T => r_fa (o' := 0) T rfl tu128 rfl ts24 rfl rfl fun _ T => lB (ix := 1) T S rfl ti24 rfl rfl rfl fun _ T => rn T rfl tu24 rfl fun _ T => v2 T rfl rfl fun T => ?_)))
  rcases ifE H with ⟨h15, H⟩ | ⟨h15, H⟩
  ·refine gy T rfl h15 (v1 T rfl fun T => gy T rfl h15 (v1 T rfl fun T => gy T rfl h15 (r_fa (o' := 1) T rfl tu128 rfl ts4 rfl rfl fun _ T => gy T rfl h15 (lB (ix := 1) T S rfl ti4 rfl rfl rfl fun _ T => gy T rfl h15 (v1 T rfl fun T => pT T rfl h15 rfl rfl fun _ T => ?_)))))
   rcases ifE H with ⟨h16, H⟩ | ⟨h16, H⟩
   ·refine cdT T rfl h16 (sk (bq (sq (rg (v1 T rfl fun T => ?_)))))
    obtain ⟨x18, h17, H⟩ := bd H
    refine rc T tc94 rfl rfl (r4_reader_number.ok _ _ z (r4_reader.mk x5 x8) (S.sel (is := [1, 1]) rfl) _ h17) ?_
    rintro _ _ ⟨A20, k21, rfl, S⟩
    refine ⟨_, rfl, fun _ T => ?_⟩
    replace S := S.join
    refine v1 T rfl fun T => sq (rg (v1 T rfl fun T => ?_))
    obtain ⟨x23, h22, H⟩ := bd H
    refine rc T tc94 rfl rfl (r4_reader_number.ok _ _ z x18.2 (S.sel (is := [0, 0]) rfl) _ h22) ?_
    rintro _ _ ⟨A25, k26, rfl, S⟩
    refine ⟨_, rfl, fun _ T => ?_⟩
    replace S := S.join
    refine v1 T rfl fun T => sq (rg (v1 T rfl fun T => ?_))
    obtain ⟨x28, h27, H⟩ := bd H
    refine rc T tc94 rfl rfl (r4_reader_number.ok _ _ z x23.2 (S.sel (is := [0, 0]) rfl) _ h27) ?_
    rintro _ _ ⟨A30, k31, rfl, S⟩
    refine ⟨_, rfl, fun _ T => ?_⟩
    replace S := S.join
    refine v1 T rfl fun T => sq (rg (v1 T rfl fun T => ?_))
    obtain ⟨x33, h32, H⟩ := bd H
    refine rc T Try.call95 rfl rfl (r4_reader_take.ok _ _ x28.2 1 (S.sel (is := [0, 0]) rfl) _ h32) ?_
    rintro _ _ ⟨A34, k35, A37, k38, rfl, S⟩
    refine ⟨_, rfl, fun _ T => ?_⟩
    replace S := S.join
    refine v1 T rfl fun T => sq (rg (v1 T rfl fun T => ?_))
    obtain ⟨x40, h39, H⟩ := bd H
    refine rc T tc94 rfl rfl (r4_reader_number.ok _ _ z x33.2 (S.sel (is := [1, 1]) rfl) _ h39) ?_
    rintro _ _ ⟨A42, k43, rfl, S⟩
    refine ⟨_, rfl, fun _ T => ?_⟩
    replace S := S.join
    refine v1 T rfl fun T => sq (rg (v2 T rfl rfl fun T => ?_))
    obtain ⟨x45, h44, H⟩ := bd H
    refine rc T Try.call95 rfl rfl (r4_reader_take.ok _ _ x40.2 x23.1 (S.sel (is := [0, 0]) rfl) _ h44) ?_
    rintro _ _ ⟨A46, k47, A49, k50, rfl, S⟩
    refine ⟨_, rfl, fun _ T => ?_⟩
    replace S := S.join
    refine v1 T rfl fun T => sq (rg (v2 T rfl rfl fun T => ?_))
    obtain ⟨x52, h51, H⟩ := bd H
    refine rc T Try.call95 rfl rfl (r4_reader_take.ok _ _ x45.2 x40.1 (S.sel (is := [1, 1]) rfl) _ h51) ?_
    rintro _ _ ⟨A53, k54, A56, k57, rfl, S⟩
    refine ⟨_, rfl, fun _ T => ?_⟩
    replace S := S.join
    refine v1 T rfl fun T => sq (sq (rg (v2 T rfl rfl fun T => r_fa (o' := 1) T rfl tu128 rfl ts4 rfl rfl fun _ T => lB (ix := 1) T S rfl ti4 rfl rfl rfl fun _ T => v1 T rfl fun T => ?_)))
    rcases ifE H with ⟨h58, H⟩ | ⟨h58, H⟩
    ·refine gn T rfl h58 fun T => gn T rfl h58 fun T => gn T rfl h58 fun T => gn T rfl h58 fun T => gn T rfl h58 fun T => pT T rfl h58 rfl rfl fun _ T => v1 T rfl fun T => gn T rfl rfl fun T => gn T rfl rfl fun T => pT T rfl rfl rfl rfl fun _ T => v1 T rfl fun T => gn T rfl rfl fun T => gn T rfl rfl fun T => gn T rfl rfl fun T => gn T rfl rfl fun T => pT T rfl rfl rfl rfl fun _ T => v1 T rfl fun T => gn T rfl rfl fun T => gn T rfl rfl fun T => gn T rfl rfl fun T => pT T rfl rfl rfl rfl fun _ T => cdT T rfl rfl (sq ?_)
     exact J1_ok F r z x1 A2 k3 _ _ (T.sub trivial) (S.only [5] rfl) H
    ·refine gy T rfl h58 (v1 T rfl fun T => gy T rfl h58 (v1 T rfl fun T => gy T rfl h58 (rn T rfl tu24 rfl fun _ T => gy T rfl h58 (r_conv T rfl tu3 tu34 rfl fun _ T => gy T rfl h58 (v1 T rfl fun T => pF T rfl h58 rfl rfl fun _ T => v1 T rfl fun T => ?_)))))
     rcases ifE H with ⟨h59, H⟩ | ⟨h59, H⟩
     ·refine gn T rfl h59 fun T => gn T rfl h59 fun T => pT T rfl h59 rfl rfl fun _ T => v1 T rfl fun T => gn T rfl rfl fun T => gn T rfl rfl fun T => gn T rfl rfl fun T => gn T rfl rfl fun T => pT T rfl rfl rfl rfl fun _ T => v1 T rfl fun T => gn T rfl rfl fun T => gn T rfl rfl fun T => gn T rfl rfl fun T => pT T rfl rfl rfl rfl fun _ T => cdT T rfl rfl (sq ?_)
      exact J1_ok F r z x1 A2 k3 _ _ (T.sub trivial) (S.only [5] rfl) H
     ·refine gy T rfl h59 (v1 T rfl fun T => gy T rfl h59 (v1 T rfl fun T => pF T rfl h59 rfl rfl fun _ T => v1 T rfl fun T => ?_))
      rcases ifE H with ⟨h60, H⟩ | ⟨h60, H⟩
      ·refine gn T rfl h60 fun T => gn T rfl h60 fun T => gn T rfl h60 fun T => gn T rfl h60 fun T => pT T rfl h60 rfl rfl fun _ T => v1 T rfl fun T => gn T rfl rfl fun T => gn T rfl rfl fun T => gn T rfl rfl fun T => pT T rfl rfl rfl rfl fun _ T => cdT T rfl rfl (sq ?_)
       exact J1_ok F r z x1 A2 k3 _ _ (T.sub trivial) (S.only [5] rfl) H
      ·refine gy T rfl h60 (v1 T rfl fun T => gy T rfl h60 (v1 T rfl fun T => gy T rfl h60 (v1 T rfl fun T => gy T rfl h60 (v1 T rfl fun T => pF T rfl h60 rfl rfl fun _ T => v1 T rfl fun T => ?_))))
       rcases ifE H with ⟨h61, H⟩ | ⟨h61, H⟩
       ·refine gn T rfl h61 fun T => gn T rfl h61 fun T => gn T rfl h61 fun T => pT T rfl h61 rfl rfl fun _ T => cdT T rfl rfl (sq ?_)
        exact J1_ok F r z x1 A2 k3 _ _ (T.sub trivial) (S.only [5] rfl) H
       ·refine gy T rfl h61 (v1 T rfl fun T => gy T rfl h61 (rn T rfl tu22 rfl fun _ T => gy T rfl h61 (v1 T rfl fun T => pF T rfl h61 rfl rfl fun _ T => ?_)))
        rcases ifE H with ⟨h62, H⟩ | ⟨h62, H⟩
        ·refine cdT T rfl h62 (sq ?_)
         exact J1_ok F r z x1 A2 k3 _ _ (T.sub trivial) (S.only [5] rfl) H
        ·refine cdF T rfl h62 (sk (sq (rg (r_alloc T S zv36 (cs := [.slice none 0 0, .int .u64 0, .bool false, .slice none 0 0]) rfl rfl fun _ _ b63 S T => sq ?_))))
         have h2241 := S.len (i := 8) rfl
         obtain ⟨h2242, H⟩ := ck H
         replace S := S.cutR (ix := 8) (i := 0) (j := x18.1) (k := (k14 : Int)) rfl (Int.le_refl _) h2242.1 h2242.2 (by have := h2242.2; omega) (by omega)
         refine Gets.drawn (l := [(y0 A13 k14 x12 x18), blk b63 [.slice none 0 0, .int .u64 0, .bool false, .slice none 0 0], sl .ro ku8 A53 k54 x52.1, blk b4 [.slice A56 x52.2.b.length k57, .bool x52.2.bad], sl .ro ku8 A56 k57 x52.2.b, sl .ro ku8 A46 k47 x45.1, sl .ro ku8 A34 k35 x33.1, sl .ro ku8 A2 k3 x1, sl .own kaE A10 k11 x9, sl .ro ku8 A13 k14 x12]) (V := [some (.pointer (some ⟨b63, 0, none⟩), true), some (.slice none 0 0, true), some (.slice A13 x12.length k14, true), some (.int .u64 x18.1, true), some ((y1 A13 k14 x12 x18), true), none, none, none]) mixed T S rfl ?_
         refine stage (some 5) rfl rfl ⟨⟨_, _, rfl, (avl [14] rfl), fun _ _ _ T S => r_fa (o' := 0) T rfl tu36 rfl ts24 rfl rfl fun _ T => ⟨rfl, T⟩⟩, ⟨_, _, rfl, (avl [73] rfl), fun _ _ _ T S => lB (ix := 1) T S rfl ti24 rfl rfl rfl fun _ T => ⟨rfl, T⟩⟩, ⟨_, _, rfl, (avl [6] rfl), fun _ _ _ T S => v1 T rfl fun T => ⟨rfl, T⟩⟩, ⟨_, _, rfl, (avl [7] rfl), fun _ _ _ T S => v1 T rfl fun T => ⟨rfl, T⟩⟩, ⟨_, _, rfl, (avl [75, 76] rfl), fun _ _ _ T S => r_slQ (xs := x12) T rfl (fun h => by cases h) rfl rfl rfl (Int.le_refl _) h2242.1 h2242.2 (by have := h2242.2; omega) (by omega) tu24 ts5 rfl fun _ T => ⟨rfl, T⟩⟩, trivial⟩ rfl (fun i hi => ?_) (fun h => by cases h)
         cases hi
         refine ⟨rfl, _, _, rfl, (avl [74, 77] rfl), fun u a w T S => ?_⟩
         replace S := S.nil ku8 .own
         obtain ⟨h2303, H⟩ := ck H
         refine r_app (ix := 0) (iy := 1) (xs := ([] : List Int)) (ys := (cut x12 (Int.toNat 0) (Int.toNat x18.1))) T S rfl rfl rfl rfl (by decide) sty24 tu24 (by decide) h2303 rfl fun _ _ A2301 k2302 S T => ?_
         refine ⟨_, [some (.pointer (some ⟨b63, 0, none⟩), true), some (.slice none 0 0, false), some (.slice A13 x12.length k14, true), some (.int .u64 x18.1, true), some ((y1 A13 k14 x12 x18), false), some (.slice A2301 ((([] : List Int) ++ (cut x12 (Int.toNat 0) (Int.toNat x18.1))).length) k2302, false), some (.pointer (some ⟨b63, 0, none⟩), true), none], [sl .own ku8 A2301 k2302 (([] : List Int) ++ (cut x12 (Int.toNat 0) (Int.toNat x18.1))), (y0 A13 k14 x12 x18), blk b63 [.slice none 0 0, .int .u64 0, .bool false, .slice none 0 0], sl .ro ku8 A53 k54 x52.1, blk b4 [.slice A56 x52.2.b.length k57, .bool x52.2.bad], sl .ro ku8 A56 k57 x52.2.b, sl .ro ku8 A46 k47 x45.1, sl .ro ku8 A34 k35 x33.1, sl .ro ku8 A2 k3 x1, sl .own kaE A10 k11 x9, sl .ro ku8 A13 k14 x12], rfl, (by repeat first | exact kx0 | apply kxs | apply kxn), rfl, ?_, T, S⟩
         refine stage (some 7) rfl rfl ⟨⟨_, _, rfl, (avl [14] rfl), fun _ _ _ T S => r_fa (o' := 0) T rfl tu36 rfl ts24 rfl rfl fun _ T => ⟨rfl, T⟩⟩, ⟨_, _, rfl, (avl [6] rfl), fun _ _ _ T S => v1 T rfl fun T => ⟨rfl, T⟩⟩, ⟨_, _, rfl, (avl [7] rfl), fun _ _ _ T S => v1 T rfl fun T => ⟨rfl, T⟩⟩, ⟨_, _, rfl, (avl [14] rfl), fun _ _ _ T S => r_fa (o' := 0) T rfl tu36 rfl ts24 rfl rfl fun _ T => ⟨rfl, T⟩⟩, trivial⟩ rfl (fun i hi => ?_) (fun h => by cases h)
         cases hi
         refine ⟨rfl, _, _, rfl, (avl [78, 79] rfl), fun u a w T S => ?_⟩
         refine r_stB (ix := 2) T S rfl rfl rfl ts24 rfl (nle rfl) rfl fun _ S => ?_
         refine ⟨_, [some (.pointer (some ⟨b63, 0, none⟩), false), some (.slice none 0 0, false), some (.slice A13 x12.length k14, false), some (.int .u64 x18.1, false), some ((y1 A13 k14 x12 x18), false), some (.slice A2301 ((([] : List Int) ++ (cut x12 (Int.toNat 0) (Int.toNat x18.1))).length) k2302, false), some (.pointer (some ⟨b63, 0, none⟩), false), some (undef, false)], [sl .own ku8 A2301 k2302 (([] : List Int) ++ (cut x12 (Int.toNat 0) (Int.toNat x18.1))), (y0 A13 k14 x12 x18), blk b63 [.slice A2301 ((([] : List Int) ++ (cut x12 (Int.toNat 0) (Int.toNat x18.1))).length) k2302, .int .u64 0, .bool false, .slice none 0 0], sl .ro ku8 A53 k54 x52.1, blk b4 [.slice A56 x52.2.b.length k57, .bool x52.2.bad], sl .ro ku8 A56 k57 x52.2.b, sl .ro ku8 A46 k47 x45.1, sl .ro ku8 A34 k35 x33.1, sl .ro ku8 A2 k3 x1, sl .own kaE A10 k11 x9, sl .ro ku8 A13 k14 x12], rfl, (by repeat first | exact kx0 | apply kxs | apply kxn), rfl, ?_, T, S⟩
         refine stage none rfl rfl trivial rfl (fun i hi => by cases hi) (fun _ _ a w T hv hb S => ?_)
         replace T := T.sub (r := [(4, .pointer (some ⟨b4, 0, none⟩)), (5, .slice A10 x9.length k11), (9, .int .u64 x28.1), (10, .slice A34 x33.1.length k35), (12, .slice A46 x45.1.length k47), (13, .slice A53 x52.1.length k54), (14, .pointer (some ⟨b63, 0, none⟩))]) ⟨hb 4 _ rfl rfl, hb 5 _ rfl rfl, hb 9 _ rfl rfl, hb 10 _ rfl rfl, hb 12 _ rfl rfl, hb 13 _ rfl rfl, hb 14 _ rfl rfl, trivial⟩
         refine sq (rg (r_fa (o' := 0) T rfl tu36 rfl ts24 rfl rfl fun _ T => lB (ix := 2) T S rfl ti24 rfl rfl rfl fun _ T => v1 T rfl fun T => ?_))
         obtain ⟨h66, H⟩ := ck H
         refine r_app (ix := 0) (iy := 6) (xs := (([] : List Int) ++ (cut x12 (Int.toNat 0) (Int.toNat x18.1)))) (ys := x45.1) T S rfl rfl rfl rfl (by decide) sty24 tu24 (by decide) h66 rfl fun _ _ A64 k65 S T => ?_
         refine r_fa (o' := 0) T rfl tu36 rfl ts24 rfl rfl fun _ T => r_stB (ix := 2) T S rfl rfl rfl ts24 rfl (nle rfl) rfl fun _ S => sq (rg (v1 T rfl fun T => r_fa (o' := 1) T rfl tu36 rfl ts34 rfl rfl fun _ T => r_stB (ix := 2) T S rfl rfl rfl ts34 rfl (nle rfl) rfl fun _ S => sq (rg (v1 T rfl fun T => ?_))))
         obtain ⟨h67, H⟩ := ck H
         refine r_ia (ix := 7) T S rfl rfl rfl rfl tu24 ts5 (by decide) h67 rfl fun _ T => ?_
         refine r_ldE (ix := 7) (i := 0) (off := 0) (f := (Value.int .u8)) T S rfl ti5 rfl (0 : Int) _ rfl rfl (Fld.all _) (by decide) h67 id rfl fun _ T => ?_
         refine v1 T rfl fun T => r_fa (o' := 2) T rfl tu36 rfl ts4 rfl rfl fun _ T => r_stB (ix := 2) T S rfl rfl rfl ts4 rfl (nle rfl) rfl fun _ S => sq (rg (r_fa (o' := 3) T rfl tu36 rfl ts24 rfl rfl fun _ T => lB (ix := 2) T S rfl ti24 rfl rfl rfl fun _ T => v1 T rfl fun T => ?_))
         replace S := S.nil ku8 .own
         obtain ⟨h70, H⟩ := ck H
         refine r_app (ix := 0) (iy := 4) (xs := ([] : List Int)) (ys := x52.1) T S rfl rfl rfl rfl (by decide) sty24 tu24 (by decide) h70 rfl fun _ _ A68 k69 S T => ?_
         refine r_fa (o' := 3) T rfl tu36 rfl ts24 rfl rfl fun _ T => r_stB (ix := 3) T S rfl rfl rfl ts24 rfl (nle rfl) rfl fun _ S => sq (rg (v1 T rfl fun T => r_ldBA (ix := 3) (ds := [.slice A64 (((([] : List Int) ++ (cut x12 (Int.toNat 0) (Int.toNat x18.1))) ++ x45.1).length) k65, .int .u64 x28.1, .bool ((gi (0 : Int) x33.1 0) == 1), .slice A68 ((([] : List Int) ++ x52.1).length) k69]) T S rfl ti36 rfl rfl ts36 rfl fun _ T => ?_))
         replace S := S.fixL (i := 1) rfl rfl
         replace S := S.fixL (i := 0) rfl rfl
         replace S : SL ([rp kaE (aE.mk ((([] : List Int) ++ (cut x12 (Int.toNat 0) (Int.toNat x18.1))) ++ x45.1) x28.1 ((gi (0 : Int) x33.1 0) == 1) (([] : List Int) ++ x52.1)) [.slice A64 (((([] : List Int) ++ (cut x12 (Int.toNat 0) (Int.toNat x18.1))) ++ x45.1).length) k65, .int .u64 x28.1, .bool ((gi (0 : Int) x33.1 0) == 1), .slice A68 ((([] : List Int) ++ x52.1).length) k69], sl .ro ku8 A68 k69 (([] : List Int) ++ x52.1), sl .ro ku8 A64 k65 ((([] : List Int) ++ (cut x12 (Int.toNat 0) (Int.toNat x18.1))) ++ x45.1), (y0 A13 k14 x12 x18), blk b63 [.slice A64 (((([] : List Int) ++ (cut x12 (Int.toNat 0) (Int.toNat x18.1))) ++ x45.1).length) k65, .int .u64 x28.1, .bool ((gi (0 : Int) x33.1 0) == 1), .slice A68 ((([] : List Int) ++ x52.1).length) k69], sl .ro ku8 A53 k54 x52.1, blk b4 [.slice A56 x52.2.b.length k57, .bool x52.2.bad], sl .ro ku8 A56 k57 x52.2.b, sl .ro ku8 A46 k47 x45.1, sl .ro ku8 A34 k35 x33.1, sl .ro ku8 A2 k3 x1, sl .own kaE A10 k11 x9, sl .ro ku8 A13 k14 x12] ++ F) _ := cl_aE (i0 := 1) (i1 := 0) S rfl rfl
         refine r_bsl (κ := kaE) (xs := [(aE.mk ((([] : List Int) ++ (cut x12 (Int.toNat 0) (Int.toNat x18.1))) ++ x45.1) x28.1 ((gi (0 : Int) x33.1 0) == 1) (([] : List Int) ++ x52.1))]) (vs := [.agg #[.slice A64 (((([] : List Int) ++ (cut x12 (Int.toNat 0) (Int.toNat x18.1))) ++ x45.1).length) k65, .int .u64 x28.1, .bool ((gi (0 : Int) x33.1 0) == 1), .slice A68 ((([] : List Int) ++ x52.1).length) k69]]) T S sty22 rfl ⟨_, _, rfl, ⟨0, rfl⟩, rfl⟩ rfl (by decide) rfl fun _ _ b71 S T => ?_
         replace S := S.only [0, 1, 1, 1, 1, 1, 1, 1, 1, 1, 1, 1, 1] rfl
         obtain ⟨h74, H⟩ := ck H
         refine r_app (ix := 11) (iy := 0) (xs := x9) (ys := [(aE.mk ((([] : List Int) ++ (cut x12 (Int.toNat 0) (Int.toNat x18.1))) ++ x45.1) x28.1 ((gi (0 : Int) x33.1 0) == 1) (([] : List Int) ++ x52.1))]) T S rfl rfl rfl rfl (by decide) sty22 tu22 (by decide) h74 rfl fun _ _ A72 k73 S T => ?_
         refine v1 T rfl fun T => rg (r_fa (o' := 0) T rfl tu36 rfl ts24 rfl rfl fun _ T => lB (ix := 4) T S rfl ti24 rfl rfl rfl fun _ T => v1 T rfl fun T => Gets.inBlock (Gets.inLoop ?_))
         exact ih A72 (x9 ++ [(aE.mk ((([] : List Int) ++ (cut x12 (Int.toNat 0) (Int.toNat x18.1))) ++ x45.1) x28.1 ((gi (0 : Int) x33.1 0) == 1) (([] : List Int) ++ x52.1))]) k73 A64 ((([] : List Int) ++ (cut x12 (Int.toNat 0) (Int.toNat x18.1))) ++ x45.1) k65 A56 x52.2.b k57 x52.2.bad _ _ (T.sb rfl) (S.only [10, 6, 6, 8, 2] rfl) H
   ·refine cdF T rfl h16 (Gets.exit rfl (sq ?_))
    exact J2_ok F r z x1 A2 k3 b4 A10 x9 k11 A6 x5 k7 x8 _ _ (T.sb rfl) (S.only [0, 0, 0, 0] rfl) H
  ·refine gn T rfl h15 fun T => gn T rfl h15 fun T => gn T rfl h15 fun T => gn T rfl h15 fun T => gn T rfl h15 fun T => pF T rfl h15 rfl rfl fun _ T => cdF T rfl rfl (Gets.exit rfl (sq ?_))
   exact J2_ok F r z x1 A2 k3 b4 A10 x9 k11 A6 x5 k7 x8 _ _ (T.sb rfl) (S.only [0, 0, 0, 0] rfl) H
theorem ok (F : List Atom) (w : World) (z : Nat) (x1 : List Int) {A2 : OA} {k3 : Nat} (S : SL ([sl .ro ku8 A2 k3 x1] ++ F) w) (r : (List aE) × Bool) (H : f z x1 = some r) : Calls Try.prog 78 #[.slice A2 x1.length k3] w (R F x1 A2 k3 r) := by
 refine enter (vs := [.slice A2 x1.length k3]) Try.func78 rfl Try.ntmps78 (nle rfl) fun a T => ?_
 refine sq (rg (v2 T rfl rfl fun T => sq (rg (v1 T rfl fun T => r_build (cs := #[.slice A2 x1.length k3, .bool false]) T stt128 rfl rfl rfl fun _ T => r_box T S rfl (cs := [.slice A2 x1.length k3, .bool false]) rfl rfl fun _ _ b4 S T => v1 T rfl fun T => sq (rg (v1 T rfl fun T => sq (rg (v1 T rfl fun T => sq (bq (Gets.loop ?_))))))))))
 replace S := S.nil kaE .own
 replace S := S.nil ku8 .ro
 replace S := S.dup (i := 3) rfl
 exact L0_ok F r z x1 A2 k3 b4 z none [] 0 none [] 0 A2 x1 k3 false _ _ (T.sb rfl) (S.only [4, 3, 0, 1, 0] rfl) H
end r4_entries
namespace r4_four
noncomputable def c0 : Code := match Try.f79.body with | some c => c | none => .skip
def R (F : List Atom) (x1 : List Int) (A2 : OA) (k3 : Nat) (m4 : Md) (r : Int) : Ending → World → Prop := fun e w' => e = .returned (.int .i64 r) ∧ SL ([sl m4 ku8 A2 k3 x1] ++ F) w'
def L0 (z : Nat) (x1 : List Int) : Nat → Int → Int → Option Int
 | 0, _, _ => none
 | m + 1, x5, x6 => If (decide (x6 < 4)) (Ck (0 ≤ x6 ∧ x6 < (x1.length : Int)) (L0 z x1 m (wr .i64 ((wr .i64 (256 * x5)) + (wr .i64 (gi (0 : Int) x1 x6)))) (wr .i64 (x6 + 1)))) (some x5)
def f (z : Nat) (x1 : List Int) : Option Int := L0 z x1 z 0 0
noncomputable def ptL0 : List Item := [.code (cB (cB (cR (cL (cR (cR c0)))))), .inLoop (cB (cB (cR (cL (cR (cR c0)))))), .inBlock 0, .code (cr 3 c0)]
theorem L0_ok (F : List Atom) (r : Int) (z : Nat) (x1 : List Int) (A2 : OA) (k3 : Nat) (m4 : Md) (m : Nat) : ∀ (x5 x6 : Int) (a : Act) (w : World), Tm 18 [(0, .slice A2 x1.length k3), (3, .int .i64 x5), (4, .int .i64 x6)] a → SL ([sl m4 ku8 A2 k3 x1] ++ F) w → L0 z x1 m x5 x6 = some r → Gets Try.prog 79 ptL0 a w (R F x1 A2 k3 m4 r) := by
 induction m with
 | zero => intro _ _ _ _ _ _ H; cases H
 | succ m ih =>
  intro x5 x6 a w T S H
  refine sq (sq (rg (v2 T rfl rfl fun T => ?_)))
  rcases ifE H with ⟨h7, H⟩ | ⟨h7, H⟩
  ·refine cdT T rfl h7 (sk (sq (bq (rg (v3 T rfl rfl rfl fun T => v1 T rfl fun T => ?_)))))
   obtain ⟨h8, H⟩ := ck H
   refine r_ia (ix := 0) T S rfl rfl rfl rfl tu24 ts5 h8.1 h8.2 rfl fun _ T => r_ldE (ix := 0) (i := x6) (off := 0) (f := (Value.int .u8)) T S rfl ti5 rfl (0 : Int) _ rfl rfl (Fld.all _) h8.1 h8.2 id rfl fun _ T => r_conv T rfl tu5 tu3 rfl fun _ T => v2 T rfl rfl fun T => Gets.inBlock (rg (v3 T rfl rfl rfl fun T => Gets.inLoop ?_))
   exact ih (wr .i64 ((wr .i64 (256 * x5)) + (wr .i64 (gi (0 : Int) x1 x6)))) (wr .i64 (x6 + 1)) _ _ (T.sb rfl) (S.only [0] rfl) H
  ·refine cdF T rfl h7 (Gets.exit rfl (sq (rg (v2 T rfl rfl fun T => ?_))))
   obtain rfl := sj H
   exact rtn T Try.func79 rfl rfl ⟨rfl, (S.only [0] rfl)⟩
theorem ok (F : List Atom) (w : World) (z : Nat) (x1 : List Int) {A2 : OA} {k3 : Nat} {m4 : Md} (S : SL ([sl m4 ku8 A2 k3 x1] ++ F) w) (r : Int) (H : f z x1 = some r) : Calls Try.prog 79 #[.slice A2 x1.length k3] w (R F x1 A2 k3 m4 r) := by
 refine enter (vs := [.slice A2 x1.length k3]) Try.func79 rfl Try.ntmps79 (nle rfl) fun a T => ?_
 refine sq (rg (v1 T rfl fun T => sq (rg (v1 T rfl fun T => sq (sq (rg (v1 T rfl fun T => bq (Gets.loop ?_))))))))
 exact L0_ok F r z x1 A2 k3 m4 z 0 0 _ _ (T.sb rfl) (S.only [0] rfl) H
end r4_four
namespace r4_Read
noncomputable def c0 : Code := match Try.f45.body with | some c => c | none => .skip
def R (F : List Atom) (x1 : List Int) (A2 : OA) (k3 : Nat) (r : (List aE) × Int × Int × Bool) : Ending → World → Prop := fun e w' => ∃ (A46 : OA), ∃ (k47 : Nat), e = .returned (.tuple #[.slice A46 r.1.length k47, .int .i64 r.2.1, .int .i64 r.2.2.1, .bool r.2.2.2]) ∧ SL ([sl .ro kaE A46 k47 r.1, sl .ro ku8 A2 k3 x1] ++ F) w'
def J3 (z : Nat) : Option ((List aE) × Int × Int × Bool) := some (([] : List aE), 0, 0, false)
def J2 (z : Nat) (x1 : List Int) (x6 : List aE) : Option ((List aE) × Int × Int × Bool) := Ck (0 ≤ wr .i64 ((x1.length : Int) - 16) ∧ wr .i64 ((x1.length : Int) - 16) ≤ wr .i64 ((x1.length : Int) - 12) ∧ wr .i64 ((x1.length : Int) - 12) ≤ (x1.length : Int)) (Bd (r4_four.f z (cut x1 (Int.toNat (wr .i64 ((x1.length : Int) - 16))) (Int.toNat (wr .i64 ((x1.length : Int) - 12))))) fun x35 => Ck (0 ≤ wr .i64 ((x1.length : Int) - 12) ∧ wr .i64 ((x1.length : Int) - 12) ≤ wr .i64 ((x1.length : Int) - 8) ∧ wr .i64 ((x1.length : Int) - 8) ≤ (x1.length : Int)) (Bd (r4_four.f z (cut x1 (Int.toNat (wr .i64 ((x1.length : Int) - 12))) (Int.toNat (wr .i64 ((x1.length : Int) - 8))))) fun x39 => Bd (r4_Build.f z x6 x35 x39) fun x41 => If (x41.2 != 0) (J3 z) (If (!((bstr x41.1).toList == (bstr x1).toList)) (J3 z) (some (x6, x35, x39, true)))))
def L1 (z : Nat) (x1 : List Int) : Nat → (List aE) → (List Int) → Option ((List aE) × Int × Int × Bool)
 | 0, _, _ => none
 | m + 1, x6, x9 => If (decide ((x9.length : Int) > 0)) (Ck (0 < (x9.length : Int)) (If ((gi (0 : Int) x9 0) == 68) (Bd (r1_TakeFrame.f z x9) fun x16 => If (x16.2.2.2 != 0) (some (([] : List aE), 0, 0, false)) (Bd (r4_entries.f z x16.2.1) fun x21 => If (!x21.2) (some (([] : List aE), 0, 0, false)) (Ck ((x6.length + x21.1.length) * 64 ≤ 140737488355328) (Ck (0 ≤ x16.2.2.1 ∧ x16.2.2.1 ≤ (x9.length : Int)) (L1 z x1 m (x6 ++ x21.1) (cut x9 (Int.toNat x16.2.2.1) (Int.toNat (x9.length : Int)))))))) (J2 z x1 x6))) (J2 z x1 x6)
def J0 (z : Nat) : Option ((List aE) × Int × Int × Bool) := some (([] : List aE), 0, 0, false)
def f (z : Nat) (x1 : List Int) : Option ((List aE) × Int × Int × Bool) := If (decide ((x1.length : Int) < 40)) (J0 z) (If (decide ((x1.length : Int) > 4194304)) (J0 z) (L1 z x1 z [] x1))
noncomputable def ptJ3 : List Item := [.code (cL (cT (cR (cL (cr 8 c0))))), .code (cR (cT (cR (cL (cr 8 c0))))), .code (cr 9 c0)]
noncomputable def ptJ2 : List Item := [.code (cL (cr 5 c0)), .code (cr 6 c0)]
noncomputable def ptL1 : List Item := [.code (cB (cB (cL (cr 4 c0)))), .inLoop (cB (cB (cL (cr 4 c0)))), .inBlock 0, .code (cr 5 c0)]
noncomputable def ptJ0 : List Item := [.code (cL (cT (cR (cL (cR c0))))), .code (cR (cT (cR (cL (cR c0))))), .code (cR (cR c0))]
theorem J3_ok (F : List Atom) (r : (List aE) × Int × Int × Bool) (z : Nat) (x1 : List Int) (A2 : OA) (k3 : Nat) (a : Act) (w : World) (T : Tm 95 [] a) (S : SL ([sl .ro ku8 A2 k3 x1] ++ F) w) (H : J3 z = some r) : Gets Try.prog 45 ptJ3 a w (R F x1 A2 k3 r) := by
 refine rg (v3 T rfl rfl rfl fun T => v1 T rfl fun T => ?_)
 replace S := S.nil kaE .ro
 obtain rfl := sj H
 exact rtn T tf45 rfl rfl ⟨none, 0, rfl, (S.only [0, 0] rfl)⟩
theorem J2_ok (F : List Atom) (r : (List aE) × Int × Int × Bool) (z : Nat) (x1 : List Int) (A2 : OA) (k3 : Nat) (A7 : OA) (x6 : List aE) (k8 : Nat) (a : Act) (w : World) (T : Tm 95 [(0, .slice A2 x1.length k3), (6, .slice A7 x6.length k8)] a) (S : SL ([sl .ro ku8 A2 k3 x1, sl .own kaE A7 k8 x6] ++ F) w) (H : J2 z x1 x6 = some r) : Gets Try.prog 45 ptJ2 a w (R F x1 A2 k3 r) := by
 refine rg (v2 T rfl rfl fun T => rn T rfl tu24 rfl fun _ T => v2 T rfl rfl fun T => rn T rfl tu24 rfl fun _ T => v1 T rfl fun T => ?_)
 have h31 := S.len (i := 0) rfl
 obtain ⟨h32, H⟩ := ck H
 refine r_slR (ix := 0) (xs := x1) T S rfl rfl (fun h => by cases h) rfl rfl rfl h32.1 h32.2.1 h32.2.2 (by have := h32.2.2; omega) (by omega) tu24 ts5 rfl fun _ A33 S T => ?_
 obtain ⟨x35, h34, H⟩ := bd H
 refine rc T Try.call79 rfl rfl (r4_four.ok _ _ z (cut x1 (Int.toNat (wr .i64 ((x1.length : Int) - 16))) (Int.toNat (wr .i64 ((x1.length : Int) - 12)))) (S.sel (is := [0]) rfl) _ h34) ?_
 rintro _ _ ⟨rfl, S⟩
 refine ⟨_, rfl, fun _ T => ?_⟩
 replace S := S.join
 refine v1 T rfl fun T => sq (rg (v2 T rfl rfl fun T => rn T rfl tu24 rfl fun _ T => v2 T rfl rfl fun T => rn T rfl tu24 rfl fun _ T => v1 T rfl fun T => ?_))
 obtain ⟨h36, H⟩ := ck H
 refine r_slR (ix := 1) (xs := x1) T S rfl rfl (fun h => by cases h) rfl rfl rfl h36.1 h36.2.1 h36.2.2 (by have := h36.2.2; omega) (by omega) tu24 ts5 rfl fun _ A37 S T => ?_
 obtain ⟨x39, h38, H⟩ := bd H
 refine rc T Try.call79 rfl rfl (r4_four.ok _ _ z (cut x1 (Int.toNat (wr .i64 ((x1.length : Int) - 12))) (Int.toNat (wr .i64 ((x1.length : Int) - 8)))) (S.sel (is := [0]) rfl) _ h38) ?_
 rintro _ _ ⟨rfl, S⟩
 refine ⟨_, rfl, fun _ T => ?_⟩
 replace S := S.join
 refine v1 T rfl fun T => sq (rg (v3 T rfl rfl rfl fun T => ?_))
 replace S := S.fixL (i := 3) rfl rfl
 obtain ⟨x41, h40, H⟩ := bd H
 refine rc T Try.call13 rfl rfl (r4_Build.ok _ _ z x6 x35 x39 (S.sel (is := [3]) rfl) _ h40) ?_
 rintro _ _ ⟨A42, k43, rfl, S⟩
 refine ⟨_, rfl, fun _ T => ?_⟩
 replace S := S.join
 refine v3 T rfl rfl rfl fun T => v2 T rfl rfl fun T => sq (sq (rg (v3 T rfl rfl rfl fun T => ?_)))
 rcases ifE H with ⟨h44, H⟩ | ⟨h44, H⟩
 ·refine gn T rfl h44 fun T => gn T rfl h44 fun T => gn T rfl h44 fun T => gn T rfl h44 fun T => gn T rfl h44 fun T => pT T rfl h44 rfl rfl fun _ T => cdT T rfl rfl (sq ?_)
  exact J3_ok F r z x1 A2 k3 _ _ (T.sub trivial) (S.only [4] rfl) H
 ·refine gy T rfl h44 (v1 T rfl fun T => gy T rfl h44 (r_b2s (ix := 0) (xs := x41.1) T S rfl rfl tu24 tu9 tu5 rfl fun _ T => gy T rfl h44 (v1 T rfl fun T => gy T rfl h44 (r_b2s (ix := 4) (xs := x1) T S rfl rfl tu24 tu9 tu5 rfl fun _ T => gy T rfl h44 (v1 T rfl fun T => pF T rfl h44 rfl rfl fun _ T => ?_)))))
  rcases ifE H with ⟨h45, H⟩ | ⟨h45, H⟩
  ·refine cdT T rfl h45 (sq ?_)
   exact J3_ok F r z x1 A2 k3 _ _ (T.sub trivial) (S.only [4] rfl) H
  ·refine cdF T rfl h45 (sk (sq (rg (v3 T rfl rfl rfl fun T => v3 T rfl rfl rfl fun T => v1 T rfl fun T => ?_))))
   obtain rfl := sj H
   exact rtn T tf45 rfl rfl ⟨A7, k8, rfl, (S.only [1, 3] rfl)⟩
theorem L1_ok (F : List Atom) (r : (List aE) × Int × Int × Bool) (z : Nat) (x1 : List Int) (A2 : OA) (k3 m : Nat) : ∀ (A7 : OA) (x6 : List aE) (k8 : Nat) (A10 : OA) (x9 : List Int) (k11 : Nat) (a : Act) (w : World), Tm 95 [(0, .slice A2 x1.length k3), (6, .slice A7 x6.length k8), (7, .slice A10 x9.length k11)] a → SL ([sl .ro ku8 A2 k3 x1, sl .own kaE A7 k8 x6, sl .ro ku8 A10 k11 x9] ++ F) w → L1 z x1 m x6 x9 = some r → Gets Try.prog 45 ptL1 a w (R F x1 A2 k3 r) := by
 induction m with
 | zero => intro _ _ _ _ _ _ _ _ _ _ H; cases H
 | succ m ih =>
  intro A7 x6 k8 A10 x9 k11 a w T S H
  refine sq (sq (rg (v1 T rfl fun T => rn T rfl tu24 rfl fun _ T => v2 T rfl rfl fun T => ?_)))
  rcases ifE H with ⟨h12, H⟩ | ⟨h12, H⟩
  ·refine gy T rfl h12 (v1 T rfl fun T => gy T rfl h12 ?_)
   obtain ⟨h13, H⟩ := ck H
   refine r_ia (ix := 2) T S rfl rfl rfl rfl tu24 ts5 (by decide) h13 rfl fun _ T => ?_
   refine gy T rfl h12 (r_ldE (ix := 2) (i := 0) (off := 0) (f := (Value.int .u8)) T S rfl ti5 rfl (0 : Int) _ rfl rfl (Fld.all _) (by decide) h13 id rfl fun _ T => ?_)
   refine gy T rfl h12 (v1 T rfl fun T => pT T rfl h12 rfl rfl fun _ T => ?_)
   rcases ifE H with ⟨h14, H⟩ | ⟨h14, H⟩
   ·refine cdT T rfl h14 (sk (bq (sq (rg (v1 T rfl fun T => ?_)))))
    obtain ⟨x16, h15, H⟩ := bd H
    refine rc T Try.call77 rfl rfl (r1_TakeFrame.ok _ _ z x9 (S.sel (is := [2]) rfl) _ h15) ?_
    rintro _ _ ⟨A17, k18, rfl, S⟩
    refine ⟨_, rfl, fun _ T => ?_⟩
    replace S := S.join
    refine v3 T rfl rfl rfl fun T => v3 T rfl rfl rfl fun T => v3 T rfl rfl rfl fun T => sq (sq (rg (v2 T rfl rfl fun T => ?_)))
    rcases ifE H with ⟨h19, H⟩ | ⟨h19, H⟩
    ·refine cdT T rfl h19 (sq (rg (v3 T rfl rfl rfl fun T => v1 T rfl fun T => ?_)))
     replace S := S.nil kaE .ro
     obtain rfl := sj H
     exact rtn T tf45 rfl rfl ⟨none, 0, rfl, (S.only [0, 2] rfl)⟩
    ·refine cdF T rfl h19 (sk (sq (rg (v1 T rfl fun T => ?_))))
     replace S := S.fixL (i := 0) rfl rfl
     obtain ⟨x21, h20, H⟩ := bd H
     refine rc T Try.call78 rfl rfl (r4_entries.ok _ _ z x16.2.1 (S.sel (is := [0]) rfl) _ h20) ?_
     rintro _ _ ⟨A22, k23, rfl, S⟩
     refine ⟨_, rfl, fun _ T => ?_⟩
     replace S := S.join
     refine v3 T rfl rfl rfl fun T => v2 T rfl rfl fun T => sq (sq (rg (v2 T rfl rfl fun T => ?_)))
     rcases ifE H with ⟨h24, H⟩ | ⟨h24, H⟩
     ·refine cdT T rfl h24 (sq (rg (v3 T rfl rfl rfl fun T => v1 T rfl fun T => ?_)))
      replace S := S.nil kaE .ro
      obtain rfl := sj H
      exact rtn T tf45 rfl rfl ⟨none, 0, rfl, (S.only [0, 3] rfl)⟩
     ·refine cdF T rfl h24 (sk (sq (rg (v2 T rfl rfl fun T => ?_))))
      obtain ⟨h27, H⟩ := ck H
      refine r_app (ix := 4) (iy := 0) (xs := x6) (ys := x21.1) T S rfl rfl rfl rfl (by decide) sty22 tu22 (by decide) h27 rfl fun _ _ A25 k26 S T => ?_
      refine v1 T rfl fun T => rg (v2 T rfl rfl fun T => ?_)
      have h28 := S.len (i := 2) rfl
      obtain ⟨h29, H⟩ := ck H
      refine r_slR (ix := 2) (xs := x9) T S rfl rfl (fun h => by cases h) rfl rfl rfl h29.1 h29.2 (Int.le_refl _) (by omega) (by omega) tu24 ts5 rfl fun _ A30 S T => ?_
      refine v1 T rfl fun T => Gets.inBlock (Gets.inLoop ?_)
      exact ih A25 (x6 ++ x21.1) k26 A30 (cut x9 (Int.toNat x16.2.2.1) (Int.toNat (x9.length : Int))) (Int.toNat (k11 : Int) - Int.toNat x16.2.2.1) _ _ (T.sb rfl) (S.only [4, 4, 0] rfl) H
   ·refine cdF T rfl h14 (Gets.exit rfl (sq ?_))
    exact J2_ok F r z x1 A2 k3 A7 x6 k8 _ _ (T.sb rfl) (S.only [0, 0] rfl) H
  ·refine gn T rfl h12 fun T => gn T rfl h12 fun T => gn T rfl h12 fun T => gn T rfl h12 fun T => pF T rfl h12 rfl rfl fun _ T => cdF T rfl rfl (Gets.exit rfl (sq ?_))
   exact J2_ok F r z x1 A2 k3 A7 x6 k8 _ _ (T.sb rfl) (S.only [0, 0] rfl) H
theorem J0_ok (F : List Atom) (r : (List aE) × Int × Int × Bool) (z : Nat) (x1 : List Int) (A2 : OA) (k3 : Nat) (a : Act) (w : World) (T : Tm 95 [] a) (S : SL ([sl .ro ku8 A2 k3 x1] ++ F) w) (H : J0 z = some r) : Gets Try.prog 45 ptJ0 a w (R F x1 A2 k3 r) := by
 refine rg (v3 T rfl rfl rfl fun T => v1 T rfl fun T => ?_)
 replace S := S.nil kaE .ro
 obtain rfl := sj H
 exact rtn T tf45 rfl rfl ⟨none, 0, rfl, (S.only [0, 0] rfl)⟩
theorem ok (F : List Atom) (w : World) (z : Nat) (x1 : List Int) {A2 : OA} {k3 : Nat} (S : SL ([sl .ro ku8 A2 k3 x1] ++ F) w) (r : (List aE) × Int × Int × Bool) (H : f z x1 = some r) : Calls Try.prog 45 #[.slice A2 x1.length k3] w (R F x1 A2 k3 r) := by
 refine enter (vs := [.slice A2 x1.length k3]) tf45 rfl Try.ntmps45 (nle rfl) fun a T => ?_
 refine sq (rg (v3 T rfl rfl rfl fun T => v1 T rfl fun T => sq (sq (rg (v1 T rfl fun T => rn T rfl tu24 rfl fun _ T => v2 T rfl rfl fun T => ?_)))))
 rcases ifE H with ⟨h4, H⟩ | ⟨h4, H⟩
 ·refine gn T rfl h4 fun T => gn T rfl h4 fun T => gn T rfl h4 fun T => pT T rfl h4 rfl rfl fun _ T => cdT T rfl rfl (sq ?_)
  exact J0_ok F r z x1 A2 k3 _ _ (T.sub trivial) (S.only [0] rfl) H
 ·refine gy T rfl h4 (v1 T rfl fun T => gy T rfl h4 (rn T rfl tu24 rfl fun _ T => gy T rfl h4 (v1 T rfl fun T => pF T rfl h4 rfl rfl fun _ T => ?_)))
  rcases ifE H with ⟨h5, H⟩ | ⟨h5, H⟩
  ·refine cdT T rfl h5 (sq ?_)
   exact J0_ok F r z x1 A2 k3 _ _ (T.sub trivial) (S.only [0] rfl) H
  ·refine cdF T rfl h5 (sk (sq (rg (v1 T rfl fun T => sq (rg (v2 T rfl rfl fun T => sq (bq (Gets.loop ?_))))))))
   replace S := S.nil kaE .own
   replace S := S.dup (i := 1) rfl
   exact L1_ok F r z x1 A2 k3 z none [] 0 A2 x1 k3 _ _ (T.sb rfl) (S.only [2, 1, 0] rfl) H
end r4_Read
namespace r4_Open
def R (F : List Atom) (x1 : List Int) (A2 : OA) (k3 : Nat) (r : (Option r4_Table) × Int) : Ending → World → Prop := fun e w' => omP r.1 (e = .returned (.tuple #[.pointer none, .int .i64 r.2]) ∧ SL ([sl .ro ku8 A2 k3 x1] ++ F) w') (fun y => ∃ (b22 : Nat), ∃ (A23 : OA), ∃ (k24 : Nat), ∃ (A25 : OA), ∃ (k26 : Nat), ∃ (A27 : OA), ∃ (k28 : Nat), e = .returned (.tuple #[.pointer (some ⟨b22, 0, none⟩), .int .i64 r.2]) ∧ SL ([blk b22 [.slice A23 y.L.length k24, .slice A25 y.Cut.length k26, .slice A27 y.filter.length k28, .int .i64 y.reads], sl .ro kaE A23 k24 y.L, sl .ro ki64 A25 k26 y.Cut, sl .ro ku8 A27 k28 y.filter, sl .ro ku8 A2 k3 x1] ++ F) w')
def f (z : Nat) (x1 : List Int) : Option ((Option r4_Table) × Int) := Bd (r4_Read.f z x1) fun x5 => If (!x5.2.2.2) (some (none, 44)) (Bd (r4_keys.f z x5.1) fun x10 => Bd (r3_Make.f z x10 x5.2.2.1) fun x14 => Bd (r4_Cuts.f z x5.1 x5.2.1) fun x18 => some ((some (r4_Table.mk x5.1 x18 x14.1 0)), 0))
theorem ok (F : List Atom) (w : World) (z : Nat) (x1 : List Int) {A2 : OA} {k3 : Nat} (S : SL ([sl .ro ku8 A2 k3 x1] ++ F) w) (r : (Option r4_Table) × Int) (H : f z x1 = some r) : Calls Try.prog 14 #[.slice A2 x1.length k3] w (R F x1 A2 k3 r) := by
 refine enter (vs := [.slice A2 x1.length k3]) Try.func14 rfl Try.ntmps14 (nle rfl) fun a T => ?_
 refine sq (rg (v2 T rfl rfl fun T => sq (rg (v1 T rfl fun T => ?_))))
 replace S := S.dup (i := 0) rfl
 obtain ⟨x5, h4, H⟩ := bd H
 refine rc T Try.call45 rfl rfl (r4_Read.ok _ _ z x1 (S.sel (is := [0]) rfl) _ h4) ?_
 rintro _ _ ⟨A6, k7, rfl, S⟩
 refine ⟨_, rfl, fun _ T => ?_⟩
 replace S := S.join.only [0, 1] rfl
 refine v3 T rfl rfl rfl fun T => v3 T rfl rfl rfl fun T => v3 T rfl rfl rfl fun T => sq (sq (rg (v2 T rfl rfl fun T => ?_)))
 rcases ifE H with ⟨h8, H⟩ | ⟨h8, H⟩
 ·refine cdT T rfl h8 (sq (rg (v2 T rfl rfl fun T => ?_)))
  obtain rfl := sj H
  exact rtn T Try.func14 rfl rfl ⟨rfl, (S.only [1] rfl)⟩
 ·refine cdF T rfl h8 (sk (sq (rg (v1 T rfl fun T => ?_))))
  obtain ⟨x10, h9, H⟩ := bd H
  refine rc T Try.call47 rfl rfl (r4_keys.ok _ _ z x5.1 (S.sel (is := [0]) rfl) _ h9) ?_
  rintro _ _ ⟨A11, k12, rfl, S⟩
  refine ⟨_, rfl, fun _ T => ?_⟩
  replace S := S.join
  refine v1 T rfl fun T => ?_
  obtain ⟨x14, h13, H⟩ := bd H
  refine rc T Try.call46 rfl rfl (r3_Make.ok _ _ z x10 x5.2.2.1 (S.sel (is := [0]) rfl) _ h13) ?_
  rintro _ _ ⟨A15, k16, rfl, S⟩
  refine ⟨_, rfl, fun _ T => ?_⟩
  replace S := S.join
  refine v3 T rfl rfl rfl fun T => v2 T rfl rfl fun T => sq (rg (v3 T rfl rfl rfl fun T => ?_))
  obtain ⟨x18, h17, H⟩ := bd H
  refine rc T Try.call48 rfl rfl (r4_Cuts.ok _ _ z x5.1 x5.2.1 (S.sel (is := [2]) rfl) _ h17) ?_
  rintro _ _ ⟨A19, k20, rfl, S⟩
  refine ⟨_, rfl, fun _ T => ?_⟩
  replace S := S.join
  refine v1 T rfl fun T => r_build (cs := #[.slice A6 x5.1.length k7, .slice A19 x18.length k20, .slice A15 x14.1.length k16, .int .i64 0]) T stt50 rfl rfl rfl fun _ T => r_box T S rfl (cs := [.slice A6 x5.1.length k7, .slice A19 x18.length k20, .slice A15 x14.1.length k16, .int .i64 0]) rfl rfl fun _ _ b21 S T => v2 T rfl rfl fun T => ?_
  replace S := S.fixL (i := 1) rfl rfl
  replace S := S.fixL (i := 3) rfl rfl
  obtain rfl := sj H
  exact rtn T Try.func14 rfl rfl ⟨b21, A6, k7, A19, k20, A15, k16, rfl, (S.only [0, 1, 0, 0, 1] rfl)⟩
end r4_Open
theorem num_lt (n : Nat) (h : ¬ n ≤ 127) : num n = ((n % 128 + 128 : Nat) : Int) :: num (n / 128) := by rw [num.eq_1, if_neg h]
theorem tn_tail (z : Nat) (x : List Int) (j : Int) (hj : 0 ≤ j ∧ j < x.length) (m : Nat) (i : Nat) : r1_TakeNumber.L0 z x (m + 1) j (i : Int) = r1_TakeNumber.J2 z x j := by
 rw [r1_TakeNumber.L0, if_n (b := decide (j < 0)) (by simp; omega)]
 unfold If
 split
 ·split <;> rfl
 ·rfl
theorem tn_find (z : Nat) (rest : List Int) : ∀ (n : Nat) (pre x : List Int) (m : Nat), pre ++ num n ++ rest = x → pre.length + (num n).length ≤ 10 → 11 < m + pre.length →
  r1_TakeNumber.L0 z x m (-1) (pre.length : Int) = r1_TakeNumber.J2 z x ((pre.length + (num n).length : Nat) - 1 : Int) := by
 intro n
 induction n using Nat.strongRecOn with
 | ind n ih =>
  intro pre x m hx hl hm
  have h1 := num_len n
  obtain ⟨m, rfl⟩ : ∃ q, m = q + 1 := ⟨m - 1, by omega⟩
  have hxl : x.length = pre.length + (num n).length + rest.length := by rw [← hx, List.length_append, List.length_append]
  rw [r1_TakeNumber.L0, if_y (by simp; omega), if_y (by simp; omega), if_y (by simp), ck_y (by omega)]
  by_cases h : n ≤ 127
  ·have hn : num n = [(n : Int)] := by rw [num.eq_1, if_pos h]
   have hg : gi (0 : Int) x (pre.length : Int) = n := by rw [← hx, hn, List.append_assoc]; exact gi_mid 0 pre _ _ _ rfl
   rw [hg, if_y (by simp; omega)]
   unfold r1_TakeNumber.J1
   rw [wI (by omega)]
   obtain ⟨m, rfl⟩ : ∃ q, m = q + 1 := ⟨m - 1, by omega⟩
   have := tn_tail z x (pre.length : Int) (by omega) m (pre.length + 1)
   rw [show ((pre.length : Int) + 1) = ((pre.length + 1 : Nat) : Int) from rfl, this, hn]
   congr 1
   simp
  ·have hn := num_lt n h
   have hg : gi (0 : Int) x (pre.length : Int) = ((n % 128 + 128 : Nat) : Int) := by rw [← hx, hn, List.append_assoc]; exact gi_mid 0 pre _ _ _ rfl
   rw [hg, if_n (by simp; omega)]
   unfold r1_TakeNumber.J1
   rw [wI (by omega)]
   have := ih (n / 128) (by omega) (pre ++ [((n % 128 + 128 : Nat) : Int)]) x m (by rw [← hx, hn]; simp) (by rw [hn] at hl; simp at hl ⊢; omega) (by simp; omega)
   rw [List.length_append, List.length_singleton] at this
   rw [show ((pre.length : Int) + 1) = ((pre.length + 1 : Nat) : Int) from rfl, this, hn]
   congr 1
   simp; omega
theorem tn_sum (z : Nat) (j : Int) (rest : List Int) : ∀ (n : Nat) (pre x : List Int) (m : Nat), n < 9223372036854775808 → pre ++ num n ++ rest = x → x.length ≤ 1152921504606846976 →
  r1_TakeNumber.L6 z x j (m + (num n).length) 0 ((pre.length + (num n).length : Nat) - 1 : Int) = r1_TakeNumber.L6 z x j m n ((pre.length : Int) - 1) := by
 intro n
 induction n using Nat.strongRecOn with
 | ind n ih =>
  intro pre x m hn63 hx hl
  have hxl : x.length = pre.length + (num n).length + rest.length := by rw [← hx, List.length_append, List.length_append]
  by_cases h : n ≤ 127
  ·have hn : num n = [(n : Int)] := by rw [num.eq_1, if_pos h]
   rw [hn] at hxl ⊢
   simp only [List.length_singleton] at hxl ⊢
   have hg : gi (0 : Int) x (pre.length : Int) = n := by rw [← hx, hn, List.append_assoc]; exact gi_mid 0 pre _ _ _ rfl
   rw [r1_TakeNumber.L6, show ((pre.length + 1 : Nat) : Int) - 1 = (pre.length : Int) by omega, if_y (by simp), ck_y (by omega), hg, tmod_nn (by omega), wU (x := 128 * 0) (by omega), wU (x := (n : Int) % 128) (by omega), wU (by omega), wI (by omega)]
   congr 1; omega
  ·have hn := num_lt n h
   have := ih (n / 128) (by omega) (pre ++ [((n % 128 + 128 : Nat) : Int)]) x (m + 1) (by omega) (by rw [← hx, hn]; simp) hl
   rw [List.length_append, List.length_singleton] at this
   have hg : gi (0 : Int) x (pre.length : Int) = ((n % 128 + 128 : Nat) : Int) := by rw [← hx, hn, List.append_assoc]; exact gi_mid 0 pre _ _ _ rfl
   have hp := num_len (n / 128)
   rw [hn] at hxl ⊢
   simp only [List.length_cons] at hxl ⊢
   rw [show m + ((num (n / 128)).length + 1) = m + 1 + (num (n / 128)).length by omega, show pre.length + ((num (n / 128)).length + 1) = pre.length + 1 + (num (n / 128)).length by omega, this, r1_TakeNumber.L6, show ((pre.length + 1 : Nat) : Int) - 1 = (pre.length : Int) by omega, if_y (by simp), ck_y (by omega), hg, tmod_nn (by omega), wU (x := 128 * ((n / 128 : Nat) : Int)) (by omega), wU (x := ((n % 128 + 128 : Nat) : Int) % 128) (by omega), wU (by omega), wI (by omega)]
   congr 1; omega
theorem num_last : ∀ (n : Nat), 0 < n → ∃ a y, num n = a ++ [y] ∧ y ≠ 0 := by
 intro n
 induction n using Nat.strongRecOn with
 | ind n ih =>
  intro h0
  by_cases h : n ≤ 127
  ·exact ⟨[], n, by rw [num.eq_1, if_pos h]; rfl, by omega⟩
  ·obtain ⟨a, y, h1, h2⟩ := ih (n / 128) (by omega) (by omega)
   exact ⟨((n % 128 + 128 : Nat) : Int) :: a, y, by rw [num_lt n h, h1]; rfl, h2⟩
theorem refTakeNumber_f {z : Nat} (hz : 16777216 ≤ z) {n : Nat} (h : n < 9223372036854775808) (rest : List Int) (hl : rest.length ≤ 1152921504606846900) : r1_TakeNumber.f z (num n ++ rest) = some ((n : Int), ((num n).length : Int), 0) := by
 have h9 := num_lenp 9 n (by omega) (by omega)
 have h1 := num_len n
 obtain ⟨x, hx⟩ : ∃ x, num n ++ rest = x := ⟨_, rfl⟩
 have hxl : x.length = (num n).length + rest.length := by rw [← hx]; simp
 rw [hx]
 have hf := tn_find z rest n [] x z hx (by simp; omega) (by simp; omega)
 simp only [List.length_nil, Nat.zero_add, Int.natCast_zero] at hf
 replace hf : r1_TakeNumber.f z x = _ := hf
 rw [hf]
 have h5 : r1_TakeNumber.J5 z x (((num n).length : Int) - 1) = some ((n : Int), ((num n).length : Int), 0) := by
  unfold r1_TakeNumber.J5
  have := tn_sum z (((num n).length : Int) - 1) rest n [] x (z - (num n).length) h hx (by omega)
  simp only [List.length_nil, Nat.zero_add, Int.natCast_zero] at this
  rw [show z - (num n).length + (num n).length = z by omega] at this
  rw [this]
  obtain ⟨q, hq⟩ : ∃ q, z - (num n).length = q + 1 := ⟨z - (num n).length - 1, by omega⟩
  rw [hq, r1_TakeNumber.L6, if_n (by simp), wI (by omega)]
  congr 2
  congr 1
  omega
 unfold r1_TakeNumber.J2
 rw [if_n (by simp; omega)]
 unfold r1_TakeNumber.J3
 rw [if_n (by simp; omega), h5]
 by_cases hp : (num n).length = 1
 ·rw [if_n (by simp; omega), if_n (by simp; omega)]
 ·have hn : 0 < n := by
   rcases Nat.eq_zero_or_pos n with q | q
   ·rw [q, num.eq_1] at hp; simp at hp
   ·exact q
  obtain ⟨a, y, e1, e2⟩ := num_last n hn
  have hg : gi (0 : Int) x (((num n).length : Int) - 1) = y := by rw [← hx, e1, List.append_assoc]; exact gi_mid 0 a _ _ _ (by simp)
  rw [if_y (by simp; omega), ck_y (by omega), hg, if_n (by simpa using e2), if_n (by simp; omega)]
theorem refTakeFrame_f {z : Nat} (hz : 16777216 ≤ z) (k : Int) {body : List Int} (hb : Bys body) (hl : body.length ≤ 2097152) (rest : List Int) (hr : rest.length ≤ 8388608) : r1_TakeFrame.f z (frm k body ++ rest) = some (k, body, ((frm k body).length : Int), 0) := by
 have h10 := num_len10 (n := body.length) (by omega)
 have hlen := frm_len k body
 obtain ⟨x, hx⟩ : ∃ x, frm k body ++ rest = x := ⟨_, rfl⟩
 have e1 : x = [k] ++ (num body.length ++ (sum4 (hd k body ++ body) ++ body ++ rest)) := by rw [← hx]; simp [frm, hd]
 have e2 : x = hd k body ++ (sum4 (hd k body ++ body) ++ (body ++ rest)) := by rw [← hx]; simp [frm]
 have e3 : x = (hd k body ++ sum4 (hd k body ++ body)) ++ (body ++ rest) := by rw [← hx]; simp [frm]
 have h4 : (sum4 (hd k body ++ body)).length = 4 := rfl
 have hh : (hd k body).length = (num body.length).length + 1 := by simp [hd]
 have hxl : x.length = (frm k body).length + rest.length := by rw [← hx, List.length_append]
 rw [hx]
 unfold r1_TakeFrame.f
 rw [if_n (by rw [beq_eq_false_iff_ne]; omega), ck_y (by omega), cut_drop' x _ _ (by omega), show Int.toNat 1 = 1 from rfl]
 have hd1 : x.drop 1 = num body.length ++ (sum4 (hd k body ++ body) ++ body ++ rest) := by rw [e1]; rfl
 rw [hd1, refTakeNumber_f hz (by omega) _ (by simp only [List.length_append]; omega), bd_some]
 dsimp only
 rw [if_n (by rfl), if_n (by simp; omega), wI (x := 1 + ((num body.length).length : Int)) (by omega), wI (x := (x.length : Int) - (1 + ((num body.length).length : Int))) (by omega), wU (x := (x.length : Int) - (1 + ((num body.length).length : Int))) (by omega), wU (x := 4 + (body.length : Int)) (by omega), wI (x := (body.length : Int)) (by omega), wI (x := 1 + ((num body.length).length : Int) + 4) (by omega), wI (x := 1 + ((num body.length).length : Int) + 4 + body.length) (by omega), if_n (by simp; omega), ck_y (by omega), ck_y (by omega)]
 have c1 : cut x (Int.toNat 0) (1 + ((num body.length).length : Int)).toNat = hd k body := by
  rw [show Int.toNat 0 = 0 from rfl, cut_take', e2, show (1 + ((num body.length).length : Int)).toNat = (hd k body).length by omega, List.take_left']
  rfl
 have c2 : cut x (1 + ((num body.length).length : Int)).toNat (1 + ((num body.length).length : Int) + 4).toNat = sum4 (hd k body ++ body) := by
  rw [e2]
  exact cut_mid _ _ _ _ _ (by omega) (by omega)
 have c3 : cut x (1 + ((num body.length).length : Int) + 4).toNat (1 + ((num body.length).length : Int) + 4 + body.length).toNat = body := by
  rw [e3]
  refine cut_mid _ _ _ _ _ ?_ ?_ <;> simp only [List.length_append] <;> omega
 rw [c1, c2, c3, refsums_f hz (by omega) (by omega), bd_some, ck_y (by omega), if_n (by simp), ck_y (by simp; omega), ck_y (by omega)]
 have hg : gi (0 : Int) x 0 = k := by rw [e1]; exact gi_mid 0 [] k _ 0 rfl
 rw [hg, List.nil_append]
 congr 3
 rw [hlen]
 simp
 omega
theorem rnum_f {z : Nat} (hz : 16777216 ≤ z) {n : Nat} (h : n < 9223372036854775808) (rest : List Int) (hl : rest.length ≤ 1152921504606846900) (d : Bool) : r4_reader_number.f z ⟨num n ++ rest, d⟩ = some ((n : Int), ⟨rest, d⟩) := by
 unfold r4_reader_number.f
 dsimp only
 rw [refTakeNumber_f hz h rest hl, bd_some]
 dsimp only
 rw [if_n (by rfl), ck_y (by simp; omega), cut_drop' _ _ _ (by omega), Int.toNat_natCast, List.drop_left' rfl]
theorem rtake_f (a rest : List Int) (hl : a.length + rest.length ≤ 1152921504606846900) (d : Bool) : r4_reader_take.f ⟨a ++ rest, d⟩ (a.length : Int) = some (a, ⟨rest, d⟩) := by
 unfold r4_reader_take.f
 dsimp only
 have hal : (a ++ rest).length = a.length + rest.length := List.length_append
 rw [wU (x := ((a ++ rest).length : Int)) (by omega), if_n (by rw [decide_eq_false_iff_not]; omega), ck_y (by omega), Int.toNat_natCast, show Int.toNat 0 = 0 from rfl, cut_take', List.take_left' rfl, cut_drop' _ _ _ (by omega), List.drop_left' rfl]
theorem refentries_L0 {z : Nat} (hz : 16777216 ≤ z) : ∀ (es : List aE) (m : Nat) (out : List aE) (ahead : List Int), es.length < m → (∀ e ∈ es, fitS e) → ahead.length ≤ 256 → (lays ahead es).length ≤ 8388608 → out.length + es.length ≤ 65536 →
  r4_entries.L0 z m out ahead (lays ahead es) false = some (out ++ es, true)
 | _, 0, _, _, h, _, _, _, _ => by omega
 | [], m + 1, out, ahead, _, _, _, _, _ => by
  rw [r4_entries.L0, lays, if_n (by rfl), List.append_nil]; rfl
 | e :: r, m + 1, out, ahead, hm, hf, ha, hl, ho => by
  have he := hf e (List.mem_cons_self ..)
  have hpos := layS_len (ahead := ahead) he
  rw [lays] at hl ⊢
  rw [List.length_append] at hl
  have hc := com_le ahead e.Key
  obtain ⟨h1, h2, h3, h4, h5, h6⟩ := he
  have hct := com_take ahead e.Key
  obtain ⟨N, hN⟩ : ∃ N, com ahead e.Key = N := ⟨_, rfl⟩
  obtain ⟨dl, hdl⟩ : ∃ dl : Int, (if e.Del then (1 : Int) else 0) = dl := ⟨_, rfl⟩
  have hd2 : (dl == 1) = e.Del := by rw [← hdl]; cases e.Del <;> rfl
  obtain ⟨rest, hrest⟩ : ∃ rest, lays e.Key r = rest := ⟨_, rfl⟩
  have e0 : layS ahead e ++ rest = num N ++ (num (e.Key.length - N) ++ (num e.Seq.toNat ++ ([dl] ++ (num e.Value.length ++ (e.Key.drop N ++ (e.Value ++ rest)))))) := by
   unfold layS; rw [hN, hdl]; simp
  rw [hN] at hc hct
  have ih := refentries_L0 hz r m (out ++ [e]) e.Key (by simp at hm; omega) (fun x hx => hf x (List.mem_cons_of_mem _ hx)) h3 (by omega) (by simp at ho ⊢; omega)
  rw [hrest] at hl ih
  have hlr : (layS ahead e ++ rest).length ≤ 8388608 := by rw [List.length_append]; omega
  rw [r4_entries.L0, hrest, if_y (by rw [decide_eq_true_iff, List.length_append]; omega), if_y (by rfl)]
  rw [e0] at hlr ⊢
  simp only [List.length_append, List.length_cons, List.length_nil] at hlr
  rw [rnum_f hz (by omega) _ (by simp; omega), bd_some]
  dsimp only
  rw [rnum_f hz (by omega) _ (by simp; omega), bd_some]
  dsimp only
  rw [rnum_f hz (by omega) _ (by simp; omega), bd_some]
  dsimp only
  have t1 := rtake_f [dl] (num e.Value.length ++ (e.Key.drop N ++ (e.Value ++ rest))) (by simp; omega) false
  rw [show (([dl] : List Int).length : Int) = 1 from rfl] at t1
  rw [t1, bd_some]
  dsimp only
  rw [rnum_f hz (by omega) _ (by simp; omega), bd_some]
  dsimp only
  have t2 := rtake_f (e.Key.drop N) (e.Value ++ rest) (by simp; omega) false
  rw [List.length_drop] at t2
  rw [t2, bd_some]
  dsimp only
  rw [rtake_f e.Value rest (by omega) false, bd_some]
  dsimp only
  have k1 : cut ahead (Int.toNat 0) (Int.toNat (N : Int)) = ahead.take N := by rw [Int.toNat_natCast]; exact cut_take' _ _
  have hg : gi (0 : Int) [dl] 0 = dl := rfl
  have k6 : ahead.take N ++ e.Key.drop N = e.Key := by simp [hct]
  rw [if_f, wU (x := (ahead.length : Int)) (by omega), if_n (by simp; omega), if_n (by simp; omega), wU (by omega), if_n (by simp; omega), if_n (by simp at ho ⊢; omega), ck_y (by omega), k1, List.nil_append, ck_y (by simp; omega), ck_y (by simp; omega), ck_y (by simp), ck_y (by simp; omega), k6, hg, hd2, List.nil_append, show ((e.Seq.toNat : Nat) : Int) = e.Seq by omega, ck_y (by simp at ho ⊢; omega), ih, List.append_assoc]
  rfl
theorem refentries_f {z : Nat} (hz : 16777216 ≤ z) {es : List aE} (hf : ∀ e ∈ es, fitS e) (hl : (lays [] es).length ≤ 2097152) (hn : es.length ≤ 65536) : r4_entries.f z (lays [] es) = some (es, true) := by
 unfold r4_entries.f
 rw [refentries_L0 hz es z [] [] (by omega) hf (by simp) (by omega) (by simpa using hn)]
 rfl
theorem four_f {z : Nat} (hz : 16777216 ≤ z) {n : Int} (hn : 0 ≤ n ∧ n ≤ 4294967295) : r4_four.f z (highS n 4) = some n := by
 obtain ⟨k, rfl⟩ : ∃ k, z = k + 9 := ⟨z - 9, by omega⟩
 have hh : highS n 4 = [n / 16777216 % 256, n / 65536 % 256, n / 256 % 256, n / 1 % 256] := rfl
 have hl : (highS n 4).length = 4 := rfl
 have one : ∀ (m : Nat) (x i : Int), 0 ≤ i ∧ i < 4 → 0 ≤ x ∧ x ≤ 16777215 → 0 ≤ gi (0 : Int) (highS n 4) i ∧ gi (0 : Int) (highS n 4) i ≤ 255 → r4_four.L0 (k + 9) (highS n 4) (m + 1) x i = r4_four.L0 (k + 9) (highS n 4) m (256 * x + gi (0 : Int) (highS n 4) i) (i + 1) := by
  intro m x i hi hx hg
  rw [r4_four.L0, if_y (by simp; omega), ck_y (by rw [hl]; omega), wI (x := 256 * x) (by omega), wI (x := gi (0 : Int) (highS n 4) i) (by omega), wI (by omega), wI (by omega)]
 have g0 : gi (0 : Int) (highS n 4) 0 = n / 16777216 % 256 := rfl
 have g1 : gi (0 : Int) (highS n 4) 1 = n / 65536 % 256 := rfl
 have g2 : gi (0 : Int) (highS n 4) 2 = n / 256 % 256 := rfl
 have g3 : gi (0 : Int) (highS n 4) 3 = n / 1 % 256 := rfl
 unfold r4_four.f
 rw [one (k + 8) 0 0 (by omega) (by omega) (by rw [g0]; omega), g0, Int.zero_add]
 rw [one (k + 7) _ 1 (by omega) (by omega) (by rw [g1]; omega), g1, show (1 : Int) + 1 = 2 from rfl]
 rw [one (k + 6) _ 2 (by omega) (by omega) (by rw [g2]; omega), g2, show (2 : Int) + 1 = 3 from rfl]
 rw [one (k + 5) _ 3 (by omega) (by omega) (by rw [g3]; omega), g3]
 rw [r4_four.L0, if_n (by simp)]
 congr 1
 omega
def T40 (gs : List (List aE)) (l : List aE) (bb pk : Int) : List Int :=
 tailS (outF (gs.map blkOf)).length (outF (gs.map blkOf) ++ frm 70 (mkS (keysL l) pk)).length l.length bb pk
def rstS (gs : List (List aE)) (l : List aE) (bb pk : Int) : List Int :=
 frm 70 (mkS (keysL l) pk) ++ (frm 73 (num gs.length ++ idxF 0 (gs.map blkOf)) ++ T40 gs l bb pk)
theorem fin_eq (gs : List (List aE)) (l : List aE) (bb pk : Int) : finS gs l bb pk = outF (gs.map blkOf) ++ rstS gs l bb pk := by
 simp [finS, rstS, T40, List.append_assoc]
theorem T40_len (gs : List (List aE)) (l : List aE) (bb pk : Int) : (T40 gs l bb pk).length = 40 := tailS_len ..
structure Tab (l : List aE) (bb pk : Int) (b : List Int) (gs : List (List aE)) : Prop where
 oe : ∀ e ∈ l, okE e
 fit : ∀ e ∈ l, fitS e
 ne : l ≠ []
 len : l.length ≤ 65536
 hbb : 64 ≤ bb ∧ bb ≤ 65536
 hpk : 1 ≤ pk ∧ pk ≤ 30
 ord : l.Pairwise ordL
 flat : gs.flatten = l
 small : ∀ g ∈ gs, g ≠ [] ∧ (lays [] g).length ≤ 65900
 hb : b = outF (gs.map blkOf) ++ rstS gs l bb pk
 blen : b.length ≤ 4194304
 build : buildS l bb pk = (b, 0)
 hgs : gs = groups bb l
theorem gs_le : ∀ gs : List (List aE), (∀ g ∈ gs, g ≠ [] ∧ (lays [] g).length ≤ 65900) → gs.length ≤ gs.flatten.length
 | [], _ => by simp
 | g :: gs, h => by
  have h1 := List.length_pos_iff.2 (h g (List.mem_cons_self ..)).1
  have h2 := gs_le gs fun x hx => h x (List.mem_cons_of_mem _ hx)
  simp only [List.flatten_cons, List.length_append, List.length_cons]
  omega
theorem keysL_len (l : List aE) : (keysL l).length ≤ l.length := by
 have : ∀ (r : List aE) (ks : List (List Int)), (r.foldl (fun ks e => keyAdd ks e.Key) ks).length ≤ ks.length + r.length := by
  intro r
  induction r with
  | nil => intro ks; simp
  | cons e r ih => intro ks; have h1 := ih (keyAdd ks e.Key); have h2 := keyAdd_len ks e.Key; simp only [List.foldl_cons, List.length_cons]; omega
 have := this l []
 simpa [keysL] using this
theorem keysL_mem (l : List aE) : ∀ k, k ∈ keysL l → ∃ e ∈ l, k = e.Key := by
 have : ∀ (r : List aE) (ks : List (List Int)), (∀ k ∈ ks, ∃ e ∈ l, k = e.Key) → (∀ e ∈ r, e ∈ l) → ∀ k ∈ r.foldl (fun ks e => keyAdd ks e.Key) ks, ∃ e ∈ l, k = e.Key := by
  intro r
  induction r with
  | nil => intro ks h _; exact h
  | cons e r ih =>
   intro ks h hr
   refine ih _ (fun k hk => ?_) fun x hx => hr x (List.mem_cons_of_mem _ hx)
   replace hk : k ∈ keyAdd ks e.Key := hk
   unfold keyAdd at hk
   split at hk
   ·exact h k hk
   ·rcases List.mem_append.1 hk with q | q
    ·exact h k q
    ·exact ⟨e, hr e (List.mem_cons_self ..), List.mem_singleton.1 q⟩
 exact this l [] (fun k hk => by cases hk) fun e h => h
section
variable {l : List aE} {bb pk : Int} {b : List Int} {gs : List (List aE)} (t : Tab l bb pk b gs)
include t
theorem Tab.gl : gs.length ≤ 65536 := by have := gs_le gs t.small; rw [t.flat] at this; have := t.len; omega
theorem Tab.mem {g : List aE} (hg : g ∈ gs) {e : aE} (he : e ∈ g) : e ∈ l := by rw [← t.flat]; exact List.mem_flatten.2 ⟨g, hg, he⟩
theorem Tab.bys : Bys b := buildS_bys t.oe t.build
theorem Tab.cuts : ∃ p q, p.length + 40 = b.length ∧ b = p ++ T40 gs l bb pk ∧ T40 gs l bb pk = q ++ (highS bb 4 ++ (highS pk 4 ++ ([67, 79, 82, 77] ++ le4 (~~~(crc 4294967295#32 (tail36 (outF (gs.map blkOf)).length (outF (gs.map blkOf) ++ frm 70 (mkS (keysL l) pk)).length l.length bb pk)))))) ∧ q.length = 24 := by
 refine ⟨outF (gs.map blkOf) ++ frm 70 (mkS (keysL l) pk) ++ frm 73 (num gs.length ++ idxF 0 (gs.map blkOf)), highS (outF (gs.map blkOf)).length 8 ++ highS (outF (gs.map blkOf) ++ frm 70 (mkS (keysL l) pk)).length 8 ++ highS l.length 8, ?_, ?_, ?_, ?_⟩
 ·conv => rhs; rw [t.hb]
  have := T40_len gs l bb pk
  simp only [rstS, List.length_append]
  omega
 ·conv => lhs; rw [t.hb]
  simp [rstS]
 ·simp [T40, tailS, tail36]
 ·simp [highS_len]
theorem Tab.read {z : Nat} (hz : 16777216 ≤ z) (hB : r4_Build.f z l bb pk = some (b, 0)) : r4_Read.f z b = some (l, bb, pk, true) := by
 obtain ⟨p, q, h1, h2, h3, h4⟩ := t.cuts
 have hbl := t.blen
 have hJ : r4_Read.J2 z b l = some (l, bb, pk, true) := by
  unfold r4_Read.J2
  rw [wI (x := (b.length : Int) - 16) (by omega), wI (x := (b.length : Int) - 12) (by omega), wI (x := (b.length : Int) - 8) (by omega), ck_y (by omega)]
  have e1 : b = (p ++ q) ++ (highS bb 4 ++ (highS pk 4 ++ ([67, 79, 82, 77] ++ le4 (~~~(crc 4294967295#32 (tail36 (outF (gs.map blkOf)).length (outF (gs.map blkOf) ++ frm 70 (mkS (keysL l) pk)).length l.length bb pk)))))) := by
   conv => lhs; rw [h2, h3]
   simp
  have e2 : b = (p ++ q ++ highS bb 4) ++ (highS pk 4 ++ ([67, 79, 82, 77] ++ le4 (~~~(crc 4294967295#32 (tail36 (outF (gs.map blkOf)).length (outF (gs.map blkOf) ++ frm 70 (mkS (keysL l) pk)).length l.length bb pk))))) := by
   conv => lhs; rw [e1]
   simp
  have c1 : cut b (Int.toNat ((b.length : Int) - 16)) (Int.toNat ((b.length : Int) - 12)) = highS bb 4 := by
   have g1 : Int.toNat ((b.length : Int) - 16) = (p ++ q).length := by rw [List.length_append]; omega
   have g2 : Int.toNat ((b.length : Int) - 12) = (p ++ q).length + (highS bb 4).length := by rw [List.length_append, highS_len]; omega
   rw [g1, g2]
   conv => lhs; rw [e1]
   exact cut_mid _ _ _ _ _ rfl rfl
  have c2 : cut b (Int.toNat ((b.length : Int) - 12)) (Int.toNat ((b.length : Int) - 8)) = highS pk 4 := by
   have g1 : Int.toNat ((b.length : Int) - 12) = (p ++ q ++ highS bb 4).length := by rw [List.length_append, List.length_append, highS_len]; omega
   have g2 : Int.toNat ((b.length : Int) - 8) = (p ++ q ++ highS bb 4).length + (highS pk 4).length := by rw [List.length_append, List.length_append, highS_len, highS_len]; omega
   rw [g1, g2]
   conv => lhs; rw [e2]
   exact cut_mid _ _ _ _ _ rfl rfl
  have hbb := t.hbb
  have hpk := t.hpk
  rw [c1, four_f hz (by omega), bd_some, ck_y (by omega), c2, four_f hz (by omega), bd_some, hB, bd_some]
  dsimp only
  rw [if_n (by rfl), if_n (by simp)]
 have key : ∀ (Q P : List (List aE)) (m : Nat), gs = P ++ Q → Q.length < m → r4_Read.L1 z b m P.flatten (outF (Q.map blkOf) ++ rstS gs l bb pk) = some (l, bb, pk, true) := by
  intro Q
  induction Q with
  | nil =>
   intro P m h hm
   obtain ⟨m, rfl⟩ : ∃ k, m = k + 1 := ⟨m - 1, by omega⟩
   rw [List.append_nil] at h
   have hPl : P.flatten = l := by rw [← h]; exact t.flat
   rw [hPl]
   obtain ⟨r, hr⟩ : ∃ r, rstS gs l bb pk = 70 :: r := ⟨_, rfl⟩
   rw [r4_Read.L1, hr, if_y (by simp [outF]), ck_y (by simp [outF]), if_n (by rfl), hJ]
  | cons g Q ih =>
   intro P m h hm
   obtain ⟨m, rfl⟩ : ∃ k, m = k + 1 := ⟨m - 1, by omega⟩
   have hgm : g ∈ gs := by rw [h]; simp
   have hsm := (t.small g hgm).2
   have hbs : Bys (lays [] g) := by
    have hb : ∀ (es : List aE) (a : List Int), (∀ e ∈ es, okE e) → Bys (lays a es) := by
     intro es
     induction es with
     | nil => intro a _; exact Bys.nil
     | cons e r ih => intro a h; exact Bys.app (layS_bys (h e (List.mem_cons_self ..))) (ih _ fun x hx => h x (List.mem_cons_of_mem _ hx))
    exact hb g [] fun e he => t.oe e (t.mem hgm he)
   have hfl : P.flatten.length + g.length ≤ 65536 := by
    have := t.len
    rw [← t.flat, h] at this
    simp only [List.flatten_append, List.flatten_cons, List.length_append] at this; omega
   obtain ⟨X, hX⟩ : ∃ X, outF (Q.map blkOf) ++ rstS gs l bb pk = X := ⟨_, rfl⟩
   have hXl : X.length ≤ 8388608 := by
    have := t.hb
    rw [h, List.map_append, outF_app] at this
    have := congrArg List.length this
    rw [← h] at this
    rw [← hX]
    simp only [List.map_cons, outF, List.length_append] at this ⊢
    omega
   have hout : outF ((g :: Q).map blkOf) ++ rstS gs l bb pk = frm 68 (lays [] g) ++ X := by rw [← hX]; simp [outF, fr1, blkOf]
   have hpos : 0 < ((frm 68 (lays [] g) ++ X).length : Int) := by rw [List.length_append, frm_len]; omega
   rw [r4_Read.L1, hout, if_y (by rw [decide_eq_true_iff]; exact hpos), ck_y hpos, if_y (by rfl), refTakeFrame_f hz 68 hbs (by omega) X hXl, bd_some]
   dsimp only
   rw [if_n (by rfl), refentries_f hz (fun e he => t.fit e (t.mem hgm he)) (by omega) (by omega), bd_some]
   dsimp only
   rw [if_n (by rfl), ck_y (by omega), ck_y (by rw [List.length_append]; omega), cut_drop' _ _ _ (by omega), Int.toNat_natCast, List.drop_left' rfl, ← hX]
   have := ih (P ++ [g]) m (by rw [h]; simp) (by simp at hm; omega)
   rw [List.flatten_append] at this
   simpa using this
 have hgl := t.gl
 have := key gs [] z rfl (by omega)
 unfold r4_Read.f
 rw [if_n (by rw [decide_eq_false_iff_not]; omega), if_n (by rw [decide_eq_false_iff_not]; omega)]
 rw [List.flatten_nil, ← t.hb] at this
 exact this
theorem Tab.refOpen {z : Nat} (hz : 16777216 ≤ z) (hB : r4_Build.f z l bb pk = some (b, 0)) : r4_Open.f z b = some (some ⟨l, gs.map fun g => (g.length : Int), mkS (keysL l) pk, 0⟩, 0) := by
 unfold r4_Open.f
 have hk := keysL_len l
 have hln := t.len
 rw [t.read hz hB, bd_some]
 dsimp only
 rw [if_n (by rfl), keys_f' hz t.len t.oe, bd_some, refMake_f hz (by omega) t.hpk (fun k hk => by
  obtain ⟨e, he, rfl⟩ := keysL_mem l k hk
  have := (t.fit e he).2.2.1
  omega), bd_some, Cuts_f hz t.len t.fit t.hbb.2, bd_some, ← t.hgs]
theorem Tab.open_ {z : Nat} (hz : 16777216 ≤ z) : s_Open.f z b = some (some ⟨b, tblocks 0 gs, mkS (keysL l) pk, l.length, 0⟩, 0) := by
 obtain ⟨p, q, h1, h2, h3, h4⟩ := t.cuts
 have hlen := t.blen
 have hgl := t.gl
 have hll := t.len
 have hbb := t.hbb
 have hpk := t.hpk
 have hflat := t.flat
 unfold s_Open.f
 rw [if_n (by rw [decide_eq_false_iff_not]; omega), if_n (by rw [decide_eq_false_iff_not]; omega)]
 have hcln : bytes_Clone.f b = some b := by unfold bytes_Clone.f; rw [ck_y (by omega)]
 rw [hcln, bd_some, show slices_Clip_byte.f b = some b from rfl, bd_some]
 have hstep := Open_L1' hz (b := b) (b' := b) hlen (R := rstS gs l bb pk) ⟨_, rfl⟩ gs z [] [] [] (by omega) (by rw [List.nil_append]; exact t.hb) (fun g hg => ⟨(t.small g hg).1, fun e he => ⟨t.fit e (t.mem hg he), t.oe e (t.mem hg he)⟩, (t.small g hg).2⟩) (by simp only [List.length_nil, Nat.zero_add]; rw [hflat]; omega) (by simp only [List.length_nil, Nat.zero_add]; omega)
 simp only [List.length_nil, List.nil_append, Nat.zero_add] at hstep
 rw [show ((0 : Nat) : Int) = 0 from rfl] at hstep
 rw [hstep, hflat]
 unfold s_Open.J3
 rw [wI (by omega), ck_y (by omega)]
 have hcT : cut b (Int.toNat ((b.length : Int) - 40)) (Int.toNat (b.length : Int)) = T40 gs l bb pk := by
  rw [cut_drop' _ _ _ (by omega)]
  have hl40 : (Int.toNat ((b.length : Int) - 40)) = p.length := by omega
  rw [hl40]
  conv => lhs; rw [h2]
  rw [List.drop_left' rfl]
 have hT40 := T40_len gs l bb pk
 rw [hcT, ck_y (by omega), ck_y (by omega)]
 have hbbc : cut (T40 gs l bb pk) (Int.toNat 24) (Int.toNat 28) = highS bb 4 := by
  rw [h3]; exact cut_mid _ _ _ _ _ (by rw [h4]; rfl) (by rw [h4, highS_len]; rfl)
 have hpkc : cut (T40 gs l bb pk) (Int.toNat 28) (Int.toNat 32) = highS pk 4 := by
  rw [h3, ← List.append_assoc]; exact cut_mid _ _ _ _ _ (by rw [List.length_append, h4, highS_len]; rfl) (by rw [List.length_append, h4, highS_len, highS_len]; rfl)
 rw [hbbc, hpkc, low_f hz (by omega), bd_some, low_f hz (by omega), bd_some, Build_f hz t.oe, bd_some, t.build]
 dsimp only
 rw [if_n (by rfl), Equal_f t.bys t.bys, bd_some, if_n (by simp), ck_y (by
  have := congrArg List.length t.hb
  rw [List.length_append] at this
  omega), Int.toNat_natCast, cut_drop' _ _ _ (by omega)]
 have hdr : b.drop (outF (gs.map blkOf)).length = frm 70 (mkS (keysL l) pk) ++ (frm 73 (num gs.length ++ idxF 0 (gs.map blkOf)) ++ T40 gs l bb pk) := by
  conv => lhs; rw [t.hb]
  rw [List.drop_left' rfl]; rfl
 have hk := keysL_len l
 have hmk := mkS_len (keys := keysL l) (by omega) hpk
 rw [hdr, TakeFrame_f hz 70 (mkS_bys hpk) (by omega) _ (by
  have := congrArg List.length t.hb
  simp only [rstS, List.length_append] at this ⊢
  omega), bd_some]
end
structure RE where
 e : aE
 A1 : Option Addr
 k1 : Nat
 A2 : Option Addr
 k2 : Nat
def RE.cells (y : RE) : List Value := [.slice y.A1 y.e.Key.length y.k1, .int .u64 y.e.Seq, .bool y.e.Del, .slice y.A2 y.e.Value.length y.k2]
def kRE : K RE where
 sz := 4
 rep _ y cs := cs = y.cells
 len h := by rw [h]; rfl
 mono _ h := h
 one h := by rw [h]; intro v hv; simp [RE.cells] at hv; rcases hv with rfl | rfl | rfl | rfl <;> rfl
theorem cells_RE {G G' : Hp} : ∀ {xs : List RE} {cs : List Value}, cells kRE G xs cs → cells kRE G' xs cs
 | [], _, h => h
 | _ :: _, _, ⟨c1, c2, e, h1, h2⟩ => ⟨c1, c2, e, h1, cells_RE h2⟩
theorem flat_RE {A : Option Addr} {c : Nat} {zs : List RE} : ∀ G G' h, owR kRE G h A c zs → owR kRE G' h A c zs := by
 rintro G G' h ⟨h0, q | ⟨b, o, arr, e, fr, h1, h2, h3, h4, cs, g1, g2⟩⟩
 ·exact ⟨h0, .inl q⟩
 ·exact ⟨h0, .inr ⟨b, o, arr, e, fr, h1, h2, h3, h4, cs, cells_RE g1, g2⟩⟩
def pls (ys : List RE) : List Pl := ys.flatMap fun y => [⟨y.A1, y.k1, y.e.Key⟩, ⟨y.A2, y.k2, y.e.Value⟩]
theorem pls_snoc (ys : List RE) (y : RE) : pls (ys ++ [y]) = pls ys ++ [⟨y.A1, y.k1, y.e.Key⟩] ++ [⟨y.A2, y.k2, y.e.Value⟩] := by simp [pls]
namespace s_entries
def RD (M : List Atom) (r : (List aE) × Int × Bool) : Ending → World → Prop := fun e w' => ∃ (ys : List RE) (A : Option Addr) (k : Nat), r.1 = ys.map (·.e) ∧ e = .returned (.tuple #[.slice A ys.length k, .int .i64 r.2.1, .bool r.2.2]) ∧ SL (sl .own kRE A k ys :: pack (own8 (pls ys)) :: M) w'
theorem J1D_ok (M : List Atom) (G0 H0 : Hp) (r : (List aE) × Int × Bool) (z : Nat) (a : Act) (w : World) (T : Tm 50 [] a) (S : SL [holdL M G0 H0] w) (H : J1 z = some r) : Gets Try.prog 33 ptJ1 a w (RD M r) := by
 refine rg (v3 T rfl rfl rfl fun T => ?_)
 obtain rfl := sj H
 have S1 := SL.free (B := rof []) S fun G y hy => by cases hy
 have S2 := S1.toN.nil kRE .own
 refine rtn T tf33 rfl rfl ⟨[], none, 0, rfl, rfl, (SL.unfix flat_RE S2.ofN (ys := pls []) ⟨by simp [bks, pls], by simp [bks, pls], by simp [bks, pls]⟩).pack⟩
theorem L0D_ok (M : List Atom) (G0 H0 : Hp) (r : (List aE) × Int × Bool) (z : Nat) (x1 : List Int) (A2 : Option Addr) (k3 : Nat) (x5 : Int × (List Int) × Int × Int) (m : Nat) : ∀ (A10 : Option Addr) (x9 : List Int) (k11 : Nat) (A13 : Option Addr) (ys : List RE) (k14 : Nat) (A16 : Option Addr) (x15 : List Int) (k17 : Nat) (a : Act) (w : World), Tm 50 [(6, .slice A10 x9.length k11), (7, .int .i64 x5.2.2.1), (9, .slice A13 ys.length k14), (10, .slice A16 x15.length k17)] a → SL ([sl .ro ku8 A2 k3 x1, sl .ro ku8 A10 k11 x9, sl .own kRE A13 k14 ys, sl .ro ku8 A16 k17 x15, rof (pls ys)] ++ [holdL M G0 H0]) w → Dis G0 H0 (pls ys) → L0 z x5 m x9 (ys.map (·.e)) x15 = some r → Gets Try.prog 33 ptL0 a w (RD M r) := by
 induction m with
 | zero => intro _ _ _ _ _ _ _ _ _ _ _ _ _ _ H; cases H
 | succ m ih =>
  intro A10 x9 k11 A13 ys k14 A16 x15 k17 a w T S D H
  refine sq (sq (rg (v1 T rfl fun T => rn T rfl tu24 rfl fun _ T => v1 T rfl fun T => ?_)))
  rcases ifE H with ⟨h18, H⟩ | ⟨h18, H⟩
  ·refine cdT T rfl h18 (sk (bq (sq (rg (v2 T rfl rfl fun T => ?_)))))
   obtain ⟨x20, h19, H⟩ := bd H
   refine rc T Try.call61 rfl rfl (s_entry.ok _ _ z x9 x15 (S.sel (p := [sl .ro ku8 A10 k11 x9, sl .ro ku8 A16 k17 x15]) (is := [1, 2]) rfl) _ h19) ?_
   rintro _ _ ⟨A21, k22, A23, k24, A25, k26, rfl, S⟩
   refine ⟨_, rfl, fun _ T => ?_⟩
   replace S : SL ([sl .own ku8 A21 k22 x20.1.Key, sl .own ku8 A23 k24 x20.1.Value, sl .ro ku8 A25 k26 x20.2.1, sl .ro ku8 A10 k11 x9, sl .ro ku8 A16 k17 x15, sl .ro ku8 A2 k3 x1, sl .own kRE A13 k14 ys, rof (pls ys)] ++ [holdL M G0 H0]) _ := S.join
   refine v3 T rfl rfl rfl fun T => v1 T rfl fun T => r_alloc T S zv36 (cs := [.slice none 0 0, .int .u64 0, .bool false, .slice none 0 0]) rfl rfl fun _ _ b27 S T => ?_
   refine r_stBA (ix := 0) (vs := [.slice A21 x20.1.Key.length k22, .int .u64 x20.1.Seq, .bool x20.1.Del, .slice A23 x20.1.Value.length k24]) (l' := [blk b27 [.slice A21 x20.1.Key.length k22, .int .u64 x20.1.Seq, .bool x20.1.Del, .slice A23 x20.1.Value.length k24], sl .own ku8 A21 k22 x20.1.Key, sl .own ku8 A23 k24 x20.1.Value, sl .ro ku8 A25 k26 x20.2.1, sl .ro ku8 A10 k11 x9, sl .ro ku8 A16 k17 x15, sl .ro ku8 A2 k3 x1, sl .own kRE A13 k14 ys, rof (pls ys)]) T S rfl rfl rfl rfl (by simp) ts36 (nle rfl) rfl fun _ S => ?_
   refine v2 T rfl rfl fun T => sq (sq (rg (v3 T rfl rfl rfl fun T => ?_)))
   rcases ifE H with ⟨h28, H⟩ | ⟨h28, H⟩
   ·refine gn T rfl h28 fun T => gn T rfl h28 fun T => gn T rfl h28 fun T => gn T rfl h28 fun T => pT T rfl h28 rfl rfl fun _ T => cdT T rfl rfl (sq ?_)
    exact J1D_ok M G0 H0 r z _ _ (T.sub trivial) S.dropL H
   ·refine gy T rfl h28 (r_fa (o' := 0) T rfl tu36 rfl ts24 rfl rfl fun _ T => gy T rfl h28 (lB (ix := 0) T S rfl ti24 rfl rfl rfl fun _ T => gy T rfl h28 (rn T rfl tu24 rfl fun _ T => gy T rfl h28 (v1 T rfl fun T => pF T rfl h28 rfl rfl fun _ T => ?_))))
    rcases ifE H with ⟨h29, H⟩ | ⟨h29, H⟩
    ·refine cdT T rfl h29 (sq ?_)
     exact J1D_ok M G0 H0 r z _ _ (T.sub trivial) S.dropL H
    ·refine cdF T rfl h29 (sk (sq (rg (v1 T rfl fun T => r_ldBA (ix := 0) (ds := [.slice A21 x20.1.Key.length k22, .int .u64 x20.1.Seq, .bool x20.1.Del, .slice A23 x20.1.Value.length k24]) T S rfl ti36 rfl rfl ts36 rfl fun _ T => ?_))))
     obtain ⟨y, hy⟩ : ∃ y : RE, y = ⟨x20.1, A21, k22, A23, k24⟩ := ⟨_, rfl⟩
     have S2 := S.toN.only (p := [sl .own ku8 A21 k22 x20.1.Key, rof (pls ys), holdL M G0 H0, blk b27 [.slice A21 x20.1.Key.length k22, .int .u64 x20.1.Seq, .bool x20.1.Del, .slice A23 x20.1.Value.length k24], sl .own ku8 A23 k24 x20.1.Value, sl .ro ku8 A25 k26 x20.2.1, sl .ro ku8 A2 k3 x1, sl .own kRE A13 k14 ys]) [1, 7, 7, 0, 0, 0, 2, 2] rfl
     obtain ⟨D1, S3⟩ := SL.push S2.ofN D
     have S4 := SL.only (l := [sl .ro ku8 A21 k22 x20.1.Key, rof (pls ys ++ [⟨A21, k22, x20.1.Key⟩]), holdL M G0 H0, blk b27 [.slice A21 x20.1.Key.length k22, .int .u64 x20.1.Seq, .bool x20.1.Del, .slice A23 x20.1.Value.length k24], sl .own ku8 A23 k24 x20.1.Value, sl .ro ku8 A25 k26 x20.2.1, sl .ro ku8 A2 k3 x1, sl .own kRE A13 k14 ys]) (F := []) (p := [sl .own ku8 A23 k24 x20.1.Value, rof (pls ys ++ [⟨A21, k22, x20.1.Key⟩]), holdL M G0 H0, sl .ro ku8 A21 k22 x20.1.Key, blk b27 [.slice A21 x20.1.Key.length k22, .int .u64 x20.1.Seq, .bool x20.1.Del, .slice A23 x20.1.Value.length k24], sl .ro ku8 A25 k26 x20.2.1, sl .ro ku8 A2 k3 x1, sl .own kRE A13 k14 ys]) [4, 1, 1, 0, 0, 0, 0, 0] S3.toN rfl
     obtain ⟨D2, S5⟩ := SL.push S4.ofN D1
     have hp : pls ys ++ [⟨A21, k22, x20.1.Key⟩] ++ [⟨A23, k24, x20.1.Value⟩] = pls (ys ++ [y]) := by rw [pls_snoc, hy]
     rw [hp] at D2 S5
     replace S := SL.only (l := [sl .ro k8 A23 k24 x20.1.Value, rof (pls (ys ++ [y])), holdL M G0 H0, sl .ro ku8 A21 k22 x20.1.Key, blk b27 [.slice A21 x20.1.Key.length k22, .int .u64 x20.1.Seq, .bool x20.1.Del, .slice A23 x20.1.Value.length k24], sl .ro ku8 A25 k26 x20.2.1, sl .ro ku8 A2 k3 x1, sl .own kRE A13 k14 ys]) (F := []) (p := [blk b27 [.slice A21 x20.1.Key.length k22, .int .u64 x20.1.Seq, .bool x20.1.Del, .slice A23 x20.1.Value.length k24], sl .ro ku8 A21 k22 x20.1.Key, sl .ro ku8 A25 k26 x20.2.1, sl .ro ku8 A2 k3 x1, sl .own kRE A13 k14 ys, rof (pls (ys ++ [y])), holdL M G0 H0]) [4, 3, 3, 3, 3, 1, 1] S5.toN rfl
     replace S : SL ([blk b27 [.slice A21 x20.1.Key.length k22, .int .u64 x20.1.Seq, .bool x20.1.Del, .slice A23 x20.1.Value.length k24], sl .ro ku8 A21 k22 x20.1.Key, sl .ro ku8 A25 k26 x20.2.1, sl .ro ku8 A2 k3 x1, sl .own kRE A13 k14 ys, rof (pls (ys ++ [y]))] ++ [holdL M G0 H0]) _ := S.ofN
     replace S := SL.val (κ := kRE) (x := y) (cs := [.slice A21 x20.1.Key.length k22, .int .u64 x20.1.Seq, .bool x20.1.Del, .slice A23 x20.1.Value.length k24]) (fun _ => by rw [hy]; rfl) S
     refine r_bsl (κ := kRE) (xs := [y]) (vs := [.agg #[.slice A21 x20.1.Key.length k22, .int .u64 x20.1.Seq, .bool x20.1.Del, .slice A23 x20.1.Value.length k24]]) T S sty22 rfl ⟨_, _, rfl, ⟨0, rfl⟩, rfl⟩ rfl (by decide) rfl fun _ _ b30 S T => ?_
     replace S : SL ([sl .own kRE (some ⟨b30, 0, none⟩) 1 [y], blk b27 [.slice A21 x20.1.Key.length k22, .int .u64 x20.1.Seq, .bool x20.1.Del, .slice A23 x20.1.Value.length k24], sl .ro ku8 A21 k22 x20.1.Key, sl .ro ku8 A25 k26 x20.2.1, sl .ro ku8 A2 k3 x1, sl .own kRE A13 k14 ys, rof (pls (ys ++ [y]))] ++ [holdL M G0 H0]) _ := S.only [0, 1, 1, 1, 1, 1, 1] rfl
     obtain ⟨h33, H⟩ := ck H
     refine r_app (ix := 5) (iy := 0) (xs := ys) (ys := [y]) T S rfl rfl rfl rfl (by decide) sty22 tu22 (by decide) (by simpa using h33) rfl fun _ _ A31 k32 S T => ?_
     replace S : SL ([sl .own kRE (some ⟨b30, 0, none⟩) 1 [y], blk b27 [.slice A21 x20.1.Key.length k22, .int .u64 x20.1.Seq, .bool x20.1.Del, .slice A23 x20.1.Value.length k24], sl .ro ku8 A21 k22 x20.1.Key, sl .ro ku8 A25 k26 x20.2.1, sl .ro ku8 A2 k3 x1, sl .own kRE A31 k32 (ys ++ [y]), rof (pls (ys ++ [y]))] ++ [holdL M G0 H0]) _ := S
     refine v1 T rfl fun T => rg (r_fa (o' := 0) T rfl tu36 rfl ts24 rfl rfl fun _ T => lB (ix := 1) T S rfl ti24 rfl rfl rfl fun _ T => v3 T rfl rfl rfl fun T => Gets.inBlock (Gets.inLoop ?_))
     exact ih A25 x20.2.1 k26 A31 (ys ++ [y]) k32 A21 x20.1.Key k22 _ _ (T.sb rfl) (S.only (p := [sl .ro ku8 A2 k3 x1, sl .ro ku8 A25 k26 x20.2.1, sl .own kRE A31 k32 (ys ++ [y]), sl .ro ku8 A21 k22 x20.1.Key, rof (pls (ys ++ [y]))]) [4, 3, 3, 2, 2] rfl) D2 (by rw [List.map_append, List.map_singleton, hy]; exact H)
  ·refine cdF T rfl h18 (Gets.exit rfl (sq (rg (v3 T rfl rfl rfl fun T => v2 T rfl rfl fun T => ?_))))
   obtain rfl := sj H
   have S1 := S.only (p := [sl .own kRE A13 k14 ys, rof (pls ys)]) [2, 3] rfl
   exact rtn T tf33 rfl rfl ⟨ys, A13, k14, rfl, rfl, (SL.unfix flat_RE S1 D).pack⟩
theorem okD (F : List Atom) (w : World) (z : Nat) (x1 : List Int) {A2 : Option Addr} {k3 : Nat} (S : SL ([sl .ro ku8 A2 k3 x1] ++ F) w) (r : (List aE) × Int × Bool) (H : f z x1 = some r) : Calls Try.prog 33 #[.slice A2 x1.length k3] w (RD ([sl .ro ku8 A2 k3 x1] ++ F) r) := by
 obtain ⟨G0, H0, SH⟩ := SL.hold S
 have hS : SL ([sl .ro ku8 A2 k3 x1] ++ [holdL ([sl .ro ku8 A2 k3 x1] ++ F) G0 H0]) w := SL.withRo S SH
 clear S SH
 have S := hS
 clear hS
 refine enter (vs := [.slice A2 x1.length k3]) tf33 rfl Try.ntmps33 (nle rfl) fun a T => ?_
 refine sq (rg (v3 T rfl rfl rfl fun T => sq (rg (v1 T rfl fun T => ?_))))
 obtain ⟨x5, h4, H⟩ := bd H
 refine rc T Try.call35 rfl rfl (c_TakeFrame.ok _ _ z x1 (S.sel (p := [sl .ro ku8 A2 k3 x1]) (is := [0]) rfl) _ h4) ?_
 rintro _ _ ⟨A6, k7, rfl, S⟩
 refine ⟨_, rfl, fun _ T => ?_⟩
 replace S : SL ([sl .own ku8 A6 k7 x5.2.1, sl .ro ku8 A2 k3 x1] ++ [holdL ([sl .ro ku8 A2 k3 x1] ++ F) G0 H0]) _ := S.join
 refine v3 T rfl rfl rfl fun T => v3 T rfl rfl rfl fun T => v3 T rfl rfl rfl fun T => sq (sq (rg (v2 T rfl rfl fun T => ?_)))
 rcases ifE H with ⟨h8, H⟩ | ⟨h8, H⟩
 ·refine cdT T rfl h8 (sq (rg (v3 T rfl rfl rfl fun T => ?_)))
  obtain rfl := sj H
  have S1 := SL.free (B := rof []) S.dropL fun G y hy => by cases hy
  have S2 := S1.toN.nil kRE .own
  exact rtn T tf33 rfl rfl ⟨[], none, 0, rfl, rfl, (SL.unfix flat_RE S2.ofN (ys := pls []) ⟨by simp [bks, pls], by simp [bks, pls], by simp [bks, pls]⟩).pack⟩
 ·refine cdF T rfl h8 (sk (sq (rg (v1 T rfl fun T => sq (rg (v1 T rfl fun T => sq (bq (Gets.loop ?_))))))))
  replace S : SL ([sl .ro ku8 A6 k7 x5.2.1, sl .ro ku8 A2 k3 x1] ++ [holdL ([sl .ro ku8 A2 k3 x1] ++ F) G0 H0]) _ := S.fixL (i := 0) rfl rfl
  replace S := S.nil kRE .own
  replace S := S.nil ku8 .ro
  replace S := SL.free (B := rof (pls [])) S fun G y hy => by cases hy
  exact L0D_ok _ G0 H0 r z x1 A2 k3 x5 z A6 x5.2.1 k7 none [] 0 none [] 0 _ _ (T.sb rfl) (SL.only (l := [rof (pls []), sl .ro ku8 none 0 [], sl .own kRE none 0 [], sl .ro ku8 A6 k7 x5.2.1, sl .ro ku8 A2 k3 x1]) (p := [sl .ro ku8 A2 k3 x1, sl .ro ku8 A6 k7 x5.2.1, sl .own kRE none 0 [], sl .ro ku8 none 0 [], rof (pls [])]) [4, 3, 2, 1, 0] S rfl) ⟨by simp [bks, pls], by simp [bks, pls], by simp [bks, pls]⟩ H
end s_entries
namespace s_Table_look
def RD (F : List Atom) (b2 : Nat) (r : (List aE) × s_Table) : Ending → World → Prop := fun e w' => ∃ (ys : List RE), ∃ (A17 : Option Addr), ∃ (k18 : Nat), ∃ (A20 : Option Addr), ∃ (k21 : Nat), ∃ (A22 : Option Addr), ∃ (k23 : Nat), ∃ (A24 : Option Addr), ∃ (k25 : Nat), r.1 = ys.map (·.e) ∧ e = .returned (.slice A17 ys.length k18) ∧ SL ([sl .own kRE A17 k18 ys, blk b2 [.slice A20 r.2.b.length k21, .slice A22 r.2.blocks.length k23, .slice A24 r.2.filter.length k25, .int .i64 r.2.count, .int .i64 r.2.reads], sl .ro ku8 A20 k21 r.2.b, sl .ro ks_block A22 k23 r.2.blocks, sl .ro ku8 A24 k25 r.2.filter, pack (own8 (pls ys))] ++ F) w'
theorem okD (F : List Atom) (w : World) (z : Nat) (x1 : s_Table) (x9 : Int) {b2 : Nat} {A3 : Option Addr} {k4 : Nat} {A5 : Option Addr} {k6 : Nat} {A7 : Option Addr} {k8 : Nat} (S : SL ([blk b2 [.slice A3 x1.b.length k4, .slice A5 x1.blocks.length k6, .slice A7 x1.filter.length k8, .int .i64 x1.count, .int .i64 x1.reads], sl .ro ku8 A3 k4 x1.b, sl .ro ks_block A5 k6 x1.blocks, sl .ro ku8 A7 k8 x1.filter] ++ F) w) (r : (List aE) × s_Table) (H : f z x1 x9 = some r) : Calls Try.prog 41 #[.pointer (some ⟨b2, 0, none⟩), .int .i64 x9] w (RD F b2 r) := by
 refine enter (vs := [.pointer (some ⟨b2, 0, none⟩), .int .i64 x9]) tf41 rfl Try.ntmps41 (nle rfl) fun a T => ?_
 refine sq (rg (v1 T rfl fun T => sq (rg (v2 T rfl rfl fun T => r_fa (o' := 4) T rfl tu69 rfl ts3 rfl rfl fun _ T => lB (ix := 0) T S rfl ti3 rfl rfl rfl fun _ T => v2 T rfl rfl fun T => r_fa (o' := 4) T rfl tu69 rfl ts3 rfl rfl fun _ T => r_stB (ix := 0) (l' := [blk b2 [.slice A3 x1.b.length k4, .slice A5 x1.blocks.length k6, .slice A7 x1.filter.length k8, .int .i64 x1.count, .int .i64 (wr .i64 (x1.reads + 1))], sl .ro ku8 A3 k4 x1.b, sl .ro ks_block A5 k6 x1.blocks, sl .ro ku8 A7 k8 x1.filter]) T S rfl rfl rfl ts3 rfl (nle rfl) rfl fun _ S => sq ?_))))
 obtain ⟨h10, H⟩ := ck H
 have h11 := S.len (i := 1) rfl
 obtain ⟨h12, H⟩ := ck H
 replace S := S.cutR (ix := 1) (i := (gi ds_block x1.blocks x9).from') (j := (gi ds_block x1.blocks x9).to') (k := (k4 : Int)) rfl h12.1 h12.2.1 h12.2.2 (by have := h12.2.2; omega) (by omega)
 refine Gets.drawn (l := [sl .ro ku8 (slA A3 (Int.toNat (k4 : Int)) (Int.toNat ((gi ds_block x1.blocks x9).from')) 1) (Int.toNat (k4 : Int) - Int.toNat ((gi ds_block x1.blocks x9).from')) (cut x1.b (Int.toNat ((gi ds_block x1.blocks x9).from')) (Int.toNat ((gi ds_block x1.blocks x9).to'))), blk b2 [.slice A3 x1.b.length k4, .slice A5 x1.blocks.length k6, .slice A7 x1.filter.length k8, .int .i64 x1.count, .int .i64 (wr .i64 (x1.reads + 1))], sl .ro ku8 A3 k4 x1.b, sl .ro ks_block A5 k6 x1.blocks, sl .ro ku8 A7 k8 x1.filter]) (V := [some (.pointer (some ⟨b2, 0, none⟩), true), some (.pointer (some ⟨b2, 0, none⟩), true), some (.pointer (some ⟨b2, 0, none⟩), true), some (.slice A3 x1.b.length k4, true), some (.pointer (some ⟨b2, 0, none⟩), true), some (.pointer (some ⟨b2, 0, none⟩), true), some (.pointer (some ⟨b2, 1, none⟩), true), some (.slice A5 x1.blocks.length k6, true), some (.int .i64 x9, true), some (.pointer (some (eA A5 (Int.toNat x9 * 5))), true), some (.pointer (some (eA A5 (Int.toNat x9 * 5 + 0))), true), some (.int .i64 ((gi ds_block x1.blocks x9).from'), true), some (.pointer (some ⟨b2, 0, none⟩), true), some (.pointer (some ⟨b2, 0, none⟩), true), some (.pointer (some ⟨b2, 1, none⟩), true), some (.slice A5 x1.blocks.length k6, true), some (.int .i64 x9, true), some (.pointer (some (eA A5 (Int.toNat x9 * 5))), true), some (.pointer (some (eA A5 (Int.toNat x9 * 5 + 1))), true), some (.int .i64 ((gi ds_block x1.blocks x9).to'), true), some (.slice (slA A3 (Int.toNat (k4 : Int)) (Int.toNat ((gi ds_block x1.blocks x9).from')) 1) ((cut x1.b (Int.toNat ((gi ds_block x1.blocks x9).from')) (Int.toNat ((gi ds_block x1.blocks x9).to'))).length) (Int.toNat (k4 : Int) - Int.toNat ((gi ds_block x1.blocks x9).from')), true), none, none, none, none, none, none, none, none]) mixed T S rfl ?_
 refine stage (some 21) rfl rfl ⟨⟨_, [(0, .pointer (some ⟨b2, 0, none⟩))], rfl, ⟨.inr ⟨rfl, rfl⟩, trivial⟩, fun u a w T S => (by refine v1 T rfl fun T => ?_; exact ⟨rfl, T⟩)⟩, ⟨_, [(16, .pointer (some ⟨b2, 0, none⟩))], rfl, ⟨.inl ⟨0, rfl, rfl, rfl, rfl⟩, trivial⟩, fun u a w T S => (by refine v1 T rfl fun T => ?_; exact ⟨rfl, T⟩)⟩, ⟨_, [(17, .pointer (some ⟨b2, 0, none⟩))], rfl, ⟨.inl ⟨1, rfl, rfl, rfl, rfl⟩, trivial⟩, fun u a w T S => (by refine r_fa (o' := 0) T rfl tu69 rfl ts24 rfl rfl fun _ T => ?_; exact ⟨rfl, T⟩)⟩, ⟨_, [(18, .pointer (some ⟨b2, 0, none⟩))], rfl, ⟨.inl ⟨2, rfl, rfl, rfl, rfl⟩, trivial⟩, fun u a w T S => (by refine lB (ix := 1) T S rfl ti24 rfl rfl rfl fun _ T => ?_; exact ⟨rfl, T⟩)⟩, ⟨_, [(0, .pointer (some ⟨b2, 0, none⟩))], rfl, ⟨.inr ⟨rfl, rfl⟩, trivial⟩, fun u a w T S => (by refine v1 T rfl fun T => ?_; exact ⟨rfl, T⟩)⟩, ⟨_, [(20, .pointer (some ⟨b2, 0, none⟩))], rfl, ⟨.inl ⟨4, rfl, rfl, rfl, rfl⟩, trivial⟩, fun u a w T S => (by refine v1 T rfl fun T => ?_; exact ⟨rfl, T⟩)⟩, ⟨_, [(21, .pointer (some ⟨b2, 0, none⟩))], rfl, ⟨.inl ⟨5, rfl, rfl, rfl, rfl⟩, trivial⟩, fun u a w T S => (by refine r_fa (o' := 1) T rfl tu69 rfl ts67 rfl rfl fun _ T => ?_; exact ⟨rfl, T⟩)⟩, ⟨_, [(22, .pointer (some ⟨b2, 1, none⟩))], rfl, ⟨.inl ⟨6, rfl, rfl, rfl, rfl⟩, trivial⟩, fun u a w T S => (by refine lB (ix := 1) T S rfl ti67 rfl rfl rfl fun _ T => ?_; exact ⟨rfl, T⟩)⟩, ⟨_, [(1, .int .i64 x9)], rfl, ⟨.inr ⟨rfl, rfl⟩, trivial⟩, fun u a w T S => (by refine v1 T rfl fun T => ?_; exact ⟨rfl, T⟩)⟩, ⟨_, [(23, .slice A5 x1.blocks.length k6), (24, .int .i64 x9)], rfl, ⟨.inl ⟨7, rfl, rfl, rfl, rfl⟩, .inl ⟨8, rfl, rfl, rfl, rfl⟩, trivial⟩, fun u a w T S => (by refine r_ia (ix := 3) T S rfl rfl rfl rfl tu67 ts73 h10.1 h10.2 rfl fun _ T => ?_; exact ⟨rfl, T⟩)⟩, ⟨_, [(25, .pointer (some (eA A5 (Int.toNat x9 * 5))))], rfl, ⟨.inl ⟨9, rfl, rfl, rfl, rfl⟩, trivial⟩, fun u a w T S => (by refine r_faE T rfl tu73 rfl ts3 rfl fun _ T => ?_; exact ⟨rfl, T⟩)⟩, ⟨_, [(26, .pointer (some (eA A5 (Int.toNat x9 * 5 + 0))))], rfl, ⟨.inl ⟨10, rfl, rfl, rfl, rfl⟩, trivial⟩, fun u a w T S => (by refine r_ldE (ix := 3) (i := x9) (off := 0) (f := (Value.int .i64)) T S rfl ti3 rfl ds_block _ rfl rfl fld_s_block_from' h10.1 h10.2 id rfl fun _ T => ?_; exact ⟨rfl, T⟩)⟩, ⟨_, [(0, .pointer (some ⟨b2, 0, none⟩))], rfl, ⟨.inr ⟨rfl, rfl⟩, trivial⟩, fun u a w T S => (by refine v1 T rfl fun T => ?_; exact ⟨rfl, T⟩)⟩, ⟨_, [(28, .pointer (some ⟨b2, 0, none⟩))], rfl, ⟨.inl ⟨12, rfl, rfl, rfl, rfl⟩, trivial⟩, fun u a w T S => (by refine v1 T rfl fun T => ?_; exact ⟨rfl, T⟩)⟩, ⟨_, [(29, .pointer (some ⟨b2, 0, none⟩))], rfl, ⟨.inl ⟨13, rfl, rfl, rfl, rfl⟩, trivial⟩, fun u a w T S => (by refine r_fa (o' := 1) T rfl tu69 rfl ts67 rfl rfl fun _ T => ?_; exact ⟨rfl, T⟩)⟩, ⟨_, [(30, .pointer (some ⟨b2, 1, none⟩))], rfl, ⟨.inl ⟨14, rfl, rfl, rfl, rfl⟩, trivial⟩, fun u a w T S => (by refine lB (ix := 1) T S rfl ti67 rfl rfl rfl fun _ T => ?_; exact ⟨rfl, T⟩)⟩, ⟨_, [(1, .int .i64 x9)], rfl, ⟨.inr ⟨rfl, rfl⟩, trivial⟩, fun u a w T S => (by refine v1 T rfl fun T => ?_; exact ⟨rfl, T⟩)⟩, ⟨_, [(31, .slice A5 x1.blocks.length k6), (32, .int .i64 x9)], rfl, ⟨.inl ⟨15, rfl, rfl, rfl, rfl⟩, .inl ⟨16, rfl, rfl, rfl, rfl⟩, trivial⟩, fun u a w T S => (by refine r_ia (ix := 3) T S rfl rfl rfl rfl tu67 ts73 h10.1 h10.2 rfl fun _ T => ?_; exact ⟨rfl, T⟩)⟩, ⟨_, [(33, .pointer (some (eA A5 (Int.toNat x9 * 5))))], rfl, ⟨.inl ⟨17, rfl, rfl, rfl, rfl⟩, trivial⟩, fun u a w T S => (by refine r_faE T rfl tu73 rfl ts3 rfl fun _ T => ?_; exact ⟨rfl, T⟩)⟩, ⟨_, [(34, .pointer (some (eA A5 (Int.toNat x9 * 5 + 1))))], rfl, ⟨.inl ⟨18, rfl, rfl, rfl, rfl⟩, trivial⟩, fun u a w T S => (by refine r_ldE (ix := 3) (i := x9) (off := 1) (f := (Value.int .i64)) T S rfl ti3 rfl ds_block _ rfl rfl fld_s_block_to' h10.1 h10.2 id rfl fun _ T => ?_; exact ⟨rfl, T⟩)⟩, ⟨_, [(19, .slice A3 x1.b.length k4), (27, .int .i64 ((gi ds_block x1.blocks x9).from')), (35, .int .i64 ((gi ds_block x1.blocks x9).to'))], rfl, ⟨.inl ⟨3, rfl, rfl, rfl, rfl⟩, .inl ⟨11, rfl, rfl, rfl, rfl⟩, .inl ⟨19, rfl, rfl, rfl, rfl⟩, trivial⟩, fun u a w T S => (by refine r_slQ (xs := x1.b) T rfl (fun h => by cases h) rfl rfl rfl h12.1 h12.2.1 h12.2.2 (by have := h12.2.2; omega) (by omega) tu24 ts5 rfl fun _ T => ?_; exact ⟨rfl, T⟩)⟩, trivial⟩ rfl (fun i hi => ?_) (fun h => by cases h)
 cases hi
 refine ⟨rfl, _, [(36, .slice (slA A3 (Int.toNat (k4 : Int)) (Int.toNat ((gi ds_block x1.blocks x9).from')) 1) ((cut x1.b (Int.toNat ((gi ds_block x1.blocks x9).from')) (Int.toNat ((gi ds_block x1.blocks x9).to'))).length) (Int.toNat (k4 : Int) - Int.toNat ((gi ds_block x1.blocks x9).from')))], rfl, ⟨.inl ⟨20, rfl, rfl, rfl, rfl⟩, trivial⟩, fun u a w T S => ?_⟩
 obtain ⟨x14, h13, H⟩ := bd H
 refine rc T Try.call33 rfl rfl (s_entries.okD _ _ z (cut x1.b (Int.toNat ((gi ds_block x1.blocks x9).from')) (Int.toNat ((gi ds_block x1.blocks x9).to'))) (S.sel (p := [sl .ro ku8 (slA A3 (Int.toNat (k4 : Int)) (Int.toNat ((gi ds_block x1.blocks x9).from')) 1) (Int.toNat (k4 : Int) - Int.toNat ((gi ds_block x1.blocks x9).from')) (cut x1.b (Int.toNat ((gi ds_block x1.blocks x9).from')) (Int.toNat ((gi ds_block x1.blocks x9).to')))]) (is := [0]) rfl) _ h13) ?_
 rintro _ _ ⟨ys, A15, k16, hys, rfl, S⟩
 refine ⟨_, rfl, fun _ T => ?_⟩
 replace S : SL ([sl .own kRE A15 k16 ys, pack (own8 (pls ys)), sl .ro ku8 (slA A3 (Int.toNat (k4 : Int)) (Int.toNat ((gi ds_block x1.blocks x9).from')) 1) (Int.toNat (k4 : Int) - Int.toNat ((gi ds_block x1.blocks x9).from')) (cut x1.b (Int.toNat ((gi ds_block x1.blocks x9).from')) (Int.toNat ((gi ds_block x1.blocks x9).to'))), blk b2 [.slice A3 x1.b.length k4, .slice A5 x1.blocks.length k6, .slice A7 x1.filter.length k8, .int .i64 x1.count, .int .i64 (wr .i64 (x1.reads + 1))], sl .ro ku8 A3 k4 x1.b, sl .ro ks_block A5 k6 x1.blocks, sl .ro ku8 A7 k8 x1.filter] ++ F) _ := S
 replace S : SL ([sl .own kRE A15 k16 ys, sl .ro ku8 (slA A3 (Int.toNat (k4 : Int)) (Int.toNat ((gi ds_block x1.blocks x9).from')) 1) (Int.toNat (k4 : Int) - Int.toNat ((gi ds_block x1.blocks x9).from')) (cut x1.b (Int.toNat ((gi ds_block x1.blocks x9).from')) (Int.toNat ((gi ds_block x1.blocks x9).to'))), blk b2 [.slice A3 x1.b.length k4, .slice A5 x1.blocks.length k6, .slice A7 x1.filter.length k8, .int .i64 x1.count, .int .i64 (wr .i64 (x1.reads + 1))], sl .ro ku8 A3 k4 x1.b, sl .ro ks_block A5 k6 x1.blocks, sl .ro ku8 A7 k8 x1.filter, pack (own8 (pls ys))] ++ F) _ := S.only [0, 1, 1, 1, 1, 1, 0] rfl
 refine ⟨_, [some (.pointer (some ⟨b2, 0, none⟩), true), some (.pointer (some ⟨b2, 0, none⟩), true), some (.pointer (some ⟨b2, 0, none⟩), true), some (.slice A3 x1.b.length k4, true), some (.pointer (some ⟨b2, 0, none⟩), true), some (.pointer (some ⟨b2, 0, none⟩), true), some (.pointer (some ⟨b2, 1, none⟩), true), some (.slice A5 x1.blocks.length k6, true), some (.int .i64 x9, true), some (.pointer (some (eA A5 (Int.toNat x9 * 5))), true), some (.pointer (some (eA A5 (Int.toNat x9 * 5 + 0))), true), some (.int .i64 ((gi ds_block x1.blocks x9).from'), true), some (.pointer (some ⟨b2, 0, none⟩), true), some (.pointer (some ⟨b2, 0, none⟩), true), some (.pointer (some ⟨b2, 1, none⟩), true), some (.slice A5 x1.blocks.length k6, true), some (.int .i64 x9, true), some (.pointer (some (eA A5 (Int.toNat x9 * 5))), true), some (.pointer (some (eA A5 (Int.toNat x9 * 5 + 1))), true), some (.int .i64 ((gi ds_block x1.blocks x9).to'), true), some (.slice (slA A3 (Int.toNat (k4 : Int)) (Int.toNat ((gi ds_block x1.blocks x9).from')) 1) ((cut x1.b (Int.toNat ((gi ds_block x1.blocks x9).from')) (Int.toNat ((gi ds_block x1.blocks x9).to'))).length) (Int.toNat (k4 : Int) - Int.toNat ((gi ds_block x1.blocks x9).from')), false), some (.tuple #[.slice A15 ys.length k16, .int .i64 x14.2.1, .bool x14.2.2], false), some (.tuple #[.slice A15 ys.length k16, .int .i64 x14.2.1, .bool x14.2.2], true), some (.slice A15 ys.length k16, true), some (.int .i64 x14.2.1, true), some (.bool x14.2.2, true), some (.slice A15 ys.length k16, true), some (.int .i64 x14.2.1, true), some (.bool x14.2.2, true)], [sl .own kRE A15 k16 ys, sl .ro ku8 (slA A3 (Int.toNat (k4 : Int)) (Int.toNat ((gi ds_block x1.blocks x9).from')) 1) (Int.toNat (k4 : Int) - Int.toNat ((gi ds_block x1.blocks x9).from')) (cut x1.b (Int.toNat ((gi ds_block x1.blocks x9).from')) (Int.toNat ((gi ds_block x1.blocks x9).to'))), blk b2 [.slice A3 x1.b.length k4, .slice A5 x1.blocks.length k6, .slice A7 x1.filter.length k8, .int .i64 x1.count, .int .i64 (wr .i64 (x1.reads + 1))], sl .ro ku8 A3 k4 x1.b, sl .ro ks_block A5 k6 x1.blocks, sl .ro ku8 A7 k8 x1.filter, pack (own8 (pls ys))], rfl, ⟨.inr ⟨_, _, _, rfl, rfl⟩, .inr ⟨_, _, _, rfl, rfl⟩, .inr ⟨_, _, _, rfl, rfl⟩, .inr ⟨_, _, _, rfl, rfl⟩, .inr ⟨_, _, _, rfl, rfl⟩, .inr ⟨_, _, _, rfl, rfl⟩, .inr ⟨_, _, _, rfl, rfl⟩, .inr ⟨_, _, _, rfl, rfl⟩, .inr ⟨_, _, _, rfl, rfl⟩, .inr ⟨_, _, _, rfl, rfl⟩, .inr ⟨_, _, _, rfl, rfl⟩, .inr ⟨_, _, _, rfl, rfl⟩, .inr ⟨_, _, _, rfl, rfl⟩, .inr ⟨_, _, _, rfl, rfl⟩, .inr ⟨_, _, _, rfl, rfl⟩, .inr ⟨_, _, _, rfl, rfl⟩, .inr ⟨_, _, _, rfl, rfl⟩, .inr ⟨_, _, _, rfl, rfl⟩, .inr ⟨_, _, _, rfl, rfl⟩, .inr ⟨_, _, _, rfl, rfl⟩, .inr ⟨_, _, _, rfl, rfl⟩, .inl rfl, .inl rfl, .inl rfl, .inl rfl, .inl rfl, .inl rfl, .inl rfl, .inl rfl, trivial⟩, rfl, ?_, T, S⟩
 refine stage none rfl rfl ⟨⟨_, [(0, .pointer (some ⟨b2, 0, none⟩))], rfl, ⟨.inr ⟨rfl, rfl⟩, trivial⟩, fun u a w T S => (by refine v1 T rfl fun T => ?_; exact ⟨rfl, T⟩)⟩, ⟨_, [(16, .pointer (some ⟨b2, 0, none⟩))], rfl, ⟨.inl ⟨0, rfl, rfl, rfl, rfl⟩, trivial⟩, fun u a w T S => (by refine v1 T rfl fun T => ?_; exact ⟨rfl, T⟩)⟩, ⟨_, [(17, .pointer (some ⟨b2, 0, none⟩))], rfl, ⟨.inl ⟨1, rfl, rfl, rfl, rfl⟩, trivial⟩, fun u a w T S => (by refine r_fa (o' := 0) T rfl tu69 rfl ts24 rfl rfl fun _ T => ?_; exact ⟨rfl, T⟩)⟩, ⟨_, [(18, .pointer (some ⟨b2, 0, none⟩))], rfl, ⟨.inl ⟨2, rfl, rfl, rfl, rfl⟩, trivial⟩, fun u a w T S => (by refine lB (ix := 2) T S rfl ti24 rfl rfl rfl fun _ T => ?_; exact ⟨rfl, T⟩)⟩, ⟨_, [(0, .pointer (some ⟨b2, 0, none⟩))], rfl, ⟨.inr ⟨rfl, rfl⟩, trivial⟩, fun u a w T S => (by refine v1 T rfl fun T => ?_; exact ⟨rfl, T⟩)⟩, ⟨_, [(20, .pointer (some ⟨b2, 0, none⟩))], rfl, ⟨.inl ⟨4, rfl, rfl, rfl, rfl⟩, trivial⟩, fun u a w T S => (by refine v1 T rfl fun T => ?_; exact ⟨rfl, T⟩)⟩, ⟨_, [(21, .pointer (some ⟨b2, 0, none⟩))], rfl, ⟨.inl ⟨5, rfl, rfl, rfl, rfl⟩, trivial⟩, fun u a w T S => (by refine r_fa (o' := 1) T rfl tu69 rfl ts67 rfl rfl fun _ T => ?_; exact ⟨rfl, T⟩)⟩, ⟨_, [(22, .pointer (some ⟨b2, 1, none⟩))], rfl, ⟨.inl ⟨6, rfl, rfl, rfl, rfl⟩, trivial⟩, fun u a w T S => (by refine lB (ix := 2) T S rfl ti67 rfl rfl rfl fun _ T => ?_; exact ⟨rfl, T⟩)⟩, ⟨_, [(1, .int .i64 x9)], rfl, ⟨.inr ⟨rfl, rfl⟩, trivial⟩, fun u a w T S => (by refine v1 T rfl fun T => ?_; exact ⟨rfl, T⟩)⟩, ⟨_, [(23, .slice A5 x1.blocks.length k6), (24, .int .i64 x9)], rfl, ⟨.inl ⟨7, rfl, rfl, rfl, rfl⟩, .inl ⟨8, rfl, rfl, rfl, rfl⟩, trivial⟩, fun u a w T S => (by refine r_ia (ix := 4) T S rfl rfl rfl rfl tu67 ts73 h10.1 h10.2 rfl fun _ T => ?_; exact ⟨rfl, T⟩)⟩, ⟨_, [(25, .pointer (some (eA A5 (Int.toNat x9 * 5))))], rfl, ⟨.inl ⟨9, rfl, rfl, rfl, rfl⟩, trivial⟩, fun u a w T S => (by refine r_faE T rfl tu73 rfl ts3 rfl fun _ T => ?_; exact ⟨rfl, T⟩)⟩, ⟨_, [(26, .pointer (some (eA A5 (Int.toNat x9 * 5 + 0))))], rfl, ⟨.inl ⟨10, rfl, rfl, rfl, rfl⟩, trivial⟩, fun u a w T S => (by refine r_ldE (ix := 4) (i := x9) (off := 0) (f := (Value.int .i64)) T S rfl ti3 rfl ds_block _ rfl rfl fld_s_block_from' h10.1 h10.2 id rfl fun _ T => ?_; exact ⟨rfl, T⟩)⟩, ⟨_, [(0, .pointer (some ⟨b2, 0, none⟩))], rfl, ⟨.inr ⟨rfl, rfl⟩, trivial⟩, fun u a w T S => (by refine v1 T rfl fun T => ?_; exact ⟨rfl, T⟩)⟩, ⟨_, [(28, .pointer (some ⟨b2, 0, none⟩))], rfl, ⟨.inl ⟨12, rfl, rfl, rfl, rfl⟩, trivial⟩, fun u a w T S => (by refine v1 T rfl fun T => ?_; exact ⟨rfl, T⟩)⟩, ⟨_, [(29, .pointer (some ⟨b2, 0, none⟩))], rfl, ⟨.inl ⟨13, rfl, rfl, rfl, rfl⟩, trivial⟩, fun u a w T S => (by refine r_fa (o' := 1) T rfl tu69 rfl ts67 rfl rfl fun _ T => ?_; exact ⟨rfl, T⟩)⟩, ⟨_, [(30, .pointer (some ⟨b2, 1, none⟩))], rfl, ⟨.inl ⟨14, rfl, rfl, rfl, rfl⟩, trivial⟩, fun u a w T S => (by refine lB (ix := 2) T S rfl ti67 rfl rfl rfl fun _ T => ?_; exact ⟨rfl, T⟩)⟩, ⟨_, [(1, .int .i64 x9)], rfl, ⟨.inr ⟨rfl, rfl⟩, trivial⟩, fun u a w T S => (by refine v1 T rfl fun T => ?_; exact ⟨rfl, T⟩)⟩, ⟨_, [(31, .slice A5 x1.blocks.length k6), (32, .int .i64 x9)], rfl, ⟨.inl ⟨15, rfl, rfl, rfl, rfl⟩, .inl ⟨16, rfl, rfl, rfl, rfl⟩, trivial⟩, fun u a w T S => (by refine r_ia (ix := 4) T S rfl rfl rfl rfl tu67 ts73 h10.1 h10.2 rfl fun _ T => ?_; exact ⟨rfl, T⟩)⟩, ⟨_, [(33, .pointer (some (eA A5 (Int.toNat x9 * 5))))], rfl, ⟨.inl ⟨17, rfl, rfl, rfl, rfl⟩, trivial⟩, fun u a w T S => (by refine r_faE T rfl tu73 rfl ts3 rfl fun _ T => ?_; exact ⟨rfl, T⟩)⟩, ⟨_, [(34, .pointer (some (eA A5 (Int.toNat x9 * 5 + 1))))], rfl, ⟨.inl ⟨18, rfl, rfl, rfl, rfl⟩, trivial⟩, fun u a w T S => (by refine r_ldE (ix := 4) (i := x9) (off := 1) (f := (Value.int .i64)) T S rfl ti3 rfl ds_block _ rfl rfl fld_s_block_to' h10.1 h10.2 id rfl fun _ T => ?_; exact ⟨rfl, T⟩)⟩, ⟨_, [(37, .tuple #[.slice A15 ys.length k16, .int .i64 x14.2.1, .bool x14.2.2])], rfl, ⟨.inl ⟨21, rfl, rfl, rfl, rfl⟩, trivial⟩, fun u a w T S => (by refine v1 T rfl fun T => ?_; exact ⟨rfl, T⟩)⟩, ⟨_, [(15, .tuple #[.slice A15 ys.length k16, .int .i64 x14.2.1, .bool x14.2.2])], rfl, ⟨.inl ⟨22, rfl, rfl, rfl, rfl⟩, trivial⟩, fun u a w T S => (by refine v1 T rfl fun T => ?_; exact ⟨rfl, T⟩)⟩, ⟨_, [(15, .tuple #[.slice A15 ys.length k16, .int .i64 x14.2.1, .bool x14.2.2])], rfl, ⟨.inl ⟨22, rfl, rfl, rfl, rfl⟩, trivial⟩, fun u a w T S => (by refine v1 T rfl fun T => ?_; exact ⟨rfl, T⟩)⟩, ⟨_, [(15, .tuple #[.slice A15 ys.length k16, .int .i64 x14.2.1, .bool x14.2.2])], rfl, ⟨.inl ⟨22, rfl, rfl, rfl, rfl⟩, trivial⟩, fun u a w T S => (by refine v1 T rfl fun T => ?_; exact ⟨rfl, T⟩)⟩, ⟨_, [(38, .slice A15 ys.length k16)], rfl, ⟨.inl ⟨23, rfl, rfl, rfl, rfl⟩, trivial⟩, fun u a w T S => (by refine v1 T rfl fun T => ?_; exact ⟨rfl, T⟩)⟩, ⟨_, [(39, .int .i64 x14.2.1)], rfl, ⟨.inl ⟨24, rfl, rfl, rfl, rfl⟩, trivial⟩, fun u a w T S => (by refine v1 T rfl fun T => ?_; exact ⟨rfl, T⟩)⟩, ⟨_, [(40, .bool x14.2.2)], rfl, ⟨.inl ⟨25, rfl, rfl, rfl, rfl⟩, trivial⟩, fun u a w T S => (by refine v1 T rfl fun T => ?_; exact ⟨rfl, T⟩)⟩, trivial⟩ rfl (fun i hi => by cases hi) (fun _ _ a w T hv hb S => ?_)
 replace T := T.sub (r := [(5, .slice A15 ys.length k16)]) ⟨hv 26 _ 5 rfl rfl rfl, trivial⟩
 refine sq (rg (v2 T rfl rfl fun T => ?_))
 obtain rfl := sj H
 exact rtn T tf41 rfl rfl ⟨ys, A15, k16, A3, k4, A5, k6, A7, k8, hys, rfl, (S.only (p := [sl .own kRE A15 k16 ys, blk b2 [.slice A3 x1.b.length k4, .slice A5 x1.blocks.length k6, .slice A7 x1.filter.length k8, .int .i64 x1.count, .int .i64 (wr .i64 (x1.reads + 1))], sl .ro ku8 A3 k4 x1.b, sl .ro ks_block A5 k6 x1.blocks, sl .ro ku8 A7 k8 x1.filter, pack (own8 (pls ys))]) [0, 1, 1, 1, 1, 1] rfl)⟩
end s_Table_look
namespace w4_mark
noncomputable def c0 : Code := match Try.f23.body with | some c => c | none => .skip
def R (F : List Atom) (r : Unit) : Ending → World → Prop := fun e w' => e = .returned (.tuple #[]) ∧ SL ([] ++ F) w'
def L1 (z : Nat) : Nat → Int → (List Int) → Option Unit
 | 0, _, _ => none
 | m + 1, x15, x12 => If (decide (x15 < (x12.length : Int))) (Ck (0 ≤ x15 ∧ x15 < (x12.length : Int)) (L1 z m (wr .i64 (x15 + 1)) (x12.set (Int.toNat x15) 77))) (some ())
def L0 (z : Nat) (x1 : aE) : Nat → Int → (List Int) → Option Unit
 | 0, _, _ => none
 | m + 1, x10, x7 => If (decide (x10 < (x7.length : Int))) (Ck (0 ≤ x10 ∧ x10 < (x7.length : Int)) (L0 z x1 m (wr .i64 (x10 + 1)) (x7.set (Int.toNat x10) 77))) (L1 z z 0 x1.Value)
def f (z : Nat) (x1 : aE) : Option Unit := L0 z x1 z 0 x1.Key
noncomputable def ptL1 : List Item := [.code (cB (cB (cr 3 c0))), .inLoop (cB (cB (cr 3 c0))), .inBlock 2]
noncomputable def ptL0 : List Item := [.code (cB (cB (cR (cL (cR c0))))), .inLoop (cB (cB (cR (cL (cR c0))))), .inBlock 0, .code (cR (cR c0))]
theorem L1_ok (F : List Atom) (r : Unit) (z b6 : Nat) (A8 : OA) (x7 : List Int) (k9 : Nat) (x1 : aE) (m : Nat) : ∀ (x15 : Int) (A13 : OA) (x12 : List Int) (k14 : Nat) (a : Act) (w : World), Tm 26 [(1, .pointer (some ⟨b6, 0, none⟩)), (3, .int .i64 x15)] a → SL ([blk b6 [.slice A8 x7.length k9, .int .u64 x1.Seq, .bool x1.Del, .slice A13 x12.length k14], sl .own ku8 A8 k9 x7, sl .own ku8 A13 k14 x12] ++ F) w → L1 z m x15 x12 = some r → Gets Try.prog 23 ptL1 a w (R F r) := by
 induction m with
 | zero => intro _ _ _ _ _ _ _ _ H; cases H
 | succ m ih =>
  intro x15 A13 x12 k14 a w T S H
  refine sq (sq (rg (v1 T rfl fun T => r_fa (o' := 3) T rfl tu36 rfl ts24 rfl rfl fun _ T => lB (ix := 0) T S rfl ti24 rfl rfl rfl fun _ T => rn T rfl tu24 rfl fun _ T => v1 T rfl fun T => ?_)))
  rcases ifE H with ⟨h16, H⟩ | ⟨h16, H⟩
  ·refine cdT T rfl h16 (sk (sq (bq (rg (r_fa (o' := 3) T rfl tu36 rfl ts24 rfl rfl fun _ T => lB (ix := 0) T S rfl ti24 rfl rfl rfl fun _ T => v1 T rfl fun T => ?_)))))
   obtain ⟨h17, H⟩ := ck H
   refine r_ia (ix := 2) T S rfl rfl rfl rfl tu24 ts5 h17.1 h17.2 rfl fun _ T => r_stE (ix := 2) (i := x15) (u := 77) T S rfl rfl rfl rfl (fun _ => rfl) ts5 h17.1 h17.2 rfl fun _ S => Gets.inBlock (rg (v3 T rfl rfl rfl fun T => Gets.inLoop ?_))
   replace S : SL ([blk b6 [.slice A8 x7.length k9, .int .u64 x1.Seq, .bool x1.Del, .slice A13 ((x12.set (Int.toNat x15) 77).length) k14], sl .own ku8 A8 k9 x7, sl .own ku8 A13 k14 (x12.set (Int.toNat x15) 77)] ++ F) _ := S.reB (i := 0) rfl (by simp) rfl
   exact ih (wr .i64 (x15 + 1)) A13 (x12.set (Int.toNat x15) 77) k14 _ _ (T.sb rfl) (S.only [0, 0, 0] rfl) H
  ·refine cdF T rfl h16 (Gets.exit rfl ?_)
   obtain rfl := sj H
   exact rtf T Try.func23 rfl rfl ⟨rfl, (S.only [] rfl)⟩
theorem L0_ok (F : List Atom) (r : Unit) (z b6 : Nat) (x1 : aE) (A4 : OA) (k5 m : Nat) : ∀ (x10 : Int) (A8 : OA) (x7 : List Int) (k9 : Nat) (a : Act) (w : World), Tm 26 [(1, .pointer (some ⟨b6, 0, none⟩)), (2, .int .i64 x10)] a → SL ([blk b6 [.slice A8 x7.length k9, .int .u64 x1.Seq, .bool x1.Del, .slice A4 x1.Value.length k5], sl .own ku8 A8 k9 x7, sl .own ku8 A4 k5 x1.Value] ++ F) w → L0 z x1 m x10 x7 = some r → Gets Try.prog 23 ptL0 a w (R F r) := by
 induction m with
 | zero => intro _ _ _ _ _ _ _ _ H; cases H
 | succ m ih =>
  intro x10 A8 x7 k9 a w T S H
  refine sq (sq (rg (v1 T rfl fun T => r_fa (o' := 0) T rfl tu36 rfl ts24 rfl rfl fun _ T => lB (ix := 0) T S rfl ti24 rfl rfl rfl fun _ T => rn T rfl tu24 rfl fun _ T => v1 T rfl fun T => ?_)))
  rcases ifE H with ⟨h11, H⟩ | ⟨h11, H⟩
  ·refine cdT T rfl h11 (sk (sq (bq (rg (r_fa (o' := 0) T rfl tu36 rfl ts24 rfl rfl fun _ T => lB (ix := 0) T S rfl ti24 rfl rfl rfl fun _ T => v1 T rfl fun T => ?_)))))
   obtain ⟨h18, H⟩ := ck H
   refine r_ia (ix := 1) T S rfl rfl rfl rfl tu24 ts5 h18.1 h18.2 rfl fun _ T => r_stE (ix := 1) (i := x10) (u := 77) T S rfl rfl rfl rfl (fun _ => rfl) ts5 h18.1 h18.2 rfl fun _ S => Gets.inBlock (rg (v3 T rfl rfl rfl fun T => Gets.inLoop ?_))
   replace S : SL ([blk b6 [.slice A8 ((x7.set (Int.toNat x10) 77).length) k9, .int .u64 x1.Seq, .bool x1.Del, .slice A4 x1.Value.length k5], sl .own ku8 A8 k9 (x7.set (Int.toNat x10) 77), sl .own ku8 A4 k5 x1.Value] ++ F) _ := S.reB (i := 0) rfl (by simp) rfl
   exact ih (wr .i64 (x10 + 1)) A8 (x7.set (Int.toNat x10) 77) k9 _ _ (T.sb rfl) (S.only [0, 0, 0] rfl) H
  ·refine cdF T rfl h11 (Gets.exit rfl (sq (rg (v1 T rfl fun T => bq (Gets.loop ?_)))))
   exact L1_ok F r z b6 A8 x7 k9 x1 z 0 A4 x1.Value k5 _ _ (T.sb rfl) (S.only [0, 0, 0] rfl) H
theorem ok (F : List Atom) (w : World) (z : Nat) (x1 : aE) {A2 : OA} {k3 : Nat} {A4 : OA} {k5 : Nat} (S : SL ([sl .own ku8 A2 k3 x1.Key, sl .own ku8 A4 k5 x1.Value] ++ F) w) (r : Unit) (H : f z x1 = some r) : Calls Try.prog 23 #[.agg #[.slice A2 x1.Key.length k3, .int .u64 x1.Seq, .bool x1.Del, .slice A4 x1.Value.length k5]] w (R F r) := by
 refine enter (vs := [.agg #[.slice A2 x1.Key.length k3, .int .u64 x1.Seq, .bool x1.Del, .slice A4 x1.Value.length k5]]) Try.func23 rfl Try.ntmps23 (nle rfl) fun a T => ?_
 refine sq (rg (r_box T S rfl (cs := [.slice A2 x1.Key.length k3, .int .u64 x1.Seq, .bool x1.Del, .slice A4 x1.Value.length k5]) rfl rfl fun _ _ b6 S T => sq (sq (rg (v1 T rfl fun T => bq (Gets.loop ?_))))))
 exact L0_ok F r z b6 x1 A4 k5 z 0 A2 x1.Key k3 _ _ (T.sb rfl) (S.only [0, 0, 0] rfl) H
end w4_mark
namespace r4_Copy
def R (F : List Atom) (x1 : aE) (A2 : OA) (k3 : Nat) (m4 : Md) (A5 : OA) (k6 : Nat) (m7 : Md) (r : aE) : Ending → World → Prop := fun e w' => ∃ (A17 : OA), ∃ (k18 : Nat), ∃ (A19 : OA), ∃ (k20 : Nat), e = .returned (.agg #[.slice A17 r.Key.length k18, .int .u64 r.Seq, .bool r.Del, .slice A19 r.Value.length k20]) ∧ SL ([sl .ro ku8 A17 k18 r.Key, sl .ro ku8 A19 k20 r.Value, sl m4 ku8 A2 k3 x1.Key, sl m7 ku8 A5 k6 x1.Value] ++ F) w'
def f (x1 : aE) : Option aE := Ck ((([] : List Int).length + x1.Key.length) * 1 ≤ 140737488355328) (Ck ((([] : List Int).length + x1.Value.length) * 1 ≤ 140737488355328) (some (aE.mk (([] : List Int) ++ x1.Key) x1.Seq x1.Del (([] : List Int) ++ x1.Value))))
theorem ok (F : List Atom) (w : World) (x1 : aE) {A2 : OA} {k3 : Nat} {m4 : Md} {A5 : OA} {k6 : Nat} {m7 : Md} (S : SL ([sl m4 ku8 A2 k3 x1.Key, sl m7 ku8 A5 k6 x1.Value] ++ F) w) (r : aE) (H : f x1 = some r) : Calls Try.prog 37 #[.agg #[.slice A2 x1.Key.length k3, .int .u64 x1.Seq, .bool x1.Del, .slice A5 x1.Value.length k6]] w (R F x1 A2 k3 m4 A5 k6 m7 r) := by
 refine enter (vs := [.agg #[.slice A2 x1.Key.length k3, .int .u64 x1.Seq, .bool x1.Del, .slice A5 x1.Value.length k6]]) Try.func37 rfl Try.ntmps37 (nle rfl) fun a T => ?_
 refine sq (rg (r_box T S rfl (cs := [.slice A2 x1.Key.length k3, .int .u64 x1.Seq, .bool x1.Del, .slice A5 x1.Value.length k6]) rfl rfl fun _ _ b8 S T => r_alloc T S zv36 (cs := [.slice none 0 0, .int .u64 0, .bool false, .slice none 0 0]) rfl rfl fun _ _ b9 S T => sq (rg (r_fa (o' := 1) T rfl tu36 rfl ts34 rfl rfl fun _ T => lB (ix := 1) T S rfl ti34 rfl rfl rfl fun _ T => r_fa (o' := 2) T rfl tu36 rfl ts4 rfl rfl fun _ T => lB (ix := 1) T S rfl ti4 rfl rfl rfl fun _ T => r_build (cs := #[.slice none 0 0, .int .u64 x1.Seq, .bool x1.Del, .slice none 0 0]) T stt36 rfl rfl rfl fun _ T => r_alloc T S zv36 (cs := [.slice none 0 0, .int .u64 0, .bool false, .slice none 0 0]) rfl rfl fun _ _ b10 S T => ?_))))
 refine r_stBA (ix := 0) (vs := [.slice none 0 0, .int .u64 x1.Seq, .bool x1.Del, .slice none 0 0]) T S rfl rfl rfl rfl (by simp) ts36 (nle rfl) rfl fun _ S => ?_
 refine sq (rg (r_fa (o' := 0) T rfl tu36 rfl ts24 rfl rfl fun _ T => lB (ix := 0) T S rfl ti24 rfl rfl rfl fun _ T => r_fa (o' := 0) T rfl tu36 rfl ts24 rfl rfl fun _ T => lB (ix := 2) T S rfl ti24 rfl rfl rfl fun _ T => ?_))
 replace S := S.nil ku8 .own
 obtain ⟨h13, H⟩ := ck H
 refine r_app (ix := 0) (iy := 4) (xs := ([] : List Int)) (ys := x1.Key) T S rfl rfl rfl rfl (by decide) sty24 tu24 (by decide) h13 rfl fun _ _ A11 k12 S T => ?_
 refine r_fa (o' := 0) T rfl tu36 rfl ts24 rfl rfl fun _ T => r_stB (ix := 1) T S rfl rfl rfl ts24 rfl (nle rfl) rfl fun _ S => sq (rg (r_fa (o' := 3) T rfl tu36 rfl ts24 rfl rfl fun _ T => lB (ix := 1) T S rfl ti24 rfl rfl rfl fun _ T => r_fa (o' := 3) T rfl tu36 rfl ts24 rfl rfl fun _ T => lB (ix := 3) T S rfl ti24 rfl rfl rfl fun _ T => ?_))
 replace S := S.nil ku8 .own
 obtain ⟨h16, H⟩ := ck H
 refine r_app (ix := 0) (iy := 6) (xs := ([] : List Int)) (ys := x1.Value) T S rfl rfl rfl rfl (by decide) sty24 tu24 (by decide) h16 rfl fun _ _ A14 k15 S T => ?_
 refine r_fa (o' := 3) T rfl tu36 rfl ts24 rfl rfl fun _ T => r_stB (ix := 2) T S rfl rfl rfl ts24 rfl (nle rfl) rfl fun _ S => sq (rg ?_)
 refine r_ldBA (ix := 2) (ds := [.slice A11 ((([] : List Int) ++ x1.Key).length) k12, .int .u64 x1.Seq, .bool x1.Del, .slice A14 ((([] : List Int) ++ x1.Value).length) k15]) T S rfl ti36 rfl rfl ts36 rfl fun _ T => r_stBA (ix := 3) (vs := [.slice A11 ((([] : List Int) ++ x1.Key).length) k12, .int .u64 x1.Seq, .bool x1.Del, .slice A14 ((([] : List Int) ++ x1.Value).length) k15]) T S rfl rfl rfl rfl (by simp) ts36 (nle rfl) rfl fun _ S => ?_
 replace S := S.fixL (i := 1) rfl rfl
 replace S := S.fixL (i := 0) rfl rfl
 obtain rfl := sj H
 exact rtnM T S Try.func37 rfl ⟨_, _, rfl, ⟨b9, _, 3, rfl, rfl, .inl ⟨ti36, ts36, rfl⟩⟩, rfl⟩ ⟨A11, k12, A14, k15, rfl, (S.only [1, 0, 3, 3] rfl)⟩
end r4_Copy
namespace w4_scan
def rfA : Code → Code | .rangeFunc _ _ x _ => x | _ => .skip
def rfB : Code → Code | .rangeFunc _ _ _ x => x | _ => .skip
noncomputable def c0 : Code := match Try.f9.body with | some c => c | none => .skip
noncomputable def rA : Code := rfA (cB (cR (cL (cR (cR c0)))))
noncomputable def rB : Code := rfB (cB (cR (cL (cR (cR c0)))))
abbrev vE (e : aE) (A1 : Option Addr) (k1 : Nat) (A2 : Option Addr) (k2 : Nat) : List Value := [.slice A1 e.Key.length k1, .int .u64 e.Seq, .bool e.Del, .slice A2 e.Value.length k2]
def rnd (z : Nat) (most : Int) (e : aE) (out : List aE) : Option (Bool × List aE) := Bd (r4_Copy.f e) fun own => Ck ((out.length + [own].length) * 64 ≤ 140737488355328) (Bd (w4_mark.f z e) fun _ => If (decide (((out ++ [own]).length : Int) ≥ most)) (some (false, out ++ [own])) (some (true, out ++ [own])))
noncomputable def lp (l D : Nat) (a0 : Act) (more : Bool) : Atom := ob l (.loop (rdy 9 a0 #[13] rA rB D (if more then .ready else .done) (if more then none else some (.exit 0))))
theorem rnd_ok (F : List Atom) (w : World) (z : Nat) (most : Int) (e : aE) (out : List aE) {l D b5 b7 : Nat} {a0 : Act} {A1 A2 Ao : Option Addr} {k1 k2 ko : Nat} (T0 : Tm 27 [(5, .pointer (some ⟨b5, 0, none⟩)), (7, .pointer (some ⟨b7, 0, none⟩))] a0)
  (S : SL ([lp l D a0 true, sl .own ku8 A1 k1 e.Key, sl .own ku8 A2 k2 e.Value, blk b5 [.int .i64 most], blk b7 [.slice Ao out.length ko], sl .own kaE Ao ko out] ++ F) w) (r : Bool × List aE) (H : rnd z most e out = some r) :
  Rnds Try.prog l #[.agg (vE e A1 k1 A2 k2).toArray] w (fun en w' => ∃ Ao ko, en = .returned (.bool r.1) ∧ SL ([lp l D a0 r.1, blk b5 [.int .i64 most], blk b7 [.slice Ao r.2.length ko], sl .own kaE Ao ko r.2] ++ F) w') := by
 refine yields_of (L := [sl .own ku8 A1 k1 e.Key, sl .own ku8 A2 k2 e.Value, blk b5 [.int .i64 most], blk b7 [.slice Ao out.length ko], sl .own kaE Ao ko out] ++ F) (tm := a0.tmps.setIfInBounds 13 (.agg (vE e A1 k1 A2 k2).toArray)) S rfl (by simp [rdy]) ?_
 have T : Tm 27 [(13, .agg (vE e A1 k1 A2 k2).toArray), (5, .pointer (some ⟨b5, 0, none⟩)), (7, .pointer (some ⟨b7, 0, none⟩))] { tmps := a0.tmps.setIfInBounds 13 (.agg (vE e A1 k1 A2 k2).toArray), defers := [] } := by
  have q := T0.put (d := 13) rfl (.agg (vE e A1 k1 A2 k2).toArray)
  exact ⟨rfl, q.size, q.at_⟩
 show Gets Try.prog { fn := 9, rnd := some l } [.code rA, .beginRound, .code rB] { tmps := a0.tmps.setIfInBounds 13 (.agg (vE e A1 k1 A2 k2).toArray), defers := [] } w _
 refine rg (r_alloc T S zv36 (cs := [.slice none 0 0, .int .u64 0, .bool false, .slice none 0 0]) rfl rfl fun _ _ b8 S T => ?_)
 refine r_stBA (ix := 0) (vs := vE e A1 k1 A2 k2) (l' := [blk b8 (vE e A1 k1 A2 k2), lp l D a0 true, sl .own ku8 A1 k1 e.Key, sl .own ku8 A2 k2 e.Value, blk b5 [.int .i64 most], blk b7 [.slice Ao out.length ko], sl .own kaE Ao ko out]) T S rfl rfl rfl rfl (by simp) ts36 (nle rfl) rfl fun _ S => ?_
 have S' := SL.only (p := [lp l D a0 true, blk b8 (vE e A1 k1 A2 k2), sl .own ku8 A1 k1 e.Key, sl .own ku8 A2 k2 e.Value, blk b5 [.int .i64 most], blk b7 [.slice Ao out.length ko], sl .own kaE Ao ko out]) [1, 0, 0, 0, 0, 0, 0] S rfl
 refine Gets.begin (L := [blk b8 (vE e A1 k1 A2 k2), sl .own ku8 A1 k1 e.Key, sl .own ku8 A2 k2 e.Value, blk b5 [.int .i64 most], blk b7 [.slice Ao out.length ko], sl .own kaE Ao ko out] ++ F) S' rfl fun w1 S => ?_
 obtain ⟨bz, hbz⟩ : ∃ bz, bz = ob l (.loop { rdy 9 a0 #[13] rA rB D .ready none with state := .busy }) := ⟨_, rfl⟩
 replace S : SL ([bz, blk b8 (vE e A1 k1 A2 k2), sl .own ku8 A1 k1 e.Key, sl .own ku8 A2 k2 e.Value, blk b5 [.int .i64 most], blk b7 [.slice Ao out.length ko], sl .own kaE Ao ko out] ++ F) w1 := by rw [hbz]; exact S
 unfold rnd at H
 refine bq (sq (rg (r_ldBA (ix := 1) (ds := vE e A1 k1 A2 k2) T S rfl ti36 rfl rfl ts36 rfl fun _ T => ?_)))
 obtain ⟨own, h1, H⟩ := bd H
 refine rc T Try.call37 rfl rfl (r4_Copy.ok _ _ e (S.sel (p := [sl .own ku8 A1 k1 e.Key, sl .own ku8 A2 k2 e.Value]) (is := [2, 2]) rfl) _ h1) ?_
 rintro _ _ ⟨A3, k3, A4, k4, rfl, S⟩
 refine ⟨_, rfl, fun _ T => ?_⟩
 replace S : SL ([sl .ro ku8 A3 k3 own.Key, sl .ro ku8 A4 k4 own.Value, sl .own ku8 A1 k1 e.Key, sl .own ku8 A2 k2 e.Value, bz, blk b8 (vE e A1 k1 A2 k2), blk b5 [.int .i64 most], blk b7 [.slice Ao out.length ko], sl .own kaE Ao ko out] ++ F) _ := S.join
 refine r_alloc T S zv36 (cs := [.slice none 0 0, .int .u64 0, .bool false, .slice none 0 0]) rfl rfl fun _ _ b9 S T => ?_
 refine r_stBA (ix := 0) (vs := vE own A3 k3 A4 k4) (l' := [blk b9 (vE own A3 k3 A4 k4), sl .ro ku8 A3 k3 own.Key, sl .ro ku8 A4 k4 own.Value, sl .own ku8 A1 k1 e.Key, sl .own ku8 A2 k2 e.Value, bz, blk b8 (vE e A1 k1 A2 k2), blk b5 [.int .i64 most], blk b7 [.slice Ao out.length ko], sl .own kaE Ao ko out]) T S rfl rfl rfl rfl (by simp) ts36 (nle rfl) rfl fun _ S => ?_
 refine sq (rg (lB (ix := 8) T S rfl ti22 rfl rfl rfl fun _ T => r_ldBA (ix := 0) (ds := vE own A3 k3 A4 k4) T S rfl ti36 rfl rfl ts36 rfl fun _ T => ?_))
 replace S : SL ([rp kaE own (vE own A3 k3 A4 k4), blk b9 (vE own A3 k3 A4 k4), sl .ro ku8 A3 k3 own.Key, sl .ro ku8 A4 k4 own.Value, sl .own ku8 A1 k1 e.Key, sl .own ku8 A2 k2 e.Value, bz, blk b8 (vE e A1 k1 A2 k2), blk b5 [.int .i64 most], blk b7 [.slice Ao out.length ko], sl .own kaE Ao ko out] ++ F) _ := cl_aE (i0 := 1) (i1 := 2) S rfl rfl
 refine r_bsl (κ := kaE) (xs := [own]) (vs := [.agg (vE own A3 k3 A4 k4).toArray]) T S sty22 rfl ⟨_, _, rfl, ⟨0, rfl⟩, rfl⟩ rfl (by decide) rfl fun _ _ b10 S T => ?_
 obtain ⟨h2, H⟩ := ck H
 refine r_app (ix := 11) (iy := 0) (xs := out) (ys := [own]) T S rfl rfl rfl rfl (by decide) sty22 tu22 (by decide) h2 rfl fun _ _ A5 k5 S T => ?_
 replace S : SL ([sl .own kaE (some ⟨b10, 0, none⟩) 1 [own], rp kaE own (vE own A3 k3 A4 k4), blk b9 (vE own A3 k3 A4 k4), sl .ro ku8 A3 k3 own.Key, sl .ro ku8 A4 k4 own.Value, sl .own ku8 A1 k1 e.Key, sl .own ku8 A2 k2 e.Value, bz, blk b8 (vE e A1 k1 A2 k2), blk b5 [.int .i64 most], blk b7 [.slice Ao out.length ko], sl .own kaE A5 k5 (out ++ [own])] ++ F) _ := S
 refine r_stB (ix := 10) (l' := [sl .own kaE (some ⟨b10, 0, none⟩) 1 [own], rp kaE own (vE own A3 k3 A4 k4), blk b9 (vE own A3 k3 A4 k4), sl .ro ku8 A3 k3 own.Key, sl .ro ku8 A4 k4 own.Value, sl .own ku8 A1 k1 e.Key, sl .own ku8 A2 k2 e.Value, bz, blk b8 (vE e A1 k1 A2 k2), blk b5 [.int .i64 most], blk b7 [.slice A5 (out ++ [own]).length k5], sl .own kaE A5 k5 (out ++ [own])]) T S rfl rfl rfl ts22 rfl (nle rfl) rfl fun _ S => sq (rg (r_ldBA (ix := 8) (ds := vE e A1 k1 A2 k2) T S rfl ti36 rfl rfl ts36 rfl fun _ T => ?_))
 obtain ⟨u, h3, H⟩ := bd H
 refine rc T Try.call23 rfl rfl (w4_mark.ok _ _ z e (S.sel (p := [sl .own ku8 A1 k1 e.Key, sl .own ku8 A2 k2 e.Value]) (is := [5, 5]) rfl) _ h3) ?_
 rintro _ _ ⟨rfl, S⟩
 refine ⟨_, rfl, fun _ T => ?_⟩
 replace S : SL ([sl .own kaE (some ⟨b10, 0, none⟩) 1 [own], rp kaE own (vE own A3 k3 A4 k4), blk b9 (vE own A3 k3 A4 k4), sl .ro ku8 A3 k3 own.Key, sl .ro ku8 A4 k4 own.Value, bz, blk b8 (vE e A1 k1 A2 k2), blk b5 [.int .i64 most], blk b7 [.slice A5 (out ++ [own]).length k5], sl .own kaE A5 k5 (out ++ [own])] ++ F) _ := S.join
 refine sq (rg (lB (ix := 8) T S rfl ti22 rfl rfl rfl fun _ T => rn T rfl tu22 rfl fun _ T => lB (ix := 7) T S rfl ti3 rfl rfl rfl fun _ T => v1 T rfl fun T => ?_))
 have SE := S.only (p := [bz, blk b5 [.int .i64 most], blk b7 [.slice A5 (out ++ [own]).length k5], sl .own kaE A5 k5 (out ++ [own])]) [5, 6, 6, 6] rfl
 rw [hbz] at SE
 rcases ifE H with ⟨h4, H⟩ | ⟨h4, H⟩
 ·refine cdT T rfl h4 ?_
  obtain rfl := sj H
  exact Gets.roundExit (L := [blk b5 [.int .i64 most], blk b7 [.slice A5 (out ++ [own]).length k5], sl .own kaE A5 k5 (out ++ [own])] ++ F) SE rfl fun w' S => ⟨A5, k5, rfl, S⟩
 ·refine cdF T rfl h4 (sk (Gets.inBlock ?_))
  obtain rfl := sj H
  exact Gets.roundEnd (L := [blk b5 [.int .i64 most], blk b7 [.slice A5 (out ++ [own]).length k5], sl .own kaE A5 k5 (out ++ [own])] ++ F) SE fun w' S => ⟨A5, k5, rfl, S⟩
end w4_scan
end Go.Proofs.Ytghpokmkhlmgcaa
