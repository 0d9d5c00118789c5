/- The row of SstableFinds, the statement's second form: from the walk and the plain law. Condition: what is handed in is of bulk at most 1048576. -/
import Derived.Test.YtghpokmkhlmgcaaFi5
import Derived.KernelRfl
import Derived.Test.YtghpokmkhlmgcaaRows
import Derived.OpenShut
import Derived.Deep.DeepHandedRow
import Derived.Lib.LaidTab
namespace Go.Proofs.Ytghpokmkhlmgcaa
open Go Go.Proofs.Ytghpokmkhlmgcaa.X
set_option linter.unusedVariables false
set_option linter.unusedSimpArgs false
set_option maxRecDepth 100000
set_option maxHeartbeats 4000000
namespace w4_few
def R (F : List Atom) (r : (List aE)) : Ending → World → Prop := fun e w' => ∃ (A7 : OA), ∃ (k8 : Nat), e = .returned (.slice A7 r.length k8) ∧ SL ([sl .own kaE A7 k8 r] ++ F) w'
def f : Option (List aE) := some [(aE.mk [97] 2 false [120]), (aE.mk [97] 1 true ([] : List Int)), (aE.mk [98] 3 false [121, 122])]
abbrev y0 (b1 b2 : Nat) : Atom := rp kaE (aE.mk [97] 2 false [120]) [.slice (some ⟨b1, 0, none⟩) 1 1, .int .u64 2, .bool false, .slice (some ⟨b2, 0, none⟩) 1 1]
theorem ok (F : List Atom) (w : World) (S : SL ([] ++ F) w) (r : (List aE)) (H : f  = some r) : Calls Try.prog 24 #[] w (R F r) := by
 refine enter (vs := []) Try.func24 rfl Try.ntmps24 (nle rfl) fun a T => ?_
 refine sq (rg (v1 T rfl fun T => sq (rg ?_)))
 replace S := SL.val (κ := ku8) (x := 97) (cs := [.int .u8 97]) (fun _ => rfl) S
 refine r_bsl (κ := ku8) (xs := [97]) (vs := [.int .u8 97]) T S sty24 rfl ⟨_, _, rfl, ⟨0, rfl⟩, rfl⟩ rfl (by decide) rfl fun _ _ b1 S T => ?_
 replace S := S.only [0] rfl
 refine r_cvS (ix := 0) T S rfl rfl tu24 tu5 rfl ⟨_, rfl⟩ fun _ _ S T => ?_
 replace S := SL.val (κ := ku8) (x := 120) (cs := [.int .u8 120]) (fun _ => rfl) S
 refine r_bsl (κ := ku8) (xs := [120]) (vs := [.int .u8 120]) T S sty24 rfl ⟨_, _, rfl, ⟨0, rfl⟩, rfl⟩ rfl (by decide) rfl fun _ _ b2 S T => ?_
 replace S := S.only [0, 1] rfl
 refine r_cvS (ix := 0) T S rfl rfl tu24 tu5 rfl ⟨_, rfl⟩ fun _ _ S T => r_build (cs := #[.slice (some ⟨b1, 0, none⟩) 1 1, .int .u64 2, .bool false, .slice (some ⟨b2, 0, none⟩) 1 1]) T stt36 rfl rfl rfl fun _ T => ?_
 replace S := SL.val (κ := ku8) (x := 97) (cs := [.int .u8 97]) (fun _ => rfl) S
 refine r_bsl (κ := ku8) (xs := [97]) (vs := [.int .u8 97]) T S sty24 rfl ⟨_, _, rfl, ⟨0, rfl⟩, rfl⟩ rfl (by decide) rfl fun _ _ b3 S T => ?_
 replace S := S.only [0, 1, 1] rfl
 refine r_cvS (ix := 0) T S rfl rfl tu24 tu5 rfl ⟨_, rfl⟩ fun _ _ S T => r_build (cs := #[.slice (some ⟨b3, 0, none⟩) 1 1, .int .u64 1, .bool true, .slice none 0 0]) T stt36 rfl rfl rfl fun _ T => ?_
 replace S := SL.val (κ := ku8) (x := 98) (cs := [.int .u8 98]) (fun _ => rfl) S
 refine r_bsl (κ := ku8) (xs := [98]) (vs := [.int .u8 98]) T S sty24 rfl ⟨_, _, rfl, ⟨0, rfl⟩, rfl⟩ rfl (by decide) rfl fun _ _ b4 S T => ?_
 replace S := S.only [0, 1, 1, 1] rfl
 refine r_cvS (ix := 0) T S rfl rfl tu24 tu5 rfl ⟨_, rfl⟩ fun _ _ S T => ?_
 replace S := SL.val (κ := ku8) (x := 121) (cs := [.int .u8 121]) (fun _ => rfl) S
 replace S := SL.val (κ := ku8) (x := 122) (cs := [.int .u8 122]) (fun _ => rfl) S
 refine r_bsl (κ := ku8) (xs := [121, 122]) (vs := [.int .u8 121, .int .u8 122]) T S sty24 rfl ⟨_, _, rfl, ⟨1, rfl⟩, ⟨_, _, rfl, ⟨0, rfl⟩, rfl⟩⟩ rfl (by decide) rfl fun _ _ b5 S T => ?_
 replace S := S.only [0, 2, 2, 2, 2] rfl
 refine r_cvS (ix := 0) T S rfl rfl tu24 tu5 rfl ⟨_, rfl⟩ fun _ _ S T => r_build (cs := #[.slice (some ⟨b4, 0, none⟩) 1 1, .int .u64 3, .bool false, .slice (some ⟨b5, 0, none⟩) 2 2]) T stt36 rfl rfl rfl fun _ T => ?_
 replace S := S.fixL (i := 4) rfl rfl
 replace S := S.fixL (i := 3) rfl rfl
 replace S : SL ([(y0 b1 b2), sl .own ku8 (some ⟨b5, 0, none⟩) 2 [121, 122], sl .own ku8 (some ⟨b4, 0, none⟩) 1 [98], sl .own ku8 (some ⟨b3, 0, none⟩) 1 [97], sl .ro ku8 (some ⟨b2, 0, none⟩) 1 [120], sl .ro ku8 (some ⟨b1, 0, none⟩) 1 [97]] ++ F) _ := cl_aE (i0 := 4) (i1 := 3) S rfl rfl
 replace S := S.fixL (i := 3) rfl rfl
 replace S := S.nil ku8 .ro
 replace S : SL ([rp kaE (aE.mk [97] 1 true ([] : List Int)) [.slice (some ⟨b3, 0, none⟩) 1 1, .int .u64 1, .bool true, .slice none 0 0], sl .ro ku8 none 0 ([] : List Int), (y0 b1 b2), sl .own ku8 (some ⟨b5, 0, none⟩) 2 [121, 122], sl .own ku8 (some ⟨b4, 0, none⟩) 1 [98], sl .ro ku8 (some ⟨b3, 0, none⟩) 1 [97], sl .ro ku8 (some ⟨b2, 0, none⟩) 1 [120], sl .ro ku8 (some ⟨b1, 0, none⟩) 1 [97]] ++ F) _ := cl_aE (i0 := 4) (i1 := 0) S rfl rfl
 replace S := S.fixL (i := 4) rfl rfl
 replace S := S.fixL (i := 3) rfl rfl
 replace S : SL ([rp kaE (aE.mk [98] 3 false [121, 122]) [.slice (some ⟨b4, 0, none⟩) 1 1, .int .u64 3, .bool false, .slice (some ⟨b5, 0, none⟩) 2 2], rp kaE (aE.mk [97] 1 true ([] : List Int)) [.slice (some ⟨b3, 0, none⟩) 1 1, .int .u64 1, .bool true, .slice none 0 0], sl .ro ku8 none 0 ([] : List Int), (y0 b1 b2), sl .ro ku8 (some ⟨b5, 0, none⟩) 2 [121, 122], sl .ro ku8 (some ⟨b4, 0, none⟩) 1 [98], sl .ro ku8 (some ⟨b3, 0, none⟩) 1 [97], sl .ro ku8 (some ⟨b2, 0, none⟩) 1 [120], sl .ro ku8 (some ⟨b1, 0, none⟩) 1 [97]] ++ F) _ := cl_aE (i0 := 4) (i1 := 3) S rfl rfl
 refine r_bsl (κ := kaE) (xs := [(aE.mk [97] 2 false [120]), (aE.mk [97] 1 true ([] : List Int)), (aE.mk [98] 3 false [121, 122])]) (vs := [.agg #[.slice (some ⟨b1, 0, none⟩) 1 1, .int .u64 2, .bool false, .slice (some ⟨b2, 0, none⟩) 1 1], .agg #[.slice (some ⟨b3, 0, none⟩) 1 1, .int .u64 1, .bool true, .slice none 0 0], .agg #[.slice (some ⟨b4, 0, none⟩) 1 1, .int .u64 3, .bool false, .slice (some ⟨b5, 0, none⟩) 2 2]]) T S sty22 rfl ⟨_, _, rfl, ⟨3, rfl⟩, ⟨_, _, rfl, ⟨1, rfl⟩, ⟨_, _, rfl, ⟨0, rfl⟩, rfl⟩⟩⟩ rfl (by decide) rfl fun _ _ b6 S T => ?_
 replace S := S.only [0, 2, 3, 3, 3, 3, 3] rfl
 refine v1 T rfl fun T => ?_
 obtain rfl := sj H
 replace T := T.re (s := 0) (v' := .slice (some ⟨b6, 0, none⟩) [(aE.mk [97] 2 false [120]), (aE.mk [97] 1 true ([] : List Int)), (aE.mk [98] 3 false [121, 122])].length 3) rfl (by simp)
 exact rtn T Try.func24 rfl rfl ⟨(some ⟨b6, 0, none⟩), 3, rfl, (S.only [0] rfl)⟩
end w4_few
namespace w4_shown
noncomputable def c0 : Code := match Try.f6.body with | some c => c | none => .skip
def R (F : List Atom) (r : Bool) : Ending → World → Prop := fun e w' => e = .returned (.bool r) ∧ SL ([] ++ F) w'
def J2 (z : Nat) (x80 : Bool) : Option Bool := some x80
def J1 (z : Nat) : Option Bool := some false
def J0 (z : Nat) : Option Bool := some false
def f (z : Nat) : Option Bool := Bd (w4_few.f) fun x2 => Bd (s_Build.f z x2 64 10) fun x6 => If (x6.2 != 0) (J0 z) (If (decide ((x6.1.length : Int) < 60)) (J0 z) (Ck (19 ≤ (x6.1.length : Int)) (If (!((bstr (cut x6.1 (Int.toNat 6) (Int.toNat 19))).toList == (⟨#[0, 1, 2, 0, 1, 97, 120, 1, 0, 1, 1, 0, 0]⟩ : ByteArray).toList)) (J0 z) (Bd (s_Open.f z x6.1) fun x15 => Om x15.1 (If (x15.2 != 0) (J1 z) (J1 z)) fun x16 => If (x15.2 != 0) (some false) (Bd (s_Table_Get.f z x16 [97] 1) fun x29 => Bd (s_Table_Get.f z x29.2.2 [98] 2) fun x44 => Bd (s_Table_Count.f x44.2.2) fun x58 => If (x58.1 == 3) (Bd (s_Table_Blocks.f x58.2) fun x68 => If (x68.1 == 1) (If x29.2.1 (If x29.1.Del (If (x29.1.Seq == 1) (J2 z (!x44.2.1)) (J2 z false)) (J2 z false)) (J2 z false)) (J2 z false)) (J2 z false))))))
noncomputable def ptJ2 : List Item := [.code (cr 8 c0)]
noncomputable def ptJ1 : List Item := [.code (cL (cT (cR (cL (cr 4 c0))))), .code (cR (cT (cR (cL (cr 4 c0))))), .code (cr 5 c0)]
noncomputable def ptJ0 : List Item := [.code (cL (cT (cR (cL (cR (cR c0)))))), .code (cR (cT (cR (cL (cR (cR c0)))))), .code (cr 3 c0)]
theorem J2_ok (F : List Atom) (r : Bool) (z : Nat) (x80 : Bool) (a : Act) (w : World) (T : Tm 76 [(0, .bool x80)] a) (S : SL ([] ++ F) w) (H : J2 z x80 = some r) : Gets Try.prog 6 ptJ2 a w (R F r) := by
 obtain rfl := sj H
 exact rtn T tf6 rfl rfl ⟨rfl, (S.only [] rfl)⟩
theorem J1_ok (F : List Atom) (r : Bool) (z : Nat) (a : Act) (w : World) (T : Tm 76 [] a) (S : SL ([] ++ F) w) (H : J1 z = some r) : Gets Try.prog 6 ptJ1 a w (R F r) := by
 refine rg (v1 T rfl fun T => ?_)
 obtain rfl := sj H
 exact rtn T tf6 rfl rfl ⟨rfl, (S.only [] rfl)⟩
theorem J0_ok (F : List Atom) (r : Bool) (z : Nat) (a : Act) (w : World) (T : Tm 76 [] a) (S : SL ([] ++ F) w) (H : J0 z = some r) : Gets Try.prog 6 ptJ0 a w (R F r) := by
 refine rg (v1 T rfl fun T => ?_)
 obtain rfl := sj H
 exact rtn T tf6 rfl rfl ⟨rfl, (S.only [] rfl)⟩
theorem ok (F : List Atom) (w : World) (z : Nat) (S : SL ([] ++ F) w) (r : Bool) (H : f z  = some r) : Calls Try.prog 6 #[] w (R F r) := by
 refine enter (vs := []) tf6 rfl Try.ntmps6 (nle rfl) fun a T => ?_
 refine sq (rg (v1 T rfl fun T => sq (rg ?_)))
 obtain ⟨x2, h1, H⟩ := bd H
 refine rc T Try.call24 rfl rfl (w4_few.ok _ _  (S.sel (is := []) rfl) _ h1) ?_
 rintro _ _ ⟨A3, k4, rfl, S⟩
 refine ⟨_, rfl, fun _ T => ?_⟩
 replace S := S.join
 replace S := S.fixL (i := 0) rfl rfl
 obtain ⟨x6, h5, H⟩ := bd H
 refine rc T Try.call7 rfl rfl (s_Build.ok _ _ z x2 64 10 (S.sel (is := [0]) rfl) _ h5) ?_
 rintro _ _ ⟨A7, k8, rfl, S⟩
 refine ⟨_, rfl, fun _ T => ?_⟩
 replace S := S.join
 refine v3 T rfl rfl rfl fun T => v2 T rfl rfl fun T => sq (sq (rg (v3 T rfl rfl rfl fun T => ?_)))
 rcases ifE H with ⟨h9, H⟩ | ⟨h9, H⟩
 ·refine gn T rfl h9 fun T => gn T rfl h9 fun T => gn T rfl h9 fun T => pT T rfl h9 rfl rfl fun _ T => v1 T rfl fun T => gn T rfl rfl fun T => gn T rfl rfl fun T => gn T rfl rfl fun T => gn T rfl rfl fun T => pT T rfl rfl rfl rfl fun _ T => cdT T rfl rfl (sq ?_)
  exact J0_ok F r z _ _ (T.sub trivial) (S.only [] rfl) H
 ·refine gy T rfl h9 (v1 T rfl fun T => gy T rfl h9 (rn T rfl tu24 rfl fun _ T => gy T rfl h9 (v1 T rfl fun T => pF T rfl h9 rfl rfl fun _ T => v1 T rfl fun T => ?_)))
  rcases ifE H with ⟨h10, H⟩ | ⟨h10, H⟩
  ·refine gn T rfl h10 fun T => gn T rfl h10 fun T => gn T rfl h10 fun T => gn T rfl h10 fun T => pT T rfl h10 rfl rfl fun _ T => cdT T rfl rfl (sq ?_)
   exact J0_ok F r z _ _ (T.sub trivial) (S.only [] rfl) H
  ·refine gy T rfl h10 (v1 T rfl fun T => gy T rfl h10 ?_)
   have h11 := S.len (i := 0) rfl
   obtain ⟨h12, H⟩ := ck H
   refine r_slQ (xs := x6.1) T rfl (fun h => by cases h) rfl rfl rfl (by decide) (by decide) h12 (by have := h12; omega) (by omega) tu24 ts5 rfl fun _ T => ?_
   refine gy T rfl h10 ?_
   replace S := S.focus (ix := 0) (i := 6) (j := 19) (k := (k8 : Int)) rfl (by decide) (by decide) h12 (by have := h12; omega) (by omega)
   refine r_b2s (ix := 0) (xs := (cut x6.1 (Int.toNat 6) (Int.toNat 19))) T S rfl rfl tu24 tu9 tu5 rfl fun _ T => ?_
   replace S := S.unfocus (ix := 0) rfl
   refine gy T rfl h10 (v1 T rfl fun T => pF T rfl h10 rfl rfl fun _ T => ?_)
   rcases ifE H with ⟨h13, H⟩ | ⟨h13, H⟩
   ·refine cdT T rfl h13 (sq ?_)
    exact J0_ok F r z _ _ (T.sub trivial) (S.only [] rfl) H
   ·refine cdF T rfl h13 (sk (sq (rg (v1 T rfl fun T => ?_))))
    obtain ⟨x15, h14, H⟩ := bd H
    rcases omE H with ⟨h17, H⟩ | ⟨x16, h17, H⟩
    ·refine rc T tc8 rfl rfl (s_Open.ok _ _ z x6.1 (S.sel (is := [0]) rfl) _ h14) ?_
     intro _ _ hR_
     obtain ⟨rfl, S⟩ := omN h17 hR_
     refine ⟨_, rfl, fun _ T => ?_⟩
     replace S := S.join
     refine v3 T rfl rfl rfl fun T => v2 T rfl rfl fun T => sq (sq (rg (v3 T rfl rfl rfl fun T => ?_)))
     rcases ifE H with ⟨h25, H⟩ | ⟨h25, H⟩
     ·refine gn T rfl h25 fun T => gn T rfl h25 fun T => pT T rfl h25 rfl rfl fun _ T => cdT T rfl rfl (sq ?_)
      exact J1_ok F r z _ _ (T.sub trivial) (S.only [] rfl) H
     ·refine gy T rfl h25 (v1 T rfl fun T => gy T rfl h25 (r_ptrNil00e T rfl rfl Try.runUnderlying28 rfl fun _ T => pF T rfl h25 rfl rfl fun _ T => cdT T rfl rfl (sq ?_)))
      exact J1_ok F r z _ _ (T.sub trivial) (S.only [] rfl) H
    ·refine rc T tc8 rfl rfl (s_Open.ok _ _ z x6.1 (S.sel (is := [0]) rfl) _ h14) ?_
     intro _ _ hR_
     obtain ⟨b18, A19, k20, A21, k22, A23, k24, rfl, S⟩ := omS h17 hR_
     refine ⟨_, rfl, fun _ T => ?_⟩
     replace S := S.join
     refine v3 T rfl rfl rfl fun T => v2 T rfl rfl fun T => sq (sq (rg (v3 T rfl rfl rfl fun T => ?_)))
     rcases ifE H with ⟨h26, H⟩ | ⟨h26, H⟩
     ·refine gn T rfl h26 fun T => gn T rfl h26 fun T => pT T rfl h26 rfl rfl fun _ T => cdT T rfl rfl (sq (rg (v1 T rfl fun T => ?_)))
      obtain rfl := sj H
      exact rtn T tf6 rfl rfl ⟨rfl, (S.only [] rfl)⟩
     ·refine gy T rfl h26 (v1 T rfl fun T => gy T rfl h26 (r_ptrNil10e T rfl rfl Try.runUnderlying28 rfl fun _ T => pF T rfl h26 rfl rfl fun _ T => cdF T rfl rfl (sk (sq (rg (v1 T rfl fun T => ?_))))))
      replace S := SL.val (κ := ku8) (x := 97) (cs := [.int .u8 97]) (fun _ => rfl) S
      refine r_bsl (κ := ku8) (xs := [97]) (vs := [.int .u8 97]) T S sty24 rfl ⟨_, _, rfl, ⟨0, rfl⟩, rfl⟩ rfl (by decide) rfl fun _ _ b27 S T => ?_
      replace S := S.only [0, 1, 1, 1, 1, 1, 1] rfl
      refine r_cvS (ix := 0) T S rfl rfl tu24 tu5 rfl ⟨_, rfl⟩ fun _ _ S T => ?_
      replace S := S.fixL (i := 0) rfl rfl
      obtain ⟨x29, h28, H⟩ := bd H
      refine rc T Try.call11 rfl rfl (s_Table_Get.okD _ _ z x16 [97] 1 (S.sel (is := [1, 1, 1, 1, 0]) rfl) _ h28) ?_
      rintro _ _ ⟨A30, k31, A32, k33, A35, k36, A37, k38, A39, k40, rfl, S⟩
      refine ⟨_, rfl, fun _ T => ?_⟩
      replace S := S.join
      refine v3 T rfl rfl rfl fun T => r_alloc T S zv36 (cs := [.slice none 0 0, .int .u64 0, .bool false, .slice none 0 0]) rfl rfl fun _ _ b41 S T => ?_
      refine r_stBA (ix := 0) (vs := [.slice A30 x29.1.Key.length k31, .int .u64 x29.1.Seq, .bool x29.1.Del, .slice A32 x29.1.Value.length k33]) T S rfl rfl rfl rfl (by simp) ts36 (nle rfl) rfl fun _ S => ?_
      refine v1 T rfl fun T => sq (rg (v1 T rfl fun T => ?_))
      replace S := SL.val (κ := ku8) (x := 98) (cs := [.int .u8 98]) (fun _ => rfl) S
      refine r_bsl (κ := ku8) (xs := [98]) (vs := [.int .u8 98]) T S sty24 rfl ⟨_, _, rfl, ⟨0, rfl⟩, rfl⟩ rfl (by decide) rfl fun _ _ b42 S T => ?_
      replace S := S.only [0, 1, 1, 1, 1, 1, 1, 1, 1, 1, 1] rfl
      refine r_cvS (ix := 0) T S rfl rfl tu24 tu5 rfl ⟨_, rfl⟩ fun _ _ S T => ?_
      replace S := S.fixL (i := 0) rfl rfl
      obtain ⟨x44, h43, H⟩ := bd H
      refine rc T Try.call11 rfl rfl (s_Table_Get.okD _ _ z x29.2.2 [98] 2 (S.sel (is := [4, 4, 4, 4, 0]) rfl) _ h43) ?_
      rintro _ _ ⟨A45, k46, A47, k48, A50, k51, A52, k53, A54, k55, rfl, S⟩
      refine ⟨_, rfl, fun _ T => ?_⟩
      replace S := S.join
      refine v3 T rfl rfl rfl fun T => r_alloc T S zv36 (cs := [.slice none 0 0, .int .u64 0, .bool false, .slice none 0 0]) rfl rfl fun _ _ b56 S T => ?_
      refine r_stBA (ix := 0) (vs := [.slice A45 x44.1.Key.length k46, .int .u64 x44.1.Seq, .bool x44.1.Del, .slice A47 x44.1.Value.length k48]) T S rfl rfl rfl rfl (by simp) ts36 (nle rfl) rfl fun _ S => ?_
      refine v1 T rfl fun T => sq (rg (v1 T rfl fun T => ?_))
      obtain ⟨x58, h57, H⟩ := bd H
      refine rc T Try.call17 rfl rfl (s_Table_Count.ok _ _ x44.2.2 (S.sel (is := [3, 3, 3, 3]) rfl) _ h57) ?_
      rintro _ _ ⟨A60, k61, A62, k63, A64, k65, rfl, S⟩
      refine ⟨_, rfl, fun _ T => ?_⟩
      replace S := S.join
      refine v2 T rfl rfl fun T => ?_
      rcases ifE H with ⟨h66, H⟩ | ⟨h66, H⟩
      ·refine gy T rfl h66 (v1 T rfl fun T => gy T rfl h66 ?_)
       obtain ⟨x68, h67, H⟩ := bd H
       refine rc T Try.call18 rfl rfl (s_Table_Blocks.ok _ _ x58.2 (S.sel (is := [0, 0, 0, 0]) rfl) _ h67) ?_
       rintro _ _ ⟨A70, k71, A72, k73, A74, k75, rfl, S⟩
       refine ⟨_, rfl, fun _ T => ?_⟩
       replace S := S.join
       refine gy T rfl h66 (v1 T rfl fun T => pT T rfl h66 rfl rfl fun _ T => v1 T rfl fun T => ?_)
       rcases ifE H with ⟨h76, H⟩ | ⟨h76, H⟩
       ·refine gy T rfl h76 (v1 T rfl fun T => pT T rfl h76 rfl rfl fun _ T => v1 T rfl fun T => ?_)
        rcases ifE H with ⟨h77, H⟩ | ⟨h77, H⟩
        ·refine gy T rfl h77 (r_fa (o' := 2) T rfl tu36 rfl ts4 rfl rfl fun _ T => gy T rfl h77 (lB (ix := 8) T S rfl ti4 rfl rfl rfl fun _ T => pT T rfl h77 rfl rfl fun _ T => v1 T rfl fun T => ?_))
         rcases ifE H with ⟨h78, H⟩ | ⟨h78, H⟩
         ·refine gy T rfl h78 (r_fa (o' := 1) T rfl tu36 rfl ts34 rfl rfl fun _ T => gy T rfl h78 (lB (ix := 8) T S rfl ti34 rfl rfl rfl fun _ T => gy T rfl h78 (v1 T rfl fun T => pT T rfl h78 rfl rfl fun _ T => v1 T rfl fun T => ?_)))
          rcases ifE H with ⟨h79, H⟩ | ⟨h79, H⟩
          ·refine gy T rfl h79 (v1 T rfl fun T => gy T rfl h79 (v1 T rfl fun T => pT T rfl h79 rfl rfl fun _ T => v1 T rfl fun T => ?_))
           exact J2_ok F r z (!x44.2.1) _ _ (T.sb rfl) (S.only [] rfl) H
          ·refine gn T rfl h79 fun T => gn T rfl h79 fun T => pF T rfl h79 rfl rfl fun _ T => v1 T rfl fun T => ?_
           exact J2_ok F r z false _ _ (T.sb rfl) (S.only [] rfl) H
         ·refine gn T rfl h78 fun T => gn T rfl h78 fun T => gn T rfl h78 fun T => pF T rfl h78 rfl rfl fun _ T => v1 T rfl fun T => gn T rfl rfl fun T => gn T rfl rfl fun T => pF T rfl rfl rfl rfl fun _ T => v1 T rfl fun T => ?_
          exact J2_ok F r z false _ _ (T.sb rfl) (S.only [] rfl) H
        ·refine gn T rfl h77 fun T => gn T rfl h77 fun T => pF T rfl h77 rfl rfl fun _ T => v1 T rfl fun T => gn T rfl rfl fun T => gn T rfl rfl fun T => gn T rfl rfl fun T => pF T rfl rfl rfl rfl fun _ T => v1 T rfl fun T => gn T rfl rfl fun T => gn T rfl rfl fun T => pF T rfl rfl rfl rfl fun _ T => v1 T rfl fun T => ?_
         exact J2_ok F r z false _ _ (T.sb rfl) (S.only [] rfl) H
       ·refine gn T rfl h76 fun T => pF T rfl h76 rfl rfl fun _ T => v1 T rfl fun T => gn T rfl rfl fun T => gn T rfl rfl fun T => pF T rfl rfl rfl rfl fun _ T => v1 T rfl fun T => gn T rfl rfl fun T => gn T rfl rfl fun T => gn T rfl rfl fun T => pF T rfl rfl rfl rfl fun _ T => v1 T rfl fun T => gn T rfl rfl fun T => gn T rfl rfl fun T => pF T rfl rfl rfl rfl fun _ T => v1 T rfl fun T => ?_
        exact J2_ok F r z false _ _ (T.sb rfl) (S.only [] rfl) H
      ·refine gn T rfl h66 fun T => gn T rfl h66 fun T => gn T rfl h66 fun T => pF T rfl h66 rfl rfl fun _ T => v1 T rfl fun T => gn T rfl rfl fun T => pF T rfl rfl rfl rfl fun _ T => v1 T rfl fun T => gn T rfl rfl fun T => gn T rfl rfl fun T => pF T rfl rfl rfl rfl fun _ T => v1 T rfl fun T => gn T rfl rfl fun T => gn T rfl rfl fun T => gn T rfl rfl fun T => pF T rfl rfl rfl rfl fun _ T => v1 T rfl fun T => gn T rfl rfl fun T => gn T rfl rfl fun T => pF T rfl rfl rfl rfl fun _ T => v1 T rfl fun T => ?_
       exact J2_ok F r z false _ _ (T.sb rfl) (S.only [] rfl) H
end w4_shown
theorem shown_true : w4_shown.f 16777216 = some true := by decide +kernel
namespace s_Table_Reads
def R (F : List Atom) (b2 : Nat) (r : Int × s_Table) : Ending → World → Prop := fun e w' => ∃ (A10 : OA), ∃ (k11 : Nat), ∃ (A12 : OA), ∃ (k13 : Nat), ∃ (A14 : OA), ∃ (k15 : Nat), e = .returned (.int .i64 r.1) ∧ SL ([blk b2 [.slice A10 r.2.b.length k11, .slice A12 r.2.blocks.length k13, .slice A14 r.2.filter.length k15, .int .i64 r.2.count, .int .i64 r.2.reads], sl .ro ku8 A10 k11 r.2.b, sl .ro ks_block A12 k13 r.2.blocks, sl .ro ku8 A14 k15 r.2.filter] ++ F) w'
def f (x1 : s_Table) : Option (Int × s_Table) := some (x1.reads, x1)
theorem ok (F : List Atom) (w : World) (x1 : s_Table) {b2 : Nat} {A3 : OA} {k4 : Nat} {A5 : OA} {k6 : Nat} {A7 : OA} {k8 : Nat} (S : SL ([blk b2 [.slice A3 x1.b.length k4, .slice A5 x1.blocks.length k6, .slice A7 x1.filter.length k8, .int .i64 x1.count, .int .i64 x1.reads], sl .ro ku8 A3 k4 x1.b, sl .ro ks_block A5 k6 x1.blocks, sl .ro ku8 A7 k8 x1.filter] ++ F) w) (r : Int × s_Table) (H : f x1 = some r) : Calls Try.prog 19 #[.pointer (some ⟨b2, 0, none⟩)] w (R F b2 r) := by
 refine enter (vs := [.pointer (some ⟨b2, 0, none⟩)]) Try.func19 rfl Try.ntmps19 (nle rfl) fun a T => ?_
 refine sq (rg (v1 T rfl fun T => sq (rg (v2 T rfl rfl fun T => r_fa (o' := 4) T rfl tu69 rfl ts3 rfl rfl fun _ T => lB (ix := 0) T S rfl ti3 rfl rfl rfl fun _ T => v1 T rfl fun T => ?_))))
 obtain rfl := sj H
 exact rtn T Try.func19 rfl rfl ⟨A3, k4, A5, k6, A7, k8, rfl, (S.only [0, 0, 0, 0] rfl)⟩
end s_Table_Reads
namespace r4_Table_Reads
def R (F : List Atom) (b2 : Nat) (r : Int × r4_Table) : Ending → World → Prop := fun e w' => ∃ (A10 : OA), ∃ (k11 : Nat), ∃ (A12 : OA), ∃ (k13 : Nat), ∃ (A14 : OA), ∃ (k15 : Nat), e = .returned (.int .i64 r.1) ∧ SL ([blk b2 [.slice A10 r.2.L.length k11, .slice A12 r.2.Cut.length k13, .slice A14 r.2.filter.length k15, .int .i64 r.2.reads], sl .ro kaE A10 k11 r.2.L, sl .ro ki64 A12 k13 r.2.Cut, sl .ro ku8 A14 k15 r.2.filter] ++ F) w'
def f (x1 : r4_Table) : Option (Int × r4_Table) := some (x1.reads, x1)
theorem ok (F : List Atom) (w : World) (x1 : r4_Table) {b2 : Nat} {A3 : OA} {k4 : Nat} {A5 : OA} {k6 : Nat} {A7 : OA} {k8 : Nat} (S : SL ([blk b2 [.slice A3 x1.L.length k4, .slice A5 x1.Cut.length k6, .slice A7 x1.filter.length k8, .int .i64 x1.reads], sl .ro kaE A3 k4 x1.L, sl .ro ki64 A5 k6 x1.Cut, sl .ro ku8 A7 k8 x1.filter] ++ F) w) (r : Int × r4_Table) (H : f x1 = some r) : Calls Try.prog 21 #[.pointer (some ⟨b2, 0, none⟩)] w (R F b2 r) := by
 refine enter (vs := [.pointer (some ⟨b2, 0, none⟩)]) Try.func21 rfl Try.ntmps21 (nle rfl) fun a T => ?_
 refine sq (rg (v1 T rfl fun T => sq (rg (v2 T rfl rfl fun T => r_fa (o' := 3) T rfl tu50 rfl ts3 rfl rfl fun _ T => lB (ix := 0) T S rfl ti3 rfl rfl rfl fun _ T => v1 T rfl fun T => ?_))))
 obtain rfl := sj H
 exact rtn T Try.func21 rfl rfl ⟨A3, k4, A5, k6, A7, k8, rfl, (S.only [0, 0, 0, 0] rfl)⟩
end r4_Table_Reads
namespace w4_SstableFinds
noncomputable def c0 : Code := match Try.f5.body with | some c => c | none => .skip
def R (F : List Atom) (x1 : List aE) (A2 : OA) (k3 : Nat) (x5 : List w4_Ask) (A6 : OA) (k7 : Nat) (m8 : Md) (r : Bool) : Ending → World → Prop := fun e w' => e = .returned (.bool r) ∧ SL ([sl .ro kaE A2 k3 x1, sl m8 kw4_Ask A6 k7 x5] ++ F) w'
def J6 (z : Nat) : Option Bool := some true
def J5 (z : Nat) : Option Bool := some false
def J4 (z : Nat) : Option Bool := some false
def L3 (z : Nat) (x1 : List aE) (x5 : List w4_Ask) : Nat → Int → (List aE) → (List Int) → (List Int) → Int → (List Int) → (List s_block) → (List Int) → Int → Int → Option Bool
 | 0, _, _, _, _, _, _, _, _, _, _ => none
 | m + 1, x99, x78, x81, x84, x87, x88, x91, x94, x97, x98 => If (decide (x99 < (x5.length : Int))) (If (decide (x99 < 100)) (Ck (0 ≤ x99 ∧ x99 < (x5.length : Int)) (If ((gi dw4_Ask x5 x99).Scan) (Bd (w4_scan.f z (s_Table.mk x88 x91 x94 x97 x98) ((gi dw4_Ask x5 x99).Key) (mx 1 (mn ((gi dw4_Ask x5 x99).Most) (wr .i64 ((x1.length : Int) + 1))))) fun x108 => Bd (r4_Table_Scan.f z (r4_Table.mk x78 x81 x84 x87) ((gi dw4_Ask x5 x99).Key) (mx 1 (mn ((gi dw4_Ask x5 x99).Most) (wr .i64 ((x1.length : Int) + 1))))) fun x119 => Bd (w4_same.f z x108.1 x119.1) fun x130 => If (!x130) (J4 z) (Bd (s_Table_Reads.f x108.2) fun x133 => Bd (r4_Table_Reads.f x119.2) fun x142 => If (x133.1 != x142.1) (J4 z) (L3 z x1 x5 m (wr .i64 (x99 + 1)) x142.2.L x142.2.Cut x142.2.filter x142.2.reads x133.2.b x133.2.blocks x133.2.filter x133.2.count x133.2.reads))) (Bd (s_Table_Get.f z (s_Table.mk x88 x91 x94 x97 x98) ((gi dw4_Ask x5 x99).Key) ((gi dw4_Ask x5 x99).Seq)) fun x152 => Bd (r4_Table_Get.f z (r4_Table.mk x78 x81 x84 x87) ((gi dw4_Ask x5 x99).Key) ((gi dw4_Ask x5 x99).Seq)) fun x166 => Bd (w4_sameOne.f x152.1 x166.1) fun x180 => Bd (w4_mark.f z x152.1) fun x182 => If (!(x152.2.1 == x166.2.1)) (J5 z) (If (!x180) (J5 z) (Bd (s_Table_Reads.f x152.2.2) fun x186 => Bd (r4_Table_Reads.f x166.2.2) fun x195 => If (x186.1 != x195.1) (J5 z) (L3 z x1 x5 m (wr .i64 (x99 + 1)) x195.2.L x195.2.Cut x195.2.filter x195.2.reads x186.2.b x186.2.blocks x186.2.filter x186.2.count x186.2.reads)))))) (J6 z)) (J6 z)
def J2 (z : Nat) : Option Bool := some false
def L1 (z : Nat) (x1 : List aE) (x5 : List w4_Ask) (x21 : r4_Table) (x36 : s_Table) : Nat → (List Int) → Int → Option Bool
 | 0, _, _ => none
 | m + 1, x46, x49 => If (decide (x49 < (x46.length : Int))) (Ck (0 ≤ x49 ∧ x49 < (x46.length : Int)) (L1 z x1 x5 x21 x36 m (x46.set (Int.toNat x49) 77) (wr .i64 (x49 + 1)))) (Bd (s_Table_First.f x36) fun x52 => Bd (s_Table_Last.f x52.2) fun x63 => If (!((bstr x52.1).toList == (bstr ((gi daE x1 0).Key)).toList)) (Ck (0 < (x1.length : Int)) (J2 z)) (If (!((bstr x63.1).toList == (bstr ((gi daE x1 (wr .i64 ((x1.length : Int) - 1))).Key)).toList)) (Ck (0 < (x1.length : Int)) (Ck (0 ≤ wr .i64 ((x1.length : Int) - 1) ∧ wr .i64 ((x1.length : Int) - 1) < (x1.length : Int)) (J2 z))) (Ck (0 < (x1.length : Int)) (Ck (0 ≤ wr .i64 ((x1.length : Int) - 1) ∧ wr .i64 ((x1.length : Int) - 1) < (x1.length : Int)) (Bd (s_Table_Count.f x63.2) fun x3382 => If (x3382.1 != (x1.length : Int)) (J2 z) (Bd (s_Table_Blocks.f x3382.2) fun x3802 => If (x3802.1 != (x21.Cut.length : Int)) (J2 z) (Bd (s_Table_Reads.f x3802.2) fun x4402 => If (x4402.1 != 0) (J2 z) (L3 z x1 x5 z 0 x21.L x21.Cut x21.filter x21.reads x4402.2.b x4402.2.blocks x4402.2.filter x4402.2.count x4402.2.reads))))))))
def J0 (z : Nat) (x12 : Bool) : Option Bool := some x12
def f (z : Nat) (x1 : List aE) (x4 : Int × Int) (x5 : List w4_Ask) : Option Bool := Bd (w4_shown.f z) fun x12 => Bd (r4_Build.f z x1 (gi (0 : Int) [x4.1, x4.2] 0) (gi (0 : Int) [x4.1, x4.2] 1)) fun x14 => If (!x12) (J0 z x12) (If (x14.2 != 0) (J0 z x12) (Bd (r4_Open.f z x14.1) fun x20 => Om x20.1 (none) fun x21 => Ck ((([] : List Int).length + x14.1.length) * 1 ≤ 140737488355328) (Bd (s_Open.f z (([] : List Int) ++ x14.1)) fun x35 => Om x35.1 (none) fun x36 => If (x35.2 != 0) (some false) (L1 z x1 x5 x21 x36 z (([] : List Int) ++ x14.1) 0))))
noncomputable def ptJ6 : List Item := [.code (cL (cr 13 c0)), .code (cr 14 c0)]
noncomputable def ptJ5 : List Item := [.code (cL (cT (cr 7 (cB (cL (cR (cB (cB (cR (cL (cr 12 c0))))))))))), .code (cR (cT (cr 7 (cB (cL (cR (cB (cB (cR (cL (cr 12 c0))))))))))), .inBlock 3, .code (cR (cR (cB (cB (cR (cL (cr 12 c0))))))), .inLoop (cB (cB (cR (cL (cr 12 c0))))), .inBlock 2, .code (cr 13 c0)]
noncomputable def ptJ4 : List Item := [.code (cL (cT (cR (cL (cr 4 (cT (cR (cL (cR (cB (cL (cR (cB (cB (cR (cL (cr 12 c0))))))))))))))))), .code (cR (cT (cR (cL (cr 4 (cT (cR (cL (cR (cB (cL (cR (cB (cB (cR (cL (cr 12 c0))))))))))))))))), .code (cr 5 (cT (cR (cL (cR (cB (cL (cR (cB (cB (cR (cL (cr 12 c0))))))))))))), .code (cR (cR (cB (cL (cR (cB (cB (cR (cL (cr 12 c0)))))))))), .inBlock 3, .code (cR (cR (cB (cB (cR (cL (cr 12 c0))))))), .inLoop (cB (cB (cR (cL (cr 12 c0))))), .inBlock 2, .code (cr 13 c0)]
noncomputable def ptL3 : List Item := [.code (cB (cB (cR (cL (cr 12 c0))))), .inLoop (cB (cB (cR (cL (cr 12 c0))))), .inBlock 2, .code (cr 13 c0)]
noncomputable def ptJ2 : List Item := [.code (cL (cT (cR (cL (cr 11 c0))))), .code (cR (cT (cR (cL (cr 11 c0))))), .code (cr 12 c0)]
noncomputable def ptL1 : List Item := [.code (cB (cB (cR (cL (cr 8 c0))))), .inLoop (cB (cB (cR (cL (cr 8 c0))))), .inBlock 0, .code (cr 9 c0)]
noncomputable def ptJ0 : List Item := [.code (cL (cT (cR (cL (cr 3 c0))))), .code (cR (cT (cR (cL (cr 3 c0))))), .code (cr 4 c0)]
abbrev y0 (x63 : (List Int) × s_Table) (x1 : List aE) : Option (Value × Bool) := some (.bool (!((bstr x63.1).toList == (bstr ((gi daE x1 (wr .i64 ((x1.length : Int) - 1))).Key)).toList)), true)
abbrev y1 (x52 : (List Int) × s_Table) (x1 : List aE) : Option (Value × Bool) := some (.bool (!((bstr x52.1).toList == (bstr ((gi daE x1 0).Key)).toList)), true)
abbrev y2 (A3021 : OA) (x1 : List aE) (k3022 : Nat) : Value := .slice A3021 (((gi daE x1 (wr .i64 ((x1.length : Int) - 1))).Key).length) k3022
abbrev y3 (b23 : Nat) (A24 : OA) (x21 : r4_Table) (k25 : Nat) (A26 : OA) (k27 : Nat) (A28 : OA) (k29 : Nat) : Atom := blk b23 [.slice A24 x21.L.length k25, .slice A26 x21.Cut.length k27, .slice A28 x21.filter.length k29, .int .i64 x21.reads]
abbrev y4 (A2 : OA) (x1 : List aE) (k3 : Nat) : Option (Value × Bool) := some (.slice A2 x1.length k3, true)
abbrev y5 (b38 : Nat) : Value := .pointer (some ⟨b38, 0, none⟩)
abbrev y6 (A2301 : OA) (x1 : List aE) (k2302 : Nat) : Value := .slice A2301 (((gi daE x1 0).Key).length) k2302
abbrev y7 (x1 : List aE) : Option (Value × Bool) := some (.string (bstr ((gi daE x1 (wr .i64 ((x1.length : Int) - 1))).Key)), true)
abbrev y8 (A2 : OA) (x1 : List aE) : Option (Value × Bool) := some (.pointer (some (eA A2 (Int.toNat (wr .i64 ((x1.length : Int) - 1)) * 4 + 0))), true)
abbrev y9 (A2 : OA) (x1 : List aE) : Option (Value × Bool) := some (.pointer (some (eA A2 (Int.toNat (wr .i64 ((x1.length : Int) - 1)) * 4))), true)
abbrev y10 (x1 : List aE) : Option (Value × Bool) := some (.int .i64 (x1.length : Int), true)
abbrev y11 (b23 : Nat) : Value := .pointer (some ⟨b23, 0, none⟩)
abbrev y12 (A2 : OA) : Option (Value × Bool) := some (.pointer (some (eA A2 (Int.toNat 0 * 4 + 0))), true)
abbrev y13 (x3382 : Int × s_Table) (x1 : List aE) : Option (Value × Bool) := some (.bool (x3382.1 != (x1.length : Int)), true)
abbrev y14 (A3021 : OA) (k3022 : Nat) (x1 : List aE) : Atom := sl .ro ku8 A3021 k3022 ((gi daE x1 (wr .i64 ((x1.length : Int) - 1))).Key)
abbrev y15 (A2 : OA) : Option (Value × Bool) := some (.pointer (some (eA A2 (Int.toNat 0 * 4))), true)
abbrev y16 (x1 : List aE) : Option (Value × Bool) := some (.string (bstr ((gi daE x1 0).Key)), true)
abbrev y17 (A2 : OA) (x1 : List aE) (A3021 : OA) (k3022 : Nat) : Atom := cl A2 (Int.toNat (wr .i64 ((x1.length : Int) - 1)) * 4 + 0) [(y2 A3021 x1 k3022)]
abbrev y18 (x1 : List aE) : Option (Value × Bool) := some (.int .i64 (wr .i64 ((x1.length : Int) - 1)), true)
abbrev y19 (x3802 : Int × s_Table) (x21 : r4_Table) : Option (Value × Bool) := some (.bool (x3802.1 != (x21.Cut.length : Int)), true)
abbrev y20 (m8 : Md) (A6 : OA) (k7 : Nat) (x5 : List w4_Ask) : Atom := sl m8 kw4_Ask A6 k7 x5
theorem J6_ok (F : List Atom) (r : Bool) (z : Nat) (x1 : List aE) (A2 : OA) (k3 : Nat) (x5 : List w4_Ask) (A6 : OA) (k7 : Nat) (m8 : Md) (x4 : Int × Int) (a : Act) (w : World) (T : Tm 203 [] a) (S : SL ([sl .ro kaE A2 k3 x1, (y20 m8 A6 k7 x5)] ++ F) w) (H : J6 z = some r) : Gets Try.prog 5 ptJ6 a w (R F x1 A2 k3 x5 A6 k7 m8 r) := by
 refine rg (v1 T rfl fun T => ?_)
 obtain rfl := sj H
 exact rtn T tf5 rfl rfl ⟨rfl, (S.only [0, 0] rfl)⟩
theorem J5_ok (F : List Atom) (r : Bool) (z : Nat) (x1 : List aE) (A2 : OA) (k3 : Nat) (x5 : List w4_Ask) (A6 : OA) (k7 : Nat) (m8 : Md) (x4 : Int × Int) (a : Act) (w : World) (T : Tm 203 [] a) (S : SL ([sl .ro kaE A2 k3 x1, (y20 m8 A6 k7 x5)] ++ F) w) (H : J5 z = some r) : Gets Try.prog 5 ptJ5 a w (R F x1 A2 k3 x5 A6 k7 m8 r) := by
 refine rg (v1 T rfl fun T => ?_)
 obtain rfl := sj H
 exact rtn T tf5 rfl rfl ⟨rfl, (S.only [0, 0] rfl)⟩
theorem J4_ok (F : List Atom) (r : Bool) (z : Nat) (x1 : List aE) (A2 : OA) (k3 : Nat) (x5 : List w4_Ask) (A6 : OA) (k7 : Nat) (m8 : Md) (x4 : Int × Int) (a : Act) (w : World) (T : Tm 203 [] a) (S : SL ([sl .ro kaE A2 k3 x1, (y20 m8 A6 k7 x5)] ++ F) w) (H : J4 z = some r) : Gets Try.prog 5 ptJ4 a w (R F x1 A2 k3 x5 A6 k7 m8 r) := by
 refine rg (v1 T rfl fun T => ?_)
 obtain rfl := sj H
 exact rtn T tf5 rfl rfl ⟨rfl, (S.only [0, 0] rfl)⟩
theorem L3_ok (F : List Atom) (r : Bool) (z : Nat) (x1 : List aE) (A2 : OA) (k3 : Nat) (x5 : List w4_Ask) (A6 : OA) (k7 : Nat) (m8 : Md) (b23 b38 : Nat) (x4 : Int × Int) (m : Nat) : ∀ (x99 : Int) (A79 : OA) (x78 : List aE) (k80 : Nat) (A82 : OA) (x81 : List Int) (k83 : Nat) (A85 : OA) (x84 : List Int) (k86 : Nat) (x87 : Int) (A89 : OA) (x88 : List Int) (k90 : Nat) (A92 : OA) (x91 : List s_block) (k93 : Nat) (A95 : OA) (x94 : List Int) (k96 : Nat) (x97 x98 : Int) (a : Act) (w : World), Tm 203 [(0, .slice A2 x1.length k3), (2, .slice A6 x5.length k7), (10, (y11 b23)), (13, (y5 b38)), (18, .int .i64 x99)] a → SL ([sl .ro kaE A2 k3 x1, (y20 m8 A6 k7 x5), blk b23 [.slice A79 x78.length k80, .slice A82 x81.length k83, .slice A85 x84.length k86, .int .i64 x87], sl .ro kaE A79 k80 x78, sl .ro ki64 A82 k83 x81, sl .ro ku8 A85 k86 x84, blk b38 [.slice A89 x88.length k90, .slice A92 x91.length k93, .slice A95 x94.length k96, .int .i64 x97, .int .i64 x98], sl .ro ku8 A89 k90 x88, sl .ro ks_block A92 k93 x91, sl .ro ku8 A95 k96 x94] ++ F) w → L3 z x1 x5 m x99 x78 x81 x84 x87 x88 x91 x94 x97 x98 = some r → Gets Try.prog 5 ptL3 a w (R F x1 A2 k3 x5 A6 k7 m8 r) := by
 induction m with
 | zero => intro _ _ _ _ _ _ _ _ _ _ _ _ _ _ _ _ _ _ _ _ _ _ _ _ _ _ H; cases H
 | succ m ih =>
  intro x99 A79 x78 k80 A82 x81 k83 A85 x84 k86 x87 A89 x88 k90 A92 x91 k93 A95 x94 k96 x97 x98 a w T S H
  refine sq (sq (rg (v2 T rfl rfl fun T => rn T rfl Try.runUnderlying42 rfl fun _ T => v2 T rfl rfl fun T => ?_)))
  rcases ifE H with ⟨h100, H⟩ | ⟨h100, H⟩
  ·refine gy T rfl h100 (v1 T rfl fun T => gy T rfl h100 (v1 T rfl fun T => pT T rfl h100 rfl rfl fun _ T => ?_))
   rcases ifE H with ⟨h101, H⟩ | ⟨h101, H⟩
   ·refine cdT T rfl h101 (sk (sq (bq (sq (rg (v2 T rfl rfl fun T => ?_))))))
    obtain ⟨h102, H⟩ := ck H
    refine r_ia (ix := 1) T S rfl rfl rfl rfl Try.runUnderlying42 Try.sizeOf52 h102.1 h102.2 rfl fun _ T => r_ldEA (ix := 1) (i := x99) (off := 0) T S rfl rfl Try.isAgg52 Try.sizeOf52 dw4_Ask rfl (Fld.all _) h102.1 h102.2 rfl fun _ _ S T => ?_
    obtain ⟨A103, k104, hv_, S_⟩ := op_w4_Ask S
    subst hv_
    replace S := S_
    refine r_alloc T S zv52 (cs := [.slice none 0 0, .int .u64 0, .bool false, .int .i64 0]) rfl rfl fun _ _ b105 S T => r_stBA (ix := 0) (vs := [.slice A103 (((gi dw4_Ask x5 x99).Key).length) k104, .int .u64 ((gi dw4_Ask x5 x99).Seq), .bool ((gi dw4_Ask x5 x99).Scan), .int .i64 ((gi dw4_Ask x5 x99).Most)]) T S rfl rfl rfl rfl (by simp) Try.sizeOf52 (nle rfl) rfl fun _ S => ?_
    refine sq (sq (rg (r_fa (o' := 2) T rfl tu52 rfl ts4 rfl rfl fun _ T => lB (ix := 0) T S rfl ti4 rfl rfl rfl fun _ T => ?_)))
    rcases ifE H with ⟨h106, H⟩ | ⟨h106, H⟩
    ·refine cdT T rfl h106 (sq (rg (r_fa (o' := 3) T rfl tu52 rfl ts3 rfl rfl fun _ T => lB (ix := 0) T S rfl ti3 rfl rfl rfl fun _ T => v1 T rfl fun T => rn T rfl tu22 rfl fun _ T => v1 T rfl fun T => r_min T rfl rfl rfl fun _ T => r_max T rfl rfl rfl fun _ T => v1 T rfl fun T => sq (rg (v1 T rfl fun T => r_fa (o' := 0) T rfl tu52 rfl ts24 rfl rfl fun _ T => lB (ix := 0) T S rfl ti24 rfl rfl rfl fun _ T => v1 T rfl fun T => ?_)))))
     obtain ⟨x108, h107, H⟩ := bd H
     refine rc T Try.call9 rfl rfl (w4_scan.ok _ _ z (s_Table.mk x88 x91 x94 x97 x98) ((gi dw4_Ask x5 x99).Key) (mx 1 (mn ((gi dw4_Ask x5 x99).Most) (wr .i64 ((x1.length : Int) + 1)))) (S.sel (is := [8, 8, 8, 8, 1]) rfl) _ h107) ?_
     rintro _ _ ⟨A109, k110, A112, k113, A114, k115, A116, k117, rfl, S⟩
     refine ⟨_, rfl, fun _ T => ?_⟩
     replace S := S.join
     refine v1 T rfl fun T => sq (rg (v1 T rfl fun T => r_fa (o' := 0) T rfl tu52 rfl ts24 rfl rfl fun _ T => lB (ix := 6) T S rfl ti24 rfl rfl rfl fun _ T => v1 T rfl fun T => ?_))
     obtain ⟨x119, h118, H⟩ := bd H
     refine rc T Try.call20 rfl rfl (r4_Table_Scan.ok _ _ z (r4_Table.mk x78 x81 x84 x87) ((gi dw4_Ask x5 x99).Key) (mx 1 (mn ((gi dw4_Ask x5 x99).Most) (wr .i64 ((x1.length : Int) + 1)))) (S.sel (is := [9, 9, 9, 9, 5]) rfl) _ h118) ?_
     rintro _ _ ⟨A120, k121, A123, k124, A125, k126, A127, k128, rfl, S⟩
     refine ⟨_, rfl, fun _ T => ?_⟩
     replace S := S.join
     refine v1 T rfl fun T => sq (rg (v2 T rfl rfl fun T => ?_))
     replace S := S.fixL (i := 6) rfl rfl
     replace S := S.fixL (i := 0) rfl rfl
     obtain ⟨x130, h129, H⟩ := bd H
     refine rc T Try.call10 rfl rfl (w4_same.ok _ _ z x108.1 x119.1 (S.sel (is := [6, 0]) rfl) _ h129) ?_
     rintro _ _ ⟨rfl, S⟩
     refine ⟨_, rfl, fun _ T => ?_⟩
     replace S := S.join
     refine v1 T rfl fun T => sq (sq (rg (v3 T rfl rfl rfl fun T => ?_)))
     rcases ifE H with ⟨h131, H⟩ | ⟨h131, H⟩
     ·refine gn T rfl h131 fun T => gn T rfl h131 fun T => gn T rfl h131 fun T => gn T rfl h131 fun T => gn T rfl h131 fun T => pT T rfl h131 rfl rfl fun _ T => cdT T rfl rfl (sq ?_)
      exact J4_ok F r z x1 A2 k3 x5 A6 k7 m8 x4 _ _ (T.sub trivial) (S.only [12, 12] rfl) H
     ·refine gy T rfl h131 (v1 T rfl fun T => gy T rfl h131 ?_)
      obtain ⟨x133, h132, H⟩ := bd H
      refine rc T Try.call19 rfl rfl (s_Table_Reads.ok _ _ x108.2 (S.sel (is := [7, 7, 7, 7]) rfl) _ h132) ?_
      rintro _ _ ⟨A135, k136, A137, k138, A139, k140, rfl, S⟩
      refine ⟨_, rfl, fun _ T => ?_⟩
      replace S := S.join
      refine gy T rfl h131 (v1 T rfl fun T => gy T rfl h131 ?_)
      obtain ⟨x142, h141, H⟩ := bd H
      refine rc T Try.call21 rfl rfl (r4_Table_Reads.ok _ _ x119.2 (S.sel (is := [6, 6, 6, 6]) rfl) _ h141) ?_
      rintro _ _ ⟨A144, k145, A146, k147, A148, k149, rfl, S⟩
      refine ⟨_, rfl, fun _ T => ?_⟩
      replace S := S.join
      refine gy T rfl h131 (v1 T rfl fun T => pF T rfl h131 rfl rfl fun _ T => ?_)
      rcases ifE H with ⟨h150, H⟩ | ⟨h150, H⟩
      ·refine cdT T rfl h150 (sq ?_)
       exact J4_ok F r z x1 A2 k3 x5 A6 k7 m8 x4 _ _ (T.sub trivial) (S.only [12, 12] rfl) H
      ·refine cdF T rfl h150 (sk (Gets.exit rfl (rg (v3 T rfl rfl rfl fun T => Gets.inLoop ?_))))
       exact ih (wr .i64 (x99 + 1)) A144 x142.2.L k145 A146 x142.2.Cut k147 A148 x142.2.filter k149 x142.2.reads A135 x133.2.b k136 A137 x133.2.blocks k138 A139 x133.2.filter k140 x133.2.count x133.2.reads _ _ (T.sb rfl) (S.only [12, 12, 0, 0, 0, 0, 0, 0, 0, 0] rfl) H
    ·refine cdF T rfl h106 (sk (sq (rg (v1 T rfl fun T => r_fa (o' := 0) T rfl tu52 rfl ts24 rfl rfl fun _ T => lB (ix := 0) T S rfl ti24 rfl rfl rfl fun _ T => r_fa (o' := 1) T rfl tu52 rfl ts34 rfl rfl fun _ T => lB (ix := 0) T S rfl ti34 rfl rfl rfl fun _ T => ?_))))
     obtain ⟨x152, h151, H⟩ := bd H
     refine rc T Try.call11 rfl rfl (s_Table_Get.okD _ _ z (s_Table.mk x88 x91 x94 x97 x98) ((gi dw4_Ask x5 x99).Key) ((gi dw4_Ask x5 x99).Seq) (S.sel (is := [8, 8, 8, 8, 1]) rfl) _ h151) ?_
     rintro _ _ ⟨A153, k154, A155, k156, A158, k159, A160, k161, A162, k163, rfl, S⟩
     refine ⟨_, rfl, fun _ T => ?_⟩
     replace S := S.join
     refine v3 T rfl rfl rfl fun T => r_alloc T S zv36 (cs := [.slice none 0 0, .int .u64 0, .bool false, .slice none 0 0]) rfl rfl fun _ _ b164 S T => ?_
     refine r_stBA (ix := 0) (vs := [.slice A153 x152.1.Key.length k154, .int .u64 x152.1.Seq, .bool x152.1.Del, .slice A155 x152.1.Value.length k156]) T S rfl rfl rfl rfl (by simp) ts36 (nle rfl) rfl fun _ S => ?_
     refine v1 T rfl fun T => sq (rg (v1 T rfl fun T => r_fa (o' := 0) T rfl tu52 rfl ts24 rfl rfl fun _ T => lB (ix := 8) T S rfl ti24 rfl rfl rfl fun _ T => r_fa (o' := 1) T rfl tu52 rfl ts34 rfl rfl fun _ T => lB (ix := 8) T S rfl ti34 rfl rfl rfl fun _ T => ?_))
     obtain ⟨x166, h165, H⟩ := bd H
     refine rc T Try.call22 rfl rfl (r4_Table_Get.ok _ _ z (r4_Table.mk x78 x81 x84 x87) ((gi dw4_Ask x5 x99).Key) ((gi dw4_Ask x5 x99).Seq) (S.sel (is := [11, 11, 11, 11, 7]) rfl) _ h165) ?_
     rintro _ _ ⟨A167, k168, A169, k170, A172, k173, A174, k175, A176, k177, rfl, S⟩
     refine ⟨_, rfl, fun _ T => ?_⟩
     replace S := S.join
     refine v3 T rfl rfl rfl fun T => r_alloc T S zv36 (cs := [.slice none 0 0, .int .u64 0, .bool false, .slice none 0 0]) rfl rfl fun _ _ b178 S T => ?_
     refine r_stBA (ix := 0) (vs := [.slice A167 x166.1.Key.length k168, .int .u64 x166.1.Seq, .bool x166.1.Del, .slice A169 x166.1.Value.length k170]) T S rfl rfl rfl rfl (by simp) ts36 (nle rfl) rfl fun _ S => ?_
     refine v1 T rfl fun T => sq (rg (r_ldBA (ix := 8) (ds := [.slice A153 x152.1.Key.length k154, .int .u64 x152.1.Seq, .bool x152.1.Del, .slice A155 x152.1.Value.length k156]) T S rfl ti36 rfl rfl ts36 rfl fun _ T => r_ldBA (ix := 0) (ds := [.slice A167 x166.1.Key.length k168, .int .u64 x166.1.Seq, .bool x166.1.Del, .slice A169 x166.1.Value.length k170]) T S rfl ti36 rfl rfl ts36 rfl fun _ T => ?_))
     obtain ⟨x180, h179, H⟩ := bd H
     refine rc T Try.call12 rfl rfl (w4_sameOne.ok _ _ x152.1 x166.1 (S.sel (is := [9, 9, 1, 1]) rfl) _ h179) ?_
     rintro _ _ ⟨rfl, S⟩
     refine ⟨_, rfl, fun _ T => ?_⟩
     replace S := S.join
     refine v1 T rfl fun T => sq (rg (r_ldBA (ix := 10) (ds := [.slice A153 x152.1.Key.length k154, .int .u64 x152.1.Seq, .bool x152.1.Del, .slice A155 x152.1.Value.length k156]) T S rfl ti36 rfl rfl ts36 rfl fun _ T => ?_))
     obtain ⟨x182, h181, H⟩ := bd H
     refine rc T Try.call23 rfl rfl (w4_mark.ok _ _ z x152.1 (S.sel (is := [0, 0]) rfl) _ h181) ?_
     rintro _ _ ⟨rfl, S⟩
     refine ⟨_, rfl, fun _ T => ?_⟩
     replace S := S.join
     refine sq (rg (v2 T rfl rfl fun T => r_neB T rfl rfl Try.runUnderlying4 rfl fun _ T => v1 T rfl fun T => ?_))
     rcases ifE H with ⟨h183, H⟩ | ⟨h183, H⟩
     ·refine gn T rfl h183 fun T => gn T rfl h183 fun T => pT T rfl h183 rfl rfl fun _ T => v1 T rfl fun T => gn T rfl rfl fun T => gn T rfl rfl fun T => gn T rfl rfl fun T => gn T rfl rfl fun T => gn T rfl rfl fun T => pT T rfl rfl rfl rfl fun _ T => cdT T rfl rfl (sq ?_)
      exact J5_ok F r z x1 A2 k3 x5 A6 k7 m8 x4 _ _ (T.sub trivial) (S.only [14, 14] rfl) H
     ·refine gy T rfl h183 (v1 T rfl fun T => gy T rfl h183 (v1 T rfl fun T => pF T rfl h183 rfl rfl fun _ T => v1 T rfl fun T => ?_))
      rcases ifE H with ⟨h184, H⟩ | ⟨h184, H⟩
      ·refine gn T rfl h184 fun T => gn T rfl h184 fun T => gn T rfl h184 fun T => gn T rfl h184 fun T => gn T rfl h184 fun T => pT T rfl h184 rfl rfl fun _ T => cdT T rfl rfl (sq ?_)
       exact J5_ok F r z x1 A2 k3 x5 A6 k7 m8 x4 _ _ (T.sub trivial) (S.only [14, 14] rfl) H
      ·refine gy T rfl h184 (v1 T rfl fun T => gy T rfl h184 ?_)
       obtain ⟨x186, h185, H⟩ := bd H
       refine rc T Try.call19 rfl rfl (s_Table_Reads.ok _ _ x152.2.2 (S.sel (is := [9, 9, 9, 9]) rfl) _ h185) ?_
       rintro _ _ ⟨A188, k189, A190, k191, A192, k193, rfl, S⟩
       refine ⟨_, rfl, fun _ T => ?_⟩
       replace S := S.join
       refine gy T rfl h184 (v1 T rfl fun T => gy T rfl h184 ?_)
       obtain ⟨x195, h194, H⟩ := bd H
       refine rc T Try.call21 rfl rfl (r4_Table_Reads.ok _ _ x166.2.2 (S.sel (is := [7, 7, 7, 7]) rfl) _ h194) ?_
       rintro _ _ ⟨A197, k198, A199, k200, A201, k202, rfl, S⟩
       refine ⟨_, rfl, fun _ T => ?_⟩
       replace S := S.join
       refine gy T rfl h184 (v1 T rfl fun T => pF T rfl h184 rfl rfl fun _ T => ?_)
       rcases ifE H with ⟨h203, H⟩ | ⟨h203, H⟩
       ·refine cdT T rfl h203 (sq ?_)
        exact J5_ok F r z x1 A2 k3 x5 A6 k7 m8 x4 _ _ (T.sub trivial) (S.only [14, 14] rfl) H
       ·refine cdF T rfl h203 (sk (Gets.inBlock (rg (v3 T rfl rfl rfl fun T => Gets.inLoop ?_))))
        exact ih (wr .i64 (x99 + 1)) A197 x195.2.L k198 A199 x195.2.Cut k200 A201 x195.2.filter k202 x195.2.reads A188 x186.2.b k189 A190 x186.2.blocks k191 A192 x186.2.filter k193 x186.2.count x186.2.reads _ _ (T.sb rfl) (S.only [14, 14, 0, 0, 0, 0, 0, 0, 0, 0] rfl) H
   ·refine cdF T rfl h101 (Gets.exit rfl (sq ?_))
    exact J6_ok F r z x1 A2 k3 x5 A6 k7 m8 x4 _ _ (T.sub trivial) (S.only [0, 0] rfl) H
  ·refine gn T rfl h100 fun T => gn T rfl h100 fun T => pF T rfl h100 rfl rfl fun _ T => cdF T rfl rfl (Gets.exit rfl (sq ?_))
   exact J6_ok F r z x1 A2 k3 x5 A6 k7 m8 x4 _ _ (T.sub trivial) (S.only [0, 0] rfl) H
theorem J2_ok (F : List Atom) (r : Bool) (z : Nat) (x1 : List aE) (A2 : OA) (k3 : Nat) (x5 : List w4_Ask) (A6 : OA) (k7 : Nat) (m8 : Md) (x4 : Int × Int) (a : Act) (w : World) (T : Tm 203 [] a) (S : SL ([sl .ro kaE A2 k3 x1, (y20 m8 A6 k7 x5)] ++ F) w) (H : J2 z = some r) : Gets Try.prog 5 ptJ2 a w (R F x1 A2 k3 x5 A6 k7 m8 r) := by
 refine rg (v1 T rfl fun T => ?_)
 obtain rfl := sj H
 exact rtn T tf5 rfl rfl ⟨rfl, (S.only [0, 0] rfl)⟩
theorem L1_ok (F : List Atom) (r : Bool) (z : Nat) (x1 : List aE) (A2 : OA) (k3 : Nat) (x5 : List w4_Ask) (A6 : OA) (k7 : Nat) (m8 : Md) (b23 b38 : Nat) (A24 : OA) (x21 : r4_Table) (k25 : Nat) (A26 : OA) (k27 : Nat) (A28 : OA) (k29 : Nat) (A39 : OA) (x36 : s_Table) (k40 : Nat) (A41 : OA) (k42 : Nat) (A43 : OA) (k44 : Nat) (x4 : Int × Int) (m : Nat) : ∀ (A47 : OA) (x46 : List Int) (k48 : Nat) (x49 : Int) (a : Act) (w : World), Tm 203 [(0, .slice A2 x1.length k3), (2, .slice A6 x5.length k7), (10, (y11 b23)), (12, .slice A47 x46.length k48), (13, (y5 b38)), (15, .int .i64 x49)] a → SL ([sl .ro kaE A2 k3 x1, (y20 m8 A6 k7 x5), (y3 b23 A24 x21 k25 A26 k27 A28 k29), sl .ro kaE A24 k25 x21.L, sl .ro ki64 A26 k27 x21.Cut, sl .ro ku8 A28 k29 x21.filter, sl .own ku8 A47 k48 x46, blk b38 [.slice A39 x36.b.length k40, .slice A41 x36.blocks.length k42, .slice A43 x36.filter.length k44, .int .i64 x36.count, .int .i64 x36.reads], sl .ro ku8 A39 k40 x36.b, sl .ro ks_block A41 k42 x36.blocks, sl .ro ku8 A43 k44 x36.filter] ++ F) w → L1 z x1 x5 x21 x36 m x46 x49 = some r → Gets Try.prog 5 ptL1 a w (R F x1 A2 k3 x5 A6 k7 m8 r) := by
 induction m with
 | zero => intro _ _ _ _ _ _ _ _ H; cases H
 | succ m ih =>
  intro A47 x46 k48 x49 a w T S H
  refine sq (sq (rg (v2 T rfl rfl fun T => rn T rfl tu24 rfl fun _ T => v1 T rfl fun T => ?_)))
  rcases ifE H with ⟨h50, H⟩ | ⟨h50, H⟩
  ·refine cdT T rfl h50 (sk (sq (bq (rg (v2 T rfl rfl fun T => ?_)))))
   obtain ⟨h204, H⟩ := ck H
   refine r_ia (ix := 6) T S rfl rfl rfl rfl tu24 ts5 h204.1 h204.2 rfl fun _ T => r_stE (ix := 6) (i := x49) (u := 77) T S rfl rfl rfl rfl (fun _ => rfl) ts5 h204.1 h204.2 rfl fun _ S => Gets.inBlock (rg (v3 T rfl rfl rfl fun T => Gets.inLoop ?_))
   have T := T.re (s := 12) (v' := .slice A47 (x46.set (Int.toNat x49) 77).length k48) rfl (by simp)
   exact ih A47 (x46.set (Int.toNat x49) 77) k48 (wr .i64 (x49 + 1)) _ _ (T.sb rfl) (S.only [0, 0, 0, 0, 0, 0, 0, 0, 0, 0, 0] rfl) H
  ·refine cdF T rfl h50 (Gets.exit rfl (sq (rg (v1 T rfl fun T => ?_))))
   obtain ⟨x52, h51, H⟩ := bd H
   refine rc T Try.call15 rfl rfl (s_Table_First.ok _ _ x36 (S.sel (is := [7, 7, 7, 7]) rfl) _ h51) ?_
   rintro _ _ ⟨A53, k54, A56, k57, A58, k59, A60, k61, rfl, S⟩
   refine ⟨_, rfl, fun _ T => ?_⟩
   replace S := S.join
   refine v1 T rfl fun T => sq (rg (v1 T rfl fun T => ?_))
   obtain ⟨x63, h62, H⟩ := bd H
   refine rc T Try.call16 rfl rfl (s_Table_Last.ok _ _ x52.2 (S.sel (is := [1, 1, 1, 1]) rfl) _ h62) ?_
   rintro _ _ ⟨A64, k65, A67, k68, A69, k70, A71, k72, rfl, S⟩
   refine ⟨_, rfl, fun _ T => ?_⟩
   replace S := S.join
   refine v1 T rfl fun T => sq (sq ?_)
   rcases ifE H with ⟨h73, H⟩ | ⟨h73, H⟩
   ·obtain ⟨h2181, H⟩ := ck H
    obtain ⟨_, S⟩ := S.peek1 (ix := 6) (off := 0) (i := 0) rfl daE fld_aE_Key (by decide) h2181 rfl
    obtain ⟨A2301, k2302, hv_, S_⟩ := SL.ofVal (l := _ :: _) S
    subst hv_
    replace S := S_
    refine Gets.drawn (l := [sl .ro ku8 A2301 k2302 ((gi daE x1 0).Key), cl A2 (Int.toNat 0 * 4 + 0) [(y6 A2301 x1 k2302)], sl .own ku8 A64 k65 x63.1, blk b38 [.slice A67 x63.2.b.length k68, .slice A69 x63.2.blocks.length k70, .slice A71 x63.2.filter.length k72, .int .i64 x63.2.count, .int .i64 x63.2.reads], sl .ro ku8 A67 k68 x63.2.b, sl .ro ks_block A69 k70 x63.2.blocks, sl .ro ku8 A71 k72 x63.2.filter, sl .own ku8 A53 k54 x52.1, sl .ro kaE A2 k3 x1, (y20 m8 A6 k7 x5), (y3 b23 A24 x21 k25 A26 k27 A28 k29), sl .ro kaE A24 k25 x21.L, sl .ro ki64 A26 k27 x21.Cut, sl .ro ku8 A28 k29 x21.filter]) (V := [some (.slice A53 x52.1.length k54, true), some (.string (bstr x52.1), true), (y4 A2 x1 k3), (y15 A2), (y12 A2), some ((y6 A2301 x1 k2302), true), (y16 x1), (y1 x52 x1), (y1 x52 x1), some (undef, true), some (undef, true), some (undef, true), some (undef, true), some (undef, true), some (undef, true), some (undef, true), some (undef, true), some (undef, true), some (undef, true), some (undef, true), some (.bool true, true), some (.bool true, true), some (undef, true), some (undef, true), some (undef, true), some (undef, true), some (undef, true), some (.bool true, true), some (.bool true, true), some (undef, true), some (undef, true), some (undef, true), some (undef, true), some (undef, true), some (undef, true), some (undef, true), some (undef, true), some (.bool true, true), some (.bool true, true), some (undef, true), some (undef, true), some (undef, true), some (.bool true, true)]) mixed T (S.only [0, 0, 0, 0, 0, 0, 0, 0, 0, 0, 0, 0, 0, 0] rfl) rfl ?_
    refine stage none rfl rfl ⟨⟨_, _, rfl, (avl [16] rfl), fun _ _ _ T S => v1 T rfl fun T => ⟨rfl, T⟩⟩, ⟨_, _, rfl, (avl [78] rfl), fun _ _ _ T S => r_b2s (ix := 7) (xs := x52.1) T S rfl rfl tu24 tu9 tu5 rfl fun _ T => ⟨rfl, T⟩⟩, ⟨_, _, rfl, (avl [0] rfl), fun _ _ _ T S => v1 T rfl fun T => ⟨rfl, T⟩⟩, ⟨_, _, rfl, (avl [80] rfl), fun _ _ _ T S => r_ia (ix := 8) T S rfl rfl rfl rfl tu22 ts36 (by decide) h2181 rfl fun _ T => ⟨rfl, T⟩⟩, ⟨_, _, rfl, (avl [81] rfl), fun _ _ _ T S => r_faE T rfl tu36 rfl ts24 rfl fun _ T => ⟨rfl, T⟩⟩, ⟨_, _, rfl, (avl [82] rfl), fun _ _ _ T S => r_ldC (ix := 1) (A := A2) T S rfl rfl rfl ti24 rfl fun _ T => ⟨rfl, T⟩⟩, ⟨_, _, rfl, (avl [83] rfl), fun _ _ _ T S => r_b2s (ix := 0) (xs := ((gi daE x1 0).Key)) T S rfl rfl tu24 tu9 tu5 rfl fun _ T => ⟨rfl, T⟩⟩, ⟨_, _, rfl, (avl [79, 84] rfl), fun _ _ _ T S => v1 T rfl fun T => ⟨rfl, T⟩⟩, ⟨_, _, rfl, (avl [85] rfl), fun _ _ _ T S => v1 T rfl fun T => ⟨rfl, T⟩⟩, ⟨_, _, rfl, (avl [17, 86] rfl), fun _ _ _ T S => gn T rfl h73 fun T => ⟨rfl, T⟩⟩, ⟨_, _, rfl, (avl [87, 86] rfl), fun _ _ _ T S => gn T rfl h73 fun T => ⟨rfl, T⟩⟩, ⟨_, _, rfl, (avl [0, 86] rfl), fun _ _ _ T S => gn T rfl h73 fun T => ⟨rfl, T⟩⟩, ⟨_, _, rfl, (avl [0, 86] rfl), fun _ _ _ T S => gn T rfl h73 fun T => ⟨rfl, T⟩⟩, ⟨_, _, rfl, (avl [90, 86] rfl), fun _ _ _ T S => gn T rfl h73 fun T => ⟨rfl, T⟩⟩, ⟨_, _, rfl, (avl [91, 86] rfl), fun _ _ _ T S => gn T rfl h73 fun T => ⟨rfl, T⟩⟩, ⟨_, _, rfl, (avl [89, 92, 86] rfl), fun _ _ _ T S => gn T rfl h73 fun T => ⟨rfl, T⟩⟩, ⟨_, _, rfl, (avl [93, 86] rfl), fun _ _ _ T S => gn T rfl h73 fun T => ⟨rfl, T⟩⟩, ⟨_, _, rfl, (avl [94, 86] rfl), fun _ _ _ T S => gn T rfl h73 fun T => ⟨rfl, T⟩⟩, ⟨_, _, rfl, (avl [95, 86] rfl), fun _ _ _ T S => gn T rfl h73 fun T => ⟨rfl, T⟩⟩, ⟨_, _, rfl, (avl [88, 96, 86] rfl), fun _ _ _ T S => gn T rfl h73 fun T => ⟨rfl, T⟩⟩, ⟨_, _, rfl, (avl [86, 97] rfl), fun _ _ _ T S => pT T rfl h73 rfl rfl fun _ T => ⟨rfl, T⟩⟩, ⟨_, _, rfl, (avl [98] rfl), fun _ _ _ T S => v1 T rfl fun T => ⟨rfl, T⟩⟩, ⟨_, _, rfl, (avl [13, 99] rfl), fun _ _ _ T S => gn T rfl rfl fun T => ⟨rfl, T⟩⟩, ⟨_, _, rfl, (avl [100, 99] rfl), fun _ _ _ T S => gn T rfl rfl fun T => ⟨rfl, T⟩⟩, ⟨_, _, rfl, (avl [0, 99] rfl), fun _ _ _ T S => gn T rfl rfl fun T => ⟨rfl, T⟩⟩, ⟨_, _, rfl, (avl [102, 99] rfl), fun _ _ _ T S => gn T rfl rfl fun T => ⟨rfl, T⟩⟩, ⟨_, _, rfl, (avl [101, 103, 99] rfl), fun _ _ _ T S => gn T rfl rfl fun T => ⟨rfl, T⟩⟩, ⟨_, _, rfl, (avl [99, 104] rfl), fun _ _ _ T S => pT T rfl rfl rfl rfl fun _ T => ⟨rfl, T⟩⟩, ⟨_, _, rfl, (avl [105] rfl), fun _ _ _ T S => v1 T rfl fun T => ⟨rfl, T⟩⟩, ⟨_, _, rfl, (avl [13, 106] rfl), fun _ _ _ T S => gn T rfl rfl fun T => ⟨rfl, T⟩⟩, ⟨_, _, rfl, (avl [107, 106] rfl), fun _ _ _ T S => gn T rfl rfl fun T => ⟨rfl, T⟩⟩, ⟨_, _, rfl, (avl [10, 106] rfl), fun _ _ _ T S => gn T rfl rfl fun T => ⟨rfl, T⟩⟩, ⟨_, _, rfl, (avl [109, 106] rfl), fun _ _ _ T S => gn T rfl rfl fun T => ⟨rfl, T⟩⟩, ⟨_, _, rfl, (avl [110, 106] rfl), fun _ _ _ T S => gn T rfl rfl fun T => ⟨rfl, T⟩⟩, ⟨_, _, rfl, (avl [111, 106] rfl), fun _ _ _ T S => gn T rfl rfl fun T => ⟨rfl, T⟩⟩, ⟨_, _, rfl, (avl [112, 106] rfl), fun _ _ _ T S => gn T rfl rfl fun T => ⟨rfl, T⟩⟩, ⟨_, _, rfl, (avl [108, 113, 106] rfl), fun _ _ _ T S => gn T rfl rfl fun T => ⟨rfl, T⟩⟩, ⟨_, _, rfl, (avl [106, 114] rfl), fun _ _ _ T S => pT T rfl rfl rfl rfl fun _ T => ⟨rfl, T⟩⟩, ⟨_, _, rfl, (avl [115] rfl), fun _ _ _ T S => v1 T rfl fun T => ⟨rfl, T⟩⟩, ⟨_, _, rfl, (avl [13, 116] rfl), fun _ _ _ T S => gn T rfl rfl fun T => ⟨rfl, T⟩⟩, ⟨_, _, rfl, (avl [117, 116] rfl), fun _ _ _ T S => gn T rfl rfl fun T => ⟨rfl, T⟩⟩, ⟨_, _, rfl, (avl [118, 116] rfl), fun _ _ _ T S => gn T rfl rfl fun T => ⟨rfl, T⟩⟩, ⟨_, _, rfl, (avl [116, 119] rfl), fun _ _ _ T S => pT T rfl rfl rfl rfl fun _ T => ⟨rfl, T⟩⟩, trivial⟩ rfl (fun i hi => by cases hi) (fun _ _ a w T hv hb S => ?_)
    replace T := T.sub (r := [(0, .slice A2 x1.length k3), (2, .slice A6 x5.length k7), (10, (y11 b23)), (13, (y5 b38)), (120, .bool true)]) ⟨hb 0 _ rfl rfl, hb 2 _ rfl rfl, hb 10 _ rfl rfl, hb 13 _ rfl rfl, hv 42 _ 120 rfl rfl rfl, trivial⟩
    refine cdT T rfl rfl (sq ?_)
    exact J2_ok F r z x1 A2 k3 x5 A6 k7 m8 x4 _ _ (T.sub trivial) (S.only [8, 8] rfl) H
   ·rcases ifE H with ⟨h74, H⟩ | ⟨h74, H⟩
    ·obtain ⟨h2181, H⟩ := ck H
     obtain ⟨_, S⟩ := S.peek1 (ix := 6) (off := 0) (i := 0) rfl daE fld_aE_Key (by decide) h2181 rfl
     obtain ⟨A2301, k2302, hv_, S_⟩ := SL.ofVal (l := _ :: _) S
     subst hv_
     replace S := S_
     obtain ⟨h2901, H⟩ := ck H
     obtain ⟨_, S⟩ := S.peek1 (ix := 8) (off := 0) (i := wr .i64 ((x1.length : Int) - 1)) rfl daE fld_aE_Key h2901.1 h2901.2 rfl
     obtain ⟨A3021, k3022, hv_, S_⟩ := SL.ofVal (l := _ :: _) S
     subst hv_
     replace S := S_
     refine Gets.drawn (l := [(y14 A3021 k3022 x1), (y17 A2 x1 A3021 k3022), sl .ro ku8 A2301 k2302 ((gi daE x1 0).Key), cl A2 (Int.toNat 0 * 4 + 0) [(y6 A2301 x1 k2302)], sl .own ku8 A64 k65 x63.1, blk b38 [.slice A67 x63.2.b.length k68, .slice A69 x63.2.blocks.length k70, .slice A71 x63.2.filter.length k72, .int .i64 x63.2.count, .int .i64 x63.2.reads], sl .ro ku8 A67 k68 x63.2.b, sl .ro ks_block A69 k70 x63.2.blocks, sl .ro ku8 A71 k72 x63.2.filter, sl .own ku8 A53 k54 x52.1, sl .ro kaE A2 k3 x1, (y20 m8 A6 k7 x5), (y3 b23 A24 x21 k25 A26 k27 A28 k29), sl .ro kaE A24 k25 x21.L, sl .ro ki64 A26 k27 x21.Cut, sl .ro ku8 A28 k29 x21.filter]) (V := [some (.slice A53 x52.1.length k54, true), some (.string (bstr x52.1), true), (y4 A2 x1 k3), (y15 A2), (y12 A2), some ((y6 A2301 x1 k2302), true), (y16 x1), (y1 x52 x1), (y1 x52 x1), some (.slice A64 x63.1.length k65, true), some (.string (bstr x63.1), true), (y4 A2 x1 k3), (y4 A2 x1 k3), (y10 x1), (y18 x1), (y9 A2 x1), (y8 A2 x1), some ((y2 A3021 x1 k3022), true), (y7 x1), (y0 x63 x1), (y0 x63 x1), (y0 x63 x1), some (undef, true), some (undef, true), some (undef, true), some (undef, true), some (undef, true), some (.bool true, true), some (.bool true, true), some (undef, true), some (undef, true), some (undef, true), some (undef, true), some (undef, true), some (undef, true), some (undef, true), some (undef, true), some (.bool true, true), some (.bool true, true), some (undef, true), some (undef, true), some (undef, true), some (.bool true, true)]) mixed T (S.only [0, 0, 0, 0, 0, 0, 0, 0, 0, 0, 0, 0, 0, 0, 0, 0] rfl) rfl ?_
     refine stage none rfl rfl ⟨⟨_, _, rfl, (avl [16] rfl), fun _ _ _ T S => v1 T rfl fun T => ⟨rfl, T⟩⟩, ⟨_, _, rfl, (avl [78] rfl), fun _ _ _ T S => r_b2s (ix := 9) (xs := x52.1) T S rfl rfl tu24 tu9 tu5 rfl fun _ T => ⟨rfl, T⟩⟩, ⟨_, _, rfl, (avl [0] rfl), fun _ _ _ T S => v1 T rfl fun T => ⟨rfl, T⟩⟩, ⟨_, _, rfl, (avl [80] rfl), fun _ _ _ T S => r_ia (ix := 10) T S rfl rfl rfl rfl tu22 ts36 (by decide) h2181 rfl fun _ T => ⟨rfl, T⟩⟩, ⟨_, _, rfl, (avl [81] rfl), fun _ _ _ T S => r_faE T rfl tu36 rfl ts24 rfl fun _ T => ⟨rfl, T⟩⟩, ⟨_, _, rfl, (avl [82] rfl), fun _ _ _ T S => r_ldC (ix := 3) (A := A2) T S rfl rfl rfl ti24 rfl fun _ T => ⟨rfl, T⟩⟩, ⟨_, _, rfl, (avl [83] rfl), fun _ _ _ T S => r_b2s (ix := 2) (xs := ((gi daE x1 0).Key)) T S rfl rfl tu24 tu9 tu5 rfl fun _ T => ⟨rfl, T⟩⟩, ⟨_, _, rfl, (avl [79, 84] rfl), fun _ _ _ T S => v1 T rfl fun T => ⟨rfl, T⟩⟩, ⟨_, _, rfl, (avl [85] rfl), fun _ _ _ T S => v1 T rfl fun T => ⟨rfl, T⟩⟩, ⟨_, _, rfl, (avl [17, 86] rfl), fun _ _ _ T S => gy T rfl h73 (v1 T rfl fun T => ⟨rfl, T⟩)⟩, ⟨_, _, rfl, (avl [87, 86] rfl), fun _ _ _ T S => gy T rfl h73 (r_b2s (ix := 4) (xs := x63.1) T S rfl rfl tu24 tu9 tu5 rfl fun _ T => ⟨rfl, T⟩)⟩, ⟨_, _, rfl, (avl [0, 86] rfl), fun _ _ _ T S => gy T rfl h73 (v1 T rfl fun T => ⟨rfl, T⟩)⟩, ⟨_, _, rfl, (avl [0, 86] rfl), fun _ _ _ T S => gy T rfl h73 (v1 T rfl fun T => ⟨rfl, T⟩)⟩, ⟨_, _, rfl, (avl [90, 86] rfl), fun _ _ _ T S => gy T rfl h73 (rn T rfl tu22 rfl fun _ T => ⟨rfl, T⟩)⟩, ⟨_, _, rfl, (avl [91, 86] rfl), fun _ _ _ T S => gy T rfl h73 (v1 T rfl fun T => ⟨rfl, T⟩)⟩, ⟨_, _, rfl, (avl [89, 92, 86] rfl), fun _ _ _ T S => gy T rfl h73 (r_ia (ix := 10) T S rfl rfl rfl rfl tu22 ts36 h2901.1 h2901.2 rfl fun _ T => ⟨rfl, T⟩)⟩, ⟨_, _, rfl, (avl [93, 86] rfl), fun _ _ _ T S => gy T rfl h73 (r_faE T rfl tu36 rfl ts24 rfl fun _ T => ⟨rfl, T⟩)⟩, ⟨_, _, rfl, (avl [94, 86] rfl), fun _ _ _ T S => gy T rfl h73 (r_ldC (ix := 1) (A := A2) T S rfl rfl rfl ti24 rfl fun _ T => ⟨rfl, T⟩)⟩, ⟨_, _, rfl, (avl [95, 86] rfl), fun _ _ _ T S => gy T rfl h73 (r_b2s (ix := 0) (xs := ((gi daE x1 (wr .i64 ((x1.length : Int) - 1))).Key)) T S rfl rfl tu24 tu9 tu5 rfl fun _ T => ⟨rfl, T⟩)⟩, ⟨_, _, rfl, (avl [88, 96, 86] rfl), fun _ _ _ T S => gy T rfl h73 (v1 T rfl fun T => ⟨rfl, T⟩)⟩, ⟨_, _, rfl, (avl [86, 97] rfl), fun _ _ _ T S => pF T rfl h73 rfl rfl fun _ T => ⟨rfl, T⟩⟩, ⟨_, _, rfl, (avl [98] rfl), fun _ _ _ T S => v1 T rfl fun T => ⟨rfl, T⟩⟩, ⟨_, _, rfl, (avl [13, 99] rfl), fun _ _ _ T S => gn T rfl h74 fun T => ⟨rfl, T⟩⟩, ⟨_, _, rfl, (avl [100, 99] rfl), fun _ _ _ T S => gn T rfl h74 fun T => ⟨rfl, T⟩⟩, ⟨_, _, rfl, (avl [0, 99] rfl), fun _ _ _ T S => gn T rfl h74 fun T => ⟨rfl, T⟩⟩, ⟨_, _, rfl, (avl [102, 99] rfl), fun _ _ _ T S => gn T rfl h74 fun T => ⟨rfl, T⟩⟩, ⟨_, _, rfl, (avl [101, 103, 99] rfl), fun _ _ _ T S => gn T rfl h74 fun T => ⟨rfl, T⟩⟩, ⟨_, _, rfl, (avl [99, 104] rfl), fun _ _ _ T S => pT T rfl h74 rfl rfl fun _ T => ⟨rfl, T⟩⟩, ⟨_, _, rfl, (avl [105] rfl), fun _ _ _ T S => v1 T rfl fun T => ⟨rfl, T⟩⟩, ⟨_, _, rfl, (avl [13, 106] rfl), fun _ _ _ T S => gn T rfl rfl fun T => ⟨rfl, T⟩⟩, ⟨_, _, rfl, (avl [107, 106] rfl), fun _ _ _ T S => gn T rfl rfl fun T => ⟨rfl, T⟩⟩, ⟨_, _, rfl, (avl [10, 106] rfl), fun _ _ _ T S => gn T rfl rfl fun T => ⟨rfl, T⟩⟩, ⟨_, _, rfl, (avl [109, 106] rfl), fun _ _ _ T S => gn T rfl rfl fun T => ⟨rfl, T⟩⟩, ⟨_, _, rfl, (avl [110, 106] rfl), fun _ _ _ T S => gn T rfl rfl fun T => ⟨rfl, T⟩⟩, ⟨_, _, rfl, (avl [111, 106] rfl), fun _ _ _ T S => gn T rfl rfl fun T => ⟨rfl, T⟩⟩, ⟨_, _, rfl, (avl [112, 106] rfl), fun _ _ _ T S => gn T rfl rfl fun T => ⟨rfl, T⟩⟩, ⟨_, _, rfl, (avl [108, 113, 106] rfl), fun _ _ _ T S => gn T rfl rfl fun T => ⟨rfl, T⟩⟩, ⟨_, _, rfl, (avl [106, 114] rfl), fun _ _ _ T S => pT T rfl rfl rfl rfl fun _ T => ⟨rfl, T⟩⟩, ⟨_, _, rfl, (avl [115] rfl), fun _ _ _ T S => v1 T rfl fun T => ⟨rfl, T⟩⟩, ⟨_, _, rfl, (avl [13, 116] rfl), fun _ _ _ T S => gn T rfl rfl fun T => ⟨rfl, T⟩⟩, ⟨_, _, rfl, (avl [117, 116] rfl), fun _ _ _ T S => gn T rfl rfl fun T => ⟨rfl, T⟩⟩, ⟨_, _, rfl, (avl [118, 116] rfl), fun _ _ _ T S => gn T rfl rfl fun T => ⟨rfl, T⟩⟩, ⟨_, _, rfl, (avl [116, 119] rfl), fun _ _ _ T S => pT T rfl rfl rfl rfl fun _ T => ⟨rfl, T⟩⟩, trivial⟩ rfl (fun i hi => by cases hi) (fun _ _ a w T hv hb S => ?_)
     replace T := T.sub (r := [(0, .slice A2 x1.length k3), (2, .slice A6 x5.length k7), (10, (y11 b23)), (13, (y5 b38)), (120, .bool true)]) ⟨hb 0 _ rfl rfl, hb 2 _ rfl rfl, hb 10 _ rfl rfl, hb 13 _ rfl rfl, hv 42 _ 120 rfl rfl rfl, trivial⟩
     refine cdT T rfl rfl (sq ?_)
     exact J2_ok F r z x1 A2 k3 x5 A6 k7 m8 x4 _ _ (T.sub trivial) (S.only [10, 10] rfl) H
    ·obtain ⟨h2181, H⟩ := ck H
     obtain ⟨_, S⟩ := S.peek1 (ix := 6) (off := 0) (i := 0) rfl daE fld_aE_Key (by decide) h2181 rfl
     obtain ⟨A2301, k2302, hv_, S_⟩ := SL.ofVal (l := _ :: _) S
     subst hv_
     replace S := S_
     obtain ⟨h2901, H⟩ := ck H
     obtain ⟨_, S⟩ := S.peek1 (ix := 8) (off := 0) (i := wr .i64 ((x1.length : Int) - 1)) rfl daE fld_aE_Key h2901.1 h2901.2 rfl
     obtain ⟨A3021, k3022, hv_, S_⟩ := SL.ofVal (l := _ :: _) S
     subst hv_
     replace S := S_
     refine Gets.drawn (l := [(y14 A3021 k3022 x1), (y17 A2 x1 A3021 k3022), sl .ro ku8 A2301 k2302 ((gi daE x1 0).Key), cl A2 (Int.toNat 0 * 4 + 0) [(y6 A2301 x1 k2302)], sl .own ku8 A64 k65 x63.1, blk b38 [.slice A67 x63.2.b.length k68, .slice A69 x63.2.blocks.length k70, .slice A71 x63.2.filter.length k72, .int .i64 x63.2.count, .int .i64 x63.2.reads], sl .ro ku8 A67 k68 x63.2.b, sl .ro ks_block A69 k70 x63.2.blocks, sl .ro ku8 A71 k72 x63.2.filter, sl .own ku8 A53 k54 x52.1, sl .ro kaE A2 k3 x1, (y20 m8 A6 k7 x5), (y3 b23 A24 x21 k25 A26 k27 A28 k29), sl .ro kaE A24 k25 x21.L, sl .ro ki64 A26 k27 x21.Cut, sl .ro ku8 A28 k29 x21.filter]) (V := [some (.slice A53 x52.1.length k54, true), some (.string (bstr x52.1), true), (y4 A2 x1 k3), (y15 A2), (y12 A2), some ((y6 A2301 x1 k2302), true), (y16 x1), (y1 x52 x1), (y1 x52 x1), some (.slice A64 x63.1.length k65, true), some (.string (bstr x63.1), true), (y4 A2 x1 k3), (y4 A2 x1 k3), (y10 x1), (y18 x1), (y9 A2 x1), (y8 A2 x1), some ((y2 A3021 x1 k3022), true), (y7 x1), (y0 x63 x1), (y0 x63 x1), (y0 x63 x1), some ((y5 b38), true), none, (y4 A2 x1 k3), (y10 x1), none, none, none, none, none, none, none, none, none, none, none, none, none, none, none, none, none]) mixed T (S.only [0, 0, 0, 0, 0, 0, 0, 0, 0, 0, 0, 0, 0, 0, 0, 0] rfl) rfl ?_
     refine stage (some 23) rfl rfl ⟨⟨_, _, rfl, (avl [16] rfl), fun _ _ _ T S => v1 T rfl fun T => ⟨rfl, T⟩⟩, ⟨_, _, rfl, (avl [78] rfl), fun _ _ _ T S => r_b2s (ix := 9) (xs := x52.1) T S rfl rfl tu24 tu9 tu5 rfl fun _ T => ⟨rfl, T⟩⟩, ⟨_, _, rfl, (avl [0] rfl), fun _ _ _ T S => v1 T rfl fun T => ⟨rfl, T⟩⟩, ⟨_, _, rfl, (avl [80] rfl), fun _ _ _ T S => r_ia (ix := 10) T S rfl rfl rfl rfl tu22 ts36 (by decide) h2181 rfl fun _ T => ⟨rfl, T⟩⟩, ⟨_, _, rfl, (avl [81] rfl), fun _ _ _ T S => r_faE T rfl tu36 rfl ts24 rfl fun _ T => ⟨rfl, T⟩⟩, ⟨_, _, rfl, (avl [82] rfl), fun _ _ _ T S => r_ldC (ix := 3) (A := A2) T S rfl rfl rfl ti24 rfl fun _ T => ⟨rfl, T⟩⟩, ⟨_, _, rfl, (avl [83] rfl), fun _ _ _ T S => r_b2s (ix := 2) (xs := ((gi daE x1 0).Key)) T S rfl rfl tu24 tu9 tu5 rfl fun _ T => ⟨rfl, T⟩⟩, ⟨_, _, rfl, (avl [79, 84] rfl), fun _ _ _ T S => v1 T rfl fun T => ⟨rfl, T⟩⟩, ⟨_, _, rfl, (avl [85] rfl), fun _ _ _ T S => v1 T rfl fun T => ⟨rfl, T⟩⟩, ⟨_, _, rfl, (avl [17, 86] rfl), fun _ _ _ T S => gy T rfl h73 (v1 T rfl fun T => ⟨rfl, T⟩)⟩, ⟨_, _, rfl, (avl [87, 86] rfl), fun _ _ _ T S => gy T rfl h73 (r_b2s (ix := 4) (xs := x63.1) T S rfl rfl tu24 tu9 tu5 rfl fun _ T => ⟨rfl, T⟩)⟩, ⟨_, _, rfl, (avl [0, 86] rfl), fun _ _ _ T S => gy T rfl h73 (v1 T rfl fun T => ⟨rfl, T⟩)⟩, ⟨_, _, rfl, (avl [0, 86] rfl), fun _ _ _ T S => gy T rfl h73 (v1 T rfl fun T => ⟨rfl, T⟩)⟩, ⟨_, _, rfl, (avl [90, 86] rfl), fun _ _ _ T S => gy T rfl h73 (rn T rfl tu22 rfl fun _ T => ⟨rfl, T⟩)⟩, ⟨_, _, rfl, (avl [91, 86] rfl), fun _ _ _ T S => gy T rfl h73 (v1 T rfl fun T => ⟨rfl, T⟩)⟩, ⟨_, _, rfl, (avl [89, 92, 86] rfl), fun _ _ _ T S => gy T rfl h73 (r_ia (ix := 10) T S rfl rfl rfl rfl tu22 ts36 h2901.1 h2901.2 rfl fun _ T => ⟨rfl, T⟩)⟩, ⟨_, _, rfl, (avl [93, 86] rfl), fun _ _ _ T S => gy T rfl h73 (r_faE T rfl tu36 rfl ts24 rfl fun _ T => ⟨rfl, T⟩)⟩, ⟨_, _, rfl, (avl [94, 86] rfl), fun _ _ _ T S => gy T rfl h73 (r_ldC (ix := 1) (A := A2) T S rfl rfl rfl ti24 rfl fun _ T => ⟨rfl, T⟩)⟩, ⟨_, _, rfl, (avl [95, 86] rfl), fun _ _ _ T S => gy T rfl h73 (r_b2s (ix := 0) (xs := ((gi daE x1 (wr .i64 ((x1.length : Int) - 1))).Key)) T S rfl rfl tu24 tu9 tu5 rfl fun _ T => ⟨rfl, T⟩)⟩, ⟨_, _, rfl, (avl [88, 96, 86] rfl), fun _ _ _ T S => gy T rfl h73 (v1 T rfl fun T => ⟨rfl, T⟩)⟩, ⟨_, _, rfl, (avl [86, 97] rfl), fun _ _ _ T S => pF T rfl h73 rfl rfl fun _ T => ⟨rfl, T⟩⟩, ⟨_, _, rfl, (avl [98] rfl), fun _ _ _ T S => v1 T rfl fun T => ⟨rfl, T⟩⟩, ⟨_, _, rfl, (avl [13, 99] rfl), fun _ _ _ T S => gy T rfl h74 (v1 T rfl fun T => ⟨rfl, T⟩)⟩, ⟨_, _, rfl, (avl [0, 99] rfl), fun _ _ _ T S => gy T rfl h74 (v1 T rfl fun T => ⟨rfl, T⟩)⟩, ⟨_, _, rfl, (avl [102, 99] rfl), fun _ _ _ T S => gy T rfl h74 (rn T rfl tu22 rfl fun _ T => ⟨rfl, T⟩)⟩, trivial⟩ rfl (fun i hi => ?_) (fun h => by cases h)
     cases hi
     refine ⟨rfl, _, _, rfl, (avl [100, 99] rfl), fun u a w T S => ?_⟩
     refine gy T rfl h74 ?_
     obtain ⟨x3382, h3381, H⟩ := bd H
     refine rc T Try.call17 rfl rfl (s_Table_Count.ok _ _ x63.2 (S.sel (is := [5, 5, 5, 5]) rfl) _ h3381) ?_
     rintro _ _ ⟨A3384, k3385, A3386, k3387, A3388, k3389, rfl, S⟩
     refine ⟨_, rfl, fun _ T => ?_⟩
     replace S := S.join
     rcases ifE H with ⟨h75, H⟩ | ⟨h75, H⟩
     ·refine ⟨_, [some (.slice A53 x52.1.length k54, true), some (.string (bstr x52.1), true), (y4 A2 x1 k3), (y15 A2), (y12 A2), some ((y6 A2301 x1 k2302), true), (y16 x1), (y1 x52 x1), (y1 x52 x1), some (.slice A64 x63.1.length k65, true), some (.string (bstr x63.1), true), (y4 A2 x1 k3), (y4 A2 x1 k3), (y10 x1), (y18 x1), (y9 A2 x1), (y8 A2 x1), some ((y2 A3021 x1 k3022), true), (y7 x1), (y0 x63 x1), (y0 x63 x1), some (Value.bool (!((bstr x63.1).toList == (bstr ((gi daE x1 (wr .i64 ((x1.length : Int) - 1))).Key)).toList)), false), some ((y5 b38), false), some (Value.int .i64 x3382.1, false), (y4 A2 x1 k3), (y10 x1), (y13 x3382 x1), (y13 x3382 x1), (y13 x3382 x1), some (undef, true), some (undef, true), some (undef, true), some (undef, true), some (undef, true), some (undef, true), some (undef, true), some (undef, true), some (.bool true, true), some (.bool true, true), some (undef, true), some (undef, true), some (undef, true), some (.bool true, true)], [blk b38 [.slice A3384 x3382.2.b.length k3385, .slice A3386 x3382.2.blocks.length k3387, .slice A3388 x3382.2.filter.length k3389, .int .i64 x3382.2.count, .int .i64 x3382.2.reads], sl .ro ku8 A3384 k3385 x3382.2.b, sl .ro ks_block A3386 k3387 x3382.2.blocks, sl .ro ku8 A3388 k3389 x3382.2.filter, (y14 A3021 k3022 x1), (y17 A2 x1 A3021 k3022), sl .ro ku8 A2301 k2302 ((gi daE x1 0).Key), cl A2 (Int.toNat 0 * 4 + 0) [(y6 A2301 x1 k2302)], sl .own ku8 A64 k65 x63.1, sl .own ku8 A53 k54 x52.1, sl .ro kaE A2 k3 x1, (y20 m8 A6 k7 x5), (y3 b23 A24 x21 k25 A26 k27 A28 k29), sl .ro kaE A24 k25 x21.L, sl .ro ki64 A26 k27 x21.Cut, sl .ro ku8 A28 k29 x21.filter], rfl, (by repeat first | exact kx0 | apply kxs | apply kxn), rfl, ?_, T, S⟩
      refine stage none rfl rfl ⟨⟨_, _, rfl, (avl [16] rfl), fun _ _ _ T S => v1 T rfl fun T => ⟨rfl, T⟩⟩, ⟨_, _, rfl, (avl [78] rfl), fun _ _ _ T S => r_b2s (ix := 9) (xs := x52.1) T S rfl rfl tu24 tu9 tu5 rfl fun _ T => ⟨rfl, T⟩⟩, ⟨_, _, rfl, (avl [0] rfl), fun _ _ _ T S => v1 T rfl fun T => ⟨rfl, T⟩⟩, ⟨_, _, rfl, (avl [80] rfl), fun _ _ _ T S => r_ia (ix := 10) T S rfl rfl rfl rfl tu22 ts36 (by decide) h2181 rfl fun _ T => ⟨rfl, T⟩⟩, ⟨_, _, rfl, (avl [81] rfl), fun _ _ _ T S => r_faE T rfl tu36 rfl ts24 rfl fun _ T => ⟨rfl, T⟩⟩, ⟨_, _, rfl, (avl [82] rfl), fun _ _ _ T S => r_ldC (ix := 7) (A := A2) T S rfl rfl rfl ti24 rfl fun _ T => ⟨rfl, T⟩⟩, ⟨_, _, rfl, (avl [83] rfl), fun _ _ _ T S => r_b2s (ix := 6) (xs := ((gi daE x1 0).Key)) T S rfl rfl tu24 tu9 tu5 rfl fun _ T => ⟨rfl, T⟩⟩, ⟨_, _, rfl, (avl [79, 84] rfl), fun _ _ _ T S => v1 T rfl fun T => ⟨rfl, T⟩⟩, ⟨_, _, rfl, (avl [85] rfl), fun _ _ _ T S => v1 T rfl fun T => ⟨rfl, T⟩⟩, ⟨_, _, rfl, (avl [17, 86] rfl), fun _ _ _ T S => gy T rfl h73 (v1 T rfl fun T => ⟨rfl, T⟩)⟩, ⟨_, _, rfl, (avl [87, 86] rfl), fun _ _ _ T S => gy T rfl h73 (r_b2s (ix := 8) (xs := x63.1) T S rfl rfl tu24 tu9 tu5 rfl fun _ T => ⟨rfl, T⟩)⟩, ⟨_, _, rfl, (avl [0, 86] rfl), fun _ _ _ T S => gy T rfl h73 (v1 T rfl fun T => ⟨rfl, T⟩)⟩, ⟨_, _, rfl, (avl [0, 86] rfl), fun _ _ _ T S => gy T rfl h73 (v1 T rfl fun T => ⟨rfl, T⟩)⟩, ⟨_, _, rfl, (avl [90, 86] rfl), fun _ _ _ T S => gy T rfl h73 (rn T rfl tu22 rfl fun _ T => ⟨rfl, T⟩)⟩, ⟨_, _, rfl, (avl [91, 86] rfl), fun _ _ _ T S => gy T rfl h73 (v1 T rfl fun T => ⟨rfl, T⟩)⟩, ⟨_, _, rfl, (avl [89, 92, 86] rfl), fun _ _ _ T S => gy T rfl h73 (r_ia (ix := 10) T S rfl rfl rfl rfl tu22 ts36 h2901.1 h2901.2 rfl fun _ T => ⟨rfl, T⟩)⟩, ⟨_, _, rfl, (avl [93, 86] rfl), fun _ _ _ T S => gy T rfl h73 (r_faE T rfl tu36 rfl ts24 rfl fun _ T => ⟨rfl, T⟩)⟩, ⟨_, _, rfl, (avl [94, 86] rfl), fun _ _ _ T S => gy T rfl h73 (r_ldC (ix := 5) (A := A2) T S rfl rfl rfl ti24 rfl fun _ T => ⟨rfl, T⟩)⟩, ⟨_, _, rfl, (avl [95, 86] rfl), fun _ _ _ T S => gy T rfl h73 (r_b2s (ix := 4) (xs := ((gi daE x1 (wr .i64 ((x1.length : Int) - 1))).Key)) T S rfl rfl tu24 tu9 tu5 rfl fun _ T => ⟨rfl, T⟩)⟩, ⟨_, _, rfl, (avl [88, 96, 86] rfl), fun _ _ _ T S => gy T rfl h73 (v1 T rfl fun T => ⟨rfl, T⟩)⟩, ⟨_, _, rfl, (avl [86, 97] rfl), fun _ _ _ T S => pF T rfl h73 rfl rfl fun _ T => ⟨rfl, T⟩⟩, ⟨_, _, rfl, (avl [0, 99] rfl), fun _ _ _ T S => gy T rfl h74 (v1 T rfl fun T => ⟨rfl, T⟩)⟩, ⟨_, _, rfl, (avl [102, 99] rfl), fun _ _ _ T S => gy T rfl h74 (rn T rfl tu22 rfl fun _ T => ⟨rfl, T⟩)⟩, ⟨_, _, rfl, (avl [101, 103, 99] rfl), fun _ _ _ T S => gy T rfl h74 (v1 T rfl fun T => ⟨rfl, T⟩)⟩, ⟨_, _, rfl, (avl [99, 104] rfl), fun _ _ _ T S => pF T rfl h74 rfl rfl fun _ T => ⟨rfl, T⟩⟩, ⟨_, _, rfl, (avl [105] rfl), fun _ _ _ T S => v1 T rfl fun T => ⟨rfl, T⟩⟩, ⟨_, _, rfl, (avl [13, 106] rfl), fun _ _ _ T S => gn T rfl h75 fun T => ⟨rfl, T⟩⟩, ⟨_, _, rfl, (avl [107, 106] rfl), fun _ _ _ T S => gn T rfl h75 fun T => ⟨rfl, T⟩⟩, ⟨_, _, rfl, (avl [10, 106] rfl), fun _ _ _ T S => gn T rfl h75 fun T => ⟨rfl, T⟩⟩, ⟨_, _, rfl, (avl [109, 106] rfl), fun _ _ _ T S => gn T rfl h75 fun T => ⟨rfl, T⟩⟩, ⟨_, _, rfl, (avl [110, 106] rfl), fun _ _ _ T S => gn T rfl h75 fun T => ⟨rfl, T⟩⟩, ⟨_, _, rfl, (avl [111, 106] rfl), fun _ _ _ T S => gn T rfl h75 fun T => ⟨rfl, T⟩⟩, ⟨_, _, rfl, (avl [112, 106] rfl), fun _ _ _ T S => gn T rfl h75 fun T => ⟨rfl, T⟩⟩, ⟨_, _, rfl, (avl [108, 113, 106] rfl), fun _ _ _ T S => gn T rfl h75 fun T => ⟨rfl, T⟩⟩, ⟨_, _, rfl, (avl [106, 114] rfl), fun _ _ _ T S => pT T rfl h75 rfl rfl fun _ T => ⟨rfl, T⟩⟩, ⟨_, _, rfl, (avl [115] rfl), fun _ _ _ T S => v1 T rfl fun T => ⟨rfl, T⟩⟩, ⟨_, _, rfl, (avl [13, 116] rfl), fun _ _ _ T S => gn T rfl rfl fun T => ⟨rfl, T⟩⟩, ⟨_, _, rfl, (avl [117, 116] rfl), fun _ _ _ T S => gn T rfl rfl fun T => ⟨rfl, T⟩⟩, ⟨_, _, rfl, (avl [118, 116] rfl), fun _ _ _ T S => gn T rfl rfl fun T => ⟨rfl, T⟩⟩, ⟨_, _, rfl, (avl [116, 119] rfl), fun _ _ _ T S => pT T rfl rfl rfl rfl fun _ T => ⟨rfl, T⟩⟩, trivial⟩ rfl (fun i hi => by cases hi) (fun _ _ a w T hv hb S => ?_)
      replace T := T.sub (r := [(0, .slice A2 x1.length k3), (2, .slice A6 x5.length k7), (10, (y11 b23)), (13, (y5 b38)), (120, .bool true)]) ⟨hb 0 _ rfl rfl, hb 2 _ rfl rfl, hb 10 _ rfl rfl, hb 13 _ rfl rfl, hv 42 _ 120 rfl rfl rfl, trivial⟩
      refine cdT T rfl rfl (sq ?_)
      exact J2_ok F r z x1 A2 k3 x5 A6 k7 m8 x4 _ _ (T.sub trivial) (S.only [10, 10] rfl) H
     ·refine ⟨_, [some (.slice A53 x52.1.length k54, true), some (.string (bstr x52.1), true), (y4 A2 x1 k3), (y15 A2), (y12 A2), some ((y6 A2301 x1 k2302), true), (y16 x1), (y1 x52 x1), (y1 x52 x1), some (.slice A64 x63.1.length k65, true), some (.string (bstr x63.1), true), (y4 A2 x1 k3), (y4 A2 x1 k3), (y10 x1), (y18 x1), (y9 A2 x1), (y8 A2 x1), some ((y2 A3021 x1 k3022), true), (y7 x1), (y0 x63 x1), (y0 x63 x1), some (Value.bool (!((bstr x63.1).toList == (bstr ((gi daE x1 (wr .i64 ((x1.length : Int) - 1))).Key)).toList)), false), some ((y5 b38), false), some (Value.int .i64 x3382.1, false), (y4 A2 x1 k3), (y10 x1), (y13 x3382 x1), (y13 x3382 x1), (y13 x3382 x1), some ((y5 b38), true), none, some ((y11 b23), true), some ((y11 b23), true), some (.pointer (some ⟨b23, 1, none⟩), true), some (.slice A26 x21.Cut.length k27, true), some (.int .i64 (x21.Cut.length : Int), true), none, none, none, none, none, none, none], [blk b38 [.slice A3384 x3382.2.b.length k3385, .slice A3386 x3382.2.blocks.length k3387, .slice A3388 x3382.2.filter.length k3389, .int .i64 x3382.2.count, .int .i64 x3382.2.reads], sl .ro ku8 A3384 k3385 x3382.2.b, sl .ro ks_block A3386 k3387 x3382.2.blocks, sl .ro ku8 A3388 k3389 x3382.2.filter, (y14 A3021 k3022 x1), (y17 A2 x1 A3021 k3022), sl .ro ku8 A2301 k2302 ((gi daE x1 0).Key), cl A2 (Int.toNat 0 * 4 + 0) [(y6 A2301 x1 k2302)], sl .own ku8 A64 k65 x63.1, sl .own ku8 A53 k54 x52.1, sl .ro kaE A2 k3 x1, (y20 m8 A6 k7 x5), (y3 b23 A24 x21 k25 A26 k27 A28 k29), sl .ro kaE A24 k25 x21.L, sl .ro ki64 A26 k27 x21.Cut, sl .ro ku8 A28 k29 x21.filter], rfl, (by repeat first | exact kx0 | apply kxs | apply kxn), rfl, ?_, T, S⟩
      refine stage (some 30) rfl rfl ⟨⟨_, _, rfl, (avl [16] rfl), fun _ _ _ T S => v1 T rfl fun T => ⟨rfl, T⟩⟩, ⟨_, _, rfl, (avl [78] rfl), fun _ _ _ T S => r_b2s (ix := 9) (xs := x52.1) T S rfl rfl tu24 tu9 tu5 rfl fun _ T => ⟨rfl, T⟩⟩, ⟨_, _, rfl, (avl [0] rfl), fun _ _ _ T S => v1 T rfl fun T => ⟨rfl, T⟩⟩, ⟨_, _, rfl, (avl [80] rfl), fun _ _ _ T S => r_ia (ix := 10) T S rfl rfl rfl rfl tu22 ts36 (by decide) h2181 rfl fun _ T => ⟨rfl, T⟩⟩, ⟨_, _, rfl, (avl [81] rfl), fun _ _ _ T S => r_faE T rfl tu36 rfl ts24 rfl fun _ T => ⟨rfl, T⟩⟩, ⟨_, _, rfl, (avl [82] rfl), fun _ _ _ T S => r_ldC (ix := 7) (A := A2) T S rfl rfl rfl ti24 rfl fun _ T => ⟨rfl, T⟩⟩, ⟨_, _, rfl, (avl [83] rfl), fun _ _ _ T S => r_b2s (ix := 6) (xs := ((gi daE x1 0).Key)) T S rfl rfl tu24 tu9 tu5 rfl fun _ T => ⟨rfl, T⟩⟩, ⟨_, _, rfl, (avl [79, 84] rfl), fun _ _ _ T S => v1 T rfl fun T => ⟨rfl, T⟩⟩, ⟨_, _, rfl, (avl [85] rfl), fun _ _ _ T S => v1 T rfl fun T => ⟨rfl, T⟩⟩, ⟨_, _, rfl, (avl [17, 86] rfl), fun _ _ _ T S => gy T rfl h73 (v1 T rfl fun T => ⟨rfl, T⟩)⟩, ⟨_, _, rfl, (avl [87, 86] rfl), fun _ _ _ T S => gy T rfl h73 (r_b2s (ix := 8) (xs := x63.1) T S rfl rfl tu24 tu9 tu5 rfl fun _ T => ⟨rfl, T⟩)⟩, ⟨_, _, rfl, (avl [0, 86] rfl), fun _ _ _ T S => gy T rfl h73 (v1 T rfl fun T => ⟨rfl, T⟩)⟩, ⟨_, _, rfl, (avl [0, 86] rfl), fun _ _ _ T S => gy T rfl h73 (v1 T rfl fun T => ⟨rfl, T⟩)⟩, ⟨_, _, rfl, (avl [90, 86] rfl), fun _ _ _ T S => gy T rfl h73 (rn T rfl tu22 rfl fun _ T => ⟨rfl, T⟩)⟩, ⟨_, _, rfl, (avl [91, 86] rfl), fun _ _ _ T S => gy T rfl h73 (v1 T rfl fun T => ⟨rfl, T⟩)⟩, ⟨_, _, rfl, (avl [89, 92, 86] rfl), fun _ _ _ T S => gy T rfl h73 (r_ia (ix := 10) T S rfl rfl rfl rfl tu22 ts36 h2901.1 h2901.2 rfl fun _ T => ⟨rfl, T⟩)⟩, ⟨_, _, rfl, (avl [93, 86] rfl), fun _ _ _ T S => gy T rfl h73 (r_faE T rfl tu36 rfl ts24 rfl fun _ T => ⟨rfl, T⟩)⟩, ⟨_, _, rfl, (avl [94, 86] rfl), fun _ _ _ T S => gy T rfl h73 (r_ldC (ix := 5) (A := A2) T S rfl rfl rfl ti24 rfl fun _ T => ⟨rfl, T⟩)⟩, ⟨_, _, rfl, (avl [95, 86] rfl), fun _ _ _ T S => gy T rfl h73 (r_b2s (ix := 4) (xs := ((gi daE x1 (wr .i64 ((x1.length : Int) - 1))).Key)) T S rfl rfl tu24 tu9 tu5 rfl fun _ T => ⟨rfl, T⟩)⟩, ⟨_, _, rfl, (avl [88, 96, 86] rfl), fun _ _ _ T S => gy T rfl h73 (v1 T rfl fun T => ⟨rfl, T⟩)⟩, ⟨_, _, rfl, (avl [86, 97] rfl), fun _ _ _ T S => pF T rfl h73 rfl rfl fun _ T => ⟨rfl, T⟩⟩, ⟨_, _, rfl, (avl [0, 99] rfl), fun _ _ _ T S => gy T rfl h74 (v1 T rfl fun T => ⟨rfl, T⟩)⟩, ⟨_, _, rfl, (avl [102, 99] rfl), fun _ _ _ T S => gy T rfl h74 (rn T rfl tu22 rfl fun _ T => ⟨rfl, T⟩)⟩, ⟨_, _, rfl, (avl [101, 103, 99] rfl), fun _ _ _ T S => gy T rfl h74 (v1 T rfl fun T => ⟨rfl, T⟩)⟩, ⟨_, _, rfl, (avl [99, 104] rfl), fun _ _ _ T S => pF T rfl h74 rfl rfl fun _ T => ⟨rfl, T⟩⟩, ⟨_, _, rfl, (avl [105] rfl), fun _ _ _ T S => v1 T rfl fun T => ⟨rfl, T⟩⟩, ⟨_, _, rfl, (avl [13, 106] rfl), fun _ _ _ T S => gy T rfl h75 (v1 T rfl fun T => ⟨rfl, T⟩)⟩, ⟨_, _, rfl, (avl [10, 106] rfl), fun _ _ _ T S => gy T rfl h75 (v1 T rfl fun T => ⟨rfl, T⟩)⟩, ⟨_, _, rfl, (avl [109, 106] rfl), fun _ _ _ T S => gy T rfl h75 (v1 T rfl fun T => ⟨rfl, T⟩)⟩, ⟨_, _, rfl, (avl [110, 106] rfl), fun _ _ _ T S => gy T rfl h75 (r_fa (o' := 1) T rfl tu50 rfl ts48 rfl rfl fun _ T => ⟨rfl, T⟩)⟩, ⟨_, _, rfl, (avl [111, 106] rfl), fun _ _ _ T S => gy T rfl h75 (lB (ix := 12) T S rfl ti48 rfl rfl rfl fun _ T => ⟨rfl, T⟩)⟩, ⟨_, _, rfl, (avl [112, 106] rfl), fun _ _ _ T S => gy T rfl h75 (rn T rfl tu48 rfl fun _ T => ⟨rfl, T⟩)⟩, trivial⟩ rfl (fun i hi => ?_) (fun h => by cases h)
      cases hi
      refine ⟨rfl, _, _, rfl, (avl [107, 106] rfl), fun u a w T S => ?_⟩
      refine gy T rfl h75 ?_
      obtain ⟨x3802, h3801, H⟩ := bd H
      refine rc T Try.call18 rfl rfl (s_Table_Blocks.ok _ _ x3382.2 (S.sel (is := [0, 0, 0, 0]) rfl) _ h3801) ?_
      rintro _ _ ⟨A3804, k3805, A3806, k3807, A3808, k3809, rfl, S⟩
      refine ⟨_, rfl, fun _ T => ?_⟩
      replace S := S.join
      rcases ifE H with ⟨h76, H⟩ | ⟨h76, H⟩
      ·refine ⟨_, [some (.slice A53 x52.1.length k54, true), some (.string (bstr x52.1), true), (y4 A2 x1 k3), (y15 A2), (y12 A2), some ((y6 A2301 x1 k2302), true), (y16 x1), (y1 x52 x1), (y1 x52 x1), some (.slice A64 x63.1.length k65, true), some (.string (bstr x63.1), true), (y4 A2 x1 k3), (y4 A2 x1 k3), (y10 x1), (y18 x1), (y9 A2 x1), (y8 A2 x1), some ((y2 A3021 x1 k3022), true), (y7 x1), (y0 x63 x1), (y0 x63 x1), some (Value.bool (!((bstr x63.1).toList == (bstr ((gi daE x1 (wr .i64 ((x1.length : Int) - 1))).Key)).toList)), false), some ((y5 b38), false), some (Value.int .i64 x3382.1, false), (y4 A2 x1 k3), (y10 x1), (y13 x3382 x1), (y13 x3382 x1), some (Value.bool (x3382.1 != (x1.length : Int)), false), some ((y5 b38), false), some (Value.int .i64 x3802.1, false), some ((y11 b23), true), some ((y11 b23), true), some (.pointer (some ⟨b23, 1, none⟩), true), some (.slice A26 x21.Cut.length k27, true), some (.int .i64 (x21.Cut.length : Int), true), (y19 x3802 x21), (y19 x3802 x21), (y19 x3802 x21), some (undef, true), some (undef, true), some (undef, true), some (.bool true, true)], [blk b38 [.slice A3804 x3802.2.b.length k3805, .slice A3806 x3802.2.blocks.length k3807, .slice A3808 x3802.2.filter.length k3809, .int .i64 x3802.2.count, .int .i64 x3802.2.reads], sl .ro ku8 A3804 k3805 x3802.2.b, sl .ro ks_block A3806 k3807 x3802.2.blocks, sl .ro ku8 A3808 k3809 x3802.2.filter, (y14 A3021 k3022 x1), (y17 A2 x1 A3021 k3022), sl .ro ku8 A2301 k2302 ((gi daE x1 0).Key), cl A2 (Int.toNat 0 * 4 + 0) [(y6 A2301 x1 k2302)], sl .own ku8 A64 k65 x63.1, sl .own ku8 A53 k54 x52.1, sl .ro kaE A2 k3 x1, (y20 m8 A6 k7 x5), (y3 b23 A24 x21 k25 A26 k27 A28 k29), sl .ro kaE A24 k25 x21.L, sl .ro ki64 A26 k27 x21.Cut, sl .ro ku8 A28 k29 x21.filter], rfl, (by repeat first | exact kx0 | apply kxs | apply kxn), rfl, ?_, T, S⟩
       refine stage none rfl rfl ⟨⟨_, _, rfl, (avl [16] rfl), fun _ _ _ T S => v1 T rfl fun T => ⟨rfl, T⟩⟩, ⟨_, _, rfl, (avl [78] rfl), fun _ _ _ T S => r_b2s (ix := 9) (xs := x52.1) T S rfl rfl tu24 tu9 tu5 rfl fun _ T => ⟨rfl, T⟩⟩, ⟨_, _, rfl, (avl [0] rfl), fun _ _ _ T S => v1 T rfl fun T => ⟨rfl, T⟩⟩, ⟨_, _, rfl, (avl [80] rfl), fun _ _ _ T S => r_ia (ix := 10) T S rfl rfl rfl rfl tu22 ts36 (by decide) h2181 rfl fun _ T => ⟨rfl, T⟩⟩, ⟨_, _, rfl, (avl [81] rfl), fun _ _ _ T S => r_faE T rfl tu36 rfl ts24 rfl fun _ T => ⟨rfl, T⟩⟩, ⟨_, _, rfl, (avl [82] rfl), fun _ _ _ T S => r_ldC (ix := 7) (A := A2) T S rfl rfl rfl ti24 rfl fun _ T => ⟨rfl, T⟩⟩, ⟨_, _, rfl, (avl [83] rfl), fun _ _ _ T S => r_b2s (ix := 6) (xs := ((gi daE x1 0).Key)) T S rfl rfl tu24 tu9 tu5 rfl fun _ T => ⟨rfl, T⟩⟩, ⟨_, _, rfl, (avl [79, 84] rfl), fun _ _ _ T S => v1 T rfl fun T => ⟨rfl, T⟩⟩, ⟨_, _, rfl, (avl [85] rfl), fun _ _ _ T S => v1 T rfl fun T => ⟨rfl, T⟩⟩, ⟨_, _, rfl, (avl [17, 86] rfl), fun _ _ _ T S => gy T rfl h73 (v1 T rfl fun T => ⟨rfl, T⟩)⟩, ⟨_, _, rfl, (avl [87, 86] rfl), fun _ _ _ T S => gy T rfl h73 (r_b2s (ix := 8) (xs := x63.1) T S rfl rfl tu24 tu9 tu5 rfl fun _ T => ⟨rfl, T⟩)⟩, ⟨_, _, rfl, (avl [0, 86] rfl), fun _ _ _ T S => gy T rfl h73 (v1 T rfl fun T => ⟨rfl, T⟩)⟩, ⟨_, _, rfl, (avl [0, 86] rfl), fun _ _ _ T S => gy T rfl h73 (v1 T rfl fun T => ⟨rfl, T⟩)⟩, ⟨_, _, rfl, (avl [90, 86] rfl), fun _ _ _ T S => gy T rfl h73 (rn T rfl tu22 rfl fun _ T => ⟨rfl, T⟩)⟩, ⟨_, _, rfl, (avl [91, 86] rfl), fun _ _ _ T S => gy T rfl h73 (v1 T rfl fun T => ⟨rfl, T⟩)⟩, ⟨_, _, rfl, (avl [89, 92, 86] rfl), fun _ _ _ T S => gy T rfl h73 (r_ia (ix := 10) T S rfl rfl rfl rfl tu22 ts36 h2901.1 h2901.2 rfl fun _ T => ⟨rfl, T⟩)⟩, ⟨_, _, rfl, (avl [93, 86] rfl), fun _ _ _ T S => gy T rfl h73 (r_faE T rfl tu36 rfl ts24 rfl fun _ T => ⟨rfl, T⟩)⟩, ⟨_, _, rfl, (avl [94, 86] rfl), fun _ _ _ T S => gy T rfl h73 (r_ldC (ix := 5) (A := A2) T S rfl rfl rfl ti24 rfl fun _ T => ⟨rfl, T⟩)⟩, ⟨_, _, rfl, (avl [95, 86] rfl), fun _ _ _ T S => gy T rfl h73 (r_b2s (ix := 4) (xs := ((gi daE x1 (wr .i64 ((x1.length : Int) - 1))).Key)) T S rfl rfl tu24 tu9 tu5 rfl fun _ T => ⟨rfl, T⟩)⟩, ⟨_, _, rfl, (avl [88, 96, 86] rfl), fun _ _ _ T S => gy T rfl h73 (v1 T rfl fun T => ⟨rfl, T⟩)⟩, ⟨_, _, rfl, (avl [86, 97] rfl), fun _ _ _ T S => pF T rfl h73 rfl rfl fun _ T => ⟨rfl, T⟩⟩, ⟨_, _, rfl, (avl [0, 99] rfl), fun _ _ _ T S => gy T rfl h74 (v1 T rfl fun T => ⟨rfl, T⟩)⟩, ⟨_, _, rfl, (avl [102, 99] rfl), fun _ _ _ T S => gy T rfl h74 (rn T rfl tu22 rfl fun _ T => ⟨rfl, T⟩)⟩, ⟨_, _, rfl, (avl [101, 103, 99] rfl), fun _ _ _ T S => gy T rfl h74 (v1 T rfl fun T => ⟨rfl, T⟩)⟩, ⟨_, _, rfl, (avl [99, 104] rfl), fun _ _ _ T S => pF T rfl h74 rfl rfl fun _ T => ⟨rfl, T⟩⟩, ⟨_, _, rfl, (avl [10, 106] rfl), fun _ _ _ T S => gy T rfl h75 (v1 T rfl fun T => ⟨rfl, T⟩)⟩, ⟨_, _, rfl, (avl [109, 106] rfl), fun _ _ _ T S => gy T rfl h75 (v1 T rfl fun T => ⟨rfl, T⟩)⟩, ⟨_, _, rfl, (avl [110, 106] rfl), fun _ _ _ T S => gy T rfl h75 (r_fa (o' := 1) T rfl tu50 rfl ts48 rfl rfl fun _ T => ⟨rfl, T⟩)⟩, ⟨_, _, rfl, (avl [111, 106] rfl), fun _ _ _ T S => gy T rfl h75 (lB (ix := 12) T S rfl ti48 rfl rfl rfl fun _ T => ⟨rfl, T⟩)⟩, ⟨_, _, rfl, (avl [112, 106] rfl), fun _ _ _ T S => gy T rfl h75 (rn T rfl tu48 rfl fun _ T => ⟨rfl, T⟩)⟩, ⟨_, _, rfl, (avl [108, 113, 106] rfl), fun _ _ _ T S => gy T rfl h75 (v1 T rfl fun T => ⟨rfl, T⟩)⟩, ⟨_, _, rfl, (avl [106, 114] rfl), fun _ _ _ T S => pF T rfl h75 rfl rfl fun _ T => ⟨rfl, T⟩⟩, ⟨_, _, rfl, (avl [115] rfl), fun _ _ _ T S => v1 T rfl fun T => ⟨rfl, T⟩⟩, ⟨_, _, rfl, (avl [13, 116] rfl), fun _ _ _ T S => gn T rfl h76 fun T => ⟨rfl, T⟩⟩, ⟨_, _, rfl, (avl [117, 116] rfl), fun _ _ _ T S => gn T rfl h76 fun T => ⟨rfl, T⟩⟩, ⟨_, _, rfl, (avl [118, 116] rfl), fun _ _ _ T S => gn T rfl h76 fun T => ⟨rfl, T⟩⟩, ⟨_, _, rfl, (avl [116, 119] rfl), fun _ _ _ T S => pT T rfl h76 rfl rfl fun _ T => ⟨rfl, T⟩⟩, trivial⟩ rfl (fun i hi => by cases hi) (fun _ _ a w T hv hb S => ?_)
       replace T := T.sub (r := [(0, .slice A2 x1.length k3), (2, .slice A6 x5.length k7), (10, (y11 b23)), (13, (y5 b38)), (120, .bool true)]) ⟨hb 0 _ rfl rfl, hb 2 _ rfl rfl, hb 10 _ rfl rfl, hb 13 _ rfl rfl, hv 42 _ 120 rfl rfl rfl, trivial⟩
       refine cdT T rfl rfl (sq ?_)
       exact J2_ok F r z x1 A2 k3 x5 A6 k7 m8 x4 _ _ (T.sub trivial) (S.only [10, 10] rfl) H
      ·refine ⟨_, [some (.slice A53 x52.1.length k54, true), some (.string (bstr x52.1), true), (y4 A2 x1 k3), (y15 A2), (y12 A2), some ((y6 A2301 x1 k2302), true), (y16 x1), (y1 x52 x1), (y1 x52 x1), some (.slice A64 x63.1.length k65, true), some (.string (bstr x63.1), true), (y4 A2 x1 k3), (y4 A2 x1 k3), (y10 x1), (y18 x1), (y9 A2 x1), (y8 A2 x1), some ((y2 A3021 x1 k3022), true), (y7 x1), (y0 x63 x1), (y0 x63 x1), some (Value.bool (!((bstr x63.1).toList == (bstr ((gi daE x1 (wr .i64 ((x1.length : Int) - 1))).Key)).toList)), false), some ((y5 b38), false), some (Value.int .i64 x3382.1, false), (y4 A2 x1 k3), (y10 x1), (y13 x3382 x1), (y13 x3382 x1), some (Value.bool (x3382.1 != (x1.length : Int)), false), some ((y5 b38), false), some (Value.int .i64 x3802.1, false), some ((y11 b23), true), some ((y11 b23), true), some (.pointer (some ⟨b23, 1, none⟩), true), some (.slice A26 x21.Cut.length k27, true), some (.int .i64 (x21.Cut.length : Int), true), (y19 x3802 x21), (y19 x3802 x21), (y19 x3802 x21), some ((y5 b38), true), none, none, none], [blk b38 [.slice A3804 x3802.2.b.length k3805, .slice A3806 x3802.2.blocks.length k3807, .slice A3808 x3802.2.filter.length k3809, .int .i64 x3802.2.count, .int .i64 x3802.2.reads], sl .ro ku8 A3804 k3805 x3802.2.b, sl .ro ks_block A3806 k3807 x3802.2.blocks, sl .ro ku8 A3808 k3809 x3802.2.filter, (y14 A3021 k3022 x1), (y17 A2 x1 A3021 k3022), sl .ro ku8 A2301 k2302 ((gi daE x1 0).Key), cl A2 (Int.toNat 0 * 4 + 0) [(y6 A2301 x1 k2302)], sl .own ku8 A64 k65 x63.1, sl .own ku8 A53 k54 x52.1, sl .ro kaE A2 k3 x1, (y20 m8 A6 k7 x5), (y3 b23 A24 x21 k25 A26 k27 A28 k29), sl .ro kaE A24 k25 x21.L, sl .ro ki64 A26 k27 x21.Cut, sl .ro ku8 A28 k29 x21.filter], rfl, (by repeat first | exact kx0 | apply kxs | apply kxn), rfl, ?_, T, S⟩
       refine stage (some 40) rfl rfl ⟨⟨_, _, rfl, (avl [16] rfl), fun _ _ _ T S => v1 T rfl fun T => ⟨rfl, T⟩⟩, ⟨_, _, rfl, (avl [78] rfl), fun _ _ _ T S => r_b2s (ix := 9) (xs := x52.1) T S rfl rfl tu24 tu9 tu5 rfl fun _ T => ⟨rfl, T⟩⟩, ⟨_, _, rfl, (avl [0] rfl), fun _ _ _ T S => v1 T rfl fun T => ⟨rfl, T⟩⟩, ⟨_, _, rfl, (avl [80] rfl), fun _ _ _ T S => r_ia (ix := 10) T S rfl rfl rfl rfl tu22 ts36 (by decide) h2181 rfl fun _ T => ⟨rfl, T⟩⟩, ⟨_, _, rfl, (avl [81] rfl), fun _ _ _ T S => r_faE T rfl tu36 rfl ts24 rfl fun _ T => ⟨rfl, T⟩⟩, ⟨_, _, rfl, (avl [82] rfl), fun _ _ _ T S => r_ldC (ix := 7) (A := A2) T S rfl rfl rfl ti24 rfl fun _ T => ⟨rfl, T⟩⟩, ⟨_, _, rfl, (avl [83] rfl), fun _ _ _ T S => r_b2s (ix := 6) (xs := ((gi daE x1 0).Key)) T S rfl rfl tu24 tu9 tu5 rfl fun _ T => ⟨rfl, T⟩⟩, ⟨_, _, rfl, (avl [79, 84] rfl), fun _ _ _ T S => v1 T rfl fun T => ⟨rfl, T⟩⟩, ⟨_, _, rfl, (avl [85] rfl), fun _ _ _ T S => v1 T rfl fun T => ⟨rfl, T⟩⟩, ⟨_, _, rfl, (avl [17, 86] rfl), fun _ _ _ T S => gy T rfl h73 (v1 T rfl fun T => ⟨rfl, T⟩)⟩, ⟨_, _, rfl, (avl [87, 86] rfl), fun _ _ _ T S => gy T rfl h73 (r_b2s (ix := 8) (xs := x63.1) T S rfl rfl tu24 tu9 tu5 rfl fun _ T => ⟨rfl, T⟩)⟩, ⟨_, _, rfl, (avl [0, 86] rfl), fun _ _ _ T S => gy T rfl h73 (v1 T rfl fun T => ⟨rfl, T⟩)⟩, ⟨_, _, rfl, (avl [0, 86] rfl), fun _ _ _ T S => gy T rfl h73 (v1 T rfl fun T => ⟨rfl, T⟩)⟩, ⟨_, _, rfl, (avl [90, 86] rfl), fun _ _ _ T S => gy T rfl h73 (rn T rfl tu22 rfl fun _ T => ⟨rfl, T⟩)⟩, ⟨_, _, rfl, (avl [91, 86] rfl), fun _ _ _ T S => gy T rfl h73 (v1 T rfl fun T => ⟨rfl, T⟩)⟩, ⟨_, _, rfl, (avl [89, 92, 86] rfl), fun _ _ _ T S => gy T rfl h73 (r_ia (ix := 10) T S rfl rfl rfl rfl tu22 ts36 h2901.1 h2901.2 rfl fun _ T => ⟨rfl, T⟩)⟩, ⟨_, _, rfl, (avl [93, 86] rfl), fun _ _ _ T S => gy T rfl h73 (r_faE T rfl tu36 rfl ts24 rfl fun _ T => ⟨rfl, T⟩)⟩, ⟨_, _, rfl, (avl [94, 86] rfl), fun _ _ _ T S => gy T rfl h73 (r_ldC (ix := 5) (A := A2) T S rfl rfl rfl ti24 rfl fun _ T => ⟨rfl, T⟩)⟩, ⟨_, _, rfl, (avl [95, 86] rfl), fun _ _ _ T S => gy T rfl h73 (r_b2s (ix := 4) (xs := ((gi daE x1 (wr .i64 ((x1.length : Int) - 1))).Key)) T S rfl rfl tu24 tu9 tu5 rfl fun _ T => ⟨rfl, T⟩)⟩, ⟨_, _, rfl, (avl [88, 96, 86] rfl), fun _ _ _ T S => gy T rfl h73 (v1 T rfl fun T => ⟨rfl, T⟩)⟩, ⟨_, _, rfl, (avl [86, 97] rfl), fun _ _ _ T S => pF T rfl h73 rfl rfl fun _ T => ⟨rfl, T⟩⟩, ⟨_, _, rfl, (avl [0, 99] rfl), fun _ _ _ T S => gy T rfl h74 (v1 T rfl fun T => ⟨rfl, T⟩)⟩, ⟨_, _, rfl, (avl [102, 99] rfl), fun _ _ _ T S => gy T rfl h74 (rn T rfl tu22 rfl fun _ T => ⟨rfl, T⟩)⟩, ⟨_, _, rfl, (avl [101, 103, 99] rfl), fun _ _ _ T S => gy T rfl h74 (v1 T rfl fun T => ⟨rfl, T⟩)⟩, ⟨_, _, rfl, (avl [99, 104] rfl), fun _ _ _ T S => pF T rfl h74 rfl rfl fun _ T => ⟨rfl, T⟩⟩, ⟨_, _, rfl, (avl [10, 106] rfl), fun _ _ _ T S => gy T rfl h75 (v1 T rfl fun T => ⟨rfl, T⟩)⟩, ⟨_, _, rfl, (avl [109, 106] rfl), fun _ _ _ T S => gy T rfl h75 (v1 T rfl fun T => ⟨rfl, T⟩)⟩, ⟨_, _, rfl, (avl [110, 106] rfl), fun _ _ _ T S => gy T rfl h75 (r_fa (o' := 1) T rfl tu50 rfl ts48 rfl rfl fun _ T => ⟨rfl, T⟩)⟩, ⟨_, _, rfl, (avl [111, 106] rfl), fun _ _ _ T S => gy T rfl h75 (lB (ix := 12) T S rfl ti48 rfl rfl rfl fun _ T => ⟨rfl, T⟩)⟩, ⟨_, _, rfl, (avl [112, 106] rfl), fun _ _ _ T S => gy T rfl h75 (rn T rfl tu48 rfl fun _ T => ⟨rfl, T⟩)⟩, ⟨_, _, rfl, (avl [108, 113, 106] rfl), fun _ _ _ T S => gy T rfl h75 (v1 T rfl fun T => ⟨rfl, T⟩)⟩, ⟨_, _, rfl, (avl [106, 114] rfl), fun _ _ _ T S => pF T rfl h75 rfl rfl fun _ T => ⟨rfl, T⟩⟩, ⟨_, _, rfl, (avl [115] rfl), fun _ _ _ T S => v1 T rfl fun T => ⟨rfl, T⟩⟩, ⟨_, _, rfl, (avl [13, 116] rfl), fun _ _ _ T S => gy T rfl h76 (v1 T rfl fun T => ⟨rfl, T⟩)⟩, trivial⟩ rfl (fun i hi => ?_) (fun h => by cases h)
       cases hi
       refine ⟨rfl, _, _, rfl, (avl [117, 116] rfl), fun u a w T S => ?_⟩
       refine gy T rfl h76 ?_
       obtain ⟨x4402, h4401, H⟩ := bd H
       refine rc T Try.call19 rfl rfl (s_Table_Reads.ok _ _ x3802.2 (S.sel (is := [0, 0, 0, 0]) rfl) _ h4401) ?_
       rintro _ _ ⟨A4404, k4405, A4406, k4407, A4408, k4409, rfl, S⟩
       refine ⟨_, rfl, fun _ T => ?_⟩
       replace S := S.join
       refine ⟨_, [some (.slice A53 x52.1.length k54, true), some (.string (bstr x52.1), true), (y4 A2 x1 k3), (y15 A2), (y12 A2), some ((y6 A2301 x1 k2302), true), (y16 x1), (y1 x52 x1), (y1 x52 x1), some (.slice A64 x63.1.length k65, true), some (.string (bstr x63.1), true), (y4 A2 x1 k3), (y4 A2 x1 k3), (y10 x1), (y18 x1), (y9 A2 x1), (y8 A2 x1), some ((y2 A3021 x1 k3022), true), (y7 x1), (y0 x63 x1), (y0 x63 x1), some (Value.bool (!((bstr x63.1).toList == (bstr ((gi daE x1 (wr .i64 ((x1.length : Int) - 1))).Key)).toList)), false), some ((y5 b38), false), some (Value.int .i64 x3382.1, false), (y4 A2 x1 k3), (y10 x1), (y13 x3382 x1), (y13 x3382 x1), some (Value.bool (x3382.1 != (x1.length : Int)), false), some ((y5 b38), false), some (Value.int .i64 x3802.1, false), some ((y11 b23), true), some ((y11 b23), true), some (.pointer (some ⟨b23, 1, none⟩), true), some (.slice A26 x21.Cut.length k27, true), some (.int .i64 (x21.Cut.length : Int), true), (y19 x3802 x21), (y19 x3802 x21), some (Value.bool (x3802.1 != (x21.Cut.length : Int)), false), some ((y5 b38), false), some (Value.int .i64 x4402.1, false), some (.bool (x4402.1 != 0), true), some (.bool (x4402.1 != 0), true)], [blk b38 [.slice A4404 x4402.2.b.length k4405, .slice A4406 x4402.2.blocks.length k4407, .slice A4408 x4402.2.filter.length k4409, .int .i64 x4402.2.count, .int .i64 x4402.2.reads], sl .ro ku8 A4404 k4405 x4402.2.b, sl .ro ks_block A4406 k4407 x4402.2.blocks, sl .ro ku8 A4408 k4409 x4402.2.filter, (y14 A3021 k3022 x1), (y17 A2 x1 A3021 k3022), sl .ro ku8 A2301 k2302 ((gi daE x1 0).Key), cl A2 (Int.toNat 0 * 4 + 0) [(y6 A2301 x1 k2302)], sl .own ku8 A64 k65 x63.1, sl .own ku8 A53 k54 x52.1, sl .ro kaE A2 k3 x1, (y20 m8 A6 k7 x5), (y3 b23 A24 x21 k25 A26 k27 A28 k29), sl .ro kaE A24 k25 x21.L, sl .ro ki64 A26 k27 x21.Cut, sl .ro ku8 A28 k29 x21.filter], rfl, (by repeat first | exact kx0 | apply kxs | apply kxn), rfl, ?_, T, S⟩
       refine stage none rfl rfl ⟨⟨_, _, rfl, (avl [16] rfl), fun _ _ _ T S => v1 T rfl fun T => ⟨rfl, T⟩⟩, ⟨_, _, rfl, (avl [78] rfl), fun _ _ _ T S => r_b2s (ix := 9) (xs := x52.1) T S rfl rfl tu24 tu9 tu5 rfl fun _ T => ⟨rfl, T⟩⟩, ⟨_, _, rfl, (avl [0] rfl), fun _ _ _ T S => v1 T rfl fun T => ⟨rfl, T⟩⟩, ⟨_, _, rfl, (avl [80] rfl), fun _ _ _ T S => r_ia (ix := 10) T S rfl rfl rfl rfl tu22 ts36 (by decide) h2181 rfl fun _ T => ⟨rfl, T⟩⟩, ⟨_, _, rfl, (avl [81] rfl), fun _ _ _ T S => r_faE T rfl tu36 rfl ts24 rfl fun _ T => ⟨rfl, T⟩⟩, ⟨_, _, rfl, (avl [82] rfl), fun _ _ _ T S => r_ldC (ix := 7) (A := A2) T S rfl rfl rfl ti24 rfl fun _ T => ⟨rfl, T⟩⟩, ⟨_, _, rfl, (avl [83] rfl), fun _ _ _ T S => r_b2s (ix := 6) (xs := ((gi daE x1 0).Key)) T S rfl rfl tu24 tu9 tu5 rfl fun _ T => ⟨rfl, T⟩⟩, ⟨_, _, rfl, (avl [79, 84] rfl), fun _ _ _ T S => v1 T rfl fun T => ⟨rfl, T⟩⟩, ⟨_, _, rfl, (avl [85] rfl), fun _ _ _ T S => v1 T rfl fun T => ⟨rfl, T⟩⟩, ⟨_, _, rfl, (avl [17, 86] rfl), fun _ _ _ T S => gy T rfl h73 (v1 T rfl fun T => ⟨rfl, T⟩)⟩, ⟨_, _, rfl, (avl [87, 86] rfl), fun _ _ _ T S => gy T rfl h73 (r_b2s (ix := 8) (xs := x63.1) T S rfl rfl tu24 tu9 tu5 rfl fun _ T => ⟨rfl, T⟩)⟩, ⟨_, _, rfl, (avl [0, 86] rfl), fun _ _ _ T S => gy T rfl h73 (v1 T rfl fun T => ⟨rfl, T⟩)⟩, ⟨_, _, rfl, (avl [0, 86] rfl), fun _ _ _ T S => gy T rfl h73 (v1 T rfl fun T => ⟨rfl, T⟩)⟩, ⟨_, _, rfl, (avl [90, 86] rfl), fun _ _ _ T S => gy T rfl h73 (rn T rfl tu22 rfl fun _ T => ⟨rfl, T⟩)⟩, ⟨_, _, rfl, (avl [91, 86] rfl), fun _ _ _ T S => gy T rfl h73 (v1 T rfl fun T => ⟨rfl, T⟩)⟩, ⟨_, _, rfl, (avl [89, 92, 86] rfl), fun _ _ _ T S => gy T rfl h73 (r_ia (ix := 10) T S rfl rfl rfl rfl tu22 ts36 h2901.1 h2901.2 rfl fun _ T => ⟨rfl, T⟩)⟩, ⟨_, _, rfl, (avl [93, 86] rfl), fun _ _ _ T S => gy T rfl h73 (r_faE T rfl tu36 rfl ts24 rfl fun _ T => ⟨rfl, T⟩)⟩, ⟨_, _, rfl, (avl [94, 86] rfl), fun _ _ _ T S => gy T rfl h73 (r_ldC (ix := 5) (A := A2) T S rfl rfl rfl ti24 rfl fun _ T => ⟨rfl, T⟩)⟩, ⟨_, _, rfl, (avl [95, 86] rfl), fun _ _ _ T S => gy T rfl h73 (r_b2s (ix := 4) (xs := ((gi daE x1 (wr .i64 ((x1.length : Int) - 1))).Key)) T S rfl rfl tu24 tu9 tu5 rfl fun _ T => ⟨rfl, T⟩)⟩, ⟨_, _, rfl, (avl [88, 96, 86] rfl), fun _ _ _ T S => gy T rfl h73 (v1 T rfl fun T => ⟨rfl, T⟩)⟩, ⟨_, _, rfl, (avl [86, 97] rfl), fun _ _ _ T S => pF T rfl h73 rfl rfl fun _ T => ⟨rfl, T⟩⟩, ⟨_, _, rfl, (avl [0, 99] rfl), fun _ _ _ T S => gy T rfl h74 (v1 T rfl fun T => ⟨rfl, T⟩)⟩, ⟨_, _, rfl, (avl [102, 99] rfl), fun _ _ _ T S => gy T rfl h74 (rn T rfl tu22 rfl fun _ T => ⟨rfl, T⟩)⟩, ⟨_, _, rfl, (avl [101, 103, 99] rfl), fun _ _ _ T S => gy T rfl h74 (v1 T rfl fun T => ⟨rfl, T⟩)⟩, ⟨_, _, rfl, (avl [99, 104] rfl), fun _ _ _ T S => pF T rfl h74 rfl rfl fun _ T => ⟨rfl, T⟩⟩, ⟨_, _, rfl, (avl [10, 106] rfl), fun _ _ _ T S => gy T rfl h75 (v1 T rfl fun T => ⟨rfl, T⟩)⟩, ⟨_, _, rfl, (avl [109, 106] rfl), fun _ _ _ T S => gy T rfl h75 (v1 T rfl fun T => ⟨rfl, T⟩)⟩, ⟨_, _, rfl, (avl [110, 106] rfl), fun _ _ _ T S => gy T rfl h75 (r_fa (o' := 1) T rfl tu50 rfl ts48 rfl rfl fun _ T => ⟨rfl, T⟩)⟩, ⟨_, _, rfl, (avl [111, 106] rfl), fun _ _ _ T S => gy T rfl h75 (lB (ix := 12) T S rfl ti48 rfl rfl rfl fun _ T => ⟨rfl, T⟩)⟩, ⟨_, _, rfl, (avl [112, 106] rfl), fun _ _ _ T S => gy T rfl h75 (rn T rfl tu48 rfl fun _ T => ⟨rfl, T⟩)⟩, ⟨_, _, rfl, (avl [108, 113, 106] rfl), fun _ _ _ T S => gy T rfl h75 (v1 T rfl fun T => ⟨rfl, T⟩)⟩, ⟨_, _, rfl, (avl [106, 114] rfl), fun _ _ _ T S => pF T rfl h75 rfl rfl fun _ T => ⟨rfl, T⟩⟩, ⟨_, _, rfl, (avl [118, 116] rfl), fun _ _ _ T S => gy T rfl h76 (v1 T rfl fun T => ⟨rfl, T⟩)⟩, ⟨_, _, rfl, (avl [116, 119] rfl), fun _ _ _ T S => pF T rfl h76 rfl rfl fun _ T => ⟨rfl, T⟩⟩, trivial⟩ rfl (fun i hi => by cases hi) (fun _ _ a w T hv hb S => ?_)
       replace T := T.sub (r := [(0, .slice A2 x1.length k3), (2, .slice A6 x5.length k7), (10, (y11 b23)), (13, (y5 b38)), (120, .bool (x4402.1 != 0))]) ⟨hb 0 _ rfl rfl, hb 2 _ rfl rfl, hb 10 _ rfl rfl, hb 13 _ rfl rfl, hv 42 _ 120 rfl rfl rfl, trivial⟩
       rcases ifE H with ⟨h77, H⟩ | ⟨h77, H⟩
       ·refine cdT T rfl h77 (sq ?_)
        exact J2_ok F r z x1 A2 k3 x5 A6 k7 m8 x4 _ _ (T.sub trivial) (S.only [10, 10] rfl) H
       ·refine cdF T rfl h77 (sk (sq (sq (rg (v1 T rfl fun T => bq (Gets.loop ?_))))))
        exact L3_ok F r z x1 A2 k3 x5 A6 k7 m8 b23 b38 x4 z 0 A24 x21.L k25 A26 x21.Cut k27 A28 x21.filter k29 x21.reads A4404 x4402.2.b k4405 A4406 x4402.2.blocks k4407 A4408 x4402.2.filter k4409 x4402.2.count x4402.2.reads _ _ (T.sb rfl) (S.only [10, 10, 10, 10, 10, 10, 0, 0, 0, 0] rfl) H
theorem J0_ok (F : List Atom) (r : Bool) (z : Nat) (x1 : List aE) (A2 : OA) (k3 : Nat) (x5 : List w4_Ask) (A6 : OA) (k7 : Nat) (m8 : Md) (x12 : Bool) (x4 : Int × Int) (a : Act) (w : World) (T : Tm 203 [(7, .bool x12)] a) (S : SL ([sl .ro kaE A2 k3 x1, (y20 m8 A6 k7 x5)] ++ F) w) (H : J0 z x12 = some r) : Gets Try.prog 5 ptJ0 a w (R F x1 A2 k3 x5 A6 k7 m8 r) := by
 refine rg (v2 T rfl rfl fun T => ?_)
 obtain rfl := sj H
 exact rtn T tf5 rfl rfl ⟨rfl, (S.only [0, 0] rfl)⟩
theorem ok (F : List Atom) (w : World) (z : Nat) (x1 : List aE) (x4 : Int × Int) (x5 : List w4_Ask) {A2 : OA} {k3 : Nat} {A6 : OA} {k7 : Nat} {m8 : Md} (S : SL ([sl .ro kaE A2 k3 x1, (y20 m8 A6 k7 x5)] ++ F) w) (r : Bool) (H : f z x1 x4 x5 = some r) : Calls Try.prog 5 #[.slice A2 x1.length k3, .agg #[.int .i64 x4.1, .int .i64 x4.2], .slice A6 x5.length k7] w (R F x1 A2 k3 x5 A6 k7 m8 r) := by
 refine enter (vs := [.slice A2 x1.length k3, .agg #[.int .i64 x4.1, .int .i64 x4.2], .slice A6 x5.length k7]) tf5 rfl Try.ntmps5 (nle rfl) fun a T => ?_
 refine sq (rg (r_box T S rfl (cs := [.int .i64 x4.1, .int .i64 x4.2]) rfl rfl fun _ _ b9 S T => ?_))
 replace S := S.asArr (κ := ki64) (xs := [x4.1, x4.2]) (i := 0) rfl (fun _ => ⟨_, _, rfl, rfl, ⟨_, _, rfl, rfl, rfl⟩⟩) rfl
 have h10 : ([x4.1, x4.2] : List Int).length = 2 := rfl
 refine v1 T rfl fun T => sq (rg ?_)
 obtain ⟨x12, h11, H⟩ := bd H
 refine rc T Try.call6 rfl rfl (w4_shown.ok _ _ z  (S.sel (is := []) rfl) _ h11) ?_
 rintro _ _ ⟨rfl, S⟩
 refine ⟨_, rfl, fun _ T => ?_⟩
 replace S := S.join
 refine v1 T rfl fun T => sq (rg (v1 T rfl fun T => ?_))
 refine r_iaA T rfl rfl Try.runUnderlying41 ts3 (by decide) (by decide) rfl fun _ T => ?_
 refine r_ldE (ix := 0) (i := 0) (off := 0) (A := (some ⟨b9, 0, none⟩)) (f := (Value.int .i64)) T S rfl ti3 rfl (0 : Int) _ rfl rfl (Fld.all _) (by decide) (by have q1_ : (0 : Int) < 2 := (by decide); have q2_ := h10; omega) id rfl fun _ T => ?_
 refine r_iaA T rfl rfl Try.runUnderlying41 ts3 (by decide) (by decide) rfl fun _ T => ?_
 refine r_ldE (ix := 0) (i := 1) (off := 0) (A := (some ⟨b9, 0, none⟩)) (f := (Value.int .i64)) T S rfl ti3 rfl (0 : Int) _ rfl rfl (Fld.all _) (by decide) (by have q1_ : (1 : Int) < 2 := (by decide); have q2_ := h10; omega) id rfl fun _ T => ?_
 replace S := S.dup (i := 1) rfl
 obtain ⟨x14, h13, H⟩ := bd H
 refine rc T Try.call13 rfl rfl (r4_Build.ok _ _ z x1 (gi (0 : Int) [x4.1, x4.2] 0) (gi (0 : Int) [x4.1, x4.2] 1) (S.sel (is := [0]) rfl) _ h13) ?_
 rintro _ _ ⟨A15, k16, rfl, S⟩
 refine ⟨_, rfl, fun _ T => ?_⟩
 replace S := S.join.only [0, 1, 1, 1] rfl
 refine v3 T rfl rfl rfl fun T => v2 T rfl rfl fun T => sq (sq (rg (v3 T rfl rfl rfl fun T => ?_)))
 rcases ifE H with ⟨h17, H⟩ | ⟨h17, H⟩
 ·refine gn T rfl h17 fun T => gn T rfl h17 fun T => pT T rfl h17 rfl rfl fun _ T => cdT T rfl rfl (sq ?_)
  exact J0_ok F r z x1 A2 k3 x5 A6 k7 m8 x12 x4 _ _ (T.sb rfl) (S.only [2, 2] rfl) H
 ·refine gy T rfl h17 (v1 T rfl fun T => gy T rfl h17 (v1 T rfl fun T => pF T rfl h17 rfl rfl fun _ T => ?_))
  rcases ifE H with ⟨h18, H⟩ | ⟨h18, H⟩
  ·refine cdT T rfl h18 (sq ?_)
   exact J0_ok F r z x1 A2 k3 x5 A6 k7 m8 x12 x4 _ _ (T.sb rfl) (S.only [2, 2] rfl) H
  ·refine cdF T rfl h18 (sk (sq (rg (v1 T rfl fun T => ?_))))
   replace S := S.fixL (i := 0) rfl rfl
   obtain ⟨x20, h19, H⟩ := bd H
   rcases omE H with ⟨h22, H⟩ | ⟨x21, h22, H⟩
   ·refine rc T Try.call14 rfl rfl (r4_Open.ok _ _ z x14.1 (S.sel (is := [0]) rfl) _ h19) ?_
    intro _ _ hR_
    obtain ⟨rfl, S⟩ := omN h22 hR_
    refine ⟨_, rfl, fun _ T => ?_⟩
    replace S := S.join
    cases H
   ·refine rc T Try.call14 rfl rfl (r4_Open.ok _ _ z x14.1 (S.sel (is := [0]) rfl) _ h19) ?_
    intro _ _ hR_
    obtain ⟨b23, A24, k25, A26, k27, A28, k29, rfl, S⟩ := omS h22 hR_
    refine ⟨_, rfl, fun _ T => ?_⟩
    replace S := S.join
    refine v3 T rfl rfl rfl fun T => v1 T rfl fun T => ?_
    refine v1 T rfl fun T => sq (rg (r_bsl (κ := ku8) (xs := ([] : List Int)) (vs := []) T S sty24 rfl rfl rfl (by decide) rfl fun _ _ b30 S T => ?_))
    refine v1 T rfl fun T => ?_
    obtain ⟨h33, H⟩ := ck H
    refine r_app (ix := 0) (iy := 5) (xs := ([] : List Int)) (ys := x14.1) T S rfl rfl rfl rfl (by decide) sty24 tu24 (by decide) h33 rfl fun _ _ A31 k32 S T => ?_
    refine v1 T rfl fun T => sq (rg (v1 T rfl fun T => ?_))
    obtain ⟨x35, h34, H⟩ := bd H
    rcases omE H with ⟨h37, H⟩ | ⟨x36, h37, H⟩
    ·refine rc T tc8 rfl rfl (s_Open.ok _ _ z (([] : List Int) ++ x14.1) (S.sel (is := [0]) rfl) _ h34) ?_
     intro _ _ hR_
     obtain ⟨rfl, S⟩ := omN h37 hR_
     refine ⟨_, rfl, fun _ T => ?_⟩
     replace S := S.join
     cases H
    ·refine rc T tc8 rfl rfl (s_Open.ok _ _ z (([] : List Int) ++ x14.1) (S.sel (is := [0]) rfl) _ h34) ?_
     intro _ _ hR_
     obtain ⟨b38, A39, k40, A41, k42, A43, k44, rfl, S⟩ := omS h37 hR_
     refine ⟨_, rfl, fun _ T => ?_⟩
     replace S := S.join
     refine v3 T rfl rfl rfl fun T => v2 T rfl rfl fun T => sq (sq (rg (v3 T rfl rfl rfl fun T => ?_)))
     rcases ifE H with ⟨h45, H⟩ | ⟨h45, H⟩
     ·refine gn T rfl h45 fun T => gn T rfl h45 fun T => pT T rfl h45 rfl rfl fun _ T => cdT T rfl rfl (sq (rg (v1 T rfl fun T => ?_)))
      obtain rfl := sj H
      exact rtn T tf5 rfl rfl ⟨rfl, (S.only [11, 11] rfl)⟩
     ·refine gy T rfl h45 (v1 T rfl fun T => gy T rfl h45 (r_ptrNil10e T rfl rfl Try.runUnderlying28 rfl fun _ T => pF T rfl h45 rfl rfl fun _ T => cdF T rfl rfl (sk (sq (sq (rg (v1 T rfl fun T => bq (Gets.loop ?_))))))))
      exact L1_ok F r z x1 A2 k3 x5 A6 k7 m8 b23 b38 A24 x21 k25 A26 k27 A28 k29 A39 x36 k40 A41 k42 A43 k44 x4 z A31 (([] : List Int) ++ x14.1) k32 0 _ _ (T.sb rfl) (S.only [11, 11, 5, 5, 5, 5, 4, 0, 0, 0, 0] rfl) H
end w4_SstableFinds
theorem mark_g {z : Nat} (hz : 16777216 ≤ z) {e : aE} (hk : e.Key.length ≤ 16777215) (hv : e.Value.length ≤ 16777215) : w4_mark.f z e = some () :=
 mark_L0 hz hv e.Key.length z 0 e.Key rfl hk (by omega) (by omega)
section
variable {l : List aE} {bb pk : Int} {b : List Int} {gs : List (List aE)} (t : Tab l bb pk b gs)
include t
theorem Tab.finds_L3 {z : Nat} (hz : 16777216 ≤ z) {asks : List w4_Ask} (ha : ∀ a ∈ asks, Bys a.Key ∧ a.Key.length ≤ 16777215) : ∀ (k m i : Nat) (r : Int), 100 - i = k → i ≤ 100 → k < m →
  w4_SstableFinds.L3 z l asks m (i : Int) l (cutsS gs) (mkS (keysL l) pk) r b (tblocks 0 gs) (mkS (keysL l) pk) l.length r = some true
 | k, 0, _, _, _, _, h => by omega
 | k, m + 1, i, r, hk, hi, hm => by
  have hln := t.len
  rw [w4_SstableFinds.L3]
  by_cases h1 : i < asks.length
  ·rw [if_y (by rw [decide_eq_true_iff]; omega)]
   by_cases h2 : i < 100
   ·rw [if_y (by rw [decide_eq_true_iff]; omega), ck_y (by omega), gi_nat _ _ _ h1]
    obtain ⟨a1, a2⟩ := ha _ (List.getElem_mem h1)
    have next := fun r' => Tab.finds_L3 hz ha (k - 1) m (i + 1) r' (by omega) (by omega) (by omega)
    cases hs : (asks[i]).Scan with
    | true =>
     rw [if_t, wI (x := (l.length : Int) + 1) (by omega)]
     obtain ⟨most, hmost⟩ : ∃ most : Nat, mx 1 (mn (asks[i]).Most ((l.length : Int) + 1)) = most := ⟨(mx 1 (mn (asks[i]).Most ((l.length : Int) + 1))).toNat, by unfold mx mn; split <;> split <;> omega⟩
     have hm1 : 1 ≤ most ∧ most ≤ 100000 := by unfold mx mn at hmost; split at hmost <;> split at hmost <;> omega
     rw [hmost]
     obtain ⟨out, r', e1, e2, e3, e4⟩ := t.scan hz a1 a2 hm1.1 hm1.2 r
     rw [e1, bd_some, e2, bd_some]
     dsimp only
     rw [same_f hz (fun e he => t.oe e (e3 e he)) (by omega), bd_some, if_n (by rfl)]
     unfold s_Table_Reads.f r4_Table_Reads.f
     rw [bd_some, bd_some]
     dsimp only
     rw [if_n (by simp), wI (by omega)]
     exact next r'
    | false =>
     rw [if_f]
     obtain ⟨x, fd, r', e1, e2, e3⟩ := t.get hz a1 a2 (asks[i]).Seq r
     rw [e1, bd_some, e2, bd_some]
     dsimp only
     have hx : okE x ∧ x.Key.length ≤ 16777215 ∧ x.Value.length ≤ 16777215 := by
      rcases e3 with rfl | q
      ·exact ⟨⟨Bys.nil, by decide, Bys.nil⟩, by decide, by decide⟩
      ·have f := t.fit x q
       exact ⟨t.oe x q, by have := f.2.2.1; omega, by have := f.2.2.2.2.2; omega⟩
     rw [sameOne_f hx.1, bd_some, mark_g hz hx.2.1 hx.2.2, bd_some, if_n (by simp), if_n (by rfl)]
     unfold s_Table_Reads.f r4_Table_Reads.f
     rw [bd_some, bd_some]
     dsimp only
     rw [if_n (by simp), wI (by omega)]
     exact next r'
   ·rw [if_n (by rw [decide_eq_false_iff_not]; omega)]; rfl
  ·rw [if_n (by rw [decide_eq_false_iff_not]; omega)]; rfl
theorem Tab.finds_L1 {z : Nat} (hz : 16777216 ≤ z) {asks : List w4_Ask} (ha : ∀ a ∈ asks, Bys a.Key ∧ a.Key.length ≤ 16777215) : ∀ (k m i : Nat) (xs : List Int), xs.length - i = k → i ≤ xs.length → xs.length ≤ 4194304 → k < m →
  w4_SstableFinds.L1 z l asks ⟨l, cutsS gs, mkS (keysL l) pk, 0⟩ ⟨b, tblocks 0 gs, mkS (keysL l) pk, l.length, 0⟩ m xs (i : Int) = some true
 | k, 0, _, _, _, _, _, h => by omega
 | k + 1, m + 1, i, xs, hk, hi, hx, hm => by
  rw [w4_SstableFinds.L1, if_y (by rw [decide_eq_true_iff]; omega), ck_y (by omega), wI (by omega)]
  exact Tab.finds_L1 hz ha k m (i + 1) _ (by rw [List.length_set]; omega) (by rw [List.length_set]; omega) (by rw [List.length_set]; omega) (by omega)
 | 0, m + 1, i, xs, hk, hi, hx, hm => by
  have hln := t.len
  have hne := List.length_pos_iff.2 t.ne
  rw [w4_SstableFinds.L1, if_n (by rw [decide_eq_false_iff_not]; omega), t.first, bd_some]
  dsimp only
  rw [t.last, bd_some]
  dsimp only
  rw [if_n (by simp), wI (by omega), if_n (by simp), ck_y (by omega), ck_y (by omega)]
  unfold s_Table_Count.f s_Table_Blocks.f s_Table_Reads.f
  rw [bd_some]
  dsimp only
  rw [if_n (by simp), bd_some]
  dsimp only
  rw [if_n (by rw [tblocks_len, cutsS_len]; simp), bd_some]
  dsimp only
  rw [if_n (by rfl)]
  exact t.finds_L3 hz ha 100 z 0 0 rfl (by omega) (by omega)
end
theorem finds_plain {l : List aE} (hx : ∀ e ∈ l, okE e) (x4 : Int × Int) {asks : List w4_Ask} (ha : ∀ a ∈ asks, Bys a.Key ∧ a.Key.length ≤ 16777215) : w4_SstableFinds.f 16777216 l x4 asks = some true := by
 have hz : 16777216 ≤ 16777216 := Nat.le_refl _
 obtain ⟨bb, pk⟩ := x4
 have hb0 : gi (0 : Int) [bb, pk] 0 = bb := rfl
 have hb1 : gi (0 : Int) [bb, pk] 1 = pk := rfl
 unfold w4_SstableFinds.f w4_SstableFinds.J0
 dsimp only
 rw [shown_true, bd_some, hb0, hb1, Bool.not_true]
 obtain ⟨y, hy, hyp⟩ : ∃ y, r4_Build.f 16777216 l bb pk = some y ∧ (y.2 ≠ 0 ∨ (y.2 = 0 ∧ buildS l bb pk = y ∧ (∀ e ∈ l, fitS e) ∧ l ≠ [] ∧ l.length ≤ 65536 ∧ (64 ≤ bb ∧ bb ≤ 65536) ∧ (1 ≤ pk ∧ pk ≤ 30) ∧ chk none l = none ∧ y.1 = finS (groups bb l) l bb pk ∧ y.1.length ≤ 4194304)) := refBuild_ok hz hx bb pk
 rw [hy, bd_some, if_f]
 rcases hyp with q | ⟨y2, hB, hfit, hne, hlen, hbb, hpk, hchk, hfin, hbl⟩
 ·rw [if_y (by simpa using q)]
 ·obtain ⟨b, e⟩ := y
  dsimp only at y2 hfin hbl ⊢
  subst y2
  have hga := groups_all hbb.2 hfit hne
  have t : Tab l bb pk b (groups bb l) := ⟨hx, hfit, hne, hlen, hbb, hpk, chk_sorted hx hchk, hga.1, hga.2, by rw [hfin, fin_eq], hbl, hB, rfl⟩
  rw [if_n (by rfl), t.refOpen hz hy, bd_some]
  dsimp only [Om]
  rw [ck_y (by simp; omega), List.nil_append, t.open_ hz, bd_some]
  dsimp only [Om]
  rw [if_n (by rfl)]
  exact t.finds_L1 hz ha b.length 16777216 0 b rfl (by omega) hbl (by omega)
end Go.Proofs.Ytghpokmkhlmgcaa
namespace Go.Proofs.Ytghpokmkhlmgcaa
open Go Go.ChangeShapes Go.WideShapes Go.ChangeAt Go.RowKit Go.Proofs.Ytghpokmkhlmgcaa.X
set_option linter.unusedVariables false
set_option linter.unusedSimpArgs false
set_option maxRecDepth 100000
set_option maxHeartbeats 4000000
theorem Try.own : ownKnob Try.prog.godebug = none := by kernel_rfl
theorem Try.laidOut : laidOutB Try.prog = true := by kernel_rfl
theorem rdBytes : Rd (kSl ku8) Try.prog 24 (fun xs => xs.length ≤ maxLen ∧ ∀ x ∈ xs, (Lit.int .u8 x).wf = true) := (Rd.int (by kernel_rfl) (by kernel_rfl)).slice (e := 5) (by kernel_rfl) (by kernel_rfl)
def okBytes (xs : List Int) : Prop := xs.length ≤ maxLen ∧ ∀ b ∈ xs, (Lit.int .u8 b).wf = true
def okEntry (x : aE) : Prop := okBytes x.Key ∧ (Lit.int .u64 x.Seq).wf = true ∧ okBytes x.Value
theorem rdEntry : Rd kaE Try.prog 36 okEntry :=
 Rd.iso (g := fun p => ⟨p.1, p.2.1, p.2.2.1, p.2.2.2⟩) (Rd.struct Try.underlying36 (by kernel_rfl) (by decide)
  (RdF.cons rdBytes rfl (RdF.cons (Rd.int (P := Try.prog) (k := .u64) (by kernel_rfl) (by kernel_rfl)) rfl (RdF.cons (Rd.bool (P := Try.prog) (by kernel_rfl) (by kernel_rfl)) rfl (RdF.last rdBytes rfl))))) (fun _ => rfl) (fun _ h => ⟨h.1, h.2.1, h.2.2.2⟩)
theorem rdEntries : Rd (kSl kaE) Try.prog 22 (fun xs => xs.length ≤ maxLen ∧ ∀ x ∈ xs, okEntry x) := rdEntry.slice (by kernel_rfl) (by kernel_rfl)
theorem rbBytes : Rb (kSl ku8) Try.prog 24 (fun n xs => xs.length ≤ n ∧ ∀ x ∈ xs, (Lit.int .u8 x).wf = true) := (Rb.int (by kernel_rfl) (by kernel_rfl)).slice (e := 5) (by kernel_rfl) (by kernel_rfl)
def bAsk (n : Nat) (x : w4_Ask) : Prop := x.Key.length ≤ n ∧ ∀ b ∈ x.Key, (Lit.int .u8 b).wf = true
theorem rbAsk : Rb kw4_Ask Try.prog 52 bAsk :=
 Rb.iso (g := fun p => ⟨p.1, p.2.1, p.2.2.1, p.2.2.2⟩) (Rb.struct Try.underlying52 (by kernel_rfl) (by decide)
  (RbF.cons rbBytes rfl (RbF.cons (Rb.int (P := Try.prog) (k := .u64) (by kernel_rfl) (by kernel_rfl)) rfl (RbF.cons (Rb.bool (P := Try.prog) (by kernel_rfl) (by kernel_rfl)) rfl (RbF.last (Rb.int (P := Try.prog) (k := .i64) (by kernel_rfl) (by kernel_rfl)) rfl)))))
  (fun _ => rfl) (fun _ _ h => h.1) (fun a h => ⟨Nat.le_trans h.1 a, h.2⟩)
theorem int_of_wf {k : IntKind} {n : Int} (h : (Lit.int k n).wf = true) : k.min ≤ n ∧ n ≤ k.max := by simpa [Lit.wf] using h
theorem bys_of {xs : List Int} (h : ∀ b ∈ xs, (Lit.int .u8 b).wf = true) : Bys xs := fun x hx => by
 have := int_of_wf (h x hx)
 have h1 : IntKind.u8.min = 0 := by decide
 have h2 : IntKind.u8.max = 255 := by decide
 omega
theorem okE_of {e : aE} (h : okEntry e) : okE e := ⟨bys_of h.1.2, by
 have := int_of_wf h.2.1
 have h1 : IntKind.u64.min = 0 := by decide
 have h2 : IntKind.u64.max = 18446744073709551615 := by decide
 omega, bys_of h.2.2.2⟩
theorem okWide_arr {P : Program} {w : World} {r : Reach} {base : Nat} {t : TypeId} {v : Value} {n : Nat} {e : TypeId} (ht : P.underlying t = some (.array n e)) (h : Value.okWide P w r base t v) : ∃ cs, v = .agg cs := by
 simp only [Value.okWide, ht] at h
 obtain ⟨cs, h1, _⟩ := h
 exact ⟨cs, h1⟩
set_option maxRecDepth 100000 in
theorem arr_two {H : Type} {enc : TypeId × Value → H} {W : World} {n : Nat} {cs : List Value} {x : DataW H × List MemPlace} (h : DataW.trod enc Try.prog W 0 (fun _ => true) true n 41 cs = some x) : ∃ a b, cs = [.int .i64 a, .int .i64 b] := by
 obtain ⟨xs, m, rfl, rfl, hl, hn, hf⟩ := DataW.trod_array Try.underlying41 h
 have h2 : Try.prog.cellsOf 41 = 2 := by kernel_rfl
 have h1 : Try.prog.cellsOf 3 = 1 := by kernel_rfl
 rw [h2] at hl
 rcases cs with _ | ⟨c0, _ | ⟨c1, _ | ⟨c2, cs⟩⟩⟩
 ·exact absurd hl (by simp)
 ·exact absurd hl (by simp)
 ·have e0 := hf 0 (by decide)
  have e1 := hf 1 (by decide)
  rw [h1, List.getElem?_eq_getElem (by omega)] at e0 e1
  obtain ⟨a, ha, _⟩ := DataW.trod_int Try.underlying3 e0
  obtain ⟨b, hb, _⟩ := DataW.trod_int Try.underlying3 e1
  have ha : [c0] = [Value.int .i64 a] := ha
  have hb : [c1] = [Value.int .i64 b] := hb
  refine ⟨a, b, ?_⟩
  rw [List.cons.inj ha |>.1, List.cons.inj hb |>.1]
 ·simp at hl
noncomputable def emptyWorld (os : Os) : World := World.holding Try.prog os ⟨#[], #[], []⟩
theorem laid_met (os : Os) : laidMet Try.prog Rows.sstableFindsUptoRow.laid ((emptyWorld os).forCall (fun _ _ => 0) ⟨#[], #[.slice none 0 0, .agg #[.int .i64 0, .int .i64 0], .slice none 0 0], []⟩).memory :=
 laidMet_of_run' 8 (by kernel_rfl) (by kernel_rfl)
theorem reads (os : Os) {H : Type} (enc : TypeId × Value → H) : ∃ places, DataW.whole enc Try.prog ((emptyWorld os).forCall (fun _ _ => 0) ⟨#[], #[.slice none 0 0, .agg #[.int .i64 0, .int .i64 0], .slice none 0 0], []⟩).memory Try.f5.params.toList Rows.sstableFindsSpec.vars false (#[.slice none 0 0, .agg #[.int .i64 0, .int .i64 0], .slice none 0 0] : Array Value).toList 8 = some ([.nil, .agg [.lit (.int .i64 0), .lit (.int .i64 0)], .nil], [], places) :=
 ⟨[], by kernel_rfl⟩
set_option maxRecDepth 100000 in
theorem lifted (os : Os) (started : os.Started) (H : Type) (enc : TypeId × Value → H) (F : Stop.Interp) :
  ReturnsInHanded {} Try.checked os 5 .any ((Rows.OpenSpec.upto Rows.sstableFindsSpec).preRow enc Try.prog Try.f5 Rows.sstableFindsUptoRow.domain false Rows.sstableFindsUptoRow.laid) (((Rows.OpenSpec.upto Rows.sstableFindsSpec).at F).post enc Try.prog Try.f5 false true false false) := by
 obtain ⟨places, hx⟩ := reads os enc
 refine returnsInHanded_of_row (C := Try.checked) (s := Rows.OpenSpec.upto Rows.sstableFindsSpec) Try.own started (by kernel_rfl) Try.func5
  (witness_row_at (enc := enc) (C := Try.checked) false (emptyWorld os) #[.slice none 0 0, .agg #[.int .i64 0, .int .i64 0], .slice none 0 0] rfl (by kernel_rfl) (by kernel_rfl) (by kernel_rfl)
   (OpenSpec.preRow_of_cond 8 hx (by kernel_rfl) (fun k hk => by cases hk; kernel_rfl) (by kernel_rfl) (laid_met os))) ?_
 intro W base args ds gs before hval0 hW _ hcond _ hL _ _
 have hval : ∀ (j : Nat) t v, Try.f5.params[j]? = some t → args[j]? = some v → Value.okWide Try.prog W .any base t v := hval0
 have hW' : DataW.Whole enc Try.prog Try.f5.params.toList Rows.sstableFindsSpec.vars false W args.toList ds gs before := hW
 obtain ⟨p, q, hA0, hV, rfl, hfz, hnd⟩ := hW'
 have hW' : DataW.Whole enc Try.prog Try.f5.params.toList Rows.sstableFindsSpec.vars false W args.toList ds gs (p ++ q) := hW
 have hA : DataW.TrodAll enc Try.prog W 0 (fun _ => true) true Try.f5.params.toList args.toList ds p := hA0
 rw [Try.params5] at hA hval
 obtain ⟨v0, v1, v2, d0, d1, d2, p0, p1, p2, rfl, rfl, rfl, h0, h1, h2⟩ := trodAll_three hA
 obtain ⟨rfl, rfl⟩ := trodVars_none hV
 have hb : Rows.uptoSmall H ([d0, d1, d2] ++ []) = true := hcond _ rfl
 have hb := of_decide_eq_true hb
 simp only [List.append_nil, Rows.uptoBulkAll] at hb
 obtain ⟨A, m, c, rfl⟩ := okWide_slice Try.underlying22 (hval 0 22 v0 rfl rfl)
 obtain ⟨_, hn0⟩ := h0
 obtain ⟨x1, ⟨A', c', he, hro⟩, hlen, hall⟩ := rdEntries.rd hn0
 have he' : [Value.slice A m c] = [.slice A' x1.length c'] := he
 obtain ⟨rfl, rfl, rfl⟩ : A = A' ∧ m = x1.length ∧ c = c' := by simpa using he'
 obtain ⟨cs, rfl⟩ := okWide_arr Try.underlying41 (hval 1 41 v1 rfl rfl)
 obtain ⟨_, hn1⟩ := h1
 obtain ⟨a, b, hcs⟩ := arr_two hn1
 have hcs : cs.toList = [.int .i64 a, .int .i64 b] := hcs
 obtain rfl : cs = #[.int .i64 a, .int .i64 b] := Array.ext' hcs
 obtain ⟨B, m2, c2, rfl⟩ := okWide_slice Try.underlying42 (hval 2 42 v2 rfl rfl)
 obtain ⟨_, hn2⟩ := h2
 obtain ⟨x5, ⟨B', c2', he2, hro2⟩, hlen2, hall2⟩ := (rbAsk.slice (t := 42) (by kernel_rfl) (by kernel_rfl)).rd hn2
 have he2' : [Value.slice B m2 c2] = [.slice B' x5.length c2'] := he2
 obtain ⟨rfl, rfl, rfl⟩ : B = B' ∧ m2 = x5.length ∧ c2 = c2' := by simpa using he2'
 have hasks : ∀ a ∈ x5, Bys a.Key ∧ a.Key.length ≤ 16777215 := fun a ha => ⟨bys_of (hall2 a ha).2, Nat.le_trans (hall2 a ha).1 (by dsimp only; omega)⟩
 have hrow := fun (W' : World) (hb : Below W.heap.size W W') => row_true (s := Rows.sstableFindsSpec) (f := Try.f5) (t := 4) Try.laidOut hW' rfl ⟨rfl, rfl, rfl⟩
  (by rw [Try.params5]; decide +kernel) rfl (by kernel_rfl) hb
 refine (w4_SstableFinds.ok [X.snap W] W 16777216 x1 (a, b) x5 (m8 := .ro) (SL.start [sl .ro kaE A c x1, sl .ro kw4_Ask B c2 x5] (fun Z hZ => by
  simp only [List.mem_cons, List.not_mem_nil, or_false] at hZ
  rcases hZ with rfl | rfl
  ·exact hro
  ·exact hro2)) true (finds_plain (fun e he => okE_of (hall e he)) (a, b) hasks)).mono fun e W' h => ?_
 obtain ⟨rfl, S⟩ := h
 have hb := SL.done (l := [sl .ro kaE A c x1, sl .ro kw4_Ask B c2 x5]) S
 exact ⟨_, rfl, hrow W' hb⟩
theorem finds_holds : Rows.SstableFindsUptoSaid :=
 OpenClaim.holds_of_cond 5 Try.f5 rfl rfl rfl rfl rfl rfl rfl ⟨rfl, rfl, rfl, rfl, rfl⟩ rfl rfl rfl rfl rfl (by kernel_rfl) Try.func5 (by kernel_rfl)
  (of_decide_eq_true (by kernel_rfl)) (by unfold Func.isWrapper; first | (rw [if_pos (by decide +kernel)]; kernel_rfl) | (rw [if_neg (by decide +kernel)]; exact ⟨rfl, rfl⟩))
  (fun os started H enc _ F => by rw [OpenClaim.pre_eq_preRow]; exact lifted os started H enc F)
end Go.Proofs.Ytghpokmkhlmgcaa
