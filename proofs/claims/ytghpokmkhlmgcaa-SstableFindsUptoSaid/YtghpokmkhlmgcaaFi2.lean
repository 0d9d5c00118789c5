/- A Go function: the Lean function that it comes to, and the proof. -/
import Derived.Test.YtghpokmkhlmgcaaFi1
namespace Go.Proofs.Ytghpokmkhlmgcaa
open Go Go.Proofs.Ytghpokmkhlmgcaa.X
set_option linter.unusedVariables false
set_option linter.unusedSimpArgs false
set_option maxRecDepth 100000
set_option maxHeartbeats 4000000
namespace slices_Concat_byte
noncomputable def c0 : Code := match Try.f58.body with | some c => c | none => .skip
def R (F : List Atom) (x1 : List (List Int)) (A2 : OA) (k3 : Nat) (m4 : Md) (r : (List Int)) : Ending → World → Prop := fun e w' => ∃ (A27 : OA), ∃ (k28 : Nat), e = .returned (.slice A27 r.length k28) ∧ SL ([sl .own ku8 A27 k28 r, sl m4 (kSl ku8) A2 k3 x1] ++ F) w'
def L1 (z : Nat) (x1 : List (List Int)) : Nat → (List Int) → Int → Option (List Int)
 | 0, _, _ => none
 | m + 1, x12, x15 => If (decide (x15 < (x1.length : Int))) (Ck (0 ≤ x15 ∧ x15 < (x1.length : Int)) (Ck ((x12.length + (gi [] x1 x15).length) * 1 ≤ 140737488355328) (L1 z x1 m (x12 ++ (gi [] x1 x15)) (wr .i64 (x15 + 1))))) (some x12)
def L0 (z : Nat) (x1 : List (List Int)) : Nat → Int → Int → Option (List Int)
 | 0, _, _ => none
 | m + 1, x5, x6 => If (decide (x6 < (x1.length : Int))) (Ck (0 ≤ x6 ∧ x6 < (x1.length : Int)) (If (decide ((wr .i64 (x5 + ((gi [] x1 x6).length : Int))) < 0)) (none) (L0 z x1 m (wr .i64 (x5 + ((gi [] x1 x6).length : Int))) (wr .i64 (x6 + 1))))) (Bd (slices_Grow_byte.f x5) fun x9 => L1 z x1 z x9 0)
def f (z : Nat) (x1 : List (List Int)) : Option (List Int) := L0 z x1 z 0 0
noncomputable def ptL1 : List Item := [.code (cB (cB (cR (cL (cr 4 c0))))), .inLoop (cB (cB (cR (cL (cr 4 c0))))), .inBlock 2, .code (cr 5 c0)]
noncomputable def ptL0 : List Item := [.code (cB (cB (cR (cL (cR (cR c0)))))), .inLoop (cB (cB (cR (cL (cR (cR c0)))))), .inBlock 0, .code (cr 3 c0)]
theorem L1_ok (F : List Atom) (r : (List Int)) (z : Nat) (x1 : List (List Int)) (A2 : OA) (k3 : Nat) (m4 : Md) (m : Nat) : ∀ (A13 : OA) (x12 : List Int) (k14 : Nat) (x15 : Int) (a : Act) (w : World), Tm 36 [(6, .slice A13 x12.length k14), (25, .slice A2 x1.length k3), (26, .int .i64 (x1.length : Int)), (27, .int .i64 x15)] a → SL ([sl m4 (kSl ku8) A2 k3 x1, sl .own ku8 A13 k14 x12] ++ F) w → L1 z x1 m x12 x15 = some r → Gets Try.prog 58 ptL1 a w (R F x1 A2 k3 m4 r) := by
 induction m with
 | zero => intro _ _ _ _ _ _ _ _ H; cases H
 | succ m ih =>
  intro A13 x12 k14 x15 a w T S H
  refine sq (rg (v1 T rfl fun T => sq ?_))
  rcases ifE H with ⟨h16, H⟩ | ⟨h16, H⟩
  ·refine cdT T rfl h16 (sk (sq (bq (sq (rg ?_)))))
   obtain ⟨h17, H⟩ := ck H
   refine r_ia (ix := 0) T S rfl rfl rfl rfl tu62 ts24 h17.1 h17.2 rfl fun _ T => r_ldR (ix := 0) (i := x15) (off := 0) T S rfl ti24 rfl [] _ rfl rfl (Fld.all _) h17.1 h17.2 rfl rfl fun _ _ S T => ?_
   obtain ⟨A18, k19, hv_, S_⟩ := S.ofVal
   subst hv_
   replace S := S_
   refine v1 T rfl fun T => rg (v2 T rfl rfl fun T => ?_)
   obtain ⟨h22, H⟩ := ck H
   refine r_app (ix := 2) (iy := 0) (xs := x12) (ys := (gi [] x1 x15)) T S rfl rfl rfl rfl (by decide) sty24 tu24 (by decide) h22 rfl fun _ _ A20 k21 S T => ?_
   refine v1 T rfl fun T => Gets.inBlock (rg (v2 T rfl rfl fun T => Gets.inLoop ?_))
   exact ih A20 (x12 ++ (gi [] x1 x15)) k21 (wr .i64 (x15 + 1)) _ _ (T.sb rfl) (S.only [1, 1] rfl) H
  ·refine cdF T rfl h16 (Gets.exit rfl (sq (rg (v2 T rfl rfl fun T => ?_))))
   obtain rfl := sj H
   exact rtn T Try.func58 rfl rfl ⟨A13, k14, rfl, (S.only [1, 0] rfl)⟩
theorem L0_ok (F : List Atom) (r : (List Int)) (z : Nat) (x1 : List (List Int)) (A2 : OA) (k3 : Nat) (m4 : Md) (m : Nat) : ∀ (x5 x6 : Int) (a : Act) (w : World), Tm 36 [(0, .slice A2 x1.length k3), (3, .int .i64 x5), (9, .slice A2 x1.length k3), (10, .int .i64 (x1.length : Int)), (11, .int .i64 x6)] a → SL ([sl m4 (kSl ku8) A2 k3 x1] ++ F) w → L0 z x1 m x5 x6 = some r → Gets Try.prog 58 ptL0 a w (R F x1 A2 k3 m4 r) := by
 induction m with
 | zero => intro _ _ _ _ _ _ H; cases H
 | succ m ih =>
  intro x5 x6 a w T S H
  refine sq (rg (v1 T rfl fun T => sq ?_))
  rcases ifE H with ⟨h7, H⟩ | ⟨h7, H⟩
  ·refine cdT T rfl h7 (sk (sq (bq (sq (rg ?_)))))
   obtain ⟨h23, H⟩ := ck H
   refine r_ia (ix := 0) T S rfl rfl rfl rfl tu62 ts24 h23.1 h23.2 rfl fun _ T => r_ldR (ix := 0) (i := x6) (off := 0) T S rfl ti24 rfl [] _ rfl rfl (Fld.all _) h23.1 h23.2 rfl rfl fun _ _ S T => ?_
   obtain ⟨A24, k25, hv_, S_⟩ := S.ofVal
   subst hv_
   replace S := S_
   refine v1 T rfl fun T => sq (rg (v2 T rfl rfl fun T => rn T rfl tu24 rfl fun _ T => v2 T rfl rfl fun T => sq (rg (v2 T rfl rfl fun T => ?_))))
   rcases ifE H with ⟨h26, H⟩ | ⟨h26, H⟩
   ·refine cdT T rfl h26 ?_
    cases H
   ·refine cdF T rfl h26 (sk (Gets.inBlock (rg (v2 T rfl rfl fun T => Gets.inLoop ?_))))
    exact ih (wr .i64 (x5 + ((gi [] x1 x6).length : Int))) (wr .i64 (x6 + 1)) _ _ (T.sb rfl) (S.only [1] rfl) H
  ·refine cdF T rfl h7 (Gets.exit rfl (sq (rg (v1 T rfl fun T => ?_))))
   obtain ⟨x9, h8, H⟩ := bd H
   refine rc T Try.call83 rfl rfl (slices_Grow_byte.ok _ _ x5 (S.sel (is := []) rfl) _ h8) ?_
   rintro _ _ ⟨A10, k11, rfl, S⟩
   refine ⟨_, rfl, fun _ T => ?_⟩
   replace S := S.join
   refine v1 T rfl fun T => sq (sq (rg (v1 T rfl fun T => rn T rfl tu62 rfl fun _ T => v1 T rfl fun T => bq (Gets.loop ?_))))
   exact L1_ok F r z x1 A2 k3 m4 z A10 x9 k11 0 _ _ (T.sb rfl) (S.only [1, 0] rfl) H
theorem ok (F : List Atom) (w : World) (z : Nat) (x1 : List (List Int)) {A2 : OA} {k3 : Nat} {m4 : Md} (S : SL ([sl m4 (kSl ku8) A2 k3 x1] ++ F) w) (r : (List Int)) (H : f z x1 = some r) : Calls Try.prog 58 #[.slice A2 x1.length k3] w (R F x1 A2 k3 m4 r) := by
 refine enter (vs := [.slice A2 x1.length k3]) Try.func58 rfl Try.ntmps58 (nle rfl) fun a T => ?_
 refine sq (rg (v1 T rfl fun T => sq (rg (v1 T rfl fun T => sq (sq (rg (v1 T rfl fun T => rn T rfl tu62 rfl fun _ T => v1 T rfl fun T => bq (Gets.loop ?_))))))))
 exact L0_ok F r z x1 A2 k3 m4 z 0 0 _ _ (T.sb rfl) (S.only [0] rfl) H
end slices_Concat_byte
namespace c_Frame
def R (F : List Atom) (x2 : List Int) (A3 : OA) (k4 : Nat) (r : (List Int) × Int) : Ending → World → Prop := fun e w' => ∃ (A23 : OA), ∃ (k24 : Nat), e = .returned (.tuple #[.slice A23 r.1.length k24, .int .i64 r.2]) ∧ SL ([sl .own ku8 A23 k24 r.1, sl .ro ku8 A3 k4 x2] ++ F) w'
def f (z : Nat) (x1 : Int) (x2 : List Int) : Option ((List Int) × Int) := If (decide ((x2.length : Int) > 2097152)) (some (([] : List Int), 12)) (Bd (c_Number.f z (wr .u64 (x2.length : Int))) fun x8 => Ck (([x1].length + x8.length) * 1 ≤ 140737488355328) (Bd (c_sums.f z ([x1] ++ x8) x2) fun x15 => Bd (slices_Concat_byte.f z [([x1] ++ x8), x15, x2]) fun x20 => some (x20, 0)))
theorem ok (F : List Atom) (w : World) (z : Nat) (x1 : Int) (x2 : List Int) {A3 : OA} {k4 : Nat} (S : SL ([sl .ro ku8 A3 k4 x2] ++ F) w) (r : (List Int) × Int) (H : f z x1 x2 = some r) : Calls Try.prog 81 #[.int .u8 x1, .slice A3 x2.length k4] w (R F x2 A3 k4 r) := by
 refine enter (vs := [.int .u8 x1, .slice A3 x2.length k4]) Try.func81 rfl Try.ntmps81 (nle rfl) fun a T => ?_
 refine sq (rg (v2 T rfl rfl fun T => sq (sq (rg (v1 T rfl fun T => rn T rfl tu24 rfl fun _ T => v1 T rfl fun T => ?_)))))
 rcases ifE H with ⟨h5, H⟩ | ⟨h5, H⟩
 ·refine cdT T rfl h5 (sq (rg (v2 T rfl rfl fun T => ?_)))
  replace S := S.nil ku8 .own
  obtain rfl := sj H
  exact rtn T Try.func81 rfl rfl ⟨none, 0, rfl, (S.only [0, 0] rfl)⟩
 ·refine cdF T rfl h5 (sk (sq (rg (v1 T rfl fun T => ?_))))
  replace S := SL.val (κ := ku8) (x := x1) (cs := [.int .u8 x1]) (fun _ => rfl) S
  refine r_bsl (κ := ku8) (xs := [x1]) (vs := [.int .u8 x1]) T S sty24 rfl ⟨_, _, rfl, ⟨0, rfl⟩, rfl⟩ rfl (by decide) rfl fun _ _ b6 S T => ?_
  replace S := S.only [0, 1] rfl
  refine v1 T rfl fun T => rn T rfl tu24 rfl fun _ T => r_conv T rfl tu3 tu34 rfl fun _ T => ?_
  obtain ⟨x8, h7, H⟩ := bd H
  refine rc T tc55 rfl rfl (c_Number.ok _ _ z (wr .u64 (x2.length : Int)) (S.sel (is := []) rfl) _ h7) ?_
  rintro _ _ ⟨A9, k10, rfl, S⟩
  refine ⟨_, rfl, fun _ T => ?_⟩
  replace S := S.join
  obtain ⟨h13, H⟩ := ck H
  refine r_app (ix := 1) (iy := 0) (xs := [x1]) (ys := x8) T S rfl rfl rfl rfl (by decide) sty24 tu24 (by decide) h13 rfl fun _ _ A11 k12 S T => ?_
  refine v1 T rfl fun T => sq (rg (v3 T rfl rfl rfl fun T => ?_))
  replace S := S.dup (i := 2) rfl
  obtain ⟨x15, h14, H⟩ := bd H
  refine rc T Try.call63 rfl rfl (c_sums.ok _ _ z ([x1] ++ x8) x2 (S.sel (is := [2, 0]) rfl) _ h14) ?_
  rintro _ _ ⟨A16, k17, rfl, S⟩
  refine ⟨_, rfl, fun _ T => ?_⟩
  replace S := S.join.only [0, 0, 1, 1] rfl
  refine v1 T rfl fun T => ?_
  replace S := S.fixL (i := 1) rfl rfl
  replace S := S.asVal (i := 1) (xs := ([x1] ++ x8)) rfl
  replace S := S.fixL (i := 1) rfl rfl
  replace S := S.asVal (i := 1) (xs := x15) rfl
  replace S := S.asVal (i := 5) (xs := x2) rfl
  refine r_bsl (κ := (kSl ku8)) (xs := [([x1] ++ x8), x15, x2]) (vs := [.slice A11 (([x1] ++ x8).length) k12, .slice A16 x15.length k17, .slice A3 x2.length k4]) T S sty62 rfl ⟨_, _, rfl, ⟨2, rfl⟩, ⟨_, _, rfl, ⟨1, rfl⟩, ⟨_, _, rfl, ⟨0, rfl⟩, rfl⟩⟩⟩ rfl (by decide) rfl fun _ _ b18 S T => ?_
  replace S := S.only [0, 3, 3, 3, 3] rfl
  obtain ⟨x20, h19, H⟩ := bd H
  refine rc T tc58 rfl rfl (slices_Concat_byte.ok _ _ z [([x1] ++ x8), x15, x2] (S.sel (is := [0]) rfl) _ h19) ?_
  rintro _ _ ⟨A21, k22, rfl, S⟩
  refine ⟨_, rfl, fun _ T => ?_⟩
  replace S := S.join
  refine v2 T rfl rfl fun T => ?_
  obtain rfl := sj H
  exact rtn T Try.func81 rfl rfl ⟨A21, k22, rfl, (S.only [0, 4] rfl)⟩
end c_Frame
namespace c_Text
def R (F : List Atom) (x1 : List Int) (A2 : OA) (k3 : Nat) (r : (List Int) × Int) : Ending → World → Prop := fun e w' => ∃ (A14 : OA), ∃ (k15 : Nat), e = .returned (.tuple #[.slice A14 r.1.length k15, .int .i64 r.2]) ∧ SL ([sl .own ku8 A14 k15 r.1, sl .ro ku8 A2 k3 x1] ++ F) w'
def f (z : Nat) (x1 : List Int) : Option ((List Int) × Int) := If (decide ((x1.length : Int) > 2097152)) (some (([] : List Int), 12)) (Bd (c_Number.f z (wr .u64 (x1.length : Int))) fun x6 => Bd (slices_Concat_byte.f z [x6, x1]) fun x11 => some (x11, 0))
theorem ok (F : List Atom) (w : World) (z : Nat) (x1 : List Int) {A2 : OA} {k3 : Nat} (S : SL ([sl .ro ku8 A2 k3 x1] ++ F) w) (r : (List Int) × Int) (H : f z x1 = some r) : Calls Try.prog 56 #[.slice A2 x1.length k3] w (R F x1 A2 k3 r) := by
 refine enter (vs := [.slice A2 x1.length k3]) Try.func56 rfl Try.ntmps56 (nle rfl) fun a T => ?_
 refine sq (rg (v2 T rfl rfl fun T => sq (sq (rg (v1 T rfl fun T => rn T rfl tu24 rfl fun _ T => v1 T rfl fun T => ?_)))))
 rcases ifE H with ⟨h4, H⟩ | ⟨h4, H⟩
 ·refine cdT T rfl h4 (sq (rg (v2 T rfl rfl fun T => ?_)))
  replace S := S.nil ku8 .own
  obtain rfl := sj H
  exact rtn T Try.func56 rfl rfl ⟨none, 0, rfl, (S.only [0, 0] rfl)⟩
 ·refine cdF T rfl h4 (sk (sq (rg (v1 T rfl fun T => rn T rfl tu24 rfl fun _ T => r_conv T rfl tu3 tu34 rfl fun _ T => ?_))))
  obtain ⟨x6, h5, H⟩ := bd H
  refine rc T tc55 rfl rfl (c_Number.ok _ _ z (wr .u64 (x1.length : Int)) (S.sel (is := []) rfl) _ h5) ?_
  rintro _ _ ⟨A7, k8, rfl, S⟩
  refine ⟨_, rfl, fun _ T => ?_⟩
  replace S := S.join
  refine v1 T rfl fun T => ?_
  replace S := S.fixL (i := 0) rfl rfl
  replace S := S.asVal (i := 0) (xs := x6) rfl
  replace S := S.asVal (i := 2) (xs := x1) rfl
  refine r_bsl (κ := (kSl ku8)) (xs := [x6, x1]) (vs := [.slice A7 x6.length k8, .slice A2 x1.length k3]) T S sty62 rfl ⟨_, _, rfl, ⟨1, rfl⟩, ⟨_, _, rfl, ⟨0, rfl⟩, rfl⟩⟩ rfl (by decide) rfl fun _ _ b9 S T => ?_
  replace S := S.only [0, 2, 2] rfl
  obtain ⟨x11, h10, H⟩ := bd H
  refine rc T tc58 rfl rfl (slices_Concat_byte.ok _ _ z [x6, x1] (S.sel (is := [0]) rfl) _ h10) ?_
  rintro _ _ ⟨A12, k13, rfl, S⟩
  refine ⟨_, rfl, fun _ T => ?_⟩
  replace S := S.join
  refine v2 T rfl rfl fun T => ?_
  obtain rfl := sj H
  exact rtn T Try.func56 rfl rfl ⟨A12, k13, rfl, (S.only [0, 2] rfl)⟩
end c_Text
namespace c_Sum
def R (F : List Atom) (x1 : List Int) (A2 : OA) (k3 : Nat) (m4 : Md) (r : Int) : Ending → World → Prop := fun e w' => e = .returned (.int .u32 r) ∧ SL ([sl m4 ku8 A2 k3 x1] ++ F) w'
def f (z : Nat) (x1 : List Int) : Option Int := Bd (c_register.f z 4294967295 x1) fun x6 => some (bNot .u32 x6)
theorem ok (F : List Atom) (w : World) (z : Nat) (x1 : List Int) {A2 : OA} {k3 : Nat} {m4 : Md} (S : SL ([sl m4 ku8 A2 k3 x1] ++ F) w) (r : Int) (H : f z x1 = some r) : Calls Try.prog 60 #[.slice A2 x1.length k3] w (R F x1 A2 k3 m4 r) := by
 refine enter (vs := [.slice A2 x1.length k3]) Try.func60 rfl Try.ntmps60 (nle rfl) fun a T => ?_
 refine sq (rg (v1 T rfl fun T => sq (rg (v1 T rfl fun T => ?_))))
 obtain ⟨x6, h5, H⟩ := bd H
 refine rc T Try.call84 rfl rfl (c_register.ok _ _ z 4294967295 x1 (S.sel (is := [0]) rfl) _ h5) ?_
 rintro _ _ ⟨rfl, S⟩
 refine ⟨_, rfl, fun _ T => ?_⟩
 replace S := S.join
 refine v2 T rfl rfl fun T => ?_
 obtain rfl := sj H
 exact rtn T Try.func60 rfl rfl ⟨rfl, (S.only [0] rfl)⟩
end c_Sum
def num (n : Nat) : List Int := if n ≤ 127 then [(n : Int)] else ((n % 128 + 128 : Nat) : Int) :: num (n / 128)
termination_by n
decreasing_by omega
theorem num_bys (n : Nat) : Bys (num n) := by
 induction n using Nat.strongRecOn with
 | ind n ih =>
  unfold num
  split
  ·exact Bys.cons (by omega) Bys.nil
  ·exact Bys.cons (by omega) (ih _ (by omega))
theorem num_len (n : Nat) : 1 ≤ (num n).length := by unfold num; split <;> simp
theorem num_lenp : ∀ (k n : Nat), n < 128 ^ k → 1 ≤ k → (num n).length ≤ k
 | 0, _, _, h => by omega
 | k + 1, n, h, _ => by
  unfold num
  split
  ·simp
  ·have hk : 1 ≤ k := by
    rcases k with _ | k
    ·simp at h; omega
    ·omega
   have := num_lenp k (n / 128) (by rw [Nat.pow_succ] at h; exact Nat.div_lt_of_lt_mul (by omega)) hk
   simp; omega
theorem num_len10 {n : Nat} (h : n ≤ 18446744073709551615) : (num n).length ≤ 10 := num_lenp 10 n (by omega) (by omega)
theorem or128 (n : Nat) : bOr .u8 (wr .u8 (n : Int)) 128 = ((n % 128 + 128 : Nat) : Int) := by
 rw [wB]
 have : ∀ i : Fin 256, bOr .u8 (i.val : Int) 128 = ((i.val % 128 + 128 : Nat) : Int) := by decide +kernel
 have h := this ⟨n % 256, by omega⟩
 simp only at h
 rw [show ((n : Int) % 256) = ((n % 256 : Nat) : Int) by omega, h]
 omega
theorem Number_L0 (z : Nat) : ∀ (k n m : Nat) (acc : List Int), n < 128 ^ k → 1 ≤ k → k ≤ m → acc.length + k ≤ 100 → c_Number.L0 z m (n : Int) acc = some (acc ++ num n)
 | 0, _, _, _, _, h, _, _ => by omega
 | k + 1, n, 0, _, _, _, h, _ => by omega
 | k + 1, n, m + 1, acc, h, _, hm, hl => by
  unfold c_Number.L0
  by_cases hn : n ≤ 127
  ·rw [if_n (by simp; omega), ck_y (by simp; omega)]
   unfold num
   rw [if_pos hn]
   simp [slices_Clip_byte.f, wB]
   omega
  ·have hk : 1 ≤ k := by
    rcases k with _ | k
    ·simp at h; omega
    ·omega
   rw [if_y (by simp; omega), ck_y (by simp; omega), or128, show (7 : Int) = ((7 : Nat) : Int) from rfl, shr_d _ _ _ (by decide), show ((n : Int) / 2 ^ 7) = ((n / 128 : Nat) : Int) by omega,
    Number_L0 z k (n / 128) m _ (by rw [Nat.pow_succ] at h; exact Nat.div_lt_of_lt_mul (by omega)) hk (by omega) (by simp; omega)]
   rw [num.eq_1 n, if_neg hn, List.append_assoc]
   rfl
theorem Number_f {z : Nat} (hz : 16777216 ≤ z) {x : Int} (h : 0 ≤ x ∧ x ≤ 18446744073709551615) : c_Number.f z x = some (num x.toNat) := by
 obtain ⟨n, rfl⟩ := Int.eq_ofNat_of_zero_le h.1
 have := Number_L0 z 10 n z [] (by omega) (by omega) (by omega) (by simp)
 rw [List.nil_append] at this
 exact this
def iv (c : BitVec 32) : Int := c.toNat
theorem of_iv (c : BitVec 32) : BitVec.ofInt 32 (iv c) = c := by
 unfold iv
 rw [BitVec.ofInt_natCast, BitVec.ofNat_toNat, BitVec.setWidth_eq]
theorem wr_iv (c : BitVec 32) : wr .u32 (iv c) = iv c := by
 rw [wW]
 unfold iv
 have := c.isLt
 omega
theorem xor_iv (a b : BitVec 32) : bXor .u32 (iv a) (iv b) = iv (a ^^^ b) := by
 show wr .u32 (((BitVec.ofInt 32 (iv a) ^^^ BitVec.ofInt 32 (iv b)).toNat : Nat) : Int) = _
 rw [of_iv, of_iv]
 exact wr_iv _
theorem and_iv (a b : BitVec 32) : bAnd .u32 (iv a) (iv b) = iv (a &&& b) := by
 show wr .u32 (((BitVec.ofInt 32 (iv a) &&& BitVec.ofInt 32 (iv b)).toNat : Nat) : Int) = _
 rw [of_iv, of_iv]
 exact wr_iv _
theorem xor_by (a : BitVec 32) (x : Int) : bXor .u32 (iv a) (wr .u32 x) = iv (a ^^^ BitVec.ofInt 32 x) := by
 rw [← xor_iv]
 congr 1
 rw [wW]
 unfold iv
 rw [BitVec.toNat_ofInt]
 omega
theorem neg_iv (a : BitVec 32) : wr .u32 (0 - iv a) = iv (0#32 - a) := by
 rw [wW]
 unfold iv
 have := a.isLt
 rw [BitVec.toNat_sub]
 simp
 omega
theorem shr_iv (a : BitVec 32) : sShr .u32 (iv a) 1 = iv (a >>> 1) := by
 rw [show (1 : Int) = ((1 : Nat) : Int) from rfl, shr_d _ _ _ (by decide)]
 unfold iv
 rw [BitVec.toNat_ushiftRight, Nat.shiftRight_eq_div_pow]
 omega
def stp (c : BitVec 32) : BitVec 32 := (c >>> 1) ^^^ (3988292384#32 &&& (0#32 - (c &&& 1#32)))
theorem stp_iv (c : BitVec 32) : bXor .u32 (sShr .u32 (iv c) 1) (bAnd .u32 3988292384 (wr .u32 (0 - (bAnd .u32 (iv c) 1)))) = iv (stp c) := by
 rw [show (1 : Int) = iv 1#32 from rfl, show (3988292384 : Int) = iv 3988292384#32 from rfl, and_iv, neg_iv, and_iv, show iv 1#32 = 1 from rfl, shr_iv, xor_iv]
 rfl
def byt (c : BitVec 32) (x : Int) : BitVec 32 := stp (stp (stp (stp (stp (stp (stp (stp (c ^^^ BitVec.ofInt 32 x))))))))
def crc (c : BitVec 32) (xs : List Int) : BitVec 32 := xs.foldl byt c
theorem register_L1 (z : Nat) (hz : 16777216 ≤ z) (q : Int → Int → Option Int) (xs : List Int) (i : Int) (c : BitVec 32) (hi : 0 ≤ i ∧ i ≤ 4611686018427387904) :
  c_register.L1 z q xs i z (iv c) 0 = q (iv (stp (stp (stp (stp (stp (stp (stp (stp c))))))))) (i + 1) := by
 obtain ⟨n, rfl⟩ : ∃ n, z = n + 9 := ⟨z - 9, by omega⟩
 have one : ∀ (m : Nat) (c : BitVec 32) (j : Int), 0 ≤ j ∧ j < 8 → c_register.L1 (n + 9) q xs i (m + 1) (iv c) j = c_register.L1 (n + 9) q xs i m (iv (stp c)) (j + 1) := by
  intro m c j hj
  rw [c_register.L1, if_y (by simp; omega), stp_iv, wI (by omega)]
 rw [one _ _ _ (by omega), one _ _ _ (by omega), one _ _ _ (by omega), one _ _ _ (by omega), one _ _ _ (by omega), one _ _ _ (by omega), one _ _ _ (by omega), one _ _ _ (by omega)]
 rw [c_register.L1, if_n (by simp), wI (by omega)]
theorem register_L0 (z : Nat) (hz : 16777216 ≤ z) (xs : List Int) (hx : xs.length ≤ 16777215) : ∀ (k m i : Nat) (c : BitVec 32), xs.length - i = k → i ≤ xs.length → k < m →
  c_register.L0 z xs m (iv c) (i : Int) = some (iv (crc c (xs.drop i)))
 | k, 0, _, _, _, _, h => by omega
 | 0, m + 1, i, c, hk, hi, _ => by
  rw [c_register.L0, if_n (by simp; omega), List.drop_eq_nil_of_le (by omega)]
  rfl
 | k + 1, m + 1, i, c, hk, hi, hm => by
  rw [c_register.L0, if_y (by simp; omega), ck_y (by omega), xor_by, register_L1 z hz _ _ _ _ (by omega), gi_nat _ _ _ (by omega), List.drop_eq_getElem_cons (by omega)]
  exact register_L0 z hz xs hx k m (i + 1) _ (by omega) (by omega) (by omega)
theorem register_f {z : Nat} (hz : 16777216 ≤ z) {xs : List Int} (hx : xs.length ≤ 16777215) (c : BitVec 32) : c_register.f z (iv c) xs = some (iv (crc c xs)) :=
 register_L0 z hz xs hx xs.length z 0 c (by omega) (by omega) (by omega)
def le4 (c : BitVec 32) : List Int := [iv c % 256, iv c / 256 % 256, iv c / 65536 % 256, iv c / 16777216 % 256]
def sum4 (xs : List Int) : List Int := le4 (~~~(crc 4294967295#32 xs))
theorem not_iv (c : BitVec 32) : bNot .u32 (iv c) = iv (~~~c) := by
 show bXor .u32 (iv 4294967295#32) (iv c) = _
 rw [xor_iv]
 rw [show (4294967295#32 : BitVec 32) = BitVec.allOnes 32 from rfl, BitVec.allOnes_xor]
theorem crc_app (c : BitVec 32) (xs ys : List Int) : crc c (xs ++ ys) = crc (crc c xs) ys := List.foldl_append ..
theorem sums_f {z : Nat} (hz : 16777216 ≤ z) {xs ys : List Int} (hx : xs.length ≤ 16777215) (hy : ys.length ≤ 16777215) : c_sums.f z xs ys = some (sum4 (xs ++ ys)) := by
 unfold c_sums.f
 rw [show (4294967295 : Int) = iv 4294967295#32 from rfl, register_f hz hx, bd_some, register_f hz hy, bd_some, not_iv, wB, wB, wB, wB]
 rw [show (8 : Int) = ((8 : Nat) : Int) from rfl, show (16 : Int) = ((16 : Nat) : Int) from rfl, show (24 : Int) = ((24 : Nat) : Int) from rfl, shr_d _ _ _ (by decide), shr_d _ _ _ (by decide), shr_d _ _ _ (by decide), ← crc_app]
 rfl
theorem Sum_f {z : Nat} (hz : 16777216 ≤ z) {xs : List Int} (hx : xs.length ≤ 16777215) : c_Sum.f z xs = some (iv (~~~(crc 4294967295#32 xs))) := by
 unfold c_Sum.f
 rw [show (4294967295 : Int) = iv 4294967295#32 from rfl, register_f hz hx, bd_some, not_iv]
theorem le4_bys (c : BitVec 32) : Bys (le4 c) := by
 unfold le4
 refine Bys.cons (by omega) (Bys.cons (by omega) (Bys.cons (by omega) (Bys.cons (by omega) Bys.nil)))
theorem Concat_L1 (z : Nat) (xs : List (List Int)) (hx : xs.length ≤ 1000) : ∀ (k m i : Nat) (acc : List Int), xs.length - i = k → i ≤ xs.length → k < m → acc.length + (xs.drop i).flatten.length ≤ 140737488355328 →
  slices_Concat_byte.L1 z xs m acc (i : Int) = some (acc ++ (xs.drop i).flatten)
 | k, 0, _, _, _, _, h, _ => by omega
 | 0, m + 1, i, c, hk, hi, _, _ => by
  rw [slices_Concat_byte.L1, if_n (by simp; omega), List.drop_eq_nil_of_le (by omega)]
  simp
 | k + 1, m + 1, i, acc, hk, hi, hm, hl => by
  rw [List.drop_eq_getElem_cons (by omega)] at hl ⊢
  simp only [List.flatten_cons, List.length_append] at hl
  rw [slices_Concat_byte.L1, if_y (by simp; omega), ck_y (by omega), gi_nat _ _ _ (by omega), ck_y (by omega), wI (by omega)]
  rw [show ((i : Int) + 1) = ((i + 1 : Nat) : Int) from rfl, Concat_L1 z xs hx k m (i + 1) _ (by omega) (by omega) (by omega) (by rw [List.length_append]; omega)]
  rw [List.append_assoc, List.flatten_cons]
theorem Grow_f {n : Int} (h : 0 ≤ n ∧ n ≤ 140737488355328) : slices_Grow_byte.f n = some [] := by
 unfold slices_Grow_byte.f
 rw [if_n (by simp; omega)]
 simp only [Int.sub_zero]
 rw [wI (x := 0) (by omega), Int.sub_zero, wI (by omega)]
 by_cases hn : n = 0
 ·subst hn; rfl
 ·rw [if_y (by simp; omega), ck_y (by simp), ck_y (by omega), ck_y (by omega)]
  simp [slices_Grow_byte.J0, cut]
theorem Concat_L0 (z : Nat) (hz : 16777216 ≤ z) (xs : List (List Int)) (hx : xs.length ≤ 1000) (hall : xs.flatten.length ≤ 140737488355328) : ∀ (k m i : Nat) (s : Nat), xs.length - i = k → i ≤ xs.length → k < m → s + (xs.drop i).flatten.length ≤ 140737488355328 →
  slices_Concat_byte.L0 z xs m (s : Int) (i : Int) = some xs.flatten
 | k, 0, _, _, _, _, h, _ => by omega
 | 0, m + 1, i, s, hk, hi, _, hl => by
  rw [slices_Concat_byte.L0, if_n (by simp; omega), Grow_f (by omega), bd_some]
  have := Concat_L1 z xs hx xs.length z 0 [] (by omega) (by omega) (by omega) (by simpa using hall)
  simpa using this
 | k + 1, m + 1, i, s, hk, hi, hm, hl => by
  rw [List.drop_eq_getElem_cons (by omega)] at hl
  simp only [List.flatten_cons, List.length_append] at hl
  rw [slices_Concat_byte.L0, if_y (by simp; omega), ck_y (by omega), gi_nat _ _ _ (by omega), wI (by omega), if_n (by simp; omega), wI (by omega)]
  exact Concat_L0 z hz xs hx hall k m (i + 1) (s + xs[i].length) (by omega) (by omega) (by omega) (by omega)
theorem Concat_f {z : Nat} (hz : 16777216 ≤ z) {xs : List (List Int)} (hx : xs.length ≤ 1000) (hall : xs.flatten.length ≤ 140737488355328) : slices_Concat_byte.f z xs = some xs.flatten :=
 Concat_L0 z hz xs hx hall xs.length z 0 0 (by omega) (by omega) (by omega) (by simpa using hall)
def hd (kind : Int) (body : List Int) : List Int := kind :: num body.length
def frm (kind : Int) (body : List Int) : List Int := hd kind body ++ sum4 (hd kind body ++ body) ++ body
def txt (s : List Int) : List Int := num s.length ++ s
theorem Frame_f {z : Nat} (hz : 16777216 ≤ z) (kind : Int) {body : List Int} (hb : body.length ≤ 2097152) : c_Frame.f z kind body = some (frm kind body, 0) := by
 unfold c_Frame.f
 have h10 := num_len10 (n := body.length) (by omega)
 have h1 := num_len body.length
 rw [if_n (by simp; omega), wU (by omega), Number_f hz (by omega), bd_some, Int.toNat_natCast, ck_y (by simp; omega), sums_f hz (by simp; omega) (by omega), bd_some, Concat_f hz (by simp) (by simp [sum4, le4]; omega), bd_some]
 simp [frm, hd]
theorem Text_f {z : Nat} (hz : 16777216 ≤ z) {s : List Int} (hb : s.length ≤ 2097152) : c_Text.f z s = some (txt s, 0) := by
 unfold c_Text.f
 have h10 := num_len10 (n := s.length) (by omega)
 rw [if_n (by simp; omega), wU (by omega), Number_f hz (by omega), bd_some, Int.toNat_natCast, Concat_f hz (by simp) (by simp; omega), bd_some]
 simp [txt]
theorem frm_len (kind : Int) (body : List Int) : (frm kind body).length = body.length + (num body.length).length + 5 := by
 simp [frm, hd, sum4, le4]; omega
theorem frm_bys {kind : Int} {body : List Int} (hk : 0 ≤ kind ∧ kind < 256) (hb : Bys body) : Bys (frm kind body) :=
 Bys.app (Bys.app (Bys.cons hk (num_bys _)) (le4_bys _)) hb
theorem txt_bys {s : List Int} (h : Bys s) : Bys (txt s) := Bys.app (num_bys _) h
namespace s_fits
noncomputable def c0 : Code := match Try.f25.body with | some c => c | none => .skip
def R (F : List Atom) (x1 : aE) (A2 : OA) (k3 : Nat) (A4 : OA) (k5 : Nat) (r : Bool) : Ending → World → Prop := fun e w' => e = .returned (.bool r) ∧ SL ([sl .ro ku8 A2 k3 x1.Key, sl .ro ku8 A4 k5 x1.Value] ++ F) w'
def J1 (x13 : Bool) : Option Bool := some x13
def J0 (x1 : aE) : Option Bool := If (decide ((x1.Key.length : Int) > 0)) (If (decide ((x1.Key.length : Int) ≤ 256)) (If (decide (x1.Seq > 0)) (If (decide (x1.Seq ≤ 4611686018427387904)) (J1 (decide ((x1.Value.length : Int) ≤ 65536))) (J1 false)) (J1 false)) (J1 false)) (J1 false)
def f (x1 : aE) : Option Bool := If x1.Del (If (decide ((x1.Value.length : Int) > 0)) (some false) (J0 x1)) (J0 x1)
noncomputable def ptJ1 : List Item := [.code (cr 3 c0)]
noncomputable def ptJ0 : List Item := [.code (cL (cR (cR c0))), .code (cr 3 c0)]
theorem J1_ok (F : List Atom) (r : Bool) (x1 : aE) (A2 : OA) (k3 : Nat) (A4 : OA) (k5 : Nat) (x13 : Bool) (a : Act) (w : World) (T : Tm 37 [(2, .bool x13)] a) (S : SL ([sl .ro ku8 A2 k3 x1.Key, sl .ro ku8 A4 k5 x1.Value] ++ F) w) (H : J1 x13 = some r) : Gets Try.prog 25 ptJ1 a w (R F x1 A2 k3 A4 k5 r) := by
 obtain rfl := sj H
 exact rtn T Try.func25 rfl rfl ⟨rfl, (S.only [0, 0] rfl)⟩
theorem J0_ok (F : List Atom) (r : Bool) (x1 : aE) (A2 : OA) (k3 : Nat) (A4 : OA) (k5 b6 : Nat) (a : Act) (w : World) (T : Tm 37 [(1, .pointer (some ⟨b6, 0, none⟩))] a) (S : SL ([sl .ro ku8 A2 k3 x1.Key, sl .ro ku8 A4 k5 x1.Value, blk b6 [.slice A2 x1.Key.length k3, .int .u64 x1.Seq, .bool x1.Del, .slice A4 x1.Value.length k5]] ++ F) w) (H : J0 x1 = some r) : Gets Try.prog 25 ptJ0 a w (R F x1 A2 k3 A4 k5 r) := by
 refine rg (r_fa (o' := 0) T rfl tu36 rfl ts24 rfl rfl fun _ T => lB (ix := 2) T S rfl ti24 rfl rfl rfl fun _ T => rn T rfl tu24 rfl fun _ T => v2 T rfl rfl fun T => ?_)
 rcases ifE H with ⟨h9, H⟩ | ⟨h9, H⟩
 ·refine gy T rfl h9 (r_fa (o' := 0) T rfl tu36 rfl ts24 rfl rfl fun _ T => gy T rfl h9 (lB (ix := 2) T S rfl ti24 rfl rfl rfl fun _ T => gy T rfl h9 (rn T rfl tu24 rfl fun _ T => gy T rfl h9 (v1 T rfl fun T => pT T rfl h9 rfl rfl fun _ T => v1 T rfl fun T => ?_))))
  rcases ifE H with ⟨h10, H⟩ | ⟨h10, H⟩
  ·refine gy T rfl h10 (r_fa (o' := 1) T rfl tu36 rfl ts34 rfl rfl fun _ T => gy T rfl h10 (lB (ix := 2) T S rfl ti34 rfl rfl rfl fun _ T => gy T rfl h10 (v1 T rfl fun T => pT T rfl h10 rfl rfl fun _ T => v1 T rfl fun T => ?_)))
   rcases ifE H with ⟨h11, H⟩ | ⟨h11, H⟩
   ·refine gy T rfl h11 (r_fa (o' := 1) T rfl tu36 rfl ts34 rfl rfl fun _ T => gy T rfl h11 (lB (ix := 2) T S rfl ti34 rfl rfl rfl fun _ T => gy T rfl h11 (v1 T rfl fun T => pT T rfl h11 rfl rfl fun _ T => v1 T rfl fun T => ?_)))
    rcases ifE H with ⟨h12, H⟩ | ⟨h12, H⟩
    ·refine gy T rfl h12 (r_fa (o' := 3) T rfl tu36 rfl ts24 rfl rfl fun _ T => gy T rfl h12 (lB (ix := 2) T S rfl ti24 rfl rfl rfl fun _ T => gy T rfl h12 (rn T rfl tu24 rfl fun _ T => gy T rfl h12 (v1 T rfl fun T => pT T rfl h12 rfl rfl fun _ T => v1 T rfl fun T => ?_))))
     exact J1_ok F r x1 A2 k3 A4 k5 (decide ((x1.Value.length : Int) ≤ 65536)) _ _ (T.sb rfl) (S.only [0, 0] rfl) H
    ·refine gn T rfl h12 fun T => gn T rfl h12 fun T => gn T rfl h12 fun T => gn T rfl h12 fun T => pF T rfl h12 rfl rfl fun _ T => v1 T rfl fun T => ?_
     exact J1_ok F r x1 A2 k3 A4 k5 false _ _ (T.sb rfl) (S.only [0, 0] rfl) H
   ·refine gn T rfl h11 fun T => gn T rfl h11 fun T => gn T rfl h11 fun T => pF T rfl h11 rfl rfl fun _ T => v1 T rfl fun T => gn T rfl rfl fun T => gn T rfl rfl fun T => gn T rfl rfl fun T => gn T rfl rfl fun T => pF T rfl rfl rfl rfl fun _ T => v1 T rfl fun T => ?_
    exact J1_ok F r x1 A2 k3 A4 k5 false _ _ (T.sb rfl) (S.only [0, 0] rfl) H
  ·refine gn T rfl h10 fun T => gn T rfl h10 fun T => gn T rfl h10 fun T => pF T rfl h10 rfl rfl fun _ T => v1 T rfl fun T => gn T rfl rfl fun T => gn T rfl rfl fun T => gn T rfl rfl fun T => pF T rfl rfl rfl rfl fun _ T => v1 T rfl fun T => gn T rfl rfl fun T => gn T rfl rfl fun T => gn T rfl rfl fun T => gn T rfl rfl fun T => pF T rfl rfl rfl rfl fun _ T => v1 T rfl fun T => ?_
   exact J1_ok F r x1 A2 k3 A4 k5 false _ _ (T.sb rfl) (S.only [0, 0] rfl) H
 ·refine gn T rfl h9 fun T => gn T rfl h9 fun T => gn T rfl h9 fun T => gn T rfl h9 fun T => pF T rfl h9 rfl rfl fun _ T => v1 T rfl fun T => gn T rfl rfl fun T => gn T rfl rfl fun T => gn T rfl rfl fun T => pF T rfl rfl rfl rfl fun _ T => v1 T rfl fun T => gn T rfl rfl fun T => gn T rfl rfl fun T => gn T rfl rfl fun T => pF T rfl rfl rfl rfl fun _ T => v1 T rfl fun T => gn T rfl rfl fun T => gn T rfl rfl fun T => gn T rfl rfl fun T => gn T rfl rfl fun T => pF T rfl rfl rfl rfl fun _ T => v1 T rfl fun T => ?_
  exact J1_ok F r x1 A2 k3 A4 k5 false _ _ (T.sb rfl) (S.only [0, 0] rfl) H
theorem ok (F : List Atom) (w : World) (x1 : aE) {A2 : OA} {k3 : Nat} {A4 : OA} {k5 : Nat} (S : SL ([sl .ro ku8 A2 k3 x1.Key, sl .ro ku8 A4 k5 x1.Value] ++ F) w) (r : Bool) (H : f x1 = some r) : Calls Try.prog 25 #[.agg #[.slice A2 x1.Key.length k3, .int .u64 x1.Seq, .bool x1.Del, .slice A4 x1.Value.length k5]] w (R F x1 A2 k3 A4 k5 r) := by
 refine enter (vs := [.agg #[.slice A2 x1.Key.length k3, .int .u64 x1.Seq, .bool x1.Del, .slice A4 x1.Value.length k5]]) Try.func25 rfl Try.ntmps25 (nle rfl) fun a T => ?_
 refine sq (rg (r_box T S rfl (cs := [.slice A2 x1.Key.length k3, .int .u64 x1.Seq, .bool x1.Del, .slice A4 x1.Value.length k5]) rfl rfl fun _ _ b6 S T => v1 T rfl fun T => sq (sq (rg (r_fa (o' := 2) T rfl tu36 rfl ts4 rfl rfl fun _ T => lB (ix := 0) T S rfl ti4 rfl rfl rfl fun _ T => v1 T rfl fun T => ?_)))))
 rcases ifE H with ⟨h7, H⟩ | ⟨h7, H⟩
 ·refine gy T rfl h7 (r_fa (o' := 3) T rfl tu36 rfl ts24 rfl rfl fun _ T => gy T rfl h7 (lB (ix := 0) T S rfl ti24 rfl rfl rfl fun _ T => gy T rfl h7 (rn T rfl tu24 rfl fun _ T => gy T rfl h7 (v1 T rfl fun T => pT T rfl h7 rfl rfl fun _ T => ?_))))
  rcases ifE H with ⟨h8, H⟩ | ⟨h8, H⟩
  ·refine cdT T rfl h8 (sq (rg (v1 T rfl fun T => ?_)))
   obtain rfl := sj H
   exact rtn T Try.func25 rfl rfl ⟨rfl, (S.only [1, 1] rfl)⟩
  ·refine cdF T rfl h8 (sk (sq ?_))
   exact J0_ok F r x1 A2 k3 A4 k5 b6 _ _ (T.sb rfl) (S.only [1, 1, 0] rfl) H
 ·refine gn T rfl h7 fun T => gn T rfl h7 fun T => gn T rfl h7 fun T => gn T rfl h7 fun T => pF T rfl h7 rfl rfl fun _ T => cdF T rfl rfl (sk (sq ?_))
  exact J0_ok F r x1 A2 k3 A4 k5 b6 _ _ (T.sb rfl) (S.only [1, 1, 0] rfl) H
end s_fits
namespace c_Compare
def R (F : List Atom) (x1 : List Int) (A2 : OA) (k3 : Nat) (m4 : Md) (x5 : List Int) (A6 : OA) (k7 : Nat) (m8 : Md) (r : Int) : Ending → World → Prop := fun e w' => e = .returned (.int .i64 r) ∧ SL ([sl m4 ku8 A2 k3 x1, sl m8 ku8 A6 k7 x5] ++ F) w'
def f (x1 x5 : List Int) : Option Int := Bd (bytes_Compare.f x1 x5) fun x10 => some x10
theorem ok (F : List Atom) (w : World) (x1 x5 : List Int) {A2 : OA} {k3 : Nat} {m4 : Md} {A6 : OA} {k7 : Nat} {m8 : Md} (S : SL ([sl m4 ku8 A2 k3 x1, sl m8 ku8 A6 k7 x5] ++ F) w) (r : Int) (H : f x1 x5 = some r) : Calls Try.prog 38 #[.slice A2 x1.length k3, .slice A6 x5.length k7] w (R F x1 A2 k3 m4 x5 A6 k7 m8 r) := by
 refine enter (vs := [.slice A2 x1.length k3, .slice A6 x5.length k7]) Try.func38 rfl Try.ntmps38 (nle rfl) fun a T => ?_
 refine sq (rg (v1 T rfl fun T => sq (rg (v2 T rfl rfl fun T => ?_))))
 obtain ⟨x10, h9, H⟩ := bd H
 refine rc T Try.call65 rfl rfl (bytes_Compare.ok _ _ x1 x5 (S.sel (is := [0, 0]) rfl) _ h9) ?_
 rintro _ _ ⟨rfl, S⟩
 refine ⟨_, rfl, fun _ T => ?_⟩
 replace S := S.join
 refine v1 T rfl fun T => ?_
 obtain rfl := sj H
 exact rtn T Try.func38 rfl rfl ⟨rfl, (S.only [0, 0] rfl)⟩
end c_Compare
namespace s_order
noncomputable def c0 : Code := match Try.f26.body with | some c => c | none => .skip
def R (F : List Atom) (x1 : aE) (A2 : OA) (k3 : Nat) (A4 : OA) (k5 : Nat) (x6 : aE) (A7 : OA) (k8 : Nat) (A9 : OA) (k10 : Nat) (r : Int) : Ending → World → Prop := fun e w' => e = .returned (.int .i64 r) ∧ SL ([sl .ro ku8 A2 k3 x1.Key, sl .ro ku8 A4 k5 x1.Value, sl .ro ku8 A7 k8 x6.Key, sl .ro ku8 A9 k10 x6.Value] ++ F) w'
def J0 (x14 : Int) : Option Int := some x14
def f (x1 x6 : aE) : Option Int := Bd (c_Compare.f x1.Key x6.Key) fun x14 => If (x14 != 0) (J0 x14) (If (x1.Seq == x6.Seq) (J0 x14) (If (decide (x1.Seq > x6.Seq)) (some (-1)) (some 1)))
noncomputable def ptJ0 : List Item := [.code (cL (cT (cR (cR (cL (cR c0)))))), .code (cR (cT (cR (cR (cL (cR c0)))))), .code (cR (cR c0))]
theorem J0_ok (F : List Atom) (r : Int) (x1 : aE) (A2 : OA) (k3 : Nat) (A4 : OA) (k5 : Nat) (x6 : aE) (A7 : OA) (k8 : Nat) (A9 : OA) (k10 : Nat) (x14 : Int) (a : Act) (w : World) (T : Tm 26 [(5, .int .i64 x14)] a) (S : SL ([sl .ro ku8 A2 k3 x1.Key, sl .ro ku8 A4 k5 x1.Value, sl .ro ku8 A7 k8 x6.Key, sl .ro ku8 A9 k10 x6.Value] ++ F) w) (H : J0 x14 = some r) : Gets Try.prog 26 ptJ0 a w (R F x1 A2 k3 A4 k5 x6 A7 k8 A9 k10 r) := by
 refine rg (v2 T rfl rfl fun T => ?_)
 obtain rfl := sj H
 exact rtn T tf26 rfl rfl ⟨rfl, (S.only [0, 0, 0, 0] rfl)⟩
theorem ok (F : List Atom) (w : World) (x1 x6 : aE) {A2 : OA} {k3 : Nat} {A4 : OA} {k5 : Nat} {A7 : OA} {k8 : Nat} {A9 : OA} {k10 : Nat} (S : SL ([sl .ro ku8 A2 k3 x1.Key, sl .ro ku8 A4 k5 x1.Value, sl .ro ku8 A7 k8 x6.Key, sl .ro ku8 A9 k10 x6.Value] ++ F) w) (r : Int) (H : f x1 x6 = some r) : Calls Try.prog 26 #[.agg #[.slice A2 x1.Key.length k3, .int .u64 x1.Seq, .bool x1.Del, .slice A4 x1.Value.length k5], .agg #[.slice A7 x6.Key.length k8, .int .u64 x6.Seq, .bool x6.Del, .slice A9 x6.Value.length k10]] w (R F x1 A2 k3 A4 k5 x6 A7 k8 A9 k10 r) := by
 refine enter (vs := [.agg #[.slice A2 x1.Key.length k3, .int .u64 x1.Seq, .bool x1.Del, .slice A4 x1.Value.length k5], .agg #[.slice A7 x6.Key.length k8, .int .u64 x6.Seq, .bool x6.Del, .slice A9 x6.Value.length k10]]) tf26 rfl Try.ntmps26 (nle rfl) fun a T => ?_
 refine sq (rg (r_box T S rfl (cs := [.slice A2 x1.Key.length k3, .int .u64 x1.Seq, .bool x1.Del, .slice A4 x1.Value.length k5]) rfl rfl fun _ _ b11 S T => r_box T S rfl (cs := [.slice A7 x6.Key.length k8, .int .u64 x6.Seq, .bool x6.Del, .slice A9 x6.Value.length k10]) rfl rfl fun _ _ b12 S T => v1 T rfl fun T => sq (sq (rg (r_fa (o' := 0) T rfl tu36 rfl ts24 rfl rfl fun _ T => lB (ix := 1) T S rfl ti24 rfl rfl rfl fun _ T => r_fa (o' := 0) T rfl tu36 rfl ts24 rfl rfl fun _ T => lB (ix := 0) T S rfl ti24 rfl rfl rfl fun _ T => ?_)))))
 replace S := S.dup (i := 2) rfl
 replace S := S.dup (i := 5) rfl
 obtain ⟨x14, h13, H⟩ := bd H
 refine rc T tc38 rfl rfl (c_Compare.ok _ _ x1.Key x6.Key (S.sel (is := [1, 0]) rfl) _ h13) ?_
 rintro _ _ ⟨rfl, S⟩
 refine ⟨_, rfl, fun _ T => ?_⟩
 replace S := S.join.only [2, 2, 2, 2, 2, 2] rfl
 refine v1 T rfl fun T => sq (rg (v3 T rfl rfl rfl fun T => ?_))
 rcases ifE H with ⟨h15, H⟩ | ⟨h15, H⟩
 ·refine gn T rfl h15 fun T => gn T rfl h15 fun T => gn T rfl h15 fun T => gn T rfl h15 fun T => gn T rfl h15 fun T => pT T rfl h15 rfl rfl fun _ T => cdT T rfl rfl (sq ?_)
  exact J0_ok F r x1 A2 k3 A4 k5 x6 A7 k8 A9 k10 x14 _ _ (T.sb rfl) (S.only [2, 2, 2, 2] rfl) H
 ·refine gy T rfl h15 (r_fa (o' := 1) T rfl tu36 rfl ts34 rfl rfl fun _ T => gy T rfl h15 (lB (ix := 1) T S rfl ti34 rfl rfl rfl fun _ T => gy T rfl h15 (r_fa (o' := 1) T rfl tu36 rfl ts34 rfl rfl fun _ T => gy T rfl h15 (lB (ix := 0) T S rfl ti34 rfl rfl rfl fun _ T => gy T rfl h15 (v1 T rfl fun T => pF T rfl h15 rfl rfl fun _ T => ?_)))))
  rcases ifE H with ⟨h16, H⟩ | ⟨h16, H⟩
  ·refine cdT T rfl h16 (sq ?_)
   exact J0_ok F r x1 A2 k3 A4 k5 x6 A7 k8 A9 k10 x14 _ _ (T.sb rfl) (S.only [2, 2, 2, 2] rfl) H
  ·refine cdF T rfl h16 (sk (sq (sq (rg (r_fa (o' := 1) T rfl tu36 rfl ts34 rfl rfl fun _ T => lB (ix := 1) T S rfl ti34 rfl rfl rfl fun _ T => r_fa (o' := 1) T rfl tu36 rfl ts34 rfl rfl fun _ T => lB (ix := 0) T S rfl ti34 rfl rfl rfl fun _ T => v1 T rfl fun T => ?_)))))
   rcases ifE H with ⟨h17, H⟩ | ⟨h17, H⟩
   ·refine cdT T rfl h17 (sq (rg (v1 T rfl fun T => ?_)))
    obtain rfl := sj H
    exact rtn T tf26 rfl rfl ⟨rfl, (S.only [2, 2, 2, 2] rfl)⟩
   ·refine cdF T rfl h17 (sk (sq (rg (v1 T rfl fun T => ?_))))
    obtain rfl := sj H
    exact rtn T tf26 rfl rfl ⟨rfl, (S.only [2, 2, 2, 2] rfl)⟩
end s_order
namespace s_builder_frame
def R (F : List Atom) (b2 : Nat) (x12 : List Int) (A13 : OA) (k14 : Nat) (r : s_builder) : Ending → World → Prop := fun e w' => ∃ (A23 : OA), ∃ (k24 : Nat), ∃ (A25 : OA), ∃ (k26 : Nat), ∃ (A27 : OA), ∃ (k28 : Nat), ∃ (A29 : OA), ∃ (k30 : Nat), e = .returned (.tuple #[]) ∧ SL ([blk b2 [.slice A23 r.out.length k24, .slice A25 r.body.length k26, .slice A27 r.index.length k28, .int .i64 r.many, .int .i64 r.blocks, .slice A29 r.last.length k30], sl .own ku8 A23 k24 r.out, sl .ro ku8 A25 k26 r.body, sl .own ku8 A27 k28 r.index, sl .ro ku8 A29 k30 r.last, sl .ro ku8 A13 k14 x12] ++ F) w'
def f (z : Nat) (x1 : s_builder) (x11 : Int) (x12 : List Int) : Option s_builder := Bd (c_Frame.f z x11 x12) fun x16 => Ck ((x1.out.length + x16.1.length) * 1 ≤ 140737488355328) (some (s_builder.mk (x1.out ++ x16.1) x1.body x1.index x1.many x1.blocks x1.last))
theorem ok (F : List Atom) (w : World) (z : Nat) (x1 : s_builder) (x11 : Int) (x12 : List Int) {b2 : Nat} {A3 : OA} {k4 : Nat} {A5 : OA} {k6 : Nat} {A7 : OA} {k8 : Nat} {A9 : OA} {k10 : Nat} {A13 : OA} {k14 : Nat} (S : SL ([blk b2 [.slice A3 x1.out.length k4, .slice A5 x1.body.length k6, .slice A7 x1.index.length k8, .int .i64 x1.many, .int .i64 x1.blocks, .slice A9 x1.last.length k10], sl .own ku8 A3 k4 x1.out, sl .ro ku8 A5 k6 x1.body, sl .own ku8 A7 k8 x1.index, sl .ro ku8 A9 k10 x1.last, sl .ro ku8 A13 k14 x12] ++ F) w) (r : s_builder) (H : f z x1 x11 x12 = some r) : Calls Try.prog 54 #[.pointer (some ⟨b2, 0, none⟩), .int .u8 x11, .slice A13 x12.length k14] w (R F b2 x12 A13 k14 r) := by
 refine enter (vs := [.pointer (some ⟨b2, 0, none⟩), .int .u8 x11, .slice A13 x12.length k14]) Try.func54 rfl Try.ntmps54 (nle rfl) fun a T => ?_
 refine sq (rg (v2 T rfl rfl fun T => ?_))
 replace S := S.dup (i := 5) rfl
 obtain ⟨x16, h15, H⟩ := bd H
 refine rc T Try.call81 rfl rfl (c_Frame.ok _ _ z x11 x12 (S.sel (is := [0]) rfl) _ h15) ?_
 rintro _ _ ⟨A17, k18, rfl, S⟩
 refine ⟨_, rfl, fun _ T => ?_⟩
 replace S := S.join.only [0, 1, 1, 1, 1, 1, 1] rfl
 refine v3 T rfl rfl rfl fun T => v2 T rfl rfl fun T => rg (v3 T rfl rfl rfl fun T => r_fa (o' := 0) T rfl tu61 rfl ts24 rfl rfl fun _ T => lB (ix := 1) T S rfl ti24 rfl rfl rfl fun _ T => v1 T rfl fun T => ?_)
 obtain ⟨h21, H⟩ := ck H
 refine r_app (ix := 2) (iy := 0) (xs := x1.out) (ys := x16.1) T S rfl rfl rfl rfl (by decide) sty24 tu24 (by decide) h21 rfl fun _ _ A19 k20 S T => ?_
 refine v1 T rfl fun T => r_fa (o' := 0) T rfl tu61 rfl ts24 rfl rfl fun _ T => r_stB (ix := 1) T S rfl rfl rfl ts24 rfl (nle rfl) rfl fun _ S => ?_
 obtain rfl := sj H
 exact rtf T Try.func54 rfl rfl ⟨A19, k20, A5, k6, A7, k8, A9, k10, rfl, (S.only [1, 1, 1, 1, 1, 1] rfl)⟩
end s_builder_frame
namespace s_builder_close
noncomputable def c0 : Code := match Try.f29.body with | some c => c | none => .skip
def R (F : List Atom) (b2 : Nat) (r : s_builder) : Ending → World → Prop := fun e w' => ∃ (A36 : OA), ∃ (k37 : Nat), ∃ (A38 : OA), ∃ (k39 : Nat), ∃ (A40 : OA), ∃ (k41 : Nat), ∃ (A42 : OA), ∃ (k43 : Nat), e = .returned (.tuple #[]) ∧ SL ([blk b2 [.slice A36 r.out.length k37, .slice A38 r.body.length k39, .slice A40 r.index.length k41, .int .i64 r.many, .int .i64 r.blocks, .slice A42 r.last.length k43], sl .own ku8 A36 k37 r.out, sl .ro ku8 A38 k39 r.body, sl .own ku8 A40 k41 r.index, sl .ro ku8 A42 k43 r.last] ++ F) w'
def L0 (z : Nat) (x1 x12 : s_builder) : Nat → Int → (List Int) → Option s_builder
 | 0, _, _ => none
 | m + 1, x25, x22 => If (decide (x25 < (3 : Int))) (Ck (0 ≤ x25 ∧ x25 < ([(x1.out.length : Int), wr .i64 ((x12.out.length : Int) - (x1.out.length : Int)), x12.many].length : Int)) (Bd (c_Number.f z (wr .u64 (gi (0 : Int) [(x1.out.length : Int), wr .i64 ((x12.out.length : Int) - (x1.out.length : Int)), x12.many] x25))) fun x3322 => Ck ((x22.length + x3322.length) * 1 ≤ 140737488355328) (L0 z x1 x12 m (wr .i64 (x25 + 1)) (x22 ++ x3322)))) (Bd (c_Text.f z x12.last) fun x28 => Ck ((x22.length + x28.1.length) * 1 ≤ 140737488355328) (some (s_builder.mk x12.out ([] : List Int) (x22 ++ x28.1) 0 (wr .i64 (x12.blocks + 1)) x12.last)))
def f (z : Nat) (x1 : s_builder) : Option s_builder := Bd (s_builder_frame.f z x1 68 x1.body) fun x12 => L0 z x1 x12 z 0 x12.index
noncomputable def ptL0 : List Item := [.code (cB (cB (cR (cL (cR (cR c0)))))), .inLoop (cB (cB (cR (cL (cR (cR c0)))))), .inBlock 0, .code (cr 3 c0)]
abbrev y0 (b2 : Nat) : Option (Value × Bool) := some (.pointer (some ⟨b2, 0, none⟩), true)
abbrev y1 (b2721 : Nat) (x1 x12 : s_builder) : Atom := sl .own ki64 (some ⟨b2721, 0, none⟩) 3 [(x1.out.length : Int), wr .i64 ((x12.out.length : Int) - (x1.out.length : Int)), x12.many]
abbrev y2 (b2 : Nat) : Value := .pointer (some ⟨b2, 0, none⟩)
theorem L0_ok (F : List Atom) (r : s_builder) (z b2 b2721 : Nat) (A14 : OA) (x12 : s_builder) (k15 : Nat) (A16 : OA) (k17 : Nat) (A20 : OA) (k21 : Nat) (x1 : s_builder) (m : Nat) : ∀ (x25 : Int) (A23 : OA) (x22 : List Int) (k24 : Nat) (a : Act) (w : World), Tm 78 [(0, (y2 b2)), (30, .slice (some ⟨b2721, 0, none⟩) 3 3), (31, .int .i64 (3 : Int)), (32, .int .i64 x25)] a → SL ([blk b2 [.slice A14 x12.out.length k15, .slice A16 x12.body.length k17, .slice A23 x22.length k24, .int .i64 x12.many, .int .i64 x12.blocks, .slice A20 x12.last.length k21], sl .own ku8 A14 k15 x12.out, sl .ro ku8 A16 k17 x12.body, sl .own ku8 A23 k24 x22, sl .ro ku8 A20 k21 x12.last, (y1 b2721 x1 x12)] ++ F) w → L0 z x1 x12 m x25 x22 = some r → Gets Try.prog 29 ptL0 a w (R F b2 r) := by
 induction m with
 | zero => intro _ _ _ _ _ _ _ _ H; cases H
 | succ m ih =>
  intro x25 A23 x22 k24 a w T S H
  refine sq (rg (v1 T rfl fun T => sq ?_))
  rcases ifE H with ⟨h26, H⟩ | ⟨h26, H⟩
  ·refine cdT T rfl h26 (sk (sq (bq (sq (rg ?_)))))
   obtain ⟨h34, H⟩ := ck H
   refine r_ia (ix := 5) T S rfl rfl rfl (by simp) tu48 ts3 h34.1 h34.2 rfl fun _ T => ?_
   refine r_ldE (ix := 5) (i := x25) (off := 0) (f := (Value.int .i64)) T S rfl ti3 rfl (0 : Int) _ rfl rfl (Fld.all _) h34.1 h34.2 id rfl fun _ T => v1 T rfl fun T => ?_
   refine Gets.drawn (l := [blk b2 [.slice A14 x12.out.length k15, .slice A16 x12.body.length k17, .slice A23 x22.length k24, .int .i64 x12.many, .int .i64 x12.blocks, .slice A20 x12.last.length k21], sl .own ku8 A14 k15 x12.out, sl .ro ku8 A16 k17 x12.body, sl .own ku8 A23 k24 x22, sl .ro ku8 A20 k21 x12.last, (y1 b2721 x1 x12)]) (V := [(y0 b2), (y0 b2), (y0 b2), some (.pointer (some ⟨b2, 2, none⟩), true), some (.slice A23 x22.length k24, true), some (.int .i64 (gi (0 : Int) [(x1.out.length : Int), wr .i64 ((x12.out.length : Int) - (x1.out.length : Int)), x12.many] x25), true), some (.int .u64 (wr .u64 (gi (0 : Int) [(x1.out.length : Int), wr .i64 ((x12.out.length : Int) - (x1.out.length : Int)), x12.many] x25)), true), none, none, none, none, none]) mixed T S rfl ?_
   refine stage (some 7) rfl rfl ⟨⟨_, _, rfl, (avl [0] rfl), fun _ _ _ T S => v1 T rfl fun T => ⟨rfl, T⟩⟩, ⟨_, _, rfl, (avl [0] rfl), fun _ _ _ T S => v1 T rfl fun T => ⟨rfl, T⟩⟩, ⟨_, _, rfl, (avl [37] rfl), fun _ _ _ T S => v1 T rfl fun T => ⟨rfl, T⟩⟩, ⟨_, _, rfl, (avl [38] rfl), fun _ _ _ T S => r_fa (o' := 2) T rfl tu61 rfl ts24 rfl rfl fun _ T => ⟨rfl, T⟩⟩, ⟨_, _, rfl, (avl [39] rfl), fun _ _ _ T S => lB (ix := 0) T S rfl ti24 rfl rfl rfl fun _ T => ⟨rfl, T⟩⟩, ⟨_, _, rfl, (avl [4] rfl), fun _ _ _ T S => v1 T rfl fun T => ⟨rfl, T⟩⟩, ⟨_, _, rfl, (avl [41] rfl), fun _ _ _ T S => r_conv T rfl tu3 tu34 rfl fun _ T => ⟨rfl, T⟩⟩, trivial⟩ rfl (fun i hi => ?_) (fun h => by cases h)
   cases hi
   refine ⟨rfl, _, _, rfl, (avl [42] rfl), fun u a w T S => ?_⟩
   obtain ⟨x3322, h3321, H⟩ := bd H
   refine rc T tc55 rfl rfl (c_Number.ok _ _ z (wr .u64 (gi (0 : Int) [(x1.out.length : Int), wr .i64 ((x12.out.length : Int) - (x1.out.length : Int)), x12.many] x25)) (S.sel (is := []) rfl) _ h3321) ?_
   rintro _ _ ⟨A3323, k3324, rfl, S⟩
   refine ⟨_, rfl, fun _ T => ?_⟩
   replace S := S.join
   refine ⟨_, [(y0 b2), (y0 b2), (y0 b2), some (.pointer (some ⟨b2, 2, none⟩), true), some (.slice A23 x22.length k24, true), some (.int .i64 (gi (0 : Int) [(x1.out.length : Int), wr .i64 ((x12.out.length : Int) - (x1.out.length : Int)), x12.many] x25), true), some (.int .u64 (wr .u64 (gi (0 : Int) [(x1.out.length : Int), wr .i64 ((x12.out.length : Int) - (x1.out.length : Int)), x12.many] x25)), false), some (.slice A3323 x3322.length k3324, false), none, none, none, none], [sl .own ku8 A3323 k3324 x3322, blk b2 [.slice A14 x12.out.length k15, .slice A16 x12.body.length k17, .slice A23 x22.length k24, .int .i64 x12.many, .int .i64 x12.blocks, .slice A20 x12.last.length k21], sl .own ku8 A14 k15 x12.out, sl .ro ku8 A16 k17 x12.body, sl .own ku8 A23 k24 x22, sl .ro ku8 A20 k21 x12.last, (y1 b2721 x1 x12)], rfl, (by repeat first | exact kx0 | apply kxs | apply kxn), rfl, ?_, T, S⟩
   refine stage (some 8) rfl rfl ⟨⟨_, _, rfl, (avl [0] rfl), fun _ _ _ T S => v1 T rfl fun T => ⟨rfl, T⟩⟩, ⟨_, _, rfl, (avl [0] rfl), fun _ _ _ T S => v1 T rfl fun T => ⟨rfl, T⟩⟩, ⟨_, _, rfl, (avl [37] rfl), fun _ _ _ T S => v1 T rfl fun T => ⟨rfl, T⟩⟩, ⟨_, _, rfl, (avl [38] rfl), fun _ _ _ T S => r_fa (o' := 2) T rfl tu61 rfl ts24 rfl rfl fun _ T => ⟨rfl, T⟩⟩, ⟨_, _, rfl, (avl [39] rfl), fun _ _ _ T S => lB (ix := 1) T S rfl ti24 rfl rfl rfl fun _ T => ⟨rfl, T⟩⟩, ⟨_, _, rfl, (avl [4] rfl), fun _ _ _ T S => v1 T rfl fun T => ⟨rfl, T⟩⟩, trivial⟩ rfl (fun i hi => ?_) (fun h => by cases h)
   cases hi
   refine ⟨rfl, _, _, rfl, (avl [40, 43] rfl), fun u a w T S => ?_⟩
   obtain ⟨h3383, H⟩ := ck H
   refine r_app (ix := 4) (iy := 0) (xs := x22) (ys := x3322) T S rfl rfl rfl rfl (by decide) sty24 tu24 (by decide) h3383 rfl fun _ _ A3381 k3382 S T => ?_
   refine ⟨_, [(y0 b2), (y0 b2), (y0 b2), some (.pointer (some ⟨b2, 2, none⟩), true), some (.slice A23 x22.length k24, false), some (.int .i64 (gi (0 : Int) [(x1.out.length : Int), wr .i64 ((x12.out.length : Int) - (x1.out.length : Int)), x12.many] x25), true), some (.int .u64 (wr .u64 (gi (0 : Int) [(x1.out.length : Int), wr .i64 ((x12.out.length : Int) - (x1.out.length : Int)), x12.many] x25)), false), some (.slice A3323 x3322.length k3324, false), some (.slice A3381 ((x22 ++ x3322).length) k3382, false), (y0 b2), some (.pointer (some ⟨b2, 2, none⟩), true), none], [sl .own ku8 A3323 k3324 x3322, blk b2 [.slice A14 x12.out.length k15, .slice A16 x12.body.length k17, .slice A23 x22.length k24, .int .i64 x12.many, .int .i64 x12.blocks, .slice A20 x12.last.length k21], sl .own ku8 A14 k15 x12.out, sl .ro ku8 A16 k17 x12.body, sl .own ku8 A3381 k3382 (x22 ++ x3322), sl .ro ku8 A20 k21 x12.last, (y1 b2721 x1 x12)], rfl, (by repeat first | exact kx0 | apply kxs | apply kxn), rfl, ?_, T, S⟩
   refine stage (some 11) rfl rfl ⟨⟨_, _, rfl, (avl [0] rfl), fun _ _ _ T S => v1 T rfl fun T => ⟨rfl, T⟩⟩, ⟨_, _, rfl, (avl [0] rfl), fun _ _ _ T S => v1 T rfl fun T => ⟨rfl, T⟩⟩, ⟨_, _, rfl, (avl [37] rfl), fun _ _ _ T S => v1 T rfl fun T => ⟨rfl, T⟩⟩, ⟨_, _, rfl, (avl [38] rfl), fun _ _ _ T S => r_fa (o' := 2) T rfl tu61 rfl ts24 rfl rfl fun _ T => ⟨rfl, T⟩⟩, ⟨_, _, rfl, (avl [4] rfl), fun _ _ _ T S => v1 T rfl fun T => ⟨rfl, T⟩⟩, ⟨_, _, rfl, (avl [36] rfl), fun _ _ _ T S => v1 T rfl fun T => ⟨rfl, T⟩⟩, ⟨_, _, rfl, (avl [45] rfl), fun _ _ _ T S => r_fa (o' := 2) T rfl tu61 rfl ts24 rfl rfl fun _ T => ⟨rfl, T⟩⟩, trivial⟩ rfl (fun i hi => ?_) (fun h => by cases h)
   cases hi
   refine ⟨rfl, _, _, rfl, (avl [44, 46] rfl), fun u a w T S => ?_⟩
   refine r_stB (ix := 1) T S rfl rfl rfl ts24 rfl (nle rfl) rfl fun _ S => ?_
   refine ⟨_, [some ((y2 b2), false), some ((y2 b2), false), some ((y2 b2), false), some (.pointer (some ⟨b2, 2, none⟩), false), some (.slice A23 x22.length k24, false), some (.int .i64 (gi (0 : Int) [(x1.out.length : Int), wr .i64 ((x12.out.length : Int) - (x1.out.length : Int)), x12.many] x25), false), some (.int .u64 (wr .u64 (gi (0 : Int) [(x1.out.length : Int), wr .i64 ((x12.out.length : Int) - (x1.out.length : Int)), x12.many] x25)), false), some (.slice A3323 x3322.length k3324, false), some (.slice A3381 ((x22 ++ x3322).length) k3382, false), (y0 b2), some (.pointer (some ⟨b2, 2, none⟩), false), some (undef, false)], [sl .own ku8 A3323 k3324 x3322, blk b2 [.slice A14 x12.out.length k15, .slice A16 x12.body.length k17, .slice A3381 ((x22 ++ x3322).length) k3382, .int .i64 x12.many, .int .i64 x12.blocks, .slice A20 x12.last.length k21], sl .own ku8 A14 k15 x12.out, sl .ro ku8 A16 k17 x12.body, sl .own ku8 A3381 k3382 (x22 ++ x3322), sl .ro ku8 A20 k21 x12.last, (y1 b2721 x1 x12)], rfl, (by repeat first | exact kx0 | apply kxs | apply kxn), rfl, ?_, T, S⟩
   refine stage none rfl rfl ⟨⟨_, _, rfl, (avl [36] rfl), fun _ _ _ T S => v1 T rfl fun T => ⟨rfl, T⟩⟩, trivial⟩ rfl (fun i hi => by cases hi) (fun _ _ a w T hv hb S => ?_)
   replace T := T.sub (r := [(0, (y2 b2)), (30, .slice (some ⟨b2721, 0, none⟩) 3 3), (31, .int .i64 (3 : Int)), (32, .int .i64 x25)]) ⟨hb 0 _ rfl rfl, hb 30 _ rfl rfl, hb 31 _ rfl rfl, hb 32 _ rfl rfl, trivial⟩
   refine Gets.inBlock (rg (v2 T rfl rfl fun T => Gets.inLoop ?_))
   have T := T.re (s := 30) (v' := .slice (some ⟨b2721, 0, none⟩) [(x1.out.length : Int), wr .i64 ((x12.out.length : Int) - (x1.out.length : Int)), x12.many].length 3) rfl (by simp)
   exact ih (wr .i64 (x25 + 1)) A3381 (x22 ++ x3322) k3382 _ _ (T.sb rfl) (S.only [1, 1, 1, 1, 1, 1] rfl) H
  ·refine cdF T rfl h26 (Gets.exit rfl (sq (rg (v2 T rfl rfl fun T => r_fa (o' := 5) T rfl tu61 rfl ts24 rfl rfl fun _ T => lB (ix := 0) T S rfl ti24 rfl rfl rfl fun _ T => ?_))))
   obtain ⟨x28, h27, H⟩ := bd H
   refine rc T Try.call56 rfl rfl (c_Text.ok _ _ z x12.last (S.sel (is := [4]) rfl) _ h27) ?_
   rintro _ _ ⟨A29, k30, rfl, S⟩
   refine ⟨_, rfl, fun _ T => ?_⟩
   replace S := S.join
   refine v3 T rfl rfl rfl fun T => v2 T rfl rfl fun T => sq (rg (v3 T rfl rfl rfl fun T => r_fa (o' := 2) T rfl tu61 rfl ts24 rfl rfl fun _ T => lB (ix := 2) T S rfl ti24 rfl rfl rfl fun _ T => v1 T rfl fun T => ?_))
   obtain ⟨h33, H⟩ := ck H
   refine r_app (ix := 5) (iy := 0) (xs := x22) (ys := x28.1) T S rfl rfl rfl rfl (by decide) sty24 tu24 (by decide) h33 rfl fun _ _ A31 k32 S T => ?_
   refine v1 T rfl fun T => r_fa (o' := 2) T rfl tu61 rfl ts24 rfl rfl fun _ T => r_stB (ix := 2) T S rfl rfl rfl ts24 rfl (nle rfl) rfl fun _ S => sq (rg (v3 T rfl rfl rfl fun T => r_fa (o' := 1) T rfl tu61 rfl ts24 rfl rfl fun _ T => r_stB (ix := 2) T S rfl rfl rfl ts24 rfl (nle rfl) rfl fun _ S => v1 T rfl fun T => r_fa (o' := 3) T rfl tu61 rfl ts3 rfl rfl fun _ T => r_stB (ix := 2) T S rfl rfl rfl ts3 rfl (nle rfl) rfl fun _ S => rg (v2 T rfl rfl fun T => r_fa (o' := 4) T rfl tu61 rfl ts3 rfl rfl fun _ T => lB (ix := 2) T S rfl ti3 rfl rfl rfl fun _ T => v2 T rfl rfl fun T => r_fa (o' := 4) T rfl tu61 rfl ts3 rfl rfl fun _ T => r_stB (ix := 2) T S rfl rfl rfl ts3 rfl (nle rfl) rfl fun _ S => ?_)))
   replace S := S.nil ku8 .ro
   replace S : SL ([sl .ro ku8 none 0 ([] : List Int), sl .own ku8 A29 k30 x28.1, sl .ro ku8 A20 k21 x12.last, blk b2 [.slice A14 x12.out.length k15, .slice none (([] : List Int).length) 0, .slice A31 ((x22 ++ x28.1).length) k32, .int .i64 0, .int .i64 (wr .i64 (x12.blocks + 1)), .slice A20 x12.last.length k21], sl .own ku8 A14 k15 x12.out, sl .ro ku8 A16 k17 x12.body, sl .own ku8 A31 k32 (x22 ++ x28.1), (y1 b2721 x1 x12)] ++ F) _ := S.reB (i := 3) rfl (by simp) rfl
   obtain rfl := sj H
   exact rtf T Try.func29 rfl rfl ⟨A14, k15, none, 0, A31, k32, A20, k21, rfl, (S.only [3, 3, 0, 3, 1] rfl)⟩
theorem ok (F : List Atom) (w : World) (z : Nat) (x1 : s_builder) {b2 : Nat} {A3 : OA} {k4 : Nat} {A5 : OA} {k6 : Nat} {A7 : OA} {k8 : Nat} {A9 : OA} {k10 : Nat} (S : SL ([blk b2 [.slice A3 x1.out.length k4, .slice A5 x1.body.length k6, .slice A7 x1.index.length k8, .int .i64 x1.many, .int .i64 x1.blocks, .slice A9 x1.last.length k10], sl .own ku8 A3 k4 x1.out, sl .ro ku8 A5 k6 x1.body, sl .own ku8 A7 k8 x1.index, sl .ro ku8 A9 k10 x1.last] ++ F) w) (r : s_builder) (H : f z x1 = some r) : Calls Try.prog 29 #[(y2 b2)] w (R F b2 r) := by
 refine enter (vs := [(y2 b2)]) Try.func29 rfl Try.ntmps29 (nle rfl) fun a T => ?_
 refine sq (rg (v2 T rfl rfl fun T => r_fa (o' := 0) T rfl tu61 rfl ts24 rfl rfl fun _ T => lB (ix := 0) T S rfl ti24 rfl rfl rfl fun _ T => rn T rfl tu24 rfl fun _ T => v1 T rfl fun T => sq (rg (v3 T rfl rfl rfl fun T => r_fa (o' := 1) T rfl tu61 rfl ts24 rfl rfl fun _ T => lB (ix := 0) T S rfl ti24 rfl rfl rfl fun _ T => ?_))))
 replace S := S.dup (i := 2) rfl
 obtain ⟨x12, h11, H⟩ := bd H
 refine rc T Try.call54 rfl rfl (s_builder_frame.ok _ _ z x1 68 x1.body (S.sel (is := [1, 1, 1, 1, 1, 0]) rfl) _ h11) ?_
 rintro _ _ ⟨A14, k15, A16, k17, A18, k19, A20, k21, rfl, S⟩
 refine ⟨_, rfl, fun _ T => ?_⟩
 replace S := S.join.only [0, 0, 0, 0, 0] rfl
 refine sq (sq ?_)
 refine Gets.drawn (l := [blk b2 [.slice A14 x12.out.length k15, .slice A16 x12.body.length k17, .slice A18 x12.index.length k19, .int .i64 x12.many, .int .i64 x12.blocks, .slice A20 x12.last.length k21], sl .own ku8 A14 k15 x12.out, sl .ro ku8 A16 k17 x12.body, sl .own ku8 A18 k19 x12.index, sl .ro ku8 A20 k21 x12.last]) (V := [some (.int .i64 (x1.out.length : Int), true), (y0 b2), (y0 b2), (y0 b2), some (.slice A14 x12.out.length k15, true), some (.int .i64 (x12.out.length : Int), true), some (.int .i64 (x1.out.length : Int), true), some (.int .i64 (wr .i64 ((x12.out.length : Int) - (x1.out.length : Int))), true), (y0 b2), (y0 b2), some (.pointer (some ⟨b2, 3, none⟩), true), some (.int .i64 x12.many, true), none, none, some (.int .i64 0, true)]) mixed T S rfl ?_
 refine stage (some 12) rfl rfl ⟨⟨_, _, rfl, (avl [2] rfl), fun _ _ _ T S => v1 T rfl fun T => ⟨rfl, T⟩⟩, ⟨_, _, rfl, (avl [0] rfl), fun _ _ _ T S => v1 T rfl fun T => ⟨rfl, T⟩⟩, ⟨_, _, rfl, (avl [19] rfl), fun _ _ _ T S => v1 T rfl fun T => ⟨rfl, T⟩⟩, ⟨_, _, rfl, (avl [20] rfl), fun _ _ _ T S => r_fa (o' := 0) T rfl tu61 rfl ts24 rfl rfl fun _ T => ⟨rfl, T⟩⟩, ⟨_, _, rfl, (avl [21] rfl), fun _ _ _ T S => lB (ix := 0) T S rfl ti24 rfl rfl rfl fun _ T => ⟨rfl, T⟩⟩, ⟨_, _, rfl, (avl [22] rfl), fun _ _ _ T S => rn T rfl tu24 rfl fun _ T => ⟨rfl, T⟩⟩, ⟨_, _, rfl, (avl [2] rfl), fun _ _ _ T S => v1 T rfl fun T => ⟨rfl, T⟩⟩, ⟨_, _, rfl, (avl [23, 24] rfl), fun _ _ _ T S => v1 T rfl fun T => ⟨rfl, T⟩⟩, ⟨_, _, rfl, (avl [0] rfl), fun _ _ _ T S => v1 T rfl fun T => ⟨rfl, T⟩⟩, ⟨_, _, rfl, (avl [26] rfl), fun _ _ _ T S => v1 T rfl fun T => ⟨rfl, T⟩⟩, ⟨_, _, rfl, (avl [27] rfl), fun _ _ _ T S => r_fa (o' := 3) T rfl tu61 rfl ts3 rfl rfl fun _ T => ⟨rfl, T⟩⟩, ⟨_, _, rfl, (avl [28] rfl), fun _ _ _ T S => lB (ix := 0) T S rfl ti3 rfl rfl rfl fun _ T => ⟨rfl, T⟩⟩, ⟨_, [], rfl, trivial, fun _ _ _ T S => v1 T rfl fun T => ⟨rfl, T⟩⟩, trivial⟩ rfl (fun i hi => ?_) (fun h => by cases h)
 cases hi
 refine ⟨rfl, _, _, rfl, (avl [18, 25, 29] rfl), fun u a w T S => ?_⟩
 replace S := SL.val (κ := ki64) (x := (x1.out.length : Int)) (cs := [.int .i64 (x1.out.length : Int)]) (fun _ => rfl) S
 replace S := SL.val (κ := ki64) (x := wr .i64 ((x12.out.length : Int) - (x1.out.length : Int))) (cs := [.int .i64 (wr .i64 ((x12.out.length : Int) - (x1.out.length : Int)))]) (fun _ => rfl) S
 replace S := SL.val (κ := ki64) (x := x12.many) (cs := [.int .i64 x12.many]) (fun _ => rfl) S
 refine r_bsl (κ := ki64) (xs := [(x1.out.length : Int), wr .i64 ((x12.out.length : Int) - (x1.out.length : Int)), x12.many]) (vs := [.int .i64 (x1.out.length : Int), .int .i64 (wr .i64 ((x12.out.length : Int) - (x1.out.length : Int))), .int .i64 x12.many]) T S sty48 rfl ⟨_, _, rfl, ⟨2, rfl⟩, ⟨_, _, rfl, ⟨1, rfl⟩, ⟨_, _, rfl, ⟨0, rfl⟩, rfl⟩⟩⟩ rfl (by decide) rfl fun _ _ b2721 S T => ?_
 replace S := S.only [0, 3, 3, 3, 3, 3] rfl
 refine ⟨_, [some (.int .i64 (x1.out.length : Int), false), (y0 b2), (y0 b2), (y0 b2), some (.slice A14 x12.out.length k15, true), some (.int .i64 (x12.out.length : Int), true), some (.int .i64 (x1.out.length : Int), true), some (.int .i64 (wr .i64 ((x12.out.length : Int) - (x1.out.length : Int))), false), (y0 b2), (y0 b2), some (.pointer (some ⟨b2, 3, none⟩), true), some (.int .i64 x12.many, false), some (.slice (some ⟨b2721, 0, none⟩) 3 3, false), some (.int .i64 (3 : Int), true), some (.int .i64 0, true)], [(y1 b2721 x1 x12), blk b2 [.slice A14 x12.out.length k15, .slice A16 x12.body.length k17, .slice A18 x12.index.length k19, .int .i64 x12.many, .int .i64 x12.blocks, .slice A20 x12.last.length k21], sl .own ku8 A14 k15 x12.out, sl .ro ku8 A16 k17 x12.body, sl .own ku8 A18 k19 x12.index, sl .ro ku8 A20 k21 x12.last], rfl, (by repeat first | exact kx0 | apply kxs | apply kxn), rfl, ?_, T, S⟩
 refine stage none rfl rfl ⟨⟨_, _, rfl, (avl [0] rfl), fun _ _ _ T S => v1 T rfl fun T => ⟨rfl, T⟩⟩, ⟨_, _, rfl, (avl [19] rfl), fun _ _ _ T S => v1 T rfl fun T => ⟨rfl, T⟩⟩, ⟨_, _, rfl, (avl [20] rfl), fun _ _ _ T S => r_fa (o' := 0) T rfl tu61 rfl ts24 rfl rfl fun _ T => ⟨rfl, T⟩⟩, ⟨_, _, rfl, (avl [21] rfl), fun _ _ _ T S => lB (ix := 1) T S rfl ti24 rfl rfl rfl fun _ T => ⟨rfl, T⟩⟩, ⟨_, _, rfl, (avl [22] rfl), fun _ _ _ T S => rn T rfl tu24 rfl fun _ T => ⟨rfl, T⟩⟩, ⟨_, _, rfl, (avl [2] rfl), fun _ _ _ T S => v1 T rfl fun T => ⟨rfl, T⟩⟩, ⟨_, _, rfl, (avl [0] rfl), fun _ _ _ T S => v1 T rfl fun T => ⟨rfl, T⟩⟩, ⟨_, _, rfl, (avl [26] rfl), fun _ _ _ T S => v1 T rfl fun T => ⟨rfl, T⟩⟩, ⟨_, _, rfl, (avl [27] rfl), fun _ _ _ T S => r_fa (o' := 3) T rfl tu61 rfl ts3 rfl rfl fun _ T => ⟨rfl, T⟩⟩, ⟨_, _, rfl, (avl [30] rfl), fun _ _ _ T S => rn T rfl tu48 rfl fun _ T => ⟨rfl, T⟩⟩, ⟨_, [], rfl, trivial, fun _ _ _ T S => v1 T rfl fun T => ⟨rfl, T⟩⟩, trivial⟩ rfl (fun i hi => by cases hi) (fun _ _ a w T hv hb S => ?_)
 replace T := T.sub (r := [(0, (y2 b2)), (30, .slice (some ⟨b2721, 0, none⟩) 3 3), (31, .int .i64 (3 : Int)), (32, .int .i64 0)]) ⟨hb 0 _ rfl rfl, hv 12 _ 30 rfl rfl rfl, hv 13 _ 31 rfl rfl rfl, hv 14 _ 32 rfl rfl rfl, trivial⟩
 refine bq (Gets.loop ?_)
 have T := T.re (s := 30) (v' := .slice (some ⟨b2721, 0, none⟩) [(x1.out.length : Int), wr .i64 ((x12.out.length : Int) - (x1.out.length : Int)), x12.many].length 3) rfl (by simp)
 exact L0_ok F r z b2 b2721 A14 x12 k15 A16 k17 A20 k21 x1 z 0 A18 x12.index k19 _ _ (T.sb rfl) (S.only [1, 1, 1, 1, 1, 0] rfl) H
end s_builder_close
namespace s_lay
noncomputable def c0 : Code := match Try.f53.body with | some c => c | none => .skip
def R (F : List Atom) (x1 : List Int) (A2 : OA) (m3 : Md) (x4 : List Int) (A5 : OA) (k6 : Nat) (m7 : Md) (x8 : aE) (A9 : OA) (k10 : Nat) (A11 : OA) (k12 : Nat) (r : (List Int)) : Ending → World → Prop := fun e w' => ∃ (A51 : OA), ∃ (k52 : Nat), e = .returned (.slice A51 r.length k52) ∧ SL ([sl .own ku8 A51 k52 r, sl m3 ku8 A2 x1.length x1, sl m7 ku8 A5 k6 x4, sl .ro ku8 A9 k10 x8.Key, sl .ro ku8 A11 k12 x8.Value] ++ F) w'
def J2 (z : Nat) (x1 : List Int) (x8 : aE) (x14 x18 : Int) : Option (List Int) := Bd (c_Number.f z (wr .u64 x14)) fun x20 => Ck ((x1.length + x20.length) * 1 ≤ 140737488355328 ∧ 0 < x20.length) (Bd (c_Number.f z (wr .u64 (wr .i64 ((x8.Key.length : Int) - x14)))) fun x27 => Ck (((x1 ++ x20).length + x27.length) * 1 ≤ 140737488355328) (Bd (c_Number.f z x8.Seq) fun x34 => Ck ((((x1 ++ x20) ++ x27).length + x34.length) * 1 ≤ 140737488355328) (Ck (((((x1 ++ x20) ++ x27) ++ x34).length + [x18].length) * 1 ≤ 140737488355328) (Bd (c_Number.f z (wr .u64 (x8.Value.length : Int))) fun x45 => Ck ((((((x1 ++ x20) ++ x27) ++ x34) ++ [x18]).length + x45.length) * 1 ≤ 140737488355328) (Ck (0 ≤ x14 ∧ x14 ≤ (x8.Key.length : Int)) (Ck (((((((x1 ++ x20) ++ x27) ++ x34) ++ [x18]) ++ x45).length + (cut x8.Key (Int.toNat x14) (Int.toNat (x8.Key.length : Int))).length) * 1 ≤ 140737488355328) (Ck ((((((((x1 ++ x20) ++ x27) ++ x34) ++ [x18]) ++ x45) ++ (cut x8.Key (Int.toNat x14) (Int.toNat (x8.Key.length : Int)))).length + x8.Value.length) * 1 ≤ 140737488355328) (some (((((((x1 ++ x20) ++ x27) ++ x34) ++ [x18]) ++ x45) ++ (cut x8.Key (Int.toNat x14) (Int.toNat (x8.Key.length : Int)))) ++ x8.Value)))))))))
def J1 (z : Nat) (x1 : List Int) (x8 : aE) (x14 : Int) : Option (List Int) := If x8.Del (J2 z x1 x8 x14 1) (J2 z x1 x8 x14 0)
def L0 (z : Nat) (x1 x4 : List Int) (x8 : aE) : Nat → Int → Option (List Int)
 | 0, _ => none
 | m + 1, x14 => If (decide (x14 < (mn (x4.length : Int) (x8.Key.length : Int)))) (Ck (0 ≤ x14 ∧ x14 < (x4.length : Int)) (Ck (x14 < (x8.Key.length : Int)) (If ((gi (0 : Int) x4 x14) == (gi (0 : Int) x8.Key x14)) (L0 z x1 x4 x8 m (wr .i64 (x14 + 1))) (J1 z x1 x8 x14)))) (J1 z x1 x8 x14)
def f (z : Nat) (x1 x4 : List Int) (x8 : aE) : Option (List Int) := L0 z x1 x4 x8 z 0
noncomputable def ptJ2 : List Item := [.code (cL (cr 5 c0)), .code (cr 6 c0)]
noncomputable def ptJ1 : List Item := [.code (cL (cr 3 c0)), .code (cr 4 c0)]
noncomputable def ptL0 : List Item := [.code (cB (cB (cL (cR (cR c0))))), .inLoop (cB (cB (cL (cR (cR c0))))), .inBlock 0, .code (cr 3 c0)]
abbrev y0 (A9 : OA) (x8 : aE) (k10 : Nat) (A11 : OA) (k12 : Nat) : List Value := [.slice A9 x8.Key.length k10, .int .u64 x8.Seq, .bool x8.Del, .slice A11 x8.Value.length k12]
abbrev y1 (b13 : Nat) : Value := .pointer (some ⟨b13, 0, none⟩)
abbrev y2 (A9 : OA) (k10 : Nat) (x14 : Int) (x8 : aE) : Value := .slice (slA A9 (Int.toNat (k10 : Int)) (Int.toNat x14) 1) ((cut x8.Key (Int.toNat x14) (Int.toNat (x8.Key.length : Int))).length) (Int.toNat (k10 : Int) - Int.toNat x14)
abbrev y3 (A9 : OA) (k10 : Nat) (x14 : Int) (x8 : aE) : Atom := sl .ro ku8 (slA A9 (Int.toNat (k10 : Int)) (Int.toNat x14) 1) (Int.toNat (k10 : Int) - Int.toNat x14) (cut x8.Key (Int.toNat x14) (Int.toNat (x8.Key.length : Int)))
theorem J2_ok (F : List Atom) (r : (List Int)) (z : Nat) (x1 : List Int) (A2 : OA) (m3 : Md) (x4 : List Int) (A5 : OA) (k6 : Nat) (m7 : Md) (x8 : aE) (A9 : OA) (k10 : Nat) (A11 : OA) (k12 b13 : Nat) (x14 x18 : Int) (a : Act) (w : World) (T : Tm 71 [(0, .slice A2 x1.length x1.length), (5, (y1 b13)), (7, .int .i64 x14), (8, .int .u8 x18)] a) (S : SL ([sl m3 ku8 A2 x1.length x1, sl m7 ku8 A5 k6 x4, sl .ro ku8 A9 k10 x8.Key, sl .ro ku8 A11 k12 x8.Value, blk b13 (y0 A9 x8 k10 A11 k12)] ++ F) w) (H : J2 z x1 x8 x14 x18 = some r) : Gets Try.prog 53 ptJ2 a w (R F x1 A2 m3 x4 A5 k6 m7 x8 A9 k10 A11 k12 r) := by
 refine rg (v2 T rfl rfl fun T => r_conv T rfl tu3 tu34 rfl fun _ T => ?_)
 obtain ⟨x20, h19, H⟩ := bd H
 refine rc T tc55 rfl rfl (c_Number.ok _ _ z (wr .u64 x14) (S.sel (is := []) rfl) _ h19) ?_
 rintro _ _ ⟨A21, k22, rfl, S⟩
 refine ⟨_, rfl, fun _ T => ?_⟩
 replace S := S.join
 obtain ⟨h25, H⟩ := ck H
 refine r_appT (ix := 1) (iy := 0) (xs := x1) (ys := x20) T S rfl rfl rfl rfl rfl h25.2 sty24 tu24 (by decide) h25.1 rfl fun _ _ A23 k24 S T => ?_
 refine v1 T rfl fun T => sq (rg (v1 T rfl fun T => r_fa (o' := 0) T rfl tu36 rfl ts24 rfl rfl fun _ T => lB (ix := 6) T S rfl ti24 rfl rfl rfl fun _ T => rn T rfl tu24 rfl fun _ T => v2 T rfl rfl fun T => r_conv T rfl tu3 tu34 rfl fun _ T => ?_))
 obtain ⟨x27, h26, H⟩ := bd H
 refine rc T tc55 rfl rfl (c_Number.ok _ _ z (wr .u64 (wr .i64 ((x8.Key.length : Int) - x14))) (S.sel (is := []) rfl) _ h26) ?_
 rintro _ _ ⟨A28, k29, rfl, S⟩
 refine ⟨_, rfl, fun _ T => ?_⟩
 replace S := S.join
 obtain ⟨h32, H⟩ := ck H
 refine r_app (ix := 1) (iy := 0) (xs := (x1 ++ x20)) (ys := x27) T S rfl rfl rfl rfl (by decide) sty24 tu24 (by decide) h32 rfl fun _ _ A30 k31 S T => ?_
 refine v1 T rfl fun T => sq (rg (v1 T rfl fun T => r_fa (o' := 1) T rfl tu36 rfl ts34 rfl rfl fun _ T => lB (ix := 7) T S rfl ti34 rfl rfl rfl fun _ T => ?_))
 obtain ⟨x34, h33, H⟩ := bd H
 refine rc T tc55 rfl rfl (c_Number.ok _ _ z x8.Seq (S.sel (is := []) rfl) _ h33) ?_
 rintro _ _ ⟨A35, k36, rfl, S⟩
 refine ⟨_, rfl, fun _ T => ?_⟩
 replace S := S.join
 obtain ⟨h39, H⟩ := ck H
 refine r_app (ix := 2) (iy := 0) (xs := ((x1 ++ x20) ++ x27)) (ys := x34) T S rfl rfl rfl rfl (by decide) sty24 tu24 (by decide) h39 rfl fun _ _ A37 k38 S T => ?_
 refine v1 T rfl fun T => ?_
 replace S := SL.val (κ := ku8) (x := x18) (cs := [.int .u8 x18]) (fun _ => rfl) S
 refine r_bsl (κ := ku8) (xs := [x18]) (vs := [.int .u8 x18]) T S sty24 rfl ⟨_, _, rfl, ⟨0, rfl⟩, rfl⟩ rfl (by decide) rfl fun _ _ b40 S T => ?_
 replace S := S.only [0, 1, 1, 1, 1, 1, 1, 1, 1, 1] rfl
 obtain ⟨h43, H⟩ := ck H
 refine r_app (ix := 3) (iy := 0) (xs := (((x1 ++ x20) ++ x27) ++ x34)) (ys := [x18]) T S rfl rfl rfl rfl (by decide) sty24 tu24 (by decide) h43 rfl fun _ _ A41 k42 S T => ?_
 refine v1 T rfl fun T => sq (rg (v1 T rfl fun T => r_fa (o' := 3) T rfl tu36 rfl ts24 rfl rfl fun _ T => lB (ix := 9) T S rfl ti24 rfl rfl rfl fun _ T => rn T rfl tu24 rfl fun _ T => r_conv T rfl tu3 tu34 rfl fun _ T => ?_))
 obtain ⟨x45, h44, H⟩ := bd H
 refine rc T tc55 rfl rfl (c_Number.ok _ _ z (wr .u64 (x8.Value.length : Int)) (S.sel (is := []) rfl) _ h44) ?_
 rintro _ _ ⟨A46, k47, rfl, S⟩
 refine ⟨_, rfl, fun _ T => ?_⟩
 replace S := S.join
 obtain ⟨h50, H⟩ := ck H
 refine r_app (ix := 4) (iy := 0) (xs := ((((x1 ++ x20) ++ x27) ++ x34) ++ [x18])) (ys := x45) T S rfl rfl rfl rfl (by decide) sty24 tu24 (by decide) h50 rfl fun _ _ A48 k49 S T => ?_
 refine v1 T rfl fun T => sq ?_
 have h3441 := S.len (i := 8) rfl
 obtain ⟨h3442, H⟩ := ck H
 replace S := S.cutR (ix := 8) (i := x14) (j := (x8.Key.length : Int)) (k := (k10 : Int)) rfl h3442.1 h3442.2 (Int.le_refl _) (by omega) (by omega)
 refine Gets.drawn (l := [(y3 A9 k10 x14 x8), sl .own ku8 A48 k49 (((((x1 ++ x20) ++ x27) ++ x34) ++ [x18]) ++ x45), sl m3 ku8 A2 x1.length x1, sl m7 ku8 A5 k6 x4, sl .ro ku8 A9 k10 x8.Key, sl .ro ku8 A11 k12 x8.Value, blk b13 (y0 A9 x8 k10 A11 k12)]) (V := [some (.slice A48 ((((((x1 ++ x20) ++ x27) ++ x34) ++ [x18]) ++ x45).length) k49, true), some ((y1 b13), true), some (.slice A9 x8.Key.length k10, true), some (.int .i64 x14, true), some ((y2 A9 k10 x14 x8), true), none, some (.pointer (some ⟨b13, 3, none⟩), true), some (.slice A11 x8.Value.length k12, true), none, none]) mixed T (S.only [0, 4, 5, 5, 5, 5, 5] rfl) rfl ?_
 refine stage (some 5) rfl rfl ⟨⟨_, _, rfl, (avl [0] rfl), fun _ _ _ T S => v1 T rfl fun T => ⟨rfl, T⟩⟩, ⟨_, _, rfl, (avl [5] rfl), fun _ _ _ T S => r_fa (o' := 0) T rfl tu36 rfl ts24 rfl rfl fun _ T => ⟨rfl, T⟩⟩, ⟨_, _, rfl, (avl [63] rfl), fun _ _ _ T S => lB (ix := 6) T S rfl ti24 rfl rfl rfl fun _ T => ⟨rfl, T⟩⟩, ⟨_, _, rfl, (avl [7] rfl), fun _ _ _ T S => v1 T rfl fun T => ⟨rfl, T⟩⟩, ⟨_, _, rfl, (avl [64, 65] rfl), fun _ _ _ T S => r_slQ (xs := x8.Key) T rfl (fun h => by cases h) rfl rfl rfl h3442.1 h3442.2 (Int.le_refl _) (by omega) (by omega) tu24 ts5 rfl fun _ T => ⟨rfl, T⟩⟩, ⟨_, _, rfl, (avl [5] rfl), fun _ _ _ T S => r_fa (o' := 3) T rfl tu36 rfl ts24 rfl rfl fun _ T => ⟨rfl, T⟩⟩, ⟨_, _, rfl, (avl [68] rfl), fun _ _ _ T S => lB (ix := 6) T S rfl ti24 rfl rfl rfl fun _ T => ⟨rfl, T⟩⟩, trivial⟩ rfl (fun i hi => ?_) (fun h => by cases h)
 cases hi
 refine ⟨rfl, _, _, rfl, (avl [62, 66] rfl), fun u a w T S => ?_⟩
 obtain ⟨h3503, H⟩ := ck H
 refine r_app (ix := 1) (iy := 0) (xs := (((((x1 ++ x20) ++ x27) ++ x34) ++ [x18]) ++ x45)) (ys := (cut x8.Key (Int.toNat x14) (Int.toNat (x8.Key.length : Int)))) T S rfl rfl rfl rfl (by decide) sty24 tu24 (by decide) h3503 rfl fun _ _ A3501 k3502 S T => ?_
 refine ⟨_, [some (.slice A48 ((((((x1 ++ x20) ++ x27) ++ x34) ++ [x18]) ++ x45).length) k49, false), some ((y1 b13), true), some (.slice A9 x8.Key.length k10, true), some (.int .i64 x14, true), some ((y2 A9 k10 x14 x8), false), some (.slice A3501 (((((((x1 ++ x20) ++ x27) ++ x34) ++ [x18]) ++ x45) ++ (cut x8.Key (Int.toNat x14) (Int.toNat (x8.Key.length : Int)))).length) k3502, false), some (.pointer (some ⟨b13, 3, none⟩), true), some (.slice A11 x8.Value.length k12, true), none, none], [(y3 A9 k10 x14 x8), sl .own ku8 A3501 k3502 ((((((x1 ++ x20) ++ x27) ++ x34) ++ [x18]) ++ x45) ++ (cut x8.Key (Int.toNat x14) (Int.toNat (x8.Key.length : Int)))), sl m3 ku8 A2 x1.length x1, sl m7 ku8 A5 k6 x4, sl .ro ku8 A9 k10 x8.Key, sl .ro ku8 A11 k12 x8.Value, blk b13 (y0 A9 x8 k10 A11 k12)], rfl, (by repeat first | exact kx0 | apply kxs | apply kxn), rfl, ?_, T, S⟩
 refine stage (some 8) rfl rfl ⟨⟨_, _, rfl, (avl [5] rfl), fun _ _ _ T S => r_fa (o' := 0) T rfl tu36 rfl ts24 rfl rfl fun _ T => ⟨rfl, T⟩⟩, ⟨_, _, rfl, (avl [63] rfl), fun _ _ _ T S => lB (ix := 6) T S rfl ti24 rfl rfl rfl fun _ T => ⟨rfl, T⟩⟩, ⟨_, _, rfl, (avl [7] rfl), fun _ _ _ T S => v1 T rfl fun T => ⟨rfl, T⟩⟩, ⟨_, _, rfl, (avl [5] rfl), fun _ _ _ T S => r_fa (o' := 3) T rfl tu36 rfl ts24 rfl rfl fun _ T => ⟨rfl, T⟩⟩, ⟨_, _, rfl, (avl [68] rfl), fun _ _ _ T S => lB (ix := 6) T S rfl ti24 rfl rfl rfl fun _ T => ⟨rfl, T⟩⟩, trivial⟩ rfl (fun i hi => ?_) (fun h => by cases h)
 cases hi
 refine ⟨rfl, _, _, rfl, (avl [67, 69] rfl), fun u a w T S => ?_⟩
 obtain ⟨h3683, H⟩ := ck H
 refine r_app (ix := 1) (iy := 5) (xs := ((((((x1 ++ x20) ++ x27) ++ x34) ++ [x18]) ++ x45) ++ (cut x8.Key (Int.toNat x14) (Int.toNat (x8.Key.length : Int))))) (ys := x8.Value) T S rfl rfl rfl rfl (by decide) sty24 tu24 (by decide) h3683 rfl fun _ _ A3681 k3682 S T => ?_
 refine ⟨_, [some (.slice A48 ((((((x1 ++ x20) ++ x27) ++ x34) ++ [x18]) ++ x45).length) k49, false), some ((y1 b13), true), some (.slice A9 x8.Key.length k10, true), some (.int .i64 x14, true), some ((y2 A9 k10 x14 x8), false), some (.slice A3501 (((((((x1 ++ x20) ++ x27) ++ x34) ++ [x18]) ++ x45) ++ (cut x8.Key (Int.toNat x14) (Int.toNat (x8.Key.length : Int)))).length) k3502, false), some (.pointer (some ⟨b13, 3, none⟩), true), some (.slice A11 x8.Value.length k12, false), some (.slice A3681 ((((((((x1 ++ x20) ++ x27) ++ x34) ++ [x18]) ++ x45) ++ (cut x8.Key (Int.toNat x14) (Int.toNat (x8.Key.length : Int)))) ++ x8.Value).length) k3682, false), some (.slice A3681 ((((((((x1 ++ x20) ++ x27) ++ x34) ++ [x18]) ++ x45) ++ (cut x8.Key (Int.toNat x14) (Int.toNat (x8.Key.length : Int)))) ++ x8.Value).length) k3682, true)], [(y3 A9 k10 x14 x8), sl .own ku8 A3681 k3682 (((((((x1 ++ x20) ++ x27) ++ x34) ++ [x18]) ++ x45) ++ (cut x8.Key (Int.toNat x14) (Int.toNat (x8.Key.length : Int)))) ++ x8.Value), sl m3 ku8 A2 x1.length x1, sl m7 ku8 A5 k6 x4, sl .ro ku8 A9 k10 x8.Key, sl .ro ku8 A11 k12 x8.Value, blk b13 (y0 A9 x8 k10 A11 k12)], rfl, (by repeat first | exact kx0 | apply kxs | apply kxn), rfl, ?_, T, S⟩
 refine stage none rfl rfl ⟨⟨_, _, rfl, (avl [5] rfl), fun _ _ _ T S => r_fa (o' := 0) T rfl tu36 rfl ts24 rfl rfl fun _ T => ⟨rfl, T⟩⟩, ⟨_, _, rfl, (avl [63] rfl), fun _ _ _ T S => lB (ix := 6) T S rfl ti24 rfl rfl rfl fun _ T => ⟨rfl, T⟩⟩, ⟨_, _, rfl, (avl [7] rfl), fun _ _ _ T S => v1 T rfl fun T => ⟨rfl, T⟩⟩, ⟨_, _, rfl, (avl [5] rfl), fun _ _ _ T S => r_fa (o' := 3) T rfl tu36 rfl ts24 rfl rfl fun _ T => ⟨rfl, T⟩⟩, ⟨_, _, rfl, (avl [70] rfl), fun _ _ _ T S => v1 T rfl fun T => ⟨rfl, T⟩⟩, trivial⟩ rfl (fun i hi => by cases hi) (fun _ _ a w T hv hb S => ?_)
 replace T := T.sub (r := [(6, .slice A3681 ((((((((x1 ++ x20) ++ x27) ++ x34) ++ [x18]) ++ x45) ++ (cut x8.Key (Int.toNat x14) (Int.toNat (x8.Key.length : Int)))) ++ x8.Value).length) k3682)]) ⟨hv 9 _ 6 rfl rfl rfl, trivial⟩
 obtain rfl := sj H
 exact rtn T Try.func53 rfl rfl ⟨A3681, k3682, rfl, (S.only [1, 1, 1, 1, 1] rfl)⟩
theorem J1_ok (F : List Atom) (r : (List Int)) (z : Nat) (x1 : List Int) (A2 : OA) (m3 : Md) (x4 : List Int) (A5 : OA) (k6 : Nat) (m7 : Md) (x8 : aE) (A9 : OA) (k10 : Nat) (A11 : OA) (k12 b13 : Nat) (x14 : Int) (a : Act) (w : World) (T : Tm 71 [(0, .slice A2 x1.length x1.length), (5, (y1 b13)), (7, .int .i64 x14)] a) (S : SL ([sl m3 ku8 A2 x1.length x1, sl m7 ku8 A5 k6 x4, sl .ro ku8 A9 k10 x8.Key, sl .ro ku8 A11 k12 x8.Value, blk b13 (y0 A9 x8 k10 A11 k12)] ++ F) w) (H : J1 z x1 x8 x14 = some r) : Gets Try.prog 53 ptJ1 a w (R F x1 A2 m3 x4 A5 k6 m7 x8 A9 k10 A11 k12 r) := by
 refine rg (v1 T rfl fun T => sq (sq (rg (r_fa (o' := 2) T rfl tu36 rfl ts4 rfl rfl fun _ T => lB (ix := 4) T S rfl ti4 rfl rfl rfl fun _ T => ?_))))
 rcases ifE H with ⟨h17, H⟩ | ⟨h17, H⟩
 ·refine cdT T rfl h17 (rg (v1 T rfl fun T => sq ?_))
  exact J2_ok F r z x1 A2 m3 x4 A5 k6 m7 x8 A9 k10 A11 k12 b13 x14 1 _ _ (T.sb rfl) (S.only [0, 0, 0, 0, 0] rfl) H
 ·refine cdF T rfl h17 (sk (sq ?_))
  exact J2_ok F r z x1 A2 m3 x4 A5 k6 m7 x8 A9 k10 A11 k12 b13 x14 0 _ _ (T.sb rfl) (S.only [0, 0, 0, 0, 0] rfl) H
theorem L0_ok (F : List Atom) (r : (List Int)) (z : Nat) (x1 : List Int) (A2 : OA) (m3 : Md) (x4 : List Int) (A5 : OA) (k6 : Nat) (m7 : Md) (x8 : aE) (A9 : OA) (k10 : Nat) (A11 : OA) (k12 b13 m : Nat) : ∀ (x14 : Int) (a : Act) (w : World), Tm 71 [(0, .slice A2 x1.length x1.length), (1, .slice A5 x4.length k6), (5, (y1 b13)), (7, .int .i64 x14)] a → SL ([sl m3 ku8 A2 x1.length x1, sl m7 ku8 A5 k6 x4, sl .ro ku8 A9 k10 x8.Key, sl .ro ku8 A11 k12 x8.Value, blk b13 (y0 A9 x8 k10 A11 k12)] ++ F) w → L0 z x1 x4 x8 m x14 = some r → Gets Try.prog 53 ptL0 a w (R F x1 A2 m3 x4 A5 k6 m7 x8 A9 k10 A11 k12 r) := by
 induction m with
 | zero => intro _ _ _ _ _ H; cases H
 | succ m ih =>
  intro x14 a w T S H
  refine sq (sq ?_)
  rcases ifE H with ⟨h15, H⟩ | ⟨h15, H⟩
  ·obtain ⟨h2661, H⟩ := ck H
   obtain ⟨h2961, H⟩ := ck H
   refine Gets.drawn (l := [sl m3 ku8 A2 x1.length x1, sl m7 ku8 A5 k6 x4, sl .ro ku8 A9 k10 x8.Key, sl .ro ku8 A11 k12 x8.Value, blk b13 (y0 A9 x8 k10 A11 k12)]) (V := [some (.int .i64 x14, true), some (.slice A5 x4.length k6, true), some (.int .i64 (x4.length : Int), true), some ((y1 b13), true), some (.slice A9 x8.Key.length k10, true), some (.int .i64 (x8.Key.length : Int), true), some (.int .i64 (mn (x4.length : Int) (x8.Key.length : Int)), true), some (.bool (decide (x14 < (mn (x4.length : Int) (x8.Key.length : Int)))), true), some (.bool (decide (x14 < (mn (x4.length : Int) (x8.Key.length : Int)))), true), some (.slice A5 x4.length k6, true), some (.int .i64 x14, true), some (.pointer (some (eA A5 (Int.toNat x14 * 1))), true), some (.int .u8 (gi (0 : Int) x4 x14), true), some ((y1 b13), true), some (.slice A9 x8.Key.length k10, true), some (.int .i64 x14, true), some (.pointer (some (eA A9 (Int.toNat x14 * 1))), true), some (.int .u8 (gi (0 : Int) x8.Key x14), true), some (.bool ((gi (0 : Int) x4 x14) == (gi (0 : Int) x8.Key x14)), true), some (.bool ((gi (0 : Int) x4 x14) == (gi (0 : Int) x8.Key x14)), true)]) mixed T S rfl ?_
   refine stage none rfl rfl ⟨⟨_, _, rfl, (avl [7] rfl), fun _ _ _ T S => v1 T rfl fun T => ⟨rfl, T⟩⟩, ⟨_, _, rfl, (avl [1] rfl), fun _ _ _ T S => v1 T rfl fun T => ⟨rfl, T⟩⟩, ⟨_, _, rfl, (avl [10] rfl), fun _ _ _ T S => rn T rfl tu24 rfl fun _ T => ⟨rfl, T⟩⟩, ⟨_, _, rfl, (avl [5] rfl), fun _ _ _ T S => r_fa (o' := 0) T rfl tu36 rfl ts24 rfl rfl fun _ T => ⟨rfl, T⟩⟩, ⟨_, _, rfl, (avl [12] rfl), fun _ _ _ T S => lB (ix := 4) T S rfl ti24 rfl rfl rfl fun _ T => ⟨rfl, T⟩⟩, ⟨_, _, rfl, (avl [13] rfl), fun _ _ _ T S => rn T rfl tu24 rfl fun _ T => ⟨rfl, T⟩⟩, ⟨_, _, rfl, (avl [11, 14] rfl), fun _ _ _ T S => r_min T rfl rfl rfl fun _ T => ⟨rfl, T⟩⟩, ⟨_, _, rfl, (avl [9, 15] rfl), fun _ _ _ T S => v1 T rfl fun T => ⟨rfl, T⟩⟩, ⟨_, _, rfl, (avl [16] rfl), fun _ _ _ T S => v1 T rfl fun T => ⟨rfl, T⟩⟩, ⟨_, _, rfl, (avl [1, 17] rfl), fun _ _ _ T S => gy T rfl h15 (v1 T rfl fun T => ⟨rfl, T⟩)⟩, ⟨_, _, rfl, (avl [7, 17] rfl), fun _ _ _ T S => gy T rfl h15 (v1 T rfl fun T => ⟨rfl, T⟩)⟩, ⟨_, _, rfl, (avl [18, 19, 17] rfl), fun _ _ _ T S => gy T rfl h15 (r_ia (ix := 1) T S rfl rfl rfl rfl tu24 ts5 h2661.1 h2661.2 rfl fun _ T => ⟨rfl, T⟩)⟩, ⟨_, _, rfl, (avl [20, 17] rfl), fun _ _ _ T S => gy T rfl h15 (r_ldE (ix := 1) (i := x14) (off := 0) (f := (Value.int .u8)) T S rfl ti5 rfl (0 : Int) _ rfl rfl (Fld.all _) h2661.1 h2661.2 id rfl fun _ T => ⟨rfl, T⟩)⟩, ⟨_, _, rfl, (avl [5, 17] rfl), fun _ _ _ T S => gy T rfl h15 (r_fa (o' := 0) T rfl tu36 rfl ts24 rfl rfl fun _ T => ⟨rfl, T⟩)⟩, ⟨_, _, rfl, (avl [22, 17] rfl), fun _ _ _ T S => gy T rfl h15 (lB (ix := 4) T S rfl ti24 rfl rfl rfl fun _ T => ⟨rfl, T⟩)⟩, ⟨_, _, rfl, (avl [7, 17] rfl), fun _ _ _ T S => gy T rfl h15 (v1 T rfl fun T => ⟨rfl, T⟩)⟩, ⟨_, _, rfl, (avl [23, 24, 17] rfl), fun _ _ _ T S => gy T rfl h15 (r_ia (ix := 2) T S rfl rfl rfl rfl tu24 ts5 h2661.1 h2961 rfl fun _ T => ⟨rfl, T⟩)⟩, ⟨_, _, rfl, (avl [25, 17] rfl), fun _ _ _ T S => gy T rfl h15 (r_ldE (ix := 2) (i := x14) (off := 0) (f := (Value.int .u8)) T S rfl ti5 rfl (0 : Int) _ rfl rfl (Fld.all _) h2661.1 h2961 id rfl fun _ T => ⟨rfl, T⟩)⟩, ⟨_, _, rfl, (avl [21, 26, 17] rfl), fun _ _ _ T S => gy T rfl h15 (v1 T rfl fun T => ⟨rfl, T⟩)⟩, ⟨_, _, rfl, (avl [17, 27] rfl), fun _ _ _ T S => pT T rfl h15 rfl rfl fun _ T => ⟨rfl, T⟩⟩, trivial⟩ rfl (fun i hi => by cases hi) (fun _ _ a w T hv hb S => ?_)
   replace T := T.sub (r := [(0, .slice A2 x1.length x1.length), (1, .slice A5 x4.length k6), (5, (y1 b13)), (7, .int .i64 x14), (28, .bool ((gi (0 : Int) x4 x14) == (gi (0 : Int) x8.Key x14)))]) ⟨hb 0 _ rfl rfl, hb 1 _ rfl rfl, hb 5 _ rfl rfl, hb 7 _ rfl rfl, hv 19 _ 28 rfl rfl rfl, trivial⟩
   rcases ifE H with ⟨h16, H⟩ | ⟨h16, H⟩
   ·refine cdT T rfl h16 (sk (bq (rg (v3 T rfl rfl rfl fun T => Gets.inBlock (Gets.inLoop ?_)))))
    exact ih (wr .i64 (x14 + 1)) _ _ (T.sb rfl) (S.only [0, 0, 0, 0, 0] rfl) H
   ·refine cdF T rfl h16 (Gets.exit rfl (sq ?_))
    exact J1_ok F r z x1 A2 m3 x4 A5 k6 m7 x8 A9 k10 A11 k12 b13 x14 _ _ (T.sb rfl) (S.only [0, 0, 0, 0, 0] rfl) H
  ·refine Gets.drawn (l := [sl m3 ku8 A2 x1.length x1, sl m7 ku8 A5 k6 x4, sl .ro ku8 A9 k10 x8.Key, sl .ro ku8 A11 k12 x8.Value, blk b13 (y0 A9 x8 k10 A11 k12)]) (V := [some (.int .i64 x14, true), some (.slice A5 x4.length k6, true), some (.int .i64 (x4.length : Int), true), some ((y1 b13), true), some (.slice A9 x8.Key.length k10, true), some (.int .i64 (x8.Key.length : Int), true), some (.int .i64 (mn (x4.length : Int) (x8.Key.length : Int)), true), some (.bool (decide (x14 < (mn (x4.length : Int) (x8.Key.length : Int)))), true), some (.bool (decide (x14 < (mn (x4.length : Int) (x8.Key.length : Int)))), true), some (undef, true), some (undef, true), some (undef, true), some (undef, true), some (undef, true), some (undef, true), some (undef, true), some (undef, true), some (undef, true), some (undef, true), some (.bool false, true)]) mixed T S rfl ?_
   refine stage none rfl rfl ⟨⟨_, _, rfl, (avl [7] rfl), fun _ _ _ T S => v1 T rfl fun T => ⟨rfl, T⟩⟩, ⟨_, _, rfl, (avl [1] rfl), fun _ _ _ T S => v1 T rfl fun T => ⟨rfl, T⟩⟩, ⟨_, _, rfl, (avl [10] rfl), fun _ _ _ T S => rn T rfl tu24 rfl fun _ T => ⟨rfl, T⟩⟩, ⟨_, _, rfl, (avl [5] rfl), fun _ _ _ T S => r_fa (o' := 0) T rfl tu36 rfl ts24 rfl rfl fun _ T => ⟨rfl, T⟩⟩, ⟨_, _, rfl, (avl [12] rfl), fun _ _ _ T S => lB (ix := 4) T S rfl ti24 rfl rfl rfl fun _ T => ⟨rfl, T⟩⟩, ⟨_, _, rfl, (avl [13] rfl), fun _ _ _ T S => rn T rfl tu24 rfl fun _ T => ⟨rfl, T⟩⟩, ⟨_, _, rfl, (avl [11, 14] rfl), fun _ _ _ T S => r_min T rfl rfl rfl fun _ T => ⟨rfl, T⟩⟩, ⟨_, _, rfl, (avl [9, 15] rfl), fun _ _ _ T S => v1 T rfl fun T => ⟨rfl, T⟩⟩, ⟨_, _, rfl, (avl [16] rfl), fun _ _ _ T S => v1 T rfl fun T => ⟨rfl, T⟩⟩, ⟨_, _, rfl, (avl [1, 17] rfl), fun _ _ _ T S => gn T rfl h15 fun T => ⟨rfl, T⟩⟩, ⟨_, _, rfl, (avl [7, 17] rfl), fun _ _ _ T S => gn T rfl h15 fun T => ⟨rfl, T⟩⟩, ⟨_, _, rfl, (avl [18, 19, 17] rfl), fun _ _ _ T S => gn T rfl h15 fun T => ⟨rfl, T⟩⟩, ⟨_, _, rfl, (avl [20, 17] rfl), fun _ _ _ T S => gn T rfl h15 fun T => ⟨rfl, T⟩⟩, ⟨_, _, rfl, (avl [5, 17] rfl), fun _ _ _ T S => gn T rfl h15 fun T => ⟨rfl, T⟩⟩, ⟨_, _, rfl, (avl [22, 17] rfl), fun _ _ _ T S => gn T rfl h15 fun T => ⟨rfl, T⟩⟩, ⟨_, _, rfl, (avl [7, 17] rfl), fun _ _ _ T S => gn T rfl h15 fun T => ⟨rfl, T⟩⟩, ⟨_, _, rfl, (avl [23, 24, 17] rfl), fun _ _ _ T S => gn T rfl h15 fun T => ⟨rfl, T⟩⟩, ⟨_, _, rfl, (avl [25, 17] rfl), fun _ _ _ T S => gn T rfl h15 fun T => ⟨rfl, T⟩⟩, ⟨_, _, rfl, (avl [21, 26, 17] rfl), fun _ _ _ T S => gn T rfl h15 fun T => ⟨rfl, T⟩⟩, ⟨_, _, rfl, (avl [17, 27] rfl), fun _ _ _ T S => pF T rfl h15 rfl rfl fun _ T => ⟨rfl, T⟩⟩, trivial⟩ rfl (fun i hi => by cases hi) (fun _ _ a w T hv hb S => ?_)
   replace T := T.sub (r := [(0, .slice A2 x1.length x1.length), (1, .slice A5 x4.length k6), (5, (y1 b13)), (7, .int .i64 x14), (28, .bool false)]) ⟨hb 0 _ rfl rfl, hb 1 _ rfl rfl, hb 5 _ rfl rfl, hb 7 _ rfl rfl, hv 19 _ 28 rfl rfl rfl, trivial⟩
   refine cdF T rfl rfl (Gets.exit rfl (sq ?_))
   exact J1_ok F r z x1 A2 m3 x4 A5 k6 m7 x8 A9 k10 A11 k12 b13 x14 _ _ (T.sb rfl) (S.only [0, 0, 0, 0, 0] rfl) H
theorem ok (F : List Atom) (w : World) (z : Nat) (x1 x4 : List Int) (x8 : aE) {A2 : OA} {m3 : Md} {A5 : OA} {k6 : Nat} {m7 : Md} {A9 : OA} {k10 : Nat} {A11 : OA} {k12 : Nat} (S : SL ([sl m3 ku8 A2 x1.length x1, sl m7 ku8 A5 k6 x4, sl .ro ku8 A9 k10 x8.Key, sl .ro ku8 A11 k12 x8.Value] ++ F) w) (r : (List Int)) (H : f z x1 x4 x8 = some r) : Calls Try.prog 53 #[.slice A2 x1.length x1.length, .slice A5 x4.length k6, .agg #[.slice A9 x8.Key.length k10, .int .u64 x8.Seq, .bool x8.Del, .slice A11 x8.Value.length k12]] w (R F x1 A2 m3 x4 A5 k6 m7 x8 A9 k10 A11 k12 r) := by
 refine enter (vs := [.slice A2 x1.length x1.length, .slice A5 x4.length k6, .agg #[.slice A9 x8.Key.length k10, .int .u64 x8.Seq, .bool x8.Del, .slice A11 x8.Value.length k12]]) Try.func53 rfl Try.ntmps53 (nle rfl) fun a T => ?_
 refine sq (rg (r_box T S rfl (cs := (y0 A9 x8 k10 A11 k12)) rfl rfl fun _ _ b13 S T => v1 T rfl fun T => sq (rg (v1 T rfl fun T => sq (bq (Gets.loop ?_))))))
 exact L0_ok F r z x1 A2 m3 x4 A5 k6 m7 x8 A9 k10 A11 k12 b13 z 0 _ _ (T.sb rfl) (S.only [1, 1, 1, 1, 0] rfl) H
end s_lay
namespace s_builder_add
noncomputable def c0 : Code := match Try.f27.body with | some c => c | none => .skip
def R (F : List Atom) (b2 : Nat) (x11 : aE) (A12 : OA) (k13 : Nat) (A14 : OA) (k15 : Nat) (r : s_builder) : Ending → World → Prop := fun e w' => ∃ (A46 : OA), ∃ (k47 : Nat), ∃ (A48 : OA), ∃ (k49 : Nat), ∃ (A50 : OA), ∃ (k51 : Nat), ∃ (A52 : OA), ∃ (k53 : Nat), e = .returned (.tuple #[]) ∧ SL ([blk b2 [.slice A46 r.out.length k47, .slice A48 r.body.length k49, .slice A50 r.index.length k51, .int .i64 r.many, .int .i64 r.blocks, .slice A52 r.last.length k53], sl .own ku8 A46 k47 r.out, sl .ro ku8 A48 k49 r.body, sl .own ku8 A50 k51 r.index, sl .ro ku8 A52 k53 r.last, sl .ro ku8 A12 k13 x11.Key, sl .ro ku8 A14 k15 x11.Value] ++ F) w'
def J0 (z : Nat) (x11 : aE) (x31 x34 x37 : List Int) (x40 x41 : Int) (x42 : List Int) : Option s_builder := Bd (s_lay.f z ([] : List Int) ([] : List Int) x11) fun x3622 => some (s_builder.mk x31 x3622 x37 1 x41 x11.Key)
def f (z : Nat) (x1 : s_builder) (x11 : aE) (x16 : Int) : Option s_builder := If (decide (x1.many > 0)) (Bd (slices_Clip_byte_ro.f x1.body) fun x2242 => Bd (s_lay.f z x2242 x1.last x11) fun x2602 => If (decide ((x2602.length : Int) ≤ x16)) (some (s_builder.mk x1.out x2602 x1.index (wr .i64 (x1.many + 1)) x1.blocks x11.Key)) (Bd (s_builder_close.f z x1) fun x21 => J0 z x11 x21.out x21.body x21.index x21.many x21.blocks x21.last)) (J0 z x11 x1.out x1.body x1.index x1.many x1.blocks x1.last)
noncomputable def ptJ0 : List Item := [.code (cR (cR c0))]
abbrev y0 (b2 : Nat) : Value := .pointer (some ⟨b2, 0, none⟩)
abbrev y1 (A12 : OA) (x11 : aE) (k13 : Nat) (A14 : OA) (k15 : Nat) : List Value := [.slice A12 x11.Key.length k13, .int .u64 x11.Seq, .bool x11.Del, .slice A14 x11.Value.length k15]
abbrev y2 (A12 : OA) (x11 : aE) (k13 : Nat) (A14 : OA) (k15 : Nat) : Value := .agg #[.slice A12 x11.Key.length k13, .int .u64 x11.Seq, .bool x11.Del, .slice A14 x11.Value.length k15]
abbrev y3 (b2 : Nat) (A3 : OA) (x1 : s_builder) (k4 : Nat) (A5 : OA) (k6 : Nat) (A7 : OA) (k8 : Nat) (A9 : OA) (k10 : Nat) : Atom := blk b2 [.slice A3 x1.out.length k4, .slice A5 x1.body.length k6, .slice A7 x1.index.length k8, .int .i64 x1.many, .int .i64 x1.blocks, .slice A9 x1.last.length k10]
abbrev y4 (b2 : Nat) : Value := .pointer (some ⟨b2, 1, none⟩)
abbrev y5 (b17 : Nat) : Value := .pointer (some ⟨b17, 0, none⟩)
abbrev y6 : Atom := sl .ro ku8 none 0 ([] : List Int)
abbrev y7 (b2 : Nat) : Value := .pointer (some ⟨b2, 5, none⟩)
theorem J0_ok (F : List Atom) (r : s_builder) (z b2 : Nat) (x11 : aE) (A12 : OA) (k13 : Nat) (A14 : OA) (k15 b17 : Nat) (x16 : Int) (A32 : OA) (x31 : List Int) (k33 : Nat) (A35 : OA) (x34 : List Int) (k36 : Nat) (A38 : OA) (x37 : List Int) (k39 : Nat) (x40 x41 : Int) (A43 : OA) (x42 : List Int) (k44 : Nat) (a : Act) (w : World) (T : Tm 58 [(0, (y0 b2)), (4, (y5 b17))] a) (S : SL ([blk b2 [.slice A32 x31.length k33, .slice A35 x34.length k36, .slice A38 x37.length k39, .int .i64 x40, .int .i64 x41, .slice A43 x42.length k44], sl .own ku8 A32 k33 x31, sl .ro ku8 A35 k36 x34, sl .own ku8 A38 k39 x37, sl .ro ku8 A43 k44 x42, sl .ro ku8 A12 k13 x11.Key, sl .ro ku8 A14 k15 x11.Value, blk b17 (y1 A12 x11 k13 A14 k15)] ++ F) w) (H : J0 z x11 x31 x34 x37 x40 x41 x42 = some r) : Gets Try.prog 27 ptJ0 a w (R F b2 x11 A12 k13 A14 k15 r) := by
 refine Gets.drawn (l := [blk b2 [.slice A32 x31.length k33, .slice A35 x34.length k36, .slice A38 x37.length k39, .int .i64 x40, .int .i64 x41, .slice A43 x42.length k44], sl .own ku8 A32 k33 x31, sl .ro ku8 A35 k36 x34, sl .own ku8 A38 k39 x37, sl .ro ku8 A43 k44 x42, sl .ro ku8 A12 k13 x11.Key, sl .ro ku8 A14 k15 x11.Value, blk b17 (y1 A12 x11 k13 A14 k15)]) (V := [some ((y0 b2), true), some ((y0 b2), true), some ((y0 b2), true), some ((y2 A12 x11 k13 A14 k15), true), none, some ((y5 b17), true), some (.slice A12 x11.Key.length k13, true), none, none, none, none, none, none, none, none, none]) mixed T S rfl ?_
 refine stage (some 4) rfl rfl ⟨⟨_, _, rfl, (avl [0] rfl), fun _ _ _ T S => v1 T rfl fun T => ⟨rfl, T⟩⟩, ⟨_, _, rfl, (avl [0] rfl), fun _ _ _ T S => v1 T rfl fun T => ⟨rfl, T⟩⟩, ⟨_, _, rfl, (avl [0] rfl), fun _ _ _ T S => v1 T rfl fun T => ⟨rfl, T⟩⟩, ⟨_, _, rfl, (avl [4] rfl), fun _ _ _ T S => r_ldBA (ix := 7) (ds := (y1 A12 x11 k13 A14 k15)) T S rfl ti36 rfl rfl ts36 rfl fun _ T => ⟨rfl, T⟩⟩, ⟨_, _, rfl, (avl [4] rfl), fun _ _ _ T S => r_fa (o' := 0) T rfl tu36 rfl ts24 rfl rfl fun _ T => ⟨rfl, T⟩⟩, ⟨_, _, rfl, (avl [50] rfl), fun _ _ _ T S => lB (ix := 7) T S rfl ti24 rfl rfl rfl fun _ T => ⟨rfl, T⟩⟩, trivial⟩ rfl (fun i hi => ?_) (fun h => by cases h)
 cases hi
 refine ⟨rfl, _, _, rfl, (avl [48] rfl), fun u a w T S => ?_⟩
 replace S := S.nil ku8 .ro
 replace S := S.nil ku8 .ro
 replace S := S.dup (i := 7) rfl
 replace S := S.dup (i := 9) rfl
 obtain ⟨x3622, h3621, H⟩ := bd H
 refine rc T Try.call53 rfl rfl (s_lay.ok _ _ z ([] : List Int) ([] : List Int) x11 (S.sel (is := [3, 2, 1, 0]) rfl) _ h3621) ?_
 rintro _ _ ⟨A3623, k3624, rfl, S⟩
 refine ⟨_, rfl, fun _ T => ?_⟩
 replace S := S.join.only [0, 0, 0, 2, 2, 2, 2, 2, 2, 2, 2] rfl
 refine ⟨_, [some ((y0 b2), true), some ((y0 b2), true), some ((y0 b2), true), some ((y2 A12 x11 k13 A14 k15), false), some (.slice A3623 x3622.length k3624, false), some ((y5 b17), true), some (.slice A12 x11.Key.length k13, true), some ((y0 b2), true), some ((y4 b2), true), none, none, none, none, none, none, none], [sl .own ku8 A3623 k3624 x3622, (y6), (y6), blk b2 [.slice A32 x31.length k33, .slice A35 x34.length k36, .slice A38 x37.length k39, .int .i64 x40, .int .i64 x41, .slice A43 x42.length k44], sl .own ku8 A32 k33 x31, sl .ro ku8 A35 k36 x34, sl .own ku8 A38 k39 x37, sl .ro ku8 A43 k44 x42, sl .ro ku8 A12 k13 x11.Key, sl .ro ku8 A14 k15 x11.Value, blk b17 (y1 A12 x11 k13 A14 k15)], rfl, (by repeat first | exact kx0 | apply kxs | apply kxn), rfl, ?_, T, S⟩
 refine stage (some 9) rfl rfl ⟨⟨_, _, rfl, (avl [0] rfl), fun _ _ _ T S => v1 T rfl fun T => ⟨rfl, T⟩⟩, ⟨_, _, rfl, (avl [0] rfl), fun _ _ _ T S => v1 T rfl fun T => ⟨rfl, T⟩⟩, ⟨_, _, rfl, (avl [0] rfl), fun _ _ _ T S => v1 T rfl fun T => ⟨rfl, T⟩⟩, ⟨_, _, rfl, (avl [4] rfl), fun _ _ _ T S => r_fa (o' := 0) T rfl tu36 rfl ts24 rfl rfl fun _ T => ⟨rfl, T⟩⟩, ⟨_, _, rfl, (avl [50] rfl), fun _ _ _ T S => lB (ix := 10) T S rfl ti24 rfl rfl rfl fun _ T => ⟨rfl, T⟩⟩, ⟨_, _, rfl, (avl [45] rfl), fun _ _ _ T S => v1 T rfl fun T => ⟨rfl, T⟩⟩, ⟨_, _, rfl, (avl [52] rfl), fun _ _ _ T S => r_fa (o' := 1) T rfl tu61 rfl ts24 rfl rfl fun _ T => ⟨rfl, T⟩⟩, trivial⟩ rfl (fun i hi => ?_) (fun h => by cases h)
 cases hi
 refine ⟨rfl, _, _, rfl, (avl [49, 53] rfl), fun u a w T S => ?_⟩
 refine r_stB (ix := 3) T S rfl rfl rfl ts24 rfl (nle rfl) rfl fun _ S => ?_
 refine ⟨_, [some ((y0 b2), false), some ((y0 b2), true), some ((y0 b2), true), some ((y2 A12 x11 k13 A14 k15), false), some (.slice A3623 x3622.length k3624, false), some ((y5 b17), true), some (.slice A12 x11.Key.length k13, true), some ((y0 b2), true), some ((y4 b2), false), some (undef, false), some ((y0 b2), true), some ((y7 b2), true), none, none, none, none], [sl .own ku8 A3623 k3624 x3622, (y6), (y6), blk b2 [.slice A32 x31.length k33, .slice A3623 x3622.length k3624, .slice A38 x37.length k39, .int .i64 x40, .int .i64 x41, .slice A43 x42.length k44], sl .own ku8 A32 k33 x31, sl .ro ku8 A35 k36 x34, sl .own ku8 A38 k39 x37, sl .ro ku8 A43 k44 x42, sl .ro ku8 A12 k13 x11.Key, sl .ro ku8 A14 k15 x11.Value, blk b17 (y1 A12 x11 k13 A14 k15)], rfl, (by repeat first | exact kx0 | apply kxs | apply kxn), rfl, ?_, T, S⟩
 refine stage (some 12) rfl rfl ⟨⟨_, _, rfl, (avl [0] rfl), fun _ _ _ T S => v1 T rfl fun T => ⟨rfl, T⟩⟩, ⟨_, _, rfl, (avl [0] rfl), fun _ _ _ T S => v1 T rfl fun T => ⟨rfl, T⟩⟩, ⟨_, _, rfl, (avl [4] rfl), fun _ _ _ T S => r_fa (o' := 0) T rfl tu36 rfl ts24 rfl rfl fun _ T => ⟨rfl, T⟩⟩, ⟨_, _, rfl, (avl [50] rfl), fun _ _ _ T S => lB (ix := 10) T S rfl ti24 rfl rfl rfl fun _ T => ⟨rfl, T⟩⟩, ⟨_, _, rfl, (avl [45] rfl), fun _ _ _ T S => v1 T rfl fun T => ⟨rfl, T⟩⟩, ⟨_, _, rfl, (avl [46] rfl), fun _ _ _ T S => v1 T rfl fun T => ⟨rfl, T⟩⟩, ⟨_, _, rfl, (avl [54] rfl), fun _ _ _ T S => r_fa (o' := 5) T rfl tu61 rfl ts24 rfl rfl fun _ T => ⟨rfl, T⟩⟩, trivial⟩ rfl (fun i hi => ?_) (fun h => by cases h)
 cases hi
 refine ⟨rfl, _, _, rfl, (avl [51, 55] rfl), fun u a w T S => ?_⟩
 refine r_stB (ix := 3) T S rfl rfl rfl ts24 rfl (nle rfl) rfl fun _ S => ?_
 refine ⟨_, [some ((y0 b2), false), some ((y0 b2), false), some ((y0 b2), true), some ((y2 A12 x11 k13 A14 k15), false), some (.slice A3623 x3622.length k3624, false), some ((y5 b17), false), some (.slice A12 x11.Key.length k13, false), some ((y0 b2), false), some ((y4 b2), false), some (undef, false), some ((y0 b2), true), some ((y7 b2), false), some (undef, false), some ((y0 b2), true), some (.pointer (some ⟨b2, 3, none⟩), true), none], [sl .own ku8 A3623 k3624 x3622, (y6), (y6), blk b2 [.slice A32 x31.length k33, .slice A3623 x3622.length k3624, .slice A38 x37.length k39, .int .i64 x40, .int .i64 x41, .slice A12 x11.Key.length k13], sl .own ku8 A32 k33 x31, sl .ro ku8 A35 k36 x34, sl .own ku8 A38 k39 x37, sl .ro ku8 A43 k44 x42, sl .ro ku8 A12 k13 x11.Key, sl .ro ku8 A14 k15 x11.Value, blk b17 (y1 A12 x11 k13 A14 k15)], rfl, (by repeat first | exact kx0 | apply kxs | apply kxn), rfl, ?_, T, S⟩
 refine stage (some 15) rfl rfl ⟨⟨_, _, rfl, (avl [0] rfl), fun _ _ _ T S => v1 T rfl fun T => ⟨rfl, T⟩⟩, ⟨_, _, rfl, (avl [46] rfl), fun _ _ _ T S => v1 T rfl fun T => ⟨rfl, T⟩⟩, ⟨_, _, rfl, (avl [47] rfl), fun _ _ _ T S => v1 T rfl fun T => ⟨rfl, T⟩⟩, ⟨_, _, rfl, (avl [56] rfl), fun _ _ _ T S => r_fa (o' := 3) T rfl tu61 rfl ts3 rfl rfl fun _ T => ⟨rfl, T⟩⟩, trivial⟩ rfl (fun i hi => ?_) (fun h => by cases h)
 cases hi
 refine ⟨rfl, _, _, rfl, (avl [57] rfl), fun u a w T S => ?_⟩
 refine r_stB (ix := 3) T S rfl rfl rfl ts3 rfl (nle rfl) rfl fun _ S => ?_
 refine ⟨_, [some ((y0 b2), false), some ((y0 b2), false), some ((y0 b2), false), some ((y2 A12 x11 k13 A14 k15), false), some (.slice A3623 x3622.length k3624, false), some ((y5 b17), false), some (.slice A12 x11.Key.length k13, false), some ((y0 b2), false), some ((y4 b2), false), some (undef, false), some ((y0 b2), false), some ((y7 b2), false), some (undef, false), some ((y0 b2), true), some (.pointer (some ⟨b2, 3, none⟩), false), some (undef, false)], [sl .own ku8 A3623 k3624 x3622, (y6), (y6), blk b2 [.slice A32 x31.length k33, .slice A3623 x3622.length k3624, .slice A38 x37.length k39, .int .i64 1, .int .i64 x41, .slice A12 x11.Key.length k13], sl .own ku8 A32 k33 x31, sl .ro ku8 A35 k36 x34, sl .own ku8 A38 k39 x37, sl .ro ku8 A43 k44 x42, sl .ro ku8 A12 k13 x11.Key, sl .ro ku8 A14 k15 x11.Value, blk b17 (y1 A12 x11 k13 A14 k15)], rfl, (by repeat first | exact kx0 | apply kxs | apply kxn), rfl, ?_, T, S⟩
 refine stage none rfl rfl ⟨⟨_, _, rfl, (avl [47] rfl), fun _ _ _ T S => v1 T rfl fun T => ⟨rfl, T⟩⟩, trivial⟩ rfl (fun i hi => by cases hi) (fun _ _ a w T hv hb S => ?_)
 replace T := T.sub (r := []) trivial
 replace S := S.fixL (i := 0) rfl rfl
 replace S := S.dup (i := 8) rfl
 obtain rfl := sj H
 exact rtf T Try.func27 rfl rfl ⟨A32, k33, A3623, k3624, A38, k39, A12, k13, rfl, (S.only [4, 4, 1, 4, 5, 0, 4] rfl)⟩
theorem ok (F : List Atom) (w : World) (z : Nat) (x1 : s_builder) (x11 : aE) (x16 : Int) {b2 : Nat} {A3 : OA} {k4 : Nat} {A5 : OA} {k6 : Nat} {A7 : OA} {k8 : Nat} {A9 : OA} {k10 : Nat} {A12 : OA} {k13 : Nat} {A14 : OA} {k15 : Nat} (S : SL ([(y3 b2 A3 x1 k4 A5 k6 A7 k8 A9 k10), sl .own ku8 A3 k4 x1.out, sl .ro ku8 A5 k6 x1.body, sl .own ku8 A7 k8 x1.index, sl .ro ku8 A9 k10 x1.last, sl .ro ku8 A12 k13 x11.Key, sl .ro ku8 A14 k15 x11.Value] ++ F) w) (r : s_builder) (H : f z x1 x11 x16 = some r) : Calls Try.prog 27 #[(y0 b2), (y2 A12 x11 k13 A14 k15), .int .i64 x16] w (R F b2 x11 A12 k13 A14 k15 r) := by
 refine enter (vs := [(y0 b2), (y2 A12 x11 k13 A14 k15), .int .i64 x16]) Try.func27 rfl Try.ntmps27 (nle rfl) fun a T => ?_
 refine sq (rg (r_box T S rfl (cs := (y1 A12 x11 k13 A14 k15)) rfl rfl fun _ _ b17 S T => sq (sq (rg (v2 T rfl rfl fun T => r_fa (o' := 3) T rfl tu61 rfl ts3 rfl rfl fun _ T => lB (ix := 1) T S rfl ti3 rfl rfl rfl fun _ T => v1 T rfl fun T => ?_)))))
 rcases ifE H with ⟨h18, H⟩ | ⟨h18, H⟩
 ·refine cdT T rfl h18 (sq (sq ?_))
  refine Gets.drawn (l := [blk b17 (y1 A12 x11 k13 A14 k15), (y3 b2 A3 x1 k4 A5 k6 A7 k8 A9 k10), sl .own ku8 A3 k4 x1.out, sl .ro ku8 A5 k6 x1.body, sl .own ku8 A7 k8 x1.index, sl .ro ku8 A9 k10 x1.last, sl .ro ku8 A12 k13 x11.Key, sl .ro ku8 A14 k15 x11.Value]) (V := [some ((y0 b2), true), some ((y0 b2), true), some ((y4 b2), true), some (.slice A5 x1.body.length k6, true), none, some ((y0 b2), true), some ((y0 b2), true), some ((y7 b2), true), some (.slice A9 x1.last.length k10, true), some ((y2 A12 x11 k13 A14 k15), true), none, none]) mixed T S rfl ?_
  refine stage (some 4) rfl rfl ⟨⟨_, _, rfl, (avl [0] rfl), fun _ _ _ T S => v1 T rfl fun T => ⟨rfl, T⟩⟩, ⟨_, _, rfl, (avl [12] rfl), fun _ _ _ T S => v1 T rfl fun T => ⟨rfl, T⟩⟩, ⟨_, _, rfl, (avl [13] rfl), fun _ _ _ T S => r_fa (o' := 1) T rfl tu61 rfl ts24 rfl rfl fun _ T => ⟨rfl, T⟩⟩, ⟨_, _, rfl, (avl [14] rfl), fun _ _ _ T S => lB (ix := 1) T S rfl ti24 rfl rfl rfl fun _ T => ⟨rfl, T⟩⟩, ⟨_, _, rfl, (avl [0] rfl), fun _ _ _ T S => v1 T rfl fun T => ⟨rfl, T⟩⟩, ⟨_, _, rfl, (avl [17] rfl), fun _ _ _ T S => v1 T rfl fun T => ⟨rfl, T⟩⟩, ⟨_, _, rfl, (avl [18] rfl), fun _ _ _ T S => r_fa (o' := 5) T rfl tu61 rfl ts24 rfl rfl fun _ T => ⟨rfl, T⟩⟩, ⟨_, _, rfl, (avl [19] rfl), fun _ _ _ T S => lB (ix := 1) T S rfl ti24 rfl rfl rfl fun _ T => ⟨rfl, T⟩⟩, ⟨_, _, rfl, (avl [4] rfl), fun _ _ _ T S => r_ldBA (ix := 0) (ds := (y1 A12 x11 k13 A14 k15)) T S rfl ti36 rfl rfl ts36 rfl fun _ T => ⟨rfl, T⟩⟩, trivial⟩ rfl (fun i hi => ?_) (fun h => by cases h)
  cases hi
  refine ⟨rfl, _, _, rfl, (avl [15] rfl), fun u a w T S => ?_⟩
  obtain ⟨x2242, h2241, H⟩ := bd H
  refine rc T tc31 rfl rfl (slices_Clip_byte_ro.ok _ _ x1.body (S.sel (is := [3]) rfl) _ h2241) ?_
  rintro _ _ ⟨A2243, rfl, S⟩
  refine ⟨_, rfl, fun _ T => ?_⟩
  replace S := S.join
  refine ⟨_, [some ((y0 b2), true), some ((y0 b2), true), some ((y4 b2), true), some (.slice A5 x1.body.length k6, false), some (.slice A2243 x2242.length x2242.length, false), some ((y0 b2), true), some ((y0 b2), true), some ((y7 b2), true), some (.slice A9 x1.last.length k10, true), some ((y2 A12 x11 k13 A14 k15), true), none, none], [sl .ro ku8 A2243 x2242.length x2242, sl .ro ku8 A5 k6 x1.body, blk b17 (y1 A12 x11 k13 A14 k15), (y3 b2 A3 x1 k4 A5 k6 A7 k8 A9 k10), sl .own ku8 A3 k4 x1.out, sl .own ku8 A7 k8 x1.index, sl .ro ku8 A9 k10 x1.last, sl .ro ku8 A12 k13 x11.Key, sl .ro ku8 A14 k15 x11.Value], rfl, (by repeat first | exact kx0 | apply kxs | apply kxn), rfl, ?_, T, S⟩
  refine stage (some 10) rfl rfl ⟨⟨_, _, rfl, (avl [0] rfl), fun _ _ _ T S => v1 T rfl fun T => ⟨rfl, T⟩⟩, ⟨_, _, rfl, (avl [12] rfl), fun _ _ _ T S => v1 T rfl fun T => ⟨rfl, T⟩⟩, ⟨_, _, rfl, (avl [13] rfl), fun _ _ _ T S => r_fa (o' := 1) T rfl tu61 rfl ts24 rfl rfl fun _ T => ⟨rfl, T⟩⟩, ⟨_, _, rfl, (avl [0] rfl), fun _ _ _ T S => v1 T rfl fun T => ⟨rfl, T⟩⟩, ⟨_, _, rfl, (avl [17] rfl), fun _ _ _ T S => v1 T rfl fun T => ⟨rfl, T⟩⟩, ⟨_, _, rfl, (avl [18] rfl), fun _ _ _ T S => r_fa (o' := 5) T rfl tu61 rfl ts24 rfl rfl fun _ T => ⟨rfl, T⟩⟩, ⟨_, _, rfl, (avl [19] rfl), fun _ _ _ T S => lB (ix := 3) T S rfl ti24 rfl rfl rfl fun _ T => ⟨rfl, T⟩⟩, ⟨_, _, rfl, (avl [4] rfl), fun _ _ _ T S => r_ldBA (ix := 2) (ds := (y1 A12 x11 k13 A14 k15)) T S rfl ti36 rfl rfl ts36 rfl fun _ T => ⟨rfl, T⟩⟩, trivial⟩ rfl (fun i hi => ?_) (fun h => by cases h)
  cases hi
  refine ⟨rfl, _, _, rfl, (avl [16, 20, 21] rfl), fun u a w T S => ?_⟩
  replace S := S.dup (i := 7) rfl
  replace S := S.dup (i := 9) rfl
  obtain ⟨x2602, h2601, H⟩ := bd H
  refine rc T Try.call53 rfl rfl (s_lay.ok _ _ z x2242 x1.last x11 (S.sel (is := [2, 7, 1, 0]) rfl) _ h2601) ?_
  rintro _ _ ⟨A2603, k2604, rfl, S⟩
  refine ⟨_, rfl, fun _ T => ?_⟩
  replace S := S.join.only [0, 0, 0, 2, 2, 2, 2, 2, 2, 2] rfl
  refine ⟨_, [some ((y0 b2), true), some ((y0 b2), true), some ((y4 b2), true), some (.slice A5 x1.body.length k6, false), some (.slice A2243 x2242.length x2242.length, false), some ((y0 b2), true), some ((y0 b2), true), some ((y7 b2), true), some (.slice A9 x1.last.length k10, false), some ((y2 A12 x11 k13 A14 k15), false), some (.slice A2603 x2602.length k2604, false), some (.slice A2603 x2602.length k2604, true)], [sl .own ku8 A2603 k2604 x2602, sl .ro ku8 A2243 x2242.length x2242, sl .ro ku8 A9 k10 x1.last, sl .ro ku8 A5 k6 x1.body, blk b17 (y1 A12 x11 k13 A14 k15), (y3 b2 A3 x1 k4 A5 k6 A7 k8 A9 k10), sl .own ku8 A3 k4 x1.out, sl .own ku8 A7 k8 x1.index, sl .ro ku8 A12 k13 x11.Key, sl .ro ku8 A14 k15 x11.Value], rfl, (by repeat first | exact kx0 | apply kxs | apply kxn), rfl, ?_, T, S⟩
  refine stage none rfl rfl ⟨⟨_, _, rfl, (avl [0] rfl), fun _ _ _ T S => v1 T rfl fun T => ⟨rfl, T⟩⟩, ⟨_, _, rfl, (avl [12] rfl), fun _ _ _ T S => v1 T rfl fun T => ⟨rfl, T⟩⟩, ⟨_, _, rfl, (avl [13] rfl), fun _ _ _ T S => r_fa (o' := 1) T rfl tu61 rfl ts24 rfl rfl fun _ T => ⟨rfl, T⟩⟩, ⟨_, _, rfl, (avl [0] rfl), fun _ _ _ T S => v1 T rfl fun T => ⟨rfl, T⟩⟩, ⟨_, _, rfl, (avl [17] rfl), fun _ _ _ T S => v1 T rfl fun T => ⟨rfl, T⟩⟩, ⟨_, _, rfl, (avl [18] rfl), fun _ _ _ T S => r_fa (o' := 5) T rfl tu61 rfl ts24 rfl rfl fun _ T => ⟨rfl, T⟩⟩, ⟨_, _, rfl, (avl [22] rfl), fun _ _ _ T S => v1 T rfl fun T => ⟨rfl, T⟩⟩, trivial⟩ rfl (fun i hi => by cases hi) (fun _ _ a w T hv hb S => ?_)
  replace T := T.sub (r := [(0, (y0 b2)), (2, .int .i64 x16), (4, (y5 b17)), (6, .slice A2603 x2602.length k2604)]) ⟨hb 0 _ rfl rfl, hb 2 _ rfl rfl, hb 4 _ rfl rfl, hv 11 _ 6 rfl rfl rfl, trivial⟩
  refine sq (rg (v1 T rfl fun T => rn T rfl tu24 rfl fun _ T => v2 T rfl rfl fun T => ?_))
  rcases ifE H with ⟨h19, H⟩ | ⟨h19, H⟩
  ·refine cdT T rfl h19 (sq ?_)
   refine Gets.drawn (l := [sl .own ku8 A2603 k2604 x2602, sl .ro ku8 A9 k10 x1.last, sl .ro ku8 A5 k6 x1.body, blk b17 (y1 A12 x11 k13 A14 k15), (y3 b2 A3 x1 k4 A5 k6 A7 k8 A9 k10), sl .own ku8 A3 k4 x1.out, sl .own ku8 A7 k8 x1.index, sl .ro ku8 A12 k13 x11.Key, sl .ro ku8 A14 k15 x11.Value]) (V := [some ((y0 b2), true), some ((y0 b2), true), some (.slice A2603 x2602.length k2604, true), some ((y5 b17), true), some (.slice A12 x11.Key.length k13, true), some ((y0 b2), true), some ((y4 b2), true), none, none, none, none]) mixed T (S.only [0, 1, 1, 1, 1, 1, 1, 1, 1] rfl) rfl ?_
   refine stage (some 7) rfl rfl ⟨⟨_, _, rfl, (avl [0] rfl), fun _ _ _ T S => v1 T rfl fun T => ⟨rfl, T⟩⟩, ⟨_, _, rfl, (avl [0] rfl), fun _ _ _ T S => v1 T rfl fun T => ⟨rfl, T⟩⟩, ⟨_, _, rfl, (avl [6] rfl), fun _ _ _ T S => v1 T rfl fun T => ⟨rfl, T⟩⟩, ⟨_, _, rfl, (avl [4] rfl), fun _ _ _ T S => r_fa (o' := 0) T rfl tu36 rfl ts24 rfl rfl fun _ T => ⟨rfl, T⟩⟩, ⟨_, _, rfl, (avl [30] rfl), fun _ _ _ T S => lB (ix := 3) T S rfl ti24 rfl rfl rfl fun _ T => ⟨rfl, T⟩⟩, ⟨_, _, rfl, (avl [27] rfl), fun _ _ _ T S => v1 T rfl fun T => ⟨rfl, T⟩⟩, ⟨_, _, rfl, (avl [32] rfl), fun _ _ _ T S => r_fa (o' := 1) T rfl tu61 rfl ts24 rfl rfl fun _ T => ⟨rfl, T⟩⟩, trivial⟩ rfl (fun i hi => ?_) (fun h => by cases h)
   cases hi
   refine ⟨rfl, _, _, rfl, (avl [29, 33] rfl), fun u a w T S => ?_⟩
   refine r_stB (ix := 4) T S rfl rfl rfl ts24 rfl (nle rfl) rfl fun _ S => ?_
   refine ⟨_, [some ((y0 b2), false), some ((y0 b2), true), some (.slice A2603 x2602.length k2604, false), some ((y5 b17), true), some (.slice A12 x11.Key.length k13, true), some ((y0 b2), true), some ((y4 b2), false), some (undef, false), some ((y0 b2), true), some ((y7 b2), true), none], [sl .own ku8 A2603 k2604 x2602, sl .ro ku8 A9 k10 x1.last, sl .ro ku8 A5 k6 x1.body, blk b17 (y1 A12 x11 k13 A14 k15), blk b2 [.slice A3 x1.out.length k4, .slice A2603 x2602.length k2604, .slice A7 x1.index.length k8, .int .i64 x1.many, .int .i64 x1.blocks, .slice A9 x1.last.length k10], sl .own ku8 A3 k4 x1.out, sl .own ku8 A7 k8 x1.index, sl .ro ku8 A12 k13 x11.Key, sl .ro ku8 A14 k15 x11.Value], rfl, (by repeat first | exact kx0 | apply kxs | apply kxn), rfl, ?_, T, S⟩
   refine stage (some 10) rfl rfl ⟨⟨_, _, rfl, (avl [0] rfl), fun _ _ _ T S => v1 T rfl fun T => ⟨rfl, T⟩⟩, ⟨_, _, rfl, (avl [4] rfl), fun _ _ _ T S => r_fa (o' := 0) T rfl tu36 rfl ts24 rfl rfl fun _ T => ⟨rfl, T⟩⟩, ⟨_, _, rfl, (avl [30] rfl), fun _ _ _ T S => lB (ix := 3) T S rfl ti24 rfl rfl rfl fun _ T => ⟨rfl, T⟩⟩, ⟨_, _, rfl, (avl [27] rfl), fun _ _ _ T S => v1 T rfl fun T => ⟨rfl, T⟩⟩, ⟨_, _, rfl, (avl [28] rfl), fun _ _ _ T S => v1 T rfl fun T => ⟨rfl, T⟩⟩, ⟨_, _, rfl, (avl [34] rfl), fun _ _ _ T S => r_fa (o' := 5) T rfl tu61 rfl ts24 rfl rfl fun _ T => ⟨rfl, T⟩⟩, trivial⟩ rfl (fun i hi => ?_) (fun h => by cases h)
   cases hi
   refine ⟨rfl, _, _, rfl, (avl [31, 35] rfl), fun u a w T S => ?_⟩
   refine r_stB (ix := 4) T S rfl rfl rfl ts24 rfl (nle rfl) rfl fun _ S => ?_
   refine ⟨_, [some ((y0 b2), false), some ((y0 b2), false), some (.slice A2603 x2602.length k2604, false), some ((y5 b17), false), some (.slice A12 x11.Key.length k13, false), some ((y0 b2), false), some ((y4 b2), false), some (undef, false), some ((y0 b2), true), some ((y7 b2), false), some (undef, false)], [sl .own ku8 A2603 k2604 x2602, sl .ro ku8 A9 k10 x1.last, sl .ro ku8 A5 k6 x1.body, blk b17 (y1 A12 x11 k13 A14 k15), blk b2 [.slice A3 x1.out.length k4, .slice A2603 x2602.length k2604, .slice A7 x1.index.length k8, .int .i64 x1.many, .int .i64 x1.blocks, .slice A12 x11.Key.length k13], sl .own ku8 A3 k4 x1.out, sl .own ku8 A7 k8 x1.index, sl .ro ku8 A12 k13 x11.Key, sl .ro ku8 A14 k15 x11.Value], rfl, (by repeat first | exact kx0 | apply kxs | apply kxn), rfl, ?_, T, S⟩
   refine stage none rfl rfl ⟨⟨_, _, rfl, (avl [28] rfl), fun _ _ _ T S => v1 T rfl fun T => ⟨rfl, T⟩⟩, trivial⟩ rfl (fun i hi => by cases hi) (fun _ _ a w T hv hb S => ?_)
   replace T := T.sub (r := [(0, (y0 b2))]) ⟨hb 0 _ rfl rfl, trivial⟩
   refine sq (rg (v2 T rfl rfl fun T => r_fa (o' := 3) T rfl tu61 rfl ts3 rfl rfl fun _ T => lB (ix := 4) T S rfl ti3 rfl rfl rfl fun _ T => v2 T rfl rfl fun T => r_fa (o' := 3) T rfl tu61 rfl ts3 rfl rfl fun _ T => r_stB (ix := 4) T S rfl rfl rfl ts3 rfl (nle rfl) rfl fun _ S => ?_))
   replace S := S.fixL (i := 0) rfl rfl
   replace S := S.dup (i := 7) rfl
   obtain rfl := sj H
   exact rtn T Try.func27 rfl rfl ⟨A3, k4, A2603, k2604, A7, k8, A12, k13, rfl, (S.only [5, 5, 1, 4, 4, 0, 3] rfl)⟩
  ·refine cdF T rfl h19 (sk (rg (v1 T rfl fun T => ?_)))
   obtain ⟨x21, h20, H⟩ := bd H
   refine rc T Try.call29 rfl rfl (s_builder_close.ok _ _ z x1 (S.sel (is := [5, 5, 3, 4, 2]) rfl) _ h20) ?_
   rintro _ _ ⟨A23, k24, A25, k26, A27, k28, A29, k30, rfl, S⟩
   refine ⟨_, rfl, fun _ T => ?_⟩
   replace S := S.join.only [0, 0, 0, 0, 0, 0, 1, 1, 1] rfl
   exact J0_ok F r z b2 x11 A12 k13 A14 k15 b17 x16 A23 x21.out k24 A25 x21.body k26 A27 x21.index k28 x21.many x21.blocks A29 x21.last k30 _ _ (T.sb rfl) (S.only [0, 0, 0, 0, 0, 2, 2, 1] rfl) H
 ·refine cdF T rfl h18 (sk ?_)
  exact J0_ok F r z b2 x11 A12 k13 A14 k15 b17 x16 A3 x1.out k4 A5 x1.body k6 A7 x1.index k8 x1.many x1.blocks A9 x1.last k10 _ _ (T.sb rfl) (S.only [1, 1, 1, 1, 1, 1, 1, 0] rfl) H
end s_builder_add
namespace bytes_Equal
def R (F : List Atom) (x1 : List Int) (A2 : OA) (k3 : Nat) (m4 : Md) (x5 : List Int) (A6 : OA) (k7 : Nat) (m8 : Md) (r : Bool) : Ending → World → Prop := fun e w' => e = .returned (.bool r) ∧ SL ([sl m4 ku8 A2 k3 x1, sl m8 ku8 A6 k7 x5] ++ F) w'
def f (x1 x5 : List Int) : Option Bool := some ((bstr x1).toList == (bstr x5).toList)
theorem ok (F : List Atom) (w : World) (x1 x5 : List Int) {A2 : OA} {k3 : Nat} {m4 : Md} {A6 : OA} {k7 : Nat} {m8 : Md} (S : SL ([sl m4 ku8 A2 k3 x1, sl m8 ku8 A6 k7 x5] ++ F) w) (r : Bool) (H : f x1 x5 = some r) : Calls Try.prog 28 #[.slice A2 x1.length k3, .slice A6 x5.length k7] w (R F x1 A2 k3 m4 x5 A6 k7 m8 r) := by
 refine enter (vs := [.slice A2 x1.length k3, .slice A6 x5.length k7]) Try.func28 rfl Try.ntmps28 (nle rfl) fun a T => ?_
 refine sq (rg (v1 T rfl fun T => sq (rg (v1 T rfl fun T => r_b2s (ix := 0) (xs := x1) T S rfl rfl tu24 tu9 tu5 rfl fun _ T => v1 T rfl fun T => r_b2s (ix := 1) (xs := x5) T S rfl rfl tu24 tu9 tu5 rfl fun _ T => v2 T rfl rfl fun T => ?_))))
 obtain rfl := sj H
 exact rtn T Try.func28 rfl rfl ⟨rfl, (S.only [0, 0] rfl)⟩
end bytes_Equal
def com : List Int → List Int → Nat
 | x :: xs, y :: ys => if x = y then com xs ys + 1 else 0
 | _, _ => 0
theorem com_le : ∀ (xs ys : List Int), com xs ys ≤ xs.length ∧ com xs ys ≤ ys.length
 | x :: xs, y :: ys => by
  unfold com
  have := com_le xs ys
  split <;> simp <;> omega
 | [], _ => by simp [com]
 | _ :: _, [] => by simp [com]
theorem com_take : ∀ (xs ys : List Int), xs.take (com xs ys) = ys.take (com xs ys)
 | x :: xs, y :: ys => by
  unfold com
  split
  ·rename_i h
   rw [List.take_succ_cons, List.take_succ_cons, com_take xs ys, h]
  ·rfl
 | [], _ => by simp [com]
 | _ :: _, [] => by simp [com]
def layS (ahead : List Int) (e : aE) : List Int :=
 num (com ahead e.Key) ++ num (e.Key.length - com ahead e.Key) ++ num e.Seq.toNat ++ [if e.Del then 1 else 0] ++ num e.Value.length ++ e.Key.drop (com ahead e.Key) ++ e.Value
def fitS (e : aE) : Prop := (e.Del = true → e.Value = []) ∧ 0 < e.Key.length ∧ e.Key.length ≤ 256 ∧ 0 < e.Seq ∧ e.Seq ≤ 4611686018427387904 ∧ e.Value.length ≤ 65536
instance (e : aE) : Decidable (fitS e) := by unfold fitS; infer_instance
theorem fits_f (e : aE) : s_fits.f e = some (decide (fitS e)) := by
 have hJ : ∀ e, s_fits.J0 e = some (decide (0 < e.Key.length ∧ e.Key.length ≤ 256 ∧ 0 < e.Seq ∧ e.Seq ≤ 4611686018427387904 ∧ e.Value.length ≤ 65536)) := by
  intro e
  unfold s_fits.J0 s_fits.J1
  by_cases h1 : 0 < e.Key.length
  ·rw [if_y (by simp; omega)]
   by_cases h2 : e.Key.length ≤ 256
   ·rw [if_y (by simp; omega)]
    by_cases h3 : 0 < e.Seq
    ·rw [if_y (by simp; omega)]
     by_cases h4 : e.Seq ≤ 4611686018427387904
     ·rw [if_y (by simp; omega)]
      congr 1
      rw [decide_eq_decide]
      omega
     ·rw [if_n (by simp; omega)]; simp [h4]
    ·rw [if_n (by simp; omega)]; simp [h3]
   ·rw [if_n (by simp; omega)]; simp [h2]
  ·rw [if_n (by simp; exact List.length_eq_zero_iff.1 (by omega))]; simp [h1]
 unfold s_fits.f
 by_cases hd : e.Del = true
 ·rw [if_y hd]
  by_cases hv : e.Value = []
  ·rw [if_n (by simp [hv]), hJ]
   congr 1
   rw [decide_eq_decide]
   exact ⟨fun h => ⟨fun _ => hv, h⟩, fun h => h.2⟩
  ·have : 0 < e.Value.length := List.length_pos_iff.2 hv
   rw [if_y (by simp; omega)]
   congr 1
   symm
   rw [decide_eq_false_iff_not]
   exact fun h => hv (h.1 hd)
 ·rw [if_n (by simpa using hd), hJ]
  congr 1
  rw [decide_eq_decide]
  exact ⟨fun h => ⟨fun h' => absurd h' hd, h⟩, fun h => h.2⟩
def ordS (a b : aE) : Int := if bcmp a.Key b.Key ≠ 0 ∨ a.Seq = b.Seq then bcmp a.Key b.Key else if a.Seq > b.Seq then -1 else 1
theorem order_f (a b : aE) : s_order.f a b = some (ordS a b) := by
 unfold s_order.f s_order.J0 c_Compare.f bytes_Compare.f ordS
 simp only [bd_some]
 by_cases h : bcmp a.Key b.Key = 0
 ·rw [if_n (by simp [h])]
  by_cases h2 : a.Seq = b.Seq
  ·rw [if_y (by simp [h2])]; simp [h2]
  ·rw [if_n (by simp [h2])]
   by_cases h3 : a.Seq > b.Seq
   ·rw [if_y (by simp; omega)]; simp [h, h2, h3]
   ·rw [if_n (by simp; omega)]; simp [h, h2, h3]
 ·rw [if_y (by simp [h])]; simp [h]
theorem layS_len {ahead : List Int} {e : aE} (he : fitS e) : (layS ahead e).length ≤ 65900 ∧ 1 ≤ (layS ahead e).length := by
 obtain ⟨h1, h2, h3, h4, h5, h6⟩ := he
 have hc := com_le ahead e.Key
 have a := num_lenp 2 (com ahead e.Key) (by omega) (by omega)
 have b := num_lenp 2 (e.Key.length - com ahead e.Key) (by omega) (by omega)
 have c := num_len10 (n := e.Seq.toNat) (by omega)
 have d := num_lenp 3 e.Value.length (by omega) (by omega)
 unfold layS
 simp
 omega
theorem lay_J1 {z : Nat} (hz : 16777216 ≤ z) {b ahead : List Int} {e : aE} (he : fitS e) (hb : b.length ≤ 16777216) : s_lay.J1 z b e (com ahead e.Key : Int) = some (b ++ layS ahead e) := by
 have hc := com_le ahead e.Key
 have hL := layS_len (ahead := ahead) he
 obtain ⟨h1, h2, h3, h4, h5, h6⟩ := he
 have key : ∀ d : Int, s_lay.J2 z b e (com ahead e.Key : Int) d = some (b ++ (num (com ahead e.Key) ++ num (e.Key.length - com ahead e.Key) ++ num e.Seq.toNat ++ [d] ++ num e.Value.length ++ e.Key.drop (com ahead e.Key) ++ e.Value)) := by
  intro d
  have a := num_lenp 2 (com ahead e.Key) (by omega) (by omega)
  have a' := num_len (com ahead e.Key)
  have b' := num_lenp 2 (e.Key.length - com ahead e.Key) (by omega) (by omega)
  have c := num_len10 (n := e.Seq.toNat) (by omega)
  have d := num_lenp 3 e.Value.length (by omega) (by omega)
  unfold s_lay.J2
  rw [wU (by omega), Number_f hz (by omega), bd_some, Int.toNat_natCast, ck_y (by omega), wI (by omega), wU (by omega), Number_f hz (by omega), bd_some,
   show (((e.Key.length : Int) - (com ahead e.Key : Int)).toNat) = e.Key.length - com ahead e.Key by omega, ck_y (by simp; omega), Number_f hz (by omega), bd_some, ck_y (by simp; omega), ck_y (by simp; omega),
   wU (by omega), Number_f hz (by omega), bd_some, Int.toNat_natCast, ck_y (by simp; omega), ck_y (by omega), Int.toNat_natCast]
  rw [show cut e.Key (com ahead e.Key) e.Key.length = e.Key.drop (com ahead e.Key) by simp [cut]]
  rw [ck_y (by simp; omega), ck_y (by simp; omega)]
  simp
 unfold s_lay.J1 layS
 cases hd : e.Del with
 | true => rw [if_t, key]; simp
 | false => rw [if_f, key]; simp
theorem lay_L0 {z : Nat} (hz : 16777216 ≤ z) {b ahead : List Int} {e : aE} (he : fitS e) (hb : b.length ≤ 16777216) : ∀ (k m i : Nat), e.Key.length - i = k → i ≤ com ahead e.Key → k < m →
  com (ahead.drop i) (e.Key.drop i) + i = com ahead e.Key → s_lay.L0 z b ahead e m (i : Int) = some (b ++ layS ahead e)
 | k, 0, _, _, _, h, _ => by omega
 | k, m + 1, i, hk, hi, hm, hcom => by
  have hc := com_le ahead e.Key
  have h3 := he.2.2.1
  rw [s_lay.L0]
  by_cases hin : i < ahead.length ∧ i < e.Key.length
  ·rw [if_y (by simp [mn]; split <;> omega), ck_y (by omega), ck_y (by omega), gi_nat _ _ _ hin.1, gi_nat _ _ _ hin.2]
   rw [List.drop_eq_getElem_cons hin.1, List.drop_eq_getElem_cons hin.2, com] at hcom
   by_cases heq : ahead[i] = e.Key[i]
   ·rw [if_pos heq] at hcom
    rw [if_y (by simp [heq]), wI (by omega)]
    exact lay_L0 hz he hb (k - 1) m (i + 1) (by omega) (by omega) (by omega) (by omega)
   ·rw [if_neg heq] at hcom
    rw [if_n (by simp [heq]), show i = com ahead e.Key by omega]
    exact lay_J1 hz he hb
  ·rw [if_n (by simp [mn]; split <;> omega)]
   have : com (ahead.drop i) (e.Key.drop i) = 0 := by
    have h1 := com_le (ahead.drop i) (e.Key.drop i)
    simp at h1
    omega
   rw [show i = com ahead e.Key by omega]
   exact lay_J1 hz he hb
theorem lay_f {z : Nat} (hz : 16777216 ≤ z) {b ahead : List Int} {e : aE} (he : fitS e) (hb : b.length ≤ 16777216) : s_lay.f z b ahead e = some (b ++ layS ahead e) := by
 have := he.2.2.1
 exact lay_L0 hz he hb e.Key.length z 0 (by omega) (by omega) (by omega) (by simp)
theorem frame_f {z : Nat} (hz : 16777216 ≤ z) (w : s_builder) (kind : Int) {body : List Int} (hb : body.length ≤ 2097152) (ho : w.out.length ≤ 16777216) :
  s_builder_frame.f z w kind body = some ⟨w.out ++ frm kind body, w.body, w.index, w.many, w.blocks, w.last⟩ := by
 unfold s_builder_frame.f
 have h10 := num_len10 (n := body.length) (by omega)
 rw [Frame_f hz _ hb, bd_some, ck_y (by rw [frm_len]; omega)]
def idx (frm_ : Nat) (len : Nat) (many : Int) (last : List Int) : List Int := num frm_ ++ num len ++ num many.toNat ++ txt last
def closeS (w : s_builder) : s_builder := ⟨w.out ++ frm 68 w.body, [], w.index ++ idx w.out.length (frm 68 w.body).length w.many w.last, 0, w.blocks + 1, w.last⟩
structure Mod (w : s_builder) : Prop where
 out : w.out.length ≤ 8388608
 body : w.body.length ≤ 70000
 index : w.index.length ≤ 67108864
 many : 0 ≤ w.many ∧ w.many ≤ 65536
 blocks : 0 ≤ w.blocks ∧ w.blocks ≤ 65536
 last : w.last.length ≤ 256
theorem idx_len {a b : Nat} {m : Int} {l : List Int} (ha : a ≤ 16777216) (hb : b ≤ 16777216) (hm : 0 ≤ m ∧ m ≤ 65536) (hl : l.length ≤ 256) : (idx a b m l).length ≤ 300 := by
 have a := num_lenp 4 a (by omega) (by omega)
 have b := num_lenp 4 b (by omega) (by omega)
 have c := num_lenp 3 m.toNat (by omega) (by omega)
 have d := num_lenp 2 l.length (by omega) (by omega)
 simp [idx, txt]
 omega
theorem close_f {z : Nat} (hz : 16777216 ≤ z) {w : s_builder} (h : Mod w) : s_builder_close.f z w = some (closeS w) := by
 obtain ⟨h1, h2, h3, h4, h5, h6⟩ := h
 have h10 := num_lenp 3 w.body.length (by omega) (by omega)
 have hF := frm_len 68 w.body
 unfold s_builder_close.f
 rw [frame_f hz w 68 (by omega) (by omega), bd_some]
 obtain ⟨n, rfl⟩ : ∃ n, z = n + 4 := ⟨z - 4, by omega⟩
 have hw : wr .i64 (((w.out ++ frm 68 w.body).length : Int) - (w.out.length : Int)) = ((frm 68 w.body).length : Int) := by rw [wI (by simp; omega)]; simp; omega
 have a := num_lenp 4 w.out.length (by omega) (by omega)
 have b := num_lenp 4 (frm 68 w.body).length (by omega) (by omega)
 have c := num_lenp 3 w.many.toNat (by omega) (by omega)
 have d := num_lenp 2 w.last.length (by omega) (by omega)
 have g0 : ∀ (a b c : Int), gi (0 : Int) [a, b, c] 0 = a := fun _ _ _ => rfl
 have g1 : ∀ (a b c : Int), gi (0 : Int) [a, b, c] (0 + 1) = b := fun _ _ _ => rfl
 have g2 : ∀ (a b c : Int), gi (0 : Int) [a, b, c] (0 + 1 + 1) = c := fun _ _ _ => rfl
 rw [s_builder_close.L0, if_y (by decide), ck_y (by simp), g0, wU (by omega), Number_f (by omega) (by omega), bd_some, Int.toNat_natCast, ck_y (by dsimp only; omega), wI (by omega)]
 rw [s_builder_close.L0, if_y (by decide), ck_y (by simp), g1]
 dsimp only
 rw [hw, wU (by omega), Number_f (by omega) (by omega), bd_some, Int.toNat_natCast, ck_y (by simp; omega), wI (by omega)]
 rw [s_builder_close.L0, if_y (by decide), ck_y (by simp), g2]
 dsimp only
 rw [wU (by omega), Number_f (by omega) (by omega), bd_some, ck_y (by simp; omega), wI (by omega)]
 rw [s_builder_close.L0, if_n (by decide)]
 dsimp only
 rw [Text_f (by omega) (by omega), bd_some, ck_y (by simp [txt]; omega), wI (by omega)]
 simp [closeS, idx]
def addS (w : s_builder) (e : aE) (bb : Int) : s_builder :=
 if w.many > 0 then if ((w.body ++ layS w.last e).length : Int) ≤ bb then ⟨w.out, w.body ++ layS w.last e, w.index, w.many + 1, w.blocks, e.Key⟩
  else ⟨(closeS w).out, layS [] e, (closeS w).index, 1, (closeS w).blocks, e.Key⟩
 else ⟨w.out, layS [] e, w.index, 1, w.blocks, e.Key⟩
theorem add_f {z : Nat} (hz : 16777216 ≤ z) {w : s_builder} (h : Mod w) {e : aE} (he : fitS e) {bb : Int} : s_builder_add.f z w e bb = some (addS w e bb) := by
 have hb := h.body
 have hm := h.many
 unfold s_builder_add.f addS slices_Clip_byte_ro.f
 by_cases h1 : w.many > 0
 ·rw [if_y (by simp; omega), if_pos h1, bd_some, lay_f hz he (by omega), bd_some]
  by_cases h2 : ((w.body ++ layS w.last e).length : Int) ≤ bb
  ·rw [if_y (by simpa using h2), if_pos h2, wI (by omega)]
  ·rw [if_n (by simpa using h2), if_neg h2, close_f hz h, bd_some]
   unfold s_builder_add.J0
   rw [lay_f hz he (by simp), bd_some]
   rfl
 ·rw [if_n (by simp; omega), if_neg h1]
  unfold s_builder_add.J0
  rw [lay_f hz he (by simp), bd_some]
  rfl
theorem Equal_f {xs ys : List Int} (hx : Bys xs) (hy : Bys ys) : bytes_Equal.f xs ys = some (decide (xs = ys)) := by
 unfold bytes_Equal.f
 rw [bstr_inj hx hy]
namespace b_Make_c1
def R (F : List Atom) (b4 : Nat) (r : Bool × (List Int)) : Ending → World → Prop := fun e w' => ∃ (A9 : OA), ∃ (k10 : Nat), e = .returned (.bool r.1) ∧ SL ([blk b4 [.slice A9 r.2.length k10], sl .own ku8 A9 k10 r.2] ++ F) w'
def f (x1 x2 : Int) (x3 : List Int) : Option (Bool × (List Int)) := Ck (0 ≤ wr .i64 (1 + x1) ∧ wr .i64 (1 + x1) < (x3.length : Int)) (some (true, (x3.set (Int.toNat (wr .i64 (1 + x1))) (bOr .u8 (gi (0 : Int) x3 (wr .i64 (1 + x1))) x2))))
theorem ok (F : List Atom) (w : World) (x1 x2 : Int) (x3 : List Int) {b4 : Nat} {A5 : OA} {k6 : Nat} (S : SL ([blk b4 [.slice A5 x3.length k6], sl .own ku8 A5 k6 x3] ++ F) w) (r : Bool × (List Int)) (H : f x1 x2 x3 = some r) : Calls Try.prog 82 #[.int .i64 x1, .int .u8 x2, .pointer (some ⟨b4, 0, none⟩)] w (R F b4 r) := by
 refine enter (vs := [.int .i64 x1, .int .u8 x2, .pointer (some ⟨b4, 0, none⟩)]) Try.func82 rfl Try.ntmps82 (nle rfl) fun a T => ?_
 refine sq (rg (v1 T rfl fun T => sq (rg (lB (ix := 0) T S rfl ti24 rfl rfl rfl fun _ T => v2 T rfl rfl fun T => ?_))))
 obtain ⟨h7, H⟩ := ck H
 refine r_ia (ix := 1) T S rfl rfl rfl rfl tu24 ts5 h7.1 h7.2 rfl fun _ T => r_ldE (ix := 1) (i := wr .i64 (1 + x1)) (off := 0) (f := (Value.int .u8)) T S rfl ti5 rfl (0 : Int) _ rfl rfl (Fld.all _) h7.1 h7.2 id rfl fun _ T => v2 T rfl rfl fun T => r_ia (ix := 1) T S rfl rfl rfl rfl tu24 ts5 h7.1 h7.2 rfl fun _ T => r_stE (ix := 1) (i := wr .i64 (1 + x1)) (u := bOr .u8 (gi (0 : Int) x3 (wr .i64 (1 + x1))) x2) T S rfl rfl rfl rfl (fun _ => rfl) ts5 h7.1 h7.2 rfl fun _ S => sq (rg (v1 T rfl fun T => ?_))
 replace S : SL ([blk b4 [.slice A5 ((x3.set (Int.toNat (wr .i64 (1 + x1))) (bOr .u8 (gi (0 : Int) x3 (wr .i64 (1 + x1))) x2)).length) k6], sl .own ku8 A5 k6 (x3.set (Int.toNat (wr .i64 (1 + x1))) (bOr .u8 (gi (0 : Int) x3 (wr .i64 (1 + x1))) x2))] ++ F) _ := S.reB (i := 0) rfl (by simp) rfl
 obtain rfl := sj H
 exact rtn T Try.func82 rfl rfl ⟨A5, k6, rfl, (S.only [0, 0] rfl)⟩
end b_Make_c1
namespace b_Hash
noncomputable def c0 : Code := match Try.f87.body with | some c => c | none => .skip
def R (F : List Atom) (x1 : List Int) (A2 : OA) (k3 : Nat) (m4 : Md) (r : Int) : Ending → World → Prop := fun e w' => e = .returned (.int .u64 r) ∧ SL ([sl m4 ku8 A2 k3 x1] ++ F) w'
def L0 (z : Nat) (x1 : List Int) : Nat → Int → Int → Option Int
 | 0, _, _ => none
 | m + 1, x5, x6 => If (decide (x6 < (x1.length : Int))) (Ck (0 ≤ x6 ∧ x6 < (x1.length : Int)) (L0 z x1 m (wr .u64 ((bXor .u64 x5 (wr .u64 (gi (0 : Int) x1 x6))) * 1099511628211)) (wr .i64 (x6 + 1)))) (some x5)
def f (z : Nat) (x1 : List Int) : Option Int := L0 z x1 z 14695981039346656037 0
noncomputable def ptL0 : List Item := [.code (cB (cB (cR (cL (cR (cR c0)))))), .inLoop (cB (cB (cR (cL (cR (cR c0)))))), .inBlock 0, .code (cr 3 c0)]
theorem L0_ok (F : List Atom) (r : Int) (z : Nat) (x1 : List Int) (A2 : OA) (k3 : Nat) (m4 : Md) (m : Nat) : ∀ (x5 x6 : Int) (a : Act) (w : World), Tm 20 [(3, .int .u64 x5), (6, .slice A2 x1.length k3), (7, .int .i64 (x1.length : Int)), (8, .int .i64 x6)] a → SL ([sl m4 ku8 A2 k3 x1] ++ F) w → L0 z x1 m x5 x6 = some r → Gets Try.prog 87 ptL0 a w (R F x1 A2 k3 m4 r) := by
 induction m with
 | zero => intro _ _ _ _ _ _ H; cases H
 | succ m ih =>
  intro x5 x6 a w T S H
  refine sq (rg (v1 T rfl fun T => sq ?_))
  rcases ifE H with ⟨h7, H⟩ | ⟨h7, H⟩
  ·refine cdT T rfl h7 (sk (sq (bq (sq (rg ?_)))))
   obtain ⟨h8, H⟩ := ck H
   refine r_ia (ix := 0) T S rfl rfl rfl rfl tu24 ts5 h8.1 h8.2 rfl fun _ T => r_ldE (ix := 0) (i := x6) (off := 0) (f := (Value.int .u8)) T S rfl ti5 rfl (0 : Int) _ rfl rfl (Fld.all _) h8.1 h8.2 id rfl fun _ T => v1 T rfl fun T => sq (rg (v2 T rfl rfl fun T => r_conv T rfl tu5 tu34 rfl fun _ T => v2 T rfl rfl fun T => rg (v3 T rfl rfl rfl fun T => Gets.inBlock (rg (v2 T rfl rfl fun T => Gets.inLoop ?_)))))
   exact ih (wr .u64 ((bXor .u64 x5 (wr .u64 (gi (0 : Int) x1 x6))) * 1099511628211)) (wr .i64 (x6 + 1)) _ _ (T.sb rfl) (S.only [0] rfl) H
  ·refine cdF T rfl h7 (Gets.exit rfl (sq (rg (v2 T rfl rfl fun T => ?_))))
   obtain rfl := sj H
   exact rtn T Try.func87 rfl rfl ⟨rfl, (S.only [0] rfl)⟩
theorem ok (F : List Atom) (w : World) (z : Nat) (x1 : List Int) {A2 : OA} {k3 : Nat} {m4 : Md} (S : SL ([sl m4 ku8 A2 k3 x1] ++ F) w) (r : Int) (H : f z x1 = some r) : Calls Try.prog 87 #[.slice A2 x1.length k3] w (R F x1 A2 k3 m4 r) := by
 refine enter (vs := [.slice A2 x1.length k3]) Try.func87 rfl Try.ntmps87 (nle rfl) fun a T => ?_
 refine sq (rg (v1 T rfl fun T => sq (rg (v1 T rfl fun T => sq (sq (rg (v1 T rfl fun T => rn T rfl tu24 rfl fun _ T => v1 T rfl fun T => bq (Gets.loop ?_))))))))
 exact L0_ok F r z x1 A2 k3 m4 z 14695981039346656037 0 _ _ (T.sb rfl) (S.only [0] rfl) H
end b_Hash
namespace bits_RotateLeft64
def R (F : List Atom) (r : Int) : Ending → World → Prop := fun e w' => e = .returned (.int .u64 r) ∧ SL ([] ++ F) w'
def f (x1 x2 : Int) : Option Int := Ck (0 ≤ bAnd .u64 (wr .u64 x2) 63) (Ck (0 ≤ wr .u64 (64 - (bAnd .u64 (wr .u64 x2) 63))) (some (bOr .u64 (sShl .u64 x1 (bAnd .u64 (wr .u64 x2) 63)) (sShr .u64 x1 (wr .u64 (64 - (bAnd .u64 (wr .u64 x2) 63)))))))
theorem ok (F : List Atom) (w : World) (x1 x2 : Int) (S : SL ([] ++ F) w) (r : Int) (H : f x1 x2 = some r) : Calls Try.prog 88 #[.int .u64 x1, .int .i64 x2] w (R F r) := by
 refine enter (vs := [.int .u64 x1, .int .i64 x2]) Try.func88 rfl Try.ntmps88 (nle rfl) fun a T => ?_
 refine sq (rg (v1 T rfl fun T => sq (rg (v1 T rfl fun T => r_conv T rfl tu3 Try.runUnderlying101 rfl fun _ T => v2 T rfl rfl fun T => sq (rg (v2 T rfl rfl fun T => ?_))))))
 obtain ⟨h3, H⟩ := ck H
 refine r_shl T rfl rfl h3 rfl fun _ T => v3 T rfl rfl rfl fun T => ?_
 obtain ⟨h4, H⟩ := ck H
 refine r_shr T rfl rfl h4 rfl fun _ T => v2 T rfl rfl fun T => ?_
 obtain rfl := sj H
 exact rtn T Try.func88 rfl rfl ⟨rfl, (S.only [] rfl)⟩
end bits_RotateLeft64
namespace b_each_at82
noncomputable def c0 : Code := match Try.f66.body with | some c => c | none => .skip
def R (F : List Atom) (x1 : List Int) (A2 : OA) (k3 : Nat) (m4 : Md) (b8 : Nat) (r : Bool × (List Int)) : Ending → World → Prop := fun e w' => ∃ (A30 : OA), ∃ (k31 : Nat), e = .returned (.bool r.1) ∧ SL ([sl m4 ku8 A2 k3 x1, blk b8 [.slice A30 r.2.length k31], sl .own ku8 A30 k31 r.2] ++ F) w'
def L0 (z : Nat) (x5 x6 x14 : Int) : Nat → Int → Int → (List Int) → Option (Bool × (List Int))
 | 0, _, _, _ => none
 | m + 1, x18, x19, x15 => If (decide (x19 < x5)) (Ck (x6 ≠ 0) (Ck (0 ≤ Int.tmod (Int.tmod x18 x6) 8) (Bd (b_Make_c1.f (wr .i64 (wr .u64 (Int.tdiv (Int.tmod x18 x6) 8))) (sShl .u8 1 (Int.tmod (Int.tmod x18 x6) 8)) x15) fun x24 => If (!x24.1) (some (false, x24.2)) (L0 z x5 x6 x14 m (wr .u64 (x18 + (bOr .u64 x14 1))) (wr .i64 (x19 + 1)) x24.2)))) (some (true, x15))
def f (z : Nat) (x1 : List Int) (x5 x6 : Int) (x7 : List Int) : Option (Bool × (List Int)) := Bd (b_Hash.f z x1) fun x12 => Bd (bits_RotateLeft64.f x12 31) fun x14 => L0 z x5 x6 x14 z x12 0 x7
noncomputable def ptL0 : List Item := [.code (cB (cB (cR (cL (cr 3 c0))))), .inLoop (cB (cB (cR (cL (cr 3 c0))))), .inBlock 0, .code (cr 4 c0)]
theorem L0_ok (F : List Atom) (r : Bool × (List Int)) (z : Nat) (x1 : List Int) (A2 : OA) (k3 : Nat) (m4 : Md) (b8 : Nat) (x6 x14 x5 : Int) (m : Nat) : ∀ (x18 x19 : Int) (A16 : OA) (x15 : List Int) (k17 : Nat) (a : Act) (w : World), Tm 36 [(2, .int .u64 x6), (3, .func (.func 82) #[] #[.pointer (some ⟨b8, 0, none⟩)]), (9, .int .u64 x18), (10, .int .u64 (bOr .u64 x14 1)), (17, .int .i64 x5), (18, .int .i64 x19)] a → SL ([sl m4 ku8 A2 k3 x1, blk b8 [.slice A16 x15.length k17], sl .own ku8 A16 k17 x15] ++ F) w → L0 z x5 x6 x14 m x18 x19 x15 = some r → Gets Try.prog 66 ptL0 a w (R F x1 A2 k3 m4 b8 r) := by
 induction m with
 | zero => intro _ _ _ _ _ _ _ _ _ H; cases H
 | succ m ih =>
  intro x18 x19 A16 x15 k17 a w T S H
  refine sq (rg (v1 T rfl fun T => sq ?_))
  rcases ifE H with ⟨h20, H⟩ | ⟨h20, H⟩
  ·refine cdT T rfl h20 (sk (sq (bq (sq (rg (v2 T rfl rfl fun T => ?_))))))
   obtain ⟨h21, H⟩ := ck H
   refine r_rem T rfl rfl h21 rfl fun _ T => v1 T rfl fun T => sq (sq ?_)
   refine rg (v2 T rfl rfl fun T => r_quo T rfl rfl (by decide) rfl fun _ T => ?_)
   refine r_conv T rfl tu34 tu3 rfl fun _ T => v1 T rfl fun T => r_rem T rfl rfl (by decide) rfl fun _ T => ?_
   obtain ⟨h22, H⟩ := ck H
   refine r_shl T rfl rfl h22 rfl fun _ T => ?_
   obtain ⟨x24, h23, H⟩ := bd H
   refine r_callF T rfl Try.call82 rfl rfl (b_Make_c1.ok _ _ (wr .i64 (wr .u64 (Int.tdiv (Int.tmod x18 x6) 8))) (sShl .u8 1 (Int.tmod (Int.tmod x18 x6) 8)) x15 (S.sel (is := [1, 1]) rfl) _ h23) ?_
   rintro _ _ ⟨A26, k27, rfl, S⟩
   refine ⟨_, rfl, fun _ T => ?_⟩
   replace S := S.join
   refine v1 T rfl fun T => ?_
   rcases ifE H with ⟨h28, H⟩ | ⟨h28, H⟩
   ·refine cdT T rfl h28 (sq (rg (v1 T rfl fun T => ?_)))
    obtain rfl := sj H
    exact rtn T tf66 rfl rfl ⟨A26, k27, rfl, (S.only [2, 0, 0] rfl)⟩
   ·refine cdF T rfl h28 (sk (rg (v3 T rfl rfl rfl fun T => v1 T rfl fun T => Gets.inBlock (rg (v2 T rfl rfl fun T => Gets.inLoop ?_)))))
    exact ih (wr .u64 (x18 + (bOr .u64 x14 1))) (wr .i64 (x19 + 1)) A26 x24.2 k27 _ _ (T.sb rfl) (S.only [2, 0, 0] rfl) H
  ·refine cdF T rfl h20 (Gets.exit rfl (sq (rg (v1 T rfl fun T => ?_))))
   obtain rfl := sj H
   exact rtn T tf66 rfl rfl ⟨A16, k17, rfl, (S.only [0, 0, 0] rfl)⟩
theorem ok (F : List Atom) (w : World) (z : Nat) (x1 : List Int) (x5 x6 : Int) (x7 : List Int) {A2 : OA} {k3 : Nat} {m4 : Md} {b8 : Nat} {A9 : OA} {k10 : Nat} (S : SL ([sl m4 ku8 A2 k3 x1, blk b8 [.slice A9 x7.length k10], sl .own ku8 A9 k10 x7] ++ F) w) (r : Bool × (List Int)) (H : f z x1 x5 x6 x7 = some r) : Calls Try.prog 66 #[.slice A2 x1.length k3, .int .i64 x5, .int .u64 x6, .func (.func 82) #[] #[.pointer (some ⟨b8, 0, none⟩)]] w (R F x1 A2 k3 m4 b8 r) := by
 refine enter (vs := [.slice A2 x1.length k3, .int .i64 x5, .int .u64 x6, .func (.func 82) #[] #[.pointer (some ⟨b8, 0, none⟩)]]) tf66 rfl Try.ntmps66 (nle rfl) fun a T => ?_
 refine sq (rg (v1 T rfl fun T => sq (rg (v1 T rfl fun T => ?_))))
 obtain ⟨x12, h11, H⟩ := bd H
 refine rc T Try.call87 rfl rfl (b_Hash.ok _ _ z x1 (S.sel (is := [0]) rfl) _ h11) ?_
 rintro _ _ ⟨rfl, S⟩
 refine ⟨_, rfl, fun _ T => ?_⟩
 replace S := S.join
 refine v1 T rfl fun T => sq (rg (v1 T rfl fun T => ?_))
 obtain ⟨x14, h13, H⟩ := bd H
 refine rc T Try.call88 rfl rfl (bits_RotateLeft64.ok _ _ x12 31 (S.sel (is := []) rfl) _ h13) ?_
 rintro _ _ ⟨rfl, S⟩
 refine ⟨_, rfl, fun _ T => ?_⟩
 replace S := S.join
 refine v2 T rfl rfl fun T => sq (sq (rg (v2 T rfl rfl fun T => bq (Gets.loop ?_))))
 exact L0_ok F r z x1 A2 k3 m4 b8 x6 x14 x5 z x12 0 A9 x7 k10 _ _ (T.sb rfl) (S.only [0, 0, 0] rfl) H
end b_each_at82
namespace b_Make
noncomputable def c0 : Code := match Try.f57.body with | some c => c | none => .skip
def R (F : List Atom) (x1 : List (List Int)) (A2 : OA) (k3 : Nat) (m4 : Md) (r : (List Int) × Int) : Ending → World → Prop := fun e w' => ∃ (A26 : OA), ∃ (k27 : Nat), e = .returned (.tuple #[.slice A26 r.1.length k27, .int .i64 r.2]) ∧ SL ([sl .own ku8 A26 k27 r.1, sl m4 (kSl ku8) A2 k3 x1] ++ F) w'
def L1 (z : Nat) (x1 : List (List Int)) (x5 : Int) : Nat → Int → (List Int) → Option ((List Int) × Int)
 | 0, _, _ => none
 | m + 1, x16, x13 => If (decide (x16 < (x1.length : Int))) (Ck (0 ≤ x16 ∧ x16 < (x1.length : Int)) (Bd (b_each_at82.f z (gi [] x1 x16) (mx 1 (wr .i64 (Int.tdiv (wr .i64 (x5 * 69)) 100))) (wr .u64 (wr .i64 ((mx 1 (wr .i64 (Int.tdiv (wr .i64 ((wr .i64 ((x1.length : Int) * x5)) + 63)) 64))) * 64))) x13) fun x22 => L1 z x1 x5 m (wr .i64 (x16 + 1)) x22.2)) (some (x13, 0))
def J0 (z : Nat) : Option ((List Int) × Int) := some (([] : List Int), 1)
def f (z : Nat) (x1 : List (List Int)) (x5 : Int) : Option ((List Int) × Int) := If (decide (x5 < 1)) (J0 z) (If (decide (x5 > 30)) (J0 z) (If (decide ((x1.length : Int) > 65536)) (J0 z) (Ck (0 ≤ wr .i64 (1 + (wr .i64 (Int.tdiv (wr .i64 ((mx 1 (wr .i64 (Int.tdiv (wr .i64 ((wr .i64 ((x1.length : Int) * x5)) + 63)) 64))) * 64)) 8))) ∧ wr .i64 (1 + (wr .i64 (Int.tdiv (wr .i64 ((mx 1 (wr .i64 (Int.tdiv (wr .i64 ((wr .i64 ((x1.length : Int) * x5)) + 63)) 64))) * 64)) 8))) ≤ wr .i64 (1 + (wr .i64 (Int.tdiv (wr .i64 ((mx 1 (wr .i64 (Int.tdiv (wr .i64 ((wr .i64 ((x1.length : Int) * x5)) + 63)) 64))) * 64)) 8))) ∧ 1 * (wr .i64 (1 + (wr .i64 (Int.tdiv (wr .i64 ((mx 1 (wr .i64 (Int.tdiv (wr .i64 ((wr .i64 ((x1.length : Int) * x5)) + 63)) 64))) * 64)) 8)))) ≤ 281474976710656) (Ck (0 < ((List.replicate (Int.toNat (wr .i64 (1 + (wr .i64 (Int.tdiv (wr .i64 ((mx 1 (wr .i64 (Int.tdiv (wr .i64 ((wr .i64 ((x1.length : Int) * x5)) + 63)) 64))) * 64)) 8))))) (0 : Int)).length : Int)) (L1 z x1 x5 z 0 ((List.replicate (Int.toNat (wr .i64 (1 + (wr .i64 (Int.tdiv (wr .i64 ((mx 1 (wr .i64 (Int.tdiv (wr .i64 ((wr .i64 ((x1.length : Int) * x5)) + 63)) 64))) * 64)) 8))))) (0 : Int)).set (Int.toNat 0) (wr .u8 (mx 1 (wr .i64 (Int.tdiv (wr .i64 (x5 * 69)) 100))))))))))
noncomputable def ptL1 : List Item := [.code (cB (cB (cR (cL (cr 6 c0))))), .inLoop (cB (cB (cR (cL (cr 6 c0))))), .inBlock 0, .code (cr 7 c0)]
noncomputable def ptJ0 : List Item := [.code (cL (cT (cR (cL (cR c0))))), .code (cR (cT (cR (cL (cR c0))))), .code (cR (cR c0))]
theorem L1_ok (F : List Atom) (r : (List Int) × Int) (z : Nat) (x1 : List (List Int)) (A2 : OA) (k3 : Nat) (m4 : Md) (x5 : Int) (b11 m : Nat) : ∀ (x16 : Int) (A14 : OA) (x13 : List Int) (k15 : Nat) (a : Act) (w : World), Tm 56 [(6, .int .i64 (wr .i64 ((mx 1 (wr .i64 (Int.tdiv (wr .i64 ((wr .i64 ((x1.length : Int) * x5)) + 63)) 64))) * 64))), (7, .int .i64 (mx 1 (wr .i64 (Int.tdiv (wr .i64 (x5 * 69)) 100)))), (8, .pointer (some ⟨b11, 0, none⟩)), (42, .slice A2 x1.length k3), (43, .int .i64 (x1.length : Int)), (44, .int .i64 x16)] a → SL ([sl m4 (kSl ku8) A2 k3 x1, blk b11 [.slice A14 x13.length k15], sl .own ku8 A14 k15 x13] ++ F) w → L1 z x1 x5 m x16 x13 = some r → Gets Try.prog 57 ptL1 a w (R F x1 A2 k3 m4 r) := by
 induction m with
 | zero => intro _ _ _ _ _ _ _ _ H; cases H
 | succ m ih =>
  intro x16 A14 x13 k15 a w T S H
  refine sq (rg (v1 T rfl fun T => sq ?_))
  rcases ifE H with ⟨h17, H⟩ | ⟨h17, H⟩
  ·refine cdT T rfl h17 (sk (sq (bq (sq (rg ?_)))))
   obtain ⟨h18, H⟩ := ck H
   refine r_ia (ix := 0) T S rfl rfl rfl rfl tu62 ts24 h18.1 h18.2 rfl fun _ T => r_ldR (ix := 0) (i := x16) (off := 0) T S rfl ti24 rfl [] _ rfl rfl (Fld.all _) h18.1 h18.2 rfl rfl fun _ _ S T => ?_
   obtain ⟨A19, k20, hv_, S_⟩ := S.ofVal
   subst hv_
   replace S := S_
   refine v1 T rfl fun T => rg (v3 T rfl rfl rfl fun T => r_conv T rfl tu3 tu34 rfl fun _ T => v1 T rfl fun T => ?_)
   obtain ⟨x22, h21, H⟩ := bd H
   refine rc T Try.call66 rfl rfl (b_each_at82.ok _ _ z (gi [] x1 x16) (mx 1 (wr .i64 (Int.tdiv (wr .i64 (x5 * 69)) 100))) (wr .u64 (wr .i64 ((mx 1 (wr .i64 (Int.tdiv (wr .i64 ((wr .i64 ((x1.length : Int) * x5)) + 63)) 64))) * 64))) x13 (S.sel (is := [0, 1, 1]) rfl) _ h21) ?_
   rintro _ _ ⟨A24, k25, rfl, S⟩
   refine ⟨_, rfl, fun _ T => ?_⟩
   replace S := S.join
   refine Gets.inBlock (rg (v2 T rfl rfl fun T => Gets.inLoop ?_))
   exact ih (wr .i64 (x16 + 1)) A24 x22.2 k25 _ _ (T.sb rfl) (S.only [3, 1, 1] rfl) H
  ·refine cdF T rfl h17 (Gets.exit rfl (sq (rg (lB (ix := 1) T S rfl ti24 rfl rfl rfl fun _ T => v2 T rfl rfl fun T => ?_))))
   obtain rfl := sj H
   exact rtn T Try.func57 rfl rfl ⟨A14, k15, rfl, (S.only [2, 0] rfl)⟩
theorem J0_ok (F : List Atom) (r : (List Int) × Int) (z : Nat) (x1 : List (List Int)) (A2 : OA) (k3 : Nat) (m4 : Md) (x5 : Int) (a : Act) (w : World) (T : Tm 56 [] a) (S : SL ([sl m4 (kSl ku8) A2 k3 x1] ++ F) w) (H : J0 z = some r) : Gets Try.prog 57 ptJ0 a w (R F x1 A2 k3 m4 r) := by
 refine rg (v2 T rfl rfl fun T => ?_)
 replace S := S.nil ku8 .own
 obtain rfl := sj H
 exact rtn T Try.func57 rfl rfl ⟨none, 0, rfl, (S.only [0, 0] rfl)⟩
theorem ok (F : List Atom) (w : World) (z : Nat) (x1 : List (List Int)) (x5 : Int) {A2 : OA} {k3 : Nat} {m4 : Md} (S : SL ([sl m4 (kSl ku8) A2 k3 x1] ++ F) w) (r : (List Int) × Int) (H : f z x1 x5 = some r) : Calls Try.prog 57 #[.slice A2 x1.length k3, .int .i64 x5] w (R F x1 A2 k3 m4 r) := by
 refine enter (vs := [.slice A2 x1.length k3, .int .i64 x5]) Try.func57 rfl Try.ntmps57 (nle rfl) fun a T => ?_
 refine sq (rg (v2 T rfl rfl fun T => sq (sq (rg (v3 T rfl rfl rfl fun T => ?_)))))
 rcases ifE H with ⟨h6, H⟩ | ⟨h6, H⟩
 ·refine gn T rfl h6 fun T => gn T rfl h6 fun T => pT T rfl h6 rfl rfl fun _ T => v1 T rfl fun T => gn T rfl rfl fun T => gn T rfl rfl fun T => gn T rfl rfl fun T => pT T rfl rfl rfl rfl fun _ T => cdT T rfl rfl (sq ?_)
  exact J0_ok F r z x1 A2 k3 m4 x5 _ _ (T.sub trivial) (S.only [0] rfl) H
 ·refine gy T rfl h6 (v1 T rfl fun T => gy T rfl h6 (v1 T rfl fun T => pF T rfl h6 rfl rfl fun _ T => v1 T rfl fun T => ?_))
  rcases ifE H with ⟨h7, H⟩ | ⟨h7, H⟩
  ·refine gn T rfl h7 fun T => gn T rfl h7 fun T => gn T rfl h7 fun T => pT T rfl h7 rfl rfl fun _ T => cdT T rfl rfl (sq ?_)
   exact J0_ok F r z x1 A2 k3 m4 x5 _ _ (T.sub trivial) (S.only [0] rfl) H
  ·refine gy T rfl h7 (v1 T rfl fun T => gy T rfl h7 (rn T rfl tu62 rfl fun _ T => gy T rfl h7 (v1 T rfl fun T => pF T rfl h7 rfl rfl fun _ T => ?_)))
   rcases ifE H with ⟨h8, H⟩ | ⟨h8, H⟩
   ·refine cdT T rfl h8 (sq ?_)
    exact J0_ok F r z x1 A2 k3 m4 x5 _ _ (T.sub trivial) (S.only [0] rfl) H
   ·refine cdF T rfl h8 (sk (sq (rg (v1 T rfl fun T => rn T rfl tu62 rfl fun _ T => v1 T rfl fun T => ?_))))
    refine v2 T rfl rfl fun T => r_quo T rfl rfl (by decide) rfl fun _ T => ?_
    refine r_max T rfl rfl rfl fun _ T => v2 T rfl rfl fun T => sq ?_
    refine rg (v2 T rfl rfl fun T => r_quo T rfl rfl (by decide) rfl fun _ T => ?_)
    refine r_max T rfl rfl rfl fun _ T => v1 T rfl fun T => sq (rg ?_)
    refine v1 T rfl fun T => r_quo T rfl rfl (by decide) rfl fun _ T => ?_
    refine v1 T rfl fun T => ?_
    obtain ⟨h9, H⟩ := ck H
    refine r_make (κ := ku8) T S rfl rfl sty24 (0 : Int) (fun _ => rfl) h9.1 (Int.le_refl _) (by decide) (by have := h9.2.2; omega) rfl fun _ _ b10 S T => ?_
    replace T := T.re (s := 37) (v' := .slice (some ⟨b10, 0, none⟩) (List.replicate (Int.toNat (wr .i64 (1 + (wr .i64 (Int.tdiv (wr .i64 ((mx 1 (wr .i64 (Int.tdiv (wr .i64 ((wr .i64 ((x1.length : Int) * x5)) + 63)) 64))) * 64)) 8))))) (0 : Int)).length (Int.toNat (wr .i64 (1 + (wr .i64 (Int.tdiv (wr .i64 ((mx 1 (wr .i64 (Int.tdiv (wr .i64 ((wr .i64 ((x1.length : Int) * x5)) + 63)) 64))) * 64)) 8)))))) rfl (by simp)
    refine r_alloc T S zv24 (cs := [.slice none 0 0]) rfl rfl fun _ _ b11 S T => r_stB (ix := 0) T S rfl rfl rfl ts24 rfl (nle rfl) rfl fun _ S => sq (rg (lB (ix := 0) T S rfl ti24 rfl rfl rfl fun _ T => v1 T rfl fun T => r_conv T rfl tu3 tu5 rfl fun _ T => ?_))
    obtain ⟨h12, H⟩ := ck H
    refine r_ia (ix := 1) T S rfl rfl rfl rfl tu24 ts5 (by decide) h12 rfl fun _ T => ?_
    refine r_stE (ix := 1) (i := 0) (u := wr .u8 (mx 1 (wr .i64 (Int.tdiv (wr .i64 (x5 * 69)) 100)))) T S rfl rfl rfl rfl (fun _ => rfl) ts5 (by decide) h12 rfl fun _ S => ?_
    refine sq (sq (rg (v1 T rfl fun T => rn T rfl tu62 rfl fun _ T => v1 T rfl fun T => bq (Gets.loop ?_))))
    replace S : SL ([blk b11 [.slice (some ⟨b10, 0, none⟩) (((List.replicate (Int.toNat (wr .i64 (1 + (wr .i64 (Int.tdiv (wr .i64 ((mx 1 (wr .i64 (Int.tdiv (wr .i64 ((wr .i64 ((x1.length : Int) * x5)) + 63)) 64))) * 64)) 8))))) (0 : Int)).set (Int.toNat 0) (wr .u8 (mx 1 (wr .i64 (Int.tdiv (wr .i64 (x5 * 69)) 100))))).length) (Int.toNat (wr .i64 (1 + (wr .i64 (Int.tdiv (wr .i64 ((mx 1 (wr .i64 (Int.tdiv (wr .i64 ((wr .i64 ((x1.length : Int) * x5)) + 63)) 64))) * 64)) 8)))))], sl .own ku8 (some ⟨b10, 0, none⟩) (Int.toNat (wr .i64 (1 + (wr .i64 (Int.tdiv (wr .i64 ((mx 1 (wr .i64 (Int.tdiv (wr .i64 ((wr .i64 ((x1.length : Int) * x5)) + 63)) 64))) * 64)) 8))))) ((List.replicate (Int.toNat (wr .i64 (1 + (wr .i64 (Int.tdiv (wr .i64 ((mx 1 (wr .i64 (Int.tdiv (wr .i64 ((wr .i64 ((x1.length : Int) * x5)) + 63)) 64))) * 64)) 8))))) (0 : Int)).set (Int.toNat 0) (wr .u8 (mx 1 (wr .i64 (Int.tdiv (wr .i64 (x5 * 69)) 100))))), sl m4 (kSl ku8) A2 k3 x1] ++ F) _ := S.reB (i := 0) rfl (by simp) rfl
    exact L1_ok F r z x1 A2 k3 m4 x5 b11 z 0 (some ⟨b10, 0, none⟩) ((List.replicate (Int.toNat (wr .i64 (1 + (wr .i64 (Int.tdiv (wr .i64 ((mx 1 (wr .i64 (Int.tdiv (wr .i64 ((wr .i64 ((x1.length : Int) * x5)) + 63)) 64))) * 64)) 8))))) (0 : Int)).set (Int.toNat 0) (wr .u8 (mx 1 (wr .i64 (Int.tdiv (wr .i64 (x5 * 69)) 100))))) (Int.toNat (wr .i64 (1 + (wr .i64 (Int.tdiv (wr .i64 ((mx 1 (wr .i64 (Int.tdiv (wr .i64 ((wr .i64 ((x1.length : Int) * x5)) + 63)) 64))) * 64)) 8))))) _ _ (T.sb rfl) (S.only [2, 0, 0] rfl) H
end b_Make
namespace s_high
noncomputable def c0 : Code := match Try.f59.body with | some c => c | none => .skip
def R (F : List Atom) (r : (List Int)) : Ending → World → Prop := fun e w' => ∃ (A12 : OA), ∃ (k13 : Nat), e = .returned (.slice A12 r.length k13) ∧ SL ([sl .own ku8 A12 k13 r] ++ F) w'
def L0 (z : Nat) (x1 x2 : Int) : Nat → (List Int) → Int → Option (List Int)
 | 0, _, _ => none
 | m + 1, x5, x8 => If (decide (x8 < ((List.replicate (Int.toNat x2) (0 : Int)).length : Int))) (Ck (0 ≤ wr .i64 (8 * (wr .i64 ((wr .i64 (x2 - 1)) - x8)))) (Ck (0 ≤ x8 ∧ x8 < (x5.length : Int)) (L0 z x1 x2 m (x5.set (Int.toNat x8) (wr .u8 (sShr .i64 x1 (wr .i64 (8 * (wr .i64 ((wr .i64 (x2 - 1)) - x8))))))) (wr .i64 (x8 + 1))))) (some x5)
def f (z : Nat) (x1 x2 : Int) : Option (List Int) := Ck (0 ≤ x2 ∧ x2 ≤ x2 ∧ 1 * x2 ≤ 281474976710656) (L0 z x1 x2 z (List.replicate (Int.toNat x2) (0 : Int)) 0)
noncomputable def ptL0 : List Item := [.code (cB (cB (cR (cL (cR (cR c0)))))), .inLoop (cB (cB (cR (cL (cR (cR c0)))))), .inBlock 0, .code (cr 3 c0)]
theorem L0_ok (F : List Atom) (r : (List Int)) (z : Nat) (x1 x2 : Int) (m : Nat) : ∀ (A6 : OA) (x5 : List Int) (k7 : Nat) (x8 : Int) (a : Act) (w : World), Tm 27 [(0, .int .i64 x1), (1, .int .i64 x2), (5, .slice A6 x5.length k7), (10, .int .i64 ((List.replicate (Int.toNat x2) (0 : Int)).length : Int)), (11, .int .i64 x8)] a → SL ([sl .own ku8 A6 k7 x5] ++ F) w → L0 z x1 x2 m x5 x8 = some r → Gets Try.prog 59 ptL0 a w (R F r) := by
 induction m with
 | zero => intro _ _ _ _ _ _ _ _ H; cases H
 | succ m ih =>
  intro A6 x5 k7 x8 a w T S H
  refine sq (rg (v1 T rfl fun T => sq ?_))
  rcases ifE H with ⟨h9, H⟩ | ⟨h9, H⟩
  ·refine cdT T rfl h9 (sk (sq (bq (sq (rg (v2 T rfl rfl fun T => rg (v3 T rfl rfl rfl fun T => v3 T rfl rfl rfl fun T => v2 T rfl rfl fun T => ?_)))))))
   obtain ⟨h10, H⟩ := ck H
   refine r_shr T rfl rfl h10 rfl fun _ T => r_conv T rfl tu3 tu5 rfl fun _ T => ?_
   obtain ⟨h11, H⟩ := ck H
   refine r_ia (ix := 0) T S rfl rfl rfl rfl tu24 ts5 h11.1 h11.2 rfl fun _ T => r_stE (ix := 0) (i := x8) (u := wr .u8 (sShr .i64 x1 (wr .i64 (8 * (wr .i64 ((wr .i64 (x2 - 1)) - x8)))))) T S rfl rfl rfl rfl (fun _ => rfl) ts5 h11.1 h11.2 rfl fun _ S => Gets.inBlock (rg (v2 T rfl rfl fun T => Gets.inLoop ?_))
   have T := T.re (s := 5) (v' := .slice A6 (x5.set (Int.toNat x8) (wr .u8 (sShr .i64 x1 (wr .i64 (8 * (wr .i64 ((wr .i64 (x2 - 1)) - x8))))))).length k7) rfl (by simp)
   exact ih A6 (x5.set (Int.toNat x8) (wr .u8 (sShr .i64 x1 (wr .i64 (8 * (wr .i64 ((wr .i64 (x2 - 1)) - x8))))))) k7 (wr .i64 (x8 + 1)) _ _ (T.sb rfl) (S.only [0] rfl) H
  ·refine cdF T rfl h9 (Gets.exit rfl (sq (rg (v2 T rfl rfl fun T => ?_))))
   obtain rfl := sj H
   exact rtn T Try.func59 rfl rfl ⟨A6, k7, rfl, (S.only [0] rfl)⟩
theorem ok (F : List Atom) (w : World) (z : Nat) (x1 x2 : Int) (S : SL ([] ++ F) w) (r : (List Int)) (H : f z x1 x2 = some r) : Calls Try.prog 59 #[.int .i64 x1, .int .i64 x2] w (R F r) := by
 refine enter (vs := [.int .i64 x1, .int .i64 x2]) Try.func59 rfl Try.ntmps59 (nle rfl) fun a T => ?_
 refine sq (rg (v1 T rfl fun T => sq (rg (v1 T rfl fun T => ?_))))
 obtain ⟨h3, H⟩ := ck H
 refine r_make (κ := ku8) T S rfl rfl sty24 (0 : Int) (fun _ => rfl) h3.1 (Int.le_refl _) (by decide) (by have := h3.2.2; omega) rfl fun _ _ b4 S T => ?_
 replace T := T.re (s := 8) (v' := .slice (some ⟨b4, 0, none⟩) (List.replicate (Int.toNat x2) (0 : Int)).length (Int.toNat x2)) rfl (by simp)
 refine v1 T rfl fun T => sq (sq (rg (v1 T rfl fun T => rn T rfl tu24 rfl fun _ T => v1 T rfl fun T => bq (Gets.loop ?_))))
 exact L0_ok F r z x1 x2 z (some ⟨b4, 0, none⟩) (List.replicate (Int.toNat x2) (0 : Int)) (Int.toNat x2) 0 _ _ (T.sb rfl) (S.only [0] rfl) H
end s_high
namespace s_builder_end
def R (F : List Atom) (x12 : List (List Int)) (A13 : OA) (k14 : Nat) (m15 : Md) (r : (List Int) × Int) : Ending → World → Prop := fun e w' => ∃ (A84 : OA), ∃ (k85 : Nat), e = .returned (.tuple #[.slice A84 r.1.length k85, .int .i64 r.2]) ∧ SL ([sl .own ku8 A84 k85 r.1, sl m15 (kSl ku8) A13 k14 x12] ++ F) w'
def f (z : Nat) (x1 : s_builder) (x11 : Int) (x12 : List (List Int)) (x16 x17 : Int) : Option ((List Int) × Int) := Bd (b_Make.f z x12 x17) fun x19 => Bd (s_builder_frame.f z x1 70 x19.1) fun x23 => Bd (c_Number.f z (wr .u64 x23.blocks)) fun x2302 => Ck ((x2302.length + x23.index.length) * 1 ≤ 140737488355328) (If (decide (((x2302 ++ x23.index).length : Int) > 2097152)) (some (([] : List Int), 43)) (Bd (s_builder_frame.f z x23 73 (x2302 ++ x23.index)) fun x35 => Bd (s_high.f z (x1.out.length : Int) 8) fun x46 => Bd (s_high.f z (x23.out.length : Int) 8) fun x50 => Bd (s_high.f z x11 8) fun x54 => Bd (s_high.f z x16 4) fun x58 => Bd (s_high.f z x17 4) fun x62 => Bd (slices_Concat_byte.f z [x46, x50, x54, x58, x62, [67, 79, 82, 77]]) fun x68 => Bd (c_Sum.f z x68) fun x72 => Ck ((x68.length + [wr .u8 x72, wr .u8 (sShr .u32 x72 8), wr .u8 (sShr .u32 x72 16), wr .u8 (sShr .u32 x72 24)].length) * 1 ≤ 140737488355328) (Ck ((x35.out.length + (x68 ++ [wr .u8 x72, wr .u8 (sShr .u32 x72 8), wr .u8 (sShr .u32 x72 16), wr .u8 (sShr .u32 x72 24)]).length) * 1 ≤ 140737488355328) (If (decide (((x35.out ++ (x68 ++ [wr .u8 x72, wr .u8 (sShr .u32 x72 8), wr .u8 (sShr .u32 x72 16), wr .u8 (sShr .u32 x72 24)])).length : Int) > 4194304)) (some (([] : List Int), 43)) (Bd (slices_Clip_byte.f (x35.out ++ (x68 ++ [wr .u8 x72, wr .u8 (sShr .u32 x72 8), wr .u8 (sShr .u32 x72 16), wr .u8 (sShr .u32 x72 24)]))) fun x82 => some (x82, 0))))))
abbrev y0 (b2 : Nat) : Option (Value × Bool) := some (.pointer (some ⟨b2, 0, none⟩), true)
theorem ok (F : List Atom) (w : World) (z : Nat) (x1 : s_builder) (x11 : Int) (x12 : List (List Int)) (x16 x17 : Int) {b2 : Nat} {A3 : OA} {k4 : Nat} {A5 : OA} {k6 : Nat} {A7 : OA} {k8 : Nat} {A9 : OA} {k10 : Nat} {A13 : OA} {k14 : Nat} {m15 : Md} (S : SL ([blk b2 [.slice A3 x1.out.length k4, .slice A5 x1.body.length k6, .slice A7 x1.index.length k8, .int .i64 x1.many, .int .i64 x1.blocks, .slice A9 x1.last.length k10], sl .own ku8 A3 k4 x1.out, sl .ro ku8 A5 k6 x1.body, sl .own ku8 A7 k8 x1.index, sl .ro ku8 A9 k10 x1.last, sl m15 (kSl ku8) A13 k14 x12] ++ F) w) (r : (List Int) × Int) (H : f z x1 x11 x12 x16 x17 = some r) : Calls Try.prog 30 #[.pointer (some ⟨b2, 0, none⟩), .int .i64 x11, .slice A13 x12.length k14, .int .i64 x16, .int .i64 x17] w (R F x12 A13 k14 m15 r) := by
 refine enter (vs := [.pointer (some ⟨b2, 0, none⟩), .int .i64 x11, .slice A13 x12.length k14, .int .i64 x16, .int .i64 x17]) tf30 rfl Try.ntmps30 (nle rfl) fun a T => ?_
 refine sq (rg (v2 T rfl rfl fun T => sq (rg (v2 T rfl rfl fun T => r_fa (o' := 0) T rfl tu61 rfl ts24 rfl rfl fun _ T => lB (ix := 0) T S rfl ti24 rfl rfl rfl fun _ T => rn T rfl tu24 rfl fun _ T => v1 T rfl fun T => sq (rg (v2 T rfl rfl fun T => ?_))))))
 obtain ⟨x19, h18, H⟩ := bd H
 refine rc T Try.call57 rfl rfl (b_Make.ok _ _ z x12 x17 (S.sel (is := [5]) rfl) _ h18) ?_
 rintro _ _ ⟨A20, k21, rfl, S⟩
 refine ⟨_, rfl, fun _ T => ?_⟩
 replace S := S.join
 refine v3 T rfl rfl rfl fun T => v2 T rfl rfl fun T => sq (rg (v2 T rfl rfl fun T => ?_))
 replace S := S.fixL (i := 0) rfl rfl
 obtain ⟨x23, h22, H⟩ := bd H
 refine rc T Try.call54 rfl rfl (s_builder_frame.ok _ _ z x1 70 x19.1 (S.sel (is := [2, 2, 2, 2, 2, 0]) rfl) _ h22) ?_
 rintro _ _ ⟨A25, k26, A27, k28, A29, k30, A31, k32, rfl, S⟩
 refine ⟨_, rfl, fun _ T => ?_⟩
 replace S := S.join
 refine sq (rg (v2 T rfl rfl fun T => r_fa (o' := 0) T rfl tu61 rfl ts24 rfl rfl fun _ T => lB (ix := 0) T S rfl ti24 rfl rfl rfl fun _ T => rn T rfl tu24 rfl fun _ T => v1 T rfl fun T => sq ?_))
 refine Gets.drawn (l := [blk b2 [.slice A25 x23.out.length k26, .slice A27 x23.body.length k28, .slice A29 x23.index.length k30, .int .i64 x23.many, .int .i64 x23.blocks, .slice A31 x23.last.length k32], sl .own ku8 A25 k26 x23.out, sl .ro ku8 A27 k28 x23.body, sl .own ku8 A29 k30 x23.index, sl .ro ku8 A31 k32 x23.last, sl m15 (kSl ku8) A13 k14 x12]) (V := [(y0 b2), (y0 b2), some (.pointer (some ⟨b2, 4, none⟩), true), some (.int .i64 x23.blocks, true), some (.int .u64 (wr .u64 x23.blocks), true), none, (y0 b2), (y0 b2), some (.pointer (some ⟨b2, 2, none⟩), true), some (.slice A29 x23.index.length k30, true), none, none]) mixed T (S.only [0, 0, 0, 0, 0, 1] rfl) rfl ?_
 refine stage (some 5) rfl rfl ⟨⟨_, _, rfl, (avl [0] rfl), fun _ _ _ T S => v1 T rfl fun T => ⟨rfl, T⟩⟩, ⟨_, _, rfl, (avl [38] rfl), fun _ _ _ T S => v1 T rfl fun T => ⟨rfl, T⟩⟩, ⟨_, _, rfl, (avl [39] rfl), fun _ _ _ T S => r_fa (o' := 4) T rfl tu61 rfl ts3 rfl rfl fun _ T => ⟨rfl, T⟩⟩, ⟨_, _, rfl, (avl [40] rfl), fun _ _ _ T S => lB (ix := 0) T S rfl ti3 rfl rfl rfl fun _ T => ⟨rfl, T⟩⟩, ⟨_, _, rfl, (avl [41] rfl), fun _ _ _ T S => r_conv T rfl tu3 tu34 rfl fun _ T => ⟨rfl, T⟩⟩, ⟨_, _, rfl, (avl [0] rfl), fun _ _ _ T S => v1 T rfl fun T => ⟨rfl, T⟩⟩, ⟨_, _, rfl, (avl [44] rfl), fun _ _ _ T S => v1 T rfl fun T => ⟨rfl, T⟩⟩, ⟨_, _, rfl, (avl [45] rfl), fun _ _ _ T S => r_fa (o' := 2) T rfl tu61 rfl ts24 rfl rfl fun _ T => ⟨rfl, T⟩⟩, ⟨_, _, rfl, (avl [46] rfl), fun _ _ _ T S => lB (ix := 0) T S rfl ti24 rfl rfl rfl fun _ T => ⟨rfl, T⟩⟩, trivial⟩ rfl (fun i hi => ?_) (fun h => by cases h)
 cases hi
 refine ⟨rfl, _, _, rfl, (avl [42] rfl), fun u a w T S => ?_⟩
 obtain ⟨x2302, h2301, H⟩ := bd H
 refine rc T tc55 rfl rfl (c_Number.ok _ _ z (wr .u64 x23.blocks) (S.sel (is := []) rfl) _ h2301) ?_
 rintro _ _ ⟨A2303, k2304, rfl, S⟩
 refine ⟨_, rfl, fun _ T => ?_⟩
 replace S := S.join
 refine ⟨_, [(y0 b2), (y0 b2), some (.pointer (some ⟨b2, 4, none⟩), true), some (.int .i64 x23.blocks, true), some (.int .u64 (wr .u64 x23.blocks), false), some (.slice A2303 x2302.length k2304, false), (y0 b2), (y0 b2), some (.pointer (some ⟨b2, 2, none⟩), true), some (.slice A29 x23.index.length k30, true), none, none], [sl .own ku8 A2303 k2304 x2302, blk b2 [.slice A25 x23.out.length k26, .slice A27 x23.body.length k28, .slice A29 x23.index.length k30, .int .i64 x23.many, .int .i64 x23.blocks, .slice A31 x23.last.length k32], sl .own ku8 A25 k26 x23.out, sl .ro ku8 A27 k28 x23.body, sl .own ku8 A29 k30 x23.index, sl .ro ku8 A31 k32 x23.last, sl m15 (kSl ku8) A13 k14 x12], rfl, (by repeat first | exact kx0 | apply kxs | apply kxn), rfl, ?_, T, S⟩
 refine stage (some 10) rfl rfl ⟨⟨_, _, rfl, (avl [0] rfl), fun _ _ _ T S => v1 T rfl fun T => ⟨rfl, T⟩⟩, ⟨_, _, rfl, (avl [38] rfl), fun _ _ _ T S => v1 T rfl fun T => ⟨rfl, T⟩⟩, ⟨_, _, rfl, (avl [39] rfl), fun _ _ _ T S => r_fa (o' := 4) T rfl tu61 rfl ts3 rfl rfl fun _ T => ⟨rfl, T⟩⟩, ⟨_, _, rfl, (avl [40] rfl), fun _ _ _ T S => lB (ix := 1) T S rfl ti3 rfl rfl rfl fun _ T => ⟨rfl, T⟩⟩, ⟨_, _, rfl, (avl [0] rfl), fun _ _ _ T S => v1 T rfl fun T => ⟨rfl, T⟩⟩, ⟨_, _, rfl, (avl [44] rfl), fun _ _ _ T S => v1 T rfl fun T => ⟨rfl, T⟩⟩, ⟨_, _, rfl, (avl [45] rfl), fun _ _ _ T S => r_fa (o' := 2) T rfl tu61 rfl ts24 rfl rfl fun _ T => ⟨rfl, T⟩⟩, ⟨_, _, rfl, (avl [46] rfl), fun _ _ _ T S => lB (ix := 1) T S rfl ti24 rfl rfl rfl fun _ T => ⟨rfl, T⟩⟩, trivial⟩ rfl (fun i hi => ?_) (fun h => by cases h)
 cases hi
 refine ⟨rfl, _, _, rfl, (avl [43, 47] rfl), fun u a w T S => ?_⟩
 obtain ⟨h2603, H⟩ := ck H
 refine r_app (ix := 0) (iy := 4) (xs := x2302) (ys := x23.index) T S rfl rfl rfl rfl (by decide) sty24 tu24 (by decide) h2603 rfl fun _ _ A2601 k2602 S T => ?_
 refine ⟨_, [(y0 b2), (y0 b2), some (.pointer (some ⟨b2, 4, none⟩), true), some (.int .i64 x23.blocks, true), some (.int .u64 (wr .u64 x23.blocks), false), some (.slice A2303 x2302.length k2304, false), (y0 b2), (y0 b2), some (.pointer (some ⟨b2, 2, none⟩), true), some (.slice A29 x23.index.length k30, false), some (.slice A2601 ((x2302 ++ x23.index).length) k2602, false), some (.slice A2601 ((x2302 ++ x23.index).length) k2602, true)], [sl .own ku8 A2601 k2602 (x2302 ++ x23.index), blk b2 [.slice A25 x23.out.length k26, .slice A27 x23.body.length k28, .slice A29 x23.index.length k30, .int .i64 x23.many, .int .i64 x23.blocks, .slice A31 x23.last.length k32], sl .own ku8 A25 k26 x23.out, sl .ro ku8 A27 k28 x23.body, sl .own ku8 A29 k30 x23.index, sl .ro ku8 A31 k32 x23.last, sl m15 (kSl ku8) A13 k14 x12], rfl, (by repeat first | exact kx0 | apply kxs | apply kxn), rfl, ?_, T, S⟩
 refine stage none rfl rfl ⟨⟨_, _, rfl, (avl [0] rfl), fun _ _ _ T S => v1 T rfl fun T => ⟨rfl, T⟩⟩, ⟨_, _, rfl, (avl [38] rfl), fun _ _ _ T S => v1 T rfl fun T => ⟨rfl, T⟩⟩, ⟨_, _, rfl, (avl [39] rfl), fun _ _ _ T S => r_fa (o' := 4) T rfl tu61 rfl ts3 rfl rfl fun _ T => ⟨rfl, T⟩⟩, ⟨_, _, rfl, (avl [40] rfl), fun _ _ _ T S => lB (ix := 1) T S rfl ti3 rfl rfl rfl fun _ T => ⟨rfl, T⟩⟩, ⟨_, _, rfl, (avl [0] rfl), fun _ _ _ T S => v1 T rfl fun T => ⟨rfl, T⟩⟩, ⟨_, _, rfl, (avl [44] rfl), fun _ _ _ T S => v1 T rfl fun T => ⟨rfl, T⟩⟩, ⟨_, _, rfl, (avl [45] rfl), fun _ _ _ T S => r_fa (o' := 2) T rfl tu61 rfl ts24 rfl rfl fun _ T => ⟨rfl, T⟩⟩, ⟨_, _, rfl, (avl [48] rfl), fun _ _ _ T S => v1 T rfl fun T => ⟨rfl, T⟩⟩, trivial⟩ rfl (fun i hi => by cases hi) (fun _ _ a w T hv hb S => ?_)
 replace T := T.sub (r := [(0, .pointer (some ⟨b2, 0, none⟩)), (1, .int .i64 x11), (3, .int .i64 x16), (4, .int .i64 x17), (12, .int .i64 (x1.out.length : Int)), (15, .int .i64 (x23.out.length : Int)), (16, .slice A2601 ((x2302 ++ x23.index).length) k2602)]) ⟨hb 0 _ rfl rfl, hb 1 _ rfl rfl, hb 3 _ rfl rfl, hb 4 _ rfl rfl, hb 12 _ rfl rfl, hb 15 _ rfl rfl, hv 11 _ 16 rfl rfl rfl, trivial⟩
 refine sq (sq (rg (v1 T rfl fun T => rn T rfl tu24 rfl fun _ T => v1 T rfl fun T => ?_)))
 rcases ifE H with ⟨h33, H⟩ | ⟨h33, H⟩
 ·refine cdT T rfl h33 (sq (rg (v2 T rfl rfl fun T => ?_)))
  replace S := S.nil ku8 .own
  obtain rfl := sj H
  exact rtn T tf30 rfl rfl ⟨none, 0, rfl, (S.only [0, 6] rfl)⟩
 ·refine cdF T rfl h33 (sk (sq (rg (v2 T rfl rfl fun T => ?_))))
  replace S := S.fixL (i := 0) rfl rfl
  obtain ⟨x35, h34, H⟩ := bd H
  refine rc T Try.call54 rfl rfl (s_builder_frame.ok _ _ z x23 73 (x2302 ++ x23.index) (S.sel (is := [1, 1, 1, 1, 1, 0]) rfl) _ h34) ?_
  rintro _ _ ⟨A37, k38, A39, k40, A41, k42, A43, k44, rfl, S⟩
  refine ⟨_, rfl, fun _ T => ?_⟩
  replace S := S.join
  refine sq (rg (v1 T rfl fun T => ?_))
  obtain ⟨x46, h45, H⟩ := bd H
  refine rc T tc59 rfl rfl (s_high.ok _ _ z (x1.out.length : Int) 8 (S.sel (is := []) rfl) _ h45) ?_
  rintro _ _ ⟨A47, k48, rfl, S⟩
  refine ⟨_, rfl, fun _ T => ?_⟩
  replace S := S.join
  refine v1 T rfl fun T => ?_
  obtain ⟨x50, h49, H⟩ := bd H
  refine rc T tc59 rfl rfl (s_high.ok _ _ z (x23.out.length : Int) 8 (S.sel (is := []) rfl) _ h49) ?_
  rintro _ _ ⟨A51, k52, rfl, S⟩
  refine ⟨_, rfl, fun _ T => ?_⟩
  replace S := S.join
  refine v1 T rfl fun T => ?_
  obtain ⟨x54, h53, H⟩ := bd H
  refine rc T tc59 rfl rfl (s_high.ok _ _ z x11 8 (S.sel (is := []) rfl) _ h53) ?_
  rintro _ _ ⟨A55, k56, rfl, S⟩
  refine ⟨_, rfl, fun _ T => ?_⟩
  replace S := S.join
  refine v1 T rfl fun T => ?_
  obtain ⟨x58, h57, H⟩ := bd H
  refine rc T tc59 rfl rfl (s_high.ok _ _ z x16 4 (S.sel (is := []) rfl) _ h57) ?_
  rintro _ _ ⟨A59, k60, rfl, S⟩
  refine ⟨_, rfl, fun _ T => ?_⟩
  replace S := S.join
  refine v1 T rfl fun T => ?_
  obtain ⟨x62, h61, H⟩ := bd H
  refine rc T tc59 rfl rfl (s_high.ok _ _ z x17 4 (S.sel (is := []) rfl) _ h61) ?_
  rintro _ _ ⟨A63, k64, rfl, S⟩
  refine ⟨_, rfl, fun _ T => ?_⟩
  replace S := S.join
  replace S := SL.val (κ := ku8) (x := 67) (cs := [.int .u8 67]) (fun _ => rfl) S
  replace S := SL.val (κ := ku8) (x := 79) (cs := [.int .u8 79]) (fun _ => rfl) S
  replace S := SL.val (κ := ku8) (x := 82) (cs := [.int .u8 82]) (fun _ => rfl) S
  replace S := SL.val (κ := ku8) (x := 77) (cs := [.int .u8 77]) (fun _ => rfl) S
  refine r_bsl (κ := ku8) (xs := [67, 79, 82, 77]) (vs := [.int .u8 67, .int .u8 79, .int .u8 82, .int .u8 77]) T S sty24 rfl ⟨_, _, rfl, ⟨3, rfl⟩, ⟨_, _, rfl, ⟨2, rfl⟩, ⟨_, _, rfl, ⟨1, rfl⟩, ⟨_, _, rfl, ⟨0, rfl⟩, rfl⟩⟩⟩⟩ rfl (by decide) rfl fun _ _ b65 S T => ?_
  replace S := S.only [0, 4, 4, 4, 4, 4, 4, 4, 4, 4, 4, 4, 4] rfl
  refine r_cvS (ix := 0) T S rfl rfl tu24 tu5 rfl ⟨_, rfl⟩ fun _ _ S T => ?_
  replace S := S.fixL (i := 5) rfl rfl
  replace S := S.asVal (i := 5) (xs := x46) rfl
  replace S := S.fixL (i := 5) rfl rfl
  replace S := S.asVal (i := 5) (xs := x50) rfl
  replace S := S.fixL (i := 5) rfl rfl
  replace S := S.asVal (i := 5) (xs := x54) rfl
  replace S := S.fixL (i := 5) rfl rfl
  replace S := S.asVal (i := 5) (xs := x58) rfl
  replace S := S.fixL (i := 5) rfl rfl
  replace S := S.asVal (i := 5) (xs := x62) rfl
  replace S := S.fixL (i := 5) rfl rfl
  replace S := S.asVal (i := 5) (xs := [67, 79, 82, 77]) rfl
  refine r_bsl (κ := (kSl ku8)) (xs := [x46, x50, x54, x58, x62, [67, 79, 82, 77]]) (vs := [.slice A47 x46.length k48, .slice A51 x50.length k52, .slice A55 x54.length k56, .slice A59 x58.length k60, .slice A63 x62.length k64, .slice (some ⟨b65, 0, none⟩) 4 4]) T S sty62 rfl ⟨_, _, rfl, ⟨5, rfl⟩, ⟨_, _, rfl, ⟨4, rfl⟩, ⟨_, _, rfl, ⟨3, rfl⟩, ⟨_, _, rfl, ⟨2, rfl⟩, ⟨_, _, rfl, ⟨1, rfl⟩, ⟨_, _, rfl, ⟨0, rfl⟩, rfl⟩⟩⟩⟩⟩⟩ rfl (by decide) rfl fun _ _ b66 S T => ?_
  replace S := S.only [0, 6, 6, 6, 6, 6, 6, 6, 6, 6, 6, 6, 6, 6] rfl
  obtain ⟨x68, h67, H⟩ := bd H
  refine rc T tc58 rfl rfl (slices_Concat_byte.ok _ _ z [x46, x50, x54, x58, x62, [67, 79, 82, 77]] (S.sel (is := [0]) rfl) _ h67) ?_
  rintro _ _ ⟨A69, k70, rfl, S⟩
  refine ⟨_, rfl, fun _ T => ?_⟩
  replace S := S.join
  refine v1 T rfl fun T => sq (rg (v1 T rfl fun T => ?_))
  obtain ⟨x72, h71, H⟩ := bd H
  refine rc T Try.call60 rfl rfl (c_Sum.ok _ _ z x68 (S.sel (is := [0]) rfl) _ h71) ?_
  rintro _ _ ⟨rfl, S⟩
  refine ⟨_, rfl, fun _ T => ?_⟩
  replace S := S.join
  refine v1 T rfl fun T => sq (rg (v1 T rfl fun T => ?_))
  refine v1 T rfl fun T => r_conv T rfl tu99 tu5 rfl fun _ T => v1 T rfl fun T => r_shr T rfl rfl (by decide) rfl fun _ T => ?_
  refine r_conv T rfl tu99 tu5 rfl fun _ T => v1 T rfl fun T => r_shr T rfl rfl (by decide) rfl fun _ T => ?_
  refine r_conv T rfl tu99 tu5 rfl fun _ T => v1 T rfl fun T => r_shr T rfl rfl (by decide) rfl fun _ T => ?_
  refine r_conv T rfl tu99 tu5 rfl fun _ T => ?_
  replace S := SL.val (κ := ku8) (x := wr .u8 x72) (cs := [.int .u8 (wr .u8 x72)]) (fun _ => rfl) S
  replace S := SL.val (κ := ku8) (x := wr .u8 (sShr .u32 x72 8)) (cs := [.int .u8 (wr .u8 (sShr .u32 x72 8))]) (fun _ => rfl) S
  replace S := SL.val (κ := ku8) (x := wr .u8 (sShr .u32 x72 16)) (cs := [.int .u8 (wr .u8 (sShr .u32 x72 16))]) (fun _ => rfl) S
  replace S := SL.val (κ := ku8) (x := wr .u8 (sShr .u32 x72 24)) (cs := [.int .u8 (wr .u8 (sShr .u32 x72 24))]) (fun _ => rfl) S
  refine r_bsl (κ := ku8) (xs := [wr .u8 x72, wr .u8 (sShr .u32 x72 8), wr .u8 (sShr .u32 x72 16), wr .u8 (sShr .u32 x72 24)]) (vs := [.int .u8 (wr .u8 x72), .int .u8 (wr .u8 (sShr .u32 x72 8)), .int .u8 (wr .u8 (sShr .u32 x72 16)), .int .u8 (wr .u8 (sShr .u32 x72 24))]) T S sty24 rfl ⟨_, _, rfl, ⟨3, rfl⟩, ⟨_, _, rfl, ⟨2, rfl⟩, ⟨_, _, rfl, ⟨1, rfl⟩, ⟨_, _, rfl, ⟨0, rfl⟩, rfl⟩⟩⟩⟩ rfl (by decide) rfl fun _ _ b73 S T => ?_
  replace S := S.only [0, 4, 4, 4, 4, 4, 4, 4, 4, 4, 4, 4, 4, 4, 4, 4] rfl
  obtain ⟨h76, H⟩ := ck H
  refine r_app (ix := 1) (iy := 0) (xs := x68) (ys := [wr .u8 x72, wr .u8 (sShr .u32 x72 8), wr .u8 (sShr .u32 x72 16), wr .u8 (sShr .u32 x72 24)]) T S rfl rfl rfl rfl (by decide) sty24 tu24 (by decide) h76 rfl fun _ _ A74 k75 S T => ?_
  refine v1 T rfl fun T => sq (rg (v3 T rfl rfl rfl fun T => r_fa (o' := 0) T rfl tu61 rfl ts24 rfl rfl fun _ T => lB (ix := 9) T S rfl ti24 rfl rfl rfl fun _ T => v1 T rfl fun T => ?_))
  obtain ⟨h79, H⟩ := ck H
  refine r_app (ix := 10) (iy := 1) (xs := x35.out) (ys := (x68 ++ [wr .u8 x72, wr .u8 (sShr .u32 x72 8), wr .u8 (sShr .u32 x72 16), wr .u8 (sShr .u32 x72 24)])) T S rfl rfl rfl rfl (by decide) sty24 tu24 (by decide) h79 rfl fun _ _ A77 k78 S T => ?_
  refine v1 T rfl fun T => r_fa (o' := 0) T rfl tu61 rfl ts24 rfl rfl fun _ T => r_stB (ix := 9) T S rfl rfl rfl ts24 rfl (nle rfl) rfl fun _ S => sq (sq (rg (v2 T rfl rfl fun T => r_fa (o' := 0) T rfl tu61 rfl ts24 rfl rfl fun _ T => lB (ix := 9) T S rfl ti24 rfl rfl rfl fun _ T => rn T rfl tu24 rfl fun _ T => v1 T rfl fun T => ?_)))
  rcases ifE H with ⟨h80, H⟩ | ⟨h80, H⟩
  ·refine cdT T rfl h80 (sq (rg (v2 T rfl rfl fun T => ?_)))
   replace S := S.nil ku8 .own
   obtain rfl := sj H
   exact rtn T tf30 rfl rfl ⟨none, 0, rfl, (S.only [0, 15] rfl)⟩
  ·refine cdF T rfl h80 (sk (sq (rg (v2 T rfl rfl fun T => r_fa (o' := 0) T rfl tu61 rfl ts24 rfl rfl fun _ T => lB (ix := 9) T S rfl ti24 rfl rfl rfl fun _ T => ?_))))
   obtain ⟨x82, h81, H⟩ := bd H
   refine rc T tc31 rfl rfl (slices_Clip_byte.ok _ _ (x35.out ++ (x68 ++ [wr .u8 x72, wr .u8 (sShr .u32 x72 8), wr .u8 (sShr .u32 x72 16), wr .u8 (sShr .u32 x72 24)])) (S.sel (is := [10]) rfl) _ h81) ?_
   rintro _ _ ⟨A83, rfl, S⟩
   refine ⟨_, rfl, fun _ T => ?_⟩
   replace S := S.join
   refine v2 T rfl rfl fun T => ?_
   obtain rfl := sj H
   exact rtn T tf30 rfl rfl ⟨A83, x82.length, rfl, (S.only [0, 14] rfl)⟩
end s_builder_end
namespace s_Build
noncomputable def c0 : Code := match Try.f7.body with | some c => c | none => .skip
def R (F : List Atom) (x1 : List aE) (A2 : OA) (k3 : Nat) (r : (List Int) × Int) : Ending → World → Prop := fun e w' => ∃ (A87 : OA), ∃ (k88 : Nat), e = .returned (.tuple #[.slice A87 r.1.length k88, .int .i64 r.2]) ∧ SL ([sl .own ku8 A87 k88 r.1, sl .ro kaE A2 k3 x1] ++ F) w'
def J5 (z : Nat) (q3 : (List (List Int)) → Int → (List Int) → (List Int) → (List Int) → Int → Int → (List Int) → Option ((List Int) × Int)) (x1 : List aE) (x4 x5 x32 : Int) (x57 : s_builder) (x73 : List (List Int)) : Option ((List Int) × Int) := q3 x73 (wr .i64 (x32 + 1)) x57.out x57.body x57.index x57.many x57.blocks x57.last
def J4 (z : Nat) (q3 : (List (List Int)) → Int → (List Int) → (List Int) → (List Int) → Int → Int → (List Int) → Option ((List Int) × Int)) (x1 : List aE) (x4 x5 : Int) (x29 : List (List Int)) (x32 : Int) (x57 : s_builder) : Option ((List Int) × Int) := Ck ((x29.length + [(gi daE x1 x32).Key].length) * 24 ≤ 140737488355328) (J5 z q3 x1 x4 x5 x32 x57 (x29 ++ [(gi daE x1 x32).Key]))
def L3 (z : Nat) (x1 : List aE) (x4 x5 : Int) : Nat → (List (List Int)) → Int → (List Int) → (List Int) → (List Int) → Int → Int → (List Int) → Option ((List Int) × Int)
 | 0, _, _, _, _, _, _, _, _ => none
 | m + 1, x29, x32, x15, x18, x21, x24, x25, x26 => If (decide (x32 < (x1.length : Int))) (Ck (0 ≤ x32 ∧ x32 < (x1.length : Int)) (If (decide ((x15.length : Int) > 4194304)) (some (([] : List Int), 43)) (Bd (s_builder_add.f z (s_builder.mk x15 x18 x21 x24 x25 x26) (gi daE x1 x32) x4) fun x57 => If ((x29.length : Int) == 0) (J4 z (L3 z x1 x4 x5 m) x1 x4 x5 x29 x32 x57) (Ck (0 ≤ wr .i64 ((x29.length : Int) - 1) ∧ wr .i64 ((x29.length : Int) - 1) < (x29.length : Int)) (Bd (bytes_Equal.f (gi [] x29 (wr .i64 ((x29.length : Int) - 1))) ((gi daE x1 x32).Key)) fun x2602 => If (!x2602) (J4 z (L3 z x1 x4 x5 m) x1 x4 x5 x29 x32 x57) (J5 z (L3 z x1 x4 x5 m) x1 x4 x5 x32 x57 x29)))))) (Bd (s_builder_close.f z (s_builder.mk x15 x18 x21 x24 x25 x26)) fun x35 => Bd (s_builder_end.f z x35 (x1.length : Int) x29 x4 x5) fun x46 => some (x46.1, x46.2))
def J6 (z : Nat) (q2 : Int → Option ((List Int) × Int)) (x1 : List aE) (x4 x5 x12 : Int) : Option ((List Int) × Int) := q2 (wr .i64 (x12 + 1))
def L2 (z : Nat) (x1 : List aE) (x4 x5 : Int) : Nat → Int → Option ((List Int) × Int)
 | 0, _ => none
 | m + 1, x12 => If (decide (x12 < (x1.length : Int))) (Ck (0 ≤ x12 ∧ x12 < (x1.length : Int)) (Bd (s_fits.f (gi daE x1 x12)) fun x83 => If (!x83) (some (([] : List Int), 41)) (If (decide (x12 > 0)) (Ck (0 ≤ wr .i64 (x12 - 1) ∧ wr .i64 (x12 - 1) < (x1.length : Int)) (Bd (s_order.f (gi daE x1 (wr .i64 (x12 - 1))) (gi daE x1 x12)) fun x3322 => If (decide (x3322 ≥ 0)) (some (([] : List Int), 42)) (J6 z (L2 z x1 x4 x5 m) x1 x4 x5 x12))) (J6 z (L2 z x1 x4 x5 m) x1 x4 x5 x12)))) (L3 z x1 x4 x5 z [] 0 [] [] [] 0 0 [])
def J1 (z : Nat) : Option ((List Int) × Int) := some (([] : List Int), 40)
def J0 (z : Nat) : Option ((List Int) × Int) := some (([] : List Int), 1)
def f (z : Nat) (x1 : List aE) (x4 x5 : Int) : Option ((List Int) × Int) := If (decide (x4 < 64)) (J0 z) (If (decide (x4 > 65536)) (J0 z) (If (decide (x5 < 1)) (J0 z) (If (decide (x5 > 30)) (J0 z) (If ((x1.length : Int) == 0) (J1 z) (If (decide ((x1.length : Int) > 65536)) (J1 z) (L2 z x1 x4 x5 z 0))))))
noncomputable def ptJ5 : List Item := [.code (cr 3 (cB (cB (cR (cL (cr 6 c0)))))), .inLoop (cB (cB (cR (cL (cr 6 c0))))), .inBlock 3, .code (cr 7 c0)]
noncomputable def ptJ4 : List Item := [.code (cT (cr 5 (cB (cL (cR (cR (cB (cB (cR (cL (cr 6 c0))))))))))), .inBlock 4, .code (cr 3 (cB (cB (cR (cL (cr 6 c0)))))), .inLoop (cB (cB (cR (cL (cr 6 c0))))), .inBlock 3, .code (cr 7 c0)]
noncomputable def ptL3 : List Item := [.code (cB (cB (cR (cL (cr 6 c0))))), .inLoop (cB (cB (cR (cL (cr 6 c0))))), .inBlock 3, .code (cr 7 c0)]
noncomputable def ptJ6 : List Item := [.code (cr 3 (cB (cB (cR (cL (cr 3 c0)))))), .inLoop (cB (cB (cR (cL (cr 3 c0))))), .inBlock 0, .code (cr 4 c0)]
noncomputable def ptL2 : List Item := [.code (cB (cB (cR (cL (cr 3 c0))))), .inLoop (cB (cB (cR (cL (cr 3 c0))))), .inBlock 0, .code (cr 4 c0)]
noncomputable def ptJ1 : List Item := [.code (cL (cT (cR (cL (cR (cR c0)))))), .code (cR (cT (cR (cL (cR (cR c0)))))), .code (cr 3 c0)]
noncomputable def ptJ0 : List Item := [.code (cL (cT (cR (cL (cR c0))))), .code (cR (cT (cR (cL (cR c0))))), .code (cR (cR c0))]
abbrev y0 (A77 : OA) (x1 : List aE) (x12 : Int) (k78 : Nat) (A79 : OA) (k80 : Nat) : List Value := [.slice A77 (((gi daE x1 x12).Key).length) k78, .int .u64 ((gi daE x1 x12).Seq), .bool ((gi daE x1 x12).Del), .slice A79 (((gi daE x1 x12).Value).length) k80]
abbrev y1 (b14 : Nat) (A59 : OA) (x57 : s_builder) (k60 : Nat) (A61 : OA) (k62 : Nat) (A63 : OA) (k64 : Nat) (A65 : OA) (k66 : Nat) : Atom := blk b14 [.slice A59 x57.out.length k60, .slice A61 x57.body.length k62, .slice A63 x57.index.length k64, .int .i64 x57.many, .int .i64 x57.blocks, .slice A65 x57.last.length k66]
abbrev y2 (x1 : List aE) : Value := .int .i64 (x1.length : Int)
abbrev y3 (b14 : Nat) : Nat × Value := (10, .pointer (some ⟨b14, 0, none⟩))
abbrev y4 (A2 : OA) (k3 : Nat) (x1 : List aE) : Atom := sl .ro kaE A2 k3 x1
abbrev y5 (x29 : List (List Int)) (A2421 : OA) (k2422 : Nat) (A30 : OA) (k31 : Nat) : Atom := sl (.part (Int.toNat (wr .i64 ((x29.length : Int) - 1)) * 1 + 0) [.slice A2421 ((gi [] x29 (wr .i64 ((x29.length : Int) - 1))).length) k2422]) (kSl ku8) A30 k31 x29
theorem J5_ok (F : List Atom) (r : (List Int) × Int) (z : Nat) (x1 : List aE) (A2 : OA) (k3 : Nat) (x4 x5 : Int) (b14 : Nat) (x32 : Int) (A59 : OA) (x57 : s_builder) (k60 : Nat) (A61 : OA) (k62 : Nat) (A63 : OA) (k64 : Nat) (A65 : OA) (k66 : Nat) (q3 : (List (List Int)) → Int → (List Int) → (List Int) → (List Int) → Int → Int → (List Int) → Option ((List Int) × Int)) (hq3 : ∀ (A30 : OA) (x29 : List (List Int)) (k31 : Nat) (x32 : Int) (A16 : OA) (x15 : List Int) (k17 : Nat) (A19 : OA) (x18 : List Int) (k20 : Nat) (A22 : OA) (x21 : List Int) (k23 : Nat) (x24 x25 : Int) (A27 : OA) (x26 : List Int) (k28 : Nat) (a : Act) (w : World), Tm 112 [(0, .slice A2 x1.length k3), (1, .int .i64 x4), (2, .int .i64 x5), (y3 b14), (11, .slice A30 x29.length k31), (64, .slice A2 x1.length k3), (65, (y2 x1)), (66, .int .i64 x32)] a → SL ([(y4 A2 k3 x1), blk b14 [.slice A16 x15.length k17, .slice A19 x18.length k20, .slice A22 x21.length k23, .int .i64 x24, .int .i64 x25, .slice A27 x26.length k28], sl .own ku8 A16 k17 x15, sl .ro ku8 A19 k20 x18, sl .own ku8 A22 k23 x21, sl .ro ku8 A27 k28 x26, sl .own (kSl ku8) A30 k31 x29] ++ F) w → q3 x29 x32 x15 x18 x21 x24 x25 x26 = some r → Gets Try.prog 7 ptL3 a w (R F x1 A2 k3 r)) (A74 : OA) (x73 : List (List Int)) (k75 : Nat) (a : Act) (w : World) (T : Tm 112 [(0, .slice A2 x1.length k3), (1, .int .i64 x4), (2, .int .i64 x5), (y3 b14), (11, .slice A74 x73.length k75), (64, .slice A2 x1.length k3), (65, (y2 x1)), (66, .int .i64 x32)] a) (S : SL ([(y4 A2 k3 x1), (y1 b14 A59 x57 k60 A61 k62 A63 k64 A65 k66), sl .own ku8 A59 k60 x57.out, sl .ro ku8 A61 k62 x57.body, sl .own ku8 A63 k64 x57.index, sl .ro ku8 A65 k66 x57.last, sl .own (kSl ku8) A74 k75 x73] ++ F) w) (H : J5 z q3 x1 x4 x5 x32 x57 x73 = some r) : Gets Try.prog 7 ptJ5 a w (R F x1 A2 k3 r) := by
 refine rg (v2 T rfl rfl fun T => Gets.inLoop ?_)
 exact hq3 A74 x73 k75 (wr .i64 (x32 + 1)) A59 x57.out k60 A61 x57.body k62 A63 x57.index k64 x57.many x57.blocks A65 x57.last k66 _ _ (T.sb rfl) (S.only [0, 0, 0, 0, 0, 0, 0] rfl) H
theorem J4_ok (F : List Atom) (r : (List Int) × Int) (z : Nat) (x1 : List aE) (A2 : OA) (k3 : Nat) (x4 x5 : Int) (b14 : Nat) (A30 : OA) (x29 : List (List Int)) (k31 b54 : Nat) (x32 : Int) (A59 : OA) (x57 : s_builder) (k60 : Nat) (A61 : OA) (k62 : Nat) (A63 : OA) (k64 : Nat) (A65 : OA) (k66 : Nat) (A50 : OA) (k51 : Nat) (A52 : OA) (k53 : Nat) (q3 : (List (List Int)) → Int → (List Int) → (List Int) → (List Int) → Int → Int → (List Int) → Option ((List Int) × Int)) (hq3 : ∀ (A30 : OA) (x29 : List (List Int)) (k31 : Nat) (x32 : Int) (A16 : OA) (x15 : List Int) (k17 : Nat) (A19 : OA) (x18 : List Int) (k20 : Nat) (A22 : OA) (x21 : List Int) (k23 : Nat) (x24 x25 : Int) (A27 : OA) (x26 : List Int) (k28 : Nat) (a : Act) (w : World), Tm 112 [(0, .slice A2 x1.length k3), (1, .int .i64 x4), (2, .int .i64 x5), (y3 b14), (11, .slice A30 x29.length k31), (64, .slice A2 x1.length k3), (65, (y2 x1)), (66, .int .i64 x32)] a → SL ([(y4 A2 k3 x1), blk b14 [.slice A16 x15.length k17, .slice A19 x18.length k20, .slice A22 x21.length k23, .int .i64 x24, .int .i64 x25, .slice A27 x26.length k28], sl .own ku8 A16 k17 x15, sl .ro ku8 A19 k20 x18, sl .own ku8 A22 k23 x21, sl .ro ku8 A27 k28 x26, sl .own (kSl ku8) A30 k31 x29] ++ F) w → q3 x29 x32 x15 x18 x21 x24 x25 x26 = some r → Gets Try.prog 7 ptL3 a w (R F x1 A2 k3 r)) (a : Act) (w : World) (T : Tm 112 [(0, .slice A2 x1.length k3), (1, .int .i64 x4), (2, .int .i64 x5), (y3 b14), (11, .slice A30 x29.length k31), (13, .pointer (some ⟨b54, 0, none⟩)), (64, .slice A2 x1.length k3), (65, (y2 x1)), (66, .int .i64 x32)] a) (S : SL ([(y4 A2 k3 x1), (y1 b14 A59 x57 k60 A61 k62 A63 k64 A65 k66), sl .own ku8 A59 k60 x57.out, sl .ro ku8 A61 k62 x57.body, sl .own ku8 A63 k64 x57.index, sl .ro ku8 A65 k66 x57.last, sl .own (kSl ku8) A30 k31 x29, blk b54 [.slice A50 (((gi daE x1 x32).Key).length) k51, .int .u64 ((gi daE x1 x32).Seq), .bool ((gi daE x1 x32).Del), .slice A52 (((gi daE x1 x32).Value).length) k53], sl .ro ku8 A50 k51 ((gi daE x1 x32).Key), sl .ro ku8 A52 k53 ((gi daE x1 x32).Value)] ++ F) w) (H : J4 z q3 x1 x4 x5 x29 x32 x57 = some r) : Gets Try.prog 7 ptJ4 a w (R F x1 A2 k3 r) := by
 refine rg (v1 T rfl fun T => r_fa (o' := 0) T rfl tu36 rfl ts24 rfl rfl fun _ T => lB (ix := 7) T S rfl ti24 rfl rfl rfl fun _ T => ?_)
 replace S := S.asVal (i := 8) (xs := (gi daE x1 x32).Key) rfl
 refine r_bsl (κ := (kSl ku8)) (xs := [(gi daE x1 x32).Key]) (vs := [.slice A50 (((gi daE x1 x32).Key).length) k51]) T S sty62 rfl ⟨_, _, rfl, ⟨0, rfl⟩, rfl⟩ rfl (by decide) rfl fun _ _ b69 S T => ?_
 replace S := S.only [0, 1, 1, 1, 1, 1, 1, 1, 1, 1, 1] rfl
 obtain ⟨h72, H⟩ := ck H
 refine r_app (ix := 7) (iy := 0) (xs := x29) (ys := [(gi daE x1 x32).Key]) T S rfl rfl rfl rfl (by decide) sty62 tu62 (by decide) h72 rfl fun _ _ A70 k71 S T => ?_
 refine v1 T rfl fun T => Gets.inBlock ?_
 exact J5_ok F r z x1 A2 k3 x4 x5 b14 x32 A59 x57 k60 A61 k62 A63 k64 A65 k66 q3 hq3 A70 (x29 ++ [(gi daE x1 x32).Key]) k71 _ _ (T.sb rfl) (S.only [1, 1, 1, 1, 1, 1, 1] rfl) H
theorem L3_ok (F : List Atom) (r : (List Int) × Int) (z : Nat) (x1 : List aE) (A2 : OA) (k3 : Nat) (x4 x5 : Int) (b14 m : Nat) : ∀ (A30 : OA) (x29 : List (List Int)) (k31 : Nat) (x32 : Int) (A16 : OA) (x15 : List Int) (k17 : Nat) (A19 : OA) (x18 : List Int) (k20 : Nat) (A22 : OA) (x21 : List Int) (k23 : Nat) (x24 x25 : Int) (A27 : OA) (x26 : List Int) (k28 : Nat) (a : Act) (w : World), Tm 112 [(0, .slice A2 x1.length k3), (1, .int .i64 x4), (2, .int .i64 x5), (y3 b14), (11, .slice A30 x29.length k31), (64, .slice A2 x1.length k3), (65, (y2 x1)), (66, .int .i64 x32)] a → SL ([(y4 A2 k3 x1), blk b14 [.slice A16 x15.length k17, .slice A19 x18.length k20, .slice A22 x21.length k23, .int .i64 x24, .int .i64 x25, .slice A27 x26.length k28], sl .own ku8 A16 k17 x15, sl .ro ku8 A19 k20 x18, sl .own ku8 A22 k23 x21, sl .ro ku8 A27 k28 x26, sl .own (kSl ku8) A30 k31 x29] ++ F) w → L3 z x1 x4 x5 m x29 x32 x15 x18 x21 x24 x25 x26 = some r → Gets Try.prog 7 ptL3 a w (R F x1 A2 k3 r) := by
 induction m with
 | zero => intro _ _ _ _ _ _ _ _ _ _ _ _ _ _ _ _ _ _ _ _ _ _ H; cases H
 | succ m ih =>
  intro A30 x29 k31 x32 A16 x15 k17 A19 x18 k20 A22 x21 k23 x24 x25 A27 x26 k28 a w T S H
  refine sq (rg (v1 T rfl fun T => sq ?_))
  rcases ifE H with ⟨h33, H⟩ | ⟨h33, H⟩
  ·refine cdT T rfl h33 (sk (sq (bq (sq (rg ?_)))))
   obtain ⟨h49, H⟩ := ck H
   refine r_ia (ix := 0) T S rfl rfl rfl rfl tu22 ts36 h49.1 h49.2 rfl fun _ T => r_ldEA (ix := 0) (i := x32) (off := 0) T S rfl rfl ti36 ts36 daE rfl (Fld.all _) h49.1 h49.2 rfl fun _ _ S T => ?_
   obtain ⟨A50, k51, A52, k53, hv_, S_⟩ := op_aE S
   subst hv_
   replace S := S_
   refine r_alloc T S zv36 (cs := [.slice none 0 0, .int .u64 0, .bool false, .slice none 0 0]) rfl rfl fun _ _ b54 S T => r_stBA (ix := 0) (vs := [.slice A50 (((gi daE x1 x32).Key).length) k51, .int .u64 ((gi daE x1 x32).Seq), .bool ((gi daE x1 x32).Del), .slice A52 (((gi daE x1 x32).Value).length) k53]) T S rfl rfl rfl rfl (by simp) ts36 (nle rfl) rfl fun _ S => ?_
   refine sq (sq (rg (v2 T rfl rfl fun T => r_fa (o' := 0) T rfl tu61 rfl ts24 rfl rfl fun _ T => lB (ix := 4) T S rfl ti24 rfl rfl rfl fun _ T => rn T rfl tu24 rfl fun _ T => v1 T rfl fun T => ?_)))
   rcases ifE H with ⟨h55, H⟩ | ⟨h55, H⟩
   ·refine cdT T rfl h55 (sq (rg (v2 T rfl rfl fun T => ?_)))
    replace S := S.nil ku8 .own
    obtain rfl := sj H
    exact rtn T tf7 rfl rfl ⟨none, 0, rfl, (S.only [0, 3] rfl)⟩
   ·refine cdF T rfl h55 (sk (sq (rg (v1 T rfl fun T => r_ldBA (ix := 0) (ds := [.slice A50 (((gi daE x1 x32).Key).length) k51, .int .u64 ((gi daE x1 x32).Seq), .bool ((gi daE x1 x32).Del), .slice A52 (((gi daE x1 x32).Value).length) k53]) T S rfl ti36 rfl rfl ts36 rfl fun _ T => v1 T rfl fun T => ?_))))
    obtain ⟨x57, h56, H⟩ := bd H
    refine rc T Try.call27 rfl rfl (s_builder_add.ok _ _ z (s_builder.mk x15 x18 x21 x24 x25 x26) (gi daE x1 x32) x4 (S.sel (is := [4, 4, 4, 4, 4, 1, 1]) rfl) _ h56) ?_
    rintro _ _ ⟨A59, k60, A61, k62, A63, k64, A65, k66, rfl, S⟩
    refine ⟨_, rfl, fun _ T => ?_⟩
    replace S := S.join
    refine sq (rg (v1 T rfl fun T => rn T rfl tu62 rfl fun _ T => v1 T rfl fun T => sq ?_))
    rcases ifE H with ⟨h67, H⟩ | ⟨h67, H⟩
    ·refine Gets.drawn (l := [(y1 b14 A59 x57 k60 A61 k62 A63 k64 A65 k66), sl .own ku8 A59 k60 x57.out, sl .ro ku8 A61 k62 x57.body, sl .own ku8 A63 k64 x57.index, sl .ro ku8 A65 k66 x57.last, sl .ro ku8 A50 k51 ((gi daE x1 x32).Key), sl .ro ku8 A52 k53 ((gi daE x1 x32).Value), blk b54 [.slice A50 (((gi daE x1 x32).Key).length) k51, .int .u64 ((gi daE x1 x32).Seq), .bool ((gi daE x1 x32).Del), .slice A52 (((gi daE x1 x32).Value).length) k53], (y4 A2 k3 x1), sl .own (kSl ku8) A30 k31 x29]) (V := [some (.int .i64 (x29.length : Int), true), some (.bool ((x29.length : Int) == 0), true), some (.bool ((x29.length : Int) == 0), true), some (undef, true), some (undef, true), some (undef, true), some (undef, true), some (undef, true), some (undef, true), some (undef, true), some (undef, true), some (undef, true), some (.bool true, true)]) mixed T S rfl ?_
     refine stage none rfl rfl ⟨⟨_, _, rfl, (avl [14] rfl), fun _ _ _ T S => v1 T rfl fun T => ⟨rfl, T⟩⟩, ⟨_, _, rfl, (avl [82] rfl), fun _ _ _ T S => v1 T rfl fun T => ⟨rfl, T⟩⟩, ⟨_, _, rfl, (avl [83] rfl), fun _ _ _ T S => v1 T rfl fun T => ⟨rfl, T⟩⟩, ⟨_, _, rfl, (avl [11, 84] rfl), fun _ _ _ T S => gn T rfl h67 fun T => ⟨rfl, T⟩⟩, ⟨_, _, rfl, (avl [14, 84] rfl), fun _ _ _ T S => gn T rfl h67 fun T => ⟨rfl, T⟩⟩, ⟨_, _, rfl, (avl [86, 84] rfl), fun _ _ _ T S => gn T rfl h67 fun T => ⟨rfl, T⟩⟩, ⟨_, _, rfl, (avl [85, 87, 84] rfl), fun _ _ _ T S => gn T rfl h67 fun T => ⟨rfl, T⟩⟩, ⟨_, _, rfl, (avl [88, 84] rfl), fun _ _ _ T S => gn T rfl h67 fun T => ⟨rfl, T⟩⟩, ⟨_, _, rfl, (avl [13, 84] rfl), fun _ _ _ T S => gn T rfl h67 fun T => ⟨rfl, T⟩⟩, ⟨_, _, rfl, (avl [90, 84] rfl), fun _ _ _ T S => gn T rfl h67 fun T => ⟨rfl, T⟩⟩, ⟨_, _, rfl, (avl [89, 91, 84] rfl), fun _ _ _ T S => gn T rfl h67 fun T => ⟨rfl, T⟩⟩, ⟨_, _, rfl, (avl [92, 84] rfl), fun _ _ _ T S => gn T rfl h67 fun T => ⟨rfl, T⟩⟩, ⟨_, _, rfl, (avl [84, 93] rfl), fun _ _ _ T S => pT T rfl h67 rfl rfl fun _ T => ⟨rfl, T⟩⟩, trivial⟩ rfl (fun i hi => by cases hi) (fun _ _ a w T hv hb S => ?_)
     replace T := T.sub (r := [(0, .slice A2 x1.length k3), (1, .int .i64 x4), (2, .int .i64 x5), (y3 b14), (11, .slice A30 x29.length k31), (13, .pointer (some ⟨b54, 0, none⟩)), (64, .slice A2 x1.length k3), (65, (y2 x1)), (66, .int .i64 x32), (94, .bool true)]) ⟨hb 0 _ rfl rfl, hb 1 _ rfl rfl, hb 2 _ rfl rfl, hb 10 _ rfl rfl, hb 11 _ rfl rfl, hb 13 _ rfl rfl, hb 64 _ rfl rfl, hb 65 _ rfl rfl, hb 66 _ rfl rfl, hv 12 _ 94 rfl rfl rfl, trivial⟩
     refine cdT T rfl rfl ?_
     exact J4_ok F r z x1 A2 k3 x4 x5 b14 A30 x29 k31 b54 x32 A59 x57 k60 A61 k62 A63 k64 A65 k66 A50 k51 A52 k53 (L3 z x1 x4 x5 m) ih _ _ (T.sb rfl) (S.only [8, 0, 0, 0, 0, 0, 3, 2, 0, 0] rfl) H
    ·obtain ⟨h2361, H⟩ := ck H
     obtain ⟨_, S⟩ := S.peekO (ix := 9) (off := 0) (i := wr .i64 ((x29.length : Int) - 1)) rfl [] (Fld.all _) h2361.1 h2361.2 rfl
     obtain ⟨A2421, k2422, hv_, S_⟩ := SL.ofVal S
     subst hv_
     replace S : SL ([sl .ro ku8 A2421 k2422 (gi [] x29 (wr .i64 ((x29.length : Int) - 1))), (y1 b14 A59 x57 k60 A61 k62 A63 k64 A65 k66), sl .own ku8 A59 k60 x57.out, sl .ro ku8 A61 k62 x57.body, sl .own ku8 A63 k64 x57.index, sl .ro ku8 A65 k66 x57.last, sl .ro ku8 A50 k51 ((gi daE x1 x32).Key), sl .ro ku8 A52 k53 ((gi daE x1 x32).Value), blk b54 [.slice A50 (((gi daE x1 x32).Key).length) k51, .int .u64 ((gi daE x1 x32).Seq), .bool ((gi daE x1 x32).Del), .slice A52 (((gi daE x1 x32).Value).length) k53], (y4 A2 k3 x1), (y5 x29 A2421 k2422 A30 k31)] ++ F) _ := S_
     refine Gets.drawn (l := [sl .ro ku8 A2421 k2422 (gi [] x29 (wr .i64 ((x29.length : Int) - 1))), (y1 b14 A59 x57 k60 A61 k62 A63 k64 A65 k66), sl .own ku8 A59 k60 x57.out, sl .ro ku8 A61 k62 x57.body, sl .own ku8 A63 k64 x57.index, sl .ro ku8 A65 k66 x57.last, sl .ro ku8 A50 k51 ((gi daE x1 x32).Key), sl .ro ku8 A52 k53 ((gi daE x1 x32).Value), blk b54 [.slice A50 (((gi daE x1 x32).Key).length) k51, .int .u64 ((gi daE x1 x32).Seq), .bool ((gi daE x1 x32).Del), .slice A52 (((gi daE x1 x32).Value).length) k53], (y4 A2 k3 x1), (y5 x29 A2421 k2422 A30 k31)]) (V := [some (.int .i64 (x29.length : Int), true), some (.bool ((x29.length : Int) == 0), true), some (.bool ((x29.length : Int) == 0), true), some (.slice A30 x29.length k31, true), some (.int .i64 (x29.length : Int), true), some (.int .i64 (wr .i64 ((x29.length : Int) - 1)), true), some (.pointer (some (eA A30 (Int.toNat (wr .i64 ((x29.length : Int) - 1)) * 1))), true), some (.slice A2421 ((gi [] x29 (wr .i64 ((x29.length : Int) - 1))).length) k2422, true), some (.pointer (some ⟨b54, 0, none⟩), true), some (.slice A50 (((gi daE x1 x32).Key).length) k51, true), none, none, none]) mixed T S rfl ?_
     refine stage (some 10) rfl rfl ⟨⟨_, _, rfl, (avl [14] rfl), fun _ _ _ T S => v1 T rfl fun T => ⟨rfl, T⟩⟩, ⟨_, _, rfl, (avl [82] rfl), fun _ _ _ T S => v1 T rfl fun T => ⟨rfl, T⟩⟩, ⟨_, _, rfl, (avl [83] rfl), fun _ _ _ T S => v1 T rfl fun T => ⟨rfl, T⟩⟩, ⟨_, _, rfl, (avl [11, 84] rfl), fun _ _ _ T S => gy T rfl h67 (v1 T rfl fun T => ⟨rfl, T⟩)⟩, ⟨_, _, rfl, (avl [14, 84] rfl), fun _ _ _ T S => gy T rfl h67 (v1 T rfl fun T => ⟨rfl, T⟩)⟩, ⟨_, _, rfl, (avl [86, 84] rfl), fun _ _ _ T S => gy T rfl h67 (v1 T rfl fun T => ⟨rfl, T⟩)⟩, ⟨_, _, rfl, (avl [85, 87, 84] rfl), fun _ _ _ T S => gy T rfl h67 (r_ia (ix := 10) T S rfl rfl rfl rfl tu62 ts24 h2361.1 h2361.2 rfl fun _ T => ⟨rfl, T⟩)⟩, ⟨_, _, rfl, (avl [88, 84] rfl), fun _ _ _ T S => gy T rfl h67 (r_ldK (ix := 10) (A := A30) T S rfl rfl rfl ti24 rfl fun _ T => ⟨rfl, T⟩)⟩, ⟨_, _, rfl, (avl [13, 84] rfl), fun _ _ _ T S => gy T rfl h67 (r_fa (o' := 0) T rfl tu36 rfl ts24 rfl rfl fun _ T => ⟨rfl, T⟩)⟩, ⟨_, _, rfl, (avl [90, 84] rfl), fun _ _ _ T S => gy T rfl h67 (lB (ix := 8) T S rfl ti24 rfl rfl rfl fun _ T => ⟨rfl, T⟩)⟩, trivial⟩ rfl (fun i hi => ?_) (fun h => by cases h)
     cases hi
     refine ⟨rfl, _, _, rfl, (avl [89, 91, 84] rfl), fun u a w T S => ?_⟩
     refine gy T rfl h67 ?_
     obtain ⟨x2602, h2601, H⟩ := bd H
     refine rc T tc28 rfl rfl (bytes_Equal.ok _ _ (gi [] x29 (wr .i64 ((x29.length : Int) - 1))) ((gi daE x1 x32).Key) (S.sel (is := [0, 5]) rfl) _ h2601) ?_
     rintro _ _ ⟨rfl, S⟩
     refine ⟨_, rfl, fun _ T => ?_⟩
     replace S := S.join
     refine ⟨_, [some (.int .i64 (x29.length : Int), true), some (.bool ((x29.length : Int) == 0), true), some (.bool ((x29.length : Int) == 0), false), some (.slice A30 x29.length k31, true), some (.int .i64 (x29.length : Int), true), some (.int .i64 (wr .i64 ((x29.length : Int) - 1)), true), some (.pointer (some (eA A30 (Int.toNat (wr .i64 ((x29.length : Int) - 1)) * 1))), true), some (.slice A2421 ((gi [] x29 (wr .i64 ((x29.length : Int) - 1))).length) k2422, false), some (.pointer (some ⟨b54, 0, none⟩), true), some (.slice A50 (((gi daE x1 x32).Key).length) k51, false), some (.bool x2602, false), some (.bool (!x2602), true), some (.bool (!x2602), true)], [sl .ro ku8 A2421 k2422 (gi [] x29 (wr .i64 ((x29.length : Int) - 1))), sl .ro ku8 A50 k51 ((gi daE x1 x32).Key), (y1 b14 A59 x57 k60 A61 k62 A63 k64 A65 k66), sl .own ku8 A59 k60 x57.out, sl .ro ku8 A61 k62 x57.body, sl .own ku8 A63 k64 x57.index, sl .ro ku8 A65 k66 x57.last, sl .ro ku8 A52 k53 ((gi daE x1 x32).Value), blk b54 [.slice A50 (((gi daE x1 x32).Key).length) k51, .int .u64 ((gi daE x1 x32).Seq), .bool ((gi daE x1 x32).Del), .slice A52 (((gi daE x1 x32).Value).length) k53], (y4 A2 k3 x1), (y5 x29 A2421 k2422 A30 k31)], rfl, (by repeat first | exact kx0 | apply kxs | apply kxn), rfl, ?_, T, S⟩
     refine stage none rfl rfl ⟨⟨_, _, rfl, (avl [14] rfl), fun _ _ _ T S => v1 T rfl fun T => ⟨rfl, T⟩⟩, ⟨_, _, rfl, (avl [82] rfl), fun _ _ _ T S => v1 T rfl fun T => ⟨rfl, T⟩⟩, ⟨_, _, rfl, (avl [11, 84] rfl), fun _ _ _ T S => gy T rfl h67 (v1 T rfl fun T => ⟨rfl, T⟩)⟩, ⟨_, _, rfl, (avl [14, 84] rfl), fun _ _ _ T S => gy T rfl h67 (v1 T rfl fun T => ⟨rfl, T⟩)⟩, ⟨_, _, rfl, (avl [86, 84] rfl), fun _ _ _ T S => gy T rfl h67 (v1 T rfl fun T => ⟨rfl, T⟩)⟩, ⟨_, _, rfl, (avl [85, 87, 84] rfl), fun _ _ _ T S => gy T rfl h67 (r_ia (ix := 10) T S rfl rfl rfl rfl tu62 ts24 h2361.1 h2361.2 rfl fun _ T => ⟨rfl, T⟩)⟩, ⟨_, _, rfl, (avl [13, 84] rfl), fun _ _ _ T S => gy T rfl h67 (r_fa (o' := 0) T rfl tu36 rfl ts24 rfl rfl fun _ T => ⟨rfl, T⟩)⟩, ⟨_, _, rfl, (avl [92, 84] rfl), fun _ _ _ T S => gy T rfl h67 (v1 T rfl fun T => ⟨rfl, T⟩)⟩, ⟨_, _, rfl, (avl [84, 93] rfl), fun _ _ _ T S => pF T rfl h67 rfl rfl fun _ T => ⟨rfl, T⟩⟩, trivial⟩ rfl (fun i hi => by cases hi) (fun _ _ a w T hv hb S => ?_)
     replace T := T.sub (r := [(0, .slice A2 x1.length k3), (1, .int .i64 x4), (2, .int .i64 x5), (y3 b14), (11, .slice A30 x29.length k31), (13, .pointer (some ⟨b54, 0, none⟩)), (64, .slice A2 x1.length k3), (65, (y2 x1)), (66, .int .i64 x32), (94, .bool (!x2602))]) ⟨hb 0 _ rfl rfl, hb 1 _ rfl rfl, hb 2 _ rfl rfl, hb 10 _ rfl rfl, hb 11 _ rfl rfl, hb 13 _ rfl rfl, hb 64 _ rfl rfl, hb 65 _ rfl rfl, hb 66 _ rfl rfl, hv 12 _ 94 rfl rfl rfl, trivial⟩
     replace S := S.forget (ix := 10) rfl rfl
     rcases ifE H with ⟨h68, H⟩ | ⟨h68, H⟩
     ·refine cdT T rfl h68 ?_
      exact J4_ok F r z x1 A2 k3 x4 x5 b14 A30 x29 k31 b54 x32 A59 x57 k60 A61 k62 A63 k64 A65 k66 A50 k51 A52 k53 (L3 z x1 x4 x5 m) ih _ _ (T.sb rfl) (S.only [9, 2, 2, 2, 2, 2, 4, 3, 1, 1] rfl) H
     ·refine cdF T rfl h68 (sk (Gets.inBlock ?_))
      exact J5_ok F r z x1 A2 k3 x4 x5 b14 x32 A59 x57 k60 A61 k62 A63 k64 A65 k66 (L3 z x1 x4 x5 m) ih A30 x29 k31 _ _ (T.sb rfl) (S.only [9, 2, 2, 2, 2, 2, 4] rfl) H
  ·refine cdF T rfl h33 (Gets.exit rfl (sq (rg (v1 T rfl fun T => ?_))))
   obtain ⟨x35, h34, H⟩ := bd H
   refine rc T Try.call29 rfl rfl (s_builder_close.ok _ _ z (s_builder.mk x15 x18 x21 x24 x25 x26) (S.sel (is := [1, 1, 1, 1, 1]) rfl) _ h34) ?_
   rintro _ _ ⟨A37, k38, A39, k40, A41, k42, A43, k44, rfl, S⟩
   refine ⟨_, rfl, fun _ T => ?_⟩
   replace S := S.join
   refine sq (rg (v2 T rfl rfl fun T => rn T rfl tu22 rfl fun _ T => v3 T rfl rfl rfl fun T => ?_))
   obtain ⟨x46, h45, H⟩ := bd H
   refine rc T Try.call30 rfl rfl (s_builder_end.ok _ _ z x35 (x1.length : Int) x29 x4 x5 (S.sel (is := [0, 0, 0, 0, 0, 1]) rfl) _ h45) ?_
   rintro _ _ ⟨A47, k48, rfl, S⟩
   refine ⟨_, rfl, fun _ T => ?_⟩
   replace S := S.join
   refine v3 T rfl rfl rfl fun T => v1 T rfl fun T => ?_
   obtain rfl := sj H
   exact rtn T tf7 rfl rfl ⟨A47, k48, rfl, (S.only [0, 1] rfl)⟩
theorem J6_ok (F : List Atom) (r : (List Int) × Int) (z : Nat) (x1 : List aE) (A2 : OA) (k3 : Nat) (x4 x5 x12 : Int) (q2 : Int → Option ((List Int) × Int)) (hq2 : ∀ (x12 : Int) (a : Act) (w : World), Tm 112 [(0, .slice A2 x1.length k3), (1, .int .i64 x4), (2, .int .i64 x5), (37, .slice A2 x1.length k3), (38, (y2 x1)), (39, .int .i64 x12)] a → SL ([(y4 A2 k3 x1)] ++ F) w → q2 x12 = some r → Gets Try.prog 7 ptL2 a w (R F x1 A2 k3 r)) (a : Act) (w : World) (T : Tm 112 [(0, .slice A2 x1.length k3), (1, .int .i64 x4), (2, .int .i64 x5), (37, .slice A2 x1.length k3), (38, (y2 x1)), (39, .int .i64 x12)] a) (S : SL ([(y4 A2 k3 x1)] ++ F) w) (H : J6 z q2 x1 x4 x5 x12 = some r) : Gets Try.prog 7 ptJ6 a w (R F x1 A2 k3 r) := by
 refine rg (v2 T rfl rfl fun T => Gets.inLoop ?_)
 exact hq2 (wr .i64 (x12 + 1)) _ _ (T.sb rfl) (S.only [0] rfl) H
theorem L2_ok (F : List Atom) (r : (List Int) × Int) (z : Nat) (x1 : List aE) (A2 : OA) (k3 : Nat) (x4 x5 : Int) (m : Nat) : ∀ (x12 : Int) (a : Act) (w : World), Tm 112 [(0, .slice A2 x1.length k3), (1, .int .i64 x4), (2, .int .i64 x5), (37, .slice A2 x1.length k3), (38, (y2 x1)), (39, .int .i64 x12)] a → SL ([(y4 A2 k3 x1)] ++ F) w → L2 z x1 x4 x5 m x12 = some r → Gets Try.prog 7 ptL2 a w (R F x1 A2 k3 r) := by
 induction m with
 | zero => intro _ _ _ _ _ H; cases H
 | succ m ih =>
  intro x12 a w T S H
  refine sq (rg (v1 T rfl fun T => sq ?_))
  rcases ifE H with ⟨h13, H⟩ | ⟨h13, H⟩
  ·refine cdT T rfl h13 (sk (sq (bq (sq (rg (v1 T rfl fun T => ?_))))))
   obtain ⟨h76, H⟩ := ck H
   refine r_ia (ix := 0) T S rfl rfl rfl rfl tu22 ts36 h76.1 h76.2 rfl fun _ T => r_ldEA (ix := 0) (i := x12) (off := 0) T S rfl rfl ti36 ts36 daE rfl (Fld.all _) h76.1 h76.2 rfl fun _ _ S T => ?_
   obtain ⟨A77, k78, A79, k80, hv_, S_⟩ := op_aE S
   subst hv_
   replace S := S_
   refine r_alloc T S zv36 (cs := [.slice none 0 0, .int .u64 0, .bool false, .slice none 0 0]) rfl rfl fun _ _ b81 S T => v1 T rfl fun T => r_stBA (ix := 0) (vs := (y0 A77 x1 x12 k78 A79 k80)) T S rfl rfl rfl rfl (by simp) ts36 (nle rfl) rfl fun _ S => ?_
   refine bq (sq (rg (r_ldBA (ix := 0) (ds := (y0 A77 x1 x12 k78 A79 k80)) T S rfl ti36 rfl rfl ts36 rfl fun _ T => ?_)))
   obtain ⟨x83, h82, H⟩ := bd H
   refine rc T Try.call25 rfl rfl (s_fits.ok _ _ (gi daE x1 x12) (S.sel (is := [1, 1]) rfl) _ h82) ?_
   rintro _ _ ⟨rfl, S⟩
   refine ⟨_, rfl, fun _ T => ?_⟩
   replace S := S.join
   refine v2 T rfl rfl fun T => ?_
   rcases ifE H with ⟨h84, H⟩ | ⟨h84, H⟩
   ·refine cdT T rfl h84 (sq (rg (v2 T rfl rfl fun T => ?_)))
    replace S := S.nil ku8 .own
    obtain rfl := sj H
    exact rtn T tf7 rfl rfl ⟨none, 0, rfl, (S.only [0, 3] rfl)⟩
   ·refine cdF T rfl h84 (sq ?_)
    rcases ifE H with ⟨h85, H⟩ | ⟨h85, H⟩
    ·obtain ⟨h3141, H⟩ := ck H
     obtain ⟨_, S⟩ := S.peek (ix := 3) (off := 0) (i := wr .i64 (x12 - 1)) rfl daE (Fld.all _) h3141.1 h3141.2
     obtain ⟨A3201, k3202, A3203, k3204, hv_, S_⟩ := op_aE (l := _ :: _) S
     subst hv_
     replace S := S_
     refine Gets.drawn (l := [sl .ro ku8 A3201 k3202 ((gi daE x1 (wr .i64 (x12 - 1))).Key), sl .ro ku8 A3203 k3204 ((gi daE x1 (wr .i64 (x12 - 1))).Value), cl A2 (Int.toNat (wr .i64 (x12 - 1)) * 4) [.slice A3201 (((gi daE x1 (wr .i64 (x12 - 1))).Key).length) k3202, .int .u64 ((gi daE x1 (wr .i64 (x12 - 1))).Seq), .bool ((gi daE x1 (wr .i64 (x12 - 1))).Del), .slice A3203 (((gi daE x1 (wr .i64 (x12 - 1))).Value).length) k3204], sl .ro ku8 A77 k78 ((gi daE x1 x12).Key), sl .ro ku8 A79 k80 ((gi daE x1 x12).Value), blk b81 (y0 A77 x1 x12 k78 A79 k80), (y4 A2 k3 x1)]) (V := [some (.int .i64 x12, true), some (.bool (decide (x12 > 0)), true), some (.bool (decide (x12 > 0)), true), some (.slice A2 x1.length k3, true), some (.int .i64 x12, true), some (.int .i64 (wr .i64 (x12 - 1)), true), some (.pointer (some (eA A2 (Int.toNat (wr .i64 (x12 - 1)) * 4))), true), some (.agg #[.slice A3201 (((gi daE x1 (wr .i64 (x12 - 1))).Key).length) k3202, .int .u64 ((gi daE x1 (wr .i64 (x12 - 1))).Seq), .bool ((gi daE x1 (wr .i64 (x12 - 1))).Del), .slice A3203 (((gi daE x1 (wr .i64 (x12 - 1))).Value).length) k3204], true), some (.agg #[.slice A77 (((gi daE x1 x12).Key).length) k78, .int .u64 ((gi daE x1 x12).Seq), .bool ((gi daE x1 x12).Del), .slice A79 (((gi daE x1 x12).Value).length) k80], true), none, none, none, none]) mixed T S rfl ?_
     refine stage (some 9) rfl rfl ⟨⟨_, _, rfl, (avl [8] rfl), fun _ _ _ T S => v1 T rfl fun T => ⟨rfl, T⟩⟩, ⟨_, _, rfl, (avl [49] rfl), fun _ _ _ T S => v1 T rfl fun T => ⟨rfl, T⟩⟩, ⟨_, _, rfl, (avl [50] rfl), fun _ _ _ T S => v1 T rfl fun T => ⟨rfl, T⟩⟩, ⟨_, _, rfl, (avl [0, 51] rfl), fun _ _ _ T S => gy T rfl h85 (v1 T rfl fun T => ⟨rfl, T⟩)⟩, ⟨_, _, rfl, (avl [8, 51] rfl), fun _ _ _ T S => gy T rfl h85 (v1 T rfl fun T => ⟨rfl, T⟩)⟩, ⟨_, _, rfl, (avl [53, 51] rfl), fun _ _ _ T S => gy T rfl h85 (v1 T rfl fun T => ⟨rfl, T⟩)⟩, ⟨_, _, rfl, (avl [52, 54, 51] rfl), fun _ _ _ T S => gy T rfl h85 (r_ia (ix := 6) T S rfl rfl rfl rfl tu22 ts36 h3141.1 h3141.2 rfl fun _ T => ⟨rfl, T⟩)⟩, ⟨_, _, rfl, (avl [55, 51] rfl), fun _ _ _ T S => gy T rfl h85 (r_ldCA (ix := 2) (A := A2) T S rfl rfl rfl ti36 ts36 rfl fun _ T => ⟨rfl, T⟩)⟩, ⟨_, _, rfl, (avl [9, 51] rfl), fun _ _ _ T S => gy T rfl h85 (r_ldBA (ix := 5) (ds := (y0 A77 x1 x12 k78 A79 k80)) T S rfl ti36 rfl rfl ts36 rfl fun _ T => ⟨rfl, T⟩)⟩, trivial⟩ rfl (fun i hi => ?_) (fun h => by cases h)
     cases hi
     refine ⟨rfl, _, _, rfl, (avl [56, 57, 51] rfl), fun u a w T S => ?_⟩
     refine gy T rfl h85 ?_
     obtain ⟨x3322, h3321, H⟩ := bd H
     refine rc T Try.call26 rfl rfl (s_order.ok _ _ (gi daE x1 (wr .i64 (x12 - 1))) (gi daE x1 x12) (S.sel (is := [0, 0, 1, 1]) rfl) _ h3321) ?_
     rintro _ _ ⟨rfl, S⟩
     refine ⟨_, rfl, fun _ T => ?_⟩
     replace S := S.join
     refine ⟨_, [some (.int .i64 x12, true), some (.bool (decide (x12 > 0)), true), some (.bool (decide (x12 > 0)), false), some (.slice A2 x1.length k3, true), some (.int .i64 x12, true), some (.int .i64 (wr .i64 (x12 - 1)), true), some (.pointer (some (eA A2 (Int.toNat (wr .i64 (x12 - 1)) * 4))), true), some (.agg #[.slice A3201 (((gi daE x1 (wr .i64 (x12 - 1))).Key).length) k3202, .int .u64 ((gi daE x1 (wr .i64 (x12 - 1))).Seq), .bool ((gi daE x1 (wr .i64 (x12 - 1))).Del), .slice A3203 (((gi daE x1 (wr .i64 (x12 - 1))).Value).length) k3204], false), some (.agg #[.slice A77 (((gi daE x1 x12).Key).length) k78, .int .u64 ((gi daE x1 x12).Seq), .bool ((gi daE x1 x12).Del), .slice A79 (((gi daE x1 x12).Value).length) k80], false), some (.int .i64 x3322, false), some (.bool (decide (x3322 ≥ 0)), true), some (.bool (decide (x3322 ≥ 0)), true), some (.bool (decide (x3322 ≥ 0)), true)], [sl .ro ku8 A3201 k3202 ((gi daE x1 (wr .i64 (x12 - 1))).Key), sl .ro ku8 A3203 k3204 ((gi daE x1 (wr .i64 (x12 - 1))).Value), sl .ro ku8 A77 k78 ((gi daE x1 x12).Key), sl .ro ku8 A79 k80 ((gi daE x1 x12).Value), cl A2 (Int.toNat (wr .i64 (x12 - 1)) * 4) [.slice A3201 (((gi daE x1 (wr .i64 (x12 - 1))).Key).length) k3202, .int .u64 ((gi daE x1 (wr .i64 (x12 - 1))).Seq), .bool ((gi daE x1 (wr .i64 (x12 - 1))).Del), .slice A3203 (((gi daE x1 (wr .i64 (x12 - 1))).Value).length) k3204], blk b81 (y0 A77 x1 x12 k78 A79 k80), (y4 A2 k3 x1)], rfl, (by repeat first | exact kx0 | apply kxs | apply kxn), rfl, ?_, T, S⟩
     refine stage none rfl rfl ⟨⟨_, _, rfl, (avl [8] rfl), fun _ _ _ T S => v1 T rfl fun T => ⟨rfl, T⟩⟩, ⟨_, _, rfl, (avl [49] rfl), fun _ _ _ T S => v1 T rfl fun T => ⟨rfl, T⟩⟩, ⟨_, _, rfl, (avl [0, 51] rfl), fun _ _ _ T S => gy T rfl h85 (v1 T rfl fun T => ⟨rfl, T⟩)⟩, ⟨_, _, rfl, (avl [8, 51] rfl), fun _ _ _ T S => gy T rfl h85 (v1 T rfl fun T => ⟨rfl, T⟩)⟩, ⟨_, _, rfl, (avl [53, 51] rfl), fun _ _ _ T S => gy T rfl h85 (v1 T rfl fun T => ⟨rfl, T⟩)⟩, ⟨_, _, rfl, (avl [52, 54, 51] rfl), fun _ _ _ T S => gy T rfl h85 (r_ia (ix := 6) T S rfl rfl rfl rfl tu22 ts36 h3141.1 h3141.2 rfl fun _ T => ⟨rfl, T⟩)⟩, ⟨_, _, rfl, (avl [58, 51] rfl), fun _ _ _ T S => gy T rfl h85 (v1 T rfl fun T => ⟨rfl, T⟩)⟩, ⟨_, _, rfl, (avl [51, 59] rfl), fun _ _ _ T S => pT T rfl h85 rfl rfl fun _ T => ⟨rfl, T⟩⟩, ⟨_, _, rfl, (avl [60] rfl), fun _ _ _ T S => v1 T rfl fun T => ⟨rfl, T⟩⟩, trivial⟩ rfl (fun i hi => by cases hi) (fun _ _ a w T hv hb S => ?_)
     replace T := T.sub (r := [(0, .slice A2 x1.length k3), (1, .int .i64 x4), (2, .int .i64 x5), (37, .slice A2 x1.length k3), (38, (y2 x1)), (39, .int .i64 x12), (48, .bool (decide (x3322 ≥ 0)))]) ⟨hb 0 _ rfl rfl, hb 1 _ rfl rfl, hb 2 _ rfl rfl, hb 37 _ rfl rfl, hb 38 _ rfl rfl, hb 39 _ rfl rfl, hv 12 _ 48 rfl rfl rfl, trivial⟩
     rcases ifE H with ⟨h86, H⟩ | ⟨h86, H⟩
     ·refine cdT T rfl h86 (sq (rg (v2 T rfl rfl fun T => ?_)))
      replace S := S.nil ku8 .own
      obtain rfl := sj H
      exact rtn T tf7 rfl rfl ⟨none, 0, rfl, (S.only [0, 6] rfl)⟩
     ·refine cdF T rfl h86 (sk (Gets.inBlock (Gets.inBlock ?_)))
      exact J6_ok F r z x1 A2 k3 x4 x5 x12 (L2 z x1 x4 x5 m) ih _ _ (T.sb rfl) (S.only [6] rfl) H
    ·refine Gets.drawn (l := [sl .ro ku8 A77 k78 ((gi daE x1 x12).Key), sl .ro ku8 A79 k80 ((gi daE x1 x12).Value), blk b81 (y0 A77 x1 x12 k78 A79 k80), (y4 A2 k3 x1)]) (V := [some (.int .i64 x12, true), some (.bool (decide (x12 > 0)), true), some (.bool (decide (x12 > 0)), true), some (undef, true), some (undef, true), some (undef, true), some (undef, true), some (undef, true), some (undef, true), some (undef, true), some (undef, true), some (.bool false, true), some (.bool false, true)]) mixed T S rfl ?_
     refine stage none rfl rfl ⟨⟨_, _, rfl, (avl [8] rfl), fun _ _ _ T S => v1 T rfl fun T => ⟨rfl, T⟩⟩, ⟨_, _, rfl, (avl [49] rfl), fun _ _ _ T S => v1 T rfl fun T => ⟨rfl, T⟩⟩, ⟨_, _, rfl, (avl [50] rfl), fun _ _ _ T S => v1 T rfl fun T => ⟨rfl, T⟩⟩, ⟨_, _, rfl, (avl [0, 51] rfl), fun _ _ _ T S => gn T rfl h85 fun T => ⟨rfl, T⟩⟩, ⟨_, _, rfl, (avl [8, 51] rfl), fun _ _ _ T S => gn T rfl h85 fun T => ⟨rfl, T⟩⟩, ⟨_, _, rfl, (avl [53, 51] rfl), fun _ _ _ T S => gn T rfl h85 fun T => ⟨rfl, T⟩⟩, ⟨_, _, rfl, (avl [52, 54, 51] rfl), fun _ _ _ T S => gn T rfl h85 fun T => ⟨rfl, T⟩⟩, ⟨_, _, rfl, (avl [55, 51] rfl), fun _ _ _ T S => gn T rfl h85 fun T => ⟨rfl, T⟩⟩, ⟨_, _, rfl, (avl [9, 51] rfl), fun _ _ _ T S => gn T rfl h85 fun T => ⟨rfl, T⟩⟩, ⟨_, _, rfl, (avl [56, 57, 51] rfl), fun _ _ _ T S => gn T rfl h85 fun T => ⟨rfl, T⟩⟩, ⟨_, _, rfl, (avl [58, 51] rfl), fun _ _ _ T S => gn T rfl h85 fun T => ⟨rfl, T⟩⟩, ⟨_, _, rfl, (avl [51, 59] rfl), fun _ _ _ T S => pF T rfl h85 rfl rfl fun _ T => ⟨rfl, T⟩⟩, ⟨_, _, rfl, (avl [60] rfl), fun _ _ _ T S => v1 T rfl fun T => ⟨rfl, T⟩⟩, trivial⟩ rfl (fun i hi => by cases hi) (fun _ _ a w T hv hb S => ?_)
     replace T := T.sub (r := [(0, .slice A2 x1.length k3), (1, .int .i64 x4), (2, .int .i64 x5), (37, .slice A2 x1.length k3), (38, (y2 x1)), (39, .int .i64 x12), (48, .bool false)]) ⟨hb 0 _ rfl rfl, hb 1 _ rfl rfl, hb 2 _ rfl rfl, hb 37 _ rfl rfl, hb 38 _ rfl rfl, hb 39 _ rfl rfl, hv 12 _ 48 rfl rfl rfl, trivial⟩
     refine cdF T rfl rfl (sk (Gets.inBlock (Gets.inBlock ?_)))
     exact J6_ok F r z x1 A2 k3 x4 x5 x12 (L2 z x1 x4 x5 m) ih _ _ (T.sb rfl) (S.only [3] rfl) H
  ·refine cdF T rfl h13 (Gets.exit rfl (sq (rg (r_build (cs := #[.slice none 0 0, .slice none 0 0, .slice none 0 0, .int .i64 0, .int .i64 0, .slice none 0 0]) T stt61 rfl rfl rfl fun _ T => r_box T S rfl (cs := [.slice none 0 0, .slice none 0 0, .slice none 0 0, .int .i64 0, .int .i64 0, .slice none 0 0]) rfl rfl fun _ _ b14 S T => v1 T rfl fun T => sq (rg (v1 T rfl fun T => sq (sq (rg (v1 T rfl fun T => rn T rfl tu22 rfl fun _ T => v1 T rfl fun T => bq (Gets.loop ?_))))))))))
   replace S := S.nil ku8 .own
   replace S := S.nil ku8 .ro
   replace S := S.nil ku8 .own
   replace S := S.nil ku8 .ro
   replace S := S.nil (kSl ku8) .own
   exact L3_ok F r z x1 A2 k3 x4 x5 b14 z none [] 0 0 none [] 0 none [] 0 none [] 0 0 0 none [] 0 _ _ (T.sb rfl) (S.only [6, 5, 4, 3, 2, 1, 0] rfl) H
theorem J1_ok (F : List Atom) (r : (List Int) × Int) (z : Nat) (x1 : List aE) (A2 : OA) (k3 : Nat) (x4 x5 : Int) (a : Act) (w : World) (T : Tm 112 [] a) (S : SL ([(y4 A2 k3 x1)] ++ F) w) (H : J1 z = some r) : Gets Try.prog 7 ptJ1 a w (R F x1 A2 k3 r) := by
 refine rg (v2 T rfl rfl fun T => ?_)
 replace S := S.nil ku8 .own
 obtain rfl := sj H
 exact rtn T tf7 rfl rfl ⟨none, 0, rfl, (S.only [0, 0] rfl)⟩
theorem J0_ok (F : List Atom) (r : (List Int) × Int) (z : Nat) (x1 : List aE) (A2 : OA) (k3 : Nat) (x4 x5 : Int) (a : Act) (w : World) (T : Tm 112 [] a) (S : SL ([(y4 A2 k3 x1)] ++ F) w) (H : J0 z = some r) : Gets Try.prog 7 ptJ0 a w (R F x1 A2 k3 r) := by
 refine rg (v2 T rfl rfl fun T => ?_)
 replace S := S.nil ku8 .own
 obtain rfl := sj H
 exact rtn T tf7 rfl rfl ⟨none, 0, rfl, (S.only [0, 0] rfl)⟩
theorem ok (F : List Atom) (w : World) (z : Nat) (x1 : List aE) (x4 x5 : Int) {A2 : OA} {k3 : Nat} (S : SL ([(y4 A2 k3 x1)] ++ F) w) (r : (List Int) × Int) (H : f z x1 x4 x5 = some r) : Calls Try.prog 7 #[.slice A2 x1.length k3, .int .i64 x4, .int .i64 x5] w (R F x1 A2 k3 r) := by
 refine enter (vs := [.slice A2 x1.length k3, .int .i64 x4, .int .i64 x5]) tf7 rfl Try.ntmps7 (nle rfl) fun a T => ?_
 refine sq (rg (v2 T rfl rfl fun T => sq (sq (rg (v3 T rfl rfl rfl fun T => ?_)))))
 rcases ifE H with ⟨h6, H⟩ | ⟨h6, H⟩
 ·refine gn T rfl h6 fun T => gn T rfl h6 fun T => pT T rfl h6 rfl rfl fun _ T => v1 T rfl fun T => gn T rfl rfl fun T => gn T rfl rfl fun T => pT T rfl rfl rfl rfl fun _ T => v1 T rfl fun T => gn T rfl rfl fun T => gn T rfl rfl fun T => pT T rfl rfl rfl rfl fun _ T => cdT T rfl rfl (sq ?_)
  exact J0_ok F r z x1 A2 k3 x4 x5 _ _ (T.sub trivial) (S.only [0] rfl) H
 ·refine gy T rfl h6 (v1 T rfl fun T => gy T rfl h6 (v1 T rfl fun T => pF T rfl h6 rfl rfl fun _ T => v1 T rfl fun T => ?_))
  rcases ifE H with ⟨h7, H⟩ | ⟨h7, H⟩
  ·refine gn T rfl h7 fun T => gn T rfl h7 fun T => pT T rfl h7 rfl rfl fun _ T => v1 T rfl fun T => gn T rfl rfl fun T => gn T rfl rfl fun T => pT T rfl rfl rfl rfl fun _ T => cdT T rfl rfl (sq ?_)
   exact J0_ok F r z x1 A2 k3 x4 x5 _ _ (T.sub trivial) (S.only [0] rfl) H
  ·refine gy T rfl h7 (v1 T rfl fun T => gy T rfl h7 (v1 T rfl fun T => pF T rfl h7 rfl rfl fun _ T => v1 T rfl fun T => ?_))
   rcases ifE H with ⟨h8, H⟩ | ⟨h8, H⟩
   ·refine gn T rfl h8 fun T => gn T rfl h8 fun T => pT T rfl h8 rfl rfl fun _ T => cdT T rfl rfl (sq ?_)
    exact J0_ok F r z x1 A2 k3 x4 x5 _ _ (T.sub trivial) (S.only [0] rfl) H
   ·refine gy T rfl h8 (v1 T rfl fun T => gy T rfl h8 (v1 T rfl fun T => pF T rfl h8 rfl rfl fun _ T => ?_))
    rcases ifE H with ⟨h9, H⟩ | ⟨h9, H⟩
    ·refine cdT T rfl h9 (sq ?_)
     exact J0_ok F r z x1 A2 k3 x4 x5 _ _ (T.sub trivial) (S.only [0] rfl) H
    ·refine cdF T rfl h9 (sk (sq (sq (rg (v1 T rfl fun T => rn T rfl tu22 rfl fun _ T => v2 T rfl rfl fun T => ?_)))))
     rcases ifE H with ⟨h10, H⟩ | ⟨h10, H⟩
     ·refine gn T rfl h10 fun T => gn T rfl h10 fun T => gn T rfl h10 fun T => pT T rfl h10 rfl rfl fun _ T => cdT T rfl rfl (sq ?_)
      exact J1_ok F r z x1 A2 k3 x4 x5 _ _ (T.sub trivial) (S.only [0] rfl) H
     ·refine gy T rfl h10 (v1 T rfl fun T => gy T rfl h10 (rn T rfl tu22 rfl fun _ T => gy T rfl h10 (v1 T rfl fun T => pF T rfl h10 rfl rfl fun _ T => ?_)))
      rcases ifE H with ⟨h11, H⟩ | ⟨h11, H⟩
      ·refine cdT T rfl h11 (sq ?_)
       exact J1_ok F r z x1 A2 k3 x4 x5 _ _ (T.sub trivial) (S.only [0] rfl) H
      ·refine cdF T rfl h11 (sk (sq (sq (rg (v1 T rfl fun T => rn T rfl tu22 rfl fun _ T => v1 T rfl fun T => bq (Gets.loop ?_))))))
       exact L2_ok F r z x1 A2 k3 x4 x5 z 0 _ _ (T.sb rfl) (S.only [0] rfl) H
end s_Build
def hashS (xs : List Int) : Int := xs.foldl (fun h x => wr .u64 ((bXor .u64 h (wr .u64 x)) * 1099511628211)) 14695981039346656037
theorem Hash_L0 (z : Nat) (xs : List Int) (hx : xs.length ≤ 16777215) : ∀ (k m i : Nat) (h : Int), xs.length - i = k → i ≤ xs.length → k < m →
  b_Hash.L0 z xs m h (i : Int) = some ((xs.drop i).foldl (fun h x => wr .u64 ((bXor .u64 h (wr .u64 x)) * 1099511628211)) h)
 | k, 0, _, _, _, _, h => by omega
 | 0, m + 1, i, c, hk, hi, _ => by
  rw [b_Hash.L0, if_n (by simp; omega), List.drop_eq_nil_of_le (by omega)]
  rfl
 | k + 1, m + 1, i, c, hk, hi, hm => by
  rw [b_Hash.L0, if_y (by simp; omega), ck_y (by omega), gi_nat _ _ _ (by omega), wI (by omega), List.drop_eq_getElem_cons (by omega)]
  exact Hash_L0 z xs hx k m (i + 1) _ (by omega) (by omega) (by omega)
theorem Hash_f {z : Nat} (hz : 16777216 ≤ z) {xs : List Int} (hx : xs.length ≤ 16777215) : b_Hash.f z xs = some (hashS xs) :=
 Hash_L0 z xs hx xs.length z 0 _ (by omega) (by omega) (by omega)
theorem wrU_in (x : Int) : 0 ≤ wr .u64 x ∧ wr .u64 x ≤ 18446744073709551615 := by rw [wU']; omega
theorem hash_in (xs : List Int) : 0 ≤ hashS xs ∧ hashS xs ≤ 18446744073709551615 := by
 have : ∀ (xs : List Int) (h : Int), 0 ≤ h ∧ h ≤ 18446744073709551615 → 0 ≤ xs.foldl (fun h x => wr .u64 ((bXor .u64 h (wr .u64 x)) * 1099511628211)) h ∧ xs.foldl (fun h x => wr .u64 ((bXor .u64 h (wr .u64 x)) * 1099511628211)) h ≤ 18446744073709551615 := by
  intro xs
  induction xs with
  | nil => intro h hh; exact hh
  | cons x xs ih => intro h hh; exact ih _ (wrU_in _)
 exact this xs _ (by omega)
def stepS (h : Int) : Int := bOr .u64 (bOr .u64 (sShl .u64 h 31) (sShr .u64 h 33)) 1
theorem rot_f (h : Int) : bits_RotateLeft64.f h 31 = some (bOr .u64 (sShl .u64 h 31) (sShr .u64 h 33)) := by
 unfold bits_RotateLeft64.f
 rw [show bAnd .u64 (wr .u64 31) 63 = 31 by decide +kernel, show wr .u64 (64 - 31) = 33 by decide +kernel, ck_y (by decide), ck_y (by decide)]
def setb (b : List Int) (n : Int) : List Int := b.set (1 + n / 8).toNat (bOr .u8 (gi 0 b (1 + n / 8)) (sShl .u8 1 (n % 8)))
def eachS (m step : Int) : Nat → Int → List Int → List Int
 | 0, _, b => b
 | k + 1, h, b => eachS m step k (wr .u64 (h + step)) (setb b (h % m))
theorem setb_len (b : List Int) (n : Int) : (setb b n).length = b.length := by simp [setb]
theorem eachS_len (m step : Int) : ∀ (k : Nat) (h : Int) (b : List Int), (eachS m step k h b).length = b.length
 | 0, _, _ => rfl
 | k + 1, h, b => by rw [eachS, eachS_len, setb_len]
theorem bor8_in (x y : Int) : 0 ≤ bOr .u8 x y ∧ bOr .u8 x y < 256 := by
 show 0 ≤ wr .u8 _ ∧ wr .u8 _ < 256
 rw [wB]; omega
theorem X.Bys.set {xs : List Int} (h : Bys xs) (i : Nat) {v : Int} (hv : 0 ≤ v ∧ v < 256) : Bys (xs.set i v) := fun y hy => by
 rcases List.mem_or_eq_of_mem_set hy with q | rfl
 ·exact h y q
 ·exact hv
theorem eachS_bys (m step : Int) : ∀ (k : Nat) (h : Int) (b : List Int), Bys b → Bys (eachS m step k h b)
 | 0, _, _, hb => hb
 | k + 1, h, b, hb => eachS_bys m step k _ _ (hb.set _ (bor8_in _ _))
theorem each_L0 (z : Nat) {p m x14 : Int} (hp : 0 ≤ p ∧ p ≤ 100) (hm : 0 < m ∧ m ≤ 4611686018427387904 ∧ m % 8 = 0) : ∀ (k n : Nat) (i : Nat) (h : Int) (b : List Int), p.toNat - i = k → i ≤ p.toNat → k < n → 0 ≤ h ∧ h ≤ 18446744073709551615 → (b.length : Int) = 1 + m / 8 →
  b_each_at82.L0 z p m x14 n h (i : Int) b = some (true, eachS m (bOr .u64 x14 1) k h b)
 | k, 0, _, _, _, _, _, h, _, _ => by omega
 | 0, n + 1, i, h, b, hk, hi, _, hh, hb => by
  rw [b_each_at82.L0, if_n (by simp; omega)]
  rfl
 | k + 1, n + 1, i, h, b, hk, hi, hn, hh, hb => by
  have h1 : 0 ≤ h % m ∧ h % m < m := ⟨Int.emod_nonneg _ (by omega), Int.emod_lt_of_pos _ (by omega)⟩
  rw [b_each_at82.L0, if_y (by simp; omega), ck_y (by omega), tmod_nn hh.1, tmod_nn h1.1, tdiv_nn h1.1, ck_y (by omega), wU (by omega), wI (by omega), wI (x := (i : Int) + 1) (by omega)]
  unfold b_Make_c1.f
  rw [wI (by omega), ck_y (by omega), bd_some]
  refine (if_n rfl).trans ?_
  exact each_L0 z hp hm k n (i + 1) _ _ (by omega) (by omega) (by omega) (wrU_in _) (by simp; omega)
def keyS (p m : Int) (b key : List Int) : List Int := eachS m (stepS (hashS key)) p.toNat (hashS key) b
theorem each_f {z : Nat} (hz : 16777216 ≤ z) {key : List Int} (hk : key.length ≤ 16777215) {p m : Int} (hp : 0 ≤ p ∧ p ≤ 100) (hm : 0 < m ∧ m ≤ 4611686018427387904 ∧ m % 8 = 0) {b : List Int} (hb : (b.length : Int) = 1 + m / 8) :
  b_each_at82.f z key p m b = some (true, keyS p m b key) := by
 unfold b_each_at82.f
 rw [Hash_f hz hk, bd_some, rot_f, bd_some]
 exact each_L0 z hp hm _ z 0 _ b rfl (by omega) (by omega) (hash_in _) hb
def bitsS (n : Nat) (pk : Int) : Int := mx 1 (((n : Int) * pk + 63) / 64) * 64
def probS (pk : Int) : Int := mx 1 (pk * 69 / 100)
def mkS (keys : List (List Int)) (pk : Int) : List Int :=
 keys.foldl (keyS (probS pk) (bitsS keys.length pk)) ((List.replicate (1 + bitsS keys.length pk / 8).toNat (0 : Int)).set 0 (probS pk))
theorem bits_in {n : Nat} {pk : Int} (hn : n ≤ 65536) (h : 1 ≤ pk ∧ pk ≤ 30) : 64 ≤ bitsS n pk ∧ bitsS n pk ≤ 2000000 ∧ bitsS n pk % 8 = 0 := by
 have h1 : (n : Int) * pk ≤ 65536 * 30 := Int.mul_le_mul (by omega) h.2 (by omega) (by omega)
 have h2 : 0 ≤ (n : Int) * pk := Int.mul_nonneg (by omega) (by omega)
 unfold bitsS mx
 split <;> omega
theorem prob_in {pk : Int} (h : 1 ≤ pk ∧ pk ≤ 30) : 1 ≤ probS pk ∧ probS pk ≤ 30 := by
 unfold probS mx
 split <;> omega
theorem keyS_len (p m : Int) (b key : List Int) : (keyS p m b key).length = b.length := eachS_len ..
theorem foldK_len (p m : Int) : ∀ (keys : List (List Int)) (b : List Int), (keys.foldl (keyS p m) b).length = b.length
 | [], _ => rfl
 | k :: ks, b => by rw [List.foldl_cons, foldK_len, keyS_len]
theorem foldK_bys (p m : Int) : ∀ (keys : List (List Int)) (b : List Int), Bys b → Bys (keys.foldl (keyS p m) b)
 | [], _, h => h
 | k :: ks, b, h => foldK_bys p m ks _ (eachS_bys _ _ _ _ _ h)
theorem mkS_len {keys : List (List Int)} {pk : Int} (hn : keys.length ≤ 65536) (h : 1 ≤ pk ∧ pk ≤ 30) : (mkS keys pk).length ≤ 260000 := by
 have := bits_in hn h
 unfold mkS
 rw [foldK_len]
 simp
 omega
theorem mkS_bys {keys : List (List Int)} {pk : Int} (h : 1 ≤ pk ∧ pk ≤ 30) : Bys (mkS keys pk) := by
 have := prob_in h
 exact foldK_bys _ _ _ _ (Bys.set (fun x hx => by rw [(List.mem_replicate.1 hx).2]; omega) _ (by omega))
theorem Make_L1 {z : Nat} (hz : 16777216 ≤ z) {keys : List (List Int)} {pk : Int} (hn : keys.length ≤ 65536) (hp : 1 ≤ pk ∧ pk ≤ 30) (hk : ∀ k ∈ keys, k.length ≤ 16777215) : ∀ (k m i : Nat) (b : List Int), keys.length - i = k → i ≤ keys.length → k < m → (b.length : Int) = 1 + bitsS keys.length pk / 8 →
  b_Make.L1 z keys pk m (i : Int) b = some ((keys.drop i).foldl (keyS (probS pk) (bitsS keys.length pk)) b, 0)
 | k, 0, _, _, _, _, h, _ => by omega
 | 0, m + 1, i, c, hk, hi, _, _ => by
  rw [b_Make.L1, if_n (by simp; omega), List.drop_eq_nil_of_le (by omega)]
  rfl
 | k + 1, m + 1, i, b, hk', hi, hm, hb => by
  have h1 : (keys.length : Int) * pk ≤ 65536 * 30 := Int.mul_le_mul (by omega) hp.2 (by omega) (by omega)
  have h2 : 0 ≤ (keys.length : Int) * pk := Int.mul_nonneg (by omega) (by omega)
  have hbi := bits_in hn hp
  have hpi := prob_in hp
  rw [b_Make.L1, if_y (by simp; omega), ck_y (by omega), gi_nat _ _ _ (by omega), wI (x := (keys.length : Int) * pk) (by omega), wI (x := (keys.length : Int) * pk + 63) (by omega), tdiv_nn (a := (keys.length : Int) * pk + 63) (by omega), wI (x := ((keys.length : Int) * pk + 63) / 64) (by omega),
   wI (x := pk * 69) (by omega), tdiv_nn (a := pk * 69) (by omega), wI (x := pk * 69 / 100) (by omega)]
  rw [show mx 1 (((keys.length : Int) * pk + 63) / 64) * 64 = bitsS keys.length pk from rfl, show mx 1 (pk * 69 / 100) = probS pk from rfl, wI (by omega), wU (by omega),
   each_f hz (hk _ (List.getElem_mem _)) (by omega) (by omega) hb, bd_some, wI (by omega), List.drop_eq_getElem_cons (by omega), List.foldl_cons]
  exact Make_L1 hz hn hp hk k m (i + 1) _ (by omega) (by omega) (by omega) (by rw [keyS_len]; exact hb)
theorem Make_f {z : Nat} (hz : 16777216 ≤ z) {keys : List (List Int)} {pk : Int} (hn : keys.length ≤ 65536) (hp : 1 ≤ pk ∧ pk ≤ 30) (hk : ∀ k ∈ keys, k.length ≤ 16777215) : b_Make.f z keys pk = some (mkS keys pk, 0) := by
 have h1 : (keys.length : Int) * pk ≤ 65536 * 30 := Int.mul_le_mul (by omega) hp.2 (by omega) (by omega)
 have h2 : 0 ≤ (keys.length : Int) * pk := Int.mul_nonneg (by omega) (by omega)
 have hbi := bits_in hn hp
 have hpi := prob_in hp
 unfold b_Make.f
 rw [if_n (by simp; omega), if_n (by simp; omega), if_n (by simp; omega), wI (x := (keys.length : Int) * pk) (by omega), wI (x := (keys.length : Int) * pk + 63) (by omega), tdiv_nn (a := (keys.length : Int) * pk + 63) (by omega), wI (x := ((keys.length : Int) * pk + 63) / 64) (by omega)]
 rw [show mx 1 (((keys.length : Int) * pk + 63) / 64) * 64 = bitsS keys.length pk from rfl, wI (x := bitsS keys.length pk) (by omega), tdiv_nn (a := bitsS keys.length pk) (by omega), wI (x := bitsS keys.length pk / 8) (by omega), wI (x := 1 + bitsS keys.length pk / 8) (by omega), ck_y (by omega), ck_y (by simp; omega),
   wI (x := pk * 69) (by omega), tdiv_nn (a := pk * 69) (by omega), wI (x := pk * 69 / 100) (by omega), show mx 1 (pk * 69 / 100) = probS pk from rfl, wB, Int.emod_eq_of_lt (by omega) (by omega)]
 have := Make_L1 hz hn hp hk keys.length z 0 ((List.replicate (1 + bitsS keys.length pk / 8).toNat (0 : Int)).set 0 (probS pk)) (by omega) (by omega) (by omega) (by simp; omega)
 exact this
def highS (n : Int) (s : Nat) : List Int := (List.range s).map fun i => n / 2 ^ (8 * (s - 1 - i)) % 256
theorem high_L0 (z : Nat) {n : Int} (hn : 0 ≤ n) (s : Nat) (hs : s ≤ 8) (m : Nat) (i : Nat) (xs : List Int) (hi : i < s) (hx : xs.length = s) :
  s_high.L0 z n (s : Int) (m + 1) xs (i : Int) = s_high.L0 z n (s : Int) m (xs.set i (n / 2 ^ (8 * (s - 1 - i)) % 256)) ((i + 1 : Nat) : Int) := by
 rw [s_high.L0, if_y (by simp; omega), wI (x := (s : Int) - 1) (by omega), wI (x := (s : Int) - 1 - i) (by omega), wI (x := 8 * ((s : Int) - 1 - i)) (by omega), ck_y (by omega), ck_y (by omega),
  show (8 * ((s : Int) - 1 - i)) = ((8 * (s - 1 - i) : Nat) : Int) by omega, shr_d _ _ _ (by show _ ≤ 64; omega), wB, wI (by omega)]
 rfl
theorem high_8 {z : Nat} (hz : 16777216 ≤ z) {n : Int} (hn : 0 ≤ n) : s_high.f z n 8 = some (highS n 8) := by
 obtain ⟨m, rfl⟩ : ∃ m, z = m + 9 := ⟨z - 9, by omega⟩
 unfold s_high.f
 rw [ck_y (by decide)]
 have h := fun k i xs => high_L0 (m + 9) hn 8 (by omega) k i xs
 have e := fun (i : Nat) (xs : List Int) k (a : i < 8) (b : xs.length = 8) => h k i xs a b
 show s_high.L0 (m + 9) n ((8 : Nat) : Int) (m + 9) (List.replicate 8 0) ((0 : Nat) : Int) = _
 rw [e 0 _ _ (by omega) (by simp), e 1 _ _ (by omega) (by simp), e 2 _ _ (by omega) (by simp), e 3 _ _ (by omega) (by simp), e 4 _ _ (by omega) (by simp), e 5 _ _ (by omega) (by simp), e 6 _ _ (by omega) (by simp), e 7 _ _ (by omega) (by simp)]
 rw [s_high.L0, if_n (by simp)]
 rfl
theorem high_4 {z : Nat} (hz : 16777216 ≤ z) {n : Int} (hn : 0 ≤ n) : s_high.f z n 4 = some (highS n 4) := by
 obtain ⟨m, rfl⟩ : ∃ m, z = m + 5 := ⟨z - 5, by omega⟩
 unfold s_high.f
 rw [ck_y (by decide)]
 have h := fun k i xs => high_L0 (m + 5) hn 4 (by omega) k i xs
 have e := fun (i : Nat) (xs : List Int) k (a : i < 4) (b : xs.length = 4) => h k i xs a b
 show s_high.L0 (m + 5) n ((4 : Nat) : Int) (m + 5) (List.replicate 4 0) ((0 : Nat) : Int) = _
 rw [e 0 _ _ (by omega) (by simp), e 1 _ _ (by omega) (by simp), e 2 _ _ (by omega) (by simp), e 3 _ _ (by omega) (by simp)]
 rw [s_high.L0, if_n (by simp)]
 rfl
theorem highS_len (n : Int) (s : Nat) : (highS n s).length = s := by simp [highS]
theorem highS_bys (n : Int) (s : Nat) : Bys (highS n s) := fun x hx => by
 obtain ⟨i, _, rfl⟩ := List.mem_map.1 hx
 omega
def tail36 (fa ia cnt bb pk : Int) : List Int := highS fa 8 ++ highS ia 8 ++ highS cnt 8 ++ highS bb 4 ++ highS pk 4 ++ [67, 79, 82, 77]
def tailS (fa ia cnt bb pk : Int) : List Int := tail36 fa ia cnt bb pk ++ le4 (~~~(crc 4294967295#32 (tail36 fa ia cnt bb pk)))
theorem tail36_len (fa ia cnt bb pk : Int) : (tail36 fa ia cnt bb pk).length = 36 := by simp [tail36, highS_len]
theorem tailS_len (fa ia cnt bb pk : Int) : (tailS fa ia cnt bb pk).length = 40 := by simp [tailS, tail36_len, le4]
def idxS (w : s_builder) : List Int := num w.blocks.toNat ++ w.index
def outS (w : s_builder) (cnt : Int) (filter : List Int) (bb pk : Int) : List Int :=
 w.out ++ frm 70 filter ++ frm 73 (idxS w) ++ tailS w.out.length (w.out ++ frm 70 filter).length cnt bb pk
def endS (w : s_builder) (cnt : Int) (keys : List (List Int)) (bb pk : Int) : List Int × Int :=
 if (idxS w).length > 2097152 then ([], 43) else if (outS w cnt (mkS keys pk) bb pk).length > 4194304 then ([], 43) else (outS w cnt (mkS keys pk) bb pk, 0)
theorem end_f {z : Nat} (hz : 16777216 ≤ z) {w : s_builder} (ho : w.out.length ≤ 8388608) (hi : w.index.length ≤ 67108864) (hbl : 0 ≤ w.blocks ∧ w.blocks ≤ 100000) {cnt : Int} (hc : 0 ≤ cnt) {keys : List (List Int)} (hn : keys.length ≤ 65536) (hk : ∀ k ∈ keys, k.length ≤ 16777215)
  {bb pk : Int} (hb : 0 ≤ bb) (hp : 1 ≤ pk ∧ pk ≤ 30) : s_builder_end.f z w cnt keys bb pk = some (endS w cnt keys bb pk) := by
 have hm := mkS_len hn hp
 have a := num_lenp 3 w.blocks.toNat (by omega) (by omega)
 have a' := num_len w.blocks.toNat
 have b := num_lenp 3 (mkS keys pk).length (by omega) (by omega)
 have hF := frm_len 70 (mkS keys pk)
 unfold s_builder_end.f endS
 rw [Make_f hz hn hp hk, bd_some, frame_f hz w 70 (by dsimp only; omega) (by omega), bd_some]
 dsimp only
 rw [wU (by omega), Number_f hz (by omega), bd_some, ck_y (by omega), show num w.blocks.toNat ++ w.index = idxS w from rfl]
 by_cases h1 : (idxS w).length > 2097152
 ·rw [if_y (by simp; omega), if_pos h1]
 ·rw [if_n (by simp; omega), if_neg h1]
  have c := num_lenp 4 (idxS w).length (by omega) (by omega)
  have hF' := frm_len 73 (idxS w)
  rw [frame_f hz _ 73 (by omega) (by simp; omega), bd_some]
  dsimp only
  rw [high_8 hz (by omega), bd_some, high_8 hz (by omega), bd_some, high_8 hz (by omega), bd_some, high_4 hz (by omega), bd_some, high_4 hz (by omega), bd_some,
   Concat_f hz (by simp) (by simp [highS_len]), bd_some]
  rw [show [highS (w.out.length : Int) 8, highS ((w.out ++ frm 70 (mkS keys pk)).length : Int) 8, highS cnt 8, highS bb 4, highS pk 4, [67, 79, 82, 77]].flatten = tail36 w.out.length (w.out ++ frm 70 (mkS keys pk)).length cnt bb pk by simp [tail36]]
  have ht := tail36_len w.out.length (w.out ++ frm 70 (mkS keys pk)).length cnt bb pk
  rw [Sum_f hz (by omega), bd_some, wB, wB, wB, wB, show (8 : Int) = ((8 : Nat) : Int) from rfl, show (16 : Int) = ((16 : Nat) : Int) from rfl, show (24 : Int) = ((24 : Nat) : Int) from rfl, shr_d _ _ _ (by decide), shr_d _ _ _ (by decide), shr_d _ _ _ (by decide)]
  rw [ck_y (by simp [tail36_len]), ck_y (by simp [tail36_len]; omega)]
  have e : (w.out ++ frm 70 (mkS keys pk) ++ frm 73 (idxS w) ++ (tail36 w.out.length (w.out ++ frm 70 (mkS keys pk)).length cnt bb pk ++ [iv (~~~(crc 4294967295#32 (tail36 w.out.length (w.out ++ frm 70 (mkS keys pk)).length cnt bb pk))) % 256, iv (~~~(crc 4294967295#32 (tail36 w.out.length (w.out ++ frm 70 (mkS keys pk)).length cnt bb pk))) / 2 ^ 8 % 256, iv (~~~(crc 4294967295#32 (tail36 w.out.length (w.out ++ frm 70 (mkS keys pk)).length cnt bb pk))) / 2 ^ 16 % 256, iv (~~~(crc 4294967295#32 (tail36 w.out.length (w.out ++ frm 70 (mkS keys pk)).length cnt bb pk))) / 2 ^ 24 % 256]))
   = outS w cnt (mkS keys pk) bb pk := rfl
  rw [e]
  by_cases h2 : (outS w cnt (mkS keys pk) bb pk).length > 4194304
  ·rw [if_y (by simp; omega), if_pos h2]
  ·rw [if_n (by simp; omega), if_neg h2]
   rfl
def okE (e : aE) : Prop := Bys e.Key ∧ (0 ≤ e.Seq ∧ e.Seq ≤ 18446744073709551615) ∧ Bys e.Value
def bad : Option aE → aE → Bool
 | none, _ => false
 | some q, e => decide (ordS q e ≥ 0)
def chk : Option aE → List aE → Option Int
 | _, [] => none
 | p, e :: r => if ¬ fitS e then some 41 else if bad p e = true then some 42 else chk (some e) r
def keyAdd (keys : List (List Int)) (k : List Int) : List (List Int) := if keys.getLast? = some k then keys else keys ++ [k]
def run (bb : Int) : List aE → List (List Int) → s_builder → Option (List (List Int) × s_builder)
 | [], keys, w => some (keys, w)
 | e :: r, keys, w => if w.out.length > 4194304 then none else run bb r (keyAdd keys e.Key) (addS w e bb)
def w0 : s_builder := ⟨[], [], [], 0, 0, []⟩
def buildS (l : List aE) (bb pk : Int) : List Int × Int :=
 if bb < 64 ∨ bb > 65536 ∨ pk < 1 ∨ pk > 30 then ([], 1) else if l.length = 0 ∨ l.length > 65536 then ([], 40) else
 match chk none l with
 | some e => ([], e)
 | none => match run bb l [] w0 with
  | none => ([], 43)
  | some (keys, w) => endS (closeS w) l.length keys bb pk
structure Inv (n : Nat) (w : s_builder) : Prop where
 out : w.out.length ≤ 4194304 + 70100
 body : w.body.length ≤ 65900
 index : (w.index.length : Int) ≤ 300 * w.blocks
 many : 0 ≤ w.many ∧ w.many ≤ n
 blocks : 0 ≤ w.blocks ∧ w.blocks ≤ n
 last : w.last.length ≤ 256
 b1 : Bys w.out
 b2 : Bys w.body
 b3 : Bys w.index
 b4 : Bys w.last
theorem Inv.mod {n : Nat} {w : s_builder} (h : Inv n w) (hn : n ≤ 65536) : Mod w := ⟨by have := h.out; omega, by have := h.body; omega, by have := h.index; have := h.blocks; omega, by have := h.many; omega, by have := h.blocks; omega, h.last⟩
theorem Inv.zero : Inv 0 w0 := ⟨by simp [w0], by simp [w0], by simp [w0], by simp [w0], by simp [w0], by simp [w0], Bys.nil, Bys.nil, Bys.nil, Bys.nil⟩
theorem layS_bys {a : List Int} {e : aE} (h : okE e) : Bys (layS a e) := by
 unfold layS
 refine Bys.app (Bys.app (Bys.app (Bys.app (Bys.app (Bys.app (num_bys _) (num_bys _)) (num_bys _)) (Bys.cons ?_ Bys.nil)) (num_bys _)) (h.1.drop _)) h.2.2
 split <;> omega
theorem idx_bys {a b : Nat} {m : Int} {l : List Int} (h : Bys l) : Bys (idx a b m l) := Bys.app (Bys.app (Bys.app (num_bys _) (num_bys _)) (num_bys _)) (txt_bys h)
theorem Inv.add {n : Nat} {w : s_builder} (h : Inv n w) (hn : n ≤ 65535) (ho : w.out.length ≤ 4194304) {e : aE} (he : fitS e) (hk : okE e) {bb : Int} (hb : bb ≤ 65536) : Inv (n + 1) (addS w e bb) := by
 obtain ⟨h1, h2, h3, h4, h5, h6, b1, b2, b3, b4⟩ := h
 have hl := fun a => layS_len (ahead := a) he
 have hkl := he.2.2.1
 unfold addS
 split
 ·split
  ·rename_i hh
   refine ⟨by dsimp only; omega, ?_, by dsimp only; omega, by dsimp only; omega, by dsimp only; omega, hkl, b1, Bys.app b2 (layS_bys hk), b3, hk.1⟩
   dsimp only
   have := hl w.last
   omega
  ·have hi := idx_len (a := w.out.length) (b := (frm 68 w.body).length) (m := w.many) (l := w.last) (by omega) (by rw [frm_len]; have := num_lenp 3 w.body.length (by omega) (by omega); omega) (by omega) h6
   have hf := frm_len 68 w.body
   have hf' := num_lenp 3 w.body.length (by omega) (by omega)
   refine ⟨?_, (hl []).1, ?_, by dsimp only; omega, ?_, hkl, Bys.app b1 (frm_bys (by omega) b2), layS_bys hk, Bys.app b3 (idx_bys b4), hk.1⟩
   ·simp only [closeS, List.length_append]; omega
   ·simp only [closeS, List.length_append]; omega
   ·simp only [closeS]; omega
 ·exact ⟨by dsimp only; omega, (hl []).1, by dsimp only; omega, by dsimp only; omega, by dsimp only; omega, hkl, b1, layS_bys hk, b3, hk.1⟩
theorem keyAdd_len (keys : List (List Int)) (k : List Int) : (keyAdd keys k).length ≤ keys.length + 1 := by unfold keyAdd; split <;> simp
def endR (l : List aE) (bb pk : Int) : Option (List (List Int) × s_builder) → List Int × Int
 | none => ([], 43)
 | some (keys, w) => endS (closeS w) l.length keys bb pk
theorem Build_L3 {z : Nat} (hz : 16777216 ≤ z) {l : List aE} {bb pk : Int} (hbb : 64 ≤ bb ∧ bb ≤ 65536) (hp : 1 ≤ pk ∧ pk ≤ 30) (hl : l.length ≤ 65536) (hf : ∀ e ∈ l, fitS e ∧ okE e) : ∀ (k m i : Nat) (keys : List (List Int)) (w : s_builder),
  l.length - i = k → i ≤ l.length → k < m → Inv i w → keys.length ≤ i → (∀ k ∈ keys, k.length ≤ 256 ∧ Bys k) →
  s_Build.L3 z l bb pk m keys (i : Int) w.out w.body w.index w.many w.blocks w.last = some (endR l bb pk (run bb (l.drop i) keys w))
 | k, 0, _, _, _, _, _, h, _, _, _ => by omega
 | 0, m + 1, i, keys, w, hk, hi, _, hw, hkl, hkk => by
  rw [s_Build.L3, if_n (by simp; omega), close_f hz (hw.mod (by omega)), bd_some]
  have hM := hw.mod (by omega)
  have hf := frm_len 68 w.body
  have hb' := hw.body
  have hf' := num_lenp 3 w.body.length (by omega) (by omega)
  have hi' := idx_len (a := w.out.length) (b := (frm 68 w.body).length) (m := w.many) (l := w.last) (by have := hw.out; omega) (by omega) hM.many hw.last
  rw [end_f hz (by have := hw.out; simp only [closeS, List.length_append]; omega) (by have := hw.index; have := hw.blocks; simp only [closeS, List.length_append]; omega) (by have := hw.blocks; simp only [closeS]; omega) (by omega) (by omega) (fun k hk => by have := (hkk k hk).1; omega) (by omega) hp, bd_some,
   List.drop_eq_nil_of_le (by omega)]
  rfl
 | k + 1, m + 1, i, keys, w, hk, hi, hm, hw, hkl, hkk => by
  have hmem : l[i]'(by omega) ∈ l := List.getElem_mem _
  rw [s_Build.L3, if_y (by simp; omega), ck_y (by omega), gi_nat _ _ _ (by omega), List.drop_eq_getElem_cons (by omega), run]
  by_cases ho : w.out.length > 4194304
  ·rw [if_y (by simp; omega), if_pos ho]; rfl
  ·rw [if_n (by simp; omega), if_neg ho]
   have hadd := add_f hz (w := w) (hw.mod (by omega)) (hf _ hmem).1 (bb := bb)
   rw [show (⟨w.out, w.body, w.index, w.many, w.blocks, w.last⟩ : s_builder) = w from rfl, hadd, bd_some]
   have hW := hw.add (by omega) (by omega) (hf _ hmem).1 (hf _ hmem).2 hbb.2
   have next : ∀ keys' : List (List Int), keys' = keyAdd keys (l[i]'(by omega)).Key → s_Build.J5 z (s_Build.L3 z l bb pk m) l bb pk (i : Int) (addS w (l[i]'(by omega)) bb) keys' = some (endR l bb pk (run bb (l.drop (i + 1)) (keyAdd keys (l[i]'(by omega)).Key) (addS w (l[i]'(by omega)) bb))) := by
    intro keys' hk'
    unfold s_Build.J5
    rw [wI (by omega), hk']
    refine Build_L3 hz hbb hp hl hf k m (i + 1) _ _ (by omega) (by omega) (by omega) hW (by have := keyAdd_len keys (l[i]'(by omega)).Key; omega) ?_
    intro x hx
    unfold keyAdd at hx
    split at hx
    ·exact hkk x hx
    ·rcases List.mem_append.1 hx with q | q
     ·exact hkk x q
     ·rw [List.mem_singleton.1 q]
      exact ⟨(hf _ hmem).1.2.2.1, (hf _ hmem).2.1⟩
   have next4 : keyAdd keys (l[i]'(by omega)).Key = keys ++ [(l[i]'(by omega)).Key] → s_Build.J4 z (s_Build.L3 z l bb pk m) l bb pk keys (i : Int) (addS w (l[i]'(by omega)) bb) = some (endR l bb pk (run bb (l.drop (i + 1)) (keyAdd keys (l[i]'(by omega)).Key) (addS w (l[i]'(by omega)) bb))) := by
    intro hk'
    unfold s_Build.J4
    rw [gi_nat _ _ _ (by omega), ck_y (by simp; omega)]
    exact next _ hk'.symm
   by_cases h0 : keys.length = 0
   ·rw [if_y (by simp [h0])]
    exact next4 (by rw [List.eq_nil_of_length_eq_zero h0]; rfl)
   ·rw [if_n (by rw [beq_eq_false_iff_ne]; omega), wI (by omega), ck_y (by omega)]
    rw [show ((keys.length : Int) - 1) = ((keys.length - 1 : Nat) : Int) by omega, gi_nat _ _ _ (by omega)]
    have hlast : keys.getLast? = some (keys[keys.length - 1]'(by omega)) := by rw [List.getLast?_eq_getElem?]; exact List.getElem?_eq_getElem _
    rw [Equal_f (hkk _ (List.getElem_mem _)).2 (hf _ hmem).2.1, bd_some]
    by_cases he : keys[keys.length - 1]'(by omega) = (l[i]'(by omega)).Key
    ·rw [if_n (by simp [he])]
     exact next _ (by unfold keyAdd; rw [if_pos (by rw [hlast, he])])
    ·rw [if_y (by simp [he])]
     exact next4 (by unfold keyAdd; rw [if_neg (by rw [hlast]; simpa using he)])
theorem chk_fit : ∀ {l : List aE} {p : Option aE}, chk p l = none → ∀ e ∈ l, fitS e
 | [], _, _, _, h => by cases h
 | e :: r, p, h, x, hx => by
  unfold chk at h
  split at h
  ·cases h
  ·rename_i hf
   have hf' : fitS e := by simpa using hf
   rcases List.mem_cons.1 hx with rfl | hx
   ·exact hf'
   ·split at h
    ·cases h
    ·exact chk_fit h x hx
def bigS (l : List aE) (bb pk : Int) (o : Option Int) : List Int × Int := match o with | some e => ([], e) | none => endR l bb pk (run bb l [] w0)
theorem Build_L2 {z : Nat} (hz : 16777216 ≤ z) {l : List aE} {bb pk : Int} (hbb : 64 ≤ bb ∧ bb ≤ 65536) (hp : 1 ≤ pk ∧ pk ≤ 30) (hl : l.length ≤ 65536) (hf : ∀ e ∈ l, okE e) : ∀ (k m i : Nat),
  l.length - i = k → i ≤ l.length → k < m → (∀ e ∈ l.take i, fitS e) →
  s_Build.L2 z l bb pk m (i : Int) = some (bigS l bb pk (chk (if i = 0 then none else l[i - 1]?) (l.drop i)))
 | k, 0, _, _, _, h, _ => by omega
 | 0, m + 1, i, hk, hi, _, ht => by
  rw [s_Build.L2, if_n (by simp; omega), List.drop_eq_nil_of_le (by omega), chk]
  rw [List.take_of_length_le (by omega)] at ht
  exact Build_L3 hz hbb hp hl (fun e he => ⟨ht e he, hf e he⟩) l.length z 0 [] w0 (by omega) (by omega) (by omega) Inv.zero (by simp) (fun k hk => by cases hk)
 | k + 1, m + 1, i, hk, hi, hm, ht => by
  rw [s_Build.L2, if_y (by simp; omega), ck_y (by omega), gi_nat _ _ _ (by omega), fits_f, bd_some, List.drop_eq_getElem_cons (by omega), chk]
  by_cases hfi : fitS (l[i]'(by omega))
  ·rw [if_n (by simp [hfi]), if_neg (by simp [hfi])]
   have nxt : s_Build.J6 z (s_Build.L2 z l bb pk m) l bb pk (i : Int) = some (bigS l bb pk (chk (some (l[i]'(by omega))) (l.drop (i + 1)))) := by
    unfold s_Build.J6
    rw [wI (by omega)]
    have := Build_L2 hz hbb hp hl hf k m (i + 1) (by omega) (by omega) (by omega) (by
     intro e he
     rw [List.take_succ_eq_append_getElem (by omega)] at he
     rcases List.mem_append.1 he with q | q
     ·exact ht e q
     ·rw [List.mem_singleton.1 q]; exact hfi)
    rw [if_neg (by omega), Nat.add_sub_cancel, List.getElem?_eq_getElem (by omega)] at this
    exact this
   by_cases h0 : i = 0
   ·subst h0
    rw [if_n (by simp), if_pos rfl, if_neg (by simp [bad])]
    exact nxt
   ·rw [if_y (by simp; omega), if_neg h0, wI (by omega), ck_y (by omega), show ((i : Int) - 1) = ((i - 1 : Nat) : Int) by omega, gi_nat _ _ _ (by omega), order_f, bd_some, List.getElem?_eq_getElem (by omega)]
    by_cases ho : ordS (l[i - 1]'(by omega)) (l[i]'(by omega)) ≥ 0
    ·rw [if_y (by simpa using ho), if_pos (by simpa [bad] using ho)]; rfl
    ·rw [if_n (by simpa using ho), if_neg (by simpa [bad] using ho)]; exact nxt
  ·rw [if_y (by simp [hfi]), if_pos hfi]; rfl
theorem Build_f {z : Nat} (hz : 16777216 ≤ z) {l : List aE} (hf : ∀ e ∈ l, okE e) (bb pk : Int) : s_Build.f z l bb pk = some (buildS l bb pk) := by
 unfold s_Build.f buildS s_Build.J0 s_Build.J1
 by_cases h1 : bb < 64
 ·rw [if_y (by simpa using h1), if_pos (.inl h1)]
 ·rw [if_n (by simpa using h1)]
  by_cases h2 : bb > 65536
  ·rw [if_y (by simpa using h2), if_pos (.inr (.inl h2))]
  ·rw [if_n (by simpa using h2)]
   by_cases h3 : pk < 1
   ·rw [if_y (by simpa using h3), if_pos (.inr (.inr (.inl h3)))]
   ·rw [if_n (by simpa using h3)]
    by_cases h4 : pk > 30
    ·rw [if_y (by simpa using h4), if_pos (.inr (.inr (.inr h4)))]
    ·rw [if_n (by simpa using h4), if_neg (by omega)]
     by_cases h5 : l.length = 0
     ·rw [if_y (by simp [h5]), if_pos (.inl h5)]
     ·rw [if_n (by rw [beq_eq_false_iff_ne]; omega)]
      by_cases h6 : l.length > 65536
      ·rw [if_y (by simp; omega), if_pos (.inr h6)]
      ·rw [if_n (by simp; omega), if_neg (by omega)]
       have := Build_L2 hz (by omega) (by omega) (by omega) hf (bb := bb) (pk := pk) l.length z 0 (by omega) (by omega) (by omega) (fun e he => by simp at he)
       rw [if_pos rfl, List.drop_zero] at this
       refine this.trans ?_
       unfold bigS
       cases chk none l with
       | some e => rfl
       | none =>
        cases run bb l [] w0 with
        | none => rfl
        | some r => rfl
namespace c_TakeNumber
noncomputable def c0 : Code := match Try.f85.body with | some c => c | none => .skip
def R (F : List Atom) (x1 : List Int) (A2 : OA) (k3 : Nat) (m4 : Md) (r : Int × Int × Int) : Ending → World → Prop := fun e w' => e = .returned (.tuple #[.int .u64 r.1, .int .i64 r.2.1, .int .i64 r.2.2]) ∧ SL ([sl m4 ku8 A2 k3 x1] ++ F) w'
def J2 (z : Nat) (x1 : List Int) (x5 x6 : Int) : Option (Int × Int × Int) := some (bOr .u64 x5 (sShl .u64 (wr .u64 (bAnd .u8 (gi (0 : Int) x1 x6) 127)) (wr .i64 (7 * x6))), wr .i64 (x6 + 1), 0)
def J1 (z : Nat) (x1 : List Int) (x5 x6 : Int) : Option (Int × Int × Int) := If (x6 == 9) (If (decide ((gi (0 : Int) x1 x6) > 1)) (some (0, 0, 11)) (J2 z x1 x5 x6)) (J2 z x1 x5 x6)
def L0 (z : Nat) (x1 : List Int) : Nat → Int → Int → Option (Int × Int × Int)
 | 0, _, _ => none
 | m + 1, x5, x6 => If (decide (x6 < 10)) (If (x6 == (x1.length : Int)) (some (0, 0, 10)) (Ck (0 ≤ x6 ∧ x6 < (x1.length : Int)) (Ck (0 ≤ wr .i64 (7 * x6)) (If (decide ((gi (0 : Int) x1 x6) > 127)) (L0 z x1 m (bOr .u64 x5 (sShl .u64 (wr .u64 (bAnd .u8 (gi (0 : Int) x1 x6) 127)) (wr .i64 (7 * x6)))) (wr .i64 (x6 + 1))) (If (decide (x6 > 0)) (If ((gi (0 : Int) x1 x6) == 0) (some (0, 0, 11)) (J1 z x1 x5 x6)) (J1 z x1 x5 x6)))))) (some (0, 0, 11))
def f (z : Nat) (x1 : List Int) : Option (Int × Int × Int) := L0 z x1 z 0 0
noncomputable def ptJ2 : List Item := [.code (cL (cr 5 (cB (cL (cR (cR (cB (cB (cR (cL (cR (cR c0)))))))))))), .code (cr 6 (cB (cL (cR (cR (cB (cB (cR (cL (cR (cR c0))))))))))), .inBlock 1, .code (cr 3 (cB (cB (cR (cL (cR (cR c0))))))), .inLoop (cB (cB (cR (cL (cR (cR c0)))))), .inBlock 0, .code (cr 3 c0)]
noncomputable def ptJ1 : List Item := [.code (cE (cR (cL (cE (cR (cB (cL (cr 4 (cB (cL (cR (cR (cB (cB (cR (cL (cR (cR c0)))))))))))))))))), .code (cR (cE (cR (cB (cL (cr 4 (cB (cL (cR (cR (cB (cB (cR (cL (cR (cR c0)))))))))))))))), .inBlock 2, .code (cr 5 (cB (cL (cR (cR (cB (cB (cR (cL (cR (cR c0))))))))))), .inBlock 1, .code (cr 3 (cB (cB (cR (cL (cR (cR c0))))))), .inLoop (cB (cB (cR (cL (cR (cR c0)))))), .inBlock 0, .code (cr 3 c0)]
noncomputable def ptL0 : List Item := [.code (cB (cB (cR (cL (cR (cR c0)))))), .inLoop (cB (cB (cR (cL (cR (cR c0)))))), .inBlock 0, .code (cr 3 c0)]
theorem J2_ok (F : List Atom) (r : Int × Int × Int) (z : Nat) (x1 : List Int) (A2 : OA) (k3 : Nat) (m4 : Md) (x5 x6 : Int) (a : Act) (w : World) (T : Tm 47 [(5, .int .u64 (bOr .u64 x5 (sShl .u64 (wr .u64 (bAnd .u8 (gi (0 : Int) x1 x6) 127)) (wr .i64 (7 * x6))))), (6, .int .i64 x6)] a) (S : SL ([sl m4 ku8 A2 k3 x1] ++ F) w) (H : J2 z x1 x5 x6 = some r) : Gets Try.prog 85 ptJ2 a w (R F x1 A2 k3 m4 r) := by
 refine rg (v3 T rfl rfl rfl fun T => v3 T rfl rfl rfl fun T => ?_)
 obtain rfl := sj H
 exact rtn T tf85 rfl rfl ⟨rfl, (S.only [0] rfl)⟩
theorem J1_ok (F : List Atom) (r : Int × Int × Int) (z : Nat) (x1 : List Int) (A2 : OA) (k3 : Nat) (m4 : Md) (x5 x6 : Int) (a : Act) (w : World) (T : Tm 47 [(5, .int .u64 (bOr .u64 x5 (sShl .u64 (wr .u64 (bAnd .u8 (gi (0 : Int) x1 x6) 127)) (wr .i64 (7 * x6))))), (6, .int .i64 x6), (7, .int .u8 (gi (0 : Int) x1 x6))] a) (S : SL ([sl m4 ku8 A2 k3 x1] ++ F) w) (H : J1 z x1 x5 x6 = some r) : Gets Try.prog 85 ptJ1 a w (R F x1 A2 k3 m4 r) := by
 refine rg (v3 T rfl rfl rfl fun T => ?_)
 rcases ifE H with ⟨h14, H⟩ | ⟨h14, H⟩
 ·refine gy T rfl h14 (v1 T rfl fun T => gy T rfl h14 (v1 T rfl fun T => pT T rfl h14 rfl rfl fun _ T => v1 T rfl fun T => ?_))
  rcases ifE H with ⟨h15, H⟩ | ⟨h15, H⟩
  ·refine cdT T rfl h15 (sq (rg (v3 T rfl rfl rfl fun T => ?_)))
   obtain rfl := sj H
   exact rtn T tf85 rfl rfl ⟨rfl, (S.only [0] rfl)⟩
  ·refine cdF T rfl h15 (sk (Gets.inBlock (sq ?_)))
   exact J2_ok F r z x1 A2 k3 m4 x5 x6 _ _ (T.sb rfl) (S.only [0] rfl) H
 ·refine gn T rfl h14 fun T => gn T rfl h14 fun T => pF T rfl h14 rfl rfl fun _ T => v1 T rfl fun T => cdF T rfl rfl (sk (Gets.inBlock (sq ?_)))
  exact J2_ok F r z x1 A2 k3 m4 x5 x6 _ _ (T.sb rfl) (S.only [0] rfl) H
theorem L0_ok (F : List Atom) (r : Int × Int × Int) (z : Nat) (x1 : List Int) (A2 : OA) (k3 : Nat) (m4 : Md) (m : Nat) : ∀ (x5 x6 : Int) (a : Act) (w : World), Tm 47 [(0, .slice A2 x1.length k3), (5, .int .u64 x5), (8, .int .i64 x6)] a → SL ([sl m4 ku8 A2 k3 x1] ++ F) w → L0 z x1 m x5 x6 = some r → Gets Try.prog 85 ptL0 a w (R F x1 A2 k3 m4 r) := by
 induction m with
 | zero => intro _ _ _ _ _ _ H; cases H
 | succ m ih =>
  intro x5 x6 a w T S H
  refine sq (rg (v1 T rfl fun T => sq ?_))
  rcases ifE H with ⟨h7, H⟩ | ⟨h7, H⟩
  ·refine cdT T rfl h7 (sk (sq (bq (sq (rg (v2 T rfl rfl fun T => sq (sq (rg (v2 T rfl rfl fun T => rn T rfl tu24 rfl fun _ T => v1 T rfl fun T => ?_)))))))))
   rcases ifE H with ⟨h8, H⟩ | ⟨h8, H⟩
   ·refine cdT T rfl h8 (sq (rg (v3 T rfl rfl rfl fun T => ?_)))
    obtain rfl := sj H
    exact rtn T tf85 rfl rfl ⟨rfl, (S.only [0] rfl)⟩
   ·refine cdF T rfl h8 (sk (sq (rg (v2 T rfl rfl fun T => ?_))))
    obtain ⟨h9, H⟩ := ck H
    refine r_ia (ix := 0) T S rfl rfl rfl rfl tu24 ts5 h9.1 h9.2 rfl fun _ T => r_ldE (ix := 0) (i := x6) (off := 0) (f := (Value.int .u8)) T S rfl ti5 rfl (0 : Int) _ rfl rfl (Fld.all _) h9.1 h9.2 id rfl fun _ T => v1 T rfl fun T => sq (rg (v3 T rfl rfl rfl fun T => r_conv T rfl tu5 tu34 rfl fun _ T => v2 T rfl rfl fun T => ?_))
    obtain ⟨h10, H⟩ := ck H
    refine r_shl T rfl rfl h10 rfl fun _ T => v2 T rfl rfl fun T => sq (bq (sq (rg (v3 T rfl rfl rfl fun T => ?_))))
    rcases ifE H with ⟨h11, H⟩ | ⟨h11, H⟩
    ·refine cdT T rfl h11 (Gets.exit rfl (rg (v2 T rfl rfl fun T => Gets.inLoop ?_)))
     exact ih (bOr .u64 x5 (sShl .u64 (wr .u64 (bAnd .u8 (gi (0 : Int) x1 x6) 127)) (wr .i64 (7 * x6)))) (wr .i64 (x6 + 1)) _ _ (T.sb rfl) (S.only [0] rfl) H
    ·refine cdF T rfl h11 (sq (sq (rg (v3 T rfl rfl rfl fun T => ?_))))
     rcases ifE H with ⟨h12, H⟩ | ⟨h12, H⟩
     ·refine gy T rfl h12 (v1 T rfl fun T => gy T rfl h12 (v1 T rfl fun T => pT T rfl h12 rfl rfl fun _ T => v1 T rfl fun T => ?_))
      rcases ifE H with ⟨h13, H⟩ | ⟨h13, H⟩
      ·refine cdT T rfl h13 (sk (cdT T rfl h13 (sq (rg (v3 T rfl rfl rfl fun T => ?_)))))
       obtain rfl := sj H
       exact rtn T tf85 rfl rfl ⟨rfl, (S.only [0] rfl)⟩
      ·refine cdF T rfl h13 ?_
       exact J1_ok F r z x1 A2 k3 m4 x5 x6 _ _ (T.sb rfl) (S.only [0] rfl) H
     ·refine gn T rfl h12 fun T => gn T rfl h12 fun T => pF T rfl h12 rfl rfl fun _ T => v1 T rfl fun T => cdF T rfl rfl ?_
      exact J1_ok F r z x1 A2 k3 m4 x5 x6 _ _ (T.sb rfl) (S.only [0] rfl) H
  ·refine cdF T rfl h7 (Gets.exit rfl (sq (rg (v3 T rfl rfl rfl fun T => ?_))))
   obtain rfl := sj H
   exact rtn T tf85 rfl rfl ⟨rfl, (S.only [0] rfl)⟩
theorem ok (F : List Atom) (w : World) (z : Nat) (x1 : List Int) {A2 : OA} {k3 : Nat} {m4 : Md} (S : SL ([sl m4 ku8 A2 k3 x1] ++ F) w) (r : Int × Int × Int) (H : f z x1 = some r) : Calls Try.prog 85 #[.slice A2 x1.length k3] w (R F x1 A2 k3 m4 r) := by
 refine enter (vs := [.slice A2 x1.length k3]) tf85 rfl Try.ntmps85 (nle rfl) fun a T => ?_
 refine sq (rg (v3 T rfl rfl rfl fun T => sq (rg (v1 T rfl fun T => sq (sq (rg (v1 T rfl fun T => bq (Gets.loop ?_))))))))
 exact L0_ok F r z x1 A2 k3 m4 z 0 0 _ _ (T.sb rfl) (S.only [0] rfl) H
end c_TakeNumber
namespace c_length
def R (F : List Atom) (x1 : List Int) (A2 : OA) (k3 : Nat) (m4 : Md) (r : Int × Int × Int) : Ending → World → Prop := fun e w' => e = .returned (.tuple #[.int .i64 r.1, .int .i64 r.2.1, .int .i64 r.2.2]) ∧ SL ([sl m4 ku8 A2 k3 x1] ++ F) w'
def f (z : Nat) (x1 : List Int) (x5 : Int) : Option (Int × Int × Int) := Bd (c_TakeNumber.f z x1) fun x7 => If (x7.2.2 != 0) (some (0, 0, x7.2.2)) (If (decide (x7.1 > 2097152)) (some (0, 0, 12)) (If (decide ((wr .i64 ((wr .i64 ((x1.length : Int) - x7.2.1)) - x5)) < (wr .i64 x7.1))) (some (0, 0, 10)) (some (wr .i64 x7.1, x7.2.1, 0))))
theorem ok (F : List Atom) (w : World) (z : Nat) (x1 : List Int) (x5 : Int) {A2 : OA} {k3 : Nat} {m4 : Md} (S : SL ([sl m4 ku8 A2 k3 x1] ++ F) w) (r : Int × Int × Int) (H : f z x1 x5 = some r) : Calls Try.prog 62 #[.slice A2 x1.length k3, .int .i64 x5] w (R F x1 A2 k3 m4 r) := by
 refine enter (vs := [.slice A2 x1.length k3, .int .i64 x5]) tf62 rfl Try.ntmps62 (nle rfl) fun a T => ?_
 refine sq (rg (v3 T rfl rfl rfl fun T => sq (rg (v1 T rfl fun T => ?_))))
 obtain ⟨x7, h6, H⟩ := bd H
 refine rc T Try.call85 rfl rfl (c_TakeNumber.ok _ _ z x1 (S.sel (is := [0]) rfl) _ h6) ?_
 rintro _ _ ⟨rfl, S⟩
 refine ⟨_, rfl, fun _ T => ?_⟩
 replace S := S.join
 refine v3 T rfl rfl rfl fun T => v3 T rfl rfl rfl fun T => v1 T rfl fun T => sq (bq (sq (rg (v3 T rfl rfl rfl fun T => ?_))))
 rcases ifE H with ⟨h8, H⟩ | ⟨h8, H⟩
 ·refine cdT T rfl h8 (sq (rg (v3 T rfl rfl rfl fun T => v1 T rfl fun T => ?_)))
  obtain rfl := sj H
  exact rtn T tf62 rfl rfl ⟨rfl, (S.only [0] rfl)⟩
 ·refine cdF T rfl h8 (sq (rg (v3 T rfl rfl rfl fun T => ?_)))
  rcases ifE H with ⟨h9, H⟩ | ⟨h9, H⟩
  ·refine cdT T rfl h9 (sq (rg (v3 T rfl rfl rfl fun T => ?_)))
   obtain rfl := sj H
   exact rtn T tf62 rfl rfl ⟨rfl, (S.only [0] rfl)⟩
  ·refine cdF T rfl h9 (sq (rg (v1 T rfl fun T => rn T rfl tu24 rfl fun _ T => v3 T rfl rfl rfl fun T => v2 T rfl rfl fun T => r_conv T rfl tu34 tu3 rfl fun _ T => v2 T rfl rfl fun T => ?_)))
   rcases ifE H with ⟨h10, H⟩ | ⟨h10, H⟩
   ·refine cdT T rfl h10 (sq (rg (v3 T rfl rfl rfl fun T => ?_)))
    obtain rfl := sj H
    exact rtn T tf62 rfl rfl ⟨rfl, (S.only [0] rfl)⟩
   ·refine cdF T rfl h10 (sk (Gets.inBlock (sq (rg (v1 T rfl fun T => r_conv T rfl tu34 tu3 rfl fun _ T => v3 T rfl rfl rfl fun T => v1 T rfl fun T => ?_)))))
    obtain rfl := sj H
    exact rtn T tf62 rfl rfl ⟨rfl, (S.only [0] rfl)⟩
end c_length
namespace c_TakeFrame
def R (F : List Atom) (x1 : List Int) (A2 : OA) (k3 : Nat) (r : Int × (List Int) × Int × Int) : Ending → World → Prop := fun e w' => ∃ (A18 : OA), ∃ (k19 : Nat), e = .returned (.tuple #[.int .u8 r.1, .slice A18 r.2.1.length k19, .int .i64 r.2.2.1, .int .i64 r.2.2.2]) ∧ SL ([sl .own ku8 A18 k19 r.2.1, sl .ro ku8 A2 k3 x1] ++ F) w'
def f (z : Nat) (x1 : List Int) : Option (Int × (List Int) × Int × Int) := If ((x1.length : Int) == 0) (some (0, ([] : List Int), 0, 10)) (Ck (1 ≤ (x1.length : Int)) (Bd (c_length.f z (cut x1 (Int.toNat 1) (Int.toNat (x1.length : Int))) 4) fun x9 => If (x9.2.2 != 0) (some (0, ([] : List Int), 0, x9.2.2)) (Ck (0 ≤ wr .i64 (x9.2.1 + 1) ∧ wr .i64 (x9.2.1 + 1) ≤ (x1.length : Int)) (Ck (wr .i64 (x9.2.1 + 1) ≤ wr .i64 (x9.2.1 + 5) ∧ wr .i64 (x9.2.1 + 5) ≤ (x1.length : Int)) (Ck (0 ≤ wr .i64 (x9.2.1 + 5) ∧ wr .i64 (x9.2.1 + 5) ≤ wr .i64 ((wr .i64 (x9.2.1 + 5)) + x9.1) ∧ wr .i64 ((wr .i64 (x9.2.1 + 5)) + x9.1) ≤ (x1.length : Int)) (Bd (c_sums.f z (cut x1 (Int.toNat 0) (Int.toNat (wr .i64 (x9.2.1 + 1)))) (cut x1 (Int.toNat (wr .i64 (x9.2.1 + 5))) (Int.toNat (wr .i64 ((wr .i64 (x9.2.1 + 5)) + x9.1))))) fun x12 => Bd (bytes_Equal.f (cut x1 (Int.toNat (wr .i64 (x9.2.1 + 1))) (Int.toNat (wr .i64 (x9.2.1 + 5)))) x12) fun x16 => If (!x16) (some (0, ([] : List Int), 0, 13)) (Ck (0 < (x1.length : Int)) (Bd (bytes_Clone.f (cut x1 (Int.toNat (wr .i64 (x9.2.1 + 5))) (Int.toNat (wr .i64 ((wr .i64 (x9.2.1 + 5)) + x9.1))))) fun x3502 => Bd (slices_Clip_byte.f x3502) fun x3562 => some (gi (0 : Int) x1 0, x3562, wr .i64 ((wr .i64 (x9.2.1 + 5)) + x9.1), 0)))))))))
abbrev y0 (A2 : OA) (k3 : Nat) (x9 : Int × Int × Int) (x1 : List Int) : Value := .slice (slA A2 (Int.toNat (k3 : Int)) (Int.toNat (wr .i64 (x9.2.1 + 5))) 1) ((cut x1 (Int.toNat (wr .i64 (x9.2.1 + 5))) (Int.toNat (wr .i64 ((wr .i64 (x9.2.1 + 5)) + x9.1)))).length) (Int.toNat (k3 : Int) - Int.toNat (wr .i64 (x9.2.1 + 5)))
abbrev y1 (A2 : OA) (k3 : Nat) (x9 : Int × Int × Int) (x1 : List Int) : Atom := sl .ro ku8 (slA A2 (Int.toNat (k3 : Int)) (Int.toNat (wr .i64 (x9.2.1 + 5))) 1) (Int.toNat (k3 : Int) - Int.toNat (wr .i64 (x9.2.1 + 5))) (cut x1 (Int.toNat (wr .i64 (x9.2.1 + 5))) (Int.toNat (wr .i64 ((wr .i64 (x9.2.1 + 5)) + x9.1))))
abbrev y2 (A2 : OA) (k3 : Nat) (x9 : Int × Int × Int) (x1 : List Int) : Value := .slice (slA A2 (Int.toNat (k3 : Int)) (Int.toNat (wr .i64 (x9.2.1 + 1))) 1) ((cut x1 (Int.toNat (wr .i64 (x9.2.1 + 1))) (Int.toNat (wr .i64 (x9.2.1 + 5)))).length) (Int.toNat (k3 : Int) - Int.toNat (wr .i64 (x9.2.1 + 1)))
abbrev y3 (A2 : OA) (k3 : Nat) (x1 : List Int) (x9 : Int × Int × Int) : Value := .slice (slA A2 (Int.toNat (k3 : Int)) (Int.toNat 0) 1) ((cut x1 (Int.toNat 0) (Int.toNat (wr .i64 (x9.2.1 + 1)))).length) (Int.toNat (k3 : Int) - Int.toNat 0)
abbrev y4 (x9 : Int × Int × Int) : Value := .int .i64 (wr .i64 ((wr .i64 (x9.2.1 + 5)) + x9.1))
theorem ok (F : List Atom) (w : World) (z : Nat) (x1 : List Int) {A2 : OA} {k3 : Nat} (S : SL ([sl .ro ku8 A2 k3 x1] ++ F) w) (r : Int × (List Int) × Int × Int) (H : f z x1 = some r) : Calls Try.prog 35 #[.slice A2 x1.length k3] w (R F x1 A2 k3 r) := by
 refine enter (vs := [.slice A2 x1.length k3]) tf35 rfl Try.ntmps35 (nle rfl) fun a T => ?_
 refine sq (rg (v3 T rfl rfl rfl fun T => v1 T rfl fun T => sq (sq (rg (v1 T rfl fun T => rn T rfl tu24 rfl fun _ T => v1 T rfl fun T => ?_)))))
 rcases ifE H with ⟨h4, H⟩ | ⟨h4, H⟩
 ·refine cdT T rfl h4 (sq (rg (v3 T rfl rfl rfl fun T => v1 T rfl fun T => ?_)))
  replace S := S.nil ku8 .own
  obtain rfl := sj H
  exact rtn T tf35 rfl rfl ⟨none, 0, rfl, (S.only [0, 0] rfl)⟩
 ·refine cdF T rfl h4 (sk (sq (rg (v1 T rfl fun T => ?_))))
  have h5 := S.len (i := 0) rfl
  obtain ⟨h6, H⟩ := ck H
  refine r_slR (ix := 0) (xs := x1) T S rfl rfl (fun h => by cases h) rfl rfl rfl (by decide) h6 (Int.le_refl _) (by omega) (by omega) tu24 ts5 rfl fun _ A7 S T => ?_
  obtain ⟨x9, h8, H⟩ := bd H
  refine rc T Try.call62 rfl rfl (c_length.ok _ _ z (cut x1 (Int.toNat 1) (Int.toNat (x1.length : Int))) 4 (S.sel (is := [0]) rfl) _ h8) ?_
  rintro _ _ ⟨rfl, S⟩
  refine ⟨_, rfl, fun _ T => ?_⟩
  replace S := S.join
  refine v3 T rfl rfl rfl fun T => v3 T rfl rfl rfl fun T => v1 T rfl fun T => sq (sq (rg (v2 T rfl rfl fun T => ?_)))
  rcases ifE H with ⟨h10, H⟩ | ⟨h10, H⟩
  ·refine cdT T rfl h10 (sq (rg (v3 T rfl rfl rfl fun T => v2 T rfl rfl fun T => ?_)))
   replace S := S.nil ku8 .own
   obtain rfl := sj H
   exact rtn T tf35 rfl rfl ⟨none, 0, rfl, (S.only [0, 1] rfl)⟩
  ·refine cdF T rfl h10 (sk (sq ?_))
   obtain ⟨h2181, H⟩ := ck H
   replace S := S.cutR (ix := 1) (i := 0) (j := wr .i64 (x9.2.1 + 1)) (k := (k3 : Int)) rfl (Int.le_refl _) h2181.1 h2181.2 (by have := h2181.2; omega) (by omega)
   obtain ⟨h2541, H⟩ := ck H
   replace S := S.cutR (ix := 2) (i := wr .i64 (x9.2.1 + 1)) (j := wr .i64 (x9.2.1 + 5)) (k := (k3 : Int)) rfl h2181.1 h2541.1 h2541.2 (by have := h2541.2; omega) (by omega)
   obtain ⟨h3021, H⟩ := ck H
   replace S := S.cutR (ix := 3) (i := wr .i64 (x9.2.1 + 5)) (j := wr .i64 ((wr .i64 (x9.2.1 + 5)) + x9.1)) (k := (k3 : Int)) rfl h3021.1 h3021.2.1 h3021.2.2 (by have := h3021.2.2; omega) (by omega)
   refine Gets.drawn (l := [(y1 A2 k3 x9 x1), sl .ro ku8 (slA A2 (Int.toNat (k3 : Int)) (Int.toNat (wr .i64 (x9.2.1 + 1))) 1) (Int.toNat (k3 : Int) - Int.toNat (wr .i64 (x9.2.1 + 1))) (cut x1 (Int.toNat (wr .i64 (x9.2.1 + 1))) (Int.toNat (wr .i64 (x9.2.1 + 5)))), sl .ro ku8 (slA A2 (Int.toNat (k3 : Int)) (Int.toNat 0) 1) (Int.toNat (k3 : Int) - Int.toNat 0) (cut x1 (Int.toNat 0) (Int.toNat (wr .i64 (x9.2.1 + 1)))), sl .ro ku8 A2 k3 x1]) (V := [some (.slice A2 x1.length k3, true), some (.int .i64 x9.2.1, true), some (.int .i64 (wr .i64 (x9.2.1 + 1)), true), some ((y3 A2 k3 x1 x9), true), some (.slice A2 x1.length k3, true), some (.int .i64 x9.2.1, true), some (.int .i64 (wr .i64 (x9.2.1 + 1)), true), some (.int .i64 x9.2.1, true), some (.int .i64 (wr .i64 (x9.2.1 + 5)), true), some ((y2 A2 k3 x9 x1), true), some (.slice A2 x1.length k3, true), some (.int .i64 x9.2.1, true), some (.int .i64 (wr .i64 (x9.2.1 + 5)), true), some (.int .i64 x9.2.1, true), some (.int .i64 (wr .i64 (x9.2.1 + 5)), true), some (.int .i64 x9.1, true), some ((y4 x9), true), some ((y0 A2 k3 x9 x1), true), some ((y3 A2 k3 x1 x9), true), some ((y2 A2 k3 x9 x1), true), some ((y0 A2 k3 x9 x1), true)]) mixed T (S.only [0, 0, 0, 1] rfl) rfl ?_
   refine stage none rfl rfl ⟨⟨_, _, rfl, (avl [0] rfl), fun _ _ _ T S => v1 T rfl fun T => ⟨rfl, T⟩⟩, ⟨_, _, rfl, (avl [7] rfl), fun _ _ _ T S => v1 T rfl fun T => ⟨rfl, T⟩⟩, ⟨_, _, rfl, (avl [26] rfl), fun _ _ _ T S => v1 T rfl fun T => ⟨rfl, T⟩⟩, ⟨_, _, rfl, (avl [25, 27] rfl), fun _ _ _ T S => r_slQ (xs := x1) T rfl (fun h => by cases h) rfl rfl rfl (Int.le_refl _) h2181.1 h2181.2 (by have := h2181.2; omega) (by omega) tu24 ts5 rfl fun _ T => ⟨rfl, T⟩⟩, ⟨_, _, rfl, (avl [0] rfl), fun _ _ _ T S => v1 T rfl fun T => ⟨rfl, T⟩⟩, ⟨_, _, rfl, (avl [7] rfl), fun _ _ _ T S => v1 T rfl fun T => ⟨rfl, T⟩⟩, ⟨_, _, rfl, (avl [30] rfl), fun _ _ _ T S => v1 T rfl fun T => ⟨rfl, T⟩⟩, ⟨_, _, rfl, (avl [7] rfl), fun _ _ _ T S => v1 T rfl fun T => ⟨rfl, T⟩⟩, ⟨_, _, rfl, (avl [32] rfl), fun _ _ _ T S => v1 T rfl fun T => ⟨rfl, T⟩⟩, ⟨_, _, rfl, (avl [29, 31, 33] rfl), fun _ _ _ T S => r_slQ (xs := x1) T rfl (fun h => by cases h) rfl rfl rfl h2181.1 h2541.1 h2541.2 (by have := h2541.2; omega) (by omega) tu24 ts5 rfl fun _ T => ⟨rfl, T⟩⟩, ⟨_, _, rfl, (avl [0] rfl), fun _ _ _ T S => v1 T rfl fun T => ⟨rfl, T⟩⟩, ⟨_, _, rfl, (avl [7] rfl), fun _ _ _ T S => v1 T rfl fun T => ⟨rfl, T⟩⟩, ⟨_, _, rfl, (avl [36] rfl), fun _ _ _ T S => v1 T rfl fun T => ⟨rfl, T⟩⟩, ⟨_, _, rfl, (avl [7] rfl), fun _ _ _ T S => v1 T rfl fun T => ⟨rfl, T⟩⟩, ⟨_, _, rfl, (avl [38] rfl), fun _ _ _ T S => v1 T rfl fun T => ⟨rfl, T⟩⟩, ⟨_, _, rfl, (avl [6] rfl), fun _ _ _ T S => v1 T rfl fun T => ⟨rfl, T⟩⟩, ⟨_, _, rfl, (avl [39, 40] rfl), fun _ _ _ T S => v1 T rfl fun T => ⟨rfl, T⟩⟩, ⟨_, _, rfl, (avl [35, 37, 41] rfl), fun _ _ _ T S => r_slQ (xs := x1) T rfl (fun h => by cases h) rfl rfl rfl h3021.1 h3021.2.1 h3021.2.2 (by have := h3021.2.2; omega) (by omega) tu24 ts5 rfl fun _ T => ⟨rfl, T⟩⟩, ⟨_, _, rfl, (avl [28] rfl), fun _ _ _ T S => v1 T rfl fun T => ⟨rfl, T⟩⟩, ⟨_, _, rfl, (avl [34] rfl), fun _ _ _ T S => v1 T rfl fun T => ⟨rfl, T⟩⟩, ⟨_, _, rfl, (avl [42] rfl), fun _ _ _ T S => v1 T rfl fun T => ⟨rfl, T⟩⟩, trivial⟩ rfl (fun i hi => by cases hi) (fun _ _ a w T hv hb S => ?_)
   replace T := T.sub (r := [(0, .slice A2 x1.length k3), (6, .int .i64 x9.1), (7, .int .i64 x9.2.1), (9, (y3 A2 k3 x1 x9)), (10, (y2 A2 k3 x9 x1)), (11, (y0 A2 k3 x9 x1))]) ⟨hb 0 _ rfl rfl, hb 6 _ rfl rfl, hb 7 _ rfl rfl, hv 18 _ 9 rfl rfl rfl, hv 19 _ 10 rfl rfl rfl, hv 20 _ 11 rfl rfl rfl, trivial⟩
   refine sq (sq (rg (v3 T rfl rfl rfl fun T => ?_)))
   obtain ⟨x12, h11, H⟩ := bd H
   refine rc T Try.call63 rfl rfl (c_sums.ok _ _ z (cut x1 (Int.toNat 0) (Int.toNat (wr .i64 (x9.2.1 + 1)))) (cut x1 (Int.toNat (wr .i64 (x9.2.1 + 5))) (Int.toNat (wr .i64 ((wr .i64 (x9.2.1 + 5)) + x9.1)))) (S.sel (is := [2, 0]) rfl) _ h11) ?_
   rintro _ _ ⟨A13, k14, rfl, S⟩
   refine ⟨_, rfl, fun _ T => ?_⟩
   replace S := S.join
   obtain ⟨x16, h15, H⟩ := bd H
   refine rc T tc28 rfl rfl (bytes_Equal.ok _ _ (cut x1 (Int.toNat (wr .i64 (x9.2.1 + 1))) (Int.toNat (wr .i64 (x9.2.1 + 5)))) x12 (S.sel (is := [3, 0]) rfl) _ h15) ?_
   rintro _ _ ⟨rfl, S⟩
   refine ⟨_, rfl, fun _ T => ?_⟩
   replace S := S.join
   refine v1 T rfl fun T => ?_
   rcases ifE H with ⟨h17, H⟩ | ⟨h17, H⟩
   ·refine cdT T rfl h17 (sq (rg (v3 T rfl rfl rfl fun T => v1 T rfl fun T => ?_)))
    replace S := S.nil ku8 .own
    obtain rfl := sj H
    exact rtn T tf35 rfl rfl ⟨none, 0, rfl, (S.only [0, 4] rfl)⟩
   ·refine cdF T rfl h17 (sk (sq ?_))
    obtain ⟨h3321, H⟩ := ck H
    refine Gets.drawn (l := [(y1 A2 k3 x9 x1), sl .ro ku8 A2 k3 x1]) (V := [some (.slice A2 x1.length k3, true), some (.pointer (some (eA A2 (Int.toNat 0 * 1))), true), some (.int .u8 (gi (0 : Int) x1 0), true), some ((y0 A2 k3 x9 x1), true), none, none, some (.int .i64 x9.2.1, true), some (.int .i64 (wr .i64 (x9.2.1 + 5)), true), some (.int .i64 x9.1, true), some ((y4 x9), true), none, none, none, none]) mixed T (S.only [3, 3] rfl) rfl ?_
    refine stage (some 4) rfl rfl ⟨⟨_, _, rfl, (avl [0] rfl), fun _ _ _ T S => v1 T rfl fun T => ⟨rfl, T⟩⟩, ⟨_, _, rfl, (avl [49] rfl), fun _ _ _ T S => r_ia (ix := 1) T S rfl rfl rfl rfl tu24 ts5 (by decide) h3321 rfl fun _ T => ⟨rfl, T⟩⟩, ⟨_, _, rfl, (avl [50] rfl), fun _ _ _ T S => r_ldE (ix := 1) (i := 0) (off := 0) (f := (Value.int .u8)) T S rfl ti5 rfl (0 : Int) _ rfl rfl (Fld.all _) (by decide) h3321 id rfl fun _ T => ⟨rfl, T⟩⟩, ⟨_, _, rfl, (avl [11] rfl), fun _ _ _ T S => v1 T rfl fun T => ⟨rfl, T⟩⟩, ⟨_, _, rfl, (avl [7] rfl), fun _ _ _ T S => v1 T rfl fun T => ⟨rfl, T⟩⟩, ⟨_, _, rfl, (avl [55] rfl), fun _ _ _ T S => v1 T rfl fun T => ⟨rfl, T⟩⟩, ⟨_, _, rfl, (avl [6] rfl), fun _ _ _ T S => v1 T rfl fun T => ⟨rfl, T⟩⟩, ⟨_, _, rfl, (avl [56, 57] rfl), fun _ _ _ T S => v1 T rfl fun T => ⟨rfl, T⟩⟩, trivial⟩ rfl (fun i hi => ?_) (fun h => by cases h)
    cases hi
    refine ⟨rfl, _, _, rfl, (avl [52] rfl), fun u a w T S => ?_⟩
    obtain ⟨x3502, h3501, H⟩ := bd H
    refine rc T tc32 rfl rfl (bytes_Clone.ok _ _ (cut x1 (Int.toNat (wr .i64 (x9.2.1 + 5))) (Int.toNat (wr .i64 ((wr .i64 (x9.2.1 + 5)) + x9.1)))) (S.sel (is := [0]) rfl) _ h3501) ?_
    rintro _ _ ⟨A3503, k3504, rfl, S⟩
    refine ⟨_, rfl, fun _ T => ?_⟩
    replace S := S.join
    refine ⟨_, [some (.slice A2 x1.length k3, true), some (.pointer (some (eA A2 (Int.toNat 0 * 1))), true), some (.int .u8 (gi (0 : Int) x1 0), true), some ((y0 A2 k3 x9 x1), false), some (.slice A3503 x3502.length k3504, false), none, some (.int .i64 x9.2.1, true), some (.int .i64 (wr .i64 (x9.2.1 + 5)), true), some (.int .i64 x9.1, true), some ((y4 x9), true), none, none, none, none], [sl .own ku8 A3503 k3504 x3502, (y1 A2 k3 x9 x1), sl .ro ku8 A2 k3 x1], rfl, (by repeat first | exact kx0 | apply kxs | apply kxn), rfl, ?_, T, S⟩
    refine stage (some 5) rfl rfl ⟨⟨_, _, rfl, (avl [0] rfl), fun _ _ _ T S => v1 T rfl fun T => ⟨rfl, T⟩⟩, ⟨_, _, rfl, (avl [49] rfl), fun _ _ _ T S => r_ia (ix := 2) T S rfl rfl rfl rfl tu24 ts5 (by decide) h3321 rfl fun _ T => ⟨rfl, T⟩⟩, ⟨_, _, rfl, (avl [50] rfl), fun _ _ _ T S => r_ldE (ix := 2) (i := 0) (off := 0) (f := (Value.int .u8)) T S rfl ti5 rfl (0 : Int) _ rfl rfl (Fld.all _) (by decide) h3321 id rfl fun _ T => ⟨rfl, T⟩⟩, ⟨_, _, rfl, (avl [7] rfl), fun _ _ _ T S => v1 T rfl fun T => ⟨rfl, T⟩⟩, ⟨_, _, rfl, (avl [55] rfl), fun _ _ _ T S => v1 T rfl fun T => ⟨rfl, T⟩⟩, ⟨_, _, rfl, (avl [6] rfl), fun _ _ _ T S => v1 T rfl fun T => ⟨rfl, T⟩⟩, ⟨_, _, rfl, (avl [56, 57] rfl), fun _ _ _ T S => v1 T rfl fun T => ⟨rfl, T⟩⟩, trivial⟩ rfl (fun i hi => ?_) (fun h => by cases h)
    cases hi
    refine ⟨rfl, _, _, rfl, (avl [53] rfl), fun u a w T S => ?_⟩
    obtain ⟨x3562, h3561, H⟩ := bd H
    refine rc T tc31 rfl rfl (slices_Clip_byte.ok _ _ x3502 (S.sel (is := [0]) rfl) _ h3561) ?_
    rintro _ _ ⟨A3563, rfl, S⟩
    refine ⟨_, rfl, fun _ T => ?_⟩
    replace S := S.join
    refine ⟨_, [some (.slice A2 x1.length k3, true), some (.pointer (some (eA A2 (Int.toNat 0 * 1))), true), some (.int .u8 (gi (0 : Int) x1 0), true), some ((y0 A2 k3 x9 x1), false), some (.slice A3503 x3502.length k3504, false), some (.slice A3563 x3562.length x3562.length, false), some (.int .i64 x9.2.1, true), some (.int .i64 (wr .i64 (x9.2.1 + 5)), true), some (.int .i64 x9.1, true), some ((y4 x9), true), some (.int .u8 (gi (0 : Int) x1 0), true), some (.slice A3563 x3562.length x3562.length, true), some ((y4 x9), true), some (.int .i64 0, true)], [sl .own ku8 A3563 x3562.length x3562, (y1 A2 k3 x9 x1), sl .ro ku8 A2 k3 x1], rfl, (by repeat first | exact kx0 | apply kxs | apply kxn), rfl, ?_, T, S⟩
    refine stage none rfl rfl ⟨⟨_, _, rfl, (avl [0] rfl), fun _ _ _ T S => v1 T rfl fun T => ⟨rfl, T⟩⟩, ⟨_, _, rfl, (avl [49] rfl), fun _ _ _ T S => r_ia (ix := 2) T S rfl rfl rfl rfl tu24 ts5 (by decide) h3321 rfl fun _ T => ⟨rfl, T⟩⟩, ⟨_, _, rfl, (avl [50] rfl), fun _ _ _ T S => r_ldE (ix := 2) (i := 0) (off := 0) (f := (Value.int .u8)) T S rfl ti5 rfl (0 : Int) _ rfl rfl (Fld.all _) (by decide) h3321 id rfl fun _ T => ⟨rfl, T⟩⟩, ⟨_, _, rfl, (avl [7] rfl), fun _ _ _ T S => v1 T rfl fun T => ⟨rfl, T⟩⟩, ⟨_, _, rfl, (avl [55] rfl), fun _ _ _ T S => v1 T rfl fun T => ⟨rfl, T⟩⟩, ⟨_, _, rfl, (avl [6] rfl), fun _ _ _ T S => v1 T rfl fun T => ⟨rfl, T⟩⟩, ⟨_, _, rfl, (avl [56, 57] rfl), fun _ _ _ T S => v1 T rfl fun T => ⟨rfl, T⟩⟩, ⟨_, _, rfl, (avl [51] rfl), fun _ _ _ T S => v1 T rfl fun T => ⟨rfl, T⟩⟩, ⟨_, _, rfl, (avl [54] rfl), fun _ _ _ T S => v1 T rfl fun T => ⟨rfl, T⟩⟩, ⟨_, _, rfl, (avl [58] rfl), fun _ _ _ T S => v1 T rfl fun T => ⟨rfl, T⟩⟩, ⟨_, [], rfl, trivial, fun _ _ _ T S => v1 T rfl fun T => ⟨rfl, T⟩⟩, trivial⟩ rfl (fun i hi => by cases hi) (fun _ _ a w T hv hb S => ?_)
    replace T := T.sub (r := [(2, .int .u8 (gi (0 : Int) x1 0)), (3, .slice A3563 x3562.length x3562.length), (4, (y4 x9)), (5, .int .i64 0)]) ⟨hv 10 _ 2 rfl rfl rfl, hv 11 _ 3 rfl rfl rfl, hv 12 _ 4 rfl rfl rfl, hv 13 _ 5 rfl rfl rfl, trivial⟩
    obtain rfl := sj H
    exact rtn T tf35 rfl rfl ⟨A3563, x3562.length, rfl, (S.only [0, 1] rfl)⟩
end c_TakeFrame
end Go.Proofs.Ytghpokmkhlmgcaa
