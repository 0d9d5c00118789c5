/- A Go function: the Lean function that it comes to, and the proof. -/
import Derived.Test.YtohelmfkpmphoaaDoorRt2
namespace Go.Proofs.YtohelmfkpmphoaaDoor
open Go Go.Proofs.YtohelmfkpmphoaaDoor.X
set_option linter.unusedVariables false
set_option linter.unusedSimpArgs false
set_option maxRecDepth 100000
set_option maxHeartbeats 4000000
namespace rowkey_rowed
noncomputable def c0 : Code := match Tryd.f24.body with | some c => c | none => .skip
def R (F : List Atom) (x1 : api_Table) (A2 : OA) (k3 : Nat) (A4 : OA) (k5 : Nat) (A6 : OA) (k7 : Nat) (x8 : List api_Value) (A9 : OA) (k10 : Nat) (m11 : Md) (r : Bool) : Ending → World → Prop := fun e w' => e = .returned (.bool r) ∧ SL ([sl .ro kapi_Column A2 k3 x1.Columns, sl .ro ki64 A4 k5 x1.Key, sl .ro kapi_Index A6 k7 x1.Indexes, sl m11 kapi_Value A9 k10 x8] ++ F) w'
def J2 (z : Nat) (q0 : Int → Option Bool) (x1 : api_Table) (x8 : List api_Value) (x14 : Int) : Option Bool := q0 (wr .i64 (x14 + 1))
def J1 (z : Nat) : Option Bool := some false
def L0 (z : Nat) (x1 : api_Table) (x8 : List api_Value) : Nat → Int → Option Bool
 | 0, _ => none
 | m + 1, x14 => If (decide (x14 < (x8.length : Int))) (Ck (0 ≤ x14 ∧ x14 < (x8.length : Int)) (Ck (x14 < (x1.Columns.length : Int)) (Bd (rowkey_fits.f (api_Value.mk ((gi dapi_Value x8 x14).Type') ((gi dapi_Value x8 x14).Null) ((gi dapi_Value x8 x14).Int) ((gi dapi_Value x8 x14).Text)) ((gi dapi_Column x1.Columns x14).Type')) fun x2422 => If (!x2422) (J1 z) (If ((gi dapi_Value x8 x14).Null) (If ((gi dapi_Column x1.Columns x14).NotNull) (J1 z) (J2 z (L0 z x1 x8 m) x1 x8 x14)) (J2 z (L0 z x1 x8 m) x1 x8 x14))))) (some true)
def f (z : Nat) (x1 : api_Table) (x8 : List api_Value) : Option Bool := If ((x8.length : Int) != (x1.Columns.length : Int)) (some false) (L0 z x1 x8 z 0)
noncomputable def ptJ2 : List Item := [.code (cr 3 (cB (cB (cR (cL (cR (cR c0))))))), .inLoop (cB (cB (cR (cL (cR (cR c0)))))), .inBlock 0, .code (cr 3 c0)]
noncomputable def ptJ1 : List Item := [.code (cL (cT (cR (cR (cB (cL (cR (cR (cB (cB (cR (cL (cR (cR c0)))))))))))))), .code (cR (cT (cR (cR (cB (cL (cR (cR (cB (cB (cR (cL (cR (cR c0)))))))))))))), .inBlock 1, .code (cr 3 (cB (cB (cR (cL (cR (cR c0))))))), .inLoop (cB (cB (cR (cL (cR (cR c0)))))), .inBlock 0, .code (cr 3 c0)]
noncomputable def ptL0 : List Item := [.code (cB (cB (cR (cL (cR (cR c0)))))), .inLoop (cB (cB (cR (cL (cR (cR c0)))))), .inBlock 0, .code (cr 3 c0)]
abbrev y0 (b17 : Nat) (x8 : List api_Value) (x14 : Int) (A2 : OA) (k3 : Nat) (x1 : api_Table) (A4 : OA) (k5 : Nat) (A6 : OA) (k7 : Nat) (m11 : Md) (A9 : OA) (k10 b12 : Nat) : List Atom := [blk b17 [.int .i64 ((gi dapi_Value x8 x14).Type'), .bool ((gi dapi_Value x8 x14).Null), .int .i64 ((gi dapi_Value x8 x14).Int), .string ((gi dapi_Value x8 x14).Text)], sl .ro kapi_Column A2 k3 x1.Columns, sl .ro ki64 A4 k5 x1.Key, sl .ro kapi_Index A6 k7 x1.Indexes, sl m11 kapi_Value A9 k10 x8, blk b12 [.int .i64 x1.Id, .string x1.Name, .slice A2 x1.Columns.length k3, .slice A4 x1.Key.length k5, .slice A6 x1.Indexes.length k7]]
abbrev y1 (A2 : OA) (k3 : Nat) (x1 : api_Table) (A4 : OA) (k5 : Nat) (A6 : OA) (k7 : Nat) (m11 : Md) (A9 : OA) (k10 : Nat) (x8 : List api_Value) (b12 : Nat) : List Atom := [sl .ro kapi_Column A2 k3 x1.Columns, sl .ro ki64 A4 k5 x1.Key, sl .ro kapi_Index A6 k7 x1.Indexes, sl m11 kapi_Value A9 k10 x8, blk b12 [.int .i64 x1.Id, .string x1.Name, .slice A2 x1.Columns.length k3, .slice A4 x1.Key.length k5, .slice A6 x1.Indexes.length k7]]
abbrev y2 (x8 : List api_Value) (x14 : Int) : Value := .agg #[.int .i64 ((gi dapi_Value x8 x14).Type'), .bool ((gi dapi_Value x8 x14).Null), .int .i64 ((gi dapi_Value x8 x14).Int), .string ((gi dapi_Value x8 x14).Text)]
abbrev y3 (A2 : OA) (k3 : Nat) (x1 : api_Table) (A4 : OA) (k5 : Nat) (A6 : OA) (k7 : Nat) (m11 : Md) (A9 : OA) (k10 : Nat) (x8 : List api_Value) : List Atom := [sl .ro kapi_Column A2 k3 x1.Columns, sl .ro ki64 A4 k5 x1.Key, sl .ro kapi_Index A6 k7 x1.Indexes, sl m11 kapi_Value A9 k10 x8]
theorem J2_ok (F : List Atom) (r : Bool) (z : Nat) (x1 : api_Table) (A2 : OA) (k3 : Nat) (A4 : OA) (k5 : Nat) (A6 : OA) (k7 : Nat) (x8 : List api_Value) (A9 : OA) (k10 : Nat) (m11 : Md) (b12 : Nat) (x14 : Int) (q0 : Int → Option Bool) (hq0 : ∀ (x14 : Int) (a : Act) (w : World), Tm 42 [(2, .pointer (some ⟨b12, 0, none⟩)), (13, .slice A9 x8.length k10), (14, .int .i64 (x8.length : Int)), (15, .int .i64 x14)] a → SL ((y1 A2 k3 x1 A4 k5 A6 k7 m11 A9 k10 x8 b12) ++ F) w → q0 x14 = some r → Gets Tryd.prog 24 ptL0 a w (R F x1 A2 k3 A4 k5 A6 k7 x8 A9 k10 m11 r)) (a : Act) (w : World) (T : Tm 42 [(2, .pointer (some ⟨b12, 0, none⟩)), (13, .slice A9 x8.length k10), (14, .int .i64 (x8.length : Int)), (15, .int .i64 x14)] a) (S : SL ((y1 A2 k3 x1 A4 k5 A6 k7 m11 A9 k10 x8 b12) ++ F) w) (H : J2 z q0 x1 x8 x14 = some r) : Gets Tryd.prog 24 ptJ2 a w (R F x1 A2 k3 A4 k5 A6 k7 x8 A9 k10 m11 r) := by
 refine rg (r_pv T rfl rfl fun _ T => r_pv T rfl rfl fun _ T => Gets.inLoop ?_)
 exact hq0 (wr .i64 (x14 + 1)) _ _ (T.sub ⟨rfl, rfl, rfl, rfl, trivial⟩) (S.only (p := (y1 A2 k3 x1 A4 k5 A6 k7 m11 A9 k10 x8 b12)) [0, 0, 0, 0, 0] rfl) H
theorem J1_ok (F : List Atom) (r : Bool) (z : Nat) (x1 : api_Table) (A2 : OA) (k3 : Nat) (A4 : OA) (k5 : Nat) (A6 : OA) (k7 : Nat) (x8 : List api_Value) (A9 : OA) (k10 : Nat) (m11 : Md) (a : Act) (w : World) (T : Tm 42 [] a) (S : SL ((y3 A2 k3 x1 A4 k5 A6 k7 m11 A9 k10 x8) ++ F) w) (H : J1 z = some r) : Gets Tryd.prog 24 ptJ1 a w (R F x1 A2 k3 A4 k5 A6 k7 x8 A9 k10 m11 r) := by
 refine rg (r_pv T rfl rfl fun _ T => ?_)
 replace H := Option.some.inj H
 subst H
 exact rtn T Tryd.func24 rfl rfl ⟨rfl, (S.only (p := (y3 A2 k3 x1 A4 k5 A6 k7 m11 A9 k10 x8)) [0, 0, 0, 0] rfl)⟩
theorem L0_ok (F : List Atom) (r : Bool) (z : Nat) (x1 : api_Table) (A2 : OA) (k3 : Nat) (A4 : OA) (k5 : Nat) (A6 : OA) (k7 : Nat) (x8 : List api_Value) (A9 : OA) (k10 : Nat) (m11 : Md) (b12 m : Nat) : ∀ (x14 : Int) (a : Act) (w : World), Tm 42 [(2, .pointer (some ⟨b12, 0, none⟩)), (13, .slice A9 x8.length k10), (14, .int .i64 (x8.length : Int)), (15, .int .i64 x14)] a → SL ((y1 A2 k3 x1 A4 k5 A6 k7 m11 A9 k10 x8 b12) ++ F) w → L0 z x1 x8 m x14 = some r → Gets Tryd.prog 24 ptL0 a w (R F x1 A2 k3 A4 k5 A6 k7 x8 A9 k10 m11 r) := by
 induction m with
 | zero => intro _ _ _ _ _ H; cases H
 | succ m ih =>
  intro x14 a w T S H
  refine Gets.seq (rg (r_pv T rfl rfl fun _ T => Gets.seq ?_))
  rcases ifE H with ⟨h15, H⟩ | ⟨h15, H⟩
  ·refine cdT T rfl h15 ?_
   refine Gets.skip (Gets.seq (Gets.block (Gets.seq ?_)))
   refine rg (r_pv T rfl rfl fun _ T => ?_)
   obtain ⟨h16, H⟩ := ck H
   refine r_ia (ix := 3) T S rfl rfl rfl rfl Tryd.runUnderlying27 Tryd.sizeOf43 h16.1 h16.2 rfl fun _ T => r_ldEP (ix := 3) (i := x14) (off := 0) (f := pf_api_Value) T S rfl rfl Tryd.isAgg43 Tryd.sizeOf43 dapi_Value rfl (Fld.all _) h16.1 h16.2 pl_api_Value rfl fun _ T => r_alloc T S zv43 (cs := [.int .i64 0, .bool false, .int .i64 0, .string (⟨#[]⟩ : ByteArray)]) rfl rfl fun _ _ b17 S T => r_pv T rfl rfl fun _ T => ?_
   refine r_stBA (ix := 0) (vs := [.int .i64 ((gi dapi_Value x8 x14).Type'), .bool ((gi dapi_Value x8 x14).Null), .int .i64 ((gi dapi_Value x8 x14).Int), .string ((gi dapi_Value x8 x14).Text)]) (l' := (y0 b17 x8 x14 A2 k3 x1 A4 k5 A6 k7 m11 A9 k10 b12)) T S rfl rfl rfl rfl (by simp) Tryd.sizeOf43 (Nat.le_of_ble_eq_true rfl) rfl fun _ S => ?_
   refine Gets.seq ?_
   obtain ⟨h2241, H⟩ := ck H
   refine Gets.drawn (l := (y0 b17 x8 x14 A2 k3 x1 A4 k5 A6 k7 m11 A9 k10 b12)) (V := [some ((y2 x8 x14), true), some (.pointer (some ⟨b12, 2, none⟩), true), some (.slice A2 x1.Columns.length k3, true), some (.int .i64 x14, true), some (.pointer (some (eA A2 (Int.toNat x14 * 7))), true), some (.pointer (some (eA A2 (Int.toNat x14 * 7 + 1))), true), some (.int .i64 ((gi dapi_Column x1.Columns x14).Type'), true), none, none, none, none, none, none, none, none, none, none, none, none, none, none]) mixed T S rfl ?_
   refine stage (some 7) rfl rfl ⟨⟨_, _, rfl, (avl [6] rfl), fun _ _ _ T S => r_ldBA (ix := 0) (ds := [.int .i64 ((gi dapi_Value x8 x14).Type'), .bool ((gi dapi_Value x8 x14).Null), .int .i64 ((gi dapi_Value x8 x14).Int), .string ((gi dapi_Value x8 x14).Text)]) T S rfl Tryd.isAgg43 rfl rfl Tryd.sizeOf43 rfl fun _ T => ⟨rfl, T⟩⟩, ⟨_, _, rfl, (avl [2] rfl), fun _ _ _ T S => r_fa (o' := 2) T rfl Tryd.runUnderlying26 rfl Tryd.sizeOf22 rfl rfl fun _ T => ⟨rfl, T⟩⟩, ⟨_, _, rfl, (avl [21] rfl), fun _ _ _ T S => r_ldB (ix := 5) T S rfl Tryd.isAgg22 rfl rfl rfl fun _ T => ⟨rfl, T⟩⟩, ⟨_, _, rfl, (avl [5] rfl), fun _ _ _ T S => r_pv T rfl rfl fun _ T => ⟨rfl, T⟩⟩, ⟨_, _, rfl, (avl [22, 23] rfl), fun _ _ _ T S => r_ia (ix := 1) T S rfl rfl rfl rfl Tryd.runUnderlying22 Tryd.sizeOf72 h16.1 h2241 rfl fun _ T => ⟨rfl, T⟩⟩, ⟨_, _, rfl, (avl [24] rfl), fun _ _ _ T S => r_faE T rfl Tryd.runUnderlying72 rfl Tryd.sizeOf3 rfl fun _ T => ⟨rfl, T⟩⟩, ⟨_, _, rfl, (avl [25] rfl), fun _ _ _ T S => r_ldE (ix := 1) (i := x14) (off := 1) (f := (Value.int .i64)) T S rfl Tryd.isAgg3 rfl dapi_Column _ rfl rfl fld_api_Column_Type' h16.1 h2241 (fun h => h) rfl fun _ T => ⟨rfl, T⟩⟩, trivial⟩ rfl (fun i hi => ?_) (fun h => by cases h)
   cases hi
   refine ⟨rfl, _, _, rfl, (avl [20, 26] rfl), fun u a w T S => ?_⟩
   obtain ⟨x2422, h2421, H⟩ := bd H
   refine r_call T Tryd.call53 rfl rfl (rowkey_fits.ok _ _ (api_Value.mk ((gi dapi_Value x8 x14).Type') ((gi dapi_Value x8 x14).Null) ((gi dapi_Value x8 x14).Int) ((gi dapi_Value x8 x14).Text)) ((gi dapi_Column x1.Columns x14).Type') (S.sel (p := []) (is := []) rfl) _ h2421) ?_
   rintro _ _ ⟨rfl, S⟩
   refine ⟨_, rfl, fun _ T => ?_⟩
   replace S : SL ((y0 b17 x8 x14 A2 k3 x1 A4 k5 A6 k7 m11 A9 k10 b12) ++ F) _ := S.join
   rcases ifE H with ⟨h18, H⟩ | ⟨h18, H⟩
   ·refine ⟨_, [some ((y2 x8 x14), false), some (.pointer (some ⟨b12, 2, none⟩), true), some (.slice A2 x1.Columns.length k3, true), some (.int .i64 x14, true), some (.pointer (some (eA A2 (Int.toNat x14 * 7))), true), some (.pointer (some (eA A2 (Int.toNat x14 * 7 + 1))), true), some (.int .i64 ((gi dapi_Column x1.Columns x14).Type'), false), some (.bool x2422, false), some (.bool (!x2422), true), some (.bool (!x2422), true), some (undef, true), some (undef, true), some (undef, true), some (undef, true), some (undef, true), some (undef, true), some (undef, true), some (undef, true), some (undef, true), some (undef, true), some (.bool true, true)], (y0 b17 x8 x14 A2 k3 x1 A4 k5 A6 k7 m11 A9 k10 b12), rfl, (by repeat first | exact kx0 | apply kxs | apply kxn), rfl, ?_, T, S⟩
    refine stage none rfl rfl ⟨⟨_, _, rfl, (avl [2] rfl), fun _ _ _ T S => r_fa (o' := 2) T rfl Tryd.runUnderlying26 rfl Tryd.sizeOf22 rfl rfl fun _ T => ⟨rfl, T⟩⟩, ⟨_, _, rfl, (avl [21] rfl), fun _ _ _ T S => r_ldB (ix := 5) T S rfl Tryd.isAgg22 rfl rfl rfl fun _ T => ⟨rfl, T⟩⟩, ⟨_, _, rfl, (avl [5] rfl), fun _ _ _ T S => r_pv T rfl rfl fun _ T => ⟨rfl, T⟩⟩, ⟨_, _, rfl, (avl [22, 23] rfl), fun _ _ _ T S => r_ia (ix := 1) T S rfl rfl rfl rfl Tryd.runUnderlying22 Tryd.sizeOf72 h16.1 h2241 rfl fun _ T => ⟨rfl, T⟩⟩, ⟨_, _, rfl, (avl [24] rfl), fun _ _ _ T S => r_faE T rfl Tryd.runUnderlying72 rfl Tryd.sizeOf3 rfl fun _ T => ⟨rfl, T⟩⟩, ⟨_, _, rfl, (avl [27] rfl), fun _ _ _ T S => r_pv T rfl rfl fun _ T => ⟨rfl, T⟩⟩, ⟨_, _, rfl, (avl [28] rfl), fun _ _ _ T S => r_pv T rfl rfl fun _ T => ⟨rfl, T⟩⟩, ⟨_, _, rfl, (avl [6, 29] rfl), fun _ _ _ T S => g_no T rfl rfl h18 rfl fun _ T => ⟨rfl, T⟩⟩, ⟨_, _, rfl, (avl [30, 29] rfl), fun _ _ _ T S => g_no T rfl rfl h18 rfl fun _ T => ⟨rfl, T⟩⟩, ⟨_, _, rfl, (avl [31, 29] rfl), fun _ _ _ T S => g_no T rfl rfl h18 rfl fun _ T => ⟨rfl, T⟩⟩, ⟨_, _, rfl, (avl [2, 32] rfl), fun _ _ _ T S => g_und T rfl rfl rfl fun _ T => ⟨rfl, T⟩⟩, ⟨_, _, rfl, (avl [33, 32] rfl), fun _ _ _ T S => g_und T rfl rfl rfl fun _ T => ⟨rfl, T⟩⟩, ⟨_, _, rfl, (avl [5, 32] rfl), fun _ _ _ T S => g_und T rfl rfl rfl fun _ T => ⟨rfl, T⟩⟩, ⟨_, _, rfl, (avl [34, 35, 32] rfl), fun _ _ _ T S => g_und T rfl rfl rfl fun _ T => ⟨rfl, T⟩⟩, ⟨_, _, rfl, (avl [36, 32] rfl), fun _ _ _ T S => g_und T rfl rfl rfl fun _ T => ⟨rfl, T⟩⟩, ⟨_, _, rfl, (avl [37, 32] rfl), fun _ _ _ T S => g_und T rfl rfl rfl fun _ T => ⟨rfl, T⟩⟩, ⟨_, _, rfl, (avl [32, 38, 29] rfl), fun _ _ _ T S => g_no T rfl rfl h18 rfl fun _ T => ⟨rfl, T⟩⟩, ⟨_, _, rfl, (avl [29, 39] rfl), fun _ _ _ T S => r_pickT T rfl h18 rfl rfl fun _ T => ⟨rfl, T⟩⟩, trivial⟩ rfl (fun i hi => by cases hi) (fun _ _ a w T hv hb S => ?_)
    replace T := T.sub (r := [(2, .pointer (some ⟨b12, 0, none⟩)), (13, .slice A9 x8.length k10), (14, .int .i64 (x8.length : Int)), (15, .int .i64 x14), (40, .bool true)]) ⟨hb 2 _ rfl rfl, hb 13 _ rfl rfl, hb 14 _ rfl rfl, hb 15 _ rfl rfl, hv 20 _ 40 rfl rfl rfl, trivial⟩
    refine cdT T rfl rfl (Gets.seq ?_)
    exact J1_ok F r z x1 A2 k3 A4 k5 A6 k7 x8 A9 k10 m11 _ _ (T.sub trivial) (S.only (p := (y3 A2 k3 x1 A4 k5 A6 k7 m11 A9 k10 x8)) [1, 1, 1, 1] rfl) H
   ·rcases ifE H with ⟨h19, H⟩ | ⟨h19, H⟩
    ·refine ⟨_, [some ((y2 x8 x14), false), some (.pointer (some ⟨b12, 2, none⟩), true), some (.slice A2 x1.Columns.length k3, true), some (.int .i64 x14, true), some (.pointer (some (eA A2 (Int.toNat x14 * 7))), true), some (.pointer (some (eA A2 (Int.toNat x14 * 7 + 1))), true), some (.int .i64 ((gi dapi_Column x1.Columns x14).Type'), false), some (.bool x2422, false), some (.bool (!x2422), true), some (.bool (!x2422), true), some (.pointer (some ⟨b17, 1, none⟩), true), some (.bool ((gi dapi_Value x8 x14).Null), true), some (.bool ((gi dapi_Value x8 x14).Null), true), some (.pointer (some ⟨b12, 2, none⟩), true), some (.slice A2 x1.Columns.length k3, true), some (.int .i64 x14, true), some (.pointer (some (eA A2 (Int.toNat x14 * 7))), true), some (.pointer (some (eA A2 (Int.toNat x14 * 7 + 2))), true), some (.bool ((gi dapi_Column x1.Columns x14).NotNull), true), some (.bool ((gi dapi_Column x1.Columns x14).NotNull), true), some (.bool ((gi dapi_Column x1.Columns x14).NotNull), true)], (y0 b17 x8 x14 A2 k3 x1 A4 k5 A6 k7 m11 A9 k10 b12), rfl, (by repeat first | exact kx0 | apply kxs | apply kxn), rfl, ?_, T, S⟩
     refine stage none rfl rfl ⟨⟨_, _, rfl, (avl [2] rfl), fun _ _ _ T S => r_fa (o' := 2) T rfl Tryd.runUnderlying26 rfl Tryd.sizeOf22 rfl rfl fun _ T => ⟨rfl, T⟩⟩, ⟨_, _, rfl, (avl [21] rfl), fun _ _ _ T S => r_ldB (ix := 5) T S rfl Tryd.isAgg22 rfl rfl rfl fun _ T => ⟨rfl, T⟩⟩, ⟨_, _, rfl, (avl [5] rfl), fun _ _ _ T S => r_pv T rfl rfl fun _ T => ⟨rfl, T⟩⟩, ⟨_, _, rfl, (avl [22, 23] rfl), fun _ _ _ T S => r_ia (ix := 1) T S rfl rfl rfl rfl Tryd.runUnderlying22 Tryd.sizeOf72 h16.1 h2241 rfl fun _ T => ⟨rfl, T⟩⟩, ⟨_, _, rfl, (avl [24] rfl), fun _ _ _ T S => r_faE T rfl Tryd.runUnderlying72 rfl Tryd.sizeOf3 rfl fun _ T => ⟨rfl, T⟩⟩, ⟨_, _, rfl, (avl [27] rfl), fun _ _ _ T S => r_pv T rfl rfl fun _ T => ⟨rfl, T⟩⟩, ⟨_, _, rfl, (avl [28] rfl), fun _ _ _ T S => r_pv T rfl rfl fun _ T => ⟨rfl, T⟩⟩, ⟨_, _, rfl, (avl [6, 29] rfl), fun _ _ _ T S => g_yes T rfl rfl h18 (r_fa (o' := 1) T rfl Tryd.runUnderlying43 rfl Tryd.sizeOf4 rfl rfl fun _ T => ⟨rfl, T⟩)⟩, ⟨_, _, rfl, (avl [30, 29] rfl), fun _ _ _ T S => g_yes T rfl rfl h18 (r_ldB (ix := 0) T S rfl Tryd.isAgg4 rfl rfl rfl fun _ T => ⟨rfl, T⟩)⟩, ⟨_, _, rfl, (avl [31, 29] rfl), fun _ _ _ T S => g_yes T rfl rfl h18 (r_pv T rfl rfl fun _ T => ⟨rfl, T⟩)⟩, ⟨_, _, rfl, (avl [2, 32] rfl), fun _ _ _ T S => g_yes T rfl rfl h19 (r_fa (o' := 2) T rfl Tryd.runUnderlying26 rfl Tryd.sizeOf22 rfl rfl fun _ T => ⟨rfl, T⟩)⟩, ⟨_, _, rfl, (avl [33, 32] rfl), fun _ _ _ T S => g_yes T rfl rfl h19 (r_ldB (ix := 5) T S rfl Tryd.isAgg22 rfl rfl rfl fun _ T => ⟨rfl, T⟩)⟩, ⟨_, _, rfl, (avl [5, 32] rfl), fun _ _ _ T S => g_yes T rfl rfl h19 (r_pv T rfl rfl fun _ T => ⟨rfl, T⟩)⟩, ⟨_, _, rfl, (avl [34, 35, 32] rfl), fun _ _ _ T S => g_yes T rfl rfl h19 (r_ia (ix := 1) T S rfl rfl rfl rfl Tryd.runUnderlying22 Tryd.sizeOf72 h16.1 h2241 rfl fun _ T => ⟨rfl, T⟩)⟩, ⟨_, _, rfl, (avl [36, 32] rfl), fun _ _ _ T S => g_yes T rfl rfl h19 (r_faE T rfl Tryd.runUnderlying72 rfl Tryd.sizeOf4 rfl fun _ T => ⟨rfl, T⟩)⟩, ⟨_, _, rfl, (avl [37, 32] rfl), fun _ _ _ T S => g_yes T rfl rfl h19 (r_ldE (ix := 1) (i := x14) (off := 2) (f := Value.bool) T S rfl Tryd.isAgg4 rfl dapi_Column _ rfl rfl fld_api_Column_NotNull h16.1 h2241 (fun h => h) rfl fun _ T => ⟨rfl, T⟩)⟩, ⟨_, _, rfl, (avl [32, 38, 29] rfl), fun _ _ _ T S => g_yes T rfl rfl h18 (r_pickT T rfl h19 rfl rfl fun _ T => ⟨rfl, T⟩)⟩, ⟨_, _, rfl, (avl [29, 39] rfl), fun _ _ _ T S => r_pickF T rfl h18 rfl rfl fun _ T => ⟨rfl, T⟩⟩, trivial⟩ rfl (fun i hi => by cases hi) (fun _ _ a w T hv hb S => ?_)
     replace T := T.sub (r := [(2, .pointer (some ⟨b12, 0, none⟩)), (13, .slice A9 x8.length k10), (14, .int .i64 (x8.length : Int)), (15, .int .i64 x14), (40, .bool ((gi dapi_Column x1.Columns x14).NotNull))]) ⟨hb 2 _ rfl rfl, hb 13 _ rfl rfl, hb 14 _ rfl rfl, hb 15 _ rfl rfl, hv 20 _ 40 rfl rfl rfl, trivial⟩
     rcases ifE H with ⟨h20, H⟩ | ⟨h20, H⟩
     ·refine cdT T rfl h20 ?_
      refine Gets.seq ?_
      exact J1_ok F r z x1 A2 k3 A4 k5 A6 k7 x8 A9 k10 m11 _ _ (T.sub trivial) (S.only (p := (y3 A2 k3 x1 A4 k5 A6 k7 m11 A9 k10 x8)) [1, 1, 1, 1] rfl) H
     ·refine cdF T rfl h20 ?_
      refine Gets.skip (Gets.inBlock ?_)
      exact J2_ok F r z x1 A2 k3 A4 k5 A6 k7 x8 A9 k10 m11 b12 x14 (L0 z x1 x8 m) ih _ _ (T.sub ⟨rfl, rfl, rfl, rfl, trivial⟩) (S.only (p := (y1 A2 k3 x1 A4 k5 A6 k7 m11 A9 k10 x8 b12)) [1, 1, 1, 1, 1] rfl) H
    ·refine ⟨_, [some ((y2 x8 x14), false), some (.pointer (some ⟨b12, 2, none⟩), true), some (.slice A2 x1.Columns.length k3, true), some (.int .i64 x14, true), some (.pointer (some (eA A2 (Int.toNat x14 * 7))), true), some (.pointer (some (eA A2 (Int.toNat x14 * 7 + 1))), true), some (.int .i64 ((gi dapi_Column x1.Columns x14).Type'), false), some (.bool x2422, false), some (.bool (!x2422), true), some (.bool (!x2422), true), some (.pointer (some ⟨b17, 1, none⟩), true), some (.bool ((gi dapi_Value x8 x14).Null), true), some (.bool ((gi dapi_Value x8 x14).Null), true), some (undef, true), some (undef, true), some (undef, true), some (undef, true), some (undef, true), some (undef, true), some (.bool false, true), some (.bool false, true)], (y0 b17 x8 x14 A2 k3 x1 A4 k5 A6 k7 m11 A9 k10 b12), rfl, (by repeat first | exact kx0 | apply kxs | apply kxn), rfl, ?_, T, S⟩
     refine stage none rfl rfl ⟨⟨_, _, rfl, (avl [2] rfl), fun _ _ _ T S => r_fa (o' := 2) T rfl Tryd.runUnderlying26 rfl Tryd.sizeOf22 rfl rfl fun _ T => ⟨rfl, T⟩⟩, ⟨_, _, rfl, (avl [21] rfl), fun _ _ _ T S => r_ldB (ix := 5) T S rfl Tryd.isAgg22 rfl rfl rfl fun _ T => ⟨rfl, T⟩⟩, ⟨_, _, rfl, (avl [5] rfl), fun _ _ _ T S => r_pv T rfl rfl fun _ T => ⟨rfl, T⟩⟩, ⟨_, _, rfl, (avl [22, 23] rfl), fun _ _ _ T S => r_ia (ix := 1) T S rfl rfl rfl rfl Tryd.runUnderlying22 Tryd.sizeOf72 h16.1 h2241 rfl fun _ T => ⟨rfl, T⟩⟩, ⟨_, _, rfl, (avl [24] rfl), fun _ _ _ T S => r_faE T rfl Tryd.runUnderlying72 rfl Tryd.sizeOf3 rfl fun _ T => ⟨rfl, T⟩⟩, ⟨_, _, rfl, (avl [27] rfl), fun _ _ _ T S => r_pv T rfl rfl fun _ T => ⟨rfl, T⟩⟩, ⟨_, _, rfl, (avl [28] rfl), fun _ _ _ T S => r_pv T rfl rfl fun _ T => ⟨rfl, T⟩⟩, ⟨_, _, rfl, (avl [6, 29] rfl), fun _ _ _ T S => g_yes T rfl rfl h18 (r_fa (o' := 1) T rfl Tryd.runUnderlying43 rfl Tryd.sizeOf4 rfl rfl fun _ T => ⟨rfl, T⟩)⟩, ⟨_, _, rfl, (avl [30, 29] rfl), fun _ _ _ T S => g_yes T rfl rfl h18 (r_ldB (ix := 0) T S rfl Tryd.isAgg4 rfl rfl rfl fun _ T => ⟨rfl, T⟩)⟩, ⟨_, _, rfl, (avl [31, 29] rfl), fun _ _ _ T S => g_yes T rfl rfl h18 (r_pv T rfl rfl fun _ T => ⟨rfl, T⟩)⟩, ⟨_, _, rfl, (avl [2, 32] rfl), fun _ _ _ T S => g_no T rfl rfl h19 rfl fun _ T => ⟨rfl, T⟩⟩, ⟨_, _, rfl, (avl [33, 32] rfl), fun _ _ _ T S => g_no T rfl rfl h19 rfl fun _ T => ⟨rfl, T⟩⟩, ⟨_, _, rfl, (avl [5, 32] rfl), fun _ _ _ T S => g_no T rfl rfl h19 rfl fun _ T => ⟨rfl, T⟩⟩, ⟨_, _, rfl, (avl [34, 35, 32] rfl), fun _ _ _ T S => g_no T rfl rfl h19 rfl fun _ T => ⟨rfl, T⟩⟩, ⟨_, _, rfl, (avl [36, 32] rfl), fun _ _ _ T S => g_no T rfl rfl h19 rfl fun _ T => ⟨rfl, T⟩⟩, ⟨_, _, rfl, (avl [37, 32] rfl), fun _ _ _ T S => g_no T rfl rfl h19 rfl fun _ T => ⟨rfl, T⟩⟩, ⟨_, _, rfl, (avl [32, 38, 29] rfl), fun _ _ _ T S => g_yes T rfl rfl h18 (r_pickF T rfl h19 rfl rfl fun _ T => ⟨rfl, T⟩)⟩, ⟨_, _, rfl, (avl [29, 39] rfl), fun _ _ _ T S => r_pickF T rfl h18 rfl rfl fun _ T => ⟨rfl, T⟩⟩, trivial⟩ rfl (fun i hi => by cases hi) (fun _ _ a w T hv hb S => ?_)
     replace T := T.sub (r := [(2, .pointer (some ⟨b12, 0, none⟩)), (13, .slice A9 x8.length k10), (14, .int .i64 (x8.length : Int)), (15, .int .i64 x14), (40, .bool false)]) ⟨hb 2 _ rfl rfl, hb 13 _ rfl rfl, hb 14 _ rfl rfl, hb 15 _ rfl rfl, hv 20 _ 40 rfl rfl rfl, trivial⟩
     refine cdF T rfl rfl ?_
     refine Gets.skip (Gets.inBlock ?_)
     exact J2_ok F r z x1 A2 k3 A4 k5 A6 k7 x8 A9 k10 m11 b12 x14 (L0 z x1 x8 m) ih _ _ (T.sub ⟨rfl, rfl, rfl, rfl, trivial⟩) (S.only (p := (y1 A2 k3 x1 A4 k5 A6 k7 m11 A9 k10 x8 b12)) [1, 1, 1, 1, 1] rfl) H
  ·refine cdF T rfl h15 ?_
   refine Gets.exit rfl (Gets.seq ?_)
   refine rg (r_pv T rfl rfl fun _ T => ?_)
   replace H := Option.some.inj H
   subst H
   exact rtn T Tryd.func24 rfl rfl ⟨rfl, (S.only (p := (y3 A2 k3 x1 A4 k5 A6 k7 m11 A9 k10 x8)) [0, 0, 0, 0] rfl)⟩
theorem ok (F : List Atom) (w : World) (z : Nat) (x1 : api_Table) (x8 : List api_Value) {A2 : OA} {k3 : Nat} {A4 : OA} {k5 : Nat} {A6 : OA} {k7 : Nat} {A9 : OA} {k10 : Nat} {m11 : Md} (S : SL ((y3 A2 k3 x1 A4 k5 A6 k7 m11 A9 k10 x8) ++ F) w) (r : Bool) (H : f z x1 x8 = some r) : Calls Tryd.prog 24 #[.agg #[.int .i64 x1.Id, .string x1.Name, .slice A2 x1.Columns.length k3, .slice A4 x1.Key.length k5, .slice A6 x1.Indexes.length k7], .slice A9 x8.length k10] w (R F x1 A2 k3 A4 k5 A6 k7 x8 A9 k10 m11 r) := by
 refine enter (vs := [.agg #[.int .i64 x1.Id, .string x1.Name, .slice A2 x1.Columns.length k3, .slice A4 x1.Key.length k5, .slice A6 x1.Indexes.length k7], .slice A9 x8.length k10]) Tryd.func24 rfl Tryd.ntmps24 (Nat.le_of_ble_eq_true rfl) fun a T => ?_
 refine Gets.seq (rg (r_box T S rfl (cs := [.int .i64 x1.Id, .string x1.Name, .slice A2 x1.Columns.length k3, .slice A4 x1.Key.length k5, .slice A6 x1.Indexes.length k7]) rfl rfl fun _ _ b12 S T => r_pv T rfl rfl fun _ T => ?_))
 refine Gets.seq (Gets.seq ?_)
 refine rg (r_pv T rfl rfl fun _ T => r_lenS T rfl Tryd.runUnderlying27 rfl fun _ T => r_fa (o' := 2) T rfl Tryd.runUnderlying26 rfl Tryd.sizeOf22 rfl rfl fun _ T => ?_)
 refine r_ldB (ix := 0) T S rfl Tryd.isAgg22 rfl rfl rfl fun _ T => r_lenS T rfl Tryd.runUnderlying22 rfl fun _ T => r_pv T rfl rfl fun _ T => ?_
 rcases ifE H with ⟨h13, H⟩ | ⟨h13, H⟩
 ·refine cdT T rfl h13 ?_
  refine Gets.seq (rg (r_pv T rfl rfl fun _ T => ?_))
  replace H := Option.some.inj H
  subst H
  exact rtn T Tryd.func24 rfl rfl ⟨rfl, (S.only (p := (y3 A2 k3 x1 A4 k5 A6 k7 m11 A9 k10 x8)) [1, 1, 1, 1] rfl)⟩
 ·refine cdF T rfl h13 ?_
  refine Gets.skip (Gets.seq (Gets.seq ?_))
  refine rg (r_pv T rfl rfl fun _ T => r_lenS T rfl Tryd.runUnderlying27 rfl fun _ T => r_pv T rfl rfl fun _ T => ?_)
  refine Gets.block (Gets.loop ?_)
  exact L0_ok F r z x1 A2 k3 A4 k5 A6 k7 x8 A9 k10 m11 b12 z 0 _ _ (T.sub ⟨rfl, rfl, rfl, rfl, trivial⟩) (S.only (p := (y1 A2 k3 x1 A4 k5 A6 k7 m11 A9 k10 x8 b12)) [1, 1, 1, 1, 0] rfl) H
end rowkey_rowed
end Go.Proofs.YtohelmfkpmphoaaDoor
namespace Go.Proofs.YtohelmfkpmphoaaDoor
open Go Go.Proofs.YtohelmfkpmphoaaDoor.X
set_option linter.unusedVariables false
set_option linter.unusedSimpArgs false
set_option maxRecDepth 100000
set_option maxHeartbeats 4000000
namespace cormorantref18_Unlike
noncomputable def c0 : Code := match Tryd.f46.body with | some c => c | none => .skip
def R (F : List Atom) (x1 : List Int) (A2 : OA) (k3 : Nat) (m4 : Md) (r : Bool) : Ending → World → Prop := fun e w' => e = .returned (.bool r) ∧ SL ([sl m4 ki64 A2 k3 x1] ++ F) w'
def L2 (z : Nat) (q0 : Int → Option Bool) (x1 : List Int) (x5 x6 : Int) : Nat → Int → Option Bool
 | 0, _ => none
 | m + 1, x11 => If (decide (x11 < x6)) (Ck (0 ≤ x11 ∧ x11 < (x1.length : Int)) (Ck (0 ≤ x6 ∧ x6 < (x1.length : Int)) (If ((gi (0 : Int) x1 x11) == (gi (0 : Int) x1 x6)) (some false) (L2 z q0 x1 x5 x6 m (wr .i64 (x11 + 1)))))) (q0 (wr .i64 (x6 + 1)))
def J1 (z : Nat) : Option Bool := some false
def L0 (z : Nat) (x1 : List Int) (x5 : Int) : Nat → Int → Option Bool
 | 0, _ => none
 | m + 1, x6 => If (decide (x6 < (x1.length : Int))) (Ck (0 ≤ x6 ∧ x6 < (x1.length : Int)) (If (decide ((gi (0 : Int) x1 x6) < 0)) (J1 z) (If (decide ((gi (0 : Int) x1 x6) ≥ x5)) (J1 z) (L2 z (L0 z x1 x5 m) x1 x5 x6 z 0)))) (some (decide ((x1.length : Int) > 0)))
def f (z : Nat) (x1 : List Int) (x5 : Int) : Option Bool := L0 z x1 x5 z 0
noncomputable def ptL2 : List Item := [.code (cB (cB (cR (cR (cB (cL (cR (cB (cB (cR (cL (cR c0)))))))))))), .inLoop (cB (cB (cR (cR (cB (cL (cR (cB (cB (cR (cL (cR c0)))))))))))), .inBlock 2, .inBlock 1, .code (cR (cR (cB (cB (cR (cL (cR c0))))))), .inLoop (cB (cB (cR (cL (cR c0))))), .inBlock 0, .code (cR (cR c0))]
noncomputable def ptJ1 : List Item := [.code (cL (cT (cR (cL (cB (cL (cR (cB (cB (cR (cL (cR c0)))))))))))), .code (cR (cT (cR (cL (cB (cL (cR (cB (cB (cR (cL (cR c0)))))))))))), .code (cR (cB (cL (cR (cB (cB (cR (cL (cR c0))))))))), .inBlock 1, .code (cR (cR (cB (cB (cR (cL (cR c0))))))), .inLoop (cB (cB (cR (cL (cR c0))))), .inBlock 0, .code (cR (cR c0))]
noncomputable def ptL0 : List Item := [.code (cB (cB (cR (cL (cR c0))))), .inLoop (cB (cB (cR (cL (cR c0))))), .inBlock 0, .code (cR (cR c0))]
theorem L2_ok (F : List Atom) (r : Bool) (z : Nat) (x1 : List Int) (A2 : OA) (k3 : Nat) (m4 : Md) (x5 x6 : Int) (q0 : Int → Option Bool) (hq0 : ∀ (x6 : Int) (a : Act) (w : World), Tm 43 [(0, .slice A2 x1.length k3), (1, .int .i64 x5), (5, .int .i64 x6)] a → SL ([sl m4 ki64 A2 k3 x1] ++ F) w → q0 x6 = some r → Gets Tryd.prog 46 ptL0 a w (R F x1 A2 k3 m4 r)) (m : Nat) : ∀ (x11 : Int) (a : Act) (w : World), Tm 43 [(0, .slice A2 x1.length k3), (1, .int .i64 x5), (5, .int .i64 x6), (6, .int .i64 x11)] a → SL ([sl m4 ki64 A2 k3 x1] ++ F) w → L2 z q0 x1 x5 x6 m x11 = some r → Gets Tryd.prog 46 ptL2 a w (R F x1 A2 k3 m4 r) := by
 induction m with
 | zero => intro _ _ _ _ _ H; cases H
 | succ m ih =>
  intro x11 a w T S H
  refine Gets.seq (Gets.seq (rg (r_pv T rfl rfl fun _ T => ?_)))
  refine r_pv T rfl rfl fun _ T => r_pv T rfl rfl fun _ T => ?_
  rcases ifE H with ⟨h12, H⟩ | ⟨h12, H⟩
  ·refine cdT T rfl h12 ?_
   refine Gets.skip (Gets.seq (Gets.block (Gets.seq ?_)))
   obtain ⟨h2121, H⟩ := ck H
   obtain ⟨h2361, H⟩ := ck H
   refine Gets.drawn (l := [sl m4 ki64 A2 k3 x1]) (V := [some (.slice A2 x1.length k3, true), some (.int .i64 x11, true), some (.pointer (some (eA A2 (Int.toNat x11 * 1))), true), some (.int .i64 (gi (0 : Int) x1 x11), true), some (.slice A2 x1.length k3, true), some (.int .i64 x6, true), some (.pointer (some (eA A2 (Int.toNat x6 * 1))), true), some (.int .i64 (gi (0 : Int) x1 x6), true), some (.bool ((gi (0 : Int) x1 x11) == (gi (0 : Int) x1 x6)), true)]) mixed T S rfl ?_
   refine stage none rfl rfl ⟨⟨_, _, rfl, (avl [0] rfl), fun _ _ _ T S => r_pv T rfl rfl fun _ T => ⟨rfl, T⟩⟩, ⟨_, _, rfl, (avl [6] rfl), fun _ _ _ T S => r_pv T rfl rfl fun _ T => ⟨rfl, T⟩⟩, ⟨_, _, rfl, (avl [31, 32] rfl), fun _ _ _ T S => r_ia (ix := 0) T S rfl rfl rfl rfl Tryd.runUnderlying23 Tryd.sizeOf3 h2121.1 h2121.2 rfl fun _ T => ⟨rfl, T⟩⟩, ⟨_, _, rfl, (avl [33] rfl), fun _ _ _ T S => r_ldE (ix := 0) (i := x11) (off := 0) (f := (Value.int .i64)) T S rfl Tryd.isAgg3 rfl (0 : Int) _ rfl rfl (Fld.all _) h2121.1 h2121.2 (fun h => h) rfl fun _ T => ⟨rfl, T⟩⟩, ⟨_, _, rfl, (avl [0] rfl), fun _ _ _ T S => r_pv T rfl rfl fun _ T => ⟨rfl, T⟩⟩, ⟨_, _, rfl, (avl [5] rfl), fun _ _ _ T S => r_pv T rfl rfl fun _ T => ⟨rfl, T⟩⟩, ⟨_, _, rfl, (avl [35, 36] rfl), fun _ _ _ T S => r_ia (ix := 0) T S rfl rfl rfl rfl Tryd.runUnderlying23 Tryd.sizeOf3 h2361.1 h2361.2 rfl fun _ T => ⟨rfl, T⟩⟩, ⟨_, _, rfl, (avl [37] rfl), fun _ _ _ T S => r_ldE (ix := 0) (i := x6) (off := 0) (f := (Value.int .i64)) T S rfl Tryd.isAgg3 rfl (0 : Int) _ rfl rfl (Fld.all _) h2361.1 h2361.2 (fun h => h) rfl fun _ T => ⟨rfl, T⟩⟩, ⟨_, _, rfl, (avl [34, 38] rfl), fun _ _ _ T S => r_pv T rfl rfl fun _ T => ⟨rfl, T⟩⟩, trivial⟩ rfl (fun i hi => by cases hi) (fun _ _ a w T hv hb S => ?_)
   replace T := T.sub (r := [(0, .slice A2 x1.length k3), (1, .int .i64 x5), (5, .int .i64 x6), (6, .int .i64 x11), (39, .bool ((gi (0 : Int) x1 x11) == (gi (0 : Int) x1 x6)))]) ⟨hb 0 _ rfl rfl, hb 1 _ rfl rfl, hb 5 _ rfl rfl, hb 6 _ rfl rfl, hv 8 _ 39 rfl rfl rfl, trivial⟩
   rcases ifE H with ⟨h13, H⟩ | ⟨h13, H⟩
   ·refine cdT T rfl h13 ?_
    refine Gets.seq (rg (r_pv T rfl rfl fun _ T => ?_))
    replace H := Option.some.inj H
    subst H
    exact rtn T Tryd.func46 rfl rfl ⟨rfl, (S.only (p := [sl m4 ki64 A2 k3 x1]) [0] rfl)⟩
   ·refine cdF T rfl h13 ?_
    refine Gets.skip (Gets.inBlock ?_)
    refine rg (r_pv T rfl rfl fun _ T => r_pv T rfl rfl fun _ T => r_pv T rfl rfl fun _ T => ?_)
    refine Gets.inLoop ?_
    exact ih (wr .i64 (x11 + 1)) _ _ (T.sub ⟨rfl, rfl, rfl, rfl, trivial⟩) (S.only (p := [sl m4 ki64 A2 k3 x1]) [0] rfl) H
  ·refine cdF T rfl h12 ?_
   refine Gets.exit rfl (Gets.inBlock ?_)
   refine rg (r_pv T rfl rfl fun _ T => r_pv T rfl rfl fun _ T => r_pv T rfl rfl fun _ T => ?_)
   refine Gets.inLoop ?_
   exact hq0 (wr .i64 (x6 + 1)) _ _ (T.sub ⟨rfl, rfl, rfl, trivial⟩) (S.only (p := [sl m4 ki64 A2 k3 x1]) [0] rfl) H
theorem J1_ok (F : List Atom) (r : Bool) (z : Nat) (x1 : List Int) (A2 : OA) (k3 : Nat) (m4 : Md) (x5 : Int) (a : Act) (w : World) (T : Tm 43 [] a) (S : SL ([sl m4 ki64 A2 k3 x1] ++ F) w) (H : J1 z = some r) : Gets Tryd.prog 46 ptJ1 a w (R F x1 A2 k3 m4 r) := by
 refine rg (r_pv T rfl rfl fun _ T => ?_)
 replace H := Option.some.inj H
 subst H
 exact rtn T Tryd.func46 rfl rfl ⟨rfl, (S.only (p := [sl m4 ki64 A2 k3 x1]) [0] rfl)⟩
theorem L0_ok (F : List Atom) (r : Bool) (z : Nat) (x1 : List Int) (A2 : OA) (k3 : Nat) (m4 : Md) (x5 : Int) (m : Nat) : ∀ (x6 : Int) (a : Act) (w : World), Tm 43 [(0, .slice A2 x1.length k3), (1, .int .i64 x5), (5, .int .i64 x6)] a → SL ([sl m4 ki64 A2 k3 x1] ++ F) w → L0 z x1 x5 m x6 = some r → Gets Tryd.prog 46 ptL0 a w (R F x1 A2 k3 m4 r) := by
 induction m with
 | zero => intro _ _ _ _ _ H; cases H
 | succ m ih =>
  intro x6 a w T S H
  refine Gets.seq (Gets.seq (rg (r_pv T rfl rfl fun _ T => ?_)))
  refine r_pv T rfl rfl fun _ T => r_lenS T rfl Tryd.runUnderlying23 rfl fun _ T => r_pv T rfl rfl fun _ T => ?_
  rcases ifE H with ⟨h7, H⟩ | ⟨h7, H⟩
  ·refine cdT T rfl h7 ?_
   refine Gets.skip (Gets.seq (Gets.block (Gets.seq (Gets.seq ?_))))
   refine rg (r_pv T rfl rfl fun _ T => r_pv T rfl rfl fun _ T => ?_)
   obtain ⟨h8, H⟩ := ck H
   refine r_ia (ix := 0) T S rfl rfl rfl rfl Tryd.runUnderlying23 Tryd.sizeOf3 h8.1 h8.2 rfl fun _ T => r_ldE (ix := 0) (i := x6) (off := 0) (f := (Value.int .i64)) T S rfl Tryd.isAgg3 rfl (0 : Int) _ rfl rfl (Fld.all _) h8.1 h8.2 (fun h => h) rfl fun _ T => r_pv T rfl rfl fun _ T => r_pv T rfl rfl fun _ T => ?_
   rcases ifE H with ⟨h9, H⟩ | ⟨h9, H⟩
   ·refine g_no T rfl rfl h9 rfl fun _ T => ?_
    refine g_no T rfl rfl h9 rfl fun _ T => g_no T rfl rfl h9 rfl fun _ T => g_no T rfl rfl h9 rfl fun _ T => g_no T rfl rfl h9 rfl fun _ T => ?_
    refine g_no T rfl rfl h9 rfl fun _ T => r_pickT T rfl h9 rfl rfl fun _ T => cdT T rfl rfl (Gets.seq ?_)
    exact J1_ok F r z x1 A2 k3 m4 x5 _ _ (T.sub trivial) (S.only (p := [sl m4 ki64 A2 k3 x1]) [0] rfl) H
   ·refine g_yes T rfl rfl h9 ?_
    refine r_pv T rfl rfl fun _ T => g_yes T rfl rfl h9 (r_pv T rfl rfl fun _ T => g_yes T rfl rfl h9 ?_)
    refine r_ia (ix := 0) T S rfl rfl rfl rfl Tryd.runUnderlying23 Tryd.sizeOf3 h8.1 h8.2 rfl fun _ T => g_yes T rfl rfl h9 (r_ldE (ix := 0) (i := x6) (off := 0) (f := (Value.int .i64)) T S rfl Tryd.isAgg3 rfl (0 : Int) _ rfl rfl (Fld.all _) h8.1 h8.2 (fun h => h) rfl fun _ T => g_yes T rfl rfl h9 ?_)
    refine r_pv T rfl rfl fun _ T => g_yes T rfl rfl h9 (r_pv T rfl rfl fun _ T => r_pickF T rfl h9 rfl rfl fun _ T => ?_)
    rcases ifE H with ⟨h10, H⟩ | ⟨h10, H⟩
    ·refine cdT T rfl h10 ?_
     refine Gets.seq ?_
     exact J1_ok F r z x1 A2 k3 m4 x5 _ _ (T.sub trivial) (S.only (p := [sl m4 ki64 A2 k3 x1]) [0] rfl) H
    ·refine cdF T rfl h10 ?_
     refine Gets.skip (Gets.seq ?_)
     refine rg (r_pv T rfl rfl fun _ T => Gets.block (Gets.loop ?_))
     exact L2_ok F r z x1 A2 k3 m4 x5 x6 (L0 z x1 x5 m) ih z 0 _ _ (T.sub ⟨rfl, rfl, rfl, rfl, trivial⟩) (S.only (p := [sl m4 ki64 A2 k3 x1]) [0] rfl) H
  ·refine cdF T rfl h7 ?_
   refine Gets.exit rfl (Gets.seq ?_)
   refine rg (r_pv T rfl rfl fun _ T => r_lenS T rfl Tryd.runUnderlying23 rfl fun _ T => r_pv T rfl rfl fun _ T => ?_)
   refine r_pv T rfl rfl fun _ T => ?_
   replace H := Option.some.inj H
   subst H
   exact rtn T Tryd.func46 rfl rfl ⟨rfl, (S.only (p := [sl m4 ki64 A2 k3 x1]) [0] rfl)⟩
theorem ok (F : List Atom) (w : World) (z : Nat) (x1 : List Int) (x5 : Int) {A2 : OA} {k3 : Nat} {m4 : Md} (S : SL ([sl m4 ki64 A2 k3 x1] ++ F) w) (r : Bool) (H : f z x1 x5 = some r) : Calls Tryd.prog 46 #[.slice A2 x1.length k3, .int .i64 x5] w (R F x1 A2 k3 m4 r) := by
 refine enter (vs := [.slice A2 x1.length k3, .int .i64 x5]) Tryd.func46 rfl Tryd.ntmps46 (Nat.le_of_ble_eq_true rfl) fun a T => ?_
 refine Gets.seq (rg (r_pv T rfl rfl fun _ T => ?_))
 refine Gets.seq (Gets.seq ?_)
 refine rg (r_pv T rfl rfl fun _ T => Gets.block (Gets.loop ?_))
 exact L0_ok F r z x1 A2 k3 m4 x5 z 0 _ _ (T.sub ⟨rfl, rfl, rfl, trivial⟩) (S.only (p := [sl m4 ki64 A2 k3 x1]) [0] rfl) H
end cormorantref18_Unlike
end Go.Proofs.YtohelmfkpmphoaaDoor
namespace Go.Proofs.YtohelmfkpmphoaaDoor
open Go Go.Proofs.YtohelmfkpmphoaaDoor.X
set_option linter.unusedVariables false
set_option linter.unusedSimpArgs false
set_option maxRecDepth 100000
set_option maxHeartbeats 4000000
namespace cormorantref20_tableMay
noncomputable def c0 : Code := match Tryd.f17.body with | some c => c | none => .skip
def R (F : List Atom) (x1 : api_Table) (A2 : OA) (k3 : Nat) (A4 : OA) (k5 : Nat) (A6 : OA) (k7 : Nat) (x8 : List Int) (A9 : OA) (k10 : Nat) (m11 : Md) (r : Bool) : Ending → World → Prop := fun e w' => e = .returned (.bool r) ∧ SL ([sl .ro kapi_Column A2 k3 x1.Columns, sl .ro ki64 A4 k5 x1.Key, sl .ro kapi_Index A6 k7 x1.Indexes, sl m11 ki64 A9 k10 x8] ++ F) w'
def J2 (z : Nat) (x22 : Bool) : Option Bool := some x22
def J1 (z : Nat) (x16 x20 : Bool) : Option Bool := If x16 (J2 z x20) (J2 z false)
def J3 (z : Nat) : Option Bool := some false
def L0 (z : Nat) (x1 : api_Table) (x8 : List Int) : Nat → Int → Option Bool
 | 0, _ => none
 | m + 1, x13 => If (decide (x13 < (x1.Columns.length : Int))) (Ck (0 ≤ x13 ∧ x13 < (x1.Columns.length : Int)) (If (decide (((gi dapi_Column x1.Columns x13).Type') < 1)) (J3 z) (If (decide (((gi dapi_Column x1.Columns x13).Type') > 3)) (J3 z) (L0 z x1 x8 m (wr .i64 (x13 + 1)))))) (Bd (cormorantref18_Unlike.f z x1.Key (x1.Columns.length : Int)) fun x16 => If ((x8.length : Int) == 0) (J1 z x16 true) (Bd (cormorantref18_Unlike.f z x8 (x1.Columns.length : Int)) fun x19 => J1 z x16 x19))
def f (z : Nat) (x1 : api_Table) (x8 : List Int) : Option Bool := L0 z x1 x8 z 0
noncomputable def ptJ2 : List Item := [.code (cr 5 c0)]
noncomputable def ptJ1 : List Item := [.code (cL (cr 4 c0)), .code (cr 5 c0)]
noncomputable def ptJ3 : List Item := [.code (cL (cT (cR (cB (cL (cR (cB (cB (cR (cL (cR c0))))))))))), .code (cR (cT (cR (cB (cL (cR (cB (cB (cR (cL (cR c0))))))))))), .inBlock 1, .code (cR (cR (cB (cB (cR (cL (cR c0))))))), .inLoop (cB (cB (cR (cL (cR c0))))), .inBlock 0, .code (cR (cR c0))]
noncomputable def ptL0 : List Item := [.code (cB (cB (cR (cL (cR c0))))), .inLoop (cB (cB (cR (cL (cR c0))))), .inBlock 0, .code (cR (cR c0))]
abbrev y0 (A2 : OA) (k3 : Nat) (x1 : api_Table) (A4 : OA) (k5 : Nat) (A6 : OA) (k7 : Nat) (m11 : Md) (A9 : OA) (k10 : Nat) (x8 : List Int) : List Atom := [sl .ro kapi_Column A2 k3 x1.Columns, sl .ro ki64 A4 k5 x1.Key, sl .ro kapi_Index A6 k7 x1.Indexes, sl m11 ki64 A9 k10 x8]
abbrev y1 (A2 : OA) (k3 : Nat) (x1 : api_Table) (A4 : OA) (k5 : Nat) (A6 : OA) (k7 : Nat) (m11 : Md) (A9 : OA) (k10 : Nat) (x8 : List Int) (b12 : Nat) : List Atom := [sl .ro kapi_Column A2 k3 x1.Columns, sl .ro ki64 A4 k5 x1.Key, sl .ro kapi_Index A6 k7 x1.Indexes, sl m11 ki64 A9 k10 x8, blk b12 [.int .i64 x1.Id, .string x1.Name, .slice A2 x1.Columns.length k3, .slice A4 x1.Key.length k5, .slice A6 x1.Indexes.length k7]]
theorem J2_ok (F : List Atom) (r : Bool) (z : Nat) (x1 : api_Table) (A2 : OA) (k3 : Nat) (A4 : OA) (k5 : Nat) (A6 : OA) (k7 : Nat) (x8 : List Int) (A9 : OA) (k10 : Nat) (m11 : Md) (x22 : Bool) (a : Act) (w : World) (T : Tm 51 [(4, .bool x22)] a) (S : SL ((y0 A2 k3 x1 A4 k5 A6 k7 m11 A9 k10 x8) ++ F) w) (H : J2 z x22 = some r) : Gets Tryd.prog 17 ptJ2 a w (R F x1 A2 k3 A4 k5 A6 k7 x8 A9 k10 m11 r) := by
 replace H := Option.some.inj H
 subst H
 exact rtn T Tryd.func17 rfl rfl ⟨rfl, (S.only (p := (y0 A2 k3 x1 A4 k5 A6 k7 m11 A9 k10 x8)) [0, 0, 0, 0] rfl)⟩
theorem J1_ok (F : List Atom) (r : Bool) (z : Nat) (x1 : api_Table) (A2 : OA) (k3 : Nat) (A4 : OA) (k5 : Nat) (A6 : OA) (k7 : Nat) (x8 : List Int) (A9 : OA) (k10 : Nat) (m11 : Md) (x16 x20 : Bool) (a : Act) (w : World) (T : Tm 51 [(6, .bool x16), (7, .bool x20)] a) (S : SL ((y0 A2 k3 x1 A4 k5 A6 k7 m11 A9 k10 x8) ++ F) w) (H : J1 z x16 x20 = some r) : Gets Tryd.prog 17 ptJ1 a w (R F x1 A2 k3 A4 k5 A6 k7 x8 A9 k10 m11 r) := by
 refine rg (r_pv T rfl rfl fun _ T => r_pv T rfl rfl fun _ T => ?_)
 rcases ifE H with ⟨h21, H⟩ | ⟨h21, H⟩
 ·refine g_yes T rfl rfl h21 ?_
  refine r_pv T rfl rfl fun _ T => r_pickT T rfl h21 rfl rfl fun _ T => r_pv T rfl rfl fun _ T => ?_
  exact J2_ok F r z x1 A2 k3 A4 k5 A6 k7 x8 A9 k10 m11 x20 _ _ (T.sub ⟨rfl, trivial⟩) (S.only (p := (y0 A2 k3 x1 A4 k5 A6 k7 m11 A9 k10 x8)) [0, 0, 0, 0] rfl) H
 ·refine g_no T rfl rfl h21 rfl fun _ T => ?_
  refine r_pickF T rfl h21 rfl rfl fun _ T => r_pv T rfl rfl fun _ T => ?_
  exact J2_ok F r z x1 A2 k3 A4 k5 A6 k7 x8 A9 k10 m11 false _ _ (T.sub ⟨rfl, trivial⟩) (S.only (p := (y0 A2 k3 x1 A4 k5 A6 k7 m11 A9 k10 x8)) [0, 0, 0, 0] rfl) H
theorem J3_ok (F : List Atom) (r : Bool) (z : Nat) (x1 : api_Table) (A2 : OA) (k3 : Nat) (A4 : OA) (k5 : Nat) (A6 : OA) (k7 : Nat) (x8 : List Int) (A9 : OA) (k10 : Nat) (m11 : Md) (a : Act) (w : World) (T : Tm 51 [] a) (S : SL ((y0 A2 k3 x1 A4 k5 A6 k7 m11 A9 k10 x8) ++ F) w) (H : J3 z = some r) : Gets Tryd.prog 17 ptJ3 a w (R F x1 A2 k3 A4 k5 A6 k7 x8 A9 k10 m11 r) := by
 refine rg (r_pv T rfl rfl fun _ T => ?_)
 replace H := Option.some.inj H
 subst H
 exact rtn T Tryd.func17 rfl rfl ⟨rfl, (S.only (p := (y0 A2 k3 x1 A4 k5 A6 k7 m11 A9 k10 x8)) [0, 0, 0, 0] rfl)⟩
theorem L0_ok (F : List Atom) (r : Bool) (z : Nat) (x1 : api_Table) (A2 : OA) (k3 : Nat) (A4 : OA) (k5 : Nat) (A6 : OA) (k7 : Nat) (x8 : List Int) (A9 : OA) (k10 : Nat) (m11 : Md) (b12 m : Nat) : ∀ (x13 : Int) (a : Act) (w : World), Tm 51 [(1, .slice A9 x8.length k10), (2, .pointer (some ⟨b12, 0, none⟩)), (5, .int .i64 x13)] a → SL ((y1 A2 k3 x1 A4 k5 A6 k7 m11 A9 k10 x8 b12) ++ F) w → L0 z x1 x8 m x13 = some r → Gets Tryd.prog 17 ptL0 a w (R F x1 A2 k3 A4 k5 A6 k7 x8 A9 k10 m11 r) := by
 induction m with
 | zero => intro _ _ _ _ _ H; cases H
 | succ m ih =>
  intro x13 a w T S H
  refine Gets.seq (Gets.seq (rg (r_pv T rfl rfl fun _ T => ?_)))
  refine r_fa (o' := 2) T rfl Tryd.runUnderlying26 rfl Tryd.sizeOf22 rfl rfl fun _ T => r_ldB (ix := 4) T S rfl Tryd.isAgg22 rfl rfl rfl fun _ T => r_lenS T rfl Tryd.runUnderlying22 rfl fun _ T => r_pv T rfl rfl fun _ T => ?_
  rcases ifE H with ⟨h14, H⟩ | ⟨h14, H⟩
  ·refine cdT T rfl h14 ?_
   refine Gets.skip (Gets.seq (Gets.block (Gets.seq ?_)))
   refine rg (r_fa (o' := 2) T rfl Tryd.runUnderlying26 rfl Tryd.sizeOf22 rfl rfl fun _ T => r_ldB (ix := 4) T S rfl Tryd.isAgg22 rfl rfl rfl fun _ T => r_pv T rfl rfl fun _ T => ?_)
   obtain ⟨h23, H⟩ := ck H
   refine r_ia (ix := 0) T S rfl rfl rfl rfl Tryd.runUnderlying22 Tryd.sizeOf72 h23.1 h23.2 rfl fun _ T => r_faE T rfl Tryd.runUnderlying72 rfl Tryd.sizeOf3 rfl fun _ T => r_ldE (ix := 0) (i := x13) (off := 1) (f := (Value.int .i64)) T S rfl Tryd.isAgg3 rfl dapi_Column _ rfl rfl fld_api_Column_Type' h23.1 h23.2 (fun h => h) rfl fun _ T => r_pv T rfl rfl fun _ T => ?_
   refine r_pv T rfl rfl fun _ T => ?_
   rcases ifE H with ⟨h24, H⟩ | ⟨h24, H⟩
   ·refine g_no T rfl rfl h24 rfl fun _ T => ?_
    refine g_no T rfl rfl h24 rfl fun _ T => g_no T rfl rfl h24 rfl fun _ T => g_no T rfl rfl h24 rfl fun _ T => g_no T rfl rfl h24 rfl fun _ T => ?_
    refine g_no T rfl rfl h24 rfl fun _ T => g_no T rfl rfl h24 rfl fun _ T => r_pickT T rfl h24 rfl rfl fun _ T => cdT T rfl rfl ?_
    refine Gets.seq ?_
    exact J3_ok F r z x1 A2 k3 A4 k5 A6 k7 x8 A9 k10 m11 _ _ (T.sub trivial) (S.only (p := (y0 A2 k3 x1 A4 k5 A6 k7 m11 A9 k10 x8)) [0, 0, 0, 0] rfl) H
   ·refine g_yes T rfl rfl h24 ?_
    refine r_fa (o' := 2) T rfl Tryd.runUnderlying26 rfl Tryd.sizeOf22 rfl rfl fun _ T => g_yes T rfl rfl h24 (r_ldB (ix := 4) T S rfl Tryd.isAgg22 rfl rfl rfl fun _ T => g_yes T rfl rfl h24 ?_)
    refine r_pv T rfl rfl fun _ T => g_yes T rfl rfl h24 (r_ia (ix := 0) T S rfl rfl rfl rfl Tryd.runUnderlying22 Tryd.sizeOf72 h23.1 h23.2 rfl fun _ T => g_yes T rfl rfl h24 ?_)
    refine r_faE T rfl Tryd.runUnderlying72 rfl Tryd.sizeOf3 rfl fun _ T => g_yes T rfl rfl h24 (r_ldE (ix := 0) (i := x13) (off := 1) (f := (Value.int .i64)) T S rfl Tryd.isAgg3 rfl dapi_Column _ rfl rfl fld_api_Column_Type' h23.1 h23.2 (fun h => h) rfl fun _ T => g_yes T rfl rfl h24 ?_)
    refine r_pv T rfl rfl fun _ T => r_pickF T rfl h24 rfl rfl fun _ T => ?_
    rcases ifE H with ⟨h25, H⟩ | ⟨h25, H⟩
    ·refine cdT T rfl h25 ?_
     refine Gets.seq ?_
     exact J3_ok F r z x1 A2 k3 A4 k5 A6 k7 x8 A9 k10 m11 _ _ (T.sub trivial) (S.only (p := (y0 A2 k3 x1 A4 k5 A6 k7 m11 A9 k10 x8)) [0, 0, 0, 0] rfl) H
    ·refine cdF T rfl h25 ?_
     refine Gets.skip (Gets.inBlock ?_)
     refine rg (r_pv T rfl rfl fun _ T => r_pv T rfl rfl fun _ T => r_pv T rfl rfl fun _ T => ?_)
     refine Gets.inLoop ?_
     exact ih (wr .i64 (x13 + 1)) _ _ (T.sub ⟨rfl, rfl, rfl, trivial⟩) (S.only (p := (y1 A2 k3 x1 A4 k5 A6 k7 m11 A9 k10 x8 b12)) [0, 0, 0, 0, 0] rfl) H
  ·refine cdF T rfl h14 ?_
   refine Gets.exit rfl (Gets.seq ?_)
   refine rg (r_fa (o' := 3) T rfl Tryd.runUnderlying26 rfl Tryd.sizeOf23 rfl rfl fun _ T => r_ldB (ix := 4) T S rfl Tryd.isAgg23 rfl rfl rfl fun _ T => r_fa (o' := 2) T rfl Tryd.runUnderlying26 rfl Tryd.sizeOf22 rfl rfl fun _ T => ?_)
   refine r_ldB (ix := 4) T S rfl Tryd.isAgg22 rfl rfl rfl fun _ T => r_lenS T rfl Tryd.runUnderlying22 rfl fun _ T => ?_
   replace S := S.dup (i := 1) rfl
   obtain ⟨x16, h15, H⟩ := bd H
   refine r_call T Tryd.call46 rfl rfl (cormorantref18_Unlike.ok _ _ z x1.Key (x1.Columns.length : Int) (S.sel (p := [sl .ro ki64 A4 k5 x1.Key]) (is := [0]) rfl) _ h15) ?_
   rintro _ _ ⟨rfl, S⟩
   refine ⟨_, rfl, fun _ T => ?_⟩
   replace S : SL ((y1 A2 k3 x1 A4 k5 A6 k7 m11 A9 k10 x8 b12) ++ F) _ := S.join.only [1, 1, 1, 1, 1] rfl
   refine r_pv T rfl rfl fun _ T => Gets.seq (rg (r_pv T rfl rfl fun _ T => ?_))
   refine r_lenS T rfl Tryd.runUnderlying23 rfl fun _ T => r_pv T rfl rfl fun _ T => r_pv T rfl rfl fun _ T => ?_
   rcases ifE H with ⟨h17, H⟩ | ⟨h17, H⟩
   ·refine g_no T rfl rfl h17 rfl fun _ T => ?_
    refine g_no T rfl rfl h17 rfl fun _ T => g_no T rfl rfl h17 rfl fun _ T => g_no T rfl rfl h17 rfl fun _ T => g_no T rfl rfl h17 rfl fun _ T => ?_
    refine r_pickT T rfl h17 rfl rfl fun _ T => r_pv T rfl rfl fun _ T => Gets.seq ?_
    exact J1_ok F r z x1 A2 k3 A4 k5 A6 k7 x8 A9 k10 m11 x16 true _ _ (T.sub ⟨rfl, rfl, trivial⟩) (S.only (p := (y0 A2 k3 x1 A4 k5 A6 k7 m11 A9 k10 x8)) [0, 0, 0, 0] rfl) H
   ·refine g_yes T rfl rfl h17 ?_
    refine r_pv T rfl rfl fun _ T => g_yes T rfl rfl h17 (r_fa (o' := 2) T rfl Tryd.runUnderlying26 rfl Tryd.sizeOf22 rfl rfl fun _ T => g_yes T rfl rfl h17 ?_)
    refine r_ldB (ix := 4) T S rfl Tryd.isAgg22 rfl rfl rfl fun _ T => g_yes T rfl rfl h17 (r_lenS T rfl Tryd.runUnderlying22 rfl fun _ T => g_yes T rfl rfl h17 ?_)
    obtain ⟨x19, h18, H⟩ := bd H
    refine r_call T Tryd.call46 rfl rfl (cormorantref18_Unlike.ok _ _ z x8 (x1.Columns.length : Int) (S.sel (p := [sl m11 ki64 A9 k10 x8]) (is := [3]) rfl) _ h18) ?_
    rintro _ _ ⟨rfl, S⟩
    refine ⟨_, rfl, fun _ T => ?_⟩
    replace S : SL ([sl m11 ki64 A9 k10 x8, sl .ro kapi_Column A2 k3 x1.Columns, sl .ro ki64 A4 k5 x1.Key, sl .ro kapi_Index A6 k7 x1.Indexes, blk b12 [.int .i64 x1.Id, .string x1.Name, .slice A2 x1.Columns.length k3, .slice A4 x1.Key.length k5, .slice A6 x1.Indexes.length k7]] ++ F) _ := S.join
    refine r_pickF T rfl h17 rfl rfl fun _ T => r_pv T rfl rfl fun _ T => Gets.seq ?_
    exact J1_ok F r z x1 A2 k3 A4 k5 A6 k7 x8 A9 k10 m11 x16 x19 _ _ (T.sub ⟨rfl, rfl, trivial⟩) (S.only (p := (y0 A2 k3 x1 A4 k5 A6 k7 m11 A9 k10 x8)) [1, 1, 1, 0] rfl) H
theorem ok (F : List Atom) (w : World) (z : Nat) (x1 : api_Table) (x8 : List Int) {A2 : OA} {k3 : Nat} {A4 : OA} {k5 : Nat} {A6 : OA} {k7 : Nat} {A9 : OA} {k10 : Nat} {m11 : Md} (S : SL ((y0 A2 k3 x1 A4 k5 A6 k7 m11 A9 k10 x8) ++ F) w) (r : Bool) (H : f z x1 x8 = some r) : Calls Tryd.prog 17 #[.agg #[.int .i64 x1.Id, .string x1.Name, .slice A2 x1.Columns.length k3, .slice A4 x1.Key.length k5, .slice A6 x1.Indexes.length k7], .slice A9 x8.length k10] w (R F x1 A2 k3 A4 k5 A6 k7 x8 A9 k10 m11 r) := by
 refine enter (vs := [.agg #[.int .i64 x1.Id, .string x1.Name, .slice A2 x1.Columns.length k3, .slice A4 x1.Key.length k5, .slice A6 x1.Indexes.length k7], .slice A9 x8.length k10]) Tryd.func17 rfl Tryd.ntmps17 (Nat.le_of_ble_eq_true rfl) fun a T => ?_
 refine Gets.seq (rg (r_box T S rfl (cs := [.int .i64 x1.Id, .string x1.Name, .slice A2 x1.Columns.length k3, .slice A4 x1.Key.length k5, .slice A6 x1.Indexes.length k7]) rfl rfl fun _ _ b12 S T => r_pv T rfl rfl fun _ T => ?_))
 refine Gets.seq (Gets.seq ?_)
 refine rg (r_pv T rfl rfl fun _ T => Gets.block (Gets.loop ?_))
 exact L0_ok F r z x1 A2 k3 A4 k5 A6 k7 x8 A9 k10 m11 b12 z 0 _ _ (T.sub ⟨rfl, rfl, rfl, trivial⟩) (S.only (p := (y1 A2 k3 x1 A4 k5 A6 k7 m11 A9 k10 x8 b12)) [1, 1, 1, 1, 0] rfl) H
end cormorantref20_tableMay
end Go.Proofs.YtohelmfkpmphoaaDoor
namespace Go.Proofs.YtohelmfkpmphoaaDoor
open Go Go.Proofs.YtohelmfkpmphoaaDoor.X
set_option linter.unusedVariables false
set_option linter.unusedSimpArgs false
set_option maxRecDepth 100000
set_option maxHeartbeats 4000000
namespace cormorantref18_has0
noncomputable def c0 : Code := match Tryd.f68.body with | some c => c | none => .skip
def R (F : List Atom) (r : Bool) : Ending → World → Prop := fun e w' => e = .returned (.bool r) ∧ SL ([] ++ F) w'
def L0 (z : Nat) (x1 : ByteArray) : Nat → Int → Option Bool
 | 0, _ => none
 | m + 1, x2 => If (decide (x2 < (x1.size : Int))) (Ck (0 ≤ x2 ∧ x2 < (x1.size : Int)) (If (((x1.data.getD (Int.toNat x2) 0).toNat : Int) == 0) (some true) (L0 z x1 m (wr .i64 (x2 + 1))))) (some false)
def f (z : Nat) (x1 : ByteArray) : Option Bool := L0 z x1 z 0
noncomputable def ptL0 : List Item := [.code (cB (cB (cR (cL (cR c0))))), .inLoop (cB (cB (cR (cL (cR c0))))), .inBlock 0, .code (cR (cR c0))]
theorem L0_ok (F : List Atom) (r : Bool) (z : Nat) (x1 : ByteArray) (m : Nat) : ∀ (x2 : Int) (a : Act) (w : World), Tm 14 [(0, .string x1), (3, .int .i64 x2)] a → SL ([] ++ F) w → L0 z x1 m x2 = some r → Gets Tryd.prog 68 ptL0 a w (R F r) := by
 induction m with
 | zero => intro _ _ _ _ _ H; cases H
 | succ m ih =>
  intro x2 a w T S H
  refine Gets.seq (Gets.seq (rg (r_pv T rfl rfl fun _ T => ?_)))
  refine r_pv T rfl rfl fun _ T => r_lenStr T rfl Tryd.runUnderlying9 rfl fun _ T => r_pv T rfl rfl fun _ T => ?_
  rcases ifE H with ⟨h3, H⟩ | ⟨h3, H⟩
  ·refine cdT T rfl h3 ?_
   refine Gets.skip (Gets.seq (Gets.block (Gets.seq ?_)))
   refine rg (r_pv T rfl rfl fun _ T => r_pv T rfl rfl fun _ T => ?_)
   obtain ⟨h4, H⟩ := ck H
   refine r_ixS T rfl rfl Tryd.runUnderlying9 h4.1 h4.2 rfl fun _ T => r_pv T rfl rfl fun _ T => ?_
   rcases ifE H with ⟨h5, H⟩ | ⟨h5, H⟩
   ·refine cdT T rfl h5 ?_
    refine Gets.seq (rg (r_pv T rfl rfl fun _ T => ?_))
    replace H := Option.some.inj H
    subst H
    exact rtn T Tryd.func68 rfl rfl ⟨rfl, (S.only (p := []) [] rfl)⟩
   ·refine cdF T rfl h5 ?_
    refine Gets.skip (Gets.inBlock ?_)
    refine rg (r_pv T rfl rfl fun _ T => r_pv T rfl rfl fun _ T => r_pv T rfl rfl fun _ T => ?_)
    refine Gets.inLoop ?_
    exact ih (wr .i64 (x2 + 1)) _ _ (T.sub ⟨rfl, rfl, trivial⟩) (S.only (p := []) [] rfl) H
  ·refine cdF T rfl h3 ?_
   refine Gets.exit rfl (Gets.seq ?_)
   refine rg (r_pv T rfl rfl fun _ T => ?_)
   replace H := Option.some.inj H
   subst H
   exact rtn T Tryd.func68 rfl rfl ⟨rfl, (S.only (p := []) [] rfl)⟩
theorem ok (F : List Atom) (w : World) (z : Nat) (x1 : ByteArray) (S : SL ([] ++ F) w) (r : Bool) (H : f z x1 = some r) : Calls Tryd.prog 68 #[.string x1] w (R F r) := by
 refine enter (vs := [.string x1]) Tryd.func68 rfl Tryd.ntmps68 (Nat.le_of_ble_eq_true rfl) fun a T => ?_
 refine Gets.seq (rg (r_pv T rfl rfl fun _ T => ?_))
 refine Gets.seq (Gets.seq ?_)
 refine rg (r_pv T rfl rfl fun _ T => Gets.block (Gets.loop ?_))
 exact L0_ok F r z x1 z 0 _ _ (T.sub ⟨rfl, rfl, trivial⟩) (S.only (p := []) [] rfl) H
end cormorantref18_has0
end Go.Proofs.YtohelmfkpmphoaaDoor
namespace Go.Proofs.YtohelmfkpmphoaaDoor
open Go Go.Proofs.YtohelmfkpmphoaaDoor.X
set_option linter.unusedVariables false
set_option linter.unusedSimpArgs false
set_option maxRecDepth 100000
set_option maxHeartbeats 4000000
namespace cormorantref18_ValueMay
noncomputable def c0 : Code := match Tryd.f47.body with | some c => c | none => .skip
def R (F : List Atom) (r : Bool) : Ending → World → Prop := fun e w' => e = .returned (.bool r) ∧ SL ([] ++ F) w'
def J3 (z : Nat) (x17 : Bool) : Option Bool := some x17
def J2 (z : Nat) (x12 : Bool) : Option Bool := some x12
def J1 (z : Nat) (x7 : Bool) : Option Bool := some x7
def J0 (z : Nat) : Option Bool := some false
def f (z : Nat) (x1 : api_Value) : Option Bool := If (decide (x1.Type' < 1)) (J0 z) (If (decide (x1.Type' > 3)) (J0 z) (If x1.Null (If (x1.Int == 0) (J1 z (x1.Text.toList == (⟨#[]⟩ : ByteArray).toList)) (J1 z false)) (If (x1.Type' == 1) (some (x1.Text.toList == (⟨#[]⟩ : ByteArray).toList)) (If (x1.Type' == 2) (If (x1.Text.toList == (⟨#[]⟩ : ByteArray).toList) (If (x1.Int == 0) (J2 z true) (J2 z (x1.Int == 1))) (J2 z false)) (If (x1.Int == 0) (If (decide ((x1.Text.size : Int) ≤ 65536)) (Bd (cormorantref18_has0.f z x1.Text) fun x16 => J3 z (!x16)) (J3 z false)) (J3 z false))))))
noncomputable def ptJ3 : List Item := [.code (cr 5 c0)]
noncomputable def ptJ2 : List Item := [.code (cR (cT (cR (cE (cR (cB (cR (cL (cr 3 c0))))))))), .inBlock 0, .code (cr 4 c0)]
noncomputable def ptJ1 : List Item := [.code (cR (cT (cR (cL (cR (cR c0)))))), .code (cr 3 c0)]
noncomputable def ptJ0 : List Item := [.code (cL (cT (cR (cL (cR c0))))), .code (cR (cT (cR (cL (cR c0))))), .code (cR (cR c0))]
theorem J3_ok (F : List Atom) (r : Bool) (z : Nat) (x1 : api_Value) (x17 : Bool) (a : Act) (w : World) (T : Tm 58 [(2, .bool x17)] a) (S : SL ([] ++ F) w) (H : J3 z x17 = some r) : Gets Tryd.prog 47 ptJ3 a w (R F r) := by
 replace H := Option.some.inj H
 subst H
 exact rtn T Tryd.func47 rfl rfl ⟨rfl, (S.only (p := []) [] rfl)⟩
theorem J2_ok (F : List Atom) (r : Bool) (z : Nat) (x1 : api_Value) (x12 : Bool) (a : Act) (w : World) (T : Tm 58 [(2, .bool x12)] a) (S : SL ([] ++ F) w) (H : J2 z x12 = some r) : Gets Tryd.prog 47 ptJ2 a w (R F r) := by
 replace H := Option.some.inj H
 subst H
 exact rtn T Tryd.func47 rfl rfl ⟨rfl, (S.only (p := []) [] rfl)⟩
theorem J1_ok (F : List Atom) (r : Bool) (z : Nat) (x1 : api_Value) (x7 : Bool) (a : Act) (w : World) (T : Tm 58 [(2, .bool x7)] a) (S : SL ([] ++ F) w) (H : J1 z x7 = some r) : Gets Tryd.prog 47 ptJ1 a w (R F r) := by
 replace H := Option.some.inj H
 subst H
 exact rtn T Tryd.func47 rfl rfl ⟨rfl, (S.only (p := []) [] rfl)⟩
theorem J0_ok (F : List Atom) (r : Bool) (z : Nat) (x1 : api_Value) (a : Act) (w : World) (T : Tm 58 [] a) (S : SL ([] ++ F) w) (H : J0 z = some r) : Gets Tryd.prog 47 ptJ0 a w (R F r) := by
 refine rg (r_pv T rfl rfl fun _ T => ?_)
 replace H := Option.some.inj H
 subst H
 exact rtn T Tryd.func47 rfl rfl ⟨rfl, (S.only (p := []) [] rfl)⟩
theorem ok (F : List Atom) (w : World) (z : Nat) (x1 : api_Value) (S : SL ([] ++ F) w) (r : Bool) (H : f z x1 = some r) : Calls Tryd.prog 47 #[.agg #[.int .i64 x1.Type', .bool x1.Null, .int .i64 x1.Int, .string x1.Text]] w (R F r) := by
 refine enter (vs := [.agg #[.int .i64 x1.Type', .bool x1.Null, .int .i64 x1.Int, .string x1.Text]]) Tryd.func47 rfl Tryd.ntmps47 (Nat.le_of_ble_eq_true rfl) fun a T => ?_
 refine Gets.seq (rg (r_box T S rfl (cs := [.int .i64 x1.Type', .bool x1.Null, .int .i64 x1.Int, .string x1.Text]) rfl rfl fun _ _ b2 S T => r_pv T rfl rfl fun _ T => ?_))
 refine Gets.seq (Gets.seq ?_)
 refine rg (r_fa (o' := 0) T rfl Tryd.runUnderlying43 rfl Tryd.sizeOf3 rfl rfl fun _ T => r_ldB (ix := 0) T S rfl Tryd.isAgg3 rfl rfl rfl fun _ T => r_pv T rfl rfl fun _ T => ?_)
 refine r_pv T rfl rfl fun _ T => ?_
 rcases ifE H with ⟨h3, H⟩ | ⟨h3, H⟩
 ·refine g_no T rfl rfl h3 rfl fun _ T => ?_
  refine g_no T rfl rfl h3 rfl fun _ T => g_no T rfl rfl h3 rfl fun _ T => r_pickT T rfl h3 rfl rfl fun _ T => cdT T rfl rfl ?_
  refine Gets.seq ?_
  exact J0_ok F r z x1 _ _ (T.sub trivial) (S.only (p := []) [] rfl) H
 ·refine g_yes T rfl rfl h3 ?_
  refine r_fa (o' := 0) T rfl Tryd.runUnderlying43 rfl Tryd.sizeOf3 rfl rfl fun _ T => g_yes T rfl rfl h3 (r_ldB (ix := 0) T S rfl Tryd.isAgg3 rfl rfl rfl fun _ T => g_yes T rfl rfl h3 ?_)
  refine r_pv T rfl rfl fun _ T => r_pickF T rfl h3 rfl rfl fun _ T => ?_
  rcases ifE H with ⟨h4, H⟩ | ⟨h4, H⟩
  ·refine cdT T rfl h4 ?_
   refine Gets.seq ?_
   exact J0_ok F r z x1 _ _ (T.sub trivial) (S.only (p := []) [] rfl) H
  ·refine cdF T rfl h4 ?_
   refine Gets.skip (Gets.seq (Gets.seq ?_))
   refine rg (r_fa (o' := 1) T rfl Tryd.runUnderlying43 rfl Tryd.sizeOf4 rfl rfl fun _ T => r_ldB (ix := 0) T S rfl Tryd.isAgg4 rfl rfl rfl fun _ T => ?_)
   rcases ifE H with ⟨h5, H⟩ | ⟨h5, H⟩
   ·refine cdT T rfl h5 ?_
    refine Gets.seq (rg (r_fa (o' := 2) T rfl Tryd.runUnderlying43 rfl Tryd.sizeOf2 rfl rfl fun _ T => r_ldB (ix := 0) T S rfl Tryd.isAgg2 rfl rfl rfl fun _ T => ?_))
    refine r_pv T rfl rfl fun _ T => r_pv T rfl rfl fun _ T => ?_
    rcases ifE H with ⟨h6, H⟩ | ⟨h6, H⟩
    ·refine g_yes T rfl rfl h6 ?_
     refine r_fa (o' := 3) T rfl Tryd.runUnderlying43 rfl Tryd.sizeOf9 rfl rfl fun _ T => g_yes T rfl rfl h6 (r_ldB (ix := 0) T S rfl Tryd.isAgg9 rfl rfl rfl fun _ T => g_yes T rfl rfl h6 ?_)
     refine r_pv T rfl rfl fun _ T => r_pickT T rfl h6 rfl rfl fun _ T => r_pv T rfl rfl fun _ T => ?_
     exact J1_ok F r z x1 (x1.Text.toList == (⟨#[]⟩ : ByteArray).toList) _ _ (T.sub ⟨rfl, trivial⟩) (S.only (p := []) [] rfl) H
    ·refine g_no T rfl rfl h6 rfl fun _ T => ?_
     refine g_no T rfl rfl h6 rfl fun _ T => g_no T rfl rfl h6 rfl fun _ T => r_pickF T rfl h6 rfl rfl fun _ T => r_pv T rfl rfl fun _ T => ?_
     exact J1_ok F r z x1 false _ _ (T.sub ⟨rfl, trivial⟩) (S.only (p := []) [] rfl) H
   ·refine cdF T rfl h5 ?_
    refine Gets.skip (Gets.seq (Gets.seq ?_))
    refine rg (r_fa (o' := 0) T rfl Tryd.runUnderlying43 rfl Tryd.sizeOf3 rfl rfl fun _ T => r_ldB (ix := 0) T S rfl Tryd.isAgg3 rfl rfl rfl fun _ T => ?_)
    refine Gets.block (Gets.seq ?_)
    refine rg (r_pv T rfl rfl fun _ T => r_pv T rfl rfl fun _ T => ?_)
    rcases ifE H with ⟨h8, H⟩ | ⟨h8, H⟩
    ·refine cdT T rfl h8 ?_
     refine Gets.seq (rg (r_fa (o' := 3) T rfl Tryd.runUnderlying43 rfl Tryd.sizeOf9 rfl rfl fun _ T => r_ldB (ix := 0) T S rfl Tryd.isAgg9 rfl rfl rfl fun _ T => ?_))
     refine r_pv T rfl rfl fun _ T => r_pv T rfl rfl fun _ T => ?_
     replace H := Option.some.inj H
     subst H
     exact rtn T Tryd.func47 rfl rfl ⟨rfl, (S.only (p := []) [] rfl)⟩
    ·refine cdF T rfl h8 ?_
     refine Gets.seq (rg (r_pv T rfl rfl fun _ T => r_pv T rfl rfl fun _ T => ?_))
     rcases ifE H with ⟨h9, H⟩ | ⟨h9, H⟩
     ·refine cdT T rfl h9 ?_
      refine Gets.seq (rg (r_fa (o' := 3) T rfl Tryd.runUnderlying43 rfl Tryd.sizeOf9 rfl rfl fun _ T => r_ldB (ix := 0) T S rfl Tryd.isAgg9 rfl rfl rfl fun _ T => ?_))
      refine r_pv T rfl rfl fun _ T => r_pv T rfl rfl fun _ T => ?_
      rcases ifE H with ⟨h10, H⟩ | ⟨h10, H⟩
      ·refine g_yes T rfl rfl h10 ?_
       refine r_fa (o' := 2) T rfl Tryd.runUnderlying43 rfl Tryd.sizeOf2 rfl rfl fun _ T => g_yes T rfl rfl h10 (r_ldB (ix := 0) T S rfl Tryd.isAgg2 rfl rfl rfl fun _ T => g_yes T rfl rfl h10 ?_)
       refine r_pv T rfl rfl fun _ T => g_yes T rfl rfl h10 (r_pv T rfl rfl fun _ T => ?_)
       rcases ifE H with ⟨h11, H⟩ | ⟨h11, H⟩
       ·refine g_no T rfl rfl h11 rfl fun _ T => ?_
        refine g_no T rfl rfl h11 rfl fun _ T => g_no T rfl rfl h11 rfl fun _ T => g_yes T rfl rfl h10 (r_pickT T rfl h11 rfl rfl fun _ T => ?_)
        refine r_pickT T rfl h10 rfl rfl fun _ T => r_pv T rfl rfl fun _ T => ?_
        exact J2_ok F r z x1 true _ _ (T.sub ⟨rfl, trivial⟩) (S.only (p := []) [] rfl) H
       ·refine g_yes T rfl rfl h11 ?_
        refine r_fa (o' := 2) T rfl Tryd.runUnderlying43 rfl Tryd.sizeOf2 rfl rfl fun _ T => g_yes T rfl rfl h11 (r_ldB (ix := 0) T S rfl Tryd.isAgg2 rfl rfl rfl fun _ T => g_yes T rfl rfl h11 ?_)
        refine r_pv T rfl rfl fun _ T => g_yes T rfl rfl h10 (r_pickF T rfl h11 rfl rfl fun _ T => r_pickT T rfl h10 rfl rfl fun _ T => ?_)
        refine r_pv T rfl rfl fun _ T => ?_
        exact J2_ok F r z x1 (x1.Int == 1) _ _ (T.sub ⟨rfl, trivial⟩) (S.only (p := []) [] rfl) H
      ·refine g_no T rfl rfl h10 rfl fun _ T => ?_
       refine g_no T rfl rfl h10 rfl fun _ T => g_no T rfl rfl h10 rfl fun _ T => g_no T rfl rfl h10 rfl fun _ T => g_und T rfl rfl rfl fun _ T => ?_
       refine g_und T rfl rfl rfl fun _ T => g_und T rfl rfl rfl fun _ T => g_no T rfl rfl h10 rfl fun _ T => r_pickF T rfl h10 rfl rfl fun _ T => ?_
       refine r_pv T rfl rfl fun _ T => ?_
       exact J2_ok F r z x1 false _ _ (T.sub ⟨rfl, trivial⟩) (S.only (p := []) [] rfl) H
     ·refine cdF T rfl h9 ?_
      refine Gets.skip (Gets.inBlock (Gets.seq ?_))
      refine rg (r_fa (o' := 2) T rfl Tryd.runUnderlying43 rfl Tryd.sizeOf2 rfl rfl fun _ T => r_ldB (ix := 0) T S rfl Tryd.isAgg2 rfl rfl rfl fun _ T => r_pv T rfl rfl fun _ T => ?_)
      refine r_pv T rfl rfl fun _ T => ?_
      rcases ifE H with ⟨h13, H⟩ | ⟨h13, H⟩
      ·refine g_yes T rfl rfl h13 ?_
       refine r_fa (o' := 3) T rfl Tryd.runUnderlying43 rfl Tryd.sizeOf9 rfl rfl fun _ T => g_yes T rfl rfl h13 (r_ldB (ix := 0) T S rfl Tryd.isAgg9 rfl rfl rfl fun _ T => g_yes T rfl rfl h13 ?_)
       refine r_lenStr T rfl Tryd.runUnderlying9 rfl fun _ T => g_yes T rfl rfl h13 (r_pv T rfl rfl fun _ T => r_pickT T rfl h13 rfl rfl fun _ T => ?_)
       refine r_pv T rfl rfl fun _ T => ?_
       rcases ifE H with ⟨h14, H⟩ | ⟨h14, H⟩
       ·refine g_yes T rfl rfl h14 ?_
        refine r_fa (o' := 3) T rfl Tryd.runUnderlying43 rfl Tryd.sizeOf9 rfl rfl fun _ T => g_yes T rfl rfl h14 (r_ldB (ix := 0) T S rfl Tryd.isAgg9 rfl rfl rfl fun _ T => g_yes T rfl rfl h14 ?_)
        obtain ⟨x16, h15, H⟩ := bd H
        refine r_call T Tryd.call68 rfl rfl (cormorantref18_has0.ok _ _ z x1.Text (S.sel (p := []) (is := []) rfl) _ h15) ?_
        rintro _ _ ⟨rfl, S⟩
        refine ⟨_, rfl, fun _ T => ?_⟩
        replace S : SL ([blk b2 [.int .i64 x1.Type', .bool x1.Null, .int .i64 x1.Int, .string x1.Text]] ++ F) _ := S.join
        refine g_yes T rfl rfl h14 (r_pv T rfl rfl fun _ T => r_pickT T rfl h14 rfl rfl fun _ T => r_pv T rfl rfl fun _ T => ?_)
        exact J3_ok F r z x1 (!x16) _ _ (T.sub ⟨rfl, trivial⟩) (S.only (p := []) [] rfl) H
       ·refine g_no T rfl rfl h14 rfl fun _ T => ?_
        refine g_no T rfl rfl h14 rfl fun _ T => g_no T rfl rfl h14 rfl fun _ T => g_no T rfl rfl h14 rfl fun _ T => r_pickF T rfl h14 rfl rfl fun _ T => ?_
        refine r_pv T rfl rfl fun _ T => ?_
        exact J3_ok F r z x1 false _ _ (T.sub ⟨rfl, trivial⟩) (S.only (p := []) [] rfl) H
      ·refine g_no T rfl rfl h13 rfl fun _ T => ?_
       refine g_no T rfl rfl h13 rfl fun _ T => g_no T rfl rfl h13 rfl fun _ T => g_no T rfl rfl h13 rfl fun _ T => r_pickF T rfl h13 rfl rfl fun _ T => ?_
       refine r_pv T rfl rfl fun _ T => g_no T rfl rfl rfl rfl fun _ T => g_no T rfl rfl rfl rfl fun _ T => g_no T rfl rfl rfl rfl fun _ T => ?_
       refine g_no T rfl rfl rfl rfl fun _ T => r_pickF T rfl rfl rfl rfl fun _ T => r_pv T rfl rfl fun _ T => ?_
       exact J3_ok F r z x1 false _ _ (T.sub ⟨rfl, trivial⟩) (S.only (p := []) [] rfl) H
end cormorantref18_ValueMay
end Go.Proofs.YtohelmfkpmphoaaDoor
namespace Go.Proofs.YtohelmfkpmphoaaDoor
open Go Go.Proofs.YtohelmfkpmphoaaDoor.X
set_option linter.unusedVariables false
set_option linter.unusedSimpArgs false
set_option maxRecDepth 100000
set_option maxHeartbeats 4000000
namespace cormorantref20_Is
noncomputable def c0 : Code := match Tryd.f18.body with | some c => c | none => .skip
def R (F : List Atom) (x1 : api_Table) (A2 : OA) (k3 : Nat) (A4 : OA) (k5 : Nat) (A6 : OA) (k7 : Nat) (x8 : List api_Value) (A9 : OA) (k10 : Nat) (m11 : Md) (r : Bool) : Ending → World → Prop := fun e w' => e = .returned (.bool r) ∧ SL ([sl .ro kapi_Column A2 k3 x1.Columns, sl .ro ki64 A4 k5 x1.Key, sl .ro kapi_Index A6 k7 x1.Indexes, sl m11 kapi_Value A9 k10 x8] ++ F) w'
def J2 (z : Nat) (q0 : Int → Option Bool) (x1 : api_Table) (x8 : List api_Value) (x14 : Int) : Option Bool := q0 (wr .i64 (x14 + 1))
def J1 (z : Nat) : Option Bool := some false
def L0 (z : Nat) (x1 : api_Table) (x8 : List api_Value) : Nat → Int → Option Bool
 | 0, _ => none
 | m + 1, x14 => If (decide (x14 < (x8.length : Int))) (Ck (0 ≤ x14 ∧ x14 < (x8.length : Int)) (Bd (cormorantref18_ValueMay.f z (gi dapi_Value x8 x14)) fun x18 => If (!x18) (J1 z) (If (((gi dapi_Value x8 x14).Type') != ((gi dapi_Column x1.Columns x14).Type')) (Ck (x14 < (x1.Columns.length : Int)) (J1 z)) (If ((gi dapi_Value x8 x14).Null) (Ck (x14 < (x1.Columns.length : Int)) (If ((gi dapi_Column x1.Columns x14).NotNull) (J1 z) (J2 z (L0 z x1 x8 m) x1 x8 x14))) (Ck (x14 < (x1.Columns.length : Int)) (J2 z (L0 z x1 x8 m) x1 x8 x14)))))) (some true)
def f (z : Nat) (x1 : api_Table) (x8 : List api_Value) : Option Bool := If ((x8.length : Int) != (x1.Columns.length : Int)) (some false) (L0 z x1 x8 z 0)
noncomputable def ptJ2 : List Item := [.code (cR (cR (cB (cB (cR (cL (cR (cR c0)))))))), .inLoop (cB (cB (cR (cL (cR (cR c0)))))), .inBlock 0, .code (cr 3 c0)]
noncomputable def ptJ1 : List Item := [.code (cL (cT (cR (cR (cB (cL (cR (cB (cB (cR (cL (cR (cR c0))))))))))))), .code (cR (cT (cR (cR (cB (cL (cR (cB (cB (cR (cL (cR (cR c0))))))))))))), .inBlock 1, .code (cR (cR (cB (cB (cR (cL (cR (cR c0)))))))), .inLoop (cB (cB (cR (cL (cR (cR c0)))))), .inBlock 0, .code (cr 3 c0)]
noncomputable def ptL0 : List Item := [.code (cB (cB (cR (cL (cR (cR c0)))))), .inLoop (cB (cB (cR (cL (cR (cR c0)))))), .inBlock 0, .code (cr 3 c0)]
abbrev y0 (A2 : OA) (k3 : Nat) (x1 : api_Table) (A4 : OA) (k5 : Nat) (A6 : OA) (k7 : Nat) (m11 : Md) (A9 : OA) (k10 : Nat) (x8 : List api_Value) (b12 : Nat) : List Atom := [sl .ro kapi_Column A2 k3 x1.Columns, sl .ro ki64 A4 k5 x1.Key, sl .ro kapi_Index A6 k7 x1.Indexes, sl m11 kapi_Value A9 k10 x8, blk b12 [.int .i64 x1.Id, .string x1.Name, .slice A2 x1.Columns.length k3, .slice A4 x1.Key.length k5, .slice A6 x1.Indexes.length k7]]
abbrev y1 (x8 : List api_Value) (x14 : Int) (x1 : api_Table) : Option (Value × Bool) := some (.bool (((gi dapi_Value x8 x14).Type') != ((gi dapi_Column x1.Columns x14).Type')), true)
abbrev y2 (A2 : OA) (k3 : Nat) (x1 : api_Table) (A4 : OA) (k5 : Nat) (A6 : OA) (k7 : Nat) (m11 : Md) (A9 : OA) (k10 : Nat) (x8 : List api_Value) : List Atom := [sl .ro kapi_Column A2 k3 x1.Columns, sl .ro ki64 A4 k5 x1.Key, sl .ro kapi_Index A6 k7 x1.Indexes, sl m11 kapi_Value A9 k10 x8]
abbrev y3 (b12 : Nat) : Nat × Value := (2, .pointer (some ⟨b12, 0, none⟩))
theorem J2_ok (F : List Atom) (r : Bool) (z : Nat) (x1 : api_Table) (A2 : OA) (k3 : Nat) (A4 : OA) (k5 : Nat) (A6 : OA) (k7 : Nat) (x8 : List api_Value) (A9 : OA) (k10 : Nat) (m11 : Md) (b12 : Nat) (x14 : Int) (q0 : Int → Option Bool) (hq0 : ∀ (x14 : Int) (a : Act) (w : World), Tm 55 [(1, .slice A9 x8.length k10), (y3 b12), (5, .int .i64 x14)] a → SL ((y0 A2 k3 x1 A4 k5 A6 k7 m11 A9 k10 x8 b12) ++ F) w → q0 x14 = some r → Gets Tryd.prog 18 ptL0 a w (R F x1 A2 k3 A4 k5 A6 k7 x8 A9 k10 m11 r)) (a : Act) (w : World) (T : Tm 55 [(1, .slice A9 x8.length k10), (y3 b12), (5, .int .i64 x14)] a) (S : SL ((y0 A2 k3 x1 A4 k5 A6 k7 m11 A9 k10 x8 b12) ++ F) w) (H : J2 z q0 x1 x8 x14 = some r) : Gets Tryd.prog 18 ptJ2 a w (R F x1 A2 k3 A4 k5 A6 k7 x8 A9 k10 m11 r) := by
 refine rg (r_pv T rfl rfl fun _ T => r_pv T rfl rfl fun _ T => r_pv T rfl rfl fun _ T => ?_)
 refine Gets.inLoop ?_
 exact hq0 (wr .i64 (x14 + 1)) _ _ (T.sub ⟨rfl, rfl, rfl, trivial⟩) (S.only (p := (y0 A2 k3 x1 A4 k5 A6 k7 m11 A9 k10 x8 b12)) [0, 0, 0, 0, 0] rfl) H
theorem J1_ok (F : List Atom) (r : Bool) (z : Nat) (x1 : api_Table) (A2 : OA) (k3 : Nat) (A4 : OA) (k5 : Nat) (A6 : OA) (k7 : Nat) (x8 : List api_Value) (A9 : OA) (k10 : Nat) (m11 : Md) (a : Act) (w : World) (T : Tm 55 [] a) (S : SL ((y2 A2 k3 x1 A4 k5 A6 k7 m11 A9 k10 x8) ++ F) w) (H : J1 z = some r) : Gets Tryd.prog 18 ptJ1 a w (R F x1 A2 k3 A4 k5 A6 k7 x8 A9 k10 m11 r) := by
 refine rg (r_pv T rfl rfl fun _ T => ?_)
 replace H := Option.some.inj H
 subst H
 exact rtn T Tryd.func18 rfl rfl ⟨rfl, (S.only (p := (y2 A2 k3 x1 A4 k5 A6 k7 m11 A9 k10 x8)) [0, 0, 0, 0] rfl)⟩
theorem L0_ok (F : List Atom) (r : Bool) (z : Nat) (x1 : api_Table) (A2 : OA) (k3 : Nat) (A4 : OA) (k5 : Nat) (A6 : OA) (k7 : Nat) (x8 : List api_Value) (A9 : OA) (k10 : Nat) (m11 : Md) (b12 m : Nat) : ∀ (x14 : Int) (a : Act) (w : World), Tm 55 [(1, .slice A9 x8.length k10), (y3 b12), (5, .int .i64 x14)] a → SL ((y0 A2 k3 x1 A4 k5 A6 k7 m11 A9 k10 x8 b12) ++ F) w → L0 z x1 x8 m x14 = some r → Gets Tryd.prog 18 ptL0 a w (R F x1 A2 k3 A4 k5 A6 k7 x8 A9 k10 m11 r) := by
 induction m with
 | zero => intro _ _ _ _ _ H; cases H
 | succ m ih =>
  intro x14 a w T S H
  refine Gets.seq (Gets.seq (rg (r_pv T rfl rfl fun _ T => ?_)))
  refine r_pv T rfl rfl fun _ T => r_lenS T rfl Tryd.runUnderlying27 rfl fun _ T => r_pv T rfl rfl fun _ T => ?_
  rcases ifE H with ⟨h15, H⟩ | ⟨h15, H⟩
  ·refine cdT T rfl h15 ?_
   refine Gets.skip (Gets.seq (Gets.block (Gets.seq ?_)))
   refine rg (r_pv T rfl rfl fun _ T => r_pv T rfl rfl fun _ T => ?_)
   obtain ⟨h16, H⟩ := ck H
   refine r_ia (ix := 3) T S rfl rfl rfl rfl Tryd.runUnderlying27 Tryd.sizeOf43 h16.1 h16.2 rfl fun _ T => r_ldEP (ix := 3) (i := x14) (off := 0) (f := pf_api_Value) T S rfl rfl Tryd.isAgg43 Tryd.sizeOf43 dapi_Value rfl (Fld.all _) h16.1 h16.2 pl_api_Value rfl fun _ T => ?_
   obtain ⟨x18, h17, H⟩ := bd H
   refine r_call T Tryd.call47 rfl rfl (cormorantref18_ValueMay.ok _ _ z (gi dapi_Value x8 x14) (S.sel (p := []) (is := []) rfl) _ h17) ?_
   rintro _ _ ⟨rfl, S⟩
   refine ⟨_, rfl, fun _ T => ?_⟩
   replace S : SL ((y0 A2 k3 x1 A4 k5 A6 k7 m11 A9 k10 x8 b12) ++ F) _ := S.join
   refine r_pv T rfl rfl fun _ T => Gets.seq ?_
   rcases ifE H with ⟨h19, H⟩ | ⟨h19, H⟩
   ·refine Gets.drawn (l := (y0 A2 k3 x1 A4 k5 A6 k7 m11 A9 k10 x8 b12)) (V := [some (.bool x18, true), some (.bool (!x18), true), some (.bool (!x18), true), some (undef, true), some (undef, true), some (undef, true), some (undef, true), some (undef, true), some (undef, true), some (undef, true), some (undef, true), some (undef, true), some (undef, true), some (undef, true), some (undef, true), some (.bool true, true), some (.bool true, true), some (undef, true), some (undef, true), some (undef, true), some (undef, true), some (undef, true), some (undef, true), some (undef, true), some (undef, true), some (undef, true), some (undef, true), some (undef, true), some (undef, true), some (undef, true), some (.bool true, true)]) mixed T S rfl ?_
    refine stage none rfl rfl ⟨⟨_, _, rfl, (avl [6] rfl), fun _ _ _ T S => r_pv T rfl rfl fun _ T => ⟨rfl, T⟩⟩, ⟨_, _, rfl, (avl [24] rfl), fun _ _ _ T S => r_pv T rfl rfl fun _ T => ⟨rfl, T⟩⟩, ⟨_, _, rfl, (avl [25] rfl), fun _ _ _ T S => r_pv T rfl rfl fun _ T => ⟨rfl, T⟩⟩, ⟨_, _, rfl, (avl [1, 26] rfl), fun _ _ _ T S => g_no T rfl rfl h19 rfl fun _ T => ⟨rfl, T⟩⟩, ⟨_, _, rfl, (avl [5, 26] rfl), fun _ _ _ T S => g_no T rfl rfl h19 rfl fun _ T => ⟨rfl, T⟩⟩, ⟨_, _, rfl, (avl [27, 28, 26] rfl), fun _ _ _ T S => g_no T rfl rfl h19 rfl fun _ T => ⟨rfl, T⟩⟩, ⟨_, _, rfl, (avl [29, 26] rfl), fun _ _ _ T S => g_no T rfl rfl h19 rfl fun _ T => ⟨rfl, T⟩⟩, ⟨_, _, rfl, (avl [30, 26] rfl), fun _ _ _ T S => g_no T rfl rfl h19 rfl fun _ T => ⟨rfl, T⟩⟩, ⟨_, _, rfl, (avl [2, 26] rfl), fun _ _ _ T S => g_no T rfl rfl h19 rfl fun _ T => ⟨rfl, T⟩⟩, ⟨_, _, rfl, (avl [32, 26] rfl), fun _ _ _ T S => g_no T rfl rfl h19 rfl fun _ T => ⟨rfl, T⟩⟩, ⟨_, _, rfl, (avl [5, 26] rfl), fun _ _ _ T S => g_no T rfl rfl h19 rfl fun _ T => ⟨rfl, T⟩⟩, ⟨_, _, rfl, (avl [33, 34, 26] rfl), fun _ _ _ T S => g_no T rfl rfl h19 rfl fun _ T => ⟨rfl, T⟩⟩, ⟨_, _, rfl, (avl [35, 26] rfl), fun _ _ _ T S => g_no T rfl rfl h19 rfl fun _ T => ⟨rfl, T⟩⟩, ⟨_, _, rfl, (avl [36, 26] rfl), fun _ _ _ T S => g_no T rfl rfl h19 rfl fun _ T => ⟨rfl, T⟩⟩, ⟨_, _, rfl, (avl [31, 37, 26] rfl), fun _ _ _ T S => g_no T rfl rfl h19 rfl fun _ T => ⟨rfl, T⟩⟩, ⟨_, _, rfl, (avl [26, 38] rfl), fun _ _ _ T S => r_pickT T rfl h19 rfl rfl fun _ T => ⟨rfl, T⟩⟩, ⟨_, _, rfl, (avl [39] rfl), fun _ _ _ T S => r_pv T rfl rfl fun _ T => ⟨rfl, T⟩⟩, ⟨_, _, rfl, (avl [1, 40] rfl), fun _ _ _ T S => g_no T rfl rfl rfl rfl fun _ T => ⟨rfl, T⟩⟩, ⟨_, _, rfl, (avl [5, 40] rfl), fun _ _ _ T S => g_no T rfl rfl rfl rfl fun _ T => ⟨rfl, T⟩⟩, ⟨_, _, rfl, (avl [41, 42, 40] rfl), fun _ _ _ T S => g_no T rfl rfl rfl rfl fun _ T => ⟨rfl, T⟩⟩, ⟨_, _, rfl, (avl [43, 40] rfl), fun _ _ _ T S => g_no T rfl rfl rfl rfl fun _ T => ⟨rfl, T⟩⟩, ⟨_, _, rfl, (avl [44, 40] rfl), fun _ _ _ T S => g_no T rfl rfl rfl rfl fun _ T => ⟨rfl, T⟩⟩, ⟨_, _, rfl, (avl [45, 40] rfl), fun _ _ _ T S => g_no T rfl rfl rfl rfl fun _ T => ⟨rfl, T⟩⟩, ⟨_, _, rfl, (avl [2, 46] rfl), fun _ _ _ T S => g_und T rfl rfl rfl fun _ T => ⟨rfl, T⟩⟩, ⟨_, _, rfl, (avl [47, 46] rfl), fun _ _ _ T S => g_und T rfl rfl rfl fun _ T => ⟨rfl, T⟩⟩, ⟨_, _, rfl, (avl [5, 46] rfl), fun _ _ _ T S => g_und T rfl rfl rfl fun _ T => ⟨rfl, T⟩⟩, ⟨_, _, rfl, (avl [48, 49, 46] rfl), fun _ _ _ T S => g_und T rfl rfl rfl fun _ T => ⟨rfl, T⟩⟩, ⟨_, _, rfl, (avl [50, 46] rfl), fun _ _ _ T S => g_und T rfl rfl rfl fun _ T => ⟨rfl, T⟩⟩, ⟨_, _, rfl, (avl [51, 46] rfl), fun _ _ _ T S => g_und T rfl rfl rfl fun _ T => ⟨rfl, T⟩⟩, ⟨_, _, rfl, (avl [46, 52, 40] rfl), fun _ _ _ T S => g_no T rfl rfl rfl rfl fun _ T => ⟨rfl, T⟩⟩, ⟨_, _, rfl, (avl [40, 53] rfl), fun _ _ _ T S => r_pickT T rfl rfl rfl rfl fun _ T => ⟨rfl, T⟩⟩, trivial⟩ rfl (fun i hi => by cases hi) (fun _ _ a w T hv hb S => ?_)
    replace T := T.sub (r := [(1, .slice A9 x8.length k10), (y3 b12), (5, .int .i64 x14), (54, .bool true)]) ⟨hb 1 _ rfl rfl, hb 2 _ rfl rfl, hb 5 _ rfl rfl, hv 30 _ 54 rfl rfl rfl, trivial⟩
    refine cdT T rfl rfl (Gets.seq ?_)
    exact J1_ok F r z x1 A2 k3 A4 k5 A6 k7 x8 A9 k10 m11 _ _ (T.sub trivial) (S.only (p := (y2 A2 k3 x1 A4 k5 A6 k7 m11 A9 k10 x8)) [0, 0, 0, 0] rfl) H
   ·rcases ifE H with ⟨h20, H⟩ | ⟨h20, H⟩
    ·obtain ⟨h2661, H⟩ := ck H
     refine Gets.drawn (l := (y0 A2 k3 x1 A4 k5 A6 k7 m11 A9 k10 x8 b12)) (V := [some (.bool x18, true), some (.bool (!x18), true), some (.bool (!x18), true), some (.slice A9 x8.length k10, true), some (.int .i64 x14, true), some (.pointer (some (eA A9 (Int.toNat x14 * 4))), true), some (.pointer (some (eA A9 (Int.toNat x14 * 4 + 0))), true), some (.int .i64 ((gi dapi_Value x8 x14).Type'), true), some (.pointer (some ⟨b12, 2, none⟩), true), some (.slice A2 x1.Columns.length k3, true), some (.int .i64 x14, true), some (.pointer (some (eA A2 (Int.toNat x14 * 7))), true), some (.pointer (some (eA A2 (Int.toNat x14 * 7 + 1))), true), some (.int .i64 ((gi dapi_Column x1.Columns x14).Type'), true), (y1 x8 x14 x1), (y1 x8 x14 x1), (y1 x8 x14 x1), some (undef, true), some (undef, true), some (undef, true), some (undef, true), some (undef, true), some (undef, true), some (undef, true), some (undef, true), some (undef, true), some (undef, true), some (undef, true), some (undef, true), some (undef, true), some (.bool true, true)]) mixed T S rfl ?_
     refine stage none rfl rfl ⟨⟨_, _, rfl, (avl [6] rfl), fun _ _ _ T S => r_pv T rfl rfl fun _ T => ⟨rfl, T⟩⟩, ⟨_, _, rfl, (avl [24] rfl), fun _ _ _ T S => r_pv T rfl rfl fun _ T => ⟨rfl, T⟩⟩, ⟨_, _, rfl, (avl [25] rfl), fun _ _ _ T S => r_pv T rfl rfl fun _ T => ⟨rfl, T⟩⟩, ⟨_, _, rfl, (avl [1, 26] rfl), fun _ _ _ T S => g_yes T rfl rfl h19 (r_pv T rfl rfl fun _ T => ⟨rfl, T⟩)⟩, ⟨_, _, rfl, (avl [5, 26] rfl), fun _ _ _ T S => g_yes T rfl rfl h19 (r_pv T rfl rfl fun _ T => ⟨rfl, T⟩)⟩, ⟨_, _, rfl, (avl [27, 28, 26] rfl), fun _ _ _ T S => g_yes T rfl rfl h19 (r_ia (ix := 3) T S rfl rfl rfl rfl Tryd.runUnderlying27 Tryd.sizeOf43 h16.1 h16.2 rfl fun _ T => ⟨rfl, T⟩)⟩, ⟨_, _, rfl, (avl [29, 26] rfl), fun _ _ _ T S => g_yes T rfl rfl h19 (r_faE T rfl Tryd.runUnderlying43 rfl Tryd.sizeOf3 rfl fun _ T => ⟨rfl, T⟩)⟩, ⟨_, _, rfl, (avl [30, 26] rfl), fun _ _ _ T S => g_yes T rfl rfl h19 (r_ldE (ix := 3) (i := x14) (off := 0) (f := (Value.int .i64)) T S rfl Tryd.isAgg3 rfl dapi_Value _ rfl rfl fld_api_Value_Type' h16.1 h16.2 (fun h => h) rfl fun _ T => ⟨rfl, T⟩)⟩, ⟨_, _, rfl, (avl [2, 26] rfl), fun _ _ _ T S => g_yes T rfl rfl h19 (r_fa (o' := 2) T rfl Tryd.runUnderlying26 rfl Tryd.sizeOf22 rfl rfl fun _ T => ⟨rfl, T⟩)⟩, ⟨_, _, rfl, (avl [32, 26] rfl), fun _ _ _ T S => g_yes T rfl rfl h19 (r_ldB (ix := 4) T S rfl Tryd.isAgg22 rfl rfl rfl fun _ T => ⟨rfl, T⟩)⟩, ⟨_, _, rfl, (avl [5, 26] rfl), fun _ _ _ T S => g_yes T rfl rfl h19 (r_pv T rfl rfl fun _ T => ⟨rfl, T⟩)⟩, ⟨_, _, rfl, (avl [33, 34, 26] rfl), fun _ _ _ T S => g_yes T rfl rfl h19 (r_ia (ix := 0) T S rfl rfl rfl rfl Tryd.runUnderlying22 Tryd.sizeOf72 h16.1 h2661 rfl fun _ T => ⟨rfl, T⟩)⟩, ⟨_, _, rfl, (avl [35, 26] rfl), fun _ _ _ T S => g_yes T rfl rfl h19 (r_faE T rfl Tryd.runUnderlying72 rfl Tryd.sizeOf3 rfl fun _ T => ⟨rfl, T⟩)⟩, ⟨_, _, rfl, (avl [36, 26] rfl), fun _ _ _ T S => g_yes T rfl rfl h19 (r_ldE (ix := 0) (i := x14) (off := 1) (f := (Value.int .i64)) T S rfl Tryd.isAgg3 rfl dapi_Column _ rfl rfl fld_api_Column_Type' h16.1 h2661 (fun h => h) rfl fun _ T => ⟨rfl, T⟩)⟩, ⟨_, _, rfl, (avl [31, 37, 26] rfl), fun _ _ _ T S => g_yes T rfl rfl h19 (r_pv T rfl rfl fun _ T => ⟨rfl, T⟩)⟩, ⟨_, _, rfl, (avl [26, 38] rfl), fun _ _ _ T S => r_pickF T rfl h19 rfl rfl fun _ T => ⟨rfl, T⟩⟩, ⟨_, _, rfl, (avl [39] rfl), fun _ _ _ T S => r_pv T rfl rfl fun _ T => ⟨rfl, T⟩⟩, ⟨_, _, rfl, (avl [1, 40] rfl), fun _ _ _ T S => g_no T rfl rfl h20 rfl fun _ T => ⟨rfl, T⟩⟩, ⟨_, _, rfl, (avl [5, 40] rfl), fun _ _ _ T S => g_no T rfl rfl h20 rfl fun _ T => ⟨rfl, T⟩⟩, ⟨_, _, rfl, (avl [41, 42, 40] rfl), fun _ _ _ T S => g_no T rfl rfl h20 rfl fun _ T => ⟨rfl, T⟩⟩, ⟨_, _, rfl, (avl [43, 40] rfl), fun _ _ _ T S => g_no T rfl rfl h20 rfl fun _ T => ⟨rfl, T⟩⟩, ⟨_, _, rfl, (avl [44, 40] rfl), fun _ _ _ T S => g_no T rfl rfl h20 rfl fun _ T => ⟨rfl, T⟩⟩, ⟨_, _, rfl, (avl [45, 40] rfl), fun _ _ _ T S => g_no T rfl rfl h20 rfl fun _ T => ⟨rfl, T⟩⟩, ⟨_, _, rfl, (avl [2, 46] rfl), fun _ _ _ T S => g_und T rfl rfl rfl fun _ T => ⟨rfl, T⟩⟩, ⟨_, _, rfl, (avl [47, 46] rfl), fun _ _ _ T S => g_und T rfl rfl rfl fun _ T => ⟨rfl, T⟩⟩, ⟨_, _, rfl, (avl [5, 46] rfl), fun _ _ _ T S => g_und T rfl rfl rfl fun _ T => ⟨rfl, T⟩⟩, ⟨_, _, rfl, (avl [48, 49, 46] rfl), fun _ _ _ T S => g_und T rfl rfl rfl fun _ T => ⟨rfl, T⟩⟩, ⟨_, _, rfl, (avl [50, 46] rfl), fun _ _ _ T S => g_und T rfl rfl rfl fun _ T => ⟨rfl, T⟩⟩, ⟨_, _, rfl, (avl [51, 46] rfl), fun _ _ _ T S => g_und T rfl rfl rfl fun _ T => ⟨rfl, T⟩⟩, ⟨_, _, rfl, (avl [46, 52, 40] rfl), fun _ _ _ T S => g_no T rfl rfl h20 rfl fun _ T => ⟨rfl, T⟩⟩, ⟨_, _, rfl, (avl [40, 53] rfl), fun _ _ _ T S => r_pickT T rfl h20 rfl rfl fun _ T => ⟨rfl, T⟩⟩, trivial⟩ rfl (fun i hi => by cases hi) (fun _ _ a w T hv hb S => ?_)
     replace T := T.sub (r := [(1, .slice A9 x8.length k10), (y3 b12), (5, .int .i64 x14), (54, .bool true)]) ⟨hb 1 _ rfl rfl, hb 2 _ rfl rfl, hb 5 _ rfl rfl, hv 30 _ 54 rfl rfl rfl, trivial⟩
     refine cdT T rfl rfl (Gets.seq ?_)
     exact J1_ok F r z x1 A2 k3 A4 k5 A6 k7 x8 A9 k10 m11 _ _ (T.sub trivial) (S.only (p := (y2 A2 k3 x1 A4 k5 A6 k7 m11 A9 k10 x8)) [0, 0, 0, 0] rfl) H
    ·rcases ifE H with ⟨h21, H⟩ | ⟨h21, H⟩
     ·obtain ⟨h2661, H⟩ := ck H
      refine Gets.drawn (l := (y0 A2 k3 x1 A4 k5 A6 k7 m11 A9 k10 x8 b12)) (V := [some (.bool x18, true), some (.bool (!x18), true), some (.bool (!x18), true), some (.slice A9 x8.length k10, true), some (.int .i64 x14, true), some (.pointer (some (eA A9 (Int.toNat x14 * 4))), true), some (.pointer (some (eA A9 (Int.toNat x14 * 4 + 0))), true), some (.int .i64 ((gi dapi_Value x8 x14).Type'), true), some (.pointer (some ⟨b12, 2, none⟩), true), some (.slice A2 x1.Columns.length k3, true), some (.int .i64 x14, true), some (.pointer (some (eA A2 (Int.toNat x14 * 7))), true), some (.pointer (some (eA A2 (Int.toNat x14 * 7 + 1))), true), some (.int .i64 ((gi dapi_Column x1.Columns x14).Type'), true), (y1 x8 x14 x1), (y1 x8 x14 x1), (y1 x8 x14 x1), some (.slice A9 x8.length k10, true), some (.int .i64 x14, true), some (.pointer (some (eA A9 (Int.toNat x14 * 4))), true), some (.pointer (some (eA A9 (Int.toNat x14 * 4 + 1))), true), some (.bool ((gi dapi_Value x8 x14).Null), true), some (.bool ((gi dapi_Value x8 x14).Null), true), some (.pointer (some ⟨b12, 2, none⟩), true), some (.slice A2 x1.Columns.length k3, true), some (.int .i64 x14, true), some (.pointer (some (eA A2 (Int.toNat x14 * 7))), true), some (.pointer (some (eA A2 (Int.toNat x14 * 7 + 2))), true), some (.bool ((gi dapi_Column x1.Columns x14).NotNull), true), some (.bool ((gi dapi_Column x1.Columns x14).NotNull), true), some (.bool ((gi dapi_Column x1.Columns x14).NotNull), true)]) mixed T S rfl ?_
      refine stage none rfl rfl ⟨⟨_, _, rfl, (avl [6] rfl), fun _ _ _ T S => r_pv T rfl rfl fun _ T => ⟨rfl, T⟩⟩, ⟨_, _, rfl, (avl [24] rfl), fun _ _ _ T S => r_pv T rfl rfl fun _ T => ⟨rfl, T⟩⟩, ⟨_, _, rfl, (avl [25] rfl), fun _ _ _ T S => r_pv T rfl rfl fun _ T => ⟨rfl, T⟩⟩, ⟨_, _, rfl, (avl [1, 26] rfl), fun _ _ _ T S => g_yes T rfl rfl h19 (r_pv T rfl rfl fun _ T => ⟨rfl, T⟩)⟩, ⟨_, _, rfl, (avl [5, 26] rfl), fun _ _ _ T S => g_yes T rfl rfl h19 (r_pv T rfl rfl fun _ T => ⟨rfl, T⟩)⟩, ⟨_, _, rfl, (avl [27, 28, 26] rfl), fun _ _ _ T S => g_yes T rfl rfl h19 (r_ia (ix := 3) T S rfl rfl rfl rfl Tryd.runUnderlying27 Tryd.sizeOf43 h16.1 h16.2 rfl fun _ T => ⟨rfl, T⟩)⟩, ⟨_, _, rfl, (avl [29, 26] rfl), fun _ _ _ T S => g_yes T rfl rfl h19 (r_faE T rfl Tryd.runUnderlying43 rfl Tryd.sizeOf3 rfl fun _ T => ⟨rfl, T⟩)⟩, ⟨_, _, rfl, (avl [30, 26] rfl), fun _ _ _ T S => g_yes T rfl rfl h19 (r_ldE (ix := 3) (i := x14) (off := 0) (f := (Value.int .i64)) T S rfl Tryd.isAgg3 rfl dapi_Value _ rfl rfl fld_api_Value_Type' h16.1 h16.2 (fun h => h) rfl fun _ T => ⟨rfl, T⟩)⟩, ⟨_, _, rfl, (avl [2, 26] rfl), fun _ _ _ T S => g_yes T rfl rfl h19 (r_fa (o' := 2) T rfl Tryd.runUnderlying26 rfl Tryd.sizeOf22 rfl rfl fun _ T => ⟨rfl, T⟩)⟩, ⟨_, _, rfl, (avl [32, 26] rfl), fun _ _ _ T S => g_yes T rfl rfl h19 (r_ldB (ix := 4) T S rfl Tryd.isAgg22 rfl rfl rfl fun _ T => ⟨rfl, T⟩)⟩, ⟨_, _, rfl, (avl [5, 26] rfl), fun _ _ _ T S => g_yes T rfl rfl h19 (r_pv T rfl rfl fun _ T => ⟨rfl, T⟩)⟩, ⟨_, _, rfl, (avl [33, 34, 26] rfl), fun _ _ _ T S => g_yes T rfl rfl h19 (r_ia (ix := 0) T S rfl rfl rfl rfl Tryd.runUnderlying22 Tryd.sizeOf72 h16.1 h2661 rfl fun _ T => ⟨rfl, T⟩)⟩, ⟨_, _, rfl, (avl [35, 26] rfl), fun _ _ _ T S => g_yes T rfl rfl h19 (r_faE T rfl Tryd.runUnderlying72 rfl Tryd.sizeOf3 rfl fun _ T => ⟨rfl, T⟩)⟩, ⟨_, _, rfl, (avl [36, 26] rfl), fun _ _ _ T S => g_yes T rfl rfl h19 (r_ldE (ix := 0) (i := x14) (off := 1) (f := (Value.int .i64)) T S rfl Tryd.isAgg3 rfl dapi_Column _ rfl rfl fld_api_Column_Type' h16.1 h2661 (fun h => h) rfl fun _ T => ⟨rfl, T⟩)⟩, ⟨_, _, rfl, (avl [31, 37, 26] rfl), fun _ _ _ T S => g_yes T rfl rfl h19 (r_pv T rfl rfl fun _ T => ⟨rfl, T⟩)⟩, ⟨_, _, rfl, (avl [26, 38] rfl), fun _ _ _ T S => r_pickF T rfl h19 rfl rfl fun _ T => ⟨rfl, T⟩⟩, ⟨_, _, rfl, (avl [39] rfl), fun _ _ _ T S => r_pv T rfl rfl fun _ T => ⟨rfl, T⟩⟩, ⟨_, _, rfl, (avl [1, 40] rfl), fun _ _ _ T S => g_yes T rfl rfl h20 (r_pv T rfl rfl fun _ T => ⟨rfl, T⟩)⟩, ⟨_, _, rfl, (avl [5, 40] rfl), fun _ _ _ T S => g_yes T rfl rfl h20 (r_pv T rfl rfl fun _ T => ⟨rfl, T⟩)⟩, ⟨_, _, rfl, (avl [41, 42, 40] rfl), fun _ _ _ T S => g_yes T rfl rfl h20 (r_ia (ix := 3) T S rfl rfl rfl rfl Tryd.runUnderlying27 Tryd.sizeOf43 h16.1 h16.2 rfl fun _ T => ⟨rfl, T⟩)⟩, ⟨_, _, rfl, (avl [43, 40] rfl), fun _ _ _ T S => g_yes T rfl rfl h20 (r_faE T rfl Tryd.runUnderlying43 rfl Tryd.sizeOf4 rfl fun _ T => ⟨rfl, T⟩)⟩, ⟨_, _, rfl, (avl [44, 40] rfl), fun _ _ _ T S => g_yes T rfl rfl h20 (r_ldE (ix := 3) (i := x14) (off := 1) (f := Value.bool) T S rfl Tryd.isAgg4 rfl dapi_Value _ rfl rfl fld_api_Value_Null h16.1 h16.2 (fun h => h) rfl fun _ T => ⟨rfl, T⟩)⟩, ⟨_, _, rfl, (avl [45, 40] rfl), fun _ _ _ T S => g_yes T rfl rfl h20 (r_pv T rfl rfl fun _ T => ⟨rfl, T⟩)⟩, ⟨_, _, rfl, (avl [2, 46] rfl), fun _ _ _ T S => g_yes T rfl rfl h21 (r_fa (o' := 2) T rfl Tryd.runUnderlying26 rfl Tryd.sizeOf22 rfl rfl fun _ T => ⟨rfl, T⟩)⟩, ⟨_, _, rfl, (avl [47, 46] rfl), fun _ _ _ T S => g_yes T rfl rfl h21 (r_ldB (ix := 4) T S rfl Tryd.isAgg22 rfl rfl rfl fun _ T => ⟨rfl, T⟩)⟩, ⟨_, _, rfl, (avl [5, 46] rfl), fun _ _ _ T S => g_yes T rfl rfl h21 (r_pv T rfl rfl fun _ T => ⟨rfl, T⟩)⟩, ⟨_, _, rfl, (avl [48, 49, 46] rfl), fun _ _ _ T S => g_yes T rfl rfl h21 (r_ia (ix := 0) T S rfl rfl rfl rfl Tryd.runUnderlying22 Tryd.sizeOf72 h16.1 h2661 rfl fun _ T => ⟨rfl, T⟩)⟩, ⟨_, _, rfl, (avl [50, 46] rfl), fun _ _ _ T S => g_yes T rfl rfl h21 (r_faE T rfl Tryd.runUnderlying72 rfl Tryd.sizeOf4 rfl fun _ T => ⟨rfl, T⟩)⟩, ⟨_, _, rfl, (avl [51, 46] rfl), fun _ _ _ T S => g_yes T rfl rfl h21 (r_ldE (ix := 0) (i := x14) (off := 2) (f := Value.bool) T S rfl Tryd.isAgg4 rfl dapi_Column _ rfl rfl fld_api_Column_NotNull h16.1 h2661 (fun h => h) rfl fun _ T => ⟨rfl, T⟩)⟩, ⟨_, _, rfl, (avl [46, 52, 40] rfl), fun _ _ _ T S => g_yes T rfl rfl h20 (r_pickT T rfl h21 rfl rfl fun _ T => ⟨rfl, T⟩)⟩, ⟨_, _, rfl, (avl [40, 53] rfl), fun _ _ _ T S => r_pickF T rfl h20 rfl rfl fun _ T => ⟨rfl, T⟩⟩, trivial⟩ rfl (fun i hi => by cases hi) (fun _ _ a w T hv hb S => ?_)
      replace T := T.sub (r := [(1, .slice A9 x8.length k10), (y3 b12), (5, .int .i64 x14), (54, .bool ((gi dapi_Column x1.Columns x14).NotNull))]) ⟨hb 1 _ rfl rfl, hb 2 _ rfl rfl, hb 5 _ rfl rfl, hv 30 _ 54 rfl rfl rfl, trivial⟩
      rcases ifE H with ⟨h22, H⟩ | ⟨h22, H⟩
      ·refine cdT T rfl h22 ?_
       refine Gets.seq ?_
       exact J1_ok F r z x1 A2 k3 A4 k5 A6 k7 x8 A9 k10 m11 _ _ (T.sub trivial) (S.only (p := (y2 A2 k3 x1 A4 k5 A6 k7 m11 A9 k10 x8)) [0, 0, 0, 0] rfl) H
      ·refine cdF T rfl h22 ?_
       refine Gets.skip (Gets.inBlock ?_)
       exact J2_ok F r z x1 A2 k3 A4 k5 A6 k7 x8 A9 k10 m11 b12 x14 (L0 z x1 x8 m) ih _ _ (T.sub ⟨rfl, rfl, rfl, trivial⟩) (S.only (p := (y0 A2 k3 x1 A4 k5 A6 k7 m11 A9 k10 x8 b12)) [0, 0, 0, 0, 0] rfl) H
     ·obtain ⟨h2661, H⟩ := ck H
      refine Gets.drawn (l := (y0 A2 k3 x1 A4 k5 A6 k7 m11 A9 k10 x8 b12)) (V := [some (.bool x18, true), some (.bool (!x18), true), some (.bool (!x18), true), some (.slice A9 x8.length k10, true), some (.int .i64 x14, true), some (.pointer (some (eA A9 (Int.toNat x14 * 4))), true), some (.pointer (some (eA A9 (Int.toNat x14 * 4 + 0))), true), some (.int .i64 ((gi dapi_Value x8 x14).Type'), true), some (.pointer (some ⟨b12, 2, none⟩), true), some (.slice A2 x1.Columns.length k3, true), some (.int .i64 x14, true), some (.pointer (some (eA A2 (Int.toNat x14 * 7))), true), some (.pointer (some (eA A2 (Int.toNat x14 * 7 + 1))), true), some (.int .i64 ((gi dapi_Column x1.Columns x14).Type'), true), (y1 x8 x14 x1), (y1 x8 x14 x1), (y1 x8 x14 x1), some (.slice A9 x8.length k10, true), some (.int .i64 x14, true), some (.pointer (some (eA A9 (Int.toNat x14 * 4))), true), some (.pointer (some (eA A9 (Int.toNat x14 * 4 + 1))), true), some (.bool ((gi dapi_Value x8 x14).Null), true), some (.bool ((gi dapi_Value x8 x14).Null), true), some (undef, true), some (undef, true), some (undef, true), some (undef, true), some (undef, true), some (undef, true), some (.bool false, true), some (.bool false, true)]) mixed T S rfl ?_
      refine stage none rfl rfl ⟨⟨_, _, rfl, (avl [6] rfl), fun _ _ _ T S => r_pv T rfl rfl fun _ T => ⟨rfl, T⟩⟩, ⟨_, _, rfl, (avl [24] rfl), fun _ _ _ T S => r_pv T rfl rfl fun _ T => ⟨rfl, T⟩⟩, ⟨_, _, rfl, (avl [25] rfl), fun _ _ _ T S => r_pv T rfl rfl fun _ T => ⟨rfl, T⟩⟩, ⟨_, _, rfl, (avl [1, 26] rfl), fun _ _ _ T S => g_yes T rfl rfl h19 (r_pv T rfl rfl fun _ T => ⟨rfl, T⟩)⟩, ⟨_, _, rfl, (avl [5, 26] rfl), fun _ _ _ T S => g_yes T rfl rfl h19 (r_pv T rfl rfl fun _ T => ⟨rfl, T⟩)⟩, ⟨_, _, rfl, (avl [27, 28, 26] rfl), fun _ _ _ T S => g_yes T rfl rfl h19 (r_ia (ix := 3) T S rfl rfl rfl rfl Tryd.runUnderlying27 Tryd.sizeOf43 h16.1 h16.2 rfl fun _ T => ⟨rfl, T⟩)⟩, ⟨_, _, rfl, (avl [29, 26] rfl), fun _ _ _ T S => g_yes T rfl rfl h19 (r_faE T rfl Tryd.runUnderlying43 rfl Tryd.sizeOf3 rfl fun _ T => ⟨rfl, T⟩)⟩, ⟨_, _, rfl, (avl [30, 26] rfl), fun _ _ _ T S => g_yes T rfl rfl h19 (r_ldE (ix := 3) (i := x14) (off := 0) (f := (Value.int .i64)) T S rfl Tryd.isAgg3 rfl dapi_Value _ rfl rfl fld_api_Value_Type' h16.1 h16.2 (fun h => h) rfl fun _ T => ⟨rfl, T⟩)⟩, ⟨_, _, rfl, (avl [2, 26] rfl), fun _ _ _ T S => g_yes T rfl rfl h19 (r_fa (o' := 2) T rfl Tryd.runUnderlying26 rfl Tryd.sizeOf22 rfl rfl fun _ T => ⟨rfl, T⟩)⟩, ⟨_, _, rfl, (avl [32, 26] rfl), fun _ _ _ T S => g_yes T rfl rfl h19 (r_ldB (ix := 4) T S rfl Tryd.isAgg22 rfl rfl rfl fun _ T => ⟨rfl, T⟩)⟩, ⟨_, _, rfl, (avl [5, 26] rfl), fun _ _ _ T S => g_yes T rfl rfl h19 (r_pv T rfl rfl fun _ T => ⟨rfl, T⟩)⟩, ⟨_, _, rfl, (avl [33, 34, 26] rfl), fun _ _ _ T S => g_yes T rfl rfl h19 (r_ia (ix := 0) T S rfl rfl rfl rfl Tryd.runUnderlying22 Tryd.sizeOf72 h16.1 h2661 rfl fun _ T => ⟨rfl, T⟩)⟩, ⟨_, _, rfl, (avl [35, 26] rfl), fun _ _ _ T S => g_yes T rfl rfl h19 (r_faE T rfl Tryd.runUnderlying72 rfl Tryd.sizeOf3 rfl fun _ T => ⟨rfl, T⟩)⟩, ⟨_, _, rfl, (avl [36, 26] rfl), fun _ _ _ T S => g_yes T rfl rfl h19 (r_ldE (ix := 0) (i := x14) (off := 1) (f := (Value.int .i64)) T S rfl Tryd.isAgg3 rfl dapi_Column _ rfl rfl fld_api_Column_Type' h16.1 h2661 (fun h => h) rfl fun _ T => ⟨rfl, T⟩)⟩, ⟨_, _, rfl, (avl [31, 37, 26] rfl), fun _ _ _ T S => g_yes T rfl rfl h19 (r_pv T rfl rfl fun _ T => ⟨rfl, T⟩)⟩, ⟨_, _, rfl, (avl [26, 38] rfl), fun _ _ _ T S => r_pickF T rfl h19 rfl rfl fun _ T => ⟨rfl, T⟩⟩, ⟨_, _, rfl, (avl [39] rfl), fun _ _ _ T S => r_pv T rfl rfl fun _ T => ⟨rfl, T⟩⟩, ⟨_, _, rfl, (avl [1, 40] rfl), fun _ _ _ T S => g_yes T rfl rfl h20 (r_pv T rfl rfl fun _ T => ⟨rfl, T⟩)⟩, ⟨_, _, rfl, (avl [5, 40] rfl), fun _ _ _ T S => g_yes T rfl rfl h20 (r_pv T rfl rfl fun _ T => ⟨rfl, T⟩)⟩, ⟨_, _, rfl, (avl [41, 42, 40] rfl), fun _ _ _ T S => g_yes T rfl rfl h20 (r_ia (ix := 3) T S rfl rfl rfl rfl Tryd.runUnderlying27 Tryd.sizeOf43 h16.1 h16.2 rfl fun _ T => ⟨rfl, T⟩)⟩, ⟨_, _, rfl, (avl [43, 40] rfl), fun _ _ _ T S => g_yes T rfl rfl h20 (r_faE T rfl Tryd.runUnderlying43 rfl Tryd.sizeOf4 rfl fun _ T => ⟨rfl, T⟩)⟩, ⟨_, _, rfl, (avl [44, 40] rfl), fun _ _ _ T S => g_yes T rfl rfl h20 (r_ldE (ix := 3) (i := x14) (off := 1) (f := Value.bool) T S rfl Tryd.isAgg4 rfl dapi_Value _ rfl rfl fld_api_Value_Null h16.1 h16.2 (fun h => h) rfl fun _ T => ⟨rfl, T⟩)⟩, ⟨_, _, rfl, (avl [45, 40] rfl), fun _ _ _ T S => g_yes T rfl rfl h20 (r_pv T rfl rfl fun _ T => ⟨rfl, T⟩)⟩, ⟨_, _, rfl, (avl [2, 46] rfl), fun _ _ _ T S => g_no T rfl rfl h21 rfl fun _ T => ⟨rfl, T⟩⟩, ⟨_, _, rfl, (avl [47, 46] rfl), fun _ _ _ T S => g_no T rfl rfl h21 rfl fun _ T => ⟨rfl, T⟩⟩, ⟨_, _, rfl, (avl [5, 46] rfl), fun _ _ _ T S => g_no T rfl rfl h21 rfl fun _ T => ⟨rfl, T⟩⟩, ⟨_, _, rfl, (avl [48, 49, 46] rfl), fun _ _ _ T S => g_no T rfl rfl h21 rfl fun _ T => ⟨rfl, T⟩⟩, ⟨_, _, rfl, (avl [50, 46] rfl), fun _ _ _ T S => g_no T rfl rfl h21 rfl fun _ T => ⟨rfl, T⟩⟩, ⟨_, _, rfl, (avl [51, 46] rfl), fun _ _ _ T S => g_no T rfl rfl h21 rfl fun _ T => ⟨rfl, T⟩⟩, ⟨_, _, rfl, (avl [46, 52, 40] rfl), fun _ _ _ T S => g_yes T rfl rfl h20 (r_pickF T rfl h21 rfl rfl fun _ T => ⟨rfl, T⟩)⟩, ⟨_, _, rfl, (avl [40, 53] rfl), fun _ _ _ T S => r_pickF T rfl h20 rfl rfl fun _ T => ⟨rfl, T⟩⟩, trivial⟩ rfl (fun i hi => by cases hi) (fun _ _ a w T hv hb S => ?_)
      replace T := T.sub (r := [(1, .slice A9 x8.length k10), (y3 b12), (5, .int .i64 x14), (54, .bool false)]) ⟨hb 1 _ rfl rfl, hb 2 _ rfl rfl, hb 5 _ rfl rfl, hv 30 _ 54 rfl rfl rfl, trivial⟩
      refine cdF T rfl rfl ?_
      refine Gets.skip (Gets.inBlock ?_)
      exact J2_ok F r z x1 A2 k3 A4 k5 A6 k7 x8 A9 k10 m11 b12 x14 (L0 z x1 x8 m) ih _ _ (T.sub ⟨rfl, rfl, rfl, trivial⟩) (S.only (p := (y0 A2 k3 x1 A4 k5 A6 k7 m11 A9 k10 x8 b12)) [0, 0, 0, 0, 0] rfl) H
  ·refine cdF T rfl h15 ?_
   refine Gets.exit rfl (Gets.seq ?_)
   refine rg (r_pv T rfl rfl fun _ T => ?_)
   replace H := Option.some.inj H
   subst H
   exact rtn T Tryd.func18 rfl rfl ⟨rfl, (S.only (p := (y2 A2 k3 x1 A4 k5 A6 k7 m11 A9 k10 x8)) [0, 0, 0, 0] rfl)⟩
theorem ok (F : List Atom) (w : World) (z : Nat) (x1 : api_Table) (x8 : List api_Value) {A2 : OA} {k3 : Nat} {A4 : OA} {k5 : Nat} {A6 : OA} {k7 : Nat} {A9 : OA} {k10 : Nat} {m11 : Md} (S : SL ((y2 A2 k3 x1 A4 k5 A6 k7 m11 A9 k10 x8) ++ F) w) (r : Bool) (H : f z x1 x8 = some r) : Calls Tryd.prog 18 #[.agg #[.int .i64 x1.Id, .string x1.Name, .slice A2 x1.Columns.length k3, .slice A4 x1.Key.length k5, .slice A6 x1.Indexes.length k7], .slice A9 x8.length k10] w (R F x1 A2 k3 A4 k5 A6 k7 x8 A9 k10 m11 r) := by
 refine enter (vs := [.agg #[.int .i64 x1.Id, .string x1.Name, .slice A2 x1.Columns.length k3, .slice A4 x1.Key.length k5, .slice A6 x1.Indexes.length k7], .slice A9 x8.length k10]) Tryd.func18 rfl Tryd.ntmps18 (Nat.le_of_ble_eq_true rfl) fun a T => ?_
 refine Gets.seq (rg (r_box T S rfl (cs := [.int .i64 x1.Id, .string x1.Name, .slice A2 x1.Columns.length k3, .slice A4 x1.Key.length k5, .slice A6 x1.Indexes.length k7]) rfl rfl fun _ _ b12 S T => r_pv T rfl rfl fun _ T => ?_))
 refine Gets.seq (Gets.seq ?_)
 refine rg (r_pv T rfl rfl fun _ T => r_lenS T rfl Tryd.runUnderlying27 rfl fun _ T => r_fa (o' := 2) T rfl Tryd.runUnderlying26 rfl Tryd.sizeOf22 rfl rfl fun _ T => ?_)
 refine r_ldB (ix := 0) T S rfl Tryd.isAgg22 rfl rfl rfl fun _ T => r_lenS T rfl Tryd.runUnderlying22 rfl fun _ T => r_pv T rfl rfl fun _ T => ?_
 rcases ifE H with ⟨h13, H⟩ | ⟨h13, H⟩
 ·refine cdT T rfl h13 ?_
  refine Gets.seq (rg (r_pv T rfl rfl fun _ T => ?_))
  replace H := Option.some.inj H
  subst H
  exact rtn T Tryd.func18 rfl rfl ⟨rfl, (S.only (p := (y2 A2 k3 x1 A4 k5 A6 k7 m11 A9 k10 x8)) [1, 1, 1, 1] rfl)⟩
 ·refine cdF T rfl h13 ?_
  refine Gets.skip (Gets.seq (Gets.seq ?_))
  refine rg (r_pv T rfl rfl fun _ T => Gets.block (Gets.loop ?_))
  exact L0_ok F r z x1 A2 k3 A4 k5 A6 k7 x8 A9 k10 m11 b12 z 0 _ _ (T.sub ⟨rfl, rfl, rfl, trivial⟩) (S.only (p := (y0 A2 k3 x1 A4 k5 A6 k7 m11 A9 k10 x8 b12)) [1, 1, 1, 1, 0] rfl) H
end cormorantref20_Is
end Go.Proofs.YtohelmfkpmphoaaDoor
namespace Go.Proofs.YtohelmfkpmphoaaDoor
open Go Go.Proofs.YtohelmfkpmphoaaDoor.X
set_option linter.unusedVariables false
set_option linter.unusedSimpArgs false
def keyB (cols : Nat) (l : List Int) : Bool := decide ((∀ n ∈ l, 0 ≤ n ∧ n < (cols : Int)) ∧ l.Nodup ∧ 0 < l.length)
def tyB (t : api_Table) : Bool := decide (∀ c ∈ t.Columns, 1 ≤ c.Type' ∧ c.Type' ≤ 3)
def tabB (t : api_Table) : Bool := tyB t && keyB t.Columns.length t.Key
theorem addK_mem (ks : List Int) (k n : Int) : n ∈ addK ks k ↔ n ∈ ks ∨ n = k := by
 unfold addK
 split
 ·rename_i h
  simp at h
  exact ⟨.inl, fun q => q.elim id fun e => e ▸ h⟩
 ·simp
theorem keyB_false {cols : Nat} {l : List Int} (h : ¬ ((∀ n ∈ l, 0 ≤ n ∧ n < (cols : Int)) ∧ l.Nodup ∧ 0 < l.length)) : keyB cols l = false := decide_eq_false h
theorem ofColumns_f {z : Nat} (hz : 16777216 ≤ z) (t : api_Table) {l : List Int} (hl : l.length ≤ 1048576) : rowkey_ofColumns.f z t l = some (keyB t.Columns.length l) := by
 have key : ∀ (k m i : Nat) (seen : List Int), l.length - i = k → i ≤ l.length → k < m → (∀ n, n ∈ seen ↔ n ∈ l.take i) → (l.take i).Nodup → (∀ n ∈ l.take i, 0 ≤ n ∧ n < (t.Columns.length : Int)) → rowkey_ofColumns.L0 z t l m (i : Int) seen = some (keyB t.Columns.length l) := by
  intro k
  induction k with
  | zero =>
   intro m i seen h1 h2 h3 h4 h5 h6
   obtain ⟨m, rfl⟩ : ∃ q, m = q + 1 := ⟨m - 1, by omega⟩
   have : i = l.length := by omega
   subst this
   rw [List.take_length] at h5 h6
   rw [rowkey_ofColumns.L0, if_n (by simp)]
   congr 1
   unfold keyB
   by_cases h0 : 0 < l.length
   ·rw [decide_eq_true (by omega), decide_eq_true ⟨h6, h5, h0⟩]
   ·rw [decide_eq_false (by omega), decide_eq_false (fun q => h0 q.2.2)]
  | succ k ih =>
   intro m i seen h1 h2 h3 h4 h5 h6
   obtain ⟨m, rfl⟩ : ∃ q, m = q + 1 := ⟨m - 1, by omega⟩
   have hi : i < l.length := by omega
   have hm : l[i] ∈ l := List.getElem_mem hi
   rw [rowkey_ofColumns.L0, if_y (by simp; omega), ck_y (by omega), gi_nat _ _ _ hi]
   unfold rowkey_ofColumns.J1
   by_cases c1 : l[i] < 0
   ·rw [if_y (by simpa using c1), keyB_false (fun q => by have := q.1 _ hm; omega)]
   rw [if_n (by simpa using c1)]
   by_cases c2 : l[i] ≥ (t.Columns.length : Int)
   ·rw [if_y (by simpa using c2), keyB_false (fun q => by have := q.1 _ hm; omega)]
   rw [if_n (by simpa using c2)]
   have htk : l.take (i + 1) = l.take i ++ [l[i]] := List.take_succ_eq_append_getElem hi
   by_cases c3 : l[i] ∈ l.take i
   ·rw [if_y (by simpa using (h4 _).2 c3), keyB_false (fun q => ?_)]
    have hn : (l.take (i + 1)).Nodup := q.2.1.sublist (List.take_sublist _ _)
    rw [htk, List.nodup_append] at hn
    exact hn.2.2 _ c3 _ (by simp) rfl
   ·rw [if_n (by simpa using fun q => c3 ((h4 _).1 q)), wI (by omega)]
    refine ih m (i + 1) _ (by omega) (by omega) (by omega) (fun n => ?_) ?_ ?_
    ·rw [addK_mem, h4, htk, List.mem_append, List.mem_singleton]
    ·rw [htk, List.nodup_append]
     refine ⟨h5, by simp, fun a ha b hb => ?_⟩
     simp at hb
     subst hb
     exact fun e => c3 (e ▸ ha)
    ·intro n hn
     rw [htk] at hn
     rcases List.mem_append.1 hn with hn | hn
     ·exact h6 n hn
     ·simp at hn; subst hn; omega
 unfold rowkey_ofColumns.f
 exact key l.length z 0 [] (by omega) (by omega) (by omega) (by simp) (by simp) (by simp)
theorem tabled_f {z : Nat} (hz : 16777216 ≤ z) {t : api_Table} (hc : t.Columns.length ≤ 1048576) (hk : t.Key.length ≤ 1048576) : rowkey_tabled.f z t t.Key = some (tabB t) := by
 have key : ∀ (k m i : Nat), t.Columns.length - i = k → i ≤ t.Columns.length → k < m → (∀ c ∈ t.Columns.take i, 1 ≤ c.Type' ∧ c.Type' ≤ 3) → rowkey_tabled.L0 z t t.Key m (i : Int) = some (tabB t) := by
  intro k
  induction k with
  | zero =>
   intro m i h1 h2 h3 h4
   obtain ⟨m, rfl⟩ : ∃ q, m = q + 1 := ⟨m - 1, by omega⟩
   have : i = t.Columns.length := by omega
   subst this
   rw [List.take_length] at h4
   rw [rowkey_tabled.L0, if_n (by simp), ofColumns_f hz t hk, bd_some, bd_some]
   unfold rowkey_tabled.J1
   have : tyB t = true := decide_eq_true h4
   unfold tabB
   rw [this, Bool.true_and]
   cases keyB t.Columns.length t.Key <;> rfl
  | succ k ih =>
   intro m i h1 h2 h3 h4
   obtain ⟨m, rfl⟩ : ∃ q, m = q + 1 := ⟨m - 1, by omega⟩
   have hi : i < t.Columns.length := by omega
   have hm : t.Columns[i] ∈ t.Columns := List.getElem_mem hi
   have hno : ¬ (1 ≤ t.Columns[i].Type' ∧ t.Columns[i].Type' ≤ 3) → tabB t = false := fun h => by
    have : tyB t = false := decide_eq_false fun q => h (q _ hm)
    unfold tabB
    rw [this, Bool.false_and]
   rw [rowkey_tabled.L0, if_y (by simp; omega), ck_y (by omega), gi_nat _ _ _ hi]
   unfold rowkey_tabled.J2
   by_cases c1 : t.Columns[i].Type' < 1
   ·rw [if_y (by simpa using c1), hno (by omega)]
   rw [if_n (by simpa using c1)]
   by_cases c2 : t.Columns[i].Type' > 3
   ·rw [if_y (by simpa using c2), hno (by omega)]
   rw [if_n (by simpa using c2), wI (by omega)]
   refine ih m (i + 1) (by omega) (by omega) (by omega) ?_
   intro n hn
   rw [List.take_succ_eq_append_getElem hi] at hn
   rcases List.mem_append.1 hn with hn | hn
   ·exact h4 n hn
   ·simp at hn; subst hn; omega
 unfold rowkey_tabled.f
 exact key t.Columns.length z 0 (by omega) (by omega) (by omega) (by simp)
theorem Unlike_f {z : Nat} (hz : 16777216 ≤ z) {l : List Int} {cols : Nat} (hl : l.length ≤ 1048576) : cormorantref18_Unlike.f z l (cols : Int) = some (keyB cols l) := by
 have key2 : ∀ (q0 : Int → Option Bool) (i : Nat) (hi : i < l.length) (k m j : Nat), i - j = k → j ≤ i → k < m → (∀ a, a < j → ∀ (ha : a < l.length), l[a] ≠ l[i]) → ((∀ a, a < i → ∀ (ha : a < l.length), l[a] ≠ l[i]) ∧ cormorantref18_Unlike.L2 z q0 l (cols : Int) (i : Int) m (j : Int) = q0 ((i : Int) + 1)) ∨ ((∃ a, ∃ (ha : a < l.length), a < i ∧ l[a] = l[i]) ∧ cormorantref18_Unlike.L2 z q0 l (cols : Int) (i : Int) m (j : Int) = some false) := by
  intro q0 i hi k
  induction k with
  | zero =>
   intro m j h1 h2 h3 h4
   obtain ⟨m, rfl⟩ : ∃ q, m = q + 1 := ⟨m - 1, by omega⟩
   have : j = i := by omega
   subst this
   left
   rw [cormorantref18_Unlike.L2, if_n (by simp), wI (by omega)]
   exact ⟨h4, rfl⟩
  | succ k ih =>
   intro m j h1 h2 h3 h4
   obtain ⟨m, rfl⟩ : ∃ q, m = q + 1 := ⟨m - 1, by omega⟩
   rw [cormorantref18_Unlike.L2, if_y (by simp; omega), ck_y (by omega), ck_y (by omega), gi_nat _ _ _ hi, gi_nat _ _ _ (show j < l.length by omega)]
   by_cases e : l[j]'(by omega) = l[i]
   ·right
    rw [if_y (by simpa using e)]
    exact ⟨⟨j, by omega, by omega, e⟩, rfl⟩
   ·rw [if_n (by simpa using e), wI (by omega)]
    refine ih m (j + 1) (by omega) (by omega) (by omega) fun a ha hal => ?_
    by_cases ea : a = j
    ·subst ea; exact e
    ·exact h4 a (by omega) hal
 have key : ∀ (k m i : Nat), l.length - i = k → i ≤ l.length → k < m → (l.take i).Nodup → (∀ n ∈ l.take i, 0 ≤ n ∧ n < (cols : Int)) → cormorantref18_Unlike.L0 z l (cols : Int) m (i : Int) = some (keyB cols l) := by
  intro k
  induction k with
  | zero =>
   intro m i h1 h2 h3 h5 h6
   obtain ⟨m, rfl⟩ : ∃ q, m = q + 1 := ⟨m - 1, by omega⟩
   have : i = l.length := by omega
   subst this
   rw [List.take_length] at h5 h6
   rw [cormorantref18_Unlike.L0, if_n (by simp)]
   congr 1
   unfold keyB
   by_cases h0 : 0 < l.length
   ·rw [decide_eq_true (by omega), decide_eq_true ⟨h6, h5, h0⟩]
   ·rw [decide_eq_false (by omega), decide_eq_false (fun q => h0 q.2.2)]
  | succ k ih =>
   intro m i h1 h2 h3 h5 h6
   obtain ⟨m, rfl⟩ : ∃ q, m = q + 1 := ⟨m - 1, by omega⟩
   have hi : i < l.length := by omega
   have hm : l[i] ∈ l := List.getElem_mem hi
   rw [cormorantref18_Unlike.L0, if_y (by simp; omega), ck_y (by omega), gi_nat _ _ _ hi]
   unfold cormorantref18_Unlike.J1
   by_cases c1 : l[i] < 0
   ·rw [if_y (by simpa using c1), keyB_false (fun q => by have := q.1 _ hm; omega)]
   rw [if_n (by simpa using c1)]
   by_cases c2 : l[i] ≥ (cols : Int)
   ·rw [if_y (by simpa using c2), keyB_false (fun q => by have := q.1 _ hm; omega)]
   rw [if_n (by simpa using c2)]
   have htk : l.take (i + 1) = l.take i ++ [l[i]] := List.take_succ_eq_append_getElem hi
   rcases key2 (cormorantref18_Unlike.L0 z l (cols : Int) m) i hi i z 0 (by omega) (by omega) (by omega) (fun a ha => by omega) with ⟨q1, q2⟩ | ⟨⟨a, ha, hai, e⟩, q2⟩
   ·have q2' : cormorantref18_Unlike.L2 z (cormorantref18_Unlike.L0 z l (cols : Int) m) l (cols : Int) (i : Int) z 0 = cormorantref18_Unlike.L0 z l (cols : Int) m ((i : Int) + 1) := q2
    rw [q2']
    refine ih m (i + 1) (by omega) (by omega) (by omega) ?_ ?_
    ·rw [htk, List.nodup_append]
     refine ⟨h5, by simp, fun a ha b hb => ?_⟩
     simp at hb
     subst hb
     obtain ⟨j, hj, e⟩ := List.mem_iff_getElem.1 ha
     rw [List.getElem_take] at e
     rw [List.length_take] at hj
     exact e ▸ q1 j (by omega) (by omega)
    ·intro n hn
     rw [htk] at hn
     rcases List.mem_append.1 hn with hn | hn
     ·exact h6 n hn
     ·simp at hn; subst hn; omega
   ·have q2' : cormorantref18_Unlike.L2 z (cormorantref18_Unlike.L0 z l (cols : Int) m) l (cols : Int) (i : Int) z 0 = some false := q2
    rw [q2', keyB_false (fun q => ?_)]
    have hn : (l.take (i + 1)).Nodup := q.2.1.sublist (List.take_sublist _ _)
    rw [htk, List.nodup_append] at hn
    refine hn.2.2 l[a] ?_ _ (by simp) e
    have : (l.take i)[a]'(by rw [List.length_take]; omega) = l[a] := List.getElem_take
    exact this ▸ List.getElem_mem _
 unfold cormorantref18_Unlike.f
 exact key l.length z 0 (by omega) (by omega) (by omega) (by simp) (by simp)
theorem tableMay_f {z : Nat} (hz : 16777216 ≤ z) {t : api_Table} (hc : t.Columns.length ≤ 1048576) (hk : t.Key.length ≤ 1048576) : cormorantref20_tableMay.f z t [] = some (tabB t) := by
 have key : ∀ (k m i : Nat), t.Columns.length - i = k → i ≤ t.Columns.length → k < m → (∀ c ∈ t.Columns.take i, 1 ≤ c.Type' ∧ c.Type' ≤ 3) → cormorantref20_tableMay.L0 z t [] m (i : Int) = some (tabB t) := by
  intro k
  induction k with
  | zero =>
   intro m i h1 h2 h3 h4
   obtain ⟨m, rfl⟩ : ∃ q, m = q + 1 := ⟨m - 1, by omega⟩
   have : i = t.Columns.length := by omega
   subst this
   rw [List.take_length] at h4
   rw [cormorantref20_tableMay.L0, if_n (by simp), Unlike_f hz hk, bd_some, if_y (by decide)]
   have : tyB t = true := decide_eq_true h4
   unfold cormorantref20_tableMay.J1 cormorantref20_tableMay.J2 tabB
   rw [this, Bool.true_and]
   cases keyB t.Columns.length t.Key <;> rfl
  | succ k ih =>
   intro m i h1 h2 h3 h4
   obtain ⟨m, rfl⟩ : ∃ q, m = q + 1 := ⟨m - 1, by omega⟩
   have hi : i < t.Columns.length := by omega
   have hm : t.Columns[i] ∈ t.Columns := List.getElem_mem hi
   have hno : ¬ (1 ≤ t.Columns[i].Type' ∧ t.Columns[i].Type' ≤ 3) → tabB t = false := fun h => by
    have : tyB t = false := decide_eq_false fun q => h (q _ hm)
    unfold tabB
    rw [this, Bool.false_and]
   rw [cormorantref20_tableMay.L0, if_y (by simp; omega), ck_y (by omega), gi_nat _ _ _ hi]
   unfold cormorantref20_tableMay.J3
   by_cases c1 : t.Columns[i].Type' < 1
   ·rw [if_y (by simpa using c1), hno (by omega)]
   rw [if_n (by simpa using c1)]
   by_cases c2 : t.Columns[i].Type' > 3
   ·rw [if_y (by simpa using c2), hno (by omega)]
   rw [if_n (by simpa using c2), wI (by omega)]
   refine ih m (i + 1) (by omega) (by omega) (by omega) ?_
   intro n hn
   rw [List.take_succ_eq_append_getElem hi] at hn
   rcases List.mem_append.1 hn with hn | hn
   ·exact h4 n hn
   ·simp at hn; subst hn; omega
 unfold cormorantref20_tableMay.f
 exact key t.Columns.length z 0 (by omega) (by omega) (by omega) (by simp)
theorem emp (s : ByteArray) : (s.toList == (⟨#[]⟩ : ByteArray).toList) = decide (s.size = 0) := by
 rw [ba_toList, ba_toList]
 show (s.data.toList == []) = _
 rw [← ByteArray.size_data, ← Array.length_toList]
 cases s.data.toList <;> simp
def fitB (v : api_Value) (k : Int) : Bool := decide (v.Type' = k ∧ (v.Null = true → v.Int = 0 ∧ v.Text.size = 0) ∧ (k = 3 → v.Int = 0 ∧ v.Text.size ≤ 65536 ∧ (0 : Int) ∉ sbytes v.Text) ∧ (k = 2 → v.Text.size = 0 ∧ (v.Int = 0 ∨ v.Int = 1)) ∧ (k ≠ 3 → k ≠ 2 → v.Text.size = 0))
theorem idx_str (s : ByteArray) : decide (idxP s 0 < 0) = decide ((0 : Int) ∉ sbytes s) := by
 have hb := sbytes_bys s
 rw [← bstr_sbytes s]
 rw [bstr_sbytes s]
 by_cases h : (0 : Int) ∈ sbytes s
 ·obtain ⟨p, q, e, hp⟩ := List.eq_append_cons_of_mem h
  have : idxP (bstr (sbytes s)) 0 = p.length := by rw [e] at hb ⊢; exact idx_some hb hp
  rw [bstr_sbytes] at this
  rw [this, decide_eq_false (by omega), decide_eq_false (by simpa using h)]
 ·have := idx_none hb h
  rw [bstr_sbytes] at this
  rw [this, decide_eq_true (by decide), decide_eq_true h]
theorem fits_f (v : api_Value) (k : Int) : rowkey_fits.f v k = some (fitB v k) := by
 unfold rowkey_fits.f rowkey_fits.J0
 by_cases c0 : v.Type' = k
 ·rw [if_n (by simpa using c0)]
  have hJ : (v.Null = true → v.Int = 0 ∧ v.Text.size = 0) → rowkey_fits.J1 v k = some (fitB v k) := by
   intro hn
   unfold rowkey_fits.J1 rowkey_fits.J2 rowkey_fits.J3
   by_cases c3 : k = 3
   ·subst c3
    rw [if_y (by decide)]
    by_cases d1 : v.Int = 0
    ·rw [if_y (by simpa using d1)]
     by_cases d2 : v.Text.size ≤ 65536
     ·rw [if_y (by simp; omega)]
      unfold strings_IndexByte.f stringslite_IndexByte.f
      rw [bd_some, bd_some, idx_str]
      congr 1
      unfold fitB
      by_cases d3 : (0 : Int) ∉ sbytes v.Text
      ·rw [decide_eq_true d3, decide_eq_true ⟨c0, hn, fun _ => ⟨d1, d2, d3⟩, fun h => absurd h (by decide), fun h => absurd rfl h⟩]
      ·rw [decide_eq_false d3, decide_eq_false fun q => d3 (q.2.2.1 rfl).2.2]
     ·rw [if_n (by simp; omega)]
      congr 1
      exact (decide_eq_false fun q => d2 (q.2.2.1 rfl).2.1).symm
    ·rw [if_n (by simpa using d1)]
     congr 1
     exact (decide_eq_false fun q => d1 (q.2.2.1 rfl).1).symm
   ·rw [if_n (by simpa using c3)]
    by_cases c2 : k = 2
    ·subst c2
     rw [if_y (by decide), emp]
     by_cases d1 : v.Text.size = 0
     ·rw [if_y (by simpa using d1)]
      by_cases d2 : v.Int = 0
      ·rw [if_y (by simpa using d2)]
       congr 1
       exact (decide_eq_true ⟨c0, hn, fun h => absurd h (by decide), fun _ => ⟨d1, .inl d2⟩, fun _ h => absurd rfl h⟩).symm
      ·rw [if_n (by simpa using d2)]
       congr 1
       unfold fitB
       by_cases d3 : v.Int = 1
       ·rw [decide_eq_true ⟨c0, hn, fun h => absurd h (by decide), fun _ => ⟨d1, .inr d3⟩, fun _ h => absurd rfl h⟩]
        simpa using d3
       ·rw [decide_eq_false (fun q => by have := (q.2.2.2.1 rfl).2; omega)]
        simpa using d3
     ·rw [if_n (by simpa using d1)]
      congr 1
      exact (decide_eq_false fun q => d1 (q.2.2.2.1 rfl).1).symm
    ·rw [if_n (by simpa using c2), emp]
     congr 1
     unfold fitB
     by_cases d1 : v.Text.size = 0
     ·rw [decide_eq_true d1, decide_eq_true ⟨c0, hn, fun h => absurd h c3, fun h => absurd h c2, fun _ _ => d1⟩]
     ·rw [decide_eq_false d1, decide_eq_false (fun q => d1 (q.2.2.2.2 c3 c2))]
  by_cases cn : v.Null = true
  ·rw [if_y cn]
   by_cases d1 : v.Int = 0
   ·rw [if_n (by simpa using d1), emp]
    by_cases d2 : v.Text.size = 0
    ·rw [if_n (by simpa using d2)]
     exact hJ fun _ => ⟨d1, d2⟩
    ·rw [if_y (by simpa using d2)]
     congr 1
     exact (decide_eq_false fun q => d2 (q.2.1 cn).2).symm
   ·rw [if_y (by simpa using d1)]
    congr 1
    exact (decide_eq_false fun q => d1 (q.2.1 cn).1).symm
  ·rw [if_n (by simpa using cn)]
   exact hJ fun h => absurd h cn
 ·rw [if_y (by simpa using c0)]
  congr 1
  exact (decide_eq_false fun q => c0 q.1).symm
theorem has0_f {z : Nat} (hz : 16777216 ≤ z) {s : ByteArray} (hs : s.size ≤ 1048576) : cormorantref18_has0.f z s = some (decide ((0 : Int) ∈ sbytes s)) := by
 have hl := sbytes_len s
 have hg : ∀ i (hi : i < s.size), ((s.data.getD i 0).toNat : Int) = (sbytes s)[i]'(by omega) := by
  intro i hi
  have : i < s.data.size := by rw [ByteArray.size_data]; exact hi
  simp [sbytes, Array.getD, hi]
 have key : ∀ (k m i : Nat), s.size - i = k → i ≤ s.size → k < m → (0 : Int) ∉ (sbytes s).take i → cormorantref18_has0.L0 z s m (i : Int) = some (decide ((0 : Int) ∈ sbytes s)) := by
  intro k
  induction k with
  | zero =>
   intro m i h1 h2 h3 h4
   obtain ⟨m, rfl⟩ : ∃ q, m = q + 1 := ⟨m - 1, by omega⟩
   have : i = s.size := by omega
   subst this
   rw [List.take_of_length_le (by omega)] at h4
   rw [cormorantref18_has0.L0, if_n (by simp), decide_eq_false h4]
  | succ k ih =>
   intro m i h1 h2 h3 h4
   obtain ⟨m, rfl⟩ : ∃ q, m = q + 1 := ⟨m - 1, by omega⟩
   have hi : i < s.size := by omega
   rw [cormorantref18_has0.L0, if_y (by simp; omega), ck_y (by omega), show Int.toNat (i : Int) = i by omega, hg i hi]
   by_cases e : (sbytes s)[i]'(by omega) = 0
   ·rw [if_y (by simpa using e), decide_eq_true (e ▸ List.getElem_mem _)]
   ·rw [if_n (by simpa using e), wI (by omega)]
    refine ih m (i + 1) (by omega) (by omega) (by omega) ?_
    rw [List.take_succ_eq_append_getElem (by omega)]
    simp only [List.mem_append, List.mem_singleton, not_or]
    exact ⟨h4, fun q => e q.symm⟩
 unfold cormorantref18_has0.f
 exact key s.size z 0 (by omega) (by omega) (by omega) (by simp)
theorem ValueMay_f {z : Nat} (hz : 16777216 ≤ z) (v : api_Value) : cormorantref18_ValueMay.f z v = some (decide (1 ≤ v.Type' ∧ v.Type' ≤ 3) && fitB v v.Type') := by
 unfold cormorantref18_ValueMay.f cormorantref18_ValueMay.J0 cormorantref18_ValueMay.J1 cormorantref18_ValueMay.J2 cormorantref18_ValueMay.J3
 by_cases c1 : v.Type' < 1
 ·rw [if_y (by simpa using c1), decide_eq_false (by omega), Bool.false_and]
 rw [if_n (by simpa using c1)]
 by_cases c2 : v.Type' > 3
 ·rw [if_y (by simpa using c2), decide_eq_false (by omega), Bool.false_and]
 rw [if_n (by simpa using c2), decide_eq_true (show 1 ≤ v.Type' ∧ v.Type' ≤ 3 by omega), Bool.true_and, emp]
 by_cases cn : v.Null = true
 ·rw [if_y cn]
  by_cases d1 : v.Int = 0
  ·rw [if_y (by simpa using d1)]
   congr 1
   unfold fitB
   by_cases d2 : v.Text.size = 0
   ·have : (0 : Int) ∉ sbytes v.Text := by
     have := sbytes_len v.Text
     rw [d2] at this
     rw [List.eq_nil_of_length_eq_zero this]; simp
    rw [decide_eq_true d2, decide_eq_true ⟨rfl, fun _ => ⟨d1, d2⟩, fun _ => ⟨d1, by omega, this⟩, fun _ => ⟨d2, .inl d1⟩, fun _ _ => d2⟩]
   ·rw [decide_eq_false d2, decide_eq_false (fun q => d2 (q.2.1 cn).2)]
  ·rw [if_n (by simpa using d1)]
   congr 1
   exact (decide_eq_false fun q => d1 (q.2.1 cn).1).symm
 ·rw [if_n (by simpa using cn)]
  have hn : v.Null = true → v.Int = 0 ∧ v.Text.size = 0 := fun h => absurd h cn
  by_cases e1 : v.Type' = 1
  ·rw [if_y (by simpa using e1)]
   congr 1
   unfold fitB
   by_cases d1 : v.Text.size = 0
   ·rw [decide_eq_true d1, decide_eq_true ⟨rfl, hn, fun h => by omega, fun h => by omega, fun _ _ => d1⟩]
   ·rw [decide_eq_false d1, decide_eq_false (fun q => d1 (q.2.2.2.2 (by omega) (by omega)))]
  rw [if_n (by simpa using e1)]
  by_cases e2 : v.Type' = 2
  ·rw [if_y (by simpa using e2)]
   by_cases d1 : v.Text.size = 0
   ·rw [if_y (by simpa using d1)]
    by_cases d2 : v.Int = 0
    ·rw [if_y (by simpa using d2)]
     congr 1
     exact (decide_eq_true ⟨rfl, hn, fun h => by omega, fun _ => ⟨d1, .inl d2⟩, fun _ h => by omega⟩).symm
    ·rw [if_n (by simpa using d2)]
     congr 1
     unfold fitB
     by_cases d3 : v.Int = 1
     ·rw [decide_eq_true ⟨rfl, hn, fun h => by omega, fun _ => ⟨d1, .inr d3⟩, fun _ h => by omega⟩]
      simpa using d3
     ·rw [decide_eq_false (fun q => by have := (q.2.2.2.1 e2).2; omega)]
      simpa using d3
   ·rw [if_n (by simpa using d1)]
    congr 1
    exact (decide_eq_false fun q => d1 (q.2.2.2.1 e2).1).symm
  rw [if_n (by simpa using e2)]
  have e3 : v.Type' = 3 := by omega
  by_cases d1 : v.Int = 0
  ·rw [if_y (by simpa using d1)]
   by_cases d2 : v.Text.size ≤ 65536
   ·rw [if_y (by simp; omega), has0_f hz (by omega), bd_some]
    congr 1
    unfold fitB
    by_cases d3 : (0 : Int) ∈ sbytes v.Text
    ·rw [decide_eq_true d3, decide_eq_false (fun q => (q.2.2.1 e3).2.2 d3)]
     rfl
    ·rw [decide_eq_false d3, decide_eq_true ⟨rfl, hn, fun _ => ⟨d1, d2, d3⟩, fun h => by omega, fun h => absurd e3 h⟩]
     rfl
   ·rw [if_n (by simp; omega)]
    congr 1
    exact (decide_eq_false fun q => d2 (q.2.2.1 e3).2.1).symm
  ·rw [if_n (by simpa using d1)]
   congr 1
   exact (decide_eq_false fun q => d1 (q.2.2.1 e3).1).symm
def goodAt (t : api_Table) (row : List api_Value) (i : Nat) : Bool := fitB (gi dapi_Value row (i : Int)) (gi dapi_Column t.Columns (i : Int)).Type' && !((gi dapi_Value row (i : Int)).Null && (gi dapi_Column t.Columns (i : Int)).NotNull)
def rowB (t : api_Table) (row : List api_Value) : Bool := decide (row.length = t.Columns.length ∧ ∀ i, i < row.length → goodAt t row i = true)
theorem rowed_f {z : Nat} (hz : 16777216 ≤ z) {t : api_Table} {row : List api_Value} (hr : row.length ≤ 1048576) : rowkey_rowed.f z t row = some (rowB t row) := by
 unfold rowkey_rowed.f
 by_cases hl : row.length = t.Columns.length
 ·rw [if_n (by simp; omega)]
  have key : ∀ (k m i : Nat), row.length - i = k → i ≤ row.length → k < m → (∀ j, j < i → goodAt t row j = true) → rowkey_rowed.L0 z t row m (i : Int) = some (rowB t row) := by
   intro k
   induction k with
   | zero =>
    intro m i h1 h2 h3 h4
    obtain ⟨m, rfl⟩ : ∃ q, m = q + 1 := ⟨m - 1, by omega⟩
    have : i = row.length := by omega
    subst this
    rw [rowkey_rowed.L0, if_n (by simp)]
    congr 1
    exact (decide_eq_true ⟨hl, h4⟩).symm
   | succ k ih =>
    intro m i h1 h2 h3 h4
    obtain ⟨m, rfl⟩ : ∃ q, m = q + 1 := ⟨m - 1, by omega⟩
    have hi : i < row.length := by omega
    have hno : goodAt t row i = false → rowB t row = false := fun h => decide_eq_false fun q => by have := q.2 i hi; rw [h] at this; cases this
    rw [rowkey_rowed.L0, if_y (by simp; omega), ck_y (by omega), ck_y (by omega)]
    have hf : rowkey_fits.f (api_Value.mk (gi dapi_Value row (i : Int)).Type' (gi dapi_Value row (i : Int)).Null (gi dapi_Value row (i : Int)).Int (gi dapi_Value row (i : Int)).Text) (gi dapi_Column t.Columns (i : Int)).Type' = some (fitB (gi dapi_Value row (i : Int)) (gi dapi_Column t.Columns (i : Int)).Type') := fits_f _ _
    rw [hf, bd_some]
    unfold rowkey_rowed.J1 rowkey_rowed.J2
    have hg : goodAt t row i = (fitB (gi dapi_Value row (i : Int)) (gi dapi_Column t.Columns (i : Int)).Type' && !((gi dapi_Value row (i : Int)).Null && (gi dapi_Column t.Columns (i : Int)).NotNull)) := rfl
    rw [wI (by omega)]
    have hgo : goodAt t row i = true → rowkey_rowed.L0 z t row m ((i : Int) + 1) = some (rowB t row) := fun h => ih m (i + 1) (by omega) (by omega) (by omega) fun j hj => by
     by_cases e : j = i
     ·subst e; exact h
     ·exact h4 j (by omega)
    cases c1 : fitB (gi dapi_Value row (i : Int)) (gi dapi_Column t.Columns (i : Int)).Type'
    ·rw [hno (by rw [hg, c1]; rfl)]; rfl
    ·cases c2 : (gi dapi_Value row (i : Int)).Null
     ·rw [hgo (by rw [hg, c1, c2]; rfl)]; rfl
     ·cases c3 : (gi dapi_Column t.Columns (i : Int)).NotNull
      ·rw [hgo (by rw [hg, c1, c2, c3]; rfl)]; rfl
      ·rw [hno (by rw [hg, c1, c2, c3]; rfl)]; rfl
  exact key row.length z 0 (by omega) (by omega) (by omega) (fun j hj => by omega)
 ·rw [if_y (by simp; omega)]
  congr 1
  exact (decide_eq_false fun q => hl q.1).symm
theorem Is_f {z : Nat} (hz : 16777216 ≤ z) {t : api_Table} (ht : tyB t = true) {row : List api_Value} (hr : row.length ≤ 1048576) : cormorantref20_Is.f z t row = some (rowB t row) := by
 unfold cormorantref20_Is.f
 by_cases hl : row.length = t.Columns.length
 ·rw [if_n (by simp; omega)]
  have key : ∀ (k m i : Nat), row.length - i = k → i ≤ row.length → k < m → (∀ j, j < i → goodAt t row j = true) → cormorantref20_Is.L0 z t row m (i : Int) = some (rowB t row) := by
   intro k
   induction k with
   | zero =>
    intro m i h1 h2 h3 h4
    obtain ⟨m, rfl⟩ : ∃ q, m = q + 1 := ⟨m - 1, by omega⟩
    have : i = row.length := by omega
    subst this
    rw [cormorantref20_Is.L0, if_n (by simp)]
    congr 1
    exact (decide_eq_true ⟨hl, h4⟩).symm
   | succ k ih =>
    intro m i h1 h2 h3 h4
    obtain ⟨m, rfl⟩ : ∃ q, m = q + 1 := ⟨m - 1, by omega⟩
    have hi : i < row.length := by omega
    have hno : goodAt t row i = false → rowB t row = false := fun h => decide_eq_false fun q => by have := q.2 i hi; rw [h] at this; cases this
    have hct : 1 ≤ (gi dapi_Column t.Columns (i : Int)).Type' ∧ (gi dapi_Column t.Columns (i : Int)).Type' ≤ 3 := by
     rw [gi_nat _ _ _ (by omega)]
     exact (of_decide_eq_true ht) _ (List.getElem_mem _)
    rw [cormorantref20_Is.L0, if_y (by simp; omega), ck_y (by omega), ValueMay_f hz, bd_some]
    unfold cormorantref20_Is.J1 cormorantref20_Is.J2
    have hg : goodAt t row i = (fitB (gi dapi_Value row (i : Int)) (gi dapi_Column t.Columns (i : Int)).Type' && !((gi dapi_Value row (i : Int)).Null && (gi dapi_Column t.Columns (i : Int)).NotNull)) := rfl
    rw [wI (by omega)]
    have hgo : goodAt t row i = true → cormorantref20_Is.L0 z t row m ((i : Int) + 1) = some (rowB t row) := fun h => ih m (i + 1) (by omega) (by omega) (by omega) fun j hj => by
     by_cases e : j = i
     ·subst e; exact h
     ·exact h4 j (by omega)
    generalize gi dapi_Value row (i : Int) = v at *
    generalize gi dapi_Column t.Columns (i : Int) = c at *
    have hck : ∀ x : Option Bool, Ck ((i : Int) < (t.Columns.length : Int)) x = x := fun x => ck_y (by omega)
    rw [hck, hck, hck]
    by_cases ety : v.Type' = c.Type'
    ·rw [ety, decide_eq_true hct, Bool.true_and]
     cases c1 : fitB v c.Type'
     ·rw [hno (by rw [hg, c1]; rfl)]; rfl
     ·rw [if_n (by rfl), if_n (by simp)]
      cases c2 : v.Null
      ·rw [hgo (by rw [hg, c1, c2]; rfl)]; rfl
      ·cases c3 : c.NotNull
       ·rw [hgo (by rw [hg, c1, c2, c3]; rfl)]; rfl
       ·rw [hno (by rw [hg, c1, c2, c3]; rfl)]; rfl
    ·have : fitB v c.Type' = false := decide_eq_false fun q => ety q.1
     rw [hno (by rw [hg, this]; rfl), if_y (b := v.Type' != c.Type') (by simpa using ety)]
     cases (decide (1 ≤ v.Type' ∧ v.Type' ≤ 3) && fitB v v.Type') <;> rfl
  exact key row.length z 0 (by omega) (by omega) (by omega) (fun j hj => by omega)
 ·rw [if_y (by simp; omega)]
  congr 1
  exact (decide_eq_false fun q => hl q.1).symm
end Go.Proofs.YtohelmfkpmphoaaDoor
namespace Go.Proofs.YtohelmfkpmphoaaDoor
open Go Go.Proofs.YtohelmfkpmphoaaDoor.X
set_option linter.unusedVariables false
set_option linter.unusedSimpArgs false
set_option maxRecDepth 100000
set_option maxHeartbeats 4000000
namespace rowkey_begin
noncomputable def c0 : Code := match Tryd.f26.body with | some c => c | none => .skip
def R (F : List Atom) (x1 : List Int) (A2 : OA) (k3 : Nat) (m4 : Md) (r : (List Int)) : Ending → World → Prop := fun e w' => ∃ (A22 : OA), ∃ (k23 : Nat), e = .returned (.slice A22 r.length k23) ∧ SL ([sl .own ku8 A22 k23 r, sl m4 ki64 A2 k3 x1] ++ F) w'
def L0 (z : Nat) (x1 : List Int) : Nat → (List Int) → Int → Option (List Int)
 | 0, _, _ => none
 | m + 1, x6, x9 => If (decide (x9 < (x1.length : Int))) (Ck (0 ≤ x9 ∧ x9 < (x1.length : Int)) (Bd (codec_KeyInt.f z (gi (0 : Int) x1 x9)) fun x16 => Ck ((x6.length + x16.length) * 1 ≤ 140737488355328) (L0 z x1 m (x6 ++ x16) (wr .i64 (x9 + 1))))) (Bd (slices_Clip_byte.f x6) fun x12 => some x12)
def f (z : Nat) (x1 : List Int) : Option (List Int) := L0 z x1 z [2] 0
noncomputable def ptL0 : List Item := [.code (cB (cB (cR (cL (cR (cR c0)))))), .inLoop (cB (cB (cR (cL (cR (cR c0)))))), .inBlock 0, .code (cr 3 c0)]
theorem L0_ok (F : List Atom) (r : (List Int)) (z : Nat) (x1 : List Int) (A2 : OA) (k3 : Nat) (m4 : Md) (m : Nat) : ∀ (A7 : OA) (x6 : List Int) (k8 : Nat) (x9 : Int) (a : Act) (w : World), Tm 20 [(3, .slice A7 x6.length k8), (7, .slice A2 x1.length k3), (8, .int .i64 (x1.length : Int)), (9, .int .i64 x9)] a → SL ([sl m4 ki64 A2 k3 x1, sl .own ku8 A7 k8 x6] ++ F) w → L0 z x1 m x6 x9 = some r → Gets Tryd.prog 26 ptL0 a w (R F x1 A2 k3 m4 r) := by
 induction m with
 | zero => intro _ _ _ _ _ _ _ _ H; cases H
 | succ m ih =>
  intro A7 x6 k8 x9 a w T S H
  refine Gets.seq (rg (r_pv T rfl rfl fun _ T => Gets.seq ?_))
  rcases ifE H with ⟨h10, H⟩ | ⟨h10, H⟩
  ·refine cdT T rfl h10 ?_
   refine Gets.skip (Gets.seq (Gets.block (Gets.seq ?_)))
   refine rg ?_
   obtain ⟨h14, H⟩ := ck H
   refine r_ia (ix := 0) T S rfl rfl rfl rfl Tryd.runUnderlying23 Tryd.sizeOf3 h14.1 h14.2 rfl fun _ T => r_ldE (ix := 0) (i := x9) (off := 0) (f := (Value.int .i64)) T S rfl Tryd.isAgg3 rfl (0 : Int) _ rfl rfl (Fld.all _) h14.1 h14.2 (fun h => h) rfl fun _ T => r_pv T rfl rfl fun _ T => rg ?_
   refine r_pv T rfl rfl fun _ T => r_pv T rfl rfl fun _ T => ?_
   obtain ⟨x16, h15, H⟩ := bd H
   refine r_call T Tryd.call55 rfl rfl (codec_KeyInt.ok _ _ z (gi (0 : Int) x1 x9) (S.sel (p := []) (is := []) rfl) _ h15) ?_
   rintro _ _ ⟨A17, k18, rfl, S⟩
   refine ⟨_, rfl, fun _ T => ?_⟩
   replace S : SL ([sl .own ku8 A17 k18 x16, sl m4 ki64 A2 k3 x1, sl .own ku8 A7 k8 x6] ++ F) _ := S.join
   obtain ⟨h21, H⟩ := ck H
   refine r_app (ix := 2) (iy := 0) (xs := x6) (ys := x16) T S rfl rfl rfl rfl (by decide) sty29 Tryd.runUnderlying29 (by decide) h21 rfl fun _ _ A19 k20 S T => ?_
   replace S : SL ([sl .own ku8 A17 k18 x16, sl m4 ki64 A2 k3 x1, sl .own ku8 A19 k20 (x6 ++ x16)] ++ F) _ := S
   refine r_pv T rfl rfl fun _ T => Gets.inBlock (rg (r_pv T rfl rfl fun _ T => ?_))
   refine r_pv T rfl rfl fun _ T => Gets.inLoop ?_
   exact ih A19 (x6 ++ x16) k20 (wr .i64 (x9 + 1)) _ _ (T.sub ⟨rfl, rfl, rfl, rfl, trivial⟩) (S.only (p := [sl m4 ki64 A2 k3 x1, sl .own ku8 A19 k20 (x6 ++ x16)]) [1, 1] rfl) H
  ·refine cdF T rfl h10 ?_
   refine Gets.exit rfl (Gets.seq ?_)
   refine rg (r_pv T rfl rfl fun _ T => ?_)
   obtain ⟨x12, h11, H⟩ := bd H
   refine r_call T Tryd.call30 rfl rfl (slices_Clip_byte.ok _ _ x6 (S.sel (p := [sl .own ku8 A7 k8 x6]) (is := [1]) rfl) _ h11) ?_
   rintro _ _ ⟨A13, rfl, S⟩
   refine ⟨_, rfl, fun _ T => ?_⟩
   replace S : SL ([sl .own ku8 A13 x12.length x12, sl m4 ki64 A2 k3 x1] ++ F) _ := S.join
   refine r_pv T rfl rfl fun _ T => ?_
   replace H := Option.some.inj H
   subst H
   exact rtn T Tryd.func26 rfl rfl ⟨A13, x12.length, rfl, (S.only (p := [sl .own ku8 A13 x12.length x12, sl m4 ki64 A2 k3 x1]) [0, 0] rfl)⟩
theorem ok (F : List Atom) (w : World) (z : Nat) (x1 : List Int) {A2 : OA} {k3 : Nat} {m4 : Md} (S : SL ([sl m4 ki64 A2 k3 x1] ++ F) w) (r : (List Int)) (H : f z x1 = some r) : Calls Tryd.prog 26 #[.slice A2 x1.length k3] w (R F x1 A2 k3 m4 r) := by
 refine enter (vs := [.slice A2 x1.length k3]) Tryd.func26 rfl Tryd.ntmps26 (Nat.le_of_ble_eq_true rfl) fun a T => ?_
 refine Gets.seq (rg (r_pv T rfl rfl fun _ T => Gets.seq ?_))
 refine rg ?_
 replace S := SL.val (κ := ku8) (x := 2) (cs := [.int .u8 2]) (fun _ => rfl) S
 refine r_bsl (κ := ku8) (xs := [2]) (vs := [.int .u8 2]) T S sty29 rfl ⟨_, _, rfl, ⟨0, rfl⟩, rfl⟩ rfl (by decide) rfl fun _ _ b5 S T => ?_
 replace S : SL ([sl .own ku8 (some ⟨b5, 0, none⟩) 1 [2], sl m4 ki64 A2 k3 x1] ++ F) _ := S.only [0, 1] rfl
 refine r_pv T rfl rfl fun _ T => ?_
 refine Gets.seq (Gets.seq ?_)
 refine rg (r_pv T rfl rfl fun _ T => r_lenS T rfl Tryd.runUnderlying23 rfl fun _ T => r_pv T rfl rfl fun _ T => ?_)
 refine Gets.block (Gets.loop ?_)
 have T := T.re (s := 3) (v' := .slice (some ⟨b5, 0, none⟩) [2].length 1) rfl (by simp)
 exact L0_ok F r z x1 A2 k3 m4 z (some ⟨b5, 0, none⟩) [2] 1 0 _ _ (T.sub ⟨rfl, rfl, rfl, rfl, trivial⟩) (S.only (p := [sl m4 ki64 A2 k3 x1, sl .own ku8 (some ⟨b5, 0, none⟩) 1 [2]]) [1, 0] rfl) H
end rowkey_begin
end Go.Proofs.YtohelmfkpmphoaaDoor
namespace Go.Proofs.YtohelmfkpmphoaaDoor
open Go Go.Proofs.YtohelmfkpmphoaaDoor.X
set_option linter.unusedVariables false
set_option linter.unusedSimpArgs false
set_option maxRecDepth 100000
set_option maxHeartbeats 4000000
namespace rowkey_column
def R (F : List Atom) (r : (List Int)) : Ending → World → Prop := fun e w' => ∃ (A26 : OA), ∃ (k27 : Nat), e = .returned (.slice A26 r.length k27) ∧ SL ([sl .own ku8 A26 k27 r] ++ F) w'
def f (z : Nat) (x1 : api_Value) : Option (List Int) := If x1.Null (some [2]) (If (x1.Type' == 1) (Bd (codec_KeyInt.f z x1.Int) fun x8 => Ck (([1].length + x8.length) * 1 ≤ 140737488355328) (some ([1] ++ x8))) (If (x1.Type' == 2) (some [1, wr .u8 x1.Int]) (Bd (codec_KeyText.f z (sbytes x1.Text)) fun x20 => Ck (([1].length + x20.length) * 1 ≤ 140737488355328) (some ([1] ++ x20)))))
abbrev y0 (x1 : api_Value) : List Value := [.int .i64 x1.Type', .bool x1.Null, .int .i64 x1.Int, .string x1.Text]
theorem ok (F : List Atom) (w : World) (z : Nat) (x1 : api_Value) (S : SL ([] ++ F) w) (r : (List Int)) (H : f z x1 = some r) : Calls Tryd.prog 43 #[.agg #[.int .i64 x1.Type', .bool x1.Null, .int .i64 x1.Int, .string x1.Text]] w (R F r) := by
 refine enter (vs := [.agg #[.int .i64 x1.Type', .bool x1.Null, .int .i64 x1.Int, .string x1.Text]]) Tryd.func43 rfl Tryd.ntmps43 (Nat.le_of_ble_eq_true rfl) fun a T => ?_
 refine Gets.seq (rg (r_box T S rfl (cs := (y0 x1)) rfl rfl fun _ _ b2 S T => r_pv T rfl rfl fun _ T => ?_))
 refine Gets.seq (Gets.block (Gets.seq ?_))
 refine rg (r_fa (o' := 1) T rfl Tryd.runUnderlying43 rfl Tryd.sizeOf4 rfl rfl fun _ T => r_ldB (ix := 0) T S rfl Tryd.isAgg4 rfl rfl rfl fun _ T => r_pv T rfl rfl fun _ T => ?_)
 rcases ifE H with ⟨h3, H⟩ | ⟨h3, H⟩
 ·refine cdT T rfl h3 ?_
  refine Gets.seq (rg ?_)
  replace S := SL.val (κ := ku8) (x := 2) (cs := [.int .u8 2]) (fun _ => rfl) S
  refine r_bsl (κ := ku8) (xs := [2]) (vs := [.int .u8 2]) T S sty29 rfl ⟨_, _, rfl, ⟨0, rfl⟩, rfl⟩ rfl (by decide) rfl fun _ _ b4 S T => ?_
  replace S : SL ([sl .own ku8 (some ⟨b4, 0, none⟩) 1 [2], blk b2 (y0 x1)] ++ F) _ := S.only [0, 1] rfl
  refine r_pv T rfl rfl fun _ T => ?_
  replace H := Option.some.inj H
  subst H
  replace T := T.re (s := 2) (v' := .slice (some ⟨b4, 0, none⟩) [2].length 1) rfl (by simp)
  exact rtn T Tryd.func43 rfl rfl ⟨(some ⟨b4, 0, none⟩), 1, rfl, (S.only (p := [sl .own ku8 (some ⟨b4, 0, none⟩) 1 [2]]) [0] rfl)⟩
 ·refine cdF T rfl h3 ?_
  refine Gets.seq (rg (r_fa (o' := 0) T rfl Tryd.runUnderlying43 rfl Tryd.sizeOf3 rfl rfl fun _ T => r_ldB (ix := 0) T S rfl Tryd.isAgg3 rfl rfl rfl fun _ T => ?_))
  refine r_pv T rfl rfl fun _ T => r_pv T rfl rfl fun _ T => ?_
  rcases ifE H with ⟨h5, H⟩ | ⟨h5, H⟩
  ·refine cdT T rfl h5 ?_
   refine Gets.seq (rg ?_)
   replace S := SL.val (κ := ku8) (x := 1) (cs := [.int .u8 1]) (fun _ => rfl) S
   refine r_bsl (κ := ku8) (xs := [1]) (vs := [.int .u8 1]) T S sty29 rfl ⟨_, _, rfl, ⟨0, rfl⟩, rfl⟩ rfl (by decide) rfl fun _ _ b6 S T => ?_
   replace S : SL ([sl .own ku8 (some ⟨b6, 0, none⟩) 1 [1], blk b2 (y0 x1)] ++ F) _ := S.only [0, 1] rfl
   refine r_fa (o' := 2) T rfl Tryd.runUnderlying43 rfl Tryd.sizeOf2 rfl rfl fun _ T => r_ldB (ix := 1) T S rfl Tryd.isAgg2 rfl rfl rfl fun _ T => ?_
   obtain ⟨x8, h7, H⟩ := bd H
   refine r_call T Tryd.call55 rfl rfl (codec_KeyInt.ok _ _ z x1.Int (S.sel (p := []) (is := []) rfl) _ h7) ?_
   rintro _ _ ⟨A9, k10, rfl, S⟩
   refine ⟨_, rfl, fun _ T => ?_⟩
   replace S : SL ([sl .own ku8 A9 k10 x8, sl .own ku8 (some ⟨b6, 0, none⟩) 1 [1], blk b2 (y0 x1)] ++ F) _ := S.join
   obtain ⟨h13, H⟩ := ck H
   refine r_app (ix := 1) (iy := 0) (xs := [1]) (ys := x8) T S rfl rfl rfl rfl (by decide) sty29 Tryd.runUnderlying29 (by decide) h13 rfl fun _ _ A11 k12 S T => ?_
   replace S : SL ([sl .own ku8 A9 k10 x8, sl .own ku8 A11 k12 ([1] ++ x8), blk b2 (y0 x1)] ++ F) _ := S
   refine r_pv T rfl rfl fun _ T => ?_
   replace H := Option.some.inj H
   subst H
   exact rtn T Tryd.func43 rfl rfl ⟨A11, k12, rfl, (S.only (p := [sl .own ku8 A11 k12 ([1] ++ x8)]) [1] rfl)⟩
  ·refine cdF T rfl h5 ?_
   refine Gets.seq (rg (r_fa (o' := 0) T rfl Tryd.runUnderlying43 rfl Tryd.sizeOf3 rfl rfl fun _ T => r_ldB (ix := 0) T S rfl Tryd.isAgg3 rfl rfl rfl fun _ T => ?_))
   refine r_pv T rfl rfl fun _ T => r_pv T rfl rfl fun _ T => ?_
   rcases ifE H with ⟨h14, H⟩ | ⟨h14, H⟩
   ·refine cdT T rfl h14 ?_
    refine Gets.seq (rg (r_fa (o' := 2) T rfl Tryd.runUnderlying43 rfl Tryd.sizeOf2 rfl rfl fun _ T => r_ldB (ix := 0) T S rfl Tryd.isAgg2 rfl rfl rfl fun _ T => ?_))
    refine r_conv T rfl Tryd.runUnderlying2 Tryd.runUnderlying5 rfl fun _ T => ?_
    replace S := SL.val (κ := ku8) (x := 1) (cs := [.int .u8 1]) (fun _ => rfl) S
    replace S := SL.val (κ := ku8) (x := wr .u8 x1.Int) (cs := [.int .u8 (wr .u8 x1.Int)]) (fun _ => rfl) S
    refine r_bsl (κ := ku8) (xs := [1, wr .u8 x1.Int]) (vs := [.int .u8 1, .int .u8 (wr .u8 x1.Int)]) T S sty29 rfl ⟨_, _, rfl, ⟨1, rfl⟩, ⟨_, _, rfl, ⟨0, rfl⟩, rfl⟩⟩ rfl (by decide) rfl fun _ _ b15 S T => ?_
    replace S : SL ([sl .own ku8 (some ⟨b15, 0, none⟩) 2 [1, wr .u8 x1.Int], blk b2 (y0 x1)] ++ F) _ := S.only [0, 2] rfl
    refine r_pv T rfl rfl fun _ T => ?_
    replace H := Option.some.inj H
    subst H
    replace T := T.re (s := 2) (v' := .slice (some ⟨b15, 0, none⟩) [1, wr .u8 x1.Int].length 2) rfl (by simp)
    exact rtn T Tryd.func43 rfl rfl ⟨(some ⟨b15, 0, none⟩), 2, rfl, (S.only (p := [sl .own ku8 (some ⟨b15, 0, none⟩) 2 [1, wr .u8 x1.Int]]) [0] rfl)⟩
   ·refine cdF T rfl h14 ?_
    refine Gets.skip (Gets.inBlock (Gets.seq ?_))
    refine rg ?_
    replace S := SL.val (κ := ku8) (x := 1) (cs := [.int .u8 1]) (fun _ => rfl) S
    refine r_bsl (κ := ku8) (xs := [1]) (vs := [.int .u8 1]) T S sty29 rfl ⟨_, _, rfl, ⟨0, rfl⟩, rfl⟩ rfl (by decide) rfl fun _ _ b16 S T => ?_
    replace S : SL ([sl .own ku8 (some ⟨b16, 0, none⟩) 1 [1], blk b2 (y0 x1)] ++ F) _ := S.only [0, 1] rfl
    refine r_fa (o' := 3) T rfl Tryd.runUnderlying43 rfl Tryd.sizeOf9 rfl rfl fun _ T => r_ldB (ix := 1) T S rfl Tryd.isAgg9 rfl rfl rfl fun _ T => r_s2b T S rfl Tryd.runUnderlying9 Tryd.runUnderlying29 Tryd.runUnderlying5 rfl fun _ _ A17 k18 S T => ?_
    replace S : SL ([sl .ro ku8 A17 k18 (sbytes x1.Text), sl .own ku8 (some ⟨b16, 0, none⟩) 1 [1], blk b2 (y0 x1)] ++ F) _ := S.fixL (i := 0) rfl rfl
    obtain ⟨x20, h19, H⟩ := bd H
    refine r_call T Tryd.call67 rfl rfl (codec_KeyText.ok _ _ z (sbytes x1.Text) (S.sel (p := [sl .ro ku8 A17 k18 (sbytes x1.Text)]) (is := [0]) rfl) _ h19) ?_
    rintro _ _ ⟨A21, k22, rfl, S⟩
    refine ⟨_, rfl, fun _ T => ?_⟩
    replace S : SL ([sl .own ku8 A21 k22 x20, sl .ro ku8 A17 k18 (sbytes x1.Text), sl .own ku8 (some ⟨b16, 0, none⟩) 1 [1], blk b2 (y0 x1)] ++ F) _ := S.join
    obtain ⟨h25, H⟩ := ck H
    refine r_app (ix := 2) (iy := 0) (xs := [1]) (ys := x20) T S rfl rfl rfl rfl (by decide) sty29 Tryd.runUnderlying29 (by decide) h25 rfl fun _ _ A23 k24 S T => ?_
    replace S : SL ([sl .own ku8 A21 k22 x20, sl .ro ku8 A17 k18 (sbytes x1.Text), sl .own ku8 A23 k24 ([1] ++ x20), blk b2 (y0 x1)] ++ F) _ := S
    refine r_pv T rfl rfl fun _ T => ?_
    replace H := Option.some.inj H
    subst H
    exact rtn T Tryd.func43 rfl rfl ⟨A23, k24, rfl, (S.only (p := [sl .own ku8 A23 k24 ([1] ++ x20)]) [2] rfl)⟩
end rowkey_column
end Go.Proofs.YtohelmfkpmphoaaDoor
namespace Go.Proofs.YtohelmfkpmphoaaDoor
open Go Go.Proofs.YtohelmfkpmphoaaDoor.X
set_option linter.unusedVariables false
set_option linter.unusedSimpArgs false
set_option maxRecDepth 100000
set_option maxHeartbeats 4000000
namespace rowkey_columns
noncomputable def c0 : Code := match Tryd.f27.body with | some c => c | none => .skip
def R (F : List Atom) (x1 : List api_Value) (A2 : OA) (k3 : Nat) (m4 : Md) (x5 : List Int) (A6 : OA) (k7 : Nat) (m8 : Md) (r : (List Int)) : Ending → World → Prop := fun e w' => ∃ (A23 : OA), ∃ (k24 : Nat), e = .returned (.slice A23 r.length k24) ∧ SL ([sl .own ku8 A23 k24 r, sl m4 kapi_Value A2 k3 x1, sl m8 ki64 A6 k7 x5] ++ F) w'
def L0 (z : Nat) (x1 : List api_Value) (x5 : List Int) : Nat → (List Int) → Int → Option (List Int)
 | 0, _, _ => none
 | m + 1, x9, x12 => If (decide (x12 < (x5.length : Int))) (Ck (0 ≤ x12 ∧ x12 < (x5.length : Int)) (Ck (0 ≤ gi (0 : Int) x5 x12 ∧ gi (0 : Int) x5 x12 < (x1.length : Int)) (Bd (rowkey_column.f z (gi dapi_Value x1 (gi (0 : Int) x5 x12))) fun x17 => Ck ((x9.length + x17.length) * 1 ≤ 140737488355328) (L0 z x1 x5 m (x9 ++ x17) (wr .i64 (x12 + 1)))))) (some x9)
def f (z : Nat) (x1 : List api_Value) (x5 : List Int) : Option (List Int) := L0 z x1 x5 z [] 0
noncomputable def ptL0 : List Item := [.code (cB (cB (cR (cL (cR (cR c0)))))), .inLoop (cB (cB (cR (cL (cR (cR c0)))))), .inBlock 0, .code (cr 3 c0)]
theorem L0_ok (F : List Atom) (r : (List Int)) (z : Nat) (x1 : List api_Value) (A2 : OA) (k3 : Nat) (m4 : Md) (x5 : List Int) (A6 : OA) (k7 : Nat) (m8 : Md) (m : Nat) : ∀ (A10 : OA) (x9 : List Int) (k11 : Nat) (x12 : Int) (a : Act) (w : World), Tm 23 [(0, .slice A2 x1.length k3), (5, .slice A10 x9.length k11), (8, .slice A6 x5.length k7), (9, .int .i64 (x5.length : Int)), (10, .int .i64 x12)] a → SL ([sl m4 kapi_Value A2 k3 x1, sl m8 ki64 A6 k7 x5, sl .own ku8 A10 k11 x9] ++ F) w → L0 z x1 x5 m x9 x12 = some r → Gets Tryd.prog 27 ptL0 a w (R F x1 A2 k3 m4 x5 A6 k7 m8 r) := by
 induction m with
 | zero => intro _ _ _ _ _ _ _ _ H; cases H
 | succ m ih =>
  intro A10 x9 k11 x12 a w T S H
  refine Gets.seq (rg (r_pv T rfl rfl fun _ T => Gets.seq ?_))
  rcases ifE H with ⟨h13, H⟩ | ⟨h13, H⟩
  ·refine cdT T rfl h13 ?_
   refine Gets.skip (Gets.seq (Gets.block (Gets.seq ?_)))
   refine rg ?_
   obtain ⟨h14, H⟩ := ck H
   refine r_ia (ix := 1) T S rfl rfl rfl rfl Tryd.runUnderlying23 Tryd.sizeOf3 h14.1 h14.2 rfl fun _ T => r_ldE (ix := 1) (i := x12) (off := 0) (f := (Value.int .i64)) T S rfl Tryd.isAgg3 rfl (0 : Int) _ rfl rfl (Fld.all _) h14.1 h14.2 (fun h => h) rfl fun _ T => r_pv T rfl rfl fun _ T => rg ?_
   refine r_pv T rfl rfl fun _ T => r_pv T rfl rfl fun _ T => r_pv T rfl rfl fun _ T => ?_
   obtain ⟨h15, H⟩ := ck H
   refine r_ia (ix := 0) T S rfl rfl rfl rfl Tryd.runUnderlying27 Tryd.sizeOf43 h15.1 h15.2 rfl fun _ T => r_ldEP (ix := 0) (i := gi (0 : Int) x5 x12) (off := 0) (f := pf_api_Value) T S rfl rfl Tryd.isAgg43 Tryd.sizeOf43 dapi_Value rfl (Fld.all _) h15.1 h15.2 pl_api_Value rfl fun _ T => ?_
   obtain ⟨x17, h16, H⟩ := bd H
   refine r_call T Tryd.call43 rfl rfl (rowkey_column.ok _ _ z (gi dapi_Value x1 (gi (0 : Int) x5 x12)) (S.sel (p := []) (is := []) rfl) _ h16) ?_
   rintro _ _ ⟨A18, k19, rfl, S⟩
   refine ⟨_, rfl, fun _ T => ?_⟩
   replace S : SL ([sl .own ku8 A18 k19 x17, sl m4 kapi_Value A2 k3 x1, sl m8 ki64 A6 k7 x5, sl .own ku8 A10 k11 x9] ++ F) _ := S.join
   obtain ⟨h22, H⟩ := ck H
   refine r_app (ix := 3) (iy := 0) (xs := x9) (ys := x17) T S rfl rfl rfl rfl (by decide) sty29 Tryd.runUnderlying29 (by decide) h22 rfl fun _ _ A20 k21 S T => ?_
   replace S : SL ([sl .own ku8 A18 k19 x17, sl m4 kapi_Value A2 k3 x1, sl m8 ki64 A6 k7 x5, sl .own ku8 A20 k21 (x9 ++ x17)] ++ F) _ := S
   refine r_pv T rfl rfl fun _ T => Gets.inBlock (rg (r_pv T rfl rfl fun _ T => ?_))
   refine r_pv T rfl rfl fun _ T => Gets.inLoop ?_
   exact ih A20 (x9 ++ x17) k21 (wr .i64 (x12 + 1)) _ _ (T.sub ⟨rfl, rfl, rfl, rfl, rfl, trivial⟩) (S.only (p := [sl m4 kapi_Value A2 k3 x1, sl m8 ki64 A6 k7 x5, sl .own ku8 A20 k21 (x9 ++ x17)]) [1, 1, 1] rfl) H
  ·refine cdF T rfl h13 ?_
   refine Gets.exit rfl (Gets.seq ?_)
   refine rg (r_pv T rfl rfl fun _ T => r_pv T rfl rfl fun _ T => ?_)
   replace H := Option.some.inj H
   subst H
   exact rtn T Tryd.func27 rfl rfl ⟨A10, k11, rfl, (S.only (p := [sl .own ku8 A10 k11 x9, sl m4 kapi_Value A2 k3 x1, sl m8 ki64 A6 k7 x5]) [2, 0, 0] rfl)⟩
theorem ok (F : List Atom) (w : World) (z : Nat) (x1 : List api_Value) (x5 : List Int) {A2 : OA} {k3 : Nat} {m4 : Md} {A6 : OA} {k7 : Nat} {m8 : Md} (S : SL ([sl m4 kapi_Value A2 k3 x1, sl m8 ki64 A6 k7 x5] ++ F) w) (r : (List Int)) (H : f z x1 x5 = some r) : Calls Tryd.prog 27 #[.slice A2 x1.length k3, .slice A6 x5.length k7] w (R F x1 A2 k3 m4 x5 A6 k7 m8 r) := by
 refine enter (vs := [.slice A2 x1.length k3, .slice A6 x5.length k7]) Tryd.func27 rfl Tryd.ntmps27 (Nat.le_of_ble_eq_true rfl) fun a T => ?_
 refine Gets.seq (rg (r_pv T rfl rfl fun _ T => Gets.seq ?_))
 refine rg (r_pv T rfl rfl fun _ T => ?_)
 refine Gets.seq (Gets.seq ?_)
 refine rg (r_pv T rfl rfl fun _ T => r_lenS T rfl Tryd.runUnderlying23 rfl fun _ T => r_pv T rfl rfl fun _ T => ?_)
 refine Gets.block (Gets.loop ?_)
 replace S := S.nil ku8 .own
 exact L0_ok F r z x1 A2 k3 m4 x5 A6 k7 m8 z none [] 0 0 _ _ (T.sub ⟨rfl, rfl, rfl, rfl, rfl, trivial⟩) (S.only (p := [sl m4 kapi_Value A2 k3 x1, sl m8 ki64 A6 k7 x5, sl .own ku8 none 0 []]) [1, 1, 0] rfl) H
end rowkey_columns
end Go.Proofs.YtohelmfkpmphoaaDoor
namespace Go.Proofs.YtohelmfkpmphoaaDoor
open Go Go.Proofs.YtohelmfkpmphoaaDoor.X
set_option linter.unusedVariables false
set_option linter.unusedSimpArgs false
set_option maxRecDepth 100000
set_option maxHeartbeats 4000000
namespace slices_Index_int
noncomputable def c0 : Code := match Tryd.f56.body with | some c => c | none => .skip
def R (F : List Atom) (x1 : List Int) (A2 : OA) (k3 : Nat) (m4 : Md) (r : Int) : Ending → World → Prop := fun e w' => e = .returned (.int .i64 r) ∧ SL ([sl m4 ki64 A2 k3 x1] ++ F) w'
def L0 (z : Nat) (x1 : List Int) (x5 : Int) : Nat → Int → Option Int
 | 0, _ => none
 | m + 1, x6 => If (decide (x6 < (x1.length : Int))) (Ck (0 ≤ x6 ∧ x6 < (x1.length : Int)) (If (x5 == (gi (0 : Int) x1 x6)) (some x6) (L0 z x1 x5 m (wr .i64 (x6 + 1))))) (some (-1))
def f (z : Nat) (x1 : List Int) (x5 : Int) : Option Int := L0 z x1 x5 z 0
noncomputable def ptL0 : List Item := [.code (cB (cB (cR (cL (cR c0))))), .inLoop (cB (cB (cR (cL (cR c0))))), .inBlock 0, .code (cR (cR c0))]
theorem L0_ok (F : List Atom) (r : Int) (z : Nat) (x1 : List Int) (A2 : OA) (k3 : Nat) (m4 : Md) (x5 : Int) (m : Nat) : ∀ (x6 : Int) (a : Act) (w : World), Tm 19 [(0, .slice A2 x1.length k3), (1, .int .i64 x5), (7, .int .i64 (x1.length : Int)), (8, .int .i64 x6)] a → SL ([sl m4 ki64 A2 k3 x1] ++ F) w → L0 z x1 x5 m x6 = some r → Gets Tryd.prog 56 ptL0 a w (R F x1 A2 k3 m4 r) := by
 induction m with
 | zero => intro _ _ _ _ _ H; cases H
 | succ m ih =>
  intro x6 a w T S H
  refine Gets.seq (rg (r_pv T rfl rfl fun _ T => Gets.seq ?_))
  rcases ifE H with ⟨h7, H⟩ | ⟨h7, H⟩
  ·refine cdT T rfl h7 ?_
   refine Gets.skip (Gets.seq (Gets.block (Gets.seq ?_)))
   refine rg (r_pv T rfl rfl fun _ T => r_pv T rfl rfl fun _ T => Gets.seq ?_)
   refine rg (r_pv T rfl rfl fun _ T => r_pv T rfl rfl fun _ T => r_pv T rfl rfl fun _ T => ?_)
   obtain ⟨h8, H⟩ := ck H
   refine r_ia (ix := 0) T S rfl rfl rfl rfl Tryd.runUnderlying23 Tryd.sizeOf3 h8.1 h8.2 rfl fun _ T => r_ldE (ix := 0) (i := x6) (off := 0) (f := (Value.int .i64)) T S rfl Tryd.isAgg3 rfl (0 : Int) _ rfl rfl (Fld.all _) h8.1 h8.2 (fun h => h) rfl fun _ T => r_pv T rfl rfl fun _ T => ?_
   rcases ifE H with ⟨h9, H⟩ | ⟨h9, H⟩
   ·refine cdT T rfl h9 ?_
    refine Gets.seq (rg (r_pv T rfl rfl fun _ T => r_pv T rfl rfl fun _ T => ?_))
    replace H := Option.some.inj H
    subst H
    exact rtn T Tryd.func56 rfl rfl ⟨rfl, (S.only (p := [sl m4 ki64 A2 k3 x1]) [0] rfl)⟩
   ·refine cdF T rfl h9 ?_
    refine Gets.skip (Gets.inBlock ?_)
    refine rg (r_pv T rfl rfl fun _ T => r_pv T rfl rfl fun _ T => Gets.inLoop ?_)
    exact ih (wr .i64 (x6 + 1)) _ _ (T.sub ⟨rfl, rfl, rfl, rfl, trivial⟩) (S.only (p := [sl m4 ki64 A2 k3 x1]) [0] rfl) H
  ·refine cdF T rfl h7 ?_
   refine Gets.exit rfl (Gets.seq ?_)
   refine rg (r_pv T rfl rfl fun _ T => ?_)
   replace H := Option.some.inj H
   subst H
   exact rtn T Tryd.func56 rfl rfl ⟨rfl, (S.only (p := [sl m4 ki64 A2 k3 x1]) [0] rfl)⟩
theorem ok (F : List Atom) (w : World) (z : Nat) (x1 : List Int) (x5 : Int) {A2 : OA} {k3 : Nat} {m4 : Md} (S : SL ([sl m4 ki64 A2 k3 x1] ++ F) w) (r : Int) (H : f z x1 x5 = some r) : Calls Tryd.prog 56 #[.slice A2 x1.length k3, .int .i64 x5] w (R F x1 A2 k3 m4 r) := by
 refine enter (vs := [.slice A2 x1.length k3, .int .i64 x5]) Tryd.func56 rfl Tryd.ntmps56 (Nat.le_of_ble_eq_true rfl) fun a T => ?_
 refine Gets.seq (rg (r_pv T rfl rfl fun _ T => ?_))
 refine Gets.seq (Gets.seq ?_)
 refine rg (r_pv T rfl rfl fun _ T => r_lenS T rfl Tryd.runUnderlying23 rfl fun _ T => r_pv T rfl rfl fun _ T => ?_)
 refine Gets.block (Gets.loop ?_)
 exact L0_ok F r z x1 A2 k3 m4 x5 z 0 _ _ (T.sub ⟨rfl, rfl, rfl, rfl, trivial⟩) (S.only (p := [sl m4 ki64 A2 k3 x1]) [0] rfl) H
end slices_Index_int
end Go.Proofs.YtohelmfkpmphoaaDoor
namespace Go.Proofs.YtohelmfkpmphoaaDoor
open Go Go.Proofs.YtohelmfkpmphoaaDoor.X
set_option linter.unusedVariables false
set_option linter.unusedSimpArgs false
set_option maxRecDepth 100000
set_option maxHeartbeats 4000000
namespace slices_Contains_int
def R (F : List Atom) (x1 : List Int) (A2 : OA) (k3 : Nat) (m4 : Md) (r : Bool) : Ending → World → Prop := fun e w' => e = .returned (.bool r) ∧ SL ([sl m4 ki64 A2 k3 x1] ++ F) w'
def f (z : Nat) (x1 : List Int) (x5 : Int) : Option Bool := Bd (slices_Index_int.f z x1 x5) fun x7 => some (decide (x7 ≥ 0))
theorem ok (F : List Atom) (w : World) (z : Nat) (x1 : List Int) (x5 : Int) {A2 : OA} {k3 : Nat} {m4 : Md} (S : SL ([sl m4 ki64 A2 k3 x1] ++ F) w) (r : Bool) (H : f z x1 x5 = some r) : Calls Tryd.prog 28 #[.slice A2 x1.length k3, .int .i64 x5] w (R F x1 A2 k3 m4 r) := by
 refine enter (vs := [.slice A2 x1.length k3, .int .i64 x5]) Tryd.func28 rfl Tryd.ntmps28 (Nat.le_of_ble_eq_true rfl) fun a T => ?_
 refine Gets.seq (rg (r_pv T rfl rfl fun _ T => Gets.seq ?_))
 refine rg (r_pv T rfl rfl fun _ T => r_pv T rfl rfl fun _ T => ?_)
 obtain ⟨x7, h6, H⟩ := bd H
 refine r_call T Tryd.call56 rfl rfl (slices_Index_int.ok _ _ z x1 x5 (S.sel (p := [sl m4 ki64 A2 k3 x1]) (is := [0]) rfl) _ h6) ?_
 rintro _ _ ⟨rfl, S⟩
 refine ⟨_, rfl, fun _ T => ?_⟩
 replace S : SL ([sl m4 ki64 A2 k3 x1] ++ F) _ := S.join
 refine r_pv T rfl rfl fun _ T => r_pv T rfl rfl fun _ T => ?_
 replace H := Option.some.inj H
 subst H
 exact rtn T Tryd.func28 rfl rfl ⟨rfl, (S.only (p := [sl m4 ki64 A2 k3 x1]) [0] rfl)⟩
end slices_Contains_int
end Go.Proofs.YtohelmfkpmphoaaDoor
namespace Go.Proofs.YtohelmfkpmphoaaDoor
open Go Go.Proofs.YtohelmfkpmphoaaDoor.X
set_option linter.unusedVariables false
set_option linter.unusedSimpArgs false
set_option maxRecDepth 100000
set_option maxHeartbeats 4000000
namespace rowkey_plain
def R (F : List Atom) (r : (List Int)) : Ending → World → Prop := fun e w' => ∃ (A20 : OA), ∃ (k21 : Nat), e = .returned (.slice A20 r.length k21) ∧ SL ([sl .own ku8 A20 k21 r] ++ F) w'
def f (z : Nat) (x1 : api_Value) : Option (List Int) := If x1.Null (some [0]) (If (x1.Type' == 3) (Bd (codec_Text.f z (sbytes x1.Text)) fun x9 => Ck (([1].length + x9.1.length) * 1 ≤ 140737488355328) (some ([1] ++ x9.1))) (Bd (rowkey_column.f z (api_Value.mk x1.Type' x1.Null x1.Int x1.Text)) fun x17 => some x17))
abbrev y0 (x1 : api_Value) : List Value := [.int .i64 x1.Type', .bool x1.Null, .int .i64 x1.Int, .string x1.Text]
theorem ok (F : List Atom) (w : World) (z : Nat) (x1 : api_Value) (S : SL ([] ++ F) w) (r : (List Int)) (H : f z x1 = some r) : Calls Tryd.prog 29 #[.agg #[.int .i64 x1.Type', .bool x1.Null, .int .i64 x1.Int, .string x1.Text]] w (R F r) := by
 refine enter (vs := [.agg #[.int .i64 x1.Type', .bool x1.Null, .int .i64 x1.Int, .string x1.Text]]) Tryd.func29 rfl Tryd.ntmps29 (Nat.le_of_ble_eq_true rfl) fun a T => ?_
 refine Gets.seq (rg (r_box T S rfl (cs := (y0 x1)) rfl rfl fun _ _ b2 S T => r_pv T rfl rfl fun _ T => ?_))
 refine Gets.seq (Gets.block (Gets.seq ?_))
 refine rg (r_fa (o' := 1) T rfl Tryd.runUnderlying43 rfl Tryd.sizeOf4 rfl rfl fun _ T => r_ldB (ix := 0) T S rfl Tryd.isAgg4 rfl rfl rfl fun _ T => r_pv T rfl rfl fun _ T => ?_)
 rcases ifE H with ⟨h3, H⟩ | ⟨h3, H⟩
 ·refine cdT T rfl h3 ?_
  refine Gets.seq (rg ?_)
  replace S := SL.val (κ := ku8) (x := 0) (cs := [.int .u8 0]) (fun _ => rfl) S
  refine r_bsl (κ := ku8) (xs := [0]) (vs := [.int .u8 0]) T S sty29 rfl ⟨_, _, rfl, ⟨0, rfl⟩, rfl⟩ rfl (by decide) rfl fun _ _ b4 S T => ?_
  replace S : SL ([sl .own ku8 (some ⟨b4, 0, none⟩) 1 [0], blk b2 (y0 x1)] ++ F) _ := S.only [0, 1] rfl
  refine r_pv T rfl rfl fun _ T => ?_
  replace H := Option.some.inj H
  subst H
  replace T := T.re (s := 2) (v' := .slice (some ⟨b4, 0, none⟩) [0].length 1) rfl (by simp)
  exact rtn T Tryd.func29 rfl rfl ⟨(some ⟨b4, 0, none⟩), 1, rfl, (S.only (p := [sl .own ku8 (some ⟨b4, 0, none⟩) 1 [0]]) [0] rfl)⟩
 ·refine cdF T rfl h3 ?_
  refine Gets.seq (rg (r_fa (o' := 0) T rfl Tryd.runUnderlying43 rfl Tryd.sizeOf3 rfl rfl fun _ T => r_ldB (ix := 0) T S rfl Tryd.isAgg3 rfl rfl rfl fun _ T => ?_))
  refine r_pv T rfl rfl fun _ T => r_pv T rfl rfl fun _ T => ?_
  rcases ifE H with ⟨h5, H⟩ | ⟨h5, H⟩
  ·refine cdT T rfl h5 ?_
   refine Gets.seq (rg (r_fa (o' := 3) T rfl Tryd.runUnderlying43 rfl Tryd.sizeOf9 rfl rfl fun _ T => r_ldB (ix := 0) T S rfl Tryd.isAgg9 rfl rfl rfl fun _ T => ?_))
   refine r_s2b T S rfl Tryd.runUnderlying9 Tryd.runUnderlying29 Tryd.runUnderlying5 rfl fun _ _ A6 k7 S T => ?_
   replace S : SL ([sl .ro ku8 A6 k7 (sbytes x1.Text), blk b2 (y0 x1)] ++ F) _ := S.fixL (i := 0) rfl rfl
   obtain ⟨x9, h8, H⟩ := bd H
   refine r_call T Tryd.call57 rfl rfl (codec_Text.ok _ _ z (sbytes x1.Text) (S.sel (p := [sl .ro ku8 A6 k7 (sbytes x1.Text)]) (is := [0]) rfl) _ h8) ?_
   rintro _ _ ⟨A10, k11, rfl, S⟩
   refine ⟨_, rfl, fun _ T => ?_⟩
   replace S : SL ([sl .own ku8 A10 k11 x9.1, sl .ro ku8 A6 k7 (sbytes x1.Text), blk b2 (y0 x1)] ++ F) _ := S.join
   refine r_pv T rfl rfl fun _ T => r_pv T rfl rfl fun _ T => r_pv T rfl rfl fun _ T => r_pv T rfl rfl fun _ T => ?_
   refine r_pv T rfl rfl fun _ T => Gets.seq (rg ?_)
   replace S := SL.val (κ := ku8) (x := 1) (cs := [.int .u8 1]) (fun _ => rfl) S
   refine r_bsl (κ := ku8) (xs := [1]) (vs := [.int .u8 1]) T S sty29 rfl ⟨_, _, rfl, ⟨0, rfl⟩, rfl⟩ rfl (by decide) rfl fun _ _ b12 S T => ?_
   replace S : SL ([sl .own ku8 (some ⟨b12, 0, none⟩) 1 [1], sl .own ku8 A10 k11 x9.1, sl .ro ku8 A6 k7 (sbytes x1.Text), blk b2 (y0 x1)] ++ F) _ := S.only [0, 1, 1, 1] rfl
   refine r_pv T rfl rfl fun _ T => ?_
   obtain ⟨h15, H⟩ := ck H
   refine r_app (ix := 0) (iy := 1) (xs := [1]) (ys := x9.1) T S rfl rfl rfl rfl (by decide) sty29 Tryd.runUnderlying29 (by decide) h15 rfl fun _ _ A13 k14 S T => ?_
   replace S : SL ([sl .own ku8 A13 k14 ([1] ++ x9.1), sl .own ku8 A10 k11 x9.1, sl .ro ku8 A6 k7 (sbytes x1.Text), blk b2 (y0 x1)] ++ F) _ := S
   refine r_pv T rfl rfl fun _ T => ?_
   replace H := Option.some.inj H
   subst H
   exact rtn T Tryd.func29 rfl rfl ⟨A13, k14, rfl, (S.only (p := [sl .own ku8 A13 k14 ([1] ++ x9.1)]) [0] rfl)⟩
  ·refine cdF T rfl h5 ?_
   refine Gets.skip (Gets.inBlock (Gets.seq ?_))
   refine rg (r_ldBA (ix := 0) (ds := (y0 x1)) T S rfl Tryd.isAgg43 rfl rfl Tryd.sizeOf43 rfl fun _ T => ?_)
   obtain ⟨x17, h16, H⟩ := bd H
   refine r_call T Tryd.call43 rfl rfl (rowkey_column.ok _ _ z (api_Value.mk x1.Type' x1.Null x1.Int x1.Text) (S.sel (p := []) (is := []) rfl) _ h16) ?_
   rintro _ _ ⟨A18, k19, rfl, S⟩
   refine ⟨_, rfl, fun _ T => ?_⟩
   replace S : SL ([sl .own ku8 A18 k19 x17, blk b2 (y0 x1)] ++ F) _ := S.join
   refine r_pv T rfl rfl fun _ T => ?_
   replace H := Option.some.inj H
   subst H
   exact rtn T Tryd.func29 rfl rfl ⟨A18, k19, rfl, (S.only (p := [sl .own ku8 A18 k19 x17]) [0] rfl)⟩
end rowkey_plain
end Go.Proofs.YtohelmfkpmphoaaDoor
namespace Go.Proofs.YtohelmfkpmphoaaDoor
open Go Go.Proofs.YtohelmfkpmphoaaDoor.X
set_option linter.unusedVariables false
set_option linter.unusedSimpArgs false
set_option maxRecDepth 100000
set_option maxHeartbeats 4000000
namespace rowkey_Row
noncomputable def c0 : Code := match Tryd.f7.body with | some c => c | none => .skip
def R (F : List Atom) (x1 : api_Table) (A2 : OA) (k3 : Nat) (A4 : OA) (k5 : Nat) (A6 : OA) (k7 : Nat) (x8 : List api_Value) (A9 : OA) (k10 : Nat) (m11 : Md) (r : api_KV × Int) : Ending → World → Prop := fun e w' => ∃ (A38 : OA), ∃ (k39 : Nat), ∃ (A40 : OA), ∃ (k41 : Nat), e = .returned (.tuple #[.agg #[.slice A38 r.1.Key.length k39, .slice A40 r.1.Value.length k41], .int .i64 r.2]) ∧ SL ([sl .ro ku8 A38 k39 r.1.Key, sl .ro ku8 A40 k41 r.1.Value, sl .ro kapi_Column A2 k3 x1.Columns, sl .ro ki64 A4 k5 x1.Key, sl .ro kapi_Index A6 k7 x1.Indexes, sl m11 kapi_Value A9 k10 x8] ++ F) w'
def J2 (z : Nat) : Option (api_KV × Int) := some ((api_KV.mk ([] : List Int) ([] : List Int)), 201)
def J3 (z : Nat) (q1 : Int → (List Int) → Option (api_KV × Int)) (x1 : api_Table) (x8 : List api_Value) (x23 : Int) (x2542 : (List Int)) (x35 : List Int) : Option (api_KV × Int) := q1 (wr .i64 (x23 + 1)) x35
def L1 (z : Nat) (x1 : api_Table) (x8 : List api_Value) (x2542 : (List Int)) : Nat → Int → (List Int) → Option (api_KV × Int)
 | 0, _, _ => none
 | m + 1, x23, x20 => If (decide (x23 < (x8.length : Int))) (Ck (0 ≤ x23 ∧ x23 < (x8.length : Int)) (Bd (slices_Contains_int.f z x1.Key x23) fun x33 => If (!x33) (Bd (rowkey_plain.f z (api_Value.mk ((gi dapi_Value x8 x23).Type') ((gi dapi_Value x8 x23).Null) ((gi dapi_Value x8 x23).Int) ((gi dapi_Value x8 x23).Text))) fun x2962 => Ck ((x20.length + x2962.length) * 1 ≤ 140737488355328) (J3 z (L1 z x1 x8 x2542 m) x1 x8 x23 x2542 (x20 ++ x2962))) (J3 z (L1 z x1 x8 x2542 m) x1 x8 x23 x2542 x20))) (If (decide ((x2542.length : Int) > 256)) (J2 z) (If (decide ((x20.length : Int) > 65536)) (J2 z) (Bd (slices_Clip_byte.f x20) fun x28 => some ((api_KV.mk x2542 x28), 0))))
def J0 (z : Nat) (x1 : api_Table) (x8 : List api_Value) (x2542 : (List Int)) : Option (api_KV × Int) := L1 z x1 x8 x2542 z 0 []
def f (z : Nat) (x1 : api_Table) (x8 : List api_Value) : Option (api_KV × Int) := Bd (rowkey_tabled.f z x1 x1.Key) fun x15 => If (!x15) (some ((api_KV.mk ([] : List Int) ([] : List Int)), 1)) (Bd (rowkey_rowed.f z x1 x8) fun x18 => If (!x18) (some ((api_KV.mk ([] : List Int) ([] : List Int)), 200)) (Bd (rowkey_begin.f z [x1.Id, 1]) fun x2182 => Bd (rowkey_columns.f z x8 x1.Key) fun x2422 => Bd (slices_Concat_byte.f z [x2182, x2422]) fun x2542 => J0 z x1 x8 x2542))
noncomputable def ptJ2 : List Item := [.code (cL (cT (cR (cL (cr 4 c0))))), .code (cR (cT (cR (cL (cr 4 c0))))), .code (cr 5 c0)]
noncomputable def ptJ3 : List Item := [.code (cr 3 (cB (cB (cR (cL (cr 3 c0)))))), .inLoop (cB (cB (cR (cL (cr 3 c0))))), .inBlock 1, .code (cr 4 c0)]
noncomputable def ptL1 : List Item := [.code (cB (cB (cR (cL (cr 3 c0))))), .inLoop (cB (cB (cR (cL (cr 3 c0))))), .inBlock 1, .code (cr 4 c0)]
noncomputable def ptJ0 : List Item := [.code (cL (cL (cr 3 c0))), .code (cR (cL (cr 3 c0))), .code (cr 4 c0)]
abbrev y0 (b12 : Nat) (x1 : api_Table) (A2 : OA) (k3 : Nat) (A4 : OA) (k5 : Nat) (A6 : OA) (k7 : Nat) : Atom := blk b12 [.int .i64 x1.Id, .string x1.Name, .slice A2 x1.Columns.length k3, .slice A4 x1.Key.length k5, .slice A6 x1.Indexes.length k7]
abbrev y1 : List Value := [.slice none 0 0, .slice none 0 0]
abbrev y2 (b2121 : Nat) (x1 : api_Table) : Atom := sl .own ki64 (some ⟨b2121, 0, none⟩) 2 [x1.Id, 1]
abbrev y3 (A2 : OA) (k3 : Nat) (x1 : api_Table) : Atom := sl .ro kapi_Column A2 k3 x1.Columns
abbrev y4 (A6 : OA) (k7 : Nat) (x1 : api_Table) : Atom := sl .ro kapi_Index A6 k7 x1.Indexes
abbrev y5 (b12 : Nat) (x1 : api_Table) (b2121 : Nat) (A2183 : OA) (x2182 : (List Int)) (k2184 : Nat) (A9 : OA) (x8 : List api_Value) (k10 : Nat) (A4 : OA) (k5 : Nat) (A2423 : OA) (x2422 : (List Int)) (k2424 b2481 : Nat) (A2543 : OA) (x2542 : (List Int)) (k2544 b2661 : Nat) : List (Option (Value × Bool)) := [some (.pointer (some ⟨b12, 0, none⟩), true), some (.int .i64 x1.Id, false), some (.slice (some ⟨b2121, 0, none⟩) 2 2, false), some (.slice A2183 x2182.length k2184, false), some (.slice A9 x8.length k10, false), some (.pointer (some ⟨b12, 3, none⟩), true), some (.slice A4 x1.Key.length k5, false), some (.slice A2423 x2422.length k2424, false), some (.slice (some ⟨b2481, 0, none⟩) 2 2, false), some (.slice A2543 x2542.length k2544, false), some (.agg #[.slice A2543 x2542.length k2544, .slice none 0 0], true), some (.pointer (some ⟨b2661, 0, none⟩), false), none]
abbrev y6 (b2481 : Nat) (x2182 : (List Int)) (x2422 : (List Int)) : Atom := sl .own (kSl ku8) (some ⟨b2481, 0, none⟩) 2 [x2182, x2422]
abbrev y7 (x8 : List api_Value) (x23 : Int) : List Value := [.int .i64 ((gi dapi_Value x8 x23).Type'), .bool ((gi dapi_Value x8 x23).Null), .int .i64 ((gi dapi_Value x8 x23).Int), .string ((gi dapi_Value x8 x23).Text)]
abbrev y8 (b12 : Nat) (x1 : api_Table) (b2121 : Nat) (A2183 : OA) (x2182 : (List Int)) (k2184 : Nat) (A9 : OA) (x8 : List api_Value) (k10 : Nat) (A4 : OA) (k5 : Nat) (A2423 : OA) (x2422 : (List Int)) (k2424 b2481 b2661 : Nat) : List (Option (Value × Bool)) := [some (.pointer (some ⟨b12, 0, none⟩), true), some (.int .i64 x1.Id, false), some (.slice (some ⟨b2121, 0, none⟩) 2 2, false), some (.slice A2183 x2182.length k2184, false), some (.slice A9 x8.length k10, false), some (.pointer (some ⟨b12, 3, none⟩), true), some (.slice A4 x1.Key.length k5, false), some (.slice A2423 x2422.length k2424, false), some (.slice (some ⟨b2481, 0, none⟩) 2 2, false), none, none, some (.pointer (some ⟨b2661, 0, none⟩), false), none]
abbrev y9 (A4 : OA) (k5 : Nat) (x1 : api_Table) : Atom := sl .ro ki64 A4 k5 x1.Key
abbrev y10 (m11 : Md) (A9 : OA) (k10 : Nat) (x8 : List api_Value) : Atom := sl m11 kapi_Value A9 k10 x8
abbrev y11 (b12 : Nat) : Value := .pointer (some ⟨b12, 0, none⟩)
abbrev y12 (b2121 : Nat) : Option (Value × Bool) := some (.slice (some ⟨b2121, 0, none⟩) 2 2, false)
abbrev y13 (b2661 : Nat) : Value := .pointer (some ⟨b2661, 0, none⟩)
abbrev y14 (A2543 : OA) (x2542 : (List Int)) (k2544 : Nat) : List Value := [.slice A2543 x2542.length k2544, .slice none 0 0]
abbrev y15 (b12 : Nat) : Option (Value × Bool) := some (.pointer (some ⟨b12, 3, none⟩), true)
abbrev y16 (x8 : List api_Value) (x23 : Int) : Value := .agg #[.int .i64 ((gi dapi_Value x8 x23).Type'), .bool ((gi dapi_Value x8 x23).Null), .int .i64 ((gi dapi_Value x8 x23).Int), .string ((gi dapi_Value x8 x23).Text)]
abbrev y17 (x1 : api_Table) : Option (Value × Bool) := some (.int .i64 x1.Id, false)
abbrev y18 (A9 : OA) (x8 : List api_Value) (k10 b12 b13 b2661 : Nat) : List (Nat × Value) := [(1, .slice A9 x8.length k10), (2, (y11 b12)), (4, .pointer (some ⟨b13, 0, none⟩)), (6, (y13 b2661))]
abbrev y19 (A2543 : OA) (x2542 : (List Int)) (k2544 : Nat) : Value := .slice A2543 x2542.length k2544
abbrev y20 (A2183 : OA) (x2182 : (List Int)) (k2184 : Nat) : Option (Value × Bool) := some (.slice A2183 x2182.length k2184, false)
abbrev y21 (A4 : OA) (x1 : api_Table) (k5 : Nat) : Value := .slice A4 x1.Key.length k5
abbrev y22 (b2481 : Nat) : Option (Value × Bool) := some (.slice (some ⟨b2481, 0, none⟩) 2 2, false)
abbrev y23 (A2543 : OA) (k2544 : Nat) (x2542 : (List Int)) : Atom := sl .own ku8 A2543 k2544 x2542
abbrev y24 (A9 : OA) (x8 : List api_Value) (k10 : Nat) : Option (Value × Bool) := some (.slice A9 x8.length k10, false)
abbrev y25 (A2423 : OA) (x2422 : (List Int)) (k2424 : Nat) : Option (Value × Bool) := some (.slice A2423 x2422.length k2424, false)
abbrev y26 (b12 : Nat) : Option (Value × Bool) := some (.pointer (some ⟨b12, 3, none⟩), false)
abbrev y27 (A2183 : OA) (k2184 : Nat) (x2182 : (List Int)) : Atom := sl .ro ku8 A2183 k2184 x2182
theorem J2_ok (F : List Atom) (r : api_KV × Int) (z : Nat) (x1 : api_Table) (A2 : OA) (k3 : Nat) (A4 : OA) (k5 : Nat) (A6 : OA) (k7 : Nat) (x8 : List api_Value) (A9 : OA) (k10 : Nat) (m11 : Md) (b13 : Nat) (a : Act) (w : World) (T : Tm 68 [(4, .pointer (some ⟨b13, 0, none⟩))] a) (S : SL ([(y3 A2 k3 x1), (y9 A4 k5 x1), (y4 A6 k7 x1), (y10 m11 A9 k10 x8), blk b13 (y1)] ++ F) w) (H : J2 z = some r) : Gets Tryd.prog 7 ptJ2 a w (R F x1 A2 k3 A4 k5 A6 k7 x8 A9 k10 m11 r) := by
 refine rg (r_build (cs := #[.slice none 0 0, .slice none 0 0]) T stt31 rfl rfl rfl fun _ T => r_stBA (ix := 4) (vs := (y1)) (l' := [(y3 A2 k3 x1), (y9 A4 k5 x1), (y4 A6 k7 x1), (y10 m11 A9 k10 x8), blk b13 (y1)]) T S rfl rfl rfl rfl (by simp) Tryd.sizeOf31 (Nat.le_of_ble_eq_true rfl) rfl fun _ S => ?_)
 refine r_pv T rfl rfl fun _ T => ?_
 replace S := S.nil ku8 .ro
 replace S := S.nil ku8 .ro
 replace H := Option.some.inj H
 subst H
 exact rtnM T S Tryd.func7 rfl ⟨_, _, rfl, ⟨b13, _, 6, rfl, rfl, .inl ⟨Tryd.isAgg31, Tryd.sizeOf31, rfl⟩⟩, ⟨_, _, rfl, rfl, rfl⟩⟩ ⟨none, 0, none, 0, rfl, (S.only (p := [sl .ro ku8 none 0 ([] : List Int), sl .ro ku8 none 0 ([] : List Int), (y3 A2 k3 x1), (y9 A4 k5 x1), (y4 A6 k7 x1), (y10 m11 A9 k10 x8)]) [1, 0, 0, 0, 0, 0] rfl)⟩
theorem J3_ok (F : List Atom) (r : api_KV × Int) (z : Nat) (x1 : api_Table) (A2 : OA) (k3 : Nat) (A4 : OA) (k5 : Nat) (A6 : OA) (k7 : Nat) (x8 : List api_Value) (A9 : OA) (k10 : Nat) (m11 : Md) (b12 b13 b2661 : Nat) (x23 : Int) (A2543 : OA) (x2542 : (List Int)) (k2544 : Nat) (q1 : Int → (List Int) → Option (api_KV × Int)) (hq1 : ∀ (x23 : Int) (A21 : OA) (x20 : List Int) (k22 : Nat) (a : Act) (w : World), Tm 68 [(2, (y11 b12)), (4, .pointer (some ⟨b13, 0, none⟩)), (6, (y13 b2661)), (33, .slice A9 x8.length k10), (34, .int .i64 (x8.length : Int)), (35, .int .i64 x23)] a → SL ([(y3 A2 k3 x1), (y9 A4 k5 x1), (y4 A6 k7 x1), (y10 m11 A9 k10 x8), (y0 b12 x1 A2 k3 A4 k5 A6 k7), blk b13 (y1), blk b2661 [(y19 A2543 x2542 k2544), .slice A21 x20.length k22], (y23 A2543 k2544 x2542), sl .own ku8 A21 k22 x20] ++ F) w → q1 x23 x20 = some r → Gets Tryd.prog 7 ptL1 a w (R F x1 A2 k3 A4 k5 A6 k7 x8 A9 k10 m11 r)) (A36 : OA) (x35 : List Int) (k37 : Nat) (a : Act) (w : World) (T : Tm 68 [(2, (y11 b12)), (4, .pointer (some ⟨b13, 0, none⟩)), (6, (y13 b2661)), (33, .slice A9 x8.length k10), (34, .int .i64 (x8.length : Int)), (35, .int .i64 x23)] a) (S : SL ([(y3 A2 k3 x1), (y9 A4 k5 x1), (y4 A6 k7 x1), (y10 m11 A9 k10 x8), (y0 b12 x1 A2 k3 A4 k5 A6 k7), blk b13 (y1), blk b2661 [(y19 A2543 x2542 k2544), .slice A36 x35.length k37], (y23 A2543 k2544 x2542), sl .own ku8 A36 k37 x35] ++ F) w) (H : J3 z q1 x1 x8 x23 x2542 x35 = some r) : Gets Tryd.prog 7 ptJ3 a w (R F x1 A2 k3 A4 k5 A6 k7 x8 A9 k10 m11 r) := by
 refine rg (r_pv T rfl rfl fun _ T => r_pv T rfl rfl fun _ T => Gets.inLoop ?_)
 exact hq1 (wr .i64 (x23 + 1)) A36 x35 k37 _ _ (T.sub ⟨rfl, rfl, rfl, rfl, rfl, rfl, trivial⟩) (S.only (p := [(y3 A2 k3 x1), (y9 A4 k5 x1), (y4 A6 k7 x1), (y10 m11 A9 k10 x8), (y0 b12 x1 A2 k3 A4 k5 A6 k7), blk b13 (y1), blk b2661 [(y19 A2543 x2542 k2544), .slice A36 x35.length k37], (y23 A2543 k2544 x2542), sl .own ku8 A36 k37 x35]) [0, 0, 0, 0, 0, 0, 0, 0, 0] rfl) H
theorem L1_ok (F : List Atom) (r : api_KV × Int) (z : Nat) (x1 : api_Table) (A2 : OA) (k3 : Nat) (A4 : OA) (k5 : Nat) (A6 : OA) (k7 : Nat) (x8 : List api_Value) (A9 : OA) (k10 : Nat) (m11 : Md) (b12 b13 b2661 : Nat) (A2543 : OA) (x2542 : (List Int)) (k2544 m : Nat) : ∀ (x23 : Int) (A21 : OA) (x20 : List Int) (k22 : Nat) (a : Act) (w : World), Tm 68 [(2, (y11 b12)), (4, .pointer (some ⟨b13, 0, none⟩)), (6, (y13 b2661)), (33, .slice A9 x8.length k10), (34, .int .i64 (x8.length : Int)), (35, .int .i64 x23)] a → SL ([(y3 A2 k3 x1), (y9 A4 k5 x1), (y4 A6 k7 x1), (y10 m11 A9 k10 x8), (y0 b12 x1 A2 k3 A4 k5 A6 k7), blk b13 (y1), blk b2661 [(y19 A2543 x2542 k2544), .slice A21 x20.length k22], (y23 A2543 k2544 x2542), sl .own ku8 A21 k22 x20] ++ F) w → L1 z x1 x8 x2542 m x23 x20 = some r → Gets Tryd.prog 7 ptL1 a w (R F x1 A2 k3 A4 k5 A6 k7 x8 A9 k10 m11 r) := by
 induction m with
 | zero => intro _ _ _ _ _ _ _ _ H; cases H
 | succ m ih =>
  intro x23 A21 x20 k22 a w T S H
  refine Gets.seq (rg (r_pv T rfl rfl fun _ T => Gets.seq ?_))
  rcases ifE H with ⟨h24, H⟩ | ⟨h24, H⟩
  ·refine cdT T rfl h24 ?_
   refine Gets.skip (Gets.seq (Gets.block (Gets.seq ?_)))
   refine rg (r_pv T rfl rfl fun _ T => ?_)
   obtain ⟨h30, H⟩ := ck H
   refine r_ia (ix := 3) T S rfl rfl rfl rfl Tryd.runUnderlying27 Tryd.sizeOf43 h30.1 h30.2 rfl fun _ T => r_ldEP (ix := 3) (i := x23) (off := 0) (f := pf_api_Value) T S rfl rfl Tryd.isAgg43 Tryd.sizeOf43 dapi_Value rfl (Fld.all _) h30.1 h30.2 pl_api_Value rfl fun _ T => r_alloc T S zv43 (cs := [.int .i64 0, .bool false, .int .i64 0, .string (⟨#[]⟩ : ByteArray)]) rfl rfl fun _ _ b31 S T => r_pv T rfl rfl fun _ T => ?_
   refine r_stBA (ix := 0) (vs := (y7 x8 x23)) (l' := [blk b31 (y7 x8 x23), (y3 A2 k3 x1), (y9 A4 k5 x1), (y4 A6 k7 x1), (y10 m11 A9 k10 x8), (y0 b12 x1 A2 k3 A4 k5 A6 k7), blk b13 (y1), blk b2661 [(y19 A2543 x2542 k2544), .slice A21 x20.length k22], (y23 A2543 k2544 x2542), sl .own ku8 A21 k22 x20]) T S rfl rfl rfl rfl (by simp) Tryd.sizeOf43 (Nat.le_of_ble_eq_true rfl) rfl fun _ S => ?_
   refine Gets.seq (rg (r_fa (o' := 3) T rfl Tryd.runUnderlying26 rfl Tryd.sizeOf23 rfl rfl fun _ T => r_ldB (ix := 5) T S rfl Tryd.isAgg23 rfl rfl rfl fun _ T => ?_))
   refine r_pv T rfl rfl fun _ T => ?_
   replace S := S.dup (i := 2) rfl
   obtain ⟨x33, h32, H⟩ := bd H
   refine r_call T Tryd.call28 rfl rfl (slices_Contains_int.ok _ _ z x1.Key x23 (S.sel (p := [(y9 A4 k5 x1)]) (is := [0]) rfl) _ h32) ?_
   rintro _ _ ⟨rfl, S⟩
   refine ⟨_, rfl, fun _ T => ?_⟩
   replace S : SL ([blk b31 (y7 x8 x23), (y3 A2 k3 x1), (y9 A4 k5 x1), (y4 A6 k7 x1), (y10 m11 A9 k10 x8), (y0 b12 x1 A2 k3 A4 k5 A6 k7), blk b13 (y1), blk b2661 [(y19 A2543 x2542 k2544), .slice A21 x20.length k22], (y23 A2543 k2544 x2542), sl .own ku8 A21 k22 x20] ++ F) _ := S.join.only [1, 1, 1, 1, 1, 1, 1, 1, 1, 1] rfl
   refine r_pv T rfl rfl fun _ T => ?_
   rcases ifE H with ⟨h34, H⟩ | ⟨h34, H⟩
   ·refine cdT T rfl h34 ?_
    refine Gets.drawn (l := [blk b31 (y7 x8 x23), (y3 A2 k3 x1), (y9 A4 k5 x1), (y4 A6 k7 x1), (y10 m11 A9 k10 x8), (y0 b12 x1 A2 k3 A4 k5 A6 k7), blk b13 (y1), blk b2661 [(y19 A2543 x2542 k2544), .slice A21 x20.length k22], (y23 A2543 k2544 x2542), sl .own ku8 A21 k22 x20]) (V := [some (.pointer (some ⟨b2661, 1, none⟩), true), some (.slice A21 x20.length k22, true), some ((y16 x8 x23), true), none, none, none, none]) mixed T S rfl ?_
    refine stage (some 3) rfl rfl ⟨⟨_, _, rfl, (avl [6] rfl), fun _ _ _ T S => r_fa (o' := 1) T rfl Tryd.runUnderlying31 rfl Tryd.sizeOf29 rfl rfl fun _ T => ⟨rfl, T⟩⟩, ⟨_, _, rfl, (avl [45] rfl), fun _ _ _ T S => r_ldB (ix := 7) T S rfl Tryd.isAgg29 rfl rfl rfl fun _ T => ⟨rfl, T⟩⟩, ⟨_, _, rfl, (avl [8] rfl), fun _ _ _ T S => r_ldBA (ix := 0) (ds := (y7 x8 x23)) T S rfl Tryd.isAgg43 rfl rfl Tryd.sizeOf43 rfl fun _ T => ⟨rfl, T⟩⟩, trivial⟩ rfl (fun i hi => ?_) (fun h => by cases h)
    cases hi
    refine ⟨rfl, _, _, rfl, (avl [47] rfl), fun u a w T S => ?_⟩
    obtain ⟨x2962, h2961, H⟩ := bd H
    refine r_call T Tryd.call29 rfl rfl (rowkey_plain.ok _ _ z (api_Value.mk ((gi dapi_Value x8 x23).Type') ((gi dapi_Value x8 x23).Null) ((gi dapi_Value x8 x23).Int) ((gi dapi_Value x8 x23).Text)) (S.sel (p := []) (is := []) rfl) _ h2961) ?_
    rintro _ _ ⟨A2963, k2964, rfl, S⟩
    refine ⟨_, rfl, fun _ T => ?_⟩
    replace S : SL ([sl .own ku8 A2963 k2964 x2962, blk b31 (y7 x8 x23), (y3 A2 k3 x1), (y9 A4 k5 x1), (y4 A6 k7 x1), (y10 m11 A9 k10 x8), (y0 b12 x1 A2 k3 A4 k5 A6 k7), blk b13 (y1), blk b2661 [(y19 A2543 x2542 k2544), .slice A21 x20.length k22], (y23 A2543 k2544 x2542), sl .own ku8 A21 k22 x20] ++ F) _ := S.join
    refine ⟨_, [some (.pointer (some ⟨b2661, 1, none⟩), true), some (.slice A21 x20.length k22, true), some ((y16 x8 x23), false), some (.slice A2963 x2962.length k2964, false), none, none, none], [sl .own ku8 A2963 k2964 x2962, blk b31 (y7 x8 x23), (y3 A2 k3 x1), (y9 A4 k5 x1), (y4 A6 k7 x1), (y10 m11 A9 k10 x8), (y0 b12 x1 A2 k3 A4 k5 A6 k7), blk b13 (y1), blk b2661 [(y19 A2543 x2542 k2544), .slice A21 x20.length k22], (y23 A2543 k2544 x2542), sl .own ku8 A21 k22 x20], rfl, (by repeat first | exact kx0 | apply kxs | apply kxn), rfl, ?_, T, S⟩
    refine stage (some 4) rfl rfl ⟨⟨_, _, rfl, (avl [6] rfl), fun _ _ _ T S => r_fa (o' := 1) T rfl Tryd.runUnderlying31 rfl Tryd.sizeOf29 rfl rfl fun _ T => ⟨rfl, T⟩⟩, ⟨_, _, rfl, (avl [45] rfl), fun _ _ _ T S => r_ldB (ix := 8) T S rfl Tryd.isAgg29 rfl rfl rfl fun _ T => ⟨rfl, T⟩⟩, trivial⟩ rfl (fun i hi => ?_) (fun h => by cases h)
    cases hi
    refine ⟨rfl, _, _, rfl, (avl [46, 48] rfl), fun u a w T S => ?_⟩
    obtain ⟨h3023, H⟩ := ck H
    refine r_app (ix := 10) (iy := 0) (xs := x20) (ys := x2962) T S rfl rfl rfl rfl (by decide) sty29 Tryd.runUnderlying29 (by decide) h3023 rfl fun _ _ A3021 k3022 S T => ?_
    replace S : SL ([sl .own ku8 A2963 k2964 x2962, blk b31 (y7 x8 x23), (y3 A2 k3 x1), (y9 A4 k5 x1), (y4 A6 k7 x1), (y10 m11 A9 k10 x8), (y0 b12 x1 A2 k3 A4 k5 A6 k7), blk b13 (y1), blk b2661 [(y19 A2543 x2542 k2544), .slice A21 x20.length k22], (y23 A2543 k2544 x2542), sl .own ku8 A3021 k3022 (x20 ++ x2962)] ++ F) _ := S
    refine ⟨_, [some (.pointer (some ⟨b2661, 1, none⟩), true), some (.slice A21 x20.length k22, false), some ((y16 x8 x23), false), some (.slice A2963 x2962.length k2964, false), some (.slice A3021 ((x20 ++ x2962).length) k3022, false), some (.pointer (some ⟨b2661, 1, none⟩), true), none], [sl .own ku8 A2963 k2964 x2962, blk b31 (y7 x8 x23), (y3 A2 k3 x1), (y9 A4 k5 x1), (y4 A6 k7 x1), (y10 m11 A9 k10 x8), (y0 b12 x1 A2 k3 A4 k5 A6 k7), blk b13 (y1), blk b2661 [(y19 A2543 x2542 k2544), .slice A21 x20.length k22], (y23 A2543 k2544 x2542), sl .own ku8 A3021 k3022 (x20 ++ x2962)], rfl, (by repeat first | exact kx0 | apply kxs | apply kxn), rfl, ?_, T, S⟩
    refine stage (some 6) rfl rfl ⟨⟨_, _, rfl, (avl [6] rfl), fun _ _ _ T S => r_fa (o' := 1) T rfl Tryd.runUnderlying31 rfl Tryd.sizeOf29 rfl rfl fun _ T => ⟨rfl, T⟩⟩, ⟨_, _, rfl, (avl [6] rfl), fun _ _ _ T S => r_fa (o' := 1) T rfl Tryd.runUnderlying31 rfl Tryd.sizeOf29 rfl rfl fun _ T => ⟨rfl, T⟩⟩, trivial⟩ rfl (fun i hi => ?_) (fun h => by cases h)
    cases hi
    refine ⟨rfl, _, _, rfl, (avl [49, 50] rfl), fun u a w T S => ?_⟩
    refine r_stB (ix := 8) (l' := [sl .own ku8 A2963 k2964 x2962, blk b31 (y7 x8 x23), (y3 A2 k3 x1), (y9 A4 k5 x1), (y4 A6 k7 x1), (y10 m11 A9 k10 x8), (y0 b12 x1 A2 k3 A4 k5 A6 k7), blk b13 (y1), blk b2661 [(y19 A2543 x2542 k2544), .slice A3021 ((x20 ++ x2962).length) k3022], (y23 A2543 k2544 x2542), sl .own ku8 A3021 k3022 (x20 ++ x2962)]) T S rfl rfl rfl Tryd.sizeOf29 rfl (Nat.le_of_ble_eq_true rfl) rfl fun _ S => ?_
    refine ⟨_, [some (.pointer (some ⟨b2661, 1, none⟩), false), some (.slice A21 x20.length k22, false), some ((y16 x8 x23), false), some (.slice A2963 x2962.length k2964, false), some (.slice A3021 ((x20 ++ x2962).length) k3022, false), some (.pointer (some ⟨b2661, 1, none⟩), false), some (undef, false)], [sl .own ku8 A2963 k2964 x2962, blk b31 (y7 x8 x23), (y3 A2 k3 x1), (y9 A4 k5 x1), (y4 A6 k7 x1), (y10 m11 A9 k10 x8), (y0 b12 x1 A2 k3 A4 k5 A6 k7), blk b13 (y1), blk b2661 [(y19 A2543 x2542 k2544), .slice A3021 ((x20 ++ x2962).length) k3022], (y23 A2543 k2544 x2542), sl .own ku8 A3021 k3022 (x20 ++ x2962)], rfl, (by repeat first | exact kx0 | apply kxs | apply kxn), rfl, ?_, T, S⟩
    refine stage none rfl rfl trivial rfl (fun i hi => by cases hi) (fun _ _ a w T hv hb S => ?_)
    replace T := T.sub (r := [(2, (y11 b12)), (4, .pointer (some ⟨b13, 0, none⟩)), (6, (y13 b2661)), (33, .slice A9 x8.length k10), (34, .int .i64 (x8.length : Int)), (35, .int .i64 x23)]) ⟨hb 2 _ rfl rfl, hb 4 _ rfl rfl, hb 6 _ rfl rfl, hb 33 _ rfl rfl, hb 34 _ rfl rfl, hb 35 _ rfl rfl, trivial⟩
    refine Gets.inBlock ?_
    exact J3_ok F r z x1 A2 k3 A4 k5 A6 k7 x8 A9 k10 m11 b12 b13 b2661 x23 A2543 x2542 k2544 (L1 z x1 x8 x2542 m) ih A3021 (x20 ++ x2962) k3022 _ _ (T.sub ⟨rfl, rfl, rfl, rfl, rfl, rfl, trivial⟩) (S.only (p := [(y3 A2 k3 x1), (y9 A4 k5 x1), (y4 A6 k7 x1), (y10 m11 A9 k10 x8), (y0 b12 x1 A2 k3 A4 k5 A6 k7), blk b13 (y1), blk b2661 [(y19 A2543 x2542 k2544), .slice A3021 ((x20 ++ x2962).length) k3022], (y23 A2543 k2544 x2542), sl .own ku8 A3021 k3022 (x20 ++ x2962)]) [2, 2, 2, 2, 2, 2, 2, 2, 2] rfl) H
   ·refine cdF T rfl h34 ?_
    refine Gets.skip (Gets.inBlock ?_)
    exact J3_ok F r z x1 A2 k3 A4 k5 A6 k7 x8 A9 k10 m11 b12 b13 b2661 x23 A2543 x2542 k2544 (L1 z x1 x8 x2542 m) ih A21 x20 k22 _ _ (T.sub ⟨rfl, rfl, rfl, rfl, rfl, rfl, trivial⟩) (S.only (p := [(y3 A2 k3 x1), (y9 A4 k5 x1), (y4 A6 k7 x1), (y10 m11 A9 k10 x8), (y0 b12 x1 A2 k3 A4 k5 A6 k7), blk b13 (y1), blk b2661 [(y19 A2543 x2542 k2544), .slice A21 x20.length k22], (y23 A2543 k2544 x2542), sl .own ku8 A21 k22 x20]) [1, 1, 1, 1, 1, 1, 1, 1, 1] rfl) H
  ·refine cdF T rfl h24 ?_
   refine Gets.exit rfl (Gets.seq (Gets.seq ?_))
   refine rg (r_fa (o' := 0) T rfl Tryd.runUnderlying31 rfl Tryd.sizeOf29 rfl rfl fun _ T => r_ldB (ix := 6) T S rfl Tryd.isAgg29 rfl rfl rfl fun _ T => r_lenS T rfl Tryd.runUnderlying29 rfl fun _ T => ?_)
   refine r_pv T rfl rfl fun _ T => r_pv T rfl rfl fun _ T => ?_
   rcases ifE H with ⟨h25, H⟩ | ⟨h25, H⟩
   ·refine g_no T rfl rfl h25 rfl fun _ T => ?_
    refine g_no T rfl rfl h25 rfl fun _ T => g_no T rfl rfl h25 rfl fun _ T => g_no T rfl rfl h25 rfl fun _ T => r_pickT T rfl h25 rfl rfl fun _ T => ?_
    refine cdT T rfl rfl (Gets.seq ?_)
    exact J2_ok F r z x1 A2 k3 A4 k5 A6 k7 x8 A9 k10 m11 b13 _ _ (T.sub ⟨rfl, trivial⟩) (S.only (p := [(y3 A2 k3 x1), (y9 A4 k5 x1), (y4 A6 k7 x1), (y10 m11 A9 k10 x8), blk b13 (y1)]) [0, 0, 0, 0, 1] rfl) H
   ·refine g_yes T rfl rfl h25 ?_
    refine r_fa (o' := 1) T rfl Tryd.runUnderlying31 rfl Tryd.sizeOf29 rfl rfl fun _ T => g_yes T rfl rfl h25 (r_ldB (ix := 6) T S rfl Tryd.isAgg29 rfl rfl rfl fun _ T => g_yes T rfl rfl h25 ?_)
    refine r_lenS T rfl Tryd.runUnderlying29 rfl fun _ T => g_yes T rfl rfl h25 (r_pv T rfl rfl fun _ T => r_pickF T rfl h25 rfl rfl fun _ T => ?_)
    rcases ifE H with ⟨h26, H⟩ | ⟨h26, H⟩
    ·refine cdT T rfl h26 ?_
     refine Gets.seq ?_
     exact J2_ok F r z x1 A2 k3 A4 k5 A6 k7 x8 A9 k10 m11 b13 _ _ (T.sub ⟨rfl, trivial⟩) (S.only (p := [(y3 A2 k3 x1), (y9 A4 k5 x1), (y4 A6 k7 x1), (y10 m11 A9 k10 x8), blk b13 (y1)]) [0, 0, 0, 0, 1] rfl) H
    ·refine cdF T rfl h26 ?_
     refine Gets.skip (Gets.seq ?_)
     refine rg (r_fa (o' := 1) T rfl Tryd.runUnderlying31 rfl Tryd.sizeOf29 rfl rfl fun _ T => r_ldB (ix := 6) T S rfl Tryd.isAgg29 rfl rfl rfl fun _ T => ?_)
     obtain ⟨x28, h27, H⟩ := bd H
     refine r_call T Tryd.call30 rfl rfl (slices_Clip_byte.ok _ _ x20 (S.sel (p := [sl .own ku8 A21 k22 x20]) (is := [8]) rfl) _ h27) ?_
     rintro _ _ ⟨A29, rfl, S⟩
     refine ⟨_, rfl, fun _ T => ?_⟩
     replace S : SL ([sl .own ku8 A29 x28.length x28, (y3 A2 k3 x1), (y9 A4 k5 x1), (y4 A6 k7 x1), (y10 m11 A9 k10 x8), (y0 b12 x1 A2 k3 A4 k5 A6 k7), blk b13 (y1), blk b2661 [(y19 A2543 x2542 k2544), .slice A21 x20.length k22], (y23 A2543 k2544 x2542)] ++ F) _ := S.join
     refine r_fa (o' := 1) T rfl Tryd.runUnderlying31 rfl Tryd.sizeOf29 rfl rfl fun _ T => r_stB (ix := 7) (l' := [sl .own ku8 A29 x28.length x28, (y3 A2 k3 x1), (y9 A4 k5 x1), (y4 A6 k7 x1), (y10 m11 A9 k10 x8), (y0 b12 x1 A2 k3 A4 k5 A6 k7), blk b13 (y1), blk b2661 [(y19 A2543 x2542 k2544), .slice A29 x28.length x28.length], (y23 A2543 k2544 x2542)]) T S rfl rfl rfl Tryd.sizeOf29 rfl (Nat.le_of_ble_eq_true rfl) rfl fun _ S => Gets.seq (rg ?_)
     refine r_ldBA (ix := 7) (ds := [(y19 A2543 x2542 k2544), .slice A29 x28.length x28.length]) T S rfl Tryd.isAgg31 rfl rfl Tryd.sizeOf31 rfl fun _ T => r_stBA (ix := 6) (vs := [(y19 A2543 x2542 k2544), .slice A29 x28.length x28.length]) (l' := [sl .own ku8 A29 x28.length x28, (y3 A2 k3 x1), (y9 A4 k5 x1), (y4 A6 k7 x1), (y10 m11 A9 k10 x8), (y0 b12 x1 A2 k3 A4 k5 A6 k7), blk b13 [(y19 A2543 x2542 k2544), .slice A29 x28.length x28.length], blk b2661 [(y19 A2543 x2542 k2544), .slice A29 x28.length x28.length], (y23 A2543 k2544 x2542)]) T S rfl rfl rfl rfl (by simp) Tryd.sizeOf31 (Nat.le_of_ble_eq_true rfl) rfl fun _ S => ?_
     refine r_pv T rfl rfl fun _ T => ?_
     replace S : SL ([sl .own ku8 A29 x28.length x28, (y3 A2 k3 x1), (y9 A4 k5 x1), (y4 A6 k7 x1), (y10 m11 A9 k10 x8), (y0 b12 x1 A2 k3 A4 k5 A6 k7), blk b13 [(y19 A2543 x2542 k2544), .slice A29 x28.length x28.length], blk b2661 [(y19 A2543 x2542 k2544), .slice A29 x28.length x28.length], sl .ro ku8 A2543 k2544 x2542] ++ F) _ := S.fixL (i := 8) rfl rfl
     replace S : SL ([sl .ro ku8 A29 x28.length x28, (y3 A2 k3 x1), (y9 A4 k5 x1), (y4 A6 k7 x1), (y10 m11 A9 k10 x8), (y0 b12 x1 A2 k3 A4 k5 A6 k7), blk b13 [(y19 A2543 x2542 k2544), .slice A29 x28.length x28.length], blk b2661 [(y19 A2543 x2542 k2544), .slice A29 x28.length x28.length], sl .ro ku8 A2543 k2544 x2542] ++ F) _ := S.fixL (i := 0) rfl rfl
     replace H := Option.some.inj H
     subst H
     exact rtnM T S Tryd.func7 rfl ⟨_, _, rfl, ⟨b13, _, 6, rfl, rfl, .inl ⟨Tryd.isAgg31, Tryd.sizeOf31, rfl⟩⟩, ⟨_, _, rfl, rfl, rfl⟩⟩ ⟨A2543, k2544, A29, x28.length, rfl, (S.only (p := [sl .ro ku8 A2543 k2544 x2542, sl .ro ku8 A29 x28.length x28, (y3 A2 k3 x1), (y9 A4 k5 x1), (y4 A6 k7 x1), (y10 m11 A9 k10 x8)]) [8, 0, 0, 0, 0, 0] rfl)⟩
theorem J0_ok (F : List Atom) (r : api_KV × Int) (z : Nat) (x1 : api_Table) (A2 : OA) (k3 : Nat) (A4 : OA) (k5 : Nat) (A6 : OA) (k7 : Nat) (x8 : List api_Value) (A9 : OA) (k10 : Nat) (m11 : Md) (b12 b13 b2661 : Nat) (A2543 : OA) (x2542 : (List Int)) (k2544 : Nat) (a : Act) (w : World) (T : Tm 68 (y18 A9 x8 k10 b12 b13 b2661) a) (S : SL ([(y3 A2 k3 x1), (y9 A4 k5 x1), (y4 A6 k7 x1), (y10 m11 A9 k10 x8), (y0 b12 x1 A2 k3 A4 k5 A6 k7), blk b13 (y1), blk b2661 (y14 A2543 x2542 k2544), (y23 A2543 k2544 x2542)] ++ F) w) (H : J0 z x1 x8 x2542 = some r) : Gets Tryd.prog 7 ptJ0 a w (R F x1 A2 k3 A4 k5 A6 k7 x8 A9 k10 m11 r) := by
 refine rg (r_pv T rfl rfl fun _ T => r_lenS T rfl Tryd.runUnderlying27 rfl fun _ T => r_pv T rfl rfl fun _ T => ?_)
 refine Gets.block (Gets.loop ?_)
 replace S := S.nil ku8 .own
 exact L1_ok F r z x1 A2 k3 A4 k5 A6 k7 x8 A9 k10 m11 b12 b13 b2661 A2543 x2542 k2544 z 0 none [] 0 _ _ (T.sub ⟨rfl, rfl, rfl, rfl, rfl, rfl, trivial⟩) (S.only (p := [(y3 A2 k3 x1), (y9 A4 k5 x1), (y4 A6 k7 x1), (y10 m11 A9 k10 x8), (y0 b12 x1 A2 k3 A4 k5 A6 k7), blk b13 (y1), blk b2661 (y14 A2543 x2542 k2544), (y23 A2543 k2544 x2542), sl .own ku8 none 0 []]) [1, 1, 1, 1, 1, 1, 1, 1, 0] rfl) H
theorem ok (F : List Atom) (w : World) (z : Nat) (x1 : api_Table) (x8 : List api_Value) {A2 : OA} {k3 : Nat} {A4 : OA} {k5 : Nat} {A6 : OA} {k7 : Nat} {A9 : OA} {k10 : Nat} {m11 : Md} (S : SL ([(y3 A2 k3 x1), (y9 A4 k5 x1), (y4 A6 k7 x1), (y10 m11 A9 k10 x8)] ++ F) w) (r : api_KV × Int) (H : f z x1 x8 = some r) : Calls Tryd.prog 7 #[.agg #[.int .i64 x1.Id, .string x1.Name, .slice A2 x1.Columns.length k3, (y21 A4 x1 k5), .slice A6 x1.Indexes.length k7], .slice A9 x8.length k10] w (R F x1 A2 k3 A4 k5 A6 k7 x8 A9 k10 m11 r) := by
 refine enter (vs := [.agg #[.int .i64 x1.Id, .string x1.Name, .slice A2 x1.Columns.length k3, (y21 A4 x1 k5), .slice A6 x1.Indexes.length k7], .slice A9 x8.length k10]) Tryd.func7 rfl Tryd.ntmps7 (Nat.le_of_ble_eq_true rfl) fun a T => ?_
 refine Gets.seq (rg (r_box T S rfl (cs := [.int .i64 x1.Id, .string x1.Name, .slice A2 x1.Columns.length k3, (y21 A4 x1 k5), .slice A6 x1.Indexes.length k7]) rfl rfl fun _ _ b12 S T => r_alloc T S zv31 (cs := (y1)) rfl rfl fun _ _ b13 S T => ?_))
 refine r_pv T rfl rfl fun _ T => ?_
 refine Gets.seq (Gets.block (Gets.seq ?_))
 refine rg (r_ldBA (ix := 1) (ds := [.int .i64 x1.Id, .string x1.Name, .slice A2 x1.Columns.length k3, (y21 A4 x1 k5), .slice A6 x1.Indexes.length k7]) T S rfl Tryd.isAgg26 rfl rfl Tryd.sizeOf26 rfl fun _ T => r_fa (o' := 3) T rfl Tryd.runUnderlying26 rfl Tryd.sizeOf23 rfl rfl fun _ T => r_ldB (ix := 1) T S rfl Tryd.isAgg23 rfl rfl rfl fun _ T => ?_)
 replace S := S.dup (i := 2) rfl
 replace S := S.dup (i := 4) rfl
 replace S := S.dup (i := 6) rfl
 replace S := S.dup (i := 6) rfl
 obtain ⟨x15, h14, H⟩ := bd H
 refine r_call T Tryd.call23 rfl rfl (rowkey_tabled.ok _ _ z x1 x1.Key (S.sel (p := [(y3 A2 k3 x1), (y9 A4 k5 x1), (y4 A6 k7 x1), (y9 A4 k5 x1)]) (is := [3, 2, 1, 0]) rfl) _ h14) ?_
 rintro _ _ ⟨rfl, S⟩
 refine ⟨_, rfl, fun _ T => ?_⟩
 replace S : SL ([blk b13 (y1), (y0 b12 x1 A2 k3 A4 k5 A6 k7), (y3 A2 k3 x1), (y9 A4 k5 x1), (y4 A6 k7 x1), (y10 m11 A9 k10 x8)] ++ F) _ := S.join.only [4, 4, 4, 4, 4, 4] rfl
 refine r_pv T rfl rfl fun _ T => r_pv T rfl rfl fun _ T => ?_
 rcases ifE H with ⟨h16, H⟩ | ⟨h16, H⟩
 ·refine cdT T rfl h16 ?_
  refine Gets.seq (rg (r_build (cs := #[.slice none 0 0, .slice none 0 0]) T stt31 rfl rfl rfl fun _ T => r_stBA (ix := 0) (vs := (y1)) (l' := [blk b13 (y1), (y0 b12 x1 A2 k3 A4 k5 A6 k7), (y3 A2 k3 x1), (y9 A4 k5 x1), (y4 A6 k7 x1), (y10 m11 A9 k10 x8)]) T S rfl rfl rfl rfl (by simp) Tryd.sizeOf31 (Nat.le_of_ble_eq_true rfl) rfl fun _ S => ?_))
  refine r_pv T rfl rfl fun _ T => ?_
  replace S := S.nil ku8 .ro
  replace S := S.nil ku8 .ro
  replace H := Option.some.inj H
  subst H
  exact rtnM T S Tryd.func7 rfl ⟨_, _, rfl, ⟨b13, _, 2, rfl, rfl, .inl ⟨Tryd.isAgg31, Tryd.sizeOf31, rfl⟩⟩, ⟨_, _, rfl, rfl, rfl⟩⟩ ⟨none, 0, none, 0, rfl, (S.only (p := [sl .ro ku8 none 0 ([] : List Int), sl .ro ku8 none 0 ([] : List Int), (y3 A2 k3 x1), (y9 A4 k5 x1), (y4 A6 k7 x1), (y10 m11 A9 k10 x8)]) [1, 0, 2, 2, 2, 2] rfl)⟩
 ·refine cdF T rfl h16 ?_
  refine Gets.seq (rg (r_ldBA (ix := 1) (ds := [.int .i64 x1.Id, .string x1.Name, .slice A2 x1.Columns.length k3, (y21 A4 x1 k5), .slice A6 x1.Indexes.length k7]) T S rfl Tryd.isAgg26 rfl rfl Tryd.sizeOf26 rfl fun _ T => r_pv T rfl rfl fun _ T => ?_))
  replace S := S.dup (i := 2) rfl
  replace S := S.dup (i := 4) rfl
  replace S := S.dup (i := 6) rfl
  obtain ⟨x18, h17, H⟩ := bd H
  refine r_call T Tryd.call24 rfl rfl (rowkey_rowed.ok _ _ z x1 x8 (S.sel (p := [(y3 A2 k3 x1), (y9 A4 k5 x1), (y4 A6 k7 x1), (y10 m11 A9 k10 x8)]) (is := [2, 1, 0, 5]) rfl) _ h17) ?_
  rintro _ _ ⟨rfl, S⟩
  refine ⟨_, rfl, fun _ T => ?_⟩
  replace S : SL ([(y10 m11 A9 k10 x8), blk b13 (y1), (y0 b12 x1 A2 k3 A4 k5 A6 k7), (y3 A2 k3 x1), (y9 A4 k5 x1), (y4 A6 k7 x1)] ++ F) _ := S.join.only [3, 3, 3, 3, 3, 3] rfl
  refine r_pv T rfl rfl fun _ T => r_pv T rfl rfl fun _ T => ?_
  rcases ifE H with ⟨h19, H⟩ | ⟨h19, H⟩
  ·refine cdT T rfl h19 ?_
   refine Gets.seq (rg (r_build (cs := #[.slice none 0 0, .slice none 0 0]) T stt31 rfl rfl rfl fun _ T => r_stBA (ix := 1) (vs := (y1)) (l' := [(y10 m11 A9 k10 x8), blk b13 (y1), (y0 b12 x1 A2 k3 A4 k5 A6 k7), (y3 A2 k3 x1), (y9 A4 k5 x1), (y4 A6 k7 x1)]) T S rfl rfl rfl rfl (by simp) Tryd.sizeOf31 (Nat.le_of_ble_eq_true rfl) rfl fun _ S => ?_))
   refine r_pv T rfl rfl fun _ T => ?_
   replace S := S.nil ku8 .ro
   replace S := S.nil ku8 .ro
   replace H := Option.some.inj H
   subst H
   exact rtnM T S Tryd.func7 rfl ⟨_, _, rfl, ⟨b13, _, 3, rfl, rfl, .inl ⟨Tryd.isAgg31, Tryd.sizeOf31, rfl⟩⟩, ⟨_, _, rfl, rfl, rfl⟩⟩ ⟨none, 0, none, 0, rfl, (S.only (p := [sl .ro ku8 none 0 ([] : List Int), sl .ro ku8 none 0 ([] : List Int), (y3 A2 k3 x1), (y9 A4 k5 x1), (y4 A6 k7 x1), (y10 m11 A9 k10 x8)]) [1, 0, 3, 3, 3, 0] rfl)⟩
  ·refine cdF T rfl h19 ?_
   refine Gets.skip (Gets.inBlock (Gets.seq ?_))
   refine Gets.drawn (l := [(y10 m11 A9 k10 x8), blk b13 (y1), (y0 b12 x1 A2 k3 A4 k5 A6 k7), (y3 A2 k3 x1), (y9 A4 k5 x1), (y4 A6 k7 x1)]) (V := [some ((y11 b12), true), some (.int .i64 x1.Id, true), none, none, some (.slice A9 x8.length k10, true), (y15 b12), some ((y21 A4 x1 k5), true), none, none, none, none, none, none]) mixed T S rfl ?_
   refine stageL [2, 11] rfl rfl ⟨⟨_, _, rfl, (avl [2] rfl), fun _ _ _ T S => r_fa (o' := 0) T rfl Tryd.runUnderlying26 rfl Tryd.sizeOf3 rfl rfl fun _ T => ⟨rfl, T⟩⟩, ⟨_, _, rfl, (avl [22] rfl), fun _ _ _ T S => r_ldB (ix := 2) T S rfl Tryd.isAgg3 rfl rfl rfl fun _ T => ⟨rfl, T⟩⟩, ⟨_, _, rfl, (avl [1] rfl), fun _ _ _ T S => r_pv T rfl rfl fun _ T => ⟨rfl, T⟩⟩, ⟨_, _, rfl, (avl [2] rfl), fun _ _ _ T S => r_fa (o' := 3) T rfl Tryd.runUnderlying26 rfl Tryd.sizeOf23 rfl rfl fun _ T => ⟨rfl, T⟩⟩, ⟨_, _, rfl, (avl [27] rfl), fun _ _ _ T S => r_ldB (ix := 2) T S rfl Tryd.isAgg23 rfl rfl rfl fun _ T => ⟨rfl, T⟩⟩, trivial⟩ rfl (fun i hi => ?_) (fun h => by cases h)
   simp only [List.mem_cons, List.not_mem_nil, or_false] at hi
   rcases hi with rfl | rfl
   ·refine ⟨rfl, _, _, rfl, (avl [23] rfl), fun u a w T S => ?_⟩
    replace S := SL.val (κ := ki64) (x := x1.Id) (cs := [.int .i64 x1.Id]) (fun _ => rfl) S
    replace S := SL.val (κ := ki64) (x := 1) (cs := [.int .i64 1]) (fun _ => rfl) S
    refine r_bsl (κ := ki64) (xs := [x1.Id, 1]) (vs := [.int .i64 x1.Id, .int .i64 1]) T S sty23 rfl ⟨_, _, rfl, ⟨1, rfl⟩, ⟨_, _, rfl, ⟨0, rfl⟩, rfl⟩⟩ rfl (by decide) rfl fun _ _ b2121 S T => ?_
    replace S : SL ([(y2 b2121 x1), (y10 m11 A9 k10 x8), blk b13 (y1), (y0 b12 x1 A2 k3 A4 k5 A6 k7), (y3 A2 k3 x1), (y9 A4 k5 x1), (y4 A6 k7 x1)] ++ F) _ := S.only [0, 2, 2, 2, 2, 2, 2] rfl
    refine ⟨_, [some ((y11 b12), true), (y17 x1), (y12 b2121), none, some (.slice A9 x8.length k10, true), (y15 b12), some ((y21 A4 x1 k5), true), none, none, none, none, none, none], [(y2 b2121 x1), (y10 m11 A9 k10 x8), blk b13 (y1), (y0 b12 x1 A2 k3 A4 k5 A6 k7), (y3 A2 k3 x1), (y9 A4 k5 x1), (y4 A6 k7 x1)], rfl, (by repeat first | exact kx0 | apply kxs | apply kxn), rfl, ?_, T, S⟩
    refine stageL [3, 11] rfl rfl ⟨⟨_, _, rfl, (avl [2] rfl), fun _ _ _ T S => r_fa (o' := 0) T rfl Tryd.runUnderlying26 rfl Tryd.sizeOf3 rfl rfl fun _ T => ⟨rfl, T⟩⟩, ⟨_, _, rfl, (avl [1] rfl), fun _ _ _ T S => r_pv T rfl rfl fun _ T => ⟨rfl, T⟩⟩, ⟨_, _, rfl, (avl [2] rfl), fun _ _ _ T S => r_fa (o' := 3) T rfl Tryd.runUnderlying26 rfl Tryd.sizeOf23 rfl rfl fun _ T => ⟨rfl, T⟩⟩, ⟨_, _, rfl, (avl [27] rfl), fun _ _ _ T S => r_ldB (ix := 3) T S rfl Tryd.isAgg23 rfl rfl rfl fun _ T => ⟨rfl, T⟩⟩, trivial⟩ rfl (fun i hi => ?_) (fun h => by cases h)
    simp only [List.mem_cons, List.not_mem_nil, or_false] at hi
    rcases hi with rfl | rfl
    ·refine ⟨rfl, _, _, rfl, (avl [24] rfl), fun u a w T S => ?_⟩
     obtain ⟨x2182, h2181, H⟩ := bd H
     refine r_call T Tryd.call26 rfl rfl (rowkey_begin.ok _ _ z [x1.Id, 1] (S.sel (p := [(y2 b2121 x1)]) (is := [0]) rfl) _ h2181) ?_
     rintro _ _ ⟨A2183, k2184, rfl, S⟩
     refine ⟨_, rfl, fun _ T => ?_⟩
     replace S : SL ([sl .own ku8 A2183 k2184 x2182, (y2 b2121 x1), (y10 m11 A9 k10 x8), blk b13 (y1), (y0 b12 x1 A2 k3 A4 k5 A6 k7), (y3 A2 k3 x1), (y9 A4 k5 x1), (y4 A6 k7 x1)] ++ F) _ := S.join
     refine ⟨_, [some ((y11 b12), true), (y17 x1), (y12 b2121), (y20 A2183 x2182 k2184), some (.slice A9 x8.length k10, true), (y15 b12), some ((y21 A4 x1 k5), true), none, none, none, none, none, none], [sl .own ku8 A2183 k2184 x2182, (y2 b2121 x1), (y10 m11 A9 k10 x8), blk b13 (y1), (y0 b12 x1 A2 k3 A4 k5 A6 k7), (y3 A2 k3 x1), (y9 A4 k5 x1), (y4 A6 k7 x1)], rfl, (by repeat first | exact kx0 | apply kxs | apply kxn), rfl, ?_, T, S⟩
     refine stageL [7, 11] rfl rfl ⟨⟨_, _, rfl, (avl [2] rfl), fun _ _ _ T S => r_fa (o' := 0) T rfl Tryd.runUnderlying26 rfl Tryd.sizeOf3 rfl rfl fun _ T => ⟨rfl, T⟩⟩, ⟨_, _, rfl, (avl [1] rfl), fun _ _ _ T S => r_pv T rfl rfl fun _ T => ⟨rfl, T⟩⟩, ⟨_, _, rfl, (avl [2] rfl), fun _ _ _ T S => r_fa (o' := 3) T rfl Tryd.runUnderlying26 rfl Tryd.sizeOf23 rfl rfl fun _ T => ⟨rfl, T⟩⟩, ⟨_, _, rfl, (avl [27] rfl), fun _ _ _ T S => r_ldB (ix := 4) T S rfl Tryd.isAgg23 rfl rfl rfl fun _ T => ⟨rfl, T⟩⟩, trivial⟩ rfl (fun i hi => ?_) (fun h => by cases h)
     simp only [List.mem_cons, List.not_mem_nil, or_false] at hi
     rcases hi with rfl | rfl
     ·refine ⟨rfl, _, _, rfl, (avl [26, 28] rfl), fun u a w T S => ?_⟩
      replace S := S.dup (i := 6) rfl
      obtain ⟨x2422, h2421, H⟩ := bd H
      refine r_call T Tryd.call27 rfl rfl (rowkey_columns.ok _ _ z x8 x1.Key (S.sel (p := [(y10 m11 A9 k10 x8), (y9 A4 k5 x1)]) (is := [3, 0]) rfl) _ h2421) ?_
      rintro _ _ ⟨A2423, k2424, rfl, S⟩
      refine ⟨_, rfl, fun _ T => ?_⟩
      replace S : SL ([sl .own ku8 A2423 k2424 x2422, (y10 m11 A9 k10 x8), sl .own ku8 A2183 k2184 x2182, (y2 b2121 x1), blk b13 (y1), (y0 b12 x1 A2 k3 A4 k5 A6 k7), (y3 A2 k3 x1), (y9 A4 k5 x1), (y4 A6 k7 x1)] ++ F) _ := S.join.only [0, 0, 1, 1, 1, 1, 1, 1, 1] rfl
      refine ⟨_, [some ((y11 b12), true), (y17 x1), (y12 b2121), (y20 A2183 x2182 k2184), (y24 A9 x8 k10), (y15 b12), some ((y21 A4 x1 k5), false), (y25 A2423 x2422 k2424), none, none, none, none, none], [sl .own ku8 A2423 k2424 x2422, (y10 m11 A9 k10 x8), sl .own ku8 A2183 k2184 x2182, (y2 b2121 x1), blk b13 (y1), (y0 b12 x1 A2 k3 A4 k5 A6 k7), (y3 A2 k3 x1), (y9 A4 k5 x1), (y4 A6 k7 x1)], rfl, (by repeat first | exact kx0 | apply kxs | apply kxn), rfl, ?_, T, S⟩
      refine stageL [8, 11] rfl rfl ⟨⟨_, _, rfl, (avl [2] rfl), fun _ _ _ T S => r_fa (o' := 0) T rfl Tryd.runUnderlying26 rfl Tryd.sizeOf3 rfl rfl fun _ T => ⟨rfl, T⟩⟩, ⟨_, _, rfl, (avl [2] rfl), fun _ _ _ T S => r_fa (o' := 3) T rfl Tryd.runUnderlying26 rfl Tryd.sizeOf23 rfl rfl fun _ T => ⟨rfl, T⟩⟩, trivial⟩ rfl (fun i hi => ?_) (fun h => by cases h)
      simp only [List.mem_cons, List.not_mem_nil, or_false] at hi
      rcases hi with rfl | rfl
      ·refine ⟨rfl, _, _, rfl, (avl [25, 29] rfl), fun u a w T S => ?_⟩
       replace S : SL ([sl .own ku8 A2423 k2424 x2422, (y10 m11 A9 k10 x8), (y27 A2183 k2184 x2182), (y2 b2121 x1), blk b13 (y1), (y0 b12 x1 A2 k3 A4 k5 A6 k7), (y3 A2 k3 x1), (y9 A4 k5 x1), (y4 A6 k7 x1)] ++ F) _ := S.fixL (i := 2) rfl rfl
       replace S := S.asVal (i := 2) (xs := x2182) rfl
       replace S : SL ([rp (kSl ku8) x2182 [.slice A2183 x2182.length k2184], sl .ro ku8 A2423 k2424 x2422, (y10 m11 A9 k10 x8), (y27 A2183 k2184 x2182), (y2 b2121 x1), blk b13 (y1), (y0 b12 x1 A2 k3 A4 k5 A6 k7), (y3 A2 k3 x1), (y9 A4 k5 x1), (y4 A6 k7 x1)] ++ F) _ := S.fixL (i := 1) rfl rfl
       replace S := S.asVal (i := 1) (xs := x2422) rfl
       refine r_bsl (κ := (kSl ku8)) (xs := [x2182, x2422]) (vs := [.slice A2183 x2182.length k2184, .slice A2423 x2422.length k2424]) T S sty92 rfl ⟨_, _, rfl, ⟨1, rfl⟩, ⟨_, _, rfl, ⟨0, rfl⟩, rfl⟩⟩ rfl (by decide) rfl fun _ _ b2481 S T => ?_
       replace S : SL ([(y6 b2481 x2182 x2422), sl .ro ku8 A2423 k2424 x2422, (y10 m11 A9 k10 x8), (y27 A2183 k2184 x2182), (y2 b2121 x1), blk b13 (y1), (y0 b12 x1 A2 k3 A4 k5 A6 k7), (y3 A2 k3 x1), (y9 A4 k5 x1), (y4 A6 k7 x1)] ++ F) _ := S.only [0, 2, 2, 2, 2, 2, 2, 2, 2, 2] rfl
       refine ⟨_, [some ((y11 b12), true), (y17 x1), (y12 b2121), (y20 A2183 x2182 k2184), (y24 A9 x8 k10), (y15 b12), some ((y21 A4 x1 k5), false), (y25 A2423 x2422 k2424), (y22 b2481), none, none, none, none], [(y6 b2481 x2182 x2422), sl .ro ku8 A2423 k2424 x2422, (y10 m11 A9 k10 x8), (y27 A2183 k2184 x2182), (y2 b2121 x1), blk b13 (y1), (y0 b12 x1 A2 k3 A4 k5 A6 k7), (y3 A2 k3 x1), (y9 A4 k5 x1), (y4 A6 k7 x1)], rfl, (by repeat first | exact kx0 | apply kxs | apply kxn), rfl, ?_, T, S⟩
       refine stageL [9, 11] rfl rfl ⟨⟨_, _, rfl, (avl [2] rfl), fun _ _ _ T S => r_fa (o' := 0) T rfl Tryd.runUnderlying26 rfl Tryd.sizeOf3 rfl rfl fun _ T => ⟨rfl, T⟩⟩, ⟨_, _, rfl, (avl [2] rfl), fun _ _ _ T S => r_fa (o' := 3) T rfl Tryd.runUnderlying26 rfl Tryd.sizeOf23 rfl rfl fun _ T => ⟨rfl, T⟩⟩, trivial⟩ rfl (fun i hi => ?_) (fun h => by cases h)
       simp only [List.mem_cons, List.not_mem_nil, or_false] at hi
       rcases hi with rfl | rfl
       ·refine ⟨rfl, _, _, rfl, (avl [30] rfl), fun u a w T S => ?_⟩
        obtain ⟨x2542, h2541, H⟩ := bd H
        refine r_call T Tryd.call25 rfl rfl (slices_Concat_byte.ok _ _ z [x2182, x2422] (S.sel (p := [(y6 b2481 x2182 x2422)]) (is := [0]) rfl) _ h2541) ?_
        rintro _ _ ⟨A2543, k2544, rfl, S⟩
        refine ⟨_, rfl, fun _ T => ?_⟩
        replace S : SL ([(y23 A2543 k2544 x2542), (y6 b2481 x2182 x2422), sl .ro ku8 A2423 k2424 x2422, (y10 m11 A9 k10 x8), (y27 A2183 k2184 x2182), (y2 b2121 x1), blk b13 (y1), (y0 b12 x1 A2 k3 A4 k5 A6 k7), (y3 A2 k3 x1), (y9 A4 k5 x1), (y4 A6 k7 x1)] ++ F) _ := S.join
        refine ⟨_, [some ((y11 b12), true), (y17 x1), (y12 b2121), (y20 A2183 x2182 k2184), (y24 A9 x8 k10), (y15 b12), some ((y21 A4 x1 k5), false), (y25 A2423 x2422 k2424), (y22 b2481), some ((y19 A2543 x2542 k2544), false), some (.agg #[(y19 A2543 x2542 k2544), .slice none 0 0], true), none, none], [(y23 A2543 k2544 x2542), (y6 b2481 x2182 x2422), sl .ro ku8 A2423 k2424 x2422, (y10 m11 A9 k10 x8), (y27 A2183 k2184 x2182), (y2 b2121 x1), blk b13 (y1), (y0 b12 x1 A2 k3 A4 k5 A6 k7), (y3 A2 k3 x1), (y9 A4 k5 x1), (y4 A6 k7 x1)], rfl, (by repeat first | exact kx0 | apply kxs | apply kxn), rfl, ?_, T, S⟩
        refine stage (some 11) rfl rfl ⟨⟨_, _, rfl, (avl [2] rfl), fun _ _ _ T S => r_fa (o' := 0) T rfl Tryd.runUnderlying26 rfl Tryd.sizeOf3 rfl rfl fun _ T => ⟨rfl, T⟩⟩, ⟨_, _, rfl, (avl [2] rfl), fun _ _ _ T S => r_fa (o' := 3) T rfl Tryd.runUnderlying26 rfl Tryd.sizeOf23 rfl rfl fun _ T => ⟨rfl, T⟩⟩, ⟨_, _, rfl, (avl [31] rfl), fun _ _ _ T S => r_build (cs := #[(y19 A2543 x2542 k2544), .slice none 0 0]) T stt31 rfl rfl rfl fun _ T => ⟨rfl, T⟩⟩, trivial⟩ rfl (fun i hi => ?_) (fun h => by cases h)
        cases hi
        refine ⟨rfl, _, [], rfl, trivial, fun u a w T S => ?_⟩
        refine r_alloc T S zv31 (cs := (y1)) rfl rfl fun _ _ b2661 S T => ?_
        refine ⟨_, (y5 b12 x1 b2121 A2183 x2182 k2184 A9 x8 k10 A4 k5 A2423 x2422 k2424 b2481 A2543 x2542 k2544 b2661), [blk b2661 (y1), (y23 A2543 k2544 x2542), (y6 b2481 x2182 x2422), sl .ro ku8 A2423 k2424 x2422, (y10 m11 A9 k10 x8), (y27 A2183 k2184 x2182), (y2 b2121 x1), blk b13 (y1), (y0 b12 x1 A2 k3 A4 k5 A6 k7), (y3 A2 k3 x1), (y9 A4 k5 x1), (y4 A6 k7 x1)], rfl, (by repeat first | exact kx0 | apply kxs | apply kxn), rfl, ?_, T, S⟩
        refine stage (some 12) rfl rfl ⟨⟨_, _, rfl, (avl [2] rfl), fun _ _ _ T S => r_fa (o' := 0) T rfl Tryd.runUnderlying26 rfl Tryd.sizeOf3 rfl rfl fun _ T => ⟨rfl, T⟩⟩, ⟨_, _, rfl, (avl [2] rfl), fun _ _ _ T S => r_fa (o' := 3) T rfl Tryd.runUnderlying26 rfl Tryd.sizeOf23 rfl rfl fun _ T => ⟨rfl, T⟩⟩, ⟨_, _, rfl, (avl [31] rfl), fun _ _ _ T S => r_build (cs := #[(y19 A2543 x2542 k2544), .slice none 0 0]) T stt31 rfl rfl rfl fun _ T => ⟨rfl, T⟩⟩, trivial⟩ rfl (fun i hi => ?_) (fun h => by cases h)
        cases hi
        refine ⟨rfl, _, _, rfl, (avl [6, 32] rfl), fun u a w T S => ?_⟩
        refine r_stBA (ix := 0) (vs := (y14 A2543 x2542 k2544)) (l' := [blk b2661 (y14 A2543 x2542 k2544), (y23 A2543 k2544 x2542), (y6 b2481 x2182 x2422), sl .ro ku8 A2423 k2424 x2422, (y10 m11 A9 k10 x8), (y27 A2183 k2184 x2182), (y2 b2121 x1), blk b13 (y1), (y0 b12 x1 A2 k3 A4 k5 A6 k7), (y3 A2 k3 x1), (y9 A4 k5 x1), (y4 A6 k7 x1)]) T S rfl rfl rfl rfl (by simp) Tryd.sizeOf31 (Nat.le_of_ble_eq_true rfl) rfl fun _ S => ?_
        refine ⟨_, [some ((y11 b12), false), (y17 x1), (y12 b2121), (y20 A2183 x2182 k2184), (y24 A9 x8 k10), (y26 b12), some ((y21 A4 x1 k5), false), (y25 A2423 x2422 k2424), (y22 b2481), some ((y19 A2543 x2542 k2544), false), some (.agg #[(y19 A2543 x2542 k2544), .slice none 0 0], false), some ((y13 b2661), false), some (undef, false)], [blk b2661 (y14 A2543 x2542 k2544), (y23 A2543 k2544 x2542), (y6 b2481 x2182 x2422), sl .ro ku8 A2423 k2424 x2422, (y10 m11 A9 k10 x8), (y27 A2183 k2184 x2182), (y2 b2121 x1), blk b13 (y1), (y0 b12 x1 A2 k3 A4 k5 A6 k7), (y3 A2 k3 x1), (y9 A4 k5 x1), (y4 A6 k7 x1)], rfl, (by repeat first | exact kx0 | apply kxs | apply kxn), rfl, ?_, T, S⟩
        refine stage none rfl rfl trivial rfl (fun i hi => by cases hi) (fun _ _ a w T hv hb S => ?_)
        replace T := T.sub (r := (y18 A9 x8 k10 b12 b13 b2661)) ⟨hb 1 _ rfl rfl, hb 2 _ rfl rfl, hb 4 _ rfl rfl, hv 11 _ 6 rfl rfl rfl, trivial⟩
        refine Gets.seq (Gets.seq ?_)
        exact J0_ok F r z x1 A2 k3 A4 k5 A6 k7 x8 A9 k10 m11 b12 b13 b2661 A2543 x2542 k2544 _ _ (T.sub ⟨rfl, rfl, rfl, rfl, trivial⟩) (S.only (p := [(y3 A2 k3 x1), (y9 A4 k5 x1), (y4 A6 k7 x1), (y10 m11 A9 k10 x8), (y0 b12 x1 A2 k3 A4 k5 A6 k7), blk b13 (y1), blk b2661 (y14 A2543 x2542 k2544), (y23 A2543 k2544 x2542)]) [9, 9, 9, 4, 7, 6, 0, 0] rfl) H
       ·refine ⟨rfl, _, [], rfl, trivial, fun u a w T S => ?_⟩
        refine r_alloc T S zv31 (cs := (y1)) rfl rfl fun _ _ b2661 S T => ?_
        refine ⟨_, (y8 b12 x1 b2121 A2183 x2182 k2184 A9 x8 k10 A4 k5 A2423 x2422 k2424 b2481 b2661), [blk b2661 (y1), (y6 b2481 x2182 x2422), sl .ro ku8 A2423 k2424 x2422, (y10 m11 A9 k10 x8), (y27 A2183 k2184 x2182), (y2 b2121 x1), blk b13 (y1), (y0 b12 x1 A2 k3 A4 k5 A6 k7), (y3 A2 k3 x1), (y9 A4 k5 x1), (y4 A6 k7 x1)], rfl, (by repeat first | exact kx0 | apply kxs | apply kxn), rfl, ?_, T, S⟩
        refine stage (some 9) rfl rfl ⟨⟨_, _, rfl, (avl [2] rfl), fun _ _ _ T S => r_fa (o' := 0) T rfl Tryd.runUnderlying26 rfl Tryd.sizeOf3 rfl rfl fun _ T => ⟨rfl, T⟩⟩, ⟨_, _, rfl, (avl [2] rfl), fun _ _ _ T S => r_fa (o' := 3) T rfl Tryd.runUnderlying26 rfl Tryd.sizeOf23 rfl rfl fun _ T => ⟨rfl, T⟩⟩, trivial⟩ rfl (fun i hi => ?_) (fun h => by cases h)
        cases hi
        refine ⟨rfl, _, _, rfl, (avl [30] rfl), fun u a w T S => ?_⟩
        obtain ⟨x2542, h2541, H⟩ := bd H
        refine r_call T Tryd.call25 rfl rfl (slices_Concat_byte.ok _ _ z [x2182, x2422] (S.sel (p := [(y6 b2481 x2182 x2422)]) (is := [1]) rfl) _ h2541) ?_
        rintro _ _ ⟨A2543, k2544, rfl, S⟩
        refine ⟨_, rfl, fun _ T => ?_⟩
        replace S : SL ([(y23 A2543 k2544 x2542), (y6 b2481 x2182 x2422), blk b2661 (y1), sl .ro ku8 A2423 k2424 x2422, (y10 m11 A9 k10 x8), (y27 A2183 k2184 x2182), (y2 b2121 x1), blk b13 (y1), (y0 b12 x1 A2 k3 A4 k5 A6 k7), (y3 A2 k3 x1), (y9 A4 k5 x1), (y4 A6 k7 x1)] ++ F) _ := S.join
        refine ⟨_, (y5 b12 x1 b2121 A2183 x2182 k2184 A9 x8 k10 A4 k5 A2423 x2422 k2424 b2481 A2543 x2542 k2544 b2661), [(y23 A2543 k2544 x2542), (y6 b2481 x2182 x2422), blk b2661 (y1), sl .ro ku8 A2423 k2424 x2422, (y10 m11 A9 k10 x8), (y27 A2183 k2184 x2182), (y2 b2121 x1), blk b13 (y1), (y0 b12 x1 A2 k3 A4 k5 A6 k7), (y3 A2 k3 x1), (y9 A4 k5 x1), (y4 A6 k7 x1)], rfl, (by repeat first | exact kx0 | apply kxs | apply kxn), rfl, ?_, T, S⟩
        refine stage (some 12) rfl rfl ⟨⟨_, _, rfl, (avl [2] rfl), fun _ _ _ T S => r_fa (o' := 0) T rfl Tryd.runUnderlying26 rfl Tryd.sizeOf3 rfl rfl fun _ T => ⟨rfl, T⟩⟩, ⟨_, _, rfl, (avl [2] rfl), fun _ _ _ T S => r_fa (o' := 3) T rfl Tryd.runUnderlying26 rfl Tryd.sizeOf23 rfl rfl fun _ T => ⟨rfl, T⟩⟩, ⟨_, _, rfl, (avl [31] rfl), fun _ _ _ T S => r_build (cs := #[(y19 A2543 x2542 k2544), .slice none 0 0]) T stt31 rfl rfl rfl fun _ T => ⟨rfl, T⟩⟩, trivial⟩ rfl (fun i hi => ?_) (fun h => by cases h)
        cases hi
        refine ⟨rfl, _, _, rfl, (avl [6, 32] rfl), fun u a w T S => ?_⟩
        refine r_stBA (ix := 2) (vs := (y14 A2543 x2542 k2544)) (l' := [(y23 A2543 k2544 x2542), (y6 b2481 x2182 x2422), blk b2661 (y14 A2543 x2542 k2544), sl .ro ku8 A2423 k2424 x2422, (y10 m11 A9 k10 x8), (y27 A2183 k2184 x2182), (y2 b2121 x1), blk b13 (y1), (y0 b12 x1 A2 k3 A4 k5 A6 k7), (y3 A2 k3 x1), (y9 A4 k5 x1), (y4 A6 k7 x1)]) T S rfl rfl rfl rfl (by simp) Tryd.sizeOf31 (Nat.le_of_ble_eq_true rfl) rfl fun _ S => ?_
        refine ⟨_, [some ((y11 b12), false), (y17 x1), (y12 b2121), (y20 A2183 x2182 k2184), (y24 A9 x8 k10), (y26 b12), some ((y21 A4 x1 k5), false), (y25 A2423 x2422 k2424), (y22 b2481), some ((y19 A2543 x2542 k2544), false), some (.agg #[(y19 A2543 x2542 k2544), .slice none 0 0], false), some ((y13 b2661), false), some (undef, false)], [(y23 A2543 k2544 x2542), (y6 b2481 x2182 x2422), blk b2661 (y14 A2543 x2542 k2544), sl .ro ku8 A2423 k2424 x2422, (y10 m11 A9 k10 x8), (y27 A2183 k2184 x2182), (y2 b2121 x1), blk b13 (y1), (y0 b12 x1 A2 k3 A4 k5 A6 k7), (y3 A2 k3 x1), (y9 A4 k5 x1), (y4 A6 k7 x1)], rfl, (by repeat first | exact kx0 | apply kxs | apply kxn), rfl, ?_, T, S⟩
        refine stage none rfl rfl trivial rfl (fun i hi => by cases hi) (fun _ _ a w T hv hb S => ?_)
        replace T := T.sub (r := (y18 A9 x8 k10 b12 b13 b2661)) ⟨hb 1 _ rfl rfl, hb 2 _ rfl rfl, hb 4 _ rfl rfl, hv 11 _ 6 rfl rfl rfl, trivial⟩
        refine Gets.seq (Gets.seq ?_)
        exact J0_ok F r z x1 A2 k3 A4 k5 A6 k7 x8 A9 k10 m11 b12 b13 b2661 A2543 x2542 k2544 _ _ (T.sub ⟨rfl, rfl, rfl, rfl, trivial⟩) (S.only (p := [(y3 A2 k3 x1), (y9 A4 k5 x1), (y4 A6 k7 x1), (y10 m11 A9 k10 x8), (y0 b12 x1 A2 k3 A4 k5 A6 k7), blk b13 (y1), blk b2661 (y14 A2543 x2542 k2544), (y23 A2543 k2544 x2542)]) [9, 9, 9, 4, 7, 6, 2, 0] rfl) H
      ·refine ⟨rfl, _, [], rfl, trivial, fun u a w T S => ?_⟩
       refine r_alloc T S zv31 (cs := (y1)) rfl rfl fun _ _ b2661 S T => ?_
       refine ⟨_, [some ((y11 b12), true), (y17 x1), (y12 b2121), (y20 A2183 x2182 k2184), (y24 A9 x8 k10), (y15 b12), some ((y21 A4 x1 k5), false), (y25 A2423 x2422 k2424), none, none, none, some ((y13 b2661), false), none], [blk b2661 (y1), sl .own ku8 A2423 k2424 x2422, (y10 m11 A9 k10 x8), sl .own ku8 A2183 k2184 x2182, (y2 b2121 x1), blk b13 (y1), (y0 b12 x1 A2 k3 A4 k5 A6 k7), (y3 A2 k3 x1), (y9 A4 k5 x1), (y4 A6 k7 x1)], rfl, (by repeat first | exact kx0 | apply kxs | apply kxn), rfl, ?_, T, S⟩
       refine stage (some 8) rfl rfl ⟨⟨_, _, rfl, (avl [2] rfl), fun _ _ _ T S => r_fa (o' := 0) T rfl Tryd.runUnderlying26 rfl Tryd.sizeOf3 rfl rfl fun _ T => ⟨rfl, T⟩⟩, ⟨_, _, rfl, (avl [2] rfl), fun _ _ _ T S => r_fa (o' := 3) T rfl Tryd.runUnderlying26 rfl Tryd.sizeOf23 rfl rfl fun _ T => ⟨rfl, T⟩⟩, trivial⟩ rfl (fun i hi => ?_) (fun h => by cases h)
       cases hi
       refine ⟨rfl, _, _, rfl, (avl [25, 29] rfl), fun u a w T S => ?_⟩
       replace S : SL ([blk b2661 (y1), sl .own ku8 A2423 k2424 x2422, (y10 m11 A9 k10 x8), (y27 A2183 k2184 x2182), (y2 b2121 x1), blk b13 (y1), (y0 b12 x1 A2 k3 A4 k5 A6 k7), (y3 A2 k3 x1), (y9 A4 k5 x1), (y4 A6 k7 x1)] ++ F) _ := S.fixL (i := 3) rfl rfl
       replace S := S.asVal (i := 3) (xs := x2182) rfl
       replace S : SL ([rp (kSl ku8) x2182 [.slice A2183 x2182.length k2184], blk b2661 (y1), sl .ro ku8 A2423 k2424 x2422, (y10 m11 A9 k10 x8), (y27 A2183 k2184 x2182), (y2 b2121 x1), blk b13 (y1), (y0 b12 x1 A2 k3 A4 k5 A6 k7), (y3 A2 k3 x1), (y9 A4 k5 x1), (y4 A6 k7 x1)] ++ F) _ := S.fixL (i := 2) rfl rfl
       replace S := S.asVal (i := 2) (xs := x2422) rfl
       refine r_bsl (κ := (kSl ku8)) (xs := [x2182, x2422]) (vs := [.slice A2183 x2182.length k2184, .slice A2423 x2422.length k2424]) T S sty92 rfl ⟨_, _, rfl, ⟨1, rfl⟩, ⟨_, _, rfl, ⟨0, rfl⟩, rfl⟩⟩ rfl (by decide) rfl fun _ _ b2481 S T => ?_
       replace S : SL ([(y6 b2481 x2182 x2422), blk b2661 (y1), sl .ro ku8 A2423 k2424 x2422, (y10 m11 A9 k10 x8), (y27 A2183 k2184 x2182), (y2 b2121 x1), blk b13 (y1), (y0 b12 x1 A2 k3 A4 k5 A6 k7), (y3 A2 k3 x1), (y9 A4 k5 x1), (y4 A6 k7 x1)] ++ F) _ := S.only [0, 2, 2, 2, 2, 2, 2, 2, 2, 2, 2] rfl
       refine ⟨_, (y8 b12 x1 b2121 A2183 x2182 k2184 A9 x8 k10 A4 k5 A2423 x2422 k2424 b2481 b2661), [(y6 b2481 x2182 x2422), blk b2661 (y1), sl .ro ku8 A2423 k2424 x2422, (y10 m11 A9 k10 x8), (y27 A2183 k2184 x2182), (y2 b2121 x1), blk b13 (y1), (y0 b12 x1 A2 k3 A4 k5 A6 k7), (y3 A2 k3 x1), (y9 A4 k5 x1), (y4 A6 k7 x1)], rfl, (by repeat first | exact kx0 | apply kxs | apply kxn), rfl, ?_, T, S⟩
       refine stage (some 9) rfl rfl ⟨⟨_, _, rfl, (avl [2] rfl), fun _ _ _ T S => r_fa (o' := 0) T rfl Tryd.runUnderlying26 rfl Tryd.sizeOf3 rfl rfl fun _ T => ⟨rfl, T⟩⟩, ⟨_, _, rfl, (avl [2] rfl), fun _ _ _ T S => r_fa (o' := 3) T rfl Tryd.runUnderlying26 rfl Tryd.sizeOf23 rfl rfl fun _ T => ⟨rfl, T⟩⟩, trivial⟩ rfl (fun i hi => ?_) (fun h => by cases h)
       cases hi
       refine ⟨rfl, _, _, rfl, (avl [30] rfl), fun u a w T S => ?_⟩
       obtain ⟨x2542, h2541, H⟩ := bd H
       refine r_call T Tryd.call25 rfl rfl (slices_Concat_byte.ok _ _ z [x2182, x2422] (S.sel (p := [(y6 b2481 x2182 x2422)]) (is := [0]) rfl) _ h2541) ?_
       rintro _ _ ⟨A2543, k2544, rfl, S⟩
       refine ⟨_, rfl, fun _ T => ?_⟩
       replace S : SL ([(y23 A2543 k2544 x2542), (y6 b2481 x2182 x2422), blk b2661 (y1), sl .ro ku8 A2423 k2424 x2422, (y10 m11 A9 k10 x8), (y27 A2183 k2184 x2182), (y2 b2121 x1), blk b13 (y1), (y0 b12 x1 A2 k3 A4 k5 A6 k7), (y3 A2 k3 x1), (y9 A4 k5 x1), (y4 A6 k7 x1)] ++ F) _ := S.join
       refine ⟨_, (y5 b12 x1 b2121 A2183 x2182 k2184 A9 x8 k10 A4 k5 A2423 x2422 k2424 b2481 A2543 x2542 k2544 b2661), [(y23 A2543 k2544 x2542), (y6 b2481 x2182 x2422), blk b2661 (y1), sl .ro ku8 A2423 k2424 x2422, (y10 m11 A9 k10 x8), (y27 A2183 k2184 x2182), (y2 b2121 x1), blk b13 (y1), (y0 b12 x1 A2 k3 A4 k5 A6 k7), (y3 A2 k3 x1), (y9 A4 k5 x1), (y4 A6 k7 x1)], rfl, (by repeat first | exact kx0 | apply kxs | apply kxn), rfl, ?_, T, S⟩
       refine stage (some 12) rfl rfl ⟨⟨_, _, rfl, (avl [2] rfl), fun _ _ _ T S => r_fa (o' := 0) T rfl Tryd.runUnderlying26 rfl Tryd.sizeOf3 rfl rfl fun _ T => ⟨rfl, T⟩⟩, ⟨_, _, rfl, (avl [2] rfl), fun _ _ _ T S => r_fa (o' := 3) T rfl Tryd.runUnderlying26 rfl Tryd.sizeOf23 rfl rfl fun _ T => ⟨rfl, T⟩⟩, ⟨_, _, rfl, (avl [31] rfl), fun _ _ _ T S => r_build (cs := #[(y19 A2543 x2542 k2544), .slice none 0 0]) T stt31 rfl rfl rfl fun _ T => ⟨rfl, T⟩⟩, trivial⟩ rfl (fun i hi => ?_) (fun h => by cases h)
       cases hi
       refine ⟨rfl, _, _, rfl, (avl [6, 32] rfl), fun u a w T S => ?_⟩
       refine r_stBA (ix := 2) (vs := (y14 A2543 x2542 k2544)) (l' := [(y23 A2543 k2544 x2542), (y6 b2481 x2182 x2422), blk b2661 (y14 A2543 x2542 k2544), sl .ro ku8 A2423 k2424 x2422, (y10 m11 A9 k10 x8), (y27 A2183 k2184 x2182), (y2 b2121 x1), blk b13 (y1), (y0 b12 x1 A2 k3 A4 k5 A6 k7), (y3 A2 k3 x1), (y9 A4 k5 x1), (y4 A6 k7 x1)]) T S rfl rfl rfl rfl (by simp) Tryd.sizeOf31 (Nat.le_of_ble_eq_true rfl) rfl fun _ S => ?_
       refine ⟨_, [some ((y11 b12), false), (y17 x1), (y12 b2121), (y20 A2183 x2182 k2184), (y24 A9 x8 k10), (y26 b12), some ((y21 A4 x1 k5), false), (y25 A2423 x2422 k2424), (y22 b2481), some ((y19 A2543 x2542 k2544), false), some (.agg #[(y19 A2543 x2542 k2544), .slice none 0 0], false), some ((y13 b2661), false), some (undef, false)], [(y23 A2543 k2544 x2542), (y6 b2481 x2182 x2422), blk b2661 (y14 A2543 x2542 k2544), sl .ro ku8 A2423 k2424 x2422, (y10 m11 A9 k10 x8), (y27 A2183 k2184 x2182), (y2 b2121 x1), blk b13 (y1), (y0 b12 x1 A2 k3 A4 k5 A6 k7), (y3 A2 k3 x1), (y9 A4 k5 x1), (y4 A6 k7 x1)], rfl, (by repeat first | exact kx0 | apply kxs | apply kxn), rfl, ?_, T, S⟩
       refine stage none rfl rfl trivial rfl (fun i hi => by cases hi) (fun _ _ a w T hv hb S => ?_)
       replace T := T.sub (r := (y18 A9 x8 k10 b12 b13 b2661)) ⟨hb 1 _ rfl rfl, hb 2 _ rfl rfl, hb 4 _ rfl rfl, hv 11 _ 6 rfl rfl rfl, trivial⟩
       refine Gets.seq (Gets.seq ?_)
       exact J0_ok F r z x1 A2 k3 A4 k5 A6 k7 x8 A9 k10 m11 b12 b13 b2661 A2543 x2542 k2544 _ _ (T.sub ⟨rfl, rfl, rfl, rfl, trivial⟩) (S.only (p := [(y3 A2 k3 x1), (y9 A4 k5 x1), (y4 A6 k7 x1), (y10 m11 A9 k10 x8), (y0 b12 x1 A2 k3 A4 k5 A6 k7), blk b13 (y1), blk b2661 (y14 A2543 x2542 k2544), (y23 A2543 k2544 x2542)]) [9, 9, 9, 4, 7, 6, 2, 0] rfl) H
     ·refine ⟨rfl, _, [], rfl, trivial, fun u a w T S => ?_⟩
      refine r_alloc T S zv31 (cs := (y1)) rfl rfl fun _ _ b2661 S T => ?_
      refine ⟨_, [some ((y11 b12), true), (y17 x1), (y12 b2121), (y20 A2183 x2182 k2184), some (.slice A9 x8.length k10, true), (y15 b12), some ((y21 A4 x1 k5), true), none, none, none, none, some ((y13 b2661), false), none], [blk b2661 (y1), sl .own ku8 A2183 k2184 x2182, (y2 b2121 x1), (y10 m11 A9 k10 x8), blk b13 (y1), (y0 b12 x1 A2 k3 A4 k5 A6 k7), (y3 A2 k3 x1), (y9 A4 k5 x1), (y4 A6 k7 x1)], rfl, (by repeat first | exact kx0 | apply kxs | apply kxn), rfl, ?_, T, S⟩
      refine stage (some 7) rfl rfl ⟨⟨_, _, rfl, (avl [2] rfl), fun _ _ _ T S => r_fa (o' := 0) T rfl Tryd.runUnderlying26 rfl Tryd.sizeOf3 rfl rfl fun _ T => ⟨rfl, T⟩⟩, ⟨_, _, rfl, (avl [1] rfl), fun _ _ _ T S => r_pv T rfl rfl fun _ T => ⟨rfl, T⟩⟩, ⟨_, _, rfl, (avl [2] rfl), fun _ _ _ T S => r_fa (o' := 3) T rfl Tryd.runUnderlying26 rfl Tryd.sizeOf23 rfl rfl fun _ T => ⟨rfl, T⟩⟩, ⟨_, _, rfl, (avl [27] rfl), fun _ _ _ T S => r_ldB (ix := 5) T S rfl Tryd.isAgg23 rfl rfl rfl fun _ T => ⟨rfl, T⟩⟩, trivial⟩ rfl (fun i hi => ?_) (fun h => by cases h)
      cases hi
      refine ⟨rfl, _, _, rfl, (avl [26, 28] rfl), fun u a w T S => ?_⟩
      replace S := S.dup (i := 7) rfl
      obtain ⟨x2422, h2421, H⟩ := bd H
      refine r_call T Tryd.call27 rfl rfl (rowkey_columns.ok _ _ z x8 x1.Key (S.sel (p := [(y10 m11 A9 k10 x8), (y9 A4 k5 x1)]) (is := [4, 0]) rfl) _ h2421) ?_
      rintro _ _ ⟨A2423, k2424, rfl, S⟩
      refine ⟨_, rfl, fun _ T => ?_⟩
      replace S : SL ([sl .own ku8 A2423 k2424 x2422, (y10 m11 A9 k10 x8), blk b2661 (y1), sl .own ku8 A2183 k2184 x2182, (y2 b2121 x1), blk b13 (y1), (y0 b12 x1 A2 k3 A4 k5 A6 k7), (y3 A2 k3 x1), (y9 A4 k5 x1), (y4 A6 k7 x1)] ++ F) _ := S.join.only [0, 0, 1, 1, 1, 1, 1, 1, 1, 1] rfl
      refine ⟨_, [some ((y11 b12), true), (y17 x1), (y12 b2121), (y20 A2183 x2182 k2184), (y24 A9 x8 k10), (y15 b12), some ((y21 A4 x1 k5), false), (y25 A2423 x2422 k2424), none, none, none, some ((y13 b2661), false), none], [sl .own ku8 A2423 k2424 x2422, (y10 m11 A9 k10 x8), blk b2661 (y1), sl .own ku8 A2183 k2184 x2182, (y2 b2121 x1), blk b13 (y1), (y0 b12 x1 A2 k3 A4 k5 A6 k7), (y3 A2 k3 x1), (y9 A4 k5 x1), (y4 A6 k7 x1)], rfl, (by repeat first | exact kx0 | apply kxs | apply kxn), rfl, ?_, T, S⟩
      refine stage (some 8) rfl rfl ⟨⟨_, _, rfl, (avl [2] rfl), fun _ _ _ T S => r_fa (o' := 0) T rfl Tryd.runUnderlying26 rfl Tryd.sizeOf3 rfl rfl fun _ T => ⟨rfl, T⟩⟩, ⟨_, _, rfl, (avl [2] rfl), fun _ _ _ T S => r_fa (o' := 3) T rfl Tryd.runUnderlying26 rfl Tryd.sizeOf23 rfl rfl fun _ T => ⟨rfl, T⟩⟩, trivial⟩ rfl (fun i hi => ?_) (fun h => by cases h)
      cases hi
      refine ⟨rfl, _, _, rfl, (avl [25, 29] rfl), fun u a w T S => ?_⟩
      replace S : SL ([sl .own ku8 A2423 k2424 x2422, (y10 m11 A9 k10 x8), blk b2661 (y1), (y27 A2183 k2184 x2182), (y2 b2121 x1), blk b13 (y1), (y0 b12 x1 A2 k3 A4 k5 A6 k7), (y3 A2 k3 x1), (y9 A4 k5 x1), (y4 A6 k7 x1)] ++ F) _ := S.fixL (i := 3) rfl rfl
      replace S := S.asVal (i := 3) (xs := x2182) rfl
      replace S : SL ([rp (kSl ku8) x2182 [.slice A2183 x2182.length k2184], sl .ro ku8 A2423 k2424 x2422, (y10 m11 A9 k10 x8), blk b2661 (y1), (y27 A2183 k2184 x2182), (y2 b2121 x1), blk b13 (y1), (y0 b12 x1 A2 k3 A4 k5 A6 k7), (y3 A2 k3 x1), (y9 A4 k5 x1), (y4 A6 k7 x1)] ++ F) _ := S.fixL (i := 1) rfl rfl
      replace S := S.asVal (i := 1) (xs := x2422) rfl
      refine r_bsl (κ := (kSl ku8)) (xs := [x2182, x2422]) (vs := [.slice A2183 x2182.length k2184, .slice A2423 x2422.length k2424]) T S sty92 rfl ⟨_, _, rfl, ⟨1, rfl⟩, ⟨_, _, rfl, ⟨0, rfl⟩, rfl⟩⟩ rfl (by decide) rfl fun _ _ b2481 S T => ?_
      replace S : SL ([(y6 b2481 x2182 x2422), sl .ro ku8 A2423 k2424 x2422, (y10 m11 A9 k10 x8), blk b2661 (y1), (y27 A2183 k2184 x2182), (y2 b2121 x1), blk b13 (y1), (y0 b12 x1 A2 k3 A4 k5 A6 k7), (y3 A2 k3 x1), (y9 A4 k5 x1), (y4 A6 k7 x1)] ++ F) _ := S.only [0, 2, 2, 2, 2, 2, 2, 2, 2, 2, 2] rfl
      refine ⟨_, (y8 b12 x1 b2121 A2183 x2182 k2184 A9 x8 k10 A4 k5 A2423 x2422 k2424 b2481 b2661), [(y6 b2481 x2182 x2422), sl .ro ku8 A2423 k2424 x2422, (y10 m11 A9 k10 x8), blk b2661 (y1), (y27 A2183 k2184 x2182), (y2 b2121 x1), blk b13 (y1), (y0 b12 x1 A2 k3 A4 k5 A6 k7), (y3 A2 k3 x1), (y9 A4 k5 x1), (y4 A6 k7 x1)], rfl, (by repeat first | exact kx0 | apply kxs | apply kxn), rfl, ?_, T, S⟩
      refine stage (some 9) rfl rfl ⟨⟨_, _, rfl, (avl [2] rfl), fun _ _ _ T S => r_fa (o' := 0) T rfl Tryd.runUnderlying26 rfl Tryd.sizeOf3 rfl rfl fun _ T => ⟨rfl, T⟩⟩, ⟨_, _, rfl, (avl [2] rfl), fun _ _ _ T S => r_fa (o' := 3) T rfl Tryd.runUnderlying26 rfl Tryd.sizeOf23 rfl rfl fun _ T => ⟨rfl, T⟩⟩, trivial⟩ rfl (fun i hi => ?_) (fun h => by cases h)
      cases hi
      refine ⟨rfl, _, _, rfl, (avl [30] rfl), fun u a w T S => ?_⟩
      obtain ⟨x2542, h2541, H⟩ := bd H
      refine r_call T Tryd.call25 rfl rfl (slices_Concat_byte.ok _ _ z [x2182, x2422] (S.sel (p := [(y6 b2481 x2182 x2422)]) (is := [0]) rfl) _ h2541) ?_
      rintro _ _ ⟨A2543, k2544, rfl, S⟩
      refine ⟨_, rfl, fun _ T => ?_⟩
      replace S : SL ([(y23 A2543 k2544 x2542), (y6 b2481 x2182 x2422), sl .ro ku8 A2423 k2424 x2422, (y10 m11 A9 k10 x8), blk b2661 (y1), (y27 A2183 k2184 x2182), (y2 b2121 x1), blk b13 (y1), (y0 b12 x1 A2 k3 A4 k5 A6 k7), (y3 A2 k3 x1), (y9 A4 k5 x1), (y4 A6 k7 x1)] ++ F) _ := S.join
      refine ⟨_, (y5 b12 x1 b2121 A2183 x2182 k2184 A9 x8 k10 A4 k5 A2423 x2422 k2424 b2481 A2543 x2542 k2544 b2661), [(y23 A2543 k2544 x2542), (y6 b2481 x2182 x2422), sl .ro ku8 A2423 k2424 x2422, (y10 m11 A9 k10 x8), blk b2661 (y1), (y27 A2183 k2184 x2182), (y2 b2121 x1), blk b13 (y1), (y0 b12 x1 A2 k3 A4 k5 A6 k7), (y3 A2 k3 x1), (y9 A4 k5 x1), (y4 A6 k7 x1)], rfl, (by repeat first | exact kx0 | apply kxs | apply kxn), rfl, ?_, T, S⟩
      refine stage (some 12) rfl rfl ⟨⟨_, _, rfl, (avl [2] rfl), fun _ _ _ T S => r_fa (o' := 0) T rfl Tryd.runUnderlying26 rfl Tryd.sizeOf3 rfl rfl fun _ T => ⟨rfl, T⟩⟩, ⟨_, _, rfl, (avl [2] rfl), fun _ _ _ T S => r_fa (o' := 3) T rfl Tryd.runUnderlying26 rfl Tryd.sizeOf23 rfl rfl fun _ T => ⟨rfl, T⟩⟩, ⟨_, _, rfl, (avl [31] rfl), fun _ _ _ T S => r_build (cs := #[(y19 A2543 x2542 k2544), .slice none 0 0]) T stt31 rfl rfl rfl fun _ T => ⟨rfl, T⟩⟩, trivial⟩ rfl (fun i hi => ?_) (fun h => by cases h)
      cases hi
      refine ⟨rfl, _, _, rfl, (avl [6, 32] rfl), fun u a w T S => ?_⟩
      refine r_stBA (ix := 4) (vs := (y14 A2543 x2542 k2544)) (l' := [(y23 A2543 k2544 x2542), (y6 b2481 x2182 x2422), sl .ro ku8 A2423 k2424 x2422, (y10 m11 A9 k10 x8), blk b2661 (y14 A2543 x2542 k2544), (y27 A2183 k2184 x2182), (y2 b2121 x1), blk b13 (y1), (y0 b12 x1 A2 k3 A4 k5 A6 k7), (y3 A2 k3 x1), (y9 A4 k5 x1), (y4 A6 k7 x1)]) T S rfl rfl rfl rfl (by simp) Tryd.sizeOf31 (Nat.le_of_ble_eq_true rfl) rfl fun _ S => ?_
      refine ⟨_, [some ((y11 b12), false), (y17 x1), (y12 b2121), (y20 A2183 x2182 k2184), (y24 A9 x8 k10), (y26 b12), some ((y21 A4 x1 k5), false), (y25 A2423 x2422 k2424), (y22 b2481), some ((y19 A2543 x2542 k2544), false), some (.agg #[(y19 A2543 x2542 k2544), .slice none 0 0], false), some ((y13 b2661), false), some (undef, false)], [(y23 A2543 k2544 x2542), (y6 b2481 x2182 x2422), sl .ro ku8 A2423 k2424 x2422, (y10 m11 A9 k10 x8), blk b2661 (y14 A2543 x2542 k2544), (y27 A2183 k2184 x2182), (y2 b2121 x1), blk b13 (y1), (y0 b12 x1 A2 k3 A4 k5 A6 k7), (y3 A2 k3 x1), (y9 A4 k5 x1), (y4 A6 k7 x1)], rfl, (by repeat first | exact kx0 | apply kxs | apply kxn), rfl, ?_, T, S⟩
      refine stage none rfl rfl trivial rfl (fun i hi => by cases hi) (fun _ _ a w T hv hb S => ?_)
      replace T := T.sub (r := (y18 A9 x8 k10 b12 b13 b2661)) ⟨hb 1 _ rfl rfl, hb 2 _ rfl rfl, hb 4 _ rfl rfl, hv 11 _ 6 rfl rfl rfl, trivial⟩
      refine Gets.seq (Gets.seq ?_)
      exact J0_ok F r z x1 A2 k3 A4 k5 A6 k7 x8 A9 k10 m11 b12 b13 b2661 A2543 x2542 k2544 _ _ (T.sub ⟨rfl, rfl, rfl, rfl, trivial⟩) (S.only (p := [(y3 A2 k3 x1), (y9 A4 k5 x1), (y4 A6 k7 x1), (y10 m11 A9 k10 x8), (y0 b12 x1 A2 k3 A4 k5 A6 k7), blk b13 (y1), blk b2661 (y14 A2543 x2542 k2544), (y23 A2543 k2544 x2542)]) [9, 9, 9, 3, 7, 6, 3, 0] rfl) H
    ·refine ⟨rfl, _, [], rfl, trivial, fun u a w T S => ?_⟩
     refine r_alloc T S zv31 (cs := (y1)) rfl rfl fun _ _ b2661 S T => ?_
     refine ⟨_, [some ((y11 b12), true), (y17 x1), (y12 b2121), none, some (.slice A9 x8.length k10, true), (y15 b12), some ((y21 A4 x1 k5), true), none, none, none, none, some ((y13 b2661), false), none], [blk b2661 (y1), (y2 b2121 x1), (y10 m11 A9 k10 x8), blk b13 (y1), (y0 b12 x1 A2 k3 A4 k5 A6 k7), (y3 A2 k3 x1), (y9 A4 k5 x1), (y4 A6 k7 x1)], rfl, (by repeat first | exact kx0 | apply kxs | apply kxn), rfl, ?_, T, S⟩
     refine stage (some 3) rfl rfl ⟨⟨_, _, rfl, (avl [2] rfl), fun _ _ _ T S => r_fa (o' := 0) T rfl Tryd.runUnderlying26 rfl Tryd.sizeOf3 rfl rfl fun _ T => ⟨rfl, T⟩⟩, ⟨_, _, rfl, (avl [1] rfl), fun _ _ _ T S => r_pv T rfl rfl fun _ T => ⟨rfl, T⟩⟩, ⟨_, _, rfl, (avl [2] rfl), fun _ _ _ T S => r_fa (o' := 3) T rfl Tryd.runUnderlying26 rfl Tryd.sizeOf23 rfl rfl fun _ T => ⟨rfl, T⟩⟩, ⟨_, _, rfl, (avl [27] rfl), fun _ _ _ T S => r_ldB (ix := 4) T S rfl Tryd.isAgg23 rfl rfl rfl fun _ T => ⟨rfl, T⟩⟩, trivial⟩ rfl (fun i hi => ?_) (fun h => by cases h)
     cases hi
     refine ⟨rfl, _, _, rfl, (avl [24] rfl), fun u a w T S => ?_⟩
     obtain ⟨x2182, h2181, H⟩ := bd H
     refine r_call T Tryd.call26 rfl rfl (rowkey_begin.ok _ _ z [x1.Id, 1] (S.sel (p := [(y2 b2121 x1)]) (is := [1]) rfl) _ h2181) ?_
     rintro _ _ ⟨A2183, k2184, rfl, S⟩
     refine ⟨_, rfl, fun _ T => ?_⟩
     replace S : SL ([sl .own ku8 A2183 k2184 x2182, (y2 b2121 x1), blk b2661 (y1), (y10 m11 A9 k10 x8), blk b13 (y1), (y0 b12 x1 A2 k3 A4 k5 A6 k7), (y3 A2 k3 x1), (y9 A4 k5 x1), (y4 A6 k7 x1)] ++ F) _ := S.join
     refine ⟨_, [some ((y11 b12), true), (y17 x1), (y12 b2121), (y20 A2183 x2182 k2184), some (.slice A9 x8.length k10, true), (y15 b12), some ((y21 A4 x1 k5), true), none, none, none, none, some ((y13 b2661), false), none], [sl .own ku8 A2183 k2184 x2182, (y2 b2121 x1), blk b2661 (y1), (y10 m11 A9 k10 x8), blk b13 (y1), (y0 b12 x1 A2 k3 A4 k5 A6 k7), (y3 A2 k3 x1), (y9 A4 k5 x1), (y4 A6 k7 x1)], rfl, (by repeat first | exact kx0 | apply kxs | apply kxn), rfl, ?_, T, S⟩
     refine stage (some 7) rfl rfl ⟨⟨_, _, rfl, (avl [2] rfl), fun _ _ _ T S => r_fa (o' := 0) T rfl Tryd.runUnderlying26 rfl Tryd.sizeOf3 rfl rfl fun _ T => ⟨rfl, T⟩⟩, ⟨_, _, rfl, (avl [1] rfl), fun _ _ _ T S => r_pv T rfl rfl fun _ T => ⟨rfl, T⟩⟩, ⟨_, _, rfl, (avl [2] rfl), fun _ _ _ T S => r_fa (o' := 3) T rfl Tryd.runUnderlying26 rfl Tryd.sizeOf23 rfl rfl fun _ T => ⟨rfl, T⟩⟩, ⟨_, _, rfl, (avl [27] rfl), fun _ _ _ T S => r_ldB (ix := 5) T S rfl Tryd.isAgg23 rfl rfl rfl fun _ T => ⟨rfl, T⟩⟩, trivial⟩ rfl (fun i hi => ?_) (fun h => by cases h)
     cases hi
     refine ⟨rfl, _, _, rfl, (avl [26, 28] rfl), fun u a w T S => ?_⟩
     replace S := S.dup (i := 7) rfl
     obtain ⟨x2422, h2421, H⟩ := bd H
     refine r_call T Tryd.call27 rfl rfl (rowkey_columns.ok _ _ z x8 x1.Key (S.sel (p := [(y10 m11 A9 k10 x8), (y9 A4 k5 x1)]) (is := [4, 0]) rfl) _ h2421) ?_
     rintro _ _ ⟨A2423, k2424, rfl, S⟩
     refine ⟨_, rfl, fun _ T => ?_⟩
     replace S : SL ([sl .own ku8 A2423 k2424 x2422, (y10 m11 A9 k10 x8), sl .own ku8 A2183 k2184 x2182, (y2 b2121 x1), blk b2661 (y1), blk b13 (y1), (y0 b12 x1 A2 k3 A4 k5 A6 k7), (y3 A2 k3 x1), (y9 A4 k5 x1), (y4 A6 k7 x1)] ++ F) _ := S.join.only [0, 0, 1, 1, 1, 1, 1, 1, 1, 1] rfl
     refine ⟨_, [some ((y11 b12), true), (y17 x1), (y12 b2121), (y20 A2183 x2182 k2184), (y24 A9 x8 k10), (y15 b12), some ((y21 A4 x1 k5), false), (y25 A2423 x2422 k2424), none, none, none, some ((y13 b2661), false), none], [sl .own ku8 A2423 k2424 x2422, (y10 m11 A9 k10 x8), sl .own ku8 A2183 k2184 x2182, (y2 b2121 x1), blk b2661 (y1), blk b13 (y1), (y0 b12 x1 A2 k3 A4 k5 A6 k7), (y3 A2 k3 x1), (y9 A4 k5 x1), (y4 A6 k7 x1)], rfl, (by repeat first | exact kx0 | apply kxs | apply kxn), rfl, ?_, T, S⟩
     refine stage (some 8) rfl rfl ⟨⟨_, _, rfl, (avl [2] rfl), fun _ _ _ T S => r_fa (o' := 0) T rfl Tryd.runUnderlying26 rfl Tryd.sizeOf3 rfl rfl fun _ T => ⟨rfl, T⟩⟩, ⟨_, _, rfl, (avl [2] rfl), fun _ _ _ T S => r_fa (o' := 3) T rfl Tryd.runUnderlying26 rfl Tryd.sizeOf23 rfl rfl fun _ T => ⟨rfl, T⟩⟩, trivial⟩ rfl (fun i hi => ?_) (fun h => by cases h)
     cases hi
     refine ⟨rfl, _, _, rfl, (avl [25, 29] rfl), fun u a w T S => ?_⟩
     replace S : SL ([sl .own ku8 A2423 k2424 x2422, (y10 m11 A9 k10 x8), (y27 A2183 k2184 x2182), (y2 b2121 x1), blk b2661 (y1), blk b13 (y1), (y0 b12 x1 A2 k3 A4 k5 A6 k7), (y3 A2 k3 x1), (y9 A4 k5 x1), (y4 A6 k7 x1)] ++ F) _ := S.fixL (i := 2) rfl rfl
     replace S := S.asVal (i := 2) (xs := x2182) rfl
     replace S : SL ([rp (kSl ku8) x2182 [.slice A2183 x2182.length k2184], sl .ro ku8 A2423 k2424 x2422, (y10 m11 A9 k10 x8), (y27 A2183 k2184 x2182), (y2 b2121 x1), blk b2661 (y1), blk b13 (y1), (y0 b12 x1 A2 k3 A4 k5 A6 k7), (y3 A2 k3 x1), (y9 A4 k5 x1), (y4 A6 k7 x1)] ++ F) _ := S.fixL (i := 1) rfl rfl
     replace S := S.asVal (i := 1) (xs := x2422) rfl
     refine r_bsl (κ := (kSl ku8)) (xs := [x2182, x2422]) (vs := [.slice A2183 x2182.length k2184, .slice A2423 x2422.length k2424]) T S sty92 rfl ⟨_, _, rfl, ⟨1, rfl⟩, ⟨_, _, rfl, ⟨0, rfl⟩, rfl⟩⟩ rfl (by decide) rfl fun _ _ b2481 S T => ?_
     replace S : SL ([(y6 b2481 x2182 x2422), sl .ro ku8 A2423 k2424 x2422, (y10 m11 A9 k10 x8), (y27 A2183 k2184 x2182), (y2 b2121 x1), blk b2661 (y1), blk b13 (y1), (y0 b12 x1 A2 k3 A4 k5 A6 k7), (y3 A2 k3 x1), (y9 A4 k5 x1), (y4 A6 k7 x1)] ++ F) _ := S.only [0, 2, 2, 2, 2, 2, 2, 2, 2, 2, 2] rfl
     refine ⟨_, (y8 b12 x1 b2121 A2183 x2182 k2184 A9 x8 k10 A4 k5 A2423 x2422 k2424 b2481 b2661), [(y6 b2481 x2182 x2422), sl .ro ku8 A2423 k2424 x2422, (y10 m11 A9 k10 x8), (y27 A2183 k2184 x2182), (y2 b2121 x1), blk b2661 (y1), blk b13 (y1), (y0 b12 x1 A2 k3 A4 k5 A6 k7), (y3 A2 k3 x1), (y9 A4 k5 x1), (y4 A6 k7 x1)], rfl, (by repeat first | exact kx0 | apply kxs | apply kxn), rfl, ?_, T, S⟩
     refine stage (some 9) rfl rfl ⟨⟨_, _, rfl, (avl [2] rfl), fun _ _ _ T S => r_fa (o' := 0) T rfl Tryd.runUnderlying26 rfl Tryd.sizeOf3 rfl rfl fun _ T => ⟨rfl, T⟩⟩, ⟨_, _, rfl, (avl [2] rfl), fun _ _ _ T S => r_fa (o' := 3) T rfl Tryd.runUnderlying26 rfl Tryd.sizeOf23 rfl rfl fun _ T => ⟨rfl, T⟩⟩, trivial⟩ rfl (fun i hi => ?_) (fun h => by cases h)
     cases hi
     refine ⟨rfl, _, _, rfl, (avl [30] rfl), fun u a w T S => ?_⟩
     obtain ⟨x2542, h2541, H⟩ := bd H
     refine r_call T Tryd.call25 rfl rfl (slices_Concat_byte.ok _ _ z [x2182, x2422] (S.sel (p := [(y6 b2481 x2182 x2422)]) (is := [0]) rfl) _ h2541) ?_
     rintro _ _ ⟨A2543, k2544, rfl, S⟩
     refine ⟨_, rfl, fun _ T => ?_⟩
     replace S : SL ([(y23 A2543 k2544 x2542), (y6 b2481 x2182 x2422), sl .ro ku8 A2423 k2424 x2422, (y10 m11 A9 k10 x8), (y27 A2183 k2184 x2182), (y2 b2121 x1), blk b2661 (y1), blk b13 (y1), (y0 b12 x1 A2 k3 A4 k5 A6 k7), (y3 A2 k3 x1), (y9 A4 k5 x1), (y4 A6 k7 x1)] ++ F) _ := S.join
     refine ⟨_, (y5 b12 x1 b2121 A2183 x2182 k2184 A9 x8 k10 A4 k5 A2423 x2422 k2424 b2481 A2543 x2542 k2544 b2661), [(y23 A2543 k2544 x2542), (y6 b2481 x2182 x2422), sl .ro ku8 A2423 k2424 x2422, (y10 m11 A9 k10 x8), (y27 A2183 k2184 x2182), (y2 b2121 x1), blk b2661 (y1), blk b13 (y1), (y0 b12 x1 A2 k3 A4 k5 A6 k7), (y3 A2 k3 x1), (y9 A4 k5 x1), (y4 A6 k7 x1)], rfl, (by repeat first | exact kx0 | apply kxs | apply kxn), rfl, ?_, T, S⟩
     refine stage (some 12) rfl rfl ⟨⟨_, _, rfl, (avl [2] rfl), fun _ _ _ T S => r_fa (o' := 0) T rfl Tryd.runUnderlying26 rfl Tryd.sizeOf3 rfl rfl fun _ T => ⟨rfl, T⟩⟩, ⟨_, _, rfl, (avl [2] rfl), fun _ _ _ T S => r_fa (o' := 3) T rfl Tryd.runUnderlying26 rfl Tryd.sizeOf23 rfl rfl fun _ T => ⟨rfl, T⟩⟩, ⟨_, _, rfl, (avl [31] rfl), fun _ _ _ T S => r_build (cs := #[(y19 A2543 x2542 k2544), .slice none 0 0]) T stt31 rfl rfl rfl fun _ T => ⟨rfl, T⟩⟩, trivial⟩ rfl (fun i hi => ?_) (fun h => by cases h)
     cases hi
     refine ⟨rfl, _, _, rfl, (avl [6, 32] rfl), fun u a w T S => ?_⟩
     refine r_stBA (ix := 6) (vs := (y14 A2543 x2542 k2544)) (l' := [(y23 A2543 k2544 x2542), (y6 b2481 x2182 x2422), sl .ro ku8 A2423 k2424 x2422, (y10 m11 A9 k10 x8), (y27 A2183 k2184 x2182), (y2 b2121 x1), blk b2661 (y14 A2543 x2542 k2544), blk b13 (y1), (y0 b12 x1 A2 k3 A4 k5 A6 k7), (y3 A2 k3 x1), (y9 A4 k5 x1), (y4 A6 k7 x1)]) T S rfl rfl rfl rfl (by simp) Tryd.sizeOf31 (Nat.le_of_ble_eq_true rfl) rfl fun _ S => ?_
     refine ⟨_, [some ((y11 b12), false), (y17 x1), (y12 b2121), (y20 A2183 x2182 k2184), (y24 A9 x8 k10), (y26 b12), some ((y21 A4 x1 k5), false), (y25 A2423 x2422 k2424), (y22 b2481), some ((y19 A2543 x2542 k2544), false), some (.agg #[(y19 A2543 x2542 k2544), .slice none 0 0], false), some ((y13 b2661), false), some (undef, false)], [(y23 A2543 k2544 x2542), (y6 b2481 x2182 x2422), sl .ro ku8 A2423 k2424 x2422, (y10 m11 A9 k10 x8), (y27 A2183 k2184 x2182), (y2 b2121 x1), blk b2661 (y14 A2543 x2542 k2544), blk b13 (y1), (y0 b12 x1 A2 k3 A4 k5 A6 k7), (y3 A2 k3 x1), (y9 A4 k5 x1), (y4 A6 k7 x1)], rfl, (by repeat first | exact kx0 | apply kxs | apply kxn), rfl, ?_, T, S⟩
     refine stage none rfl rfl trivial rfl (fun i hi => by cases hi) (fun _ _ a w T hv hb S => ?_)
     replace T := T.sub (r := (y18 A9 x8 k10 b12 b13 b2661)) ⟨hb 1 _ rfl rfl, hb 2 _ rfl rfl, hb 4 _ rfl rfl, hv 11 _ 6 rfl rfl rfl, trivial⟩
     refine Gets.seq (Gets.seq ?_)
     exact J0_ok F r z x1 A2 k3 A4 k5 A6 k7 x8 A9 k10 m11 b12 b13 b2661 A2543 x2542 k2544 _ _ (T.sub ⟨rfl, rfl, rfl, rfl, trivial⟩) (S.only (p := [(y3 A2 k3 x1), (y9 A4 k5 x1), (y4 A6 k7 x1), (y10 m11 A9 k10 x8), (y0 b12 x1 A2 k3 A4 k5 A6 k7), blk b13 (y1), blk b2661 (y14 A2543 x2542 k2544), (y23 A2543 k2544 x2542)]) [9, 9, 9, 3, 7, 6, 5, 0] rfl) H
   ·refine ⟨rfl, _, [], rfl, trivial, fun u a w T S => ?_⟩
    refine r_alloc T S zv31 (cs := (y1)) rfl rfl fun _ _ b2661 S T => ?_
    refine ⟨_, [some ((y11 b12), true), some (.int .i64 x1.Id, true), none, none, some (.slice A9 x8.length k10, true), (y15 b12), some ((y21 A4 x1 k5), true), none, none, none, none, some ((y13 b2661), false), none], [blk b2661 (y1), (y10 m11 A9 k10 x8), blk b13 (y1), (y0 b12 x1 A2 k3 A4 k5 A6 k7), (y3 A2 k3 x1), (y9 A4 k5 x1), (y4 A6 k7 x1)], rfl, (by repeat first | exact kx0 | apply kxs | apply kxn), rfl, ?_, T, S⟩
    refine stage (some 2) rfl rfl ⟨⟨_, _, rfl, (avl [2] rfl), fun _ _ _ T S => r_fa (o' := 0) T rfl Tryd.runUnderlying26 rfl Tryd.sizeOf3 rfl rfl fun _ T => ⟨rfl, T⟩⟩, ⟨_, _, rfl, (avl [22] rfl), fun _ _ _ T S => r_ldB (ix := 3) T S rfl Tryd.isAgg3 rfl rfl rfl fun _ T => ⟨rfl, T⟩⟩, ⟨_, _, rfl, (avl [1] rfl), fun _ _ _ T S => r_pv T rfl rfl fun _ T => ⟨rfl, T⟩⟩, ⟨_, _, rfl, (avl [2] rfl), fun _ _ _ T S => r_fa (o' := 3) T rfl Tryd.runUnderlying26 rfl Tryd.sizeOf23 rfl rfl fun _ T => ⟨rfl, T⟩⟩, ⟨_, _, rfl, (avl [27] rfl), fun _ _ _ T S => r_ldB (ix := 3) T S rfl Tryd.isAgg23 rfl rfl rfl fun _ T => ⟨rfl, T⟩⟩, trivial⟩ rfl (fun i hi => ?_) (fun h => by cases h)
    cases hi
    refine ⟨rfl, _, _, rfl, (avl [23] rfl), fun u a w T S => ?_⟩
    replace S := SL.val (κ := ki64) (x := x1.Id) (cs := [.int .i64 x1.Id]) (fun _ => rfl) S
    replace S := SL.val (κ := ki64) (x := 1) (cs := [.int .i64 1]) (fun _ => rfl) S
    refine r_bsl (κ := ki64) (xs := [x1.Id, 1]) (vs := [.int .i64 x1.Id, .int .i64 1]) T S sty23 rfl ⟨_, _, rfl, ⟨1, rfl⟩, ⟨_, _, rfl, ⟨0, rfl⟩, rfl⟩⟩ rfl (by decide) rfl fun _ _ b2121 S T => ?_
    replace S : SL ([(y2 b2121 x1), blk b2661 (y1), (y10 m11 A9 k10 x8), blk b13 (y1), (y0 b12 x1 A2 k3 A4 k5 A6 k7), (y3 A2 k3 x1), (y9 A4 k5 x1), (y4 A6 k7 x1)] ++ F) _ := S.only [0, 2, 2, 2, 2, 2, 2, 2] rfl
    refine ⟨_, [some ((y11 b12), true), (y17 x1), (y12 b2121), none, some (.slice A9 x8.length k10, true), (y15 b12), some ((y21 A4 x1 k5), true), none, none, none, none, some ((y13 b2661), false), none], [(y2 b2121 x1), blk b2661 (y1), (y10 m11 A9 k10 x8), blk b13 (y1), (y0 b12 x1 A2 k3 A4 k5 A6 k7), (y3 A2 k3 x1), (y9 A4 k5 x1), (y4 A6 k7 x1)], rfl, (by repeat first | exact kx0 | apply kxs | apply kxn), rfl, ?_, T, S⟩
    refine stage (some 3) rfl rfl ⟨⟨_, _, rfl, (avl [2] rfl), fun _ _ _ T S => r_fa (o' := 0) T rfl Tryd.runUnderlying26 rfl Tryd.sizeOf3 rfl rfl fun _ T => ⟨rfl, T⟩⟩, ⟨_, _, rfl, (avl [1] rfl), fun _ _ _ T S => r_pv T rfl rfl fun _ T => ⟨rfl, T⟩⟩, ⟨_, _, rfl, (avl [2] rfl), fun _ _ _ T S => r_fa (o' := 3) T rfl Tryd.runUnderlying26 rfl Tryd.sizeOf23 rfl rfl fun _ T => ⟨rfl, T⟩⟩, ⟨_, _, rfl, (avl [27] rfl), fun _ _ _ T S => r_ldB (ix := 4) T S rfl Tryd.isAgg23 rfl rfl rfl fun _ T => ⟨rfl, T⟩⟩, trivial⟩ rfl (fun i hi => ?_) (fun h => by cases h)
    cases hi
    refine ⟨rfl, _, _, rfl, (avl [24] rfl), fun u a w T S => ?_⟩
    obtain ⟨x2182, h2181, H⟩ := bd H
    refine r_call T Tryd.call26 rfl rfl (rowkey_begin.ok _ _ z [x1.Id, 1] (S.sel (p := [(y2 b2121 x1)]) (is := [0]) rfl) _ h2181) ?_
    rintro _ _ ⟨A2183, k2184, rfl, S⟩
    refine ⟨_, rfl, fun _ T => ?_⟩
    replace S : SL ([sl .own ku8 A2183 k2184 x2182, (y2 b2121 x1), blk b2661 (y1), (y10 m11 A9 k10 x8), blk b13 (y1), (y0 b12 x1 A2 k3 A4 k5 A6 k7), (y3 A2 k3 x1), (y9 A4 k5 x1), (y4 A6 k7 x1)] ++ F) _ := S.join
    refine ⟨_, [some ((y11 b12), true), (y17 x1), (y12 b2121), (y20 A2183 x2182 k2184), some (.slice A9 x8.length k10, true), (y15 b12), some ((y21 A4 x1 k5), true), none, none, none, none, some ((y13 b2661), false), none], [sl .own ku8 A2183 k2184 x2182, (y2 b2121 x1), blk b2661 (y1), (y10 m11 A9 k10 x8), blk b13 (y1), (y0 b12 x1 A2 k3 A4 k5 A6 k7), (y3 A2 k3 x1), (y9 A4 k5 x1), (y4 A6 k7 x1)], rfl, (by repeat first | exact kx0 | apply kxs | apply kxn), rfl, ?_, T, S⟩
    refine stage (some 7) rfl rfl ⟨⟨_, _, rfl, (avl [2] rfl), fun _ _ _ T S => r_fa (o' := 0) T rfl Tryd.runUnderlying26 rfl Tryd.sizeOf3 rfl rfl fun _ T => ⟨rfl, T⟩⟩, ⟨_, _, rfl, (avl [1] rfl), fun _ _ _ T S => r_pv T rfl rfl fun _ T => ⟨rfl, T⟩⟩, ⟨_, _, rfl, (avl [2] rfl), fun _ _ _ T S => r_fa (o' := 3) T rfl Tryd.runUnderlying26 rfl Tryd.sizeOf23 rfl rfl fun _ T => ⟨rfl, T⟩⟩, ⟨_, _, rfl, (avl [27] rfl), fun _ _ _ T S => r_ldB (ix := 5) T S rfl Tryd.isAgg23 rfl rfl rfl fun _ T => ⟨rfl, T⟩⟩, trivial⟩ rfl (fun i hi => ?_) (fun h => by cases h)
    cases hi
    refine ⟨rfl, _, _, rfl, (avl [26, 28] rfl), fun u a w T S => ?_⟩
    replace S := S.dup (i := 7) rfl
    obtain ⟨x2422, h2421, H⟩ := bd H
    refine r_call T Tryd.call27 rfl rfl (rowkey_columns.ok _ _ z x8 x1.Key (S.sel (p := [(y10 m11 A9 k10 x8), (y9 A4 k5 x1)]) (is := [4, 0]) rfl) _ h2421) ?_
    rintro _ _ ⟨A2423, k2424, rfl, S⟩
    refine ⟨_, rfl, fun _ T => ?_⟩
    replace S : SL ([sl .own ku8 A2423 k2424 x2422, (y10 m11 A9 k10 x8), sl .own ku8 A2183 k2184 x2182, (y2 b2121 x1), blk b2661 (y1), blk b13 (y1), (y0 b12 x1 A2 k3 A4 k5 A6 k7), (y3 A2 k3 x1), (y9 A4 k5 x1), (y4 A6 k7 x1)] ++ F) _ := S.join.only [0, 0, 1, 1, 1, 1, 1, 1, 1, 1] rfl
    refine ⟨_, [some ((y11 b12), true), (y17 x1), (y12 b2121), (y20 A2183 x2182 k2184), (y24 A9 x8 k10), (y15 b12), some ((y21 A4 x1 k5), false), (y25 A2423 x2422 k2424), none, none, none, some ((y13 b2661), false), none], [sl .own ku8 A2423 k2424 x2422, (y10 m11 A9 k10 x8), sl .own ku8 A2183 k2184 x2182, (y2 b2121 x1), blk b2661 (y1), blk b13 (y1), (y0 b12 x1 A2 k3 A4 k5 A6 k7), (y3 A2 k3 x1), (y9 A4 k5 x1), (y4 A6 k7 x1)], rfl, (by repeat first | exact kx0 | apply kxs | apply kxn), rfl, ?_, T, S⟩
    refine stage (some 8) rfl rfl ⟨⟨_, _, rfl, (avl [2] rfl), fun _ _ _ T S => r_fa (o' := 0) T rfl Tryd.runUnderlying26 rfl Tryd.sizeOf3 rfl rfl fun _ T => ⟨rfl, T⟩⟩, ⟨_, _, rfl, (avl [2] rfl), fun _ _ _ T S => r_fa (o' := 3) T rfl Tryd.runUnderlying26 rfl Tryd.sizeOf23 rfl rfl fun _ T => ⟨rfl, T⟩⟩, trivial⟩ rfl (fun i hi => ?_) (fun h => by cases h)
    cases hi
    refine ⟨rfl, _, _, rfl, (avl [25, 29] rfl), fun u a w T S => ?_⟩
    replace S : SL ([sl .own ku8 A2423 k2424 x2422, (y10 m11 A9 k10 x8), (y27 A2183 k2184 x2182), (y2 b2121 x1), blk b2661 (y1), blk b13 (y1), (y0 b12 x1 A2 k3 A4 k5 A6 k7), (y3 A2 k3 x1), (y9 A4 k5 x1), (y4 A6 k7 x1)] ++ F) _ := S.fixL (i := 2) rfl rfl
    replace S := S.asVal (i := 2) (xs := x2182) rfl
    replace S : SL ([rp (kSl ku8) x2182 [.slice A2183 x2182.length k2184], sl .ro ku8 A2423 k2424 x2422, (y10 m11 A9 k10 x8), (y27 A2183 k2184 x2182), (y2 b2121 x1), blk b2661 (y1), blk b13 (y1), (y0 b12 x1 A2 k3 A4 k5 A6 k7), (y3 A2 k3 x1), (y9 A4 k5 x1), (y4 A6 k7 x1)] ++ F) _ := S.fixL (i := 1) rfl rfl
    replace S := S.asVal (i := 1) (xs := x2422) rfl
    refine r_bsl (κ := (kSl ku8)) (xs := [x2182, x2422]) (vs := [.slice A2183 x2182.length k2184, .slice A2423 x2422.length k2424]) T S sty92 rfl ⟨_, _, rfl, ⟨1, rfl⟩, ⟨_, _, rfl, ⟨0, rfl⟩, rfl⟩⟩ rfl (by decide) rfl fun _ _ b2481 S T => ?_
    replace S : SL ([(y6 b2481 x2182 x2422), sl .ro ku8 A2423 k2424 x2422, (y10 m11 A9 k10 x8), (y27 A2183 k2184 x2182), (y2 b2121 x1), blk b2661 (y1), blk b13 (y1), (y0 b12 x1 A2 k3 A4 k5 A6 k7), (y3 A2 k3 x1), (y9 A4 k5 x1), (y4 A6 k7 x1)] ++ F) _ := S.only [0, 2, 2, 2, 2, 2, 2, 2, 2, 2, 2] rfl
    refine ⟨_, (y8 b12 x1 b2121 A2183 x2182 k2184 A9 x8 k10 A4 k5 A2423 x2422 k2424 b2481 b2661), [(y6 b2481 x2182 x2422), sl .ro ku8 A2423 k2424 x2422, (y10 m11 A9 k10 x8), (y27 A2183 k2184 x2182), (y2 b2121 x1), blk b2661 (y1), blk b13 (y1), (y0 b12 x1 A2 k3 A4 k5 A6 k7), (y3 A2 k3 x1), (y9 A4 k5 x1), (y4 A6 k7 x1)], rfl, (by repeat first | exact kx0 | apply kxs | apply kxn), rfl, ?_, T, S⟩
    refine stage (some 9) rfl rfl ⟨⟨_, _, rfl, (avl [2] rfl), fun _ _ _ T S => r_fa (o' := 0) T rfl Tryd.runUnderlying26 rfl Tryd.sizeOf3 rfl rfl fun _ T => ⟨rfl, T⟩⟩, ⟨_, _, rfl, (avl [2] rfl), fun _ _ _ T S => r_fa (o' := 3) T rfl Tryd.runUnderlying26 rfl Tryd.sizeOf23 rfl rfl fun _ T => ⟨rfl, T⟩⟩, trivial⟩ rfl (fun i hi => ?_) (fun h => by cases h)
    cases hi
    refine ⟨rfl, _, _, rfl, (avl [30] rfl), fun u a w T S => ?_⟩
    obtain ⟨x2542, h2541, H⟩ := bd H
    refine r_call T Tryd.call25 rfl rfl (slices_Concat_byte.ok _ _ z [x2182, x2422] (S.sel (p := [(y6 b2481 x2182 x2422)]) (is := [0]) rfl) _ h2541) ?_
    rintro _ _ ⟨A2543, k2544, rfl, S⟩
    refine ⟨_, rfl, fun _ T => ?_⟩
    replace S : SL ([(y23 A2543 k2544 x2542), (y6 b2481 x2182 x2422), sl .ro ku8 A2423 k2424 x2422, (y10 m11 A9 k10 x8), (y27 A2183 k2184 x2182), (y2 b2121 x1), blk b2661 (y1), blk b13 (y1), (y0 b12 x1 A2 k3 A4 k5 A6 k7), (y3 A2 k3 x1), (y9 A4 k5 x1), (y4 A6 k7 x1)] ++ F) _ := S.join
    refine ⟨_, (y5 b12 x1 b2121 A2183 x2182 k2184 A9 x8 k10 A4 k5 A2423 x2422 k2424 b2481 A2543 x2542 k2544 b2661), [(y23 A2543 k2544 x2542), (y6 b2481 x2182 x2422), sl .ro ku8 A2423 k2424 x2422, (y10 m11 A9 k10 x8), (y27 A2183 k2184 x2182), (y2 b2121 x1), blk b2661 (y1), blk b13 (y1), (y0 b12 x1 A2 k3 A4 k5 A6 k7), (y3 A2 k3 x1), (y9 A4 k5 x1), (y4 A6 k7 x1)], rfl, (by repeat first | exact kx0 | apply kxs | apply kxn), rfl, ?_, T, S⟩
    refine stage (some 12) rfl rfl ⟨⟨_, _, rfl, (avl [2] rfl), fun _ _ _ T S => r_fa (o' := 0) T rfl Tryd.runUnderlying26 rfl Tryd.sizeOf3 rfl rfl fun _ T => ⟨rfl, T⟩⟩, ⟨_, _, rfl, (avl [2] rfl), fun _ _ _ T S => r_fa (o' := 3) T rfl Tryd.runUnderlying26 rfl Tryd.sizeOf23 rfl rfl fun _ T => ⟨rfl, T⟩⟩, ⟨_, _, rfl, (avl [31] rfl), fun _ _ _ T S => r_build (cs := #[(y19 A2543 x2542 k2544), .slice none 0 0]) T stt31 rfl rfl rfl fun _ T => ⟨rfl, T⟩⟩, trivial⟩ rfl (fun i hi => ?_) (fun h => by cases h)
    cases hi
    refine ⟨rfl, _, _, rfl, (avl [6, 32] rfl), fun u a w T S => ?_⟩
    refine r_stBA (ix := 6) (vs := (y14 A2543 x2542 k2544)) (l' := [(y23 A2543 k2544 x2542), (y6 b2481 x2182 x2422), sl .ro ku8 A2423 k2424 x2422, (y10 m11 A9 k10 x8), (y27 A2183 k2184 x2182), (y2 b2121 x1), blk b2661 (y14 A2543 x2542 k2544), blk b13 (y1), (y0 b12 x1 A2 k3 A4 k5 A6 k7), (y3 A2 k3 x1), (y9 A4 k5 x1), (y4 A6 k7 x1)]) T S rfl rfl rfl rfl (by simp) Tryd.sizeOf31 (Nat.le_of_ble_eq_true rfl) rfl fun _ S => ?_
    refine ⟨_, [some ((y11 b12), false), (y17 x1), (y12 b2121), (y20 A2183 x2182 k2184), (y24 A9 x8 k10), (y26 b12), some ((y21 A4 x1 k5), false), (y25 A2423 x2422 k2424), (y22 b2481), some ((y19 A2543 x2542 k2544), false), some (.agg #[(y19 A2543 x2542 k2544), .slice none 0 0], false), some ((y13 b2661), false), some (undef, false)], [(y23 A2543 k2544 x2542), (y6 b2481 x2182 x2422), sl .ro ku8 A2423 k2424 x2422, (y10 m11 A9 k10 x8), (y27 A2183 k2184 x2182), (y2 b2121 x1), blk b2661 (y14 A2543 x2542 k2544), blk b13 (y1), (y0 b12 x1 A2 k3 A4 k5 A6 k7), (y3 A2 k3 x1), (y9 A4 k5 x1), (y4 A6 k7 x1)], rfl, (by repeat first | exact kx0 | apply kxs | apply kxn), rfl, ?_, T, S⟩
    refine stage none rfl rfl trivial rfl (fun i hi => by cases hi) (fun _ _ a w T hv hb S => ?_)
    replace T := T.sub (r := (y18 A9 x8 k10 b12 b13 b2661)) ⟨hb 1 _ rfl rfl, hb 2 _ rfl rfl, hb 4 _ rfl rfl, hv 11 _ 6 rfl rfl rfl, trivial⟩
    refine Gets.seq (Gets.seq ?_)
    exact J0_ok F r z x1 A2 k3 A4 k5 A6 k7 x8 A9 k10 m11 b12 b13 b2661 A2543 x2542 k2544 _ _ (T.sub ⟨rfl, rfl, rfl, rfl, trivial⟩) (S.only (p := [(y3 A2 k3 x1), (y9 A4 k5 x1), (y4 A6 k7 x1), (y10 m11 A9 k10 x8), (y0 b12 x1 A2 k3 A4 k5 A6 k7), blk b13 (y1), blk b2661 (y14 A2543 x2542 k2544), (y23 A2543 k2544 x2542)]) [9, 9, 9, 3, 7, 6, 5, 0] rfl) H
end rowkey_Row
end Go.Proofs.YtohelmfkpmphoaaDoor
namespace Go.Proofs.YtohelmfkpmphoaaDoor
open Go Go.Proofs.YtohelmfkpmphoaaDoor.X
set_option linter.unusedVariables false
set_option linter.unusedSimpArgs false
set_option maxRecDepth 100000
set_option maxHeartbeats 4000000
namespace cormorantref20_ColumnKey
def R (F : List Atom) (r : (List Int)) : Ending → World → Prop := fun e w' => ∃ (A37 : OA), ∃ (k38 : Nat), e = .returned (.slice A37 r.length k38) ∧ SL ([sl .own ku8 A37 k38 r] ++ F) w'
def f (z : Nat) (x1 : List Int) (x4 : api_Value) : Option (List Int) := If x4.Null (Ck ((x1.length + [2].length) * 1 ≤ 140737488355328) (some (x1 ++ [2]))) (Ck ((x1.length + [1].length) * 1 ≤ 140737488355328) (If (x4.Type' == 1) (Bd (cormorantref01_KeyInt.f z x4.Int) fun x17 => Ck (((x1 ++ [1]).length + x17.length) * 1 ≤ 140737488355328) (some ((x1 ++ [1]) ++ x17))) (If (x4.Type' == 2) (Ck (((x1 ++ [1]).length + [wr .u8 x4.Int].length) * 1 ≤ 140737488355328) (some ((x1 ++ [1]) ++ [wr .u8 x4.Int]))) (Bd (cormorantref01_KeyText.f z (sbytes x4.Text)) fun x31 => Ck (((x1 ++ [1]).length + x31.length) * 1 ≤ 140737488355328) (some ((x1 ++ [1]) ++ x31))))))
abbrev y0 (x4 : api_Value) : List Value := [.int .i64 x4.Type', .bool x4.Null, .int .i64 x4.Int, .string x4.Text]
abbrev y1 (b11 : Nat) : Atom := sl .own ku8 (some ⟨b11, 0, none⟩) 1 [1]
theorem ok (F : List Atom) (w : World) (z : Nat) (x1 : List Int) (x4 : api_Value) {A2 : OA} {k3 : Nat} (S : SL ([sl .own ku8 A2 k3 x1] ++ F) w) (r : (List Int)) (H : f z x1 x4 = some r) : Calls Tryd.prog 48 #[.slice A2 x1.length k3, .agg #[.int .i64 x4.Type', .bool x4.Null, .int .i64 x4.Int, .string x4.Text]] w (R F r) := by
 refine enter (vs := [.slice A2 x1.length k3, .agg #[.int .i64 x4.Type', .bool x4.Null, .int .i64 x4.Int, .string x4.Text]]) Tryd.func48 rfl Tryd.ntmps48 (Nat.le_of_ble_eq_true rfl) fun a T => ?_
 refine Gets.seq (rg (r_box T S rfl (cs := (y0 x4)) rfl rfl fun _ _ b5 S T => r_pv T rfl rfl fun _ T => ?_))
 refine Gets.seq (Gets.seq ?_)
 refine rg (r_fa (o' := 1) T rfl Tryd.runUnderlying43 rfl Tryd.sizeOf4 rfl rfl fun _ T => r_ldB (ix := 0) T S rfl Tryd.isAgg4 rfl rfl rfl fun _ T => ?_)
 rcases ifE H with ⟨h6, H⟩ | ⟨h6, H⟩
 ·refine cdT T rfl h6 ?_
  refine Gets.seq (rg (r_pv T rfl rfl fun _ T => ?_))
  replace S := SL.val (κ := ku8) (x := 2) (cs := [.int .u8 2]) (fun _ => rfl) S
  refine r_bsl (κ := ku8) (xs := [2]) (vs := [.int .u8 2]) T S sty29 rfl ⟨_, _, rfl, ⟨0, rfl⟩, rfl⟩ rfl (by decide) rfl fun _ _ b7 S T => ?_
  replace S : SL ([sl .own ku8 (some ⟨b7, 0, none⟩) 1 [2], blk b5 (y0 x4), sl .own ku8 A2 k3 x1] ++ F) _ := S.only [0, 1, 1] rfl
  obtain ⟨h10, H⟩ := ck H
  refine r_app (ix := 2) (iy := 0) (xs := x1) (ys := [2]) T S rfl rfl rfl rfl (by decide) sty29 Tryd.runUnderlying29 (by decide) h10 rfl fun _ _ A8 k9 S T => ?_
  replace S : SL ([sl .own ku8 (some ⟨b7, 0, none⟩) 1 [2], blk b5 (y0 x4), sl .own ku8 A8 k9 (x1 ++ [2])] ++ F) _ := S
  refine r_pv T rfl rfl fun _ T => ?_
  replace H := Option.some.inj H
  subst H
  exact rtn T Tryd.func48 rfl rfl ⟨A8, k9, rfl, (S.only (p := [sl .own ku8 A8 k9 (x1 ++ [2])]) [2] rfl)⟩
 ·refine cdF T rfl h6 ?_
  refine Gets.skip (Gets.seq ?_)
  refine rg (r_pv T rfl rfl fun _ T => ?_)
  replace S := SL.val (κ := ku8) (x := 1) (cs := [.int .u8 1]) (fun _ => rfl) S
  refine r_bsl (κ := ku8) (xs := [1]) (vs := [.int .u8 1]) T S sty29 rfl ⟨_, _, rfl, ⟨0, rfl⟩, rfl⟩ rfl (by decide) rfl fun _ _ b11 S T => ?_
  replace S : SL ([(y1 b11), blk b5 (y0 x4), sl .own ku8 A2 k3 x1] ++ F) _ := S.only [0, 1, 1] rfl
  obtain ⟨h14, H⟩ := ck H
  refine r_app (ix := 2) (iy := 0) (xs := x1) (ys := [1]) T S rfl rfl rfl rfl (by decide) sty29 Tryd.runUnderlying29 (by decide) h14 rfl fun _ _ A12 k13 S T => ?_
  replace S : SL ([(y1 b11), blk b5 (y0 x4), sl .own ku8 A12 k13 (x1 ++ [1])] ++ F) _ := S
  refine r_pv T rfl rfl fun _ T => ?_
  refine Gets.seq (Gets.seq ?_)
  refine rg (r_fa (o' := 0) T rfl Tryd.runUnderlying43 rfl Tryd.sizeOf3 rfl rfl fun _ T => r_ldB (ix := 1) T S rfl Tryd.isAgg3 rfl rfl rfl fun _ T => ?_)
  refine Gets.block (Gets.seq ?_)
  refine rg (r_pv T rfl rfl fun _ T => r_pv T rfl rfl fun _ T => ?_)
  rcases ifE H with ⟨h15, H⟩ | ⟨h15, H⟩
  ·refine cdT T rfl h15 ?_
   refine Gets.seq (rg (r_fa (o' := 2) T rfl Tryd.runUnderlying43 rfl Tryd.sizeOf2 rfl rfl fun _ T => r_ldB (ix := 1) T S rfl Tryd.isAgg2 rfl rfl rfl fun _ T => ?_))
   obtain ⟨x17, h16, H⟩ := bd H
   refine r_call T Tryd.call50 rfl rfl (cormorantref01_KeyInt.ok _ _ z x4.Int (S.sel (p := []) (is := []) rfl) _ h16) ?_
   rintro _ _ ⟨A18, k19, rfl, S⟩
   refine ⟨_, rfl, fun _ T => ?_⟩
   replace S : SL ([sl .own ku8 A18 k19 x17, (y1 b11), blk b5 (y0 x4), sl .own ku8 A12 k13 (x1 ++ [1])] ++ F) _ := S.join
   refine r_pv T rfl rfl fun _ T => Gets.seq (rg (r_pv T rfl rfl fun _ T => ?_))
   refine r_pv T rfl rfl fun _ T => ?_
   obtain ⟨h22, H⟩ := ck H
   refine r_app (ix := 3) (iy := 0) (xs := (x1 ++ [1])) (ys := x17) T S rfl rfl rfl rfl (by decide) sty29 Tryd.runUnderlying29 (by decide) h22 rfl fun _ _ A20 k21 S T => ?_
   replace S : SL ([sl .own ku8 A18 k19 x17, (y1 b11), blk b5 (y0 x4), sl .own ku8 A20 k21 ((x1 ++ [1]) ++ x17)] ++ F) _ := S
   refine r_pv T rfl rfl fun _ T => ?_
   replace H := Option.some.inj H
   subst H
   exact rtn T Tryd.func48 rfl rfl ⟨A20, k21, rfl, (S.only (p := [sl .own ku8 A20 k21 ((x1 ++ [1]) ++ x17)]) [3] rfl)⟩
  ·refine cdF T rfl h15 ?_
   refine Gets.seq (rg (r_pv T rfl rfl fun _ T => r_pv T rfl rfl fun _ T => ?_))
   rcases ifE H with ⟨h23, H⟩ | ⟨h23, H⟩
   ·refine cdT T rfl h23 ?_
    refine Gets.seq (rg (r_pv T rfl rfl fun _ T => r_fa (o' := 2) T rfl Tryd.runUnderlying43 rfl Tryd.sizeOf2 rfl rfl fun _ T => ?_))
    refine r_ldB (ix := 1) T S rfl Tryd.isAgg2 rfl rfl rfl fun _ T => r_conv T rfl Tryd.runUnderlying2 Tryd.runUnderlying5 rfl fun _ T => ?_
    replace S := SL.val (κ := ku8) (x := wr .u8 x4.Int) (cs := [.int .u8 (wr .u8 x4.Int)]) (fun _ => rfl) S
    refine r_bsl (κ := ku8) (xs := [wr .u8 x4.Int]) (vs := [.int .u8 (wr .u8 x4.Int)]) T S sty29 rfl ⟨_, _, rfl, ⟨0, rfl⟩, rfl⟩ rfl (by decide) rfl fun _ _ b24 S T => ?_
    replace S : SL ([sl .own ku8 (some ⟨b24, 0, none⟩) 1 [wr .u8 x4.Int], (y1 b11), blk b5 (y0 x4), sl .own ku8 A12 k13 (x1 ++ [1])] ++ F) _ := S.only [0, 1, 1, 1] rfl
    obtain ⟨h27, H⟩ := ck H
    refine r_app (ix := 3) (iy := 0) (xs := (x1 ++ [1])) (ys := [wr .u8 x4.Int]) T S rfl rfl rfl rfl (by decide) sty29 Tryd.runUnderlying29 (by decide) h27 rfl fun _ _ A25 k26 S T => ?_
    replace S : SL ([sl .own ku8 (some ⟨b24, 0, none⟩) 1 [wr .u8 x4.Int], (y1 b11), blk b5 (y0 x4), sl .own ku8 A25 k26 ((x1 ++ [1]) ++ [wr .u8 x4.Int])] ++ F) _ := S
    refine r_pv T rfl rfl fun _ T => ?_
    replace H := Option.some.inj H
    subst H
    exact rtn T Tryd.func48 rfl rfl ⟨A25, k26, rfl, (S.only (p := [sl .own ku8 A25 k26 ((x1 ++ [1]) ++ [wr .u8 x4.Int])]) [3] rfl)⟩
   ·refine cdF T rfl h23 ?_
    refine Gets.skip (Gets.inBlock (Gets.seq ?_))
    refine rg (r_fa (o' := 3) T rfl Tryd.runUnderlying43 rfl Tryd.sizeOf9 rfl rfl fun _ T => r_ldB (ix := 1) T S rfl Tryd.isAgg9 rfl rfl rfl fun _ T => r_s2b T S rfl Tryd.runUnderlying9 Tryd.runUnderlying29 Tryd.runUnderlying5 rfl fun _ _ A28 k29 S T => ?_)
    obtain ⟨x31, h30, H⟩ := bd H
    refine r_call T Tryd.call69 rfl rfl (cormorantref01_KeyText.ok _ _ z (sbytes x4.Text) (S.sel (p := [sl .own ku8 A28 k29 (sbytes x4.Text)]) (is := [0]) rfl) _ h30) ?_
    rintro _ _ ⟨A32, k33, rfl, S⟩
    refine ⟨_, rfl, fun _ T => ?_⟩
    replace S : SL ([sl .own ku8 A32 k33 x31, sl .own ku8 A28 k29 (sbytes x4.Text), (y1 b11), blk b5 (y0 x4), sl .own ku8 A12 k13 (x1 ++ [1])] ++ F) _ := S.join
    refine r_pv T rfl rfl fun _ T => Gets.seq (rg (r_pv T rfl rfl fun _ T => ?_))
    refine r_pv T rfl rfl fun _ T => ?_
    obtain ⟨h36, H⟩ := ck H
    refine r_app (ix := 4) (iy := 0) (xs := (x1 ++ [1])) (ys := x31) T S rfl rfl rfl rfl (by decide) sty29 Tryd.runUnderlying29 (by decide) h36 rfl fun _ _ A34 k35 S T => ?_
    replace S : SL ([sl .own ku8 A32 k33 x31, sl .own ku8 A28 k29 (sbytes x4.Text), (y1 b11), blk b5 (y0 x4), sl .own ku8 A34 k35 ((x1 ++ [1]) ++ x31)] ++ F) _ := S
    refine r_pv T rfl rfl fun _ T => ?_
    replace H := Option.some.inj H
    subst H
    exact rtn T Tryd.func48 rfl rfl ⟨A34, k35, rfl, (S.only (p := [sl .own ku8 A34 k35 ((x1 ++ [1]) ++ x31)]) [4] rfl)⟩
end cormorantref20_ColumnKey
end Go.Proofs.YtohelmfkpmphoaaDoor
namespace Go.Proofs.YtohelmfkpmphoaaDoor
open Go Go.Proofs.YtohelmfkpmphoaaDoor.X
set_option linter.unusedVariables false
set_option linter.unusedSimpArgs false
set_option maxRecDepth 100000
set_option maxHeartbeats 4000000
namespace cormorantref20_keys
noncomputable def c0 : Code := match Tryd.f19.body with | some c => c | none => .skip
def R (F : List Atom) (x4 : List Int) (A5 : OA) (k6 : Nat) (m7 : Md) (x8 : List api_Value) (A9 : OA) (k10 : Nat) (m11 : Md) (r : (List Int)) : Ending → World → Prop := fun e w' => ∃ (A23 : OA), ∃ (k24 : Nat), e = .returned (.slice A23 r.length k24) ∧ SL ([sl .own ku8 A23 k24 r, sl m7 ki64 A5 k6 x4, sl m11 kapi_Value A9 k10 x8] ++ F) w'
def L0 (z : Nat) (x4 : List Int) (x8 : List api_Value) : Nat → (List Int) → Int → Option (List Int)
 | 0, _, _ => none
 | m + 1, x12, x15 => If (decide (x15 < (x4.length : Int))) (Ck (0 ≤ x15 ∧ x15 < (x4.length : Int)) (Ck (0 ≤ gi (0 : Int) x4 x15 ∧ gi (0 : Int) x4 x15 < (x8.length : Int)) (Bd (cormorantref20_ColumnKey.f z x12 (gi dapi_Value x8 (gi (0 : Int) x4 x15))) fun x20 => L0 z x4 x8 m x20 (wr .i64 (x15 + 1))))) (some x12)
def f (z : Nat) (x1 x4 : List Int) (x8 : List api_Value) : Option (List Int) := L0 z x4 x8 z x1 0
noncomputable def ptL0 : List Item := [.code (cB (cB (cR (cL (cR c0))))), .inLoop (cB (cB (cR (cL (cR c0))))), .inBlock 0, .code (cR (cR c0))]
theorem L0_ok (F : List Atom) (r : (List Int)) (z : Nat) (x4 : List Int) (A5 : OA) (k6 : Nat) (m7 : Md) (x8 : List api_Value) (A9 : OA) (k10 : Nat) (m11 : Md) (m : Nat) : ∀ (A13 : OA) (x12 : List Int) (k14 : Nat) (x15 : Int) (a : Act) (w : World), Tm 24 [(0, .slice A13 x12.length k14), (1, .slice A5 x4.length k6), (2, .slice A9 x8.length k10), (7, .int .i64 x15)] a → SL ([sl m7 ki64 A5 k6 x4, sl m11 kapi_Value A9 k10 x8, sl .own ku8 A13 k14 x12] ++ F) w → L0 z x4 x8 m x12 x15 = some r → Gets Tryd.prog 19 ptL0 a w (R F x4 A5 k6 m7 x8 A9 k10 m11 r) := by
 induction m with
 | zero => intro _ _ _ _ _ _ _ _ H; cases H
 | succ m ih =>
  intro A13 x12 k14 x15 a w T S H
  refine Gets.seq (Gets.seq (rg (r_pv T rfl rfl fun _ T => ?_)))
  refine r_pv T rfl rfl fun _ T => r_lenS T rfl Tryd.runUnderlying23 rfl fun _ T => r_pv T rfl rfl fun _ T => ?_
  rcases ifE H with ⟨h16, H⟩ | ⟨h16, H⟩
  ·refine cdT T rfl h16 ?_
   refine Gets.skip (Gets.seq (Gets.block ?_))
   refine rg (r_pv T rfl rfl fun _ T => r_pv T rfl rfl fun _ T => r_pv T rfl rfl fun _ T => ?_)
   refine r_pv T rfl rfl fun _ T => ?_
   obtain ⟨h17, H⟩ := ck H
   refine r_ia (ix := 0) T S rfl rfl rfl rfl Tryd.runUnderlying23 Tryd.sizeOf3 h17.1 h17.2 rfl fun _ T => r_ldE (ix := 0) (i := x15) (off := 0) (f := (Value.int .i64)) T S rfl Tryd.isAgg3 rfl (0 : Int) _ rfl rfl (Fld.all _) h17.1 h17.2 (fun h => h) rfl fun _ T => ?_
   obtain ⟨h18, H⟩ := ck H
   refine r_ia (ix := 1) T S rfl rfl rfl rfl Tryd.runUnderlying27 Tryd.sizeOf43 h18.1 h18.2 rfl fun _ T => r_ldEP (ix := 1) (i := gi (0 : Int) x4 x15) (off := 0) (f := pf_api_Value) T S rfl rfl Tryd.isAgg43 Tryd.sizeOf43 dapi_Value rfl (Fld.all _) h18.1 h18.2 pl_api_Value rfl fun _ T => ?_
   obtain ⟨x20, h19, H⟩ := bd H
   refine r_call T Tryd.call48 rfl rfl (cormorantref20_ColumnKey.ok _ _ z x12 (gi dapi_Value x8 (gi (0 : Int) x4 x15)) (S.sel (p := [sl .own ku8 A13 k14 x12]) (is := [2]) rfl) _ h19) ?_
   rintro _ _ ⟨A21, k22, rfl, S⟩
   refine ⟨_, rfl, fun _ T => ?_⟩
   replace S : SL ([sl .own ku8 A21 k22 x20, sl m7 ki64 A5 k6 x4, sl m11 kapi_Value A9 k10 x8] ++ F) _ := S.join
   refine r_pv T rfl rfl fun _ T => Gets.inBlock (rg (r_pv T rfl rfl fun _ T => ?_))
   refine r_pv T rfl rfl fun _ T => r_pv T rfl rfl fun _ T => Gets.inLoop ?_
   exact ih A21 x20 k22 (wr .i64 (x15 + 1)) _ _ (T.sub ⟨rfl, rfl, rfl, rfl, trivial⟩) (S.only (p := [sl m7 ki64 A5 k6 x4, sl m11 kapi_Value A9 k10 x8, sl .own ku8 A21 k22 x20]) [1, 1, 0] rfl) H
  ·refine cdF T rfl h16 ?_
   refine Gets.exit rfl (Gets.seq ?_)
   refine rg (r_pv T rfl rfl fun _ T => r_pv T rfl rfl fun _ T => ?_)
   replace H := Option.some.inj H
   subst H
   exact rtn T Tryd.func19 rfl rfl ⟨A13, k14, rfl, (S.only (p := [sl .own ku8 A13 k14 x12, sl m7 ki64 A5 k6 x4, sl m11 kapi_Value A9 k10 x8]) [2, 0, 0] rfl)⟩
theorem ok (F : List Atom) (w : World) (z : Nat) (x1 x4 : List Int) (x8 : List api_Value) {A2 : OA} {k3 : Nat} {A5 : OA} {k6 : Nat} {m7 : Md} {A9 : OA} {k10 : Nat} {m11 : Md} (S : SL ([sl .own ku8 A2 k3 x1, sl m7 ki64 A5 k6 x4, sl m11 kapi_Value A9 k10 x8] ++ F) w) (r : (List Int)) (H : f z x1 x4 x8 = some r) : Calls Tryd.prog 19 #[.slice A2 x1.length k3, .slice A5 x4.length k6, .slice A9 x8.length k10] w (R F x4 A5 k6 m7 x8 A9 k10 m11 r) := by
 refine enter (vs := [.slice A2 x1.length k3, .slice A5 x4.length k6, .slice A9 x8.length k10]) Tryd.func19 rfl Tryd.ntmps19 (Nat.le_of_ble_eq_true rfl) fun a T => ?_
 refine Gets.seq (rg (r_pv T rfl rfl fun _ T => ?_))
 refine Gets.seq (Gets.seq ?_)
 refine rg (r_pv T rfl rfl fun _ T => Gets.block (Gets.loop ?_))
 exact L0_ok F r z x4 A5 k6 m7 x8 A9 k10 m11 z A2 x1 k3 0 _ _ (T.sub ⟨rfl, rfl, rfl, rfl, trivial⟩) (S.only (p := [sl m7 ki64 A5 k6 x4, sl m11 kapi_Value A9 k10 x8, sl .own ku8 A2 k3 x1]) [1, 1, 0] rfl) H
end cormorantref20_keys
end Go.Proofs.YtohelmfkpmphoaaDoor
namespace Go.Proofs.YtohelmfkpmphoaaDoor
open Go Go.Proofs.YtohelmfkpmphoaaDoor.X
set_option linter.unusedVariables false
set_option linter.unusedSimpArgs false
set_option maxRecDepth 100000
set_option maxHeartbeats 4000000
namespace cormorantref20_begin
def R (F : List Atom) (r : (List Int)) : Ending → World → Prop := fun e w' => ∃ (A10 : OA), ∃ (k11 : Nat), e = .returned (.slice A10 r.length k11) ∧ SL ([sl .own ku8 A10 k11 r] ++ F) w'
def f (z : Nat) (x1 : Int) : Option (List Int) := Bd (cormorantref01_KeyInt.f z x1) fun x3 => Ck (([2].length + x3.length) * 1 ≤ 140737488355328) (some ([2] ++ x3))
theorem ok (F : List Atom) (w : World) (z : Nat) (x1 : Int) (S : SL ([] ++ F) w) (r : (List Int)) (H : f z x1 = some r) : Calls Tryd.prog 49 #[.int .i64 x1] w (R F r) := by
 refine enter (vs := [.int .i64 x1]) Tryd.func49 rfl Tryd.ntmps49 (Nat.le_of_ble_eq_true rfl) fun a T => ?_
 refine Gets.seq (rg (r_pv T rfl rfl fun _ T => Gets.seq ?_))
 refine rg (r_pv T rfl rfl fun _ T => ?_)
 obtain ⟨x3, h2, H⟩ := bd H
 refine r_call T Tryd.call50 rfl rfl (cormorantref01_KeyInt.ok _ _ z x1 (S.sel (p := []) (is := []) rfl) _ h2) ?_
 rintro _ _ ⟨A4, k5, rfl, S⟩
 refine ⟨_, rfl, fun _ T => ?_⟩
 replace S : SL ([sl .own ku8 A4 k5 x3] ++ F) _ := S.join
 refine r_pv T rfl rfl fun _ T => Gets.seq (rg ?_)
 replace S := SL.val (κ := ku8) (x := 2) (cs := [.int .u8 2]) (fun _ => rfl) S
 refine r_bsl (κ := ku8) (xs := [2]) (vs := [.int .u8 2]) T S sty29 rfl ⟨_, _, rfl, ⟨0, rfl⟩, rfl⟩ rfl (by decide) rfl fun _ _ b6 S T => ?_
 replace S : SL ([sl .own ku8 (some ⟨b6, 0, none⟩) 1 [2], sl .own ku8 A4 k5 x3] ++ F) _ := S.only [0, 1] rfl
 refine r_pv T rfl rfl fun _ T => ?_
 obtain ⟨h9, H⟩ := ck H
 refine r_app (ix := 0) (iy := 1) (xs := [2]) (ys := x3) T S rfl rfl rfl rfl (by decide) sty29 Tryd.runUnderlying29 (by decide) h9 rfl fun _ _ A7 k8 S T => ?_
 replace S : SL ([sl .own ku8 A7 k8 ([2] ++ x3), sl .own ku8 A4 k5 x3] ++ F) _ := S
 refine r_pv T rfl rfl fun _ T => ?_
 replace H := Option.some.inj H
 subst H
 exact rtn T Tryd.func49 rfl rfl ⟨A7, k8, rfl, (S.only (p := [sl .own ku8 A7 k8 ([2] ++ x3)]) [0] rfl)⟩
end cormorantref20_begin
end Go.Proofs.YtohelmfkpmphoaaDoor
namespace Go.Proofs.YtohelmfkpmphoaaDoor
open Go Go.Proofs.YtohelmfkpmphoaaDoor.X
set_option linter.unusedVariables false
set_option linter.unusedSimpArgs false
set_option maxRecDepth 100000
set_option maxHeartbeats 4000000
namespace cormorantref20_beginIndex
def R (F : List Atom) (r : (List Int)) : Ending → World → Prop := fun e w' => ∃ (A14 : OA), ∃ (k15 : Nat), e = .returned (.slice A14 r.length k15) ∧ SL ([sl .own ku8 A14 k15 r] ++ F) w'
def f (z : Nat) (x1 x2 : Int) : Option (List Int) := Bd (cormorantref20_begin.f z x1) fun x4 => Bd (cormorantref01_KeyInt.f z x2) fun x8 => Ck ((x4.length + x8.length) * 1 ≤ 140737488355328) (some (x4 ++ x8))
theorem ok (F : List Atom) (w : World) (z : Nat) (x1 x2 : Int) (S : SL ([] ++ F) w) (r : (List Int)) (H : f z x1 x2 = some r) : Calls Tryd.prog 20 #[.int .i64 x1, .int .i64 x2] w (R F r) := by
 refine enter (vs := [.int .i64 x1, .int .i64 x2]) Tryd.func20 rfl Tryd.ntmps20 (Nat.le_of_ble_eq_true rfl) fun a T => ?_
 refine Gets.seq (rg (r_pv T rfl rfl fun _ T => Gets.seq ?_))
 refine rg (r_pv T rfl rfl fun _ T => ?_)
 obtain ⟨x4, h3, H⟩ := bd H
 refine r_call T Tryd.call49 rfl rfl (cormorantref20_begin.ok _ _ z x1 (S.sel (p := []) (is := []) rfl) _ h3) ?_
 rintro _ _ ⟨A5, k6, rfl, S⟩
 refine ⟨_, rfl, fun _ T => ?_⟩
 replace S : SL ([sl .own ku8 A5 k6 x4] ++ F) _ := S.join
 refine r_pv T rfl rfl fun _ T => Gets.seq (rg (r_pv T rfl rfl fun _ T => ?_))
 obtain ⟨x8, h7, H⟩ := bd H
 refine r_call T Tryd.call50 rfl rfl (cormorantref01_KeyInt.ok _ _ z x2 (S.sel (p := []) (is := []) rfl) _ h7) ?_
 rintro _ _ ⟨A9, k10, rfl, S⟩
 refine ⟨_, rfl, fun _ T => ?_⟩
 replace S : SL ([sl .own ku8 A9 k10 x8, sl .own ku8 A5 k6 x4] ++ F) _ := S.join
 refine r_pv T rfl rfl fun _ T => Gets.seq (rg (r_pv T rfl rfl fun _ T => ?_))
 refine r_pv T rfl rfl fun _ T => ?_
 obtain ⟨h13, H⟩ := ck H
 refine r_app (ix := 1) (iy := 0) (xs := x4) (ys := x8) T S rfl rfl rfl rfl (by decide) sty29 Tryd.runUnderlying29 (by decide) h13 rfl fun _ _ A11 k12 S T => ?_
 replace S : SL ([sl .own ku8 A9 k10 x8, sl .own ku8 A11 k12 (x4 ++ x8)] ++ F) _ := S
 refine r_pv T rfl rfl fun _ T => ?_
 replace H := Option.some.inj H
 subst H
 exact rtn T Tryd.func20 rfl rfl ⟨A11, k12, rfl, (S.only (p := [sl .own ku8 A11 k12 (x4 ++ x8)]) [1] rfl)⟩
end cormorantref20_beginIndex
end Go.Proofs.YtohelmfkpmphoaaDoor
namespace Go.Proofs.YtohelmfkpmphoaaDoor
open Go Go.Proofs.YtohelmfkpmphoaaDoor.X
set_option linter.unusedVariables false
set_option linter.unusedSimpArgs false
set_option maxRecDepth 100000
set_option maxHeartbeats 4000000
namespace cormorantref20_isKey
noncomputable def c0 : Code := match Tryd.f21.body with | some c => c | none => .skip
def R (F : List Atom) (x1 : api_Table) (A2 : OA) (k3 : Nat) (A4 : OA) (k5 : Nat) (A6 : OA) (k7 : Nat) (r : Bool) : Ending → World → Prop := fun e w' => e = .returned (.bool r) ∧ SL ([sl .ro kapi_Column A2 k3 x1.Columns, sl .ro ki64 A4 k5 x1.Key, sl .ro kapi_Index A6 k7 x1.Indexes] ++ F) w'
def L0 (z : Nat) (x1 : api_Table) (x8 : Int) : Nat → Int → Option Bool
 | 0, _ => none
 | m + 1, x10 => If (decide (x10 < (x1.Key.length : Int))) (Ck (0 ≤ x10 ∧ x10 < (x1.Key.length : Int)) (If ((gi (0 : Int) x1.Key x10) == x8) (some true) (L0 z x1 x8 m (wr .i64 (x10 + 1))))) (some false)
def f (z : Nat) (x1 : api_Table) (x8 : Int) : Option Bool := L0 z x1 x8 z 0
noncomputable def ptL0 : List Item := [.code (cB (cB (cR (cL (cR c0))))), .inLoop (cB (cB (cR (cL (cR c0))))), .inBlock 0, .code (cR (cR c0))]
abbrev y0 (A2 : OA) (k3 : Nat) (x1 : api_Table) (A4 : OA) (k5 : Nat) (A6 : OA) (k7 b9 : Nat) : List Atom := [sl .ro kapi_Column A2 k3 x1.Columns, sl .ro ki64 A4 k5 x1.Key, sl .ro kapi_Index A6 k7 x1.Indexes, blk b9 [.int .i64 x1.Id, .string x1.Name, .slice A2 x1.Columns.length k3, .slice A4 x1.Key.length k5, .slice A6 x1.Indexes.length k7]]
theorem L0_ok (F : List Atom) (r : Bool) (z : Nat) (x1 : api_Table) (A2 : OA) (k3 : Nat) (A4 : OA) (k5 : Nat) (A6 : OA) (k7 : Nat) (x8 : Int) (b9 m : Nat) : ∀ (x10 : Int) (a : Act) (w : World), Tm 20 [(1, .int .i64 x8), (2, .pointer (some ⟨b9, 0, none⟩)), (5, .int .i64 x10)] a → SL ((y0 A2 k3 x1 A4 k5 A6 k7 b9) ++ F) w → L0 z x1 x8 m x10 = some r → Gets Tryd.prog 21 ptL0 a w (R F x1 A2 k3 A4 k5 A6 k7 r) := by
 induction m with
 | zero => intro _ _ _ _ _ H; cases H
 | succ m ih =>
  intro x10 a w T S H
  refine Gets.seq (Gets.seq (rg (r_pv T rfl rfl fun _ T => ?_)))
  refine r_fa (o' := 3) T rfl Tryd.runUnderlying26 rfl Tryd.sizeOf23 rfl rfl fun _ T => r_ldB (ix := 3) T S rfl Tryd.isAgg23 rfl rfl rfl fun _ T => r_lenS T rfl Tryd.runUnderlying23 rfl fun _ T => r_pv T rfl rfl fun _ T => ?_
  rcases ifE H with ⟨h11, H⟩ | ⟨h11, H⟩
  ·refine cdT T rfl h11 ?_
   refine Gets.skip (Gets.seq (Gets.block (Gets.seq ?_)))
   refine rg (r_fa (o' := 3) T rfl Tryd.runUnderlying26 rfl Tryd.sizeOf23 rfl rfl fun _ T => r_ldB (ix := 3) T S rfl Tryd.isAgg23 rfl rfl rfl fun _ T => r_pv T rfl rfl fun _ T => ?_)
   obtain ⟨h12, H⟩ := ck H
   refine r_ia (ix := 1) T S rfl rfl rfl rfl Tryd.runUnderlying23 Tryd.sizeOf3 h12.1 h12.2 rfl fun _ T => r_ldE (ix := 1) (i := x10) (off := 0) (f := (Value.int .i64)) T S rfl Tryd.isAgg3 rfl (0 : Int) _ rfl rfl (Fld.all _) h12.1 h12.2 (fun h => h) rfl fun _ T => r_pv T rfl rfl fun _ T => r_pv T rfl rfl fun _ T => ?_
   rcases ifE H with ⟨h13, H⟩ | ⟨h13, H⟩
   ·refine cdT T rfl h13 ?_
    refine Gets.seq (rg (r_pv T rfl rfl fun _ T => ?_))
    replace H := Option.some.inj H
    subst H
    exact rtn T Tryd.func21 rfl rfl ⟨rfl, (S.only (p := [sl .ro kapi_Column A2 k3 x1.Columns, sl .ro ki64 A4 k5 x1.Key, sl .ro kapi_Index A6 k7 x1.Indexes]) [0, 0, 0] rfl)⟩
   ·refine cdF T rfl h13 ?_
    refine Gets.skip (Gets.inBlock ?_)
    refine rg (r_pv T rfl rfl fun _ T => r_pv T rfl rfl fun _ T => r_pv T rfl rfl fun _ T => ?_)
    refine Gets.inLoop ?_
    exact ih (wr .i64 (x10 + 1)) _ _ (T.sub ⟨rfl, rfl, rfl, trivial⟩) (S.only (p := (y0 A2 k3 x1 A4 k5 A6 k7 b9)) [0, 0, 0, 0] rfl) H
  ·refine cdF T rfl h11 ?_
   refine Gets.exit rfl (Gets.seq ?_)
   refine rg (r_pv T rfl rfl fun _ T => ?_)
   replace H := Option.some.inj H
   subst H
   exact rtn T Tryd.func21 rfl rfl ⟨rfl, (S.only (p := [sl .ro kapi_Column A2 k3 x1.Columns, sl .ro ki64 A4 k5 x1.Key, sl .ro kapi_Index A6 k7 x1.Indexes]) [0, 0, 0] rfl)⟩
theorem ok (F : List Atom) (w : World) (z : Nat) (x1 : api_Table) (x8 : Int) {A2 : OA} {k3 : Nat} {A4 : OA} {k5 : Nat} {A6 : OA} {k7 : Nat} (S : SL ([sl .ro kapi_Column A2 k3 x1.Columns, sl .ro ki64 A4 k5 x1.Key, sl .ro kapi_Index A6 k7 x1.Indexes] ++ F) w) (r : Bool) (H : f z x1 x8 = some r) : Calls Tryd.prog 21 #[.agg #[.int .i64 x1.Id, .string x1.Name, .slice A2 x1.Columns.length k3, .slice A4 x1.Key.length k5, .slice A6 x1.Indexes.length k7], .int .i64 x8] w (R F x1 A2 k3 A4 k5 A6 k7 r) := by
 refine enter (vs := [.agg #[.int .i64 x1.Id, .string x1.Name, .slice A2 x1.Columns.length k3, .slice A4 x1.Key.length k5, .slice A6 x1.Indexes.length k7], .int .i64 x8]) Tryd.func21 rfl Tryd.ntmps21 (Nat.le_of_ble_eq_true rfl) fun a T => ?_
 refine Gets.seq (rg (r_box T S rfl (cs := [.int .i64 x1.Id, .string x1.Name, .slice A2 x1.Columns.length k3, .slice A4 x1.Key.length k5, .slice A6 x1.Indexes.length k7]) rfl rfl fun _ _ b9 S T => r_pv T rfl rfl fun _ T => ?_))
 refine Gets.seq (Gets.seq ?_)
 refine rg (r_pv T rfl rfl fun _ T => Gets.block (Gets.loop ?_))
 exact L0_ok F r z x1 A2 k3 A4 k5 A6 k7 x8 b9 z 0 _ _ (T.sub ⟨rfl, rfl, rfl, trivial⟩) (S.only (p := (y0 A2 k3 x1 A4 k5 A6 k7 b9)) [1, 1, 1, 0] rfl) H
end cormorantref20_isKey
end Go.Proofs.YtohelmfkpmphoaaDoor
namespace Go.Proofs.YtohelmfkpmphoaaDoor
open Go Go.Proofs.YtohelmfkpmphoaaDoor.X
set_option linter.unusedVariables false
set_option linter.unusedSimpArgs false
set_option maxRecDepth 100000
set_option maxHeartbeats 4000000
namespace cormorantref18_text
def R (F : List Atom) (r : (List Int)) : Ending → World → Prop := fun e w' => ∃ (A15 : OA), ∃ (k16 : Nat), e = .returned (.slice A15 r.length k16) ∧ SL ([sl .own ku8 A15 k16 r] ++ F) w'
def f (z : Nat) (x1 : List Int) (x4 : ByteArray) : Option (List Int) := Bd (cormorantref01_Text.f z (sbytes x4)) fun x8 => If (x8.2 != 0) (none) (Ck ((x1.length + x8.1.length) * 1 ≤ 140737488355328) (some (x1 ++ x8.1)))
theorem ok (F : List Atom) (w : World) (z : Nat) (x1 : List Int) (x4 : ByteArray) {A2 : OA} {k3 : Nat} (S : SL ([sl .own ku8 A2 k3 x1] ++ F) w) (r : (List Int)) (H : f z x1 x4 = some r) : Calls Tryd.prog 51 #[.slice A2 x1.length k3, .string x4] w (R F r) := by
 refine enter (vs := [.slice A2 x1.length k3, .string x4]) Tryd.func51 rfl Tryd.ntmps51 (Nat.le_of_ble_eq_true rfl) fun a T => ?_
 refine Gets.seq (rg (r_pv T rfl rfl fun _ T => Gets.seq ?_))
 refine rg (r_pv T rfl rfl fun _ T => r_s2b T S rfl Tryd.runUnderlying9 Tryd.runUnderlying29 Tryd.runUnderlying5 rfl fun _ _ A5 k6 S T => ?_)
 obtain ⟨x8, h7, H⟩ := bd H
 refine r_call T Tryd.call70 rfl rfl (cormorantref01_Text.ok _ _ z (sbytes x4) (S.sel (p := [sl .own ku8 A5 k6 (sbytes x4)]) (is := [0]) rfl) _ h7) ?_
 rintro _ _ ⟨A9, k10, rfl, S⟩
 refine ⟨_, rfl, fun _ T => ?_⟩
 replace S : SL ([sl .own ku8 A9 k10 x8.1, sl .own ku8 A5 k6 (sbytes x4), sl .own ku8 A2 k3 x1] ++ F) _ := S.join
 refine r_pv T rfl rfl fun _ T => r_pv T rfl rfl fun _ T => r_pv T rfl rfl fun _ T => r_pv T rfl rfl fun _ T => ?_
 refine r_pv T rfl rfl fun _ T => ?_
 refine Gets.seq (Gets.seq ?_)
 refine rg (r_pv T rfl rfl fun _ T => r_pv T rfl rfl fun _ T => ?_)
 rcases ifE H with ⟨h11, H⟩ | ⟨h11, H⟩
 ·refine cdT T rfl h11 ?_
  refine Gets.seq (rg (r_pv T rfl rfl fun _ T => ?_))
  cases H
 ·refine cdF T rfl h11 ?_
  refine Gets.skip (Gets.seq ?_)
  refine rg (r_pv T rfl rfl fun _ T => r_pv T rfl rfl fun _ T => ?_)
  obtain ⟨h14, H⟩ := ck H
  refine r_app (ix := 2) (iy := 0) (xs := x1) (ys := x8.1) T S rfl rfl rfl rfl (by decide) sty29 Tryd.runUnderlying29 (by decide) h14 rfl fun _ _ A12 k13 S T => ?_
  replace S : SL ([sl .own ku8 A9 k10 x8.1, sl .own ku8 A5 k6 (sbytes x4), sl .own ku8 A12 k13 (x1 ++ x8.1)] ++ F) _ := S
  refine r_pv T rfl rfl fun _ T => ?_
  replace H := Option.some.inj H
  subst H
  exact rtn T Tryd.func51 rfl rfl ⟨A12, k13, rfl, (S.only (p := [sl .own ku8 A12 k13 (x1 ++ x8.1)]) [2] rfl)⟩
end cormorantref18_text
end Go.Proofs.YtohelmfkpmphoaaDoor
namespace Go.Proofs.YtohelmfkpmphoaaDoor
open Go Go.Proofs.YtohelmfkpmphoaaDoor.X
set_option linter.unusedVariables false
set_option linter.unusedSimpArgs false
set_option maxRecDepth 100000
set_option maxHeartbeats 4000000
namespace cormorantref18_ValueBytes
def R (F : List Atom) (r : (List Int)) : Ending → World → Prop := fun e w' => ∃ (A32 : OA), ∃ (k33 : Nat), e = .returned (.slice A32 r.length k33) ∧ SL ([sl .own ku8 A32 k33 r] ++ F) w'
def f (z : Nat) (x1 : List Int) (x4 : api_Value) : Option (List Int) := If x4.Null (Ck ((x1.length + [0].length) * 1 ≤ 140737488355328) (some (x1 ++ [0]))) (Ck ((x1.length + [1].length) * 1 ≤ 140737488355328) (If (x4.Type' == 1) (Bd (cormorantref01_KeyInt.f z x4.Int) fun x17 => Ck (((x1 ++ [1]).length + x17.length) * 1 ≤ 140737488355328) (some ((x1 ++ [1]) ++ x17))) (If (x4.Type' == 2) (Ck (((x1 ++ [1]).length + [wr .u8 x4.Int].length) * 1 ≤ 140737488355328) (some ((x1 ++ [1]) ++ [wr .u8 x4.Int]))) (Bd (cormorantref18_text.f z (x1 ++ [1]) x4.Text) fun x29 => some x29))))
abbrev y0 (x4 : api_Value) : List Value := [.int .i64 x4.Type', .bool x4.Null, .int .i64 x4.Int, .string x4.Text]
abbrev y1 (b11 : Nat) : Atom := sl .own ku8 (some ⟨b11, 0, none⟩) 1 [1]
theorem ok (F : List Atom) (w : World) (z : Nat) (x1 : List Int) (x4 : api_Value) {A2 : OA} {k3 : Nat} (S : SL ([sl .own ku8 A2 k3 x1] ++ F) w) (r : (List Int)) (H : f z x1 x4 = some r) : Calls Tryd.prog 22 #[.slice A2 x1.length k3, .agg #[.int .i64 x4.Type', .bool x4.Null, .int .i64 x4.Int, .string x4.Text]] w (R F r) := by
 refine enter (vs := [.slice A2 x1.length k3, .agg #[.int .i64 x4.Type', .bool x4.Null, .int .i64 x4.Int, .string x4.Text]]) Tryd.func22 rfl Tryd.ntmps22 (Nat.le_of_ble_eq_true rfl) fun a T => ?_
 refine Gets.seq (rg (r_box T S rfl (cs := (y0 x4)) rfl rfl fun _ _ b5 S T => r_pv T rfl rfl fun _ T => ?_))
 refine Gets.seq (Gets.seq ?_)
 refine rg (r_fa (o' := 1) T rfl Tryd.runUnderlying43 rfl Tryd.sizeOf4 rfl rfl fun _ T => r_ldB (ix := 0) T S rfl Tryd.isAgg4 rfl rfl rfl fun _ T => ?_)
 rcases ifE H with ⟨h6, H⟩ | ⟨h6, H⟩
 ·refine cdT T rfl h6 ?_
  refine Gets.seq (rg (r_pv T rfl rfl fun _ T => ?_))
  replace S := SL.val (κ := ku8) (x := 0) (cs := [.int .u8 0]) (fun _ => rfl) S
  refine r_bsl (κ := ku8) (xs := [0]) (vs := [.int .u8 0]) T S sty29 rfl ⟨_, _, rfl, ⟨0, rfl⟩, rfl⟩ rfl (by decide) rfl fun _ _ b7 S T => ?_
  replace S : SL ([sl .own ku8 (some ⟨b7, 0, none⟩) 1 [0], blk b5 (y0 x4), sl .own ku8 A2 k3 x1] ++ F) _ := S.only [0, 1, 1] rfl
  obtain ⟨h10, H⟩ := ck H
  refine r_app (ix := 2) (iy := 0) (xs := x1) (ys := [0]) T S rfl rfl rfl rfl (by decide) sty29 Tryd.runUnderlying29 (by decide) h10 rfl fun _ _ A8 k9 S T => ?_
  replace S : SL ([sl .own ku8 (some ⟨b7, 0, none⟩) 1 [0], blk b5 (y0 x4), sl .own ku8 A8 k9 (x1 ++ [0])] ++ F) _ := S
  refine r_pv T rfl rfl fun _ T => ?_
  replace H := Option.some.inj H
  subst H
  exact rtn T Tryd.func22 rfl rfl ⟨A8, k9, rfl, (S.only (p := [sl .own ku8 A8 k9 (x1 ++ [0])]) [2] rfl)⟩
 ·refine cdF T rfl h6 ?_
  refine Gets.skip (Gets.seq ?_)
  refine rg (r_pv T rfl rfl fun _ T => ?_)
  replace S := SL.val (κ := ku8) (x := 1) (cs := [.int .u8 1]) (fun _ => rfl) S
  refine r_bsl (κ := ku8) (xs := [1]) (vs := [.int .u8 1]) T S sty29 rfl ⟨_, _, rfl, ⟨0, rfl⟩, rfl⟩ rfl (by decide) rfl fun _ _ b11 S T => ?_
  replace S : SL ([(y1 b11), blk b5 (y0 x4), sl .own ku8 A2 k3 x1] ++ F) _ := S.only [0, 1, 1] rfl
  obtain ⟨h14, H⟩ := ck H
  refine r_app (ix := 2) (iy := 0) (xs := x1) (ys := [1]) T S rfl rfl rfl rfl (by decide) sty29 Tryd.runUnderlying29 (by decide) h14 rfl fun _ _ A12 k13 S T => ?_
  replace S : SL ([(y1 b11), blk b5 (y0 x4), sl .own ku8 A12 k13 (x1 ++ [1])] ++ F) _ := S
  refine r_pv T rfl rfl fun _ T => ?_
  refine Gets.seq (Gets.seq ?_)
  refine rg (r_fa (o' := 0) T rfl Tryd.runUnderlying43 rfl Tryd.sizeOf3 rfl rfl fun _ T => r_ldB (ix := 1) T S rfl Tryd.isAgg3 rfl rfl rfl fun _ T => ?_)
  refine Gets.block (Gets.seq ?_)
  refine rg (r_pv T rfl rfl fun _ T => r_pv T rfl rfl fun _ T => ?_)
  rcases ifE H with ⟨h15, H⟩ | ⟨h15, H⟩
  ·refine cdT T rfl h15 ?_
   refine Gets.seq (rg (r_fa (o' := 2) T rfl Tryd.runUnderlying43 rfl Tryd.sizeOf2 rfl rfl fun _ T => r_ldB (ix := 1) T S rfl Tryd.isAgg2 rfl rfl rfl fun _ T => ?_))
   obtain ⟨x17, h16, H⟩ := bd H
   refine r_call T Tryd.call50 rfl rfl (cormorantref01_KeyInt.ok _ _ z x4.Int (S.sel (p := []) (is := []) rfl) _ h16) ?_
   rintro _ _ ⟨A18, k19, rfl, S⟩
   refine ⟨_, rfl, fun _ T => ?_⟩
   replace S : SL ([sl .own ku8 A18 k19 x17, (y1 b11), blk b5 (y0 x4), sl .own ku8 A12 k13 (x1 ++ [1])] ++ F) _ := S.join
   refine r_pv T rfl rfl fun _ T => Gets.seq (rg (r_pv T rfl rfl fun _ T => ?_))
   refine r_pv T rfl rfl fun _ T => ?_
   obtain ⟨h22, H⟩ := ck H
   refine r_app (ix := 3) (iy := 0) (xs := (x1 ++ [1])) (ys := x17) T S rfl rfl rfl rfl (by decide) sty29 Tryd.runUnderlying29 (by decide) h22 rfl fun _ _ A20 k21 S T => ?_
   replace S : SL ([sl .own ku8 A18 k19 x17, (y1 b11), blk b5 (y0 x4), sl .own ku8 A20 k21 ((x1 ++ [1]) ++ x17)] ++ F) _ := S
   refine r_pv T rfl rfl fun _ T => ?_
   replace H := Option.some.inj H
   subst H
   exact rtn T Tryd.func22 rfl rfl ⟨A20, k21, rfl, (S.only (p := [sl .own ku8 A20 k21 ((x1 ++ [1]) ++ x17)]) [3] rfl)⟩
  ·refine cdF T rfl h15 ?_
   refine Gets.seq (rg (r_pv T rfl rfl fun _ T => r_pv T rfl rfl fun _ T => ?_))
   rcases ifE H with ⟨h23, H⟩ | ⟨h23, H⟩
   ·refine cdT T rfl h23 ?_
    refine Gets.seq (rg (r_pv T rfl rfl fun _ T => r_fa (o' := 2) T rfl Tryd.runUnderlying43 rfl Tryd.sizeOf2 rfl rfl fun _ T => ?_))
    refine r_ldB (ix := 1) T S rfl Tryd.isAgg2 rfl rfl rfl fun _ T => r_conv T rfl Tryd.runUnderlying2 Tryd.runUnderlying5 rfl fun _ T => ?_
    replace S := SL.val (κ := ku8) (x := wr .u8 x4.Int) (cs := [.int .u8 (wr .u8 x4.Int)]) (fun _ => rfl) S
    refine r_bsl (κ := ku8) (xs := [wr .u8 x4.Int]) (vs := [.int .u8 (wr .u8 x4.Int)]) T S sty29 rfl ⟨_, _, rfl, ⟨0, rfl⟩, rfl⟩ rfl (by decide) rfl fun _ _ b24 S T => ?_
    replace S : SL ([sl .own ku8 (some ⟨b24, 0, none⟩) 1 [wr .u8 x4.Int], (y1 b11), blk b5 (y0 x4), sl .own ku8 A12 k13 (x1 ++ [1])] ++ F) _ := S.only [0, 1, 1, 1] rfl
    obtain ⟨h27, H⟩ := ck H
    refine r_app (ix := 3) (iy := 0) (xs := (x1 ++ [1])) (ys := [wr .u8 x4.Int]) T S rfl rfl rfl rfl (by decide) sty29 Tryd.runUnderlying29 (by decide) h27 rfl fun _ _ A25 k26 S T => ?_
    replace S : SL ([sl .own ku8 (some ⟨b24, 0, none⟩) 1 [wr .u8 x4.Int], (y1 b11), blk b5 (y0 x4), sl .own ku8 A25 k26 ((x1 ++ [1]) ++ [wr .u8 x4.Int])] ++ F) _ := S
    refine r_pv T rfl rfl fun _ T => ?_
    replace H := Option.some.inj H
    subst H
    exact rtn T Tryd.func22 rfl rfl ⟨A25, k26, rfl, (S.only (p := [sl .own ku8 A25 k26 ((x1 ++ [1]) ++ [wr .u8 x4.Int])]) [3] rfl)⟩
   ·refine cdF T rfl h23 ?_
    refine Gets.skip (Gets.inBlock (Gets.seq ?_))
    refine rg (r_pv T rfl rfl fun _ T => r_fa (o' := 3) T rfl Tryd.runUnderlying43 rfl Tryd.sizeOf9 rfl rfl fun _ T => r_ldB (ix := 1) T S rfl Tryd.isAgg9 rfl rfl rfl fun _ T => ?_)
    obtain ⟨x29, h28, H⟩ := bd H
    refine r_call T Tryd.call51 rfl rfl (cormorantref18_text.ok _ _ z (x1 ++ [1]) x4.Text (S.sel (p := [sl .own ku8 A12 k13 (x1 ++ [1])]) (is := [2]) rfl) _ h28) ?_
    rintro _ _ ⟨A30, k31, rfl, S⟩
    refine ⟨_, rfl, fun _ T => ?_⟩
    replace S : SL ([sl .own ku8 A30 k31 x29, (y1 b11), blk b5 (y0 x4)] ++ F) _ := S.join
    refine r_pv T rfl rfl fun _ T => ?_
    replace H := Option.some.inj H
    subst H
    exact rtn T Tryd.func22 rfl rfl ⟨A30, k31, rfl, (S.only (p := [sl .own ku8 A30 k31 x29]) [0] rfl)⟩
end cormorantref18_ValueBytes
end Go.Proofs.YtohelmfkpmphoaaDoor
