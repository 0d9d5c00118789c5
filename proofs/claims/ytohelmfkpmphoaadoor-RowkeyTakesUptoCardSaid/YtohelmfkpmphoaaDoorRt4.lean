/- How rows are read again. -/
import Derived.Test.YtohelmfkpmphoaaDoorRt3
namespace Go.Proofs.YtohelmfkpmphoaaDoor
open Go Go.Proofs.YtohelmfkpmphoaaDoor.X
set_option linter.unusedVariables false
set_option linter.unusedSimpArgs false
set_option maxRecDepth 100000
set_option maxHeartbeats 4000000
namespace cormorantref20_Row
noncomputable def c0 : Code := match Tryd.f6.body with | some c => c | none => .skip
def R (F : List Atom) (x1 : api_Table) (A2 : OA) (k3 : Nat) (A4 : OA) (k5 : Nat) (A6 : OA) (k7 : Nat) (x8 : List api_Value) (A9 : OA) (k10 : Nat) (m11 : Md) (r : api_KV × Int) : Ending → World → Prop := fun e w' => ∃ (A38 : OA), ∃ (k39 : Nat), ∃ (A40 : OA), ∃ (k41 : Nat), e = .returned (.tuple #[.agg #[.slice A38 r.1.Key.length k39, .slice A40 r.1.Value.length k41], .int .i64 r.2]) ∧ SL ([sl .ro ku8 A38 k39 r.1.Key, sl .ro ku8 A40 k41 r.1.Value, sl .ro kapi_Column A2 k3 x1.Columns, sl .ro ki64 A4 k5 x1.Key, sl .ro kapi_Index A6 k7 x1.Indexes, sl m11 kapi_Value A9 k10 x8] ++ F) w'
def J1 (z : Nat) : Option (api_KV × Int) := some ((api_KV.mk ([] : List Int) ([] : List Int)), 201)
def J2 (z : Nat) (q0 : (List Int) → Int → Option (api_KV × Int)) (x1 : api_Table) (x8 : List api_Value) (x23 : Int) (x2362 : (List Int)) (x35 : List Int) : Option (api_KV × Int) := q0 x35 (wr .i64 (x23 + 1))
def L0 (z : Nat) (x1 : api_Table) (x8 : List api_Value) (x2362 : (List Int)) : Nat → (List Int) → Int → Option (api_KV × Int)
 | 0, _, _ => none
 | m + 1, x20, x23 => If (decide (x23 < (x8.length : Int))) (Bd (cormorantref20_isKey.f z x1 x23) fun x28 => If (!x28) (Ck (0 ≤ x23 ∧ x23 < (x8.length : Int)) (Bd (cormorantref18_ValueBytes.f z x20 (gi dapi_Value x8 x23)) fun x32 => J2 z (L0 z x1 x8 x2362 m) x1 x8 x23 x2362 x32)) (J2 z (L0 z x1 x8 x2362 m) x1 x8 x23 x2362 x20)) (If (decide ((x2362.length : Int) > 256)) (J1 z) (If (decide ((x20.length : Int) > 65536)) (J1 z) (some ((api_KV.mk x2362 x20), 0))))
def f (z : Nat) (x1 : api_Table) (x8 : List api_Value) : Option (api_KV × Int) := Bd (cormorantref20_tableMay.f z x1 ([] : List Int)) fun x15 => If (!x15) (some ((api_KV.mk ([] : List Int) ([] : List Int)), 1)) (Bd (cormorantref20_Is.f z x1 x8) fun x18 => If (!x18) (some ((api_KV.mk ([] : List Int) ([] : List Int)), 200)) (Bd (cormorantref20_beginIndex.f z x1.Id 1) fun x2122 => Bd (cormorantref20_keys.f z x2122 x1.Key x8) fun x2362 => L0 z x1 x8 x2362 z [] 0))
noncomputable def ptJ1 : List Item := [.code (cL (cT (cR (cL (cr 8 c0))))), .code (cR (cT (cR (cL (cr 8 c0))))), .code (cr 9 c0)]
noncomputable def ptJ2 : List Item := [.code (cR (cR (cB (cB (cR (cL (cr 7 c0))))))), .inLoop (cB (cB (cR (cL (cr 7 c0))))), .inBlock 0, .code (cr 8 c0)]
noncomputable def ptL0 : List Item := [.code (cB (cB (cR (cL (cr 7 c0))))), .inLoop (cB (cB (cR (cL (cr 7 c0))))), .inBlock 0, .code (cr 8 c0)]
abbrev y0 (x1 : api_Table) (A2 : OA) (k3 : Nat) (A4 : OA) (k5 : Nat) (A6 : OA) (k7 : Nat) : List Value := [.int .i64 x1.Id, .string x1.Name, .slice A2 x1.Columns.length k3, .slice A4 x1.Key.length k5, .slice A6 x1.Indexes.length k7]
abbrev y1 : List Value := [.slice none 0 0, .slice none 0 0]
abbrev y2 (A2 : OA) (k3 : Nat) (x1 : api_Table) : Atom := sl .ro kapi_Column A2 k3 x1.Columns
abbrev y3 (A6 : OA) (k7 : Nat) (x1 : api_Table) : Atom := sl .ro kapi_Index A6 k7 x1.Indexes
abbrev y4 (A4 : OA) (k5 : Nat) (x1 : api_Table) : Atom := sl .ro ki64 A4 k5 x1.Key
abbrev y5 (m11 : Md) (A9 : OA) (k10 : Nat) (x8 : List api_Value) : Atom := sl m11 kapi_Value A9 k10 x8
theorem J1_ok (F : List Atom) (r : api_KV × Int) (z : Nat) (x1 : api_Table) (A2 : OA) (k3 : Nat) (A4 : OA) (k5 : Nat) (A6 : OA) (k7 : Nat) (x8 : List api_Value) (A9 : OA) (k10 : Nat) (m11 : Md) (b13 : Nat) (a : Act) (w : World) (T : Tm 59 [(4, .pointer (some ⟨b13, 0, none⟩))] a) (S : SL ([(y2 A2 k3 x1), (y4 A4 k5 x1), (y3 A6 k7 x1), (y5 m11 A9 k10 x8), blk b13 (y1)] ++ F) w) (H : J1 z = some r) : Gets Tryd.prog 6 ptJ1 a w (R F x1 A2 k3 A4 k5 A6 k7 x8 A9 k10 m11 r) := by
 refine rg (r_build (cs := #[.slice none 0 0, .slice none 0 0]) T stt31 rfl rfl rfl fun _ T => r_stBA (ix := 4) (vs := (y1)) (l' := [(y2 A2 k3 x1), (y4 A4 k5 x1), (y3 A6 k7 x1), (y5 m11 A9 k10 x8), blk b13 (y1)]) T S rfl rfl rfl rfl (by simp) Tryd.sizeOf31 (Nat.le_of_ble_eq_true rfl) rfl fun _ S => ?_)
 refine r_pv T rfl rfl fun _ T => ?_
 replace S := S.nil ku8 .ro
 replace S := S.nil ku8 .ro
 replace H := Option.some.inj H
 subst H
 exact rtnM T S Tryd.func6 rfl ⟨_, _, rfl, ⟨b13, _, 6, rfl, rfl, .inl ⟨Tryd.isAgg31, Tryd.sizeOf31, rfl⟩⟩, ⟨_, _, rfl, rfl, rfl⟩⟩ ⟨none, 0, none, 0, rfl, (S.only (p := [sl .ro ku8 none 0 ([] : List Int), sl .ro ku8 none 0 ([] : List Int), (y2 A2 k3 x1), (y4 A4 k5 x1), (y3 A6 k7 x1), (y5 m11 A9 k10 x8)]) [1, 0, 0, 0, 0, 0] rfl)⟩
theorem J2_ok (F : List Atom) (r : api_KV × Int) (z : Nat) (x1 : api_Table) (A2 : OA) (k3 : Nat) (A4 : OA) (k5 : Nat) (A6 : OA) (k7 : Nat) (x8 : List api_Value) (A9 : OA) (k10 : Nat) (m11 : Md) (b12 b13 : Nat) (A2363 : OA) (x2362 : (List Int)) (k2364 : Nat) (x23 : Int) (q0 : (List Int) → Int → Option (api_KV × Int)) (hq0 : ∀ (A21 : OA) (x20 : List Int) (k22 : Nat) (x23 : Int) (a : Act) (w : World), Tm 59 [(1, .slice A9 x8.length k10), (2, .pointer (some ⟨b12, 0, none⟩)), (4, .pointer (some ⟨b13, 0, none⟩)), (8, .slice A2363 x2362.length k2364), (9, .slice A21 x20.length k22), (10, .int .i64 x23)] a → SL ([(y2 A2 k3 x1), (y4 A4 k5 x1), (y3 A6 k7 x1), (y5 m11 A9 k10 x8), blk b12 (y0 x1 A2 k3 A4 k5 A6 k7), blk b13 (y1), sl .own ku8 A2363 k2364 x2362, sl .own ku8 A21 k22 x20] ++ F) w → q0 x20 x23 = some r → Gets Tryd.prog 6 ptL0 a w (R F x1 A2 k3 A4 k5 A6 k7 x8 A9 k10 m11 r)) (A36 : OA) (x35 : List Int) (k37 : Nat) (a : Act) (w : World) (T : Tm 59 [(1, .slice A9 x8.length k10), (2, .pointer (some ⟨b12, 0, none⟩)), (4, .pointer (some ⟨b13, 0, none⟩)), (8, .slice A2363 x2362.length k2364), (9, .slice A36 x35.length k37), (10, .int .i64 x23)] a) (S : SL ([(y2 A2 k3 x1), (y4 A4 k5 x1), (y3 A6 k7 x1), (y5 m11 A9 k10 x8), blk b12 (y0 x1 A2 k3 A4 k5 A6 k7), blk b13 (y1), sl .own ku8 A2363 k2364 x2362, sl .own ku8 A36 k37 x35] ++ F) w) (H : J2 z q0 x1 x8 x23 x2362 x35 = some r) : Gets Tryd.prog 6 ptJ2 a w (R F x1 A2 k3 A4 k5 A6 k7 x8 A9 k10 m11 r) := by
 refine rg (r_pv T rfl rfl fun _ T => r_pv T rfl rfl fun _ T => r_pv T rfl rfl fun _ T => ?_)
 refine Gets.inLoop ?_
 exact hq0 A36 x35 k37 (wr .i64 (x23 + 1)) _ _ (T.sub ⟨rfl, rfl, rfl, rfl, rfl, rfl, trivial⟩) (S.only (p := [(y2 A2 k3 x1), (y4 A4 k5 x1), (y3 A6 k7 x1), (y5 m11 A9 k10 x8), blk b12 (y0 x1 A2 k3 A4 k5 A6 k7), blk b13 (y1), sl .own ku8 A2363 k2364 x2362, sl .own ku8 A36 k37 x35]) [0, 0, 0, 0, 0, 0, 0, 0] rfl) H
theorem L0_ok (F : List Atom) (r : api_KV × Int) (z : Nat) (x1 : api_Table) (A2 : OA) (k3 : Nat) (A4 : OA) (k5 : Nat) (A6 : OA) (k7 : Nat) (x8 : List api_Value) (A9 : OA) (k10 : Nat) (m11 : Md) (b12 b13 : Nat) (A2363 : OA) (x2362 : (List Int)) (k2364 m : Nat) : ∀ (A21 : OA) (x20 : List Int) (k22 : Nat) (x23 : Int) (a : Act) (w : World), Tm 59 [(1, .slice A9 x8.length k10), (2, .pointer (some ⟨b12, 0, none⟩)), (4, .pointer (some ⟨b13, 0, none⟩)), (8, .slice A2363 x2362.length k2364), (9, .slice A21 x20.length k22), (10, .int .i64 x23)] a → SL ([(y2 A2 k3 x1), (y4 A4 k5 x1), (y3 A6 k7 x1), (y5 m11 A9 k10 x8), blk b12 (y0 x1 A2 k3 A4 k5 A6 k7), blk b13 (y1), sl .own ku8 A2363 k2364 x2362, sl .own ku8 A21 k22 x20] ++ F) w → L0 z x1 x8 x2362 m x20 x23 = some r → Gets Tryd.prog 6 ptL0 a w (R F x1 A2 k3 A4 k5 A6 k7 x8 A9 k10 m11 r) := by
 induction m with
 | zero => intro _ _ _ _ _ _ _ _ H; cases H
 | succ m ih =>
  intro A21 x20 k22 x23 a w T S H
  refine Gets.seq (Gets.seq (rg (r_pv T rfl rfl fun _ T => ?_)))
  refine r_pv T rfl rfl fun _ T => r_lenS T rfl Tryd.runUnderlying27 rfl fun _ T => r_pv T rfl rfl fun _ T => ?_
  rcases ifE H with ⟨h24, H⟩ | ⟨h24, H⟩
  ·refine cdT T rfl h24 ?_
   refine Gets.skip (Gets.seq (Gets.block (Gets.seq ?_)))
   refine rg (r_ldBA (ix := 4) (ds := (y0 x1 A2 k3 A4 k5 A6 k7)) T S rfl Tryd.isAgg26 rfl rfl Tryd.sizeOf26 rfl fun _ T => r_pv T rfl rfl fun _ T => ?_)
   replace S := S.dup (i := 0) rfl
   replace S := S.dup (i := 2) rfl
   replace S := S.dup (i := 4) rfl
   obtain ⟨x28, h27, H⟩ := bd H
   refine r_call T Tryd.call21 rfl rfl (cormorantref20_isKey.ok _ _ z x1 x23 (S.sel (p := [(y2 A2 k3 x1), (y4 A4 k5 x1), (y3 A6 k7 x1)]) (is := [2, 1, 0]) rfl) _ h27) ?_
   rintro _ _ ⟨rfl, S⟩
   refine ⟨_, rfl, fun _ T => ?_⟩
   replace S : SL ([(y2 A2 k3 x1), (y4 A4 k5 x1), (y3 A6 k7 x1), (y5 m11 A9 k10 x8), blk b12 (y0 x1 A2 k3 A4 k5 A6 k7), blk b13 (y1), sl .own ku8 A2363 k2364 x2362, sl .own ku8 A21 k22 x20] ++ F) _ := S.join.only [3, 3, 3, 3, 3, 3, 3, 3] rfl
   refine r_pv T rfl rfl fun _ T => Gets.seq (rg (r_pv T rfl rfl fun _ T => ?_))
   refine r_pv T rfl rfl fun _ T => ?_
   rcases ifE H with ⟨h29, H⟩ | ⟨h29, H⟩
   ·refine cdT T rfl h29 ?_
    refine rg (r_pv T rfl rfl fun _ T => r_pv T rfl rfl fun _ T => r_pv T rfl rfl fun _ T => ?_)
    obtain ⟨h30, H⟩ := ck H
    refine r_ia (ix := 3) T S rfl rfl rfl rfl Tryd.runUnderlying27 Tryd.sizeOf43 h30.1 h30.2 rfl fun _ T => r_ldEP (ix := 3) (i := x23) (off := 0) (f := pf_api_Value) T S rfl rfl Tryd.isAgg43 Tryd.sizeOf43 dapi_Value rfl (Fld.all _) h30.1 h30.2 pl_api_Value rfl fun _ T => ?_
    obtain ⟨x32, h31, H⟩ := bd H
    refine r_call T Tryd.call22 rfl rfl (cormorantref18_ValueBytes.ok _ _ z x20 (gi dapi_Value x8 x23) (S.sel (p := [sl .own ku8 A21 k22 x20]) (is := [7]) rfl) _ h31) ?_
    rintro _ _ ⟨A33, k34, rfl, S⟩
    refine ⟨_, rfl, fun _ T => ?_⟩
    replace S : SL ([sl .own ku8 A33 k34 x32, (y2 A2 k3 x1), (y4 A4 k5 x1), (y3 A6 k7 x1), (y5 m11 A9 k10 x8), blk b12 (y0 x1 A2 k3 A4 k5 A6 k7), blk b13 (y1), sl .own ku8 A2363 k2364 x2362] ++ F) _ := S.join
    refine r_pv T rfl rfl fun _ T => Gets.inBlock ?_
    exact J2_ok F r z x1 A2 k3 A4 k5 A6 k7 x8 A9 k10 m11 b12 b13 A2363 x2362 k2364 x23 (L0 z x1 x8 x2362 m) ih A33 x32 k34 _ _ (T.sub ⟨rfl, rfl, rfl, rfl, rfl, rfl, trivial⟩) (S.only (p := [(y2 A2 k3 x1), (y4 A4 k5 x1), (y3 A6 k7 x1), (y5 m11 A9 k10 x8), blk b12 (y0 x1 A2 k3 A4 k5 A6 k7), blk b13 (y1), sl .own ku8 A2363 k2364 x2362, sl .own ku8 A33 k34 x32]) [1, 1, 1, 1, 1, 1, 1, 0] rfl) H
   ·refine cdF T rfl h29 ?_
    refine Gets.skip (Gets.inBlock ?_)
    exact J2_ok F r z x1 A2 k3 A4 k5 A6 k7 x8 A9 k10 m11 b12 b13 A2363 x2362 k2364 x23 (L0 z x1 x8 x2362 m) ih A21 x20 k22 _ _ (T.sub ⟨rfl, rfl, rfl, rfl, rfl, rfl, trivial⟩) (S.only (p := [(y2 A2 k3 x1), (y4 A4 k5 x1), (y3 A6 k7 x1), (y5 m11 A9 k10 x8), blk b12 (y0 x1 A2 k3 A4 k5 A6 k7), blk b13 (y1), sl .own ku8 A2363 k2364 x2362, sl .own ku8 A21 k22 x20]) [0, 0, 0, 0, 0, 0, 0, 0] rfl) H
  ·refine cdF T rfl h24 ?_
   refine Gets.exit rfl (Gets.seq (Gets.seq ?_))
   refine rg (r_pv T rfl rfl fun _ T => r_lenS T rfl Tryd.runUnderlying29 rfl fun _ T => r_pv T rfl rfl fun _ T => ?_)
   refine r_pv T rfl rfl fun _ T => ?_
   rcases ifE H with ⟨h25, H⟩ | ⟨h25, H⟩
   ·refine g_no T rfl rfl h25 rfl fun _ T => ?_
    refine g_no T rfl rfl h25 rfl fun _ T => g_no T rfl rfl h25 rfl fun _ T => r_pickT T rfl h25 rfl rfl fun _ T => cdT T rfl rfl ?_
    refine Gets.seq ?_
    exact J1_ok F r z x1 A2 k3 A4 k5 A6 k7 x8 A9 k10 m11 b13 _ _ (T.sub ⟨rfl, trivial⟩) (S.only (p := [(y2 A2 k3 x1), (y4 A4 k5 x1), (y3 A6 k7 x1), (y5 m11 A9 k10 x8), blk b13 (y1)]) [0, 0, 0, 0, 1] rfl) H
   ·refine g_yes T rfl rfl h25 ?_
    refine r_pv T rfl rfl fun _ T => g_yes T rfl rfl h25 (r_lenS T rfl Tryd.runUnderlying29 rfl fun _ T => g_yes T rfl rfl h25 ?_)
    refine r_pv T rfl rfl fun _ T => r_pickF T rfl h25 rfl rfl fun _ T => ?_
    rcases ifE H with ⟨h26, H⟩ | ⟨h26, H⟩
    ·refine cdT T rfl h26 ?_
     refine Gets.seq ?_
     exact J1_ok F r z x1 A2 k3 A4 k5 A6 k7 x8 A9 k10 m11 b13 _ _ (T.sub ⟨rfl, trivial⟩) (S.only (p := [(y2 A2 k3 x1), (y4 A4 k5 x1), (y3 A6 k7 x1), (y5 m11 A9 k10 x8), blk b13 (y1)]) [0, 0, 0, 0, 1] rfl) H
    ·refine cdF T rfl h26 ?_
     refine Gets.skip (Gets.seq ?_)
     refine rg (r_pv T rfl rfl fun _ T => r_pv T rfl rfl fun _ T => r_build (cs := #[.slice A2363 x2362.length k2364, .slice A21 x20.length k22]) T stt31 rfl rfl rfl fun _ T => ?_)
     refine r_stBA (ix := 5) (vs := [.slice A2363 x2362.length k2364, .slice A21 x20.length k22]) (l' := [(y2 A2 k3 x1), (y4 A4 k5 x1), (y3 A6 k7 x1), (y5 m11 A9 k10 x8), blk b12 (y0 x1 A2 k3 A4 k5 A6 k7), blk b13 [.slice A2363 x2362.length k2364, .slice A21 x20.length k22], sl .own ku8 A2363 k2364 x2362, sl .own ku8 A21 k22 x20]) T S rfl rfl rfl rfl (by simp) Tryd.sizeOf31 (Nat.le_of_ble_eq_true rfl) rfl fun _ S => ?_
     refine r_pv T rfl rfl fun _ T => ?_
     replace S : SL ([(y2 A2 k3 x1), (y4 A4 k5 x1), (y3 A6 k7 x1), (y5 m11 A9 k10 x8), blk b12 (y0 x1 A2 k3 A4 k5 A6 k7), blk b13 [.slice A2363 x2362.length k2364, .slice A21 x20.length k22], sl .ro ku8 A2363 k2364 x2362, sl .own ku8 A21 k22 x20] ++ F) _ := S.fixL (i := 6) rfl rfl
     replace S : SL ([(y2 A2 k3 x1), (y4 A4 k5 x1), (y3 A6 k7 x1), (y5 m11 A9 k10 x8), blk b12 (y0 x1 A2 k3 A4 k5 A6 k7), blk b13 [.slice A2363 x2362.length k2364, .slice A21 x20.length k22], sl .ro ku8 A2363 k2364 x2362, sl .ro ku8 A21 k22 x20] ++ F) _ := S.fixL (i := 7) rfl rfl
     replace H := Option.some.inj H
     subst H
     exact rtnM T S Tryd.func6 rfl ⟨_, _, rfl, ⟨b13, _, 5, rfl, rfl, .inl ⟨Tryd.isAgg31, Tryd.sizeOf31, rfl⟩⟩, ⟨_, _, rfl, rfl, rfl⟩⟩ ⟨A2363, k2364, A21, k22, rfl, (S.only (p := [sl .ro ku8 A2363 k2364 x2362, sl .ro ku8 A21 k22 x20, (y2 A2 k3 x1), (y4 A4 k5 x1), (y3 A6 k7 x1), (y5 m11 A9 k10 x8)]) [6, 6, 0, 0, 0, 0] rfl)⟩
theorem ok (F : List Atom) (w : World) (z : Nat) (x1 : api_Table) (x8 : List api_Value) {A2 : OA} {k3 : Nat} {A4 : OA} {k5 : Nat} {A6 : OA} {k7 : Nat} {A9 : OA} {k10 : Nat} {m11 : Md} (S : SL ([(y2 A2 k3 x1), (y4 A4 k5 x1), (y3 A6 k7 x1), (y5 m11 A9 k10 x8)] ++ F) w) (r : api_KV × Int) (H : f z x1 x8 = some r) : Calls Tryd.prog 6 #[.agg #[.int .i64 x1.Id, .string x1.Name, .slice A2 x1.Columns.length k3, .slice A4 x1.Key.length k5, .slice A6 x1.Indexes.length k7], .slice A9 x8.length k10] w (R F x1 A2 k3 A4 k5 A6 k7 x8 A9 k10 m11 r) := by
 refine enter (vs := [.agg #[.int .i64 x1.Id, .string x1.Name, .slice A2 x1.Columns.length k3, .slice A4 x1.Key.length k5, .slice A6 x1.Indexes.length k7], .slice A9 x8.length k10]) Tryd.func6 rfl Tryd.ntmps6 (Nat.le_of_ble_eq_true rfl) fun a T => ?_
 refine Gets.seq (rg (r_box T S rfl (cs := (y0 x1 A2 k3 A4 k5 A6 k7)) rfl rfl fun _ _ b12 S T => r_alloc T S zv31 (cs := (y1)) rfl rfl fun _ _ b13 S T => ?_))
 refine r_pv T rfl rfl fun _ T => Gets.seq (rg (r_ldBA (ix := 1) (ds := (y0 x1 A2 k3 A4 k5 A6 k7)) T S rfl Tryd.isAgg26 rfl rfl Tryd.sizeOf26 rfl fun _ T => ?_))
 replace S := S.dup (i := 2) rfl
 replace S := S.dup (i := 4) rfl
 replace S := S.dup (i := 6) rfl
 replace S := S.nil ki64 .ro
 obtain ⟨x15, h14, H⟩ := bd H
 refine r_call T Tryd.call17 rfl rfl (cormorantref20_tableMay.ok _ _ z x1 ([] : List Int) (S.sel (p := [(y2 A2 k3 x1), (y4 A4 k5 x1), (y3 A6 k7 x1), sl .ro ki64 none 0 ([] : List Int)]) (is := [3, 2, 1, 0]) rfl) _ h14) ?_
 rintro _ _ ⟨rfl, S⟩
 refine ⟨_, rfl, fun _ T => ?_⟩
 replace S : SL ([sl .ro ki64 none 0 ([] : List Int), blk b13 (y1), blk b12 (y0 x1 A2 k3 A4 k5 A6 k7), (y2 A2 k3 x1), (y4 A4 k5 x1), (y3 A6 k7 x1), (y5 m11 A9 k10 x8)] ++ F) _ := S.join.only [3, 3, 3, 3, 3, 3, 3] rfl
 refine r_pv T rfl rfl fun _ T => ?_
 refine Gets.seq (Gets.seq ?_)
 refine rg (r_pv T rfl rfl fun _ T => r_pv T rfl rfl fun _ T => ?_)
 rcases ifE H with ⟨h16, H⟩ | ⟨h16, H⟩
 ·refine cdT T rfl h16 ?_
  refine Gets.seq (rg (r_build (cs := #[.slice none 0 0, .slice none 0 0]) T stt31 rfl rfl rfl fun _ T => r_stBA (ix := 1) (vs := (y1)) (l' := [sl .ro ki64 none 0 ([] : List Int), blk b13 (y1), blk b12 (y0 x1 A2 k3 A4 k5 A6 k7), (y2 A2 k3 x1), (y4 A4 k5 x1), (y3 A6 k7 x1), (y5 m11 A9 k10 x8)]) T S rfl rfl rfl rfl (by simp) Tryd.sizeOf31 (Nat.le_of_ble_eq_true rfl) rfl fun _ S => ?_))
  refine r_pv T rfl rfl fun _ T => ?_
  replace S := S.nil ku8 .ro
  replace S := S.nil ku8 .ro
  replace H := Option.some.inj H
  subst H
  exact rtnM T S Tryd.func6 rfl ⟨_, _, rfl, ⟨b13, _, 3, rfl, rfl, .inl ⟨Tryd.isAgg31, Tryd.sizeOf31, rfl⟩⟩, ⟨_, _, rfl, rfl, rfl⟩⟩ ⟨none, 0, none, 0, rfl, (S.only (p := [sl .ro ku8 none 0 ([] : List Int), sl .ro ku8 none 0 ([] : List Int), (y2 A2 k3 x1), (y4 A4 k5 x1), (y3 A6 k7 x1), (y5 m11 A9 k10 x8)]) [1, 0, 3, 3, 3, 3] rfl)⟩
 ·refine cdF T rfl h16 ?_
  refine Gets.skip (Gets.seq ?_)
  refine rg (r_ldBA (ix := 2) (ds := (y0 x1 A2 k3 A4 k5 A6 k7)) T S rfl Tryd.isAgg26 rfl rfl Tryd.sizeOf26 rfl fun _ T => r_pv T rfl rfl fun _ T => ?_)
  replace S := S.dup (i := 3) rfl
  replace S := S.dup (i := 5) rfl
  replace S := S.dup (i := 7) rfl
  obtain ⟨x18, h17, H⟩ := bd H
  refine r_call T Tryd.call18 rfl rfl (cormorantref20_Is.ok _ _ z x1 x8 (S.sel (p := [(y2 A2 k3 x1), (y4 A4 k5 x1), (y3 A6 k7 x1), (y5 m11 A9 k10 x8)]) (is := [2, 1, 0, 6]) rfl) _ h17) ?_
  rintro _ _ ⟨rfl, S⟩
  refine ⟨_, rfl, fun _ T => ?_⟩
  replace S : SL ([(y5 m11 A9 k10 x8), sl .ro ki64 none 0 ([] : List Int), blk b13 (y1), blk b12 (y0 x1 A2 k3 A4 k5 A6 k7), (y2 A2 k3 x1), (y4 A4 k5 x1), (y3 A6 k7 x1)] ++ F) _ := S.join.only [3, 3, 3, 3, 3, 3, 3] rfl
  refine r_pv T rfl rfl fun _ T => ?_
  refine Gets.seq (Gets.seq ?_)
  refine rg (r_pv T rfl rfl fun _ T => r_pv T rfl rfl fun _ T => ?_)
  rcases ifE H with ⟨h19, H⟩ | ⟨h19, H⟩
  ·refine cdT T rfl h19 ?_
   refine Gets.seq (rg (r_build (cs := #[.slice none 0 0, .slice none 0 0]) T stt31 rfl rfl rfl fun _ T => r_stBA (ix := 2) (vs := (y1)) (l' := [(y5 m11 A9 k10 x8), sl .ro ki64 none 0 ([] : List Int), blk b13 (y1), blk b12 (y0 x1 A2 k3 A4 k5 A6 k7), (y2 A2 k3 x1), (y4 A4 k5 x1), (y3 A6 k7 x1)]) T S rfl rfl rfl rfl (by simp) Tryd.sizeOf31 (Nat.le_of_ble_eq_true rfl) rfl fun _ S => ?_))
   refine r_pv T rfl rfl fun _ T => ?_
   replace S := S.nil ku8 .ro
   replace S := S.nil ku8 .ro
   replace H := Option.some.inj H
   subst H
   exact rtnM T S Tryd.func6 rfl ⟨_, _, rfl, ⟨b13, _, 4, rfl, rfl, .inl ⟨Tryd.isAgg31, Tryd.sizeOf31, rfl⟩⟩, ⟨_, _, rfl, rfl, rfl⟩⟩ ⟨none, 0, none, 0, rfl, (S.only (p := [sl .ro ku8 none 0 ([] : List Int), sl .ro ku8 none 0 ([] : List Int), (y2 A2 k3 x1), (y4 A4 k5 x1), (y3 A6 k7 x1), (y5 m11 A9 k10 x8)]) [1, 0, 4, 4, 4, 0] rfl)⟩
  ·refine cdF T rfl h19 ?_
   refine Gets.skip (Gets.seq ?_)
   refine Gets.drawn (l := [(y5 m11 A9 k10 x8), blk b13 (y1), blk b12 (y0 x1 A2 k3 A4 k5 A6 k7), (y2 A2 k3 x1), (y4 A4 k5 x1), (y3 A6 k7 x1)]) (V := [some (.pointer (some ⟨b12, 0, none⟩), true), some (.int .i64 x1.Id, true), none, some (.pointer (some ⟨b12, 3, none⟩), true), some (.slice A4 x1.Key.length k5, true), some (.slice A9 x8.length k10, true), none, none]) mixed T (S.only [0, 1, 1, 1, 1, 1] rfl) rfl ?_
   refine stage (some 2) rfl rfl ⟨⟨_, _, rfl, (avl [2] rfl), fun _ _ _ T S => r_fa (o' := 0) T rfl Tryd.runUnderlying26 rfl Tryd.sizeOf3 rfl rfl fun _ T => ⟨rfl, T⟩⟩, ⟨_, _, rfl, (avl [23] rfl), fun _ _ _ T S => r_ldB (ix := 2) T S rfl Tryd.isAgg3 rfl rfl rfl fun _ T => ⟨rfl, T⟩⟩, ⟨_, _, rfl, (avl [2] rfl), fun _ _ _ T S => r_fa (o' := 3) T rfl Tryd.runUnderlying26 rfl Tryd.sizeOf23 rfl rfl fun _ T => ⟨rfl, T⟩⟩, ⟨_, _, rfl, (avl [26] rfl), fun _ _ _ T S => r_ldB (ix := 2) T S rfl Tryd.isAgg23 rfl rfl rfl fun _ T => ⟨rfl, T⟩⟩, ⟨_, _, rfl, (avl [1] rfl), fun _ _ _ T S => r_pv T rfl rfl fun _ T => ⟨rfl, T⟩⟩, trivial⟩ rfl (fun i hi => ?_) (fun h => by cases h)
   cases hi
   refine ⟨rfl, _, _, rfl, (avl [24] rfl), fun u a w T S => ?_⟩
   obtain ⟨x2122, h2121, H⟩ := bd H
   refine r_call T Tryd.call20 rfl rfl (cormorantref20_beginIndex.ok _ _ z x1.Id 1 (S.sel (p := []) (is := []) rfl) _ h2121) ?_
   rintro _ _ ⟨A2123, k2124, rfl, S⟩
   refine ⟨_, rfl, fun _ T => ?_⟩
   replace S : SL ([sl .own ku8 A2123 k2124 x2122, (y5 m11 A9 k10 x8), blk b13 (y1), blk b12 (y0 x1 A2 k3 A4 k5 A6 k7), (y2 A2 k3 x1), (y4 A4 k5 x1), (y3 A6 k7 x1)] ++ F) _ := S.join
   refine ⟨_, [some (.pointer (some ⟨b12, 0, none⟩), true), some (.int .i64 x1.Id, false), some (.slice A2123 x2122.length k2124, false), some (.pointer (some ⟨b12, 3, none⟩), true), some (.slice A4 x1.Key.length k5, true), some (.slice A9 x8.length k10, true), none, none], [sl .own ku8 A2123 k2124 x2122, (y5 m11 A9 k10 x8), blk b13 (y1), blk b12 (y0 x1 A2 k3 A4 k5 A6 k7), (y2 A2 k3 x1), (y4 A4 k5 x1), (y3 A6 k7 x1)], rfl, (by repeat first | exact kx0 | apply kxs | apply kxn), rfl, ?_, T, S⟩
   refine stage (some 6) rfl rfl ⟨⟨_, _, rfl, (avl [2] rfl), fun _ _ _ T S => r_fa (o' := 0) T rfl Tryd.runUnderlying26 rfl Tryd.sizeOf3 rfl rfl fun _ T => ⟨rfl, T⟩⟩, ⟨_, _, rfl, (avl [2] rfl), fun _ _ _ T S => r_fa (o' := 3) T rfl Tryd.runUnderlying26 rfl Tryd.sizeOf23 rfl rfl fun _ T => ⟨rfl, T⟩⟩, ⟨_, _, rfl, (avl [26] rfl), fun _ _ _ T S => r_ldB (ix := 3) T S rfl Tryd.isAgg23 rfl rfl rfl fun _ T => ⟨rfl, T⟩⟩, ⟨_, _, rfl, (avl [1] rfl), fun _ _ _ T S => r_pv T rfl rfl fun _ T => ⟨rfl, T⟩⟩, trivial⟩ rfl (fun i hi => ?_) (fun h => by cases h)
   cases hi
   refine ⟨rfl, _, _, rfl, (avl [25, 27, 28] rfl), fun u a w T S => ?_⟩
   replace S := S.dup (i := 5) rfl
   obtain ⟨x2362, h2361, H⟩ := bd H
   refine r_call T Tryd.call19 rfl rfl (cormorantref20_keys.ok _ _ z x2122 x1.Key x8 (S.sel (p := [sl .own ku8 A2123 k2124 x2122, (y4 A4 k5 x1), (y5 m11 A9 k10 x8)]) (is := [1, 0, 0]) rfl) _ h2361) ?_
   rintro _ _ ⟨A2363, k2364, rfl, S⟩
   refine ⟨_, rfl, fun _ T => ?_⟩
   replace S : SL ([sl .own ku8 A2363 k2364 x2362, (y5 m11 A9 k10 x8), blk b13 (y1), blk b12 (y0 x1 A2 k3 A4 k5 A6 k7), (y2 A2 k3 x1), (y4 A4 k5 x1), (y3 A6 k7 x1)] ++ F) _ := S.join.only [0, 1, 1, 1, 1, 1, 1] rfl
   refine ⟨_, [some (.pointer (some ⟨b12, 0, none⟩), true), some (.int .i64 x1.Id, false), some (.slice A2123 x2122.length k2124, false), some (.pointer (some ⟨b12, 3, none⟩), true), some (.slice A4 x1.Key.length k5, false), some (.slice A9 x8.length k10, false), some (.slice A2363 x2362.length k2364, false), some (.slice A2363 x2362.length k2364, true)], [sl .own ku8 A2363 k2364 x2362, (y5 m11 A9 k10 x8), blk b13 (y1), blk b12 (y0 x1 A2 k3 A4 k5 A6 k7), (y2 A2 k3 x1), (y4 A4 k5 x1), (y3 A6 k7 x1)], rfl, (by repeat first | exact kx0 | apply kxs | apply kxn), rfl, ?_, T, S⟩
   refine stage none rfl rfl ⟨⟨_, _, rfl, (avl [2] rfl), fun _ _ _ T S => r_fa (o' := 0) T rfl Tryd.runUnderlying26 rfl Tryd.sizeOf3 rfl rfl fun _ T => ⟨rfl, T⟩⟩, ⟨_, _, rfl, (avl [2] rfl), fun _ _ _ T S => r_fa (o' := 3) T rfl Tryd.runUnderlying26 rfl Tryd.sizeOf23 rfl rfl fun _ T => ⟨rfl, T⟩⟩, ⟨_, _, rfl, (avl [29] rfl), fun _ _ _ T S => r_pv T rfl rfl fun _ T => ⟨rfl, T⟩⟩, trivial⟩ rfl (fun i hi => by cases hi) (fun _ _ a w T hv hb S => ?_)
   replace T := T.sub (r := [(1, .slice A9 x8.length k10), (2, .pointer (some ⟨b12, 0, none⟩)), (4, .pointer (some ⟨b13, 0, none⟩)), (8, .slice A2363 x2362.length k2364)]) ⟨hb 1 _ rfl rfl, hb 2 _ rfl rfl, hb 4 _ rfl rfl, hv 7 _ 8 rfl rfl rfl, trivial⟩
   refine Gets.seq (rg (r_pv T rfl rfl fun _ T => ?_))
   refine Gets.seq (Gets.seq ?_)
   refine rg (r_pv T rfl rfl fun _ T => Gets.block (Gets.loop ?_))
   replace S := S.nil ku8 .own
   exact L0_ok F r z x1 A2 k3 A4 k5 A6 k7 x8 A9 k10 m11 b12 b13 A2363 x2362 k2364 z none [] 0 0 _ _ (T.sub ⟨rfl, rfl, rfl, rfl, rfl, rfl, trivial⟩) (S.only (p := [(y2 A2 k3 x1), (y4 A4 k5 x1), (y3 A6 k7 x1), (y5 m11 A9 k10 x8), blk b12 (y0 x1 A2 k3 A4 k5 A6 k7), blk b13 (y1), sl .own ku8 A2363 k2364 x2362, sl .own ku8 none 0 []]) [5, 5, 5, 2, 3, 2, 1, 0] rfl) H
end cormorantref20_Row
end Go.Proofs.YtohelmfkpmphoaaDoor
namespace Go.Proofs.YtohelmfkpmphoaaDoor
open Go Go.Proofs.YtohelmfkpmphoaaDoor.X
set_option linter.unusedVariables false
set_option linter.unusedSimpArgs false
def keyV (v : api_Value) : List Int := if v.Null = true then [2] else if v.Type' = 1 then 1 :: kI v.Int else if v.Type' = 2 then [1, v.Int % 256] else 1 :: kT (sbytes v.Text)
def valV (v : api_Value) : List Int := if v.Null = true then [0] else if v.Type' = 3 then 1 :: txt (sbytes v.Text) else keyV v
def okV (v : api_Value) : Prop := inR v.Int ∧ (1 ≤ v.Type' ∧ v.Type' ≤ 3) ∧ fitB v v.Type' = true
theorem okV.text {v : api_Value} (h : okV v) (h3 : v.Type' = 3) : v.Text.size ≤ 65536 ∧ (0 : Int) ∉ sbytes v.Text := ((of_decide_eq_true h.2.2).2.2.1 h3).2
theorem keyV_len {v : api_Value} (h : okV v) : (keyV v).length ≤ 65600 := by
 unfold keyV
 split
 ·simp
 ·split
  ·simp [kI_len]
  ·split
   ·simp
   ·obtain ⟨_, ⟨h1, h2⟩, _⟩ := id h
    have := (h.text (by omega)).1
    have := sbytes_len v.Text
    simp [kT]; omega
theorem valV_len {v : api_Value} (h : okV v) : (valV v).length ≤ 65600 := by
 unfold valV
 split
 ·simp
 ·split
  ·rename_i h3
   have := (h.text h3).1
   have := sbytes_len v.Text
   have := txt_len (s := sbytes v.Text) (by omega)
   simp; omega
  ·exact keyV_len h
theorem keyV_bys (v : api_Value) : Bys (keyV v) := by
 unfold keyV
 split
 ·exact Bys.cons (by omega) Bys.nil
 ·split
  ·exact Bys.cons (by omega) (kI_bys _)
  ·split
   ·exact Bys.cons (by omega) (Bys.cons (by omega) Bys.nil)
   ·exact Bys.cons (by omega) ((sbytes_bys _).app (Bys.cons (by omega) (Bys.cons (by omega) Bys.nil)))
theorem valV_bys (v : api_Value) : Bys (valV v) := by
 unfold valV
 split
 ·exact Bys.cons (by omega) Bys.nil
 ·split
  ·exact Bys.cons (by omega) (txt_bys (sbytes_bys _))
  ·exact keyV_bys v
section
variable {z : Nat} (hz : 16777216 ≤ z)
include hz
theorem column_f {v : api_Value} (h : okV v) : rowkey_column.f z v = some (keyV v) := by
 unfold rowkey_column.f keyV
 cases hn : v.Null
 ·rw [if_f, if_neg (by simp)]
  by_cases h1 : v.Type' = 1
  ·rw [if_y (by simpa using h1), if_pos h1, KeyInt_f hz h.1, bd_some, ck_y (by simp [kI_len])]
   rfl
  rw [if_n (by simpa using h1), if_neg h1]
  by_cases h2 : v.Type' = 2
  ·rw [if_y (by simpa using h2), if_pos h2, wB]
  rw [if_n (by simpa using h2), if_neg h2]
  obtain ⟨h4, h5⟩ := h.text (by have := h.2.1; omega)
  have hl := sbytes_len v.Text
  rw [KeyText_f hz (sbytes_bys _) h5 (by omega), bd_some, ck_y (by simp [kT]; omega)]
  rfl
 ·rw [if_t, if_pos rfl]
theorem ColumnKey_f {v : api_Value} (h : okV v) {b : List Int} (hb : b.length ≤ 137438953472) : cormorantref20_ColumnKey.f z b v = some (b ++ keyV v) := by
 unfold cormorantref20_ColumnKey.f keyV
 cases hn : v.Null
 ·rw [if_f, if_neg (by simp), ck_y (by simp; omega)]
  by_cases h1 : v.Type' = 1
  ·rw [if_y (by simpa using h1), if_pos h1, refKeyInt_f hz h.1, bd_some, ck_y (by simp [kI_len]; omega)]
   simp
  rw [if_n (by simpa using h1), if_neg h1]
  by_cases h2 : v.Type' = 2
  ·rw [if_y (by simpa using h2), if_pos h2, wB, ck_y (by simp; omega)]
   simp
  rw [if_n (by simpa using h2), if_neg h2]
  obtain ⟨h4, h5⟩ := h.text (by have := h.2.1; omega)
  have hl := sbytes_len v.Text
  rw [refKeyText_f hz h5 (by omega), bd_some, ck_y (by simp [kT]; omega)]
  simp
 ·rw [if_t, if_pos rfl, ck_y (by simp; omega)]
theorem plain_f {v : api_Value} (h : okV v) : rowkey_plain.f z v = some (valV v) := by
 unfold rowkey_plain.f valV
 cases hn : v.Null
 ·rw [if_f, if_neg (by simp)]
  by_cases h3 : v.Type' = 3
  ·have hl := sbytes_len v.Text
   have := (h.text h3).1
   have := txt_len (s := sbytes v.Text) (by omega)
   rw [if_y (by simpa using h3), if_pos h3, Text_f hz (by omega), bd_some, ck_y (by simp; omega)]
   rfl
  ·rw [if_n (by simpa using h3), if_neg h3]
   have e : api_Value.mk v.Type' false v.Int v.Text = v := by cases v; simp_all
   rw [e, column_f hz h, bd_some]
 ·rw [if_t, if_pos rfl]
theorem ValueBytes_f {v : api_Value} (h : okV v) {b : List Int} (hb : b.length ≤ 137438953472) : cormorantref18_ValueBytes.f z b v = some (b ++ valV v) := by
 unfold cormorantref18_ValueBytes.f
 cases hn : v.Null
 ·have e0 : valV v = if v.Type' = 3 then 1 :: txt (sbytes v.Text) else keyV v := by simp [valV, hn]
  have e1 : keyV v = if v.Type' = 1 then 1 :: kI v.Int else if v.Type' = 2 then [1, v.Int % 256] else 1 :: kT (sbytes v.Text) := by simp [keyV, hn]
  rw [if_f, ck_y (by simp; omega), e0]
  by_cases h1 : v.Type' = 1
  ·rw [if_y (by simpa using h1), if_neg (by omega), e1, if_pos h1, refKeyInt_f hz h.1, bd_some, ck_y (by simp [kI_len]; omega)]
   simp
  rw [if_n (by simpa using h1)]
  by_cases h2 : v.Type' = 2
  ·rw [if_y (by simpa using h2), if_neg (by omega), e1, if_neg h1, if_pos h2, wB, ck_y (by simp; omega)]
   simp
  have h3 : v.Type' = 3 := by have := h.2.1; omega
  have hl := sbytes_len v.Text
  have := (h.text h3).1
  have := txt_len (s := sbytes v.Text) (by omega)
  rw [if_n (by simpa using h2), if_pos h3]
  unfold cormorantref18_text.f
  rw [refText_f hz (by omega), bd_some, if_n (by rfl), ck_y (by simp; omega), bd_some]
  simp
 ·have e0 : valV v = [0] := by simp [valV, hn]
  rw [if_t, e0, ck_y (by simp; omega)]
def keysS (row : List api_Value) (l : List Int) : List Int := (l.map fun n => keyV (gi dapi_Value row n)).flatten
omit hz in
theorem keysS_cons (row : List api_Value) (n : Int) (l : List Int) : keysS row (n :: l) = keyV (gi dapi_Value row n) ++ keysS row l := by simp [keysS]
theorem columns_f {row : List api_Value} {l : List Int} (hl : l.length ≤ 1048576) (h : ∀ n ∈ l, (0 ≤ n ∧ n < (row.length : Int)) ∧ okV (gi dapi_Value row n)) : rowkey_columns.f z row l = some (keysS row l) := by
 have key : ∀ (k m i : Nat) (acc : List Int), l.length - i = k → i ≤ l.length → k < m → acc.length ≤ i * 65600 → rowkey_columns.L0 z row l m acc (i : Int) = some (acc ++ keysS row (l.drop i)) := by
  intro k
  induction k with
  | zero =>
   intro m i acc h1 h2 h3 h4
   obtain ⟨m, rfl⟩ : ∃ q, m = q + 1 := ⟨m - 1, by omega⟩
   rw [rowkey_columns.L0, if_n (by simp; omega), List.drop_eq_nil_of_le (by omega)]
   simp [keysS]
  | succ k ih =>
   intro m i acc h1 h2 h3 h4
   obtain ⟨m, rfl⟩ : ∃ q, m = q + 1 := ⟨m - 1, by omega⟩
   have hi : i < l.length := by omega
   obtain ⟨q1, q2⟩ := h _ (List.getElem_mem hi)
   have := keyV_len q2
   rw [rowkey_columns.L0, if_y (by simp; omega), ck_y (by omega), gi_nat _ _ _ hi, ck_y q1, column_f hz q2, bd_some, ck_y (by omega), wI (by omega)]
   have := ih m (i + 1) (acc ++ keyV (gi dapi_Value row l[i])) (by omega) (by omega) (by omega) (by simp; omega)
   rw [show ((i : Int) + 1) = ((i + 1 : Nat) : Int) by omega, this, List.drop_eq_getElem_cons hi, keysS_cons, List.append_assoc]
 have := key l.length z 0 [] (by omega) (by omega) (by omega) (by simp)
 simpa [rowkey_columns.f] using this
theorem keys_f {row : List api_Value} {l b : List Int} (hb : b.length ≤ 1000) (hl : l.length ≤ 1048576) (h : ∀ n ∈ l, (0 ≤ n ∧ n < (row.length : Int)) ∧ okV (gi dapi_Value row n)) : cormorantref20_keys.f z b l row = some (b ++ keysS row l) := by
 have key : ∀ (k m i : Nat) (acc : List Int), l.length - i = k → i ≤ l.length → k < m → acc.length ≤ 1000 + i * 65600 → cormorantref20_keys.L0 z l row m acc (i : Int) = some (acc ++ keysS row (l.drop i)) := by
  intro k
  induction k with
  | zero =>
   intro m i acc h1 h2 h3 h4
   obtain ⟨m, rfl⟩ : ∃ q, m = q + 1 := ⟨m - 1, by omega⟩
   rw [cormorantref20_keys.L0, if_n (by simp; omega), List.drop_eq_nil_of_le (by omega)]
   simp [keysS]
  | succ k ih =>
   intro m i acc h1 h2 h3 h4
   obtain ⟨m, rfl⟩ : ∃ q, m = q + 1 := ⟨m - 1, by omega⟩
   have hi : i < l.length := by omega
   obtain ⟨q1, q2⟩ := h _ (List.getElem_mem hi)
   have := keyV_len q2
   rw [cormorantref20_keys.L0, if_y (by simp; omega), ck_y (by omega), gi_nat _ _ _ hi, ck_y q1, ColumnKey_f hz q2 (by omega), bd_some, wI (by omega)]
   have := ih m (i + 1) (acc ++ keyV (gi dapi_Value row l[i])) (by omega) (by omega) (by omega) (by simp; omega)
   rw [show ((i : Int) + 1) = ((i + 1 : Nat) : Int) by omega, this, List.drop_eq_getElem_cons hi, keysS_cons, List.append_assoc]
 have := key l.length z 0 b (by omega) (by omega) (by omega) (by omega)
 simpa [cormorantref20_keys.f] using this
theorem Index_f {l : List Int} (hl : l.length ≤ 1048576) (x : Int) : ∃ r, slices_Index_int.f z l x = some r ∧ decide (r ≥ 0) = decide (x ∈ l) := by
 have key : ∀ (k m i : Nat), l.length - i = k → i ≤ l.length → k < m → x ∉ l.take i → ∃ r, slices_Index_int.L0 z l x m (i : Int) = some r ∧ decide (r ≥ 0) = decide (x ∈ l) := by
  intro k
  induction k with
  | zero =>
   intro m i h1 h2 h3 h4
   obtain ⟨m, rfl⟩ : ∃ q, m = q + 1 := ⟨m - 1, by omega⟩
   rw [List.take_of_length_le (by omega)] at h4
   exact ⟨-1, by rw [slices_Index_int.L0, if_n (by simp; omega)], by rw [decide_eq_false h4]; rfl⟩
  | succ k ih =>
   intro m i h1 h2 h3 h4
   obtain ⟨m, rfl⟩ : ∃ q, m = q + 1 := ⟨m - 1, by omega⟩
   have hi : i < l.length := by omega
   rw [slices_Index_int.L0, if_y (by simp; omega), ck_y (by omega), gi_nat _ _ _ hi]
   by_cases e : x = l[i]
   ·exact ⟨i, by rw [if_y (by simpa using e)], by rw [decide_eq_true (show x ∈ l from e ▸ List.getElem_mem hi)]; simp⟩
   ·rw [if_n (by simpa using e), wI (by omega)]
    refine ih m (i + 1) (by omega) (by omega) (by omega) ?_
    rw [List.take_succ_eq_append_getElem hi, List.mem_append, List.mem_singleton]
    exact fun q => q.elim h4 e
 exact key l.length z 0 (by omega) (by omega) (by omega) (by simp)
theorem Contains_f {l : List Int} (hl : l.length ≤ 1048576) (x : Int) : slices_Contains_int.f z l x = some (decide (x ∈ l)) := by
 obtain ⟨r, h1, h2⟩ := Index_f hz hl x
 unfold slices_Contains_int.f
 rw [h1, bd_some, h2]
theorem isKey_f {t : api_Table} (hl : t.Key.length ≤ 1048576) (x : Int) : cormorantref20_isKey.f z t x = some (decide (x ∈ t.Key)) := by
 have key : ∀ (k m i : Nat), t.Key.length - i = k → i ≤ t.Key.length → k < m → x ∉ t.Key.take i → cormorantref20_isKey.L0 z t x m (i : Int) = some (decide (x ∈ t.Key)) := by
  intro k
  induction k with
  | zero =>
   intro m i h1 h2 h3 h4
   obtain ⟨m, rfl⟩ : ∃ q, m = q + 1 := ⟨m - 1, by omega⟩
   rw [List.take_of_length_le (by omega)] at h4
   rw [cormorantref20_isKey.L0, if_n (by simp; omega), decide_eq_false h4]
  | succ k ih =>
   intro m i h1 h2 h3 h4
   obtain ⟨m, rfl⟩ : ∃ q, m = q + 1 := ⟨m - 1, by omega⟩
   have hi : i < t.Key.length := by omega
   rw [cormorantref20_isKey.L0, if_y (by simp; omega), ck_y (by omega), gi_nat _ _ _ hi]
   by_cases e : t.Key[i] = x
   ·rw [if_y (by simpa using e), decide_eq_true (e ▸ List.getElem_mem hi)]
   ·rw [if_n (by simpa using e), wI (by omega)]
    refine ih m (i + 1) (by omega) (by omega) (by omega) ?_
    rw [List.take_succ_eq_append_getElem hi, List.mem_append, List.mem_singleton]
    exact fun q => q.elim h4 fun q => e q.symm
 exact key t.Key.length z 0 (by omega) (by omega) (by omega) (by simp)
def headS (id : Int) : List Int := 2 :: (kI id ++ kI 1)
theorem begin_f {id : Int} (h : inR id) : rowkey_begin.f z [id, 1] = some (headS id) := by
 obtain ⟨k, rfl⟩ : ∃ k, z = k + 3 := ⟨z - 3, by omega⟩
 have h1 : inR 1 := by unfold inR; decide
 unfold rowkey_begin.f
 rw [rowkey_begin.L0, if_y (by simp), ck_y (by simp), show gi (0 : Int) [id, 1] 0 = id from rfl, KeyInt_f hz h, bd_some, ck_y (by simp [kI_len]), wI (by omega)]
 rw [rowkey_begin.L0, if_y (by simp), ck_y (by simp), show gi (0 : Int) [id, 1] (0 + 1) = 1 from rfl, KeyInt_f hz h1, bd_some, ck_y (by simp [kI_len]), wI (by omega)]
 rw [rowkey_begin.L0, if_n (by simp)]
 simp [slices_Clip_byte.f, headS]
theorem beginIndex_f {id : Int} (h : inR id) : cormorantref20_beginIndex.f z id 1 = some (headS id) := by
 have h1 : inR 1 := by unfold inR; decide
 unfold cormorantref20_beginIndex.f cormorantref20_begin.f
 rw [refKeyInt_f hz h, bd_some, ck_y (by simp [kI_len]), bd_some, refKeyInt_f hz h1, bd_some, ck_y (by simp [kI_len])]
 simp [headS]
end
theorem headS_len (id : Int) : (headS id).length = 17 := rfl
theorem headS_bys (id : Int) : Bys (headS id) := Bys.cons (by omega) ((kI_bys _).app (kI_bys _))
def valsF (t : api_Table) (row : List api_Value) : Nat → Nat → List Int
 | 0, _ => []
 | k + 1, i => (if (i : Int) ∈ t.Key then [] else valV (gi dapi_Value row (i : Int))) ++ valsF t row k (i + 1)
def valsS (t : api_Table) (row : List api_Value) : List Int := valsF t row row.length 0
def RowS (t : api_Table) (row : List api_Value) : api_KV × Int :=
 if tabB t = false then (⟨[], []⟩, 1) else if rowB t row = false then (⟨[], []⟩, 200) else
 if (headS t.Id ++ keysS row t.Key).length > 256 ∨ (valsS t row).length > 65536 then (⟨[], []⟩, 201) else (⟨headS t.Id ++ keysS row t.Key, valsS t row⟩, 0)
structure LimT (t : api_Table) : Prop where
 cols : t.Columns.length ≤ 1048576
 key : t.Key.length ≤ 1048576
 id : inR t.Id
def LimR (row : List api_Value) : Prop := row.length ≤ 1048576 ∧ ∀ v ∈ row, inR v.Int
theorem rowB_ok {t : api_Table} {row : List api_Value} (ht : tabB t = true) (hr : LimR row) (h : rowB t row = true) : ∀ i, i < row.length → okV (gi dapi_Value row (i : Int)) := by
 intro i hi
 obtain ⟨h1, h2⟩ := of_decide_eq_true h
 have hg := h2 i hi
 have hty : tyB t = true := by unfold tabB at ht; simp at ht; exact ht.1
 have hct : 1 ≤ (gi dapi_Column t.Columns (i : Int)).Type' ∧ (gi dapi_Column t.Columns (i : Int)).Type' ≤ 3 := by
  rw [gi_nat _ _ _ (by omega)]
  exact (of_decide_eq_true hty) _ (List.getElem_mem _)
 unfold goodAt at hg
 rw [Bool.and_eq_true] at hg
 have hty2 : (gi dapi_Value row (i : Int)).Type' = (gi dapi_Column t.Columns (i : Int)).Type' := (of_decide_eq_true hg.1).1
 refine ⟨?_, by rw [hty2]; exact hct, by rw [hty2]; exact hg.1⟩
 rw [gi_nat _ _ _ hi]
 exact hr.2 _ (List.getElem_mem _)
theorem key_ok {t : api_Table} {row : List api_Value} (ht : tabB t = true) (hr : LimR row) (h : rowB t row = true) : ∀ n ∈ t.Key, (0 ≤ n ∧ n < (row.length : Int)) ∧ okV (gi dapi_Value row n) := by
 intro n hn
 obtain ⟨h1, h2⟩ := of_decide_eq_true h
 have hk : keyB t.Columns.length t.Key = true := by unfold tabB at ht; simp at ht; exact ht.2
 have := (of_decide_eq_true hk).1 n hn
 refine ⟨by omega, ?_⟩
 have q := rowB_ok ht hr h n.toNat (by omega)
 rw [show ((n.toNat : Nat) : Int) = n by omega] at q
 exact q
theorem Row_f {z : Nat} (hz : 16777216 ≤ z) {t : api_Table} (ht : LimT t) {row : List api_Value} (hr : LimR row) : rowkey_Row.f z t row = some (RowS t row) := by
 unfold rowkey_Row.f RowS
 rw [tabled_f hz ht.cols ht.key, bd_some]
 cases h1 : tabB t
 ·rfl
 rw [if_n (by rfl), if_neg (by simp), rowed_f hz hr.1, bd_some]
 cases h2 : rowB t row
 ·rfl
 have hk := key_ok h1 hr h2
 have ho := rowB_ok h1 hr h2
 have hkl : (keysS row t.Key).length ≤ t.Key.length * 65600 := by
  have : ∀ l : List Int, (∀ n ∈ l, okV (gi dapi_Value row n)) → (keysS row l).length ≤ l.length * 65600 := by
   intro l
   induction l with
   | nil => intro _; simp [keysS]
   | cons n l ih =>
    intro h
    have := ih fun n hn => h n (List.mem_cons_of_mem _ hn)
    have := keyV_len (h n (List.mem_cons_self ..))
    rw [keysS_cons]
    simp; omega
  exact this _ fun n hn => (hk n hn).2
 have hkl2 := ht.key
 rw [if_n (by rfl), if_neg (by simp), begin_f hz ht.id, bd_some, columns_f hz ht.key hk, bd_some, Concat_f hz (by simp) (by simp [headS_len]; omega), bd_some]
 have e : [headS t.Id, keysS row t.Key].flatten = headS t.Id ++ keysS row t.Key := by simp
 rw [e]
 generalize headS t.Id ++ keysS row t.Key = K
 unfold rowkey_Row.J0
 have key : ∀ (k m i : Nat) (acc : List Int), row.length - i = k → i ≤ row.length → k < m → acc.length ≤ i * 65600 → rowkey_Row.L1 z t row K m (i : Int) acc = some (if K.length > 256 ∨ (acc ++ valsF t row k i).length > 65536 then (⟨[], []⟩, 201) else (⟨K, acc ++ valsF t row k i⟩, 0)) := by
  intro k
  induction k with
  | zero =>
   intro m i acc q1 q2 q3 q4
   obtain ⟨m, rfl⟩ : ∃ q, m = q + 1 := ⟨m - 1, by omega⟩
   rw [rowkey_Row.L1, if_n (by simp; omega)]
   unfold rowkey_Row.J2 valsF slices_Clip_byte.f
   rw [List.append_nil]
   by_cases c1 : K.length > 256
   ·rw [if_y (by simp; omega), if_pos (.inl c1)]
   rw [if_n (by simp; omega)]
   by_cases c2 : acc.length > 65536
   ·rw [if_y (by simp; omega), if_pos (.inr c2)]
   rw [if_n (by simp; omega), if_neg (by omega)]
   rfl
  | succ k ih =>
   intro m i acc q1 q2 q3 q4
   obtain ⟨m, rfl⟩ : ∃ q, m = q + 1 := ⟨m - 1, by omega⟩
   have hi : i < row.length := by omega
   have hv := ho i hi
   have hvl := valV_len hv
   have hrl := hr.1
   rw [rowkey_Row.L1, if_y (by simp; omega), ck_y (by omega), Contains_f hz ht.key, bd_some]
   unfold rowkey_Row.J3
   rw [wI (by omega), valsF]
   by_cases c : (i : Int) ∈ t.Key
   ·rw [if_n (by simpa using c), if_pos c]
    have := ih m (i + 1) acc (by omega) (by omega) (by omega) (Nat.le_trans q4 (Nat.mul_le_mul_right _ (Nat.le_succ i)))
    simpa using this
   ·have hp : rowkey_plain.f z (api_Value.mk (gi dapi_Value row (i : Int)).Type' (gi dapi_Value row (i : Int)).Null (gi dapi_Value row (i : Int)).Int (gi dapi_Value row (i : Int)).Text) = some (valV (gi dapi_Value row (i : Int))) := plain_f hz hv
    rw [if_y (by simpa using c), if_neg c, hp, bd_some, ck_y (by show (acc.length + (valV (gi dapi_Value row (i : Int))).length) * 1 ≤ _; omega)]
    have := ih m (i + 1) (acc ++ valV (gi dapi_Value row (i : Int))) (by omega) (by omega) (by omega) (by simp; omega)
    rw [List.append_assoc] at this
    exact this
 have := key row.length z 0 [] (by omega) (by omega) (by have := hr.1; omega) (by simp)
 rw [List.nil_append] at this
 exact this
theorem refRow_f {z : Nat} (hz : 16777216 ≤ z) {t : api_Table} (ht : LimT t) {row : List api_Value} (hr : LimR row) : cormorantref20_Row.f z t row = some (RowS t row) := by
 unfold cormorantref20_Row.f RowS
 rw [tableMay_f hz ht.cols ht.key, bd_some]
 cases h1 : tabB t
 ·rfl
 have hty : tyB t = true := by unfold tabB at h1; simp at h1; exact h1.1
 rw [if_n (by rfl), if_neg (by simp), Is_f hz hty hr.1, bd_some]
 cases h2 : rowB t row
 ·rfl
 have hk := key_ok h1 hr h2
 have ho := rowB_ok h1 hr h2
 rw [if_n (by rfl), if_neg (by simp), beginIndex_f hz ht.id, bd_some, keys_f hz (by rw [headS_len]; omega) ht.key hk, bd_some]
 generalize headS t.Id ++ keysS row t.Key = K
 have key : ∀ (k m i : Nat) (acc : List Int), row.length - i = k → i ≤ row.length → k < m → acc.length ≤ i * 65600 → cormorantref20_Row.L0 z t row K m acc (i : Int) = some (if K.length > 256 ∨ (acc ++ valsF t row k i).length > 65536 then (⟨[], []⟩, 201) else (⟨K, acc ++ valsF t row k i⟩, 0)) := by
  intro k
  induction k with
  | zero =>
   intro m i acc q1 q2 q3 q4
   obtain ⟨m, rfl⟩ : ∃ q, m = q + 1 := ⟨m - 1, by omega⟩
   rw [cormorantref20_Row.L0, if_n (by simp; omega)]
   unfold cormorantref20_Row.J1 valsF
   rw [List.append_nil]
   by_cases c1 : K.length > 256
   ·rw [if_y (by simp; omega), if_pos (.inl c1)]
   rw [if_n (by simp; omega)]
   by_cases c2 : acc.length > 65536
   ·rw [if_y (by simp; omega), if_pos (.inr c2)]
   rw [if_n (by simp; omega), if_neg (by omega)]
  | succ k ih =>
   intro m i acc q1 q2 q3 q4
   obtain ⟨m, rfl⟩ : ∃ q, m = q + 1 := ⟨m - 1, by omega⟩
   have hi : i < row.length := by omega
   have hv := ho i hi
   have hvl := valV_len hv
   have hrl := hr.1
   rw [cormorantref20_Row.L0, if_y (by simp; omega), isKey_f hz ht.key, bd_some]
   unfold cormorantref20_Row.J2
   rw [wI (by omega), valsF]
   by_cases c : (i : Int) ∈ t.Key
   ·rw [if_n (by simpa using c), if_pos c]
    have := ih m (i + 1) acc (by omega) (by omega) (by omega) (Nat.le_trans q4 (Nat.mul_le_mul_right _ (Nat.le_succ i)))
    simpa using this
   ·rw [if_y (by simpa using c), if_neg c, ck_y (by omega), ValueBytes_f hz hv (by omega), bd_some]
    have := ih m (i + 1) (acc ++ valV (gi dapi_Value row (i : Int))) (by omega) (by omega) (by omega) (by simp; omega)
    rw [List.append_assoc] at this
    exact this
 have := key row.length z 0 [] (by omega) (by omega) (by have := hr.1; omega) (by simp)
 rw [List.nil_append] at this
 exact this
end Go.Proofs.YtohelmfkpmphoaaDoor
namespace Go.Proofs.YtohelmfkpmphoaaDoor
open Go Go.Proofs.YtohelmfkpmphoaaDoor.X
set_option linter.unusedVariables false
set_option linter.unusedSimpArgs false
set_option maxRecDepth 100000
set_option maxHeartbeats 4000000
namespace rowkey_reader_byte
def R (F : List Atom) (b2 : Nat) (r : Int × rowkey_reader) : Ending → World → Prop := fun e w' => ∃ (A11 : OA), ∃ (k12 : Nat), e = .returned (.int .u8 r.1) ∧ SL ([blk b2 [.slice A11 r.2.b.length k12, .bool r.2.bad], sl .ro ku8 A11 k12 r.2.b] ++ F) w'
def f (x1 : rowkey_reader) : Option (Int × rowkey_reader) := If ((x1.b.length : Int) == 0) (some (0, (rowkey_reader.mk x1.b true))) (Ck (0 < (x1.b.length : Int)) (Ck (1 ≤ (x1.b.length : Int)) (some (gi (0 : Int) x1.b 0, (rowkey_reader.mk (cut x1.b (Int.toNat 1) (Int.toNat (x1.b.length : Int))) x1.bad)))))
theorem ok (F : List Atom) (w : World) (x1 : rowkey_reader) {b2 : Nat} {A3 : OA} {k4 : Nat} (S : SL ([blk b2 [.slice A3 x1.b.length k4, .bool x1.bad], sl .ro ku8 A3 k4 x1.b] ++ F) w) (r : Int × rowkey_reader) (H : f x1 = some r) : Calls Tryd.prog 59 #[.pointer (some ⟨b2, 0, none⟩)] w (R F b2 r) := by
 refine enter (vs := [.pointer (some ⟨b2, 0, none⟩)]) Tryd.func59 rfl Tryd.ntmps59 (Nat.le_of_ble_eq_true rfl) fun a T => ?_
 refine Gets.seq (rg (r_pv T rfl rfl fun _ T => ?_))
 refine Gets.seq (Gets.seq ?_)
 refine rg (r_pv T rfl rfl fun _ T => r_pv T rfl rfl fun _ T => r_fa (o' := 0) T rfl Tryd.runUnderlying69 rfl Tryd.sizeOf29 rfl rfl fun _ T => ?_)
 refine r_ldB (ix := 0) T S rfl Tryd.isAgg29 rfl rfl rfl fun _ T => r_lenS T rfl Tryd.runUnderlying29 rfl fun _ T => r_pv T rfl rfl fun _ T => ?_
 rcases ifE H with ⟨h5, H⟩ | ⟨h5, H⟩
 ·refine cdT T rfl h5 ?_
  refine Gets.seq (rg (r_pv T rfl rfl fun _ T => r_pv T rfl rfl fun _ T => ?_))
  refine r_fa (o' := 1) T rfl Tryd.runUnderlying69 rfl Tryd.sizeOf4 rfl rfl fun _ T => r_stB (ix := 0) (l' := [blk b2 [.slice A3 x1.b.length k4, .bool true], sl .ro ku8 A3 k4 x1.b]) T S rfl rfl rfl Tryd.sizeOf4 rfl (Nat.le_of_ble_eq_true rfl) rfl fun _ S => Gets.seq (rg ?_)
  refine r_pv T rfl rfl fun _ T => ?_
  replace H := Option.some.inj H
  subst H
  exact rtn T Tryd.func59 rfl rfl ⟨A3, k4, rfl, (S.only (p := [blk b2 [.slice A3 x1.b.length k4, .bool true], sl .ro ku8 A3 k4 x1.b]) [0, 0] rfl)⟩
 ·refine cdF T rfl h5 ?_
  refine Gets.skip (Gets.seq ?_)
  refine rg (r_pv T rfl rfl fun _ T => r_pv T rfl rfl fun _ T => r_fa (o' := 0) T rfl Tryd.runUnderlying69 rfl Tryd.sizeOf29 rfl rfl fun _ T => ?_)
  refine r_ldB (ix := 0) T S rfl Tryd.isAgg29 rfl rfl rfl fun _ T => ?_
  obtain ⟨h6, H⟩ := ck H
  refine r_ia (ix := 1) T S rfl rfl rfl rfl Tryd.runUnderlying29 Tryd.sizeOf5 (by decide) h6 rfl fun _ T => ?_
  refine r_ldE (ix := 1) (i := 0) (off := 0) (f := (Value.int .u8)) T S rfl Tryd.isAgg5 rfl (0 : Int) _ rfl rfl (Fld.all _) (by decide) h6 (fun h => h) rfl fun _ T => ?_
  refine r_pv T rfl rfl fun _ T => Gets.seq (rg (r_pv T rfl rfl fun _ T => ?_))
  refine r_pv T rfl rfl fun _ T => r_pv T rfl rfl fun _ T => r_fa (o' := 0) T rfl Tryd.runUnderlying69 rfl Tryd.sizeOf29 rfl rfl fun _ T => r_ldB (ix := 0) T S rfl Tryd.isAgg29 rfl rfl rfl fun _ T => ?_
  have h7 := S.len (i := 1) rfl
  obtain ⟨h8, H⟩ := ck H
  refine r_slR (ix := 1) (xs := x1.b) T S rfl rfl (fun h => by cases h) rfl rfl rfl (by decide) h8 (Int.le_refl _) (by omega) (by omega) Tryd.runUnderlying29 Tryd.sizeOf5 rfl fun _ A9 S T => ?_
  refine r_pv T rfl rfl fun _ T => r_fa (o' := 0) T rfl Tryd.runUnderlying69 rfl Tryd.sizeOf29 rfl rfl fun _ T => r_stB (ix := 1) (l' := [sl .ro ku8 A9 (Int.toNat (k4 : Int) - Int.toNat 1) (cut x1.b (Int.toNat 1) (Int.toNat (x1.b.length : Int))), blk b2 [.slice A9 ((cut x1.b (Int.toNat 1) (Int.toNat (x1.b.length : Int))).length) (Int.toNat (k4 : Int) - Int.toNat 1), .bool x1.bad], sl .ro ku8 A3 k4 x1.b]) T S rfl rfl rfl Tryd.sizeOf29 rfl (Nat.le_of_ble_eq_true rfl) rfl fun _ S => Gets.seq ?_
  refine rg (r_pv T rfl rfl fun _ T => r_pv T rfl rfl fun _ T => ?_)
  replace H := Option.some.inj H
  subst H
  exact rtn T Tryd.func59 rfl rfl ⟨A9, (Int.toNat (k4 : Int) - Int.toNat 1), rfl, (S.only (p := [blk b2 [.slice A9 ((cut x1.b (Int.toNat 1) (Int.toNat (x1.b.length : Int))).length) (Int.toNat (k4 : Int) - Int.toNat 1), .bool x1.bad], sl .ro ku8 A9 (Int.toNat (k4 : Int) - Int.toNat 1) (cut x1.b (Int.toNat 1) (Int.toNat (x1.b.length : Int)))]) [1, 0] rfl)⟩
end rowkey_reader_byte
end Go.Proofs.YtohelmfkpmphoaaDoor
namespace Go.Proofs.YtohelmfkpmphoaaDoor
open Go Go.Proofs.YtohelmfkpmphoaaDoor.X
set_option linter.unusedVariables false
set_option linter.unusedSimpArgs false
set_option maxRecDepth 100000
set_option maxHeartbeats 4000000
namespace rowkey_reader_went
noncomputable def c0 : Code := match Tryd.f61.body with | some c => c | none => .skip
def R (F : List Atom) (b2 : Nat) (r : rowkey_reader) : Ending → World → Prop := fun e w' => ∃ (A17 : OA), ∃ (k18 : Nat), e = .returned (.tuple #[]) ∧ SL ([blk b2 [.slice A17 r.b.length k18, .bool r.bad], sl .ro ku8 A17 k18 r.b] ++ F) w'
def J1 (x8 : Bool) (x13 : List Int) : Option rowkey_reader := some (rowkey_reader.mk x13 x8)
def J0 (x1 : rowkey_reader) (x5 x6 : Int) (x8 : Bool) : Option rowkey_reader := If (x6 == 0) (Ck (0 ≤ x5 ∧ x5 ≤ (x1.b.length : Int)) (J1 x8 (cut x1.b (Int.toNat x5) (Int.toNat (x1.b.length : Int))))) (J1 x8 x1.b)
def f (x1 : rowkey_reader) (x5 x6 : Int) : Option rowkey_reader := If x1.bad (J0 x1 x5 x6 true) (J0 x1 x5 x6 (x6 != 0))
noncomputable def ptJ1 : List Item := []
noncomputable def ptJ0 : List Item := [.code (cL (cR c0)), .code (cR (cR c0))]
theorem J1_ok (F : List Atom) (r : rowkey_reader) (b2 : Nat) (x8 : Bool) (x5 x6 : Int) (A14 : OA) (x13 : List Int) (k15 : Nat) (a : Act) (w : World) (T : Tm 28 [] a) (S : SL ([blk b2 [.slice A14 x13.length k15, .bool x8], sl .ro ku8 A14 k15 x13] ++ F) w) (H : J1 x8 x13 = some r) : Gets Tryd.prog 61 ptJ1 a w (R F b2 r) := by
 replace H := Option.some.inj H
 subst H
 exact rtf T Tryd.func61 rfl rfl ⟨A14, k15, rfl, (S.only (p := [blk b2 [.slice A14 x13.length k15, .bool x8], sl .ro ku8 A14 k15 x13]) [0, 0] rfl)⟩
theorem J0_ok (F : List Atom) (r : rowkey_reader) (b2 : Nat) (x5 x6 : Int) (A3 : OA) (x1 : rowkey_reader) (k4 : Nat) (x8 : Bool) (a : Act) (w : World) (T : Tm 28 [(0, .pointer (some ⟨b2, 0, none⟩)), (1, .int .i64 x5), (2, .int .i64 x6)] a) (S : SL ([blk b2 [.slice A3 x1.b.length k4, .bool x8], sl .ro ku8 A3 k4 x1.b] ++ F) w) (H : J0 x1 x5 x6 x8 = some r) : Gets Tryd.prog 61 ptJ0 a w (R F b2 r) := by
 refine rg (r_pv T rfl rfl fun _ T => r_pv T rfl rfl fun _ T => ?_)
 rcases ifE H with ⟨h9, H⟩ | ⟨h9, H⟩
 ·refine cdT T rfl h9 ?_
  refine rg (r_pv T rfl rfl fun _ T => r_pv T rfl rfl fun _ T => r_pv T rfl rfl fun _ T => ?_)
  refine r_fa (o' := 0) T rfl Tryd.runUnderlying69 rfl Tryd.sizeOf29 rfl rfl fun _ T => r_ldB (ix := 0) T S rfl Tryd.isAgg29 rfl rfl rfl fun _ T => r_pv T rfl rfl fun _ T => ?_
  have h10 := S.len (i := 1) rfl
  obtain ⟨h11, H⟩ := ck H
  refine r_slR (ix := 1) (xs := x1.b) T S rfl rfl (fun h => by cases h) rfl rfl rfl h11.1 h11.2 (Int.le_refl _) (by omega) (by omega) Tryd.runUnderlying29 Tryd.sizeOf5 rfl fun _ A12 S T => ?_
  refine r_pv T rfl rfl fun _ T => r_fa (o' := 0) T rfl Tryd.runUnderlying69 rfl Tryd.sizeOf29 rfl rfl fun _ T => r_stB (ix := 1) (l' := [sl .ro ku8 A12 (Int.toNat (k4 : Int) - Int.toNat x5) (cut x1.b (Int.toNat x5) (Int.toNat (x1.b.length : Int))), blk b2 [.slice A12 ((cut x1.b (Int.toNat x5) (Int.toNat (x1.b.length : Int))).length) (Int.toNat (k4 : Int) - Int.toNat x5), .bool x8], sl .ro ku8 A3 k4 x1.b]) T S rfl rfl rfl Tryd.sizeOf29 rfl (Nat.le_of_ble_eq_true rfl) rfl fun _ S => ?_
  exact J1_ok F r b2 x8 x5 x6 A12 (cut x1.b (Int.toNat x5) (Int.toNat (x1.b.length : Int))) (Int.toNat (k4 : Int) - Int.toNat x5) _ _ (T.sub trivial) (S.only (p := [blk b2 [.slice A12 ((cut x1.b (Int.toNat x5) (Int.toNat (x1.b.length : Int))).length) (Int.toNat (k4 : Int) - Int.toNat x5), .bool x8], sl .ro ku8 A12 (Int.toNat (k4 : Int) - Int.toNat x5) (cut x1.b (Int.toNat x5) (Int.toNat (x1.b.length : Int)))]) [1, 0] rfl) H
 ·refine cdF T rfl h9 ?_
  refine Gets.skip ?_
  exact J1_ok F r b2 x8 x5 x6 A3 x1.b k4 _ _ (T.sub trivial) (S.only (p := [blk b2 [.slice A3 x1.b.length k4, .bool x8], sl .ro ku8 A3 k4 x1.b]) [0, 0] rfl) H
theorem ok (F : List Atom) (w : World) (x1 : rowkey_reader) (x5 x6 : Int) {b2 : Nat} {A3 : OA} {k4 : Nat} (S : SL ([blk b2 [.slice A3 x1.b.length k4, .bool x1.bad], sl .ro ku8 A3 k4 x1.b] ++ F) w) (r : rowkey_reader) (H : f x1 x5 x6 = some r) : Calls Tryd.prog 61 #[.pointer (some ⟨b2, 0, none⟩), .int .i64 x5, .int .i64 x6] w (R F b2 r) := by
 refine enter (vs := [.pointer (some ⟨b2, 0, none⟩), .int .i64 x5, .int .i64 x6]) Tryd.func61 rfl Tryd.ntmps61 (Nat.le_of_ble_eq_true rfl) fun a T => ?_
 refine Gets.seq (rg (r_pv T rfl rfl fun _ T => r_pv T rfl rfl fun _ T => ?_))
 refine r_pv T rfl rfl fun _ T => r_fa (o' := 1) T rfl Tryd.runUnderlying69 rfl Tryd.sizeOf4 rfl rfl fun _ T => r_ldB (ix := 0) T S rfl Tryd.isAgg4 rfl rfl rfl fun _ T => r_pv T rfl rfl fun _ T => ?_
 rcases ifE H with ⟨h7, H⟩ | ⟨h7, H⟩
 ·refine g_no T rfl rfl h7 rfl fun _ T => ?_
  refine g_no T rfl rfl h7 rfl fun _ T => r_pickT T rfl h7 rfl rfl fun _ T => r_pv T rfl rfl fun _ T => r_fa (o' := 1) T rfl Tryd.runUnderlying69 rfl Tryd.sizeOf4 rfl rfl fun _ T => ?_
  refine r_stB (ix := 0) (l' := [blk b2 [.slice A3 x1.b.length k4, .bool true], sl .ro ku8 A3 k4 x1.b]) T S rfl rfl rfl Tryd.sizeOf4 rfl (Nat.le_of_ble_eq_true rfl) rfl fun _ S => Gets.seq ?_
  exact J0_ok F r b2 x5 x6 A3 x1 k4 true _ _ (T.sub ⟨rfl, rfl, rfl, trivial⟩) (S.only (p := [blk b2 [.slice A3 x1.b.length k4, .bool true], sl .ro ku8 A3 k4 x1.b]) [0, 0] rfl) H
 ·refine g_yes T rfl rfl h7 ?_
  refine r_pv T rfl rfl fun _ T => g_yes T rfl rfl h7 (r_pv T rfl rfl fun _ T => r_pickF T rfl h7 rfl rfl fun _ T => ?_)
  refine r_pv T rfl rfl fun _ T => r_fa (o' := 1) T rfl Tryd.runUnderlying69 rfl Tryd.sizeOf4 rfl rfl fun _ T => r_stB (ix := 0) (l' := [blk b2 [.slice A3 x1.b.length k4, .bool (x6 != 0)], sl .ro ku8 A3 k4 x1.b]) T S rfl rfl rfl Tryd.sizeOf4 rfl (Nat.le_of_ble_eq_true rfl) rfl fun _ S => Gets.seq ?_
  exact J0_ok F r b2 x5 x6 A3 x1 k4 (x6 != 0) _ _ (T.sub ⟨rfl, rfl, rfl, trivial⟩) (S.only (p := [blk b2 [.slice A3 x1.b.length k4, .bool (x6 != 0)], sl .ro ku8 A3 k4 x1.b]) [0, 0] rfl) H
end rowkey_reader_went
end Go.Proofs.YtohelmfkpmphoaaDoor
namespace Go.Proofs.YtohelmfkpmphoaaDoor
open Go Go.Proofs.YtohelmfkpmphoaaDoor.X
set_option linter.unusedVariables false
set_option linter.unusedSimpArgs false
set_option maxRecDepth 100000
set_option maxHeartbeats 4000000
namespace rowkey_reader_value_at58
noncomputable def c0 : Code := match Tryd.f32.body with | some c => c | none => .skip
def R (F : List Atom) (b2 : Nat) (r : api_Value × rowkey_reader) : Ending → World → Prop := fun e w' => ∃ (A46 : OA), ∃ (k47 : Nat), e = .returned (.agg #[.int .i64 r.1.Type', .bool r.1.Null, .int .i64 r.1.Int, .string r.1.Text]) ∧ SL ([blk b2 [.slice A46 r.2.b.length k47, .bool r.2.bad], sl .ro ku8 A46 k47 r.2.b] ++ F) w'
def J0 (z : Nat) (x5 : Int) (x38 : List Int) (x41 x42 : Bool) (x43 : Int) (x44 : ByteArray) : Option (api_Value × rowkey_reader) := some ((api_Value.mk x5 x42 x43 x44), (rowkey_reader.mk x38 x41))
def f (z : Nat) (x1 : rowkey_reader) (x5 x6 : Int) : Option (api_Value × rowkey_reader) := Bd (rowkey_reader_byte.f x1) fun x10 => If (x10.1 == x6) (J0 z x5 x10.2.b x10.2.bad true 0 (⟨#[]⟩ : ByteArray)) (If (x5 == 1) (Bd (codec_TakeKeyInt.f z x10.2.b) fun x17 => Bd (rowkey_reader_went.f x10.2 x17.2.1 x17.2.2) fun x19 => J0 z x5 x19.b x19.bad false x17.1 (⟨#[]⟩ : ByteArray)) (If (x5 == 2) (Bd (rowkey_reader_byte.f x10.2) fun x25 => J0 z x5 x25.2.b x25.2.bad false (wr .i64 x25.1) (⟨#[]⟩ : ByteArray)) (Bd (codec_TakeKeyText.f z x10.2.b) fun x30 => Bd (rowkey_reader_went.f x10.2 x30.2.1 x30.2.2) fun x34 => J0 z x5 x34.b x34.bad false 0 (bstr x30.1))))
noncomputable def ptJ0 : List Item := [.code (cL (cr 3 c0)), .code (cr 4 c0)]
abbrev y0 : List Value := [.int .i64 0, .bool false, .int .i64 0, .string (⟨#[]⟩ : ByteArray)]
abbrev y1 (x5 : Int) : List Value := [.int .i64 x5, .bool false, .int .i64 0, .string (⟨#[]⟩ : ByteArray)]
abbrev y2 (b2 : Nat) (A12 : OA) (x10 : Int × rowkey_reader) (k13 : Nat) : Atom := blk b2 [.slice A12 x10.2.b.length k13, .bool x10.2.bad]
abbrev y3 : Value := .string (⟨#[]⟩ : ByteArray)
theorem J0_ok (F : List Atom) (r : api_Value × rowkey_reader) (z b2 b7 b8 : Nat) (x5 x6 : Int) (A39 : OA) (x38 : List Int) (k40 : Nat) (x41 x42 : Bool) (x43 : Int) (x44 : ByteArray) (a : Act) (w : World) (T : Tm 67 [(8, .pointer (some ⟨b7, 0, none⟩)), (9, .pointer (some ⟨b8, 0, none⟩))] a) (S : SL ([blk b2 [.slice A39 x38.length k40, .bool x41], sl .ro ku8 A39 k40 x38, blk b7 (y0), blk b8 [.int .i64 x5, .bool x42, .int .i64 x43, .string x44]] ++ F) w) (H : J0 z x5 x38 x41 x42 x43 x44 = some r) : Gets Tryd.prog 32 ptJ0 a w (R F b2 r) := by
 refine rg (r_ldBA (ix := 3) (ds := [.int .i64 x5, .bool x42, .int .i64 x43, .string x44]) T S rfl Tryd.isAgg43 rfl rfl Tryd.sizeOf43 rfl fun _ T => r_stBA (ix := 2) (vs := [.int .i64 x5, .bool x42, .int .i64 x43, .string x44]) (l' := [blk b2 [.slice A39 x38.length k40, .bool x41], sl .ro ku8 A39 k40 x38, blk b7 [.int .i64 x5, .bool x42, .int .i64 x43, .string x44], blk b8 [.int .i64 x5, .bool x42, .int .i64 x43, .string x44]]) T S rfl rfl rfl rfl (by simp) Tryd.sizeOf43 (Nat.le_of_ble_eq_true rfl) rfl fun _ S => ?_)
 replace H := Option.some.inj H
 subst H
 exact rtnM T S Tryd.func32 rfl ⟨_, _, rfl, ⟨b7, _, 2, rfl, rfl, .inl ⟨Tryd.isAgg43, Tryd.sizeOf43, rfl⟩⟩, rfl⟩ ⟨A39, k40, rfl, (S.only (p := [blk b2 [.slice A39 x38.length k40, .bool x41], sl .ro ku8 A39 k40 x38]) [0, 0] rfl)⟩
theorem ok (F : List Atom) (w : World) (z : Nat) (x1 : rowkey_reader) (x5 x6 : Int) {b2 : Nat} {A3 : OA} {k4 : Nat} (S : SL ([blk b2 [.slice A3 x1.b.length k4, .bool x1.bad], sl .ro ku8 A3 k4 x1.b] ++ F) w) (r : api_Value × rowkey_reader) (H : f z x1 x5 x6 = some r) : Calls Tryd.prog 32 #[.pointer (some ⟨b2, 0, none⟩), .int .i64 x5, .int .u8 x6, .func (.func 58) #[] #[]] w (R F b2 r) := by
 refine enter (vs := [.pointer (some ⟨b2, 0, none⟩), .int .i64 x5, .int .u8 x6, .func (.func 58) #[] #[]]) Tryd.func32 rfl Tryd.ntmps32 (Nat.le_of_ble_eq_true rfl) fun a T => ?_
 refine Gets.seq (rg (r_alloc T S zv43 (cs := (y0)) rfl rfl fun _ _ b7 S T => Gets.seq ?_))
 refine rg (r_pv T rfl rfl fun _ T => r_build (cs := #[.int .i64 x5, .bool false, .int .i64 0, (y3)]) T stt43 rfl rfl rfl fun _ T => r_alloc T S zv43 (cs := (y0)) rfl rfl fun _ _ b8 S T => ?_)
 refine r_stBA (ix := 0) (vs := (y1 x5)) (l' := [blk b8 (y1 x5), blk b7 (y0), blk b2 [.slice A3 x1.b.length k4, .bool x1.bad], sl .ro ku8 A3 k4 x1.b]) T S rfl rfl rfl rfl (by simp) Tryd.sizeOf43 (Nat.le_of_ble_eq_true rfl) rfl fun _ S => ?_
 refine Gets.seq (Gets.block (Gets.seq ?_))
 refine rg (r_pv T rfl rfl fun _ T => ?_)
 obtain ⟨x10, h9, H⟩ := bd H
 refine r_call T Tryd.call59 rfl rfl (rowkey_reader_byte.ok _ _ x1 (S.sel (p := [blk b2 [.slice A3 x1.b.length k4, .bool x1.bad], sl .ro ku8 A3 k4 x1.b]) (is := [2, 2]) rfl) _ h9) ?_
 rintro _ _ ⟨A12, k13, rfl, S⟩
 refine ⟨_, rfl, fun _ T => ?_⟩
 replace S : SL ([(y2 b2 A12 x10 k13), sl .ro ku8 A12 k13 x10.2.b, blk b8 (y1 x5), blk b7 (y0)] ++ F) _ := S.join
 refine r_pv T rfl rfl fun _ T => r_pv T rfl rfl fun _ T => r_pv T rfl rfl fun _ T => ?_
 rcases ifE H with ⟨h14, H⟩ | ⟨h14, H⟩
 ·refine cdT T rfl h14 ?_
  refine rg (r_fa (o' := 1) T rfl Tryd.runUnderlying43 rfl Tryd.sizeOf4 rfl rfl fun _ T => r_stB (ix := 2) (l' := [(y2 b2 A12 x10 k13), sl .ro ku8 A12 k13 x10.2.b, blk b8 [.int .i64 x5, .bool true, .int .i64 0, (y3)], blk b7 (y0)]) T S rfl rfl rfl Tryd.sizeOf4 rfl (Nat.le_of_ble_eq_true rfl) rfl fun _ S => ?_)
  refine Gets.inBlock (Gets.seq ?_)
  exact J0_ok F r z b2 b7 b8 x5 x6 A12 x10.2.b k13 x10.2.bad true 0 (⟨#[]⟩ : ByteArray) _ _ (T.sub ⟨rfl, rfl, trivial⟩) (S.only (p := [(y2 b2 A12 x10 k13), sl .ro ku8 A12 k13 x10.2.b, blk b7 (y0), blk b8 [.int .i64 x5, .bool true, .int .i64 0, (y3)]]) [0, 0, 1, 0] rfl) H
 ·refine cdF T rfl h14 ?_
  refine Gets.seq (rg (r_pv T rfl rfl fun _ T => r_pv T rfl rfl fun _ T => ?_))
  refine r_pv T rfl rfl fun _ T => ?_
  rcases ifE H with ⟨h15, H⟩ | ⟨h15, H⟩
  ·refine cdT T rfl h15 ?_
   refine Gets.seq (rg (r_pv T rfl rfl fun _ T => r_pv T rfl rfl fun _ T => ?_))
   refine r_fa (o' := 0) T rfl Tryd.runUnderlying69 rfl Tryd.sizeOf29 rfl rfl fun _ T => r_ldB (ix := 0) T S rfl Tryd.isAgg29 rfl rfl rfl fun _ T => ?_
   obtain ⟨x17, h16, H⟩ := bd H
   refine r_call T Tryd.call60 rfl rfl (codec_TakeKeyInt.ok _ _ z x10.2.b (S.sel (p := [sl .ro ku8 A12 k13 x10.2.b]) (is := [1]) rfl) _ h16) ?_
   rintro _ _ ⟨rfl, S⟩
   refine ⟨_, rfl, fun _ T => ?_⟩
   replace S : SL ([sl .ro ku8 A12 k13 x10.2.b, (y2 b2 A12 x10 k13), blk b8 (y1 x5), blk b7 (y0)] ++ F) _ := S.join
   refine r_pv T rfl rfl fun _ T => r_pv T rfl rfl fun _ T => r_pv T rfl rfl fun _ T => r_pv T rfl rfl fun _ T => ?_
   refine r_pv T rfl rfl fun _ T => r_pv T rfl rfl fun _ T => r_pv T rfl rfl fun _ T => Gets.seq ?_
   refine rg (r_pv T rfl rfl fun _ T => r_pv T rfl rfl fun _ T => r_pv T rfl rfl fun _ T => ?_)
   obtain ⟨x19, h18, H⟩ := bd H
   refine r_call T Tryd.call61 rfl rfl (rowkey_reader_went.ok _ _ x10.2 x17.2.1 x17.2.2 (S.sel (p := [(y2 b2 A12 x10 k13), sl .ro ku8 A12 k13 x10.2.b]) (is := [1, 0]) rfl) _ h18) ?_
   rintro _ _ ⟨A21, k22, rfl, S⟩
   refine ⟨_, rfl, fun _ T => ?_⟩
   replace S : SL ([blk b2 [.slice A21 x19.b.length k22, .bool x19.bad], sl .ro ku8 A21 k22 x19.b, blk b8 (y1 x5), blk b7 (y0)] ++ F) _ := S.join
   refine rg (r_pv T rfl rfl fun _ T => r_fa (o' := 2) T rfl Tryd.runUnderlying43 rfl Tryd.sizeOf2 rfl rfl fun _ T => r_stB (ix := 2) (l' := [blk b2 [.slice A21 x19.b.length k22, .bool x19.bad], sl .ro ku8 A21 k22 x19.b, blk b8 [.int .i64 x5, .bool false, .int .i64 x17.1, (y3)], blk b7 (y0)]) T S rfl rfl rfl Tryd.sizeOf2 rfl (Nat.le_of_ble_eq_true rfl) rfl fun _ S => ?_)
   refine Gets.inBlock (Gets.seq ?_)
   exact J0_ok F r z b2 b7 b8 x5 x6 A21 x19.b k22 x19.bad false x17.1 (⟨#[]⟩ : ByteArray) _ _ (T.sub ⟨rfl, rfl, trivial⟩) (S.only (p := [blk b2 [.slice A21 x19.b.length k22, .bool x19.bad], sl .ro ku8 A21 k22 x19.b, blk b7 (y0), blk b8 [.int .i64 x5, .bool false, .int .i64 x17.1, (y3)]]) [0, 0, 1, 0] rfl) H
  ·refine cdF T rfl h15 ?_
   refine Gets.seq (rg (r_pv T rfl rfl fun _ T => r_pv T rfl rfl fun _ T => ?_))
   refine r_pv T rfl rfl fun _ T => ?_
   rcases ifE H with ⟨h23, H⟩ | ⟨h23, H⟩
   ·refine cdT T rfl h23 ?_
    refine rg (r_pv T rfl rfl fun _ T => ?_)
    obtain ⟨x25, h24, H⟩ := bd H
    refine r_call T Tryd.call59 rfl rfl (rowkey_reader_byte.ok _ _ x10.2 (S.sel (p := [(y2 b2 A12 x10 k13), sl .ro ku8 A12 k13 x10.2.b]) (is := [0, 0]) rfl) _ h24) ?_
    rintro _ _ ⟨A27, k28, rfl, S⟩
    refine ⟨_, rfl, fun _ T => ?_⟩
    replace S : SL ([blk b2 [.slice A27 x25.2.b.length k28, .bool x25.2.bad], sl .ro ku8 A27 k28 x25.2.b, blk b8 (y1 x5), blk b7 (y0)] ++ F) _ := S.join
    refine r_conv T rfl Tryd.runUnderlying5 Tryd.runUnderlying2 rfl fun _ T => r_fa (o' := 2) T rfl Tryd.runUnderlying43 rfl Tryd.sizeOf2 rfl rfl fun _ T => r_stB (ix := 2) (l' := [blk b2 [.slice A27 x25.2.b.length k28, .bool x25.2.bad], sl .ro ku8 A27 k28 x25.2.b, blk b8 [.int .i64 x5, .bool false, .int .i64 (wr .i64 x25.1), (y3)], blk b7 (y0)]) T S rfl rfl rfl Tryd.sizeOf2 rfl (Nat.le_of_ble_eq_true rfl) rfl fun _ S => ?_
    refine Gets.inBlock (Gets.seq ?_)
    exact J0_ok F r z b2 b7 b8 x5 x6 A27 x25.2.b k28 x25.2.bad false (wr .i64 x25.1) (⟨#[]⟩ : ByteArray) _ _ (T.sub ⟨rfl, rfl, trivial⟩) (S.only (p := [blk b2 [.slice A27 x25.2.b.length k28, .bool x25.2.bad], sl .ro ku8 A27 k28 x25.2.b, blk b7 (y0), blk b8 [.int .i64 x5, .bool false, .int .i64 (wr .i64 x25.1), (y3)]]) [0, 0, 1, 0] rfl) H
   ·refine cdF T rfl h23 ?_
    refine Gets.seq (rg (r_pv T rfl rfl fun _ T => r_pv T rfl rfl fun _ T => ?_))
    refine r_pv T rfl rfl fun _ T => r_fa (o' := 0) T rfl Tryd.runUnderlying69 rfl Tryd.sizeOf29 rfl rfl fun _ T => r_ldB (ix := 0) T S rfl Tryd.isAgg29 rfl rfl rfl fun _ T => ?_
    obtain ⟨x30, h29, H⟩ := bd H
    refine r_callF T rfl Tryd.call58 rfl rfl (codec_TakeKeyText.ok _ _ z x10.2.b (S.sel (p := [sl .ro ku8 A12 k13 x10.2.b]) (is := [1]) rfl) _ h29) ?_
    rintro _ _ ⟨A31, k32, rfl, S⟩
    refine ⟨_, rfl, fun _ T => ?_⟩
    replace S : SL ([sl .own ku8 A31 k32 x30.1, sl .ro ku8 A12 k13 x10.2.b, (y2 b2 A12 x10 k13), blk b8 (y1 x5), blk b7 (y0)] ++ F) _ := S.join
    refine r_pv T rfl rfl fun _ T => r_pv T rfl rfl fun _ T => r_pv T rfl rfl fun _ T => r_pv T rfl rfl fun _ T => ?_
    refine r_pv T rfl rfl fun _ T => r_pv T rfl rfl fun _ T => r_pv T rfl rfl fun _ T => Gets.seq ?_
    refine rg (r_pv T rfl rfl fun _ T => r_pv T rfl rfl fun _ T => r_pv T rfl rfl fun _ T => ?_)
    obtain ⟨x34, h33, H⟩ := bd H
    refine r_call T Tryd.call61 rfl rfl (rowkey_reader_went.ok _ _ x10.2 x30.2.1 x30.2.2 (S.sel (p := [(y2 b2 A12 x10 k13), sl .ro ku8 A12 k13 x10.2.b]) (is := [2, 1]) rfl) _ h33) ?_
    rintro _ _ ⟨A36, k37, rfl, S⟩
    refine ⟨_, rfl, fun _ T => ?_⟩
    replace S : SL ([blk b2 [.slice A36 x34.b.length k37, .bool x34.bad], sl .ro ku8 A36 k37 x34.b, sl .own ku8 A31 k32 x30.1, blk b8 (y1 x5), blk b7 (y0)] ++ F) _ := S.join
    refine rg (r_pv T rfl rfl fun _ T => r_b2s (ix := 2) (xs := x30.1) T S rfl rfl Tryd.runUnderlying29 Tryd.runUnderlying9 Tryd.runUnderlying5 rfl fun _ T => r_fa (o' := 3) T rfl Tryd.runUnderlying43 rfl Tryd.sizeOf9 rfl rfl fun _ T => ?_)
    refine r_stB (ix := 3) (l' := [blk b2 [.slice A36 x34.b.length k37, .bool x34.bad], sl .ro ku8 A36 k37 x34.b, sl .own ku8 A31 k32 x30.1, blk b8 [.int .i64 x5, .bool false, .int .i64 0, .string (bstr x30.1)], blk b7 (y0)]) T S rfl rfl rfl Tryd.sizeOf9 rfl (Nat.le_of_ble_eq_true rfl) rfl fun _ S => ?_
    refine Gets.inBlock (Gets.seq ?_)
    exact J0_ok F r z b2 b7 b8 x5 x6 A36 x34.b k37 x34.bad false 0 (bstr x30.1) _ _ (T.sub ⟨rfl, rfl, trivial⟩) (S.only (p := [blk b2 [.slice A36 x34.b.length k37, .bool x34.bad], sl .ro ku8 A36 k37 x34.b, blk b7 (y0), blk b8 [.int .i64 x5, .bool false, .int .i64 0, .string (bstr x30.1)]]) [0, 0, 2, 1] rfl) H
end rowkey_reader_value_at58
end Go.Proofs.YtohelmfkpmphoaaDoor
namespace Go.Proofs.YtohelmfkpmphoaaDoor
open Go Go.Proofs.YtohelmfkpmphoaaDoor.X
set_option linter.unusedVariables false
set_option linter.unusedSimpArgs false
set_option maxRecDepth 100000
set_option maxHeartbeats 4000000
namespace rowkey_reader_keys
noncomputable def c0 : Code := match Tryd.f31.body with | some c => c | none => .skip
def R (F : List Atom) (b2 : Nat) (x5 : api_Table) (A6 : OA) (k7 : Nat) (A8 : OA) (k9 : Nat) (A10 : OA) (k11 : Nat) (x12 : List Int) (A13 : OA) (k14 : Nat) (m15 : Md) (x16 : List api_Value) (A17 : OA) (k18 : Nat) (r : rowkey_reader × (List api_Value)) : Ending → World → Prop := fun e w' => ∃ (A38 : OA), ∃ (k39 : Nat), e = .returned (.tuple #[]) ∧ SL ([blk b2 [.slice A38 r.1.b.length k39, .bool r.1.bad], sl .ro ku8 A38 k39 r.1.b, sl .ro kapi_Column A6 k7 x5.Columns, sl .ro ki64 A8 k9 x5.Key, sl .ro kapi_Index A10 k11 x5.Indexes, sl m15 ki64 A13 k14 x12, sl .own kapi_Value A17 k18 r.2, pr (r.2.length = x16.length)] ++ F) w'
def L0 (z : Nat) (x5 : api_Table) (x12 : List Int) : Nat → Int → (List Int) → Bool → (List api_Value) → Option (rowkey_reader × (List api_Value))
 | 0, _, _, _, _ => none
 | m + 1, x26, x20, x23, x24 => If (decide (x26 < (x12.length : Int))) (Ck (0 ≤ x26 ∧ x26 < (x12.length : Int)) (Ck (0 ≤ gi (0 : Int) x12 x26 ∧ gi (0 : Int) x12 x26 < (x5.Columns.length : Int)) (Bd (rowkey_reader_value_at58.f z (rowkey_reader.mk x20 x23) ((gi dapi_Column x5.Columns (gi (0 : Int) x12 x26)).Type') 2) fun x31 => Ck (gi (0 : Int) x12 x26 < (x24.length : Int)) (L0 z x5 x12 m (wr .i64 (x26 + 1)) x31.2.b x31.2.bad (x24.set (Int.toNat (gi (0 : Int) x12 x26)) x31.1))))) (some ((rowkey_reader.mk x20 x23), x24))
def f (z : Nat) (x1 : rowkey_reader) (x5 : api_Table) (x12 : List Int) (x16 : List api_Value) : Option (rowkey_reader × (List api_Value)) := L0 z x5 x12 z 0 x1.b x1.bad x16
noncomputable def ptL0 : List Item := [.code (cB (cB (cR (cR c0)))), .inLoop (cB (cB (cR (cR c0)))), .inBlock 0]
abbrev y0 (x5 : api_Table) (A6 : OA) (k7 : Nat) (A8 : OA) (k9 : Nat) (A10 : OA) (k11 : Nat) : List Value := [.int .i64 x5.Id, .string x5.Name, .slice A6 x5.Columns.length k7, .slice A8 x5.Key.length k9, .slice A10 x5.Indexes.length k11]
theorem L0_ok (F : List Atom) (r : rowkey_reader × (List api_Value)) (z b2 : Nat) (x5 : api_Table) (A6 : OA) (k7 : Nat) (A8 : OA) (k9 : Nat) (A10 : OA) (k11 : Nat) (x12 : List Int) (A13 : OA) (k14 : Nat) (m15 : Md) (x16 : List api_Value) (A17 : OA) (k18 b19 m : Nat) : ∀ (x26 : Int) (A21 : OA) (x20 : List Int) (k22 : Nat) (x23 : Bool) (x24 : List api_Value) (a : Act) (w : World), Tm 28 [(0, .pointer (some ⟨b2, 0, none⟩)), (3, .slice A17 x16.length k18), (5, .pointer (some ⟨b19, 0, none⟩)), (10, .slice A13 x12.length k14), (11, .int .i64 (x12.length : Int)), (12, .int .i64 x26)] a → SL ([blk b2 [.slice A21 x20.length k22, .bool x23], sl .ro ku8 A21 k22 x20, sl .ro kapi_Column A6 k7 x5.Columns, sl .ro ki64 A8 k9 x5.Key, sl .ro kapi_Index A10 k11 x5.Indexes, sl m15 ki64 A13 k14 x12, sl .own kapi_Value A17 k18 x24, pr (x24.length = x16.length), blk b19 (y0 x5 A6 k7 A8 k9 A10 k11)] ++ F) w → L0 z x5 x12 m x26 x20 x23 x24 = some r → Gets Tryd.prog 31 ptL0 a w (R F b2 x5 A6 k7 A8 k9 A10 k11 x12 A13 k14 m15 x16 A17 k18 r) := by
 induction m with
 | zero => intro _ _ _ _ _ _ _ _ _ _ H; cases H
 | succ m ih =>
  intro x26 A21 x20 k22 x23 x24 a w T S H
  have h25 := S.getp (i := 7) rfl
  refine Gets.seq (rg (r_pv T rfl rfl fun _ T => Gets.seq ?_))
  rcases ifE H with ⟨h27, H⟩ | ⟨h27, H⟩
  ·refine cdT T rfl h27 ?_
   refine Gets.skip (Gets.seq (Gets.block (Gets.seq ?_)))
   refine rg ?_
   obtain ⟨h28, H⟩ := ck H
   refine r_ia (ix := 5) T S rfl rfl rfl rfl Tryd.runUnderlying23 Tryd.sizeOf3 h28.1 h28.2 rfl fun _ T => r_ldE (ix := 5) (i := x26) (off := 0) (f := (Value.int .i64)) T S rfl Tryd.isAgg3 rfl (0 : Int) _ rfl rfl (Fld.all _) h28.1 h28.2 (fun h => h) rfl fun _ T => r_pv T rfl rfl fun _ T => rg ?_
   refine r_pv T rfl rfl fun _ T => r_pv T rfl rfl fun _ T => r_pv T rfl rfl fun _ T => r_fa (o' := 2) T rfl Tryd.runUnderlying26 rfl Tryd.sizeOf22 rfl rfl fun _ T => ?_
   refine r_ldB (ix := 8) T S rfl Tryd.isAgg22 rfl rfl rfl fun _ T => r_pv T rfl rfl fun _ T => ?_
   obtain ⟨h29, H⟩ := ck H
   refine r_ia (ix := 2) T S rfl rfl rfl rfl Tryd.runUnderlying22 Tryd.sizeOf72 h29.1 h29.2 rfl fun _ T => r_faE T rfl Tryd.runUnderlying72 rfl Tryd.sizeOf3 rfl fun _ T => r_ldE (ix := 2) (i := gi (0 : Int) x12 x26) (off := 1) (f := (Value.int .i64)) T S rfl Tryd.isAgg3 rfl dapi_Column _ rfl rfl fld_api_Column_Type' h29.1 h29.2 (fun h => h) rfl fun _ T => ?_
   obtain ⟨x31, h30, H⟩ := bd H
   refine r_call T Tryd.call32 rfl rfl (rowkey_reader_value_at58.ok _ _ z (rowkey_reader.mk x20 x23) ((gi dapi_Column x5.Columns (gi (0 : Int) x12 x26)).Type') 2 (S.sel (p := [blk b2 [.slice A21 x20.length k22, .bool x23], sl .ro ku8 A21 k22 x20]) (is := [0, 0]) rfl) _ h30) ?_
   rintro _ _ ⟨A33, k34, rfl, S⟩
   refine ⟨_, rfl, fun _ T => ?_⟩
   replace S : SL ([blk b2 [.slice A33 x31.2.b.length k34, .bool x31.2.bad], sl .ro ku8 A33 k34 x31.2.b, sl .ro kapi_Column A6 k7 x5.Columns, sl .ro ki64 A8 k9 x5.Key, sl .ro kapi_Index A10 k11 x5.Indexes, sl m15 ki64 A13 k14 x12, sl .own kapi_Value A17 k18 x24, pr (x24.length = x16.length), blk b19 (y0 x5 A6 k7 A8 k9 A10 k11)] ++ F) _ := S.join
   obtain ⟨h35, H⟩ := ck H
   refine r_ia (ix := 6) T S rfl rfl rfl h25.symm Tryd.runUnderlying27 Tryd.sizeOf43 h29.1 h35 rfl fun _ T => ?_
   have h36 : (x24.set (Int.toNat (gi (0 : Int) x12 x26)) x31.1).length = x16.length := by rw [List.length_set]; exact h25
   refine r_stEO (ix := 6) (i := gi (0 : Int) x12 x26) (u := x31.1) (vs := [.int .i64 x31.1.Type', .bool x31.1.Null, .int .i64 x31.1.Int, .string x31.1.Text]) (l' := [blk b2 [.slice A33 x31.2.b.length k34, .bool x31.2.bad], sl .ro ku8 A33 k34 x31.2.b, sl .ro kapi_Column A6 k7 x5.Columns, sl .ro ki64 A8 k9 x5.Key, sl .ro kapi_Index A10 k11 x5.Indexes, sl m15 ki64 A13 k14 x12, sl .own kapi_Value A17 k18 (x24.set (Int.toNat (gi (0 : Int) x12 x26)) x31.1), pr (x24.length = x16.length), blk b19 (y0 x5 A6 k7 A8 k9 A10 k11)]) T S rfl rfl rfl rfl (by simp) (fun _ => ⟨_, _, rfl, rfl, ⟨_, _, rfl, rfl, ⟨_, _, rfl, rfl, rfl⟩⟩⟩) Tryd.sizeOf43 h29.1 h35 rfl fun _ S => ?_
   refine Gets.inBlock (rg (r_pv T rfl rfl fun _ T => r_pv T rfl rfl fun _ T => ?_))
   refine Gets.inLoop ?_
   replace S := SL.prf h36 S
   exact ih (wr .i64 (x26 + 1)) A33 x31.2.b k34 x31.2.bad (x24.set (Int.toNat (gi (0 : Int) x12 x26)) x31.1) _ _ (T.sub ⟨rfl, rfl, rfl, rfl, rfl, rfl, trivial⟩) (S.only (p := [blk b2 [.slice A33 x31.2.b.length k34, .bool x31.2.bad], sl .ro ku8 A33 k34 x31.2.b, sl .ro kapi_Column A6 k7 x5.Columns, sl .ro ki64 A8 k9 x5.Key, sl .ro kapi_Index A10 k11 x5.Indexes, sl m15 ki64 A13 k14 x12, sl .own kapi_Value A17 k18 (x24.set (Int.toNat (gi (0 : Int) x12 x26)) x31.1), pr ((x24.set (Int.toNat (gi (0 : Int) x12 x26)) x31.1).length = x16.length), blk b19 (y0 x5 A6 k7 A8 k9 A10 k11)]) [1, 1, 1, 1, 1, 1, 1, 0, 1] rfl) H
  ·refine cdF T rfl h27 ?_
   refine Gets.exit rfl ?_
   replace S := SL.prf h25 S
   replace H := Option.some.inj H
   subst H
   exact rtf T Tryd.func31 rfl rfl ⟨A21, k22, rfl, (S.only (p := [blk b2 [.slice A21 x20.length k22, .bool x23], sl .ro ku8 A21 k22 x20, sl .ro kapi_Column A6 k7 x5.Columns, sl .ro ki64 A8 k9 x5.Key, sl .ro kapi_Index A10 k11 x5.Indexes, sl m15 ki64 A13 k14 x12, sl .own kapi_Value A17 k18 x24, pr (x24.length = x16.length)]) [1, 1, 1, 1, 1, 1, 1, 0] rfl)⟩
theorem ok (F : List Atom) (w : World) (z : Nat) (x1 : rowkey_reader) (x5 : api_Table) (x12 : List Int) (x16 : List api_Value) {b2 : Nat} {A3 : OA} {k4 : Nat} {A6 : OA} {k7 : Nat} {A8 : OA} {k9 : Nat} {A10 : OA} {k11 : Nat} {A13 : OA} {k14 : Nat} {m15 : Md} {A17 : OA} {k18 : Nat} (S : SL ([blk b2 [.slice A3 x1.b.length k4, .bool x1.bad], sl .ro ku8 A3 k4 x1.b, sl .ro kapi_Column A6 k7 x5.Columns, sl .ro ki64 A8 k9 x5.Key, sl .ro kapi_Index A10 k11 x5.Indexes, sl m15 ki64 A13 k14 x12, sl .own kapi_Value A17 k18 x16] ++ F) w) (r : rowkey_reader × (List api_Value)) (H : f z x1 x5 x12 x16 = some r) : Calls Tryd.prog 31 #[.pointer (some ⟨b2, 0, none⟩), .agg #[.int .i64 x5.Id, .string x5.Name, .slice A6 x5.Columns.length k7, .slice A8 x5.Key.length k9, .slice A10 x5.Indexes.length k11], .slice A13 x12.length k14, .slice A17 x16.length k18] w (R F b2 x5 A6 k7 A8 k9 A10 k11 x12 A13 k14 m15 x16 A17 k18 r) := by
 refine enter (vs := [.pointer (some ⟨b2, 0, none⟩), .agg #[.int .i64 x5.Id, .string x5.Name, .slice A6 x5.Columns.length k7, .slice A8 x5.Key.length k9, .slice A10 x5.Indexes.length k11], .slice A13 x12.length k14, .slice A17 x16.length k18]) Tryd.func31 rfl Tryd.ntmps31 (Nat.le_of_ble_eq_true rfl) fun a T => ?_
 have pinA17 : x16.length = x16.length := rfl
 refine Gets.seq (rg (r_box T S rfl (cs := (y0 x5 A6 k7 A8 k9 A10 k11)) rfl rfl fun _ _ b19 S T => Gets.seq ?_))
 refine rg (r_pv T rfl rfl fun _ T => r_lenS T rfl Tryd.runUnderlying23 rfl fun _ T => r_pv T rfl rfl fun _ T => ?_)
 refine Gets.block (Gets.loop ?_)
 replace S := SL.prf pinA17 S
 exact L0_ok F r z b2 x5 A6 k7 A8 k9 A10 k11 x12 A13 k14 m15 x16 A17 k18 b19 z 0 A3 x1.b k4 x1.bad x16 _ _ (T.sub ⟨rfl, rfl, rfl, rfl, rfl, rfl, trivial⟩) (S.only (p := [blk b2 [.slice A3 x1.b.length k4, .bool x1.bad], sl .ro ku8 A3 k4 x1.b, sl .ro kapi_Column A6 k7 x5.Columns, sl .ro ki64 A8 k9 x5.Key, sl .ro kapi_Index A10 k11 x5.Indexes, sl m15 ki64 A13 k14 x12, sl .own kapi_Value A17 k18 x16, pr (x16.length = x16.length), blk b19 (y0 x5 A6 k7 A8 k9 A10 k11)]) [2, 2, 2, 2, 2, 2, 2, 0, 0] rfl) H
end rowkey_reader_keys
end Go.Proofs.YtohelmfkpmphoaaDoor
namespace Go.Proofs.YtohelmfkpmphoaaDoor
open Go Go.Proofs.YtohelmfkpmphoaaDoor.X
set_option linter.unusedVariables false
set_option linter.unusedSimpArgs false
set_option maxRecDepth 100000
set_option maxHeartbeats 4000000
namespace rowkey_reader_value_at33
noncomputable def c0 : Code := match Tryd.f32.body with | some c => c | none => .skip
def R (F : List Atom) (b2 : Nat) (r : api_Value × rowkey_reader) : Ending → World → Prop := fun e w' => ∃ (A46 : OA), ∃ (k47 : Nat), e = .returned (.agg #[.int .i64 r.1.Type', .bool r.1.Null, .int .i64 r.1.Int, .string r.1.Text]) ∧ SL ([blk b2 [.slice A46 r.2.b.length k47, .bool r.2.bad], sl .ro ku8 A46 k47 r.2.b] ++ F) w'
def J0 (z : Nat) (x5 : Int) (x38 : List Int) (x41 x42 : Bool) (x43 : Int) (x44 : ByteArray) : Option (api_Value × rowkey_reader) := some ((api_Value.mk x5 x42 x43 x44), (rowkey_reader.mk x38 x41))
def f (z : Nat) (x1 : rowkey_reader) (x5 x6 : Int) : Option (api_Value × rowkey_reader) := Bd (rowkey_reader_byte.f x1) fun x10 => If (x10.1 == x6) (J0 z x5 x10.2.b x10.2.bad true 0 (⟨#[]⟩ : ByteArray)) (If (x5 == 1) (Bd (codec_TakeKeyInt.f z x10.2.b) fun x17 => Bd (rowkey_reader_went.f x10.2 x17.2.1 x17.2.2) fun x19 => J0 z x5 x19.b x19.bad false x17.1 (⟨#[]⟩ : ByteArray)) (If (x5 == 2) (Bd (rowkey_reader_byte.f x10.2) fun x25 => J0 z x5 x25.2.b x25.2.bad false (wr .i64 x25.1) (⟨#[]⟩ : ByteArray)) (Bd (codec_TakeText.f z x10.2.b) fun x30 => Bd (rowkey_reader_went.f x10.2 x30.2.1 x30.2.2) fun x34 => J0 z x5 x34.b x34.bad false 0 (bstr x30.1))))
noncomputable def ptJ0 : List Item := [.code (cL (cr 3 c0)), .code (cr 4 c0)]
abbrev y0 : List Value := [.int .i64 0, .bool false, .int .i64 0, .string (⟨#[]⟩ : ByteArray)]
abbrev y1 (x5 : Int) : List Value := [.int .i64 x5, .bool false, .int .i64 0, .string (⟨#[]⟩ : ByteArray)]
abbrev y2 (b2 : Nat) (A12 : OA) (x10 : Int × rowkey_reader) (k13 : Nat) : Atom := blk b2 [.slice A12 x10.2.b.length k13, .bool x10.2.bad]
abbrev y3 : Value := .string (⟨#[]⟩ : ByteArray)
theorem J0_ok (F : List Atom) (r : api_Value × rowkey_reader) (z b2 b7 b8 : Nat) (x5 x6 : Int) (A39 : OA) (x38 : List Int) (k40 : Nat) (x41 x42 : Bool) (x43 : Int) (x44 : ByteArray) (a : Act) (w : World) (T : Tm 67 [(8, .pointer (some ⟨b7, 0, none⟩)), (9, .pointer (some ⟨b8, 0, none⟩))] a) (S : SL ([blk b2 [.slice A39 x38.length k40, .bool x41], sl .ro ku8 A39 k40 x38, blk b7 (y0), blk b8 [.int .i64 x5, .bool x42, .int .i64 x43, .string x44]] ++ F) w) (H : J0 z x5 x38 x41 x42 x43 x44 = some r) : Gets Tryd.prog 32 ptJ0 a w (R F b2 r) := by
 refine rg (r_ldBA (ix := 3) (ds := [.int .i64 x5, .bool x42, .int .i64 x43, .string x44]) T S rfl Tryd.isAgg43 rfl rfl Tryd.sizeOf43 rfl fun _ T => r_stBA (ix := 2) (vs := [.int .i64 x5, .bool x42, .int .i64 x43, .string x44]) (l' := [blk b2 [.slice A39 x38.length k40, .bool x41], sl .ro ku8 A39 k40 x38, blk b7 [.int .i64 x5, .bool x42, .int .i64 x43, .string x44], blk b8 [.int .i64 x5, .bool x42, .int .i64 x43, .string x44]]) T S rfl rfl rfl rfl (by simp) Tryd.sizeOf43 (Nat.le_of_ble_eq_true rfl) rfl fun _ S => ?_)
 replace H := Option.some.inj H
 subst H
 exact rtnM T S Tryd.func32 rfl ⟨_, _, rfl, ⟨b7, _, 2, rfl, rfl, .inl ⟨Tryd.isAgg43, Tryd.sizeOf43, rfl⟩⟩, rfl⟩ ⟨A39, k40, rfl, (S.only (p := [blk b2 [.slice A39 x38.length k40, .bool x41], sl .ro ku8 A39 k40 x38]) [0, 0] rfl)⟩
theorem ok (F : List Atom) (w : World) (z : Nat) (x1 : rowkey_reader) (x5 x6 : Int) {b2 : Nat} {A3 : OA} {k4 : Nat} (S : SL ([blk b2 [.slice A3 x1.b.length k4, .bool x1.bad], sl .ro ku8 A3 k4 x1.b] ++ F) w) (r : api_Value × rowkey_reader) (H : f z x1 x5 x6 = some r) : Calls Tryd.prog 32 #[.pointer (some ⟨b2, 0, none⟩), .int .i64 x5, .int .u8 x6, .func (.func 33) #[] #[]] w (R F b2 r) := by
 refine enter (vs := [.pointer (some ⟨b2, 0, none⟩), .int .i64 x5, .int .u8 x6, .func (.func 33) #[] #[]]) Tryd.func32 rfl Tryd.ntmps32 (Nat.le_of_ble_eq_true rfl) fun a T => ?_
 refine Gets.seq (rg (r_alloc T S zv43 (cs := (y0)) rfl rfl fun _ _ b7 S T => Gets.seq ?_))
 refine rg (r_pv T rfl rfl fun _ T => r_build (cs := #[.int .i64 x5, .bool false, .int .i64 0, (y3)]) T stt43 rfl rfl rfl fun _ T => r_alloc T S zv43 (cs := (y0)) rfl rfl fun _ _ b8 S T => ?_)
 refine r_stBA (ix := 0) (vs := (y1 x5)) (l' := [blk b8 (y1 x5), blk b7 (y0), blk b2 [.slice A3 x1.b.length k4, .bool x1.bad], sl .ro ku8 A3 k4 x1.b]) T S rfl rfl rfl rfl (by simp) Tryd.sizeOf43 (Nat.le_of_ble_eq_true rfl) rfl fun _ S => ?_
 refine Gets.seq (Gets.block (Gets.seq ?_))
 refine rg (r_pv T rfl rfl fun _ T => ?_)
 obtain ⟨x10, h9, H⟩ := bd H
 refine r_call T Tryd.call59 rfl rfl (rowkey_reader_byte.ok _ _ x1 (S.sel (p := [blk b2 [.slice A3 x1.b.length k4, .bool x1.bad], sl .ro ku8 A3 k4 x1.b]) (is := [2, 2]) rfl) _ h9) ?_
 rintro _ _ ⟨A12, k13, rfl, S⟩
 refine ⟨_, rfl, fun _ T => ?_⟩
 replace S : SL ([(y2 b2 A12 x10 k13), sl .ro ku8 A12 k13 x10.2.b, blk b8 (y1 x5), blk b7 (y0)] ++ F) _ := S.join
 refine r_pv T rfl rfl fun _ T => r_pv T rfl rfl fun _ T => r_pv T rfl rfl fun _ T => ?_
 rcases ifE H with ⟨h14, H⟩ | ⟨h14, H⟩
 ·refine cdT T rfl h14 ?_
  refine rg (r_fa (o' := 1) T rfl Tryd.runUnderlying43 rfl Tryd.sizeOf4 rfl rfl fun _ T => r_stB (ix := 2) (l' := [(y2 b2 A12 x10 k13), sl .ro ku8 A12 k13 x10.2.b, blk b8 [.int .i64 x5, .bool true, .int .i64 0, (y3)], blk b7 (y0)]) T S rfl rfl rfl Tryd.sizeOf4 rfl (Nat.le_of_ble_eq_true rfl) rfl fun _ S => ?_)
  refine Gets.inBlock (Gets.seq ?_)
  exact J0_ok F r z b2 b7 b8 x5 x6 A12 x10.2.b k13 x10.2.bad true 0 (⟨#[]⟩ : ByteArray) _ _ (T.sub ⟨rfl, rfl, trivial⟩) (S.only (p := [(y2 b2 A12 x10 k13), sl .ro ku8 A12 k13 x10.2.b, blk b7 (y0), blk b8 [.int .i64 x5, .bool true, .int .i64 0, (y3)]]) [0, 0, 1, 0] rfl) H
 ·refine cdF T rfl h14 ?_
  refine Gets.seq (rg (r_pv T rfl rfl fun _ T => r_pv T rfl rfl fun _ T => ?_))
  refine r_pv T rfl rfl fun _ T => ?_
  rcases ifE H with ⟨h15, H⟩ | ⟨h15, H⟩
  ·refine cdT T rfl h15 ?_
   refine Gets.seq (rg (r_pv T rfl rfl fun _ T => r_pv T rfl rfl fun _ T => ?_))
   refine r_fa (o' := 0) T rfl Tryd.runUnderlying69 rfl Tryd.sizeOf29 rfl rfl fun _ T => r_ldB (ix := 0) T S rfl Tryd.isAgg29 rfl rfl rfl fun _ T => ?_
   obtain ⟨x17, h16, H⟩ := bd H
   refine r_call T Tryd.call60 rfl rfl (codec_TakeKeyInt.ok _ _ z x10.2.b (S.sel (p := [sl .ro ku8 A12 k13 x10.2.b]) (is := [1]) rfl) _ h16) ?_
   rintro _ _ ⟨rfl, S⟩
   refine ⟨_, rfl, fun _ T => ?_⟩
   replace S : SL ([sl .ro ku8 A12 k13 x10.2.b, (y2 b2 A12 x10 k13), blk b8 (y1 x5), blk b7 (y0)] ++ F) _ := S.join
   refine r_pv T rfl rfl fun _ T => r_pv T rfl rfl fun _ T => r_pv T rfl rfl fun _ T => r_pv T rfl rfl fun _ T => ?_
   refine r_pv T rfl rfl fun _ T => r_pv T rfl rfl fun _ T => r_pv T rfl rfl fun _ T => Gets.seq ?_
   refine rg (r_pv T rfl rfl fun _ T => r_pv T rfl rfl fun _ T => r_pv T rfl rfl fun _ T => ?_)
   obtain ⟨x19, h18, H⟩ := bd H
   refine r_call T Tryd.call61 rfl rfl (rowkey_reader_went.ok _ _ x10.2 x17.2.1 x17.2.2 (S.sel (p := [(y2 b2 A12 x10 k13), sl .ro ku8 A12 k13 x10.2.b]) (is := [1, 0]) rfl) _ h18) ?_
   rintro _ _ ⟨A21, k22, rfl, S⟩
   refine ⟨_, rfl, fun _ T => ?_⟩
   replace S : SL ([blk b2 [.slice A21 x19.b.length k22, .bool x19.bad], sl .ro ku8 A21 k22 x19.b, blk b8 (y1 x5), blk b7 (y0)] ++ F) _ := S.join
   refine rg (r_pv T rfl rfl fun _ T => r_fa (o' := 2) T rfl Tryd.runUnderlying43 rfl Tryd.sizeOf2 rfl rfl fun _ T => r_stB (ix := 2) (l' := [blk b2 [.slice A21 x19.b.length k22, .bool x19.bad], sl .ro ku8 A21 k22 x19.b, blk b8 [.int .i64 x5, .bool false, .int .i64 x17.1, (y3)], blk b7 (y0)]) T S rfl rfl rfl Tryd.sizeOf2 rfl (Nat.le_of_ble_eq_true rfl) rfl fun _ S => ?_)
   refine Gets.inBlock (Gets.seq ?_)
   exact J0_ok F r z b2 b7 b8 x5 x6 A21 x19.b k22 x19.bad false x17.1 (⟨#[]⟩ : ByteArray) _ _ (T.sub ⟨rfl, rfl, trivial⟩) (S.only (p := [blk b2 [.slice A21 x19.b.length k22, .bool x19.bad], sl .ro ku8 A21 k22 x19.b, blk b7 (y0), blk b8 [.int .i64 x5, .bool false, .int .i64 x17.1, (y3)]]) [0, 0, 1, 0] rfl) H
  ·refine cdF T rfl h15 ?_
   refine Gets.seq (rg (r_pv T rfl rfl fun _ T => r_pv T rfl rfl fun _ T => ?_))
   refine r_pv T rfl rfl fun _ T => ?_
   rcases ifE H with ⟨h23, H⟩ | ⟨h23, H⟩
   ·refine cdT T rfl h23 ?_
    refine rg (r_pv T rfl rfl fun _ T => ?_)
    obtain ⟨x25, h24, H⟩ := bd H
    refine r_call T Tryd.call59 rfl rfl (rowkey_reader_byte.ok _ _ x10.2 (S.sel (p := [(y2 b2 A12 x10 k13), sl .ro ku8 A12 k13 x10.2.b]) (is := [0, 0]) rfl) _ h24) ?_
    rintro _ _ ⟨A27, k28, rfl, S⟩
    refine ⟨_, rfl, fun _ T => ?_⟩
    replace S : SL ([blk b2 [.slice A27 x25.2.b.length k28, .bool x25.2.bad], sl .ro ku8 A27 k28 x25.2.b, blk b8 (y1 x5), blk b7 (y0)] ++ F) _ := S.join
    refine r_conv T rfl Tryd.runUnderlying5 Tryd.runUnderlying2 rfl fun _ T => r_fa (o' := 2) T rfl Tryd.runUnderlying43 rfl Tryd.sizeOf2 rfl rfl fun _ T => r_stB (ix := 2) (l' := [blk b2 [.slice A27 x25.2.b.length k28, .bool x25.2.bad], sl .ro ku8 A27 k28 x25.2.b, blk b8 [.int .i64 x5, .bool false, .int .i64 (wr .i64 x25.1), (y3)], blk b7 (y0)]) T S rfl rfl rfl Tryd.sizeOf2 rfl (Nat.le_of_ble_eq_true rfl) rfl fun _ S => ?_
    refine Gets.inBlock (Gets.seq ?_)
    exact J0_ok F r z b2 b7 b8 x5 x6 A27 x25.2.b k28 x25.2.bad false (wr .i64 x25.1) (⟨#[]⟩ : ByteArray) _ _ (T.sub ⟨rfl, rfl, trivial⟩) (S.only (p := [blk b2 [.slice A27 x25.2.b.length k28, .bool x25.2.bad], sl .ro ku8 A27 k28 x25.2.b, blk b7 (y0), blk b8 [.int .i64 x5, .bool false, .int .i64 (wr .i64 x25.1), (y3)]]) [0, 0, 1, 0] rfl) H
   ·refine cdF T rfl h23 ?_
    refine Gets.seq (rg (r_pv T rfl rfl fun _ T => r_pv T rfl rfl fun _ T => ?_))
    refine r_pv T rfl rfl fun _ T => r_fa (o' := 0) T rfl Tryd.runUnderlying69 rfl Tryd.sizeOf29 rfl rfl fun _ T => r_ldB (ix := 0) T S rfl Tryd.isAgg29 rfl rfl rfl fun _ T => ?_
    obtain ⟨x30, h29, H⟩ := bd H
    refine r_callF T rfl Tryd.call33 rfl rfl (codec_TakeText.ok _ _ z x10.2.b (S.sel (p := [sl .ro ku8 A12 k13 x10.2.b]) (is := [1]) rfl) _ h29) ?_
    rintro _ _ ⟨A31, k32, rfl, S⟩
    refine ⟨_, rfl, fun _ T => ?_⟩
    replace S : SL ([sl .own ku8 A31 k32 x30.1, sl .ro ku8 A12 k13 x10.2.b, (y2 b2 A12 x10 k13), blk b8 (y1 x5), blk b7 (y0)] ++ F) _ := S.join
    refine r_pv T rfl rfl fun _ T => r_pv T rfl rfl fun _ T => r_pv T rfl rfl fun _ T => r_pv T rfl rfl fun _ T => ?_
    refine r_pv T rfl rfl fun _ T => r_pv T rfl rfl fun _ T => r_pv T rfl rfl fun _ T => Gets.seq ?_
    refine rg (r_pv T rfl rfl fun _ T => r_pv T rfl rfl fun _ T => r_pv T rfl rfl fun _ T => ?_)
    obtain ⟨x34, h33, H⟩ := bd H
    refine r_call T Tryd.call61 rfl rfl (rowkey_reader_went.ok _ _ x10.2 x30.2.1 x30.2.2 (S.sel (p := [(y2 b2 A12 x10 k13), sl .ro ku8 A12 k13 x10.2.b]) (is := [2, 1]) rfl) _ h33) ?_
    rintro _ _ ⟨A36, k37, rfl, S⟩
    refine ⟨_, rfl, fun _ T => ?_⟩
    replace S : SL ([blk b2 [.slice A36 x34.b.length k37, .bool x34.bad], sl .ro ku8 A36 k37 x34.b, sl .own ku8 A31 k32 x30.1, blk b8 (y1 x5), blk b7 (y0)] ++ F) _ := S.join
    refine rg (r_pv T rfl rfl fun _ T => r_b2s (ix := 2) (xs := x30.1) T S rfl rfl Tryd.runUnderlying29 Tryd.runUnderlying9 Tryd.runUnderlying5 rfl fun _ T => r_fa (o' := 3) T rfl Tryd.runUnderlying43 rfl Tryd.sizeOf9 rfl rfl fun _ T => ?_)
    refine r_stB (ix := 3) (l' := [blk b2 [.slice A36 x34.b.length k37, .bool x34.bad], sl .ro ku8 A36 k37 x34.b, sl .own ku8 A31 k32 x30.1, blk b8 [.int .i64 x5, .bool false, .int .i64 0, .string (bstr x30.1)], blk b7 (y0)]) T S rfl rfl rfl Tryd.sizeOf9 rfl (Nat.le_of_ble_eq_true rfl) rfl fun _ S => ?_
    refine Gets.inBlock (Gets.seq ?_)
    exact J0_ok F r z b2 b7 b8 x5 x6 A36 x34.b k37 x34.bad false 0 (bstr x30.1) _ _ (T.sub ⟨rfl, rfl, trivial⟩) (S.only (p := [blk b2 [.slice A36 x34.b.length k37, .bool x34.bad], sl .ro ku8 A36 k37 x34.b, blk b7 (y0), blk b8 [.int .i64 x5, .bool false, .int .i64 0, .string (bstr x30.1)]]) [0, 0, 2, 1] rfl) H
end rowkey_reader_value_at33
end Go.Proofs.YtohelmfkpmphoaaDoor
namespace Go.Proofs.YtohelmfkpmphoaaDoor
open Go Go.Proofs.YtohelmfkpmphoaaDoor.X
set_option linter.unusedVariables false
set_option linter.unusedSimpArgs false
set_option maxRecDepth 100000
set_option maxHeartbeats 4000000
namespace rowkey_TakeRow
noncomputable def c0 : Code := match Tryd.f9.body with | some c => c | none => .skip
def R (F : List Atom) (x1 : api_Table) (A2 : OA) (k3 : Nat) (A4 : OA) (k5 : Nat) (A6 : OA) (k7 : Nat) (x8 : api_KV) (A9 : OA) (k10 : Nat) (A11 : OA) (k12 : Nat) (r : (List api_Value) × Int) : Ending → World → Prop := fun e w' => ∃ (A79 : OA), ∃ (k80 : Nat), e = .returned (.tuple #[.slice A79 r.1.length k80, .int .i64 r.2]) ∧ SL ([sl .own kapi_Value A79 k80 r.1, sl .ro kapi_Column A2 k3 x1.Columns, sl .ro ki64 A4 k5 x1.Key, sl .ro kapi_Index A6 k7 x1.Indexes, sl .ro ku8 A9 k10 x8.Key, sl .ro ku8 A11 k12 x8.Value] ++ F) w'
def J1 (z : Nat) : Option ((List api_Value) × Int) := some (([] : List api_Value), 200)
def J2 (z : Nat) (q0 : (List api_Value) → Int → (List Int) → Bool → Option ((List api_Value) × Int)) (x1 : api_Table) (x8 : api_KV) (x30 : rowkey_reader × (List api_Value)) (x43 : Int) (x72 : List api_Value) (x75 : List Int) (x78 : Bool) : Option ((List api_Value) × Int) := q0 x72 (wr .i64 (x43 + 1)) x75 x78
def L0 (z : Nat) (x1 : api_Table) (x8 : api_KV) (x30 : rowkey_reader × (List api_Value)) : Nat → (List api_Value) → Int → (List Int) → Bool → Option ((List api_Value) × Int)
 | 0, _, _, _, _ => none
 | m + 1, x36, x43, x39, x42 => If (decide (x43 < (x1.Columns.length : Int))) (Ck (0 ≤ x43 ∧ x43 < (x1.Columns.length : Int)) (Bd (slices_Contains_int.f z x1.Key x43) fun x64 => If (!x64) (Bd (rowkey_reader_value_at33.f z (rowkey_reader.mk x39 x42) ((gi dapi_Column x1.Columns x43).Type') 0) fun x67 => Ck (x43 < (x36.length : Int)) (J2 z (L0 z x1 x8 x30 m) x1 x8 x30 x43 (x36.set (Int.toNat x43) x67.1) x67.2.b x67.2.bad)) (J2 z (L0 z x1 x8 x30 m) x1 x8 x30 x43 x36 x39 x42))) (Bd (rowkey_Row.f z x1 x36) fun x46 => If x30.1.bad (J1 z) (If x42 (J1 z) (If (x46.2 != 0) (J1 z) (Bd (bytes_Equal.f x46.1.Key x8.Key) fun x56 => If (!x56) (J1 z) (Bd (bytes_Equal.f x46.1.Value x8.Value) fun x59 => If (!x59) (J1 z) (some (x36, 0)))))))
def f (z : Nat) (x1 : api_Table) (x8 : api_KV) : Option ((List api_Value) × Int) := Bd (rowkey_tabled.f z x1 x1.Key) fun x16 => If (!x16) (some (([] : List api_Value), 1)) (Ck (0 ≤ (x1.Columns.length : Int) ∧ (x1.Columns.length : Int) ≤ (x1.Columns.length : Int) ∧ 40 * (x1.Columns.length : Int) ≤ 281474976710656) (Bd (rowkey_begin.f z [x1.Id, 1]) fun x22 => Ck (0 ≤ mn (x8.Key.length : Int) (x22.length : Int) ∧ mn (x8.Key.length : Int) (x22.length : Int) ≤ (x8.Key.length : Int)) (Bd (rowkey_reader_keys.f z (rowkey_reader.mk (cut x8.Key (Int.toNat (mn (x8.Key.length : Int) (x22.length : Int))) (Int.toNat (x8.Key.length : Int))) false) x1 x1.Key (List.replicate (Int.toNat (x1.Columns.length : Int)) dapi_Value)) fun x30 => L0 z x1 x8 x30 z x30.2 0 x8.Value false)))
noncomputable def ptJ1 : List Item := [.code (cL (cT (cR (cL (cr 9 c0))))), .code (cR (cT (cR (cL (cr 9 c0))))), .code (cr 10 c0)]
noncomputable def ptJ2 : List Item := [.code (cr 3 (cB (cB (cR (cL (cr 7 c0)))))), .inLoop (cB (cB (cR (cL (cr 7 c0))))), .inBlock 0, .code (cr 8 c0)]
noncomputable def ptL0 : List Item := [.code (cB (cB (cR (cL (cr 7 c0))))), .inLoop (cB (cB (cR (cL (cr 7 c0))))), .inBlock 0, .code (cr 8 c0)]
abbrev y0 (x1 : api_Table) (A2 : OA) (k3 : Nat) (A4 : OA) (k5 : Nat) (A6 : OA) (k7 : Nat) : List Value := [.int .i64 x1.Id, .string x1.Name, .slice A2 x1.Columns.length k3, .slice A4 x1.Key.length k5, .slice A6 x1.Indexes.length k7]
abbrev y1 (x1 : api_Table) (x43 : Int) : List Value := [.string ((gi dapi_Column x1.Columns x43).Name), .int .i64 ((gi dapi_Column x1.Columns x43).Type'), .bool ((gi dapi_Column x1.Columns x43).NotNull), .int .i64 (((gi dapi_Column x1.Columns x43).Default).Type'), .bool (((gi dapi_Column x1.Columns x43).Default).Null), .int .i64 (((gi dapi_Column x1.Columns x43).Default).Int), .string (((gi dapi_Column x1.Columns x43).Default).Text)]
abbrev y2 (b14 : Nat) (A9 : OA) (x8 : api_KV) (k10 : Nat) (A11 : OA) (k12 : Nat) : Atom := blk b14 [.slice A9 x8.Key.length k10, .slice A11 x8.Value.length k12]
abbrev y3 (A2 : OA) (k3 : Nat) (x1 : api_Table) : Atom := sl .ro kapi_Column A2 k3 x1.Columns
abbrev y4 (A6 : OA) (k7 : Nat) (x1 : api_Table) : Atom := sl .ro kapi_Index A6 k7 x1.Indexes
abbrev y5 (b28 : Nat) (A32 : OA) (x30 : rowkey_reader × (List api_Value)) (k33 : Nat) : Atom := blk b28 [.slice A32 x30.1.b.length k33, .bool x30.1.bad]
abbrev y6 (A4 : OA) (k5 : Nat) (x1 : api_Table) : Atom := sl .ro ki64 A4 k5 x1.Key
abbrev y7 (A11 : OA) (k12 : Nat) (x8 : api_KV) : Atom := sl .ro ku8 A11 k12 x8.Value
abbrev y8 (A27 : OA) (x8 : api_KV) (x22 : (List Int)) (k10 : Nat) : Value := .slice A27 ((cut x8.Key (Int.toNat (mn (x8.Key.length : Int) (x22.length : Int))) (Int.toNat (x8.Key.length : Int))).length) (Int.toNat (k10 : Int) - Int.toNat (mn (x8.Key.length : Int) (x22.length : Int)))
abbrev y9 (b19 : Nat) (x1 : api_Table) : Atom := sl .own kapi_Value (some ⟨b19, 0, none⟩) (Int.toNat (x1.Columns.length : Int)) (List.replicate (Int.toNat (x1.Columns.length : Int)) dapi_Value)
abbrev y10 (A9 : OA) (k10 : Nat) (x8 : api_KV) : Atom := sl .ro ku8 A9 k10 x8.Key
theorem J1_ok (F : List Atom) (r : (List api_Value) × Int) (z : Nat) (x1 : api_Table) (A2 : OA) (k3 : Nat) (A4 : OA) (k5 : Nat) (A6 : OA) (k7 : Nat) (x8 : api_KV) (A9 : OA) (k10 : Nat) (A11 : OA) (k12 : Nat) (a : Act) (w : World) (T : Tm 106 [] a) (S : SL ([(y3 A2 k3 x1), (y6 A4 k5 x1), (y4 A6 k7 x1), (y10 A9 k10 x8), (y7 A11 k12 x8)] ++ F) w) (H : J1 z = some r) : Gets Tryd.prog 9 ptJ1 a w (R F x1 A2 k3 A4 k5 A6 k7 x8 A9 k10 A11 k12 r) := by
 refine rg (r_pv T rfl rfl fun _ T => r_pv T rfl rfl fun _ T => ?_)
 replace S := S.nil kapi_Value .own
 replace H := Option.some.inj H
 subst H
 exact rtn T Tryd.func9 rfl rfl ⟨none, 0, rfl, (S.only (p := [sl .own kapi_Value none 0 ([] : List api_Value), (y3 A2 k3 x1), (y6 A4 k5 x1), (y4 A6 k7 x1), (y10 A9 k10 x8), (y7 A11 k12 x8)]) [0, 0, 0, 0, 0, 0] rfl)⟩
theorem J2_ok (F : List Atom) (r : (List api_Value) × Int) (z : Nat) (x1 : api_Table) (A2 : OA) (k3 : Nat) (A4 : OA) (k5 : Nat) (A6 : OA) (k7 : Nat) (x8 : api_KV) (A9 : OA) (k10 : Nat) (A11 : OA) (k12 b13 b14 b28 b35 : Nat) (x43 : Int) (A32 : OA) (x30 : rowkey_reader × (List api_Value)) (k33 : Nat) (q0 : (List api_Value) → Int → (List Int) → Bool → Option ((List api_Value) × Int)) (hq0 : ∀ (A37 : OA) (x36 : List api_Value) (k38 : Nat) (x43 : Int) (A40 : OA) (x39 : List Int) (k41 : Nat) (x42 : Bool) (a : Act) (w : World), Tm 106 [(2, .pointer (some ⟨b13, 0, none⟩)), (3, .pointer (some ⟨b14, 0, none⟩)), (6, .slice A37 x36.length k38), (8, .pointer (some ⟨b28, 0, none⟩)), (9, .pointer (some ⟨b35, 0, none⟩)), (49, .slice A2 x1.Columns.length k3), (50, .int .i64 (x1.Columns.length : Int)), (51, .int .i64 x43)] a → SL ([(y3 A2 k3 x1), (y6 A4 k5 x1), (y4 A6 k7 x1), (y10 A9 k10 x8), (y7 A11 k12 x8), blk b13 (y0 x1 A2 k3 A4 k5 A6 k7), (y2 b14 A9 x8 k10 A11 k12), sl .own kapi_Value A37 k38 x36, (y5 b28 A32 x30 k33), sl .ro ku8 A32 k33 x30.1.b, blk b35 [.slice A40 x39.length k41, .bool x42], sl .ro ku8 A40 k41 x39] ++ F) w → q0 x36 x43 x39 x42 = some r → Gets Tryd.prog 9 ptL0 a w (R F x1 A2 k3 A4 k5 A6 k7 x8 A9 k10 A11 k12 r)) (A73 : OA) (x72 : List api_Value) (k74 : Nat) (A76 : OA) (x75 : List Int) (k77 : Nat) (x78 : Bool) (a : Act) (w : World) (T : Tm 106 [(2, .pointer (some ⟨b13, 0, none⟩)), (3, .pointer (some ⟨b14, 0, none⟩)), (6, .slice A73 x72.length k74), (8, .pointer (some ⟨b28, 0, none⟩)), (9, .pointer (some ⟨b35, 0, none⟩)), (49, .slice A2 x1.Columns.length k3), (50, .int .i64 (x1.Columns.length : Int)), (51, .int .i64 x43)] a) (S : SL ([(y3 A2 k3 x1), (y6 A4 k5 x1), (y4 A6 k7 x1), (y10 A9 k10 x8), (y7 A11 k12 x8), blk b13 (y0 x1 A2 k3 A4 k5 A6 k7), (y2 b14 A9 x8 k10 A11 k12), sl .own kapi_Value A73 k74 x72, (y5 b28 A32 x30 k33), sl .ro ku8 A32 k33 x30.1.b, blk b35 [.slice A76 x75.length k77, .bool x78], sl .ro ku8 A76 k77 x75] ++ F) w) (H : J2 z q0 x1 x8 x30 x43 x72 x75 x78 = some r) : Gets Tryd.prog 9 ptJ2 a w (R F x1 A2 k3 A4 k5 A6 k7 x8 A9 k10 A11 k12 r) := by
 refine rg (r_pv T rfl rfl fun _ T => r_pv T rfl rfl fun _ T => Gets.inLoop ?_)
 exact hq0 A73 x72 k74 (wr .i64 (x43 + 1)) A76 x75 k77 x78 _ _ (T.sub ⟨rfl, rfl, rfl, rfl, rfl, rfl, rfl, rfl, trivial⟩) (S.only (p := [(y3 A2 k3 x1), (y6 A4 k5 x1), (y4 A6 k7 x1), (y10 A9 k10 x8), (y7 A11 k12 x8), blk b13 (y0 x1 A2 k3 A4 k5 A6 k7), (y2 b14 A9 x8 k10 A11 k12), sl .own kapi_Value A73 k74 x72, (y5 b28 A32 x30 k33), sl .ro ku8 A32 k33 x30.1.b, blk b35 [.slice A76 x75.length k77, .bool x78], sl .ro ku8 A76 k77 x75]) [0, 0, 0, 0, 0, 0, 0, 0, 0, 0, 0, 0] rfl) H
theorem L0_ok (F : List Atom) (r : (List api_Value) × Int) (z : Nat) (x1 : api_Table) (A2 : OA) (k3 : Nat) (A4 : OA) (k5 : Nat) (A6 : OA) (k7 : Nat) (x8 : api_KV) (A9 : OA) (k10 : Nat) (A11 : OA) (k12 b13 b14 b28 b35 : Nat) (A32 : OA) (x30 : rowkey_reader × (List api_Value)) (k33 m : Nat) : ∀ (A37 : OA) (x36 : List api_Value) (k38 : Nat) (x43 : Int) (A40 : OA) (x39 : List Int) (k41 : Nat) (x42 : Bool) (a : Act) (w : World), Tm 106 [(2, .pointer (some ⟨b13, 0, none⟩)), (3, .pointer (some ⟨b14, 0, none⟩)), (6, .slice A37 x36.length k38), (8, .pointer (some ⟨b28, 0, none⟩)), (9, .pointer (some ⟨b35, 0, none⟩)), (49, .slice A2 x1.Columns.length k3), (50, .int .i64 (x1.Columns.length : Int)), (51, .int .i64 x43)] a → SL ([(y3 A2 k3 x1), (y6 A4 k5 x1), (y4 A6 k7 x1), (y10 A9 k10 x8), (y7 A11 k12 x8), blk b13 (y0 x1 A2 k3 A4 k5 A6 k7), (y2 b14 A9 x8 k10 A11 k12), sl .own kapi_Value A37 k38 x36, (y5 b28 A32 x30 k33), sl .ro ku8 A32 k33 x30.1.b, blk b35 [.slice A40 x39.length k41, .bool x42], sl .ro ku8 A40 k41 x39] ++ F) w → L0 z x1 x8 x30 m x36 x43 x39 x42 = some r → Gets Tryd.prog 9 ptL0 a w (R F x1 A2 k3 A4 k5 A6 k7 x8 A9 k10 A11 k12 r) := by
 induction m with
 | zero => intro _ _ _ _ _ _ _ _ _ _ _ _ H; cases H
 | succ m ih =>
  intro A37 x36 k38 x43 A40 x39 k41 x42 a w T S H
  refine Gets.seq (rg (r_pv T rfl rfl fun _ T => Gets.seq ?_))
  rcases ifE H with ⟨h44, H⟩ | ⟨h44, H⟩
  ·refine cdT T rfl h44 ?_
   refine Gets.skip (Gets.seq (Gets.block (Gets.seq ?_)))
   refine rg (r_pv T rfl rfl fun _ T => ?_)
   obtain ⟨h61, H⟩ := ck H
   refine r_ia (ix := 0) T S rfl rfl rfl rfl Tryd.runUnderlying22 Tryd.sizeOf72 h61.1 h61.2 rfl fun _ T => r_ldEA (ix := 0) (i := x43) (off := 0) T S rfl rfl Tryd.isAgg72 Tryd.sizeOf72 dapi_Column rfl (Fld.all _) h61.1 h61.2 rfl fun _ _ S T => ?_
   obtain ⟨hv_, S_⟩ := op_api_Column S
   subst hv_
   replace S := S_
   refine r_alloc T S zv72 (cs := [.string (⟨#[]⟩ : ByteArray), .int .i64 0, .bool false, .int .i64 0, .bool false, .int .i64 0, .string (⟨#[]⟩ : ByteArray)]) rfl rfl fun _ _ b62 S T => r_pv T rfl rfl fun _ T => r_stBA (ix := 0) (vs := (y1 x1 x43)) (l' := [blk b62 (y1 x1 x43), (y3 A2 k3 x1), (y6 A4 k5 x1), (y4 A6 k7 x1), (y10 A9 k10 x8), (y7 A11 k12 x8), blk b13 (y0 x1 A2 k3 A4 k5 A6 k7), (y2 b14 A9 x8 k10 A11 k12), sl .own kapi_Value A37 k38 x36, (y5 b28 A32 x30 k33), sl .ro ku8 A32 k33 x30.1.b, blk b35 [.slice A40 x39.length k41, .bool x42], sl .ro ku8 A40 k41 x39]) T S rfl rfl rfl rfl (by simp) Tryd.sizeOf72 (Nat.le_of_ble_eq_true rfl) rfl fun _ S => ?_
   refine Gets.seq (rg (r_fa (o' := 3) T rfl Tryd.runUnderlying26 rfl Tryd.sizeOf23 rfl rfl fun _ T => r_ldB (ix := 6) T S rfl Tryd.isAgg23 rfl rfl rfl fun _ T => ?_))
   refine r_pv T rfl rfl fun _ T => ?_
   replace S := S.dup (i := 2) rfl
   obtain ⟨x64, h63, H⟩ := bd H
   refine r_call T Tryd.call28 rfl rfl (slices_Contains_int.ok _ _ z x1.Key x43 (S.sel (p := [(y6 A4 k5 x1)]) (is := [0]) rfl) _ h63) ?_
   rintro _ _ ⟨rfl, S⟩
   refine ⟨_, rfl, fun _ T => ?_⟩
   replace S : SL ([blk b62 (y1 x1 x43), (y3 A2 k3 x1), (y6 A4 k5 x1), (y4 A6 k7 x1), (y10 A9 k10 x8), (y7 A11 k12 x8), blk b13 (y0 x1 A2 k3 A4 k5 A6 k7), (y2 b14 A9 x8 k10 A11 k12), sl .own kapi_Value A37 k38 x36, (y5 b28 A32 x30 k33), sl .ro ku8 A32 k33 x30.1.b, blk b35 [.slice A40 x39.length k41, .bool x42], sl .ro ku8 A40 k41 x39] ++ F) _ := S.join.only [1, 1, 1, 1, 1, 1, 1, 1, 1, 1, 1, 1, 1] rfl
   refine r_pv T rfl rfl fun _ T => ?_
   rcases ifE H with ⟨h65, H⟩ | ⟨h65, H⟩
   ·refine cdT T rfl h65 ?_
    refine rg (r_pv T rfl rfl fun _ T => r_pv T rfl rfl fun _ T => r_pv T rfl rfl fun _ T => ?_)
    refine r_fa (o' := 1) T rfl Tryd.runUnderlying72 rfl Tryd.sizeOf3 rfl rfl fun _ T => r_ldB (ix := 0) T S rfl Tryd.isAgg3 rfl rfl rfl fun _ T => ?_
    obtain ⟨x67, h66, H⟩ := bd H
    refine r_call T Tryd.call32 rfl rfl (rowkey_reader_value_at33.ok _ _ z (rowkey_reader.mk x39 x42) ((gi dapi_Column x1.Columns x43).Type') 0 (S.sel (p := [blk b35 [.slice A40 x39.length k41, .bool x42], sl .ro ku8 A40 k41 x39]) (is := [11, 11]) rfl) _ h66) ?_
    rintro _ _ ⟨A69, k70, rfl, S⟩
    refine ⟨_, rfl, fun _ T => ?_⟩
    replace S : SL ([blk b35 [.slice A69 x67.2.b.length k70, .bool x67.2.bad], sl .ro ku8 A69 k70 x67.2.b, blk b62 (y1 x1 x43), (y3 A2 k3 x1), (y6 A4 k5 x1), (y4 A6 k7 x1), (y10 A9 k10 x8), (y7 A11 k12 x8), blk b13 (y0 x1 A2 k3 A4 k5 A6 k7), (y2 b14 A9 x8 k10 A11 k12), sl .own kapi_Value A37 k38 x36, (y5 b28 A32 x30 k33), sl .ro ku8 A32 k33 x30.1.b] ++ F) _ := S.join
    obtain ⟨h71, H⟩ := ck H
    refine r_ia (ix := 10) T S rfl rfl rfl rfl Tryd.runUnderlying27 Tryd.sizeOf43 h61.1 h71 rfl fun _ T => r_stEO (ix := 10) (i := x43) (u := x67.1) (vs := [.int .i64 x67.1.Type', .bool x67.1.Null, .int .i64 x67.1.Int, .string x67.1.Text]) (l' := [blk b35 [.slice A69 x67.2.b.length k70, .bool x67.2.bad], sl .ro ku8 A69 k70 x67.2.b, blk b62 (y1 x1 x43), (y3 A2 k3 x1), (y6 A4 k5 x1), (y4 A6 k7 x1), (y10 A9 k10 x8), (y7 A11 k12 x8), blk b13 (y0 x1 A2 k3 A4 k5 A6 k7), (y2 b14 A9 x8 k10 A11 k12), sl .own kapi_Value A37 k38 (x36.set (Int.toNat x43) x67.1), (y5 b28 A32 x30 k33), sl .ro ku8 A32 k33 x30.1.b]) T S rfl rfl rfl rfl (by simp) (fun _ => ⟨_, _, rfl, rfl, ⟨_, _, rfl, rfl, ⟨_, _, rfl, rfl, rfl⟩⟩⟩) Tryd.sizeOf43 h61.1 h71 rfl fun _ S => ?_
    refine Gets.inBlock ?_
    have T := T.re (s := 6) (v' := .slice A37 (x36.set (Int.toNat x43) x67.1).length k38) rfl (by simp)
    exact J2_ok F r z x1 A2 k3 A4 k5 A6 k7 x8 A9 k10 A11 k12 b13 b14 b28 b35 x43 A32 x30 k33 (L0 z x1 x8 x30 m) ih A37 (x36.set (Int.toNat x43) x67.1) k38 A69 x67.2.b k70 x67.2.bad _ _ (T.sub ⟨rfl, rfl, rfl, rfl, rfl, rfl, rfl, rfl, trivial⟩) (S.only (p := [(y3 A2 k3 x1), (y6 A4 k5 x1), (y4 A6 k7 x1), (y10 A9 k10 x8), (y7 A11 k12 x8), blk b13 (y0 x1 A2 k3 A4 k5 A6 k7), (y2 b14 A9 x8 k10 A11 k12), sl .own kapi_Value A37 k38 (x36.set (Int.toNat x43) x67.1), (y5 b28 A32 x30 k33), sl .ro ku8 A32 k33 x30.1.b, blk b35 [.slice A69 x67.2.b.length k70, .bool x67.2.bad], sl .ro ku8 A69 k70 x67.2.b]) [3, 3, 3, 3, 3, 3, 3, 3, 3, 3, 0, 0] rfl) H
   ·refine cdF T rfl h65 ?_
    refine Gets.skip (Gets.inBlock ?_)
    exact J2_ok F r z x1 A2 k3 A4 k5 A6 k7 x8 A9 k10 A11 k12 b13 b14 b28 b35 x43 A32 x30 k33 (L0 z x1 x8 x30 m) ih A37 x36 k38 A40 x39 k41 x42 _ _ (T.sub ⟨rfl, rfl, rfl, rfl, rfl, rfl, rfl, rfl, trivial⟩) (S.only (p := [(y3 A2 k3 x1), (y6 A4 k5 x1), (y4 A6 k7 x1), (y10 A9 k10 x8), (y7 A11 k12 x8), blk b13 (y0 x1 A2 k3 A4 k5 A6 k7), (y2 b14 A9 x8 k10 A11 k12), sl .own kapi_Value A37 k38 x36, (y5 b28 A32 x30 k33), sl .ro ku8 A32 k33 x30.1.b, blk b35 [.slice A40 x39.length k41, .bool x42], sl .ro ku8 A40 k41 x39]) [1, 1, 1, 1, 1, 1, 1, 1, 1, 1, 1, 1] rfl) H
  ·refine cdF T rfl h44 ?_
   refine Gets.exit rfl (Gets.seq ?_)
   refine rg (r_ldBA (ix := 5) (ds := (y0 x1 A2 k3 A4 k5 A6 k7)) T S rfl Tryd.isAgg26 rfl rfl Tryd.sizeOf26 rfl fun _ T => r_pv T rfl rfl fun _ T => ?_)
   replace S := S.dup (i := 0) rfl
   replace S := S.dup (i := 2) rfl
   replace S := S.dup (i := 4) rfl
   obtain ⟨x46, h45, H⟩ := bd H
   refine r_call T Tryd.call7 rfl rfl (rowkey_Row.ok _ _ z x1 x36 (S.sel (p := [(y3 A2 k3 x1), (y6 A4 k5 x1), (y4 A6 k7 x1), sl .own kapi_Value A37 k38 x36]) (is := [2, 1, 0, 7]) rfl) _ h45) ?_
   rintro _ _ ⟨A47, k48, A49, k50, rfl, S⟩
   refine ⟨_, rfl, fun _ T => ?_⟩
   replace S : SL ([sl .ro ku8 A47 k48 x46.1.Key, sl .ro ku8 A49 k50 x46.1.Value, sl .own kapi_Value A37 k38 x36, (y3 A2 k3 x1), (y6 A4 k5 x1), (y4 A6 k7 x1), (y10 A9 k10 x8), (y7 A11 k12 x8), blk b13 (y0 x1 A2 k3 A4 k5 A6 k7), (y2 b14 A9 x8 k10 A11 k12), (y5 b28 A32 x30 k33), sl .ro ku8 A32 k33 x30.1.b, blk b35 [.slice A40 x39.length k41, .bool x42], sl .ro ku8 A40 k41 x39] ++ F) _ := S.join.only [0, 0, 3, 3, 3, 3, 3, 3, 3, 3, 3, 3, 3, 3] rfl
   refine r_pv T rfl rfl fun _ T => r_pv T rfl rfl fun _ T => r_pv T rfl rfl fun _ T => r_alloc T S zv31 (cs := [.slice none 0 0, .slice none 0 0]) rfl rfl fun _ _ b51 S T => ?_
   refine r_stBA (ix := 0) (vs := [.slice A47 x46.1.Key.length k48, .slice A49 x46.1.Value.length k50]) (l' := [blk b51 [.slice A47 x46.1.Key.length k48, .slice A49 x46.1.Value.length k50], sl .ro ku8 A47 k48 x46.1.Key, sl .ro ku8 A49 k50 x46.1.Value, sl .own kapi_Value A37 k38 x36, (y3 A2 k3 x1), (y6 A4 k5 x1), (y4 A6 k7 x1), (y10 A9 k10 x8), (y7 A11 k12 x8), blk b13 (y0 x1 A2 k3 A4 k5 A6 k7), (y2 b14 A9 x8 k10 A11 k12), (y5 b28 A32 x30 k33), sl .ro ku8 A32 k33 x30.1.b, blk b35 [.slice A40 x39.length k41, .bool x42], sl .ro ku8 A40 k41 x39]) T S rfl rfl rfl rfl (by simp) Tryd.sizeOf31 (Nat.le_of_ble_eq_true rfl) rfl fun _ S => ?_
   refine r_pv T rfl rfl fun _ T => ?_
   refine Gets.seq (Gets.seq ?_)
   refine rg (r_pv T rfl rfl fun _ T => r_pv T rfl rfl fun _ T => r_fa (o' := 1) T rfl Tryd.runUnderlying69 rfl Tryd.sizeOf4 rfl rfl fun _ T => ?_)
   refine r_ldB (ix := 11) T S rfl Tryd.isAgg4 rfl rfl rfl fun _ T => r_pv T rfl rfl fun _ T => ?_
   rcases ifE H with ⟨h52, H⟩ | ⟨h52, H⟩
   ·refine g_no T rfl rfl h52 rfl fun _ T => ?_
    refine g_no T rfl rfl h52 rfl fun _ T => g_no T rfl rfl h52 rfl fun _ T => g_no T rfl rfl h52 rfl fun _ T => r_pickT T rfl h52 rfl rfl fun _ T => ?_
    refine r_pv T rfl rfl fun _ T => g_no T rfl rfl rfl rfl fun _ T => g_no T rfl rfl rfl rfl fun _ T => r_pickT T rfl rfl rfl rfl fun _ T => ?_
    refine r_pv T rfl rfl fun _ T => g_no T rfl rfl rfl rfl fun _ T => g_no T rfl rfl rfl rfl fun _ T => g_no T rfl rfl rfl rfl fun _ T => ?_
    refine g_no T rfl rfl rfl rfl fun _ T => g_no T rfl rfl rfl rfl fun _ T => g_no T rfl rfl rfl rfl fun _ T => r_pickT T rfl rfl rfl rfl fun _ T => ?_
    refine r_pv T rfl rfl fun _ T => g_no T rfl rfl rfl rfl fun _ T => g_no T rfl rfl rfl rfl fun _ T => g_no T rfl rfl rfl rfl fun _ T => ?_
    refine g_no T rfl rfl rfl rfl fun _ T => g_no T rfl rfl rfl rfl fun _ T => g_no T rfl rfl rfl rfl fun _ T => r_pickT T rfl rfl rfl rfl fun _ T => ?_
    refine cdT T rfl rfl (Gets.seq ?_)
    exact J1_ok F r z x1 A2 k3 A4 k5 A6 k7 x8 A9 k10 A11 k12 _ _ (T.sub trivial) (S.only (p := [(y3 A2 k3 x1), (y6 A4 k5 x1), (y4 A6 k7 x1), (y10 A9 k10 x8), (y7 A11 k12 x8)]) [4, 4, 4, 4, 4] rfl) H
   ·refine g_yes T rfl rfl h52 ?_
    refine r_pv T rfl rfl fun _ T => g_yes T rfl rfl h52 (r_pv T rfl rfl fun _ T => g_yes T rfl rfl h52 ?_)
    refine r_fa (o' := 1) T rfl Tryd.runUnderlying69 rfl Tryd.sizeOf4 rfl rfl fun _ T => g_yes T rfl rfl h52 (r_ldB (ix := 13) T S rfl Tryd.isAgg4 rfl rfl rfl fun _ T => r_pickF T rfl h52 rfl rfl fun _ T => ?_)
    refine r_pv T rfl rfl fun _ T => ?_
    rcases ifE H with ⟨h53, H⟩ | ⟨h53, H⟩
    ·refine g_no T rfl rfl h53 rfl fun _ T => ?_
     refine g_no T rfl rfl h53 rfl fun _ T => r_pickT T rfl h53 rfl rfl fun _ T => r_pv T rfl rfl fun _ T => g_no T rfl rfl rfl rfl fun _ T => ?_
     refine g_no T rfl rfl rfl rfl fun _ T => g_no T rfl rfl rfl rfl fun _ T => g_no T rfl rfl rfl rfl fun _ T => g_no T rfl rfl rfl rfl fun _ T => ?_
     refine g_no T rfl rfl rfl rfl fun _ T => r_pickT T rfl rfl rfl rfl fun _ T => r_pv T rfl rfl fun _ T => g_no T rfl rfl rfl rfl fun _ T => ?_
     refine g_no T rfl rfl rfl rfl fun _ T => g_no T rfl rfl rfl rfl fun _ T => g_no T rfl rfl rfl rfl fun _ T => g_no T rfl rfl rfl rfl fun _ T => ?_
     refine g_no T rfl rfl rfl rfl fun _ T => r_pickT T rfl rfl rfl rfl fun _ T => cdT T rfl rfl (Gets.seq ?_)
     exact J1_ok F r z x1 A2 k3 A4 k5 A6 k7 x8 A9 k10 A11 k12 _ _ (T.sub trivial) (S.only (p := [(y3 A2 k3 x1), (y6 A4 k5 x1), (y4 A6 k7 x1), (y10 A9 k10 x8), (y7 A11 k12 x8)]) [4, 4, 4, 4, 4] rfl) H
    ·refine g_yes T rfl rfl h53 ?_
     refine r_pv T rfl rfl fun _ T => g_yes T rfl rfl h53 (r_pv T rfl rfl fun _ T => r_pickF T rfl h53 rfl rfl fun _ T => ?_)
     refine r_pv T rfl rfl fun _ T => ?_
     rcases ifE H with ⟨h54, H⟩ | ⟨h54, H⟩
     ·refine g_no T rfl rfl h54 rfl fun _ T => ?_
      refine g_no T rfl rfl h54 rfl fun _ T => g_no T rfl rfl h54 rfl fun _ T => g_no T rfl rfl h54 rfl fun _ T => g_no T rfl rfl h54 rfl fun _ T => ?_
      refine g_no T rfl rfl h54 rfl fun _ T => r_pickT T rfl h54 rfl rfl fun _ T => r_pv T rfl rfl fun _ T => g_no T rfl rfl rfl rfl fun _ T => ?_
      refine g_no T rfl rfl rfl rfl fun _ T => g_no T rfl rfl rfl rfl fun _ T => g_no T rfl rfl rfl rfl fun _ T => g_no T rfl rfl rfl rfl fun _ T => ?_
      refine g_no T rfl rfl rfl rfl fun _ T => r_pickT T rfl rfl rfl rfl fun _ T => cdT T rfl rfl (Gets.seq ?_)
      exact J1_ok F r z x1 A2 k3 A4 k5 A6 k7 x8 A9 k10 A11 k12 _ _ (T.sub trivial) (S.only (p := [(y3 A2 k3 x1), (y6 A4 k5 x1), (y4 A6 k7 x1), (y10 A9 k10 x8), (y7 A11 k12 x8)]) [4, 4, 4, 4, 4] rfl) H
     ·refine g_yes T rfl rfl h54 ?_
      refine r_fa (o' := 0) T rfl Tryd.runUnderlying31 rfl Tryd.sizeOf29 rfl rfl fun _ T => g_yes T rfl rfl h54 (r_ldB (ix := 0) T S rfl Tryd.isAgg29 rfl rfl rfl fun _ T => g_yes T rfl rfl h54 ?_)
      refine r_fa (o' := 0) T rfl Tryd.runUnderlying31 rfl Tryd.sizeOf29 rfl rfl fun _ T => g_yes T rfl rfl h54 (r_ldB (ix := 10) T S rfl Tryd.isAgg29 rfl rfl rfl fun _ T => g_yes T rfl rfl h54 ?_)
      replace S := S.dup (i := 7) rfl
      obtain ⟨x56, h55, H⟩ := bd H
      refine r_call T Tryd.call34 rfl rfl (bytes_Equal.ok _ _ x46.1.Key x8.Key (S.sel (p := [sl .ro ku8 A47 k48 x46.1.Key, (y10 A9 k10 x8)]) (is := [2, 0]) rfl) _ h55) ?_
      rintro _ _ ⟨rfl, S⟩
      refine ⟨_, rfl, fun _ T => ?_⟩
      replace S : SL ([sl .ro ku8 A47 k48 x46.1.Key, blk b51 [.slice A47 x46.1.Key.length k48, .slice A49 x46.1.Value.length k50], sl .ro ku8 A49 k50 x46.1.Value, sl .own kapi_Value A37 k38 x36, (y3 A2 k3 x1), (y6 A4 k5 x1), (y4 A6 k7 x1), (y10 A9 k10 x8), (y7 A11 k12 x8), blk b13 (y0 x1 A2 k3 A4 k5 A6 k7), (y2 b14 A9 x8 k10 A11 k12), (y5 b28 A32 x30 k33), sl .ro ku8 A32 k33 x30.1.b, blk b35 [.slice A40 x39.length k41, .bool x42], sl .ro ku8 A40 k41 x39] ++ F) _ := S.join.only [0, 1, 1, 1, 1, 1, 1, 1, 1, 1, 1, 1, 1, 1, 1] rfl
      refine g_yes T rfl rfl h54 (r_pv T rfl rfl fun _ T => r_pickF T rfl h54 rfl rfl fun _ T => r_pv T rfl rfl fun _ T => ?_)
      rcases ifE H with ⟨h57, H⟩ | ⟨h57, H⟩
      ·refine g_no T rfl rfl h57 rfl fun _ T => ?_
       refine g_no T rfl rfl h57 rfl fun _ T => g_no T rfl rfl h57 rfl fun _ T => g_no T rfl rfl h57 rfl fun _ T => g_no T rfl rfl h57 rfl fun _ T => ?_
       refine g_no T rfl rfl h57 rfl fun _ T => r_pickT T rfl h57 rfl rfl fun _ T => cdT T rfl rfl (Gets.seq ?_)
       exact J1_ok F r z x1 A2 k3 A4 k5 A6 k7 x8 A9 k10 A11 k12 _ _ (T.sub trivial) (S.only (p := [(y3 A2 k3 x1), (y6 A4 k5 x1), (y4 A6 k7 x1), (y10 A9 k10 x8), (y7 A11 k12 x8)]) [4, 4, 4, 4, 4] rfl) H
      ·refine g_yes T rfl rfl h57 ?_
       refine r_fa (o' := 1) T rfl Tryd.runUnderlying31 rfl Tryd.sizeOf29 rfl rfl fun _ T => g_yes T rfl rfl h57 (r_ldB (ix := 1) T S rfl Tryd.isAgg29 rfl rfl rfl fun _ T => g_yes T rfl rfl h57 ?_)
       refine r_fa (o' := 1) T rfl Tryd.runUnderlying31 rfl Tryd.sizeOf29 rfl rfl fun _ T => g_yes T rfl rfl h57 (r_ldB (ix := 10) T S rfl Tryd.isAgg29 rfl rfl rfl fun _ T => g_yes T rfl rfl h57 ?_)
       replace S := S.dup (i := 8) rfl
       obtain ⟨x59, h58, H⟩ := bd H
       refine r_call T Tryd.call34 rfl rfl (bytes_Equal.ok _ _ x46.1.Value x8.Value (S.sel (p := [sl .ro ku8 A49 k50 x46.1.Value, (y7 A11 k12 x8)]) (is := [3, 0]) rfl) _ h58) ?_
       rintro _ _ ⟨rfl, S⟩
       refine ⟨_, rfl, fun _ T => ?_⟩
       replace S : SL ([sl .ro ku8 A49 k50 x46.1.Value, sl .ro ku8 A47 k48 x46.1.Key, blk b51 [.slice A47 x46.1.Key.length k48, .slice A49 x46.1.Value.length k50], sl .own kapi_Value A37 k38 x36, (y3 A2 k3 x1), (y6 A4 k5 x1), (y4 A6 k7 x1), (y10 A9 k10 x8), (y7 A11 k12 x8), blk b13 (y0 x1 A2 k3 A4 k5 A6 k7), (y2 b14 A9 x8 k10 A11 k12), (y5 b28 A32 x30 k33), sl .ro ku8 A32 k33 x30.1.b, blk b35 [.slice A40 x39.length k41, .bool x42], sl .ro ku8 A40 k41 x39] ++ F) _ := S.join.only [0, 1, 1, 1, 1, 1, 1, 1, 1, 1, 1, 1, 1, 1, 1] rfl
       refine g_yes T rfl rfl h57 (r_pv T rfl rfl fun _ T => r_pickF T rfl h57 rfl rfl fun _ T => ?_)
       rcases ifE H with ⟨h60, H⟩ | ⟨h60, H⟩
       ·refine cdT T rfl h60 ?_
        refine Gets.seq ?_
        exact J1_ok F r z x1 A2 k3 A4 k5 A6 k7 x8 A9 k10 A11 k12 _ _ (T.sub trivial) (S.only (p := [(y3 A2 k3 x1), (y6 A4 k5 x1), (y4 A6 k7 x1), (y10 A9 k10 x8), (y7 A11 k12 x8)]) [4, 4, 4, 4, 4] rfl) H
       ·refine cdF T rfl h60 ?_
        refine Gets.skip (Gets.seq ?_)
        refine rg (r_pv T rfl rfl fun _ T => r_pv T rfl rfl fun _ T => r_pv T rfl rfl fun _ T => ?_)
        replace H := Option.some.inj H
        subst H
        exact rtn T Tryd.func9 rfl rfl ⟨A37, k38, rfl, (S.only (p := [sl .own kapi_Value A37 k38 x36, (y3 A2 k3 x1), (y6 A4 k5 x1), (y4 A6 k7 x1), (y10 A9 k10 x8), (y7 A11 k12 x8)]) [3, 3, 3, 3, 3, 3] rfl)⟩
theorem ok (F : List Atom) (w : World) (z : Nat) (x1 : api_Table) (x8 : api_KV) {A2 : OA} {k3 : Nat} {A4 : OA} {k5 : Nat} {A6 : OA} {k7 : Nat} {A9 : OA} {k10 : Nat} {A11 : OA} {k12 : Nat} (S : SL ([(y3 A2 k3 x1), (y6 A4 k5 x1), (y4 A6 k7 x1), (y10 A9 k10 x8), (y7 A11 k12 x8)] ++ F) w) (r : (List api_Value) × Int) (H : f z x1 x8 = some r) : Calls Tryd.prog 9 #[.agg #[.int .i64 x1.Id, .string x1.Name, .slice A2 x1.Columns.length k3, .slice A4 x1.Key.length k5, .slice A6 x1.Indexes.length k7], .agg #[.slice A9 x8.Key.length k10, .slice A11 x8.Value.length k12]] w (R F x1 A2 k3 A4 k5 A6 k7 x8 A9 k10 A11 k12 r) := by
 refine enter (vs := [.agg #[.int .i64 x1.Id, .string x1.Name, .slice A2 x1.Columns.length k3, .slice A4 x1.Key.length k5, .slice A6 x1.Indexes.length k7], .agg #[.slice A9 x8.Key.length k10, .slice A11 x8.Value.length k12]]) Tryd.func9 rfl Tryd.ntmps9 (Nat.le_of_ble_eq_true rfl) fun a T => ?_
 refine Gets.seq (rg (r_box T S rfl (cs := (y0 x1 A2 k3 A4 k5 A6 k7)) rfl rfl fun _ _ b13 S T => r_box T S rfl (cs := [.slice A9 x8.Key.length k10, .slice A11 x8.Value.length k12]) rfl rfl fun _ _ b14 S T => ?_))
 refine r_pv T rfl rfl fun _ T => r_pv T rfl rfl fun _ T => ?_
 refine Gets.seq (Gets.seq ?_)
 refine rg (r_ldBA (ix := 1) (ds := (y0 x1 A2 k3 A4 k5 A6 k7)) T S rfl Tryd.isAgg26 rfl rfl Tryd.sizeOf26 rfl fun _ T => r_fa (o' := 3) T rfl Tryd.runUnderlying26 rfl Tryd.sizeOf23 rfl rfl fun _ T => r_ldB (ix := 1) T S rfl Tryd.isAgg23 rfl rfl rfl fun _ T => ?_)
 replace S := S.dup (i := 2) rfl
 replace S := S.dup (i := 4) rfl
 replace S := S.dup (i := 6) rfl
 replace S := S.dup (i := 6) rfl
 obtain ⟨x16, h15, H⟩ := bd H
 refine r_call T Tryd.call23 rfl rfl (rowkey_tabled.ok _ _ z x1 x1.Key (S.sel (p := [(y3 A2 k3 x1), (y6 A4 k5 x1), (y4 A6 k7 x1), (y6 A4 k5 x1)]) (is := [3, 2, 1, 0]) rfl) _ h15) ?_
 rintro _ _ ⟨rfl, S⟩
 refine ⟨_, rfl, fun _ T => ?_⟩
 replace S : SL ([(y2 b14 A9 x8 k10 A11 k12), blk b13 (y0 x1 A2 k3 A4 k5 A6 k7), (y3 A2 k3 x1), (y6 A4 k5 x1), (y4 A6 k7 x1), (y10 A9 k10 x8), (y7 A11 k12 x8)] ++ F) _ := S.join.only [4, 4, 4, 4, 4, 4, 4] rfl
 refine r_pv T rfl rfl fun _ T => ?_
 rcases ifE H with ⟨h17, H⟩ | ⟨h17, H⟩
 ·refine cdT T rfl h17 ?_
  refine Gets.seq (rg (r_pv T rfl rfl fun _ T => r_pv T rfl rfl fun _ T => ?_))
  replace S := S.nil kapi_Value .own
  replace H := Option.some.inj H
  subst H
  exact rtn T Tryd.func9 rfl rfl ⟨none, 0, rfl, (S.only (p := [sl .own kapi_Value none 0 ([] : List api_Value), (y3 A2 k3 x1), (y6 A4 k5 x1), (y4 A6 k7 x1), (y10 A9 k10 x8), (y7 A11 k12 x8)]) [0, 2, 2, 2, 2, 2] rfl)⟩
 ·refine cdF T rfl h17 ?_
  refine Gets.skip (Gets.seq ?_)
  refine rg (r_fa (o' := 2) T rfl Tryd.runUnderlying26 rfl Tryd.sizeOf22 rfl rfl fun _ T => r_ldB (ix := 1) T S rfl Tryd.isAgg22 rfl rfl rfl fun _ T => r_lenS T rfl Tryd.runUnderlying22 rfl fun _ T => ?_)
  obtain ⟨h18, H⟩ := ck H
  refine r_make (κ := kapi_Value) T S rfl rfl sty27 dapi_Value (fun _ => ⟨_, _, rfl, rfl, ⟨_, _, rfl, rfl, ⟨_, _, rfl, rfl, rfl⟩⟩⟩) h18.1 (Int.le_refl _) (by decide) (by have := h18.2.2; omega) rfl fun _ _ b19 S T => ?_
  replace T := T.re (s := 22) (v' := .slice (some ⟨b19, 0, none⟩) (List.replicate (Int.toNat (x1.Columns.length : Int)) dapi_Value).length (Int.toNat (x1.Columns.length : Int))) rfl (by simp)
  refine r_pv T rfl rfl fun _ T => Gets.seq (rg (r_fa (o' := 0) T rfl Tryd.runUnderlying26 rfl Tryd.sizeOf3 rfl rfl fun _ T => ?_))
  refine r_ldB (ix := 2) T S rfl Tryd.isAgg3 rfl rfl rfl fun _ T => ?_
  replace S := SL.val (κ := ki64) (x := x1.Id) (cs := [.int .i64 x1.Id]) (fun _ => rfl) S
  replace S := SL.val (κ := ki64) (x := 1) (cs := [.int .i64 1]) (fun _ => rfl) S
  refine r_bsl (κ := ki64) (xs := [x1.Id, 1]) (vs := [.int .i64 x1.Id, .int .i64 1]) T S sty23 rfl ⟨_, _, rfl, ⟨1, rfl⟩, ⟨_, _, rfl, ⟨0, rfl⟩, rfl⟩⟩ rfl (by decide) rfl fun _ _ b20 S T => ?_
  replace S : SL ([sl .own ki64 (some ⟨b20, 0, none⟩) 2 [x1.Id, 1], (y9 b19 x1), (y2 b14 A9 x8 k10 A11 k12), blk b13 (y0 x1 A2 k3 A4 k5 A6 k7), (y3 A2 k3 x1), (y6 A4 k5 x1), (y4 A6 k7 x1), (y10 A9 k10 x8), (y7 A11 k12 x8)] ++ F) _ := S.only [0, 2, 2, 2, 2, 2, 2, 2, 2] rfl
  obtain ⟨x22, h21, H⟩ := bd H
  refine r_call T Tryd.call26 rfl rfl (rowkey_begin.ok _ _ z [x1.Id, 1] (S.sel (p := [sl .own ki64 (some ⟨b20, 0, none⟩) 2 [x1.Id, 1]]) (is := [0]) rfl) _ h21) ?_
  rintro _ _ ⟨A23, k24, rfl, S⟩
  refine ⟨_, rfl, fun _ T => ?_⟩
  replace S : SL ([sl .own ku8 A23 k24 x22, sl .own ki64 (some ⟨b20, 0, none⟩) 2 [x1.Id, 1], (y9 b19 x1), (y2 b14 A9 x8 k10 A11 k12), blk b13 (y0 x1 A2 k3 A4 k5 A6 k7), (y3 A2 k3 x1), (y6 A4 k5 x1), (y4 A6 k7 x1), (y10 A9 k10 x8), (y7 A11 k12 x8)] ++ F) _ := S.join
  refine r_pv T rfl rfl fun _ T => Gets.seq (rg (r_fa (o' := 0) T rfl Tryd.runUnderlying31 rfl Tryd.sizeOf29 rfl rfl fun _ T => ?_))
  refine r_ldB (ix := 3) T S rfl Tryd.isAgg29 rfl rfl rfl fun _ T => r_fa (o' := 0) T rfl Tryd.runUnderlying31 rfl Tryd.sizeOf29 rfl rfl fun _ T => r_ldB (ix := 3) T S rfl Tryd.isAgg29 rfl rfl rfl fun _ T => r_lenS T rfl Tryd.runUnderlying29 rfl fun _ T => ?_
  refine r_pv T rfl rfl fun _ T => r_lenS T rfl Tryd.runUnderlying29 rfl fun _ T => r_min T rfl rfl rfl fun _ T => ?_
  have h25 := S.len (i := 8) rfl
  obtain ⟨h26, H⟩ := ck H
  refine r_slR (ix := 8) (xs := x8.Key) T S rfl rfl (fun h => by cases h) rfl rfl rfl h26.1 h26.2 (Int.le_refl _) (by omega) (by omega) Tryd.runUnderlying29 Tryd.sizeOf5 rfl fun _ A27 S T => ?_
  refine r_build (cs := #[(y8 A27 x8 x22 k10), .bool false]) T stt69 rfl rfl rfl fun _ T => r_box T S rfl (cs := [(y8 A27 x8 x22 k10), .bool false]) rfl rfl fun _ _ b28 S T => r_pv T rfl rfl fun _ T => Gets.seq ?_
  refine rg (r_pv T rfl rfl fun _ T => r_ldBA (ix := 6) (ds := (y0 x1 A2 k3 A4 k5 A6 k7)) T S rfl Tryd.isAgg26 rfl rfl Tryd.sizeOf26 rfl fun _ T => r_fa (o' := 3) T rfl Tryd.runUnderlying26 rfl Tryd.sizeOf23 rfl rfl fun _ T => ?_)
  refine r_ldB (ix := 6) T S rfl Tryd.isAgg23 rfl rfl rfl fun _ T => r_pv T rfl rfl fun _ T => ?_
  replace S := S.dup (i := 7) rfl
  replace S := S.dup (i := 9) rfl
  replace S := S.dup (i := 11) rfl
  replace S := S.dup (i := 11) rfl
  obtain ⟨x30, h29, H⟩ := bd H
  refine r_call T Tryd.call31 rfl rfl (rowkey_reader_keys.ok _ _ z (rowkey_reader.mk (cut x8.Key (Int.toNat (mn (x8.Key.length : Int) (x22.length : Int))) (Int.toNat (x8.Key.length : Int))) false) x1 x1.Key (List.replicate (Int.toNat (x1.Columns.length : Int)) dapi_Value) (S.sel (p := [blk b28 [(y8 A27 x8 x22 k10), .bool false], sl .ro ku8 A27 (Int.toNat (k10 : Int) - Int.toNat (mn (x8.Key.length : Int) (x22.length : Int))) (cut x8.Key (Int.toNat (mn (x8.Key.length : Int) (x22.length : Int))) (Int.toNat (x8.Key.length : Int))), (y3 A2 k3 x1), (y6 A4 k5 x1), (y4 A6 k7 x1), (y6 A4 k5 x1), (y9 b19 x1)]) (is := [4, 4, 3, 2, 1, 0, 2]) rfl) _ h29) ?_
  rintro _ _ ⟨A32, k33, rfl, S⟩
  refine ⟨_, rfl, fun _ T => ?_⟩
  replace S : SL ([(y5 b28 A32 x30 k33), sl .ro ku8 A32 k33 x30.1.b, sl .own kapi_Value (some ⟨b19, 0, none⟩) (Int.toNat (x1.Columns.length : Int)) x30.2, pr (x30.2.length = (List.replicate (Int.toNat (x1.Columns.length : Int)) dapi_Value).length), sl .own ku8 A23 k24 x22, sl .own ki64 (some ⟨b20, 0, none⟩) 2 [x1.Id, 1], (y2 b14 A9 x8 k10 A11 k12), blk b13 (y0 x1 A2 k3 A4 k5 A6 k7), (y3 A2 k3 x1), (y6 A4 k5 x1), (y4 A6 k7 x1), (y10 A9 k10 x8), (y7 A11 k12 x8)] ++ F) _ := S.join.only [0, 0, 4, 4, 4, 4, 4, 4, 4, 4, 4, 4, 4] rfl
  have h34 := (S.getp (i := 3) rfl)
  refine Gets.seq (rg (r_fa (o' := 1) T rfl Tryd.runUnderlying31 rfl Tryd.sizeOf29 rfl rfl fun _ T => r_ldB (ix := 6) T S rfl Tryd.isAgg29 rfl rfl rfl fun _ T => ?_))
  refine r_build (cs := #[.slice A11 x8.Value.length k12, .bool false]) T stt69 rfl rfl rfl fun _ T => r_box T S rfl (cs := [.slice A11 x8.Value.length k12, .bool false]) rfl rfl fun _ _ b35 S T => r_pv T rfl rfl fun _ T => ?_
  refine Gets.seq (Gets.seq ?_)
  refine rg (r_fa (o' := 2) T rfl Tryd.runUnderlying26 rfl Tryd.sizeOf22 rfl rfl fun _ T => r_ldB (ix := 8) T S rfl Tryd.isAgg22 rfl rfl rfl fun _ T => r_lenS T rfl Tryd.runUnderlying22 rfl fun _ T => ?_)
  refine r_pv T rfl rfl fun _ T => Gets.block (Gets.loop ?_)
  have T := T.re (s := 6) (v' := .slice (some ⟨b19, 0, none⟩) x30.2.length (Int.toNat (x1.Columns.length : Int))) rfl (by rw [h34])
  replace S := S.dup (i := 13) rfl
  exact L0_ok F r z x1 A2 k3 A4 k5 A6 k7 x8 A9 k10 A11 k12 b13 b14 b28 b35 A32 x30 k33 z (some ⟨b19, 0, none⟩) x30.2 (Int.toNat (x1.Columns.length : Int)) 0 A11 x8.Value k12 false _ _ (T.sub ⟨rfl, rfl, rfl, rfl, rfl, rfl, rfl, rfl, trivial⟩) (S.only (p := [(y3 A2 k3 x1), (y6 A4 k5 x1), (y4 A6 k7 x1), (y10 A9 k10 x8), (y7 A11 k12 x8), blk b13 (y0 x1 A2 k3 A4 k5 A6 k7), (y2 b14 A9 x8 k10 A11 k12), sl .own kapi_Value (some ⟨b19, 0, none⟩) (Int.toNat (x1.Columns.length : Int)) x30.2, (y5 b28 A32 x30 k33), sl .ro ku8 A32 k33 x30.1.b, blk b35 [.slice A11 x8.Value.length k12, .bool false], (y7 A11 k12 x8)]) [10, 10, 10, 10, 10, 9, 8, 4, 2, 2, 1, 0] rfl) H
end rowkey_TakeRow
end Go.Proofs.YtohelmfkpmphoaaDoor
namespace Go.Proofs.YtohelmfkpmphoaaDoor
open Go Go.Proofs.YtohelmfkpmphoaaDoor.X
set_option linter.unusedVariables false
set_option linter.unusedSimpArgs false
set_option maxRecDepth 100000
set_option maxHeartbeats 4000000
namespace cormorantref20_takeKey
def R (F : List Atom) (x1 : List Int) (A2 : OA) (k3 : Nat) (r : api_Value × (List Int) × Bool) : Ending → World → Prop := fun e w' => ∃ (A25 : OA), ∃ (k26 : Nat), e = .returned (.tuple #[.agg #[.int .i64 r.1.Type', .bool r.1.Null, .int .i64 r.1.Int, .string r.1.Text], .slice A25 r.2.1.length k26, .bool r.2.2]) ∧ SL ([sl .ro ku8 A25 k26 r.2.1, sl .ro ku8 A2 k3 x1] ++ F) w'
def f (z : Nat) (x1 : List Int) (x4 : Int) : Option (api_Value × (List Int) × Bool) := If ((x1.length : Int) == 0) (some ((api_Value.mk x4 false 0 (⟨#[]⟩ : ByteArray)), ([] : List Int), false)) (Ck (0 < (x1.length : Int)) (If ((gi (0 : Int) x1 0) == 2) (Ck (1 ≤ (x1.length : Int)) (some ((api_Value.mk x4 true 0 (⟨#[]⟩ : ByteArray)), (cut x1 (Int.toNat 1) (Int.toNat (x1.length : Int))), true))) (Ck (1 ≤ (x1.length : Int)) (If (x4 == 1) (Bd (cormorantref01_TakeKeyInt.f z (cut x1 (Int.toNat 1) (Int.toNat (x1.length : Int)))) fun x15 => If (x15.2.2 != 0) (some ((api_Value.mk x4 false 0 (⟨#[]⟩ : ByteArray)), ([] : List Int), false)) (Ck (0 ≤ x15.2.1 ∧ x15.2.1 ≤ ((cut x1 (Int.toNat 1) (Int.toNat (x1.length : Int))).length : Int)) (some ((api_Value.mk x4 false x15.1 (⟨#[]⟩ : ByteArray)), (cut (cut x1 (Int.toNat 1) (Int.toNat (x1.length : Int))) (Int.toNat x15.2.1) (Int.toNat ((cut x1 (Int.toNat 1) (Int.toNat (x1.length : Int))).length : Int))), true)))) (If (x4 == 2) (If (((cut x1 (Int.toNat 1) (Int.toNat (x1.length : Int))).length : Int) == 0) (some ((api_Value.mk x4 false 0 (⟨#[]⟩ : ByteArray)), ([] : List Int), false)) (Ck (0 < ((cut x1 (Int.toNat 1) (Int.toNat (x1.length : Int))).length : Int)) (Ck (1 ≤ ((cut x1 (Int.toNat 1) (Int.toNat (x1.length : Int))).length : Int)) (some ((api_Value.mk x4 false (wr .i64 (gi (0 : Int) (cut x1 (Int.toNat 1) (Int.toNat (x1.length : Int))) 0)) (⟨#[]⟩ : ByteArray)), (cut (cut x1 (Int.toNat 1) (Int.toNat (x1.length : Int))) (Int.toNat 1) (Int.toNat ((cut x1 (Int.toNat 1) (Int.toNat (x1.length : Int))).length : Int))), true))))) (Bd (cormorantref01_TakeKeyText.f z (cut x1 (Int.toNat 1) (Int.toNat (x1.length : Int)))) fun x21 => If (x21.2.2 != 0) (some ((api_Value.mk x4 false 0 (⟨#[]⟩ : ByteArray)), ([] : List Int), false)) (Ck (0 ≤ x21.2.1 ∧ x21.2.1 ≤ ((cut x1 (Int.toNat 1) (Int.toNat (x1.length : Int))).length : Int)) (some ((api_Value.mk x4 false 0 (bstr x21.1)), (cut (cut x1 (Int.toNat 1) (Int.toNat (x1.length : Int))) (Int.toNat x21.2.1) (Int.toNat ((cut x1 (Int.toNat 1) (Int.toNat (x1.length : Int))).length : Int))), true)))))))))
abbrev y0 : Value := .string (⟨#[]⟩ : ByteArray)
abbrev y1 (A12 : OA) (k3 : Nat) (x1 : List Int) : Atom := sl .ro ku8 A12 (Int.toNat (k3 : Int) - Int.toNat 1) (cut x1 (Int.toNat 1) (Int.toNat (x1.length : Int)))
abbrev y2 (A12 : OA) (k3 : Nat) (x15 : Int × Int × Int) (x1 : List Int) : Value := .slice (slA A12 (Int.toNat (((Int.toNat (k3 : Int) - Int.toNat 1) : Nat) : Int)) (Int.toNat x15.2.1) 1) ((cut (cut x1 (Int.toNat 1) (Int.toNat (x1.length : Int))) (Int.toNat x15.2.1) (Int.toNat ((cut x1 (Int.toNat 1) (Int.toNat (x1.length : Int))).length : Int))).length) (Int.toNat (((Int.toNat (k3 : Int) - Int.toNat 1) : Nat) : Int) - Int.toNat x15.2.1)
abbrev y3 (A12 : OA) (k3 : Nat) (x21 : (List Int) × Int × Int) (x1 : List Int) : Value := .slice (slA A12 (Int.toNat (((Int.toNat (k3 : Int) - Int.toNat 1) : Nat) : Int)) (Int.toNat x21.2.1) 1) ((cut (cut x1 (Int.toNat 1) (Int.toNat (x1.length : Int))) (Int.toNat x21.2.1) (Int.toNat ((cut x1 (Int.toNat 1) (Int.toNat (x1.length : Int))).length : Int))).length) (Int.toNat (((Int.toNat (k3 : Int) - Int.toNat 1) : Nat) : Int) - Int.toNat x21.2.1)
abbrev y4 (A12 : OA) (k3 : Nat) (x1 : List Int) : Value := .slice (slA A12 (Int.toNat (((Int.toNat (k3 : Int) - Int.toNat 1) : Nat) : Int)) (Int.toNat 1) 1) ((cut (cut x1 (Int.toNat 1) (Int.toNat (x1.length : Int))) (Int.toNat 1) (Int.toNat ((cut x1 (Int.toNat 1) (Int.toNat (x1.length : Int))).length : Int))).length) (Int.toNat (((Int.toNat (k3 : Int) - Int.toNat 1) : Nat) : Int) - Int.toNat 1)
abbrev y5 (A12 : OA) (k3 : Nat) (x15 : Int × Int × Int) (x1 : List Int) : Atom := sl .ro ku8 (slA A12 (Int.toNat (((Int.toNat (k3 : Int) - Int.toNat 1) : Nat) : Int)) (Int.toNat x15.2.1) 1) (Int.toNat (((Int.toNat (k3 : Int) - Int.toNat 1) : Nat) : Int) - Int.toNat x15.2.1) (cut (cut x1 (Int.toNat 1) (Int.toNat (x1.length : Int))) (Int.toNat x15.2.1) (Int.toNat ((cut x1 (Int.toNat 1) (Int.toNat (x1.length : Int))).length : Int)))
abbrev y6 (A12 : OA) (k3 : Nat) (x21 : (List Int) × Int × Int) (x1 : List Int) : Atom := sl .ro ku8 (slA A12 (Int.toNat (((Int.toNat (k3 : Int) - Int.toNat 1) : Nat) : Int)) (Int.toNat x21.2.1) 1) (Int.toNat (((Int.toNat (k3 : Int) - Int.toNat 1) : Nat) : Int) - Int.toNat x21.2.1) (cut (cut x1 (Int.toNat 1) (Int.toNat (x1.length : Int))) (Int.toNat x21.2.1) (Int.toNat ((cut x1 (Int.toNat 1) (Int.toNat (x1.length : Int))).length : Int)))
abbrev y7 (A12 : OA) (k3 : Nat) (x1 : List Int) : Atom := sl .ro ku8 (slA A12 (Int.toNat (((Int.toNat (k3 : Int) - Int.toNat 1) : Nat) : Int)) (Int.toNat 1) 1) (Int.toNat (((Int.toNat (k3 : Int) - Int.toNat 1) : Nat) : Int) - Int.toNat 1) (cut (cut x1 (Int.toNat 1) (Int.toNat (x1.length : Int))) (Int.toNat 1) (Int.toNat ((cut x1 (Int.toNat 1) (Int.toNat (x1.length : Int))).length : Int)))
abbrev y8 (x4 : Int) (x1 : List Int) : List Value := [.int .i64 x4, .bool false, .int .i64 (wr .i64 (gi (0 : Int) (cut x1 (Int.toNat 1) (Int.toNat (x1.length : Int))) 0)), (y0)]
abbrev y9 (x4 : Int) : List Value := [.int .i64 x4, .bool false, .int .i64 0, (y0)]
abbrev y10 : List Value := [.int .i64 0, .bool false, .int .i64 0, (y0)]
abbrev y11 (A12 : OA) (x1 : List Int) (k3 : Nat) : Option (Value × Bool) := some (.slice A12 ((cut x1 (Int.toNat 1) (Int.toNat (x1.length : Int))).length) (Int.toNat (k3 : Int) - Int.toNat 1), true)
abbrev y12 (A2 : OA) (k3 : Nat) (x1 : List Int) : Value := .slice (slA A2 (Int.toNat (k3 : Int)) (Int.toNat 1) 1) ((cut x1 (Int.toNat 1) (Int.toNat (x1.length : Int))).length) (Int.toNat (k3 : Int) - Int.toNat 1)
abbrev y13 (A2 : OA) (k3 : Nat) (x1 : List Int) : Atom := sl .ro ku8 (slA A2 (Int.toNat (k3 : Int)) (Int.toNat 1) 1) (Int.toNat (k3 : Int) - Int.toNat 1) (cut x1 (Int.toNat 1) (Int.toNat (x1.length : Int)))
abbrev y14 (x4 : Int) (x21 : (List Int) × Int × Int) : List Value := [.int .i64 x4, .bool false, .int .i64 0, .string (bstr x21.1)]
abbrev y15 (x4 : Int) : List Value := [.int .i64 x4, .bool true, .int .i64 0, (y0)]
abbrev y16 (x4 : Int) (x15 : Int × Int × Int) : List Value := [.int .i64 x4, .bool false, .int .i64 x15.1, (y0)]
theorem ok (F : List Atom) (w : World) (z : Nat) (x1 : List Int) (x4 : Int) {A2 : OA} {k3 : Nat} (S : SL ([sl .ro ku8 A2 k3 x1] ++ F) w) (r : api_Value × (List Int) × Bool) (H : f z x1 x4 = some r) : Calls Tryd.prog 64 #[.slice A2 x1.length k3, .int .i64 x4] w (R F x1 A2 k3 r) := by
 refine enter (vs := [.slice A2 x1.length k3, .int .i64 x4]) Tryd.func64 rfl Tryd.ntmps64 (Nat.le_of_ble_eq_true rfl) fun a T => ?_
 refine Gets.seq (rg (r_alloc T S zv43 (cs := (y10)) rfl rfl fun _ _ b5 S T => r_pv T rfl rfl fun _ T => ?_))
 refine r_pv T rfl rfl fun _ T => Gets.seq (rg (r_pv T rfl rfl fun _ T => ?_))
 refine r_build (cs := #[.int .i64 x4, .bool false, .int .i64 0, (y0)]) T stt43 rfl rfl rfl fun _ T => r_alloc T S zv43 (cs := (y10)) rfl rfl fun _ _ b6 S T => r_stBA (ix := 0) (vs := (y9 x4)) (l' := [blk b6 (y9 x4), blk b5 (y10), sl .ro ku8 A2 k3 x1]) T S rfl rfl rfl rfl (by simp) Tryd.sizeOf43 (Nat.le_of_ble_eq_true rfl) rfl fun _ S => ?_
 refine Gets.seq (Gets.seq ?_)
 refine rg (r_pv T rfl rfl fun _ T => r_lenS T rfl Tryd.runUnderlying29 rfl fun _ T => r_pv T rfl rfl fun _ T => ?_)
 rcases ifE H with ⟨h7, H⟩ | ⟨h7, H⟩
 ·refine cdT T rfl h7 ?_
  refine Gets.seq (rg (r_ldBA (ix := 0) (ds := (y9 x4)) T S rfl Tryd.isAgg43 rfl rfl Tryd.sizeOf43 rfl fun _ T => r_stBA (ix := 1) (vs := (y9 x4)) (l' := [blk b6 (y9 x4), blk b5 (y9 x4), sl .ro ku8 A2 k3 x1]) T S rfl rfl rfl rfl (by simp) Tryd.sizeOf43 (Nat.le_of_ble_eq_true rfl) rfl fun _ S => ?_))
  refine r_pv T rfl rfl fun _ T => r_pv T rfl rfl fun _ T => ?_
  replace S := S.nil ku8 .ro
  replace H := Option.some.inj H
  subst H
  exact rtnM T S Tryd.func64 rfl ⟨_, _, rfl, ⟨b5, _, 2, rfl, rfl, .inl ⟨Tryd.isAgg43, Tryd.sizeOf43, rfl⟩⟩, ⟨_, _, rfl, rfl, ⟨_, _, rfl, rfl, rfl⟩⟩⟩ ⟨none, 0, rfl, (S.only (p := [sl .ro ku8 none 0 ([] : List Int), sl .ro ku8 A2 k3 x1]) [0, 2] rfl)⟩
 ·refine cdF T rfl h7 ?_
  refine Gets.skip (Gets.seq (Gets.seq ?_))
  refine rg (r_pv T rfl rfl fun _ T => ?_)
  obtain ⟨h8, H⟩ := ck H
  refine r_ia (ix := 2) T S rfl rfl rfl rfl Tryd.runUnderlying29 Tryd.sizeOf5 (by decide) h8 rfl fun _ T => ?_
  refine r_ldE (ix := 2) (i := 0) (off := 0) (f := (Value.int .u8)) T S rfl Tryd.isAgg5 rfl (0 : Int) _ rfl rfl (Fld.all _) (by decide) h8 (fun h => h) rfl fun _ T => ?_
  refine r_pv T rfl rfl fun _ T => ?_
  rcases ifE H with ⟨h9, H⟩ | ⟨h9, H⟩
  ·refine cdT T rfl h9 ?_
   refine Gets.seq (rg (r_fa (o' := 1) T rfl Tryd.runUnderlying43 rfl Tryd.sizeOf4 rfl rfl fun _ T => r_stB (ix := 0) (l' := [blk b6 (y15 x4), blk b5 (y10), sl .ro ku8 A2 k3 x1]) T S rfl rfl rfl Tryd.sizeOf4 rfl (Nat.le_of_ble_eq_true rfl) rfl fun _ S => ?_))
   refine Gets.seq ?_
   have h2121 := S.len (i := 2) rfl
   obtain ⟨h2122, H⟩ := ck H
   replace S := S.cutR (ix := 2) (i := 1) (j := (x1.length : Int)) (k := (k3 : Int)) rfl (by decide) h2122 (Int.le_refl _) (by omega) (by omega)
   refine Gets.drawn (l := [(y13 A2 k3 x1), blk b6 (y15 x4), blk b5 (y10), sl .ro ku8 A2 k3 x1]) (V := [some (.agg #[.int .i64 x4, .bool true, .int .i64 0, (y0)], true), some (.slice A2 x1.length k3, true), some ((y12 A2 k3 x1), true), none, none, none]) mixed T S rfl ?_
   refine stage (some 3) rfl rfl ⟨⟨_, _, rfl, (avl [7] rfl), fun _ _ _ T S => r_ldBA (ix := 1) (ds := (y15 x4)) T S rfl Tryd.isAgg43 rfl rfl Tryd.sizeOf43 rfl fun _ T => ⟨rfl, T⟩⟩, ⟨_, _, rfl, (avl [0] rfl), fun _ _ _ T S => r_pv T rfl rfl fun _ T => ⟨rfl, T⟩⟩, ⟨_, _, rfl, (avl [26] rfl), fun _ _ _ T S => r_slQ (xs := x1) T rfl (fun h => by cases h) rfl rfl rfl (by decide) h2122 (Int.le_refl _) (by omega) (by omega) Tryd.runUnderlying29 Tryd.sizeOf5 rfl fun _ T => ⟨rfl, T⟩⟩, trivial⟩ rfl (fun i hi => ?_) (fun h => by cases h)
   cases hi
   refine ⟨rfl, _, _, rfl, (avl [4, 25] rfl), fun u a w T S => ?_⟩
   refine r_stBA (ix := 2) (vs := (y15 x4)) (l' := [(y13 A2 k3 x1), blk b6 (y15 x4), blk b5 (y15 x4), sl .ro ku8 A2 k3 x1]) T S rfl rfl rfl rfl (by simp) Tryd.sizeOf43 (Nat.le_of_ble_eq_true rfl) rfl fun _ S => ?_
   refine ⟨_, [some (.agg #[.int .i64 x4, .bool true, .int .i64 0, (y0)], false), some (.slice A2 x1.length k3, true), some ((y12 A2 k3 x1), true), some (undef, false), some ((y12 A2 k3 x1), true), some (.bool true, true)], [(y13 A2 k3 x1), blk b6 (y15 x4), blk b5 (y15 x4), sl .ro ku8 A2 k3 x1], rfl, (by repeat first | exact kx0 | apply kxs | apply kxn), rfl, ?_, T, S⟩
   refine stage none rfl rfl ⟨⟨_, _, rfl, (avl [0] rfl), fun _ _ _ T S => r_pv T rfl rfl fun _ T => ⟨rfl, T⟩⟩, ⟨_, _, rfl, (avl [26] rfl), fun _ _ _ T S => r_slQ (xs := x1) T rfl (fun h => by cases h) rfl rfl rfl (by decide) h2122 (Int.le_refl _) (by omega) (by omega) Tryd.runUnderlying29 Tryd.sizeOf5 rfl fun _ T => ⟨rfl, T⟩⟩, ⟨_, _, rfl, (avl [27] rfl), fun _ _ _ T S => r_pv T rfl rfl fun _ T => ⟨rfl, T⟩⟩, ⟨_, [], rfl, trivial, fun _ _ _ T S => r_pv T rfl rfl fun _ T => ⟨rfl, T⟩⟩, trivial⟩ rfl (fun i hi => by cases hi) (fun _ _ a w T hv hb S => ?_)
   replace T := T.sub (r := [(4, .pointer (some ⟨b5, 0, none⟩)), (5, (y12 A2 k3 x1)), (6, .bool true)]) ⟨hb 4 _ rfl rfl, hv 4 _ 5 rfl rfl rfl, hv 5 _ 6 rfl rfl rfl, trivial⟩
   replace H := Option.some.inj H
   subst H
   exact rtnM T S Tryd.func64 rfl ⟨_, _, rfl, ⟨b5, _, 2, rfl, rfl, .inl ⟨Tryd.isAgg43, Tryd.sizeOf43, rfl⟩⟩, ⟨_, _, rfl, rfl, ⟨_, _, rfl, rfl, rfl⟩⟩⟩ ⟨(slA A2 (Int.toNat (k3 : Int)) (Int.toNat 1) 1), (Int.toNat (k3 : Int) - Int.toNat 1), rfl, (S.only (p := [(y13 A2 k3 x1), sl .ro ku8 A2 k3 x1]) [0, 2] rfl)⟩
  ·refine cdF T rfl h9 ?_
   refine Gets.skip (Gets.seq ?_)
   refine rg (r_pv T rfl rfl fun _ T => ?_)
   have h10 := S.len (i := 2) rfl
   obtain ⟨h11, H⟩ := ck H
   refine r_slR (ix := 2) (xs := x1) T S rfl rfl (fun h => by cases h) rfl rfl rfl (by decide) h11 (Int.le_refl _) (by omega) (by omega) Tryd.runUnderlying29 Tryd.sizeOf5 rfl fun _ A12 S T => ?_
   refine r_pv T rfl rfl fun _ T => ?_
   refine Gets.seq (Gets.seq ?_)
   refine rg (r_pv T rfl rfl fun _ T => ?_)
   refine Gets.block (Gets.seq ?_)
   refine rg (r_pv T rfl rfl fun _ T => r_pv T rfl rfl fun _ T => ?_)
   rcases ifE H with ⟨h13, H⟩ | ⟨h13, H⟩
   ·refine cdT T rfl h13 ?_
    refine Gets.seq (rg (r_pv T rfl rfl fun _ T => ?_))
    obtain ⟨x15, h14, H⟩ := bd H
    refine r_call T Tryd.call75 rfl rfl (cormorantref01_TakeKeyInt.ok _ _ z (cut x1 (Int.toNat 1) (Int.toNat (x1.length : Int))) (S.sel (p := [(y1 A12 k3 x1)]) (is := [0]) rfl) _ h14) ?_
    rintro _ _ ⟨rfl, S⟩
    refine ⟨_, rfl, fun _ T => ?_⟩
    replace S : SL ([(y1 A12 k3 x1), blk b6 (y9 x4), blk b5 (y10), sl .ro ku8 A2 k3 x1] ++ F) _ := S.join
    refine r_pv T rfl rfl fun _ T => r_pv T rfl rfl fun _ T => r_pv T rfl rfl fun _ T => r_pv T rfl rfl fun _ T => ?_
    refine r_pv T rfl rfl fun _ T => r_pv T rfl rfl fun _ T => r_pv T rfl rfl fun _ T => ?_
    refine Gets.seq (Gets.seq ?_)
    refine rg (r_pv T rfl rfl fun _ T => r_pv T rfl rfl fun _ T => ?_)
    rcases ifE H with ⟨h16, H⟩ | ⟨h16, H⟩
    ·refine cdT T rfl h16 ?_
     refine Gets.seq (rg (r_ldBA (ix := 1) (ds := (y9 x4)) T S rfl Tryd.isAgg43 rfl rfl Tryd.sizeOf43 rfl fun _ T => r_stBA (ix := 2) (vs := (y9 x4)) (l' := [(y1 A12 k3 x1), blk b6 (y9 x4), blk b5 (y9 x4), sl .ro ku8 A2 k3 x1]) T S rfl rfl rfl rfl (by simp) Tryd.sizeOf43 (Nat.le_of_ble_eq_true rfl) rfl fun _ S => ?_))
     refine r_pv T rfl rfl fun _ T => r_pv T rfl rfl fun _ T => ?_
     replace S := S.nil ku8 .ro
     replace H := Option.some.inj H
     subst H
     exact rtnM T S Tryd.func64 rfl ⟨_, _, rfl, ⟨b5, _, 3, rfl, rfl, .inl ⟨Tryd.isAgg43, Tryd.sizeOf43, rfl⟩⟩, ⟨_, _, rfl, rfl, ⟨_, _, rfl, rfl, rfl⟩⟩⟩ ⟨none, 0, rfl, (S.only (p := [sl .ro ku8 none 0 ([] : List Int), sl .ro ku8 A2 k3 x1]) [0, 3] rfl)⟩
    ·refine cdF T rfl h16 ?_
     refine Gets.skip (Gets.seq ?_)
     refine rg (r_pv T rfl rfl fun _ T => r_fa (o' := 2) T rfl Tryd.runUnderlying43 rfl Tryd.sizeOf2 rfl rfl fun _ T => r_stB (ix := 1) (l' := [(y1 A12 k3 x1), blk b6 (y16 x4 x15), blk b5 (y10), sl .ro ku8 A2 k3 x1]) T S rfl rfl rfl Tryd.sizeOf2 rfl (Nat.le_of_ble_eq_true rfl) rfl fun _ S => ?_)
     refine Gets.seq ?_
     have h2541 := S.len (i := 0) rfl
     obtain ⟨h2542, H⟩ := ck H
     replace S := S.cutR (ix := 0) (i := x15.2.1) (j := ((cut x1 (Int.toNat 1) (Int.toNat (x1.length : Int))).length : Int)) (k := (((Int.toNat (k3 : Int) - Int.toNat 1) : Nat) : Int)) rfl h2542.1 h2542.2 (Int.le_refl _) (by omega) (by omega)
     refine Gets.drawn (l := [(y5 A12 k3 x15 x1), (y1 A12 k3 x1), blk b6 (y16 x4 x15), blk b5 (y10), sl .ro ku8 A2 k3 x1]) (V := [some (.agg #[.int .i64 x4, .bool false, .int .i64 x15.1, (y0)], true), (y11 A12 x1 k3), some (.int .i64 x15.2.1, true), some ((y2 A12 k3 x15 x1), true), none, none, none]) mixed T S rfl ?_
     refine stage (some 4) rfl rfl ⟨⟨_, _, rfl, (avl [7] rfl), fun _ _ _ T S => r_ldBA (ix := 2) (ds := (y16 x4 x15)) T S rfl Tryd.isAgg43 rfl rfl Tryd.sizeOf43 rfl fun _ T => ⟨rfl, T⟩⟩, ⟨_, _, rfl, (avl [0] rfl), fun _ _ _ T S => r_pv T rfl rfl fun _ T => ⟨rfl, T⟩⟩, ⟨_, _, rfl, (avl [9] rfl), fun _ _ _ T S => r_pv T rfl rfl fun _ T => ⟨rfl, T⟩⟩, ⟨_, _, rfl, (avl [45, 46] rfl), fun _ _ _ T S => r_slQ (xs := (cut x1 (Int.toNat 1) (Int.toNat (x1.length : Int)))) T rfl (fun h => by cases h) rfl rfl rfl h2542.1 h2542.2 (Int.le_refl _) (by omega) (by omega) Tryd.runUnderlying29 Tryd.sizeOf5 rfl fun _ T => ⟨rfl, T⟩⟩, trivial⟩ rfl (fun i hi => ?_) (fun h => by cases h)
     cases hi
     refine ⟨rfl, _, _, rfl, (avl [4, 44] rfl), fun u a w T S => ?_⟩
     refine r_stBA (ix := 3) (vs := (y16 x4 x15)) (l' := [(y5 A12 k3 x15 x1), (y1 A12 k3 x1), blk b6 (y16 x4 x15), blk b5 (y16 x4 x15), sl .ro ku8 A2 k3 x1]) T S rfl rfl rfl rfl (by simp) Tryd.sizeOf43 (Nat.le_of_ble_eq_true rfl) rfl fun _ S => ?_
     refine ⟨_, [some (.agg #[.int .i64 x4, .bool false, .int .i64 x15.1, (y0)], false), (y11 A12 x1 k3), some (.int .i64 x15.2.1, true), some ((y2 A12 k3 x15 x1), true), some (undef, false), some ((y2 A12 k3 x15 x1), true), some (.bool true, true)], [(y5 A12 k3 x15 x1), (y1 A12 k3 x1), blk b6 (y16 x4 x15), blk b5 (y16 x4 x15), sl .ro ku8 A2 k3 x1], rfl, (by repeat first | exact kx0 | apply kxs | apply kxn), rfl, ?_, T, S⟩
     refine stage none rfl rfl ⟨⟨_, _, rfl, (avl [0] rfl), fun _ _ _ T S => r_pv T rfl rfl fun _ T => ⟨rfl, T⟩⟩, ⟨_, _, rfl, (avl [9] rfl), fun _ _ _ T S => r_pv T rfl rfl fun _ T => ⟨rfl, T⟩⟩, ⟨_, _, rfl, (avl [45, 46] rfl), fun _ _ _ T S => r_slQ (xs := (cut x1 (Int.toNat 1) (Int.toNat (x1.length : Int)))) T rfl (fun h => by cases h) rfl rfl rfl h2542.1 h2542.2 (Int.le_refl _) (by omega) (by omega) Tryd.runUnderlying29 Tryd.sizeOf5 rfl fun _ T => ⟨rfl, T⟩⟩, ⟨_, _, rfl, (avl [47] rfl), fun _ _ _ T S => r_pv T rfl rfl fun _ T => ⟨rfl, T⟩⟩, ⟨_, [], rfl, trivial, fun _ _ _ T S => r_pv T rfl rfl fun _ T => ⟨rfl, T⟩⟩, trivial⟩ rfl (fun i hi => by cases hi) (fun _ _ a w T hv hb S => ?_)
     replace T := T.sub (r := [(4, .pointer (some ⟨b5, 0, none⟩)), (5, (y2 A12 k3 x15 x1)), (6, .bool true)]) ⟨hb 4 _ rfl rfl, hv 5 _ 5 rfl rfl rfl, hv 6 _ 6 rfl rfl rfl, trivial⟩
     replace H := Option.some.inj H
     subst H
     exact rtnM T S Tryd.func64 rfl ⟨_, _, rfl, ⟨b5, _, 3, rfl, rfl, .inl ⟨Tryd.isAgg43, Tryd.sizeOf43, rfl⟩⟩, ⟨_, _, rfl, rfl, ⟨_, _, rfl, rfl, rfl⟩⟩⟩ ⟨(slA A12 (Int.toNat (((Int.toNat (k3 : Int) - Int.toNat 1) : Nat) : Int)) (Int.toNat x15.2.1) 1), (Int.toNat (((Int.toNat (k3 : Int) - Int.toNat 1) : Nat) : Int) - Int.toNat x15.2.1), rfl, (S.only (p := [(y5 A12 k3 x15 x1), sl .ro ku8 A2 k3 x1]) [0, 3] rfl)⟩
   ·refine cdF T rfl h13 ?_
    refine Gets.seq (rg (r_pv T rfl rfl fun _ T => r_pv T rfl rfl fun _ T => ?_))
    rcases ifE H with ⟨h17, H⟩ | ⟨h17, H⟩
    ·refine cdT T rfl h17 ?_
     refine Gets.seq (Gets.seq ?_)
     refine rg (r_pv T rfl rfl fun _ T => r_lenS T rfl Tryd.runUnderlying29 rfl fun _ T => r_pv T rfl rfl fun _ T => ?_)
     rcases ifE H with ⟨h18, H⟩ | ⟨h18, H⟩
     ·refine cdT T rfl h18 ?_
      refine Gets.seq (rg (r_ldBA (ix := 1) (ds := (y9 x4)) T S rfl Tryd.isAgg43 rfl rfl Tryd.sizeOf43 rfl fun _ T => r_stBA (ix := 2) (vs := (y9 x4)) (l' := [(y1 A12 k3 x1), blk b6 (y9 x4), blk b5 (y9 x4), sl .ro ku8 A2 k3 x1]) T S rfl rfl rfl rfl (by simp) Tryd.sizeOf43 (Nat.le_of_ble_eq_true rfl) rfl fun _ S => ?_))
      refine r_pv T rfl rfl fun _ T => r_pv T rfl rfl fun _ T => ?_
      replace S := S.nil ku8 .ro
      replace H := Option.some.inj H
      subst H
      exact rtnM T S Tryd.func64 rfl ⟨_, _, rfl, ⟨b5, _, 3, rfl, rfl, .inl ⟨Tryd.isAgg43, Tryd.sizeOf43, rfl⟩⟩, ⟨_, _, rfl, rfl, ⟨_, _, rfl, rfl, rfl⟩⟩⟩ ⟨none, 0, rfl, (S.only (p := [sl .ro ku8 none 0 ([] : List Int), sl .ro ku8 A2 k3 x1]) [0, 3] rfl)⟩
     ·refine cdF T rfl h18 ?_
      refine Gets.skip (Gets.seq ?_)
      refine rg (r_pv T rfl rfl fun _ T => ?_)
      obtain ⟨h19, H⟩ := ck H
      refine r_ia (ix := 0) T S rfl rfl rfl rfl Tryd.runUnderlying29 Tryd.sizeOf5 (by decide) h19 rfl fun _ T => ?_
      refine r_ldE (ix := 0) (i := 0) (off := 0) (f := (Value.int .u8)) T S rfl Tryd.isAgg5 rfl (0 : Int) _ rfl rfl (Fld.all _) (by decide) h19 (fun h => h) rfl fun _ T => ?_
      refine r_conv T rfl Tryd.runUnderlying5 Tryd.runUnderlying2 rfl fun _ T => r_fa (o' := 2) T rfl Tryd.runUnderlying43 rfl Tryd.sizeOf2 rfl rfl fun _ T => r_stB (ix := 1) (l' := [(y1 A12 k3 x1), blk b6 (y8 x4 x1), blk b5 (y10), sl .ro ku8 A2 k3 x1]) T S rfl rfl rfl Tryd.sizeOf2 rfl (Nat.le_of_ble_eq_true rfl) rfl fun _ S => Gets.seq ?_
      have h2901 := S.len (i := 0) rfl
      obtain ⟨h2902, H⟩ := ck H
      replace S := S.cutR (ix := 0) (i := 1) (j := ((cut x1 (Int.toNat 1) (Int.toNat (x1.length : Int))).length : Int)) (k := (((Int.toNat (k3 : Int) - Int.toNat 1) : Nat) : Int)) rfl (by decide) h2902 (Int.le_refl _) (by omega) (by omega)
      refine Gets.drawn (l := [(y7 A12 k3 x1), (y1 A12 k3 x1), blk b6 (y8 x4 x1), blk b5 (y10), sl .ro ku8 A2 k3 x1]) (V := [some (.agg #[.int .i64 x4, .bool false, .int .i64 (wr .i64 (gi (0 : Int) (cut x1 (Int.toNat 1) (Int.toNat (x1.length : Int))) 0)), (y0)], true), (y11 A12 x1 k3), some ((y4 A12 k3 x1), true), none, none, none]) mixed T S rfl ?_
      refine stage (some 3) rfl rfl ⟨⟨_, _, rfl, (avl [7] rfl), fun _ _ _ T S => r_ldBA (ix := 2) (ds := (y8 x4 x1)) T S rfl Tryd.isAgg43 rfl rfl Tryd.sizeOf43 rfl fun _ T => ⟨rfl, T⟩⟩, ⟨_, _, rfl, (avl [0] rfl), fun _ _ _ T S => r_pv T rfl rfl fun _ T => ⟨rfl, T⟩⟩, ⟨_, _, rfl, (avl [60] rfl), fun _ _ _ T S => r_slQ (xs := (cut x1 (Int.toNat 1) (Int.toNat (x1.length : Int)))) T rfl (fun h => by cases h) rfl rfl rfl (by decide) h2902 (Int.le_refl _) (by omega) (by omega) Tryd.runUnderlying29 Tryd.sizeOf5 rfl fun _ T => ⟨rfl, T⟩⟩, trivial⟩ rfl (fun i hi => ?_) (fun h => by cases h)
      cases hi
      refine ⟨rfl, _, _, rfl, (avl [4, 59] rfl), fun u a w T S => ?_⟩
      refine r_stBA (ix := 3) (vs := (y8 x4 x1)) (l' := [(y7 A12 k3 x1), (y1 A12 k3 x1), blk b6 (y8 x4 x1), blk b5 (y8 x4 x1), sl .ro ku8 A2 k3 x1]) T S rfl rfl rfl rfl (by simp) Tryd.sizeOf43 (Nat.le_of_ble_eq_true rfl) rfl fun _ S => ?_
      refine ⟨_, [some (.agg #[.int .i64 x4, .bool false, .int .i64 (wr .i64 (gi (0 : Int) (cut x1 (Int.toNat 1) (Int.toNat (x1.length : Int))) 0)), (y0)], false), (y11 A12 x1 k3), some ((y4 A12 k3 x1), true), some (undef, false), some ((y4 A12 k3 x1), true), some (.bool true, true)], [(y7 A12 k3 x1), (y1 A12 k3 x1), blk b6 (y8 x4 x1), blk b5 (y8 x4 x1), sl .ro ku8 A2 k3 x1], rfl, (by repeat first | exact kx0 | apply kxs | apply kxn), rfl, ?_, T, S⟩
      refine stage none rfl rfl ⟨⟨_, _, rfl, (avl [0] rfl), fun _ _ _ T S => r_pv T rfl rfl fun _ T => ⟨rfl, T⟩⟩, ⟨_, _, rfl, (avl [60] rfl), fun _ _ _ T S => r_slQ (xs := (cut x1 (Int.toNat 1) (Int.toNat (x1.length : Int)))) T rfl (fun h => by cases h) rfl rfl rfl (by decide) h2902 (Int.le_refl _) (by omega) (by omega) Tryd.runUnderlying29 Tryd.sizeOf5 rfl fun _ T => ⟨rfl, T⟩⟩, ⟨_, _, rfl, (avl [61] rfl), fun _ _ _ T S => r_pv T rfl rfl fun _ T => ⟨rfl, T⟩⟩, ⟨_, [], rfl, trivial, fun _ _ _ T S => r_pv T rfl rfl fun _ T => ⟨rfl, T⟩⟩, trivial⟩ rfl (fun i hi => by cases hi) (fun _ _ a w T hv hb S => ?_)
      replace T := T.sub (r := [(4, .pointer (some ⟨b5, 0, none⟩)), (5, (y4 A12 k3 x1)), (6, .bool true)]) ⟨hb 4 _ rfl rfl, hv 4 _ 5 rfl rfl rfl, hv 5 _ 6 rfl rfl rfl, trivial⟩
      replace H := Option.some.inj H
      subst H
      exact rtnM T S Tryd.func64 rfl ⟨_, _, rfl, ⟨b5, _, 3, rfl, rfl, .inl ⟨Tryd.isAgg43, Tryd.sizeOf43, rfl⟩⟩, ⟨_, _, rfl, rfl, ⟨_, _, rfl, rfl, rfl⟩⟩⟩ ⟨(slA A12 (Int.toNat (((Int.toNat (k3 : Int) - Int.toNat 1) : Nat) : Int)) (Int.toNat 1) 1), (Int.toNat (((Int.toNat (k3 : Int) - Int.toNat 1) : Nat) : Int) - Int.toNat 1), rfl, (S.only (p := [(y7 A12 k3 x1), sl .ro ku8 A2 k3 x1]) [0, 3] rfl)⟩
    ·refine cdF T rfl h17 ?_
     refine Gets.skip (Gets.inBlock (Gets.seq ?_))
     refine rg (r_pv T rfl rfl fun _ T => ?_)
     obtain ⟨x21, h20, H⟩ := bd H
     refine r_call T Tryd.call76 rfl rfl (cormorantref01_TakeKeyText.ok _ _ z (cut x1 (Int.toNat 1) (Int.toNat (x1.length : Int))) (S.sel (p := [(y1 A12 k3 x1)]) (is := [0]) rfl) _ h20) ?_
     rintro _ _ ⟨A22, k23, rfl, S⟩
     refine ⟨_, rfl, fun _ T => ?_⟩
     replace S : SL ([sl .own ku8 A22 k23 x21.1, (y1 A12 k3 x1), blk b6 (y9 x4), blk b5 (y10), sl .ro ku8 A2 k3 x1] ++ F) _ := S.join
     refine r_pv T rfl rfl fun _ T => r_pv T rfl rfl fun _ T => r_pv T rfl rfl fun _ T => r_pv T rfl rfl fun _ T => ?_
     refine r_pv T rfl rfl fun _ T => r_pv T rfl rfl fun _ T => r_pv T rfl rfl fun _ T => ?_
     refine Gets.seq (Gets.seq ?_)
     refine rg (r_pv T rfl rfl fun _ T => r_pv T rfl rfl fun _ T => ?_)
     rcases ifE H with ⟨h24, H⟩ | ⟨h24, H⟩
     ·refine cdT T rfl h24 ?_
      refine Gets.seq (rg (r_ldBA (ix := 2) (ds := (y9 x4)) T S rfl Tryd.isAgg43 rfl rfl Tryd.sizeOf43 rfl fun _ T => r_stBA (ix := 3) (vs := (y9 x4)) (l' := [sl .own ku8 A22 k23 x21.1, (y1 A12 k3 x1), blk b6 (y9 x4), blk b5 (y9 x4), sl .ro ku8 A2 k3 x1]) T S rfl rfl rfl rfl (by simp) Tryd.sizeOf43 (Nat.le_of_ble_eq_true rfl) rfl fun _ S => ?_))
      refine r_pv T rfl rfl fun _ T => r_pv T rfl rfl fun _ T => ?_
      replace S := S.nil ku8 .ro
      replace H := Option.some.inj H
      subst H
      exact rtnM T S Tryd.func64 rfl ⟨_, _, rfl, ⟨b5, _, 4, rfl, rfl, .inl ⟨Tryd.isAgg43, Tryd.sizeOf43, rfl⟩⟩, ⟨_, _, rfl, rfl, ⟨_, _, rfl, rfl, rfl⟩⟩⟩ ⟨none, 0, rfl, (S.only (p := [sl .ro ku8 none 0 ([] : List Int), sl .ro ku8 A2 k3 x1]) [0, 4] rfl)⟩
     ·refine cdF T rfl h24 ?_
      refine Gets.skip (Gets.seq ?_)
      refine rg (r_pv T rfl rfl fun _ T => r_b2s (ix := 0) (xs := x21.1) T S rfl rfl Tryd.runUnderlying29 Tryd.runUnderlying9 Tryd.runUnderlying5 rfl fun _ T => r_fa (o' := 3) T rfl Tryd.runUnderlying43 rfl Tryd.sizeOf9 rfl rfl fun _ T => ?_)
      refine r_stB (ix := 2) (l' := [sl .own ku8 A22 k23 x21.1, (y1 A12 k3 x1), blk b6 (y14 x4 x21), blk b5 (y10), sl .ro ku8 A2 k3 x1]) T S rfl rfl rfl Tryd.sizeOf9 rfl (Nat.le_of_ble_eq_true rfl) rfl fun _ S => Gets.seq ?_
      have h3321 := S.len (i := 1) rfl
      obtain ⟨h3322, H⟩ := ck H
      replace S := S.cutR (ix := 1) (i := x21.2.1) (j := ((cut x1 (Int.toNat 1) (Int.toNat (x1.length : Int))).length : Int)) (k := (((Int.toNat (k3 : Int) - Int.toNat 1) : Nat) : Int)) rfl h3322.1 h3322.2 (Int.le_refl _) (by omega) (by omega)
      refine Gets.drawn (l := [(y6 A12 k3 x21 x1), (y1 A12 k3 x1), blk b6 (y14 x4 x21), blk b5 (y10), sl .ro ku8 A2 k3 x1]) (V := [some (.agg #[.int .i64 x4, .bool false, .int .i64 0, .string (bstr x21.1)], true), (y11 A12 x1 k3), some (.int .i64 x21.2.1, true), some ((y3 A12 k3 x21 x1), true), none, none, none]) mixed T (S.only [0, 1, 1, 1, 1] rfl) rfl ?_
      refine stage (some 4) rfl rfl ⟨⟨_, _, rfl, (avl [7] rfl), fun _ _ _ T S => r_ldBA (ix := 2) (ds := (y14 x4 x21)) T S rfl Tryd.isAgg43 rfl rfl Tryd.sizeOf43 rfl fun _ T => ⟨rfl, T⟩⟩, ⟨_, _, rfl, (avl [0] rfl), fun _ _ _ T S => r_pv T rfl rfl fun _ T => ⟨rfl, T⟩⟩, ⟨_, _, rfl, (avl [12] rfl), fun _ _ _ T S => r_pv T rfl rfl fun _ T => ⟨rfl, T⟩⟩, ⟨_, _, rfl, (avl [75, 76] rfl), fun _ _ _ T S => r_slQ (xs := (cut x1 (Int.toNat 1) (Int.toNat (x1.length : Int)))) T rfl (fun h => by cases h) rfl rfl rfl h3322.1 h3322.2 (Int.le_refl _) (by omega) (by omega) Tryd.runUnderlying29 Tryd.sizeOf5 rfl fun _ T => ⟨rfl, T⟩⟩, trivial⟩ rfl (fun i hi => ?_) (fun h => by cases h)
      cases hi
      refine ⟨rfl, _, _, rfl, (avl [4, 74] rfl), fun u a w T S => ?_⟩
      refine r_stBA (ix := 3) (vs := (y14 x4 x21)) (l' := [(y6 A12 k3 x21 x1), (y1 A12 k3 x1), blk b6 (y14 x4 x21), blk b5 (y14 x4 x21), sl .ro ku8 A2 k3 x1]) T S rfl rfl rfl rfl (by simp) Tryd.sizeOf43 (Nat.le_of_ble_eq_true rfl) rfl fun _ S => ?_
      refine ⟨_, [some (.agg #[.int .i64 x4, .bool false, .int .i64 0, .string (bstr x21.1)], false), (y11 A12 x1 k3), some (.int .i64 x21.2.1, true), some ((y3 A12 k3 x21 x1), true), some (undef, false), some ((y3 A12 k3 x21 x1), true), some (.bool true, true)], [(y6 A12 k3 x21 x1), (y1 A12 k3 x1), blk b6 (y14 x4 x21), blk b5 (y14 x4 x21), sl .ro ku8 A2 k3 x1], rfl, (by repeat first | exact kx0 | apply kxs | apply kxn), rfl, ?_, T, S⟩
      refine stage none rfl rfl ⟨⟨_, _, rfl, (avl [0] rfl), fun _ _ _ T S => r_pv T rfl rfl fun _ T => ⟨rfl, T⟩⟩, ⟨_, _, rfl, (avl [12] rfl), fun _ _ _ T S => r_pv T rfl rfl fun _ T => ⟨rfl, T⟩⟩, ⟨_, _, rfl, (avl [75, 76] rfl), fun _ _ _ T S => r_slQ (xs := (cut x1 (Int.toNat 1) (Int.toNat (x1.length : Int)))) T rfl (fun h => by cases h) rfl rfl rfl h3322.1 h3322.2 (Int.le_refl _) (by omega) (by omega) Tryd.runUnderlying29 Tryd.sizeOf5 rfl fun _ T => ⟨rfl, T⟩⟩, ⟨_, _, rfl, (avl [77] rfl), fun _ _ _ T S => r_pv T rfl rfl fun _ T => ⟨rfl, T⟩⟩, ⟨_, [], rfl, trivial, fun _ _ _ T S => r_pv T rfl rfl fun _ T => ⟨rfl, T⟩⟩, trivial⟩ rfl (fun i hi => by cases hi) (fun _ _ a w T hv hb S => ?_)
      replace T := T.sub (r := [(4, .pointer (some ⟨b5, 0, none⟩)), (5, (y3 A12 k3 x21 x1)), (6, .bool true)]) ⟨hb 4 _ rfl rfl, hv 5 _ 5 rfl rfl rfl, hv 6 _ 6 rfl rfl rfl, trivial⟩
      replace H := Option.some.inj H
      subst H
      exact rtnM T S Tryd.func64 rfl ⟨_, _, rfl, ⟨b5, _, 3, rfl, rfl, .inl ⟨Tryd.isAgg43, Tryd.sizeOf43, rfl⟩⟩, ⟨_, _, rfl, rfl, ⟨_, _, rfl, rfl, rfl⟩⟩⟩ ⟨(slA A12 (Int.toNat (((Int.toNat (k3 : Int) - Int.toNat 1) : Nat) : Int)) (Int.toNat x21.2.1) 1), (Int.toNat (((Int.toNat (k3 : Int) - Int.toNat 1) : Nat) : Int) - Int.toNat x21.2.1), rfl, (S.only (p := [(y6 A12 k3 x21 x1), sl .ro ku8 A2 k3 x1]) [0, 3] rfl)⟩
end cormorantref20_takeKey
end Go.Proofs.YtohelmfkpmphoaaDoor
namespace Go.Proofs.YtohelmfkpmphoaaDoor
open Go Go.Proofs.YtohelmfkpmphoaaDoor.X
set_option linter.unusedVariables false
set_option linter.unusedSimpArgs false
set_option maxRecDepth 100000
set_option maxHeartbeats 4000000
namespace cormorantref20_taken
noncomputable def c0 : Code := match Tryd.f35.body with | some c => c | none => .skip
def R (F : List Atom) (x1 : api_Table) (A2 : OA) (k3 : Nat) (A4 : OA) (k5 : Nat) (A6 : OA) (k7 : Nat) (x8 : List Int) (A9 : OA) (k10 : Nat) (m11 : Md) (x12 : List Int) (A13 : OA) (k14 : Nat) (x15 : List api_Value) (A16 : OA) (k17 : Nat) (r : (List Int) × Bool × (List api_Value)) : Ending → World → Prop := fun e w' => ∃ (A29 : OA), ∃ (k30 : Nat), e = .returned (.tuple #[.slice A29 r.1.length k30, .bool r.2.1]) ∧ SL ([sl .ro ku8 A29 k30 r.1, sl .ro kapi_Column A2 k3 x1.Columns, sl .ro ki64 A4 k5 x1.Key, sl .ro kapi_Index A6 k7 x1.Indexes, sl m11 ki64 A9 k10 x8, sl .ro ku8 A13 k14 x12, sl .own kapi_Value A16 k17 r.2.2, pr (r.2.2.length = x15.length)] ++ F) w'
def J1 (z : Nat) (q0 : (List Int) → Int → (List api_Value) → Option ((List Int) × Bool × (List api_Value))) (x1 : api_Table) (x8 : List Int) (x24 : Int) (x2602 : api_Value × (List Int) × Bool) (x26 : List api_Value) : Option ((List Int) × Bool × (List api_Value)) := If (!x2602.2.2) (some (([] : List Int), false, x26)) (Ck (0 ≤ x24 ∧ x24 < (x8.length : Int)) (Ck (0 ≤ gi (0 : Int) x8 x24 ∧ gi (0 : Int) x8 x24 < (x26.length : Int)) (q0 x2602.2.1 (wr .i64 (x24 + 1)) (x26.set (Int.toNat (gi (0 : Int) x8 x24)) (api_Value.mk x2602.1.Type' x2602.1.Null x2602.1.Int x2602.1.Text)))))
def L0 (z : Nat) (x1 : api_Table) (x8 : List Int) : Nat → (List Int) → Int → (List api_Value) → Option ((List Int) × Bool × (List api_Value))
 | 0, _, _, _ => none
 | m + 1, x21, x24, x19 => If (decide (x24 < (x8.length : Int))) (Ck (0 ≤ x24 ∧ x24 < (x8.length : Int)) (Ck (0 ≤ gi (0 : Int) x8 x24 ∧ gi (0 : Int) x8 x24 < (x1.Columns.length : Int)) (Bd (cormorantref20_takeKey.f z x21 ((gi dapi_Column x1.Columns (gi (0 : Int) x8 x24)).Type')) fun x2602 => J1 z (L0 z x1 x8 m) x1 x8 x24 x2602 x19))) (some (x21, true, x19))
def f (z : Nat) (x1 : api_Table) (x8 x12 : List Int) (x15 : List api_Value) : Option ((List Int) × Bool × (List api_Value)) := L0 z x1 x8 z x12 0 x15
noncomputable def ptJ1 : List Item := [.code (cL (cL (cR (cB (cL (cR (cB (cB (cR (cL (cR c0))))))))))), .code (cR (cL (cR (cB (cL (cR (cB (cB (cR (cL (cR c0))))))))))), .code (cR (cR (cB (cL (cR (cB (cB (cR (cL (cR c0)))))))))), .inBlock 1, .code (cR (cR (cB (cB (cR (cL (cR c0))))))), .inLoop (cB (cB (cR (cL (cR c0))))), .inBlock 0, .code (cR (cR c0))]
noncomputable def ptL0 : List Item := [.code (cB (cB (cR (cL (cR c0))))), .inLoop (cB (cB (cR (cL (cR c0))))), .inBlock 0, .code (cR (cR c0))]
abbrev y0 (x1 : api_Table) (A2 : OA) (k3 : Nat) (A4 : OA) (k5 : Nat) (A6 : OA) (k7 : Nat) : List Value := [.int .i64 x1.Id, .string x1.Name, .slice A2 x1.Columns.length k3, .slice A4 x1.Key.length k5, .slice A6 x1.Indexes.length k7]
abbrev y1 (x2602 : api_Value × (List Int) × Bool) : Value := .agg #[.int .i64 x2602.1.Type', .bool x2602.1.Null, .int .i64 x2602.1.Int, .string x2602.1.Text]
abbrev y2 (x2602 : api_Value × (List Int) × Bool) : List Value := [.int .i64 x2602.1.Type', .bool x2602.1.Null, .int .i64 x2602.1.Int, .string x2602.1.Text]
abbrev y3 (A22 : OA) (x21 : List Int) (k23 b18 : Nat) (A2 : OA) (x1 : api_Table) (k3 : Nat) (A9 : OA) (x8 : List Int) (k10 : Nat) (x24 : Int) (x2602 : api_Value × (List Int) × Bool) (A2603 : OA) (k2604 b2901 : Nat) : List (Option (Value × Bool)) := [some (.slice A22 x21.length k23, false), some (.pointer (some ⟨b18, 2, none⟩), true), some (.slice A2 x1.Columns.length k3, true), some (.slice A9 x8.length k10, true), some (.int .i64 x24, true), some (.pointer (some (eA A9 (Int.toNat x24 * 1))), true), some (.int .i64 (gi (0 : Int) x8 x24), true), some (.pointer (some (eA A2 (Int.toNat (gi (0 : Int) x8 x24) * 7))), true), some (.pointer (some (eA A2 (Int.toNat (gi (0 : Int) x8 x24) * 7 + 1))), true), some (.int .i64 ((gi dapi_Column x1.Columns (gi (0 : Int) x8 x24)).Type'), false), some (.tuple #[(y1 x2602), .slice A2603 x2602.2.1.length k2604, .bool x2602.2.2], false), some (.tuple #[(y1 x2602), .slice A2603 x2602.2.1.length k2604, .bool x2602.2.2], true), some ((y1 x2602), true), some (.slice A2603 x2602.2.1.length k2604, true), some (.bool x2602.2.2, true), some (.pointer (some ⟨b2901, 0, none⟩), false), none, none, none]
abbrev y4 (A2 : OA) (k3 : Nat) (x1 : api_Table) : Atom := sl .ro kapi_Column A2 k3 x1.Columns
abbrev y5 (A6 : OA) (k7 : Nat) (x1 : api_Table) : Atom := sl .ro kapi_Index A6 k7 x1.Indexes
abbrev y6 : List Value := [.int .i64 0, .bool false, .int .i64 0, .string (⟨#[]⟩ : ByteArray)]
abbrev y7 (x2602 : api_Value × (List Int) × Bool) : api_Value := (api_Value.mk x2602.1.Type' x2602.1.Null x2602.1.Int x2602.1.Text)
abbrev y8 (A4 : OA) (k5 : Nat) (x1 : api_Table) : Atom := sl .ro ki64 A4 k5 x1.Key
abbrev y9 (x19 x15 : List api_Value) : Atom := pr (x19.length = x15.length)
abbrev y10 (x2602 : api_Value × (List Int) × Bool) (A2603 : OA) (k2604 : Nat) : Value := .tuple #[(y1 x2602), .slice A2603 x2602.2.1.length k2604, .bool x2602.2.2]
abbrev y11 (x1 : api_Table) (x8 : List Int) (x24 : Int) : Value := .int .i64 ((gi dapi_Column x1.Columns (gi (0 : Int) x8 x24)).Type')
theorem J1_ok (F : List Atom) (r : (List Int) × Bool × (List api_Value)) (z : Nat) (x1 : api_Table) (A2 : OA) (k3 : Nat) (A4 : OA) (k5 : Nat) (A6 : OA) (k7 : Nat) (x8 : List Int) (A9 : OA) (k10 : Nat) (m11 : Md) (x12 : List Int) (A13 : OA) (k14 : Nat) (x15 : List api_Value) (A16 : OA) (k17 b18 : Nat) (x24 : Int) (b2901 : Nat) (A2603 : OA) (x2602 : api_Value × (List Int) × Bool) (k2604 : Nat) (q0 : (List Int) → Int → (List api_Value) → Option ((List Int) × Bool × (List api_Value))) (hq0 : ∀ (A22 : OA) (x21 : List Int) (k23 : Nat) (x24 : Int) (x19 : List api_Value) (a : Act) (w : World), Tm 46 [(1, .slice A9 x8.length k10), (2, .slice A22 x21.length k23), (3, .slice A16 x15.length k17), (4, .pointer (some ⟨b18, 0, none⟩)), (10, .int .i64 x24)] a → SL ([(y4 A2 k3 x1), (y8 A4 k5 x1), (y5 A6 k7 x1), sl m11 ki64 A9 k10 x8, sl .ro ku8 A13 k14 x12, sl .own kapi_Value A16 k17 x19, (y9 x19 x15), sl .ro ku8 A22 k23 x21, blk b18 (y0 x1 A2 k3 A4 k5 A6 k7)] ++ F) w → q0 x21 x24 x19 = some r → Gets Tryd.prog 35 ptL0 a w (R F x1 A2 k3 A4 k5 A6 k7 x8 A9 k10 m11 x12 A13 k14 x15 A16 k17 r)) (x26 : List api_Value) (a : Act) (w : World) (T : Tm 46 [(1, .slice A9 x8.length k10), (3, .slice A16 x15.length k17), (4, .pointer (some ⟨b18, 0, none⟩)), (10, .int .i64 x24), (11, .pointer (some ⟨b2901, 0, none⟩)), (12, .slice A2603 x2602.2.1.length k2604), (13, .bool x2602.2.2)] a) (S : SL ([(y4 A2 k3 x1), (y8 A4 k5 x1), (y5 A6 k7 x1), sl m11 ki64 A9 k10 x8, sl .ro ku8 A13 k14 x12, sl .own kapi_Value A16 k17 x26, pr (x26.length = x15.length), blk b18 (y0 x1 A2 k3 A4 k5 A6 k7), blk b2901 (y2 x2602), sl .ro ku8 A2603 k2604 x2602.2.1] ++ F) w) (H : J1 z q0 x1 x8 x24 x2602 x26 = some r) : Gets Tryd.prog 35 ptJ1 a w (R F x1 A2 k3 A4 k5 A6 k7 x8 A9 k10 m11 x12 A13 k14 x15 A16 k17 r) := by
 have h27 := S.getp (i := 6) rfl
 refine rg (r_pv T rfl rfl fun _ T => r_pv T rfl rfl fun _ T => ?_)
 rcases ifE H with ⟨h28, H⟩ | ⟨h28, H⟩
 ·refine cdT T rfl h28 ?_
  refine Gets.seq (rg (r_pv T rfl rfl fun _ T => r_pv T rfl rfl fun _ T => ?_))
  replace S := S.nil ku8 .ro
  replace S := SL.prf h27 S
  replace H := Option.some.inj H
  subst H
  exact rtn T Tryd.func35 rfl rfl ⟨none, 0, rfl, (S.only (p := [sl .ro ku8 none 0 ([] : List Int), (y4 A2 k3 x1), (y8 A4 k5 x1), (y5 A6 k7 x1), sl m11 ki64 A9 k10 x8, sl .ro ku8 A13 k14 x12, sl .own kapi_Value A16 k17 x26, pr (x26.length = x15.length)]) [1, 1, 1, 1, 1, 1, 1, 0] rfl)⟩
 ·refine cdF T rfl h28 ?_
  refine Gets.skip (Gets.seq ?_)
  obtain ⟨h3321, H⟩ := ck H
  obtain ⟨h3501, H⟩ := ck H
  refine Gets.drawn (l := [(y4 A2 k3 x1), (y8 A4 k5 x1), (y5 A6 k7 x1), sl m11 ki64 A9 k10 x8, sl .ro ku8 A13 k14 x12, sl .own kapi_Value A16 k17 x26, pr (x26.length = x15.length), blk b18 (y0 x1 A2 k3 A4 k5 A6 k7), blk b2901 (y2 x2602), sl .ro ku8 A2603 k2604 x2602.2.1]) (V := [some (.slice A16 x15.length k17, true), some (.slice A9 x8.length k10, true), some (.int .i64 x24, true), some (.pointer (some (eA A9 (Int.toNat x24 * 1))), true), some (.int .i64 (gi (0 : Int) x8 x24), true), some ((y1 x2602), true), some (.pointer (some (eA A16 (Int.toNat (gi (0 : Int) x8 x24) * 4))), true), none]) mixed T S rfl ?_
  refine stage (some 7) rfl rfl ⟨⟨_, _, rfl, (avl [3] rfl), fun _ _ _ T S => r_pv T rfl rfl fun _ T => ⟨rfl, T⟩⟩, ⟨_, _, rfl, (avl [1] rfl), fun _ _ _ T S => r_pv T rfl rfl fun _ T => ⟨rfl, T⟩⟩, ⟨_, _, rfl, (avl [10] rfl), fun _ _ _ T S => r_pv T rfl rfl fun _ T => ⟨rfl, T⟩⟩, ⟨_, _, rfl, (avl [38, 39] rfl), fun _ _ _ T S => r_ia (ix := 3) T S rfl rfl rfl rfl Tryd.runUnderlying23 Tryd.sizeOf3 h3321.1 h3321.2 rfl fun _ T => ⟨rfl, T⟩⟩, ⟨_, _, rfl, (avl [40] rfl), fun _ _ _ T S => r_ldE (ix := 3) (i := x24) (off := 0) (f := (Value.int .i64)) T S rfl Tryd.isAgg3 rfl (0 : Int) _ rfl rfl (Fld.all _) h3321.1 h3321.2 (fun h => h) rfl fun _ T => ⟨rfl, T⟩⟩, ⟨_, _, rfl, (avl [11] rfl), fun _ _ _ T S => r_ldBA (ix := 8) (ds := (y2 x2602)) T S rfl Tryd.isAgg43 rfl rfl Tryd.sizeOf43 rfl fun _ T => ⟨rfl, T⟩⟩, ⟨_, _, rfl, (avl [37, 41] rfl), fun _ _ _ T S => r_ia (ix := 5) T S rfl rfl rfl h27.symm Tryd.runUnderlying27 Tryd.sizeOf43 h3501.1 h3501.2 rfl fun _ T => ⟨rfl, T⟩⟩, trivial⟩ rfl (fun i hi => ?_) (fun h => by cases h)
  cases hi
  refine ⟨rfl, _, _, rfl, (avl [42, 43] rfl), fun u a w T S => ?_⟩
  have h3561 : (x26.set (Int.toNat (gi (0 : Int) x8 x24)) (y7 x2602)).length = x15.length := by rw [List.length_set]; exact h27
  refine r_stEO (ix := 5) (i := gi (0 : Int) x8 x24) (u := (y7 x2602)) (vs := (y2 x2602)) (l' := [(y4 A2 k3 x1), (y8 A4 k5 x1), (y5 A6 k7 x1), sl m11 ki64 A9 k10 x8, sl .ro ku8 A13 k14 x12, sl .own kapi_Value A16 k17 (x26.set (Int.toNat (gi (0 : Int) x8 x24)) (y7 x2602)), pr (x26.length = x15.length), blk b18 (y0 x1 A2 k3 A4 k5 A6 k7), blk b2901 (y2 x2602), sl .ro ku8 A2603 k2604 x2602.2.1]) T S rfl rfl rfl rfl (by simp) (fun _ => ⟨_, _, rfl, rfl, ⟨_, _, rfl, rfl, ⟨_, _, rfl, rfl, rfl⟩⟩⟩) Tryd.sizeOf43 h3501.1 h3501.2 rfl fun _ S => ?_
  refine ⟨_, [some (.slice A16 x15.length k17, false), some (.slice A9 x8.length k10, false), some (.int .i64 x24, false), some (.pointer (some (eA A9 (Int.toNat x24 * 1))), false), some (.int .i64 (gi (0 : Int) x8 x24), false), some ((y1 x2602), false), some (.pointer (some (eA A16 (Int.toNat (gi (0 : Int) x8 x24) * 4))), false), some (undef, false)], [(y4 A2 k3 x1), (y8 A4 k5 x1), (y5 A6 k7 x1), sl m11 ki64 A9 k10 x8, sl .ro ku8 A13 k14 x12, sl .own kapi_Value A16 k17 (x26.set (Int.toNat (gi (0 : Int) x8 x24)) (y7 x2602)), pr (x26.length = x15.length), blk b18 (y0 x1 A2 k3 A4 k5 A6 k7), blk b2901 (y2 x2602), sl .ro ku8 A2603 k2604 x2602.2.1], rfl, (by repeat first | exact kx0 | apply kxs | apply kxn), rfl, ?_, T, S⟩
  refine stage none rfl rfl trivial rfl (fun i hi => by cases hi) (fun _ _ a w T hv hb S => ?_)
  replace T := T.sub (r := [(1, .slice A9 x8.length k10), (3, .slice A16 x15.length k17), (4, .pointer (some ⟨b18, 0, none⟩)), (10, .int .i64 x24), (12, .slice A2603 x2602.2.1.length k2604)]) ⟨hb 1 _ rfl rfl, hb 3 _ rfl rfl, hb 4 _ rfl rfl, hb 10 _ rfl rfl, hb 12 _ rfl rfl, trivial⟩
  refine rg (r_pv T rfl rfl fun _ T => r_pv T rfl rfl fun _ T => Gets.inBlock ?_)
  refine rg (r_pv T rfl rfl fun _ T => r_pv T rfl rfl fun _ T => r_pv T rfl rfl fun _ T => ?_)
  refine Gets.inLoop ?_
  replace S := SL.prf h3561 S
  exact hq0 A2603 x2602.2.1 k2604 (wr .i64 (x24 + 1)) (x26.set (Int.toNat (gi (0 : Int) x8 x24)) (y7 x2602)) _ _ (T.sub ⟨rfl, rfl, rfl, rfl, rfl, trivial⟩) (S.only (p := [(y4 A2 k3 x1), (y8 A4 k5 x1), (y5 A6 k7 x1), sl m11 ki64 A9 k10 x8, sl .ro ku8 A13 k14 x12, sl .own kapi_Value A16 k17 (x26.set (Int.toNat (gi (0 : Int) x8 x24)) (y7 x2602)), pr ((x26.set (Int.toNat (gi (0 : Int) x8 x24)) (y7 x2602)).length = x15.length), sl .ro ku8 A2603 k2604 x2602.2.1, blk b18 (y0 x1 A2 k3 A4 k5 A6 k7)]) [1, 1, 1, 1, 1, 1, 0, 3, 1] rfl) H
theorem L0_ok (F : List Atom) (r : (List Int) × Bool × (List api_Value)) (z : Nat) (x1 : api_Table) (A2 : OA) (k3 : Nat) (A4 : OA) (k5 : Nat) (A6 : OA) (k7 : Nat) (x8 : List Int) (A9 : OA) (k10 : Nat) (m11 : Md) (x12 : List Int) (A13 : OA) (k14 : Nat) (x15 : List api_Value) (A16 : OA) (k17 b18 m : Nat) : ∀ (A22 : OA) (x21 : List Int) (k23 : Nat) (x24 : Int) (x19 : List api_Value) (a : Act) (w : World), Tm 46 [(1, .slice A9 x8.length k10), (2, .slice A22 x21.length k23), (3, .slice A16 x15.length k17), (4, .pointer (some ⟨b18, 0, none⟩)), (10, .int .i64 x24)] a → SL ([(y4 A2 k3 x1), (y8 A4 k5 x1), (y5 A6 k7 x1), sl m11 ki64 A9 k10 x8, sl .ro ku8 A13 k14 x12, sl .own kapi_Value A16 k17 x19, (y9 x19 x15), sl .ro ku8 A22 k23 x21, blk b18 (y0 x1 A2 k3 A4 k5 A6 k7)] ++ F) w → L0 z x1 x8 m x21 x24 x19 = some r → Gets Tryd.prog 35 ptL0 a w (R F x1 A2 k3 A4 k5 A6 k7 x8 A9 k10 m11 x12 A13 k14 x15 A16 k17 r) := by
 induction m with
 | zero => intro _ _ _ _ _ _ _ _ _ H; cases H
 | succ m ih =>
  intro A22 x21 k23 x24 x19 a w T S H
  have h20 := S.getp (i := 6) rfl
  refine Gets.seq (Gets.seq (rg (r_pv T rfl rfl fun _ T => ?_)))
  refine r_pv T rfl rfl fun _ T => r_lenS T rfl Tryd.runUnderlying23 rfl fun _ T => r_pv T rfl rfl fun _ T => ?_
  rcases ifE H with ⟨h25, H⟩ | ⟨h25, H⟩
  ·refine cdT T rfl h25 ?_
   refine Gets.skip (Gets.seq (Gets.block (Gets.seq ?_)))
   obtain ⟨h2301, H⟩ := ck H
   obtain ⟨h2421, H⟩ := ck H
   refine Gets.drawn (l := [(y4 A2 k3 x1), (y8 A4 k5 x1), (y5 A6 k7 x1), sl m11 ki64 A9 k10 x8, sl .ro ku8 A13 k14 x12, sl .own kapi_Value A16 k17 x19, (y9 x19 x15), sl .ro ku8 A22 k23 x21, blk b18 (y0 x1 A2 k3 A4 k5 A6 k7)]) (V := [some (.slice A22 x21.length k23, true), some (.pointer (some ⟨b18, 2, none⟩), true), some (.slice A2 x1.Columns.length k3, true), some (.slice A9 x8.length k10, true), some (.int .i64 x24, true), some (.pointer (some (eA A9 (Int.toNat x24 * 1))), true), some (.int .i64 (gi (0 : Int) x8 x24), true), some (.pointer (some (eA A2 (Int.toNat (gi (0 : Int) x8 x24) * 7))), true), some (.pointer (some (eA A2 (Int.toNat (gi (0 : Int) x8 x24) * 7 + 1))), true), some ((y11 x1 x8 x24), true), none, none, none, none, none, none, none, none, none]) mixed T S rfl ?_
   refine stageL [10, 15] rfl rfl ⟨⟨_, _, rfl, (avl [2] rfl), fun _ _ _ T S => r_pv T rfl rfl fun _ T => ⟨rfl, T⟩⟩, ⟨_, _, rfl, (avl [4] rfl), fun _ _ _ T S => r_fa (o' := 2) T rfl Tryd.runUnderlying26 rfl Tryd.sizeOf22 rfl rfl fun _ T => ⟨rfl, T⟩⟩, ⟨_, _, rfl, (avl [22] rfl), fun _ _ _ T S => r_ldB (ix := 8) T S rfl Tryd.isAgg22 rfl rfl rfl fun _ T => ⟨rfl, T⟩⟩, ⟨_, _, rfl, (avl [1] rfl), fun _ _ _ T S => r_pv T rfl rfl fun _ T => ⟨rfl, T⟩⟩, ⟨_, _, rfl, (avl [10] rfl), fun _ _ _ T S => r_pv T rfl rfl fun _ T => ⟨rfl, T⟩⟩, ⟨_, _, rfl, (avl [24, 25] rfl), fun _ _ _ T S => r_ia (ix := 3) T S rfl rfl rfl rfl Tryd.runUnderlying23 Tryd.sizeOf3 h2301.1 h2301.2 rfl fun _ T => ⟨rfl, T⟩⟩, ⟨_, _, rfl, (avl [26] rfl), fun _ _ _ T S => r_ldE (ix := 3) (i := x24) (off := 0) (f := (Value.int .i64)) T S rfl Tryd.isAgg3 rfl (0 : Int) _ rfl rfl (Fld.all _) h2301.1 h2301.2 (fun h => h) rfl fun _ T => ⟨rfl, T⟩⟩, ⟨_, _, rfl, (avl [23, 27] rfl), fun _ _ _ T S => r_ia (ix := 0) T S rfl rfl rfl rfl Tryd.runUnderlying22 Tryd.sizeOf72 h2421.1 h2421.2 rfl fun _ T => ⟨rfl, T⟩⟩, ⟨_, _, rfl, (avl [28] rfl), fun _ _ _ T S => r_faE T rfl Tryd.runUnderlying72 rfl Tryd.sizeOf3 rfl fun _ T => ⟨rfl, T⟩⟩, ⟨_, _, rfl, (avl [29] rfl), fun _ _ _ T S => r_ldE (ix := 0) (i := gi (0 : Int) x8 x24) (off := 1) (f := (Value.int .i64)) T S rfl Tryd.isAgg3 rfl dapi_Column _ rfl rfl fld_api_Column_Type' h2421.1 h2421.2 (fun h => h) rfl fun _ T => ⟨rfl, T⟩⟩, trivial⟩ rfl (fun i hi => ?_) (fun h => by cases h)
   simp only [List.mem_cons, List.not_mem_nil, or_false] at hi
   rcases hi with rfl | rfl
   ·refine ⟨rfl, _, _, rfl, (avl [21, 30] rfl), fun u a w T S => ?_⟩
    obtain ⟨x2602, h2601, H⟩ := bd H
    refine r_call T Tryd.call64 rfl rfl (cormorantref20_takeKey.ok _ _ z x21 ((gi dapi_Column x1.Columns (gi (0 : Int) x8 x24)).Type') (S.sel (p := [sl .ro ku8 A22 k23 x21]) (is := [7]) rfl) _ h2601) ?_
    rintro _ _ ⟨A2603, k2604, rfl, S⟩
    refine ⟨_, rfl, fun _ T => ?_⟩
    replace S : SL ([sl .ro ku8 A2603 k2604 x2602.2.1, sl .ro ku8 A22 k23 x21, (y4 A2 k3 x1), (y8 A4 k5 x1), (y5 A6 k7 x1), sl m11 ki64 A9 k10 x8, sl .ro ku8 A13 k14 x12, sl .own kapi_Value A16 k17 x19, (y9 x19 x15), blk b18 (y0 x1 A2 k3 A4 k5 A6 k7)] ++ F) _ := S.join
    refine ⟨_, [some (.slice A22 x21.length k23, false), some (.pointer (some ⟨b18, 2, none⟩), true), some (.slice A2 x1.Columns.length k3, true), some (.slice A9 x8.length k10, true), some (.int .i64 x24, true), some (.pointer (some (eA A9 (Int.toNat x24 * 1))), true), some (.int .i64 (gi (0 : Int) x8 x24), true), some (.pointer (some (eA A2 (Int.toNat (gi (0 : Int) x8 x24) * 7))), true), some (.pointer (some (eA A2 (Int.toNat (gi (0 : Int) x8 x24) * 7 + 1))), true), some ((y11 x1 x8 x24), false), some ((y10 x2602 A2603 k2604), false), some ((y10 x2602 A2603 k2604), true), some ((y1 x2602), true), some (.slice A2603 x2602.2.1.length k2604, true), some (.bool x2602.2.2, true), none, none, none, none], [sl .ro ku8 A2603 k2604 x2602.2.1, sl .ro ku8 A22 k23 x21, (y4 A2 k3 x1), (y8 A4 k5 x1), (y5 A6 k7 x1), sl m11 ki64 A9 k10 x8, sl .ro ku8 A13 k14 x12, sl .own kapi_Value A16 k17 x19, (y9 x19 x15), blk b18 (y0 x1 A2 k3 A4 k5 A6 k7)], rfl, (by repeat first | exact kx0 | apply kxs | apply kxn), rfl, ?_, T, S⟩
    refine stage (some 15) rfl rfl ⟨⟨_, _, rfl, (avl [4] rfl), fun _ _ _ T S => r_fa (o' := 2) T rfl Tryd.runUnderlying26 rfl Tryd.sizeOf22 rfl rfl fun _ T => ⟨rfl, T⟩⟩, ⟨_, _, rfl, (avl [22] rfl), fun _ _ _ T S => r_ldB (ix := 9) T S rfl Tryd.isAgg22 rfl rfl rfl fun _ T => ⟨rfl, T⟩⟩, ⟨_, _, rfl, (avl [1] rfl), fun _ _ _ T S => r_pv T rfl rfl fun _ T => ⟨rfl, T⟩⟩, ⟨_, _, rfl, (avl [10] rfl), fun _ _ _ T S => r_pv T rfl rfl fun _ T => ⟨rfl, T⟩⟩, ⟨_, _, rfl, (avl [24, 25] rfl), fun _ _ _ T S => r_ia (ix := 5) T S rfl rfl rfl rfl Tryd.runUnderlying23 Tryd.sizeOf3 h2301.1 h2301.2 rfl fun _ T => ⟨rfl, T⟩⟩, ⟨_, _, rfl, (avl [26] rfl), fun _ _ _ T S => r_ldE (ix := 5) (i := x24) (off := 0) (f := (Value.int .i64)) T S rfl Tryd.isAgg3 rfl (0 : Int) _ rfl rfl (Fld.all _) h2301.1 h2301.2 (fun h => h) rfl fun _ T => ⟨rfl, T⟩⟩, ⟨_, _, rfl, (avl [23, 27] rfl), fun _ _ _ T S => r_ia (ix := 2) T S rfl rfl rfl rfl Tryd.runUnderlying22 Tryd.sizeOf72 h2421.1 h2421.2 rfl fun _ T => ⟨rfl, T⟩⟩, ⟨_, _, rfl, (avl [28] rfl), fun _ _ _ T S => r_faE T rfl Tryd.runUnderlying72 rfl Tryd.sizeOf3 rfl fun _ T => ⟨rfl, T⟩⟩, ⟨_, _, rfl, (avl [31] rfl), fun _ _ _ T S => r_pv T rfl rfl fun _ T => ⟨rfl, T⟩⟩, ⟨_, _, rfl, (avl [20] rfl), fun _ _ _ T S => r_pv T rfl rfl fun _ T => ⟨rfl, T⟩⟩, ⟨_, _, rfl, (avl [20] rfl), fun _ _ _ T S => r_pv T rfl rfl fun _ T => ⟨rfl, T⟩⟩, ⟨_, _, rfl, (avl [20] rfl), fun _ _ _ T S => r_pv T rfl rfl fun _ T => ⟨rfl, T⟩⟩, trivial⟩ rfl (fun i hi => ?_) (fun h => by cases h)
    cases hi
    refine ⟨rfl, _, [], rfl, trivial, fun u a w T S => ?_⟩
    refine r_alloc T S zv43 (cs := (y6)) rfl rfl fun _ _ b2901 S T => ?_
    refine ⟨_, (y3 A22 x21 k23 b18 A2 x1 k3 A9 x8 k10 x24 x2602 A2603 k2604 b2901), [blk b2901 (y6), sl .ro ku8 A2603 k2604 x2602.2.1, sl .ro ku8 A22 k23 x21, (y4 A2 k3 x1), (y8 A4 k5 x1), (y5 A6 k7 x1), sl m11 ki64 A9 k10 x8, sl .ro ku8 A13 k14 x12, sl .own kapi_Value A16 k17 x19, (y9 x19 x15), blk b18 (y0 x1 A2 k3 A4 k5 A6 k7)], rfl, (by repeat first | exact kx0 | apply kxs | apply kxn), rfl, ?_, T, S⟩
    refine stage (some 16) rfl rfl ⟨⟨_, _, rfl, (avl [4] rfl), fun _ _ _ T S => r_fa (o' := 2) T rfl Tryd.runUnderlying26 rfl Tryd.sizeOf22 rfl rfl fun _ T => ⟨rfl, T⟩⟩, ⟨_, _, rfl, (avl [22] rfl), fun _ _ _ T S => r_ldB (ix := 10) T S rfl Tryd.isAgg22 rfl rfl rfl fun _ T => ⟨rfl, T⟩⟩, ⟨_, _, rfl, (avl [1] rfl), fun _ _ _ T S => r_pv T rfl rfl fun _ T => ⟨rfl, T⟩⟩, ⟨_, _, rfl, (avl [10] rfl), fun _ _ _ T S => r_pv T rfl rfl fun _ T => ⟨rfl, T⟩⟩, ⟨_, _, rfl, (avl [24, 25] rfl), fun _ _ _ T S => r_ia (ix := 6) T S rfl rfl rfl rfl Tryd.runUnderlying23 Tryd.sizeOf3 h2301.1 h2301.2 rfl fun _ T => ⟨rfl, T⟩⟩, ⟨_, _, rfl, (avl [26] rfl), fun _ _ _ T S => r_ldE (ix := 6) (i := x24) (off := 0) (f := (Value.int .i64)) T S rfl Tryd.isAgg3 rfl (0 : Int) _ rfl rfl (Fld.all _) h2301.1 h2301.2 (fun h => h) rfl fun _ T => ⟨rfl, T⟩⟩, ⟨_, _, rfl, (avl [23, 27] rfl), fun _ _ _ T S => r_ia (ix := 3) T S rfl rfl rfl rfl Tryd.runUnderlying22 Tryd.sizeOf72 h2421.1 h2421.2 rfl fun _ T => ⟨rfl, T⟩⟩, ⟨_, _, rfl, (avl [28] rfl), fun _ _ _ T S => r_faE T rfl Tryd.runUnderlying72 rfl Tryd.sizeOf3 rfl fun _ T => ⟨rfl, T⟩⟩, ⟨_, _, rfl, (avl [31] rfl), fun _ _ _ T S => r_pv T rfl rfl fun _ T => ⟨rfl, T⟩⟩, ⟨_, _, rfl, (avl [20] rfl), fun _ _ _ T S => r_pv T rfl rfl fun _ T => ⟨rfl, T⟩⟩, ⟨_, _, rfl, (avl [20] rfl), fun _ _ _ T S => r_pv T rfl rfl fun _ T => ⟨rfl, T⟩⟩, ⟨_, _, rfl, (avl [20] rfl), fun _ _ _ T S => r_pv T rfl rfl fun _ T => ⟨rfl, T⟩⟩, trivial⟩ rfl (fun i hi => ?_) (fun h => by cases h)
    cases hi
    refine ⟨rfl, _, _, rfl, (avl [11, 32] rfl), fun u a w T S => ?_⟩
    refine r_stBA (ix := 0) (vs := (y2 x2602)) (l' := [blk b2901 (y2 x2602), sl .ro ku8 A2603 k2604 x2602.2.1, sl .ro ku8 A22 k23 x21, (y4 A2 k3 x1), (y8 A4 k5 x1), (y5 A6 k7 x1), sl m11 ki64 A9 k10 x8, sl .ro ku8 A13 k14 x12, sl .own kapi_Value A16 k17 x19, (y9 x19 x15), blk b18 (y0 x1 A2 k3 A4 k5 A6 k7)]) T S rfl rfl rfl rfl (by simp) Tryd.sizeOf43 (Nat.le_of_ble_eq_true rfl) rfl fun _ S => ?_
    refine ⟨_, [some (.slice A22 x21.length k23, false), some (.pointer (some ⟨b18, 2, none⟩), false), some (.slice A2 x1.Columns.length k3, false), some (.slice A9 x8.length k10, false), some (.int .i64 x24, false), some (.pointer (some (eA A9 (Int.toNat x24 * 1))), false), some (.int .i64 (gi (0 : Int) x8 x24), false), some (.pointer (some (eA A2 (Int.toNat (gi (0 : Int) x8 x24) * 7))), false), some (.pointer (some (eA A2 (Int.toNat (gi (0 : Int) x8 x24) * 7 + 1))), false), some ((y11 x1 x8 x24), false), some ((y10 x2602 A2603 k2604), false), some ((y10 x2602 A2603 k2604), false), some ((y1 x2602), false), some (.slice A2603 x2602.2.1.length k2604, true), some (.bool x2602.2.2, true), some (.pointer (some ⟨b2901, 0, none⟩), false), some (undef, false), some (.slice A2603 x2602.2.1.length k2604, true), some (.bool x2602.2.2, true)], [blk b2901 (y2 x2602), sl .ro ku8 A2603 k2604 x2602.2.1, sl .ro ku8 A22 k23 x21, (y4 A2 k3 x1), (y8 A4 k5 x1), (y5 A6 k7 x1), sl m11 ki64 A9 k10 x8, sl .ro ku8 A13 k14 x12, sl .own kapi_Value A16 k17 x19, (y9 x19 x15), blk b18 (y0 x1 A2 k3 A4 k5 A6 k7)], rfl, (by repeat first | exact kx0 | apply kxs | apply kxn), rfl, ?_, T, S⟩
    refine stage none rfl rfl ⟨⟨_, _, rfl, (avl [20] rfl), fun _ _ _ T S => r_pv T rfl rfl fun _ T => ⟨rfl, T⟩⟩, ⟨_, _, rfl, (avl [20] rfl), fun _ _ _ T S => r_pv T rfl rfl fun _ T => ⟨rfl, T⟩⟩, ⟨_, _, rfl, (avl [33] rfl), fun _ _ _ T S => r_pv T rfl rfl fun _ T => ⟨rfl, T⟩⟩, ⟨_, _, rfl, (avl [34] rfl), fun _ _ _ T S => r_pv T rfl rfl fun _ T => ⟨rfl, T⟩⟩, trivial⟩ rfl (fun i hi => by cases hi) (fun _ _ a w T hv hb S => ?_)
    replace T := T.sub (r := [(1, .slice A9 x8.length k10), (3, .slice A16 x15.length k17), (4, .pointer (some ⟨b18, 0, none⟩)), (10, .int .i64 x24), (11, .pointer (some ⟨b2901, 0, none⟩)), (12, .slice A2603 x2602.2.1.length k2604), (13, .bool x2602.2.2)]) ⟨hb 1 _ rfl rfl, hb 3 _ rfl rfl, hb 4 _ rfl rfl, hb 10 _ rfl rfl, hv 15 _ 11 rfl rfl rfl, hv 17 _ 12 rfl rfl rfl, hv 18 _ 13 rfl rfl rfl, trivial⟩
    refine Gets.seq (Gets.seq ?_)
    replace S := SL.prf h20 S
    exact J1_ok F r z x1 A2 k3 A4 k5 A6 k7 x8 A9 k10 m11 x12 A13 k14 x15 A16 k17 b18 x24 b2901 A2603 x2602 k2604 (L0 z x1 x8 m) ih x19 _ _ (T.sub ⟨rfl, rfl, rfl, rfl, rfl, rfl, rfl, trivial⟩) (S.only (p := [(y4 A2 k3 x1), (y8 A4 k5 x1), (y5 A6 k7 x1), sl m11 ki64 A9 k10 x8, sl .ro ku8 A13 k14 x12, sl .own kapi_Value A16 k17 x19, (y9 x19 x15), blk b18 (y0 x1 A2 k3 A4 k5 A6 k7), blk b2901 (y2 x2602), sl .ro ku8 A2603 k2604 x2602.2.1]) [4, 4, 4, 4, 4, 4, 0, 4, 0, 0] rfl) H
   ·refine ⟨rfl, _, [], rfl, trivial, fun u a w T S => ?_⟩
    refine r_alloc T S zv43 (cs := (y6)) rfl rfl fun _ _ b2901 S T => ?_
    refine ⟨_, [some (.slice A22 x21.length k23, true), some (.pointer (some ⟨b18, 2, none⟩), true), some (.slice A2 x1.Columns.length k3, true), some (.slice A9 x8.length k10, true), some (.int .i64 x24, true), some (.pointer (some (eA A9 (Int.toNat x24 * 1))), true), some (.int .i64 (gi (0 : Int) x8 x24), true), some (.pointer (some (eA A2 (Int.toNat (gi (0 : Int) x8 x24) * 7))), true), some (.pointer (some (eA A2 (Int.toNat (gi (0 : Int) x8 x24) * 7 + 1))), true), some ((y11 x1 x8 x24), true), none, none, none, none, none, some (.pointer (some ⟨b2901, 0, none⟩), false), none, none, none], [blk b2901 (y6), (y4 A2 k3 x1), (y8 A4 k5 x1), (y5 A6 k7 x1), sl m11 ki64 A9 k10 x8, sl .ro ku8 A13 k14 x12, sl .own kapi_Value A16 k17 x19, (y9 x19 x15), sl .ro ku8 A22 k23 x21, blk b18 (y0 x1 A2 k3 A4 k5 A6 k7)], rfl, (by repeat first | exact kx0 | apply kxs | apply kxn), rfl, ?_, T, S⟩
    refine stage (some 10) rfl rfl ⟨⟨_, _, rfl, (avl [2] rfl), fun _ _ _ T S => r_pv T rfl rfl fun _ T => ⟨rfl, T⟩⟩, ⟨_, _, rfl, (avl [4] rfl), fun _ _ _ T S => r_fa (o' := 2) T rfl Tryd.runUnderlying26 rfl Tryd.sizeOf22 rfl rfl fun _ T => ⟨rfl, T⟩⟩, ⟨_, _, rfl, (avl [22] rfl), fun _ _ _ T S => r_ldB (ix := 9) T S rfl Tryd.isAgg22 rfl rfl rfl fun _ T => ⟨rfl, T⟩⟩, ⟨_, _, rfl, (avl [1] rfl), fun _ _ _ T S => r_pv T rfl rfl fun _ T => ⟨rfl, T⟩⟩, ⟨_, _, rfl, (avl [10] rfl), fun _ _ _ T S => r_pv T rfl rfl fun _ T => ⟨rfl, T⟩⟩, ⟨_, _, rfl, (avl [24, 25] rfl), fun _ _ _ T S => r_ia (ix := 4) T S rfl rfl rfl rfl Tryd.runUnderlying23 Tryd.sizeOf3 h2301.1 h2301.2 rfl fun _ T => ⟨rfl, T⟩⟩, ⟨_, _, rfl, (avl [26] rfl), fun _ _ _ T S => r_ldE (ix := 4) (i := x24) (off := 0) (f := (Value.int .i64)) T S rfl Tryd.isAgg3 rfl (0 : Int) _ rfl rfl (Fld.all _) h2301.1 h2301.2 (fun h => h) rfl fun _ T => ⟨rfl, T⟩⟩, ⟨_, _, rfl, (avl [23, 27] rfl), fun _ _ _ T S => r_ia (ix := 1) T S rfl rfl rfl rfl Tryd.runUnderlying22 Tryd.sizeOf72 h2421.1 h2421.2 rfl fun _ T => ⟨rfl, T⟩⟩, ⟨_, _, rfl, (avl [28] rfl), fun _ _ _ T S => r_faE T rfl Tryd.runUnderlying72 rfl Tryd.sizeOf3 rfl fun _ T => ⟨rfl, T⟩⟩, ⟨_, _, rfl, (avl [29] rfl), fun _ _ _ T S => r_ldE (ix := 1) (i := gi (0 : Int) x8 x24) (off := 1) (f := (Value.int .i64)) T S rfl Tryd.isAgg3 rfl dapi_Column _ rfl rfl fld_api_Column_Type' h2421.1 h2421.2 (fun h => h) rfl fun _ T => ⟨rfl, T⟩⟩, trivial⟩ rfl (fun i hi => ?_) (fun h => by cases h)
    cases hi
    refine ⟨rfl, _, _, rfl, (avl [21, 30] rfl), fun u a w T S => ?_⟩
    obtain ⟨x2602, h2601, H⟩ := bd H
    refine r_call T Tryd.call64 rfl rfl (cormorantref20_takeKey.ok _ _ z x21 ((gi dapi_Column x1.Columns (gi (0 : Int) x8 x24)).Type') (S.sel (p := [sl .ro ku8 A22 k23 x21]) (is := [8]) rfl) _ h2601) ?_
    rintro _ _ ⟨A2603, k2604, rfl, S⟩
    refine ⟨_, rfl, fun _ T => ?_⟩
    replace S : SL ([sl .ro ku8 A2603 k2604 x2602.2.1, sl .ro ku8 A22 k23 x21, blk b2901 (y6), (y4 A2 k3 x1), (y8 A4 k5 x1), (y5 A6 k7 x1), sl m11 ki64 A9 k10 x8, sl .ro ku8 A13 k14 x12, sl .own kapi_Value A16 k17 x19, (y9 x19 x15), blk b18 (y0 x1 A2 k3 A4 k5 A6 k7)] ++ F) _ := S.join
    refine ⟨_, (y3 A22 x21 k23 b18 A2 x1 k3 A9 x8 k10 x24 x2602 A2603 k2604 b2901), [sl .ro ku8 A2603 k2604 x2602.2.1, sl .ro ku8 A22 k23 x21, blk b2901 (y6), (y4 A2 k3 x1), (y8 A4 k5 x1), (y5 A6 k7 x1), sl m11 ki64 A9 k10 x8, sl .ro ku8 A13 k14 x12, sl .own kapi_Value A16 k17 x19, (y9 x19 x15), blk b18 (y0 x1 A2 k3 A4 k5 A6 k7)], rfl, (by repeat first | exact kx0 | apply kxs | apply kxn), rfl, ?_, T, S⟩
    refine stage (some 16) rfl rfl ⟨⟨_, _, rfl, (avl [4] rfl), fun _ _ _ T S => r_fa (o' := 2) T rfl Tryd.runUnderlying26 rfl Tryd.sizeOf22 rfl rfl fun _ T => ⟨rfl, T⟩⟩, ⟨_, _, rfl, (avl [22] rfl), fun _ _ _ T S => r_ldB (ix := 10) T S rfl Tryd.isAgg22 rfl rfl rfl fun _ T => ⟨rfl, T⟩⟩, ⟨_, _, rfl, (avl [1] rfl), fun _ _ _ T S => r_pv T rfl rfl fun _ T => ⟨rfl, T⟩⟩, ⟨_, _, rfl, (avl [10] rfl), fun _ _ _ T S => r_pv T rfl rfl fun _ T => ⟨rfl, T⟩⟩, ⟨_, _, rfl, (avl [24, 25] rfl), fun _ _ _ T S => r_ia (ix := 6) T S rfl rfl rfl rfl Tryd.runUnderlying23 Tryd.sizeOf3 h2301.1 h2301.2 rfl fun _ T => ⟨rfl, T⟩⟩, ⟨_, _, rfl, (avl [26] rfl), fun _ _ _ T S => r_ldE (ix := 6) (i := x24) (off := 0) (f := (Value.int .i64)) T S rfl Tryd.isAgg3 rfl (0 : Int) _ rfl rfl (Fld.all _) h2301.1 h2301.2 (fun h => h) rfl fun _ T => ⟨rfl, T⟩⟩, ⟨_, _, rfl, (avl [23, 27] rfl), fun _ _ _ T S => r_ia (ix := 3) T S rfl rfl rfl rfl Tryd.runUnderlying22 Tryd.sizeOf72 h2421.1 h2421.2 rfl fun _ T => ⟨rfl, T⟩⟩, ⟨_, _, rfl, (avl [28] rfl), fun _ _ _ T S => r_faE T rfl Tryd.runUnderlying72 rfl Tryd.sizeOf3 rfl fun _ T => ⟨rfl, T⟩⟩, ⟨_, _, rfl, (avl [31] rfl), fun _ _ _ T S => r_pv T rfl rfl fun _ T => ⟨rfl, T⟩⟩, ⟨_, _, rfl, (avl [20] rfl), fun _ _ _ T S => r_pv T rfl rfl fun _ T => ⟨rfl, T⟩⟩, ⟨_, _, rfl, (avl [20] rfl), fun _ _ _ T S => r_pv T rfl rfl fun _ T => ⟨rfl, T⟩⟩, ⟨_, _, rfl, (avl [20] rfl), fun _ _ _ T S => r_pv T rfl rfl fun _ T => ⟨rfl, T⟩⟩, trivial⟩ rfl (fun i hi => ?_) (fun h => by cases h)
    cases hi
    refine ⟨rfl, _, _, rfl, (avl [11, 32] rfl), fun u a w T S => ?_⟩
    refine r_stBA (ix := 2) (vs := (y2 x2602)) (l' := [sl .ro ku8 A2603 k2604 x2602.2.1, sl .ro ku8 A22 k23 x21, blk b2901 (y2 x2602), (y4 A2 k3 x1), (y8 A4 k5 x1), (y5 A6 k7 x1), sl m11 ki64 A9 k10 x8, sl .ro ku8 A13 k14 x12, sl .own kapi_Value A16 k17 x19, (y9 x19 x15), blk b18 (y0 x1 A2 k3 A4 k5 A6 k7)]) T S rfl rfl rfl rfl (by simp) Tryd.sizeOf43 (Nat.le_of_ble_eq_true rfl) rfl fun _ S => ?_
    refine ⟨_, [some (.slice A22 x21.length k23, false), some (.pointer (some ⟨b18, 2, none⟩), false), some (.slice A2 x1.Columns.length k3, false), some (.slice A9 x8.length k10, false), some (.int .i64 x24, false), some (.pointer (some (eA A9 (Int.toNat x24 * 1))), false), some (.int .i64 (gi (0 : Int) x8 x24), false), some (.pointer (some (eA A2 (Int.toNat (gi (0 : Int) x8 x24) * 7))), false), some (.pointer (some (eA A2 (Int.toNat (gi (0 : Int) x8 x24) * 7 + 1))), false), some ((y11 x1 x8 x24), false), some ((y10 x2602 A2603 k2604), false), some ((y10 x2602 A2603 k2604), false), some ((y1 x2602), false), some (.slice A2603 x2602.2.1.length k2604, true), some (.bool x2602.2.2, true), some (.pointer (some ⟨b2901, 0, none⟩), false), some (undef, false), some (.slice A2603 x2602.2.1.length k2604, true), some (.bool x2602.2.2, true)], [sl .ro ku8 A2603 k2604 x2602.2.1, sl .ro ku8 A22 k23 x21, blk b2901 (y2 x2602), (y4 A2 k3 x1), (y8 A4 k5 x1), (y5 A6 k7 x1), sl m11 ki64 A9 k10 x8, sl .ro ku8 A13 k14 x12, sl .own kapi_Value A16 k17 x19, (y9 x19 x15), blk b18 (y0 x1 A2 k3 A4 k5 A6 k7)], rfl, (by repeat first | exact kx0 | apply kxs | apply kxn), rfl, ?_, T, S⟩
    refine stage none rfl rfl ⟨⟨_, _, rfl, (avl [20] rfl), fun _ _ _ T S => r_pv T rfl rfl fun _ T => ⟨rfl, T⟩⟩, ⟨_, _, rfl, (avl [20] rfl), fun _ _ _ T S => r_pv T rfl rfl fun _ T => ⟨rfl, T⟩⟩, ⟨_, _, rfl, (avl [33] rfl), fun _ _ _ T S => r_pv T rfl rfl fun _ T => ⟨rfl, T⟩⟩, ⟨_, _, rfl, (avl [34] rfl), fun _ _ _ T S => r_pv T rfl rfl fun _ T => ⟨rfl, T⟩⟩, trivial⟩ rfl (fun i hi => by cases hi) (fun _ _ a w T hv hb S => ?_)
    replace T := T.sub (r := [(1, .slice A9 x8.length k10), (3, .slice A16 x15.length k17), (4, .pointer (some ⟨b18, 0, none⟩)), (10, .int .i64 x24), (11, .pointer (some ⟨b2901, 0, none⟩)), (12, .slice A2603 x2602.2.1.length k2604), (13, .bool x2602.2.2)]) ⟨hb 1 _ rfl rfl, hb 3 _ rfl rfl, hb 4 _ rfl rfl, hb 10 _ rfl rfl, hv 15 _ 11 rfl rfl rfl, hv 17 _ 12 rfl rfl rfl, hv 18 _ 13 rfl rfl rfl, trivial⟩
    refine Gets.seq (Gets.seq ?_)
    replace S := SL.prf h20 S
    exact J1_ok F r z x1 A2 k3 A4 k5 A6 k7 x8 A9 k10 m11 x12 A13 k14 x15 A16 k17 b18 x24 b2901 A2603 x2602 k2604 (L0 z x1 x8 m) ih x19 _ _ (T.sub ⟨rfl, rfl, rfl, rfl, rfl, rfl, rfl, trivial⟩) (S.only (p := [(y4 A2 k3 x1), (y8 A4 k5 x1), (y5 A6 k7 x1), sl m11 ki64 A9 k10 x8, sl .ro ku8 A13 k14 x12, sl .own kapi_Value A16 k17 x19, (y9 x19 x15), blk b18 (y0 x1 A2 k3 A4 k5 A6 k7), blk b2901 (y2 x2602), sl .ro ku8 A2603 k2604 x2602.2.1]) [4, 4, 4, 4, 4, 4, 0, 4, 2, 0] rfl) H
  ·refine cdF T rfl h25 ?_
   refine Gets.exit rfl (Gets.seq ?_)
   refine rg (r_pv T rfl rfl fun _ T => r_pv T rfl rfl fun _ T => r_pv T rfl rfl fun _ T => ?_)
   replace S := SL.prf h20 S
   replace H := Option.some.inj H
   subst H
   exact rtn T Tryd.func35 rfl rfl ⟨A22, k23, rfl, (S.only (p := [sl .ro ku8 A22 k23 x21, (y4 A2 k3 x1), (y8 A4 k5 x1), (y5 A6 k7 x1), sl m11 ki64 A9 k10 x8, sl .ro ku8 A13 k14 x12, sl .own kapi_Value A16 k17 x19, (y9 x19 x15)]) [8, 1, 1, 1, 1, 1, 1, 0] rfl)⟩
theorem ok (F : List Atom) (w : World) (z : Nat) (x1 : api_Table) (x8 x12 : List Int) (x15 : List api_Value) {A2 : OA} {k3 : Nat} {A4 : OA} {k5 : Nat} {A6 : OA} {k7 : Nat} {A9 : OA} {k10 : Nat} {m11 : Md} {A13 : OA} {k14 : Nat} {A16 : OA} {k17 : Nat} (S : SL ([(y4 A2 k3 x1), (y8 A4 k5 x1), (y5 A6 k7 x1), sl m11 ki64 A9 k10 x8, sl .ro ku8 A13 k14 x12, sl .own kapi_Value A16 k17 x15] ++ F) w) (r : (List Int) × Bool × (List api_Value)) (H : f z x1 x8 x12 x15 = some r) : Calls Tryd.prog 35 #[.agg #[.int .i64 x1.Id, .string x1.Name, .slice A2 x1.Columns.length k3, .slice A4 x1.Key.length k5, .slice A6 x1.Indexes.length k7], .slice A9 x8.length k10, .slice A13 x12.length k14, .slice A16 x15.length k17] w (R F x1 A2 k3 A4 k5 A6 k7 x8 A9 k10 m11 x12 A13 k14 x15 A16 k17 r) := by
 refine enter (vs := [.agg #[.int .i64 x1.Id, .string x1.Name, .slice A2 x1.Columns.length k3, .slice A4 x1.Key.length k5, .slice A6 x1.Indexes.length k7], .slice A9 x8.length k10, .slice A13 x12.length k14, .slice A16 x15.length k17]) Tryd.func35 rfl Tryd.ntmps35 (Nat.le_of_ble_eq_true rfl) fun a T => ?_
 have pinA16 : x15.length = x15.length := rfl
 refine Gets.seq (rg (r_box T S rfl (cs := (y0 x1 A2 k3 A4 k5 A6 k7)) rfl rfl fun _ _ b18 S T => r_pv T rfl rfl fun _ T => ?_))
 refine r_pv T rfl rfl fun _ T => ?_
 refine Gets.seq (Gets.seq ?_)
 refine rg (r_pv T rfl rfl fun _ T => Gets.block (Gets.loop ?_))
 replace S := SL.prf pinA16 S
 replace S := S.dup (i := 6) rfl
 exact L0_ok F r z x1 A2 k3 A4 k5 A6 k7 x8 A9 k10 m11 x12 A13 k14 x15 A16 k17 b18 z A13 x12 k14 0 x15 _ _ (T.sub ⟨rfl, rfl, rfl, rfl, rfl, trivial⟩) (S.only (p := [(y4 A2 k3 x1), (y8 A4 k5 x1), (y5 A6 k7 x1), sl m11 ki64 A9 k10 x8, sl .ro ku8 A13 k14 x12, sl .own kapi_Value A16 k17 x15, pr (x15.length = x15.length), sl .ro ku8 A13 k14 x12, blk b18 (y0 x1 A2 k3 A4 k5 A6 k7)]) [3, 3, 3, 3, 3, 3, 1, 0, 0] rfl) H
end cormorantref20_taken
end Go.Proofs.YtohelmfkpmphoaaDoor
namespace Go.Proofs.YtohelmfkpmphoaaDoor
open Go Go.Proofs.YtohelmfkpmphoaaDoor.X
set_option linter.unusedVariables false
set_option linter.unusedSimpArgs false
set_option maxRecDepth 100000
set_option maxHeartbeats 4000000
namespace cormorantref18_reader_byte
def R (F : List Atom) (b2 : Nat) (r : Int × cormorantref18_reader) : Ending → World → Prop := fun e w' => ∃ (A11 : OA), ∃ (k12 : Nat), e = .returned (.int .u8 r.1) ∧ SL ([blk b2 [.slice A11 r.2.b.length k12, .bool r.2.bad], sl .ro ku8 A11 k12 r.2.b] ++ F) w'
def f (x1 : cormorantref18_reader) : Option (Int × cormorantref18_reader) := If ((x1.b.length : Int) == 0) (some (0, (cormorantref18_reader.mk x1.b true))) (Ck (0 < (x1.b.length : Int)) (Ck (1 ≤ (x1.b.length : Int)) (some (gi (0 : Int) x1.b 0, (cormorantref18_reader.mk (cut x1.b (Int.toNat 1) (Int.toNat (x1.b.length : Int))) x1.bad)))))
theorem ok (F : List Atom) (w : World) (x1 : cormorantref18_reader) {b2 : Nat} {A3 : OA} {k4 : Nat} (S : SL ([blk b2 [.slice A3 x1.b.length k4, .bool x1.bad], sl .ro ku8 A3 k4 x1.b] ++ F) w) (r : Int × cormorantref18_reader) (H : f x1 = some r) : Calls Tryd.prog 77 #[.pointer (some ⟨b2, 0, none⟩)] w (R F b2 r) := by
 refine enter (vs := [.pointer (some ⟨b2, 0, none⟩)]) Tryd.func77 rfl Tryd.ntmps77 (Nat.le_of_ble_eq_true rfl) fun a T => ?_
 refine Gets.seq (rg (r_pv T rfl rfl fun _ T => ?_))
 refine Gets.seq (Gets.seq ?_)
 refine rg (r_pv T rfl rfl fun _ T => r_pv T rfl rfl fun _ T => r_fa (o' := 0) T rfl Tryd.runUnderlying106 rfl Tryd.sizeOf29 rfl rfl fun _ T => ?_)
 refine r_ldB (ix := 0) T S rfl Tryd.isAgg29 rfl rfl rfl fun _ T => r_lenS T rfl Tryd.runUnderlying29 rfl fun _ T => r_pv T rfl rfl fun _ T => ?_
 rcases ifE H with ⟨h5, H⟩ | ⟨h5, H⟩
 ·refine cdT T rfl h5 ?_
  refine Gets.seq (rg (r_pv T rfl rfl fun _ T => r_pv T rfl rfl fun _ T => ?_))
  refine r_fa (o' := 1) T rfl Tryd.runUnderlying106 rfl Tryd.sizeOf4 rfl rfl fun _ T => r_stB (ix := 0) (l' := [blk b2 [.slice A3 x1.b.length k4, .bool true], sl .ro ku8 A3 k4 x1.b]) T S rfl rfl rfl Tryd.sizeOf4 rfl (Nat.le_of_ble_eq_true rfl) rfl fun _ S => Gets.seq (rg ?_)
  refine r_pv T rfl rfl fun _ T => ?_
  replace H := Option.some.inj H
  subst H
  exact rtn T Tryd.func77 rfl rfl ⟨A3, k4, rfl, (S.only (p := [blk b2 [.slice A3 x1.b.length k4, .bool true], sl .ro ku8 A3 k4 x1.b]) [0, 0] rfl)⟩
 ·refine cdF T rfl h5 ?_
  refine Gets.skip (Gets.seq ?_)
  refine rg (r_pv T rfl rfl fun _ T => r_pv T rfl rfl fun _ T => r_fa (o' := 0) T rfl Tryd.runUnderlying106 rfl Tryd.sizeOf29 rfl rfl fun _ T => ?_)
  refine r_ldB (ix := 0) T S rfl Tryd.isAgg29 rfl rfl rfl fun _ T => ?_
  obtain ⟨h6, H⟩ := ck H
  refine r_ia (ix := 1) T S rfl rfl rfl rfl Tryd.runUnderlying29 Tryd.sizeOf5 (by decide) h6 rfl fun _ T => ?_
  refine r_ldE (ix := 1) (i := 0) (off := 0) (f := (Value.int .u8)) T S rfl Tryd.isAgg5 rfl (0 : Int) _ rfl rfl (Fld.all _) (by decide) h6 (fun h => h) rfl fun _ T => ?_
  refine r_pv T rfl rfl fun _ T => Gets.seq (rg (r_pv T rfl rfl fun _ T => ?_))
  refine r_pv T rfl rfl fun _ T => r_pv T rfl rfl fun _ T => r_fa (o' := 0) T rfl Tryd.runUnderlying106 rfl Tryd.sizeOf29 rfl rfl fun _ T => r_ldB (ix := 0) T S rfl Tryd.isAgg29 rfl rfl rfl fun _ T => ?_
  have h7 := S.len (i := 1) rfl
  obtain ⟨h8, H⟩ := ck H
  refine r_slR (ix := 1) (xs := x1.b) T S rfl rfl (fun h => by cases h) rfl rfl rfl (by decide) h8 (Int.le_refl _) (by omega) (by omega) Tryd.runUnderlying29 Tryd.sizeOf5 rfl fun _ A9 S T => ?_
  refine r_pv T rfl rfl fun _ T => r_fa (o' := 0) T rfl Tryd.runUnderlying106 rfl Tryd.sizeOf29 rfl rfl fun _ T => r_stB (ix := 1) (l' := [sl .ro ku8 A9 (Int.toNat (k4 : Int) - Int.toNat 1) (cut x1.b (Int.toNat 1) (Int.toNat (x1.b.length : Int))), blk b2 [.slice A9 ((cut x1.b (Int.toNat 1) (Int.toNat (x1.b.length : Int))).length) (Int.toNat (k4 : Int) - Int.toNat 1), .bool x1.bad], sl .ro ku8 A3 k4 x1.b]) T S rfl rfl rfl Tryd.sizeOf29 rfl (Nat.le_of_ble_eq_true rfl) rfl fun _ S => Gets.seq ?_
  refine rg (r_pv T rfl rfl fun _ T => r_pv T rfl rfl fun _ T => ?_)
  replace H := Option.some.inj H
  subst H
  exact rtn T Tryd.func77 rfl rfl ⟨A9, (Int.toNat (k4 : Int) - Int.toNat 1), rfl, (S.only (p := [blk b2 [.slice A9 ((cut x1.b (Int.toNat 1) (Int.toNat (x1.b.length : Int))).length) (Int.toNat (k4 : Int) - Int.toNat 1), .bool x1.bad], sl .ro ku8 A9 (Int.toNat (k4 : Int) - Int.toNat 1) (cut x1.b (Int.toNat 1) (Int.toNat (x1.b.length : Int)))]) [1, 0] rfl)⟩
end cormorantref18_reader_byte
end Go.Proofs.YtohelmfkpmphoaaDoor
namespace Go.Proofs.YtohelmfkpmphoaaDoor
open Go Go.Proofs.YtohelmfkpmphoaaDoor.X
set_option linter.unusedVariables false
set_option linter.unusedSimpArgs false
set_option maxRecDepth 100000
set_option maxHeartbeats 4000000
namespace cormorantref18_reader_went
def R (F : List Atom) (b2 : Nat) (r : cormorantref18_reader) : Ending → World → Prop := fun e w' => ∃ (A12 : OA), ∃ (k13 : Nat), e = .returned (.tuple #[]) ∧ SL ([blk b2 [.slice A12 r.b.length k13, .bool r.bad], sl .ro ku8 A12 k13 r.b] ++ F) w'
def f (x1 : cormorantref18_reader) (x5 x6 : Int) : Option cormorantref18_reader := If (x6 != 0) (some (cormorantref18_reader.mk ([] : List Int) true)) (Ck (0 ≤ x5 ∧ x5 ≤ (x1.b.length : Int)) (some (cormorantref18_reader.mk (cut x1.b (Int.toNat x5) (Int.toNat (x1.b.length : Int))) x1.bad)))
theorem ok (F : List Atom) (w : World) (x1 : cormorantref18_reader) (x5 x6 : Int) {b2 : Nat} {A3 : OA} {k4 : Nat} (S : SL ([blk b2 [.slice A3 x1.b.length k4, .bool x1.bad], sl .ro ku8 A3 k4 x1.b] ++ F) w) (r : cormorantref18_reader) (H : f x1 x5 x6 = some r) : Calls Tryd.prog 78 #[.pointer (some ⟨b2, 0, none⟩), .int .i64 x5, .int .i64 x6] w (R F b2 r) := by
 refine enter (vs := [.pointer (some ⟨b2, 0, none⟩), .int .i64 x5, .int .i64 x6]) Tryd.func78 rfl Tryd.ntmps78 (Nat.le_of_ble_eq_true rfl) fun a T => ?_
 refine Gets.seq (Gets.seq ?_)
 refine rg (r_pv T rfl rfl fun _ T => r_pv T rfl rfl fun _ T => ?_)
 rcases ifE H with ⟨h7, H⟩ | ⟨h7, H⟩
 ·refine cdT T rfl h7 ?_
  refine Gets.seq (rg (r_pv T rfl rfl fun _ T => r_pv T rfl rfl fun _ T => ?_))
  refine r_fa (o' := 1) T rfl Tryd.runUnderlying106 rfl Tryd.sizeOf4 rfl rfl fun _ T => r_stB (ix := 0) (l' := [blk b2 [.slice A3 x1.b.length k4, .bool true], sl .ro ku8 A3 k4 x1.b]) T S rfl rfl rfl Tryd.sizeOf4 rfl (Nat.le_of_ble_eq_true rfl) rfl fun _ S => Gets.seq (rg ?_)
  refine r_pv T rfl rfl fun _ T => r_pv T rfl rfl fun _ T => r_fa (o' := 0) T rfl Tryd.runUnderlying106 rfl Tryd.sizeOf29 rfl rfl fun _ T => r_stB (ix := 0) (l' := [blk b2 [.slice none 0 0, .bool true], sl .ro ku8 A3 k4 x1.b]) T S rfl rfl rfl Tryd.sizeOf29 rfl (Nat.le_of_ble_eq_true rfl) rfl fun _ S => ?_
  replace S := S.nil ku8 .ro
  replace S : SL ([sl .ro ku8 none 0 ([] : List Int), blk b2 [.slice none (([] : List Int).length) 0, .bool true], sl .ro ku8 A3 k4 x1.b] ++ F) _ := S.reB (i := 1) rfl (by simp) rfl
  replace H := Option.some.inj H
  subst H
  exact rtn T Tryd.func78 rfl rfl ⟨none, 0, rfl, (S.only (p := [blk b2 [.slice none (([] : List Int).length) 0, .bool true], sl .ro ku8 none 0 ([] : List Int)]) [1, 0] rfl)⟩
 ·refine cdF T rfl h7 ?_
  refine Gets.skip (rg (r_pv T rfl rfl fun _ T => r_pv T rfl rfl fun _ T => ?_))
  refine r_pv T rfl rfl fun _ T => r_fa (o' := 0) T rfl Tryd.runUnderlying106 rfl Tryd.sizeOf29 rfl rfl fun _ T => r_ldB (ix := 0) T S rfl Tryd.isAgg29 rfl rfl rfl fun _ T => r_pv T rfl rfl fun _ T => ?_
  have h8 := S.len (i := 1) rfl
  obtain ⟨h9, H⟩ := ck H
  refine r_slR (ix := 1) (xs := x1.b) T S rfl rfl (fun h => by cases h) rfl rfl rfl h9.1 h9.2 (Int.le_refl _) (by omega) (by omega) Tryd.runUnderlying29 Tryd.sizeOf5 rfl fun _ A10 S T => ?_
  refine r_pv T rfl rfl fun _ T => r_fa (o' := 0) T rfl Tryd.runUnderlying106 rfl Tryd.sizeOf29 rfl rfl fun _ T => r_stB (ix := 1) (l' := [sl .ro ku8 A10 (Int.toNat (k4 : Int) - Int.toNat x5) (cut x1.b (Int.toNat x5) (Int.toNat (x1.b.length : Int))), blk b2 [.slice A10 ((cut x1.b (Int.toNat x5) (Int.toNat (x1.b.length : Int))).length) (Int.toNat (k4 : Int) - Int.toNat x5), .bool x1.bad], sl .ro ku8 A3 k4 x1.b]) T S rfl rfl rfl Tryd.sizeOf29 rfl (Nat.le_of_ble_eq_true rfl) rfl fun _ S => ?_
  replace H := Option.some.inj H
  subst H
  exact rtf T Tryd.func78 rfl rfl ⟨A10, (Int.toNat (k4 : Int) - Int.toNat x5), rfl, (S.only (p := [blk b2 [.slice A10 ((cut x1.b (Int.toNat x5) (Int.toNat (x1.b.length : Int))).length) (Int.toNat (k4 : Int) - Int.toNat x5), .bool x1.bad], sl .ro ku8 A10 (Int.toNat (k4 : Int) - Int.toNat x5) (cut x1.b (Int.toNat x5) (Int.toNat (x1.b.length : Int)))]) [1, 0] rfl)⟩
end cormorantref18_reader_went
end Go.Proofs.YtohelmfkpmphoaaDoor
namespace Go.Proofs.YtohelmfkpmphoaaDoor
open Go Go.Proofs.YtohelmfkpmphoaaDoor.X
set_option linter.unusedVariables false
set_option linter.unusedSimpArgs false
set_option maxRecDepth 100000
set_option maxHeartbeats 4000000
namespace cormorantref18_reader_text
def R (F : List Atom) (b2 : Nat) (r : ByteArray × cormorantref18_reader) : Ending → World → Prop := fun e w' => ∃ (A15 : OA), ∃ (k16 : Nat), e = .returned (.string r.1) ∧ SL ([blk b2 [.slice A15 r.2.b.length k16, .bool r.2.bad], sl .ro ku8 A15 k16 r.2.b] ++ F) w'
def f (z : Nat) (x1 : cormorantref18_reader) : Option (ByteArray × cormorantref18_reader) := Bd (cormorantref01_TakeText.f z x1.b) fun x6 => Bd (cormorantref18_reader_went.f x1 x6.2.1 x6.2.2) fun x10 => some (bstr x6.1, x10)
theorem ok (F : List Atom) (w : World) (z : Nat) (x1 : cormorantref18_reader) {b2 : Nat} {A3 : OA} {k4 : Nat} (S : SL ([blk b2 [.slice A3 x1.b.length k4, .bool x1.bad], sl .ro ku8 A3 k4 x1.b] ++ F) w) (r : ByteArray × cormorantref18_reader) (H : f z x1 = some r) : Calls Tryd.prog 79 #[.pointer (some ⟨b2, 0, none⟩)] w (R F b2 r) := by
 refine enter (vs := [.pointer (some ⟨b2, 0, none⟩)]) Tryd.func79 rfl Tryd.ntmps79 (Nat.le_of_ble_eq_true rfl) fun a T => ?_
 refine Gets.seq (rg (r_pv T rfl rfl fun _ T => Gets.seq ?_))
 refine rg (r_pv T rfl rfl fun _ T => r_pv T rfl rfl fun _ T => r_fa (o' := 0) T rfl Tryd.runUnderlying106 rfl Tryd.sizeOf29 rfl rfl fun _ T => ?_)
 refine r_ldB (ix := 0) T S rfl Tryd.isAgg29 rfl rfl rfl fun _ T => ?_
 obtain ⟨x6, h5, H⟩ := bd H
 refine r_call T Tryd.call84 rfl rfl (cormorantref01_TakeText.ok _ _ z x1.b (S.sel (p := [sl .ro ku8 A3 k4 x1.b]) (is := [1]) rfl) _ h5) ?_
 rintro _ _ ⟨A7, k8, rfl, S⟩
 refine ⟨_, rfl, fun _ T => ?_⟩
 replace S : SL ([sl .own ku8 A7 k8 x6.1, sl .ro ku8 A3 k4 x1.b, blk b2 [.slice A3 x1.b.length k4, .bool x1.bad]] ++ F) _ := S.join
 refine r_pv T rfl rfl fun _ T => r_pv T rfl rfl fun _ T => r_pv T rfl rfl fun _ T => r_pv T rfl rfl fun _ T => ?_
 refine r_pv T rfl rfl fun _ T => r_pv T rfl rfl fun _ T => r_pv T rfl rfl fun _ T => Gets.seq ?_
 refine rg (r_pv T rfl rfl fun _ T => r_pv T rfl rfl fun _ T => r_pv T rfl rfl fun _ T => ?_)
 obtain ⟨x10, h9, H⟩ := bd H
 refine r_call T Tryd.call78 rfl rfl (cormorantref18_reader_went.ok _ _ x1 x6.2.1 x6.2.2 (S.sel (p := [blk b2 [.slice A3 x1.b.length k4, .bool x1.bad], sl .ro ku8 A3 k4 x1.b]) (is := [2, 1]) rfl) _ h9) ?_
 rintro _ _ ⟨A12, k13, rfl, S⟩
 refine ⟨_, rfl, fun _ T => ?_⟩
 replace S : SL ([blk b2 [.slice A12 x10.b.length k13, .bool x10.bad], sl .ro ku8 A12 k13 x10.b, sl .own ku8 A7 k8 x6.1] ++ F) _ := S.join
 refine Gets.seq (rg (r_pv T rfl rfl fun _ T => r_b2s (ix := 2) (xs := x6.1) T S rfl rfl Tryd.runUnderlying29 Tryd.runUnderlying9 Tryd.runUnderlying5 rfl fun _ T => ?_))
 refine r_pv T rfl rfl fun _ T => ?_
 replace H := Option.some.inj H
 subst H
 exact rtn T Tryd.func79 rfl rfl ⟨A12, k13, rfl, (S.only (p := [blk b2 [.slice A12 x10.b.length k13, .bool x10.bad], sl .ro ku8 A12 k13 x10.b]) [0, 0] rfl)⟩
end cormorantref18_reader_text
end Go.Proofs.YtohelmfkpmphoaaDoor
namespace Go.Proofs.YtohelmfkpmphoaaDoor
open Go Go.Proofs.YtohelmfkpmphoaaDoor.X
set_option linter.unusedVariables false
set_option linter.unusedSimpArgs false
set_option maxRecDepth 100000
set_option maxHeartbeats 4000000
namespace cormorantref18_reader_value
noncomputable def c0 : Code := match Tryd.f65.body with | some c => c | none => .skip
def R (F : List Atom) (b2 : Nat) (r : api_Value × cormorantref18_reader) : Ending → World → Prop := fun e w' => ∃ (A41 : OA), ∃ (k42 : Nat), e = .returned (.agg #[.int .i64 r.1.Type', .bool r.1.Null, .int .i64 r.1.Int, .string r.1.Text]) ∧ SL ([blk b2 [.slice A41 r.2.b.length k42, .bool r.2.bad], sl .ro ku8 A41 k42 r.2.b] ++ F) w'
def J0 (z : Nat) (x5 : Int) (x34 : List Int) (x37 : Bool) (x38 : Int) (x39 : ByteArray) : Option (api_Value × cormorantref18_reader) := some ((api_Value.mk x5 false x38 x39), (cormorantref18_reader.mk x34 x37))
def f (z : Nat) (x1 : cormorantref18_reader) (x5 : Int) : Option (api_Value × cormorantref18_reader) := Bd (cormorantref18_reader_byte.f x1) fun x8 => If (x8.1 == 0) (some ((api_Value.mk x5 true 0 (⟨#[]⟩ : ByteArray)), x8.2)) (If (x5 == 1) (Bd (cormorantref01_TakeKeyInt.f z x8.2.b) fun x16 => Bd (cormorantref18_reader_went.f x8.2 x16.2.1 x16.2.2) fun x18 => J0 z x5 x18.b x18.bad x16.1 (⟨#[]⟩ : ByteArray)) (If (x5 == 2) (Bd (cormorantref18_reader_byte.f x8.2) fun x24 => J0 z x5 x24.2.b x24.2.bad (wr .i64 x24.1) (⟨#[]⟩ : ByteArray)) (If (x5 == 3) (Bd (cormorantref18_reader_text.f z x8.2) fun x30 => J0 z x5 x30.2.b x30.2.bad 0 x30.1) (J0 z x5 x8.2.b x8.2.bad 0 (⟨#[]⟩ : ByteArray)))))
noncomputable def ptJ0 : List Item := [.code (cL (cr 5 c0)), .code (cr 6 c0)]
abbrev y0 : List Value := [.int .i64 0, .bool false, .int .i64 0, .string (⟨#[]⟩ : ByteArray)]
abbrev y1 : Value := .string (⟨#[]⟩ : ByteArray)
abbrev y2 (b2 : Nat) (A10 : OA) (x8 : Int × cormorantref18_reader) (k11 : Nat) : Atom := blk b2 [.slice A10 x8.2.b.length k11, .bool x8.2.bad]
abbrev y3 (x5 : Int) : List Value := [.int .i64 x5, .bool false, .int .i64 0, (y1)]
theorem J0_ok (F : List Atom) (r : api_Value × cormorantref18_reader) (z b2 b6 b12 : Nat) (x5 : Int) (A35 : OA) (x34 : List Int) (k36 : Nat) (x37 : Bool) (x38 : Int) (x39 : ByteArray) (a : Act) (w : World) (T : Tm 48 [(4, .pointer (some ⟨b6, 0, none⟩)), (6, .pointer (some ⟨b12, 0, none⟩))] a) (S : SL ([blk b2 [.slice A35 x34.length k36, .bool x37], sl .ro ku8 A35 k36 x34, blk b6 (y0), blk b12 [.int .i64 x5, .bool false, .int .i64 x38, .string x39]] ++ F) w) (H : J0 z x5 x34 x37 x38 x39 = some r) : Gets Tryd.prog 65 ptJ0 a w (R F b2 r) := by
 refine rg (r_ldBA (ix := 3) (ds := [.int .i64 x5, .bool false, .int .i64 x38, .string x39]) T S rfl Tryd.isAgg43 rfl rfl Tryd.sizeOf43 rfl fun _ T => r_stBA (ix := 2) (vs := [.int .i64 x5, .bool false, .int .i64 x38, .string x39]) (l' := [blk b2 [.slice A35 x34.length k36, .bool x37], sl .ro ku8 A35 k36 x34, blk b6 [.int .i64 x5, .bool false, .int .i64 x38, .string x39], blk b12 [.int .i64 x5, .bool false, .int .i64 x38, .string x39]]) T S rfl rfl rfl rfl (by simp) Tryd.sizeOf43 (Nat.le_of_ble_eq_true rfl) rfl fun _ S => ?_)
 replace H := Option.some.inj H
 subst H
 exact rtnM T S Tryd.func65 rfl ⟨_, _, rfl, ⟨b6, _, 2, rfl, rfl, .inl ⟨Tryd.isAgg43, Tryd.sizeOf43, rfl⟩⟩, rfl⟩ ⟨A35, k36, rfl, (S.only (p := [blk b2 [.slice A35 x34.length k36, .bool x37], sl .ro ku8 A35 k36 x34]) [0, 0] rfl)⟩
theorem ok (F : List Atom) (w : World) (z : Nat) (x1 : cormorantref18_reader) (x5 : Int) {b2 : Nat} {A3 : OA} {k4 : Nat} (S : SL ([blk b2 [.slice A3 x1.b.length k4, .bool x1.bad], sl .ro ku8 A3 k4 x1.b] ++ F) w) (r : api_Value × cormorantref18_reader) (H : f z x1 x5 = some r) : Calls Tryd.prog 65 #[.pointer (some ⟨b2, 0, none⟩), .int .i64 x5] w (R F b2 r) := by
 refine enter (vs := [.pointer (some ⟨b2, 0, none⟩), .int .i64 x5]) Tryd.func65 rfl Tryd.ntmps65 (Nat.le_of_ble_eq_true rfl) fun a T => ?_
 refine Gets.seq (rg (r_alloc T S zv43 (cs := (y0)) rfl rfl fun _ _ b6 S T => Gets.seq ?_))
 refine rg (r_pv T rfl rfl fun _ T => ?_)
 obtain ⟨x8, h7, H⟩ := bd H
 refine r_call T Tryd.call77 rfl rfl (cormorantref18_reader_byte.ok _ _ x1 (S.sel (p := [blk b2 [.slice A3 x1.b.length k4, .bool x1.bad], sl .ro ku8 A3 k4 x1.b]) (is := [1, 1]) rfl) _ h7) ?_
 rintro _ _ ⟨A10, k11, rfl, S⟩
 refine ⟨_, rfl, fun _ T => ?_⟩
 replace S : SL ([(y2 b2 A10 x8 k11), sl .ro ku8 A10 k11 x8.2.b, blk b6 (y0)] ++ F) _ := S.join
 refine r_pv T rfl rfl fun _ T => Gets.seq (rg (r_pv T rfl rfl fun _ T => ?_))
 refine r_build (cs := #[.int .i64 x5, .bool false, .int .i64 0, (y1)]) T stt43 rfl rfl rfl fun _ T => r_alloc T S zv43 (cs := (y0)) rfl rfl fun _ _ b12 S T => r_stBA (ix := 0) (vs := (y3 x5)) (l' := [blk b12 (y3 x5), (y2 b2 A10 x8 k11), sl .ro ku8 A10 k11 x8.2.b, blk b6 (y0)]) T S rfl rfl rfl rfl (by simp) Tryd.sizeOf43 (Nat.le_of_ble_eq_true rfl) rfl fun _ S => ?_
 refine Gets.seq (Gets.seq ?_)
 refine rg (r_pv T rfl rfl fun _ T => r_pv T rfl rfl fun _ T => ?_)
 rcases ifE H with ⟨h13, H⟩ | ⟨h13, H⟩
 ·refine cdT T rfl h13 ?_
  refine Gets.seq (rg (r_fa (o' := 1) T rfl Tryd.runUnderlying43 rfl Tryd.sizeOf4 rfl rfl fun _ T => r_stB (ix := 0) (l' := [blk b12 [.int .i64 x5, .bool true, .int .i64 0, (y1)], (y2 b2 A10 x8 k11), sl .ro ku8 A10 k11 x8.2.b, blk b6 (y0)]) T S rfl rfl rfl Tryd.sizeOf4 rfl (Nat.le_of_ble_eq_true rfl) rfl fun _ S => ?_))
  refine Gets.seq (rg (r_ldBA (ix := 0) (ds := [.int .i64 x5, .bool true, .int .i64 0, (y1)]) T S rfl Tryd.isAgg43 rfl rfl Tryd.sizeOf43 rfl fun _ T => r_stBA (ix := 3) (vs := [.int .i64 x5, .bool true, .int .i64 0, (y1)]) (l' := [blk b12 [.int .i64 x5, .bool true, .int .i64 0, (y1)], (y2 b2 A10 x8 k11), sl .ro ku8 A10 k11 x8.2.b, blk b6 [.int .i64 x5, .bool true, .int .i64 0, (y1)]]) T S rfl rfl rfl rfl (by simp) Tryd.sizeOf43 (Nat.le_of_ble_eq_true rfl) rfl fun _ S => ?_))
  replace H := Option.some.inj H
  subst H
  exact rtnM T S Tryd.func65 rfl ⟨_, _, rfl, ⟨b6, _, 3, rfl, rfl, .inl ⟨Tryd.isAgg43, Tryd.sizeOf43, rfl⟩⟩, rfl⟩ ⟨A10, k11, rfl, (S.only (p := [(y2 b2 A10 x8 k11), sl .ro ku8 A10 k11 x8.2.b]) [1, 1] rfl)⟩
 ·refine cdF T rfl h13 ?_
  refine Gets.skip (Gets.seq (Gets.seq ?_))
  refine rg (r_pv T rfl rfl fun _ T => ?_)
  refine Gets.block (Gets.seq ?_)
  refine rg (r_pv T rfl rfl fun _ T => r_pv T rfl rfl fun _ T => ?_)
  rcases ifE H with ⟨h14, H⟩ | ⟨h14, H⟩
  ·refine cdT T rfl h14 ?_
   refine Gets.seq (rg (r_pv T rfl rfl fun _ T => r_pv T rfl rfl fun _ T => ?_))
   refine r_fa (o' := 0) T rfl Tryd.runUnderlying106 rfl Tryd.sizeOf29 rfl rfl fun _ T => r_ldB (ix := 1) T S rfl Tryd.isAgg29 rfl rfl rfl fun _ T => ?_
   obtain ⟨x16, h15, H⟩ := bd H
   refine r_call T Tryd.call75 rfl rfl (cormorantref01_TakeKeyInt.ok _ _ z x8.2.b (S.sel (p := [sl .ro ku8 A10 k11 x8.2.b]) (is := [2]) rfl) _ h15) ?_
   rintro _ _ ⟨rfl, S⟩
   refine ⟨_, rfl, fun _ T => ?_⟩
   replace S : SL ([sl .ro ku8 A10 k11 x8.2.b, blk b12 (y3 x5), (y2 b2 A10 x8 k11), blk b6 (y0)] ++ F) _ := S.join
   refine r_pv T rfl rfl fun _ T => r_pv T rfl rfl fun _ T => r_pv T rfl rfl fun _ T => r_pv T rfl rfl fun _ T => ?_
   refine r_pv T rfl rfl fun _ T => r_pv T rfl rfl fun _ T => r_pv T rfl rfl fun _ T => Gets.seq ?_
   refine rg (r_pv T rfl rfl fun _ T => r_pv T rfl rfl fun _ T => r_pv T rfl rfl fun _ T => ?_)
   obtain ⟨x18, h17, H⟩ := bd H
   refine r_call T Tryd.call78 rfl rfl (cormorantref18_reader_went.ok _ _ x8.2 x16.2.1 x16.2.2 (S.sel (p := [(y2 b2 A10 x8 k11), sl .ro ku8 A10 k11 x8.2.b]) (is := [2, 0]) rfl) _ h17) ?_
   rintro _ _ ⟨A20, k21, rfl, S⟩
   refine ⟨_, rfl, fun _ T => ?_⟩
   replace S : SL ([blk b2 [.slice A20 x18.b.length k21, .bool x18.bad], sl .ro ku8 A20 k21 x18.b, blk b12 (y3 x5), blk b6 (y0)] ++ F) _ := S.join
   refine rg (r_pv T rfl rfl fun _ T => r_fa (o' := 2) T rfl Tryd.runUnderlying43 rfl Tryd.sizeOf2 rfl rfl fun _ T => r_stB (ix := 2) (l' := [blk b2 [.slice A20 x18.b.length k21, .bool x18.bad], sl .ro ku8 A20 k21 x18.b, blk b12 [.int .i64 x5, .bool false, .int .i64 x16.1, (y1)], blk b6 (y0)]) T S rfl rfl rfl Tryd.sizeOf2 rfl (Nat.le_of_ble_eq_true rfl) rfl fun _ S => ?_)
   refine Gets.inBlock (Gets.seq ?_)
   exact J0_ok F r z b2 b6 b12 x5 A20 x18.b k21 x18.bad x16.1 (⟨#[]⟩ : ByteArray) _ _ (T.sub ⟨rfl, rfl, trivial⟩) (S.only (p := [blk b2 [.slice A20 x18.b.length k21, .bool x18.bad], sl .ro ku8 A20 k21 x18.b, blk b6 (y0), blk b12 [.int .i64 x5, .bool false, .int .i64 x16.1, (y1)]]) [0, 0, 1, 0] rfl) H
  ·refine cdF T rfl h14 ?_
   refine Gets.seq (rg (r_pv T rfl rfl fun _ T => r_pv T rfl rfl fun _ T => ?_))
   rcases ifE H with ⟨h22, H⟩ | ⟨h22, H⟩
   ·refine cdT T rfl h22 ?_
    refine rg (r_pv T rfl rfl fun _ T => ?_)
    obtain ⟨x24, h23, H⟩ := bd H
    refine r_call T Tryd.call77 rfl rfl (cormorantref18_reader_byte.ok _ _ x8.2 (S.sel (p := [(y2 b2 A10 x8 k11), sl .ro ku8 A10 k11 x8.2.b]) (is := [1, 1]) rfl) _ h23) ?_
    rintro _ _ ⟨A26, k27, rfl, S⟩
    refine ⟨_, rfl, fun _ T => ?_⟩
    replace S : SL ([blk b2 [.slice A26 x24.2.b.length k27, .bool x24.2.bad], sl .ro ku8 A26 k27 x24.2.b, blk b12 (y3 x5), blk b6 (y0)] ++ F) _ := S.join
    refine r_conv T rfl Tryd.runUnderlying5 Tryd.runUnderlying2 rfl fun _ T => r_fa (o' := 2) T rfl Tryd.runUnderlying43 rfl Tryd.sizeOf2 rfl rfl fun _ T => r_stB (ix := 2) (l' := [blk b2 [.slice A26 x24.2.b.length k27, .bool x24.2.bad], sl .ro ku8 A26 k27 x24.2.b, blk b12 [.int .i64 x5, .bool false, .int .i64 (wr .i64 x24.1), (y1)], blk b6 (y0)]) T S rfl rfl rfl Tryd.sizeOf2 rfl (Nat.le_of_ble_eq_true rfl) rfl fun _ S => ?_
    refine Gets.inBlock (Gets.seq ?_)
    exact J0_ok F r z b2 b6 b12 x5 A26 x24.2.b k27 x24.2.bad (wr .i64 x24.1) (⟨#[]⟩ : ByteArray) _ _ (T.sub ⟨rfl, rfl, trivial⟩) (S.only (p := [blk b2 [.slice A26 x24.2.b.length k27, .bool x24.2.bad], sl .ro ku8 A26 k27 x24.2.b, blk b6 (y0), blk b12 [.int .i64 x5, .bool false, .int .i64 (wr .i64 x24.1), (y1)]]) [0, 0, 1, 0] rfl) H
   ·refine cdF T rfl h22 ?_
    refine Gets.seq (rg (r_pv T rfl rfl fun _ T => r_pv T rfl rfl fun _ T => ?_))
    rcases ifE H with ⟨h28, H⟩ | ⟨h28, H⟩
    ·refine cdT T rfl h28 ?_
     refine rg (r_pv T rfl rfl fun _ T => ?_)
     obtain ⟨x30, h29, H⟩ := bd H
     refine r_call T Tryd.call79 rfl rfl (cormorantref18_reader_text.ok _ _ z x8.2 (S.sel (p := [(y2 b2 A10 x8 k11), sl .ro ku8 A10 k11 x8.2.b]) (is := [1, 1]) rfl) _ h29) ?_
     rintro _ _ ⟨A32, k33, rfl, S⟩
     refine ⟨_, rfl, fun _ T => ?_⟩
     replace S : SL ([blk b2 [.slice A32 x30.2.b.length k33, .bool x30.2.bad], sl .ro ku8 A32 k33 x30.2.b, blk b12 (y3 x5), blk b6 (y0)] ++ F) _ := S.join
     refine r_fa (o' := 3) T rfl Tryd.runUnderlying43 rfl Tryd.sizeOf9 rfl rfl fun _ T => r_stB (ix := 2) (l' := [blk b2 [.slice A32 x30.2.b.length k33, .bool x30.2.bad], sl .ro ku8 A32 k33 x30.2.b, blk b12 [.int .i64 x5, .bool false, .int .i64 0, .string x30.1], blk b6 (y0)]) T S rfl rfl rfl Tryd.sizeOf9 rfl (Nat.le_of_ble_eq_true rfl) rfl fun _ S => ?_
     refine Gets.inBlock (Gets.seq ?_)
     exact J0_ok F r z b2 b6 b12 x5 A32 x30.2.b k33 x30.2.bad 0 x30.1 _ _ (T.sub ⟨rfl, rfl, trivial⟩) (S.only (p := [blk b2 [.slice A32 x30.2.b.length k33, .bool x30.2.bad], sl .ro ku8 A32 k33 x30.2.b, blk b6 (y0), blk b12 [.int .i64 x5, .bool false, .int .i64 0, .string x30.1]]) [0, 0, 1, 0] rfl) H
    ·refine cdF T rfl h28 ?_
     refine Gets.skip (Gets.inBlock (Gets.seq ?_))
     exact J0_ok F r z b2 b6 b12 x5 A10 x8.2.b k11 x8.2.bad 0 (⟨#[]⟩ : ByteArray) _ _ (T.sub ⟨rfl, rfl, trivial⟩) (S.only (p := [(y2 b2 A10 x8 k11), sl .ro ku8 A10 k11 x8.2.b, blk b6 (y0), blk b12 (y3 x5)]) [1, 1, 1, 0] rfl) H
end cormorantref18_reader_value
end Go.Proofs.YtohelmfkpmphoaaDoor
namespace Go.Proofs.YtohelmfkpmphoaaDoor
open Go Go.Proofs.YtohelmfkpmphoaaDoor.X
set_option linter.unusedVariables false
set_option linter.unusedSimpArgs false
set_option maxRecDepth 100000
set_option maxHeartbeats 4000000
namespace cormorantref18_TakeValue
def R (F : List Atom) (x1 : List Int) (A2 : OA) (k3 : Nat) (r : api_Value × (List Int) × Bool) : Ending → World → Prop := fun e w' => ∃ (A13 : OA), ∃ (k14 : Nat), e = .returned (.tuple #[.agg #[.int .i64 r.1.Type', .bool r.1.Null, .int .i64 r.1.Int, .string r.1.Text], .slice A13 r.2.1.length k14, .bool r.2.2]) ∧ SL ([sl .ro ku8 A13 k14 r.2.1, sl .ro ku8 A2 k3 x1] ++ F) w'
def f (z : Nat) (x1 : List Int) (x4 : Int) : Option (api_Value × (List Int) × Bool) := Bd (cormorantref18_reader_value.f z (cormorantref18_reader.mk x1 false) x4) fun x8 => some ((api_Value.mk x8.1.Type' x8.1.Null x8.1.Int x8.1.Text), x8.2.b, !x8.2.bad)
abbrev y0 (x8 : api_Value × cormorantref18_reader) : List Value := [.int .i64 x8.1.Type', .bool x8.1.Null, .int .i64 x8.1.Int, .string x8.1.Text]
abbrev y1 (b6 : Nat) : Option (Value × Bool) := some (.pointer (some ⟨b6, 0, none⟩), true)
abbrev y2 : List Value := [.int .i64 0, .bool false, .int .i64 0, .string (⟨#[]⟩ : ByteArray)]
theorem ok (F : List Atom) (w : World) (z : Nat) (x1 : List Int) (x4 : Int) {A2 : OA} {k3 : Nat} (S : SL ([sl .ro ku8 A2 k3 x1] ++ F) w) (r : api_Value × (List Int) × Bool) (H : f z x1 x4 = some r) : Calls Tryd.prog 36 #[.slice A2 x1.length k3, .int .i64 x4] w (R F x1 A2 k3 r) := by
 refine enter (vs := [.slice A2 x1.length k3, .int .i64 x4]) Tryd.func36 rfl Tryd.ntmps36 (Nat.le_of_ble_eq_true rfl) fun a T => ?_
 refine Gets.seq (rg (r_alloc T S zv43 (cs := (y2)) rfl rfl fun _ _ b5 S T => r_pv T rfl rfl fun _ T => ?_))
 refine r_pv T rfl rfl fun _ T => Gets.seq (rg (r_pv T rfl rfl fun _ T => ?_))
 refine r_build (cs := #[.slice A2 x1.length k3, .bool false]) T stt106 rfl rfl rfl fun _ T => r_box T S rfl (cs := [.slice A2 x1.length k3, .bool false]) rfl rfl fun _ _ b6 S T => r_pv T rfl rfl fun _ T => Gets.seq ?_
 refine rg (r_pv T rfl rfl fun _ T => r_pv T rfl rfl fun _ T => ?_)
 replace S := S.dup (i := 2) rfl
 obtain ⟨x8, h7, H⟩ := bd H
 refine r_call T Tryd.call65 rfl rfl (cormorantref18_reader_value.ok _ _ z (cormorantref18_reader.mk x1 false) x4 (S.sel (p := [blk b6 [.slice A2 x1.length k3, .bool false], sl .ro ku8 A2 k3 x1]) (is := [1, 0]) rfl) _ h7) ?_
 rintro _ _ ⟨A10, k11, rfl, S⟩
 refine ⟨_, rfl, fun _ T => ?_⟩
 replace S : SL ([blk b6 [.slice A10 x8.2.b.length k11, .bool x8.2.bad], sl .ro ku8 A10 k11 x8.2.b, blk b5 (y2), sl .ro ku8 A2 k3 x1] ++ F) _ := S.join
 refine r_alloc T S zv43 (cs := (y2)) rfl rfl fun _ _ b12 S T => r_stBA (ix := 0) (vs := (y0 x8)) (l' := [blk b12 (y0 x8), blk b6 [.slice A10 x8.2.b.length k11, .bool x8.2.bad], sl .ro ku8 A10 k11 x8.2.b, blk b5 (y2), sl .ro ku8 A2 k3 x1]) T S rfl rfl rfl rfl (by simp) Tryd.sizeOf43 (Nat.le_of_ble_eq_true rfl) rfl fun _ S => ?_
 refine Gets.seq ?_
 refine Gets.drawn (l := [blk b12 (y0 x8), blk b6 [.slice A10 x8.2.b.length k11, .bool x8.2.bad], sl .ro ku8 A10 k11 x8.2.b, blk b5 (y2), sl .ro ku8 A2 k3 x1]) (V := [some (.agg #[.int .i64 x8.1.Type', .bool x8.1.Null, .int .i64 x8.1.Int, .string x8.1.Text], true), (y1 b6), (y1 b6), (y1 b6), some (.slice A10 x8.2.b.length k11, true), (y1 b6), (y1 b6), some (.pointer (some ⟨b6, 1, none⟩), true), some (.bool x8.2.bad, true), some (.bool (!x8.2.bad), true), none, none, none]) mixed T S rfl ?_
 refine stage (some 10) rfl rfl ⟨⟨_, _, rfl, (avl [8] rfl), fun _ _ _ T S => r_ldBA (ix := 0) (ds := (y0 x8)) T S rfl Tryd.isAgg43 rfl rfl Tryd.sizeOf43 rfl fun _ T => ⟨rfl, T⟩⟩, ⟨_, _, rfl, (avl [7] rfl), fun _ _ _ T S => r_pv T rfl rfl fun _ T => ⟨rfl, T⟩⟩, ⟨_, _, rfl, (avl [16] rfl), fun _ _ _ T S => r_pv T rfl rfl fun _ T => ⟨rfl, T⟩⟩, ⟨_, _, rfl, (avl [17] rfl), fun _ _ _ T S => r_fa (o' := 0) T rfl Tryd.runUnderlying106 rfl Tryd.sizeOf29 rfl rfl fun _ T => ⟨rfl, T⟩⟩, ⟨_, _, rfl, (avl [18] rfl), fun _ _ _ T S => r_ldB (ix := 1) T S rfl Tryd.isAgg29 rfl rfl rfl fun _ T => ⟨rfl, T⟩⟩, ⟨_, _, rfl, (avl [7] rfl), fun _ _ _ T S => r_pv T rfl rfl fun _ T => ⟨rfl, T⟩⟩, ⟨_, _, rfl, (avl [20] rfl), fun _ _ _ T S => r_pv T rfl rfl fun _ T => ⟨rfl, T⟩⟩, ⟨_, _, rfl, (avl [21] rfl), fun _ _ _ T S => r_fa (o' := 1) T rfl Tryd.runUnderlying106 rfl Tryd.sizeOf4 rfl rfl fun _ T => ⟨rfl, T⟩⟩, ⟨_, _, rfl, (avl [22] rfl), fun _ _ _ T S => r_ldB (ix := 1) T S rfl Tryd.isAgg4 rfl rfl rfl fun _ T => ⟨rfl, T⟩⟩, ⟨_, _, rfl, (avl [23] rfl), fun _ _ _ T S => r_pv T rfl rfl fun _ T => ⟨rfl, T⟩⟩, trivial⟩ rfl (fun i hi => ?_) (fun h => by cases h)
 cases hi
 refine ⟨rfl, _, _, rfl, (avl [4, 15] rfl), fun u a w T S => ?_⟩
 refine r_stBA (ix := 3) (vs := (y0 x8)) (l' := [blk b12 (y0 x8), blk b6 [.slice A10 x8.2.b.length k11, .bool x8.2.bad], sl .ro ku8 A10 k11 x8.2.b, blk b5 (y0 x8), sl .ro ku8 A2 k3 x1]) T S rfl rfl rfl rfl (by simp) Tryd.sizeOf43 (Nat.le_of_ble_eq_true rfl) rfl fun _ S => ?_
 refine ⟨_, [some (.agg #[.int .i64 x8.1.Type', .bool x8.1.Null, .int .i64 x8.1.Int, .string x8.1.Text], false), (y1 b6), (y1 b6), (y1 b6), some (.slice A10 x8.2.b.length k11, true), (y1 b6), (y1 b6), some (.pointer (some ⟨b6, 1, none⟩), true), some (.bool x8.2.bad, true), some (.bool (!x8.2.bad), true), some (undef, false), some (.slice A10 x8.2.b.length k11, true), some (.bool (!x8.2.bad), true)], [blk b12 (y0 x8), blk b6 [.slice A10 x8.2.b.length k11, .bool x8.2.bad], sl .ro ku8 A10 k11 x8.2.b, blk b5 (y0 x8), sl .ro ku8 A2 k3 x1], rfl, (by repeat first | exact kx0 | apply kxs | apply kxn), rfl, ?_, T, S⟩
 refine stage none rfl rfl ⟨⟨_, _, rfl, (avl [7] rfl), fun _ _ _ T S => r_pv T rfl rfl fun _ T => ⟨rfl, T⟩⟩, ⟨_, _, rfl, (avl [16] rfl), fun _ _ _ T S => r_pv T rfl rfl fun _ T => ⟨rfl, T⟩⟩, ⟨_, _, rfl, (avl [17] rfl), fun _ _ _ T S => r_fa (o' := 0) T rfl Tryd.runUnderlying106 rfl Tryd.sizeOf29 rfl rfl fun _ T => ⟨rfl, T⟩⟩, ⟨_, _, rfl, (avl [18] rfl), fun _ _ _ T S => r_ldB (ix := 1) T S rfl Tryd.isAgg29 rfl rfl rfl fun _ T => ⟨rfl, T⟩⟩, ⟨_, _, rfl, (avl [7] rfl), fun _ _ _ T S => r_pv T rfl rfl fun _ T => ⟨rfl, T⟩⟩, ⟨_, _, rfl, (avl [20] rfl), fun _ _ _ T S => r_pv T rfl rfl fun _ T => ⟨rfl, T⟩⟩, ⟨_, _, rfl, (avl [21] rfl), fun _ _ _ T S => r_fa (o' := 1) T rfl Tryd.runUnderlying106 rfl Tryd.sizeOf4 rfl rfl fun _ T => ⟨rfl, T⟩⟩, ⟨_, _, rfl, (avl [22] rfl), fun _ _ _ T S => r_ldB (ix := 1) T S rfl Tryd.isAgg4 rfl rfl rfl fun _ T => ⟨rfl, T⟩⟩, ⟨_, _, rfl, (avl [23] rfl), fun _ _ _ T S => r_pv T rfl rfl fun _ T => ⟨rfl, T⟩⟩, ⟨_, _, rfl, (avl [19] rfl), fun _ _ _ T S => r_pv T rfl rfl fun _ T => ⟨rfl, T⟩⟩, ⟨_, _, rfl, (avl [24] rfl), fun _ _ _ T S => r_pv T rfl rfl fun _ T => ⟨rfl, T⟩⟩, trivial⟩ rfl (fun i hi => by cases hi) (fun _ _ a w T hv hb S => ?_)
 replace T := T.sub (r := [(4, .pointer (some ⟨b5, 0, none⟩)), (5, .slice A10 x8.2.b.length k11), (6, .bool (!x8.2.bad))]) ⟨hb 4 _ rfl rfl, hv 11 _ 5 rfl rfl rfl, hv 12 _ 6 rfl rfl rfl, trivial⟩
 replace H := Option.some.inj H
 subst H
 exact rtnM T S Tryd.func36 rfl ⟨_, _, rfl, ⟨b5, _, 3, rfl, rfl, .inl ⟨Tryd.isAgg43, Tryd.sizeOf43, rfl⟩⟩, ⟨_, _, rfl, rfl, ⟨_, _, rfl, rfl, rfl⟩⟩⟩ ⟨A10, k11, rfl, (S.only (p := [sl .ro ku8 A10 k11 x8.2.b, sl .ro ku8 A2 k3 x1]) [2, 3] rfl)⟩
end cormorantref18_TakeValue
end Go.Proofs.YtohelmfkpmphoaaDoor
namespace Go.Proofs.YtohelmfkpmphoaaDoor
open Go Go.Proofs.YtohelmfkpmphoaaDoor.X
set_option linter.unusedVariables false
set_option linter.unusedSimpArgs false
set_option maxRecDepth 100000
set_option maxHeartbeats 4000000
namespace cormorantref20_TakeRow
noncomputable def c0 : Code := match Tryd.f11.body with | some c => c | none => .skip
def R (F : List Atom) (x1 : api_Table) (A2 : OA) (k3 : Nat) (A4 : OA) (k5 : Nat) (A6 : OA) (k7 : Nat) (x8 : api_KV) (A9 : OA) (k10 : Nat) (A11 : OA) (k12 : Nat) (r : (List api_Value) × Int) : Ending → World → Prop := fun e w' => ∃ (A51 : OA), ∃ (k52 : Nat), e = .returned (.tuple #[.slice A51 r.1.length k52, .int .i64 r.2]) ∧ SL ([sl .own kapi_Value A51 k52 r.1, sl .ro kapi_Column A2 k3 x1.Columns, sl .ro ki64 A4 k5 x1.Key, sl .ro kapi_Index A6 k7 x1.Indexes, sl .ro ku8 A9 k10 x8.Key, sl .ro ku8 A11 k12 x8.Value] ++ F) w'
def J1 (z : Nat) : Option ((List api_Value) × Int) := some (([] : List api_Value), 200)
def L0 (z : Nat) (x1 : api_Table) (x8 : api_KV) : Nat → (List api_Value) → (List Int) → Int → Option ((List api_Value) × Int)
 | 0, _, _, _ => none
 | m + 1, x22, x25, x28 => If (decide (x28 < (x22.length : Int))) (Bd (cormorantref20_isKey.f z x1 x28) fun x41 => If x41 (L0 z x1 x8 m x22 x25 (wr .i64 (x28 + 1))) (Ck (0 ≤ x28 ∧ x28 < (x1.Columns.length : Int)) (Bd (cormorantref18_TakeValue.f z x25 ((gi dapi_Column x1.Columns x28).Type')) fun x45 => If (!x45.2.2) (some (([] : List api_Value), 200)) (Ck (x28 < (x22.length : Int)) (L0 z x1 x8 m (x22.set (Int.toNat x28) (api_Value.mk x45.1.Type' x45.1.Null x45.1.Int x45.1.Text)) x45.2.1 (wr .i64 (x28 + 1))))))) (Bd (cormorantref20_Row.f z x1 x22) fun x31 => If (x31.2 != 0) (J1 z) (If (!((bstr x31.1.Key).toList == (bstr x8.Key).toList)) (J1 z) (If (!((bstr x31.1.Value).toList == (bstr x8.Value).toList)) (J1 z) (some (x22, 0)))))
def f (z : Nat) (x1 : api_Table) (x8 : api_KV) : Option ((List api_Value) × Int) := Bd (cormorantref20_tableMay.f z x1 ([] : List Int)) fun x16 => If (!x16) (some (([] : List api_Value), 1)) (If (decide ((x8.Key.length : Int) < 17)) (some (([] : List api_Value), 200)) (Ck (0 ≤ (x1.Columns.length : Int) ∧ (x1.Columns.length : Int) ≤ (x1.Columns.length : Int) ∧ 40 * (x1.Columns.length : Int) ≤ 281474976710656) (Ck (17 ≤ (x8.Key.length : Int)) (Bd (cormorantref20_taken.f z x1 x1.Key (cut x8.Key (Int.toNat 17) (Int.toNat (x8.Key.length : Int))) (List.replicate (Int.toNat (x1.Columns.length : Int)) dapi_Value)) fun x2422 => If (!x2422.2.1) (some (([] : List api_Value), 200)) (L0 z x1 x8 z x2422.2.2 x8.Value 0)))))
noncomputable def ptJ1 : List Item := [.code (cL (cT (cR (cL (cr 10 c0))))), .code (cR (cT (cR (cL (cr 10 c0))))), .code (cr 11 c0)]
noncomputable def ptL0 : List Item := [.code (cB (cB (cR (cL (cr 8 c0))))), .inLoop (cB (cB (cR (cL (cr 8 c0))))), .inBlock 0, .code (cr 9 c0)]
abbrev y0 (x1 : api_Table) (A2 : OA) (k3 : Nat) (A4 : OA) (k5 : Nat) (A6 : OA) (k7 : Nat) : List Value := [.int .i64 x1.Id, .string x1.Name, .slice A2 x1.Columns.length k3, .slice A4 x1.Key.length k5, .slice A6 x1.Indexes.length k7]
abbrev y1 (A2 : OA) (k3 : Nat) (x1 : api_Table) : Atom := sl .ro kapi_Column A2 k3 x1.Columns
abbrev y2 (A6 : OA) (k7 : Nat) (x1 : api_Table) : Atom := sl .ro kapi_Index A6 k7 x1.Indexes
abbrev y3 (b14 : Nat) (A9 : OA) (x8 : api_KV) (k10 : Nat) (A11 : OA) (k12 : Nat) : Atom := blk b14 [.slice A9 x8.Key.length k10, .slice A11 x8.Value.length k12]
abbrev y4 (A9 : OA) (k10 : Nat) (x8 : api_KV) : Atom := sl .ro ku8 (slA A9 (Int.toNat (k10 : Int)) (Int.toNat 17) 1) (Int.toNat (k10 : Int) - Int.toNat 17) (cut x8.Key (Int.toNat 17) (Int.toNat (x8.Key.length : Int)))
abbrev y5 (A4 : OA) (k5 : Nat) (x1 : api_Table) : Atom := sl .ro ki64 A4 k5 x1.Key
abbrev y6 (x45 : api_Value × (List Int) × Bool) : List Value := [.int .i64 x45.1.Type', .bool x45.1.Null, .int .i64 x45.1.Int, .string x45.1.Text]
abbrev y7 (A11 : OA) (k12 : Nat) (x8 : api_KV) : Atom := sl .ro ku8 A11 k12 x8.Value
abbrev y8 (b20 : Nat) (x1 : api_Table) : Value := .slice (some ⟨b20, 0, none⟩) ((List.replicate (Int.toNat (x1.Columns.length : Int)) dapi_Value).length) (Int.toNat (x1.Columns.length : Int))
abbrev y9 (x1 : api_Table) (A2 : OA) (k3 : Nat) (A4 : OA) (k5 : Nat) (A6 : OA) (k7 : Nat) : Value := .agg #[.int .i64 x1.Id, .string x1.Name, .slice A2 x1.Columns.length k3, .slice A4 x1.Key.length k5, .slice A6 x1.Indexes.length k7]
abbrev y10 : Atom := sl .own kapi_Value none 0 ([] : List api_Value)
abbrev y11 (A9 : OA) (k10 : Nat) (x8 : api_KV) : Atom := sl .ro ku8 A9 k10 x8.Key
theorem J1_ok (F : List Atom) (r : (List api_Value) × Int) (z : Nat) (x1 : api_Table) (A2 : OA) (k3 : Nat) (A4 : OA) (k5 : Nat) (A6 : OA) (k7 : Nat) (x8 : api_KV) (A9 : OA) (k10 : Nat) (A11 : OA) (k12 : Nat) (a : Act) (w : World) (T : Tm 101 [] a) (S : SL ([(y1 A2 k3 x1), (y5 A4 k5 x1), (y2 A6 k7 x1), (y11 A9 k10 x8), (y7 A11 k12 x8)] ++ F) w) (H : J1 z = some r) : Gets Tryd.prog 11 ptJ1 a w (R F x1 A2 k3 A4 k5 A6 k7 x8 A9 k10 A11 k12 r) := by
 refine rg (r_pv T rfl rfl fun _ T => r_pv T rfl rfl fun _ T => ?_)
 replace S := S.nil kapi_Value .own
 replace H := Option.some.inj H
 subst H
 exact rtn T Tryd.func11 rfl rfl ⟨none, 0, rfl, (S.only (p := [(y10), (y1 A2 k3 x1), (y5 A4 k5 x1), (y2 A6 k7 x1), (y11 A9 k10 x8), (y7 A11 k12 x8)]) [0, 0, 0, 0, 0, 0] rfl)⟩
theorem L0_ok (F : List Atom) (r : (List api_Value) × Int) (z : Nat) (x1 : api_Table) (A2 : OA) (k3 : Nat) (A4 : OA) (k5 : Nat) (A6 : OA) (k7 : Nat) (x8 : api_KV) (A9 : OA) (k10 : Nat) (A11 : OA) (k12 b13 b14 m : Nat) : ∀ (A23 : OA) (x22 : List api_Value) (k24 : Nat) (A26 : OA) (x25 : List Int) (k27 : Nat) (x28 : Int) (a : Act) (w : World), Tm 101 [(2, .pointer (some ⟨b13, 0, none⟩)), (3, .pointer (some ⟨b14, 0, none⟩)), (7, .slice A23 x22.length k24), (10, .slice A26 x25.length k27), (11, .int .i64 x28)] a → SL ([(y1 A2 k3 x1), (y5 A4 k5 x1), (y2 A6 k7 x1), (y11 A9 k10 x8), (y7 A11 k12 x8), blk b13 (y0 x1 A2 k3 A4 k5 A6 k7), (y3 b14 A9 x8 k10 A11 k12), sl .own kapi_Value A23 k24 x22, sl .ro ku8 A26 k27 x25] ++ F) w → L0 z x1 x8 m x22 x25 x28 = some r → Gets Tryd.prog 11 ptL0 a w (R F x1 A2 k3 A4 k5 A6 k7 x8 A9 k10 A11 k12 r) := by
 induction m with
 | zero => intro _ _ _ _ _ _ _ _ _ _ _ H; cases H
 | succ m ih =>
  intro A23 x22 k24 A26 x25 k27 x28 a w T S H
  refine Gets.seq (Gets.seq (rg (r_pv T rfl rfl fun _ T => ?_)))
  refine r_pv T rfl rfl fun _ T => r_lenS T rfl Tryd.runUnderlying27 rfl fun _ T => r_pv T rfl rfl fun _ T => ?_
  rcases ifE H with ⟨h29, H⟩ | ⟨h29, H⟩
  ·refine cdT T rfl h29 ?_
   refine Gets.skip (Gets.seq (Gets.block (Gets.seq ?_)))
   refine rg (r_ldBA (ix := 5) (ds := (y0 x1 A2 k3 A4 k5 A6 k7)) T S rfl Tryd.isAgg26 rfl rfl Tryd.sizeOf26 rfl fun _ T => r_pv T rfl rfl fun _ T => ?_)
   replace S := S.dup (i := 0) rfl
   replace S := S.dup (i := 2) rfl
   replace S := S.dup (i := 4) rfl
   obtain ⟨x41, h40, H⟩ := bd H
   refine r_call T Tryd.call21 rfl rfl (cormorantref20_isKey.ok _ _ z x1 x28 (S.sel (p := [(y1 A2 k3 x1), (y5 A4 k5 x1), (y2 A6 k7 x1)]) (is := [2, 1, 0]) rfl) _ h40) ?_
   rintro _ _ ⟨rfl, S⟩
   refine ⟨_, rfl, fun _ T => ?_⟩
   replace S : SL ([(y1 A2 k3 x1), (y5 A4 k5 x1), (y2 A6 k7 x1), (y11 A9 k10 x8), (y7 A11 k12 x8), blk b13 (y0 x1 A2 k3 A4 k5 A6 k7), (y3 b14 A9 x8 k10 A11 k12), sl .own kapi_Value A23 k24 x22, sl .ro ku8 A26 k27 x25] ++ F) _ := S.join.only [3, 3, 3, 3, 3, 3, 3, 3, 3] rfl
   refine r_pv T rfl rfl fun _ T => ?_
   refine Gets.seq (Gets.seq ?_)
   refine rg (r_pv T rfl rfl fun _ T => ?_)
   rcases ifE H with ⟨h42, H⟩ | ⟨h42, H⟩
   ·refine cdT T rfl h42 ?_
    refine Gets.exit rfl ?_
    refine rg (r_pv T rfl rfl fun _ T => r_pv T rfl rfl fun _ T => r_pv T rfl rfl fun _ T => ?_)
    refine Gets.inLoop ?_
    exact ih A23 x22 k24 A26 x25 k27 (wr .i64 (x28 + 1)) _ _ (T.sub ⟨rfl, rfl, rfl, rfl, rfl, trivial⟩) (S.only (p := [(y1 A2 k3 x1), (y5 A4 k5 x1), (y2 A6 k7 x1), (y11 A9 k10 x8), (y7 A11 k12 x8), blk b13 (y0 x1 A2 k3 A4 k5 A6 k7), (y3 b14 A9 x8 k10 A11 k12), sl .own kapi_Value A23 k24 x22, sl .ro ku8 A26 k27 x25]) [0, 0, 0, 0, 0, 0, 0, 0, 0] rfl) H
   ·refine cdF T rfl h42 ?_
    refine Gets.skip (Gets.seq ?_)
    refine rg (r_pv T rfl rfl fun _ T => r_fa (o' := 2) T rfl Tryd.runUnderlying26 rfl Tryd.sizeOf22 rfl rfl fun _ T => r_ldB (ix := 5) T S rfl Tryd.isAgg22 rfl rfl rfl fun _ T => ?_)
    refine r_pv T rfl rfl fun _ T => ?_
    obtain ⟨h43, H⟩ := ck H
    refine r_ia (ix := 0) T S rfl rfl rfl rfl Tryd.runUnderlying22 Tryd.sizeOf72 h43.1 h43.2 rfl fun _ T => r_faE T rfl Tryd.runUnderlying72 rfl Tryd.sizeOf3 rfl fun _ T => r_ldE (ix := 0) (i := x28) (off := 1) (f := (Value.int .i64)) T S rfl Tryd.isAgg3 rfl dapi_Column _ rfl rfl fld_api_Column_Type' h43.1 h43.2 (fun h => h) rfl fun _ T => ?_
    obtain ⟨x45, h44, H⟩ := bd H
    refine r_call T Tryd.call36 rfl rfl (cormorantref18_TakeValue.ok _ _ z x25 ((gi dapi_Column x1.Columns x28).Type') (S.sel (p := [sl .ro ku8 A26 k27 x25]) (is := [8]) rfl) _ h44) ?_
    rintro _ _ ⟨A46, k47, rfl, S⟩
    refine ⟨_, rfl, fun _ T => ?_⟩
    replace S : SL ([sl .ro ku8 A46 k47 x45.2.1, sl .ro ku8 A26 k27 x25, (y1 A2 k3 x1), (y5 A4 k5 x1), (y2 A6 k7 x1), (y11 A9 k10 x8), (y7 A11 k12 x8), blk b13 (y0 x1 A2 k3 A4 k5 A6 k7), (y3 b14 A9 x8 k10 A11 k12), sl .own kapi_Value A23 k24 x22] ++ F) _ := S.join
    refine r_pv T rfl rfl fun _ T => r_pv T rfl rfl fun _ T => r_pv T rfl rfl fun _ T => r_pv T rfl rfl fun _ T => ?_
    refine r_alloc T S zv43 (cs := [.int .i64 0, .bool false, .int .i64 0, .string (⟨#[]⟩ : ByteArray)]) rfl rfl fun _ _ b48 S T => r_stBA (ix := 0) (vs := (y6 x45)) (l' := [blk b48 (y6 x45), sl .ro ku8 A46 k47 x45.2.1, sl .ro ku8 A26 k27 x25, (y1 A2 k3 x1), (y5 A4 k5 x1), (y2 A6 k7 x1), (y11 A9 k10 x8), (y7 A11 k12 x8), blk b13 (y0 x1 A2 k3 A4 k5 A6 k7), (y3 b14 A9 x8 k10 A11 k12), sl .own kapi_Value A23 k24 x22]) T S rfl rfl rfl rfl (by simp) Tryd.sizeOf43 (Nat.le_of_ble_eq_true rfl) rfl fun _ S => ?_
    refine r_pv T rfl rfl fun _ T => r_pv T rfl rfl fun _ T => ?_
    refine Gets.seq (Gets.seq ?_)
    refine rg (r_pv T rfl rfl fun _ T => r_pv T rfl rfl fun _ T => ?_)
    rcases ifE H with ⟨h49, H⟩ | ⟨h49, H⟩
    ·refine cdT T rfl h49 ?_
     refine Gets.seq (rg (r_pv T rfl rfl fun _ T => r_pv T rfl rfl fun _ T => ?_))
     replace S := S.nil kapi_Value .own
     replace H := Option.some.inj H
     subst H
     exact rtn T Tryd.func11 rfl rfl ⟨none, 0, rfl, (S.only (p := [(y10), (y1 A2 k3 x1), (y5 A4 k5 x1), (y2 A6 k7 x1), (y11 A9 k10 x8), (y7 A11 k12 x8)]) [0, 3, 3, 3, 3, 3] rfl)⟩
    ·refine cdF T rfl h49 ?_
     refine Gets.skip (Gets.seq ?_)
     refine rg (r_pv T rfl rfl fun _ T => r_pv T rfl rfl fun _ T => r_ldBA (ix := 0) (ds := (y6 x45)) T S rfl Tryd.isAgg43 rfl rfl Tryd.sizeOf43 rfl fun _ T => ?_)
     obtain ⟨h50, H⟩ := ck H
     refine r_ia (ix := 10) T S rfl rfl rfl rfl Tryd.runUnderlying27 Tryd.sizeOf43 h43.1 h50 rfl fun _ T => r_stEO (ix := 10) (i := x28) (u := (api_Value.mk x45.1.Type' x45.1.Null x45.1.Int x45.1.Text)) (vs := (y6 x45)) (l' := [blk b48 (y6 x45), sl .ro ku8 A46 k47 x45.2.1, sl .ro ku8 A26 k27 x25, (y1 A2 k3 x1), (y5 A4 k5 x1), (y2 A6 k7 x1), (y11 A9 k10 x8), (y7 A11 k12 x8), blk b13 (y0 x1 A2 k3 A4 k5 A6 k7), (y3 b14 A9 x8 k10 A11 k12), sl .own kapi_Value A23 k24 (x22.set (Int.toNat x28) (api_Value.mk x45.1.Type' x45.1.Null x45.1.Int x45.1.Text))]) T S rfl rfl rfl rfl (by simp) (fun _ => ⟨_, _, rfl, rfl, ⟨_, _, rfl, rfl, ⟨_, _, rfl, rfl, rfl⟩⟩⟩) Tryd.sizeOf43 h43.1 h50 rfl fun _ S => ?_
     refine rg (r_pv T rfl rfl fun _ T => r_pv T rfl rfl fun _ T => Gets.inBlock ?_)
     refine rg (r_pv T rfl rfl fun _ T => r_pv T rfl rfl fun _ T => r_pv T rfl rfl fun _ T => ?_)
     refine Gets.inLoop ?_
     have T := T.re (s := 7) (v' := .slice A23 (x22.set (Int.toNat x28) (api_Value.mk x45.1.Type' x45.1.Null x45.1.Int x45.1.Text)).length k24) rfl (by simp)
     exact ih A23 (x22.set (Int.toNat x28) (api_Value.mk x45.1.Type' x45.1.Null x45.1.Int x45.1.Text)) k24 A46 x45.2.1 k47 (wr .i64 (x28 + 1)) _ _ (T.sub ⟨rfl, rfl, rfl, rfl, rfl, trivial⟩) (S.only (p := [(y1 A2 k3 x1), (y5 A4 k5 x1), (y2 A6 k7 x1), (y11 A9 k10 x8), (y7 A11 k12 x8), blk b13 (y0 x1 A2 k3 A4 k5 A6 k7), (y3 b14 A9 x8 k10 A11 k12), sl .own kapi_Value A23 k24 (x22.set (Int.toNat x28) (api_Value.mk x45.1.Type' x45.1.Null x45.1.Int x45.1.Text)), sl .ro ku8 A46 k47 x45.2.1]) [3, 3, 3, 3, 3, 3, 3, 3, 1] rfl) H
  ·refine cdF T rfl h29 ?_
   refine Gets.exit rfl (Gets.seq ?_)
   refine rg (r_ldBA (ix := 5) (ds := (y0 x1 A2 k3 A4 k5 A6 k7)) T S rfl Tryd.isAgg26 rfl rfl Tryd.sizeOf26 rfl fun _ T => r_pv T rfl rfl fun _ T => ?_)
   replace S := S.dup (i := 0) rfl
   replace S := S.dup (i := 2) rfl
   replace S := S.dup (i := 4) rfl
   obtain ⟨x31, h30, H⟩ := bd H
   refine r_call T Tryd.call6 rfl rfl (cormorantref20_Row.ok _ _ z x1 x22 (S.sel (p := [(y1 A2 k3 x1), (y5 A4 k5 x1), (y2 A6 k7 x1), sl .own kapi_Value A23 k24 x22]) (is := [2, 1, 0, 7]) rfl) _ h30) ?_
   rintro _ _ ⟨A32, k33, A34, k35, rfl, S⟩
   refine ⟨_, rfl, fun _ T => ?_⟩
   replace S : SL ([sl .ro ku8 A32 k33 x31.1.Key, sl .ro ku8 A34 k35 x31.1.Value, sl .own kapi_Value A23 k24 x22, (y1 A2 k3 x1), (y5 A4 k5 x1), (y2 A6 k7 x1), (y11 A9 k10 x8), (y7 A11 k12 x8), blk b13 (y0 x1 A2 k3 A4 k5 A6 k7), (y3 b14 A9 x8 k10 A11 k12), sl .ro ku8 A26 k27 x25] ++ F) _ := S.join.only [0, 0, 3, 3, 3, 3, 3, 3, 3, 3, 3] rfl
   refine r_pv T rfl rfl fun _ T => r_pv T rfl rfl fun _ T => r_pv T rfl rfl fun _ T => r_alloc T S zv31 (cs := [.slice none 0 0, .slice none 0 0]) rfl rfl fun _ _ b36 S T => ?_
   refine r_stBA (ix := 0) (vs := [.slice A32 x31.1.Key.length k33, .slice A34 x31.1.Value.length k35]) (l' := [blk b36 [.slice A32 x31.1.Key.length k33, .slice A34 x31.1.Value.length k35], sl .ro ku8 A32 k33 x31.1.Key, sl .ro ku8 A34 k35 x31.1.Value, sl .own kapi_Value A23 k24 x22, (y1 A2 k3 x1), (y5 A4 k5 x1), (y2 A6 k7 x1), (y11 A9 k10 x8), (y7 A11 k12 x8), blk b13 (y0 x1 A2 k3 A4 k5 A6 k7), (y3 b14 A9 x8 k10 A11 k12), sl .ro ku8 A26 k27 x25]) T S rfl rfl rfl rfl (by simp) Tryd.sizeOf31 (Nat.le_of_ble_eq_true rfl) rfl fun _ S => ?_
   refine r_pv T rfl rfl fun _ T => ?_
   refine Gets.seq (Gets.seq ?_)
   refine rg (r_pv T rfl rfl fun _ T => r_pv T rfl rfl fun _ T => r_pv T rfl rfl fun _ T => ?_)
   rcases ifE H with ⟨h37, H⟩ | ⟨h37, H⟩
   ·refine g_no T rfl rfl h37 rfl fun _ T => ?_
    refine g_no T rfl rfl h37 rfl fun _ T => g_no T rfl rfl h37 rfl fun _ T => g_no T rfl rfl h37 rfl fun _ T => g_no T rfl rfl h37 rfl fun _ T => ?_
    refine g_no T rfl rfl h37 rfl fun _ T => g_no T rfl rfl h37 rfl fun _ T => r_pickT T rfl h37 rfl rfl fun _ T => r_pv T rfl rfl fun _ T => ?_
    refine g_no T rfl rfl rfl rfl fun _ T => g_no T rfl rfl rfl rfl fun _ T => g_no T rfl rfl rfl rfl fun _ T => g_no T rfl rfl rfl rfl fun _ T => ?_
    refine g_no T rfl rfl rfl rfl fun _ T => g_no T rfl rfl rfl rfl fun _ T => g_no T rfl rfl rfl rfl fun _ T => r_pickT T rfl rfl rfl rfl fun _ T => ?_
    refine cdT T rfl rfl (Gets.seq ?_)
    exact J1_ok F r z x1 A2 k3 A4 k5 A6 k7 x8 A9 k10 A11 k12 _ _ (T.sub trivial) (S.only (p := [(y1 A2 k3 x1), (y5 A4 k5 x1), (y2 A6 k7 x1), (y11 A9 k10 x8), (y7 A11 k12 x8)]) [4, 4, 4, 4, 4] rfl) H
   ·refine g_yes T rfl rfl h37 ?_
    refine r_fa (o' := 0) T rfl Tryd.runUnderlying31 rfl Tryd.sizeOf29 rfl rfl fun _ T => g_yes T rfl rfl h37 (r_ldB (ix := 0) T S rfl Tryd.isAgg29 rfl rfl rfl fun _ T => g_yes T rfl rfl h37 ?_)
    refine r_b2s (ix := 1) (xs := x31.1.Key) T S rfl rfl Tryd.runUnderlying29 Tryd.runUnderlying9 Tryd.runUnderlying5 rfl fun _ T => g_yes T rfl rfl h37 (r_fa (o' := 0) T rfl Tryd.runUnderlying31 rfl Tryd.sizeOf29 rfl rfl fun _ T => g_yes T rfl rfl h37 ?_)
    refine r_ldB (ix := 10) T S rfl Tryd.isAgg29 rfl rfl rfl fun _ T => g_yes T rfl rfl h37 (r_b2s (ix := 7) (xs := x8.Key) T S rfl rfl Tryd.runUnderlying29 Tryd.runUnderlying9 Tryd.runUnderlying5 rfl fun _ T => g_yes T rfl rfl h37 ?_)
    refine r_pv T rfl rfl fun _ T => r_pickF T rfl h37 rfl rfl fun _ T => r_pv T rfl rfl fun _ T => ?_
    rcases ifE H with ⟨h38, H⟩ | ⟨h38, H⟩
    ·refine g_no T rfl rfl h38 rfl fun _ T => ?_
     refine g_no T rfl rfl h38 rfl fun _ T => g_no T rfl rfl h38 rfl fun _ T => g_no T rfl rfl h38 rfl fun _ T => g_no T rfl rfl h38 rfl fun _ T => ?_
     refine g_no T rfl rfl h38 rfl fun _ T => g_no T rfl rfl h38 rfl fun _ T => r_pickT T rfl h38 rfl rfl fun _ T => cdT T rfl rfl ?_
     refine Gets.seq ?_
     exact J1_ok F r z x1 A2 k3 A4 k5 A6 k7 x8 A9 k10 A11 k12 _ _ (T.sub trivial) (S.only (p := [(y1 A2 k3 x1), (y5 A4 k5 x1), (y2 A6 k7 x1), (y11 A9 k10 x8), (y7 A11 k12 x8)]) [4, 4, 4, 4, 4] rfl) H
    ·refine g_yes T rfl rfl h38 ?_
     refine r_fa (o' := 1) T rfl Tryd.runUnderlying31 rfl Tryd.sizeOf29 rfl rfl fun _ T => g_yes T rfl rfl h38 (r_ldB (ix := 0) T S rfl Tryd.isAgg29 rfl rfl rfl fun _ T => g_yes T rfl rfl h38 ?_)
     refine r_b2s (ix := 2) (xs := x31.1.Value) T S rfl rfl Tryd.runUnderlying29 Tryd.runUnderlying9 Tryd.runUnderlying5 rfl fun _ T => g_yes T rfl rfl h38 (r_fa (o' := 1) T rfl Tryd.runUnderlying31 rfl Tryd.sizeOf29 rfl rfl fun _ T => g_yes T rfl rfl h38 ?_)
     refine r_ldB (ix := 10) T S rfl Tryd.isAgg29 rfl rfl rfl fun _ T => g_yes T rfl rfl h38 (r_b2s (ix := 8) (xs := x8.Value) T S rfl rfl Tryd.runUnderlying29 Tryd.runUnderlying9 Tryd.runUnderlying5 rfl fun _ T => g_yes T rfl rfl h38 ?_)
     refine r_pv T rfl rfl fun _ T => r_pickF T rfl h38 rfl rfl fun _ T => ?_
     rcases ifE H with ⟨h39, H⟩ | ⟨h39, H⟩
     ·refine cdT T rfl h39 ?_
      refine Gets.seq ?_
      exact J1_ok F r z x1 A2 k3 A4 k5 A6 k7 x8 A9 k10 A11 k12 _ _ (T.sub trivial) (S.only (p := [(y1 A2 k3 x1), (y5 A4 k5 x1), (y2 A6 k7 x1), (y11 A9 k10 x8), (y7 A11 k12 x8)]) [4, 4, 4, 4, 4] rfl) H
     ·refine cdF T rfl h39 ?_
      refine Gets.skip (Gets.seq ?_)
      refine rg (r_pv T rfl rfl fun _ T => r_pv T rfl rfl fun _ T => r_pv T rfl rfl fun _ T => ?_)
      replace H := Option.some.inj H
      subst H
      exact rtn T Tryd.func11 rfl rfl ⟨A23, k24, rfl, (S.only (p := [sl .own kapi_Value A23 k24 x22, (y1 A2 k3 x1), (y5 A4 k5 x1), (y2 A6 k7 x1), (y11 A9 k10 x8), (y7 A11 k12 x8)]) [3, 3, 3, 3, 3, 3] rfl)⟩
theorem ok (F : List Atom) (w : World) (z : Nat) (x1 : api_Table) (x8 : api_KV) {A2 : OA} {k3 : Nat} {A4 : OA} {k5 : Nat} {A6 : OA} {k7 : Nat} {A9 : OA} {k10 : Nat} {A11 : OA} {k12 : Nat} (S : SL ([(y1 A2 k3 x1), (y5 A4 k5 x1), (y2 A6 k7 x1), (y11 A9 k10 x8), (y7 A11 k12 x8)] ++ F) w) (r : (List api_Value) × Int) (H : f z x1 x8 = some r) : Calls Tryd.prog 11 #[(y9 x1 A2 k3 A4 k5 A6 k7), .agg #[.slice A9 x8.Key.length k10, .slice A11 x8.Value.length k12]] w (R F x1 A2 k3 A4 k5 A6 k7 x8 A9 k10 A11 k12 r) := by
 refine enter (vs := [(y9 x1 A2 k3 A4 k5 A6 k7), .agg #[.slice A9 x8.Key.length k10, .slice A11 x8.Value.length k12]]) Tryd.func11 rfl Tryd.ntmps11 (Nat.le_of_ble_eq_true rfl) fun a T => ?_
 refine Gets.seq (rg (r_box T S rfl (cs := (y0 x1 A2 k3 A4 k5 A6 k7)) rfl rfl fun _ _ b13 S T => r_box T S rfl (cs := [.slice A9 x8.Key.length k10, .slice A11 x8.Value.length k12]) rfl rfl fun _ _ b14 S T => ?_))
 refine r_pv T rfl rfl fun _ T => r_pv T rfl rfl fun _ T => Gets.seq (rg ?_)
 refine r_ldBA (ix := 1) (ds := (y0 x1 A2 k3 A4 k5 A6 k7)) T S rfl Tryd.isAgg26 rfl rfl Tryd.sizeOf26 rfl fun _ T => ?_
 replace S := S.dup (i := 2) rfl
 replace S := S.dup (i := 4) rfl
 replace S := S.dup (i := 6) rfl
 replace S := S.nil ki64 .ro
 obtain ⟨x16, h15, H⟩ := bd H
 refine r_call T Tryd.call17 rfl rfl (cormorantref20_tableMay.ok _ _ z x1 ([] : List Int) (S.sel (p := [(y1 A2 k3 x1), (y5 A4 k5 x1), (y2 A6 k7 x1), sl .ro ki64 none 0 ([] : List Int)]) (is := [3, 2, 1, 0]) rfl) _ h15) ?_
 rintro _ _ ⟨rfl, S⟩
 refine ⟨_, rfl, fun _ T => ?_⟩
 replace S : SL ([sl .ro ki64 none 0 ([] : List Int), (y3 b14 A9 x8 k10 A11 k12), blk b13 (y0 x1 A2 k3 A4 k5 A6 k7), (y1 A2 k3 x1), (y5 A4 k5 x1), (y2 A6 k7 x1), (y11 A9 k10 x8), (y7 A11 k12 x8)] ++ F) _ := S.join.only [3, 3, 3, 3, 3, 3, 3, 3] rfl
 refine r_pv T rfl rfl fun _ T => ?_
 refine Gets.seq (Gets.seq ?_)
 refine rg (r_pv T rfl rfl fun _ T => r_pv T rfl rfl fun _ T => ?_)
 rcases ifE H with ⟨h17, H⟩ | ⟨h17, H⟩
 ·refine cdT T rfl h17 ?_
  refine Gets.seq (rg (r_pv T rfl rfl fun _ T => r_pv T rfl rfl fun _ T => ?_))
  replace S := S.nil kapi_Value .own
  replace H := Option.some.inj H
  subst H
  exact rtn T Tryd.func11 rfl rfl ⟨none, 0, rfl, (S.only (p := [(y10), (y1 A2 k3 x1), (y5 A4 k5 x1), (y2 A6 k7 x1), (y11 A9 k10 x8), (y7 A11 k12 x8)]) [0, 3, 3, 3, 3, 3] rfl)⟩
 ·refine cdF T rfl h17 ?_
  refine Gets.skip (Gets.seq (Gets.seq ?_))
  refine rg (r_fa (o' := 0) T rfl Tryd.runUnderlying31 rfl Tryd.sizeOf29 rfl rfl fun _ T => r_ldB (ix := 1) T S rfl Tryd.isAgg29 rfl rfl rfl fun _ T => r_lenS T rfl Tryd.runUnderlying29 rfl fun _ T => ?_)
  refine r_pv T rfl rfl fun _ T => ?_
  rcases ifE H with ⟨h18, H⟩ | ⟨h18, H⟩
  ·refine cdT T rfl h18 ?_
   refine Gets.seq (rg (r_pv T rfl rfl fun _ T => r_pv T rfl rfl fun _ T => ?_))
   replace S := S.nil kapi_Value .own
   replace H := Option.some.inj H
   subst H
   exact rtn T Tryd.func11 rfl rfl ⟨none, 0, rfl, (S.only (p := [(y10), (y1 A2 k3 x1), (y5 A4 k5 x1), (y2 A6 k7 x1), (y11 A9 k10 x8), (y7 A11 k12 x8)]) [0, 3, 3, 3, 3, 3] rfl)⟩
  ·refine cdF T rfl h18 ?_
   refine Gets.skip (Gets.seq ?_)
   refine rg (r_fa (o' := 2) T rfl Tryd.runUnderlying26 rfl Tryd.sizeOf22 rfl rfl fun _ T => r_ldB (ix := 2) T S rfl Tryd.isAgg22 rfl rfl rfl fun _ T => r_lenS T rfl Tryd.runUnderlying22 rfl fun _ T => ?_)
   obtain ⟨h19, H⟩ := ck H
   refine r_make (κ := kapi_Value) T S rfl rfl sty27 dapi_Value (fun _ => ⟨_, _, rfl, rfl, ⟨_, _, rfl, rfl, ⟨_, _, rfl, rfl, rfl⟩⟩⟩) h19.1 (Int.le_refl _) (by decide) (by have := h19.2.2; omega) rfl fun _ _ b20 S T => ?_
   replace T := T.re (s := 29) (v' := .slice (some ⟨b20, 0, none⟩) (List.replicate (Int.toNat (x1.Columns.length : Int)) dapi_Value).length (Int.toNat (x1.Columns.length : Int))) rfl (by simp)
   refine r_pv T rfl rfl fun _ T => Gets.seq ?_
   have h2301 := S.len (i := 7) rfl
   obtain ⟨h2302, H⟩ := ck H
   replace S := S.cutR (ix := 7) (i := 17) (j := (x8.Key.length : Int)) (k := (k10 : Int)) rfl (by decide) h2302 (Int.le_refl _) (by omega) (by omega)
   refine Gets.drawn (l := [(y4 A9 k10 x8), sl .own kapi_Value (some ⟨b20, 0, none⟩) (Int.toNat (x1.Columns.length : Int)) (List.replicate (Int.toNat (x1.Columns.length : Int)) dapi_Value), (y3 b14 A9 x8 k10 A11 k12), blk b13 (y0 x1 A2 k3 A4 k5 A6 k7), (y1 A2 k3 x1), (y5 A4 k5 x1), (y2 A6 k7 x1), (y11 A9 k10 x8), (y7 A11 k12 x8)]) (V := [some ((y9 x1 A2 k3 A4 k5 A6 k7), true), some (.pointer (some ⟨b13, 3, none⟩), true), some (.slice A4 x1.Key.length k5, true), some (.pointer (some ⟨b14, 0, none⟩), true), some (.slice A9 x8.Key.length k10, true), some (.slice (slA A9 (Int.toNat (k10 : Int)) (Int.toNat 17) 1) ((cut x8.Key (Int.toNat 17) (Int.toNat (x8.Key.length : Int))).length) (Int.toNat (k10 : Int) - Int.toNat 17), true), some ((y8 b20 x1), true), none, none, none, none, none, none]) mixed T (S.only [0, 0, 1, 1, 1, 1, 1, 1, 1] rfl) rfl ?_
   refine stage (some 7) rfl rfl ⟨⟨_, _, rfl, (avl [2] rfl), fun _ _ _ T S => r_ldBA (ix := 3) (ds := (y0 x1 A2 k3 A4 k5 A6 k7)) T S rfl Tryd.isAgg26 rfl rfl Tryd.sizeOf26 rfl fun _ T => ⟨rfl, T⟩⟩, ⟨_, _, rfl, (avl [2] rfl), fun _ _ _ T S => r_fa (o' := 3) T rfl Tryd.runUnderlying26 rfl Tryd.sizeOf23 rfl rfl fun _ T => ⟨rfl, T⟩⟩, ⟨_, _, rfl, (avl [32] rfl), fun _ _ _ T S => r_ldB (ix := 3) T S rfl Tryd.isAgg23 rfl rfl rfl fun _ T => ⟨rfl, T⟩⟩, ⟨_, _, rfl, (avl [3] rfl), fun _ _ _ T S => r_fa (o' := 0) T rfl Tryd.runUnderlying31 rfl Tryd.sizeOf29 rfl rfl fun _ T => ⟨rfl, T⟩⟩, ⟨_, _, rfl, (avl [34] rfl), fun _ _ _ T S => r_ldB (ix := 2) T S rfl Tryd.isAgg29 rfl rfl rfl fun _ T => ⟨rfl, T⟩⟩, ⟨_, _, rfl, (avl [35] rfl), fun _ _ _ T S => r_slQ (xs := x8.Key) T rfl (fun h => by cases h) rfl rfl rfl (by decide) h2302 (Int.le_refl _) (by omega) (by omega) Tryd.runUnderlying29 Tryd.sizeOf5 rfl fun _ T => ⟨rfl, T⟩⟩, ⟨_, _, rfl, (avl [7] rfl), fun _ _ _ T S => r_pv T rfl rfl fun _ T => ⟨rfl, T⟩⟩, trivial⟩ rfl (fun i hi => ?_) (fun h => by cases h)
   cases hi
   refine ⟨rfl, _, _, rfl, (avl [31, 33, 36, 37] rfl), fun u a w T S => ?_⟩
   replace S := S.dup (i := 4) rfl
   replace S := S.dup (i := 6) rfl
   replace S := S.dup (i := 8) rfl
   replace S := S.dup (i := 8) rfl
   obtain ⟨x2422, h2421, H⟩ := bd H
   refine r_call T Tryd.call35 rfl rfl (cormorantref20_taken.ok _ _ z x1 x1.Key (cut x8.Key (Int.toNat 17) (Int.toNat (x8.Key.length : Int))) (List.replicate (Int.toNat (x1.Columns.length : Int)) dapi_Value) (S.sel (p := [(y1 A2 k3 x1), (y5 A4 k5 x1), (y2 A6 k7 x1), (y5 A4 k5 x1), (y4 A9 k10 x8), sl .own kapi_Value (some ⟨b20, 0, none⟩) (Int.toNat (x1.Columns.length : Int)) (List.replicate (Int.toNat (x1.Columns.length : Int)) dapi_Value)]) (is := [3, 2, 1, 0, 0, 0]) rfl) _ h2421) ?_
   rintro _ _ ⟨A2423, k2424, rfl, S⟩
   refine ⟨_, rfl, fun _ T => ?_⟩
   replace S : SL ([sl .ro ku8 A2423 k2424 x2422.1, (y4 A9 k10 x8), sl .own kapi_Value (some ⟨b20, 0, none⟩) (Int.toNat (x1.Columns.length : Int)) x2422.2.2, pr (x2422.2.2.length = (List.replicate (Int.toNat (x1.Columns.length : Int)) dapi_Value).length), (y3 b14 A9 x8 k10 A11 k12), blk b13 (y0 x1 A2 k3 A4 k5 A6 k7), (y1 A2 k3 x1), (y5 A4 k5 x1), (y2 A6 k7 x1), (y11 A9 k10 x8), (y7 A11 k12 x8)] ++ F) _ := S.join.only [0, 4, 4, 4, 4, 4, 4, 4, 4, 4, 4] rfl
   have h2425 := (S.getp (i := 3) rfl)
   refine ⟨_, [some ((y9 x1 A2 k3 A4 k5 A6 k7), false), some (.pointer (some ⟨b13, 3, none⟩), true), some (.slice A4 x1.Key.length k5, false), some (.pointer (some ⟨b14, 0, none⟩), true), some (.slice A9 x8.Key.length k10, true), some (.slice (slA A9 (Int.toNat (k10 : Int)) (Int.toNat 17) 1) ((cut x8.Key (Int.toNat 17) (Int.toNat (x8.Key.length : Int))).length) (Int.toNat (k10 : Int) - Int.toNat 17), false), some ((y8 b20 x1), false), some (.tuple #[.slice A2423 x2422.1.length k2424, .bool x2422.2.1], false), some (.tuple #[.slice A2423 x2422.1.length k2424, .bool x2422.2.1], true), some (.slice A2423 x2422.1.length k2424, true), some (.bool x2422.2.1, true), some (.slice A2423 x2422.1.length k2424, true), some (.bool x2422.2.1, true)], [sl .ro ku8 A2423 k2424 x2422.1, (y4 A9 k10 x8), sl .own kapi_Value (some ⟨b20, 0, none⟩) (Int.toNat (x1.Columns.length : Int)) x2422.2.2, pr (x2422.2.2.length = (List.replicate (Int.toNat (x1.Columns.length : Int)) dapi_Value).length), (y3 b14 A9 x8 k10 A11 k12), blk b13 (y0 x1 A2 k3 A4 k5 A6 k7), (y1 A2 k3 x1), (y5 A4 k5 x1), (y2 A6 k7 x1), (y11 A9 k10 x8), (y7 A11 k12 x8)], rfl, (by repeat first | exact kx0 | apply kxs | apply kxn), rfl, ?_, T, S⟩
   refine stage none rfl rfl ⟨⟨_, _, rfl, (avl [2] rfl), fun _ _ _ T S => r_fa (o' := 3) T rfl Tryd.runUnderlying26 rfl Tryd.sizeOf23 rfl rfl fun _ T => ⟨rfl, T⟩⟩, ⟨_, _, rfl, (avl [3] rfl), fun _ _ _ T S => r_fa (o' := 0) T rfl Tryd.runUnderlying31 rfl Tryd.sizeOf29 rfl rfl fun _ T => ⟨rfl, T⟩⟩, ⟨_, _, rfl, (avl [34] rfl), fun _ _ _ T S => r_ldB (ix := 4) T S rfl Tryd.isAgg29 rfl rfl rfl fun _ T => ⟨rfl, T⟩⟩, ⟨_, _, rfl, (avl [38] rfl), fun _ _ _ T S => r_pv T rfl rfl fun _ T => ⟨rfl, T⟩⟩, ⟨_, _, rfl, (avl [30] rfl), fun _ _ _ T S => r_pv T rfl rfl fun _ T => ⟨rfl, T⟩⟩, ⟨_, _, rfl, (avl [30] rfl), fun _ _ _ T S => r_pv T rfl rfl fun _ T => ⟨rfl, T⟩⟩, ⟨_, _, rfl, (avl [39] rfl), fun _ _ _ T S => r_pv T rfl rfl fun _ T => ⟨rfl, T⟩⟩, ⟨_, _, rfl, (avl [40] rfl), fun _ _ _ T S => r_pv T rfl rfl fun _ T => ⟨rfl, T⟩⟩, trivial⟩ rfl (fun i hi => by cases hi) (fun _ _ a w T hv hb S => ?_)
   replace T := T.sub (r := [(2, .pointer (some ⟨b13, 0, none⟩)), (3, .pointer (some ⟨b14, 0, none⟩)), (7, (y8 b20 x1)), (9, .bool x2422.2.1)]) ⟨hb 2 _ rfl rfl, hb 3 _ rfl rfl, hb 7 _ rfl rfl, hv 12 _ 9 rfl rfl rfl, trivial⟩
   refine Gets.seq (Gets.seq ?_)
   refine rg (r_pv T rfl rfl fun _ T => r_pv T rfl rfl fun _ T => ?_)
   rcases ifE H with ⟨h21, H⟩ | ⟨h21, H⟩
   ·refine cdT T rfl h21 ?_
    refine Gets.seq (rg (r_pv T rfl rfl fun _ T => r_pv T rfl rfl fun _ T => ?_))
    replace S := S.nil kapi_Value .own
    replace H := Option.some.inj H
    subst H
    exact rtn T Tryd.func11 rfl rfl ⟨none, 0, rfl, (S.only (p := [(y10), (y1 A2 k3 x1), (y5 A4 k5 x1), (y2 A6 k7 x1), (y11 A9 k10 x8), (y7 A11 k12 x8)]) [0, 6, 6, 6, 6, 6] rfl)⟩
   ·refine cdF T rfl h21 ?_
    refine Gets.skip (Gets.seq ?_)
    refine rg (r_fa (o' := 1) T rfl Tryd.runUnderlying31 rfl Tryd.sizeOf29 rfl rfl fun _ T => r_ldB (ix := 4) T S rfl Tryd.isAgg29 rfl rfl rfl fun _ T => r_pv T rfl rfl fun _ T => ?_)
    refine Gets.seq (Gets.seq ?_)
    refine rg (r_pv T rfl rfl fun _ T => Gets.block (Gets.loop ?_))
    have T := T.re (s := 7) (v' := .slice (some ⟨b20, 0, none⟩) x2422.2.2.length (Int.toNat (x1.Columns.length : Int))) rfl (by rw [h2425])
    replace S := S.dup (i := 10) rfl
    exact L0_ok F r z x1 A2 k3 A4 k5 A6 k7 x8 A9 k10 A11 k12 b13 b14 z (some ⟨b20, 0, none⟩) x2422.2.2 (Int.toNat (x1.Columns.length : Int)) A11 x8.Value k12 0 _ _ (T.sub ⟨rfl, rfl, rfl, rfl, rfl, trivial⟩) (S.only (p := [(y1 A2 k3 x1), (y5 A4 k5 x1), (y2 A6 k7 x1), (y11 A9 k10 x8), (y7 A11 k12 x8), blk b13 (y0 x1 A2 k3 A4 k5 A6 k7), (y3 b14 A9 x8 k10 A11 k12), sl .own kapi_Value (some ⟨b20, 0, none⟩) (Int.toNat (x1.Columns.length : Int)) x2422.2.2, (y7 A11 k12 x8)]) [7, 7, 7, 7, 7, 6, 5, 3, 0] rfl) H
end cormorantref20_TakeRow
end Go.Proofs.YtohelmfkpmphoaaDoor
namespace Go.Proofs.YtohelmfkpmphoaaDoor
open Go Go.Proofs.YtohelmfkpmphoaaDoor.X
set_option linter.unusedVariables false
set_option linter.unusedSimpArgs false
theorem gi_set {α : Type} (d : α) (xs : List α) (n m : Int) (v : α) (hn : n.toNat < xs.length) : gi d (xs.set n.toNat v) m = if n.toNat = m.toNat then v else gi d xs m := by
 unfold gi
 rw [List.getElem?_set]
 by_cases e : n.toNat = m.toNat
 ·rw [if_pos e, if_pos e, if_pos hn]; rfl
 ·rw [if_neg e, if_neg e]
theorem gi0 (x : Int) (xs : List Int) : gi 0 (x :: xs) 0 = x := rfl
theorem cut1 (x : Int) (xs : List Int) : cut (x :: xs) (Int.toNat 1) (Int.toNat ((x :: xs).length : Int)) = xs := by
 rw [show Int.toNat ((x :: xs).length : Int) = (x :: xs).length by omega]
 show ((x :: xs).take (x :: xs).length).drop 1 = xs
 rw [List.take_length]; rfl
theorem cutD (xs : List Int) (n : Nat) : cut xs (Int.toNat (n : Int)) (Int.toNat (xs.length : Int)) = xs.drop n := by
 rw [show Int.toNat (xs.length : Int) = xs.length by omega, show Int.toNat (n : Int) = n by omega]
 exact cut_drop' xs n _ rfl
theorem empt {s : ByteArray} (h : s.size = 0) : s = (⟨#[]⟩ : ByteArray) := by
 cases s with
 | mk d =>
  have : d.size = 0 := h
  congr 1
  exact Array.eq_empty_of_size_eq_zero this
theorem byte_f (x : Int) (xs : List Int) (bad : Bool) : rowkey_reader_byte.f ⟨x :: xs, bad⟩ = some (x, ⟨xs, bad⟩) := by
 unfold rowkey_reader_byte.f
 dsimp only
 rw [if_n (by simp; omega), ck_y (by simp), ck_y (by simp; omega), cut1, gi0]
theorem byte_ok {r : rowkey_reader} (hb : Bys r.b) : Ok (rowkey_reader_byte.f r) fun p => (0 ≤ p.1 ∧ p.1 < 256) ∧ p.2.b.length ≤ r.b.length ∧ Bys p.2.b := by
 obtain ⟨b, bad⟩ := r
 cases b with
 | nil => exact ⟨_, rfl, ⟨Int.le_refl _, (by decide : (0 : Int) < 256)⟩, by simp, Bys.nil⟩
 | cons x xs =>
  rw [byte_f]
  exact Ok.some ⟨hb x (List.mem_cons_self ..), by simp, fun y hy => hb y (List.mem_cons_of_mem _ hy)⟩
theorem went_f (xs : List Int) (bad : Bool) (n : Nat) (h : n ≤ xs.length) : rowkey_reader_went.f ⟨xs, bad⟩ (n : Int) 0 = some ⟨xs.drop n, bad⟩ := by
 unfold rowkey_reader_went.f rowkey_reader_went.J0 rowkey_reader_went.J1
 dsimp only
 rw [cutD]
 cases bad
 ·rw [if_f, if_y (by decide), ck_y (by omega)]; rfl
 ·rw [if_t, if_y (by decide), ck_y (by omega)]
theorem went_ok {r : rowkey_reader} {n e : Int} (hb : Bys r.b) (h0 : 0 ≤ n) (h1 : e = 0 → n ≤ r.b.length) : Ok (rowkey_reader_went.f r n e) fun r' => r'.b.length ≤ r.b.length ∧ Bys r'.b := by
 unfold rowkey_reader_went.f rowkey_reader_went.J0 rowkey_reader_went.J1
 have key : ∀ x : Bool, Ok (If (e == 0) (Ck (0 ≤ n ∧ n ≤ (r.b.length : Int)) (some (rowkey_reader.mk (cut r.b (Int.toNat n) (Int.toNat (r.b.length : Int))) x))) (some (rowkey_reader.mk r.b x))) fun r' => r'.b.length ≤ r.b.length ∧ Bys r'.b := by
  intro x
  refine Ok.ite (fun h => ?_) fun _ => Ok.some ⟨Nat.le_refl _, hb⟩
  have := h1 (by simpa using h)
  rw [ck_y ⟨h0, this⟩]
  exact Ok.some ⟨by show (cut r.b _ _).length ≤ _; rw [cut_len _ _ _ (by omega)]; omega, hb.cut _ _⟩
 exact Ok.ite (fun _ => key true) fun _ => key _
theorem zero_in : inR 0 := by unfold inR; decide
def RdOk (b : List Int) (p : api_Value × rowkey_reader) : Prop := inR p.1.Int ∧ p.2.b.length ≤ b.length ∧ Bys p.2.b
section
variable {z : Nat} (hz : 16777216 ≤ z)
include hz
theorem value58_ok {r : rowkey_reader} {ty nl : Int} (hb : Bys r.b) (hl : r.b.length ≤ 1048576) : Ok (rowkey_reader_value_at58.f z r ty nl) (RdOk r.b) := by
 unfold rowkey_reader_value_at58.f rowkey_reader_value_at58.J0
 refine (byte_ok hb).bd fun p hp => ?_
 refine Ok.ite (fun _ => Ok.some ⟨zero_in, hp.2⟩) fun _ => Ok.ite (fun _ => ?_) fun _ => Ok.ite (fun _ => ?_) fun _ => ?_
 ·refine (TakeKeyInt_ok hz (by omega)).bd fun q hq => (went_ok hp.2.2 hq.2.1 hq.2.2).bd fun w hw => Ok.some ⟨hq.1, by dsimp only; omega, hw.2⟩
 ·refine (byte_ok hp.2.2).bd fun q hq => Ok.some ⟨?_, by dsimp only; omega, hq.2.2⟩
  exact wI_in _
 ·refine (TakeKeyText_ok hz hp.2.2 (by omega)).bd fun q hq => (went_ok hp.2.2 hq.1 hq.2).bd fun w hw => Ok.some ⟨zero_in, by dsimp only; omega, hw.2⟩
theorem value33_ok {r : rowkey_reader} {ty nl : Int} (hb : Bys r.b) (hl : r.b.length ≤ 1048576) : Ok (rowkey_reader_value_at33.f z r ty nl) (RdOk r.b) := by
 unfold rowkey_reader_value_at33.f rowkey_reader_value_at33.J0
 refine (byte_ok hb).bd fun p hp => ?_
 refine Ok.ite (fun _ => Ok.some ⟨zero_in, hp.2⟩) fun _ => Ok.ite (fun _ => ?_) fun _ => Ok.ite (fun _ => ?_) fun _ => ?_
 ·refine (TakeKeyInt_ok hz (by omega)).bd fun q hq => (went_ok hp.2.2 hq.2.1 hq.2.2).bd fun w hw => Ok.some ⟨hq.1, by dsimp only; omega, hw.2⟩
 ·refine (byte_ok hp.2.2).bd fun q hq => Ok.some ⟨?_, by dsimp only; omega, hq.2.2⟩
  exact wI_in _
 ·refine (TakeText_ok hz (by omega)).bd fun q hq => (went_ok hp.2.2 hq.1 hq.2).bd fun w hw => Ok.some ⟨zero_in, by dsimp only; omega, hw.2⟩
omit hz in
theorem okV.cases {v : api_Value} (h : okV v) : (v.Null = true ∧ v = ⟨v.Type', true, 0, ⟨#[]⟩⟩) ∨ (v.Null = false ∧ v.Type' = 1 ∧ v = ⟨1, false, v.Int, ⟨#[]⟩⟩) ∨ (v.Null = false ∧ v.Type' = 2 ∧ (v.Int = 0 ∨ v.Int = 1) ∧ v = ⟨2, false, v.Int, ⟨#[]⟩⟩) ∨ (v.Null = false ∧ v.Type' = 3 ∧ v = ⟨3, false, 0, v.Text⟩) := by
 obtain ⟨h1, h2, h3⟩ := h
 obtain ⟨_, q2, q3, q4, q5⟩ := of_decide_eq_true h3
 obtain ⟨ty, nl, n, s⟩ := v
 cases nl
 ·right
  dsimp only at *
  by_cases e1 : ty = 1
  ·left; subst e1; exact ⟨rfl, rfl, by rw [empt (q5 (by decide) (by decide))]⟩
  ·right
   by_cases e2 : ty = 2
   ·left; subst e2; exact ⟨rfl, rfl, (q4 rfl).2, by rw [empt (q4 rfl).1]⟩
   ·right
    have e3 : ty = 3 := by omega
    subst e3
    exact ⟨rfl, rfl, by rw [(q3 rfl).1]⟩
 ·left
  have := q2 rfl
  exact ⟨rfl, by dsimp only at *; rw [this.1, empt this.2]⟩
theorem value58_f {v : api_Value} (h : okV v) {rest : List Int} (hr : Bys rest) (hl : rest.length ≤ 1048576) (bad : Bool) : rowkey_reader_value_at58.f z ⟨keyV v ++ rest, bad⟩ v.Type' 2 = some (v, ⟨rest, bad⟩) := by
 unfold rowkey_reader_value_at58.f rowkey_reader_value_at58.J0
 rcases h.cases with ⟨hn, e⟩ | ⟨hn, ht, e⟩ | ⟨hn, ht, hi, e⟩ | ⟨hn, ht, e⟩
 ·have : keyV v = [2] := by simp [keyV, hn]
  rw [this, List.singleton_append, byte_f, bd_some]
  dsimp only
  rw [if_y (by decide), ← e]
 ·have : keyV v = 1 :: kI v.Int := by simp [keyV, hn, ht]
  rw [this, List.cons_append, byte_f, bd_some]
  dsimp only
  rw [if_n (by decide), if_y (by simpa using ht), TakeKeyInt_f hz h.1, bd_some]
  dsimp only
  rw [show (8 : Int) = ((8 : Nat) : Int) from rfl, went_f _ _ _ (by simp [kI_len]), bd_some, ht, ← e]
  have : (kI v.Int ++ rest).drop 8 = rest := List.drop_left' (kI_len _)
  rw [this]
 ·have : keyV v = [1, v.Int % 256] := by simp [keyV, hn, ht]
  rw [this]
  show Bd (rowkey_reader_byte.f ⟨1 :: (v.Int % 256 :: rest), bad⟩) _ = _
  rw [byte_f, bd_some]
  dsimp only
  rw [if_n (by decide), if_n (by rw [ht]; decide), if_y (by rw [ht]; decide), byte_f, bd_some]
  dsimp only
  rw [show v.Int % 256 = v.Int by omega, wI (by omega), ht, ← e]
 ·have hx := h.text ht
  have hsl := sbytes_len v.Text
  have : keyV v = 1 :: kT (sbytes v.Text) := by simp [keyV, hn, ht]
  rw [this, List.cons_append, byte_f, bd_some]
  dsimp only
  rw [if_n (by decide), if_n (by rw [ht]; decide), if_n (by rw [ht]; decide), TakeKeyText_f hz (sbytes_bys _) hx.2 hr (by simp [kT]; omega), bd_some]
  dsimp only
  rw [went_f _ _ _ (by simp [kT]), bd_some, bstr_sbytes, ht, ← e]
  have : (kT (sbytes v.Text) ++ rest).drop ((sbytes v.Text).length + 2) = rest := List.drop_left' (by simp [kT])
  rw [this]
theorem value33_f {v : api_Value} (h : okV v) {rest : List Int} (hr : Bys rest) (hl : rest.length ≤ 1048576) (bad : Bool) : rowkey_reader_value_at33.f z ⟨valV v ++ rest, bad⟩ v.Type' 0 = some (v, ⟨rest, bad⟩) := by
 unfold rowkey_reader_value_at33.f rowkey_reader_value_at33.J0
 rcases h.cases with ⟨hn, e⟩ | ⟨hn, ht, e⟩ | ⟨hn, ht, hi, e⟩ | ⟨hn, ht, e⟩
 ·have : valV v = [0] := by simp [valV, hn]
  rw [this, List.singleton_append, byte_f, bd_some]
  dsimp only
  rw [if_y (by decide), ← e]
 ·have : valV v = 1 :: kI v.Int := by simp [valV, keyV, hn, ht]
  rw [this, List.cons_append, byte_f, bd_some]
  dsimp only
  rw [if_n (by decide), if_y (by simpa using ht), TakeKeyInt_f hz h.1, bd_some]
  dsimp only
  rw [show (8 : Int) = ((8 : Nat) : Int) from rfl, went_f _ _ _ (by simp [kI_len]), bd_some, ht, ← e]
  have : (kI v.Int ++ rest).drop 8 = rest := List.drop_left' (kI_len _)
  rw [this]
 ·have : valV v = [1, v.Int % 256] := by simp [valV, keyV, hn, ht]
  rw [this]
  show Bd (rowkey_reader_byte.f ⟨1 :: (v.Int % 256 :: rest), bad⟩) _ = _
  rw [byte_f, bd_some]
  dsimp only
  rw [if_n (by decide), if_n (by rw [ht]; decide), if_y (by rw [ht]; decide), byte_f, bd_some]
  dsimp only
  rw [show v.Int % 256 = v.Int by omega, wI (by omega), ht, ← e]
 ·have hx := h.text ht
  have hsl := sbytes_len v.Text
  have htl := txt_len (s := sbytes v.Text) (by omega)
  have : valV v = 1 :: txt (sbytes v.Text) := by simp [valV, hn, ht]
  rw [this, List.cons_append, byte_f, bd_some]
  dsimp only
  rw [if_n (by decide), if_n (by rw [ht]; decide), if_n (by rw [ht]; decide), TakeText_f hz (by omega) (by simp; omega), bd_some]
  dsimp only
  rw [went_f _ _ _ (by simp), bd_some, bstr_sbytes, ht, ← e, List.drop_left' rfl]
omit hz in
theorem refByte_f (x : Int) (xs : List Int) (bad : Bool) : cormorantref18_reader_byte.f ⟨x :: xs, bad⟩ = some (x, ⟨xs, bad⟩) := by
 unfold cormorantref18_reader_byte.f
 dsimp only
 rw [if_n (by simp; omega), ck_y (by simp), ck_y (by simp; omega), cut1, gi0]
omit hz in
theorem refByte_ok {r : cormorantref18_reader} (hb : Bys r.b) : Ok (cormorantref18_reader_byte.f r) fun p => (0 ≤ p.1 ∧ p.1 < 256) ∧ p.2.b.length ≤ r.b.length ∧ Bys p.2.b := by
 obtain ⟨b, bad⟩ := r
 cases b with
 | nil => exact ⟨_, rfl, ⟨Int.le_refl _, (by decide : (0 : Int) < 256)⟩, by simp, Bys.nil⟩
 | cons x xs =>
  rw [refByte_f]
  exact Ok.some ⟨hb x (List.mem_cons_self ..), by simp, fun y hy => hb y (List.mem_cons_of_mem _ hy)⟩
omit hz in
theorem refWent_f (xs : List Int) (bad : Bool) (n : Nat) (h : n ≤ xs.length) : cormorantref18_reader_went.f ⟨xs, bad⟩ (n : Int) 0 = some ⟨xs.drop n, bad⟩ := by
 unfold cormorantref18_reader_went.f
 dsimp only
 rw [cutD, if_n (by decide), ck_y (by omega)]
omit hz in
theorem refWent_ok {r : cormorantref18_reader} {n e : Int} (hb : Bys r.b) (h0 : 0 ≤ n) (h1 : e = 0 → n ≤ r.b.length) : Ok (cormorantref18_reader_went.f r n e) fun r' => r'.b.length ≤ r.b.length ∧ Bys r'.b := by
 unfold cormorantref18_reader_went.f
 refine Ok.ite (fun _ => Ok.some ⟨by simp, Bys.nil⟩) fun h => ?_
 have := h1 (by simpa using h)
 rw [ck_y ⟨h0, this⟩]
 exact Ok.some ⟨by show (cut r.b _ _).length ≤ _; rw [cut_len _ _ _ (by omega)]; omega, hb.cut _ _⟩
def TkOk (b : List Int) (p : api_Value × List Int × Bool) : Prop := inR p.1.Int ∧ p.2.1.length ≤ b.length ∧ Bys p.2.1
theorem TakeValue_ok {b : List Int} {ty : Int} (hb : Bys b) (hl : b.length ≤ 1048576) : Ok (cormorantref18_TakeValue.f z b ty) (TkOk b) := by
 unfold cormorantref18_TakeValue.f
 have : Ok (cormorantref18_reader_value.f z ⟨b, false⟩ ty) fun p => inR p.1.Int ∧ p.2.b.length ≤ b.length ∧ Bys p.2.b := by
  unfold cormorantref18_reader_value.f cormorantref18_reader_value.J0
  refine (refByte_ok (r := ⟨b, false⟩) hb).bd fun p hp => ?_
  have hp1 : p.2.b.length ≤ b.length := hp.2.1
  refine Ok.ite (fun _ => Ok.some ⟨zero_in, hp.2⟩) fun _ => Ok.ite (fun _ => ?_) fun _ => Ok.ite (fun _ => ?_) fun _ => Ok.ite (fun _ => ?_) fun _ => ?_
  ·refine (refTakeKeyInt_ok hz (by omega)).bd fun q hq => (refWent_ok hp.2.2 hq.2.1 hq.2.2).bd fun w hw => Ok.some ⟨hq.1, by dsimp only; omega, hw.2⟩
  ·refine (refByte_ok hp.2.2).bd fun q hq => Ok.some ⟨?_, by dsimp only; omega, hq.2.2⟩
   exact wI_in _
  ·unfold cormorantref18_reader_text.f
   refine Ok.bd (q := fun q => q.2.b.length ≤ b.length ∧ Bys q.2.b) ((refTakeText_ok hz (by omega)).bd fun q hq => (refWent_ok hp.2.2 hq.1 hq.2).bd fun w hw => Ok.some ⟨by dsimp only; omega, hw.2⟩) fun q hq => Ok.some ⟨zero_in, hq⟩
  ·exact Ok.some ⟨zero_in, hp.2⟩
 exact this.bd fun p hp => Ok.some hp
theorem TakeValue_f {v : api_Value} (h : okV v) {rest : List Int} (hr : Bys rest) (hl : rest.length ≤ 1048576) : cormorantref18_TakeValue.f z (valV v ++ rest) v.Type' = some (v, rest, true) := by
 unfold cormorantref18_TakeValue.f
 have : cormorantref18_reader_value.f z ⟨valV v ++ rest, false⟩ v.Type' = some (v, ⟨rest, false⟩) := by
  unfold cormorantref18_reader_value.f cormorantref18_reader_value.J0
  rcases h.cases with ⟨hn, e⟩ | ⟨hn, ht, e⟩ | ⟨hn, ht, hi, e⟩ | ⟨hn, ht, e⟩
  ·have : valV v = [0] := by simp [valV, hn]
   rw [this, List.singleton_append, refByte_f, bd_some]
   dsimp only
   rw [if_y (by decide), ← e]
  ·have : valV v = 1 :: kI v.Int := by simp [valV, keyV, hn, ht]
   rw [this, List.cons_append, refByte_f, bd_some]
   dsimp only
   rw [if_n (by decide), if_y (by simpa using ht), refTakeKeyInt_f hz h.1 hr, bd_some]
   dsimp only
   rw [show (8 : Int) = ((8 : Nat) : Int) from rfl, refWent_f _ _ _ (by simp [kI_len]), bd_some, ht, ← e]
   have : (kI v.Int ++ rest).drop 8 = rest := List.drop_left' (kI_len _)
   rw [this]
  ·have : valV v = [1, v.Int % 256] := by simp [valV, keyV, hn, ht]
   rw [this]
   show Bd (cormorantref18_reader_byte.f ⟨1 :: (v.Int % 256 :: rest), false⟩) _ = _
   rw [refByte_f, bd_some]
   dsimp only
   rw [if_n (by decide), if_n (by rw [ht]; decide), if_y (by rw [ht]; decide), refByte_f, bd_some]
   dsimp only
   rw [show v.Int % 256 = v.Int by omega, wI (by omega), ht, ← e]
  ·have hx := h.text ht
   have hsl := sbytes_len v.Text
   have htl := txt_len (s := sbytes v.Text) (by omega)
   have : valV v = 1 :: txt (sbytes v.Text) := by simp [valV, hn, ht]
   rw [this, List.cons_append, refByte_f, bd_some]
   dsimp only
   rw [if_n (by decide), if_n (by rw [ht]; decide), if_n (by rw [ht]; decide), if_y (by rw [ht]; decide)]
   unfold cormorantref18_reader_text.f
   dsimp only
   rw [refTakeText_f hz (by omega) (by omega), bd_some]
   dsimp only
   rw [refWent_f _ _ _ (by simp), bd_some, bd_some, bstr_sbytes, ht, ← e, List.drop_left' rfl]
 rw [this, bd_some]
 rfl
theorem takeKey_ok {b : List Int} {ty : Int} (hb : Bys b) (hl : b.length ≤ 1048576) : Ok (cormorantref20_takeKey.f z b ty) (TkOk b) := by
 unfold cormorantref20_takeKey.f
 cases b with
 | nil => exact ⟨_, rfl, zero_in, by simp, Bys.nil⟩
 | cons x xs =>
  have hx : Bys xs := fun y hy => hb y (List.mem_cons_of_mem _ hy)
  have hxl : xs.length ≤ 1048576 := by simp at hl; omega
  have hle : ∀ {ys : List Int}, ys.length ≤ xs.length → ys.length ≤ (x :: xs).length := fun h => by simp; omega
  have h1 : (1 : Int) ≤ ((x :: xs).length : Int) := by simp; omega
  rw [if_n (by simp; omega), ck_y (by omega), ck_y h1, ck_y h1, cut1]
  refine Ok.ite (fun _ => Ok.some ⟨zero_in, hle (Nat.le_refl _), hx⟩) fun _ => Ok.ite (fun _ => ?_) fun _ => Ok.ite (fun _ => ?_) fun _ => ?_
  ·refine (refTakeKeyInt_ok hz (by omega)).bd fun q hq => ?_
   refine Ok.ite (fun _ => Ok.some ⟨zero_in, by simp, Bys.nil⟩) fun he => ?_
   have := hq.2.2 (by simpa using he)
   rw [ck_y ⟨hq.2.1, this⟩]
   exact Ok.some ⟨hq.1, hle (by show (cut xs _ _).length ≤ _; rw [cut_len _ _ _ (by omega)]; omega), hx.cut _ _⟩
  ·cases xs with
   | nil => exact ⟨_, rfl, zero_in, by simp, Bys.nil⟩
   | cons y ys =>
    rw [if_n (by simp; omega), ck_y (by simp), ck_y (by simp; omega), cut1]
    refine Ok.some ⟨wI_in _, by simp; omega, fun w hw => hx w (List.mem_cons_of_mem _ hw)⟩
  ·refine (refTakeKeyText_ok hz (by omega)).bd fun q hq => ?_
   refine Ok.ite (fun _ => Ok.some ⟨zero_in, by simp, Bys.nil⟩) fun he => ?_
   have := hq.2 (by simpa using he)
   rw [ck_y ⟨hq.1, this⟩]
   exact Ok.some ⟨zero_in, hle (by show (cut xs _ _).length ≤ _; rw [cut_len _ _ _ (by omega)]; omega), hx.cut _ _⟩
theorem takeKey_f {v : api_Value} (h : okV v) {rest : List Int} (hr : Bys rest) (hl : rest.length ≤ 1048576) : cormorantref20_takeKey.f z (keyV v ++ rest) v.Type' = some (v, rest, true) := by
 unfold cormorantref20_takeKey.f
 rcases h.cases with ⟨hn, e⟩ | ⟨hn, ht, e⟩ | ⟨hn, ht, hi, e⟩ | ⟨hn, ht, e⟩
 ·have : keyV v = [2] := by simp [keyV, hn]
  rw [this, List.singleton_append, if_n (by simp; omega), ck_y (by simp), gi0, if_y (by decide), ck_y (by simp; omega), cut1, ← e]
 ·have : keyV v = 1 :: kI v.Int := by simp [keyV, hn, ht]
  rw [this, List.cons_append, if_n (by simp; omega), ck_y (by simp; omega), gi0, if_n (by decide), ck_y (by simp; omega), if_y (by rw [ht]; decide), cut1, refTakeKeyInt_f hz h.1 hr, bd_some]
  dsimp only
  rw [if_n (by decide), ck_y (by simp [kI_len]; omega), show (8 : Int) = ((8 : Nat) : Int) from rfl, cutD, ht, ← e]
  have : (kI v.Int ++ rest).drop 8 = rest := List.drop_left' (kI_len _)
  rw [this]
 ·have : keyV v = [1, v.Int % 256] := by simp [keyV, hn, ht]
  rw [this, show [1, v.Int % 256] ++ rest = 1 :: (v.Int % 256 :: rest) from rfl, if_n (by simp; omega), ck_y (by simp; omega), gi0, if_n (by decide), ck_y (by simp; omega), if_n (by rw [ht]; decide), if_y (by rw [ht]; decide), cut1, if_n (by simp; omega), ck_y (by simp), ck_y (by simp; omega), gi0, cut1, show v.Int % 256 = v.Int by omega, wI (by omega), ht, ← e]
 ·have hx := h.text ht
  have hsl := sbytes_len v.Text
  have : keyV v = 1 :: kT (sbytes v.Text) := by simp [keyV, hn, ht]
  rw [this, List.cons_append, if_n (by simp; omega), ck_y (by simp; omega), gi0, if_n (by decide), ck_y (by simp; omega), if_n (by rw [ht]; decide), if_n (by rw [ht]; decide), cut1, refTakeKeyText_f hz hx.2 (by simp [kT]; omega), bd_some]
  dsimp only
  rw [if_n (by decide), ck_y (by simp [kT]; omega), cutD, bstr_sbytes, ht, ← e]
  have : (kT (sbytes v.Text) ++ rest).drop ((sbytes v.Text).length + 2) = rest := List.drop_left' (by simp [kT])
  rw [this]
end
def stK (row : List api_Value) (r : List api_Value) (n : Int) : List api_Value := r.set n.toNat (gi dapi_Value row n)
def setK (row : List api_Value) (l : List Int) (r : List api_Value) : List api_Value := l.foldl (stK row) r
theorem stK_len (row r : List api_Value) (n : Int) : (stK row r n).length = r.length := by simp [stK]
theorem setK_len (row : List api_Value) (l : List Int) : ∀ r, (setK row l r).length = r.length := by
 induction l with
 | nil => intro r; rfl
 | cons n l ih => intro r; show (setK row l (stK row r n)).length = _; rw [ih, stK_len]
theorem setK_gi (row : List api_Value) : ∀ (l : List Int) (r : List api_Value) (m : Int), (∀ n ∈ l, 0 ≤ n ∧ n < (r.length : Int)) → 0 ≤ m → (gi dapi_Value r m = gi dapi_Value row m ∨ m ∈ l) → gi dapi_Value (setK row l r) m = gi dapi_Value row m
 | [], r, m, _, _, h => h.elim id fun h => by cases h
 | n :: l, r, m, hl, hm, h => by
  show gi dapi_Value (setK row l (stK row r n)) m = _
  have hn := hl n (List.mem_cons_self ..)
  refine setK_gi row l (stK row r n) m (fun q hq => by rw [stK_len]; exact hl q (List.mem_cons_of_mem _ hq)) hm ?_
  have hs : gi dapi_Value (stK row r n) m = if n.toNat = m.toNat then gi dapi_Value row n else gi dapi_Value r m := gi_set _ _ _ _ _ (by omega)
  rw [hs]
  by_cases e : n = m
  ·subst e; left; rw [if_pos rfl]
  ·rw [if_neg (by omega)]
   rcases h with h | h
   ·exact .inl h
   ·rcases List.mem_cons.1 h with h | h
    ·exact absurd h.symm e
    ·exact .inr h
def tyAt (t : api_Table) (row : List api_Value) (n : Int) : Prop := (gi dapi_Column t.Columns n).Type' = (gi dapi_Value row n).Type'
theorem keysS_bys (row : List api_Value) (l : List Int) : Bys (keysS row l) := by
 induction l with
 | nil => exact Bys.nil
 | cons n l ih => rw [keysS_cons]; exact (keyV_bys _).app ih
theorem valsF_bys (t : api_Table) (row : List api_Value) : ∀ k i, Bys (valsF t row k i)
 | 0, _ => Bys.nil
 | k + 1, i => by
  rw [valsF]
  refine Bys.app ?_ (valsF_bys t row k (i + 1))
  split
  ·exact Bys.nil
  ·exact valV_bys _
section
variable {z : Nat} (hz : 16777216 ≤ z)
include hz
theorem keysRd_f {t : api_Table} {row : List api_Value} (hcl : t.Columns.length = row.length) {l : List Int} (hl : l.length ≤ 1048576) (h : ∀ n ∈ l, (0 ≤ n ∧ n < (row.length : Int)) ∧ okV (gi dapi_Value row n) ∧ tyAt t row n) (hk : (keysS row l).length ≤ 1048576) (bad : Bool) {r0 : List api_Value} (hr : r0.length = row.length) :
  rowkey_reader_keys.f z ⟨keysS row l, bad⟩ t l r0 = some (⟨[], bad⟩, setK row l r0) := by
 have key : ∀ (k m i : Nat) (r : List api_Value), l.length - i = k → i ≤ l.length → k < m → r.length = row.length → (keysS row (l.drop i)).length ≤ 1048576 → rowkey_reader_keys.L0 z t l m (i : Int) (keysS row (l.drop i)) bad r = some (⟨[], bad⟩, setK row (l.drop i) r) := by
  intro k
  induction k with
  | zero =>
   intro m i r h1 h2 h3 h4 h5
   obtain ⟨m, rfl⟩ : ∃ q, m = q + 1 := ⟨m - 1, by omega⟩
   rw [rowkey_reader_keys.L0, if_n (by simp; omega), List.drop_eq_nil_of_le (by omega)]
   rfl
  | succ k ih =>
   intro m i r h1 h2 h3 h4 h5
   obtain ⟨m, rfl⟩ : ∃ q, m = q + 1 := ⟨m - 1, by omega⟩
   have hi : i < l.length := by omega
   obtain ⟨q1, q2, q3⟩ := h l[i] (List.getElem_mem hi)
   rw [List.drop_eq_getElem_cons hi, keysS_cons] at h5 ⊢
   rw [List.length_append] at h5
   rw [rowkey_reader_keys.L0, if_y (by simp; omega), ck_y (by omega), gi_nat _ _ _ hi, ck_y (by omega), show (gi dapi_Column t.Columns l[i]).Type' = (gi dapi_Value row l[i]).Type' from q3, value58_f hz q2 (keysS_bys _ _) (by omega), bd_some]
   dsimp only
   rw [ck_y (by omega), wI (by omega)]
   exact ih m (i + 1) _ (by omega) (by omega) (by omega) (by simpa using h4) (by omega)
 have := key l.length z 0 r0 (by omega) (by omega) (by omega) hr (by simpa using hk)
 rw [List.drop_zero] at this
 exact this
theorem keysRd_ok {t : api_Table} {l : List Int} (hl : l.length ≤ 1048576) (h : ∀ n ∈ l, 0 ≤ n ∧ n < (t.Columns.length : Int)) {r : rowkey_reader} (hb : Bys r.b) (hbl : r.b.length ≤ 1048576) {r0 : List api_Value} (hr : r0.length = t.Columns.length) (h0 : ∀ v ∈ r0, inR v.Int) :
  Ok (rowkey_reader_keys.f z r t l r0) fun p => p.2.length = t.Columns.length ∧ ∀ v ∈ p.2, inR v.Int := by
 have key : ∀ (k m i : Nat) (b : List Int) (bad : Bool) (r : List api_Value), l.length - i = k → i ≤ l.length → k < m → Bys b → b.length ≤ 1048576 → r.length = t.Columns.length → (∀ v ∈ r, inR v.Int) → Ok (rowkey_reader_keys.L0 z t l m (i : Int) b bad r) fun p => p.2.length = t.Columns.length ∧ ∀ v ∈ p.2, inR v.Int := by
  intro k
  induction k with
  | zero =>
   intro m i b bad r h1 h2 h3 _ _ h6 h7
   obtain ⟨m, rfl⟩ : ∃ q, m = q + 1 := ⟨m - 1, by omega⟩
   rw [rowkey_reader_keys.L0, if_n (by simp; omega)]
   exact Ok.some ⟨h6, h7⟩
  | succ k ih =>
   intro m i b bad r h1 h2 h3 h4 h5 h6 h7
   obtain ⟨m, rfl⟩ : ∃ q, m = q + 1 := ⟨m - 1, by omega⟩
   have hi : i < l.length := by omega
   have q1 := h l[i] (List.getElem_mem hi)
   rw [rowkey_reader_keys.L0, if_y (by simp; omega), ck_y (by omega), gi_nat _ _ _ hi, ck_y (by omega)]
   refine (value58_ok hz (r := ⟨b, bad⟩) h4 h5).bd fun p hp => ?_
   rw [ck_y (by omega), wI (by omega)]
   have hp2 : p.2.b.length ≤ b.length := hp.2.1
   refine ih m (i + 1) _ _ _ (by omega) (by omega) (by omega) hp.2.2 (by omega) (by simpa using h6) fun v hv => ?_
   rcases List.mem_or_eq_of_mem_set hv with hv | rfl
   ·exact h7 v hv
   ·exact hp.1
 exact key l.length z 0 r.b r.bad r0 (by omega) (by omega) (by omega) hb hbl hr h0
omit hz in
theorem replicate_in (n : Nat) : ∀ v ∈ List.replicate n dapi_Value, inR v.Int := fun v hv => by
 rw [List.eq_of_mem_replicate hv]; exact zero_in
def Reads (t : api_Table) (kv : api_KV) (r : List api_Value × Int) : Prop := r = ([], 200) ∨ (r.2 = 0 ∧ LimR r.1 ∧ RowS t r.1 = (kv, 0))
structure LimKV (kv : api_KV) : Prop where
 key : kv.Key.length ≤ 1048576
 value : kv.Value.length ≤ 1048576
 kb : Bys kv.Key
 vb : Bys kv.Value
omit hz in
theorem RowS_bys (t : api_Table) (row : List api_Value) : Bys (RowS t row).1.Key ∧ Bys (RowS t row).1.Value := by
 unfold RowS
 split
 ·exact ⟨Bys.nil, Bys.nil⟩
 split
 ·exact ⟨Bys.nil, Bys.nil⟩
 split
 ·exact ⟨Bys.nil, Bys.nil⟩
 ·exact ⟨(headS_bys _).app (keysS_bys _ _), valsF_bys _ _ _ _⟩
omit hz in
theorem kv_ext {x : api_KV × Int} {kv : api_KV} (h1 : x.1.Key = kv.Key) (h2 : x.1.Value = kv.Value) (h3 : x.2 = 0) : x = (kv, 0) := by
 obtain ⟨⟨a, b⟩, c⟩ := x
 obtain ⟨a', b'⟩ := kv
 dsimp only at h1 h2 h3
 subst h1 h2 h3
 rfl
theorem TakeRow_ok {t : api_Table} (ht : LimT t) (htab : tabB t = true) {kv : api_KV} (hk : LimKV kv) : Ok (rowkey_TakeRow.f z t kv) (Reads t kv) := by
 have hcols := ht.cols
 have hkin : ∀ n ∈ t.Key, 0 ≤ n ∧ n < (t.Columns.length : Int) := by
  have hk : keyB t.Columns.length t.Key = true := by unfold tabB at htab; simp at htab; exact htab.2
  exact (of_decide_eq_true hk).1
 unfold rowkey_TakeRow.f
 rw [tabled_f hz ht.cols ht.key, bd_some, htab, Bool.not_true, if_f, ck_y (by omega), begin_f hz ht.id, bd_some, headS_len]
 have hmn : 0 ≤ mn (kv.Key.length : Int) ((17 : Nat) : Int) ∧ mn (kv.Key.length : Int) ((17 : Nat) : Int) ≤ (kv.Key.length : Int) := by unfold mn; split <;> omega
 rw [ck_y hmn]
 refine (keysRd_ok hz ht.key hkin (r := ⟨_, false⟩) (hk.kb.cut _ _) (by have := hk.key; show (cut kv.Key _ _).length ≤ _; rw [cut_len _ _ _ (by omega)]; omega) (by simp) (replicate_in _)).bd fun p hp => ?_
 have key : ∀ (k m i : Nat) (r : List api_Value) (b : List Int) (bad : Bool), t.Columns.length - i = k → i ≤ t.Columns.length → k < m → r.length = t.Columns.length → (∀ v ∈ r, inR v.Int) → Bys b → b.length ≤ 1048576 → Ok (rowkey_TakeRow.L0 z t kv p m r (i : Int) b bad) (Reads t kv) := by
  intro k
  induction k with
  | zero =>
   intro m i r b bad h1 h2 h3 h4 h5 h6 h7
   obtain ⟨m, rfl⟩ : ∃ q, m = q + 1 := ⟨m - 1, by omega⟩
   have hlr : LimR r := ⟨by omega, h5⟩
   rw [rowkey_TakeRow.L0, if_n (by simp; omega), Row_f hz ht hlr, bd_some]
   unfold rowkey_TakeRow.J1
   refine Ok.ite (fun _ => Ok.some (.inl rfl)) fun _ => Ok.ite (fun _ => Ok.some (.inl rfl)) fun _ => Ok.ite (fun _ => Ok.some (.inl rfl)) fun he => ?_
   rw [Equal_f (RowS_bys _ _).1 hk.kb, bd_some]
   refine Ok.ite (fun _ => Ok.some (.inl rfl)) fun e1 => ?_
   rw [Equal_f (RowS_bys _ _).2 hk.vb, bd_some]
   refine Ok.ite (fun _ => Ok.some (.inl rfl)) fun e2 => Ok.some (.inr ⟨rfl, hlr, ?_⟩)
   have a1 : (RowS t r).1.Key = kv.Key := by simpa using e1
   have a2 : (RowS t r).1.Value = kv.Value := by simpa using e2
   have a3 : (RowS t r).2 = 0 := by simpa using he
   exact kv_ext a1 a2 a3
  | succ k ih =>
   intro m i r b bad h1 h2 h3 h4 h5 h6 h7
   obtain ⟨m, rfl⟩ : ∃ q, m = q + 1 := ⟨m - 1, by omega⟩
   have hi : i < t.Columns.length := by omega
   rw [rowkey_TakeRow.L0, if_y (by simp; omega), ck_y (by omega), Contains_f hz ht.key, bd_some]
   unfold rowkey_TakeRow.J2
   rw [wI (by omega)]
   refine Ok.ite (fun _ => ?_) fun _ => ih m (i + 1) _ _ _ (by omega) (by omega) (by omega) h4 h5 h6 h7
   refine (value33_ok hz (r := ⟨b, bad⟩) h6 h7).bd fun q hq => ?_
   rw [ck_y (by omega)]
   have hq2 : q.2.b.length ≤ b.length := hq.2.1
   refine ih m (i + 1) _ _ _ (by omega) (by omega) (by omega) (by simpa using h4) (fun v hv => ?_) hq.2.2 (by omega)
   rcases List.mem_or_eq_of_mem_set hv with hv | rfl
   ·exact h5 v hv
   ·exact hq.1
 exact key t.Columns.length z 0 p.2 kv.Value false (by omega) (by omega) (by omega) hp.1 hp.2 hk.vb hk.value
omit hz in
theorem RowS_inv {t : api_Table} {row : List api_Value} {kv : api_KV} (h : RowS t row = (kv, 0)) : tabB t = true ∧ rowB t row = true ∧ kv.Key = headS t.Id ++ keysS row t.Key ∧ kv.Value = valsS t row ∧ kv.Key.length ≤ 256 ∧ kv.Value.length ≤ 65536 := by
 unfold RowS at h
 split at h
 ·cases h
 rename_i h1
 split at h
 ·cases h
 rename_i h2
 split at h
 ·cases h
 rename_i h3
 have := (Prod.mk.inj h).1
 subst this
 exact ⟨by simpa using h1, by simpa using h2, rfl, rfl, by dsimp only; omega, by dsimp only; omega⟩
omit hz in
theorem tyAt_of {t : api_Table} {row : List api_Value} (h : rowB t row = true) {n : Int} (hn : 0 ≤ n ∧ n < (row.length : Int)) : tyAt t row n := by
 obtain ⟨h1, h2⟩ := of_decide_eq_true h
 have hg := h2 n.toNat (by omega)
 unfold goodAt at hg
 rw [Bool.and_eq_true, show ((n.toNat : Nat) : Int) = n by omega] at hg
 exact (of_decide_eq_true hg.1).1.symm
omit hz in
theorem ext_gi {r row : List api_Value} (hl : r.length = row.length) (h : ∀ j : Nat, j < row.length → gi dapi_Value r (j : Int) = gi dapi_Value row (j : Int)) : r = row := by
 refine List.ext_getElem hl fun j h1 h2 => ?_
 have := h j h2
 rwa [gi_nat _ _ _ h1, gi_nat _ _ _ h2] at this
theorem TakeRow_f {t : api_Table} (ht : LimT t) {row : List api_Value} (hrow : LimR row) {kv : api_KV} (h : RowS t row = (kv, 0)) : rowkey_TakeRow.f z t kv = some (row, 0) := by
 obtain ⟨htab, hrb, hK, hV, hKl, hVl⟩ := RowS_inv h
 have hcols := ht.cols
 have hcl : row.length = t.Columns.length := (of_decide_eq_true hrb).1
 have hkey := key_ok htab hrow hrb
 have hok := rowB_ok htab hrow hrb
 have hlen : kv.Key.length = 17 + (keysS row t.Key).length := by rw [hK, List.length_append, headS_len]
 unfold rowkey_TakeRow.f
 rw [tabled_f hz ht.cols ht.key, bd_some, htab, Bool.not_true, if_f, ck_y (by omega), begin_f hz ht.id, bd_some, headS_len]
 have hmn : mn (kv.Key.length : Int) ((17 : Nat) : Int) = 17 := by unfold mn; split <;> omega
 rw [hmn, ck_y (by omega)]
 have hcut : cut kv.Key (Int.toNat 17) (Int.toNat (kv.Key.length : Int)) = keysS row t.Key := by
  rw [show Int.toNat (kv.Key.length : Int) = kv.Key.length by omega, show Int.toNat 17 = 17 from rfl, cut_drop' _ _ _ rfl, hK]
  exact List.drop_left' (headS_len _)
 rw [hcut, keysRd_f hz hcl.symm ht.key (fun n hn => ⟨(hkey n hn).1, (hkey n hn).2, tyAt_of hrb (hkey n hn).1⟩) (by omega) _ (by simp [hcl]), bd_some]
 dsimp only
 have key : ∀ (k m i : Nat) (r : List api_Value), row.length - i = k → i ≤ row.length → k < m → r.length = row.length → (∀ j : Nat, j < row.length → (j < i ∨ (j : Int) ∈ t.Key) → gi dapi_Value r (j : Int) = gi dapi_Value row (j : Int)) → (valsF t row k i).length ≤ 65536 → ∀ p : rowkey_reader × List api_Value, p.1.bad = false → rowkey_TakeRow.L0 z t kv p m r (i : Int) (valsF t row k i) false = some (row, 0) := by
  intro k
  induction k with
  | zero =>
   intro m i r h1 h2 h3 h4 h5 h6 p hp
   obtain ⟨m, rfl⟩ : ∃ q, m = q + 1 := ⟨m - 1, by omega⟩
   have : r = row := ext_gi h4 fun j hj => h5 j hj (.inl (by omega))
   subst this
   rw [rowkey_TakeRow.L0, if_n (by simp; omega), Row_f hz ht hrow, bd_some, h, hp, if_f, if_f, if_n (by rfl)]
   have hb := RowS_bys t r
   rw [h] at hb
   rw [Equal_f hb.1 hb.1, bd_some, if_n (by simp), Equal_f hb.2 hb.2, bd_some, if_n (by simp)]
  | succ k ih =>
   intro m i r h1 h2 h3 h4 h5 h6 p hp
   obtain ⟨m, rfl⟩ : ∃ q, m = q + 1 := ⟨m - 1, by omega⟩
   have hi : i < row.length := by omega
   rw [rowkey_TakeRow.L0, if_y (by simp; omega), ck_y (by omega), Contains_f hz ht.key, bd_some]
   unfold rowkey_TakeRow.J2
   rw [wI (by omega)]
   rw [valsF] at h6 ⊢
   rw [List.length_append] at h6
   by_cases c : (i : Int) ∈ t.Key
   ·rw [if_n (by simpa using c), if_pos c]
    exact ih m (i + 1) r (by omega) (by omega) (by omega) h4 (fun j hj hq => h5 j hj (by
     by_cases e : j = i
     ·subst e; exact .inr c
     ·exact hq.imp (fun q => by omega) id)) (by omega) p hp
   ·rw [if_neg c] at h6
    rw [if_y (by simpa using c), if_neg c, show (gi dapi_Column t.Columns (i : Int)).Type' = (gi dapi_Value row (i : Int)).Type' from tyAt_of hrb (by omega), value33_f hz (hok i hi) (valsF_bys _ _ _ _) (by omega), bd_some]
    dsimp only
    rw [ck_y (by omega)]
    refine ih m (i + 1) _ (by omega) (by omega) (by omega) (by simpa using h4) (fun j hj hq => ?_) (by omega) p hp
    rw [gi_set _ _ _ _ _ (by omega)]
    by_cases e : j = i
    ·subst e; rw [if_pos rfl]
    ·rw [if_neg (by omega)]
     exact h5 j hj (hq.imp (fun q => by omega) id)
 have := key row.length z 0 (setK row t.Key (List.replicate (Int.toNat (t.Columns.length : Int)) dapi_Value)) (by omega) (by omega) (by have := hrow.1; omega) (by rw [setK_len]; simp [hcl]) (fun j hj hq => setK_gi row _ _ _ (fun n hn => by have := (hkey n hn).1; simp; omega) (by omega) (.inr (hq.resolve_left (by omega)))) (by have : valsS t row = valsF t row row.length 0 := rfl; rw [← this, ← hV]; exact hVl) (⟨[], false⟩, setK row t.Key (List.replicate (Int.toNat (t.Columns.length : Int)) dapi_Value)) rfl
 rw [hV]
 exact this
end
end Go.Proofs.YtohelmfkpmphoaaDoor
