/- A Go function: the Lean function that it comes to, and the proof. -/
import Derived.Test.YtohelmfkpmphoaaDoorRt4
namespace Go.Proofs.YtohelmfkpmphoaaDoor
open Go Go.Proofs.YtohelmfkpmphoaaDoor.X
set_option linter.unusedVariables false
set_option linter.unusedSimpArgs false
set_option maxRecDepth 100000
set_option maxHeartbeats 4000000
namespace cormorantlaw20_sameValues
noncomputable def c0 : Code := match Tryd.f10.body with | some c => c | none => .skip
def R (F : List Atom) (x1 : List api_Value) (A2 : OA) (k3 : Nat) (m4 : Md) (x5 : List api_Value) (A6 : OA) (k7 : Nat) (m8 : Md) (r : Bool) : Ending → World → Prop := fun e w' => e = .returned (.bool r) ∧ SL ([sl m4 kapi_Value A2 k3 x1, sl m8 kapi_Value A6 k7 x5] ++ F) w'
def L0 (z : Nat) (x1 x5 : List api_Value) : Nat → Int → Option Bool
 | 0, _ => none
 | m + 1, x10 => If (decide (x10 < (x1.length : Int))) (Ck (0 ≤ x10 ∧ x10 < (x1.length : Int)) (Ck (x10 < (x5.length : Int)) (If (!(eqapi_Value (gi dapi_Value x1 x10) (gi dapi_Value x5 x10))) (some false) (L0 z x1 x5 m (wr .i64 (x10 + 1)))))) (some true)
def f (z : Nat) (x1 x5 : List api_Value) : Option Bool := If ((x1.length : Int) != (x5.length : Int)) (some false) (L0 z x1 x5 z 0)
noncomputable def ptL0 : List Item := [.code (cB (cB (cR (cL (cR (cR c0)))))), .inLoop (cB (cB (cR (cL (cR (cR c0)))))), .inBlock 0, .code (cr 3 c0)]
theorem L0_ok (F : List Atom) (r : Bool) (z : Nat) (x1 : List api_Value) (A2 : OA) (k3 : Nat) (m4 : Md) (x5 : List api_Value) (A6 : OA) (k7 : Nat) (m8 : Md) (m : Nat) : ∀ (x10 : Int) (a : Act) (w : World), Tm 26 [(0, .slice A2 x1.length k3), (1, .slice A6 x5.length k7), (5, .int .i64 x10)] a → SL ([sl m4 kapi_Value A2 k3 x1, sl m8 kapi_Value A6 k7 x5] ++ F) w → L0 z x1 x5 m x10 = some r → Gets Tryd.prog 10 ptL0 a w (R F x1 A2 k3 m4 x5 A6 k7 m8 r) := by
 induction m with
 | zero => intro _ _ _ _ _ H; cases H
 | succ m ih =>
  intro x10 a w T S H
  refine Gets.seq (Gets.seq (rg (r_pv T rfl rfl fun _ T => ?_)))
  refine r_pv T rfl rfl fun _ T => r_lenS T rfl Tryd.runUnderlying27 rfl fun _ T => r_pv T rfl rfl fun _ T => ?_
  rcases ifE H with ⟨h11, H⟩ | ⟨h11, H⟩
  ·refine cdT T rfl h11 ?_
   refine Gets.skip (Gets.seq (Gets.block (Gets.seq ?_)))
   obtain ⟨h2121, H⟩ := ck H
   obtain ⟨h2361, H⟩ := ck H
   refine Gets.drawn (l := [sl m4 kapi_Value A2 k3 x1, sl m8 kapi_Value A6 k7 x5]) (V := [some (.slice A2 x1.length k3, true), some (.int .i64 x10, true), some (.pointer (some (eA A2 (Int.toNat x10 * 4))), true), some (.agg #[.int .i64 ((gi dapi_Value x1 x10).Type'), .bool ((gi dapi_Value x1 x10).Null), .int .i64 ((gi dapi_Value x1 x10).Int), .string ((gi dapi_Value x1 x10).Text)], true), some (.slice A6 x5.length k7, true), some (.int .i64 x10, true), some (.pointer (some (eA A6 (Int.toNat x10 * 4))), true), some (.agg #[.int .i64 ((gi dapi_Value x5 x10).Type'), .bool ((gi dapi_Value x5 x10).Null), .int .i64 ((gi dapi_Value x5 x10).Int), .string ((gi dapi_Value x5 x10).Text)], true), some (.bool (!(eqapi_Value (gi dapi_Value x1 x10) (gi dapi_Value x5 x10))), true)]) mixed T S rfl ?_
   refine stage none rfl rfl ⟨⟨_, _, rfl, (avl [0] rfl), fun _ _ _ T S => r_pv T rfl rfl fun _ T => ⟨rfl, T⟩⟩, ⟨_, _, rfl, (avl [5] rfl), fun _ _ _ T S => r_pv T rfl rfl fun _ T => ⟨rfl, T⟩⟩, ⟨_, _, rfl, (avl [17, 18] rfl), fun _ _ _ T S => r_ia (ix := 0) T S rfl rfl rfl rfl Tryd.runUnderlying27 Tryd.sizeOf43 h2121.1 h2121.2 rfl fun _ T => ⟨rfl, T⟩⟩, ⟨_, _, rfl, (avl [19] rfl), fun _ _ _ T S => r_ldEP (ix := 0) (i := x10) (off := 0) (f := pf_api_Value) T S rfl rfl Tryd.isAgg43 Tryd.sizeOf43 dapi_Value rfl (Fld.all _) h2121.1 h2121.2 pl_api_Value rfl fun _ T => ⟨rfl, T⟩⟩, ⟨_, _, rfl, (avl [1] rfl), fun _ _ _ T S => r_pv T rfl rfl fun _ T => ⟨rfl, T⟩⟩, ⟨_, _, rfl, (avl [5] rfl), fun _ _ _ T S => r_pv T rfl rfl fun _ T => ⟨rfl, T⟩⟩, ⟨_, _, rfl, (avl [21, 22] rfl), fun _ _ _ T S => r_ia (ix := 1) T S rfl rfl rfl rfl Tryd.runUnderlying27 Tryd.sizeOf43 h2121.1 h2361 rfl fun _ T => ⟨rfl, T⟩⟩, ⟨_, _, rfl, (avl [23] rfl), fun _ _ _ T S => r_ldEP (ix := 1) (i := x10) (off := 0) (f := pf_api_Value) T S rfl rfl Tryd.isAgg43 Tryd.sizeOf43 dapi_Value rfl (Fld.all _) h2121.1 h2361 pl_api_Value rfl fun _ T => ⟨rfl, T⟩⟩, ⟨_, _, rfl, (avl [20, 24] rfl), fun _ _ _ T S => r_neA (u := [.int .i64 ((gi dapi_Value x1 x10).Type'), .bool ((gi dapi_Value x1 x10).Null), .int .i64 ((gi dapi_Value x1 x10).Int), .string ((gi dapi_Value x1 x10).Text)]) (v := [.int .i64 ((gi dapi_Value x5 x10).Type'), .bool ((gi dapi_Value x5 x10).Null), .int .i64 ((gi dapi_Value x5 x10).Int), .string ((gi dapi_Value x5 x10).Text)]) T rfl rfl (fun _ => seg43 _ _ _ _ _ _) (fun w => seq43 (gi dapi_Value x1 x10) (gi dapi_Value x5 x10) w) rfl fun _ T => ⟨rfl, T⟩⟩, trivial⟩ rfl (fun i hi => by cases hi) (fun _ _ a w T hv hb S => ?_)
   replace T := T.sub (r := [(0, .slice A2 x1.length k3), (1, .slice A6 x5.length k7), (5, .int .i64 x10), (25, .bool (!(eqapi_Value (gi dapi_Value x1 x10) (gi dapi_Value x5 x10))))]) ⟨hb 0 _ rfl rfl, hb 1 _ rfl rfl, hb 5 _ rfl rfl, hv 8 _ 25 rfl rfl rfl, trivial⟩
   rcases ifE H with ⟨h12, H⟩ | ⟨h12, H⟩
   ·refine cdT T rfl h12 ?_
    refine Gets.seq (rg (r_pv T rfl rfl fun _ T => ?_))
    replace H := Option.some.inj H
    subst H
    exact rtn T Tryd.func10 rfl rfl ⟨rfl, (S.only (p := [sl m4 kapi_Value A2 k3 x1, sl m8 kapi_Value A6 k7 x5]) [0, 0] rfl)⟩
   ·refine cdF T rfl h12 ?_
    refine Gets.skip (Gets.inBlock ?_)
    refine rg (r_pv T rfl rfl fun _ T => r_pv T rfl rfl fun _ T => r_pv T rfl rfl fun _ T => ?_)
    refine Gets.inLoop ?_
    exact ih (wr .i64 (x10 + 1)) _ _ (T.sub ⟨rfl, rfl, rfl, trivial⟩) (S.only (p := [sl m4 kapi_Value A2 k3 x1, sl m8 kapi_Value A6 k7 x5]) [0, 0] rfl) H
  ·refine cdF T rfl h11 ?_
   refine Gets.exit rfl (Gets.seq ?_)
   refine rg (r_pv T rfl rfl fun _ T => ?_)
   replace H := Option.some.inj H
   subst H
   exact rtn T Tryd.func10 rfl rfl ⟨rfl, (S.only (p := [sl m4 kapi_Value A2 k3 x1, sl m8 kapi_Value A6 k7 x5]) [0, 0] rfl)⟩
theorem ok (F : List Atom) (w : World) (z : Nat) (x1 x5 : List api_Value) {A2 : OA} {k3 : Nat} {m4 : Md} {A6 : OA} {k7 : Nat} {m8 : Md} (S : SL ([sl m4 kapi_Value A2 k3 x1, sl m8 kapi_Value A6 k7 x5] ++ F) w) (r : Bool) (H : f z x1 x5 = some r) : Calls Tryd.prog 10 #[.slice A2 x1.length k3, .slice A6 x5.length k7] w (R F x1 A2 k3 m4 x5 A6 k7 m8 r) := by
 refine enter (vs := [.slice A2 x1.length k3, .slice A6 x5.length k7]) Tryd.func10 rfl Tryd.ntmps10 (Nat.le_of_ble_eq_true rfl) fun a T => ?_
 refine Gets.seq (rg (r_pv T rfl rfl fun _ T => ?_))
 refine Gets.seq (Gets.seq ?_)
 refine rg (r_pv T rfl rfl fun _ T => r_lenS T rfl Tryd.runUnderlying27 rfl fun _ T => r_pv T rfl rfl fun _ T => ?_)
 refine r_lenS T rfl Tryd.runUnderlying27 rfl fun _ T => r_pv T rfl rfl fun _ T => ?_
 rcases ifE H with ⟨h9, H⟩ | ⟨h9, H⟩
 ·refine cdT T rfl h9 ?_
  refine Gets.seq (rg (r_pv T rfl rfl fun _ T => ?_))
  replace H := Option.some.inj H
  subst H
  exact rtn T Tryd.func10 rfl rfl ⟨rfl, (S.only (p := [sl m4 kapi_Value A2 k3 x1, sl m8 kapi_Value A6 k7 x5]) [0, 0] rfl)⟩
 ·refine cdF T rfl h9 ?_
  refine Gets.skip (Gets.seq (Gets.seq ?_))
  refine rg (r_pv T rfl rfl fun _ T => Gets.block (Gets.loop ?_))
  exact L0_ok F r z x1 A2 k3 m4 x5 A6 k7 m8 z 0 _ _ (T.sub ⟨rfl, rfl, rfl, trivial⟩) (S.only (p := [sl m4 kapi_Value A2 k3 x1, sl m8 kapi_Value A6 k7 x5]) [0, 0] rfl) H
end cormorantlaw20_sameValues
end Go.Proofs.YtohelmfkpmphoaaDoor
namespace Go.Proofs.YtohelmfkpmphoaaDoor
open Go Go.Proofs.YtohelmfkpmphoaaDoor.X
set_option linter.unusedVariables false
set_option linter.unusedSimpArgs false
set_option maxRecDepth 100000
set_option maxHeartbeats 4000000
namespace cormorantlaw20_made
def R (F : List Atom) (r : api_Table) : Ending → World → Prop := fun e w' => ∃ (A6 : OA), ∃ (k7 : Nat), ∃ (A8 : OA), ∃ (k9 : Nat), ∃ (A10 : OA), ∃ (k11 : Nat), e = .returned (.agg #[.int .i64 r.Id, .string r.Name, .slice A6 r.Columns.length k7, .slice A8 r.Key.length k9, .slice A10 r.Indexes.length k11]) ∧ SL ([sl .ro kapi_Column A6 k7 r.Columns, sl .ro ki64 A8 k9 r.Key, sl .ro kapi_Index A10 k11 r.Indexes] ++ F) w'
def f : Option api_Table := some (api_Table.mk 1 (⟨#[116]⟩ : ByteArray) [(api_Column.mk (⟨#[97]⟩ : ByteArray) 1 true (api_Value.mk 0 false 0 (⟨#[]⟩ : ByteArray))), (api_Column.mk (⟨#[98]⟩ : ByteArray) 3 false (api_Value.mk 0 false 0 (⟨#[]⟩ : ByteArray)))] [0] [(api_Index.mk 2 (⟨#[]⟩ : ByteArray) [1] false)])
abbrev y0 (b2 : Nat) : Atom := sl .own kapi_Column (some ⟨b2, 0, none⟩) 2 [(api_Column.mk (⟨#[97]⟩ : ByteArray) 1 true (api_Value.mk 0 false 0 (⟨#[]⟩ : ByteArray))), (api_Column.mk (⟨#[98]⟩ : ByteArray) 3 false (api_Value.mk 0 false 0 (⟨#[]⟩ : ByteArray)))]
abbrev y1 : List Value := [.int .i64 0, .string (⟨#[]⟩ : ByteArray), .slice none 0 0, .slice none 0 0, .slice none 0 0]
abbrev y2 (b2 : Nat) : Atom := sl .ro kapi_Column (some ⟨b2, 0, none⟩) 2 [(api_Column.mk (⟨#[97]⟩ : ByteArray) 1 true (api_Value.mk 0 false 0 (⟨#[]⟩ : ByteArray))), (api_Column.mk (⟨#[98]⟩ : ByteArray) 3 false (api_Value.mk 0 false 0 (⟨#[]⟩ : ByteArray)))]
abbrev y3 (b2 b3 b5 : Nat) : List Value := [.int .i64 1, .string (⟨#[116]⟩ : ByteArray), .slice (some ⟨b2, 0, none⟩) 2 2, .slice (some ⟨b3, 0, none⟩) 1 1, .slice (some ⟨b5, 0, none⟩) 1 1]
abbrev y4 : api_Index := (api_Index.mk 2 (⟨#[]⟩ : ByteArray) [1] false)
abbrev y5 : Value := .string (⟨#[]⟩ : ByteArray)
abbrev y6 : Atom := rp kapi_Column (api_Column.mk (⟨#[97]⟩ : ByteArray) 1 true (api_Value.mk 0 false 0 (⟨#[]⟩ : ByteArray))) [.string (⟨#[97]⟩ : ByteArray), .int .i64 1, .bool true, .int .i64 0, .bool false, .int .i64 0, (y5)]
abbrev y7 (b3 : Nat) : Atom := sl .own ki64 (some ⟨b3, 0, none⟩) 1 [0]
abbrev y8 (b4 : Nat) : Atom := sl .ro ki64 (some ⟨b4, 0, none⟩) 1 [1]
theorem ok (F : List Atom) (w : World) (S : SL ([] ++ F) w) (r : api_Table) (H : f  = some r) : Calls Tryd.prog 12 #[] w (R F r) := by
 refine enter (vs := []) Tryd.func12 rfl Tryd.ntmps12 (Nat.le_of_ble_eq_true rfl) fun a T => ?_
 refine Gets.seq (rg (r_alloc T S zv26 (cs := (y1)) rfl rfl fun _ _ b1 S T => Gets.seq ?_))
 refine rg (r_build (cs := #[.string (⟨#[97]⟩ : ByteArray), .int .i64 1, .bool true, .int .i64 0, .bool false, .int .i64 0, (y5)]) T stt72 rfl rfl rfl fun _ T => r_build (cs := #[.string (⟨#[98]⟩ : ByteArray), .int .i64 3, .bool false, .int .i64 0, .bool false, .int .i64 0, (y5)]) T stt72 rfl rfl rfl fun _ T => ?_)
 replace S : SL ([(y6), blk b1 (y1)] ++ F) _ := cl_api_Column  S 
 replace S : SL ([rp kapi_Column (api_Column.mk (⟨#[98]⟩ : ByteArray) 3 false (api_Value.mk 0 false 0 (⟨#[]⟩ : ByteArray))) [.string (⟨#[98]⟩ : ByteArray), .int .i64 3, .bool false, .int .i64 0, .bool false, .int .i64 0, (y5)], (y6), blk b1 (y1)] ++ F) _ := cl_api_Column  S 
 refine r_bsl (κ := kapi_Column) (xs := [(api_Column.mk (⟨#[97]⟩ : ByteArray) 1 true (api_Value.mk 0 false 0 (⟨#[]⟩ : ByteArray))), (api_Column.mk (⟨#[98]⟩ : ByteArray) 3 false (api_Value.mk 0 false 0 (⟨#[]⟩ : ByteArray)))]) (vs := [.agg #[.string (⟨#[97]⟩ : ByteArray), .int .i64 1, .bool true, .int .i64 0, .bool false, .int .i64 0, (y5)], .agg #[.string (⟨#[98]⟩ : ByteArray), .int .i64 3, .bool false, .int .i64 0, .bool false, .int .i64 0, (y5)]]) T S sty22 rfl ⟨_, _, rfl, ⟨1, rfl⟩, ⟨_, _, rfl, ⟨0, rfl⟩, rfl⟩⟩ rfl (by decide) rfl fun _ _ b2 S T => ?_
 replace S : SL ([(y0 b2), blk b1 (y1)] ++ F) _ := S.only [0, 2] rfl
 replace S := SL.val (κ := ki64) (x := 0) (cs := [.int .i64 0]) (fun _ => rfl) S
 refine r_bsl (κ := ki64) (xs := [0]) (vs := [.int .i64 0]) T S sty23 rfl ⟨_, _, rfl, ⟨0, rfl⟩, rfl⟩ rfl (by decide) rfl fun _ _ b3 S T => ?_
 replace S : SL ([(y7 b3), (y0 b2), blk b1 (y1)] ++ F) _ := S.only [0, 1, 1] rfl
 replace S := SL.val (κ := ki64) (x := 1) (cs := [.int .i64 1]) (fun _ => rfl) S
 refine r_bsl (κ := ki64) (xs := [1]) (vs := [.int .i64 1]) T S sty23 rfl ⟨_, _, rfl, ⟨0, rfl⟩, rfl⟩ rfl (by decide) rfl fun _ _ b4 S T => ?_
 replace S : SL ([sl .own ki64 (some ⟨b4, 0, none⟩) 1 [1], (y7 b3), (y0 b2), blk b1 (y1)] ++ F) _ := S.only [0, 1, 1, 1] rfl
 refine r_build (cs := #[.int .i64 2, (y5), .slice (some ⟨b4, 0, none⟩) 1 1, .bool false]) T stt46 rfl rfl rfl fun _ T => ?_
 replace S : SL ([(y8 b4), (y7 b3), (y0 b2), blk b1 (y1)] ++ F) _ := S.fixL (i := 0) rfl rfl
 replace S : SL ([rp kapi_Index (y4) [.int .i64 2, (y5), .slice (some ⟨b4, 0, none⟩) 1 1, .bool false], (y8 b4), (y7 b3), (y0 b2), blk b1 (y1)] ++ F) _ := cl_api_Index (i0 := 0) S rfl
 refine r_bsl (κ := kapi_Index) (xs := [(y4)]) (vs := [.agg #[.int .i64 2, (y5), .slice (some ⟨b4, 0, none⟩) 1 1, .bool false]]) T S sty24 rfl ⟨_, _, rfl, ⟨0, rfl⟩, rfl⟩ rfl (by decide) rfl fun _ _ b5 S T => ?_
 replace S : SL ([sl .own kapi_Index (some ⟨b5, 0, none⟩) 1 [(y4)], (y8 b4), (y7 b3), (y0 b2), blk b1 (y1)] ++ F) _ := S.only [0, 1, 1, 1, 1] rfl
 refine r_build (cs := #[.int .i64 1, .string (⟨#[116]⟩ : ByteArray), .slice (some ⟨b2, 0, none⟩) 2 2, .slice (some ⟨b3, 0, none⟩) 1 1, .slice (some ⟨b5, 0, none⟩) 1 1]) T stt26 rfl rfl rfl fun _ T => r_stBA (ix := 4) (vs := (y3 b2 b3 b5)) (l' := [sl .own kapi_Index (some ⟨b5, 0, none⟩) 1 [(y4)], (y8 b4), (y7 b3), (y0 b2), blk b1 (y3 b2 b3 b5)]) T S rfl rfl rfl rfl (by simp) Tryd.sizeOf26 (Nat.le_of_ble_eq_true rfl) rfl fun _ S => ?_
 replace S : SL ([sl .own kapi_Index (some ⟨b5, 0, none⟩) 1 [(y4)], (y8 b4), (y7 b3), (y2 b2), blk b1 (y3 b2 b3 b5)] ++ F) _ := S.fixL (i := 3) rfl rfl
 replace S : SL ([sl .own kapi_Index (some ⟨b5, 0, none⟩) 1 [(y4)], (y8 b4), sl .ro ki64 (some ⟨b3, 0, none⟩) 1 [0], (y2 b2), blk b1 (y3 b2 b3 b5)] ++ F) _ := S.fixL (i := 2) rfl rfl
 replace S : SL ([sl .ro kapi_Index (some ⟨b5, 0, none⟩) 1 [(y4)], (y8 b4), sl .ro ki64 (some ⟨b3, 0, none⟩) 1 [0], (y2 b2), blk b1 (y3 b2 b3 b5)] ++ F) _ := S.fixL (i := 0) rfl rfl
 replace H := Option.some.inj H
 subst H
 exact rtnM T S Tryd.func12 rfl ⟨_, _, rfl, ⟨b1, _, 4, rfl, rfl, .inl ⟨Tryd.isAgg26, Tryd.sizeOf26, rfl⟩⟩, rfl⟩ ⟨(some ⟨b2, 0, none⟩), 2, (some ⟨b3, 0, none⟩), 1, (some ⟨b5, 0, none⟩), 1, rfl, (S.only (p := [(y2 b2), sl .ro ki64 (some ⟨b3, 0, none⟩) 1 [0], sl .ro kapi_Index (some ⟨b5, 0, none⟩) 1 [(y4)]]) [3, 2, 0] rfl)⟩
end cormorantlaw20_made
end Go.Proofs.YtohelmfkpmphoaaDoor
namespace Go.Proofs.YtohelmfkpmphoaaDoor
open Go Go.Proofs.YtohelmfkpmphoaaDoor.X
set_option linter.unusedVariables false
set_option linter.unusedSimpArgs false
set_option maxRecDepth 100000
set_option maxHeartbeats 4000000
namespace rowkey_Entry
def R (F : List Atom) (x1 : api_Table) (A2 : OA) (k3 : Nat) (A4 : OA) (k5 : Nat) (A6 : OA) (k7 : Nat) (x8 : api_Index) (A9 : OA) (k10 : Nat) (x11 : List api_Value) (A12 : OA) (k13 : Nat) (m14 : Md) (r : api_KV × Int) : Ending → World → Prop := fun e w' => ∃ (A25 : OA), ∃ (k26 : Nat), ∃ (A27 : OA), ∃ (k28 : Nat), e = .returned (.tuple #[.agg #[.slice A25 r.1.Key.length k26, .slice A27 r.1.Value.length k28], .int .i64 r.2]) ∧ SL ([sl .ro ku8 A25 k26 r.1.Key, sl .ro ku8 A27 k28 r.1.Value, sl .ro kapi_Column A2 k3 x1.Columns, sl .ro ki64 A4 k5 x1.Key, sl .ro kapi_Index A6 k7 x1.Indexes, sl .ro ki64 A9 k10 x8.Columns, sl m14 kapi_Value A12 k13 x11] ++ F) w'
def f (z : Nat) (x1 : api_Table) (x8 : api_Index) (x11 : List api_Value) : Option (api_KV × Int) := Bd (rowkey_tabled.f z x1 x8.Columns) fun x19 => If (!x19) (some ((api_KV.mk ([] : List Int) ([] : List Int)), 1)) (Bd (rowkey_rowed.f z x1 x11) fun x22 => If (!x22) (some ((api_KV.mk ([] : List Int) ([] : List Int)), 200)) (Bd (rowkey_begin.f z [x1.Id, x8.Id]) fun x2302 => Bd (rowkey_columns.f z x11 x8.Columns) fun x2542 => Bd (rowkey_columns.f z x11 x1.Key) fun x2782 => Bd (slices_Concat_byte.f z [x2302, x2542, x2782]) fun x2902 => If (decide ((x2902.length : Int) > 256)) (some ((api_KV.mk ([] : List Int) ([] : List Int)), 201)) (some ((api_KV.mk x2902 ([] : List Int)), 0))))
abbrev y0 (x1 : api_Table) (A2 : OA) (k3 : Nat) (A4 : OA) (k5 : Nat) (A6 : OA) (k7 : Nat) : List Value := [.int .i64 x1.Id, .string x1.Name, .slice A2 x1.Columns.length k3, .slice A4 x1.Key.length k5, .slice A6 x1.Indexes.length k7]
abbrev y1 (b16 : Nat) (x8 : api_Index) (A9 : OA) (k10 : Nat) : Atom := blk b16 [.int .i64 x8.Id, .string x8.Name, .slice A9 x8.Columns.length k10, .bool x8.Unique]
abbrev y2 : List Value := [.slice none 0 0, .slice none 0 0]
abbrev y3 (b2241 : Nat) (x1 : api_Table) (x8 : api_Index) : Atom := sl .own ki64 (some ⟨b2241, 0, none⟩) 2 [x1.Id, x8.Id]
abbrev y4 (A2 : OA) (k3 : Nat) (x1 : api_Table) : Atom := sl .ro kapi_Column A2 k3 x1.Columns
abbrev y5 (A6 : OA) (k7 : Nat) (x1 : api_Table) : Atom := sl .ro kapi_Index A6 k7 x1.Indexes
abbrev y6 (A9 : OA) (k10 : Nat) (x8 : api_Index) : Atom := sl .ro ki64 A9 k10 x8.Columns
abbrev y7 (A4 : OA) (k5 : Nat) (x1 : api_Table) : Atom := sl .ro ki64 A4 k5 x1.Key
abbrev y8 (b15 : Nat) : Option (Value × Bool) := some (.pointer (some ⟨b15, 0, none⟩), true)
abbrev y9 (b16 : Nat) : Option (Value × Bool) := some (.pointer (some ⟨b16, 0, none⟩), true)
abbrev y10 (b16 : Nat) : Option (Value × Bool) := some (.pointer (some ⟨b16, 2, none⟩), true)
abbrev y11 (b15 : Nat) : Option (Value × Bool) := some (.pointer (some ⟨b15, 3, none⟩), true)
abbrev y12 (b2841 : Nat) (x2302 : (List Int)) (x2542 : (List Int)) (x2782 : (List Int)) : Atom := sl .own (kSl ku8) (some ⟨b2841, 0, none⟩) 3 [x2302, x2542, x2782]
abbrev y13 : Atom := sl .ro ku8 none 0 ([] : List Int)
abbrev y14 (b2241 : Nat) : Option (Value × Bool) := some (.slice (some ⟨b2241, 0, none⟩) 2 2, false)
abbrev y15 (m14 : Md) (A12 : OA) (k13 : Nat) (x11 : List api_Value) : Atom := sl m14 kapi_Value A12 k13 x11
theorem ok (F : List Atom) (w : World) (z : Nat) (x1 : api_Table) (x8 : api_Index) (x11 : List api_Value) {A2 : OA} {k3 : Nat} {A4 : OA} {k5 : Nat} {A6 : OA} {k7 : Nat} {A9 : OA} {k10 : Nat} {A12 : OA} {k13 : Nat} {m14 : Md} (S : SL ([(y4 A2 k3 x1), (y7 A4 k5 x1), (y5 A6 k7 x1), (y6 A9 k10 x8), (y15 m14 A12 k13 x11)] ++ F) w) (r : api_KV × Int) (H : f z x1 x8 x11 = some r) : Calls Tryd.prog 13 #[.agg #[.int .i64 x1.Id, .string x1.Name, .slice A2 x1.Columns.length k3, .slice A4 x1.Key.length k5, .slice A6 x1.Indexes.length k7], .agg #[.int .i64 x8.Id, .string x8.Name, .slice A9 x8.Columns.length k10, .bool x8.Unique], .slice A12 x11.length k13] w (R F x1 A2 k3 A4 k5 A6 k7 x8 A9 k10 x11 A12 k13 m14 r) := by
 refine enter (vs := [.agg #[.int .i64 x1.Id, .string x1.Name, .slice A2 x1.Columns.length k3, .slice A4 x1.Key.length k5, .slice A6 x1.Indexes.length k7], .agg #[.int .i64 x8.Id, .string x8.Name, .slice A9 x8.Columns.length k10, .bool x8.Unique], .slice A12 x11.length k13]) Tryd.func13 rfl Tryd.ntmps13 (Nat.le_of_ble_eq_true rfl) fun a T => ?_
 refine Gets.seq (rg (r_box T S rfl (cs := (y0 x1 A2 k3 A4 k5 A6 k7)) rfl rfl fun _ _ b15 S T => r_box T S rfl (cs := [.int .i64 x8.Id, .string x8.Name, .slice A9 x8.Columns.length k10, .bool x8.Unique]) rfl rfl fun _ _ b16 S T => ?_))
 refine r_alloc T S zv31 (cs := (y2)) rfl rfl fun _ _ b17 S T => r_pv T rfl rfl fun _ T => ?_
 refine Gets.seq (Gets.block (Gets.seq ?_))
 refine rg (r_ldBA (ix := 2) (ds := (y0 x1 A2 k3 A4 k5 A6 k7)) T S rfl Tryd.isAgg26 rfl rfl Tryd.sizeOf26 rfl fun _ T => r_fa (o' := 2) T rfl Tryd.runUnderlying46 rfl Tryd.sizeOf23 rfl rfl fun _ T => r_ldB (ix := 1) T S rfl Tryd.isAgg23 rfl rfl rfl fun _ T => ?_)
 replace S := S.dup (i := 3) rfl
 replace S := S.dup (i := 5) rfl
 replace S := S.dup (i := 7) rfl
 replace S := S.dup (i := 9) rfl
 obtain ⟨x19, h18, H⟩ := bd H
 refine r_call T Tryd.call23 rfl rfl (rowkey_tabled.ok _ _ z x1 x8.Columns (S.sel (p := [(y4 A2 k3 x1), (y7 A4 k5 x1), (y5 A6 k7 x1), (y6 A9 k10 x8)]) (is := [3, 2, 1, 0]) rfl) _ h18) ?_
 rintro _ _ ⟨rfl, S⟩
 refine ⟨_, rfl, fun _ T => ?_⟩
 replace S : SL ([blk b17 (y2), (y1 b16 x8 A9 k10), blk b15 (y0 x1 A2 k3 A4 k5 A6 k7), (y4 A2 k3 x1), (y7 A4 k5 x1), (y5 A6 k7 x1), (y6 A9 k10 x8), (y15 m14 A12 k13 x11)] ++ F) _ := S.join.only [4, 4, 4, 4, 4, 4, 4, 4] rfl
 refine r_pv T rfl rfl fun _ T => r_pv T rfl rfl fun _ T => ?_
 rcases ifE H with ⟨h20, H⟩ | ⟨h20, H⟩
 ·refine cdT T rfl h20 ?_
  refine Gets.seq (rg (r_build (cs := #[.slice none 0 0, .slice none 0 0]) T stt31 rfl rfl rfl fun _ T => r_stBA (ix := 0) (vs := (y2)) (l' := [blk b17 (y2), (y1 b16 x8 A9 k10), blk b15 (y0 x1 A2 k3 A4 k5 A6 k7), (y4 A2 k3 x1), (y7 A4 k5 x1), (y5 A6 k7 x1), (y6 A9 k10 x8), (y15 m14 A12 k13 x11)]) T S rfl rfl rfl rfl (by simp) Tryd.sizeOf31 (Nat.le_of_ble_eq_true rfl) rfl fun _ S => ?_))
  refine r_pv T rfl rfl fun _ T => ?_
  replace S := S.nil ku8 .ro
  replace S := S.nil ku8 .ro
  replace H := Option.some.inj H
  subst H
  exact rtnM T S Tryd.func13 rfl ⟨_, _, rfl, ⟨b17, _, 2, rfl, rfl, .inl ⟨Tryd.isAgg31, Tryd.sizeOf31, rfl⟩⟩, ⟨_, _, rfl, rfl, rfl⟩⟩ ⟨none, 0, none, 0, rfl, (S.only (p := [(y13), (y13), (y4 A2 k3 x1), (y7 A4 k5 x1), (y5 A6 k7 x1), (y6 A9 k10 x8), (y15 m14 A12 k13 x11)]) [1, 0, 3, 3, 3, 3, 3] rfl)⟩
 ·refine cdF T rfl h20 ?_
  refine Gets.seq (rg (r_ldBA (ix := 2) (ds := (y0 x1 A2 k3 A4 k5 A6 k7)) T S rfl Tryd.isAgg26 rfl rfl Tryd.sizeOf26 rfl fun _ T => r_pv T rfl rfl fun _ T => ?_))
  replace S := S.dup (i := 3) rfl
  replace S := S.dup (i := 5) rfl
  replace S := S.dup (i := 7) rfl
  obtain ⟨x22, h21, H⟩ := bd H
  refine r_call T Tryd.call24 rfl rfl (rowkey_rowed.ok _ _ z x1 x11 (S.sel (p := [(y4 A2 k3 x1), (y7 A4 k5 x1), (y5 A6 k7 x1), (y15 m14 A12 k13 x11)]) (is := [2, 1, 0, 7]) rfl) _ h21) ?_
  rintro _ _ ⟨rfl, S⟩
  refine ⟨_, rfl, fun _ T => ?_⟩
  replace S : SL ([(y15 m14 A12 k13 x11), blk b17 (y2), (y1 b16 x8 A9 k10), blk b15 (y0 x1 A2 k3 A4 k5 A6 k7), (y4 A2 k3 x1), (y7 A4 k5 x1), (y5 A6 k7 x1), (y6 A9 k10 x8)] ++ F) _ := S.join.only [3, 3, 3, 3, 3, 3, 3, 3] rfl
  refine r_pv T rfl rfl fun _ T => r_pv T rfl rfl fun _ T => ?_
  rcases ifE H with ⟨h23, H⟩ | ⟨h23, H⟩
  ·refine cdT T rfl h23 ?_
   refine Gets.seq (rg (r_build (cs := #[.slice none 0 0, .slice none 0 0]) T stt31 rfl rfl rfl fun _ T => r_stBA (ix := 1) (vs := (y2)) (l' := [(y15 m14 A12 k13 x11), blk b17 (y2), (y1 b16 x8 A9 k10), blk b15 (y0 x1 A2 k3 A4 k5 A6 k7), (y4 A2 k3 x1), (y7 A4 k5 x1), (y5 A6 k7 x1), (y6 A9 k10 x8)]) T S rfl rfl rfl rfl (by simp) Tryd.sizeOf31 (Nat.le_of_ble_eq_true rfl) rfl fun _ S => ?_))
   refine r_pv T rfl rfl fun _ T => ?_
   replace S := S.nil ku8 .ro
   replace S := S.nil ku8 .ro
   replace H := Option.some.inj H
   subst H
   exact rtnM T S Tryd.func13 rfl ⟨_, _, rfl, ⟨b17, _, 3, rfl, rfl, .inl ⟨Tryd.isAgg31, Tryd.sizeOf31, rfl⟩⟩, ⟨_, _, rfl, rfl, rfl⟩⟩ ⟨none, 0, none, 0, rfl, (S.only (p := [(y13), (y13), (y4 A2 k3 x1), (y7 A4 k5 x1), (y5 A6 k7 x1), (y6 A9 k10 x8), (y15 m14 A12 k13 x11)]) [1, 0, 4, 4, 4, 4, 0] rfl)⟩
  ·refine cdF T rfl h23 ?_
   refine Gets.skip (Gets.inBlock (Gets.seq ?_))
   refine Gets.drawn (l := [(y15 m14 A12 k13 x11), blk b17 (y2), (y1 b16 x8 A9 k10), blk b15 (y0 x1 A2 k3 A4 k5 A6 k7), (y4 A2 k3 x1), (y7 A4 k5 x1), (y5 A6 k7 x1), (y6 A9 k10 x8)]) (V := [(y8 b15), some (.int .i64 x1.Id, true), (y9 b16), some (.int .i64 x8.Id, true), none, none, some (.slice A12 x11.length k13, true), (y10 b16), some (.slice A9 x8.Columns.length k10, true), none, some (.slice A12 x11.length k13, true), (y11 b15), some (.slice A4 x1.Key.length k5, true), none, none, none, none]) mixed T S rfl ?_
   refine stage (some 4) rfl rfl ⟨⟨_, _, rfl, (avl [3] rfl), fun _ _ _ T S => r_fa (o' := 0) T rfl Tryd.runUnderlying26 rfl Tryd.sizeOf3 rfl rfl fun _ T => ⟨rfl, T⟩⟩, ⟨_, _, rfl, (avl [22] rfl), fun _ _ _ T S => r_ldB (ix := 3) T S rfl Tryd.isAgg3 rfl rfl rfl fun _ T => ⟨rfl, T⟩⟩, ⟨_, _, rfl, (avl [4] rfl), fun _ _ _ T S => r_fa (o' := 0) T rfl Tryd.runUnderlying46 rfl Tryd.sizeOf3 rfl rfl fun _ T => ⟨rfl, T⟩⟩, ⟨_, _, rfl, (avl [24] rfl), fun _ _ _ T S => r_ldB (ix := 2) T S rfl Tryd.isAgg3 rfl rfl rfl fun _ T => ⟨rfl, T⟩⟩, ⟨_, _, rfl, (avl [2] rfl), fun _ _ _ T S => r_pv T rfl rfl fun _ T => ⟨rfl, T⟩⟩, ⟨_, _, rfl, (avl [4] rfl), fun _ _ _ T S => r_fa (o' := 2) T rfl Tryd.runUnderlying46 rfl Tryd.sizeOf23 rfl rfl fun _ T => ⟨rfl, T⟩⟩, ⟨_, _, rfl, (avl [29] rfl), fun _ _ _ T S => r_ldB (ix := 2) T S rfl Tryd.isAgg23 rfl rfl rfl fun _ T => ⟨rfl, T⟩⟩, ⟨_, _, rfl, (avl [2] rfl), fun _ _ _ T S => r_pv T rfl rfl fun _ T => ⟨rfl, T⟩⟩, ⟨_, _, rfl, (avl [3] rfl), fun _ _ _ T S => r_fa (o' := 3) T rfl Tryd.runUnderlying26 rfl Tryd.sizeOf23 rfl rfl fun _ T => ⟨rfl, T⟩⟩, ⟨_, _, rfl, (avl [33] rfl), fun _ _ _ T S => r_ldB (ix := 3) T S rfl Tryd.isAgg23 rfl rfl rfl fun _ T => ⟨rfl, T⟩⟩, trivial⟩ rfl (fun i hi => ?_) (fun h => by cases h)
   cases hi
   refine ⟨rfl, _, _, rfl, (avl [23, 25] rfl), fun u a w T S => ?_⟩
   replace S := SL.val (κ := ki64) (x := x1.Id) (cs := [.int .i64 x1.Id]) (fun _ => rfl) S
   replace S := SL.val (κ := ki64) (x := x8.Id) (cs := [.int .i64 x8.Id]) (fun _ => rfl) S
   refine r_bsl (κ := ki64) (xs := [x1.Id, x8.Id]) (vs := [.int .i64 x1.Id, .int .i64 x8.Id]) T S sty23 rfl ⟨_, _, rfl, ⟨1, rfl⟩, ⟨_, _, rfl, ⟨0, rfl⟩, rfl⟩⟩ rfl (by decide) rfl fun _ _ b2241 S T => ?_
   replace S : SL ([(y3 b2241 x1 x8), (y15 m14 A12 k13 x11), blk b17 (y2), (y1 b16 x8 A9 k10), blk b15 (y0 x1 A2 k3 A4 k5 A6 k7), (y4 A2 k3 x1), (y7 A4 k5 x1), (y5 A6 k7 x1), (y6 A9 k10 x8)] ++ F) _ := S.only [0, 2, 2, 2, 2, 2, 2, 2, 2] rfl
   refine ⟨_, [(y8 b15), some (.int .i64 x1.Id, false), (y9 b16), some (.int .i64 x8.Id, false), (y14 b2241), none, some (.slice A12 x11.length k13, true), (y10 b16), some (.slice A9 x8.Columns.length k10, true), none, some (.slice A12 x11.length k13, true), (y11 b15), some (.slice A4 x1.Key.length k5, true), none, none, none, none], [(y3 b2241 x1 x8), (y15 m14 A12 k13 x11), blk b17 (y2), (y1 b16 x8 A9 k10), blk b15 (y0 x1 A2 k3 A4 k5 A6 k7), (y4 A2 k3 x1), (y7 A4 k5 x1), (y5 A6 k7 x1), (y6 A9 k10 x8)], rfl, (by repeat first | exact kx0 | apply kxs | apply kxn), rfl, ?_, T, S⟩
   refine stage (some 5) rfl rfl ⟨⟨_, _, rfl, (avl [3] rfl), fun _ _ _ T S => r_fa (o' := 0) T rfl Tryd.runUnderlying26 rfl Tryd.sizeOf3 rfl rfl fun _ T => ⟨rfl, T⟩⟩, ⟨_, _, rfl, (avl [4] rfl), fun _ _ _ T S => r_fa (o' := 0) T rfl Tryd.runUnderlying46 rfl Tryd.sizeOf3 rfl rfl fun _ T => ⟨rfl, T⟩⟩, ⟨_, _, rfl, (avl [2] rfl), fun _ _ _ T S => r_pv T rfl rfl fun _ T => ⟨rfl, T⟩⟩, ⟨_, _, rfl, (avl [4] rfl), fun _ _ _ T S => r_fa (o' := 2) T rfl Tryd.runUnderlying46 rfl Tryd.sizeOf23 rfl rfl fun _ T => ⟨rfl, T⟩⟩, ⟨_, _, rfl, (avl [29] rfl), fun _ _ _ T S => r_ldB (ix := 3) T S rfl Tryd.isAgg23 rfl rfl rfl fun _ T => ⟨rfl, T⟩⟩, ⟨_, _, rfl, (avl [2] rfl), fun _ _ _ T S => r_pv T rfl rfl fun _ T => ⟨rfl, T⟩⟩, ⟨_, _, rfl, (avl [3] rfl), fun _ _ _ T S => r_fa (o' := 3) T rfl Tryd.runUnderlying26 rfl Tryd.sizeOf23 rfl rfl fun _ T => ⟨rfl, T⟩⟩, ⟨_, _, rfl, (avl [33] rfl), fun _ _ _ T S => r_ldB (ix := 4) T S rfl Tryd.isAgg23 rfl rfl rfl fun _ T => ⟨rfl, T⟩⟩, trivial⟩ rfl (fun i hi => ?_) (fun h => by cases h)
   cases hi
   refine ⟨rfl, _, _, rfl, (avl [26] rfl), fun u a w T S => ?_⟩
   obtain ⟨x2302, h2301, H⟩ := bd H
   refine r_call T Tryd.call26 rfl rfl (rowkey_begin.ok _ _ z [x1.Id, x8.Id] (S.sel (p := [(y3 b2241 x1 x8)]) (is := [0]) rfl) _ h2301) ?_
   rintro _ _ ⟨A2303, k2304, rfl, S⟩
   refine ⟨_, rfl, fun _ T => ?_⟩
   replace S : SL ([sl .own ku8 A2303 k2304 x2302, (y3 b2241 x1 x8), (y15 m14 A12 k13 x11), blk b17 (y2), (y1 b16 x8 A9 k10), blk b15 (y0 x1 A2 k3 A4 k5 A6 k7), (y4 A2 k3 x1), (y7 A4 k5 x1), (y5 A6 k7 x1), (y6 A9 k10 x8)] ++ F) _ := S.join
   refine ⟨_, [(y8 b15), some (.int .i64 x1.Id, false), (y9 b16), some (.int .i64 x8.Id, false), (y14 b2241), some (.slice A2303 x2302.length k2304, false), some (.slice A12 x11.length k13, true), (y10 b16), some (.slice A9 x8.Columns.length k10, true), none, some (.slice A12 x11.length k13, true), (y11 b15), some (.slice A4 x1.Key.length k5, true), none, none, none, none], [sl .own ku8 A2303 k2304 x2302, (y3 b2241 x1 x8), (y15 m14 A12 k13 x11), blk b17 (y2), (y1 b16 x8 A9 k10), blk b15 (y0 x1 A2 k3 A4 k5 A6 k7), (y4 A2 k3 x1), (y7 A4 k5 x1), (y5 A6 k7 x1), (y6 A9 k10 x8)], rfl, (by repeat first | exact kx0 | apply kxs | apply kxn), rfl, ?_, T, S⟩
   refine stage (some 9) rfl rfl ⟨⟨_, _, rfl, (avl [3] rfl), fun _ _ _ T S => r_fa (o' := 0) T rfl Tryd.runUnderlying26 rfl Tryd.sizeOf3 rfl rfl fun _ T => ⟨rfl, T⟩⟩, ⟨_, _, rfl, (avl [4] rfl), fun _ _ _ T S => r_fa (o' := 0) T rfl Tryd.runUnderlying46 rfl Tryd.sizeOf3 rfl rfl fun _ T => ⟨rfl, T⟩⟩, ⟨_, _, rfl, (avl [2] rfl), fun _ _ _ T S => r_pv T rfl rfl fun _ T => ⟨rfl, T⟩⟩, ⟨_, _, rfl, (avl [4] rfl), fun _ _ _ T S => r_fa (o' := 2) T rfl Tryd.runUnderlying46 rfl Tryd.sizeOf23 rfl rfl fun _ T => ⟨rfl, T⟩⟩, ⟨_, _, rfl, (avl [29] rfl), fun _ _ _ T S => r_ldB (ix := 4) T S rfl Tryd.isAgg23 rfl rfl rfl fun _ T => ⟨rfl, T⟩⟩, ⟨_, _, rfl, (avl [2] rfl), fun _ _ _ T S => r_pv T rfl rfl fun _ T => ⟨rfl, T⟩⟩, ⟨_, _, rfl, (avl [3] rfl), fun _ _ _ T S => r_fa (o' := 3) T rfl Tryd.runUnderlying26 rfl Tryd.sizeOf23 rfl rfl fun _ T => ⟨rfl, T⟩⟩, ⟨_, _, rfl, (avl [33] rfl), fun _ _ _ T S => r_ldB (ix := 5) T S rfl Tryd.isAgg23 rfl rfl rfl fun _ T => ⟨rfl, T⟩⟩, trivial⟩ rfl (fun i hi => ?_) (fun h => by cases h)
   cases hi
   refine ⟨rfl, _, _, rfl, (avl [28, 30] rfl), fun u a w T S => ?_⟩
   replace S := S.dup (i := 9) rfl
   obtain ⟨x2542, h2541, H⟩ := bd H
   refine r_call T Tryd.call27 rfl rfl (rowkey_columns.ok _ _ z x11 x8.Columns (S.sel (p := [(y15 m14 A12 k13 x11), (y6 A9 k10 x8)]) (is := [3, 0]) rfl) _ h2541) ?_
   rintro _ _ ⟨A2543, k2544, rfl, S⟩
   refine ⟨_, rfl, fun _ T => ?_⟩
   replace S : SL ([sl .own ku8 A2543 k2544 x2542, (y15 m14 A12 k13 x11), sl .own ku8 A2303 k2304 x2302, (y3 b2241 x1 x8), blk b17 (y2), (y1 b16 x8 A9 k10), blk b15 (y0 x1 A2 k3 A4 k5 A6 k7), (y4 A2 k3 x1), (y7 A4 k5 x1), (y5 A6 k7 x1), (y6 A9 k10 x8)] ++ F) _ := S.join.only [0, 0, 1, 1, 1, 1, 1, 1, 1, 1, 1] rfl
   refine ⟨_, [(y8 b15), some (.int .i64 x1.Id, false), (y9 b16), some (.int .i64 x8.Id, false), (y14 b2241), some (.slice A2303 x2302.length k2304, false), some (.slice A12 x11.length k13, false), (y10 b16), some (.slice A9 x8.Columns.length k10, false), some (.slice A2543 x2542.length k2544, false), some (.slice A12 x11.length k13, true), (y11 b15), some (.slice A4 x1.Key.length k5, true), none, none, none, none], [sl .own ku8 A2543 k2544 x2542, (y15 m14 A12 k13 x11), sl .own ku8 A2303 k2304 x2302, (y3 b2241 x1 x8), blk b17 (y2), (y1 b16 x8 A9 k10), blk b15 (y0 x1 A2 k3 A4 k5 A6 k7), (y4 A2 k3 x1), (y7 A4 k5 x1), (y5 A6 k7 x1), (y6 A9 k10 x8)], rfl, (by repeat first | exact kx0 | apply kxs | apply kxn), rfl, ?_, T, S⟩
   refine stage (some 13) rfl rfl ⟨⟨_, _, rfl, (avl [3] rfl), fun _ _ _ T S => r_fa (o' := 0) T rfl Tryd.runUnderlying26 rfl Tryd.sizeOf3 rfl rfl fun _ T => ⟨rfl, T⟩⟩, ⟨_, _, rfl, (avl [4] rfl), fun _ _ _ T S => r_fa (o' := 0) T rfl Tryd.runUnderlying46 rfl Tryd.sizeOf3 rfl rfl fun _ T => ⟨rfl, T⟩⟩, ⟨_, _, rfl, (avl [4] rfl), fun _ _ _ T S => r_fa (o' := 2) T rfl Tryd.runUnderlying46 rfl Tryd.sizeOf23 rfl rfl fun _ T => ⟨rfl, T⟩⟩, ⟨_, _, rfl, (avl [2] rfl), fun _ _ _ T S => r_pv T rfl rfl fun _ T => ⟨rfl, T⟩⟩, ⟨_, _, rfl, (avl [3] rfl), fun _ _ _ T S => r_fa (o' := 3) T rfl Tryd.runUnderlying26 rfl Tryd.sizeOf23 rfl rfl fun _ T => ⟨rfl, T⟩⟩, ⟨_, _, rfl, (avl [33] rfl), fun _ _ _ T S => r_ldB (ix := 6) T S rfl Tryd.isAgg23 rfl rfl rfl fun _ T => ⟨rfl, T⟩⟩, trivial⟩ rfl (fun i hi => ?_) (fun h => by cases h)
   cases hi
   refine ⟨rfl, _, _, rfl, (avl [32, 34] rfl), fun u a w T S => ?_⟩
   replace S := S.dup (i := 8) rfl
   obtain ⟨x2782, h2781, H⟩ := bd H
   refine r_call T Tryd.call27 rfl rfl (rowkey_columns.ok _ _ z x11 x1.Key (S.sel (p := [(y15 m14 A12 k13 x11), (y7 A4 k5 x1)]) (is := [2, 0]) rfl) _ h2781) ?_
   rintro _ _ ⟨A2783, k2784, rfl, S⟩
   refine ⟨_, rfl, fun _ T => ?_⟩
   replace S : SL ([sl .own ku8 A2783 k2784 x2782, (y15 m14 A12 k13 x11), sl .own ku8 A2543 k2544 x2542, sl .own ku8 A2303 k2304 x2302, (y3 b2241 x1 x8), blk b17 (y2), (y1 b16 x8 A9 k10), blk b15 (y0 x1 A2 k3 A4 k5 A6 k7), (y4 A2 k3 x1), (y7 A4 k5 x1), (y5 A6 k7 x1), (y6 A9 k10 x8)] ++ F) _ := S.join.only [0, 0, 1, 1, 1, 1, 1, 1, 1, 1, 1, 1] rfl
   refine ⟨_, [(y8 b15), some (.int .i64 x1.Id, false), (y9 b16), some (.int .i64 x8.Id, false), (y14 b2241), some (.slice A2303 x2302.length k2304, false), some (.slice A12 x11.length k13, false), (y10 b16), some (.slice A9 x8.Columns.length k10, false), some (.slice A2543 x2542.length k2544, false), some (.slice A12 x11.length k13, false), (y11 b15), some (.slice A4 x1.Key.length k5, false), some (.slice A2783 x2782.length k2784, false), none, none, none], [sl .own ku8 A2783 k2784 x2782, (y15 m14 A12 k13 x11), sl .own ku8 A2543 k2544 x2542, sl .own ku8 A2303 k2304 x2302, (y3 b2241 x1 x8), blk b17 (y2), (y1 b16 x8 A9 k10), blk b15 (y0 x1 A2 k3 A4 k5 A6 k7), (y4 A2 k3 x1), (y7 A4 k5 x1), (y5 A6 k7 x1), (y6 A9 k10 x8)], rfl, (by repeat first | exact kx0 | apply kxs | apply kxn), rfl, ?_, T, S⟩
   refine stage (some 14) rfl rfl ⟨⟨_, _, rfl, (avl [3] rfl), fun _ _ _ T S => r_fa (o' := 0) T rfl Tryd.runUnderlying26 rfl Tryd.sizeOf3 rfl rfl fun _ T => ⟨rfl, T⟩⟩, ⟨_, _, rfl, (avl [4] rfl), fun _ _ _ T S => r_fa (o' := 0) T rfl Tryd.runUnderlying46 rfl Tryd.sizeOf3 rfl rfl fun _ T => ⟨rfl, T⟩⟩, ⟨_, _, rfl, (avl [4] rfl), fun _ _ _ T S => r_fa (o' := 2) T rfl Tryd.runUnderlying46 rfl Tryd.sizeOf23 rfl rfl fun _ T => ⟨rfl, T⟩⟩, ⟨_, _, rfl, (avl [3] rfl), fun _ _ _ T S => r_fa (o' := 3) T rfl Tryd.runUnderlying26 rfl Tryd.sizeOf23 rfl rfl fun _ T => ⟨rfl, T⟩⟩, trivial⟩ rfl (fun i hi => ?_) (fun h => by cases h)
   cases hi
   refine ⟨rfl, _, _, rfl, (avl [27, 31, 35] rfl), fun u a w T S => ?_⟩
   replace S : SL ([sl .own ku8 A2783 k2784 x2782, (y15 m14 A12 k13 x11), sl .own ku8 A2543 k2544 x2542, sl .ro ku8 A2303 k2304 x2302, (y3 b2241 x1 x8), blk b17 (y2), (y1 b16 x8 A9 k10), blk b15 (y0 x1 A2 k3 A4 k5 A6 k7), (y4 A2 k3 x1), (y7 A4 k5 x1), (y5 A6 k7 x1), (y6 A9 k10 x8)] ++ F) _ := S.fixL (i := 3) rfl rfl
   replace S := S.asVal (i := 3) (xs := x2302) rfl
   replace S : SL ([rp (kSl ku8) x2302 [.slice A2303 x2302.length k2304], sl .own ku8 A2783 k2784 x2782, (y15 m14 A12 k13 x11), sl .ro ku8 A2543 k2544 x2542, sl .ro ku8 A2303 k2304 x2302, (y3 b2241 x1 x8), blk b17 (y2), (y1 b16 x8 A9 k10), blk b15 (y0 x1 A2 k3 A4 k5 A6 k7), (y4 A2 k3 x1), (y7 A4 k5 x1), (y5 A6 k7 x1), (y6 A9 k10 x8)] ++ F) _ := S.fixL (i := 3) rfl rfl
   replace S := S.asVal (i := 3) (xs := x2542) rfl
   replace S : SL ([rp (kSl ku8) x2542 [.slice A2543 x2542.length k2544], rp (kSl ku8) x2302 [.slice A2303 x2302.length k2304], sl .ro ku8 A2783 k2784 x2782, (y15 m14 A12 k13 x11), sl .ro ku8 A2543 k2544 x2542, sl .ro ku8 A2303 k2304 x2302, (y3 b2241 x1 x8), blk b17 (y2), (y1 b16 x8 A9 k10), blk b15 (y0 x1 A2 k3 A4 k5 A6 k7), (y4 A2 k3 x1), (y7 A4 k5 x1), (y5 A6 k7 x1), (y6 A9 k10 x8)] ++ F) _ := S.fixL (i := 2) rfl rfl
   replace S := S.asVal (i := 2) (xs := x2782) rfl
   refine r_bsl (κ := (kSl ku8)) (xs := [x2302, x2542, x2782]) (vs := [.slice A2303 x2302.length k2304, .slice A2543 x2542.length k2544, .slice A2783 x2782.length k2784]) T S sty92 rfl ⟨_, _, rfl, ⟨2, rfl⟩, ⟨_, _, rfl, ⟨1, rfl⟩, ⟨_, _, rfl, ⟨0, rfl⟩, rfl⟩⟩⟩ rfl (by decide) rfl fun _ _ b2841 S T => ?_
   replace S : SL ([(y12 b2841 x2302 x2542 x2782), sl .ro ku8 A2783 k2784 x2782, (y15 m14 A12 k13 x11), sl .ro ku8 A2543 k2544 x2542, sl .ro ku8 A2303 k2304 x2302, (y3 b2241 x1 x8), blk b17 (y2), (y1 b16 x8 A9 k10), blk b15 (y0 x1 A2 k3 A4 k5 A6 k7), (y4 A2 k3 x1), (y7 A4 k5 x1), (y5 A6 k7 x1), (y6 A9 k10 x8)] ++ F) _ := S.only [0, 3, 3, 3, 3, 3, 3, 3, 3, 3, 3, 3, 3] rfl
   refine ⟨_, [(y8 b15), some (.int .i64 x1.Id, false), (y9 b16), some (.int .i64 x8.Id, false), (y14 b2241), some (.slice A2303 x2302.length k2304, false), some (.slice A12 x11.length k13, false), (y10 b16), some (.slice A9 x8.Columns.length k10, false), some (.slice A2543 x2542.length k2544, false), some (.slice A12 x11.length k13, false), (y11 b15), some (.slice A4 x1.Key.length k5, false), some (.slice A2783 x2782.length k2784, false), some (.slice (some ⟨b2841, 0, none⟩) 3 3, false), none, none], [(y12 b2841 x2302 x2542 x2782), sl .ro ku8 A2783 k2784 x2782, (y15 m14 A12 k13 x11), sl .ro ku8 A2543 k2544 x2542, sl .ro ku8 A2303 k2304 x2302, (y3 b2241 x1 x8), blk b17 (y2), (y1 b16 x8 A9 k10), blk b15 (y0 x1 A2 k3 A4 k5 A6 k7), (y4 A2 k3 x1), (y7 A4 k5 x1), (y5 A6 k7 x1), (y6 A9 k10 x8)], rfl, (by repeat first | exact kx0 | apply kxs | apply kxn), rfl, ?_, T, S⟩
   refine stage (some 15) rfl rfl ⟨⟨_, _, rfl, (avl [3] rfl), fun _ _ _ T S => r_fa (o' := 0) T rfl Tryd.runUnderlying26 rfl Tryd.sizeOf3 rfl rfl fun _ T => ⟨rfl, T⟩⟩, ⟨_, _, rfl, (avl [4] rfl), fun _ _ _ T S => r_fa (o' := 0) T rfl Tryd.runUnderlying46 rfl Tryd.sizeOf3 rfl rfl fun _ T => ⟨rfl, T⟩⟩, ⟨_, _, rfl, (avl [4] rfl), fun _ _ _ T S => r_fa (o' := 2) T rfl Tryd.runUnderlying46 rfl Tryd.sizeOf23 rfl rfl fun _ T => ⟨rfl, T⟩⟩, ⟨_, _, rfl, (avl [3] rfl), fun _ _ _ T S => r_fa (o' := 3) T rfl Tryd.runUnderlying26 rfl Tryd.sizeOf23 rfl rfl fun _ T => ⟨rfl, T⟩⟩, trivial⟩ rfl (fun i hi => ?_) (fun h => by cases h)
   cases hi
   refine ⟨rfl, _, _, rfl, (avl [36] rfl), fun u a w T S => ?_⟩
   obtain ⟨x2902, h2901, H⟩ := bd H
   refine r_call T Tryd.call25 rfl rfl (slices_Concat_byte.ok _ _ z [x2302, x2542, x2782] (S.sel (p := [(y12 b2841 x2302 x2542 x2782)]) (is := [0]) rfl) _ h2901) ?_
   rintro _ _ ⟨A2903, k2904, rfl, S⟩
   refine ⟨_, rfl, fun _ T => ?_⟩
   replace S : SL ([sl .own ku8 A2903 k2904 x2902, (y12 b2841 x2302 x2542 x2782), sl .ro ku8 A2783 k2784 x2782, (y15 m14 A12 k13 x11), sl .ro ku8 A2543 k2544 x2542, sl .ro ku8 A2303 k2304 x2302, (y3 b2241 x1 x8), blk b17 (y2), (y1 b16 x8 A9 k10), blk b15 (y0 x1 A2 k3 A4 k5 A6 k7), (y4 A2 k3 x1), (y7 A4 k5 x1), (y5 A6 k7 x1), (y6 A9 k10 x8)] ++ F) _ := S.join
   refine ⟨_, [(y8 b15), some (.int .i64 x1.Id, false), (y9 b16), some (.int .i64 x8.Id, false), (y14 b2241), some (.slice A2303 x2302.length k2304, false), some (.slice A12 x11.length k13, false), (y10 b16), some (.slice A9 x8.Columns.length k10, false), some (.slice A2543 x2542.length k2544, false), some (.slice A12 x11.length k13, false), (y11 b15), some (.slice A4 x1.Key.length k5, false), some (.slice A2783 x2782.length k2784, false), some (.slice (some ⟨b2841, 0, none⟩) 3 3, false), some (.slice A2903 x2902.length k2904, false), some (.slice A2903 x2902.length k2904, true)], [sl .own ku8 A2903 k2904 x2902, (y12 b2841 x2302 x2542 x2782), sl .ro ku8 A2783 k2784 x2782, (y15 m14 A12 k13 x11), sl .ro ku8 A2543 k2544 x2542, sl .ro ku8 A2303 k2304 x2302, (y3 b2241 x1 x8), blk b17 (y2), (y1 b16 x8 A9 k10), blk b15 (y0 x1 A2 k3 A4 k5 A6 k7), (y4 A2 k3 x1), (y7 A4 k5 x1), (y5 A6 k7 x1), (y6 A9 k10 x8)], rfl, (by repeat first | exact kx0 | apply kxs | apply kxn), rfl, ?_, T, S⟩
   refine stage none rfl rfl ⟨⟨_, _, rfl, (avl [3] rfl), fun _ _ _ T S => r_fa (o' := 0) T rfl Tryd.runUnderlying26 rfl Tryd.sizeOf3 rfl rfl fun _ T => ⟨rfl, T⟩⟩, ⟨_, _, rfl, (avl [4] rfl), fun _ _ _ T S => r_fa (o' := 0) T rfl Tryd.runUnderlying46 rfl Tryd.sizeOf3 rfl rfl fun _ T => ⟨rfl, T⟩⟩, ⟨_, _, rfl, (avl [4] rfl), fun _ _ _ T S => r_fa (o' := 2) T rfl Tryd.runUnderlying46 rfl Tryd.sizeOf23 rfl rfl fun _ T => ⟨rfl, T⟩⟩, ⟨_, _, rfl, (avl [3] rfl), fun _ _ _ T S => r_fa (o' := 3) T rfl Tryd.runUnderlying26 rfl Tryd.sizeOf23 rfl rfl fun _ T => ⟨rfl, T⟩⟩, ⟨_, _, rfl, (avl [37] rfl), fun _ _ _ T S => r_pv T rfl rfl fun _ T => ⟨rfl, T⟩⟩, trivial⟩ rfl (fun i hi => by cases hi) (fun _ _ a w T hv hb S => ?_)
   replace T := T.sub (r := [(6, .pointer (some ⟨b17, 0, none⟩)), (8, .slice A2903 x2902.length k2904)]) ⟨hb 6 _ rfl rfl, hv 16 _ 8 rfl rfl rfl, trivial⟩
   refine Gets.seq (Gets.seq ?_)
   refine rg (r_pv T rfl rfl fun _ T => r_lenS T rfl Tryd.runUnderlying29 rfl fun _ T => r_pv T rfl rfl fun _ T => ?_)
   rcases ifE H with ⟨h24, H⟩ | ⟨h24, H⟩
   ·refine cdT T rfl h24 ?_
    refine Gets.seq (rg (r_build (cs := #[.slice none 0 0, .slice none 0 0]) T stt31 rfl rfl rfl fun _ T => r_stBA (ix := 7) (vs := (y2)) (l' := [sl .own ku8 A2903 k2904 x2902, (y12 b2841 x2302 x2542 x2782), sl .ro ku8 A2783 k2784 x2782, (y15 m14 A12 k13 x11), sl .ro ku8 A2543 k2544 x2542, sl .ro ku8 A2303 k2304 x2302, (y3 b2241 x1 x8), blk b17 (y2), (y1 b16 x8 A9 k10), blk b15 (y0 x1 A2 k3 A4 k5 A6 k7), (y4 A2 k3 x1), (y7 A4 k5 x1), (y5 A6 k7 x1), (y6 A9 k10 x8)]) T S rfl rfl rfl rfl (by simp) Tryd.sizeOf31 (Nat.le_of_ble_eq_true rfl) rfl fun _ S => ?_))
    refine r_pv T rfl rfl fun _ T => ?_
    replace S := S.nil ku8 .ro
    replace S := S.nil ku8 .ro
    replace H := Option.some.inj H
    subst H
    exact rtnM T S Tryd.func13 rfl ⟨_, _, rfl, ⟨b17, _, 9, rfl, rfl, .inl ⟨Tryd.isAgg31, Tryd.sizeOf31, rfl⟩⟩, ⟨_, _, rfl, rfl, rfl⟩⟩ ⟨none, 0, none, 0, rfl, (S.only (p := [(y13), (y13), (y4 A2 k3 x1), (y7 A4 k5 x1), (y5 A6 k7 x1), (y6 A9 k10 x8), (y15 m14 A12 k13 x11)]) [1, 0, 10, 10, 10, 10, 3] rfl)⟩
   ·refine cdF T rfl h24 ?_
    refine Gets.skip (Gets.seq ?_)
    refine rg (r_pv T rfl rfl fun _ T => r_build (cs := #[.slice A2903 x2902.length k2904, .slice none 0 0]) T stt31 rfl rfl rfl fun _ T => r_stBA (ix := 7) (vs := [.slice A2903 x2902.length k2904, .slice none 0 0]) (l' := [sl .own ku8 A2903 k2904 x2902, (y12 b2841 x2302 x2542 x2782), sl .ro ku8 A2783 k2784 x2782, (y15 m14 A12 k13 x11), sl .ro ku8 A2543 k2544 x2542, sl .ro ku8 A2303 k2304 x2302, (y3 b2241 x1 x8), blk b17 [.slice A2903 x2902.length k2904, .slice none 0 0], (y1 b16 x8 A9 k10), blk b15 (y0 x1 A2 k3 A4 k5 A6 k7), (y4 A2 k3 x1), (y7 A4 k5 x1), (y5 A6 k7 x1), (y6 A9 k10 x8)]) T S rfl rfl rfl rfl (by simp) Tryd.sizeOf31 (Nat.le_of_ble_eq_true rfl) rfl fun _ S => ?_)
    refine r_pv T rfl rfl fun _ T => ?_
    replace S : SL ([sl .ro ku8 A2903 k2904 x2902, (y12 b2841 x2302 x2542 x2782), sl .ro ku8 A2783 k2784 x2782, (y15 m14 A12 k13 x11), sl .ro ku8 A2543 k2544 x2542, sl .ro ku8 A2303 k2304 x2302, (y3 b2241 x1 x8), blk b17 [.slice A2903 x2902.length k2904, .slice none 0 0], (y1 b16 x8 A9 k10), blk b15 (y0 x1 A2 k3 A4 k5 A6 k7), (y4 A2 k3 x1), (y7 A4 k5 x1), (y5 A6 k7 x1), (y6 A9 k10 x8)] ++ F) _ := S.fixL (i := 0) rfl rfl
    replace S := S.nil ku8 .ro
    replace H := Option.some.inj H
    subst H
    exact rtnM T S Tryd.func13 rfl ⟨_, _, rfl, ⟨b17, _, 8, rfl, rfl, .inl ⟨Tryd.isAgg31, Tryd.sizeOf31, rfl⟩⟩, ⟨_, _, rfl, rfl, rfl⟩⟩ ⟨A2903, k2904, none, 0, rfl, (S.only (p := [sl .ro ku8 A2903 k2904 x2902, (y13), (y4 A2 k3 x1), (y7 A4 k5 x1), (y5 A6 k7 x1), (y6 A9 k10 x8), (y15 m14 A12 k13 x11)]) [1, 0, 9, 9, 9, 9, 2] rfl)⟩
end rowkey_Entry
end Go.Proofs.YtohelmfkpmphoaaDoor
namespace Go.Proofs.YtohelmfkpmphoaaDoor
open Go Go.Proofs.YtohelmfkpmphoaaDoor.X
set_option linter.unusedVariables false
set_option linter.unusedSimpArgs false
set_option maxRecDepth 100000
set_option maxHeartbeats 4000000
namespace bytes_HasPrefix
noncomputable def c0 : Code := match Tryd.f37.body with | some c => c | none => .skip
def R (F : List Atom) (x1 : List Int) (A2 : OA) (k3 : Nat) (x4 : List Int) (A5 : OA) (k6 : Nat) (m7 : Md) (r : Bool) : Ending → World → Prop := fun e w' => e = .returned (.bool r) ∧ SL ([sl .ro ku8 A2 k3 x1, sl m7 ku8 A5 k6 x4] ++ F) w'
def J0 (x14 : Bool) : Option Bool := some x14
def f (x1 x4 : List Int) : Option Bool := If (decide ((x1.length : Int) ≥ (x4.length : Int))) (Ck (0 ≤ (x4.length : Int) ∧ (x4.length : Int) ≤ (x1.length : Int)) (Bd (bytes_Equal.f (cut x1 (Int.toNat 0) (Int.toNat (x4.length : Int))) x4) fun x13 => J0 x13)) (J0 false)
noncomputable def ptJ0 : List Item := [.code (cR (cR c0))]
theorem J0_ok (F : List Atom) (r : Bool) (x1 : List Int) (A2 : OA) (k3 : Nat) (x4 : List Int) (A5 : OA) (k6 : Nat) (m7 : Md) (x14 : Bool) (a : Act) (w : World) (T : Tm 18 [(4, .bool x14)] a) (S : SL ([sl .ro ku8 A2 k3 x1, sl m7 ku8 A5 k6 x4] ++ F) w) (H : J0 x14 = some r) : Gets Tryd.prog 37 ptJ0 a w (R F x1 A2 k3 x4 A5 k6 m7 r) := by
 replace H := Option.some.inj H
 subst H
 exact rtn T Tryd.func37 rfl rfl ⟨rfl, (S.only (p := [sl .ro ku8 A2 k3 x1, sl m7 ku8 A5 k6 x4]) [0, 0] rfl)⟩
theorem ok (F : List Atom) (w : World) (x1 x4 : List Int) {A2 : OA} {k3 : Nat} {A5 : OA} {k6 : Nat} {m7 : Md} (S : SL ([sl .ro ku8 A2 k3 x1, sl m7 ku8 A5 k6 x4] ++ F) w) (r : Bool) (H : f x1 x4 = some r) : Calls Tryd.prog 37 #[.slice A2 x1.length k3, .slice A5 x4.length k6] w (R F x1 A2 k3 x4 A5 k6 m7 r) := by
 refine enter (vs := [.slice A2 x1.length k3, .slice A5 x4.length k6]) Tryd.func37 rfl Tryd.ntmps37 (Nat.le_of_ble_eq_true rfl) fun a T => ?_
 refine Gets.seq (rg (r_pv T rfl rfl fun _ T => Gets.seq ?_))
 refine rg (r_pv T rfl rfl fun _ T => r_lenS T rfl Tryd.runUnderlying29 rfl fun _ T => r_pv T rfl rfl fun _ T => ?_)
 refine r_lenS T rfl Tryd.runUnderlying29 rfl fun _ T => r_pv T rfl rfl fun _ T => r_pv T rfl rfl fun _ T => ?_
 rcases ifE H with ⟨h8, H⟩ | ⟨h8, H⟩
 ·refine g_yes T rfl rfl h8 ?_
  refine r_pv T rfl rfl fun _ T => g_yes T rfl rfl h8 (r_pv T rfl rfl fun _ T => g_yes T rfl rfl h8 ?_)
  refine r_lenS T rfl Tryd.runUnderlying29 rfl fun _ T => g_yes T rfl rfl h8 ?_
  have h9 := S.len (i := 0) rfl
  obtain ⟨h10, H⟩ := ck H
  refine r_slR (ix := 0) (xs := x1) T S rfl rfl (fun h => by cases h) rfl rfl rfl (Int.le_refl _) h10.1 h10.2 (by have := h10.2; omega) (by omega) Tryd.runUnderlying29 Tryd.sizeOf5 rfl fun _ A11 S T => ?_
  refine g_yes T rfl rfl h8 (r_pv T rfl rfl fun _ T => g_yes T rfl rfl h8 ?_)
  obtain ⟨x13, h12, H⟩ := bd H
  refine r_call T Tryd.call34 rfl rfl (bytes_Equal.ok _ _ (cut x1 (Int.toNat 0) (Int.toNat (x4.length : Int))) x4 (S.sel (p := [sl .ro ku8 A11 (Int.toNat (k3 : Int) - Int.toNat 0) (cut x1 (Int.toNat 0) (Int.toNat (x4.length : Int))), sl m7 ku8 A5 k6 x4]) (is := [0, 1]) rfl) _ h12) ?_
  rintro _ _ ⟨rfl, S⟩
  refine ⟨_, rfl, fun _ T => ?_⟩
  replace S : SL ([sl .ro ku8 A11 (Int.toNat (k3 : Int) - Int.toNat 0) (cut x1 (Int.toNat 0) (Int.toNat (x4.length : Int))), sl m7 ku8 A5 k6 x4, sl .ro ku8 A2 k3 x1] ++ F) _ := S.join
  refine r_pickT T rfl h8 rfl rfl fun _ T => r_pv T rfl rfl fun _ T => ?_
  exact J0_ok F r x1 A2 k3 x4 A5 k6 m7 x13 _ _ (T.sub ⟨rfl, trivial⟩) (S.only (p := [sl .ro ku8 A2 k3 x1, sl m7 ku8 A5 k6 x4]) [2, 1] rfl) H
 ·refine g_no T rfl rfl h8 rfl fun _ T => ?_
  refine g_no T rfl rfl h8 rfl fun _ T => g_no T rfl rfl h8 rfl fun _ T => g_no T rfl rfl h8 rfl fun _ T => g_no T rfl rfl h8 rfl fun _ T => ?_
  refine g_no T rfl rfl h8 rfl fun _ T => r_pickF T rfl h8 rfl rfl fun _ T => r_pv T rfl rfl fun _ T => ?_
  exact J0_ok F r x1 A2 k3 x4 A5 k6 m7 false _ _ (T.sub ⟨rfl, trivial⟩) (S.only (p := [sl .ro ku8 A2 k3 x1, sl m7 ku8 A5 k6 x4]) [0, 0] rfl) H
end bytes_HasPrefix
end Go.Proofs.YtohelmfkpmphoaaDoor
namespace Go.Proofs.YtohelmfkpmphoaaDoor
open Go Go.Proofs.YtohelmfkpmphoaaDoor.X
set_option linter.unusedVariables false
set_option linter.unusedSimpArgs false
set_option maxRecDepth 100000
set_option maxHeartbeats 4000000
namespace rowkey_some
noncomputable def c0 : Code := match Tryd.f38.body with | some c => c | none => .skip
def R (F : List Atom) (x1 : List api_Value) (A2 : OA) (k3 : Nat) (m4 : Md) (x5 : List Int) (A6 : OA) (k7 : Nat) (m8 : Md) (r : (List api_Value)) : Ending → World → Prop := fun e w' => ∃ (A23 : OA), ∃ (k24 : Nat), e = .returned (.slice A23 r.length k24) ∧ SL ([sl .own kapi_Value A23 k24 r, sl m4 kapi_Value A2 k3 x1, sl m8 ki64 A6 k7 x5] ++ F) w'
def L0 (z : Nat) (x1 : List api_Value) (x5 : List Int) : Nat → (List api_Value) → Int → Option (List api_Value)
 | 0, _, _ => none
 | m + 1, x9, x12 => If (decide (x12 < (x5.length : Int))) (Ck (0 ≤ x12 ∧ x12 < (x5.length : Int)) (Ck (0 ≤ gi (0 : Int) x5 x12 ∧ gi (0 : Int) x5 x12 < (x1.length : Int)) (Ck ((x9.length + [(gi dapi_Value x1 (gi (0 : Int) x5 x12))].length) * 40 ≤ 140737488355328) (L0 z x1 x5 m (x9 ++ [(gi dapi_Value x1 (gi (0 : Int) x5 x12))]) (wr .i64 (x12 + 1)))))) (Bd (slices_Clip_cormorant_api_Value.f x9) fun x15 => some x15)
def f (z : Nat) (x1 : List api_Value) (x5 : List Int) : Option (List api_Value) := L0 z x1 x5 z [] 0
noncomputable def ptL0 : List Item := [.code (cB (cB (cR (cL (cR (cR c0)))))), .inLoop (cB (cB (cR (cL (cR (cR c0)))))), .inBlock 0, .code (cr 3 c0)]
theorem L0_ok (F : List Atom) (r : (List api_Value)) (z : Nat) (x1 : List api_Value) (A2 : OA) (k3 : Nat) (m4 : Md) (x5 : List Int) (A6 : OA) (k7 : Nat) (m8 : Md) (m : Nat) : ∀ (A10 : OA) (x9 : List api_Value) (k11 : Nat) (x12 : Int) (a : Act) (w : World), Tm 24 [(0, .slice A2 x1.length k3), (5, .slice A10 x9.length k11), (8, .slice A6 x5.length k7), (9, .int .i64 (x5.length : Int)), (10, .int .i64 x12)] a → SL ([sl m4 kapi_Value A2 k3 x1, sl m8 ki64 A6 k7 x5, sl .own kapi_Value A10 k11 x9] ++ F) w → L0 z x1 x5 m x9 x12 = some r → Gets Tryd.prog 38 ptL0 a w (R F x1 A2 k3 m4 x5 A6 k7 m8 r) := by
 induction m with
 | zero => intro _ _ _ _ _ _ _ _ H; cases H
 | succ m ih =>
  intro A10 x9 k11 x12 a w T S H
  refine Gets.seq (rg (r_pv T rfl rfl fun _ T => Gets.seq ?_))
  rcases ifE H with ⟨h13, H⟩ | ⟨h13, H⟩
  ·refine cdT T rfl h13 ?_
   refine Gets.skip (Gets.seq (Gets.block (Gets.seq ?_)))
   refine rg ?_
   obtain ⟨h17, H⟩ := ck H
   refine r_ia (ix := 1) T S rfl rfl rfl rfl Tryd.runUnderlying23 Tryd.sizeOf3 h17.1 h17.2 rfl fun _ T => r_ldE (ix := 1) (i := x12) (off := 0) (f := (Value.int .i64)) T S rfl Tryd.isAgg3 rfl (0 : Int) _ rfl rfl (Fld.all _) h17.1 h17.2 (fun h => h) rfl fun _ T => r_pv T rfl rfl fun _ T => rg ?_
   refine r_pv T rfl rfl fun _ T => r_pv T rfl rfl fun _ T => r_pv T rfl rfl fun _ T => ?_
   obtain ⟨h18, H⟩ := ck H
   refine r_ia (ix := 0) T S rfl rfl rfl rfl Tryd.runUnderlying27 Tryd.sizeOf43 h18.1 h18.2 rfl fun _ T => r_ldEP (ix := 0) (i := gi (0 : Int) x5 x12) (off := 0) (f := pf_api_Value) T S rfl rfl Tryd.isAgg43 Tryd.sizeOf43 dapi_Value rfl (Fld.all _) h18.1 h18.2 pl_api_Value rfl fun _ T => ?_
   replace S : SL ([rp kapi_Value (gi dapi_Value x1 (gi (0 : Int) x5 x12)) [.int .i64 ((gi dapi_Value x1 (gi (0 : Int) x5 x12)).Type'), .bool ((gi dapi_Value x1 (gi (0 : Int) x5 x12)).Null), .int .i64 ((gi dapi_Value x1 (gi (0 : Int) x5 x12)).Int), .string ((gi dapi_Value x1 (gi (0 : Int) x5 x12)).Text)], sl m4 kapi_Value A2 k3 x1, sl m8 ki64 A6 k7 x5, sl .own kapi_Value A10 k11 x9] ++ F) _ := cl_api_Value  S 
   refine r_bsl (κ := kapi_Value) (xs := [(gi dapi_Value x1 (gi (0 : Int) x5 x12))]) (vs := [.agg #[.int .i64 ((gi dapi_Value x1 (gi (0 : Int) x5 x12)).Type'), .bool ((gi dapi_Value x1 (gi (0 : Int) x5 x12)).Null), .int .i64 ((gi dapi_Value x1 (gi (0 : Int) x5 x12)).Int), .string ((gi dapi_Value x1 (gi (0 : Int) x5 x12)).Text)]]) T S sty27 rfl ⟨_, _, rfl, ⟨0, rfl⟩, rfl⟩ rfl (by decide) rfl fun _ _ b19 S T => ?_
   replace S : SL ([sl .own kapi_Value (some ⟨b19, 0, none⟩) 1 [(gi dapi_Value x1 (gi (0 : Int) x5 x12))], sl m4 kapi_Value A2 k3 x1, sl m8 ki64 A6 k7 x5, sl .own kapi_Value A10 k11 x9] ++ F) _ := S.only [0, 1, 1, 1] rfl
   obtain ⟨h22, H⟩ := ck H
   refine r_app (ix := 3) (iy := 0) (xs := x9) (ys := [(gi dapi_Value x1 (gi (0 : Int) x5 x12))]) T S rfl rfl rfl rfl (by decide) sty27 Tryd.runUnderlying27 (by decide) h22 rfl fun _ _ A20 k21 S T => ?_
   replace S : SL ([sl .own kapi_Value (some ⟨b19, 0, none⟩) 1 [(gi dapi_Value x1 (gi (0 : Int) x5 x12))], sl m4 kapi_Value A2 k3 x1, sl m8 ki64 A6 k7 x5, sl .own kapi_Value A20 k21 (x9 ++ [(gi dapi_Value x1 (gi (0 : Int) x5 x12))])] ++ F) _ := S
   refine r_pv T rfl rfl fun _ T => Gets.inBlock (rg (r_pv T rfl rfl fun _ T => ?_))
   refine r_pv T rfl rfl fun _ T => Gets.inLoop ?_
   exact ih A20 (x9 ++ [(gi dapi_Value x1 (gi (0 : Int) x5 x12))]) k21 (wr .i64 (x12 + 1)) _ _ (T.sub ⟨rfl, rfl, rfl, rfl, rfl, trivial⟩) (S.only (p := [sl m4 kapi_Value A2 k3 x1, sl m8 ki64 A6 k7 x5, sl .own kapi_Value A20 k21 (x9 ++ [(gi dapi_Value x1 (gi (0 : Int) x5 x12))])]) [1, 1, 1] rfl) H
  ·refine cdF T rfl h13 ?_
   refine Gets.exit rfl (Gets.seq ?_)
   refine rg (r_pv T rfl rfl fun _ T => ?_)
   obtain ⟨x15, h14, H⟩ := bd H
   refine r_call T Tryd.call66 rfl rfl (slices_Clip_cormorant_api_Value.ok _ _ x9 (S.sel (p := [sl .own kapi_Value A10 k11 x9]) (is := [2]) rfl) _ h14) ?_
   rintro _ _ ⟨A16, rfl, S⟩
   refine ⟨_, rfl, fun _ T => ?_⟩
   replace S : SL ([sl .own kapi_Value A16 x15.length x15, sl m4 kapi_Value A2 k3 x1, sl m8 ki64 A6 k7 x5] ++ F) _ := S.join
   refine r_pv T rfl rfl fun _ T => ?_
   replace H := Option.some.inj H
   subst H
   exact rtn T Tryd.func38 rfl rfl ⟨A16, x15.length, rfl, (S.only (p := [sl .own kapi_Value A16 x15.length x15, sl m4 kapi_Value A2 k3 x1, sl m8 ki64 A6 k7 x5]) [0, 0, 0] rfl)⟩
theorem ok (F : List Atom) (w : World) (z : Nat) (x1 : List api_Value) (x5 : List Int) {A2 : OA} {k3 : Nat} {m4 : Md} {A6 : OA} {k7 : Nat} {m8 : Md} (S : SL ([sl m4 kapi_Value A2 k3 x1, sl m8 ki64 A6 k7 x5] ++ F) w) (r : (List api_Value)) (H : f z x1 x5 = some r) : Calls Tryd.prog 38 #[.slice A2 x1.length k3, .slice A6 x5.length k7] w (R F x1 A2 k3 m4 x5 A6 k7 m8 r) := by
 refine enter (vs := [.slice A2 x1.length k3, .slice A6 x5.length k7]) Tryd.func38 rfl Tryd.ntmps38 (Nat.le_of_ble_eq_true rfl) fun a T => ?_
 refine Gets.seq (rg (r_pv T rfl rfl fun _ T => Gets.seq ?_))
 refine rg (r_pv T rfl rfl fun _ T => ?_)
 refine Gets.seq (Gets.seq ?_)
 refine rg (r_pv T rfl rfl fun _ T => r_lenS T rfl Tryd.runUnderlying23 rfl fun _ T => r_pv T rfl rfl fun _ T => ?_)
 refine Gets.block (Gets.loop ?_)
 replace S := S.nil kapi_Value .own
 exact L0_ok F r z x1 A2 k3 m4 x5 A6 k7 m8 z none [] 0 0 _ _ (T.sub ⟨rfl, rfl, rfl, rfl, rfl, trivial⟩) (S.only (p := [sl m4 kapi_Value A2 k3 x1, sl m8 ki64 A6 k7 x5, sl .own kapi_Value none 0 []]) [1, 1, 0] rfl) H
end rowkey_some
end Go.Proofs.YtohelmfkpmphoaaDoor
namespace Go.Proofs.YtohelmfkpmphoaaDoor
open Go Go.Proofs.YtohelmfkpmphoaaDoor.X
set_option linter.unusedVariables false
set_option linter.unusedSimpArgs false
set_option maxRecDepth 100000
set_option maxHeartbeats 4000000
namespace rowkey_TakeEntry
noncomputable def c0 : Code := match Tryd.f14.body with | some c => c | none => .skip
def R (F : List Atom) (x1 : api_Table) (A2 : OA) (k3 : Nat) (A4 : OA) (k5 : Nat) (A6 : OA) (k7 : Nat) (x8 : api_Index) (A9 : OA) (k10 : Nat) (x11 : api_KV) (A12 : OA) (k13 : Nat) (A14 : OA) (k15 : Nat) (r : (List api_Value) × (List api_Value) × Int) : Ending → World → Prop := fun e w' => ∃ (A78 : OA), ∃ (k79 : Nat), ∃ (A80 : OA), ∃ (k81 : Nat), e = .returned (.tuple #[.slice A78 r.1.length k79, .slice A80 r.2.1.length k81, .int .i64 r.2.2]) ∧ SL ([sl .own kapi_Value A78 k79 r.1, sl .own kapi_Value A80 k81 r.2.1, sl .ro kapi_Column A2 k3 x1.Columns, sl .ro ki64 A4 k5 x1.Key, sl .ro kapi_Index A6 k7 x1.Indexes, sl .ro ki64 A9 k10 x8.Columns, sl .ro ku8 A12 k13 x11.Key, sl .ro ku8 A14 k15 x11.Value] ++ F) w'
def J2 (z : Nat) : Option ((List api_Value) × (List api_Value) × Int) := some (([] : List api_Value), ([] : List api_Value), 200)
def L1 (z : Nat) (x1 : api_Table) (x8 : api_Index) (x11 : api_KV) (x24 : (List Int)) : Nat → (List api_Value) → Int → Option ((List api_Value) × (List api_Value) × Int)
 | 0, _, _ => none
 | m + 1, x34, x37 => If (decide (x37 < (x1.Columns.length : Int))) (Ck (0 ≤ x37 ∧ x37 < (x1.Columns.length : Int)) (Ck (x37 < (x34.length : Int)) (L1 z x1 x8 x11 x24 m (x34.set (Int.toNat x37) (api_Value.mk ((gi dapi_Column x1.Columns x37).Type') (!((gi dapi_Column x1.Columns x37).NotNull)) 0 (⟨#[]⟩ : ByteArray))) (wr .i64 (x37 + 1))))) (Ck (0 ≤ (x24.length : Int) ∧ (x24.length : Int) ≤ (x11.Key.length : Int)) (Bd (rowkey_reader_keys.f z (rowkey_reader.mk (cut x11.Key (Int.toNat (x24.length : Int)) (Int.toNat (x11.Key.length : Int))) false) x1 x8.Columns x34) fun x44 => Bd (rowkey_some.f z x44.2 x8.Columns) fun x50 => Bd (rowkey_reader_keys.f z x44.1 x1 x1.Key x44.2) fun x54 => Bd (rowkey_Entry.f z x1 x8 x54.2) fun x60 => If x54.1.bad (J2 z) (If (x60.2 != 0) (J2 z) (Bd (bytes_Equal.f x60.1.Key x11.Key) fun x69 => If (!x69) (J2 z) (Bd (rowkey_some.f z x54.2 x1.Key) fun x72 => some (x50, x72, 0))))))
def J0 (z : Nat) : Option ((List api_Value) × (List api_Value) × Int) := some (([] : List api_Value), ([] : List api_Value), 200)
def f (z : Nat) (x1 : api_Table) (x8 : api_Index) (x11 : api_KV) : Option ((List api_Value) × (List api_Value) × Int) := Bd (rowkey_tabled.f z x1 x8.Columns) fun x20 => If (!x20) (some (([] : List api_Value), ([] : List api_Value), 1)) (Bd (rowkey_begin.f z [x1.Id, x8.Id]) fun x24 => If (decide ((x11.Value.length : Int) > 0)) (J0 z) (If (decide ((x11.Key.length : Int) > 256)) (J0 z) (Bd (bytes_HasPrefix.f x11.Key x24) fun x30 => If (!x30) (J0 z) (Ck (0 ≤ (x1.Columns.length : Int) ∧ (x1.Columns.length : Int) ≤ (x1.Columns.length : Int) ∧ 40 * (x1.Columns.length : Int) ≤ 281474976710656) (L1 z x1 x8 x11 x24 z (List.replicate (Int.toNat (x1.Columns.length : Int)) dapi_Value) 0)))))
noncomputable def ptJ2 : List Item := [.code (cL (cT (cR (cL (cr 11 c0))))), .code (cR (cT (cR (cL (cr 11 c0))))), .code (cr 12 c0)]
noncomputable def ptL1 : List Item := [.code (cB (cB (cR (cL (cr 5 c0))))), .inLoop (cB (cB (cR (cL (cr 5 c0))))), .inBlock 0, .code (cr 6 c0)]
noncomputable def ptJ0 : List Item := [.code (cL (cT (cR (cL (cr 3 c0))))), .code (cR (cT (cR (cL (cr 3 c0))))), .code (cr 4 c0)]
abbrev y0 (x1 : api_Table) (A2 : OA) (k3 : Nat) (A4 : OA) (k5 : Nat) (A6 : OA) (k7 : Nat) : List Value := [.int .i64 x1.Id, .string x1.Name, .slice A2 x1.Columns.length k3, .slice A4 x1.Key.length k5, .slice A6 x1.Indexes.length k7]
abbrev y1 (x8 : api_Index) (A9 : OA) (k10 : Nat) : List Value := [.int .i64 x8.Id, .string x8.Name, .slice A9 x8.Columns.length k10, .bool x8.Unique]
abbrev y2 (A2 : OA) (k3 : Nat) (x1 : api_Table) (A4 : OA) (k5 : Nat) (A6 : OA) (k7 : Nat) (A9 : OA) (k10 : Nat) (x8 : api_Index) (A12 : OA) (k13 : Nat) (x11 : api_KV) (A14 : OA) (k15 : Nat) : List Atom := [sl .ro kapi_Column A2 k3 x1.Columns, sl .ro ki64 A4 k5 x1.Key, sl .ro kapi_Index A6 k7 x1.Indexes, sl .ro ki64 A9 k10 x8.Columns, sl .ro ku8 A12 k13 x11.Key, sl .ro ku8 A14 k15 x11.Value]
abbrev y3 (x1 : api_Table) (x37 : Int) : List Value := [.string ((gi dapi_Column x1.Columns x37).Name), .int .i64 ((gi dapi_Column x1.Columns x37).Type'), .bool ((gi dapi_Column x1.Columns x37).NotNull), .int .i64 (((gi dapi_Column x1.Columns x37).Default).Type'), .bool (((gi dapi_Column x1.Columns x37).Default).Null), .int .i64 (((gi dapi_Column x1.Columns x37).Default).Int), .string (((gi dapi_Column x1.Columns x37).Default).Text)]
abbrev y4 (b18 : Nat) (A12 : OA) (x11 : api_KV) (k13 : Nat) (A14 : OA) (k15 : Nat) : Atom := blk b18 [.slice A12 x11.Key.length k13, .slice A14 x11.Value.length k15]
abbrev y5 (A2 : OA) (k3 : Nat) (x1 : api_Table) : Atom := sl .ro kapi_Column A2 k3 x1.Columns
abbrev y6 (A6 : OA) (k7 : Nat) (x1 : api_Table) : Atom := sl .ro kapi_Index A6 k7 x1.Indexes
abbrev y7 (x1 : api_Table) (x37 : Int) : api_Value := (api_Value.mk ((gi dapi_Column x1.Columns x37).Type') (!((gi dapi_Column x1.Columns x37).NotNull)) 0 (⟨#[]⟩ : ByteArray))
abbrev y8 (A9 : OA) (k10 : Nat) (x8 : api_Index) : Atom := sl .ro ki64 A9 k10 x8.Columns
abbrev y9 (A4 : OA) (k5 : Nat) (x1 : api_Table) : Atom := sl .ro ki64 A4 k5 x1.Key
abbrev y10 : Atom := sl .own kapi_Value none 0 ([] : List api_Value)
abbrev y11 (A41 : OA) (x11 : api_KV) (x24 : (List Int)) (k13 : Nat) : Value := .slice A41 ((cut x11.Key (Int.toNat (x24.length : Int)) (Int.toNat (x11.Key.length : Int))).length) (Int.toNat (k13 : Int) - Int.toNat (x24.length : Int))
abbrev y12 (A14 : OA) (k15 : Nat) (x11 : api_KV) : Atom := sl .ro ku8 A14 k15 x11.Value
theorem J2_ok (F : List Atom) (r : (List api_Value) × (List api_Value) × Int) (z : Nat) (x1 : api_Table) (A2 : OA) (k3 : Nat) (A4 : OA) (k5 : Nat) (A6 : OA) (k7 : Nat) (x8 : api_Index) (A9 : OA) (k10 : Nat) (x11 : api_KV) (A12 : OA) (k13 : Nat) (A14 : OA) (k15 : Nat) (a : Act) (w : World) (T : Tm 118 [] a) (S : SL ((y2 A2 k3 x1 A4 k5 A6 k7 A9 k10 x8 A12 k13 x11 A14 k15) ++ F) w) (H : J2 z = some r) : Gets Tryd.prog 14 ptJ2 a w (R F x1 A2 k3 A4 k5 A6 k7 x8 A9 k10 x11 A12 k13 A14 k15 r) := by
 refine rg (r_pv T rfl rfl fun _ T => r_pv T rfl rfl fun _ T => r_pv T rfl rfl fun _ T => ?_)
 replace S := S.nil kapi_Value .own
 replace S := S.nil kapi_Value .own
 replace H := Option.some.inj H
 subst H
 exact rtn T Tryd.func14 rfl rfl ⟨none, 0, none, 0, rfl, (S.only (p := [(y10), (y10), (y5 A2 k3 x1), (y9 A4 k5 x1), (y6 A6 k7 x1), (y8 A9 k10 x8), sl .ro ku8 A12 k13 x11.Key, (y12 A14 k15 x11)]) [1, 0, 0, 0, 0, 0, 0, 0] rfl)⟩
theorem L1_ok (F : List Atom) (r : (List api_Value) × (List api_Value) × Int) (z : Nat) (x1 : api_Table) (A2 : OA) (k3 : Nat) (A4 : OA) (k5 : Nat) (A6 : OA) (k7 : Nat) (x8 : api_Index) (A9 : OA) (k10 : Nat) (x11 : api_KV) (A12 : OA) (k13 : Nat) (A14 : OA) (k15 b16 b17 b18 : Nat) (A25 : OA) (x24 : (List Int)) (k26 m : Nat) : ∀ (A35 : OA) (x34 : List api_Value) (k36 : Nat) (x37 : Int) (a : Act) (w : World), Tm 118 [(3, .pointer (some ⟨b16, 0, none⟩)), (4, .pointer (some ⟨b17, 0, none⟩)), (5, .pointer (some ⟨b18, 0, none⟩)), (9, .slice A25 x24.length k26), (10, .slice A35 x34.length k36), (50, .slice A2 x1.Columns.length k3), (51, .int .i64 (x1.Columns.length : Int)), (52, .int .i64 x37)] a → SL ([(y5 A2 k3 x1), (y9 A4 k5 x1), (y6 A6 k7 x1), (y8 A9 k10 x8), sl .ro ku8 A12 k13 x11.Key, (y12 A14 k15 x11), blk b16 (y0 x1 A2 k3 A4 k5 A6 k7), blk b17 (y1 x8 A9 k10), (y4 b18 A12 x11 k13 A14 k15), sl .own ku8 A25 k26 x24, sl .own kapi_Value A35 k36 x34] ++ F) w → L1 z x1 x8 x11 x24 m x34 x37 = some r → Gets Tryd.prog 14 ptL1 a w (R F x1 A2 k3 A4 k5 A6 k7 x8 A9 k10 x11 A12 k13 A14 k15 r) := by
 induction m with
 | zero => intro _ _ _ _ _ _ _ _ H; cases H
 | succ m ih =>
  intro A35 x34 k36 x37 a w T S H
  refine Gets.seq (rg (r_pv T rfl rfl fun _ T => Gets.seq ?_))
  rcases ifE H with ⟨h38, H⟩ | ⟨h38, H⟩
  ·refine cdT T rfl h38 ?_
   refine Gets.skip (Gets.seq (Gets.block (Gets.seq ?_)))
   refine rg (r_pv T rfl rfl fun _ T => ?_)
   obtain ⟨h75, H⟩ := ck H
   refine r_ia (ix := 0) T S rfl rfl rfl rfl Tryd.runUnderlying22 Tryd.sizeOf72 h75.1 h75.2 rfl fun _ T => r_ldEA (ix := 0) (i := x37) (off := 0) T S rfl rfl Tryd.isAgg72 Tryd.sizeOf72 dapi_Column rfl (Fld.all _) h75.1 h75.2 rfl fun _ _ S T => ?_
   obtain ⟨hv_, S_⟩ := op_api_Column S
   subst hv_
   replace S := S_
   refine r_alloc T S zv72 (cs := [.string (⟨#[]⟩ : ByteArray), .int .i64 0, .bool false, .int .i64 0, .bool false, .int .i64 0, .string (⟨#[]⟩ : ByteArray)]) rfl rfl fun _ _ b76 S T => r_pv T rfl rfl fun _ T => r_stBA (ix := 0) (vs := (y3 x1 x37)) (l' := [blk b76 (y3 x1 x37), (y5 A2 k3 x1), (y9 A4 k5 x1), (y6 A6 k7 x1), (y8 A9 k10 x8), sl .ro ku8 A12 k13 x11.Key, (y12 A14 k15 x11), blk b16 (y0 x1 A2 k3 A4 k5 A6 k7), blk b17 (y1 x8 A9 k10), (y4 b18 A12 x11 k13 A14 k15), sl .own ku8 A25 k26 x24, sl .own kapi_Value A35 k36 x34]) T S rfl rfl rfl rfl (by simp) Tryd.sizeOf72 (Nat.le_of_ble_eq_true rfl) rfl fun _ S => ?_
   refine rg (r_pv T rfl rfl fun _ T => r_pv T rfl rfl fun _ T => r_fa (o' := 1) T rfl Tryd.runUnderlying72 rfl Tryd.sizeOf3 rfl rfl fun _ T => ?_)
   refine r_ldB (ix := 0) T S rfl Tryd.isAgg3 rfl rfl rfl fun _ T => r_fa (o' := 2) T rfl Tryd.runUnderlying72 rfl Tryd.sizeOf4 rfl rfl fun _ T => r_ldB (ix := 0) T S rfl Tryd.isAgg4 rfl rfl rfl fun _ T => r_pv T rfl rfl fun _ T => ?_
   refine r_build (cs := #[.int .i64 ((gi dapi_Column x1.Columns x37).Type'), .bool (!((gi dapi_Column x1.Columns x37).NotNull)), .int .i64 0, .string (⟨#[]⟩ : ByteArray)]) T stt43 rfl rfl rfl fun _ T => ?_
   obtain ⟨h77, H⟩ := ck H
   refine r_ia (ix := 11) T S rfl rfl rfl rfl Tryd.runUnderlying27 Tryd.sizeOf43 h75.1 h77 rfl fun _ T => r_stEO (ix := 11) (i := x37) (u := (y7 x1 x37)) (vs := [.int .i64 ((gi dapi_Column x1.Columns x37).Type'), .bool (!((gi dapi_Column x1.Columns x37).NotNull)), .int .i64 0, .string (⟨#[]⟩ : ByteArray)]) (l' := [blk b76 (y3 x1 x37), (y5 A2 k3 x1), (y9 A4 k5 x1), (y6 A6 k7 x1), (y8 A9 k10 x8), sl .ro ku8 A12 k13 x11.Key, (y12 A14 k15 x11), blk b16 (y0 x1 A2 k3 A4 k5 A6 k7), blk b17 (y1 x8 A9 k10), (y4 b18 A12 x11 k13 A14 k15), sl .own ku8 A25 k26 x24, sl .own kapi_Value A35 k36 (x34.set (Int.toNat x37) (y7 x1 x37))]) T S rfl rfl rfl rfl (by simp) (fun _ => ⟨_, _, rfl, rfl, ⟨_, _, rfl, rfl, ⟨_, _, rfl, rfl, rfl⟩⟩⟩) Tryd.sizeOf43 h75.1 h77 rfl fun _ S => ?_
   refine Gets.inBlock (rg (r_pv T rfl rfl fun _ T => r_pv T rfl rfl fun _ T => ?_))
   refine Gets.inLoop ?_
   have T := T.re (s := 10) (v' := .slice A35 (x34.set (Int.toNat x37) (y7 x1 x37)).length k36) rfl (by simp)
   exact ih A35 (x34.set (Int.toNat x37) (y7 x1 x37)) k36 (wr .i64 (x37 + 1)) _ _ (T.sub ⟨rfl, rfl, rfl, rfl, rfl, rfl, rfl, rfl, trivial⟩) (S.only (p := [(y5 A2 k3 x1), (y9 A4 k5 x1), (y6 A6 k7 x1), (y8 A9 k10 x8), sl .ro ku8 A12 k13 x11.Key, (y12 A14 k15 x11), blk b16 (y0 x1 A2 k3 A4 k5 A6 k7), blk b17 (y1 x8 A9 k10), (y4 b18 A12 x11 k13 A14 k15), sl .own ku8 A25 k26 x24, sl .own kapi_Value A35 k36 (x34.set (Int.toNat x37) (y7 x1 x37))]) [1, 1, 1, 1, 1, 1, 1, 1, 1, 1, 1] rfl) H
  ·refine cdF T rfl h38 ?_
   refine Gets.exit rfl (Gets.seq ?_)
   refine rg (r_fa (o' := 0) T rfl Tryd.runUnderlying31 rfl Tryd.sizeOf29 rfl rfl fun _ T => r_ldB (ix := 8) T S rfl Tryd.isAgg29 rfl rfl rfl fun _ T => r_pv T rfl rfl fun _ T => ?_)
   refine r_lenS T rfl Tryd.runUnderlying29 rfl fun _ T => ?_
   have h39 := S.len (i := 4) rfl
   obtain ⟨h40, H⟩ := ck H
   refine r_slR (ix := 4) (xs := x11.Key) T S rfl rfl (fun h => by cases h) rfl rfl rfl h40.1 h40.2 (Int.le_refl _) (by omega) (by omega) Tryd.runUnderlying29 Tryd.sizeOf5 rfl fun _ A41 S T => ?_
   refine r_build (cs := #[(y11 A41 x11 x24 k13), .bool false]) T stt69 rfl rfl rfl fun _ T => r_box T S rfl (cs := [(y11 A41 x11 x24 k13), .bool false]) rfl rfl fun _ _ b42 S T => r_pv T rfl rfl fun _ T => Gets.seq ?_
   refine rg (r_pv T rfl rfl fun _ T => r_ldBA (ix := 8) (ds := (y0 x1 A2 k3 A4 k5 A6 k7)) T S rfl Tryd.isAgg26 rfl rfl Tryd.sizeOf26 rfl fun _ T => r_fa (o' := 2) T rfl Tryd.runUnderlying46 rfl Tryd.sizeOf23 rfl rfl fun _ T => ?_)
   refine r_ldB (ix := 9) T S rfl Tryd.isAgg23 rfl rfl rfl fun _ T => r_pv T rfl rfl fun _ T => ?_
   replace S := S.dup (i := 2) rfl
   replace S := S.dup (i := 4) rfl
   replace S := S.dup (i := 6) rfl
   replace S := S.dup (i := 8) rfl
   obtain ⟨x44, h43, H⟩ := bd H
   refine r_call T Tryd.call31 rfl rfl (rowkey_reader_keys.ok _ _ z (rowkey_reader.mk (cut x11.Key (Int.toNat (x24.length : Int)) (Int.toNat (x11.Key.length : Int))) false) x1 x8.Columns x34 (S.sel (p := [blk b42 [(y11 A41 x11 x24 k13), .bool false], sl .ro ku8 A41 (Int.toNat (k13 : Int) - Int.toNat (x24.length : Int)) (cut x11.Key (Int.toNat (x24.length : Int)) (Int.toNat (x11.Key.length : Int))), (y5 A2 k3 x1), (y9 A4 k5 x1), (y6 A6 k7 x1), (y8 A9 k10 x8), sl .own kapi_Value A35 k36 x34]) (is := [4, 4, 3, 2, 1, 0, 10]) rfl) _ h43) ?_
   rintro _ _ ⟨A46, k47, rfl, S⟩
   refine ⟨_, rfl, fun _ T => ?_⟩
   replace S : SL ([blk b42 [.slice A46 x44.1.b.length k47, .bool x44.1.bad], sl .ro ku8 A46 k47 x44.1.b, sl .own kapi_Value A35 k36 x44.2, pr (x44.2.length = x34.length), (y5 A2 k3 x1), (y9 A4 k5 x1), (y6 A6 k7 x1), (y8 A9 k10 x8), sl .ro ku8 A12 k13 x11.Key, (y12 A14 k15 x11), blk b16 (y0 x1 A2 k3 A4 k5 A6 k7), blk b17 (y1 x8 A9 k10), (y4 b18 A12 x11 k13 A14 k15), sl .own ku8 A25 k26 x24] ++ F) _ := S.join.only [0, 0, 4, 4, 4, 4, 4, 4, 4, 4, 4, 4, 4, 4] rfl
   have h48 := (S.getp (i := 3) rfl)
   refine Gets.seq (rg (r_pv T rfl rfl fun _ T => r_fa (o' := 2) T rfl Tryd.runUnderlying46 rfl Tryd.sizeOf23 rfl rfl fun _ T => ?_))
   refine r_ldB (ix := 11) T S rfl Tryd.isAgg23 rfl rfl rfl fun _ T => ?_
   replace T := T.re (s := 80) (v' := .slice A35 x44.2.length k36) rfl (by rw [h48])
   replace S := S.dup (i := 7) rfl
   obtain ⟨x50, h49, H⟩ := bd H
   refine r_call T Tryd.call38 rfl rfl (rowkey_some.ok _ _ z x44.2 x8.Columns (S.sel (p := [sl .own kapi_Value A35 k36 x44.2, (y8 A9 k10 x8)]) (is := [3, 0]) rfl) _ h49) ?_
   rintro _ _ ⟨A51, k52, rfl, S⟩
   refine ⟨_, rfl, fun _ T => ?_⟩
   replace S : SL ([sl .own kapi_Value A51 k52 x50, sl .own kapi_Value A35 k36 x44.2, blk b42 [.slice A46 x44.1.b.length k47, .bool x44.1.bad], sl .ro ku8 A46 k47 x44.1.b, pr (x44.2.length = x34.length), (y5 A2 k3 x1), (y9 A4 k5 x1), (y6 A6 k7 x1), (y8 A9 k10 x8), sl .ro ku8 A12 k13 x11.Key, (y12 A14 k15 x11), blk b16 (y0 x1 A2 k3 A4 k5 A6 k7), blk b17 (y1 x8 A9 k10), (y4 b18 A12 x11 k13 A14 k15), sl .own ku8 A25 k26 x24] ++ F) _ := S.join.only [0, 0, 1, 1, 1, 1, 1, 1, 1, 1, 1, 1, 1, 1, 1] rfl
   refine r_pv T rfl rfl fun _ T => Gets.seq (rg (r_pv T rfl rfl fun _ T => ?_))
   refine r_ldBA (ix := 11) (ds := (y0 x1 A2 k3 A4 k5 A6 k7)) T S rfl Tryd.isAgg26 rfl rfl Tryd.sizeOf26 rfl fun _ T => r_fa (o' := 3) T rfl Tryd.runUnderlying26 rfl Tryd.sizeOf23 rfl rfl fun _ T => r_ldB (ix := 11) T S rfl Tryd.isAgg23 rfl rfl rfl fun _ T => r_pv T rfl rfl fun _ T => ?_
   replace T := T.re (s := 88) (v' := .slice A35 x44.2.length k36) rfl (by rw [h48])
   replace S := S.dup (i := 5) rfl
   replace S := S.dup (i := 7) rfl
   replace S := S.dup (i := 9) rfl
   replace S := S.dup (i := 9) rfl
   obtain ⟨x54, h53, H⟩ := bd H
   refine r_call T Tryd.call31 rfl rfl (rowkey_reader_keys.ok _ _ z x44.1 x1 x1.Key x44.2 (S.sel (p := [blk b42 [.slice A46 x44.1.b.length k47, .bool x44.1.bad], sl .ro ku8 A46 k47 x44.1.b, (y5 A2 k3 x1), (y9 A4 k5 x1), (y6 A6 k7 x1), (y9 A4 k5 x1), sl .own kapi_Value A35 k36 x44.2]) (is := [6, 6, 3, 2, 1, 0, 1]) rfl) _ h53) ?_
   rintro _ _ ⟨A56, k57, rfl, S⟩
   refine ⟨_, rfl, fun _ T => ?_⟩
   replace S : SL ([blk b42 [.slice A56 x54.1.b.length k57, .bool x54.1.bad], sl .ro ku8 A56 k57 x54.1.b, sl .own kapi_Value A35 k36 x54.2, pr (x54.2.length = x44.2.length), sl .own kapi_Value A51 k52 x50, pr (x44.2.length = x34.length), (y5 A2 k3 x1), (y9 A4 k5 x1), (y6 A6 k7 x1), (y8 A9 k10 x8), sl .ro ku8 A12 k13 x11.Key, (y12 A14 k15 x11), blk b16 (y0 x1 A2 k3 A4 k5 A6 k7), blk b17 (y1 x8 A9 k10), (y4 b18 A12 x11 k13 A14 k15), sl .own ku8 A25 k26 x24] ++ F) _ := S.join.only [0, 0, 4, 4, 4, 4, 4, 4, 4, 4, 4, 4, 4, 4, 4, 4] rfl
   have h58 := (S.getp (i := 3) rfl).trans h48
   refine Gets.seq (rg (r_ldBA (ix := 12) (ds := (y0 x1 A2 k3 A4 k5 A6 k7)) T S rfl Tryd.isAgg26 rfl rfl Tryd.sizeOf26 rfl fun _ T => r_ldBA (ix := 13) (ds := (y1 x8 A9 k10)) T S rfl Tryd.isAgg46 rfl rfl Tryd.sizeOf46 rfl fun _ T => ?_))
   refine r_pv T rfl rfl fun _ T => ?_
   replace T := T.re (s := 93) (v' := .slice A35 x54.2.length k36) rfl (by rw [h58])
   replace S := S.dup (i := 6) rfl
   replace S := S.dup (i := 8) rfl
   replace S := S.dup (i := 10) rfl
   replace S := S.dup (i := 12) rfl
   obtain ⟨x60, h59, H⟩ := bd H
   refine r_call T Tryd.call13 rfl rfl (rowkey_Entry.ok _ _ z x1 x8 x54.2 (S.sel (p := [(y5 A2 k3 x1), (y9 A4 k5 x1), (y6 A6 k7 x1), (y8 A9 k10 x8), sl .own kapi_Value A35 k36 x54.2]) (is := [3, 2, 1, 0, 2]) rfl) _ h59) ?_
   rintro _ _ ⟨A61, k62, A63, k64, rfl, S⟩
   refine ⟨_, rfl, fun _ T => ?_⟩
   replace S : SL ([sl .ro ku8 A61 k62 x60.1.Key, sl .ro ku8 A63 k64 x60.1.Value, sl .own kapi_Value A35 k36 x54.2, blk b42 [.slice A56 x54.1.b.length k57, .bool x54.1.bad], sl .ro ku8 A56 k57 x54.1.b, pr (x54.2.length = x44.2.length), sl .own kapi_Value A51 k52 x50, pr (x44.2.length = x34.length), (y5 A2 k3 x1), (y9 A4 k5 x1), (y6 A6 k7 x1), (y8 A9 k10 x8), sl .ro ku8 A12 k13 x11.Key, (y12 A14 k15 x11), blk b16 (y0 x1 A2 k3 A4 k5 A6 k7), blk b17 (y1 x8 A9 k10), (y4 b18 A12 x11 k13 A14 k15), sl .own ku8 A25 k26 x24] ++ F) _ := S.join.only [0, 0, 4, 4, 4, 4, 4, 4, 4, 4, 4, 4, 4, 4, 4, 4, 4, 4] rfl
   refine r_pv T rfl rfl fun _ T => r_pv T rfl rfl fun _ T => r_pv T rfl rfl fun _ T => r_alloc T S zv31 (cs := [.slice none 0 0, .slice none 0 0]) rfl rfl fun _ _ b65 S T => ?_
   refine r_stBA (ix := 0) (vs := [.slice A61 x60.1.Key.length k62, .slice A63 x60.1.Value.length k64]) (l' := [blk b65 [.slice A61 x60.1.Key.length k62, .slice A63 x60.1.Value.length k64], sl .ro ku8 A61 k62 x60.1.Key, sl .ro ku8 A63 k64 x60.1.Value, sl .own kapi_Value A35 k36 x54.2, blk b42 [.slice A56 x54.1.b.length k57, .bool x54.1.bad], sl .ro ku8 A56 k57 x54.1.b, pr (x54.2.length = x44.2.length), sl .own kapi_Value A51 k52 x50, pr (x44.2.length = x34.length), (y5 A2 k3 x1), (y9 A4 k5 x1), (y6 A6 k7 x1), (y8 A9 k10 x8), sl .ro ku8 A12 k13 x11.Key, (y12 A14 k15 x11), blk b16 (y0 x1 A2 k3 A4 k5 A6 k7), blk b17 (y1 x8 A9 k10), (y4 b18 A12 x11 k13 A14 k15), sl .own ku8 A25 k26 x24]) T S rfl rfl rfl rfl (by simp) Tryd.sizeOf31 (Nat.le_of_ble_eq_true rfl) rfl fun _ S => ?_
   refine r_pv T rfl rfl fun _ T => ?_
   refine Gets.seq (Gets.seq ?_)
   refine rg (r_pv T rfl rfl fun _ T => r_pv T rfl rfl fun _ T => r_fa (o' := 1) T rfl Tryd.runUnderlying69 rfl Tryd.sizeOf4 rfl rfl fun _ T => ?_)
   refine r_ldB (ix := 4) T S rfl Tryd.isAgg4 rfl rfl rfl fun _ T => r_pv T rfl rfl fun _ T => ?_
   rcases ifE H with ⟨h66, H⟩ | ⟨h66, H⟩
   ·refine g_no T rfl rfl h66 rfl fun _ T => ?_
    refine g_no T rfl rfl h66 rfl fun _ T => r_pickT T rfl h66 rfl rfl fun _ T => r_pv T rfl rfl fun _ T => g_no T rfl rfl rfl rfl fun _ T => ?_
    refine g_no T rfl rfl rfl rfl fun _ T => g_no T rfl rfl rfl rfl fun _ T => g_no T rfl rfl rfl rfl fun _ T => g_no T rfl rfl rfl rfl fun _ T => ?_
    refine g_no T rfl rfl rfl rfl fun _ T => r_pickT T rfl rfl rfl rfl fun _ T => cdT T rfl rfl (Gets.seq ?_)
    exact J2_ok F r z x1 A2 k3 A4 k5 A6 k7 x8 A9 k10 x11 A12 k13 A14 k15 _ _ (T.sub trivial) (S.only (p := (y2 A2 k3 x1 A4 k5 A6 k7 A9 k10 x8 A12 k13 x11 A14 k15)) [9, 9, 9, 9, 9, 9] rfl) H
   ·refine g_yes T rfl rfl h66 ?_
    refine r_pv T rfl rfl fun _ T => g_yes T rfl rfl h66 (r_pv T rfl rfl fun _ T => r_pickF T rfl h66 rfl rfl fun _ T => ?_)
    refine r_pv T rfl rfl fun _ T => ?_
    rcases ifE H with ⟨h67, H⟩ | ⟨h67, H⟩
    ·refine g_no T rfl rfl h67 rfl fun _ T => ?_
     refine g_no T rfl rfl h67 rfl fun _ T => g_no T rfl rfl h67 rfl fun _ T => g_no T rfl rfl h67 rfl fun _ T => g_no T rfl rfl h67 rfl fun _ T => ?_
     refine g_no T rfl rfl h67 rfl fun _ T => r_pickT T rfl h67 rfl rfl fun _ T => cdT T rfl rfl (Gets.seq ?_)
     exact J2_ok F r z x1 A2 k3 A4 k5 A6 k7 x8 A9 k10 x11 A12 k13 A14 k15 _ _ (T.sub trivial) (S.only (p := (y2 A2 k3 x1 A4 k5 A6 k7 A9 k10 x8 A12 k13 x11 A14 k15)) [9, 9, 9, 9, 9, 9] rfl) H
    ·refine g_yes T rfl rfl h67 ?_
     refine r_fa (o' := 0) T rfl Tryd.runUnderlying31 rfl Tryd.sizeOf29 rfl rfl fun _ T => g_yes T rfl rfl h67 (r_ldB (ix := 0) T S rfl Tryd.isAgg29 rfl rfl rfl fun _ T => g_yes T rfl rfl h67 ?_)
     refine r_fa (o' := 0) T rfl Tryd.runUnderlying31 rfl Tryd.sizeOf29 rfl rfl fun _ T => g_yes T rfl rfl h67 (r_ldB (ix := 17) T S rfl Tryd.isAgg29 rfl rfl rfl fun _ T => g_yes T rfl rfl h67 ?_)
     replace S := S.dup (i := 13) rfl
     obtain ⟨x69, h68, H⟩ := bd H
     refine r_call T Tryd.call34 rfl rfl (bytes_Equal.ok _ _ x60.1.Key x11.Key (S.sel (p := [sl .ro ku8 A61 k62 x60.1.Key, sl .ro ku8 A12 k13 x11.Key]) (is := [2, 0]) rfl) _ h68) ?_
     rintro _ _ ⟨rfl, S⟩
     refine ⟨_, rfl, fun _ T => ?_⟩
     replace S : SL ([sl .ro ku8 A61 k62 x60.1.Key, blk b65 [.slice A61 x60.1.Key.length k62, .slice A63 x60.1.Value.length k64], sl .ro ku8 A63 k64 x60.1.Value, sl .own kapi_Value A35 k36 x54.2, blk b42 [.slice A56 x54.1.b.length k57, .bool x54.1.bad], sl .ro ku8 A56 k57 x54.1.b, pr (x54.2.length = x44.2.length), sl .own kapi_Value A51 k52 x50, pr (x44.2.length = x34.length), (y5 A2 k3 x1), (y9 A4 k5 x1), (y6 A6 k7 x1), (y8 A9 k10 x8), sl .ro ku8 A12 k13 x11.Key, (y12 A14 k15 x11), blk b16 (y0 x1 A2 k3 A4 k5 A6 k7), blk b17 (y1 x8 A9 k10), (y4 b18 A12 x11 k13 A14 k15), sl .own ku8 A25 k26 x24] ++ F) _ := S.join.only [0, 1, 1, 1, 1, 1, 1, 1, 1, 1, 1, 1, 1, 1, 1, 1, 1, 1, 1] rfl
     refine g_yes T rfl rfl h67 (r_pv T rfl rfl fun _ T => r_pickF T rfl h67 rfl rfl fun _ T => ?_)
     rcases ifE H with ⟨h70, H⟩ | ⟨h70, H⟩
     ·refine cdT T rfl h70 ?_
      refine Gets.seq ?_
      exact J2_ok F r z x1 A2 k3 A4 k5 A6 k7 x8 A9 k10 x11 A12 k13 A14 k15 _ _ (T.sub trivial) (S.only (p := (y2 A2 k3 x1 A4 k5 A6 k7 A9 k10 x8 A12 k13 x11 A14 k15)) [9, 9, 9, 9, 9, 9] rfl) H
     ·refine cdF T rfl h70 ?_
      refine Gets.skip (Gets.seq ?_)
      refine rg (r_pv T rfl rfl fun _ T => r_pv T rfl rfl fun _ T => r_fa (o' := 3) T rfl Tryd.runUnderlying26 rfl Tryd.sizeOf23 rfl rfl fun _ T => ?_)
      refine r_ldB (ix := 15) T S rfl Tryd.isAgg23 rfl rfl rfl fun _ T => ?_
      replace T := T.re (s := 114) (v' := .slice A35 x54.2.length k36) rfl (by rw [h58])
      replace S := S.dup (i := 10) rfl
      obtain ⟨x72, h71, H⟩ := bd H
      refine r_call T Tryd.call38 rfl rfl (rowkey_some.ok _ _ z x54.2 x1.Key (S.sel (p := [sl .own kapi_Value A35 k36 x54.2, (y9 A4 k5 x1)]) (is := [4, 0]) rfl) _ h71) ?_
      rintro _ _ ⟨A73, k74, rfl, S⟩
      refine ⟨_, rfl, fun _ T => ?_⟩
      replace S : SL ([sl .own kapi_Value A73 k74 x72, sl .own kapi_Value A35 k36 x54.2, sl .ro ku8 A61 k62 x60.1.Key, blk b65 [.slice A61 x60.1.Key.length k62, .slice A63 x60.1.Value.length k64], sl .ro ku8 A63 k64 x60.1.Value, blk b42 [.slice A56 x54.1.b.length k57, .bool x54.1.bad], sl .ro ku8 A56 k57 x54.1.b, pr (x54.2.length = x44.2.length), sl .own kapi_Value A51 k52 x50, pr (x44.2.length = x34.length), (y5 A2 k3 x1), (y9 A4 k5 x1), (y6 A6 k7 x1), (y8 A9 k10 x8), sl .ro ku8 A12 k13 x11.Key, (y12 A14 k15 x11), blk b16 (y0 x1 A2 k3 A4 k5 A6 k7), blk b17 (y1 x8 A9 k10), (y4 b18 A12 x11 k13 A14 k15), sl .own ku8 A25 k26 x24] ++ F) _ := S.join.only [0, 0, 1, 1, 1, 1, 1, 1, 1, 1, 1, 1, 1, 1, 1, 1, 1, 1, 1, 1] rfl
      refine r_pv T rfl rfl fun _ T => r_pv T rfl rfl fun _ T => r_pv T rfl rfl fun _ T => ?_
      replace H := Option.some.inj H
      subst H
      exact rtn T Tryd.func14 rfl rfl ⟨A51, k52, A73, k74, rfl, (S.only (p := [sl .own kapi_Value A51 k52 x50, sl .own kapi_Value A73 k74 x72, (y5 A2 k3 x1), (y9 A4 k5 x1), (y6 A6 k7 x1), (y8 A9 k10 x8), sl .ro ku8 A12 k13 x11.Key, (y12 A14 k15 x11)]) [8, 0, 8, 8, 8, 8, 8, 8] rfl)⟩
theorem J0_ok (F : List Atom) (r : (List api_Value) × (List api_Value) × Int) (z : Nat) (x1 : api_Table) (A2 : OA) (k3 : Nat) (A4 : OA) (k5 : Nat) (A6 : OA) (k7 : Nat) (x8 : api_Index) (A9 : OA) (k10 : Nat) (x11 : api_KV) (A12 : OA) (k13 : Nat) (A14 : OA) (k15 : Nat) (a : Act) (w : World) (T : Tm 118 [] a) (S : SL ((y2 A2 k3 x1 A4 k5 A6 k7 A9 k10 x8 A12 k13 x11 A14 k15) ++ F) w) (H : J0 z = some r) : Gets Tryd.prog 14 ptJ0 a w (R F x1 A2 k3 A4 k5 A6 k7 x8 A9 k10 x11 A12 k13 A14 k15 r) := by
 refine rg (r_pv T rfl rfl fun _ T => r_pv T rfl rfl fun _ T => r_pv T rfl rfl fun _ T => ?_)
 replace S := S.nil kapi_Value .own
 replace S := S.nil kapi_Value .own
 replace H := Option.some.inj H
 subst H
 exact rtn T Tryd.func14 rfl rfl ⟨none, 0, none, 0, rfl, (S.only (p := [(y10), (y10), (y5 A2 k3 x1), (y9 A4 k5 x1), (y6 A6 k7 x1), (y8 A9 k10 x8), sl .ro ku8 A12 k13 x11.Key, (y12 A14 k15 x11)]) [1, 0, 0, 0, 0, 0, 0, 0] rfl)⟩
theorem ok (F : List Atom) (w : World) (z : Nat) (x1 : api_Table) (x8 : api_Index) (x11 : api_KV) {A2 : OA} {k3 : Nat} {A4 : OA} {k5 : Nat} {A6 : OA} {k7 : Nat} {A9 : OA} {k10 : Nat} {A12 : OA} {k13 : Nat} {A14 : OA} {k15 : Nat} (S : SL ((y2 A2 k3 x1 A4 k5 A6 k7 A9 k10 x8 A12 k13 x11 A14 k15) ++ F) w) (r : (List api_Value) × (List api_Value) × Int) (H : f z x1 x8 x11 = some r) : Calls Tryd.prog 14 #[.agg #[.int .i64 x1.Id, .string x1.Name, .slice A2 x1.Columns.length k3, .slice A4 x1.Key.length k5, .slice A6 x1.Indexes.length k7], .agg #[.int .i64 x8.Id, .string x8.Name, .slice A9 x8.Columns.length k10, .bool x8.Unique], .agg #[.slice A12 x11.Key.length k13, .slice A14 x11.Value.length k15]] w (R F x1 A2 k3 A4 k5 A6 k7 x8 A9 k10 x11 A12 k13 A14 k15 r) := by
 refine enter (vs := [.agg #[.int .i64 x1.Id, .string x1.Name, .slice A2 x1.Columns.length k3, .slice A4 x1.Key.length k5, .slice A6 x1.Indexes.length k7], .agg #[.int .i64 x8.Id, .string x8.Name, .slice A9 x8.Columns.length k10, .bool x8.Unique], .agg #[.slice A12 x11.Key.length k13, .slice A14 x11.Value.length k15]]) Tryd.func14 rfl Tryd.ntmps14 (Nat.le_of_ble_eq_true rfl) fun a T => ?_
 refine Gets.seq (rg (r_box T S rfl (cs := (y0 x1 A2 k3 A4 k5 A6 k7)) rfl rfl fun _ _ b16 S T => r_box T S rfl (cs := (y1 x8 A9 k10)) rfl rfl fun _ _ b17 S T => ?_))
 refine r_box T S rfl (cs := [.slice A12 x11.Key.length k13, .slice A14 x11.Value.length k15]) rfl rfl fun _ _ b18 S T => r_pv T rfl rfl fun _ T => r_pv T rfl rfl fun _ T => r_pv T rfl rfl fun _ T => ?_
 refine Gets.seq (Gets.seq ?_)
 refine rg (r_ldBA (ix := 2) (ds := (y0 x1 A2 k3 A4 k5 A6 k7)) T S rfl Tryd.isAgg26 rfl rfl Tryd.sizeOf26 rfl fun _ T => r_fa (o' := 2) T rfl Tryd.runUnderlying46 rfl Tryd.sizeOf23 rfl rfl fun _ T => r_ldB (ix := 1) T S rfl Tryd.isAgg23 rfl rfl rfl fun _ T => ?_)
 replace S := S.dup (i := 3) rfl
 replace S := S.dup (i := 5) rfl
 replace S := S.dup (i := 7) rfl
 replace S := S.dup (i := 9) rfl
 obtain ⟨x20, h19, H⟩ := bd H
 refine r_call T Tryd.call23 rfl rfl (rowkey_tabled.ok _ _ z x1 x8.Columns (S.sel (p := [(y5 A2 k3 x1), (y9 A4 k5 x1), (y6 A6 k7 x1), (y8 A9 k10 x8)]) (is := [3, 2, 1, 0]) rfl) _ h19) ?_
 rintro _ _ ⟨rfl, S⟩
 refine ⟨_, rfl, fun _ T => ?_⟩
 replace S : SL ([(y4 b18 A12 x11 k13 A14 k15), blk b17 (y1 x8 A9 k10), blk b16 (y0 x1 A2 k3 A4 k5 A6 k7), (y5 A2 k3 x1), (y9 A4 k5 x1), (y6 A6 k7 x1), (y8 A9 k10 x8), sl .ro ku8 A12 k13 x11.Key, (y12 A14 k15 x11)] ++ F) _ := S.join.only [4, 4, 4, 4, 4, 4, 4, 4, 4] rfl
 refine r_pv T rfl rfl fun _ T => ?_
 rcases ifE H with ⟨h21, H⟩ | ⟨h21, H⟩
 ·refine cdT T rfl h21 ?_
  refine Gets.seq (rg (r_pv T rfl rfl fun _ T => r_pv T rfl rfl fun _ T => ?_))
  refine r_pv T rfl rfl fun _ T => ?_
  replace S := S.nil kapi_Value .own
  replace S := S.nil kapi_Value .own
  replace H := Option.some.inj H
  subst H
  exact rtn T Tryd.func14 rfl rfl ⟨none, 0, none, 0, rfl, (S.only (p := [(y10), (y10), (y5 A2 k3 x1), (y9 A4 k5 x1), (y6 A6 k7 x1), (y8 A9 k10 x8), sl .ro ku8 A12 k13 x11.Key, (y12 A14 k15 x11)]) [1, 0, 3, 3, 3, 3, 3, 3] rfl)⟩
 ·refine cdF T rfl h21 ?_
  refine Gets.skip (Gets.seq ?_)
  refine rg (r_fa (o' := 0) T rfl Tryd.runUnderlying26 rfl Tryd.sizeOf3 rfl rfl fun _ T => r_ldB (ix := 2) T S rfl Tryd.isAgg3 rfl rfl rfl fun _ T => r_fa (o' := 0) T rfl Tryd.runUnderlying46 rfl Tryd.sizeOf3 rfl rfl fun _ T => ?_)
  refine r_ldB (ix := 1) T S rfl Tryd.isAgg3 rfl rfl rfl fun _ T => ?_
  replace S := SL.val (κ := ki64) (x := x1.Id) (cs := [.int .i64 x1.Id]) (fun _ => rfl) S
  replace S := SL.val (κ := ki64) (x := x8.Id) (cs := [.int .i64 x8.Id]) (fun _ => rfl) S
  refine r_bsl (κ := ki64) (xs := [x1.Id, x8.Id]) (vs := [.int .i64 x1.Id, .int .i64 x8.Id]) T S sty23 rfl ⟨_, _, rfl, ⟨1, rfl⟩, ⟨_, _, rfl, ⟨0, rfl⟩, rfl⟩⟩ rfl (by decide) rfl fun _ _ b22 S T => ?_
  replace S : SL ([sl .own ki64 (some ⟨b22, 0, none⟩) 2 [x1.Id, x8.Id], (y4 b18 A12 x11 k13 A14 k15), blk b17 (y1 x8 A9 k10), blk b16 (y0 x1 A2 k3 A4 k5 A6 k7), (y5 A2 k3 x1), (y9 A4 k5 x1), (y6 A6 k7 x1), (y8 A9 k10 x8), sl .ro ku8 A12 k13 x11.Key, (y12 A14 k15 x11)] ++ F) _ := S.only [0, 2, 2, 2, 2, 2, 2, 2, 2, 2] rfl
  obtain ⟨x24, h23, H⟩ := bd H
  refine r_call T Tryd.call26 rfl rfl (rowkey_begin.ok _ _ z [x1.Id, x8.Id] (S.sel (p := [sl .own ki64 (some ⟨b22, 0, none⟩) 2 [x1.Id, x8.Id]]) (is := [0]) rfl) _ h23) ?_
  rintro _ _ ⟨A25, k26, rfl, S⟩
  refine ⟨_, rfl, fun _ T => ?_⟩
  replace S : SL ([sl .own ku8 A25 k26 x24, sl .own ki64 (some ⟨b22, 0, none⟩) 2 [x1.Id, x8.Id], (y4 b18 A12 x11 k13 A14 k15), blk b17 (y1 x8 A9 k10), blk b16 (y0 x1 A2 k3 A4 k5 A6 k7), (y5 A2 k3 x1), (y9 A4 k5 x1), (y6 A6 k7 x1), (y8 A9 k10 x8), sl .ro ku8 A12 k13 x11.Key, (y12 A14 k15 x11)] ++ F) _ := S.join
  refine r_pv T rfl rfl fun _ T => ?_
  refine Gets.seq (Gets.seq ?_)
  refine rg (r_fa (o' := 1) T rfl Tryd.runUnderlying31 rfl Tryd.sizeOf29 rfl rfl fun _ T => r_ldB (ix := 2) T S rfl Tryd.isAgg29 rfl rfl rfl fun _ T => r_lenS T rfl Tryd.runUnderlying29 rfl fun _ T => ?_)
  refine r_pv T rfl rfl fun _ T => r_pv T rfl rfl fun _ T => ?_
  rcases ifE H with ⟨h27, H⟩ | ⟨h27, H⟩
  ·refine g_no T rfl rfl h27 rfl fun _ T => ?_
   refine g_no T rfl rfl h27 rfl fun _ T => g_no T rfl rfl h27 rfl fun _ T => g_no T rfl rfl h27 rfl fun _ T => r_pickT T rfl h27 rfl rfl fun _ T => ?_
   refine r_pv T rfl rfl fun _ T => g_no T rfl rfl rfl rfl fun _ T => g_no T rfl rfl rfl rfl fun _ T => g_no T rfl rfl rfl rfl fun _ T => ?_
   refine g_no T rfl rfl rfl rfl fun _ T => g_no T rfl rfl rfl rfl fun _ T => r_pickT T rfl rfl rfl rfl fun _ T => cdT T rfl rfl ?_
   refine Gets.seq ?_
   exact J0_ok F r z x1 A2 k3 A4 k5 A6 k7 x8 A9 k10 x11 A12 k13 A14 k15 _ _ (T.sub trivial) (S.only (p := (y2 A2 k3 x1 A4 k5 A6 k7 A9 k10 x8 A12 k13 x11 A14 k15)) [5, 5, 5, 5, 5, 5] rfl) H
  ·refine g_yes T rfl rfl h27 ?_
   refine r_fa (o' := 0) T rfl Tryd.runUnderlying31 rfl Tryd.sizeOf29 rfl rfl fun _ T => g_yes T rfl rfl h27 (r_ldB (ix := 2) T S rfl Tryd.isAgg29 rfl rfl rfl fun _ T => g_yes T rfl rfl h27 ?_)
   refine r_lenS T rfl Tryd.runUnderlying29 rfl fun _ T => g_yes T rfl rfl h27 (r_pv T rfl rfl fun _ T => r_pickF T rfl h27 rfl rfl fun _ T => ?_)
   refine r_pv T rfl rfl fun _ T => ?_
   rcases ifE H with ⟨h28, H⟩ | ⟨h28, H⟩
   ·refine g_no T rfl rfl h28 rfl fun _ T => ?_
    refine g_no T rfl rfl h28 rfl fun _ T => g_no T rfl rfl h28 rfl fun _ T => g_no T rfl rfl h28 rfl fun _ T => g_no T rfl rfl h28 rfl fun _ T => ?_
    refine r_pickT T rfl h28 rfl rfl fun _ T => cdT T rfl rfl (Gets.seq ?_)
    exact J0_ok F r z x1 A2 k3 A4 k5 A6 k7 x8 A9 k10 x11 A12 k13 A14 k15 _ _ (T.sub trivial) (S.only (p := (y2 A2 k3 x1 A4 k5 A6 k7 A9 k10 x8 A12 k13 x11 A14 k15)) [5, 5, 5, 5, 5, 5] rfl) H
   ·refine g_yes T rfl rfl h28 ?_
    refine r_fa (o' := 0) T rfl Tryd.runUnderlying31 rfl Tryd.sizeOf29 rfl rfl fun _ T => g_yes T rfl rfl h28 (r_ldB (ix := 2) T S rfl Tryd.isAgg29 rfl rfl rfl fun _ T => g_yes T rfl rfl h28 ?_)
    refine r_pv T rfl rfl fun _ T => g_yes T rfl rfl h28 ?_
    replace S := S.dup (i := 9) rfl
    obtain ⟨x30, h29, H⟩ := bd H
    refine r_call T Tryd.call37 rfl rfl (bytes_HasPrefix.ok _ _ x11.Key x24 (S.sel (p := [sl .ro ku8 A12 k13 x11.Key, sl .own ku8 A25 k26 x24]) (is := [0, 0]) rfl) _ h29) ?_
    rintro _ _ ⟨rfl, S⟩
    refine ⟨_, rfl, fun _ T => ?_⟩
    replace S : SL ([sl .own ku8 A25 k26 x24, sl .own ki64 (some ⟨b22, 0, none⟩) 2 [x1.Id, x8.Id], (y4 b18 A12 x11 k13 A14 k15), blk b17 (y1 x8 A9 k10), blk b16 (y0 x1 A2 k3 A4 k5 A6 k7), (y5 A2 k3 x1), (y9 A4 k5 x1), (y6 A6 k7 x1), (y8 A9 k10 x8), sl .ro ku8 A12 k13 x11.Key, (y12 A14 k15 x11)] ++ F) _ := S.join.only [1, 1, 1, 1, 1, 1, 1, 1, 1, 1, 1] rfl
    refine g_yes T rfl rfl h28 (r_pv T rfl rfl fun _ T => r_pickF T rfl h28 rfl rfl fun _ T => ?_)
    rcases ifE H with ⟨h31, H⟩ | ⟨h31, H⟩
    ·refine cdT T rfl h31 ?_
     refine Gets.seq ?_
     exact J0_ok F r z x1 A2 k3 A4 k5 A6 k7 x8 A9 k10 x11 A12 k13 A14 k15 _ _ (T.sub trivial) (S.only (p := (y2 A2 k3 x1 A4 k5 A6 k7 A9 k10 x8 A12 k13 x11 A14 k15)) [5, 5, 5, 5, 5, 5] rfl) H
    ·refine cdF T rfl h31 ?_
     refine Gets.skip (Gets.seq ?_)
     refine rg (r_fa (o' := 2) T rfl Tryd.runUnderlying26 rfl Tryd.sizeOf22 rfl rfl fun _ T => r_ldB (ix := 4) T S rfl Tryd.isAgg22 rfl rfl rfl fun _ T => r_lenS T rfl Tryd.runUnderlying22 rfl fun _ T => ?_)
     obtain ⟨h32, H⟩ := ck H
     refine r_make (κ := kapi_Value) T S rfl rfl sty27 dapi_Value (fun _ => ⟨_, _, rfl, rfl, ⟨_, _, rfl, rfl, ⟨_, _, rfl, rfl, rfl⟩⟩⟩) h32.1 (Int.le_refl _) (by decide) (by have := h32.2.2; omega) rfl fun _ _ b33 S T => ?_
     replace T := T.re (s := 48) (v' := .slice (some ⟨b33, 0, none⟩) (List.replicate (Int.toNat (x1.Columns.length : Int)) dapi_Value).length (Int.toNat (x1.Columns.length : Int))) rfl (by simp)
     refine r_pv T rfl rfl fun _ T => ?_
     refine Gets.seq (Gets.seq ?_)
     refine rg (r_fa (o' := 2) T rfl Tryd.runUnderlying26 rfl Tryd.sizeOf22 rfl rfl fun _ T => r_ldB (ix := 5) T S rfl Tryd.isAgg22 rfl rfl rfl fun _ T => r_lenS T rfl Tryd.runUnderlying22 rfl fun _ T => ?_)
     refine r_pv T rfl rfl fun _ T => Gets.block (Gets.loop ?_)
     exact L1_ok F r z x1 A2 k3 A4 k5 A6 k7 x8 A9 k10 x11 A12 k13 A14 k15 b16 b17 b18 A25 x24 k26 z (some ⟨b33, 0, none⟩) (List.replicate (Int.toNat (x1.Columns.length : Int)) dapi_Value) (Int.toNat (x1.Columns.length : Int)) 0 _ _ (T.sub ⟨rfl, rfl, rfl, rfl, rfl, rfl, rfl, rfl, trivial⟩) (S.only (p := [(y5 A2 k3 x1), (y9 A4 k5 x1), (y6 A6 k7 x1), (y8 A9 k10 x8), sl .ro ku8 A12 k13 x11.Key, (y12 A14 k15 x11), blk b16 (y0 x1 A2 k3 A4 k5 A6 k7), blk b17 (y1 x8 A9 k10), (y4 b18 A12 x11 k13 A14 k15), sl .own ku8 A25 k26 x24, sl .own kapi_Value (some ⟨b33, 0, none⟩) (Int.toNat (x1.Columns.length : Int)) (List.replicate (Int.toNat (x1.Columns.length : Int)) dapi_Value)]) [6, 6, 6, 6, 6, 6, 5, 4, 3, 1, 0] rfl) H
end rowkey_TakeEntry
end Go.Proofs.YtohelmfkpmphoaaDoor
namespace Go.Proofs.YtohelmfkpmphoaaDoor
open Go Go.Proofs.YtohelmfkpmphoaaDoor.X
set_option linter.unusedVariables false
set_option linter.unusedSimpArgs false
set_option maxRecDepth 100000
set_option maxHeartbeats 4000000
namespace rowkey_Part_c1
def R (F : List Atom) (x1 : api_Index) (A2 : OA) (k3 : Nat) (x4 : Int) (b5 : Nat) (r : Bool) : Ending → World → Prop := fun e w' => e = .returned (.bool r) ∧ SL ([sl .ro ki64 A2 k3 x1.Columns, blk b5 [.int .i64 x4]] ++ F) w'
def f (x1 : api_Index) (x4 : Int) : Option Bool := some (x1.Id == x4)
theorem ok (F : List Atom) (w : World) (x1 : api_Index) (x4 : Int) {A2 : OA} {k3 b5 : Nat} (S : SL ([sl .ro ki64 A2 k3 x1.Columns, blk b5 [.int .i64 x4]] ++ F) w) (r : Bool) (H : f x1 x4 = some r) : Calls Tryd.prog 40 #[.agg #[.int .i64 x1.Id, .string x1.Name, .slice A2 x1.Columns.length k3, .bool x1.Unique], .pointer (some ⟨b5, 0, none⟩)] w (R F x1 A2 k3 x4 b5 r) := by
 refine enter (vs := [.agg #[.int .i64 x1.Id, .string x1.Name, .slice A2 x1.Columns.length k3, .bool x1.Unique], .pointer (some ⟨b5, 0, none⟩)]) Tryd.func40 rfl Tryd.ntmps40 (Nat.le_of_ble_eq_true rfl) fun a T => ?_
 refine Gets.seq (rg (r_box T S rfl (cs := [.int .i64 x1.Id, .string x1.Name, .slice A2 x1.Columns.length k3, .bool x1.Unique]) rfl rfl fun _ _ b6 S T => r_pv T rfl rfl fun _ T => ?_))
 refine Gets.seq (rg (r_fa (o' := 0) T rfl Tryd.runUnderlying46 rfl Tryd.sizeOf3 rfl rfl fun _ T => r_ldB (ix := 0) T S rfl Tryd.isAgg3 rfl rfl rfl fun _ T => ?_))
 refine r_ldB (ix := 2) T S rfl Tryd.isAgg3 rfl rfl rfl fun _ T => r_pv T rfl rfl fun _ T => r_pv T rfl rfl fun _ T => ?_
 replace H := Option.some.inj H
 subst H
 exact rtn T Tryd.func40 rfl rfl ⟨rfl, (S.only (p := [sl .ro ki64 A2 k3 x1.Columns, blk b5 [.int .i64 x4]]) [1, 1] rfl)⟩
end rowkey_Part_c1
end Go.Proofs.YtohelmfkpmphoaaDoor
namespace Go.Proofs.YtohelmfkpmphoaaDoor
open Go Go.Proofs.YtohelmfkpmphoaaDoor.X
set_option linter.unusedVariables false
set_option linter.unusedSimpArgs false
set_option maxRecDepth 100000
set_option maxHeartbeats 4000000
namespace slices_IndexFunc_cormorant_api_Index_at40
noncomputable def c0 : Code := match Tryd.f39.body with | some c => c | none => .skip
def R (F : List Atom) (x1 : List api_Index) (A2 : OA) (k3 : Nat) (m4 : Md) (x5 : Int) (b6 : Nat) (r : Int) : Ending → World → Prop := fun e w' => e = .returned (.int .i64 r) ∧ SL ([sl m4 kapi_Index A2 k3 x1, blk b6 [.int .i64 x5]] ++ F) w'
def L0 (z : Nat) (x1 : List api_Index) (x5 : Int) : Nat → Int → Option Int
 | 0, _ => none
 | m + 1, x7 => If (decide (x7 < (x1.length : Int))) (Ck (0 ≤ x7 ∧ x7 < (x1.length : Int)) (Bd (rowkey_Part_c1.f (gi dapi_Index x1 x7) x5) fun x13 => If x13 (some x7) (L0 z x1 x5 m (wr .i64 (x7 + 1))))) (some (-1))
def f (z : Nat) (x1 : List api_Index) (x5 : Int) : Option Int := L0 z x1 x5 z 0
noncomputable def ptL0 : List Item := [.code (cB (cB (cR (cL (cR c0))))), .inLoop (cB (cB (cR (cL (cR c0))))), .inBlock 0, .code (cR (cR c0))]
theorem L0_ok (F : List Atom) (r : Int) (z : Nat) (x1 : List api_Index) (A2 : OA) (k3 : Nat) (m4 : Md) (x5 : Int) (b6 m : Nat) : ∀ (x7 : Int) (a : Act) (w : World), Tm 19 [(0, .slice A2 x1.length k3), (1, .func (.func 40) #[] #[.pointer (some ⟨b6, 0, none⟩)]), (7, .int .i64 (x1.length : Int)), (8, .int .i64 x7)] a → SL ([sl m4 kapi_Index A2 k3 x1, blk b6 [.int .i64 x5]] ++ F) w → L0 z x1 x5 m x7 = some r → Gets Tryd.prog 39 ptL0 a w (R F x1 A2 k3 m4 x5 b6 r) := by
 induction m with
 | zero => intro _ _ _ _ _ H; cases H
 | succ m ih =>
  intro x7 a w T S H
  refine Gets.seq (rg (r_pv T rfl rfl fun _ T => Gets.seq ?_))
  rcases ifE H with ⟨h8, H⟩ | ⟨h8, H⟩
  ·refine cdT T rfl h8 ?_
   refine Gets.skip (Gets.seq (Gets.block (Gets.seq ?_)))
   refine rg (r_pv T rfl rfl fun _ T => r_pv T rfl rfl fun _ T => Gets.seq ?_)
   refine rg (r_pv T rfl rfl fun _ T => r_pv T rfl rfl fun _ T => r_pv T rfl rfl fun _ T => ?_)
   obtain ⟨h9, H⟩ := ck H
   refine r_ia (ix := 0) T S rfl rfl rfl rfl Tryd.runUnderlying24 Tryd.sizeOf46 h9.1 h9.2 rfl fun _ T => r_ldEA (ix := 0) (i := x7) (off := 0) T S rfl rfl Tryd.isAgg46 Tryd.sizeOf46 dapi_Index rfl (Fld.all _) h9.1 h9.2 rfl fun _ _ S T => ?_
   obtain ⟨A10, k11, hv_, S_⟩ := op_api_Index S
   subst hv_
   replace S := S_
   obtain ⟨x13, h12, H⟩ := bd H
   refine r_callF T rfl Tryd.call40 rfl rfl (rowkey_Part_c1.ok _ _ (gi dapi_Index x1 x7) x5 (S.sel (p := [sl .ro ki64 A10 k11 ((gi dapi_Index x1 x7).Columns), blk b6 [.int .i64 x5]]) (is := [0, 1]) rfl) _ h12) ?_
   rintro _ _ ⟨rfl, S⟩
   refine ⟨_, rfl, fun _ T => ?_⟩
   replace S : SL ([sl .ro ki64 A10 k11 ((gi dapi_Index x1 x7).Columns), blk b6 [.int .i64 x5], sl m4 kapi_Index A2 k3 x1] ++ F) _ := S.join
   rcases ifE H with ⟨h14, H⟩ | ⟨h14, H⟩
   ·refine cdT T rfl h14 ?_
    refine Gets.seq (rg (r_pv T rfl rfl fun _ T => r_pv T rfl rfl fun _ T => ?_))
    replace H := Option.some.inj H
    subst H
    exact rtn T Tryd.func39 rfl rfl ⟨rfl, (S.only (p := [sl m4 kapi_Index A2 k3 x1, blk b6 [.int .i64 x5]]) [2, 1] rfl)⟩
   ·refine cdF T rfl h14 ?_
    refine Gets.skip (Gets.inBlock ?_)
    refine rg (r_pv T rfl rfl fun _ T => r_pv T rfl rfl fun _ T => Gets.inLoop ?_)
    exact ih (wr .i64 (x7 + 1)) _ _ (T.sub ⟨rfl, rfl, rfl, rfl, trivial⟩) (S.only (p := [sl m4 kapi_Index A2 k3 x1, blk b6 [.int .i64 x5]]) [2, 1] rfl) H
  ·refine cdF T rfl h8 ?_
   refine Gets.exit rfl (Gets.seq ?_)
   refine rg (r_pv T rfl rfl fun _ T => ?_)
   replace H := Option.some.inj H
   subst H
   exact rtn T Tryd.func39 rfl rfl ⟨rfl, (S.only (p := [sl m4 kapi_Index A2 k3 x1, blk b6 [.int .i64 x5]]) [0, 0] rfl)⟩
theorem ok (F : List Atom) (w : World) (z : Nat) (x1 : List api_Index) (x5 : Int) {A2 : OA} {k3 : Nat} {m4 : Md} {b6 : Nat} (S : SL ([sl m4 kapi_Index A2 k3 x1, blk b6 [.int .i64 x5]] ++ F) w) (r : Int) (H : f z x1 x5 = some r) : Calls Tryd.prog 39 #[.slice A2 x1.length k3, .func (.func 40) #[] #[.pointer (some ⟨b6, 0, none⟩)]] w (R F x1 A2 k3 m4 x5 b6 r) := by
 refine enter (vs := [.slice A2 x1.length k3, .func (.func 40) #[] #[.pointer (some ⟨b6, 0, none⟩)]]) Tryd.func39 rfl Tryd.ntmps39 (Nat.le_of_ble_eq_true rfl) fun a T => ?_
 refine Gets.seq (rg (r_pv T rfl rfl fun _ T => ?_))
 refine Gets.seq (Gets.seq ?_)
 refine rg (r_pv T rfl rfl fun _ T => r_lenS T rfl Tryd.runUnderlying24 rfl fun _ T => r_pv T rfl rfl fun _ T => ?_)
 refine Gets.block (Gets.loop ?_)
 exact L0_ok F r z x1 A2 k3 m4 x5 b6 z 0 _ _ (T.sub ⟨rfl, rfl, rfl, rfl, trivial⟩) (S.only (p := [sl m4 kapi_Index A2 k3 x1, blk b6 [.int .i64 x5]]) [0, 0] rfl) H
end slices_IndexFunc_cormorant_api_Index_at40
end Go.Proofs.YtohelmfkpmphoaaDoor
namespace Go.Proofs.YtohelmfkpmphoaaDoor
open Go Go.Proofs.YtohelmfkpmphoaaDoor.X
set_option linter.unusedVariables false
set_option linter.unusedSimpArgs false
set_option maxRecDepth 100000
set_option maxHeartbeats 4000000
namespace rowkey_askable
noncomputable def c0 : Code := match Tryd.f42.body with | some c => c | none => .skip
def R (F : List Atom) (x1 : api_Table) (A2 : OA) (k3 : Nat) (A4 : OA) (k5 : Nat) (A6 : OA) (k7 : Nat) (x8 : List Int) (A9 : OA) (k10 : Nat) (m11 : Md) (x12 : List api_Value) (A13 : OA) (k14 : Nat) (m15 : Md) (r : Bool) : Ending → World → Prop := fun e w' => e = .returned (.bool r) ∧ SL ([sl .ro kapi_Column A2 k3 x1.Columns, sl .ro ki64 A4 k5 x1.Key, sl .ro kapi_Index A6 k7 x1.Indexes, sl m11 ki64 A9 k10 x8, sl m15 kapi_Value A13 k14 x12] ++ F) w'
def J2 (z : Nat) : Option Bool := some false
def L1 (z : Nat) (x1 : api_Table) (x8 : List Int) (x12 : List api_Value) : Nat → Int → Option Bool
 | 0, _ => none
 | m + 1, x21 => If (decide (x21 < (x12.length : Int))) (Ck (0 ≤ x21 ∧ x21 < (x12.length : Int)) (If ((gi dapi_Value x12 x21).Null) (J2 z) (Ck (x21 < (x8.length : Int)) (Ck (0 ≤ gi (0 : Int) x8 x21 ∧ gi (0 : Int) x8 x21 < (x1.Columns.length : Int)) (Bd (rowkey_fits.f (api_Value.mk ((gi dapi_Value x12 x21).Type') ((gi dapi_Value x12 x21).Null) ((gi dapi_Value x12 x21).Int) ((gi dapi_Value x12 x21).Text)) ((gi dapi_Column x1.Columns (gi (0 : Int) x8 x21)).Type')) fun x2782 => If (!x2782) (J2 z) (L1 z x1 x8 x12 m (wr .i64 (x21 + 1)))))))) (some true)
def J0 (z : Nat) : Option Bool := some false
def f (z : Nat) (x1 : api_Table) (x8 : List Int) (x12 : List api_Value) : Option Bool := Bd (rowkey_tabled.f z x1 x8) fun x18 => If (!x18) (J0 z) (If (decide ((x12.length : Int) > (x8.length : Int))) (J0 z) (L1 z x1 x8 x12 z 0))
noncomputable def ptJ2 : List Item := [.code (cL (cT (cR (cR (cB (cL (cR (cR (cB (cB (cR (cL (cR (cR c0)))))))))))))), .code (cR (cT (cR (cR (cB (cL (cR (cR (cB (cB (cR (cL (cR (cR c0)))))))))))))), .inBlock 1, .code (cr 3 (cB (cB (cR (cL (cR (cR c0))))))), .inLoop (cB (cB (cR (cL (cR (cR c0)))))), .inBlock 0, .code (cr 3 c0)]
noncomputable def ptL1 : List Item := [.code (cB (cB (cR (cL (cR (cR c0)))))), .inLoop (cB (cB (cR (cL (cR (cR c0)))))), .inBlock 0, .code (cr 3 c0)]
noncomputable def ptJ0 : List Item := [.code (cL (cT (cR (cL (cR c0))))), .code (cR (cT (cR (cL (cR c0))))), .code (cR (cR c0))]
abbrev y0 (b24 : Nat) (x12 : List api_Value) (x21 : Int) (A2 : OA) (k3 : Nat) (x1 : api_Table) (A4 : OA) (k5 : Nat) (A6 : OA) (k7 : Nat) (m11 : Md) (A9 : OA) (k10 : Nat) (x8 : List Int) (m15 : Md) (A13 : OA) (k14 b16 : Nat) : List Atom := [blk b24 [.int .i64 ((gi dapi_Value x12 x21).Type'), .bool ((gi dapi_Value x12 x21).Null), .int .i64 ((gi dapi_Value x12 x21).Int), .string ((gi dapi_Value x12 x21).Text)], sl .ro kapi_Column A2 k3 x1.Columns, sl .ro ki64 A4 k5 x1.Key, sl .ro kapi_Index A6 k7 x1.Indexes, sl m11 ki64 A9 k10 x8, sl m15 kapi_Value A13 k14 x12, blk b16 [.int .i64 x1.Id, .string x1.Name, .slice A2 x1.Columns.length k3, .slice A4 x1.Key.length k5, .slice A6 x1.Indexes.length k7]]
abbrev y1 (A2 : OA) (k3 : Nat) (x1 : api_Table) (A4 : OA) (k5 : Nat) (A6 : OA) (k7 : Nat) (m11 : Md) (A9 : OA) (k10 : Nat) (x8 : List Int) (m15 : Md) (A13 : OA) (k14 : Nat) (x12 : List api_Value) : List Atom := [sl .ro kapi_Column A2 k3 x1.Columns, sl .ro ki64 A4 k5 x1.Key, sl .ro kapi_Index A6 k7 x1.Indexes, sl m11 ki64 A9 k10 x8, sl m15 kapi_Value A13 k14 x12]
abbrev y2 (x1 : api_Table) (A2 : OA) (k3 : Nat) (A4 : OA) (k5 : Nat) (A6 : OA) (k7 : Nat) : List Value := [.int .i64 x1.Id, .string x1.Name, .slice A2 x1.Columns.length k3, .slice A4 x1.Key.length k5, .slice A6 x1.Indexes.length k7]
theorem J2_ok (F : List Atom) (r : Bool) (z : Nat) (x1 : api_Table) (A2 : OA) (k3 : Nat) (A4 : OA) (k5 : Nat) (A6 : OA) (k7 : Nat) (x8 : List Int) (A9 : OA) (k10 : Nat) (m11 : Md) (x12 : List api_Value) (A13 : OA) (k14 : Nat) (m15 : Md) (a : Act) (w : World) (T : Tm 44 [] a) (S : SL ((y1 A2 k3 x1 A4 k5 A6 k7 m11 A9 k10 x8 m15 A13 k14 x12) ++ F) w) (H : J2 z = some r) : Gets Tryd.prog 42 ptJ2 a w (R F x1 A2 k3 A4 k5 A6 k7 x8 A9 k10 m11 x12 A13 k14 m15 r) := by
 refine rg (r_pv T rfl rfl fun _ T => ?_)
 replace H := Option.some.inj H
 subst H
 exact rtn T Tryd.func42 rfl rfl ⟨rfl, (S.only (p := (y1 A2 k3 x1 A4 k5 A6 k7 m11 A9 k10 x8 m15 A13 k14 x12)) [0, 0, 0, 0, 0] rfl)⟩
theorem L1_ok (F : List Atom) (r : Bool) (z : Nat) (x1 : api_Table) (A2 : OA) (k3 : Nat) (A4 : OA) (k5 : Nat) (A6 : OA) (k7 : Nat) (x8 : List Int) (A9 : OA) (k10 : Nat) (m11 : Md) (x12 : List api_Value) (A13 : OA) (k14 : Nat) (m15 : Md) (b16 m : Nat) : ∀ (x21 : Int) (a : Act) (w : World), Tm 44 [(1, .slice A9 x8.length k10), (3, .pointer (some ⟨b16, 0, none⟩)), (20, .slice A13 x12.length k14), (21, .int .i64 (x12.length : Int)), (22, .int .i64 x21)] a → SL ([sl .ro kapi_Column A2 k3 x1.Columns, sl .ro ki64 A4 k5 x1.Key, sl .ro kapi_Index A6 k7 x1.Indexes, sl m11 ki64 A9 k10 x8, sl m15 kapi_Value A13 k14 x12, blk b16 (y2 x1 A2 k3 A4 k5 A6 k7)] ++ F) w → L1 z x1 x8 x12 m x21 = some r → Gets Tryd.prog 42 ptL1 a w (R F x1 A2 k3 A4 k5 A6 k7 x8 A9 k10 m11 x12 A13 k14 m15 r) := by
 induction m with
 | zero => intro _ _ _ _ _ H; cases H
 | succ m ih =>
  intro x21 a w T S H
  refine Gets.seq (rg (r_pv T rfl rfl fun _ T => Gets.seq ?_))
  rcases ifE H with ⟨h22, H⟩ | ⟨h22, H⟩
  ·refine cdT T rfl h22 ?_
   refine Gets.skip (Gets.seq (Gets.block (Gets.seq ?_)))
   refine rg (r_pv T rfl rfl fun _ T => ?_)
   obtain ⟨h23, H⟩ := ck H
   refine r_ia (ix := 4) T S rfl rfl rfl rfl Tryd.runUnderlying27 Tryd.sizeOf43 h23.1 h23.2 rfl fun _ T => r_ldEP (ix := 4) (i := x21) (off := 0) (f := pf_api_Value) T S rfl rfl Tryd.isAgg43 Tryd.sizeOf43 dapi_Value rfl (Fld.all _) h23.1 h23.2 pl_api_Value rfl fun _ T => r_alloc T S zv43 (cs := [.int .i64 0, .bool false, .int .i64 0, .string (⟨#[]⟩ : ByteArray)]) rfl rfl fun _ _ b24 S T => r_pv T rfl rfl fun _ T => ?_
   refine r_stBA (ix := 0) (vs := [.int .i64 ((gi dapi_Value x12 x21).Type'), .bool ((gi dapi_Value x12 x21).Null), .int .i64 ((gi dapi_Value x12 x21).Int), .string ((gi dapi_Value x12 x21).Text)]) (l' := (y0 b24 x12 x21 A2 k3 x1 A4 k5 A6 k7 m11 A9 k10 x8 m15 A13 k14 b16)) T S rfl rfl rfl rfl (by simp) Tryd.sizeOf43 (Nat.le_of_ble_eq_true rfl) rfl fun _ S => ?_
   refine Gets.seq ?_
   rcases ifE H with ⟨h25, H⟩ | ⟨h25, H⟩
   ·refine Gets.drawn (l := (y0 b24 x12 x21 A2 k3 x1 A4 k5 A6 k7 m11 A9 k10 x8 m15 A13 k14 b16)) (V := [some (.pointer (some ⟨b24, 1, none⟩), true), some (.bool ((gi dapi_Value x12 x21).Null), true), some (.bool ((gi dapi_Value x12 x21).Null), true), some (undef, true), some (undef, true), some (undef, true), some (undef, true), some (undef, true), some (undef, true), some (undef, true), some (undef, true), some (undef, true), some (undef, true), some (undef, true), some (undef, true), some (.bool true, true)]) mixed T S rfl ?_
    refine stage none rfl rfl ⟨⟨_, _, rfl, (avl [8] rfl), fun _ _ _ T S => r_fa (o' := 1) T rfl Tryd.runUnderlying43 rfl Tryd.sizeOf4 rfl rfl fun _ T => ⟨rfl, T⟩⟩, ⟨_, _, rfl, (avl [27] rfl), fun _ _ _ T S => r_ldB (ix := 0) T S rfl Tryd.isAgg4 rfl rfl rfl fun _ T => ⟨rfl, T⟩⟩, ⟨_, _, rfl, (avl [28] rfl), fun _ _ _ T S => r_pv T rfl rfl fun _ T => ⟨rfl, T⟩⟩, ⟨_, _, rfl, (avl [8, 29] rfl), fun _ _ _ T S => g_no T rfl rfl h25 rfl fun _ T => ⟨rfl, T⟩⟩, ⟨_, _, rfl, (avl [3, 29] rfl), fun _ _ _ T S => g_no T rfl rfl h25 rfl fun _ T => ⟨rfl, T⟩⟩, ⟨_, _, rfl, (avl [31, 29] rfl), fun _ _ _ T S => g_no T rfl rfl h25 rfl fun _ T => ⟨rfl, T⟩⟩, ⟨_, _, rfl, (avl [1, 29] rfl), fun _ _ _ T S => g_no T rfl rfl h25 rfl fun _ T => ⟨rfl, T⟩⟩, ⟨_, _, rfl, (avl [7, 29] rfl), fun _ _ _ T S => g_no T rfl rfl h25 rfl fun _ T => ⟨rfl, T⟩⟩, ⟨_, _, rfl, (avl [33, 34, 29] rfl), fun _ _ _ T S => g_no T rfl rfl h25 rfl fun _ T => ⟨rfl, T⟩⟩, ⟨_, _, rfl, (avl [35, 29] rfl), fun _ _ _ T S => g_no T rfl rfl h25 rfl fun _ T => ⟨rfl, T⟩⟩, ⟨_, _, rfl, (avl [32, 36, 29] rfl), fun _ _ _ T S => g_no T rfl rfl h25 rfl fun _ T => ⟨rfl, T⟩⟩, ⟨_, _, rfl, (avl [37, 29] rfl), fun _ _ _ T S => g_no T rfl rfl h25 rfl fun _ T => ⟨rfl, T⟩⟩, ⟨_, _, rfl, (avl [38, 29] rfl), fun _ _ _ T S => g_no T rfl rfl h25 rfl fun _ T => ⟨rfl, T⟩⟩, ⟨_, _, rfl, (avl [30, 39, 29] rfl), fun _ _ _ T S => g_no T rfl rfl h25 rfl fun _ T => ⟨rfl, T⟩⟩, ⟨_, _, rfl, (avl [40, 29] rfl), fun _ _ _ T S => g_no T rfl rfl h25 rfl fun _ T => ⟨rfl, T⟩⟩, ⟨_, _, rfl, (avl [29, 41] rfl), fun _ _ _ T S => r_pickT T rfl h25 rfl rfl fun _ T => ⟨rfl, T⟩⟩, trivial⟩ rfl (fun i hi => by cases hi) (fun _ _ a w T hv hb S => ?_)
    replace T := T.sub (r := [(1, .slice A9 x8.length k10), (3, .pointer (some ⟨b16, 0, none⟩)), (20, .slice A13 x12.length k14), (21, .int .i64 (x12.length : Int)), (22, .int .i64 x21), (42, .bool true)]) ⟨hb 1 _ rfl rfl, hb 3 _ rfl rfl, hb 20 _ rfl rfl, hb 21 _ rfl rfl, hb 22 _ rfl rfl, hv 15 _ 42 rfl rfl rfl, trivial⟩
    refine cdT T rfl rfl (Gets.seq ?_)
    exact J2_ok F r z x1 A2 k3 A4 k5 A6 k7 x8 A9 k10 m11 x12 A13 k14 m15 _ _ (T.sub trivial) (S.only (p := (y1 A2 k3 x1 A4 k5 A6 k7 m11 A9 k10 x8 m15 A13 k14 x12)) [1, 1, 1, 1, 1] rfl) H
   ·obtain ⟨h2481, H⟩ := ck H
    obtain ⟨h2601, H⟩ := ck H
    refine Gets.drawn (l := (y0 b24 x12 x21 A2 k3 x1 A4 k5 A6 k7 m11 A9 k10 x8 m15 A13 k14 b16)) (V := [some (.pointer (some ⟨b24, 1, none⟩), true), some (.bool ((gi dapi_Value x12 x21).Null), true), some (.bool ((gi dapi_Value x12 x21).Null), true), some (.agg #[.int .i64 ((gi dapi_Value x12 x21).Type'), .bool ((gi dapi_Value x12 x21).Null), .int .i64 ((gi dapi_Value x12 x21).Int), .string ((gi dapi_Value x12 x21).Text)], true), some (.pointer (some ⟨b16, 2, none⟩), true), some (.slice A2 x1.Columns.length k3, true), some (.slice A9 x8.length k10, true), some (.int .i64 x21, true), some (.pointer (some (eA A9 (Int.toNat x21 * 1))), true), some (.int .i64 (gi (0 : Int) x8 x21), true), some (.pointer (some (eA A2 (Int.toNat (gi (0 : Int) x8 x21) * 7))), true), some (.pointer (some (eA A2 (Int.toNat (gi (0 : Int) x8 x21) * 7 + 1))), true), some (.int .i64 ((gi dapi_Column x1.Columns (gi (0 : Int) x8 x21)).Type'), true), none, none, none]) mixed T S rfl ?_
    refine stage (some 13) rfl rfl ⟨⟨_, _, rfl, (avl [8] rfl), fun _ _ _ T S => r_fa (o' := 1) T rfl Tryd.runUnderlying43 rfl Tryd.sizeOf4 rfl rfl fun _ T => ⟨rfl, T⟩⟩, ⟨_, _, rfl, (avl [27] rfl), fun _ _ _ T S => r_ldB (ix := 0) T S rfl Tryd.isAgg4 rfl rfl rfl fun _ T => ⟨rfl, T⟩⟩, ⟨_, _, rfl, (avl [28] rfl), fun _ _ _ T S => r_pv T rfl rfl fun _ T => ⟨rfl, T⟩⟩, ⟨_, _, rfl, (avl [8, 29] rfl), fun _ _ _ T S => g_yes T rfl rfl h25 (r_ldBA (ix := 0) (ds := [.int .i64 ((gi dapi_Value x12 x21).Type'), .bool ((gi dapi_Value x12 x21).Null), .int .i64 ((gi dapi_Value x12 x21).Int), .string ((gi dapi_Value x12 x21).Text)]) T S rfl Tryd.isAgg43 rfl rfl Tryd.sizeOf43 rfl fun _ T => ⟨rfl, T⟩)⟩, ⟨_, _, rfl, (avl [3, 29] rfl), fun _ _ _ T S => g_yes T rfl rfl h25 (r_fa (o' := 2) T rfl Tryd.runUnderlying26 rfl Tryd.sizeOf22 rfl rfl fun _ T => ⟨rfl, T⟩)⟩, ⟨_, _, rfl, (avl [31, 29] rfl), fun _ _ _ T S => g_yes T rfl rfl h25 (r_ldB (ix := 6) T S rfl Tryd.isAgg22 rfl rfl rfl fun _ T => ⟨rfl, T⟩)⟩, ⟨_, _, rfl, (avl [1, 29] rfl), fun _ _ _ T S => g_yes T rfl rfl h25 (r_pv T rfl rfl fun _ T => ⟨rfl, T⟩)⟩, ⟨_, _, rfl, (avl [7, 29] rfl), fun _ _ _ T S => g_yes T rfl rfl h25 (r_pv T rfl rfl fun _ T => ⟨rfl, T⟩)⟩, ⟨_, _, rfl, (avl [33, 34, 29] rfl), fun _ _ _ T S => g_yes T rfl rfl h25 (r_ia (ix := 4) T S rfl rfl rfl rfl Tryd.runUnderlying23 Tryd.sizeOf3 h23.1 h2481 rfl fun _ T => ⟨rfl, T⟩)⟩, ⟨_, _, rfl, (avl [35, 29] rfl), fun _ _ _ T S => g_yes T rfl rfl h25 (r_ldE (ix := 4) (i := x21) (off := 0) (f := (Value.int .i64)) T S rfl Tryd.isAgg3 rfl (0 : Int) _ rfl rfl (Fld.all _) h23.1 h2481 (fun h => h) rfl fun _ T => ⟨rfl, T⟩)⟩, ⟨_, _, rfl, (avl [32, 36, 29] rfl), fun _ _ _ T S => g_yes T rfl rfl h25 (r_ia (ix := 1) T S rfl rfl rfl rfl Tryd.runUnderlying22 Tryd.sizeOf72 h2601.1 h2601.2 rfl fun _ T => ⟨rfl, T⟩)⟩, ⟨_, _, rfl, (avl [37, 29] rfl), fun _ _ _ T S => g_yes T rfl rfl h25 (r_faE T rfl Tryd.runUnderlying72 rfl Tryd.sizeOf3 rfl fun _ T => ⟨rfl, T⟩)⟩, ⟨_, _, rfl, (avl [38, 29] rfl), fun _ _ _ T S => g_yes T rfl rfl h25 (r_ldE (ix := 1) (i := gi (0 : Int) x8 x21) (off := 1) (f := (Value.int .i64)) T S rfl Tryd.isAgg3 rfl dapi_Column _ rfl rfl fld_api_Column_Type' h2601.1 h2601.2 (fun h => h) rfl fun _ T => ⟨rfl, T⟩)⟩, trivial⟩ rfl (fun i hi => ?_) (fun h => by cases h)
    cases hi
    refine ⟨rfl, _, _, rfl, (avl [30, 39, 29] rfl), fun u a w T S => ?_⟩
    refine g_yes T rfl rfl h25 ?_
    obtain ⟨x2782, h2781, H⟩ := bd H
    refine r_call T Tryd.call53 rfl rfl (rowkey_fits.ok _ _ (api_Value.mk ((gi dapi_Value x12 x21).Type') ((gi dapi_Value x12 x21).Null) ((gi dapi_Value x12 x21).Int) ((gi dapi_Value x12 x21).Text)) ((gi dapi_Column x1.Columns (gi (0 : Int) x8 x21)).Type') (S.sel (p := []) (is := []) rfl) _ h2781) ?_
    rintro _ _ ⟨rfl, S⟩
    refine ⟨_, rfl, fun _ T => ?_⟩
    replace S : SL ((y0 b24 x12 x21 A2 k3 x1 A4 k5 A6 k7 m11 A9 k10 x8 m15 A13 k14 b16) ++ F) _ := S.join
    refine ⟨_, [some (.pointer (some ⟨b24, 1, none⟩), true), some (.bool ((gi dapi_Value x12 x21).Null), true), some (.bool ((gi dapi_Value x12 x21).Null), false), some (.agg #[.int .i64 ((gi dapi_Value x12 x21).Type'), .bool ((gi dapi_Value x12 x21).Null), .int .i64 ((gi dapi_Value x12 x21).Int), .string ((gi dapi_Value x12 x21).Text)], false), some (.pointer (some ⟨b16, 2, none⟩), true), some (.slice A2 x1.Columns.length k3, true), some (.slice A9 x8.length k10, true), some (.int .i64 x21, true), some (.pointer (some (eA A9 (Int.toNat x21 * 1))), true), some (.int .i64 (gi (0 : Int) x8 x21), true), some (.pointer (some (eA A2 (Int.toNat (gi (0 : Int) x8 x21) * 7))), true), some (.pointer (some (eA A2 (Int.toNat (gi (0 : Int) x8 x21) * 7 + 1))), true), some (.int .i64 ((gi dapi_Column x1.Columns (gi (0 : Int) x8 x21)).Type'), false), some (.bool x2782, false), some (.bool (!x2782), true), some (.bool (!x2782), true)], (y0 b24 x12 x21 A2 k3 x1 A4 k5 A6 k7 m11 A9 k10 x8 m15 A13 k14 b16), rfl, (by repeat first | exact kx0 | apply kxs | apply kxn), rfl, ?_, T, S⟩
    refine stage none rfl rfl ⟨⟨_, _, rfl, (avl [8] rfl), fun _ _ _ T S => r_fa (o' := 1) T rfl Tryd.runUnderlying43 rfl Tryd.sizeOf4 rfl rfl fun _ T => ⟨rfl, T⟩⟩, ⟨_, _, rfl, (avl [27] rfl), fun _ _ _ T S => r_ldB (ix := 0) T S rfl Tryd.isAgg4 rfl rfl rfl fun _ T => ⟨rfl, T⟩⟩, ⟨_, _, rfl, (avl [3, 29] rfl), fun _ _ _ T S => g_yes T rfl rfl h25 (r_fa (o' := 2) T rfl Tryd.runUnderlying26 rfl Tryd.sizeOf22 rfl rfl fun _ T => ⟨rfl, T⟩)⟩, ⟨_, _, rfl, (avl [31, 29] rfl), fun _ _ _ T S => g_yes T rfl rfl h25 (r_ldB (ix := 6) T S rfl Tryd.isAgg22 rfl rfl rfl fun _ T => ⟨rfl, T⟩)⟩, ⟨_, _, rfl, (avl [1, 29] rfl), fun _ _ _ T S => g_yes T rfl rfl h25 (r_pv T rfl rfl fun _ T => ⟨rfl, T⟩)⟩, ⟨_, _, rfl, (avl [7, 29] rfl), fun _ _ _ T S => g_yes T rfl rfl h25 (r_pv T rfl rfl fun _ T => ⟨rfl, T⟩)⟩, ⟨_, _, rfl, (avl [33, 34, 29] rfl), fun _ _ _ T S => g_yes T rfl rfl h25 (r_ia (ix := 4) T S rfl rfl rfl rfl Tryd.runUnderlying23 Tryd.sizeOf3 h23.1 h2481 rfl fun _ T => ⟨rfl, T⟩)⟩, ⟨_, _, rfl, (avl [35, 29] rfl), fun _ _ _ T S => g_yes T rfl rfl h25 (r_ldE (ix := 4) (i := x21) (off := 0) (f := (Value.int .i64)) T S rfl Tryd.isAgg3 rfl (0 : Int) _ rfl rfl (Fld.all _) h23.1 h2481 (fun h => h) rfl fun _ T => ⟨rfl, T⟩)⟩, ⟨_, _, rfl, (avl [32, 36, 29] rfl), fun _ _ _ T S => g_yes T rfl rfl h25 (r_ia (ix := 1) T S rfl rfl rfl rfl Tryd.runUnderlying22 Tryd.sizeOf72 h2601.1 h2601.2 rfl fun _ T => ⟨rfl, T⟩)⟩, ⟨_, _, rfl, (avl [37, 29] rfl), fun _ _ _ T S => g_yes T rfl rfl h25 (r_faE T rfl Tryd.runUnderlying72 rfl Tryd.sizeOf3 rfl fun _ T => ⟨rfl, T⟩)⟩, ⟨_, _, rfl, (avl [40, 29] rfl), fun _ _ _ T S => g_yes T rfl rfl h25 (r_pv T rfl rfl fun _ T => ⟨rfl, T⟩)⟩, ⟨_, _, rfl, (avl [29, 41] rfl), fun _ _ _ T S => r_pickF T rfl h25 rfl rfl fun _ T => ⟨rfl, T⟩⟩, trivial⟩ rfl (fun i hi => by cases hi) (fun _ _ a w T hv hb S => ?_)
    replace T := T.sub (r := [(1, .slice A9 x8.length k10), (3, .pointer (some ⟨b16, 0, none⟩)), (20, .slice A13 x12.length k14), (21, .int .i64 (x12.length : Int)), (22, .int .i64 x21), (42, .bool (!x2782))]) ⟨hb 1 _ rfl rfl, hb 3 _ rfl rfl, hb 20 _ rfl rfl, hb 21 _ rfl rfl, hb 22 _ rfl rfl, hv 15 _ 42 rfl rfl rfl, trivial⟩
    rcases ifE H with ⟨h26, H⟩ | ⟨h26, H⟩
    ·refine cdT T rfl h26 ?_
     refine Gets.seq ?_
     exact J2_ok F r z x1 A2 k3 A4 k5 A6 k7 x8 A9 k10 m11 x12 A13 k14 m15 _ _ (T.sub trivial) (S.only (p := (y1 A2 k3 x1 A4 k5 A6 k7 m11 A9 k10 x8 m15 A13 k14 x12)) [1, 1, 1, 1, 1] rfl) H
    ·refine cdF T rfl h26 ?_
     refine Gets.skip (Gets.inBlock ?_)
     refine rg (r_pv T rfl rfl fun _ T => r_pv T rfl rfl fun _ T => Gets.inLoop ?_)
     exact ih (wr .i64 (x21 + 1)) _ _ (T.sub ⟨rfl, rfl, rfl, rfl, rfl, trivial⟩) (S.only (p := [sl .ro kapi_Column A2 k3 x1.Columns, sl .ro ki64 A4 k5 x1.Key, sl .ro kapi_Index A6 k7 x1.Indexes, sl m11 ki64 A9 k10 x8, sl m15 kapi_Value A13 k14 x12, blk b16 (y2 x1 A2 k3 A4 k5 A6 k7)]) [1, 1, 1, 1, 1, 1] rfl) H
  ·refine cdF T rfl h22 ?_
   refine Gets.exit rfl (Gets.seq ?_)
   refine rg (r_pv T rfl rfl fun _ T => ?_)
   replace H := Option.some.inj H
   subst H
   exact rtn T Tryd.func42 rfl rfl ⟨rfl, (S.only (p := (y1 A2 k3 x1 A4 k5 A6 k7 m11 A9 k10 x8 m15 A13 k14 x12)) [0, 0, 0, 0, 0] rfl)⟩
theorem J0_ok (F : List Atom) (r : Bool) (z : Nat) (x1 : api_Table) (A2 : OA) (k3 : Nat) (A4 : OA) (k5 : Nat) (A6 : OA) (k7 : Nat) (x8 : List Int) (A9 : OA) (k10 : Nat) (m11 : Md) (x12 : List api_Value) (A13 : OA) (k14 : Nat) (m15 : Md) (a : Act) (w : World) (T : Tm 44 [] a) (S : SL ((y1 A2 k3 x1 A4 k5 A6 k7 m11 A9 k10 x8 m15 A13 k14 x12) ++ F) w) (H : J0 z = some r) : Gets Tryd.prog 42 ptJ0 a w (R F x1 A2 k3 A4 k5 A6 k7 x8 A9 k10 m11 x12 A13 k14 m15 r) := by
 refine rg (r_pv T rfl rfl fun _ T => ?_)
 replace H := Option.some.inj H
 subst H
 exact rtn T Tryd.func42 rfl rfl ⟨rfl, (S.only (p := (y1 A2 k3 x1 A4 k5 A6 k7 m11 A9 k10 x8 m15 A13 k14 x12)) [0, 0, 0, 0, 0] rfl)⟩
theorem ok (F : List Atom) (w : World) (z : Nat) (x1 : api_Table) (x8 : List Int) (x12 : List api_Value) {A2 : OA} {k3 : Nat} {A4 : OA} {k5 : Nat} {A6 : OA} {k7 : Nat} {A9 : OA} {k10 : Nat} {m11 : Md} {A13 : OA} {k14 : Nat} {m15 : Md} (S : SL ((y1 A2 k3 x1 A4 k5 A6 k7 m11 A9 k10 x8 m15 A13 k14 x12) ++ F) w) (r : Bool) (H : f z x1 x8 x12 = some r) : Calls Tryd.prog 42 #[.agg #[.int .i64 x1.Id, .string x1.Name, .slice A2 x1.Columns.length k3, .slice A4 x1.Key.length k5, .slice A6 x1.Indexes.length k7], .slice A9 x8.length k10, .slice A13 x12.length k14] w (R F x1 A2 k3 A4 k5 A6 k7 x8 A9 k10 m11 x12 A13 k14 m15 r) := by
 refine enter (vs := [.agg #[.int .i64 x1.Id, .string x1.Name, .slice A2 x1.Columns.length k3, .slice A4 x1.Key.length k5, .slice A6 x1.Indexes.length k7], .slice A9 x8.length k10, .slice A13 x12.length k14]) Tryd.func42 rfl Tryd.ntmps42 (Nat.le_of_ble_eq_true rfl) fun a T => ?_
 refine Gets.seq (rg (r_box T S rfl (cs := (y2 x1 A2 k3 A4 k5 A6 k7)) rfl rfl fun _ _ b16 S T => r_pv T rfl rfl fun _ T => ?_))
 refine Gets.seq (Gets.seq ?_)
 refine rg (r_ldBA (ix := 0) (ds := (y2 x1 A2 k3 A4 k5 A6 k7)) T S rfl Tryd.isAgg26 rfl rfl Tryd.sizeOf26 rfl fun _ T => r_pv T rfl rfl fun _ T => ?_)
 replace S := S.dup (i := 1) rfl
 replace S := S.dup (i := 3) rfl
 replace S := S.dup (i := 5) rfl
 obtain ⟨x18, h17, H⟩ := bd H
 refine r_call T Tryd.call23 rfl rfl (rowkey_tabled.ok _ _ z x1 x8 (S.sel (p := [sl .ro kapi_Column A2 k3 x1.Columns, sl .ro ki64 A4 k5 x1.Key, sl .ro kapi_Index A6 k7 x1.Indexes, sl m11 ki64 A9 k10 x8]) (is := [2, 1, 0, 4]) rfl) _ h17) ?_
 rintro _ _ ⟨rfl, S⟩
 refine ⟨_, rfl, fun _ T => ?_⟩
 replace S : SL ([sl m11 ki64 A9 k10 x8, blk b16 (y2 x1 A2 k3 A4 k5 A6 k7), sl .ro kapi_Column A2 k3 x1.Columns, sl .ro ki64 A4 k5 x1.Key, sl .ro kapi_Index A6 k7 x1.Indexes, sl m15 kapi_Value A13 k14 x12] ++ F) _ := S.join.only [3, 3, 3, 3, 3, 3] rfl
 refine r_pv T rfl rfl fun _ T => r_pv T rfl rfl fun _ T => ?_
 rcases ifE H with ⟨h19, H⟩ | ⟨h19, H⟩
 ·refine g_no T rfl rfl h19 rfl fun _ T => ?_
  refine g_no T rfl rfl h19 rfl fun _ T => g_no T rfl rfl h19 rfl fun _ T => g_no T rfl rfl h19 rfl fun _ T => g_no T rfl rfl h19 rfl fun _ T => ?_
  refine r_pickT T rfl h19 rfl rfl fun _ T => cdT T rfl rfl (Gets.seq ?_)
  exact J0_ok F r z x1 A2 k3 A4 k5 A6 k7 x8 A9 k10 m11 x12 A13 k14 m15 _ _ (T.sub trivial) (S.only (p := (y1 A2 k3 x1 A4 k5 A6 k7 m11 A9 k10 x8 m15 A13 k14 x12)) [2, 2, 2, 0, 1] rfl) H
 ·refine g_yes T rfl rfl h19 ?_
  refine r_pv T rfl rfl fun _ T => g_yes T rfl rfl h19 (r_lenS T rfl Tryd.runUnderlying27 rfl fun _ T => g_yes T rfl rfl h19 ?_)
  refine r_pv T rfl rfl fun _ T => g_yes T rfl rfl h19 (r_lenS T rfl Tryd.runUnderlying23 rfl fun _ T => g_yes T rfl rfl h19 ?_)
  refine r_pv T rfl rfl fun _ T => r_pickF T rfl h19 rfl rfl fun _ T => ?_
  rcases ifE H with ⟨h20, H⟩ | ⟨h20, H⟩
  ·refine cdT T rfl h20 ?_
   refine Gets.seq ?_
   exact J0_ok F r z x1 A2 k3 A4 k5 A6 k7 x8 A9 k10 m11 x12 A13 k14 m15 _ _ (T.sub trivial) (S.only (p := (y1 A2 k3 x1 A4 k5 A6 k7 m11 A9 k10 x8 m15 A13 k14 x12)) [2, 2, 2, 0, 1] rfl) H
  ·refine cdF T rfl h20 ?_
   refine Gets.skip (Gets.seq (Gets.seq ?_))
   refine rg (r_pv T rfl rfl fun _ T => r_lenS T rfl Tryd.runUnderlying27 rfl fun _ T => r_pv T rfl rfl fun _ T => ?_)
   refine Gets.block (Gets.loop ?_)
   exact L1_ok F r z x1 A2 k3 A4 k5 A6 k7 x8 A9 k10 m11 x12 A13 k14 m15 b16 z 0 _ _ (T.sub ⟨rfl, rfl, rfl, rfl, rfl, trivial⟩) (S.only (p := [sl .ro kapi_Column A2 k3 x1.Columns, sl .ro ki64 A4 k5 x1.Key, sl .ro kapi_Index A6 k7 x1.Indexes, sl m11 ki64 A9 k10 x8, sl m15 kapi_Value A13 k14 x12, blk b16 (y2 x1 A2 k3 A4 k5 A6 k7)]) [2, 2, 2, 0, 1, 0] rfl) H
end rowkey_askable
end Go.Proofs.YtohelmfkpmphoaaDoor
namespace Go.Proofs.YtohelmfkpmphoaaDoor
open Go Go.Proofs.YtohelmfkpmphoaaDoor.X
set_option linter.unusedVariables false
set_option linter.unusedSimpArgs false
set_option maxRecDepth 100000
set_option maxHeartbeats 4000000
namespace rowkey_from
noncomputable def c0 : Code := match Tryd.f44.body with | some c => c | none => .skip
def R (F : List Atom) (x1 : List Int) (A2 : OA) (k3 : Nat) (r : (List Int)) : Ending → World → Prop := fun e w' => ∃ (A42 : OA), ∃ (k43 : Nat), e = .returned (.slice A42 r.length k43) ∧ SL ([sl .own ku8 A42 k43 r, sl .ro ku8 A2 k3 x1] ++ F) w'
def J0 (z : Nat) (x1 : List Int) (x4 x5 : api_Limit) : Option (List Int) := If x4.Has (Bd (rowkey_column.f z (api_Value.mk x4.Value.Type' x4.Value.Null x4.Value.Int x4.Value.Text)) fun x22 => Bd (slices_Concat_byte.f z [x1, x22]) fun x27 => some x27) (If x5.Has (Bd (slices_Concat_byte.f z [x1, [1]]) fun x34 => some x34) (Bd (slices_Concat_byte.f z [x1]) fun x39 => some x39))
def f (z : Nat) (x1 : List Int) (x4 x5 : api_Limit) : Option (List Int) := If x4.Has (If x4.Open (Bd (rowkey_column.f z (api_Value.mk x4.Value.Type' x4.Value.Null x4.Value.Int x4.Value.Text)) fun x11 => Bd (slices_Concat_byte.f z [x1, x11, [3]]) fun x17 => some x17) (J0 z x1 x4 x5)) (J0 z x1 x4 x5)
noncomputable def ptJ0 : List Item := [.code (cL (cE (cR (cB (cL (cR c0)))))), .code (cR (cE (cR (cB (cL (cR c0)))))), .inBlock 0, .code (cR (cR c0))]
abbrev y0 (x4 : api_Limit) : List Value := [.bool x4.Has, .bool x4.Open, .int .i64 x4.Value.Type', .bool x4.Value.Null, .int .i64 x4.Value.Int, .string x4.Value.Text]
abbrev y1 (x5 : api_Limit) : List Value := [.bool x5.Has, .bool x5.Open, .int .i64 x5.Value.Type', .bool x5.Value.Null, .int .i64 x5.Value.Int, .string x5.Value.Text]
theorem J0_ok (F : List Atom) (r : (List Int)) (z : Nat) (x1 : List Int) (A2 : OA) (k3 b6 b7 : Nat) (x4 x5 : api_Limit) (a : Act) (w : World) (T : Tm 40 [(0, .slice A2 x1.length k3), (4, .pointer (some ⟨b6, 0, none⟩)), (5, .pointer (some ⟨b7, 0, none⟩))] a) (S : SL ([sl .ro ku8 A2 k3 x1, blk b6 (y0 x4), blk b7 (y1 x5)] ++ F) w) (H : J0 z x1 x4 x5 = some r) : Gets Tryd.prog 44 ptJ0 a w (R F x1 A2 k3 r) := by
 refine rg (r_fa (o' := 0) T rfl Tryd.runUnderlying54 rfl Tryd.sizeOf4 rfl rfl fun _ T => r_ldB (ix := 1) T S rfl Tryd.isAgg4 rfl rfl rfl fun _ T => r_pv T rfl rfl fun _ T => ?_)
 rcases ifE H with ⟨h20, H⟩ | ⟨h20, H⟩
 ·refine cdT T rfl h20 ?_
  refine Gets.seq (rg (r_pv T rfl rfl fun _ T => r_fa (o' := 2) T rfl Tryd.runUnderlying54 rfl Tryd.sizeOf43 rfl rfl fun _ T => ?_))
  refine r_ldBA (ix := 1) (ds := [.int .i64 x4.Value.Type', .bool x4.Value.Null, .int .i64 x4.Value.Int, .string x4.Value.Text]) T S rfl Tryd.isAgg43 rfl rfl Tryd.sizeOf43 rfl fun _ T => ?_
  obtain ⟨x22, h21, H⟩ := bd H
  refine r_call T Tryd.call43 rfl rfl (rowkey_column.ok _ _ z (api_Value.mk x4.Value.Type' x4.Value.Null x4.Value.Int x4.Value.Text) (S.sel (p := []) (is := []) rfl) _ h21) ?_
  rintro _ _ ⟨A23, k24, rfl, S⟩
  refine ⟨_, rfl, fun _ T => ?_⟩
  replace S : SL ([sl .own ku8 A23 k24 x22, sl .ro ku8 A2 k3 x1, blk b6 (y0 x4), blk b7 (y1 x5)] ++ F) _ := S.join
  replace S := S.asVal (i := 1) (xs := x1) rfl
  replace S : SL ([rp (kSl ku8) x1 [.slice A2 x1.length k3], sl .ro ku8 A23 k24 x22, sl .ro ku8 A2 k3 x1, blk b6 (y0 x4), blk b7 (y1 x5)] ++ F) _ := S.fixL (i := 1) rfl rfl
  replace S := S.asVal (i := 1) (xs := x22) rfl
  refine r_bsl (κ := (kSl ku8)) (xs := [x1, x22]) (vs := [.slice A2 x1.length k3, .slice A23 x22.length k24]) T S sty92 rfl ⟨_, _, rfl, ⟨1, rfl⟩, ⟨_, _, rfl, ⟨0, rfl⟩, rfl⟩⟩ rfl (by decide) rfl fun _ _ b25 S T => ?_
  replace S : SL ([sl .own (kSl ku8) (some ⟨b25, 0, none⟩) 2 [x1, x22], sl .ro ku8 A23 k24 x22, sl .ro ku8 A2 k3 x1, blk b6 (y0 x4), blk b7 (y1 x5)] ++ F) _ := S.only [0, 2, 2, 2, 2] rfl
  obtain ⟨x27, h26, H⟩ := bd H
  refine r_call T Tryd.call25 rfl rfl (slices_Concat_byte.ok _ _ z [x1, x22] (S.sel (p := [sl .own (kSl ku8) (some ⟨b25, 0, none⟩) 2 [x1, x22]]) (is := [0]) rfl) _ h26) ?_
  rintro _ _ ⟨A28, k29, rfl, S⟩
  refine ⟨_, rfl, fun _ T => ?_⟩
  replace S : SL ([sl .own ku8 A28 k29 x27, sl .own (kSl ku8) (some ⟨b25, 0, none⟩) 2 [x1, x22], sl .ro ku8 A23 k24 x22, sl .ro ku8 A2 k3 x1, blk b6 (y0 x4), blk b7 (y1 x5)] ++ F) _ := S.join
  refine r_pv T rfl rfl fun _ T => ?_
  replace H := Option.some.inj H
  subst H
  exact rtn T Tryd.func44 rfl rfl ⟨A28, k29, rfl, (S.only (p := [sl .own ku8 A28 k29 x27, sl .ro ku8 A2 k3 x1]) [0, 2] rfl)⟩
 ·refine cdF T rfl h20 ?_
  refine Gets.seq (rg (r_fa (o' := 0) T rfl Tryd.runUnderlying54 rfl Tryd.sizeOf4 rfl rfl fun _ T => r_ldB (ix := 2) T S rfl Tryd.isAgg4 rfl rfl rfl fun _ T => ?_))
  refine r_pv T rfl rfl fun _ T => ?_
  rcases ifE H with ⟨h30, H⟩ | ⟨h30, H⟩
  ·refine cdT T rfl h30 ?_
   refine Gets.seq (rg (r_pv T rfl rfl fun _ T => ?_))
   replace S := SL.val (κ := ku8) (x := 1) (cs := [.int .u8 1]) (fun _ => rfl) S
   refine r_bsl (κ := ku8) (xs := [1]) (vs := [.int .u8 1]) T S sty29 rfl ⟨_, _, rfl, ⟨0, rfl⟩, rfl⟩ rfl (by decide) rfl fun _ _ b31 S T => ?_
   replace S : SL ([sl .own ku8 (some ⟨b31, 0, none⟩) 1 [1], sl .ro ku8 A2 k3 x1, blk b6 (y0 x4), blk b7 (y1 x5)] ++ F) _ := S.only [0, 1, 1, 1] rfl
   replace S := S.asVal (i := 1) (xs := x1) rfl
   replace S : SL ([rp (kSl ku8) x1 [.slice A2 x1.length k3], sl .ro ku8 (some ⟨b31, 0, none⟩) 1 [1], sl .ro ku8 A2 k3 x1, blk b6 (y0 x4), blk b7 (y1 x5)] ++ F) _ := S.fixL (i := 1) rfl rfl
   replace S := S.asVal (i := 1) (xs := [1]) rfl
   refine r_bsl (κ := (kSl ku8)) (xs := [x1, [1]]) (vs := [.slice A2 x1.length k3, .slice (some ⟨b31, 0, none⟩) 1 1]) T S sty92 rfl ⟨_, _, rfl, ⟨1, rfl⟩, ⟨_, _, rfl, ⟨0, rfl⟩, rfl⟩⟩ rfl (by decide) rfl fun _ _ b32 S T => ?_
   replace S : SL ([sl .own (kSl ku8) (some ⟨b32, 0, none⟩) 2 [x1, [1]], sl .ro ku8 (some ⟨b31, 0, none⟩) 1 [1], sl .ro ku8 A2 k3 x1, blk b6 (y0 x4), blk b7 (y1 x5)] ++ F) _ := S.only [0, 2, 2, 2, 2] rfl
   obtain ⟨x34, h33, H⟩ := bd H
   refine r_call T Tryd.call25 rfl rfl (slices_Concat_byte.ok _ _ z [x1, [1]] (S.sel (p := [sl .own (kSl ku8) (some ⟨b32, 0, none⟩) 2 [x1, [1]]]) (is := [0]) rfl) _ h33) ?_
   rintro _ _ ⟨A35, k36, rfl, S⟩
   refine ⟨_, rfl, fun _ T => ?_⟩
   replace S : SL ([sl .own ku8 A35 k36 x34, sl .own (kSl ku8) (some ⟨b32, 0, none⟩) 2 [x1, [1]], sl .ro ku8 (some ⟨b31, 0, none⟩) 1 [1], sl .ro ku8 A2 k3 x1, blk b6 (y0 x4), blk b7 (y1 x5)] ++ F) _ := S.join
   refine r_pv T rfl rfl fun _ T => ?_
   replace H := Option.some.inj H
   subst H
   exact rtn T Tryd.func44 rfl rfl ⟨A35, k36, rfl, (S.only (p := [sl .own ku8 A35 k36 x34, sl .ro ku8 A2 k3 x1]) [0, 2] rfl)⟩
  ·refine cdF T rfl h30 ?_
   refine Gets.skip (Gets.inBlock (Gets.seq ?_))
   refine rg (r_pv T rfl rfl fun _ T => ?_)
   replace S := S.asVal (i := 0) (xs := x1) rfl
   refine r_bsl (κ := (kSl ku8)) (xs := [x1]) (vs := [.slice A2 x1.length k3]) T S sty92 rfl ⟨_, _, rfl, ⟨0, rfl⟩, rfl⟩ rfl (by decide) rfl fun _ _ b37 S T => ?_
   replace S : SL ([sl .own (kSl ku8) (some ⟨b37, 0, none⟩) 1 [x1], sl .ro ku8 A2 k3 x1, blk b6 (y0 x4), blk b7 (y1 x5)] ++ F) _ := S.only [0, 1, 1, 1] rfl
   obtain ⟨x39, h38, H⟩ := bd H
   refine r_call T Tryd.call25 rfl rfl (slices_Concat_byte.ok _ _ z [x1] (S.sel (p := [sl .own (kSl ku8) (some ⟨b37, 0, none⟩) 1 [x1]]) (is := [0]) rfl) _ h38) ?_
   rintro _ _ ⟨A40, k41, rfl, S⟩
   refine ⟨_, rfl, fun _ T => ?_⟩
   replace S : SL ([sl .own ku8 A40 k41 x39, sl .own (kSl ku8) (some ⟨b37, 0, none⟩) 1 [x1], sl .ro ku8 A2 k3 x1, blk b6 (y0 x4), blk b7 (y1 x5)] ++ F) _ := S.join
   refine r_pv T rfl rfl fun _ T => ?_
   replace H := Option.some.inj H
   subst H
   exact rtn T Tryd.func44 rfl rfl ⟨A40, k41, rfl, (S.only (p := [sl .own ku8 A40 k41 x39, sl .ro ku8 A2 k3 x1]) [0, 1] rfl)⟩
theorem ok (F : List Atom) (w : World) (z : Nat) (x1 : List Int) (x4 x5 : api_Limit) {A2 : OA} {k3 : Nat} (S : SL ([sl .ro ku8 A2 k3 x1] ++ F) w) (r : (List Int)) (H : f z x1 x4 x5 = some r) : Calls Tryd.prog 44 #[.slice A2 x1.length k3, .agg #[.bool x4.Has, .bool x4.Open, .int .i64 x4.Value.Type', .bool x4.Value.Null, .int .i64 x4.Value.Int, .string x4.Value.Text], .agg #[.bool x5.Has, .bool x5.Open, .int .i64 x5.Value.Type', .bool x5.Value.Null, .int .i64 x5.Value.Int, .string x5.Value.Text]] w (R F x1 A2 k3 r) := by
 refine enter (vs := [.slice A2 x1.length k3, .agg #[.bool x4.Has, .bool x4.Open, .int .i64 x4.Value.Type', .bool x4.Value.Null, .int .i64 x4.Value.Int, .string x4.Value.Text], .agg #[.bool x5.Has, .bool x5.Open, .int .i64 x5.Value.Type', .bool x5.Value.Null, .int .i64 x5.Value.Int, .string x5.Value.Text]]) Tryd.func44 rfl Tryd.ntmps44 (Nat.le_of_ble_eq_true rfl) fun a T => ?_
 refine Gets.seq (rg (r_box T S rfl (cs := (y0 x4)) rfl rfl fun _ _ b6 S T => r_box T S rfl (cs := (y1 x5)) rfl rfl fun _ _ b7 S T => ?_))
 refine r_pv T rfl rfl fun _ T => ?_
 refine Gets.seq (Gets.block (Gets.seq ?_))
 refine rg (r_fa (o' := 0) T rfl Tryd.runUnderlying54 rfl Tryd.sizeOf4 rfl rfl fun _ T => r_ldB (ix := 1) T S rfl Tryd.isAgg4 rfl rfl rfl fun _ T => r_pv T rfl rfl fun _ T => ?_)
 rcases ifE H with ⟨h8, H⟩ | ⟨h8, H⟩
 ·refine g_yes T rfl rfl h8 ?_
  refine r_fa (o' := 1) T rfl Tryd.runUnderlying54 rfl Tryd.sizeOf4 rfl rfl fun _ T => g_yes T rfl rfl h8 (r_ldB (ix := 1) T S rfl Tryd.isAgg4 rfl rfl rfl fun _ T => r_pickT T rfl h8 rfl rfl fun _ T => ?_)
  refine r_pv T rfl rfl fun _ T => ?_
  rcases ifE H with ⟨h9, H⟩ | ⟨h9, H⟩
  ·refine cdT T rfl h9 ?_
   refine Gets.seq (rg (r_pv T rfl rfl fun _ T => r_fa (o' := 2) T rfl Tryd.runUnderlying54 rfl Tryd.sizeOf43 rfl rfl fun _ T => ?_))
   refine r_ldBA (ix := 1) (ds := [.int .i64 x4.Value.Type', .bool x4.Value.Null, .int .i64 x4.Value.Int, .string x4.Value.Text]) T S rfl Tryd.isAgg43 rfl rfl Tryd.sizeOf43 rfl fun _ T => ?_
   obtain ⟨x11, h10, H⟩ := bd H
   refine r_call T Tryd.call43 rfl rfl (rowkey_column.ok _ _ z (api_Value.mk x4.Value.Type' x4.Value.Null x4.Value.Int x4.Value.Text) (S.sel (p := []) (is := []) rfl) _ h10) ?_
   rintro _ _ ⟨A12, k13, rfl, S⟩
   refine ⟨_, rfl, fun _ T => ?_⟩
   replace S : SL ([sl .own ku8 A12 k13 x11, blk b7 (y1 x5), blk b6 (y0 x4), sl .ro ku8 A2 k3 x1] ++ F) _ := S.join
   replace S := SL.val (κ := ku8) (x := 3) (cs := [.int .u8 3]) (fun _ => rfl) S
   refine r_bsl (κ := ku8) (xs := [3]) (vs := [.int .u8 3]) T S sty29 rfl ⟨_, _, rfl, ⟨0, rfl⟩, rfl⟩ rfl (by decide) rfl fun _ _ b14 S T => ?_
   replace S : SL ([sl .own ku8 (some ⟨b14, 0, none⟩) 1 [3], sl .own ku8 A12 k13 x11, blk b7 (y1 x5), blk b6 (y0 x4), sl .ro ku8 A2 k3 x1] ++ F) _ := S.only [0, 1, 1, 1, 1] rfl
   replace S := S.asVal (i := 4) (xs := x1) rfl
   replace S : SL ([rp (kSl ku8) x1 [.slice A2 x1.length k3], sl .own ku8 (some ⟨b14, 0, none⟩) 1 [3], sl .ro ku8 A12 k13 x11, blk b7 (y1 x5), blk b6 (y0 x4), sl .ro ku8 A2 k3 x1] ++ F) _ := S.fixL (i := 2) rfl rfl
   replace S := S.asVal (i := 2) (xs := x11) rfl
   replace S : SL ([rp (kSl ku8) x11 [.slice A12 x11.length k13], rp (kSl ku8) x1 [.slice A2 x1.length k3], sl .ro ku8 (some ⟨b14, 0, none⟩) 1 [3], sl .ro ku8 A12 k13 x11, blk b7 (y1 x5), blk b6 (y0 x4), sl .ro ku8 A2 k3 x1] ++ F) _ := S.fixL (i := 2) rfl rfl
   replace S := S.asVal (i := 2) (xs := [3]) rfl
   refine r_bsl (κ := (kSl ku8)) (xs := [x1, x11, [3]]) (vs := [.slice A2 x1.length k3, .slice A12 x11.length k13, .slice (some ⟨b14, 0, none⟩) 1 1]) T S sty92 rfl ⟨_, _, rfl, ⟨2, rfl⟩, ⟨_, _, rfl, ⟨1, rfl⟩, ⟨_, _, rfl, ⟨0, rfl⟩, rfl⟩⟩⟩ rfl (by decide) rfl fun _ _ b15 S T => ?_
   replace S : SL ([sl .own (kSl ku8) (some ⟨b15, 0, none⟩) 3 [x1, x11, [3]], sl .ro ku8 (some ⟨b14, 0, none⟩) 1 [3], sl .ro ku8 A12 k13 x11, blk b7 (y1 x5), blk b6 (y0 x4), sl .ro ku8 A2 k3 x1] ++ F) _ := S.only [0, 3, 3, 3, 3, 3] rfl
   obtain ⟨x17, h16, H⟩ := bd H
   refine r_call T Tryd.call25 rfl rfl (slices_Concat_byte.ok _ _ z [x1, x11, [3]] (S.sel (p := [sl .own (kSl ku8) (some ⟨b15, 0, none⟩) 3 [x1, x11, [3]]]) (is := [0]) rfl) _ h16) ?_
   rintro _ _ ⟨A18, k19, rfl, S⟩
   refine ⟨_, rfl, fun _ T => ?_⟩
   replace S : SL ([sl .own ku8 A18 k19 x17, sl .own (kSl ku8) (some ⟨b15, 0, none⟩) 3 [x1, x11, [3]], sl .ro ku8 (some ⟨b14, 0, none⟩) 1 [3], sl .ro ku8 A12 k13 x11, blk b7 (y1 x5), blk b6 (y0 x4), sl .ro ku8 A2 k3 x1] ++ F) _ := S.join
   refine r_pv T rfl rfl fun _ T => ?_
   replace H := Option.some.inj H
   subst H
   exact rtn T Tryd.func44 rfl rfl ⟨A18, k19, rfl, (S.only (p := [sl .own ku8 A18 k19 x17, sl .ro ku8 A2 k3 x1]) [0, 5] rfl)⟩
  ·refine cdF T rfl h9 ?_
   refine Gets.seq ?_
   exact J0_ok F r z x1 A2 k3 b6 b7 x4 x5 _ _ (T.sub ⟨rfl, rfl, rfl, trivial⟩) (S.only (p := [sl .ro ku8 A2 k3 x1, blk b6 (y0 x4), blk b7 (y1 x5)]) [2, 1, 0] rfl) H
 ·refine g_no T rfl rfl h8 rfl fun _ T => ?_
  refine g_no T rfl rfl h8 rfl fun _ T => r_pickF T rfl h8 rfl rfl fun _ T => r_pv T rfl rfl fun _ T => cdF T rfl rfl ?_
  refine Gets.seq ?_
  exact J0_ok F r z x1 A2 k3 b6 b7 x4 x5 _ _ (T.sub ⟨rfl, rfl, rfl, trivial⟩) (S.only (p := [sl .ro ku8 A2 k3 x1, blk b6 (y0 x4), blk b7 (y1 x5)]) [2, 1, 0] rfl) H
end rowkey_from
end Go.Proofs.YtohelmfkpmphoaaDoor
namespace Go.Proofs.YtohelmfkpmphoaaDoor
open Go Go.Proofs.YtohelmfkpmphoaaDoor.X
set_option linter.unusedVariables false
set_option linter.unusedSimpArgs false
set_option maxRecDepth 100000
set_option maxHeartbeats 4000000
namespace rowkey_to
noncomputable def c0 : Code := match Tryd.f45.body with | some c => c | none => .skip
def R (F : List Atom) (x1 : List Int) (A2 : OA) (k3 : Nat) (r : (List Int)) : Ending → World → Prop := fun e w' => ∃ (A43 : OA), ∃ (k44 : Nat), e = .returned (.slice A43 r.length k44) ∧ SL ([sl .own ku8 A43 k44 r, sl .ro ku8 A2 k3 x1] ++ F) w'
def J0 (z : Nat) (x1 : List Int) (x4 x5 : api_Limit) : Option (List Int) := If x5.Has (Bd (rowkey_column.f z (api_Value.mk x5.Value.Type' x5.Value.Null x5.Value.Int x5.Value.Text)) fun x21 => Bd (slices_Concat_byte.f z [x1, x21, [3]]) fun x27 => some x27) (If x4.Has (Bd (slices_Concat_byte.f z [x1, [2]]) fun x34 => some x34) (Bd (slices_Concat_byte.f z [x1, [3]]) fun x40 => some x40))
def f (z : Nat) (x1 : List Int) (x4 x5 : api_Limit) : Option (List Int) := If x5.Has (If x5.Open (Bd (rowkey_column.f z (api_Value.mk x5.Value.Type' x5.Value.Null x5.Value.Int x5.Value.Text)) fun x11 => Bd (slices_Concat_byte.f z [x1, x11]) fun x16 => some x16) (J0 z x1 x4 x5)) (J0 z x1 x4 x5)
noncomputable def ptJ0 : List Item := [.code (cL (cE (cR (cB (cL (cR c0)))))), .code (cR (cE (cR (cB (cL (cR c0)))))), .inBlock 0, .code (cR (cR c0))]
abbrev y0 (x4 : api_Limit) : List Value := [.bool x4.Has, .bool x4.Open, .int .i64 x4.Value.Type', .bool x4.Value.Null, .int .i64 x4.Value.Int, .string x4.Value.Text]
abbrev y1 (x5 : api_Limit) : List Value := [.bool x5.Has, .bool x5.Open, .int .i64 x5.Value.Type', .bool x5.Value.Null, .int .i64 x5.Value.Int, .string x5.Value.Text]
theorem J0_ok (F : List Atom) (r : (List Int)) (z : Nat) (x1 : List Int) (A2 : OA) (k3 b6 b7 : Nat) (x4 x5 : api_Limit) (a : Act) (w : World) (T : Tm 41 [(0, .slice A2 x1.length k3), (4, .pointer (some ⟨b6, 0, none⟩)), (5, .pointer (some ⟨b7, 0, none⟩))] a) (S : SL ([sl .ro ku8 A2 k3 x1, blk b6 (y0 x4), blk b7 (y1 x5)] ++ F) w) (H : J0 z x1 x4 x5 = some r) : Gets Tryd.prog 45 ptJ0 a w (R F x1 A2 k3 r) := by
 refine rg (r_fa (o' := 0) T rfl Tryd.runUnderlying54 rfl Tryd.sizeOf4 rfl rfl fun _ T => r_ldB (ix := 2) T S rfl Tryd.isAgg4 rfl rfl rfl fun _ T => r_pv T rfl rfl fun _ T => ?_)
 rcases ifE H with ⟨h19, H⟩ | ⟨h19, H⟩
 ·refine cdT T rfl h19 ?_
  refine Gets.seq (rg (r_pv T rfl rfl fun _ T => r_fa (o' := 2) T rfl Tryd.runUnderlying54 rfl Tryd.sizeOf43 rfl rfl fun _ T => ?_))
  refine r_ldBA (ix := 2) (ds := [.int .i64 x5.Value.Type', .bool x5.Value.Null, .int .i64 x5.Value.Int, .string x5.Value.Text]) T S rfl Tryd.isAgg43 rfl rfl Tryd.sizeOf43 rfl fun _ T => ?_
  obtain ⟨x21, h20, H⟩ := bd H
  refine r_call T Tryd.call43 rfl rfl (rowkey_column.ok _ _ z (api_Value.mk x5.Value.Type' x5.Value.Null x5.Value.Int x5.Value.Text) (S.sel (p := []) (is := []) rfl) _ h20) ?_
  rintro _ _ ⟨A22, k23, rfl, S⟩
  refine ⟨_, rfl, fun _ T => ?_⟩
  replace S : SL ([sl .own ku8 A22 k23 x21, sl .ro ku8 A2 k3 x1, blk b6 (y0 x4), blk b7 (y1 x5)] ++ F) _ := S.join
  replace S := SL.val (κ := ku8) (x := 3) (cs := [.int .u8 3]) (fun _ => rfl) S
  refine r_bsl (κ := ku8) (xs := [3]) (vs := [.int .u8 3]) T S sty29 rfl ⟨_, _, rfl, ⟨0, rfl⟩, rfl⟩ rfl (by decide) rfl fun _ _ b24 S T => ?_
  replace S : SL ([sl .own ku8 (some ⟨b24, 0, none⟩) 1 [3], sl .own ku8 A22 k23 x21, sl .ro ku8 A2 k3 x1, blk b6 (y0 x4), blk b7 (y1 x5)] ++ F) _ := S.only [0, 1, 1, 1, 1] rfl
  replace S := S.asVal (i := 2) (xs := x1) rfl
  replace S : SL ([rp (kSl ku8) x1 [.slice A2 x1.length k3], sl .own ku8 (some ⟨b24, 0, none⟩) 1 [3], sl .ro ku8 A22 k23 x21, sl .ro ku8 A2 k3 x1, blk b6 (y0 x4), blk b7 (y1 x5)] ++ F) _ := S.fixL (i := 2) rfl rfl
  replace S := S.asVal (i := 2) (xs := x21) rfl
  replace S : SL ([rp (kSl ku8) x21 [.slice A22 x21.length k23], rp (kSl ku8) x1 [.slice A2 x1.length k3], sl .ro ku8 (some ⟨b24, 0, none⟩) 1 [3], sl .ro ku8 A22 k23 x21, sl .ro ku8 A2 k3 x1, blk b6 (y0 x4), blk b7 (y1 x5)] ++ F) _ := S.fixL (i := 2) rfl rfl
  replace S := S.asVal (i := 2) (xs := [3]) rfl
  refine r_bsl (κ := (kSl ku8)) (xs := [x1, x21, [3]]) (vs := [.slice A2 x1.length k3, .slice A22 x21.length k23, .slice (some ⟨b24, 0, none⟩) 1 1]) T S sty92 rfl ⟨_, _, rfl, ⟨2, rfl⟩, ⟨_, _, rfl, ⟨1, rfl⟩, ⟨_, _, rfl, ⟨0, rfl⟩, rfl⟩⟩⟩ rfl (by decide) rfl fun _ _ b25 S T => ?_
  replace S : SL ([sl .own (kSl ku8) (some ⟨b25, 0, none⟩) 3 [x1, x21, [3]], sl .ro ku8 (some ⟨b24, 0, none⟩) 1 [3], sl .ro ku8 A22 k23 x21, sl .ro ku8 A2 k3 x1, blk b6 (y0 x4), blk b7 (y1 x5)] ++ F) _ := S.only [0, 3, 3, 3, 3, 3] rfl
  obtain ⟨x27, h26, H⟩ := bd H
  refine r_call T Tryd.call25 rfl rfl (slices_Concat_byte.ok _ _ z [x1, x21, [3]] (S.sel (p := [sl .own (kSl ku8) (some ⟨b25, 0, none⟩) 3 [x1, x21, [3]]]) (is := [0]) rfl) _ h26) ?_
  rintro _ _ ⟨A28, k29, rfl, S⟩
  refine ⟨_, rfl, fun _ T => ?_⟩
  replace S : SL ([sl .own ku8 A28 k29 x27, sl .own (kSl ku8) (some ⟨b25, 0, none⟩) 3 [x1, x21, [3]], sl .ro ku8 (some ⟨b24, 0, none⟩) 1 [3], sl .ro ku8 A22 k23 x21, sl .ro ku8 A2 k3 x1, blk b6 (y0 x4), blk b7 (y1 x5)] ++ F) _ := S.join
  refine r_pv T rfl rfl fun _ T => ?_
  replace H := Option.some.inj H
  subst H
  exact rtn T Tryd.func45 rfl rfl ⟨A28, k29, rfl, (S.only (p := [sl .own ku8 A28 k29 x27, sl .ro ku8 A2 k3 x1]) [0, 3] rfl)⟩
 ·refine cdF T rfl h19 ?_
  refine Gets.seq (rg (r_fa (o' := 0) T rfl Tryd.runUnderlying54 rfl Tryd.sizeOf4 rfl rfl fun _ T => r_ldB (ix := 1) T S rfl Tryd.isAgg4 rfl rfl rfl fun _ T => ?_))
  refine r_pv T rfl rfl fun _ T => ?_
  rcases ifE H with ⟨h30, H⟩ | ⟨h30, H⟩
  ·refine cdT T rfl h30 ?_
   refine Gets.seq (rg (r_pv T rfl rfl fun _ T => ?_))
   replace S := SL.val (κ := ku8) (x := 2) (cs := [.int .u8 2]) (fun _ => rfl) S
   refine r_bsl (κ := ku8) (xs := [2]) (vs := [.int .u8 2]) T S sty29 rfl ⟨_, _, rfl, ⟨0, rfl⟩, rfl⟩ rfl (by decide) rfl fun _ _ b31 S T => ?_
   replace S : SL ([sl .own ku8 (some ⟨b31, 0, none⟩) 1 [2], sl .ro ku8 A2 k3 x1, blk b6 (y0 x4), blk b7 (y1 x5)] ++ F) _ := S.only [0, 1, 1, 1] rfl
   replace S := S.asVal (i := 1) (xs := x1) rfl
   replace S : SL ([rp (kSl ku8) x1 [.slice A2 x1.length k3], sl .ro ku8 (some ⟨b31, 0, none⟩) 1 [2], sl .ro ku8 A2 k3 x1, blk b6 (y0 x4), blk b7 (y1 x5)] ++ F) _ := S.fixL (i := 1) rfl rfl
   replace S := S.asVal (i := 1) (xs := [2]) rfl
   refine r_bsl (κ := (kSl ku8)) (xs := [x1, [2]]) (vs := [.slice A2 x1.length k3, .slice (some ⟨b31, 0, none⟩) 1 1]) T S sty92 rfl ⟨_, _, rfl, ⟨1, rfl⟩, ⟨_, _, rfl, ⟨0, rfl⟩, rfl⟩⟩ rfl (by decide) rfl fun _ _ b32 S T => ?_
   replace S : SL ([sl .own (kSl ku8) (some ⟨b32, 0, none⟩) 2 [x1, [2]], sl .ro ku8 (some ⟨b31, 0, none⟩) 1 [2], sl .ro ku8 A2 k3 x1, blk b6 (y0 x4), blk b7 (y1 x5)] ++ F) _ := S.only [0, 2, 2, 2, 2] rfl
   obtain ⟨x34, h33, H⟩ := bd H
   refine r_call T Tryd.call25 rfl rfl (slices_Concat_byte.ok _ _ z [x1, [2]] (S.sel (p := [sl .own (kSl ku8) (some ⟨b32, 0, none⟩) 2 [x1, [2]]]) (is := [0]) rfl) _ h33) ?_
   rintro _ _ ⟨A35, k36, rfl, S⟩
   refine ⟨_, rfl, fun _ T => ?_⟩
   replace S : SL ([sl .own ku8 A35 k36 x34, sl .own (kSl ku8) (some ⟨b32, 0, none⟩) 2 [x1, [2]], sl .ro ku8 (some ⟨b31, 0, none⟩) 1 [2], sl .ro ku8 A2 k3 x1, blk b6 (y0 x4), blk b7 (y1 x5)] ++ F) _ := S.join
   refine r_pv T rfl rfl fun _ T => ?_
   replace H := Option.some.inj H
   subst H
   exact rtn T Tryd.func45 rfl rfl ⟨A35, k36, rfl, (S.only (p := [sl .own ku8 A35 k36 x34, sl .ro ku8 A2 k3 x1]) [0, 2] rfl)⟩
  ·refine cdF T rfl h30 ?_
   refine Gets.skip (Gets.inBlock (Gets.seq ?_))
   refine rg (r_pv T rfl rfl fun _ T => ?_)
   replace S := SL.val (κ := ku8) (x := 3) (cs := [.int .u8 3]) (fun _ => rfl) S
   refine r_bsl (κ := ku8) (xs := [3]) (vs := [.int .u8 3]) T S sty29 rfl ⟨_, _, rfl, ⟨0, rfl⟩, rfl⟩ rfl (by decide) rfl fun _ _ b37 S T => ?_
   replace S : SL ([sl .own ku8 (some ⟨b37, 0, none⟩) 1 [3], sl .ro ku8 A2 k3 x1, blk b6 (y0 x4), blk b7 (y1 x5)] ++ F) _ := S.only [0, 1, 1, 1] rfl
   replace S := S.asVal (i := 1) (xs := x1) rfl
   replace S : SL ([rp (kSl ku8) x1 [.slice A2 x1.length k3], sl .ro ku8 (some ⟨b37, 0, none⟩) 1 [3], sl .ro ku8 A2 k3 x1, blk b6 (y0 x4), blk b7 (y1 x5)] ++ F) _ := S.fixL (i := 1) rfl rfl
   replace S := S.asVal (i := 1) (xs := [3]) rfl
   refine r_bsl (κ := (kSl ku8)) (xs := [x1, [3]]) (vs := [.slice A2 x1.length k3, .slice (some ⟨b37, 0, none⟩) 1 1]) T S sty92 rfl ⟨_, _, rfl, ⟨1, rfl⟩, ⟨_, _, rfl, ⟨0, rfl⟩, rfl⟩⟩ rfl (by decide) rfl fun _ _ b38 S T => ?_
   replace S : SL ([sl .own (kSl ku8) (some ⟨b38, 0, none⟩) 2 [x1, [3]], sl .ro ku8 (some ⟨b37, 0, none⟩) 1 [3], sl .ro ku8 A2 k3 x1, blk b6 (y0 x4), blk b7 (y1 x5)] ++ F) _ := S.only [0, 2, 2, 2, 2] rfl
   obtain ⟨x40, h39, H⟩ := bd H
   refine r_call T Tryd.call25 rfl rfl (slices_Concat_byte.ok _ _ z [x1, [3]] (S.sel (p := [sl .own (kSl ku8) (some ⟨b38, 0, none⟩) 2 [x1, [3]]]) (is := [0]) rfl) _ h39) ?_
   rintro _ _ ⟨A41, k42, rfl, S⟩
   refine ⟨_, rfl, fun _ T => ?_⟩
   replace S : SL ([sl .own ku8 A41 k42 x40, sl .own (kSl ku8) (some ⟨b38, 0, none⟩) 2 [x1, [3]], sl .ro ku8 (some ⟨b37, 0, none⟩) 1 [3], sl .ro ku8 A2 k3 x1, blk b6 (y0 x4), blk b7 (y1 x5)] ++ F) _ := S.join
   refine r_pv T rfl rfl fun _ T => ?_
   replace H := Option.some.inj H
   subst H
   exact rtn T Tryd.func45 rfl rfl ⟨A41, k42, rfl, (S.only (p := [sl .own ku8 A41 k42 x40, sl .ro ku8 A2 k3 x1]) [0, 2] rfl)⟩
theorem ok (F : List Atom) (w : World) (z : Nat) (x1 : List Int) (x4 x5 : api_Limit) {A2 : OA} {k3 : Nat} (S : SL ([sl .ro ku8 A2 k3 x1] ++ F) w) (r : (List Int)) (H : f z x1 x4 x5 = some r) : Calls Tryd.prog 45 #[.slice A2 x1.length k3, .agg #[.bool x4.Has, .bool x4.Open, .int .i64 x4.Value.Type', .bool x4.Value.Null, .int .i64 x4.Value.Int, .string x4.Value.Text], .agg #[.bool x5.Has, .bool x5.Open, .int .i64 x5.Value.Type', .bool x5.Value.Null, .int .i64 x5.Value.Int, .string x5.Value.Text]] w (R F x1 A2 k3 r) := by
 refine enter (vs := [.slice A2 x1.length k3, .agg #[.bool x4.Has, .bool x4.Open, .int .i64 x4.Value.Type', .bool x4.Value.Null, .int .i64 x4.Value.Int, .string x4.Value.Text], .agg #[.bool x5.Has, .bool x5.Open, .int .i64 x5.Value.Type', .bool x5.Value.Null, .int .i64 x5.Value.Int, .string x5.Value.Text]]) Tryd.func45 rfl Tryd.ntmps45 (Nat.le_of_ble_eq_true rfl) fun a T => ?_
 refine Gets.seq (rg (r_box T S rfl (cs := (y0 x4)) rfl rfl fun _ _ b6 S T => r_box T S rfl (cs := (y1 x5)) rfl rfl fun _ _ b7 S T => ?_))
 refine r_pv T rfl rfl fun _ T => ?_
 refine Gets.seq (Gets.block (Gets.seq ?_))
 refine rg (r_fa (o' := 0) T rfl Tryd.runUnderlying54 rfl Tryd.sizeOf4 rfl rfl fun _ T => r_ldB (ix := 0) T S rfl Tryd.isAgg4 rfl rfl rfl fun _ T => r_pv T rfl rfl fun _ T => ?_)
 rcases ifE H with ⟨h8, H⟩ | ⟨h8, H⟩
 ·refine g_yes T rfl rfl h8 ?_
  refine r_fa (o' := 1) T rfl Tryd.runUnderlying54 rfl Tryd.sizeOf4 rfl rfl fun _ T => g_yes T rfl rfl h8 (r_ldB (ix := 0) T S rfl Tryd.isAgg4 rfl rfl rfl fun _ T => r_pickT T rfl h8 rfl rfl fun _ T => ?_)
  refine r_pv T rfl rfl fun _ T => ?_
  rcases ifE H with ⟨h9, H⟩ | ⟨h9, H⟩
  ·refine cdT T rfl h9 ?_
   refine Gets.seq (rg (r_pv T rfl rfl fun _ T => r_fa (o' := 2) T rfl Tryd.runUnderlying54 rfl Tryd.sizeOf43 rfl rfl fun _ T => ?_))
   refine r_ldBA (ix := 0) (ds := [.int .i64 x5.Value.Type', .bool x5.Value.Null, .int .i64 x5.Value.Int, .string x5.Value.Text]) T S rfl Tryd.isAgg43 rfl rfl Tryd.sizeOf43 rfl fun _ T => ?_
   obtain ⟨x11, h10, H⟩ := bd H
   refine r_call T Tryd.call43 rfl rfl (rowkey_column.ok _ _ z (api_Value.mk x5.Value.Type' x5.Value.Null x5.Value.Int x5.Value.Text) (S.sel (p := []) (is := []) rfl) _ h10) ?_
   rintro _ _ ⟨A12, k13, rfl, S⟩
   refine ⟨_, rfl, fun _ T => ?_⟩
   replace S : SL ([sl .own ku8 A12 k13 x11, blk b7 (y1 x5), blk b6 (y0 x4), sl .ro ku8 A2 k3 x1] ++ F) _ := S.join
   replace S := S.asVal (i := 3) (xs := x1) rfl
   replace S : SL ([rp (kSl ku8) x1 [.slice A2 x1.length k3], sl .ro ku8 A12 k13 x11, blk b7 (y1 x5), blk b6 (y0 x4), sl .ro ku8 A2 k3 x1] ++ F) _ := S.fixL (i := 1) rfl rfl
   replace S := S.asVal (i := 1) (xs := x11) rfl
   refine r_bsl (κ := (kSl ku8)) (xs := [x1, x11]) (vs := [.slice A2 x1.length k3, .slice A12 x11.length k13]) T S sty92 rfl ⟨_, _, rfl, ⟨1, rfl⟩, ⟨_, _, rfl, ⟨0, rfl⟩, rfl⟩⟩ rfl (by decide) rfl fun _ _ b14 S T => ?_
   replace S : SL ([sl .own (kSl ku8) (some ⟨b14, 0, none⟩) 2 [x1, x11], sl .ro ku8 A12 k13 x11, blk b7 (y1 x5), blk b6 (y0 x4), sl .ro ku8 A2 k3 x1] ++ F) _ := S.only [0, 2, 2, 2, 2] rfl
   obtain ⟨x16, h15, H⟩ := bd H
   refine r_call T Tryd.call25 rfl rfl (slices_Concat_byte.ok _ _ z [x1, x11] (S.sel (p := [sl .own (kSl ku8) (some ⟨b14, 0, none⟩) 2 [x1, x11]]) (is := [0]) rfl) _ h15) ?_
   rintro _ _ ⟨A17, k18, rfl, S⟩
   refine ⟨_, rfl, fun _ T => ?_⟩
   replace S : SL ([sl .own ku8 A17 k18 x16, sl .own (kSl ku8) (some ⟨b14, 0, none⟩) 2 [x1, x11], sl .ro ku8 A12 k13 x11, blk b7 (y1 x5), blk b6 (y0 x4), sl .ro ku8 A2 k3 x1] ++ F) _ := S.join
   refine r_pv T rfl rfl fun _ T => ?_
   replace H := Option.some.inj H
   subst H
   exact rtn T Tryd.func45 rfl rfl ⟨A17, k18, rfl, (S.only (p := [sl .own ku8 A17 k18 x16, sl .ro ku8 A2 k3 x1]) [0, 4] rfl)⟩
  ·refine cdF T rfl h9 ?_
   refine Gets.seq ?_
   exact J0_ok F r z x1 A2 k3 b6 b7 x4 x5 _ _ (T.sub ⟨rfl, rfl, rfl, trivial⟩) (S.only (p := [sl .ro ku8 A2 k3 x1, blk b6 (y0 x4), blk b7 (y1 x5)]) [2, 1, 0] rfl) H
 ·refine g_no T rfl rfl h8 rfl fun _ T => ?_
  refine g_no T rfl rfl h8 rfl fun _ T => r_pickF T rfl h8 rfl rfl fun _ T => r_pv T rfl rfl fun _ T => cdF T rfl rfl ?_
  refine Gets.seq ?_
  exact J0_ok F r z x1 A2 k3 b6 b7 x4 x5 _ _ (T.sub ⟨rfl, rfl, rfl, trivial⟩) (S.only (p := [sl .ro ku8 A2 k3 x1, blk b6 (y0 x4), blk b7 (y1 x5)]) [2, 1, 0] rfl) H
end rowkey_to
end Go.Proofs.YtohelmfkpmphoaaDoor
namespace Go.Proofs.YtohelmfkpmphoaaDoor
open Go Go.Proofs.YtohelmfkpmphoaaDoor.X
set_option linter.unusedVariables false
set_option linter.unusedSimpArgs false
set_option maxRecDepth 100000
set_option maxHeartbeats 4000000
namespace rowkey_Part
noncomputable def c0 : Code := match Tryd.f15.body with | some c => c | none => .skip
def R (F : List Atom) (x1 : api_Table) (A2 : OA) (k3 : Nat) (A4 : OA) (k5 : Nat) (A6 : OA) (k7 : Nat) (x9 : List api_Value) (A10 : OA) (k11 : Nat) (m12 : Md) (r : api_Span × Int) : Ending → World → Prop := fun e w' => ∃ (A71 : OA), ∃ (k72 : Nat), ∃ (A73 : OA), ∃ (k74 : Nat), e = .returned (.tuple #[.agg #[.slice A71 r.1.From.length k72, .slice A73 r.1.To.length k74], .int .i64 r.2]) ∧ SL ([sl .ro ku8 A71 k72 r.1.From, sl .ro ku8 A73 k74 r.1.To, sl .ro kapi_Column A2 k3 x1.Columns, sl .ro ki64 A4 k5 x1.Key, sl .ro kapi_Index A6 k7 x1.Indexes, sl m12 kapi_Value A10 k11 x9] ++ F) w'
def L2 (z : Nat) (x9 : List api_Value) (x13 x14 : api_Limit) : Nat → (List Int) → Int → Option (api_Span × Int)
 | 0, _, _ => none
 | m + 1, x48, x51 => If (decide (x51 < (x9.length : Int))) (Ck (0 ≤ x51 ∧ x51 < (x9.length : Int)) (Bd (rowkey_column.f z (api_Value.mk ((gi dapi_Value x9 x51).Type') ((gi dapi_Value x9 x51).Null) ((gi dapi_Value x9 x51).Int) ((gi dapi_Value x9 x51).Text))) fun x56 => Ck ((x48.length + x56.length) * 1 ≤ 140737488355328) (L2 z x9 x13 x14 m (x48 ++ x56) (wr .i64 (x51 + 1))))) (Bd (rowkey_from.f z x48 (api_Limit.mk x13.Has x13.Open (api_Value.mk x13.Value.Type' x13.Value.Null x13.Value.Int x13.Value.Text)) (api_Limit.mk x14.Has x14.Open (api_Value.mk x14.Value.Type' x14.Value.Null x14.Value.Int x14.Value.Text))) fun x2182 => Bd (rowkey_to.f z x48 (api_Limit.mk x13.Has x13.Open (api_Value.mk x13.Value.Type' x13.Value.Null x13.Value.Int x13.Value.Text)) (api_Limit.mk x14.Has x14.Open (api_Value.mk x14.Value.Type' x14.Value.Null x14.Value.Int x14.Value.Text))) fun x2422 => some ((api_Span.mk x2182 x2422), 0))
def J4 (z : Nat) (q1 : (List api_Value) → Int → Option (api_Span × Int)) (x1 : api_Table) (x8 : Int) (x9 : List api_Value) (x13 x14 : api_Limit) (x27 : List Int) (x38 : Int) (x68 : List api_Value) : Option (api_Span × Int) := q1 x68 (wr .i64 (x38 + 1))
def J3 (z : Nat) (q1 : (List api_Value) → Int → Option (api_Span × Int)) (x1 : api_Table) (x8 : Int) (x9 : List api_Value) (x13 x14 : api_Limit) (x27 : List Int) (x35 : List api_Value) (x38 : Int) : Option (api_Span × Int) := Bd (rowkey_askable.f z x1 x27 ((cut x35 (Int.toNat 0) (Int.toNat (x9.length : Int))) ++ [(api_Value.mk (((gi dapi_Limit [(api_Limit.mk x13.Has x13.Open (api_Value.mk x13.Value.Type' x13.Value.Null x13.Value.Int x13.Value.Text)), (api_Limit.mk x14.Has x14.Open (api_Value.mk x14.Value.Type' x14.Value.Null x14.Value.Int x14.Value.Text))] x38).Value).Type') (((gi dapi_Limit [(api_Limit.mk x13.Has x13.Open (api_Value.mk x13.Value.Type' x13.Value.Null x13.Value.Int x13.Value.Text)), (api_Limit.mk x14.Has x14.Open (api_Value.mk x14.Value.Type' x14.Value.Null x14.Value.Int x14.Value.Text))] x38).Value).Null) (((gi dapi_Limit [(api_Limit.mk x13.Has x13.Open (api_Value.mk x13.Value.Type' x13.Value.Null x13.Value.Int x13.Value.Text)), (api_Limit.mk x14.Has x14.Open (api_Value.mk x14.Value.Type' x14.Value.Null x14.Value.Int x14.Value.Text))] x38).Value).Int) (((gi dapi_Limit [(api_Limit.mk x13.Has x13.Open (api_Value.mk x13.Value.Type' x13.Value.Null x13.Value.Int x13.Value.Text)), (api_Limit.mk x14.Has x14.Open (api_Value.mk x14.Value.Type' x14.Value.Null x14.Value.Int x14.Value.Text))] x38).Value).Text))])) fun x66 => If (!x66) (some ((api_Span.mk ([] : List Int) ([] : List Int)), 1)) (J4 z q1 x1 x8 x9 x13 x14 x27 x38 ((cut x35 (Int.toNat 0) (Int.toNat (x9.length : Int))) ++ [(api_Value.mk (((gi dapi_Limit [(api_Limit.mk x13.Has x13.Open (api_Value.mk x13.Value.Type' x13.Value.Null x13.Value.Int x13.Value.Text)), (api_Limit.mk x14.Has x14.Open (api_Value.mk x14.Value.Type' x14.Value.Null x14.Value.Int x14.Value.Text))] x38).Value).Type') (((gi dapi_Limit [(api_Limit.mk x13.Has x13.Open (api_Value.mk x13.Value.Type' x13.Value.Null x13.Value.Int x13.Value.Text)), (api_Limit.mk x14.Has x14.Open (api_Value.mk x14.Value.Type' x14.Value.Null x14.Value.Int x14.Value.Text))] x38).Value).Null) (((gi dapi_Limit [(api_Limit.mk x13.Has x13.Open (api_Value.mk x13.Value.Type' x13.Value.Null x13.Value.Int x13.Value.Text)), (api_Limit.mk x14.Has x14.Open (api_Value.mk x14.Value.Type' x14.Value.Null x14.Value.Int x14.Value.Text))] x38).Value).Int) (((gi dapi_Limit [(api_Limit.mk x13.Has x13.Open (api_Value.mk x13.Value.Type' x13.Value.Null x13.Value.Int x13.Value.Text)), (api_Limit.mk x14.Has x14.Open (api_Value.mk x14.Value.Type' x14.Value.Null x14.Value.Int x14.Value.Text))] x38).Value).Text))]))
def L1 (z : Nat) (x1 : api_Table) (x8 : Int) (x9 : List api_Value) (x13 x14 : api_Limit) (x27 : List Int) : Nat → (List api_Value) → Int → Option (api_Span × Int)
 | 0, _, _ => none
 | m + 1, x35, x38 => If (decide (x38 < (2 : Int))) (Ck (0 ≤ x38 ∧ x38 < ([(api_Limit.mk x13.Has x13.Open (api_Value.mk x13.Value.Type' x13.Value.Null x13.Value.Int x13.Value.Text)), (api_Limit.mk x14.Has x14.Open (api_Value.mk x14.Value.Type' x14.Value.Null x14.Value.Int x14.Value.Text))].length : Int)) (If ((gi dapi_Limit [(api_Limit.mk x13.Has x13.Open (api_Value.mk x13.Value.Type' x13.Value.Null x13.Value.Int x13.Value.Text)), (api_Limit.mk x14.Has x14.Open (api_Value.mk x14.Value.Type' x14.Value.Null x14.Value.Int x14.Value.Text))] x38).Has) (Ck (0 ≤ (x9.length : Int) ∧ (x9.length : Int) ≤ (x35.length : Int)) (Ck (((cut x35 (Int.toNat 0) (Int.toNat (x9.length : Int))).length + [(api_Value.mk (((gi dapi_Limit [(api_Limit.mk x13.Has x13.Open (api_Value.mk x13.Value.Type' x13.Value.Null x13.Value.Int x13.Value.Text)), (api_Limit.mk x14.Has x14.Open (api_Value.mk x14.Value.Type' x14.Value.Null x14.Value.Int x14.Value.Text))] x38).Value).Type') (((gi dapi_Limit [(api_Limit.mk x13.Has x13.Open (api_Value.mk x13.Value.Type' x13.Value.Null x13.Value.Int x13.Value.Text)), (api_Limit.mk x14.Has x14.Open (api_Value.mk x14.Value.Type' x14.Value.Null x14.Value.Int x14.Value.Text))] x38).Value).Null) (((gi dapi_Limit [(api_Limit.mk x13.Has x13.Open (api_Value.mk x13.Value.Type' x13.Value.Null x13.Value.Int x13.Value.Text)), (api_Limit.mk x14.Has x14.Open (api_Value.mk x14.Value.Type' x14.Value.Null x14.Value.Int x14.Value.Text))] x38).Value).Int) (((gi dapi_Limit [(api_Limit.mk x13.Has x13.Open (api_Value.mk x13.Value.Type' x13.Value.Null x13.Value.Int x13.Value.Text)), (api_Limit.mk x14.Has x14.Open (api_Value.mk x14.Value.Type' x14.Value.Null x14.Value.Int x14.Value.Text))] x38).Value).Text))].length) * 40 ≤ 140737488355328) (J3 z (L1 z x1 x8 x9 x13 x14 x27 m) x1 x8 x9 x13 x14 x27 x35 x38))) (J4 z (L1 z x1 x8 x9 x13 x14 x27 m) x1 x8 x9 x13 x14 x27 x38 x35))) (Bd (rowkey_askable.f z x1 x27 x9) fun x41 => If (!x41) (some ((api_Span.mk ([] : List Int) ([] : List Int)), 1)) (Bd (rowkey_begin.f z [x1.Id, x8]) fun x45 => L2 z x9 x13 x14 z x45 0))
def J0 (z : Nat) (x1 : api_Table) (x8 : Int) (x9 : List api_Value) (x13 x14 : api_Limit) (x27 : List Int) : Option (api_Span × Int) := Bd (slices_Clone_cormorant_api_Value.f x9) fun x31 => L1 z x1 x8 x9 x13 x14 x27 z x31 0
def f (z : Nat) (x1 : api_Table) (x8 : Int) (x9 : List api_Value) (x13 x14 : api_Limit) : Option (api_Span × Int) := If (x8 != 1) (Bd (slices_IndexFunc_cormorant_api_Index_at40.f z x1.Indexes x8) fun x22 => If (decide (x22 < 0)) (some ((api_Span.mk ([] : List Int) ([] : List Int)), 1)) (Ck (0 ≤ x22 ∧ x22 < (x1.Indexes.length : Int)) (J0 z x1 x8 x9 x13 x14 ((gi dapi_Index x1.Indexes x22).Columns)))) (J0 z x1 x8 x9 x13 x14 x1.Key)
noncomputable def ptL2 : List Item := [.code (cB (cB (cR (cL (cr 7 c0))))), .inLoop (cB (cB (cR (cL (cr 7 c0))))), .inBlock 2, .code (cr 8 c0)]
noncomputable def ptJ4 : List Item := [.code (cr 3 (cB (cB (cR (cL (cr 4 c0)))))), .inLoop (cB (cB (cR (cL (cr 4 c0))))), .inBlock 0, .code (cr 5 c0)]
noncomputable def ptJ3 : List Item := [.code (cL (cR (cT (cR (cR (cB (cL (cR (cR (cB (cB (cR (cL (cr 4 c0)))))))))))))), .code (cR (cR (cT (cR (cR (cB (cL (cR (cR (cB (cB (cR (cL (cr 4 c0)))))))))))))), .inBlock 1, .code (cr 3 (cB (cB (cR (cL (cr 4 c0)))))), .inLoop (cB (cB (cR (cL (cr 4 c0))))), .inBlock 0, .code (cr 5 c0)]
noncomputable def ptL1 : List Item := [.code (cB (cB (cR (cL (cr 4 c0))))), .inLoop (cB (cB (cR (cL (cr 4 c0))))), .inBlock 0, .code (cr 5 c0)]
noncomputable def ptJ0 : List Item := [.code (cL (cr 3 c0)), .code (cr 4 c0)]
abbrev y0 (x13 x14 : api_Limit) (x38 : Int) : api_Value := (api_Value.mk (((gi dapi_Limit [(api_Limit.mk x13.Has x13.Open (api_Value.mk x13.Value.Type' x13.Value.Null x13.Value.Int x13.Value.Text)), (api_Limit.mk x14.Has x14.Open (api_Value.mk x14.Value.Type' x14.Value.Null x14.Value.Int x14.Value.Text))] x38).Value).Type') (((gi dapi_Limit [(api_Limit.mk x13.Has x13.Open (api_Value.mk x13.Value.Type' x13.Value.Null x13.Value.Int x13.Value.Text)), (api_Limit.mk x14.Has x14.Open (api_Value.mk x14.Value.Type' x14.Value.Null x14.Value.Int x14.Value.Text))] x38).Value).Null) (((gi dapi_Limit [(api_Limit.mk x13.Has x13.Open (api_Value.mk x13.Value.Type' x13.Value.Null x13.Value.Int x13.Value.Text)), (api_Limit.mk x14.Has x14.Open (api_Value.mk x14.Value.Type' x14.Value.Null x14.Value.Int x14.Value.Text))] x38).Value).Int) (((gi dapi_Limit [(api_Limit.mk x13.Has x13.Open (api_Value.mk x13.Value.Type' x13.Value.Null x13.Value.Int x13.Value.Text)), (api_Limit.mk x14.Has x14.Open (api_Value.mk x14.Value.Type' x14.Value.Null x14.Value.Int x14.Value.Text))] x38).Value).Text))
abbrev y1 (x13 x14 : api_Limit) (x38 : Int) : List Value := [.bool ((gi dapi_Limit [(api_Limit.mk x13.Has x13.Open (api_Value.mk x13.Value.Type' x13.Value.Null x13.Value.Int x13.Value.Text)), (api_Limit.mk x14.Has x14.Open (api_Value.mk x14.Value.Type' x14.Value.Null x14.Value.Int x14.Value.Text))] x38).Has), .bool ((gi dapi_Limit [(api_Limit.mk x13.Has x13.Open (api_Value.mk x13.Value.Type' x13.Value.Null x13.Value.Int x13.Value.Text)), (api_Limit.mk x14.Has x14.Open (api_Value.mk x14.Value.Type' x14.Value.Null x14.Value.Int x14.Value.Text))] x38).Open), .int .i64 (((gi dapi_Limit [(api_Limit.mk x13.Has x13.Open (api_Value.mk x13.Value.Type' x13.Value.Null x13.Value.Int x13.Value.Text)), (api_Limit.mk x14.Has x14.Open (api_Value.mk x14.Value.Type' x14.Value.Null x14.Value.Int x14.Value.Text))] x38).Value).Type'), .bool (((gi dapi_Limit [(api_Limit.mk x13.Has x13.Open (api_Value.mk x13.Value.Type' x13.Value.Null x13.Value.Int x13.Value.Text)), (api_Limit.mk x14.Has x14.Open (api_Value.mk x14.Value.Type' x14.Value.Null x14.Value.Int x14.Value.Text))] x38).Value).Null), .int .i64 (((gi dapi_Limit [(api_Limit.mk x13.Has x13.Open (api_Value.mk x13.Value.Type' x13.Value.Null x13.Value.Int x13.Value.Text)), (api_Limit.mk x14.Has x14.Open (api_Value.mk x14.Value.Type' x14.Value.Null x14.Value.Int x14.Value.Text))] x38).Value).Int), .string (((gi dapi_Limit [(api_Limit.mk x13.Has x13.Open (api_Value.mk x13.Value.Type' x13.Value.Null x13.Value.Int x13.Value.Text)), (api_Limit.mk x14.Has x14.Open (api_Value.mk x14.Value.Type' x14.Value.Null x14.Value.Int x14.Value.Text))] x38).Value).Text)]
abbrev y2 (x13 : api_Limit) : api_Limit := (api_Limit.mk x13.Has x13.Open (api_Value.mk x13.Value.Type' x13.Value.Null x13.Value.Int x13.Value.Text))
abbrev y3 (x14 : api_Limit) : api_Limit := (api_Limit.mk x14.Has x14.Open (api_Value.mk x14.Value.Type' x14.Value.Null x14.Value.Int x14.Value.Text))
abbrev y4 (x13 : api_Limit) : List Value := [.bool x13.Has, .bool x13.Open, .int .i64 x13.Value.Type', .bool x13.Value.Null, .int .i64 x13.Value.Int, .string x13.Value.Text]
abbrev y5 (x14 : api_Limit) : List Value := [.bool x14.Has, .bool x14.Open, .int .i64 x14.Value.Type', .bool x14.Value.Null, .int .i64 x14.Value.Int, .string x14.Value.Text]
abbrev y6 (x1 : api_Table) (A2 : OA) (k3 : Nat) (A4 : OA) (k5 : Nat) (A6 : OA) (k7 : Nat) : List Value := [.int .i64 x1.Id, .string x1.Name, .slice A2 x1.Columns.length k3, .slice A4 x1.Key.length k5, .slice A6 x1.Indexes.length k7]
abbrev y7 (x13 x14 : api_Limit) (x38 : Int) : Value := .agg #[.int .i64 (((gi dapi_Limit [(y2 x13), (y3 x14)] x38).Value).Type'), .bool (((gi dapi_Limit [(y2 x13), (y3 x14)] x38).Value).Null), .int .i64 (((gi dapi_Limit [(y2 x13), (y3 x14)] x38).Value).Int), .string (((gi dapi_Limit [(y2 x13), (y3 x14)] x38).Value).Text)]
abbrev y8 (b19 : Nat) : Atom := blk b19 [.slice none 0 0, .slice none 0 0]
abbrev y9 (b34 : Nat) (x13 x14 : api_Limit) : Atom := sl .own kapi_Limit (some ⟨b34, 0, none⟩) 2 [(y2 x13), (y3 x14)]
abbrev y10 (A2 : OA) (k3 : Nat) (x1 : api_Table) : Atom := sl .ro kapi_Column A2 k3 x1.Columns
abbrev y11 (A6 : OA) (k7 : Nat) (x1 : api_Table) : Atom := sl .ro kapi_Index A6 k7 x1.Indexes
abbrev y12 (x13 : api_Limit) : Value := .agg #[.bool x13.Has, .bool x13.Open, .int .i64 x13.Value.Type', .bool x13.Value.Null, .int .i64 x13.Value.Int, .string x13.Value.Text]
abbrev y13 (x14 : api_Limit) : Value := .agg #[.bool x14.Has, .bool x14.Open, .int .i64 x14.Value.Type', .bool x14.Value.Null, .int .i64 x14.Value.Int, .string x14.Value.Text]
abbrev y14 (x13 x14 : api_Limit) (x38 : Int) : List Value := [.int .i64 (((gi dapi_Limit [(y2 x13), (y3 x14)] x38).Value).Type'), .bool (((gi dapi_Limit [(y2 x13), (y3 x14)] x38).Value).Null), .int .i64 (((gi dapi_Limit [(y2 x13), (y3 x14)] x38).Value).Int), .string (((gi dapi_Limit [(y2 x13), (y3 x14)] x38).Value).Text)]
abbrev y15 (A4 : OA) (k5 : Nat) (x1 : api_Table) : Atom := sl .ro ki64 A4 k5 x1.Key
abbrev y16 (A3081 : OA) (k3082 : Nat) (x35 x9 : List api_Value) (x13 x14 : api_Limit) (x38 : Int) : Atom := sl .own kapi_Value A3081 k3082 ((cut x35 (Int.toNat 0) (Int.toNat (x9.length : Int))) ++ [(y0 x13 x14 x38)])
abbrev y17 (x9 : List api_Value) (x51 : Int) : List Value := [.int .i64 ((gi dapi_Value x9 x51).Type'), .bool ((gi dapi_Value x9 x51).Null), .int .i64 ((gi dapi_Value x9 x51).Int), .string ((gi dapi_Value x9 x51).Text)]
abbrev y18 (A2843 : OA) (k37 : Nat) (x35 x9 : List api_Value) : Atom := sl .own kapi_Value A2843 (Int.toNat (k37 : Int) - Int.toNat 0) (cut x35 (Int.toNat 0) (Int.toNat (x9.length : Int)))
abbrev y19 (m12 : Md) (A10 : OA) (k11 : Nat) (x9 : List api_Value) : Atom := sl m12 kapi_Value A10 k11 x9
abbrev y20 (A10 : OA) (x9 : List api_Value) (k11 b15 b16 b17 b18 b19 : Nat) (A28 : OA) (x27 : List Int) (k29 : Nat) (A3081 : OA) (x35 : List api_Value) (x13 x14 : api_Limit) (x38 : Int) (k3082 b34 : Nat) : List (Nat × Value) := [(2, .slice A10 x9.length k11), (5, .pointer (some ⟨b15, 0, none⟩)), (6, .pointer (some ⟨b16, 0, none⟩)), (8, .pointer (some ⟨b17, 0, none⟩)), (9, .pointer (some ⟨b18, 0, none⟩)), (10, .pointer (some ⟨b19, 0, none⟩)), (12, .slice A28 x27.length k29), (14, .slice A3081 (((cut x35 (Int.toNat 0) (Int.toNat (x9.length : Int))) ++ [(y0 x13 x14 x38)]).length) k3082), (41, .slice (some ⟨b34, 0, none⟩) 2 2), (42, .int .i64 (2 : Int)), (43, .int .i64 x38)]
abbrev y21 (A10 : OA) (x9 : List api_Value) (k11 b15 b16 b17 b18 b19 : Nat) (A28 : OA) (x27 : List Int) (k29 : Nat) (A36 : OA) (x35 : List api_Value) (k37 b34 : Nat) (x38 : Int) : List (Nat × Value) := [(2, .slice A10 x9.length k11), (5, .pointer (some ⟨b15, 0, none⟩)), (6, .pointer (some ⟨b16, 0, none⟩)), (8, .pointer (some ⟨b17, 0, none⟩)), (9, .pointer (some ⟨b18, 0, none⟩)), (10, .pointer (some ⟨b19, 0, none⟩)), (12, .slice A28 x27.length k29), (14, .slice A36 x35.length k37), (41, .slice (some ⟨b34, 0, none⟩) 2 2), (42, .int .i64 (2 : Int)), (43, .int .i64 x38)]
abbrev y22 (b3021 : Nat) (x13 x14 : api_Limit) (x38 : Int) : Atom := sl .own kapi_Value (some ⟨b3021, 0, none⟩) 1 [(y0 x13 x14 x38)]
abbrev y23 (A2843 : OA) (x35 x9 : List api_Value) (k37 : Nat) : Option (Value × Bool) := some (.slice A2843 ((cut x35 (Int.toNat 0) (Int.toNat (x9.length : Int))).length) (Int.toNat (k37 : Int) - Int.toNat 0), false)
abbrev y24 (b63 : Nat) : Option (Value × Bool) := some (.pointer (some ⟨b63, 2, none⟩), true)
theorem L2_ok (F : List Atom) (r : api_Span × Int) (z : Nat) (x1 : api_Table) (A2 : OA) (k3 : Nat) (A4 : OA) (k5 : Nat) (A6 : OA) (k7 : Nat) (x9 : List api_Value) (A10 : OA) (k11 : Nat) (m12 : Md) (b17 b18 b19 : Nat) (x13 x14 : api_Limit) (x8 : Int) (m : Nat) : ∀ (A49 : OA) (x48 : List Int) (k50 : Nat) (x51 : Int) (a : Act) (w : World), Tm 95 [(8, .pointer (some ⟨b17, 0, none⟩)), (9, .pointer (some ⟨b18, 0, none⟩)), (10, .pointer (some ⟨b19, 0, none⟩)), (17, .slice A49 x48.length k50), (75, .slice A10 x9.length k11), (76, .int .i64 (x9.length : Int)), (77, .int .i64 x51)] a → SL ([(y10 A2 k3 x1), (y15 A4 k5 x1), (y11 A6 k7 x1), (y19 m12 A10 k11 x9), blk b17 (y4 x13), blk b18 (y5 x14), (y8 b19), sl .own ku8 A49 k50 x48] ++ F) w → L2 z x9 x13 x14 m x48 x51 = some r → Gets Tryd.prog 15 ptL2 a w (R F x1 A2 k3 A4 k5 A6 k7 x9 A10 k11 m12 r) := by
 induction m with
 | zero => intro _ _ _ _ _ _ _ _ H; cases H
 | succ m ih =>
  intro A49 x48 k50 x51 a w T S H
  refine Gets.seq (rg (r_pv T rfl rfl fun _ T => Gets.seq ?_))
  rcases ifE H with ⟨h52, H⟩ | ⟨h52, H⟩
  ·refine cdT T rfl h52 ?_
   refine Gets.skip (Gets.seq (Gets.block (Gets.seq ?_)))
   refine rg ?_
   obtain ⟨h53, H⟩ := ck H
   refine r_ia (ix := 3) T S rfl rfl rfl rfl Tryd.runUnderlying27 Tryd.sizeOf43 h53.1 h53.2 rfl fun _ T => r_ldEP (ix := 3) (i := x51) (off := 0) (f := pf_api_Value) T S rfl rfl Tryd.isAgg43 Tryd.sizeOf43 dapi_Value rfl (Fld.all _) h53.1 h53.2 pl_api_Value rfl fun _ T => r_alloc T S zv43 (cs := [.int .i64 0, .bool false, .int .i64 0, .string (⟨#[]⟩ : ByteArray)]) rfl rfl fun _ _ b54 S T => r_stBA (ix := 0) (vs := (y17 x9 x51)) (l' := [blk b54 (y17 x9 x51), (y10 A2 k3 x1), (y15 A4 k5 x1), (y11 A6 k7 x1), (y19 m12 A10 k11 x9), blk b17 (y4 x13), blk b18 (y5 x14), (y8 b19), sl .own ku8 A49 k50 x48]) T S rfl rfl rfl rfl (by simp) Tryd.sizeOf43 (Nat.le_of_ble_eq_true rfl) rfl fun _ S => ?_
   refine rg (r_pv T rfl rfl fun _ T => r_ldBA (ix := 0) (ds := (y17 x9 x51)) T S rfl Tryd.isAgg43 rfl rfl Tryd.sizeOf43 rfl fun _ T => ?_)
   obtain ⟨x56, h55, H⟩ := bd H
   refine r_call T Tryd.call43 rfl rfl (rowkey_column.ok _ _ z (api_Value.mk ((gi dapi_Value x9 x51).Type') ((gi dapi_Value x9 x51).Null) ((gi dapi_Value x9 x51).Int) ((gi dapi_Value x9 x51).Text)) (S.sel (p := []) (is := []) rfl) _ h55) ?_
   rintro _ _ ⟨A57, k58, rfl, S⟩
   refine ⟨_, rfl, fun _ T => ?_⟩
   replace S : SL ([sl .own ku8 A57 k58 x56, blk b54 (y17 x9 x51), (y10 A2 k3 x1), (y15 A4 k5 x1), (y11 A6 k7 x1), (y19 m12 A10 k11 x9), blk b17 (y4 x13), blk b18 (y5 x14), (y8 b19), sl .own ku8 A49 k50 x48] ++ F) _ := S.join
   obtain ⟨h61, H⟩ := ck H
   refine r_app (ix := 9) (iy := 0) (xs := x48) (ys := x56) T S rfl rfl rfl rfl (by decide) sty29 Tryd.runUnderlying29 (by decide) h61 rfl fun _ _ A59 k60 S T => ?_
   replace S : SL ([sl .own ku8 A57 k58 x56, blk b54 (y17 x9 x51), (y10 A2 k3 x1), (y15 A4 k5 x1), (y11 A6 k7 x1), (y19 m12 A10 k11 x9), blk b17 (y4 x13), blk b18 (y5 x14), (y8 b19), sl .own ku8 A59 k60 (x48 ++ x56)] ++ F) _ := S
   refine r_pv T rfl rfl fun _ T => Gets.inBlock (rg (r_pv T rfl rfl fun _ T => ?_))
   refine r_pv T rfl rfl fun _ T => Gets.inLoop ?_
   exact ih A59 (x48 ++ x56) k60 (wr .i64 (x51 + 1)) _ _ (T.sub ⟨rfl, rfl, rfl, rfl, rfl, rfl, rfl, trivial⟩) (S.only (p := [(y10 A2 k3 x1), (y15 A4 k5 x1), (y11 A6 k7 x1), (y19 m12 A10 k11 x9), blk b17 (y4 x13), blk b18 (y5 x14), (y8 b19), sl .own ku8 A59 k60 (x48 ++ x56)]) [2, 2, 2, 2, 2, 2, 2, 2] rfl) H
  ·refine cdF T rfl h52 ?_
   refine Gets.exit rfl (Gets.seq ?_)
   refine Gets.drawn (l := [(y10 A2 k3 x1), (y15 A4 k5 x1), (y11 A6 k7 x1), (y19 m12 A10 k11 x9), blk b17 (y4 x13), blk b18 (y5 x14), (y8 b19), sl .own ku8 A49 k50 x48]) (V := [some (.slice A49 x48.length k50, true), some ((y12 x13), true), some ((y13 x14), true), none, some (.slice A49 x48.length k50, true), some ((y12 x13), true), some ((y13 x14), true), none, none, none, none]) mixed T S rfl ?_
   refine stage (some 3) rfl rfl ⟨⟨_, _, rfl, (avl [17] rfl), fun _ _ _ T S => r_pv T rfl rfl fun _ T => ⟨rfl, T⟩⟩, ⟨_, _, rfl, (avl [8] rfl), fun _ _ _ T S => r_ldBA (ix := 4) (ds := (y4 x13)) T S rfl Tryd.isAgg54 rfl rfl Tryd.sizeOf54 rfl fun _ T => ⟨rfl, T⟩⟩, ⟨_, _, rfl, (avl [9] rfl), fun _ _ _ T S => r_ldBA (ix := 5) (ds := (y5 x14)) T S rfl Tryd.isAgg54 rfl rfl Tryd.sizeOf54 rfl fun _ T => ⟨rfl, T⟩⟩, ⟨_, _, rfl, (avl [17] rfl), fun _ _ _ T S => r_pv T rfl rfl fun _ T => ⟨rfl, T⟩⟩, ⟨_, _, rfl, (avl [8] rfl), fun _ _ _ T S => r_ldBA (ix := 4) (ds := (y4 x13)) T S rfl Tryd.isAgg54 rfl rfl Tryd.sizeOf54 rfl fun _ T => ⟨rfl, T⟩⟩, ⟨_, _, rfl, (avl [9] rfl), fun _ _ _ T S => r_ldBA (ix := 5) (ds := (y5 x14)) T S rfl Tryd.isAgg54 rfl rfl Tryd.sizeOf54 rfl fun _ T => ⟨rfl, T⟩⟩, trivial⟩ rfl (fun i hi => ?_) (fun h => by cases h)
   cases hi
   refine ⟨rfl, _, _, rfl, (avl [86, 87, 88] rfl), fun u a w T S => ?_⟩
   replace S : SL ([(y10 A2 k3 x1), (y15 A4 k5 x1), (y11 A6 k7 x1), (y19 m12 A10 k11 x9), blk b17 (y4 x13), blk b18 (y5 x14), (y8 b19), sl .ro ku8 A49 k50 x48] ++ F) _ := S.fixL (i := 7) rfl rfl
   obtain ⟨x2182, h2181, H⟩ := bd H
   refine r_call T Tryd.call44 rfl rfl (rowkey_from.ok _ _ z x48 (y2 x13) (y3 x14) (S.sel (p := [sl .ro ku8 A49 k50 x48]) (is := [7]) rfl) _ h2181) ?_
   rintro _ _ ⟨A2183, k2184, rfl, S⟩
   refine ⟨_, rfl, fun _ T => ?_⟩
   replace S : SL ([sl .own ku8 A2183 k2184 x2182, sl .ro ku8 A49 k50 x48, (y10 A2 k3 x1), (y15 A4 k5 x1), (y11 A6 k7 x1), (y19 m12 A10 k11 x9), blk b17 (y4 x13), blk b18 (y5 x14), (y8 b19)] ++ F) _ := S.join
   refine ⟨_, [some (.slice A49 x48.length k50, false), some ((y12 x13), false), some ((y13 x14), false), some (.slice A2183 x2182.length k2184, false), some (.slice A49 x48.length k50, true), some ((y12 x13), true), some ((y13 x14), true), none, none, none, none], [sl .own ku8 A2183 k2184 x2182, sl .ro ku8 A49 k50 x48, (y10 A2 k3 x1), (y15 A4 k5 x1), (y11 A6 k7 x1), (y19 m12 A10 k11 x9), blk b17 (y4 x13), blk b18 (y5 x14), (y8 b19)], rfl, (by repeat first | exact kx0 | apply kxs | apply kxn), rfl, ?_, T, S⟩
   refine stage (some 7) rfl rfl ⟨⟨_, _, rfl, (avl [17] rfl), fun _ _ _ T S => r_pv T rfl rfl fun _ T => ⟨rfl, T⟩⟩, ⟨_, _, rfl, (avl [8] rfl), fun _ _ _ T S => r_ldBA (ix := 6) (ds := (y4 x13)) T S rfl Tryd.isAgg54 rfl rfl Tryd.sizeOf54 rfl fun _ T => ⟨rfl, T⟩⟩, ⟨_, _, rfl, (avl [9] rfl), fun _ _ _ T S => r_ldBA (ix := 7) (ds := (y5 x14)) T S rfl Tryd.isAgg54 rfl rfl Tryd.sizeOf54 rfl fun _ T => ⟨rfl, T⟩⟩, trivial⟩ rfl (fun i hi => ?_) (fun h => by cases h)
   cases hi
   refine ⟨rfl, _, _, rfl, (avl [90, 91, 92] rfl), fun u a w T S => ?_⟩
   obtain ⟨x2422, h2421, H⟩ := bd H
   refine r_call T Tryd.call45 rfl rfl (rowkey_to.ok _ _ z x48 (y2 x13) (y3 x14) (S.sel (p := [sl .ro ku8 A49 k50 x48]) (is := [1]) rfl) _ h2421) ?_
   rintro _ _ ⟨A2423, k2424, rfl, S⟩
   refine ⟨_, rfl, fun _ T => ?_⟩
   replace S : SL ([sl .own ku8 A2423 k2424 x2422, sl .ro ku8 A49 k50 x48, sl .own ku8 A2183 k2184 x2182, (y10 A2 k3 x1), (y15 A4 k5 x1), (y11 A6 k7 x1), (y19 m12 A10 k11 x9), blk b17 (y4 x13), blk b18 (y5 x14), (y8 b19)] ++ F) _ := S.join
   refine ⟨_, [some (.slice A49 x48.length k50, false), some ((y12 x13), false), some ((y13 x14), false), some (.slice A2183 x2182.length k2184, false), some (.slice A49 x48.length k50, false), some ((y12 x13), false), some ((y13 x14), false), some (.slice A2423 x2422.length k2424, false), some (.agg #[.slice A2183 x2182.length k2184, .slice A2423 x2422.length k2424], true), none, none], [sl .own ku8 A2423 k2424 x2422, sl .ro ku8 A49 k50 x48, sl .own ku8 A2183 k2184 x2182, (y10 A2 k3 x1), (y15 A4 k5 x1), (y11 A6 k7 x1), (y19 m12 A10 k11 x9), blk b17 (y4 x13), blk b18 (y5 x14), (y8 b19)], rfl, (by repeat first | exact kx0 | apply kxs | apply kxn), rfl, ?_, T, S⟩
   refine stage (some 9) rfl rfl ⟨⟨_, _, rfl, (avl [89, 93] rfl), fun _ _ _ T S => r_build (cs := #[.slice A2183 x2182.length k2184, .slice A2423 x2422.length k2424]) T stt50 rfl rfl rfl fun _ T => ⟨rfl, T⟩⟩, trivial⟩ rfl (fun i hi => ?_) (fun h => by cases h)
   cases hi
   refine ⟨rfl, _, _, rfl, (avl [10, 94] rfl), fun u a w T S => ?_⟩
   refine r_stBA (ix := 9) (vs := [.slice A2183 x2182.length k2184, .slice A2423 x2422.length k2424]) (l' := [sl .own ku8 A2423 k2424 x2422, sl .ro ku8 A49 k50 x48, sl .own ku8 A2183 k2184 x2182, (y10 A2 k3 x1), (y15 A4 k5 x1), (y11 A6 k7 x1), (y19 m12 A10 k11 x9), blk b17 (y4 x13), blk b18 (y5 x14), blk b19 [.slice A2183 x2182.length k2184, .slice A2423 x2422.length k2424]]) T S rfl rfl rfl rfl (by simp) Tryd.sizeOf50 (Nat.le_of_ble_eq_true rfl) rfl fun _ S => ?_
   refine ⟨_, [some (.slice A49 x48.length k50, false), some ((y12 x13), false), some ((y13 x14), false), some (.slice A2183 x2182.length k2184, false), some (.slice A49 x48.length k50, false), some ((y12 x13), false), some ((y13 x14), false), some (.slice A2423 x2422.length k2424, false), some (.agg #[.slice A2183 x2182.length k2184, .slice A2423 x2422.length k2424], false), some (undef, false), some (.int .i64 0, true)], [sl .own ku8 A2423 k2424 x2422, sl .ro ku8 A49 k50 x48, sl .own ku8 A2183 k2184 x2182, (y10 A2 k3 x1), (y15 A4 k5 x1), (y11 A6 k7 x1), (y19 m12 A10 k11 x9), blk b17 (y4 x13), blk b18 (y5 x14), blk b19 [.slice A2183 x2182.length k2184, .slice A2423 x2422.length k2424]], rfl, (by repeat first | exact kx0 | apply kxs | apply kxn), rfl, ?_, T, S⟩
   refine stage none rfl rfl ⟨⟨_, [], rfl, trivial, fun _ _ _ T S => r_pv T rfl rfl fun _ T => ⟨rfl, T⟩⟩, trivial⟩ rfl (fun i hi => by cases hi) (fun _ _ a w T hv hb S => ?_)
   replace T := T.sub (r := [(10, .pointer (some ⟨b19, 0, none⟩)), (11, .int .i64 0)]) ⟨hb 10 _ rfl rfl, hv 10 _ 11 rfl rfl rfl, trivial⟩
   replace S : SL ([sl .own ku8 A2423 k2424 x2422, sl .ro ku8 A49 k50 x48, sl .ro ku8 A2183 k2184 x2182, (y10 A2 k3 x1), (y15 A4 k5 x1), (y11 A6 k7 x1), (y19 m12 A10 k11 x9), blk b17 (y4 x13), blk b18 (y5 x14), blk b19 [.slice A2183 x2182.length k2184, .slice A2423 x2422.length k2424]] ++ F) _ := S.fixL (i := 2) rfl rfl
   replace S : SL ([sl .ro ku8 A2423 k2424 x2422, sl .ro ku8 A49 k50 x48, sl .ro ku8 A2183 k2184 x2182, (y10 A2 k3 x1), (y15 A4 k5 x1), (y11 A6 k7 x1), (y19 m12 A10 k11 x9), blk b17 (y4 x13), blk b18 (y5 x14), blk b19 [.slice A2183 x2182.length k2184, .slice A2423 x2422.length k2424]] ++ F) _ := S.fixL (i := 0) rfl rfl
   replace H := Option.some.inj H
   subst H
   exact rtnM T S Tryd.func15 rfl ⟨_, _, rfl, ⟨b19, _, 9, rfl, rfl, .inl ⟨Tryd.isAgg50, Tryd.sizeOf50, rfl⟩⟩, ⟨_, _, rfl, rfl, rfl⟩⟩ ⟨A2183, k2184, A2423, k2424, rfl, (S.only (p := [sl .ro ku8 A2183 k2184 x2182, sl .ro ku8 A2423 k2424 x2422, (y10 A2 k3 x1), (y15 A4 k5 x1), (y11 A6 k7 x1), (y19 m12 A10 k11 x9)]) [2, 0, 1, 1, 1, 1] rfl)⟩
theorem J4_ok (F : List Atom) (r : api_Span × Int) (z : Nat) (x1 : api_Table) (A2 : OA) (k3 : Nat) (A4 : OA) (k5 : Nat) (A6 : OA) (k7 : Nat) (x9 : List api_Value) (A10 : OA) (k11 : Nat) (m12 : Md) (b15 b16 b17 b18 b19 : Nat) (A28 : OA) (x27 : List Int) (k29 b34 : Nat) (x38 x8 : Int) (x13 x14 : api_Limit) (q1 : (List api_Value) → Int → Option (api_Span × Int)) (hq1 : ∀ (A36 : OA) (x35 : List api_Value) (k37 : Nat) (x38 : Int) (a : Act) (w : World), Tm 95 (y21 A10 x9 k11 b15 b16 b17 b18 b19 A28 x27 k29 A36 x35 k37 b34 x38) a → SL ([(y10 A2 k3 x1), (y15 A4 k5 x1), (y11 A6 k7 x1), (y19 m12 A10 k11 x9), blk b15 (y6 x1 A2 k3 A4 k5 A6 k7), blk b16 [.int .i64 x8], blk b17 (y4 x13), blk b18 (y5 x14), (y8 b19), sl .ro ki64 A28 k29 x27, sl .own kapi_Value A36 k37 x35, (y9 b34 x13 x14)] ++ F) w → q1 x35 x38 = some r → Gets Tryd.prog 15 ptL1 a w (R F x1 A2 k3 A4 k5 A6 k7 x9 A10 k11 m12 r)) (A69 : OA) (x68 : List api_Value) (k70 : Nat) (a : Act) (w : World) (T : Tm 95 [(2, .slice A10 x9.length k11), (5, .pointer (some ⟨b15, 0, none⟩)), (6, .pointer (some ⟨b16, 0, none⟩)), (8, .pointer (some ⟨b17, 0, none⟩)), (9, .pointer (some ⟨b18, 0, none⟩)), (10, .pointer (some ⟨b19, 0, none⟩)), (12, .slice A28 x27.length k29), (14, .slice A69 x68.length k70), (41, .slice (some ⟨b34, 0, none⟩) 2 2), (42, .int .i64 (2 : Int)), (43, .int .i64 x38)] a) (S : SL ([(y10 A2 k3 x1), (y15 A4 k5 x1), (y11 A6 k7 x1), (y19 m12 A10 k11 x9), blk b15 (y6 x1 A2 k3 A4 k5 A6 k7), blk b16 [.int .i64 x8], blk b17 (y4 x13), blk b18 (y5 x14), (y8 b19), sl .ro ki64 A28 k29 x27, sl .own kapi_Value A69 k70 x68, (y9 b34 x13 x14)] ++ F) w) (H : J4 z q1 x1 x8 x9 x13 x14 x27 x38 x68 = some r) : Gets Tryd.prog 15 ptJ4 a w (R F x1 A2 k3 A4 k5 A6 k7 x9 A10 k11 m12 r) := by
 refine rg (r_pv T rfl rfl fun _ T => r_pv T rfl rfl fun _ T => Gets.inLoop ?_)
 have T := T.re (s := 41) (v' := .slice (some ⟨b34, 0, none⟩) [(y2 x13), (y3 x14)].length 2) rfl (by simp)
 exact hq1 A69 x68 k70 (wr .i64 (x38 + 1)) _ _ (T.sub ⟨rfl, rfl, rfl, rfl, rfl, rfl, rfl, rfl, rfl, rfl, rfl, trivial⟩) (S.only (p := [(y10 A2 k3 x1), (y15 A4 k5 x1), (y11 A6 k7 x1), (y19 m12 A10 k11 x9), blk b15 (y6 x1 A2 k3 A4 k5 A6 k7), blk b16 [.int .i64 x8], blk b17 (y4 x13), blk b18 (y5 x14), (y8 b19), sl .ro ki64 A28 k29 x27, sl .own kapi_Value A69 k70 x68, (y9 b34 x13 x14)]) [0, 0, 0, 0, 0, 0, 0, 0, 0, 0, 0, 0] rfl) H
theorem J3_ok (F : List Atom) (r : api_Span × Int) (z : Nat) (x1 : api_Table) (A2 : OA) (k3 : Nat) (A4 : OA) (k5 : Nat) (A6 : OA) (k7 : Nat) (x9 : List api_Value) (A10 : OA) (k11 : Nat) (m12 : Md) (b15 b16 b17 b18 b19 : Nat) (A28 : OA) (x27 : List Int) (k29 : Nat) (A3081 : OA) (x35 : List api_Value) (x13 x14 : api_Limit) (x38 : Int) (k3082 b34 : Nat) (x8 : Int) (q1 : (List api_Value) → Int → Option (api_Span × Int)) (hq1 : ∀ (A36 : OA) (x35 : List api_Value) (k37 : Nat) (x38 : Int) (a : Act) (w : World), Tm 95 (y21 A10 x9 k11 b15 b16 b17 b18 b19 A28 x27 k29 A36 x35 k37 b34 x38) a → SL ([(y10 A2 k3 x1), (y15 A4 k5 x1), (y11 A6 k7 x1), (y19 m12 A10 k11 x9), blk b15 (y6 x1 A2 k3 A4 k5 A6 k7), blk b16 [.int .i64 x8], blk b17 (y4 x13), blk b18 (y5 x14), (y8 b19), sl .ro ki64 A28 k29 x27, sl .own kapi_Value A36 k37 x35, (y9 b34 x13 x14)] ++ F) w → q1 x35 x38 = some r → Gets Tryd.prog 15 ptL1 a w (R F x1 A2 k3 A4 k5 A6 k7 x9 A10 k11 m12 r)) (a : Act) (w : World) (T : Tm 95 (y20 A10 x9 k11 b15 b16 b17 b18 b19 A28 x27 k29 A3081 x35 x13 x14 x38 k3082 b34) a) (S : SL ([(y10 A2 k3 x1), (y15 A4 k5 x1), (y11 A6 k7 x1), (y19 m12 A10 k11 x9), blk b15 (y6 x1 A2 k3 A4 k5 A6 k7), blk b16 [.int .i64 x8], blk b17 (y4 x13), blk b18 (y5 x14), (y8 b19), sl .ro ki64 A28 k29 x27, (y16 A3081 k3082 x35 x9 x13 x14 x38), (y9 b34 x13 x14)] ++ F) w) (H : J3 z q1 x1 x8 x9 x13 x14 x27 x35 x38 = some r) : Gets Tryd.prog 15 ptJ3 a w (R F x1 A2 k3 A4 k5 A6 k7 x9 A10 k11 m12 r) := by
 refine rg (r_ldBA (ix := 4) (ds := (y6 x1 A2 k3 A4 k5 A6 k7)) T S rfl Tryd.isAgg26 rfl rfl Tryd.sizeOf26 rfl fun _ T => r_pv T rfl rfl fun _ T => r_pv T rfl rfl fun _ T => ?_)
 replace S := S.dup (i := 0) rfl
 replace S := S.dup (i := 2) rfl
 replace S := S.dup (i := 4) rfl
 obtain ⟨x66, h65, H⟩ := bd H
 refine r_call T Tryd.call42 rfl rfl (rowkey_askable.ok _ _ z x1 x27 ((cut x35 (Int.toNat 0) (Int.toNat (x9.length : Int))) ++ [(y0 x13 x14 x38)]) (S.sel (p := [(y10 A2 k3 x1), (y15 A4 k5 x1), (y11 A6 k7 x1), sl .ro ki64 A28 k29 x27, (y16 A3081 k3082 x35 x9 x13 x14 x38)]) (is := [2, 1, 0, 9, 9]) rfl) _ h65) ?_
 rintro _ _ ⟨rfl, S⟩
 refine ⟨_, rfl, fun _ T => ?_⟩
 replace S : SL ([sl .ro ki64 A28 k29 x27, (y16 A3081 k3082 x35 x9 x13 x14 x38), (y10 A2 k3 x1), (y15 A4 k5 x1), (y11 A6 k7 x1), (y19 m12 A10 k11 x9), blk b15 (y6 x1 A2 k3 A4 k5 A6 k7), blk b16 [.int .i64 x8], blk b17 (y4 x13), blk b18 (y5 x14), (y8 b19), (y9 b34 x13 x14)] ++ F) _ := S.join.only [3, 3, 3, 3, 3, 3, 3, 3, 3, 3, 3, 3] rfl
 refine r_pv T rfl rfl fun _ T => ?_
 rcases ifE H with ⟨h67, H⟩ | ⟨h67, H⟩
 ·refine cdT T rfl h67 ?_
  refine Gets.seq (rg (r_build (cs := #[.slice none 0 0, .slice none 0 0]) T stt50 rfl rfl rfl fun _ T => r_stBA (ix := 10) (vs := [.slice none 0 0, .slice none 0 0]) (l' := [sl .ro ki64 A28 k29 x27, (y16 A3081 k3082 x35 x9 x13 x14 x38), (y10 A2 k3 x1), (y15 A4 k5 x1), (y11 A6 k7 x1), (y19 m12 A10 k11 x9), blk b15 (y6 x1 A2 k3 A4 k5 A6 k7), blk b16 [.int .i64 x8], blk b17 (y4 x13), blk b18 (y5 x14), (y8 b19), (y9 b34 x13 x14)]) T S rfl rfl rfl rfl (by simp) Tryd.sizeOf50 (Nat.le_of_ble_eq_true rfl) rfl fun _ S => ?_))
  refine r_pv T rfl rfl fun _ T => ?_
  replace S := S.nil ku8 .ro
  replace S := S.nil ku8 .ro
  replace H := Option.some.inj H
  subst H
  exact rtnM T S Tryd.func15 rfl ⟨_, _, rfl, ⟨b19, _, 12, rfl, rfl, .inl ⟨Tryd.isAgg50, Tryd.sizeOf50, rfl⟩⟩, ⟨_, _, rfl, rfl, rfl⟩⟩ ⟨none, 0, none, 0, rfl, (S.only (p := [sl .ro ku8 none 0 ([] : List Int), sl .ro ku8 none 0 ([] : List Int), (y10 A2 k3 x1), (y15 A4 k5 x1), (y11 A6 k7 x1), (y19 m12 A10 k11 x9)]) [1, 0, 2, 2, 2, 2] rfl)⟩
 ·refine cdF T rfl h67 ?_
  refine Gets.skip (Gets.inBlock ?_)
  have T := T.re (s := 41) (v' := .slice (some ⟨b34, 0, none⟩) [(y2 x13), (y3 x14)].length 2) rfl (by simp)
  exact J4_ok F r z x1 A2 k3 A4 k5 A6 k7 x9 A10 k11 m12 b15 b16 b17 b18 b19 A28 x27 k29 b34 x38 x8 x13 x14 q1 hq1 A3081 ((cut x35 (Int.toNat 0) (Int.toNat (x9.length : Int))) ++ [(y0 x13 x14 x38)]) k3082 _ _ (T.sub ⟨rfl, rfl, rfl, rfl, rfl, rfl, rfl, rfl, rfl, rfl, rfl, trivial⟩) (S.only (p := [(y10 A2 k3 x1), (y15 A4 k5 x1), (y11 A6 k7 x1), (y19 m12 A10 k11 x9), blk b15 (y6 x1 A2 k3 A4 k5 A6 k7), blk b16 [.int .i64 x8], blk b17 (y4 x13), blk b18 (y5 x14), (y8 b19), sl .ro ki64 A28 k29 x27, (y16 A3081 k3082 x35 x9 x13 x14 x38), (y9 b34 x13 x14)]) [2, 2, 2, 2, 2, 2, 2, 2, 2, 0, 0, 0] rfl) H
theorem L1_ok (F : List Atom) (r : api_Span × Int) (z : Nat) (x1 : api_Table) (A2 : OA) (k3 : Nat) (A4 : OA) (k5 : Nat) (A6 : OA) (k7 : Nat) (x9 : List api_Value) (A10 : OA) (k11 : Nat) (m12 : Md) (b15 b16 b17 b18 b19 : Nat) (A28 : OA) (x27 : List Int) (k29 b34 : Nat) (x8 : Int) (x13 x14 : api_Limit) (m : Nat) : ∀ (A36 : OA) (x35 : List api_Value) (k37 : Nat) (x38 : Int) (a : Act) (w : World), Tm 95 (y21 A10 x9 k11 b15 b16 b17 b18 b19 A28 x27 k29 A36 x35 k37 b34 x38) a → SL ([(y10 A2 k3 x1), (y15 A4 k5 x1), (y11 A6 k7 x1), (y19 m12 A10 k11 x9), blk b15 (y6 x1 A2 k3 A4 k5 A6 k7), blk b16 [.int .i64 x8], blk b17 (y4 x13), blk b18 (y5 x14), (y8 b19), sl .ro ki64 A28 k29 x27, sl .own kapi_Value A36 k37 x35, (y9 b34 x13 x14)] ++ F) w → L1 z x1 x8 x9 x13 x14 x27 m x35 x38 = some r → Gets Tryd.prog 15 ptL1 a w (R F x1 A2 k3 A4 k5 A6 k7 x9 A10 k11 m12 r) := by
 induction m with
 | zero => intro _ _ _ _ _ _ _ _ H; cases H
 | succ m ih =>
  intro A36 x35 k37 x38 a w T S H
  refine Gets.seq (rg (r_pv T rfl rfl fun _ T => Gets.seq ?_))
  rcases ifE H with ⟨h39, H⟩ | ⟨h39, H⟩
  ·refine cdT T rfl h39 ?_
   refine Gets.skip (Gets.seq (Gets.block (Gets.seq ?_)))
   refine rg ?_
   obtain ⟨h62, H⟩ := ck H
   refine r_ia (ix := 11) T S rfl rfl rfl (by simp) Tryd.runUnderlying84 Tryd.sizeOf54 h62.1 h62.2 rfl fun _ T => ?_
   refine r_ldEA (ix := 11) (i := x38) (off := 0) T S rfl rfl Tryd.isAgg54 Tryd.sizeOf54 dapi_Limit rfl (Fld.all _) h62.1 h62.2 rfl fun _ _ S T => ?_
   obtain ⟨hv_, S_⟩ := op_api_Limit S
   subst hv_
   replace S := S_
   refine r_alloc T S zv54 (cs := [.bool false, .bool false, .int .i64 0, .bool false, .int .i64 0, .string (⟨#[]⟩ : ByteArray)]) rfl rfl fun _ _ b63 S T => r_stBA (ix := 0) (vs := (y1 x13 x14 x38)) (l' := [blk b63 (y1 x13 x14 x38), (y10 A2 k3 x1), (y15 A4 k5 x1), (y11 A6 k7 x1), (y19 m12 A10 k11 x9), blk b15 (y6 x1 A2 k3 A4 k5 A6 k7), blk b16 [.int .i64 x8], blk b17 (y4 x13), blk b18 (y5 x14), (y8 b19), sl .ro ki64 A28 k29 x27, sl .own kapi_Value A36 k37 x35, (y9 b34 x13 x14)]) T S rfl rfl rfl rfl (by simp) Tryd.sizeOf54 (Nat.le_of_ble_eq_true rfl) rfl fun _ S => ?_
   refine Gets.seq (rg (r_fa (o' := 0) T rfl Tryd.runUnderlying54 rfl Tryd.sizeOf4 rfl rfl fun _ T => r_ldB (ix := 0) T S rfl Tryd.isAgg4 rfl rfl rfl fun _ T => ?_))
   rcases ifE H with ⟨h64, H⟩ | ⟨h64, H⟩
   ·refine cdT T rfl h64 ?_
    refine Gets.seq ?_
    refine Gets.drawn (l := [blk b63 (y1 x13 x14 x38), (y10 A2 k3 x1), (y15 A4 k5 x1), (y11 A6 k7 x1), (y19 m12 A10 k11 x9), blk b15 (y6 x1 A2 k3 A4 k5 A6 k7), blk b16 [.int .i64 x8], blk b17 (y4 x13), blk b18 (y5 x14), (y8 b19), sl .ro ki64 A28 k29 x27, sl .own kapi_Value A36 k37 x35, (y9 b34 x13 x14)]) (V := [some (.slice A36 x35.length k37, true), some (.slice A10 x9.length k11, true), some (.int .i64 (x9.length : Int), true), none, (y24 b63), some ((y7 x13 x14 x38), true), none, none, none]) mixed T S rfl ?_
    refine stageL [3, 6] rfl rfl ⟨⟨_, _, rfl, (avl [14] rfl), fun _ _ _ T S => r_pv T rfl rfl fun _ T => ⟨rfl, T⟩⟩, ⟨_, _, rfl, (avl [2] rfl), fun _ _ _ T S => r_pv T rfl rfl fun _ T => ⟨rfl, T⟩⟩, ⟨_, _, rfl, (avl [50] rfl), fun _ _ _ T S => r_lenS T rfl Tryd.runUnderlying27 rfl fun _ T => ⟨rfl, T⟩⟩, ⟨_, _, rfl, (avl [16] rfl), fun _ _ _ T S => r_fa (o' := 2) T rfl Tryd.runUnderlying54 rfl Tryd.sizeOf43 rfl rfl fun _ T => ⟨rfl, T⟩⟩, ⟨_, _, rfl, (avl [53] rfl), fun _ _ _ T S => r_ldBA (ix := 0) (ds := (y14 x13 x14 x38)) T S rfl Tryd.isAgg43 rfl rfl Tryd.sizeOf43 rfl fun _ T => ⟨rfl, T⟩⟩, trivial⟩ rfl (fun i hi => ?_) (fun h => by cases h)
    simp only [List.mem_cons, List.not_mem_nil, or_false] at hi
    rcases hi with rfl | rfl
    ·refine ⟨rfl, _, _, rfl, (avl [49, 51] rfl), fun u a w T S => ?_⟩
     have h2841 := S.len (i := 11) rfl
     obtain ⟨h2842, H⟩ := ck H
     refine r_slO (ix := 11) (xs := x35) T S rfl rfl (fun h => by cases h) rfl rfl rfl (Int.le_refl _) h2842.1 h2842.2 (by have := h2842.2; omega) (by omega) Tryd.runUnderlying27 Tryd.sizeOf43 rfl fun _ A2843 S T => ?_
     replace S : SL ([blk b63 (y1 x13 x14 x38), (y10 A2 k3 x1), (y15 A4 k5 x1), (y11 A6 k7 x1), (y19 m12 A10 k11 x9), blk b15 (y6 x1 A2 k3 A4 k5 A6 k7), blk b16 [.int .i64 x8], blk b17 (y4 x13), blk b18 (y5 x14), (y8 b19), sl .ro ki64 A28 k29 x27, (y18 A2843 k37 x35 x9), (y9 b34 x13 x14)] ++ F) _ := S
     refine ⟨_, [some (.slice A36 x35.length k37, false), some (.slice A10 x9.length k11, true), some (.int .i64 (x9.length : Int), false), (y23 A2843 x35 x9 k37), (y24 b63), some ((y7 x13 x14 x38), true), none, none, none], [blk b63 (y1 x13 x14 x38), (y10 A2 k3 x1), (y15 A4 k5 x1), (y11 A6 k7 x1), (y19 m12 A10 k11 x9), blk b15 (y6 x1 A2 k3 A4 k5 A6 k7), blk b16 [.int .i64 x8], blk b17 (y4 x13), blk b18 (y5 x14), (y8 b19), sl .ro ki64 A28 k29 x27, (y18 A2843 k37 x35 x9), (y9 b34 x13 x14)], rfl, (by repeat first | exact kx0 | apply kxs | apply kxn), rfl, ?_, T, S⟩
     refine stage (some 6) rfl rfl ⟨⟨_, _, rfl, (avl [2] rfl), fun _ _ _ T S => r_pv T rfl rfl fun _ T => ⟨rfl, T⟩⟩, ⟨_, _, rfl, (avl [16] rfl), fun _ _ _ T S => r_fa (o' := 2) T rfl Tryd.runUnderlying54 rfl Tryd.sizeOf43 rfl rfl fun _ T => ⟨rfl, T⟩⟩, ⟨_, _, rfl, (avl [53] rfl), fun _ _ _ T S => r_ldBA (ix := 0) (ds := (y14 x13 x14 x38)) T S rfl Tryd.isAgg43 rfl rfl Tryd.sizeOf43 rfl fun _ T => ⟨rfl, T⟩⟩, trivial⟩ rfl (fun i hi => ?_) (fun h => by cases h)
     cases hi
     refine ⟨rfl, _, _, rfl, (avl [54] rfl), fun u a w T S => ?_⟩
     replace S : SL ([rp kapi_Value (y0 x13 x14 x38) (y14 x13 x14 x38), blk b63 (y1 x13 x14 x38), (y10 A2 k3 x1), (y15 A4 k5 x1), (y11 A6 k7 x1), (y19 m12 A10 k11 x9), blk b15 (y6 x1 A2 k3 A4 k5 A6 k7), blk b16 [.int .i64 x8], blk b17 (y4 x13), blk b18 (y5 x14), (y8 b19), sl .ro ki64 A28 k29 x27, (y18 A2843 k37 x35 x9), (y9 b34 x13 x14)] ++ F) _ := cl_api_Value  S 
     refine r_bsl (κ := kapi_Value) (xs := [(y0 x13 x14 x38)]) (vs := [(y7 x13 x14 x38)]) T S sty27 rfl ⟨_, _, rfl, ⟨0, rfl⟩, rfl⟩ rfl (by decide) rfl fun _ _ b3021 S T => ?_
     replace S : SL ([(y22 b3021 x13 x14 x38), blk b63 (y1 x13 x14 x38), (y10 A2 k3 x1), (y15 A4 k5 x1), (y11 A6 k7 x1), (y19 m12 A10 k11 x9), blk b15 (y6 x1 A2 k3 A4 k5 A6 k7), blk b16 [.int .i64 x8], blk b17 (y4 x13), blk b18 (y5 x14), (y8 b19), sl .ro ki64 A28 k29 x27, (y18 A2843 k37 x35 x9), (y9 b34 x13 x14)] ++ F) _ := S.only [0, 1, 1, 1, 1, 1, 1, 1, 1, 1, 1, 1, 1, 1] rfl
     refine ⟨_, [some (.slice A36 x35.length k37, false), some (.slice A10 x9.length k11, true), some (.int .i64 (x9.length : Int), false), (y23 A2843 x35 x9 k37), (y24 b63), some ((y7 x13 x14 x38), false), some (.slice (some ⟨b3021, 0, none⟩) 1 1, false), none, none], [(y22 b3021 x13 x14 x38), blk b63 (y1 x13 x14 x38), (y10 A2 k3 x1), (y15 A4 k5 x1), (y11 A6 k7 x1), (y19 m12 A10 k11 x9), blk b15 (y6 x1 A2 k3 A4 k5 A6 k7), blk b16 [.int .i64 x8], blk b17 (y4 x13), blk b18 (y5 x14), (y8 b19), sl .ro ki64 A28 k29 x27, (y18 A2843 k37 x35 x9), (y9 b34 x13 x14)], rfl, (by repeat first | exact kx0 | apply kxs | apply kxn), rfl, ?_, T, S⟩
     refine stage (some 7) rfl rfl ⟨⟨_, _, rfl, (avl [2] rfl), fun _ _ _ T S => r_pv T rfl rfl fun _ T => ⟨rfl, T⟩⟩, ⟨_, _, rfl, (avl [16] rfl), fun _ _ _ T S => r_fa (o' := 2) T rfl Tryd.runUnderlying54 rfl Tryd.sizeOf43 rfl rfl fun _ T => ⟨rfl, T⟩⟩, trivial⟩ rfl (fun i hi => ?_) (fun h => by cases h)
     cases hi
     refine ⟨rfl, _, _, rfl, (avl [52, 55] rfl), fun u a w T S => ?_⟩
     obtain ⟨h3083, H⟩ := ck H
     refine r_app (ix := 12) (iy := 0) (xs := (cut x35 (Int.toNat 0) (Int.toNat (x9.length : Int)))) (ys := [(y0 x13 x14 x38)]) T S rfl rfl rfl rfl (by decide) sty27 Tryd.runUnderlying27 (by decide) h3083 rfl fun _ _ A3081 k3082 S T => ?_
     replace S : SL ([(y22 b3021 x13 x14 x38), blk b63 (y1 x13 x14 x38), (y10 A2 k3 x1), (y15 A4 k5 x1), (y11 A6 k7 x1), (y19 m12 A10 k11 x9), blk b15 (y6 x1 A2 k3 A4 k5 A6 k7), blk b16 [.int .i64 x8], blk b17 (y4 x13), blk b18 (y5 x14), (y8 b19), sl .ro ki64 A28 k29 x27, (y16 A3081 k3082 x35 x9 x13 x14 x38), (y9 b34 x13 x14)] ++ F) _ := S
     refine ⟨_, [some (.slice A36 x35.length k37, false), some (.slice A10 x9.length k11, true), some (.int .i64 (x9.length : Int), false), (y23 A2843 x35 x9 k37), (y24 b63), some ((y7 x13 x14 x38), false), some (.slice (some ⟨b3021, 0, none⟩) 1 1, false), some (.slice A3081 (((cut x35 (Int.toNat 0) (Int.toNat (x9.length : Int))) ++ [(y0 x13 x14 x38)]).length) k3082, false), some (.slice A3081 (((cut x35 (Int.toNat 0) (Int.toNat (x9.length : Int))) ++ [(y0 x13 x14 x38)]).length) k3082, true)], [(y22 b3021 x13 x14 x38), blk b63 (y1 x13 x14 x38), (y10 A2 k3 x1), (y15 A4 k5 x1), (y11 A6 k7 x1), (y19 m12 A10 k11 x9), blk b15 (y6 x1 A2 k3 A4 k5 A6 k7), blk b16 [.int .i64 x8], blk b17 (y4 x13), blk b18 (y5 x14), (y8 b19), sl .ro ki64 A28 k29 x27, (y16 A3081 k3082 x35 x9 x13 x14 x38), (y9 b34 x13 x14)], rfl, (by repeat first | exact kx0 | apply kxs | apply kxn), rfl, ?_, T, S⟩
     refine stage none rfl rfl ⟨⟨_, _, rfl, (avl [2] rfl), fun _ _ _ T S => r_pv T rfl rfl fun _ T => ⟨rfl, T⟩⟩, ⟨_, _, rfl, (avl [16] rfl), fun _ _ _ T S => r_fa (o' := 2) T rfl Tryd.runUnderlying54 rfl Tryd.sizeOf43 rfl rfl fun _ T => ⟨rfl, T⟩⟩, ⟨_, _, rfl, (avl [56] rfl), fun _ _ _ T S => r_pv T rfl rfl fun _ T => ⟨rfl, T⟩⟩, trivial⟩ rfl (fun i hi => by cases hi) (fun _ _ a w T hv hb S => ?_)
     replace T := T.sub (r := (y20 A10 x9 k11 b15 b16 b17 b18 b19 A28 x27 k29 A3081 x35 x13 x14 x38 k3082 b34)) ⟨hb 2 _ rfl rfl, hb 5 _ rfl rfl, hb 6 _ rfl rfl, hb 8 _ rfl rfl, hb 9 _ rfl rfl, hb 10 _ rfl rfl, hb 12 _ rfl rfl, hv 8 _ 14 rfl rfl rfl, hb 41 _ rfl rfl, hb 42 _ rfl rfl, hb 43 _ rfl rfl, trivial⟩
     refine Gets.seq ?_
     have T := T.re (s := 41) (v' := .slice (some ⟨b34, 0, none⟩) [(y2 x13), (y3 x14)].length 2) rfl (by simp)
     exact J3_ok F r z x1 A2 k3 A4 k5 A6 k7 x9 A10 k11 m12 b15 b16 b17 b18 b19 A28 x27 k29 A3081 x35 x13 x14 x38 k3082 b34 x8 (L1 z x1 x8 x9 x13 x14 x27 m) ih _ _ (T.sub ⟨rfl, rfl, rfl, rfl, rfl, rfl, rfl, rfl, rfl, rfl, rfl, trivial⟩) (S.only (p := [(y10 A2 k3 x1), (y15 A4 k5 x1), (y11 A6 k7 x1), (y19 m12 A10 k11 x9), blk b15 (y6 x1 A2 k3 A4 k5 A6 k7), blk b16 [.int .i64 x8], blk b17 (y4 x13), blk b18 (y5 x14), (y8 b19), sl .ro ki64 A28 k29 x27, (y16 A3081 k3082 x35 x9 x13 x14 x38), (y9 b34 x13 x14)]) [2, 2, 2, 2, 2, 2, 2, 2, 2, 2, 2, 2] rfl) H
    ·refine ⟨rfl, _, _, rfl, (avl [54] rfl), fun u a w T S => ?_⟩
     replace S : SL ([rp kapi_Value (y0 x13 x14 x38) (y14 x13 x14 x38), blk b63 (y1 x13 x14 x38), (y10 A2 k3 x1), (y15 A4 k5 x1), (y11 A6 k7 x1), (y19 m12 A10 k11 x9), blk b15 (y6 x1 A2 k3 A4 k5 A6 k7), blk b16 [.int .i64 x8], blk b17 (y4 x13), blk b18 (y5 x14), (y8 b19), sl .ro ki64 A28 k29 x27, sl .own kapi_Value A36 k37 x35, (y9 b34 x13 x14)] ++ F) _ := cl_api_Value  S 
     refine r_bsl (κ := kapi_Value) (xs := [(y0 x13 x14 x38)]) (vs := [(y7 x13 x14 x38)]) T S sty27 rfl ⟨_, _, rfl, ⟨0, rfl⟩, rfl⟩ rfl (by decide) rfl fun _ _ b3021 S T => ?_
     replace S : SL ([(y22 b3021 x13 x14 x38), blk b63 (y1 x13 x14 x38), (y10 A2 k3 x1), (y15 A4 k5 x1), (y11 A6 k7 x1), (y19 m12 A10 k11 x9), blk b15 (y6 x1 A2 k3 A4 k5 A6 k7), blk b16 [.int .i64 x8], blk b17 (y4 x13), blk b18 (y5 x14), (y8 b19), sl .ro ki64 A28 k29 x27, sl .own kapi_Value A36 k37 x35, (y9 b34 x13 x14)] ++ F) _ := S.only [0, 1, 1, 1, 1, 1, 1, 1, 1, 1, 1, 1, 1, 1] rfl
     refine ⟨_, [some (.slice A36 x35.length k37, true), some (.slice A10 x9.length k11, true), some (.int .i64 (x9.length : Int), true), none, (y24 b63), some ((y7 x13 x14 x38), false), some (.slice (some ⟨b3021, 0, none⟩) 1 1, false), none, none], [(y22 b3021 x13 x14 x38), blk b63 (y1 x13 x14 x38), (y10 A2 k3 x1), (y15 A4 k5 x1), (y11 A6 k7 x1), (y19 m12 A10 k11 x9), blk b15 (y6 x1 A2 k3 A4 k5 A6 k7), blk b16 [.int .i64 x8], blk b17 (y4 x13), blk b18 (y5 x14), (y8 b19), sl .ro ki64 A28 k29 x27, sl .own kapi_Value A36 k37 x35, (y9 b34 x13 x14)], rfl, (by repeat first | exact kx0 | apply kxs | apply kxn), rfl, ?_, T, S⟩
     refine stage (some 3) rfl rfl ⟨⟨_, _, rfl, (avl [14] rfl), fun _ _ _ T S => r_pv T rfl rfl fun _ T => ⟨rfl, T⟩⟩, ⟨_, _, rfl, (avl [2] rfl), fun _ _ _ T S => r_pv T rfl rfl fun _ T => ⟨rfl, T⟩⟩, ⟨_, _, rfl, (avl [50] rfl), fun _ _ _ T S => r_lenS T rfl Tryd.runUnderlying27 rfl fun _ T => ⟨rfl, T⟩⟩, ⟨_, _, rfl, (avl [16] rfl), fun _ _ _ T S => r_fa (o' := 2) T rfl Tryd.runUnderlying54 rfl Tryd.sizeOf43 rfl rfl fun _ T => ⟨rfl, T⟩⟩, trivial⟩ rfl (fun i hi => ?_) (fun h => by cases h)
     cases hi
     refine ⟨rfl, _, _, rfl, (avl [49, 51] rfl), fun u a w T S => ?_⟩
     have h2841 := S.len (i := 12) rfl
     obtain ⟨h2842, H⟩ := ck H
     refine r_slO (ix := 12) (xs := x35) T S rfl rfl (fun h => by cases h) rfl rfl rfl (Int.le_refl _) h2842.1 h2842.2 (by have := h2842.2; omega) (by omega) Tryd.runUnderlying27 Tryd.sizeOf43 rfl fun _ A2843 S T => ?_
     replace S : SL ([(y22 b3021 x13 x14 x38), blk b63 (y1 x13 x14 x38), (y10 A2 k3 x1), (y15 A4 k5 x1), (y11 A6 k7 x1), (y19 m12 A10 k11 x9), blk b15 (y6 x1 A2 k3 A4 k5 A6 k7), blk b16 [.int .i64 x8], blk b17 (y4 x13), blk b18 (y5 x14), (y8 b19), sl .ro ki64 A28 k29 x27, (y18 A2843 k37 x35 x9), (y9 b34 x13 x14)] ++ F) _ := S
     refine ⟨_, [some (.slice A36 x35.length k37, false), some (.slice A10 x9.length k11, true), some (.int .i64 (x9.length : Int), false), (y23 A2843 x35 x9 k37), (y24 b63), some ((y7 x13 x14 x38), false), some (.slice (some ⟨b3021, 0, none⟩) 1 1, false), none, none], [(y22 b3021 x13 x14 x38), blk b63 (y1 x13 x14 x38), (y10 A2 k3 x1), (y15 A4 k5 x1), (y11 A6 k7 x1), (y19 m12 A10 k11 x9), blk b15 (y6 x1 A2 k3 A4 k5 A6 k7), blk b16 [.int .i64 x8], blk b17 (y4 x13), blk b18 (y5 x14), (y8 b19), sl .ro ki64 A28 k29 x27, (y18 A2843 k37 x35 x9), (y9 b34 x13 x14)], rfl, (by repeat first | exact kx0 | apply kxs | apply kxn), rfl, ?_, T, S⟩
     refine stage (some 7) rfl rfl ⟨⟨_, _, rfl, (avl [2] rfl), fun _ _ _ T S => r_pv T rfl rfl fun _ T => ⟨rfl, T⟩⟩, ⟨_, _, rfl, (avl [16] rfl), fun _ _ _ T S => r_fa (o' := 2) T rfl Tryd.runUnderlying54 rfl Tryd.sizeOf43 rfl rfl fun _ T => ⟨rfl, T⟩⟩, trivial⟩ rfl (fun i hi => ?_) (fun h => by cases h)
     cases hi
     refine ⟨rfl, _, _, rfl, (avl [52, 55] rfl), fun u a w T S => ?_⟩
     obtain ⟨h3083, H⟩ := ck H
     refine r_app (ix := 12) (iy := 0) (xs := (cut x35 (Int.toNat 0) (Int.toNat (x9.length : Int)))) (ys := [(y0 x13 x14 x38)]) T S rfl rfl rfl rfl (by decide) sty27 Tryd.runUnderlying27 (by decide) h3083 rfl fun _ _ A3081 k3082 S T => ?_
     replace S : SL ([(y22 b3021 x13 x14 x38), blk b63 (y1 x13 x14 x38), (y10 A2 k3 x1), (y15 A4 k5 x1), (y11 A6 k7 x1), (y19 m12 A10 k11 x9), blk b15 (y6 x1 A2 k3 A4 k5 A6 k7), blk b16 [.int .i64 x8], blk b17 (y4 x13), blk b18 (y5 x14), (y8 b19), sl .ro ki64 A28 k29 x27, (y16 A3081 k3082 x35 x9 x13 x14 x38), (y9 b34 x13 x14)] ++ F) _ := S
     refine ⟨_, [some (.slice A36 x35.length k37, false), some (.slice A10 x9.length k11, true), some (.int .i64 (x9.length : Int), false), (y23 A2843 x35 x9 k37), (y24 b63), some ((y7 x13 x14 x38), false), some (.slice (some ⟨b3021, 0, none⟩) 1 1, false), some (.slice A3081 (((cut x35 (Int.toNat 0) (Int.toNat (x9.length : Int))) ++ [(y0 x13 x14 x38)]).length) k3082, false), some (.slice A3081 (((cut x35 (Int.toNat 0) (Int.toNat (x9.length : Int))) ++ [(y0 x13 x14 x38)]).length) k3082, true)], [(y22 b3021 x13 x14 x38), blk b63 (y1 x13 x14 x38), (y10 A2 k3 x1), (y15 A4 k5 x1), (y11 A6 k7 x1), (y19 m12 A10 k11 x9), blk b15 (y6 x1 A2 k3 A4 k5 A6 k7), blk b16 [.int .i64 x8], blk b17 (y4 x13), blk b18 (y5 x14), (y8 b19), sl .ro ki64 A28 k29 x27, (y16 A3081 k3082 x35 x9 x13 x14 x38), (y9 b34 x13 x14)], rfl, (by repeat first | exact kx0 | apply kxs | apply kxn), rfl, ?_, T, S⟩
     refine stage none rfl rfl ⟨⟨_, _, rfl, (avl [2] rfl), fun _ _ _ T S => r_pv T rfl rfl fun _ T => ⟨rfl, T⟩⟩, ⟨_, _, rfl, (avl [16] rfl), fun _ _ _ T S => r_fa (o' := 2) T rfl Tryd.runUnderlying54 rfl Tryd.sizeOf43 rfl rfl fun _ T => ⟨rfl, T⟩⟩, ⟨_, _, rfl, (avl [56] rfl), fun _ _ _ T S => r_pv T rfl rfl fun _ T => ⟨rfl, T⟩⟩, trivial⟩ rfl (fun i hi => by cases hi) (fun _ _ a w T hv hb S => ?_)
     replace T := T.sub (r := (y20 A10 x9 k11 b15 b16 b17 b18 b19 A28 x27 k29 A3081 x35 x13 x14 x38 k3082 b34)) ⟨hb 2 _ rfl rfl, hb 5 _ rfl rfl, hb 6 _ rfl rfl, hb 8 _ rfl rfl, hb 9 _ rfl rfl, hb 10 _ rfl rfl, hb 12 _ rfl rfl, hv 8 _ 14 rfl rfl rfl, hb 41 _ rfl rfl, hb 42 _ rfl rfl, hb 43 _ rfl rfl, trivial⟩
     refine Gets.seq ?_
     have T := T.re (s := 41) (v' := .slice (some ⟨b34, 0, none⟩) [(y2 x13), (y3 x14)].length 2) rfl (by simp)
     exact J3_ok F r z x1 A2 k3 A4 k5 A6 k7 x9 A10 k11 m12 b15 b16 b17 b18 b19 A28 x27 k29 A3081 x35 x13 x14 x38 k3082 b34 x8 (L1 z x1 x8 x9 x13 x14 x27 m) ih _ _ (T.sub ⟨rfl, rfl, rfl, rfl, rfl, rfl, rfl, rfl, rfl, rfl, rfl, trivial⟩) (S.only (p := [(y10 A2 k3 x1), (y15 A4 k5 x1), (y11 A6 k7 x1), (y19 m12 A10 k11 x9), blk b15 (y6 x1 A2 k3 A4 k5 A6 k7), blk b16 [.int .i64 x8], blk b17 (y4 x13), blk b18 (y5 x14), (y8 b19), sl .ro ki64 A28 k29 x27, (y16 A3081 k3082 x35 x9 x13 x14 x38), (y9 b34 x13 x14)]) [2, 2, 2, 2, 2, 2, 2, 2, 2, 2, 2, 2] rfl) H
   ·refine cdF T rfl h64 ?_
    refine Gets.skip (Gets.inBlock ?_)
    have T := T.re (s := 41) (v' := .slice (some ⟨b34, 0, none⟩) [(y2 x13), (y3 x14)].length 2) rfl (by simp)
    exact J4_ok F r z x1 A2 k3 A4 k5 A6 k7 x9 A10 k11 m12 b15 b16 b17 b18 b19 A28 x27 k29 b34 x38 x8 x13 x14 (L1 z x1 x8 x9 x13 x14 x27 m) ih A36 x35 k37 _ _ (T.sub ⟨rfl, rfl, rfl, rfl, rfl, rfl, rfl, rfl, rfl, rfl, rfl, trivial⟩) (S.only (p := [(y10 A2 k3 x1), (y15 A4 k5 x1), (y11 A6 k7 x1), (y19 m12 A10 k11 x9), blk b15 (y6 x1 A2 k3 A4 k5 A6 k7), blk b16 [.int .i64 x8], blk b17 (y4 x13), blk b18 (y5 x14), (y8 b19), sl .ro ki64 A28 k29 x27, sl .own kapi_Value A36 k37 x35, (y9 b34 x13 x14)]) [1, 1, 1, 1, 1, 1, 1, 1, 1, 1, 1, 1] rfl) H
  ·refine cdF T rfl h39 ?_
   refine Gets.exit rfl (Gets.seq (Gets.seq ?_))
   refine rg (r_ldBA (ix := 4) (ds := (y6 x1 A2 k3 A4 k5 A6 k7)) T S rfl Tryd.isAgg26 rfl rfl Tryd.sizeOf26 rfl fun _ T => r_pv T rfl rfl fun _ T => r_pv T rfl rfl fun _ T => ?_)
   replace S := S.dup (i := 0) rfl
   replace S := S.dup (i := 2) rfl
   replace S := S.dup (i := 4) rfl
   obtain ⟨x41, h40, H⟩ := bd H
   refine r_call T Tryd.call42 rfl rfl (rowkey_askable.ok _ _ z x1 x27 x9 (S.sel (p := [(y10 A2 k3 x1), (y15 A4 k5 x1), (y11 A6 k7 x1), sl .ro ki64 A28 k29 x27, (y19 m12 A10 k11 x9)]) (is := [2, 1, 0, 9, 3]) rfl) _ h40) ?_
   rintro _ _ ⟨rfl, S⟩
   refine ⟨_, rfl, fun _ T => ?_⟩
   replace S : SL ([sl .ro ki64 A28 k29 x27, (y19 m12 A10 k11 x9), (y10 A2 k3 x1), (y15 A4 k5 x1), (y11 A6 k7 x1), blk b15 (y6 x1 A2 k3 A4 k5 A6 k7), blk b16 [.int .i64 x8], blk b17 (y4 x13), blk b18 (y5 x14), (y8 b19), sl .own kapi_Value A36 k37 x35, (y9 b34 x13 x14)] ++ F) _ := S.join.only [3, 3, 3, 3, 3, 3, 3, 3, 3, 3, 3, 3] rfl
   refine r_pv T rfl rfl fun _ T => ?_
   rcases ifE H with ⟨h42, H⟩ | ⟨h42, H⟩
   ·refine cdT T rfl h42 ?_
    refine Gets.seq (rg (r_build (cs := #[.slice none 0 0, .slice none 0 0]) T stt50 rfl rfl rfl fun _ T => r_stBA (ix := 9) (vs := [.slice none 0 0, .slice none 0 0]) (l' := [sl .ro ki64 A28 k29 x27, (y19 m12 A10 k11 x9), (y10 A2 k3 x1), (y15 A4 k5 x1), (y11 A6 k7 x1), blk b15 (y6 x1 A2 k3 A4 k5 A6 k7), blk b16 [.int .i64 x8], blk b17 (y4 x13), blk b18 (y5 x14), (y8 b19), sl .own kapi_Value A36 k37 x35, (y9 b34 x13 x14)]) T S rfl rfl rfl rfl (by simp) Tryd.sizeOf50 (Nat.le_of_ble_eq_true rfl) rfl fun _ S => ?_))
    refine r_pv T rfl rfl fun _ T => ?_
    replace S := S.nil ku8 .ro
    replace S := S.nil ku8 .ro
    replace H := Option.some.inj H
    subst H
    exact rtnM T S Tryd.func15 rfl ⟨_, _, rfl, ⟨b19, _, 11, rfl, rfl, .inl ⟨Tryd.isAgg50, Tryd.sizeOf50, rfl⟩⟩, ⟨_, _, rfl, rfl, rfl⟩⟩ ⟨none, 0, none, 0, rfl, (S.only (p := [sl .ro ku8 none 0 ([] : List Int), sl .ro ku8 none 0 ([] : List Int), (y10 A2 k3 x1), (y15 A4 k5 x1), (y11 A6 k7 x1), (y19 m12 A10 k11 x9)]) [1, 0, 2, 2, 2, 1] rfl)⟩
   ·refine cdF T rfl h42 ?_
    refine Gets.skip (Gets.seq ?_)
    refine rg (r_fa (o' := 0) T rfl Tryd.runUnderlying26 rfl Tryd.sizeOf3 rfl rfl fun _ T => r_ldB (ix := 5) T S rfl Tryd.isAgg3 rfl rfl rfl fun _ T => r_ldB (ix := 6) T S rfl Tryd.isAgg3 rfl rfl rfl fun _ T => ?_)
    replace S := SL.val (κ := ki64) (x := x1.Id) (cs := [.int .i64 x1.Id]) (fun _ => rfl) S
    replace S := SL.val (κ := ki64) (x := x8) (cs := [.int .i64 x8]) (fun _ => rfl) S
    refine r_bsl (κ := ki64) (xs := [x1.Id, x8]) (vs := [.int .i64 x1.Id, .int .i64 x8]) T S sty23 rfl ⟨_, _, rfl, ⟨1, rfl⟩, ⟨_, _, rfl, ⟨0, rfl⟩, rfl⟩⟩ rfl (by decide) rfl fun _ _ b43 S T => ?_
    replace S : SL ([sl .own ki64 (some ⟨b43, 0, none⟩) 2 [x1.Id, x8], sl .ro ki64 A28 k29 x27, (y19 m12 A10 k11 x9), (y10 A2 k3 x1), (y15 A4 k5 x1), (y11 A6 k7 x1), blk b15 (y6 x1 A2 k3 A4 k5 A6 k7), blk b16 [.int .i64 x8], blk b17 (y4 x13), blk b18 (y5 x14), (y8 b19), sl .own kapi_Value A36 k37 x35, (y9 b34 x13 x14)] ++ F) _ := S.only [0, 2, 2, 2, 2, 2, 2, 2, 2, 2, 2, 2, 2] rfl
    obtain ⟨x45, h44, H⟩ := bd H
    refine r_call T Tryd.call26 rfl rfl (rowkey_begin.ok _ _ z [x1.Id, x8] (S.sel (p := [sl .own ki64 (some ⟨b43, 0, none⟩) 2 [x1.Id, x8]]) (is := [0]) rfl) _ h44) ?_
    rintro _ _ ⟨A46, k47, rfl, S⟩
    refine ⟨_, rfl, fun _ T => ?_⟩
    replace S : SL ([sl .own ku8 A46 k47 x45, sl .own ki64 (some ⟨b43, 0, none⟩) 2 [x1.Id, x8], sl .ro ki64 A28 k29 x27, (y19 m12 A10 k11 x9), (y10 A2 k3 x1), (y15 A4 k5 x1), (y11 A6 k7 x1), blk b15 (y6 x1 A2 k3 A4 k5 A6 k7), blk b16 [.int .i64 x8], blk b17 (y4 x13), blk b18 (y5 x14), (y8 b19), sl .own kapi_Value A36 k37 x35, (y9 b34 x13 x14)] ++ F) _ := S.join
    refine r_pv T rfl rfl fun _ T => ?_
    refine Gets.seq (Gets.seq ?_)
    refine rg (r_pv T rfl rfl fun _ T => r_lenS T rfl Tryd.runUnderlying27 rfl fun _ T => r_pv T rfl rfl fun _ T => ?_)
    refine Gets.block (Gets.loop ?_)
    exact L2_ok F r z x1 A2 k3 A4 k5 A6 k7 x9 A10 k11 m12 b17 b18 b19 x13 x14 x8 z A46 x45 k47 0 _ _ (T.sub ⟨rfl, rfl, rfl, rfl, rfl, rfl, rfl, trivial⟩) (S.only (p := [(y10 A2 k3 x1), (y15 A4 k5 x1), (y11 A6 k7 x1), (y19 m12 A10 k11 x9), blk b17 (y4 x13), blk b18 (y5 x14), (y8 b19), sl .own ku8 A46 k47 x45]) [4, 4, 4, 3, 5, 5, 5, 0] rfl) H
theorem J0_ok (F : List Atom) (r : api_Span × Int) (z : Nat) (x1 : api_Table) (A2 : OA) (k3 : Nat) (A4 : OA) (k5 : Nat) (A6 : OA) (k7 : Nat) (x9 : List api_Value) (A10 : OA) (k11 : Nat) (m12 : Md) (b15 b16 b17 b18 b19 : Nat) (x8 : Int) (x13 x14 : api_Limit) (A28 : OA) (x27 : List Int) (k29 : Nat) (a : Act) (w : World) (T : Tm 95 [(2, .slice A10 x9.length k11), (5, .pointer (some ⟨b15, 0, none⟩)), (6, .pointer (some ⟨b16, 0, none⟩)), (8, .pointer (some ⟨b17, 0, none⟩)), (9, .pointer (some ⟨b18, 0, none⟩)), (10, .pointer (some ⟨b19, 0, none⟩)), (12, .slice A28 x27.length k29)] a) (S : SL ([(y10 A2 k3 x1), (y15 A4 k5 x1), (y11 A6 k7 x1), (y19 m12 A10 k11 x9), blk b15 (y6 x1 A2 k3 A4 k5 A6 k7), blk b16 [.int .i64 x8], blk b17 (y4 x13), blk b18 (y5 x14), (y8 b19), sl .ro ki64 A28 k29 x27] ++ F) w) (H : J0 z x1 x8 x9 x13 x14 x27 = some r) : Gets Tryd.prog 15 ptJ0 a w (R F x1 A2 k3 A4 k5 A6 k7 x9 A10 k11 m12 r) := by
 refine rg (r_pv T rfl rfl fun _ T => ?_)
 obtain ⟨x31, h30, H⟩ := bd H
 refine r_call T Tryd.call41 rfl rfl (slices_Clone_cormorant_api_Value.ok _ _ x9 (S.sel (p := [(y19 m12 A10 k11 x9)]) (is := [3]) rfl) _ h30) ?_
 rintro _ _ ⟨A32, k33, rfl, S⟩
 refine ⟨_, rfl, fun _ T => ?_⟩
 replace S : SL ([sl .own kapi_Value A32 k33 x31, (y19 m12 A10 k11 x9), (y10 A2 k3 x1), (y15 A4 k5 x1), (y11 A6 k7 x1), blk b15 (y6 x1 A2 k3 A4 k5 A6 k7), blk b16 [.int .i64 x8], blk b17 (y4 x13), blk b18 (y5 x14), (y8 b19), sl .ro ki64 A28 k29 x27] ++ F) _ := S.join
 refine r_pv T rfl rfl fun _ T => ?_
 refine Gets.seq (Gets.seq ?_)
 refine rg (r_ldBA (ix := 7) (ds := (y4 x13)) T S rfl Tryd.isAgg54 rfl rfl Tryd.sizeOf54 rfl fun _ T => r_ldBA (ix := 8) (ds := (y5 x14)) T S rfl Tryd.isAgg54 rfl rfl Tryd.sizeOf54 rfl fun _ T => ?_)
 replace S : SL ([rp kapi_Limit (y2 x13) (y4 x13), sl .own kapi_Value A32 k33 x31, (y19 m12 A10 k11 x9), (y10 A2 k3 x1), (y15 A4 k5 x1), (y11 A6 k7 x1), blk b15 (y6 x1 A2 k3 A4 k5 A6 k7), blk b16 [.int .i64 x8], blk b17 (y4 x13), blk b18 (y5 x14), (y8 b19), sl .ro ki64 A28 k29 x27] ++ F) _ := cl_api_Limit  S 
 replace S : SL ([rp kapi_Limit (y3 x14) (y5 x14), rp kapi_Limit (y2 x13) (y4 x13), sl .own kapi_Value A32 k33 x31, (y19 m12 A10 k11 x9), (y10 A2 k3 x1), (y15 A4 k5 x1), (y11 A6 k7 x1), blk b15 (y6 x1 A2 k3 A4 k5 A6 k7), blk b16 [.int .i64 x8], blk b17 (y4 x13), blk b18 (y5 x14), (y8 b19), sl .ro ki64 A28 k29 x27] ++ F) _ := cl_api_Limit  S 
 refine r_bsl (κ := kapi_Limit) (xs := [(y2 x13), (y3 x14)]) (vs := [(y12 x13), (y13 x14)]) T S sty84 rfl ⟨_, _, rfl, ⟨1, rfl⟩, ⟨_, _, rfl, ⟨0, rfl⟩, rfl⟩⟩ rfl (by decide) rfl fun _ _ b34 S T => ?_
 replace S : SL ([(y9 b34 x13 x14), sl .own kapi_Value A32 k33 x31, (y19 m12 A10 k11 x9), (y10 A2 k3 x1), (y15 A4 k5 x1), (y11 A6 k7 x1), blk b15 (y6 x1 A2 k3 A4 k5 A6 k7), blk b16 [.int .i64 x8], blk b17 (y4 x13), blk b18 (y5 x14), (y8 b19), sl .ro ki64 A28 k29 x27] ++ F) _ := S.only [0, 2, 2, 2, 2, 2, 2, 2, 2, 2, 2, 2] rfl
 refine r_lenS T rfl Tryd.runUnderlying84 rfl fun _ T => r_pv T rfl rfl fun _ T => Gets.block (Gets.loop ?_)
 have T := T.re (s := 41) (v' := .slice (some ⟨b34, 0, none⟩) [(y2 x13), (y3 x14)].length 2) rfl (by simp)
 exact L1_ok F r z x1 A2 k3 A4 k5 A6 k7 x9 A10 k11 m12 b15 b16 b17 b18 b19 A28 x27 k29 b34 x8 x13 x14 z A32 x31 k33 0 _ _ (T.sub ⟨rfl, rfl, rfl, rfl, rfl, rfl, rfl, rfl, rfl, rfl, rfl, trivial⟩) (S.only (p := [(y10 A2 k3 x1), (y15 A4 k5 x1), (y11 A6 k7 x1), (y19 m12 A10 k11 x9), blk b15 (y6 x1 A2 k3 A4 k5 A6 k7), blk b16 [.int .i64 x8], blk b17 (y4 x13), blk b18 (y5 x14), (y8 b19), sl .ro ki64 A28 k29 x27, sl .own kapi_Value A32 k33 x31, (y9 b34 x13 x14)]) [3, 3, 3, 2, 2, 2, 2, 2, 2, 2, 1, 0] rfl) H
theorem ok (F : List Atom) (w : World) (z : Nat) (x1 : api_Table) (x8 : Int) (x9 : List api_Value) (x13 x14 : api_Limit) {A2 : OA} {k3 : Nat} {A4 : OA} {k5 : Nat} {A6 : OA} {k7 : Nat} {A10 : OA} {k11 : Nat} {m12 : Md} (S : SL ([(y10 A2 k3 x1), (y15 A4 k5 x1), (y11 A6 k7 x1), (y19 m12 A10 k11 x9)] ++ F) w) (r : api_Span × Int) (H : f z x1 x8 x9 x13 x14 = some r) : Calls Tryd.prog 15 #[.agg #[.int .i64 x1.Id, .string x1.Name, .slice A2 x1.Columns.length k3, .slice A4 x1.Key.length k5, .slice A6 x1.Indexes.length k7], .int .i64 x8, .slice A10 x9.length k11, (y12 x13), (y13 x14)] w (R F x1 A2 k3 A4 k5 A6 k7 x9 A10 k11 m12 r) := by
 refine enter (vs := [.agg #[.int .i64 x1.Id, .string x1.Name, .slice A2 x1.Columns.length k3, .slice A4 x1.Key.length k5, .slice A6 x1.Indexes.length k7], .int .i64 x8, .slice A10 x9.length k11, (y12 x13), (y13 x14)]) Tryd.func15 rfl Tryd.ntmps15 (Nat.le_of_ble_eq_true rfl) fun a T => ?_
 refine Gets.seq (rg (r_box T S rfl (cs := (y6 x1 A2 k3 A4 k5 A6 k7)) rfl rfl fun _ _ b15 S T => r_box T S rfl (cs := [.int .i64 x8]) rfl rfl fun _ _ b16 S T => ?_))
 refine r_box T S rfl (cs := (y4 x13)) rfl rfl fun _ _ b17 S T => r_box T S rfl (cs := (y5 x14)) rfl rfl fun _ _ b18 S T => r_alloc T S zv50 (cs := [.slice none 0 0, .slice none 0 0]) rfl rfl fun _ _ b19 S T => r_pv T rfl rfl fun _ T => ?_
 refine Gets.seq (rg (r_fa (o' := 3) T rfl Tryd.runUnderlying26 rfl Tryd.sizeOf23 rfl rfl fun _ T => r_ldB (ix := 4) T S rfl Tryd.isAgg23 rfl rfl rfl fun _ T => ?_))
 refine r_pv T rfl rfl fun _ T => ?_
 refine Gets.seq (Gets.seq ?_)
 refine rg (r_ldB (ix := 3) T S rfl Tryd.isAgg3 rfl rfl rfl fun _ T => r_pv T rfl rfl fun _ T => ?_)
 rcases ifE H with ⟨h20, H⟩ | ⟨h20, H⟩
 ·refine cdT T rfl h20 ?_
  refine Gets.seq (rg (r_fa (o' := 4) T rfl Tryd.runUnderlying26 rfl Tryd.sizeOf24 rfl rfl fun _ T => r_ldB (ix := 4) T S rfl Tryd.isAgg24 rfl rfl rfl fun _ T => ?_))
  refine r_pv T rfl rfl fun _ T => ?_
  replace S := S.dup (i := 7) rfl
  obtain ⟨x22, h21, H⟩ := bd H
  refine r_call T Tryd.call39 rfl rfl (slices_IndexFunc_cormorant_api_Index_at40.ok _ _ z x1.Indexes x8 (S.sel (p := [(y11 A6 k7 x1), blk b16 [.int .i64 x8]]) (is := [0, 3]) rfl) _ h21) ?_
  rintro _ _ ⟨rfl, S⟩
  refine ⟨_, rfl, fun _ T => ?_⟩
  replace S : SL ([blk b16 [.int .i64 x8], (y8 b19), blk b18 (y5 x14), blk b17 (y4 x13), blk b15 (y6 x1 A2 k3 A4 k5 A6 k7), (y10 A2 k3 x1), (y15 A4 k5 x1), (y11 A6 k7 x1), (y19 m12 A10 k11 x9)] ++ F) _ := S.join.only [1, 1, 1, 1, 1, 1, 1, 1, 1] rfl
  refine r_pv T rfl rfl fun _ T => ?_
  refine Gets.seq (Gets.seq ?_)
  refine rg (r_pv T rfl rfl fun _ T => r_pv T rfl rfl fun _ T => ?_)
  rcases ifE H with ⟨h23, H⟩ | ⟨h23, H⟩
  ·refine cdT T rfl h23 ?_
   refine Gets.seq (rg (r_build (cs := #[.slice none 0 0, .slice none 0 0]) T stt50 rfl rfl rfl fun _ T => r_stBA (ix := 1) (vs := [.slice none 0 0, .slice none 0 0]) (l' := [blk b16 [.int .i64 x8], (y8 b19), blk b18 (y5 x14), blk b17 (y4 x13), blk b15 (y6 x1 A2 k3 A4 k5 A6 k7), (y10 A2 k3 x1), (y15 A4 k5 x1), (y11 A6 k7 x1), (y19 m12 A10 k11 x9)]) T S rfl rfl rfl rfl (by simp) Tryd.sizeOf50 (Nat.le_of_ble_eq_true rfl) rfl fun _ S => ?_))
   refine r_pv T rfl rfl fun _ T => ?_
   replace S := S.nil ku8 .ro
   replace S := S.nil ku8 .ro
   replace H := Option.some.inj H
   subst H
   exact rtnM T S Tryd.func15 rfl ⟨_, _, rfl, ⟨b19, _, 3, rfl, rfl, .inl ⟨Tryd.isAgg50, Tryd.sizeOf50, rfl⟩⟩, ⟨_, _, rfl, rfl, rfl⟩⟩ ⟨none, 0, none, 0, rfl, (S.only (p := [sl .ro ku8 none 0 ([] : List Int), sl .ro ku8 none 0 ([] : List Int), (y10 A2 k3 x1), (y15 A4 k5 x1), (y11 A6 k7 x1), (y19 m12 A10 k11 x9)]) [1, 0, 5, 5, 5, 5] rfl)⟩
  ·refine cdF T rfl h23 ?_
   refine Gets.skip (rg (r_fa (o' := 4) T rfl Tryd.runUnderlying26 rfl Tryd.sizeOf24 rfl rfl fun _ T => r_ldB (ix := 4) T S rfl Tryd.isAgg24 rfl rfl rfl fun _ T => ?_))
   refine r_pv T rfl rfl fun _ T => ?_
   obtain ⟨h24, H⟩ := ck H
   refine r_ia (ix := 7) T S rfl rfl rfl rfl Tryd.runUnderlying24 Tryd.sizeOf46 h24.1 h24.2 rfl fun _ T => r_faE T rfl Tryd.runUnderlying46 rfl Tryd.sizeOf23 rfl fun _ T => r_ldR (ix := 7) (i := x22) (off := 2) T S rfl Tryd.isAgg23 rfl dapi_Index _ rfl rfl fld_api_Index_Columns h24.1 h24.2 rfl rfl fun _ _ S T => ?_
   obtain ⟨A25, k26, hv_, S_⟩ := S.ofVal
   subst hv_
   replace S := S_
   refine r_pv T rfl rfl fun _ T => Gets.seq ?_
   exact J0_ok F r z x1 A2 k3 A4 k5 A6 k7 x9 A10 k11 m12 b15 b16 b17 b18 b19 x8 x13 x14 A25 ((gi dapi_Index x1.Indexes x22).Columns) k26 _ _ (T.sub ⟨rfl, rfl, rfl, rfl, rfl, rfl, rfl, trivial⟩) (S.only (p := [(y10 A2 k3 x1), (y15 A4 k5 x1), (y11 A6 k7 x1), (y19 m12 A10 k11 x9), blk b15 (y6 x1 A2 k3 A4 k5 A6 k7), blk b16 [.int .i64 x8], blk b17 (y4 x13), blk b18 (y5 x14), (y8 b19), sl .ro ki64 A25 k26 ((gi dapi_Index x1.Indexes x22).Columns)]) [6, 6, 6, 6, 5, 1, 3, 2, 1, 0] rfl) H
 ·refine cdF T rfl h20 ?_
  refine Gets.skip (Gets.seq ?_)
  replace S := S.dup (i := 6) rfl
  exact J0_ok F r z x1 A2 k3 A4 k5 A6 k7 x9 A10 k11 m12 b15 b16 b17 b18 b19 x8 x13 x14 A4 x1.Key k5 _ _ (T.sub ⟨rfl, rfl, rfl, rfl, rfl, rfl, rfl, trivial⟩) (S.only (p := [(y10 A2 k3 x1), (y15 A4 k5 x1), (y11 A6 k7 x1), (y19 m12 A10 k11 x9), blk b15 (y6 x1 A2 k3 A4 k5 A6 k7), blk b16 [.int .i64 x8], blk b17 (y4 x13), blk b18 (y5 x14), (y8 b19), (y15 A4 k5 x1)]) [6, 6, 6, 6, 5, 4, 3, 2, 1, 0] rfl) H
end rowkey_Part
end Go.Proofs.YtohelmfkpmphoaaDoor
namespace Go.Proofs.YtohelmfkpmphoaaDoor
open Go Go.Proofs.YtohelmfkpmphoaaDoor.X
set_option linter.unusedVariables false
set_option linter.unusedSimpArgs false
set_option maxRecDepth 100000
set_option maxHeartbeats 4000000
namespace rowkey_CatalogSpan
def R (F : List Atom) (r : api_Span) : Ending → World → Prop := fun e w' => ∃ (A4 : OA), ∃ (k5 : Nat), ∃ (A6 : OA), ∃ (k7 : Nat), e = .returned (.agg #[.slice A4 r.From.length k5, .slice A6 r.To.length k7]) ∧ SL ([sl .ro ku8 A4 k5 r.From, sl .ro ku8 A6 k7 r.To] ++ F) w'
def f : Option api_Span := some (api_Span.mk [1] [2])
abbrev y0 (b2 b3 : Nat) : List Value := [.slice (some ⟨b2, 0, none⟩) 1 1, .slice (some ⟨b3, 0, none⟩) 1 1]
theorem ok (F : List Atom) (w : World) (S : SL ([] ++ F) w) (r : api_Span) (H : f  = some r) : Calls Tryd.prog 16 #[] w (R F r) := by
 refine enter (vs := []) Tryd.func16 rfl Tryd.ntmps16 (Nat.le_of_ble_eq_true rfl) fun a T => ?_
 refine Gets.seq (rg (r_alloc T S zv50 (cs := [.slice none 0 0, .slice none 0 0]) rfl rfl fun _ _ b1 S T => Gets.seq ?_))
 refine rg ?_
 replace S := SL.val (κ := ku8) (x := 1) (cs := [.int .u8 1]) (fun _ => rfl) S
 refine r_bsl (κ := ku8) (xs := [1]) (vs := [.int .u8 1]) T S sty29 rfl ⟨_, _, rfl, ⟨0, rfl⟩, rfl⟩ rfl (by decide) rfl fun _ _ b2 S T => ?_
 replace S : SL ([sl .own ku8 (some ⟨b2, 0, none⟩) 1 [1], blk b1 [.slice none 0 0, .slice none 0 0]] ++ F) _ := S.only [0, 1] rfl
 replace S := SL.val (κ := ku8) (x := 2) (cs := [.int .u8 2]) (fun _ => rfl) S
 refine r_bsl (κ := ku8) (xs := [2]) (vs := [.int .u8 2]) T S sty29 rfl ⟨_, _, rfl, ⟨0, rfl⟩, rfl⟩ rfl (by decide) rfl fun _ _ b3 S T => ?_
 replace S : SL ([sl .own ku8 (some ⟨b3, 0, none⟩) 1 [2], sl .own ku8 (some ⟨b2, 0, none⟩) 1 [1], blk b1 [.slice none 0 0, .slice none 0 0]] ++ F) _ := S.only [0, 1, 1] rfl
 refine r_build (cs := #[.slice (some ⟨b2, 0, none⟩) 1 1, .slice (some ⟨b3, 0, none⟩) 1 1]) T stt50 rfl rfl rfl fun _ T => r_stBA (ix := 2) (vs := (y0 b2 b3)) (l' := [sl .own ku8 (some ⟨b3, 0, none⟩) 1 [2], sl .own ku8 (some ⟨b2, 0, none⟩) 1 [1], blk b1 (y0 b2 b3)]) T S rfl rfl rfl rfl (by simp) Tryd.sizeOf50 (Nat.le_of_ble_eq_true rfl) rfl fun _ S => ?_
 replace S : SL ([sl .own ku8 (some ⟨b3, 0, none⟩) 1 [2], sl .ro ku8 (some ⟨b2, 0, none⟩) 1 [1], blk b1 (y0 b2 b3)] ++ F) _ := S.fixL (i := 1) rfl rfl
 replace S : SL ([sl .ro ku8 (some ⟨b3, 0, none⟩) 1 [2], sl .ro ku8 (some ⟨b2, 0, none⟩) 1 [1], blk b1 (y0 b2 b3)] ++ F) _ := S.fixL (i := 0) rfl rfl
 replace H := Option.some.inj H
 subst H
 exact rtnM T S Tryd.func16 rfl ⟨_, _, rfl, ⟨b1, _, 2, rfl, rfl, .inl ⟨Tryd.isAgg50, Tryd.sizeOf50, rfl⟩⟩, rfl⟩ ⟨(some ⟨b2, 0, none⟩), 1, (some ⟨b3, 0, none⟩), 1, rfl, (S.only (p := [sl .ro ku8 (some ⟨b2, 0, none⟩) 1 [1], sl .ro ku8 (some ⟨b3, 0, none⟩) 1 [2]]) [1, 0] rfl)⟩
end rowkey_CatalogSpan
end Go.Proofs.YtohelmfkpmphoaaDoor
