/- RowkeyTakes: the statement's second form, its card: from the walk and the plain law. Condition: what is handed in is of bulk at most 1048576. -/
import Derived.Test.YtohelmfkpmphoaaDoorRt5
import Derived.Test.YtohelmfkpmphoaaDoorCards
import Derived.Test.YtohelmfkpmphoaaDoorTie
import Derived.OpenShut
import Derived.Deep.DeepHandedRow
import Derived.Lib.LaidTab
namespace Go.Proofs.YtohelmfkpmphoaaDoor
open Go Go.Proofs.YtohelmfkpmphoaaDoor.X
set_option linter.unusedVariables false
set_option linter.unusedSimpArgs false
set_option maxRecDepth 100000
set_option maxHeartbeats 4000000
namespace cormorantlaw20_shown
noncomputable def c0 : Code := match Tryd.f5.body with | some c => c | none => .skip
def R (F : List Atom) (r : Bool) : Ending → World → Prop := fun e w' => e = .returned (.bool r) ∧ SL ([] ++ F) w'
def J2 (z : Nat) (x56 : Bool) : Option Bool := some x56
def J1 (z : Nat) (x2 : api_Table) (x4282 : api_KV × Int) : Option Bool := Ck (0 < (x2.Indexes.length : Int)) (Bd (rowkey_TakeEntry.f z x2 (gi dapi_Index x2.Indexes 0) x4282.1) fun x5062 => Bd (rowkey_Part.f z x2 1 ([] : List api_Value) (api_Limit.mk true true (api_Value.mk 1 false 3 (⟨#[]⟩ : ByteArray))) (api_Limit.mk false false (api_Value.mk 0 false 0 (⟨#[]⟩ : ByteArray)))) fun x29 => Bd (rowkey_CatalogSpan.f) fun x36 => If (x4282.2 == 0) (If (x5062.2.2 == 0) (If ((x5062.1.length : Int) == 1) (Ck (0 < (x5062.1.length : Int)) (If ((gi dapi_Value x5062.1 0).Null) (If ((x5062.2.1.length : Int) == 1) (Ck (0 < (x5062.2.1.length : Int)) (If (((gi dapi_Value x5062.2.1 0).Int) == 5) (If (x29.2 == 0) (If ((x29.1.From.length : Int) == 27) (Ck (26 < (x29.1.From.length : Int)) (If ((gi (0 : Int) x29.1.From 26) == 3) (If ((x29.1.To.length : Int) == 18) (If ((bstr x36.From).toList == (⟨#[1]⟩ : ByteArray).toList) (J2 z ((bstr x36.To).toList == (⟨#[2]⟩ : ByteArray).toList)) (J2 z false)) (J2 z false)) (J2 z false))) (J2 z false)) (J2 z false)) (J2 z false))) (J2 z false)) (J2 z false))) (J2 z false)) (J2 z false)) (J2 z false))
def J0 (z : Nat) : Option Bool := some false
def f (z : Nat) : Option Bool := Bd (cormorantlaw20_made.f) fun x2 => Bd (rowkey_Row.f z x2 [(api_Value.mk 1 false 5 (⟨#[]⟩ : ByteArray)), (api_Value.mk 3 false 0 (⟨#[120]⟩ : ByteArray))]) fun x12 => Bd (rowkey_TakeRow.f z x2 x12.1) fun x19 => If (x12.2 != 0) (J0 z) (If (x19.2 != 0) (J0 z) (If ((x12.1.Key.length : Int) != 26) (J0 z) (If (!((bstr x12.1.Value).toList == (⟨#[1, 1, 120]⟩ : ByteArray).toList)) (J0 z) (If ((x19.1.length : Int) != 2) (J0 z) (Ck (1 < (x19.1.length : Int)) (Ck (1 < ([(api_Value.mk 1 false 5 (⟨#[]⟩ : ByteArray)), (api_Value.mk 3 false 0 (⟨#[120]⟩ : ByteArray))].length : Int)) (If (!(eqapi_Value (gi dapi_Value x19.1 1) (gi dapi_Value [(api_Value.mk 1 false 5 (⟨#[]⟩ : ByteArray)), (api_Value.mk 3 false 0 (⟨#[120]⟩ : ByteArray))] 1))) (J0 z) (Ck (0 < (x2.Indexes.length : Int)) (Bd (rowkey_Entry.f z x2 (gi dapi_Index x2.Indexes 0) ([(api_Value.mk 1 false 5 (⟨#[]⟩ : ByteArray)), (api_Value.mk 3 false 0 (⟨#[120]⟩ : ByteArray))].set (Int.toNat 1) (api_Value.mk 3 true 0 (⟨#[]⟩ : ByteArray)))) fun x4282 => J1 z x2 x4282)))))))))
noncomputable def ptJ2 : List Item := [.code (cr 12 c0)]
noncomputable def ptJ1 : List Item := [.code (cL (cr 8 c0)), .code (cr 9 c0)]
noncomputable def ptJ0 : List Item := [.code (cL (cT (cR (cL (cr 5 c0))))), .code (cR (cT (cR (cL (cr 5 c0))))), .code (cr 6 c0)]
abbrev y0 (x2 : api_Table) (A3 : OA) (k4 : Nat) (A5 : OA) (k6 : Nat) (A7 : OA) (k8 : Nat) : List Value := [.int .i64 x2.Id, .string x2.Name, .slice A3 x2.Columns.length k4, .slice A5 x2.Key.length k6, .slice A7 x2.Indexes.length k8]
abbrev y1 (b10 : Nat) : Atom := sl .own kapi_Value (some ⟨b10, 0, none⟩) 2 ([(api_Value.mk 1 false 5 (⟨#[]⟩ : ByteArray)), (api_Value.mk 3 false 0 (⟨#[120]⟩ : ByteArray))].set (Int.toNat 1) (api_Value.mk 3 true 0 (⟨#[]⟩ : ByteArray)))
abbrev y2 (A20 : OA) (k21 : Nat) (x19 : (List api_Value) × Int) (A3 : OA) (k4 : Nat) (x2 : api_Table) (A5 : OA) (k6 : Nat) (A7 : OA) (k8 : Nat) (A13 : OA) (k14 : Nat) (x12 : api_KV × Int) (A15 : OA) (k16 b17 b10 b9 : Nat) : List Atom := [sl .own kapi_Value A20 k21 x19.1, sl .ro kapi_Column A3 k4 x2.Columns, sl .ro ki64 A5 k6 x2.Key, sl .ro kapi_Index A7 k8 x2.Indexes, sl .ro ku8 A13 k14 x12.1.Key, sl .ro ku8 A15 k16 x12.1.Value, blk b17 [.slice A13 x12.1.Key.length k14, .slice A15 x12.1.Value.length k16], sl .own kapi_Value (some ⟨b10, 0, none⟩) 2 [(api_Value.mk 1 false 5 (⟨#[]⟩ : ByteArray)), (api_Value.mk 3 false 0 (⟨#[120]⟩ : ByteArray))], blk b9 (y0 x2 A3 k4 A5 k6 A7 k8)]
abbrev y3 (A7 : OA) (x2 : api_Table) (A4161 : OA) (k4162 : Nat) : Atom := cl A7 (Int.toNat 0 * 4) [.int .i64 ((gi dapi_Index x2.Indexes 0).Id), .string ((gi dapi_Index x2.Indexes 0).Name), .slice A4161 (((gi dapi_Index x2.Indexes 0).Columns).length) k4162, .bool ((gi dapi_Index x2.Indexes 0).Unique)]
abbrev y4 (A7 : OA) (x2 : api_Table) (A4941 : OA) (k4942 : Nat) : Atom := cl A7 (Int.toNat 0 * 4) [.int .i64 ((gi dapi_Index x2.Indexes 0).Id), .string ((gi dapi_Index x2.Indexes 0).Name), .slice A4941 (((gi dapi_Index x2.Indexes 0).Columns).length) k4942, .bool ((gi dapi_Index x2.Indexes 0).Unique)]
abbrev y5 (x2 : api_Table) (A4161 : OA) (k4162 : Nat) : Value := .agg #[.int .i64 ((gi dapi_Index x2.Indexes 0).Id), .string ((gi dapi_Index x2.Indexes 0).Name), .slice A4161 (((gi dapi_Index x2.Indexes 0).Columns).length) k4162, .bool ((gi dapi_Index x2.Indexes 0).Unique)]
abbrev y6 : api_Value := (api_Value.mk 3 false 0 (⟨#[120]⟩ : ByteArray))
abbrev y7 : api_Value := (api_Value.mk 1 false 5 (⟨#[]⟩ : ByteArray))
abbrev y8 (x2 : api_Table) (A3 : OA) (k4 : Nat) (A5 : OA) (k6 : Nat) (A7 : OA) (k8 : Nat) : Value := .agg #[.int .i64 x2.Id, .string x2.Name, .slice A3 x2.Columns.length k4, .slice A5 x2.Key.length k6, .slice A7 x2.Indexes.length k8]
abbrev y9 (A4283 : OA) (x4282 : api_KV × Int) (k4284 : Nat) (A4285 : OA) (k4286 : Nat) : Value := .agg #[.slice A4283 x4282.1.Key.length k4284, .slice A4285 x4282.1.Value.length k4286]
abbrev y10 (A3 : OA) (k4 : Nat) (x2 : api_Table) : Atom := sl .ro kapi_Column A3 k4 x2.Columns
abbrev y11 (A7 : OA) (k8 : Nat) (x2 : api_Table) : Atom := sl .ro kapi_Index A7 k8 x2.Indexes
abbrev y12 (x12 : api_KV × Int) : Option (Value × Bool) := some (.bool (!((bstr x12.1.Value).toList == (⟨#[1, 1, 120]⟩ : ByteArray).toList)), true)
abbrev y13 (A4283 : OA) (x4282 : api_KV × Int) (k4284 : Nat) (A4285 : OA) (k4286 : Nat) : List Value := [.slice A4283 x4282.1.Key.length k4284, .slice A4285 x4282.1.Value.length k4286]
abbrev y14 (A13 : OA) (x12 : api_KV × Int) (k14 : Nat) (A15 : OA) (k16 : Nat) : List Value := [.slice A13 x12.1.Key.length k14, .slice A15 x12.1.Value.length k16]
abbrev y15 (A4161 : OA) (k4162 : Nat) (x2 : api_Table) : Atom := sl .ro ki64 A4161 k4162 ((gi dapi_Index x2.Indexes 0).Columns)
abbrev y16 (x12 : api_KV × Int) : Option (Value × Bool) := some (.bool ((x12.1.Key.length : Int) != 26), true)
abbrev y17 (b10 : Nat) : Value := .slice (some ⟨b10, 0, none⟩) 2 2
abbrev y18 (A5 : OA) (k6 : Nat) (x2 : api_Table) : Atom := sl .ro ki64 A5 k6 x2.Key
abbrev y19 (x19 : (List api_Value) × Int) : Option (Value × Bool) := some (.bool (x19.2 != 0), true)
abbrev y20 (b9 : Nat) : Nat × Value := (1, .pointer (some ⟨b9, 0, none⟩))
abbrev y21 (A7 : OA) : Value := .pointer (some (eA A7 (Int.toNat 0 * 4)))
abbrev y22 : Value := .string (⟨#[]⟩ : ByteArray)
abbrev y23 (A4941 : OA) (k4942 : Nat) (x2 : api_Table) : Atom := sl .ro ki64 A4941 k4942 ((gi dapi_Index x2.Indexes 0).Columns)
abbrev y24 : List Value := [.slice none 0 0, .slice none 0 0]
abbrev y25 (x12 : api_KV × Int) : Option (Value × Bool) := some (.bool (x12.2 != 0), true)
abbrev y26 (b9 : Nat) : Option (Value × Bool) := some (.pointer (some ⟨b9, 4, none⟩), true)
abbrev y27 (A4285 : OA) (k4286 : Nat) (x4282 : api_KV × Int) : Atom := sl .ro ku8 A4285 k4286 x4282.1.Value
abbrev y28 : Atom := sl .ro kapi_Value none 0 ([] : List api_Value)
abbrev y29 (b4521 : Nat) : Value := .pointer (some ⟨b4521, 0, none⟩)
theorem J2_ok (F : List Atom) (r : Bool) (z : Nat) (x56 : Bool) (a : Act) (w : World) (T : Tm 160 [(0, .bool x56)] a) (S : SL ([] ++ F) w) (H : J2 z x56 = some r) : Gets Tryd.prog 5 ptJ2 a w (R F r) := by
 replace H := Option.some.inj H
 subst H
 exact rtn T Tryd.func5 rfl rfl ⟨rfl, (S.only (p := []) [] rfl)⟩
theorem J1_ok (F : List Atom) (r : Bool) (z b9 b4521 : Nat) (x4282 : api_KV × Int) (x2 : api_Table) (A3 : OA) (k4 : Nat) (A5 : OA) (k6 : Nat) (A7 : OA) (k8 : Nat) (A4283 : OA) (k4284 : Nat) (A4285 : OA) (k4286 : Nat) (a : Act) (w : World) (T : Tm 160 [(y20 b9), (7, (y29 b4521)), (8, .int .i64 x4282.2)] a) (S : SL ([blk b9 (y0 x2 A3 k4 A5 k6 A7 k8), (y10 A3 k4 x2), (y18 A5 k6 x2), (y11 A7 k8 x2), blk b4521 (y13 A4283 x4282 k4284 A4285 k4286), sl .ro ku8 A4283 k4284 x4282.1.Key, (y27 A4285 k4286 x4282)] ++ F) w) (H : J1 z x2 x4282 = some r) : Gets Tryd.prog 5 ptJ1 a w (R F r) := by
 obtain ⟨h4881, H⟩ := ck H
 obtain ⟨_, S⟩ := S.peek (ix := 3) (off := 0) (i := 0) rfl dapi_Index (Fld.all _) (by decide) h4881
 obtain ⟨A4941, k4942, hv_, S_⟩ := op_api_Index (l := _ :: _) S
 subst hv_
 replace S := S_
 refine Gets.drawn (l := [(y23 A4941 k4942 x2), (y4 A7 x2 A4941 k4942), blk b9 (y0 x2 A3 k4 A5 k6 A7 k8), (y10 A3 k4 x2), (y18 A5 k6 x2), (y11 A7 k8 x2), blk b4521 (y13 A4283 x4282 k4284 A4285 k4286), sl .ro ku8 A4283 k4284 x4282.1.Key, (y27 A4285 k4286 x4282)]) (V := [some ((y8 x2 A3 k4 A5 k6 A7 k8), true), (y26 b9), some (.slice A7 x2.Indexes.length k8, true), some ((y21 A7), true), some (.agg #[.int .i64 ((gi dapi_Index x2.Indexes 0).Id), .string ((gi dapi_Index x2.Indexes 0).Name), .slice A4941 (((gi dapi_Index x2.Indexes 0).Columns).length) k4942, .bool ((gi dapi_Index x2.Indexes 0).Unique)], true), some ((y9 A4283 x4282 k4284 A4285 k4286), true), none, none, none, none, none, none, none, none]) mixed T S rfl ?_
 refine stage (some 6) rfl rfl ⟨⟨_, _, rfl, (avl [1] rfl), fun _ _ _ T S => r_ldBA (ix := 2) (ds := (y0 x2 A3 k4 A5 k6 A7 k8)) T S rfl Tryd.isAgg26 rfl rfl Tryd.sizeOf26 rfl fun _ T => ⟨rfl, T⟩⟩, ⟨_, _, rfl, (avl [1] rfl), fun _ _ _ T S => r_fa (o' := 4) T rfl Tryd.runUnderlying26 rfl Tryd.sizeOf24 rfl rfl fun _ T => ⟨rfl, T⟩⟩, ⟨_, _, rfl, (avl [78] rfl), fun _ _ _ T S => r_ldB (ix := 2) T S rfl Tryd.isAgg24 rfl rfl rfl fun _ T => ⟨rfl, T⟩⟩, ⟨_, _, rfl, (avl [79] rfl), fun _ _ _ T S => r_ia (ix := 5) T S rfl rfl rfl rfl Tryd.runUnderlying24 Tryd.sizeOf46 (by decide) h4881 rfl fun _ T => ⟨rfl, T⟩⟩, ⟨_, _, rfl, (avl [80] rfl), fun _ _ _ T S => r_ldCA (ix := 1) (A := A7) T S rfl rfl rfl Tryd.isAgg46 Tryd.sizeOf46 rfl fun _ T => ⟨rfl, T⟩⟩, ⟨_, _, rfl, (avl [7] rfl), fun _ _ _ T S => r_ldBA (ix := 6) (ds := (y13 A4283 x4282 k4284 A4285 k4286)) T S rfl Tryd.isAgg31 rfl rfl Tryd.sizeOf31 rfl fun _ T => ⟨rfl, T⟩⟩, trivial⟩ rfl (fun i hi => ?_) (fun h => by cases h)
 cases hi
 refine ⟨rfl, _, _, rfl, (avl [77, 81, 82] rfl), fun u a w T S => ?_⟩
 obtain ⟨x5062, h5061, H⟩ := bd H
 refine r_call T Tryd.call14 rfl rfl (rowkey_TakeEntry.ok _ _ z x2 (gi dapi_Index x2.Indexes 0) x4282.1 (S.sel (p := [(y10 A3 k4 x2), (y18 A5 k6 x2), (y11 A7 k8 x2), (y23 A4941 k4942 x2), sl .ro ku8 A4283 k4284 x4282.1.Key, (y27 A4285 k4286 x4282)]) (is := [3, 3, 3, 0, 3, 3]) rfl) _ h5061) ?_
 rintro _ _ ⟨A5063, k5064, A5065, k5066, rfl, S⟩
 refine ⟨_, rfl, fun _ T => ?_⟩
 replace S : SL ([sl .own kapi_Value A5063 k5064 x5062.1, sl .own kapi_Value A5065 k5066 x5062.2.1, (y10 A3 k4 x2), (y18 A5 k6 x2), (y11 A7 k8 x2), (y23 A4941 k4942 x2), sl .ro ku8 A4283 k4284 x4282.1.Key, (y27 A4285 k4286 x4282), (y4 A7 x2 A4941 k4942), blk b9 (y0 x2 A3 k4 A5 k6 A7 k8), blk b4521 (y13 A4283 x4282 k4284 A4285 k4286)] ++ F) _ := S.join
 refine ⟨_, [some ((y8 x2 A3 k4 A5 k6 A7 k8), false), (y26 b9), some (.slice A7 x2.Indexes.length k8, true), some ((y21 A7), true), some (.agg #[.int .i64 ((gi dapi_Index x2.Indexes 0).Id), .string ((gi dapi_Index x2.Indexes 0).Name), .slice A4941 (((gi dapi_Index x2.Indexes 0).Columns).length) k4942, .bool ((gi dapi_Index x2.Indexes 0).Unique)], false), some ((y9 A4283 x4282 k4284 A4285 k4286), false), some (.tuple #[.slice A5063 x5062.1.length k5064, .slice A5065 x5062.2.1.length k5066, .int .i64 x5062.2.2], false), some (.tuple #[.slice A5063 x5062.1.length k5064, .slice A5065 x5062.2.1.length k5066, .int .i64 x5062.2.2], true), some (.slice A5063 x5062.1.length k5064, true), some (.slice A5065 x5062.2.1.length k5066, true), some (.int .i64 x5062.2.2, true), some (.slice A5063 x5062.1.length k5064, true), some (.slice A5065 x5062.2.1.length k5066, true), some (.int .i64 x5062.2.2, true)], [sl .own kapi_Value A5063 k5064 x5062.1, sl .own kapi_Value A5065 k5066 x5062.2.1, (y10 A3 k4 x2), (y18 A5 k6 x2), (y11 A7 k8 x2), (y23 A4941 k4942 x2), sl .ro ku8 A4283 k4284 x4282.1.Key, (y27 A4285 k4286 x4282), (y4 A7 x2 A4941 k4942), blk b9 (y0 x2 A3 k4 A5 k6 A7 k8), blk b4521 (y13 A4283 x4282 k4284 A4285 k4286)], rfl, (by repeat first | exact kx0 | apply kxs | apply kxn), rfl, ?_, T, S⟩
 refine stage none rfl rfl ⟨⟨_, _, rfl, (avl [1] rfl), fun _ _ _ T S => r_fa (o' := 4) T rfl Tryd.runUnderlying26 rfl Tryd.sizeOf24 rfl rfl fun _ T => ⟨rfl, T⟩⟩, ⟨_, _, rfl, (avl [78] rfl), fun _ _ _ T S => r_ldB (ix := 9) T S rfl Tryd.isAgg24 rfl rfl rfl fun _ T => ⟨rfl, T⟩⟩, ⟨_, _, rfl, (avl [79] rfl), fun _ _ _ T S => r_ia (ix := 4) T S rfl rfl rfl rfl Tryd.runUnderlying24 Tryd.sizeOf46 (by decide) h4881 rfl fun _ T => ⟨rfl, T⟩⟩, ⟨_, _, rfl, (avl [83] rfl), fun _ _ _ T S => r_pv T rfl rfl fun _ T => ⟨rfl, T⟩⟩, ⟨_, _, rfl, (avl [76] rfl), fun _ _ _ T S => r_pv T rfl rfl fun _ T => ⟨rfl, T⟩⟩, ⟨_, _, rfl, (avl [76] rfl), fun _ _ _ T S => r_pv T rfl rfl fun _ T => ⟨rfl, T⟩⟩, ⟨_, _, rfl, (avl [76] rfl), fun _ _ _ T S => r_pv T rfl rfl fun _ T => ⟨rfl, T⟩⟩, ⟨_, _, rfl, (avl [84] rfl), fun _ _ _ T S => r_pv T rfl rfl fun _ T => ⟨rfl, T⟩⟩, ⟨_, _, rfl, (avl [85] rfl), fun _ _ _ T S => r_pv T rfl rfl fun _ T => ⟨rfl, T⟩⟩, ⟨_, _, rfl, (avl [86] rfl), fun _ _ _ T S => r_pv T rfl rfl fun _ T => ⟨rfl, T⟩⟩, trivial⟩ rfl (fun i hi => by cases hi) (fun _ _ a w T hv hb S => ?_)
 replace T := T.sub (r := [(y20 b9), (8, .int .i64 x4282.2), (9, .slice A5063 x5062.1.length k5064), (10, .slice A5065 x5062.2.1.length k5066), (11, .int .i64 x5062.2.2)]) ⟨hb 1 _ rfl rfl, hb 8 _ rfl rfl, hv 11 _ 9 rfl rfl rfl, hv 12 _ 10 rfl rfl rfl, hv 13 _ 11 rfl rfl rfl, trivial⟩
 refine Gets.seq (rg (r_ldBA (ix := 9) (ds := (y0 x2 A3 k4 A5 k6 A7 k8)) T S rfl Tryd.isAgg26 rfl rfl Tryd.sizeOf26 rfl fun _ T => r_build (cs := #[.int .i64 1, .bool false, .int .i64 3, (y22)]) T stt43 rfl rfl rfl fun _ T => ?_))
 refine r_build (cs := #[.bool true, .bool true, .int .i64 1, .bool false, .int .i64 3, (y22)]) T stt54 rfl rfl rfl fun _ T => r_build (cs := #[.bool false, .bool false, .int .i64 0, .bool false, .int .i64 0, (y22)]) T stt54 rfl rfl rfl fun _ T => ?_
 replace S := S.nil kapi_Value .ro
 obtain ⟨x29, h28, H⟩ := bd H
 refine r_call T Tryd.call15 rfl rfl (rowkey_Part.ok _ _ z x2 1 ([] : List api_Value) (api_Limit.mk true true (api_Value.mk 1 false 3 (⟨#[]⟩ : ByteArray))) (api_Limit.mk false false (api_Value.mk 0 false 0 (⟨#[]⟩ : ByteArray))) (S.sel (p := [(y10 A3 k4 x2), (y18 A5 k6 x2), (y11 A7 k8 x2), (y28)]) (is := [3, 3, 3, 0]) rfl) _ h28) ?_
 rintro _ _ ⟨A30, k31, A32, k33, rfl, S⟩
 refine ⟨_, rfl, fun _ T => ?_⟩
 replace S : SL ([sl .ro ku8 A30 k31 x29.1.From, sl .ro ku8 A32 k33 x29.1.To, (y10 A3 k4 x2), (y18 A5 k6 x2), (y11 A7 k8 x2), (y28), sl .own kapi_Value A5063 k5064 x5062.1, sl .own kapi_Value A5065 k5066 x5062.2.1, (y23 A4941 k4942 x2), sl .ro ku8 A4283 k4284 x4282.1.Key, (y27 A4285 k4286 x4282), (y4 A7 x2 A4941 k4942), blk b9 (y0 x2 A3 k4 A5 k6 A7 k8), blk b4521 (y13 A4283 x4282 k4284 A4285 k4286)] ++ F) _ := S.join
 refine r_pv T rfl rfl fun _ T => r_pv T rfl rfl fun _ T => r_pv T rfl rfl fun _ T => r_alloc T S zv50 (cs := (y24)) rfl rfl fun _ _ b34 S T => ?_
 refine r_stBA (ix := 0) (vs := [.slice A30 x29.1.From.length k31, .slice A32 x29.1.To.length k33]) (l' := [blk b34 [.slice A30 x29.1.From.length k31, .slice A32 x29.1.To.length k33], sl .ro ku8 A30 k31 x29.1.From, sl .ro ku8 A32 k33 x29.1.To, (y10 A3 k4 x2), (y18 A5 k6 x2), (y11 A7 k8 x2), (y28), sl .own kapi_Value A5063 k5064 x5062.1, sl .own kapi_Value A5065 k5066 x5062.2.1, (y23 A4941 k4942 x2), sl .ro ku8 A4283 k4284 x4282.1.Key, (y27 A4285 k4286 x4282), (y4 A7 x2 A4941 k4942), blk b9 (y0 x2 A3 k4 A5 k6 A7 k8), blk b4521 (y13 A4283 x4282 k4284 A4285 k4286)]) T S rfl rfl rfl rfl (by simp) Tryd.sizeOf50 (Nat.le_of_ble_eq_true rfl) rfl fun _ S => ?_
 refine r_pv T rfl rfl fun _ T => Gets.seq (rg ?_)
 obtain ⟨x36, h35, H⟩ := bd H
 refine r_call T Tryd.call16 rfl rfl (rowkey_CatalogSpan.ok _ _  (S.sel (p := []) (is := []) rfl) _ h35) ?_
 rintro _ _ ⟨A37, k38, A39, k40, rfl, S⟩
 refine ⟨_, rfl, fun _ T => ?_⟩
 replace S : SL ([sl .ro ku8 A37 k38 x36.From, sl .ro ku8 A39 k40 x36.To, blk b34 [.slice A30 x29.1.From.length k31, .slice A32 x29.1.To.length k33], sl .ro ku8 A30 k31 x29.1.From, sl .ro ku8 A32 k33 x29.1.To, (y10 A3 k4 x2), (y18 A5 k6 x2), (y11 A7 k8 x2), (y28), sl .own kapi_Value A5063 k5064 x5062.1, sl .own kapi_Value A5065 k5066 x5062.2.1, (y23 A4941 k4942 x2), sl .ro ku8 A4283 k4284 x4282.1.Key, (y27 A4285 k4286 x4282), (y4 A7 x2 A4941 k4942), blk b9 (y0 x2 A3 k4 A5 k6 A7 k8), blk b4521 (y13 A4283 x4282 k4284 A4285 k4286)] ++ F) _ := S.join
 refine r_alloc T S zv50 (cs := (y24)) rfl rfl fun _ _ b41 S T => r_stBA (ix := 0) (vs := [.slice A37 x36.From.length k38, .slice A39 x36.To.length k40]) (l' := [blk b41 [.slice A37 x36.From.length k38, .slice A39 x36.To.length k40], sl .ro ku8 A37 k38 x36.From, sl .ro ku8 A39 k40 x36.To, blk b34 [.slice A30 x29.1.From.length k31, .slice A32 x29.1.To.length k33], sl .ro ku8 A30 k31 x29.1.From, sl .ro ku8 A32 k33 x29.1.To, (y10 A3 k4 x2), (y18 A5 k6 x2), (y11 A7 k8 x2), (y28), sl .own kapi_Value A5063 k5064 x5062.1, sl .own kapi_Value A5065 k5066 x5062.2.1, (y23 A4941 k4942 x2), sl .ro ku8 A4283 k4284 x4282.1.Key, (y27 A4285 k4286 x4282), (y4 A7 x2 A4941 k4942), blk b9 (y0 x2 A3 k4 A5 k6 A7 k8), blk b4521 (y13 A4283 x4282 k4284 A4285 k4286)]) T S rfl rfl rfl rfl (by simp) Tryd.sizeOf50 (Nat.le_of_ble_eq_true rfl) rfl fun _ S => ?_
 refine Gets.seq (rg (r_pv T rfl rfl fun _ T => r_pv T rfl rfl fun _ T => ?_))
 refine r_pv T rfl rfl fun _ T => ?_
 rcases ifE H with ⟨h42, H⟩ | ⟨h42, H⟩
 ·refine g_yes T rfl rfl h42 ?_
  refine r_pv T rfl rfl fun _ T => g_yes T rfl rfl h42 (r_pv T rfl rfl fun _ T => r_pickT T rfl h42 rfl rfl fun _ T => ?_)
  refine r_pv T rfl rfl fun _ T => ?_
  rcases ifE H with ⟨h43, H⟩ | ⟨h43, H⟩
  ·refine g_yes T rfl rfl h43 ?_
   refine r_pv T rfl rfl fun _ T => g_yes T rfl rfl h43 (r_lenS T rfl Tryd.runUnderlying27 rfl fun _ T => g_yes T rfl rfl h43 ?_)
   refine r_pv T rfl rfl fun _ T => r_pickT T rfl h43 rfl rfl fun _ T => r_pv T rfl rfl fun _ T => ?_
   rcases ifE H with ⟨h44, H⟩ | ⟨h44, H⟩
   ·refine g_yes T rfl rfl h44 ?_
    refine r_pv T rfl rfl fun _ T => g_yes T rfl rfl h44 ?_
    obtain ⟨h45, H⟩ := ck H
    refine r_ia (ix := 10) T S rfl rfl rfl rfl Tryd.runUnderlying27 Tryd.sizeOf43 (by decide) h45 rfl fun _ T => ?_
    refine g_yes T rfl rfl h44 (r_faE T rfl Tryd.runUnderlying43 rfl Tryd.sizeOf4 rfl fun _ T => g_yes T rfl rfl h44 (r_ldE (ix := 10) (i := 0) (off := 1) (f := Value.bool) T S rfl Tryd.isAgg4 rfl dapi_Value _ rfl rfl fld_api_Value_Null (by decide) h45 (fun h => h) rfl fun _ T => ?_))
    refine r_pickT T rfl h44 rfl rfl fun _ T => r_pv T rfl rfl fun _ T => ?_
    rcases ifE H with ⟨h46, H⟩ | ⟨h46, H⟩
    ·refine g_yes T rfl rfl h46 ?_
     refine r_pv T rfl rfl fun _ T => g_yes T rfl rfl h46 (r_lenS T rfl Tryd.runUnderlying27 rfl fun _ T => g_yes T rfl rfl h46 ?_)
     refine r_pv T rfl rfl fun _ T => r_pickT T rfl h46 rfl rfl fun _ T => r_pv T rfl rfl fun _ T => ?_
     rcases ifE H with ⟨h47, H⟩ | ⟨h47, H⟩
     ·refine g_yes T rfl rfl h47 ?_
      refine r_pv T rfl rfl fun _ T => g_yes T rfl rfl h47 ?_
      obtain ⟨h48, H⟩ := ck H
      refine r_ia (ix := 11) T S rfl rfl rfl rfl Tryd.runUnderlying27 Tryd.sizeOf43 (by decide) h48 rfl fun _ T => ?_
      refine g_yes T rfl rfl h47 (r_faE T rfl Tryd.runUnderlying43 rfl Tryd.sizeOf2 rfl fun _ T => g_yes T rfl rfl h47 (r_ldE (ix := 11) (i := 0) (off := 2) (f := (Value.int .i64)) T S rfl Tryd.isAgg2 rfl dapi_Value _ rfl rfl fld_api_Value_Int (by decide) h48 (fun h => h) rfl fun _ T => ?_))
      refine g_yes T rfl rfl h47 (r_pv T rfl rfl fun _ T => r_pickT T rfl h47 rfl rfl fun _ T => r_pv T rfl rfl fun _ T => ?_)
      rcases ifE H with ⟨h49, H⟩ | ⟨h49, H⟩
      ·refine g_yes T rfl rfl h49 ?_
       refine r_pv T rfl rfl fun _ T => g_yes T rfl rfl h49 (r_pv T rfl rfl fun _ T => r_pickT T rfl h49 rfl rfl fun _ T => ?_)
       refine r_pv T rfl rfl fun _ T => ?_
       rcases ifE H with ⟨h50, H⟩ | ⟨h50, H⟩
       ·refine g_yes T rfl rfl h50 ?_
        refine r_fa (o' := 0) T rfl Tryd.runUnderlying50 rfl Tryd.sizeOf29 rfl rfl fun _ T => g_yes T rfl rfl h50 (r_ldB (ix := 3) T S rfl Tryd.isAgg29 rfl rfl rfl fun _ T => g_yes T rfl rfl h50 ?_)
        refine r_lenS T rfl Tryd.runUnderlying29 rfl fun _ T => g_yes T rfl rfl h50 (r_pv T rfl rfl fun _ T => r_pickT T rfl h50 rfl rfl fun _ T => ?_)
        refine r_pv T rfl rfl fun _ T => ?_
        rcases ifE H with ⟨h51, H⟩ | ⟨h51, H⟩
        ·refine g_yes T rfl rfl h51 ?_
         refine r_fa (o' := 0) T rfl Tryd.runUnderlying50 rfl Tryd.sizeOf29 rfl rfl fun _ T => g_yes T rfl rfl h51 (r_ldB (ix := 3) T S rfl Tryd.isAgg29 rfl rfl rfl fun _ T => g_yes T rfl rfl h51 ?_)
         obtain ⟨h52, H⟩ := ck H
         refine r_ia (ix := 4) T S rfl rfl rfl rfl Tryd.runUnderlying29 Tryd.sizeOf5 (by decide) h52 rfl fun _ T => ?_
         refine g_yes T rfl rfl h51 (r_ldE (ix := 4) (i := 26) (off := 0) (f := (Value.int .u8)) T S rfl Tryd.isAgg5 rfl (0 : Int) _ rfl rfl (Fld.all _) (by decide) h52 (fun h => h) rfl fun _ T => ?_)
         refine g_yes T rfl rfl h51 (r_pv T rfl rfl fun _ T => r_pickT T rfl h51 rfl rfl fun _ T => r_pv T rfl rfl fun _ T => ?_)
         rcases ifE H with ⟨h53, H⟩ | ⟨h53, H⟩
         ·refine g_yes T rfl rfl h53 ?_
          refine r_fa (o' := 1) T rfl Tryd.runUnderlying50 rfl Tryd.sizeOf29 rfl rfl fun _ T => g_yes T rfl rfl h53 (r_ldB (ix := 3) T S rfl Tryd.isAgg29 rfl rfl rfl fun _ T => g_yes T rfl rfl h53 ?_)
          refine r_lenS T rfl Tryd.runUnderlying29 rfl fun _ T => g_yes T rfl rfl h53 (r_pv T rfl rfl fun _ T => r_pickT T rfl h53 rfl rfl fun _ T => ?_)
          refine r_pv T rfl rfl fun _ T => ?_
          rcases ifE H with ⟨h54, H⟩ | ⟨h54, H⟩
          ·refine g_yes T rfl rfl h54 ?_
           refine r_fa (o' := 0) T rfl Tryd.runUnderlying50 rfl Tryd.sizeOf29 rfl rfl fun _ T => g_yes T rfl rfl h54 (r_ldB (ix := 0) T S rfl Tryd.isAgg29 rfl rfl rfl fun _ T => g_yes T rfl rfl h54 ?_)
           refine r_b2s (ix := 1) (xs := x36.From) T S rfl rfl Tryd.runUnderlying29 Tryd.runUnderlying9 Tryd.runUnderlying5 rfl fun _ T => g_yes T rfl rfl h54 (r_pv T rfl rfl fun _ T => r_pickT T rfl h54 rfl rfl fun _ T => ?_)
           refine r_pv T rfl rfl fun _ T => ?_
           rcases ifE H with ⟨h55, H⟩ | ⟨h55, H⟩
           ·refine g_yes T rfl rfl h55 ?_
            refine r_fa (o' := 1) T rfl Tryd.runUnderlying50 rfl Tryd.sizeOf29 rfl rfl fun _ T => g_yes T rfl rfl h55 (r_ldB (ix := 0) T S rfl Tryd.isAgg29 rfl rfl rfl fun _ T => g_yes T rfl rfl h55 ?_)
            refine r_b2s (ix := 2) (xs := x36.To) T S rfl rfl Tryd.runUnderlying29 Tryd.runUnderlying9 Tryd.runUnderlying5 rfl fun _ T => g_yes T rfl rfl h55 (r_pv T rfl rfl fun _ T => r_pickT T rfl h55 rfl rfl fun _ T => ?_)
            refine r_pv T rfl rfl fun _ T => ?_
            exact J2_ok F r z ((bstr x36.To).toList == (⟨#[2]⟩ : ByteArray).toList) _ _ (T.sub ⟨rfl, trivial⟩) (S.only (p := []) [] rfl) H
           ·refine g_no T rfl rfl h55 rfl fun _ T => ?_
            refine g_no T rfl rfl h55 rfl fun _ T => g_no T rfl rfl h55 rfl fun _ T => g_no T rfl rfl h55 rfl fun _ T => r_pickF T rfl h55 rfl rfl fun _ T => ?_
            refine r_pv T rfl rfl fun _ T => ?_
            exact J2_ok F r z false _ _ (T.sub ⟨rfl, trivial⟩) (S.only (p := []) [] rfl) H
          ·refine g_no T rfl rfl h54 rfl fun _ T => ?_
           refine g_no T rfl rfl h54 rfl fun _ T => g_no T rfl rfl h54 rfl fun _ T => g_no T rfl rfl h54 rfl fun _ T => r_pickF T rfl h54 rfl rfl fun _ T => ?_
           refine r_pv T rfl rfl fun _ T => g_no T rfl rfl rfl rfl fun _ T => g_no T rfl rfl rfl rfl fun _ T => g_no T rfl rfl rfl rfl fun _ T => ?_
           refine g_no T rfl rfl rfl rfl fun _ T => r_pickF T rfl rfl rfl rfl fun _ T => r_pv T rfl rfl fun _ T => ?_
           exact J2_ok F r z false _ _ (T.sub ⟨rfl, trivial⟩) (S.only (p := []) [] rfl) H
         ·refine g_no T rfl rfl h53 rfl fun _ T => ?_
          refine g_no T rfl rfl h53 rfl fun _ T => g_no T rfl rfl h53 rfl fun _ T => g_no T rfl rfl h53 rfl fun _ T => r_pickF T rfl h53 rfl rfl fun _ T => ?_
          refine r_pv T rfl rfl fun _ T => g_no T rfl rfl rfl rfl fun _ T => g_no T rfl rfl rfl rfl fun _ T => g_no T rfl rfl rfl rfl fun _ T => ?_
          refine g_no T rfl rfl rfl rfl fun _ T => r_pickF T rfl rfl rfl rfl fun _ T => r_pv T rfl rfl fun _ T => g_no T rfl rfl rfl rfl fun _ T => ?_
          refine g_no T rfl rfl rfl rfl fun _ T => g_no T rfl rfl rfl rfl fun _ T => g_no T rfl rfl rfl rfl fun _ T => r_pickF T rfl rfl rfl rfl fun _ T => ?_
          refine r_pv T rfl rfl fun _ T => ?_
          exact J2_ok F r z false _ _ (T.sub ⟨rfl, trivial⟩) (S.only (p := []) [] rfl) H
        ·refine g_no T rfl rfl h51 rfl fun _ T => ?_
         refine g_no T rfl rfl h51 rfl fun _ T => g_no T rfl rfl h51 rfl fun _ T => g_no T rfl rfl h51 rfl fun _ T => g_no T rfl rfl h51 rfl fun _ T => ?_
         refine r_pickF T rfl h51 rfl rfl fun _ T => r_pv T rfl rfl fun _ T => g_no T rfl rfl rfl rfl fun _ T => g_no T rfl rfl rfl rfl fun _ T => ?_
         refine g_no T rfl rfl rfl rfl fun _ T => g_no T rfl rfl rfl rfl fun _ T => r_pickF T rfl rfl rfl rfl fun _ T => r_pv T rfl rfl fun _ T => ?_
         refine g_no T rfl rfl rfl rfl fun _ T => g_no T rfl rfl rfl rfl fun _ T => g_no T rfl rfl rfl rfl fun _ T => g_no T rfl rfl rfl rfl fun _ T => ?_
         refine r_pickF T rfl rfl rfl rfl fun _ T => r_pv T rfl rfl fun _ T => g_no T rfl rfl rfl rfl fun _ T => g_no T rfl rfl rfl rfl fun _ T => ?_
         refine g_no T rfl rfl rfl rfl fun _ T => g_no T rfl rfl rfl rfl fun _ T => r_pickF T rfl rfl rfl rfl fun _ T => r_pv T rfl rfl fun _ T => ?_
         exact J2_ok F r z false _ _ (T.sub ⟨rfl, trivial⟩) (S.only (p := []) [] rfl) H
       ·refine g_no T rfl rfl h50 rfl fun _ T => ?_
        refine g_no T rfl rfl h50 rfl fun _ T => g_no T rfl rfl h50 rfl fun _ T => g_no T rfl rfl h50 rfl fun _ T => r_pickF T rfl h50 rfl rfl fun _ T => ?_
        refine r_pv T rfl rfl fun _ T => g_no T rfl rfl rfl rfl fun _ T => g_no T rfl rfl rfl rfl fun _ T => g_no T rfl rfl rfl rfl fun _ T => ?_
        refine g_no T rfl rfl rfl rfl fun _ T => g_no T rfl rfl rfl rfl fun _ T => r_pickF T rfl rfl rfl rfl fun _ T => r_pv T rfl rfl fun _ T => ?_
        refine g_no T rfl rfl rfl rfl fun _ T => g_no T rfl rfl rfl rfl fun _ T => g_no T rfl rfl rfl rfl fun _ T => g_no T rfl rfl rfl rfl fun _ T => ?_
        refine r_pickF T rfl rfl rfl rfl fun _ T => r_pv T rfl rfl fun _ T => g_no T rfl rfl rfl rfl fun _ T => g_no T rfl rfl rfl rfl fun _ T => ?_
        refine g_no T rfl rfl rfl rfl fun _ T => g_no T rfl rfl rfl rfl fun _ T => r_pickF T rfl rfl rfl rfl fun _ T => r_pv T rfl rfl fun _ T => ?_
        refine g_no T rfl rfl rfl rfl fun _ T => g_no T rfl rfl rfl rfl fun _ T => g_no T rfl rfl rfl rfl fun _ T => g_no T rfl rfl rfl rfl fun _ T => ?_
        refine r_pickF T rfl rfl rfl rfl fun _ T => r_pv T rfl rfl fun _ T => ?_
        exact J2_ok F r z false _ _ (T.sub ⟨rfl, trivial⟩) (S.only (p := []) [] rfl) H
      ·refine g_no T rfl rfl h49 rfl fun _ T => ?_
       refine g_no T rfl rfl h49 rfl fun _ T => r_pickF T rfl h49 rfl rfl fun _ T => r_pv T rfl rfl fun _ T => g_no T rfl rfl rfl rfl fun _ T => ?_
       refine g_no T rfl rfl rfl rfl fun _ T => g_no T rfl rfl rfl rfl fun _ T => g_no T rfl rfl rfl rfl fun _ T => r_pickF T rfl rfl rfl rfl fun _ T => ?_
       refine r_pv T rfl rfl fun _ T => g_no T rfl rfl rfl rfl fun _ T => g_no T rfl rfl rfl rfl fun _ T => g_no T rfl rfl rfl rfl fun _ T => ?_
       refine g_no T rfl rfl rfl rfl fun _ T => g_no T rfl rfl rfl rfl fun _ T => r_pickF T rfl rfl rfl rfl fun _ T => r_pv T rfl rfl fun _ T => ?_
       refine g_no T rfl rfl rfl rfl fun _ T => g_no T rfl rfl rfl rfl fun _ T => g_no T rfl rfl rfl rfl fun _ T => g_no T rfl rfl rfl rfl fun _ T => ?_
       refine r_pickF T rfl rfl rfl rfl fun _ T => r_pv T rfl rfl fun _ T => g_no T rfl rfl rfl rfl fun _ T => g_no T rfl rfl rfl rfl fun _ T => ?_
       refine g_no T rfl rfl rfl rfl fun _ T => g_no T rfl rfl rfl rfl fun _ T => r_pickF T rfl rfl rfl rfl fun _ T => r_pv T rfl rfl fun _ T => ?_
       refine g_no T rfl rfl rfl rfl fun _ T => g_no T rfl rfl rfl rfl fun _ T => g_no T rfl rfl rfl rfl fun _ T => g_no T rfl rfl rfl rfl fun _ T => ?_
       refine r_pickF T rfl rfl rfl rfl fun _ T => r_pv T rfl rfl fun _ T => ?_
       exact J2_ok F r z false _ _ (T.sub ⟨rfl, trivial⟩) (S.only (p := []) [] rfl) H
     ·refine g_no T rfl rfl h47 rfl fun _ T => ?_
      refine g_no T rfl rfl h47 rfl fun _ T => g_no T rfl rfl h47 rfl fun _ T => g_no T rfl rfl h47 rfl fun _ T => g_no T rfl rfl h47 rfl fun _ T => ?_
      refine r_pickF T rfl h47 rfl rfl fun _ T => r_pv T rfl rfl fun _ T => g_no T rfl rfl rfl rfl fun _ T => g_no T rfl rfl rfl rfl fun _ T => ?_
      refine r_pickF T rfl rfl rfl rfl fun _ T => r_pv T rfl rfl fun _ T => g_no T rfl rfl rfl rfl fun _ T => g_no T rfl rfl rfl rfl fun _ T => ?_
      refine g_no T rfl rfl rfl rfl fun _ T => g_no T rfl rfl rfl rfl fun _ T => r_pickF T rfl rfl rfl rfl fun _ T => r_pv T rfl rfl fun _ T => ?_
      refine g_no T rfl rfl rfl rfl fun _ T => g_no T rfl rfl rfl rfl fun _ T => g_no T rfl rfl rfl rfl fun _ T => g_no T rfl rfl rfl rfl fun _ T => ?_
      refine g_no T rfl rfl rfl rfl fun _ T => r_pickF T rfl rfl rfl rfl fun _ T => r_pv T rfl rfl fun _ T => g_no T rfl rfl rfl rfl fun _ T => ?_
      refine g_no T rfl rfl rfl rfl fun _ T => g_no T rfl rfl rfl rfl fun _ T => g_no T rfl rfl rfl rfl fun _ T => r_pickF T rfl rfl rfl rfl fun _ T => ?_
      refine r_pv T rfl rfl fun _ T => g_no T rfl rfl rfl rfl fun _ T => g_no T rfl rfl rfl rfl fun _ T => g_no T rfl rfl rfl rfl fun _ T => ?_
      refine g_no T rfl rfl rfl rfl fun _ T => r_pickF T rfl rfl rfl rfl fun _ T => r_pv T rfl rfl fun _ T => g_no T rfl rfl rfl rfl fun _ T => ?_
      refine g_no T rfl rfl rfl rfl fun _ T => g_no T rfl rfl rfl rfl fun _ T => g_no T rfl rfl rfl rfl fun _ T => r_pickF T rfl rfl rfl rfl fun _ T => ?_
      refine r_pv T rfl rfl fun _ T => ?_
      exact J2_ok F r z false _ _ (T.sub ⟨rfl, trivial⟩) (S.only (p := []) [] rfl) H
    ·refine g_no T rfl rfl h46 rfl fun _ T => ?_
     refine g_no T rfl rfl h46 rfl fun _ T => g_no T rfl rfl h46 rfl fun _ T => r_pickF T rfl h46 rfl rfl fun _ T => r_pv T rfl rfl fun _ T => ?_
     refine g_no T rfl rfl rfl rfl fun _ T => g_no T rfl rfl rfl rfl fun _ T => g_no T rfl rfl rfl rfl fun _ T => g_no T rfl rfl rfl rfl fun _ T => ?_
     refine g_no T rfl rfl rfl rfl fun _ T => r_pickF T rfl rfl rfl rfl fun _ T => r_pv T rfl rfl fun _ T => g_no T rfl rfl rfl rfl fun _ T => ?_
     refine g_no T rfl rfl rfl rfl fun _ T => r_pickF T rfl rfl rfl rfl fun _ T => r_pv T rfl rfl fun _ T => g_no T rfl rfl rfl rfl fun _ T => ?_
     refine g_no T rfl rfl rfl rfl fun _ T => g_no T rfl rfl rfl rfl fun _ T => g_no T rfl rfl rfl rfl fun _ T => r_pickF T rfl rfl rfl rfl fun _ T => ?_
     refine r_pv T rfl rfl fun _ T => g_no T rfl rfl rfl rfl fun _ T => g_no T rfl rfl rfl rfl fun _ T => g_no T rfl rfl rfl rfl fun _ T => ?_
     refine g_no T rfl rfl rfl rfl fun _ T => g_no T rfl rfl rfl rfl fun _ T => r_pickF T rfl rfl rfl rfl fun _ T => r_pv T rfl rfl fun _ T => ?_
     refine g_no T rfl rfl rfl rfl fun _ T => g_no T rfl rfl rfl rfl fun _ T => g_no T rfl rfl rfl rfl fun _ T => g_no T rfl rfl rfl rfl fun _ T => ?_
     refine r_pickF T rfl rfl rfl rfl fun _ T => r_pv T rfl rfl fun _ T => g_no T rfl rfl rfl rfl fun _ T => g_no T rfl rfl rfl rfl fun _ T => ?_
     refine g_no T rfl rfl rfl rfl fun _ T => g_no T rfl rfl rfl rfl fun _ T => r_pickF T rfl rfl rfl rfl fun _ T => r_pv T rfl rfl fun _ T => ?_
     refine g_no T rfl rfl rfl rfl fun _ T => g_no T rfl rfl rfl rfl fun _ T => g_no T rfl rfl rfl rfl fun _ T => g_no T rfl rfl rfl rfl fun _ T => ?_
     refine r_pickF T rfl rfl rfl rfl fun _ T => r_pv T rfl rfl fun _ T => ?_
     exact J2_ok F r z false _ _ (T.sub ⟨rfl, trivial⟩) (S.only (p := []) [] rfl) H
   ·refine g_no T rfl rfl h44 rfl fun _ T => ?_
    refine g_no T rfl rfl h44 rfl fun _ T => g_no T rfl rfl h44 rfl fun _ T => g_no T rfl rfl h44 rfl fun _ T => r_pickF T rfl h44 rfl rfl fun _ T => ?_
    refine r_pv T rfl rfl fun _ T => g_no T rfl rfl rfl rfl fun _ T => g_no T rfl rfl rfl rfl fun _ T => g_no T rfl rfl rfl rfl fun _ T => ?_
    refine r_pickF T rfl rfl rfl rfl fun _ T => r_pv T rfl rfl fun _ T => g_no T rfl rfl rfl rfl fun _ T => g_no T rfl rfl rfl rfl fun _ T => ?_
    refine g_no T rfl rfl rfl rfl fun _ T => g_no T rfl rfl rfl rfl fun _ T => g_no T rfl rfl rfl rfl fun _ T => r_pickF T rfl rfl rfl rfl fun _ T => ?_
    refine r_pv T rfl rfl fun _ T => g_no T rfl rfl rfl rfl fun _ T => g_no T rfl rfl rfl rfl fun _ T => r_pickF T rfl rfl rfl rfl fun _ T => ?_
    refine r_pv T rfl rfl fun _ T => g_no T rfl rfl rfl rfl fun _ T => g_no T rfl rfl rfl rfl fun _ T => g_no T rfl rfl rfl rfl fun _ T => ?_
    refine g_no T rfl rfl rfl rfl fun _ T => r_pickF T rfl rfl rfl rfl fun _ T => r_pv T rfl rfl fun _ T => g_no T rfl rfl rfl rfl fun _ T => ?_
    refine g_no T rfl rfl rfl rfl fun _ T => g_no T rfl rfl rfl rfl fun _ T => g_no T rfl rfl rfl rfl fun _ T => g_no T rfl rfl rfl rfl fun _ T => ?_
    refine r_pickF T rfl rfl rfl rfl fun _ T => r_pv T rfl rfl fun _ T => g_no T rfl rfl rfl rfl fun _ T => g_no T rfl rfl rfl rfl fun _ T => ?_
    refine g_no T rfl rfl rfl rfl fun _ T => g_no T rfl rfl rfl rfl fun _ T => r_pickF T rfl rfl rfl rfl fun _ T => r_pv T rfl rfl fun _ T => ?_
    refine g_no T rfl rfl rfl rfl fun _ T => g_no T rfl rfl rfl rfl fun _ T => g_no T rfl rfl rfl rfl fun _ T => g_no T rfl rfl rfl rfl fun _ T => ?_
    refine r_pickF T rfl rfl rfl rfl fun _ T => r_pv T rfl rfl fun _ T => g_no T rfl rfl rfl rfl fun _ T => g_no T rfl rfl rfl rfl fun _ T => ?_
    refine g_no T rfl rfl rfl rfl fun _ T => g_no T rfl rfl rfl rfl fun _ T => r_pickF T rfl rfl rfl rfl fun _ T => r_pv T rfl rfl fun _ T => ?_
    exact J2_ok F r z false _ _ (T.sub ⟨rfl, trivial⟩) (S.only (p := []) [] rfl) H
  ·refine g_no T rfl rfl h43 rfl fun _ T => ?_
   refine g_no T rfl rfl h43 rfl fun _ T => g_no T rfl rfl h43 rfl fun _ T => r_pickF T rfl h43 rfl rfl fun _ T => r_pv T rfl rfl fun _ T => ?_
   refine g_no T rfl rfl rfl rfl fun _ T => g_no T rfl rfl rfl rfl fun _ T => g_no T rfl rfl rfl rfl fun _ T => g_no T rfl rfl rfl rfl fun _ T => ?_
   refine r_pickF T rfl rfl rfl rfl fun _ T => r_pv T rfl rfl fun _ T => g_no T rfl rfl rfl rfl fun _ T => g_no T rfl rfl rfl rfl fun _ T => ?_
   refine g_no T rfl rfl rfl rfl fun _ T => r_pickF T rfl rfl rfl rfl fun _ T => r_pv T rfl rfl fun _ T => g_no T rfl rfl rfl rfl fun _ T => ?_
   refine g_no T rfl rfl rfl rfl fun _ T => g_no T rfl rfl rfl rfl fun _ T => g_no T rfl rfl rfl rfl fun _ T => g_no T rfl rfl rfl rfl fun _ T => ?_
   refine r_pickF T rfl rfl rfl rfl fun _ T => r_pv T rfl rfl fun _ T => g_no T rfl rfl rfl rfl fun _ T => g_no T rfl rfl rfl rfl fun _ T => ?_
   refine r_pickF T rfl rfl rfl rfl fun _ T => r_pv T rfl rfl fun _ T => g_no T rfl rfl rfl rfl fun _ T => g_no T rfl rfl rfl rfl fun _ T => ?_
   refine g_no T rfl rfl rfl rfl fun _ T => g_no T rfl rfl rfl rfl fun _ T => r_pickF T rfl rfl rfl rfl fun _ T => r_pv T rfl rfl fun _ T => ?_
   refine g_no T rfl rfl rfl rfl fun _ T => g_no T rfl rfl rfl rfl fun _ T => g_no T rfl rfl rfl rfl fun _ T => g_no T rfl rfl rfl rfl fun _ T => ?_
   refine g_no T rfl rfl rfl rfl fun _ T => r_pickF T rfl rfl rfl rfl fun _ T => r_pv T rfl rfl fun _ T => g_no T rfl rfl rfl rfl fun _ T => ?_
   refine g_no T rfl rfl rfl rfl fun _ T => g_no T rfl rfl rfl rfl fun _ T => g_no T rfl rfl rfl rfl fun _ T => r_pickF T rfl rfl rfl rfl fun _ T => ?_
   refine r_pv T rfl rfl fun _ T => g_no T rfl rfl rfl rfl fun _ T => g_no T rfl rfl rfl rfl fun _ T => g_no T rfl rfl rfl rfl fun _ T => ?_
   refine g_no T rfl rfl rfl rfl fun _ T => r_pickF T rfl rfl rfl rfl fun _ T => r_pv T rfl rfl fun _ T => g_no T rfl rfl rfl rfl fun _ T => ?_
   refine g_no T rfl rfl rfl rfl fun _ T => g_no T rfl rfl rfl rfl fun _ T => g_no T rfl rfl rfl rfl fun _ T => r_pickF T rfl rfl rfl rfl fun _ T => ?_
   refine r_pv T rfl rfl fun _ T => ?_
   exact J2_ok F r z false _ _ (T.sub ⟨rfl, trivial⟩) (S.only (p := []) [] rfl) H
 ·refine g_no T rfl rfl h42 rfl fun _ T => ?_
  refine g_no T rfl rfl h42 rfl fun _ T => r_pickF T rfl h42 rfl rfl fun _ T => r_pv T rfl rfl fun _ T => g_no T rfl rfl rfl rfl fun _ T => ?_
  refine g_no T rfl rfl rfl rfl fun _ T => g_no T rfl rfl rfl rfl fun _ T => r_pickF T rfl rfl rfl rfl fun _ T => r_pv T rfl rfl fun _ T => ?_
  refine g_no T rfl rfl rfl rfl fun _ T => g_no T rfl rfl rfl rfl fun _ T => g_no T rfl rfl rfl rfl fun _ T => g_no T rfl rfl rfl rfl fun _ T => ?_
  refine r_pickF T rfl rfl rfl rfl fun _ T => r_pv T rfl rfl fun _ T => g_no T rfl rfl rfl rfl fun _ T => g_no T rfl rfl rfl rfl fun _ T => ?_
  refine g_no T rfl rfl rfl rfl fun _ T => r_pickF T rfl rfl rfl rfl fun _ T => r_pv T rfl rfl fun _ T => g_no T rfl rfl rfl rfl fun _ T => ?_
  refine g_no T rfl rfl rfl rfl fun _ T => g_no T rfl rfl rfl rfl fun _ T => g_no T rfl rfl rfl rfl fun _ T => g_no T rfl rfl rfl rfl fun _ T => ?_
  refine r_pickF T rfl rfl rfl rfl fun _ T => r_pv T rfl rfl fun _ T => g_no T rfl rfl rfl rfl fun _ T => g_no T rfl rfl rfl rfl fun _ T => ?_
  refine r_pickF T rfl rfl rfl rfl fun _ T => r_pv T rfl rfl fun _ T => g_no T rfl rfl rfl rfl fun _ T => g_no T rfl rfl rfl rfl fun _ T => ?_
  refine g_no T rfl rfl rfl rfl fun _ T => g_no T rfl rfl rfl rfl fun _ T => r_pickF T rfl rfl rfl rfl fun _ T => r_pv T rfl rfl fun _ T => ?_
  refine g_no T rfl rfl rfl rfl fun _ T => g_no T rfl rfl rfl rfl fun _ T => g_no T rfl rfl rfl rfl fun _ T => g_no T rfl rfl rfl rfl fun _ T => ?_
  refine g_no T rfl rfl rfl rfl fun _ T => r_pickF T rfl rfl rfl rfl fun _ T => r_pv T rfl rfl fun _ T => g_no T rfl rfl rfl rfl fun _ T => ?_
  refine g_no T rfl rfl rfl rfl fun _ T => g_no T rfl rfl rfl rfl fun _ T => g_no T rfl rfl rfl rfl fun _ T => r_pickF T rfl rfl rfl rfl fun _ T => ?_
  refine r_pv T rfl rfl fun _ T => g_no T rfl rfl rfl rfl fun _ T => g_no T rfl rfl rfl rfl fun _ T => g_no T rfl rfl rfl rfl fun _ T => ?_
  refine g_no T rfl rfl rfl rfl fun _ T => r_pickF T rfl rfl rfl rfl fun _ T => r_pv T rfl rfl fun _ T => g_no T rfl rfl rfl rfl fun _ T => ?_
  refine g_no T rfl rfl rfl rfl fun _ T => g_no T rfl rfl rfl rfl fun _ T => g_no T rfl rfl rfl rfl fun _ T => r_pickF T rfl rfl rfl rfl fun _ T => ?_
  refine r_pv T rfl rfl fun _ T => ?_
  exact J2_ok F r z false _ _ (T.sub ⟨rfl, trivial⟩) (S.only (p := []) [] rfl) H
theorem J0_ok (F : List Atom) (r : Bool) (z : Nat) (a : Act) (w : World) (T : Tm 160 [] a) (S : SL ([] ++ F) w) (H : J0 z = some r) : Gets Tryd.prog 5 ptJ0 a w (R F r) := by
 refine rg (r_pv T rfl rfl fun _ T => ?_)
 replace H := Option.some.inj H
 subst H
 exact rtn T Tryd.func5 rfl rfl ⟨rfl, (S.only (p := []) [] rfl)⟩
theorem ok (F : List Atom) (w : World) (z : Nat) (S : SL ([] ++ F) w) (r : Bool) (H : f z  = some r) : Calls Tryd.prog 5 #[] w (R F r) := by
 refine enter (vs := []) Tryd.func5 rfl Tryd.ntmps5 (Nat.le_of_ble_eq_true rfl) fun a T => ?_
 refine Gets.seq (rg (r_pv T rfl rfl fun _ T => Gets.seq ?_))
 refine rg ?_
 obtain ⟨x2, h1, H⟩ := bd H
 refine r_call T Tryd.call12 rfl rfl (cormorantlaw20_made.ok _ _  (S.sel (p := []) (is := []) rfl) _ h1) ?_
 rintro _ _ ⟨A3, k4, A5, k6, A7, k8, rfl, S⟩
 refine ⟨_, rfl, fun _ T => ?_⟩
 replace S : SL ([(y10 A3 k4 x2), (y18 A5 k6 x2), (y11 A7 k8 x2)] ++ F) _ := S.join
 refine r_alloc T S zv26 (cs := [.int .i64 0, (y22), .slice none 0 0, .slice none 0 0, .slice none 0 0]) rfl rfl fun _ _ b9 S T => r_stBA (ix := 0) (vs := (y0 x2 A3 k4 A5 k6 A7 k8)) (l' := [blk b9 (y0 x2 A3 k4 A5 k6 A7 k8), (y10 A3 k4 x2), (y18 A5 k6 x2), (y11 A7 k8 x2)]) T S rfl rfl rfl rfl (by simp) Tryd.sizeOf26 (Nat.le_of_ble_eq_true rfl) rfl fun _ S => ?_
 refine Gets.seq (rg (r_build (cs := #[.int .i64 1, .bool false, .int .i64 5, (y22)]) T stt43 rfl rfl rfl fun _ T => r_build (cs := #[.int .i64 3, .bool false, .int .i64 0, .string (⟨#[120]⟩ : ByteArray)]) T stt43 rfl rfl rfl fun _ T => ?_))
 replace S : SL ([rp kapi_Value (y7) [.int .i64 1, .bool false, .int .i64 5, (y22)], blk b9 (y0 x2 A3 k4 A5 k6 A7 k8), (y10 A3 k4 x2), (y18 A5 k6 x2), (y11 A7 k8 x2)] ++ F) _ := cl_api_Value  S 
 replace S : SL ([rp kapi_Value (y6) [.int .i64 3, .bool false, .int .i64 0, .string (⟨#[120]⟩ : ByteArray)], rp kapi_Value (y7) [.int .i64 1, .bool false, .int .i64 5, (y22)], blk b9 (y0 x2 A3 k4 A5 k6 A7 k8), (y10 A3 k4 x2), (y18 A5 k6 x2), (y11 A7 k8 x2)] ++ F) _ := cl_api_Value  S 
 refine r_bsl (κ := kapi_Value) (xs := [(y7), (y6)]) (vs := [.agg #[.int .i64 1, .bool false, .int .i64 5, (y22)], .agg #[.int .i64 3, .bool false, .int .i64 0, .string (⟨#[120]⟩ : ByteArray)]]) T S sty27 rfl ⟨_, _, rfl, ⟨1, rfl⟩, ⟨_, _, rfl, ⟨0, rfl⟩, rfl⟩⟩ rfl (by decide) rfl fun _ _ b10 S T => ?_
 replace S : SL ([sl .own kapi_Value (some ⟨b10, 0, none⟩) 2 [(y7), (y6)], blk b9 (y0 x2 A3 k4 A5 k6 A7 k8), (y10 A3 k4 x2), (y18 A5 k6 x2), (y11 A7 k8 x2)] ++ F) _ := S.only [0, 2, 2, 2, 2] rfl
 refine r_pv T rfl rfl fun _ T => Gets.seq (rg (r_ldBA (ix := 1) (ds := (y0 x2 A3 k4 A5 k6 A7 k8)) T S rfl Tryd.isAgg26 rfl rfl Tryd.sizeOf26 rfl fun _ T => ?_))
 refine r_pv T rfl rfl fun _ T => ?_
 obtain ⟨x12, h11, H⟩ := bd H
 refine r_call T Tryd.call7 rfl rfl (rowkey_Row.ok _ _ z x2 [(y7), (y6)] (S.sel (p := [(y10 A3 k4 x2), (y18 A5 k6 x2), (y11 A7 k8 x2), sl .own kapi_Value (some ⟨b10, 0, none⟩) 2 [(y7), (y6)]]) (is := [2, 2, 2, 0]) rfl) _ h11) ?_
 rintro _ _ ⟨A13, k14, A15, k16, rfl, S⟩
 refine ⟨_, rfl, fun _ T => ?_⟩
 replace S : SL ([sl .ro ku8 A13 k14 x12.1.Key, sl .ro ku8 A15 k16 x12.1.Value, (y10 A3 k4 x2), (y18 A5 k6 x2), (y11 A7 k8 x2), sl .own kapi_Value (some ⟨b10, 0, none⟩) 2 [(y7), (y6)], blk b9 (y0 x2 A3 k4 A5 k6 A7 k8)] ++ F) _ := S.join
 refine r_pv T rfl rfl fun _ T => r_pv T rfl rfl fun _ T => r_pv T rfl rfl fun _ T => r_alloc T S zv31 (cs := (y24)) rfl rfl fun _ _ b17 S T => ?_
 refine r_stBA (ix := 0) (vs := (y14 A13 x12 k14 A15 k16)) (l' := [blk b17 (y14 A13 x12 k14 A15 k16), sl .ro ku8 A13 k14 x12.1.Key, sl .ro ku8 A15 k16 x12.1.Value, (y10 A3 k4 x2), (y18 A5 k6 x2), (y11 A7 k8 x2), sl .own kapi_Value (some ⟨b10, 0, none⟩) 2 [(y7), (y6)], blk b9 (y0 x2 A3 k4 A5 k6 A7 k8)]) T S rfl rfl rfl rfl (by simp) Tryd.sizeOf31 (Nat.le_of_ble_eq_true rfl) rfl fun _ S => ?_
 refine r_pv T rfl rfl fun _ T => Gets.seq (rg (r_ldBA (ix := 7) (ds := (y0 x2 A3 k4 A5 k6 A7 k8)) T S rfl Tryd.isAgg26 rfl rfl Tryd.sizeOf26 rfl fun _ T => ?_))
 refine r_ldBA (ix := 0) (ds := (y14 A13 x12 k14 A15 k16)) T S rfl Tryd.isAgg31 rfl rfl Tryd.sizeOf31 rfl fun _ T => ?_
 obtain ⟨x19, h18, H⟩ := bd H
 refine r_call T Tryd.call9 rfl rfl (rowkey_TakeRow.ok _ _ z x2 x12.1 (S.sel (p := [(y10 A3 k4 x2), (y18 A5 k6 x2), (y11 A7 k8 x2), sl .ro ku8 A13 k14 x12.1.Key, sl .ro ku8 A15 k16 x12.1.Value]) (is := [3, 3, 3, 1, 1]) rfl) _ h18) ?_
 rintro _ _ ⟨A20, k21, rfl, S⟩
 refine ⟨_, rfl, fun _ T => ?_⟩
 replace S : SL ((y2 A20 k21 x19 A3 k4 x2 A5 k6 A7 k8 A13 k14 x12 A15 k16 b17 b10 b9) ++ F) _ := S.join
 refine r_pv T rfl rfl fun _ T => r_pv T rfl rfl fun _ T => r_pv T rfl rfl fun _ T => r_pv T rfl rfl fun _ T => ?_
 refine r_pv T rfl rfl fun _ T => ?_
 refine Gets.seq (Gets.seq ?_)
 rcases ifE H with ⟨h22, H⟩ | ⟨h22, H⟩
 ·refine Gets.drawn (l := (y2 A20 k21 x19 A3 k4 x2 A5 k6 A7 k8 A13 k14 x12 A15 k16 b17 b10 b9)) (V := [some (.int .i64 x12.2, true), (y25 x12), (y25 x12), some (undef, true), some (undef, true), some (.bool true, true), some (.bool true, true), some (undef, true), some (undef, true), some (undef, true), some (undef, true), some (.bool true, true), some (.bool true, true), some (undef, true), some (undef, true), some (undef, true), some (undef, true), some (.bool true, true), some (.bool true, true), some (undef, true), some (undef, true), some (undef, true), some (.bool true, true), some (.bool true, true), some (undef, true), some (undef, true), some (undef, true), some (undef, true), some (undef, true), some (undef, true), some (undef, true), some (.bool true, true)]) mixed T S rfl ?_
  refine stage none rfl rfl ⟨⟨_, _, rfl, (avl [4] rfl), fun _ _ _ T S => r_pv T rfl rfl fun _ T => ⟨rfl, T⟩⟩, ⟨_, _, rfl, (avl [31] rfl), fun _ _ _ T S => r_pv T rfl rfl fun _ T => ⟨rfl, T⟩⟩, ⟨_, _, rfl, (avl [32] rfl), fun _ _ _ T S => r_pv T rfl rfl fun _ T => ⟨rfl, T⟩⟩, ⟨_, _, rfl, (avl [6, 33] rfl), fun _ _ _ T S => g_no T rfl rfl h22 rfl fun _ T => ⟨rfl, T⟩⟩, ⟨_, _, rfl, (avl [34, 33] rfl), fun _ _ _ T S => g_no T rfl rfl h22 rfl fun _ T => ⟨rfl, T⟩⟩, ⟨_, _, rfl, (avl [33, 35] rfl), fun _ _ _ T S => r_pickT T rfl h22 rfl rfl fun _ T => ⟨rfl, T⟩⟩, ⟨_, _, rfl, (avl [36] rfl), fun _ _ _ T S => r_pv T rfl rfl fun _ T => ⟨rfl, T⟩⟩, ⟨_, _, rfl, (avl [3, 37] rfl), fun _ _ _ T S => g_no T rfl rfl rfl rfl fun _ T => ⟨rfl, T⟩⟩, ⟨_, _, rfl, (avl [38, 37] rfl), fun _ _ _ T S => g_no T rfl rfl rfl rfl fun _ T => ⟨rfl, T⟩⟩, ⟨_, _, rfl, (avl [39, 37] rfl), fun _ _ _ T S => g_no T rfl rfl rfl rfl fun _ T => ⟨rfl, T⟩⟩, ⟨_, _, rfl, (avl [40, 37] rfl), fun _ _ _ T S => g_no T rfl rfl rfl rfl fun _ T => ⟨rfl, T⟩⟩, ⟨_, _, rfl, (avl [37, 41] rfl), fun _ _ _ T S => r_pickT T rfl rfl rfl rfl fun _ T => ⟨rfl, T⟩⟩, ⟨_, _, rfl, (avl [42] rfl), fun _ _ _ T S => r_pv T rfl rfl fun _ T => ⟨rfl, T⟩⟩, ⟨_, _, rfl, (avl [3, 43] rfl), fun _ _ _ T S => g_no T rfl rfl rfl rfl fun _ T => ⟨rfl, T⟩⟩, ⟨_, _, rfl, (avl [44, 43] rfl), fun _ _ _ T S => g_no T rfl rfl rfl rfl fun _ T => ⟨rfl, T⟩⟩, ⟨_, _, rfl, (avl [45, 43] rfl), fun _ _ _ T S => g_no T rfl rfl rfl rfl fun _ T => ⟨rfl, T⟩⟩, ⟨_, _, rfl, (avl [46, 43] rfl), fun _ _ _ T S => g_no T rfl rfl rfl rfl fun _ T => ⟨rfl, T⟩⟩, ⟨_, _, rfl, (avl [43, 47] rfl), fun _ _ _ T S => r_pickT T rfl rfl rfl rfl fun _ T => ⟨rfl, T⟩⟩, ⟨_, _, rfl, (avl [48] rfl), fun _ _ _ T S => r_pv T rfl rfl fun _ T => ⟨rfl, T⟩⟩, ⟨_, _, rfl, (avl [5, 49] rfl), fun _ _ _ T S => g_no T rfl rfl rfl rfl fun _ T => ⟨rfl, T⟩⟩, ⟨_, _, rfl, (avl [50, 49] rfl), fun _ _ _ T S => g_no T rfl rfl rfl rfl fun _ T => ⟨rfl, T⟩⟩, ⟨_, _, rfl, (avl [51, 49] rfl), fun _ _ _ T S => g_no T rfl rfl rfl rfl fun _ T => ⟨rfl, T⟩⟩, ⟨_, _, rfl, (avl [49, 52] rfl), fun _ _ _ T S => r_pickT T rfl rfl rfl rfl fun _ T => ⟨rfl, T⟩⟩, ⟨_, _, rfl, (avl [53] rfl), fun _ _ _ T S => r_pv T rfl rfl fun _ T => ⟨rfl, T⟩⟩, ⟨_, _, rfl, (avl [5, 54] rfl), fun _ _ _ T S => g_no T rfl rfl rfl rfl fun _ T => ⟨rfl, T⟩⟩, ⟨_, _, rfl, (avl [55, 54] rfl), fun _ _ _ T S => g_no T rfl rfl rfl rfl fun _ T => ⟨rfl, T⟩⟩, ⟨_, _, rfl, (avl [56, 54] rfl), fun _ _ _ T S => g_no T rfl rfl rfl rfl fun _ T => ⟨rfl, T⟩⟩, ⟨_, _, rfl, (avl [2, 54] rfl), fun _ _ _ T S => g_no T rfl rfl rfl rfl fun _ T => ⟨rfl, T⟩⟩, ⟨_, _, rfl, (avl [58, 54] rfl), fun _ _ _ T S => g_no T rfl rfl rfl rfl fun _ T => ⟨rfl, T⟩⟩, ⟨_, _, rfl, (avl [59, 54] rfl), fun _ _ _ T S => g_no T rfl rfl rfl rfl fun _ T => ⟨rfl, T⟩⟩, ⟨_, _, rfl, (avl [57, 60, 54] rfl), fun _ _ _ T S => g_no T rfl rfl rfl rfl fun _ T => ⟨rfl, T⟩⟩, ⟨_, _, rfl, (avl [54, 61] rfl), fun _ _ _ T S => r_pickT T rfl rfl rfl rfl fun _ T => ⟨rfl, T⟩⟩, trivial⟩ rfl (fun i hi => by cases hi) (fun _ _ a w T hv hb S => ?_)
  replace T := T.sub (r := [(y20 b9), (2, (y17 b10)), (62, .bool true)]) ⟨hb 1 _ rfl rfl, hb 2 _ rfl rfl, hv 31 _ 62 rfl rfl rfl, trivial⟩
  refine cdT T rfl rfl (Gets.seq ?_)
  exact J0_ok F r z _ _ (T.sub trivial) (S.only (p := []) [] rfl) H
 ·rcases ifE H with ⟨h23, H⟩ | ⟨h23, H⟩
  ·refine Gets.drawn (l := (y2 A20 k21 x19 A3 k4 x2 A5 k6 A7 k8 A13 k14 x12 A15 k16 b17 b10 b9)) (V := [some (.int .i64 x12.2, true), (y25 x12), (y25 x12), some (.int .i64 x19.2, true), (y19 x19), (y19 x19), (y19 x19), some (undef, true), some (undef, true), some (undef, true), some (undef, true), some (.bool true, true), some (.bool true, true), some (undef, true), some (undef, true), some (undef, true), some (undef, true), some (.bool true, true), some (.bool true, true), some (undef, true), some (undef, true), some (undef, true), some (.bool true, true), some (.bool true, true), some (undef, true), some (undef, true), some (undef, true), some (undef, true), some (undef, true), some (undef, true), some (undef, true), some (.bool true, true)]) mixed T S rfl ?_
   refine stage none rfl rfl ⟨⟨_, _, rfl, (avl [4] rfl), fun _ _ _ T S => r_pv T rfl rfl fun _ T => ⟨rfl, T⟩⟩, ⟨_, _, rfl, (avl [31] rfl), fun _ _ _ T S => r_pv T rfl rfl fun _ T => ⟨rfl, T⟩⟩, ⟨_, _, rfl, (avl [32] rfl), fun _ _ _ T S => r_pv T rfl rfl fun _ T => ⟨rfl, T⟩⟩, ⟨_, _, rfl, (avl [6, 33] rfl), fun _ _ _ T S => g_yes T rfl rfl h22 (r_pv T rfl rfl fun _ T => ⟨rfl, T⟩)⟩, ⟨_, _, rfl, (avl [34, 33] rfl), fun _ _ _ T S => g_yes T rfl rfl h22 (r_pv T rfl rfl fun _ T => ⟨rfl, T⟩)⟩, ⟨_, _, rfl, (avl [33, 35] rfl), fun _ _ _ T S => r_pickF T rfl h22 rfl rfl fun _ T => ⟨rfl, T⟩⟩, ⟨_, _, rfl, (avl [36] rfl), fun _ _ _ T S => r_pv T rfl rfl fun _ T => ⟨rfl, T⟩⟩, ⟨_, _, rfl, (avl [3, 37] rfl), fun _ _ _ T S => g_no T rfl rfl h23 rfl fun _ T => ⟨rfl, T⟩⟩, ⟨_, _, rfl, (avl [38, 37] rfl), fun _ _ _ T S => g_no T rfl rfl h23 rfl fun _ T => ⟨rfl, T⟩⟩, ⟨_, _, rfl, (avl [39, 37] rfl), fun _ _ _ T S => g_no T rfl rfl h23 rfl fun _ T => ⟨rfl, T⟩⟩, ⟨_, _, rfl, (avl [40, 37] rfl), fun _ _ _ T S => g_no T rfl rfl h23 rfl fun _ T => ⟨rfl, T⟩⟩, ⟨_, _, rfl, (avl [37, 41] rfl), fun _ _ _ T S => r_pickT T rfl h23 rfl rfl fun _ T => ⟨rfl, T⟩⟩, ⟨_, _, rfl, (avl [42] rfl), fun _ _ _ T S => r_pv T rfl rfl fun _ T => ⟨rfl, T⟩⟩, ⟨_, _, rfl, (avl [3, 43] rfl), fun _ _ _ T S => g_no T rfl rfl rfl rfl fun _ T => ⟨rfl, T⟩⟩, ⟨_, _, rfl, (avl [44, 43] rfl), fun _ _ _ T S => g_no T rfl rfl rfl rfl fun _ T => ⟨rfl, T⟩⟩, ⟨_, _, rfl, (avl [45, 43] rfl), fun _ _ _ T S => g_no T rfl rfl rfl rfl fun _ T => ⟨rfl, T⟩⟩, ⟨_, _, rfl, (avl [46, 43] rfl), fun _ _ _ T S => g_no T rfl rfl rfl rfl fun _ T => ⟨rfl, T⟩⟩, ⟨_, _, rfl, (avl [43, 47] rfl), fun _ _ _ T S => r_pickT T rfl rfl rfl rfl fun _ T => ⟨rfl, T⟩⟩, ⟨_, _, rfl, (avl [48] rfl), fun _ _ _ T S => r_pv T rfl rfl fun _ T => ⟨rfl, T⟩⟩, ⟨_, _, rfl, (avl [5, 49] rfl), fun _ _ _ T S => g_no T rfl rfl rfl rfl fun _ T => ⟨rfl, T⟩⟩, ⟨_, _, rfl, (avl [50, 49] rfl), fun _ _ _ T S => g_no T rfl rfl rfl rfl fun _ T => ⟨rfl, T⟩⟩, ⟨_, _, rfl, (avl [51, 49] rfl), fun _ _ _ T S => g_no T rfl rfl rfl rfl fun _ T => ⟨rfl, T⟩⟩, ⟨_, _, rfl, (avl [49, 52] rfl), fun _ _ _ T S => r_pickT T rfl rfl rfl rfl fun _ T => ⟨rfl, T⟩⟩, ⟨_, _, rfl, (avl [53] rfl), fun _ _ _ T S => r_pv T rfl rfl fun _ T => ⟨rfl, T⟩⟩, ⟨_, _, rfl, (avl [5, 54] rfl), fun _ _ _ T S => g_no T rfl rfl rfl rfl fun _ T => ⟨rfl, T⟩⟩, ⟨_, _, rfl, (avl [55, 54] rfl), fun _ _ _ T S => g_no T rfl rfl rfl rfl fun _ T => ⟨rfl, T⟩⟩, ⟨_, _, rfl, (avl [56, 54] rfl), fun _ _ _ T S => g_no T rfl rfl rfl rfl fun _ T => ⟨rfl, T⟩⟩, ⟨_, _, rfl, (avl [2, 54] rfl), fun _ _ _ T S => g_no T rfl rfl rfl rfl fun _ T => ⟨rfl, T⟩⟩, ⟨_, _, rfl, (avl [58, 54] rfl), fun _ _ _ T S => g_no T rfl rfl rfl rfl fun _ T => ⟨rfl, T⟩⟩, ⟨_, _, rfl, (avl [59, 54] rfl), fun _ _ _ T S => g_no T rfl rfl rfl rfl fun _ T => ⟨rfl, T⟩⟩, ⟨_, _, rfl, (avl [57, 60, 54] rfl), fun _ _ _ T S => g_no T rfl rfl rfl rfl fun _ T => ⟨rfl, T⟩⟩, ⟨_, _, rfl, (avl [54, 61] rfl), fun _ _ _ T S => r_pickT T rfl rfl rfl rfl fun _ T => ⟨rfl, T⟩⟩, trivial⟩ rfl (fun i hi => by cases hi) (fun _ _ a w T hv hb S => ?_)
   replace T := T.sub (r := [(y20 b9), (2, (y17 b10)), (62, .bool true)]) ⟨hb 1 _ rfl rfl, hb 2 _ rfl rfl, hv 31 _ 62 rfl rfl rfl, trivial⟩
   refine cdT T rfl rfl (Gets.seq ?_)
   exact J0_ok F r z _ _ (T.sub trivial) (S.only (p := []) [] rfl) H
  ·rcases ifE H with ⟨h24, H⟩ | ⟨h24, H⟩
   ·refine Gets.drawn (l := (y2 A20 k21 x19 A3 k4 x2 A5 k6 A7 k8 A13 k14 x12 A15 k16 b17 b10 b9)) (V := [some (.int .i64 x12.2, true), (y25 x12), (y25 x12), some (.int .i64 x19.2, true), (y19 x19), (y19 x19), (y19 x19), some (.pointer (some ⟨b17, 0, none⟩), true), some (.slice A13 x12.1.Key.length k14, true), some (.int .i64 (x12.1.Key.length : Int), true), (y16 x12), (y16 x12), (y16 x12), some (undef, true), some (undef, true), some (undef, true), some (undef, true), some (.bool true, true), some (.bool true, true), some (undef, true), some (undef, true), some (undef, true), some (.bool true, true), some (.bool true, true), some (undef, true), some (undef, true), some (undef, true), some (undef, true), some (undef, true), some (undef, true), some (undef, true), some (.bool true, true)]) mixed T S rfl ?_
    refine stage none rfl rfl ⟨⟨_, _, rfl, (avl [4] rfl), fun _ _ _ T S => r_pv T rfl rfl fun _ T => ⟨rfl, T⟩⟩, ⟨_, _, rfl, (avl [31] rfl), fun _ _ _ T S => r_pv T rfl rfl fun _ T => ⟨rfl, T⟩⟩, ⟨_, _, rfl, (avl [32] rfl), fun _ _ _ T S => r_pv T rfl rfl fun _ T => ⟨rfl, T⟩⟩, ⟨_, _, rfl, (avl [6, 33] rfl), fun _ _ _ T S => g_yes T rfl rfl h22 (r_pv T rfl rfl fun _ T => ⟨rfl, T⟩)⟩, ⟨_, _, rfl, (avl [34, 33] rfl), fun _ _ _ T S => g_yes T rfl rfl h22 (r_pv T rfl rfl fun _ T => ⟨rfl, T⟩)⟩, ⟨_, _, rfl, (avl [33, 35] rfl), fun _ _ _ T S => r_pickF T rfl h22 rfl rfl fun _ T => ⟨rfl, T⟩⟩, ⟨_, _, rfl, (avl [36] rfl), fun _ _ _ T S => r_pv T rfl rfl fun _ T => ⟨rfl, T⟩⟩, ⟨_, _, rfl, (avl [3, 37] rfl), fun _ _ _ T S => g_yes T rfl rfl h23 (r_fa (o' := 0) T rfl Tryd.runUnderlying31 rfl Tryd.sizeOf29 rfl rfl fun _ T => ⟨rfl, T⟩)⟩, ⟨_, _, rfl, (avl [38, 37] rfl), fun _ _ _ T S => g_yes T rfl rfl h23 (r_ldB (ix := 6) T S rfl Tryd.isAgg29 rfl rfl rfl fun _ T => ⟨rfl, T⟩)⟩, ⟨_, _, rfl, (avl [39, 37] rfl), fun _ _ _ T S => g_yes T rfl rfl h23 (r_lenS T rfl Tryd.runUnderlying29 rfl fun _ T => ⟨rfl, T⟩)⟩, ⟨_, _, rfl, (avl [40, 37] rfl), fun _ _ _ T S => g_yes T rfl rfl h23 (r_pv T rfl rfl fun _ T => ⟨rfl, T⟩)⟩, ⟨_, _, rfl, (avl [37, 41] rfl), fun _ _ _ T S => r_pickF T rfl h23 rfl rfl fun _ T => ⟨rfl, T⟩⟩, ⟨_, _, rfl, (avl [42] rfl), fun _ _ _ T S => r_pv T rfl rfl fun _ T => ⟨rfl, T⟩⟩, ⟨_, _, rfl, (avl [3, 43] rfl), fun _ _ _ T S => g_no T rfl rfl h24 rfl fun _ T => ⟨rfl, T⟩⟩, ⟨_, _, rfl, (avl [44, 43] rfl), fun _ _ _ T S => g_no T rfl rfl h24 rfl fun _ T => ⟨rfl, T⟩⟩, ⟨_, _, rfl, (avl [45, 43] rfl), fun _ _ _ T S => g_no T rfl rfl h24 rfl fun _ T => ⟨rfl, T⟩⟩, ⟨_, _, rfl, (avl [46, 43] rfl), fun _ _ _ T S => g_no T rfl rfl h24 rfl fun _ T => ⟨rfl, T⟩⟩, ⟨_, _, rfl, (avl [43, 47] rfl), fun _ _ _ T S => r_pickT T rfl h24 rfl rfl fun _ T => ⟨rfl, T⟩⟩, ⟨_, _, rfl, (avl [48] rfl), fun _ _ _ T S => r_pv T rfl rfl fun _ T => ⟨rfl, T⟩⟩, ⟨_, _, rfl, (avl [5, 49] rfl), fun _ _ _ T S => g_no T rfl rfl rfl rfl fun _ T => ⟨rfl, T⟩⟩, ⟨_, _, rfl, (avl [50, 49] rfl), fun _ _ _ T S => g_no T rfl rfl rfl rfl fun _ T => ⟨rfl, T⟩⟩, ⟨_, _, rfl, (avl [51, 49] rfl), fun _ _ _ T S => g_no T rfl rfl rfl rfl fun _ T => ⟨rfl, T⟩⟩, ⟨_, _, rfl, (avl [49, 52] rfl), fun _ _ _ T S => r_pickT T rfl rfl rfl rfl fun _ T => ⟨rfl, T⟩⟩, ⟨_, _, rfl, (avl [53] rfl), fun _ _ _ T S => r_pv T rfl rfl fun _ T => ⟨rfl, T⟩⟩, ⟨_, _, rfl, (avl [5, 54] rfl), fun _ _ _ T S => g_no T rfl rfl rfl rfl fun _ T => ⟨rfl, T⟩⟩, ⟨_, _, rfl, (avl [55, 54] rfl), fun _ _ _ T S => g_no T rfl rfl rfl rfl fun _ T => ⟨rfl, T⟩⟩, ⟨_, _, rfl, (avl [56, 54] rfl), fun _ _ _ T S => g_no T rfl rfl rfl rfl fun _ T => ⟨rfl, T⟩⟩, ⟨_, _, rfl, (avl [2, 54] rfl), fun _ _ _ T S => g_no T rfl rfl rfl rfl fun _ T => ⟨rfl, T⟩⟩, ⟨_, _, rfl, (avl [58, 54] rfl), fun _ _ _ T S => g_no T rfl rfl rfl rfl fun _ T => ⟨rfl, T⟩⟩, ⟨_, _, rfl, (avl [59, 54] rfl), fun _ _ _ T S => g_no T rfl rfl rfl rfl fun _ T => ⟨rfl, T⟩⟩, ⟨_, _, rfl, (avl [57, 60, 54] rfl), fun _ _ _ T S => g_no T rfl rfl rfl rfl fun _ T => ⟨rfl, T⟩⟩, ⟨_, _, rfl, (avl [54, 61] rfl), fun _ _ _ T S => r_pickT T rfl rfl rfl rfl fun _ T => ⟨rfl, T⟩⟩, trivial⟩ rfl (fun i hi => by cases hi) (fun _ _ a w T hv hb S => ?_)
    replace T := T.sub (r := [(y20 b9), (2, (y17 b10)), (62, .bool true)]) ⟨hb 1 _ rfl rfl, hb 2 _ rfl rfl, hv 31 _ 62 rfl rfl rfl, trivial⟩
    refine cdT T rfl rfl (Gets.seq ?_)
    exact J0_ok F r z _ _ (T.sub trivial) (S.only (p := []) [] rfl) H
   ·rcases ifE H with ⟨h25, H⟩ | ⟨h25, H⟩
    ·refine Gets.drawn (l := (y2 A20 k21 x19 A3 k4 x2 A5 k6 A7 k8 A13 k14 x12 A15 k16 b17 b10 b9)) (V := [some (.int .i64 x12.2, true), (y25 x12), (y25 x12), some (.int .i64 x19.2, true), (y19 x19), (y19 x19), (y19 x19), some (.pointer (some ⟨b17, 0, none⟩), true), some (.slice A13 x12.1.Key.length k14, true), some (.int .i64 (x12.1.Key.length : Int), true), (y16 x12), (y16 x12), (y16 x12), some (.pointer (some ⟨b17, 1, none⟩), true), some (.slice A15 x12.1.Value.length k16, true), some (.string (bstr x12.1.Value), true), (y12 x12), (y12 x12), (y12 x12), some (undef, true), some (undef, true), some (undef, true), some (.bool true, true), some (.bool true, true), some (undef, true), some (undef, true), some (undef, true), some (undef, true), some (undef, true), some (undef, true), some (undef, true), some (.bool true, true)]) mixed T S rfl ?_
     refine stage none rfl rfl ⟨⟨_, _, rfl, (avl [4] rfl), fun _ _ _ T S => r_pv T rfl rfl fun _ T => ⟨rfl, T⟩⟩, ⟨_, _, rfl, (avl [31] rfl), fun _ _ _ T S => r_pv T rfl rfl fun _ T => ⟨rfl, T⟩⟩, ⟨_, _, rfl, (avl [32] rfl), fun _ _ _ T S => r_pv T rfl rfl fun _ T => ⟨rfl, T⟩⟩, ⟨_, _, rfl, (avl [6, 33] rfl), fun _ _ _ T S => g_yes T rfl rfl h22 (r_pv T rfl rfl fun _ T => ⟨rfl, T⟩)⟩, ⟨_, _, rfl, (avl [34, 33] rfl), fun _ _ _ T S => g_yes T rfl rfl h22 (r_pv T rfl rfl fun _ T => ⟨rfl, T⟩)⟩, ⟨_, _, rfl, (avl [33, 35] rfl), fun _ _ _ T S => r_pickF T rfl h22 rfl rfl fun _ T => ⟨rfl, T⟩⟩, ⟨_, _, rfl, (avl [36] rfl), fun _ _ _ T S => r_pv T rfl rfl fun _ T => ⟨rfl, T⟩⟩, ⟨_, _, rfl, (avl [3, 37] rfl), fun _ _ _ T S => g_yes T rfl rfl h23 (r_fa (o' := 0) T rfl Tryd.runUnderlying31 rfl Tryd.sizeOf29 rfl rfl fun _ T => ⟨rfl, T⟩)⟩, ⟨_, _, rfl, (avl [38, 37] rfl), fun _ _ _ T S => g_yes T rfl rfl h23 (r_ldB (ix := 6) T S rfl Tryd.isAgg29 rfl rfl rfl fun _ T => ⟨rfl, T⟩)⟩, ⟨_, _, rfl, (avl [39, 37] rfl), fun _ _ _ T S => g_yes T rfl rfl h23 (r_lenS T rfl Tryd.runUnderlying29 rfl fun _ T => ⟨rfl, T⟩)⟩, ⟨_, _, rfl, (avl [40, 37] rfl), fun _ _ _ T S => g_yes T rfl rfl h23 (r_pv T rfl rfl fun _ T => ⟨rfl, T⟩)⟩, ⟨_, _, rfl, (avl [37, 41] rfl), fun _ _ _ T S => r_pickF T rfl h23 rfl rfl fun _ T => ⟨rfl, T⟩⟩, ⟨_, _, rfl, (avl [42] rfl), fun _ _ _ T S => r_pv T rfl rfl fun _ T => ⟨rfl, T⟩⟩, ⟨_, _, rfl, (avl [3, 43] rfl), fun _ _ _ T S => g_yes T rfl rfl h24 (r_fa (o' := 1) T rfl Tryd.runUnderlying31 rfl Tryd.sizeOf29 rfl rfl fun _ T => ⟨rfl, T⟩)⟩, ⟨_, _, rfl, (avl [44, 43] rfl), fun _ _ _ T S => g_yes T rfl rfl h24 (r_ldB (ix := 6) T S rfl Tryd.isAgg29 rfl rfl rfl fun _ T => ⟨rfl, T⟩)⟩, ⟨_, _, rfl, (avl [45, 43] rfl), fun _ _ _ T S => g_yes T rfl rfl h24 (r_b2s (ix := 5) (xs := x12.1.Value) T S rfl rfl Tryd.runUnderlying29 Tryd.runUnderlying9 Tryd.runUnderlying5 rfl fun _ T => ⟨rfl, T⟩)⟩, ⟨_, _, rfl, (avl [46, 43] rfl), fun _ _ _ T S => g_yes T rfl rfl h24 (r_pv T rfl rfl fun _ T => ⟨rfl, T⟩)⟩, ⟨_, _, rfl, (avl [43, 47] rfl), fun _ _ _ T S => r_pickF T rfl h24 rfl rfl fun _ T => ⟨rfl, T⟩⟩, ⟨_, _, rfl, (avl [48] rfl), fun _ _ _ T S => r_pv T rfl rfl fun _ T => ⟨rfl, T⟩⟩, ⟨_, _, rfl, (avl [5, 49] rfl), fun _ _ _ T S => g_no T rfl rfl h25 rfl fun _ T => ⟨rfl, T⟩⟩, ⟨_, _, rfl, (avl [50, 49] rfl), fun _ _ _ T S => g_no T rfl rfl h25 rfl fun _ T => ⟨rfl, T⟩⟩, ⟨_, _, rfl, (avl [51, 49] rfl), fun _ _ _ T S => g_no T rfl rfl h25 rfl fun _ T => ⟨rfl, T⟩⟩, ⟨_, _, rfl, (avl [49, 52] rfl), fun _ _ _ T S => r_pickT T rfl h25 rfl rfl fun _ T => ⟨rfl, T⟩⟩, ⟨_, _, rfl, (avl [53] rfl), fun _ _ _ T S => r_pv T rfl rfl fun _ T => ⟨rfl, T⟩⟩, ⟨_, _, rfl, (avl [5, 54] rfl), fun _ _ _ T S => g_no T rfl rfl rfl rfl fun _ T => ⟨rfl, T⟩⟩, ⟨_, _, rfl, (avl [55, 54] rfl), fun _ _ _ T S => g_no T rfl rfl rfl rfl fun _ T => ⟨rfl, T⟩⟩, ⟨_, _, rfl, (avl [56, 54] rfl), fun _ _ _ T S => g_no T rfl rfl rfl rfl fun _ T => ⟨rfl, T⟩⟩, ⟨_, _, rfl, (avl [2, 54] rfl), fun _ _ _ T S => g_no T rfl rfl rfl rfl fun _ T => ⟨rfl, T⟩⟩, ⟨_, _, rfl, (avl [58, 54] rfl), fun _ _ _ T S => g_no T rfl rfl rfl rfl fun _ T => ⟨rfl, T⟩⟩, ⟨_, _, rfl, (avl [59, 54] rfl), fun _ _ _ T S => g_no T rfl rfl rfl rfl fun _ T => ⟨rfl, T⟩⟩, ⟨_, _, rfl, (avl [57, 60, 54] rfl), fun _ _ _ T S => g_no T rfl rfl rfl rfl fun _ T => ⟨rfl, T⟩⟩, ⟨_, _, rfl, (avl [54, 61] rfl), fun _ _ _ T S => r_pickT T rfl rfl rfl rfl fun _ T => ⟨rfl, T⟩⟩, trivial⟩ rfl (fun i hi => by cases hi) (fun _ _ a w T hv hb S => ?_)
     replace T := T.sub (r := [(y20 b9), (2, (y17 b10)), (62, .bool true)]) ⟨hb 1 _ rfl rfl, hb 2 _ rfl rfl, hv 31 _ 62 rfl rfl rfl, trivial⟩
     refine cdT T rfl rfl (Gets.seq ?_)
     exact J0_ok F r z _ _ (T.sub trivial) (S.only (p := []) [] rfl) H
    ·rcases ifE H with ⟨h26, H⟩ | ⟨h26, H⟩
     ·refine Gets.drawn (l := (y2 A20 k21 x19 A3 k4 x2 A5 k6 A7 k8 A13 k14 x12 A15 k16 b17 b10 b9)) (V := [some (.int .i64 x12.2, true), (y25 x12), (y25 x12), some (.int .i64 x19.2, true), (y19 x19), (y19 x19), (y19 x19), some (.pointer (some ⟨b17, 0, none⟩), true), some (.slice A13 x12.1.Key.length k14, true), some (.int .i64 (x12.1.Key.length : Int), true), (y16 x12), (y16 x12), (y16 x12), some (.pointer (some ⟨b17, 1, none⟩), true), some (.slice A15 x12.1.Value.length k16, true), some (.string (bstr x12.1.Value), true), (y12 x12), (y12 x12), (y12 x12), some (.slice A20 x19.1.length k21, true), some (.int .i64 (x19.1.length : Int), true), some (.bool ((x19.1.length : Int) != 2), true), some (.bool ((x19.1.length : Int) != 2), true), some (.bool ((x19.1.length : Int) != 2), true), some (undef, true), some (undef, true), some (undef, true), some (undef, true), some (undef, true), some (undef, true), some (undef, true), some (.bool true, true)]) mixed T S rfl ?_
      refine stage none rfl rfl ⟨⟨_, _, rfl, (avl [4] rfl), fun _ _ _ T S => r_pv T rfl rfl fun _ T => ⟨rfl, T⟩⟩, ⟨_, _, rfl, (avl [31] rfl), fun _ _ _ T S => r_pv T rfl rfl fun _ T => ⟨rfl, T⟩⟩, ⟨_, _, rfl, (avl [32] rfl), fun _ _ _ T S => r_pv T rfl rfl fun _ T => ⟨rfl, T⟩⟩, ⟨_, _, rfl, (avl [6, 33] rfl), fun _ _ _ T S => g_yes T rfl rfl h22 (r_pv T rfl rfl fun _ T => ⟨rfl, T⟩)⟩, ⟨_, _, rfl, (avl [34, 33] rfl), fun _ _ _ T S => g_yes T rfl rfl h22 (r_pv T rfl rfl fun _ T => ⟨rfl, T⟩)⟩, ⟨_, _, rfl, (avl [33, 35] rfl), fun _ _ _ T S => r_pickF T rfl h22 rfl rfl fun _ T => ⟨rfl, T⟩⟩, ⟨_, _, rfl, (avl [36] rfl), fun _ _ _ T S => r_pv T rfl rfl fun _ T => ⟨rfl, T⟩⟩, ⟨_, _, rfl, (avl [3, 37] rfl), fun _ _ _ T S => g_yes T rfl rfl h23 (r_fa (o' := 0) T rfl Tryd.runUnderlying31 rfl Tryd.sizeOf29 rfl rfl fun _ T => ⟨rfl, T⟩)⟩, ⟨_, _, rfl, (avl [38, 37] rfl), fun _ _ _ T S => g_yes T rfl rfl h23 (r_ldB (ix := 6) T S rfl Tryd.isAgg29 rfl rfl rfl fun _ T => ⟨rfl, T⟩)⟩, ⟨_, _, rfl, (avl [39, 37] rfl), fun _ _ _ T S => g_yes T rfl rfl h23 (r_lenS T rfl Tryd.runUnderlying29 rfl fun _ T => ⟨rfl, T⟩)⟩, ⟨_, _, rfl, (avl [40, 37] rfl), fun _ _ _ T S => g_yes T rfl rfl h23 (r_pv T rfl rfl fun _ T => ⟨rfl, T⟩)⟩, ⟨_, _, rfl, (avl [37, 41] rfl), fun _ _ _ T S => r_pickF T rfl h23 rfl rfl fun _ T => ⟨rfl, T⟩⟩, ⟨_, _, rfl, (avl [42] rfl), fun _ _ _ T S => r_pv T rfl rfl fun _ T => ⟨rfl, T⟩⟩, ⟨_, _, rfl, (avl [3, 43] rfl), fun _ _ _ T S => g_yes T rfl rfl h24 (r_fa (o' := 1) T rfl Tryd.runUnderlying31 rfl Tryd.sizeOf29 rfl rfl fun _ T => ⟨rfl, T⟩)⟩, ⟨_, _, rfl, (avl [44, 43] rfl), fun _ _ _ T S => g_yes T rfl rfl h24 (r_ldB (ix := 6) T S rfl Tryd.isAgg29 rfl rfl rfl fun _ T => ⟨rfl, T⟩)⟩, ⟨_, _, rfl, (avl [45, 43] rfl), fun _ _ _ T S => g_yes T rfl rfl h24 (r_b2s (ix := 5) (xs := x12.1.Value) T S rfl rfl Tryd.runUnderlying29 Tryd.runUnderlying9 Tryd.runUnderlying5 rfl fun _ T => ⟨rfl, T⟩)⟩, ⟨_, _, rfl, (avl [46, 43] rfl), fun _ _ _ T S => g_yes T rfl rfl h24 (r_pv T rfl rfl fun _ T => ⟨rfl, T⟩)⟩, ⟨_, _, rfl, (avl [43, 47] rfl), fun _ _ _ T S => r_pickF T rfl h24 rfl rfl fun _ T => ⟨rfl, T⟩⟩, ⟨_, _, rfl, (avl [48] rfl), fun _ _ _ T S => r_pv T rfl rfl fun _ T => ⟨rfl, T⟩⟩, ⟨_, _, rfl, (avl [5, 49] rfl), fun _ _ _ T S => g_yes T rfl rfl h25 (r_pv T rfl rfl fun _ T => ⟨rfl, T⟩)⟩, ⟨_, _, rfl, (avl [50, 49] rfl), fun _ _ _ T S => g_yes T rfl rfl h25 (r_lenS T rfl Tryd.runUnderlying27 rfl fun _ T => ⟨rfl, T⟩)⟩, ⟨_, _, rfl, (avl [51, 49] rfl), fun _ _ _ T S => g_yes T rfl rfl h25 (r_pv T rfl rfl fun _ T => ⟨rfl, T⟩)⟩, ⟨_, _, rfl, (avl [49, 52] rfl), fun _ _ _ T S => r_pickF T rfl h25 rfl rfl fun _ T => ⟨rfl, T⟩⟩, ⟨_, _, rfl, (avl [53] rfl), fun _ _ _ T S => r_pv T rfl rfl fun _ T => ⟨rfl, T⟩⟩, ⟨_, _, rfl, (avl [5, 54] rfl), fun _ _ _ T S => g_no T rfl rfl h26 rfl fun _ T => ⟨rfl, T⟩⟩, ⟨_, _, rfl, (avl [55, 54] rfl), fun _ _ _ T S => g_no T rfl rfl h26 rfl fun _ T => ⟨rfl, T⟩⟩, ⟨_, _, rfl, (avl [56, 54] rfl), fun _ _ _ T S => g_no T rfl rfl h26 rfl fun _ T => ⟨rfl, T⟩⟩, ⟨_, _, rfl, (avl [2, 54] rfl), fun _ _ _ T S => g_no T rfl rfl h26 rfl fun _ T => ⟨rfl, T⟩⟩, ⟨_, _, rfl, (avl [58, 54] rfl), fun _ _ _ T S => g_no T rfl rfl h26 rfl fun _ T => ⟨rfl, T⟩⟩, ⟨_, _, rfl, (avl [59, 54] rfl), fun _ _ _ T S => g_no T rfl rfl h26 rfl fun _ T => ⟨rfl, T⟩⟩, ⟨_, _, rfl, (avl [57, 60, 54] rfl), fun _ _ _ T S => g_no T rfl rfl h26 rfl fun _ T => ⟨rfl, T⟩⟩, ⟨_, _, rfl, (avl [54, 61] rfl), fun _ _ _ T S => r_pickT T rfl h26 rfl rfl fun _ T => ⟨rfl, T⟩⟩, trivial⟩ rfl (fun i hi => by cases hi) (fun _ _ a w T hv hb S => ?_)
      replace T := T.sub (r := [(y20 b9), (2, (y17 b10)), (62, .bool true)]) ⟨hb 1 _ rfl rfl, hb 2 _ rfl rfl, hv 31 _ 62 rfl rfl rfl, trivial⟩
      refine cdT T rfl rfl (Gets.seq ?_)
      exact J0_ok F r z _ _ (T.sub trivial) (S.only (p := []) [] rfl) H
     ·obtain ⟨h3501, H⟩ := ck H
      obtain ⟨h3681, H⟩ := ck H
      refine Gets.drawn (l := (y2 A20 k21 x19 A3 k4 x2 A5 k6 A7 k8 A13 k14 x12 A15 k16 b17 b10 b9)) (V := [some (.int .i64 x12.2, true), (y25 x12), (y25 x12), some (.int .i64 x19.2, true), (y19 x19), (y19 x19), (y19 x19), some (.pointer (some ⟨b17, 0, none⟩), true), some (.slice A13 x12.1.Key.length k14, true), some (.int .i64 (x12.1.Key.length : Int), true), (y16 x12), (y16 x12), (y16 x12), some (.pointer (some ⟨b17, 1, none⟩), true), some (.slice A15 x12.1.Value.length k16, true), some (.string (bstr x12.1.Value), true), (y12 x12), (y12 x12), (y12 x12), some (.slice A20 x19.1.length k21, true), some (.int .i64 (x19.1.length : Int), true), some (.bool ((x19.1.length : Int) != 2), true), some (.bool ((x19.1.length : Int) != 2), true), some (.bool ((x19.1.length : Int) != 2), true), some (.slice A20 x19.1.length k21, true), some (.pointer (some (eA A20 (Int.toNat 1 * 4))), true), some (.agg #[.int .i64 ((gi dapi_Value x19.1 1).Type'), .bool ((gi dapi_Value x19.1 1).Null), .int .i64 ((gi dapi_Value x19.1 1).Int), .string ((gi dapi_Value x19.1 1).Text)], true), some ((y17 b10), true), some (.pointer (some (eA (some ⟨b10, 0, none⟩) (Int.toNat 1 * 4))), true), some (.agg #[.int .i64 ((gi dapi_Value [(y7), (y6)] 1).Type'), .bool ((gi dapi_Value [(y7), (y6)] 1).Null), .int .i64 ((gi dapi_Value [(y7), (y6)] 1).Int), .string ((gi dapi_Value [(y7), (y6)] 1).Text)], true), some (.bool (!(eqapi_Value (gi dapi_Value x19.1 1) (gi dapi_Value [(y7), (y6)] 1))), true), some (.bool (!(eqapi_Value (gi dapi_Value x19.1 1) (gi dapi_Value [(y7), (y6)] 1))), true)]) mixed T S rfl ?_
      refine stage none rfl rfl ⟨⟨_, _, rfl, (avl [4] rfl), fun _ _ _ T S => r_pv T rfl rfl fun _ T => ⟨rfl, T⟩⟩, ⟨_, _, rfl, (avl [31] rfl), fun _ _ _ T S => r_pv T rfl rfl fun _ T => ⟨rfl, T⟩⟩, ⟨_, _, rfl, (avl [32] rfl), fun _ _ _ T S => r_pv T rfl rfl fun _ T => ⟨rfl, T⟩⟩, ⟨_, _, rfl, (avl [6, 33] rfl), fun _ _ _ T S => g_yes T rfl rfl h22 (r_pv T rfl rfl fun _ T => ⟨rfl, T⟩)⟩, ⟨_, _, rfl, (avl [34, 33] rfl), fun _ _ _ T S => g_yes T rfl rfl h22 (r_pv T rfl rfl fun _ T => ⟨rfl, T⟩)⟩, ⟨_, _, rfl, (avl [33, 35] rfl), fun _ _ _ T S => r_pickF T rfl h22 rfl rfl fun _ T => ⟨rfl, T⟩⟩, ⟨_, _, rfl, (avl [36] rfl), fun _ _ _ T S => r_pv T rfl rfl fun _ T => ⟨rfl, T⟩⟩, ⟨_, _, rfl, (avl [3, 37] rfl), fun _ _ _ T S => g_yes T rfl rfl h23 (r_fa (o' := 0) T rfl Tryd.runUnderlying31 rfl Tryd.sizeOf29 rfl rfl fun _ T => ⟨rfl, T⟩)⟩, ⟨_, _, rfl, (avl [38, 37] rfl), fun _ _ _ T S => g_yes T rfl rfl h23 (r_ldB (ix := 6) T S rfl Tryd.isAgg29 rfl rfl rfl fun _ T => ⟨rfl, T⟩)⟩, ⟨_, _, rfl, (avl [39, 37] rfl), fun _ _ _ T S => g_yes T rfl rfl h23 (r_lenS T rfl Tryd.runUnderlying29 rfl fun _ T => ⟨rfl, T⟩)⟩, ⟨_, _, rfl, (avl [40, 37] rfl), fun _ _ _ T S => g_yes T rfl rfl h23 (r_pv T rfl rfl fun _ T => ⟨rfl, T⟩)⟩, ⟨_, _, rfl, (avl [37, 41] rfl), fun _ _ _ T S => r_pickF T rfl h23 rfl rfl fun _ T => ⟨rfl, T⟩⟩, ⟨_, _, rfl, (avl [42] rfl), fun _ _ _ T S => r_pv T rfl rfl fun _ T => ⟨rfl, T⟩⟩, ⟨_, _, rfl, (avl [3, 43] rfl), fun _ _ _ T S => g_yes T rfl rfl h24 (r_fa (o' := 1) T rfl Tryd.runUnderlying31 rfl Tryd.sizeOf29 rfl rfl fun _ T => ⟨rfl, T⟩)⟩, ⟨_, _, rfl, (avl [44, 43] rfl), fun _ _ _ T S => g_yes T rfl rfl h24 (r_ldB (ix := 6) T S rfl Tryd.isAgg29 rfl rfl rfl fun _ T => ⟨rfl, T⟩)⟩, ⟨_, _, rfl, (avl [45, 43] rfl), fun _ _ _ T S => g_yes T rfl rfl h24 (r_b2s (ix := 5) (xs := x12.1.Value) T S rfl rfl Tryd.runUnderlying29 Tryd.runUnderlying9 Tryd.runUnderlying5 rfl fun _ T => ⟨rfl, T⟩)⟩, ⟨_, _, rfl, (avl [46, 43] rfl), fun _ _ _ T S => g_yes T rfl rfl h24 (r_pv T rfl rfl fun _ T => ⟨rfl, T⟩)⟩, ⟨_, _, rfl, (avl [43, 47] rfl), fun _ _ _ T S => r_pickF T rfl h24 rfl rfl fun _ T => ⟨rfl, T⟩⟩, ⟨_, _, rfl, (avl [48] rfl), fun _ _ _ T S => r_pv T rfl rfl fun _ T => ⟨rfl, T⟩⟩, ⟨_, _, rfl, (avl [5, 49] rfl), fun _ _ _ T S => g_yes T rfl rfl h25 (r_pv T rfl rfl fun _ T => ⟨rfl, T⟩)⟩, ⟨_, _, rfl, (avl [50, 49] rfl), fun _ _ _ T S => g_yes T rfl rfl h25 (r_lenS T rfl Tryd.runUnderlying27 rfl fun _ T => ⟨rfl, T⟩)⟩, ⟨_, _, rfl, (avl [51, 49] rfl), fun _ _ _ T S => g_yes T rfl rfl h25 (r_pv T rfl rfl fun _ T => ⟨rfl, T⟩)⟩, ⟨_, _, rfl, (avl [49, 52] rfl), fun _ _ _ T S => r_pickF T rfl h25 rfl rfl fun _ T => ⟨rfl, T⟩⟩, ⟨_, _, rfl, (avl [53] rfl), fun _ _ _ T S => r_pv T rfl rfl fun _ T => ⟨rfl, T⟩⟩, ⟨_, _, rfl, (avl [5, 54] rfl), fun _ _ _ T S => g_yes T rfl rfl h26 (r_pv T rfl rfl fun _ T => ⟨rfl, T⟩)⟩, ⟨_, _, rfl, (avl [55, 54] rfl), fun _ _ _ T S => g_yes T rfl rfl h26 (r_ia (ix := 0) T S rfl rfl rfl rfl Tryd.runUnderlying27 Tryd.sizeOf43 (by decide) h3501 rfl fun _ T => ⟨rfl, T⟩)⟩, ⟨_, _, rfl, (avl [56, 54] rfl), fun _ _ _ T S => g_yes T rfl rfl h26 (r_ldEP (ix := 0) (i := 1) (off := 0) (f := pf_api_Value) T S rfl rfl Tryd.isAgg43 Tryd.sizeOf43 dapi_Value rfl (Fld.all _) (by decide) h3501 pl_api_Value rfl fun _ T => ⟨rfl, T⟩)⟩, ⟨_, _, rfl, (avl [2, 54] rfl), fun _ _ _ T S => g_yes T rfl rfl h26 (r_pv T rfl rfl fun _ T => ⟨rfl, T⟩)⟩, ⟨_, _, rfl, (avl [58, 54] rfl), fun _ _ _ T S => g_yes T rfl rfl h26 (r_ia (ix := 7) T S rfl rfl rfl (by simp) Tryd.runUnderlying27 Tryd.sizeOf43 (by decide) h3681 rfl fun _ T => ⟨rfl, T⟩)⟩, ⟨_, _, rfl, (avl [59, 54] rfl), fun _ _ _ T S => g_yes T rfl rfl h26 (r_ldEP (ix := 7) (i := 1) (off := 0) (f := pf_api_Value) T S rfl rfl Tryd.isAgg43 Tryd.sizeOf43 dapi_Value rfl (Fld.all _) (by decide) h3681 pl_api_Value rfl fun _ T => ⟨rfl, T⟩)⟩, ⟨_, _, rfl, (avl [57, 60, 54] rfl), fun _ _ _ T S => g_yes T rfl rfl h26 (r_neA (u := [.int .i64 ((gi dapi_Value x19.1 1).Type'), .bool ((gi dapi_Value x19.1 1).Null), .int .i64 ((gi dapi_Value x19.1 1).Int), .string ((gi dapi_Value x19.1 1).Text)]) (v := [.int .i64 ((gi dapi_Value [(y7), (y6)] 1).Type'), .bool ((gi dapi_Value [(y7), (y6)] 1).Null), .int .i64 ((gi dapi_Value [(y7), (y6)] 1).Int), .string ((gi dapi_Value [(y7), (y6)] 1).Text)]) T rfl rfl (fun _ => seg43 _ _ _ _ _ _) (fun w => seq43 (gi dapi_Value x19.1 1) (gi dapi_Value [(y7), (y6)] 1) w) rfl fun _ T => ⟨rfl, T⟩)⟩, ⟨_, _, rfl, (avl [54, 61] rfl), fun _ _ _ T S => r_pickF T rfl h26 rfl rfl fun _ T => ⟨rfl, T⟩⟩, trivial⟩ rfl (fun i hi => by cases hi) (fun _ _ a w T hv hb S => ?_)
      replace T := T.sub (r := [(y20 b9), (2, (y17 b10)), (62, .bool (!(eqapi_Value (gi dapi_Value x19.1 1) (gi dapi_Value [(y7), (y6)] 1))))]) ⟨hb 1 _ rfl rfl, hb 2 _ rfl rfl, hv 31 _ 62 rfl rfl rfl, trivial⟩
      rcases ifE H with ⟨h27, H⟩ | ⟨h27, H⟩
      ·refine cdT T rfl h27 ?_
       refine Gets.seq ?_
       exact J0_ok F r z _ _ (T.sub trivial) (S.only (p := []) [] rfl) H
      ·refine cdF T rfl h27 ?_
       refine Gets.skip (Gets.seq ?_)
       refine rg (r_pv T rfl rfl fun _ T => r_build (cs := #[.int .i64 3, .bool true, .int .i64 0, (y22)]) T stt43 rfl rfl rfl fun _ T => r_ia (ix := 7) T S rfl rfl rfl (by simp) Tryd.runUnderlying27 Tryd.sizeOf43 (by decide) h3681 rfl fun _ T => ?_)
       refine r_stEO (ix := 7) (i := 1) (u := (api_Value.mk 3 true 0 (⟨#[]⟩ : ByteArray))) (vs := [.int .i64 3, .bool true, .int .i64 0, (y22)]) (l' := [sl .own kapi_Value A20 k21 x19.1, (y10 A3 k4 x2), (y18 A5 k6 x2), (y11 A7 k8 x2), sl .ro ku8 A13 k14 x12.1.Key, sl .ro ku8 A15 k16 x12.1.Value, blk b17 (y14 A13 x12 k14 A15 k16), (y1 b10), blk b9 (y0 x2 A3 k4 A5 k6 A7 k8)]) T S rfl rfl rfl rfl (by simp) (fun _ => ⟨_, _, rfl, rfl, ⟨_, _, rfl, rfl, ⟨_, _, rfl, rfl, rfl⟩⟩⟩) Tryd.sizeOf43 (by decide) h3681 rfl fun _ S => ?_
       refine Gets.seq ?_
       obtain ⟨h4101, H⟩ := ck H
       obtain ⟨_, S⟩ := S.peek (ix := 3) (off := 0) (i := 0) rfl dapi_Index (Fld.all _) (by decide) h4101
       obtain ⟨A4161, k4162, hv_, S_⟩ := op_api_Index (l := _ :: _) S
       subst hv_
       replace S := S_
       refine Gets.drawn (l := [(y15 A4161 k4162 x2), (y3 A7 x2 A4161 k4162), (y10 A3 k4 x2), (y18 A5 k6 x2), (y11 A7 k8 x2), sl .ro ku8 A13 k14 x12.1.Key, sl .ro ku8 A15 k16 x12.1.Value, blk b17 (y14 A13 x12 k14 A15 k16), (y1 b10), blk b9 (y0 x2 A3 k4 A5 k6 A7 k8)]) (V := [some ((y8 x2 A3 k4 A5 k6 A7 k8), true), (y26 b9), some (.slice A7 x2.Indexes.length k8, true), some ((y21 A7), true), some ((y5 x2 A4161 k4162), true), some ((y17 b10), true), none, none, none, none, none, none, none]) mixed T (S.only [0, 0, 1, 1, 1, 1, 1, 1, 1, 1] rfl) rfl ?_
       refine stageL [6, 10] rfl rfl ⟨⟨_, _, rfl, (avl [1] rfl), fun _ _ _ T S => r_ldBA (ix := 9) (ds := (y0 x2 A3 k4 A5 k6 A7 k8)) T S rfl Tryd.isAgg26 rfl rfl Tryd.sizeOf26 rfl fun _ T => ⟨rfl, T⟩⟩, ⟨_, _, rfl, (avl [1] rfl), fun _ _ _ T S => r_fa (o' := 4) T rfl Tryd.runUnderlying26 rfl Tryd.sizeOf24 rfl rfl fun _ T => ⟨rfl, T⟩⟩, ⟨_, _, rfl, (avl [68] rfl), fun _ _ _ T S => r_ldB (ix := 9) T S rfl Tryd.isAgg24 rfl rfl rfl fun _ T => ⟨rfl, T⟩⟩, ⟨_, _, rfl, (avl [69] rfl), fun _ _ _ T S => r_ia (ix := 4) T S rfl rfl rfl rfl Tryd.runUnderlying24 Tryd.sizeOf46 (by decide) h4101 rfl fun _ T => ⟨rfl, T⟩⟩, ⟨_, _, rfl, (avl [70] rfl), fun _ _ _ T S => r_ldCA (ix := 1) (A := A7) T S rfl rfl rfl Tryd.isAgg46 Tryd.sizeOf46 rfl fun _ T => ⟨rfl, T⟩⟩, ⟨_, _, rfl, (avl [2] rfl), fun _ _ _ T S => r_pv T rfl rfl fun _ T => ⟨rfl, T⟩⟩, trivial⟩ rfl (fun i hi => ?_) (fun h => by cases h)
       simp only [List.mem_cons, List.not_mem_nil, or_false] at hi
       rcases hi with rfl | rfl
       ·refine ⟨rfl, _, _, rfl, (avl [67, 71, 72] rfl), fun u a w T S => ?_⟩
        obtain ⟨x4282, h4281, H⟩ := bd H
        refine r_call T Tryd.call13 rfl rfl (rowkey_Entry.ok _ _ z x2 (gi dapi_Index x2.Indexes 0) ([(y7), (y6)].set (Int.toNat 1) (api_Value.mk 3 true 0 (⟨#[]⟩ : ByteArray))) (S.sel (p := [(y10 A3 k4 x2), (y18 A5 k6 x2), (y11 A7 k8 x2), (y15 A4161 k4162 x2), (y1 b10)]) (is := [2, 2, 2, 0, 4]) rfl) _ h4281) ?_
        rintro _ _ ⟨A4283, k4284, A4285, k4286, rfl, S⟩
        refine ⟨_, rfl, fun _ T => ?_⟩
        replace S : SL ([sl .ro ku8 A4283 k4284 x4282.1.Key, (y27 A4285 k4286 x4282), (y10 A3 k4 x2), (y18 A5 k6 x2), (y11 A7 k8 x2), (y15 A4161 k4162 x2), (y1 b10), (y3 A7 x2 A4161 k4162), sl .ro ku8 A13 k14 x12.1.Key, sl .ro ku8 A15 k16 x12.1.Value, blk b17 (y14 A13 x12 k14 A15 k16), blk b9 (y0 x2 A3 k4 A5 k6 A7 k8)] ++ F) _ := S.join
        refine ⟨_, [some ((y8 x2 A3 k4 A5 k6 A7 k8), false), (y26 b9), some (.slice A7 x2.Indexes.length k8, true), some ((y21 A7), true), some ((y5 x2 A4161 k4162), false), some ((y17 b10), false), some (.tuple #[(y9 A4283 x4282 k4284 A4285 k4286), .int .i64 x4282.2], false), some (.tuple #[(y9 A4283 x4282 k4284 A4285 k4286), .int .i64 x4282.2], true), some ((y9 A4283 x4282 k4284 A4285 k4286), true), some (.int .i64 x4282.2, true), none, none, none], [sl .ro ku8 A4283 k4284 x4282.1.Key, (y27 A4285 k4286 x4282), (y10 A3 k4 x2), (y18 A5 k6 x2), (y11 A7 k8 x2), (y15 A4161 k4162 x2), (y1 b10), (y3 A7 x2 A4161 k4162), sl .ro ku8 A13 k14 x12.1.Key, sl .ro ku8 A15 k16 x12.1.Value, blk b17 (y14 A13 x12 k14 A15 k16), blk b9 (y0 x2 A3 k4 A5 k6 A7 k8)], rfl, (by repeat first | exact kx0 | apply kxs | apply kxn), rfl, ?_, T, S⟩
        refine stage (some 10) rfl rfl ⟨⟨_, _, rfl, (avl [1] rfl), fun _ _ _ T S => r_fa (o' := 4) T rfl Tryd.runUnderlying26 rfl Tryd.sizeOf24 rfl rfl fun _ T => ⟨rfl, T⟩⟩, ⟨_, _, rfl, (avl [68] rfl), fun _ _ _ T S => r_ldB (ix := 11) T S rfl Tryd.isAgg24 rfl rfl rfl fun _ T => ⟨rfl, T⟩⟩, ⟨_, _, rfl, (avl [69] rfl), fun _ _ _ T S => r_ia (ix := 4) T S rfl rfl rfl rfl Tryd.runUnderlying24 Tryd.sizeOf46 (by decide) h4101 rfl fun _ T => ⟨rfl, T⟩⟩, ⟨_, _, rfl, (avl [73] rfl), fun _ _ _ T S => r_pv T rfl rfl fun _ T => ⟨rfl, T⟩⟩, ⟨_, _, rfl, (avl [66] rfl), fun _ _ _ T S => r_pv T rfl rfl fun _ T => ⟨rfl, T⟩⟩, ⟨_, _, rfl, (avl [66] rfl), fun _ _ _ T S => r_pv T rfl rfl fun _ T => ⟨rfl, T⟩⟩, trivial⟩ rfl (fun i hi => ?_) (fun h => by cases h)
        cases hi
        refine ⟨rfl, _, [], rfl, trivial, fun u a w T S => ?_⟩
        refine r_alloc T S zv31 (cs := (y24)) rfl rfl fun _ _ b4521 S T => ?_
        refine ⟨_, [some ((y8 x2 A3 k4 A5 k6 A7 k8), false), (y26 b9), some (.slice A7 x2.Indexes.length k8, true), some ((y21 A7), true), some ((y5 x2 A4161 k4162), false), some ((y17 b10), false), some (.tuple #[(y9 A4283 x4282 k4284 A4285 k4286), .int .i64 x4282.2], false), some (.tuple #[(y9 A4283 x4282 k4284 A4285 k4286), .int .i64 x4282.2], true), some ((y9 A4283 x4282 k4284 A4285 k4286), true), some (.int .i64 x4282.2, true), some ((y29 b4521), false), none, none], [blk b4521 (y24), sl .ro ku8 A4283 k4284 x4282.1.Key, (y27 A4285 k4286 x4282), (y10 A3 k4 x2), (y18 A5 k6 x2), (y11 A7 k8 x2), (y15 A4161 k4162 x2), (y1 b10), (y3 A7 x2 A4161 k4162), sl .ro ku8 A13 k14 x12.1.Key, sl .ro ku8 A15 k16 x12.1.Value, blk b17 (y14 A13 x12 k14 A15 k16), blk b9 (y0 x2 A3 k4 A5 k6 A7 k8)], rfl, (by repeat first | exact kx0 | apply kxs | apply kxn), rfl, ?_, T, S⟩
        refine stage (some 11) rfl rfl ⟨⟨_, _, rfl, (avl [1] rfl), fun _ _ _ T S => r_fa (o' := 4) T rfl Tryd.runUnderlying26 rfl Tryd.sizeOf24 rfl rfl fun _ T => ⟨rfl, T⟩⟩, ⟨_, _, rfl, (avl [68] rfl), fun _ _ _ T S => r_ldB (ix := 12) T S rfl Tryd.isAgg24 rfl rfl rfl fun _ T => ⟨rfl, T⟩⟩, ⟨_, _, rfl, (avl [69] rfl), fun _ _ _ T S => r_ia (ix := 5) T S rfl rfl rfl rfl Tryd.runUnderlying24 Tryd.sizeOf46 (by decide) h4101 rfl fun _ T => ⟨rfl, T⟩⟩, ⟨_, _, rfl, (avl [73] rfl), fun _ _ _ T S => r_pv T rfl rfl fun _ T => ⟨rfl, T⟩⟩, ⟨_, _, rfl, (avl [66] rfl), fun _ _ _ T S => r_pv T rfl rfl fun _ T => ⟨rfl, T⟩⟩, ⟨_, _, rfl, (avl [66] rfl), fun _ _ _ T S => r_pv T rfl rfl fun _ T => ⟨rfl, T⟩⟩, trivial⟩ rfl (fun i hi => ?_) (fun h => by cases h)
        cases hi
        refine ⟨rfl, _, _, rfl, (avl [7, 74] rfl), fun u a w T S => ?_⟩
        refine r_stBA (ix := 0) (vs := (y13 A4283 x4282 k4284 A4285 k4286)) (l' := [blk b4521 (y13 A4283 x4282 k4284 A4285 k4286), sl .ro ku8 A4283 k4284 x4282.1.Key, (y27 A4285 k4286 x4282), (y10 A3 k4 x2), (y18 A5 k6 x2), (y11 A7 k8 x2), (y15 A4161 k4162 x2), (y1 b10), (y3 A7 x2 A4161 k4162), sl .ro ku8 A13 k14 x12.1.Key, sl .ro ku8 A15 k16 x12.1.Value, blk b17 (y14 A13 x12 k14 A15 k16), blk b9 (y0 x2 A3 k4 A5 k6 A7 k8)]) T S rfl rfl rfl rfl (by simp) Tryd.sizeOf31 (Nat.le_of_ble_eq_true rfl) rfl fun _ S => ?_
        refine ⟨_, [some ((y8 x2 A3 k4 A5 k6 A7 k8), false), some (.pointer (some ⟨b9, 4, none⟩), false), some (.slice A7 x2.Indexes.length k8, false), some ((y21 A7), false), some ((y5 x2 A4161 k4162), false), some ((y17 b10), false), some (.tuple #[(y9 A4283 x4282 k4284 A4285 k4286), .int .i64 x4282.2], false), some (.tuple #[(y9 A4283 x4282 k4284 A4285 k4286), .int .i64 x4282.2], false), some ((y9 A4283 x4282 k4284 A4285 k4286), false), some (.int .i64 x4282.2, true), some ((y29 b4521), false), some (undef, false), some (.int .i64 x4282.2, true)], [blk b4521 (y13 A4283 x4282 k4284 A4285 k4286), sl .ro ku8 A4283 k4284 x4282.1.Key, (y27 A4285 k4286 x4282), (y10 A3 k4 x2), (y18 A5 k6 x2), (y11 A7 k8 x2), (y15 A4161 k4162 x2), (y1 b10), (y3 A7 x2 A4161 k4162), sl .ro ku8 A13 k14 x12.1.Key, sl .ro ku8 A15 k16 x12.1.Value, blk b17 (y14 A13 x12 k14 A15 k16), blk b9 (y0 x2 A3 k4 A5 k6 A7 k8)], rfl, (by repeat first | exact kx0 | apply kxs | apply kxn), rfl, ?_, T, S⟩
        refine stage none rfl rfl ⟨⟨_, _, rfl, (avl [66] rfl), fun _ _ _ T S => r_pv T rfl rfl fun _ T => ⟨rfl, T⟩⟩, ⟨_, _, rfl, (avl [75] rfl), fun _ _ _ T S => r_pv T rfl rfl fun _ T => ⟨rfl, T⟩⟩, trivial⟩ rfl (fun i hi => by cases hi) (fun _ _ a w T hv hb S => ?_)
        replace T := T.sub (r := [(y20 b9), (7, (y29 b4521)), (8, .int .i64 x4282.2)]) ⟨hb 1 _ rfl rfl, hv 10 _ 7 rfl rfl rfl, hv 12 _ 8 rfl rfl rfl, trivial⟩
        refine Gets.seq ?_
        exact J1_ok F r z b9 b4521 x4282 x2 A3 k4 A5 k6 A7 k8 A4283 k4284 A4285 k4286 _ _ (T.sub ⟨rfl, rfl, rfl, trivial⟩) (S.only (p := [blk b9 (y0 x2 A3 k4 A5 k6 A7 k8), (y10 A3 k4 x2), (y18 A5 k6 x2), (y11 A7 k8 x2), blk b4521 (y13 A4283 x4282 k4284 A4285 k4286), sl .ro ku8 A4283 k4284 x4282.1.Key, (y27 A4285 k4286 x4282)]) [12, 3, 3, 3, 0, 0, 0] rfl) H
       ·refine ⟨rfl, _, [], rfl, trivial, fun u a w T S => ?_⟩
        refine r_alloc T S zv31 (cs := (y24)) rfl rfl fun _ _ b4521 S T => ?_
        refine ⟨_, [some ((y8 x2 A3 k4 A5 k6 A7 k8), true), (y26 b9), some (.slice A7 x2.Indexes.length k8, true), some ((y21 A7), true), some ((y5 x2 A4161 k4162), true), some ((y17 b10), true), none, none, none, none, some ((y29 b4521), false), none, none], [blk b4521 (y24), (y15 A4161 k4162 x2), (y3 A7 x2 A4161 k4162), (y10 A3 k4 x2), (y18 A5 k6 x2), (y11 A7 k8 x2), sl .ro ku8 A13 k14 x12.1.Key, sl .ro ku8 A15 k16 x12.1.Value, blk b17 (y14 A13 x12 k14 A15 k16), (y1 b10), blk b9 (y0 x2 A3 k4 A5 k6 A7 k8)], rfl, (by repeat first | exact kx0 | apply kxs | apply kxn), rfl, ?_, T, S⟩
        refine stage (some 6) rfl rfl ⟨⟨_, _, rfl, (avl [1] rfl), fun _ _ _ T S => r_ldBA (ix := 10) (ds := (y0 x2 A3 k4 A5 k6 A7 k8)) T S rfl Tryd.isAgg26 rfl rfl Tryd.sizeOf26 rfl fun _ T => ⟨rfl, T⟩⟩, ⟨_, _, rfl, (avl [1] rfl), fun _ _ _ T S => r_fa (o' := 4) T rfl Tryd.runUnderlying26 rfl Tryd.sizeOf24 rfl rfl fun _ T => ⟨rfl, T⟩⟩, ⟨_, _, rfl, (avl [68] rfl), fun _ _ _ T S => r_ldB (ix := 10) T S rfl Tryd.isAgg24 rfl rfl rfl fun _ T => ⟨rfl, T⟩⟩, ⟨_, _, rfl, (avl [69] rfl), fun _ _ _ T S => r_ia (ix := 5) T S rfl rfl rfl rfl Tryd.runUnderlying24 Tryd.sizeOf46 (by decide) h4101 rfl fun _ T => ⟨rfl, T⟩⟩, ⟨_, _, rfl, (avl [70] rfl), fun _ _ _ T S => r_ldCA (ix := 2) (A := A7) T S rfl rfl rfl Tryd.isAgg46 Tryd.sizeOf46 rfl fun _ T => ⟨rfl, T⟩⟩, ⟨_, _, rfl, (avl [2] rfl), fun _ _ _ T S => r_pv T rfl rfl fun _ T => ⟨rfl, T⟩⟩, trivial⟩ rfl (fun i hi => ?_) (fun h => by cases h)
        cases hi
        refine ⟨rfl, _, _, rfl, (avl [67, 71, 72] rfl), fun u a w T S => ?_⟩
        obtain ⟨x4282, h4281, H⟩ := bd H
        refine r_call T Tryd.call13 rfl rfl (rowkey_Entry.ok _ _ z x2 (gi dapi_Index x2.Indexes 0) ([(y7), (y6)].set (Int.toNat 1) (api_Value.mk 3 true 0 (⟨#[]⟩ : ByteArray))) (S.sel (p := [(y10 A3 k4 x2), (y18 A5 k6 x2), (y11 A7 k8 x2), (y15 A4161 k4162 x2), (y1 b10)]) (is := [3, 3, 3, 1, 5]) rfl) _ h4281) ?_
        rintro _ _ ⟨A4283, k4284, A4285, k4286, rfl, S⟩
        refine ⟨_, rfl, fun _ T => ?_⟩
        replace S : SL ([sl .ro ku8 A4283 k4284 x4282.1.Key, (y27 A4285 k4286 x4282), (y10 A3 k4 x2), (y18 A5 k6 x2), (y11 A7 k8 x2), (y15 A4161 k4162 x2), (y1 b10), blk b4521 (y24), (y3 A7 x2 A4161 k4162), sl .ro ku8 A13 k14 x12.1.Key, sl .ro ku8 A15 k16 x12.1.Value, blk b17 (y14 A13 x12 k14 A15 k16), blk b9 (y0 x2 A3 k4 A5 k6 A7 k8)] ++ F) _ := S.join
        refine ⟨_, [some ((y8 x2 A3 k4 A5 k6 A7 k8), false), (y26 b9), some (.slice A7 x2.Indexes.length k8, true), some ((y21 A7), true), some ((y5 x2 A4161 k4162), false), some ((y17 b10), false), some (.tuple #[(y9 A4283 x4282 k4284 A4285 k4286), .int .i64 x4282.2], false), some (.tuple #[(y9 A4283 x4282 k4284 A4285 k4286), .int .i64 x4282.2], true), some ((y9 A4283 x4282 k4284 A4285 k4286), true), some (.int .i64 x4282.2, true), some ((y29 b4521), false), none, none], [sl .ro ku8 A4283 k4284 x4282.1.Key, (y27 A4285 k4286 x4282), (y10 A3 k4 x2), (y18 A5 k6 x2), (y11 A7 k8 x2), (y15 A4161 k4162 x2), (y1 b10), blk b4521 (y24), (y3 A7 x2 A4161 k4162), sl .ro ku8 A13 k14 x12.1.Key, sl .ro ku8 A15 k16 x12.1.Value, blk b17 (y14 A13 x12 k14 A15 k16), blk b9 (y0 x2 A3 k4 A5 k6 A7 k8)], rfl, (by repeat first | exact kx0 | apply kxs | apply kxn), rfl, ?_, T, S⟩
        refine stage (some 11) rfl rfl ⟨⟨_, _, rfl, (avl [1] rfl), fun _ _ _ T S => r_fa (o' := 4) T rfl Tryd.runUnderlying26 rfl Tryd.sizeOf24 rfl rfl fun _ T => ⟨rfl, T⟩⟩, ⟨_, _, rfl, (avl [68] rfl), fun _ _ _ T S => r_ldB (ix := 12) T S rfl Tryd.isAgg24 rfl rfl rfl fun _ T => ⟨rfl, T⟩⟩, ⟨_, _, rfl, (avl [69] rfl), fun _ _ _ T S => r_ia (ix := 4) T S rfl rfl rfl rfl Tryd.runUnderlying24 Tryd.sizeOf46 (by decide) h4101 rfl fun _ T => ⟨rfl, T⟩⟩, ⟨_, _, rfl, (avl [73] rfl), fun _ _ _ T S => r_pv T rfl rfl fun _ T => ⟨rfl, T⟩⟩, ⟨_, _, rfl, (avl [66] rfl), fun _ _ _ T S => r_pv T rfl rfl fun _ T => ⟨rfl, T⟩⟩, ⟨_, _, rfl, (avl [66] rfl), fun _ _ _ T S => r_pv T rfl rfl fun _ T => ⟨rfl, T⟩⟩, trivial⟩ rfl (fun i hi => ?_) (fun h => by cases h)
        cases hi
        refine ⟨rfl, _, _, rfl, (avl [7, 74] rfl), fun u a w T S => ?_⟩
        refine r_stBA (ix := 7) (vs := (y13 A4283 x4282 k4284 A4285 k4286)) (l' := [sl .ro ku8 A4283 k4284 x4282.1.Key, (y27 A4285 k4286 x4282), (y10 A3 k4 x2), (y18 A5 k6 x2), (y11 A7 k8 x2), (y15 A4161 k4162 x2), (y1 b10), blk b4521 (y13 A4283 x4282 k4284 A4285 k4286), (y3 A7 x2 A4161 k4162), sl .ro ku8 A13 k14 x12.1.Key, sl .ro ku8 A15 k16 x12.1.Value, blk b17 (y14 A13 x12 k14 A15 k16), blk b9 (y0 x2 A3 k4 A5 k6 A7 k8)]) T S rfl rfl rfl rfl (by simp) Tryd.sizeOf31 (Nat.le_of_ble_eq_true rfl) rfl fun _ S => ?_
        refine ⟨_, [some ((y8 x2 A3 k4 A5 k6 A7 k8), false), some (.pointer (some ⟨b9, 4, none⟩), false), some (.slice A7 x2.Indexes.length k8, false), some ((y21 A7), false), some ((y5 x2 A4161 k4162), false), some ((y17 b10), false), some (.tuple #[(y9 A4283 x4282 k4284 A4285 k4286), .int .i64 x4282.2], false), some (.tuple #[(y9 A4283 x4282 k4284 A4285 k4286), .int .i64 x4282.2], false), some ((y9 A4283 x4282 k4284 A4285 k4286), false), some (.int .i64 x4282.2, true), some ((y29 b4521), false), some (undef, false), some (.int .i64 x4282.2, true)], [sl .ro ku8 A4283 k4284 x4282.1.Key, (y27 A4285 k4286 x4282), (y10 A3 k4 x2), (y18 A5 k6 x2), (y11 A7 k8 x2), (y15 A4161 k4162 x2), (y1 b10), blk b4521 (y13 A4283 x4282 k4284 A4285 k4286), (y3 A7 x2 A4161 k4162), sl .ro ku8 A13 k14 x12.1.Key, sl .ro ku8 A15 k16 x12.1.Value, blk b17 (y14 A13 x12 k14 A15 k16), blk b9 (y0 x2 A3 k4 A5 k6 A7 k8)], rfl, (by repeat first | exact kx0 | apply kxs | apply kxn), rfl, ?_, T, S⟩
        refine stage none rfl rfl ⟨⟨_, _, rfl, (avl [66] rfl), fun _ _ _ T S => r_pv T rfl rfl fun _ T => ⟨rfl, T⟩⟩, ⟨_, _, rfl, (avl [75] rfl), fun _ _ _ T S => r_pv T rfl rfl fun _ T => ⟨rfl, T⟩⟩, trivial⟩ rfl (fun i hi => by cases hi) (fun _ _ a w T hv hb S => ?_)
        replace T := T.sub (r := [(y20 b9), (7, (y29 b4521)), (8, .int .i64 x4282.2)]) ⟨hb 1 _ rfl rfl, hv 10 _ 7 rfl rfl rfl, hv 12 _ 8 rfl rfl rfl, trivial⟩
        refine Gets.seq ?_
        exact J1_ok F r z b9 b4521 x4282 x2 A3 k4 A5 k6 A7 k8 A4283 k4284 A4285 k4286 _ _ (T.sub ⟨rfl, rfl, rfl, trivial⟩) (S.only (p := [blk b9 (y0 x2 A3 k4 A5 k6 A7 k8), (y10 A3 k4 x2), (y18 A5 k6 x2), (y11 A7 k8 x2), blk b4521 (y13 A4283 x4282 k4284 A4285 k4286), sl .ro ku8 A4283 k4284 x4282.1.Key, (y27 A4285 k4286 x4282)]) [12, 2, 2, 2, 4, 0, 0] rfl) H
end cormorantlaw20_shown
end Go.Proofs.YtohelmfkpmphoaaDoor
namespace Go.Proofs.YtohelmfkpmphoaaDoor
open Go Go.Proofs.YtohelmfkpmphoaaDoor.X
set_option linter.unusedVariables false
set_option linter.unusedSimpArgs false
set_option maxRecDepth 100000
set_option maxHeartbeats 4000000
namespace cormorantlaw20_RowkeyTakes
noncomputable def c0 : Code := match Tryd.f4.body with | some c => c | none => .skip
def R (F : List Atom) (x1 : api_Table) (A2 : OA) (k3 : Nat) (A4 : OA) (k5 : Nat) (A6 : OA) (k7 : Nat) (x8 : api_KV) (A9 : OA) (k10 : Nat) (A11 : OA) (k12 : Nat) (r : Bool) : Ending → World → Prop := fun e w' => e = .returned (.bool r) ∧ SL ([sl .ro kapi_Column A2 k3 x1.Columns, sl .ro ki64 A4 k5 x1.Key, sl .ro kapi_Index A6 k7 x1.Indexes, sl .ro ku8 A9 k10 x8.Key, sl .ro ku8 A11 k12 x8.Value] ++ F) w'
def J0 (z : Nat) (x29 : Bool) : Option Bool := some x29
def f (z : Nat) (x1 : api_Table) (x8 : api_KV) : Option Bool := Bd (cormorantlaw20_shown.f z) fun x16 => Bd (cormorantref20_TakeRow.f z x1 x8) fun x18 => Bd (rowkey_TakeRow.f z x1 x8) fun x22 => Bd (cormorantlaw20_sameValues.f z x22.1 x18.1) fun x26 => If x16 (If (x22.2 == x18.2) (J0 z x26) (J0 z false)) (J0 z false)
noncomputable def ptJ0 : List Item := [.code (cr 6 c0)]
abbrev y0 (A2 : OA) (k3 : Nat) (x1 : api_Table) (A4 : OA) (k5 : Nat) (A6 : OA) (k7 : Nat) (A9 : OA) (k10 : Nat) (x8 : api_KV) (A11 : OA) (k12 : Nat) : List Atom := [sl .ro kapi_Column A2 k3 x1.Columns, sl .ro ki64 A4 k5 x1.Key, sl .ro kapi_Index A6 k7 x1.Indexes, sl .ro ku8 A9 k10 x8.Key, sl .ro ku8 A11 k12 x8.Value]
abbrev y1 (x1 : api_Table) (A2 : OA) (k3 : Nat) (A4 : OA) (k5 : Nat) (A6 : OA) (k7 : Nat) : List Value := [.int .i64 x1.Id, .string x1.Name, .slice A2 x1.Columns.length k3, .slice A4 x1.Key.length k5, .slice A6 x1.Indexes.length k7]
theorem J0_ok (F : List Atom) (r : Bool) (z : Nat) (x1 : api_Table) (A2 : OA) (k3 : Nat) (A4 : OA) (k5 : Nat) (A6 : OA) (k7 : Nat) (x8 : api_KV) (A9 : OA) (k10 : Nat) (A11 : OA) (k12 : Nat) (x29 : Bool) (a : Act) (w : World) (T : Tm 36 [(4, .bool x29)] a) (S : SL ((y0 A2 k3 x1 A4 k5 A6 k7 A9 k10 x8 A11 k12) ++ F) w) (H : J0 z x29 = some r) : Gets Tryd.prog 4 ptJ0 a w (R F x1 A2 k3 A4 k5 A6 k7 x8 A9 k10 A11 k12 r) := by
 replace H := Option.some.inj H
 subst H
 exact rtn T Tryd.func4 rfl rfl ⟨rfl, (S.only (p := (y0 A2 k3 x1 A4 k5 A6 k7 A9 k10 x8 A11 k12)) [0, 0, 0, 0, 0] rfl)⟩
theorem ok (F : List Atom) (w : World) (z : Nat) (x1 : api_Table) (x8 : api_KV) {A2 : OA} {k3 : Nat} {A4 : OA} {k5 : Nat} {A6 : OA} {k7 : Nat} {A9 : OA} {k10 : Nat} {A11 : OA} {k12 : Nat} (S : SL ((y0 A2 k3 x1 A4 k5 A6 k7 A9 k10 x8 A11 k12) ++ F) w) (r : Bool) (H : f z x1 x8 = some r) : Calls Tryd.prog 4 #[.agg #[.int .i64 x1.Id, .string x1.Name, .slice A2 x1.Columns.length k3, .slice A4 x1.Key.length k5, .slice A6 x1.Indexes.length k7], .agg #[.slice A9 x8.Key.length k10, .slice A11 x8.Value.length k12]] w (R F x1 A2 k3 A4 k5 A6 k7 x8 A9 k10 A11 k12 r) := by
 refine enter (vs := [.agg #[.int .i64 x1.Id, .string x1.Name, .slice A2 x1.Columns.length k3, .slice A4 x1.Key.length k5, .slice A6 x1.Indexes.length k7], .agg #[.slice A9 x8.Key.length k10, .slice A11 x8.Value.length k12]]) Tryd.func4 rfl Tryd.ntmps4 (Nat.le_of_ble_eq_true rfl) fun a T => ?_
 refine Gets.seq (rg (r_box T S rfl (cs := (y1 x1 A2 k3 A4 k5 A6 k7)) rfl rfl fun _ _ b13 S T => r_box T S rfl (cs := [.slice A9 x8.Key.length k10, .slice A11 x8.Value.length k12]) rfl rfl fun _ _ b14 S T => ?_))
 refine r_pv T rfl rfl fun _ T => Gets.seq (rg ?_)
 obtain ⟨x16, h15, H⟩ := bd H
 refine r_call T Tryd.call5 rfl rfl (cormorantlaw20_shown.ok _ _ z  (S.sel (p := []) (is := []) rfl) _ h15) ?_
 rintro _ _ ⟨rfl, S⟩
 refine ⟨_, rfl, fun _ T => ?_⟩
 replace S : SL ([blk b14 [.slice A9 x8.Key.length k10, .slice A11 x8.Value.length k12], blk b13 (y1 x1 A2 k3 A4 k5 A6 k7), sl .ro kapi_Column A2 k3 x1.Columns, sl .ro ki64 A4 k5 x1.Key, sl .ro kapi_Index A6 k7 x1.Indexes, sl .ro ku8 A9 k10 x8.Key, sl .ro ku8 A11 k12 x8.Value] ++ F) _ := S.join
 refine r_pv T rfl rfl fun _ T => Gets.seq (rg (r_ldBA (ix := 1) (ds := (y1 x1 A2 k3 A4 k5 A6 k7)) T S rfl Tryd.isAgg26 rfl rfl Tryd.sizeOf26 rfl fun _ T => ?_))
 refine r_ldBA (ix := 0) (ds := [.slice A9 x8.Key.length k10, .slice A11 x8.Value.length k12]) T S rfl Tryd.isAgg31 rfl rfl Tryd.sizeOf31 rfl fun _ T => ?_
 replace S := S.dup (i := 2) rfl
 replace S := S.dup (i := 4) rfl
 replace S := S.dup (i := 6) rfl
 replace S := S.dup (i := 8) rfl
 replace S := S.dup (i := 10) rfl
 obtain ⟨x18, h17, H⟩ := bd H
 refine r_call T Tryd.call11 rfl rfl (cormorantref20_TakeRow.ok _ _ z x1 x8 (S.sel (p := (y0 A2 k3 x1 A4 k5 A6 k7 A9 k10 x8 A11 k12)) (is := [4, 3, 2, 1, 0]) rfl) _ h17) ?_
 rintro _ _ ⟨A19, k20, rfl, S⟩
 refine ⟨_, rfl, fun _ T => ?_⟩
 replace S : SL ([sl .own kapi_Value A19 k20 x18.1, blk b14 [.slice A9 x8.Key.length k10, .slice A11 x8.Value.length k12], blk b13 (y1 x1 A2 k3 A4 k5 A6 k7), sl .ro kapi_Column A2 k3 x1.Columns, sl .ro ki64 A4 k5 x1.Key, sl .ro kapi_Index A6 k7 x1.Indexes, sl .ro ku8 A9 k10 x8.Key, sl .ro ku8 A11 k12 x8.Value] ++ F) _ := S.join.only [0, 5, 5, 5, 5, 5, 5, 5] rfl
 refine r_pv T rfl rfl fun _ T => r_pv T rfl rfl fun _ T => r_pv T rfl rfl fun _ T => r_pv T rfl rfl fun _ T => ?_
 refine r_pv T rfl rfl fun _ T => Gets.seq (rg (r_ldBA (ix := 2) (ds := (y1 x1 A2 k3 A4 k5 A6 k7)) T S rfl Tryd.isAgg26 rfl rfl Tryd.sizeOf26 rfl fun _ T => ?_))
 refine r_ldBA (ix := 1) (ds := [.slice A9 x8.Key.length k10, .slice A11 x8.Value.length k12]) T S rfl Tryd.isAgg31 rfl rfl Tryd.sizeOf31 rfl fun _ T => ?_
 replace S := S.dup (i := 3) rfl
 replace S := S.dup (i := 5) rfl
 replace S := S.dup (i := 7) rfl
 replace S := S.dup (i := 9) rfl
 replace S := S.dup (i := 11) rfl
 obtain ⟨x22, h21, H⟩ := bd H
 refine r_call T Tryd.call9 rfl rfl (rowkey_TakeRow.ok _ _ z x1 x8 (S.sel (p := (y0 A2 k3 x1 A4 k5 A6 k7 A9 k10 x8 A11 k12)) (is := [4, 3, 2, 1, 0]) rfl) _ h21) ?_
 rintro _ _ ⟨A23, k24, rfl, S⟩
 refine ⟨_, rfl, fun _ T => ?_⟩
 replace S : SL ([sl .own kapi_Value A23 k24 x22.1, sl .own kapi_Value A19 k20 x18.1, blk b14 [.slice A9 x8.Key.length k10, .slice A11 x8.Value.length k12], blk b13 (y1 x1 A2 k3 A4 k5 A6 k7), sl .ro kapi_Column A2 k3 x1.Columns, sl .ro ki64 A4 k5 x1.Key, sl .ro kapi_Index A6 k7 x1.Indexes, sl .ro ku8 A9 k10 x8.Key, sl .ro ku8 A11 k12 x8.Value] ++ F) _ := S.join.only [0, 5, 5, 5, 5, 5, 5, 5, 5] rfl
 refine r_pv T rfl rfl fun _ T => r_pv T rfl rfl fun _ T => r_pv T rfl rfl fun _ T => r_pv T rfl rfl fun _ T => ?_
 refine r_pv T rfl rfl fun _ T => Gets.seq (rg (r_pv T rfl rfl fun _ T => ?_))
 refine r_pv T rfl rfl fun _ T => ?_
 obtain ⟨x26, h25, H⟩ := bd H
 refine r_call T Tryd.call10 rfl rfl (cormorantlaw20_sameValues.ok _ _ z x22.1 x18.1 (S.sel (p := [sl .own kapi_Value A23 k24 x22.1, sl .own kapi_Value A19 k20 x18.1]) (is := [0, 0]) rfl) _ h25) ?_
 rintro _ _ ⟨rfl, S⟩
 refine ⟨_, rfl, fun _ T => ?_⟩
 replace S : SL ([sl .own kapi_Value A23 k24 x22.1, sl .own kapi_Value A19 k20 x18.1, blk b14 [.slice A9 x8.Key.length k10, .slice A11 x8.Value.length k12], blk b13 (y1 x1 A2 k3 A4 k5 A6 k7), sl .ro kapi_Column A2 k3 x1.Columns, sl .ro ki64 A4 k5 x1.Key, sl .ro kapi_Index A6 k7 x1.Indexes, sl .ro ku8 A9 k10 x8.Key, sl .ro ku8 A11 k12 x8.Value] ++ F) _ := S.join
 refine r_pv T rfl rfl fun _ T => Gets.seq (rg (r_pv T rfl rfl fun _ T => ?_))
 refine r_pv T rfl rfl fun _ T => ?_
 rcases ifE H with ⟨h27, H⟩ | ⟨h27, H⟩
 ·refine g_yes T rfl rfl h27 ?_
  refine r_pv T rfl rfl fun _ T => g_yes T rfl rfl h27 (r_pv T rfl rfl fun _ T => g_yes T rfl rfl h27 ?_)
  refine r_pv T rfl rfl fun _ T => r_pickT T rfl h27 rfl rfl fun _ T => r_pv T rfl rfl fun _ T => ?_
  rcases ifE H with ⟨h28, H⟩ | ⟨h28, H⟩
  ·refine g_yes T rfl rfl h28 ?_
   refine r_pv T rfl rfl fun _ T => r_pickT T rfl h28 rfl rfl fun _ T => r_pv T rfl rfl fun _ T => ?_
   exact J0_ok F r z x1 A2 k3 A4 k5 A6 k7 x8 A9 k10 A11 k12 x26 _ _ (T.sub ⟨rfl, trivial⟩) (S.only (p := (y0 A2 k3 x1 A4 k5 A6 k7 A9 k10 x8 A11 k12)) [4, 4, 4, 4, 4] rfl) H
  ·refine g_no T rfl rfl h28 rfl fun _ T => ?_
   refine r_pickF T rfl h28 rfl rfl fun _ T => r_pv T rfl rfl fun _ T => ?_
   exact J0_ok F r z x1 A2 k3 A4 k5 A6 k7 x8 A9 k10 A11 k12 false _ _ (T.sub ⟨rfl, trivial⟩) (S.only (p := (y0 A2 k3 x1 A4 k5 A6 k7 A9 k10 x8 A11 k12)) [4, 4, 4, 4, 4] rfl) H
 ·refine g_no T rfl rfl h27 rfl fun _ T => ?_
  refine g_no T rfl rfl h27 rfl fun _ T => g_no T rfl rfl h27 rfl fun _ T => r_pickF T rfl h27 rfl rfl fun _ T => r_pv T rfl rfl fun _ T => ?_
  refine g_no T rfl rfl rfl rfl fun _ T => r_pickF T rfl rfl rfl rfl fun _ T => r_pv T rfl rfl fun _ T => ?_
  exact J0_ok F r z x1 A2 k3 A4 k5 A6 k7 x8 A9 k10 A11 k12 false _ _ (T.sub ⟨rfl, trivial⟩) (S.only (p := (y0 A2 k3 x1 A4 k5 A6 k7 A9 k10 x8 A11 k12)) [4, 4, 4, 4, 4] rfl) H
end cormorantlaw20_RowkeyTakes
end Go.Proofs.YtohelmfkpmphoaaDoor
namespace Go.Proofs.YtohelmfkpmphoaaDoor
open Go Go.Proofs.YtohelmfkpmphoaaDoor.X
set_option linter.unusedVariables false
set_option linter.unusedSimpArgs false
section
variable {z : Nat} (hz : 16777216 ≤ z)
include hz
theorem taken_f {t : api_Table} {row : List api_Value} (hcl : t.Columns.length = row.length) {l : List Int} (hl : l.length ≤ 1048576) (h : ∀ n ∈ l, (0 ≤ n ∧ n < (row.length : Int)) ∧ okV (gi dapi_Value row n) ∧ tyAt t row n) (hk : (keysS row l).length ≤ 1048576) {r0 : List api_Value} (hr : r0.length = row.length) :
  cormorantref20_taken.f z t l (keysS row l) r0 = some ([], true, setK row l r0) := by
 have key : ∀ (k m i : Nat) (r : List api_Value), l.length - i = k → i ≤ l.length → k < m → r.length = row.length → (keysS row (l.drop i)).length ≤ 1048576 → cormorantref20_taken.L0 z t l m (keysS row (l.drop i)) (i : Int) r = some ([], true, setK row (l.drop i) r) := by
  intro k
  induction k with
  | zero =>
   intro m i r h1 h2 h3 h4 h5
   obtain ⟨m, rfl⟩ : ∃ q, m = q + 1 := ⟨m - 1, by omega⟩
   rw [cormorantref20_taken.L0, if_n (by simp; omega), List.drop_eq_nil_of_le (by omega)]
   rfl
  | succ k ih =>
   intro m i r h1 h2 h3 h4 h5
   obtain ⟨m, rfl⟩ : ∃ q, m = q + 1 := ⟨m - 1, by omega⟩
   have hi : i < l.length := by omega
   obtain ⟨q1, q2, q3⟩ := h l[i] (List.getElem_mem hi)
   rw [List.drop_eq_getElem_cons hi, keysS_cons] at h5 ⊢
   rw [List.length_append] at h5
   rw [cormorantref20_taken.L0, if_y (by simp; omega), ck_y (by omega), gi_nat _ _ _ hi, ck_y (by omega), show (gi dapi_Column t.Columns l[i]).Type' = (gi dapi_Value row l[i]).Type' from q3, takeKey_f hz q2 (keysS_bys _ _) (by omega), bd_some]
   unfold cormorantref20_taken.J1
   dsimp only
   rw [if_n (by rfl), ck_y (by omega), gi_nat _ _ _ hi, ck_y (by omega), wI (by omega)]
   exact ih m (i + 1) _ (by omega) (by omega) (by omega) (by simpa using h4) (by omega)
 have := key l.length z 0 r0 (by omega) (by omega) (by omega) hr (by simpa using hk)
 rw [List.drop_zero] at this
 exact this
theorem taken_ok {t : api_Table} {l : List Int} (hl : l.length ≤ 1048576) (h : ∀ n ∈ l, 0 ≤ n ∧ n < (t.Columns.length : Int)) {b : List Int} (hb : Bys b) (hbl : b.length ≤ 1048576) {r0 : List api_Value} (hr : r0.length = t.Columns.length) (h0 : ∀ v ∈ r0, inR v.Int) :
  Ok (cormorantref20_taken.f z t l b r0) fun p => p.2.2.length = t.Columns.length ∧ ∀ v ∈ p.2.2, inR v.Int := by
 have key : ∀ (k m i : Nat) (b : List Int) (r : List api_Value), l.length - i = k → i ≤ l.length → k < m → Bys b → b.length ≤ 1048576 → r.length = t.Columns.length → (∀ v ∈ r, inR v.Int) → Ok (cormorantref20_taken.L0 z t l m b (i : Int) r) fun p => p.2.2.length = t.Columns.length ∧ ∀ v ∈ p.2.2, inR v.Int := by
  intro k
  induction k with
  | zero =>
   intro m i b r h1 h2 h3 _ _ h6 h7
   obtain ⟨m, rfl⟩ : ∃ q, m = q + 1 := ⟨m - 1, by omega⟩
   rw [cormorantref20_taken.L0, if_n (by simp; omega)]
   exact Ok.some ⟨h6, h7⟩
  | succ k ih =>
   intro m i b r h1 h2 h3 h4 h5 h6 h7
   obtain ⟨m, rfl⟩ : ∃ q, m = q + 1 := ⟨m - 1, by omega⟩
   have hi : i < l.length := by omega
   have q1 := h l[i] (List.getElem_mem hi)
   rw [cormorantref20_taken.L0, if_y (by simp; omega), ck_y (by omega), gi_nat _ _ _ hi, ck_y (by omega)]
   refine (takeKey_ok hz h4 h5).bd fun p hp => ?_
   unfold cormorantref20_taken.J1
   refine Ok.ite (fun _ => Ok.some ⟨h6, h7⟩) fun _ => ?_
   rw [ck_y (by omega), gi_nat _ _ _ hi, ck_y (by omega), wI (by omega)]
   have hp2 : p.2.1.length ≤ b.length := hp.2.1
   refine ih m (i + 1) _ _ (by omega) (by omega) (by omega) hp.2.2 (by omega) (by simpa using h6) fun v hv => ?_
   rcases List.mem_or_eq_of_mem_set hv with hv | rfl
   ·exact h7 v hv
   ·exact hp.1
 exact key l.length z 0 b r0 (by omega) (by omega) (by omega) hb hbl hr h0
theorem refTakeRow_ok {t : api_Table} (ht : LimT t) (htab : tabB t = true) {kv : api_KV} (hk : LimKV kv) : Ok (cormorantref20_TakeRow.f z t kv) (Reads t kv) := by
 have hcols := ht.cols
 have hkin : ∀ n ∈ t.Key, 0 ≤ n ∧ n < (t.Columns.length : Int) := by
  have hk : keyB t.Columns.length t.Key = true := by unfold tabB at htab; simp at htab; exact htab.2
  exact (of_decide_eq_true hk).1
 unfold cormorantref20_TakeRow.f
 rw [tableMay_f hz ht.cols ht.key, bd_some, htab, Bool.not_true, if_f]
 refine Ok.ite (fun _ => Ok.some (.inl rfl)) fun h17 => ?_
 have h17' : 17 ≤ (kv.Key.length : Int) := by simpa using h17
 rw [ck_y (by omega), ck_y h17']
 refine (taken_ok hz ht.key hkin (hk.kb.cut _ _) (by have := hk.key; rw [cut_len _ _ _ (by omega)]; omega) (by simp) (replicate_in _)).bd fun p hp => ?_
 refine Ok.ite (fun _ => Ok.some (.inl rfl)) fun _ => ?_
 have key : ∀ (k m i : Nat) (r : List api_Value) (b : List Int), t.Columns.length - i = k → i ≤ t.Columns.length → k < m → r.length = t.Columns.length → (∀ v ∈ r, inR v.Int) → Bys b → b.length ≤ 1048576 → Ok (cormorantref20_TakeRow.L0 z t kv m r b (i : Int)) (Reads t kv) := by
  intro k
  induction k with
  | zero =>
   intro m i r b h1 h2 h3 h4 h5 h6 h7
   obtain ⟨m, rfl⟩ : ∃ q, m = q + 1 := ⟨m - 1, by omega⟩
   have hlr : LimR r := ⟨by omega, h5⟩
   rw [cormorantref20_TakeRow.L0, if_n (by simp; omega), refRow_f hz ht hlr, bd_some]
   unfold cormorantref20_TakeRow.J1
   refine Ok.ite (fun _ => Ok.some (.inl rfl)) fun he => ?_
   rw [bstr_inj (RowS_bys _ _).1 hk.kb, bstr_inj (RowS_bys _ _).2 hk.vb]
   refine Ok.ite (fun _ => Ok.some (.inl rfl)) fun e1 => ?_
   refine Ok.ite (fun _ => Ok.some (.inl rfl)) fun e2 => Ok.some (.inr ⟨rfl, hlr, ?_⟩)
   exact kv_ext (by simpa using e1) (by simpa using e2) (by simpa using he)
  | succ k ih =>
   intro m i r b h1 h2 h3 h4 h5 h6 h7
   obtain ⟨m, rfl⟩ : ∃ q, m = q + 1 := ⟨m - 1, by omega⟩
   have hi : i < t.Columns.length := by omega
   rw [cormorantref20_TakeRow.L0, if_y (by simp; omega), isKey_f hz ht.key, bd_some, wI (by omega)]
   refine Ok.ite (fun _ => ih m (i + 1) _ _ (by omega) (by omega) (by omega) h4 h5 h6 h7) fun _ => ?_
   rw [ck_y (by omega)]
   refine (TakeValue_ok hz h6 h7).bd fun q hq => ?_
   refine Ok.ite (fun _ => Ok.some (.inl rfl)) fun _ => ?_
   rw [ck_y (by omega)]
   have hq2 : q.2.1.length ≤ b.length := hq.2.1
   refine ih m (i + 1) _ _ (by omega) (by omega) (by omega) (by simpa using h4) (fun v hv => ?_) hq.2.2 (by omega)
   rcases List.mem_or_eq_of_mem_set hv with hv | rfl
   ·exact h5 v hv
   ·exact hq.1
 exact key t.Columns.length z 0 p.2.2 kv.Value (by omega) (by omega) (by omega) hp.1 hp.2 hk.vb hk.value
theorem refTakeRow_f {t : api_Table} (ht : LimT t) {row : List api_Value} (hrow : LimR row) {kv : api_KV} (h : RowS t row = (kv, 0)) : cormorantref20_TakeRow.f z t kv = some (row, 0) := by
 obtain ⟨htab, hrb, hK, hV, hKl, hVl⟩ := RowS_inv h
 have hcols := ht.cols
 have hcl : row.length = t.Columns.length := (of_decide_eq_true hrb).1
 have hkey := key_ok htab hrow hrb
 have hok := rowB_ok htab hrow hrb
 have hlen : kv.Key.length = 17 + (keysS row t.Key).length := by rw [hK, List.length_append, headS_len]
 unfold cormorantref20_TakeRow.f
 rw [tableMay_f hz ht.cols ht.key, bd_some, htab, Bool.not_true, if_f, if_n (by simp; omega), ck_y (by omega), ck_y (by omega)]
 have hcut : cut kv.Key (Int.toNat 17) (Int.toNat (kv.Key.length : Int)) = keysS row t.Key := by
  rw [show Int.toNat (kv.Key.length : Int) = kv.Key.length by omega, show Int.toNat 17 = 17 from rfl, cut_drop' _ _ _ rfl, hK]
  exact List.drop_left' (headS_len _)
 rw [hcut, taken_f hz hcl.symm ht.key (fun n hn => ⟨(hkey n hn).1, (hkey n hn).2, tyAt_of hrb (hkey n hn).1⟩) (by omega) (by simp [hcl]), bd_some]
 dsimp only
 rw [if_n (by rfl)]
 have key : ∀ (k m i : Nat) (r : List api_Value), row.length - i = k → i ≤ row.length → k < m → r.length = row.length → (∀ j : Nat, j < row.length → (j < i ∨ (j : Int) ∈ t.Key) → gi dapi_Value r (j : Int) = gi dapi_Value row (j : Int)) → (valsF t row k i).length ≤ 65536 → cormorantref20_TakeRow.L0 z t kv m r (valsF t row k i) (i : Int) = some (row, 0) := by
  intro k
  induction k with
  | zero =>
   intro m i r h1 h2 h3 h4 h5 h6
   obtain ⟨m, rfl⟩ : ∃ q, m = q + 1 := ⟨m - 1, by omega⟩
   have : r = row := ext_gi h4 fun j hj => h5 j hj (.inl (by omega))
   subst this
   rw [cormorantref20_TakeRow.L0, if_n (by simp; omega), refRow_f hz ht hrow, bd_some, h, if_n (by rfl)]
   have hb := RowS_bys t r
   rw [h] at hb
   rw [if_n (by simp), if_n (by simp)]
  | succ k ih =>
   intro m i r h1 h2 h3 h4 h5 h6
   obtain ⟨m, rfl⟩ : ∃ q, m = q + 1 := ⟨m - 1, by omega⟩
   have hi : i < row.length := by omega
   rw [cormorantref20_TakeRow.L0, if_y (by simp; omega), isKey_f hz ht.key, bd_some, wI (by omega)]
   rw [valsF] at h6 ⊢
   rw [List.length_append] at h6
   by_cases c : (i : Int) ∈ t.Key
   ·rw [if_y (by simpa using c), if_pos c]
    exact ih m (i + 1) r (by omega) (by omega) (by omega) h4 (fun j hj hq => h5 j hj (by
     by_cases e : j = i
     ·subst e; exact .inr c
     ·exact hq.imp (fun q => by omega) id)) (by omega)
   ·rw [if_neg c] at h6
    rw [if_n (by simpa using c), if_neg c, ck_y (by omega), show (gi dapi_Column t.Columns (i : Int)).Type' = (gi dapi_Value row (i : Int)).Type' from tyAt_of hrb (by omega), TakeValue_f hz (hok i hi) (valsF_bys _ _ _ _) (by omega), bd_some]
    dsimp only
    rw [if_n (by rfl), ck_y (by omega)]
    refine ih m (i + 1) _ (by omega) (by omega) (by omega) (by simpa using h4) (fun j hj hq => ?_) (by omega)
    rw [gi_set _ _ _ _ _ (by omega)]
    by_cases e : j = i
    ·subst e; rw [if_pos rfl]
    ·rw [if_neg (by omega)]
     exact h5 j hj (hq.imp (fun q => by omega) id)
 have := key row.length z 0 (setK row t.Key (List.replicate (Int.toNat (t.Columns.length : Int)) dapi_Value)) (by omega) (by omega) (by have := hrow.1; omega) (by rw [setK_len]; simp [hcl]) (fun j hj hq => setK_gi row _ _ _ (fun n hn => by have := (hkey n hn).1; simp; omega) (by omega) (.inr (hq.resolve_left (by omega)))) (by have : valsS t row = valsF t row row.length 0 := rfl; rw [← this, ← hV]; exact hVl)
 rw [hV]
 exact this
omit hz in
theorem eqV_refl (v : api_Value) : eqapi_Value v v = true := by simp [eqapi_Value]
theorem sameValues_refl {l : List api_Value} (hl : l.length ≤ 1048576) : cormorantlaw20_sameValues.f z l l = some true := by
 unfold cormorantlaw20_sameValues.f
 rw [if_n (by simp)]
 have key : ∀ (k m i : Nat), l.length - i = k → i ≤ l.length → k < m → cormorantlaw20_sameValues.L0 z l l m (i : Int) = some true := by
  intro k
  induction k with
  | zero =>
   intro m i h1 h2 h3
   obtain ⟨m, rfl⟩ : ∃ q, m = q + 1 := ⟨m - 1, by omega⟩
   rw [cormorantlaw20_sameValues.L0, if_n (by simp; omega)]
  | succ k ih =>
   intro m i h1 h2 h3
   obtain ⟨m, rfl⟩ : ∃ q, m = q + 1 := ⟨m - 1, by omega⟩
   rw [cormorantlaw20_sameValues.L0, if_y (by simp; omega), ck_y (by omega), ck_y (by omega), if_n (by rw [eqV_refl]; rfl), wI (by omega)]
   exact ih m (i + 1) (by omega) (by omega) (by omega)
 exact key l.length z 0 (by omega) (by omega) (by omega)
end
set_option maxRecDepth 100000 in
theorem shown_true : cormorantlaw20_shown.f 16777216 = some true := by decide +kernel
theorem takes_plain {t : api_Table} (ht : LimT t) {kv : api_KV} (hk : LimKV kv) : cormorantlaw20_RowkeyTakes.f 16777216 t kv = some true := by
 have hz : 16777216 ≤ 16777216 := Nat.le_refl _
 unfold cormorantlaw20_RowkeyTakes.f cormorantlaw20_RowkeyTakes.J0
 rw [shown_true, bd_some]
 have main : ∃ r : List api_Value × Int, r.1.length ≤ 1048576 ∧ cormorantref20_TakeRow.f 16777216 t kv = some r ∧ rowkey_TakeRow.f 16777216 t kv = some r := by
  cases htab : tabB t
  ·refine ⟨([], 1), by simp, ?_, ?_⟩
   ·unfold cormorantref20_TakeRow.f
    rw [tableMay_f hz ht.cols ht.key, bd_some, htab]; rfl
   ·unfold rowkey_TakeRow.f
    rw [tabled_f hz ht.cols ht.key, bd_some, htab]; rfl
  ·obtain ⟨r, e, h⟩ := TakeRow_ok hz ht htab hk
   obtain ⟨r', e', h'⟩ := refTakeRow_ok hz ht htab hk
   rcases h with h | ⟨h1, h2, h3⟩
   ·rcases h' with h' | ⟨h1, h2, h3⟩
    ·exact ⟨([], 200), by simp, by rw [e', h'], by rw [e, h]⟩
    ·have := TakeRow_f hz ht h2 h3
     exact ⟨r', h2.1, e', by rw [this]; congr 1; exact Prod.ext rfl h1.symm⟩
   ·have := refTakeRow_f hz ht h2 h3
    exact ⟨r, h2.1, by rw [this]; congr 1; exact Prod.ext rfl h1.symm, e⟩
 obtain ⟨r, hl, e1, e2⟩ := main
 rw [e1, bd_some, e2, bd_some, sameValues_refl hz hl, bd_some, if_t, if_y (by simp)]
end Go.Proofs.YtohelmfkpmphoaaDoor
namespace Go.Proofs.YtohelmfkpmphoaaDoor
open Go Go.ChangeShapes Go.WideShapes Go.ChangeAt Go.RowKit Go.Proofs.YtohelmfkpmphoaaDoor.X
theorem Tryd.own : ownKnob Tryd.prog.godebug = none := by kernel_rfl
theorem Tryd.laidOut : laidOutB Tryd.prog = true := by kernel_rfl
abbrev wI64 (n : Int) : Prop := (Lit.int .i64 n).wf = true
def bValue (v : api_Value) : Prop := wI64 v.Int
theorem rbValue : Rb kapi_Value Tryd.prog 43 (fun _ v => bValue v) :=
 Rb.iso (g := fun p => ⟨p.1, p.2.1, p.2.2.1, p.2.2.2⟩) (Rb.struct Tryd.underlying43 (by kernel_rfl) (by decide)
  (RbF.cons (Rb.int (P := Tryd.prog) (k := .i64) (by kernel_rfl) (by kernel_rfl)) rfl (RbF.cons (Rb.bool (P := Tryd.prog) (by kernel_rfl) (by kernel_rfl)) rfl (RbF.cons (Rb.int (P := Tryd.prog) (k := .i64) (by kernel_rfl) (by kernel_rfl)) rfl (RbF.last (Rb.str (P := Tryd.prog) (by kernel_rfl) (by kernel_rfl)) rfl)))))
  (fun _ => rfl) (fun _ _ h => h.2.2.1) (fun _ h => h)
theorem rbColumn : Rb kapi_Column Tryd.prog 72 (fun _ _ => True) :=
 Rb.iso (g := fun p => ⟨p.1, p.2.1, p.2.2.1, p.2.2.2⟩) (Rb.struct Tryd.underlying72 (by kernel_rfl) (by decide)
  (RbF.cons (Rb.str (P := Tryd.prog) (by kernel_rfl) (by kernel_rfl)) rfl (RbF.cons (Rb.int (P := Tryd.prog) (k := .i64) (by kernel_rfl) (by kernel_rfl)) rfl (RbF.cons (Rb.bool (P := Tryd.prog) (by kernel_rfl) (by kernel_rfl)) rfl (RbF.last rbValue rfl)))))
  (fun _ => rfl) (fun _ _ _ => trivial) (fun _ h => h)
theorem rbInts : Rb (kSl ki64) Tryd.prog 23 (fun n xs => xs.length ≤ n ∧ ∀ x ∈ xs, wI64 x) := (Rb.int (k := .i64) (by kernel_rfl) (by kernel_rfl)).slice (e := 3) (by kernel_rfl) (by kernel_rfl)
theorem rbBytes : Rb (kSl ku8) Tryd.prog 29 (fun n xs => xs.length ≤ n ∧ ∀ x ∈ xs, (Lit.int .u8 x).wf = true) := (Rb.int (by kernel_rfl) (by kernel_rfl)).slice (e := 5) (by kernel_rfl) (by kernel_rfl)
theorem rbIndex : Rb kapi_Index Tryd.prog 46 (fun _ _ => True) :=
 Rb.iso (g := fun p => ⟨p.1, p.2.1, p.2.2.1, p.2.2.2⟩) (Rb.struct Tryd.underlying46 (by kernel_rfl) (by decide)
  (RbF.cons (Rb.int (P := Tryd.prog) (k := .i64) (by kernel_rfl) (by kernel_rfl)) rfl (RbF.cons (Rb.str (P := Tryd.prog) (by kernel_rfl) (by kernel_rfl)) rfl (RbF.cons rbInts rfl (RbF.last (Rb.bool (P := Tryd.prog) (by kernel_rfl) (by kernel_rfl)) rfl)))))
  (fun _ => rfl) (fun _ _ _ => trivial) (fun _ h => h)
def bTable (n : Nat) (t : api_Table) : Prop := wI64 t.Id ∧ t.Columns.length ≤ n ∧ t.Key.length ≤ n
theorem rbTable : Rb kapi_Table Tryd.prog 26 bTable :=
 Rb.iso (g := fun p => ⟨p.1, p.2.1, p.2.2.1, p.2.2.2.1, p.2.2.2.2⟩) (Rb.struct Tryd.underlying26 (by kernel_rfl) (by decide)
  (RbF.cons (Rb.int (P := Tryd.prog) (k := .i64) (by kernel_rfl) (by kernel_rfl)) rfl (RbF.cons (Rb.str (P := Tryd.prog) (by kernel_rfl) (by kernel_rfl)) rfl (RbF.cons (rbColumn.slice (by kernel_rfl) (by kernel_rfl)) rfl (RbF.cons rbInts rfl (RbF.last (rbIndex.slice (by kernel_rfl) (by kernel_rfl)) rfl))))))
  (fun _ => rfl) (fun _ _ h => ⟨h.1, h.2.2.1.1, h.2.2.2.1.1⟩) (fun a h => ⟨h.1, Nat.le_trans h.2.1 a, Nat.le_trans h.2.2 a⟩)
def bKV (n : Nat) (x : api_KV) : Prop := (x.Key.length ≤ n ∧ ∀ b ∈ x.Key, (Lit.int .u8 b).wf = true) ∧ (x.Value.length ≤ n ∧ ∀ b ∈ x.Value, (Lit.int .u8 b).wf = true)
theorem rbKV : Rb kapi_KV Tryd.prog 31 bKV :=
 Rb.iso (g := fun p => ⟨p.1, p.2⟩) (Rb.struct Tryd.underlying31 (by kernel_rfl) (by decide) (RbF.cons rbBytes rfl (RbF.last rbBytes rfl))) (fun _ => rfl) (fun _ _ h => h) (fun a h => ⟨⟨Nat.le_trans h.1.1 a, h.1.2⟩, Nat.le_trans h.2.1 a, h.2.2⟩)
theorem tab_rep {G : Hp} {x : api_Table} {cs : Array Value} (h : kapi_Table.rep G x cs.toList) : ∃ A2 k3 A4 k5 A6 k7, cs = #[.int .i64 x.Id, .string x.Name, .slice A2 x.Columns.length k3, .slice A4 x.Key.length k5, .slice A6 x.Indexes.length k7] ∧ roR kapi_Column G A2 k3 x.Columns ∧ roR ki64 G A4 k5 x.Key ∧ roR kapi_Index G A6 k7 x.Indexes := by
 obtain ⟨c1, q1, e1, h1, c2, q2, rfl, h2, c3, q3, rfl, ⟨A, k, h3, g3⟩, c4, q4, rfl, ⟨A', k', h4, g4⟩, A'', k'', h5, g5⟩ := h
 have h1' : c1 = [.int .i64 x.Id] := h1
 have h2' : c2 = [.string x.Name] := h2
 subst h1' h2' h3 h4 h5
 exact ⟨A, k, A', k', A'', k'', Array.ext' e1, g3, g4, g5⟩
theorem kv_rep {G : Hp} {x : api_KV} {cs : Array Value} (h : kapi_KV.rep G x cs.toList) : ∃ A2 k3 A4 k5, cs = #[.slice A2 x.Key.length k3, .slice A4 x.Value.length k5] ∧ roR ku8 G A2 k3 x.Key ∧ roR ku8 G A4 k5 x.Value := by
 obtain ⟨c1, q1, e1, ⟨A, k, h3, g3⟩, A', k', h4, g4⟩ := h
 subst h3 h4
 exact ⟨A, k, A', k', Array.ext' e1, g3, g4⟩
theorem trodAll_two {H : Type} {enc : TypeId × Value → H} {P : Program} {w : World} {base : Nat} {sp : Nat → Bool} {held : Bool} {t1 t2 : TypeId} {vs : List Value} {ds : List (DataW H)} {ps : List MemPlace} (h : DataW.TrodAll enc P w base sp held [t1, t2] vs ds ps) :
  ∃ v0 v1 d0 d1 p0 p1, vs = [v0, v1] ∧ ds = [d0, d1] ∧ ps = p0 ++ p1 ∧ DataW.Trod enc P w base sp held t1 v0 d0 p0 ∧ DataW.Trod enc P w base sp held t2 v1 d1 p1 := by
 obtain ⟨v, vs1, d, ds1, a, b, rfl, rfl, rfl, h1, h2⟩ := trodAll_cons h
 obtain ⟨v', vs2, d', ds2, a', b', rfl, rfl, rfl, h1', h2'⟩ := trodAll_cons h2
 obtain ⟨rfl, rfl, rfl⟩ := trodAll_nil h2'
 exact ⟨v, v', d, d', a, a', rfl, rfl, by simp, h1, h1'⟩
theorem int_of_wf {k : IntKind} {n : Int} (h : (Lit.int k n).wf = true) : k.min ≤ n ∧ n ≤ k.max := by simpa [Lit.wf] using h
theorem inR_of {n : Int} (h : wI64 n) : inR n := by
 have := int_of_wf h
 have h1 : IntKind.i64.min = -9223372036854775808 := by decide
 have h2 : IntKind.i64.max = 9223372036854775807 := by decide
 unfold inR
 omega
theorem bys_of {xs : List Int} (h : ∀ b ∈ xs, (Lit.int .u8 b).wf = true) : Bys xs := fun x hx => by
 have := int_of_wf (h x hx)
 have h1 : IntKind.u8.min = 0 := by decide
 have h2 : IntKind.u8.max = 255 := by decide
 omega
def putBytes (zs : List Int) : Obj → Obj
 | .cells _ t frozen => .cells (zs.map fun n => Value.int .u8 n).toArray t frozen
 | o => o
noncomputable def laidWorld (os : Os) : World :=
 { World.holding Tryd.prog os ⟨#[], #[], []⟩ with heap := ((World.holding Tryd.prog os ⟨#[], #[], []⟩).heap.modify 1 (putBytes (Go.Pinned.utf8FirstZ.map fun (n : Nat) => (n : Int)))).modify 2 (putBytes ([128, 191, 160, 191, 128, 159, 144, 191, 128, 143] ++ List.replicate 22 0)) }
theorem laid_met (os : Os) : laidMet Tryd.prog Rows.rowkeyTakesUptoRow.laid ((laidWorld os).forCall (fun _ _ => 0) ⟨#[], #[.agg #[.int .i64 0, .string ⟨#[]⟩, .slice none 0 0, .slice none 0 0, .slice none 0 0], .agg #[.slice none 0 0, .slice none 0 0]], []⟩).memory :=
 laidMet_of_run' 8 (by kernel_rfl) (by kernel_rfl)
theorem reads (os : Os) {H : Type} (enc : TypeId × Value → H) : ∃ places, DataW.whole enc Tryd.prog ((laidWorld os).forCall (fun _ _ => 0) ⟨#[], #[.agg #[.int .i64 0, .string ⟨#[]⟩, .slice none 0 0, .slice none 0 0, .slice none 0 0], .agg #[.slice none 0 0, .slice none 0 0]], []⟩).memory Tryd.f4.params.toList Rows.rowkeyTakesSpec.vars false (#[.agg #[.int .i64 0, .string ⟨#[]⟩, .slice none 0 0, .slice none 0 0, .slice none 0 0], .agg #[.slice none 0 0, .slice none 0 0]] : Array Value).toList 8 = some ([.agg [.lit (.int .i64 0), .lit (.string []), .nil, .nil, .nil], .agg [.nil, .nil]], [], places) :=
 ⟨[], by kernel_rfl⟩
set_option maxRecDepth 100000 in
theorem lifted (os : Os) (started : os.Started) (H : Type) (enc : TypeId × Value → H) (F : Stop.Interp) :
  ReturnsInHanded {} Tryd.checked os 4 .any ((Rows.OpenSpec.upto Rows.rowkeyTakesSpec).preRow enc Tryd.prog Tryd.f4 Rows.rowkeyTakesUptoRow.domain false Rows.rowkeyTakesUptoRow.laid) (((Rows.OpenSpec.upto Rows.rowkeyTakesSpec).at F).post enc Tryd.prog Tryd.f4 false true false false) := by
 obtain ⟨places, hx⟩ := reads os enc
 refine returnsInHanded_of_row (C := Tryd.checked) (s := Rows.OpenSpec.upto Rows.rowkeyTakesSpec) Tryd.own started (by kernel_rfl) Tryd.func4
  (witness_row_at (enc := enc) (C := Tryd.checked) false (laidWorld os) #[.agg #[.int .i64 0, .string ⟨#[]⟩, .slice none 0 0, .slice none 0 0, .slice none 0 0], .agg #[.slice none 0 0, .slice none 0 0]] rfl (by kernel_rfl) (by kernel_rfl) (by kernel_rfl)
   (OpenSpec.preRow_of_cond 8 hx (by kernel_rfl) (fun k hk => by cases hk; kernel_rfl) (by kernel_rfl) (laid_met os))) ?_
 intro W base args ds gs before hval0 hW _ hcond _ hL _ _
 have hval : ∀ (j : Nat) t v, Tryd.f4.params[j]? = some t → args[j]? = some v → Value.okWide Tryd.prog W .any base t v := hval0
 have hW' : DataW.Whole enc Tryd.prog Tryd.f4.params.toList Rows.rowkeyTakesSpec.vars false W args.toList ds gs before := hW
 obtain ⟨p, q, hA0, hV, rfl, hfz, hnd⟩ := hW'
 have hW' : DataW.Whole enc Tryd.prog Tryd.f4.params.toList Rows.rowkeyTakesSpec.vars false W args.toList ds gs (p ++ q) := hW
 have hA : DataW.TrodAll enc Tryd.prog W 0 (fun _ => true) true Tryd.f4.params.toList args.toList ds p := hA0
 rw [Tryd.params4] at hA hval
 obtain ⟨v0, v1, d0, d1, p0, p1, hargs, rfl, rfl, h0, h1⟩ := trodAll_two hA
 obtain rfl : args = #[v0, v1] := by cases args; simp_all
 obtain ⟨rfl, rfl⟩ := trodVars_none hV
 have hb : Rows.uptoSmall H ([d0, d1] ++ []) = true := hcond _ rfl
 have hb := of_decide_eq_true hb
 simp only [List.append_nil, Rows.uptoBulkAll] at hb
 obtain ⟨c0, rfl, _⟩ := okWide_struct Tryd.underlying26 (hval 0 26 v0 rfl rfl)
 obtain ⟨_, hn0⟩ := h0
 obtain ⟨x1, hr0, hx1⟩ := rbTable.rd hn0
 obtain ⟨A2, k3, A4, k5, A6, k7, rfl, g1, g2, g3⟩ := tab_rep hr0
 have hlt : LimT x1 := ⟨Nat.le_trans hx1.2.1 (by dsimp only; omega), Nat.le_trans hx1.2.2 (by dsimp only; omega), inR_of hx1.1⟩
 obtain ⟨c1, rfl, _⟩ := okWide_struct Tryd.underlying31 (hval 1 31 v1 rfl rfl)
 obtain ⟨_, hn1⟩ := h1
 obtain ⟨x8, hr1, hx8⟩ := rbKV.rd hn1
 obtain ⟨A9, k10, A11, k12, rfl, g4, g5⟩ := kv_rep hr1
 have hlr : LimKV x8 := ⟨Nat.le_trans hx8.1.1 (by dsimp only; omega), Nat.le_trans hx8.2.1 (by dsimp only; omega), bys_of hx8.1.2, bys_of hx8.2.2⟩
 have hrow := fun (W' : World) (hb : Below W.heap.size W W') => row_true (s := Rows.rowkeyTakesSpec) (f := Tryd.f4) (t := 4) Tryd.laidOut hW' rfl ⟨rfl, rfl, rfl⟩
  (by rw [Tryd.params4]; decide +kernel) rfl (by kernel_rfl) hb
 refine (cormorantlaw20_RowkeyTakes.ok [X.snap W] W 16777216 x1 x8 (SL.start [sl .ro kapi_Column A2 k3 x1.Columns, sl .ro ki64 A4 k5 x1.Key, sl .ro kapi_Index A6 k7 x1.Indexes, sl .ro ku8 A9 k10 x8.Key, sl .ro ku8 A11 k12 x8.Value] (fun B hB => by
  simp only [List.mem_cons, List.not_mem_nil, or_false] at hB
  rcases hB with rfl | rfl | rfl | rfl | rfl
  ·exact g1
  ·exact g2
  ·exact g3
  ·exact g4
  ·exact g5)) true (takes_plain hlt hlr)).mono fun e W' h => ?_
 obtain ⟨rfl, S⟩ := h
 have hb := SL.done (l := [sl .ro kapi_Column A2 k3 x1.Columns, sl .ro ki64 A4 k5 x1.Key, sl .ro kapi_Index A6 k7 x1.Indexes, sl .ro ku8 A9 k10 x8.Key, sl .ro ku8 A11 k12 x8.Value]) S
 exact ⟨_, rfl, hrow W' hb⟩
theorem saidUpto : Rows.RowkeyTakesUptoSaid :=
 OpenClaim.holds_of_cond 4 Tryd.f4 rfl rfl rfl rfl rfl rfl rfl ⟨rfl, rfl, rfl, rfl, rfl⟩ rfl rfl rfl rfl rfl (by kernel_rfl) Tryd.func4 (by kernel_rfl)
  (of_decide_eq_true (by kernel_rfl)) (by unfold Func.isWrapper; first | (rw [if_pos (by decide +kernel)]; kernel_rfl) | (rw [if_neg (by decide +kernel)]; exact ⟨rfl, rfl⟩))
  (fun os started H enc _ F => by rw [OpenClaim.pre_eq_preRow]; exact lifted os started H enc F)
theorem cardPlain (f : FuncId) (fn : Func) (hf : Tryd.pinned.checked.prog.funcNamed "cormorant/cormorantlaw20.RowkeyTakes" = some f) (hfn : Tryd.pinned.checked.prog.funcs[f]? = some fn) :
  false = Tryd.pinned.checked.prog.looks [] ∧ ∀ (j : Nat) t, fn.params[j]? = some t → Tryd.pinned.checked.prog.wantsStandIn t = false := by
 obtain rfl : f = 4 := Option.some.inj ((show Tryd.prog.funcNamed "cormorant/cormorantlaw20.RowkeyTakes" = some 4 by kernel_rfl).symm.trans hf) |>.symm
 obtain rfl : fn = Tryd.f4 := (Option.some.inj (Tryd.func4.symm.trans hfn)).symm
 refine ⟨by kernel_rfl, fun j t ht => ?_⟩
 rw [Tryd.params4] at ht
 have := Array.mem_of_getElem? ht
 simp only [List.mem_toArray, List.mem_cons, List.not_mem_nil, or_false] at this
 rcases this with rfl | rfl
 ·exact (show Tryd.prog.wantsStandIn 26 = false by kernel_rfl)
 ·exact (show Tryd.prog.wantsStandIn 31 = false by kernel_rfl)
theorem takes_holds : Rows.RowkeyTakesUptoCardSaid :=
 Claim7.holds_tied_plain_at .later [] _ _ _ _ saidUpto (fun _ h => by cases h) (by kernel_rfl) (fun _ h => by cases h) rowkeyTakesUpto_row_tie rfl ⟨rfl, rfl⟩ (by kernel_rfl) rfl cardPlain (by kernel_rfl)
end Go.Proofs.YtohelmfkpmphoaaDoor
