/- RowkeyRows: the statement's second form, its card: from the walk and the plain law. Condition: what is handed in is of bulk at most 1048576. -/
import Derived.Test.YtohelmfkpmphoaaDoorRr4
import Derived.Test.YtohelmfkpmphoaaDoorCards
import Derived.Test.YtohelmfkpmphoaaDoorTie
import Derived.OpenShut
import Derived.Deep.DeepHandedRow
import Derived.Lib.LaidTab
namespace Go.Proofs.YtohelmfkpmphoaaDoor
open Go Go.Proofs.YtohelmfkpmphoaaDoor.X
set_option linter.unusedVariables false
set_option linter.unusedSimpArgs false
set_option maxRecDepth 100000
set_option maxHeartbeats 4000000
namespace rowkey_Part
noncomputable def c0 : Code := match Tryd.f15.body with | some c => c | none => .skip
def R (F : List Atom) (x1 : api_Table) (A2 : Option Addr) (k3 : Nat) (A4 : Option Addr) (k5 : Nat) (A6 : Option Addr) (k7 : Nat) (x9 : List api_Value) (A10 : Option Addr) (k11 : Nat) (m12 : Md) (r : api_Span × Int) : Ending → World → Prop := fun e w' => ∃ (A71 : Option Addr), ∃ (k72 : Nat), ∃ (A73 : Option Addr), ∃ (k74 : Nat), e = .returned (.tuple #[.agg #[.slice A71 r.1.From.length k72, .slice A73 r.1.To.length k74], .int .i64 r.2]) ∧ SL ([sl .ro ku8 A71 k72 r.1.From, sl .ro ku8 A73 k74 r.1.To, sl .ro kapi_Column A2 k3 x1.Columns, sl .ro ki64 A4 k5 x1.Key, sl .ro kapi_Index A6 k7 x1.Indexes, sl m12 kapi_Value A10 k11 x9] ++ F) w'
def L2 (z : Nat) (x9 : List api_Value) (x13 : api_Limit) (x14 : api_Limit) : Nat → (List Int) → Int → Option (api_Span × Int)
 | 0, _, _ => none
 | m + 1, x48, x51 => If (decide (x51 < (x9.length : Int))) (Ck (0 ≤ x51 ∧ x51 < (x9.length : Int)) (Bd (rowkey_column.f z (api_Value.mk ((gi dapi_Value x9 x51).Type') ((gi dapi_Value x9 x51).Null) ((gi dapi_Value x9 x51).Int) ((gi dapi_Value x9 x51).Text))) fun x56 => Ck ((x48.length + x56.length) * 1 ≤ 140737488355328) (L2 z x9 x13 x14 m (x48 ++ x56) (wr .i64 (x51 + 1))))) (Bd (rowkey_from.f z x48 (api_Limit.mk x13.Has x13.Open (api_Value.mk x13.Value.Type' x13.Value.Null x13.Value.Int x13.Value.Text)) (api_Limit.mk x14.Has x14.Open (api_Value.mk x14.Value.Type' x14.Value.Null x14.Value.Int x14.Value.Text))) fun x2182 => Bd (rowkey_to.f z x48 (api_Limit.mk x13.Has x13.Open (api_Value.mk x13.Value.Type' x13.Value.Null x13.Value.Int x13.Value.Text)) (api_Limit.mk x14.Has x14.Open (api_Value.mk x14.Value.Type' x14.Value.Null x14.Value.Int x14.Value.Text))) fun x2422 => some ((api_Span.mk x2182 x2422), 0))
def J4 (z : Nat) (q1 : (List api_Value) → Int → Option (api_Span × Int)) (x1 : api_Table) (x8 : Int) (x9 : List api_Value) (x13 : api_Limit) (x14 : api_Limit) (x27 : List Int) (x38 : Int) (x68 : List api_Value) : Option (api_Span × Int) := q1 x68 (wr .i64 (x38 + 1))
def J3 (z : Nat) (q1 : (List api_Value) → Int → Option (api_Span × Int)) (x1 : api_Table) (x8 : Int) (x9 : List api_Value) (x13 : api_Limit) (x14 : api_Limit) (x27 : List Int) (x35 : List api_Value) (x38 : Int) : Option (api_Span × Int) := Bd (rowkey_askable.f z x1 x27 ((cut x35 (Int.toNat 0) (Int.toNat (x9.length : Int))) ++ [(api_Value.mk (((gi dapi_Limit [(api_Limit.mk x13.Has x13.Open (api_Value.mk x13.Value.Type' x13.Value.Null x13.Value.Int x13.Value.Text)), (api_Limit.mk x14.Has x14.Open (api_Value.mk x14.Value.Type' x14.Value.Null x14.Value.Int x14.Value.Text))] x38).Value).Type') (((gi dapi_Limit [(api_Limit.mk x13.Has x13.Open (api_Value.mk x13.Value.Type' x13.Value.Null x13.Value.Int x13.Value.Text)), (api_Limit.mk x14.Has x14.Open (api_Value.mk x14.Value.Type' x14.Value.Null x14.Value.Int x14.Value.Text))] x38).Value).Null) (((gi dapi_Limit [(api_Limit.mk x13.Has x13.Open (api_Value.mk x13.Value.Type' x13.Value.Null x13.Value.Int x13.Value.Text)), (api_Limit.mk x14.Has x14.Open (api_Value.mk x14.Value.Type' x14.Value.Null x14.Value.Int x14.Value.Text))] x38).Value).Int) (((gi dapi_Limit [(api_Limit.mk x13.Has x13.Open (api_Value.mk x13.Value.Type' x13.Value.Null x13.Value.Int x13.Value.Text)), (api_Limit.mk x14.Has x14.Open (api_Value.mk x14.Value.Type' x14.Value.Null x14.Value.Int x14.Value.Text))] x38).Value).Text))])) fun x66 => If (!x66) (some ((api_Span.mk ([] : List Int) ([] : List Int)), 1)) (J4 z q1 x1 x8 x9 x13 x14 x27 x38 ((cut x35 (Int.toNat 0) (Int.toNat (x9.length : Int))) ++ [(api_Value.mk (((gi dapi_Limit [(api_Limit.mk x13.Has x13.Open (api_Value.mk x13.Value.Type' x13.Value.Null x13.Value.Int x13.Value.Text)), (api_Limit.mk x14.Has x14.Open (api_Value.mk x14.Value.Type' x14.Value.Null x14.Value.Int x14.Value.Text))] x38).Value).Type') (((gi dapi_Limit [(api_Limit.mk x13.Has x13.Open (api_Value.mk x13.Value.Type' x13.Value.Null x13.Value.Int x13.Value.Text)), (api_Limit.mk x14.Has x14.Open (api_Value.mk x14.Value.Type' x14.Value.Null x14.Value.Int x14.Value.Text))] x38).Value).Null) (((gi dapi_Limit [(api_Limit.mk x13.Has x13.Open (api_Value.mk x13.Value.Type' x13.Value.Null x13.Value.Int x13.Value.Text)), (api_Limit.mk x14.Has x14.Open (api_Value.mk x14.Value.Type' x14.Value.Null x14.Value.Int x14.Value.Text))] x38).Value).Int) (((gi dapi_Limit [(api_Limit.mk x13.Has x13.Open (api_Value.mk x13.Value.Type' x13.Value.Null x13.Value.Int x13.Value.Text)), (api_Limit.mk x14.Has x14.Open (api_Value.mk x14.Value.Type' x14.Value.Null x14.Value.Int x14.Value.Text))] x38).Value).Text))]))
def L1 (z : Nat) (x1 : api_Table) (x8 : Int) (x9 : List api_Value) (x13 : api_Limit) (x14 : api_Limit) (x27 : List Int) : Nat → (List api_Value) → Int → Option (api_Span × Int)
 | 0, _, _ => none
 | m + 1, x35, x38 => If (decide (x38 < (2 : Int))) (Ck (0 ≤ x38 ∧ x38 < ([(api_Limit.mk x13.Has x13.Open (api_Value.mk x13.Value.Type' x13.Value.Null x13.Value.Int x13.Value.Text)), (api_Limit.mk x14.Has x14.Open (api_Value.mk x14.Value.Type' x14.Value.Null x14.Value.Int x14.Value.Text))].length : Int)) (If ((gi dapi_Limit [(api_Limit.mk x13.Has x13.Open (api_Value.mk x13.Value.Type' x13.Value.Null x13.Value.Int x13.Value.Text)), (api_Limit.mk x14.Has x14.Open (api_Value.mk x14.Value.Type' x14.Value.Null x14.Value.Int x14.Value.Text))] x38).Has) (Ck (0 ≤ (x9.length : Int) ∧ (x9.length : Int) ≤ (x35.length : Int)) (Ck (((cut x35 (Int.toNat 0) (Int.toNat (x9.length : Int))).length + [(api_Value.mk (((gi dapi_Limit [(api_Limit.mk x13.Has x13.Open (api_Value.mk x13.Value.Type' x13.Value.Null x13.Value.Int x13.Value.Text)), (api_Limit.mk x14.Has x14.Open (api_Value.mk x14.Value.Type' x14.Value.Null x14.Value.Int x14.Value.Text))] x38).Value).Type') (((gi dapi_Limit [(api_Limit.mk x13.Has x13.Open (api_Value.mk x13.Value.Type' x13.Value.Null x13.Value.Int x13.Value.Text)), (api_Limit.mk x14.Has x14.Open (api_Value.mk x14.Value.Type' x14.Value.Null x14.Value.Int x14.Value.Text))] x38).Value).Null) (((gi dapi_Limit [(api_Limit.mk x13.Has x13.Open (api_Value.mk x13.Value.Type' x13.Value.Null x13.Value.Int x13.Value.Text)), (api_Limit.mk x14.Has x14.Open (api_Value.mk x14.Value.Type' x14.Value.Null x14.Value.Int x14.Value.Text))] x38).Value).Int) (((gi dapi_Limit [(api_Limit.mk x13.Has x13.Open (api_Value.mk x13.Value.Type' x13.Value.Null x13.Value.Int x13.Value.Text)), (api_Limit.mk x14.Has x14.Open (api_Value.mk x14.Value.Type' x14.Value.Null x14.Value.Int x14.Value.Text))] x38).Value).Text))].length) * 40 ≤ 140737488355328) (J3 z (L1 z x1 x8 x9 x13 x14 x27 m) x1 x8 x9 x13 x14 x27 x35 x38))) (J4 z (L1 z x1 x8 x9 x13 x14 x27 m) x1 x8 x9 x13 x14 x27 x38 x35))) (Bd (rowkey_askable.f z x1 x27 x9) fun x41 => If (!x41) (some ((api_Span.mk ([] : List Int) ([] : List Int)), 1)) (Bd (rowkey_begin.f z [x1.Id, x8]) fun x45 => L2 z x9 x13 x14 z x45 0))
def J0 (z : Nat) (x1 : api_Table) (x8 : Int) (x9 : List api_Value) (x13 : api_Limit) (x14 : api_Limit) (x27 : List Int) : Option (api_Span × Int) := Bd (slices_Clone_cormorant_api_Value.f x9) fun x31 => L1 z x1 x8 x9 x13 x14 x27 z x31 0
def f (z : Nat) (x1 : api_Table) (x8 : Int) (x9 : List api_Value) (x13 : api_Limit) (x14 : api_Limit) : Option (api_Span × Int) := If (x8 != 1) (Bd (slices_IndexFunc_cormorant_api_Index_at40.f z x1.Indexes x8) fun x22 => If (decide (x22 < 0)) (some ((api_Span.mk ([] : List Int) ([] : List Int)), 1)) (Ck (0 ≤ x22 ∧ x22 < (x1.Indexes.length : Int)) (J0 z x1 x8 x9 x13 x14 ((gi dapi_Index x1.Indexes x22).Columns)))) (J0 z x1 x8 x9 x13 x14 x1.Key)
noncomputable def ptL2 : List Item := [.code (cB (cB (cR (cL (cR (cR (cR (cR (cR (cR (cR c0))))))))))), .inLoop (cB (cB (cR (cL (cR (cR (cR (cR (cR (cR (cR c0))))))))))), .inBlock 2, .code (cR (cR (cR (cR (cR (cR (cR (cR c0))))))))]
noncomputable def ptJ4 : List Item := [.code (cR (cR (cR (cB (cB (cR (cL (cR (cR (cR (cR c0))))))))))), .inLoop (cB (cB (cR (cL (cR (cR (cR (cR c0)))))))), .inBlock 0, .code (cR (cR (cR (cR (cR c0)))))]
noncomputable def ptJ3 : List Item := [.code (cL (cR (cT (cR (cR (cB (cL (cR (cR (cB (cB (cR (cL (cR (cR (cR (cR c0))))))))))))))))), .code (cR (cR (cT (cR (cR (cB (cL (cR (cR (cB (cB (cR (cL (cR (cR (cR (cR c0))))))))))))))))), .inBlock 1, .code (cR (cR (cR (cB (cB (cR (cL (cR (cR (cR (cR c0))))))))))), .inLoop (cB (cB (cR (cL (cR (cR (cR (cR c0)))))))), .inBlock 0, .code (cR (cR (cR (cR (cR c0)))))]
noncomputable def ptL1 : List Item := [.code (cB (cB (cR (cL (cR (cR (cR (cR c0)))))))), .inLoop (cB (cB (cR (cL (cR (cR (cR (cR c0)))))))), .inBlock 0, .code (cR (cR (cR (cR (cR c0)))))]
noncomputable def ptJ0 : List Item := [.code (cL (cR (cR (cR c0)))), .code (cR (cR (cR (cR c0))))]
abbrev y0 (x13 : api_Limit) (x14 : api_Limit) (x38 : Int) : api_Value := (api_Value.mk (((gi dapi_Limit [(api_Limit.mk x13.Has x13.Open (api_Value.mk x13.Value.Type' x13.Value.Null x13.Value.Int x13.Value.Text)), (api_Limit.mk x14.Has x14.Open (api_Value.mk x14.Value.Type' x14.Value.Null x14.Value.Int x14.Value.Text))] x38).Value).Type') (((gi dapi_Limit [(api_Limit.mk x13.Has x13.Open (api_Value.mk x13.Value.Type' x13.Value.Null x13.Value.Int x13.Value.Text)), (api_Limit.mk x14.Has x14.Open (api_Value.mk x14.Value.Type' x14.Value.Null x14.Value.Int x14.Value.Text))] x38).Value).Null) (((gi dapi_Limit [(api_Limit.mk x13.Has x13.Open (api_Value.mk x13.Value.Type' x13.Value.Null x13.Value.Int x13.Value.Text)), (api_Limit.mk x14.Has x14.Open (api_Value.mk x14.Value.Type' x14.Value.Null x14.Value.Int x14.Value.Text))] x38).Value).Int) (((gi dapi_Limit [(api_Limit.mk x13.Has x13.Open (api_Value.mk x13.Value.Type' x13.Value.Null x13.Value.Int x13.Value.Text)), (api_Limit.mk x14.Has x14.Open (api_Value.mk x14.Value.Type' x14.Value.Null x14.Value.Int x14.Value.Text))] x38).Value).Text))
abbrev y1 (x13 : api_Limit) (x14 : api_Limit) (x38 : Int) : List Value := [.bool ((gi dapi_Limit [(api_Limit.mk x13.Has x13.Open (api_Value.mk x13.Value.Type' x13.Value.Null x13.Value.Int x13.Value.Text)), (api_Limit.mk x14.Has x14.Open (api_Value.mk x14.Value.Type' x14.Value.Null x14.Value.Int x14.Value.Text))] x38).Has), .bool ((gi dapi_Limit [(api_Limit.mk x13.Has x13.Open (api_Value.mk x13.Value.Type' x13.Value.Null x13.Value.Int x13.Value.Text)), (api_Limit.mk x14.Has x14.Open (api_Value.mk x14.Value.Type' x14.Value.Null x14.Value.Int x14.Value.Text))] x38).Open), .int .i64 (((gi dapi_Limit [(api_Limit.mk x13.Has x13.Open (api_Value.mk x13.Value.Type' x13.Value.Null x13.Value.Int x13.Value.Text)), (api_Limit.mk x14.Has x14.Open (api_Value.mk x14.Value.Type' x14.Value.Null x14.Value.Int x14.Value.Text))] x38).Value).Type'), .bool (((gi dapi_Limit [(api_Limit.mk x13.Has x13.Open (api_Value.mk x13.Value.Type' x13.Value.Null x13.Value.Int x13.Value.Text)), (api_Limit.mk x14.Has x14.Open (api_Value.mk x14.Value.Type' x14.Value.Null x14.Value.Int x14.Value.Text))] x38).Value).Null), .int .i64 (((gi dapi_Limit [(api_Limit.mk x13.Has x13.Open (api_Value.mk x13.Value.Type' x13.Value.Null x13.Value.Int x13.Value.Text)), (api_Limit.mk x14.Has x14.Open (api_Value.mk x14.Value.Type' x14.Value.Null x14.Value.Int x14.Value.Text))] x38).Value).Int), .string (((gi dapi_Limit [(api_Limit.mk x13.Has x13.Open (api_Value.mk x13.Value.Type' x13.Value.Null x13.Value.Int x13.Value.Text)), (api_Limit.mk x14.Has x14.Open (api_Value.mk x14.Value.Type' x14.Value.Null x14.Value.Int x14.Value.Text))] x38).Value).Text)]
abbrev y2 (x13 : api_Limit) : api_Limit := (api_Limit.mk x13.Has x13.Open (api_Value.mk x13.Value.Type' x13.Value.Null x13.Value.Int x13.Value.Text))
abbrev y3 (x14 : api_Limit) : api_Limit := (api_Limit.mk x14.Has x14.Open (api_Value.mk x14.Value.Type' x14.Value.Null x14.Value.Int x14.Value.Text))
abbrev y4 (x13 : api_Limit) : List Value := [.bool x13.Has, .bool x13.Open, .int .i64 x13.Value.Type', .bool x13.Value.Null, .int .i64 x13.Value.Int, .string x13.Value.Text]
abbrev y5 (x14 : api_Limit) : List Value := [.bool x14.Has, .bool x14.Open, .int .i64 x14.Value.Type', .bool x14.Value.Null, .int .i64 x14.Value.Int, .string x14.Value.Text]
abbrev y6 (x1 : api_Table) (A2 : Option Addr) (k3 : Nat) (A4 : Option Addr) (k5 : Nat) (A6 : Option Addr) (k7 : Nat) : List Value := [.int .i64 x1.Id, .string x1.Name, .slice A2 x1.Columns.length k3, .slice A4 x1.Key.length k5, .slice A6 x1.Indexes.length k7]
abbrev y7 (x13 : api_Limit) (x14 : api_Limit) (x38 : Int) : Value := .agg #[.int .i64 (((gi dapi_Limit [(y2 x13), (y3 x14)] x38).Value).Type'), .bool (((gi dapi_Limit [(y2 x13), (y3 x14)] x38).Value).Null), .int .i64 (((gi dapi_Limit [(y2 x13), (y3 x14)] x38).Value).Int), .string (((gi dapi_Limit [(y2 x13), (y3 x14)] x38).Value).Text)]
abbrev y8 (b19 : Nat) : Atom := blk b19 [.slice none 0 0, .slice none 0 0]
abbrev y9 (b34 : Nat) (x13 : api_Limit) (x14 : api_Limit) : Atom := sl .own kapi_Limit (some ⟨b34, 0, none⟩) 2 [(y2 x13), (y3 x14)]
abbrev y10 (A2 : Option Addr) (k3 : Nat) (x1 : api_Table) : Atom := sl .ro kapi_Column A2 k3 x1.Columns
abbrev y11 (A6 : Option Addr) (k7 : Nat) (x1 : api_Table) : Atom := sl .ro kapi_Index A6 k7 x1.Indexes
abbrev y12 (x13 : api_Limit) : Value := .agg #[.bool x13.Has, .bool x13.Open, .int .i64 x13.Value.Type', .bool x13.Value.Null, .int .i64 x13.Value.Int, .string x13.Value.Text]
abbrev y13 (x14 : api_Limit) : Value := .agg #[.bool x14.Has, .bool x14.Open, .int .i64 x14.Value.Type', .bool x14.Value.Null, .int .i64 x14.Value.Int, .string x14.Value.Text]
abbrev y14 (x13 : api_Limit) (x14 : api_Limit) (x38 : Int) : List Value := [.int .i64 (((gi dapi_Limit [(y2 x13), (y3 x14)] x38).Value).Type'), .bool (((gi dapi_Limit [(y2 x13), (y3 x14)] x38).Value).Null), .int .i64 (((gi dapi_Limit [(y2 x13), (y3 x14)] x38).Value).Int), .string (((gi dapi_Limit [(y2 x13), (y3 x14)] x38).Value).Text)]
abbrev y15 (A4 : Option Addr) (k5 : Nat) (x1 : api_Table) : Atom := sl .ro ki64 A4 k5 x1.Key
abbrev y16 (A3081 : Option Addr) (k3082 : Nat) (x35 : List api_Value) (x9 : List api_Value) (x13 : api_Limit) (x14 : api_Limit) (x38 : Int) : Atom := sl .own kapi_Value A3081 k3082 ((cut x35 (Int.toNat 0) (Int.toNat (x9.length : Int))) ++ [(y0 x13 x14 x38)])
abbrev y17 (x9 : List api_Value) (x51 : Int) : List Value := [.int .i64 ((gi dapi_Value x9 x51).Type'), .bool ((gi dapi_Value x9 x51).Null), .int .i64 ((gi dapi_Value x9 x51).Int), .string ((gi dapi_Value x9 x51).Text)]
abbrev y18 (A2843 : Option Addr) (k37 : Nat) (x35 : List api_Value) (x9 : List api_Value) : Atom := sl .own kapi_Value A2843 (Int.toNat (k37 : Int) - Int.toNat 0) (cut x35 (Int.toNat 0) (Int.toNat (x9.length : Int)))
abbrev y19 (m12 : Md) (A10 : Option Addr) (k11 : Nat) (x9 : List api_Value) : Atom := sl m12 kapi_Value A10 k11 x9
abbrev y20 (A10 : Option Addr) (x9 : List api_Value) (k11 : Nat) (b15 : Nat) (b16 : Nat) (b17 : Nat) (b18 : Nat) (b19 : Nat) (A28 : Option Addr) (x27 : List Int) (k29 : Nat) (A3081 : Option Addr) (x35 : List api_Value) (x13 : api_Limit) (x14 : api_Limit) (x38 : Int) (k3082 : Nat) (b34 : Nat) : List (Nat × Value) := [(2, .slice A10 x9.length k11), (5, .pointer (some ⟨b15, 0, none⟩)), (6, .pointer (some ⟨b16, 0, none⟩)), (8, .pointer (some ⟨b17, 0, none⟩)), (9, .pointer (some ⟨b18, 0, none⟩)), (10, .pointer (some ⟨b19, 0, none⟩)), (12, .slice A28 x27.length k29), (14, .slice A3081 (((cut x35 (Int.toNat 0) (Int.toNat (x9.length : Int))) ++ [(y0 x13 x14 x38)]).length) k3082), (41, .slice (some ⟨b34, 0, none⟩) 2 2), (42, .int .i64 (2 : Int)), (43, .int .i64 x38)]
abbrev y21 (A10 : Option Addr) (x9 : List api_Value) (k11 : Nat) (b15 : Nat) (b16 : Nat) (b17 : Nat) (b18 : Nat) (b19 : Nat) (A28 : Option Addr) (x27 : List Int) (k29 : Nat) (A36 : Option Addr) (x35 : List api_Value) (k37 : Nat) (b34 : Nat) (x38 : Int) : List (Nat × Value) := [(2, .slice A10 x9.length k11), (5, .pointer (some ⟨b15, 0, none⟩)), (6, .pointer (some ⟨b16, 0, none⟩)), (8, .pointer (some ⟨b17, 0, none⟩)), (9, .pointer (some ⟨b18, 0, none⟩)), (10, .pointer (some ⟨b19, 0, none⟩)), (12, .slice A28 x27.length k29), (14, .slice A36 x35.length k37), (41, .slice (some ⟨b34, 0, none⟩) 2 2), (42, .int .i64 (2 : Int)), (43, .int .i64 x38)]
abbrev y22 (b3021 : Nat) (x13 : api_Limit) (x14 : api_Limit) (x38 : Int) : Atom := sl .own kapi_Value (some ⟨b3021, 0, none⟩) 1 [(y0 x13 x14 x38)]
abbrev y23 (A2843 : Option Addr) (x35 : List api_Value) (x9 : List api_Value) (k37 : Nat) : Option (Value × Bool) := some (.slice A2843 ((cut x35 (Int.toNat 0) (Int.toNat (x9.length : Int))).length) (Int.toNat (k37 : Int) - Int.toNat 0), false)
abbrev y24 (b63 : Nat) : Option (Value × Bool) := some (.pointer (some ⟨b63, 2, none⟩), true)
theorem L2_ok (F : List Atom) (r : api_Span × Int) (z : Nat) (x1 : api_Table) (A2 : Option Addr) (k3 : Nat) (A4 : Option Addr) (k5 : Nat) (A6 : Option Addr) (k7 : Nat) (x9 : List api_Value) (A10 : Option Addr) (k11 : Nat) (m12 : Md) (b17 : Nat) (b18 : Nat) (b19 : Nat) (x13 : api_Limit) (x14 : api_Limit) (x8 : Int) (m : Nat) : ∀ (A49 : Option Addr) (x48 : List Int) (k50 : Nat) (x51 : Int) (a : Act) (w : World), Tm 95 [(8, .pointer (some ⟨b17, 0, none⟩)), (9, .pointer (some ⟨b18, 0, none⟩)), (10, .pointer (some ⟨b19, 0, none⟩)), (17, .slice A49 x48.length k50), (75, .slice A10 x9.length k11), (76, .int .i64 (x9.length : Int)), (77, .int .i64 x51)] a → SL ([(y10 A2 k3 x1), (y15 A4 k5 x1), (y11 A6 k7 x1), (y19 m12 A10 k11 x9), blk b17 (y4 x13), blk b18 (y5 x14), (y8 b19), sl .own ku8 A49 k50 x48] ++ F) w → L2 z x9 x13 x14 m x48 x51 = some r → Gets Tryd.prog 15 ptL2 a w (R F x1 A2 k3 A4 k5 A6 k7 x9 A10 k11 m12 r) := by
 induction m with
 | zero => intro _ _ _ _ _ _ _ _ H; cases H
 | succ m ih =>
  intro A49 x48 k50 x51 a w T S H
  refine Gets.seq ?_
  refine rg ?_
  refine r_pv T rfl rfl fun _ T => ?_
  refine Gets.seq ?_
  rcases ifE H with ⟨h52, H⟩ | ⟨h52, H⟩
  ·refine cdT T rfl h52 ?_
   refine Gets.skip (Gets.seq (Gets.block (Gets.seq ?_)))
   refine rg ?_
   obtain ⟨h53, H⟩ := ck H
   refine r_ia (ix := 3) T S rfl rfl rfl rfl Tryd.runUnderlying27 Tryd.sizeOf43 h53.1 h53.2 rfl fun _ T => ?_
   refine r_ldEP (ix := 3) (i := x51) (off := 0) (f := pf_api_Value) T S rfl rfl Tryd.isAgg43 Tryd.sizeOf43 dapi_Value rfl (Fld.all _) h53.1 h53.2 pl_api_Value rfl fun _ T => ?_
   refine r_alloc T S zv43 (cs := [.int .i64 0, .bool false, .int .i64 0, .string (⟨#[]⟩ : ByteArray)]) rfl rfl fun _ _ b54 S T => ?_
   refine r_stBA (ix := 0) (vs := (y17 x9 x51)) (l' := [blk b54 (y17 x9 x51), (y10 A2 k3 x1), (y15 A4 k5 x1), (y11 A6 k7 x1), (y19 m12 A10 k11 x9), blk b17 (y4 x13), blk b18 (y5 x14), (y8 b19), sl .own ku8 A49 k50 x48]) T S rfl rfl rfl rfl (by simp) Tryd.sizeOf43 (Nat.le_of_ble_eq_true rfl) rfl fun _ S => ?_
   refine rg ?_
   refine r_pv T rfl rfl fun _ T => ?_
   refine r_ldBA (ix := 0) (ds := (y17 x9 x51)) T S rfl Tryd.isAgg43 rfl rfl Tryd.sizeOf43 rfl fun _ T => ?_
   obtain ⟨x56, h55, H⟩ := bd H
   refine r_call T Tryd.call43 rfl rfl (rowkey_column.ok _ _ z (api_Value.mk ((gi dapi_Value x9 x51).Type') ((gi dapi_Value x9 x51).Null) ((gi dapi_Value x9 x51).Int) ((gi dapi_Value x9 x51).Text)) (S.sel (p := []) (is := []) rfl) _ h55) ?_
   rintro _ _ ⟨A57, k58, rfl, S⟩
   refine ⟨_, rfl, fun _ T => ?_⟩
   replace S : SL ([sl .own ku8 A57 k58 x56, blk b54 (y17 x9 x51), (y10 A2 k3 x1), (y15 A4 k5 x1), (y11 A6 k7 x1), (y19 m12 A10 k11 x9), blk b17 (y4 x13), blk b18 (y5 x14), (y8 b19), sl .own ku8 A49 k50 x48] ++ F) _ := S.join
   obtain ⟨h61, H⟩ := ck H
   refine r_app (ix := 9) (iy := 0) (xs := x48) (ys := x56) T S rfl rfl rfl rfl (by decide) sty29 Tryd.runUnderlying29 (by decide) h61 rfl fun _ _ A59 k60 S T => ?_
   replace S : SL ([sl .own ku8 A57 k58 x56, blk b54 (y17 x9 x51), (y10 A2 k3 x1), (y15 A4 k5 x1), (y11 A6 k7 x1), (y19 m12 A10 k11 x9), blk b17 (y4 x13), blk b18 (y5 x14), (y8 b19), sl .own ku8 A59 k60 (x48 ++ x56)] ++ F) _ := S
   refine r_pv T rfl rfl fun _ T => ?_
   refine Gets.inBlock ?_
   refine rg ?_
   refine r_pv T rfl rfl fun _ T => ?_
   refine r_pv T rfl rfl fun _ T => ?_
   refine Gets.inLoop ?_
   exact ih A59 (x48 ++ x56) k60 (wr .i64 (x51 + 1)) _ _ (T.sub ⟨rfl, rfl, rfl, rfl, rfl, rfl, rfl, trivial⟩) (S.only (p := [(y10 A2 k3 x1), (y15 A4 k5 x1), (y11 A6 k7 x1), (y19 m12 A10 k11 x9), blk b17 (y4 x13), blk b18 (y5 x14), (y8 b19), sl .own ku8 A59 k60 (x48 ++ x56)]) [2, 2, 2, 2, 2, 2, 2, 2] rfl) H
  ·refine cdF T rfl h52 ?_
   refine Gets.exit rfl (Gets.seq ?_)
   refine Gets.drawn (l := [(y10 A2 k3 x1), (y15 A4 k5 x1), (y11 A6 k7 x1), (y19 m12 A10 k11 x9), blk b17 (y4 x13), blk b18 (y5 x14), (y8 b19), sl .own ku8 A49 k50 x48]) (V := [some (.slice A49 x48.length k50, true), some ((y12 x13), true), some ((y13 x14), true), none, some (.slice A49 x48.length k50, true), some ((y12 x13), true), some ((y13 x14), true), none, none, none, none]) mixed T S rfl ?_
   refine stage (some 3) rfl rfl ⟨⟨_, [(17, _)], rfl, ⟨.inr ⟨rfl, rfl⟩, trivial⟩, fun _ _ _ T S => r_pv T rfl rfl fun _ T => ⟨rfl, T⟩⟩, ⟨_, [(8, _)], rfl, ⟨.inr ⟨rfl, rfl⟩, trivial⟩, fun _ _ _ T S => r_ldBA (ix := 4) (ds := (y4 x13)) T S rfl Tryd.isAgg54 rfl rfl Tryd.sizeOf54 rfl fun _ T => ⟨rfl, T⟩⟩, ⟨_, [(9, _)], rfl, ⟨.inr ⟨rfl, rfl⟩, trivial⟩, fun _ _ _ T S => r_ldBA (ix := 5) (ds := (y5 x14)) T S rfl Tryd.isAgg54 rfl rfl Tryd.sizeOf54 rfl fun _ T => ⟨rfl, T⟩⟩, ⟨_, [(17, _)], rfl, ⟨.inr ⟨rfl, rfl⟩, trivial⟩, fun _ _ _ T S => r_pv T rfl rfl fun _ T => ⟨rfl, T⟩⟩, ⟨_, [(8, _)], rfl, ⟨.inr ⟨rfl, rfl⟩, trivial⟩, fun _ _ _ T S => r_ldBA (ix := 4) (ds := (y4 x13)) T S rfl Tryd.isAgg54 rfl rfl Tryd.sizeOf54 rfl fun _ T => ⟨rfl, T⟩⟩, ⟨_, [(9, _)], rfl, ⟨.inr ⟨rfl, rfl⟩, trivial⟩, fun _ _ _ T S => r_ldBA (ix := 5) (ds := (y5 x14)) T S rfl Tryd.isAgg54 rfl rfl Tryd.sizeOf54 rfl fun _ T => ⟨rfl, T⟩⟩, trivial⟩ rfl (fun i hi => ?_) (fun h => by cases h)
   cases hi
   refine ⟨rfl, _, [(86, _), (87, _), (88, _)], rfl, ⟨.inl ⟨0, rfl, rfl, rfl, rfl⟩, .inl ⟨1, rfl, rfl, rfl, rfl⟩, .inl ⟨2, rfl, rfl, rfl, rfl⟩, trivial⟩, fun u a w T S => ?_⟩
   replace S : SL ([(y10 A2 k3 x1), (y15 A4 k5 x1), (y11 A6 k7 x1), (y19 m12 A10 k11 x9), blk b17 (y4 x13), blk b18 (y5 x14), (y8 b19), sl .ro ku8 A49 k50 x48] ++ F) _ := S.fixL (i := 7) rfl rfl
   obtain ⟨x2182, h2181, H⟩ := bd H
   refine r_call T Tryd.call44 rfl rfl (rowkey_from.ok _ _ z x48 (y2 x13) (y3 x14) (S.sel (p := [sl .ro ku8 A49 k50 x48]) (is := [7]) rfl) _ h2181) ?_
   rintro _ _ ⟨A2183, k2184, rfl, S⟩
   refine ⟨_, rfl, fun _ T => ?_⟩
   replace S : SL ([sl .own ku8 A2183 k2184 x2182, sl .ro ku8 A49 k50 x48, (y10 A2 k3 x1), (y15 A4 k5 x1), (y11 A6 k7 x1), (y19 m12 A10 k11 x9), blk b17 (y4 x13), blk b18 (y5 x14), (y8 b19)] ++ F) _ := S.join
   refine ⟨_, [some (.slice A49 x48.length k50, false), some ((y12 x13), false), some ((y13 x14), false), some (.slice A2183 x2182.length k2184, false), some (.slice A49 x48.length k50, true), some ((y12 x13), true), some ((y13 x14), true), none, none, none, none], [sl .own ku8 A2183 k2184 x2182, sl .ro ku8 A49 k50 x48, (y10 A2 k3 x1), (y15 A4 k5 x1), (y11 A6 k7 x1), (y19 m12 A10 k11 x9), blk b17 (y4 x13), blk b18 (y5 x14), (y8 b19)], rfl, (by repeat first | exact kx0 | apply kxs | apply kxn), rfl, ?_, T, S⟩
   refine stage (some 7) rfl rfl ⟨⟨_, [(17, _)], rfl, ⟨.inr ⟨rfl, rfl⟩, trivial⟩, fun _ _ _ T S => r_pv T rfl rfl fun _ T => ⟨rfl, T⟩⟩, ⟨_, [(8, _)], rfl, ⟨.inr ⟨rfl, rfl⟩, trivial⟩, fun _ _ _ T S => r_ldBA (ix := 6) (ds := (y4 x13)) T S rfl Tryd.isAgg54 rfl rfl Tryd.sizeOf54 rfl fun _ T => ⟨rfl, T⟩⟩, ⟨_, [(9, _)], rfl, ⟨.inr ⟨rfl, rfl⟩, trivial⟩, fun _ _ _ T S => r_ldBA (ix := 7) (ds := (y5 x14)) T S rfl Tryd.isAgg54 rfl rfl Tryd.sizeOf54 rfl fun _ T => ⟨rfl, T⟩⟩, trivial⟩ rfl (fun i hi => ?_) (fun h => by cases h)
   cases hi
   refine ⟨rfl, _, [(90, _), (91, _), (92, _)], rfl, ⟨.inl ⟨4, rfl, rfl, rfl, rfl⟩, .inl ⟨5, rfl, rfl, rfl, rfl⟩, .inl ⟨6, rfl, rfl, rfl, rfl⟩, trivial⟩, fun u a w T S => ?_⟩
   obtain ⟨x2422, h2421, H⟩ := bd H
   refine r_call T Tryd.call45 rfl rfl (rowkey_to.ok _ _ z x48 (y2 x13) (y3 x14) (S.sel (p := [sl .ro ku8 A49 k50 x48]) (is := [1]) rfl) _ h2421) ?_
   rintro _ _ ⟨A2423, k2424, rfl, S⟩
   refine ⟨_, rfl, fun _ T => ?_⟩
   replace S : SL ([sl .own ku8 A2423 k2424 x2422, sl .ro ku8 A49 k50 x48, sl .own ku8 A2183 k2184 x2182, (y10 A2 k3 x1), (y15 A4 k5 x1), (y11 A6 k7 x1), (y19 m12 A10 k11 x9), blk b17 (y4 x13), blk b18 (y5 x14), (y8 b19)] ++ F) _ := S.join
   refine ⟨_, [some (.slice A49 x48.length k50, false), some ((y12 x13), false), some ((y13 x14), false), some (.slice A2183 x2182.length k2184, false), some (.slice A49 x48.length k50, false), some ((y12 x13), false), some ((y13 x14), false), some (.slice A2423 x2422.length k2424, false), some (.agg #[.slice A2183 x2182.length k2184, .slice A2423 x2422.length k2424], true), none, none], [sl .own ku8 A2423 k2424 x2422, sl .ro ku8 A49 k50 x48, sl .own ku8 A2183 k2184 x2182, (y10 A2 k3 x1), (y15 A4 k5 x1), (y11 A6 k7 x1), (y19 m12 A10 k11 x9), blk b17 (y4 x13), blk b18 (y5 x14), (y8 b19)], rfl, (by repeat first | exact kx0 | apply kxs | apply kxn), rfl, ?_, T, S⟩
   refine stage (some 9) rfl rfl ⟨⟨_, [(89, _), (93, _)], rfl, ⟨.inl ⟨3, rfl, rfl, rfl, rfl⟩, .inl ⟨7, rfl, rfl, rfl, rfl⟩, trivial⟩, fun _ _ _ T S => r_build (cs := #[.slice A2183 x2182.length k2184, .slice A2423 x2422.length k2424]) T stt50 rfl rfl rfl fun _ T => ⟨rfl, T⟩⟩, trivial⟩ rfl (fun i hi => ?_) (fun h => by cases h)
   cases hi
   refine ⟨rfl, _, [(10, _), (94, _)], rfl, ⟨.inr ⟨rfl, rfl⟩, .inl ⟨8, rfl, rfl, rfl, rfl⟩, trivial⟩, fun u a w T S => ?_⟩
   refine r_stBA (ix := 9) (vs := [.slice A2183 x2182.length k2184, .slice A2423 x2422.length k2424]) (l' := [sl .own ku8 A2423 k2424 x2422, sl .ro ku8 A49 k50 x48, sl .own ku8 A2183 k2184 x2182, (y10 A2 k3 x1), (y15 A4 k5 x1), (y11 A6 k7 x1), (y19 m12 A10 k11 x9), blk b17 (y4 x13), blk b18 (y5 x14), blk b19 [.slice A2183 x2182.length k2184, .slice A2423 x2422.length k2424]]) T S rfl rfl rfl rfl (by simp) Tryd.sizeOf50 (Nat.le_of_ble_eq_true rfl) rfl fun _ S => ?_
   refine ⟨_, [some (.slice A49 x48.length k50, false), some ((y12 x13), false), some ((y13 x14), false), some (.slice A2183 x2182.length k2184, false), some (.slice A49 x48.length k50, false), some ((y12 x13), false), some ((y13 x14), false), some (.slice A2423 x2422.length k2424, false), some (.agg #[.slice A2183 x2182.length k2184, .slice A2423 x2422.length k2424], false), some (undef, false), some (.int .i64 0, true)], [sl .own ku8 A2423 k2424 x2422, sl .ro ku8 A49 k50 x48, sl .own ku8 A2183 k2184 x2182, (y10 A2 k3 x1), (y15 A4 k5 x1), (y11 A6 k7 x1), (y19 m12 A10 k11 x9), blk b17 (y4 x13), blk b18 (y5 x14), blk b19 [.slice A2183 x2182.length k2184, .slice A2423 x2422.length k2424]], rfl, (by repeat first | exact kx0 | apply kxs | apply kxn), rfl, ?_, T, S⟩
   refine stage none rfl rfl ⟨⟨_, [], rfl, trivial, fun _ _ _ T S => r_pv T rfl rfl fun _ T => ⟨rfl, T⟩⟩, trivial⟩ rfl (fun i hi => by cases hi) (fun _ _ a w T hv hb S => ?_)
   replace T := T.sub (r := [(10, .pointer (some ⟨b19, 0, none⟩)), (11, .int .i64 0)]) ⟨hb 10 _ rfl rfl, hv 10 _ 11 rfl rfl rfl, trivial⟩
   replace S : SL ([sl .own ku8 A2423 k2424 x2422, sl .ro ku8 A49 k50 x48, sl .ro ku8 A2183 k2184 x2182, (y10 A2 k3 x1), (y15 A4 k5 x1), (y11 A6 k7 x1), (y19 m12 A10 k11 x9), blk b17 (y4 x13), blk b18 (y5 x14), blk b19 [.slice A2183 x2182.length k2184, .slice A2423 x2422.length k2424]] ++ F) _ := S.fixL (i := 2) rfl rfl
   replace S : SL ([sl .ro ku8 A2423 k2424 x2422, sl .ro ku8 A49 k50 x48, sl .ro ku8 A2183 k2184 x2182, (y10 A2 k3 x1), (y15 A4 k5 x1), (y11 A6 k7 x1), (y19 m12 A10 k11 x9), blk b17 (y4 x13), blk b18 (y5 x14), blk b19 [.slice A2183 x2182.length k2184, .slice A2423 x2422.length k2424]] ++ F) _ := S.fixL (i := 0) rfl rfl
   replace H := Option.some.inj H
   subst H
   exact rtnM T S Tryd.func15 rfl ⟨_, _, rfl, ⟨b19, _, 9, rfl, rfl, .inl ⟨Tryd.isAgg50, Tryd.sizeOf50, rfl⟩⟩, ⟨_, _, rfl, rfl, rfl⟩⟩ ⟨A2183, k2184, A2423, k2424, rfl, (S.only (p := [sl .ro ku8 A2183 k2184 x2182, sl .ro ku8 A2423 k2424 x2422, (y10 A2 k3 x1), (y15 A4 k5 x1), (y11 A6 k7 x1), (y19 m12 A10 k11 x9)]) [2, 0, 1, 1, 1, 1] rfl)⟩
theorem J4_ok (F : List Atom) (r : api_Span × Int) (z : Nat) (x1 : api_Table) (A2 : Option Addr) (k3 : Nat) (A4 : Option Addr) (k5 : Nat) (A6 : Option Addr) (k7 : Nat) (x9 : List api_Value) (A10 : Option Addr) (k11 : Nat) (m12 : Md) (b15 : Nat) (b16 : Nat) (b17 : Nat) (b18 : Nat) (b19 : Nat) (A28 : Option Addr) (x27 : List Int) (k29 : Nat) (b34 : Nat) (x38 : Int) (x8 : Int) (x13 : api_Limit) (x14 : api_Limit) (q1 : (List api_Value) → Int → Option (api_Span × Int)) (hq1 : ∀ (A36 : Option Addr) (x35 : List api_Value) (k37 : Nat) (x38 : Int) (a : Act) (w : World), Tm 95 (y21 A10 x9 k11 b15 b16 b17 b18 b19 A28 x27 k29 A36 x35 k37 b34 x38) a → SL ([(y10 A2 k3 x1), (y15 A4 k5 x1), (y11 A6 k7 x1), (y19 m12 A10 k11 x9), blk b15 (y6 x1 A2 k3 A4 k5 A6 k7), blk b16 [.int .i64 x8], blk b17 (y4 x13), blk b18 (y5 x14), (y8 b19), sl .ro ki64 A28 k29 x27, sl .own kapi_Value A36 k37 x35, (y9 b34 x13 x14)] ++ F) w → q1 x35 x38 = some r → Gets Tryd.prog 15 ptL1 a w (R F x1 A2 k3 A4 k5 A6 k7 x9 A10 k11 m12 r)) (A69 : Option Addr) (x68 : List api_Value) (k70 : Nat) (a : Act) (w : World) (T : Tm 95 [(2, .slice A10 x9.length k11), (5, .pointer (some ⟨b15, 0, none⟩)), (6, .pointer (some ⟨b16, 0, none⟩)), (8, .pointer (some ⟨b17, 0, none⟩)), (9, .pointer (some ⟨b18, 0, none⟩)), (10, .pointer (some ⟨b19, 0, none⟩)), (12, .slice A28 x27.length k29), (14, .slice A69 x68.length k70), (41, .slice (some ⟨b34, 0, none⟩) 2 2), (42, .int .i64 (2 : Int)), (43, .int .i64 x38)] a) (S : SL ([(y10 A2 k3 x1), (y15 A4 k5 x1), (y11 A6 k7 x1), (y19 m12 A10 k11 x9), blk b15 (y6 x1 A2 k3 A4 k5 A6 k7), blk b16 [.int .i64 x8], blk b17 (y4 x13), blk b18 (y5 x14), (y8 b19), sl .ro ki64 A28 k29 x27, sl .own kapi_Value A69 k70 x68, (y9 b34 x13 x14)] ++ F) w) (H : J4 z q1 x1 x8 x9 x13 x14 x27 x38 x68 = some r) : Gets Tryd.prog 15 ptJ4 a w (R F x1 A2 k3 A4 k5 A6 k7 x9 A10 k11 m12 r) := by
 refine rg ?_
 refine r_pv T rfl rfl fun _ T => ?_
 refine r_pv T rfl rfl fun _ T => ?_
 refine Gets.inLoop ?_
 have T := T.re (s := 41) (v' := .slice (some ⟨b34, 0, none⟩) [(y2 x13), (y3 x14)].length 2) rfl (by simp)
 exact hq1 A69 x68 k70 (wr .i64 (x38 + 1)) _ _ (T.sub ⟨rfl, rfl, rfl, rfl, rfl, rfl, rfl, rfl, rfl, rfl, rfl, trivial⟩) (S.only (p := [(y10 A2 k3 x1), (y15 A4 k5 x1), (y11 A6 k7 x1), (y19 m12 A10 k11 x9), blk b15 (y6 x1 A2 k3 A4 k5 A6 k7), blk b16 [.int .i64 x8], blk b17 (y4 x13), blk b18 (y5 x14), (y8 b19), sl .ro ki64 A28 k29 x27, sl .own kapi_Value A69 k70 x68, (y9 b34 x13 x14)]) [0, 0, 0, 0, 0, 0, 0, 0, 0, 0, 0, 0] rfl) H
theorem J3_ok (F : List Atom) (r : api_Span × Int) (z : Nat) (x1 : api_Table) (A2 : Option Addr) (k3 : Nat) (A4 : Option Addr) (k5 : Nat) (A6 : Option Addr) (k7 : Nat) (x9 : List api_Value) (A10 : Option Addr) (k11 : Nat) (m12 : Md) (b15 : Nat) (b16 : Nat) (b17 : Nat) (b18 : Nat) (b19 : Nat) (A28 : Option Addr) (x27 : List Int) (k29 : Nat) (A3081 : Option Addr) (x35 : List api_Value) (x13 : api_Limit) (x14 : api_Limit) (x38 : Int) (k3082 : Nat) (b34 : Nat) (x8 : Int) (q1 : (List api_Value) → Int → Option (api_Span × Int)) (hq1 : ∀ (A36 : Option Addr) (x35 : List api_Value) (k37 : Nat) (x38 : Int) (a : Act) (w : World), Tm 95 (y21 A10 x9 k11 b15 b16 b17 b18 b19 A28 x27 k29 A36 x35 k37 b34 x38) a → SL ([(y10 A2 k3 x1), (y15 A4 k5 x1), (y11 A6 k7 x1), (y19 m12 A10 k11 x9), blk b15 (y6 x1 A2 k3 A4 k5 A6 k7), blk b16 [.int .i64 x8], blk b17 (y4 x13), blk b18 (y5 x14), (y8 b19), sl .ro ki64 A28 k29 x27, sl .own kapi_Value A36 k37 x35, (y9 b34 x13 x14)] ++ F) w → q1 x35 x38 = some r → Gets Tryd.prog 15 ptL1 a w (R F x1 A2 k3 A4 k5 A6 k7 x9 A10 k11 m12 r)) (a : Act) (w : World) (T : Tm 95 (y20 A10 x9 k11 b15 b16 b17 b18 b19 A28 x27 k29 A3081 x35 x13 x14 x38 k3082 b34) a) (S : SL ([(y10 A2 k3 x1), (y15 A4 k5 x1), (y11 A6 k7 x1), (y19 m12 A10 k11 x9), blk b15 (y6 x1 A2 k3 A4 k5 A6 k7), blk b16 [.int .i64 x8], blk b17 (y4 x13), blk b18 (y5 x14), (y8 b19), sl .ro ki64 A28 k29 x27, (y16 A3081 k3082 x35 x9 x13 x14 x38), (y9 b34 x13 x14)] ++ F) w) (H : J3 z q1 x1 x8 x9 x13 x14 x27 x35 x38 = some r) : Gets Tryd.prog 15 ptJ3 a w (R F x1 A2 k3 A4 k5 A6 k7 x9 A10 k11 m12 r) := by
 refine rg ?_
 refine r_ldBA (ix := 4) (ds := (y6 x1 A2 k3 A4 k5 A6 k7)) T S rfl Tryd.isAgg26 rfl rfl Tryd.sizeOf26 rfl fun _ T => ?_
 refine r_pv T rfl rfl fun _ T => ?_
 refine r_pv T rfl rfl fun _ T => ?_
 replace S := S.dup (i := 0) rfl
 replace S := S.dup (i := 2) rfl
 replace S := S.dup (i := 4) rfl
 obtain ⟨x66, h65, H⟩ := bd H
 refine r_call T Tryd.call42 rfl rfl (rowkey_askable.ok _ _ z x1 x27 ((cut x35 (Int.toNat 0) (Int.toNat (x9.length : Int))) ++ [(y0 x13 x14 x38)]) (S.sel (p := [(y10 A2 k3 x1), (y15 A4 k5 x1), (y11 A6 k7 x1), sl .ro ki64 A28 k29 x27, (y16 A3081 k3082 x35 x9 x13 x14 x38)]) (is := [2, 1, 0, 9, 9]) rfl) _ h65) ?_
 rintro _ _ ⟨rfl, S⟩
 refine ⟨_, rfl, fun _ T => ?_⟩
 replace S : SL ([sl .ro ki64 A28 k29 x27, (y16 A3081 k3082 x35 x9 x13 x14 x38), (y10 A2 k3 x1), (y15 A4 k5 x1), (y11 A6 k7 x1), (y19 m12 A10 k11 x9), blk b15 (y6 x1 A2 k3 A4 k5 A6 k7), blk b16 [.int .i64 x8], blk b17 (y4 x13), blk b18 (y5 x14), (y8 b19), (y9 b34 x13 x14)] ++ F) _ := S.join.only [3, 3, 3, 3, 3, 3, 3, 3, 3, 3, 3, 3] rfl
 refine r_pv T rfl rfl fun _ T => ?_
 rcases ifE H with ⟨h67, H⟩ | ⟨h67, H⟩
 ·refine cdT T rfl h67 ?_
  refine Gets.seq ?_
  refine rg ?_
  refine r_build (cs := #[.slice none 0 0, .slice none 0 0]) T stt50 rfl rfl rfl fun _ T => ?_
  refine r_stBA (ix := 10) (vs := [.slice none 0 0, .slice none 0 0]) (l' := [sl .ro ki64 A28 k29 x27, (y16 A3081 k3082 x35 x9 x13 x14 x38), (y10 A2 k3 x1), (y15 A4 k5 x1), (y11 A6 k7 x1), (y19 m12 A10 k11 x9), blk b15 (y6 x1 A2 k3 A4 k5 A6 k7), blk b16 [.int .i64 x8], blk b17 (y4 x13), blk b18 (y5 x14), (y8 b19), (y9 b34 x13 x14)]) T S rfl rfl rfl rfl (by simp) Tryd.sizeOf50 (Nat.le_of_ble_eq_true rfl) rfl fun _ S => ?_
  refine r_pv T rfl rfl fun _ T => ?_
  replace S := S.nil ku8 .ro
  replace S := S.nil ku8 .ro
  replace H := Option.some.inj H
  subst H
  exact rtnM T S Tryd.func15 rfl ⟨_, _, rfl, ⟨b19, _, 12, rfl, rfl, .inl ⟨Tryd.isAgg50, Tryd.sizeOf50, rfl⟩⟩, ⟨_, _, rfl, rfl, rfl⟩⟩ ⟨none, 0, none, 0, rfl, (S.only (p := [sl .ro ku8 none 0 ([] : List Int), sl .ro ku8 none 0 ([] : List Int), (y10 A2 k3 x1), (y15 A4 k5 x1), (y11 A6 k7 x1), (y19 m12 A10 k11 x9)]) [1, 0, 2, 2, 2, 2] rfl)⟩
 ·refine cdF T rfl h67 ?_
  refine Gets.skip (Gets.inBlock ?_)
  have T := T.re (s := 41) (v' := .slice (some ⟨b34, 0, none⟩) [(y2 x13), (y3 x14)].length 2) rfl (by simp)
  exact J4_ok F r z x1 A2 k3 A4 k5 A6 k7 x9 A10 k11 m12 b15 b16 b17 b18 b19 A28 x27 k29 b34 x38 x8 x13 x14 q1 hq1 A3081 ((cut x35 (Int.toNat 0) (Int.toNat (x9.length : Int))) ++ [(y0 x13 x14 x38)]) k3082 _ _ (T.sub ⟨rfl, rfl, rfl, rfl, rfl, rfl, rfl, rfl, rfl, rfl, rfl, trivial⟩) (S.only (p := [(y10 A2 k3 x1), (y15 A4 k5 x1), (y11 A6 k7 x1), (y19 m12 A10 k11 x9), blk b15 (y6 x1 A2 k3 A4 k5 A6 k7), blk b16 [.int .i64 x8], blk b17 (y4 x13), blk b18 (y5 x14), (y8 b19), sl .ro ki64 A28 k29 x27, (y16 A3081 k3082 x35 x9 x13 x14 x38), (y9 b34 x13 x14)]) [2, 2, 2, 2, 2, 2, 2, 2, 2, 0, 0, 0] rfl) H
theorem L1_ok (F : List Atom) (r : api_Span × Int) (z : Nat) (x1 : api_Table) (A2 : Option Addr) (k3 : Nat) (A4 : Option Addr) (k5 : Nat) (A6 : Option Addr) (k7 : Nat) (x9 : List api_Value) (A10 : Option Addr) (k11 : Nat) (m12 : Md) (b15 : Nat) (b16 : Nat) (b17 : Nat) (b18 : Nat) (b19 : Nat) (A28 : Option Addr) (x27 : List Int) (k29 : Nat) (b34 : Nat) (x8 : Int) (x13 : api_Limit) (x14 : api_Limit) (m : Nat) : ∀ (A36 : Option Addr) (x35 : List api_Value) (k37 : Nat) (x38 : Int) (a : Act) (w : World), Tm 95 (y21 A10 x9 k11 b15 b16 b17 b18 b19 A28 x27 k29 A36 x35 k37 b34 x38) a → SL ([(y10 A2 k3 x1), (y15 A4 k5 x1), (y11 A6 k7 x1), (y19 m12 A10 k11 x9), blk b15 (y6 x1 A2 k3 A4 k5 A6 k7), blk b16 [.int .i64 x8], blk b17 (y4 x13), blk b18 (y5 x14), (y8 b19), sl .ro ki64 A28 k29 x27, sl .own kapi_Value A36 k37 x35, (y9 b34 x13 x14)] ++ F) w → L1 z x1 x8 x9 x13 x14 x27 m x35 x38 = some r → Gets Tryd.prog 15 ptL1 a w (R F x1 A2 k3 A4 k5 A6 k7 x9 A10 k11 m12 r) := by
 induction m with
 | zero => intro _ _ _ _ _ _ _ _ H; cases H
 | succ m ih =>
  intro A36 x35 k37 x38 a w T S H
  refine Gets.seq ?_
  refine rg ?_
  refine r_pv T rfl rfl fun _ T => ?_
  refine Gets.seq ?_
  rcases ifE H with ⟨h39, H⟩ | ⟨h39, H⟩
  ·refine cdT T rfl h39 ?_
   refine Gets.skip (Gets.seq (Gets.block (Gets.seq ?_)))
   refine rg ?_
   obtain ⟨h62, H⟩ := ck H
   refine r_ia (ix := 11) T S rfl rfl rfl (by simp) Tryd.runUnderlying84 Tryd.sizeOf54 h62.1 h62.2 rfl fun _ T => ?_
   refine r_ldEA (ix := 11) (i := x38) (off := 0) T S rfl rfl Tryd.isAgg54 Tryd.sizeOf54 dapi_Limit rfl (Fld.all _) h62.1 h62.2 rfl fun _ _ S T => ?_
   obtain ⟨hv_, S_⟩ := op_api_Limit S
   subst hv_
   replace S := S_
   refine r_alloc T S zv54 (cs := [.bool false, .bool false, .int .i64 0, .bool false, .int .i64 0, .string (⟨#[]⟩ : ByteArray)]) rfl rfl fun _ _ b63 S T => ?_
   refine r_stBA (ix := 0) (vs := (y1 x13 x14 x38)) (l' := [blk b63 (y1 x13 x14 x38), (y10 A2 k3 x1), (y15 A4 k5 x1), (y11 A6 k7 x1), (y19 m12 A10 k11 x9), blk b15 (y6 x1 A2 k3 A4 k5 A6 k7), blk b16 [.int .i64 x8], blk b17 (y4 x13), blk b18 (y5 x14), (y8 b19), sl .ro ki64 A28 k29 x27, sl .own kapi_Value A36 k37 x35, (y9 b34 x13 x14)]) T S rfl rfl rfl rfl (by simp) Tryd.sizeOf54 (Nat.le_of_ble_eq_true rfl) rfl fun _ S => ?_
   refine Gets.seq ?_
   refine rg ?_
   refine r_fa (o' := 0) T rfl Tryd.runUnderlying54 rfl Tryd.sizeOf4 rfl rfl fun _ T => ?_
   refine r_ldB (ix := 0) T S rfl Tryd.isAgg4 rfl rfl rfl fun _ T => ?_
   rcases ifE H with ⟨h64, H⟩ | ⟨h64, H⟩
   ·refine cdT T rfl h64 ?_
    refine Gets.seq ?_
    refine Gets.drawn (l := [blk b63 (y1 x13 x14 x38), (y10 A2 k3 x1), (y15 A4 k5 x1), (y11 A6 k7 x1), (y19 m12 A10 k11 x9), blk b15 (y6 x1 A2 k3 A4 k5 A6 k7), blk b16 [.int .i64 x8], blk b17 (y4 x13), blk b18 (y5 x14), (y8 b19), sl .ro ki64 A28 k29 x27, sl .own kapi_Value A36 k37 x35, (y9 b34 x13 x14)]) (V := [some (.slice A36 x35.length k37, true), some (.slice A10 x9.length k11, true), some (.int .i64 (x9.length : Int), true), none, (y24 b63), some ((y7 x13 x14 x38), true), none, none, none]) mixed T S rfl ?_
    refine stageL [3, 6] rfl rfl ⟨⟨_, [(14, _)], rfl, ⟨.inr ⟨rfl, rfl⟩, trivial⟩, fun _ _ _ T S => r_pv T rfl rfl fun _ T => ⟨rfl, T⟩⟩, ⟨_, [(2, _)], rfl, ⟨.inr ⟨rfl, rfl⟩, trivial⟩, fun _ _ _ T S => r_pv T rfl rfl fun _ T => ⟨rfl, T⟩⟩, ⟨_, [(50, _)], rfl, ⟨.inl ⟨1, rfl, rfl, rfl, rfl⟩, trivial⟩, fun _ _ _ T S => r_lenS T rfl Tryd.runUnderlying27 rfl fun _ T => ⟨rfl, T⟩⟩, ⟨_, [(16, _)], rfl, ⟨.inr ⟨rfl, rfl⟩, trivial⟩, fun _ _ _ T S => r_fa (o' := 2) T rfl Tryd.runUnderlying54 rfl Tryd.sizeOf43 rfl rfl fun _ T => ⟨rfl, T⟩⟩, ⟨_, [(53, _)], rfl, ⟨.inl ⟨4, rfl, rfl, rfl, rfl⟩, trivial⟩, fun _ _ _ T S => r_ldBA (ix := 0) (ds := (y14 x13 x14 x38)) T S rfl Tryd.isAgg43 rfl rfl Tryd.sizeOf43 rfl fun _ T => ⟨rfl, T⟩⟩, trivial⟩ rfl (fun i hi => ?_) (fun h => by cases h)
    simp only [List.mem_cons, List.not_mem_nil, or_false] at hi
    rcases hi with rfl | rfl
    ·refine ⟨rfl, _, [(49, _), (51, _)], rfl, ⟨.inl ⟨0, rfl, rfl, rfl, rfl⟩, .inl ⟨2, rfl, rfl, rfl, rfl⟩, trivial⟩, fun u a w T S => ?_⟩
     have h2841 := S.len (i := 11) rfl
     obtain ⟨h2842, H⟩ := ck H
     refine r_slO (ix := 11) (xs := x35) T S rfl rfl (fun h => by cases h) rfl rfl rfl (Int.le_refl _) h2842.1 h2842.2 (by have := h2842.2; omega) (by omega) Tryd.runUnderlying27 Tryd.sizeOf43 rfl fun _ A2843 S T => ?_
     replace S : SL ([blk b63 (y1 x13 x14 x38), (y10 A2 k3 x1), (y15 A4 k5 x1), (y11 A6 k7 x1), (y19 m12 A10 k11 x9), blk b15 (y6 x1 A2 k3 A4 k5 A6 k7), blk b16 [.int .i64 x8], blk b17 (y4 x13), blk b18 (y5 x14), (y8 b19), sl .ro ki64 A28 k29 x27, (y18 A2843 k37 x35 x9), (y9 b34 x13 x14)] ++ F) _ := S
     refine ⟨_, [some (.slice A36 x35.length k37, false), some (.slice A10 x9.length k11, true), some (.int .i64 (x9.length : Int), false), (y23 A2843 x35 x9 k37), (y24 b63), some ((y7 x13 x14 x38), true), none, none, none], [blk b63 (y1 x13 x14 x38), (y10 A2 k3 x1), (y15 A4 k5 x1), (y11 A6 k7 x1), (y19 m12 A10 k11 x9), blk b15 (y6 x1 A2 k3 A4 k5 A6 k7), blk b16 [.int .i64 x8], blk b17 (y4 x13), blk b18 (y5 x14), (y8 b19), sl .ro ki64 A28 k29 x27, (y18 A2843 k37 x35 x9), (y9 b34 x13 x14)], rfl, (by repeat first | exact kx0 | apply kxs | apply kxn), rfl, ?_, T, S⟩
     refine stage (some 6) rfl rfl ⟨⟨_, [(2, _)], rfl, ⟨.inr ⟨rfl, rfl⟩, trivial⟩, fun _ _ _ T S => r_pv T rfl rfl fun _ T => ⟨rfl, T⟩⟩, ⟨_, [(16, _)], rfl, ⟨.inr ⟨rfl, rfl⟩, trivial⟩, fun _ _ _ T S => r_fa (o' := 2) T rfl Tryd.runUnderlying54 rfl Tryd.sizeOf43 rfl rfl fun _ T => ⟨rfl, T⟩⟩, ⟨_, [(53, _)], rfl, ⟨.inl ⟨4, rfl, rfl, rfl, rfl⟩, trivial⟩, fun _ _ _ T S => r_ldBA (ix := 0) (ds := (y14 x13 x14 x38)) T S rfl Tryd.isAgg43 rfl rfl Tryd.sizeOf43 rfl fun _ T => ⟨rfl, T⟩⟩, trivial⟩ rfl (fun i hi => ?_) (fun h => by cases h)
     cases hi
     refine ⟨rfl, _, [(54, _)], rfl, ⟨.inl ⟨5, rfl, rfl, rfl, rfl⟩, trivial⟩, fun u a w T S => ?_⟩
     replace S : SL ([rp kapi_Value (y0 x13 x14 x38) (y14 x13 x14 x38), blk b63 (y1 x13 x14 x38), (y10 A2 k3 x1), (y15 A4 k5 x1), (y11 A6 k7 x1), (y19 m12 A10 k11 x9), blk b15 (y6 x1 A2 k3 A4 k5 A6 k7), blk b16 [.int .i64 x8], blk b17 (y4 x13), blk b18 (y5 x14), (y8 b19), sl .ro ki64 A28 k29 x27, (y18 A2843 k37 x35 x9), (y9 b34 x13 x14)] ++ F) _ := cl_api_Value  S 
     refine r_bsl (κ := kapi_Value) (xs := [(y0 x13 x14 x38)]) (vs := [(y7 x13 x14 x38)]) T S sty27 rfl ⟨_, _, rfl, ⟨0, rfl⟩, rfl⟩ rfl (by decide) rfl fun _ _ b3021 S T => ?_
     replace S : SL ([(y22 b3021 x13 x14 x38), blk b63 (y1 x13 x14 x38), (y10 A2 k3 x1), (y15 A4 k5 x1), (y11 A6 k7 x1), (y19 m12 A10 k11 x9), blk b15 (y6 x1 A2 k3 A4 k5 A6 k7), blk b16 [.int .i64 x8], blk b17 (y4 x13), blk b18 (y5 x14), (y8 b19), sl .ro ki64 A28 k29 x27, (y18 A2843 k37 x35 x9), (y9 b34 x13 x14)] ++ F) _ := S.only [0, 1, 1, 1, 1, 1, 1, 1, 1, 1, 1, 1, 1, 1] rfl
     refine ⟨_, [some (.slice A36 x35.length k37, false), some (.slice A10 x9.length k11, true), some (.int .i64 (x9.length : Int), false), (y23 A2843 x35 x9 k37), (y24 b63), some ((y7 x13 x14 x38), false), some (.slice (some ⟨b3021, 0, none⟩) 1 1, false), none, none], [(y22 b3021 x13 x14 x38), blk b63 (y1 x13 x14 x38), (y10 A2 k3 x1), (y15 A4 k5 x1), (y11 A6 k7 x1), (y19 m12 A10 k11 x9), blk b15 (y6 x1 A2 k3 A4 k5 A6 k7), blk b16 [.int .i64 x8], blk b17 (y4 x13), blk b18 (y5 x14), (y8 b19), sl .ro ki64 A28 k29 x27, (y18 A2843 k37 x35 x9), (y9 b34 x13 x14)], rfl, (by repeat first | exact kx0 | apply kxs | apply kxn), rfl, ?_, T, S⟩
     refine stage (some 7) rfl rfl ⟨⟨_, [(2, _)], rfl, ⟨.inr ⟨rfl, rfl⟩, trivial⟩, fun _ _ _ T S => r_pv T rfl rfl fun _ T => ⟨rfl, T⟩⟩, ⟨_, [(16, _)], rfl, ⟨.inr ⟨rfl, rfl⟩, trivial⟩, fun _ _ _ T S => r_fa (o' := 2) T rfl Tryd.runUnderlying54 rfl Tryd.sizeOf43 rfl rfl fun _ T => ⟨rfl, T⟩⟩, trivial⟩ rfl (fun i hi => ?_) (fun h => by cases h)
     cases hi
     refine ⟨rfl, _, [(52, _), (55, _)], rfl, ⟨.inl ⟨3, rfl, rfl, rfl, rfl⟩, .inl ⟨6, rfl, rfl, rfl, rfl⟩, trivial⟩, fun u a w T S => ?_⟩
     obtain ⟨h3083, H⟩ := ck H
     refine r_app (ix := 12) (iy := 0) (xs := (cut x35 (Int.toNat 0) (Int.toNat (x9.length : Int)))) (ys := [(y0 x13 x14 x38)]) T S rfl rfl rfl rfl (by decide) sty27 Tryd.runUnderlying27 (by decide) h3083 rfl fun _ _ A3081 k3082 S T => ?_
     replace S : SL ([(y22 b3021 x13 x14 x38), blk b63 (y1 x13 x14 x38), (y10 A2 k3 x1), (y15 A4 k5 x1), (y11 A6 k7 x1), (y19 m12 A10 k11 x9), blk b15 (y6 x1 A2 k3 A4 k5 A6 k7), blk b16 [.int .i64 x8], blk b17 (y4 x13), blk b18 (y5 x14), (y8 b19), sl .ro ki64 A28 k29 x27, (y16 A3081 k3082 x35 x9 x13 x14 x38), (y9 b34 x13 x14)] ++ F) _ := S
     refine ⟨_, [some (.slice A36 x35.length k37, false), some (.slice A10 x9.length k11, true), some (.int .i64 (x9.length : Int), false), (y23 A2843 x35 x9 k37), (y24 b63), some ((y7 x13 x14 x38), false), some (.slice (some ⟨b3021, 0, none⟩) 1 1, false), some (.slice A3081 (((cut x35 (Int.toNat 0) (Int.toNat (x9.length : Int))) ++ [(y0 x13 x14 x38)]).length) k3082, false), some (.slice A3081 (((cut x35 (Int.toNat 0) (Int.toNat (x9.length : Int))) ++ [(y0 x13 x14 x38)]).length) k3082, true)], [(y22 b3021 x13 x14 x38), blk b63 (y1 x13 x14 x38), (y10 A2 k3 x1), (y15 A4 k5 x1), (y11 A6 k7 x1), (y19 m12 A10 k11 x9), blk b15 (y6 x1 A2 k3 A4 k5 A6 k7), blk b16 [.int .i64 x8], blk b17 (y4 x13), blk b18 (y5 x14), (y8 b19), sl .ro ki64 A28 k29 x27, (y16 A3081 k3082 x35 x9 x13 x14 x38), (y9 b34 x13 x14)], rfl, (by repeat first | exact kx0 | apply kxs | apply kxn), rfl, ?_, T, S⟩
     refine stage none rfl rfl ⟨⟨_, [(2, _)], rfl, ⟨.inr ⟨rfl, rfl⟩, trivial⟩, fun _ _ _ T S => r_pv T rfl rfl fun _ T => ⟨rfl, T⟩⟩, ⟨_, [(16, _)], rfl, ⟨.inr ⟨rfl, rfl⟩, trivial⟩, fun _ _ _ T S => r_fa (o' := 2) T rfl Tryd.runUnderlying54 rfl Tryd.sizeOf43 rfl rfl fun _ T => ⟨rfl, T⟩⟩, ⟨_, [(56, _)], rfl, ⟨.inl ⟨7, rfl, rfl, rfl, rfl⟩, trivial⟩, fun _ _ _ T S => r_pv T rfl rfl fun _ T => ⟨rfl, T⟩⟩, trivial⟩ rfl (fun i hi => by cases hi) (fun _ _ a w T hv hb S => ?_)
     replace T := T.sub (r := (y20 A10 x9 k11 b15 b16 b17 b18 b19 A28 x27 k29 A3081 x35 x13 x14 x38 k3082 b34)) ⟨hb 2 _ rfl rfl, hb 5 _ rfl rfl, hb 6 _ rfl rfl, hb 8 _ rfl rfl, hb 9 _ rfl rfl, hb 10 _ rfl rfl, hb 12 _ rfl rfl, hv 8 _ 14 rfl rfl rfl, hb 41 _ rfl rfl, hb 42 _ rfl rfl, hb 43 _ rfl rfl, trivial⟩
     refine Gets.seq ?_
     have T := T.re (s := 41) (v' := .slice (some ⟨b34, 0, none⟩) [(y2 x13), (y3 x14)].length 2) rfl (by simp)
     exact J3_ok F r z x1 A2 k3 A4 k5 A6 k7 x9 A10 k11 m12 b15 b16 b17 b18 b19 A28 x27 k29 A3081 x35 x13 x14 x38 k3082 b34 x8 (L1 z x1 x8 x9 x13 x14 x27 m) ih _ _ (T.sub ⟨rfl, rfl, rfl, rfl, rfl, rfl, rfl, rfl, rfl, rfl, rfl, trivial⟩) (S.only (p := [(y10 A2 k3 x1), (y15 A4 k5 x1), (y11 A6 k7 x1), (y19 m12 A10 k11 x9), blk b15 (y6 x1 A2 k3 A4 k5 A6 k7), blk b16 [.int .i64 x8], blk b17 (y4 x13), blk b18 (y5 x14), (y8 b19), sl .ro ki64 A28 k29 x27, (y16 A3081 k3082 x35 x9 x13 x14 x38), (y9 b34 x13 x14)]) [2, 2, 2, 2, 2, 2, 2, 2, 2, 2, 2, 2] rfl) H
    ·refine ⟨rfl, _, [(54, _)], rfl, ⟨.inl ⟨5, rfl, rfl, rfl, rfl⟩, trivial⟩, fun u a w T S => ?_⟩
     replace S : SL ([rp kapi_Value (y0 x13 x14 x38) (y14 x13 x14 x38), blk b63 (y1 x13 x14 x38), (y10 A2 k3 x1), (y15 A4 k5 x1), (y11 A6 k7 x1), (y19 m12 A10 k11 x9), blk b15 (y6 x1 A2 k3 A4 k5 A6 k7), blk b16 [.int .i64 x8], blk b17 (y4 x13), blk b18 (y5 x14), (y8 b19), sl .ro ki64 A28 k29 x27, sl .own kapi_Value A36 k37 x35, (y9 b34 x13 x14)] ++ F) _ := cl_api_Value  S 
     refine r_bsl (κ := kapi_Value) (xs := [(y0 x13 x14 x38)]) (vs := [(y7 x13 x14 x38)]) T S sty27 rfl ⟨_, _, rfl, ⟨0, rfl⟩, rfl⟩ rfl (by decide) rfl fun _ _ b3021 S T => ?_
     replace S : SL ([(y22 b3021 x13 x14 x38), blk b63 (y1 x13 x14 x38), (y10 A2 k3 x1), (y15 A4 k5 x1), (y11 A6 k7 x1), (y19 m12 A10 k11 x9), blk b15 (y6 x1 A2 k3 A4 k5 A6 k7), blk b16 [.int .i64 x8], blk b17 (y4 x13), blk b18 (y5 x14), (y8 b19), sl .ro ki64 A28 k29 x27, sl .own kapi_Value A36 k37 x35, (y9 b34 x13 x14)] ++ F) _ := S.only [0, 1, 1, 1, 1, 1, 1, 1, 1, 1, 1, 1, 1, 1] rfl
     refine ⟨_, [some (.slice A36 x35.length k37, true), some (.slice A10 x9.length k11, true), some (.int .i64 (x9.length : Int), true), none, (y24 b63), some ((y7 x13 x14 x38), false), some (.slice (some ⟨b3021, 0, none⟩) 1 1, false), none, none], [(y22 b3021 x13 x14 x38), blk b63 (y1 x13 x14 x38), (y10 A2 k3 x1), (y15 A4 k5 x1), (y11 A6 k7 x1), (y19 m12 A10 k11 x9), blk b15 (y6 x1 A2 k3 A4 k5 A6 k7), blk b16 [.int .i64 x8], blk b17 (y4 x13), blk b18 (y5 x14), (y8 b19), sl .ro ki64 A28 k29 x27, sl .own kapi_Value A36 k37 x35, (y9 b34 x13 x14)], rfl, (by repeat first | exact kx0 | apply kxs | apply kxn), rfl, ?_, T, S⟩
     refine stage (some 3) rfl rfl ⟨⟨_, [(14, _)], rfl, ⟨.inr ⟨rfl, rfl⟩, trivial⟩, fun _ _ _ T S => r_pv T rfl rfl fun _ T => ⟨rfl, T⟩⟩, ⟨_, [(2, _)], rfl, ⟨.inr ⟨rfl, rfl⟩, trivial⟩, fun _ _ _ T S => r_pv T rfl rfl fun _ T => ⟨rfl, T⟩⟩, ⟨_, [(50, _)], rfl, ⟨.inl ⟨1, rfl, rfl, rfl, rfl⟩, trivial⟩, fun _ _ _ T S => r_lenS T rfl Tryd.runUnderlying27 rfl fun _ T => ⟨rfl, T⟩⟩, ⟨_, [(16, _)], rfl, ⟨.inr ⟨rfl, rfl⟩, trivial⟩, fun _ _ _ T S => r_fa (o' := 2) T rfl Tryd.runUnderlying54 rfl Tryd.sizeOf43 rfl rfl fun _ T => ⟨rfl, T⟩⟩, trivial⟩ rfl (fun i hi => ?_) (fun h => by cases h)
     cases hi
     refine ⟨rfl, _, [(49, _), (51, _)], rfl, ⟨.inl ⟨0, rfl, rfl, rfl, rfl⟩, .inl ⟨2, rfl, rfl, rfl, rfl⟩, trivial⟩, fun u a w T S => ?_⟩
     have h2841 := S.len (i := 12) rfl
     obtain ⟨h2842, H⟩ := ck H
     refine r_slO (ix := 12) (xs := x35) T S rfl rfl (fun h => by cases h) rfl rfl rfl (Int.le_refl _) h2842.1 h2842.2 (by have := h2842.2; omega) (by omega) Tryd.runUnderlying27 Tryd.sizeOf43 rfl fun _ A2843 S T => ?_
     replace S : SL ([(y22 b3021 x13 x14 x38), blk b63 (y1 x13 x14 x38), (y10 A2 k3 x1), (y15 A4 k5 x1), (y11 A6 k7 x1), (y19 m12 A10 k11 x9), blk b15 (y6 x1 A2 k3 A4 k5 A6 k7), blk b16 [.int .i64 x8], blk b17 (y4 x13), blk b18 (y5 x14), (y8 b19), sl .ro ki64 A28 k29 x27, (y18 A2843 k37 x35 x9), (y9 b34 x13 x14)] ++ F) _ := S
     refine ⟨_, [some (.slice A36 x35.length k37, false), some (.slice A10 x9.length k11, true), some (.int .i64 (x9.length : Int), false), (y23 A2843 x35 x9 k37), (y24 b63), some ((y7 x13 x14 x38), false), some (.slice (some ⟨b3021, 0, none⟩) 1 1, false), none, none], [(y22 b3021 x13 x14 x38), blk b63 (y1 x13 x14 x38), (y10 A2 k3 x1), (y15 A4 k5 x1), (y11 A6 k7 x1), (y19 m12 A10 k11 x9), blk b15 (y6 x1 A2 k3 A4 k5 A6 k7), blk b16 [.int .i64 x8], blk b17 (y4 x13), blk b18 (y5 x14), (y8 b19), sl .ro ki64 A28 k29 x27, (y18 A2843 k37 x35 x9), (y9 b34 x13 x14)], rfl, (by repeat first | exact kx0 | apply kxs | apply kxn), rfl, ?_, T, S⟩
     refine stage (some 7) rfl rfl ⟨⟨_, [(2, _)], rfl, ⟨.inr ⟨rfl, rfl⟩, trivial⟩, fun _ _ _ T S => r_pv T rfl rfl fun _ T => ⟨rfl, T⟩⟩, ⟨_, [(16, _)], rfl, ⟨.inr ⟨rfl, rfl⟩, trivial⟩, fun _ _ _ T S => r_fa (o' := 2) T rfl Tryd.runUnderlying54 rfl Tryd.sizeOf43 rfl rfl fun _ T => ⟨rfl, T⟩⟩, trivial⟩ rfl (fun i hi => ?_) (fun h => by cases h)
     cases hi
     refine ⟨rfl, _, [(52, _), (55, _)], rfl, ⟨.inl ⟨3, rfl, rfl, rfl, rfl⟩, .inl ⟨6, rfl, rfl, rfl, rfl⟩, trivial⟩, fun u a w T S => ?_⟩
     obtain ⟨h3083, H⟩ := ck H
     refine r_app (ix := 12) (iy := 0) (xs := (cut x35 (Int.toNat 0) (Int.toNat (x9.length : Int)))) (ys := [(y0 x13 x14 x38)]) T S rfl rfl rfl rfl (by decide) sty27 Tryd.runUnderlying27 (by decide) h3083 rfl fun _ _ A3081 k3082 S T => ?_
     replace S : SL ([(y22 b3021 x13 x14 x38), blk b63 (y1 x13 x14 x38), (y10 A2 k3 x1), (y15 A4 k5 x1), (y11 A6 k7 x1), (y19 m12 A10 k11 x9), blk b15 (y6 x1 A2 k3 A4 k5 A6 k7), blk b16 [.int .i64 x8], blk b17 (y4 x13), blk b18 (y5 x14), (y8 b19), sl .ro ki64 A28 k29 x27, (y16 A3081 k3082 x35 x9 x13 x14 x38), (y9 b34 x13 x14)] ++ F) _ := S
     refine ⟨_, [some (.slice A36 x35.length k37, false), some (.slice A10 x9.length k11, true), some (.int .i64 (x9.length : Int), false), (y23 A2843 x35 x9 k37), (y24 b63), some ((y7 x13 x14 x38), false), some (.slice (some ⟨b3021, 0, none⟩) 1 1, false), some (.slice A3081 (((cut x35 (Int.toNat 0) (Int.toNat (x9.length : Int))) ++ [(y0 x13 x14 x38)]).length) k3082, false), some (.slice A3081 (((cut x35 (Int.toNat 0) (Int.toNat (x9.length : Int))) ++ [(y0 x13 x14 x38)]).length) k3082, true)], [(y22 b3021 x13 x14 x38), blk b63 (y1 x13 x14 x38), (y10 A2 k3 x1), (y15 A4 k5 x1), (y11 A6 k7 x1), (y19 m12 A10 k11 x9), blk b15 (y6 x1 A2 k3 A4 k5 A6 k7), blk b16 [.int .i64 x8], blk b17 (y4 x13), blk b18 (y5 x14), (y8 b19), sl .ro ki64 A28 k29 x27, (y16 A3081 k3082 x35 x9 x13 x14 x38), (y9 b34 x13 x14)], rfl, (by repeat first | exact kx0 | apply kxs | apply kxn), rfl, ?_, T, S⟩
     refine stage none rfl rfl ⟨⟨_, [(2, _)], rfl, ⟨.inr ⟨rfl, rfl⟩, trivial⟩, fun _ _ _ T S => r_pv T rfl rfl fun _ T => ⟨rfl, T⟩⟩, ⟨_, [(16, _)], rfl, ⟨.inr ⟨rfl, rfl⟩, trivial⟩, fun _ _ _ T S => r_fa (o' := 2) T rfl Tryd.runUnderlying54 rfl Tryd.sizeOf43 rfl rfl fun _ T => ⟨rfl, T⟩⟩, ⟨_, [(56, _)], rfl, ⟨.inl ⟨7, rfl, rfl, rfl, rfl⟩, trivial⟩, fun _ _ _ T S => r_pv T rfl rfl fun _ T => ⟨rfl, T⟩⟩, trivial⟩ rfl (fun i hi => by cases hi) (fun _ _ a w T hv hb S => ?_)
     replace T := T.sub (r := (y20 A10 x9 k11 b15 b16 b17 b18 b19 A28 x27 k29 A3081 x35 x13 x14 x38 k3082 b34)) ⟨hb 2 _ rfl rfl, hb 5 _ rfl rfl, hb 6 _ rfl rfl, hb 8 _ rfl rfl, hb 9 _ rfl rfl, hb 10 _ rfl rfl, hb 12 _ rfl rfl, hv 8 _ 14 rfl rfl rfl, hb 41 _ rfl rfl, hb 42 _ rfl rfl, hb 43 _ rfl rfl, trivial⟩
     refine Gets.seq ?_
     have T := T.re (s := 41) (v' := .slice (some ⟨b34, 0, none⟩) [(y2 x13), (y3 x14)].length 2) rfl (by simp)
     exact J3_ok F r z x1 A2 k3 A4 k5 A6 k7 x9 A10 k11 m12 b15 b16 b17 b18 b19 A28 x27 k29 A3081 x35 x13 x14 x38 k3082 b34 x8 (L1 z x1 x8 x9 x13 x14 x27 m) ih _ _ (T.sub ⟨rfl, rfl, rfl, rfl, rfl, rfl, rfl, rfl, rfl, rfl, rfl, trivial⟩) (S.only (p := [(y10 A2 k3 x1), (y15 A4 k5 x1), (y11 A6 k7 x1), (y19 m12 A10 k11 x9), blk b15 (y6 x1 A2 k3 A4 k5 A6 k7), blk b16 [.int .i64 x8], blk b17 (y4 x13), blk b18 (y5 x14), (y8 b19), sl .ro ki64 A28 k29 x27, (y16 A3081 k3082 x35 x9 x13 x14 x38), (y9 b34 x13 x14)]) [2, 2, 2, 2, 2, 2, 2, 2, 2, 2, 2, 2] rfl) H
   ·refine cdF T rfl h64 ?_
    refine Gets.skip (Gets.inBlock ?_)
    have T := T.re (s := 41) (v' := .slice (some ⟨b34, 0, none⟩) [(y2 x13), (y3 x14)].length 2) rfl (by simp)
    exact J4_ok F r z x1 A2 k3 A4 k5 A6 k7 x9 A10 k11 m12 b15 b16 b17 b18 b19 A28 x27 k29 b34 x38 x8 x13 x14 (L1 z x1 x8 x9 x13 x14 x27 m) ih A36 x35 k37 _ _ (T.sub ⟨rfl, rfl, rfl, rfl, rfl, rfl, rfl, rfl, rfl, rfl, rfl, trivial⟩) (S.only (p := [(y10 A2 k3 x1), (y15 A4 k5 x1), (y11 A6 k7 x1), (y19 m12 A10 k11 x9), blk b15 (y6 x1 A2 k3 A4 k5 A6 k7), blk b16 [.int .i64 x8], blk b17 (y4 x13), blk b18 (y5 x14), (y8 b19), sl .ro ki64 A28 k29 x27, sl .own kapi_Value A36 k37 x35, (y9 b34 x13 x14)]) [1, 1, 1, 1, 1, 1, 1, 1, 1, 1, 1, 1] rfl) H
  ·refine cdF T rfl h39 ?_
   refine Gets.exit rfl (Gets.seq (Gets.seq ?_))
   refine rg ?_
   refine r_ldBA (ix := 4) (ds := (y6 x1 A2 k3 A4 k5 A6 k7)) T S rfl Tryd.isAgg26 rfl rfl Tryd.sizeOf26 rfl fun _ T => ?_
   refine r_pv T rfl rfl fun _ T => ?_
   refine r_pv T rfl rfl fun _ T => ?_
   replace S := S.dup (i := 0) rfl
   replace S := S.dup (i := 2) rfl
   replace S := S.dup (i := 4) rfl
   obtain ⟨x41, h40, H⟩ := bd H
   refine r_call T Tryd.call42 rfl rfl (rowkey_askable.ok _ _ z x1 x27 x9 (S.sel (p := [(y10 A2 k3 x1), (y15 A4 k5 x1), (y11 A6 k7 x1), sl .ro ki64 A28 k29 x27, (y19 m12 A10 k11 x9)]) (is := [2, 1, 0, 9, 3]) rfl) _ h40) ?_
   rintro _ _ ⟨rfl, S⟩
   refine ⟨_, rfl, fun _ T => ?_⟩
   replace S : SL ([sl .ro ki64 A28 k29 x27, (y19 m12 A10 k11 x9), (y10 A2 k3 x1), (y15 A4 k5 x1), (y11 A6 k7 x1), blk b15 (y6 x1 A2 k3 A4 k5 A6 k7), blk b16 [.int .i64 x8], blk b17 (y4 x13), blk b18 (y5 x14), (y8 b19), sl .own kapi_Value A36 k37 x35, (y9 b34 x13 x14)] ++ F) _ := S.join.only [3, 3, 3, 3, 3, 3, 3, 3, 3, 3, 3, 3] rfl
   refine r_pv T rfl rfl fun _ T => ?_
   rcases ifE H with ⟨h42, H⟩ | ⟨h42, H⟩
   ·refine cdT T rfl h42 ?_
    refine Gets.seq ?_
    refine rg ?_
    refine r_build (cs := #[.slice none 0 0, .slice none 0 0]) T stt50 rfl rfl rfl fun _ T => ?_
    refine r_stBA (ix := 9) (vs := [.slice none 0 0, .slice none 0 0]) (l' := [sl .ro ki64 A28 k29 x27, (y19 m12 A10 k11 x9), (y10 A2 k3 x1), (y15 A4 k5 x1), (y11 A6 k7 x1), blk b15 (y6 x1 A2 k3 A4 k5 A6 k7), blk b16 [.int .i64 x8], blk b17 (y4 x13), blk b18 (y5 x14), (y8 b19), sl .own kapi_Value A36 k37 x35, (y9 b34 x13 x14)]) T S rfl rfl rfl rfl (by simp) Tryd.sizeOf50 (Nat.le_of_ble_eq_true rfl) rfl fun _ S => ?_
    refine r_pv T rfl rfl fun _ T => ?_
    replace S := S.nil ku8 .ro
    replace S := S.nil ku8 .ro
    replace H := Option.some.inj H
    subst H
    exact rtnM T S Tryd.func15 rfl ⟨_, _, rfl, ⟨b19, _, 11, rfl, rfl, .inl ⟨Tryd.isAgg50, Tryd.sizeOf50, rfl⟩⟩, ⟨_, _, rfl, rfl, rfl⟩⟩ ⟨none, 0, none, 0, rfl, (S.only (p := [sl .ro ku8 none 0 ([] : List Int), sl .ro ku8 none 0 ([] : List Int), (y10 A2 k3 x1), (y15 A4 k5 x1), (y11 A6 k7 x1), (y19 m12 A10 k11 x9)]) [1, 0, 2, 2, 2, 1] rfl)⟩
   ·refine cdF T rfl h42 ?_
    refine Gets.skip (Gets.seq ?_)
    refine rg ?_
    refine r_fa (o' := 0) T rfl Tryd.runUnderlying26 rfl Tryd.sizeOf3 rfl rfl fun _ T => ?_
    refine r_ldB (ix := 5) T S rfl Tryd.isAgg3 rfl rfl rfl fun _ T => ?_
    refine r_ldB (ix := 6) T S rfl Tryd.isAgg3 rfl rfl rfl fun _ T => ?_
    replace S := SL.val (κ := ki64) (x := x1.Id) (cs := [.int .i64 x1.Id]) (fun _ => rfl) S
    replace S := SL.val (κ := ki64) (x := x8) (cs := [.int .i64 x8]) (fun _ => rfl) S
    refine r_bsl (κ := ki64) (xs := [x1.Id, x8]) (vs := [.int .i64 x1.Id, .int .i64 x8]) T S sty23 rfl ⟨_, _, rfl, ⟨1, rfl⟩, ⟨_, _, rfl, ⟨0, rfl⟩, rfl⟩⟩ rfl (by decide) rfl fun _ _ b43 S T => ?_
    replace S : SL ([sl .own ki64 (some ⟨b43, 0, none⟩) 2 [x1.Id, x8], sl .ro ki64 A28 k29 x27, (y19 m12 A10 k11 x9), (y10 A2 k3 x1), (y15 A4 k5 x1), (y11 A6 k7 x1), blk b15 (y6 x1 A2 k3 A4 k5 A6 k7), blk b16 [.int .i64 x8], blk b17 (y4 x13), blk b18 (y5 x14), (y8 b19), sl .own kapi_Value A36 k37 x35, (y9 b34 x13 x14)] ++ F) _ := S.only [0, 2, 2, 2, 2, 2, 2, 2, 2, 2, 2, 2, 2] rfl
    obtain ⟨x45, h44, H⟩ := bd H
    refine r_call T Tryd.call26 rfl rfl (rowkey_begin.ok _ _ z [x1.Id, x8] (S.sel (p := [sl .own ki64 (some ⟨b43, 0, none⟩) 2 [x1.Id, x8]]) (is := [0]) rfl) _ h44) ?_
    rintro _ _ ⟨A46, k47, rfl, S⟩
    refine ⟨_, rfl, fun _ T => ?_⟩
    replace S : SL ([sl .own ku8 A46 k47 x45, sl .own ki64 (some ⟨b43, 0, none⟩) 2 [x1.Id, x8], sl .ro ki64 A28 k29 x27, (y19 m12 A10 k11 x9), (y10 A2 k3 x1), (y15 A4 k5 x1), (y11 A6 k7 x1), blk b15 (y6 x1 A2 k3 A4 k5 A6 k7), blk b16 [.int .i64 x8], blk b17 (y4 x13), blk b18 (y5 x14), (y8 b19), sl .own kapi_Value A36 k37 x35, (y9 b34 x13 x14)] ++ F) _ := S.join
    refine r_pv T rfl rfl fun _ T => ?_
    refine Gets.seq (Gets.seq ?_)
    refine rg ?_
    refine r_pv T rfl rfl fun _ T => ?_
    refine r_lenS T rfl Tryd.runUnderlying27 rfl fun _ T => ?_
    refine r_pv T rfl rfl fun _ T => ?_
    refine Gets.block ?_
    refine Gets.loop ?_
    exact L2_ok F r z x1 A2 k3 A4 k5 A6 k7 x9 A10 k11 m12 b17 b18 b19 x13 x14 x8 z A46 x45 k47 0 _ _ (T.sub ⟨rfl, rfl, rfl, rfl, rfl, rfl, rfl, trivial⟩) (S.only (p := [(y10 A2 k3 x1), (y15 A4 k5 x1), (y11 A6 k7 x1), (y19 m12 A10 k11 x9), blk b17 (y4 x13), blk b18 (y5 x14), (y8 b19), sl .own ku8 A46 k47 x45]) [4, 4, 4, 3, 5, 5, 5, 0] rfl) H
theorem J0_ok (F : List Atom) (r : api_Span × Int) (z : Nat) (x1 : api_Table) (A2 : Option Addr) (k3 : Nat) (A4 : Option Addr) (k5 : Nat) (A6 : Option Addr) (k7 : Nat) (x9 : List api_Value) (A10 : Option Addr) (k11 : Nat) (m12 : Md) (b15 : Nat) (b16 : Nat) (b17 : Nat) (b18 : Nat) (b19 : Nat) (x8 : Int) (x13 : api_Limit) (x14 : api_Limit) (A28 : Option Addr) (x27 : List Int) (k29 : Nat) (a : Act) (w : World) (T : Tm 95 [(2, .slice A10 x9.length k11), (5, .pointer (some ⟨b15, 0, none⟩)), (6, .pointer (some ⟨b16, 0, none⟩)), (8, .pointer (some ⟨b17, 0, none⟩)), (9, .pointer (some ⟨b18, 0, none⟩)), (10, .pointer (some ⟨b19, 0, none⟩)), (12, .slice A28 x27.length k29)] a) (S : SL ([(y10 A2 k3 x1), (y15 A4 k5 x1), (y11 A6 k7 x1), (y19 m12 A10 k11 x9), blk b15 (y6 x1 A2 k3 A4 k5 A6 k7), blk b16 [.int .i64 x8], blk b17 (y4 x13), blk b18 (y5 x14), (y8 b19), sl .ro ki64 A28 k29 x27] ++ F) w) (H : J0 z x1 x8 x9 x13 x14 x27 = some r) : Gets Tryd.prog 15 ptJ0 a w (R F x1 A2 k3 A4 k5 A6 k7 x9 A10 k11 m12 r) := by
 refine rg ?_
 refine r_pv T rfl rfl fun _ T => ?_
 obtain ⟨x31, h30, H⟩ := bd H
 refine r_call T Tryd.call41 rfl rfl (slices_Clone_cormorant_api_Value.ok _ _ x9 (S.sel (p := [(y19 m12 A10 k11 x9)]) (is := [3]) rfl) _ h30) ?_
 rintro _ _ ⟨A32, k33, rfl, S⟩
 refine ⟨_, rfl, fun _ T => ?_⟩
 replace S : SL ([sl .own kapi_Value A32 k33 x31, (y19 m12 A10 k11 x9), (y10 A2 k3 x1), (y15 A4 k5 x1), (y11 A6 k7 x1), blk b15 (y6 x1 A2 k3 A4 k5 A6 k7), blk b16 [.int .i64 x8], blk b17 (y4 x13), blk b18 (y5 x14), (y8 b19), sl .ro ki64 A28 k29 x27] ++ F) _ := S.join
 refine r_pv T rfl rfl fun _ T => ?_
 refine Gets.seq (Gets.seq ?_)
 refine rg ?_
 refine r_ldBA (ix := 7) (ds := (y4 x13)) T S rfl Tryd.isAgg54 rfl rfl Tryd.sizeOf54 rfl fun _ T => ?_
 refine r_ldBA (ix := 8) (ds := (y5 x14)) T S rfl Tryd.isAgg54 rfl rfl Tryd.sizeOf54 rfl fun _ T => ?_
 replace S : SL ([rp kapi_Limit (y2 x13) (y4 x13), sl .own kapi_Value A32 k33 x31, (y19 m12 A10 k11 x9), (y10 A2 k3 x1), (y15 A4 k5 x1), (y11 A6 k7 x1), blk b15 (y6 x1 A2 k3 A4 k5 A6 k7), blk b16 [.int .i64 x8], blk b17 (y4 x13), blk b18 (y5 x14), (y8 b19), sl .ro ki64 A28 k29 x27] ++ F) _ := cl_api_Limit  S 
 replace S : SL ([rp kapi_Limit (y3 x14) (y5 x14), rp kapi_Limit (y2 x13) (y4 x13), sl .own kapi_Value A32 k33 x31, (y19 m12 A10 k11 x9), (y10 A2 k3 x1), (y15 A4 k5 x1), (y11 A6 k7 x1), blk b15 (y6 x1 A2 k3 A4 k5 A6 k7), blk b16 [.int .i64 x8], blk b17 (y4 x13), blk b18 (y5 x14), (y8 b19), sl .ro ki64 A28 k29 x27] ++ F) _ := cl_api_Limit  S 
 refine r_bsl (κ := kapi_Limit) (xs := [(y2 x13), (y3 x14)]) (vs := [(y12 x13), (y13 x14)]) T S sty84 rfl ⟨_, _, rfl, ⟨1, rfl⟩, ⟨_, _, rfl, ⟨0, rfl⟩, rfl⟩⟩ rfl (by decide) rfl fun _ _ b34 S T => ?_
 replace S : SL ([(y9 b34 x13 x14), sl .own kapi_Value A32 k33 x31, (y19 m12 A10 k11 x9), (y10 A2 k3 x1), (y15 A4 k5 x1), (y11 A6 k7 x1), blk b15 (y6 x1 A2 k3 A4 k5 A6 k7), blk b16 [.int .i64 x8], blk b17 (y4 x13), blk b18 (y5 x14), (y8 b19), sl .ro ki64 A28 k29 x27] ++ F) _ := S.only [0, 2, 2, 2, 2, 2, 2, 2, 2, 2, 2, 2] rfl
 refine r_lenS T rfl Tryd.runUnderlying84 rfl fun _ T => ?_
 refine r_pv T rfl rfl fun _ T => ?_
 refine Gets.block ?_
 refine Gets.loop ?_
 have T := T.re (s := 41) (v' := .slice (some ⟨b34, 0, none⟩) [(y2 x13), (y3 x14)].length 2) rfl (by simp)
 exact L1_ok F r z x1 A2 k3 A4 k5 A6 k7 x9 A10 k11 m12 b15 b16 b17 b18 b19 A28 x27 k29 b34 x8 x13 x14 z A32 x31 k33 0 _ _ (T.sub ⟨rfl, rfl, rfl, rfl, rfl, rfl, rfl, rfl, rfl, rfl, rfl, trivial⟩) (S.only (p := [(y10 A2 k3 x1), (y15 A4 k5 x1), (y11 A6 k7 x1), (y19 m12 A10 k11 x9), blk b15 (y6 x1 A2 k3 A4 k5 A6 k7), blk b16 [.int .i64 x8], blk b17 (y4 x13), blk b18 (y5 x14), (y8 b19), sl .ro ki64 A28 k29 x27, sl .own kapi_Value A32 k33 x31, (y9 b34 x13 x14)]) [3, 3, 3, 2, 2, 2, 2, 2, 2, 2, 1, 0] rfl) H
theorem ok (F : List Atom) (w : World) (z : Nat) (x1 : api_Table) (x8 : Int) (x9 : List api_Value) (x13 : api_Limit) (x14 : api_Limit) {A2 : Option Addr} {k3 : Nat} {A4 : Option Addr} {k5 : Nat} {A6 : Option Addr} {k7 : Nat} {A10 : Option Addr} {k11 : Nat} {m12 : Md} (S : SL ([(y10 A2 k3 x1), (y15 A4 k5 x1), (y11 A6 k7 x1), (y19 m12 A10 k11 x9)] ++ F) w) (r : api_Span × Int) (H : f z x1 x8 x9 x13 x14 = some r) : Calls Tryd.prog 15 #[.agg #[.int .i64 x1.Id, .string x1.Name, .slice A2 x1.Columns.length k3, .slice A4 x1.Key.length k5, .slice A6 x1.Indexes.length k7], .int .i64 x8, .slice A10 x9.length k11, (y12 x13), (y13 x14)] w (R F x1 A2 k3 A4 k5 A6 k7 x9 A10 k11 m12 r) := by
 refine enter (vs := [.agg #[.int .i64 x1.Id, .string x1.Name, .slice A2 x1.Columns.length k3, .slice A4 x1.Key.length k5, .slice A6 x1.Indexes.length k7], .int .i64 x8, .slice A10 x9.length k11, (y12 x13), (y13 x14)]) Tryd.func15 rfl Tryd.ntmps15 (Nat.le_of_ble_eq_true rfl) fun a T => ?_
 refine Gets.seq ?_
 refine rg ?_
 refine r_box T S rfl (cs := (y6 x1 A2 k3 A4 k5 A6 k7)) rfl rfl fun _ _ b15 S T => ?_
 refine r_box T S rfl (cs := [.int .i64 x8]) rfl rfl fun _ _ b16 S T => ?_
 refine r_box T S rfl (cs := (y4 x13)) rfl rfl fun _ _ b17 S T => ?_
 refine r_box T S rfl (cs := (y5 x14)) rfl rfl fun _ _ b18 S T => ?_
 refine r_alloc T S zv50 (cs := [.slice none 0 0, .slice none 0 0]) rfl rfl fun _ _ b19 S T => ?_
 refine r_pv T rfl rfl fun _ T => ?_
 refine Gets.seq ?_
 refine rg ?_
 refine r_fa (o' := 3) T rfl Tryd.runUnderlying26 rfl Tryd.sizeOf23 rfl rfl fun _ T => ?_
 refine r_ldB (ix := 4) T S rfl Tryd.isAgg23 rfl rfl rfl fun _ T => ?_
 refine r_pv T rfl rfl fun _ T => ?_
 refine Gets.seq (Gets.seq ?_)
 refine rg ?_
 refine r_ldB (ix := 3) T S rfl Tryd.isAgg3 rfl rfl rfl fun _ T => ?_
 refine r_pv T rfl rfl fun _ T => ?_
 rcases ifE H with ⟨h20, H⟩ | ⟨h20, H⟩
 ·refine cdT T rfl h20 ?_
  refine Gets.seq ?_
  refine rg ?_
  refine r_fa (o' := 4) T rfl Tryd.runUnderlying26 rfl Tryd.sizeOf24 rfl rfl fun _ T => ?_
  refine r_ldB (ix := 4) T S rfl Tryd.isAgg24 rfl rfl rfl fun _ T => ?_
  refine r_pv T rfl rfl fun _ T => ?_
  replace S := S.dup (i := 7) rfl
  obtain ⟨x22, h21, H⟩ := bd H
  refine r_call T Tryd.call39 rfl rfl (slices_IndexFunc_cormorant_api_Index_at40.ok _ _ z x1.Indexes x8 (S.sel (p := [(y11 A6 k7 x1), blk b16 [.int .i64 x8]]) (is := [0, 3]) rfl) _ h21) ?_
  rintro _ _ ⟨rfl, S⟩
  refine ⟨_, rfl, fun _ T => ?_⟩
  replace S : SL ([blk b16 [.int .i64 x8], (y8 b19), blk b18 (y5 x14), blk b17 (y4 x13), blk b15 (y6 x1 A2 k3 A4 k5 A6 k7), (y10 A2 k3 x1), (y15 A4 k5 x1), (y11 A6 k7 x1), (y19 m12 A10 k11 x9)] ++ F) _ := S.join.only [1, 1, 1, 1, 1, 1, 1, 1, 1] rfl
  refine r_pv T rfl rfl fun _ T => ?_
  refine Gets.seq (Gets.seq ?_)
  refine rg ?_
  refine r_pv T rfl rfl fun _ T => ?_
  refine r_pv T rfl rfl fun _ T => ?_
  rcases ifE H with ⟨h23, H⟩ | ⟨h23, H⟩
  ·refine cdT T rfl h23 ?_
   refine Gets.seq ?_
   refine rg ?_
   refine r_build (cs := #[.slice none 0 0, .slice none 0 0]) T stt50 rfl rfl rfl fun _ T => ?_
   refine r_stBA (ix := 1) (vs := [.slice none 0 0, .slice none 0 0]) (l' := [blk b16 [.int .i64 x8], (y8 b19), blk b18 (y5 x14), blk b17 (y4 x13), blk b15 (y6 x1 A2 k3 A4 k5 A6 k7), (y10 A2 k3 x1), (y15 A4 k5 x1), (y11 A6 k7 x1), (y19 m12 A10 k11 x9)]) T S rfl rfl rfl rfl (by simp) Tryd.sizeOf50 (Nat.le_of_ble_eq_true rfl) rfl fun _ S => ?_
   refine r_pv T rfl rfl fun _ T => ?_
   replace S := S.nil ku8 .ro
   replace S := S.nil ku8 .ro
   replace H := Option.some.inj H
   subst H
   exact rtnM T S Tryd.func15 rfl ⟨_, _, rfl, ⟨b19, _, 3, rfl, rfl, .inl ⟨Tryd.isAgg50, Tryd.sizeOf50, rfl⟩⟩, ⟨_, _, rfl, rfl, rfl⟩⟩ ⟨none, 0, none, 0, rfl, (S.only (p := [sl .ro ku8 none 0 ([] : List Int), sl .ro ku8 none 0 ([] : List Int), (y10 A2 k3 x1), (y15 A4 k5 x1), (y11 A6 k7 x1), (y19 m12 A10 k11 x9)]) [1, 0, 5, 5, 5, 5] rfl)⟩
  ·refine cdF T rfl h23 ?_
   refine Gets.skip ?_
   refine rg ?_
   refine r_fa (o' := 4) T rfl Tryd.runUnderlying26 rfl Tryd.sizeOf24 rfl rfl fun _ T => ?_
   refine r_ldB (ix := 4) T S rfl Tryd.isAgg24 rfl rfl rfl fun _ T => ?_
   refine r_pv T rfl rfl fun _ T => ?_
   obtain ⟨h24, H⟩ := ck H
   refine r_ia (ix := 7) T S rfl rfl rfl rfl Tryd.runUnderlying24 Tryd.sizeOf46 h24.1 h24.2 rfl fun _ T => ?_
   refine r_faE T rfl Tryd.runUnderlying46 rfl Tryd.sizeOf23 rfl fun _ T => ?_
   refine r_ldR (ix := 7) (i := x22) (off := 2) T S rfl Tryd.isAgg23 rfl dapi_Index _ rfl rfl fld_api_Index_Columns h24.1 h24.2 rfl rfl fun _ _ S T => ?_
   obtain ⟨A25, k26, hv_, S_⟩ := S.ofVal
   subst hv_
   replace S := S_
   refine r_pv T rfl rfl fun _ T => ?_
   refine Gets.seq ?_
   exact J0_ok F r z x1 A2 k3 A4 k5 A6 k7 x9 A10 k11 m12 b15 b16 b17 b18 b19 x8 x13 x14 A25 ((gi dapi_Index x1.Indexes x22).Columns) k26 _ _ (T.sub ⟨rfl, rfl, rfl, rfl, rfl, rfl, rfl, trivial⟩) (S.only (p := [(y10 A2 k3 x1), (y15 A4 k5 x1), (y11 A6 k7 x1), (y19 m12 A10 k11 x9), blk b15 (y6 x1 A2 k3 A4 k5 A6 k7), blk b16 [.int .i64 x8], blk b17 (y4 x13), blk b18 (y5 x14), (y8 b19), sl .ro ki64 A25 k26 ((gi dapi_Index x1.Indexes x22).Columns)]) [6, 6, 6, 6, 5, 1, 3, 2, 1, 0] rfl) H
 ·refine cdF T rfl h20 ?_
  refine Gets.skip (Gets.seq ?_)
  replace S := S.dup (i := 6) rfl
  exact J0_ok F r z x1 A2 k3 A4 k5 A6 k7 x9 A10 k11 m12 b15 b16 b17 b18 b19 x8 x13 x14 A4 x1.Key k5 _ _ (T.sub ⟨rfl, rfl, rfl, rfl, rfl, rfl, rfl, trivial⟩) (S.only (p := [(y10 A2 k3 x1), (y15 A4 k5 x1), (y11 A6 k7 x1), (y19 m12 A10 k11 x9), blk b15 (y6 x1 A2 k3 A4 k5 A6 k7), blk b16 [.int .i64 x8], blk b17 (y4 x13), blk b18 (y5 x14), (y8 b19), (y15 A4 k5 x1)]) [6, 6, 6, 6, 5, 4, 3, 2, 1, 0] rfl) H
end rowkey_Part
end Go.Proofs.YtohelmfkpmphoaaDoor
namespace Go.Proofs.YtohelmfkpmphoaaDoor
open Go Go.Proofs.YtohelmfkpmphoaaDoor.X
set_option linter.unusedVariables false
set_option linter.unusedSimpArgs false
set_option maxRecDepth 100000
set_option maxHeartbeats 4000000
namespace rowkey_CatalogSpan
def R (F : List Atom) (r : api_Span) : Ending → World → Prop := fun e w' => ∃ (A4 : Option Addr), ∃ (k5 : Nat), ∃ (A6 : Option Addr), ∃ (k7 : Nat), e = .returned (.agg #[.slice A4 r.From.length k5, .slice A6 r.To.length k7]) ∧ SL ([sl .ro ku8 A4 k5 r.From, sl .ro ku8 A6 k7 r.To] ++ F) w'
def f : Option api_Span := some (api_Span.mk [1] [2])
abbrev y0 (b2 : Nat) (b3 : Nat) : List Value := [.slice (some ⟨b2, 0, none⟩) 1 1, .slice (some ⟨b3, 0, none⟩) 1 1]
theorem ok (F : List Atom) (w : World) (S : SL ([] ++ F) w) (r : api_Span) (H : f  = some r) : Calls Tryd.prog 16 #[] w (R F r) := by
 refine enter (vs := []) Tryd.func16 rfl Tryd.ntmps16 (Nat.le_of_ble_eq_true rfl) fun a T => ?_
 refine Gets.seq ?_
 refine rg ?_
 refine r_alloc T S zv50 (cs := [.slice none 0 0, .slice none 0 0]) rfl rfl fun _ _ b1 S T => ?_
 refine Gets.seq ?_
 refine rg ?_
 replace S := SL.val (κ := ku8) (x := 1) (cs := [.int .u8 1]) (fun _ => rfl) S
 refine r_bsl (κ := ku8) (xs := [1]) (vs := [.int .u8 1]) T S sty29 rfl ⟨_, _, rfl, ⟨0, rfl⟩, rfl⟩ rfl (by decide) rfl fun _ _ b2 S T => ?_
 replace S : SL ([sl .own ku8 (some ⟨b2, 0, none⟩) 1 [1], blk b1 [.slice none 0 0, .slice none 0 0]] ++ F) _ := S.only [0, 1] rfl
 replace S := SL.val (κ := ku8) (x := 2) (cs := [.int .u8 2]) (fun _ => rfl) S
 refine r_bsl (κ := ku8) (xs := [2]) (vs := [.int .u8 2]) T S sty29 rfl ⟨_, _, rfl, ⟨0, rfl⟩, rfl⟩ rfl (by decide) rfl fun _ _ b3 S T => ?_
 replace S : SL ([sl .own ku8 (some ⟨b3, 0, none⟩) 1 [2], sl .own ku8 (some ⟨b2, 0, none⟩) 1 [1], blk b1 [.slice none 0 0, .slice none 0 0]] ++ F) _ := S.only [0, 1, 1] rfl
 refine r_build (cs := #[.slice (some ⟨b2, 0, none⟩) 1 1, .slice (some ⟨b3, 0, none⟩) 1 1]) T stt50 rfl rfl rfl fun _ T => ?_
 refine r_stBA (ix := 2) (vs := (y0 b2 b3)) (l' := [sl .own ku8 (some ⟨b3, 0, none⟩) 1 [2], sl .own ku8 (some ⟨b2, 0, none⟩) 1 [1], blk b1 (y0 b2 b3)]) T S rfl rfl rfl rfl (by simp) Tryd.sizeOf50 (Nat.le_of_ble_eq_true rfl) rfl fun _ S => ?_
 replace S : SL ([sl .own ku8 (some ⟨b3, 0, none⟩) 1 [2], sl .ro ku8 (some ⟨b2, 0, none⟩) 1 [1], blk b1 (y0 b2 b3)] ++ F) _ := S.fixL (i := 1) rfl rfl
 replace S : SL ([sl .ro ku8 (some ⟨b3, 0, none⟩) 1 [2], sl .ro ku8 (some ⟨b2, 0, none⟩) 1 [1], blk b1 (y0 b2 b3)] ++ F) _ := S.fixL (i := 0) rfl rfl
 replace H := Option.some.inj H
 subst H
 exact rtnM T S Tryd.func16 rfl ⟨_, _, rfl, ⟨b1, _, 2, rfl, rfl, .inl ⟨Tryd.isAgg50, Tryd.sizeOf50, rfl⟩⟩, rfl⟩ ⟨(some ⟨b2, 0, none⟩), 1, (some ⟨b3, 0, none⟩), 1, rfl, (S.only (p := [sl .ro ku8 (some ⟨b2, 0, none⟩) 1 [1], sl .ro ku8 (some ⟨b3, 0, none⟩) 1 [2]]) [1, 0] rfl)⟩
end rowkey_CatalogSpan
end Go.Proofs.YtohelmfkpmphoaaDoor
namespace Go.Proofs.YtohelmfkpmphoaaDoor
open Go Go.Proofs.YtohelmfkpmphoaaDoor.X
set_option linter.unusedVariables false
set_option linter.unusedSimpArgs false
set_option maxRecDepth 100000
set_option maxHeartbeats 4000000
namespace cormorantlaw20_shown
noncomputable def c0 : Code := match Tryd.f5.body with | some c => c | none => .skip
def R (F : List Atom) (r : Bool) : Ending → World → Prop := fun e w' => e = .returned (.bool r) ∧ SL ([] ++ F) w'
def J2 (z : Nat) (x56 : Bool) : Option Bool := some x56
def J1 (z : Nat) (x2 : api_Table) (x4282 : api_KV × Int) : Option Bool := Ck (0 < (x2.Indexes.length : Int)) (Bd (rowkey_TakeEntry.f z x2 (gi dapi_Index x2.Indexes 0) x4282.1) fun x5062 => Bd (rowkey_Part.f z x2 1 ([] : List api_Value) (api_Limit.mk true true (api_Value.mk 1 false 3 (⟨#[]⟩ : ByteArray))) (api_Limit.mk false false (api_Value.mk 0 false 0 (⟨#[]⟩ : ByteArray)))) fun x29 => Bd (rowkey_CatalogSpan.f) fun x36 => If (x4282.2 == 0) (If (x5062.2.2 == 0) (If ((x5062.1.length : Int) == 1) (Ck (0 < (x5062.1.length : Int)) (If ((gi dapi_Value x5062.1 0).Null) (If ((x5062.2.1.length : Int) == 1) (Ck (0 < (x5062.2.1.length : Int)) (If (((gi dapi_Value x5062.2.1 0).Int) == 5) (If (x29.2 == 0) (If ((x29.1.From.length : Int) == 27) (Ck (26 < (x29.1.From.length : Int)) (If ((gi (0 : Int) x29.1.From 26) == 3) (If ((x29.1.To.length : Int) == 18) (If ((bstr x36.From).toList == (⟨#[1]⟩ : ByteArray).toList) (J2 z ((bstr x36.To).toList == (⟨#[2]⟩ : ByteArray).toList)) (J2 z false)) (J2 z false)) (J2 z false))) (J2 z false)) (J2 z false)) (J2 z false))) (J2 z false)) (J2 z false))) (J2 z false)) (J2 z false)) (J2 z false))
def J0 (z : Nat) : Option Bool := some false
def f (z : Nat) : Option Bool := Bd (cormorantlaw20_made.f) fun x2 => Bd (rowkey_Row.f z x2 [(api_Value.mk 1 false 5 (⟨#[]⟩ : ByteArray)), (api_Value.mk 3 false 0 (⟨#[120]⟩ : ByteArray))]) fun x12 => Bd (rowkey_TakeRow.f z x2 x12.1) fun x19 => If (x12.2 != 0) (J0 z) (If (x19.2 != 0) (J0 z) (If ((x12.1.Key.length : Int) != 26) (J0 z) (If (!((bstr x12.1.Value).toList == (⟨#[1, 1, 120]⟩ : ByteArray).toList)) (J0 z) (If ((x19.1.length : Int) != 2) (J0 z) (Ck (1 < (x19.1.length : Int)) (Ck (1 < ([(api_Value.mk 1 false 5 (⟨#[]⟩ : ByteArray)), (api_Value.mk 3 false 0 (⟨#[120]⟩ : ByteArray))].length : Int)) (If (!(eqapi_Value (gi dapi_Value x19.1 1) (gi dapi_Value [(api_Value.mk 1 false 5 (⟨#[]⟩ : ByteArray)), (api_Value.mk 3 false 0 (⟨#[120]⟩ : ByteArray))] 1))) (J0 z) (Ck (0 < (x2.Indexes.length : Int)) (Bd (rowkey_Entry.f z x2 (gi dapi_Index x2.Indexes 0) ([(api_Value.mk 1 false 5 (⟨#[]⟩ : ByteArray)), (api_Value.mk 3 false 0 (⟨#[120]⟩ : ByteArray))].set (Int.toNat 1) (api_Value.mk 3 true 0 (⟨#[]⟩ : ByteArray)))) fun x4282 => J1 z x2 x4282)))))))))
noncomputable def ptJ2 : List Item := [.code (cR (cR (cR (cR (cR (cR (cR (cR (cR (cR (cR (cR c0))))))))))))]
noncomputable def ptJ1 : List Item := [.code (cL (cR (cR (cR (cR (cR (cR (cR (cR c0))))))))), .code (cR (cR (cR (cR (cR (cR (cR (cR (cR c0)))))))))]
noncomputable def ptJ0 : List Item := [.code (cL (cT (cR (cL (cR (cR (cR (cR (cR c0))))))))), .code (cR (cT (cR (cL (cR (cR (cR (cR (cR c0))))))))), .code (cR (cR (cR (cR (cR (cR c0))))))]
abbrev y0 (x2 : api_Table) (A3 : Option Addr) (k4 : Nat) (A5 : Option Addr) (k6 : Nat) (A7 : Option Addr) (k8 : Nat) : List Value := [.int .i64 x2.Id, .string x2.Name, .slice A3 x2.Columns.length k4, .slice A5 x2.Key.length k6, .slice A7 x2.Indexes.length k8]
abbrev y1 (b10 : Nat) : Atom := sl .own kapi_Value (some ⟨b10, 0, none⟩) 2 ([(api_Value.mk 1 false 5 (⟨#[]⟩ : ByteArray)), (api_Value.mk 3 false 0 (⟨#[120]⟩ : ByteArray))].set (Int.toNat 1) (api_Value.mk 3 true 0 (⟨#[]⟩ : ByteArray)))
abbrev y2 (A20 : Option Addr) (k21 : Nat) (x19 : (List api_Value) × Int) (A3 : Option Addr) (k4 : Nat) (x2 : api_Table) (A5 : Option Addr) (k6 : Nat) (A7 : Option Addr) (k8 : Nat) (A13 : Option Addr) (k14 : Nat) (x12 : api_KV × Int) (A15 : Option Addr) (k16 : Nat) (b17 : Nat) (b10 : Nat) (b9 : Nat) : List Atom := [sl .own kapi_Value A20 k21 x19.1, sl .ro kapi_Column A3 k4 x2.Columns, sl .ro ki64 A5 k6 x2.Key, sl .ro kapi_Index A7 k8 x2.Indexes, sl .ro ku8 A13 k14 x12.1.Key, sl .ro ku8 A15 k16 x12.1.Value, blk b17 [.slice A13 x12.1.Key.length k14, .slice A15 x12.1.Value.length k16], sl .own kapi_Value (some ⟨b10, 0, none⟩) 2 [(api_Value.mk 1 false 5 (⟨#[]⟩ : ByteArray)), (api_Value.mk 3 false 0 (⟨#[120]⟩ : ByteArray))], blk b9 (y0 x2 A3 k4 A5 k6 A7 k8)]
abbrev y3 (A7 : Option Addr) (x2 : api_Table) (A4161 : Option Addr) (k4162 : Nat) : Atom := cl A7 (Int.toNat 0 * 4) [.int .i64 ((gi dapi_Index x2.Indexes 0).Id), .string ((gi dapi_Index x2.Indexes 0).Name), .slice A4161 (((gi dapi_Index x2.Indexes 0).Columns).length) k4162, .bool ((gi dapi_Index x2.Indexes 0).Unique)]
abbrev y4 (A7 : Option Addr) (x2 : api_Table) (A4941 : Option Addr) (k4942 : Nat) : Atom := cl A7 (Int.toNat 0 * 4) [.int .i64 ((gi dapi_Index x2.Indexes 0).Id), .string ((gi dapi_Index x2.Indexes 0).Name), .slice A4941 (((gi dapi_Index x2.Indexes 0).Columns).length) k4942, .bool ((gi dapi_Index x2.Indexes 0).Unique)]
abbrev y5 (x2 : api_Table) (A4161 : Option Addr) (k4162 : Nat) : Value := .agg #[.int .i64 ((gi dapi_Index x2.Indexes 0).Id), .string ((gi dapi_Index x2.Indexes 0).Name), .slice A4161 (((gi dapi_Index x2.Indexes 0).Columns).length) k4162, .bool ((gi dapi_Index x2.Indexes 0).Unique)]
abbrev y6 : api_Value := (api_Value.mk 3 false 0 (⟨#[120]⟩ : ByteArray))
abbrev y7 : api_Value := (api_Value.mk 1 false 5 (⟨#[]⟩ : ByteArray))
abbrev y8 (x2 : api_Table) (A3 : Option Addr) (k4 : Nat) (A5 : Option Addr) (k6 : Nat) (A7 : Option Addr) (k8 : Nat) : Value := .agg #[.int .i64 x2.Id, .string x2.Name, .slice A3 x2.Columns.length k4, .slice A5 x2.Key.length k6, .slice A7 x2.Indexes.length k8]
abbrev y9 (A4283 : Option Addr) (x4282 : api_KV × Int) (k4284 : Nat) (A4285 : Option Addr) (k4286 : Nat) : Value := .agg #[.slice A4283 x4282.1.Key.length k4284, .slice A4285 x4282.1.Value.length k4286]
abbrev y10 (A3 : Option Addr) (k4 : Nat) (x2 : api_Table) : Atom := sl .ro kapi_Column A3 k4 x2.Columns
abbrev y11 (A7 : Option Addr) (k8 : Nat) (x2 : api_Table) : Atom := sl .ro kapi_Index A7 k8 x2.Indexes
abbrev y12 (x12 : api_KV × Int) : Option (Value × Bool) := some (.bool (!((bstr x12.1.Value).toList == (⟨#[1, 1, 120]⟩ : ByteArray).toList)), true)
abbrev y13 (A4283 : Option Addr) (x4282 : api_KV × Int) (k4284 : Nat) (A4285 : Option Addr) (k4286 : Nat) : List Value := [.slice A4283 x4282.1.Key.length k4284, .slice A4285 x4282.1.Value.length k4286]
abbrev y14 (A13 : Option Addr) (x12 : api_KV × Int) (k14 : Nat) (A15 : Option Addr) (k16 : Nat) : List Value := [.slice A13 x12.1.Key.length k14, .slice A15 x12.1.Value.length k16]
abbrev y15 (A4161 : Option Addr) (k4162 : Nat) (x2 : api_Table) : Atom := sl .ro ki64 A4161 k4162 ((gi dapi_Index x2.Indexes 0).Columns)
abbrev y16 (x12 : api_KV × Int) : Option (Value × Bool) := some (.bool ((x12.1.Key.length : Int) != 26), true)
abbrev y17 (b10 : Nat) : Value := .slice (some ⟨b10, 0, none⟩) 2 2
abbrev y18 (A5 : Option Addr) (k6 : Nat) (x2 : api_Table) : Atom := sl .ro ki64 A5 k6 x2.Key
abbrev y19 (x19 : (List api_Value) × Int) : Option (Value × Bool) := some (.bool (x19.2 != 0), true)
abbrev y20 (b9 : Nat) : Nat × Value := (1, .pointer (some ⟨b9, 0, none⟩))
abbrev y21 (A7 : Option Addr) : Value := .pointer (some (eA A7 (Int.toNat 0 * 4)))
abbrev y22 : Value := .string (⟨#[]⟩ : ByteArray)
abbrev y23 (A4941 : Option Addr) (k4942 : Nat) (x2 : api_Table) : Atom := sl .ro ki64 A4941 k4942 ((gi dapi_Index x2.Indexes 0).Columns)
abbrev y24 : List Value := [.slice none 0 0, .slice none 0 0]
abbrev y25 (x12 : api_KV × Int) : Option (Value × Bool) := some (.bool (x12.2 != 0), true)
abbrev y26 (b9 : Nat) : Option (Value × Bool) := some (.pointer (some ⟨b9, 4, none⟩), true)
abbrev y27 (A4285 : Option Addr) (k4286 : Nat) (x4282 : api_KV × Int) : Atom := sl .ro ku8 A4285 k4286 x4282.1.Value
abbrev y28 : Atom := sl .ro kapi_Value none 0 ([] : List api_Value)
abbrev y29 (b4521 : Nat) : Value := .pointer (some ⟨b4521, 0, none⟩)
theorem J2_ok (F : List Atom) (r : Bool) (z : Nat) (x56 : Bool) (a : Act) (w : World) (T : Tm 160 [(0, .bool x56)] a) (S : SL ([] ++ F) w) (H : J2 z x56 = some r) : Gets Tryd.prog 5 ptJ2 a w (R F r) := by
 replace H := Option.some.inj H
 subst H
 exact rtn T Tryd.func5 rfl rfl ⟨rfl, (S.only (p := []) [] rfl)⟩
theorem J1_ok (F : List Atom) (r : Bool) (z : Nat) (b9 : Nat) (b4521 : Nat) (x4282 : api_KV × Int) (x2 : api_Table) (A3 : Option Addr) (k4 : Nat) (A5 : Option Addr) (k6 : Nat) (A7 : Option Addr) (k8 : Nat) (A4283 : Option Addr) (k4284 : Nat) (A4285 : Option Addr) (k4286 : Nat) (a : Act) (w : World) (T : Tm 160 [(y20 b9), (7, (y29 b4521)), (8, .int .i64 x4282.2)] a) (S : SL ([blk b9 (y0 x2 A3 k4 A5 k6 A7 k8), (y10 A3 k4 x2), (y18 A5 k6 x2), (y11 A7 k8 x2), blk b4521 (y13 A4283 x4282 k4284 A4285 k4286), sl .ro ku8 A4283 k4284 x4282.1.Key, (y27 A4285 k4286 x4282)] ++ F) w) (H : J1 z x2 x4282 = some r) : Gets Tryd.prog 5 ptJ1 a w (R F r) := by
 obtain ⟨h4881, H⟩ := ck H
 obtain ⟨_, S⟩ := S.peek (ix := 3) (off := 0) (i := 0) rfl dapi_Index (Fld.all _) (by decide) h4881
 obtain ⟨A4941, k4942, hv_, S_⟩ := op_api_Index (l := _ :: _) S
 subst hv_
 replace S := S_
 refine Gets.drawn (l := [(y23 A4941 k4942 x2), (y4 A7 x2 A4941 k4942), blk b9 (y0 x2 A3 k4 A5 k6 A7 k8), (y10 A3 k4 x2), (y18 A5 k6 x2), (y11 A7 k8 x2), blk b4521 (y13 A4283 x4282 k4284 A4285 k4286), sl .ro ku8 A4283 k4284 x4282.1.Key, (y27 A4285 k4286 x4282)]) (V := [some ((y8 x2 A3 k4 A5 k6 A7 k8), true), (y26 b9), some (.slice A7 x2.Indexes.length k8, true), some ((y21 A7), true), some (.agg #[.int .i64 ((gi dapi_Index x2.Indexes 0).Id), .string ((gi dapi_Index x2.Indexes 0).Name), .slice A4941 (((gi dapi_Index x2.Indexes 0).Columns).length) k4942, .bool ((gi dapi_Index x2.Indexes 0).Unique)], true), some ((y9 A4283 x4282 k4284 A4285 k4286), true), none, none, none, none, none, none, none, none]) mixed T S rfl ?_
 refine stage (some 6) rfl rfl ⟨⟨_, [(1, _)], rfl, ⟨.inr ⟨rfl, rfl⟩, trivial⟩, fun _ _ _ T S => r_ldBA (ix := 2) (ds := (y0 x2 A3 k4 A5 k6 A7 k8)) T S rfl Tryd.isAgg26 rfl rfl Tryd.sizeOf26 rfl fun _ T => ⟨rfl, T⟩⟩, ⟨_, [(1, _)], rfl, ⟨.inr ⟨rfl, rfl⟩, trivial⟩, fun _ _ _ T S => r_fa (o' := 4) T rfl Tryd.runUnderlying26 rfl Tryd.sizeOf24 rfl rfl fun _ T => ⟨rfl, T⟩⟩, ⟨_, [(78, _)], rfl, ⟨.inl ⟨1, rfl, rfl, rfl, rfl⟩, trivial⟩, fun _ _ _ T S => r_ldB (ix := 2) T S rfl Tryd.isAgg24 rfl rfl rfl fun _ T => ⟨rfl, T⟩⟩, ⟨_, [(79, _)], rfl, ⟨.inl ⟨2, rfl, rfl, rfl, rfl⟩, trivial⟩, fun _ _ _ T S => r_ia (ix := 5) T S rfl rfl rfl rfl Tryd.runUnderlying24 Tryd.sizeOf46 (by decide) h4881 rfl fun _ T => ⟨rfl, T⟩⟩, ⟨_, [(80, _)], rfl, ⟨.inl ⟨3, rfl, rfl, rfl, rfl⟩, trivial⟩, fun _ _ _ T S => r_ldCA (ix := 1) (A := A7) T S rfl rfl rfl Tryd.isAgg46 Tryd.sizeOf46 rfl fun _ T => ⟨rfl, T⟩⟩, ⟨_, [(7, _)], rfl, ⟨.inr ⟨rfl, rfl⟩, trivial⟩, fun _ _ _ T S => r_ldBA (ix := 6) (ds := (y13 A4283 x4282 k4284 A4285 k4286)) T S rfl Tryd.isAgg31 rfl rfl Tryd.sizeOf31 rfl fun _ T => ⟨rfl, T⟩⟩, trivial⟩ rfl (fun i hi => ?_) (fun h => by cases h)
 cases hi
 refine ⟨rfl, _, [(77, _), (81, _), (82, _)], rfl, ⟨.inl ⟨0, rfl, rfl, rfl, rfl⟩, .inl ⟨4, rfl, rfl, rfl, rfl⟩, .inl ⟨5, rfl, rfl, rfl, rfl⟩, trivial⟩, fun u a w T S => ?_⟩
 obtain ⟨x5062, h5061, H⟩ := bd H
 refine r_call T Tryd.call14 rfl rfl (rowkey_TakeEntry.ok _ _ z x2 (gi dapi_Index x2.Indexes 0) x4282.1 (S.sel (p := [(y10 A3 k4 x2), (y18 A5 k6 x2), (y11 A7 k8 x2), (y23 A4941 k4942 x2), sl .ro ku8 A4283 k4284 x4282.1.Key, (y27 A4285 k4286 x4282)]) (is := [3, 3, 3, 0, 3, 3]) rfl) _ h5061) ?_
 rintro _ _ ⟨A5063, k5064, A5065, k5066, rfl, S⟩
 refine ⟨_, rfl, fun _ T => ?_⟩
 replace S : SL ([sl .own kapi_Value A5063 k5064 x5062.1, sl .own kapi_Value A5065 k5066 x5062.2.1, (y10 A3 k4 x2), (y18 A5 k6 x2), (y11 A7 k8 x2), (y23 A4941 k4942 x2), sl .ro ku8 A4283 k4284 x4282.1.Key, (y27 A4285 k4286 x4282), (y4 A7 x2 A4941 k4942), blk b9 (y0 x2 A3 k4 A5 k6 A7 k8), blk b4521 (y13 A4283 x4282 k4284 A4285 k4286)] ++ F) _ := S.join
 refine ⟨_, [some ((y8 x2 A3 k4 A5 k6 A7 k8), false), (y26 b9), some (.slice A7 x2.Indexes.length k8, true), some ((y21 A7), true), some (.agg #[.int .i64 ((gi dapi_Index x2.Indexes 0).Id), .string ((gi dapi_Index x2.Indexes 0).Name), .slice A4941 (((gi dapi_Index x2.Indexes 0).Columns).length) k4942, .bool ((gi dapi_Index x2.Indexes 0).Unique)], false), some ((y9 A4283 x4282 k4284 A4285 k4286), false), some (.tuple #[.slice A5063 x5062.1.length k5064, .slice A5065 x5062.2.1.length k5066, .int .i64 x5062.2.2], false), some (.tuple #[.slice A5063 x5062.1.length k5064, .slice A5065 x5062.2.1.length k5066, .int .i64 x5062.2.2], true), some (.slice A5063 x5062.1.length k5064, true), some (.slice A5065 x5062.2.1.length k5066, true), some (.int .i64 x5062.2.2, true), some (.slice A5063 x5062.1.length k5064, true), some (.slice A5065 x5062.2.1.length k5066, true), some (.int .i64 x5062.2.2, true)], [sl .own kapi_Value A5063 k5064 x5062.1, sl .own kapi_Value A5065 k5066 x5062.2.1, (y10 A3 k4 x2), (y18 A5 k6 x2), (y11 A7 k8 x2), (y23 A4941 k4942 x2), sl .ro ku8 A4283 k4284 x4282.1.Key, (y27 A4285 k4286 x4282), (y4 A7 x2 A4941 k4942), blk b9 (y0 x2 A3 k4 A5 k6 A7 k8), blk b4521 (y13 A4283 x4282 k4284 A4285 k4286)], rfl, (by repeat first | exact kx0 | apply kxs | apply kxn), rfl, ?_, T, S⟩
 refine stage none rfl rfl ⟨⟨_, [(1, _)], rfl, ⟨.inr ⟨rfl, rfl⟩, trivial⟩, fun _ _ _ T S => r_fa (o' := 4) T rfl Tryd.runUnderlying26 rfl Tryd.sizeOf24 rfl rfl fun _ T => ⟨rfl, T⟩⟩, ⟨_, [(78, _)], rfl, ⟨.inl ⟨1, rfl, rfl, rfl, rfl⟩, trivial⟩, fun _ _ _ T S => r_ldB (ix := 9) T S rfl Tryd.isAgg24 rfl rfl rfl fun _ T => ⟨rfl, T⟩⟩, ⟨_, [(79, _)], rfl, ⟨.inl ⟨2, rfl, rfl, rfl, rfl⟩, trivial⟩, fun _ _ _ T S => r_ia (ix := 4) T S rfl rfl rfl rfl Tryd.runUnderlying24 Tryd.sizeOf46 (by decide) h4881 rfl fun _ T => ⟨rfl, T⟩⟩, ⟨_, [(83, _)], rfl, ⟨.inl ⟨6, rfl, rfl, rfl, rfl⟩, trivial⟩, fun _ _ _ T S => r_pv T rfl rfl fun _ T => ⟨rfl, T⟩⟩, ⟨_, [(76, _)], rfl, ⟨.inl ⟨7, rfl, rfl, rfl, rfl⟩, trivial⟩, fun _ _ _ T S => r_pv T rfl rfl fun _ T => ⟨rfl, T⟩⟩, ⟨_, [(76, _)], rfl, ⟨.inl ⟨7, rfl, rfl, rfl, rfl⟩, trivial⟩, fun _ _ _ T S => r_pv T rfl rfl fun _ T => ⟨rfl, T⟩⟩, ⟨_, [(76, _)], rfl, ⟨.inl ⟨7, rfl, rfl, rfl, rfl⟩, trivial⟩, fun _ _ _ T S => r_pv T rfl rfl fun _ T => ⟨rfl, T⟩⟩, ⟨_, [(84, _)], rfl, ⟨.inl ⟨8, rfl, rfl, rfl, rfl⟩, trivial⟩, fun _ _ _ T S => r_pv T rfl rfl fun _ T => ⟨rfl, T⟩⟩, ⟨_, [(85, _)], rfl, ⟨.inl ⟨9, rfl, rfl, rfl, rfl⟩, trivial⟩, fun _ _ _ T S => r_pv T rfl rfl fun _ T => ⟨rfl, T⟩⟩, ⟨_, [(86, _)], rfl, ⟨.inl ⟨10, rfl, rfl, rfl, rfl⟩, trivial⟩, fun _ _ _ T S => r_pv T rfl rfl fun _ T => ⟨rfl, T⟩⟩, trivial⟩ rfl (fun i hi => by cases hi) (fun _ _ a w T hv hb S => ?_)
 replace T := T.sub (r := [(y20 b9), (8, .int .i64 x4282.2), (9, .slice A5063 x5062.1.length k5064), (10, .slice A5065 x5062.2.1.length k5066), (11, .int .i64 x5062.2.2)]) ⟨hb 1 _ rfl rfl, hb 8 _ rfl rfl, hv 11 _ 9 rfl rfl rfl, hv 12 _ 10 rfl rfl rfl, hv 13 _ 11 rfl rfl rfl, trivial⟩
 refine Gets.seq ?_
 refine rg ?_
 refine r_ldBA (ix := 9) (ds := (y0 x2 A3 k4 A5 k6 A7 k8)) T S rfl Tryd.isAgg26 rfl rfl Tryd.sizeOf26 rfl fun _ T => ?_
 refine r_build (cs := #[.int .i64 1, .bool false, .int .i64 3, (y22)]) T stt43 rfl rfl rfl fun _ T => ?_
 refine r_build (cs := #[.bool true, .bool true, .int .i64 1, .bool false, .int .i64 3, (y22)]) T stt54 rfl rfl rfl fun _ T => ?_
 refine r_build (cs := #[.bool false, .bool false, .int .i64 0, .bool false, .int .i64 0, (y22)]) T stt54 rfl rfl rfl fun _ T => ?_
 replace S := S.nil kapi_Value .ro
 obtain ⟨x29, h28, H⟩ := bd H
 refine r_call T Tryd.call15 rfl rfl (rowkey_Part.ok _ _ z x2 1 ([] : List api_Value) (api_Limit.mk true true (api_Value.mk 1 false 3 (⟨#[]⟩ : ByteArray))) (api_Limit.mk false false (api_Value.mk 0 false 0 (⟨#[]⟩ : ByteArray))) (S.sel (p := [(y10 A3 k4 x2), (y18 A5 k6 x2), (y11 A7 k8 x2), (y28)]) (is := [3, 3, 3, 0]) rfl) _ h28) ?_
 rintro _ _ ⟨A30, k31, A32, k33, rfl, S⟩
 refine ⟨_, rfl, fun _ T => ?_⟩
 replace S : SL ([sl .ro ku8 A30 k31 x29.1.From, sl .ro ku8 A32 k33 x29.1.To, (y10 A3 k4 x2), (y18 A5 k6 x2), (y11 A7 k8 x2), (y28), sl .own kapi_Value A5063 k5064 x5062.1, sl .own kapi_Value A5065 k5066 x5062.2.1, (y23 A4941 k4942 x2), sl .ro ku8 A4283 k4284 x4282.1.Key, (y27 A4285 k4286 x4282), (y4 A7 x2 A4941 k4942), blk b9 (y0 x2 A3 k4 A5 k6 A7 k8), blk b4521 (y13 A4283 x4282 k4284 A4285 k4286)] ++ F) _ := S.join
 refine r_pv T rfl rfl fun _ T => ?_
 refine r_pv T rfl rfl fun _ T => ?_
 refine r_pv T rfl rfl fun _ T => ?_
 refine r_alloc T S zv50 (cs := (y24)) rfl rfl fun _ _ b34 S T => ?_
 refine r_stBA (ix := 0) (vs := [.slice A30 x29.1.From.length k31, .slice A32 x29.1.To.length k33]) (l' := [blk b34 [.slice A30 x29.1.From.length k31, .slice A32 x29.1.To.length k33], sl .ro ku8 A30 k31 x29.1.From, sl .ro ku8 A32 k33 x29.1.To, (y10 A3 k4 x2), (y18 A5 k6 x2), (y11 A7 k8 x2), (y28), sl .own kapi_Value A5063 k5064 x5062.1, sl .own kapi_Value A5065 k5066 x5062.2.1, (y23 A4941 k4942 x2), sl .ro ku8 A4283 k4284 x4282.1.Key, (y27 A4285 k4286 x4282), (y4 A7 x2 A4941 k4942), blk b9 (y0 x2 A3 k4 A5 k6 A7 k8), blk b4521 (y13 A4283 x4282 k4284 A4285 k4286)]) T S rfl rfl rfl rfl (by simp) Tryd.sizeOf50 (Nat.le_of_ble_eq_true rfl) rfl fun _ S => ?_
 refine r_pv T rfl rfl fun _ T => ?_
 refine Gets.seq ?_
 refine rg ?_
 obtain ⟨x36, h35, H⟩ := bd H
 refine r_call T Tryd.call16 rfl rfl (rowkey_CatalogSpan.ok _ _  (S.sel (p := []) (is := []) rfl) _ h35) ?_
 rintro _ _ ⟨A37, k38, A39, k40, rfl, S⟩
 refine ⟨_, rfl, fun _ T => ?_⟩
 replace S : SL ([sl .ro ku8 A37 k38 x36.From, sl .ro ku8 A39 k40 x36.To, blk b34 [.slice A30 x29.1.From.length k31, .slice A32 x29.1.To.length k33], sl .ro ku8 A30 k31 x29.1.From, sl .ro ku8 A32 k33 x29.1.To, (y10 A3 k4 x2), (y18 A5 k6 x2), (y11 A7 k8 x2), (y28), sl .own kapi_Value A5063 k5064 x5062.1, sl .own kapi_Value A5065 k5066 x5062.2.1, (y23 A4941 k4942 x2), sl .ro ku8 A4283 k4284 x4282.1.Key, (y27 A4285 k4286 x4282), (y4 A7 x2 A4941 k4942), blk b9 (y0 x2 A3 k4 A5 k6 A7 k8), blk b4521 (y13 A4283 x4282 k4284 A4285 k4286)] ++ F) _ := S.join
 refine r_alloc T S zv50 (cs := (y24)) rfl rfl fun _ _ b41 S T => ?_
 refine r_stBA (ix := 0) (vs := [.slice A37 x36.From.length k38, .slice A39 x36.To.length k40]) (l' := [blk b41 [.slice A37 x36.From.length k38, .slice A39 x36.To.length k40], sl .ro ku8 A37 k38 x36.From, sl .ro ku8 A39 k40 x36.To, blk b34 [.slice A30 x29.1.From.length k31, .slice A32 x29.1.To.length k33], sl .ro ku8 A30 k31 x29.1.From, sl .ro ku8 A32 k33 x29.1.To, (y10 A3 k4 x2), (y18 A5 k6 x2), (y11 A7 k8 x2), (y28), sl .own kapi_Value A5063 k5064 x5062.1, sl .own kapi_Value A5065 k5066 x5062.2.1, (y23 A4941 k4942 x2), sl .ro ku8 A4283 k4284 x4282.1.Key, (y27 A4285 k4286 x4282), (y4 A7 x2 A4941 k4942), blk b9 (y0 x2 A3 k4 A5 k6 A7 k8), blk b4521 (y13 A4283 x4282 k4284 A4285 k4286)]) T S rfl rfl rfl rfl (by simp) Tryd.sizeOf50 (Nat.le_of_ble_eq_true rfl) rfl fun _ S => ?_
 refine Gets.seq ?_
 refine rg ?_
 refine r_pv T rfl rfl fun _ T => ?_
 refine r_pv T rfl rfl fun _ T => ?_
 refine r_pv T rfl rfl fun _ T => ?_
 rcases ifE H with ⟨h42, H⟩ | ⟨h42, H⟩
 ·refine g_yes T rfl rfl h42 ?_
  refine r_pv T rfl rfl fun _ T => ?_
  refine g_yes T rfl rfl h42 ?_
  refine r_pv T rfl rfl fun _ T => ?_
  refine r_pickT T rfl h42 rfl rfl fun _ T => ?_
  refine r_pv T rfl rfl fun _ T => ?_
  rcases ifE H with ⟨h43, H⟩ | ⟨h43, H⟩
  ·refine g_yes T rfl rfl h43 ?_
   refine r_pv T rfl rfl fun _ T => ?_
   refine g_yes T rfl rfl h43 ?_
   refine r_lenS T rfl Tryd.runUnderlying27 rfl fun _ T => ?_
   refine g_yes T rfl rfl h43 ?_
   refine r_pv T rfl rfl fun _ T => ?_
   refine r_pickT T rfl h43 rfl rfl fun _ T => ?_
   refine r_pv T rfl rfl fun _ T => ?_
   rcases ifE H with ⟨h44, H⟩ | ⟨h44, H⟩
   ·refine g_yes T rfl rfl h44 ?_
    refine r_pv T rfl rfl fun _ T => ?_
    refine g_yes T rfl rfl h44 ?_
    obtain ⟨h45, H⟩ := ck H
    refine r_ia (ix := 10) T S rfl rfl rfl rfl Tryd.runUnderlying27 Tryd.sizeOf43 (by decide) h45 rfl fun _ T => ?_
    refine g_yes T rfl rfl h44 ?_
    refine r_faE T rfl Tryd.runUnderlying43 rfl Tryd.sizeOf4 rfl fun _ T => ?_
    refine g_yes T rfl rfl h44 ?_
    refine r_ldE (ix := 10) (i := 0) (off := 1) (f := Value.bool) T S rfl Tryd.isAgg4 rfl dapi_Value _ rfl rfl fld_api_Value_Null (by decide) h45 (fun h => h) rfl fun _ T => ?_
    refine r_pickT T rfl h44 rfl rfl fun _ T => ?_
    refine r_pv T rfl rfl fun _ T => ?_
    rcases ifE H with ⟨h46, H⟩ | ⟨h46, H⟩
    ·refine g_yes T rfl rfl h46 ?_
     refine r_pv T rfl rfl fun _ T => ?_
     refine g_yes T rfl rfl h46 ?_
     refine r_lenS T rfl Tryd.runUnderlying27 rfl fun _ T => ?_
     refine g_yes T rfl rfl h46 ?_
     refine r_pv T rfl rfl fun _ T => ?_
     refine r_pickT T rfl h46 rfl rfl fun _ T => ?_
     refine r_pv T rfl rfl fun _ T => ?_
     rcases ifE H with ⟨h47, H⟩ | ⟨h47, H⟩
     ·refine g_yes T rfl rfl h47 ?_
      refine r_pv T rfl rfl fun _ T => ?_
      refine g_yes T rfl rfl h47 ?_
      obtain ⟨h48, H⟩ := ck H
      refine r_ia (ix := 11) T S rfl rfl rfl rfl Tryd.runUnderlying27 Tryd.sizeOf43 (by decide) h48 rfl fun _ T => ?_
      refine g_yes T rfl rfl h47 ?_
      refine r_faE T rfl Tryd.runUnderlying43 rfl Tryd.sizeOf2 rfl fun _ T => ?_
      refine g_yes T rfl rfl h47 ?_
      refine r_ldE (ix := 11) (i := 0) (off := 2) (f := (Value.int .i64)) T S rfl Tryd.isAgg2 rfl dapi_Value _ rfl rfl fld_api_Value_Int (by decide) h48 (fun h => h) rfl fun _ T => ?_
      refine g_yes T rfl rfl h47 ?_
      refine r_pv T rfl rfl fun _ T => ?_
      refine r_pickT T rfl h47 rfl rfl fun _ T => ?_
      refine r_pv T rfl rfl fun _ T => ?_
      rcases ifE H with ⟨h49, H⟩ | ⟨h49, H⟩
      ·refine g_yes T rfl rfl h49 ?_
       refine r_pv T rfl rfl fun _ T => ?_
       refine g_yes T rfl rfl h49 ?_
       refine r_pv T rfl rfl fun _ T => ?_
       refine r_pickT T rfl h49 rfl rfl fun _ T => ?_
       refine r_pv T rfl rfl fun _ T => ?_
       rcases ifE H with ⟨h50, H⟩ | ⟨h50, H⟩
       ·refine g_yes T rfl rfl h50 ?_
        refine r_fa (o' := 0) T rfl Tryd.runUnderlying50 rfl Tryd.sizeOf29 rfl rfl fun _ T => ?_
        refine g_yes T rfl rfl h50 ?_
        refine r_ldB (ix := 3) T S rfl Tryd.isAgg29 rfl rfl rfl fun _ T => ?_
        refine g_yes T rfl rfl h50 ?_
        refine r_lenS T rfl Tryd.runUnderlying29 rfl fun _ T => ?_
        refine g_yes T rfl rfl h50 ?_
        refine r_pv T rfl rfl fun _ T => ?_
        refine r_pickT T rfl h50 rfl rfl fun _ T => ?_
        refine r_pv T rfl rfl fun _ T => ?_
        rcases ifE H with ⟨h51, H⟩ | ⟨h51, H⟩
        ·refine g_yes T rfl rfl h51 ?_
         refine r_fa (o' := 0) T rfl Tryd.runUnderlying50 rfl Tryd.sizeOf29 rfl rfl fun _ T => ?_
         refine g_yes T rfl rfl h51 ?_
         refine r_ldB (ix := 3) T S rfl Tryd.isAgg29 rfl rfl rfl fun _ T => ?_
         refine g_yes T rfl rfl h51 ?_
         obtain ⟨h52, H⟩ := ck H
         refine r_ia (ix := 4) T S rfl rfl rfl rfl Tryd.runUnderlying29 Tryd.sizeOf5 (by decide) h52 rfl fun _ T => ?_
         refine g_yes T rfl rfl h51 ?_
         refine r_ldE (ix := 4) (i := 26) (off := 0) (f := (Value.int .u8)) T S rfl Tryd.isAgg5 rfl (0 : Int) _ rfl rfl (Fld.all _) (by decide) h52 (fun h => h) rfl fun _ T => ?_
         refine g_yes T rfl rfl h51 ?_
         refine r_pv T rfl rfl fun _ T => ?_
         refine r_pickT T rfl h51 rfl rfl fun _ T => ?_
         refine r_pv T rfl rfl fun _ T => ?_
         rcases ifE H with ⟨h53, H⟩ | ⟨h53, H⟩
         ·refine g_yes T rfl rfl h53 ?_
          refine r_fa (o' := 1) T rfl Tryd.runUnderlying50 rfl Tryd.sizeOf29 rfl rfl fun _ T => ?_
          refine g_yes T rfl rfl h53 ?_
          refine r_ldB (ix := 3) T S rfl Tryd.isAgg29 rfl rfl rfl fun _ T => ?_
          refine g_yes T rfl rfl h53 ?_
          refine r_lenS T rfl Tryd.runUnderlying29 rfl fun _ T => ?_
          refine g_yes T rfl rfl h53 ?_
          refine r_pv T rfl rfl fun _ T => ?_
          refine r_pickT T rfl h53 rfl rfl fun _ T => ?_
          refine r_pv T rfl rfl fun _ T => ?_
          rcases ifE H with ⟨h54, H⟩ | ⟨h54, H⟩
          ·refine g_yes T rfl rfl h54 ?_
           refine r_fa (o' := 0) T rfl Tryd.runUnderlying50 rfl Tryd.sizeOf29 rfl rfl fun _ T => ?_
           refine g_yes T rfl rfl h54 ?_
           refine r_ldB (ix := 0) T S rfl Tryd.isAgg29 rfl rfl rfl fun _ T => ?_
           refine g_yes T rfl rfl h54 ?_
           refine r_b2s (ix := 1) (xs := x36.From) T S rfl rfl Tryd.runUnderlying29 Tryd.runUnderlying9 Tryd.runUnderlying5 rfl fun _ T => ?_
           refine g_yes T rfl rfl h54 ?_
           refine r_pv T rfl rfl fun _ T => ?_
           refine r_pickT T rfl h54 rfl rfl fun _ T => ?_
           refine r_pv T rfl rfl fun _ T => ?_
           rcases ifE H with ⟨h55, H⟩ | ⟨h55, H⟩
           ·refine g_yes T rfl rfl h55 ?_
            refine r_fa (o' := 1) T rfl Tryd.runUnderlying50 rfl Tryd.sizeOf29 rfl rfl fun _ T => ?_
            refine g_yes T rfl rfl h55 ?_
            refine r_ldB (ix := 0) T S rfl Tryd.isAgg29 rfl rfl rfl fun _ T => ?_
            refine g_yes T rfl rfl h55 ?_
            refine r_b2s (ix := 2) (xs := x36.To) T S rfl rfl Tryd.runUnderlying29 Tryd.runUnderlying9 Tryd.runUnderlying5 rfl fun _ T => ?_
            refine g_yes T rfl rfl h55 ?_
            refine r_pv T rfl rfl fun _ T => ?_
            refine r_pickT T rfl h55 rfl rfl fun _ T => ?_
            refine r_pv T rfl rfl fun _ T => ?_
            exact J2_ok F r z ((bstr x36.To).toList == (⟨#[2]⟩ : ByteArray).toList) _ _ (T.sub ⟨rfl, trivial⟩) (S.only (p := []) [] rfl) H
           ·refine g_no T rfl rfl h55 rfl fun _ T => ?_
            refine g_no T rfl rfl h55 rfl fun _ T => ?_
            refine g_no T rfl rfl h55 rfl fun _ T => ?_
            refine g_no T rfl rfl h55 rfl fun _ T => ?_
            refine r_pickF T rfl h55 rfl rfl fun _ T => ?_
            refine r_pv T rfl rfl fun _ T => ?_
            exact J2_ok F r z false _ _ (T.sub ⟨rfl, trivial⟩) (S.only (p := []) [] rfl) H
          ·refine g_no T rfl rfl h54 rfl fun _ T => ?_
           refine g_no T rfl rfl h54 rfl fun _ T => ?_
           refine g_no T rfl rfl h54 rfl fun _ T => ?_
           refine g_no T rfl rfl h54 rfl fun _ T => ?_
           refine r_pickF T rfl h54 rfl rfl fun _ T => ?_
           refine r_pv T rfl rfl fun _ T => ?_
           refine g_no T rfl rfl rfl rfl fun _ T => ?_
           refine g_no T rfl rfl rfl rfl fun _ T => ?_
           refine g_no T rfl rfl rfl rfl fun _ T => ?_
           refine g_no T rfl rfl rfl rfl fun _ T => ?_
           refine r_pickF T rfl rfl rfl rfl fun _ T => ?_
           refine r_pv T rfl rfl fun _ T => ?_
           exact J2_ok F r z false _ _ (T.sub ⟨rfl, trivial⟩) (S.only (p := []) [] rfl) H
         ·refine g_no T rfl rfl h53 rfl fun _ T => ?_
          refine g_no T rfl rfl h53 rfl fun _ T => ?_
          refine g_no T rfl rfl h53 rfl fun _ T => ?_
          refine g_no T rfl rfl h53 rfl fun _ T => ?_
          refine r_pickF T rfl h53 rfl rfl fun _ T => ?_
          refine r_pv T rfl rfl fun _ T => ?_
          refine g_no T rfl rfl rfl rfl fun _ T => ?_
          refine g_no T rfl rfl rfl rfl fun _ T => ?_
          refine g_no T rfl rfl rfl rfl fun _ T => ?_
          refine g_no T rfl rfl rfl rfl fun _ T => ?_
          refine r_pickF T rfl rfl rfl rfl fun _ T => ?_
          refine r_pv T rfl rfl fun _ T => ?_
          refine g_no T rfl rfl rfl rfl fun _ T => ?_
          refine g_no T rfl rfl rfl rfl fun _ T => ?_
          refine g_no T rfl rfl rfl rfl fun _ T => ?_
          refine g_no T rfl rfl rfl rfl fun _ T => ?_
          refine r_pickF T rfl rfl rfl rfl fun _ T => ?_
          refine r_pv T rfl rfl fun _ T => ?_
          exact J2_ok F r z false _ _ (T.sub ⟨rfl, trivial⟩) (S.only (p := []) [] rfl) H
        ·refine g_no T rfl rfl h51 rfl fun _ T => ?_
         refine g_no T rfl rfl h51 rfl fun _ T => ?_
         refine g_no T rfl rfl h51 rfl fun _ T => ?_
         refine g_no T rfl rfl h51 rfl fun _ T => ?_
         refine g_no T rfl rfl h51 rfl fun _ T => ?_
         refine r_pickF T rfl h51 rfl rfl fun _ T => ?_
         refine r_pv T rfl rfl fun _ T => ?_
         refine g_no T rfl rfl rfl rfl fun _ T => ?_
         refine g_no T rfl rfl rfl rfl fun _ T => ?_
         refine g_no T rfl rfl rfl rfl fun _ T => ?_
         refine g_no T rfl rfl rfl rfl fun _ T => ?_
         refine r_pickF T rfl rfl rfl rfl fun _ T => ?_
         refine r_pv T rfl rfl fun _ T => ?_
         refine g_no T rfl rfl rfl rfl fun _ T => ?_
         refine g_no T rfl rfl rfl rfl fun _ T => ?_
         refine g_no T rfl rfl rfl rfl fun _ T => ?_
         refine g_no T rfl rfl rfl rfl fun _ T => ?_
         refine r_pickF T rfl rfl rfl rfl fun _ T => ?_
         refine r_pv T rfl rfl fun _ T => ?_
         refine g_no T rfl rfl rfl rfl fun _ T => ?_
         refine g_no T rfl rfl rfl rfl fun _ T => ?_
         refine g_no T rfl rfl rfl rfl fun _ T => ?_
         refine g_no T rfl rfl rfl rfl fun _ T => ?_
         refine r_pickF T rfl rfl rfl rfl fun _ T => ?_
         refine r_pv T rfl rfl fun _ T => ?_
         exact J2_ok F r z false _ _ (T.sub ⟨rfl, trivial⟩) (S.only (p := []) [] rfl) H
       ·refine g_no T rfl rfl h50 rfl fun _ T => ?_
        refine g_no T rfl rfl h50 rfl fun _ T => ?_
        refine g_no T rfl rfl h50 rfl fun _ T => ?_
        refine g_no T rfl rfl h50 rfl fun _ T => ?_
        refine r_pickF T rfl h50 rfl rfl fun _ T => ?_
        refine r_pv T rfl rfl fun _ T => ?_
        refine g_no T rfl rfl rfl rfl fun _ T => ?_
        refine g_no T rfl rfl rfl rfl fun _ T => ?_
        refine g_no T rfl rfl rfl rfl fun _ T => ?_
        refine g_no T rfl rfl rfl rfl fun _ T => ?_
        refine g_no T rfl rfl rfl rfl fun _ T => ?_
        refine r_pickF T rfl rfl rfl rfl fun _ T => ?_
        refine r_pv T rfl rfl fun _ T => ?_
        refine g_no T rfl rfl rfl rfl fun _ T => ?_
        refine g_no T rfl rfl rfl rfl fun _ T => ?_
        refine g_no T rfl rfl rfl rfl fun _ T => ?_
        refine g_no T rfl rfl rfl rfl fun _ T => ?_
        refine r_pickF T rfl rfl rfl rfl fun _ T => ?_
        refine r_pv T rfl rfl fun _ T => ?_
        refine g_no T rfl rfl rfl rfl fun _ T => ?_
        refine g_no T rfl rfl rfl rfl fun _ T => ?_
        refine g_no T rfl rfl rfl rfl fun _ T => ?_
        refine g_no T rfl rfl rfl rfl fun _ T => ?_
        refine r_pickF T rfl rfl rfl rfl fun _ T => ?_
        refine r_pv T rfl rfl fun _ T => ?_
        refine g_no T rfl rfl rfl rfl fun _ T => ?_
        refine g_no T rfl rfl rfl rfl fun _ T => ?_
        refine g_no T rfl rfl rfl rfl fun _ T => ?_
        refine g_no T rfl rfl rfl rfl fun _ T => ?_
        refine r_pickF T rfl rfl rfl rfl fun _ T => ?_
        refine r_pv T rfl rfl fun _ T => ?_
        exact J2_ok F r z false _ _ (T.sub ⟨rfl, trivial⟩) (S.only (p := []) [] rfl) H
      ·refine g_no T rfl rfl h49 rfl fun _ T => ?_
       refine g_no T rfl rfl h49 rfl fun _ T => ?_
       refine r_pickF T rfl h49 rfl rfl fun _ T => ?_
       refine r_pv T rfl rfl fun _ T => ?_
       refine g_no T rfl rfl rfl rfl fun _ T => ?_
       refine g_no T rfl rfl rfl rfl fun _ T => ?_
       refine g_no T rfl rfl rfl rfl fun _ T => ?_
       refine g_no T rfl rfl rfl rfl fun _ T => ?_
       refine r_pickF T rfl rfl rfl rfl fun _ T => ?_
       refine r_pv T rfl rfl fun _ T => ?_
       refine g_no T rfl rfl rfl rfl fun _ T => ?_
       refine g_no T rfl rfl rfl rfl fun _ T => ?_
       refine g_no T rfl rfl rfl rfl fun _ T => ?_
       refine g_no T rfl rfl rfl rfl fun _ T => ?_
       refine g_no T rfl rfl rfl rfl fun _ T => ?_
       refine r_pickF T rfl rfl rfl rfl fun _ T => ?_
       refine r_pv T rfl rfl fun _ T => ?_
       refine g_no T rfl rfl rfl rfl fun _ T => ?_
       refine g_no T rfl rfl rfl rfl fun _ T => ?_
       refine g_no T rfl rfl rfl rfl fun _ T => ?_
       refine g_no T rfl rfl rfl rfl fun _ T => ?_
       refine r_pickF T rfl rfl rfl rfl fun _ T => ?_
       refine r_pv T rfl rfl fun _ T => ?_
       refine g_no T rfl rfl rfl rfl fun _ T => ?_
       refine g_no T rfl rfl rfl rfl fun _ T => ?_
       refine g_no T rfl rfl rfl rfl fun _ T => ?_
       refine g_no T rfl rfl rfl rfl fun _ T => ?_
       refine r_pickF T rfl rfl rfl rfl fun _ T => ?_
       refine r_pv T rfl rfl fun _ T => ?_
       refine g_no T rfl rfl rfl rfl fun _ T => ?_
       refine g_no T rfl rfl rfl rfl fun _ T => ?_
       refine g_no T rfl rfl rfl rfl fun _ T => ?_
       refine g_no T rfl rfl rfl rfl fun _ T => ?_
       refine r_pickF T rfl rfl rfl rfl fun _ T => ?_
       refine r_pv T rfl rfl fun _ T => ?_
       exact J2_ok F r z false _ _ (T.sub ⟨rfl, trivial⟩) (S.only (p := []) [] rfl) H
     ·refine g_no T rfl rfl h47 rfl fun _ T => ?_
      refine g_no T rfl rfl h47 rfl fun _ T => ?_
      refine g_no T rfl rfl h47 rfl fun _ T => ?_
      refine g_no T rfl rfl h47 rfl fun _ T => ?_
      refine g_no T rfl rfl h47 rfl fun _ T => ?_
      refine r_pickF T rfl h47 rfl rfl fun _ T => ?_
      refine r_pv T rfl rfl fun _ T => ?_
      refine g_no T rfl rfl rfl rfl fun _ T => ?_
      refine g_no T rfl rfl rfl rfl fun _ T => ?_
      refine r_pickF T rfl rfl rfl rfl fun _ T => ?_
      refine r_pv T rfl rfl fun _ T => ?_
      refine g_no T rfl rfl rfl rfl fun _ T => ?_
      refine g_no T rfl rfl rfl rfl fun _ T => ?_
      refine g_no T rfl rfl rfl rfl fun _ T => ?_
      refine g_no T rfl rfl rfl rfl fun _ T => ?_
      refine r_pickF T rfl rfl rfl rfl fun _ T => ?_
      refine r_pv T rfl rfl fun _ T => ?_
      refine g_no T rfl rfl rfl rfl fun _ T => ?_
      refine g_no T rfl rfl rfl rfl fun _ T => ?_
      refine g_no T rfl rfl rfl rfl fun _ T => ?_
      refine g_no T rfl rfl rfl rfl fun _ T => ?_
      refine g_no T rfl rfl rfl rfl fun _ T => ?_
      refine r_pickF T rfl rfl rfl rfl fun _ T => ?_
      refine r_pv T rfl rfl fun _ T => ?_
      refine g_no T rfl rfl rfl rfl fun _ T => ?_
      refine g_no T rfl rfl rfl rfl fun _ T => ?_
      refine g_no T rfl rfl rfl rfl fun _ T => ?_
      refine g_no T rfl rfl rfl rfl fun _ T => ?_
      refine r_pickF T rfl rfl rfl rfl fun _ T => ?_
      refine r_pv T rfl rfl fun _ T => ?_
      refine g_no T rfl rfl rfl rfl fun _ T => ?_
      refine g_no T rfl rfl rfl rfl fun _ T => ?_
      refine g_no T rfl rfl rfl rfl fun _ T => ?_
      refine g_no T rfl rfl rfl rfl fun _ T => ?_
      refine r_pickF T rfl rfl rfl rfl fun _ T => ?_
      refine r_pv T rfl rfl fun _ T => ?_
      refine g_no T rfl rfl rfl rfl fun _ T => ?_
      refine g_no T rfl rfl rfl rfl fun _ T => ?_
      refine g_no T rfl rfl rfl rfl fun _ T => ?_
      refine g_no T rfl rfl rfl rfl fun _ T => ?_
      refine r_pickF T rfl rfl rfl rfl fun _ T => ?_
      refine r_pv T rfl rfl fun _ T => ?_
      exact J2_ok F r z false _ _ (T.sub ⟨rfl, trivial⟩) (S.only (p := []) [] rfl) H
    ·refine g_no T rfl rfl h46 rfl fun _ T => ?_
     refine g_no T rfl rfl h46 rfl fun _ T => ?_
     refine g_no T rfl rfl h46 rfl fun _ T => ?_
     refine r_pickF T rfl h46 rfl rfl fun _ T => ?_
     refine r_pv T rfl rfl fun _ T => ?_
     refine g_no T rfl rfl rfl rfl fun _ T => ?_
     refine g_no T rfl rfl rfl rfl fun _ T => ?_
     refine g_no T rfl rfl rfl rfl fun _ T => ?_
     refine g_no T rfl rfl rfl rfl fun _ T => ?_
     refine g_no T rfl rfl rfl rfl fun _ T => ?_
     refine r_pickF T rfl rfl rfl rfl fun _ T => ?_
     refine r_pv T rfl rfl fun _ T => ?_
     refine g_no T rfl rfl rfl rfl fun _ T => ?_
     refine g_no T rfl rfl rfl rfl fun _ T => ?_
     refine r_pickF T rfl rfl rfl rfl fun _ T => ?_
     refine r_pv T rfl rfl fun _ T => ?_
     refine g_no T rfl rfl rfl rfl fun _ T => ?_
     refine g_no T rfl rfl rfl rfl fun _ T => ?_
     refine g_no T rfl rfl rfl rfl fun _ T => ?_
     refine g_no T rfl rfl rfl rfl fun _ T => ?_
     refine r_pickF T rfl rfl rfl rfl fun _ T => ?_
     refine r_pv T rfl rfl fun _ T => ?_
     refine g_no T rfl rfl rfl rfl fun _ T => ?_
     refine g_no T rfl rfl rfl rfl fun _ T => ?_
     refine g_no T rfl rfl rfl rfl fun _ T => ?_
     refine g_no T rfl rfl rfl rfl fun _ T => ?_
     refine g_no T rfl rfl rfl rfl fun _ T => ?_
     refine r_pickF T rfl rfl rfl rfl fun _ T => ?_
     refine r_pv T rfl rfl fun _ T => ?_
     refine g_no T rfl rfl rfl rfl fun _ T => ?_
     refine g_no T rfl rfl rfl rfl fun _ T => ?_
     refine g_no T rfl rfl rfl rfl fun _ T => ?_
     refine g_no T rfl rfl rfl rfl fun _ T => ?_
     refine r_pickF T rfl rfl rfl rfl fun _ T => ?_
     refine r_pv T rfl rfl fun _ T => ?_
     refine g_no T rfl rfl rfl rfl fun _ T => ?_
     refine g_no T rfl rfl rfl rfl fun _ T => ?_
     refine g_no T rfl rfl rfl rfl fun _ T => ?_
     refine g_no T rfl rfl rfl rfl fun _ T => ?_
     refine r_pickF T rfl rfl rfl rfl fun _ T => ?_
     refine r_pv T rfl rfl fun _ T => ?_
     refine g_no T rfl rfl rfl rfl fun _ T => ?_
     refine g_no T rfl rfl rfl rfl fun _ T => ?_
     refine g_no T rfl rfl rfl rfl fun _ T => ?_
     refine g_no T rfl rfl rfl rfl fun _ T => ?_
     refine r_pickF T rfl rfl rfl rfl fun _ T => ?_
     refine r_pv T rfl rfl fun _ T => ?_
     exact J2_ok F r z false _ _ (T.sub ⟨rfl, trivial⟩) (S.only (p := []) [] rfl) H
   ·refine g_no T rfl rfl h44 rfl fun _ T => ?_
    refine g_no T rfl rfl h44 rfl fun _ T => ?_
    refine g_no T rfl rfl h44 rfl fun _ T => ?_
    refine g_no T rfl rfl h44 rfl fun _ T => ?_
    refine r_pickF T rfl h44 rfl rfl fun _ T => ?_
    refine r_pv T rfl rfl fun _ T => ?_
    refine g_no T rfl rfl rfl rfl fun _ T => ?_
    refine g_no T rfl rfl rfl rfl fun _ T => ?_
    refine g_no T rfl rfl rfl rfl fun _ T => ?_
    refine r_pickF T rfl rfl rfl rfl fun _ T => ?_
    refine r_pv T rfl rfl fun _ T => ?_
    refine g_no T rfl rfl rfl rfl fun _ T => ?_
    refine g_no T rfl rfl rfl rfl fun _ T => ?_
    refine g_no T rfl rfl rfl rfl fun _ T => ?_
    refine g_no T rfl rfl rfl rfl fun _ T => ?_
    refine g_no T rfl rfl rfl rfl fun _ T => ?_
    refine r_pickF T rfl rfl rfl rfl fun _ T => ?_
    refine r_pv T rfl rfl fun _ T => ?_
    refine g_no T rfl rfl rfl rfl fun _ T => ?_
    refine g_no T rfl rfl rfl rfl fun _ T => ?_
    refine r_pickF T rfl rfl rfl rfl fun _ T => ?_
    refine r_pv T rfl rfl fun _ T => ?_
    refine g_no T rfl rfl rfl rfl fun _ T => ?_
    refine g_no T rfl rfl rfl rfl fun _ T => ?_
    refine g_no T rfl rfl rfl rfl fun _ T => ?_
    refine g_no T rfl rfl rfl rfl fun _ T => ?_
    refine r_pickF T rfl rfl rfl rfl fun _ T => ?_
    refine r_pv T rfl rfl fun _ T => ?_
    refine g_no T rfl rfl rfl rfl fun _ T => ?_
    refine g_no T rfl rfl rfl rfl fun _ T => ?_
    refine g_no T rfl rfl rfl rfl fun _ T => ?_
    refine g_no T rfl rfl rfl rfl fun _ T => ?_
    refine g_no T rfl rfl rfl rfl fun _ T => ?_
    refine r_pickF T rfl rfl rfl rfl fun _ T => ?_
    refine r_pv T rfl rfl fun _ T => ?_
    refine g_no T rfl rfl rfl rfl fun _ T => ?_
    refine g_no T rfl rfl rfl rfl fun _ T => ?_
    refine g_no T rfl rfl rfl rfl fun _ T => ?_
    refine g_no T rfl rfl rfl rfl fun _ T => ?_
    refine r_pickF T rfl rfl rfl rfl fun _ T => ?_
    refine r_pv T rfl rfl fun _ T => ?_
    refine g_no T rfl rfl rfl rfl fun _ T => ?_
    refine g_no T rfl rfl rfl rfl fun _ T => ?_
    refine g_no T rfl rfl rfl rfl fun _ T => ?_
    refine g_no T rfl rfl rfl rfl fun _ T => ?_
    refine r_pickF T rfl rfl rfl rfl fun _ T => ?_
    refine r_pv T rfl rfl fun _ T => ?_
    refine g_no T rfl rfl rfl rfl fun _ T => ?_
    refine g_no T rfl rfl rfl rfl fun _ T => ?_
    refine g_no T rfl rfl rfl rfl fun _ T => ?_
    refine g_no T rfl rfl rfl rfl fun _ T => ?_
    refine r_pickF T rfl rfl rfl rfl fun _ T => ?_
    refine r_pv T rfl rfl fun _ T => ?_
    exact J2_ok F r z false _ _ (T.sub ⟨rfl, trivial⟩) (S.only (p := []) [] rfl) H
  ·refine g_no T rfl rfl h43 rfl fun _ T => ?_
   refine g_no T rfl rfl h43 rfl fun _ T => ?_
   refine g_no T rfl rfl h43 rfl fun _ T => ?_
   refine r_pickF T rfl h43 rfl rfl fun _ T => ?_
   refine r_pv T rfl rfl fun _ T => ?_
   refine g_no T rfl rfl rfl rfl fun _ T => ?_
   refine g_no T rfl rfl rfl rfl fun _ T => ?_
   refine g_no T rfl rfl rfl rfl fun _ T => ?_
   refine g_no T rfl rfl rfl rfl fun _ T => ?_
   refine r_pickF T rfl rfl rfl rfl fun _ T => ?_
   refine r_pv T rfl rfl fun _ T => ?_
   refine g_no T rfl rfl rfl rfl fun _ T => ?_
   refine g_no T rfl rfl rfl rfl fun _ T => ?_
   refine g_no T rfl rfl rfl rfl fun _ T => ?_
   refine r_pickF T rfl rfl rfl rfl fun _ T => ?_
   refine r_pv T rfl rfl fun _ T => ?_
   refine g_no T rfl rfl rfl rfl fun _ T => ?_
   refine g_no T rfl rfl rfl rfl fun _ T => ?_
   refine g_no T rfl rfl rfl rfl fun _ T => ?_
   refine g_no T rfl rfl rfl rfl fun _ T => ?_
   refine g_no T rfl rfl rfl rfl fun _ T => ?_
   refine r_pickF T rfl rfl rfl rfl fun _ T => ?_
   refine r_pv T rfl rfl fun _ T => ?_
   refine g_no T rfl rfl rfl rfl fun _ T => ?_
   refine g_no T rfl rfl rfl rfl fun _ T => ?_
   refine r_pickF T rfl rfl rfl rfl fun _ T => ?_
   refine r_pv T rfl rfl fun _ T => ?_
   refine g_no T rfl rfl rfl rfl fun _ T => ?_
   refine g_no T rfl rfl rfl rfl fun _ T => ?_
   refine g_no T rfl rfl rfl rfl fun _ T => ?_
   refine g_no T rfl rfl rfl rfl fun _ T => ?_
   refine r_pickF T rfl rfl rfl rfl fun _ T => ?_
   refine r_pv T rfl rfl fun _ T => ?_
   refine g_no T rfl rfl rfl rfl fun _ T => ?_
   refine g_no T rfl rfl rfl rfl fun _ T => ?_
   refine g_no T rfl rfl rfl rfl fun _ T => ?_
   refine g_no T rfl rfl rfl rfl fun _ T => ?_
   refine g_no T rfl rfl rfl rfl fun _ T => ?_
   refine r_pickF T rfl rfl rfl rfl fun _ T => ?_
   refine r_pv T rfl rfl fun _ T => ?_
   refine g_no T rfl rfl rfl rfl fun _ T => ?_
   refine g_no T rfl rfl rfl rfl fun _ T => ?_
   refine g_no T rfl rfl rfl rfl fun _ T => ?_
   refine g_no T rfl rfl rfl rfl fun _ T => ?_
   refine r_pickF T rfl rfl rfl rfl fun _ T => ?_
   refine r_pv T rfl rfl fun _ T => ?_
   refine g_no T rfl rfl rfl rfl fun _ T => ?_
   refine g_no T rfl rfl rfl rfl fun _ T => ?_
   refine g_no T rfl rfl rfl rfl fun _ T => ?_
   refine g_no T rfl rfl rfl rfl fun _ T => ?_
   refine r_pickF T rfl rfl rfl rfl fun _ T => ?_
   refine r_pv T rfl rfl fun _ T => ?_
   refine g_no T rfl rfl rfl rfl fun _ T => ?_
   refine g_no T rfl rfl rfl rfl fun _ T => ?_
   refine g_no T rfl rfl rfl rfl fun _ T => ?_
   refine g_no T rfl rfl rfl rfl fun _ T => ?_
   refine r_pickF T rfl rfl rfl rfl fun _ T => ?_
   refine r_pv T rfl rfl fun _ T => ?_
   exact J2_ok F r z false _ _ (T.sub ⟨rfl, trivial⟩) (S.only (p := []) [] rfl) H
 ·refine g_no T rfl rfl h42 rfl fun _ T => ?_
  refine g_no T rfl rfl h42 rfl fun _ T => ?_
  refine r_pickF T rfl h42 rfl rfl fun _ T => ?_
  refine r_pv T rfl rfl fun _ T => ?_
  refine g_no T rfl rfl rfl rfl fun _ T => ?_
  refine g_no T rfl rfl rfl rfl fun _ T => ?_
  refine g_no T rfl rfl rfl rfl fun _ T => ?_
  refine r_pickF T rfl rfl rfl rfl fun _ T => ?_
  refine r_pv T rfl rfl fun _ T => ?_
  refine g_no T rfl rfl rfl rfl fun _ T => ?_
  refine g_no T rfl rfl rfl rfl fun _ T => ?_
  refine g_no T rfl rfl rfl rfl fun _ T => ?_
  refine g_no T rfl rfl rfl rfl fun _ T => ?_
  refine r_pickF T rfl rfl rfl rfl fun _ T => ?_
  refine r_pv T rfl rfl fun _ T => ?_
  refine g_no T rfl rfl rfl rfl fun _ T => ?_
  refine g_no T rfl rfl rfl rfl fun _ T => ?_
  refine g_no T rfl rfl rfl rfl fun _ T => ?_
  refine r_pickF T rfl rfl rfl rfl fun _ T => ?_
  refine r_pv T rfl rfl fun _ T => ?_
  refine g_no T rfl rfl rfl rfl fun _ T => ?_
  refine g_no T rfl rfl rfl rfl fun _ T => ?_
  refine g_no T rfl rfl rfl rfl fun _ T => ?_
  refine g_no T rfl rfl rfl rfl fun _ T => ?_
  refine g_no T rfl rfl rfl rfl fun _ T => ?_
  refine r_pickF T rfl rfl rfl rfl fun _ T => ?_
  refine r_pv T rfl rfl fun _ T => ?_
  refine g_no T rfl rfl rfl rfl fun _ T => ?_
  refine g_no T rfl rfl rfl rfl fun _ T => ?_
  refine r_pickF T rfl rfl rfl rfl fun _ T => ?_
  refine r_pv T rfl rfl fun _ T => ?_
  refine g_no T rfl rfl rfl rfl fun _ T => ?_
  refine g_no T rfl rfl rfl rfl fun _ T => ?_
  refine g_no T rfl rfl rfl rfl fun _ T => ?_
  refine g_no T rfl rfl rfl rfl fun _ T => ?_
  refine r_pickF T rfl rfl rfl rfl fun _ T => ?_
  refine r_pv T rfl rfl fun _ T => ?_
  refine g_no T rfl rfl rfl rfl fun _ T => ?_
  refine g_no T rfl rfl rfl rfl fun _ T => ?_
  refine g_no T rfl rfl rfl rfl fun _ T => ?_
  refine g_no T rfl rfl rfl rfl fun _ T => ?_
  refine g_no T rfl rfl rfl rfl fun _ T => ?_
  refine r_pickF T rfl rfl rfl rfl fun _ T => ?_
  refine r_pv T rfl rfl fun _ T => ?_
  refine g_no T rfl rfl rfl rfl fun _ T => ?_
  refine g_no T rfl rfl rfl rfl fun _ T => ?_
  refine g_no T rfl rfl rfl rfl fun _ T => ?_
  refine g_no T rfl rfl rfl rfl fun _ T => ?_
  refine r_pickF T rfl rfl rfl rfl fun _ T => ?_
  refine r_pv T rfl rfl fun _ T => ?_
  refine g_no T rfl rfl rfl rfl fun _ T => ?_
  refine g_no T rfl rfl rfl rfl fun _ T => ?_
  refine g_no T rfl rfl rfl rfl fun _ T => ?_
  refine g_no T rfl rfl rfl rfl fun _ T => ?_
  refine r_pickF T rfl rfl rfl rfl fun _ T => ?_
  refine r_pv T rfl rfl fun _ T => ?_
  refine g_no T rfl rfl rfl rfl fun _ T => ?_
  refine g_no T rfl rfl rfl rfl fun _ T => ?_
  refine g_no T rfl rfl rfl rfl fun _ T => ?_
  refine g_no T rfl rfl rfl rfl fun _ T => ?_
  refine r_pickF T rfl rfl rfl rfl fun _ T => ?_
  refine r_pv T rfl rfl fun _ T => ?_
  exact J2_ok F r z false _ _ (T.sub ⟨rfl, trivial⟩) (S.only (p := []) [] rfl) H
theorem J0_ok (F : List Atom) (r : Bool) (z : Nat) (a : Act) (w : World) (T : Tm 160 [] a) (S : SL ([] ++ F) w) (H : J0 z = some r) : Gets Tryd.prog 5 ptJ0 a w (R F r) := by
 refine rg ?_
 refine r_pv T rfl rfl fun _ T => ?_
 replace H := Option.some.inj H
 subst H
 exact rtn T Tryd.func5 rfl rfl ⟨rfl, (S.only (p := []) [] rfl)⟩
theorem ok (F : List Atom) (w : World) (z : Nat) (S : SL ([] ++ F) w) (r : Bool) (H : f z  = some r) : Calls Tryd.prog 5 #[] w (R F r) := by
 refine enter (vs := []) Tryd.func5 rfl Tryd.ntmps5 (Nat.le_of_ble_eq_true rfl) fun a T => ?_
 refine Gets.seq ?_
 refine rg ?_
 refine r_pv T rfl rfl fun _ T => ?_
 refine Gets.seq ?_
 refine rg ?_
 obtain ⟨x2, h1, H⟩ := bd H
 refine r_call T Tryd.call12 rfl rfl (cormorantlaw20_made.ok _ _  (S.sel (p := []) (is := []) rfl) _ h1) ?_
 rintro _ _ ⟨A3, k4, A5, k6, A7, k8, rfl, S⟩
 refine ⟨_, rfl, fun _ T => ?_⟩
 replace S : SL ([(y10 A3 k4 x2), (y18 A5 k6 x2), (y11 A7 k8 x2)] ++ F) _ := S.join
 refine r_alloc T S zv26 (cs := [.int .i64 0, (y22), .slice none 0 0, .slice none 0 0, .slice none 0 0]) rfl rfl fun _ _ b9 S T => ?_
 refine r_stBA (ix := 0) (vs := (y0 x2 A3 k4 A5 k6 A7 k8)) (l' := [blk b9 (y0 x2 A3 k4 A5 k6 A7 k8), (y10 A3 k4 x2), (y18 A5 k6 x2), (y11 A7 k8 x2)]) T S rfl rfl rfl rfl (by simp) Tryd.sizeOf26 (Nat.le_of_ble_eq_true rfl) rfl fun _ S => ?_
 refine Gets.seq ?_
 refine rg ?_
 refine r_build (cs := #[.int .i64 1, .bool false, .int .i64 5, (y22)]) T stt43 rfl rfl rfl fun _ T => ?_
 refine r_build (cs := #[.int .i64 3, .bool false, .int .i64 0, .string (⟨#[120]⟩ : ByteArray)]) T stt43 rfl rfl rfl fun _ T => ?_
 replace S : SL ([rp kapi_Value (y7) [.int .i64 1, .bool false, .int .i64 5, (y22)], blk b9 (y0 x2 A3 k4 A5 k6 A7 k8), (y10 A3 k4 x2), (y18 A5 k6 x2), (y11 A7 k8 x2)] ++ F) _ := cl_api_Value  S 
 replace S : SL ([rp kapi_Value (y6) [.int .i64 3, .bool false, .int .i64 0, .string (⟨#[120]⟩ : ByteArray)], rp kapi_Value (y7) [.int .i64 1, .bool false, .int .i64 5, (y22)], blk b9 (y0 x2 A3 k4 A5 k6 A7 k8), (y10 A3 k4 x2), (y18 A5 k6 x2), (y11 A7 k8 x2)] ++ F) _ := cl_api_Value  S 
 refine r_bsl (κ := kapi_Value) (xs := [(y7), (y6)]) (vs := [.agg #[.int .i64 1, .bool false, .int .i64 5, (y22)], .agg #[.int .i64 3, .bool false, .int .i64 0, .string (⟨#[120]⟩ : ByteArray)]]) T S sty27 rfl ⟨_, _, rfl, ⟨1, rfl⟩, ⟨_, _, rfl, ⟨0, rfl⟩, rfl⟩⟩ rfl (by decide) rfl fun _ _ b10 S T => ?_
 replace S : SL ([sl .own kapi_Value (some ⟨b10, 0, none⟩) 2 [(y7), (y6)], blk b9 (y0 x2 A3 k4 A5 k6 A7 k8), (y10 A3 k4 x2), (y18 A5 k6 x2), (y11 A7 k8 x2)] ++ F) _ := S.only [0, 2, 2, 2, 2] rfl
 refine r_pv T rfl rfl fun _ T => ?_
 refine Gets.seq ?_
 refine rg ?_
 refine r_ldBA (ix := 1) (ds := (y0 x2 A3 k4 A5 k6 A7 k8)) T S rfl Tryd.isAgg26 rfl rfl Tryd.sizeOf26 rfl fun _ T => ?_
 refine r_pv T rfl rfl fun _ T => ?_
 obtain ⟨x12, h11, H⟩ := bd H
 refine r_call T Tryd.call7 rfl rfl (rowkey_Row.ok _ _ z x2 [(y7), (y6)] (S.sel (p := [(y10 A3 k4 x2), (y18 A5 k6 x2), (y11 A7 k8 x2), sl .own kapi_Value (some ⟨b10, 0, none⟩) 2 [(y7), (y6)]]) (is := [2, 2, 2, 0]) rfl) _ h11) ?_
 rintro _ _ ⟨A13, k14, A15, k16, rfl, S⟩
 refine ⟨_, rfl, fun _ T => ?_⟩
 replace S : SL ([sl .ro ku8 A13 k14 x12.1.Key, sl .ro ku8 A15 k16 x12.1.Value, (y10 A3 k4 x2), (y18 A5 k6 x2), (y11 A7 k8 x2), sl .own kapi_Value (some ⟨b10, 0, none⟩) 2 [(y7), (y6)], blk b9 (y0 x2 A3 k4 A5 k6 A7 k8)] ++ F) _ := S.join
 refine r_pv T rfl rfl fun _ T => ?_
 refine r_pv T rfl rfl fun _ T => ?_
 refine r_pv T rfl rfl fun _ T => ?_
 refine r_alloc T S zv31 (cs := (y24)) rfl rfl fun _ _ b17 S T => ?_
 refine r_stBA (ix := 0) (vs := (y14 A13 x12 k14 A15 k16)) (l' := [blk b17 (y14 A13 x12 k14 A15 k16), sl .ro ku8 A13 k14 x12.1.Key, sl .ro ku8 A15 k16 x12.1.Value, (y10 A3 k4 x2), (y18 A5 k6 x2), (y11 A7 k8 x2), sl .own kapi_Value (some ⟨b10, 0, none⟩) 2 [(y7), (y6)], blk b9 (y0 x2 A3 k4 A5 k6 A7 k8)]) T S rfl rfl rfl rfl (by simp) Tryd.sizeOf31 (Nat.le_of_ble_eq_true rfl) rfl fun _ S => ?_
 refine r_pv T rfl rfl fun _ T => ?_
 refine Gets.seq ?_
 refine rg ?_
 refine r_ldBA (ix := 7) (ds := (y0 x2 A3 k4 A5 k6 A7 k8)) T S rfl Tryd.isAgg26 rfl rfl Tryd.sizeOf26 rfl fun _ T => ?_
 refine r_ldBA (ix := 0) (ds := (y14 A13 x12 k14 A15 k16)) T S rfl Tryd.isAgg31 rfl rfl Tryd.sizeOf31 rfl fun _ T => ?_
 obtain ⟨x19, h18, H⟩ := bd H
 refine r_call T Tryd.call9 rfl rfl (rowkey_TakeRow.ok _ _ z x2 x12.1 (S.sel (p := [(y10 A3 k4 x2), (y18 A5 k6 x2), (y11 A7 k8 x2), sl .ro ku8 A13 k14 x12.1.Key, sl .ro ku8 A15 k16 x12.1.Value]) (is := [3, 3, 3, 1, 1]) rfl) _ h18) ?_
 rintro _ _ ⟨A20, k21, rfl, S⟩
 refine ⟨_, rfl, fun _ T => ?_⟩
 replace S : SL ((y2 A20 k21 x19 A3 k4 x2 A5 k6 A7 k8 A13 k14 x12 A15 k16 b17 b10 b9) ++ F) _ := S.join
 refine r_pv T rfl rfl fun _ T => ?_
 refine r_pv T rfl rfl fun _ T => ?_
 refine r_pv T rfl rfl fun _ T => ?_
 refine r_pv T rfl rfl fun _ T => ?_
 refine r_pv T rfl rfl fun _ T => ?_
 refine Gets.seq (Gets.seq ?_)
 rcases ifE H with ⟨h22, H⟩ | ⟨h22, H⟩
 ·refine Gets.drawn (l := (y2 A20 k21 x19 A3 k4 x2 A5 k6 A7 k8 A13 k14 x12 A15 k16 b17 b10 b9)) (V := [some (.int .i64 x12.2, true), (y25 x12), (y25 x12), some (undef, true), some (undef, true), some (.bool true, true), some (.bool true, true), some (undef, true), some (undef, true), some (undef, true), some (undef, true), some (.bool true, true), some (.bool true, true), some (undef, true), some (undef, true), some (undef, true), some (undef, true), some (.bool true, true), some (.bool true, true), some (undef, true), some (undef, true), some (undef, true), some (.bool true, true), some (.bool true, true), some (undef, true), some (undef, true), some (undef, true), some (undef, true), some (undef, true), some (undef, true), some (undef, true), some (.bool true, true)]) mixed T S rfl ?_
  refine stage none rfl rfl ⟨⟨_, [(4, _)], rfl, ⟨.inr ⟨rfl, rfl⟩, trivial⟩, fun _ _ _ T S => r_pv T rfl rfl fun _ T => ⟨rfl, T⟩⟩, ⟨_, [(31, _)], rfl, ⟨.inl ⟨0, rfl, rfl, rfl, rfl⟩, trivial⟩, fun _ _ _ T S => r_pv T rfl rfl fun _ T => ⟨rfl, T⟩⟩, ⟨_, [(32, _)], rfl, ⟨.inl ⟨1, rfl, rfl, rfl, rfl⟩, trivial⟩, fun _ _ _ T S => r_pv T rfl rfl fun _ T => ⟨rfl, T⟩⟩, ⟨_, [(6, _), (33, _)], rfl, ⟨.inr ⟨rfl, rfl⟩, .inl ⟨2, rfl, rfl, rfl, rfl⟩, trivial⟩, fun _ _ _ T S => g_no T rfl rfl h22 rfl fun _ T => ⟨rfl, T⟩⟩, ⟨_, [(34, _), (33, _)], rfl, ⟨.inl ⟨3, rfl, rfl, rfl, rfl⟩, .inl ⟨2, rfl, rfl, rfl, rfl⟩, trivial⟩, fun _ _ _ T S => g_no T rfl rfl h22 rfl fun _ T => ⟨rfl, T⟩⟩, ⟨_, [(33, _), (35, _)], rfl, ⟨.inl ⟨2, rfl, rfl, rfl, rfl⟩, .inl ⟨4, rfl, rfl, rfl, rfl⟩, trivial⟩, fun _ _ _ T S => r_pickT T rfl h22 rfl rfl fun _ T => ⟨rfl, T⟩⟩, ⟨_, [(36, _)], rfl, ⟨.inl ⟨5, rfl, rfl, rfl, rfl⟩, trivial⟩, fun _ _ _ T S => r_pv T rfl rfl fun _ T => ⟨rfl, T⟩⟩, ⟨_, [(3, _), (37, _)], rfl, ⟨.inr ⟨rfl, rfl⟩, .inl ⟨6, rfl, rfl, rfl, rfl⟩, trivial⟩, fun _ _ _ T S => g_no T rfl rfl rfl rfl fun _ T => ⟨rfl, T⟩⟩, ⟨_, [(38, _), (37, _)], rfl, ⟨.inl ⟨7, rfl, rfl, rfl, rfl⟩, .inl ⟨6, rfl, rfl, rfl, rfl⟩, trivial⟩, fun _ _ _ T S => g_no T rfl rfl rfl rfl fun _ T => ⟨rfl, T⟩⟩, ⟨_, [(39, _), (37, _)], rfl, ⟨.inl ⟨8, rfl, rfl, rfl, rfl⟩, .inl ⟨6, rfl, rfl, rfl, rfl⟩, trivial⟩, fun _ _ _ T S => g_no T rfl rfl rfl rfl fun _ T => ⟨rfl, T⟩⟩, ⟨_, [(40, _), (37, _)], rfl, ⟨.inl ⟨9, rfl, rfl, rfl, rfl⟩, .inl ⟨6, rfl, rfl, rfl, rfl⟩, trivial⟩, fun _ _ _ T S => g_no T rfl rfl rfl rfl fun _ T => ⟨rfl, T⟩⟩, ⟨_, [(37, _), (41, _)], rfl, ⟨.inl ⟨6, rfl, rfl, rfl, rfl⟩, .inl ⟨10, rfl, rfl, rfl, rfl⟩, trivial⟩, fun _ _ _ T S => r_pickT T rfl rfl rfl rfl fun _ T => ⟨rfl, T⟩⟩, ⟨_, [(42, _)], rfl, ⟨.inl ⟨11, rfl, rfl, rfl, rfl⟩, trivial⟩, fun _ _ _ T S => r_pv T rfl rfl fun _ T => ⟨rfl, T⟩⟩, ⟨_, [(3, _), (43, _)], rfl, ⟨.inr ⟨rfl, rfl⟩, .inl ⟨12, rfl, rfl, rfl, rfl⟩, trivial⟩, fun _ _ _ T S => g_no T rfl rfl rfl rfl fun _ T => ⟨rfl, T⟩⟩, ⟨_, [(44, _), (43, _)], rfl, ⟨.inl ⟨13, rfl, rfl, rfl, rfl⟩, .inl ⟨12, rfl, rfl, rfl, rfl⟩, trivial⟩, fun _ _ _ T S => g_no T rfl rfl rfl rfl fun _ T => ⟨rfl, T⟩⟩, ⟨_, [(45, _), (43, _)], rfl, ⟨.inl ⟨14, rfl, rfl, rfl, rfl⟩, .inl ⟨12, rfl, rfl, rfl, rfl⟩, trivial⟩, fun _ _ _ T S => g_no T rfl rfl rfl rfl fun _ T => ⟨rfl, T⟩⟩, ⟨_, [(46, _), (43, _)], rfl, ⟨.inl ⟨15, rfl, rfl, rfl, rfl⟩, .inl ⟨12, rfl, rfl, rfl, rfl⟩, trivial⟩, fun _ _ _ T S => g_no T rfl rfl rfl rfl fun _ T => ⟨rfl, T⟩⟩, ⟨_, [(43, _), (47, _)], rfl, ⟨.inl ⟨12, rfl, rfl, rfl, rfl⟩, .inl ⟨16, rfl, rfl, rfl, rfl⟩, trivial⟩, fun _ _ _ T S => r_pickT T rfl rfl rfl rfl fun _ T => ⟨rfl, T⟩⟩, ⟨_, [(48, _)], rfl, ⟨.inl ⟨17, rfl, rfl, rfl, rfl⟩, trivial⟩, fun _ _ _ T S => r_pv T rfl rfl fun _ T => ⟨rfl, T⟩⟩, ⟨_, [(5, _), (49, _)], rfl, ⟨.inr ⟨rfl, rfl⟩, .inl ⟨18, rfl, rfl, rfl, rfl⟩, trivial⟩, fun _ _ _ T S => g_no T rfl rfl rfl rfl fun _ T => ⟨rfl, T⟩⟩, ⟨_, [(50, _), (49, _)], rfl, ⟨.inl ⟨19, rfl, rfl, rfl, rfl⟩, .inl ⟨18, rfl, rfl, rfl, rfl⟩, trivial⟩, fun _ _ _ T S => g_no T rfl rfl rfl rfl fun _ T => ⟨rfl, T⟩⟩, ⟨_, [(51, _), (49, _)], rfl, ⟨.inl ⟨20, rfl, rfl, rfl, rfl⟩, .inl ⟨18, rfl, rfl, rfl, rfl⟩, trivial⟩, fun _ _ _ T S => g_no T rfl rfl rfl rfl fun _ T => ⟨rfl, T⟩⟩, ⟨_, [(49, _), (52, _)], rfl, ⟨.inl ⟨18, rfl, rfl, rfl, rfl⟩, .inl ⟨21, rfl, rfl, rfl, rfl⟩, trivial⟩, fun _ _ _ T S => r_pickT T rfl rfl rfl rfl fun _ T => ⟨rfl, T⟩⟩, ⟨_, [(53, _)], rfl, ⟨.inl ⟨22, rfl, rfl, rfl, rfl⟩, trivial⟩, fun _ _ _ T S => r_pv T rfl rfl fun _ T => ⟨rfl, T⟩⟩, ⟨_, [(5, _), (54, _)], rfl, ⟨.inr ⟨rfl, rfl⟩, .inl ⟨23, rfl, rfl, rfl, rfl⟩, trivial⟩, fun _ _ _ T S => g_no T rfl rfl rfl rfl fun _ T => ⟨rfl, T⟩⟩, ⟨_, [(55, _), (54, _)], rfl, ⟨.inl ⟨24, rfl, rfl, rfl, rfl⟩, .inl ⟨23, rfl, rfl, rfl, rfl⟩, trivial⟩, fun _ _ _ T S => g_no T rfl rfl rfl rfl fun _ T => ⟨rfl, T⟩⟩, ⟨_, [(56, _), (54, _)], rfl, ⟨.inl ⟨25, rfl, rfl, rfl, rfl⟩, .inl ⟨23, rfl, rfl, rfl, rfl⟩, trivial⟩, fun _ _ _ T S => g_no T rfl rfl rfl rfl fun _ T => ⟨rfl, T⟩⟩, ⟨_, [(2, _), (54, _)], rfl, ⟨.inr ⟨rfl, rfl⟩, .inl ⟨23, rfl, rfl, rfl, rfl⟩, trivial⟩, fun _ _ _ T S => g_no T rfl rfl rfl rfl fun _ T => ⟨rfl, T⟩⟩, ⟨_, [(58, _), (54, _)], rfl, ⟨.inl ⟨27, rfl, rfl, rfl, rfl⟩, .inl ⟨23, rfl, rfl, rfl, rfl⟩, trivial⟩, fun _ _ _ T S => g_no T rfl rfl rfl rfl fun _ T => ⟨rfl, T⟩⟩, ⟨_, [(59, _), (54, _)], rfl, ⟨.inl ⟨28, rfl, rfl, rfl, rfl⟩, .inl ⟨23, rfl, rfl, rfl, rfl⟩, trivial⟩, fun _ _ _ T S => g_no T rfl rfl rfl rfl fun _ T => ⟨rfl, T⟩⟩, ⟨_, [(57, _), (60, _), (54, _)], rfl, ⟨.inl ⟨26, rfl, rfl, rfl, rfl⟩, .inl ⟨29, rfl, rfl, rfl, rfl⟩, .inl ⟨23, rfl, rfl, rfl, rfl⟩, trivial⟩, fun _ _ _ T S => g_no T rfl rfl rfl rfl fun _ T => ⟨rfl, T⟩⟩, ⟨_, [(54, _), (61, _)], rfl, ⟨.inl ⟨23, rfl, rfl, rfl, rfl⟩, .inl ⟨30, rfl, rfl, rfl, rfl⟩, trivial⟩, fun _ _ _ T S => r_pickT T rfl rfl rfl rfl fun _ T => ⟨rfl, T⟩⟩, trivial⟩ rfl (fun i hi => by cases hi) (fun _ _ a w T hv hb S => ?_)
  replace T := T.sub (r := [(y20 b9), (2, (y17 b10)), (62, .bool true)]) ⟨hb 1 _ rfl rfl, hb 2 _ rfl rfl, hv 31 _ 62 rfl rfl rfl, trivial⟩
  refine cdT T rfl rfl ?_
  refine Gets.seq ?_
  exact J0_ok F r z _ _ (T.sub trivial) (S.only (p := []) [] rfl) H
 ·rcases ifE H with ⟨h23, H⟩ | ⟨h23, H⟩
  ·refine Gets.drawn (l := (y2 A20 k21 x19 A3 k4 x2 A5 k6 A7 k8 A13 k14 x12 A15 k16 b17 b10 b9)) (V := [some (.int .i64 x12.2, true), (y25 x12), (y25 x12), some (.int .i64 x19.2, true), (y19 x19), (y19 x19), (y19 x19), some (undef, true), some (undef, true), some (undef, true), some (undef, true), some (.bool true, true), some (.bool true, true), some (undef, true), some (undef, true), some (undef, true), some (undef, true), some (.bool true, true), some (.bool true, true), some (undef, true), some (undef, true), some (undef, true), some (.bool true, true), some (.bool true, true), some (undef, true), some (undef, true), some (undef, true), some (undef, true), some (undef, true), some (undef, true), some (undef, true), some (.bool true, true)]) mixed T S rfl ?_
   refine stage none rfl rfl ⟨⟨_, [(4, _)], rfl, ⟨.inr ⟨rfl, rfl⟩, trivial⟩, fun _ _ _ T S => r_pv T rfl rfl fun _ T => ⟨rfl, T⟩⟩, ⟨_, [(31, _)], rfl, ⟨.inl ⟨0, rfl, rfl, rfl, rfl⟩, trivial⟩, fun _ _ _ T S => r_pv T rfl rfl fun _ T => ⟨rfl, T⟩⟩, ⟨_, [(32, _)], rfl, ⟨.inl ⟨1, rfl, rfl, rfl, rfl⟩, trivial⟩, fun _ _ _ T S => r_pv T rfl rfl fun _ T => ⟨rfl, T⟩⟩, ⟨_, [(6, _), (33, _)], rfl, ⟨.inr ⟨rfl, rfl⟩, .inl ⟨2, rfl, rfl, rfl, rfl⟩, trivial⟩, fun _ _ _ T S => g_yes T rfl rfl h22 (r_pv T rfl rfl fun _ T => ⟨rfl, T⟩)⟩, ⟨_, [(34, _), (33, _)], rfl, ⟨.inl ⟨3, rfl, rfl, rfl, rfl⟩, .inl ⟨2, rfl, rfl, rfl, rfl⟩, trivial⟩, fun _ _ _ T S => g_yes T rfl rfl h22 (r_pv T rfl rfl fun _ T => ⟨rfl, T⟩)⟩, ⟨_, [(33, _), (35, _)], rfl, ⟨.inl ⟨2, rfl, rfl, rfl, rfl⟩, .inl ⟨4, rfl, rfl, rfl, rfl⟩, trivial⟩, fun _ _ _ T S => r_pickF T rfl h22 rfl rfl fun _ T => ⟨rfl, T⟩⟩, ⟨_, [(36, _)], rfl, ⟨.inl ⟨5, rfl, rfl, rfl, rfl⟩, trivial⟩, fun _ _ _ T S => r_pv T rfl rfl fun _ T => ⟨rfl, T⟩⟩, ⟨_, [(3, _), (37, _)], rfl, ⟨.inr ⟨rfl, rfl⟩, .inl ⟨6, rfl, rfl, rfl, rfl⟩, trivial⟩, fun _ _ _ T S => g_no T rfl rfl h23 rfl fun _ T => ⟨rfl, T⟩⟩, ⟨_, [(38, _), (37, _)], rfl, ⟨.inl ⟨7, rfl, rfl, rfl, rfl⟩, .inl ⟨6, rfl, rfl, rfl, rfl⟩, trivial⟩, fun _ _ _ T S => g_no T rfl rfl h23 rfl fun _ T => ⟨rfl, T⟩⟩, ⟨_, [(39, _), (37, _)], rfl, ⟨.inl ⟨8, rfl, rfl, rfl, rfl⟩, .inl ⟨6, rfl, rfl, rfl, rfl⟩, trivial⟩, fun _ _ _ T S => g_no T rfl rfl h23 rfl fun _ T => ⟨rfl, T⟩⟩, ⟨_, [(40, _), (37, _)], rfl, ⟨.inl ⟨9, rfl, rfl, rfl, rfl⟩, .inl ⟨6, rfl, rfl, rfl, rfl⟩, trivial⟩, fun _ _ _ T S => g_no T rfl rfl h23 rfl fun _ T => ⟨rfl, T⟩⟩, ⟨_, [(37, _), (41, _)], rfl, ⟨.inl ⟨6, rfl, rfl, rfl, rfl⟩, .inl ⟨10, rfl, rfl, rfl, rfl⟩, trivial⟩, fun _ _ _ T S => r_pickT T rfl h23 rfl rfl fun _ T => ⟨rfl, T⟩⟩, ⟨_, [(42, _)], rfl, ⟨.inl ⟨11, rfl, rfl, rfl, rfl⟩, trivial⟩, fun _ _ _ T S => r_pv T rfl rfl fun _ T => ⟨rfl, T⟩⟩, ⟨_, [(3, _), (43, _)], rfl, ⟨.inr ⟨rfl, rfl⟩, .inl ⟨12, rfl, rfl, rfl, rfl⟩, trivial⟩, fun _ _ _ T S => g_no T rfl rfl rfl rfl fun _ T => ⟨rfl, T⟩⟩, ⟨_, [(44, _), (43, _)], rfl, ⟨.inl ⟨13, rfl, rfl, rfl, rfl⟩, .inl ⟨12, rfl, rfl, rfl, rfl⟩, trivial⟩, fun _ _ _ T S => g_no T rfl rfl rfl rfl fun _ T => ⟨rfl, T⟩⟩, ⟨_, [(45, _), (43, _)], rfl, ⟨.inl ⟨14, rfl, rfl, rfl, rfl⟩, .inl ⟨12, rfl, rfl, rfl, rfl⟩, trivial⟩, fun _ _ _ T S => g_no T rfl rfl rfl rfl fun _ T => ⟨rfl, T⟩⟩, ⟨_, [(46, _), (43, _)], rfl, ⟨.inl ⟨15, rfl, rfl, rfl, rfl⟩, .inl ⟨12, rfl, rfl, rfl, rfl⟩, trivial⟩, fun _ _ _ T S => g_no T rfl rfl rfl rfl fun _ T => ⟨rfl, T⟩⟩, ⟨_, [(43, _), (47, _)], rfl, ⟨.inl ⟨12, rfl, rfl, rfl, rfl⟩, .inl ⟨16, rfl, rfl, rfl, rfl⟩, trivial⟩, fun _ _ _ T S => r_pickT T rfl rfl rfl rfl fun _ T => ⟨rfl, T⟩⟩, ⟨_, [(48, _)], rfl, ⟨.inl ⟨17, rfl, rfl, rfl, rfl⟩, trivial⟩, fun _ _ _ T S => r_pv T rfl rfl fun _ T => ⟨rfl, T⟩⟩, ⟨_, [(5, _), (49, _)], rfl, ⟨.inr ⟨rfl, rfl⟩, .inl ⟨18, rfl, rfl, rfl, rfl⟩, trivial⟩, fun _ _ _ T S => g_no T rfl rfl rfl rfl fun _ T => ⟨rfl, T⟩⟩, ⟨_, [(50, _), (49, _)], rfl, ⟨.inl ⟨19, rfl, rfl, rfl, rfl⟩, .inl ⟨18, rfl, rfl, rfl, rfl⟩, trivial⟩, fun _ _ _ T S => g_no T rfl rfl rfl rfl fun _ T => ⟨rfl, T⟩⟩, ⟨_, [(51, _), (49, _)], rfl, ⟨.inl ⟨20, rfl, rfl, rfl, rfl⟩, .inl ⟨18, rfl, rfl, rfl, rfl⟩, trivial⟩, fun _ _ _ T S => g_no T rfl rfl rfl rfl fun _ T => ⟨rfl, T⟩⟩, ⟨_, [(49, _), (52, _)], rfl, ⟨.inl ⟨18, rfl, rfl, rfl, rfl⟩, .inl ⟨21, rfl, rfl, rfl, rfl⟩, trivial⟩, fun _ _ _ T S => r_pickT T rfl rfl rfl rfl fun _ T => ⟨rfl, T⟩⟩, ⟨_, [(53, _)], rfl, ⟨.inl ⟨22, rfl, rfl, rfl, rfl⟩, trivial⟩, fun _ _ _ T S => r_pv T rfl rfl fun _ T => ⟨rfl, T⟩⟩, ⟨_, [(5, _), (54, _)], rfl, ⟨.inr ⟨rfl, rfl⟩, .inl ⟨23, rfl, rfl, rfl, rfl⟩, trivial⟩, fun _ _ _ T S => g_no T rfl rfl rfl rfl fun _ T => ⟨rfl, T⟩⟩, ⟨_, [(55, _), (54, _)], rfl, ⟨.inl ⟨24, rfl, rfl, rfl, rfl⟩, .inl ⟨23, rfl, rfl, rfl, rfl⟩, trivial⟩, fun _ _ _ T S => g_no T rfl rfl rfl rfl fun _ T => ⟨rfl, T⟩⟩, ⟨_, [(56, _), (54, _)], rfl, ⟨.inl ⟨25, rfl, rfl, rfl, rfl⟩, .inl ⟨23, rfl, rfl, rfl, rfl⟩, trivial⟩, fun _ _ _ T S => g_no T rfl rfl rfl rfl fun _ T => ⟨rfl, T⟩⟩, ⟨_, [(2, _), (54, _)], rfl, ⟨.inr ⟨rfl, rfl⟩, .inl ⟨23, rfl, rfl, rfl, rfl⟩, trivial⟩, fun _ _ _ T S => g_no T rfl rfl rfl rfl fun _ T => ⟨rfl, T⟩⟩, ⟨_, [(58, _), (54, _)], rfl, ⟨.inl ⟨27, rfl, rfl, rfl, rfl⟩, .inl ⟨23, rfl, rfl, rfl, rfl⟩, trivial⟩, fun _ _ _ T S => g_no T rfl rfl rfl rfl fun _ T => ⟨rfl, T⟩⟩, ⟨_, [(59, _), (54, _)], rfl, ⟨.inl ⟨28, rfl, rfl, rfl, rfl⟩, .inl ⟨23, rfl, rfl, rfl, rfl⟩, trivial⟩, fun _ _ _ T S => g_no T rfl rfl rfl rfl fun _ T => ⟨rfl, T⟩⟩, ⟨_, [(57, _), (60, _), (54, _)], rfl, ⟨.inl ⟨26, rfl, rfl, rfl, rfl⟩, .inl ⟨29, rfl, rfl, rfl, rfl⟩, .inl ⟨23, rfl, rfl, rfl, rfl⟩, trivial⟩, fun _ _ _ T S => g_no T rfl rfl rfl rfl fun _ T => ⟨rfl, T⟩⟩, ⟨_, [(54, _), (61, _)], rfl, ⟨.inl ⟨23, rfl, rfl, rfl, rfl⟩, .inl ⟨30, rfl, rfl, rfl, rfl⟩, trivial⟩, fun _ _ _ T S => r_pickT T rfl rfl rfl rfl fun _ T => ⟨rfl, T⟩⟩, trivial⟩ rfl (fun i hi => by cases hi) (fun _ _ a w T hv hb S => ?_)
   replace T := T.sub (r := [(y20 b9), (2, (y17 b10)), (62, .bool true)]) ⟨hb 1 _ rfl rfl, hb 2 _ rfl rfl, hv 31 _ 62 rfl rfl rfl, trivial⟩
   refine cdT T rfl rfl ?_
   refine Gets.seq ?_
   exact J0_ok F r z _ _ (T.sub trivial) (S.only (p := []) [] rfl) H
  ·rcases ifE H with ⟨h24, H⟩ | ⟨h24, H⟩
   ·refine Gets.drawn (l := (y2 A20 k21 x19 A3 k4 x2 A5 k6 A7 k8 A13 k14 x12 A15 k16 b17 b10 b9)) (V := [some (.int .i64 x12.2, true), (y25 x12), (y25 x12), some (.int .i64 x19.2, true), (y19 x19), (y19 x19), (y19 x19), some (.pointer (some ⟨b17, 0, none⟩), true), some (.slice A13 x12.1.Key.length k14, true), some (.int .i64 (x12.1.Key.length : Int), true), (y16 x12), (y16 x12), (y16 x12), some (undef, true), some (undef, true), some (undef, true), some (undef, true), some (.bool true, true), some (.bool true, true), some (undef, true), some (undef, true), some (undef, true), some (.bool true, true), some (.bool true, true), some (undef, true), some (undef, true), some (undef, true), some (undef, true), some (undef, true), some (undef, true), some (undef, true), some (.bool true, true)]) mixed T S rfl ?_
    refine stage none rfl rfl ⟨⟨_, [(4, _)], rfl, ⟨.inr ⟨rfl, rfl⟩, trivial⟩, fun _ _ _ T S => r_pv T rfl rfl fun _ T => ⟨rfl, T⟩⟩, ⟨_, [(31, _)], rfl, ⟨.inl ⟨0, rfl, rfl, rfl, rfl⟩, trivial⟩, fun _ _ _ T S => r_pv T rfl rfl fun _ T => ⟨rfl, T⟩⟩, ⟨_, [(32, _)], rfl, ⟨.inl ⟨1, rfl, rfl, rfl, rfl⟩, trivial⟩, fun _ _ _ T S => r_pv T rfl rfl fun _ T => ⟨rfl, T⟩⟩, ⟨_, [(6, _), (33, _)], rfl, ⟨.inr ⟨rfl, rfl⟩, .inl ⟨2, rfl, rfl, rfl, rfl⟩, trivial⟩, fun _ _ _ T S => g_yes T rfl rfl h22 (r_pv T rfl rfl fun _ T => ⟨rfl, T⟩)⟩, ⟨_, [(34, _), (33, _)], rfl, ⟨.inl ⟨3, rfl, rfl, rfl, rfl⟩, .inl ⟨2, rfl, rfl, rfl, rfl⟩, trivial⟩, fun _ _ _ T S => g_yes T rfl rfl h22 (r_pv T rfl rfl fun _ T => ⟨rfl, T⟩)⟩, ⟨_, [(33, _), (35, _)], rfl, ⟨.inl ⟨2, rfl, rfl, rfl, rfl⟩, .inl ⟨4, rfl, rfl, rfl, rfl⟩, trivial⟩, fun _ _ _ T S => r_pickF T rfl h22 rfl rfl fun _ T => ⟨rfl, T⟩⟩, ⟨_, [(36, _)], rfl, ⟨.inl ⟨5, rfl, rfl, rfl, rfl⟩, trivial⟩, fun _ _ _ T S => r_pv T rfl rfl fun _ T => ⟨rfl, T⟩⟩, ⟨_, [(3, _), (37, _)], rfl, ⟨.inr ⟨rfl, rfl⟩, .inl ⟨6, rfl, rfl, rfl, rfl⟩, trivial⟩, fun _ _ _ T S => g_yes T rfl rfl h23 (r_fa (o' := 0) T rfl Tryd.runUnderlying31 rfl Tryd.sizeOf29 rfl rfl fun _ T => ⟨rfl, T⟩)⟩, ⟨_, [(38, _), (37, _)], rfl, ⟨.inl ⟨7, rfl, rfl, rfl, rfl⟩, .inl ⟨6, rfl, rfl, rfl, rfl⟩, trivial⟩, fun _ _ _ T S => g_yes T rfl rfl h23 (r_ldB (ix := 6) T S rfl Tryd.isAgg29 rfl rfl rfl fun _ T => ⟨rfl, T⟩)⟩, ⟨_, [(39, _), (37, _)], rfl, ⟨.inl ⟨8, rfl, rfl, rfl, rfl⟩, .inl ⟨6, rfl, rfl, rfl, rfl⟩, trivial⟩, fun _ _ _ T S => g_yes T rfl rfl h23 (r_lenS T rfl Tryd.runUnderlying29 rfl fun _ T => ⟨rfl, T⟩)⟩, ⟨_, [(40, _), (37, _)], rfl, ⟨.inl ⟨9, rfl, rfl, rfl, rfl⟩, .inl ⟨6, rfl, rfl, rfl, rfl⟩, trivial⟩, fun _ _ _ T S => g_yes T rfl rfl h23 (r_pv T rfl rfl fun _ T => ⟨rfl, T⟩)⟩, ⟨_, [(37, _), (41, _)], rfl, ⟨.inl ⟨6, rfl, rfl, rfl, rfl⟩, .inl ⟨10, rfl, rfl, rfl, rfl⟩, trivial⟩, fun _ _ _ T S => r_pickF T rfl h23 rfl rfl fun _ T => ⟨rfl, T⟩⟩, ⟨_, [(42, _)], rfl, ⟨.inl ⟨11, rfl, rfl, rfl, rfl⟩, trivial⟩, fun _ _ _ T S => r_pv T rfl rfl fun _ T => ⟨rfl, T⟩⟩, ⟨_, [(3, _), (43, _)], rfl, ⟨.inr ⟨rfl, rfl⟩, .inl ⟨12, rfl, rfl, rfl, rfl⟩, trivial⟩, fun _ _ _ T S => g_no T rfl rfl h24 rfl fun _ T => ⟨rfl, T⟩⟩, ⟨_, [(44, _), (43, _)], rfl, ⟨.inl ⟨13, rfl, rfl, rfl, rfl⟩, .inl ⟨12, rfl, rfl, rfl, rfl⟩, trivial⟩, fun _ _ _ T S => g_no T rfl rfl h24 rfl fun _ T => ⟨rfl, T⟩⟩, ⟨_, [(45, _), (43, _)], rfl, ⟨.inl ⟨14, rfl, rfl, rfl, rfl⟩, .inl ⟨12, rfl, rfl, rfl, rfl⟩, trivial⟩, fun _ _ _ T S => g_no T rfl rfl h24 rfl fun _ T => ⟨rfl, T⟩⟩, ⟨_, [(46, _), (43, _)], rfl, ⟨.inl ⟨15, rfl, rfl, rfl, rfl⟩, .inl ⟨12, rfl, rfl, rfl, rfl⟩, trivial⟩, fun _ _ _ T S => g_no T rfl rfl h24 rfl fun _ T => ⟨rfl, T⟩⟩, ⟨_, [(43, _), (47, _)], rfl, ⟨.inl ⟨12, rfl, rfl, rfl, rfl⟩, .inl ⟨16, rfl, rfl, rfl, rfl⟩, trivial⟩, fun _ _ _ T S => r_pickT T rfl h24 rfl rfl fun _ T => ⟨rfl, T⟩⟩, ⟨_, [(48, _)], rfl, ⟨.inl ⟨17, rfl, rfl, rfl, rfl⟩, trivial⟩, fun _ _ _ T S => r_pv T rfl rfl fun _ T => ⟨rfl, T⟩⟩, ⟨_, [(5, _), (49, _)], rfl, ⟨.inr ⟨rfl, rfl⟩, .inl ⟨18, rfl, rfl, rfl, rfl⟩, trivial⟩, fun _ _ _ T S => g_no T rfl rfl rfl rfl fun _ T => ⟨rfl, T⟩⟩, ⟨_, [(50, _), (49, _)], rfl, ⟨.inl ⟨19, rfl, rfl, rfl, rfl⟩, .inl ⟨18, rfl, rfl, rfl, rfl⟩, trivial⟩, fun _ _ _ T S => g_no T rfl rfl rfl rfl fun _ T => ⟨rfl, T⟩⟩, ⟨_, [(51, _), (49, _)], rfl, ⟨.inl ⟨20, rfl, rfl, rfl, rfl⟩, .inl ⟨18, rfl, rfl, rfl, rfl⟩, trivial⟩, fun _ _ _ T S => g_no T rfl rfl rfl rfl fun _ T => ⟨rfl, T⟩⟩, ⟨_, [(49, _), (52, _)], rfl, ⟨.inl ⟨18, rfl, rfl, rfl, rfl⟩, .inl ⟨21, rfl, rfl, rfl, rfl⟩, trivial⟩, fun _ _ _ T S => r_pickT T rfl rfl rfl rfl fun _ T => ⟨rfl, T⟩⟩, ⟨_, [(53, _)], rfl, ⟨.inl ⟨22, rfl, rfl, rfl, rfl⟩, trivial⟩, fun _ _ _ T S => r_pv T rfl rfl fun _ T => ⟨rfl, T⟩⟩, ⟨_, [(5, _), (54, _)], rfl, ⟨.inr ⟨rfl, rfl⟩, .inl ⟨23, rfl, rfl, rfl, rfl⟩, trivial⟩, fun _ _ _ T S => g_no T rfl rfl rfl rfl fun _ T => ⟨rfl, T⟩⟩, ⟨_, [(55, _), (54, _)], rfl, ⟨.inl ⟨24, rfl, rfl, rfl, rfl⟩, .inl ⟨23, rfl, rfl, rfl, rfl⟩, trivial⟩, fun _ _ _ T S => g_no T rfl rfl rfl rfl fun _ T => ⟨rfl, T⟩⟩, ⟨_, [(56, _), (54, _)], rfl, ⟨.inl ⟨25, rfl, rfl, rfl, rfl⟩, .inl ⟨23, rfl, rfl, rfl, rfl⟩, trivial⟩, fun _ _ _ T S => g_no T rfl rfl rfl rfl fun _ T => ⟨rfl, T⟩⟩, ⟨_, [(2, _), (54, _)], rfl, ⟨.inr ⟨rfl, rfl⟩, .inl ⟨23, rfl, rfl, rfl, rfl⟩, trivial⟩, fun _ _ _ T S => g_no T rfl rfl rfl rfl fun _ T => ⟨rfl, T⟩⟩, ⟨_, [(58, _), (54, _)], rfl, ⟨.inl ⟨27, rfl, rfl, rfl, rfl⟩, .inl ⟨23, rfl, rfl, rfl, rfl⟩, trivial⟩, fun _ _ _ T S => g_no T rfl rfl rfl rfl fun _ T => ⟨rfl, T⟩⟩, ⟨_, [(59, _), (54, _)], rfl, ⟨.inl ⟨28, rfl, rfl, rfl, rfl⟩, .inl ⟨23, rfl, rfl, rfl, rfl⟩, trivial⟩, fun _ _ _ T S => g_no T rfl rfl rfl rfl fun _ T => ⟨rfl, T⟩⟩, ⟨_, [(57, _), (60, _), (54, _)], rfl, ⟨.inl ⟨26, rfl, rfl, rfl, rfl⟩, .inl ⟨29, rfl, rfl, rfl, rfl⟩, .inl ⟨23, rfl, rfl, rfl, rfl⟩, trivial⟩, fun _ _ _ T S => g_no T rfl rfl rfl rfl fun _ T => ⟨rfl, T⟩⟩, ⟨_, [(54, _), (61, _)], rfl, ⟨.inl ⟨23, rfl, rfl, rfl, rfl⟩, .inl ⟨30, rfl, rfl, rfl, rfl⟩, trivial⟩, fun _ _ _ T S => r_pickT T rfl rfl rfl rfl fun _ T => ⟨rfl, T⟩⟩, trivial⟩ rfl (fun i hi => by cases hi) (fun _ _ a w T hv hb S => ?_)
    replace T := T.sub (r := [(y20 b9), (2, (y17 b10)), (62, .bool true)]) ⟨hb 1 _ rfl rfl, hb 2 _ rfl rfl, hv 31 _ 62 rfl rfl rfl, trivial⟩
    refine cdT T rfl rfl ?_
    refine Gets.seq ?_
    exact J0_ok F r z _ _ (T.sub trivial) (S.only (p := []) [] rfl) H
   ·rcases ifE H with ⟨h25, H⟩ | ⟨h25, H⟩
    ·refine Gets.drawn (l := (y2 A20 k21 x19 A3 k4 x2 A5 k6 A7 k8 A13 k14 x12 A15 k16 b17 b10 b9)) (V := [some (.int .i64 x12.2, true), (y25 x12), (y25 x12), some (.int .i64 x19.2, true), (y19 x19), (y19 x19), (y19 x19), some (.pointer (some ⟨b17, 0, none⟩), true), some (.slice A13 x12.1.Key.length k14, true), some (.int .i64 (x12.1.Key.length : Int), true), (y16 x12), (y16 x12), (y16 x12), some (.pointer (some ⟨b17, 1, none⟩), true), some (.slice A15 x12.1.Value.length k16, true), some (.string (bstr x12.1.Value), true), (y12 x12), (y12 x12), (y12 x12), some (undef, true), some (undef, true), some (undef, true), some (.bool true, true), some (.bool true, true), some (undef, true), some (undef, true), some (undef, true), some (undef, true), some (undef, true), some (undef, true), some (undef, true), some (.bool true, true)]) mixed T S rfl ?_
     refine stage none rfl rfl ⟨⟨_, [(4, _)], rfl, ⟨.inr ⟨rfl, rfl⟩, trivial⟩, fun _ _ _ T S => r_pv T rfl rfl fun _ T => ⟨rfl, T⟩⟩, ⟨_, [(31, _)], rfl, ⟨.inl ⟨0, rfl, rfl, rfl, rfl⟩, trivial⟩, fun _ _ _ T S => r_pv T rfl rfl fun _ T => ⟨rfl, T⟩⟩, ⟨_, [(32, _)], rfl, ⟨.inl ⟨1, rfl, rfl, rfl, rfl⟩, trivial⟩, fun _ _ _ T S => r_pv T rfl rfl fun _ T => ⟨rfl, T⟩⟩, ⟨_, [(6, _), (33, _)], rfl, ⟨.inr ⟨rfl, rfl⟩, .inl ⟨2, rfl, rfl, rfl, rfl⟩, trivial⟩, fun _ _ _ T S => g_yes T rfl rfl h22 (r_pv T rfl rfl fun _ T => ⟨rfl, T⟩)⟩, ⟨_, [(34, _), (33, _)], rfl, ⟨.inl ⟨3, rfl, rfl, rfl, rfl⟩, .inl ⟨2, rfl, rfl, rfl, rfl⟩, trivial⟩, fun _ _ _ T S => g_yes T rfl rfl h22 (r_pv T rfl rfl fun _ T => ⟨rfl, T⟩)⟩, ⟨_, [(33, _), (35, _)], rfl, ⟨.inl ⟨2, rfl, rfl, rfl, rfl⟩, .inl ⟨4, rfl, rfl, rfl, rfl⟩, trivial⟩, fun _ _ _ T S => r_pickF T rfl h22 rfl rfl fun _ T => ⟨rfl, T⟩⟩, ⟨_, [(36, _)], rfl, ⟨.inl ⟨5, rfl, rfl, rfl, rfl⟩, trivial⟩, fun _ _ _ T S => r_pv T rfl rfl fun _ T => ⟨rfl, T⟩⟩, ⟨_, [(3, _), (37, _)], rfl, ⟨.inr ⟨rfl, rfl⟩, .inl ⟨6, rfl, rfl, rfl, rfl⟩, trivial⟩, fun _ _ _ T S => g_yes T rfl rfl h23 (r_fa (o' := 0) T rfl Tryd.runUnderlying31 rfl Tryd.sizeOf29 rfl rfl fun _ T => ⟨rfl, T⟩)⟩, ⟨_, [(38, _), (37, _)], rfl, ⟨.inl ⟨7, rfl, rfl, rfl, rfl⟩, .inl ⟨6, rfl, rfl, rfl, rfl⟩, trivial⟩, fun _ _ _ T S => g_yes T rfl rfl h23 (r_ldB (ix := 6) T S rfl Tryd.isAgg29 rfl rfl rfl fun _ T => ⟨rfl, T⟩)⟩, ⟨_, [(39, _), (37, _)], rfl, ⟨.inl ⟨8, rfl, rfl, rfl, rfl⟩, .inl ⟨6, rfl, rfl, rfl, rfl⟩, trivial⟩, fun _ _ _ T S => g_yes T rfl rfl h23 (r_lenS T rfl Tryd.runUnderlying29 rfl fun _ T => ⟨rfl, T⟩)⟩, ⟨_, [(40, _), (37, _)], rfl, ⟨.inl ⟨9, rfl, rfl, rfl, rfl⟩, .inl ⟨6, rfl, rfl, rfl, rfl⟩, trivial⟩, fun _ _ _ T S => g_yes T rfl rfl h23 (r_pv T rfl rfl fun _ T => ⟨rfl, T⟩)⟩, ⟨_, [(37, _), (41, _)], rfl, ⟨.inl ⟨6, rfl, rfl, rfl, rfl⟩, .inl ⟨10, rfl, rfl, rfl, rfl⟩, trivial⟩, fun _ _ _ T S => r_pickF T rfl h23 rfl rfl fun _ T => ⟨rfl, T⟩⟩, ⟨_, [(42, _)], rfl, ⟨.inl ⟨11, rfl, rfl, rfl, rfl⟩, trivial⟩, fun _ _ _ T S => r_pv T rfl rfl fun _ T => ⟨rfl, T⟩⟩, ⟨_, [(3, _), (43, _)], rfl, ⟨.inr ⟨rfl, rfl⟩, .inl ⟨12, rfl, rfl, rfl, rfl⟩, trivial⟩, fun _ _ _ T S => g_yes T rfl rfl h24 (r_fa (o' := 1) T rfl Tryd.runUnderlying31 rfl Tryd.sizeOf29 rfl rfl fun _ T => ⟨rfl, T⟩)⟩, ⟨_, [(44, _), (43, _)], rfl, ⟨.inl ⟨13, rfl, rfl, rfl, rfl⟩, .inl ⟨12, rfl, rfl, rfl, rfl⟩, trivial⟩, fun _ _ _ T S => g_yes T rfl rfl h24 (r_ldB (ix := 6) T S rfl Tryd.isAgg29 rfl rfl rfl fun _ T => ⟨rfl, T⟩)⟩, ⟨_, [(45, _), (43, _)], rfl, ⟨.inl ⟨14, rfl, rfl, rfl, rfl⟩, .inl ⟨12, rfl, rfl, rfl, rfl⟩, trivial⟩, fun _ _ _ T S => g_yes T rfl rfl h24 (r_b2s (ix := 5) (xs := x12.1.Value) T S rfl rfl Tryd.runUnderlying29 Tryd.runUnderlying9 Tryd.runUnderlying5 rfl fun _ T => ⟨rfl, T⟩)⟩, ⟨_, [(46, _), (43, _)], rfl, ⟨.inl ⟨15, rfl, rfl, rfl, rfl⟩, .inl ⟨12, rfl, rfl, rfl, rfl⟩, trivial⟩, fun _ _ _ T S => g_yes T rfl rfl h24 (r_pv T rfl rfl fun _ T => ⟨rfl, T⟩)⟩, ⟨_, [(43, _), (47, _)], rfl, ⟨.inl ⟨12, rfl, rfl, rfl, rfl⟩, .inl ⟨16, rfl, rfl, rfl, rfl⟩, trivial⟩, fun _ _ _ T S => r_pickF T rfl h24 rfl rfl fun _ T => ⟨rfl, T⟩⟩, ⟨_, [(48, _)], rfl, ⟨.inl ⟨17, rfl, rfl, rfl, rfl⟩, trivial⟩, fun _ _ _ T S => r_pv T rfl rfl fun _ T => ⟨rfl, T⟩⟩, ⟨_, [(5, _), (49, _)], rfl, ⟨.inr ⟨rfl, rfl⟩, .inl ⟨18, rfl, rfl, rfl, rfl⟩, trivial⟩, fun _ _ _ T S => g_no T rfl rfl h25 rfl fun _ T => ⟨rfl, T⟩⟩, ⟨_, [(50, _), (49, _)], rfl, ⟨.inl ⟨19, rfl, rfl, rfl, rfl⟩, .inl ⟨18, rfl, rfl, rfl, rfl⟩, trivial⟩, fun _ _ _ T S => g_no T rfl rfl h25 rfl fun _ T => ⟨rfl, T⟩⟩, ⟨_, [(51, _), (49, _)], rfl, ⟨.inl ⟨20, rfl, rfl, rfl, rfl⟩, .inl ⟨18, rfl, rfl, rfl, rfl⟩, trivial⟩, fun _ _ _ T S => g_no T rfl rfl h25 rfl fun _ T => ⟨rfl, T⟩⟩, ⟨_, [(49, _), (52, _)], rfl, ⟨.inl ⟨18, rfl, rfl, rfl, rfl⟩, .inl ⟨21, rfl, rfl, rfl, rfl⟩, trivial⟩, fun _ _ _ T S => r_pickT T rfl h25 rfl rfl fun _ T => ⟨rfl, T⟩⟩, ⟨_, [(53, _)], rfl, ⟨.inl ⟨22, rfl, rfl, rfl, rfl⟩, trivial⟩, fun _ _ _ T S => r_pv T rfl rfl fun _ T => ⟨rfl, T⟩⟩, ⟨_, [(5, _), (54, _)], rfl, ⟨.inr ⟨rfl, rfl⟩, .inl ⟨23, rfl, rfl, rfl, rfl⟩, trivial⟩, fun _ _ _ T S => g_no T rfl rfl rfl rfl fun _ T => ⟨rfl, T⟩⟩, ⟨_, [(55, _), (54, _)], rfl, ⟨.inl ⟨24, rfl, rfl, rfl, rfl⟩, .inl ⟨23, rfl, rfl, rfl, rfl⟩, trivial⟩, fun _ _ _ T S => g_no T rfl rfl rfl rfl fun _ T => ⟨rfl, T⟩⟩, ⟨_, [(56, _), (54, _)], rfl, ⟨.inl ⟨25, rfl, rfl, rfl, rfl⟩, .inl ⟨23, rfl, rfl, rfl, rfl⟩, trivial⟩, fun _ _ _ T S => g_no T rfl rfl rfl rfl fun _ T => ⟨rfl, T⟩⟩, ⟨_, [(2, _), (54, _)], rfl, ⟨.inr ⟨rfl, rfl⟩, .inl ⟨23, rfl, rfl, rfl, rfl⟩, trivial⟩, fun _ _ _ T S => g_no T rfl rfl rfl rfl fun _ T => ⟨rfl, T⟩⟩, ⟨_, [(58, _), (54, _)], rfl, ⟨.inl ⟨27, rfl, rfl, rfl, rfl⟩, .inl ⟨23, rfl, rfl, rfl, rfl⟩, trivial⟩, fun _ _ _ T S => g_no T rfl rfl rfl rfl fun _ T => ⟨rfl, T⟩⟩, ⟨_, [(59, _), (54, _)], rfl, ⟨.inl ⟨28, rfl, rfl, rfl, rfl⟩, .inl ⟨23, rfl, rfl, rfl, rfl⟩, trivial⟩, fun _ _ _ T S => g_no T rfl rfl rfl rfl fun _ T => ⟨rfl, T⟩⟩, ⟨_, [(57, _), (60, _), (54, _)], rfl, ⟨.inl ⟨26, rfl, rfl, rfl, rfl⟩, .inl ⟨29, rfl, rfl, rfl, rfl⟩, .inl ⟨23, rfl, rfl, rfl, rfl⟩, trivial⟩, fun _ _ _ T S => g_no T rfl rfl rfl rfl fun _ T => ⟨rfl, T⟩⟩, ⟨_, [(54, _), (61, _)], rfl, ⟨.inl ⟨23, rfl, rfl, rfl, rfl⟩, .inl ⟨30, rfl, rfl, rfl, rfl⟩, trivial⟩, fun _ _ _ T S => r_pickT T rfl rfl rfl rfl fun _ T => ⟨rfl, T⟩⟩, trivial⟩ rfl (fun i hi => by cases hi) (fun _ _ a w T hv hb S => ?_)
     replace T := T.sub (r := [(y20 b9), (2, (y17 b10)), (62, .bool true)]) ⟨hb 1 _ rfl rfl, hb 2 _ rfl rfl, hv 31 _ 62 rfl rfl rfl, trivial⟩
     refine cdT T rfl rfl ?_
     refine Gets.seq ?_
     exact J0_ok F r z _ _ (T.sub trivial) (S.only (p := []) [] rfl) H
    ·rcases ifE H with ⟨h26, H⟩ | ⟨h26, H⟩
     ·refine Gets.drawn (l := (y2 A20 k21 x19 A3 k4 x2 A5 k6 A7 k8 A13 k14 x12 A15 k16 b17 b10 b9)) (V := [some (.int .i64 x12.2, true), (y25 x12), (y25 x12), some (.int .i64 x19.2, true), (y19 x19), (y19 x19), (y19 x19), some (.pointer (some ⟨b17, 0, none⟩), true), some (.slice A13 x12.1.Key.length k14, true), some (.int .i64 (x12.1.Key.length : Int), true), (y16 x12), (y16 x12), (y16 x12), some (.pointer (some ⟨b17, 1, none⟩), true), some (.slice A15 x12.1.Value.length k16, true), some (.string (bstr x12.1.Value), true), (y12 x12), (y12 x12), (y12 x12), some (.slice A20 x19.1.length k21, true), some (.int .i64 (x19.1.length : Int), true), some (.bool ((x19.1.length : Int) != 2), true), some (.bool ((x19.1.length : Int) != 2), true), some (.bool ((x19.1.length : Int) != 2), true), some (undef, true), some (undef, true), some (undef, true), some (undef, true), some (undef, true), some (undef, true), some (undef, true), some (.bool true, true)]) mixed T S rfl ?_
      refine stage none rfl rfl ⟨⟨_, [(4, _)], rfl, ⟨.inr ⟨rfl, rfl⟩, trivial⟩, fun _ _ _ T S => r_pv T rfl rfl fun _ T => ⟨rfl, T⟩⟩, ⟨_, [(31, _)], rfl, ⟨.inl ⟨0, rfl, rfl, rfl, rfl⟩, trivial⟩, fun _ _ _ T S => r_pv T rfl rfl fun _ T => ⟨rfl, T⟩⟩, ⟨_, [(32, _)], rfl, ⟨.inl ⟨1, rfl, rfl, rfl, rfl⟩, trivial⟩, fun _ _ _ T S => r_pv T rfl rfl fun _ T => ⟨rfl, T⟩⟩, ⟨_, [(6, _), (33, _)], rfl, ⟨.inr ⟨rfl, rfl⟩, .inl ⟨2, rfl, rfl, rfl, rfl⟩, trivial⟩, fun _ _ _ T S => g_yes T rfl rfl h22 (r_pv T rfl rfl fun _ T => ⟨rfl, T⟩)⟩, ⟨_, [(34, _), (33, _)], rfl, ⟨.inl ⟨3, rfl, rfl, rfl, rfl⟩, .inl ⟨2, rfl, rfl, rfl, rfl⟩, trivial⟩, fun _ _ _ T S => g_yes T rfl rfl h22 (r_pv T rfl rfl fun _ T => ⟨rfl, T⟩)⟩, ⟨_, [(33, _), (35, _)], rfl, ⟨.inl ⟨2, rfl, rfl, rfl, rfl⟩, .inl ⟨4, rfl, rfl, rfl, rfl⟩, trivial⟩, fun _ _ _ T S => r_pickF T rfl h22 rfl rfl fun _ T => ⟨rfl, T⟩⟩, ⟨_, [(36, _)], rfl, ⟨.inl ⟨5, rfl, rfl, rfl, rfl⟩, trivial⟩, fun _ _ _ T S => r_pv T rfl rfl fun _ T => ⟨rfl, T⟩⟩, ⟨_, [(3, _), (37, _)], rfl, ⟨.inr ⟨rfl, rfl⟩, .inl ⟨6, rfl, rfl, rfl, rfl⟩, trivial⟩, fun _ _ _ T S => g_yes T rfl rfl h23 (r_fa (o' := 0) T rfl Tryd.runUnderlying31 rfl Tryd.sizeOf29 rfl rfl fun _ T => ⟨rfl, T⟩)⟩, ⟨_, [(38, _), (37, _)], rfl, ⟨.inl ⟨7, rfl, rfl, rfl, rfl⟩, .inl ⟨6, rfl, rfl, rfl, rfl⟩, trivial⟩, fun _ _ _ T S => g_yes T rfl rfl h23 (r_ldB (ix := 6) T S rfl Tryd.isAgg29 rfl rfl rfl fun _ T => ⟨rfl, T⟩)⟩, ⟨_, [(39, _), (37, _)], rfl, ⟨.inl ⟨8, rfl, rfl, rfl, rfl⟩, .inl ⟨6, rfl, rfl, rfl, rfl⟩, trivial⟩, fun _ _ _ T S => g_yes T rfl rfl h23 (r_lenS T rfl Tryd.runUnderlying29 rfl fun _ T => ⟨rfl, T⟩)⟩, ⟨_, [(40, _), (37, _)], rfl, ⟨.inl ⟨9, rfl, rfl, rfl, rfl⟩, .inl ⟨6, rfl, rfl, rfl, rfl⟩, trivial⟩, fun _ _ _ T S => g_yes T rfl rfl h23 (r_pv T rfl rfl fun _ T => ⟨rfl, T⟩)⟩, ⟨_, [(37, _), (41, _)], rfl, ⟨.inl ⟨6, rfl, rfl, rfl, rfl⟩, .inl ⟨10, rfl, rfl, rfl, rfl⟩, trivial⟩, fun _ _ _ T S => r_pickF T rfl h23 rfl rfl fun _ T => ⟨rfl, T⟩⟩, ⟨_, [(42, _)], rfl, ⟨.inl ⟨11, rfl, rfl, rfl, rfl⟩, trivial⟩, fun _ _ _ T S => r_pv T rfl rfl fun _ T => ⟨rfl, T⟩⟩, ⟨_, [(3, _), (43, _)], rfl, ⟨.inr ⟨rfl, rfl⟩, .inl ⟨12, rfl, rfl, rfl, rfl⟩, trivial⟩, fun _ _ _ T S => g_yes T rfl rfl h24 (r_fa (o' := 1) T rfl Tryd.runUnderlying31 rfl Tryd.sizeOf29 rfl rfl fun _ T => ⟨rfl, T⟩)⟩, ⟨_, [(44, _), (43, _)], rfl, ⟨.inl ⟨13, rfl, rfl, rfl, rfl⟩, .inl ⟨12, rfl, rfl, rfl, rfl⟩, trivial⟩, fun _ _ _ T S => g_yes T rfl rfl h24 (r_ldB (ix := 6) T S rfl Tryd.isAgg29 rfl rfl rfl fun _ T => ⟨rfl, T⟩)⟩, ⟨_, [(45, _), (43, _)], rfl, ⟨.inl ⟨14, rfl, rfl, rfl, rfl⟩, .inl ⟨12, rfl, rfl, rfl, rfl⟩, trivial⟩, fun _ _ _ T S => g_yes T rfl rfl h24 (r_b2s (ix := 5) (xs := x12.1.Value) T S rfl rfl Tryd.runUnderlying29 Tryd.runUnderlying9 Tryd.runUnderlying5 rfl fun _ T => ⟨rfl, T⟩)⟩, ⟨_, [(46, _), (43, _)], rfl, ⟨.inl ⟨15, rfl, rfl, rfl, rfl⟩, .inl ⟨12, rfl, rfl, rfl, rfl⟩, trivial⟩, fun _ _ _ T S => g_yes T rfl rfl h24 (r_pv T rfl rfl fun _ T => ⟨rfl, T⟩)⟩, ⟨_, [(43, _), (47, _)], rfl, ⟨.inl ⟨12, rfl, rfl, rfl, rfl⟩, .inl ⟨16, rfl, rfl, rfl, rfl⟩, trivial⟩, fun _ _ _ T S => r_pickF T rfl h24 rfl rfl fun _ T => ⟨rfl, T⟩⟩, ⟨_, [(48, _)], rfl, ⟨.inl ⟨17, rfl, rfl, rfl, rfl⟩, trivial⟩, fun _ _ _ T S => r_pv T rfl rfl fun _ T => ⟨rfl, T⟩⟩, ⟨_, [(5, _), (49, _)], rfl, ⟨.inr ⟨rfl, rfl⟩, .inl ⟨18, rfl, rfl, rfl, rfl⟩, trivial⟩, fun _ _ _ T S => g_yes T rfl rfl h25 (r_pv T rfl rfl fun _ T => ⟨rfl, T⟩)⟩, ⟨_, [(50, _), (49, _)], rfl, ⟨.inl ⟨19, rfl, rfl, rfl, rfl⟩, .inl ⟨18, rfl, rfl, rfl, rfl⟩, trivial⟩, fun _ _ _ T S => g_yes T rfl rfl h25 (r_lenS T rfl Tryd.runUnderlying27 rfl fun _ T => ⟨rfl, T⟩)⟩, ⟨_, [(51, _), (49, _)], rfl, ⟨.inl ⟨20, rfl, rfl, rfl, rfl⟩, .inl ⟨18, rfl, rfl, rfl, rfl⟩, trivial⟩, fun _ _ _ T S => g_yes T rfl rfl h25 (r_pv T rfl rfl fun _ T => ⟨rfl, T⟩)⟩, ⟨_, [(49, _), (52, _)], rfl, ⟨.inl ⟨18, rfl, rfl, rfl, rfl⟩, .inl ⟨21, rfl, rfl, rfl, rfl⟩, trivial⟩, fun _ _ _ T S => r_pickF T rfl h25 rfl rfl fun _ T => ⟨rfl, T⟩⟩, ⟨_, [(53, _)], rfl, ⟨.inl ⟨22, rfl, rfl, rfl, rfl⟩, trivial⟩, fun _ _ _ T S => r_pv T rfl rfl fun _ T => ⟨rfl, T⟩⟩, ⟨_, [(5, _), (54, _)], rfl, ⟨.inr ⟨rfl, rfl⟩, .inl ⟨23, rfl, rfl, rfl, rfl⟩, trivial⟩, fun _ _ _ T S => g_no T rfl rfl h26 rfl fun _ T => ⟨rfl, T⟩⟩, ⟨_, [(55, _), (54, _)], rfl, ⟨.inl ⟨24, rfl, rfl, rfl, rfl⟩, .inl ⟨23, rfl, rfl, rfl, rfl⟩, trivial⟩, fun _ _ _ T S => g_no T rfl rfl h26 rfl fun _ T => ⟨rfl, T⟩⟩, ⟨_, [(56, _), (54, _)], rfl, ⟨.inl ⟨25, rfl, rfl, rfl, rfl⟩, .inl ⟨23, rfl, rfl, rfl, rfl⟩, trivial⟩, fun _ _ _ T S => g_no T rfl rfl h26 rfl fun _ T => ⟨rfl, T⟩⟩, ⟨_, [(2, _), (54, _)], rfl, ⟨.inr ⟨rfl, rfl⟩, .inl ⟨23, rfl, rfl, rfl, rfl⟩, trivial⟩, fun _ _ _ T S => g_no T rfl rfl h26 rfl fun _ T => ⟨rfl, T⟩⟩, ⟨_, [(58, _), (54, _)], rfl, ⟨.inl ⟨27, rfl, rfl, rfl, rfl⟩, .inl ⟨23, rfl, rfl, rfl, rfl⟩, trivial⟩, fun _ _ _ T S => g_no T rfl rfl h26 rfl fun _ T => ⟨rfl, T⟩⟩, ⟨_, [(59, _), (54, _)], rfl, ⟨.inl ⟨28, rfl, rfl, rfl, rfl⟩, .inl ⟨23, rfl, rfl, rfl, rfl⟩, trivial⟩, fun _ _ _ T S => g_no T rfl rfl h26 rfl fun _ T => ⟨rfl, T⟩⟩, ⟨_, [(57, _), (60, _), (54, _)], rfl, ⟨.inl ⟨26, rfl, rfl, rfl, rfl⟩, .inl ⟨29, rfl, rfl, rfl, rfl⟩, .inl ⟨23, rfl, rfl, rfl, rfl⟩, trivial⟩, fun _ _ _ T S => g_no T rfl rfl h26 rfl fun _ T => ⟨rfl, T⟩⟩, ⟨_, [(54, _), (61, _)], rfl, ⟨.inl ⟨23, rfl, rfl, rfl, rfl⟩, .inl ⟨30, rfl, rfl, rfl, rfl⟩, trivial⟩, fun _ _ _ T S => r_pickT T rfl h26 rfl rfl fun _ T => ⟨rfl, T⟩⟩, trivial⟩ rfl (fun i hi => by cases hi) (fun _ _ a w T hv hb S => ?_)
      replace T := T.sub (r := [(y20 b9), (2, (y17 b10)), (62, .bool true)]) ⟨hb 1 _ rfl rfl, hb 2 _ rfl rfl, hv 31 _ 62 rfl rfl rfl, trivial⟩
      refine cdT T rfl rfl ?_
      refine Gets.seq ?_
      exact J0_ok F r z _ _ (T.sub trivial) (S.only (p := []) [] rfl) H
     ·obtain ⟨h3501, H⟩ := ck H
      obtain ⟨h3681, H⟩ := ck H
      refine Gets.drawn (l := (y2 A20 k21 x19 A3 k4 x2 A5 k6 A7 k8 A13 k14 x12 A15 k16 b17 b10 b9)) (V := [some (.int .i64 x12.2, true), (y25 x12), (y25 x12), some (.int .i64 x19.2, true), (y19 x19), (y19 x19), (y19 x19), some (.pointer (some ⟨b17, 0, none⟩), true), some (.slice A13 x12.1.Key.length k14, true), some (.int .i64 (x12.1.Key.length : Int), true), (y16 x12), (y16 x12), (y16 x12), some (.pointer (some ⟨b17, 1, none⟩), true), some (.slice A15 x12.1.Value.length k16, true), some (.string (bstr x12.1.Value), true), (y12 x12), (y12 x12), (y12 x12), some (.slice A20 x19.1.length k21, true), some (.int .i64 (x19.1.length : Int), true), some (.bool ((x19.1.length : Int) != 2), true), some (.bool ((x19.1.length : Int) != 2), true), some (.bool ((x19.1.length : Int) != 2), true), some (.slice A20 x19.1.length k21, true), some (.pointer (some (eA A20 (Int.toNat 1 * 4))), true), some (.agg #[.int .i64 ((gi dapi_Value x19.1 1).Type'), .bool ((gi dapi_Value x19.1 1).Null), .int .i64 ((gi dapi_Value x19.1 1).Int), .string ((gi dapi_Value x19.1 1).Text)], true), some ((y17 b10), true), some (.pointer (some (eA (some ⟨b10, 0, none⟩) (Int.toNat 1 * 4))), true), some (.agg #[.int .i64 ((gi dapi_Value [(y7), (y6)] 1).Type'), .bool ((gi dapi_Value [(y7), (y6)] 1).Null), .int .i64 ((gi dapi_Value [(y7), (y6)] 1).Int), .string ((gi dapi_Value [(y7), (y6)] 1).Text)], true), some (.bool (!(eqapi_Value (gi dapi_Value x19.1 1) (gi dapi_Value [(y7), (y6)] 1))), true), some (.bool (!(eqapi_Value (gi dapi_Value x19.1 1) (gi dapi_Value [(y7), (y6)] 1))), true)]) mixed T S rfl ?_
      refine stage none rfl rfl ⟨⟨_, [(4, _)], rfl, ⟨.inr ⟨rfl, rfl⟩, trivial⟩, fun _ _ _ T S => r_pv T rfl rfl fun _ T => ⟨rfl, T⟩⟩, ⟨_, [(31, _)], rfl, ⟨.inl ⟨0, rfl, rfl, rfl, rfl⟩, trivial⟩, fun _ _ _ T S => r_pv T rfl rfl fun _ T => ⟨rfl, T⟩⟩, ⟨_, [(32, _)], rfl, ⟨.inl ⟨1, rfl, rfl, rfl, rfl⟩, trivial⟩, fun _ _ _ T S => r_pv T rfl rfl fun _ T => ⟨rfl, T⟩⟩, ⟨_, [(6, _), (33, _)], rfl, ⟨.inr ⟨rfl, rfl⟩, .inl ⟨2, rfl, rfl, rfl, rfl⟩, trivial⟩, fun _ _ _ T S => g_yes T rfl rfl h22 (r_pv T rfl rfl fun _ T => ⟨rfl, T⟩)⟩, ⟨_, [(34, _), (33, _)], rfl, ⟨.inl ⟨3, rfl, rfl, rfl, rfl⟩, .inl ⟨2, rfl, rfl, rfl, rfl⟩, trivial⟩, fun _ _ _ T S => g_yes T rfl rfl h22 (r_pv T rfl rfl fun _ T => ⟨rfl, T⟩)⟩, ⟨_, [(33, _), (35, _)], rfl, ⟨.inl ⟨2, rfl, rfl, rfl, rfl⟩, .inl ⟨4, rfl, rfl, rfl, rfl⟩, trivial⟩, fun _ _ _ T S => r_pickF T rfl h22 rfl rfl fun _ T => ⟨rfl, T⟩⟩, ⟨_, [(36, _)], rfl, ⟨.inl ⟨5, rfl, rfl, rfl, rfl⟩, trivial⟩, fun _ _ _ T S => r_pv T rfl rfl fun _ T => ⟨rfl, T⟩⟩, ⟨_, [(3, _), (37, _)], rfl, ⟨.inr ⟨rfl, rfl⟩, .inl ⟨6, rfl, rfl, rfl, rfl⟩, trivial⟩, fun _ _ _ T S => g_yes T rfl rfl h23 (r_fa (o' := 0) T rfl Tryd.runUnderlying31 rfl Tryd.sizeOf29 rfl rfl fun _ T => ⟨rfl, T⟩)⟩, ⟨_, [(38, _), (37, _)], rfl, ⟨.inl ⟨7, rfl, rfl, rfl, rfl⟩, .inl ⟨6, rfl, rfl, rfl, rfl⟩, trivial⟩, fun _ _ _ T S => g_yes T rfl rfl h23 (r_ldB (ix := 6) T S rfl Tryd.isAgg29 rfl rfl rfl fun _ T => ⟨rfl, T⟩)⟩, ⟨_, [(39, _), (37, _)], rfl, ⟨.inl ⟨8, rfl, rfl, rfl, rfl⟩, .inl ⟨6, rfl, rfl, rfl, rfl⟩, trivial⟩, fun _ _ _ T S => g_yes T rfl rfl h23 (r_lenS T rfl Tryd.runUnderlying29 rfl fun _ T => ⟨rfl, T⟩)⟩, ⟨_, [(40, _), (37, _)], rfl, ⟨.inl ⟨9, rfl, rfl, rfl, rfl⟩, .inl ⟨6, rfl, rfl, rfl, rfl⟩, trivial⟩, fun _ _ _ T S => g_yes T rfl rfl h23 (r_pv T rfl rfl fun _ T => ⟨rfl, T⟩)⟩, ⟨_, [(37, _), (41, _)], rfl, ⟨.inl ⟨6, rfl, rfl, rfl, rfl⟩, .inl ⟨10, rfl, rfl, rfl, rfl⟩, trivial⟩, fun _ _ _ T S => r_pickF T rfl h23 rfl rfl fun _ T => ⟨rfl, T⟩⟩, ⟨_, [(42, _)], rfl, ⟨.inl ⟨11, rfl, rfl, rfl, rfl⟩, trivial⟩, fun _ _ _ T S => r_pv T rfl rfl fun _ T => ⟨rfl, T⟩⟩, ⟨_, [(3, _), (43, _)], rfl, ⟨.inr ⟨rfl, rfl⟩, .inl ⟨12, rfl, rfl, rfl, rfl⟩, trivial⟩, fun _ _ _ T S => g_yes T rfl rfl h24 (r_fa (o' := 1) T rfl Tryd.runUnderlying31 rfl Tryd.sizeOf29 rfl rfl fun _ T => ⟨rfl, T⟩)⟩, ⟨_, [(44, _), (43, _)], rfl, ⟨.inl ⟨13, rfl, rfl, rfl, rfl⟩, .inl ⟨12, rfl, rfl, rfl, rfl⟩, trivial⟩, fun _ _ _ T S => g_yes T rfl rfl h24 (r_ldB (ix := 6) T S rfl Tryd.isAgg29 rfl rfl rfl fun _ T => ⟨rfl, T⟩)⟩, ⟨_, [(45, _), (43, _)], rfl, ⟨.inl ⟨14, rfl, rfl, rfl, rfl⟩, .inl ⟨12, rfl, rfl, rfl, rfl⟩, trivial⟩, fun _ _ _ T S => g_yes T rfl rfl h24 (r_b2s (ix := 5) (xs := x12.1.Value) T S rfl rfl Tryd.runUnderlying29 Tryd.runUnderlying9 Tryd.runUnderlying5 rfl fun _ T => ⟨rfl, T⟩)⟩, ⟨_, [(46, _), (43, _)], rfl, ⟨.inl ⟨15, rfl, rfl, rfl, rfl⟩, .inl ⟨12, rfl, rfl, rfl, rfl⟩, trivial⟩, fun _ _ _ T S => g_yes T rfl rfl h24 (r_pv T rfl rfl fun _ T => ⟨rfl, T⟩)⟩, ⟨_, [(43, _), (47, _)], rfl, ⟨.inl ⟨12, rfl, rfl, rfl, rfl⟩, .inl ⟨16, rfl, rfl, rfl, rfl⟩, trivial⟩, fun _ _ _ T S => r_pickF T rfl h24 rfl rfl fun _ T => ⟨rfl, T⟩⟩, ⟨_, [(48, _)], rfl, ⟨.inl ⟨17, rfl, rfl, rfl, rfl⟩, trivial⟩, fun _ _ _ T S => r_pv T rfl rfl fun _ T => ⟨rfl, T⟩⟩, ⟨_, [(5, _), (49, _)], rfl, ⟨.inr ⟨rfl, rfl⟩, .inl ⟨18, rfl, rfl, rfl, rfl⟩, trivial⟩, fun _ _ _ T S => g_yes T rfl rfl h25 (r_pv T rfl rfl fun _ T => ⟨rfl, T⟩)⟩, ⟨_, [(50, _), (49, _)], rfl, ⟨.inl ⟨19, rfl, rfl, rfl, rfl⟩, .inl ⟨18, rfl, rfl, rfl, rfl⟩, trivial⟩, fun _ _ _ T S => g_yes T rfl rfl h25 (r_lenS T rfl Tryd.runUnderlying27 rfl fun _ T => ⟨rfl, T⟩)⟩, ⟨_, [(51, _), (49, _)], rfl, ⟨.inl ⟨20, rfl, rfl, rfl, rfl⟩, .inl ⟨18, rfl, rfl, rfl, rfl⟩, trivial⟩, fun _ _ _ T S => g_yes T rfl rfl h25 (r_pv T rfl rfl fun _ T => ⟨rfl, T⟩)⟩, ⟨_, [(49, _), (52, _)], rfl, ⟨.inl ⟨18, rfl, rfl, rfl, rfl⟩, .inl ⟨21, rfl, rfl, rfl, rfl⟩, trivial⟩, fun _ _ _ T S => r_pickF T rfl h25 rfl rfl fun _ T => ⟨rfl, T⟩⟩, ⟨_, [(53, _)], rfl, ⟨.inl ⟨22, rfl, rfl, rfl, rfl⟩, trivial⟩, fun _ _ _ T S => r_pv T rfl rfl fun _ T => ⟨rfl, T⟩⟩, ⟨_, [(5, _), (54, _)], rfl, ⟨.inr ⟨rfl, rfl⟩, .inl ⟨23, rfl, rfl, rfl, rfl⟩, trivial⟩, fun _ _ _ T S => g_yes T rfl rfl h26 (r_pv T rfl rfl fun _ T => ⟨rfl, T⟩)⟩, ⟨_, [(55, _), (54, _)], rfl, ⟨.inl ⟨24, rfl, rfl, rfl, rfl⟩, .inl ⟨23, rfl, rfl, rfl, rfl⟩, trivial⟩, fun _ _ _ T S => g_yes T rfl rfl h26 (r_ia (ix := 0) T S rfl rfl rfl rfl Tryd.runUnderlying27 Tryd.sizeOf43 (by decide) h3501 rfl fun _ T => ⟨rfl, T⟩)⟩, ⟨_, [(56, _), (54, _)], rfl, ⟨.inl ⟨25, rfl, rfl, rfl, rfl⟩, .inl ⟨23, rfl, rfl, rfl, rfl⟩, trivial⟩, fun _ _ _ T S => g_yes T rfl rfl h26 (r_ldEP (ix := 0) (i := 1) (off := 0) (f := pf_api_Value) T S rfl rfl Tryd.isAgg43 Tryd.sizeOf43 dapi_Value rfl (Fld.all _) (by decide) h3501 pl_api_Value rfl fun _ T => ⟨rfl, T⟩)⟩, ⟨_, [(2, _), (54, _)], rfl, ⟨.inr ⟨rfl, rfl⟩, .inl ⟨23, rfl, rfl, rfl, rfl⟩, trivial⟩, fun _ _ _ T S => g_yes T rfl rfl h26 (r_pv T rfl rfl fun _ T => ⟨rfl, T⟩)⟩, ⟨_, [(58, _), (54, _)], rfl, ⟨.inl ⟨27, rfl, rfl, rfl, rfl⟩, .inl ⟨23, rfl, rfl, rfl, rfl⟩, trivial⟩, fun _ _ _ T S => g_yes T rfl rfl h26 (r_ia (ix := 7) T S rfl rfl rfl (by simp) Tryd.runUnderlying27 Tryd.sizeOf43 (by decide) h3681 rfl fun _ T => ⟨rfl, T⟩)⟩, ⟨_, [(59, _), (54, _)], rfl, ⟨.inl ⟨28, rfl, rfl, rfl, rfl⟩, .inl ⟨23, rfl, rfl, rfl, rfl⟩, trivial⟩, fun _ _ _ T S => g_yes T rfl rfl h26 (r_ldEP (ix := 7) (i := 1) (off := 0) (f := pf_api_Value) T S rfl rfl Tryd.isAgg43 Tryd.sizeOf43 dapi_Value rfl (Fld.all _) (by decide) h3681 pl_api_Value rfl fun _ T => ⟨rfl, T⟩)⟩, ⟨_, [(57, _), (60, _), (54, _)], rfl, ⟨.inl ⟨26, rfl, rfl, rfl, rfl⟩, .inl ⟨29, rfl, rfl, rfl, rfl⟩, .inl ⟨23, rfl, rfl, rfl, rfl⟩, trivial⟩, fun _ _ _ T S => g_yes T rfl rfl h26 (r_neA (u := [.int .i64 ((gi dapi_Value x19.1 1).Type'), .bool ((gi dapi_Value x19.1 1).Null), .int .i64 ((gi dapi_Value x19.1 1).Int), .string ((gi dapi_Value x19.1 1).Text)]) (v := [.int .i64 ((gi dapi_Value [(y7), (y6)] 1).Type'), .bool ((gi dapi_Value [(y7), (y6)] 1).Null), .int .i64 ((gi dapi_Value [(y7), (y6)] 1).Int), .string ((gi dapi_Value [(y7), (y6)] 1).Text)]) T rfl rfl (fun _ => seg43 _ _ _ _ _ _) (fun w => seq43 (gi dapi_Value x19.1 1) (gi dapi_Value [(y7), (y6)] 1) w) rfl fun _ T => ⟨rfl, T⟩)⟩, ⟨_, [(54, _), (61, _)], rfl, ⟨.inl ⟨23, rfl, rfl, rfl, rfl⟩, .inl ⟨30, rfl, rfl, rfl, rfl⟩, trivial⟩, fun _ _ _ T S => r_pickF T rfl h26 rfl rfl fun _ T => ⟨rfl, T⟩⟩, trivial⟩ rfl (fun i hi => by cases hi) (fun _ _ a w T hv hb S => ?_)
      replace T := T.sub (r := [(y20 b9), (2, (y17 b10)), (62, .bool (!(eqapi_Value (gi dapi_Value x19.1 1) (gi dapi_Value [(y7), (y6)] 1))))]) ⟨hb 1 _ rfl rfl, hb 2 _ rfl rfl, hv 31 _ 62 rfl rfl rfl, trivial⟩
      rcases ifE H with ⟨h27, H⟩ | ⟨h27, H⟩
      ·refine cdT T rfl h27 ?_
       refine Gets.seq ?_
       exact J0_ok F r z _ _ (T.sub trivial) (S.only (p := []) [] rfl) H
      ·refine cdF T rfl h27 ?_
       refine Gets.skip (Gets.seq ?_)
       refine rg ?_
       refine r_pv T rfl rfl fun _ T => ?_
       refine r_build (cs := #[.int .i64 3, .bool true, .int .i64 0, (y22)]) T stt43 rfl rfl rfl fun _ T => ?_
       refine r_ia (ix := 7) T S rfl rfl rfl (by simp) Tryd.runUnderlying27 Tryd.sizeOf43 (by decide) h3681 rfl fun _ T => ?_
       refine r_stEO (ix := 7) (i := 1) (u := (api_Value.mk 3 true 0 (⟨#[]⟩ : ByteArray))) (vs := [.int .i64 3, .bool true, .int .i64 0, (y22)]) (l' := [sl .own kapi_Value A20 k21 x19.1, (y10 A3 k4 x2), (y18 A5 k6 x2), (y11 A7 k8 x2), sl .ro ku8 A13 k14 x12.1.Key, sl .ro ku8 A15 k16 x12.1.Value, blk b17 (y14 A13 x12 k14 A15 k16), (y1 b10), blk b9 (y0 x2 A3 k4 A5 k6 A7 k8)]) T S rfl rfl rfl rfl (by simp) (fun _ => ⟨_, _, rfl, rfl, ⟨_, _, rfl, rfl, ⟨_, _, rfl, rfl, rfl⟩⟩⟩) Tryd.sizeOf43 (by decide) h3681 rfl fun _ S => ?_
       refine Gets.seq ?_
       obtain ⟨h4101, H⟩ := ck H
       obtain ⟨_, S⟩ := S.peek (ix := 3) (off := 0) (i := 0) rfl dapi_Index (Fld.all _) (by decide) h4101
       obtain ⟨A4161, k4162, hv_, S_⟩ := op_api_Index (l := _ :: _) S
       subst hv_
       replace S := S_
       refine Gets.drawn (l := [(y15 A4161 k4162 x2), (y3 A7 x2 A4161 k4162), (y10 A3 k4 x2), (y18 A5 k6 x2), (y11 A7 k8 x2), sl .ro ku8 A13 k14 x12.1.Key, sl .ro ku8 A15 k16 x12.1.Value, blk b17 (y14 A13 x12 k14 A15 k16), (y1 b10), blk b9 (y0 x2 A3 k4 A5 k6 A7 k8)]) (V := [some ((y8 x2 A3 k4 A5 k6 A7 k8), true), (y26 b9), some (.slice A7 x2.Indexes.length k8, true), some ((y21 A7), true), some ((y5 x2 A4161 k4162), true), some ((y17 b10), true), none, none, none, none, none, none, none]) mixed T (S.only [0, 0, 1, 1, 1, 1, 1, 1, 1, 1] rfl) rfl ?_
       refine stageL [6, 10] rfl rfl ⟨⟨_, [(1, _)], rfl, ⟨.inr ⟨rfl, rfl⟩, trivial⟩, fun _ _ _ T S => r_ldBA (ix := 9) (ds := (y0 x2 A3 k4 A5 k6 A7 k8)) T S rfl Tryd.isAgg26 rfl rfl Tryd.sizeOf26 rfl fun _ T => ⟨rfl, T⟩⟩, ⟨_, [(1, _)], rfl, ⟨.inr ⟨rfl, rfl⟩, trivial⟩, fun _ _ _ T S => r_fa (o' := 4) T rfl Tryd.runUnderlying26 rfl Tryd.sizeOf24 rfl rfl fun _ T => ⟨rfl, T⟩⟩, ⟨_, [(68, _)], rfl, ⟨.inl ⟨1, rfl, rfl, rfl, rfl⟩, trivial⟩, fun _ _ _ T S => r_ldB (ix := 9) T S rfl Tryd.isAgg24 rfl rfl rfl fun _ T => ⟨rfl, T⟩⟩, ⟨_, [(69, _)], rfl, ⟨.inl ⟨2, rfl, rfl, rfl, rfl⟩, trivial⟩, fun _ _ _ T S => r_ia (ix := 4) T S rfl rfl rfl rfl Tryd.runUnderlying24 Tryd.sizeOf46 (by decide) h4101 rfl fun _ T => ⟨rfl, T⟩⟩, ⟨_, [(70, _)], rfl, ⟨.inl ⟨3, rfl, rfl, rfl, rfl⟩, trivial⟩, fun _ _ _ T S => r_ldCA (ix := 1) (A := A7) T S rfl rfl rfl Tryd.isAgg46 Tryd.sizeOf46 rfl fun _ T => ⟨rfl, T⟩⟩, ⟨_, [(2, _)], rfl, ⟨.inr ⟨rfl, rfl⟩, trivial⟩, fun _ _ _ T S => r_pv T rfl rfl fun _ T => ⟨rfl, T⟩⟩, trivial⟩ rfl (fun i hi => ?_) (fun h => by cases h)
       simp only [List.mem_cons, List.not_mem_nil, or_false] at hi
       rcases hi with rfl | rfl
       ·refine ⟨rfl, _, [(67, _), (71, _), (72, _)], rfl, ⟨.inl ⟨0, rfl, rfl, rfl, rfl⟩, .inl ⟨4, rfl, rfl, rfl, rfl⟩, .inl ⟨5, rfl, rfl, rfl, rfl⟩, trivial⟩, fun u a w T S => ?_⟩
        obtain ⟨x4282, h4281, H⟩ := bd H
        refine r_call T Tryd.call13 rfl rfl (rowkey_Entry.ok _ _ z x2 (gi dapi_Index x2.Indexes 0) ([(y7), (y6)].set (Int.toNat 1) (api_Value.mk 3 true 0 (⟨#[]⟩ : ByteArray))) (S.sel (p := [(y10 A3 k4 x2), (y18 A5 k6 x2), (y11 A7 k8 x2), (y15 A4161 k4162 x2), (y1 b10)]) (is := [2, 2, 2, 0, 4]) rfl) _ h4281) ?_
        rintro _ _ ⟨A4283, k4284, A4285, k4286, rfl, S⟩
        refine ⟨_, rfl, fun _ T => ?_⟩
        replace S : SL ([sl .ro ku8 A4283 k4284 x4282.1.Key, (y27 A4285 k4286 x4282), (y10 A3 k4 x2), (y18 A5 k6 x2), (y11 A7 k8 x2), (y15 A4161 k4162 x2), (y1 b10), (y3 A7 x2 A4161 k4162), sl .ro ku8 A13 k14 x12.1.Key, sl .ro ku8 A15 k16 x12.1.Value, blk b17 (y14 A13 x12 k14 A15 k16), blk b9 (y0 x2 A3 k4 A5 k6 A7 k8)] ++ F) _ := S.join
        refine ⟨_, [some ((y8 x2 A3 k4 A5 k6 A7 k8), false), (y26 b9), some (.slice A7 x2.Indexes.length k8, true), some ((y21 A7), true), some ((y5 x2 A4161 k4162), false), some ((y17 b10), false), some (.tuple #[(y9 A4283 x4282 k4284 A4285 k4286), .int .i64 x4282.2], false), some (.tuple #[(y9 A4283 x4282 k4284 A4285 k4286), .int .i64 x4282.2], true), some ((y9 A4283 x4282 k4284 A4285 k4286), true), some (.int .i64 x4282.2, true), none, none, none], [sl .ro ku8 A4283 k4284 x4282.1.Key, (y27 A4285 k4286 x4282), (y10 A3 k4 x2), (y18 A5 k6 x2), (y11 A7 k8 x2), (y15 A4161 k4162 x2), (y1 b10), (y3 A7 x2 A4161 k4162), sl .ro ku8 A13 k14 x12.1.Key, sl .ro ku8 A15 k16 x12.1.Value, blk b17 (y14 A13 x12 k14 A15 k16), blk b9 (y0 x2 A3 k4 A5 k6 A7 k8)], rfl, (by repeat first | exact kx0 | apply kxs | apply kxn), rfl, ?_, T, S⟩
        refine stage (some 10) rfl rfl ⟨⟨_, [(1, _)], rfl, ⟨.inr ⟨rfl, rfl⟩, trivial⟩, fun _ _ _ T S => r_fa (o' := 4) T rfl Tryd.runUnderlying26 rfl Tryd.sizeOf24 rfl rfl fun _ T => ⟨rfl, T⟩⟩, ⟨_, [(68, _)], rfl, ⟨.inl ⟨1, rfl, rfl, rfl, rfl⟩, trivial⟩, fun _ _ _ T S => r_ldB (ix := 11) T S rfl Tryd.isAgg24 rfl rfl rfl fun _ T => ⟨rfl, T⟩⟩, ⟨_, [(69, _)], rfl, ⟨.inl ⟨2, rfl, rfl, rfl, rfl⟩, trivial⟩, fun _ _ _ T S => r_ia (ix := 4) T S rfl rfl rfl rfl Tryd.runUnderlying24 Tryd.sizeOf46 (by decide) h4101 rfl fun _ T => ⟨rfl, T⟩⟩, ⟨_, [(73, _)], rfl, ⟨.inl ⟨6, rfl, rfl, rfl, rfl⟩, trivial⟩, fun _ _ _ T S => r_pv T rfl rfl fun _ T => ⟨rfl, T⟩⟩, ⟨_, [(66, _)], rfl, ⟨.inl ⟨7, rfl, rfl, rfl, rfl⟩, trivial⟩, fun _ _ _ T S => r_pv T rfl rfl fun _ T => ⟨rfl, T⟩⟩, ⟨_, [(66, _)], rfl, ⟨.inl ⟨7, rfl, rfl, rfl, rfl⟩, trivial⟩, fun _ _ _ T S => r_pv T rfl rfl fun _ T => ⟨rfl, T⟩⟩, trivial⟩ rfl (fun i hi => ?_) (fun h => by cases h)
        cases hi
        refine ⟨rfl, _, [], rfl, trivial, fun u a w T S => ?_⟩
        refine r_alloc T S zv31 (cs := (y24)) rfl rfl fun _ _ b4521 S T => ?_
        refine ⟨_, [some ((y8 x2 A3 k4 A5 k6 A7 k8), false), (y26 b9), some (.slice A7 x2.Indexes.length k8, true), some ((y21 A7), true), some ((y5 x2 A4161 k4162), false), some ((y17 b10), false), some (.tuple #[(y9 A4283 x4282 k4284 A4285 k4286), .int .i64 x4282.2], false), some (.tuple #[(y9 A4283 x4282 k4284 A4285 k4286), .int .i64 x4282.2], true), some ((y9 A4283 x4282 k4284 A4285 k4286), true), some (.int .i64 x4282.2, true), some ((y29 b4521), false), none, none], [blk b4521 (y24), sl .ro ku8 A4283 k4284 x4282.1.Key, (y27 A4285 k4286 x4282), (y10 A3 k4 x2), (y18 A5 k6 x2), (y11 A7 k8 x2), (y15 A4161 k4162 x2), (y1 b10), (y3 A7 x2 A4161 k4162), sl .ro ku8 A13 k14 x12.1.Key, sl .ro ku8 A15 k16 x12.1.Value, blk b17 (y14 A13 x12 k14 A15 k16), blk b9 (y0 x2 A3 k4 A5 k6 A7 k8)], rfl, (by repeat first | exact kx0 | apply kxs | apply kxn), rfl, ?_, T, S⟩
        refine stage (some 11) rfl rfl ⟨⟨_, [(1, _)], rfl, ⟨.inr ⟨rfl, rfl⟩, trivial⟩, fun _ _ _ T S => r_fa (o' := 4) T rfl Tryd.runUnderlying26 rfl Tryd.sizeOf24 rfl rfl fun _ T => ⟨rfl, T⟩⟩, ⟨_, [(68, _)], rfl, ⟨.inl ⟨1, rfl, rfl, rfl, rfl⟩, trivial⟩, fun _ _ _ T S => r_ldB (ix := 12) T S rfl Tryd.isAgg24 rfl rfl rfl fun _ T => ⟨rfl, T⟩⟩, ⟨_, [(69, _)], rfl, ⟨.inl ⟨2, rfl, rfl, rfl, rfl⟩, trivial⟩, fun _ _ _ T S => r_ia (ix := 5) T S rfl rfl rfl rfl Tryd.runUnderlying24 Tryd.sizeOf46 (by decide) h4101 rfl fun _ T => ⟨rfl, T⟩⟩, ⟨_, [(73, _)], rfl, ⟨.inl ⟨6, rfl, rfl, rfl, rfl⟩, trivial⟩, fun _ _ _ T S => r_pv T rfl rfl fun _ T => ⟨rfl, T⟩⟩, ⟨_, [(66, _)], rfl, ⟨.inl ⟨7, rfl, rfl, rfl, rfl⟩, trivial⟩, fun _ _ _ T S => r_pv T rfl rfl fun _ T => ⟨rfl, T⟩⟩, ⟨_, [(66, _)], rfl, ⟨.inl ⟨7, rfl, rfl, rfl, rfl⟩, trivial⟩, fun _ _ _ T S => r_pv T rfl rfl fun _ T => ⟨rfl, T⟩⟩, trivial⟩ rfl (fun i hi => ?_) (fun h => by cases h)
        cases hi
        refine ⟨rfl, _, [(7, _), (74, _)], rfl, ⟨.inl ⟨10, rfl, rfl, rfl, rfl⟩, .inl ⟨8, rfl, rfl, rfl, rfl⟩, trivial⟩, fun u a w T S => ?_⟩
        refine r_stBA (ix := 0) (vs := (y13 A4283 x4282 k4284 A4285 k4286)) (l' := [blk b4521 (y13 A4283 x4282 k4284 A4285 k4286), sl .ro ku8 A4283 k4284 x4282.1.Key, (y27 A4285 k4286 x4282), (y10 A3 k4 x2), (y18 A5 k6 x2), (y11 A7 k8 x2), (y15 A4161 k4162 x2), (y1 b10), (y3 A7 x2 A4161 k4162), sl .ro ku8 A13 k14 x12.1.Key, sl .ro ku8 A15 k16 x12.1.Value, blk b17 (y14 A13 x12 k14 A15 k16), blk b9 (y0 x2 A3 k4 A5 k6 A7 k8)]) T S rfl rfl rfl rfl (by simp) Tryd.sizeOf31 (Nat.le_of_ble_eq_true rfl) rfl fun _ S => ?_
        refine ⟨_, [some ((y8 x2 A3 k4 A5 k6 A7 k8), false), some (.pointer (some ⟨b9, 4, none⟩), false), some (.slice A7 x2.Indexes.length k8, false), some ((y21 A7), false), some ((y5 x2 A4161 k4162), false), some ((y17 b10), false), some (.tuple #[(y9 A4283 x4282 k4284 A4285 k4286), .int .i64 x4282.2], false), some (.tuple #[(y9 A4283 x4282 k4284 A4285 k4286), .int .i64 x4282.2], false), some ((y9 A4283 x4282 k4284 A4285 k4286), false), some (.int .i64 x4282.2, true), some ((y29 b4521), false), some (undef, false), some (.int .i64 x4282.2, true)], [blk b4521 (y13 A4283 x4282 k4284 A4285 k4286), sl .ro ku8 A4283 k4284 x4282.1.Key, (y27 A4285 k4286 x4282), (y10 A3 k4 x2), (y18 A5 k6 x2), (y11 A7 k8 x2), (y15 A4161 k4162 x2), (y1 b10), (y3 A7 x2 A4161 k4162), sl .ro ku8 A13 k14 x12.1.Key, sl .ro ku8 A15 k16 x12.1.Value, blk b17 (y14 A13 x12 k14 A15 k16), blk b9 (y0 x2 A3 k4 A5 k6 A7 k8)], rfl, (by repeat first | exact kx0 | apply kxs | apply kxn), rfl, ?_, T, S⟩
        refine stage none rfl rfl ⟨⟨_, [(66, _)], rfl, ⟨.inl ⟨7, rfl, rfl, rfl, rfl⟩, trivial⟩, fun _ _ _ T S => r_pv T rfl rfl fun _ T => ⟨rfl, T⟩⟩, ⟨_, [(75, _)], rfl, ⟨.inl ⟨9, rfl, rfl, rfl, rfl⟩, trivial⟩, fun _ _ _ T S => r_pv T rfl rfl fun _ T => ⟨rfl, T⟩⟩, trivial⟩ rfl (fun i hi => by cases hi) (fun _ _ a w T hv hb S => ?_)
        replace T := T.sub (r := [(y20 b9), (7, (y29 b4521)), (8, .int .i64 x4282.2)]) ⟨hb 1 _ rfl rfl, hv 10 _ 7 rfl rfl rfl, hv 12 _ 8 rfl rfl rfl, trivial⟩
        refine Gets.seq ?_
        exact J1_ok F r z b9 b4521 x4282 x2 A3 k4 A5 k6 A7 k8 A4283 k4284 A4285 k4286 _ _ (T.sub ⟨rfl, rfl, rfl, trivial⟩) (S.only (p := [blk b9 (y0 x2 A3 k4 A5 k6 A7 k8), (y10 A3 k4 x2), (y18 A5 k6 x2), (y11 A7 k8 x2), blk b4521 (y13 A4283 x4282 k4284 A4285 k4286), sl .ro ku8 A4283 k4284 x4282.1.Key, (y27 A4285 k4286 x4282)]) [12, 3, 3, 3, 0, 0, 0] rfl) H
       ·refine ⟨rfl, _, [], rfl, trivial, fun u a w T S => ?_⟩
        refine r_alloc T S zv31 (cs := (y24)) rfl rfl fun _ _ b4521 S T => ?_
        refine ⟨_, [some ((y8 x2 A3 k4 A5 k6 A7 k8), true), (y26 b9), some (.slice A7 x2.Indexes.length k8, true), some ((y21 A7), true), some ((y5 x2 A4161 k4162), true), some ((y17 b10), true), none, none, none, none, some ((y29 b4521), false), none, none], [blk b4521 (y24), (y15 A4161 k4162 x2), (y3 A7 x2 A4161 k4162), (y10 A3 k4 x2), (y18 A5 k6 x2), (y11 A7 k8 x2), sl .ro ku8 A13 k14 x12.1.Key, sl .ro ku8 A15 k16 x12.1.Value, blk b17 (y14 A13 x12 k14 A15 k16), (y1 b10), blk b9 (y0 x2 A3 k4 A5 k6 A7 k8)], rfl, (by repeat first | exact kx0 | apply kxs | apply kxn), rfl, ?_, T, S⟩
        refine stage (some 6) rfl rfl ⟨⟨_, [(1, _)], rfl, ⟨.inr ⟨rfl, rfl⟩, trivial⟩, fun _ _ _ T S => r_ldBA (ix := 10) (ds := (y0 x2 A3 k4 A5 k6 A7 k8)) T S rfl Tryd.isAgg26 rfl rfl Tryd.sizeOf26 rfl fun _ T => ⟨rfl, T⟩⟩, ⟨_, [(1, _)], rfl, ⟨.inr ⟨rfl, rfl⟩, trivial⟩, fun _ _ _ T S => r_fa (o' := 4) T rfl Tryd.runUnderlying26 rfl Tryd.sizeOf24 rfl rfl fun _ T => ⟨rfl, T⟩⟩, ⟨_, [(68, _)], rfl, ⟨.inl ⟨1, rfl, rfl, rfl, rfl⟩, trivial⟩, fun _ _ _ T S => r_ldB (ix := 10) T S rfl Tryd.isAgg24 rfl rfl rfl fun _ T => ⟨rfl, T⟩⟩, ⟨_, [(69, _)], rfl, ⟨.inl ⟨2, rfl, rfl, rfl, rfl⟩, trivial⟩, fun _ _ _ T S => r_ia (ix := 5) T S rfl rfl rfl rfl Tryd.runUnderlying24 Tryd.sizeOf46 (by decide) h4101 rfl fun _ T => ⟨rfl, T⟩⟩, ⟨_, [(70, _)], rfl, ⟨.inl ⟨3, rfl, rfl, rfl, rfl⟩, trivial⟩, fun _ _ _ T S => r_ldCA (ix := 2) (A := A7) T S rfl rfl rfl Tryd.isAgg46 Tryd.sizeOf46 rfl fun _ T => ⟨rfl, T⟩⟩, ⟨_, [(2, _)], rfl, ⟨.inr ⟨rfl, rfl⟩, trivial⟩, fun _ _ _ T S => r_pv T rfl rfl fun _ T => ⟨rfl, T⟩⟩, trivial⟩ rfl (fun i hi => ?_) (fun h => by cases h)
        cases hi
        refine ⟨rfl, _, [(67, _), (71, _), (72, _)], rfl, ⟨.inl ⟨0, rfl, rfl, rfl, rfl⟩, .inl ⟨4, rfl, rfl, rfl, rfl⟩, .inl ⟨5, rfl, rfl, rfl, rfl⟩, trivial⟩, fun u a w T S => ?_⟩
        obtain ⟨x4282, h4281, H⟩ := bd H
        refine r_call T Tryd.call13 rfl rfl (rowkey_Entry.ok _ _ z x2 (gi dapi_Index x2.Indexes 0) ([(y7), (y6)].set (Int.toNat 1) (api_Value.mk 3 true 0 (⟨#[]⟩ : ByteArray))) (S.sel (p := [(y10 A3 k4 x2), (y18 A5 k6 x2), (y11 A7 k8 x2), (y15 A4161 k4162 x2), (y1 b10)]) (is := [3, 3, 3, 1, 5]) rfl) _ h4281) ?_
        rintro _ _ ⟨A4283, k4284, A4285, k4286, rfl, S⟩
        refine ⟨_, rfl, fun _ T => ?_⟩
        replace S : SL ([sl .ro ku8 A4283 k4284 x4282.1.Key, (y27 A4285 k4286 x4282), (y10 A3 k4 x2), (y18 A5 k6 x2), (y11 A7 k8 x2), (y15 A4161 k4162 x2), (y1 b10), blk b4521 (y24), (y3 A7 x2 A4161 k4162), sl .ro ku8 A13 k14 x12.1.Key, sl .ro ku8 A15 k16 x12.1.Value, blk b17 (y14 A13 x12 k14 A15 k16), blk b9 (y0 x2 A3 k4 A5 k6 A7 k8)] ++ F) _ := S.join
        refine ⟨_, [some ((y8 x2 A3 k4 A5 k6 A7 k8), false), (y26 b9), some (.slice A7 x2.Indexes.length k8, true), some ((y21 A7), true), some ((y5 x2 A4161 k4162), false), some ((y17 b10), false), some (.tuple #[(y9 A4283 x4282 k4284 A4285 k4286), .int .i64 x4282.2], false), some (.tuple #[(y9 A4283 x4282 k4284 A4285 k4286), .int .i64 x4282.2], true), some ((y9 A4283 x4282 k4284 A4285 k4286), true), some (.int .i64 x4282.2, true), some ((y29 b4521), false), none, none], [sl .ro ku8 A4283 k4284 x4282.1.Key, (y27 A4285 k4286 x4282), (y10 A3 k4 x2), (y18 A5 k6 x2), (y11 A7 k8 x2), (y15 A4161 k4162 x2), (y1 b10), blk b4521 (y24), (y3 A7 x2 A4161 k4162), sl .ro ku8 A13 k14 x12.1.Key, sl .ro ku8 A15 k16 x12.1.Value, blk b17 (y14 A13 x12 k14 A15 k16), blk b9 (y0 x2 A3 k4 A5 k6 A7 k8)], rfl, (by repeat first | exact kx0 | apply kxs | apply kxn), rfl, ?_, T, S⟩
        refine stage (some 11) rfl rfl ⟨⟨_, [(1, _)], rfl, ⟨.inr ⟨rfl, rfl⟩, trivial⟩, fun _ _ _ T S => r_fa (o' := 4) T rfl Tryd.runUnderlying26 rfl Tryd.sizeOf24 rfl rfl fun _ T => ⟨rfl, T⟩⟩, ⟨_, [(68, _)], rfl, ⟨.inl ⟨1, rfl, rfl, rfl, rfl⟩, trivial⟩, fun _ _ _ T S => r_ldB (ix := 12) T S rfl Tryd.isAgg24 rfl rfl rfl fun _ T => ⟨rfl, T⟩⟩, ⟨_, [(69, _)], rfl, ⟨.inl ⟨2, rfl, rfl, rfl, rfl⟩, trivial⟩, fun _ _ _ T S => r_ia (ix := 4) T S rfl rfl rfl rfl Tryd.runUnderlying24 Tryd.sizeOf46 (by decide) h4101 rfl fun _ T => ⟨rfl, T⟩⟩, ⟨_, [(73, _)], rfl, ⟨.inl ⟨6, rfl, rfl, rfl, rfl⟩, trivial⟩, fun _ _ _ T S => r_pv T rfl rfl fun _ T => ⟨rfl, T⟩⟩, ⟨_, [(66, _)], rfl, ⟨.inl ⟨7, rfl, rfl, rfl, rfl⟩, trivial⟩, fun _ _ _ T S => r_pv T rfl rfl fun _ T => ⟨rfl, T⟩⟩, ⟨_, [(66, _)], rfl, ⟨.inl ⟨7, rfl, rfl, rfl, rfl⟩, trivial⟩, fun _ _ _ T S => r_pv T rfl rfl fun _ T => ⟨rfl, T⟩⟩, trivial⟩ rfl (fun i hi => ?_) (fun h => by cases h)
        cases hi
        refine ⟨rfl, _, [(7, _), (74, _)], rfl, ⟨.inl ⟨10, rfl, rfl, rfl, rfl⟩, .inl ⟨8, rfl, rfl, rfl, rfl⟩, trivial⟩, fun u a w T S => ?_⟩
        refine r_stBA (ix := 7) (vs := (y13 A4283 x4282 k4284 A4285 k4286)) (l' := [sl .ro ku8 A4283 k4284 x4282.1.Key, (y27 A4285 k4286 x4282), (y10 A3 k4 x2), (y18 A5 k6 x2), (y11 A7 k8 x2), (y15 A4161 k4162 x2), (y1 b10), blk b4521 (y13 A4283 x4282 k4284 A4285 k4286), (y3 A7 x2 A4161 k4162), sl .ro ku8 A13 k14 x12.1.Key, sl .ro ku8 A15 k16 x12.1.Value, blk b17 (y14 A13 x12 k14 A15 k16), blk b9 (y0 x2 A3 k4 A5 k6 A7 k8)]) T S rfl rfl rfl rfl (by simp) Tryd.sizeOf31 (Nat.le_of_ble_eq_true rfl) rfl fun _ S => ?_
        refine ⟨_, [some ((y8 x2 A3 k4 A5 k6 A7 k8), false), some (.pointer (some ⟨b9, 4, none⟩), false), some (.slice A7 x2.Indexes.length k8, false), some ((y21 A7), false), some ((y5 x2 A4161 k4162), false), some ((y17 b10), false), some (.tuple #[(y9 A4283 x4282 k4284 A4285 k4286), .int .i64 x4282.2], false), some (.tuple #[(y9 A4283 x4282 k4284 A4285 k4286), .int .i64 x4282.2], false), some ((y9 A4283 x4282 k4284 A4285 k4286), false), some (.int .i64 x4282.2, true), some ((y29 b4521), false), some (undef, false), some (.int .i64 x4282.2, true)], [sl .ro ku8 A4283 k4284 x4282.1.Key, (y27 A4285 k4286 x4282), (y10 A3 k4 x2), (y18 A5 k6 x2), (y11 A7 k8 x2), (y15 A4161 k4162 x2), (y1 b10), blk b4521 (y13 A4283 x4282 k4284 A4285 k4286), (y3 A7 x2 A4161 k4162), sl .ro ku8 A13 k14 x12.1.Key, sl .ro ku8 A15 k16 x12.1.Value, blk b17 (y14 A13 x12 k14 A15 k16), blk b9 (y0 x2 A3 k4 A5 k6 A7 k8)], rfl, (by repeat first | exact kx0 | apply kxs | apply kxn), rfl, ?_, T, S⟩
        refine stage none rfl rfl ⟨⟨_, [(66, _)], rfl, ⟨.inl ⟨7, rfl, rfl, rfl, rfl⟩, trivial⟩, fun _ _ _ T S => r_pv T rfl rfl fun _ T => ⟨rfl, T⟩⟩, ⟨_, [(75, _)], rfl, ⟨.inl ⟨9, rfl, rfl, rfl, rfl⟩, trivial⟩, fun _ _ _ T S => r_pv T rfl rfl fun _ T => ⟨rfl, T⟩⟩, trivial⟩ rfl (fun i hi => by cases hi) (fun _ _ a w T hv hb S => ?_)
        replace T := T.sub (r := [(y20 b9), (7, (y29 b4521)), (8, .int .i64 x4282.2)]) ⟨hb 1 _ rfl rfl, hv 10 _ 7 rfl rfl rfl, hv 12 _ 8 rfl rfl rfl, trivial⟩
        refine Gets.seq ?_
        exact J1_ok F r z b9 b4521 x4282 x2 A3 k4 A5 k6 A7 k8 A4283 k4284 A4285 k4286 _ _ (T.sub ⟨rfl, rfl, rfl, trivial⟩) (S.only (p := [blk b9 (y0 x2 A3 k4 A5 k6 A7 k8), (y10 A3 k4 x2), (y18 A5 k6 x2), (y11 A7 k8 x2), blk b4521 (y13 A4283 x4282 k4284 A4285 k4286), sl .ro ku8 A4283 k4284 x4282.1.Key, (y27 A4285 k4286 x4282)]) [12, 2, 2, 2, 4, 0, 0] rfl) H
end cormorantlaw20_shown
end Go.Proofs.YtohelmfkpmphoaaDoor
namespace Go.Proofs.YtohelmfkpmphoaaDoor
open Go Go.Proofs.YtohelmfkpmphoaaDoor.X
set_option linter.unusedVariables false
set_option linter.unusedSimpArgs false
set_option maxRecDepth 100000
set_option maxHeartbeats 4000000
namespace cormorantlaw20_sameKV
noncomputable def c0 : Code := match Tryd.f8.body with | some c => c | none => .skip
def R (F : List Atom) (x1 : api_KV) (A2 : Option Addr) (k3 : Nat) (A4 : Option Addr) (k5 : Nat) (x6 : api_KV) (A7 : Option Addr) (k8 : Nat) (A9 : Option Addr) (k10 : Nat) (r : Bool) : Ending → World → Prop := fun e w' => e = .returned (.bool r) ∧ SL ([sl .ro ku8 A2 k3 x1.Key, sl .ro ku8 A4 k5 x1.Value, sl .ro ku8 A7 k8 x6.Key, sl .ro ku8 A9 k10 x6.Value] ++ F) w'
def J0 (x14 : Bool) : Option Bool := some x14
def f (x1 : api_KV) (x6 : api_KV) : Option Bool := If ((bstr x1.Key).toList == (bstr x6.Key).toList) (J0 ((bstr x1.Value).toList == (bstr x6.Value).toList)) (J0 false)
noncomputable def ptJ0 : List Item := [.code (cR (cR c0))]
theorem J0_ok (F : List Atom) (r : Bool) (x1 : api_KV) (A2 : Option Addr) (k3 : Nat) (A4 : Option Addr) (k5 : Nat) (x6 : api_KV) (A7 : Option Addr) (k8 : Nat) (A9 : Option Addr) (k10 : Nat) (x14 : Bool) (a : Act) (w : World) (T : Tm 21 [(4, .bool x14)] a) (S : SL ([sl .ro ku8 A2 k3 x1.Key, sl .ro ku8 A4 k5 x1.Value, sl .ro ku8 A7 k8 x6.Key, sl .ro ku8 A9 k10 x6.Value] ++ F) w) (H : J0 x14 = some r) : Gets Tryd.prog 8 ptJ0 a w (R F x1 A2 k3 A4 k5 x6 A7 k8 A9 k10 r) := by
 replace H := Option.some.inj H
 subst H
 exact rtn T Tryd.func8 rfl rfl ⟨rfl, (S.only (p := [sl .ro ku8 A2 k3 x1.Key, sl .ro ku8 A4 k5 x1.Value, sl .ro ku8 A7 k8 x6.Key, sl .ro ku8 A9 k10 x6.Value]) [0, 0, 0, 0] rfl)⟩
theorem ok (F : List Atom) (w : World) (x1 : api_KV) (x6 : api_KV) {A2 : Option Addr} {k3 : Nat} {A4 : Option Addr} {k5 : Nat} {A7 : Option Addr} {k8 : Nat} {A9 : Option Addr} {k10 : Nat} (S : SL ([sl .ro ku8 A2 k3 x1.Key, sl .ro ku8 A4 k5 x1.Value, sl .ro ku8 A7 k8 x6.Key, sl .ro ku8 A9 k10 x6.Value] ++ F) w) (r : Bool) (H : f x1 x6 = some r) : Calls Tryd.prog 8 #[.agg #[.slice A2 x1.Key.length k3, .slice A4 x1.Value.length k5], .agg #[.slice A7 x6.Key.length k8, .slice A9 x6.Value.length k10]] w (R F x1 A2 k3 A4 k5 x6 A7 k8 A9 k10 r) := by
 refine enter (vs := [.agg #[.slice A2 x1.Key.length k3, .slice A4 x1.Value.length k5], .agg #[.slice A7 x6.Key.length k8, .slice A9 x6.Value.length k10]]) Tryd.func8 rfl Tryd.ntmps8 (Nat.le_of_ble_eq_true rfl) fun a T => ?_
 refine Gets.seq ?_
 refine rg ?_
 refine r_box T S rfl (cs := [.slice A2 x1.Key.length k3, .slice A4 x1.Value.length k5]) rfl rfl fun _ _ b11 S T => ?_
 refine r_box T S rfl (cs := [.slice A7 x6.Key.length k8, .slice A9 x6.Value.length k10]) rfl rfl fun _ _ b12 S T => ?_
 refine r_pv T rfl rfl fun _ T => ?_
 refine Gets.seq ?_
 refine rg ?_
 refine r_fa (o' := 0) T rfl Tryd.runUnderlying31 rfl Tryd.sizeOf29 rfl rfl fun _ T => ?_
 refine r_ldB (ix := 1) T S rfl Tryd.isAgg29 rfl rfl rfl fun _ T => ?_
 refine r_b2s (ix := 2) (xs := x1.Key) T S rfl rfl Tryd.runUnderlying29 Tryd.runUnderlying9 Tryd.runUnderlying5 rfl fun _ T => ?_
 refine r_fa (o' := 0) T rfl Tryd.runUnderlying31 rfl Tryd.sizeOf29 rfl rfl fun _ T => ?_
 refine r_ldB (ix := 0) T S rfl Tryd.isAgg29 rfl rfl rfl fun _ T => ?_
 refine r_b2s (ix := 4) (xs := x6.Key) T S rfl rfl Tryd.runUnderlying29 Tryd.runUnderlying9 Tryd.runUnderlying5 rfl fun _ T => ?_
 refine r_pv T rfl rfl fun _ T => ?_
 refine r_pv T rfl rfl fun _ T => ?_
 rcases ifE H with ⟨h13, H⟩ | ⟨h13, H⟩
 ·refine g_yes T rfl rfl h13 ?_
  refine r_fa (o' := 1) T rfl Tryd.runUnderlying31 rfl Tryd.sizeOf29 rfl rfl fun _ T => ?_
  refine g_yes T rfl rfl h13 ?_
  refine r_ldB (ix := 1) T S rfl Tryd.isAgg29 rfl rfl rfl fun _ T => ?_
  refine g_yes T rfl rfl h13 ?_
  refine r_b2s (ix := 3) (xs := x1.Value) T S rfl rfl Tryd.runUnderlying29 Tryd.runUnderlying9 Tryd.runUnderlying5 rfl fun _ T => ?_
  refine g_yes T rfl rfl h13 ?_
  refine r_fa (o' := 1) T rfl Tryd.runUnderlying31 rfl Tryd.sizeOf29 rfl rfl fun _ T => ?_
  refine g_yes T rfl rfl h13 ?_
  refine r_ldB (ix := 0) T S rfl Tryd.isAgg29 rfl rfl rfl fun _ T => ?_
  refine g_yes T rfl rfl h13 ?_
  refine r_b2s (ix := 5) (xs := x6.Value) T S rfl rfl Tryd.runUnderlying29 Tryd.runUnderlying9 Tryd.runUnderlying5 rfl fun _ T => ?_
  refine g_yes T rfl rfl h13 ?_
  refine r_pv T rfl rfl fun _ T => ?_
  refine r_pickT T rfl h13 rfl rfl fun _ T => ?_
  refine r_pv T rfl rfl fun _ T => ?_
  exact J0_ok F r x1 A2 k3 A4 k5 x6 A7 k8 A9 k10 ((bstr x1.Value).toList == (bstr x6.Value).toList) _ _ (T.sub ⟨rfl, trivial⟩) (S.only (p := [sl .ro ku8 A2 k3 x1.Key, sl .ro ku8 A4 k5 x1.Value, sl .ro ku8 A7 k8 x6.Key, sl .ro ku8 A9 k10 x6.Value]) [2, 2, 2, 2] rfl) H
 ·refine g_no T rfl rfl h13 rfl fun _ T => ?_
  refine g_no T rfl rfl h13 rfl fun _ T => ?_
  refine g_no T rfl rfl h13 rfl fun _ T => ?_
  refine g_no T rfl rfl h13 rfl fun _ T => ?_
  refine g_no T rfl rfl h13 rfl fun _ T => ?_
  refine g_no T rfl rfl h13 rfl fun _ T => ?_
  refine g_no T rfl rfl h13 rfl fun _ T => ?_
  refine r_pickF T rfl h13 rfl rfl fun _ T => ?_
  refine r_pv T rfl rfl fun _ T => ?_
  exact J0_ok F r x1 A2 k3 A4 k5 x6 A7 k8 A9 k10 false _ _ (T.sub ⟨rfl, trivial⟩) (S.only (p := [sl .ro ku8 A2 k3 x1.Key, sl .ro ku8 A4 k5 x1.Value, sl .ro ku8 A7 k8 x6.Key, sl .ro ku8 A9 k10 x6.Value]) [2, 2, 2, 2] rfl) H
end cormorantlaw20_sameKV
end Go.Proofs.YtohelmfkpmphoaaDoor
namespace Go.Proofs.YtohelmfkpmphoaaDoor
open Go Go.Proofs.YtohelmfkpmphoaaDoor.X
set_option linter.unusedVariables false
set_option linter.unusedSimpArgs false
set_option maxRecDepth 100000
set_option maxHeartbeats 4000000
namespace cormorantlaw20_RowkeyRows
noncomputable def c0 : Code := match Tryd.f3.body with | some c => c | none => .skip
def R (F : List Atom) (x1 : api_Table) (A2 : Option Addr) (k3 : Nat) (A4 : Option Addr) (k5 : Nat) (A6 : Option Addr) (k7 : Nat) (x8 : List api_Value) (A9 : Option Addr) (k10 : Nat) (m11 : Md) (r : Bool) : Ending → World → Prop := fun e w' => e = .returned (.bool r) ∧ SL ([sl .ro kapi_Column A2 k3 x1.Columns, sl .ro ki64 A4 k5 x1.Key, sl .ro kapi_Index A6 k7 x1.Indexes, sl m11 kapi_Value A9 k10 x8] ++ F) w'
def J1 (z : Nat) (x42 : Bool) : Option Bool := some x42
def J0 (z : Nat) : Option Bool := some false
def f (z : Nat) (x1 : api_Table) (x8 : List api_Value) : Option Bool := Bd (cormorantlaw20_shown.f z) fun x14 => Bd (cormorantref20_Row.f z x1 x8) fun x16 => Bd (rowkey_Row.f z x1 x8) fun x23 => Bd (cormorantlaw20_sameKV.f x23.1 x16.1) fun x30 => If (!x14) (J0 z) (If (x23.2 != x16.2) (J0 z) (If (!x30) (J0 z) (If (x23.2 != 0) (some true) (Bd (rowkey_TakeRow.f z x1 x23.1) fun x36 => Bd (cormorantlaw20_sameValues.f z x36.1 x8) fun x40 => If (x36.2 == 0) (J1 z x40) (J1 z false)))))
noncomputable def ptJ1 : List Item := [.code (cR (cR (cR (cR (cR (cR (cR (cR (cR (cR c0))))))))))]
noncomputable def ptJ0 : List Item := [.code (cL (cT (cR (cL (cR (cR (cR (cR (cR c0))))))))), .code (cR (cT (cR (cL (cR (cR (cR (cR (cR c0))))))))), .code (cR (cR (cR (cR (cR (cR c0))))))]
abbrev y0 (x1 : api_Table) (A2 : Option Addr) (k3 : Nat) (A4 : Option Addr) (k5 : Nat) (A6 : Option Addr) (k7 : Nat) : List Value := [.int .i64 x1.Id, .string x1.Name, .slice A2 x1.Columns.length k3, .slice A4 x1.Key.length k5, .slice A6 x1.Indexes.length k7]
abbrev y1 (A2 : Option Addr) (k3 : Nat) (x1 : api_Table) (A4 : Option Addr) (k5 : Nat) (A6 : Option Addr) (k7 : Nat) (m11 : Md) (A9 : Option Addr) (k10 : Nat) (x8 : List api_Value) : List Atom := [sl .ro kapi_Column A2 k3 x1.Columns, sl .ro ki64 A4 k5 x1.Key, sl .ro kapi_Index A6 k7 x1.Indexes, sl m11 kapi_Value A9 k10 x8]
abbrev y2 (A17 : Option Addr) (x16 : api_KV × Int) (k18 : Nat) (A19 : Option Addr) (k20 : Nat) : List Value := [.slice A17 x16.1.Key.length k18, .slice A19 x16.1.Value.length k20]
abbrev y3 (A24 : Option Addr) (x23 : api_KV × Int) (k25 : Nat) (A26 : Option Addr) (k27 : Nat) : List Value := [.slice A24 x23.1.Key.length k25, .slice A26 x23.1.Value.length k27]
theorem J1_ok (F : List Atom) (r : Bool) (z : Nat) (x1 : api_Table) (A2 : Option Addr) (k3 : Nat) (A4 : Option Addr) (k5 : Nat) (A6 : Option Addr) (k7 : Nat) (x8 : List api_Value) (A9 : Option Addr) (k10 : Nat) (m11 : Md) (x42 : Bool) (a : Act) (w : World) (T : Tm 57 [(4, .bool x42)] a) (S : SL ((y1 A2 k3 x1 A4 k5 A6 k7 m11 A9 k10 x8) ++ F) w) (H : J1 z x42 = some r) : Gets Tryd.prog 3 ptJ1 a w (R F x1 A2 k3 A4 k5 A6 k7 x8 A9 k10 m11 r) := by
 replace H := Option.some.inj H
 subst H
 exact rtn T Tryd.func3 rfl rfl ⟨rfl, (S.only (p := (y1 A2 k3 x1 A4 k5 A6 k7 m11 A9 k10 x8)) [0, 0, 0, 0] rfl)⟩
theorem J0_ok (F : List Atom) (r : Bool) (z : Nat) (x1 : api_Table) (A2 : Option Addr) (k3 : Nat) (A4 : Option Addr) (k5 : Nat) (A6 : Option Addr) (k7 : Nat) (x8 : List api_Value) (A9 : Option Addr) (k10 : Nat) (m11 : Md) (a : Act) (w : World) (T : Tm 57 [] a) (S : SL ((y1 A2 k3 x1 A4 k5 A6 k7 m11 A9 k10 x8) ++ F) w) (H : J0 z = some r) : Gets Tryd.prog 3 ptJ0 a w (R F x1 A2 k3 A4 k5 A6 k7 x8 A9 k10 m11 r) := by
 refine rg ?_
 refine r_pv T rfl rfl fun _ T => ?_
 replace H := Option.some.inj H
 subst H
 exact rtn T Tryd.func3 rfl rfl ⟨rfl, (S.only (p := (y1 A2 k3 x1 A4 k5 A6 k7 m11 A9 k10 x8)) [0, 0, 0, 0] rfl)⟩
theorem ok (F : List Atom) (w : World) (z : Nat) (x1 : api_Table) (x8 : List api_Value) {A2 : Option Addr} {k3 : Nat} {A4 : Option Addr} {k5 : Nat} {A6 : Option Addr} {k7 : Nat} {A9 : Option Addr} {k10 : Nat} {m11 : Md} (S : SL ((y1 A2 k3 x1 A4 k5 A6 k7 m11 A9 k10 x8) ++ F) w) (r : Bool) (H : f z x1 x8 = some r) : Calls Tryd.prog 3 #[.agg #[.int .i64 x1.Id, .string x1.Name, .slice A2 x1.Columns.length k3, .slice A4 x1.Key.length k5, .slice A6 x1.Indexes.length k7], .slice A9 x8.length k10] w (R F x1 A2 k3 A4 k5 A6 k7 x8 A9 k10 m11 r) := by
 refine enter (vs := [.agg #[.int .i64 x1.Id, .string x1.Name, .slice A2 x1.Columns.length k3, .slice A4 x1.Key.length k5, .slice A6 x1.Indexes.length k7], .slice A9 x8.length k10]) Tryd.func3 rfl Tryd.ntmps3 (Nat.le_of_ble_eq_true rfl) fun a T => ?_
 refine Gets.seq ?_
 refine rg ?_
 refine r_box T S rfl (cs := (y0 x1 A2 k3 A4 k5 A6 k7)) rfl rfl fun _ _ b12 S T => ?_
 refine r_pv T rfl rfl fun _ T => ?_
 refine Gets.seq ?_
 refine rg ?_
 obtain ⟨x14, h13, H⟩ := bd H
 refine r_call T Tryd.call5 rfl rfl (cormorantlaw20_shown.ok _ _ z  (S.sel (p := []) (is := []) rfl) _ h13) ?_
 rintro _ _ ⟨rfl, S⟩
 refine ⟨_, rfl, fun _ T => ?_⟩
 replace S : SL ([blk b12 (y0 x1 A2 k3 A4 k5 A6 k7), sl .ro kapi_Column A2 k3 x1.Columns, sl .ro ki64 A4 k5 x1.Key, sl .ro kapi_Index A6 k7 x1.Indexes, sl m11 kapi_Value A9 k10 x8] ++ F) _ := S.join
 refine r_pv T rfl rfl fun _ T => ?_
 refine Gets.seq ?_
 refine rg ?_
 refine r_ldBA (ix := 0) (ds := (y0 x1 A2 k3 A4 k5 A6 k7)) T S rfl Tryd.isAgg26 rfl rfl Tryd.sizeOf26 rfl fun _ T => ?_
 refine r_pv T rfl rfl fun _ T => ?_
 replace S := S.dup (i := 1) rfl
 replace S := S.dup (i := 3) rfl
 replace S := S.dup (i := 5) rfl
 obtain ⟨x16, h15, H⟩ := bd H
 refine r_call T Tryd.call6 rfl rfl (cormorantref20_Row.ok _ _ z x1 x8 (S.sel (p := (y1 A2 k3 x1 A4 k5 A6 k7 m11 A9 k10 x8)) (is := [2, 1, 0, 4]) rfl) _ h15) ?_
 rintro _ _ ⟨A17, k18, A19, k20, rfl, S⟩
 refine ⟨_, rfl, fun _ T => ?_⟩
 replace S : SL ([sl .ro ku8 A17 k18 x16.1.Key, sl .ro ku8 A19 k20 x16.1.Value, sl m11 kapi_Value A9 k10 x8, blk b12 (y0 x1 A2 k3 A4 k5 A6 k7), sl .ro kapi_Column A2 k3 x1.Columns, sl .ro ki64 A4 k5 x1.Key, sl .ro kapi_Index A6 k7 x1.Indexes] ++ F) _ := S.join.only [0, 0, 3, 3, 3, 3, 3] rfl
 refine r_pv T rfl rfl fun _ T => ?_
 refine r_pv T rfl rfl fun _ T => ?_
 refine r_pv T rfl rfl fun _ T => ?_
 refine r_alloc T S zv31 (cs := [.slice none 0 0, .slice none 0 0]) rfl rfl fun _ _ b21 S T => ?_
 refine r_stBA (ix := 0) (vs := (y2 A17 x16 k18 A19 k20)) (l' := [blk b21 (y2 A17 x16 k18 A19 k20), sl .ro ku8 A17 k18 x16.1.Key, sl .ro ku8 A19 k20 x16.1.Value, sl m11 kapi_Value A9 k10 x8, blk b12 (y0 x1 A2 k3 A4 k5 A6 k7), sl .ro kapi_Column A2 k3 x1.Columns, sl .ro ki64 A4 k5 x1.Key, sl .ro kapi_Index A6 k7 x1.Indexes]) T S rfl rfl rfl rfl (by simp) Tryd.sizeOf31 (Nat.le_of_ble_eq_true rfl) rfl fun _ S => ?_
 refine r_pv T rfl rfl fun _ T => ?_
 refine Gets.seq ?_
 refine rg ?_
 refine r_ldBA (ix := 4) (ds := (y0 x1 A2 k3 A4 k5 A6 k7)) T S rfl Tryd.isAgg26 rfl rfl Tryd.sizeOf26 rfl fun _ T => ?_
 refine r_pv T rfl rfl fun _ T => ?_
 replace S := S.dup (i := 5) rfl
 replace S := S.dup (i := 7) rfl
 replace S := S.dup (i := 9) rfl
 obtain ⟨x23, h22, H⟩ := bd H
 refine r_call T Tryd.call7 rfl rfl (rowkey_Row.ok _ _ z x1 x8 (S.sel (p := (y1 A2 k3 x1 A4 k5 A6 k7 m11 A9 k10 x8)) (is := [2, 1, 0, 3]) rfl) _ h22) ?_
 rintro _ _ ⟨A24, k25, A26, k27, rfl, S⟩
 refine ⟨_, rfl, fun _ T => ?_⟩
 replace S : SL ([sl .ro ku8 A24 k25 x23.1.Key, sl .ro ku8 A26 k27 x23.1.Value, sl m11 kapi_Value A9 k10 x8, blk b21 (y2 A17 x16 k18 A19 k20), sl .ro ku8 A17 k18 x16.1.Key, sl .ro ku8 A19 k20 x16.1.Value, blk b12 (y0 x1 A2 k3 A4 k5 A6 k7), sl .ro kapi_Column A2 k3 x1.Columns, sl .ro ki64 A4 k5 x1.Key, sl .ro kapi_Index A6 k7 x1.Indexes] ++ F) _ := S.join.only [0, 0, 3, 3, 3, 3, 3, 3, 3, 3] rfl
 refine r_pv T rfl rfl fun _ T => ?_
 refine r_pv T rfl rfl fun _ T => ?_
 refine r_pv T rfl rfl fun _ T => ?_
 refine r_alloc T S zv31 (cs := [.slice none 0 0, .slice none 0 0]) rfl rfl fun _ _ b28 S T => ?_
 refine r_stBA (ix := 0) (vs := (y3 A24 x23 k25 A26 k27)) (l' := [blk b28 (y3 A24 x23 k25 A26 k27), sl .ro ku8 A24 k25 x23.1.Key, sl .ro ku8 A26 k27 x23.1.Value, sl m11 kapi_Value A9 k10 x8, blk b21 (y2 A17 x16 k18 A19 k20), sl .ro ku8 A17 k18 x16.1.Key, sl .ro ku8 A19 k20 x16.1.Value, blk b12 (y0 x1 A2 k3 A4 k5 A6 k7), sl .ro kapi_Column A2 k3 x1.Columns, sl .ro ki64 A4 k5 x1.Key, sl .ro kapi_Index A6 k7 x1.Indexes]) T S rfl rfl rfl rfl (by simp) Tryd.sizeOf31 (Nat.le_of_ble_eq_true rfl) rfl fun _ S => ?_
 refine r_pv T rfl rfl fun _ T => ?_
 refine Gets.seq ?_
 refine rg ?_
 refine r_ldBA (ix := 0) (ds := (y3 A24 x23 k25 A26 k27)) T S rfl Tryd.isAgg31 rfl rfl Tryd.sizeOf31 rfl fun _ T => ?_
 refine r_ldBA (ix := 4) (ds := (y2 A17 x16 k18 A19 k20)) T S rfl Tryd.isAgg31 rfl rfl Tryd.sizeOf31 rfl fun _ T => ?_
 obtain ⟨x30, h29, H⟩ := bd H
 refine r_call T Tryd.call8 rfl rfl (cormorantlaw20_sameKV.ok _ _ x23.1 x16.1 (S.sel (p := [sl .ro ku8 A24 k25 x23.1.Key, sl .ro ku8 A26 k27 x23.1.Value, sl .ro ku8 A17 k18 x16.1.Key, sl .ro ku8 A19 k20 x16.1.Value]) (is := [1, 1, 3, 3]) rfl) _ h29) ?_
 rintro _ _ ⟨rfl, S⟩
 refine ⟨_, rfl, fun _ T => ?_⟩
 replace S : SL ([sl .ro ku8 A24 k25 x23.1.Key, sl .ro ku8 A26 k27 x23.1.Value, sl .ro ku8 A17 k18 x16.1.Key, sl .ro ku8 A19 k20 x16.1.Value, blk b28 (y3 A24 x23 k25 A26 k27), sl m11 kapi_Value A9 k10 x8, blk b21 (y2 A17 x16 k18 A19 k20), blk b12 (y0 x1 A2 k3 A4 k5 A6 k7), sl .ro kapi_Column A2 k3 x1.Columns, sl .ro ki64 A4 k5 x1.Key, sl .ro kapi_Index A6 k7 x1.Indexes] ++ F) _ := S.join
 refine r_pv T rfl rfl fun _ T => ?_
 refine Gets.seq (Gets.seq ?_)
 refine rg ?_
 refine r_pv T rfl rfl fun _ T => ?_
 refine r_pv T rfl rfl fun _ T => ?_
 refine r_pv T rfl rfl fun _ T => ?_
 rcases ifE H with ⟨h31, H⟩ | ⟨h31, H⟩
 ·refine g_no T rfl rfl h31 rfl fun _ T => ?_
  refine g_no T rfl rfl h31 rfl fun _ T => ?_
  refine g_no T rfl rfl h31 rfl fun _ T => ?_
  refine r_pickT T rfl h31 rfl rfl fun _ T => ?_
  refine r_pv T rfl rfl fun _ T => ?_
  refine g_no T rfl rfl rfl rfl fun _ T => ?_
  refine g_no T rfl rfl rfl rfl fun _ T => ?_
  refine r_pickT T rfl rfl rfl rfl fun _ T => ?_
  refine cdT T rfl rfl ?_
  refine Gets.seq ?_
  exact J0_ok F r z x1 A2 k3 A4 k5 A6 k7 x8 A9 k10 m11 _ _ (T.sub trivial) (S.only (p := (y1 A2 k3 x1 A4 k5 A6 k7 m11 A9 k10 x8)) [8, 8, 8, 5] rfl) H
 ·refine g_yes T rfl rfl h31 ?_
  refine r_pv T rfl rfl fun _ T => ?_
  refine g_yes T rfl rfl h31 ?_
  refine r_pv T rfl rfl fun _ T => ?_
  refine g_yes T rfl rfl h31 ?_
  refine r_pv T rfl rfl fun _ T => ?_
  refine r_pickF T rfl h31 rfl rfl fun _ T => ?_
  refine r_pv T rfl rfl fun _ T => ?_
  rcases ifE H with ⟨h32, H⟩ | ⟨h32, H⟩
  ·refine g_no T rfl rfl h32 rfl fun _ T => ?_
   refine g_no T rfl rfl h32 rfl fun _ T => ?_
   refine r_pickT T rfl h32 rfl rfl fun _ T => ?_
   refine cdT T rfl rfl ?_
   refine Gets.seq ?_
   exact J0_ok F r z x1 A2 k3 A4 k5 A6 k7 x8 A9 k10 m11 _ _ (T.sub trivial) (S.only (p := (y1 A2 k3 x1 A4 k5 A6 k7 m11 A9 k10 x8)) [8, 8, 8, 5] rfl) H
  ·refine g_yes T rfl rfl h32 ?_
   refine r_pv T rfl rfl fun _ T => ?_
   refine g_yes T rfl rfl h32 ?_
   refine r_pv T rfl rfl fun _ T => ?_
   refine r_pickF T rfl h32 rfl rfl fun _ T => ?_
   rcases ifE H with ⟨h33, H⟩ | ⟨h33, H⟩
   ·refine cdT T rfl h33 ?_
    refine Gets.seq ?_
    exact J0_ok F r z x1 A2 k3 A4 k5 A6 k7 x8 A9 k10 m11 _ _ (T.sub trivial) (S.only (p := (y1 A2 k3 x1 A4 k5 A6 k7 m11 A9 k10 x8)) [8, 8, 8, 5] rfl) H
   ·refine cdF T rfl h33 ?_
    refine Gets.skip (Gets.seq (Gets.seq ?_))
    refine rg ?_
    refine r_pv T rfl rfl fun _ T => ?_
    refine r_pv T rfl rfl fun _ T => ?_
    rcases ifE H with ⟨h34, H⟩ | ⟨h34, H⟩
    ·refine cdT T rfl h34 ?_
     refine Gets.seq ?_
     refine rg ?_
     refine r_pv T rfl rfl fun _ T => ?_
     replace H := Option.some.inj H
     subst H
     exact rtn T Tryd.func3 rfl rfl ⟨rfl, (S.only (p := (y1 A2 k3 x1 A4 k5 A6 k7 m11 A9 k10 x8)) [8, 8, 8, 5] rfl)⟩
    ·refine cdF T rfl h34 ?_
     refine Gets.skip (Gets.seq ?_)
     refine rg ?_
     refine r_ldBA (ix := 7) (ds := (y0 x1 A2 k3 A4 k5 A6 k7)) T S rfl Tryd.isAgg26 rfl rfl Tryd.sizeOf26 rfl fun _ T => ?_
     refine r_ldBA (ix := 4) (ds := (y3 A24 x23 k25 A26 k27)) T S rfl Tryd.isAgg31 rfl rfl Tryd.sizeOf31 rfl fun _ T => ?_
     replace S := S.dup (i := 8) rfl
     replace S := S.dup (i := 10) rfl
     replace S := S.dup (i := 12) rfl
     obtain ⟨x36, h35, H⟩ := bd H
     refine r_call T Tryd.call9 rfl rfl (rowkey_TakeRow.ok _ _ z x1 x23.1 (S.sel (p := [sl .ro kapi_Column A2 k3 x1.Columns, sl .ro ki64 A4 k5 x1.Key, sl .ro kapi_Index A6 k7 x1.Indexes, sl .ro ku8 A24 k25 x23.1.Key, sl .ro ku8 A26 k27 x23.1.Value]) (is := [2, 1, 0, 0, 0]) rfl) _ h35) ?_
     rintro _ _ ⟨A37, k38, rfl, S⟩
     refine ⟨_, rfl, fun _ T => ?_⟩
     replace S : SL ([sl .own kapi_Value A37 k38 x36.1, sl .ro ku8 A24 k25 x23.1.Key, sl .ro ku8 A26 k27 x23.1.Value, sl .ro ku8 A17 k18 x16.1.Key, sl .ro ku8 A19 k20 x16.1.Value, blk b28 (y3 A24 x23 k25 A26 k27), sl m11 kapi_Value A9 k10 x8, blk b21 (y2 A17 x16 k18 A19 k20), blk b12 (y0 x1 A2 k3 A4 k5 A6 k7), sl .ro kapi_Column A2 k3 x1.Columns, sl .ro ki64 A4 k5 x1.Key, sl .ro kapi_Index A6 k7 x1.Indexes] ++ F) _ := S.join.only [0, 3, 3, 3, 3, 3, 3, 3, 3, 3, 3, 3] rfl
     refine r_pv T rfl rfl fun _ T => ?_
     refine r_pv T rfl rfl fun _ T => ?_
     refine r_pv T rfl rfl fun _ T => ?_
     refine r_pv T rfl rfl fun _ T => ?_
     refine r_pv T rfl rfl fun _ T => ?_
     refine Gets.seq ?_
     refine rg ?_
     refine r_pv T rfl rfl fun _ T => ?_
     refine r_pv T rfl rfl fun _ T => ?_
     obtain ⟨x40, h39, H⟩ := bd H
     refine r_call T Tryd.call10 rfl rfl (cormorantlaw20_sameValues.ok _ _ z x36.1 x8 (S.sel (p := [sl .own kapi_Value A37 k38 x36.1, sl m11 kapi_Value A9 k10 x8]) (is := [0, 5]) rfl) _ h39) ?_
     rintro _ _ ⟨rfl, S⟩
     refine ⟨_, rfl, fun _ T => ?_⟩
     replace S : SL ([sl .own kapi_Value A37 k38 x36.1, sl m11 kapi_Value A9 k10 x8, sl .ro ku8 A24 k25 x23.1.Key, sl .ro ku8 A26 k27 x23.1.Value, sl .ro ku8 A17 k18 x16.1.Key, sl .ro ku8 A19 k20 x16.1.Value, blk b28 (y3 A24 x23 k25 A26 k27), blk b21 (y2 A17 x16 k18 A19 k20), blk b12 (y0 x1 A2 k3 A4 k5 A6 k7), sl .ro kapi_Column A2 k3 x1.Columns, sl .ro ki64 A4 k5 x1.Key, sl .ro kapi_Index A6 k7 x1.Indexes] ++ F) _ := S.join
     refine r_pv T rfl rfl fun _ T => ?_
     refine Gets.seq ?_
     refine rg ?_
     refine r_pv T rfl rfl fun _ T => ?_
     refine r_pv T rfl rfl fun _ T => ?_
     refine r_pv T rfl rfl fun _ T => ?_
     rcases ifE H with ⟨h41, H⟩ | ⟨h41, H⟩
     ·refine g_yes T rfl rfl h41 ?_
      refine r_pv T rfl rfl fun _ T => ?_
      refine r_pickT T rfl h41 rfl rfl fun _ T => ?_
      refine r_pv T rfl rfl fun _ T => ?_
      exact J1_ok F r z x1 A2 k3 A4 k5 A6 k7 x8 A9 k10 m11 x40 _ _ (T.sub ⟨rfl, trivial⟩) (S.only (p := (y1 A2 k3 x1 A4 k5 A6 k7 m11 A9 k10 x8)) [9, 9, 9, 1] rfl) H
     ·refine g_no T rfl rfl h41 rfl fun _ T => ?_
      refine r_pickF T rfl h41 rfl rfl fun _ T => ?_
      refine r_pv T rfl rfl fun _ T => ?_
      exact J1_ok F r z x1 A2 k3 A4 k5 A6 k7 x8 A9 k10 m11 false _ _ (T.sub ⟨rfl, trivial⟩) (S.only (p := (y1 A2 k3 x1 A4 k5 A6 k7 m11 A9 k10 x8)) [9, 9, 9, 1] rfl) H
end cormorantlaw20_RowkeyRows
end Go.Proofs.YtohelmfkpmphoaaDoor
namespace Go.Proofs.YtohelmfkpmphoaaDoor
open Go Go.Proofs.YtohelmfkpmphoaaDoor.X
set_option linter.unusedVariables false
set_option linter.unusedSimpArgs false
section
variable {z : Nat} (hz : 16777216 ≤ z)
include hz
omit hz in
theorem eqV_refl (v : api_Value) : eqapi_Value v v = true := by simp [eqapi_Value]
theorem sameValues_refl {l : List api_Value} (hl : l.length ≤ 1048576) : cormorantlaw20_sameValues.f z l l = some true := by
 unfold cormorantlaw20_sameValues.f
 rw [if_n (by simp)]
 have key : ∀ (k m i : Nat), l.length - i = k → i ≤ l.length → k < m → cormorantlaw20_sameValues.L0 z l l m (i : Int) = some true := by
  intro k
  induction k with
  | zero =>
   intro m i h1 h2 h3
   obtain ⟨m, rfl⟩ : ∃ q, m = q + 1 := ⟨m - 1, by omega⟩
   rw [cormorantlaw20_sameValues.L0, if_n (by simp; omega)]
  | succ k ih =>
   intro m i h1 h2 h3
   obtain ⟨m, rfl⟩ : ∃ q, m = q + 1 := ⟨m - 1, by omega⟩
   rw [cormorantlaw20_sameValues.L0, if_y (by simp; omega), ck_y (by omega), ck_y (by omega), if_n (by rw [eqV_refl]; rfl), wI (by omega)]
   exact ih m (i + 1) (by omega) (by omega) (by omega)
 exact key l.length z 0 (by omega) (by omega) (by omega)
omit hz in
theorem sameKV_refl (kv : api_KV) : cormorantlaw20_sameKV.f kv kv = some true := by
 unfold cormorantlaw20_sameKV.f cormorantlaw20_sameKV.J0
 rw [if_y (by simp)]
 simp
end
set_option maxRecDepth 100000 in
theorem shown_true : cormorantlaw20_shown.f 16777216 = some true := by decide +kernel
theorem rows_plain {t : api_Table} (ht : LimT t) {row : List api_Value} (hrow : LimR row) : cormorantlaw20_RowkeyRows.f 16777216 t row = some true := by
 have hz : 16777216 ≤ 16777216 := Nat.le_refl _
 unfold cormorantlaw20_RowkeyRows.f cormorantlaw20_RowkeyRows.J0 cormorantlaw20_RowkeyRows.J1
 rw [shown_true, bd_some, refRow_f hz ht hrow, bd_some, Row_f hz ht hrow, bd_some, sameKV_refl, bd_some, if_n (by rfl), if_n (by simp), if_n (by rfl)]
 by_cases he : (RowS t row).2 = 0
 ·rw [if_n (by simpa using he)]
  have : RowS t row = ((RowS t row).1, 0) := Prod.ext rfl he
  rw [TakeRow_f hz ht hrow this, bd_some]
  dsimp only
  rw [sameValues_refl hz hrow.1, bd_some, if_y (by rfl)]
 ·rw [if_y (by simpa using he)]
end Go.Proofs.YtohelmfkpmphoaaDoor
namespace Go.Proofs.YtohelmfkpmphoaaDoor
open Go Go.ChangeShapes Go.WideShapes Go.ChangeAt Go.RowKit Go.Proofs.YtohelmfkpmphoaaDoor.X
theorem Tryd.own : ownKnob Tryd.prog.godebug = none := by kernel_rfl
theorem Tryd.laidOut : laidOutB Tryd.prog = true := by kernel_rfl
abbrev wI64 (n : Int) : Prop := (Lit.int .i64 n).wf = true
def bValue (v : api_Value) : Prop := wI64 v.Int
theorem rbValue : Rb kapi_Value Tryd.prog 43 (fun _ v => bValue v) :=
 Rb.iso (g := fun p => ⟨p.1, p.2.1, p.2.2.1, p.2.2.2⟩) (Rb.struct Tryd.underlying43 (by kernel_rfl) (by decide)
  (RbF.cons (Rb.int (P := Tryd.prog) (k := .i64) (by kernel_rfl) (by kernel_rfl)) rfl (RbF.cons (Rb.bool (P := Tryd.prog) (by kernel_rfl) (by kernel_rfl)) rfl (RbF.cons (Rb.int (P := Tryd.prog) (k := .i64) (by kernel_rfl) (by kernel_rfl)) rfl (RbF.last (Rb.str (P := Tryd.prog) (by kernel_rfl) (by kernel_rfl)) rfl)))))
  (fun _ => rfl) (fun _ _ h => h.2.2.1) (fun _ h => h)
theorem rbColumn : Rb kapi_Column Tryd.prog 72 (fun _ _ => True) :=
 Rb.iso (g := fun p => ⟨p.1, p.2.1, p.2.2.1, p.2.2.2⟩) (Rb.struct Tryd.underlying72 (by kernel_rfl) (by decide)
  (RbF.cons (Rb.str (P := Tryd.prog) (by kernel_rfl) (by kernel_rfl)) rfl (RbF.cons (Rb.int (P := Tryd.prog) (k := .i64) (by kernel_rfl) (by kernel_rfl)) rfl (RbF.cons (Rb.bool (P := Tryd.prog) (by kernel_rfl) (by kernel_rfl)) rfl (RbF.last rbValue rfl)))))
  (fun _ => rfl) (fun _ _ _ => trivial) (fun _ h => h)
theorem rbInts : Rb (kSl ki64) Tryd.prog 23 (fun n xs => xs.length ≤ n ∧ ∀ x ∈ xs, wI64 x) := (Rb.int (k := .i64) (by kernel_rfl) (by kernel_rfl)).slice (e := 3) (by kernel_rfl) (by kernel_rfl)
theorem rbIndex : Rb kapi_Index Tryd.prog 46 (fun _ _ => True) :=
 Rb.iso (g := fun p => ⟨p.1, p.2.1, p.2.2.1, p.2.2.2⟩) (Rb.struct Tryd.underlying46 (by kernel_rfl) (by decide)
  (RbF.cons (Rb.int (P := Tryd.prog) (k := .i64) (by kernel_rfl) (by kernel_rfl)) rfl (RbF.cons (Rb.str (P := Tryd.prog) (by kernel_rfl) (by kernel_rfl)) rfl (RbF.cons rbInts rfl (RbF.last (Rb.bool (P := Tryd.prog) (by kernel_rfl) (by kernel_rfl)) rfl)))))
  (fun _ => rfl) (fun _ _ _ => trivial) (fun _ h => h)
def bTable (n : Nat) (t : api_Table) : Prop := wI64 t.Id ∧ t.Columns.length ≤ n ∧ t.Key.length ≤ n
theorem rbTable : Rb kapi_Table Tryd.prog 26 bTable :=
 Rb.iso (g := fun p => ⟨p.1, p.2.1, p.2.2.1, p.2.2.2.1, p.2.2.2.2⟩) (Rb.struct Tryd.underlying26 (by kernel_rfl) (by decide)
  (RbF.cons (Rb.int (P := Tryd.prog) (k := .i64) (by kernel_rfl) (by kernel_rfl)) rfl (RbF.cons (Rb.str (P := Tryd.prog) (by kernel_rfl) (by kernel_rfl)) rfl (RbF.cons (rbColumn.slice (by kernel_rfl) (by kernel_rfl)) rfl (RbF.cons rbInts rfl (RbF.last (rbIndex.slice (by kernel_rfl) (by kernel_rfl)) rfl))))))
  (fun _ => rfl) (fun _ _ h => ⟨h.1, h.2.2.1.1, h.2.2.2.1.1⟩) (fun a h => ⟨h.1, Nat.le_trans h.2.1 a, Nat.le_trans h.2.2 a⟩)
theorem tab_rep {G : Hp} {x : api_Table} {cs : Array Value} (h : kapi_Table.rep G x cs.toList) : ∃ A2 k3 A4 k5 A6 k7, cs = #[.int .i64 x.Id, .string x.Name, .slice A2 x.Columns.length k3, .slice A4 x.Key.length k5, .slice A6 x.Indexes.length k7] ∧ roR kapi_Column G A2 k3 x.Columns ∧ roR ki64 G A4 k5 x.Key ∧ roR kapi_Index G A6 k7 x.Indexes := by
 obtain ⟨c1, q1, e1, h1, c2, q2, rfl, h2, c3, q3, rfl, ⟨A, k, h3, g3⟩, c4, q4, rfl, ⟨A', k', h4, g4⟩, A'', k'', h5, g5⟩ := h
 have h1' : c1 = [.int .i64 x.Id] := h1
 have h2' : c2 = [.string x.Name] := h2
 subst h1' h2' h3 h4 h5
 exact ⟨A, k, A', k', A'', k'', Array.ext' e1, g3, g4, g5⟩
theorem trodAll_two {H : Type} {enc : TypeId × Value → H} {P : Program} {w : World} {base : Nat} {sp : Nat → Bool} {held : Bool} {t1 t2 : TypeId} {vs : List Value} {ds : List (DataW H)} {ps : List MemPlace} (h : DataW.TrodAll enc P w base sp held [t1, t2] vs ds ps) :
  ∃ v0 v1 d0 d1 p0 p1, vs = [v0, v1] ∧ ds = [d0, d1] ∧ ps = p0 ++ p1 ∧ DataW.Trod enc P w base sp held t1 v0 d0 p0 ∧ DataW.Trod enc P w base sp held t2 v1 d1 p1 := by
 obtain ⟨v, vs1, d, ds1, a, b, rfl, rfl, rfl, h1, h2⟩ := trodAll_cons h
 obtain ⟨v', vs2, d', ds2, a', b', rfl, rfl, rfl, h1', h2'⟩ := trodAll_cons h2
 obtain ⟨rfl, rfl, rfl⟩ := trodAll_nil h2'
 exact ⟨v, v', d, d', a, a', rfl, rfl, by simp, h1, h1'⟩
theorem int_of_wf {k : IntKind} {n : Int} (h : (Lit.int k n).wf = true) : k.min ≤ n ∧ n ≤ k.max := by simpa [Lit.wf] using h
theorem inR_of {n : Int} (h : wI64 n) : inR n := by
 have := int_of_wf h
 have h1 : IntKind.i64.min = -9223372036854775808 := by decide
 have h2 : IntKind.i64.max = 9223372036854775807 := by decide
 unfold inR
 omega
def putBytes (zs : List Int) : Obj → Obj
 | .cells _ t frozen => .cells (zs.map fun n => Value.int .u8 n).toArray t frozen
 | o => o
noncomputable def laidWorld (os : Os) : World :=
 { World.holding Tryd.prog os ⟨#[], #[], []⟩ with heap := ((World.holding Tryd.prog os ⟨#[], #[], []⟩).heap.modify 1 (putBytes (Go.Pinned.utf8FirstZ.map fun (n : Nat) => (n : Int)))).modify 2 (putBytes ([128, 191, 160, 191, 128, 159, 144, 191, 128, 143] ++ List.replicate 22 0)) }
theorem laid_met (os : Os) : laidMet Tryd.prog Rows.rowkeyRowsUptoRow.laid ((laidWorld os).forCall (fun _ _ => 0) ⟨#[], #[.agg #[.int .i64 0, .string ⟨#[]⟩, .slice none 0 0, .slice none 0 0, .slice none 0 0], .slice none 0 0], []⟩).memory :=
 laidMet_of_run' 8 (by kernel_rfl) (by kernel_rfl)
theorem reads (os : Os) {H : Type} (enc : TypeId × Value → H) : ∃ places, DataW.whole enc Tryd.prog ((laidWorld os).forCall (fun _ _ => 0) ⟨#[], #[.agg #[.int .i64 0, .string ⟨#[]⟩, .slice none 0 0, .slice none 0 0, .slice none 0 0], .slice none 0 0], []⟩).memory Tryd.f3.params.toList Rows.rowkeyRowsSpec.vars false (#[.agg #[.int .i64 0, .string ⟨#[]⟩, .slice none 0 0, .slice none 0 0, .slice none 0 0], .slice none 0 0] : Array Value).toList 8 = some ([.agg [.lit (.int .i64 0), .lit (.string []), .nil, .nil, .nil], .nil], [], places) :=
 ⟨[], by kernel_rfl⟩
set_option maxRecDepth 100000 in
theorem lifted (os : Os) (started : os.Started) (H : Type) (enc : TypeId × Value → H) (F : Stop.Interp) :
  ReturnsInHanded {} Tryd.checked os 3 .any ((Rows.OpenSpec.upto Rows.rowkeyRowsSpec).preRow enc Tryd.prog Tryd.f3 Rows.rowkeyRowsUptoRow.domain false Rows.rowkeyRowsUptoRow.laid) (((Rows.OpenSpec.upto Rows.rowkeyRowsSpec).at F).post enc Tryd.prog Tryd.f3 false true false false) := by
 obtain ⟨places, hx⟩ := reads os enc
 refine returnsInHanded_of_row (C := Tryd.checked) (s := Rows.OpenSpec.upto Rows.rowkeyRowsSpec) Tryd.own started (by kernel_rfl) Tryd.func3
  (witness_row_at (enc := enc) (C := Tryd.checked) false (laidWorld os) #[.agg #[.int .i64 0, .string ⟨#[]⟩, .slice none 0 0, .slice none 0 0, .slice none 0 0], .slice none 0 0] rfl (by kernel_rfl) (by kernel_rfl) (by kernel_rfl)
   (OpenSpec.preRow_of_cond 8 hx (by kernel_rfl) (fun k hk => by cases hk; kernel_rfl) (by kernel_rfl) (laid_met os))) ?_
 intro W base args ds gs before hval0 hW _ hcond _ hL _ _
 have hval : ∀ (j : Nat) t v, Tryd.f3.params[j]? = some t → args[j]? = some v → Value.okWide Tryd.prog W .any base t v := hval0
 have hW' : DataW.Whole enc Tryd.prog Tryd.f3.params.toList Rows.rowkeyRowsSpec.vars false W args.toList ds gs before := hW
 obtain ⟨p, q, hA0, hV, rfl, hfz, hnd⟩ := hW'
 have hW' : DataW.Whole enc Tryd.prog Tryd.f3.params.toList Rows.rowkeyRowsSpec.vars false W args.toList ds gs (p ++ q) := hW
 have hA : DataW.TrodAll enc Tryd.prog W 0 (fun _ => true) true Tryd.f3.params.toList args.toList ds p := hA0
 rw [Tryd.params3] at hA hval
 obtain ⟨v0, v1, d0, d1, p0, p1, hargs, rfl, rfl, h0, h1⟩ := trodAll_two hA
 obtain rfl : args = #[v0, v1] := by cases args; simp_all
 obtain ⟨rfl, rfl⟩ := trodVars_none hV
 have hb : Rows.uptoSmall H ([d0, d1] ++ []) = true := hcond _ rfl
 have hb := of_decide_eq_true hb
 simp only [List.append_nil, Rows.uptoBulkAll] at hb
 obtain ⟨c0, rfl, _⟩ := okWide_struct Tryd.underlying26 (hval 0 26 v0 rfl rfl)
 obtain ⟨_, hn0⟩ := h0
 obtain ⟨x1, hr0, hx1⟩ := rbTable.rd hn0
 obtain ⟨A2, k3, A4, k5, A6, k7, rfl, g1, g2, g3⟩ := tab_rep hr0
 have hlt : LimT x1 := ⟨Nat.le_trans hx1.2.1 (by dsimp only; omega), Nat.le_trans hx1.2.2 (by dsimp only; omega), inR_of hx1.1⟩
 obtain ⟨A9, m, k10, rfl⟩ := okWide_slice Tryd.underlying27 (hval 1 27 v1 rfl rfl)
 obtain ⟨_, hn1⟩ := h1
 obtain ⟨x8, ⟨A', c', he, hro⟩, hlen, hall⟩ := (rbValue.slice (t := 27) (by kernel_rfl) (by kernel_rfl)).rd hn1
 have he' : [Value.slice A9 m k10] = [.slice A' x8.length c'] := he
 obtain ⟨rfl, rfl, rfl⟩ : A9 = A' ∧ m = x8.length ∧ k10 = c' := by simpa using he'
 have hlr : LimR x8 := ⟨Nat.le_trans hlen (by dsimp only; omega), fun v hv => inR_of (hall v hv)⟩
 have hrow := fun (W' : World) (hb : Below W.heap.size W W') => row_true (s := Rows.rowkeyRowsSpec) (f := Tryd.f3) (t := 4) Tryd.laidOut hW' rfl ⟨rfl, rfl, rfl⟩
  (by rw [Tryd.params3]; decide +kernel) rfl (by kernel_rfl) hb
 refine (cormorantlaw20_RowkeyRows.ok [X.snap W] W 16777216 x1 x8 (SL.start [sl .ro kapi_Column A2 k3 x1.Columns, sl .ro ki64 A4 k5 x1.Key, sl .ro kapi_Index A6 k7 x1.Indexes, sl .ro kapi_Value A9 k10 x8] (fun B hB => by
  simp only [List.mem_cons, List.not_mem_nil, or_false] at hB
  rcases hB with rfl | rfl | rfl | rfl
  ·exact g1
  ·exact g2
  ·exact g3
  ·exact hro)) true (rows_plain hlt hlr)).mono fun e W' h => ?_
 obtain ⟨rfl, S⟩ := h
 have hb := SL.done (l := [sl .ro kapi_Column A2 k3 x1.Columns, sl .ro ki64 A4 k5 x1.Key, sl .ro kapi_Index A6 k7 x1.Indexes, sl .ro kapi_Value A9 k10 x8]) S
 exact ⟨_, rfl, hrow W' hb⟩
theorem saidUpto : Rows.RowkeyRowsUptoSaid :=
 OpenClaim.holds_of_cond 3 Tryd.f3 rfl rfl rfl rfl rfl rfl rfl ⟨rfl, rfl, rfl, rfl, rfl⟩ rfl rfl rfl rfl rfl (by kernel_rfl) Tryd.func3 (by kernel_rfl)
  (of_decide_eq_true (by kernel_rfl)) (by unfold Func.isWrapper; first | (rw [if_pos (by decide +kernel)]; kernel_rfl) | (rw [if_neg (by decide +kernel)]; exact ⟨rfl, rfl⟩))
  (fun os started H enc _ F => by rw [OpenClaim.pre_eq_preRow]; exact lifted os started H enc F)
theorem cardPlain (f : FuncId) (fn : Func) (hf : Tryd.pinned.checked.prog.funcNamed "cormorant/cormorantlaw20.RowkeyRows" = some f) (hfn : Tryd.pinned.checked.prog.funcs[f]? = some fn) :
  false = Tryd.pinned.checked.prog.looks [] ∧ ∀ (j : Nat) t, fn.params[j]? = some t → Tryd.pinned.checked.prog.wantsStandIn t = false := by
 obtain rfl : f = 3 := Option.some.inj ((show Tryd.prog.funcNamed "cormorant/cormorantlaw20.RowkeyRows" = some 3 by kernel_rfl).symm.trans hf) |>.symm
 obtain rfl : fn = Tryd.f3 := (Option.some.inj (Tryd.func3.symm.trans hfn)).symm
 refine ⟨by kernel_rfl, fun j t ht => ?_⟩
 rw [Tryd.params3] at ht
 have := Array.mem_of_getElem? ht
 simp only [List.mem_toArray, List.mem_cons, List.not_mem_nil, or_false] at this
 rcases this with rfl | rfl
 ·exact (show Tryd.prog.wantsStandIn 26 = false by kernel_rfl)
 ·exact (show Tryd.prog.wantsStandIn 27 = false by kernel_rfl)
theorem rows_holds : Rows.RowkeyRowsUptoCardSaid :=
 Claim7.holds_tied_plain_at .later [] _ _ _ _ saidUpto (fun _ h => by cases h) (by kernel_rfl) (fun _ h => by cases h) rowkeyRowsUpto_row_tie rfl ⟨rfl, rfl⟩ (by kernel_rfl) rfl cardPlain (by kernel_rfl)
end Go.Proofs.YtohelmfkpmphoaaDoor
