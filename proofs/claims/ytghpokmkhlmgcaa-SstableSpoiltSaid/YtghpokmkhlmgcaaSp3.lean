/- A Go function: the Lean function that it comes to, and the proof. -/
import Derived.Test.YtghpokmkhlmgcaaSp1
import Derived.Test.YtghpokmkhlmgcaaSp2
namespace Go.Proofs.Ytghpokmkhlmgcaa
open Go Go.Proofs.Ytghpokmkhlmgcaa.X
set_option linter.unusedVariables false
set_option linter.unusedSimpArgs false
set_option maxRecDepth 100000
set_option maxHeartbeats 4000000
/-! ### (*cormorant.sstable.Table).Get: function 11 -/
namespace sstable_Table_Get
noncomputable def c0 : Code := match Try.f11.body with | some c => c | none => .skip
def R (F : List Atom) (b2 : Nat) (x9 : List Int) (A10 : Option Addr) (k11 : Nat) (r : api_Entry × Bool × sstable_Table) : Ending → World → Prop := fun e w' => ∃ (A107 : Option Addr), ∃ (k108 : Nat), ∃ (A109 : Option Addr), ∃ (k110 : Nat), ∃ (A112 : Option Addr), ∃ (k113 : Nat), ∃ (A114 : Option Addr), ∃ (k115 : Nat), ∃ (A116 : Option Addr), ∃ (k117 : Nat), e = .returned (.tuple #[.agg #[.slice A107 r.1.Key.length k108, .int .u64 r.1.Seq, .bool r.1.Del, .slice A109 r.1.Value.length k110], .bool r.2.1]) ∧ SL ([sl .ro ku8 A107 k108 r.1.Key, sl .ro ku8 A109 k110 r.1.Value, blk b2 [.slice A112 r.2.2.b.length k113, .slice A114 r.2.2.blocks.length k115, .slice A116 r.2.2.filter.length k117, .int .i64 r.2.2.count, .int .i64 r.2.2.reads], sl .ro ku8 A112 k113 r.2.2.b, sl .ro ksstable_block A114 k115 r.2.2.blocks, sl .ro ku8 A116 k117 r.2.2.filter, sl .ro ku8 A10 k11 x9] ++ F) w'
def J3 (z : Nat) (q1 : Int → (List Int) → (List sstable_block) → (List Int) → Int → Int → Option (api_Entry × Bool × sstable_Table)) (q2 : Int → Option (api_Entry × Bool × sstable_Table)) (x9 : List Int) (x12 : Int) (x76 : Int) (x79 : (List api_Entry) × sstable_Table) (x89 : Int) : Option (api_Entry × Bool × sstable_Table) := q2 (wr .i64 (x89 + 1))
def L2 (z : Nat) (q1 : Int → (List Int) → (List sstable_block) → (List Int) → Int → Int → Option (api_Entry × Bool × sstable_Table)) (x9 : List Int) (x12 : Int) (x76 : Int) (x79 : (List api_Entry) × sstable_Table) : Nat → Int → Option (api_Entry × Bool × sstable_Table)
  | 0, _ => none
  | m + 1, x89 => If (decide (x89 < (x79.1.length : Int))) (Ck (0 ≤ x89 ∧ x89 < (x79.1.length : Int)) (Bd (bytes_Equal.f ((gi dapi_Entry x79.1 x89).Key) x9) fun x104 => If x104 (If (decide (((gi dapi_Entry x79.1 x89).Seq) ≤ x12)) (some ((gi dapi_Entry x79.1 x89), true, x79.2)) (J3 z q1 (L2 z q1 x9 x12 x76 x79 m) x9 x12 x76 x79 x89)) (J3 z q1 (L2 z q1 x9 x12 x76 x79 m) x9 x12 x76 x79 x89))) (Ck (0 ≤ x76 ∧ x76 < (x79.2.blocks.length : Int)) (Bd (bytes_Equal.f ((gi dsstable_block x79.2.blocks x76).last) x9) fun x95 => If (!x95) (some ((api_Entry.mk ([] : List Int) 0 false ([] : List Int)), false, x79.2)) (q1 (wr .i64 (x76 + 1)) x79.2.b x79.2.blocks x79.2.filter x79.2.count x79.2.reads)))
def L1 (z : Nat) (x9 : List Int) (x12 : Int) : Nat → Int → (List Int) → (List sstable_block) → (List Int) → Int → Int → Option (api_Entry × Bool × sstable_Table)
  | 0, _, _, _, _, _, _ => none
  | m + 1, x76, x65, x68, x71, x74, x75 => If (decide (x76 < (x68.length : Int))) (Bd (sstable_Table_look.f z (sstable_Table.mk x65 x68 x71 x74 x75) x76) fun x79 => L2 z (L1 z x9 x12 m) x9 x12 x76 x79 z 0) (some ((api_Entry.mk ([] : List Int) 0 false ([] : List Int)), false, (sstable_Table.mk x65 x68 x71 x74 x75)))
def J0 (z : Nat) (x45 : List Int) (x48 : List sstable_block) (x51 : List Int) (x54 : Int) (x55 : Int) : Option (api_Entry × Bool × sstable_Table) := some ((api_Entry.mk ([] : List Int) 0 false ([] : List Int)), false, (sstable_Table.mk x45 x48 x51 x54 x55))
def f (z : Nat) (x1 : sstable_Table) (x9 : List Int) (x12 : Int) : Option (api_Entry × Bool × sstable_Table) := Bd (sstable_Table_First.f x1) fun x15 => Bd (codec_Compare.f x9 x15.1) fun x26 => If (decide (x26 < 0)) (J0 z x15.2.b x15.2.blocks x15.2.filter x15.2.count x15.2.reads) (Bd (sstable_Table_Last.f x15.2) fun x29 => Bd (codec_Compare.f x9 x29.1) fun x40 => If (decide (x40 > 0)) (J0 z x29.2.b x29.2.blocks x29.2.filter x29.2.count x29.2.reads) (Bd (bloom_May.f z x29.2.filter x9) fun x43 => If (!x43) (J0 z x29.2.b x29.2.blocks x29.2.filter x29.2.count x29.2.reads) (Bd (sstable_Table_find.f z x29.2 x9) fun x57 => L1 z x9 x12 z x57.1 x57.2.b x57.2.blocks x57.2.filter x57.2.count x57.2.reads)))
noncomputable def ptJ3 : List Item := [.code (cR (cR (cR (cB (cB (cR (cL (cB (cL (cR (cB (cB (cR (cL (cR (cR c0)))))))))))))))), .inLoop (cB (cB (cR (cL (cB (cL (cR (cB (cB (cR (cL (cR (cR c0))))))))))))), .inBlock 2, .code (cR (cB (cL (cR (cB (cB (cR (cL (cR (cR c0)))))))))), .inBlock 1, .code (cR (cR (cB (cB (cR (cL (cR (cR c0)))))))), .inLoop (cB (cB (cR (cL (cR (cR c0)))))), .inBlock 0, .code (cR (cR (cR c0)))]
noncomputable def ptL2 : List Item := [.code (cB (cB (cR (cL (cB (cL (cR (cB (cB (cR (cL (cR (cR c0))))))))))))), .inLoop (cB (cB (cR (cL (cB (cL (cR (cB (cB (cR (cL (cR (cR c0))))))))))))), .inBlock 2, .code (cR (cB (cL (cR (cB (cB (cR (cL (cR (cR c0)))))))))), .inBlock 1, .code (cR (cR (cB (cB (cR (cL (cR (cR c0)))))))), .inLoop (cB (cB (cR (cL (cR (cR c0)))))), .inBlock 0, .code (cR (cR (cR c0)))]
noncomputable def ptL1 : List Item := [.code (cB (cB (cR (cL (cR (cR c0)))))), .inLoop (cB (cB (cR (cL (cR (cR c0)))))), .inBlock 0, .code (cR (cR (cR c0)))]
noncomputable def ptJ0 : List Item := [.code (cL (cT (cR (cL (cR c0))))), .code (cR (cT (cR (cL (cR c0))))), .code (cR (cR c0))]
theorem J3_ok (F : List Atom) (r : api_Entry × Bool × sstable_Table) (z : Nat) (b2 : Nat) (x9 : List Int) (A10 : Option Addr) (k11 : Nat) (x12 : Int) (b13 : Nat) (x76 : Int) (A80 : Option Addr) (x79 : (List api_Entry) × sstable_Table) (k81 : Nat) (x89 : Int) (A83 : Option Addr) (k84 : Nat) (A85 : Option Addr) (k86 : Nat) (A87 : Option Addr) (k88 : Nat) (q1 : Int → (List Int) → (List sstable_block) → (List Int) → Int → Int → Option (api_Entry × Bool × sstable_Table)) (hq1 : ∀ (x76 : Int) (A66 : Option Addr) (x65 : List Int) (k67 : Nat) (A69 : Option Addr) (x68 : List sstable_block) (k70 : Nat) (A72 : Option Addr) (x71 : List Int) (k73 : Nat) (x74 : Int) (x75 : Int) (a : Act) (w : World), Tm 77 [(0, .pointer (some ⟨b2, 0, none⟩)), (1, .slice A10 x9.length k11), (2, .int .u64 x12), (6, .pointer (some ⟨b13, 0, none⟩)), (8, .int .i64 x76)] a → SL ([blk b2 [.slice A66 x65.length k67, .slice A69 x68.length k70, .slice A72 x71.length k73, .int .i64 x74, .int .i64 x75], sl .ro ku8 A66 k67 x65, sl .ro ksstable_block A69 k70 x68, sl .ro ku8 A72 k73 x71, sl .ro ku8 A10 k11 x9, blk b13 [.slice none 0 0, .int .u64 0, .bool false, .slice none 0 0]] ++ F) w → q1 x76 x65 x68 x71 x74 x75 = some r → Gets Try.prog 11 ptL1 a w (R F b2 x9 A10 k11 r)) (q2 : Int → Option (api_Entry × Bool × sstable_Table)) (hq2 : ∀ (x89 : Int) (a : Act) (w : World), Tm 77 [(0, .pointer (some ⟨b2, 0, none⟩)), (1, .slice A10 x9.length k11), (2, .int .u64 x12), (6, .pointer (some ⟨b13, 0, none⟩)), (8, .int .i64 x76), (47, .slice A80 x79.1.length k81), (48, .int .i64 (x79.1.length : Int)), (49, .int .i64 x89)] a → SL ([blk b2 [.slice A83 x79.2.b.length k84, .slice A85 x79.2.blocks.length k86, .slice A87 x79.2.filter.length k88, .int .i64 x79.2.count, .int .i64 x79.2.reads], sl .ro ku8 A83 k84 x79.2.b, sl .ro ksstable_block A85 k86 x79.2.blocks, sl .ro ku8 A87 k88 x79.2.filter, sl .ro ku8 A10 k11 x9, blk b13 [.slice none 0 0, .int .u64 0, .bool false, .slice none 0 0], sl .own kapi_Entry A80 k81 x79.1] ++ F) w → q2 x89 = some r → Gets Try.prog 11 ptL2 a w (R F b2 x9 A10 k11 r)) (a : Act) (w : World) (T : Tm 77 [(0, .pointer (some ⟨b2, 0, none⟩)), (1, .slice A10 x9.length k11), (2, .int .u64 x12), (6, .pointer (some ⟨b13, 0, none⟩)), (8, .int .i64 x76), (47, .slice A80 x79.1.length k81), (48, .int .i64 (x79.1.length : Int)), (49, .int .i64 x89)] a) (S : SL ([blk b2 [.slice A83 x79.2.b.length k84, .slice A85 x79.2.blocks.length k86, .slice A87 x79.2.filter.length k88, .int .i64 x79.2.count, .int .i64 x79.2.reads], sl .ro ku8 A83 k84 x79.2.b, sl .ro ksstable_block A85 k86 x79.2.blocks, sl .ro ku8 A87 k88 x79.2.filter, sl .ro ku8 A10 k11 x9, blk b13 [.slice none 0 0, .int .u64 0, .bool false, .slice none 0 0], sl .own kapi_Entry A80 k81 x79.1] ++ F) w) (H : J3 z q1 q2 x9 x12 x76 x79 x89 = some r) : Gets Try.prog 11 ptJ3 a w (R F b2 x9 A10 k11 r) := by
  refine rg ?_
  refine r_pv T rfl rfl fun _ T => ?_
  refine r_pv T rfl rfl fun _ T => ?_
  refine Gets.inLoop ?_
  exact hq2 (wr .i64 (x89 + 1)) _ _ (T.sub ⟨rfl, rfl, rfl, rfl, rfl, rfl, rfl, rfl, trivial⟩) (S.only (p := [blk b2 [.slice A83 x79.2.b.length k84, .slice A85 x79.2.blocks.length k86, .slice A87 x79.2.filter.length k88, .int .i64 x79.2.count, .int .i64 x79.2.reads], sl .ro ku8 A83 k84 x79.2.b, sl .ro ksstable_block A85 k86 x79.2.blocks, sl .ro ku8 A87 k88 x79.2.filter, sl .ro ku8 A10 k11 x9, blk b13 [.slice none 0 0, .int .u64 0, .bool false, .slice none 0 0], sl .own kapi_Entry A80 k81 x79.1]) [0, 0, 0, 0, 0, 0, 0] rfl) H
theorem L2_ok (F : List Atom) (r : api_Entry × Bool × sstable_Table) (z : Nat) (b2 : Nat) (x9 : List Int) (A10 : Option Addr) (k11 : Nat) (x12 : Int) (b13 : Nat) (x76 : Int) (A80 : Option Addr) (x79 : (List api_Entry) × sstable_Table) (k81 : Nat) (A83 : Option Addr) (k84 : Nat) (A85 : Option Addr) (k86 : Nat) (A87 : Option Addr) (k88 : Nat) (q1 : Int → (List Int) → (List sstable_block) → (List Int) → Int → Int → Option (api_Entry × Bool × sstable_Table)) (hq1 : ∀ (x76 : Int) (A66 : Option Addr) (x65 : List Int) (k67 : Nat) (A69 : Option Addr) (x68 : List sstable_block) (k70 : Nat) (A72 : Option Addr) (x71 : List Int) (k73 : Nat) (x74 : Int) (x75 : Int) (a : Act) (w : World), Tm 77 [(0, .pointer (some ⟨b2, 0, none⟩)), (1, .slice A10 x9.length k11), (2, .int .u64 x12), (6, .pointer (some ⟨b13, 0, none⟩)), (8, .int .i64 x76)] a → SL ([blk b2 [.slice A66 x65.length k67, .slice A69 x68.length k70, .slice A72 x71.length k73, .int .i64 x74, .int .i64 x75], sl .ro ku8 A66 k67 x65, sl .ro ksstable_block A69 k70 x68, sl .ro ku8 A72 k73 x71, sl .ro ku8 A10 k11 x9, blk b13 [.slice none 0 0, .int .u64 0, .bool false, .slice none 0 0]] ++ F) w → q1 x76 x65 x68 x71 x74 x75 = some r → Gets Try.prog 11 ptL1 a w (R F b2 x9 A10 k11 r)) (m : Nat) : ∀ (x89 : Int) (a : Act) (w : World), Tm 77 [(0, .pointer (some ⟨b2, 0, none⟩)), (1, .slice A10 x9.length k11), (2, .int .u64 x12), (6, .pointer (some ⟨b13, 0, none⟩)), (8, .int .i64 x76), (47, .slice A80 x79.1.length k81), (48, .int .i64 (x79.1.length : Int)), (49, .int .i64 x89)] a → SL ([blk b2 [.slice A83 x79.2.b.length k84, .slice A85 x79.2.blocks.length k86, .slice A87 x79.2.filter.length k88, .int .i64 x79.2.count, .int .i64 x79.2.reads], sl .ro ku8 A83 k84 x79.2.b, sl .ro ksstable_block A85 k86 x79.2.blocks, sl .ro ku8 A87 k88 x79.2.filter, sl .ro ku8 A10 k11 x9, blk b13 [.slice none 0 0, .int .u64 0, .bool false, .slice none 0 0], sl .own kapi_Entry A80 k81 x79.1] ++ F) w → L2 z q1 x9 x12 x76 x79 m x89 = some r → Gets Try.prog 11 ptL2 a w (R F b2 x9 A10 k11 r) := by
  induction m with
  | zero => intro _ _ _ _ _ H; cases H
  | succ m ih =>
    intro x89 a w T S H
    refine Gets.seq ?_
    refine rg ?_
    refine r_pv T rfl rfl fun _ T => ?_
    refine Gets.seq ?_
    rcases ifE H with ⟨h90, H⟩ | ⟨h90, H⟩
    · refine cdT T rfl h90 ?_
      refine Gets.skip (Gets.seq (Gets.block (Gets.seq ?_)))
      refine rg ?_
      obtain ⟨h97, H⟩ := ck H
      refine r_ia (ix := 6) T S rfl rfl rfl rfl Try.runUnderlying22 Try.sizeOf36 h97.1 h97.2 rfl fun _ T => ?_
      refine r_ldEA (ix := 6) (i := x89) (off := 0) T S rfl rfl Try.isAgg36 Try.sizeOf36 dapi_Entry rfl (Fld.all _) h97.1 h97.2 rfl fun _ _ S T => ?_
      obtain ⟨A98, k99, A100, k101, hv_, S_⟩ := op_api_Entry S
      subst hv_
      replace S := S_
      refine r_alloc T S zv36 (cs := [.slice none 0 0, .int .u64 0, .bool false, .slice none 0 0]) rfl rfl fun _ _ b102 S T => ?_
      refine r_stBA (ix := 0) (vs := [.slice A98 (((gi dapi_Entry x79.1 x89).Key).length) k99, .int .u64 ((gi dapi_Entry x79.1 x89).Seq), .bool ((gi dapi_Entry x79.1 x89).Del), .slice A100 (((gi dapi_Entry x79.1 x89).Value).length) k101]) (l' := [blk b102 [.slice A98 (((gi dapi_Entry x79.1 x89).Key).length) k99, .int .u64 ((gi dapi_Entry x79.1 x89).Seq), .bool ((gi dapi_Entry x79.1 x89).Del), .slice A100 (((gi dapi_Entry x79.1 x89).Value).length) k101], sl .ro ku8 A98 k99 ((gi dapi_Entry x79.1 x89).Key), sl .ro ku8 A100 k101 ((gi dapi_Entry x79.1 x89).Value), blk b2 [.slice A83 x79.2.b.length k84, .slice A85 x79.2.blocks.length k86, .slice A87 x79.2.filter.length k88, .int .i64 x79.2.count, .int .i64 x79.2.reads], sl .ro ku8 A83 k84 x79.2.b, sl .ro ksstable_block A85 k86 x79.2.blocks, sl .ro ku8 A87 k88 x79.2.filter, sl .ro ku8 A10 k11 x9, blk b13 [.slice none 0 0, .int .u64 0, .bool false, .slice none 0 0], sl .own kapi_Entry A80 k81 x79.1]) T S rfl rfl rfl rfl (by simp) Try.sizeOf36 (Nat.le_of_ble_eq_true rfl) rfl fun _ S => ?_
      refine Gets.seq ?_
      refine rg ?_
      refine r_fa (o' := 0) T rfl Try.runUnderlying36 rfl Try.sizeOf24 rfl rfl fun _ T => ?_
      refine r_ldB (ix := 0) T S rfl Try.isAgg24 rfl rfl rfl fun _ T => ?_
      refine r_pv T rfl rfl fun _ T => ?_
      obtain ⟨x104, h103, H⟩ := bd H
      refine r_call T Try.call28 rfl rfl (bytes_Equal.ok _ _ ((gi dapi_Entry x79.1 x89).Key) x9 (S.sel (p := [sl .ro ku8 A98 k99 ((gi dapi_Entry x79.1 x89).Key), sl .ro ku8 A10 k11 x9]) (is := [1, 6]) rfl) _ h103) ?_
      rintro _ _ ⟨rfl, S⟩
      refine ⟨_, rfl, fun _ T => ?_⟩
      replace S : SL ([sl .ro ku8 A98 k99 ((gi dapi_Entry x79.1 x89).Key), sl .ro ku8 A10 k11 x9, blk b102 [.slice A98 (((gi dapi_Entry x79.1 x89).Key).length) k99, .int .u64 ((gi dapi_Entry x79.1 x89).Seq), .bool ((gi dapi_Entry x79.1 x89).Del), .slice A100 (((gi dapi_Entry x79.1 x89).Value).length) k101], sl .ro ku8 A100 k101 ((gi dapi_Entry x79.1 x89).Value), blk b2 [.slice A83 x79.2.b.length k84, .slice A85 x79.2.blocks.length k86, .slice A87 x79.2.filter.length k88, .int .i64 x79.2.count, .int .i64 x79.2.reads], sl .ro ku8 A83 k84 x79.2.b, sl .ro ksstable_block A85 k86 x79.2.blocks, sl .ro ku8 A87 k88 x79.2.filter, blk b13 [.slice none 0 0, .int .u64 0, .bool false, .slice none 0 0], sl .own kapi_Entry A80 k81 x79.1] ++ F) _ := S.join
      refine r_pv T rfl rfl fun _ T => ?_
      rcases ifE H with ⟨h105, H⟩ | ⟨h105, H⟩
      · refine g_yes T rfl rfl h105 ?_
        refine r_fa (o' := 1) T rfl Try.runUnderlying36 rfl Try.sizeOf34 rfl rfl fun _ T => ?_
        refine g_yes T rfl rfl h105 ?_
        refine r_ldB (ix := 2) T S rfl Try.isAgg34 rfl rfl rfl fun _ T => ?_
        refine g_yes T rfl rfl h105 ?_
        refine r_pv T rfl rfl fun _ T => ?_
        refine g_yes T rfl rfl h105 ?_
        refine r_pv T rfl rfl fun _ T => ?_
        refine r_pickT T rfl h105 rfl rfl fun _ T => ?_
        rcases ifE H with ⟨h106, H⟩ | ⟨h106, H⟩
        · refine cdT T rfl h106 ?_
          refine Gets.seq ?_
          refine rg ?_
          refine r_ldBA (ix := 2) (ds := [.slice A98 (((gi dapi_Entry x79.1 x89).Key).length) k99, .int .u64 ((gi dapi_Entry x79.1 x89).Seq), .bool ((gi dapi_Entry x79.1 x89).Del), .slice A100 (((gi dapi_Entry x79.1 x89).Value).length) k101]) T S rfl Try.isAgg36 rfl rfl Try.sizeOf36 rfl fun _ T => ?_
          refine r_stBA (ix := 8) (vs := [.slice A98 (((gi dapi_Entry x79.1 x89).Key).length) k99, .int .u64 ((gi dapi_Entry x79.1 x89).Seq), .bool ((gi dapi_Entry x79.1 x89).Del), .slice A100 (((gi dapi_Entry x79.1 x89).Value).length) k101]) (l' := [sl .ro ku8 A98 k99 ((gi dapi_Entry x79.1 x89).Key), sl .ro ku8 A10 k11 x9, blk b102 [.slice A98 (((gi dapi_Entry x79.1 x89).Key).length) k99, .int .u64 ((gi dapi_Entry x79.1 x89).Seq), .bool ((gi dapi_Entry x79.1 x89).Del), .slice A100 (((gi dapi_Entry x79.1 x89).Value).length) k101], sl .ro ku8 A100 k101 ((gi dapi_Entry x79.1 x89).Value), blk b2 [.slice A83 x79.2.b.length k84, .slice A85 x79.2.blocks.length k86, .slice A87 x79.2.filter.length k88, .int .i64 x79.2.count, .int .i64 x79.2.reads], sl .ro ku8 A83 k84 x79.2.b, sl .ro ksstable_block A85 k86 x79.2.blocks, sl .ro ku8 A87 k88 x79.2.filter, blk b13 [.slice A98 (((gi dapi_Entry x79.1 x89).Key).length) k99, .int .u64 ((gi dapi_Entry x79.1 x89).Seq), .bool ((gi dapi_Entry x79.1 x89).Del), .slice A100 (((gi dapi_Entry x79.1 x89).Value).length) k101], sl .own kapi_Entry A80 k81 x79.1]) T S rfl rfl rfl rfl (by simp) Try.sizeOf36 (Nat.le_of_ble_eq_true rfl) rfl fun _ S => ?_
          refine r_pv T rfl rfl fun _ T => ?_
          replace H := Option.some.inj H
          subst H
          exact rtnM T S Try.func11 rfl ⟨_, _, rfl, ⟨b13, _, 8, rfl, rfl, .inl ⟨Try.isAgg36, Try.sizeOf36, rfl⟩⟩, ⟨_, _, rfl, rfl, rfl⟩⟩ ⟨A98, k99, A100, k101, A83, k84, A85, k86, A87, k88, rfl, (S.only (p := [sl .ro ku8 A98 k99 ((gi dapi_Entry x79.1 x89).Key), sl .ro ku8 A100 k101 ((gi dapi_Entry x79.1 x89).Value), blk b2 [.slice A83 x79.2.b.length k84, .slice A85 x79.2.blocks.length k86, .slice A87 x79.2.filter.length k88, .int .i64 x79.2.count, .int .i64 x79.2.reads], sl .ro ku8 A83 k84 x79.2.b, sl .ro ksstable_block A85 k86 x79.2.blocks, sl .ro ku8 A87 k88 x79.2.filter, sl .ro ku8 A10 k11 x9]) [0, 2, 2, 2, 2, 2, 0] rfl)⟩
        · refine cdF T rfl h106 ?_
          refine Gets.skip (Gets.inBlock ?_)
          exact J3_ok F r z b2 x9 A10 k11 x12 b13 x76 A80 x79 k81 x89 A83 k84 A85 k86 A87 k88 q1 hq1 (L2 z q1 x9 x12 x76 x79 m) ih _ _ (T.sub ⟨rfl, rfl, rfl, rfl, rfl, rfl, rfl, rfl, trivial⟩) (S.only (p := [blk b2 [.slice A83 x79.2.b.length k84, .slice A85 x79.2.blocks.length k86, .slice A87 x79.2.filter.length k88, .int .i64 x79.2.count, .int .i64 x79.2.reads], sl .ro ku8 A83 k84 x79.2.b, sl .ro ksstable_block A85 k86 x79.2.blocks, sl .ro ku8 A87 k88 x79.2.filter, sl .ro ku8 A10 k11 x9, blk b13 [.slice none 0 0, .int .u64 0, .bool false, .slice none 0 0], sl .own kapi_Entry A80 k81 x79.1]) [4, 4, 4, 4, 1, 3, 3] rfl) H
      · refine g_no T rfl rfl h105 rfl fun _ T => ?_
        refine g_no T rfl rfl h105 rfl fun _ T => ?_
        refine g_no T rfl rfl h105 rfl fun _ T => ?_
        refine g_no T rfl rfl h105 rfl fun _ T => ?_
        refine r_pickF T rfl h105 rfl rfl fun _ T => ?_
        refine cdF T rfl rfl ?_
        refine Gets.skip (Gets.inBlock ?_)
        exact J3_ok F r z b2 x9 A10 k11 x12 b13 x76 A80 x79 k81 x89 A83 k84 A85 k86 A87 k88 q1 hq1 (L2 z q1 x9 x12 x76 x79 m) ih _ _ (T.sub ⟨rfl, rfl, rfl, rfl, rfl, rfl, rfl, rfl, trivial⟩) (S.only (p := [blk b2 [.slice A83 x79.2.b.length k84, .slice A85 x79.2.blocks.length k86, .slice A87 x79.2.filter.length k88, .int .i64 x79.2.count, .int .i64 x79.2.reads], sl .ro ku8 A83 k84 x79.2.b, sl .ro ksstable_block A85 k86 x79.2.blocks, sl .ro ku8 A87 k88 x79.2.filter, sl .ro ku8 A10 k11 x9, blk b13 [.slice none 0 0, .int .u64 0, .bool false, .slice none 0 0], sl .own kapi_Entry A80 k81 x79.1]) [4, 4, 4, 4, 1, 3, 3] rfl) H
    · refine cdF T rfl h90 ?_
      refine Gets.exit rfl (Gets.seq ?_)
      refine rg ?_
      refine r_pv T rfl rfl fun _ T => ?_
      refine r_pv T rfl rfl fun _ T => ?_
      refine r_fa (o' := 1) T rfl Try.runUnderlying69 rfl Try.sizeOf67 rfl rfl fun _ T => ?_
      refine r_ldB (ix := 0) T S rfl Try.isAgg67 rfl rfl rfl fun _ T => ?_
      refine r_pv T rfl rfl fun _ T => ?_
      obtain ⟨h91, H⟩ := ck H
      refine r_ia (ix := 2) T S rfl rfl rfl rfl Try.runUnderlying67 Try.sizeOf73 h91.1 h91.2 rfl fun _ T => ?_
      refine r_faE T rfl Try.runUnderlying73 rfl Try.sizeOf24 rfl fun _ T => ?_
      refine r_ldR (ix := 2) (i := x76) (off := 4) T S rfl Try.isAgg24 rfl dsstable_block _ rfl rfl fld_sstable_block_last h91.1 h91.2 rfl rfl fun _ _ S T => ?_
      obtain ⟨A92, k93, hv_, S_⟩ := S.ofVal
      subst hv_
      replace S := S_
      refine r_pv T rfl rfl fun _ T => ?_
      obtain ⟨x95, h94, H⟩ := bd H
      refine r_call T Try.call28 rfl rfl (bytes_Equal.ok _ _ ((gi dsstable_block x79.2.blocks x76).last) x9 (S.sel (p := [sl .ro ku8 A92 k93 ((gi dsstable_block x79.2.blocks x76).last), sl .ro ku8 A10 k11 x9]) (is := [0, 4]) rfl) _ h94) ?_
      rintro _ _ ⟨rfl, S⟩
      refine ⟨_, rfl, fun _ T => ?_⟩
      replace S : SL ([sl .ro ku8 A92 k93 ((gi dsstable_block x79.2.blocks x76).last), sl .ro ku8 A10 k11 x9, blk b2 [.slice A83 x79.2.b.length k84, .slice A85 x79.2.blocks.length k86, .slice A87 x79.2.filter.length k88, .int .i64 x79.2.count, .int .i64 x79.2.reads], sl .ro ku8 A83 k84 x79.2.b, sl .ro ksstable_block A85 k86 x79.2.blocks, sl .ro ku8 A87 k88 x79.2.filter, blk b13 [.slice none 0 0, .int .u64 0, .bool false, .slice none 0 0], sl .own kapi_Entry A80 k81 x79.1] ++ F) _ := S.join
      refine r_pv T rfl rfl fun _ T => ?_
      rcases ifE H with ⟨h96, H⟩ | ⟨h96, H⟩
      · refine cdT T rfl h96 ?_
        refine Gets.exit rfl (Gets.seq ?_)
        refine rg ?_
        refine r_build (cs := #[.slice none 0 0, .int .u64 0, .bool false, .slice none 0 0]) T stt36 rfl rfl rfl fun _ T => ?_
        refine r_stBA (ix := 6) (vs := [.slice none 0 0, .int .u64 0, .bool false, .slice none 0 0]) (l' := [sl .ro ku8 A92 k93 ((gi dsstable_block x79.2.blocks x76).last), sl .ro ku8 A10 k11 x9, blk b2 [.slice A83 x79.2.b.length k84, .slice A85 x79.2.blocks.length k86, .slice A87 x79.2.filter.length k88, .int .i64 x79.2.count, .int .i64 x79.2.reads], sl .ro ku8 A83 k84 x79.2.b, sl .ro ksstable_block A85 k86 x79.2.blocks, sl .ro ku8 A87 k88 x79.2.filter, blk b13 [.slice none 0 0, .int .u64 0, .bool false, .slice none 0 0], sl .own kapi_Entry A80 k81 x79.1]) T S rfl rfl rfl rfl (by simp) Try.sizeOf36 (Nat.le_of_ble_eq_true rfl) rfl fun _ S => ?_
        refine r_pv T rfl rfl fun _ T => ?_
        replace S := S.nil ku8 .ro
        replace S := S.nil ku8 .ro
        replace H := Option.some.inj H
        subst H
        exact rtnM T S Try.func11 rfl ⟨_, _, rfl, ⟨b13, _, 8, rfl, rfl, .inl ⟨Try.isAgg36, Try.sizeOf36, rfl⟩⟩, ⟨_, _, rfl, rfl, rfl⟩⟩ ⟨none, 0, none, 0, A83, k84, A85, k86, A87, k88, rfl, (S.only (p := [sl .ro ku8 none 0 ([] : List Int), sl .ro ku8 none 0 ([] : List Int), blk b2 [.slice A83 x79.2.b.length k84, .slice A85 x79.2.blocks.length k86, .slice A87 x79.2.filter.length k88, .int .i64 x79.2.count, .int .i64 x79.2.reads], sl .ro ku8 A83 k84 x79.2.b, sl .ro ksstable_block A85 k86 x79.2.blocks, sl .ro ku8 A87 k88 x79.2.filter, sl .ro ku8 A10 k11 x9]) [1, 0, 2, 2, 2, 2, 1] rfl)⟩
      · refine cdF T rfl h96 ?_
        refine Gets.skip (Gets.inBlock ?_)
        refine rg ?_
        refine r_pv T rfl rfl fun _ T => ?_
        refine r_pv T rfl rfl fun _ T => ?_
        refine r_pv T rfl rfl fun _ T => ?_
        refine Gets.inLoop ?_
        exact hq1 (wr .i64 (x76 + 1)) A83 x79.2.b k84 A85 x79.2.blocks k86 A87 x79.2.filter k88 x79.2.count x79.2.reads _ _ (T.sub ⟨rfl, rfl, rfl, rfl, rfl, trivial⟩) (S.only (p := [blk b2 [.slice A83 x79.2.b.length k84, .slice A85 x79.2.blocks.length k86, .slice A87 x79.2.filter.length k88, .int .i64 x79.2.count, .int .i64 x79.2.reads], sl .ro ku8 A83 k84 x79.2.b, sl .ro ksstable_block A85 k86 x79.2.blocks, sl .ro ku8 A87 k88 x79.2.filter, sl .ro ku8 A10 k11 x9, blk b13 [.slice none 0 0, .int .u64 0, .bool false, .slice none 0 0]]) [2, 2, 2, 2, 1, 1] rfl) H
theorem L1_ok (F : List Atom) (r : api_Entry × Bool × sstable_Table) (z : Nat) (b2 : Nat) (x9 : List Int) (A10 : Option Addr) (k11 : Nat) (x12 : Int) (b13 : Nat) (m : Nat) : ∀ (x76 : Int) (A66 : Option Addr) (x65 : List Int) (k67 : Nat) (A69 : Option Addr) (x68 : List sstable_block) (k70 : Nat) (A72 : Option Addr) (x71 : List Int) (k73 : Nat) (x74 : Int) (x75 : Int) (a : Act) (w : World), Tm 77 [(0, .pointer (some ⟨b2, 0, none⟩)), (1, .slice A10 x9.length k11), (2, .int .u64 x12), (6, .pointer (some ⟨b13, 0, none⟩)), (8, .int .i64 x76)] a → SL ([blk b2 [.slice A66 x65.length k67, .slice A69 x68.length k70, .slice A72 x71.length k73, .int .i64 x74, .int .i64 x75], sl .ro ku8 A66 k67 x65, sl .ro ksstable_block A69 k70 x68, sl .ro ku8 A72 k73 x71, sl .ro ku8 A10 k11 x9, blk b13 [.slice none 0 0, .int .u64 0, .bool false, .slice none 0 0]] ++ F) w → L1 z x9 x12 m x76 x65 x68 x71 x74 x75 = some r → Gets Try.prog 11 ptL1 a w (R F b2 x9 A10 k11 r) := by
  induction m with
  | zero => intro _ _ _ _ _ _ _ _ _ _ _ _ _ _ _ _ H; cases H
  | succ m ih =>
    intro x76 A66 x65 k67 A69 x68 k70 A72 x71 k73 x74 x75 a w T S H
    refine Gets.seq ?_
    refine Gets.seq ?_
    refine rg ?_
    refine r_pv T rfl rfl fun _ T => ?_
    refine r_pv T rfl rfl fun _ T => ?_
    refine r_pv T rfl rfl fun _ T => ?_
    refine r_fa (o' := 1) T rfl Try.runUnderlying69 rfl Try.sizeOf67 rfl rfl fun _ T => ?_
    refine r_ldB (ix := 0) T S rfl Try.isAgg67 rfl rfl rfl fun _ T => ?_
    refine r_lenS T rfl Try.runUnderlying67 rfl fun _ T => ?_
    refine r_pv T rfl rfl fun _ T => ?_
    rcases ifE H with ⟨h77, H⟩ | ⟨h77, H⟩
    · refine cdT T rfl h77 ?_
      refine Gets.skip (Gets.seq (Gets.block (Gets.seq (Gets.seq ?_))))
      refine rg ?_
      refine r_pv T rfl rfl fun _ T => ?_
      refine r_pv T rfl rfl fun _ T => ?_
      obtain ⟨x79, h78, H⟩ := bd H
      refine r_call T Try.call41 rfl rfl (sstable_Table_look.ok _ _ z (sstable_Table.mk x65 x68 x71 x74 x75) x76 (S.sel (p := [blk b2 [.slice A66 x65.length k67, .slice A69 x68.length k70, .slice A72 x71.length k73, .int .i64 x74, .int .i64 x75], sl .ro ku8 A66 k67 x65, sl .ro ksstable_block A69 k70 x68, sl .ro ku8 A72 k73 x71]) (is := [0, 0, 0, 0]) rfl) _ h78) ?_
      rintro _ _ ⟨A80, k81, A83, k84, A85, k86, A87, k88, rfl, S⟩
      refine ⟨_, rfl, fun _ T => ?_⟩
      replace S : SL ([sl .own kapi_Entry A80 k81 x79.1, blk b2 [.slice A83 x79.2.b.length k84, .slice A85 x79.2.blocks.length k86, .slice A87 x79.2.filter.length k88, .int .i64 x79.2.count, .int .i64 x79.2.reads], sl .ro ku8 A83 k84 x79.2.b, sl .ro ksstable_block A85 k86 x79.2.blocks, sl .ro ku8 A87 k88 x79.2.filter, sl .ro ku8 A10 k11 x9, blk b13 [.slice none 0 0, .int .u64 0, .bool false, .slice none 0 0]] ++ F) _ := S.join
      refine r_lenS T rfl Try.runUnderlying22 rfl fun _ T => ?_
      refine r_pv T rfl rfl fun _ T => ?_
      refine Gets.block ?_
      refine Gets.loop ?_
      exact L2_ok F r z b2 x9 A10 k11 x12 b13 x76 A80 x79 k81 A83 k84 A85 k86 A87 k88 (L1 z x9 x12 m) ih z 0 _ _ (T.sub ⟨rfl, rfl, rfl, rfl, rfl, rfl, rfl, rfl, trivial⟩) (S.only (p := [blk b2 [.slice A83 x79.2.b.length k84, .slice A85 x79.2.blocks.length k86, .slice A87 x79.2.filter.length k88, .int .i64 x79.2.count, .int .i64 x79.2.reads], sl .ro ku8 A83 k84 x79.2.b, sl .ro ksstable_block A85 k86 x79.2.blocks, sl .ro ku8 A87 k88 x79.2.filter, sl .ro ku8 A10 k11 x9, blk b13 [.slice none 0 0, .int .u64 0, .bool false, .slice none 0 0], sl .own kapi_Entry A80 k81 x79.1]) [1, 1, 1, 1, 1, 1, 0] rfl) H
    · refine cdF T rfl h77 ?_
      refine Gets.exit rfl (Gets.seq ?_)
      refine rg ?_
      refine r_build (cs := #[.slice none 0 0, .int .u64 0, .bool false, .slice none 0 0]) T stt36 rfl rfl rfl fun _ T => ?_
      refine r_stBA (ix := 5) (vs := [.slice none 0 0, .int .u64 0, .bool false, .slice none 0 0]) (l' := [blk b2 [.slice A66 x65.length k67, .slice A69 x68.length k70, .slice A72 x71.length k73, .int .i64 x74, .int .i64 x75], sl .ro ku8 A66 k67 x65, sl .ro ksstable_block A69 k70 x68, sl .ro ku8 A72 k73 x71, sl .ro ku8 A10 k11 x9, blk b13 [.slice none 0 0, .int .u64 0, .bool false, .slice none 0 0]]) T S rfl rfl rfl rfl (by simp) Try.sizeOf36 (Nat.le_of_ble_eq_true rfl) rfl fun _ S => ?_
      refine r_pv T rfl rfl fun _ T => ?_
      replace S := S.nil ku8 .ro
      replace S := S.nil ku8 .ro
      replace H := Option.some.inj H
      subst H
      exact rtnM T S Try.func11 rfl ⟨_, _, rfl, ⟨b13, _, 7, rfl, rfl, .inl ⟨Try.isAgg36, Try.sizeOf36, rfl⟩⟩, ⟨_, _, rfl, rfl, rfl⟩⟩ ⟨none, 0, none, 0, A66, k67, A69, k70, A72, k73, rfl, (S.only (p := [sl .ro ku8 none 0 ([] : List Int), sl .ro ku8 none 0 ([] : List Int), blk b2 [.slice A66 x65.length k67, .slice A69 x68.length k70, .slice A72 x71.length k73, .int .i64 x74, .int .i64 x75], sl .ro ku8 A66 k67 x65, sl .ro ksstable_block A69 k70 x68, sl .ro ku8 A72 k73 x71, sl .ro ku8 A10 k11 x9]) [1, 0, 0, 0, 0, 0, 0] rfl)⟩
theorem J0_ok (F : List Atom) (r : api_Entry × Bool × sstable_Table) (z : Nat) (b2 : Nat) (x9 : List Int) (A10 : Option Addr) (k11 : Nat) (b13 : Nat) (x12 : Int) (A46 : Option Addr) (x45 : List Int) (k47 : Nat) (A49 : Option Addr) (x48 : List sstable_block) (k50 : Nat) (A52 : Option Addr) (x51 : List Int) (k53 : Nat) (x54 : Int) (x55 : Int) (a : Act) (w : World) (T : Tm 77 [(6, .pointer (some ⟨b13, 0, none⟩))] a) (S : SL ([blk b2 [.slice A46 x45.length k47, .slice A49 x48.length k50, .slice A52 x51.length k53, .int .i64 x54, .int .i64 x55], sl .ro ku8 A46 k47 x45, sl .ro ksstable_block A49 k50 x48, sl .ro ku8 A52 k53 x51, sl .ro ku8 A10 k11 x9, blk b13 [.slice none 0 0, .int .u64 0, .bool false, .slice none 0 0]] ++ F) w) (H : J0 z x45 x48 x51 x54 x55 = some r) : Gets Try.prog 11 ptJ0 a w (R F b2 x9 A10 k11 r) := by
  refine rg ?_
  refine r_build (cs := #[.slice none 0 0, .int .u64 0, .bool false, .slice none 0 0]) T stt36 rfl rfl rfl fun _ T => ?_
  refine r_stBA (ix := 5) (vs := [.slice none 0 0, .int .u64 0, .bool false, .slice none 0 0]) (l' := [blk b2 [.slice A46 x45.length k47, .slice A49 x48.length k50, .slice A52 x51.length k53, .int .i64 x54, .int .i64 x55], sl .ro ku8 A46 k47 x45, sl .ro ksstable_block A49 k50 x48, sl .ro ku8 A52 k53 x51, sl .ro ku8 A10 k11 x9, blk b13 [.slice none 0 0, .int .u64 0, .bool false, .slice none 0 0]]) T S rfl rfl rfl rfl (by simp) Try.sizeOf36 (Nat.le_of_ble_eq_true rfl) rfl fun _ S => ?_
  refine r_pv T rfl rfl fun _ T => ?_
  replace S := S.nil ku8 .ro
  replace S := S.nil ku8 .ro
  replace H := Option.some.inj H
  subst H
  exact rtnM T S Try.func11 rfl ⟨_, _, rfl, ⟨b13, _, 7, rfl, rfl, .inl ⟨Try.isAgg36, Try.sizeOf36, rfl⟩⟩, ⟨_, _, rfl, rfl, rfl⟩⟩ ⟨none, 0, none, 0, A46, k47, A49, k50, A52, k53, rfl, (S.only (p := [sl .ro ku8 none 0 ([] : List Int), sl .ro ku8 none 0 ([] : List Int), blk b2 [.slice A46 x45.length k47, .slice A49 x48.length k50, .slice A52 x51.length k53, .int .i64 x54, .int .i64 x55], sl .ro ku8 A46 k47 x45, sl .ro ksstable_block A49 k50 x48, sl .ro ku8 A52 k53 x51, sl .ro ku8 A10 k11 x9]) [1, 0, 0, 0, 0, 0, 0] rfl)⟩
theorem ok (F : List Atom) (w : World) (z : Nat) (x1 : sstable_Table) (x9 : List Int) (x12 : Int) {b2 : Nat} {A3 : Option Addr} {k4 : Nat} {A5 : Option Addr} {k6 : Nat} {A7 : Option Addr} {k8 : Nat} {A10 : Option Addr} {k11 : Nat} (S : SL ([blk b2 [.slice A3 x1.b.length k4, .slice A5 x1.blocks.length k6, .slice A7 x1.filter.length k8, .int .i64 x1.count, .int .i64 x1.reads], sl .ro ku8 A3 k4 x1.b, sl .ro ksstable_block A5 k6 x1.blocks, sl .ro ku8 A7 k8 x1.filter, sl .ro ku8 A10 k11 x9] ++ F) w) (r : api_Entry × Bool × sstable_Table) (H : f z x1 x9 x12 = some r) : Calls Try.prog 11 #[.pointer (some ⟨b2, 0, none⟩), .slice A10 x9.length k11, .int .u64 x12] w (R F b2 x9 A10 k11 r) := by
  refine enter (vs := [.pointer (some ⟨b2, 0, none⟩), .slice A10 x9.length k11, .int .u64 x12]) Try.func11 rfl Try.ntmps11 (Nat.le_of_ble_eq_true rfl) fun a T => ?_
  refine Gets.seq ?_
  refine rg ?_
  refine r_alloc T S zv36 (cs := [.slice none 0 0, .int .u64 0, .bool false, .slice none 0 0]) rfl rfl fun _ _ b13 S T => ?_
  refine r_pv T rfl rfl fun _ T => ?_
  refine Gets.seq (Gets.seq ?_)
  refine rg ?_
  refine r_pv T rfl rfl fun _ T => ?_
  refine r_pv T rfl rfl fun _ T => ?_
  obtain ⟨x15, h14, H⟩ := bd H
  refine r_call T Try.call15 rfl rfl (sstable_Table_First.ok _ _ x1 (S.sel (p := [blk b2 [.slice A3 x1.b.length k4, .slice A5 x1.blocks.length k6, .slice A7 x1.filter.length k8, .int .i64 x1.count, .int .i64 x1.reads], sl .ro ku8 A3 k4 x1.b, sl .ro ksstable_block A5 k6 x1.blocks, sl .ro ku8 A7 k8 x1.filter]) (is := [1, 1, 1, 1]) rfl) _ h14) ?_
  rintro _ _ ⟨A16, k17, A19, k20, A21, k22, A23, k24, rfl, S⟩
  refine ⟨_, rfl, fun _ T => ?_⟩
  replace S : SL ([sl .own ku8 A16 k17 x15.1, blk b2 [.slice A19 x15.2.b.length k20, .slice A21 x15.2.blocks.length k22, .slice A23 x15.2.filter.length k24, .int .i64 x15.2.count, .int .i64 x15.2.reads], sl .ro ku8 A19 k20 x15.2.b, sl .ro ksstable_block A21 k22 x15.2.blocks, sl .ro ku8 A23 k24 x15.2.filter, blk b13 [.slice none 0 0, .int .u64 0, .bool false, .slice none 0 0], sl .ro ku8 A10 k11 x9] ++ F) _ := S.join
  obtain ⟨x26, h25, H⟩ := bd H
  refine r_call T Try.call38 rfl rfl (codec_Compare.ok _ _ x9 x15.1 (S.sel (p := [sl .ro ku8 A10 k11 x9, sl .own ku8 A16 k17 x15.1]) (is := [6, 0]) rfl) _ h25) ?_
  rintro _ _ ⟨rfl, S⟩
  refine ⟨_, rfl, fun _ T => ?_⟩
  replace S : SL ([sl .ro ku8 A10 k11 x9, sl .own ku8 A16 k17 x15.1, blk b2 [.slice A19 x15.2.b.length k20, .slice A21 x15.2.blocks.length k22, .slice A23 x15.2.filter.length k24, .int .i64 x15.2.count, .int .i64 x15.2.reads], sl .ro ku8 A19 k20 x15.2.b, sl .ro ksstable_block A21 k22 x15.2.blocks, sl .ro ku8 A23 k24 x15.2.filter, blk b13 [.slice none 0 0, .int .u64 0, .bool false, .slice none 0 0]] ++ F) _ := S.join
  refine r_pv T rfl rfl fun _ T => ?_
  refine r_pv T rfl rfl fun _ T => ?_
  rcases ifE H with ⟨h27, H⟩ | ⟨h27, H⟩
  · refine g_no T rfl rfl h27 rfl fun _ T => ?_
    refine g_no T rfl rfl h27 rfl fun _ T => ?_
    refine g_no T rfl rfl h27 rfl fun _ T => ?_
    refine g_no T rfl rfl h27 rfl fun _ T => ?_
    refine g_no T rfl rfl h27 rfl fun _ T => ?_
    refine r_pickT T rfl h27 rfl rfl fun _ T => ?_
    refine r_pv T rfl rfl fun _ T => ?_
    refine g_no T rfl rfl rfl rfl fun _ T => ?_
    refine g_no T rfl rfl rfl rfl fun _ T => ?_
    refine g_no T rfl rfl rfl rfl fun _ T => ?_
    refine g_no T rfl rfl rfl rfl fun _ T => ?_
    refine g_no T rfl rfl rfl rfl fun _ T => ?_
    refine g_no T rfl rfl rfl rfl fun _ T => ?_
    refine g_no T rfl rfl rfl rfl fun _ T => ?_
    refine r_pickT T rfl rfl rfl rfl fun _ T => ?_
    refine cdT T rfl rfl ?_
    refine Gets.seq ?_
    exact J0_ok F r z b2 x9 A10 k11 b13 x12 A19 x15.2.b k20 A21 x15.2.blocks k22 A23 x15.2.filter k24 x15.2.count x15.2.reads _ _ (T.sub ⟨rfl, trivial⟩) (S.only (p := [blk b2 [.slice A19 x15.2.b.length k20, .slice A21 x15.2.blocks.length k22, .slice A23 x15.2.filter.length k24, .int .i64 x15.2.count, .int .i64 x15.2.reads], sl .ro ku8 A19 k20 x15.2.b, sl .ro ksstable_block A21 k22 x15.2.blocks, sl .ro ku8 A23 k24 x15.2.filter, sl .ro ku8 A10 k11 x9, blk b13 [.slice none 0 0, .int .u64 0, .bool false, .slice none 0 0]]) [2, 2, 2, 2, 0, 1] rfl) H
  · refine g_yes T rfl rfl h27 ?_
    refine r_pv T rfl rfl fun _ T => ?_
    refine g_yes T rfl rfl h27 ?_
    refine r_pv T rfl rfl fun _ T => ?_
    refine g_yes T rfl rfl h27 ?_
    obtain ⟨x29, h28, H⟩ := bd H
    refine r_call T Try.call16 rfl rfl (sstable_Table_Last.ok _ _ x15.2 (S.sel (p := [blk b2 [.slice A19 x15.2.b.length k20, .slice A21 x15.2.blocks.length k22, .slice A23 x15.2.filter.length k24, .int .i64 x15.2.count, .int .i64 x15.2.reads], sl .ro ku8 A19 k20 x15.2.b, sl .ro ksstable_block A21 k22 x15.2.blocks, sl .ro ku8 A23 k24 x15.2.filter]) (is := [2, 2, 2, 2]) rfl) _ h28) ?_
    rintro _ _ ⟨A30, k31, A33, k34, A35, k36, A37, k38, rfl, S⟩
    refine ⟨_, rfl, fun _ T => ?_⟩
    replace S : SL ([sl .own ku8 A30 k31 x29.1, blk b2 [.slice A33 x29.2.b.length k34, .slice A35 x29.2.blocks.length k36, .slice A37 x29.2.filter.length k38, .int .i64 x29.2.count, .int .i64 x29.2.reads], sl .ro ku8 A33 k34 x29.2.b, sl .ro ksstable_block A35 k36 x29.2.blocks, sl .ro ku8 A37 k38 x29.2.filter, sl .ro ku8 A10 k11 x9, sl .own ku8 A16 k17 x15.1, blk b13 [.slice none 0 0, .int .u64 0, .bool false, .slice none 0 0]] ++ F) _ := S.join
    refine g_yes T rfl rfl h27 ?_
    obtain ⟨x40, h39, H⟩ := bd H
    refine r_call T Try.call38 rfl rfl (codec_Compare.ok _ _ x9 x29.1 (S.sel (p := [sl .ro ku8 A10 k11 x9, sl .own ku8 A30 k31 x29.1]) (is := [5, 0]) rfl) _ h39) ?_
    rintro _ _ ⟨rfl, S⟩
    refine ⟨_, rfl, fun _ T => ?_⟩
    replace S : SL ([sl .ro ku8 A10 k11 x9, sl .own ku8 A30 k31 x29.1, blk b2 [.slice A33 x29.2.b.length k34, .slice A35 x29.2.blocks.length k36, .slice A37 x29.2.filter.length k38, .int .i64 x29.2.count, .int .i64 x29.2.reads], sl .ro ku8 A33 k34 x29.2.b, sl .ro ksstable_block A35 k36 x29.2.blocks, sl .ro ku8 A37 k38 x29.2.filter, sl .own ku8 A16 k17 x15.1, blk b13 [.slice none 0 0, .int .u64 0, .bool false, .slice none 0 0]] ++ F) _ := S.join
    refine g_yes T rfl rfl h27 ?_
    refine r_pv T rfl rfl fun _ T => ?_
    refine r_pickF T rfl h27 rfl rfl fun _ T => ?_
    refine r_pv T rfl rfl fun _ T => ?_
    rcases ifE H with ⟨h41, H⟩ | ⟨h41, H⟩
    · refine g_no T rfl rfl h41 rfl fun _ T => ?_
      refine g_no T rfl rfl h41 rfl fun _ T => ?_
      refine g_no T rfl rfl h41 rfl fun _ T => ?_
      refine g_no T rfl rfl h41 rfl fun _ T => ?_
      refine g_no T rfl rfl h41 rfl fun _ T => ?_
      refine g_no T rfl rfl h41 rfl fun _ T => ?_
      refine g_no T rfl rfl h41 rfl fun _ T => ?_
      refine r_pickT T rfl h41 rfl rfl fun _ T => ?_
      refine cdT T rfl rfl ?_
      refine Gets.seq ?_
      exact J0_ok F r z b2 x9 A10 k11 b13 x12 A33 x29.2.b k34 A35 x29.2.blocks k36 A37 x29.2.filter k38 x29.2.count x29.2.reads _ _ (T.sub ⟨rfl, trivial⟩) (S.only (p := [blk b2 [.slice A33 x29.2.b.length k34, .slice A35 x29.2.blocks.length k36, .slice A37 x29.2.filter.length k38, .int .i64 x29.2.count, .int .i64 x29.2.reads], sl .ro ku8 A33 k34 x29.2.b, sl .ro ksstable_block A35 k36 x29.2.blocks, sl .ro ku8 A37 k38 x29.2.filter, sl .ro ku8 A10 k11 x9, blk b13 [.slice none 0 0, .int .u64 0, .bool false, .slice none 0 0]]) [2, 2, 2, 2, 0, 2] rfl) H
    · refine g_yes T rfl rfl h41 ?_
      refine r_pv T rfl rfl fun _ T => ?_
      refine g_yes T rfl rfl h41 ?_
      refine r_pv T rfl rfl fun _ T => ?_
      refine g_yes T rfl rfl h41 ?_
      refine r_fa (o' := 2) T rfl Try.runUnderlying69 rfl Try.sizeOf24 rfl rfl fun _ T => ?_
      refine g_yes T rfl rfl h41 ?_
      refine r_ldB (ix := 2) T S rfl Try.isAgg24 rfl rfl rfl fun _ T => ?_
      refine g_yes T rfl rfl h41 ?_
      refine r_pv T rfl rfl fun _ T => ?_
      refine g_yes T rfl rfl h41 ?_
      obtain ⟨x43, h42, H⟩ := bd H
      refine r_call T Try.call39 rfl rfl (bloom_May.ok _ _ z x29.2.filter x9 (S.sel (p := [sl .ro ku8 A37 k38 x29.2.filter, sl .ro ku8 A10 k11 x9]) (is := [5, 0]) rfl) _ h42) ?_
      rintro _ _ ⟨rfl, S⟩
      refine ⟨_, rfl, fun _ T => ?_⟩
      replace S : SL ([sl .ro ku8 A37 k38 x29.2.filter, sl .ro ku8 A10 k11 x9, sl .own ku8 A30 k31 x29.1, blk b2 [.slice A33 x29.2.b.length k34, .slice A35 x29.2.blocks.length k36, .slice A37 x29.2.filter.length k38, .int .i64 x29.2.count, .int .i64 x29.2.reads], sl .ro ku8 A33 k34 x29.2.b, sl .ro ksstable_block A35 k36 x29.2.blocks, sl .own ku8 A16 k17 x15.1, blk b13 [.slice none 0 0, .int .u64 0, .bool false, .slice none 0 0]] ++ F) _ := S.join
      refine g_yes T rfl rfl h41 ?_
      refine r_pv T rfl rfl fun _ T => ?_
      refine r_pickF T rfl h41 rfl rfl fun _ T => ?_
      rcases ifE H with ⟨h44, H⟩ | ⟨h44, H⟩
      · refine cdT T rfl h44 ?_
        refine Gets.seq ?_
        exact J0_ok F r z b2 x9 A10 k11 b13 x12 A33 x29.2.b k34 A35 x29.2.blocks k36 A37 x29.2.filter k38 x29.2.count x29.2.reads _ _ (T.sub ⟨rfl, trivial⟩) (S.only (p := [blk b2 [.slice A33 x29.2.b.length k34, .slice A35 x29.2.blocks.length k36, .slice A37 x29.2.filter.length k38, .int .i64 x29.2.count, .int .i64 x29.2.reads], sl .ro ku8 A33 k34 x29.2.b, sl .ro ksstable_block A35 k36 x29.2.blocks, sl .ro ku8 A37 k38 x29.2.filter, sl .ro ku8 A10 k11 x9, blk b13 [.slice none 0 0, .int .u64 0, .bool false, .slice none 0 0]]) [3, 3, 3, 0, 0, 2] rfl) H
      · refine cdF T rfl h44 ?_
        refine Gets.skip (Gets.seq (Gets.seq ?_))
        refine rg ?_
        refine r_pv T rfl rfl fun _ T => ?_
        refine r_pv T rfl rfl fun _ T => ?_
        obtain ⟨x57, h56, H⟩ := bd H
        refine r_call T Try.call40 rfl rfl (sstable_Table_find.ok _ _ z x29.2 x9 (S.sel (p := [blk b2 [.slice A33 x29.2.b.length k34, .slice A35 x29.2.blocks.length k36, .slice A37 x29.2.filter.length k38, .int .i64 x29.2.count, .int .i64 x29.2.reads], sl .ro ku8 A33 k34 x29.2.b, sl .ro ksstable_block A35 k36 x29.2.blocks, sl .ro ku8 A37 k38 x29.2.filter, sl .ro ku8 A10 k11 x9]) (is := [3, 3, 3, 0, 0]) rfl) _ h56) ?_
        rintro _ _ ⟨A59, k60, A61, k62, A63, k64, rfl, S⟩
        refine ⟨_, rfl, fun _ T => ?_⟩
        replace S : SL ([blk b2 [.slice A59 x57.2.b.length k60, .slice A61 x57.2.blocks.length k62, .slice A63 x57.2.filter.length k64, .int .i64 x57.2.count, .int .i64 x57.2.reads], sl .ro ku8 A59 k60 x57.2.b, sl .ro ksstable_block A61 k62 x57.2.blocks, sl .ro ku8 A63 k64 x57.2.filter, sl .ro ku8 A10 k11 x9, sl .own ku8 A30 k31 x29.1, sl .own ku8 A16 k17 x15.1, blk b13 [.slice none 0 0, .int .u64 0, .bool false, .slice none 0 0]] ++ F) _ := S.join
        refine r_pv T rfl rfl fun _ T => ?_
        refine Gets.block ?_
        refine Gets.loop ?_
        exact L1_ok F r z b2 x9 A10 k11 x12 b13 z x57.1 A59 x57.2.b k60 A61 x57.2.blocks k62 A63 x57.2.filter k64 x57.2.count x57.2.reads _ _ (T.sub ⟨rfl, rfl, rfl, rfl, rfl, trivial⟩) (S.only (p := [blk b2 [.slice A59 x57.2.b.length k60, .slice A61 x57.2.blocks.length k62, .slice A63 x57.2.filter.length k64, .int .i64 x57.2.count, .int .i64 x57.2.reads], sl .ro ku8 A59 k60 x57.2.b, sl .ro ksstable_block A61 k62 x57.2.blocks, sl .ro ku8 A63 k64 x57.2.filter, sl .ro ku8 A10 k11 x9, blk b13 [.slice none 0 0, .int .u64 0, .bool false, .slice none 0 0]]) [0, 0, 0, 0, 0, 2] rfl) H
end sstable_Table_Get
end Go.Proofs.Ytghpokmkhlmgcaa

namespace Go.Proofs.Ytghpokmkhlmgcaa
open Go Go.Proofs.Ytghpokmkhlmgcaa.X
set_option linter.unusedVariables false
set_option linter.unusedSimpArgs false
set_option maxRecDepth 100000
set_option maxHeartbeats 4000000
/-! ### (*cormorant.sstable.Table).Count: function 17 -/
namespace sstable_Table_Count
noncomputable def c0 : Code := match Try.f17.body with | some c => c | none => .skip
def R (F : List Atom) (b2 : Nat) (r : Int × sstable_Table) : Ending → World → Prop := fun e w' => ∃ (A10 : Option Addr), ∃ (k11 : Nat), ∃ (A12 : Option Addr), ∃ (k13 : Nat), ∃ (A14 : Option Addr), ∃ (k15 : Nat), e = .returned (.int .i64 r.1) ∧ SL ([blk b2 [.slice A10 r.2.b.length k11, .slice A12 r.2.blocks.length k13, .slice A14 r.2.filter.length k15, .int .i64 r.2.count, .int .i64 r.2.reads], sl .ro ku8 A10 k11 r.2.b, sl .ro ksstable_block A12 k13 r.2.blocks, sl .ro ku8 A14 k15 r.2.filter] ++ F) w'
def f (x1 : sstable_Table) : Option (Int × sstable_Table) := some (x1.count, x1)
theorem ok (F : List Atom) (w : World) (x1 : sstable_Table) {b2 : Nat} {A3 : Option Addr} {k4 : Nat} {A5 : Option Addr} {k6 : Nat} {A7 : Option Addr} {k8 : Nat} (S : SL ([blk b2 [.slice A3 x1.b.length k4, .slice A5 x1.blocks.length k6, .slice A7 x1.filter.length k8, .int .i64 x1.count, .int .i64 x1.reads], sl .ro ku8 A3 k4 x1.b, sl .ro ksstable_block A5 k6 x1.blocks, sl .ro ku8 A7 k8 x1.filter] ++ F) w) (r : Int × sstable_Table) (H : f x1 = some r) : Calls Try.prog 17 #[.pointer (some ⟨b2, 0, none⟩)] w (R F b2 r) := by
  refine enter (vs := [.pointer (some ⟨b2, 0, none⟩)]) Try.func17 rfl Try.ntmps17 (Nat.le_of_ble_eq_true rfl) fun a T => ?_
  refine Gets.seq ?_
  refine rg ?_
  refine r_pv T rfl rfl fun _ T => ?_
  refine Gets.seq ?_
  refine rg ?_
  refine r_pv T rfl rfl fun _ T => ?_
  refine r_pv T rfl rfl fun _ T => ?_
  refine r_fa (o' := 3) T rfl Try.runUnderlying69 rfl Try.sizeOf3 rfl rfl fun _ T => ?_
  refine r_ldB (ix := 0) T S rfl Try.isAgg3 rfl rfl rfl fun _ T => ?_
  refine r_pv T rfl rfl fun _ T => ?_
  replace H := Option.some.inj H
  subst H
  exact rtn T Try.func17 rfl rfl ⟨A3, k4, A5, k6, A7, k8, rfl, (S.only (p := [blk b2 [.slice A3 x1.b.length k4, .slice A5 x1.blocks.length k6, .slice A7 x1.filter.length k8, .int .i64 x1.count, .int .i64 x1.reads], sl .ro ku8 A3 k4 x1.b, sl .ro ksstable_block A5 k6 x1.blocks, sl .ro ku8 A7 k8 x1.filter]) [0, 0, 0, 0] rfl)⟩
end sstable_Table_Count
end Go.Proofs.Ytghpokmkhlmgcaa

namespace Go.Proofs.Ytghpokmkhlmgcaa
open Go Go.Proofs.Ytghpokmkhlmgcaa.X
set_option linter.unusedVariables false
set_option linter.unusedSimpArgs false
set_option maxRecDepth 100000
set_option maxHeartbeats 4000000
/-! ### (*cormorant.sstable.Table).Blocks: function 18 -/
namespace sstable_Table_Blocks
noncomputable def c0 : Code := match Try.f18.body with | some c => c | none => .skip
def R (F : List Atom) (b2 : Nat) (r : Int × sstable_Table) : Ending → World → Prop := fun e w' => ∃ (A10 : Option Addr), ∃ (k11 : Nat), ∃ (A12 : Option Addr), ∃ (k13 : Nat), ∃ (A14 : Option Addr), ∃ (k15 : Nat), e = .returned (.int .i64 r.1) ∧ SL ([blk b2 [.slice A10 r.2.b.length k11, .slice A12 r.2.blocks.length k13, .slice A14 r.2.filter.length k15, .int .i64 r.2.count, .int .i64 r.2.reads], sl .ro ku8 A10 k11 r.2.b, sl .ro ksstable_block A12 k13 r.2.blocks, sl .ro ku8 A14 k15 r.2.filter] ++ F) w'
def f (x1 : sstable_Table) : Option (Int × sstable_Table) := some ((x1.blocks.length : Int), x1)
theorem ok (F : List Atom) (w : World) (x1 : sstable_Table) {b2 : Nat} {A3 : Option Addr} {k4 : Nat} {A5 : Option Addr} {k6 : Nat} {A7 : Option Addr} {k8 : Nat} (S : SL ([blk b2 [.slice A3 x1.b.length k4, .slice A5 x1.blocks.length k6, .slice A7 x1.filter.length k8, .int .i64 x1.count, .int .i64 x1.reads], sl .ro ku8 A3 k4 x1.b, sl .ro ksstable_block A5 k6 x1.blocks, sl .ro ku8 A7 k8 x1.filter] ++ F) w) (r : Int × sstable_Table) (H : f x1 = some r) : Calls Try.prog 18 #[.pointer (some ⟨b2, 0, none⟩)] w (R F b2 r) := by
  refine enter (vs := [.pointer (some ⟨b2, 0, none⟩)]) Try.func18 rfl Try.ntmps18 (Nat.le_of_ble_eq_true rfl) fun a T => ?_
  refine Gets.seq ?_
  refine rg ?_
  refine r_pv T rfl rfl fun _ T => ?_
  refine Gets.seq ?_
  refine rg ?_
  refine r_pv T rfl rfl fun _ T => ?_
  refine r_pv T rfl rfl fun _ T => ?_
  refine r_fa (o' := 1) T rfl Try.runUnderlying69 rfl Try.sizeOf67 rfl rfl fun _ T => ?_
  refine r_ldB (ix := 0) T S rfl Try.isAgg67 rfl rfl rfl fun _ T => ?_
  refine r_lenS T rfl Try.runUnderlying67 rfl fun _ T => ?_
  refine r_pv T rfl rfl fun _ T => ?_
  replace H := Option.some.inj H
  subst H
  exact rtn T Try.func18 rfl rfl ⟨A3, k4, A5, k6, A7, k8, rfl, (S.only (p := [blk b2 [.slice A3 x1.b.length k4, .slice A5 x1.blocks.length k6, .slice A7 x1.filter.length k8, .int .i64 x1.count, .int .i64 x1.reads], sl .ro ku8 A3 k4 x1.b, sl .ro ksstable_block A5 k6 x1.blocks, sl .ro ku8 A7 k8 x1.filter]) [0, 0, 0, 0] rfl)⟩
end sstable_Table_Blocks
end Go.Proofs.Ytghpokmkhlmgcaa

namespace Go.Proofs.Ytghpokmkhlmgcaa
open Go Go.Proofs.Ytghpokmkhlmgcaa.X
set_option linter.unusedVariables false
set_option linter.unusedSimpArgs false
set_option maxRecDepth 100000
set_option maxHeartbeats 4000000
/-! ### cormorant.cormorantlaw04.few: function 24 -/
namespace cormorantlaw04_few
noncomputable def c0 : Code := match Try.f24.body with | some c => c | none => .skip
def R (F : List Atom) (r : (List api_Entry)) : Ending → World → Prop := fun e w' => ∃ (A7 : Option Addr), ∃ (k8 : Nat), e = .returned (.slice A7 r.length k8) ∧ SL ([sl .own kapi_Entry A7 k8 r] ++ F) w'
def f : Option (List api_Entry) := some [(api_Entry.mk [97] 2 false [120]), (api_Entry.mk [97] 1 true ([] : List Int)), (api_Entry.mk [98] 3 false [121, 122])]
theorem ok (F : List Atom) (w : World) (S : SL ([] ++ F) w) (r : (List api_Entry)) (H : f  = some r) : Calls Try.prog 24 #[] w (R F r) := by
  refine enter (vs := []) Try.func24 rfl Try.ntmps24 (Nat.le_of_ble_eq_true rfl) fun a T => ?_
  refine Gets.seq ?_
  refine rg ?_
  refine r_pv T rfl rfl fun _ T => ?_
  refine Gets.seq ?_
  refine rg ?_
  replace S := SL.val (κ := ku8) (x := 97) (cs := [.int .u8 97]) (fun _ => rfl) S
  refine r_bsl (κ := ku8) (xs := [97]) (vs := [.int .u8 97]) T S sty24 rfl ⟨_, _, rfl, ⟨0, rfl⟩, rfl⟩ rfl (by decide) rfl fun _ _ b1 S T => ?_
  replace S : SL ([sl .own ku8 (some ⟨b1, 0, none⟩) 1 [97]] ++ F) _ := S.only [0] rfl
  refine r_cvS (ix := 0) T S rfl rfl Try.runUnderlying24 Try.runUnderlying5 rfl ⟨_, rfl⟩ fun _ _ S T => ?_
  replace S := SL.val (κ := ku8) (x := 120) (cs := [.int .u8 120]) (fun _ => rfl) S
  refine r_bsl (κ := ku8) (xs := [120]) (vs := [.int .u8 120]) T S sty24 rfl ⟨_, _, rfl, ⟨0, rfl⟩, rfl⟩ rfl (by decide) rfl fun _ _ b2 S T => ?_
  replace S : SL ([sl .own ku8 (some ⟨b2, 0, none⟩) 1 [120], sl .own ku8 (some ⟨b1, 0, none⟩) 1 [97]] ++ F) _ := S.only [0, 1] rfl
  refine r_cvS (ix := 0) T S rfl rfl Try.runUnderlying24 Try.runUnderlying5 rfl ⟨_, rfl⟩ fun _ _ S T => ?_
  refine r_build (cs := #[.slice (some ⟨b1, 0, none⟩) 1 1, .int .u64 2, .bool false, .slice (some ⟨b2, 0, none⟩) 1 1]) T stt36 rfl rfl rfl fun _ T => ?_
  replace S := SL.val (κ := ku8) (x := 97) (cs := [.int .u8 97]) (fun _ => rfl) S
  refine r_bsl (κ := ku8) (xs := [97]) (vs := [.int .u8 97]) T S sty24 rfl ⟨_, _, rfl, ⟨0, rfl⟩, rfl⟩ rfl (by decide) rfl fun _ _ b3 S T => ?_
  replace S : SL ([sl .own ku8 (some ⟨b3, 0, none⟩) 1 [97], sl .own ku8 (some ⟨b2, 0, none⟩) 1 [120], sl .own ku8 (some ⟨b1, 0, none⟩) 1 [97]] ++ F) _ := S.only [0, 1, 1] rfl
  refine r_cvS (ix := 0) T S rfl rfl Try.runUnderlying24 Try.runUnderlying5 rfl ⟨_, rfl⟩ fun _ _ S T => ?_
  refine r_build (cs := #[.slice (some ⟨b3, 0, none⟩) 1 1, .int .u64 1, .bool true, .slice none 0 0]) T stt36 rfl rfl rfl fun _ T => ?_
  replace S := SL.val (κ := ku8) (x := 98) (cs := [.int .u8 98]) (fun _ => rfl) S
  refine r_bsl (κ := ku8) (xs := [98]) (vs := [.int .u8 98]) T S sty24 rfl ⟨_, _, rfl, ⟨0, rfl⟩, rfl⟩ rfl (by decide) rfl fun _ _ b4 S T => ?_
  replace S : SL ([sl .own ku8 (some ⟨b4, 0, none⟩) 1 [98], sl .own ku8 (some ⟨b3, 0, none⟩) 1 [97], sl .own ku8 (some ⟨b2, 0, none⟩) 1 [120], sl .own ku8 (some ⟨b1, 0, none⟩) 1 [97]] ++ F) _ := S.only [0, 1, 1, 1] rfl
  refine r_cvS (ix := 0) T S rfl rfl Try.runUnderlying24 Try.runUnderlying5 rfl ⟨_, rfl⟩ fun _ _ S T => ?_
  replace S := SL.val (κ := ku8) (x := 121) (cs := [.int .u8 121]) (fun _ => rfl) S
  replace S := SL.val (κ := ku8) (x := 122) (cs := [.int .u8 122]) (fun _ => rfl) S
  refine r_bsl (κ := ku8) (xs := [121, 122]) (vs := [.int .u8 121, .int .u8 122]) T S sty24 rfl ⟨_, _, rfl, ⟨1, rfl⟩, ⟨_, _, rfl, ⟨0, rfl⟩, rfl⟩⟩ rfl (by decide) rfl fun _ _ b5 S T => ?_
  replace S : SL ([sl .own ku8 (some ⟨b5, 0, none⟩) 2 [121, 122], sl .own ku8 (some ⟨b4, 0, none⟩) 1 [98], sl .own ku8 (some ⟨b3, 0, none⟩) 1 [97], sl .own ku8 (some ⟨b2, 0, none⟩) 1 [120], sl .own ku8 (some ⟨b1, 0, none⟩) 1 [97]] ++ F) _ := S.only [0, 2, 2, 2, 2] rfl
  refine r_cvS (ix := 0) T S rfl rfl Try.runUnderlying24 Try.runUnderlying5 rfl ⟨_, rfl⟩ fun _ _ S T => ?_
  refine r_build (cs := #[.slice (some ⟨b4, 0, none⟩) 1 1, .int .u64 3, .bool false, .slice (some ⟨b5, 0, none⟩) 2 2]) T stt36 rfl rfl rfl fun _ T => ?_
  replace S : SL ([sl .own ku8 (some ⟨b5, 0, none⟩) 2 [121, 122], sl .own ku8 (some ⟨b4, 0, none⟩) 1 [98], sl .own ku8 (some ⟨b3, 0, none⟩) 1 [97], sl .own ku8 (some ⟨b2, 0, none⟩) 1 [120], sl .ro ku8 (some ⟨b1, 0, none⟩) 1 [97]] ++ F) _ := S.fixL (i := 4) rfl rfl
  replace S : SL ([sl .own ku8 (some ⟨b5, 0, none⟩) 2 [121, 122], sl .own ku8 (some ⟨b4, 0, none⟩) 1 [98], sl .own ku8 (some ⟨b3, 0, none⟩) 1 [97], sl .ro ku8 (some ⟨b2, 0, none⟩) 1 [120], sl .ro ku8 (some ⟨b1, 0, none⟩) 1 [97]] ++ F) _ := S.fixL (i := 3) rfl rfl
  replace S : SL ([rp kapi_Entry (api_Entry.mk [97] 2 false [120]) [.slice (some ⟨b1, 0, none⟩) 1 1, .int .u64 2, .bool false, .slice (some ⟨b2, 0, none⟩) 1 1], sl .own ku8 (some ⟨b5, 0, none⟩) 2 [121, 122], sl .own ku8 (some ⟨b4, 0, none⟩) 1 [98], sl .own ku8 (some ⟨b3, 0, none⟩) 1 [97], sl .ro ku8 (some ⟨b2, 0, none⟩) 1 [120], sl .ro ku8 (some ⟨b1, 0, none⟩) 1 [97]] ++ F) _ := cl_api_Entry (i0 := 4) (i1 := 3) S rfl rfl
  replace S : SL ([rp kapi_Entry (api_Entry.mk [97] 2 false [120]) [.slice (some ⟨b1, 0, none⟩) 1 1, .int .u64 2, .bool false, .slice (some ⟨b2, 0, none⟩) 1 1], sl .own ku8 (some ⟨b5, 0, none⟩) 2 [121, 122], sl .own ku8 (some ⟨b4, 0, none⟩) 1 [98], sl .ro ku8 (some ⟨b3, 0, none⟩) 1 [97], sl .ro ku8 (some ⟨b2, 0, none⟩) 1 [120], sl .ro ku8 (some ⟨b1, 0, none⟩) 1 [97]] ++ F) _ := S.fixL (i := 3) rfl rfl
  replace S := S.nil ku8 .ro
  replace S : SL ([rp kapi_Entry (api_Entry.mk [97] 1 true ([] : List Int)) [.slice (some ⟨b3, 0, none⟩) 1 1, .int .u64 1, .bool true, .slice none 0 0], sl .ro ku8 none 0 ([] : List Int), rp kapi_Entry (api_Entry.mk [97] 2 false [120]) [.slice (some ⟨b1, 0, none⟩) 1 1, .int .u64 2, .bool false, .slice (some ⟨b2, 0, none⟩) 1 1], sl .own ku8 (some ⟨b5, 0, none⟩) 2 [121, 122], sl .own ku8 (some ⟨b4, 0, none⟩) 1 [98], sl .ro ku8 (some ⟨b3, 0, none⟩) 1 [97], sl .ro ku8 (some ⟨b2, 0, none⟩) 1 [120], sl .ro ku8 (some ⟨b1, 0, none⟩) 1 [97]] ++ F) _ := cl_api_Entry (i0 := 4) (i1 := 0) S rfl rfl
  replace S : SL ([rp kapi_Entry (api_Entry.mk [97] 1 true ([] : List Int)) [.slice (some ⟨b3, 0, none⟩) 1 1, .int .u64 1, .bool true, .slice none 0 0], sl .ro ku8 none 0 ([] : List Int), rp kapi_Entry (api_Entry.mk [97] 2 false [120]) [.slice (some ⟨b1, 0, none⟩) 1 1, .int .u64 2, .bool false, .slice (some ⟨b2, 0, none⟩) 1 1], sl .own ku8 (some ⟨b5, 0, none⟩) 2 [121, 122], sl .ro ku8 (some ⟨b4, 0, none⟩) 1 [98], sl .ro ku8 (some ⟨b3, 0, none⟩) 1 [97], sl .ro ku8 (some ⟨b2, 0, none⟩) 1 [120], sl .ro ku8 (some ⟨b1, 0, none⟩) 1 [97]] ++ F) _ := S.fixL (i := 4) rfl rfl
  replace S : SL ([rp kapi_Entry (api_Entry.mk [97] 1 true ([] : List Int)) [.slice (some ⟨b3, 0, none⟩) 1 1, .int .u64 1, .bool true, .slice none 0 0], sl .ro ku8 none 0 ([] : List Int), rp kapi_Entry (api_Entry.mk [97] 2 false [120]) [.slice (some ⟨b1, 0, none⟩) 1 1, .int .u64 2, .bool false, .slice (some ⟨b2, 0, none⟩) 1 1], sl .ro ku8 (some ⟨b5, 0, none⟩) 2 [121, 122], sl .ro ku8 (some ⟨b4, 0, none⟩) 1 [98], sl .ro ku8 (some ⟨b3, 0, none⟩) 1 [97], sl .ro ku8 (some ⟨b2, 0, none⟩) 1 [120], sl .ro ku8 (some ⟨b1, 0, none⟩) 1 [97]] ++ F) _ := S.fixL (i := 3) rfl rfl
  replace S : SL ([rp kapi_Entry (api_Entry.mk [98] 3 false [121, 122]) [.slice (some ⟨b4, 0, none⟩) 1 1, .int .u64 3, .bool false, .slice (some ⟨b5, 0, none⟩) 2 2], rp kapi_Entry (api_Entry.mk [97] 1 true ([] : List Int)) [.slice (some ⟨b3, 0, none⟩) 1 1, .int .u64 1, .bool true, .slice none 0 0], sl .ro ku8 none 0 ([] : List Int), rp kapi_Entry (api_Entry.mk [97] 2 false [120]) [.slice (some ⟨b1, 0, none⟩) 1 1, .int .u64 2, .bool false, .slice (some ⟨b2, 0, none⟩) 1 1], sl .ro ku8 (some ⟨b5, 0, none⟩) 2 [121, 122], sl .ro ku8 (some ⟨b4, 0, none⟩) 1 [98], sl .ro ku8 (some ⟨b3, 0, none⟩) 1 [97], sl .ro ku8 (some ⟨b2, 0, none⟩) 1 [120], sl .ro ku8 (some ⟨b1, 0, none⟩) 1 [97]] ++ F) _ := cl_api_Entry (i0 := 4) (i1 := 3) S rfl rfl
  refine r_bsl (κ := kapi_Entry) (xs := [(api_Entry.mk [97] 2 false [120]), (api_Entry.mk [97] 1 true ([] : List Int)), (api_Entry.mk [98] 3 false [121, 122])]) (vs := [.agg #[.slice (some ⟨b1, 0, none⟩) 1 1, .int .u64 2, .bool false, .slice (some ⟨b2, 0, none⟩) 1 1], .agg #[.slice (some ⟨b3, 0, none⟩) 1 1, .int .u64 1, .bool true, .slice none 0 0], .agg #[.slice (some ⟨b4, 0, none⟩) 1 1, .int .u64 3, .bool false, .slice (some ⟨b5, 0, none⟩) 2 2]]) T S sty22 rfl ⟨_, _, rfl, ⟨3, rfl⟩, ⟨_, _, rfl, ⟨1, rfl⟩, ⟨_, _, rfl, ⟨0, rfl⟩, rfl⟩⟩⟩ rfl (by decide) rfl fun _ _ b6 S T => ?_
  replace S : SL ([sl .own kapi_Entry (some ⟨b6, 0, none⟩) 3 [(api_Entry.mk [97] 2 false [120]), (api_Entry.mk [97] 1 true ([] : List Int)), (api_Entry.mk [98] 3 false [121, 122])], sl .ro ku8 none 0 ([] : List Int), sl .ro ku8 (some ⟨b5, 0, none⟩) 2 [121, 122], sl .ro ku8 (some ⟨b4, 0, none⟩) 1 [98], sl .ro ku8 (some ⟨b3, 0, none⟩) 1 [97], sl .ro ku8 (some ⟨b2, 0, none⟩) 1 [120], sl .ro ku8 (some ⟨b1, 0, none⟩) 1 [97]] ++ F) _ := S.only [0, 2, 3, 3, 3, 3, 3] rfl
  refine r_pv T rfl rfl fun _ T => ?_
  replace H := Option.some.inj H
  subst H
  replace T := T.re (s := 0) (v' := .slice (some ⟨b6, 0, none⟩) [(api_Entry.mk [97] 2 false [120]), (api_Entry.mk [97] 1 true ([] : List Int)), (api_Entry.mk [98] 3 false [121, 122])].length 3) rfl (by simp)
  exact rtn T Try.func24 rfl rfl ⟨(some ⟨b6, 0, none⟩), 3, rfl, (S.only (p := [sl .own kapi_Entry (some ⟨b6, 0, none⟩) 3 [(api_Entry.mk [97] 2 false [120]), (api_Entry.mk [97] 1 true ([] : List Int)), (api_Entry.mk [98] 3 false [121, 122])]]) [0] rfl)⟩
end cormorantlaw04_few
end Go.Proofs.Ytghpokmkhlmgcaa

namespace Go.Proofs.Ytghpokmkhlmgcaa
open Go Go.Proofs.Ytghpokmkhlmgcaa.X
set_option linter.unusedVariables false
set_option linter.unusedSimpArgs false
set_option maxRecDepth 100000
set_option maxHeartbeats 4000000
/-! ### cormorant.sstable.fits: function 25 -/
namespace sstable_fits
noncomputable def c0 : Code := match Try.f25.body with | some c => c | none => .skip
def R (F : List Atom) (x1 : api_Entry) (A2 : Option Addr) (k3 : Nat) (A4 : Option Addr) (k5 : Nat) (r : Bool) : Ending → World → Prop := fun e w' => e = .returned (.bool r) ∧ SL ([sl .ro ku8 A2 k3 x1.Key, sl .ro ku8 A4 k5 x1.Value] ++ F) w'
def J1 (x13 : Bool) : Option Bool := some x13
def J0 (x1 : api_Entry) : Option Bool := If (decide ((x1.Key.length : Int) > 0)) (If (decide ((x1.Key.length : Int) ≤ 256)) (If (decide (x1.Seq > 0)) (If (decide (x1.Seq ≤ 4611686018427387904)) (J1 (decide ((x1.Value.length : Int) ≤ 65536))) (J1 false)) (J1 false)) (J1 false)) (J1 false)
def f (x1 : api_Entry) : Option Bool := If x1.Del (If (decide ((x1.Value.length : Int) > 0)) (some false) (J0 x1)) (J0 x1)
noncomputable def ptJ1 : List Item := [.code (cR (cR (cR c0)))]
noncomputable def ptJ0 : List Item := [.code (cL (cR (cR c0))), .code (cR (cR (cR c0)))]
theorem J1_ok (F : List Atom) (r : Bool) (x1 : api_Entry) (A2 : Option Addr) (k3 : Nat) (A4 : Option Addr) (k5 : Nat) (x13 : Bool) (a : Act) (w : World) (T : Tm 37 [(2, .bool x13)] a) (S : SL ([sl .ro ku8 A2 k3 x1.Key, sl .ro ku8 A4 k5 x1.Value] ++ F) w) (H : J1 x13 = some r) : Gets Try.prog 25 ptJ1 a w (R F x1 A2 k3 A4 k5 r) := by
  replace H := Option.some.inj H
  subst H
  exact rtn T Try.func25 rfl rfl ⟨rfl, (S.only (p := [sl .ro ku8 A2 k3 x1.Key, sl .ro ku8 A4 k5 x1.Value]) [0, 0] rfl)⟩
theorem J0_ok (F : List Atom) (r : Bool) (x1 : api_Entry) (A2 : Option Addr) (k3 : Nat) (A4 : Option Addr) (k5 : Nat) (b6 : Nat) (a : Act) (w : World) (T : Tm 37 [(1, .pointer (some ⟨b6, 0, none⟩))] a) (S : SL ([sl .ro ku8 A2 k3 x1.Key, sl .ro ku8 A4 k5 x1.Value, blk b6 [.slice A2 x1.Key.length k3, .int .u64 x1.Seq, .bool x1.Del, .slice A4 x1.Value.length k5]] ++ F) w) (H : J0 x1 = some r) : Gets Try.prog 25 ptJ0 a w (R F x1 A2 k3 A4 k5 r) := by
  refine rg ?_
  refine r_fa (o' := 0) T rfl Try.runUnderlying36 rfl Try.sizeOf24 rfl rfl fun _ T => ?_
  refine r_ldB (ix := 2) T S rfl Try.isAgg24 rfl rfl rfl fun _ T => ?_
  refine r_lenS T rfl Try.runUnderlying24 rfl fun _ T => ?_
  refine r_pv T rfl rfl fun _ T => ?_
  refine r_pv T rfl rfl fun _ T => ?_
  rcases ifE H with ⟨h9, H⟩ | ⟨h9, H⟩
  · refine g_yes T rfl rfl h9 ?_
    refine r_fa (o' := 0) T rfl Try.runUnderlying36 rfl Try.sizeOf24 rfl rfl fun _ T => ?_
    refine g_yes T rfl rfl h9 ?_
    refine r_ldB (ix := 2) T S rfl Try.isAgg24 rfl rfl rfl fun _ T => ?_
    refine g_yes T rfl rfl h9 ?_
    refine r_lenS T rfl Try.runUnderlying24 rfl fun _ T => ?_
    refine g_yes T rfl rfl h9 ?_
    refine r_pv T rfl rfl fun _ T => ?_
    refine r_pickT T rfl h9 rfl rfl fun _ T => ?_
    refine r_pv T rfl rfl fun _ T => ?_
    rcases ifE H with ⟨h10, H⟩ | ⟨h10, H⟩
    · refine g_yes T rfl rfl h10 ?_
      refine r_fa (o' := 1) T rfl Try.runUnderlying36 rfl Try.sizeOf34 rfl rfl fun _ T => ?_
      refine g_yes T rfl rfl h10 ?_
      refine r_ldB (ix := 2) T S rfl Try.isAgg34 rfl rfl rfl fun _ T => ?_
      refine g_yes T rfl rfl h10 ?_
      refine r_pv T rfl rfl fun _ T => ?_
      refine r_pickT T rfl h10 rfl rfl fun _ T => ?_
      refine r_pv T rfl rfl fun _ T => ?_
      rcases ifE H with ⟨h11, H⟩ | ⟨h11, H⟩
      · refine g_yes T rfl rfl h11 ?_
        refine r_fa (o' := 1) T rfl Try.runUnderlying36 rfl Try.sizeOf34 rfl rfl fun _ T => ?_
        refine g_yes T rfl rfl h11 ?_
        refine r_ldB (ix := 2) T S rfl Try.isAgg34 rfl rfl rfl fun _ T => ?_
        refine g_yes T rfl rfl h11 ?_
        refine r_pv T rfl rfl fun _ T => ?_
        refine r_pickT T rfl h11 rfl rfl fun _ T => ?_
        refine r_pv T rfl rfl fun _ T => ?_
        rcases ifE H with ⟨h12, H⟩ | ⟨h12, H⟩
        · refine g_yes T rfl rfl h12 ?_
          refine r_fa (o' := 3) T rfl Try.runUnderlying36 rfl Try.sizeOf24 rfl rfl fun _ T => ?_
          refine g_yes T rfl rfl h12 ?_
          refine r_ldB (ix := 2) T S rfl Try.isAgg24 rfl rfl rfl fun _ T => ?_
          refine g_yes T rfl rfl h12 ?_
          refine r_lenS T rfl Try.runUnderlying24 rfl fun _ T => ?_
          refine g_yes T rfl rfl h12 ?_
          refine r_pv T rfl rfl fun _ T => ?_
          refine r_pickT T rfl h12 rfl rfl fun _ T => ?_
          refine r_pv T rfl rfl fun _ T => ?_
          exact J1_ok F r x1 A2 k3 A4 k5 (decide ((x1.Value.length : Int) ≤ 65536)) _ _ (T.sub ⟨rfl, trivial⟩) (S.only (p := [sl .ro ku8 A2 k3 x1.Key, sl .ro ku8 A4 k5 x1.Value]) [0, 0] rfl) H
        · refine g_no T rfl rfl h12 rfl fun _ T => ?_
          refine g_no T rfl rfl h12 rfl fun _ T => ?_
          refine g_no T rfl rfl h12 rfl fun _ T => ?_
          refine g_no T rfl rfl h12 rfl fun _ T => ?_
          refine r_pickF T rfl h12 rfl rfl fun _ T => ?_
          refine r_pv T rfl rfl fun _ T => ?_
          exact J1_ok F r x1 A2 k3 A4 k5 false _ _ (T.sub ⟨rfl, trivial⟩) (S.only (p := [sl .ro ku8 A2 k3 x1.Key, sl .ro ku8 A4 k5 x1.Value]) [0, 0] rfl) H
      · refine g_no T rfl rfl h11 rfl fun _ T => ?_
        refine g_no T rfl rfl h11 rfl fun _ T => ?_
        refine g_no T rfl rfl h11 rfl fun _ T => ?_
        refine r_pickF T rfl h11 rfl rfl fun _ T => ?_
        refine r_pv T rfl rfl fun _ T => ?_
        refine g_no T rfl rfl rfl rfl fun _ T => ?_
        refine g_no T rfl rfl rfl rfl fun _ T => ?_
        refine g_no T rfl rfl rfl rfl fun _ T => ?_
        refine g_no T rfl rfl rfl rfl fun _ T => ?_
        refine r_pickF T rfl rfl rfl rfl fun _ T => ?_
        refine r_pv T rfl rfl fun _ T => ?_
        exact J1_ok F r x1 A2 k3 A4 k5 false _ _ (T.sub ⟨rfl, trivial⟩) (S.only (p := [sl .ro ku8 A2 k3 x1.Key, sl .ro ku8 A4 k5 x1.Value]) [0, 0] rfl) H
    · refine g_no T rfl rfl h10 rfl fun _ T => ?_
      refine g_no T rfl rfl h10 rfl fun _ T => ?_
      refine g_no T rfl rfl h10 rfl fun _ T => ?_
      refine r_pickF T rfl h10 rfl rfl fun _ T => ?_
      refine r_pv T rfl rfl fun _ T => ?_
      refine g_no T rfl rfl rfl rfl fun _ T => ?_
      refine g_no T rfl rfl rfl rfl fun _ T => ?_
      refine g_no T rfl rfl rfl rfl fun _ T => ?_
      refine r_pickF T rfl rfl rfl rfl fun _ T => ?_
      refine r_pv T rfl rfl fun _ T => ?_
      refine g_no T rfl rfl rfl rfl fun _ T => ?_
      refine g_no T rfl rfl rfl rfl fun _ T => ?_
      refine g_no T rfl rfl rfl rfl fun _ T => ?_
      refine g_no T rfl rfl rfl rfl fun _ T => ?_
      refine r_pickF T rfl rfl rfl rfl fun _ T => ?_
      refine r_pv T rfl rfl fun _ T => ?_
      exact J1_ok F r x1 A2 k3 A4 k5 false _ _ (T.sub ⟨rfl, trivial⟩) (S.only (p := [sl .ro ku8 A2 k3 x1.Key, sl .ro ku8 A4 k5 x1.Value]) [0, 0] rfl) H
  · refine g_no T rfl rfl h9 rfl fun _ T => ?_
    refine g_no T rfl rfl h9 rfl fun _ T => ?_
    refine g_no T rfl rfl h9 rfl fun _ T => ?_
    refine g_no T rfl rfl h9 rfl fun _ T => ?_
    refine r_pickF T rfl h9 rfl rfl fun _ T => ?_
    refine r_pv T rfl rfl fun _ T => ?_
    refine g_no T rfl rfl rfl rfl fun _ T => ?_
    refine g_no T rfl rfl rfl rfl fun _ T => ?_
    refine g_no T rfl rfl rfl rfl fun _ T => ?_
    refine r_pickF T rfl rfl rfl rfl fun _ T => ?_
    refine r_pv T rfl rfl fun _ T => ?_
    refine g_no T rfl rfl rfl rfl fun _ T => ?_
    refine g_no T rfl rfl rfl rfl fun _ T => ?_
    refine g_no T rfl rfl rfl rfl fun _ T => ?_
    refine r_pickF T rfl rfl rfl rfl fun _ T => ?_
    refine r_pv T rfl rfl fun _ T => ?_
    refine g_no T rfl rfl rfl rfl fun _ T => ?_
    refine g_no T rfl rfl rfl rfl fun _ T => ?_
    refine g_no T rfl rfl rfl rfl fun _ T => ?_
    refine g_no T rfl rfl rfl rfl fun _ T => ?_
    refine r_pickF T rfl rfl rfl rfl fun _ T => ?_
    refine r_pv T rfl rfl fun _ T => ?_
    exact J1_ok F r x1 A2 k3 A4 k5 false _ _ (T.sub ⟨rfl, trivial⟩) (S.only (p := [sl .ro ku8 A2 k3 x1.Key, sl .ro ku8 A4 k5 x1.Value]) [0, 0] rfl) H
theorem ok (F : List Atom) (w : World) (x1 : api_Entry) {A2 : Option Addr} {k3 : Nat} {A4 : Option Addr} {k5 : Nat} (S : SL ([sl .ro ku8 A2 k3 x1.Key, sl .ro ku8 A4 k5 x1.Value] ++ F) w) (r : Bool) (H : f x1 = some r) : Calls Try.prog 25 #[.agg #[.slice A2 x1.Key.length k3, .int .u64 x1.Seq, .bool x1.Del, .slice A4 x1.Value.length k5]] w (R F x1 A2 k3 A4 k5 r) := by
  refine enter (vs := [.agg #[.slice A2 x1.Key.length k3, .int .u64 x1.Seq, .bool x1.Del, .slice A4 x1.Value.length k5]]) Try.func25 rfl Try.ntmps25 (Nat.le_of_ble_eq_true rfl) fun a T => ?_
  refine Gets.seq ?_
  refine rg ?_
  refine r_box T S rfl (cs := [.slice A2 x1.Key.length k3, .int .u64 x1.Seq, .bool x1.Del, .slice A4 x1.Value.length k5]) rfl rfl fun _ _ b6 S T => ?_
  refine r_pv T rfl rfl fun _ T => ?_
  refine Gets.seq (Gets.seq ?_)
  refine rg ?_
  refine r_fa (o' := 2) T rfl Try.runUnderlying36 rfl Try.sizeOf4 rfl rfl fun _ T => ?_
  refine r_ldB (ix := 0) T S rfl Try.isAgg4 rfl rfl rfl fun _ T => ?_
  refine r_pv T rfl rfl fun _ T => ?_
  rcases ifE H with ⟨h7, H⟩ | ⟨h7, H⟩
  · refine g_yes T rfl rfl h7 ?_
    refine r_fa (o' := 3) T rfl Try.runUnderlying36 rfl Try.sizeOf24 rfl rfl fun _ T => ?_
    refine g_yes T rfl rfl h7 ?_
    refine r_ldB (ix := 0) T S rfl Try.isAgg24 rfl rfl rfl fun _ T => ?_
    refine g_yes T rfl rfl h7 ?_
    refine r_lenS T rfl Try.runUnderlying24 rfl fun _ T => ?_
    refine g_yes T rfl rfl h7 ?_
    refine r_pv T rfl rfl fun _ T => ?_
    refine r_pickT T rfl h7 rfl rfl fun _ T => ?_
    rcases ifE H with ⟨h8, H⟩ | ⟨h8, H⟩
    · refine cdT T rfl h8 ?_
      refine Gets.seq ?_
      refine rg ?_
      refine r_pv T rfl rfl fun _ T => ?_
      replace H := Option.some.inj H
      subst H
      exact rtn T Try.func25 rfl rfl ⟨rfl, (S.only (p := [sl .ro ku8 A2 k3 x1.Key, sl .ro ku8 A4 k5 x1.Value]) [1, 1] rfl)⟩
    · refine cdF T rfl h8 ?_
      refine Gets.skip (Gets.seq ?_)
      exact J0_ok F r x1 A2 k3 A4 k5 b6 _ _ (T.sub ⟨rfl, trivial⟩) (S.only (p := [sl .ro ku8 A2 k3 x1.Key, sl .ro ku8 A4 k5 x1.Value, blk b6 [.slice A2 x1.Key.length k3, .int .u64 x1.Seq, .bool x1.Del, .slice A4 x1.Value.length k5]]) [1, 1, 0] rfl) H
  · refine g_no T rfl rfl h7 rfl fun _ T => ?_
    refine g_no T rfl rfl h7 rfl fun _ T => ?_
    refine g_no T rfl rfl h7 rfl fun _ T => ?_
    refine g_no T rfl rfl h7 rfl fun _ T => ?_
    refine r_pickF T rfl h7 rfl rfl fun _ T => ?_
    refine cdF T rfl rfl ?_
    refine Gets.skip (Gets.seq ?_)
    exact J0_ok F r x1 A2 k3 A4 k5 b6 _ _ (T.sub ⟨rfl, trivial⟩) (S.only (p := [sl .ro ku8 A2 k3 x1.Key, sl .ro ku8 A4 k5 x1.Value, blk b6 [.slice A2 x1.Key.length k3, .int .u64 x1.Seq, .bool x1.Del, .slice A4 x1.Value.length k5]]) [1, 1, 0] rfl) H
end sstable_fits
end Go.Proofs.Ytghpokmkhlmgcaa

namespace Go.Proofs.Ytghpokmkhlmgcaa
open Go Go.Proofs.Ytghpokmkhlmgcaa.X
set_option linter.unusedVariables false
set_option linter.unusedSimpArgs false
set_option maxRecDepth 100000
set_option maxHeartbeats 4000000
/-! ### cormorant.sstable.order: function 26 -/
namespace sstable_order
noncomputable def c0 : Code := match Try.f26.body with | some c => c | none => .skip
def R (F : List Atom) (x1 : api_Entry) (A2 : Option Addr) (k3 : Nat) (A4 : Option Addr) (k5 : Nat) (x6 : api_Entry) (A7 : Option Addr) (k8 : Nat) (A9 : Option Addr) (k10 : Nat) (r : Int) : Ending → World → Prop := fun e w' => e = .returned (.int .i64 r) ∧ SL ([sl .ro ku8 A2 k3 x1.Key, sl .ro ku8 A4 k5 x1.Value, sl .ro ku8 A7 k8 x6.Key, sl .ro ku8 A9 k10 x6.Value] ++ F) w'
def J0 (x14 : Int) : Option Int := some x14
def f (x1 : api_Entry) (x6 : api_Entry) : Option Int := Bd (codec_Compare.f x1.Key x6.Key) fun x14 => If (x14 != 0) (J0 x14) (If (x1.Seq == x6.Seq) (J0 x14) (If (decide (x1.Seq > x6.Seq)) (some (-1)) (some 1)))
noncomputable def ptJ0 : List Item := [.code (cL (cT (cR (cR (cL (cR c0)))))), .code (cR (cT (cR (cR (cL (cR c0)))))), .code (cR (cR c0))]
theorem J0_ok (F : List Atom) (r : Int) (x1 : api_Entry) (A2 : Option Addr) (k3 : Nat) (A4 : Option Addr) (k5 : Nat) (x6 : api_Entry) (A7 : Option Addr) (k8 : Nat) (A9 : Option Addr) (k10 : Nat) (x14 : Int) (a : Act) (w : World) (T : Tm 26 [(5, .int .i64 x14)] a) (S : SL ([sl .ro ku8 A2 k3 x1.Key, sl .ro ku8 A4 k5 x1.Value, sl .ro ku8 A7 k8 x6.Key, sl .ro ku8 A9 k10 x6.Value] ++ F) w) (H : J0 x14 = some r) : Gets Try.prog 26 ptJ0 a w (R F x1 A2 k3 A4 k5 x6 A7 k8 A9 k10 r) := by
  refine rg ?_
  refine r_pv T rfl rfl fun _ T => ?_
  refine r_pv T rfl rfl fun _ T => ?_
  replace H := Option.some.inj H
  subst H
  exact rtn T Try.func26 rfl rfl ⟨rfl, (S.only (p := [sl .ro ku8 A2 k3 x1.Key, sl .ro ku8 A4 k5 x1.Value, sl .ro ku8 A7 k8 x6.Key, sl .ro ku8 A9 k10 x6.Value]) [0, 0, 0, 0] rfl)⟩
theorem ok (F : List Atom) (w : World) (x1 : api_Entry) (x6 : api_Entry) {A2 : Option Addr} {k3 : Nat} {A4 : Option Addr} {k5 : Nat} {A7 : Option Addr} {k8 : Nat} {A9 : Option Addr} {k10 : Nat} (S : SL ([sl .ro ku8 A2 k3 x1.Key, sl .ro ku8 A4 k5 x1.Value, sl .ro ku8 A7 k8 x6.Key, sl .ro ku8 A9 k10 x6.Value] ++ F) w) (r : Int) (H : f x1 x6 = some r) : Calls Try.prog 26 #[.agg #[.slice A2 x1.Key.length k3, .int .u64 x1.Seq, .bool x1.Del, .slice A4 x1.Value.length k5], .agg #[.slice A7 x6.Key.length k8, .int .u64 x6.Seq, .bool x6.Del, .slice A9 x6.Value.length k10]] w (R F x1 A2 k3 A4 k5 x6 A7 k8 A9 k10 r) := by
  refine enter (vs := [.agg #[.slice A2 x1.Key.length k3, .int .u64 x1.Seq, .bool x1.Del, .slice A4 x1.Value.length k5], .agg #[.slice A7 x6.Key.length k8, .int .u64 x6.Seq, .bool x6.Del, .slice A9 x6.Value.length k10]]) Try.func26 rfl Try.ntmps26 (Nat.le_of_ble_eq_true rfl) fun a T => ?_
  refine Gets.seq ?_
  refine rg ?_
  refine r_box T S rfl (cs := [.slice A2 x1.Key.length k3, .int .u64 x1.Seq, .bool x1.Del, .slice A4 x1.Value.length k5]) rfl rfl fun _ _ b11 S T => ?_
  refine r_box T S rfl (cs := [.slice A7 x6.Key.length k8, .int .u64 x6.Seq, .bool x6.Del, .slice A9 x6.Value.length k10]) rfl rfl fun _ _ b12 S T => ?_
  refine r_pv T rfl rfl fun _ T => ?_
  refine Gets.seq (Gets.seq ?_)
  refine rg ?_
  refine r_fa (o' := 0) T rfl Try.runUnderlying36 rfl Try.sizeOf24 rfl rfl fun _ T => ?_
  refine r_ldB (ix := 1) T S rfl Try.isAgg24 rfl rfl rfl fun _ T => ?_
  refine r_fa (o' := 0) T rfl Try.runUnderlying36 rfl Try.sizeOf24 rfl rfl fun _ T => ?_
  refine r_ldB (ix := 0) T S rfl Try.isAgg24 rfl rfl rfl fun _ T => ?_
  obtain ⟨x14, h13, H⟩ := bd H
  refine r_call T Try.call38 rfl rfl (codec_Compare.ok _ _ x1.Key x6.Key (S.sel (p := [sl .ro ku8 A2 k3 x1.Key, sl .ro ku8 A7 k8 x6.Key]) (is := [2, 3]) rfl) _ h13) ?_
  rintro _ _ ⟨rfl, S⟩
  refine ⟨_, rfl, fun _ T => ?_⟩
  replace S : SL ([sl .ro ku8 A2 k3 x1.Key, sl .ro ku8 A7 k8 x6.Key, blk b12 [.slice A7 x6.Key.length k8, .int .u64 x6.Seq, .bool x6.Del, .slice A9 x6.Value.length k10], blk b11 [.slice A2 x1.Key.length k3, .int .u64 x1.Seq, .bool x1.Del, .slice A4 x1.Value.length k5], sl .ro ku8 A4 k5 x1.Value, sl .ro ku8 A9 k10 x6.Value] ++ F) _ := S.join
  refine r_pv T rfl rfl fun _ T => ?_
  refine Gets.seq ?_
  refine rg ?_
  refine r_pv T rfl rfl fun _ T => ?_
  refine r_pv T rfl rfl fun _ T => ?_
  refine r_pv T rfl rfl fun _ T => ?_
  rcases ifE H with ⟨h15, H⟩ | ⟨h15, H⟩
  · refine g_no T rfl rfl h15 rfl fun _ T => ?_
    refine g_no T rfl rfl h15 rfl fun _ T => ?_
    refine g_no T rfl rfl h15 rfl fun _ T => ?_
    refine g_no T rfl rfl h15 rfl fun _ T => ?_
    refine g_no T rfl rfl h15 rfl fun _ T => ?_
    refine r_pickT T rfl h15 rfl rfl fun _ T => ?_
    refine cdT T rfl rfl ?_
    refine Gets.seq ?_
    exact J0_ok F r x1 A2 k3 A4 k5 x6 A7 k8 A9 k10 x14 _ _ (T.sub ⟨rfl, trivial⟩) (S.only (p := [sl .ro ku8 A2 k3 x1.Key, sl .ro ku8 A4 k5 x1.Value, sl .ro ku8 A7 k8 x6.Key, sl .ro ku8 A9 k10 x6.Value]) [0, 3, 0, 2] rfl) H
  · refine g_yes T rfl rfl h15 ?_
    refine r_fa (o' := 1) T rfl Try.runUnderlying36 rfl Try.sizeOf34 rfl rfl fun _ T => ?_
    refine g_yes T rfl rfl h15 ?_
    refine r_ldB (ix := 3) T S rfl Try.isAgg34 rfl rfl rfl fun _ T => ?_
    refine g_yes T rfl rfl h15 ?_
    refine r_fa (o' := 1) T rfl Try.runUnderlying36 rfl Try.sizeOf34 rfl rfl fun _ T => ?_
    refine g_yes T rfl rfl h15 ?_
    refine r_ldB (ix := 2) T S rfl Try.isAgg34 rfl rfl rfl fun _ T => ?_
    refine g_yes T rfl rfl h15 ?_
    refine r_pv T rfl rfl fun _ T => ?_
    refine r_pickF T rfl h15 rfl rfl fun _ T => ?_
    rcases ifE H with ⟨h16, H⟩ | ⟨h16, H⟩
    · refine cdT T rfl h16 ?_
      refine Gets.seq ?_
      exact J0_ok F r x1 A2 k3 A4 k5 x6 A7 k8 A9 k10 x14 _ _ (T.sub ⟨rfl, trivial⟩) (S.only (p := [sl .ro ku8 A2 k3 x1.Key, sl .ro ku8 A4 k5 x1.Value, sl .ro ku8 A7 k8 x6.Key, sl .ro ku8 A9 k10 x6.Value]) [0, 3, 0, 2] rfl) H
    · refine cdF T rfl h16 ?_
      refine Gets.skip (Gets.seq (Gets.seq ?_))
      refine rg ?_
      refine r_fa (o' := 1) T rfl Try.runUnderlying36 rfl Try.sizeOf34 rfl rfl fun _ T => ?_
      refine r_ldB (ix := 3) T S rfl Try.isAgg34 rfl rfl rfl fun _ T => ?_
      refine r_fa (o' := 1) T rfl Try.runUnderlying36 rfl Try.sizeOf34 rfl rfl fun _ T => ?_
      refine r_ldB (ix := 2) T S rfl Try.isAgg34 rfl rfl rfl fun _ T => ?_
      refine r_pv T rfl rfl fun _ T => ?_
      rcases ifE H with ⟨h17, H⟩ | ⟨h17, H⟩
      · refine cdT T rfl h17 ?_
        refine Gets.seq ?_
        refine rg ?_
        refine r_pv T rfl rfl fun _ T => ?_
        replace H := Option.some.inj H
        subst H
        exact rtn T Try.func26 rfl rfl ⟨rfl, (S.only (p := [sl .ro ku8 A2 k3 x1.Key, sl .ro ku8 A4 k5 x1.Value, sl .ro ku8 A7 k8 x6.Key, sl .ro ku8 A9 k10 x6.Value]) [0, 3, 0, 2] rfl)⟩
      · refine cdF T rfl h17 ?_
        refine Gets.skip (Gets.seq ?_)
        refine rg ?_
        refine r_pv T rfl rfl fun _ T => ?_
        replace H := Option.some.inj H
        subst H
        exact rtn T Try.func26 rfl rfl ⟨rfl, (S.only (p := [sl .ro ku8 A2 k3 x1.Key, sl .ro ku8 A4 k5 x1.Value, sl .ro ku8 A7 k8 x6.Key, sl .ro ku8 A9 k10 x6.Value]) [0, 3, 0, 2] rfl)⟩
end sstable_order
end Go.Proofs.Ytghpokmkhlmgcaa

namespace Go.Proofs.Ytghpokmkhlmgcaa
open Go Go.Proofs.Ytghpokmkhlmgcaa.X
set_option linter.unusedVariables false
set_option linter.unusedSimpArgs false
set_option maxRecDepth 100000
set_option maxHeartbeats 4000000
/-! ### cormorant.codec.Number: function 55 -/
namespace codec_Number
noncomputable def c0 : Code := match Try.f55.body with | some c => c | none => .skip
def R (F : List Atom) (r : (List Int)) : Ending → World → Prop := fun e w' => ∃ (A18 : Option Addr), ∃ (k19 : Nat), e = .returned (.slice A18 r.length k19) ∧ SL ([sl .own ku8 A18 k19 r] ++ F) w'
def L0 (z : Nat) : Nat → Int → (List Int) → Option (List Int)
  | 0, _, _ => none
  | m + 1, x2, x3 => If (decide (x2 > 127)) (Ck ((x3.length + [bOr .u8 (wr .u8 x2) 128].length) * 1 ≤ 140737488355328) (L0 z m (sShr .u64 x2 7) (x3 ++ [bOr .u8 (wr .u8 x2) 128]))) (Ck ((x3.length + [wr .u8 x2].length) * 1 ≤ 140737488355328) (Bd (slices_Clip_byte.f (x3 ++ [wr .u8 x2])) fun x12 => some x12))
def f (z : Nat) (x1 : Int) : Option (List Int) := L0 z z x1 []
noncomputable def ptL0 : List Item := [.code (cB (cB (cL (cR (cR c0))))), .inLoop (cB (cB (cL (cR (cR c0))))), .inBlock 0, .code (cR (cR (cR c0)))]
theorem L0_ok (F : List Atom) (r : (List Int)) (z : Nat) (x1 : Int) (m : Nat) : ∀ (x2 : Int) (A4 : Option Addr) (x3 : List Int) (k5 : Nat) (a : Act) (w : World), Tm 20 [(0, .int .u64 x2), (3, .slice A4 x3.length k5)] a → SL ([sl .own ku8 A4 k5 x3] ++ F) w → L0 z m x2 x3 = some r → Gets Try.prog 55 ptL0 a w (R F r) := by
  induction m with
  | zero => intro _ _ _ _ _ _ _ _ H; cases H
  | succ m ih =>
    intro x2 A4 x3 k5 a w T S H
    refine Gets.seq ?_
    refine Gets.seq ?_
    refine rg ?_
    refine r_pv T rfl rfl fun _ T => ?_
    refine r_pv T rfl rfl fun _ T => ?_
    rcases ifE H with ⟨h6, H⟩ | ⟨h6, H⟩
    · refine cdT T rfl h6 ?_
      refine Gets.skip (Gets.seq (Gets.block ?_))
      refine rg ?_
      refine r_pv T rfl rfl fun _ T => ?_
      refine r_pv T rfl rfl fun _ T => ?_
      refine r_conv T rfl Try.runUnderlying34 Try.runUnderlying5 rfl fun _ T => ?_
      refine r_pv T rfl rfl fun _ T => ?_
      replace S := SL.val (κ := ku8) (x := bOr .u8 (wr .u8 x2) 128) (cs := [.int .u8 (bOr .u8 (wr .u8 x2) 128)]) (fun _ => rfl) S
      refine r_bsl (κ := ku8) (xs := [bOr .u8 (wr .u8 x2) 128]) (vs := [.int .u8 (bOr .u8 (wr .u8 x2) 128)]) T S sty24 rfl ⟨_, _, rfl, ⟨0, rfl⟩, rfl⟩ rfl (by decide) rfl fun _ _ b14 S T => ?_
      replace S : SL ([sl .own ku8 (some ⟨b14, 0, none⟩) 1 [bOr .u8 (wr .u8 x2) 128], sl .own ku8 A4 k5 x3] ++ F) _ := S.only [0, 1] rfl
      obtain ⟨h17, H⟩ := ck H
      refine r_app (ix := 1) (iy := 0) (xs := x3) (ys := [bOr .u8 (wr .u8 x2) 128]) T S rfl rfl rfl rfl (by decide) sty24 Try.runUnderlying24 (by decide) h17 rfl fun _ _ A15 k16 S T => ?_
      replace S : SL ([sl .own ku8 (some ⟨b14, 0, none⟩) 1 [bOr .u8 (wr .u8 x2) 128], sl .own ku8 A15 k16 (x3 ++ [bOr .u8 (wr .u8 x2) 128])] ++ F) _ := S
      refine r_pv T rfl rfl fun _ T => ?_
      refine Gets.inBlock ?_
      refine rg ?_
      refine r_pv T rfl rfl fun _ T => ?_
      refine r_shr T rfl rfl (by decide) rfl fun _ T => ?_
      refine r_pv T rfl rfl fun _ T => ?_
      refine Gets.inLoop ?_
      exact ih (sShr .u64 x2 7) A15 (x3 ++ [bOr .u8 (wr .u8 x2) 128]) k16 _ _ (T.sub ⟨rfl, rfl, trivial⟩) (S.only (p := [sl .own ku8 A15 k16 (x3 ++ [bOr .u8 (wr .u8 x2) 128])]) [1] rfl) H
    · refine cdF T rfl h6 ?_
      refine Gets.exit rfl (Gets.seq ?_)
      refine rg ?_
      refine r_pv T rfl rfl fun _ T => ?_
      refine r_pv T rfl rfl fun _ T => ?_
      refine r_conv T rfl Try.runUnderlying34 Try.runUnderlying5 rfl fun _ T => ?_
      replace S := SL.val (κ := ku8) (x := wr .u8 x2) (cs := [.int .u8 (wr .u8 x2)]) (fun _ => rfl) S
      refine r_bsl (κ := ku8) (xs := [wr .u8 x2]) (vs := [.int .u8 (wr .u8 x2)]) T S sty24 rfl ⟨_, _, rfl, ⟨0, rfl⟩, rfl⟩ rfl (by decide) rfl fun _ _ b7 S T => ?_
      replace S : SL ([sl .own ku8 (some ⟨b7, 0, none⟩) 1 [wr .u8 x2], sl .own ku8 A4 k5 x3] ++ F) _ := S.only [0, 1] rfl
      obtain ⟨h10, H⟩ := ck H
      refine r_app (ix := 1) (iy := 0) (xs := x3) (ys := [wr .u8 x2]) T S rfl rfl rfl rfl (by decide) sty24 Try.runUnderlying24 (by decide) h10 rfl fun _ _ A8 k9 S T => ?_
      replace S : SL ([sl .own ku8 (some ⟨b7, 0, none⟩) 1 [wr .u8 x2], sl .own ku8 A8 k9 (x3 ++ [wr .u8 x2])] ++ F) _ := S
      obtain ⟨x12, h11, H⟩ := bd H
      refine r_call T Try.call31 rfl rfl (slices_Clip_byte.ok _ _ (x3 ++ [wr .u8 x2]) (S.sel (p := [sl .own ku8 A8 k9 (x3 ++ [wr .u8 x2])]) (is := [1]) rfl) _ h11) ?_
      rintro _ _ ⟨A13, rfl, S⟩
      refine ⟨_, rfl, fun _ T => ?_⟩
      replace S : SL ([sl .own ku8 A13 x12.length x12, sl .own ku8 (some ⟨b7, 0, none⟩) 1 [wr .u8 x2]] ++ F) _ := S.join
      refine r_pv T rfl rfl fun _ T => ?_
      replace H := Option.some.inj H
      subst H
      exact rtn T Try.func55 rfl rfl ⟨A13, x12.length, rfl, (S.only (p := [sl .own ku8 A13 x12.length x12]) [0] rfl)⟩
theorem ok (F : List Atom) (w : World) (z : Nat) (x1 : Int) (S : SL ([] ++ F) w) (r : (List Int)) (H : f z x1 = some r) : Calls Try.prog 55 #[.int .u64 x1] w (R F r) := by
  refine enter (vs := [.int .u64 x1]) Try.func55 rfl Try.ntmps55 (Nat.le_of_ble_eq_true rfl) fun a T => ?_
  refine Gets.seq ?_
  refine rg ?_
  refine r_pv T rfl rfl fun _ T => ?_
  refine Gets.seq ?_
  refine rg ?_
  refine r_pv T rfl rfl fun _ T => ?_
  refine Gets.seq (Gets.block ?_)
  refine Gets.loop ?_
  replace S := S.nil ku8 .own
  exact L0_ok F r z x1 z x1 none [] 0 _ _ (T.sub ⟨rfl, rfl, trivial⟩) (S.only (p := [sl .own ku8 none 0 []]) [0] rfl) H
end codec_Number
end Go.Proofs.Ytghpokmkhlmgcaa

namespace Go.Proofs.Ytghpokmkhlmgcaa
open Go Go.Proofs.Ytghpokmkhlmgcaa.X
set_option linter.unusedVariables false
set_option linter.unusedSimpArgs false
set_option maxRecDepth 100000
set_option maxHeartbeats 4000000
/-! ### cormorant.codec.Frame: function 81 -/
namespace codec_Frame
noncomputable def c0 : Code := match Try.f81.body with | some c => c | none => .skip
def R (F : List Atom) (x2 : List Int) (A3 : Option Addr) (k4 : Nat) (r : (List Int) × Int) : Ending → World → Prop := fun e w' => ∃ (A23 : Option Addr), ∃ (k24 : Nat), e = .returned (.tuple #[.slice A23 r.1.length k24, .int .i64 r.2]) ∧ SL ([sl .own ku8 A23 k24 r.1, sl .ro ku8 A3 k4 x2] ++ F) w'
def f (z : Nat) (x1 : Int) (x2 : List Int) : Option ((List Int) × Int) := If (decide ((x2.length : Int) > 2097152)) (some (([] : List Int), 12)) (Bd (codec_Number.f z (wr .u64 (x2.length : Int))) fun x8 => Ck (([x1].length + x8.length) * 1 ≤ 140737488355328) (Bd (codec_sums.f z ([x1] ++ x8) x2) fun x15 => Bd (slices_Concat_byte.f z [([x1] ++ x8), x15, x2]) fun x20 => some (x20, 0)))
theorem ok (F : List Atom) (w : World) (z : Nat) (x1 : Int) (x2 : List Int) {A3 : Option Addr} {k4 : Nat} (S : SL ([sl .ro ku8 A3 k4 x2] ++ F) w) (r : (List Int) × Int) (H : f z x1 x2 = some r) : Calls Try.prog 81 #[.int .u8 x1, .slice A3 x2.length k4] w (R F x2 A3 k4 r) := by
  refine enter (vs := [.int .u8 x1, .slice A3 x2.length k4]) Try.func81 rfl Try.ntmps81 (Nat.le_of_ble_eq_true rfl) fun a T => ?_
  refine Gets.seq ?_
  refine rg ?_
  refine r_pv T rfl rfl fun _ T => ?_
  refine r_pv T rfl rfl fun _ T => ?_
  refine Gets.seq (Gets.seq ?_)
  refine rg ?_
  refine r_pv T rfl rfl fun _ T => ?_
  refine r_lenS T rfl Try.runUnderlying24 rfl fun _ T => ?_
  refine r_pv T rfl rfl fun _ T => ?_
  rcases ifE H with ⟨h5, H⟩ | ⟨h5, H⟩
  · refine cdT T rfl h5 ?_
    refine Gets.seq ?_
    refine rg ?_
    refine r_pv T rfl rfl fun _ T => ?_
    refine r_pv T rfl rfl fun _ T => ?_
    replace S := S.nil ku8 .own
    replace H := Option.some.inj H
    subst H
    exact rtn T Try.func81 rfl rfl ⟨none, 0, rfl, (S.only (p := [sl .own ku8 none 0 ([] : List Int), sl .ro ku8 A3 k4 x2]) [0, 0] rfl)⟩
  · refine cdF T rfl h5 ?_
    refine Gets.skip (Gets.seq ?_)
    refine rg ?_
    refine r_pv T rfl rfl fun _ T => ?_
    replace S := SL.val (κ := ku8) (x := x1) (cs := [.int .u8 x1]) (fun _ => rfl) S
    refine r_bsl (κ := ku8) (xs := [x1]) (vs := [.int .u8 x1]) T S sty24 rfl ⟨_, _, rfl, ⟨0, rfl⟩, rfl⟩ rfl (by decide) rfl fun _ _ b6 S T => ?_
    replace S : SL ([sl .own ku8 (some ⟨b6, 0, none⟩) 1 [x1], sl .ro ku8 A3 k4 x2] ++ F) _ := S.only [0, 1] rfl
    refine r_pv T rfl rfl fun _ T => ?_
    refine r_lenS T rfl Try.runUnderlying24 rfl fun _ T => ?_
    refine r_conv T rfl Try.runUnderlying3 Try.runUnderlying34 rfl fun _ T => ?_
    obtain ⟨x8, h7, H⟩ := bd H
    refine r_call T Try.call55 rfl rfl (codec_Number.ok _ _ z (wr .u64 (x2.length : Int)) (S.sel (p := []) (is := []) rfl) _ h7) ?_
    rintro _ _ ⟨A9, k10, rfl, S⟩
    refine ⟨_, rfl, fun _ T => ?_⟩
    replace S : SL ([sl .own ku8 A9 k10 x8, sl .own ku8 (some ⟨b6, 0, none⟩) 1 [x1], sl .ro ku8 A3 k4 x2] ++ F) _ := S.join
    obtain ⟨h13, H⟩ := ck H
    refine r_app (ix := 1) (iy := 0) (xs := [x1]) (ys := x8) T S rfl rfl rfl rfl (by decide) sty24 Try.runUnderlying24 (by decide) h13 rfl fun _ _ A11 k12 S T => ?_
    replace S : SL ([sl .own ku8 A9 k10 x8, sl .own ku8 A11 k12 ([x1] ++ x8), sl .ro ku8 A3 k4 x2] ++ F) _ := S
    refine r_pv T rfl rfl fun _ T => ?_
    refine Gets.seq ?_
    refine rg ?_
    refine r_pv T rfl rfl fun _ T => ?_
    refine r_pv T rfl rfl fun _ T => ?_
    refine r_pv T rfl rfl fun _ T => ?_
    obtain ⟨x15, h14, H⟩ := bd H
    refine r_call T Try.call63 rfl rfl (codec_sums.ok _ _ z ([x1] ++ x8) x2 (S.sel (p := [sl .own ku8 A11 k12 ([x1] ++ x8), sl .ro ku8 A3 k4 x2]) (is := [1, 1]) rfl) _ h14) ?_
    rintro _ _ ⟨A16, k17, rfl, S⟩
    refine ⟨_, rfl, fun _ T => ?_⟩
    replace S : SL ([sl .own ku8 A16 k17 x15, sl .own ku8 A11 k12 ([x1] ++ x8), sl .ro ku8 A3 k4 x2, sl .own ku8 A9 k10 x8] ++ F) _ := S.join
    refine r_pv T rfl rfl fun _ T => ?_
    replace S : SL ([sl .own ku8 A16 k17 x15, sl .ro ku8 A11 k12 ([x1] ++ x8), sl .ro ku8 A3 k4 x2, sl .own ku8 A9 k10 x8] ++ F) _ := S.fixL (i := 1) rfl rfl
    replace S := S.asVal (i := 1) (xs := ([x1] ++ x8)) rfl
    replace S : SL ([rp (kSl ku8) ([x1] ++ x8) [.slice A11 (([x1] ++ x8).length) k12], sl .ro ku8 A16 k17 x15, sl .ro ku8 A11 k12 ([x1] ++ x8), sl .ro ku8 A3 k4 x2, sl .own ku8 A9 k10 x8] ++ F) _ := S.fixL (i := 1) rfl rfl
    replace S := S.asVal (i := 1) (xs := x15) rfl
    replace S := S.asVal (i := 4) (xs := x2) rfl
    refine r_bsl (κ := (kSl ku8)) (xs := [([x1] ++ x8), x15, x2]) (vs := [.slice A11 (([x1] ++ x8).length) k12, .slice A16 x15.length k17, .slice A3 x2.length k4]) T S sty62 rfl ⟨_, _, rfl, ⟨2, rfl⟩, ⟨_, _, rfl, ⟨1, rfl⟩, ⟨_, _, rfl, ⟨0, rfl⟩, rfl⟩⟩⟩ rfl (by decide) rfl fun _ _ b18 S T => ?_
    replace S : SL ([sl .own (kSl ku8) (some ⟨b18, 0, none⟩) 3 [([x1] ++ x8), x15, x2], sl .ro ku8 A16 k17 x15, sl .ro ku8 A11 k12 ([x1] ++ x8), sl .ro ku8 A3 k4 x2, sl .own ku8 A9 k10 x8] ++ F) _ := S.only [0, 3, 3, 3, 3] rfl
    obtain ⟨x20, h19, H⟩ := bd H
    refine r_call T Try.call58 rfl rfl (slices_Concat_byte.ok _ _ z [([x1] ++ x8), x15, x2] (S.sel (p := [sl .own (kSl ku8) (some ⟨b18, 0, none⟩) 3 [([x1] ++ x8), x15, x2]]) (is := [0]) rfl) _ h19) ?_
    rintro _ _ ⟨A21, k22, rfl, S⟩
    refine ⟨_, rfl, fun _ T => ?_⟩
    replace S : SL ([sl .own ku8 A21 k22 x20, sl .own (kSl ku8) (some ⟨b18, 0, none⟩) 3 [([x1] ++ x8), x15, x2], sl .ro ku8 A16 k17 x15, sl .ro ku8 A11 k12 ([x1] ++ x8), sl .ro ku8 A3 k4 x2, sl .own ku8 A9 k10 x8] ++ F) _ := S.join
    refine r_pv T rfl rfl fun _ T => ?_
    refine r_pv T rfl rfl fun _ T => ?_
    replace H := Option.some.inj H
    subst H
    exact rtn T Try.func81 rfl rfl ⟨A21, k22, rfl, (S.only (p := [sl .own ku8 A21 k22 x20, sl .ro ku8 A3 k4 x2]) [0, 3] rfl)⟩
end codec_Frame
end Go.Proofs.Ytghpokmkhlmgcaa

namespace Go.Proofs.Ytghpokmkhlmgcaa
open Go Go.Proofs.Ytghpokmkhlmgcaa.X
set_option linter.unusedVariables false
set_option linter.unusedSimpArgs false
set_option maxRecDepth 100000
set_option maxHeartbeats 4000000
/-! ### (*cormorant.sstable.builder).frame: function 54 -/
namespace sstable_builder_frame
noncomputable def c0 : Code := match Try.f54.body with | some c => c | none => .skip
def R (F : List Atom) (b2 : Nat) (x12 : List Int) (A13 : Option Addr) (k14 : Nat) (r : sstable_builder) : Ending → World → Prop := fun e w' => ∃ (A23 : Option Addr), ∃ (k24 : Nat), ∃ (A25 : Option Addr), ∃ (k26 : Nat), ∃ (A27 : Option Addr), ∃ (k28 : Nat), ∃ (A29 : Option Addr), ∃ (k30 : Nat), e = .returned (.tuple #[]) ∧ SL ([blk b2 [.slice A23 r.out.length k24, .slice A25 r.body.length k26, .slice A27 r.index.length k28, .int .i64 r.many, .int .i64 r.blocks, .slice A29 r.last.length k30], sl .own ku8 A23 k24 r.out, sl .ro ku8 A25 k26 r.body, sl .own ku8 A27 k28 r.index, sl .ro ku8 A29 k30 r.last, sl .ro ku8 A13 k14 x12] ++ F) w'
def f (z : Nat) (x1 : sstable_builder) (x11 : Int) (x12 : List Int) : Option sstable_builder := Bd (codec_Frame.f z x11 x12) fun x16 => Ck ((x1.out.length + x16.1.length) * 1 ≤ 140737488355328) (some (sstable_builder.mk (x1.out ++ x16.1) x1.body x1.index x1.many x1.blocks x1.last))
theorem ok (F : List Atom) (w : World) (z : Nat) (x1 : sstable_builder) (x11 : Int) (x12 : List Int) {b2 : Nat} {A3 : Option Addr} {k4 : Nat} {A5 : Option Addr} {k6 : Nat} {A7 : Option Addr} {k8 : Nat} {A9 : Option Addr} {k10 : Nat} {A13 : Option Addr} {k14 : Nat} (S : SL ([blk b2 [.slice A3 x1.out.length k4, .slice A5 x1.body.length k6, .slice A7 x1.index.length k8, .int .i64 x1.many, .int .i64 x1.blocks, .slice A9 x1.last.length k10], sl .own ku8 A3 k4 x1.out, sl .ro ku8 A5 k6 x1.body, sl .own ku8 A7 k8 x1.index, sl .ro ku8 A9 k10 x1.last, sl .ro ku8 A13 k14 x12] ++ F) w) (r : sstable_builder) (H : f z x1 x11 x12 = some r) : Calls Try.prog 54 #[.pointer (some ⟨b2, 0, none⟩), .int .u8 x11, .slice A13 x12.length k14] w (R F b2 x12 A13 k14 r) := by
  refine enter (vs := [.pointer (some ⟨b2, 0, none⟩), .int .u8 x11, .slice A13 x12.length k14]) Try.func54 rfl Try.ntmps54 (Nat.le_of_ble_eq_true rfl) fun a T => ?_
  refine Gets.seq ?_
  refine rg ?_
  refine r_pv T rfl rfl fun _ T => ?_
  refine r_pv T rfl rfl fun _ T => ?_
  obtain ⟨x16, h15, H⟩ := bd H
  refine r_call T Try.call81 rfl rfl (codec_Frame.ok _ _ z x11 x12 (S.sel (p := [sl .ro ku8 A13 k14 x12]) (is := [5]) rfl) _ h15) ?_
  rintro _ _ ⟨A17, k18, rfl, S⟩
  refine ⟨_, rfl, fun _ T => ?_⟩
  replace S : SL ([sl .own ku8 A17 k18 x16.1, sl .ro ku8 A13 k14 x12, blk b2 [.slice A3 x1.out.length k4, .slice A5 x1.body.length k6, .slice A7 x1.index.length k8, .int .i64 x1.many, .int .i64 x1.blocks, .slice A9 x1.last.length k10], sl .own ku8 A3 k4 x1.out, sl .ro ku8 A5 k6 x1.body, sl .own ku8 A7 k8 x1.index, sl .ro ku8 A9 k10 x1.last] ++ F) _ := S.join
  refine r_pv T rfl rfl fun _ T => ?_
  refine r_pv T rfl rfl fun _ T => ?_
  refine r_pv T rfl rfl fun _ T => ?_
  refine r_pv T rfl rfl fun _ T => ?_
  refine r_pv T rfl rfl fun _ T => ?_
  refine rg ?_
  refine r_pv T rfl rfl fun _ T => ?_
  refine r_pv T rfl rfl fun _ T => ?_
  refine r_pv T rfl rfl fun _ T => ?_
  refine r_fa (o' := 0) T rfl Try.runUnderlying61 rfl Try.sizeOf24 rfl rfl fun _ T => ?_
  refine r_ldB (ix := 2) T S rfl Try.isAgg24 rfl rfl rfl fun _ T => ?_
  refine r_pv T rfl rfl fun _ T => ?_
  obtain ⟨h21, H⟩ := ck H
  refine r_app (ix := 3) (iy := 0) (xs := x1.out) (ys := x16.1) T S rfl rfl rfl rfl (by decide) sty24 Try.runUnderlying24 (by decide) h21 rfl fun _ _ A19 k20 S T => ?_
  replace S : SL ([sl .own ku8 A17 k18 x16.1, sl .ro ku8 A13 k14 x12, blk b2 [.slice A3 x1.out.length k4, .slice A5 x1.body.length k6, .slice A7 x1.index.length k8, .int .i64 x1.many, .int .i64 x1.blocks, .slice A9 x1.last.length k10], sl .own ku8 A19 k20 (x1.out ++ x16.1), sl .ro ku8 A5 k6 x1.body, sl .own ku8 A7 k8 x1.index, sl .ro ku8 A9 k10 x1.last] ++ F) _ := S
  refine r_pv T rfl rfl fun _ T => ?_
  refine r_fa (o' := 0) T rfl Try.runUnderlying61 rfl Try.sizeOf24 rfl rfl fun _ T => ?_
  refine r_stB (ix := 2) (l' := [sl .own ku8 A17 k18 x16.1, sl .ro ku8 A13 k14 x12, blk b2 [.slice A19 ((x1.out ++ x16.1).length) k20, .slice A5 x1.body.length k6, .slice A7 x1.index.length k8, .int .i64 x1.many, .int .i64 x1.blocks, .slice A9 x1.last.length k10], sl .own ku8 A19 k20 (x1.out ++ x16.1), sl .ro ku8 A5 k6 x1.body, sl .own ku8 A7 k8 x1.index, sl .ro ku8 A9 k10 x1.last]) T S rfl rfl rfl Try.sizeOf24 rfl (Nat.le_of_ble_eq_true rfl) rfl fun _ S => ?_
  replace H := Option.some.inj H
  subst H
  exact rtf T Try.func54 rfl rfl ⟨A19, k20, A5, k6, A7, k8, A9, k10, rfl, (S.only (p := [blk b2 [.slice A19 ((x1.out ++ x16.1).length) k20, .slice A5 x1.body.length k6, .slice A7 x1.index.length k8, .int .i64 x1.many, .int .i64 x1.blocks, .slice A9 x1.last.length k10], sl .own ku8 A19 k20 (x1.out ++ x16.1), sl .ro ku8 A5 k6 x1.body, sl .own ku8 A7 k8 x1.index, sl .ro ku8 A9 k10 x1.last, sl .ro ku8 A13 k14 x12]) [2, 2, 2, 2, 2, 1] rfl)⟩
end sstable_builder_frame
end Go.Proofs.Ytghpokmkhlmgcaa

namespace Go.Proofs.Ytghpokmkhlmgcaa
open Go Go.Proofs.Ytghpokmkhlmgcaa.X
set_option linter.unusedVariables false
set_option linter.unusedSimpArgs false
set_option maxRecDepth 100000
set_option maxHeartbeats 4000000
/-! ### cormorant.codec.Text: function 56 -/
namespace codec_Text
noncomputable def c0 : Code := match Try.f56.body with | some c => c | none => .skip
def R (F : List Atom) (x1 : List Int) (A2 : Option Addr) (k3 : Nat) (r : (List Int) × Int) : Ending → World → Prop := fun e w' => ∃ (A14 : Option Addr), ∃ (k15 : Nat), e = .returned (.tuple #[.slice A14 r.1.length k15, .int .i64 r.2]) ∧ SL ([sl .own ku8 A14 k15 r.1, sl .ro ku8 A2 k3 x1] ++ F) w'
def f (z : Nat) (x1 : List Int) : Option ((List Int) × Int) := If (decide ((x1.length : Int) > 2097152)) (some (([] : List Int), 12)) (Bd (codec_Number.f z (wr .u64 (x1.length : Int))) fun x6 => Bd (slices_Concat_byte.f z [x6, x1]) fun x11 => some (x11, 0))
theorem ok (F : List Atom) (w : World) (z : Nat) (x1 : List Int) {A2 : Option Addr} {k3 : Nat} (S : SL ([sl .ro ku8 A2 k3 x1] ++ F) w) (r : (List Int) × Int) (H : f z x1 = some r) : Calls Try.prog 56 #[.slice A2 x1.length k3] w (R F x1 A2 k3 r) := by
  refine enter (vs := [.slice A2 x1.length k3]) Try.func56 rfl Try.ntmps56 (Nat.le_of_ble_eq_true rfl) fun a T => ?_
  refine Gets.seq ?_
  refine rg ?_
  refine r_pv T rfl rfl fun _ T => ?_
  refine r_pv T rfl rfl fun _ T => ?_
  refine Gets.seq (Gets.seq ?_)
  refine rg ?_
  refine r_pv T rfl rfl fun _ T => ?_
  refine r_lenS T rfl Try.runUnderlying24 rfl fun _ T => ?_
  refine r_pv T rfl rfl fun _ T => ?_
  rcases ifE H with ⟨h4, H⟩ | ⟨h4, H⟩
  · refine cdT T rfl h4 ?_
    refine Gets.seq ?_
    refine rg ?_
    refine r_pv T rfl rfl fun _ T => ?_
    refine r_pv T rfl rfl fun _ T => ?_
    replace S := S.nil ku8 .own
    replace H := Option.some.inj H
    subst H
    exact rtn T Try.func56 rfl rfl ⟨none, 0, rfl, (S.only (p := [sl .own ku8 none 0 ([] : List Int), sl .ro ku8 A2 k3 x1]) [0, 0] rfl)⟩
  · refine cdF T rfl h4 ?_
    refine Gets.skip (Gets.seq ?_)
    refine rg ?_
    refine r_pv T rfl rfl fun _ T => ?_
    refine r_lenS T rfl Try.runUnderlying24 rfl fun _ T => ?_
    refine r_conv T rfl Try.runUnderlying3 Try.runUnderlying34 rfl fun _ T => ?_
    obtain ⟨x6, h5, H⟩ := bd H
    refine r_call T Try.call55 rfl rfl (codec_Number.ok _ _ z (wr .u64 (x1.length : Int)) (S.sel (p := []) (is := []) rfl) _ h5) ?_
    rintro _ _ ⟨A7, k8, rfl, S⟩
    refine ⟨_, rfl, fun _ T => ?_⟩
    replace S : SL ([sl .own ku8 A7 k8 x6, sl .ro ku8 A2 k3 x1] ++ F) _ := S.join
    refine r_pv T rfl rfl fun _ T => ?_
    replace S : SL ([sl .ro ku8 A7 k8 x6, sl .ro ku8 A2 k3 x1] ++ F) _ := S.fixL (i := 0) rfl rfl
    replace S := S.asVal (i := 0) (xs := x6) rfl
    replace S := S.asVal (i := 2) (xs := x1) rfl
    refine r_bsl (κ := (kSl ku8)) (xs := [x6, x1]) (vs := [.slice A7 x6.length k8, .slice A2 x1.length k3]) T S sty62 rfl ⟨_, _, rfl, ⟨1, rfl⟩, ⟨_, _, rfl, ⟨0, rfl⟩, rfl⟩⟩ rfl (by decide) rfl fun _ _ b9 S T => ?_
    replace S : SL ([sl .own (kSl ku8) (some ⟨b9, 0, none⟩) 2 [x6, x1], sl .ro ku8 A7 k8 x6, sl .ro ku8 A2 k3 x1] ++ F) _ := S.only [0, 2, 2] rfl
    obtain ⟨x11, h10, H⟩ := bd H
    refine r_call T Try.call58 rfl rfl (slices_Concat_byte.ok _ _ z [x6, x1] (S.sel (p := [sl .own (kSl ku8) (some ⟨b9, 0, none⟩) 2 [x6, x1]]) (is := [0]) rfl) _ h10) ?_
    rintro _ _ ⟨A12, k13, rfl, S⟩
    refine ⟨_, rfl, fun _ T => ?_⟩
    replace S : SL ([sl .own ku8 A12 k13 x11, sl .own (kSl ku8) (some ⟨b9, 0, none⟩) 2 [x6, x1], sl .ro ku8 A7 k8 x6, sl .ro ku8 A2 k3 x1] ++ F) _ := S.join
    refine r_pv T rfl rfl fun _ T => ?_
    refine r_pv T rfl rfl fun _ T => ?_
    replace H := Option.some.inj H
    subst H
    exact rtn T Try.func56 rfl rfl ⟨A12, k13, rfl, (S.only (p := [sl .own ku8 A12 k13 x11, sl .ro ku8 A2 k3 x1]) [0, 2] rfl)⟩
end codec_Text
end Go.Proofs.Ytghpokmkhlmgcaa

namespace Go.Proofs.Ytghpokmkhlmgcaa
open Go Go.Proofs.Ytghpokmkhlmgcaa.X
set_option linter.unusedVariables false
set_option linter.unusedSimpArgs false
set_option maxRecDepth 100000
set_option maxHeartbeats 4000000
/-! ### (*cormorant.sstable.builder).close: function 29 -/
namespace sstable_builder_close
noncomputable def c0 : Code := match Try.f29.body with | some c => c | none => .skip
def R (F : List Atom) (b2 : Nat) (r : sstable_builder) : Ending → World → Prop := fun e w' => ∃ (A44 : Option Addr), ∃ (k45 : Nat), ∃ (A46 : Option Addr), ∃ (k47 : Nat), ∃ (A48 : Option Addr), ∃ (k49 : Nat), ∃ (A50 : Option Addr), ∃ (k51 : Nat), e = .returned (.tuple #[]) ∧ SL ([blk b2 [.slice A44 r.out.length k45, .slice A46 r.body.length k47, .slice A48 r.index.length k49, .int .i64 r.many, .int .i64 r.blocks, .slice A50 r.last.length k51], sl .own ku8 A44 k45 r.out, sl .ro ku8 A46 k47 r.body, sl .own ku8 A48 k49 r.index, sl .ro ku8 A50 k51 r.last] ++ F) w'
def L0 (z : Nat) (x1 : sstable_builder) (x12 : sstable_builder) : Nat → Int → (List Int) → Option sstable_builder
  | 0, _, _ => none
  | m + 1, x26, x23 => If (decide (x26 < (3 : Int))) (Ck (0 ≤ x26 ∧ x26 < ([(x1.out.length : Int), wr .i64 ((x12.out.length : Int) - (x1.out.length : Int)), x12.many].length : Int)) (Bd (codec_Number.f z (wr .u64 (gi (0 : Int) [(x1.out.length : Int), wr .i64 ((x12.out.length : Int) - (x1.out.length : Int)), x12.many] x26))) fun x37 => Ck ((x23.length + x37.length) * 1 ≤ 140737488355328) (L0 z x1 x12 m (wr .i64 (x26 + 1)) (x23 ++ x37)))) (Bd (codec_Text.f z x12.last) fun x29 => Ck ((x23.length + x29.1.length) * 1 ≤ 140737488355328) (some (sstable_builder.mk x12.out ([] : List Int) (x23 ++ x29.1) 0 (wr .i64 (x12.blocks + 1)) x12.last)))
def f (z : Nat) (x1 : sstable_builder) : Option sstable_builder := Bd (sstable_builder_frame.f z x1 68 x1.body) fun x12 => L0 z x1 x12 z 0 x12.index
noncomputable def ptL0 : List Item := [.code (cB (cB (cR (cL (cR (cR c0)))))), .inLoop (cB (cB (cR (cL (cR (cR c0)))))), .inBlock 0, .code (cR (cR (cR c0)))]
theorem L0_ok (F : List Atom) (r : sstable_builder) (z : Nat) (b2 : Nat) (b22 : Nat) (A14 : Option Addr) (x12 : sstable_builder) (k15 : Nat) (A16 : Option Addr) (k17 : Nat) (A20 : Option Addr) (k21 : Nat) (x1 : sstable_builder) (m : Nat) : ∀ (x26 : Int) (A24 : Option Addr) (x23 : List Int) (k25 : Nat) (a : Act) (w : World), Tm 78 [(0, .pointer (some ⟨b2, 0, none⟩)), (30, .slice (some ⟨b22, 0, none⟩) 3 3), (31, .int .i64 (3 : Int)), (32, .int .i64 x26)] a → SL ([blk b2 [.slice A14 x12.out.length k15, .slice A16 x12.body.length k17, .slice A24 x23.length k25, .int .i64 x12.many, .int .i64 x12.blocks, .slice A20 x12.last.length k21], sl .own ku8 A14 k15 x12.out, sl .ro ku8 A16 k17 x12.body, sl .own ku8 A24 k25 x23, sl .ro ku8 A20 k21 x12.last, sl .own ki64 (some ⟨b22, 0, none⟩) 3 [(x1.out.length : Int), wr .i64 ((x12.out.length : Int) - (x1.out.length : Int)), x12.many]] ++ F) w → L0 z x1 x12 m x26 x23 = some r → Gets Try.prog 29 ptL0 a w (R F b2 r) := by
  induction m with
  | zero => intro _ _ _ _ _ _ _ _ H; cases H
  | succ m ih =>
    intro x26 A24 x23 k25 a w T S H
    refine Gets.seq ?_
    refine rg ?_
    refine r_pv T rfl rfl fun _ T => ?_
    refine Gets.seq ?_
    rcases ifE H with ⟨h27, H⟩ | ⟨h27, H⟩
    · refine cdT T rfl h27 ?_
      refine Gets.skip (Gets.seq (Gets.block (Gets.seq ?_)))
      refine rg ?_
      obtain ⟨h35, H⟩ := ck H
      refine r_ia (ix := 5) T S rfl rfl rfl (by simp) Try.runUnderlying48 Try.sizeOf3 h35.1 h35.2 rfl fun _ T => ?_
      refine r_ldE (ix := 5) (i := x26) (off := 0) (f := (Value.int .i64)) T S rfl Try.isAgg3 rfl (0 : Int) _ rfl rfl (Fld.all _) h35.1 h35.2 (fun h => h) rfl fun _ T => ?_
      refine r_pv T rfl rfl fun _ T => ?_
      refine Gets.drawn (l := [blk b2 [.slice A14 x12.out.length k15, .slice A16 x12.body.length k17, .slice A24 x23.length k25, .int .i64 x12.many, .int .i64 x12.blocks, .slice A20 x12.last.length k21], sl .own ku8 A14 k15 x12.out, sl .ro ku8 A16 k17 x12.body, sl .own ku8 A24 k25 x23, sl .ro ku8 A20 k21 x12.last, sl .own ki64 (some ⟨b22, 0, none⟩) 3 [(x1.out.length : Int), wr .i64 ((x12.out.length : Int) - (x1.out.length : Int)), x12.many]]) (V := [some (.pointer (some ⟨b2, 0, none⟩), true), some (.pointer (some ⟨b2, 0, none⟩), true), some (.pointer (some ⟨b2, 0, none⟩), true), some (.pointer (some ⟨b2, 2, none⟩), true), some (.slice A24 x23.length k25, true), some (.int .i64 (gi (0 : Int) [(x1.out.length : Int), wr .i64 ((x12.out.length : Int) - (x1.out.length : Int)), x12.many] x26), true), some (.int .u64 (wr .u64 (gi (0 : Int) [(x1.out.length : Int), wr .i64 ((x12.out.length : Int) - (x1.out.length : Int)), x12.many] x26)), true), none, none, none, none, none]) mixed T S rfl ?_
      refine stage (some 7) rfl rfl ⟨⟨_, [(0, .pointer (some ⟨b2, 0, none⟩))], rfl, ⟨.inr ⟨rfl, rfl⟩, trivial⟩, fun u a w T S => (by refine r_pv T rfl rfl fun _ T => ?_; exact ⟨rfl, T⟩)⟩, ⟨_, [(0, .pointer (some ⟨b2, 0, none⟩))], rfl, ⟨.inr ⟨rfl, rfl⟩, trivial⟩, fun u a w T S => (by refine r_pv T rfl rfl fun _ T => ?_; exact ⟨rfl, T⟩)⟩, ⟨_, [(37, .pointer (some ⟨b2, 0, none⟩))], rfl, ⟨.inl ⟨1, rfl, rfl, rfl, rfl⟩, trivial⟩, fun u a w T S => (by refine r_pv T rfl rfl fun _ T => ?_; exact ⟨rfl, T⟩)⟩, ⟨_, [(38, .pointer (some ⟨b2, 0, none⟩))], rfl, ⟨.inl ⟨2, rfl, rfl, rfl, rfl⟩, trivial⟩, fun u a w T S => (by refine r_fa (o' := 2) T rfl Try.runUnderlying61 rfl Try.sizeOf24 rfl rfl fun _ T => ?_; exact ⟨rfl, T⟩)⟩, ⟨_, [(39, .pointer (some ⟨b2, 2, none⟩))], rfl, ⟨.inl ⟨3, rfl, rfl, rfl, rfl⟩, trivial⟩, fun u a w T S => (by refine r_ldB (ix := 0) T S rfl Try.isAgg24 rfl rfl rfl fun _ T => ?_; exact ⟨rfl, T⟩)⟩, ⟨_, [(4, .int .i64 (gi (0 : Int) [(x1.out.length : Int), wr .i64 ((x12.out.length : Int) - (x1.out.length : Int)), x12.many] x26))], rfl, ⟨.inr ⟨rfl, rfl⟩, trivial⟩, fun u a w T S => (by refine r_pv T rfl rfl fun _ T => ?_; exact ⟨rfl, T⟩)⟩, ⟨_, [(41, .int .i64 (gi (0 : Int) [(x1.out.length : Int), wr .i64 ((x12.out.length : Int) - (x1.out.length : Int)), x12.many] x26))], rfl, ⟨.inl ⟨5, rfl, rfl, rfl, rfl⟩, trivial⟩, fun u a w T S => (by refine r_conv T rfl Try.runUnderlying3 Try.runUnderlying34 rfl fun _ T => ?_; exact ⟨rfl, T⟩)⟩, trivial⟩ rfl (fun i hi => ?_) (fun h => by cases h)
      cases hi
      refine ⟨rfl, _, [(42, .int .u64 (wr .u64 (gi (0 : Int) [(x1.out.length : Int), wr .i64 ((x12.out.length : Int) - (x1.out.length : Int)), x12.many] x26)))], rfl, ⟨.inl ⟨6, rfl, rfl, rfl, rfl⟩, trivial⟩, fun u a w T S => ?_⟩
      obtain ⟨x37, h36, H⟩ := bd H
      refine r_call T Try.call55 rfl rfl (codec_Number.ok _ _ z (wr .u64 (gi (0 : Int) [(x1.out.length : Int), wr .i64 ((x12.out.length : Int) - (x1.out.length : Int)), x12.many] x26)) (S.sel (p := []) (is := []) rfl) _ h36) ?_
      rintro _ _ ⟨A38, k39, rfl, S⟩
      refine ⟨_, rfl, fun _ T => ?_⟩
      replace S : SL ([sl .own ku8 A38 k39 x37, blk b2 [.slice A14 x12.out.length k15, .slice A16 x12.body.length k17, .slice A24 x23.length k25, .int .i64 x12.many, .int .i64 x12.blocks, .slice A20 x12.last.length k21], sl .own ku8 A14 k15 x12.out, sl .ro ku8 A16 k17 x12.body, sl .own ku8 A24 k25 x23, sl .ro ku8 A20 k21 x12.last, sl .own ki64 (some ⟨b22, 0, none⟩) 3 [(x1.out.length : Int), wr .i64 ((x12.out.length : Int) - (x1.out.length : Int)), x12.many]] ++ F) _ := S.join
      refine ⟨_, [some (.pointer (some ⟨b2, 0, none⟩), true), some (.pointer (some ⟨b2, 0, none⟩), true), some (.pointer (some ⟨b2, 0, none⟩), true), some (.pointer (some ⟨b2, 2, none⟩), true), some (.slice A24 x23.length k25, true), some (.int .i64 (gi (0 : Int) [(x1.out.length : Int), wr .i64 ((x12.out.length : Int) - (x1.out.length : Int)), x12.many] x26), true), some (.int .u64 (wr .u64 (gi (0 : Int) [(x1.out.length : Int), wr .i64 ((x12.out.length : Int) - (x1.out.length : Int)), x12.many] x26)), false), some (.slice A38 x37.length k39, false), none, none, none, none], [sl .own ku8 A38 k39 x37, blk b2 [.slice A14 x12.out.length k15, .slice A16 x12.body.length k17, .slice A24 x23.length k25, .int .i64 x12.many, .int .i64 x12.blocks, .slice A20 x12.last.length k21], sl .own ku8 A14 k15 x12.out, sl .ro ku8 A16 k17 x12.body, sl .own ku8 A24 k25 x23, sl .ro ku8 A20 k21 x12.last, sl .own ki64 (some ⟨b22, 0, none⟩) 3 [(x1.out.length : Int), wr .i64 ((x12.out.length : Int) - (x1.out.length : Int)), x12.many]], rfl, ⟨.inr ⟨_, _, _, rfl, rfl⟩, .inr ⟨_, _, _, rfl, rfl⟩, .inr ⟨_, _, _, rfl, rfl⟩, .inr ⟨_, _, _, rfl, rfl⟩, .inr ⟨_, _, _, rfl, rfl⟩, .inr ⟨_, _, _, rfl, rfl⟩, .inr ⟨_, _, _, rfl, rfl⟩, .inl rfl, .inl rfl, .inl rfl, .inl rfl, .inl rfl, trivial⟩, rfl, ?_, T, S⟩
      refine stage (some 8) rfl rfl ⟨⟨_, [(0, .pointer (some ⟨b2, 0, none⟩))], rfl, ⟨.inr ⟨rfl, rfl⟩, trivial⟩, fun u a w T S => (by refine r_pv T rfl rfl fun _ T => ?_; exact ⟨rfl, T⟩)⟩, ⟨_, [(0, .pointer (some ⟨b2, 0, none⟩))], rfl, ⟨.inr ⟨rfl, rfl⟩, trivial⟩, fun u a w T S => (by refine r_pv T rfl rfl fun _ T => ?_; exact ⟨rfl, T⟩)⟩, ⟨_, [(37, .pointer (some ⟨b2, 0, none⟩))], rfl, ⟨.inl ⟨1, rfl, rfl, rfl, rfl⟩, trivial⟩, fun u a w T S => (by refine r_pv T rfl rfl fun _ T => ?_; exact ⟨rfl, T⟩)⟩, ⟨_, [(38, .pointer (some ⟨b2, 0, none⟩))], rfl, ⟨.inl ⟨2, rfl, rfl, rfl, rfl⟩, trivial⟩, fun u a w T S => (by refine r_fa (o' := 2) T rfl Try.runUnderlying61 rfl Try.sizeOf24 rfl rfl fun _ T => ?_; exact ⟨rfl, T⟩)⟩, ⟨_, [(39, .pointer (some ⟨b2, 2, none⟩))], rfl, ⟨.inl ⟨3, rfl, rfl, rfl, rfl⟩, trivial⟩, fun u a w T S => (by refine r_ldB (ix := 1) T S rfl Try.isAgg24 rfl rfl rfl fun _ T => ?_; exact ⟨rfl, T⟩)⟩, ⟨_, [(4, .int .i64 (gi (0 : Int) [(x1.out.length : Int), wr .i64 ((x12.out.length : Int) - (x1.out.length : Int)), x12.many] x26))], rfl, ⟨.inr ⟨rfl, rfl⟩, trivial⟩, fun u a w T S => (by refine r_pv T rfl rfl fun _ T => ?_; exact ⟨rfl, T⟩)⟩, trivial⟩ rfl (fun i hi => ?_) (fun h => by cases h)
      cases hi
      refine ⟨rfl, _, [(40, .slice A24 x23.length k25), (43, .slice A38 x37.length k39)], rfl, ⟨.inl ⟨4, rfl, rfl, rfl, rfl⟩, .inl ⟨7, rfl, rfl, rfl, rfl⟩, trivial⟩, fun u a w T S => ?_⟩
      obtain ⟨h42, H⟩ := ck H
      refine r_app (ix := 4) (iy := 0) (xs := x23) (ys := x37) T S rfl rfl rfl rfl (by decide) sty24 Try.runUnderlying24 (by decide) h42 rfl fun _ _ A40 k41 S T => ?_
      replace S : SL ([sl .own ku8 A38 k39 x37, blk b2 [.slice A14 x12.out.length k15, .slice A16 x12.body.length k17, .slice A24 x23.length k25, .int .i64 x12.many, .int .i64 x12.blocks, .slice A20 x12.last.length k21], sl .own ku8 A14 k15 x12.out, sl .ro ku8 A16 k17 x12.body, sl .own ku8 A40 k41 (x23 ++ x37), sl .ro ku8 A20 k21 x12.last, sl .own ki64 (some ⟨b22, 0, none⟩) 3 [(x1.out.length : Int), wr .i64 ((x12.out.length : Int) - (x1.out.length : Int)), x12.many]] ++ F) _ := S
      refine ⟨_, [some (.pointer (some ⟨b2, 0, none⟩), true), some (.pointer (some ⟨b2, 0, none⟩), true), some (.pointer (some ⟨b2, 0, none⟩), true), some (.pointer (some ⟨b2, 2, none⟩), true), some (.slice A24 x23.length k25, false), some (.int .i64 (gi (0 : Int) [(x1.out.length : Int), wr .i64 ((x12.out.length : Int) - (x1.out.length : Int)), x12.many] x26), true), some (.int .u64 (wr .u64 (gi (0 : Int) [(x1.out.length : Int), wr .i64 ((x12.out.length : Int) - (x1.out.length : Int)), x12.many] x26)), false), some (.slice A38 x37.length k39, false), some (.slice A40 ((x23 ++ x37).length) k41, false), some (.pointer (some ⟨b2, 0, none⟩), true), some (.pointer (some ⟨b2, 2, none⟩), true), none], [sl .own ku8 A38 k39 x37, blk b2 [.slice A14 x12.out.length k15, .slice A16 x12.body.length k17, .slice A24 x23.length k25, .int .i64 x12.many, .int .i64 x12.blocks, .slice A20 x12.last.length k21], sl .own ku8 A14 k15 x12.out, sl .ro ku8 A16 k17 x12.body, sl .own ku8 A40 k41 (x23 ++ x37), sl .ro ku8 A20 k21 x12.last, sl .own ki64 (some ⟨b22, 0, none⟩) 3 [(x1.out.length : Int), wr .i64 ((x12.out.length : Int) - (x1.out.length : Int)), x12.many]], rfl, ⟨.inr ⟨_, _, _, rfl, rfl⟩, .inr ⟨_, _, _, rfl, rfl⟩, .inr ⟨_, _, _, rfl, rfl⟩, .inr ⟨_, _, _, rfl, rfl⟩, .inr ⟨_, _, _, rfl, rfl⟩, .inr ⟨_, _, _, rfl, rfl⟩, .inr ⟨_, _, _, rfl, rfl⟩, .inr ⟨_, _, _, rfl, rfl⟩, .inl rfl, .inl rfl, .inl rfl, .inl rfl, trivial⟩, rfl, ?_, T, S⟩
      refine stage (some 11) rfl rfl ⟨⟨_, [(0, .pointer (some ⟨b2, 0, none⟩))], rfl, ⟨.inr ⟨rfl, rfl⟩, trivial⟩, fun u a w T S => (by refine r_pv T rfl rfl fun _ T => ?_; exact ⟨rfl, T⟩)⟩, ⟨_, [(0, .pointer (some ⟨b2, 0, none⟩))], rfl, ⟨.inr ⟨rfl, rfl⟩, trivial⟩, fun u a w T S => (by refine r_pv T rfl rfl fun _ T => ?_; exact ⟨rfl, T⟩)⟩, ⟨_, [(37, .pointer (some ⟨b2, 0, none⟩))], rfl, ⟨.inl ⟨1, rfl, rfl, rfl, rfl⟩, trivial⟩, fun u a w T S => (by refine r_pv T rfl rfl fun _ T => ?_; exact ⟨rfl, T⟩)⟩, ⟨_, [(38, .pointer (some ⟨b2, 0, none⟩))], rfl, ⟨.inl ⟨2, rfl, rfl, rfl, rfl⟩, trivial⟩, fun u a w T S => (by refine r_fa (o' := 2) T rfl Try.runUnderlying61 rfl Try.sizeOf24 rfl rfl fun _ T => ?_; exact ⟨rfl, T⟩)⟩, ⟨_, [(4, .int .i64 (gi (0 : Int) [(x1.out.length : Int), wr .i64 ((x12.out.length : Int) - (x1.out.length : Int)), x12.many] x26))], rfl, ⟨.inr ⟨rfl, rfl⟩, trivial⟩, fun u a w T S => (by refine r_pv T rfl rfl fun _ T => ?_; exact ⟨rfl, T⟩)⟩, ⟨_, [(36, .pointer (some ⟨b2, 0, none⟩))], rfl, ⟨.inl ⟨0, rfl, rfl, rfl, rfl⟩, trivial⟩, fun u a w T S => (by refine r_pv T rfl rfl fun _ T => ?_; exact ⟨rfl, T⟩)⟩, ⟨_, [(45, .pointer (some ⟨b2, 0, none⟩))], rfl, ⟨.inl ⟨9, rfl, rfl, rfl, rfl⟩, trivial⟩, fun u a w T S => (by refine r_fa (o' := 2) T rfl Try.runUnderlying61 rfl Try.sizeOf24 rfl rfl fun _ T => ?_; exact ⟨rfl, T⟩)⟩, trivial⟩ rfl (fun i hi => ?_) (fun h => by cases h)
      cases hi
      refine ⟨rfl, _, [(44, .slice A40 ((x23 ++ x37).length) k41), (46, .pointer (some ⟨b2, 2, none⟩))], rfl, ⟨.inl ⟨8, rfl, rfl, rfl, rfl⟩, .inl ⟨10, rfl, rfl, rfl, rfl⟩, trivial⟩, fun u a w T S => ?_⟩
      refine r_stB (ix := 1) (l' := [sl .own ku8 A38 k39 x37, blk b2 [.slice A14 x12.out.length k15, .slice A16 x12.body.length k17, .slice A40 ((x23 ++ x37).length) k41, .int .i64 x12.many, .int .i64 x12.blocks, .slice A20 x12.last.length k21], sl .own ku8 A14 k15 x12.out, sl .ro ku8 A16 k17 x12.body, sl .own ku8 A40 k41 (x23 ++ x37), sl .ro ku8 A20 k21 x12.last, sl .own ki64 (some ⟨b22, 0, none⟩) 3 [(x1.out.length : Int), wr .i64 ((x12.out.length : Int) - (x1.out.length : Int)), x12.many]]) T S rfl rfl rfl Try.sizeOf24 rfl (Nat.le_of_ble_eq_true rfl) rfl fun _ S => ?_
      refine ⟨_, [some (.pointer (some ⟨b2, 0, none⟩), false), some (.pointer (some ⟨b2, 0, none⟩), false), some (.pointer (some ⟨b2, 0, none⟩), false), some (.pointer (some ⟨b2, 2, none⟩), false), some (.slice A24 x23.length k25, false), some (.int .i64 (gi (0 : Int) [(x1.out.length : Int), wr .i64 ((x12.out.length : Int) - (x1.out.length : Int)), x12.many] x26), false), some (.int .u64 (wr .u64 (gi (0 : Int) [(x1.out.length : Int), wr .i64 ((x12.out.length : Int) - (x1.out.length : Int)), x12.many] x26)), false), some (.slice A38 x37.length k39, false), some (.slice A40 ((x23 ++ x37).length) k41, false), some (.pointer (some ⟨b2, 0, none⟩), true), some (.pointer (some ⟨b2, 2, none⟩), false), some (undef, false)], [sl .own ku8 A38 k39 x37, blk b2 [.slice A14 x12.out.length k15, .slice A16 x12.body.length k17, .slice A40 ((x23 ++ x37).length) k41, .int .i64 x12.many, .int .i64 x12.blocks, .slice A20 x12.last.length k21], sl .own ku8 A14 k15 x12.out, sl .ro ku8 A16 k17 x12.body, sl .own ku8 A40 k41 (x23 ++ x37), sl .ro ku8 A20 k21 x12.last, sl .own ki64 (some ⟨b22, 0, none⟩) 3 [(x1.out.length : Int), wr .i64 ((x12.out.length : Int) - (x1.out.length : Int)), x12.many]], rfl, ⟨.inr ⟨_, _, _, rfl, rfl⟩, .inr ⟨_, _, _, rfl, rfl⟩, .inr ⟨_, _, _, rfl, rfl⟩, .inr ⟨_, _, _, rfl, rfl⟩, .inr ⟨_, _, _, rfl, rfl⟩, .inr ⟨_, _, _, rfl, rfl⟩, .inr ⟨_, _, _, rfl, rfl⟩, .inr ⟨_, _, _, rfl, rfl⟩, .inr ⟨_, _, _, rfl, rfl⟩, .inr ⟨_, _, _, rfl, rfl⟩, .inr ⟨_, _, _, rfl, rfl⟩, .inl rfl, trivial⟩, rfl, ?_, T, S⟩
      refine stage none rfl rfl ⟨⟨_, [(36, .pointer (some ⟨b2, 0, none⟩))], rfl, ⟨.inl ⟨0, rfl, rfl, rfl, rfl⟩, trivial⟩, fun u a w T S => (by refine r_pv T rfl rfl fun _ T => ?_; exact ⟨rfl, T⟩)⟩, trivial⟩ rfl (fun i hi => by cases hi) (fun _ _ a w T hv hb S => ?_)
      replace T := T.sub (r := [(0, .pointer (some ⟨b2, 0, none⟩)), (30, .slice (some ⟨b22, 0, none⟩) 3 3), (31, .int .i64 (3 : Int)), (32, .int .i64 x26)]) ⟨hb 0 _ rfl rfl, hb 30 _ rfl rfl, hb 31 _ rfl rfl, hb 32 _ rfl rfl, trivial⟩
      refine Gets.inBlock ?_
      refine rg ?_
      refine r_pv T rfl rfl fun _ T => ?_
      refine r_pv T rfl rfl fun _ T => ?_
      refine Gets.inLoop ?_
      have T := T.re (s := 30) (v' := .slice (some ⟨b22, 0, none⟩) [(x1.out.length : Int), wr .i64 ((x12.out.length : Int) - (x1.out.length : Int)), x12.many].length 3) rfl (by simp)
      exact ih (wr .i64 (x26 + 1)) A40 (x23 ++ x37) k41 _ _ (T.sub ⟨rfl, rfl, rfl, rfl, trivial⟩) (S.only (p := [blk b2 [.slice A14 x12.out.length k15, .slice A16 x12.body.length k17, .slice A40 ((x23 ++ x37).length) k41, .int .i64 x12.many, .int .i64 x12.blocks, .slice A20 x12.last.length k21], sl .own ku8 A14 k15 x12.out, sl .ro ku8 A16 k17 x12.body, sl .own ku8 A40 k41 (x23 ++ x37), sl .ro ku8 A20 k21 x12.last, sl .own ki64 (some ⟨b22, 0, none⟩) 3 [(x1.out.length : Int), wr .i64 ((x12.out.length : Int) - (x1.out.length : Int)), x12.many]]) [1, 1, 1, 1, 1, 1] rfl) H
    · refine cdF T rfl h27 ?_
      refine Gets.exit rfl (Gets.seq ?_)
      refine rg ?_
      refine r_pv T rfl rfl fun _ T => ?_
      refine r_pv T rfl rfl fun _ T => ?_
      refine r_fa (o' := 5) T rfl Try.runUnderlying61 rfl Try.sizeOf24 rfl rfl fun _ T => ?_
      refine r_ldB (ix := 0) T S rfl Try.isAgg24 rfl rfl rfl fun _ T => ?_
      obtain ⟨x29, h28, H⟩ := bd H
      refine r_call T Try.call56 rfl rfl (codec_Text.ok _ _ z x12.last (S.sel (p := [sl .ro ku8 A20 k21 x12.last]) (is := [4]) rfl) _ h28) ?_
      rintro _ _ ⟨A30, k31, rfl, S⟩
      refine ⟨_, rfl, fun _ T => ?_⟩
      replace S : SL ([sl .own ku8 A30 k31 x29.1, sl .ro ku8 A20 k21 x12.last, blk b2 [.slice A14 x12.out.length k15, .slice A16 x12.body.length k17, .slice A24 x23.length k25, .int .i64 x12.many, .int .i64 x12.blocks, .slice A20 x12.last.length k21], sl .own ku8 A14 k15 x12.out, sl .ro ku8 A16 k17 x12.body, sl .own ku8 A24 k25 x23, sl .own ki64 (some ⟨b22, 0, none⟩) 3 [(x1.out.length : Int), wr .i64 ((x12.out.length : Int) - (x1.out.length : Int)), x12.many]] ++ F) _ := S.join
      refine r_pv T rfl rfl fun _ T => ?_
      refine r_pv T rfl rfl fun _ T => ?_
      refine r_pv T rfl rfl fun _ T => ?_
      refine r_pv T rfl rfl fun _ T => ?_
      refine r_pv T rfl rfl fun _ T => ?_
      refine Gets.seq ?_
      refine rg ?_
      refine r_pv T rfl rfl fun _ T => ?_
      refine r_pv T rfl rfl fun _ T => ?_
      refine r_pv T rfl rfl fun _ T => ?_
      refine r_fa (o' := 2) T rfl Try.runUnderlying61 rfl Try.sizeOf24 rfl rfl fun _ T => ?_
      refine r_ldB (ix := 2) T S rfl Try.isAgg24 rfl rfl rfl fun _ T => ?_
      refine r_pv T rfl rfl fun _ T => ?_
      obtain ⟨h34, H⟩ := ck H
      refine r_app (ix := 5) (iy := 0) (xs := x23) (ys := x29.1) T S rfl rfl rfl rfl (by decide) sty24 Try.runUnderlying24 (by decide) h34 rfl fun _ _ A32 k33 S T => ?_
      replace S : SL ([sl .own ku8 A30 k31 x29.1, sl .ro ku8 A20 k21 x12.last, blk b2 [.slice A14 x12.out.length k15, .slice A16 x12.body.length k17, .slice A24 x23.length k25, .int .i64 x12.many, .int .i64 x12.blocks, .slice A20 x12.last.length k21], sl .own ku8 A14 k15 x12.out, sl .ro ku8 A16 k17 x12.body, sl .own ku8 A32 k33 (x23 ++ x29.1), sl .own ki64 (some ⟨b22, 0, none⟩) 3 [(x1.out.length : Int), wr .i64 ((x12.out.length : Int) - (x1.out.length : Int)), x12.many]] ++ F) _ := S
      refine r_pv T rfl rfl fun _ T => ?_
      refine r_fa (o' := 2) T rfl Try.runUnderlying61 rfl Try.sizeOf24 rfl rfl fun _ T => ?_
      refine r_stB (ix := 2) (l' := [sl .own ku8 A30 k31 x29.1, sl .ro ku8 A20 k21 x12.last, blk b2 [.slice A14 x12.out.length k15, .slice A16 x12.body.length k17, .slice A32 ((x23 ++ x29.1).length) k33, .int .i64 x12.many, .int .i64 x12.blocks, .slice A20 x12.last.length k21], sl .own ku8 A14 k15 x12.out, sl .ro ku8 A16 k17 x12.body, sl .own ku8 A32 k33 (x23 ++ x29.1), sl .own ki64 (some ⟨b22, 0, none⟩) 3 [(x1.out.length : Int), wr .i64 ((x12.out.length : Int) - (x1.out.length : Int)), x12.many]]) T S rfl rfl rfl Try.sizeOf24 rfl (Nat.le_of_ble_eq_true rfl) rfl fun _ S => ?_
      refine Gets.seq ?_
      refine rg ?_
      refine r_pv T rfl rfl fun _ T => ?_
      refine r_pv T rfl rfl fun _ T => ?_
      refine r_pv T rfl rfl fun _ T => ?_
      refine r_fa (o' := 1) T rfl Try.runUnderlying61 rfl Try.sizeOf24 rfl rfl fun _ T => ?_
      refine r_stB (ix := 2) (l' := [sl .own ku8 A30 k31 x29.1, sl .ro ku8 A20 k21 x12.last, blk b2 [.slice A14 x12.out.length k15, .slice none 0 0, .slice A32 ((x23 ++ x29.1).length) k33, .int .i64 x12.many, .int .i64 x12.blocks, .slice A20 x12.last.length k21], sl .own ku8 A14 k15 x12.out, sl .ro ku8 A16 k17 x12.body, sl .own ku8 A32 k33 (x23 ++ x29.1), sl .own ki64 (some ⟨b22, 0, none⟩) 3 [(x1.out.length : Int), wr .i64 ((x12.out.length : Int) - (x1.out.length : Int)), x12.many]]) T S rfl rfl rfl Try.sizeOf24 rfl (Nat.le_of_ble_eq_true rfl) rfl fun _ S => ?_
      refine r_pv T rfl rfl fun _ T => ?_
      refine r_fa (o' := 3) T rfl Try.runUnderlying61 rfl Try.sizeOf3 rfl rfl fun _ T => ?_
      refine r_stB (ix := 2) (l' := [sl .own ku8 A30 k31 x29.1, sl .ro ku8 A20 k21 x12.last, blk b2 [.slice A14 x12.out.length k15, .slice none 0 0, .slice A32 ((x23 ++ x29.1).length) k33, .int .i64 0, .int .i64 x12.blocks, .slice A20 x12.last.length k21], sl .own ku8 A14 k15 x12.out, sl .ro ku8 A16 k17 x12.body, sl .own ku8 A32 k33 (x23 ++ x29.1), sl .own ki64 (some ⟨b22, 0, none⟩) 3 [(x1.out.length : Int), wr .i64 ((x12.out.length : Int) - (x1.out.length : Int)), x12.many]]) T S rfl rfl rfl Try.sizeOf3 rfl (Nat.le_of_ble_eq_true rfl) rfl fun _ S => ?_
      refine rg ?_
      refine r_pv T rfl rfl fun _ T => ?_
      refine r_pv T rfl rfl fun _ T => ?_
      refine r_fa (o' := 4) T rfl Try.runUnderlying61 rfl Try.sizeOf3 rfl rfl fun _ T => ?_
      refine r_ldB (ix := 2) T S rfl Try.isAgg3 rfl rfl rfl fun _ T => ?_
      refine r_pv T rfl rfl fun _ T => ?_
      refine r_pv T rfl rfl fun _ T => ?_
      refine r_fa (o' := 4) T rfl Try.runUnderlying61 rfl Try.sizeOf3 rfl rfl fun _ T => ?_
      refine r_stB (ix := 2) (l' := [sl .own ku8 A30 k31 x29.1, sl .ro ku8 A20 k21 x12.last, blk b2 [.slice A14 x12.out.length k15, .slice none 0 0, .slice A32 ((x23 ++ x29.1).length) k33, .int .i64 0, .int .i64 (wr .i64 (x12.blocks + 1)), .slice A20 x12.last.length k21], sl .own ku8 A14 k15 x12.out, sl .ro ku8 A16 k17 x12.body, sl .own ku8 A32 k33 (x23 ++ x29.1), sl .own ki64 (some ⟨b22, 0, none⟩) 3 [(x1.out.length : Int), wr .i64 ((x12.out.length : Int) - (x1.out.length : Int)), x12.many]]) T S rfl rfl rfl Try.sizeOf3 rfl (Nat.le_of_ble_eq_true rfl) rfl fun _ S => ?_
      replace S := S.nil ku8 .ro
      replace S : SL ([sl .ro ku8 none 0 ([] : List Int), sl .own ku8 A30 k31 x29.1, sl .ro ku8 A20 k21 x12.last, blk b2 [.slice A14 x12.out.length k15, .slice none (([] : List Int).length) 0, .slice A32 ((x23 ++ x29.1).length) k33, .int .i64 0, .int .i64 (wr .i64 (x12.blocks + 1)), .slice A20 x12.last.length k21], sl .own ku8 A14 k15 x12.out, sl .ro ku8 A16 k17 x12.body, sl .own ku8 A32 k33 (x23 ++ x29.1), sl .own ki64 (some ⟨b22, 0, none⟩) 3 [(x1.out.length : Int), wr .i64 ((x12.out.length : Int) - (x1.out.length : Int)), x12.many]] ++ F) _ := S.reB (i := 3) rfl (by simp) rfl
      replace H := Option.some.inj H
      subst H
      exact rtf T Try.func29 rfl rfl ⟨A14, k15, none, 0, A32, k33, A20, k21, rfl, (S.only (p := [blk b2 [.slice A14 x12.out.length k15, .slice none (([] : List Int).length) 0, .slice A32 ((x23 ++ x29.1).length) k33, .int .i64 0, .int .i64 (wr .i64 (x12.blocks + 1)), .slice A20 x12.last.length k21], sl .own ku8 A14 k15 x12.out, sl .ro ku8 none 0 ([] : List Int), sl .own ku8 A32 k33 (x23 ++ x29.1), sl .ro ku8 A20 k21 x12.last]) [3, 3, 0, 3, 1] rfl)⟩
theorem ok (F : List Atom) (w : World) (z : Nat) (x1 : sstable_builder) {b2 : Nat} {A3 : Option Addr} {k4 : Nat} {A5 : Option Addr} {k6 : Nat} {A7 : Option Addr} {k8 : Nat} {A9 : Option Addr} {k10 : Nat} (S : SL ([blk b2 [.slice A3 x1.out.length k4, .slice A5 x1.body.length k6, .slice A7 x1.index.length k8, .int .i64 x1.many, .int .i64 x1.blocks, .slice A9 x1.last.length k10], sl .own ku8 A3 k4 x1.out, sl .ro ku8 A5 k6 x1.body, sl .own ku8 A7 k8 x1.index, sl .ro ku8 A9 k10 x1.last] ++ F) w) (r : sstable_builder) (H : f z x1 = some r) : Calls Try.prog 29 #[.pointer (some ⟨b2, 0, none⟩)] w (R F b2 r) := by
  refine enter (vs := [.pointer (some ⟨b2, 0, none⟩)]) Try.func29 rfl Try.ntmps29 (Nat.le_of_ble_eq_true rfl) fun a T => ?_
  refine Gets.seq ?_
  refine rg ?_
  refine r_pv T rfl rfl fun _ T => ?_
  refine r_pv T rfl rfl fun _ T => ?_
  refine r_fa (o' := 0) T rfl Try.runUnderlying61 rfl Try.sizeOf24 rfl rfl fun _ T => ?_
  refine r_ldB (ix := 0) T S rfl Try.isAgg24 rfl rfl rfl fun _ T => ?_
  refine r_lenS T rfl Try.runUnderlying24 rfl fun _ T => ?_
  refine r_pv T rfl rfl fun _ T => ?_
  refine Gets.seq ?_
  refine rg ?_
  refine r_pv T rfl rfl fun _ T => ?_
  refine r_pv T rfl rfl fun _ T => ?_
  refine r_pv T rfl rfl fun _ T => ?_
  refine r_fa (o' := 1) T rfl Try.runUnderlying61 rfl Try.sizeOf24 rfl rfl fun _ T => ?_
  refine r_ldB (ix := 0) T S rfl Try.isAgg24 rfl rfl rfl fun _ T => ?_
  replace S := S.dup (i := 2) rfl
  obtain ⟨x12, h11, H⟩ := bd H
  refine r_call T Try.call54 rfl rfl (sstable_builder_frame.ok _ _ z x1 68 x1.body (S.sel (p := [blk b2 [.slice A3 x1.out.length k4, .slice A5 x1.body.length k6, .slice A7 x1.index.length k8, .int .i64 x1.many, .int .i64 x1.blocks, .slice A9 x1.last.length k10], sl .own ku8 A3 k4 x1.out, sl .ro ku8 A5 k6 x1.body, sl .own ku8 A7 k8 x1.index, sl .ro ku8 A9 k10 x1.last, sl .ro ku8 A5 k6 x1.body]) (is := [1, 1, 1, 1, 1, 0]) rfl) _ h11) ?_
  rintro _ _ ⟨A14, k15, A16, k17, A18, k19, A20, k21, rfl, S⟩
  refine ⟨_, rfl, fun _ T => ?_⟩
  replace S : SL ([blk b2 [.slice A14 x12.out.length k15, .slice A16 x12.body.length k17, .slice A18 x12.index.length k19, .int .i64 x12.many, .int .i64 x12.blocks, .slice A20 x12.last.length k21], sl .own ku8 A14 k15 x12.out, sl .ro ku8 A16 k17 x12.body, sl .own ku8 A18 k19 x12.index, sl .ro ku8 A20 k21 x12.last, sl .ro ku8 A5 k6 x1.body] ++ F) _ := S.join
  refine Gets.seq (Gets.seq ?_)
  refine Gets.drawn (l := [blk b2 [.slice A14 x12.out.length k15, .slice A16 x12.body.length k17, .slice A18 x12.index.length k19, .int .i64 x12.many, .int .i64 x12.blocks, .slice A20 x12.last.length k21], sl .own ku8 A14 k15 x12.out, sl .ro ku8 A16 k17 x12.body, sl .own ku8 A18 k19 x12.index, sl .ro ku8 A20 k21 x12.last, sl .ro ku8 A5 k6 x1.body]) (V := [some (.int .i64 (x1.out.length : Int), true), some (.pointer (some ⟨b2, 0, none⟩), true), some (.pointer (some ⟨b2, 0, none⟩), true), some (.pointer (some ⟨b2, 0, none⟩), true), some (.slice A14 x12.out.length k15, true), some (.int .i64 (x12.out.length : Int), true), some (.int .i64 (x1.out.length : Int), true), some (.int .i64 (wr .i64 ((x12.out.length : Int) - (x1.out.length : Int))), true), some (.pointer (some ⟨b2, 0, none⟩), true), some (.pointer (some ⟨b2, 0, none⟩), true), some (.pointer (some ⟨b2, 3, none⟩), true), some (.int .i64 x12.many, true), none, none, some (.int .i64 0, true)]) mixed T S rfl ?_
  refine stage (some 12) rfl rfl ⟨⟨_, [(2, .int .i64 (x1.out.length : Int))], rfl, ⟨.inr ⟨rfl, rfl⟩, trivial⟩, fun u a w T S => (by refine r_pv T rfl rfl fun _ T => ?_; exact ⟨rfl, T⟩)⟩, ⟨_, [(0, .pointer (some ⟨b2, 0, none⟩))], rfl, ⟨.inr ⟨rfl, rfl⟩, trivial⟩, fun u a w T S => (by refine r_pv T rfl rfl fun _ T => ?_; exact ⟨rfl, T⟩)⟩, ⟨_, [(19, .pointer (some ⟨b2, 0, none⟩))], rfl, ⟨.inl ⟨1, rfl, rfl, rfl, rfl⟩, trivial⟩, fun u a w T S => (by refine r_pv T rfl rfl fun _ T => ?_; exact ⟨rfl, T⟩)⟩, ⟨_, [(20, .pointer (some ⟨b2, 0, none⟩))], rfl, ⟨.inl ⟨2, rfl, rfl, rfl, rfl⟩, trivial⟩, fun u a w T S => (by refine r_fa (o' := 0) T rfl Try.runUnderlying61 rfl Try.sizeOf24 rfl rfl fun _ T => ?_; exact ⟨rfl, T⟩)⟩, ⟨_, [(21, .pointer (some ⟨b2, 0, none⟩))], rfl, ⟨.inl ⟨3, rfl, rfl, rfl, rfl⟩, trivial⟩, fun u a w T S => (by refine r_ldB (ix := 0) T S rfl Try.isAgg24 rfl rfl rfl fun _ T => ?_; exact ⟨rfl, T⟩)⟩, ⟨_, [(22, .slice A14 x12.out.length k15)], rfl, ⟨.inl ⟨4, rfl, rfl, rfl, rfl⟩, trivial⟩, fun u a w T S => (by refine r_lenS T rfl Try.runUnderlying24 rfl fun _ T => ?_; exact ⟨rfl, T⟩)⟩, ⟨_, [(2, .int .i64 (x1.out.length : Int))], rfl, ⟨.inr ⟨rfl, rfl⟩, trivial⟩, fun u a w T S => (by refine r_pv T rfl rfl fun _ T => ?_; exact ⟨rfl, T⟩)⟩, ⟨_, [(23, .int .i64 (x12.out.length : Int)), (24, .int .i64 (x1.out.length : Int))], rfl, ⟨.inl ⟨5, rfl, rfl, rfl, rfl⟩, .inl ⟨6, rfl, rfl, rfl, rfl⟩, trivial⟩, fun u a w T S => (by refine r_pv T rfl rfl fun _ T => ?_; exact ⟨rfl, T⟩)⟩, ⟨_, [(0, .pointer (some ⟨b2, 0, none⟩))], rfl, ⟨.inr ⟨rfl, rfl⟩, trivial⟩, fun u a w T S => (by refine r_pv T rfl rfl fun _ T => ?_; exact ⟨rfl, T⟩)⟩, ⟨_, [(26, .pointer (some ⟨b2, 0, none⟩))], rfl, ⟨.inl ⟨8, rfl, rfl, rfl, rfl⟩, trivial⟩, fun u a w T S => (by refine r_pv T rfl rfl fun _ T => ?_; exact ⟨rfl, T⟩)⟩, ⟨_, [(27, .pointer (some ⟨b2, 0, none⟩))], rfl, ⟨.inl ⟨9, rfl, rfl, rfl, rfl⟩, trivial⟩, fun u a w T S => (by refine r_fa (o' := 3) T rfl Try.runUnderlying61 rfl Try.sizeOf3 rfl rfl fun _ T => ?_; exact ⟨rfl, T⟩)⟩, ⟨_, [(28, .pointer (some ⟨b2, 3, none⟩))], rfl, ⟨.inl ⟨10, rfl, rfl, rfl, rfl⟩, trivial⟩, fun u a w T S => (by refine r_ldB (ix := 0) T S rfl Try.isAgg3 rfl rfl rfl fun _ T => ?_; exact ⟨rfl, T⟩)⟩, ⟨_, [], rfl, trivial, fun u a w T S => (by refine r_pv T rfl rfl fun _ T => ?_; exact ⟨rfl, T⟩)⟩, trivial⟩ rfl (fun i hi => ?_) (fun h => by cases h)
  cases hi
  refine ⟨rfl, _, [(18, .int .i64 (x1.out.length : Int)), (25, .int .i64 (wr .i64 ((x12.out.length : Int) - (x1.out.length : Int)))), (29, .int .i64 x12.many)], rfl, ⟨.inl ⟨0, rfl, rfl, rfl, rfl⟩, .inl ⟨7, rfl, rfl, rfl, rfl⟩, .inl ⟨11, rfl, rfl, rfl, rfl⟩, trivial⟩, fun u a w T S => ?_⟩
  replace S := SL.val (κ := ki64) (x := (x1.out.length : Int)) (cs := [.int .i64 (x1.out.length : Int)]) (fun _ => rfl) S
  replace S := SL.val (κ := ki64) (x := wr .i64 ((x12.out.length : Int) - (x1.out.length : Int))) (cs := [.int .i64 (wr .i64 ((x12.out.length : Int) - (x1.out.length : Int)))]) (fun _ => rfl) S
  replace S := SL.val (κ := ki64) (x := x12.many) (cs := [.int .i64 x12.many]) (fun _ => rfl) S
  refine r_bsl (κ := ki64) (xs := [(x1.out.length : Int), wr .i64 ((x12.out.length : Int) - (x1.out.length : Int)), x12.many]) (vs := [.int .i64 (x1.out.length : Int), .int .i64 (wr .i64 ((x12.out.length : Int) - (x1.out.length : Int))), .int .i64 x12.many]) T S sty48 rfl ⟨_, _, rfl, ⟨2, rfl⟩, ⟨_, _, rfl, ⟨1, rfl⟩, ⟨_, _, rfl, ⟨0, rfl⟩, rfl⟩⟩⟩ rfl (by decide) rfl fun _ _ b22 S T => ?_
  replace S : SL ([sl .own ki64 (some ⟨b22, 0, none⟩) 3 [(x1.out.length : Int), wr .i64 ((x12.out.length : Int) - (x1.out.length : Int)), x12.many], blk b2 [.slice A14 x12.out.length k15, .slice A16 x12.body.length k17, .slice A18 x12.index.length k19, .int .i64 x12.many, .int .i64 x12.blocks, .slice A20 x12.last.length k21], sl .own ku8 A14 k15 x12.out, sl .ro ku8 A16 k17 x12.body, sl .own ku8 A18 k19 x12.index, sl .ro ku8 A20 k21 x12.last, sl .ro ku8 A5 k6 x1.body] ++ F) _ := S.only [0, 3, 3, 3, 3, 3, 3] rfl
  refine ⟨_, [some (.int .i64 (x1.out.length : Int), false), some (.pointer (some ⟨b2, 0, none⟩), true), some (.pointer (some ⟨b2, 0, none⟩), true), some (.pointer (some ⟨b2, 0, none⟩), true), some (.slice A14 x12.out.length k15, true), some (.int .i64 (x12.out.length : Int), true), some (.int .i64 (x1.out.length : Int), true), some (.int .i64 (wr .i64 ((x12.out.length : Int) - (x1.out.length : Int))), false), some (.pointer (some ⟨b2, 0, none⟩), true), some (.pointer (some ⟨b2, 0, none⟩), true), some (.pointer (some ⟨b2, 3, none⟩), true), some (.int .i64 x12.many, false), some (.slice (some ⟨b22, 0, none⟩) 3 3, false), some (.int .i64 (3 : Int), true), some (.int .i64 0, true)], [sl .own ki64 (some ⟨b22, 0, none⟩) 3 [(x1.out.length : Int), wr .i64 ((x12.out.length : Int) - (x1.out.length : Int)), x12.many], blk b2 [.slice A14 x12.out.length k15, .slice A16 x12.body.length k17, .slice A18 x12.index.length k19, .int .i64 x12.many, .int .i64 x12.blocks, .slice A20 x12.last.length k21], sl .own ku8 A14 k15 x12.out, sl .ro ku8 A16 k17 x12.body, sl .own ku8 A18 k19 x12.index, sl .ro ku8 A20 k21 x12.last, sl .ro ku8 A5 k6 x1.body], rfl, ⟨.inr ⟨_, _, _, rfl, rfl⟩, .inr ⟨_, _, _, rfl, rfl⟩, .inr ⟨_, _, _, rfl, rfl⟩, .inr ⟨_, _, _, rfl, rfl⟩, .inr ⟨_, _, _, rfl, rfl⟩, .inr ⟨_, _, _, rfl, rfl⟩, .inr ⟨_, _, _, rfl, rfl⟩, .inr ⟨_, _, _, rfl, rfl⟩, .inr ⟨_, _, _, rfl, rfl⟩, .inr ⟨_, _, _, rfl, rfl⟩, .inr ⟨_, _, _, rfl, rfl⟩, .inr ⟨_, _, _, rfl, rfl⟩, .inl rfl, .inl rfl, .inr ⟨_, _, _, rfl, rfl⟩, trivial⟩, rfl, ?_, T, S⟩
  refine stage none rfl rfl ⟨⟨_, [(0, .pointer (some ⟨b2, 0, none⟩))], rfl, ⟨.inr ⟨rfl, rfl⟩, trivial⟩, fun u a w T S => (by refine r_pv T rfl rfl fun _ T => ?_; exact ⟨rfl, T⟩)⟩, ⟨_, [(19, .pointer (some ⟨b2, 0, none⟩))], rfl, ⟨.inl ⟨1, rfl, rfl, rfl, rfl⟩, trivial⟩, fun u a w T S => (by refine r_pv T rfl rfl fun _ T => ?_; exact ⟨rfl, T⟩)⟩, ⟨_, [(20, .pointer (some ⟨b2, 0, none⟩))], rfl, ⟨.inl ⟨2, rfl, rfl, rfl, rfl⟩, trivial⟩, fun u a w T S => (by refine r_fa (o' := 0) T rfl Try.runUnderlying61 rfl Try.sizeOf24 rfl rfl fun _ T => ?_; exact ⟨rfl, T⟩)⟩, ⟨_, [(21, .pointer (some ⟨b2, 0, none⟩))], rfl, ⟨.inl ⟨3, rfl, rfl, rfl, rfl⟩, trivial⟩, fun u a w T S => (by refine r_ldB (ix := 1) T S rfl Try.isAgg24 rfl rfl rfl fun _ T => ?_; exact ⟨rfl, T⟩)⟩, ⟨_, [(22, .slice A14 x12.out.length k15)], rfl, ⟨.inl ⟨4, rfl, rfl, rfl, rfl⟩, trivial⟩, fun u a w T S => (by refine r_lenS T rfl Try.runUnderlying24 rfl fun _ T => ?_; exact ⟨rfl, T⟩)⟩, ⟨_, [(2, .int .i64 (x1.out.length : Int))], rfl, ⟨.inr ⟨rfl, rfl⟩, trivial⟩, fun u a w T S => (by refine r_pv T rfl rfl fun _ T => ?_; exact ⟨rfl, T⟩)⟩, ⟨_, [(0, .pointer (some ⟨b2, 0, none⟩))], rfl, ⟨.inr ⟨rfl, rfl⟩, trivial⟩, fun u a w T S => (by refine r_pv T rfl rfl fun _ T => ?_; exact ⟨rfl, T⟩)⟩, ⟨_, [(26, .pointer (some ⟨b2, 0, none⟩))], rfl, ⟨.inl ⟨8, rfl, rfl, rfl, rfl⟩, trivial⟩, fun u a w T S => (by refine r_pv T rfl rfl fun _ T => ?_; exact ⟨rfl, T⟩)⟩, ⟨_, [(27, .pointer (some ⟨b2, 0, none⟩))], rfl, ⟨.inl ⟨9, rfl, rfl, rfl, rfl⟩, trivial⟩, fun u a w T S => (by refine r_fa (o' := 3) T rfl Try.runUnderlying61 rfl Try.sizeOf3 rfl rfl fun _ T => ?_; exact ⟨rfl, T⟩)⟩, ⟨_, [(30, .slice (some ⟨b22, 0, none⟩) 3 3)], rfl, ⟨.inl ⟨12, rfl, rfl, rfl, rfl⟩, trivial⟩, fun u a w T S => (by refine r_lenS T rfl Try.runUnderlying48 rfl fun _ T => ?_; exact ⟨rfl, T⟩)⟩, ⟨_, [], rfl, trivial, fun u a w T S => (by refine r_pv T rfl rfl fun _ T => ?_; exact ⟨rfl, T⟩)⟩, trivial⟩ rfl (fun i hi => by cases hi) (fun _ _ a w T hv hb S => ?_)
  replace T := T.sub (r := [(0, .pointer (some ⟨b2, 0, none⟩)), (30, .slice (some ⟨b22, 0, none⟩) 3 3), (31, .int .i64 (3 : Int)), (32, .int .i64 0)]) ⟨hb 0 _ rfl rfl, hv 12 _ 30 rfl rfl rfl, hv 13 _ 31 rfl rfl rfl, hv 14 _ 32 rfl rfl rfl, trivial⟩
  refine Gets.block ?_
  refine Gets.loop ?_
  have T := T.re (s := 30) (v' := .slice (some ⟨b22, 0, none⟩) [(x1.out.length : Int), wr .i64 ((x12.out.length : Int) - (x1.out.length : Int)), x12.many].length 3) rfl (by simp)
  exact L0_ok F r z b2 b22 A14 x12 k15 A16 k17 A20 k21 x1 z 0 A18 x12.index k19 _ _ (T.sub ⟨rfl, rfl, rfl, rfl, trivial⟩) (S.only (p := [blk b2 [.slice A14 x12.out.length k15, .slice A16 x12.body.length k17, .slice A18 x12.index.length k19, .int .i64 x12.many, .int .i64 x12.blocks, .slice A20 x12.last.length k21], sl .own ku8 A14 k15 x12.out, sl .ro ku8 A16 k17 x12.body, sl .own ku8 A18 k19 x12.index, sl .ro ku8 A20 k21 x12.last, sl .own ki64 (some ⟨b22, 0, none⟩) 3 [(x1.out.length : Int), wr .i64 ((x12.out.length : Int) - (x1.out.length : Int)), x12.many]]) [1, 1, 1, 1, 1, 0] rfl) H
end sstable_builder_close
end Go.Proofs.Ytghpokmkhlmgcaa

namespace Go.Proofs.Ytghpokmkhlmgcaa
open Go Go.Proofs.Ytghpokmkhlmgcaa.X
set_option linter.unusedVariables false
set_option linter.unusedSimpArgs false
set_option maxRecDepth 100000
set_option maxHeartbeats 4000000
/-! ### cormorant.sstable.lay: function 53 -/
namespace sstable_lay
noncomputable def c0 : Code := match Try.f53.body with | some c => c | none => .skip
def R (F : List Atom) (x1 : List Int) (A2 : Option Addr) (m3 : Md) (x4 : List Int) (A5 : Option Addr) (k6 : Nat) (m7 : Md) (x8 : api_Entry) (A9 : Option Addr) (k10 : Nat) (A11 : Option Addr) (k12 : Nat) (r : (List Int)) : Ending → World → Prop := fun e w' => ∃ (A61 : Option Addr), ∃ (k62 : Nat), e = .returned (.slice A61 r.length k62) ∧ SL ([sl .own ku8 A61 k62 r, sl m3 ku8 A2 x1.length x1, sl m7 ku8 A5 k6 x4, sl .ro ku8 A9 k10 x8.Key, sl .ro ku8 A11 k12 x8.Value] ++ F) w'
def J2 (z : Nat) (x1 : List Int) (x8 : api_Entry) (x14 : Int) (x20 : Int) : Option (List Int) := Bd (codec_Number.f z (wr .u64 x14)) fun x22 => Ck ((x1.length + x22.length) * 1 ≤ 140737488355328 ∧ 0 < x22.length) (Bd (codec_Number.f z (wr .u64 (wr .i64 ((x8.Key.length : Int) - x14)))) fun x29 => Ck (((x1 ++ x22).length + x29.length) * 1 ≤ 140737488355328) (Bd (codec_Number.f z x8.Seq) fun x36 => Ck ((((x1 ++ x22) ++ x29).length + x36.length) * 1 ≤ 140737488355328) (Ck (((((x1 ++ x22) ++ x29) ++ x36).length + [x20].length) * 1 ≤ 140737488355328) (Bd (codec_Number.f z (wr .u64 (x8.Value.length : Int))) fun x47 => Ck ((((((x1 ++ x22) ++ x29) ++ x36) ++ [x20]).length + x47.length) * 1 ≤ 140737488355328) (Ck (0 ≤ x14 ∧ x14 ≤ (x8.Key.length : Int)) (Ck (((((((x1 ++ x22) ++ x29) ++ x36) ++ [x20]) ++ x47).length + (cut x8.Key (Int.toNat x14) (Int.toNat (x8.Key.length : Int))).length) * 1 ≤ 140737488355328) (Ck ((((((((x1 ++ x22) ++ x29) ++ x36) ++ [x20]) ++ x47) ++ (cut x8.Key (Int.toNat x14) (Int.toNat (x8.Key.length : Int)))).length + x8.Value.length) * 1 ≤ 140737488355328) (some (((((((x1 ++ x22) ++ x29) ++ x36) ++ [x20]) ++ x47) ++ (cut x8.Key (Int.toNat x14) (Int.toNat (x8.Key.length : Int)))) ++ x8.Value)))))))))
def J1 (z : Nat) (x1 : List Int) (x8 : api_Entry) (x14 : Int) : Option (List Int) := If x8.Del (J2 z x1 x8 x14 1) (J2 z x1 x8 x14 0)
def L0 (z : Nat) (x1 : List Int) (x4 : List Int) (x8 : api_Entry) : Nat → Int → Option (List Int)
  | 0, _ => none
  | m + 1, x14 => If (decide (x14 < (mn (x4.length : Int) (x8.Key.length : Int)))) (Ck (0 ≤ x14 ∧ x14 < (x4.length : Int)) (Ck (x14 < (x8.Key.length : Int)) (If ((gi (0 : Int) x4 x14) == (gi (0 : Int) x8.Key x14)) (L0 z x1 x4 x8 m (wr .i64 (x14 + 1))) (J1 z x1 x8 x14)))) (J1 z x1 x8 x14)
def f (z : Nat) (x1 : List Int) (x4 : List Int) (x8 : api_Entry) : Option (List Int) := L0 z x1 x4 x8 z 0
noncomputable def ptJ2 : List Item := [.code (cL (cR (cR (cR (cR (cR c0)))))), .code (cR (cR (cR (cR (cR (cR c0))))))]
noncomputable def ptJ1 : List Item := [.code (cL (cR (cR (cR c0)))), .code (cR (cR (cR (cR c0))))]
noncomputable def ptL0 : List Item := [.code (cB (cB (cL (cR (cR c0))))), .inLoop (cB (cB (cL (cR (cR c0))))), .inBlock 0, .code (cR (cR (cR c0)))]
theorem J2_ok (F : List Atom) (r : (List Int)) (z : Nat) (x1 : List Int) (A2 : Option Addr) (m3 : Md) (x4 : List Int) (A5 : Option Addr) (k6 : Nat) (m7 : Md) (x8 : api_Entry) (A9 : Option Addr) (k10 : Nat) (A11 : Option Addr) (k12 : Nat) (b13 : Nat) (x14 : Int) (x20 : Int) (a : Act) (w : World) (T : Tm 71 [(0, .slice A2 x1.length x1.length), (5, .pointer (some ⟨b13, 0, none⟩)), (7, .int .i64 x14), (8, .int .u8 x20)] a) (S : SL ([sl m3 ku8 A2 x1.length x1, sl m7 ku8 A5 k6 x4, sl .ro ku8 A9 k10 x8.Key, sl .ro ku8 A11 k12 x8.Value, blk b13 [.slice A9 x8.Key.length k10, .int .u64 x8.Seq, .bool x8.Del, .slice A11 x8.Value.length k12]] ++ F) w) (H : J2 z x1 x8 x14 x20 = some r) : Gets Try.prog 53 ptJ2 a w (R F x1 A2 m3 x4 A5 k6 m7 x8 A9 k10 A11 k12 r) := by
  refine rg ?_
  refine r_pv T rfl rfl fun _ T => ?_
  refine r_pv T rfl rfl fun _ T => ?_
  refine r_conv T rfl Try.runUnderlying3 Try.runUnderlying34 rfl fun _ T => ?_
  obtain ⟨x22, h21, H⟩ := bd H
  refine r_call T Try.call55 rfl rfl (codec_Number.ok _ _ z (wr .u64 x14) (S.sel (p := []) (is := []) rfl) _ h21) ?_
  rintro _ _ ⟨A23, k24, rfl, S⟩
  refine ⟨_, rfl, fun _ T => ?_⟩
  replace S : SL ([sl .own ku8 A23 k24 x22, sl m3 ku8 A2 x1.length x1, sl m7 ku8 A5 k6 x4, sl .ro ku8 A9 k10 x8.Key, sl .ro ku8 A11 k12 x8.Value, blk b13 [.slice A9 x8.Key.length k10, .int .u64 x8.Seq, .bool x8.Del, .slice A11 x8.Value.length k12]] ++ F) _ := S.join
  obtain ⟨h27, H⟩ := ck H
  refine r_appT (ix := 1) (iy := 0) (xs := x1) (ys := x22) T S rfl rfl rfl rfl rfl h27.2 sty24 Try.runUnderlying24 (by decide) h27.1 rfl fun _ _ A25 k26 S T => ?_
  refine r_pv T rfl rfl fun _ T => ?_
  refine Gets.seq ?_
  refine rg ?_
  refine r_pv T rfl rfl fun _ T => ?_
  refine r_fa (o' := 0) T rfl Try.runUnderlying36 rfl Try.sizeOf24 rfl rfl fun _ T => ?_
  refine r_ldB (ix := 6) T S rfl Try.isAgg24 rfl rfl rfl fun _ T => ?_
  refine r_lenS T rfl Try.runUnderlying24 rfl fun _ T => ?_
  refine r_pv T rfl rfl fun _ T => ?_
  refine r_pv T rfl rfl fun _ T => ?_
  refine r_conv T rfl Try.runUnderlying3 Try.runUnderlying34 rfl fun _ T => ?_
  obtain ⟨x29, h28, H⟩ := bd H
  refine r_call T Try.call55 rfl rfl (codec_Number.ok _ _ z (wr .u64 (wr .i64 ((x8.Key.length : Int) - x14))) (S.sel (p := []) (is := []) rfl) _ h28) ?_
  rintro _ _ ⟨A30, k31, rfl, S⟩
  refine ⟨_, rfl, fun _ T => ?_⟩
  replace S : SL ([sl .own ku8 A30 k31 x29, sl .own ku8 A25 k26 (x1 ++ x22), sl .own ku8 A23 k24 x22, sl m3 ku8 A2 x1.length x1, sl m7 ku8 A5 k6 x4, sl .ro ku8 A9 k10 x8.Key, sl .ro ku8 A11 k12 x8.Value, blk b13 [.slice A9 x8.Key.length k10, .int .u64 x8.Seq, .bool x8.Del, .slice A11 x8.Value.length k12]] ++ F) _ := S.join
  obtain ⟨h34, H⟩ := ck H
  refine r_app (ix := 1) (iy := 0) (xs := (x1 ++ x22)) (ys := x29) T S rfl rfl rfl rfl (by decide) sty24 Try.runUnderlying24 (by decide) h34 rfl fun _ _ A32 k33 S T => ?_
  replace S : SL ([sl .own ku8 A30 k31 x29, sl .own ku8 A32 k33 ((x1 ++ x22) ++ x29), sl .own ku8 A23 k24 x22, sl m3 ku8 A2 x1.length x1, sl m7 ku8 A5 k6 x4, sl .ro ku8 A9 k10 x8.Key, sl .ro ku8 A11 k12 x8.Value, blk b13 [.slice A9 x8.Key.length k10, .int .u64 x8.Seq, .bool x8.Del, .slice A11 x8.Value.length k12]] ++ F) _ := S
  refine r_pv T rfl rfl fun _ T => ?_
  refine Gets.seq ?_
  refine rg ?_
  refine r_pv T rfl rfl fun _ T => ?_
  refine r_fa (o' := 1) T rfl Try.runUnderlying36 rfl Try.sizeOf34 rfl rfl fun _ T => ?_
  refine r_ldB (ix := 7) T S rfl Try.isAgg34 rfl rfl rfl fun _ T => ?_
  obtain ⟨x36, h35, H⟩ := bd H
  refine r_call T Try.call55 rfl rfl (codec_Number.ok _ _ z x8.Seq (S.sel (p := []) (is := []) rfl) _ h35) ?_
  rintro _ _ ⟨A37, k38, rfl, S⟩
  refine ⟨_, rfl, fun _ T => ?_⟩
  replace S : SL ([sl .own ku8 A37 k38 x36, sl .own ku8 A30 k31 x29, sl .own ku8 A32 k33 ((x1 ++ x22) ++ x29), sl .own ku8 A23 k24 x22, sl m3 ku8 A2 x1.length x1, sl m7 ku8 A5 k6 x4, sl .ro ku8 A9 k10 x8.Key, sl .ro ku8 A11 k12 x8.Value, blk b13 [.slice A9 x8.Key.length k10, .int .u64 x8.Seq, .bool x8.Del, .slice A11 x8.Value.length k12]] ++ F) _ := S.join
  obtain ⟨h41, H⟩ := ck H
  refine r_app (ix := 2) (iy := 0) (xs := ((x1 ++ x22) ++ x29)) (ys := x36) T S rfl rfl rfl rfl (by decide) sty24 Try.runUnderlying24 (by decide) h41 rfl fun _ _ A39 k40 S T => ?_
  replace S : SL ([sl .own ku8 A37 k38 x36, sl .own ku8 A30 k31 x29, sl .own ku8 A39 k40 (((x1 ++ x22) ++ x29) ++ x36), sl .own ku8 A23 k24 x22, sl m3 ku8 A2 x1.length x1, sl m7 ku8 A5 k6 x4, sl .ro ku8 A9 k10 x8.Key, sl .ro ku8 A11 k12 x8.Value, blk b13 [.slice A9 x8.Key.length k10, .int .u64 x8.Seq, .bool x8.Del, .slice A11 x8.Value.length k12]] ++ F) _ := S
  refine r_pv T rfl rfl fun _ T => ?_
  replace S := SL.val (κ := ku8) (x := x20) (cs := [.int .u8 x20]) (fun _ => rfl) S
  refine r_bsl (κ := ku8) (xs := [x20]) (vs := [.int .u8 x20]) T S sty24 rfl ⟨_, _, rfl, ⟨0, rfl⟩, rfl⟩ rfl (by decide) rfl fun _ _ b42 S T => ?_
  replace S : SL ([sl .own ku8 (some ⟨b42, 0, none⟩) 1 [x20], sl .own ku8 A37 k38 x36, sl .own ku8 A30 k31 x29, sl .own ku8 A39 k40 (((x1 ++ x22) ++ x29) ++ x36), sl .own ku8 A23 k24 x22, sl m3 ku8 A2 x1.length x1, sl m7 ku8 A5 k6 x4, sl .ro ku8 A9 k10 x8.Key, sl .ro ku8 A11 k12 x8.Value, blk b13 [.slice A9 x8.Key.length k10, .int .u64 x8.Seq, .bool x8.Del, .slice A11 x8.Value.length k12]] ++ F) _ := S.only [0, 1, 1, 1, 1, 1, 1, 1, 1, 1] rfl
  obtain ⟨h45, H⟩ := ck H
  refine r_app (ix := 3) (iy := 0) (xs := (((x1 ++ x22) ++ x29) ++ x36)) (ys := [x20]) T S rfl rfl rfl rfl (by decide) sty24 Try.runUnderlying24 (by decide) h45 rfl fun _ _ A43 k44 S T => ?_
  replace S : SL ([sl .own ku8 (some ⟨b42, 0, none⟩) 1 [x20], sl .own ku8 A37 k38 x36, sl .own ku8 A30 k31 x29, sl .own ku8 A43 k44 ((((x1 ++ x22) ++ x29) ++ x36) ++ [x20]), sl .own ku8 A23 k24 x22, sl m3 ku8 A2 x1.length x1, sl m7 ku8 A5 k6 x4, sl .ro ku8 A9 k10 x8.Key, sl .ro ku8 A11 k12 x8.Value, blk b13 [.slice A9 x8.Key.length k10, .int .u64 x8.Seq, .bool x8.Del, .slice A11 x8.Value.length k12]] ++ F) _ := S
  refine r_pv T rfl rfl fun _ T => ?_
  refine Gets.seq ?_
  refine rg ?_
  refine r_pv T rfl rfl fun _ T => ?_
  refine r_fa (o' := 3) T rfl Try.runUnderlying36 rfl Try.sizeOf24 rfl rfl fun _ T => ?_
  refine r_ldB (ix := 9) T S rfl Try.isAgg24 rfl rfl rfl fun _ T => ?_
  refine r_lenS T rfl Try.runUnderlying24 rfl fun _ T => ?_
  refine r_conv T rfl Try.runUnderlying3 Try.runUnderlying34 rfl fun _ T => ?_
  obtain ⟨x47, h46, H⟩ := bd H
  refine r_call T Try.call55 rfl rfl (codec_Number.ok _ _ z (wr .u64 (x8.Value.length : Int)) (S.sel (p := []) (is := []) rfl) _ h46) ?_
  rintro _ _ ⟨A48, k49, rfl, S⟩
  refine ⟨_, rfl, fun _ T => ?_⟩
  replace S : SL ([sl .own ku8 A48 k49 x47, sl .own ku8 (some ⟨b42, 0, none⟩) 1 [x20], sl .own ku8 A37 k38 x36, sl .own ku8 A30 k31 x29, sl .own ku8 A43 k44 ((((x1 ++ x22) ++ x29) ++ x36) ++ [x20]), sl .own ku8 A23 k24 x22, sl m3 ku8 A2 x1.length x1, sl m7 ku8 A5 k6 x4, sl .ro ku8 A9 k10 x8.Key, sl .ro ku8 A11 k12 x8.Value, blk b13 [.slice A9 x8.Key.length k10, .int .u64 x8.Seq, .bool x8.Del, .slice A11 x8.Value.length k12]] ++ F) _ := S.join
  obtain ⟨h52, H⟩ := ck H
  refine r_app (ix := 4) (iy := 0) (xs := ((((x1 ++ x22) ++ x29) ++ x36) ++ [x20])) (ys := x47) T S rfl rfl rfl rfl (by decide) sty24 Try.runUnderlying24 (by decide) h52 rfl fun _ _ A50 k51 S T => ?_
  replace S : SL ([sl .own ku8 A48 k49 x47, sl .own ku8 (some ⟨b42, 0, none⟩) 1 [x20], sl .own ku8 A37 k38 x36, sl .own ku8 A30 k31 x29, sl .own ku8 A50 k51 (((((x1 ++ x22) ++ x29) ++ x36) ++ [x20]) ++ x47), sl .own ku8 A23 k24 x22, sl m3 ku8 A2 x1.length x1, sl m7 ku8 A5 k6 x4, sl .ro ku8 A9 k10 x8.Key, sl .ro ku8 A11 k12 x8.Value, blk b13 [.slice A9 x8.Key.length k10, .int .u64 x8.Seq, .bool x8.Del, .slice A11 x8.Value.length k12]] ++ F) _ := S
  refine r_pv T rfl rfl fun _ T => ?_
  refine Gets.seq ?_
  have h53 := S.len (i := 8) rfl
  obtain ⟨h54, H⟩ := ck H
  replace S := S.cutR (ix := 8) (i := x14) (j := (x8.Key.length : Int)) (k := (k10 : Int)) rfl h54.1 h54.2 (Int.le_refl _) (by omega) (by omega)
  refine Gets.drawn (l := [sl .ro ku8 (slA A9 (Int.toNat (k10 : Int)) (Int.toNat x14) 1) (Int.toNat (k10 : Int) - Int.toNat x14) (cut x8.Key (Int.toNat x14) (Int.toNat (x8.Key.length : Int))), sl .own ku8 A48 k49 x47, sl .own ku8 (some ⟨b42, 0, none⟩) 1 [x20], sl .own ku8 A37 k38 x36, sl .own ku8 A30 k31 x29, sl .own ku8 A50 k51 (((((x1 ++ x22) ++ x29) ++ x36) ++ [x20]) ++ x47), sl .own ku8 A23 k24 x22, sl m3 ku8 A2 x1.length x1, sl m7 ku8 A5 k6 x4, sl .ro ku8 A9 k10 x8.Key, sl .ro ku8 A11 k12 x8.Value, blk b13 [.slice A9 x8.Key.length k10, .int .u64 x8.Seq, .bool x8.Del, .slice A11 x8.Value.length k12]]) (V := [some (.slice A50 ((((((x1 ++ x22) ++ x29) ++ x36) ++ [x20]) ++ x47).length) k51, true), some (.pointer (some ⟨b13, 0, none⟩), true), some (.slice A9 x8.Key.length k10, true), some (.int .i64 x14, true), some (.slice (slA A9 (Int.toNat (k10 : Int)) (Int.toNat x14) 1) ((cut x8.Key (Int.toNat x14) (Int.toNat (x8.Key.length : Int))).length) (Int.toNat (k10 : Int) - Int.toNat x14), true), none, some (.pointer (some ⟨b13, 3, none⟩), true), some (.slice A11 x8.Value.length k12, true), none, none]) mixed T S rfl ?_
  refine stage (some 5) rfl rfl ⟨⟨_, [(0, .slice A50 ((((((x1 ++ x22) ++ x29) ++ x36) ++ [x20]) ++ x47).length) k51)], rfl, ⟨.inr ⟨rfl, rfl⟩, trivial⟩, fun u a w T S => (by refine r_pv T rfl rfl fun _ T => ?_; exact ⟨rfl, T⟩)⟩, ⟨_, [(5, .pointer (some ⟨b13, 0, none⟩))], rfl, ⟨.inr ⟨rfl, rfl⟩, trivial⟩, fun u a w T S => (by refine r_fa (o' := 0) T rfl Try.runUnderlying36 rfl Try.sizeOf24 rfl rfl fun _ T => ?_; exact ⟨rfl, T⟩)⟩, ⟨_, [(63, .pointer (some ⟨b13, 0, none⟩))], rfl, ⟨.inl ⟨1, rfl, rfl, rfl, rfl⟩, trivial⟩, fun u a w T S => (by refine r_ldB (ix := 11) T S rfl Try.isAgg24 rfl rfl rfl fun _ T => ?_; exact ⟨rfl, T⟩)⟩, ⟨_, [(7, .int .i64 x14)], rfl, ⟨.inr ⟨rfl, rfl⟩, trivial⟩, fun u a w T S => (by refine r_pv T rfl rfl fun _ T => ?_; exact ⟨rfl, T⟩)⟩, ⟨_, [(64, .slice A9 x8.Key.length k10), (65, .int .i64 x14)], rfl, ⟨.inl ⟨2, rfl, rfl, rfl, rfl⟩, .inl ⟨3, rfl, rfl, rfl, rfl⟩, trivial⟩, fun u a w T S => (by refine r_slQ (xs := x8.Key) T rfl (fun h => by cases h) rfl rfl rfl h54.1 h54.2 (Int.le_refl _) (by omega) (by omega) Try.runUnderlying24 Try.sizeOf5 rfl fun _ T => ?_; exact ⟨rfl, T⟩)⟩, ⟨_, [(5, .pointer (some ⟨b13, 0, none⟩))], rfl, ⟨.inr ⟨rfl, rfl⟩, trivial⟩, fun u a w T S => (by refine r_fa (o' := 3) T rfl Try.runUnderlying36 rfl Try.sizeOf24 rfl rfl fun _ T => ?_; exact ⟨rfl, T⟩)⟩, ⟨_, [(68, .pointer (some ⟨b13, 3, none⟩))], rfl, ⟨.inl ⟨6, rfl, rfl, rfl, rfl⟩, trivial⟩, fun u a w T S => (by refine r_ldB (ix := 11) T S rfl Try.isAgg24 rfl rfl rfl fun _ T => ?_; exact ⟨rfl, T⟩)⟩, trivial⟩ rfl (fun i hi => ?_) (fun h => by cases h)
  cases hi
  refine ⟨rfl, _, [(62, .slice A50 ((((((x1 ++ x22) ++ x29) ++ x36) ++ [x20]) ++ x47).length) k51), (66, .slice (slA A9 (Int.toNat (k10 : Int)) (Int.toNat x14) 1) ((cut x8.Key (Int.toNat x14) (Int.toNat (x8.Key.length : Int))).length) (Int.toNat (k10 : Int) - Int.toNat x14))], rfl, ⟨.inl ⟨0, rfl, rfl, rfl, rfl⟩, .inl ⟨4, rfl, rfl, rfl, rfl⟩, trivial⟩, fun u a w T S => ?_⟩
  obtain ⟨h57, H⟩ := ck H
  refine r_app (ix := 5) (iy := 0) (xs := (((((x1 ++ x22) ++ x29) ++ x36) ++ [x20]) ++ x47)) (ys := (cut x8.Key (Int.toNat x14) (Int.toNat (x8.Key.length : Int)))) T S rfl rfl rfl rfl (by decide) sty24 Try.runUnderlying24 (by decide) h57 rfl fun _ _ A55 k56 S T => ?_
  replace S : SL ([sl .ro ku8 (slA A9 (Int.toNat (k10 : Int)) (Int.toNat x14) 1) (Int.toNat (k10 : Int) - Int.toNat x14) (cut x8.Key (Int.toNat x14) (Int.toNat (x8.Key.length : Int))), sl .own ku8 A48 k49 x47, sl .own ku8 (some ⟨b42, 0, none⟩) 1 [x20], sl .own ku8 A37 k38 x36, sl .own ku8 A30 k31 x29, sl .own ku8 A55 k56 ((((((x1 ++ x22) ++ x29) ++ x36) ++ [x20]) ++ x47) ++ (cut x8.Key (Int.toNat x14) (Int.toNat (x8.Key.length : Int)))), sl .own ku8 A23 k24 x22, sl m3 ku8 A2 x1.length x1, sl m7 ku8 A5 k6 x4, sl .ro ku8 A9 k10 x8.Key, sl .ro ku8 A11 k12 x8.Value, blk b13 [.slice A9 x8.Key.length k10, .int .u64 x8.Seq, .bool x8.Del, .slice A11 x8.Value.length k12]] ++ F) _ := S
  refine ⟨_, [some (.slice A50 ((((((x1 ++ x22) ++ x29) ++ x36) ++ [x20]) ++ x47).length) k51, false), some (.pointer (some ⟨b13, 0, none⟩), true), some (.slice A9 x8.Key.length k10, true), some (.int .i64 x14, true), some (.slice (slA A9 (Int.toNat (k10 : Int)) (Int.toNat x14) 1) ((cut x8.Key (Int.toNat x14) (Int.toNat (x8.Key.length : Int))).length) (Int.toNat (k10 : Int) - Int.toNat x14), false), some (.slice A55 (((((((x1 ++ x22) ++ x29) ++ x36) ++ [x20]) ++ x47) ++ (cut x8.Key (Int.toNat x14) (Int.toNat (x8.Key.length : Int)))).length) k56, false), some (.pointer (some ⟨b13, 3, none⟩), true), some (.slice A11 x8.Value.length k12, true), none, none], [sl .ro ku8 (slA A9 (Int.toNat (k10 : Int)) (Int.toNat x14) 1) (Int.toNat (k10 : Int) - Int.toNat x14) (cut x8.Key (Int.toNat x14) (Int.toNat (x8.Key.length : Int))), sl .own ku8 A48 k49 x47, sl .own ku8 (some ⟨b42, 0, none⟩) 1 [x20], sl .own ku8 A37 k38 x36, sl .own ku8 A30 k31 x29, sl .own ku8 A55 k56 ((((((x1 ++ x22) ++ x29) ++ x36) ++ [x20]) ++ x47) ++ (cut x8.Key (Int.toNat x14) (Int.toNat (x8.Key.length : Int)))), sl .own ku8 A23 k24 x22, sl m3 ku8 A2 x1.length x1, sl m7 ku8 A5 k6 x4, sl .ro ku8 A9 k10 x8.Key, sl .ro ku8 A11 k12 x8.Value, blk b13 [.slice A9 x8.Key.length k10, .int .u64 x8.Seq, .bool x8.Del, .slice A11 x8.Value.length k12]], rfl, ⟨.inr ⟨_, _, _, rfl, rfl⟩, .inr ⟨_, _, _, rfl, rfl⟩, .inr ⟨_, _, _, rfl, rfl⟩, .inr ⟨_, _, _, rfl, rfl⟩, .inr ⟨_, _, _, rfl, rfl⟩, .inl rfl, .inr ⟨_, _, _, rfl, rfl⟩, .inr ⟨_, _, _, rfl, rfl⟩, .inl rfl, .inl rfl, trivial⟩, rfl, ?_, T, S⟩
  refine stage (some 8) rfl rfl ⟨⟨_, [(5, .pointer (some ⟨b13, 0, none⟩))], rfl, ⟨.inr ⟨rfl, rfl⟩, trivial⟩, fun u a w T S => (by refine r_fa (o' := 0) T rfl Try.runUnderlying36 rfl Try.sizeOf24 rfl rfl fun _ T => ?_; exact ⟨rfl, T⟩)⟩, ⟨_, [(63, .pointer (some ⟨b13, 0, none⟩))], rfl, ⟨.inl ⟨1, rfl, rfl, rfl, rfl⟩, trivial⟩, fun u a w T S => (by refine r_ldB (ix := 11) T S rfl Try.isAgg24 rfl rfl rfl fun _ T => ?_; exact ⟨rfl, T⟩)⟩, ⟨_, [(7, .int .i64 x14)], rfl, ⟨.inr ⟨rfl, rfl⟩, trivial⟩, fun u a w T S => (by refine r_pv T rfl rfl fun _ T => ?_; exact ⟨rfl, T⟩)⟩, ⟨_, [(5, .pointer (some ⟨b13, 0, none⟩))], rfl, ⟨.inr ⟨rfl, rfl⟩, trivial⟩, fun u a w T S => (by refine r_fa (o' := 3) T rfl Try.runUnderlying36 rfl Try.sizeOf24 rfl rfl fun _ T => ?_; exact ⟨rfl, T⟩)⟩, ⟨_, [(68, .pointer (some ⟨b13, 3, none⟩))], rfl, ⟨.inl ⟨6, rfl, rfl, rfl, rfl⟩, trivial⟩, fun u a w T S => (by refine r_ldB (ix := 11) T S rfl Try.isAgg24 rfl rfl rfl fun _ T => ?_; exact ⟨rfl, T⟩)⟩, trivial⟩ rfl (fun i hi => ?_) (fun h => by cases h)
  cases hi
  refine ⟨rfl, _, [(67, .slice A55 (((((((x1 ++ x22) ++ x29) ++ x36) ++ [x20]) ++ x47) ++ (cut x8.Key (Int.toNat x14) (Int.toNat (x8.Key.length : Int)))).length) k56), (69, .slice A11 x8.Value.length k12)], rfl, ⟨.inl ⟨5, rfl, rfl, rfl, rfl⟩, .inl ⟨7, rfl, rfl, rfl, rfl⟩, trivial⟩, fun u a w T S => ?_⟩
  obtain ⟨h60, H⟩ := ck H
  refine r_app (ix := 5) (iy := 10) (xs := ((((((x1 ++ x22) ++ x29) ++ x36) ++ [x20]) ++ x47) ++ (cut x8.Key (Int.toNat x14) (Int.toNat (x8.Key.length : Int))))) (ys := x8.Value) T S rfl rfl rfl rfl (by decide) sty24 Try.runUnderlying24 (by decide) h60 rfl fun _ _ A58 k59 S T => ?_
  replace S : SL ([sl .ro ku8 (slA A9 (Int.toNat (k10 : Int)) (Int.toNat x14) 1) (Int.toNat (k10 : Int) - Int.toNat x14) (cut x8.Key (Int.toNat x14) (Int.toNat (x8.Key.length : Int))), sl .own ku8 A48 k49 x47, sl .own ku8 (some ⟨b42, 0, none⟩) 1 [x20], sl .own ku8 A37 k38 x36, sl .own ku8 A30 k31 x29, sl .own ku8 A58 k59 (((((((x1 ++ x22) ++ x29) ++ x36) ++ [x20]) ++ x47) ++ (cut x8.Key (Int.toNat x14) (Int.toNat (x8.Key.length : Int)))) ++ x8.Value), sl .own ku8 A23 k24 x22, sl m3 ku8 A2 x1.length x1, sl m7 ku8 A5 k6 x4, sl .ro ku8 A9 k10 x8.Key, sl .ro ku8 A11 k12 x8.Value, blk b13 [.slice A9 x8.Key.length k10, .int .u64 x8.Seq, .bool x8.Del, .slice A11 x8.Value.length k12]] ++ F) _ := S
  refine ⟨_, [some (.slice A50 ((((((x1 ++ x22) ++ x29) ++ x36) ++ [x20]) ++ x47).length) k51, false), some (.pointer (some ⟨b13, 0, none⟩), true), some (.slice A9 x8.Key.length k10, true), some (.int .i64 x14, true), some (.slice (slA A9 (Int.toNat (k10 : Int)) (Int.toNat x14) 1) ((cut x8.Key (Int.toNat x14) (Int.toNat (x8.Key.length : Int))).length) (Int.toNat (k10 : Int) - Int.toNat x14), false), some (.slice A55 (((((((x1 ++ x22) ++ x29) ++ x36) ++ [x20]) ++ x47) ++ (cut x8.Key (Int.toNat x14) (Int.toNat (x8.Key.length : Int)))).length) k56, false), some (.pointer (some ⟨b13, 3, none⟩), true), some (.slice A11 x8.Value.length k12, false), some (.slice A58 ((((((((x1 ++ x22) ++ x29) ++ x36) ++ [x20]) ++ x47) ++ (cut x8.Key (Int.toNat x14) (Int.toNat (x8.Key.length : Int)))) ++ x8.Value).length) k59, false), some (.slice A58 ((((((((x1 ++ x22) ++ x29) ++ x36) ++ [x20]) ++ x47) ++ (cut x8.Key (Int.toNat x14) (Int.toNat (x8.Key.length : Int)))) ++ x8.Value).length) k59, true)], [sl .ro ku8 (slA A9 (Int.toNat (k10 : Int)) (Int.toNat x14) 1) (Int.toNat (k10 : Int) - Int.toNat x14) (cut x8.Key (Int.toNat x14) (Int.toNat (x8.Key.length : Int))), sl .own ku8 A48 k49 x47, sl .own ku8 (some ⟨b42, 0, none⟩) 1 [x20], sl .own ku8 A37 k38 x36, sl .own ku8 A30 k31 x29, sl .own ku8 A58 k59 (((((((x1 ++ x22) ++ x29) ++ x36) ++ [x20]) ++ x47) ++ (cut x8.Key (Int.toNat x14) (Int.toNat (x8.Key.length : Int)))) ++ x8.Value), sl .own ku8 A23 k24 x22, sl m3 ku8 A2 x1.length x1, sl m7 ku8 A5 k6 x4, sl .ro ku8 A9 k10 x8.Key, sl .ro ku8 A11 k12 x8.Value, blk b13 [.slice A9 x8.Key.length k10, .int .u64 x8.Seq, .bool x8.Del, .slice A11 x8.Value.length k12]], rfl, ⟨.inr ⟨_, _, _, rfl, rfl⟩, .inr ⟨_, _, _, rfl, rfl⟩, .inr ⟨_, _, _, rfl, rfl⟩, .inr ⟨_, _, _, rfl, rfl⟩, .inr ⟨_, _, _, rfl, rfl⟩, .inr ⟨_, _, _, rfl, rfl⟩, .inr ⟨_, _, _, rfl, rfl⟩, .inr ⟨_, _, _, rfl, rfl⟩, .inl rfl, .inl rfl, trivial⟩, rfl, ?_, T, S⟩
  refine stage none rfl rfl ⟨⟨_, [(5, .pointer (some ⟨b13, 0, none⟩))], rfl, ⟨.inr ⟨rfl, rfl⟩, trivial⟩, fun u a w T S => (by refine r_fa (o' := 0) T rfl Try.runUnderlying36 rfl Try.sizeOf24 rfl rfl fun _ T => ?_; exact ⟨rfl, T⟩)⟩, ⟨_, [(63, .pointer (some ⟨b13, 0, none⟩))], rfl, ⟨.inl ⟨1, rfl, rfl, rfl, rfl⟩, trivial⟩, fun u a w T S => (by refine r_ldB (ix := 11) T S rfl Try.isAgg24 rfl rfl rfl fun _ T => ?_; exact ⟨rfl, T⟩)⟩, ⟨_, [(7, .int .i64 x14)], rfl, ⟨.inr ⟨rfl, rfl⟩, trivial⟩, fun u a w T S => (by refine r_pv T rfl rfl fun _ T => ?_; exact ⟨rfl, T⟩)⟩, ⟨_, [(5, .pointer (some ⟨b13, 0, none⟩))], rfl, ⟨.inr ⟨rfl, rfl⟩, trivial⟩, fun u a w T S => (by refine r_fa (o' := 3) T rfl Try.runUnderlying36 rfl Try.sizeOf24 rfl rfl fun _ T => ?_; exact ⟨rfl, T⟩)⟩, ⟨_, [(70, .slice A58 ((((((((x1 ++ x22) ++ x29) ++ x36) ++ [x20]) ++ x47) ++ (cut x8.Key (Int.toNat x14) (Int.toNat (x8.Key.length : Int)))) ++ x8.Value).length) k59)], rfl, ⟨.inl ⟨8, rfl, rfl, rfl, rfl⟩, trivial⟩, fun u a w T S => (by refine r_pv T rfl rfl fun _ T => ?_; exact ⟨rfl, T⟩)⟩, trivial⟩ rfl (fun i hi => by cases hi) (fun _ _ a w T hv hb S => ?_)
  replace T := T.sub (r := [(6, .slice A58 ((((((((x1 ++ x22) ++ x29) ++ x36) ++ [x20]) ++ x47) ++ (cut x8.Key (Int.toNat x14) (Int.toNat (x8.Key.length : Int)))) ++ x8.Value).length) k59)]) ⟨hv 9 _ 6 rfl rfl rfl, trivial⟩
  replace H := Option.some.inj H
  subst H
  exact rtn T Try.func53 rfl rfl ⟨A58, k59, rfl, (S.only (p := [sl .own ku8 A58 k59 (((((((x1 ++ x22) ++ x29) ++ x36) ++ [x20]) ++ x47) ++ (cut x8.Key (Int.toNat x14) (Int.toNat (x8.Key.length : Int)))) ++ x8.Value), sl m3 ku8 A2 x1.length x1, sl m7 ku8 A5 k6 x4, sl .ro ku8 A9 k10 x8.Key, sl .ro ku8 A11 k12 x8.Value]) [5, 6, 6, 6, 6] rfl)⟩
theorem J1_ok (F : List Atom) (r : (List Int)) (z : Nat) (x1 : List Int) (A2 : Option Addr) (m3 : Md) (x4 : List Int) (A5 : Option Addr) (k6 : Nat) (m7 : Md) (x8 : api_Entry) (A9 : Option Addr) (k10 : Nat) (A11 : Option Addr) (k12 : Nat) (b13 : Nat) (x14 : Int) (a : Act) (w : World) (T : Tm 71 [(0, .slice A2 x1.length x1.length), (5, .pointer (some ⟨b13, 0, none⟩)), (7, .int .i64 x14)] a) (S : SL ([sl m3 ku8 A2 x1.length x1, sl m7 ku8 A5 k6 x4, sl .ro ku8 A9 k10 x8.Key, sl .ro ku8 A11 k12 x8.Value, blk b13 [.slice A9 x8.Key.length k10, .int .u64 x8.Seq, .bool x8.Del, .slice A11 x8.Value.length k12]] ++ F) w) (H : J1 z x1 x8 x14 = some r) : Gets Try.prog 53 ptJ1 a w (R F x1 A2 m3 x4 A5 k6 m7 x8 A9 k10 A11 k12 r) := by
  refine rg ?_
  refine r_pv T rfl rfl fun _ T => ?_
  refine Gets.seq (Gets.seq ?_)
  refine rg ?_
  refine r_fa (o' := 2) T rfl Try.runUnderlying36 rfl Try.sizeOf4 rfl rfl fun _ T => ?_
  refine r_ldB (ix := 4) T S rfl Try.isAgg4 rfl rfl rfl fun _ T => ?_
  rcases ifE H with ⟨h19, H⟩ | ⟨h19, H⟩
  · refine cdT T rfl h19 ?_
    refine rg ?_
    refine r_pv T rfl rfl fun _ T => ?_
    refine Gets.seq ?_
    exact J2_ok F r z x1 A2 m3 x4 A5 k6 m7 x8 A9 k10 A11 k12 b13 x14 1 _ _ (T.sub ⟨rfl, rfl, rfl, rfl, trivial⟩) (S.only (p := [sl m3 ku8 A2 x1.length x1, sl m7 ku8 A5 k6 x4, sl .ro ku8 A9 k10 x8.Key, sl .ro ku8 A11 k12 x8.Value, blk b13 [.slice A9 x8.Key.length k10, .int .u64 x8.Seq, .bool x8.Del, .slice A11 x8.Value.length k12]]) [0, 0, 0, 0, 0] rfl) H
  · refine cdF T rfl h19 ?_
    refine Gets.skip (Gets.seq ?_)
    exact J2_ok F r z x1 A2 m3 x4 A5 k6 m7 x8 A9 k10 A11 k12 b13 x14 0 _ _ (T.sub ⟨rfl, rfl, rfl, rfl, trivial⟩) (S.only (p := [sl m3 ku8 A2 x1.length x1, sl m7 ku8 A5 k6 x4, sl .ro ku8 A9 k10 x8.Key, sl .ro ku8 A11 k12 x8.Value, blk b13 [.slice A9 x8.Key.length k10, .int .u64 x8.Seq, .bool x8.Del, .slice A11 x8.Value.length k12]]) [0, 0, 0, 0, 0] rfl) H
theorem L0_ok (F : List Atom) (r : (List Int)) (z : Nat) (x1 : List Int) (A2 : Option Addr) (m3 : Md) (x4 : List Int) (A5 : Option Addr) (k6 : Nat) (m7 : Md) (x8 : api_Entry) (A9 : Option Addr) (k10 : Nat) (A11 : Option Addr) (k12 : Nat) (b13 : Nat) (m : Nat) : ∀ (x14 : Int) (a : Act) (w : World), Tm 71 [(0, .slice A2 x1.length x1.length), (1, .slice A5 x4.length k6), (5, .pointer (some ⟨b13, 0, none⟩)), (7, .int .i64 x14)] a → SL ([sl m3 ku8 A2 x1.length x1, sl m7 ku8 A5 k6 x4, sl .ro ku8 A9 k10 x8.Key, sl .ro ku8 A11 k12 x8.Value, blk b13 [.slice A9 x8.Key.length k10, .int .u64 x8.Seq, .bool x8.Del, .slice A11 x8.Value.length k12]] ++ F) w → L0 z x1 x4 x8 m x14 = some r → Gets Try.prog 53 ptL0 a w (R F x1 A2 m3 x4 A5 k6 m7 x8 A9 k10 A11 k12 r) := by
  induction m with
  | zero => intro _ _ _ _ _ H; cases H
  | succ m ih =>
    intro x14 a w T S H
    refine Gets.seq ?_
    refine Gets.seq ?_
    rcases ifE H with ⟨h15, H⟩ | ⟨h15, H⟩
    · obtain ⟨h16, H⟩ := ck H
      obtain ⟨h17, H⟩ := ck H
      refine Gets.drawn (l := [sl m3 ku8 A2 x1.length x1, sl m7 ku8 A5 k6 x4, sl .ro ku8 A9 k10 x8.Key, sl .ro ku8 A11 k12 x8.Value, blk b13 [.slice A9 x8.Key.length k10, .int .u64 x8.Seq, .bool x8.Del, .slice A11 x8.Value.length k12]]) (V := [some (.int .i64 x14, true), some (.slice A5 x4.length k6, true), some (.int .i64 (x4.length : Int), true), some (.pointer (some ⟨b13, 0, none⟩), true), some (.slice A9 x8.Key.length k10, true), some (.int .i64 (x8.Key.length : Int), true), some (.int .i64 (mn (x4.length : Int) (x8.Key.length : Int)), true), some (.bool (decide (x14 < (mn (x4.length : Int) (x8.Key.length : Int)))), true), some (.bool (decide (x14 < (mn (x4.length : Int) (x8.Key.length : Int)))), true), some (.slice A5 x4.length k6, true), some (.int .i64 x14, true), some (.pointer (some (eA A5 (Int.toNat x14 * 1))), true), some (.int .u8 (gi (0 : Int) x4 x14), true), some (.pointer (some ⟨b13, 0, none⟩), true), some (.slice A9 x8.Key.length k10, true), some (.int .i64 x14, true), some (.pointer (some (eA A9 (Int.toNat x14 * 1))), true), some (.int .u8 (gi (0 : Int) x8.Key x14), true), some (.bool ((gi (0 : Int) x4 x14) == (gi (0 : Int) x8.Key x14)), true), some (.bool ((gi (0 : Int) x4 x14) == (gi (0 : Int) x8.Key x14)), true)]) mixed T S rfl ?_
      refine stage none rfl rfl ⟨⟨_, [(7, .int .i64 x14)], rfl, ⟨.inr ⟨rfl, rfl⟩, trivial⟩, fun u a w T S => (by refine r_pv T rfl rfl fun _ T => ?_; exact ⟨rfl, T⟩)⟩, ⟨_, [(1, .slice A5 x4.length k6)], rfl, ⟨.inr ⟨rfl, rfl⟩, trivial⟩, fun u a w T S => (by refine r_pv T rfl rfl fun _ T => ?_; exact ⟨rfl, T⟩)⟩, ⟨_, [(10, .slice A5 x4.length k6)], rfl, ⟨.inl ⟨1, rfl, rfl, rfl, rfl⟩, trivial⟩, fun u a w T S => (by refine r_lenS T rfl Try.runUnderlying24 rfl fun _ T => ?_; exact ⟨rfl, T⟩)⟩, ⟨_, [(5, .pointer (some ⟨b13, 0, none⟩))], rfl, ⟨.inr ⟨rfl, rfl⟩, trivial⟩, fun u a w T S => (by refine r_fa (o' := 0) T rfl Try.runUnderlying36 rfl Try.sizeOf24 rfl rfl fun _ T => ?_; exact ⟨rfl, T⟩)⟩, ⟨_, [(12, .pointer (some ⟨b13, 0, none⟩))], rfl, ⟨.inl ⟨3, rfl, rfl, rfl, rfl⟩, trivial⟩, fun u a w T S => (by refine r_ldB (ix := 4) T S rfl Try.isAgg24 rfl rfl rfl fun _ T => ?_; exact ⟨rfl, T⟩)⟩, ⟨_, [(13, .slice A9 x8.Key.length k10)], rfl, ⟨.inl ⟨4, rfl, rfl, rfl, rfl⟩, trivial⟩, fun u a w T S => (by refine r_lenS T rfl Try.runUnderlying24 rfl fun _ T => ?_; exact ⟨rfl, T⟩)⟩, ⟨_, [(11, .int .i64 (x4.length : Int)), (14, .int .i64 (x8.Key.length : Int))], rfl, ⟨.inl ⟨2, rfl, rfl, rfl, rfl⟩, .inl ⟨5, rfl, rfl, rfl, rfl⟩, trivial⟩, fun u a w T S => (by refine r_min T rfl rfl rfl fun _ T => ?_; exact ⟨rfl, T⟩)⟩, ⟨_, [(9, .int .i64 x14), (15, .int .i64 (mn (x4.length : Int) (x8.Key.length : Int)))], rfl, ⟨.inl ⟨0, rfl, rfl, rfl, rfl⟩, .inl ⟨6, rfl, rfl, rfl, rfl⟩, trivial⟩, fun u a w T S => (by refine r_pv T rfl rfl fun _ T => ?_; exact ⟨rfl, T⟩)⟩, ⟨_, [(16, .bool (decide (x14 < (mn (x4.length : Int) (x8.Key.length : Int)))))], rfl, ⟨.inl ⟨7, rfl, rfl, rfl, rfl⟩, trivial⟩, fun u a w T S => (by refine r_pv T rfl rfl fun _ T => ?_; exact ⟨rfl, T⟩)⟩, ⟨_, [(1, .slice A5 x4.length k6), (17, .bool (decide (x14 < (mn (x4.length : Int) (x8.Key.length : Int)))))], rfl, ⟨.inr ⟨rfl, rfl⟩, .inl ⟨8, rfl, rfl, rfl, rfl⟩, trivial⟩, fun u a w T S => (by refine g_yes T rfl rfl h15 ?_; refine r_pv T rfl rfl fun _ T => ?_; exact ⟨rfl, T⟩)⟩, ⟨_, [(7, .int .i64 x14), (17, .bool (decide (x14 < (mn (x4.length : Int) (x8.Key.length : Int)))))], rfl, ⟨.inr ⟨rfl, rfl⟩, .inl ⟨8, rfl, rfl, rfl, rfl⟩, trivial⟩, fun u a w T S => (by refine g_yes T rfl rfl h15 ?_; refine r_pv T rfl rfl fun _ T => ?_; exact ⟨rfl, T⟩)⟩, ⟨_, [(18, .slice A5 x4.length k6), (19, .int .i64 x14), (17, .bool (decide (x14 < (mn (x4.length : Int) (x8.Key.length : Int)))))], rfl, ⟨.inl ⟨9, rfl, rfl, rfl, rfl⟩, .inl ⟨10, rfl, rfl, rfl, rfl⟩, .inl ⟨8, rfl, rfl, rfl, rfl⟩, trivial⟩, fun u a w T S => (by refine g_yes T rfl rfl h15 ?_; refine r_ia (ix := 1) T S rfl rfl rfl rfl Try.runUnderlying24 Try.sizeOf5 h16.1 h16.2 rfl fun _ T => ?_; exact ⟨rfl, T⟩)⟩, ⟨_, [(20, .pointer (some (eA A5 (Int.toNat x14 * 1)))), (17, .bool (decide (x14 < (mn (x4.length : Int) (x8.Key.length : Int)))))], rfl, ⟨.inl ⟨11, rfl, rfl, rfl, rfl⟩, .inl ⟨8, rfl, rfl, rfl, rfl⟩, trivial⟩, fun u a w T S => (by refine g_yes T rfl rfl h15 ?_; refine r_ldE (ix := 1) (i := x14) (off := 0) (f := (Value.int .u8)) T S rfl Try.isAgg5 rfl (0 : Int) _ rfl rfl (Fld.all _) h16.1 h16.2 (fun h => h) rfl fun _ T => ?_; exact ⟨rfl, T⟩)⟩, ⟨_, [(5, .pointer (some ⟨b13, 0, none⟩)), (17, .bool (decide (x14 < (mn (x4.length : Int) (x8.Key.length : Int)))))], rfl, ⟨.inr ⟨rfl, rfl⟩, .inl ⟨8, rfl, rfl, rfl, rfl⟩, trivial⟩, fun u a w T S => (by refine g_yes T rfl rfl h15 ?_; refine r_fa (o' := 0) T rfl Try.runUnderlying36 rfl Try.sizeOf24 rfl rfl fun _ T => ?_; exact ⟨rfl, T⟩)⟩, ⟨_, [(22, .pointer (some ⟨b13, 0, none⟩)), (17, .bool (decide (x14 < (mn (x4.length : Int) (x8.Key.length : Int)))))], rfl, ⟨.inl ⟨13, rfl, rfl, rfl, rfl⟩, .inl ⟨8, rfl, rfl, rfl, rfl⟩, trivial⟩, fun u a w T S => (by refine g_yes T rfl rfl h15 ?_; refine r_ldB (ix := 4) T S rfl Try.isAgg24 rfl rfl rfl fun _ T => ?_; exact ⟨rfl, T⟩)⟩, ⟨_, [(7, .int .i64 x14), (17, .bool (decide (x14 < (mn (x4.length : Int) (x8.Key.length : Int)))))], rfl, ⟨.inr ⟨rfl, rfl⟩, .inl ⟨8, rfl, rfl, rfl, rfl⟩, trivial⟩, fun u a w T S => (by refine g_yes T rfl rfl h15 ?_; refine r_pv T rfl rfl fun _ T => ?_; exact ⟨rfl, T⟩)⟩, ⟨_, [(23, .slice A9 x8.Key.length k10), (24, .int .i64 x14), (17, .bool (decide (x14 < (mn (x4.length : Int) (x8.Key.length : Int)))))], rfl, ⟨.inl ⟨14, rfl, rfl, rfl, rfl⟩, .inl ⟨15, rfl, rfl, rfl, rfl⟩, .inl ⟨8, rfl, rfl, rfl, rfl⟩, trivial⟩, fun u a w T S => (by refine g_yes T rfl rfl h15 ?_; refine r_ia (ix := 2) T S rfl rfl rfl rfl Try.runUnderlying24 Try.sizeOf5 h16.1 h17 rfl fun _ T => ?_; exact ⟨rfl, T⟩)⟩, ⟨_, [(25, .pointer (some (eA A9 (Int.toNat x14 * 1)))), (17, .bool (decide (x14 < (mn (x4.length : Int) (x8.Key.length : Int)))))], rfl, ⟨.inl ⟨16, rfl, rfl, rfl, rfl⟩, .inl ⟨8, rfl, rfl, rfl, rfl⟩, trivial⟩, fun u a w T S => (by refine g_yes T rfl rfl h15 ?_; refine r_ldE (ix := 2) (i := x14) (off := 0) (f := (Value.int .u8)) T S rfl Try.isAgg5 rfl (0 : Int) _ rfl rfl (Fld.all _) h16.1 h17 (fun h => h) rfl fun _ T => ?_; exact ⟨rfl, T⟩)⟩, ⟨_, [(21, .int .u8 (gi (0 : Int) x4 x14)), (26, .int .u8 (gi (0 : Int) x8.Key x14)), (17, .bool (decide (x14 < (mn (x4.length : Int) (x8.Key.length : Int)))))], rfl, ⟨.inl ⟨12, rfl, rfl, rfl, rfl⟩, .inl ⟨17, rfl, rfl, rfl, rfl⟩, .inl ⟨8, rfl, rfl, rfl, rfl⟩, trivial⟩, fun u a w T S => (by refine g_yes T rfl rfl h15 ?_; refine r_pv T rfl rfl fun _ T => ?_; exact ⟨rfl, T⟩)⟩, ⟨_, [(17, .bool (decide (x14 < (mn (x4.length : Int) (x8.Key.length : Int))))), (27, .bool ((gi (0 : Int) x4 x14) == (gi (0 : Int) x8.Key x14)))], rfl, ⟨.inl ⟨8, rfl, rfl, rfl, rfl⟩, .inl ⟨18, rfl, rfl, rfl, rfl⟩, trivial⟩, fun u a w T S => (by refine r_pickT T rfl h15 rfl rfl fun _ T => ?_; exact ⟨rfl, T⟩)⟩, trivial⟩ rfl (fun i hi => by cases hi) (fun _ _ a w T hv hb S => ?_)
      replace T := T.sub (r := [(0, .slice A2 x1.length x1.length), (1, .slice A5 x4.length k6), (5, .pointer (some ⟨b13, 0, none⟩)), (7, .int .i64 x14), (28, .bool ((gi (0 : Int) x4 x14) == (gi (0 : Int) x8.Key x14)))]) ⟨hb 0 _ rfl rfl, hb 1 _ rfl rfl, hb 5 _ rfl rfl, hb 7 _ rfl rfl, hv 19 _ 28 rfl rfl rfl, trivial⟩
      rcases ifE H with ⟨h18, H⟩ | ⟨h18, H⟩
      · refine cdT T rfl h18 ?_
        refine Gets.skip (Gets.block ?_)
        refine rg ?_
        refine r_pv T rfl rfl fun _ T => ?_
        refine r_pv T rfl rfl fun _ T => ?_
        refine r_pv T rfl rfl fun _ T => ?_
        refine Gets.inBlock (Gets.inLoop ?_)
        exact ih (wr .i64 (x14 + 1)) _ _ (T.sub ⟨rfl, rfl, rfl, rfl, trivial⟩) (S.only (p := [sl m3 ku8 A2 x1.length x1, sl m7 ku8 A5 k6 x4, sl .ro ku8 A9 k10 x8.Key, sl .ro ku8 A11 k12 x8.Value, blk b13 [.slice A9 x8.Key.length k10, .int .u64 x8.Seq, .bool x8.Del, .slice A11 x8.Value.length k12]]) [0, 0, 0, 0, 0] rfl) H
      · refine cdF T rfl h18 ?_
        refine Gets.exit rfl (Gets.seq ?_)
        exact J1_ok F r z x1 A2 m3 x4 A5 k6 m7 x8 A9 k10 A11 k12 b13 x14 _ _ (T.sub ⟨rfl, rfl, rfl, trivial⟩) (S.only (p := [sl m3 ku8 A2 x1.length x1, sl m7 ku8 A5 k6 x4, sl .ro ku8 A9 k10 x8.Key, sl .ro ku8 A11 k12 x8.Value, blk b13 [.slice A9 x8.Key.length k10, .int .u64 x8.Seq, .bool x8.Del, .slice A11 x8.Value.length k12]]) [0, 0, 0, 0, 0] rfl) H
    · refine Gets.drawn (l := [sl m3 ku8 A2 x1.length x1, sl m7 ku8 A5 k6 x4, sl .ro ku8 A9 k10 x8.Key, sl .ro ku8 A11 k12 x8.Value, blk b13 [.slice A9 x8.Key.length k10, .int .u64 x8.Seq, .bool x8.Del, .slice A11 x8.Value.length k12]]) (V := [some (.int .i64 x14, true), some (.slice A5 x4.length k6, true), some (.int .i64 (x4.length : Int), true), some (.pointer (some ⟨b13, 0, none⟩), true), some (.slice A9 x8.Key.length k10, true), some (.int .i64 (x8.Key.length : Int), true), some (.int .i64 (mn (x4.length : Int) (x8.Key.length : Int)), true), some (.bool (decide (x14 < (mn (x4.length : Int) (x8.Key.length : Int)))), true), some (.bool (decide (x14 < (mn (x4.length : Int) (x8.Key.length : Int)))), true), some (undef, true), some (undef, true), some (undef, true), some (undef, true), some (undef, true), some (undef, true), some (undef, true), some (undef, true), some (undef, true), some (undef, true), some (.bool false, true)]) mixed T S rfl ?_
      refine stage none rfl rfl ⟨⟨_, [(7, .int .i64 x14)], rfl, ⟨.inr ⟨rfl, rfl⟩, trivial⟩, fun u a w T S => (by refine r_pv T rfl rfl fun _ T => ?_; exact ⟨rfl, T⟩)⟩, ⟨_, [(1, .slice A5 x4.length k6)], rfl, ⟨.inr ⟨rfl, rfl⟩, trivial⟩, fun u a w T S => (by refine r_pv T rfl rfl fun _ T => ?_; exact ⟨rfl, T⟩)⟩, ⟨_, [(10, .slice A5 x4.length k6)], rfl, ⟨.inl ⟨1, rfl, rfl, rfl, rfl⟩, trivial⟩, fun u a w T S => (by refine r_lenS T rfl Try.runUnderlying24 rfl fun _ T => ?_; exact ⟨rfl, T⟩)⟩, ⟨_, [(5, .pointer (some ⟨b13, 0, none⟩))], rfl, ⟨.inr ⟨rfl, rfl⟩, trivial⟩, fun u a w T S => (by refine r_fa (o' := 0) T rfl Try.runUnderlying36 rfl Try.sizeOf24 rfl rfl fun _ T => ?_; exact ⟨rfl, T⟩)⟩, ⟨_, [(12, .pointer (some ⟨b13, 0, none⟩))], rfl, ⟨.inl ⟨3, rfl, rfl, rfl, rfl⟩, trivial⟩, fun u a w T S => (by refine r_ldB (ix := 4) T S rfl Try.isAgg24 rfl rfl rfl fun _ T => ?_; exact ⟨rfl, T⟩)⟩, ⟨_, [(13, .slice A9 x8.Key.length k10)], rfl, ⟨.inl ⟨4, rfl, rfl, rfl, rfl⟩, trivial⟩, fun u a w T S => (by refine r_lenS T rfl Try.runUnderlying24 rfl fun _ T => ?_; exact ⟨rfl, T⟩)⟩, ⟨_, [(11, .int .i64 (x4.length : Int)), (14, .int .i64 (x8.Key.length : Int))], rfl, ⟨.inl ⟨2, rfl, rfl, rfl, rfl⟩, .inl ⟨5, rfl, rfl, rfl, rfl⟩, trivial⟩, fun u a w T S => (by refine r_min T rfl rfl rfl fun _ T => ?_; exact ⟨rfl, T⟩)⟩, ⟨_, [(9, .int .i64 x14), (15, .int .i64 (mn (x4.length : Int) (x8.Key.length : Int)))], rfl, ⟨.inl ⟨0, rfl, rfl, rfl, rfl⟩, .inl ⟨6, rfl, rfl, rfl, rfl⟩, trivial⟩, fun u a w T S => (by refine r_pv T rfl rfl fun _ T => ?_; exact ⟨rfl, T⟩)⟩, ⟨_, [(16, .bool (decide (x14 < (mn (x4.length : Int) (x8.Key.length : Int)))))], rfl, ⟨.inl ⟨7, rfl, rfl, rfl, rfl⟩, trivial⟩, fun u a w T S => (by refine r_pv T rfl rfl fun _ T => ?_; exact ⟨rfl, T⟩)⟩, ⟨_, [(1, .slice A5 x4.length k6), (17, .bool (decide (x14 < (mn (x4.length : Int) (x8.Key.length : Int)))))], rfl, ⟨.inr ⟨rfl, rfl⟩, .inl ⟨8, rfl, rfl, rfl, rfl⟩, trivial⟩, fun u a w T S => (by refine g_no T rfl rfl h15 rfl fun _ T => ?_; exact ⟨rfl, T⟩)⟩, ⟨_, [(7, .int .i64 x14), (17, .bool (decide (x14 < (mn (x4.length : Int) (x8.Key.length : Int)))))], rfl, ⟨.inr ⟨rfl, rfl⟩, .inl ⟨8, rfl, rfl, rfl, rfl⟩, trivial⟩, fun u a w T S => (by refine g_no T rfl rfl h15 rfl fun _ T => ?_; exact ⟨rfl, T⟩)⟩, ⟨_, [(18, undef), (19, undef), (17, .bool (decide (x14 < (mn (x4.length : Int) (x8.Key.length : Int)))))], rfl, ⟨.inl ⟨9, rfl, rfl, rfl, rfl⟩, .inl ⟨10, rfl, rfl, rfl, rfl⟩, .inl ⟨8, rfl, rfl, rfl, rfl⟩, trivial⟩, fun u a w T S => (by refine g_no T rfl rfl h15 rfl fun _ T => ?_; exact ⟨rfl, T⟩)⟩, ⟨_, [(20, undef), (17, .bool (decide (x14 < (mn (x4.length : Int) (x8.Key.length : Int)))))], rfl, ⟨.inl ⟨11, rfl, rfl, rfl, rfl⟩, .inl ⟨8, rfl, rfl, rfl, rfl⟩, trivial⟩, fun u a w T S => (by refine g_no T rfl rfl h15 rfl fun _ T => ?_; exact ⟨rfl, T⟩)⟩, ⟨_, [(5, .pointer (some ⟨b13, 0, none⟩)), (17, .bool (decide (x14 < (mn (x4.length : Int) (x8.Key.length : Int)))))], rfl, ⟨.inr ⟨rfl, rfl⟩, .inl ⟨8, rfl, rfl, rfl, rfl⟩, trivial⟩, fun u a w T S => (by refine g_no T rfl rfl h15 rfl fun _ T => ?_; exact ⟨rfl, T⟩)⟩, ⟨_, [(22, undef), (17, .bool (decide (x14 < (mn (x4.length : Int) (x8.Key.length : Int)))))], rfl, ⟨.inl ⟨13, rfl, rfl, rfl, rfl⟩, .inl ⟨8, rfl, rfl, rfl, rfl⟩, trivial⟩, fun u a w T S => (by refine g_no T rfl rfl h15 rfl fun _ T => ?_; exact ⟨rfl, T⟩)⟩, ⟨_, [(7, .int .i64 x14), (17, .bool (decide (x14 < (mn (x4.length : Int) (x8.Key.length : Int)))))], rfl, ⟨.inr ⟨rfl, rfl⟩, .inl ⟨8, rfl, rfl, rfl, rfl⟩, trivial⟩, fun u a w T S => (by refine g_no T rfl rfl h15 rfl fun _ T => ?_; exact ⟨rfl, T⟩)⟩, ⟨_, [(23, undef), (24, undef), (17, .bool (decide (x14 < (mn (x4.length : Int) (x8.Key.length : Int)))))], rfl, ⟨.inl ⟨14, rfl, rfl, rfl, rfl⟩, .inl ⟨15, rfl, rfl, rfl, rfl⟩, .inl ⟨8, rfl, rfl, rfl, rfl⟩, trivial⟩, fun u a w T S => (by refine g_no T rfl rfl h15 rfl fun _ T => ?_; exact ⟨rfl, T⟩)⟩, ⟨_, [(25, undef), (17, .bool (decide (x14 < (mn (x4.length : Int) (x8.Key.length : Int)))))], rfl, ⟨.inl ⟨16, rfl, rfl, rfl, rfl⟩, .inl ⟨8, rfl, rfl, rfl, rfl⟩, trivial⟩, fun u a w T S => (by refine g_no T rfl rfl h15 rfl fun _ T => ?_; exact ⟨rfl, T⟩)⟩, ⟨_, [(21, undef), (26, undef), (17, .bool (decide (x14 < (mn (x4.length : Int) (x8.Key.length : Int)))))], rfl, ⟨.inl ⟨12, rfl, rfl, rfl, rfl⟩, .inl ⟨17, rfl, rfl, rfl, rfl⟩, .inl ⟨8, rfl, rfl, rfl, rfl⟩, trivial⟩, fun u a w T S => (by refine g_no T rfl rfl h15 rfl fun _ T => ?_; exact ⟨rfl, T⟩)⟩, ⟨_, [(17, .bool (decide (x14 < (mn (x4.length : Int) (x8.Key.length : Int))))), (27, undef)], rfl, ⟨.inl ⟨8, rfl, rfl, rfl, rfl⟩, .inl ⟨18, rfl, rfl, rfl, rfl⟩, trivial⟩, fun u a w T S => (by refine r_pickF T rfl h15 rfl rfl fun _ T => ?_; exact ⟨rfl, T⟩)⟩, trivial⟩ rfl (fun i hi => by cases hi) (fun _ _ a w T hv hb S => ?_)
      replace T := T.sub (r := [(0, .slice A2 x1.length x1.length), (1, .slice A5 x4.length k6), (5, .pointer (some ⟨b13, 0, none⟩)), (7, .int .i64 x14), (28, .bool false)]) ⟨hb 0 _ rfl rfl, hb 1 _ rfl rfl, hb 5 _ rfl rfl, hb 7 _ rfl rfl, hv 19 _ 28 rfl rfl rfl, trivial⟩
      refine cdF T rfl rfl ?_
      refine Gets.exit rfl (Gets.seq ?_)
      exact J1_ok F r z x1 A2 m3 x4 A5 k6 m7 x8 A9 k10 A11 k12 b13 x14 _ _ (T.sub ⟨rfl, rfl, rfl, trivial⟩) (S.only (p := [sl m3 ku8 A2 x1.length x1, sl m7 ku8 A5 k6 x4, sl .ro ku8 A9 k10 x8.Key, sl .ro ku8 A11 k12 x8.Value, blk b13 [.slice A9 x8.Key.length k10, .int .u64 x8.Seq, .bool x8.Del, .slice A11 x8.Value.length k12]]) [0, 0, 0, 0, 0] rfl) H
theorem ok (F : List Atom) (w : World) (z : Nat) (x1 : List Int) (x4 : List Int) (x8 : api_Entry) {A2 : Option Addr} {m3 : Md} {A5 : Option Addr} {k6 : Nat} {m7 : Md} {A9 : Option Addr} {k10 : Nat} {A11 : Option Addr} {k12 : Nat} (S : SL ([sl m3 ku8 A2 x1.length x1, sl m7 ku8 A5 k6 x4, sl .ro ku8 A9 k10 x8.Key, sl .ro ku8 A11 k12 x8.Value] ++ F) w) (r : (List Int)) (H : f z x1 x4 x8 = some r) : Calls Try.prog 53 #[.slice A2 x1.length x1.length, .slice A5 x4.length k6, .agg #[.slice A9 x8.Key.length k10, .int .u64 x8.Seq, .bool x8.Del, .slice A11 x8.Value.length k12]] w (R F x1 A2 m3 x4 A5 k6 m7 x8 A9 k10 A11 k12 r) := by
  refine enter (vs := [.slice A2 x1.length x1.length, .slice A5 x4.length k6, .agg #[.slice A9 x8.Key.length k10, .int .u64 x8.Seq, .bool x8.Del, .slice A11 x8.Value.length k12]]) Try.func53 rfl Try.ntmps53 (Nat.le_of_ble_eq_true rfl) fun a T => ?_
  refine Gets.seq ?_
  refine rg ?_
  refine r_box T S rfl (cs := [.slice A9 x8.Key.length k10, .int .u64 x8.Seq, .bool x8.Del, .slice A11 x8.Value.length k12]) rfl rfl fun _ _ b13 S T => ?_
  refine r_pv T rfl rfl fun _ T => ?_
  refine Gets.seq ?_
  refine rg ?_
  refine r_pv T rfl rfl fun _ T => ?_
  refine Gets.seq (Gets.block ?_)
  refine Gets.loop ?_
  exact L0_ok F r z x1 A2 m3 x4 A5 k6 m7 x8 A9 k10 A11 k12 b13 z 0 _ _ (T.sub ⟨rfl, rfl, rfl, rfl, trivial⟩) (S.only (p := [sl m3 ku8 A2 x1.length x1, sl m7 ku8 A5 k6 x4, sl .ro ku8 A9 k10 x8.Key, sl .ro ku8 A11 k12 x8.Value, blk b13 [.slice A9 x8.Key.length k10, .int .u64 x8.Seq, .bool x8.Del, .slice A11 x8.Value.length k12]]) [1, 1, 1, 1, 0] rfl) H
end sstable_lay
end Go.Proofs.Ytghpokmkhlmgcaa

namespace Go.Proofs.Ytghpokmkhlmgcaa
open Go Go.Proofs.Ytghpokmkhlmgcaa.X
set_option linter.unusedVariables false
set_option linter.unusedSimpArgs false
set_option maxRecDepth 100000
set_option maxHeartbeats 4000000
/-! ### (*cormorant.sstable.builder).add: function 27 -/
namespace sstable_builder_add
noncomputable def c0 : Code := match Try.f27.body with | some c => c | none => .skip
def R (F : List Atom) (b2 : Nat) (x11 : api_Entry) (A12 : Option Addr) (k13 : Nat) (A14 : Option Addr) (k15 : Nat) (r : sstable_builder) : Ending → World → Prop := fun e w' => ∃ (A57 : Option Addr), ∃ (k58 : Nat), ∃ (A59 : Option Addr), ∃ (k60 : Nat), ∃ (A61 : Option Addr), ∃ (k62 : Nat), ∃ (A63 : Option Addr), ∃ (k64 : Nat), e = .returned (.tuple #[]) ∧ SL ([blk b2 [.slice A57 r.out.length k58, .slice A59 r.body.length k60, .slice A61 r.index.length k62, .int .i64 r.many, .int .i64 r.blocks, .slice A63 r.last.length k64], sl .own ku8 A57 k58 r.out, sl .ro ku8 A59 k60 r.body, sl .own ku8 A61 k62 r.index, sl .ro ku8 A63 k64 r.last, sl .ro ku8 A12 k13 x11.Key, sl .ro ku8 A14 k15 x11.Value] ++ F) w'
def J0 (z : Nat) (x11 : api_Entry) (x38 : List Int) (x41 : List Int) (x44 : List Int) (x47 : Int) (x48 : Int) (x49 : List Int) : Option sstable_builder := Bd (sstable_lay.f z ([] : List Int) ([] : List Int) x11) fun x53 => some (sstable_builder.mk x38 x53 x44 1 x48 x11.Key)
def f (z : Nat) (x1 : sstable_builder) (x11 : api_Entry) (x16 : Int) : Option sstable_builder := If (decide (x1.many > 0)) (Bd (slices_Clip_byte_ro.f x1.body) fun x20 => Bd (sstable_lay.f z x20 x1.last x11) fun x23 => If (decide ((x23.length : Int) ≤ x16)) (some (sstable_builder.mk x1.out x23 x1.index (wr .i64 (x1.many + 1)) x1.blocks x11.Key)) (Bd (sstable_builder_close.f z x1) fun x28 => J0 z x11 x28.out x28.body x28.index x28.many x28.blocks x28.last)) (J0 z x11 x1.out x1.body x1.index x1.many x1.blocks x1.last)
noncomputable def ptJ0 : List Item := [.code (cR (cR c0))]
theorem J0_ok (F : List Atom) (r : sstable_builder) (z : Nat) (b2 : Nat) (x11 : api_Entry) (A12 : Option Addr) (k13 : Nat) (A14 : Option Addr) (k15 : Nat) (b17 : Nat) (x16 : Int) (A39 : Option Addr) (x38 : List Int) (k40 : Nat) (A42 : Option Addr) (x41 : List Int) (k43 : Nat) (A45 : Option Addr) (x44 : List Int) (k46 : Nat) (x47 : Int) (x48 : Int) (A50 : Option Addr) (x49 : List Int) (k51 : Nat) (a : Act) (w : World) (T : Tm 58 [(0, .pointer (some ⟨b2, 0, none⟩)), (4, .pointer (some ⟨b17, 0, none⟩))] a) (S : SL ([blk b2 [.slice A39 x38.length k40, .slice A42 x41.length k43, .slice A45 x44.length k46, .int .i64 x47, .int .i64 x48, .slice A50 x49.length k51], sl .own ku8 A39 k40 x38, sl .ro ku8 A42 k43 x41, sl .own ku8 A45 k46 x44, sl .ro ku8 A50 k51 x49, sl .ro ku8 A12 k13 x11.Key, sl .ro ku8 A14 k15 x11.Value, blk b17 [.slice A12 x11.Key.length k13, .int .u64 x11.Seq, .bool x11.Del, .slice A14 x11.Value.length k15]] ++ F) w) (H : J0 z x11 x38 x41 x44 x47 x48 x49 = some r) : Gets Try.prog 27 ptJ0 a w (R F b2 x11 A12 k13 A14 k15 r) := by
  refine Gets.drawn (l := [blk b2 [.slice A39 x38.length k40, .slice A42 x41.length k43, .slice A45 x44.length k46, .int .i64 x47, .int .i64 x48, .slice A50 x49.length k51], sl .own ku8 A39 k40 x38, sl .ro ku8 A42 k43 x41, sl .own ku8 A45 k46 x44, sl .ro ku8 A50 k51 x49, sl .ro ku8 A12 k13 x11.Key, sl .ro ku8 A14 k15 x11.Value, blk b17 [.slice A12 x11.Key.length k13, .int .u64 x11.Seq, .bool x11.Del, .slice A14 x11.Value.length k15]]) (V := [some (.pointer (some ⟨b2, 0, none⟩), true), some (.pointer (some ⟨b2, 0, none⟩), true), some (.pointer (some ⟨b2, 0, none⟩), true), some (.agg #[.slice A12 x11.Key.length k13, .int .u64 x11.Seq, .bool x11.Del, .slice A14 x11.Value.length k15], true), none, some (.pointer (some ⟨b17, 0, none⟩), true), some (.slice A12 x11.Key.length k13, true), none, none, none, none, none, none, none, none, none]) mixed T S rfl ?_
  refine stage (some 4) rfl rfl ⟨⟨_, [(0, .pointer (some ⟨b2, 0, none⟩))], rfl, ⟨.inr ⟨rfl, rfl⟩, trivial⟩, fun u a w T S => (by refine r_pv T rfl rfl fun _ T => ?_; exact ⟨rfl, T⟩)⟩, ⟨_, [(0, .pointer (some ⟨b2, 0, none⟩))], rfl, ⟨.inr ⟨rfl, rfl⟩, trivial⟩, fun u a w T S => (by refine r_pv T rfl rfl fun _ T => ?_; exact ⟨rfl, T⟩)⟩, ⟨_, [(0, .pointer (some ⟨b2, 0, none⟩))], rfl, ⟨.inr ⟨rfl, rfl⟩, trivial⟩, fun u a w T S => (by refine r_pv T rfl rfl fun _ T => ?_; exact ⟨rfl, T⟩)⟩, ⟨_, [(4, .pointer (some ⟨b17, 0, none⟩))], rfl, ⟨.inr ⟨rfl, rfl⟩, trivial⟩, fun u a w T S => (by refine r_ldBA (ix := 7) (ds := [.slice A12 x11.Key.length k13, .int .u64 x11.Seq, .bool x11.Del, .slice A14 x11.Value.length k15]) T S rfl Try.isAgg36 rfl rfl Try.sizeOf36 rfl fun _ T => ?_; exact ⟨rfl, T⟩)⟩, ⟨_, [(4, .pointer (some ⟨b17, 0, none⟩))], rfl, ⟨.inr ⟨rfl, rfl⟩, trivial⟩, fun u a w T S => (by refine r_fa (o' := 0) T rfl Try.runUnderlying36 rfl Try.sizeOf24 rfl rfl fun _ T => ?_; exact ⟨rfl, T⟩)⟩, ⟨_, [(50, .pointer (some ⟨b17, 0, none⟩))], rfl, ⟨.inl ⟨5, rfl, rfl, rfl, rfl⟩, trivial⟩, fun u a w T S => (by refine r_ldB (ix := 7) T S rfl Try.isAgg24 rfl rfl rfl fun _ T => ?_; exact ⟨rfl, T⟩)⟩, trivial⟩ rfl (fun i hi => ?_) (fun h => by cases h)
  cases hi
  refine ⟨rfl, _, [(48, .agg #[.slice A12 x11.Key.length k13, .int .u64 x11.Seq, .bool x11.Del, .slice A14 x11.Value.length k15])], rfl, ⟨.inl ⟨3, rfl, rfl, rfl, rfl⟩, trivial⟩, fun u a w T S => ?_⟩
  replace S := S.nil ku8 .ro
  replace S := S.nil ku8 .ro
  obtain ⟨x53, h52, H⟩ := bd H
  refine r_call T Try.call53 rfl rfl (sstable_lay.ok _ _ z ([] : List Int) ([] : List Int) x11 (S.sel (p := [sl .ro ku8 none 0 ([] : List Int), sl .ro ku8 none 0 ([] : List Int), sl .ro ku8 A12 k13 x11.Key, sl .ro ku8 A14 k15 x11.Value]) (is := [1, 0, 5, 5]) rfl) _ h52) ?_
  rintro _ _ ⟨A54, k55, rfl, S⟩
  refine ⟨_, rfl, fun _ T => ?_⟩
  replace S : SL ([sl .own ku8 A54 k55 x53, sl .ro ku8 none 0 ([] : List Int), sl .ro ku8 none 0 ([] : List Int), sl .ro ku8 A12 k13 x11.Key, sl .ro ku8 A14 k15 x11.Value, blk b2 [.slice A39 x38.length k40, .slice A42 x41.length k43, .slice A45 x44.length k46, .int .i64 x47, .int .i64 x48, .slice A50 x49.length k51], sl .own ku8 A39 k40 x38, sl .ro ku8 A42 k43 x41, sl .own ku8 A45 k46 x44, sl .ro ku8 A50 k51 x49, blk b17 [.slice A12 x11.Key.length k13, .int .u64 x11.Seq, .bool x11.Del, .slice A14 x11.Value.length k15]] ++ F) _ := S.join
  refine ⟨_, [some (.pointer (some ⟨b2, 0, none⟩), true), some (.pointer (some ⟨b2, 0, none⟩), true), some (.pointer (some ⟨b2, 0, none⟩), true), some (.agg #[.slice A12 x11.Key.length k13, .int .u64 x11.Seq, .bool x11.Del, .slice A14 x11.Value.length k15], false), some (.slice A54 x53.length k55, false), some (.pointer (some ⟨b17, 0, none⟩), true), some (.slice A12 x11.Key.length k13, true), some (.pointer (some ⟨b2, 0, none⟩), true), some (.pointer (some ⟨b2, 1, none⟩), true), none, none, none, none, none, none, none], [sl .own ku8 A54 k55 x53, sl .ro ku8 none 0 ([] : List Int), sl .ro ku8 none 0 ([] : List Int), sl .ro ku8 A12 k13 x11.Key, sl .ro ku8 A14 k15 x11.Value, blk b2 [.slice A39 x38.length k40, .slice A42 x41.length k43, .slice A45 x44.length k46, .int .i64 x47, .int .i64 x48, .slice A50 x49.length k51], sl .own ku8 A39 k40 x38, sl .ro ku8 A42 k43 x41, sl .own ku8 A45 k46 x44, sl .ro ku8 A50 k51 x49, blk b17 [.slice A12 x11.Key.length k13, .int .u64 x11.Seq, .bool x11.Del, .slice A14 x11.Value.length k15]], rfl, ⟨.inr ⟨_, _, _, rfl, rfl⟩, .inr ⟨_, _, _, rfl, rfl⟩, .inr ⟨_, _, _, rfl, rfl⟩, .inr ⟨_, _, _, rfl, rfl⟩, .inl rfl, .inr ⟨_, _, _, rfl, rfl⟩, .inr ⟨_, _, _, rfl, rfl⟩, .inl rfl, .inl rfl, .inl rfl, .inl rfl, .inl rfl, .inl rfl, .inl rfl, .inl rfl, .inl rfl, trivial⟩, rfl, ?_, T, S⟩
  refine stage (some 9) rfl rfl ⟨⟨_, [(0, .pointer (some ⟨b2, 0, none⟩))], rfl, ⟨.inr ⟨rfl, rfl⟩, trivial⟩, fun u a w T S => (by refine r_pv T rfl rfl fun _ T => ?_; exact ⟨rfl, T⟩)⟩, ⟨_, [(0, .pointer (some ⟨b2, 0, none⟩))], rfl, ⟨.inr ⟨rfl, rfl⟩, trivial⟩, fun u a w T S => (by refine r_pv T rfl rfl fun _ T => ?_; exact ⟨rfl, T⟩)⟩, ⟨_, [(0, .pointer (some ⟨b2, 0, none⟩))], rfl, ⟨.inr ⟨rfl, rfl⟩, trivial⟩, fun u a w T S => (by refine r_pv T rfl rfl fun _ T => ?_; exact ⟨rfl, T⟩)⟩, ⟨_, [(4, .pointer (some ⟨b17, 0, none⟩))], rfl, ⟨.inr ⟨rfl, rfl⟩, trivial⟩, fun u a w T S => (by refine r_fa (o' := 0) T rfl Try.runUnderlying36 rfl Try.sizeOf24 rfl rfl fun _ T => ?_; exact ⟨rfl, T⟩)⟩, ⟨_, [(50, .pointer (some ⟨b17, 0, none⟩))], rfl, ⟨.inl ⟨5, rfl, rfl, rfl, rfl⟩, trivial⟩, fun u a w T S => (by refine r_ldB (ix := 10) T S rfl Try.isAgg24 rfl rfl rfl fun _ T => ?_; exact ⟨rfl, T⟩)⟩, ⟨_, [(45, .pointer (some ⟨b2, 0, none⟩))], rfl, ⟨.inl ⟨0, rfl, rfl, rfl, rfl⟩, trivial⟩, fun u a w T S => (by refine r_pv T rfl rfl fun _ T => ?_; exact ⟨rfl, T⟩)⟩, ⟨_, [(52, .pointer (some ⟨b2, 0, none⟩))], rfl, ⟨.inl ⟨7, rfl, rfl, rfl, rfl⟩, trivial⟩, fun u a w T S => (by refine r_fa (o' := 1) T rfl Try.runUnderlying61 rfl Try.sizeOf24 rfl rfl fun _ T => ?_; exact ⟨rfl, T⟩)⟩, trivial⟩ rfl (fun i hi => ?_) (fun h => by cases h)
  cases hi
  refine ⟨rfl, _, [(49, .slice A54 x53.length k55), (53, .pointer (some ⟨b2, 1, none⟩))], rfl, ⟨.inl ⟨4, rfl, rfl, rfl, rfl⟩, .inl ⟨8, rfl, rfl, rfl, rfl⟩, trivial⟩, fun u a w T S => ?_⟩
  refine r_stB (ix := 5) (l' := [sl .own ku8 A54 k55 x53, sl .ro ku8 none 0 ([] : List Int), sl .ro ku8 none 0 ([] : List Int), sl .ro ku8 A12 k13 x11.Key, sl .ro ku8 A14 k15 x11.Value, blk b2 [.slice A39 x38.length k40, .slice A54 x53.length k55, .slice A45 x44.length k46, .int .i64 x47, .int .i64 x48, .slice A50 x49.length k51], sl .own ku8 A39 k40 x38, sl .ro ku8 A42 k43 x41, sl .own ku8 A45 k46 x44, sl .ro ku8 A50 k51 x49, blk b17 [.slice A12 x11.Key.length k13, .int .u64 x11.Seq, .bool x11.Del, .slice A14 x11.Value.length k15]]) T S rfl rfl rfl Try.sizeOf24 rfl (Nat.le_of_ble_eq_true rfl) rfl fun _ S => ?_
  refine ⟨_, [some (.pointer (some ⟨b2, 0, none⟩), false), some (.pointer (some ⟨b2, 0, none⟩), true), some (.pointer (some ⟨b2, 0, none⟩), true), some (.agg #[.slice A12 x11.Key.length k13, .int .u64 x11.Seq, .bool x11.Del, .slice A14 x11.Value.length k15], false), some (.slice A54 x53.length k55, false), some (.pointer (some ⟨b17, 0, none⟩), true), some (.slice A12 x11.Key.length k13, true), some (.pointer (some ⟨b2, 0, none⟩), true), some (.pointer (some ⟨b2, 1, none⟩), false), some (undef, false), some (.pointer (some ⟨b2, 0, none⟩), true), some (.pointer (some ⟨b2, 5, none⟩), true), none, none, none, none], [sl .own ku8 A54 k55 x53, sl .ro ku8 none 0 ([] : List Int), sl .ro ku8 none 0 ([] : List Int), sl .ro ku8 A12 k13 x11.Key, sl .ro ku8 A14 k15 x11.Value, blk b2 [.slice A39 x38.length k40, .slice A54 x53.length k55, .slice A45 x44.length k46, .int .i64 x47, .int .i64 x48, .slice A50 x49.length k51], sl .own ku8 A39 k40 x38, sl .ro ku8 A42 k43 x41, sl .own ku8 A45 k46 x44, sl .ro ku8 A50 k51 x49, blk b17 [.slice A12 x11.Key.length k13, .int .u64 x11.Seq, .bool x11.Del, .slice A14 x11.Value.length k15]], rfl, ⟨.inr ⟨_, _, _, rfl, rfl⟩, .inr ⟨_, _, _, rfl, rfl⟩, .inr ⟨_, _, _, rfl, rfl⟩, .inr ⟨_, _, _, rfl, rfl⟩, .inr ⟨_, _, _, rfl, rfl⟩, .inr ⟨_, _, _, rfl, rfl⟩, .inr ⟨_, _, _, rfl, rfl⟩, .inr ⟨_, _, _, rfl, rfl⟩, .inr ⟨_, _, _, rfl, rfl⟩, .inl rfl, .inl rfl, .inl rfl, .inl rfl, .inl rfl, .inl rfl, .inl rfl, trivial⟩, rfl, ?_, T, S⟩
  refine stage (some 12) rfl rfl ⟨⟨_, [(0, .pointer (some ⟨b2, 0, none⟩))], rfl, ⟨.inr ⟨rfl, rfl⟩, trivial⟩, fun u a w T S => (by refine r_pv T rfl rfl fun _ T => ?_; exact ⟨rfl, T⟩)⟩, ⟨_, [(0, .pointer (some ⟨b2, 0, none⟩))], rfl, ⟨.inr ⟨rfl, rfl⟩, trivial⟩, fun u a w T S => (by refine r_pv T rfl rfl fun _ T => ?_; exact ⟨rfl, T⟩)⟩, ⟨_, [(4, .pointer (some ⟨b17, 0, none⟩))], rfl, ⟨.inr ⟨rfl, rfl⟩, trivial⟩, fun u a w T S => (by refine r_fa (o' := 0) T rfl Try.runUnderlying36 rfl Try.sizeOf24 rfl rfl fun _ T => ?_; exact ⟨rfl, T⟩)⟩, ⟨_, [(50, .pointer (some ⟨b17, 0, none⟩))], rfl, ⟨.inl ⟨5, rfl, rfl, rfl, rfl⟩, trivial⟩, fun u a w T S => (by refine r_ldB (ix := 10) T S rfl Try.isAgg24 rfl rfl rfl fun _ T => ?_; exact ⟨rfl, T⟩)⟩, ⟨_, [(45, .pointer (some ⟨b2, 0, none⟩))], rfl, ⟨.inl ⟨0, rfl, rfl, rfl, rfl⟩, trivial⟩, fun u a w T S => (by refine r_pv T rfl rfl fun _ T => ?_; exact ⟨rfl, T⟩)⟩, ⟨_, [(46, .pointer (some ⟨b2, 0, none⟩))], rfl, ⟨.inl ⟨1, rfl, rfl, rfl, rfl⟩, trivial⟩, fun u a w T S => (by refine r_pv T rfl rfl fun _ T => ?_; exact ⟨rfl, T⟩)⟩, ⟨_, [(54, .pointer (some ⟨b2, 0, none⟩))], rfl, ⟨.inl ⟨10, rfl, rfl, rfl, rfl⟩, trivial⟩, fun u a w T S => (by refine r_fa (o' := 5) T rfl Try.runUnderlying61 rfl Try.sizeOf24 rfl rfl fun _ T => ?_; exact ⟨rfl, T⟩)⟩, trivial⟩ rfl (fun i hi => ?_) (fun h => by cases h)
  cases hi
  refine ⟨rfl, _, [(51, .slice A12 x11.Key.length k13), (55, .pointer (some ⟨b2, 5, none⟩))], rfl, ⟨.inl ⟨6, rfl, rfl, rfl, rfl⟩, .inl ⟨11, rfl, rfl, rfl, rfl⟩, trivial⟩, fun u a w T S => ?_⟩
  refine r_stB (ix := 5) (l' := [sl .own ku8 A54 k55 x53, sl .ro ku8 none 0 ([] : List Int), sl .ro ku8 none 0 ([] : List Int), sl .ro ku8 A12 k13 x11.Key, sl .ro ku8 A14 k15 x11.Value, blk b2 [.slice A39 x38.length k40, .slice A54 x53.length k55, .slice A45 x44.length k46, .int .i64 x47, .int .i64 x48, .slice A12 x11.Key.length k13], sl .own ku8 A39 k40 x38, sl .ro ku8 A42 k43 x41, sl .own ku8 A45 k46 x44, sl .ro ku8 A50 k51 x49, blk b17 [.slice A12 x11.Key.length k13, .int .u64 x11.Seq, .bool x11.Del, .slice A14 x11.Value.length k15]]) T S rfl rfl rfl Try.sizeOf24 rfl (Nat.le_of_ble_eq_true rfl) rfl fun _ S => ?_
  refine ⟨_, [some (.pointer (some ⟨b2, 0, none⟩), false), some (.pointer (some ⟨b2, 0, none⟩), false), some (.pointer (some ⟨b2, 0, none⟩), true), some (.agg #[.slice A12 x11.Key.length k13, .int .u64 x11.Seq, .bool x11.Del, .slice A14 x11.Value.length k15], false), some (.slice A54 x53.length k55, false), some (.pointer (some ⟨b17, 0, none⟩), false), some (.slice A12 x11.Key.length k13, false), some (.pointer (some ⟨b2, 0, none⟩), false), some (.pointer (some ⟨b2, 1, none⟩), false), some (undef, false), some (.pointer (some ⟨b2, 0, none⟩), true), some (.pointer (some ⟨b2, 5, none⟩), false), some (undef, false), some (.pointer (some ⟨b2, 0, none⟩), true), some (.pointer (some ⟨b2, 3, none⟩), true), none], [sl .own ku8 A54 k55 x53, sl .ro ku8 none 0 ([] : List Int), sl .ro ku8 none 0 ([] : List Int), sl .ro ku8 A12 k13 x11.Key, sl .ro ku8 A14 k15 x11.Value, blk b2 [.slice A39 x38.length k40, .slice A54 x53.length k55, .slice A45 x44.length k46, .int .i64 x47, .int .i64 x48, .slice A12 x11.Key.length k13], sl .own ku8 A39 k40 x38, sl .ro ku8 A42 k43 x41, sl .own ku8 A45 k46 x44, sl .ro ku8 A50 k51 x49, blk b17 [.slice A12 x11.Key.length k13, .int .u64 x11.Seq, .bool x11.Del, .slice A14 x11.Value.length k15]], rfl, ⟨.inr ⟨_, _, _, rfl, rfl⟩, .inr ⟨_, _, _, rfl, rfl⟩, .inr ⟨_, _, _, rfl, rfl⟩, .inr ⟨_, _, _, rfl, rfl⟩, .inr ⟨_, _, _, rfl, rfl⟩, .inr ⟨_, _, _, rfl, rfl⟩, .inr ⟨_, _, _, rfl, rfl⟩, .inr ⟨_, _, _, rfl, rfl⟩, .inr ⟨_, _, _, rfl, rfl⟩, .inr ⟨_, _, _, rfl, rfl⟩, .inr ⟨_, _, _, rfl, rfl⟩, .inr ⟨_, _, _, rfl, rfl⟩, .inl rfl, .inl rfl, .inl rfl, .inl rfl, trivial⟩, rfl, ?_, T, S⟩
  refine stage (some 15) rfl rfl ⟨⟨_, [(0, .pointer (some ⟨b2, 0, none⟩))], rfl, ⟨.inr ⟨rfl, rfl⟩, trivial⟩, fun u a w T S => (by refine r_pv T rfl rfl fun _ T => ?_; exact ⟨rfl, T⟩)⟩, ⟨_, [(46, .pointer (some ⟨b2, 0, none⟩))], rfl, ⟨.inl ⟨1, rfl, rfl, rfl, rfl⟩, trivial⟩, fun u a w T S => (by refine r_pv T rfl rfl fun _ T => ?_; exact ⟨rfl, T⟩)⟩, ⟨_, [(47, .pointer (some ⟨b2, 0, none⟩))], rfl, ⟨.inl ⟨2, rfl, rfl, rfl, rfl⟩, trivial⟩, fun u a w T S => (by refine r_pv T rfl rfl fun _ T => ?_; exact ⟨rfl, T⟩)⟩, ⟨_, [(56, .pointer (some ⟨b2, 0, none⟩))], rfl, ⟨.inl ⟨13, rfl, rfl, rfl, rfl⟩, trivial⟩, fun u a w T S => (by refine r_fa (o' := 3) T rfl Try.runUnderlying61 rfl Try.sizeOf3 rfl rfl fun _ T => ?_; exact ⟨rfl, T⟩)⟩, trivial⟩ rfl (fun i hi => ?_) (fun h => by cases h)
  cases hi
  refine ⟨rfl, _, [(57, .pointer (some ⟨b2, 3, none⟩))], rfl, ⟨.inl ⟨14, rfl, rfl, rfl, rfl⟩, trivial⟩, fun u a w T S => ?_⟩
  refine r_stB (ix := 5) (l' := [sl .own ku8 A54 k55 x53, sl .ro ku8 none 0 ([] : List Int), sl .ro ku8 none 0 ([] : List Int), sl .ro ku8 A12 k13 x11.Key, sl .ro ku8 A14 k15 x11.Value, blk b2 [.slice A39 x38.length k40, .slice A54 x53.length k55, .slice A45 x44.length k46, .int .i64 1, .int .i64 x48, .slice A12 x11.Key.length k13], sl .own ku8 A39 k40 x38, sl .ro ku8 A42 k43 x41, sl .own ku8 A45 k46 x44, sl .ro ku8 A50 k51 x49, blk b17 [.slice A12 x11.Key.length k13, .int .u64 x11.Seq, .bool x11.Del, .slice A14 x11.Value.length k15]]) T S rfl rfl rfl Try.sizeOf3 rfl (Nat.le_of_ble_eq_true rfl) rfl fun _ S => ?_
  refine ⟨_, [some (.pointer (some ⟨b2, 0, none⟩), false), some (.pointer (some ⟨b2, 0, none⟩), false), some (.pointer (some ⟨b2, 0, none⟩), false), some (.agg #[.slice A12 x11.Key.length k13, .int .u64 x11.Seq, .bool x11.Del, .slice A14 x11.Value.length k15], false), some (.slice A54 x53.length k55, false), some (.pointer (some ⟨b17, 0, none⟩), false), some (.slice A12 x11.Key.length k13, false), some (.pointer (some ⟨b2, 0, none⟩), false), some (.pointer (some ⟨b2, 1, none⟩), false), some (undef, false), some (.pointer (some ⟨b2, 0, none⟩), false), some (.pointer (some ⟨b2, 5, none⟩), false), some (undef, false), some (.pointer (some ⟨b2, 0, none⟩), true), some (.pointer (some ⟨b2, 3, none⟩), false), some (undef, false)], [sl .own ku8 A54 k55 x53, sl .ro ku8 none 0 ([] : List Int), sl .ro ku8 none 0 ([] : List Int), sl .ro ku8 A12 k13 x11.Key, sl .ro ku8 A14 k15 x11.Value, blk b2 [.slice A39 x38.length k40, .slice A54 x53.length k55, .slice A45 x44.length k46, .int .i64 1, .int .i64 x48, .slice A12 x11.Key.length k13], sl .own ku8 A39 k40 x38, sl .ro ku8 A42 k43 x41, sl .own ku8 A45 k46 x44, sl .ro ku8 A50 k51 x49, blk b17 [.slice A12 x11.Key.length k13, .int .u64 x11.Seq, .bool x11.Del, .slice A14 x11.Value.length k15]], rfl, ⟨.inr ⟨_, _, _, rfl, rfl⟩, .inr ⟨_, _, _, rfl, rfl⟩, .inr ⟨_, _, _, rfl, rfl⟩, .inr ⟨_, _, _, rfl, rfl⟩, .inr ⟨_, _, _, rfl, rfl⟩, .inr ⟨_, _, _, rfl, rfl⟩, .inr ⟨_, _, _, rfl, rfl⟩, .inr ⟨_, _, _, rfl, rfl⟩, .inr ⟨_, _, _, rfl, rfl⟩, .inr ⟨_, _, _, rfl, rfl⟩, .inr ⟨_, _, _, rfl, rfl⟩, .inr ⟨_, _, _, rfl, rfl⟩, .inr ⟨_, _, _, rfl, rfl⟩, .inr ⟨_, _, _, rfl, rfl⟩, .inr ⟨_, _, _, rfl, rfl⟩, .inl rfl, trivial⟩, rfl, ?_, T, S⟩
  refine stage none rfl rfl ⟨⟨_, [(47, .pointer (some ⟨b2, 0, none⟩))], rfl, ⟨.inl ⟨2, rfl, rfl, rfl, rfl⟩, trivial⟩, fun u a w T S => (by refine r_pv T rfl rfl fun _ T => ?_; exact ⟨rfl, T⟩)⟩, trivial⟩ rfl (fun i hi => by cases hi) (fun _ _ a w T hv hb S => ?_)
  replace T := T.sub (r := []) trivial
  replace S : SL ([sl .ro ku8 A54 k55 x53, sl .ro ku8 none 0 ([] : List Int), sl .ro ku8 none 0 ([] : List Int), sl .ro ku8 A12 k13 x11.Key, sl .ro ku8 A14 k15 x11.Value, blk b2 [.slice A39 x38.length k40, .slice A54 x53.length k55, .slice A45 x44.length k46, .int .i64 1, .int .i64 x48, .slice A12 x11.Key.length k13], sl .own ku8 A39 k40 x38, sl .ro ku8 A42 k43 x41, sl .own ku8 A45 k46 x44, sl .ro ku8 A50 k51 x49, blk b17 [.slice A12 x11.Key.length k13, .int .u64 x11.Seq, .bool x11.Del, .slice A14 x11.Value.length k15]] ++ F) _ := S.fixL (i := 0) rfl rfl
  replace S := S.dup (i := 3) rfl
  replace H := Option.some.inj H
  subst H
  exact rtf T Try.func27 rfl rfl ⟨A39, k40, A54, k55, A45, k46, A12, k13, rfl, (S.only (p := [blk b2 [.slice A39 x38.length k40, .slice A54 x53.length k55, .slice A45 x44.length k46, .int .i64 1, .int .i64 x48, .slice A12 x11.Key.length k13], sl .own ku8 A39 k40 x38, sl .ro ku8 A54 k55 x53, sl .own ku8 A45 k46 x44, sl .ro ku8 A12 k13 x11.Key, sl .ro ku8 A12 k13 x11.Key, sl .ro ku8 A14 k15 x11.Value]) [6, 6, 1, 6, 3, 0, 2] rfl)⟩
theorem ok (F : List Atom) (w : World) (z : Nat) (x1 : sstable_builder) (x11 : api_Entry) (x16 : Int) {b2 : Nat} {A3 : Option Addr} {k4 : Nat} {A5 : Option Addr} {k6 : Nat} {A7 : Option Addr} {k8 : Nat} {A9 : Option Addr} {k10 : Nat} {A12 : Option Addr} {k13 : Nat} {A14 : Option Addr} {k15 : Nat} (S : SL ([blk b2 [.slice A3 x1.out.length k4, .slice A5 x1.body.length k6, .slice A7 x1.index.length k8, .int .i64 x1.many, .int .i64 x1.blocks, .slice A9 x1.last.length k10], sl .own ku8 A3 k4 x1.out, sl .ro ku8 A5 k6 x1.body, sl .own ku8 A7 k8 x1.index, sl .ro ku8 A9 k10 x1.last, sl .ro ku8 A12 k13 x11.Key, sl .ro ku8 A14 k15 x11.Value] ++ F) w) (r : sstable_builder) (H : f z x1 x11 x16 = some r) : Calls Try.prog 27 #[.pointer (some ⟨b2, 0, none⟩), .agg #[.slice A12 x11.Key.length k13, .int .u64 x11.Seq, .bool x11.Del, .slice A14 x11.Value.length k15], .int .i64 x16] w (R F b2 x11 A12 k13 A14 k15 r) := by
  refine enter (vs := [.pointer (some ⟨b2, 0, none⟩), .agg #[.slice A12 x11.Key.length k13, .int .u64 x11.Seq, .bool x11.Del, .slice A14 x11.Value.length k15], .int .i64 x16]) Try.func27 rfl Try.ntmps27 (Nat.le_of_ble_eq_true rfl) fun a T => ?_
  refine Gets.seq ?_
  refine rg ?_
  refine r_box T S rfl (cs := [.slice A12 x11.Key.length k13, .int .u64 x11.Seq, .bool x11.Del, .slice A14 x11.Value.length k15]) rfl rfl fun _ _ b17 S T => ?_
  refine Gets.seq (Gets.seq ?_)
  refine rg ?_
  refine r_pv T rfl rfl fun _ T => ?_
  refine r_pv T rfl rfl fun _ T => ?_
  refine r_fa (o' := 3) T rfl Try.runUnderlying61 rfl Try.sizeOf3 rfl rfl fun _ T => ?_
  refine r_ldB (ix := 1) T S rfl Try.isAgg3 rfl rfl rfl fun _ T => ?_
  refine r_pv T rfl rfl fun _ T => ?_
  rcases ifE H with ⟨h18, H⟩ | ⟨h18, H⟩
  · refine cdT T rfl h18 ?_
    refine Gets.seq (Gets.seq ?_)
    refine Gets.drawn (l := [blk b17 [.slice A12 x11.Key.length k13, .int .u64 x11.Seq, .bool x11.Del, .slice A14 x11.Value.length k15], blk b2 [.slice A3 x1.out.length k4, .slice A5 x1.body.length k6, .slice A7 x1.index.length k8, .int .i64 x1.many, .int .i64 x1.blocks, .slice A9 x1.last.length k10], sl .own ku8 A3 k4 x1.out, sl .ro ku8 A5 k6 x1.body, sl .own ku8 A7 k8 x1.index, sl .ro ku8 A9 k10 x1.last, sl .ro ku8 A12 k13 x11.Key, sl .ro ku8 A14 k15 x11.Value]) (V := [some (.pointer (some ⟨b2, 0, none⟩), true), some (.pointer (some ⟨b2, 0, none⟩), true), some (.pointer (some ⟨b2, 1, none⟩), true), some (.slice A5 x1.body.length k6, true), none, some (.pointer (some ⟨b2, 0, none⟩), true), some (.pointer (some ⟨b2, 0, none⟩), true), some (.pointer (some ⟨b2, 5, none⟩), true), some (.slice A9 x1.last.length k10, true), some (.agg #[.slice A12 x11.Key.length k13, .int .u64 x11.Seq, .bool x11.Del, .slice A14 x11.Value.length k15], true), none, none]) mixed T S rfl ?_
    refine stage (some 4) rfl rfl ⟨⟨_, [(0, .pointer (some ⟨b2, 0, none⟩))], rfl, ⟨.inr ⟨rfl, rfl⟩, trivial⟩, fun u a w T S => (by refine r_pv T rfl rfl fun _ T => ?_; exact ⟨rfl, T⟩)⟩, ⟨_, [(12, .pointer (some ⟨b2, 0, none⟩))], rfl, ⟨.inl ⟨0, rfl, rfl, rfl, rfl⟩, trivial⟩, fun u a w T S => (by refine r_pv T rfl rfl fun _ T => ?_; exact ⟨rfl, T⟩)⟩, ⟨_, [(13, .pointer (some ⟨b2, 0, none⟩))], rfl, ⟨.inl ⟨1, rfl, rfl, rfl, rfl⟩, trivial⟩, fun u a w T S => (by refine r_fa (o' := 1) T rfl Try.runUnderlying61 rfl Try.sizeOf24 rfl rfl fun _ T => ?_; exact ⟨rfl, T⟩)⟩, ⟨_, [(14, .pointer (some ⟨b2, 1, none⟩))], rfl, ⟨.inl ⟨2, rfl, rfl, rfl, rfl⟩, trivial⟩, fun u a w T S => (by refine r_ldB (ix := 1) T S rfl Try.isAgg24 rfl rfl rfl fun _ T => ?_; exact ⟨rfl, T⟩)⟩, ⟨_, [(0, .pointer (some ⟨b2, 0, none⟩))], rfl, ⟨.inr ⟨rfl, rfl⟩, trivial⟩, fun u a w T S => (by refine r_pv T rfl rfl fun _ T => ?_; exact ⟨rfl, T⟩)⟩, ⟨_, [(17, .pointer (some ⟨b2, 0, none⟩))], rfl, ⟨.inl ⟨5, rfl, rfl, rfl, rfl⟩, trivial⟩, fun u a w T S => (by refine r_pv T rfl rfl fun _ T => ?_; exact ⟨rfl, T⟩)⟩, ⟨_, [(18, .pointer (some ⟨b2, 0, none⟩))], rfl, ⟨.inl ⟨6, rfl, rfl, rfl, rfl⟩, trivial⟩, fun u a w T S => (by refine r_fa (o' := 5) T rfl Try.runUnderlying61 rfl Try.sizeOf24 rfl rfl fun _ T => ?_; exact ⟨rfl, T⟩)⟩, ⟨_, [(19, .pointer (some ⟨b2, 5, none⟩))], rfl, ⟨.inl ⟨7, rfl, rfl, rfl, rfl⟩, trivial⟩, fun u a w T S => (by refine r_ldB (ix := 1) T S rfl Try.isAgg24 rfl rfl rfl fun _ T => ?_; exact ⟨rfl, T⟩)⟩, ⟨_, [(4, .pointer (some ⟨b17, 0, none⟩))], rfl, ⟨.inr ⟨rfl, rfl⟩, trivial⟩, fun u a w T S => (by refine r_ldBA (ix := 0) (ds := [.slice A12 x11.Key.length k13, .int .u64 x11.Seq, .bool x11.Del, .slice A14 x11.Value.length k15]) T S rfl Try.isAgg36 rfl rfl Try.sizeOf36 rfl fun _ T => ?_; exact ⟨rfl, T⟩)⟩, trivial⟩ rfl (fun i hi => ?_) (fun h => by cases h)
    cases hi
    refine ⟨rfl, _, [(15, .slice A5 x1.body.length k6)], rfl, ⟨.inl ⟨3, rfl, rfl, rfl, rfl⟩, trivial⟩, fun u a w T S => ?_⟩
    obtain ⟨x20, h19, H⟩ := bd H
    refine r_call T Try.call31 rfl rfl (slices_Clip_byte_ro.ok _ _ x1.body (S.sel (p := [sl .ro ku8 A5 k6 x1.body]) (is := [3]) rfl) _ h19) ?_
    rintro _ _ ⟨A21, rfl, S⟩
    refine ⟨_, rfl, fun _ T => ?_⟩
    replace S : SL ([sl .ro ku8 A21 x20.length x20, sl .ro ku8 A5 k6 x1.body, blk b17 [.slice A12 x11.Key.length k13, .int .u64 x11.Seq, .bool x11.Del, .slice A14 x11.Value.length k15], blk b2 [.slice A3 x1.out.length k4, .slice A5 x1.body.length k6, .slice A7 x1.index.length k8, .int .i64 x1.many, .int .i64 x1.blocks, .slice A9 x1.last.length k10], sl .own ku8 A3 k4 x1.out, sl .own ku8 A7 k8 x1.index, sl .ro ku8 A9 k10 x1.last, sl .ro ku8 A12 k13 x11.Key, sl .ro ku8 A14 k15 x11.Value] ++ F) _ := S.join
    refine ⟨_, [some (.pointer (some ⟨b2, 0, none⟩), true), some (.pointer (some ⟨b2, 0, none⟩), true), some (.pointer (some ⟨b2, 1, none⟩), true), some (.slice A5 x1.body.length k6, false), some (.slice A21 x20.length x20.length, false), some (.pointer (some ⟨b2, 0, none⟩), true), some (.pointer (some ⟨b2, 0, none⟩), true), some (.pointer (some ⟨b2, 5, none⟩), true), some (.slice A9 x1.last.length k10, true), some (.agg #[.slice A12 x11.Key.length k13, .int .u64 x11.Seq, .bool x11.Del, .slice A14 x11.Value.length k15], true), none, none], [sl .ro ku8 A21 x20.length x20, sl .ro ku8 A5 k6 x1.body, blk b17 [.slice A12 x11.Key.length k13, .int .u64 x11.Seq, .bool x11.Del, .slice A14 x11.Value.length k15], blk b2 [.slice A3 x1.out.length k4, .slice A5 x1.body.length k6, .slice A7 x1.index.length k8, .int .i64 x1.many, .int .i64 x1.blocks, .slice A9 x1.last.length k10], sl .own ku8 A3 k4 x1.out, sl .own ku8 A7 k8 x1.index, sl .ro ku8 A9 k10 x1.last, sl .ro ku8 A12 k13 x11.Key, sl .ro ku8 A14 k15 x11.Value], rfl, ⟨.inr ⟨_, _, _, rfl, rfl⟩, .inr ⟨_, _, _, rfl, rfl⟩, .inr ⟨_, _, _, rfl, rfl⟩, .inr ⟨_, _, _, rfl, rfl⟩, .inl rfl, .inr ⟨_, _, _, rfl, rfl⟩, .inr ⟨_, _, _, rfl, rfl⟩, .inr ⟨_, _, _, rfl, rfl⟩, .inr ⟨_, _, _, rfl, rfl⟩, .inr ⟨_, _, _, rfl, rfl⟩, .inl rfl, .inl rfl, trivial⟩, rfl, ?_, T, S⟩
    refine stage (some 10) rfl rfl ⟨⟨_, [(0, .pointer (some ⟨b2, 0, none⟩))], rfl, ⟨.inr ⟨rfl, rfl⟩, trivial⟩, fun u a w T S => (by refine r_pv T rfl rfl fun _ T => ?_; exact ⟨rfl, T⟩)⟩, ⟨_, [(12, .pointer (some ⟨b2, 0, none⟩))], rfl, ⟨.inl ⟨0, rfl, rfl, rfl, rfl⟩, trivial⟩, fun u a w T S => (by refine r_pv T rfl rfl fun _ T => ?_; exact ⟨rfl, T⟩)⟩, ⟨_, [(13, .pointer (some ⟨b2, 0, none⟩))], rfl, ⟨.inl ⟨1, rfl, rfl, rfl, rfl⟩, trivial⟩, fun u a w T S => (by refine r_fa (o' := 1) T rfl Try.runUnderlying61 rfl Try.sizeOf24 rfl rfl fun _ T => ?_; exact ⟨rfl, T⟩)⟩, ⟨_, [(0, .pointer (some ⟨b2, 0, none⟩))], rfl, ⟨.inr ⟨rfl, rfl⟩, trivial⟩, fun u a w T S => (by refine r_pv T rfl rfl fun _ T => ?_; exact ⟨rfl, T⟩)⟩, ⟨_, [(17, .pointer (some ⟨b2, 0, none⟩))], rfl, ⟨.inl ⟨5, rfl, rfl, rfl, rfl⟩, trivial⟩, fun u a w T S => (by refine r_pv T rfl rfl fun _ T => ?_; exact ⟨rfl, T⟩)⟩, ⟨_, [(18, .pointer (some ⟨b2, 0, none⟩))], rfl, ⟨.inl ⟨6, rfl, rfl, rfl, rfl⟩, trivial⟩, fun u a w T S => (by refine r_fa (o' := 5) T rfl Try.runUnderlying61 rfl Try.sizeOf24 rfl rfl fun _ T => ?_; exact ⟨rfl, T⟩)⟩, ⟨_, [(19, .pointer (some ⟨b2, 5, none⟩))], rfl, ⟨.inl ⟨7, rfl, rfl, rfl, rfl⟩, trivial⟩, fun u a w T S => (by refine r_ldB (ix := 3) T S rfl Try.isAgg24 rfl rfl rfl fun _ T => ?_; exact ⟨rfl, T⟩)⟩, ⟨_, [(4, .pointer (some ⟨b17, 0, none⟩))], rfl, ⟨.inr ⟨rfl, rfl⟩, trivial⟩, fun u a w T S => (by refine r_ldBA (ix := 2) (ds := [.slice A12 x11.Key.length k13, .int .u64 x11.Seq, .bool x11.Del, .slice A14 x11.Value.length k15]) T S rfl Try.isAgg36 rfl rfl Try.sizeOf36 rfl fun _ T => ?_; exact ⟨rfl, T⟩)⟩, trivial⟩ rfl (fun i hi => ?_) (fun h => by cases h)
    cases hi
    refine ⟨rfl, _, [(16, .slice A21 x20.length x20.length), (20, .slice A9 x1.last.length k10), (21, .agg #[.slice A12 x11.Key.length k13, .int .u64 x11.Seq, .bool x11.Del, .slice A14 x11.Value.length k15])], rfl, ⟨.inl ⟨4, rfl, rfl, rfl, rfl⟩, .inl ⟨8, rfl, rfl, rfl, rfl⟩, .inl ⟨9, rfl, rfl, rfl, rfl⟩, trivial⟩, fun u a w T S => ?_⟩
    obtain ⟨x23, h22, H⟩ := bd H
    refine r_call T Try.call53 rfl rfl (sstable_lay.ok _ _ z x20 x1.last x11 (S.sel (p := [sl .ro ku8 A21 x20.length x20, sl .ro ku8 A9 k10 x1.last, sl .ro ku8 A12 k13 x11.Key, sl .ro ku8 A14 k15 x11.Value]) (is := [0, 5, 5, 5]) rfl) _ h22) ?_
    rintro _ _ ⟨A24, k25, rfl, S⟩
    refine ⟨_, rfl, fun _ T => ?_⟩
    replace S : SL ([sl .own ku8 A24 k25 x23, sl .ro ku8 A21 x20.length x20, sl .ro ku8 A9 k10 x1.last, sl .ro ku8 A12 k13 x11.Key, sl .ro ku8 A14 k15 x11.Value, sl .ro ku8 A5 k6 x1.body, blk b17 [.slice A12 x11.Key.length k13, .int .u64 x11.Seq, .bool x11.Del, .slice A14 x11.Value.length k15], blk b2 [.slice A3 x1.out.length k4, .slice A5 x1.body.length k6, .slice A7 x1.index.length k8, .int .i64 x1.many, .int .i64 x1.blocks, .slice A9 x1.last.length k10], sl .own ku8 A3 k4 x1.out, sl .own ku8 A7 k8 x1.index] ++ F) _ := S.join
    refine ⟨_, [some (.pointer (some ⟨b2, 0, none⟩), true), some (.pointer (some ⟨b2, 0, none⟩), true), some (.pointer (some ⟨b2, 1, none⟩), true), some (.slice A5 x1.body.length k6, false), some (.slice A21 x20.length x20.length, false), some (.pointer (some ⟨b2, 0, none⟩), true), some (.pointer (some ⟨b2, 0, none⟩), true), some (.pointer (some ⟨b2, 5, none⟩), true), some (.slice A9 x1.last.length k10, false), some (.agg #[.slice A12 x11.Key.length k13, .int .u64 x11.Seq, .bool x11.Del, .slice A14 x11.Value.length k15], false), some (.slice A24 x23.length k25, false), some (.slice A24 x23.length k25, true)], [sl .own ku8 A24 k25 x23, sl .ro ku8 A21 x20.length x20, sl .ro ku8 A9 k10 x1.last, sl .ro ku8 A12 k13 x11.Key, sl .ro ku8 A14 k15 x11.Value, sl .ro ku8 A5 k6 x1.body, blk b17 [.slice A12 x11.Key.length k13, .int .u64 x11.Seq, .bool x11.Del, .slice A14 x11.Value.length k15], blk b2 [.slice A3 x1.out.length k4, .slice A5 x1.body.length k6, .slice A7 x1.index.length k8, .int .i64 x1.many, .int .i64 x1.blocks, .slice A9 x1.last.length k10], sl .own ku8 A3 k4 x1.out, sl .own ku8 A7 k8 x1.index], rfl, ⟨.inr ⟨_, _, _, rfl, rfl⟩, .inr ⟨_, _, _, rfl, rfl⟩, .inr ⟨_, _, _, rfl, rfl⟩, .inr ⟨_, _, _, rfl, rfl⟩, .inr ⟨_, _, _, rfl, rfl⟩, .inr ⟨_, _, _, rfl, rfl⟩, .inr ⟨_, _, _, rfl, rfl⟩, .inr ⟨_, _, _, rfl, rfl⟩, .inr ⟨_, _, _, rfl, rfl⟩, .inr ⟨_, _, _, rfl, rfl⟩, .inl rfl, .inl rfl, trivial⟩, rfl, ?_, T, S⟩
    refine stage none rfl rfl ⟨⟨_, [(0, .pointer (some ⟨b2, 0, none⟩))], rfl, ⟨.inr ⟨rfl, rfl⟩, trivial⟩, fun u a w T S => (by refine r_pv T rfl rfl fun _ T => ?_; exact ⟨rfl, T⟩)⟩, ⟨_, [(12, .pointer (some ⟨b2, 0, none⟩))], rfl, ⟨.inl ⟨0, rfl, rfl, rfl, rfl⟩, trivial⟩, fun u a w T S => (by refine r_pv T rfl rfl fun _ T => ?_; exact ⟨rfl, T⟩)⟩, ⟨_, [(13, .pointer (some ⟨b2, 0, none⟩))], rfl, ⟨.inl ⟨1, rfl, rfl, rfl, rfl⟩, trivial⟩, fun u a w T S => (by refine r_fa (o' := 1) T rfl Try.runUnderlying61 rfl Try.sizeOf24 rfl rfl fun _ T => ?_; exact ⟨rfl, T⟩)⟩, ⟨_, [(0, .pointer (some ⟨b2, 0, none⟩))], rfl, ⟨.inr ⟨rfl, rfl⟩, trivial⟩, fun u a w T S => (by refine r_pv T rfl rfl fun _ T => ?_; exact ⟨rfl, T⟩)⟩, ⟨_, [(17, .pointer (some ⟨b2, 0, none⟩))], rfl, ⟨.inl ⟨5, rfl, rfl, rfl, rfl⟩, trivial⟩, fun u a w T S => (by refine r_pv T rfl rfl fun _ T => ?_; exact ⟨rfl, T⟩)⟩, ⟨_, [(18, .pointer (some ⟨b2, 0, none⟩))], rfl, ⟨.inl ⟨6, rfl, rfl, rfl, rfl⟩, trivial⟩, fun u a w T S => (by refine r_fa (o' := 5) T rfl Try.runUnderlying61 rfl Try.sizeOf24 rfl rfl fun _ T => ?_; exact ⟨rfl, T⟩)⟩, ⟨_, [(22, .slice A24 x23.length k25)], rfl, ⟨.inl ⟨10, rfl, rfl, rfl, rfl⟩, trivial⟩, fun u a w T S => (by refine r_pv T rfl rfl fun _ T => ?_; exact ⟨rfl, T⟩)⟩, trivial⟩ rfl (fun i hi => by cases hi) (fun _ _ a w T hv hb S => ?_)
    replace T := T.sub (r := [(0, .pointer (some ⟨b2, 0, none⟩)), (2, .int .i64 x16), (4, .pointer (some ⟨b17, 0, none⟩)), (6, .slice A24 x23.length k25)]) ⟨hb 0 _ rfl rfl, hb 2 _ rfl rfl, hb 4 _ rfl rfl, hv 11 _ 6 rfl rfl rfl, trivial⟩
    refine Gets.seq ?_
    refine rg ?_
    refine r_pv T rfl rfl fun _ T => ?_
    refine r_lenS T rfl Try.runUnderlying24 rfl fun _ T => ?_
    refine r_pv T rfl rfl fun _ T => ?_
    refine r_pv T rfl rfl fun _ T => ?_
    rcases ifE H with ⟨h26, H⟩ | ⟨h26, H⟩
    · refine cdT T rfl h26 ?_
      refine Gets.seq ?_
      refine Gets.drawn (l := [sl .own ku8 A24 k25 x23, sl .ro ku8 A21 x20.length x20, sl .ro ku8 A9 k10 x1.last, sl .ro ku8 A12 k13 x11.Key, sl .ro ku8 A14 k15 x11.Value, sl .ro ku8 A5 k6 x1.body, blk b17 [.slice A12 x11.Key.length k13, .int .u64 x11.Seq, .bool x11.Del, .slice A14 x11.Value.length k15], blk b2 [.slice A3 x1.out.length k4, .slice A5 x1.body.length k6, .slice A7 x1.index.length k8, .int .i64 x1.many, .int .i64 x1.blocks, .slice A9 x1.last.length k10], sl .own ku8 A3 k4 x1.out, sl .own ku8 A7 k8 x1.index]) (V := [some (.pointer (some ⟨b2, 0, none⟩), true), some (.pointer (some ⟨b2, 0, none⟩), true), some (.slice A24 x23.length k25, true), some (.pointer (some ⟨b17, 0, none⟩), true), some (.slice A12 x11.Key.length k13, true), some (.pointer (some ⟨b2, 0, none⟩), true), some (.pointer (some ⟨b2, 1, none⟩), true), none, none, none, none]) mixed T S rfl ?_
      refine stage (some 7) rfl rfl ⟨⟨_, [(0, .pointer (some ⟨b2, 0, none⟩))], rfl, ⟨.inr ⟨rfl, rfl⟩, trivial⟩, fun u a w T S => (by refine r_pv T rfl rfl fun _ T => ?_; exact ⟨rfl, T⟩)⟩, ⟨_, [(0, .pointer (some ⟨b2, 0, none⟩))], rfl, ⟨.inr ⟨rfl, rfl⟩, trivial⟩, fun u a w T S => (by refine r_pv T rfl rfl fun _ T => ?_; exact ⟨rfl, T⟩)⟩, ⟨_, [(6, .slice A24 x23.length k25)], rfl, ⟨.inr ⟨rfl, rfl⟩, trivial⟩, fun u a w T S => (by refine r_pv T rfl rfl fun _ T => ?_; exact ⟨rfl, T⟩)⟩, ⟨_, [(4, .pointer (some ⟨b17, 0, none⟩))], rfl, ⟨.inr ⟨rfl, rfl⟩, trivial⟩, fun u a w T S => (by refine r_fa (o' := 0) T rfl Try.runUnderlying36 rfl Try.sizeOf24 rfl rfl fun _ T => ?_; exact ⟨rfl, T⟩)⟩, ⟨_, [(30, .pointer (some ⟨b17, 0, none⟩))], rfl, ⟨.inl ⟨3, rfl, rfl, rfl, rfl⟩, trivial⟩, fun u a w T S => (by refine r_ldB (ix := 6) T S rfl Try.isAgg24 rfl rfl rfl fun _ T => ?_; exact ⟨rfl, T⟩)⟩, ⟨_, [(27, .pointer (some ⟨b2, 0, none⟩))], rfl, ⟨.inl ⟨0, rfl, rfl, rfl, rfl⟩, trivial⟩, fun u a w T S => (by refine r_pv T rfl rfl fun _ T => ?_; exact ⟨rfl, T⟩)⟩, ⟨_, [(32, .pointer (some ⟨b2, 0, none⟩))], rfl, ⟨.inl ⟨5, rfl, rfl, rfl, rfl⟩, trivial⟩, fun u a w T S => (by refine r_fa (o' := 1) T rfl Try.runUnderlying61 rfl Try.sizeOf24 rfl rfl fun _ T => ?_; exact ⟨rfl, T⟩)⟩, trivial⟩ rfl (fun i hi => ?_) (fun h => by cases h)
      cases hi
      refine ⟨rfl, _, [(29, .slice A24 x23.length k25), (33, .pointer (some ⟨b2, 1, none⟩))], rfl, ⟨.inl ⟨2, rfl, rfl, rfl, rfl⟩, .inl ⟨6, rfl, rfl, rfl, rfl⟩, trivial⟩, fun u a w T S => ?_⟩
      refine r_stB (ix := 7) (l' := [sl .own ku8 A24 k25 x23, sl .ro ku8 A21 x20.length x20, sl .ro ku8 A9 k10 x1.last, sl .ro ku8 A12 k13 x11.Key, sl .ro ku8 A14 k15 x11.Value, sl .ro ku8 A5 k6 x1.body, blk b17 [.slice A12 x11.Key.length k13, .int .u64 x11.Seq, .bool x11.Del, .slice A14 x11.Value.length k15], blk b2 [.slice A3 x1.out.length k4, .slice A24 x23.length k25, .slice A7 x1.index.length k8, .int .i64 x1.many, .int .i64 x1.blocks, .slice A9 x1.last.length k10], sl .own ku8 A3 k4 x1.out, sl .own ku8 A7 k8 x1.index]) T S rfl rfl rfl Try.sizeOf24 rfl (Nat.le_of_ble_eq_true rfl) rfl fun _ S => ?_
      refine ⟨_, [some (.pointer (some ⟨b2, 0, none⟩), false), some (.pointer (some ⟨b2, 0, none⟩), true), some (.slice A24 x23.length k25, false), some (.pointer (some ⟨b17, 0, none⟩), true), some (.slice A12 x11.Key.length k13, true), some (.pointer (some ⟨b2, 0, none⟩), true), some (.pointer (some ⟨b2, 1, none⟩), false), some (undef, false), some (.pointer (some ⟨b2, 0, none⟩), true), some (.pointer (some ⟨b2, 5, none⟩), true), none], [sl .own ku8 A24 k25 x23, sl .ro ku8 A21 x20.length x20, sl .ro ku8 A9 k10 x1.last, sl .ro ku8 A12 k13 x11.Key, sl .ro ku8 A14 k15 x11.Value, sl .ro ku8 A5 k6 x1.body, blk b17 [.slice A12 x11.Key.length k13, .int .u64 x11.Seq, .bool x11.Del, .slice A14 x11.Value.length k15], blk b2 [.slice A3 x1.out.length k4, .slice A24 x23.length k25, .slice A7 x1.index.length k8, .int .i64 x1.many, .int .i64 x1.blocks, .slice A9 x1.last.length k10], sl .own ku8 A3 k4 x1.out, sl .own ku8 A7 k8 x1.index], rfl, ⟨.inr ⟨_, _, _, rfl, rfl⟩, .inr ⟨_, _, _, rfl, rfl⟩, .inr ⟨_, _, _, rfl, rfl⟩, .inr ⟨_, _, _, rfl, rfl⟩, .inr ⟨_, _, _, rfl, rfl⟩, .inr ⟨_, _, _, rfl, rfl⟩, .inr ⟨_, _, _, rfl, rfl⟩, .inl rfl, .inl rfl, .inl rfl, .inl rfl, trivial⟩, rfl, ?_, T, S⟩
      refine stage (some 10) rfl rfl ⟨⟨_, [(0, .pointer (some ⟨b2, 0, none⟩))], rfl, ⟨.inr ⟨rfl, rfl⟩, trivial⟩, fun u a w T S => (by refine r_pv T rfl rfl fun _ T => ?_; exact ⟨rfl, T⟩)⟩, ⟨_, [(4, .pointer (some ⟨b17, 0, none⟩))], rfl, ⟨.inr ⟨rfl, rfl⟩, trivial⟩, fun u a w T S => (by refine r_fa (o' := 0) T rfl Try.runUnderlying36 rfl Try.sizeOf24 rfl rfl fun _ T => ?_; exact ⟨rfl, T⟩)⟩, ⟨_, [(30, .pointer (some ⟨b17, 0, none⟩))], rfl, ⟨.inl ⟨3, rfl, rfl, rfl, rfl⟩, trivial⟩, fun u a w T S => (by refine r_ldB (ix := 6) T S rfl Try.isAgg24 rfl rfl rfl fun _ T => ?_; exact ⟨rfl, T⟩)⟩, ⟨_, [(27, .pointer (some ⟨b2, 0, none⟩))], rfl, ⟨.inl ⟨0, rfl, rfl, rfl, rfl⟩, trivial⟩, fun u a w T S => (by refine r_pv T rfl rfl fun _ T => ?_; exact ⟨rfl, T⟩)⟩, ⟨_, [(28, .pointer (some ⟨b2, 0, none⟩))], rfl, ⟨.inl ⟨1, rfl, rfl, rfl, rfl⟩, trivial⟩, fun u a w T S => (by refine r_pv T rfl rfl fun _ T => ?_; exact ⟨rfl, T⟩)⟩, ⟨_, [(34, .pointer (some ⟨b2, 0, none⟩))], rfl, ⟨.inl ⟨8, rfl, rfl, rfl, rfl⟩, trivial⟩, fun u a w T S => (by refine r_fa (o' := 5) T rfl Try.runUnderlying61 rfl Try.sizeOf24 rfl rfl fun _ T => ?_; exact ⟨rfl, T⟩)⟩, trivial⟩ rfl (fun i hi => ?_) (fun h => by cases h)
      cases hi
      refine ⟨rfl, _, [(31, .slice A12 x11.Key.length k13), (35, .pointer (some ⟨b2, 5, none⟩))], rfl, ⟨.inl ⟨4, rfl, rfl, rfl, rfl⟩, .inl ⟨9, rfl, rfl, rfl, rfl⟩, trivial⟩, fun u a w T S => ?_⟩
      refine r_stB (ix := 7) (l' := [sl .own ku8 A24 k25 x23, sl .ro ku8 A21 x20.length x20, sl .ro ku8 A9 k10 x1.last, sl .ro ku8 A12 k13 x11.Key, sl .ro ku8 A14 k15 x11.Value, sl .ro ku8 A5 k6 x1.body, blk b17 [.slice A12 x11.Key.length k13, .int .u64 x11.Seq, .bool x11.Del, .slice A14 x11.Value.length k15], blk b2 [.slice A3 x1.out.length k4, .slice A24 x23.length k25, .slice A7 x1.index.length k8, .int .i64 x1.many, .int .i64 x1.blocks, .slice A12 x11.Key.length k13], sl .own ku8 A3 k4 x1.out, sl .own ku8 A7 k8 x1.index]) T S rfl rfl rfl Try.sizeOf24 rfl (Nat.le_of_ble_eq_true rfl) rfl fun _ S => ?_
      refine ⟨_, [some (.pointer (some ⟨b2, 0, none⟩), false), some (.pointer (some ⟨b2, 0, none⟩), false), some (.slice A24 x23.length k25, false), some (.pointer (some ⟨b17, 0, none⟩), false), some (.slice A12 x11.Key.length k13, false), some (.pointer (some ⟨b2, 0, none⟩), false), some (.pointer (some ⟨b2, 1, none⟩), false), some (undef, false), some (.pointer (some ⟨b2, 0, none⟩), true), some (.pointer (some ⟨b2, 5, none⟩), false), some (undef, false)], [sl .own ku8 A24 k25 x23, sl .ro ku8 A21 x20.length x20, sl .ro ku8 A9 k10 x1.last, sl .ro ku8 A12 k13 x11.Key, sl .ro ku8 A14 k15 x11.Value, sl .ro ku8 A5 k6 x1.body, blk b17 [.slice A12 x11.Key.length k13, .int .u64 x11.Seq, .bool x11.Del, .slice A14 x11.Value.length k15], blk b2 [.slice A3 x1.out.length k4, .slice A24 x23.length k25, .slice A7 x1.index.length k8, .int .i64 x1.many, .int .i64 x1.blocks, .slice A12 x11.Key.length k13], sl .own ku8 A3 k4 x1.out, sl .own ku8 A7 k8 x1.index], rfl, ⟨.inr ⟨_, _, _, rfl, rfl⟩, .inr ⟨_, _, _, rfl, rfl⟩, .inr ⟨_, _, _, rfl, rfl⟩, .inr ⟨_, _, _, rfl, rfl⟩, .inr ⟨_, _, _, rfl, rfl⟩, .inr ⟨_, _, _, rfl, rfl⟩, .inr ⟨_, _, _, rfl, rfl⟩, .inr ⟨_, _, _, rfl, rfl⟩, .inr ⟨_, _, _, rfl, rfl⟩, .inr ⟨_, _, _, rfl, rfl⟩, .inl rfl, trivial⟩, rfl, ?_, T, S⟩
      refine stage none rfl rfl ⟨⟨_, [(28, .pointer (some ⟨b2, 0, none⟩))], rfl, ⟨.inl ⟨1, rfl, rfl, rfl, rfl⟩, trivial⟩, fun u a w T S => (by refine r_pv T rfl rfl fun _ T => ?_; exact ⟨rfl, T⟩)⟩, trivial⟩ rfl (fun i hi => by cases hi) (fun _ _ a w T hv hb S => ?_)
      replace T := T.sub (r := [(0, .pointer (some ⟨b2, 0, none⟩))]) ⟨hb 0 _ rfl rfl, trivial⟩
      refine Gets.seq ?_
      refine rg ?_
      refine r_pv T rfl rfl fun _ T => ?_
      refine r_pv T rfl rfl fun _ T => ?_
      refine r_fa (o' := 3) T rfl Try.runUnderlying61 rfl Try.sizeOf3 rfl rfl fun _ T => ?_
      refine r_ldB (ix := 7) T S rfl Try.isAgg3 rfl rfl rfl fun _ T => ?_
      refine r_pv T rfl rfl fun _ T => ?_
      refine r_pv T rfl rfl fun _ T => ?_
      refine r_fa (o' := 3) T rfl Try.runUnderlying61 rfl Try.sizeOf3 rfl rfl fun _ T => ?_
      refine r_stB (ix := 7) (l' := [sl .own ku8 A24 k25 x23, sl .ro ku8 A21 x20.length x20, sl .ro ku8 A9 k10 x1.last, sl .ro ku8 A12 k13 x11.Key, sl .ro ku8 A14 k15 x11.Value, sl .ro ku8 A5 k6 x1.body, blk b17 [.slice A12 x11.Key.length k13, .int .u64 x11.Seq, .bool x11.Del, .slice A14 x11.Value.length k15], blk b2 [.slice A3 x1.out.length k4, .slice A24 x23.length k25, .slice A7 x1.index.length k8, .int .i64 (wr .i64 (x1.many + 1)), .int .i64 x1.blocks, .slice A12 x11.Key.length k13], sl .own ku8 A3 k4 x1.out, sl .own ku8 A7 k8 x1.index]) T S rfl rfl rfl Try.sizeOf3 rfl (Nat.le_of_ble_eq_true rfl) rfl fun _ S => ?_
      replace S : SL ([sl .ro ku8 A24 k25 x23, sl .ro ku8 A21 x20.length x20, sl .ro ku8 A9 k10 x1.last, sl .ro ku8 A12 k13 x11.Key, sl .ro ku8 A14 k15 x11.Value, sl .ro ku8 A5 k6 x1.body, blk b17 [.slice A12 x11.Key.length k13, .int .u64 x11.Seq, .bool x11.Del, .slice A14 x11.Value.length k15], blk b2 [.slice A3 x1.out.length k4, .slice A24 x23.length k25, .slice A7 x1.index.length k8, .int .i64 (wr .i64 (x1.many + 1)), .int .i64 x1.blocks, .slice A12 x11.Key.length k13], sl .own ku8 A3 k4 x1.out, sl .own ku8 A7 k8 x1.index] ++ F) _ := S.fixL (i := 0) rfl rfl
      replace S := S.dup (i := 3) rfl
      replace H := Option.some.inj H
      subst H
      exact rtn T Try.func27 rfl rfl ⟨A3, k4, A24, k25, A7, k8, A12, k13, rfl, (S.only (p := [blk b2 [.slice A3 x1.out.length k4, .slice A24 x23.length k25, .slice A7 x1.index.length k8, .int .i64 (wr .i64 (x1.many + 1)), .int .i64 x1.blocks, .slice A12 x11.Key.length k13], sl .own ku8 A3 k4 x1.out, sl .ro ku8 A24 k25 x23, sl .own ku8 A7 k8 x1.index, sl .ro ku8 A12 k13 x11.Key, sl .ro ku8 A12 k13 x11.Key, sl .ro ku8 A14 k15 x11.Value]) [8, 8, 1, 7, 3, 0, 2] rfl)⟩
    · refine cdF T rfl h26 ?_
      refine Gets.skip ?_
      refine rg ?_
      refine r_pv T rfl rfl fun _ T => ?_
      obtain ⟨x28, h27, H⟩ := bd H
      refine r_call T Try.call29 rfl rfl (sstable_builder_close.ok _ _ z x1 (S.sel (p := [blk b2 [.slice A3 x1.out.length k4, .slice A5 x1.body.length k6, .slice A7 x1.index.length k8, .int .i64 x1.many, .int .i64 x1.blocks, .slice A9 x1.last.length k10], sl .own ku8 A3 k4 x1.out, sl .ro ku8 A5 k6 x1.body, sl .own ku8 A7 k8 x1.index, sl .ro ku8 A9 k10 x1.last]) (is := [7, 7, 5, 6, 2]) rfl) _ h27) ?_
      rintro _ _ ⟨A30, k31, A32, k33, A34, k35, A36, k37, rfl, S⟩
      refine ⟨_, rfl, fun _ T => ?_⟩
      replace S : SL ([blk b2 [.slice A30 x28.out.length k31, .slice A32 x28.body.length k33, .slice A34 x28.index.length k35, .int .i64 x28.many, .int .i64 x28.blocks, .slice A36 x28.last.length k37], sl .own ku8 A30 k31 x28.out, sl .ro ku8 A32 k33 x28.body, sl .own ku8 A34 k35 x28.index, sl .ro ku8 A36 k37 x28.last, sl .own ku8 A24 k25 x23, sl .ro ku8 A21 x20.length x20, sl .ro ku8 A12 k13 x11.Key, sl .ro ku8 A14 k15 x11.Value, blk b17 [.slice A12 x11.Key.length k13, .int .u64 x11.Seq, .bool x11.Del, .slice A14 x11.Value.length k15]] ++ F) _ := S.join
      exact J0_ok F r z b2 x11 A12 k13 A14 k15 b17 x16 A30 x28.out k31 A32 x28.body k33 A34 x28.index k35 x28.many x28.blocks A36 x28.last k37 _ _ (T.sub ⟨rfl, rfl, trivial⟩) (S.only (p := [blk b2 [.slice A30 x28.out.length k31, .slice A32 x28.body.length k33, .slice A34 x28.index.length k35, .int .i64 x28.many, .int .i64 x28.blocks, .slice A36 x28.last.length k37], sl .own ku8 A30 k31 x28.out, sl .ro ku8 A32 k33 x28.body, sl .own ku8 A34 k35 x28.index, sl .ro ku8 A36 k37 x28.last, sl .ro ku8 A12 k13 x11.Key, sl .ro ku8 A14 k15 x11.Value, blk b17 [.slice A12 x11.Key.length k13, .int .u64 x11.Seq, .bool x11.Del, .slice A14 x11.Value.length k15]]) [0, 0, 0, 0, 0, 2, 2, 2] rfl) H
  · refine cdF T rfl h18 ?_
    refine Gets.skip ?_
    exact J0_ok F r z b2 x11 A12 k13 A14 k15 b17 x16 A3 x1.out k4 A5 x1.body k6 A7 x1.index k8 x1.many x1.blocks A9 x1.last k10 _ _ (T.sub ⟨rfl, rfl, trivial⟩) (S.only (p := [blk b2 [.slice A3 x1.out.length k4, .slice A5 x1.body.length k6, .slice A7 x1.index.length k8, .int .i64 x1.many, .int .i64 x1.blocks, .slice A9 x1.last.length k10], sl .own ku8 A3 k4 x1.out, sl .ro ku8 A5 k6 x1.body, sl .own ku8 A7 k8 x1.index, sl .ro ku8 A9 k10 x1.last, sl .ro ku8 A12 k13 x11.Key, sl .ro ku8 A14 k15 x11.Value, blk b17 [.slice A12 x11.Key.length k13, .int .u64 x11.Seq, .bool x11.Del, .slice A14 x11.Value.length k15]]) [1, 1, 1, 1, 1, 1, 1, 0] rfl) H
end sstable_builder_add
end Go.Proofs.Ytghpokmkhlmgcaa

namespace Go.Proofs.Ytghpokmkhlmgcaa
open Go Go.Proofs.Ytghpokmkhlmgcaa.X
set_option linter.unusedVariables false
set_option linter.unusedSimpArgs false
set_option maxRecDepth 100000
set_option maxHeartbeats 4000000
/-! ### cormorant.bloom.Make$1: function 82 -/
namespace bloom_Make_c1
noncomputable def c0 : Code := match Try.f82.body with | some c => c | none => .skip
def R (F : List Atom) (b4 : Nat) (r : Bool × (List Int)) : Ending → World → Prop := fun e w' => ∃ (A9 : Option Addr), ∃ (k10 : Nat), e = .returned (.bool r.1) ∧ SL ([blk b4 [.slice A9 r.2.length k10], sl .own ku8 A9 k10 r.2] ++ F) w'
def f (x1 : Int) (x2 : Int) (x3 : List Int) : Option (Bool × (List Int)) := Ck (0 ≤ wr .i64 (1 + x1) ∧ wr .i64 (1 + x1) < (x3.length : Int)) (some (true, (x3.set (Int.toNat (wr .i64 (1 + x1))) (bOr .u8 (gi (0 : Int) x3 (wr .i64 (1 + x1))) x2))))
theorem ok (F : List Atom) (w : World) (x1 : Int) (x2 : Int) (x3 : List Int) {b4 : Nat} {A5 : Option Addr} {k6 : Nat} (S : SL ([blk b4 [.slice A5 x3.length k6], sl .own ku8 A5 k6 x3] ++ F) w) (r : Bool × (List Int)) (H : f x1 x2 x3 = some r) : Calls Try.prog 82 #[.int .i64 x1, .int .u8 x2, .pointer (some ⟨b4, 0, none⟩)] w (R F b4 r) := by
  refine enter (vs := [.int .i64 x1, .int .u8 x2, .pointer (some ⟨b4, 0, none⟩)]) Try.func82 rfl Try.ntmps82 (Nat.le_of_ble_eq_true rfl) fun a T => ?_
  refine Gets.seq ?_
  refine rg ?_
  refine r_pv T rfl rfl fun _ T => ?_
  refine Gets.seq ?_
  refine rg ?_
  refine r_ldB (ix := 0) T S rfl Try.isAgg24 rfl rfl rfl fun _ T => ?_
  refine r_pv T rfl rfl fun _ T => ?_
  refine r_pv T rfl rfl fun _ T => ?_
  obtain ⟨h7, H⟩ := ck H
  refine r_ia (ix := 1) T S rfl rfl rfl rfl Try.runUnderlying24 Try.sizeOf5 h7.1 h7.2 rfl fun _ T => ?_
  refine r_ldE (ix := 1) (i := wr .i64 (1 + x1)) (off := 0) (f := (Value.int .u8)) T S rfl Try.isAgg5 rfl (0 : Int) _ rfl rfl (Fld.all _) h7.1 h7.2 (fun h => h) rfl fun _ T => ?_
  refine r_pv T rfl rfl fun _ T => ?_
  refine r_pv T rfl rfl fun _ T => ?_
  refine r_ia (ix := 1) T S rfl rfl rfl rfl Try.runUnderlying24 Try.sizeOf5 h7.1 h7.2 rfl fun _ T => ?_
  refine r_stE (ix := 1) (i := wr .i64 (1 + x1)) (u := bOr .u8 (gi (0 : Int) x3 (wr .i64 (1 + x1))) x2) (l' := [blk b4 [.slice A5 x3.length k6], sl .own ku8 A5 k6 (x3.set (Int.toNat (wr .i64 (1 + x1))) (bOr .u8 (gi (0 : Int) x3 (wr .i64 (1 + x1))) x2))]) T S rfl rfl rfl rfl (fun _ => rfl) Try.sizeOf5 h7.1 h7.2 rfl fun _ S => ?_
  refine Gets.seq ?_
  refine rg ?_
  refine r_pv T rfl rfl fun _ T => ?_
  replace S : SL ([blk b4 [.slice A5 ((x3.set (Int.toNat (wr .i64 (1 + x1))) (bOr .u8 (gi (0 : Int) x3 (wr .i64 (1 + x1))) x2)).length) k6], sl .own ku8 A5 k6 (x3.set (Int.toNat (wr .i64 (1 + x1))) (bOr .u8 (gi (0 : Int) x3 (wr .i64 (1 + x1))) x2))] ++ F) _ := S.reB (i := 0) rfl (by simp) rfl
  replace H := Option.some.inj H
  subst H
  exact rtn T Try.func82 rfl rfl ⟨A5, k6, rfl, (S.only (p := [blk b4 [.slice A5 ((x3.set (Int.toNat (wr .i64 (1 + x1))) (bOr .u8 (gi (0 : Int) x3 (wr .i64 (1 + x1))) x2)).length) k6], sl .own ku8 A5 k6 (x3.set (Int.toNat (wr .i64 (1 + x1))) (bOr .u8 (gi (0 : Int) x3 (wr .i64 (1 + x1))) x2))]) [0, 0] rfl)⟩
end bloom_Make_c1
end Go.Proofs.Ytghpokmkhlmgcaa

namespace Go.Proofs.Ytghpokmkhlmgcaa
open Go Go.Proofs.Ytghpokmkhlmgcaa.X
set_option linter.unusedVariables false
set_option linter.unusedSimpArgs false
set_option maxRecDepth 100000
set_option maxHeartbeats 4000000
/-! ### cormorant.bloom.each: function 66 -/
namespace bloom_each_at82
noncomputable def c0 : Code := match Try.f66.body with | some c => c | none => .skip
def R (F : List Atom) (x1 : List Int) (A2 : Option Addr) (k3 : Nat) (m4 : Md) (b8 : Nat) (r : Bool × (List Int)) : Ending → World → Prop := fun e w' => ∃ (A30 : Option Addr), ∃ (k31 : Nat), e = .returned (.bool r.1) ∧ SL ([sl m4 ku8 A2 k3 x1, blk b8 [.slice A30 r.2.length k31], sl .own ku8 A30 k31 r.2] ++ F) w'
def L0 (z : Nat) (x5 : Int) (x6 : Int) (x14 : Int) : Nat → Int → Int → (List Int) → Option (Bool × (List Int))
  | 0, _, _, _ => none
  | m + 1, x18, x19, x15 => If (decide (x19 < x5)) (Ck (x6 ≠ 0) (Ck (0 ≤ Int.tmod (Int.tmod x18 x6) 8) (Bd (bloom_Make_c1.f (wr .i64 (wr .u64 (Int.tdiv (Int.tmod x18 x6) 8))) (sShl .u8 1 (Int.tmod (Int.tmod x18 x6) 8)) x15) fun x24 => If (!x24.1) (some (false, x24.2)) (L0 z x5 x6 x14 m (wr .u64 (x18 + (bOr .u64 x14 1))) (wr .i64 (x19 + 1)) x24.2)))) (some (true, x15))
def f (z : Nat) (x1 : List Int) (x5 : Int) (x6 : Int) (x7 : List Int) : Option (Bool × (List Int)) := Bd (bloom_Hash.f z x1) fun x12 => Bd (bits_RotateLeft64.f x12 31) fun x14 => L0 z x5 x6 x14 z x12 0 x7
noncomputable def ptL0 : List Item := [.code (cB (cB (cR (cL (cR (cR (cR c0))))))), .inLoop (cB (cB (cR (cL (cR (cR (cR c0))))))), .inBlock 0, .code (cR (cR (cR (cR c0))))]
theorem L0_ok (F : List Atom) (r : Bool × (List Int)) (z : Nat) (x1 : List Int) (A2 : Option Addr) (k3 : Nat) (m4 : Md) (b8 : Nat) (x6 : Int) (x14 : Int) (x5 : Int) (m : Nat) : ∀ (x18 : Int) (x19 : Int) (A16 : Option Addr) (x15 : List Int) (k17 : Nat) (a : Act) (w : World), Tm 36 [(2, .int .u64 x6), (3, .func (.func 82) #[] #[.pointer (some ⟨b8, 0, none⟩)]), (9, .int .u64 x18), (10, .int .u64 (bOr .u64 x14 1)), (17, .int .i64 x5), (18, .int .i64 x19)] a → SL ([sl m4 ku8 A2 k3 x1, blk b8 [.slice A16 x15.length k17], sl .own ku8 A16 k17 x15] ++ F) w → L0 z x5 x6 x14 m x18 x19 x15 = some r → Gets Try.prog 66 ptL0 a w (R F x1 A2 k3 m4 b8 r) := by
  induction m with
  | zero => intro _ _ _ _ _ _ _ _ _ H; cases H
  | succ m ih =>
    intro x18 x19 A16 x15 k17 a w T S H
    refine Gets.seq ?_
    refine rg ?_
    refine r_pv T rfl rfl fun _ T => ?_
    refine Gets.seq ?_
    rcases ifE H with ⟨h20, H⟩ | ⟨h20, H⟩
    · refine cdT T rfl h20 ?_
      refine Gets.skip (Gets.seq (Gets.block (Gets.seq ?_)))
      refine rg ?_
      refine r_pv T rfl rfl fun _ T => ?_
      refine r_pv T rfl rfl fun _ T => ?_
      obtain ⟨h21, H⟩ := ck H
      refine r_rem T rfl rfl h21 rfl fun _ T => ?_
      refine r_pv T rfl rfl fun _ T => ?_
      refine Gets.seq (Gets.seq ?_)
      refine rg ?_
      refine r_pv T rfl rfl fun _ T => ?_
      refine r_pv T rfl rfl fun _ T => ?_
      refine r_quo T rfl rfl (by decide) rfl fun _ T => ?_
      refine r_conv T rfl Try.runUnderlying34 Try.runUnderlying3 rfl fun _ T => ?_
      refine r_pv T rfl rfl fun _ T => ?_
      refine r_rem T rfl rfl (by decide) rfl fun _ T => ?_
      obtain ⟨h22, H⟩ := ck H
      refine r_shl T rfl rfl h22 rfl fun _ T => ?_
      obtain ⟨x24, h23, H⟩ := bd H
      refine r_callF T rfl Try.call82 rfl rfl (bloom_Make_c1.ok _ _ (wr .i64 (wr .u64 (Int.tdiv (Int.tmod x18 x6) 8))) (sShl .u8 1 (Int.tmod (Int.tmod x18 x6) 8)) x15 (S.sel (p := [blk b8 [.slice A16 x15.length k17], sl .own ku8 A16 k17 x15]) (is := [1, 1]) rfl) _ h23) ?_
      rintro _ _ ⟨A26, k27, rfl, S⟩
      refine ⟨_, rfl, fun _ T => ?_⟩
      replace S : SL ([blk b8 [.slice A26 x24.2.length k27], sl .own ku8 A26 k27 x24.2, sl m4 ku8 A2 k3 x1] ++ F) _ := S.join
      refine r_pv T rfl rfl fun _ T => ?_
      rcases ifE H with ⟨h28, H⟩ | ⟨h28, H⟩
      · refine cdT T rfl h28 ?_
        refine Gets.seq ?_
        refine rg ?_
        refine r_pv T rfl rfl fun _ T => ?_
        replace H := Option.some.inj H
        subst H
        exact rtn T Try.func66 rfl rfl ⟨A26, k27, rfl, (S.only (p := [sl m4 ku8 A2 k3 x1, blk b8 [.slice A26 x24.2.length k27], sl .own ku8 A26 k27 x24.2]) [2, 0, 0] rfl)⟩
      · refine cdF T rfl h28 ?_
        refine Gets.skip ?_
        refine rg ?_
        refine r_pv T rfl rfl fun _ T => ?_
        refine r_pv T rfl rfl fun _ T => ?_
        refine r_pv T rfl rfl fun _ T => ?_
        refine r_pv T rfl rfl fun _ T => ?_
        refine Gets.inBlock ?_
        refine rg ?_
        refine r_pv T rfl rfl fun _ T => ?_
        refine r_pv T rfl rfl fun _ T => ?_
        refine Gets.inLoop ?_
        exact ih (wr .u64 (x18 + (bOr .u64 x14 1))) (wr .i64 (x19 + 1)) A26 x24.2 k27 _ _ (T.sub ⟨rfl, rfl, rfl, rfl, rfl, rfl, trivial⟩) (S.only (p := [sl m4 ku8 A2 k3 x1, blk b8 [.slice A26 x24.2.length k27], sl .own ku8 A26 k27 x24.2]) [2, 0, 0] rfl) H
    · refine cdF T rfl h20 ?_
      refine Gets.exit rfl (Gets.seq ?_)
      refine rg ?_
      refine r_pv T rfl rfl fun _ T => ?_
      replace H := Option.some.inj H
      subst H
      exact rtn T Try.func66 rfl rfl ⟨A16, k17, rfl, (S.only (p := [sl m4 ku8 A2 k3 x1, blk b8 [.slice A16 x15.length k17], sl .own ku8 A16 k17 x15]) [0, 0, 0] rfl)⟩
theorem ok (F : List Atom) (w : World) (z : Nat) (x1 : List Int) (x5 : Int) (x6 : Int) (x7 : List Int) {A2 : Option Addr} {k3 : Nat} {m4 : Md} {b8 : Nat} {A9 : Option Addr} {k10 : Nat} (S : SL ([sl m4 ku8 A2 k3 x1, blk b8 [.slice A9 x7.length k10], sl .own ku8 A9 k10 x7] ++ F) w) (r : Bool × (List Int)) (H : f z x1 x5 x6 x7 = some r) : Calls Try.prog 66 #[.slice A2 x1.length k3, .int .i64 x5, .int .u64 x6, .func (.func 82) #[] #[.pointer (some ⟨b8, 0, none⟩)]] w (R F x1 A2 k3 m4 b8 r) := by
  refine enter (vs := [.slice A2 x1.length k3, .int .i64 x5, .int .u64 x6, .func (.func 82) #[] #[.pointer (some ⟨b8, 0, none⟩)]]) Try.func66 rfl Try.ntmps66 (Nat.le_of_ble_eq_true rfl) fun a T => ?_
  refine Gets.seq ?_
  refine rg ?_
  refine r_pv T rfl rfl fun _ T => ?_
  refine Gets.seq ?_
  refine rg ?_
  refine r_pv T rfl rfl fun _ T => ?_
  obtain ⟨x12, h11, H⟩ := bd H
  refine r_call T Try.call87 rfl rfl (bloom_Hash.ok _ _ z x1 (S.sel (p := [sl m4 ku8 A2 k3 x1]) (is := [0]) rfl) _ h11) ?_
  rintro _ _ ⟨rfl, S⟩
  refine ⟨_, rfl, fun _ T => ?_⟩
  replace S : SL ([sl m4 ku8 A2 k3 x1, blk b8 [.slice A9 x7.length k10], sl .own ku8 A9 k10 x7] ++ F) _ := S.join
  refine r_pv T rfl rfl fun _ T => ?_
  refine Gets.seq ?_
  refine rg ?_
  refine r_pv T rfl rfl fun _ T => ?_
  obtain ⟨x14, h13, H⟩ := bd H
  refine r_call T Try.call88 rfl rfl (bits_RotateLeft64.ok _ _ x12 31 (S.sel (p := []) (is := []) rfl) _ h13) ?_
  rintro _ _ ⟨rfl, S⟩
  refine ⟨_, rfl, fun _ T => ?_⟩
  replace S : SL ([sl m4 ku8 A2 k3 x1, blk b8 [.slice A9 x7.length k10], sl .own ku8 A9 k10 x7] ++ F) _ := S.join
  refine r_pv T rfl rfl fun _ T => ?_
  refine r_pv T rfl rfl fun _ T => ?_
  refine Gets.seq (Gets.seq ?_)
  refine rg ?_
  refine r_pv T rfl rfl fun _ T => ?_
  refine r_pv T rfl rfl fun _ T => ?_
  refine Gets.block ?_
  refine Gets.loop ?_
  exact L0_ok F r z x1 A2 k3 m4 b8 x6 x14 x5 z x12 0 A9 x7 k10 _ _ (T.sub ⟨rfl, rfl, rfl, rfl, rfl, rfl, trivial⟩) (S.only (p := [sl m4 ku8 A2 k3 x1, blk b8 [.slice A9 x7.length k10], sl .own ku8 A9 k10 x7]) [0, 0, 0] rfl) H
end bloom_each_at82
end Go.Proofs.Ytghpokmkhlmgcaa

namespace Go.Proofs.Ytghpokmkhlmgcaa
open Go Go.Proofs.Ytghpokmkhlmgcaa.X
set_option linter.unusedVariables false
set_option linter.unusedSimpArgs false
set_option maxRecDepth 100000
set_option maxHeartbeats 4000000
/-! ### cormorant.bloom.Make: function 57 -/
namespace bloom_Make
noncomputable def c0 : Code := match Try.f57.body with | some c => c | none => .skip
def R (F : List Atom) (x1 : List (List Int)) (A2 : Option Addr) (k3 : Nat) (m4 : Md) (r : (List Int) × Int) : Ending → World → Prop := fun e w' => ∃ (A26 : Option Addr), ∃ (k27 : Nat), e = .returned (.tuple #[.slice A26 r.1.length k27, .int .i64 r.2]) ∧ SL ([sl .own ku8 A26 k27 r.1, sl m4 (kSl ku8) A2 k3 x1] ++ F) w'
def L1 (z : Nat) (x1 : List (List Int)) (x5 : Int) : Nat → Int → (List Int) → Option ((List Int) × Int)
  | 0, _, _ => none
  | m + 1, x16, x13 => If (decide (x16 < (x1.length : Int))) (Ck (0 ≤ x16 ∧ x16 < (x1.length : Int)) (Bd (bloom_each_at82.f z (gi [] x1 x16) (mx 1 (wr .i64 (Int.tdiv (wr .i64 (x5 * 69)) 100))) (wr .u64 (wr .i64 ((mx 1 (wr .i64 (Int.tdiv (wr .i64 ((wr .i64 ((x1.length : Int) * x5)) + 63)) 64))) * 64))) x13) fun x22 => L1 z x1 x5 m (wr .i64 (x16 + 1)) x22.2)) (some (x13, 0))
def J0 (z : Nat) : Option ((List Int) × Int) := some (([] : List Int), 1)
def f (z : Nat) (x1 : List (List Int)) (x5 : Int) : Option ((List Int) × Int) := If (decide (x5 < 1)) (J0 z) (If (decide (x5 > 30)) (J0 z) (If (decide ((x1.length : Int) > 65536)) (J0 z) (Ck (0 ≤ wr .i64 (1 + (wr .i64 (Int.tdiv (wr .i64 ((mx 1 (wr .i64 (Int.tdiv (wr .i64 ((wr .i64 ((x1.length : Int) * x5)) + 63)) 64))) * 64)) 8))) ∧ wr .i64 (1 + (wr .i64 (Int.tdiv (wr .i64 ((mx 1 (wr .i64 (Int.tdiv (wr .i64 ((wr .i64 ((x1.length : Int) * x5)) + 63)) 64))) * 64)) 8))) ≤ wr .i64 (1 + (wr .i64 (Int.tdiv (wr .i64 ((mx 1 (wr .i64 (Int.tdiv (wr .i64 ((wr .i64 ((x1.length : Int) * x5)) + 63)) 64))) * 64)) 8))) ∧ 1 * (wr .i64 (1 + (wr .i64 (Int.tdiv (wr .i64 ((mx 1 (wr .i64 (Int.tdiv (wr .i64 ((wr .i64 ((x1.length : Int) * x5)) + 63)) 64))) * 64)) 8)))) ≤ 281474976710656) (Ck (0 < ((List.replicate (Int.toNat (wr .i64 (1 + (wr .i64 (Int.tdiv (wr .i64 ((mx 1 (wr .i64 (Int.tdiv (wr .i64 ((wr .i64 ((x1.length : Int) * x5)) + 63)) 64))) * 64)) 8))))) (0 : Int)).length : Int)) (L1 z x1 x5 z 0 ((List.replicate (Int.toNat (wr .i64 (1 + (wr .i64 (Int.tdiv (wr .i64 ((mx 1 (wr .i64 (Int.tdiv (wr .i64 ((wr .i64 ((x1.length : Int) * x5)) + 63)) 64))) * 64)) 8))))) (0 : Int)).set (Int.toNat 0) (wr .u8 (mx 1 (wr .i64 (Int.tdiv (wr .i64 (x5 * 69)) 100))))))))))
noncomputable def ptL1 : List Item := [.code (cB (cB (cR (cL (cR (cR (cR (cR (cR (cR c0)))))))))), .inLoop (cB (cB (cR (cL (cR (cR (cR (cR (cR (cR c0)))))))))), .inBlock 0, .code (cR (cR (cR (cR (cR (cR (cR c0)))))))]
noncomputable def ptJ0 : List Item := [.code (cL (cT (cR (cL (cR c0))))), .code (cR (cT (cR (cL (cR c0))))), .code (cR (cR c0))]
theorem L1_ok (F : List Atom) (r : (List Int) × Int) (z : Nat) (x1 : List (List Int)) (A2 : Option Addr) (k3 : Nat) (m4 : Md) (x5 : Int) (b11 : Nat) (m : Nat) : ∀ (x16 : Int) (A14 : Option Addr) (x13 : List Int) (k15 : Nat) (a : Act) (w : World), Tm 56 [(6, .int .i64 (wr .i64 ((mx 1 (wr .i64 (Int.tdiv (wr .i64 ((wr .i64 ((x1.length : Int) * x5)) + 63)) 64))) * 64))), (7, .int .i64 (mx 1 (wr .i64 (Int.tdiv (wr .i64 (x5 * 69)) 100)))), (8, .pointer (some ⟨b11, 0, none⟩)), (42, .slice A2 x1.length k3), (43, .int .i64 (x1.length : Int)), (44, .int .i64 x16)] a → SL ([sl m4 (kSl ku8) A2 k3 x1, blk b11 [.slice A14 x13.length k15], sl .own ku8 A14 k15 x13] ++ F) w → L1 z x1 x5 m x16 x13 = some r → Gets Try.prog 57 ptL1 a w (R F x1 A2 k3 m4 r) := by
  induction m with
  | zero => intro _ _ _ _ _ _ _ _ H; cases H
  | succ m ih =>
    intro x16 A14 x13 k15 a w T S H
    refine Gets.seq ?_
    refine rg ?_
    refine r_pv T rfl rfl fun _ T => ?_
    refine Gets.seq ?_
    rcases ifE H with ⟨h17, H⟩ | ⟨h17, H⟩
    · refine cdT T rfl h17 ?_
      refine Gets.skip (Gets.seq (Gets.block (Gets.seq ?_)))
      refine rg ?_
      obtain ⟨h18, H⟩ := ck H
      refine r_ia (ix := 0) T S rfl rfl rfl rfl Try.runUnderlying62 Try.sizeOf24 h18.1 h18.2 rfl fun _ T => ?_
      refine r_ldR (ix := 0) (i := x16) (off := 0) T S rfl Try.isAgg24 rfl [] _ rfl rfl (Fld.all _) h18.1 h18.2 rfl rfl fun _ _ S T => ?_
      obtain ⟨A19, k20, hv_, S_⟩ := S.ofVal
      subst hv_
      replace S := S_
      refine r_pv T rfl rfl fun _ T => ?_
      refine rg ?_
      refine r_pv T rfl rfl fun _ T => ?_
      refine r_pv T rfl rfl fun _ T => ?_
      refine r_pv T rfl rfl fun _ T => ?_
      refine r_conv T rfl Try.runUnderlying3 Try.runUnderlying34 rfl fun _ T => ?_
      refine r_pv T rfl rfl fun _ T => ?_
      obtain ⟨x22, h21, H⟩ := bd H
      refine r_call T Try.call66 rfl rfl (bloom_each_at82.ok _ _ z (gi [] x1 x16) (mx 1 (wr .i64 (Int.tdiv (wr .i64 (x5 * 69)) 100))) (wr .u64 (wr .i64 ((mx 1 (wr .i64 (Int.tdiv (wr .i64 ((wr .i64 ((x1.length : Int) * x5)) + 63)) 64))) * 64))) x13 (S.sel (p := [sl .ro ku8 A19 k20 (gi [] x1 x16), blk b11 [.slice A14 x13.length k15], sl .own ku8 A14 k15 x13]) (is := [0, 1, 1]) rfl) _ h21) ?_
      rintro _ _ ⟨A24, k25, rfl, S⟩
      refine ⟨_, rfl, fun _ T => ?_⟩
      replace S : SL ([sl .ro ku8 A19 k20 (gi [] x1 x16), blk b11 [.slice A24 x22.2.length k25], sl .own ku8 A24 k25 x22.2, sl m4 (kSl ku8) A2 k3 x1] ++ F) _ := S.join
      refine Gets.inBlock ?_
      refine rg ?_
      refine r_pv T rfl rfl fun _ T => ?_
      refine r_pv T rfl rfl fun _ T => ?_
      refine Gets.inLoop ?_
      exact ih (wr .i64 (x16 + 1)) A24 x22.2 k25 _ _ (T.sub ⟨rfl, rfl, rfl, rfl, rfl, rfl, trivial⟩) (S.only (p := [sl m4 (kSl ku8) A2 k3 x1, blk b11 [.slice A24 x22.2.length k25], sl .own ku8 A24 k25 x22.2]) [3, 1, 1] rfl) H
    · refine cdF T rfl h17 ?_
      refine Gets.exit rfl (Gets.seq ?_)
      refine rg ?_
      refine r_ldB (ix := 1) T S rfl Try.isAgg24 rfl rfl rfl fun _ T => ?_
      refine r_pv T rfl rfl fun _ T => ?_
      refine r_pv T rfl rfl fun _ T => ?_
      replace H := Option.some.inj H
      subst H
      exact rtn T Try.func57 rfl rfl ⟨A14, k15, rfl, (S.only (p := [sl .own ku8 A14 k15 x13, sl m4 (kSl ku8) A2 k3 x1]) [2, 0] rfl)⟩
theorem J0_ok (F : List Atom) (r : (List Int) × Int) (z : Nat) (x1 : List (List Int)) (A2 : Option Addr) (k3 : Nat) (m4 : Md) (x5 : Int) (a : Act) (w : World) (T : Tm 56 [] a) (S : SL ([sl m4 (kSl ku8) A2 k3 x1] ++ F) w) (H : J0 z = some r) : Gets Try.prog 57 ptJ0 a w (R F x1 A2 k3 m4 r) := by
  refine rg ?_
  refine r_pv T rfl rfl fun _ T => ?_
  refine r_pv T rfl rfl fun _ T => ?_
  replace S := S.nil ku8 .own
  replace H := Option.some.inj H
  subst H
  exact rtn T Try.func57 rfl rfl ⟨none, 0, rfl, (S.only (p := [sl .own ku8 none 0 ([] : List Int), sl m4 (kSl ku8) A2 k3 x1]) [0, 0] rfl)⟩
theorem ok (F : List Atom) (w : World) (z : Nat) (x1 : List (List Int)) (x5 : Int) {A2 : Option Addr} {k3 : Nat} {m4 : Md} (S : SL ([sl m4 (kSl ku8) A2 k3 x1] ++ F) w) (r : (List Int) × Int) (H : f z x1 x5 = some r) : Calls Try.prog 57 #[.slice A2 x1.length k3, .int .i64 x5] w (R F x1 A2 k3 m4 r) := by
  refine enter (vs := [.slice A2 x1.length k3, .int .i64 x5]) Try.func57 rfl Try.ntmps57 (Nat.le_of_ble_eq_true rfl) fun a T => ?_
  refine Gets.seq ?_
  refine rg ?_
  refine r_pv T rfl rfl fun _ T => ?_
  refine r_pv T rfl rfl fun _ T => ?_
  refine Gets.seq (Gets.seq ?_)
  refine rg ?_
  refine r_pv T rfl rfl fun _ T => ?_
  refine r_pv T rfl rfl fun _ T => ?_
  refine r_pv T rfl rfl fun _ T => ?_
  rcases ifE H with ⟨h6, H⟩ | ⟨h6, H⟩
  · refine g_no T rfl rfl h6 rfl fun _ T => ?_
    refine g_no T rfl rfl h6 rfl fun _ T => ?_
    refine r_pickT T rfl h6 rfl rfl fun _ T => ?_
    refine r_pv T rfl rfl fun _ T => ?_
    refine g_no T rfl rfl rfl rfl fun _ T => ?_
    refine g_no T rfl rfl rfl rfl fun _ T => ?_
    refine g_no T rfl rfl rfl rfl fun _ T => ?_
    refine r_pickT T rfl rfl rfl rfl fun _ T => ?_
    refine cdT T rfl rfl ?_
    refine Gets.seq ?_
    exact J0_ok F r z x1 A2 k3 m4 x5 _ _ (T.sub trivial) (S.only (p := [sl m4 (kSl ku8) A2 k3 x1]) [0] rfl) H
  · refine g_yes T rfl rfl h6 ?_
    refine r_pv T rfl rfl fun _ T => ?_
    refine g_yes T rfl rfl h6 ?_
    refine r_pv T rfl rfl fun _ T => ?_
    refine r_pickF T rfl h6 rfl rfl fun _ T => ?_
    refine r_pv T rfl rfl fun _ T => ?_
    rcases ifE H with ⟨h7, H⟩ | ⟨h7, H⟩
    · refine g_no T rfl rfl h7 rfl fun _ T => ?_
      refine g_no T rfl rfl h7 rfl fun _ T => ?_
      refine g_no T rfl rfl h7 rfl fun _ T => ?_
      refine r_pickT T rfl h7 rfl rfl fun _ T => ?_
      refine cdT T rfl rfl ?_
      refine Gets.seq ?_
      exact J0_ok F r z x1 A2 k3 m4 x5 _ _ (T.sub trivial) (S.only (p := [sl m4 (kSl ku8) A2 k3 x1]) [0] rfl) H
    · refine g_yes T rfl rfl h7 ?_
      refine r_pv T rfl rfl fun _ T => ?_
      refine g_yes T rfl rfl h7 ?_
      refine r_lenS T rfl Try.runUnderlying62 rfl fun _ T => ?_
      refine g_yes T rfl rfl h7 ?_
      refine r_pv T rfl rfl fun _ T => ?_
      refine r_pickF T rfl h7 rfl rfl fun _ T => ?_
      rcases ifE H with ⟨h8, H⟩ | ⟨h8, H⟩
      · refine cdT T rfl h8 ?_
        refine Gets.seq ?_
        exact J0_ok F r z x1 A2 k3 m4 x5 _ _ (T.sub trivial) (S.only (p := [sl m4 (kSl ku8) A2 k3 x1]) [0] rfl) H
      · refine cdF T rfl h8 ?_
        refine Gets.skip (Gets.seq ?_)
        refine rg ?_
        refine r_pv T rfl rfl fun _ T => ?_
        refine r_lenS T rfl Try.runUnderlying62 rfl fun _ T => ?_
        refine r_pv T rfl rfl fun _ T => ?_
        refine r_pv T rfl rfl fun _ T => ?_
        refine r_pv T rfl rfl fun _ T => ?_
        refine r_quo T rfl rfl (by decide) rfl fun _ T => ?_
        refine r_max T rfl rfl rfl fun _ T => ?_
        refine r_pv T rfl rfl fun _ T => ?_
        refine r_pv T rfl rfl fun _ T => ?_
        refine Gets.seq ?_
        refine rg ?_
        refine r_pv T rfl rfl fun _ T => ?_
        refine r_pv T rfl rfl fun _ T => ?_
        refine r_quo T rfl rfl (by decide) rfl fun _ T => ?_
        refine r_max T rfl rfl rfl fun _ T => ?_
        refine r_pv T rfl rfl fun _ T => ?_
        refine Gets.seq ?_
        refine rg ?_
        refine r_pv T rfl rfl fun _ T => ?_
        refine r_quo T rfl rfl (by decide) rfl fun _ T => ?_
        refine r_pv T rfl rfl fun _ T => ?_
        obtain ⟨h9, H⟩ := ck H
        refine r_make (κ := ku8) T S rfl rfl sty24 (0 : Int) (fun _ => rfl) h9.1 (Int.le_refl _) (by decide) (by have := h9.2.2; omega) rfl fun _ _ b10 S T => ?_
        replace T := T.re (s := 37) (v' := .slice (some ⟨b10, 0, none⟩) (List.replicate (Int.toNat (wr .i64 (1 + (wr .i64 (Int.tdiv (wr .i64 ((mx 1 (wr .i64 (Int.tdiv (wr .i64 ((wr .i64 ((x1.length : Int) * x5)) + 63)) 64))) * 64)) 8))))) (0 : Int)).length (Int.toNat (wr .i64 (1 + (wr .i64 (Int.tdiv (wr .i64 ((mx 1 (wr .i64 (Int.tdiv (wr .i64 ((wr .i64 ((x1.length : Int) * x5)) + 63)) 64))) * 64)) 8)))))) rfl (by simp)
        refine r_alloc T S zv24 (cs := [.slice none 0 0]) rfl rfl fun _ _ b11 S T => ?_
        refine r_stB (ix := 0) (l' := [blk b11 [.slice (some ⟨b10, 0, none⟩) ((List.replicate (Int.toNat (wr .i64 (1 + (wr .i64 (Int.tdiv (wr .i64 ((mx 1 (wr .i64 (Int.tdiv (wr .i64 ((wr .i64 ((x1.length : Int) * x5)) + 63)) 64))) * 64)) 8))))) (0 : Int)).length) (Int.toNat (wr .i64 (1 + (wr .i64 (Int.tdiv (wr .i64 ((mx 1 (wr .i64 (Int.tdiv (wr .i64 ((wr .i64 ((x1.length : Int) * x5)) + 63)) 64))) * 64)) 8)))))], sl .own ku8 (some ⟨b10, 0, none⟩) (Int.toNat (wr .i64 (1 + (wr .i64 (Int.tdiv (wr .i64 ((mx 1 (wr .i64 (Int.tdiv (wr .i64 ((wr .i64 ((x1.length : Int) * x5)) + 63)) 64))) * 64)) 8))))) (List.replicate (Int.toNat (wr .i64 (1 + (wr .i64 (Int.tdiv (wr .i64 ((mx 1 (wr .i64 (Int.tdiv (wr .i64 ((wr .i64 ((x1.length : Int) * x5)) + 63)) 64))) * 64)) 8))))) (0 : Int)), sl m4 (kSl ku8) A2 k3 x1]) T S rfl rfl rfl Try.sizeOf24 rfl (Nat.le_of_ble_eq_true rfl) rfl fun _ S => ?_
        refine Gets.seq ?_
        refine rg ?_
        refine r_ldB (ix := 0) T S rfl Try.isAgg24 rfl rfl rfl fun _ T => ?_
        refine r_pv T rfl rfl fun _ T => ?_
        refine r_conv T rfl Try.runUnderlying3 Try.runUnderlying5 rfl fun _ T => ?_
        obtain ⟨h12, H⟩ := ck H
        refine r_ia (ix := 1) T S rfl rfl rfl rfl Try.runUnderlying24 Try.sizeOf5 (by decide) h12 rfl fun _ T => ?_
        refine r_stE (ix := 1) (i := 0) (u := wr .u8 (mx 1 (wr .i64 (Int.tdiv (wr .i64 (x5 * 69)) 100)))) (l' := [blk b11 [.slice (some ⟨b10, 0, none⟩) ((List.replicate (Int.toNat (wr .i64 (1 + (wr .i64 (Int.tdiv (wr .i64 ((mx 1 (wr .i64 (Int.tdiv (wr .i64 ((wr .i64 ((x1.length : Int) * x5)) + 63)) 64))) * 64)) 8))))) (0 : Int)).length) (Int.toNat (wr .i64 (1 + (wr .i64 (Int.tdiv (wr .i64 ((mx 1 (wr .i64 (Int.tdiv (wr .i64 ((wr .i64 ((x1.length : Int) * x5)) + 63)) 64))) * 64)) 8)))))], sl .own ku8 (some ⟨b10, 0, none⟩) (Int.toNat (wr .i64 (1 + (wr .i64 (Int.tdiv (wr .i64 ((mx 1 (wr .i64 (Int.tdiv (wr .i64 ((wr .i64 ((x1.length : Int) * x5)) + 63)) 64))) * 64)) 8))))) ((List.replicate (Int.toNat (wr .i64 (1 + (wr .i64 (Int.tdiv (wr .i64 ((mx 1 (wr .i64 (Int.tdiv (wr .i64 ((wr .i64 ((x1.length : Int) * x5)) + 63)) 64))) * 64)) 8))))) (0 : Int)).set (Int.toNat 0) (wr .u8 (mx 1 (wr .i64 (Int.tdiv (wr .i64 (x5 * 69)) 100))))), sl m4 (kSl ku8) A2 k3 x1]) T S rfl rfl rfl rfl (fun _ => rfl) Try.sizeOf5 (by decide) h12 rfl fun _ S => ?_
        refine Gets.seq (Gets.seq ?_)
        refine rg ?_
        refine r_pv T rfl rfl fun _ T => ?_
        refine r_lenS T rfl Try.runUnderlying62 rfl fun _ T => ?_
        refine r_pv T rfl rfl fun _ T => ?_
        refine Gets.block ?_
        refine Gets.loop ?_
        replace S : SL ([blk b11 [.slice (some ⟨b10, 0, none⟩) (((List.replicate (Int.toNat (wr .i64 (1 + (wr .i64 (Int.tdiv (wr .i64 ((mx 1 (wr .i64 (Int.tdiv (wr .i64 ((wr .i64 ((x1.length : Int) * x5)) + 63)) 64))) * 64)) 8))))) (0 : Int)).set (Int.toNat 0) (wr .u8 (mx 1 (wr .i64 (Int.tdiv (wr .i64 (x5 * 69)) 100))))).length) (Int.toNat (wr .i64 (1 + (wr .i64 (Int.tdiv (wr .i64 ((mx 1 (wr .i64 (Int.tdiv (wr .i64 ((wr .i64 ((x1.length : Int) * x5)) + 63)) 64))) * 64)) 8)))))], sl .own ku8 (some ⟨b10, 0, none⟩) (Int.toNat (wr .i64 (1 + (wr .i64 (Int.tdiv (wr .i64 ((mx 1 (wr .i64 (Int.tdiv (wr .i64 ((wr .i64 ((x1.length : Int) * x5)) + 63)) 64))) * 64)) 8))))) ((List.replicate (Int.toNat (wr .i64 (1 + (wr .i64 (Int.tdiv (wr .i64 ((mx 1 (wr .i64 (Int.tdiv (wr .i64 ((wr .i64 ((x1.length : Int) * x5)) + 63)) 64))) * 64)) 8))))) (0 : Int)).set (Int.toNat 0) (wr .u8 (mx 1 (wr .i64 (Int.tdiv (wr .i64 (x5 * 69)) 100))))), sl m4 (kSl ku8) A2 k3 x1] ++ F) _ := S.reB (i := 0) rfl (by simp) rfl
        exact L1_ok F r z x1 A2 k3 m4 x5 b11 z 0 (some ⟨b10, 0, none⟩) ((List.replicate (Int.toNat (wr .i64 (1 + (wr .i64 (Int.tdiv (wr .i64 ((mx 1 (wr .i64 (Int.tdiv (wr .i64 ((wr .i64 ((x1.length : Int) * x5)) + 63)) 64))) * 64)) 8))))) (0 : Int)).set (Int.toNat 0) (wr .u8 (mx 1 (wr .i64 (Int.tdiv (wr .i64 (x5 * 69)) 100))))) (Int.toNat (wr .i64 (1 + (wr .i64 (Int.tdiv (wr .i64 ((mx 1 (wr .i64 (Int.tdiv (wr .i64 ((wr .i64 ((x1.length : Int) * x5)) + 63)) 64))) * 64)) 8))))) _ _ (T.sub ⟨rfl, rfl, rfl, rfl, rfl, rfl, trivial⟩) (S.only (p := [sl m4 (kSl ku8) A2 k3 x1, blk b11 [.slice (some ⟨b10, 0, none⟩) (((List.replicate (Int.toNat (wr .i64 (1 + (wr .i64 (Int.tdiv (wr .i64 ((mx 1 (wr .i64 (Int.tdiv (wr .i64 ((wr .i64 ((x1.length : Int) * x5)) + 63)) 64))) * 64)) 8))))) (0 : Int)).set (Int.toNat 0) (wr .u8 (mx 1 (wr .i64 (Int.tdiv (wr .i64 (x5 * 69)) 100))))).length) (Int.toNat (wr .i64 (1 + (wr .i64 (Int.tdiv (wr .i64 ((mx 1 (wr .i64 (Int.tdiv (wr .i64 ((wr .i64 ((x1.length : Int) * x5)) + 63)) 64))) * 64)) 8)))))], sl .own ku8 (some ⟨b10, 0, none⟩) (Int.toNat (wr .i64 (1 + (wr .i64 (Int.tdiv (wr .i64 ((mx 1 (wr .i64 (Int.tdiv (wr .i64 ((wr .i64 ((x1.length : Int) * x5)) + 63)) 64))) * 64)) 8))))) ((List.replicate (Int.toNat (wr .i64 (1 + (wr .i64 (Int.tdiv (wr .i64 ((mx 1 (wr .i64 (Int.tdiv (wr .i64 ((wr .i64 ((x1.length : Int) * x5)) + 63)) 64))) * 64)) 8))))) (0 : Int)).set (Int.toNat 0) (wr .u8 (mx 1 (wr .i64 (Int.tdiv (wr .i64 (x5 * 69)) 100)))))]) [2, 0, 0] rfl) H
end bloom_Make
end Go.Proofs.Ytghpokmkhlmgcaa

namespace Go.Proofs.Ytghpokmkhlmgcaa
open Go Go.Proofs.Ytghpokmkhlmgcaa.X
set_option linter.unusedVariables false
set_option linter.unusedSimpArgs false
set_option maxRecDepth 100000
set_option maxHeartbeats 4000000
/-! ### cormorant.sstable.high: function 59 -/
namespace sstable_high
noncomputable def c0 : Code := match Try.f59.body with | some c => c | none => .skip
def R (F : List Atom) (r : (List Int)) : Ending → World → Prop := fun e w' => ∃ (A12 : Option Addr), ∃ (k13 : Nat), e = .returned (.slice A12 r.length k13) ∧ SL ([sl .own ku8 A12 k13 r] ++ F) w'
def L0 (z : Nat) (x1 : Int) (x2 : Int) : Nat → (List Int) → Int → Option (List Int)
  | 0, _, _ => none
  | m + 1, x5, x8 => If (decide (x8 < ((List.replicate (Int.toNat x2) (0 : Int)).length : Int))) (Ck (0 ≤ wr .i64 (8 * (wr .i64 ((wr .i64 (x2 - 1)) - x8)))) (Ck (0 ≤ x8 ∧ x8 < (x5.length : Int)) (L0 z x1 x2 m (x5.set (Int.toNat x8) (wr .u8 (sShr .i64 x1 (wr .i64 (8 * (wr .i64 ((wr .i64 (x2 - 1)) - x8))))))) (wr .i64 (x8 + 1))))) (some x5)
def f (z : Nat) (x1 : Int) (x2 : Int) : Option (List Int) := Ck (0 ≤ x2 ∧ x2 ≤ x2 ∧ 1 * x2 ≤ 281474976710656) (L0 z x1 x2 z (List.replicate (Int.toNat x2) (0 : Int)) 0)
noncomputable def ptL0 : List Item := [.code (cB (cB (cR (cL (cR (cR c0)))))), .inLoop (cB (cB (cR (cL (cR (cR c0)))))), .inBlock 0, .code (cR (cR (cR c0)))]
theorem L0_ok (F : List Atom) (r : (List Int)) (z : Nat) (x1 : Int) (x2 : Int) (m : Nat) : ∀ (A6 : Option Addr) (x5 : List Int) (k7 : Nat) (x8 : Int) (a : Act) (w : World), Tm 27 [(0, .int .i64 x1), (1, .int .i64 x2), (5, .slice A6 x5.length k7), (10, .int .i64 ((List.replicate (Int.toNat x2) (0 : Int)).length : Int)), (11, .int .i64 x8)] a → SL ([sl .own ku8 A6 k7 x5] ++ F) w → L0 z x1 x2 m x5 x8 = some r → Gets Try.prog 59 ptL0 a w (R F r) := by
  induction m with
  | zero => intro _ _ _ _ _ _ _ _ H; cases H
  | succ m ih =>
    intro A6 x5 k7 x8 a w T S H
    refine Gets.seq ?_
    refine rg ?_
    refine r_pv T rfl rfl fun _ T => ?_
    refine Gets.seq ?_
    rcases ifE H with ⟨h9, H⟩ | ⟨h9, H⟩
    · refine cdT T rfl h9 ?_
      refine Gets.skip (Gets.seq (Gets.block (Gets.seq ?_)))
      refine rg ?_
      refine r_pv T rfl rfl fun _ T => ?_
      refine r_pv T rfl rfl fun _ T => ?_
      refine rg ?_
      refine r_pv T rfl rfl fun _ T => ?_
      refine r_pv T rfl rfl fun _ T => ?_
      refine r_pv T rfl rfl fun _ T => ?_
      refine r_pv T rfl rfl fun _ T => ?_
      refine r_pv T rfl rfl fun _ T => ?_
      refine r_pv T rfl rfl fun _ T => ?_
      refine r_pv T rfl rfl fun _ T => ?_
      refine r_pv T rfl rfl fun _ T => ?_
      obtain ⟨h10, H⟩ := ck H
      refine r_shr T rfl rfl h10 rfl fun _ T => ?_
      refine r_conv T rfl Try.runUnderlying3 Try.runUnderlying5 rfl fun _ T => ?_
      obtain ⟨h11, H⟩ := ck H
      refine r_ia (ix := 0) T S rfl rfl rfl rfl Try.runUnderlying24 Try.sizeOf5 h11.1 h11.2 rfl fun _ T => ?_
      refine r_stE (ix := 0) (i := x8) (u := wr .u8 (sShr .i64 x1 (wr .i64 (8 * (wr .i64 ((wr .i64 (x2 - 1)) - x8)))))) (l' := [sl .own ku8 A6 k7 (x5.set (Int.toNat x8) (wr .u8 (sShr .i64 x1 (wr .i64 (8 * (wr .i64 ((wr .i64 (x2 - 1)) - x8)))))))]) T S rfl rfl rfl rfl (fun _ => rfl) Try.sizeOf5 h11.1 h11.2 rfl fun _ S => ?_
      refine Gets.inBlock ?_
      refine rg ?_
      refine r_pv T rfl rfl fun _ T => ?_
      refine r_pv T rfl rfl fun _ T => ?_
      refine Gets.inLoop ?_
      have T := T.re (s := 5) (v' := .slice A6 (x5.set (Int.toNat x8) (wr .u8 (sShr .i64 x1 (wr .i64 (8 * (wr .i64 ((wr .i64 (x2 - 1)) - x8))))))).length k7) rfl (by simp)
      exact ih A6 (x5.set (Int.toNat x8) (wr .u8 (sShr .i64 x1 (wr .i64 (8 * (wr .i64 ((wr .i64 (x2 - 1)) - x8))))))) k7 (wr .i64 (x8 + 1)) _ _ (T.sub ⟨rfl, rfl, rfl, rfl, rfl, trivial⟩) (S.only (p := [sl .own ku8 A6 k7 (x5.set (Int.toNat x8) (wr .u8 (sShr .i64 x1 (wr .i64 (8 * (wr .i64 ((wr .i64 (x2 - 1)) - x8)))))))]) [0] rfl) H
    · refine cdF T rfl h9 ?_
      refine Gets.exit rfl (Gets.seq ?_)
      refine rg ?_
      refine r_pv T rfl rfl fun _ T => ?_
      refine r_pv T rfl rfl fun _ T => ?_
      replace H := Option.some.inj H
      subst H
      exact rtn T Try.func59 rfl rfl ⟨A6, k7, rfl, (S.only (p := [sl .own ku8 A6 k7 x5]) [0] rfl)⟩
theorem ok (F : List Atom) (w : World) (z : Nat) (x1 : Int) (x2 : Int) (S : SL ([] ++ F) w) (r : (List Int)) (H : f z x1 x2 = some r) : Calls Try.prog 59 #[.int .i64 x1, .int .i64 x2] w (R F r) := by
  refine enter (vs := [.int .i64 x1, .int .i64 x2]) Try.func59 rfl Try.ntmps59 (Nat.le_of_ble_eq_true rfl) fun a T => ?_
  refine Gets.seq ?_
  refine rg ?_
  refine r_pv T rfl rfl fun _ T => ?_
  refine Gets.seq ?_
  refine rg ?_
  refine r_pv T rfl rfl fun _ T => ?_
  obtain ⟨h3, H⟩ := ck H
  refine r_make (κ := ku8) T S rfl rfl sty24 (0 : Int) (fun _ => rfl) h3.1 (Int.le_refl _) (by decide) (by have := h3.2.2; omega) rfl fun _ _ b4 S T => ?_
  replace T := T.re (s := 8) (v' := .slice (some ⟨b4, 0, none⟩) (List.replicate (Int.toNat x2) (0 : Int)).length (Int.toNat x2)) rfl (by simp)
  refine r_pv T rfl rfl fun _ T => ?_
  refine Gets.seq (Gets.seq ?_)
  refine rg ?_
  refine r_pv T rfl rfl fun _ T => ?_
  refine r_lenS T rfl Try.runUnderlying24 rfl fun _ T => ?_
  refine r_pv T rfl rfl fun _ T => ?_
  refine Gets.block ?_
  refine Gets.loop ?_
  exact L0_ok F r z x1 x2 z (some ⟨b4, 0, none⟩) (List.replicate (Int.toNat x2) (0 : Int)) (Int.toNat x2) 0 _ _ (T.sub ⟨rfl, rfl, rfl, rfl, rfl, trivial⟩) (S.only (p := [sl .own ku8 (some ⟨b4, 0, none⟩) (Int.toNat x2) (List.replicate (Int.toNat x2) (0 : Int))]) [0] rfl) H
end sstable_high
end Go.Proofs.Ytghpokmkhlmgcaa

namespace Go.Proofs.Ytghpokmkhlmgcaa
open Go Go.Proofs.Ytghpokmkhlmgcaa.X
set_option linter.unusedVariables false
set_option linter.unusedSimpArgs false
set_option maxRecDepth 100000
set_option maxHeartbeats 4000000
/-! ### cormorant.codec.Sum: function 60 -/
namespace codec_Sum
noncomputable def c0 : Code := match Try.f60.body with | some c => c | none => .skip
def R (F : List Atom) (x1 : List Int) (A2 : Option Addr) (k3 : Nat) (m4 : Md) (r : Int) : Ending → World → Prop := fun e w' => e = .returned (.int .u32 r) ∧ SL ([sl m4 ku8 A2 k3 x1] ++ F) w'
def f (z : Nat) (x1 : List Int) : Option Int := Bd (codec_register.f z 4294967295 x1) fun x6 => some (bNot .u32 x6)
theorem ok (F : List Atom) (w : World) (z : Nat) (x1 : List Int) {A2 : Option Addr} {k3 : Nat} {m4 : Md} (S : SL ([sl m4 ku8 A2 k3 x1] ++ F) w) (r : Int) (H : f z x1 = some r) : Calls Try.prog 60 #[.slice A2 x1.length k3] w (R F x1 A2 k3 m4 r) := by
  refine enter (vs := [.slice A2 x1.length k3]) Try.func60 rfl Try.ntmps60 (Nat.le_of_ble_eq_true rfl) fun a T => ?_
  refine Gets.seq ?_
  refine rg ?_
  refine r_pv T rfl rfl fun _ T => ?_
  refine Gets.seq ?_
  refine rg ?_
  refine r_pv T rfl rfl fun _ T => ?_
  obtain ⟨x6, h5, H⟩ := bd H
  refine r_call T Try.call84 rfl rfl (codec_register.ok _ _ z 4294967295 x1 (S.sel (p := [sl m4 ku8 A2 k3 x1]) (is := [0]) rfl) _ h5) ?_
  rintro _ _ ⟨rfl, S⟩
  refine ⟨_, rfl, fun _ T => ?_⟩
  replace S : SL ([sl m4 ku8 A2 k3 x1] ++ F) _ := S.join
  refine r_pv T rfl rfl fun _ T => ?_
  refine r_pv T rfl rfl fun _ T => ?_
  replace H := Option.some.inj H
  subst H
  exact rtn T Try.func60 rfl rfl ⟨rfl, (S.only (p := [sl m4 ku8 A2 k3 x1]) [0] rfl)⟩
end codec_Sum
end Go.Proofs.Ytghpokmkhlmgcaa
