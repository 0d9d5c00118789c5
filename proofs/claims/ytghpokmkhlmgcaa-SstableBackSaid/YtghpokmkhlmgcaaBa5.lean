/- A Go function: the Lean function that it comes to, and the proof. -/
import Derived.Test.YtghpokmkhlmgcaaBa1
import Derived.Test.YtghpokmkhlmgcaaBa3
import Derived.Test.YtghpokmkhlmgcaaBa4
import Derived.Test.YtghpokmkhlmgcaaBa2
namespace Go.Proofs.Ytghpokmkhlmgcaa
open Go Go.Proofs.Ytghpokmkhlmgcaa.X
set_option linter.unusedVariables false
set_option linter.unusedSimpArgs false
set_option maxRecDepth 100000
set_option maxHeartbeats 4000000
/-! ### cormorant.sstable.Build: function 7 -/
namespace sstable_Build
noncomputable def c0 : Code := match Try.f7.body with | some c => c | none => .skip
def R (F : List Atom) (x1 : List api_Entry) (A2 : Option Addr) (k3 : Nat) (r : (List Int) × Int) : Ending → World → Prop := fun e w' => ∃ (A99 : Option Addr), ∃ (k100 : Nat), e = .returned (.tuple #[.slice A99 r.1.length k100, .int .i64 r.2]) ∧ SL ([sl .own ku8 A99 k100 r.1, sl .ro kapi_Entry A2 k3 x1] ++ F) w'
def J5 (z : Nat) (q3 : (List (List Int)) → Int → (List Int) → (List Int) → (List Int) → Int → Int → (List Int) → Option ((List Int) × Int)) (x1 : List api_Entry) (x4 : Int) (x5 : Int) (x32 : Int) (x57 : sstable_builder) (x78 : List (List Int)) : Option ((List Int) × Int) := q3 x78 (wr .i64 (x32 + 1)) x57.out x57.body x57.index x57.many x57.blocks x57.last
def J4 (z : Nat) (q3 : (List (List Int)) → Int → (List Int) → (List Int) → (List Int) → Int → Int → (List Int) → Option ((List Int) × Int)) (x1 : List api_Entry) (x4 : Int) (x5 : Int) (x29 : List (List Int)) (x32 : Int) (x57 : sstable_builder) : Option ((List Int) × Int) := Ck ((x29.length + [(gi dapi_Entry x1 x32).Key].length) * 24 ≤ 140737488355328) (J5 z q3 x1 x4 x5 x32 x57 (x29 ++ [(gi dapi_Entry x1 x32).Key]))
def L3 (z : Nat) (x1 : List api_Entry) (x4 : Int) (x5 : Int) : Nat → (List (List Int)) → Int → (List Int) → (List Int) → (List Int) → Int → Int → (List Int) → Option ((List Int) × Int)
  | 0, _, _, _, _, _, _, _, _ => none
  | m + 1, x29, x32, x15, x18, x21, x24, x25, x26 => If (decide (x32 < (x1.length : Int))) (Ck (0 ≤ x32 ∧ x32 < (x1.length : Int)) (If (decide ((x15.length : Int) > 4194304)) (some (([] : List Int), 43)) (Bd (sstable_builder_add.f z (sstable_builder.mk x15 x18 x21 x24 x25 x26) (gi dapi_Entry x1 x32) x4) fun x57 => If ((x29.length : Int) == 0) (J4 z (L3 z x1 x4 x5 m) x1 x4 x5 x29 x32 x57) (Ck (0 ≤ wr .i64 ((x29.length : Int) - 1) ∧ wr .i64 ((x29.length : Int) - 1) < (x29.length : Int)) (Bd (bytes_Equal.f (gi [] x29 (wr .i64 ((x29.length : Int) - 1))) ((gi dapi_Entry x1 x32).Key)) fun x72 => If (!x72) (J4 z (L3 z x1 x4 x5 m) x1 x4 x5 x29 x32 x57) (J5 z (L3 z x1 x4 x5 m) x1 x4 x5 x32 x57 x29)))))) (Bd (sstable_builder_close.f z (sstable_builder.mk x15 x18 x21 x24 x25 x26)) fun x35 => Bd (sstable_builder_end.f z x35 (x1.length : Int) x29 x4 x5) fun x46 => some (x46.1, x46.2))
def J6 (z : Nat) (q2 : Int → Option ((List Int) × Int)) (x1 : List api_Entry) (x4 : Int) (x5 : Int) (x12 : Int) : Option ((List Int) × Int) := q2 (wr .i64 (x12 + 1))
def L2 (z : Nat) (x1 : List api_Entry) (x4 : Int) (x5 : Int) : Nat → Int → Option ((List Int) × Int)
  | 0, _ => none
  | m + 1, x12 => If (decide (x12 < (x1.length : Int))) (Ck (0 ≤ x12 ∧ x12 < (x1.length : Int)) (Bd (sstable_fits.f (gi dapi_Entry x1 x12)) fun x88 => If (!x88) (some (([] : List Int), 41)) (If (decide (x12 > 0)) (Ck (0 ≤ wr .i64 (x12 - 1) ∧ wr .i64 (x12 - 1) < (x1.length : Int)) (Bd (sstable_order.f (gi dapi_Entry x1 (wr .i64 (x12 - 1))) (gi dapi_Entry x1 x12)) fun x97 => If (decide (x97 ≥ 0)) (some (([] : List Int), 42)) (J6 z (L2 z x1 x4 x5 m) x1 x4 x5 x12))) (J6 z (L2 z x1 x4 x5 m) x1 x4 x5 x12)))) (L3 z x1 x4 x5 z [] 0 [] [] [] 0 0 [])
def J1 (z : Nat) : Option ((List Int) × Int) := some (([] : List Int), 40)
def J0 (z : Nat) : Option ((List Int) × Int) := some (([] : List Int), 1)
def f (z : Nat) (x1 : List api_Entry) (x4 : Int) (x5 : Int) : Option ((List Int) × Int) := If (decide (x4 < 64)) (J0 z) (If (decide (x4 > 65536)) (J0 z) (If (decide (x5 < 1)) (J0 z) (If (decide (x5 > 30)) (J0 z) (If ((x1.length : Int) == 0) (J1 z) (If (decide ((x1.length : Int) > 65536)) (J1 z) (L2 z x1 x4 x5 z 0))))))
noncomputable def ptJ5 : List Item := [.code (cR (cR (cR (cB (cB (cR (cL (cR (cR (cR (cR (cR (cR c0))))))))))))), .inLoop (cB (cB (cR (cL (cR (cR (cR (cR (cR (cR c0)))))))))), .inBlock 3, .code (cR (cR (cR (cR (cR (cR (cR c0)))))))]
noncomputable def ptJ4 : List Item := [.code (cT (cR (cR (cR (cR (cR (cB (cL (cR (cR (cB (cB (cR (cL (cR (cR (cR (cR (cR (cR c0)))))))))))))))))))), .inBlock 4, .code (cR (cR (cR (cB (cB (cR (cL (cR (cR (cR (cR (cR (cR c0))))))))))))), .inLoop (cB (cB (cR (cL (cR (cR (cR (cR (cR (cR c0)))))))))), .inBlock 3, .code (cR (cR (cR (cR (cR (cR (cR c0)))))))]
noncomputable def ptL3 : List Item := [.code (cB (cB (cR (cL (cR (cR (cR (cR (cR (cR c0)))))))))), .inLoop (cB (cB (cR (cL (cR (cR (cR (cR (cR (cR c0)))))))))), .inBlock 3, .code (cR (cR (cR (cR (cR (cR (cR c0)))))))]
noncomputable def ptJ6 : List Item := [.code (cR (cR (cR (cB (cB (cR (cL (cR (cR (cR c0)))))))))), .inLoop (cB (cB (cR (cL (cR (cR (cR c0))))))), .inBlock 0, .code (cR (cR (cR (cR c0))))]
noncomputable def ptL2 : List Item := [.code (cB (cB (cR (cL (cR (cR (cR c0))))))), .inLoop (cB (cB (cR (cL (cR (cR (cR c0))))))), .inBlock 0, .code (cR (cR (cR (cR c0))))]
noncomputable def ptJ1 : List Item := [.code (cL (cT (cR (cL (cR (cR c0)))))), .code (cR (cT (cR (cL (cR (cR c0)))))), .code (cR (cR (cR c0)))]
noncomputable def ptJ0 : List Item := [.code (cL (cT (cR (cL (cR c0))))), .code (cR (cT (cR (cL (cR c0))))), .code (cR (cR c0))]
theorem J5_ok (F : List Atom) (r : (List Int) × Int) (z : Nat) (x1 : List api_Entry) (A2 : Option Addr) (k3 : Nat) (x4 : Int) (x5 : Int) (b14 : Nat) (x32 : Int) (A59 : Option Addr) (x57 : sstable_builder) (k60 : Nat) (A61 : Option Addr) (k62 : Nat) (A63 : Option Addr) (k64 : Nat) (A65 : Option Addr) (k66 : Nat) (q3 : (List (List Int)) → Int → (List Int) → (List Int) → (List Int) → Int → Int → (List Int) → Option ((List Int) × Int)) (hq3 : ∀ (A30 : Option Addr) (x29 : List (List Int)) (k31 : Nat) (x32 : Int) (A16 : Option Addr) (x15 : List Int) (k17 : Nat) (A19 : Option Addr) (x18 : List Int) (k20 : Nat) (A22 : Option Addr) (x21 : List Int) (k23 : Nat) (x24 : Int) (x25 : Int) (A27 : Option Addr) (x26 : List Int) (k28 : Nat) (a : Act) (w : World), Tm 112 [(0, .slice A2 x1.length k3), (1, .int .i64 x4), (2, .int .i64 x5), (10, .pointer (some ⟨b14, 0, none⟩)), (11, .slice A30 x29.length k31), (64, .slice A2 x1.length k3), (65, .int .i64 (x1.length : Int)), (66, .int .i64 x32)] a → SL ([sl .ro kapi_Entry A2 k3 x1, blk b14 [.slice A16 x15.length k17, .slice A19 x18.length k20, .slice A22 x21.length k23, .int .i64 x24, .int .i64 x25, .slice A27 x26.length k28], sl .own ku8 A16 k17 x15, sl .ro ku8 A19 k20 x18, sl .own ku8 A22 k23 x21, sl .ro ku8 A27 k28 x26, sl .own (kSl ku8) A30 k31 x29] ++ F) w → q3 x29 x32 x15 x18 x21 x24 x25 x26 = some r → Gets Try.prog 7 ptL3 a w (R F x1 A2 k3 r)) (A79 : Option Addr) (x78 : List (List Int)) (k80 : Nat) (a : Act) (w : World) (T : Tm 112 [(0, .slice A2 x1.length k3), (1, .int .i64 x4), (2, .int .i64 x5), (10, .pointer (some ⟨b14, 0, none⟩)), (11, .slice A79 x78.length k80), (64, .slice A2 x1.length k3), (65, .int .i64 (x1.length : Int)), (66, .int .i64 x32)] a) (S : SL ([sl .ro kapi_Entry A2 k3 x1, blk b14 [.slice A59 x57.out.length k60, .slice A61 x57.body.length k62, .slice A63 x57.index.length k64, .int .i64 x57.many, .int .i64 x57.blocks, .slice A65 x57.last.length k66], sl .own ku8 A59 k60 x57.out, sl .ro ku8 A61 k62 x57.body, sl .own ku8 A63 k64 x57.index, sl .ro ku8 A65 k66 x57.last, sl .own (kSl ku8) A79 k80 x78] ++ F) w) (H : J5 z q3 x1 x4 x5 x32 x57 x78 = some r) : Gets Try.prog 7 ptJ5 a w (R F x1 A2 k3 r) := by
  refine rg ?_
  refine r_pv T rfl rfl fun _ T => ?_
  refine r_pv T rfl rfl fun _ T => ?_
  refine Gets.inLoop ?_
  exact hq3 A79 x78 k80 (wr .i64 (x32 + 1)) A59 x57.out k60 A61 x57.body k62 A63 x57.index k64 x57.many x57.blocks A65 x57.last k66 _ _ (T.sub ⟨rfl, rfl, rfl, rfl, rfl, rfl, rfl, rfl, trivial⟩) (S.only (p := [sl .ro kapi_Entry A2 k3 x1, blk b14 [.slice A59 x57.out.length k60, .slice A61 x57.body.length k62, .slice A63 x57.index.length k64, .int .i64 x57.many, .int .i64 x57.blocks, .slice A65 x57.last.length k66], sl .own ku8 A59 k60 x57.out, sl .ro ku8 A61 k62 x57.body, sl .own ku8 A63 k64 x57.index, sl .ro ku8 A65 k66 x57.last, sl .own (kSl ku8) A79 k80 x78]) [0, 0, 0, 0, 0, 0, 0] rfl) H
theorem J4_ok (F : List Atom) (r : (List Int) × Int) (z : Nat) (x1 : List api_Entry) (A2 : Option Addr) (k3 : Nat) (x4 : Int) (x5 : Int) (b14 : Nat) (A30 : Option Addr) (x29 : List (List Int)) (k31 : Nat) (b54 : Nat) (x32 : Int) (A59 : Option Addr) (x57 : sstable_builder) (k60 : Nat) (A61 : Option Addr) (k62 : Nat) (A63 : Option Addr) (k64 : Nat) (A65 : Option Addr) (k66 : Nat) (A50 : Option Addr) (k51 : Nat) (A52 : Option Addr) (k53 : Nat) (q3 : (List (List Int)) → Int → (List Int) → (List Int) → (List Int) → Int → Int → (List Int) → Option ((List Int) × Int)) (hq3 : ∀ (A30 : Option Addr) (x29 : List (List Int)) (k31 : Nat) (x32 : Int) (A16 : Option Addr) (x15 : List Int) (k17 : Nat) (A19 : Option Addr) (x18 : List Int) (k20 : Nat) (A22 : Option Addr) (x21 : List Int) (k23 : Nat) (x24 : Int) (x25 : Int) (A27 : Option Addr) (x26 : List Int) (k28 : Nat) (a : Act) (w : World), Tm 112 [(0, .slice A2 x1.length k3), (1, .int .i64 x4), (2, .int .i64 x5), (10, .pointer (some ⟨b14, 0, none⟩)), (11, .slice A30 x29.length k31), (64, .slice A2 x1.length k3), (65, .int .i64 (x1.length : Int)), (66, .int .i64 x32)] a → SL ([sl .ro kapi_Entry A2 k3 x1, blk b14 [.slice A16 x15.length k17, .slice A19 x18.length k20, .slice A22 x21.length k23, .int .i64 x24, .int .i64 x25, .slice A27 x26.length k28], sl .own ku8 A16 k17 x15, sl .ro ku8 A19 k20 x18, sl .own ku8 A22 k23 x21, sl .ro ku8 A27 k28 x26, sl .own (kSl ku8) A30 k31 x29] ++ F) w → q3 x29 x32 x15 x18 x21 x24 x25 x26 = some r → Gets Try.prog 7 ptL3 a w (R F x1 A2 k3 r)) (a : Act) (w : World) (T : Tm 112 [(0, .slice A2 x1.length k3), (1, .int .i64 x4), (2, .int .i64 x5), (10, .pointer (some ⟨b14, 0, none⟩)), (11, .slice A30 x29.length k31), (13, .pointer (some ⟨b54, 0, none⟩)), (64, .slice A2 x1.length k3), (65, .int .i64 (x1.length : Int)), (66, .int .i64 x32)] a) (S : SL ([sl .ro kapi_Entry A2 k3 x1, blk b14 [.slice A59 x57.out.length k60, .slice A61 x57.body.length k62, .slice A63 x57.index.length k64, .int .i64 x57.many, .int .i64 x57.blocks, .slice A65 x57.last.length k66], sl .own ku8 A59 k60 x57.out, sl .ro ku8 A61 k62 x57.body, sl .own ku8 A63 k64 x57.index, sl .ro ku8 A65 k66 x57.last, sl .own (kSl ku8) A30 k31 x29, blk b54 [.slice A50 (((gi dapi_Entry x1 x32).Key).length) k51, .int .u64 ((gi dapi_Entry x1 x32).Seq), .bool ((gi dapi_Entry x1 x32).Del), .slice A52 (((gi dapi_Entry x1 x32).Value).length) k53], sl .ro ku8 A50 k51 ((gi dapi_Entry x1 x32).Key), sl .ro ku8 A52 k53 ((gi dapi_Entry x1 x32).Value)] ++ F) w) (H : J4 z q3 x1 x4 x5 x29 x32 x57 = some r) : Gets Try.prog 7 ptJ4 a w (R F x1 A2 k3 r) := by
  refine rg ?_
  refine r_pv T rfl rfl fun _ T => ?_
  refine r_fa (o' := 0) T rfl Try.runUnderlying36 rfl Try.sizeOf24 rfl rfl fun _ T => ?_
  refine r_ldB (ix := 7) T S rfl Try.isAgg24 rfl rfl rfl fun _ T => ?_
  replace S := S.asVal (i := 8) (xs := (gi dapi_Entry x1 x32).Key) rfl
  refine r_bsl (κ := (kSl ku8)) (xs := [(gi dapi_Entry x1 x32).Key]) (vs := [.slice A50 (((gi dapi_Entry x1 x32).Key).length) k51]) T S sty62 rfl ⟨_, _, rfl, ⟨0, rfl⟩, rfl⟩ rfl (by decide) rfl fun _ _ b74 S T => ?_
  replace S : SL ([sl .own (kSl ku8) (some ⟨b74, 0, none⟩) 1 [(gi dapi_Entry x1 x32).Key], sl .ro kapi_Entry A2 k3 x1, blk b14 [.slice A59 x57.out.length k60, .slice A61 x57.body.length k62, .slice A63 x57.index.length k64, .int .i64 x57.many, .int .i64 x57.blocks, .slice A65 x57.last.length k66], sl .own ku8 A59 k60 x57.out, sl .ro ku8 A61 k62 x57.body, sl .own ku8 A63 k64 x57.index, sl .ro ku8 A65 k66 x57.last, sl .own (kSl ku8) A30 k31 x29, blk b54 [.slice A50 (((gi dapi_Entry x1 x32).Key).length) k51, .int .u64 ((gi dapi_Entry x1 x32).Seq), .bool ((gi dapi_Entry x1 x32).Del), .slice A52 (((gi dapi_Entry x1 x32).Value).length) k53], sl .ro ku8 A50 k51 ((gi dapi_Entry x1 x32).Key), sl .ro ku8 A52 k53 ((gi dapi_Entry x1 x32).Value)] ++ F) _ := S.only [0, 1, 1, 1, 1, 1, 1, 1, 1, 1, 1] rfl
  obtain ⟨h77, H⟩ := ck H
  refine r_app (ix := 7) (iy := 0) (xs := x29) (ys := [(gi dapi_Entry x1 x32).Key]) T S rfl rfl rfl rfl (by decide) sty62 Try.runUnderlying62 (by decide) h77 rfl fun _ _ A75 k76 S T => ?_
  replace S : SL ([sl .own (kSl ku8) (some ⟨b74, 0, none⟩) 1 [(gi dapi_Entry x1 x32).Key], sl .ro kapi_Entry A2 k3 x1, blk b14 [.slice A59 x57.out.length k60, .slice A61 x57.body.length k62, .slice A63 x57.index.length k64, .int .i64 x57.many, .int .i64 x57.blocks, .slice A65 x57.last.length k66], sl .own ku8 A59 k60 x57.out, sl .ro ku8 A61 k62 x57.body, sl .own ku8 A63 k64 x57.index, sl .ro ku8 A65 k66 x57.last, sl .own (kSl ku8) A75 k76 (x29 ++ [(gi dapi_Entry x1 x32).Key]), blk b54 [.slice A50 (((gi dapi_Entry x1 x32).Key).length) k51, .int .u64 ((gi dapi_Entry x1 x32).Seq), .bool ((gi dapi_Entry x1 x32).Del), .slice A52 (((gi dapi_Entry x1 x32).Value).length) k53], sl .ro ku8 A50 k51 ((gi dapi_Entry x1 x32).Key), sl .ro ku8 A52 k53 ((gi dapi_Entry x1 x32).Value)] ++ F) _ := S
  refine r_pv T rfl rfl fun _ T => ?_
  refine Gets.inBlock ?_
  exact J5_ok F r z x1 A2 k3 x4 x5 b14 x32 A59 x57 k60 A61 k62 A63 k64 A65 k66 q3 hq3 A75 (x29 ++ [(gi dapi_Entry x1 x32).Key]) k76 _ _ (T.sub ⟨rfl, rfl, rfl, rfl, rfl, rfl, rfl, rfl, trivial⟩) (S.only (p := [sl .ro kapi_Entry A2 k3 x1, blk b14 [.slice A59 x57.out.length k60, .slice A61 x57.body.length k62, .slice A63 x57.index.length k64, .int .i64 x57.many, .int .i64 x57.blocks, .slice A65 x57.last.length k66], sl .own ku8 A59 k60 x57.out, sl .ro ku8 A61 k62 x57.body, sl .own ku8 A63 k64 x57.index, sl .ro ku8 A65 k66 x57.last, sl .own (kSl ku8) A75 k76 (x29 ++ [(gi dapi_Entry x1 x32).Key])]) [1, 1, 1, 1, 1, 1, 1] rfl) H
theorem L3_ok (F : List Atom) (r : (List Int) × Int) (z : Nat) (x1 : List api_Entry) (A2 : Option Addr) (k3 : Nat) (x4 : Int) (x5 : Int) (b14 : Nat) (m : Nat) : ∀ (A30 : Option Addr) (x29 : List (List Int)) (k31 : Nat) (x32 : Int) (A16 : Option Addr) (x15 : List Int) (k17 : Nat) (A19 : Option Addr) (x18 : List Int) (k20 : Nat) (A22 : Option Addr) (x21 : List Int) (k23 : Nat) (x24 : Int) (x25 : Int) (A27 : Option Addr) (x26 : List Int) (k28 : Nat) (a : Act) (w : World), Tm 112 [(0, .slice A2 x1.length k3), (1, .int .i64 x4), (2, .int .i64 x5), (10, .pointer (some ⟨b14, 0, none⟩)), (11, .slice A30 x29.length k31), (64, .slice A2 x1.length k3), (65, .int .i64 (x1.length : Int)), (66, .int .i64 x32)] a → SL ([sl .ro kapi_Entry A2 k3 x1, blk b14 [.slice A16 x15.length k17, .slice A19 x18.length k20, .slice A22 x21.length k23, .int .i64 x24, .int .i64 x25, .slice A27 x26.length k28], sl .own ku8 A16 k17 x15, sl .ro ku8 A19 k20 x18, sl .own ku8 A22 k23 x21, sl .ro ku8 A27 k28 x26, sl .own (kSl ku8) A30 k31 x29] ++ F) w → L3 z x1 x4 x5 m x29 x32 x15 x18 x21 x24 x25 x26 = some r → Gets Try.prog 7 ptL3 a w (R F x1 A2 k3 r) := by
  induction m with
  | zero => intro _ _ _ _ _ _ _ _ _ _ _ _ _ _ _ _ _ _ _ _ _ _ H; cases H
  | succ m ih =>
    intro A30 x29 k31 x32 A16 x15 k17 A19 x18 k20 A22 x21 k23 x24 x25 A27 x26 k28 a w T S H
    refine Gets.seq ?_
    refine rg ?_
    refine r_pv T rfl rfl fun _ T => ?_
    refine Gets.seq ?_
    rcases ifE H with ⟨h33, H⟩ | ⟨h33, H⟩
    · refine cdT T rfl h33 ?_
      refine Gets.skip (Gets.seq (Gets.block (Gets.seq ?_)))
      refine rg ?_
      obtain ⟨h49, H⟩ := ck H
      refine r_ia (ix := 0) T S rfl rfl rfl rfl Try.runUnderlying22 Try.sizeOf36 h49.1 h49.2 rfl fun _ T => ?_
      refine r_ldEA (ix := 0) (i := x32) (off := 0) T S rfl rfl Try.isAgg36 Try.sizeOf36 dapi_Entry rfl (Fld.all _) h49.1 h49.2 rfl fun _ _ S T => ?_
      obtain ⟨A50, k51, A52, k53, hv_, S_⟩ := op_api_Entry S
      subst hv_
      replace S := S_
      refine r_alloc T S zv36 (cs := [.slice none 0 0, .int .u64 0, .bool false, .slice none 0 0]) rfl rfl fun _ _ b54 S T => ?_
      refine r_stBA (ix := 0) (vs := [.slice A50 (((gi dapi_Entry x1 x32).Key).length) k51, .int .u64 ((gi dapi_Entry x1 x32).Seq), .bool ((gi dapi_Entry x1 x32).Del), .slice A52 (((gi dapi_Entry x1 x32).Value).length) k53]) (l' := [blk b54 [.slice A50 (((gi dapi_Entry x1 x32).Key).length) k51, .int .u64 ((gi dapi_Entry x1 x32).Seq), .bool ((gi dapi_Entry x1 x32).Del), .slice A52 (((gi dapi_Entry x1 x32).Value).length) k53], sl .ro ku8 A50 k51 ((gi dapi_Entry x1 x32).Key), sl .ro ku8 A52 k53 ((gi dapi_Entry x1 x32).Value), sl .ro kapi_Entry A2 k3 x1, blk b14 [.slice A16 x15.length k17, .slice A19 x18.length k20, .slice A22 x21.length k23, .int .i64 x24, .int .i64 x25, .slice A27 x26.length k28], sl .own ku8 A16 k17 x15, sl .ro ku8 A19 k20 x18, sl .own ku8 A22 k23 x21, sl .ro ku8 A27 k28 x26, sl .own (kSl ku8) A30 k31 x29]) T S rfl rfl rfl rfl (by simp) Try.sizeOf36 (Nat.le_of_ble_eq_true rfl) rfl fun _ S => ?_
      refine Gets.seq (Gets.seq ?_)
      refine rg ?_
      refine r_pv T rfl rfl fun _ T => ?_
      refine r_pv T rfl rfl fun _ T => ?_
      refine r_fa (o' := 0) T rfl Try.runUnderlying61 rfl Try.sizeOf24 rfl rfl fun _ T => ?_
      refine r_ldB (ix := 4) T S rfl Try.isAgg24 rfl rfl rfl fun _ T => ?_
      refine r_lenS T rfl Try.runUnderlying24 rfl fun _ T => ?_
      refine r_pv T rfl rfl fun _ T => ?_
      rcases ifE H with ⟨h55, H⟩ | ⟨h55, H⟩
      · refine cdT T rfl h55 ?_
        refine Gets.seq ?_
        refine rg ?_
        refine r_pv T rfl rfl fun _ T => ?_
        refine r_pv T rfl rfl fun _ T => ?_
        replace S := S.nil ku8 .own
        replace H := Option.some.inj H
        subst H
        exact rtn T Try.func7 rfl rfl ⟨none, 0, rfl, (S.only (p := [sl .own ku8 none 0 ([] : List Int), sl .ro kapi_Entry A2 k3 x1]) [0, 3] rfl)⟩
      · refine cdF T rfl h55 ?_
        refine Gets.skip (Gets.seq ?_)
        refine rg ?_
        refine r_pv T rfl rfl fun _ T => ?_
        refine r_ldBA (ix := 0) (ds := [.slice A50 (((gi dapi_Entry x1 x32).Key).length) k51, .int .u64 ((gi dapi_Entry x1 x32).Seq), .bool ((gi dapi_Entry x1 x32).Del), .slice A52 (((gi dapi_Entry x1 x32).Value).length) k53]) T S rfl Try.isAgg36 rfl rfl Try.sizeOf36 rfl fun _ T => ?_
        refine r_pv T rfl rfl fun _ T => ?_
        obtain ⟨x57, h56, H⟩ := bd H
        refine r_call T Try.call27 rfl rfl (sstable_builder_add.ok _ _ z (sstable_builder.mk x15 x18 x21 x24 x25 x26) (gi dapi_Entry x1 x32) x4 (S.sel (p := [blk b14 [.slice A16 x15.length k17, .slice A19 x18.length k20, .slice A22 x21.length k23, .int .i64 x24, .int .i64 x25, .slice A27 x26.length k28], sl .own ku8 A16 k17 x15, sl .ro ku8 A19 k20 x18, sl .own ku8 A22 k23 x21, sl .ro ku8 A27 k28 x26, sl .ro ku8 A50 k51 ((gi dapi_Entry x1 x32).Key), sl .ro ku8 A52 k53 ((gi dapi_Entry x1 x32).Value)]) (is := [4, 4, 4, 4, 4, 1, 1]) rfl) _ h56) ?_
        rintro _ _ ⟨A59, k60, A61, k62, A63, k64, A65, k66, rfl, S⟩
        refine ⟨_, rfl, fun _ T => ?_⟩
        replace S : SL ([blk b14 [.slice A59 x57.out.length k60, .slice A61 x57.body.length k62, .slice A63 x57.index.length k64, .int .i64 x57.many, .int .i64 x57.blocks, .slice A65 x57.last.length k66], sl .own ku8 A59 k60 x57.out, sl .ro ku8 A61 k62 x57.body, sl .own ku8 A63 k64 x57.index, sl .ro ku8 A65 k66 x57.last, sl .ro ku8 A50 k51 ((gi dapi_Entry x1 x32).Key), sl .ro ku8 A52 k53 ((gi dapi_Entry x1 x32).Value), blk b54 [.slice A50 (((gi dapi_Entry x1 x32).Key).length) k51, .int .u64 ((gi dapi_Entry x1 x32).Seq), .bool ((gi dapi_Entry x1 x32).Del), .slice A52 (((gi dapi_Entry x1 x32).Value).length) k53], sl .ro kapi_Entry A2 k3 x1, sl .own (kSl ku8) A30 k31 x29] ++ F) _ := S.join
        refine Gets.seq ?_
        refine rg ?_
        refine r_pv T rfl rfl fun _ T => ?_
        refine r_lenS T rfl Try.runUnderlying62 rfl fun _ T => ?_
        refine r_pv T rfl rfl fun _ T => ?_
        refine Gets.seq ?_
        rcases ifE H with ⟨h67, H⟩ | ⟨h67, H⟩
        · refine Gets.drawn (l := [blk b14 [.slice A59 x57.out.length k60, .slice A61 x57.body.length k62, .slice A63 x57.index.length k64, .int .i64 x57.many, .int .i64 x57.blocks, .slice A65 x57.last.length k66], sl .own ku8 A59 k60 x57.out, sl .ro ku8 A61 k62 x57.body, sl .own ku8 A63 k64 x57.index, sl .ro ku8 A65 k66 x57.last, sl .ro ku8 A50 k51 ((gi dapi_Entry x1 x32).Key), sl .ro ku8 A52 k53 ((gi dapi_Entry x1 x32).Value), blk b54 [.slice A50 (((gi dapi_Entry x1 x32).Key).length) k51, .int .u64 ((gi dapi_Entry x1 x32).Seq), .bool ((gi dapi_Entry x1 x32).Del), .slice A52 (((gi dapi_Entry x1 x32).Value).length) k53], sl .ro kapi_Entry A2 k3 x1, sl .own (kSl ku8) A30 k31 x29]) (V := [some (.int .i64 (x29.length : Int), true), some (.bool ((x29.length : Int) == 0), true), some (.bool ((x29.length : Int) == 0), true), some (undef, true), some (undef, true), some (undef, true), some (undef, true), some (undef, true), some (undef, true), some (undef, true), some (undef, true), some (undef, true), some (.bool true, true)]) mixed T S rfl ?_
          refine stage none rfl rfl ⟨⟨_, [(14, .int .i64 (x29.length : Int))], rfl, ⟨.inr ⟨rfl, rfl⟩, trivial⟩, fun u a w T S => (by refine r_pv T rfl rfl fun _ T => ?_; exact ⟨rfl, T⟩)⟩, ⟨_, [(82, .int .i64 (x29.length : Int))], rfl, ⟨.inl ⟨0, rfl, rfl, rfl, rfl⟩, trivial⟩, fun u a w T S => (by refine r_pv T rfl rfl fun _ T => ?_; exact ⟨rfl, T⟩)⟩, ⟨_, [(83, .bool ((x29.length : Int) == 0))], rfl, ⟨.inl ⟨1, rfl, rfl, rfl, rfl⟩, trivial⟩, fun u a w T S => (by refine r_pv T rfl rfl fun _ T => ?_; exact ⟨rfl, T⟩)⟩, ⟨_, [(11, .slice A30 x29.length k31), (84, .bool ((x29.length : Int) == 0))], rfl, ⟨.inr ⟨rfl, rfl⟩, .inl ⟨2, rfl, rfl, rfl, rfl⟩, trivial⟩, fun u a w T S => (by refine g_no T rfl rfl h67 rfl fun _ T => ?_; exact ⟨rfl, T⟩)⟩, ⟨_, [(14, .int .i64 (x29.length : Int)), (84, .bool ((x29.length : Int) == 0))], rfl, ⟨.inr ⟨rfl, rfl⟩, .inl ⟨2, rfl, rfl, rfl, rfl⟩, trivial⟩, fun u a w T S => (by refine g_no T rfl rfl h67 rfl fun _ T => ?_; exact ⟨rfl, T⟩)⟩, ⟨_, [(86, undef), (84, .bool ((x29.length : Int) == 0))], rfl, ⟨.inl ⟨4, rfl, rfl, rfl, rfl⟩, .inl ⟨2, rfl, rfl, rfl, rfl⟩, trivial⟩, fun u a w T S => (by refine g_no T rfl rfl h67 rfl fun _ T => ?_; exact ⟨rfl, T⟩)⟩, ⟨_, [(85, undef), (87, undef), (84, .bool ((x29.length : Int) == 0))], rfl, ⟨.inl ⟨3, rfl, rfl, rfl, rfl⟩, .inl ⟨5, rfl, rfl, rfl, rfl⟩, .inl ⟨2, rfl, rfl, rfl, rfl⟩, trivial⟩, fun u a w T S => (by refine g_no T rfl rfl h67 rfl fun _ T => ?_; exact ⟨rfl, T⟩)⟩, ⟨_, [(88, undef), (84, .bool ((x29.length : Int) == 0))], rfl, ⟨.inl ⟨6, rfl, rfl, rfl, rfl⟩, .inl ⟨2, rfl, rfl, rfl, rfl⟩, trivial⟩, fun u a w T S => (by refine g_no T rfl rfl h67 rfl fun _ T => ?_; exact ⟨rfl, T⟩)⟩, ⟨_, [(13, .pointer (some ⟨b54, 0, none⟩)), (84, .bool ((x29.length : Int) == 0))], rfl, ⟨.inr ⟨rfl, rfl⟩, .inl ⟨2, rfl, rfl, rfl, rfl⟩, trivial⟩, fun u a w T S => (by refine g_no T rfl rfl h67 rfl fun _ T => ?_; exact ⟨rfl, T⟩)⟩, ⟨_, [(90, undef), (84, .bool ((x29.length : Int) == 0))], rfl, ⟨.inl ⟨8, rfl, rfl, rfl, rfl⟩, .inl ⟨2, rfl, rfl, rfl, rfl⟩, trivial⟩, fun u a w T S => (by refine g_no T rfl rfl h67 rfl fun _ T => ?_; exact ⟨rfl, T⟩)⟩, ⟨_, [(89, undef), (91, undef), (84, .bool ((x29.length : Int) == 0))], rfl, ⟨.inl ⟨7, rfl, rfl, rfl, rfl⟩, .inl ⟨9, rfl, rfl, rfl, rfl⟩, .inl ⟨2, rfl, rfl, rfl, rfl⟩, trivial⟩, fun u a w T S => (by refine g_no T rfl rfl h67 rfl fun _ T => ?_; exact ⟨rfl, T⟩)⟩, ⟨_, [(92, undef), (84, .bool ((x29.length : Int) == 0))], rfl, ⟨.inl ⟨10, rfl, rfl, rfl, rfl⟩, .inl ⟨2, rfl, rfl, rfl, rfl⟩, trivial⟩, fun u a w T S => (by refine g_no T rfl rfl h67 rfl fun _ T => ?_; exact ⟨rfl, T⟩)⟩, ⟨_, [(84, .bool ((x29.length : Int) == 0)), (93, undef)], rfl, ⟨.inl ⟨2, rfl, rfl, rfl, rfl⟩, .inl ⟨11, rfl, rfl, rfl, rfl⟩, trivial⟩, fun u a w T S => (by refine r_pickT T rfl h67 rfl rfl fun _ T => ?_; exact ⟨rfl, T⟩)⟩, trivial⟩ rfl (fun i hi => by cases hi) (fun _ _ a w T hv hb S => ?_)
          replace T := T.sub (r := [(0, .slice A2 x1.length k3), (1, .int .i64 x4), (2, .int .i64 x5), (10, .pointer (some ⟨b14, 0, none⟩)), (11, .slice A30 x29.length k31), (13, .pointer (some ⟨b54, 0, none⟩)), (64, .slice A2 x1.length k3), (65, .int .i64 (x1.length : Int)), (66, .int .i64 x32), (94, .bool true)]) ⟨hb 0 _ rfl rfl, hb 1 _ rfl rfl, hb 2 _ rfl rfl, hb 10 _ rfl rfl, hb 11 _ rfl rfl, hb 13 _ rfl rfl, hb 64 _ rfl rfl, hb 65 _ rfl rfl, hb 66 _ rfl rfl, hv 12 _ 94 rfl rfl rfl, trivial⟩
          refine cdT T rfl rfl ?_
          exact J4_ok F r z x1 A2 k3 x4 x5 b14 A30 x29 k31 b54 x32 A59 x57 k60 A61 k62 A63 k64 A65 k66 A50 k51 A52 k53 (L3 z x1 x4 x5 m) ih _ _ (T.sub ⟨rfl, rfl, rfl, rfl, rfl, rfl, rfl, rfl, rfl, trivial⟩) (S.only (p := [sl .ro kapi_Entry A2 k3 x1, blk b14 [.slice A59 x57.out.length k60, .slice A61 x57.body.length k62, .slice A63 x57.index.length k64, .int .i64 x57.many, .int .i64 x57.blocks, .slice A65 x57.last.length k66], sl .own ku8 A59 k60 x57.out, sl .ro ku8 A61 k62 x57.body, sl .own ku8 A63 k64 x57.index, sl .ro ku8 A65 k66 x57.last, sl .own (kSl ku8) A30 k31 x29, blk b54 [.slice A50 (((gi dapi_Entry x1 x32).Key).length) k51, .int .u64 ((gi dapi_Entry x1 x32).Seq), .bool ((gi dapi_Entry x1 x32).Del), .slice A52 (((gi dapi_Entry x1 x32).Value).length) k53], sl .ro ku8 A50 k51 ((gi dapi_Entry x1 x32).Key), sl .ro ku8 A52 k53 ((gi dapi_Entry x1 x32).Value)]) [8, 0, 0, 0, 0, 0, 3, 2, 0, 0] rfl) H
        · obtain ⟨h68, H⟩ := ck H
          obtain ⟨_, S⟩ := S.peekO (ix := 9) (off := 0) (i := wr .i64 ((x29.length : Int) - 1)) rfl [] (Fld.all _) h68.1 h68.2 rfl
          obtain ⟨A69, k70, hv_, S_⟩ := SL.ofVal S
          subst hv_
          replace S : SL ([sl .ro ku8 A69 k70 (gi [] x29 (wr .i64 ((x29.length : Int) - 1))), blk b14 [.slice A59 x57.out.length k60, .slice A61 x57.body.length k62, .slice A63 x57.index.length k64, .int .i64 x57.many, .int .i64 x57.blocks, .slice A65 x57.last.length k66], sl .own ku8 A59 k60 x57.out, sl .ro ku8 A61 k62 x57.body, sl .own ku8 A63 k64 x57.index, sl .ro ku8 A65 k66 x57.last, sl .ro ku8 A50 k51 ((gi dapi_Entry x1 x32).Key), sl .ro ku8 A52 k53 ((gi dapi_Entry x1 x32).Value), blk b54 [.slice A50 (((gi dapi_Entry x1 x32).Key).length) k51, .int .u64 ((gi dapi_Entry x1 x32).Seq), .bool ((gi dapi_Entry x1 x32).Del), .slice A52 (((gi dapi_Entry x1 x32).Value).length) k53], sl .ro kapi_Entry A2 k3 x1, sl (.part (Int.toNat (wr .i64 ((x29.length : Int) - 1)) * 1 + 0) [.slice A69 ((gi [] x29 (wr .i64 ((x29.length : Int) - 1))).length) k70]) (kSl ku8) A30 k31 x29] ++ F) _ := S_
          refine Gets.drawn (l := [sl .ro ku8 A69 k70 (gi [] x29 (wr .i64 ((x29.length : Int) - 1))), blk b14 [.slice A59 x57.out.length k60, .slice A61 x57.body.length k62, .slice A63 x57.index.length k64, .int .i64 x57.many, .int .i64 x57.blocks, .slice A65 x57.last.length k66], sl .own ku8 A59 k60 x57.out, sl .ro ku8 A61 k62 x57.body, sl .own ku8 A63 k64 x57.index, sl .ro ku8 A65 k66 x57.last, sl .ro ku8 A50 k51 ((gi dapi_Entry x1 x32).Key), sl .ro ku8 A52 k53 ((gi dapi_Entry x1 x32).Value), blk b54 [.slice A50 (((gi dapi_Entry x1 x32).Key).length) k51, .int .u64 ((gi dapi_Entry x1 x32).Seq), .bool ((gi dapi_Entry x1 x32).Del), .slice A52 (((gi dapi_Entry x1 x32).Value).length) k53], sl .ro kapi_Entry A2 k3 x1, sl (.part (Int.toNat (wr .i64 ((x29.length : Int) - 1)) * 1 + 0) [.slice A69 ((gi [] x29 (wr .i64 ((x29.length : Int) - 1))).length) k70]) (kSl ku8) A30 k31 x29]) (V := [some (.int .i64 (x29.length : Int), true), some (.bool ((x29.length : Int) == 0), true), some (.bool ((x29.length : Int) == 0), true), some (.slice A30 x29.length k31, true), some (.int .i64 (x29.length : Int), true), some (.int .i64 (wr .i64 ((x29.length : Int) - 1)), true), some (.pointer (some (eA A30 (Int.toNat (wr .i64 ((x29.length : Int) - 1)) * 1))), true), some (.slice A69 ((gi [] x29 (wr .i64 ((x29.length : Int) - 1))).length) k70, true), some (.pointer (some ⟨b54, 0, none⟩), true), some (.slice A50 (((gi dapi_Entry x1 x32).Key).length) k51, true), none, none, none]) mixed T S rfl ?_
          refine stage (some 10) rfl rfl ⟨⟨_, [(14, .int .i64 (x29.length : Int))], rfl, ⟨.inr ⟨rfl, rfl⟩, trivial⟩, fun u a w T S => (by refine r_pv T rfl rfl fun _ T => ?_; exact ⟨rfl, T⟩)⟩, ⟨_, [(82, .int .i64 (x29.length : Int))], rfl, ⟨.inl ⟨0, rfl, rfl, rfl, rfl⟩, trivial⟩, fun u a w T S => (by refine r_pv T rfl rfl fun _ T => ?_; exact ⟨rfl, T⟩)⟩, ⟨_, [(83, .bool ((x29.length : Int) == 0))], rfl, ⟨.inl ⟨1, rfl, rfl, rfl, rfl⟩, trivial⟩, fun u a w T S => (by refine r_pv T rfl rfl fun _ T => ?_; exact ⟨rfl, T⟩)⟩, ⟨_, [(11, .slice A30 x29.length k31), (84, .bool ((x29.length : Int) == 0))], rfl, ⟨.inr ⟨rfl, rfl⟩, .inl ⟨2, rfl, rfl, rfl, rfl⟩, trivial⟩, fun u a w T S => (by refine g_yes T rfl rfl h67 ?_; refine r_pv T rfl rfl fun _ T => ?_; exact ⟨rfl, T⟩)⟩, ⟨_, [(14, .int .i64 (x29.length : Int)), (84, .bool ((x29.length : Int) == 0))], rfl, ⟨.inr ⟨rfl, rfl⟩, .inl ⟨2, rfl, rfl, rfl, rfl⟩, trivial⟩, fun u a w T S => (by refine g_yes T rfl rfl h67 ?_; refine r_pv T rfl rfl fun _ T => ?_; exact ⟨rfl, T⟩)⟩, ⟨_, [(86, .int .i64 (x29.length : Int)), (84, .bool ((x29.length : Int) == 0))], rfl, ⟨.inl ⟨4, rfl, rfl, rfl, rfl⟩, .inl ⟨2, rfl, rfl, rfl, rfl⟩, trivial⟩, fun u a w T S => (by refine g_yes T rfl rfl h67 ?_; refine r_pv T rfl rfl fun _ T => ?_; exact ⟨rfl, T⟩)⟩, ⟨_, [(85, .slice A30 x29.length k31), (87, .int .i64 (wr .i64 ((x29.length : Int) - 1))), (84, .bool ((x29.length : Int) == 0))], rfl, ⟨.inl ⟨3, rfl, rfl, rfl, rfl⟩, .inl ⟨5, rfl, rfl, rfl, rfl⟩, .inl ⟨2, rfl, rfl, rfl, rfl⟩, trivial⟩, fun u a w T S => (by refine g_yes T rfl rfl h67 ?_; refine r_ia (ix := 10) T S rfl rfl rfl rfl Try.runUnderlying62 Try.sizeOf24 h68.1 h68.2 rfl fun _ T => ?_; exact ⟨rfl, T⟩)⟩, ⟨_, [(88, .pointer (some (eA A30 (Int.toNat (wr .i64 ((x29.length : Int) - 1)) * 1)))), (84, .bool ((x29.length : Int) == 0))], rfl, ⟨.inl ⟨6, rfl, rfl, rfl, rfl⟩, .inl ⟨2, rfl, rfl, rfl, rfl⟩, trivial⟩, fun u a w T S => (by refine g_yes T rfl rfl h67 ?_; refine r_ldK (ix := 10) (A := A30) T S rfl rfl rfl Try.isAgg24 rfl fun _ T => ?_; exact ⟨rfl, T⟩)⟩, ⟨_, [(13, .pointer (some ⟨b54, 0, none⟩)), (84, .bool ((x29.length : Int) == 0))], rfl, ⟨.inr ⟨rfl, rfl⟩, .inl ⟨2, rfl, rfl, rfl, rfl⟩, trivial⟩, fun u a w T S => (by refine g_yes T rfl rfl h67 ?_; refine r_fa (o' := 0) T rfl Try.runUnderlying36 rfl Try.sizeOf24 rfl rfl fun _ T => ?_; exact ⟨rfl, T⟩)⟩, ⟨_, [(90, .pointer (some ⟨b54, 0, none⟩)), (84, .bool ((x29.length : Int) == 0))], rfl, ⟨.inl ⟨8, rfl, rfl, rfl, rfl⟩, .inl ⟨2, rfl, rfl, rfl, rfl⟩, trivial⟩, fun u a w T S => (by refine g_yes T rfl rfl h67 ?_; refine r_ldB (ix := 8) T S rfl Try.isAgg24 rfl rfl rfl fun _ T => ?_; exact ⟨rfl, T⟩)⟩, trivial⟩ rfl (fun i hi => ?_) (fun h => by cases h)
          cases hi
          refine ⟨rfl, _, [(89, .slice A69 ((gi [] x29 (wr .i64 ((x29.length : Int) - 1))).length) k70), (91, .slice A50 (((gi dapi_Entry x1 x32).Key).length) k51), (84, .bool ((x29.length : Int) == 0))], rfl, ⟨.inl ⟨7, rfl, rfl, rfl, rfl⟩, .inl ⟨9, rfl, rfl, rfl, rfl⟩, .inl ⟨2, rfl, rfl, rfl, rfl⟩, trivial⟩, fun u a w T S => ?_⟩
          refine g_yes T rfl rfl h67 ?_
          obtain ⟨x72, h71, H⟩ := bd H
          refine r_call T Try.call28 rfl rfl (bytes_Equal.ok _ _ (gi [] x29 (wr .i64 ((x29.length : Int) - 1))) ((gi dapi_Entry x1 x32).Key) (S.sel (p := [sl .ro ku8 A69 k70 (gi [] x29 (wr .i64 ((x29.length : Int) - 1))), sl .ro ku8 A50 k51 ((gi dapi_Entry x1 x32).Key)]) (is := [0, 5]) rfl) _ h71) ?_
          rintro _ _ ⟨rfl, S⟩
          refine ⟨_, rfl, fun _ T => ?_⟩
          replace S : SL ([sl .ro ku8 A69 k70 (gi [] x29 (wr .i64 ((x29.length : Int) - 1))), sl .ro ku8 A50 k51 ((gi dapi_Entry x1 x32).Key), blk b14 [.slice A59 x57.out.length k60, .slice A61 x57.body.length k62, .slice A63 x57.index.length k64, .int .i64 x57.many, .int .i64 x57.blocks, .slice A65 x57.last.length k66], sl .own ku8 A59 k60 x57.out, sl .ro ku8 A61 k62 x57.body, sl .own ku8 A63 k64 x57.index, sl .ro ku8 A65 k66 x57.last, sl .ro ku8 A52 k53 ((gi dapi_Entry x1 x32).Value), blk b54 [.slice A50 (((gi dapi_Entry x1 x32).Key).length) k51, .int .u64 ((gi dapi_Entry x1 x32).Seq), .bool ((gi dapi_Entry x1 x32).Del), .slice A52 (((gi dapi_Entry x1 x32).Value).length) k53], sl .ro kapi_Entry A2 k3 x1, sl (.part (Int.toNat (wr .i64 ((x29.length : Int) - 1)) * 1 + 0) [.slice A69 ((gi [] x29 (wr .i64 ((x29.length : Int) - 1))).length) k70]) (kSl ku8) A30 k31 x29] ++ F) _ := S.join
          refine ⟨_, [some (.int .i64 (x29.length : Int), true), some (.bool ((x29.length : Int) == 0), true), some (.bool ((x29.length : Int) == 0), false), some (.slice A30 x29.length k31, true), some (.int .i64 (x29.length : Int), true), some (.int .i64 (wr .i64 ((x29.length : Int) - 1)), true), some (.pointer (some (eA A30 (Int.toNat (wr .i64 ((x29.length : Int) - 1)) * 1))), true), some (.slice A69 ((gi [] x29 (wr .i64 ((x29.length : Int) - 1))).length) k70, false), some (.pointer (some ⟨b54, 0, none⟩), true), some (.slice A50 (((gi dapi_Entry x1 x32).Key).length) k51, false), some (.bool x72, false), some (.bool (!x72), true), some (.bool (!x72), true)], [sl .ro ku8 A69 k70 (gi [] x29 (wr .i64 ((x29.length : Int) - 1))), sl .ro ku8 A50 k51 ((gi dapi_Entry x1 x32).Key), blk b14 [.slice A59 x57.out.length k60, .slice A61 x57.body.length k62, .slice A63 x57.index.length k64, .int .i64 x57.many, .int .i64 x57.blocks, .slice A65 x57.last.length k66], sl .own ku8 A59 k60 x57.out, sl .ro ku8 A61 k62 x57.body, sl .own ku8 A63 k64 x57.index, sl .ro ku8 A65 k66 x57.last, sl .ro ku8 A52 k53 ((gi dapi_Entry x1 x32).Value), blk b54 [.slice A50 (((gi dapi_Entry x1 x32).Key).length) k51, .int .u64 ((gi dapi_Entry x1 x32).Seq), .bool ((gi dapi_Entry x1 x32).Del), .slice A52 (((gi dapi_Entry x1 x32).Value).length) k53], sl .ro kapi_Entry A2 k3 x1, sl (.part (Int.toNat (wr .i64 ((x29.length : Int) - 1)) * 1 + 0) [.slice A69 ((gi [] x29 (wr .i64 ((x29.length : Int) - 1))).length) k70]) (kSl ku8) A30 k31 x29], rfl, ⟨.inr ⟨_, _, _, rfl, rfl⟩, .inr ⟨_, _, _, rfl, rfl⟩, .inr ⟨_, _, _, rfl, rfl⟩, .inr ⟨_, _, _, rfl, rfl⟩, .inr ⟨_, _, _, rfl, rfl⟩, .inr ⟨_, _, _, rfl, rfl⟩, .inr ⟨_, _, _, rfl, rfl⟩, .inr ⟨_, _, _, rfl, rfl⟩, .inr ⟨_, _, _, rfl, rfl⟩, .inr ⟨_, _, _, rfl, rfl⟩, .inl rfl, .inl rfl, .inl rfl, trivial⟩, rfl, ?_, T, S⟩
          refine stage none rfl rfl ⟨⟨_, [(14, .int .i64 (x29.length : Int))], rfl, ⟨.inr ⟨rfl, rfl⟩, trivial⟩, fun u a w T S => (by refine r_pv T rfl rfl fun _ T => ?_; exact ⟨rfl, T⟩)⟩, ⟨_, [(82, .int .i64 (x29.length : Int))], rfl, ⟨.inl ⟨0, rfl, rfl, rfl, rfl⟩, trivial⟩, fun u a w T S => (by refine r_pv T rfl rfl fun _ T => ?_; exact ⟨rfl, T⟩)⟩, ⟨_, [(11, .slice A30 x29.length k31), (84, .bool ((x29.length : Int) == 0))], rfl, ⟨.inr ⟨rfl, rfl⟩, .inl ⟨2, rfl, rfl, rfl, rfl⟩, trivial⟩, fun u a w T S => (by refine g_yes T rfl rfl h67 ?_; refine r_pv T rfl rfl fun _ T => ?_; exact ⟨rfl, T⟩)⟩, ⟨_, [(14, .int .i64 (x29.length : Int)), (84, .bool ((x29.length : Int) == 0))], rfl, ⟨.inr ⟨rfl, rfl⟩, .inl ⟨2, rfl, rfl, rfl, rfl⟩, trivial⟩, fun u a w T S => (by refine g_yes T rfl rfl h67 ?_; refine r_pv T rfl rfl fun _ T => ?_; exact ⟨rfl, T⟩)⟩, ⟨_, [(86, .int .i64 (x29.length : Int)), (84, .bool ((x29.length : Int) == 0))], rfl, ⟨.inl ⟨4, rfl, rfl, rfl, rfl⟩, .inl ⟨2, rfl, rfl, rfl, rfl⟩, trivial⟩, fun u a w T S => (by refine g_yes T rfl rfl h67 ?_; refine r_pv T rfl rfl fun _ T => ?_; exact ⟨rfl, T⟩)⟩, ⟨_, [(85, .slice A30 x29.length k31), (87, .int .i64 (wr .i64 ((x29.length : Int) - 1))), (84, .bool ((x29.length : Int) == 0))], rfl, ⟨.inl ⟨3, rfl, rfl, rfl, rfl⟩, .inl ⟨5, rfl, rfl, rfl, rfl⟩, .inl ⟨2, rfl, rfl, rfl, rfl⟩, trivial⟩, fun u a w T S => (by refine g_yes T rfl rfl h67 ?_; refine r_ia (ix := 10) T S rfl rfl rfl rfl Try.runUnderlying62 Try.sizeOf24 h68.1 h68.2 rfl fun _ T => ?_; exact ⟨rfl, T⟩)⟩, ⟨_, [(13, .pointer (some ⟨b54, 0, none⟩)), (84, .bool ((x29.length : Int) == 0))], rfl, ⟨.inr ⟨rfl, rfl⟩, .inl ⟨2, rfl, rfl, rfl, rfl⟩, trivial⟩, fun u a w T S => (by refine g_yes T rfl rfl h67 ?_; refine r_fa (o' := 0) T rfl Try.runUnderlying36 rfl Try.sizeOf24 rfl rfl fun _ T => ?_; exact ⟨rfl, T⟩)⟩, ⟨_, [(92, .bool x72), (84, .bool ((x29.length : Int) == 0))], rfl, ⟨.inl ⟨10, rfl, rfl, rfl, rfl⟩, .inl ⟨2, rfl, rfl, rfl, rfl⟩, trivial⟩, fun u a w T S => (by refine g_yes T rfl rfl h67 ?_; refine r_pv T rfl rfl fun _ T => ?_; exact ⟨rfl, T⟩)⟩, ⟨_, [(84, .bool ((x29.length : Int) == 0)), (93, .bool (!x72))], rfl, ⟨.inl ⟨2, rfl, rfl, rfl, rfl⟩, .inl ⟨11, rfl, rfl, rfl, rfl⟩, trivial⟩, fun u a w T S => (by refine r_pickF T rfl h67 rfl rfl fun _ T => ?_; exact ⟨rfl, T⟩)⟩, trivial⟩ rfl (fun i hi => by cases hi) (fun _ _ a w T hv hb S => ?_)
          replace T := T.sub (r := [(0, .slice A2 x1.length k3), (1, .int .i64 x4), (2, .int .i64 x5), (10, .pointer (some ⟨b14, 0, none⟩)), (11, .slice A30 x29.length k31), (13, .pointer (some ⟨b54, 0, none⟩)), (64, .slice A2 x1.length k3), (65, .int .i64 (x1.length : Int)), (66, .int .i64 x32), (94, .bool (!x72))]) ⟨hb 0 _ rfl rfl, hb 1 _ rfl rfl, hb 2 _ rfl rfl, hb 10 _ rfl rfl, hb 11 _ rfl rfl, hb 13 _ rfl rfl, hb 64 _ rfl rfl, hb 65 _ rfl rfl, hb 66 _ rfl rfl, hv 12 _ 94 rfl rfl rfl, trivial⟩
          replace S : SL ([sl .ro ku8 A69 k70 (gi [] x29 (wr .i64 ((x29.length : Int) - 1))), sl .ro ku8 A50 k51 ((gi dapi_Entry x1 x32).Key), blk b14 [.slice A59 x57.out.length k60, .slice A61 x57.body.length k62, .slice A63 x57.index.length k64, .int .i64 x57.many, .int .i64 x57.blocks, .slice A65 x57.last.length k66], sl .own ku8 A59 k60 x57.out, sl .ro ku8 A61 k62 x57.body, sl .own ku8 A63 k64 x57.index, sl .ro ku8 A65 k66 x57.last, sl .ro ku8 A52 k53 ((gi dapi_Entry x1 x32).Value), blk b54 [.slice A50 (((gi dapi_Entry x1 x32).Key).length) k51, .int .u64 ((gi dapi_Entry x1 x32).Seq), .bool ((gi dapi_Entry x1 x32).Del), .slice A52 (((gi dapi_Entry x1 x32).Value).length) k53], sl .ro kapi_Entry A2 k3 x1, sl .own (kSl ku8) A30 k31 x29] ++ F) _ := S.forget (ix := 10) rfl rfl
          rcases ifE H with ⟨h73, H⟩ | ⟨h73, H⟩
          · refine cdT T rfl h73 ?_
            exact J4_ok F r z x1 A2 k3 x4 x5 b14 A30 x29 k31 b54 x32 A59 x57 k60 A61 k62 A63 k64 A65 k66 A50 k51 A52 k53 (L3 z x1 x4 x5 m) ih _ _ (T.sub ⟨rfl, rfl, rfl, rfl, rfl, rfl, rfl, rfl, rfl, trivial⟩) (S.only (p := [sl .ro kapi_Entry A2 k3 x1, blk b14 [.slice A59 x57.out.length k60, .slice A61 x57.body.length k62, .slice A63 x57.index.length k64, .int .i64 x57.many, .int .i64 x57.blocks, .slice A65 x57.last.length k66], sl .own ku8 A59 k60 x57.out, sl .ro ku8 A61 k62 x57.body, sl .own ku8 A63 k64 x57.index, sl .ro ku8 A65 k66 x57.last, sl .own (kSl ku8) A30 k31 x29, blk b54 [.slice A50 (((gi dapi_Entry x1 x32).Key).length) k51, .int .u64 ((gi dapi_Entry x1 x32).Seq), .bool ((gi dapi_Entry x1 x32).Del), .slice A52 (((gi dapi_Entry x1 x32).Value).length) k53], sl .ro ku8 A50 k51 ((gi dapi_Entry x1 x32).Key), sl .ro ku8 A52 k53 ((gi dapi_Entry x1 x32).Value)]) [9, 2, 2, 2, 2, 2, 4, 3, 1, 1] rfl) H
          · refine cdF T rfl h73 ?_
            refine Gets.skip (Gets.inBlock ?_)
            exact J5_ok F r z x1 A2 k3 x4 x5 b14 x32 A59 x57 k60 A61 k62 A63 k64 A65 k66 (L3 z x1 x4 x5 m) ih A30 x29 k31 _ _ (T.sub ⟨rfl, rfl, rfl, rfl, rfl, rfl, rfl, rfl, trivial⟩) (S.only (p := [sl .ro kapi_Entry A2 k3 x1, blk b14 [.slice A59 x57.out.length k60, .slice A61 x57.body.length k62, .slice A63 x57.index.length k64, .int .i64 x57.many, .int .i64 x57.blocks, .slice A65 x57.last.length k66], sl .own ku8 A59 k60 x57.out, sl .ro ku8 A61 k62 x57.body, sl .own ku8 A63 k64 x57.index, sl .ro ku8 A65 k66 x57.last, sl .own (kSl ku8) A30 k31 x29]) [9, 2, 2, 2, 2, 2, 4] rfl) H
    · refine cdF T rfl h33 ?_
      refine Gets.exit rfl (Gets.seq ?_)
      refine rg ?_
      refine r_pv T rfl rfl fun _ T => ?_
      obtain ⟨x35, h34, H⟩ := bd H
      refine r_call T Try.call29 rfl rfl (sstable_builder_close.ok _ _ z (sstable_builder.mk x15 x18 x21 x24 x25 x26) (S.sel (p := [blk b14 [.slice A16 x15.length k17, .slice A19 x18.length k20, .slice A22 x21.length k23, .int .i64 x24, .int .i64 x25, .slice A27 x26.length k28], sl .own ku8 A16 k17 x15, sl .ro ku8 A19 k20 x18, sl .own ku8 A22 k23 x21, sl .ro ku8 A27 k28 x26]) (is := [1, 1, 1, 1, 1]) rfl) _ h34) ?_
      rintro _ _ ⟨A37, k38, A39, k40, A41, k42, A43, k44, rfl, S⟩
      refine ⟨_, rfl, fun _ T => ?_⟩
      replace S : SL ([blk b14 [.slice A37 x35.out.length k38, .slice A39 x35.body.length k40, .slice A41 x35.index.length k42, .int .i64 x35.many, .int .i64 x35.blocks, .slice A43 x35.last.length k44], sl .own ku8 A37 k38 x35.out, sl .ro ku8 A39 k40 x35.body, sl .own ku8 A41 k42 x35.index, sl .ro ku8 A43 k44 x35.last, sl .ro kapi_Entry A2 k3 x1, sl .own (kSl ku8) A30 k31 x29] ++ F) _ := S.join
      refine Gets.seq ?_
      refine rg ?_
      refine r_pv T rfl rfl fun _ T => ?_
      refine r_pv T rfl rfl fun _ T => ?_
      refine r_lenS T rfl Try.runUnderlying22 rfl fun _ T => ?_
      refine r_pv T rfl rfl fun _ T => ?_
      refine r_pv T rfl rfl fun _ T => ?_
      refine r_pv T rfl rfl fun _ T => ?_
      obtain ⟨x46, h45, H⟩ := bd H
      refine r_call T Try.call30 rfl rfl (sstable_builder_end.ok _ _ z x35 (x1.length : Int) x29 x4 x5 (S.sel (p := [blk b14 [.slice A37 x35.out.length k38, .slice A39 x35.body.length k40, .slice A41 x35.index.length k42, .int .i64 x35.many, .int .i64 x35.blocks, .slice A43 x35.last.length k44], sl .own ku8 A37 k38 x35.out, sl .ro ku8 A39 k40 x35.body, sl .own ku8 A41 k42 x35.index, sl .ro ku8 A43 k44 x35.last, sl .own (kSl ku8) A30 k31 x29]) (is := [0, 0, 0, 0, 0, 1]) rfl) _ h45) ?_
      rintro _ _ ⟨A47, k48, rfl, S⟩
      refine ⟨_, rfl, fun _ T => ?_⟩
      replace S : SL ([sl .own ku8 A47 k48 x46.1, sl .own (kSl ku8) A30 k31 x29, sl .ro kapi_Entry A2 k3 x1] ++ F) _ := S.join
      refine r_pv T rfl rfl fun _ T => ?_
      refine r_pv T rfl rfl fun _ T => ?_
      refine r_pv T rfl rfl fun _ T => ?_
      refine r_pv T rfl rfl fun _ T => ?_
      replace H := Option.some.inj H
      subst H
      exact rtn T Try.func7 rfl rfl ⟨A47, k48, rfl, (S.only (p := [sl .own ku8 A47 k48 x46.1, sl .ro kapi_Entry A2 k3 x1]) [0, 1] rfl)⟩
theorem J6_ok (F : List Atom) (r : (List Int) × Int) (z : Nat) (x1 : List api_Entry) (A2 : Option Addr) (k3 : Nat) (x4 : Int) (x5 : Int) (x12 : Int) (q2 : Int → Option ((List Int) × Int)) (hq2 : ∀ (x12 : Int) (a : Act) (w : World), Tm 112 [(0, .slice A2 x1.length k3), (1, .int .i64 x4), (2, .int .i64 x5), (37, .slice A2 x1.length k3), (38, .int .i64 (x1.length : Int)), (39, .int .i64 x12)] a → SL ([sl .ro kapi_Entry A2 k3 x1] ++ F) w → q2 x12 = some r → Gets Try.prog 7 ptL2 a w (R F x1 A2 k3 r)) (a : Act) (w : World) (T : Tm 112 [(0, .slice A2 x1.length k3), (1, .int .i64 x4), (2, .int .i64 x5), (37, .slice A2 x1.length k3), (38, .int .i64 (x1.length : Int)), (39, .int .i64 x12)] a) (S : SL ([sl .ro kapi_Entry A2 k3 x1] ++ F) w) (H : J6 z q2 x1 x4 x5 x12 = some r) : Gets Try.prog 7 ptJ6 a w (R F x1 A2 k3 r) := by
  refine rg ?_
  refine r_pv T rfl rfl fun _ T => ?_
  refine r_pv T rfl rfl fun _ T => ?_
  refine Gets.inLoop ?_
  exact hq2 (wr .i64 (x12 + 1)) _ _ (T.sub ⟨rfl, rfl, rfl, rfl, rfl, rfl, trivial⟩) (S.only (p := [sl .ro kapi_Entry A2 k3 x1]) [0] rfl) H
theorem L2_ok (F : List Atom) (r : (List Int) × Int) (z : Nat) (x1 : List api_Entry) (A2 : Option Addr) (k3 : Nat) (x4 : Int) (x5 : Int) (m : Nat) : ∀ (x12 : Int) (a : Act) (w : World), Tm 112 [(0, .slice A2 x1.length k3), (1, .int .i64 x4), (2, .int .i64 x5), (37, .slice A2 x1.length k3), (38, .int .i64 (x1.length : Int)), (39, .int .i64 x12)] a → SL ([sl .ro kapi_Entry A2 k3 x1] ++ F) w → L2 z x1 x4 x5 m x12 = some r → Gets Try.prog 7 ptL2 a w (R F x1 A2 k3 r) := by
  induction m with
  | zero => intro _ _ _ _ _ H; cases H
  | succ m ih =>
    intro x12 a w T S H
    refine Gets.seq ?_
    refine rg ?_
    refine r_pv T rfl rfl fun _ T => ?_
    refine Gets.seq ?_
    rcases ifE H with ⟨h13, H⟩ | ⟨h13, H⟩
    · refine cdT T rfl h13 ?_
      refine Gets.skip (Gets.seq (Gets.block (Gets.seq ?_)))
      refine rg ?_
      refine r_pv T rfl rfl fun _ T => ?_
      obtain ⟨h81, H⟩ := ck H
      refine r_ia (ix := 0) T S rfl rfl rfl rfl Try.runUnderlying22 Try.sizeOf36 h81.1 h81.2 rfl fun _ T => ?_
      refine r_ldEA (ix := 0) (i := x12) (off := 0) T S rfl rfl Try.isAgg36 Try.sizeOf36 dapi_Entry rfl (Fld.all _) h81.1 h81.2 rfl fun _ _ S T => ?_
      obtain ⟨A82, k83, A84, k85, hv_, S_⟩ := op_api_Entry S
      subst hv_
      replace S := S_
      refine r_alloc T S zv36 (cs := [.slice none 0 0, .int .u64 0, .bool false, .slice none 0 0]) rfl rfl fun _ _ b86 S T => ?_
      refine r_pv T rfl rfl fun _ T => ?_
      refine r_stBA (ix := 0) (vs := [.slice A82 (((gi dapi_Entry x1 x12).Key).length) k83, .int .u64 ((gi dapi_Entry x1 x12).Seq), .bool ((gi dapi_Entry x1 x12).Del), .slice A84 (((gi dapi_Entry x1 x12).Value).length) k85]) (l' := [blk b86 [.slice A82 (((gi dapi_Entry x1 x12).Key).length) k83, .int .u64 ((gi dapi_Entry x1 x12).Seq), .bool ((gi dapi_Entry x1 x12).Del), .slice A84 (((gi dapi_Entry x1 x12).Value).length) k85], sl .ro ku8 A82 k83 ((gi dapi_Entry x1 x12).Key), sl .ro ku8 A84 k85 ((gi dapi_Entry x1 x12).Value), sl .ro kapi_Entry A2 k3 x1]) T S rfl rfl rfl rfl (by simp) Try.sizeOf36 (Nat.le_of_ble_eq_true rfl) rfl fun _ S => ?_
      refine Gets.block (Gets.seq ?_)
      refine rg ?_
      refine r_ldBA (ix := 0) (ds := [.slice A82 (((gi dapi_Entry x1 x12).Key).length) k83, .int .u64 ((gi dapi_Entry x1 x12).Seq), .bool ((gi dapi_Entry x1 x12).Del), .slice A84 (((gi dapi_Entry x1 x12).Value).length) k85]) T S rfl Try.isAgg36 rfl rfl Try.sizeOf36 rfl fun _ T => ?_
      obtain ⟨x88, h87, H⟩ := bd H
      refine r_call T Try.call25 rfl rfl (sstable_fits.ok _ _ (gi dapi_Entry x1 x12) (S.sel (p := [sl .ro ku8 A82 k83 ((gi dapi_Entry x1 x12).Key), sl .ro ku8 A84 k85 ((gi dapi_Entry x1 x12).Value)]) (is := [1, 1]) rfl) _ h87) ?_
      rintro _ _ ⟨rfl, S⟩
      refine ⟨_, rfl, fun _ T => ?_⟩
      replace S : SL ([sl .ro ku8 A82 k83 ((gi dapi_Entry x1 x12).Key), sl .ro ku8 A84 k85 ((gi dapi_Entry x1 x12).Value), blk b86 [.slice A82 (((gi dapi_Entry x1 x12).Key).length) k83, .int .u64 ((gi dapi_Entry x1 x12).Seq), .bool ((gi dapi_Entry x1 x12).Del), .slice A84 (((gi dapi_Entry x1 x12).Value).length) k85], sl .ro kapi_Entry A2 k3 x1] ++ F) _ := S.join
      refine r_pv T rfl rfl fun _ T => ?_
      refine r_pv T rfl rfl fun _ T => ?_
      rcases ifE H with ⟨h89, H⟩ | ⟨h89, H⟩
      · refine cdT T rfl h89 ?_
        refine Gets.seq ?_
        refine rg ?_
        refine r_pv T rfl rfl fun _ T => ?_
        refine r_pv T rfl rfl fun _ T => ?_
        replace S := S.nil ku8 .own
        replace H := Option.some.inj H
        subst H
        exact rtn T Try.func7 rfl rfl ⟨none, 0, rfl, (S.only (p := [sl .own ku8 none 0 ([] : List Int), sl .ro kapi_Entry A2 k3 x1]) [0, 3] rfl)⟩
      · refine cdF T rfl h89 ?_
        refine Gets.seq ?_
        rcases ifE H with ⟨h90, H⟩ | ⟨h90, H⟩
        · obtain ⟨h91, H⟩ := ck H
          obtain ⟨_, S⟩ := S.peek (ix := 3) (off := 0) (i := wr .i64 (x12 - 1)) rfl dapi_Entry (Fld.all _) h91.1 h91.2
          obtain ⟨A92, k93, A94, k95, hv_, S_⟩ := op_api_Entry (l := _ :: _) S
          subst hv_
          replace S := S_
          refine Gets.drawn (l := [sl .ro ku8 A92 k93 ((gi dapi_Entry x1 (wr .i64 (x12 - 1))).Key), sl .ro ku8 A94 k95 ((gi dapi_Entry x1 (wr .i64 (x12 - 1))).Value), cl A2 (Int.toNat (wr .i64 (x12 - 1)) * 4) [.slice A92 (((gi dapi_Entry x1 (wr .i64 (x12 - 1))).Key).length) k93, .int .u64 ((gi dapi_Entry x1 (wr .i64 (x12 - 1))).Seq), .bool ((gi dapi_Entry x1 (wr .i64 (x12 - 1))).Del), .slice A94 (((gi dapi_Entry x1 (wr .i64 (x12 - 1))).Value).length) k95], sl .ro ku8 A82 k83 ((gi dapi_Entry x1 x12).Key), sl .ro ku8 A84 k85 ((gi dapi_Entry x1 x12).Value), blk b86 [.slice A82 (((gi dapi_Entry x1 x12).Key).length) k83, .int .u64 ((gi dapi_Entry x1 x12).Seq), .bool ((gi dapi_Entry x1 x12).Del), .slice A84 (((gi dapi_Entry x1 x12).Value).length) k85], sl .ro kapi_Entry A2 k3 x1]) (V := [some (.int .i64 x12, true), some (.bool (decide (x12 > 0)), true), some (.bool (decide (x12 > 0)), true), some (.slice A2 x1.length k3, true), some (.int .i64 x12, true), some (.int .i64 (wr .i64 (x12 - 1)), true), some (.pointer (some (eA A2 (Int.toNat (wr .i64 (x12 - 1)) * 4))), true), some (.agg #[.slice A92 (((gi dapi_Entry x1 (wr .i64 (x12 - 1))).Key).length) k93, .int .u64 ((gi dapi_Entry x1 (wr .i64 (x12 - 1))).Seq), .bool ((gi dapi_Entry x1 (wr .i64 (x12 - 1))).Del), .slice A94 (((gi dapi_Entry x1 (wr .i64 (x12 - 1))).Value).length) k95], true), some (.agg #[.slice A82 (((gi dapi_Entry x1 x12).Key).length) k83, .int .u64 ((gi dapi_Entry x1 x12).Seq), .bool ((gi dapi_Entry x1 x12).Del), .slice A84 (((gi dapi_Entry x1 x12).Value).length) k85], true), none, none, none, none]) mixed T S rfl ?_
          refine stage (some 9) rfl rfl ⟨⟨_, [(8, .int .i64 x12)], rfl, ⟨.inr ⟨rfl, rfl⟩, trivial⟩, fun u a w T S => (by refine r_pv T rfl rfl fun _ T => ?_; exact ⟨rfl, T⟩)⟩, ⟨_, [(49, .int .i64 x12)], rfl, ⟨.inl ⟨0, rfl, rfl, rfl, rfl⟩, trivial⟩, fun u a w T S => (by refine r_pv T rfl rfl fun _ T => ?_; exact ⟨rfl, T⟩)⟩, ⟨_, [(50, .bool (decide (x12 > 0)))], rfl, ⟨.inl ⟨1, rfl, rfl, rfl, rfl⟩, trivial⟩, fun u a w T S => (by refine r_pv T rfl rfl fun _ T => ?_; exact ⟨rfl, T⟩)⟩, ⟨_, [(0, .slice A2 x1.length k3), (51, .bool (decide (x12 > 0)))], rfl, ⟨.inr ⟨rfl, rfl⟩, .inl ⟨2, rfl, rfl, rfl, rfl⟩, trivial⟩, fun u a w T S => (by refine g_yes T rfl rfl h90 ?_; refine r_pv T rfl rfl fun _ T => ?_; exact ⟨rfl, T⟩)⟩, ⟨_, [(8, .int .i64 x12), (51, .bool (decide (x12 > 0)))], rfl, ⟨.inr ⟨rfl, rfl⟩, .inl ⟨2, rfl, rfl, rfl, rfl⟩, trivial⟩, fun u a w T S => (by refine g_yes T rfl rfl h90 ?_; refine r_pv T rfl rfl fun _ T => ?_; exact ⟨rfl, T⟩)⟩, ⟨_, [(53, .int .i64 x12), (51, .bool (decide (x12 > 0)))], rfl, ⟨.inl ⟨4, rfl, rfl, rfl, rfl⟩, .inl ⟨2, rfl, rfl, rfl, rfl⟩, trivial⟩, fun u a w T S => (by refine g_yes T rfl rfl h90 ?_; refine r_pv T rfl rfl fun _ T => ?_; exact ⟨rfl, T⟩)⟩, ⟨_, [(52, .slice A2 x1.length k3), (54, .int .i64 (wr .i64 (x12 - 1))), (51, .bool (decide (x12 > 0)))], rfl, ⟨.inl ⟨3, rfl, rfl, rfl, rfl⟩, .inl ⟨5, rfl, rfl, rfl, rfl⟩, .inl ⟨2, rfl, rfl, rfl, rfl⟩, trivial⟩, fun u a w T S => (by refine g_yes T rfl rfl h90 ?_; refine r_ia (ix := 6) T S rfl rfl rfl rfl Try.runUnderlying22 Try.sizeOf36 h91.1 h91.2 rfl fun _ T => ?_; exact ⟨rfl, T⟩)⟩, ⟨_, [(55, .pointer (some (eA A2 (Int.toNat (wr .i64 (x12 - 1)) * 4)))), (51, .bool (decide (x12 > 0)))], rfl, ⟨.inl ⟨6, rfl, rfl, rfl, rfl⟩, .inl ⟨2, rfl, rfl, rfl, rfl⟩, trivial⟩, fun u a w T S => (by refine g_yes T rfl rfl h90 ?_; refine r_ldCA (ix := 2) (A := A2) T S rfl rfl rfl Try.isAgg36 Try.sizeOf36 rfl fun _ T => ?_; exact ⟨rfl, T⟩)⟩, ⟨_, [(9, .pointer (some ⟨b86, 0, none⟩)), (51, .bool (decide (x12 > 0)))], rfl, ⟨.inr ⟨rfl, rfl⟩, .inl ⟨2, rfl, rfl, rfl, rfl⟩, trivial⟩, fun u a w T S => (by refine g_yes T rfl rfl h90 ?_; refine r_ldBA (ix := 5) (ds := [.slice A82 (((gi dapi_Entry x1 x12).Key).length) k83, .int .u64 ((gi dapi_Entry x1 x12).Seq), .bool ((gi dapi_Entry x1 x12).Del), .slice A84 (((gi dapi_Entry x1 x12).Value).length) k85]) T S rfl Try.isAgg36 rfl rfl Try.sizeOf36 rfl fun _ T => ?_; exact ⟨rfl, T⟩)⟩, trivial⟩ rfl (fun i hi => ?_) (fun h => by cases h)
          cases hi
          refine ⟨rfl, _, [(56, .agg #[.slice A92 (((gi dapi_Entry x1 (wr .i64 (x12 - 1))).Key).length) k93, .int .u64 ((gi dapi_Entry x1 (wr .i64 (x12 - 1))).Seq), .bool ((gi dapi_Entry x1 (wr .i64 (x12 - 1))).Del), .slice A94 (((gi dapi_Entry x1 (wr .i64 (x12 - 1))).Value).length) k95]), (57, .agg #[.slice A82 (((gi dapi_Entry x1 x12).Key).length) k83, .int .u64 ((gi dapi_Entry x1 x12).Seq), .bool ((gi dapi_Entry x1 x12).Del), .slice A84 (((gi dapi_Entry x1 x12).Value).length) k85]), (51, .bool (decide (x12 > 0)))], rfl, ⟨.inl ⟨7, rfl, rfl, rfl, rfl⟩, .inl ⟨8, rfl, rfl, rfl, rfl⟩, .inl ⟨2, rfl, rfl, rfl, rfl⟩, trivial⟩, fun u a w T S => ?_⟩
          refine g_yes T rfl rfl h90 ?_
          obtain ⟨x97, h96, H⟩ := bd H
          refine r_call T Try.call26 rfl rfl (sstable_order.ok _ _ (gi dapi_Entry x1 (wr .i64 (x12 - 1))) (gi dapi_Entry x1 x12) (S.sel (p := [sl .ro ku8 A92 k93 ((gi dapi_Entry x1 (wr .i64 (x12 - 1))).Key), sl .ro ku8 A94 k95 ((gi dapi_Entry x1 (wr .i64 (x12 - 1))).Value), sl .ro ku8 A82 k83 ((gi dapi_Entry x1 x12).Key), sl .ro ku8 A84 k85 ((gi dapi_Entry x1 x12).Value)]) (is := [0, 0, 1, 1]) rfl) _ h96) ?_
          rintro _ _ ⟨rfl, S⟩
          refine ⟨_, rfl, fun _ T => ?_⟩
          replace S : SL ([sl .ro ku8 A92 k93 ((gi dapi_Entry x1 (wr .i64 (x12 - 1))).Key), sl .ro ku8 A94 k95 ((gi dapi_Entry x1 (wr .i64 (x12 - 1))).Value), sl .ro ku8 A82 k83 ((gi dapi_Entry x1 x12).Key), sl .ro ku8 A84 k85 ((gi dapi_Entry x1 x12).Value), cl A2 (Int.toNat (wr .i64 (x12 - 1)) * 4) [.slice A92 (((gi dapi_Entry x1 (wr .i64 (x12 - 1))).Key).length) k93, .int .u64 ((gi dapi_Entry x1 (wr .i64 (x12 - 1))).Seq), .bool ((gi dapi_Entry x1 (wr .i64 (x12 - 1))).Del), .slice A94 (((gi dapi_Entry x1 (wr .i64 (x12 - 1))).Value).length) k95], blk b86 [.slice A82 (((gi dapi_Entry x1 x12).Key).length) k83, .int .u64 ((gi dapi_Entry x1 x12).Seq), .bool ((gi dapi_Entry x1 x12).Del), .slice A84 (((gi dapi_Entry x1 x12).Value).length) k85], sl .ro kapi_Entry A2 k3 x1] ++ F) _ := S.join
          refine ⟨_, [some (.int .i64 x12, true), some (.bool (decide (x12 > 0)), true), some (.bool (decide (x12 > 0)), false), some (.slice A2 x1.length k3, true), some (.int .i64 x12, true), some (.int .i64 (wr .i64 (x12 - 1)), true), some (.pointer (some (eA A2 (Int.toNat (wr .i64 (x12 - 1)) * 4))), true), some (.agg #[.slice A92 (((gi dapi_Entry x1 (wr .i64 (x12 - 1))).Key).length) k93, .int .u64 ((gi dapi_Entry x1 (wr .i64 (x12 - 1))).Seq), .bool ((gi dapi_Entry x1 (wr .i64 (x12 - 1))).Del), .slice A94 (((gi dapi_Entry x1 (wr .i64 (x12 - 1))).Value).length) k95], false), some (.agg #[.slice A82 (((gi dapi_Entry x1 x12).Key).length) k83, .int .u64 ((gi dapi_Entry x1 x12).Seq), .bool ((gi dapi_Entry x1 x12).Del), .slice A84 (((gi dapi_Entry x1 x12).Value).length) k85], false), some (.int .i64 x97, false), some (.bool (decide (x97 ≥ 0)), true), some (.bool (decide (x97 ≥ 0)), true), some (.bool (decide (x97 ≥ 0)), true)], [sl .ro ku8 A92 k93 ((gi dapi_Entry x1 (wr .i64 (x12 - 1))).Key), sl .ro ku8 A94 k95 ((gi dapi_Entry x1 (wr .i64 (x12 - 1))).Value), sl .ro ku8 A82 k83 ((gi dapi_Entry x1 x12).Key), sl .ro ku8 A84 k85 ((gi dapi_Entry x1 x12).Value), cl A2 (Int.toNat (wr .i64 (x12 - 1)) * 4) [.slice A92 (((gi dapi_Entry x1 (wr .i64 (x12 - 1))).Key).length) k93, .int .u64 ((gi dapi_Entry x1 (wr .i64 (x12 - 1))).Seq), .bool ((gi dapi_Entry x1 (wr .i64 (x12 - 1))).Del), .slice A94 (((gi dapi_Entry x1 (wr .i64 (x12 - 1))).Value).length) k95], blk b86 [.slice A82 (((gi dapi_Entry x1 x12).Key).length) k83, .int .u64 ((gi dapi_Entry x1 x12).Seq), .bool ((gi dapi_Entry x1 x12).Del), .slice A84 (((gi dapi_Entry x1 x12).Value).length) k85], sl .ro kapi_Entry A2 k3 x1], rfl, ⟨.inr ⟨_, _, _, rfl, rfl⟩, .inr ⟨_, _, _, rfl, rfl⟩, .inr ⟨_, _, _, rfl, rfl⟩, .inr ⟨_, _, _, rfl, rfl⟩, .inr ⟨_, _, _, rfl, rfl⟩, .inr ⟨_, _, _, rfl, rfl⟩, .inr ⟨_, _, _, rfl, rfl⟩, .inr ⟨_, _, _, rfl, rfl⟩, .inr ⟨_, _, _, rfl, rfl⟩, .inl rfl, .inl rfl, .inl rfl, .inl rfl, trivial⟩, rfl, ?_, T, S⟩
          refine stage none rfl rfl ⟨⟨_, [(8, .int .i64 x12)], rfl, ⟨.inr ⟨rfl, rfl⟩, trivial⟩, fun u a w T S => (by refine r_pv T rfl rfl fun _ T => ?_; exact ⟨rfl, T⟩)⟩, ⟨_, [(49, .int .i64 x12)], rfl, ⟨.inl ⟨0, rfl, rfl, rfl, rfl⟩, trivial⟩, fun u a w T S => (by refine r_pv T rfl rfl fun _ T => ?_; exact ⟨rfl, T⟩)⟩, ⟨_, [(0, .slice A2 x1.length k3), (51, .bool (decide (x12 > 0)))], rfl, ⟨.inr ⟨rfl, rfl⟩, .inl ⟨2, rfl, rfl, rfl, rfl⟩, trivial⟩, fun u a w T S => (by refine g_yes T rfl rfl h90 ?_; refine r_pv T rfl rfl fun _ T => ?_; exact ⟨rfl, T⟩)⟩, ⟨_, [(8, .int .i64 x12), (51, .bool (decide (x12 > 0)))], rfl, ⟨.inr ⟨rfl, rfl⟩, .inl ⟨2, rfl, rfl, rfl, rfl⟩, trivial⟩, fun u a w T S => (by refine g_yes T rfl rfl h90 ?_; refine r_pv T rfl rfl fun _ T => ?_; exact ⟨rfl, T⟩)⟩, ⟨_, [(53, .int .i64 x12), (51, .bool (decide (x12 > 0)))], rfl, ⟨.inl ⟨4, rfl, rfl, rfl, rfl⟩, .inl ⟨2, rfl, rfl, rfl, rfl⟩, trivial⟩, fun u a w T S => (by refine g_yes T rfl rfl h90 ?_; refine r_pv T rfl rfl fun _ T => ?_; exact ⟨rfl, T⟩)⟩, ⟨_, [(52, .slice A2 x1.length k3), (54, .int .i64 (wr .i64 (x12 - 1))), (51, .bool (decide (x12 > 0)))], rfl, ⟨.inl ⟨3, rfl, rfl, rfl, rfl⟩, .inl ⟨5, rfl, rfl, rfl, rfl⟩, .inl ⟨2, rfl, rfl, rfl, rfl⟩, trivial⟩, fun u a w T S => (by refine g_yes T rfl rfl h90 ?_; refine r_ia (ix := 6) T S rfl rfl rfl rfl Try.runUnderlying22 Try.sizeOf36 h91.1 h91.2 rfl fun _ T => ?_; exact ⟨rfl, T⟩)⟩, ⟨_, [(58, .int .i64 x97), (51, .bool (decide (x12 > 0)))], rfl, ⟨.inl ⟨9, rfl, rfl, rfl, rfl⟩, .inl ⟨2, rfl, rfl, rfl, rfl⟩, trivial⟩, fun u a w T S => (by refine g_yes T rfl rfl h90 ?_; refine r_pv T rfl rfl fun _ T => ?_; exact ⟨rfl, T⟩)⟩, ⟨_, [(51, .bool (decide (x12 > 0))), (59, .bool (decide (x97 ≥ 0)))], rfl, ⟨.inl ⟨2, rfl, rfl, rfl, rfl⟩, .inl ⟨10, rfl, rfl, rfl, rfl⟩, trivial⟩, fun u a w T S => (by refine r_pickT T rfl h90 rfl rfl fun _ T => ?_; exact ⟨rfl, T⟩)⟩, ⟨_, [(60, .bool (decide (x97 ≥ 0)))], rfl, ⟨.inl ⟨11, rfl, rfl, rfl, rfl⟩, trivial⟩, fun u a w T S => (by refine r_pv T rfl rfl fun _ T => ?_; exact ⟨rfl, T⟩)⟩, trivial⟩ rfl (fun i hi => by cases hi) (fun _ _ a w T hv hb S => ?_)
          replace T := T.sub (r := [(0, .slice A2 x1.length k3), (1, .int .i64 x4), (2, .int .i64 x5), (37, .slice A2 x1.length k3), (38, .int .i64 (x1.length : Int)), (39, .int .i64 x12), (48, .bool (decide (x97 ≥ 0)))]) ⟨hb 0 _ rfl rfl, hb 1 _ rfl rfl, hb 2 _ rfl rfl, hb 37 _ rfl rfl, hb 38 _ rfl rfl, hb 39 _ rfl rfl, hv 12 _ 48 rfl rfl rfl, trivial⟩
          rcases ifE H with ⟨h98, H⟩ | ⟨h98, H⟩
          · refine cdT T rfl h98 ?_
            refine Gets.seq ?_
            refine rg ?_
            refine r_pv T rfl rfl fun _ T => ?_
            refine r_pv T rfl rfl fun _ T => ?_
            replace S := S.nil ku8 .own
            replace H := Option.some.inj H
            subst H
            exact rtn T Try.func7 rfl rfl ⟨none, 0, rfl, (S.only (p := [sl .own ku8 none 0 ([] : List Int), sl .ro kapi_Entry A2 k3 x1]) [0, 6] rfl)⟩
          · refine cdF T rfl h98 ?_
            refine Gets.skip (Gets.inBlock (Gets.inBlock ?_))
            exact J6_ok F r z x1 A2 k3 x4 x5 x12 (L2 z x1 x4 x5 m) ih _ _ (T.sub ⟨rfl, rfl, rfl, rfl, rfl, rfl, trivial⟩) (S.only (p := [sl .ro kapi_Entry A2 k3 x1]) [6] rfl) H
        · refine Gets.drawn (l := [sl .ro ku8 A82 k83 ((gi dapi_Entry x1 x12).Key), sl .ro ku8 A84 k85 ((gi dapi_Entry x1 x12).Value), blk b86 [.slice A82 (((gi dapi_Entry x1 x12).Key).length) k83, .int .u64 ((gi dapi_Entry x1 x12).Seq), .bool ((gi dapi_Entry x1 x12).Del), .slice A84 (((gi dapi_Entry x1 x12).Value).length) k85], sl .ro kapi_Entry A2 k3 x1]) (V := [some (.int .i64 x12, true), some (.bool (decide (x12 > 0)), true), some (.bool (decide (x12 > 0)), true), some (undef, true), some (undef, true), some (undef, true), some (undef, true), some (undef, true), some (undef, true), some (undef, true), some (undef, true), some (.bool false, true), some (.bool false, true)]) mixed T S rfl ?_
          refine stage none rfl rfl ⟨⟨_, [(8, .int .i64 x12)], rfl, ⟨.inr ⟨rfl, rfl⟩, trivial⟩, fun u a w T S => (by refine r_pv T rfl rfl fun _ T => ?_; exact ⟨rfl, T⟩)⟩, ⟨_, [(49, .int .i64 x12)], rfl, ⟨.inl ⟨0, rfl, rfl, rfl, rfl⟩, trivial⟩, fun u a w T S => (by refine r_pv T rfl rfl fun _ T => ?_; exact ⟨rfl, T⟩)⟩, ⟨_, [(50, .bool (decide (x12 > 0)))], rfl, ⟨.inl ⟨1, rfl, rfl, rfl, rfl⟩, trivial⟩, fun u a w T S => (by refine r_pv T rfl rfl fun _ T => ?_; exact ⟨rfl, T⟩)⟩, ⟨_, [(0, .slice A2 x1.length k3), (51, .bool (decide (x12 > 0)))], rfl, ⟨.inr ⟨rfl, rfl⟩, .inl ⟨2, rfl, rfl, rfl, rfl⟩, trivial⟩, fun u a w T S => (by refine g_no T rfl rfl h90 rfl fun _ T => ?_; exact ⟨rfl, T⟩)⟩, ⟨_, [(8, .int .i64 x12), (51, .bool (decide (x12 > 0)))], rfl, ⟨.inr ⟨rfl, rfl⟩, .inl ⟨2, rfl, rfl, rfl, rfl⟩, trivial⟩, fun u a w T S => (by refine g_no T rfl rfl h90 rfl fun _ T => ?_; exact ⟨rfl, T⟩)⟩, ⟨_, [(53, undef), (51, .bool (decide (x12 > 0)))], rfl, ⟨.inl ⟨4, rfl, rfl, rfl, rfl⟩, .inl ⟨2, rfl, rfl, rfl, rfl⟩, trivial⟩, fun u a w T S => (by refine g_no T rfl rfl h90 rfl fun _ T => ?_; exact ⟨rfl, T⟩)⟩, ⟨_, [(52, undef), (54, undef), (51, .bool (decide (x12 > 0)))], rfl, ⟨.inl ⟨3, rfl, rfl, rfl, rfl⟩, .inl ⟨5, rfl, rfl, rfl, rfl⟩, .inl ⟨2, rfl, rfl, rfl, rfl⟩, trivial⟩, fun u a w T S => (by refine g_no T rfl rfl h90 rfl fun _ T => ?_; exact ⟨rfl, T⟩)⟩, ⟨_, [(55, undef), (51, .bool (decide (x12 > 0)))], rfl, ⟨.inl ⟨6, rfl, rfl, rfl, rfl⟩, .inl ⟨2, rfl, rfl, rfl, rfl⟩, trivial⟩, fun u a w T S => (by refine g_no T rfl rfl h90 rfl fun _ T => ?_; exact ⟨rfl, T⟩)⟩, ⟨_, [(9, .pointer (some ⟨b86, 0, none⟩)), (51, .bool (decide (x12 > 0)))], rfl, ⟨.inr ⟨rfl, rfl⟩, .inl ⟨2, rfl, rfl, rfl, rfl⟩, trivial⟩, fun u a w T S => (by refine g_no T rfl rfl h90 rfl fun _ T => ?_; exact ⟨rfl, T⟩)⟩, ⟨_, [(56, undef), (57, undef), (51, .bool (decide (x12 > 0)))], rfl, ⟨.inl ⟨7, rfl, rfl, rfl, rfl⟩, .inl ⟨8, rfl, rfl, rfl, rfl⟩, .inl ⟨2, rfl, rfl, rfl, rfl⟩, trivial⟩, fun u a w T S => (by refine g_no T rfl rfl h90 rfl fun _ T => ?_; exact ⟨rfl, T⟩)⟩, ⟨_, [(58, undef), (51, .bool (decide (x12 > 0)))], rfl, ⟨.inl ⟨9, rfl, rfl, rfl, rfl⟩, .inl ⟨2, rfl, rfl, rfl, rfl⟩, trivial⟩, fun u a w T S => (by refine g_no T rfl rfl h90 rfl fun _ T => ?_; exact ⟨rfl, T⟩)⟩, ⟨_, [(51, .bool (decide (x12 > 0))), (59, undef)], rfl, ⟨.inl ⟨2, rfl, rfl, rfl, rfl⟩, .inl ⟨10, rfl, rfl, rfl, rfl⟩, trivial⟩, fun u a w T S => (by refine r_pickF T rfl h90 rfl rfl fun _ T => ?_; exact ⟨rfl, T⟩)⟩, ⟨_, [(60, .bool false)], rfl, ⟨.inl ⟨11, rfl, rfl, rfl, rfl⟩, trivial⟩, fun u a w T S => (by refine r_pv T rfl rfl fun _ T => ?_; exact ⟨rfl, T⟩)⟩, trivial⟩ rfl (fun i hi => by cases hi) (fun _ _ a w T hv hb S => ?_)
          replace T := T.sub (r := [(0, .slice A2 x1.length k3), (1, .int .i64 x4), (2, .int .i64 x5), (37, .slice A2 x1.length k3), (38, .int .i64 (x1.length : Int)), (39, .int .i64 x12), (48, .bool false)]) ⟨hb 0 _ rfl rfl, hb 1 _ rfl rfl, hb 2 _ rfl rfl, hb 37 _ rfl rfl, hb 38 _ rfl rfl, hb 39 _ rfl rfl, hv 12 _ 48 rfl rfl rfl, trivial⟩
          refine cdF T rfl rfl ?_
          refine Gets.skip (Gets.inBlock (Gets.inBlock ?_))
          exact J6_ok F r z x1 A2 k3 x4 x5 x12 (L2 z x1 x4 x5 m) ih _ _ (T.sub ⟨rfl, rfl, rfl, rfl, rfl, rfl, trivial⟩) (S.only (p := [sl .ro kapi_Entry A2 k3 x1]) [3] rfl) H
    · refine cdF T rfl h13 ?_
      refine Gets.exit rfl (Gets.seq ?_)
      refine rg ?_
      refine r_build (cs := #[.slice none 0 0, .slice none 0 0, .slice none 0 0, .int .i64 0, .int .i64 0, .slice none 0 0]) T stt61 rfl rfl rfl fun _ T => ?_
      refine r_box T S rfl (cs := [.slice none 0 0, .slice none 0 0, .slice none 0 0, .int .i64 0, .int .i64 0, .slice none 0 0]) rfl rfl fun _ _ b14 S T => ?_
      refine r_pv T rfl rfl fun _ T => ?_
      refine Gets.seq ?_
      refine rg ?_
      refine r_pv T rfl rfl fun _ T => ?_
      refine Gets.seq (Gets.seq ?_)
      refine rg ?_
      refine r_pv T rfl rfl fun _ T => ?_
      refine r_lenS T rfl Try.runUnderlying22 rfl fun _ T => ?_
      refine r_pv T rfl rfl fun _ T => ?_
      refine Gets.block ?_
      refine Gets.loop ?_
      replace S := S.nil ku8 .own
      replace S := S.nil ku8 .ro
      replace S := S.nil ku8 .own
      replace S := S.nil ku8 .ro
      replace S := S.nil (kSl ku8) .own
      exact L3_ok F r z x1 A2 k3 x4 x5 b14 z none [] 0 0 none [] 0 none [] 0 none [] 0 0 0 none [] 0 _ _ (T.sub ⟨rfl, rfl, rfl, rfl, rfl, rfl, rfl, rfl, trivial⟩) (S.only (p := [sl .ro kapi_Entry A2 k3 x1, blk b14 [.slice none 0 0, .slice none 0 0, .slice none 0 0, .int .i64 0, .int .i64 0, .slice none 0 0], sl .own ku8 none 0 [], sl .ro ku8 none 0 [], sl .own ku8 none 0 [], sl .ro ku8 none 0 [], sl .own (kSl ku8) none 0 []]) [6, 5, 4, 3, 2, 1, 0] rfl) H
theorem J1_ok (F : List Atom) (r : (List Int) × Int) (z : Nat) (x1 : List api_Entry) (A2 : Option Addr) (k3 : Nat) (x4 : Int) (x5 : Int) (a : Act) (w : World) (T : Tm 112 [] a) (S : SL ([sl .ro kapi_Entry A2 k3 x1] ++ F) w) (H : J1 z = some r) : Gets Try.prog 7 ptJ1 a w (R F x1 A2 k3 r) := by
  refine rg ?_
  refine r_pv T rfl rfl fun _ T => ?_
  refine r_pv T rfl rfl fun _ T => ?_
  replace S := S.nil ku8 .own
  replace H := Option.some.inj H
  subst H
  exact rtn T Try.func7 rfl rfl ⟨none, 0, rfl, (S.only (p := [sl .own ku8 none 0 ([] : List Int), sl .ro kapi_Entry A2 k3 x1]) [0, 0] rfl)⟩
theorem J0_ok (F : List Atom) (r : (List Int) × Int) (z : Nat) (x1 : List api_Entry) (A2 : Option Addr) (k3 : Nat) (x4 : Int) (x5 : Int) (a : Act) (w : World) (T : Tm 112 [] a) (S : SL ([sl .ro kapi_Entry A2 k3 x1] ++ F) w) (H : J0 z = some r) : Gets Try.prog 7 ptJ0 a w (R F x1 A2 k3 r) := by
  refine rg ?_
  refine r_pv T rfl rfl fun _ T => ?_
  refine r_pv T rfl rfl fun _ T => ?_
  replace S := S.nil ku8 .own
  replace H := Option.some.inj H
  subst H
  exact rtn T Try.func7 rfl rfl ⟨none, 0, rfl, (S.only (p := [sl .own ku8 none 0 ([] : List Int), sl .ro kapi_Entry A2 k3 x1]) [0, 0] rfl)⟩
theorem ok (F : List Atom) (w : World) (z : Nat) (x1 : List api_Entry) (x4 : Int) (x5 : Int) {A2 : Option Addr} {k3 : Nat} (S : SL ([sl .ro kapi_Entry A2 k3 x1] ++ F) w) (r : (List Int) × Int) (H : f z x1 x4 x5 = some r) : Calls Try.prog 7 #[.slice A2 x1.length k3, .int .i64 x4, .int .i64 x5] w (R F x1 A2 k3 r) := by
  refine enter (vs := [.slice A2 x1.length k3, .int .i64 x4, .int .i64 x5]) Try.func7 rfl Try.ntmps7 (Nat.le_of_ble_eq_true rfl) fun a T => ?_
  refine Gets.seq ?_
  refine rg ?_
  refine r_pv T rfl rfl fun _ T => ?_
  refine r_pv T rfl rfl fun _ T => ?_
  refine Gets.seq (Gets.seq ?_)
  refine rg ?_
  refine r_pv T rfl rfl fun _ T => ?_
  refine r_pv T rfl rfl fun _ T => ?_
  refine r_pv T rfl rfl fun _ T => ?_
  rcases ifE H with ⟨h6, H⟩ | ⟨h6, H⟩
  · refine g_no T rfl rfl h6 rfl fun _ T => ?_
    refine g_no T rfl rfl h6 rfl fun _ T => ?_
    refine r_pickT T rfl h6 rfl rfl fun _ T => ?_
    refine r_pv T rfl rfl fun _ T => ?_
    refine g_no T rfl rfl rfl rfl fun _ T => ?_
    refine g_no T rfl rfl rfl rfl fun _ T => ?_
    refine r_pickT T rfl rfl rfl rfl fun _ T => ?_
    refine r_pv T rfl rfl fun _ T => ?_
    refine g_no T rfl rfl rfl rfl fun _ T => ?_
    refine g_no T rfl rfl rfl rfl fun _ T => ?_
    refine r_pickT T rfl rfl rfl rfl fun _ T => ?_
    refine cdT T rfl rfl ?_
    refine Gets.seq ?_
    exact J0_ok F r z x1 A2 k3 x4 x5 _ _ (T.sub trivial) (S.only (p := [sl .ro kapi_Entry A2 k3 x1]) [0] rfl) H
  · refine g_yes T rfl rfl h6 ?_
    refine r_pv T rfl rfl fun _ T => ?_
    refine g_yes T rfl rfl h6 ?_
    refine r_pv T rfl rfl fun _ T => ?_
    refine r_pickF T rfl h6 rfl rfl fun _ T => ?_
    refine r_pv T rfl rfl fun _ T => ?_
    rcases ifE H with ⟨h7, H⟩ | ⟨h7, H⟩
    · refine g_no T rfl rfl h7 rfl fun _ T => ?_
      refine g_no T rfl rfl h7 rfl fun _ T => ?_
      refine r_pickT T rfl h7 rfl rfl fun _ T => ?_
      refine r_pv T rfl rfl fun _ T => ?_
      refine g_no T rfl rfl rfl rfl fun _ T => ?_
      refine g_no T rfl rfl rfl rfl fun _ T => ?_
      refine r_pickT T rfl rfl rfl rfl fun _ T => ?_
      refine cdT T rfl rfl ?_
      refine Gets.seq ?_
      exact J0_ok F r z x1 A2 k3 x4 x5 _ _ (T.sub trivial) (S.only (p := [sl .ro kapi_Entry A2 k3 x1]) [0] rfl) H
    · refine g_yes T rfl rfl h7 ?_
      refine r_pv T rfl rfl fun _ T => ?_
      refine g_yes T rfl rfl h7 ?_
      refine r_pv T rfl rfl fun _ T => ?_
      refine r_pickF T rfl h7 rfl rfl fun _ T => ?_
      refine r_pv T rfl rfl fun _ T => ?_
      rcases ifE H with ⟨h8, H⟩ | ⟨h8, H⟩
      · refine g_no T rfl rfl h8 rfl fun _ T => ?_
        refine g_no T rfl rfl h8 rfl fun _ T => ?_
        refine r_pickT T rfl h8 rfl rfl fun _ T => ?_
        refine cdT T rfl rfl ?_
        refine Gets.seq ?_
        exact J0_ok F r z x1 A2 k3 x4 x5 _ _ (T.sub trivial) (S.only (p := [sl .ro kapi_Entry A2 k3 x1]) [0] rfl) H
      · refine g_yes T rfl rfl h8 ?_
        refine r_pv T rfl rfl fun _ T => ?_
        refine g_yes T rfl rfl h8 ?_
        refine r_pv T rfl rfl fun _ T => ?_
        refine r_pickF T rfl h8 rfl rfl fun _ T => ?_
        rcases ifE H with ⟨h9, H⟩ | ⟨h9, H⟩
        · refine cdT T rfl h9 ?_
          refine Gets.seq ?_
          exact J0_ok F r z x1 A2 k3 x4 x5 _ _ (T.sub trivial) (S.only (p := [sl .ro kapi_Entry A2 k3 x1]) [0] rfl) H
        · refine cdF T rfl h9 ?_
          refine Gets.skip (Gets.seq (Gets.seq ?_))
          refine rg ?_
          refine r_pv T rfl rfl fun _ T => ?_
          refine r_lenS T rfl Try.runUnderlying22 rfl fun _ T => ?_
          refine r_pv T rfl rfl fun _ T => ?_
          refine r_pv T rfl rfl fun _ T => ?_
          rcases ifE H with ⟨h10, H⟩ | ⟨h10, H⟩
          · refine g_no T rfl rfl h10 rfl fun _ T => ?_
            refine g_no T rfl rfl h10 rfl fun _ T => ?_
            refine g_no T rfl rfl h10 rfl fun _ T => ?_
            refine r_pickT T rfl h10 rfl rfl fun _ T => ?_
            refine cdT T rfl rfl ?_
            refine Gets.seq ?_
            exact J1_ok F r z x1 A2 k3 x4 x5 _ _ (T.sub trivial) (S.only (p := [sl .ro kapi_Entry A2 k3 x1]) [0] rfl) H
          · refine g_yes T rfl rfl h10 ?_
            refine r_pv T rfl rfl fun _ T => ?_
            refine g_yes T rfl rfl h10 ?_
            refine r_lenS T rfl Try.runUnderlying22 rfl fun _ T => ?_
            refine g_yes T rfl rfl h10 ?_
            refine r_pv T rfl rfl fun _ T => ?_
            refine r_pickF T rfl h10 rfl rfl fun _ T => ?_
            rcases ifE H with ⟨h11, H⟩ | ⟨h11, H⟩
            · refine cdT T rfl h11 ?_
              refine Gets.seq ?_
              exact J1_ok F r z x1 A2 k3 x4 x5 _ _ (T.sub trivial) (S.only (p := [sl .ro kapi_Entry A2 k3 x1]) [0] rfl) H
            · refine cdF T rfl h11 ?_
              refine Gets.skip (Gets.seq (Gets.seq ?_))
              refine rg ?_
              refine r_pv T rfl rfl fun _ T => ?_
              refine r_lenS T rfl Try.runUnderlying22 rfl fun _ T => ?_
              refine r_pv T rfl rfl fun _ T => ?_
              refine Gets.block ?_
              refine Gets.loop ?_
              exact L2_ok F r z x1 A2 k3 x4 x5 z 0 _ _ (T.sub ⟨rfl, rfl, rfl, rfl, rfl, rfl, trivial⟩) (S.only (p := [sl .ro kapi_Entry A2 k3 x1]) [0] rfl) H
end sstable_Build
end Go.Proofs.Ytghpokmkhlmgcaa

namespace Go.Proofs.Ytghpokmkhlmgcaa
open Go Go.Proofs.Ytghpokmkhlmgcaa.X
set_option linter.unusedVariables false
set_option linter.unusedSimpArgs false
set_option maxRecDepth 100000
set_option maxHeartbeats 4000000
/-! ### cormorant.sstable.low: function 34 -/
namespace sstable_low
noncomputable def c0 : Code := match Try.f34.body with | some c => c | none => .skip
def R (F : List Atom) (x1 : List Int) (A2 : Option Addr) (k3 : Nat) (m4 : Md) (r : Int) : Ending → World → Prop := fun e w' => e = .returned (.int .i64 r) ∧ SL ([sl m4 ku8 A2 k3 x1] ++ F) w'
def L0 (z : Nat) (x1 : List Int) : Nat → Int → Int → Option Int
  | 0, _, _ => none
  | m + 1, x5, x6 => If (decide (x6 < (x1.length : Int))) (Ck (0 ≤ x6 ∧ x6 < (x1.length : Int)) (L0 z x1 m (bOr .i64 (sShl .i64 x5 8) (wr .i64 (gi (0 : Int) x1 x6))) (wr .i64 (x6 + 1)))) (some x5)
def f (z : Nat) (x1 : List Int) : Option Int := L0 z x1 z 0 0
noncomputable def ptL0 : List Item := [.code (cB (cB (cR (cL (cR (cR c0)))))), .inLoop (cB (cB (cR (cL (cR (cR c0)))))), .inBlock 0, .code (cR (cR (cR c0)))]
theorem L0_ok (F : List Atom) (r : Int) (z : Nat) (x1 : List Int) (A2 : Option Addr) (k3 : Nat) (m4 : Md) (m : Nat) : ∀ (x5 : Int) (x6 : Int) (a : Act) (w : World), Tm 19 [(3, .int .i64 x5), (6, .slice A2 x1.length k3), (7, .int .i64 (x1.length : Int)), (8, .int .i64 x6)] a → SL ([sl m4 ku8 A2 k3 x1] ++ F) w → L0 z x1 m x5 x6 = some r → Gets Try.prog 34 ptL0 a w (R F x1 A2 k3 m4 r) := by
  induction m with
  | zero => intro _ _ _ _ _ _ H; cases H
  | succ m ih =>
    intro x5 x6 a w T S H
    refine Gets.seq ?_
    refine rg ?_
    refine r_pv T rfl rfl fun _ T => ?_
    refine Gets.seq ?_
    rcases ifE H with ⟨h7, H⟩ | ⟨h7, H⟩
    · refine cdT T rfl h7 ?_
      refine Gets.skip (Gets.seq (Gets.block (Gets.seq ?_)))
      refine rg ?_
      obtain ⟨h8, H⟩ := ck H
      refine r_ia (ix := 0) T S rfl rfl rfl rfl Try.runUnderlying24 Try.sizeOf5 h8.1 h8.2 rfl fun _ T => ?_
      refine r_ldE (ix := 0) (i := x6) (off := 0) (f := (Value.int .u8)) T S rfl Try.isAgg5 rfl (0 : Int) _ rfl rfl (Fld.all _) h8.1 h8.2 (fun h => h) rfl fun _ T => ?_
      refine r_pv T rfl rfl fun _ T => ?_
      refine rg ?_
      refine r_pv T rfl rfl fun _ T => ?_
      refine r_shl T rfl rfl (by decide) rfl fun _ T => ?_
      refine r_pv T rfl rfl fun _ T => ?_
      refine r_conv T rfl Try.runUnderlying5 Try.runUnderlying3 rfl fun _ T => ?_
      refine r_pv T rfl rfl fun _ T => ?_
      refine r_pv T rfl rfl fun _ T => ?_
      refine Gets.inBlock ?_
      refine rg ?_
      refine r_pv T rfl rfl fun _ T => ?_
      refine r_pv T rfl rfl fun _ T => ?_
      refine Gets.inLoop ?_
      exact ih (bOr .i64 (sShl .i64 x5 8) (wr .i64 (gi (0 : Int) x1 x6))) (wr .i64 (x6 + 1)) _ _ (T.sub ⟨rfl, rfl, rfl, rfl, trivial⟩) (S.only (p := [sl m4 ku8 A2 k3 x1]) [0] rfl) H
    · refine cdF T rfl h7 ?_
      refine Gets.exit rfl (Gets.seq ?_)
      refine rg ?_
      refine r_pv T rfl rfl fun _ T => ?_
      refine r_pv T rfl rfl fun _ T => ?_
      replace H := Option.some.inj H
      subst H
      exact rtn T Try.func34 rfl rfl ⟨rfl, (S.only (p := [sl m4 ku8 A2 k3 x1]) [0] rfl)⟩
theorem ok (F : List Atom) (w : World) (z : Nat) (x1 : List Int) {A2 : Option Addr} {k3 : Nat} {m4 : Md} (S : SL ([sl m4 ku8 A2 k3 x1] ++ F) w) (r : Int) (H : f z x1 = some r) : Calls Try.prog 34 #[.slice A2 x1.length k3] w (R F x1 A2 k3 m4 r) := by
  refine enter (vs := [.slice A2 x1.length k3]) Try.func34 rfl Try.ntmps34 (Nat.le_of_ble_eq_true rfl) fun a T => ?_
  refine Gets.seq ?_
  refine rg ?_
  refine r_pv T rfl rfl fun _ T => ?_
  refine Gets.seq ?_
  refine rg ?_
  refine r_pv T rfl rfl fun _ T => ?_
  refine Gets.seq (Gets.seq ?_)
  refine rg ?_
  refine r_pv T rfl rfl fun _ T => ?_
  refine r_lenS T rfl Try.runUnderlying24 rfl fun _ T => ?_
  refine r_pv T rfl rfl fun _ T => ?_
  refine Gets.block ?_
  refine Gets.loop ?_
  exact L0_ok F r z x1 A2 k3 m4 z 0 0 _ _ (T.sub ⟨rfl, rfl, rfl, rfl, trivial⟩) (S.only (p := [sl m4 ku8 A2 k3 x1]) [0] rfl) H
end sstable_low
end Go.Proofs.Ytghpokmkhlmgcaa

namespace Go.Proofs.Ytghpokmkhlmgcaa
open Go Go.Proofs.Ytghpokmkhlmgcaa.X
set_option linter.unusedVariables false
set_option linter.unusedSimpArgs false
set_option maxRecDepth 100000
set_option maxHeartbeats 4000000
/-! ### cormorant.sstable.Open: function 8 -/
namespace sstable_Open
noncomputable def c0 : Code := match Try.f8.body with | some c => c | none => .skip
def R (F : List Atom) (x1 : List Int) (A2 : Option Addr) (k3 : Nat) (r : (Option sstable_Table) × Int) : Ending → World → Prop := fun e w' => omP r.1 (e = .returned (.tuple #[.pointer none, .int .i64 r.2]) ∧ SL ([sl .ro ku8 A2 k3 x1] ++ F) w') (fun y => ∃ (b70 : Nat), ∃ (A71 : Option Addr), ∃ (k72 : Nat), ∃ (A73 : Option Addr), ∃ (k74 : Nat), ∃ (A75 : Option Addr), ∃ (k76 : Nat), e = .returned (.tuple #[.pointer (some ⟨b70, 0, none⟩), .int .i64 r.2]) ∧ SL ([blk b70 [.slice A71 y.b.length k72, .slice A73 y.blocks.length k74, .slice A75 y.filter.length k76, .int .i64 y.count, .int .i64 y.reads], sl .ro ku8 A71 k72 y.b, sl .ro ksstable_block A73 k74 y.blocks, sl .ro ku8 A75 k76 y.filter, sl .ro ku8 A2 k3 x1] ++ F) w')
def J4 (z : Nat) : Option ((Option sstable_Table) × Int) := some (none, 44)
def J3 (z : Nat) (x1 : List Int) (x11 : (List Int)) (x14 : List sstable_block) (x17 : List api_Entry) (x20 : Int) : Option ((Option sstable_Table) × Int) := Ck (0 ≤ wr .i64 ((x1.length : Int) - 40) ∧ wr .i64 ((x1.length : Int) - 40) ≤ (x1.length : Int)) (Ck (28 ≤ ((cut x1 (Int.toNat (wr .i64 ((x1.length : Int) - 40))) (Int.toNat (x1.length : Int))).length : Int)) (Ck (32 ≤ ((cut x1 (Int.toNat (wr .i64 ((x1.length : Int) - 40))) (Int.toNat (x1.length : Int))).length : Int)) (Bd (sstable_low.f z (cut (cut x1 (Int.toNat (wr .i64 ((x1.length : Int) - 40))) (Int.toNat (x1.length : Int))) (Int.toNat 24) (Int.toNat 28))) fun x53 => Bd (sstable_low.f z (cut (cut x1 (Int.toNat (wr .i64 ((x1.length : Int) - 40))) (Int.toNat (x1.length : Int))) (Int.toNat 28) (Int.toNat 32))) fun x55 => Bd (sstable_Build.f z x17 x53 x55) fun x57 => If (x57.2 != 0) (J4 z) (Bd (bytes_Equal.f x57.1 x1) fun x62 => If (!x62) (J4 z) (Ck (0 ≤ x20 ∧ x20 ≤ (x1.length : Int)) (Bd (codec_TakeFrame.f z (cut x1 (Int.toNat x20) (Int.toNat (x1.length : Int)))) fun x67 => some ((some (sstable_Table.mk x11 x14 x67.2.1 (x17.length : Int) 0)), 0)))))))
def J2 (z : Nat) : Option ((Option sstable_Table) × Int) := some (none, 44)
def L1 (z : Nat) (x1 : List Int) (x11 : (List Int)) : Nat → (List api_Entry) → Int → (List sstable_block) → Option ((Option sstable_Table) × Int)
  | 0, _, _, _ => none
  | m + 1, x17, x20, x14 => If (decide (x20 < (x1.length : Int))) (Ck (0 ≤ x20 ∧ x20 < (x1.length : Int)) (If ((gi (0 : Int) x1 x20) == 68) (Ck (x20 ≤ (x1.length : Int)) (Bd (sstable_entries.f z (cut x1 (Int.toNat x20) (Int.toNat (x1.length : Int)))) fun x28 => If (!x28.2.2) (J2 z) (If ((x28.1.length : Int) == 0) (J2 z) (Ck (0 < (x28.1.length : Int)) (Ck (0 ≤ wr .i64 ((x28.1.length : Int) - 1) ∧ wr .i64 ((x28.1.length : Int) - 1) < (x28.1.length : Int)) (Ck ((x14.length + [(sstable_block.mk x20 (wr .i64 (x20 + x28.2.1)) (x28.1.length : Int) ((gi dapi_Entry x28.1 0).Key) ((gi dapi_Entry x28.1 (wr .i64 ((x28.1.length : Int) - 1))).Key))].length) * 72 ≤ 140737488355328) (Ck ((x17.length + x28.1.length) * 64 ≤ 140737488355328) (L1 z x1 x11 m (x17 ++ x28.1) (wr .i64 (x20 + x28.2.1)) (x14 ++ [(sstable_block.mk x20 (wr .i64 (x20 + x28.2.1)) (x28.1.length : Int) ((gi dapi_Entry x28.1 0).Key) ((gi dapi_Entry x28.1 (wr .i64 ((x28.1.length : Int) - 1))).Key))]))))))))) (J3 z x1 x11 x14 x17 x20))) (J3 z x1 x11 x14 x17 x20)
def J0 (z : Nat) : Option ((Option sstable_Table) × Int) := some (none, 44)
def f (z : Nat) (x1 : List Int) : Option ((Option sstable_Table) × Int) := If (decide ((x1.length : Int) < 40)) (J0 z) (If (decide ((x1.length : Int) > 4194304)) (J0 z) (Bd (bytes_Clone.f x1) fun x7 => Bd (slices_Clip_byte.f x7) fun x11 => L1 z x1 x11 z [] 0 []))
noncomputable def ptJ4 : List Item := [.code (cL (cT (cR (cL (cR (cR (cR (cR (cR (cR (cR (cR c0)))))))))))), .code (cR (cT (cR (cL (cR (cR (cR (cR (cR (cR (cR (cR c0)))))))))))), .code (cR (cR (cR (cR (cR (cR (cR (cR (cR c0)))))))))]
noncomputable def ptJ3 : List Item := [.code (cL (cR (cR (cR (cR (cR (cR c0))))))), .code (cR (cR (cR (cR (cR (cR (cR c0)))))))]
noncomputable def ptJ2 : List Item := [.code (cL (cT (cR (cL (cR (cB (cR (cB (cB (cL (cR (cR (cR (cR (cR c0))))))))))))))), .code (cR (cT (cR (cL (cR (cB (cR (cB (cB (cL (cR (cR (cR (cR (cR c0))))))))))))))), .code (cR (cR (cB (cR (cB (cB (cL (cR (cR (cR (cR (cR c0)))))))))))), .inBlock 1, .inLoop (cB (cB (cL (cR (cR (cR (cR (cR c0)))))))), .inBlock 0, .code (cR (cR (cR (cR (cR (cR c0))))))]
noncomputable def ptL1 : List Item := [.code (cB (cB (cL (cR (cR (cR (cR (cR c0)))))))), .inLoop (cB (cB (cL (cR (cR (cR (cR (cR c0)))))))), .inBlock 0, .code (cR (cR (cR (cR (cR (cR c0))))))]
noncomputable def ptJ0 : List Item := [.code (cL (cT (cR (cL (cR c0))))), .code (cR (cT (cR (cL (cR c0))))), .code (cR (cR c0))]
theorem J4_ok (F : List Atom) (r : (Option sstable_Table) × Int) (z : Nat) (x1 : List Int) (A2 : Option Addr) (k3 : Nat) (a : Act) (w : World) (T : Tm 127 [] a) (S : SL ([sl .ro ku8 A2 k3 x1] ++ F) w) (H : J4 z = some r) : Gets Try.prog 8 ptJ4 a w (R F x1 A2 k3 r) := by
  refine rg ?_
  refine r_pv T rfl rfl fun _ T => ?_
  refine r_pv T rfl rfl fun _ T => ?_
  replace H := Option.some.inj H
  subst H
  exact rtn T Try.func8 rfl rfl ⟨rfl, (S.only (p := [sl .ro ku8 A2 k3 x1]) [0] rfl)⟩
theorem J3_ok (F : List Atom) (r : (Option sstable_Table) × Int) (z : Nat) (x1 : List Int) (A2 : Option Addr) (k3 : Nat) (b13 : Nat) (A18 : Option Addr) (x17 : List api_Entry) (k19 : Nat) (x20 : Int) (A12 : Option Addr) (x11 : (List Int)) (A15 : Option Addr) (x14 : List sstable_block) (k16 : Nat) (a : Act) (w : World) (T : Tm 127 [(0, .slice A2 x1.length k3), (4, .pointer (some ⟨b13, 0, none⟩)), (5, .slice A18 x17.length k19), (6, .int .i64 x20)] a) (S : SL ([sl .ro ku8 A2 k3 x1, blk b13 [.slice A12 x11.length x11.length, .slice A15 x14.length k16, .slice none 0 0, .int .i64 0, .int .i64 0], sl .own ku8 A12 x11.length x11, sl .own ksstable_block A15 k16 x14, sl .own kapi_Entry A18 k19 x17] ++ F) w) (H : J3 z x1 x11 x14 x17 x20 = some r) : Gets Try.prog 8 ptJ3 a w (R F x1 A2 k3 r) := by
  refine rg ?_
  refine r_pv T rfl rfl fun _ T => ?_
  refine r_pv T rfl rfl fun _ T => ?_
  refine r_lenS T rfl Try.runUnderlying24 rfl fun _ T => ?_
  refine r_pv T rfl rfl fun _ T => ?_
  have h46 := S.len (i := 0) rfl
  obtain ⟨h47, H⟩ := ck H
  refine r_slR (ix := 0) (xs := x1) T S rfl rfl (fun h => by cases h) rfl rfl rfl h47.1 h47.2 (Int.le_refl _) (by omega) (by omega) Try.runUnderlying24 Try.sizeOf5 rfl fun _ A48 S T => ?_
  refine r_pv T rfl rfl fun _ T => ?_
  refine Gets.seq ?_
  have h49 := S.len (i := 0) rfl
  obtain ⟨h50, H⟩ := ck H
  replace S := S.cutR (ix := 0) (i := 24) (j := 28) (k := (((Int.toNat (k3 : Int) - Int.toNat (wr .i64 ((x1.length : Int) - 40))) : Nat) : Int)) rfl (by decide) (by decide) h50 (by have := h50; omega) (by omega)
  obtain ⟨h51, H⟩ := ck H
  replace S := S.cutR (ix := 1) (i := 28) (j := 32) (k := (((Int.toNat (k3 : Int) - Int.toNat (wr .i64 ((x1.length : Int) - 40))) : Nat) : Int)) rfl (by decide) (by decide) h51 (by have := h51; omega) (by omega)
  refine Gets.drawn (l := [sl .ro ku8 (slA A48 (Int.toNat (((Int.toNat (k3 : Int) - Int.toNat (wr .i64 ((x1.length : Int) - 40))) : Nat) : Int)) (Int.toNat 28) 1) (Int.toNat (((Int.toNat (k3 : Int) - Int.toNat (wr .i64 ((x1.length : Int) - 40))) : Nat) : Int) - Int.toNat 28) (cut (cut x1 (Int.toNat (wr .i64 ((x1.length : Int) - 40))) (Int.toNat (x1.length : Int))) (Int.toNat 28) (Int.toNat 32)), sl .ro ku8 (slA A48 (Int.toNat (((Int.toNat (k3 : Int) - Int.toNat (wr .i64 ((x1.length : Int) - 40))) : Nat) : Int)) (Int.toNat 24) 1) (Int.toNat (((Int.toNat (k3 : Int) - Int.toNat (wr .i64 ((x1.length : Int) - 40))) : Nat) : Int) - Int.toNat 24) (cut (cut x1 (Int.toNat (wr .i64 ((x1.length : Int) - 40))) (Int.toNat (x1.length : Int))) (Int.toNat 24) (Int.toNat 28)), sl .ro ku8 A48 (Int.toNat (k3 : Int) - Int.toNat (wr .i64 ((x1.length : Int) - 40))) (cut x1 (Int.toNat (wr .i64 ((x1.length : Int) - 40))) (Int.toNat (x1.length : Int))), sl .ro ku8 A2 k3 x1, blk b13 [.slice A12 x11.length x11.length, .slice A15 x14.length k16, .slice none 0 0, .int .i64 0, .int .i64 0], sl .own ku8 A12 x11.length x11, sl .own ksstable_block A15 k16 x14, sl .own kapi_Entry A18 k19 x17]) (V := [some (.slice A18 x17.length k19, true), some (.slice A48 ((cut x1 (Int.toNat (wr .i64 ((x1.length : Int) - 40))) (Int.toNat (x1.length : Int))).length) (Int.toNat (k3 : Int) - Int.toNat (wr .i64 ((x1.length : Int) - 40))), true), some (.slice (slA A48 (Int.toNat (((Int.toNat (k3 : Int) - Int.toNat (wr .i64 ((x1.length : Int) - 40))) : Nat) : Int)) (Int.toNat 24) 1) ((cut (cut x1 (Int.toNat (wr .i64 ((x1.length : Int) - 40))) (Int.toNat (x1.length : Int))) (Int.toNat 24) (Int.toNat 28)).length) (Int.toNat (((Int.toNat (k3 : Int) - Int.toNat (wr .i64 ((x1.length : Int) - 40))) : Nat) : Int) - Int.toNat 24), true), none, some (.slice A48 ((cut x1 (Int.toNat (wr .i64 ((x1.length : Int) - 40))) (Int.toNat (x1.length : Int))).length) (Int.toNat (k3 : Int) - Int.toNat (wr .i64 ((x1.length : Int) - 40))), true), some (.slice (slA A48 (Int.toNat (((Int.toNat (k3 : Int) - Int.toNat (wr .i64 ((x1.length : Int) - 40))) : Nat) : Int)) (Int.toNat 28) 1) ((cut (cut x1 (Int.toNat (wr .i64 ((x1.length : Int) - 40))) (Int.toNat (x1.length : Int))) (Int.toNat 28) (Int.toNat 32)).length) (Int.toNat (((Int.toNat (k3 : Int) - Int.toNat (wr .i64 ((x1.length : Int) - 40))) : Nat) : Int) - Int.toNat 28), true), none, none, none, none, none, none, none]) mixed T S rfl ?_
  refine stage (some 3) rfl rfl ⟨⟨_, [(5, .slice A18 x17.length k19)], rfl, ⟨.inr ⟨rfl, rfl⟩, trivial⟩, fun u a w T S => (by refine r_pv T rfl rfl fun _ T => ?_; exact ⟨rfl, T⟩)⟩, ⟨_, [(10, .slice A48 ((cut x1 (Int.toNat (wr .i64 ((x1.length : Int) - 40))) (Int.toNat (x1.length : Int))).length) (Int.toNat (k3 : Int) - Int.toNat (wr .i64 ((x1.length : Int) - 40))))], rfl, ⟨.inr ⟨rfl, rfl⟩, trivial⟩, fun u a w T S => (by refine r_pv T rfl rfl fun _ T => ?_; exact ⟨rfl, T⟩)⟩, ⟨_, [(92, .slice A48 ((cut x1 (Int.toNat (wr .i64 ((x1.length : Int) - 40))) (Int.toNat (x1.length : Int))).length) (Int.toNat (k3 : Int) - Int.toNat (wr .i64 ((x1.length : Int) - 40))))], rfl, ⟨.inl ⟨1, rfl, rfl, rfl, rfl⟩, trivial⟩, fun u a w T S => (by refine r_slQ (xs := (cut x1 (Int.toNat (wr .i64 ((x1.length : Int) - 40))) (Int.toNat (x1.length : Int)))) T rfl (fun h => by cases h) rfl rfl rfl (by decide) (by decide) h50 (by have := h50; omega) (by omega) Try.runUnderlying24 Try.sizeOf5 rfl fun _ T => ?_; exact ⟨rfl, T⟩)⟩, ⟨_, [(10, .slice A48 ((cut x1 (Int.toNat (wr .i64 ((x1.length : Int) - 40))) (Int.toNat (x1.length : Int))).length) (Int.toNat (k3 : Int) - Int.toNat (wr .i64 ((x1.length : Int) - 40))))], rfl, ⟨.inr ⟨rfl, rfl⟩, trivial⟩, fun u a w T S => (by refine r_pv T rfl rfl fun _ T => ?_; exact ⟨rfl, T⟩)⟩, ⟨_, [(95, .slice A48 ((cut x1 (Int.toNat (wr .i64 ((x1.length : Int) - 40))) (Int.toNat (x1.length : Int))).length) (Int.toNat (k3 : Int) - Int.toNat (wr .i64 ((x1.length : Int) - 40))))], rfl, ⟨.inl ⟨4, rfl, rfl, rfl, rfl⟩, trivial⟩, fun u a w T S => (by refine r_slQ (xs := (cut x1 (Int.toNat (wr .i64 ((x1.length : Int) - 40))) (Int.toNat (x1.length : Int)))) T rfl (fun h => by cases h) rfl rfl rfl (by decide) (by decide) h51 (by have := h51; omega) (by omega) Try.runUnderlying24 Try.sizeOf5 rfl fun _ T => ?_; exact ⟨rfl, T⟩)⟩, trivial⟩ rfl (fun i hi => ?_) (fun h => by cases h)
  cases hi
  refine ⟨rfl, _, [(93, .slice (slA A48 (Int.toNat (((Int.toNat (k3 : Int) - Int.toNat (wr .i64 ((x1.length : Int) - 40))) : Nat) : Int)) (Int.toNat 24) 1) ((cut (cut x1 (Int.toNat (wr .i64 ((x1.length : Int) - 40))) (Int.toNat (x1.length : Int))) (Int.toNat 24) (Int.toNat 28)).length) (Int.toNat (((Int.toNat (k3 : Int) - Int.toNat (wr .i64 ((x1.length : Int) - 40))) : Nat) : Int) - Int.toNat 24))], rfl, ⟨.inl ⟨2, rfl, rfl, rfl, rfl⟩, trivial⟩, fun u a w T S => ?_⟩
  obtain ⟨x53, h52, H⟩ := bd H
  refine r_call T Try.call34 rfl rfl (sstable_low.ok _ _ z (cut (cut x1 (Int.toNat (wr .i64 ((x1.length : Int) - 40))) (Int.toNat (x1.length : Int))) (Int.toNat 24) (Int.toNat 28)) (S.sel (p := [sl .ro ku8 (slA A48 (Int.toNat (((Int.toNat (k3 : Int) - Int.toNat (wr .i64 ((x1.length : Int) - 40))) : Nat) : Int)) (Int.toNat 24) 1) (Int.toNat (((Int.toNat (k3 : Int) - Int.toNat (wr .i64 ((x1.length : Int) - 40))) : Nat) : Int) - Int.toNat 24) (cut (cut x1 (Int.toNat (wr .i64 ((x1.length : Int) - 40))) (Int.toNat (x1.length : Int))) (Int.toNat 24) (Int.toNat 28))]) (is := [1]) rfl) _ h52) ?_
  rintro _ _ ⟨rfl, S⟩
  refine ⟨_, rfl, fun _ T => ?_⟩
  replace S : SL ([sl .ro ku8 (slA A48 (Int.toNat (((Int.toNat (k3 : Int) - Int.toNat (wr .i64 ((x1.length : Int) - 40))) : Nat) : Int)) (Int.toNat 24) 1) (Int.toNat (((Int.toNat (k3 : Int) - Int.toNat (wr .i64 ((x1.length : Int) - 40))) : Nat) : Int) - Int.toNat 24) (cut (cut x1 (Int.toNat (wr .i64 ((x1.length : Int) - 40))) (Int.toNat (x1.length : Int))) (Int.toNat 24) (Int.toNat 28)), sl .ro ku8 (slA A48 (Int.toNat (((Int.toNat (k3 : Int) - Int.toNat (wr .i64 ((x1.length : Int) - 40))) : Nat) : Int)) (Int.toNat 28) 1) (Int.toNat (((Int.toNat (k3 : Int) - Int.toNat (wr .i64 ((x1.length : Int) - 40))) : Nat) : Int) - Int.toNat 28) (cut (cut x1 (Int.toNat (wr .i64 ((x1.length : Int) - 40))) (Int.toNat (x1.length : Int))) (Int.toNat 28) (Int.toNat 32)), sl .ro ku8 A48 (Int.toNat (k3 : Int) - Int.toNat (wr .i64 ((x1.length : Int) - 40))) (cut x1 (Int.toNat (wr .i64 ((x1.length : Int) - 40))) (Int.toNat (x1.length : Int))), sl .ro ku8 A2 k3 x1, blk b13 [.slice A12 x11.length x11.length, .slice A15 x14.length k16, .slice none 0 0, .int .i64 0, .int .i64 0], sl .own ku8 A12 x11.length x11, sl .own ksstable_block A15 k16 x14, sl .own kapi_Entry A18 k19 x17] ++ F) _ := S.join
  refine ⟨_, [some (.slice A18 x17.length k19, true), some (.slice A48 ((cut x1 (Int.toNat (wr .i64 ((x1.length : Int) - 40))) (Int.toNat (x1.length : Int))).length) (Int.toNat (k3 : Int) - Int.toNat (wr .i64 ((x1.length : Int) - 40))), true), some (.slice (slA A48 (Int.toNat (((Int.toNat (k3 : Int) - Int.toNat (wr .i64 ((x1.length : Int) - 40))) : Nat) : Int)) (Int.toNat 24) 1) ((cut (cut x1 (Int.toNat (wr .i64 ((x1.length : Int) - 40))) (Int.toNat (x1.length : Int))) (Int.toNat 24) (Int.toNat 28)).length) (Int.toNat (((Int.toNat (k3 : Int) - Int.toNat (wr .i64 ((x1.length : Int) - 40))) : Nat) : Int) - Int.toNat 24), false), some (.int .i64 x53, false), some (.slice A48 ((cut x1 (Int.toNat (wr .i64 ((x1.length : Int) - 40))) (Int.toNat (x1.length : Int))).length) (Int.toNat (k3 : Int) - Int.toNat (wr .i64 ((x1.length : Int) - 40))), true), some (.slice (slA A48 (Int.toNat (((Int.toNat (k3 : Int) - Int.toNat (wr .i64 ((x1.length : Int) - 40))) : Nat) : Int)) (Int.toNat 28) 1) ((cut (cut x1 (Int.toNat (wr .i64 ((x1.length : Int) - 40))) (Int.toNat (x1.length : Int))) (Int.toNat 28) (Int.toNat 32)).length) (Int.toNat (((Int.toNat (k3 : Int) - Int.toNat (wr .i64 ((x1.length : Int) - 40))) : Nat) : Int) - Int.toNat 28), true), none, none, none, none, none, none, none], [sl .ro ku8 (slA A48 (Int.toNat (((Int.toNat (k3 : Int) - Int.toNat (wr .i64 ((x1.length : Int) - 40))) : Nat) : Int)) (Int.toNat 24) 1) (Int.toNat (((Int.toNat (k3 : Int) - Int.toNat (wr .i64 ((x1.length : Int) - 40))) : Nat) : Int) - Int.toNat 24) (cut (cut x1 (Int.toNat (wr .i64 ((x1.length : Int) - 40))) (Int.toNat (x1.length : Int))) (Int.toNat 24) (Int.toNat 28)), sl .ro ku8 (slA A48 (Int.toNat (((Int.toNat (k3 : Int) - Int.toNat (wr .i64 ((x1.length : Int) - 40))) : Nat) : Int)) (Int.toNat 28) 1) (Int.toNat (((Int.toNat (k3 : Int) - Int.toNat (wr .i64 ((x1.length : Int) - 40))) : Nat) : Int) - Int.toNat 28) (cut (cut x1 (Int.toNat (wr .i64 ((x1.length : Int) - 40))) (Int.toNat (x1.length : Int))) (Int.toNat 28) (Int.toNat 32)), sl .ro ku8 A48 (Int.toNat (k3 : Int) - Int.toNat (wr .i64 ((x1.length : Int) - 40))) (cut x1 (Int.toNat (wr .i64 ((x1.length : Int) - 40))) (Int.toNat (x1.length : Int))), sl .ro ku8 A2 k3 x1, blk b13 [.slice A12 x11.length x11.length, .slice A15 x14.length k16, .slice none 0 0, .int .i64 0, .int .i64 0], sl .own ku8 A12 x11.length x11, sl .own ksstable_block A15 k16 x14, sl .own kapi_Entry A18 k19 x17], rfl, ⟨.inr ⟨_, _, _, rfl, rfl⟩, .inr ⟨_, _, _, rfl, rfl⟩, .inr ⟨_, _, _, rfl, rfl⟩, .inl rfl, .inr ⟨_, _, _, rfl, rfl⟩, .inr ⟨_, _, _, rfl, rfl⟩, .inl rfl, .inl rfl, .inl rfl, .inl rfl, .inl rfl, .inl rfl, .inl rfl, trivial⟩, rfl, ?_, T, S⟩
  refine stage (some 6) rfl rfl ⟨⟨_, [(5, .slice A18 x17.length k19)], rfl, ⟨.inr ⟨rfl, rfl⟩, trivial⟩, fun u a w T S => (by refine r_pv T rfl rfl fun _ T => ?_; exact ⟨rfl, T⟩)⟩, ⟨_, [(10, .slice A48 ((cut x1 (Int.toNat (wr .i64 ((x1.length : Int) - 40))) (Int.toNat (x1.length : Int))).length) (Int.toNat (k3 : Int) - Int.toNat (wr .i64 ((x1.length : Int) - 40))))], rfl, ⟨.inr ⟨rfl, rfl⟩, trivial⟩, fun u a w T S => (by refine r_pv T rfl rfl fun _ T => ?_; exact ⟨rfl, T⟩)⟩, ⟨_, [(10, .slice A48 ((cut x1 (Int.toNat (wr .i64 ((x1.length : Int) - 40))) (Int.toNat (x1.length : Int))).length) (Int.toNat (k3 : Int) - Int.toNat (wr .i64 ((x1.length : Int) - 40))))], rfl, ⟨.inr ⟨rfl, rfl⟩, trivial⟩, fun u a w T S => (by refine r_pv T rfl rfl fun _ T => ?_; exact ⟨rfl, T⟩)⟩, ⟨_, [(95, .slice A48 ((cut x1 (Int.toNat (wr .i64 ((x1.length : Int) - 40))) (Int.toNat (x1.length : Int))).length) (Int.toNat (k3 : Int) - Int.toNat (wr .i64 ((x1.length : Int) - 40))))], rfl, ⟨.inl ⟨4, rfl, rfl, rfl, rfl⟩, trivial⟩, fun u a w T S => (by refine r_slQ (xs := (cut x1 (Int.toNat (wr .i64 ((x1.length : Int) - 40))) (Int.toNat (x1.length : Int)))) T rfl (fun h => by cases h) rfl rfl rfl (by decide) (by decide) h51 (by have := h51; omega) (by omega) Try.runUnderlying24 Try.sizeOf5 rfl fun _ T => ?_; exact ⟨rfl, T⟩)⟩, trivial⟩ rfl (fun i hi => ?_) (fun h => by cases h)
  cases hi
  refine ⟨rfl, _, [(96, .slice (slA A48 (Int.toNat (((Int.toNat (k3 : Int) - Int.toNat (wr .i64 ((x1.length : Int) - 40))) : Nat) : Int)) (Int.toNat 28) 1) ((cut (cut x1 (Int.toNat (wr .i64 ((x1.length : Int) - 40))) (Int.toNat (x1.length : Int))) (Int.toNat 28) (Int.toNat 32)).length) (Int.toNat (((Int.toNat (k3 : Int) - Int.toNat (wr .i64 ((x1.length : Int) - 40))) : Nat) : Int) - Int.toNat 28))], rfl, ⟨.inl ⟨5, rfl, rfl, rfl, rfl⟩, trivial⟩, fun u a w T S => ?_⟩
  obtain ⟨x55, h54, H⟩ := bd H
  refine r_call T Try.call34 rfl rfl (sstable_low.ok _ _ z (cut (cut x1 (Int.toNat (wr .i64 ((x1.length : Int) - 40))) (Int.toNat (x1.length : Int))) (Int.toNat 28) (Int.toNat 32)) (S.sel (p := [sl .ro ku8 (slA A48 (Int.toNat (((Int.toNat (k3 : Int) - Int.toNat (wr .i64 ((x1.length : Int) - 40))) : Nat) : Int)) (Int.toNat 28) 1) (Int.toNat (((Int.toNat (k3 : Int) - Int.toNat (wr .i64 ((x1.length : Int) - 40))) : Nat) : Int) - Int.toNat 28) (cut (cut x1 (Int.toNat (wr .i64 ((x1.length : Int) - 40))) (Int.toNat (x1.length : Int))) (Int.toNat 28) (Int.toNat 32))]) (is := [1]) rfl) _ h54) ?_
  rintro _ _ ⟨rfl, S⟩
  refine ⟨_, rfl, fun _ T => ?_⟩
  replace S : SL ([sl .ro ku8 (slA A48 (Int.toNat (((Int.toNat (k3 : Int) - Int.toNat (wr .i64 ((x1.length : Int) - 40))) : Nat) : Int)) (Int.toNat 28) 1) (Int.toNat (((Int.toNat (k3 : Int) - Int.toNat (wr .i64 ((x1.length : Int) - 40))) : Nat) : Int) - Int.toNat 28) (cut (cut x1 (Int.toNat (wr .i64 ((x1.length : Int) - 40))) (Int.toNat (x1.length : Int))) (Int.toNat 28) (Int.toNat 32)), sl .ro ku8 (slA A48 (Int.toNat (((Int.toNat (k3 : Int) - Int.toNat (wr .i64 ((x1.length : Int) - 40))) : Nat) : Int)) (Int.toNat 24) 1) (Int.toNat (((Int.toNat (k3 : Int) - Int.toNat (wr .i64 ((x1.length : Int) - 40))) : Nat) : Int) - Int.toNat 24) (cut (cut x1 (Int.toNat (wr .i64 ((x1.length : Int) - 40))) (Int.toNat (x1.length : Int))) (Int.toNat 24) (Int.toNat 28)), sl .ro ku8 A48 (Int.toNat (k3 : Int) - Int.toNat (wr .i64 ((x1.length : Int) - 40))) (cut x1 (Int.toNat (wr .i64 ((x1.length : Int) - 40))) (Int.toNat (x1.length : Int))), sl .ro ku8 A2 k3 x1, blk b13 [.slice A12 x11.length x11.length, .slice A15 x14.length k16, .slice none 0 0, .int .i64 0, .int .i64 0], sl .own ku8 A12 x11.length x11, sl .own ksstable_block A15 k16 x14, sl .own kapi_Entry A18 k19 x17] ++ F) _ := S.join
  refine ⟨_, [some (.slice A18 x17.length k19, true), some (.slice A48 ((cut x1 (Int.toNat (wr .i64 ((x1.length : Int) - 40))) (Int.toNat (x1.length : Int))).length) (Int.toNat (k3 : Int) - Int.toNat (wr .i64 ((x1.length : Int) - 40))), true), some (.slice (slA A48 (Int.toNat (((Int.toNat (k3 : Int) - Int.toNat (wr .i64 ((x1.length : Int) - 40))) : Nat) : Int)) (Int.toNat 24) 1) ((cut (cut x1 (Int.toNat (wr .i64 ((x1.length : Int) - 40))) (Int.toNat (x1.length : Int))) (Int.toNat 24) (Int.toNat 28)).length) (Int.toNat (((Int.toNat (k3 : Int) - Int.toNat (wr .i64 ((x1.length : Int) - 40))) : Nat) : Int) - Int.toNat 24), false), some (.int .i64 x53, false), some (.slice A48 ((cut x1 (Int.toNat (wr .i64 ((x1.length : Int) - 40))) (Int.toNat (x1.length : Int))).length) (Int.toNat (k3 : Int) - Int.toNat (wr .i64 ((x1.length : Int) - 40))), true), some (.slice (slA A48 (Int.toNat (((Int.toNat (k3 : Int) - Int.toNat (wr .i64 ((x1.length : Int) - 40))) : Nat) : Int)) (Int.toNat 28) 1) ((cut (cut x1 (Int.toNat (wr .i64 ((x1.length : Int) - 40))) (Int.toNat (x1.length : Int))) (Int.toNat 28) (Int.toNat 32)).length) (Int.toNat (((Int.toNat (k3 : Int) - Int.toNat (wr .i64 ((x1.length : Int) - 40))) : Nat) : Int) - Int.toNat 28), false), some (.int .i64 x55, false), none, none, none, none, none, none], [sl .ro ku8 (slA A48 (Int.toNat (((Int.toNat (k3 : Int) - Int.toNat (wr .i64 ((x1.length : Int) - 40))) : Nat) : Int)) (Int.toNat 28) 1) (Int.toNat (((Int.toNat (k3 : Int) - Int.toNat (wr .i64 ((x1.length : Int) - 40))) : Nat) : Int) - Int.toNat 28) (cut (cut x1 (Int.toNat (wr .i64 ((x1.length : Int) - 40))) (Int.toNat (x1.length : Int))) (Int.toNat 28) (Int.toNat 32)), sl .ro ku8 (slA A48 (Int.toNat (((Int.toNat (k3 : Int) - Int.toNat (wr .i64 ((x1.length : Int) - 40))) : Nat) : Int)) (Int.toNat 24) 1) (Int.toNat (((Int.toNat (k3 : Int) - Int.toNat (wr .i64 ((x1.length : Int) - 40))) : Nat) : Int) - Int.toNat 24) (cut (cut x1 (Int.toNat (wr .i64 ((x1.length : Int) - 40))) (Int.toNat (x1.length : Int))) (Int.toNat 24) (Int.toNat 28)), sl .ro ku8 A48 (Int.toNat (k3 : Int) - Int.toNat (wr .i64 ((x1.length : Int) - 40))) (cut x1 (Int.toNat (wr .i64 ((x1.length : Int) - 40))) (Int.toNat (x1.length : Int))), sl .ro ku8 A2 k3 x1, blk b13 [.slice A12 x11.length x11.length, .slice A15 x14.length k16, .slice none 0 0, .int .i64 0, .int .i64 0], sl .own ku8 A12 x11.length x11, sl .own ksstable_block A15 k16 x14, sl .own kapi_Entry A18 k19 x17], rfl, ⟨.inr ⟨_, _, _, rfl, rfl⟩, .inr ⟨_, _, _, rfl, rfl⟩, .inr ⟨_, _, _, rfl, rfl⟩, .inr ⟨_, _, _, rfl, rfl⟩, .inr ⟨_, _, _, rfl, rfl⟩, .inr ⟨_, _, _, rfl, rfl⟩, .inl rfl, .inl rfl, .inl rfl, .inl rfl, .inl rfl, .inl rfl, .inl rfl, trivial⟩, rfl, ?_, T, S⟩
  refine stage (some 7) rfl rfl ⟨⟨_, [(5, .slice A18 x17.length k19)], rfl, ⟨.inr ⟨rfl, rfl⟩, trivial⟩, fun u a w T S => (by refine r_pv T rfl rfl fun _ T => ?_; exact ⟨rfl, T⟩)⟩, ⟨_, [(10, .slice A48 ((cut x1 (Int.toNat (wr .i64 ((x1.length : Int) - 40))) (Int.toNat (x1.length : Int))).length) (Int.toNat (k3 : Int) - Int.toNat (wr .i64 ((x1.length : Int) - 40))))], rfl, ⟨.inr ⟨rfl, rfl⟩, trivial⟩, fun u a w T S => (by refine r_pv T rfl rfl fun _ T => ?_; exact ⟨rfl, T⟩)⟩, ⟨_, [(10, .slice A48 ((cut x1 (Int.toNat (wr .i64 ((x1.length : Int) - 40))) (Int.toNat (x1.length : Int))).length) (Int.toNat (k3 : Int) - Int.toNat (wr .i64 ((x1.length : Int) - 40))))], rfl, ⟨.inr ⟨rfl, rfl⟩, trivial⟩, fun u a w T S => (by refine r_pv T rfl rfl fun _ T => ?_; exact ⟨rfl, T⟩)⟩, trivial⟩ rfl (fun i hi => ?_) (fun h => by cases h)
  cases hi
  refine ⟨rfl, _, [(91, .slice A18 x17.length k19), (94, .int .i64 x53), (97, .int .i64 x55)], rfl, ⟨.inl ⟨0, rfl, rfl, rfl, rfl⟩, .inl ⟨3, rfl, rfl, rfl, rfl⟩, .inl ⟨6, rfl, rfl, rfl, rfl⟩, trivial⟩, fun u a w T S => ?_⟩
  replace S : SL ([sl .ro ku8 (slA A48 (Int.toNat (((Int.toNat (k3 : Int) - Int.toNat (wr .i64 ((x1.length : Int) - 40))) : Nat) : Int)) (Int.toNat 28) 1) (Int.toNat (((Int.toNat (k3 : Int) - Int.toNat (wr .i64 ((x1.length : Int) - 40))) : Nat) : Int) - Int.toNat 28) (cut (cut x1 (Int.toNat (wr .i64 ((x1.length : Int) - 40))) (Int.toNat (x1.length : Int))) (Int.toNat 28) (Int.toNat 32)), sl .ro ku8 (slA A48 (Int.toNat (((Int.toNat (k3 : Int) - Int.toNat (wr .i64 ((x1.length : Int) - 40))) : Nat) : Int)) (Int.toNat 24) 1) (Int.toNat (((Int.toNat (k3 : Int) - Int.toNat (wr .i64 ((x1.length : Int) - 40))) : Nat) : Int) - Int.toNat 24) (cut (cut x1 (Int.toNat (wr .i64 ((x1.length : Int) - 40))) (Int.toNat (x1.length : Int))) (Int.toNat 24) (Int.toNat 28)), sl .ro ku8 A48 (Int.toNat (k3 : Int) - Int.toNat (wr .i64 ((x1.length : Int) - 40))) (cut x1 (Int.toNat (wr .i64 ((x1.length : Int) - 40))) (Int.toNat (x1.length : Int))), sl .ro ku8 A2 k3 x1, blk b13 [.slice A12 x11.length x11.length, .slice A15 x14.length k16, .slice none 0 0, .int .i64 0, .int .i64 0], sl .own ku8 A12 x11.length x11, sl .own ksstable_block A15 k16 x14, sl .ro kapi_Entry A18 k19 x17] ++ F) _ := S.fixL (i := 7) rfl rfl
  obtain ⟨x57, h56, H⟩ := bd H
  refine r_call T Try.call7 rfl rfl (sstable_Build.ok _ _ z x17 x53 x55 (S.sel (p := [sl .ro kapi_Entry A18 k19 x17]) (is := [7]) rfl) _ h56) ?_
  rintro _ _ ⟨A58, k59, rfl, S⟩
  refine ⟨_, rfl, fun _ T => ?_⟩
  replace S : SL ([sl .own ku8 A58 k59 x57.1, sl .ro kapi_Entry A18 k19 x17, sl .ro ku8 (slA A48 (Int.toNat (((Int.toNat (k3 : Int) - Int.toNat (wr .i64 ((x1.length : Int) - 40))) : Nat) : Int)) (Int.toNat 28) 1) (Int.toNat (((Int.toNat (k3 : Int) - Int.toNat (wr .i64 ((x1.length : Int) - 40))) : Nat) : Int) - Int.toNat 28) (cut (cut x1 (Int.toNat (wr .i64 ((x1.length : Int) - 40))) (Int.toNat (x1.length : Int))) (Int.toNat 28) (Int.toNat 32)), sl .ro ku8 (slA A48 (Int.toNat (((Int.toNat (k3 : Int) - Int.toNat (wr .i64 ((x1.length : Int) - 40))) : Nat) : Int)) (Int.toNat 24) 1) (Int.toNat (((Int.toNat (k3 : Int) - Int.toNat (wr .i64 ((x1.length : Int) - 40))) : Nat) : Int) - Int.toNat 24) (cut (cut x1 (Int.toNat (wr .i64 ((x1.length : Int) - 40))) (Int.toNat (x1.length : Int))) (Int.toNat 24) (Int.toNat 28)), sl .ro ku8 A48 (Int.toNat (k3 : Int) - Int.toNat (wr .i64 ((x1.length : Int) - 40))) (cut x1 (Int.toNat (wr .i64 ((x1.length : Int) - 40))) (Int.toNat (x1.length : Int))), sl .ro ku8 A2 k3 x1, blk b13 [.slice A12 x11.length x11.length, .slice A15 x14.length k16, .slice none 0 0, .int .i64 0, .int .i64 0], sl .own ku8 A12 x11.length x11, sl .own ksstable_block A15 k16 x14] ++ F) _ := S.join
  refine ⟨_, [some (.slice A18 x17.length k19, false), some (.slice A48 ((cut x1 (Int.toNat (wr .i64 ((x1.length : Int) - 40))) (Int.toNat (x1.length : Int))).length) (Int.toNat (k3 : Int) - Int.toNat (wr .i64 ((x1.length : Int) - 40))), true), some (.slice (slA A48 (Int.toNat (((Int.toNat (k3 : Int) - Int.toNat (wr .i64 ((x1.length : Int) - 40))) : Nat) : Int)) (Int.toNat 24) 1) ((cut (cut x1 (Int.toNat (wr .i64 ((x1.length : Int) - 40))) (Int.toNat (x1.length : Int))) (Int.toNat 24) (Int.toNat 28)).length) (Int.toNat (((Int.toNat (k3 : Int) - Int.toNat (wr .i64 ((x1.length : Int) - 40))) : Nat) : Int) - Int.toNat 24), false), some (.int .i64 x53, false), some (.slice A48 ((cut x1 (Int.toNat (wr .i64 ((x1.length : Int) - 40))) (Int.toNat (x1.length : Int))).length) (Int.toNat (k3 : Int) - Int.toNat (wr .i64 ((x1.length : Int) - 40))), true), some (.slice (slA A48 (Int.toNat (((Int.toNat (k3 : Int) - Int.toNat (wr .i64 ((x1.length : Int) - 40))) : Nat) : Int)) (Int.toNat 28) 1) ((cut (cut x1 (Int.toNat (wr .i64 ((x1.length : Int) - 40))) (Int.toNat (x1.length : Int))) (Int.toNat 28) (Int.toNat 32)).length) (Int.toNat (((Int.toNat (k3 : Int) - Int.toNat (wr .i64 ((x1.length : Int) - 40))) : Nat) : Int) - Int.toNat 28), false), some (.int .i64 x55, false), some (.tuple #[.slice A58 x57.1.length k59, .int .i64 x57.2], false), some (.tuple #[.slice A58 x57.1.length k59, .int .i64 x57.2], true), some (.slice A58 x57.1.length k59, true), some (.int .i64 x57.2, true), some (.slice A58 x57.1.length k59, true), some (.int .i64 x57.2, true)], [sl .own ku8 A58 k59 x57.1, sl .ro kapi_Entry A18 k19 x17, sl .ro ku8 (slA A48 (Int.toNat (((Int.toNat (k3 : Int) - Int.toNat (wr .i64 ((x1.length : Int) - 40))) : Nat) : Int)) (Int.toNat 28) 1) (Int.toNat (((Int.toNat (k3 : Int) - Int.toNat (wr .i64 ((x1.length : Int) - 40))) : Nat) : Int) - Int.toNat 28) (cut (cut x1 (Int.toNat (wr .i64 ((x1.length : Int) - 40))) (Int.toNat (x1.length : Int))) (Int.toNat 28) (Int.toNat 32)), sl .ro ku8 (slA A48 (Int.toNat (((Int.toNat (k3 : Int) - Int.toNat (wr .i64 ((x1.length : Int) - 40))) : Nat) : Int)) (Int.toNat 24) 1) (Int.toNat (((Int.toNat (k3 : Int) - Int.toNat (wr .i64 ((x1.length : Int) - 40))) : Nat) : Int) - Int.toNat 24) (cut (cut x1 (Int.toNat (wr .i64 ((x1.length : Int) - 40))) (Int.toNat (x1.length : Int))) (Int.toNat 24) (Int.toNat 28)), sl .ro ku8 A48 (Int.toNat (k3 : Int) - Int.toNat (wr .i64 ((x1.length : Int) - 40))) (cut x1 (Int.toNat (wr .i64 ((x1.length : Int) - 40))) (Int.toNat (x1.length : Int))), sl .ro ku8 A2 k3 x1, blk b13 [.slice A12 x11.length x11.length, .slice A15 x14.length k16, .slice none 0 0, .int .i64 0, .int .i64 0], sl .own ku8 A12 x11.length x11, sl .own ksstable_block A15 k16 x14], rfl, ⟨.inr ⟨_, _, _, rfl, rfl⟩, .inr ⟨_, _, _, rfl, rfl⟩, .inr ⟨_, _, _, rfl, rfl⟩, .inr ⟨_, _, _, rfl, rfl⟩, .inr ⟨_, _, _, rfl, rfl⟩, .inr ⟨_, _, _, rfl, rfl⟩, .inr ⟨_, _, _, rfl, rfl⟩, .inl rfl, .inl rfl, .inl rfl, .inl rfl, .inl rfl, .inl rfl, trivial⟩, rfl, ?_, T, S⟩
  refine stage none rfl rfl ⟨⟨_, [(10, .slice A48 ((cut x1 (Int.toNat (wr .i64 ((x1.length : Int) - 40))) (Int.toNat (x1.length : Int))).length) (Int.toNat (k3 : Int) - Int.toNat (wr .i64 ((x1.length : Int) - 40))))], rfl, ⟨.inr ⟨rfl, rfl⟩, trivial⟩, fun u a w T S => (by refine r_pv T rfl rfl fun _ T => ?_; exact ⟨rfl, T⟩)⟩, ⟨_, [(10, .slice A48 ((cut x1 (Int.toNat (wr .i64 ((x1.length : Int) - 40))) (Int.toNat (x1.length : Int))).length) (Int.toNat (k3 : Int) - Int.toNat (wr .i64 ((x1.length : Int) - 40))))], rfl, ⟨.inr ⟨rfl, rfl⟩, trivial⟩, fun u a w T S => (by refine r_pv T rfl rfl fun _ T => ?_; exact ⟨rfl, T⟩)⟩, ⟨_, [(98, .tuple #[.slice A58 x57.1.length k59, .int .i64 x57.2])], rfl, ⟨.inl ⟨7, rfl, rfl, rfl, rfl⟩, trivial⟩, fun u a w T S => (by refine r_pv T rfl rfl fun _ T => ?_; exact ⟨rfl, T⟩)⟩, ⟨_, [(90, .tuple #[.slice A58 x57.1.length k59, .int .i64 x57.2])], rfl, ⟨.inl ⟨8, rfl, rfl, rfl, rfl⟩, trivial⟩, fun u a w T S => (by refine r_pv T rfl rfl fun _ T => ?_; exact ⟨rfl, T⟩)⟩, ⟨_, [(90, .tuple #[.slice A58 x57.1.length k59, .int .i64 x57.2])], rfl, ⟨.inl ⟨8, rfl, rfl, rfl, rfl⟩, trivial⟩, fun u a w T S => (by refine r_pv T rfl rfl fun _ T => ?_; exact ⟨rfl, T⟩)⟩, ⟨_, [(99, .slice A58 x57.1.length k59)], rfl, ⟨.inl ⟨9, rfl, rfl, rfl, rfl⟩, trivial⟩, fun u a w T S => (by refine r_pv T rfl rfl fun _ T => ?_; exact ⟨rfl, T⟩)⟩, ⟨_, [(100, .int .i64 x57.2)], rfl, ⟨.inl ⟨10, rfl, rfl, rfl, rfl⟩, trivial⟩, fun u a w T S => (by refine r_pv T rfl rfl fun _ T => ?_; exact ⟨rfl, T⟩)⟩, trivial⟩ rfl (fun i hi => by cases hi) (fun _ _ a w T hv hb S => ?_)
  replace T := T.sub (r := [(0, .slice A2 x1.length k3), (4, .pointer (some ⟨b13, 0, none⟩)), (5, .slice A18 x17.length k19), (6, .int .i64 x20), (11, .slice A58 x57.1.length k59), (12, .int .i64 x57.2)]) ⟨hb 0 _ rfl rfl, hb 4 _ rfl rfl, hb 5 _ rfl rfl, hb 6 _ rfl rfl, hv 11 _ 11 rfl rfl rfl, hv 12 _ 12 rfl rfl rfl, trivial⟩
  refine Gets.seq (Gets.seq ?_)
  refine rg ?_
  refine r_pv T rfl rfl fun _ T => ?_
  refine r_pv T rfl rfl fun _ T => ?_
  refine r_pv T rfl rfl fun _ T => ?_
  rcases ifE H with ⟨h60, H⟩ | ⟨h60, H⟩
  · refine g_no T rfl rfl h60 rfl fun _ T => ?_
    refine g_no T rfl rfl h60 rfl fun _ T => ?_
    refine g_no T rfl rfl h60 rfl fun _ T => ?_
    refine g_no T rfl rfl h60 rfl fun _ T => ?_
    refine r_pickT T rfl h60 rfl rfl fun _ T => ?_
    refine cdT T rfl rfl ?_
    refine Gets.seq ?_
    exact J4_ok F r z x1 A2 k3 _ _ (T.sub trivial) (S.only (p := [sl .ro ku8 A2 k3 x1]) [5] rfl) H
  · refine g_yes T rfl rfl h60 ?_
    refine r_pv T rfl rfl fun _ T => ?_
    refine g_yes T rfl rfl h60 ?_
    refine r_pv T rfl rfl fun _ T => ?_
    refine g_yes T rfl rfl h60 ?_
    obtain ⟨x62, h61, H⟩ := bd H
    refine r_call T Try.call28 rfl rfl (bytes_Equal.ok _ _ x57.1 x1 (S.sel (p := [sl .own ku8 A58 k59 x57.1, sl .ro ku8 A2 k3 x1]) (is := [0, 4]) rfl) _ h61) ?_
    rintro _ _ ⟨rfl, S⟩
    refine ⟨_, rfl, fun _ T => ?_⟩
    replace S : SL ([sl .own ku8 A58 k59 x57.1, sl .ro ku8 A2 k3 x1, sl .ro kapi_Entry A18 k19 x17, sl .ro ku8 (slA A48 (Int.toNat (((Int.toNat (k3 : Int) - Int.toNat (wr .i64 ((x1.length : Int) - 40))) : Nat) : Int)) (Int.toNat 28) 1) (Int.toNat (((Int.toNat (k3 : Int) - Int.toNat (wr .i64 ((x1.length : Int) - 40))) : Nat) : Int) - Int.toNat 28) (cut (cut x1 (Int.toNat (wr .i64 ((x1.length : Int) - 40))) (Int.toNat (x1.length : Int))) (Int.toNat 28) (Int.toNat 32)), sl .ro ku8 (slA A48 (Int.toNat (((Int.toNat (k3 : Int) - Int.toNat (wr .i64 ((x1.length : Int) - 40))) : Nat) : Int)) (Int.toNat 24) 1) (Int.toNat (((Int.toNat (k3 : Int) - Int.toNat (wr .i64 ((x1.length : Int) - 40))) : Nat) : Int) - Int.toNat 24) (cut (cut x1 (Int.toNat (wr .i64 ((x1.length : Int) - 40))) (Int.toNat (x1.length : Int))) (Int.toNat 24) (Int.toNat 28)), sl .ro ku8 A48 (Int.toNat (k3 : Int) - Int.toNat (wr .i64 ((x1.length : Int) - 40))) (cut x1 (Int.toNat (wr .i64 ((x1.length : Int) - 40))) (Int.toNat (x1.length : Int))), blk b13 [.slice A12 x11.length x11.length, .slice A15 x14.length k16, .slice none 0 0, .int .i64 0, .int .i64 0], sl .own ku8 A12 x11.length x11, sl .own ksstable_block A15 k16 x14] ++ F) _ := S.join
    refine g_yes T rfl rfl h60 ?_
    refine r_pv T rfl rfl fun _ T => ?_
    refine r_pickF T rfl h60 rfl rfl fun _ T => ?_
    rcases ifE H with ⟨h63, H⟩ | ⟨h63, H⟩
    · refine cdT T rfl h63 ?_
      refine Gets.seq ?_
      exact J4_ok F r z x1 A2 k3 _ _ (T.sub trivial) (S.only (p := [sl .ro ku8 A2 k3 x1]) [1] rfl) H
    · refine cdF T rfl h63 ?_
      refine Gets.skip (Gets.seq ?_)
      refine rg ?_
      refine r_pv T rfl rfl fun _ T => ?_
      refine r_pv T rfl rfl fun _ T => ?_
      refine r_pv T rfl rfl fun _ T => ?_
      obtain ⟨h64, H⟩ := ck H
      refine r_slR (ix := 1) (xs := x1) T S rfl rfl (fun h => by cases h) rfl rfl rfl h64.1 h64.2 (Int.le_refl _) (by omega) (by omega) Try.runUnderlying24 Try.sizeOf5 rfl fun _ A65 S T => ?_
      obtain ⟨x67, h66, H⟩ := bd H
      refine r_call T Try.call35 rfl rfl (codec_TakeFrame.ok _ _ z (cut x1 (Int.toNat x20) (Int.toNat (x1.length : Int))) (S.sel (p := [sl .ro ku8 A65 (Int.toNat (k3 : Int) - Int.toNat x20) (cut x1 (Int.toNat x20) (Int.toNat (x1.length : Int)))]) (is := [0]) rfl) _ h66) ?_
      rintro _ _ ⟨A68, k69, rfl, S⟩
      refine ⟨_, rfl, fun _ T => ?_⟩
      replace S : SL ([sl .own ku8 A68 k69 x67.2.1, sl .ro ku8 A65 (Int.toNat (k3 : Int) - Int.toNat x20) (cut x1 (Int.toNat x20) (Int.toNat (x1.length : Int))), sl .own ku8 A58 k59 x57.1, sl .ro ku8 A2 k3 x1, sl .ro kapi_Entry A18 k19 x17, sl .ro ku8 (slA A48 (Int.toNat (((Int.toNat (k3 : Int) - Int.toNat (wr .i64 ((x1.length : Int) - 40))) : Nat) : Int)) (Int.toNat 28) 1) (Int.toNat (((Int.toNat (k3 : Int) - Int.toNat (wr .i64 ((x1.length : Int) - 40))) : Nat) : Int) - Int.toNat 28) (cut (cut x1 (Int.toNat (wr .i64 ((x1.length : Int) - 40))) (Int.toNat (x1.length : Int))) (Int.toNat 28) (Int.toNat 32)), sl .ro ku8 (slA A48 (Int.toNat (((Int.toNat (k3 : Int) - Int.toNat (wr .i64 ((x1.length : Int) - 40))) : Nat) : Int)) (Int.toNat 24) 1) (Int.toNat (((Int.toNat (k3 : Int) - Int.toNat (wr .i64 ((x1.length : Int) - 40))) : Nat) : Int) - Int.toNat 24) (cut (cut x1 (Int.toNat (wr .i64 ((x1.length : Int) - 40))) (Int.toNat (x1.length : Int))) (Int.toNat 24) (Int.toNat 28)), sl .ro ku8 A48 (Int.toNat (k3 : Int) - Int.toNat (wr .i64 ((x1.length : Int) - 40))) (cut x1 (Int.toNat (wr .i64 ((x1.length : Int) - 40))) (Int.toNat (x1.length : Int))), blk b13 [.slice A12 x11.length x11.length, .slice A15 x14.length k16, .slice none 0 0, .int .i64 0, .int .i64 0], sl .own ku8 A12 x11.length x11, sl .own ksstable_block A15 k16 x14] ++ F) _ := S.join
      refine r_pv T rfl rfl fun _ T => ?_
      refine r_pv T rfl rfl fun _ T => ?_
      refine r_pv T rfl rfl fun _ T => ?_
      refine r_pv T rfl rfl fun _ T => ?_
      refine r_pv T rfl rfl fun _ T => ?_
      refine r_pv T rfl rfl fun _ T => ?_
      refine r_fa (o' := 2) T rfl Try.runUnderlying69 rfl Try.sizeOf24 rfl rfl fun _ T => ?_
      refine r_stB (ix := 8) (l' := [sl .own ku8 A68 k69 x67.2.1, sl .ro ku8 A65 (Int.toNat (k3 : Int) - Int.toNat x20) (cut x1 (Int.toNat x20) (Int.toNat (x1.length : Int))), sl .own ku8 A58 k59 x57.1, sl .ro ku8 A2 k3 x1, sl .ro kapi_Entry A18 k19 x17, sl .ro ku8 (slA A48 (Int.toNat (((Int.toNat (k3 : Int) - Int.toNat (wr .i64 ((x1.length : Int) - 40))) : Nat) : Int)) (Int.toNat 28) 1) (Int.toNat (((Int.toNat (k3 : Int) - Int.toNat (wr .i64 ((x1.length : Int) - 40))) : Nat) : Int) - Int.toNat 28) (cut (cut x1 (Int.toNat (wr .i64 ((x1.length : Int) - 40))) (Int.toNat (x1.length : Int))) (Int.toNat 28) (Int.toNat 32)), sl .ro ku8 (slA A48 (Int.toNat (((Int.toNat (k3 : Int) - Int.toNat (wr .i64 ((x1.length : Int) - 40))) : Nat) : Int)) (Int.toNat 24) 1) (Int.toNat (((Int.toNat (k3 : Int) - Int.toNat (wr .i64 ((x1.length : Int) - 40))) : Nat) : Int) - Int.toNat 24) (cut (cut x1 (Int.toNat (wr .i64 ((x1.length : Int) - 40))) (Int.toNat (x1.length : Int))) (Int.toNat 24) (Int.toNat 28)), sl .ro ku8 A48 (Int.toNat (k3 : Int) - Int.toNat (wr .i64 ((x1.length : Int) - 40))) (cut x1 (Int.toNat (wr .i64 ((x1.length : Int) - 40))) (Int.toNat (x1.length : Int))), blk b13 [.slice A12 x11.length x11.length, .slice A15 x14.length k16, .slice A68 x67.2.1.length k69, .int .i64 0, .int .i64 0], sl .own ku8 A12 x11.length x11, sl .own ksstable_block A15 k16 x14]) T S rfl rfl rfl Try.sizeOf24 rfl (Nat.le_of_ble_eq_true rfl) rfl fun _ S => ?_
      refine Gets.seq ?_
      refine rg ?_
      refine r_pv T rfl rfl fun _ T => ?_
      refine r_pv T rfl rfl fun _ T => ?_
      refine r_lenS T rfl Try.runUnderlying22 rfl fun _ T => ?_
      refine r_pv T rfl rfl fun _ T => ?_
      refine r_fa (o' := 3) T rfl Try.runUnderlying69 rfl Try.sizeOf3 rfl rfl fun _ T => ?_
      refine r_stB (ix := 8) (l' := [sl .own ku8 A68 k69 x67.2.1, sl .ro ku8 A65 (Int.toNat (k3 : Int) - Int.toNat x20) (cut x1 (Int.toNat x20) (Int.toNat (x1.length : Int))), sl .own ku8 A58 k59 x57.1, sl .ro ku8 A2 k3 x1, sl .ro kapi_Entry A18 k19 x17, sl .ro ku8 (slA A48 (Int.toNat (((Int.toNat (k3 : Int) - Int.toNat (wr .i64 ((x1.length : Int) - 40))) : Nat) : Int)) (Int.toNat 28) 1) (Int.toNat (((Int.toNat (k3 : Int) - Int.toNat (wr .i64 ((x1.length : Int) - 40))) : Nat) : Int) - Int.toNat 28) (cut (cut x1 (Int.toNat (wr .i64 ((x1.length : Int) - 40))) (Int.toNat (x1.length : Int))) (Int.toNat 28) (Int.toNat 32)), sl .ro ku8 (slA A48 (Int.toNat (((Int.toNat (k3 : Int) - Int.toNat (wr .i64 ((x1.length : Int) - 40))) : Nat) : Int)) (Int.toNat 24) 1) (Int.toNat (((Int.toNat (k3 : Int) - Int.toNat (wr .i64 ((x1.length : Int) - 40))) : Nat) : Int) - Int.toNat 24) (cut (cut x1 (Int.toNat (wr .i64 ((x1.length : Int) - 40))) (Int.toNat (x1.length : Int))) (Int.toNat 24) (Int.toNat 28)), sl .ro ku8 A48 (Int.toNat (k3 : Int) - Int.toNat (wr .i64 ((x1.length : Int) - 40))) (cut x1 (Int.toNat (wr .i64 ((x1.length : Int) - 40))) (Int.toNat (x1.length : Int))), blk b13 [.slice A12 x11.length x11.length, .slice A15 x14.length k16, .slice A68 x67.2.1.length k69, .int .i64 (x17.length : Int), .int .i64 0], sl .own ku8 A12 x11.length x11, sl .own ksstable_block A15 k16 x14]) T S rfl rfl rfl Try.sizeOf3 rfl (Nat.le_of_ble_eq_true rfl) rfl fun _ S => ?_
      refine Gets.seq ?_
      refine rg ?_
      refine r_pv T rfl rfl fun _ T => ?_
      refine r_pv T rfl rfl fun _ T => ?_
      refine r_pv T rfl rfl fun _ T => ?_
      replace S : SL ([sl .own ku8 A68 k69 x67.2.1, sl .ro ku8 A65 (Int.toNat (k3 : Int) - Int.toNat x20) (cut x1 (Int.toNat x20) (Int.toNat (x1.length : Int))), sl .own ku8 A58 k59 x57.1, sl .ro ku8 A2 k3 x1, sl .ro kapi_Entry A18 k19 x17, sl .ro ku8 (slA A48 (Int.toNat (((Int.toNat (k3 : Int) - Int.toNat (wr .i64 ((x1.length : Int) - 40))) : Nat) : Int)) (Int.toNat 28) 1) (Int.toNat (((Int.toNat (k3 : Int) - Int.toNat (wr .i64 ((x1.length : Int) - 40))) : Nat) : Int) - Int.toNat 28) (cut (cut x1 (Int.toNat (wr .i64 ((x1.length : Int) - 40))) (Int.toNat (x1.length : Int))) (Int.toNat 28) (Int.toNat 32)), sl .ro ku8 (slA A48 (Int.toNat (((Int.toNat (k3 : Int) - Int.toNat (wr .i64 ((x1.length : Int) - 40))) : Nat) : Int)) (Int.toNat 24) 1) (Int.toNat (((Int.toNat (k3 : Int) - Int.toNat (wr .i64 ((x1.length : Int) - 40))) : Nat) : Int) - Int.toNat 24) (cut (cut x1 (Int.toNat (wr .i64 ((x1.length : Int) - 40))) (Int.toNat (x1.length : Int))) (Int.toNat 24) (Int.toNat 28)), sl .ro ku8 A48 (Int.toNat (k3 : Int) - Int.toNat (wr .i64 ((x1.length : Int) - 40))) (cut x1 (Int.toNat (wr .i64 ((x1.length : Int) - 40))) (Int.toNat (x1.length : Int))), blk b13 [.slice A12 x11.length x11.length, .slice A15 x14.length k16, .slice A68 x67.2.1.length k69, .int .i64 (x17.length : Int), .int .i64 0], sl .ro ku8 A12 x11.length x11, sl .own ksstable_block A15 k16 x14] ++ F) _ := S.fixL (i := 9) rfl rfl
      replace S : SL ([sl .own ku8 A68 k69 x67.2.1, sl .ro ku8 A65 (Int.toNat (k3 : Int) - Int.toNat x20) (cut x1 (Int.toNat x20) (Int.toNat (x1.length : Int))), sl .own ku8 A58 k59 x57.1, sl .ro ku8 A2 k3 x1, sl .ro kapi_Entry A18 k19 x17, sl .ro ku8 (slA A48 (Int.toNat (((Int.toNat (k3 : Int) - Int.toNat (wr .i64 ((x1.length : Int) - 40))) : Nat) : Int)) (Int.toNat 28) 1) (Int.toNat (((Int.toNat (k3 : Int) - Int.toNat (wr .i64 ((x1.length : Int) - 40))) : Nat) : Int) - Int.toNat 28) (cut (cut x1 (Int.toNat (wr .i64 ((x1.length : Int) - 40))) (Int.toNat (x1.length : Int))) (Int.toNat 28) (Int.toNat 32)), sl .ro ku8 (slA A48 (Int.toNat (((Int.toNat (k3 : Int) - Int.toNat (wr .i64 ((x1.length : Int) - 40))) : Nat) : Int)) (Int.toNat 24) 1) (Int.toNat (((Int.toNat (k3 : Int) - Int.toNat (wr .i64 ((x1.length : Int) - 40))) : Nat) : Int) - Int.toNat 24) (cut (cut x1 (Int.toNat (wr .i64 ((x1.length : Int) - 40))) (Int.toNat (x1.length : Int))) (Int.toNat 24) (Int.toNat 28)), sl .ro ku8 A48 (Int.toNat (k3 : Int) - Int.toNat (wr .i64 ((x1.length : Int) - 40))) (cut x1 (Int.toNat (wr .i64 ((x1.length : Int) - 40))) (Int.toNat (x1.length : Int))), blk b13 [.slice A12 x11.length x11.length, .slice A15 x14.length k16, .slice A68 x67.2.1.length k69, .int .i64 (x17.length : Int), .int .i64 0], sl .ro ku8 A12 x11.length x11, sl .ro ksstable_block A15 k16 x14] ++ F) _ := S.fixL (i := 10) rfl rfl
      replace S : SL ([sl .ro ku8 A68 k69 x67.2.1, sl .ro ku8 A65 (Int.toNat (k3 : Int) - Int.toNat x20) (cut x1 (Int.toNat x20) (Int.toNat (x1.length : Int))), sl .own ku8 A58 k59 x57.1, sl .ro ku8 A2 k3 x1, sl .ro kapi_Entry A18 k19 x17, sl .ro ku8 (slA A48 (Int.toNat (((Int.toNat (k3 : Int) - Int.toNat (wr .i64 ((x1.length : Int) - 40))) : Nat) : Int)) (Int.toNat 28) 1) (Int.toNat (((Int.toNat (k3 : Int) - Int.toNat (wr .i64 ((x1.length : Int) - 40))) : Nat) : Int) - Int.toNat 28) (cut (cut x1 (Int.toNat (wr .i64 ((x1.length : Int) - 40))) (Int.toNat (x1.length : Int))) (Int.toNat 28) (Int.toNat 32)), sl .ro ku8 (slA A48 (Int.toNat (((Int.toNat (k3 : Int) - Int.toNat (wr .i64 ((x1.length : Int) - 40))) : Nat) : Int)) (Int.toNat 24) 1) (Int.toNat (((Int.toNat (k3 : Int) - Int.toNat (wr .i64 ((x1.length : Int) - 40))) : Nat) : Int) - Int.toNat 24) (cut (cut x1 (Int.toNat (wr .i64 ((x1.length : Int) - 40))) (Int.toNat (x1.length : Int))) (Int.toNat 24) (Int.toNat 28)), sl .ro ku8 A48 (Int.toNat (k3 : Int) - Int.toNat (wr .i64 ((x1.length : Int) - 40))) (cut x1 (Int.toNat (wr .i64 ((x1.length : Int) - 40))) (Int.toNat (x1.length : Int))), blk b13 [.slice A12 x11.length x11.length, .slice A15 x14.length k16, .slice A68 x67.2.1.length k69, .int .i64 (x17.length : Int), .int .i64 0], sl .ro ku8 A12 x11.length x11, sl .ro ksstable_block A15 k16 x14] ++ F) _ := S.fixL (i := 0) rfl rfl
      replace H := Option.some.inj H
      subst H
      exact rtn T Try.func8 rfl rfl ⟨b13, A12, x11.length, A15, k16, A68, k69, rfl, (S.only (p := [blk b13 [.slice A12 x11.length x11.length, .slice A15 x14.length k16, .slice A68 x67.2.1.length k69, .int .i64 (x17.length : Int), .int .i64 0], sl .ro ku8 A12 x11.length x11, sl .ro ksstable_block A15 k16 x14, sl .ro ku8 A68 k69 x67.2.1, sl .ro ku8 A2 k3 x1]) [8, 8, 8, 0, 2] rfl)⟩
theorem J2_ok (F : List Atom) (r : (Option sstable_Table) × Int) (z : Nat) (x1 : List Int) (A2 : Option Addr) (k3 : Nat) (a : Act) (w : World) (T : Tm 127 [] a) (S : SL ([sl .ro ku8 A2 k3 x1] ++ F) w) (H : J2 z = some r) : Gets Try.prog 8 ptJ2 a w (R F x1 A2 k3 r) := by
  refine rg ?_
  refine r_pv T rfl rfl fun _ T => ?_
  refine r_pv T rfl rfl fun _ T => ?_
  replace H := Option.some.inj H
  subst H
  exact rtn T Try.func8 rfl rfl ⟨rfl, (S.only (p := [sl .ro ku8 A2 k3 x1]) [0] rfl)⟩
theorem L1_ok (F : List Atom) (r : (Option sstable_Table) × Int) (z : Nat) (x1 : List Int) (A2 : Option Addr) (k3 : Nat) (b13 : Nat) (A12 : Option Addr) (x11 : (List Int)) (m : Nat) : ∀ (A18 : Option Addr) (x17 : List api_Entry) (k19 : Nat) (x20 : Int) (A15 : Option Addr) (x14 : List sstable_block) (k16 : Nat) (a : Act) (w : World), Tm 127 [(0, .slice A2 x1.length k3), (4, .pointer (some ⟨b13, 0, none⟩)), (5, .slice A18 x17.length k19), (6, .int .i64 x20)] a → SL ([sl .ro ku8 A2 k3 x1, blk b13 [.slice A12 x11.length x11.length, .slice A15 x14.length k16, .slice none 0 0, .int .i64 0, .int .i64 0], sl .own ku8 A12 x11.length x11, sl .own ksstable_block A15 k16 x14, sl .own kapi_Entry A18 k19 x17] ++ F) w → L1 z x1 x11 m x17 x20 x14 = some r → Gets Try.prog 8 ptL1 a w (R F x1 A2 k3 r) := by
  induction m with
  | zero => intro _ _ _ _ _ _ _ _ _ _ _ H; cases H
  | succ m ih =>
    intro A18 x17 k19 x20 A15 x14 k16 a w T S H
    refine Gets.seq ?_
    refine Gets.seq ?_
    refine rg ?_
    refine r_pv T rfl rfl fun _ T => ?_
    refine r_pv T rfl rfl fun _ T => ?_
    refine r_lenS T rfl Try.runUnderlying24 rfl fun _ T => ?_
    refine r_pv T rfl rfl fun _ T => ?_
    refine r_pv T rfl rfl fun _ T => ?_
    rcases ifE H with ⟨h21, H⟩ | ⟨h21, H⟩
    · refine g_yes T rfl rfl h21 ?_
      refine r_pv T rfl rfl fun _ T => ?_
      refine g_yes T rfl rfl h21 ?_
      refine r_pv T rfl rfl fun _ T => ?_
      refine g_yes T rfl rfl h21 ?_
      obtain ⟨h22, H⟩ := ck H
      refine r_ia (ix := 0) T S rfl rfl rfl rfl Try.runUnderlying24 Try.sizeOf5 h22.1 h22.2 rfl fun _ T => ?_
      refine g_yes T rfl rfl h21 ?_
      refine r_ldE (ix := 0) (i := x20) (off := 0) (f := (Value.int .u8)) T S rfl Try.isAgg5 rfl (0 : Int) _ rfl rfl (Fld.all _) h22.1 h22.2 (fun h => h) rfl fun _ T => ?_
      refine g_yes T rfl rfl h21 ?_
      refine r_pv T rfl rfl fun _ T => ?_
      refine r_pickT T rfl h21 rfl rfl fun _ T => ?_
      rcases ifE H with ⟨h23, H⟩ | ⟨h23, H⟩
      · refine cdT T rfl h23 ?_
        refine Gets.skip (Gets.block (Gets.seq ?_))
        refine rg ?_
        refine r_pv T rfl rfl fun _ T => ?_
        refine r_pv T rfl rfl fun _ T => ?_
        have h24 := S.len (i := 0) rfl
        obtain ⟨h25, H⟩ := ck H
        refine r_slR (ix := 0) (xs := x1) T S rfl rfl (fun h => by cases h) rfl rfl rfl h22.1 h25 (Int.le_refl _) (by omega) (by omega) Try.runUnderlying24 Try.sizeOf5 rfl fun _ A26 S T => ?_
        obtain ⟨x28, h27, H⟩ := bd H
        refine r_call T Try.call33 rfl rfl (sstable_entries.ok _ _ z (cut x1 (Int.toNat x20) (Int.toNat (x1.length : Int))) (S.sel (p := [sl .ro ku8 A26 (Int.toNat (k3 : Int) - Int.toNat x20) (cut x1 (Int.toNat x20) (Int.toNat (x1.length : Int)))]) (is := [0]) rfl) _ h27) ?_
        rintro _ _ ⟨A29, k30, rfl, S⟩
        refine ⟨_, rfl, fun _ T => ?_⟩
        replace S : SL ([sl .own kapi_Entry A29 k30 x28.1, sl .ro ku8 A26 (Int.toNat (k3 : Int) - Int.toNat x20) (cut x1 (Int.toNat x20) (Int.toNat (x1.length : Int))), sl .ro ku8 A2 k3 x1, blk b13 [.slice A12 x11.length x11.length, .slice A15 x14.length k16, .slice none 0 0, .int .i64 0, .int .i64 0], sl .own ku8 A12 x11.length x11, sl .own ksstable_block A15 k16 x14, sl .own kapi_Entry A18 k19 x17] ++ F) _ := S.join
        refine r_pv T rfl rfl fun _ T => ?_
        refine r_pv T rfl rfl fun _ T => ?_
        refine r_pv T rfl rfl fun _ T => ?_
        refine r_pv T rfl rfl fun _ T => ?_
        refine r_pv T rfl rfl fun _ T => ?_
        refine r_pv T rfl rfl fun _ T => ?_
        refine r_pv T rfl rfl fun _ T => ?_
        refine Gets.seq (Gets.seq ?_)
        refine rg ?_
        refine r_pv T rfl rfl fun _ T => ?_
        refine r_pv T rfl rfl fun _ T => ?_
        refine r_pv T rfl rfl fun _ T => ?_
        rcases ifE H with ⟨h31, H⟩ | ⟨h31, H⟩
        · refine g_no T rfl rfl h31 rfl fun _ T => ?_
          refine g_no T rfl rfl h31 rfl fun _ T => ?_
          refine g_no T rfl rfl h31 rfl fun _ T => ?_
          refine r_pickT T rfl h31 rfl rfl fun _ T => ?_
          refine cdT T rfl rfl ?_
          refine Gets.seq ?_
          exact J2_ok F r z x1 A2 k3 _ _ (T.sub trivial) (S.only (p := [sl .ro ku8 A2 k3 x1]) [2] rfl) H
        · refine g_yes T rfl rfl h31 ?_
          refine r_pv T rfl rfl fun _ T => ?_
          refine g_yes T rfl rfl h31 ?_
          refine r_lenS T rfl Try.runUnderlying22 rfl fun _ T => ?_
          refine g_yes T rfl rfl h31 ?_
          refine r_pv T rfl rfl fun _ T => ?_
          refine r_pickF T rfl h31 rfl rfl fun _ T => ?_
          rcases ifE H with ⟨h32, H⟩ | ⟨h32, H⟩
          · refine cdT T rfl h32 ?_
            refine Gets.seq ?_
            exact J2_ok F r z x1 A2 k3 _ _ (T.sub trivial) (S.only (p := [sl .ro ku8 A2 k3 x1]) [2] rfl) H
          · refine cdF T rfl h32 ?_
            refine Gets.skip (Gets.seq ?_)
            obtain ⟨h33, H⟩ := ck H
            replace S : SL ([sl .ro kapi_Entry A29 k30 x28.1, sl .ro ku8 A26 (Int.toNat (k3 : Int) - Int.toNat x20) (cut x1 (Int.toNat x20) (Int.toNat (x1.length : Int))), sl .ro ku8 A2 k3 x1, blk b13 [.slice A12 x11.length x11.length, .slice A15 x14.length k16, .slice none 0 0, .int .i64 0, .int .i64 0], sl .own ku8 A12 x11.length x11, sl .own ksstable_block A15 k16 x14, sl .own kapi_Entry A18 k19 x17] ++ F) _ := S.fixL (i := 0) rfl rfl
            obtain ⟨_, S⟩ := S.peek1 (ix := 0) (off := 0) (i := 0) rfl dapi_Entry fld_api_Entry_Key (by decide) h33 rfl
            obtain ⟨A34, k35, hv_, S_⟩ := SL.ofVal (l := _ :: _) S
            subst hv_
            replace S := S_
            obtain ⟨h36, H⟩ := ck H
            obtain ⟨_, S⟩ := S.peek1 (ix := 2) (off := 0) (i := wr .i64 ((x28.1.length : Int) - 1)) rfl dapi_Entry fld_api_Entry_Key h36.1 h36.2 rfl
            obtain ⟨A37, k38, hv_, S_⟩ := SL.ofVal (l := _ :: _) S
            subst hv_
            replace S := S_
            refine Gets.drawn (l := [sl .ro ku8 A37 k38 ((gi dapi_Entry x28.1 (wr .i64 ((x28.1.length : Int) - 1))).Key), cl A29 (Int.toNat (wr .i64 ((x28.1.length : Int) - 1)) * 4 + 0) [.slice A37 (((gi dapi_Entry x28.1 (wr .i64 ((x28.1.length : Int) - 1))).Key).length) k38], sl .ro ku8 A34 k35 ((gi dapi_Entry x28.1 0).Key), cl A29 (Int.toNat 0 * 4 + 0) [.slice A34 (((gi dapi_Entry x28.1 0).Key).length) k35], sl .ro kapi_Entry A29 k30 x28.1, sl .ro ku8 A26 (Int.toNat (k3 : Int) - Int.toNat x20) (cut x1 (Int.toNat x20) (Int.toNat (x1.length : Int))), sl .ro ku8 A2 k3 x1, blk b13 [.slice A12 x11.length x11.length, .slice A15 x14.length k16, .slice none 0 0, .int .i64 0, .int .i64 0], sl .own ku8 A12 x11.length x11, sl .own ksstable_block A15 k16 x14, sl .own kapi_Entry A18 k19 x17]) (V := [some (.pointer (some ⟨b13, 0, none⟩), true), some (.pointer (some ⟨b13, 0, none⟩), true), some (.pointer (some ⟨b13, 0, none⟩), true), some (.pointer (some ⟨b13, 1, none⟩), true), some (.slice A15 x14.length k16, true), some (.int .i64 x20, true), some (.int .i64 x20, true), some (.int .i64 x28.2.1, true), some (.int .i64 (wr .i64 (x20 + x28.2.1)), true), some (.slice A29 x28.1.length k30, true), some (.int .i64 (x28.1.length : Int), true), some (.slice A29 x28.1.length k30, true), some (.pointer (some (eA A29 (Int.toNat 0 * 4))), true), some (.pointer (some (eA A29 (Int.toNat 0 * 4 + 0))), true), some (.slice A34 (((gi dapi_Entry x28.1 0).Key).length) k35, true), some (.slice A29 x28.1.length k30, true), some (.slice A29 x28.1.length k30, true), some (.int .i64 (x28.1.length : Int), true), some (.int .i64 (wr .i64 ((x28.1.length : Int) - 1)), true), some (.pointer (some (eA A29 (Int.toNat (wr .i64 ((x28.1.length : Int) - 1)) * 4))), true), some (.pointer (some (eA A29 (Int.toNat (wr .i64 ((x28.1.length : Int) - 1)) * 4 + 0))), true), some (.slice A37 (((gi dapi_Entry x28.1 (wr .i64 ((x28.1.length : Int) - 1))).Key).length) k38, true), some (.agg #[.int .i64 x20, .int .i64 (wr .i64 (x20 + x28.2.1)), .int .i64 (x28.1.length : Int), .slice A34 (((gi dapi_Entry x28.1 0).Key).length) k35, .slice A37 (((gi dapi_Entry x28.1 (wr .i64 ((x28.1.length : Int) - 1))).Key).length) k38], true), none, none, none, none, none]) mixed T S rfl ?_
            refine stage (some 23) rfl rfl ⟨⟨_, [(4, .pointer (some ⟨b13, 0, none⟩))], rfl, ⟨.inr ⟨rfl, rfl⟩, trivial⟩, fun u a w T S => (by refine r_pv T rfl rfl fun _ T => ?_; exact ⟨rfl, T⟩)⟩, ⟨_, [(4, .pointer (some ⟨b13, 0, none⟩))], rfl, ⟨.inr ⟨rfl, rfl⟩, trivial⟩, fun u a w T S => (by refine r_pv T rfl rfl fun _ T => ?_; exact ⟨rfl, T⟩)⟩, ⟨_, [(53, .pointer (some ⟨b13, 0, none⟩))], rfl, ⟨.inl ⟨1, rfl, rfl, rfl, rfl⟩, trivial⟩, fun u a w T S => (by refine r_pv T rfl rfl fun _ T => ?_; exact ⟨rfl, T⟩)⟩, ⟨_, [(54, .pointer (some ⟨b13, 0, none⟩))], rfl, ⟨.inl ⟨2, rfl, rfl, rfl, rfl⟩, trivial⟩, fun u a w T S => (by refine r_fa (o' := 1) T rfl Try.runUnderlying69 rfl Try.sizeOf67 rfl rfl fun _ T => ?_; exact ⟨rfl, T⟩)⟩, ⟨_, [(55, .pointer (some ⟨b13, 1, none⟩))], rfl, ⟨.inl ⟨3, rfl, rfl, rfl, rfl⟩, trivial⟩, fun u a w T S => (by refine r_ldB (ix := 7) T S rfl Try.isAgg67 rfl rfl rfl fun _ T => ?_; exact ⟨rfl, T⟩)⟩, ⟨_, [(6, .int .i64 x20)], rfl, ⟨.inr ⟨rfl, rfl⟩, trivial⟩, fun u a w T S => (by refine r_pv T rfl rfl fun _ T => ?_; exact ⟨rfl, T⟩)⟩, ⟨_, [(6, .int .i64 x20)], rfl, ⟨.inr ⟨rfl, rfl⟩, trivial⟩, fun u a w T S => (by refine r_pv T rfl rfl fun _ T => ?_; exact ⟨rfl, T⟩)⟩, ⟨_, [(8, .int .i64 x28.2.1)], rfl, ⟨.inr ⟨rfl, rfl⟩, trivial⟩, fun u a w T S => (by refine r_pv T rfl rfl fun _ T => ?_; exact ⟨rfl, T⟩)⟩, ⟨_, [(58, .int .i64 x20), (59, .int .i64 x28.2.1)], rfl, ⟨.inl ⟨6, rfl, rfl, rfl, rfl⟩, .inl ⟨7, rfl, rfl, rfl, rfl⟩, trivial⟩, fun u a w T S => (by refine r_pv T rfl rfl fun _ T => ?_; exact ⟨rfl, T⟩)⟩, ⟨_, [(7, .slice A29 x28.1.length k30)], rfl, ⟨.inr ⟨rfl, rfl⟩, trivial⟩, fun u a w T S => (by refine r_pv T rfl rfl fun _ T => ?_; exact ⟨rfl, T⟩)⟩, ⟨_, [(61, .slice A29 x28.1.length k30)], rfl, ⟨.inl ⟨9, rfl, rfl, rfl, rfl⟩, trivial⟩, fun u a w T S => (by refine r_lenS T rfl Try.runUnderlying22 rfl fun _ T => ?_; exact ⟨rfl, T⟩)⟩, ⟨_, [(7, .slice A29 x28.1.length k30)], rfl, ⟨.inr ⟨rfl, rfl⟩, trivial⟩, fun u a w T S => (by refine r_pv T rfl rfl fun _ T => ?_; exact ⟨rfl, T⟩)⟩, ⟨_, [(63, .slice A29 x28.1.length k30)], rfl, ⟨.inl ⟨11, rfl, rfl, rfl, rfl⟩, trivial⟩, fun u a w T S => (by refine r_ia (ix := 4) T S rfl rfl rfl rfl Try.runUnderlying22 Try.sizeOf36 (by decide) h33 rfl fun _ T => ?_; exact ⟨rfl, T⟩)⟩, ⟨_, [(64, .pointer (some (eA A29 (Int.toNat 0 * 4))))], rfl, ⟨.inl ⟨12, rfl, rfl, rfl, rfl⟩, trivial⟩, fun u a w T S => (by refine r_faE T rfl Try.runUnderlying36 rfl Try.sizeOf24 rfl fun _ T => ?_; exact ⟨rfl, T⟩)⟩, ⟨_, [(65, .pointer (some (eA A29 (Int.toNat 0 * 4 + 0))))], rfl, ⟨.inl ⟨13, rfl, rfl, rfl, rfl⟩, trivial⟩, fun u a w T S => (by refine r_ldC (ix := 3) (A := A29) T S rfl rfl rfl Try.isAgg24 rfl fun _ T => ?_; exact ⟨rfl, T⟩)⟩, ⟨_, [(7, .slice A29 x28.1.length k30)], rfl, ⟨.inr ⟨rfl, rfl⟩, trivial⟩, fun u a w T S => (by refine r_pv T rfl rfl fun _ T => ?_; exact ⟨rfl, T⟩)⟩, ⟨_, [(7, .slice A29 x28.1.length k30)], rfl, ⟨.inr ⟨rfl, rfl⟩, trivial⟩, fun u a w T S => (by refine r_pv T rfl rfl fun _ T => ?_; exact ⟨rfl, T⟩)⟩, ⟨_, [(68, .slice A29 x28.1.length k30)], rfl, ⟨.inl ⟨16, rfl, rfl, rfl, rfl⟩, trivial⟩, fun u a w T S => (by refine r_lenS T rfl Try.runUnderlying22 rfl fun _ T => ?_; exact ⟨rfl, T⟩)⟩, ⟨_, [(69, .int .i64 (x28.1.length : Int))], rfl, ⟨.inl ⟨17, rfl, rfl, rfl, rfl⟩, trivial⟩, fun u a w T S => (by refine r_pv T rfl rfl fun _ T => ?_; exact ⟨rfl, T⟩)⟩, ⟨_, [(67, .slice A29 x28.1.length k30), (70, .int .i64 (wr .i64 ((x28.1.length : Int) - 1)))], rfl, ⟨.inl ⟨15, rfl, rfl, rfl, rfl⟩, .inl ⟨18, rfl, rfl, rfl, rfl⟩, trivial⟩, fun u a w T S => (by refine r_ia (ix := 4) T S rfl rfl rfl rfl Try.runUnderlying22 Try.sizeOf36 h36.1 h36.2 rfl fun _ T => ?_; exact ⟨rfl, T⟩)⟩, ⟨_, [(71, .pointer (some (eA A29 (Int.toNat (wr .i64 ((x28.1.length : Int) - 1)) * 4))))], rfl, ⟨.inl ⟨19, rfl, rfl, rfl, rfl⟩, trivial⟩, fun u a w T S => (by refine r_faE T rfl Try.runUnderlying36 rfl Try.sizeOf24 rfl fun _ T => ?_; exact ⟨rfl, T⟩)⟩, ⟨_, [(72, .pointer (some (eA A29 (Int.toNat (wr .i64 ((x28.1.length : Int) - 1)) * 4 + 0))))], rfl, ⟨.inl ⟨20, rfl, rfl, rfl, rfl⟩, trivial⟩, fun u a w T S => (by refine r_ldC (ix := 1) (A := A29) T S rfl rfl rfl Try.isAgg24 rfl fun _ T => ?_; exact ⟨rfl, T⟩)⟩, ⟨_, [(57, .int .i64 x20), (60, .int .i64 (wr .i64 (x20 + x28.2.1))), (62, .int .i64 (x28.1.length : Int)), (66, .slice A34 (((gi dapi_Entry x28.1 0).Key).length) k35), (73, .slice A37 (((gi dapi_Entry x28.1 (wr .i64 ((x28.1.length : Int) - 1))).Key).length) k38)], rfl, ⟨.inl ⟨5, rfl, rfl, rfl, rfl⟩, .inl ⟨8, rfl, rfl, rfl, rfl⟩, .inl ⟨10, rfl, rfl, rfl, rfl⟩, .inl ⟨14, rfl, rfl, rfl, rfl⟩, .inl ⟨21, rfl, rfl, rfl, rfl⟩, trivial⟩, fun u a w T S => (by refine r_build (cs := #[.int .i64 x20, .int .i64 (wr .i64 (x20 + x28.2.1)), .int .i64 (x28.1.length : Int), .slice A34 (((gi dapi_Entry x28.1 0).Key).length) k35, .slice A37 (((gi dapi_Entry x28.1 (wr .i64 ((x28.1.length : Int) - 1))).Key).length) k38]) T stt73 rfl rfl rfl fun _ T => ?_; exact ⟨rfl, T⟩)⟩, trivial⟩ rfl (fun i hi => ?_) (fun h => by cases h)
            cases hi
            refine ⟨rfl, _, [(74, .agg #[.int .i64 x20, .int .i64 (wr .i64 (x20 + x28.2.1)), .int .i64 (x28.1.length : Int), .slice A34 (((gi dapi_Entry x28.1 0).Key).length) k35, .slice A37 (((gi dapi_Entry x28.1 (wr .i64 ((x28.1.length : Int) - 1))).Key).length) k38])], rfl, ⟨.inl ⟨22, rfl, rfl, rfl, rfl⟩, trivial⟩, fun u a w T S => ?_⟩
            replace S : SL ([rp ksstable_block (sstable_block.mk x20 (wr .i64 (x20 + x28.2.1)) (x28.1.length : Int) ((gi dapi_Entry x28.1 0).Key) ((gi dapi_Entry x28.1 (wr .i64 ((x28.1.length : Int) - 1))).Key)) [.int .i64 x20, .int .i64 (wr .i64 (x20 + x28.2.1)), .int .i64 (x28.1.length : Int), .slice A34 (((gi dapi_Entry x28.1 0).Key).length) k35, .slice A37 (((gi dapi_Entry x28.1 (wr .i64 ((x28.1.length : Int) - 1))).Key).length) k38], sl .ro ku8 A37 k38 ((gi dapi_Entry x28.1 (wr .i64 ((x28.1.length : Int) - 1))).Key), cl A29 (Int.toNat (wr .i64 ((x28.1.length : Int) - 1)) * 4 + 0) [.slice A37 (((gi dapi_Entry x28.1 (wr .i64 ((x28.1.length : Int) - 1))).Key).length) k38], sl .ro ku8 A34 k35 ((gi dapi_Entry x28.1 0).Key), cl A29 (Int.toNat 0 * 4 + 0) [.slice A34 (((gi dapi_Entry x28.1 0).Key).length) k35], sl .ro kapi_Entry A29 k30 x28.1, sl .ro ku8 A26 (Int.toNat (k3 : Int) - Int.toNat x20) (cut x1 (Int.toNat x20) (Int.toNat (x1.length : Int))), sl .ro ku8 A2 k3 x1, blk b13 [.slice A12 x11.length x11.length, .slice A15 x14.length k16, .slice none 0 0, .int .i64 0, .int .i64 0], sl .own ku8 A12 x11.length x11, sl .own ksstable_block A15 k16 x14, sl .own kapi_Entry A18 k19 x17] ++ F) _ := cl_sstable_block (i0 := 2) (i1 := 0) S rfl rfl
            refine r_bsl (κ := ksstable_block) (xs := [(sstable_block.mk x20 (wr .i64 (x20 + x28.2.1)) (x28.1.length : Int) ((gi dapi_Entry x28.1 0).Key) ((gi dapi_Entry x28.1 (wr .i64 ((x28.1.length : Int) - 1))).Key))]) (vs := [.agg #[.int .i64 x20, .int .i64 (wr .i64 (x20 + x28.2.1)), .int .i64 (x28.1.length : Int), .slice A34 (((gi dapi_Entry x28.1 0).Key).length) k35, .slice A37 (((gi dapi_Entry x28.1 (wr .i64 ((x28.1.length : Int) - 1))).Key).length) k38]]) T S sty67 rfl ⟨_, _, rfl, ⟨0, rfl⟩, rfl⟩ rfl (by decide) rfl fun _ _ b39 S T => ?_
            replace S : SL ([sl .own ksstable_block (some ⟨b39, 0, none⟩) 1 [(sstable_block.mk x20 (wr .i64 (x20 + x28.2.1)) (x28.1.length : Int) ((gi dapi_Entry x28.1 0).Key) ((gi dapi_Entry x28.1 (wr .i64 ((x28.1.length : Int) - 1))).Key))], sl .ro ku8 A37 k38 ((gi dapi_Entry x28.1 (wr .i64 ((x28.1.length : Int) - 1))).Key), cl A29 (Int.toNat (wr .i64 ((x28.1.length : Int) - 1)) * 4 + 0) [.slice A37 (((gi dapi_Entry x28.1 (wr .i64 ((x28.1.length : Int) - 1))).Key).length) k38], sl .ro ku8 A34 k35 ((gi dapi_Entry x28.1 0).Key), cl A29 (Int.toNat 0 * 4 + 0) [.slice A34 (((gi dapi_Entry x28.1 0).Key).length) k35], sl .ro kapi_Entry A29 k30 x28.1, sl .ro ku8 A26 (Int.toNat (k3 : Int) - Int.toNat x20) (cut x1 (Int.toNat x20) (Int.toNat (x1.length : Int))), sl .ro ku8 A2 k3 x1, blk b13 [.slice A12 x11.length x11.length, .slice A15 x14.length k16, .slice none 0 0, .int .i64 0, .int .i64 0], sl .own ku8 A12 x11.length x11, sl .own ksstable_block A15 k16 x14, sl .own kapi_Entry A18 k19 x17] ++ F) _ := S.only [0, 1, 1, 1, 1, 1, 1, 1, 1, 1, 1, 1] rfl
            refine ⟨_, [some (.pointer (some ⟨b13, 0, none⟩), true), some (.pointer (some ⟨b13, 0, none⟩), true), some (.pointer (some ⟨b13, 0, none⟩), true), some (.pointer (some ⟨b13, 1, none⟩), true), some (.slice A15 x14.length k16, true), some (.int .i64 x20, true), some (.int .i64 x20, true), some (.int .i64 x28.2.1, true), some (.int .i64 (wr .i64 (x20 + x28.2.1)), true), some (.slice A29 x28.1.length k30, true), some (.int .i64 (x28.1.length : Int), true), some (.slice A29 x28.1.length k30, true), some (.pointer (some (eA A29 (Int.toNat 0 * 4))), true), some (.pointer (some (eA A29 (Int.toNat 0 * 4 + 0))), true), some (.slice A34 (((gi dapi_Entry x28.1 0).Key).length) k35, true), some (.slice A29 x28.1.length k30, true), some (.slice A29 x28.1.length k30, true), some (.int .i64 (x28.1.length : Int), true), some (.int .i64 (wr .i64 ((x28.1.length : Int) - 1)), true), some (.pointer (some (eA A29 (Int.toNat (wr .i64 ((x28.1.length : Int) - 1)) * 4))), true), some (.pointer (some (eA A29 (Int.toNat (wr .i64 ((x28.1.length : Int) - 1)) * 4 + 0))), true), some (.slice A37 (((gi dapi_Entry x28.1 (wr .i64 ((x28.1.length : Int) - 1))).Key).length) k38, true), some (.agg #[.int .i64 x20, .int .i64 (wr .i64 (x20 + x28.2.1)), .int .i64 (x28.1.length : Int), .slice A34 (((gi dapi_Entry x28.1 0).Key).length) k35, .slice A37 (((gi dapi_Entry x28.1 (wr .i64 ((x28.1.length : Int) - 1))).Key).length) k38], false), some (.slice (some ⟨b39, 0, none⟩) 1 1, false), none, none, none, none], [sl .own ksstable_block (some ⟨b39, 0, none⟩) 1 [(sstable_block.mk x20 (wr .i64 (x20 + x28.2.1)) (x28.1.length : Int) ((gi dapi_Entry x28.1 0).Key) ((gi dapi_Entry x28.1 (wr .i64 ((x28.1.length : Int) - 1))).Key))], sl .ro ku8 A37 k38 ((gi dapi_Entry x28.1 (wr .i64 ((x28.1.length : Int) - 1))).Key), cl A29 (Int.toNat (wr .i64 ((x28.1.length : Int) - 1)) * 4 + 0) [.slice A37 (((gi dapi_Entry x28.1 (wr .i64 ((x28.1.length : Int) - 1))).Key).length) k38], sl .ro ku8 A34 k35 ((gi dapi_Entry x28.1 0).Key), cl A29 (Int.toNat 0 * 4 + 0) [.slice A34 (((gi dapi_Entry x28.1 0).Key).length) k35], sl .ro kapi_Entry A29 k30 x28.1, sl .ro ku8 A26 (Int.toNat (k3 : Int) - Int.toNat x20) (cut x1 (Int.toNat x20) (Int.toNat (x1.length : Int))), sl .ro ku8 A2 k3 x1, blk b13 [.slice A12 x11.length x11.length, .slice A15 x14.length k16, .slice none 0 0, .int .i64 0, .int .i64 0], sl .own ku8 A12 x11.length x11, sl .own ksstable_block A15 k16 x14, sl .own kapi_Entry A18 k19 x17], rfl, ⟨.inr ⟨_, _, _, rfl, rfl⟩, .inr ⟨_, _, _, rfl, rfl⟩, .inr ⟨_, _, _, rfl, rfl⟩, .inr ⟨_, _, _, rfl, rfl⟩, .inr ⟨_, _, _, rfl, rfl⟩, .inr ⟨_, _, _, rfl, rfl⟩, .inr ⟨_, _, _, rfl, rfl⟩, .inr ⟨_, _, _, rfl, rfl⟩, .inr ⟨_, _, _, rfl, rfl⟩, .inr ⟨_, _, _, rfl, rfl⟩, .inr ⟨_, _, _, rfl, rfl⟩, .inr ⟨_, _, _, rfl, rfl⟩, .inr ⟨_, _, _, rfl, rfl⟩, .inr ⟨_, _, _, rfl, rfl⟩, .inr ⟨_, _, _, rfl, rfl⟩, .inr ⟨_, _, _, rfl, rfl⟩, .inr ⟨_, _, _, rfl, rfl⟩, .inr ⟨_, _, _, rfl, rfl⟩, .inr ⟨_, _, _, rfl, rfl⟩, .inr ⟨_, _, _, rfl, rfl⟩, .inr ⟨_, _, _, rfl, rfl⟩, .inr ⟨_, _, _, rfl, rfl⟩, .inr ⟨_, _, _, rfl, rfl⟩, .inl rfl, .inl rfl, .inl rfl, .inl rfl, .inl rfl, trivial⟩, rfl, ?_, T, S⟩
            refine stage (some 24) rfl rfl ⟨⟨_, [(4, .pointer (some ⟨b13, 0, none⟩))], rfl, ⟨.inr ⟨rfl, rfl⟩, trivial⟩, fun u a w T S => (by refine r_pv T rfl rfl fun _ T => ?_; exact ⟨rfl, T⟩)⟩, ⟨_, [(4, .pointer (some ⟨b13, 0, none⟩))], rfl, ⟨.inr ⟨rfl, rfl⟩, trivial⟩, fun u a w T S => (by refine r_pv T rfl rfl fun _ T => ?_; exact ⟨rfl, T⟩)⟩, ⟨_, [(53, .pointer (some ⟨b13, 0, none⟩))], rfl, ⟨.inl ⟨1, rfl, rfl, rfl, rfl⟩, trivial⟩, fun u a w T S => (by refine r_pv T rfl rfl fun _ T => ?_; exact ⟨rfl, T⟩)⟩, ⟨_, [(54, .pointer (some ⟨b13, 0, none⟩))], rfl, ⟨.inl ⟨2, rfl, rfl, rfl, rfl⟩, trivial⟩, fun u a w T S => (by refine r_fa (o' := 1) T rfl Try.runUnderlying69 rfl Try.sizeOf67 rfl rfl fun _ T => ?_; exact ⟨rfl, T⟩)⟩, ⟨_, [(55, .pointer (some ⟨b13, 1, none⟩))], rfl, ⟨.inl ⟨3, rfl, rfl, rfl, rfl⟩, trivial⟩, fun u a w T S => (by refine r_ldB (ix := 8) T S rfl Try.isAgg67 rfl rfl rfl fun _ T => ?_; exact ⟨rfl, T⟩)⟩, ⟨_, [(6, .int .i64 x20)], rfl, ⟨.inr ⟨rfl, rfl⟩, trivial⟩, fun u a w T S => (by refine r_pv T rfl rfl fun _ T => ?_; exact ⟨rfl, T⟩)⟩, ⟨_, [(6, .int .i64 x20)], rfl, ⟨.inr ⟨rfl, rfl⟩, trivial⟩, fun u a w T S => (by refine r_pv T rfl rfl fun _ T => ?_; exact ⟨rfl, T⟩)⟩, ⟨_, [(8, .int .i64 x28.2.1)], rfl, ⟨.inr ⟨rfl, rfl⟩, trivial⟩, fun u a w T S => (by refine r_pv T rfl rfl fun _ T => ?_; exact ⟨rfl, T⟩)⟩, ⟨_, [(58, .int .i64 x20), (59, .int .i64 x28.2.1)], rfl, ⟨.inl ⟨6, rfl, rfl, rfl, rfl⟩, .inl ⟨7, rfl, rfl, rfl, rfl⟩, trivial⟩, fun u a w T S => (by refine r_pv T rfl rfl fun _ T => ?_; exact ⟨rfl, T⟩)⟩, ⟨_, [(7, .slice A29 x28.1.length k30)], rfl, ⟨.inr ⟨rfl, rfl⟩, trivial⟩, fun u a w T S => (by refine r_pv T rfl rfl fun _ T => ?_; exact ⟨rfl, T⟩)⟩, ⟨_, [(61, .slice A29 x28.1.length k30)], rfl, ⟨.inl ⟨9, rfl, rfl, rfl, rfl⟩, trivial⟩, fun u a w T S => (by refine r_lenS T rfl Try.runUnderlying22 rfl fun _ T => ?_; exact ⟨rfl, T⟩)⟩, ⟨_, [(7, .slice A29 x28.1.length k30)], rfl, ⟨.inr ⟨rfl, rfl⟩, trivial⟩, fun u a w T S => (by refine r_pv T rfl rfl fun _ T => ?_; exact ⟨rfl, T⟩)⟩, ⟨_, [(63, .slice A29 x28.1.length k30)], rfl, ⟨.inl ⟨11, rfl, rfl, rfl, rfl⟩, trivial⟩, fun u a w T S => (by refine r_ia (ix := 5) T S rfl rfl rfl rfl Try.runUnderlying22 Try.sizeOf36 (by decide) h33 rfl fun _ T => ?_; exact ⟨rfl, T⟩)⟩, ⟨_, [(64, .pointer (some (eA A29 (Int.toNat 0 * 4))))], rfl, ⟨.inl ⟨12, rfl, rfl, rfl, rfl⟩, trivial⟩, fun u a w T S => (by refine r_faE T rfl Try.runUnderlying36 rfl Try.sizeOf24 rfl fun _ T => ?_; exact ⟨rfl, T⟩)⟩, ⟨_, [(65, .pointer (some (eA A29 (Int.toNat 0 * 4 + 0))))], rfl, ⟨.inl ⟨13, rfl, rfl, rfl, rfl⟩, trivial⟩, fun u a w T S => (by refine r_ldC (ix := 4) (A := A29) T S rfl rfl rfl Try.isAgg24 rfl fun _ T => ?_; exact ⟨rfl, T⟩)⟩, ⟨_, [(7, .slice A29 x28.1.length k30)], rfl, ⟨.inr ⟨rfl, rfl⟩, trivial⟩, fun u a w T S => (by refine r_pv T rfl rfl fun _ T => ?_; exact ⟨rfl, T⟩)⟩, ⟨_, [(7, .slice A29 x28.1.length k30)], rfl, ⟨.inr ⟨rfl, rfl⟩, trivial⟩, fun u a w T S => (by refine r_pv T rfl rfl fun _ T => ?_; exact ⟨rfl, T⟩)⟩, ⟨_, [(68, .slice A29 x28.1.length k30)], rfl, ⟨.inl ⟨16, rfl, rfl, rfl, rfl⟩, trivial⟩, fun u a w T S => (by refine r_lenS T rfl Try.runUnderlying22 rfl fun _ T => ?_; exact ⟨rfl, T⟩)⟩, ⟨_, [(69, .int .i64 (x28.1.length : Int))], rfl, ⟨.inl ⟨17, rfl, rfl, rfl, rfl⟩, trivial⟩, fun u a w T S => (by refine r_pv T rfl rfl fun _ T => ?_; exact ⟨rfl, T⟩)⟩, ⟨_, [(67, .slice A29 x28.1.length k30), (70, .int .i64 (wr .i64 ((x28.1.length : Int) - 1)))], rfl, ⟨.inl ⟨15, rfl, rfl, rfl, rfl⟩, .inl ⟨18, rfl, rfl, rfl, rfl⟩, trivial⟩, fun u a w T S => (by refine r_ia (ix := 5) T S rfl rfl rfl rfl Try.runUnderlying22 Try.sizeOf36 h36.1 h36.2 rfl fun _ T => ?_; exact ⟨rfl, T⟩)⟩, ⟨_, [(71, .pointer (some (eA A29 (Int.toNat (wr .i64 ((x28.1.length : Int) - 1)) * 4))))], rfl, ⟨.inl ⟨19, rfl, rfl, rfl, rfl⟩, trivial⟩, fun u a w T S => (by refine r_faE T rfl Try.runUnderlying36 rfl Try.sizeOf24 rfl fun _ T => ?_; exact ⟨rfl, T⟩)⟩, ⟨_, [(72, .pointer (some (eA A29 (Int.toNat (wr .i64 ((x28.1.length : Int) - 1)) * 4 + 0))))], rfl, ⟨.inl ⟨20, rfl, rfl, rfl, rfl⟩, trivial⟩, fun u a w T S => (by refine r_ldC (ix := 2) (A := A29) T S rfl rfl rfl Try.isAgg24 rfl fun _ T => ?_; exact ⟨rfl, T⟩)⟩, trivial⟩ rfl (fun i hi => ?_) (fun h => by cases h)
            cases hi
            refine ⟨rfl, _, [(56, .slice A15 x14.length k16), (75, .slice (some ⟨b39, 0, none⟩) 1 1)], rfl, ⟨.inl ⟨4, rfl, rfl, rfl, rfl⟩, .inl ⟨23, rfl, rfl, rfl, rfl⟩, trivial⟩, fun u a w T S => ?_⟩
            obtain ⟨h42, H⟩ := ck H
            refine r_app (ix := 10) (iy := 0) (xs := x14) (ys := [(sstable_block.mk x20 (wr .i64 (x20 + x28.2.1)) (x28.1.length : Int) ((gi dapi_Entry x28.1 0).Key) ((gi dapi_Entry x28.1 (wr .i64 ((x28.1.length : Int) - 1))).Key))]) T S rfl rfl rfl rfl (by decide) sty67 Try.runUnderlying67 (by decide) h42 rfl fun _ _ A40 k41 S T => ?_
            replace S : SL ([sl .own ksstable_block (some ⟨b39, 0, none⟩) 1 [(sstable_block.mk x20 (wr .i64 (x20 + x28.2.1)) (x28.1.length : Int) ((gi dapi_Entry x28.1 0).Key) ((gi dapi_Entry x28.1 (wr .i64 ((x28.1.length : Int) - 1))).Key))], sl .ro ku8 A37 k38 ((gi dapi_Entry x28.1 (wr .i64 ((x28.1.length : Int) - 1))).Key), cl A29 (Int.toNat (wr .i64 ((x28.1.length : Int) - 1)) * 4 + 0) [.slice A37 (((gi dapi_Entry x28.1 (wr .i64 ((x28.1.length : Int) - 1))).Key).length) k38], sl .ro ku8 A34 k35 ((gi dapi_Entry x28.1 0).Key), cl A29 (Int.toNat 0 * 4 + 0) [.slice A34 (((gi dapi_Entry x28.1 0).Key).length) k35], sl .ro kapi_Entry A29 k30 x28.1, sl .ro ku8 A26 (Int.toNat (k3 : Int) - Int.toNat x20) (cut x1 (Int.toNat x20) (Int.toNat (x1.length : Int))), sl .ro ku8 A2 k3 x1, blk b13 [.slice A12 x11.length x11.length, .slice A15 x14.length k16, .slice none 0 0, .int .i64 0, .int .i64 0], sl .own ku8 A12 x11.length x11, sl .own ksstable_block A40 k41 (x14 ++ [(sstable_block.mk x20 (wr .i64 (x20 + x28.2.1)) (x28.1.length : Int) ((gi dapi_Entry x28.1 0).Key) ((gi dapi_Entry x28.1 (wr .i64 ((x28.1.length : Int) - 1))).Key))]), sl .own kapi_Entry A18 k19 x17] ++ F) _ := S
            refine ⟨_, [some (.pointer (some ⟨b13, 0, none⟩), true), some (.pointer (some ⟨b13, 0, none⟩), true), some (.pointer (some ⟨b13, 0, none⟩), true), some (.pointer (some ⟨b13, 1, none⟩), true), some (.slice A15 x14.length k16, false), some (.int .i64 x20, true), some (.int .i64 x20, true), some (.int .i64 x28.2.1, true), some (.int .i64 (wr .i64 (x20 + x28.2.1)), true), some (.slice A29 x28.1.length k30, true), some (.int .i64 (x28.1.length : Int), true), some (.slice A29 x28.1.length k30, true), some (.pointer (some (eA A29 (Int.toNat 0 * 4))), true), some (.pointer (some (eA A29 (Int.toNat 0 * 4 + 0))), true), some (.slice A34 (((gi dapi_Entry x28.1 0).Key).length) k35, true), some (.slice A29 x28.1.length k30, true), some (.slice A29 x28.1.length k30, true), some (.int .i64 (x28.1.length : Int), true), some (.int .i64 (wr .i64 ((x28.1.length : Int) - 1)), true), some (.pointer (some (eA A29 (Int.toNat (wr .i64 ((x28.1.length : Int) - 1)) * 4))), true), some (.pointer (some (eA A29 (Int.toNat (wr .i64 ((x28.1.length : Int) - 1)) * 4 + 0))), true), some (.slice A37 (((gi dapi_Entry x28.1 (wr .i64 ((x28.1.length : Int) - 1))).Key).length) k38, true), some (.agg #[.int .i64 x20, .int .i64 (wr .i64 (x20 + x28.2.1)), .int .i64 (x28.1.length : Int), .slice A34 (((gi dapi_Entry x28.1 0).Key).length) k35, .slice A37 (((gi dapi_Entry x28.1 (wr .i64 ((x28.1.length : Int) - 1))).Key).length) k38], false), some (.slice (some ⟨b39, 0, none⟩) 1 1, false), some (.slice A40 ((x14 ++ [(sstable_block.mk x20 (wr .i64 (x20 + x28.2.1)) (x28.1.length : Int) ((gi dapi_Entry x28.1 0).Key) ((gi dapi_Entry x28.1 (wr .i64 ((x28.1.length : Int) - 1))).Key))]).length) k41, false), some (.pointer (some ⟨b13, 0, none⟩), true), some (.pointer (some ⟨b13, 1, none⟩), true), none], [sl .own ksstable_block (some ⟨b39, 0, none⟩) 1 [(sstable_block.mk x20 (wr .i64 (x20 + x28.2.1)) (x28.1.length : Int) ((gi dapi_Entry x28.1 0).Key) ((gi dapi_Entry x28.1 (wr .i64 ((x28.1.length : Int) - 1))).Key))], sl .ro ku8 A37 k38 ((gi dapi_Entry x28.1 (wr .i64 ((x28.1.length : Int) - 1))).Key), cl A29 (Int.toNat (wr .i64 ((x28.1.length : Int) - 1)) * 4 + 0) [.slice A37 (((gi dapi_Entry x28.1 (wr .i64 ((x28.1.length : Int) - 1))).Key).length) k38], sl .ro ku8 A34 k35 ((gi dapi_Entry x28.1 0).Key), cl A29 (Int.toNat 0 * 4 + 0) [.slice A34 (((gi dapi_Entry x28.1 0).Key).length) k35], sl .ro kapi_Entry A29 k30 x28.1, sl .ro ku8 A26 (Int.toNat (k3 : Int) - Int.toNat x20) (cut x1 (Int.toNat x20) (Int.toNat (x1.length : Int))), sl .ro ku8 A2 k3 x1, blk b13 [.slice A12 x11.length x11.length, .slice A15 x14.length k16, .slice none 0 0, .int .i64 0, .int .i64 0], sl .own ku8 A12 x11.length x11, sl .own ksstable_block A40 k41 (x14 ++ [(sstable_block.mk x20 (wr .i64 (x20 + x28.2.1)) (x28.1.length : Int) ((gi dapi_Entry x28.1 0).Key) ((gi dapi_Entry x28.1 (wr .i64 ((x28.1.length : Int) - 1))).Key))]), sl .own kapi_Entry A18 k19 x17], rfl, ⟨.inr ⟨_, _, _, rfl, rfl⟩, .inr ⟨_, _, _, rfl, rfl⟩, .inr ⟨_, _, _, rfl, rfl⟩, .inr ⟨_, _, _, rfl, rfl⟩, .inr ⟨_, _, _, rfl, rfl⟩, .inr ⟨_, _, _, rfl, rfl⟩, .inr ⟨_, _, _, rfl, rfl⟩, .inr ⟨_, _, _, rfl, rfl⟩, .inr ⟨_, _, _, rfl, rfl⟩, .inr ⟨_, _, _, rfl, rfl⟩, .inr ⟨_, _, _, rfl, rfl⟩, .inr ⟨_, _, _, rfl, rfl⟩, .inr ⟨_, _, _, rfl, rfl⟩, .inr ⟨_, _, _, rfl, rfl⟩, .inr ⟨_, _, _, rfl, rfl⟩, .inr ⟨_, _, _, rfl, rfl⟩, .inr ⟨_, _, _, rfl, rfl⟩, .inr ⟨_, _, _, rfl, rfl⟩, .inr ⟨_, _, _, rfl, rfl⟩, .inr ⟨_, _, _, rfl, rfl⟩, .inr ⟨_, _, _, rfl, rfl⟩, .inr ⟨_, _, _, rfl, rfl⟩, .inr ⟨_, _, _, rfl, rfl⟩, .inr ⟨_, _, _, rfl, rfl⟩, .inl rfl, .inl rfl, .inl rfl, .inl rfl, trivial⟩, rfl, ?_, T, S⟩
            refine stage (some 27) rfl rfl ⟨⟨_, [(4, .pointer (some ⟨b13, 0, none⟩))], rfl, ⟨.inr ⟨rfl, rfl⟩, trivial⟩, fun u a w T S => (by refine r_pv T rfl rfl fun _ T => ?_; exact ⟨rfl, T⟩)⟩, ⟨_, [(4, .pointer (some ⟨b13, 0, none⟩))], rfl, ⟨.inr ⟨rfl, rfl⟩, trivial⟩, fun u a w T S => (by refine r_pv T rfl rfl fun _ T => ?_; exact ⟨rfl, T⟩)⟩, ⟨_, [(53, .pointer (some ⟨b13, 0, none⟩))], rfl, ⟨.inl ⟨1, rfl, rfl, rfl, rfl⟩, trivial⟩, fun u a w T S => (by refine r_pv T rfl rfl fun _ T => ?_; exact ⟨rfl, T⟩)⟩, ⟨_, [(54, .pointer (some ⟨b13, 0, none⟩))], rfl, ⟨.inl ⟨2, rfl, rfl, rfl, rfl⟩, trivial⟩, fun u a w T S => (by refine r_fa (o' := 1) T rfl Try.runUnderlying69 rfl Try.sizeOf67 rfl rfl fun _ T => ?_; exact ⟨rfl, T⟩)⟩, ⟨_, [(6, .int .i64 x20)], rfl, ⟨.inr ⟨rfl, rfl⟩, trivial⟩, fun u a w T S => (by refine r_pv T rfl rfl fun _ T => ?_; exact ⟨rfl, T⟩)⟩, ⟨_, [(6, .int .i64 x20)], rfl, ⟨.inr ⟨rfl, rfl⟩, trivial⟩, fun u a w T S => (by refine r_pv T rfl rfl fun _ T => ?_; exact ⟨rfl, T⟩)⟩, ⟨_, [(8, .int .i64 x28.2.1)], rfl, ⟨.inr ⟨rfl, rfl⟩, trivial⟩, fun u a w T S => (by refine r_pv T rfl rfl fun _ T => ?_; exact ⟨rfl, T⟩)⟩, ⟨_, [(58, .int .i64 x20), (59, .int .i64 x28.2.1)], rfl, ⟨.inl ⟨6, rfl, rfl, rfl, rfl⟩, .inl ⟨7, rfl, rfl, rfl, rfl⟩, trivial⟩, fun u a w T S => (by refine r_pv T rfl rfl fun _ T => ?_; exact ⟨rfl, T⟩)⟩, ⟨_, [(7, .slice A29 x28.1.length k30)], rfl, ⟨.inr ⟨rfl, rfl⟩, trivial⟩, fun u a w T S => (by refine r_pv T rfl rfl fun _ T => ?_; exact ⟨rfl, T⟩)⟩, ⟨_, [(61, .slice A29 x28.1.length k30)], rfl, ⟨.inl ⟨9, rfl, rfl, rfl, rfl⟩, trivial⟩, fun u a w T S => (by refine r_lenS T rfl Try.runUnderlying22 rfl fun _ T => ?_; exact ⟨rfl, T⟩)⟩, ⟨_, [(7, .slice A29 x28.1.length k30)], rfl, ⟨.inr ⟨rfl, rfl⟩, trivial⟩, fun u a w T S => (by refine r_pv T rfl rfl fun _ T => ?_; exact ⟨rfl, T⟩)⟩, ⟨_, [(63, .slice A29 x28.1.length k30)], rfl, ⟨.inl ⟨11, rfl, rfl, rfl, rfl⟩, trivial⟩, fun u a w T S => (by refine r_ia (ix := 5) T S rfl rfl rfl rfl Try.runUnderlying22 Try.sizeOf36 (by decide) h33 rfl fun _ T => ?_; exact ⟨rfl, T⟩)⟩, ⟨_, [(64, .pointer (some (eA A29 (Int.toNat 0 * 4))))], rfl, ⟨.inl ⟨12, rfl, rfl, rfl, rfl⟩, trivial⟩, fun u a w T S => (by refine r_faE T rfl Try.runUnderlying36 rfl Try.sizeOf24 rfl fun _ T => ?_; exact ⟨rfl, T⟩)⟩, ⟨_, [(65, .pointer (some (eA A29 (Int.toNat 0 * 4 + 0))))], rfl, ⟨.inl ⟨13, rfl, rfl, rfl, rfl⟩, trivial⟩, fun u a w T S => (by refine r_ldC (ix := 4) (A := A29) T S rfl rfl rfl Try.isAgg24 rfl fun _ T => ?_; exact ⟨rfl, T⟩)⟩, ⟨_, [(7, .slice A29 x28.1.length k30)], rfl, ⟨.inr ⟨rfl, rfl⟩, trivial⟩, fun u a w T S => (by refine r_pv T rfl rfl fun _ T => ?_; exact ⟨rfl, T⟩)⟩, ⟨_, [(7, .slice A29 x28.1.length k30)], rfl, ⟨.inr ⟨rfl, rfl⟩, trivial⟩, fun u a w T S => (by refine r_pv T rfl rfl fun _ T => ?_; exact ⟨rfl, T⟩)⟩, ⟨_, [(68, .slice A29 x28.1.length k30)], rfl, ⟨.inl ⟨16, rfl, rfl, rfl, rfl⟩, trivial⟩, fun u a w T S => (by refine r_lenS T rfl Try.runUnderlying22 rfl fun _ T => ?_; exact ⟨rfl, T⟩)⟩, ⟨_, [(69, .int .i64 (x28.1.length : Int))], rfl, ⟨.inl ⟨17, rfl, rfl, rfl, rfl⟩, trivial⟩, fun u a w T S => (by refine r_pv T rfl rfl fun _ T => ?_; exact ⟨rfl, T⟩)⟩, ⟨_, [(67, .slice A29 x28.1.length k30), (70, .int .i64 (wr .i64 ((x28.1.length : Int) - 1)))], rfl, ⟨.inl ⟨15, rfl, rfl, rfl, rfl⟩, .inl ⟨18, rfl, rfl, rfl, rfl⟩, trivial⟩, fun u a w T S => (by refine r_ia (ix := 5) T S rfl rfl rfl rfl Try.runUnderlying22 Try.sizeOf36 h36.1 h36.2 rfl fun _ T => ?_; exact ⟨rfl, T⟩)⟩, ⟨_, [(71, .pointer (some (eA A29 (Int.toNat (wr .i64 ((x28.1.length : Int) - 1)) * 4))))], rfl, ⟨.inl ⟨19, rfl, rfl, rfl, rfl⟩, trivial⟩, fun u a w T S => (by refine r_faE T rfl Try.runUnderlying36 rfl Try.sizeOf24 rfl fun _ T => ?_; exact ⟨rfl, T⟩)⟩, ⟨_, [(72, .pointer (some (eA A29 (Int.toNat (wr .i64 ((x28.1.length : Int) - 1)) * 4 + 0))))], rfl, ⟨.inl ⟨20, rfl, rfl, rfl, rfl⟩, trivial⟩, fun u a w T S => (by refine r_ldC (ix := 2) (A := A29) T S rfl rfl rfl Try.isAgg24 rfl fun _ T => ?_; exact ⟨rfl, T⟩)⟩, ⟨_, [(52, .pointer (some ⟨b13, 0, none⟩))], rfl, ⟨.inl ⟨0, rfl, rfl, rfl, rfl⟩, trivial⟩, fun u a w T S => (by refine r_pv T rfl rfl fun _ T => ?_; exact ⟨rfl, T⟩)⟩, ⟨_, [(77, .pointer (some ⟨b13, 0, none⟩))], rfl, ⟨.inl ⟨25, rfl, rfl, rfl, rfl⟩, trivial⟩, fun u a w T S => (by refine r_fa (o' := 1) T rfl Try.runUnderlying69 rfl Try.sizeOf67 rfl rfl fun _ T => ?_; exact ⟨rfl, T⟩)⟩, trivial⟩ rfl (fun i hi => ?_) (fun h => by cases h)
            cases hi
            refine ⟨rfl, _, [(76, .slice A40 ((x14 ++ [(sstable_block.mk x20 (wr .i64 (x20 + x28.2.1)) (x28.1.length : Int) ((gi dapi_Entry x28.1 0).Key) ((gi dapi_Entry x28.1 (wr .i64 ((x28.1.length : Int) - 1))).Key))]).length) k41), (78, .pointer (some ⟨b13, 1, none⟩))], rfl, ⟨.inl ⟨24, rfl, rfl, rfl, rfl⟩, .inl ⟨26, rfl, rfl, rfl, rfl⟩, trivial⟩, fun u a w T S => ?_⟩
            refine r_stB (ix := 8) (l' := [sl .own ksstable_block (some ⟨b39, 0, none⟩) 1 [(sstable_block.mk x20 (wr .i64 (x20 + x28.2.1)) (x28.1.length : Int) ((gi dapi_Entry x28.1 0).Key) ((gi dapi_Entry x28.1 (wr .i64 ((x28.1.length : Int) - 1))).Key))], sl .ro ku8 A37 k38 ((gi dapi_Entry x28.1 (wr .i64 ((x28.1.length : Int) - 1))).Key), cl A29 (Int.toNat (wr .i64 ((x28.1.length : Int) - 1)) * 4 + 0) [.slice A37 (((gi dapi_Entry x28.1 (wr .i64 ((x28.1.length : Int) - 1))).Key).length) k38], sl .ro ku8 A34 k35 ((gi dapi_Entry x28.1 0).Key), cl A29 (Int.toNat 0 * 4 + 0) [.slice A34 (((gi dapi_Entry x28.1 0).Key).length) k35], sl .ro kapi_Entry A29 k30 x28.1, sl .ro ku8 A26 (Int.toNat (k3 : Int) - Int.toNat x20) (cut x1 (Int.toNat x20) (Int.toNat (x1.length : Int))), sl .ro ku8 A2 k3 x1, blk b13 [.slice A12 x11.length x11.length, .slice A40 ((x14 ++ [(sstable_block.mk x20 (wr .i64 (x20 + x28.2.1)) (x28.1.length : Int) ((gi dapi_Entry x28.1 0).Key) ((gi dapi_Entry x28.1 (wr .i64 ((x28.1.length : Int) - 1))).Key))]).length) k41, .slice none 0 0, .int .i64 0, .int .i64 0], sl .own ku8 A12 x11.length x11, sl .own ksstable_block A40 k41 (x14 ++ [(sstable_block.mk x20 (wr .i64 (x20 + x28.2.1)) (x28.1.length : Int) ((gi dapi_Entry x28.1 0).Key) ((gi dapi_Entry x28.1 (wr .i64 ((x28.1.length : Int) - 1))).Key))]), sl .own kapi_Entry A18 k19 x17]) T S rfl rfl rfl Try.sizeOf67 rfl (Nat.le_of_ble_eq_true rfl) rfl fun _ S => ?_
            refine ⟨_, [some (.pointer (some ⟨b13, 0, none⟩), false), some (.pointer (some ⟨b13, 0, none⟩), false), some (.pointer (some ⟨b13, 0, none⟩), false), some (.pointer (some ⟨b13, 1, none⟩), false), some (.slice A15 x14.length k16, false), some (.int .i64 x20, false), some (.int .i64 x20, false), some (.int .i64 x28.2.1, false), some (.int .i64 (wr .i64 (x20 + x28.2.1)), false), some (.slice A29 x28.1.length k30, false), some (.int .i64 (x28.1.length : Int), false), some (.slice A29 x28.1.length k30, false), some (.pointer (some (eA A29 (Int.toNat 0 * 4))), false), some (.pointer (some (eA A29 (Int.toNat 0 * 4 + 0))), false), some (.slice A34 (((gi dapi_Entry x28.1 0).Key).length) k35, false), some (.slice A29 x28.1.length k30, false), some (.slice A29 x28.1.length k30, false), some (.int .i64 (x28.1.length : Int), false), some (.int .i64 (wr .i64 ((x28.1.length : Int) - 1)), false), some (.pointer (some (eA A29 (Int.toNat (wr .i64 ((x28.1.length : Int) - 1)) * 4))), false), some (.pointer (some (eA A29 (Int.toNat (wr .i64 ((x28.1.length : Int) - 1)) * 4 + 0))), false), some (.slice A37 (((gi dapi_Entry x28.1 (wr .i64 ((x28.1.length : Int) - 1))).Key).length) k38, false), some (.agg #[.int .i64 x20, .int .i64 (wr .i64 (x20 + x28.2.1)), .int .i64 (x28.1.length : Int), .slice A34 (((gi dapi_Entry x28.1 0).Key).length) k35, .slice A37 (((gi dapi_Entry x28.1 (wr .i64 ((x28.1.length : Int) - 1))).Key).length) k38], false), some (.slice (some ⟨b39, 0, none⟩) 1 1, false), some (.slice A40 ((x14 ++ [(sstable_block.mk x20 (wr .i64 (x20 + x28.2.1)) (x28.1.length : Int) ((gi dapi_Entry x28.1 0).Key) ((gi dapi_Entry x28.1 (wr .i64 ((x28.1.length : Int) - 1))).Key))]).length) k41, false), some (.pointer (some ⟨b13, 0, none⟩), true), some (.pointer (some ⟨b13, 1, none⟩), false), some (undef, false)], [sl .own ksstable_block (some ⟨b39, 0, none⟩) 1 [(sstable_block.mk x20 (wr .i64 (x20 + x28.2.1)) (x28.1.length : Int) ((gi dapi_Entry x28.1 0).Key) ((gi dapi_Entry x28.1 (wr .i64 ((x28.1.length : Int) - 1))).Key))], sl .ro ku8 A37 k38 ((gi dapi_Entry x28.1 (wr .i64 ((x28.1.length : Int) - 1))).Key), cl A29 (Int.toNat (wr .i64 ((x28.1.length : Int) - 1)) * 4 + 0) [.slice A37 (((gi dapi_Entry x28.1 (wr .i64 ((x28.1.length : Int) - 1))).Key).length) k38], sl .ro ku8 A34 k35 ((gi dapi_Entry x28.1 0).Key), cl A29 (Int.toNat 0 * 4 + 0) [.slice A34 (((gi dapi_Entry x28.1 0).Key).length) k35], sl .ro kapi_Entry A29 k30 x28.1, sl .ro ku8 A26 (Int.toNat (k3 : Int) - Int.toNat x20) (cut x1 (Int.toNat x20) (Int.toNat (x1.length : Int))), sl .ro ku8 A2 k3 x1, blk b13 [.slice A12 x11.length x11.length, .slice A40 ((x14 ++ [(sstable_block.mk x20 (wr .i64 (x20 + x28.2.1)) (x28.1.length : Int) ((gi dapi_Entry x28.1 0).Key) ((gi dapi_Entry x28.1 (wr .i64 ((x28.1.length : Int) - 1))).Key))]).length) k41, .slice none 0 0, .int .i64 0, .int .i64 0], sl .own ku8 A12 x11.length x11, sl .own ksstable_block A40 k41 (x14 ++ [(sstable_block.mk x20 (wr .i64 (x20 + x28.2.1)) (x28.1.length : Int) ((gi dapi_Entry x28.1 0).Key) ((gi dapi_Entry x28.1 (wr .i64 ((x28.1.length : Int) - 1))).Key))]), sl .own kapi_Entry A18 k19 x17], rfl, ⟨.inr ⟨_, _, _, rfl, rfl⟩, .inr ⟨_, _, _, rfl, rfl⟩, .inr ⟨_, _, _, rfl, rfl⟩, .inr ⟨_, _, _, rfl, rfl⟩, .inr ⟨_, _, _, rfl, rfl⟩, .inr ⟨_, _, _, rfl, rfl⟩, .inr ⟨_, _, _, rfl, rfl⟩, .inr ⟨_, _, _, rfl, rfl⟩, .inr ⟨_, _, _, rfl, rfl⟩, .inr ⟨_, _, _, rfl, rfl⟩, .inr ⟨_, _, _, rfl, rfl⟩, .inr ⟨_, _, _, rfl, rfl⟩, .inr ⟨_, _, _, rfl, rfl⟩, .inr ⟨_, _, _, rfl, rfl⟩, .inr ⟨_, _, _, rfl, rfl⟩, .inr ⟨_, _, _, rfl, rfl⟩, .inr ⟨_, _, _, rfl, rfl⟩, .inr ⟨_, _, _, rfl, rfl⟩, .inr ⟨_, _, _, rfl, rfl⟩, .inr ⟨_, _, _, rfl, rfl⟩, .inr ⟨_, _, _, rfl, rfl⟩, .inr ⟨_, _, _, rfl, rfl⟩, .inr ⟨_, _, _, rfl, rfl⟩, .inr ⟨_, _, _, rfl, rfl⟩, .inr ⟨_, _, _, rfl, rfl⟩, .inr ⟨_, _, _, rfl, rfl⟩, .inr ⟨_, _, _, rfl, rfl⟩, .inl rfl, trivial⟩, rfl, ?_, T, S⟩
            refine stage none rfl rfl ⟨⟨_, [(52, .pointer (some ⟨b13, 0, none⟩))], rfl, ⟨.inl ⟨0, rfl, rfl, rfl, rfl⟩, trivial⟩, fun u a w T S => (by refine r_pv T rfl rfl fun _ T => ?_; exact ⟨rfl, T⟩)⟩, trivial⟩ rfl (fun i hi => by cases hi) (fun _ _ a w T hv hb S => ?_)
            replace T := T.sub (r := [(0, .slice A2 x1.length k3), (4, .pointer (some ⟨b13, 0, none⟩)), (5, .slice A18 x17.length k19), (6, .int .i64 x20), (7, .slice A29 x28.1.length k30), (8, .int .i64 x28.2.1)]) ⟨hb 0 _ rfl rfl, hb 4 _ rfl rfl, hb 5 _ rfl rfl, hb 6 _ rfl rfl, hb 7 _ rfl rfl, hb 8 _ rfl rfl, trivial⟩
            refine Gets.seq ?_
            refine rg ?_
            refine r_pv T rfl rfl fun _ T => ?_
            refine r_pv T rfl rfl fun _ T => ?_
            obtain ⟨h45, H⟩ := ck H
            refine r_app (ix := 11) (iy := 5) (xs := x17) (ys := x28.1) T S rfl rfl rfl rfl (by decide) sty22 Try.runUnderlying22 (by decide) h45 rfl fun _ _ A43 k44 S T => ?_
            replace S : SL ([sl .own ksstable_block (some ⟨b39, 0, none⟩) 1 [(sstable_block.mk x20 (wr .i64 (x20 + x28.2.1)) (x28.1.length : Int) ((gi dapi_Entry x28.1 0).Key) ((gi dapi_Entry x28.1 (wr .i64 ((x28.1.length : Int) - 1))).Key))], sl .ro ku8 A37 k38 ((gi dapi_Entry x28.1 (wr .i64 ((x28.1.length : Int) - 1))).Key), cl A29 (Int.toNat (wr .i64 ((x28.1.length : Int) - 1)) * 4 + 0) [.slice A37 (((gi dapi_Entry x28.1 (wr .i64 ((x28.1.length : Int) - 1))).Key).length) k38], sl .ro ku8 A34 k35 ((gi dapi_Entry x28.1 0).Key), cl A29 (Int.toNat 0 * 4 + 0) [.slice A34 (((gi dapi_Entry x28.1 0).Key).length) k35], sl .ro kapi_Entry A29 k30 x28.1, sl .ro ku8 A26 (Int.toNat (k3 : Int) - Int.toNat x20) (cut x1 (Int.toNat x20) (Int.toNat (x1.length : Int))), sl .ro ku8 A2 k3 x1, blk b13 [.slice A12 x11.length x11.length, .slice A40 ((x14 ++ [(sstable_block.mk x20 (wr .i64 (x20 + x28.2.1)) (x28.1.length : Int) ((gi dapi_Entry x28.1 0).Key) ((gi dapi_Entry x28.1 (wr .i64 ((x28.1.length : Int) - 1))).Key))]).length) k41, .slice none 0 0, .int .i64 0, .int .i64 0], sl .own ku8 A12 x11.length x11, sl .own ksstable_block A40 k41 (x14 ++ [(sstable_block.mk x20 (wr .i64 (x20 + x28.2.1)) (x28.1.length : Int) ((gi dapi_Entry x28.1 0).Key) ((gi dapi_Entry x28.1 (wr .i64 ((x28.1.length : Int) - 1))).Key))]), sl .own kapi_Entry A43 k44 (x17 ++ x28.1)] ++ F) _ := S
            refine r_pv T rfl rfl fun _ T => ?_
            refine rg ?_
            refine r_pv T rfl rfl fun _ T => ?_
            refine r_pv T rfl rfl fun _ T => ?_
            refine r_pv T rfl rfl fun _ T => ?_
            refine r_pv T rfl rfl fun _ T => ?_
            refine Gets.inBlock (Gets.inLoop ?_)
            exact ih A43 (x17 ++ x28.1) k44 (wr .i64 (x20 + x28.2.1)) A40 (x14 ++ [(sstable_block.mk x20 (wr .i64 (x20 + x28.2.1)) (x28.1.length : Int) ((gi dapi_Entry x28.1 0).Key) ((gi dapi_Entry x28.1 (wr .i64 ((x28.1.length : Int) - 1))).Key))]) k41 _ _ (T.sub ⟨rfl, rfl, rfl, rfl, trivial⟩) (S.only (p := [sl .ro ku8 A2 k3 x1, blk b13 [.slice A12 x11.length x11.length, .slice A40 ((x14 ++ [(sstable_block.mk x20 (wr .i64 (x20 + x28.2.1)) (x28.1.length : Int) ((gi dapi_Entry x28.1 0).Key) ((gi dapi_Entry x28.1 (wr .i64 ((x28.1.length : Int) - 1))).Key))]).length) k41, .slice none 0 0, .int .i64 0, .int .i64 0], sl .own ku8 A12 x11.length x11, sl .own ksstable_block A40 k41 (x14 ++ [(sstable_block.mk x20 (wr .i64 (x20 + x28.2.1)) (x28.1.length : Int) ((gi dapi_Entry x28.1 0).Key) ((gi dapi_Entry x28.1 (wr .i64 ((x28.1.length : Int) - 1))).Key))]), sl .own kapi_Entry A43 k44 (x17 ++ x28.1)]) [7, 7, 7, 7, 7] rfl) H
      · refine cdF T rfl h23 ?_
        refine Gets.exit rfl (Gets.seq ?_)
        exact J3_ok F r z x1 A2 k3 b13 A18 x17 k19 x20 A12 x11 A15 x14 k16 _ _ (T.sub ⟨rfl, rfl, rfl, rfl, trivial⟩) (S.only (p := [sl .ro ku8 A2 k3 x1, blk b13 [.slice A12 x11.length x11.length, .slice A15 x14.length k16, .slice none 0 0, .int .i64 0, .int .i64 0], sl .own ku8 A12 x11.length x11, sl .own ksstable_block A15 k16 x14, sl .own kapi_Entry A18 k19 x17]) [0, 0, 0, 0, 0] rfl) H
    · refine g_no T rfl rfl h21 rfl fun _ T => ?_
      refine g_no T rfl rfl h21 rfl fun _ T => ?_
      refine g_no T rfl rfl h21 rfl fun _ T => ?_
      refine g_no T rfl rfl h21 rfl fun _ T => ?_
      refine g_no T rfl rfl h21 rfl fun _ T => ?_
      refine r_pickF T rfl h21 rfl rfl fun _ T => ?_
      refine cdF T rfl rfl ?_
      refine Gets.exit rfl (Gets.seq ?_)
      exact J3_ok F r z x1 A2 k3 b13 A18 x17 k19 x20 A12 x11 A15 x14 k16 _ _ (T.sub ⟨rfl, rfl, rfl, rfl, trivial⟩) (S.only (p := [sl .ro ku8 A2 k3 x1, blk b13 [.slice A12 x11.length x11.length, .slice A15 x14.length k16, .slice none 0 0, .int .i64 0, .int .i64 0], sl .own ku8 A12 x11.length x11, sl .own ksstable_block A15 k16 x14, sl .own kapi_Entry A18 k19 x17]) [0, 0, 0, 0, 0] rfl) H
theorem J0_ok (F : List Atom) (r : (Option sstable_Table) × Int) (z : Nat) (x1 : List Int) (A2 : Option Addr) (k3 : Nat) (a : Act) (w : World) (T : Tm 127 [] a) (S : SL ([sl .ro ku8 A2 k3 x1] ++ F) w) (H : J0 z = some r) : Gets Try.prog 8 ptJ0 a w (R F x1 A2 k3 r) := by
  refine rg ?_
  refine r_pv T rfl rfl fun _ T => ?_
  refine r_pv T rfl rfl fun _ T => ?_
  replace H := Option.some.inj H
  subst H
  exact rtn T Try.func8 rfl rfl ⟨rfl, (S.only (p := [sl .ro ku8 A2 k3 x1]) [0] rfl)⟩
theorem ok (F : List Atom) (w : World) (z : Nat) (x1 : List Int) {A2 : Option Addr} {k3 : Nat} (S : SL ([sl .ro ku8 A2 k3 x1] ++ F) w) (r : (Option sstable_Table) × Int) (H : f z x1 = some r) : Calls Try.prog 8 #[.slice A2 x1.length k3] w (R F x1 A2 k3 r) := by
  refine enter (vs := [.slice A2 x1.length k3]) Try.func8 rfl Try.ntmps8 (Nat.le_of_ble_eq_true rfl) fun a T => ?_
  refine Gets.seq ?_
  refine rg ?_
  refine r_pv T rfl rfl fun _ T => ?_
  refine r_pv T rfl rfl fun _ T => ?_
  refine Gets.seq (Gets.seq ?_)
  refine rg ?_
  refine r_pv T rfl rfl fun _ T => ?_
  refine r_lenS T rfl Try.runUnderlying24 rfl fun _ T => ?_
  refine r_pv T rfl rfl fun _ T => ?_
  refine r_pv T rfl rfl fun _ T => ?_
  rcases ifE H with ⟨h4, H⟩ | ⟨h4, H⟩
  · refine g_no T rfl rfl h4 rfl fun _ T => ?_
    refine g_no T rfl rfl h4 rfl fun _ T => ?_
    refine g_no T rfl rfl h4 rfl fun _ T => ?_
    refine r_pickT T rfl h4 rfl rfl fun _ T => ?_
    refine cdT T rfl rfl ?_
    refine Gets.seq ?_
    exact J0_ok F r z x1 A2 k3 _ _ (T.sub trivial) (S.only (p := [sl .ro ku8 A2 k3 x1]) [0] rfl) H
  · refine g_yes T rfl rfl h4 ?_
    refine r_pv T rfl rfl fun _ T => ?_
    refine g_yes T rfl rfl h4 ?_
    refine r_lenS T rfl Try.runUnderlying24 rfl fun _ T => ?_
    refine g_yes T rfl rfl h4 ?_
    refine r_pv T rfl rfl fun _ T => ?_
    refine r_pickF T rfl h4 rfl rfl fun _ T => ?_
    rcases ifE H with ⟨h5, H⟩ | ⟨h5, H⟩
    · refine cdT T rfl h5 ?_
      refine Gets.seq ?_
      exact J0_ok F r z x1 A2 k3 _ _ (T.sub trivial) (S.only (p := [sl .ro ku8 A2 k3 x1]) [0] rfl) H
    · refine cdF T rfl h5 ?_
      refine Gets.skip (Gets.seq ?_)
      refine rg ?_
      refine r_pv T rfl rfl fun _ T => ?_
      obtain ⟨x7, h6, H⟩ := bd H
      refine r_call T Try.call32 rfl rfl (bytes_Clone.ok _ _ x1 (S.sel (p := [sl .ro ku8 A2 k3 x1]) (is := [0]) rfl) _ h6) ?_
      rintro _ _ ⟨A8, k9, rfl, S⟩
      refine ⟨_, rfl, fun _ T => ?_⟩
      replace S : SL ([sl .own ku8 A8 k9 x7, sl .ro ku8 A2 k3 x1] ++ F) _ := S.join
      obtain ⟨x11, h10, H⟩ := bd H
      refine r_call T Try.call31 rfl rfl (slices_Clip_byte.ok _ _ x7 (S.sel (p := [sl .own ku8 A8 k9 x7]) (is := [0]) rfl) _ h10) ?_
      rintro _ _ ⟨A12, rfl, S⟩
      refine ⟨_, rfl, fun _ T => ?_⟩
      replace S : SL ([sl .own ku8 A12 x11.length x11, sl .ro ku8 A2 k3 x1] ++ F) _ := S.join
      refine r_build (cs := #[.slice A12 x11.length x11.length, .slice none 0 0, .slice none 0 0, .int .i64 0, .int .i64 0]) T stt69 rfl rfl rfl fun _ T => ?_
      refine r_box T S rfl (cs := [.slice A12 x11.length x11.length, .slice none 0 0, .slice none 0 0, .int .i64 0, .int .i64 0]) rfl rfl fun _ _ b13 S T => ?_
      refine r_pv T rfl rfl fun _ T => ?_
      refine Gets.seq ?_
      refine rg ?_
      refine r_pv T rfl rfl fun _ T => ?_
      refine Gets.seq ?_
      refine rg ?_
      refine r_pv T rfl rfl fun _ T => ?_
      refine Gets.seq (Gets.block ?_)
      refine Gets.loop ?_
      replace S := S.nil ksstable_block .own
      replace S := S.nil kapi_Entry .own
      exact L1_ok F r z x1 A2 k3 b13 A12 x11 z none [] 0 0 none [] 0 _ _ (T.sub ⟨rfl, rfl, rfl, rfl, trivial⟩) (S.only (p := [sl .ro ku8 A2 k3 x1, blk b13 [.slice A12 x11.length x11.length, .slice none 0 0, .slice none 0 0, .int .i64 0, .int .i64 0], sl .own ku8 A12 x11.length x11, sl .own ksstable_block none 0 [], sl .own kapi_Entry none 0 []]) [4, 2, 2, 1, 0] rfl) H
end sstable_Open
end Go.Proofs.Ytghpokmkhlmgcaa

namespace Go.Proofs.Ytghpokmkhlmgcaa
open Go Go.Proofs.Ytghpokmkhlmgcaa.X
set_option linter.unusedVariables false
set_option linter.unusedSimpArgs false
set_option maxRecDepth 100000
set_option maxHeartbeats 4000000
/-! ### cormorant.cormorantlaw04.shown: function 6 -/
namespace cormorantlaw04_shown
noncomputable def c0 : Code := match Try.f6.body with | some c => c | none => .skip
def R (F : List Atom) (r : Bool) : Ending → World → Prop := fun e w' => e = .returned (.bool r) ∧ SL ([] ++ F) w'
def J2 (z : Nat) (x81 : Bool) : Option Bool := some x81
def J1 (z : Nat) : Option Bool := some false
def J0 (z : Nat) : Option Bool := some false
def f (z : Nat) : Option Bool := Bd (cormorantlaw04_few.f) fun x2 => Bd (sstable_Build.f z x2 64 10) fun x6 => If (x6.2 != 0) (J0 z) (If (decide ((x6.1.length : Int) < 60)) (J0 z) (Ck (19 ≤ (x6.1.length : Int)) (If (!((bstr (cut x6.1 (Int.toNat 6) (Int.toNat 19))).toList == (⟨#[0, 1, 2, 0, 1, 97, 120, 1, 0, 1, 1, 0, 0]⟩ : ByteArray).toList)) (J0 z) (Bd (sstable_Open.f z x6.1) fun x16 => Om x16.1 (If (x16.2 != 0) (J1 z) (J1 z)) fun x17 => If (x16.2 != 0) (some false) (Bd (sstable_Table_Get.f z x17 [97] 1) fun x30 => Bd (sstable_Table_Get.f z x30.2.2 [98] 2) fun x45 => Bd (sstable_Table_Count.f x45.2.2) fun x59 => If (x59.1 == 3) (Bd (sstable_Table_Blocks.f x59.2) fun x69 => If (x69.1 == 1) (If x30.2.1 (If x30.1.Del (If (x30.1.Seq == 1) (J2 z (!x45.2.1)) (J2 z false)) (J2 z false)) (J2 z false)) (J2 z false)) (J2 z false))))))
noncomputable def ptJ2 : List Item := [.code (cR (cR (cR (cR (cR (cR (cR (cR c0))))))))]
noncomputable def ptJ1 : List Item := [.code (cL (cT (cR (cL (cR (cR (cR (cR c0)))))))), .code (cR (cT (cR (cL (cR (cR (cR (cR c0)))))))), .code (cR (cR (cR (cR (cR c0)))))]
noncomputable def ptJ0 : List Item := [.code (cL (cT (cR (cL (cR (cR c0)))))), .code (cR (cT (cR (cL (cR (cR c0)))))), .code (cR (cR (cR c0)))]
theorem J2_ok (F : List Atom) (r : Bool) (z : Nat) (x81 : Bool) (a : Act) (w : World) (T : Tm 76 [(0, .bool x81)] a) (S : SL ([] ++ F) w) (H : J2 z x81 = some r) : Gets Try.prog 6 ptJ2 a w (R F r) := by
  replace H := Option.some.inj H
  subst H
  exact rtn T Try.func6 rfl rfl ⟨rfl, (S.only (p := []) [] rfl)⟩
theorem J1_ok (F : List Atom) (r : Bool) (z : Nat) (a : Act) (w : World) (T : Tm 76 [] a) (S : SL ([] ++ F) w) (H : J1 z = some r) : Gets Try.prog 6 ptJ1 a w (R F r) := by
  refine rg ?_
  refine r_pv T rfl rfl fun _ T => ?_
  replace H := Option.some.inj H
  subst H
  exact rtn T Try.func6 rfl rfl ⟨rfl, (S.only (p := []) [] rfl)⟩
theorem J0_ok (F : List Atom) (r : Bool) (z : Nat) (a : Act) (w : World) (T : Tm 76 [] a) (S : SL ([] ++ F) w) (H : J0 z = some r) : Gets Try.prog 6 ptJ0 a w (R F r) := by
  refine rg ?_
  refine r_pv T rfl rfl fun _ T => ?_
  replace H := Option.some.inj H
  subst H
  exact rtn T Try.func6 rfl rfl ⟨rfl, (S.only (p := []) [] rfl)⟩
theorem ok (F : List Atom) (w : World) (z : Nat) (S : SL ([] ++ F) w) (r : Bool) (H : f z  = some r) : Calls Try.prog 6 #[] w (R F r) := by
  refine enter (vs := []) Try.func6 rfl Try.ntmps6 (Nat.le_of_ble_eq_true rfl) fun a T => ?_
  refine Gets.seq ?_
  refine rg ?_
  refine r_pv T rfl rfl fun _ T => ?_
  refine Gets.seq ?_
  refine rg ?_
  obtain ⟨x2, h1, H⟩ := bd H
  refine r_call T Try.call24 rfl rfl (cormorantlaw04_few.ok _ _  (S.sel (p := []) (is := []) rfl) _ h1) ?_
  rintro _ _ ⟨A3, k4, rfl, S⟩
  refine ⟨_, rfl, fun _ T => ?_⟩
  replace S : SL ([sl .own kapi_Entry A3 k4 x2] ++ F) _ := S.join
  replace S : SL ([sl .ro kapi_Entry A3 k4 x2] ++ F) _ := S.fixL (i := 0) rfl rfl
  obtain ⟨x6, h5, H⟩ := bd H
  refine r_call T Try.call7 rfl rfl (sstable_Build.ok _ _ z x2 64 10 (S.sel (p := [sl .ro kapi_Entry A3 k4 x2]) (is := [0]) rfl) _ h5) ?_
  rintro _ _ ⟨A7, k8, rfl, S⟩
  refine ⟨_, rfl, fun _ T => ?_⟩
  replace S : SL ([sl .own ku8 A7 k8 x6.1, sl .ro kapi_Entry A3 k4 x2] ++ F) _ := S.join
  refine r_pv T rfl rfl fun _ T => ?_
  refine r_pv T rfl rfl fun _ T => ?_
  refine r_pv T rfl rfl fun _ T => ?_
  refine r_pv T rfl rfl fun _ T => ?_
  refine r_pv T rfl rfl fun _ T => ?_
  refine Gets.seq (Gets.seq ?_)
  refine rg ?_
  refine r_pv T rfl rfl fun _ T => ?_
  refine r_pv T rfl rfl fun _ T => ?_
  refine r_pv T rfl rfl fun _ T => ?_
  rcases ifE H with ⟨h9, H⟩ | ⟨h9, H⟩
  · refine g_no T rfl rfl h9 rfl fun _ T => ?_
    refine g_no T rfl rfl h9 rfl fun _ T => ?_
    refine g_no T rfl rfl h9 rfl fun _ T => ?_
    refine r_pickT T rfl h9 rfl rfl fun _ T => ?_
    refine r_pv T rfl rfl fun _ T => ?_
    refine g_no T rfl rfl rfl rfl fun _ T => ?_
    refine g_no T rfl rfl rfl rfl fun _ T => ?_
    refine g_no T rfl rfl rfl rfl fun _ T => ?_
    refine g_no T rfl rfl rfl rfl fun _ T => ?_
    refine r_pickT T rfl rfl rfl rfl fun _ T => ?_
    refine cdT T rfl rfl ?_
    refine Gets.seq ?_
    exact J0_ok F r z _ _ (T.sub trivial) (S.only (p := []) [] rfl) H
  · refine g_yes T rfl rfl h9 ?_
    refine r_pv T rfl rfl fun _ T => ?_
    refine g_yes T rfl rfl h9 ?_
    refine r_lenS T rfl Try.runUnderlying24 rfl fun _ T => ?_
    refine g_yes T rfl rfl h9 ?_
    refine r_pv T rfl rfl fun _ T => ?_
    refine r_pickF T rfl h9 rfl rfl fun _ T => ?_
    refine r_pv T rfl rfl fun _ T => ?_
    rcases ifE H with ⟨h10, H⟩ | ⟨h10, H⟩
    · refine g_no T rfl rfl h10 rfl fun _ T => ?_
      refine g_no T rfl rfl h10 rfl fun _ T => ?_
      refine g_no T rfl rfl h10 rfl fun _ T => ?_
      refine g_no T rfl rfl h10 rfl fun _ T => ?_
      refine r_pickT T rfl h10 rfl rfl fun _ T => ?_
      refine cdT T rfl rfl ?_
      refine Gets.seq ?_
      exact J0_ok F r z _ _ (T.sub trivial) (S.only (p := []) [] rfl) H
    · refine g_yes T rfl rfl h10 ?_
      refine r_pv T rfl rfl fun _ T => ?_
      refine g_yes T rfl rfl h10 ?_
      have h11 := S.len (i := 0) rfl
      obtain ⟨h12, H⟩ := ck H
      replace S : SL ([sl .ro ku8 A7 k8 x6.1, sl .ro kapi_Entry A3 k4 x2] ++ F) _ := S.fixL (i := 0) rfl rfl
      refine r_slR (ix := 0) (xs := x6.1) T S rfl rfl (fun h => by cases h) rfl rfl rfl (by decide) (by decide) h12 (by have := h12; omega) (by omega) Try.runUnderlying24 Try.sizeOf5 rfl fun _ A13 S T => ?_
      refine g_yes T rfl rfl h10 ?_
      refine r_b2s (ix := 0) (xs := (cut x6.1 (Int.toNat 6) (Int.toNat 19))) T S rfl rfl Try.runUnderlying24 Try.runUnderlying9 Try.runUnderlying5 rfl fun _ T => ?_
      refine g_yes T rfl rfl h10 ?_
      refine r_pv T rfl rfl fun _ T => ?_
      refine r_pickF T rfl h10 rfl rfl fun _ T => ?_
      rcases ifE H with ⟨h14, H⟩ | ⟨h14, H⟩
      · refine cdT T rfl h14 ?_
        refine Gets.seq ?_
        exact J0_ok F r z _ _ (T.sub trivial) (S.only (p := []) [] rfl) H
      · refine cdF T rfl h14 ?_
        refine Gets.skip (Gets.seq ?_)
        refine rg ?_
        refine r_pv T rfl rfl fun _ T => ?_
        obtain ⟨x16, h15, H⟩ := bd H
        rcases omE H with ⟨h18, H⟩ | ⟨x17, h18, H⟩
        · refine r_call T Try.call8 rfl rfl (sstable_Open.ok _ _ z x6.1 (S.sel (p := [sl .ro ku8 A7 k8 x6.1]) (is := [1]) rfl) _ h15) ?_
          intro _ _ hR_
          obtain ⟨rfl, S⟩ := omN h18 hR_
          refine ⟨_, rfl, fun _ T => ?_⟩
          replace S : SL ([sl .ro ku8 A7 k8 x6.1, sl .ro ku8 A13 (Int.toNat (k8 : Int) - Int.toNat 6) (cut x6.1 (Int.toNat 6) (Int.toNat 19)), sl .ro kapi_Entry A3 k4 x2] ++ F) _ := S.join
          refine r_pv T rfl rfl fun _ T => ?_
          refine r_pv T rfl rfl fun _ T => ?_
          refine r_pv T rfl rfl fun _ T => ?_
          refine r_pv T rfl rfl fun _ T => ?_
          refine r_pv T rfl rfl fun _ T => ?_
          refine Gets.seq (Gets.seq ?_)
          refine rg ?_
          refine r_pv T rfl rfl fun _ T => ?_
          refine r_pv T rfl rfl fun _ T => ?_
          refine r_pv T rfl rfl fun _ T => ?_
          rcases ifE H with ⟨h26, H⟩ | ⟨h26, H⟩
          · refine g_no T rfl rfl h26 rfl fun _ T => ?_
            refine g_no T rfl rfl h26 rfl fun _ T => ?_
            refine r_pickT T rfl h26 rfl rfl fun _ T => ?_
            refine cdT T rfl rfl ?_
            refine Gets.seq ?_
            exact J1_ok F r z _ _ (T.sub trivial) (S.only (p := []) [] rfl) H
          · refine g_yes T rfl rfl h26 ?_
            refine r_pv T rfl rfl fun _ T => ?_
            refine g_yes T rfl rfl h26 ?_
            refine r_ptrNil00e T rfl rfl Try.runUnderlying28 rfl fun _ T => ?_
            refine r_pickF T rfl h26 rfl rfl fun _ T => ?_
            refine cdT T rfl rfl ?_
            refine Gets.seq ?_
            exact J1_ok F r z _ _ (T.sub trivial) (S.only (p := []) [] rfl) H
        · refine r_call T Try.call8 rfl rfl (sstable_Open.ok _ _ z x6.1 (S.sel (p := [sl .ro ku8 A7 k8 x6.1]) (is := [1]) rfl) _ h15) ?_
          intro _ _ hR_
          obtain ⟨b19, A20, k21, A22, k23, A24, k25, rfl, S⟩ := omS h18 hR_
          refine ⟨_, rfl, fun _ T => ?_⟩
          replace S : SL ([blk b19 [.slice A20 x17.b.length k21, .slice A22 x17.blocks.length k23, .slice A24 x17.filter.length k25, .int .i64 x17.count, .int .i64 x17.reads], sl .ro ku8 A20 k21 x17.b, sl .ro ksstable_block A22 k23 x17.blocks, sl .ro ku8 A24 k25 x17.filter, sl .ro ku8 A7 k8 x6.1, sl .ro ku8 A13 (Int.toNat (k8 : Int) - Int.toNat 6) (cut x6.1 (Int.toNat 6) (Int.toNat 19)), sl .ro kapi_Entry A3 k4 x2] ++ F) _ := S.join
          refine r_pv T rfl rfl fun _ T => ?_
          refine r_pv T rfl rfl fun _ T => ?_
          refine r_pv T rfl rfl fun _ T => ?_
          refine r_pv T rfl rfl fun _ T => ?_
          refine r_pv T rfl rfl fun _ T => ?_
          refine Gets.seq (Gets.seq ?_)
          refine rg ?_
          refine r_pv T rfl rfl fun _ T => ?_
          refine r_pv T rfl rfl fun _ T => ?_
          refine r_pv T rfl rfl fun _ T => ?_
          rcases ifE H with ⟨h27, H⟩ | ⟨h27, H⟩
          · refine g_no T rfl rfl h27 rfl fun _ T => ?_
            refine g_no T rfl rfl h27 rfl fun _ T => ?_
            refine r_pickT T rfl h27 rfl rfl fun _ T => ?_
            refine cdT T rfl rfl ?_
            refine Gets.seq ?_
            refine rg ?_
            refine r_pv T rfl rfl fun _ T => ?_
            replace H := Option.some.inj H
            subst H
            exact rtn T Try.func6 rfl rfl ⟨rfl, (S.only (p := []) [] rfl)⟩
          · refine g_yes T rfl rfl h27 ?_
            refine r_pv T rfl rfl fun _ T => ?_
            refine g_yes T rfl rfl h27 ?_
            refine r_ptrNil10e T rfl rfl Try.runUnderlying28 rfl fun _ T => ?_
            refine r_pickF T rfl h27 rfl rfl fun _ T => ?_
            refine cdF T rfl rfl ?_
            refine Gets.skip (Gets.seq ?_)
            refine rg ?_
            refine r_pv T rfl rfl fun _ T => ?_
            replace S := SL.val (κ := ku8) (x := 97) (cs := [.int .u8 97]) (fun _ => rfl) S
            refine r_bsl (κ := ku8) (xs := [97]) (vs := [.int .u8 97]) T S sty24 rfl ⟨_, _, rfl, ⟨0, rfl⟩, rfl⟩ rfl (by decide) rfl fun _ _ b28 S T => ?_
            replace S : SL ([sl .own ku8 (some ⟨b28, 0, none⟩) 1 [97], blk b19 [.slice A20 x17.b.length k21, .slice A22 x17.blocks.length k23, .slice A24 x17.filter.length k25, .int .i64 x17.count, .int .i64 x17.reads], sl .ro ku8 A20 k21 x17.b, sl .ro ksstable_block A22 k23 x17.blocks, sl .ro ku8 A24 k25 x17.filter, sl .ro ku8 A7 k8 x6.1, sl .ro ku8 A13 (Int.toNat (k8 : Int) - Int.toNat 6) (cut x6.1 (Int.toNat 6) (Int.toNat 19)), sl .ro kapi_Entry A3 k4 x2] ++ F) _ := S.only [0, 1, 1, 1, 1, 1, 1, 1] rfl
            refine r_cvS (ix := 0) T S rfl rfl Try.runUnderlying24 Try.runUnderlying5 rfl ⟨_, rfl⟩ fun _ _ S T => ?_
            replace S : SL ([sl .ro ku8 (some ⟨b28, 0, none⟩) 1 [97], blk b19 [.slice A20 x17.b.length k21, .slice A22 x17.blocks.length k23, .slice A24 x17.filter.length k25, .int .i64 x17.count, .int .i64 x17.reads], sl .ro ku8 A20 k21 x17.b, sl .ro ksstable_block A22 k23 x17.blocks, sl .ro ku8 A24 k25 x17.filter, sl .ro ku8 A7 k8 x6.1, sl .ro ku8 A13 (Int.toNat (k8 : Int) - Int.toNat 6) (cut x6.1 (Int.toNat 6) (Int.toNat 19)), sl .ro kapi_Entry A3 k4 x2] ++ F) _ := S.fixL (i := 0) rfl rfl
            obtain ⟨x30, h29, H⟩ := bd H
            refine r_call T Try.call11 rfl rfl (sstable_Table_Get.ok _ _ z x17 [97] 1 (S.sel (p := [blk b19 [.slice A20 x17.b.length k21, .slice A22 x17.blocks.length k23, .slice A24 x17.filter.length k25, .int .i64 x17.count, .int .i64 x17.reads], sl .ro ku8 A20 k21 x17.b, sl .ro ksstable_block A22 k23 x17.blocks, sl .ro ku8 A24 k25 x17.filter, sl .ro ku8 (some ⟨b28, 0, none⟩) 1 [97]]) (is := [1, 1, 1, 1, 0]) rfl) _ h29) ?_
            rintro _ _ ⟨A31, k32, A33, k34, A36, k37, A38, k39, A40, k41, rfl, S⟩
            refine ⟨_, rfl, fun _ T => ?_⟩
            replace S : SL ([sl .ro ku8 A31 k32 x30.1.Key, sl .ro ku8 A33 k34 x30.1.Value, blk b19 [.slice A36 x30.2.2.b.length k37, .slice A38 x30.2.2.blocks.length k39, .slice A40 x30.2.2.filter.length k41, .int .i64 x30.2.2.count, .int .i64 x30.2.2.reads], sl .ro ku8 A36 k37 x30.2.2.b, sl .ro ksstable_block A38 k39 x30.2.2.blocks, sl .ro ku8 A40 k41 x30.2.2.filter, sl .ro ku8 (some ⟨b28, 0, none⟩) 1 [97], sl .ro ku8 A7 k8 x6.1, sl .ro ku8 A13 (Int.toNat (k8 : Int) - Int.toNat 6) (cut x6.1 (Int.toNat 6) (Int.toNat 19)), sl .ro kapi_Entry A3 k4 x2] ++ F) _ := S.join
            refine r_pv T rfl rfl fun _ T => ?_
            refine r_pv T rfl rfl fun _ T => ?_
            refine r_pv T rfl rfl fun _ T => ?_
            refine r_alloc T S zv36 (cs := [.slice none 0 0, .int .u64 0, .bool false, .slice none 0 0]) rfl rfl fun _ _ b42 S T => ?_
            refine r_stBA (ix := 0) (vs := [.slice A31 x30.1.Key.length k32, .int .u64 x30.1.Seq, .bool x30.1.Del, .slice A33 x30.1.Value.length k34]) (l' := [blk b42 [.slice A31 x30.1.Key.length k32, .int .u64 x30.1.Seq, .bool x30.1.Del, .slice A33 x30.1.Value.length k34], sl .ro ku8 A31 k32 x30.1.Key, sl .ro ku8 A33 k34 x30.1.Value, blk b19 [.slice A36 x30.2.2.b.length k37, .slice A38 x30.2.2.blocks.length k39, .slice A40 x30.2.2.filter.length k41, .int .i64 x30.2.2.count, .int .i64 x30.2.2.reads], sl .ro ku8 A36 k37 x30.2.2.b, sl .ro ksstable_block A38 k39 x30.2.2.blocks, sl .ro ku8 A40 k41 x30.2.2.filter, sl .ro ku8 (some ⟨b28, 0, none⟩) 1 [97], sl .ro ku8 A7 k8 x6.1, sl .ro ku8 A13 (Int.toNat (k8 : Int) - Int.toNat 6) (cut x6.1 (Int.toNat 6) (Int.toNat 19)), sl .ro kapi_Entry A3 k4 x2]) T S rfl rfl rfl rfl (by simp) Try.sizeOf36 (Nat.le_of_ble_eq_true rfl) rfl fun _ S => ?_
            refine r_pv T rfl rfl fun _ T => ?_
            refine Gets.seq ?_
            refine rg ?_
            refine r_pv T rfl rfl fun _ T => ?_
            replace S := SL.val (κ := ku8) (x := 98) (cs := [.int .u8 98]) (fun _ => rfl) S
            refine r_bsl (κ := ku8) (xs := [98]) (vs := [.int .u8 98]) T S sty24 rfl ⟨_, _, rfl, ⟨0, rfl⟩, rfl⟩ rfl (by decide) rfl fun _ _ b43 S T => ?_
            replace S : SL ([sl .own ku8 (some ⟨b43, 0, none⟩) 1 [98], blk b42 [.slice A31 x30.1.Key.length k32, .int .u64 x30.1.Seq, .bool x30.1.Del, .slice A33 x30.1.Value.length k34], sl .ro ku8 A31 k32 x30.1.Key, sl .ro ku8 A33 k34 x30.1.Value, blk b19 [.slice A36 x30.2.2.b.length k37, .slice A38 x30.2.2.blocks.length k39, .slice A40 x30.2.2.filter.length k41, .int .i64 x30.2.2.count, .int .i64 x30.2.2.reads], sl .ro ku8 A36 k37 x30.2.2.b, sl .ro ksstable_block A38 k39 x30.2.2.blocks, sl .ro ku8 A40 k41 x30.2.2.filter, sl .ro ku8 (some ⟨b28, 0, none⟩) 1 [97], sl .ro ku8 A7 k8 x6.1, sl .ro ku8 A13 (Int.toNat (k8 : Int) - Int.toNat 6) (cut x6.1 (Int.toNat 6) (Int.toNat 19)), sl .ro kapi_Entry A3 k4 x2] ++ F) _ := S.only [0, 1, 1, 1, 1, 1, 1, 1, 1, 1, 1, 1] rfl
            refine r_cvS (ix := 0) T S rfl rfl Try.runUnderlying24 Try.runUnderlying5 rfl ⟨_, rfl⟩ fun _ _ S T => ?_
            replace S : SL ([sl .ro ku8 (some ⟨b43, 0, none⟩) 1 [98], blk b42 [.slice A31 x30.1.Key.length k32, .int .u64 x30.1.Seq, .bool x30.1.Del, .slice A33 x30.1.Value.length k34], sl .ro ku8 A31 k32 x30.1.Key, sl .ro ku8 A33 k34 x30.1.Value, blk b19 [.slice A36 x30.2.2.b.length k37, .slice A38 x30.2.2.blocks.length k39, .slice A40 x30.2.2.filter.length k41, .int .i64 x30.2.2.count, .int .i64 x30.2.2.reads], sl .ro ku8 A36 k37 x30.2.2.b, sl .ro ksstable_block A38 k39 x30.2.2.blocks, sl .ro ku8 A40 k41 x30.2.2.filter, sl .ro ku8 (some ⟨b28, 0, none⟩) 1 [97], sl .ro ku8 A7 k8 x6.1, sl .ro ku8 A13 (Int.toNat (k8 : Int) - Int.toNat 6) (cut x6.1 (Int.toNat 6) (Int.toNat 19)), sl .ro kapi_Entry A3 k4 x2] ++ F) _ := S.fixL (i := 0) rfl rfl
            obtain ⟨x45, h44, H⟩ := bd H
            refine r_call T Try.call11 rfl rfl (sstable_Table_Get.ok _ _ z x30.2.2 [98] 2 (S.sel (p := [blk b19 [.slice A36 x30.2.2.b.length k37, .slice A38 x30.2.2.blocks.length k39, .slice A40 x30.2.2.filter.length k41, .int .i64 x30.2.2.count, .int .i64 x30.2.2.reads], sl .ro ku8 A36 k37 x30.2.2.b, sl .ro ksstable_block A38 k39 x30.2.2.blocks, sl .ro ku8 A40 k41 x30.2.2.filter, sl .ro ku8 (some ⟨b43, 0, none⟩) 1 [98]]) (is := [4, 4, 4, 4, 0]) rfl) _ h44) ?_
            rintro _ _ ⟨A46, k47, A48, k49, A51, k52, A53, k54, A55, k56, rfl, S⟩
            refine ⟨_, rfl, fun _ T => ?_⟩
            replace S : SL ([sl .ro ku8 A46 k47 x45.1.Key, sl .ro ku8 A48 k49 x45.1.Value, blk b19 [.slice A51 x45.2.2.b.length k52, .slice A53 x45.2.2.blocks.length k54, .slice A55 x45.2.2.filter.length k56, .int .i64 x45.2.2.count, .int .i64 x45.2.2.reads], sl .ro ku8 A51 k52 x45.2.2.b, sl .ro ksstable_block A53 k54 x45.2.2.blocks, sl .ro ku8 A55 k56 x45.2.2.filter, sl .ro ku8 (some ⟨b43, 0, none⟩) 1 [98], blk b42 [.slice A31 x30.1.Key.length k32, .int .u64 x30.1.Seq, .bool x30.1.Del, .slice A33 x30.1.Value.length k34], sl .ro ku8 A31 k32 x30.1.Key, sl .ro ku8 A33 k34 x30.1.Value, sl .ro ku8 (some ⟨b28, 0, none⟩) 1 [97], sl .ro ku8 A7 k8 x6.1, sl .ro ku8 A13 (Int.toNat (k8 : Int) - Int.toNat 6) (cut x6.1 (Int.toNat 6) (Int.toNat 19)), sl .ro kapi_Entry A3 k4 x2] ++ F) _ := S.join
            refine r_pv T rfl rfl fun _ T => ?_
            refine r_pv T rfl rfl fun _ T => ?_
            refine r_pv T rfl rfl fun _ T => ?_
            refine r_alloc T S zv36 (cs := [.slice none 0 0, .int .u64 0, .bool false, .slice none 0 0]) rfl rfl fun _ _ b57 S T => ?_
            refine r_stBA (ix := 0) (vs := [.slice A46 x45.1.Key.length k47, .int .u64 x45.1.Seq, .bool x45.1.Del, .slice A48 x45.1.Value.length k49]) (l' := [blk b57 [.slice A46 x45.1.Key.length k47, .int .u64 x45.1.Seq, .bool x45.1.Del, .slice A48 x45.1.Value.length k49], sl .ro ku8 A46 k47 x45.1.Key, sl .ro ku8 A48 k49 x45.1.Value, blk b19 [.slice A51 x45.2.2.b.length k52, .slice A53 x45.2.2.blocks.length k54, .slice A55 x45.2.2.filter.length k56, .int .i64 x45.2.2.count, .int .i64 x45.2.2.reads], sl .ro ku8 A51 k52 x45.2.2.b, sl .ro ksstable_block A53 k54 x45.2.2.blocks, sl .ro ku8 A55 k56 x45.2.2.filter, sl .ro ku8 (some ⟨b43, 0, none⟩) 1 [98], blk b42 [.slice A31 x30.1.Key.length k32, .int .u64 x30.1.Seq, .bool x30.1.Del, .slice A33 x30.1.Value.length k34], sl .ro ku8 A31 k32 x30.1.Key, sl .ro ku8 A33 k34 x30.1.Value, sl .ro ku8 (some ⟨b28, 0, none⟩) 1 [97], sl .ro ku8 A7 k8 x6.1, sl .ro ku8 A13 (Int.toNat (k8 : Int) - Int.toNat 6) (cut x6.1 (Int.toNat 6) (Int.toNat 19)), sl .ro kapi_Entry A3 k4 x2]) T S rfl rfl rfl rfl (by simp) Try.sizeOf36 (Nat.le_of_ble_eq_true rfl) rfl fun _ S => ?_
            refine r_pv T rfl rfl fun _ T => ?_
            refine Gets.seq ?_
            refine rg ?_
            refine r_pv T rfl rfl fun _ T => ?_
            obtain ⟨x59, h58, H⟩ := bd H
            refine r_call T Try.call17 rfl rfl (sstable_Table_Count.ok _ _ x45.2.2 (S.sel (p := [blk b19 [.slice A51 x45.2.2.b.length k52, .slice A53 x45.2.2.blocks.length k54, .slice A55 x45.2.2.filter.length k56, .int .i64 x45.2.2.count, .int .i64 x45.2.2.reads], sl .ro ku8 A51 k52 x45.2.2.b, sl .ro ksstable_block A53 k54 x45.2.2.blocks, sl .ro ku8 A55 k56 x45.2.2.filter]) (is := [3, 3, 3, 3]) rfl) _ h58) ?_
            rintro _ _ ⟨A61, k62, A63, k64, A65, k66, rfl, S⟩
            refine ⟨_, rfl, fun _ T => ?_⟩
            replace S : SL ([blk b19 [.slice A61 x59.2.b.length k62, .slice A63 x59.2.blocks.length k64, .slice A65 x59.2.filter.length k66, .int .i64 x59.2.count, .int .i64 x59.2.reads], sl .ro ku8 A61 k62 x59.2.b, sl .ro ksstable_block A63 k64 x59.2.blocks, sl .ro ku8 A65 k66 x59.2.filter, blk b57 [.slice A46 x45.1.Key.length k47, .int .u64 x45.1.Seq, .bool x45.1.Del, .slice A48 x45.1.Value.length k49], sl .ro ku8 A46 k47 x45.1.Key, sl .ro ku8 A48 k49 x45.1.Value, sl .ro ku8 (some ⟨b43, 0, none⟩) 1 [98], blk b42 [.slice A31 x30.1.Key.length k32, .int .u64 x30.1.Seq, .bool x30.1.Del, .slice A33 x30.1.Value.length k34], sl .ro ku8 A31 k32 x30.1.Key, sl .ro ku8 A33 k34 x30.1.Value, sl .ro ku8 (some ⟨b28, 0, none⟩) 1 [97], sl .ro ku8 A7 k8 x6.1, sl .ro ku8 A13 (Int.toNat (k8 : Int) - Int.toNat 6) (cut x6.1 (Int.toNat 6) (Int.toNat 19)), sl .ro kapi_Entry A3 k4 x2] ++ F) _ := S.join
            refine r_pv T rfl rfl fun _ T => ?_
            refine r_pv T rfl rfl fun _ T => ?_
            rcases ifE H with ⟨h67, H⟩ | ⟨h67, H⟩
            · refine g_yes T rfl rfl h67 ?_
              refine r_pv T rfl rfl fun _ T => ?_
              refine g_yes T rfl rfl h67 ?_
              obtain ⟨x69, h68, H⟩ := bd H
              refine r_call T Try.call18 rfl rfl (sstable_Table_Blocks.ok _ _ x59.2 (S.sel (p := [blk b19 [.slice A61 x59.2.b.length k62, .slice A63 x59.2.blocks.length k64, .slice A65 x59.2.filter.length k66, .int .i64 x59.2.count, .int .i64 x59.2.reads], sl .ro ku8 A61 k62 x59.2.b, sl .ro ksstable_block A63 k64 x59.2.blocks, sl .ro ku8 A65 k66 x59.2.filter]) (is := [0, 0, 0, 0]) rfl) _ h68) ?_
              rintro _ _ ⟨A71, k72, A73, k74, A75, k76, rfl, S⟩
              refine ⟨_, rfl, fun _ T => ?_⟩
              replace S : SL ([blk b19 [.slice A71 x69.2.b.length k72, .slice A73 x69.2.blocks.length k74, .slice A75 x69.2.filter.length k76, .int .i64 x69.2.count, .int .i64 x69.2.reads], sl .ro ku8 A71 k72 x69.2.b, sl .ro ksstable_block A73 k74 x69.2.blocks, sl .ro ku8 A75 k76 x69.2.filter, blk b57 [.slice A46 x45.1.Key.length k47, .int .u64 x45.1.Seq, .bool x45.1.Del, .slice A48 x45.1.Value.length k49], sl .ro ku8 A46 k47 x45.1.Key, sl .ro ku8 A48 k49 x45.1.Value, sl .ro ku8 (some ⟨b43, 0, none⟩) 1 [98], blk b42 [.slice A31 x30.1.Key.length k32, .int .u64 x30.1.Seq, .bool x30.1.Del, .slice A33 x30.1.Value.length k34], sl .ro ku8 A31 k32 x30.1.Key, sl .ro ku8 A33 k34 x30.1.Value, sl .ro ku8 (some ⟨b28, 0, none⟩) 1 [97], sl .ro ku8 A7 k8 x6.1, sl .ro ku8 A13 (Int.toNat (k8 : Int) - Int.toNat 6) (cut x6.1 (Int.toNat 6) (Int.toNat 19)), sl .ro kapi_Entry A3 k4 x2] ++ F) _ := S.join
              refine g_yes T rfl rfl h67 ?_
              refine r_pv T rfl rfl fun _ T => ?_
              refine r_pickT T rfl h67 rfl rfl fun _ T => ?_
              refine r_pv T rfl rfl fun _ T => ?_
              rcases ifE H with ⟨h77, H⟩ | ⟨h77, H⟩
              · refine g_yes T rfl rfl h77 ?_
                refine r_pv T rfl rfl fun _ T => ?_
                refine r_pickT T rfl h77 rfl rfl fun _ T => ?_
                refine r_pv T rfl rfl fun _ T => ?_
                rcases ifE H with ⟨h78, H⟩ | ⟨h78, H⟩
                · refine g_yes T rfl rfl h78 ?_
                  refine r_fa (o' := 2) T rfl Try.runUnderlying36 rfl Try.sizeOf4 rfl rfl fun _ T => ?_
                  refine g_yes T rfl rfl h78 ?_
                  refine r_ldB (ix := 8) T S rfl Try.isAgg4 rfl rfl rfl fun _ T => ?_
                  refine r_pickT T rfl h78 rfl rfl fun _ T => ?_
                  refine r_pv T rfl rfl fun _ T => ?_
                  rcases ifE H with ⟨h79, H⟩ | ⟨h79, H⟩
                  · refine g_yes T rfl rfl h79 ?_
                    refine r_fa (o' := 1) T rfl Try.runUnderlying36 rfl Try.sizeOf34 rfl rfl fun _ T => ?_
                    refine g_yes T rfl rfl h79 ?_
                    refine r_ldB (ix := 8) T S rfl Try.isAgg34 rfl rfl rfl fun _ T => ?_
                    refine g_yes T rfl rfl h79 ?_
                    refine r_pv T rfl rfl fun _ T => ?_
                    refine r_pickT T rfl h79 rfl rfl fun _ T => ?_
                    refine r_pv T rfl rfl fun _ T => ?_
                    rcases ifE H with ⟨h80, H⟩ | ⟨h80, H⟩
                    · refine g_yes T rfl rfl h80 ?_
                      refine r_pv T rfl rfl fun _ T => ?_
                      refine g_yes T rfl rfl h80 ?_
                      refine r_pv T rfl rfl fun _ T => ?_
                      refine r_pickT T rfl h80 rfl rfl fun _ T => ?_
                      refine r_pv T rfl rfl fun _ T => ?_
                      exact J2_ok F r z (!x45.2.1) _ _ (T.sub ⟨rfl, trivial⟩) (S.only (p := []) [] rfl) H
                    · refine g_no T rfl rfl h80 rfl fun _ T => ?_
                      refine g_no T rfl rfl h80 rfl fun _ T => ?_
                      refine r_pickF T rfl h80 rfl rfl fun _ T => ?_
                      refine r_pv T rfl rfl fun _ T => ?_
                      exact J2_ok F r z false _ _ (T.sub ⟨rfl, trivial⟩) (S.only (p := []) [] rfl) H
                  · refine g_no T rfl rfl h79 rfl fun _ T => ?_
                    refine g_no T rfl rfl h79 rfl fun _ T => ?_
                    refine g_no T rfl rfl h79 rfl fun _ T => ?_
                    refine r_pickF T rfl h79 rfl rfl fun _ T => ?_
                    refine r_pv T rfl rfl fun _ T => ?_
                    refine g_no T rfl rfl rfl rfl fun _ T => ?_
                    refine g_no T rfl rfl rfl rfl fun _ T => ?_
                    refine r_pickF T rfl rfl rfl rfl fun _ T => ?_
                    refine r_pv T rfl rfl fun _ T => ?_
                    exact J2_ok F r z false _ _ (T.sub ⟨rfl, trivial⟩) (S.only (p := []) [] rfl) H
                · refine g_no T rfl rfl h78 rfl fun _ T => ?_
                  refine g_no T rfl rfl h78 rfl fun _ T => ?_
                  refine r_pickF T rfl h78 rfl rfl fun _ T => ?_
                  refine r_pv T rfl rfl fun _ T => ?_
                  refine g_no T rfl rfl rfl rfl fun _ T => ?_
                  refine g_no T rfl rfl rfl rfl fun _ T => ?_
                  refine g_no T rfl rfl rfl rfl fun _ T => ?_
                  refine r_pickF T rfl rfl rfl rfl fun _ T => ?_
                  refine r_pv T rfl rfl fun _ T => ?_
                  refine g_no T rfl rfl rfl rfl fun _ T => ?_
                  refine g_no T rfl rfl rfl rfl fun _ T => ?_
                  refine r_pickF T rfl rfl rfl rfl fun _ T => ?_
                  refine r_pv T rfl rfl fun _ T => ?_
                  exact J2_ok F r z false _ _ (T.sub ⟨rfl, trivial⟩) (S.only (p := []) [] rfl) H
              · refine g_no T rfl rfl h77 rfl fun _ T => ?_
                refine r_pickF T rfl h77 rfl rfl fun _ T => ?_
                refine r_pv T rfl rfl fun _ T => ?_
                refine g_no T rfl rfl rfl rfl fun _ T => ?_
                refine g_no T rfl rfl rfl rfl fun _ T => ?_
                refine r_pickF T rfl rfl rfl rfl fun _ T => ?_
                refine r_pv T rfl rfl fun _ T => ?_
                refine g_no T rfl rfl rfl rfl fun _ T => ?_
                refine g_no T rfl rfl rfl rfl fun _ T => ?_
                refine g_no T rfl rfl rfl rfl fun _ T => ?_
                refine r_pickF T rfl rfl rfl rfl fun _ T => ?_
                refine r_pv T rfl rfl fun _ T => ?_
                refine g_no T rfl rfl rfl rfl fun _ T => ?_
                refine g_no T rfl rfl rfl rfl fun _ T => ?_
                refine r_pickF T rfl rfl rfl rfl fun _ T => ?_
                refine r_pv T rfl rfl fun _ T => ?_
                exact J2_ok F r z false _ _ (T.sub ⟨rfl, trivial⟩) (S.only (p := []) [] rfl) H
            · refine g_no T rfl rfl h67 rfl fun _ T => ?_
              refine g_no T rfl rfl h67 rfl fun _ T => ?_
              refine g_no T rfl rfl h67 rfl fun _ T => ?_
              refine r_pickF T rfl h67 rfl rfl fun _ T => ?_
              refine r_pv T rfl rfl fun _ T => ?_
              refine g_no T rfl rfl rfl rfl fun _ T => ?_
              refine r_pickF T rfl rfl rfl rfl fun _ T => ?_
              refine r_pv T rfl rfl fun _ T => ?_
              refine g_no T rfl rfl rfl rfl fun _ T => ?_
              refine g_no T rfl rfl rfl rfl fun _ T => ?_
              refine r_pickF T rfl rfl rfl rfl fun _ T => ?_
              refine r_pv T rfl rfl fun _ T => ?_
              refine g_no T rfl rfl rfl rfl fun _ T => ?_
              refine g_no T rfl rfl rfl rfl fun _ T => ?_
              refine g_no T rfl rfl rfl rfl fun _ T => ?_
              refine r_pickF T rfl rfl rfl rfl fun _ T => ?_
              refine r_pv T rfl rfl fun _ T => ?_
              refine g_no T rfl rfl rfl rfl fun _ T => ?_
              refine g_no T rfl rfl rfl rfl fun _ T => ?_
              refine r_pickF T rfl rfl rfl rfl fun _ T => ?_
              refine r_pv T rfl rfl fun _ T => ?_
              exact J2_ok F r z false _ _ (T.sub ⟨rfl, trivial⟩) (S.only (p := []) [] rfl) H
end cormorantlaw04_shown
end Go.Proofs.Ytghpokmkhlmgcaa
