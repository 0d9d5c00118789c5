/- A Go function: the Lean function that it comes to, and the proof. -/
import Derived.Test.YtghpokmkhlmgcaaBa1
import Derived.Test.YtghpokmkhlmgcaaBa3
import Derived.Test.YtghpokmkhlmgcaaBa5
import Derived.ProofKit
import Derived.Deep.Slices
import Derived.Lib.SmallJoins
import Derived.IntWalk
import Derived.Test.YtghpokmkhlmgcaaBa2
import Derived.Test.YtghpokmkhlmgcaaBa4
namespace Go.Proofs.Ytghpokmkhlmgcaa
open Go Go.Proofs.Ytghpokmkhlmgcaa.X
set_option linter.unusedVariables false
set_option linter.unusedSimpArgs false
set_option maxRecDepth 100000
set_option maxHeartbeats 4000000
/-! ### cormorant.cormorantlaw04.SstableBack: function 4 -/
namespace cormorantlaw04_SstableBack
noncomputable def c0 : Code := match Try.f4.body with | some c => c | none => .skip
def R (F : List Atom) (x1 : List api_Entry) (A2 : Option Addr) (k3 : Nat) (r : Bool) : Ending → World → Prop := fun e w' => e = .returned (.bool r) ∧ SL ([sl .ro kapi_Entry A2 k3 x1] ++ F) w'
def J5 (z : Nat) : Option Bool := some false
def J4 (z : Nat) : Option Bool := some false
def L3 (z : Nat) (x1 : List api_Entry) : Nat → Int → (List Int) → (List sstable_block) → (List Int) → Int → Int → Option Bool
  | 0, _, _, _, _, _, _ => none
  | m + 1, x54, x43, x46, x49, x52, x53 => If (decide (x54 < (x1.length : Int))) (Ck (0 ≤ x54 ∧ x54 < (x1.length : Int)) (Bd (sstable_Table_Get.f z (sstable_Table.mk x43 x46 x49 x52 x53) ((gi dapi_Entry x1 x54).Key) ((gi dapi_Entry x1 x54).Seq)) fun x60 => Bd (cormorantlaw04_sameOne.f x60.1 (gi dapi_Entry x1 x54)) fun x92 => If (!x60.2.1) (J4 z) (If (!x92) (J4 z) (L3 z x1 m (wr .i64 (x54 + 1)) x60.2.2.b x60.2.2.blocks x60.2.2.filter x60.2.2.count x60.2.2.reads)))) (some true)
def J2 (z : Nat) : Option Bool := some false
def J1 (z : Nat) (x15 : Bool) : Option Bool := some x15
def J0 (z : Nat) (x7 : Bool) (x9 : (List Int) × Int) : Option Bool := If x7 (J1 z ((x9.1.length : Int) == 0)) (J1 z false)
def f (z : Nat) (x1 : List api_Entry) (x4 : Int) (x5 : Int) : Option Bool := Bd (cormorantlaw04_shown.f z) fun x7 => Bd (sstable_Build.f z x1 x4 x5) fun x9 => If (!x7) (J0 z x7 x9) (If (x9.2 != 0) (J0 z x7 x9) (Bd (sstable_Open.f z x9.1) fun x17 => Om x17.1 (If (x17.2 != 0) (J2 z) (J2 z)) fun x18 => If (x17.2 != 0) (some false) (Bd (cormorantlaw04_scan.f z x18 ([] : List Int) (wr .i64 ((x1.length : Int) + 1))) fun x30 => Bd (cormorantlaw04_same.f z x30.1 x1) fun x41 => If (!x41) (some false) (L3 z x1 z 0 x30.2.b x30.2.blocks x30.2.filter x30.2.count x30.2.reads))))
noncomputable def ptJ5 : List Item := [.code (cL (cT (cR (cR (cR (cB (cL (cR (cB (cB (cR (cL (cR (cR (cR (cR (cR (cR (cR (cR (cR c0))))))))))))))))))))), .code (cR (cT (cR (cR (cR (cB (cL (cR (cB (cB (cR (cL (cR (cR (cR (cR (cR (cR (cR (cR (cR c0))))))))))))))))))))), .inBlock 1, .code (cR (cR (cB (cB (cR (cL (cR (cR (cR (cR (cR (cR (cR (cR (cR c0))))))))))))))), .inLoop (cB (cB (cR (cL (cR (cR (cR (cR (cR (cR (cR (cR (cR c0))))))))))))), .inBlock 0, .code (cR (cR (cR (cR (cR (cR (cR (cR (cR (cR c0))))))))))]
noncomputable def ptJ4 : List Item := [.code (cL (cT (cR (cR (cR (cB (cL (cR (cB (cB (cR (cL (cR (cR (cR (cR (cR (cR (cR (cR (cR c0))))))))))))))))))))), .code (cR (cT (cR (cR (cR (cB (cL (cR (cB (cB (cR (cL (cR (cR (cR (cR (cR (cR (cR (cR (cR c0))))))))))))))))))))), .inBlock 1, .code (cR (cR (cB (cB (cR (cL (cR (cR (cR (cR (cR (cR (cR (cR (cR c0))))))))))))))), .inLoop (cB (cB (cR (cL (cR (cR (cR (cR (cR (cR (cR (cR (cR c0))))))))))))), .inBlock 0, .code (cR (cR (cR (cR (cR (cR (cR (cR (cR (cR c0))))))))))]
noncomputable def ptL3 : List Item := [.code (cB (cB (cR (cL (cR (cR (cR (cR (cR (cR (cR (cR (cR c0))))))))))))), .inLoop (cB (cB (cR (cL (cR (cR (cR (cR (cR (cR (cR (cR (cR c0))))))))))))), .inBlock 0, .code (cR (cR (cR (cR (cR (cR (cR (cR (cR (cR c0))))))))))]
noncomputable def ptJ2 : List Item := [.code (cL (cT (cR (cL (cR (cR (cR (cR (cR c0))))))))), .code (cR (cT (cR (cL (cR (cR (cR (cR (cR c0))))))))), .code (cR (cR (cR (cR (cR (cR c0))))))]
noncomputable def ptJ1 : List Item := [.code (cR (cT (cR (cL (cR (cR (cR c0))))))), .code (cR (cR (cR (cR c0))))]
noncomputable def ptJ0 : List Item := [.code (cL (cT (cR (cL (cR (cR (cR c0))))))), .code (cR (cT (cR (cL (cR (cR (cR c0))))))), .code (cR (cR (cR (cR c0))))]
theorem J5_ok (F : List Atom) (r : Bool) (z : Nat) (x1 : List api_Entry) (A2 : Option Addr) (k3 : Nat) (x4 : Int) (x5 : Int) (a : Act) (w : World) (T : Tm 92 [] a) (S : SL ([sl .ro kapi_Entry A2 k3 x1] ++ F) w) (H : J5 z = some r) : Gets Try.prog 4 ptJ5 a w (R F x1 A2 k3 r) := by
  refine rg ?_
  refine r_pv T rfl rfl fun _ T => ?_
  replace H := Option.some.inj H
  subst H
  exact rtn T Try.func4 rfl rfl ⟨rfl, (S.only (p := [sl .ro kapi_Entry A2 k3 x1]) [0] rfl)⟩
theorem J4_ok (F : List Atom) (r : Bool) (z : Nat) (x1 : List api_Entry) (A2 : Option Addr) (k3 : Nat) (x4 : Int) (x5 : Int) (a : Act) (w : World) (T : Tm 92 [] a) (S : SL ([sl .ro kapi_Entry A2 k3 x1] ++ F) w) (H : J4 z = some r) : Gets Try.prog 4 ptJ4 a w (R F x1 A2 k3 r) := by
  refine rg ?_
  refine r_pv T rfl rfl fun _ T => ?_
  replace H := Option.some.inj H
  subst H
  exact rtn T Try.func4 rfl rfl ⟨rfl, (S.only (p := [sl .ro kapi_Entry A2 k3 x1]) [0] rfl)⟩
theorem L3_ok (F : List Atom) (r : Bool) (z : Nat) (x1 : List api_Entry) (A2 : Option Addr) (k3 : Nat) (b20 : Nat) (x4 : Int) (x5 : Int) (m : Nat) : ∀ (x54 : Int) (A44 : Option Addr) (x43 : List Int) (k45 : Nat) (A47 : Option Addr) (x46 : List sstable_block) (k48 : Nat) (A50 : Option Addr) (x49 : List Int) (k51 : Nat) (x52 : Int) (x53 : Int) (a : Act) (w : World), Tm 92 [(0, .slice A2 x1.length k3), (10, .pointer (some ⟨b20, 0, none⟩)), (14, .int .i64 x54)] a → SL ([sl .ro kapi_Entry A2 k3 x1, blk b20 [.slice A44 x43.length k45, .slice A47 x46.length k48, .slice A50 x49.length k51, .int .i64 x52, .int .i64 x53], sl .ro ku8 A44 k45 x43, sl .ro ksstable_block A47 k48 x46, sl .ro ku8 A50 k51 x49] ++ F) w → L3 z x1 m x54 x43 x46 x49 x52 x53 = some r → Gets Try.prog 4 ptL3 a w (R F x1 A2 k3 r) := by
  induction m with
  | zero => intro _ _ _ _ _ _ _ _ _ _ _ _ _ _ _ _ H; cases H
  | succ m ih =>
    intro x54 A44 x43 k45 A47 x46 k48 A50 x49 k51 x52 x53 a w T S H
    refine Gets.seq ?_
    refine Gets.seq ?_
    refine rg ?_
    refine r_pv T rfl rfl fun _ T => ?_
    refine r_pv T rfl rfl fun _ T => ?_
    refine r_lenS T rfl Try.runUnderlying22 rfl fun _ T => ?_
    refine r_pv T rfl rfl fun _ T => ?_
    rcases ifE H with ⟨h55, H⟩ | ⟨h55, H⟩
    · refine cdT T rfl h55 ?_
      refine Gets.skip (Gets.seq (Gets.block (Gets.seq ?_)))
      obtain ⟨h56, H⟩ := ck H
      obtain ⟨_, S⟩ := S.peek1 (ix := 0) (off := 0) (i := x54) rfl dapi_Entry fld_api_Entry_Key h56.1 h56.2 rfl
      obtain ⟨A57, k58, hv_, S_⟩ := SL.ofVal (l := _ :: _) S
      subst hv_
      replace S := S_
      refine Gets.drawn (l := [sl .ro ku8 A57 k58 ((gi dapi_Entry x1 x54).Key), cl A2 (Int.toNat x54 * 4 + 0) [.slice A57 (((gi dapi_Entry x1 x54).Key).length) k58], sl .ro kapi_Entry A2 k3 x1, blk b20 [.slice A44 x43.length k45, .slice A47 x46.length k48, .slice A50 x49.length k51, .int .i64 x52, .int .i64 x53], sl .ro ku8 A44 k45 x43, sl .ro ksstable_block A47 k48 x46, sl .ro ku8 A50 k51 x49]) (V := [some (.pointer (some ⟨b20, 0, none⟩), true), some (.slice A2 x1.length k3, true), some (.int .i64 x54, true), some (.pointer (some (eA A2 (Int.toNat x54 * 4))), true), some (.pointer (some (eA A2 (Int.toNat x54 * 4 + 0))), true), some (.slice A57 (((gi dapi_Entry x1 x54).Key).length) k58, true), some (.slice A2 x1.length k3, true), some (.int .i64 x54, true), some (.pointer (some (eA A2 (Int.toNat x54 * 4))), true), some (.pointer (some (eA A2 (Int.toNat x54 * 4 + 1))), true), some (.int .u64 ((gi dapi_Entry x1 x54).Seq), true), none, none, none, none, none, none, none]) mixed T S rfl ?_
      refine stageL [11, 15] rfl rfl ⟨⟨_, [(10, .pointer (some ⟨b20, 0, none⟩))], rfl, ⟨.inr ⟨rfl, rfl⟩, trivial⟩, fun u a w T S => (by refine r_pv T rfl rfl fun _ T => ?_; exact ⟨rfl, T⟩)⟩, ⟨_, [(0, .slice A2 x1.length k3)], rfl, ⟨.inr ⟨rfl, rfl⟩, trivial⟩, fun u a w T S => (by refine r_pv T rfl rfl fun _ T => ?_; exact ⟨rfl, T⟩)⟩, ⟨_, [(14, .int .i64 x54)], rfl, ⟨.inr ⟨rfl, rfl⟩, trivial⟩, fun u a w T S => (by refine r_pv T rfl rfl fun _ T => ?_; exact ⟨rfl, T⟩)⟩, ⟨_, [(67, .slice A2 x1.length k3), (68, .int .i64 x54)], rfl, ⟨.inl ⟨1, rfl, rfl, rfl, rfl⟩, .inl ⟨2, rfl, rfl, rfl, rfl⟩, trivial⟩, fun u a w T S => (by refine r_ia (ix := 2) T S rfl rfl rfl rfl Try.runUnderlying22 Try.sizeOf36 h56.1 h56.2 rfl fun _ T => ?_; exact ⟨rfl, T⟩)⟩, ⟨_, [(69, .pointer (some (eA A2 (Int.toNat x54 * 4))))], rfl, ⟨.inl ⟨3, rfl, rfl, rfl, rfl⟩, trivial⟩, fun u a w T S => (by refine r_faE T rfl Try.runUnderlying36 rfl Try.sizeOf24 rfl fun _ T => ?_; exact ⟨rfl, T⟩)⟩, ⟨_, [(70, .pointer (some (eA A2 (Int.toNat x54 * 4 + 0))))], rfl, ⟨.inl ⟨4, rfl, rfl, rfl, rfl⟩, trivial⟩, fun u a w T S => (by refine r_ldC (ix := 1) (A := A2) T S rfl rfl rfl Try.isAgg24 rfl fun _ T => ?_; exact ⟨rfl, T⟩)⟩, ⟨_, [(0, .slice A2 x1.length k3)], rfl, ⟨.inr ⟨rfl, rfl⟩, trivial⟩, fun u a w T S => (by refine r_pv T rfl rfl fun _ T => ?_; exact ⟨rfl, T⟩)⟩, ⟨_, [(14, .int .i64 x54)], rfl, ⟨.inr ⟨rfl, rfl⟩, trivial⟩, fun u a w T S => (by refine r_pv T rfl rfl fun _ T => ?_; exact ⟨rfl, T⟩)⟩, ⟨_, [(72, .slice A2 x1.length k3), (73, .int .i64 x54)], rfl, ⟨.inl ⟨6, rfl, rfl, rfl, rfl⟩, .inl ⟨7, rfl, rfl, rfl, rfl⟩, trivial⟩, fun u a w T S => (by refine r_ia (ix := 2) T S rfl rfl rfl rfl Try.runUnderlying22 Try.sizeOf36 h56.1 h56.2 rfl fun _ T => ?_; exact ⟨rfl, T⟩)⟩, ⟨_, [(74, .pointer (some (eA A2 (Int.toNat x54 * 4))))], rfl, ⟨.inl ⟨8, rfl, rfl, rfl, rfl⟩, trivial⟩, fun u a w T S => (by refine r_faE T rfl Try.runUnderlying36 rfl Try.sizeOf34 rfl fun _ T => ?_; exact ⟨rfl, T⟩)⟩, ⟨_, [(75, .pointer (some (eA A2 (Int.toNat x54 * 4 + 1))))], rfl, ⟨.inl ⟨9, rfl, rfl, rfl, rfl⟩, trivial⟩, fun u a w T S => (by refine r_ldE (ix := 2) (i := x54) (off := 1) (f := (Value.int .u64)) T S rfl Try.isAgg34 rfl dapi_Entry _ rfl rfl fld_api_Entry_Seq h56.1 h56.2 (fun h => h) rfl fun _ T => ?_; exact ⟨rfl, T⟩)⟩, trivial⟩ rfl (fun i hi => ?_) (fun h => by cases h)
      simp only [List.mem_cons, List.not_mem_nil, or_false] at hi
      rcases hi with rfl | rfl
      · refine ⟨rfl, _, [(66, .pointer (some ⟨b20, 0, none⟩)), (71, .slice A57 (((gi dapi_Entry x1 x54).Key).length) k58), (76, .int .u64 ((gi dapi_Entry x1 x54).Seq))], rfl, ⟨.inl ⟨0, rfl, rfl, rfl, rfl⟩, .inl ⟨5, rfl, rfl, rfl, rfl⟩, .inl ⟨10, rfl, rfl, rfl, rfl⟩, trivial⟩, fun u a w T S => ?_⟩
        obtain ⟨x60, h59, H⟩ := bd H
        refine r_call T Try.call11 rfl rfl (sstable_Table_Get.ok _ _ z (sstable_Table.mk x43 x46 x49 x52 x53) ((gi dapi_Entry x1 x54).Key) ((gi dapi_Entry x1 x54).Seq) (S.sel (p := [blk b20 [.slice A44 x43.length k45, .slice A47 x46.length k48, .slice A50 x49.length k51, .int .i64 x52, .int .i64 x53], sl .ro ku8 A44 k45 x43, sl .ro ksstable_block A47 k48 x46, sl .ro ku8 A50 k51 x49, sl .ro ku8 A57 k58 ((gi dapi_Entry x1 x54).Key)]) (is := [3, 3, 3, 3, 0]) rfl) _ h59) ?_
        rintro _ _ ⟨A61, k62, A63, k64, A66, k67, A68, k69, A70, k71, rfl, S⟩
        refine ⟨_, rfl, fun _ T => ?_⟩
        replace S : SL ([sl .ro ku8 A61 k62 x60.1.Key, sl .ro ku8 A63 k64 x60.1.Value, blk b20 [.slice A66 x60.2.2.b.length k67, .slice A68 x60.2.2.blocks.length k69, .slice A70 x60.2.2.filter.length k71, .int .i64 x60.2.2.count, .int .i64 x60.2.2.reads], sl .ro ku8 A66 k67 x60.2.2.b, sl .ro ksstable_block A68 k69 x60.2.2.blocks, sl .ro ku8 A70 k71 x60.2.2.filter, sl .ro ku8 A57 k58 ((gi dapi_Entry x1 x54).Key), cl A2 (Int.toNat x54 * 4 + 0) [.slice A57 (((gi dapi_Entry x1 x54).Key).length) k58], sl .ro kapi_Entry A2 k3 x1] ++ F) _ := S.join
        refine ⟨_, [some (.pointer (some ⟨b20, 0, none⟩), false), some (.slice A2 x1.length k3, true), some (.int .i64 x54, true), some (.pointer (some (eA A2 (Int.toNat x54 * 4))), true), some (.pointer (some (eA A2 (Int.toNat x54 * 4 + 0))), true), some (.slice A57 (((gi dapi_Entry x1 x54).Key).length) k58, false), some (.slice A2 x1.length k3, true), some (.int .i64 x54, true), some (.pointer (some (eA A2 (Int.toNat x54 * 4))), true), some (.pointer (some (eA A2 (Int.toNat x54 * 4 + 1))), true), some (.int .u64 ((gi dapi_Entry x1 x54).Seq), false), some (.tuple #[.agg #[.slice A61 x60.1.Key.length k62, .int .u64 x60.1.Seq, .bool x60.1.Del, .slice A63 x60.1.Value.length k64], .bool x60.2.1], false), some (.tuple #[.agg #[.slice A61 x60.1.Key.length k62, .int .u64 x60.1.Seq, .bool x60.1.Del, .slice A63 x60.1.Value.length k64], .bool x60.2.1], true), some (.agg #[.slice A61 x60.1.Key.length k62, .int .u64 x60.1.Seq, .bool x60.1.Del, .slice A63 x60.1.Value.length k64], true), some (.bool x60.2.1, true), none, none, none], [sl .ro ku8 A61 k62 x60.1.Key, sl .ro ku8 A63 k64 x60.1.Value, blk b20 [.slice A66 x60.2.2.b.length k67, .slice A68 x60.2.2.blocks.length k69, .slice A70 x60.2.2.filter.length k71, .int .i64 x60.2.2.count, .int .i64 x60.2.2.reads], sl .ro ku8 A66 k67 x60.2.2.b, sl .ro ksstable_block A68 k69 x60.2.2.blocks, sl .ro ku8 A70 k71 x60.2.2.filter, sl .ro ku8 A57 k58 ((gi dapi_Entry x1 x54).Key), cl A2 (Int.toNat x54 * 4 + 0) [.slice A57 (((gi dapi_Entry x1 x54).Key).length) k58], sl .ro kapi_Entry A2 k3 x1], rfl, ⟨.inr ⟨_, _, _, rfl, rfl⟩, .inr ⟨_, _, _, rfl, rfl⟩, .inr ⟨_, _, _, rfl, rfl⟩, .inr ⟨_, _, _, rfl, rfl⟩, .inr ⟨_, _, _, rfl, rfl⟩, .inr ⟨_, _, _, rfl, rfl⟩, .inr ⟨_, _, _, rfl, rfl⟩, .inr ⟨_, _, _, rfl, rfl⟩, .inr ⟨_, _, _, rfl, rfl⟩, .inr ⟨_, _, _, rfl, rfl⟩, .inr ⟨_, _, _, rfl, rfl⟩, .inl rfl, .inl rfl, .inl rfl, .inl rfl, .inl rfl, .inl rfl, .inl rfl, trivial⟩, rfl, ?_, T, S⟩
        refine stage (some 15) rfl rfl ⟨⟨_, [(0, .slice A2 x1.length k3)], rfl, ⟨.inr ⟨rfl, rfl⟩, trivial⟩, fun u a w T S => (by refine r_pv T rfl rfl fun _ T => ?_; exact ⟨rfl, T⟩)⟩, ⟨_, [(14, .int .i64 x54)], rfl, ⟨.inr ⟨rfl, rfl⟩, trivial⟩, fun u a w T S => (by refine r_pv T rfl rfl fun _ T => ?_; exact ⟨rfl, T⟩)⟩, ⟨_, [(67, .slice A2 x1.length k3), (68, .int .i64 x54)], rfl, ⟨.inl ⟨1, rfl, rfl, rfl, rfl⟩, .inl ⟨2, rfl, rfl, rfl, rfl⟩, trivial⟩, fun u a w T S => (by refine r_ia (ix := 8) T S rfl rfl rfl rfl Try.runUnderlying22 Try.sizeOf36 h56.1 h56.2 rfl fun _ T => ?_; exact ⟨rfl, T⟩)⟩, ⟨_, [(69, .pointer (some (eA A2 (Int.toNat x54 * 4))))], rfl, ⟨.inl ⟨3, rfl, rfl, rfl, rfl⟩, trivial⟩, fun u a w T S => (by refine r_faE T rfl Try.runUnderlying36 rfl Try.sizeOf24 rfl fun _ T => ?_; exact ⟨rfl, T⟩)⟩, ⟨_, [(0, .slice A2 x1.length k3)], rfl, ⟨.inr ⟨rfl, rfl⟩, trivial⟩, fun u a w T S => (by refine r_pv T rfl rfl fun _ T => ?_; exact ⟨rfl, T⟩)⟩, ⟨_, [(14, .int .i64 x54)], rfl, ⟨.inr ⟨rfl, rfl⟩, trivial⟩, fun u a w T S => (by refine r_pv T rfl rfl fun _ T => ?_; exact ⟨rfl, T⟩)⟩, ⟨_, [(72, .slice A2 x1.length k3), (73, .int .i64 x54)], rfl, ⟨.inl ⟨6, rfl, rfl, rfl, rfl⟩, .inl ⟨7, rfl, rfl, rfl, rfl⟩, trivial⟩, fun u a w T S => (by refine r_ia (ix := 8) T S rfl rfl rfl rfl Try.runUnderlying22 Try.sizeOf36 h56.1 h56.2 rfl fun _ T => ?_; exact ⟨rfl, T⟩)⟩, ⟨_, [(74, .pointer (some (eA A2 (Int.toNat x54 * 4))))], rfl, ⟨.inl ⟨8, rfl, rfl, rfl, rfl⟩, trivial⟩, fun u a w T S => (by refine r_faE T rfl Try.runUnderlying36 rfl Try.sizeOf34 rfl fun _ T => ?_; exact ⟨rfl, T⟩)⟩, ⟨_, [(77, .tuple #[.agg #[.slice A61 x60.1.Key.length k62, .int .u64 x60.1.Seq, .bool x60.1.Del, .slice A63 x60.1.Value.length k64], .bool x60.2.1])], rfl, ⟨.inl ⟨11, rfl, rfl, rfl, rfl⟩, trivial⟩, fun u a w T S => (by refine r_pv T rfl rfl fun _ T => ?_; exact ⟨rfl, T⟩)⟩, ⟨_, [(65, .tuple #[.agg #[.slice A61 x60.1.Key.length k62, .int .u64 x60.1.Seq, .bool x60.1.Del, .slice A63 x60.1.Value.length k64], .bool x60.2.1])], rfl, ⟨.inl ⟨12, rfl, rfl, rfl, rfl⟩, trivial⟩, fun u a w T S => (by refine r_pv T rfl rfl fun _ T => ?_; exact ⟨rfl, T⟩)⟩, ⟨_, [(65, .tuple #[.agg #[.slice A61 x60.1.Key.length k62, .int .u64 x60.1.Seq, .bool x60.1.Del, .slice A63 x60.1.Value.length k64], .bool x60.2.1])], rfl, ⟨.inl ⟨12, rfl, rfl, rfl, rfl⟩, trivial⟩, fun u a w T S => (by refine r_pv T rfl rfl fun _ T => ?_; exact ⟨rfl, T⟩)⟩, trivial⟩ rfl (fun i hi => ?_) (fun h => by cases h)
        cases hi
        refine ⟨rfl, _, [], rfl, trivial, fun u a w T S => ?_⟩
        refine r_alloc T S zv36 (cs := [.slice none 0 0, .int .u64 0, .bool false, .slice none 0 0]) rfl rfl fun _ _ b72 S T => ?_
        refine ⟨_, [some (.pointer (some ⟨b20, 0, none⟩), false), some (.slice A2 x1.length k3, true), some (.int .i64 x54, true), some (.pointer (some (eA A2 (Int.toNat x54 * 4))), true), some (.pointer (some (eA A2 (Int.toNat x54 * 4 + 0))), true), some (.slice A57 (((gi dapi_Entry x1 x54).Key).length) k58, false), some (.slice A2 x1.length k3, true), some (.int .i64 x54, true), some (.pointer (some (eA A2 (Int.toNat x54 * 4))), true), some (.pointer (some (eA A2 (Int.toNat x54 * 4 + 1))), true), some (.int .u64 ((gi dapi_Entry x1 x54).Seq), false), some (.tuple #[.agg #[.slice A61 x60.1.Key.length k62, .int .u64 x60.1.Seq, .bool x60.1.Del, .slice A63 x60.1.Value.length k64], .bool x60.2.1], false), some (.tuple #[.agg #[.slice A61 x60.1.Key.length k62, .int .u64 x60.1.Seq, .bool x60.1.Del, .slice A63 x60.1.Value.length k64], .bool x60.2.1], true), some (.agg #[.slice A61 x60.1.Key.length k62, .int .u64 x60.1.Seq, .bool x60.1.Del, .slice A63 x60.1.Value.length k64], true), some (.bool x60.2.1, true), some (.pointer (some ⟨b72, 0, none⟩), false), none, none], [blk b72 [.slice none 0 0, .int .u64 0, .bool false, .slice none 0 0], sl .ro ku8 A61 k62 x60.1.Key, sl .ro ku8 A63 k64 x60.1.Value, blk b20 [.slice A66 x60.2.2.b.length k67, .slice A68 x60.2.2.blocks.length k69, .slice A70 x60.2.2.filter.length k71, .int .i64 x60.2.2.count, .int .i64 x60.2.2.reads], sl .ro ku8 A66 k67 x60.2.2.b, sl .ro ksstable_block A68 k69 x60.2.2.blocks, sl .ro ku8 A70 k71 x60.2.2.filter, sl .ro ku8 A57 k58 ((gi dapi_Entry x1 x54).Key), cl A2 (Int.toNat x54 * 4 + 0) [.slice A57 (((gi dapi_Entry x1 x54).Key).length) k58], sl .ro kapi_Entry A2 k3 x1], rfl, ⟨.inr ⟨_, _, _, rfl, rfl⟩, .inr ⟨_, _, _, rfl, rfl⟩, .inr ⟨_, _, _, rfl, rfl⟩, .inr ⟨_, _, _, rfl, rfl⟩, .inr ⟨_, _, _, rfl, rfl⟩, .inr ⟨_, _, _, rfl, rfl⟩, .inr ⟨_, _, _, rfl, rfl⟩, .inr ⟨_, _, _, rfl, rfl⟩, .inr ⟨_, _, _, rfl, rfl⟩, .inr ⟨_, _, _, rfl, rfl⟩, .inr ⟨_, _, _, rfl, rfl⟩, .inr ⟨_, _, _, rfl, rfl⟩, .inr ⟨_, _, _, rfl, rfl⟩, .inr ⟨_, _, _, rfl, rfl⟩, .inr ⟨_, _, _, rfl, rfl⟩, .inl rfl, .inl rfl, .inl rfl, trivial⟩, rfl, ?_, T, S⟩
        refine stage (some 16) rfl rfl ⟨⟨_, [(0, .slice A2 x1.length k3)], rfl, ⟨.inr ⟨rfl, rfl⟩, trivial⟩, fun u a w T S => (by refine r_pv T rfl rfl fun _ T => ?_; exact ⟨rfl, T⟩)⟩, ⟨_, [(14, .int .i64 x54)], rfl, ⟨.inr ⟨rfl, rfl⟩, trivial⟩, fun u a w T S => (by refine r_pv T rfl rfl fun _ T => ?_; exact ⟨rfl, T⟩)⟩, ⟨_, [(67, .slice A2 x1.length k3), (68, .int .i64 x54)], rfl, ⟨.inl ⟨1, rfl, rfl, rfl, rfl⟩, .inl ⟨2, rfl, rfl, rfl, rfl⟩, trivial⟩, fun u a w T S => (by refine r_ia (ix := 9) T S rfl rfl rfl rfl Try.runUnderlying22 Try.sizeOf36 h56.1 h56.2 rfl fun _ T => ?_; exact ⟨rfl, T⟩)⟩, ⟨_, [(69, .pointer (some (eA A2 (Int.toNat x54 * 4))))], rfl, ⟨.inl ⟨3, rfl, rfl, rfl, rfl⟩, trivial⟩, fun u a w T S => (by refine r_faE T rfl Try.runUnderlying36 rfl Try.sizeOf24 rfl fun _ T => ?_; exact ⟨rfl, T⟩)⟩, ⟨_, [(0, .slice A2 x1.length k3)], rfl, ⟨.inr ⟨rfl, rfl⟩, trivial⟩, fun u a w T S => (by refine r_pv T rfl rfl fun _ T => ?_; exact ⟨rfl, T⟩)⟩, ⟨_, [(14, .int .i64 x54)], rfl, ⟨.inr ⟨rfl, rfl⟩, trivial⟩, fun u a w T S => (by refine r_pv T rfl rfl fun _ T => ?_; exact ⟨rfl, T⟩)⟩, ⟨_, [(72, .slice A2 x1.length k3), (73, .int .i64 x54)], rfl, ⟨.inl ⟨6, rfl, rfl, rfl, rfl⟩, .inl ⟨7, rfl, rfl, rfl, rfl⟩, trivial⟩, fun u a w T S => (by refine r_ia (ix := 9) T S rfl rfl rfl rfl Try.runUnderlying22 Try.sizeOf36 h56.1 h56.2 rfl fun _ T => ?_; exact ⟨rfl, T⟩)⟩, ⟨_, [(74, .pointer (some (eA A2 (Int.toNat x54 * 4))))], rfl, ⟨.inl ⟨8, rfl, rfl, rfl, rfl⟩, trivial⟩, fun u a w T S => (by refine r_faE T rfl Try.runUnderlying36 rfl Try.sizeOf34 rfl fun _ T => ?_; exact ⟨rfl, T⟩)⟩, ⟨_, [(77, .tuple #[.agg #[.slice A61 x60.1.Key.length k62, .int .u64 x60.1.Seq, .bool x60.1.Del, .slice A63 x60.1.Value.length k64], .bool x60.2.1])], rfl, ⟨.inl ⟨11, rfl, rfl, rfl, rfl⟩, trivial⟩, fun u a w T S => (by refine r_pv T rfl rfl fun _ T => ?_; exact ⟨rfl, T⟩)⟩, ⟨_, [(65, .tuple #[.agg #[.slice A61 x60.1.Key.length k62, .int .u64 x60.1.Seq, .bool x60.1.Del, .slice A63 x60.1.Value.length k64], .bool x60.2.1])], rfl, ⟨.inl ⟨12, rfl, rfl, rfl, rfl⟩, trivial⟩, fun u a w T S => (by refine r_pv T rfl rfl fun _ T => ?_; exact ⟨rfl, T⟩)⟩, ⟨_, [(65, .tuple #[.agg #[.slice A61 x60.1.Key.length k62, .int .u64 x60.1.Seq, .bool x60.1.Del, .slice A63 x60.1.Value.length k64], .bool x60.2.1])], rfl, ⟨.inl ⟨12, rfl, rfl, rfl, rfl⟩, trivial⟩, fun u a w T S => (by refine r_pv T rfl rfl fun _ T => ?_; exact ⟨rfl, T⟩)⟩, trivial⟩ rfl (fun i hi => ?_) (fun h => by cases h)
        cases hi
        refine ⟨rfl, _, [(15, .pointer (some ⟨b72, 0, none⟩)), (78, .agg #[.slice A61 x60.1.Key.length k62, .int .u64 x60.1.Seq, .bool x60.1.Del, .slice A63 x60.1.Value.length k64])], rfl, ⟨.inl ⟨15, rfl, rfl, rfl, rfl⟩, .inl ⟨13, rfl, rfl, rfl, rfl⟩, trivial⟩, fun u a w T S => ?_⟩
        refine r_stBA (ix := 0) (vs := [.slice A61 x60.1.Key.length k62, .int .u64 x60.1.Seq, .bool x60.1.Del, .slice A63 x60.1.Value.length k64]) (l' := [blk b72 [.slice A61 x60.1.Key.length k62, .int .u64 x60.1.Seq, .bool x60.1.Del, .slice A63 x60.1.Value.length k64], sl .ro ku8 A61 k62 x60.1.Key, sl .ro ku8 A63 k64 x60.1.Value, blk b20 [.slice A66 x60.2.2.b.length k67, .slice A68 x60.2.2.blocks.length k69, .slice A70 x60.2.2.filter.length k71, .int .i64 x60.2.2.count, .int .i64 x60.2.2.reads], sl .ro ku8 A66 k67 x60.2.2.b, sl .ro ksstable_block A68 k69 x60.2.2.blocks, sl .ro ku8 A70 k71 x60.2.2.filter, sl .ro ku8 A57 k58 ((gi dapi_Entry x1 x54).Key), cl A2 (Int.toNat x54 * 4 + 0) [.slice A57 (((gi dapi_Entry x1 x54).Key).length) k58], sl .ro kapi_Entry A2 k3 x1]) T S rfl rfl rfl rfl (by simp) Try.sizeOf36 (Nat.le_of_ble_eq_true rfl) rfl fun _ S => ?_
        refine ⟨_, [some (.pointer (some ⟨b20, 0, none⟩), false), some (.slice A2 x1.length k3, false), some (.int .i64 x54, false), some (.pointer (some (eA A2 (Int.toNat x54 * 4))), false), some (.pointer (some (eA A2 (Int.toNat x54 * 4 + 0))), false), some (.slice A57 (((gi dapi_Entry x1 x54).Key).length) k58, false), some (.slice A2 x1.length k3, false), some (.int .i64 x54, false), some (.pointer (some (eA A2 (Int.toNat x54 * 4))), false), some (.pointer (some (eA A2 (Int.toNat x54 * 4 + 1))), false), some (.int .u64 ((gi dapi_Entry x1 x54).Seq), false), some (.tuple #[.agg #[.slice A61 x60.1.Key.length k62, .int .u64 x60.1.Seq, .bool x60.1.Del, .slice A63 x60.1.Value.length k64], .bool x60.2.1], false), some (.tuple #[.agg #[.slice A61 x60.1.Key.length k62, .int .u64 x60.1.Seq, .bool x60.1.Del, .slice A63 x60.1.Value.length k64], .bool x60.2.1], false), some (.agg #[.slice A61 x60.1.Key.length k62, .int .u64 x60.1.Seq, .bool x60.1.Del, .slice A63 x60.1.Value.length k64], false), some (.bool x60.2.1, true), some (.pointer (some ⟨b72, 0, none⟩), false), some (undef, false), some (.bool x60.2.1, true)], [blk b72 [.slice A61 x60.1.Key.length k62, .int .u64 x60.1.Seq, .bool x60.1.Del, .slice A63 x60.1.Value.length k64], sl .ro ku8 A61 k62 x60.1.Key, sl .ro ku8 A63 k64 x60.1.Value, blk b20 [.slice A66 x60.2.2.b.length k67, .slice A68 x60.2.2.blocks.length k69, .slice A70 x60.2.2.filter.length k71, .int .i64 x60.2.2.count, .int .i64 x60.2.2.reads], sl .ro ku8 A66 k67 x60.2.2.b, sl .ro ksstable_block A68 k69 x60.2.2.blocks, sl .ro ku8 A70 k71 x60.2.2.filter, sl .ro ku8 A57 k58 ((gi dapi_Entry x1 x54).Key), cl A2 (Int.toNat x54 * 4 + 0) [.slice A57 (((gi dapi_Entry x1 x54).Key).length) k58], sl .ro kapi_Entry A2 k3 x1], rfl, ⟨.inr ⟨_, _, _, rfl, rfl⟩, .inr ⟨_, _, _, rfl, rfl⟩, .inr ⟨_, _, _, rfl, rfl⟩, .inr ⟨_, _, _, rfl, rfl⟩, .inr ⟨_, _, _, rfl, rfl⟩, .inr ⟨_, _, _, rfl, rfl⟩, .inr ⟨_, _, _, rfl, rfl⟩, .inr ⟨_, _, _, rfl, rfl⟩, .inr ⟨_, _, _, rfl, rfl⟩, .inr ⟨_, _, _, rfl, rfl⟩, .inr ⟨_, _, _, rfl, rfl⟩, .inr ⟨_, _, _, rfl, rfl⟩, .inr ⟨_, _, _, rfl, rfl⟩, .inr ⟨_, _, _, rfl, rfl⟩, .inr ⟨_, _, _, rfl, rfl⟩, .inr ⟨_, _, _, rfl, rfl⟩, .inl rfl, .inl rfl, trivial⟩, rfl, ?_, T, S⟩
        refine stage none rfl rfl ⟨⟨_, [(65, .tuple #[.agg #[.slice A61 x60.1.Key.length k62, .int .u64 x60.1.Seq, .bool x60.1.Del, .slice A63 x60.1.Value.length k64], .bool x60.2.1])], rfl, ⟨.inl ⟨12, rfl, rfl, rfl, rfl⟩, trivial⟩, fun u a w T S => (by refine r_pv T rfl rfl fun _ T => ?_; exact ⟨rfl, T⟩)⟩, ⟨_, [(79, .bool x60.2.1)], rfl, ⟨.inl ⟨14, rfl, rfl, rfl, rfl⟩, trivial⟩, fun u a w T S => (by refine r_pv T rfl rfl fun _ T => ?_; exact ⟨rfl, T⟩)⟩, trivial⟩ rfl (fun i hi => by cases hi) (fun _ _ a w T hv hb S => ?_)
        replace T := T.sub (r := [(0, .slice A2 x1.length k3), (10, .pointer (some ⟨b20, 0, none⟩)), (14, .int .i64 x54), (15, .pointer (some ⟨b72, 0, none⟩)), (16, .bool x60.2.1)]) ⟨hb 0 _ rfl rfl, hb 10 _ rfl rfl, hb 14 _ rfl rfl, hv 15 _ 15 rfl rfl rfl, hv 17 _ 16 rfl rfl rfl, trivial⟩
        refine Gets.seq ?_
        obtain ⟨_, S⟩ := S.peek (ix := 9) (off := 0) (i := x54) rfl dapi_Entry (Fld.all _) h56.1 h56.2
        obtain ⟨A87, k88, A89, k90, hv_, S_⟩ := op_api_Entry (l := _ :: _) S
        subst hv_
        replace S := S_
        refine Gets.drawn (l := [sl .ro ku8 A87 k88 ((gi dapi_Entry x1 x54).Key), sl .ro ku8 A89 k90 ((gi dapi_Entry x1 x54).Value), cl A2 (Int.toNat x54 * 4) [.slice A87 (((gi dapi_Entry x1 x54).Key).length) k88, .int .u64 ((gi dapi_Entry x1 x54).Seq), .bool ((gi dapi_Entry x1 x54).Del), .slice A89 (((gi dapi_Entry x1 x54).Value).length) k90], blk b72 [.slice A61 x60.1.Key.length k62, .int .u64 x60.1.Seq, .bool x60.1.Del, .slice A63 x60.1.Value.length k64], sl .ro ku8 A61 k62 x60.1.Key, sl .ro ku8 A63 k64 x60.1.Value, blk b20 [.slice A66 x60.2.2.b.length k67, .slice A68 x60.2.2.blocks.length k69, .slice A70 x60.2.2.filter.length k71, .int .i64 x60.2.2.count, .int .i64 x60.2.2.reads], sl .ro ku8 A66 k67 x60.2.2.b, sl .ro ksstable_block A68 k69 x60.2.2.blocks, sl .ro ku8 A70 k71 x60.2.2.filter, sl .ro ku8 A57 k58 ((gi dapi_Entry x1 x54).Key), cl A2 (Int.toNat x54 * 4 + 0) [.slice A57 (((gi dapi_Entry x1 x54).Key).length) k58], sl .ro kapi_Entry A2 k3 x1]) (V := [some (.agg #[.slice A61 x60.1.Key.length k62, .int .u64 x60.1.Seq, .bool x60.1.Del, .slice A63 x60.1.Value.length k64], true), some (.slice A2 x1.length k3, true), some (.int .i64 x54, true), some (.pointer (some (eA A2 (Int.toNat x54 * 4))), true), some (.agg #[.slice A87 (((gi dapi_Entry x1 x54).Key).length) k88, .int .u64 ((gi dapi_Entry x1 x54).Seq), .bool ((gi dapi_Entry x1 x54).Del), .slice A89 (((gi dapi_Entry x1 x54).Value).length) k90], true), none, none]) mixed T S rfl ?_
        refine stage (some 5) rfl rfl ⟨⟨_, [(15, .pointer (some ⟨b72, 0, none⟩))], rfl, ⟨.inr ⟨rfl, rfl⟩, trivial⟩, fun u a w T S => (by refine r_ldBA (ix := 3) (ds := [.slice A61 x60.1.Key.length k62, .int .u64 x60.1.Seq, .bool x60.1.Del, .slice A63 x60.1.Value.length k64]) T S rfl Try.isAgg36 rfl rfl Try.sizeOf36 rfl fun _ T => ?_; exact ⟨rfl, T⟩)⟩, ⟨_, [(0, .slice A2 x1.length k3)], rfl, ⟨.inr ⟨rfl, rfl⟩, trivial⟩, fun u a w T S => (by refine r_pv T rfl rfl fun _ T => ?_; exact ⟨rfl, T⟩)⟩, ⟨_, [(14, .int .i64 x54)], rfl, ⟨.inr ⟨rfl, rfl⟩, trivial⟩, fun u a w T S => (by refine r_pv T rfl rfl fun _ T => ?_; exact ⟨rfl, T⟩)⟩, ⟨_, [(81, .slice A2 x1.length k3), (82, .int .i64 x54)], rfl, ⟨.inl ⟨1, rfl, rfl, rfl, rfl⟩, .inl ⟨2, rfl, rfl, rfl, rfl⟩, trivial⟩, fun u a w T S => (by refine r_ia (ix := 12) T S rfl rfl rfl rfl Try.runUnderlying22 Try.sizeOf36 h56.1 h56.2 rfl fun _ T => ?_; exact ⟨rfl, T⟩)⟩, ⟨_, [(83, .pointer (some (eA A2 (Int.toNat x54 * 4))))], rfl, ⟨.inl ⟨3, rfl, rfl, rfl, rfl⟩, trivial⟩, fun u a w T S => (by refine r_ldCA (ix := 2) (A := A2) T S rfl rfl rfl Try.isAgg36 Try.sizeOf36 rfl fun _ T => ?_; exact ⟨rfl, T⟩)⟩, trivial⟩ rfl (fun i hi => ?_) (fun h => by cases h)
        cases hi
        refine ⟨rfl, _, [(80, .agg #[.slice A61 x60.1.Key.length k62, .int .u64 x60.1.Seq, .bool x60.1.Del, .slice A63 x60.1.Value.length k64]), (84, .agg #[.slice A87 (((gi dapi_Entry x1 x54).Key).length) k88, .int .u64 ((gi dapi_Entry x1 x54).Seq), .bool ((gi dapi_Entry x1 x54).Del), .slice A89 (((gi dapi_Entry x1 x54).Value).length) k90])], rfl, ⟨.inl ⟨0, rfl, rfl, rfl, rfl⟩, .inl ⟨4, rfl, rfl, rfl, rfl⟩, trivial⟩, fun u a w T S => ?_⟩
        obtain ⟨x92, h91, H⟩ := bd H
        refine r_call T Try.call12 rfl rfl (cormorantlaw04_sameOne.ok _ _ x60.1 (gi dapi_Entry x1 x54) (S.sel (p := [sl .ro ku8 A61 k62 x60.1.Key, sl .ro ku8 A63 k64 x60.1.Value, sl .ro ku8 A87 k88 ((gi dapi_Entry x1 x54).Key), sl .ro ku8 A89 k90 ((gi dapi_Entry x1 x54).Value)]) (is := [4, 4, 0, 0]) rfl) _ h91) ?_
        rintro _ _ ⟨rfl, S⟩
        refine ⟨_, rfl, fun _ T => ?_⟩
        replace S : SL ([sl .ro ku8 A61 k62 x60.1.Key, sl .ro ku8 A63 k64 x60.1.Value, sl .ro ku8 A87 k88 ((gi dapi_Entry x1 x54).Key), sl .ro ku8 A89 k90 ((gi dapi_Entry x1 x54).Value), cl A2 (Int.toNat x54 * 4) [.slice A87 (((gi dapi_Entry x1 x54).Key).length) k88, .int .u64 ((gi dapi_Entry x1 x54).Seq), .bool ((gi dapi_Entry x1 x54).Del), .slice A89 (((gi dapi_Entry x1 x54).Value).length) k90], blk b72 [.slice A61 x60.1.Key.length k62, .int .u64 x60.1.Seq, .bool x60.1.Del, .slice A63 x60.1.Value.length k64], blk b20 [.slice A66 x60.2.2.b.length k67, .slice A68 x60.2.2.blocks.length k69, .slice A70 x60.2.2.filter.length k71, .int .i64 x60.2.2.count, .int .i64 x60.2.2.reads], sl .ro ku8 A66 k67 x60.2.2.b, sl .ro ksstable_block A68 k69 x60.2.2.blocks, sl .ro ku8 A70 k71 x60.2.2.filter, sl .ro ku8 A57 k58 ((gi dapi_Entry x1 x54).Key), cl A2 (Int.toNat x54 * 4 + 0) [.slice A57 (((gi dapi_Entry x1 x54).Key).length) k58], sl .ro kapi_Entry A2 k3 x1] ++ F) _ := S.join
        refine ⟨_, [some (.agg #[.slice A61 x60.1.Key.length k62, .int .u64 x60.1.Seq, .bool x60.1.Del, .slice A63 x60.1.Value.length k64], false), some (.slice A2 x1.length k3, true), some (.int .i64 x54, true), some (.pointer (some (eA A2 (Int.toNat x54 * 4))), true), some (.agg #[.slice A87 (((gi dapi_Entry x1 x54).Key).length) k88, .int .u64 ((gi dapi_Entry x1 x54).Seq), .bool ((gi dapi_Entry x1 x54).Del), .slice A89 (((gi dapi_Entry x1 x54).Value).length) k90], false), some (.bool x92, false), some (.bool x92, true)], [sl .ro ku8 A61 k62 x60.1.Key, sl .ro ku8 A63 k64 x60.1.Value, sl .ro ku8 A87 k88 ((gi dapi_Entry x1 x54).Key), sl .ro ku8 A89 k90 ((gi dapi_Entry x1 x54).Value), cl A2 (Int.toNat x54 * 4) [.slice A87 (((gi dapi_Entry x1 x54).Key).length) k88, .int .u64 ((gi dapi_Entry x1 x54).Seq), .bool ((gi dapi_Entry x1 x54).Del), .slice A89 (((gi dapi_Entry x1 x54).Value).length) k90], blk b72 [.slice A61 x60.1.Key.length k62, .int .u64 x60.1.Seq, .bool x60.1.Del, .slice A63 x60.1.Value.length k64], blk b20 [.slice A66 x60.2.2.b.length k67, .slice A68 x60.2.2.blocks.length k69, .slice A70 x60.2.2.filter.length k71, .int .i64 x60.2.2.count, .int .i64 x60.2.2.reads], sl .ro ku8 A66 k67 x60.2.2.b, sl .ro ksstable_block A68 k69 x60.2.2.blocks, sl .ro ku8 A70 k71 x60.2.2.filter, sl .ro ku8 A57 k58 ((gi dapi_Entry x1 x54).Key), cl A2 (Int.toNat x54 * 4 + 0) [.slice A57 (((gi dapi_Entry x1 x54).Key).length) k58], sl .ro kapi_Entry A2 k3 x1], rfl, ⟨.inr ⟨_, _, _, rfl, rfl⟩, .inr ⟨_, _, _, rfl, rfl⟩, .inr ⟨_, _, _, rfl, rfl⟩, .inr ⟨_, _, _, rfl, rfl⟩, .inr ⟨_, _, _, rfl, rfl⟩, .inl rfl, .inl rfl, trivial⟩, rfl, ?_, T, S⟩
        refine stage none rfl rfl ⟨⟨_, [(0, .slice A2 x1.length k3)], rfl, ⟨.inr ⟨rfl, rfl⟩, trivial⟩, fun u a w T S => (by refine r_pv T rfl rfl fun _ T => ?_; exact ⟨rfl, T⟩)⟩, ⟨_, [(14, .int .i64 x54)], rfl, ⟨.inr ⟨rfl, rfl⟩, trivial⟩, fun u a w T S => (by refine r_pv T rfl rfl fun _ T => ?_; exact ⟨rfl, T⟩)⟩, ⟨_, [(81, .slice A2 x1.length k3), (82, .int .i64 x54)], rfl, ⟨.inl ⟨1, rfl, rfl, rfl, rfl⟩, .inl ⟨2, rfl, rfl, rfl, rfl⟩, trivial⟩, fun u a w T S => (by refine r_ia (ix := 12) T S rfl rfl rfl rfl Try.runUnderlying22 Try.sizeOf36 h56.1 h56.2 rfl fun _ T => ?_; exact ⟨rfl, T⟩)⟩, ⟨_, [(85, .bool x92)], rfl, ⟨.inl ⟨5, rfl, rfl, rfl, rfl⟩, trivial⟩, fun u a w T S => (by refine r_pv T rfl rfl fun _ T => ?_; exact ⟨rfl, T⟩)⟩, trivial⟩ rfl (fun i hi => by cases hi) (fun _ _ a w T hv hb S => ?_)
        replace T := T.sub (r := [(0, .slice A2 x1.length k3), (10, .pointer (some ⟨b20, 0, none⟩)), (14, .int .i64 x54), (16, .bool x60.2.1), (17, .bool x92)]) ⟨hb 0 _ rfl rfl, hb 10 _ rfl rfl, hb 14 _ rfl rfl, hb 16 _ rfl rfl, hv 6 _ 17 rfl rfl rfl, trivial⟩
        refine Gets.seq ?_
        refine rg ?_
        refine r_pv T rfl rfl fun _ T => ?_
        refine r_pv T rfl rfl fun _ T => ?_
        refine r_pv T rfl rfl fun _ T => ?_
        rcases ifE H with ⟨h93, H⟩ | ⟨h93, H⟩
        · refine g_no T rfl rfl h93 rfl fun _ T => ?_
          refine g_no T rfl rfl h93 rfl fun _ T => ?_
          refine r_pickT T rfl h93 rfl rfl fun _ T => ?_
          refine cdT T rfl rfl ?_
          refine Gets.seq ?_
          exact J4_ok F r z x1 A2 k3 x4 x5 _ _ (T.sub trivial) (S.only (p := [sl .ro kapi_Entry A2 k3 x1]) [12] rfl) H
        · refine g_yes T rfl rfl h93 ?_
          refine r_pv T rfl rfl fun _ T => ?_
          refine g_yes T rfl rfl h93 ?_
          refine r_pv T rfl rfl fun _ T => ?_
          refine r_pickF T rfl h93 rfl rfl fun _ T => ?_
          rcases ifE H with ⟨h94, H⟩ | ⟨h94, H⟩
          · refine cdT T rfl h94 ?_
            refine Gets.seq ?_
            exact J4_ok F r z x1 A2 k3 x4 x5 _ _ (T.sub trivial) (S.only (p := [sl .ro kapi_Entry A2 k3 x1]) [12] rfl) H
          · refine cdF T rfl h94 ?_
            refine Gets.skip (Gets.inBlock ?_)
            refine rg ?_
            refine r_pv T rfl rfl fun _ T => ?_
            refine r_pv T rfl rfl fun _ T => ?_
            refine r_pv T rfl rfl fun _ T => ?_
            refine Gets.inLoop ?_
            exact ih (wr .i64 (x54 + 1)) A66 x60.2.2.b k67 A68 x60.2.2.blocks k69 A70 x60.2.2.filter k71 x60.2.2.count x60.2.2.reads _ _ (T.sub ⟨rfl, rfl, rfl, trivial⟩) (S.only (p := [sl .ro kapi_Entry A2 k3 x1, blk b20 [.slice A66 x60.2.2.b.length k67, .slice A68 x60.2.2.blocks.length k69, .slice A70 x60.2.2.filter.length k71, .int .i64 x60.2.2.count, .int .i64 x60.2.2.reads], sl .ro ku8 A66 k67 x60.2.2.b, sl .ro ksstable_block A68 k69 x60.2.2.blocks, sl .ro ku8 A70 k71 x60.2.2.filter]) [12, 6, 6, 6, 6] rfl) H
      · refine ⟨rfl, _, [], rfl, trivial, fun u a w T S => ?_⟩
        refine r_alloc T S zv36 (cs := [.slice none 0 0, .int .u64 0, .bool false, .slice none 0 0]) rfl rfl fun _ _ b73 S T => ?_
        refine ⟨_, [some (.pointer (some ⟨b20, 0, none⟩), true), some (.slice A2 x1.length k3, true), some (.int .i64 x54, true), some (.pointer (some (eA A2 (Int.toNat x54 * 4))), true), some (.pointer (some (eA A2 (Int.toNat x54 * 4 + 0))), true), some (.slice A57 (((gi dapi_Entry x1 x54).Key).length) k58, true), some (.slice A2 x1.length k3, true), some (.int .i64 x54, true), some (.pointer (some (eA A2 (Int.toNat x54 * 4))), true), some (.pointer (some (eA A2 (Int.toNat x54 * 4 + 1))), true), some (.int .u64 ((gi dapi_Entry x1 x54).Seq), true), none, none, none, none, some (.pointer (some ⟨b73, 0, none⟩), false), none, none], [blk b73 [.slice none 0 0, .int .u64 0, .bool false, .slice none 0 0], sl .ro ku8 A57 k58 ((gi dapi_Entry x1 x54).Key), cl A2 (Int.toNat x54 * 4 + 0) [.slice A57 (((gi dapi_Entry x1 x54).Key).length) k58], sl .ro kapi_Entry A2 k3 x1, blk b20 [.slice A44 x43.length k45, .slice A47 x46.length k48, .slice A50 x49.length k51, .int .i64 x52, .int .i64 x53], sl .ro ku8 A44 k45 x43, sl .ro ksstable_block A47 k48 x46, sl .ro ku8 A50 k51 x49], rfl, ⟨.inr ⟨_, _, _, rfl, rfl⟩, .inr ⟨_, _, _, rfl, rfl⟩, .inr ⟨_, _, _, rfl, rfl⟩, .inr ⟨_, _, _, rfl, rfl⟩, .inr ⟨_, _, _, rfl, rfl⟩, .inr ⟨_, _, _, rfl, rfl⟩, .inr ⟨_, _, _, rfl, rfl⟩, .inr ⟨_, _, _, rfl, rfl⟩, .inr ⟨_, _, _, rfl, rfl⟩, .inr ⟨_, _, _, rfl, rfl⟩, .inr ⟨_, _, _, rfl, rfl⟩, .inl rfl, .inl rfl, .inl rfl, .inl rfl, .inl rfl, .inl rfl, .inl rfl, trivial⟩, rfl, ?_, T, S⟩
        refine stage (some 11) rfl rfl ⟨⟨_, [(10, .pointer (some ⟨b20, 0, none⟩))], rfl, ⟨.inr ⟨rfl, rfl⟩, trivial⟩, fun u a w T S => (by refine r_pv T rfl rfl fun _ T => ?_; exact ⟨rfl, T⟩)⟩, ⟨_, [(0, .slice A2 x1.length k3)], rfl, ⟨.inr ⟨rfl, rfl⟩, trivial⟩, fun u a w T S => (by refine r_pv T rfl rfl fun _ T => ?_; exact ⟨rfl, T⟩)⟩, ⟨_, [(14, .int .i64 x54)], rfl, ⟨.inr ⟨rfl, rfl⟩, trivial⟩, fun u a w T S => (by refine r_pv T rfl rfl fun _ T => ?_; exact ⟨rfl, T⟩)⟩, ⟨_, [(67, .slice A2 x1.length k3), (68, .int .i64 x54)], rfl, ⟨.inl ⟨1, rfl, rfl, rfl, rfl⟩, .inl ⟨2, rfl, rfl, rfl, rfl⟩, trivial⟩, fun u a w T S => (by refine r_ia (ix := 3) T S rfl rfl rfl rfl Try.runUnderlying22 Try.sizeOf36 h56.1 h56.2 rfl fun _ T => ?_; exact ⟨rfl, T⟩)⟩, ⟨_, [(69, .pointer (some (eA A2 (Int.toNat x54 * 4))))], rfl, ⟨.inl ⟨3, rfl, rfl, rfl, rfl⟩, trivial⟩, fun u a w T S => (by refine r_faE T rfl Try.runUnderlying36 rfl Try.sizeOf24 rfl fun _ T => ?_; exact ⟨rfl, T⟩)⟩, ⟨_, [(70, .pointer (some (eA A2 (Int.toNat x54 * 4 + 0))))], rfl, ⟨.inl ⟨4, rfl, rfl, rfl, rfl⟩, trivial⟩, fun u a w T S => (by refine r_ldC (ix := 2) (A := A2) T S rfl rfl rfl Try.isAgg24 rfl fun _ T => ?_; exact ⟨rfl, T⟩)⟩, ⟨_, [(0, .slice A2 x1.length k3)], rfl, ⟨.inr ⟨rfl, rfl⟩, trivial⟩, fun u a w T S => (by refine r_pv T rfl rfl fun _ T => ?_; exact ⟨rfl, T⟩)⟩, ⟨_, [(14, .int .i64 x54)], rfl, ⟨.inr ⟨rfl, rfl⟩, trivial⟩, fun u a w T S => (by refine r_pv T rfl rfl fun _ T => ?_; exact ⟨rfl, T⟩)⟩, ⟨_, [(72, .slice A2 x1.length k3), (73, .int .i64 x54)], rfl, ⟨.inl ⟨6, rfl, rfl, rfl, rfl⟩, .inl ⟨7, rfl, rfl, rfl, rfl⟩, trivial⟩, fun u a w T S => (by refine r_ia (ix := 3) T S rfl rfl rfl rfl Try.runUnderlying22 Try.sizeOf36 h56.1 h56.2 rfl fun _ T => ?_; exact ⟨rfl, T⟩)⟩, ⟨_, [(74, .pointer (some (eA A2 (Int.toNat x54 * 4))))], rfl, ⟨.inl ⟨8, rfl, rfl, rfl, rfl⟩, trivial⟩, fun u a w T S => (by refine r_faE T rfl Try.runUnderlying36 rfl Try.sizeOf34 rfl fun _ T => ?_; exact ⟨rfl, T⟩)⟩, ⟨_, [(75, .pointer (some (eA A2 (Int.toNat x54 * 4 + 1))))], rfl, ⟨.inl ⟨9, rfl, rfl, rfl, rfl⟩, trivial⟩, fun u a w T S => (by refine r_ldE (ix := 3) (i := x54) (off := 1) (f := (Value.int .u64)) T S rfl Try.isAgg34 rfl dapi_Entry _ rfl rfl fld_api_Entry_Seq h56.1 h56.2 (fun h => h) rfl fun _ T => ?_; exact ⟨rfl, T⟩)⟩, trivial⟩ rfl (fun i hi => ?_) (fun h => by cases h)
        cases hi
        refine ⟨rfl, _, [(66, .pointer (some ⟨b20, 0, none⟩)), (71, .slice A57 (((gi dapi_Entry x1 x54).Key).length) k58), (76, .int .u64 ((gi dapi_Entry x1 x54).Seq))], rfl, ⟨.inl ⟨0, rfl, rfl, rfl, rfl⟩, .inl ⟨5, rfl, rfl, rfl, rfl⟩, .inl ⟨10, rfl, rfl, rfl, rfl⟩, trivial⟩, fun u a w T S => ?_⟩
        obtain ⟨x75, h74, H⟩ := bd H
        refine r_call T Try.call11 rfl rfl (sstable_Table_Get.ok _ _ z (sstable_Table.mk x43 x46 x49 x52 x53) ((gi dapi_Entry x1 x54).Key) ((gi dapi_Entry x1 x54).Seq) (S.sel (p := [blk b20 [.slice A44 x43.length k45, .slice A47 x46.length k48, .slice A50 x49.length k51, .int .i64 x52, .int .i64 x53], sl .ro ku8 A44 k45 x43, sl .ro ksstable_block A47 k48 x46, sl .ro ku8 A50 k51 x49, sl .ro ku8 A57 k58 ((gi dapi_Entry x1 x54).Key)]) (is := [4, 4, 4, 4, 1]) rfl) _ h74) ?_
        rintro _ _ ⟨A76, k77, A78, k79, A81, k82, A83, k84, A85, k86, rfl, S⟩
        refine ⟨_, rfl, fun _ T => ?_⟩
        replace S : SL ([sl .ro ku8 A76 k77 x75.1.Key, sl .ro ku8 A78 k79 x75.1.Value, blk b20 [.slice A81 x75.2.2.b.length k82, .slice A83 x75.2.2.blocks.length k84, .slice A85 x75.2.2.filter.length k86, .int .i64 x75.2.2.count, .int .i64 x75.2.2.reads], sl .ro ku8 A81 k82 x75.2.2.b, sl .ro ksstable_block A83 k84 x75.2.2.blocks, sl .ro ku8 A85 k86 x75.2.2.filter, sl .ro ku8 A57 k58 ((gi dapi_Entry x1 x54).Key), blk b73 [.slice none 0 0, .int .u64 0, .bool false, .slice none 0 0], cl A2 (Int.toNat x54 * 4 + 0) [.slice A57 (((gi dapi_Entry x1 x54).Key).length) k58], sl .ro kapi_Entry A2 k3 x1] ++ F) _ := S.join
        refine ⟨_, [some (.pointer (some ⟨b20, 0, none⟩), false), some (.slice A2 x1.length k3, true), some (.int .i64 x54, true), some (.pointer (some (eA A2 (Int.toNat x54 * 4))), true), some (.pointer (some (eA A2 (Int.toNat x54 * 4 + 0))), true), some (.slice A57 (((gi dapi_Entry x1 x54).Key).length) k58, false), some (.slice A2 x1.length k3, true), some (.int .i64 x54, true), some (.pointer (some (eA A2 (Int.toNat x54 * 4))), true), some (.pointer (some (eA A2 (Int.toNat x54 * 4 + 1))), true), some (.int .u64 ((gi dapi_Entry x1 x54).Seq), false), some (.tuple #[.agg #[.slice A76 x75.1.Key.length k77, .int .u64 x75.1.Seq, .bool x75.1.Del, .slice A78 x75.1.Value.length k79], .bool x75.2.1], false), some (.tuple #[.agg #[.slice A76 x75.1.Key.length k77, .int .u64 x75.1.Seq, .bool x75.1.Del, .slice A78 x75.1.Value.length k79], .bool x75.2.1], true), some (.agg #[.slice A76 x75.1.Key.length k77, .int .u64 x75.1.Seq, .bool x75.1.Del, .slice A78 x75.1.Value.length k79], true), some (.bool x75.2.1, true), some (.pointer (some ⟨b73, 0, none⟩), false), none, none], [sl .ro ku8 A76 k77 x75.1.Key, sl .ro ku8 A78 k79 x75.1.Value, blk b20 [.slice A81 x75.2.2.b.length k82, .slice A83 x75.2.2.blocks.length k84, .slice A85 x75.2.2.filter.length k86, .int .i64 x75.2.2.count, .int .i64 x75.2.2.reads], sl .ro ku8 A81 k82 x75.2.2.b, sl .ro ksstable_block A83 k84 x75.2.2.blocks, sl .ro ku8 A85 k86 x75.2.2.filter, sl .ro ku8 A57 k58 ((gi dapi_Entry x1 x54).Key), blk b73 [.slice none 0 0, .int .u64 0, .bool false, .slice none 0 0], cl A2 (Int.toNat x54 * 4 + 0) [.slice A57 (((gi dapi_Entry x1 x54).Key).length) k58], sl .ro kapi_Entry A2 k3 x1], rfl, ⟨.inr ⟨_, _, _, rfl, rfl⟩, .inr ⟨_, _, _, rfl, rfl⟩, .inr ⟨_, _, _, rfl, rfl⟩, .inr ⟨_, _, _, rfl, rfl⟩, .inr ⟨_, _, _, rfl, rfl⟩, .inr ⟨_, _, _, rfl, rfl⟩, .inr ⟨_, _, _, rfl, rfl⟩, .inr ⟨_, _, _, rfl, rfl⟩, .inr ⟨_, _, _, rfl, rfl⟩, .inr ⟨_, _, _, rfl, rfl⟩, .inr ⟨_, _, _, rfl, rfl⟩, .inl rfl, .inl rfl, .inl rfl, .inl rfl, .inr ⟨_, _, _, rfl, rfl⟩, .inl rfl, .inl rfl, trivial⟩, rfl, ?_, T, S⟩
        refine stage (some 16) rfl rfl ⟨⟨_, [(0, .slice A2 x1.length k3)], rfl, ⟨.inr ⟨rfl, rfl⟩, trivial⟩, fun u a w T S => (by refine r_pv T rfl rfl fun _ T => ?_; exact ⟨rfl, T⟩)⟩, ⟨_, [(14, .int .i64 x54)], rfl, ⟨.inr ⟨rfl, rfl⟩, trivial⟩, fun u a w T S => (by refine r_pv T rfl rfl fun _ T => ?_; exact ⟨rfl, T⟩)⟩, ⟨_, [(67, .slice A2 x1.length k3), (68, .int .i64 x54)], rfl, ⟨.inl ⟨1, rfl, rfl, rfl, rfl⟩, .inl ⟨2, rfl, rfl, rfl, rfl⟩, trivial⟩, fun u a w T S => (by refine r_ia (ix := 9) T S rfl rfl rfl rfl Try.runUnderlying22 Try.sizeOf36 h56.1 h56.2 rfl fun _ T => ?_; exact ⟨rfl, T⟩)⟩, ⟨_, [(69, .pointer (some (eA A2 (Int.toNat x54 * 4))))], rfl, ⟨.inl ⟨3, rfl, rfl, rfl, rfl⟩, trivial⟩, fun u a w T S => (by refine r_faE T rfl Try.runUnderlying36 rfl Try.sizeOf24 rfl fun _ T => ?_; exact ⟨rfl, T⟩)⟩, ⟨_, [(0, .slice A2 x1.length k3)], rfl, ⟨.inr ⟨rfl, rfl⟩, trivial⟩, fun u a w T S => (by refine r_pv T rfl rfl fun _ T => ?_; exact ⟨rfl, T⟩)⟩, ⟨_, [(14, .int .i64 x54)], rfl, ⟨.inr ⟨rfl, rfl⟩, trivial⟩, fun u a w T S => (by refine r_pv T rfl rfl fun _ T => ?_; exact ⟨rfl, T⟩)⟩, ⟨_, [(72, .slice A2 x1.length k3), (73, .int .i64 x54)], rfl, ⟨.inl ⟨6, rfl, rfl, rfl, rfl⟩, .inl ⟨7, rfl, rfl, rfl, rfl⟩, trivial⟩, fun u a w T S => (by refine r_ia (ix := 9) T S rfl rfl rfl rfl Try.runUnderlying22 Try.sizeOf36 h56.1 h56.2 rfl fun _ T => ?_; exact ⟨rfl, T⟩)⟩, ⟨_, [(74, .pointer (some (eA A2 (Int.toNat x54 * 4))))], rfl, ⟨.inl ⟨8, rfl, rfl, rfl, rfl⟩, trivial⟩, fun u a w T S => (by refine r_faE T rfl Try.runUnderlying36 rfl Try.sizeOf34 rfl fun _ T => ?_; exact ⟨rfl, T⟩)⟩, ⟨_, [(77, .tuple #[.agg #[.slice A76 x75.1.Key.length k77, .int .u64 x75.1.Seq, .bool x75.1.Del, .slice A78 x75.1.Value.length k79], .bool x75.2.1])], rfl, ⟨.inl ⟨11, rfl, rfl, rfl, rfl⟩, trivial⟩, fun u a w T S => (by refine r_pv T rfl rfl fun _ T => ?_; exact ⟨rfl, T⟩)⟩, ⟨_, [(65, .tuple #[.agg #[.slice A76 x75.1.Key.length k77, .int .u64 x75.1.Seq, .bool x75.1.Del, .slice A78 x75.1.Value.length k79], .bool x75.2.1])], rfl, ⟨.inl ⟨12, rfl, rfl, rfl, rfl⟩, trivial⟩, fun u a w T S => (by refine r_pv T rfl rfl fun _ T => ?_; exact ⟨rfl, T⟩)⟩, ⟨_, [(65, .tuple #[.agg #[.slice A76 x75.1.Key.length k77, .int .u64 x75.1.Seq, .bool x75.1.Del, .slice A78 x75.1.Value.length k79], .bool x75.2.1])], rfl, ⟨.inl ⟨12, rfl, rfl, rfl, rfl⟩, trivial⟩, fun u a w T S => (by refine r_pv T rfl rfl fun _ T => ?_; exact ⟨rfl, T⟩)⟩, trivial⟩ rfl (fun i hi => ?_) (fun h => by cases h)
        cases hi
        refine ⟨rfl, _, [(15, .pointer (some ⟨b73, 0, none⟩)), (78, .agg #[.slice A76 x75.1.Key.length k77, .int .u64 x75.1.Seq, .bool x75.1.Del, .slice A78 x75.1.Value.length k79])], rfl, ⟨.inl ⟨15, rfl, rfl, rfl, rfl⟩, .inl ⟨13, rfl, rfl, rfl, rfl⟩, trivial⟩, fun u a w T S => ?_⟩
        refine r_stBA (ix := 7) (vs := [.slice A76 x75.1.Key.length k77, .int .u64 x75.1.Seq, .bool x75.1.Del, .slice A78 x75.1.Value.length k79]) (l' := [sl .ro ku8 A76 k77 x75.1.Key, sl .ro ku8 A78 k79 x75.1.Value, blk b20 [.slice A81 x75.2.2.b.length k82, .slice A83 x75.2.2.blocks.length k84, .slice A85 x75.2.2.filter.length k86, .int .i64 x75.2.2.count, .int .i64 x75.2.2.reads], sl .ro ku8 A81 k82 x75.2.2.b, sl .ro ksstable_block A83 k84 x75.2.2.blocks, sl .ro ku8 A85 k86 x75.2.2.filter, sl .ro ku8 A57 k58 ((gi dapi_Entry x1 x54).Key), blk b73 [.slice A76 x75.1.Key.length k77, .int .u64 x75.1.Seq, .bool x75.1.Del, .slice A78 x75.1.Value.length k79], cl A2 (Int.toNat x54 * 4 + 0) [.slice A57 (((gi dapi_Entry x1 x54).Key).length) k58], sl .ro kapi_Entry A2 k3 x1]) T S rfl rfl rfl rfl (by simp) Try.sizeOf36 (Nat.le_of_ble_eq_true rfl) rfl fun _ S => ?_
        refine ⟨_, [some (.pointer (some ⟨b20, 0, none⟩), false), some (.slice A2 x1.length k3, false), some (.int .i64 x54, false), some (.pointer (some (eA A2 (Int.toNat x54 * 4))), false), some (.pointer (some (eA A2 (Int.toNat x54 * 4 + 0))), false), some (.slice A57 (((gi dapi_Entry x1 x54).Key).length) k58, false), some (.slice A2 x1.length k3, false), some (.int .i64 x54, false), some (.pointer (some (eA A2 (Int.toNat x54 * 4))), false), some (.pointer (some (eA A2 (Int.toNat x54 * 4 + 1))), false), some (.int .u64 ((gi dapi_Entry x1 x54).Seq), false), some (.tuple #[.agg #[.slice A76 x75.1.Key.length k77, .int .u64 x75.1.Seq, .bool x75.1.Del, .slice A78 x75.1.Value.length k79], .bool x75.2.1], false), some (.tuple #[.agg #[.slice A76 x75.1.Key.length k77, .int .u64 x75.1.Seq, .bool x75.1.Del, .slice A78 x75.1.Value.length k79], .bool x75.2.1], false), some (.agg #[.slice A76 x75.1.Key.length k77, .int .u64 x75.1.Seq, .bool x75.1.Del, .slice A78 x75.1.Value.length k79], false), some (.bool x75.2.1, true), some (.pointer (some ⟨b73, 0, none⟩), false), some (undef, false), some (.bool x75.2.1, true)], [sl .ro ku8 A76 k77 x75.1.Key, sl .ro ku8 A78 k79 x75.1.Value, blk b20 [.slice A81 x75.2.2.b.length k82, .slice A83 x75.2.2.blocks.length k84, .slice A85 x75.2.2.filter.length k86, .int .i64 x75.2.2.count, .int .i64 x75.2.2.reads], sl .ro ku8 A81 k82 x75.2.2.b, sl .ro ksstable_block A83 k84 x75.2.2.blocks, sl .ro ku8 A85 k86 x75.2.2.filter, sl .ro ku8 A57 k58 ((gi dapi_Entry x1 x54).Key), blk b73 [.slice A76 x75.1.Key.length k77, .int .u64 x75.1.Seq, .bool x75.1.Del, .slice A78 x75.1.Value.length k79], cl A2 (Int.toNat x54 * 4 + 0) [.slice A57 (((gi dapi_Entry x1 x54).Key).length) k58], sl .ro kapi_Entry A2 k3 x1], rfl, ⟨.inr ⟨_, _, _, rfl, rfl⟩, .inr ⟨_, _, _, rfl, rfl⟩, .inr ⟨_, _, _, rfl, rfl⟩, .inr ⟨_, _, _, rfl, rfl⟩, .inr ⟨_, _, _, rfl, rfl⟩, .inr ⟨_, _, _, rfl, rfl⟩, .inr ⟨_, _, _, rfl, rfl⟩, .inr ⟨_, _, _, rfl, rfl⟩, .inr ⟨_, _, _, rfl, rfl⟩, .inr ⟨_, _, _, rfl, rfl⟩, .inr ⟨_, _, _, rfl, rfl⟩, .inr ⟨_, _, _, rfl, rfl⟩, .inr ⟨_, _, _, rfl, rfl⟩, .inr ⟨_, _, _, rfl, rfl⟩, .inr ⟨_, _, _, rfl, rfl⟩, .inr ⟨_, _, _, rfl, rfl⟩, .inl rfl, .inl rfl, trivial⟩, rfl, ?_, T, S⟩
        refine stage none rfl rfl ⟨⟨_, [(65, .tuple #[.agg #[.slice A76 x75.1.Key.length k77, .int .u64 x75.1.Seq, .bool x75.1.Del, .slice A78 x75.1.Value.length k79], .bool x75.2.1])], rfl, ⟨.inl ⟨12, rfl, rfl, rfl, rfl⟩, trivial⟩, fun u a w T S => (by refine r_pv T rfl rfl fun _ T => ?_; exact ⟨rfl, T⟩)⟩, ⟨_, [(79, .bool x75.2.1)], rfl, ⟨.inl ⟨14, rfl, rfl, rfl, rfl⟩, trivial⟩, fun u a w T S => (by refine r_pv T rfl rfl fun _ T => ?_; exact ⟨rfl, T⟩)⟩, trivial⟩ rfl (fun i hi => by cases hi) (fun _ _ a w T hv hb S => ?_)
        replace T := T.sub (r := [(0, .slice A2 x1.length k3), (10, .pointer (some ⟨b20, 0, none⟩)), (14, .int .i64 x54), (15, .pointer (some ⟨b73, 0, none⟩)), (16, .bool x75.2.1)]) ⟨hb 0 _ rfl rfl, hb 10 _ rfl rfl, hb 14 _ rfl rfl, hv 15 _ 15 rfl rfl rfl, hv 17 _ 16 rfl rfl rfl, trivial⟩
        refine Gets.seq ?_
        obtain ⟨_, S⟩ := S.peek (ix := 9) (off := 0) (i := x54) rfl dapi_Entry (Fld.all _) h56.1 h56.2
        obtain ⟨A95, k96, A97, k98, hv_, S_⟩ := op_api_Entry (l := _ :: _) S
        subst hv_
        replace S := S_
        refine Gets.drawn (l := [sl .ro ku8 A95 k96 ((gi dapi_Entry x1 x54).Key), sl .ro ku8 A97 k98 ((gi dapi_Entry x1 x54).Value), cl A2 (Int.toNat x54 * 4) [.slice A95 (((gi dapi_Entry x1 x54).Key).length) k96, .int .u64 ((gi dapi_Entry x1 x54).Seq), .bool ((gi dapi_Entry x1 x54).Del), .slice A97 (((gi dapi_Entry x1 x54).Value).length) k98], sl .ro ku8 A76 k77 x75.1.Key, sl .ro ku8 A78 k79 x75.1.Value, blk b20 [.slice A81 x75.2.2.b.length k82, .slice A83 x75.2.2.blocks.length k84, .slice A85 x75.2.2.filter.length k86, .int .i64 x75.2.2.count, .int .i64 x75.2.2.reads], sl .ro ku8 A81 k82 x75.2.2.b, sl .ro ksstable_block A83 k84 x75.2.2.blocks, sl .ro ku8 A85 k86 x75.2.2.filter, sl .ro ku8 A57 k58 ((gi dapi_Entry x1 x54).Key), blk b73 [.slice A76 x75.1.Key.length k77, .int .u64 x75.1.Seq, .bool x75.1.Del, .slice A78 x75.1.Value.length k79], cl A2 (Int.toNat x54 * 4 + 0) [.slice A57 (((gi dapi_Entry x1 x54).Key).length) k58], sl .ro kapi_Entry A2 k3 x1]) (V := [some (.agg #[.slice A76 x75.1.Key.length k77, .int .u64 x75.1.Seq, .bool x75.1.Del, .slice A78 x75.1.Value.length k79], true), some (.slice A2 x1.length k3, true), some (.int .i64 x54, true), some (.pointer (some (eA A2 (Int.toNat x54 * 4))), true), some (.agg #[.slice A95 (((gi dapi_Entry x1 x54).Key).length) k96, .int .u64 ((gi dapi_Entry x1 x54).Seq), .bool ((gi dapi_Entry x1 x54).Del), .slice A97 (((gi dapi_Entry x1 x54).Value).length) k98], true), none, none]) mixed T S rfl ?_
        refine stage (some 5) rfl rfl ⟨⟨_, [(15, .pointer (some ⟨b73, 0, none⟩))], rfl, ⟨.inr ⟨rfl, rfl⟩, trivial⟩, fun u a w T S => (by refine r_ldBA (ix := 10) (ds := [.slice A76 x75.1.Key.length k77, .int .u64 x75.1.Seq, .bool x75.1.Del, .slice A78 x75.1.Value.length k79]) T S rfl Try.isAgg36 rfl rfl Try.sizeOf36 rfl fun _ T => ?_; exact ⟨rfl, T⟩)⟩, ⟨_, [(0, .slice A2 x1.length k3)], rfl, ⟨.inr ⟨rfl, rfl⟩, trivial⟩, fun u a w T S => (by refine r_pv T rfl rfl fun _ T => ?_; exact ⟨rfl, T⟩)⟩, ⟨_, [(14, .int .i64 x54)], rfl, ⟨.inr ⟨rfl, rfl⟩, trivial⟩, fun u a w T S => (by refine r_pv T rfl rfl fun _ T => ?_; exact ⟨rfl, T⟩)⟩, ⟨_, [(81, .slice A2 x1.length k3), (82, .int .i64 x54)], rfl, ⟨.inl ⟨1, rfl, rfl, rfl, rfl⟩, .inl ⟨2, rfl, rfl, rfl, rfl⟩, trivial⟩, fun u a w T S => (by refine r_ia (ix := 12) T S rfl rfl rfl rfl Try.runUnderlying22 Try.sizeOf36 h56.1 h56.2 rfl fun _ T => ?_; exact ⟨rfl, T⟩)⟩, ⟨_, [(83, .pointer (some (eA A2 (Int.toNat x54 * 4))))], rfl, ⟨.inl ⟨3, rfl, rfl, rfl, rfl⟩, trivial⟩, fun u a w T S => (by refine r_ldCA (ix := 2) (A := A2) T S rfl rfl rfl Try.isAgg36 Try.sizeOf36 rfl fun _ T => ?_; exact ⟨rfl, T⟩)⟩, trivial⟩ rfl (fun i hi => ?_) (fun h => by cases h)
        cases hi
        refine ⟨rfl, _, [(80, .agg #[.slice A76 x75.1.Key.length k77, .int .u64 x75.1.Seq, .bool x75.1.Del, .slice A78 x75.1.Value.length k79]), (84, .agg #[.slice A95 (((gi dapi_Entry x1 x54).Key).length) k96, .int .u64 ((gi dapi_Entry x1 x54).Seq), .bool ((gi dapi_Entry x1 x54).Del), .slice A97 (((gi dapi_Entry x1 x54).Value).length) k98])], rfl, ⟨.inl ⟨0, rfl, rfl, rfl, rfl⟩, .inl ⟨4, rfl, rfl, rfl, rfl⟩, trivial⟩, fun u a w T S => ?_⟩
        obtain ⟨x100, h99, H⟩ := bd H
        refine r_call T Try.call12 rfl rfl (cormorantlaw04_sameOne.ok _ _ x75.1 (gi dapi_Entry x1 x54) (S.sel (p := [sl .ro ku8 A76 k77 x75.1.Key, sl .ro ku8 A78 k79 x75.1.Value, sl .ro ku8 A95 k96 ((gi dapi_Entry x1 x54).Key), sl .ro ku8 A97 k98 ((gi dapi_Entry x1 x54).Value)]) (is := [3, 3, 0, 0]) rfl) _ h99) ?_
        rintro _ _ ⟨rfl, S⟩
        refine ⟨_, rfl, fun _ T => ?_⟩
        replace S : SL ([sl .ro ku8 A76 k77 x75.1.Key, sl .ro ku8 A78 k79 x75.1.Value, sl .ro ku8 A95 k96 ((gi dapi_Entry x1 x54).Key), sl .ro ku8 A97 k98 ((gi dapi_Entry x1 x54).Value), cl A2 (Int.toNat x54 * 4) [.slice A95 (((gi dapi_Entry x1 x54).Key).length) k96, .int .u64 ((gi dapi_Entry x1 x54).Seq), .bool ((gi dapi_Entry x1 x54).Del), .slice A97 (((gi dapi_Entry x1 x54).Value).length) k98], blk b20 [.slice A81 x75.2.2.b.length k82, .slice A83 x75.2.2.blocks.length k84, .slice A85 x75.2.2.filter.length k86, .int .i64 x75.2.2.count, .int .i64 x75.2.2.reads], sl .ro ku8 A81 k82 x75.2.2.b, sl .ro ksstable_block A83 k84 x75.2.2.blocks, sl .ro ku8 A85 k86 x75.2.2.filter, sl .ro ku8 A57 k58 ((gi dapi_Entry x1 x54).Key), blk b73 [.slice A76 x75.1.Key.length k77, .int .u64 x75.1.Seq, .bool x75.1.Del, .slice A78 x75.1.Value.length k79], cl A2 (Int.toNat x54 * 4 + 0) [.slice A57 (((gi dapi_Entry x1 x54).Key).length) k58], sl .ro kapi_Entry A2 k3 x1] ++ F) _ := S.join
        refine ⟨_, [some (.agg #[.slice A76 x75.1.Key.length k77, .int .u64 x75.1.Seq, .bool x75.1.Del, .slice A78 x75.1.Value.length k79], false), some (.slice A2 x1.length k3, true), some (.int .i64 x54, true), some (.pointer (some (eA A2 (Int.toNat x54 * 4))), true), some (.agg #[.slice A95 (((gi dapi_Entry x1 x54).Key).length) k96, .int .u64 ((gi dapi_Entry x1 x54).Seq), .bool ((gi dapi_Entry x1 x54).Del), .slice A97 (((gi dapi_Entry x1 x54).Value).length) k98], false), some (.bool x100, false), some (.bool x100, true)], [sl .ro ku8 A76 k77 x75.1.Key, sl .ro ku8 A78 k79 x75.1.Value, sl .ro ku8 A95 k96 ((gi dapi_Entry x1 x54).Key), sl .ro ku8 A97 k98 ((gi dapi_Entry x1 x54).Value), cl A2 (Int.toNat x54 * 4) [.slice A95 (((gi dapi_Entry x1 x54).Key).length) k96, .int .u64 ((gi dapi_Entry x1 x54).Seq), .bool ((gi dapi_Entry x1 x54).Del), .slice A97 (((gi dapi_Entry x1 x54).Value).length) k98], blk b20 [.slice A81 x75.2.2.b.length k82, .slice A83 x75.2.2.blocks.length k84, .slice A85 x75.2.2.filter.length k86, .int .i64 x75.2.2.count, .int .i64 x75.2.2.reads], sl .ro ku8 A81 k82 x75.2.2.b, sl .ro ksstable_block A83 k84 x75.2.2.blocks, sl .ro ku8 A85 k86 x75.2.2.filter, sl .ro ku8 A57 k58 ((gi dapi_Entry x1 x54).Key), blk b73 [.slice A76 x75.1.Key.length k77, .int .u64 x75.1.Seq, .bool x75.1.Del, .slice A78 x75.1.Value.length k79], cl A2 (Int.toNat x54 * 4 + 0) [.slice A57 (((gi dapi_Entry x1 x54).Key).length) k58], sl .ro kapi_Entry A2 k3 x1], rfl, ⟨.inr ⟨_, _, _, rfl, rfl⟩, .inr ⟨_, _, _, rfl, rfl⟩, .inr ⟨_, _, _, rfl, rfl⟩, .inr ⟨_, _, _, rfl, rfl⟩, .inr ⟨_, _, _, rfl, rfl⟩, .inl rfl, .inl rfl, trivial⟩, rfl, ?_, T, S⟩
        refine stage none rfl rfl ⟨⟨_, [(0, .slice A2 x1.length k3)], rfl, ⟨.inr ⟨rfl, rfl⟩, trivial⟩, fun u a w T S => (by refine r_pv T rfl rfl fun _ T => ?_; exact ⟨rfl, T⟩)⟩, ⟨_, [(14, .int .i64 x54)], rfl, ⟨.inr ⟨rfl, rfl⟩, trivial⟩, fun u a w T S => (by refine r_pv T rfl rfl fun _ T => ?_; exact ⟨rfl, T⟩)⟩, ⟨_, [(81, .slice A2 x1.length k3), (82, .int .i64 x54)], rfl, ⟨.inl ⟨1, rfl, rfl, rfl, rfl⟩, .inl ⟨2, rfl, rfl, rfl, rfl⟩, trivial⟩, fun u a w T S => (by refine r_ia (ix := 12) T S rfl rfl rfl rfl Try.runUnderlying22 Try.sizeOf36 h56.1 h56.2 rfl fun _ T => ?_; exact ⟨rfl, T⟩)⟩, ⟨_, [(85, .bool x100)], rfl, ⟨.inl ⟨5, rfl, rfl, rfl, rfl⟩, trivial⟩, fun u a w T S => (by refine r_pv T rfl rfl fun _ T => ?_; exact ⟨rfl, T⟩)⟩, trivial⟩ rfl (fun i hi => by cases hi) (fun _ _ a w T hv hb S => ?_)
        replace T := T.sub (r := [(0, .slice A2 x1.length k3), (10, .pointer (some ⟨b20, 0, none⟩)), (14, .int .i64 x54), (16, .bool x75.2.1), (17, .bool x100)]) ⟨hb 0 _ rfl rfl, hb 10 _ rfl rfl, hb 14 _ rfl rfl, hb 16 _ rfl rfl, hv 6 _ 17 rfl rfl rfl, trivial⟩
        refine Gets.seq ?_
        refine rg ?_
        refine r_pv T rfl rfl fun _ T => ?_
        refine r_pv T rfl rfl fun _ T => ?_
        refine r_pv T rfl rfl fun _ T => ?_
        rcases ifE H with ⟨h101, H⟩ | ⟨h101, H⟩
        · refine g_no T rfl rfl h101 rfl fun _ T => ?_
          refine g_no T rfl rfl h101 rfl fun _ T => ?_
          refine r_pickT T rfl h101 rfl rfl fun _ T => ?_
          refine cdT T rfl rfl ?_
          refine Gets.seq ?_
          exact J5_ok F r z x1 A2 k3 x4 x5 _ _ (T.sub trivial) (S.only (p := [sl .ro kapi_Entry A2 k3 x1]) [12] rfl) H
        · refine g_yes T rfl rfl h101 ?_
          refine r_pv T rfl rfl fun _ T => ?_
          refine g_yes T rfl rfl h101 ?_
          refine r_pv T rfl rfl fun _ T => ?_
          refine r_pickF T rfl h101 rfl rfl fun _ T => ?_
          rcases ifE H with ⟨h102, H⟩ | ⟨h102, H⟩
          · refine cdT T rfl h102 ?_
            refine Gets.seq ?_
            exact J5_ok F r z x1 A2 k3 x4 x5 _ _ (T.sub trivial) (S.only (p := [sl .ro kapi_Entry A2 k3 x1]) [12] rfl) H
          · refine cdF T rfl h102 ?_
            refine Gets.skip (Gets.inBlock ?_)
            refine rg ?_
            refine r_pv T rfl rfl fun _ T => ?_
            refine r_pv T rfl rfl fun _ T => ?_
            refine r_pv T rfl rfl fun _ T => ?_
            refine Gets.inLoop ?_
            exact ih (wr .i64 (x54 + 1)) A81 x75.2.2.b k82 A83 x75.2.2.blocks k84 A85 x75.2.2.filter k86 x75.2.2.count x75.2.2.reads _ _ (T.sub ⟨rfl, rfl, rfl, trivial⟩) (S.only (p := [sl .ro kapi_Entry A2 k3 x1, blk b20 [.slice A81 x75.2.2.b.length k82, .slice A83 x75.2.2.blocks.length k84, .slice A85 x75.2.2.filter.length k86, .int .i64 x75.2.2.count, .int .i64 x75.2.2.reads], sl .ro ku8 A81 k82 x75.2.2.b, sl .ro ksstable_block A83 k84 x75.2.2.blocks, sl .ro ku8 A85 k86 x75.2.2.filter]) [12, 5, 5, 5, 5] rfl) H
    · refine cdF T rfl h55 ?_
      refine Gets.exit rfl (Gets.seq ?_)
      refine rg ?_
      refine r_pv T rfl rfl fun _ T => ?_
      replace H := Option.some.inj H
      subst H
      exact rtn T Try.func4 rfl rfl ⟨rfl, (S.only (p := [sl .ro kapi_Entry A2 k3 x1]) [0] rfl)⟩
theorem J2_ok (F : List Atom) (r : Bool) (z : Nat) (x1 : List api_Entry) (A2 : Option Addr) (k3 : Nat) (x4 : Int) (x5 : Int) (a : Act) (w : World) (T : Tm 92 [] a) (S : SL ([sl .ro kapi_Entry A2 k3 x1] ++ F) w) (H : J2 z = some r) : Gets Try.prog 4 ptJ2 a w (R F x1 A2 k3 r) := by
  refine rg ?_
  refine r_pv T rfl rfl fun _ T => ?_
  replace H := Option.some.inj H
  subst H
  exact rtn T Try.func4 rfl rfl ⟨rfl, (S.only (p := [sl .ro kapi_Entry A2 k3 x1]) [0] rfl)⟩
theorem J1_ok (F : List Atom) (r : Bool) (z : Nat) (x1 : List api_Entry) (A2 : Option Addr) (k3 : Nat) (x4 : Int) (x5 : Int) (x15 : Bool) (a : Act) (w : World) (T : Tm 92 [(6, .bool x15)] a) (S : SL ([sl .ro kapi_Entry A2 k3 x1] ++ F) w) (H : J1 z x15 = some r) : Gets Try.prog 4 ptJ1 a w (R F x1 A2 k3 r) := by
  replace H := Option.some.inj H
  subst H
  exact rtn T Try.func4 rfl rfl ⟨rfl, (S.only (p := [sl .ro kapi_Entry A2 k3 x1]) [0] rfl)⟩
theorem J0_ok (F : List Atom) (r : Bool) (z : Nat) (x1 : List api_Entry) (A2 : Option Addr) (k3 : Nat) (x7 : Bool) (A10 : Option Addr) (x9 : (List Int) × Int) (k11 : Nat) (x4 : Int) (x5 : Int) (a : Act) (w : World) (T : Tm 92 [(7, .bool x7), (8, .slice A10 x9.1.length k11)] a) (S : SL ([sl .ro kapi_Entry A2 k3 x1, sl .own ku8 A10 k11 x9.1] ++ F) w) (H : J0 z x7 x9 = some r) : Gets Try.prog 4 ptJ0 a w (R F x1 A2 k3 r) := by
  refine rg ?_
  refine r_pv T rfl rfl fun _ T => ?_
  refine r_pv T rfl rfl fun _ T => ?_
  rcases ifE H with ⟨h14, H⟩ | ⟨h14, H⟩
  · refine g_yes T rfl rfl h14 ?_
    refine r_pv T rfl rfl fun _ T => ?_
    refine g_yes T rfl rfl h14 ?_
    refine r_lenS T rfl Try.runUnderlying24 rfl fun _ T => ?_
    refine g_yes T rfl rfl h14 ?_
    refine r_pv T rfl rfl fun _ T => ?_
    refine r_pickT T rfl h14 rfl rfl fun _ T => ?_
    refine r_pv T rfl rfl fun _ T => ?_
    exact J1_ok F r z x1 A2 k3 x4 x5 ((x9.1.length : Int) == 0) _ _ (T.sub ⟨rfl, trivial⟩) (S.only (p := [sl .ro kapi_Entry A2 k3 x1]) [0] rfl) H
  · refine g_no T rfl rfl h14 rfl fun _ T => ?_
    refine g_no T rfl rfl h14 rfl fun _ T => ?_
    refine g_no T rfl rfl h14 rfl fun _ T => ?_
    refine r_pickF T rfl h14 rfl rfl fun _ T => ?_
    refine r_pv T rfl rfl fun _ T => ?_
    exact J1_ok F r z x1 A2 k3 x4 x5 false _ _ (T.sub ⟨rfl, trivial⟩) (S.only (p := [sl .ro kapi_Entry A2 k3 x1]) [0] rfl) H
theorem ok (F : List Atom) (w : World) (z : Nat) (x1 : List api_Entry) (x4 : Int) (x5 : Int) {A2 : Option Addr} {k3 : Nat} (S : SL ([sl .ro kapi_Entry A2 k3 x1] ++ F) w) (r : Bool) (H : f z x1 x4 x5 = some r) : Calls Try.prog 4 #[.slice A2 x1.length k3, .int .i64 x4, .int .i64 x5] w (R F x1 A2 k3 r) := by
  refine enter (vs := [.slice A2 x1.length k3, .int .i64 x4, .int .i64 x5]) Try.func4 rfl Try.ntmps4 (Nat.le_of_ble_eq_true rfl) fun a T => ?_
  refine Gets.seq ?_
  refine rg ?_
  refine r_pv T rfl rfl fun _ T => ?_
  refine Gets.seq ?_
  refine rg ?_
  obtain ⟨x7, h6, H⟩ := bd H
  refine r_call T Try.call6 rfl rfl (cormorantlaw04_shown.ok _ _ z  (S.sel (p := []) (is := []) rfl) _ h6) ?_
  rintro _ _ ⟨rfl, S⟩
  refine ⟨_, rfl, fun _ T => ?_⟩
  replace S : SL ([sl .ro kapi_Entry A2 k3 x1] ++ F) _ := S.join
  refine r_pv T rfl rfl fun _ T => ?_
  refine Gets.seq ?_
  refine rg ?_
  refine r_pv T rfl rfl fun _ T => ?_
  refine r_pv T rfl rfl fun _ T => ?_
  refine r_pv T rfl rfl fun _ T => ?_
  obtain ⟨x9, h8, H⟩ := bd H
  refine r_call T Try.call7 rfl rfl (sstable_Build.ok _ _ z x1 x4 x5 (S.sel (p := [sl .ro kapi_Entry A2 k3 x1]) (is := [0]) rfl) _ h8) ?_
  rintro _ _ ⟨A10, k11, rfl, S⟩
  refine ⟨_, rfl, fun _ T => ?_⟩
  replace S : SL ([sl .own ku8 A10 k11 x9.1, sl .ro kapi_Entry A2 k3 x1] ++ F) _ := S.join
  refine r_pv T rfl rfl fun _ T => ?_
  refine r_pv T rfl rfl fun _ T => ?_
  refine r_pv T rfl rfl fun _ T => ?_
  refine r_pv T rfl rfl fun _ T => ?_
  refine r_pv T rfl rfl fun _ T => ?_
  refine Gets.seq (Gets.seq ?_)
  refine rg ?_
  refine r_pv T rfl rfl fun _ T => ?_
  refine r_pv T rfl rfl fun _ T => ?_
  refine r_pv T rfl rfl fun _ T => ?_
  rcases ifE H with ⟨h12, H⟩ | ⟨h12, H⟩
  · refine g_no T rfl rfl h12 rfl fun _ T => ?_
    refine g_no T rfl rfl h12 rfl fun _ T => ?_
    refine r_pickT T rfl h12 rfl rfl fun _ T => ?_
    refine cdT T rfl rfl ?_
    refine Gets.seq ?_
    exact J0_ok F r z x1 A2 k3 x7 A10 x9 k11 x4 x5 _ _ (T.sub ⟨rfl, rfl, trivial⟩) (S.only (p := [sl .ro kapi_Entry A2 k3 x1, sl .own ku8 A10 k11 x9.1]) [1, 0] rfl) H
  · refine g_yes T rfl rfl h12 ?_
    refine r_pv T rfl rfl fun _ T => ?_
    refine g_yes T rfl rfl h12 ?_
    refine r_pv T rfl rfl fun _ T => ?_
    refine r_pickF T rfl h12 rfl rfl fun _ T => ?_
    rcases ifE H with ⟨h13, H⟩ | ⟨h13, H⟩
    · refine cdT T rfl h13 ?_
      refine Gets.seq ?_
      exact J0_ok F r z x1 A2 k3 x7 A10 x9 k11 x4 x5 _ _ (T.sub ⟨rfl, rfl, trivial⟩) (S.only (p := [sl .ro kapi_Entry A2 k3 x1, sl .own ku8 A10 k11 x9.1]) [1, 0] rfl) H
    · refine cdF T rfl h13 ?_
      refine Gets.skip (Gets.seq ?_)
      refine rg ?_
      refine r_pv T rfl rfl fun _ T => ?_
      replace S : SL ([sl .ro ku8 A10 k11 x9.1, sl .ro kapi_Entry A2 k3 x1] ++ F) _ := S.fixL (i := 0) rfl rfl
      obtain ⟨x17, h16, H⟩ := bd H
      rcases omE H with ⟨h19, H⟩ | ⟨x18, h19, H⟩
      · refine r_call T Try.call8 rfl rfl (sstable_Open.ok _ _ z x9.1 (S.sel (p := [sl .ro ku8 A10 k11 x9.1]) (is := [0]) rfl) _ h16) ?_
        intro _ _ hR_
        obtain ⟨rfl, S⟩ := omN h19 hR_
        refine ⟨_, rfl, fun _ T => ?_⟩
        replace S : SL ([sl .ro ku8 A10 k11 x9.1, sl .ro kapi_Entry A2 k3 x1] ++ F) _ := S.join
        refine r_pv T rfl rfl fun _ T => ?_
        refine r_pv T rfl rfl fun _ T => ?_
        refine r_pv T rfl rfl fun _ T => ?_
        refine r_pv T rfl rfl fun _ T => ?_
        refine r_pv T rfl rfl fun _ T => ?_
        refine Gets.seq (Gets.seq ?_)
        refine rg ?_
        refine r_pv T rfl rfl fun _ T => ?_
        refine r_pv T rfl rfl fun _ T => ?_
        refine r_pv T rfl rfl fun _ T => ?_
        rcases ifE H with ⟨h27, H⟩ | ⟨h27, H⟩
        · refine g_no T rfl rfl h27 rfl fun _ T => ?_
          refine g_no T rfl rfl h27 rfl fun _ T => ?_
          refine r_pickT T rfl h27 rfl rfl fun _ T => ?_
          refine cdT T rfl rfl ?_
          refine Gets.seq ?_
          exact J2_ok F r z x1 A2 k3 x4 x5 _ _ (T.sub trivial) (S.only (p := [sl .ro kapi_Entry A2 k3 x1]) [1] rfl) H
        · refine g_yes T rfl rfl h27 ?_
          refine r_pv T rfl rfl fun _ T => ?_
          refine g_yes T rfl rfl h27 ?_
          refine r_ptrNil00e T rfl rfl Try.runUnderlying28 rfl fun _ T => ?_
          refine r_pickF T rfl h27 rfl rfl fun _ T => ?_
          refine cdT T rfl rfl ?_
          refine Gets.seq ?_
          exact J2_ok F r z x1 A2 k3 x4 x5 _ _ (T.sub trivial) (S.only (p := [sl .ro kapi_Entry A2 k3 x1]) [1] rfl) H
      · refine r_call T Try.call8 rfl rfl (sstable_Open.ok _ _ z x9.1 (S.sel (p := [sl .ro ku8 A10 k11 x9.1]) (is := [0]) rfl) _ h16) ?_
        intro _ _ hR_
        obtain ⟨b20, A21, k22, A23, k24, A25, k26, rfl, S⟩ := omS h19 hR_
        refine ⟨_, rfl, fun _ T => ?_⟩
        replace S : SL ([blk b20 [.slice A21 x18.b.length k22, .slice A23 x18.blocks.length k24, .slice A25 x18.filter.length k26, .int .i64 x18.count, .int .i64 x18.reads], sl .ro ku8 A21 k22 x18.b, sl .ro ksstable_block A23 k24 x18.blocks, sl .ro ku8 A25 k26 x18.filter, sl .ro ku8 A10 k11 x9.1, sl .ro kapi_Entry A2 k3 x1] ++ F) _ := S.join
        refine r_pv T rfl rfl fun _ T => ?_
        refine r_pv T rfl rfl fun _ T => ?_
        refine r_pv T rfl rfl fun _ T => ?_
        refine r_pv T rfl rfl fun _ T => ?_
        refine r_pv T rfl rfl fun _ T => ?_
        refine Gets.seq (Gets.seq ?_)
        refine rg ?_
        refine r_pv T rfl rfl fun _ T => ?_
        refine r_pv T rfl rfl fun _ T => ?_
        refine r_pv T rfl rfl fun _ T => ?_
        rcases ifE H with ⟨h28, H⟩ | ⟨h28, H⟩
        · refine g_no T rfl rfl h28 rfl fun _ T => ?_
          refine g_no T rfl rfl h28 rfl fun _ T => ?_
          refine r_pickT T rfl h28 rfl rfl fun _ T => ?_
          refine cdT T rfl rfl ?_
          refine Gets.seq ?_
          refine rg ?_
          refine r_pv T rfl rfl fun _ T => ?_
          replace H := Option.some.inj H
          subst H
          exact rtn T Try.func4 rfl rfl ⟨rfl, (S.only (p := [sl .ro kapi_Entry A2 k3 x1]) [5] rfl)⟩
        · refine g_yes T rfl rfl h28 ?_
          refine r_pv T rfl rfl fun _ T => ?_
          refine g_yes T rfl rfl h28 ?_
          refine r_ptrNil10e T rfl rfl Try.runUnderlying28 rfl fun _ T => ?_
          refine r_pickF T rfl h28 rfl rfl fun _ T => ?_
          refine cdF T rfl rfl ?_
          refine Gets.skip (Gets.seq ?_)
          refine rg ?_
          refine r_pv T rfl rfl fun _ T => ?_
          refine r_pv T rfl rfl fun _ T => ?_
          refine r_lenS T rfl Try.runUnderlying22 rfl fun _ T => ?_
          refine r_pv T rfl rfl fun _ T => ?_
          replace S := S.nil ku8 .ro
          obtain ⟨x30, h29, H⟩ := bd H
          refine r_call T Try.call9 rfl rfl (cormorantlaw04_scan.ok _ _ z x18 ([] : List Int) (wr .i64 ((x1.length : Int) + 1)) (S.sel (p := [blk b20 [.slice A21 x18.b.length k22, .slice A23 x18.blocks.length k24, .slice A25 x18.filter.length k26, .int .i64 x18.count, .int .i64 x18.reads], sl .ro ku8 A21 k22 x18.b, sl .ro ksstable_block A23 k24 x18.blocks, sl .ro ku8 A25 k26 x18.filter, sl .ro ku8 none 0 ([] : List Int)]) (is := [1, 1, 1, 1, 0]) rfl) _ h29) ?_
          rintro _ _ ⟨A31, k32, A34, k35, A36, k37, A38, k39, rfl, S⟩
          refine ⟨_, rfl, fun _ T => ?_⟩
          replace S : SL ([sl .own kapi_Entry A31 k32 x30.1, blk b20 [.slice A34 x30.2.b.length k35, .slice A36 x30.2.blocks.length k37, .slice A38 x30.2.filter.length k39, .int .i64 x30.2.count, .int .i64 x30.2.reads], sl .ro ku8 A34 k35 x30.2.b, sl .ro ksstable_block A36 k37 x30.2.blocks, sl .ro ku8 A38 k39 x30.2.filter, sl .ro ku8 none 0 ([] : List Int), sl .ro ku8 A10 k11 x9.1, sl .ro kapi_Entry A2 k3 x1] ++ F) _ := S.join
          refine r_pv T rfl rfl fun _ T => ?_
          refine Gets.seq ?_
          refine rg ?_
          refine r_pv T rfl rfl fun _ T => ?_
          refine r_pv T rfl rfl fun _ T => ?_
          replace S : SL ([sl .ro kapi_Entry A31 k32 x30.1, blk b20 [.slice A34 x30.2.b.length k35, .slice A36 x30.2.blocks.length k37, .slice A38 x30.2.filter.length k39, .int .i64 x30.2.count, .int .i64 x30.2.reads], sl .ro ku8 A34 k35 x30.2.b, sl .ro ksstable_block A36 k37 x30.2.blocks, sl .ro ku8 A38 k39 x30.2.filter, sl .ro ku8 none 0 ([] : List Int), sl .ro ku8 A10 k11 x9.1, sl .ro kapi_Entry A2 k3 x1] ++ F) _ := S.fixL (i := 0) rfl rfl
          obtain ⟨x41, h40, H⟩ := bd H
          refine r_call T Try.call10 rfl rfl (cormorantlaw04_same.ok _ _ z x30.1 x1 (S.sel (p := [sl .ro kapi_Entry A31 k32 x30.1, sl .ro kapi_Entry A2 k3 x1]) (is := [0, 6]) rfl) _ h40) ?_
          rintro _ _ ⟨rfl, S⟩
          refine ⟨_, rfl, fun _ T => ?_⟩
          replace S : SL ([sl .ro kapi_Entry A31 k32 x30.1, sl .ro kapi_Entry A2 k3 x1, blk b20 [.slice A34 x30.2.b.length k35, .slice A36 x30.2.blocks.length k37, .slice A38 x30.2.filter.length k39, .int .i64 x30.2.count, .int .i64 x30.2.reads], sl .ro ku8 A34 k35 x30.2.b, sl .ro ksstable_block A36 k37 x30.2.blocks, sl .ro ku8 A38 k39 x30.2.filter, sl .ro ku8 none 0 ([] : List Int), sl .ro ku8 A10 k11 x9.1] ++ F) _ := S.join
          refine r_pv T rfl rfl fun _ T => ?_
          refine Gets.seq (Gets.seq ?_)
          refine rg ?_
          refine r_pv T rfl rfl fun _ T => ?_
          refine r_pv T rfl rfl fun _ T => ?_
          rcases ifE H with ⟨h42, H⟩ | ⟨h42, H⟩
          · refine cdT T rfl h42 ?_
            refine Gets.seq ?_
            refine rg ?_
            refine r_pv T rfl rfl fun _ T => ?_
            replace H := Option.some.inj H
            subst H
            exact rtn T Try.func4 rfl rfl ⟨rfl, (S.only (p := [sl .ro kapi_Entry A2 k3 x1]) [1] rfl)⟩
          · refine cdF T rfl h42 ?_
            refine Gets.skip (Gets.seq (Gets.seq ?_))
            refine rg ?_
            refine r_pv T rfl rfl fun _ T => ?_
            refine Gets.block ?_
            refine Gets.loop ?_
            exact L3_ok F r z x1 A2 k3 b20 x4 x5 z 0 A34 x30.2.b k35 A36 x30.2.blocks k37 A38 x30.2.filter k39 x30.2.count x30.2.reads _ _ (T.sub ⟨rfl, rfl, rfl, trivial⟩) (S.only (p := [sl .ro kapi_Entry A2 k3 x1, blk b20 [.slice A34 x30.2.b.length k35, .slice A36 x30.2.blocks.length k37, .slice A38 x30.2.filter.length k39, .int .i64 x30.2.count, .int .i64 x30.2.reads], sl .ro ku8 A34 k35 x30.2.b, sl .ro ksstable_block A36 k37 x30.2.blocks, sl .ro ku8 A38 k39 x30.2.filter]) [1, 1, 1, 1, 1] rfl) H
end cormorantlaw04_SstableBack
end Go.Proofs.Ytghpokmkhlmgcaa

namespace Go.Proofs.Ytghpokmkhlmgcaa.X
open Go Go.ChangeShapes Go.WideShapes Go.ChangeAt Go.RowKit Go.WideElems

/-- all arguments read behind the call as they did, if nothing below the heap's old size has turned -/
theorem below_trodAll {H : Type} {enc : TypeId × Value → H} {P : Program} (hl : laidOutB P = true) {W W' : World} (hb : Below W.heap.size W W') {sp : Nat → Bool} :
    ∀ {ts : List TypeId} {vs : List Value} {ds : List (DataW H)} {ps : List MemPlace}, (∀ t ∈ ts, P.readableRec t = true ∧ t < P.types.size) → (∀ x ∈ ps, x.block < W.heap.size) → (∀ x ∈ ps, sp x.block = true) →
      DataW.TrodAll enc P W 0 (fun _ => true) true ts vs ds ps → DataW.TrodAll enc P W' 0 sp true ts vs ds ps
  | [], vs, ds, ps, _, _, _, h => by
    obtain ⟨rfl, rfl, rfl⟩ := trodAll_nil h
    exact trodAll_mk0
  | t :: ts, vs, ds, ps, hr, hlt, hsp, h => by
    obtain ⟨v, vs1, d, ds1, a, b, rfl, rfl, rfl, h1, h2⟩ := trodAll_cons h
    have ih := below_trodAll hl hb (fun u hu => hr u (List.mem_cons_of_mem _ hu)) (fun x hx => hlt x (List.mem_append_right _ hx)) (fun x hx => hsp x (List.mem_append_right _ hx)) h2
    exact ⟨a, b, (WideElems.Trod_stays hl (hr t (List.mem_cons_self ..)).1 (hr t (List.mem_cons_self ..)).2 h1 (fun x hx => hb.same (hlt x (List.mem_append_left _ hx))) (fun x hx => hsp x (List.mem_append_left _ hx))), ih, rfl⟩
/-- the row 'true, and the arguments read as they did' -/
theorem row_true {H : Type} {enc : TypeId × Value → H} {P : Program} (hl : laidOutB P = true) {f : Func} {s : ChangeSpec} {W W' : World} {args : Array Value} {ds gs : List (DataW H)} {before : List MemPlace} {t : TypeId}
    (hW : DataW.Whole enc P f.params.toList s.vars false W args.toList ds gs before) (hv : s.vars = []) (hs : (s.fn H ds).results = [.lit (.bool true)] ∧ (s.fn H ds).args = ds ∧ (s.fn H ds).vars = [])
    (hr : ∀ t ∈ f.params.toList, P.readableRec t = true ∧ t < P.types.size) (hres : f.resultTypes = #[t]) (ht : P.underlying t = some .bool) (hb : Below W.heap.size W W') :
    s.post enc P f false true false false W args (.bool true) W' := by
  have hW' := hW
  have hlt : ∀ x ∈ before, x.block < W.heap.size := fun x hx => by simpa using hW'.lt x hx
  obtain ⟨p, q, hA, hV, rfl, _, _⟩ := hW
  rw [hv] at hV
  obtain ⟨rfl, rfl⟩ := trodVars_none hV
  obtain ⟨s1, s2, s3⟩ := hs
  simp only [List.append_nil] at hlt hW'
  refine ⟨ds, [], p, [], p, [], hW', ?_, ?_, ?_, hb.frame _, fun h => by cases h⟩
  · rw [List.append_nil, s1, hres]
    exact trodAll_mk1 (shut_bool ht true)
  · rw [List.append_nil, s2]
    exact below_trodAll hl hb hr hlt (fun x hx => by simpa using hlt x hx) hA
  · rw [List.append_nil, s3, hv]
    exact rfl

/-! ### what an argument reads as, as data of Lean -/
def hpOf (W : World) : Hp := fun b => W.heap[b]?
/-- what is met in reading a place of type t is data of kind κ -/
structure Rd {α : Type} (κ : K α) (P : Program) (t : TypeId) (val : α → Prop) : Prop where
  sz : P.cellsOf t = κ.sz
  pos : 0 < κ.sz
  rd : ∀ {H : Type} {enc : TypeId × Value → H} {W : World} {n : Nat} {cs : List Value} {x : DataW H × List MemPlace}, DataW.trod enc P W 0 (fun _ => true) true n t cs = some x → ∃ y, κ.rep (hpOf W) y cs ∧ val y
theorem Rd.int {P : Program} {t : TypeId} {k : IntKind} (ht : P.underlying t = some (.int k)) (hc : P.cellsOf t = 1) : Rd (kInt k) P t (fun n => (Lit.int k n).wf = true) :=
  ⟨hc, Nat.one_pos, fun h => by obtain ⟨n, rfl, _, hw⟩ := DataW.trod_int ht h; exact ⟨n, rfl, hw⟩⟩
theorem Rd.bool {P : Program} {t : TypeId} (ht : P.underlying t = some .bool) (hc : P.cellsOf t = 1) : Rd kBool P t (fun _ => True) :=
  ⟨hc, Nat.one_pos, fun h => by obtain ⟨b, rfl, _⟩ := DataW.trod_bool ht h; exact ⟨b, rfl, trivial⟩⟩
theorem Rd.str {P : Program} {t : TypeId} (ht : P.underlying t = some .string) (hc : P.cellsOf t = 1) : Rd kStr P t (fun s => s.size ≤ maxLen) :=
  ⟨hc, Nat.one_pos, fun h => by obtain ⟨b, rfl, _, hb⟩ := DataW.trod_string ht h; exact ⟨b, rfl, hb⟩⟩
theorem cell_cells {W : World} {a : Addr} {v : Value} (h : W.cell? a = some v) : ∃ arr e fr, W.heap[a.block]? = some (.cells arr e fr) ∧ a.spot = none ∧ arr[a.off]? = some v := by
  unfold World.cell? at h
  split at h
  · rename_i c e fr hh
    split at h
    · cases h
    · rename_i hs
      refine ⟨c, e, fr, hh, ?_, h⟩
      cases hsp : a.spot with
      | none => rfl
      | some x => rw [hsp] at hs; simp at hs
  · cases h
theorem addr_add2 (a : Addr) (i j : Nat) : (a.add i).add j = a.add (i + j) := by
  unfold Addr.add
  by_cases hi : i = 0 <;> by_cases hj : j = 0 <;> simp [hi, hj, Nat.add_assoc]
theorem row_cells {α : Type} {κ : K α} {W : World} {a : Addr} {val : α → Prop} : ∀ (len : Nat), (∀ i, i < len → ∃ cs', W.cells? 0 (a.add (i * κ.sz)) κ.sz = some cs' ∧ ∃ y, κ.rep (hpOf W) y cs' ∧ val y) →
    ∃ (ys : List α) (cs : List Value), ys.length = len ∧ cells κ (hpOf W) ys cs ∧ cs.length = len * κ.sz ∧ (∀ j, j < len * κ.sz → W.cell? (a.add j) = cs[j]?) ∧ ∀ y ∈ ys, val y
  | 0, _ => ⟨[], [], rfl, rfl, by simp, fun j hj => by simp at hj, fun y hy => by cases hy⟩
  | len + 1, h => by
    obtain ⟨ys, cs, h1, h2, h3, h4, h5⟩ := row_cells len fun i hi => h i (by omega)
    obtain ⟨cs', g1, y, g2, g3⟩ := h len (by omega)
    obtain ⟨_, q2, q3⟩ := World.cells?_some g1
    refine ⟨ys ++ [y], cs ++ cs', by simp [h1], cells.append (show cells κ (hpOf W) [y] cs' from ⟨cs', [], by simp, g2, rfl⟩) h2, by rw [List.length_append, h3, q2, Nat.add_mul, Nat.one_mul], fun j hj => ?_, fun z hz => ?_⟩
    · by_cases hjl : j < len * κ.sz
      · rw [List.getElem?_append_left (by omega)]; exact h4 j hjl
      · rw [List.getElem?_append_right (by omega), h3]
        have := q3 (j - len * κ.sz) (by rw [Nat.add_mul, Nat.one_mul] at hj; omega)
        rw [← this, addr_add2]
        congr 2
        omega
    · rcases List.mem_append.1 hz with q | q
      · exact h5 z q
      · rw [List.mem_singleton.1 q]; exact g3
theorem Rd.slice {α : Type} {κ : K α} {P : Program} {t e : TypeId} {val : α → Prop} (R : Rd κ P e val) (ht : P.underlying t = some (.slice e)) (hc : P.cellsOf t = 1) : Rd (kSl κ) P t (fun xs => xs.length ≤ maxLen ∧ ∀ x ∈ xs, val x) := by
  refine ⟨hc, Nat.one_pos, fun {H enc W n cs x} h => ?_⟩
  rcases Go.Deep.open_slice ht h with ⟨rfl, _⟩ | ⟨a, len, cap, m, n', D, Pl, rfl, _, h1, h2, h3, _, h4⟩
  · exact ⟨[], ⟨none, 0, rfl, Nat.le_refl _, fun _ => rfl, .inl rfl⟩, by simp, fun x hx => by cases hx⟩
  · simp only [if_true] at h3
    rw [R.sz] at h4
    obtain ⟨ys, cs, g1, g2, g3, g4, g5⟩ := row_cells (κ := κ) (val := val) (a := a) (W := W) len fun i hi => by
      obtain ⟨cs', z1, z2⟩ := h4 i (by omega)
      exact ⟨cs', z1, R.rd z2⟩
    refine ⟨ys, ⟨some a, cap, by rw [g1], by omega, (fun h => by cases h), ?_⟩, by omega, g5⟩
    by_cases hl : len = 0
    · exact .inl (List.eq_nil_of_length_eq_zero (by omega))
    · right
      have hpos := R.pos
      have hm : 0 < len * κ.sz := Nat.mul_pos (by omega) hpos
      have hc0 : ∃ v, W.cell? (a.add 0) = some v := by
        rw [g4 0 hm]; exact ⟨cs[0]'(by omega), List.getElem?_eq_getElem (by omega)⟩
      obtain ⟨v, hv⟩ := hc0
      have ha0 : a.add 0 = a := by simp [Addr.add]
      rw [ha0] at hv
      obtain ⟨arr, e', fr, k1, k2, k3⟩ := cell_cells hv
      obtain ⟨b, o, sp⟩ := a
      simp only at k1 k2 k3
      subst k2
      refine ⟨b, o, arr, e', fr, rfl, k1, cs, g2, fun j v hj => ?_⟩
      have hjl : j < len * κ.sz := by
        rcases Nat.lt_or_ge j cs.length with q | q
        · omega
        · rw [List.getElem?_eq_none q] at hj; cases hj
      have := g4 j hjl
      rw [hj, add_eA, eA_some] at this
      simpa [World.cell?, k1] using this
theorem Rd.iso {α β : Type} {κ : K α} {P : Program} {t : TypeId} {val : α → Prop} {val' : β → Prop} {f : β → α} {g : α → β} (R : Rd κ P t val) (hfg : ∀ a, f (g a) = a) (hv : ∀ a, val a → val' (g a)) : Rd (kIso κ f) P t val' :=
  ⟨R.sz, R.pos, fun h => by
    obtain ⟨y, h1, h2⟩ := R.rd h
    exact ⟨g y, by show κ.rep _ (f (g y)) _; rw [hfg]; exact h1, hv y h2⟩⟩
/-- the fields of a struct, from an offset on -/
def RdF {α : Type} (κ : K α) (P : Program) (fs : List Field) (off : Nat) (val : α → Prop) : Prop :=
  ∀ {H : Type} {enc : TypeId × Value → H} {W : World} {cs : List Value}, (∀ f ∈ fs, ∃ n x, DataW.trod (H := H) enc P W 0 (fun _ => true) true n f.type ((cs.drop f.offset).take (P.cellsOf f.type)) = some x) → ∃ y, κ.rep (hpOf W) y ((cs.drop off).take κ.sz) ∧ val y
theorem RdF.last {α : Type} {κ : K α} {P : Program} {f : Field} {off : Nat} {val : α → Prop} (R : Rd κ P f.type val) (ho : f.offset = off) : RdF κ P [f] off val := fun {H enc W cs} h => by
  obtain ⟨n, x, h⟩ := h f (List.mem_singleton.2 rfl)
  rw [R.sz, ho] at h
  exact R.rd h
theorem RdF.cons {α β : Type} {κ : K α} {μ : K β} {P : Program} {f : Field} {fs : List Field} {off : Nat} {val : α → Prop} {val' : β → Prop} (R : Rd κ P f.type val) (ho : f.offset = off) (R' : RdF μ P fs (off + κ.sz) val') :
    RdF (kPair κ μ) P (f :: fs) off (fun p => val p.1 ∧ val' p.2) := fun {H enc W cs} h => by
  obtain ⟨y', g1, g2⟩ := R' (cs := cs) fun f' hf => h f' (List.mem_cons_of_mem _ hf)
  obtain ⟨n, x, h⟩ := h f (List.mem_cons_self ..)
  rw [R.sz, ho] at h
  obtain ⟨y, h1, h2⟩ := R.rd h
  refine ⟨(y, y'), ⟨_, _, ?_, h1, g1⟩, h2, g2⟩
  show List.take (κ.sz + μ.sz) _ = _
  rw [List.take_add, List.drop_drop]
theorem Rd.struct {α : Type} {κ : K α} {P : Program} {t : TypeId} {fs : Array Field} {val : α → Prop} (ht : P.underlying t = some (.struct fs)) (hc : P.cellsOf t = κ.sz) (hp : 0 < κ.sz) (R : RdF κ P fs.toList 0 val) : Rd κ P t val :=
  ⟨hc, hp, fun {H enc W n cs x} h => by
    obtain ⟨xs, n, _, rfl, hl, hlen, hf⟩ := DataW.trod_struct ht h
    obtain ⟨y, h1, h2⟩ := R (cs := cs) (enc := enc) (W := W) fun f hfm => by
      obtain ⟨i, hi⟩ := List.mem_iff_getElem?.1 hfm
      have h1 := hf i f (by simpa using hi)
      have hil : i < xs.length := by
        rw [hlen]
        rcases Nat.lt_or_ge i fs.toList.length with q | q
        · simpa using q
        · rw [List.getElem?_eq_none q] at hi; cases hi
      exact ⟨n, xs[i], by rw [h1]; exact List.getElem?_eq_getElem hil⟩
    refine ⟨y, ?_, h2⟩
    rw [List.drop_zero, List.take_of_length_le (by omega)] at h1
    exact h1⟩

/-- a call's start: what the arguments read as, and that all that is there stays -/
theorem SL.start {W : World} : ∀ (As : List Atom), (∀ A ∈ As, A.holds (env W) (hpOf W) Hp.zero) → SL (As ++ [X.snap W]) W := by
  intro As h
  have key : ∀ (As : List Atom), (∀ A ∈ As, A.holds (env W) (hpOf W) Hp.zero) → sats (env W) (hpOf W) (As ++ [X.snap W]) Hp.zero := by
    intro As
    induction As with
    | nil => intro _; exact ⟨Hp.zero, Hp.zero, Hp.zero_dj _, Hp.le_refl _, Hp.le_refl _, ⟨rfl, fun b o e => e⟩, trivial⟩
    | cons A As ih =>
      intro h
      exact ⟨Hp.zero, Hp.zero, Hp.zero_dj _, Hp.le_refl _, Hp.le_refl _, h A (List.mem_cons_self ..), ih fun B hB => h B (List.mem_cons_of_mem _ hB)⟩
  exact ⟨hpOf W, Hp.zero, fun b o e => e, (fun _ _ e => by cases e), Hp.dj_symm (Hp.zero_dj _), key As h⟩
/-- the end: nothing that was there has turned -/
theorem SL.done {l : List Atom} {W W' : World} (S : SL (l ++ [X.snap W]) W') : Below W.heap.size W W' := SL.below (L := []) (SL.dropL S)
end Go.Proofs.Ytghpokmkhlmgcaa.X

namespace Go.Proofs.Ytghpokmkhlmgcaa.X
open Go

/-! ### a printed function answers, and its answer is so -/
def Ok {R : Type} (x : Option R) (p : R → Prop) : Prop := ∃ r, x = some r ∧ p r
theorem ck_y {R : Type} {p : Prop} [Decidable p] {k : Option R} (h : p) : Ck p k = k := if_pos h
theorem if_y {R : Type} {b : Bool} {x y : Option R} (h : b = true) : If b x y = x := by rw [h]; rfl
theorem if_n {R : Type} {b : Bool} {x y : Option R} (h : b = false) : If b x y = y := by rw [h]; rfl
@[simp] theorem bd_some {S R : Type} {s : S} {k : S → Option R} : Bd (some s) k = k s := rfl
@[simp] theorem if_t {R : Type} {x y : Option R} : If true x y = x := rfl
@[simp] theorem if_f {R : Type} {x y : Option R} : If false x y = y := rfl
theorem bd_e {S R : Type} {x : Option S} {s : S} {k : S → Option R} (h : x = some s) : Bd x k = k s := by rw [h]; rfl
namespace Ok
variable {R S : Type} {p : R → Prop}
theorem some {r : R} (h : p r) : Ok (some r) p := ⟨r, rfl, h⟩
theorem ck {c : Prop} [Decidable c] {k : Option R} (h : c) (n : Ok k p) : Ok (Ck c k) p := by rw [ck_y h]; exact n
theorem ite {b : Bool} {x y : Option R} (h : b = true → Ok x p) (n : b = false → Ok y p) : Ok (If b x y) p := by
  cases b
  · exact n rfl
  · exact h rfl
theorem y {b : Bool} {x y : Option R} (e : b = true) (h : Ok x p) : Ok (If b x y) p := by rw [if_y e]; exact h
theorem n {b : Bool} {x y : Option R} (e : b = false) (h : Ok y p) : Ok (If b x y) p := by rw [if_n e]; exact h
theorem bd {q : S → Prop} {x : Option S} {k : S → Option R} (h : Ok x q) (n : ∀ s, q s → Ok (k s) p) : Ok (Bd x k) p := by
  obtain ⟨s, rfl, hs⟩ := h
  exact n s hs
theorem bde {x : Option S} {s : S} {k : S → Option R} (h : x = Option.some s) (n : Ok (k s) p) : Ok (Bd x k) p := by rw [h]; exact n
theorem of {x : Option R} {r : R} (h : x = Option.some r) (n : p r) : Ok x p := ⟨r, h, n⟩
theorem imp {q : R → Prop} {x : Option R} (h : Ok x p) (n : ∀ r, p r → q r) : Ok x q := by obtain ⟨r, e, h⟩ := h; exact ⟨r, e, n r h⟩
end Ok

/-! ### numbers -/
theorem wI {x : Int} (h : -9223372036854775808 ≤ x ∧ x ≤ 9223372036854775807) : wr .i64 x = x := IntWalk.i64_in x h
theorem wU {x : Int} (h : 0 ≤ x ∧ x ≤ 18446744073709551615) : wr .u64 x = x := IntWalk.u64_in x h
theorem wB (x : Int) : wr .u8 x = x % 256 := IntKind.wrap_u8 x
theorem wW (x : Int) : wr .u32 x = x % 4294967296 := IntKind.wrap_u32 x
theorem wU' (x : Int) : wr .u64 x = x % 18446744073709551616 := by show IntKind.wrap _ _ = _; simp [IntKind.wrap, IntKind.bits, IntKind.signed]
theorem tmod_nn {a b : Int} (h : 0 ≤ a) : Int.tmod a b = a % b := Int.tmod_eq_emod_of_nonneg h
theorem tdiv_nn {a b : Int} (h : 0 ≤ a) : Int.tdiv a b = a / b := Int.tdiv_eq_ediv_of_nonneg h
theorem shr_d (k : IntKind) (x : Int) (n : Nat) (h : n ≤ k.bits) : sShr k x n = x / 2 ^ n := by
  unfold sShr
  rw [show min (Int.toNat (n : Int)) k.bits = n by omega, Int.fdiv_eq_ediv_of_nonneg _ (by exact_mod_cast Nat.zero_le _)]

/-! ### bytes -/
def Bys (xs : List Int) : Prop := ∀ x ∈ xs, 0 ≤ x ∧ x < 256
theorem Bys.nil : Bys [] := fun _ h => by cases h
theorem Bys.cons {x : Int} {xs : List Int} (h : 0 ≤ x ∧ x < 256) (hs : Bys xs) : Bys (x :: xs) := fun y hy => by
  rcases List.mem_cons.1 hy with rfl | hy
  · exact h
  · exact hs y hy
theorem Bys.app {xs ys : List Int} (h : Bys xs) (k : Bys ys) : Bys (xs ++ ys) := fun y hy => (List.mem_append.1 hy).elim (h y) (k y)
theorem Bys.left {xs ys : List Int} (h : Bys (xs ++ ys)) : Bys xs := fun y hy => h y (List.mem_append_left _ hy)
theorem Bys.right {xs ys : List Int} (h : Bys (xs ++ ys)) : Bys ys := fun y hy => h y (List.mem_append_right _ hy)
theorem Bys.drop {xs : List Int} (h : Bys xs) (n : Nat) : Bys (xs.drop n) := fun y hy => h y (List.mem_of_mem_drop hy)
theorem Bys.take {xs : List Int} (h : Bys xs) (n : Nat) : Bys (xs.take n) := fun y hy => h y (List.mem_of_mem_take hy)
theorem Bys.cut {xs : List Int} (h : Bys xs) (n m : Nat) : Bys (cut xs n m) := (h.take m).drop n
theorem gi_nat {α : Type} (d : α) (xs : List α) (i : Nat) (h : i < xs.length) : gi d xs (i : Int) = xs[i] := by simp [gi, h]
theorem Bys.gi {xs : List Int} (h : Bys xs) (i : Int) : 0 ≤ gi 0 xs i ∧ gi 0 xs i < 256 := by
  unfold X.gi
  cases e : xs[i.toNat]? with
  | none => simp
  | some x => exact h x (List.mem_of_getElem? e)

theorem ba_loop (b : ByteArray) : ∀ (n i : Nat) (r : List UInt8), b.size - i = n → ByteArray.toList.loop b i r = r.reverse ++ b.data.toList.drop i
  | 0, i, r, h => by
    unfold ByteArray.toList.loop
    have : ¬ i < b.size := by omega
    rw [if_neg this, List.drop_eq_nil_of_le (by simp [← ByteArray.size_data] at this ⊢; omega), List.append_nil]
  | n + 1, i, r, h => by
    unfold ByteArray.toList.loop
    have hi : i < b.size := by omega
    rw [if_pos hi, ba_loop b n (i + 1) _ (by omega)]
    have hd : i < b.data.toList.length := by simpa [← ByteArray.size_data] using hi
    rw [List.drop_eq_getElem_cons hd, List.reverse_cons, List.append_assoc]
    have hg : b.get! i = b.data.toList[i] := by
      cases b with
      | mk d =>
        show d[i]! = _
        rw [getElem!_pos d i (by simpa using hd)]
        simp
    rw [hg]
    rfl
theorem ba_toList (b : ByteArray) : b.toList = b.data.toList := by
  unfold ByteArray.toList
  rw [ba_loop b _ 0 [] rfl]
  rfl
/-- the bytes of u8 slices as Go's strings are equal exactly if the bytes are -/
theorem bstr_inj {xs ys : List Int} (hx : Bys xs) (hy : Bys ys) : ((bstr xs).toList == (bstr ys).toList) = decide (xs = ys) := by
  have key : ∀ zs : List Int, (bstr zs).toList = zs.map fun n => UInt8.ofNat n.toNat := by
    intro zs
    rw [ba_toList]
    simp [bstr]
  rw [key, key]
  have hinj : ∀ {xs ys : List Int}, Bys xs → Bys ys → xs.map (fun n => UInt8.ofNat n.toNat) = ys.map (fun n => UInt8.ofNat n.toNat) → xs = ys := by
    intro xs
    induction xs with
    | nil => intro ys _ _ h; cases ys with
      | nil => rfl
      | cons y ys => simp at h
    | cons x xs ih => intro ys h1 h2 h; cases ys with
      | nil => simp at h
      | cons y ys =>
        simp only [List.map_cons, List.cons.injEq] at h
        have a := h1 x (List.mem_cons_self ..)
        have b := h2 y (List.mem_cons_self ..)
        have e : (UInt8.ofNat x.toNat).toNat = (UInt8.ofNat y.toNat).toNat := by rw [h.1]
        simp only [UInt8.toNat_ofNat'] at e
        have : x = y := by omega
        rw [this, ih (fun z hz => h1 z (List.mem_cons_of_mem _ hz)) (fun z hz => h2 z (List.mem_cons_of_mem _ hz)) h.2]
  by_cases e : xs = ys
  · simp [e]
  · have : ¬ (xs.map (fun n => UInt8.ofNat n.toNat) = ys.map (fun n => UInt8.ofNat n.toNat)) := fun h => e (hinj hx hy h)
    simp [e]
    exact fun h => e (hinj hx hy (by simpa using h))
end Go.Proofs.Ytghpokmkhlmgcaa.X

namespace Go.Proofs.Ytghpokmkhlmgcaa
open Go Go.Proofs.Ytghpokmkhlmgcaa.X
set_option linter.unusedVariables false

/-! ### numbers -/
def num (n : Nat) : List Int := if n ≤ 127 then [(n : Int)] else ((n % 128 + 128 : Nat) : Int) :: num (n / 128)
termination_by n
decreasing_by omega
theorem num_bys (n : Nat) : Bys (num n) := by
  induction n using Nat.strongRecOn with
  | ind n ih =>
    unfold num
    split
    · exact Bys.cons (by omega) Bys.nil
    · exact Bys.cons (by omega) (ih _ (by omega))
theorem num_len (n : Nat) : 1 ≤ (num n).length := by unfold num; split <;> simp
theorem num_lenp : ∀ (k n : Nat), n < 128 ^ k → 1 ≤ k → (num n).length ≤ k
  | 0, _, _, h => by omega
  | k + 1, n, h, _ => by
    unfold num
    split
    · simp
    · have hk : 1 ≤ k := by
        rcases k with _ | k
        · simp at h; omega
        · omega
      have := num_lenp k (n / 128) (by rw [Nat.pow_succ] at h; exact Nat.div_lt_of_lt_mul (by omega)) hk
      simp; omega
theorem num_len10 {n : Nat} (h : n ≤ 18446744073709551615) : (num n).length ≤ 10 := num_lenp 10 n (by omega) (by omega)
theorem or128 (n : Nat) : bOr .u8 (wr .u8 (n : Int)) 128 = ((n % 128 + 128 : Nat) : Int) := by
  rw [wB]
  have : ∀ i : Fin 256, bOr .u8 (i.val : Int) 128 = ((i.val % 128 + 128 : Nat) : Int) := by decide +kernel
  have h := this ⟨n % 256, by omega⟩
  simp only at h
  rw [show ((n : Int) % 256) = ((n % 256 : Nat) : Int) by omega, h]
  omega
theorem Number_L0 (z : Nat) : ∀ (k n m : Nat) (acc : List Int), n < 128 ^ k → 1 ≤ k → k ≤ m → acc.length + k ≤ 100 → codec_Number.L0 z m (n : Int) acc = some (acc ++ num n)
  | 0, _, _, _, _, h, _, _ => by omega
  | k + 1, n, 0, _, _, _, h, _ => by omega
  | k + 1, n, m + 1, acc, h, _, hm, hl => by
    unfold codec_Number.L0
    by_cases hn : n ≤ 127
    · rw [if_n (by simp; omega), ck_y (by simp; omega)]
      unfold num
      rw [if_pos hn]
      simp [slices_Clip_byte.f, wB]
      omega
    · have hk : 1 ≤ k := by
        rcases k with _ | k
        · simp at h; omega
        · omega
      rw [if_y (by simp; omega), ck_y (by simp; omega), or128, show (7 : Int) = ((7 : Nat) : Int) from rfl, shr_d _ _ _ (by decide), show ((n : Int) / 2 ^ 7) = ((n / 128 : Nat) : Int) by omega,
        Number_L0 z k (n / 128) m _ (by rw [Nat.pow_succ] at h; exact Nat.div_lt_of_lt_mul (by omega)) hk (by omega) (by simp; omega)]
      rw [num.eq_1 n, if_neg hn, List.append_assoc]
      rfl
theorem Number_f {z : Nat} (hz : 16777216 ≤ z) {x : Int} (h : 0 ≤ x ∧ x ≤ 18446744073709551615) : codec_Number.f z x = some (num x.toNat) := by
  obtain ⟨n, rfl⟩ := Int.eq_ofNat_of_zero_le h.1
  have := Number_L0 z 10 n z [] (by omega) (by omega) (by omega) (by simp)
  rw [List.nil_append] at this
  exact this

/-! ### sums -/
def iv (c : BitVec 32) : Int := c.toNat
theorem of_iv (c : BitVec 32) : BitVec.ofInt 32 (iv c) = c := by
  unfold iv
  rw [BitVec.ofInt_natCast, BitVec.ofNat_toNat, BitVec.setWidth_eq]
theorem wr_iv (c : BitVec 32) : wr .u32 (iv c) = iv c := by
  rw [wW]
  unfold iv
  have := c.isLt
  omega
theorem xor_iv (a b : BitVec 32) : bXor .u32 (iv a) (iv b) = iv (a ^^^ b) := by
  show wr .u32 (((BitVec.ofInt 32 (iv a) ^^^ BitVec.ofInt 32 (iv b)).toNat : Nat) : Int) = _
  rw [of_iv, of_iv]
  exact wr_iv _
theorem and_iv (a b : BitVec 32) : bAnd .u32 (iv a) (iv b) = iv (a &&& b) := by
  show wr .u32 (((BitVec.ofInt 32 (iv a) &&& BitVec.ofInt 32 (iv b)).toNat : Nat) : Int) = _
  rw [of_iv, of_iv]
  exact wr_iv _
theorem xor_by (a : BitVec 32) (x : Int) : bXor .u32 (iv a) (wr .u32 x) = iv (a ^^^ BitVec.ofInt 32 x) := by
  rw [← xor_iv]
  congr 1
  rw [wW]
  unfold iv
  rw [BitVec.toNat_ofInt]
  omega
theorem neg_iv (a : BitVec 32) : wr .u32 (0 - iv a) = iv (0#32 - a) := by
  rw [wW]
  unfold iv
  have := a.isLt
  rw [BitVec.toNat_sub]
  simp
  omega
theorem shr_iv (a : BitVec 32) : sShr .u32 (iv a) 1 = iv (a >>> 1) := by
  rw [show (1 : Int) = ((1 : Nat) : Int) from rfl, shr_d _ _ _ (by decide)]
  unfold iv
  rw [BitVec.toNat_ushiftRight, Nat.shiftRight_eq_div_pow]
  omega
def stp (c : BitVec 32) : BitVec 32 := (c >>> 1) ^^^ (3988292384#32 &&& (0#32 - (c &&& 1#32)))
theorem stp_iv (c : BitVec 32) : bXor .u32 (sShr .u32 (iv c) 1) (bAnd .u32 3988292384 (wr .u32 (0 - (bAnd .u32 (iv c) 1)))) = iv (stp c) := by
  rw [show (1 : Int) = iv 1#32 from rfl, show (3988292384 : Int) = iv 3988292384#32 from rfl, and_iv, neg_iv, and_iv, show iv 1#32 = 1 from rfl, shr_iv, xor_iv]
  rfl
def byt (c : BitVec 32) (x : Int) : BitVec 32 := stp (stp (stp (stp (stp (stp (stp (stp (c ^^^ BitVec.ofInt 32 x))))))))
def crc (c : BitVec 32) (xs : List Int) : BitVec 32 := xs.foldl byt c
theorem register_L1 (z : Nat) (hz : 16777216 ≤ z) (q : Int → Int → Option Int) (xs : List Int) (i : Int) (c : BitVec 32) (hi : 0 ≤ i ∧ i ≤ 4611686018427387904) :
    codec_register.L1 z q xs i z (iv c) 0 = q (iv (stp (stp (stp (stp (stp (stp (stp (stp c))))))))) (i + 1) := by
  obtain ⟨n, rfl⟩ : ∃ n, z = n + 9 := ⟨z - 9, by omega⟩
  have one : ∀ (m : Nat) (c : BitVec 32) (j : Int), 0 ≤ j ∧ j < 8 → codec_register.L1 (n + 9) q xs i (m + 1) (iv c) j = codec_register.L1 (n + 9) q xs i m (iv (stp c)) (j + 1) := by
    intro m c j hj
    rw [codec_register.L1, if_y (by simp; omega), stp_iv, wI (by omega)]
  rw [one _ _ _ (by omega), one _ _ _ (by omega), one _ _ _ (by omega), one _ _ _ (by omega), one _ _ _ (by omega), one _ _ _ (by omega), one _ _ _ (by omega), one _ _ _ (by omega)]
  rw [codec_register.L1, if_n (by simp), wI (by omega)]
theorem register_L0 (z : Nat) (hz : 16777216 ≤ z) (xs : List Int) (hx : xs.length ≤ 16777215) : ∀ (k m i : Nat) (c : BitVec 32), xs.length - i = k → i ≤ xs.length → k < m →
    codec_register.L0 z xs m (iv c) (i : Int) = some (iv (crc c (xs.drop i)))
  | k, 0, _, _, _, _, h => by omega
  | 0, m + 1, i, c, hk, hi, _ => by
    rw [codec_register.L0, if_n (by simp; omega), List.drop_eq_nil_of_le (by omega)]
    rfl
  | k + 1, m + 1, i, c, hk, hi, hm => by
    rw [codec_register.L0, if_y (by simp; omega), ck_y (by omega), xor_by, register_L1 z hz _ _ _ _ (by omega), gi_nat _ _ _ (by omega), List.drop_eq_getElem_cons (by omega)]
    exact register_L0 z hz xs hx k m (i + 1) _ (by omega) (by omega) (by omega)
theorem register_f {z : Nat} (hz : 16777216 ≤ z) {xs : List Int} (hx : xs.length ≤ 16777215) (c : BitVec 32) : codec_register.f z (iv c) xs = some (iv (crc c xs)) :=
  register_L0 z hz xs hx xs.length z 0 c (by omega) (by omega) (by omega)

/-- a sum as four bytes, the lowest ahead -/
def le4 (c : BitVec 32) : List Int := [iv c % 256, iv c / 256 % 256, iv c / 65536 % 256, iv c / 16777216 % 256]
def sum4 (xs : List Int) : List Int := le4 (~~~(crc 4294967295#32 xs))
theorem not_iv (c : BitVec 32) : bNot .u32 (iv c) = iv (~~~c) := by
  show bXor .u32 (iv 4294967295#32) (iv c) = _
  rw [xor_iv]
  rw [show (4294967295#32 : BitVec 32) = BitVec.allOnes 32 from rfl, BitVec.allOnes_xor]
theorem crc_app (c : BitVec 32) (xs ys : List Int) : crc c (xs ++ ys) = crc (crc c xs) ys := List.foldl_append ..
theorem sums_f {z : Nat} (hz : 16777216 ≤ z) {xs ys : List Int} (hx : xs.length ≤ 16777215) (hy : ys.length ≤ 16777215) : codec_sums.f z xs ys = some (sum4 (xs ++ ys)) := by
  unfold codec_sums.f
  rw [show (4294967295 : Int) = iv 4294967295#32 from rfl, register_f hz hx, bd_some, register_f hz hy, bd_some, not_iv, wB, wB, wB, wB]
  rw [show (8 : Int) = ((8 : Nat) : Int) from rfl, show (16 : Int) = ((16 : Nat) : Int) from rfl, show (24 : Int) = ((24 : Nat) : Int) from rfl, shr_d _ _ _ (by decide), shr_d _ _ _ (by decide), shr_d _ _ _ (by decide), ← crc_app]
  rfl
theorem Sum_f {z : Nat} (hz : 16777216 ≤ z) {xs : List Int} (hx : xs.length ≤ 16777215) : codec_Sum.f z xs = some (iv (~~~(crc 4294967295#32 xs))) := by
  unfold codec_Sum.f
  rw [show (4294967295 : Int) = iv 4294967295#32 from rfl, register_f hz hx, bd_some, not_iv]
theorem le4_bys (c : BitVec 32) : Bys (le4 c) := by
  unfold le4
  refine Bys.cons (by omega) (Bys.cons (by omega) (Bys.cons (by omega) (Bys.cons (by omega) Bys.nil)))
theorem le4_inj {c d : BitVec 32} (h : le4 c = le4 d) : c = d := by
  unfold le4 iv at h
  simp only [List.cons.injEq] at h
  have := c.isLt
  have := d.isLt
  exact BitVec.eq_of_toNat_eq (by omega)

/-! ### pieces one behind the other -/
theorem Concat_L1 (z : Nat) (xs : List (List Int)) (hx : xs.length ≤ 1000) : ∀ (k m i : Nat) (acc : List Int), xs.length - i = k → i ≤ xs.length → k < m → acc.length + (xs.drop i).flatten.length ≤ 140737488355328 →
    slices_Concat_byte.L1 z xs m acc (i : Int) = some (acc ++ (xs.drop i).flatten)
  | k, 0, _, _, _, _, h, _ => by omega
  | 0, m + 1, i, c, hk, hi, _, _ => by
    rw [slices_Concat_byte.L1, if_n (by simp; omega), List.drop_eq_nil_of_le (by omega)]
    simp
  | k + 1, m + 1, i, acc, hk, hi, hm, hl => by
    rw [List.drop_eq_getElem_cons (by omega)] at hl ⊢
    simp only [List.flatten_cons, List.length_append] at hl
    rw [slices_Concat_byte.L1, if_y (by simp; omega), ck_y (by omega), gi_nat _ _ _ (by omega), ck_y (by omega), wI (by omega)]
    rw [show ((i : Int) + 1) = ((i + 1 : Nat) : Int) from rfl, Concat_L1 z xs hx k m (i + 1) _ (by omega) (by omega) (by omega) (by rw [List.length_append]; omega)]
    rw [List.append_assoc, List.flatten_cons]
theorem Grow_f {n : Int} (h : 0 ≤ n ∧ n ≤ 140737488355328) : slices_Grow_byte.f n = some [] := by
  unfold slices_Grow_byte.f
  rw [if_n (by simp; omega)]
  simp only [Int.sub_zero]
  rw [wI (x := 0) (by omega), Int.sub_zero, wI (by omega)]
  by_cases hn : n = 0
  · subst hn; rfl
  · rw [if_y (by simp; omega), ck_y (by simp), ck_y (by omega), ck_y (by omega)]
    simp [slices_Grow_byte.J0, cut]
theorem Concat_L0 (z : Nat) (hz : 16777216 ≤ z) (xs : List (List Int)) (hx : xs.length ≤ 1000) (hall : xs.flatten.length ≤ 140737488355328) : ∀ (k m i : Nat) (s : Nat), xs.length - i = k → i ≤ xs.length → k < m → s + (xs.drop i).flatten.length ≤ 140737488355328 →
    slices_Concat_byte.L0 z xs m (s : Int) (i : Int) = some xs.flatten
  | k, 0, _, _, _, _, h, _ => by omega
  | 0, m + 1, i, s, hk, hi, _, hl => by
    rw [slices_Concat_byte.L0, if_n (by simp; omega), Grow_f (by omega), bd_some]
    have := Concat_L1 z xs hx xs.length z 0 [] (by omega) (by omega) (by omega) (by simpa using hall)
    simpa using this
  | k + 1, m + 1, i, s, hk, hi, hm, hl => by
    rw [List.drop_eq_getElem_cons (by omega)] at hl
    simp only [List.flatten_cons, List.length_append] at hl
    rw [slices_Concat_byte.L0, if_y (by simp; omega), ck_y (by omega), gi_nat _ _ _ (by omega), wI (by omega), if_n (by simp; omega), wI (by omega)]
    exact Concat_L0 z hz xs hx hall k m (i + 1) (s + xs[i].length) (by omega) (by omega) (by omega) (by omega)
theorem Concat_f {z : Nat} (hz : 16777216 ≤ z) {xs : List (List Int)} (hx : xs.length ≤ 1000) (hall : xs.flatten.length ≤ 140737488355328) : slices_Concat_byte.f z xs = some xs.flatten :=
  Concat_L0 z hz xs hx hall xs.length z 0 0 (by omega) (by omega) (by omega) (by simpa using hall)

/-! ### frames, texts -/
def hd (kind : Int) (body : List Int) : List Int := kind :: num body.length
def frm (kind : Int) (body : List Int) : List Int := hd kind body ++ sum4 (hd kind body ++ body) ++ body
def txt (s : List Int) : List Int := num s.length ++ s
theorem Frame_f {z : Nat} (hz : 16777216 ≤ z) (kind : Int) {body : List Int} (hb : body.length ≤ 2097152) : codec_Frame.f z kind body = some (frm kind body, 0) := by
  unfold codec_Frame.f
  have h10 := num_len10 (n := body.length) (by omega)
  have h1 := num_len body.length
  rw [if_n (by simp; omega), wU (by omega), Number_f hz (by omega), bd_some, Int.toNat_natCast, ck_y (by simp; omega), sums_f hz (by simp; omega) (by omega), bd_some, Concat_f hz (by simp) (by simp [sum4, le4]; omega), bd_some]
  simp [frm, hd]
theorem Text_f {z : Nat} (hz : 16777216 ≤ z) {s : List Int} (hb : s.length ≤ 2097152) : codec_Text.f z s = some (txt s, 0) := by
  unfold codec_Text.f
  have h10 := num_len10 (n := s.length) (by omega)
  rw [if_n (by simp; omega), wU (by omega), Number_f hz (by omega), bd_some, Int.toNat_natCast, Concat_f hz (by simp) (by simp; omega), bd_some]
  simp [txt]
theorem frm_len (kind : Int) (body : List Int) : (frm kind body).length = body.length + (num body.length).length + 5 := by
  simp [frm, hd, sum4, le4]; omega
theorem frm_bys {kind : Int} {body : List Int} (hk : 0 ≤ kind ∧ kind < 256) (hb : Bys body) : Bys (frm kind body) :=
  Bys.app (Bys.app (Bys.cons hk (num_bys _)) (le4_bys _)) hb
theorem txt_bys {s : List Int} (h : Bys s) : Bys (txt s) := Bys.app (num_bys _) h
end Go.Proofs.Ytghpokmkhlmgcaa

namespace Go.Proofs.Ytghpokmkhlmgcaa
open Go Go.Proofs.Ytghpokmkhlmgcaa.X
set_option linter.unusedVariables false

/-- how many first bytes are alike -/
def com : List Int → List Int → Nat
  | x :: xs, y :: ys => if x = y then com xs ys + 1 else 0
  | _, _ => 0
theorem com_le : ∀ (xs ys : List Int), com xs ys ≤ xs.length ∧ com xs ys ≤ ys.length
  | x :: xs, y :: ys => by
    unfold com
    have := com_le xs ys
    split <;> simp <;> omega
  | [], _ => by simp [com]
  | _ :: _, [] => by simp [com]
theorem com_take : ∀ (xs ys : List Int), xs.take (com xs ys) = ys.take (com xs ys)
  | x :: xs, y :: ys => by
    unfold com
    split
    · rename_i h
      rw [List.take_succ_cons, List.take_succ_cons, com_take xs ys, h]
    · rfl
  | [], _ => by simp [com]
  | _ :: _, [] => by simp [com]
/-- an entry's bytes behind a key -/
def layS (ahead : List Int) (e : api_Entry) : List Int :=
  num (com ahead e.Key) ++ num (e.Key.length - com ahead e.Key) ++ num e.Seq.toNat ++ [if e.Del then 1 else 0] ++ num e.Value.length ++ e.Key.drop (com ahead e.Key) ++ e.Value
/-- an entry that may be -/
def fitS (e : api_Entry) : Prop := (e.Del = true → e.Value = []) ∧ 0 < e.Key.length ∧ e.Key.length ≤ 256 ∧ 0 < e.Seq ∧ e.Seq ≤ 4611686018427387904 ∧ e.Value.length ≤ 65536
instance (e : api_Entry) : Decidable (fitS e) := by unfold fitS; infer_instance
theorem fits_f (e : api_Entry) : sstable_fits.f e = some (decide (fitS e)) := by
  have hJ : ∀ e, sstable_fits.J0 e = some (decide (0 < e.Key.length ∧ e.Key.length ≤ 256 ∧ 0 < e.Seq ∧ e.Seq ≤ 4611686018427387904 ∧ e.Value.length ≤ 65536)) := by
    intro e
    unfold sstable_fits.J0 sstable_fits.J1
    by_cases h1 : 0 < e.Key.length
    · rw [if_y (by simp; omega)]
      by_cases h2 : e.Key.length ≤ 256
      · rw [if_y (by simp; omega)]
        by_cases h3 : 0 < e.Seq
        · rw [if_y (by simp; omega)]
          by_cases h4 : e.Seq ≤ 4611686018427387904
          · rw [if_y (by simp; omega)]
            congr 1
            rw [decide_eq_decide]
            omega
          · rw [if_n (by simp; omega)]; simp [h4]
        · rw [if_n (by simp; omega)]; simp [h3]
      · rw [if_n (by simp; omega)]; simp [h2]
    · rw [if_n (by simp; exact List.length_eq_zero_iff.1 (by omega))]; simp [h1]
  unfold sstable_fits.f
  by_cases hd : e.Del = true
  · rw [if_y hd]
    by_cases hv : e.Value = []
    · rw [if_n (by simp [hv]), hJ]
      congr 1
      rw [decide_eq_decide]
      exact ⟨fun h => ⟨fun _ => hv, h⟩, fun h => h.2⟩
    · have : 0 < e.Value.length := List.length_pos_iff.2 hv
      rw [if_y (by simp; omega)]
      congr 1
      symm
      rw [decide_eq_false_iff_not]
      exact fun h => hv (h.1 hd)
  · rw [if_n (by simpa using hd), hJ]
    congr 1
    rw [decide_eq_decide]
    exact ⟨fun h => ⟨fun h' => absurd h' hd, h⟩, fun h => h.2⟩
def ordS (a b : api_Entry) : Int := if bcmp a.Key b.Key ≠ 0 ∨ a.Seq = b.Seq then bcmp a.Key b.Key else if a.Seq > b.Seq then -1 else 1
theorem order_f (a b : api_Entry) : sstable_order.f a b = some (ordS a b) := by
  unfold sstable_order.f sstable_order.J0 codec_Compare.f bytes_Compare.f ordS
  simp only [bd_some]
  by_cases h : bcmp a.Key b.Key = 0
  · rw [if_n (by simp [h])]
    by_cases h2 : a.Seq = b.Seq
    · rw [if_y (by simp [h2])]; simp [h2]
    · rw [if_n (by simp [h2])]
      by_cases h3 : a.Seq > b.Seq
      · rw [if_y (by simp; omega)]; simp [h, h2, h3]
      · rw [if_n (by simp; omega)]; simp [h, h2, h3]
  · rw [if_y (by simp [h])]; simp [h]
theorem layS_len {ahead : List Int} {e : api_Entry} (he : fitS e) : (layS ahead e).length ≤ 65900 ∧ 1 ≤ (layS ahead e).length := by
  obtain ⟨h1, h2, h3, h4, h5, h6⟩ := he
  have hc := com_le ahead e.Key
  have a := num_lenp 2 (com ahead e.Key) (by omega) (by omega)
  have b := num_lenp 2 (e.Key.length - com ahead e.Key) (by omega) (by omega)
  have c := num_len10 (n := e.Seq.toNat) (by omega)
  have d := num_lenp 3 e.Value.length (by omega) (by omega)
  unfold layS
  simp
  omega
theorem lay_J1 {z : Nat} (hz : 16777216 ≤ z) {b ahead : List Int} {e : api_Entry} (he : fitS e) (hb : b.length ≤ 16777216) : sstable_lay.J1 z b e (com ahead e.Key : Int) = some (b ++ layS ahead e) := by
  have hc := com_le ahead e.Key
  have hL := layS_len (ahead := ahead) he
  obtain ⟨h1, h2, h3, h4, h5, h6⟩ := he
  have key : ∀ d : Int, sstable_lay.J2 z b e (com ahead e.Key : Int) d = some (b ++ (num (com ahead e.Key) ++ num (e.Key.length - com ahead e.Key) ++ num e.Seq.toNat ++ [d] ++ num e.Value.length ++ e.Key.drop (com ahead e.Key) ++ e.Value)) := by
    intro d
    have a := num_lenp 2 (com ahead e.Key) (by omega) (by omega)
    have a' := num_len (com ahead e.Key)
    have b' := num_lenp 2 (e.Key.length - com ahead e.Key) (by omega) (by omega)
    have c := num_len10 (n := e.Seq.toNat) (by omega)
    have d := num_lenp 3 e.Value.length (by omega) (by omega)
    unfold sstable_lay.J2
    rw [wU (by omega), Number_f hz (by omega), bd_some, Int.toNat_natCast, ck_y (by omega), wI (by omega), wU (by omega), Number_f hz (by omega), bd_some,
      show (((e.Key.length : Int) - (com ahead e.Key : Int)).toNat) = e.Key.length - com ahead e.Key by omega, ck_y (by simp; omega), Number_f hz (by omega), bd_some, ck_y (by simp; omega), ck_y (by simp; omega),
      wU (by omega), Number_f hz (by omega), bd_some, Int.toNat_natCast, ck_y (by simp; omega), ck_y (by omega), Int.toNat_natCast]
    rw [show cut e.Key (com ahead e.Key) e.Key.length = e.Key.drop (com ahead e.Key) by simp [cut]]
    rw [ck_y (by simp; omega), ck_y (by simp; omega)]
    simp
  unfold sstable_lay.J1 layS
  cases hd : e.Del with
  | true => rw [if_t, key]; simp
  | false => rw [if_f, key]; simp
theorem lay_L0 {z : Nat} (hz : 16777216 ≤ z) {b ahead : List Int} {e : api_Entry} (he : fitS e) (hb : b.length ≤ 16777216) : ∀ (k m i : Nat), e.Key.length - i = k → i ≤ com ahead e.Key → k < m →
    com (ahead.drop i) (e.Key.drop i) + i = com ahead e.Key → sstable_lay.L0 z b ahead e m (i : Int) = some (b ++ layS ahead e)
  | k, 0, _, _, _, h, _ => by omega
  | k, m + 1, i, hk, hi, hm, hcom => by
    have hc := com_le ahead e.Key
    have h3 := he.2.2.1
    rw [sstable_lay.L0]
    by_cases hin : i < ahead.length ∧ i < e.Key.length
    · rw [if_y (by simp [mn]; split <;> omega), ck_y (by omega), ck_y (by omega), gi_nat _ _ _ hin.1, gi_nat _ _ _ hin.2]
      rw [List.drop_eq_getElem_cons hin.1, List.drop_eq_getElem_cons hin.2, com] at hcom
      by_cases heq : ahead[i] = e.Key[i]
      · rw [if_pos heq] at hcom
        rw [if_y (by simp [heq]), wI (by omega)]
        exact lay_L0 hz he hb (k - 1) m (i + 1) (by omega) (by omega) (by omega) (by omega)
      · rw [if_neg heq] at hcom
        rw [if_n (by simp [heq]), show i = com ahead e.Key by omega]
        exact lay_J1 hz he hb
    · rw [if_n (by simp [mn]; split <;> omega)]
      have : com (ahead.drop i) (e.Key.drop i) = 0 := by
        have h1 := com_le (ahead.drop i) (e.Key.drop i)
        simp at h1
        omega
      rw [show i = com ahead e.Key by omega]
      exact lay_J1 hz he hb
theorem lay_f {z : Nat} (hz : 16777216 ≤ z) {b ahead : List Int} {e : api_Entry} (he : fitS e) (hb : b.length ≤ 16777216) : sstable_lay.f z b ahead e = some (b ++ layS ahead e) := by
  have := he.2.2.1
  exact lay_L0 hz he hb e.Key.length z 0 (by omega) (by omega) (by omega) (by simp)

/-! ### the builder -/
theorem frame_f {z : Nat} (hz : 16777216 ≤ z) (w : sstable_builder) (kind : Int) {body : List Int} (hb : body.length ≤ 2097152) (ho : w.out.length ≤ 16777216) :
    sstable_builder_frame.f z w kind body = some ⟨w.out ++ frm kind body, w.body, w.index, w.many, w.blocks, w.last⟩ := by
  unfold sstable_builder_frame.f
  have h10 := num_len10 (n := body.length) (by omega)
  rw [Frame_f hz _ hb, bd_some, ck_y (by rw [frm_len]; omega)]
/-- what the index has of a block -/
def idx (frm_ : Nat) (len : Nat) (many : Int) (last : List Int) : List Int := num frm_ ++ num len ++ num many.toNat ++ txt last
def closeS (w : sstable_builder) : sstable_builder := ⟨w.out ++ frm 68 w.body, [], w.index ++ idx w.out.length (frm 68 w.body).length w.many w.last, 0, w.blocks + 1, w.last⟩
/-- a builder of moderate size -/
structure Mod (w : sstable_builder) : Prop where
  out : w.out.length ≤ 8388608
  body : w.body.length ≤ 70000
  index : w.index.length ≤ 67108864
  many : 0 ≤ w.many ∧ w.many ≤ 65536
  blocks : 0 ≤ w.blocks ∧ w.blocks ≤ 65536
  last : w.last.length ≤ 256
theorem idx_len {a b : Nat} {m : Int} {l : List Int} (ha : a ≤ 16777216) (hb : b ≤ 16777216) (hm : 0 ≤ m ∧ m ≤ 65536) (hl : l.length ≤ 256) : (idx a b m l).length ≤ 300 := by
  have a := num_lenp 4 a (by omega) (by omega)
  have b := num_lenp 4 b (by omega) (by omega)
  have c := num_lenp 3 m.toNat (by omega) (by omega)
  have d := num_lenp 2 l.length (by omega) (by omega)
  simp [idx, txt]
  omega
theorem close_f {z : Nat} (hz : 16777216 ≤ z) {w : sstable_builder} (h : Mod w) : sstable_builder_close.f z w = some (closeS w) := by
  obtain ⟨h1, h2, h3, h4, h5, h6⟩ := h
  have h10 := num_lenp 3 w.body.length (by omega) (by omega)
  have hF := frm_len 68 w.body
  unfold sstable_builder_close.f
  rw [frame_f hz w 68 (by omega) (by omega), bd_some]
  obtain ⟨n, rfl⟩ : ∃ n, z = n + 4 := ⟨z - 4, by omega⟩
  have hw : wr .i64 (((w.out ++ frm 68 w.body).length : Int) - (w.out.length : Int)) = ((frm 68 w.body).length : Int) := by rw [wI (by simp; omega)]; simp; omega
  have a := num_lenp 4 w.out.length (by omega) (by omega)
  have b := num_lenp 4 (frm 68 w.body).length (by omega) (by omega)
  have c := num_lenp 3 w.many.toNat (by omega) (by omega)
  have d := num_lenp 2 w.last.length (by omega) (by omega)
  have g0 : ∀ (a b c : Int), gi (0 : Int) [a, b, c] 0 = a := fun _ _ _ => rfl
  have g1 : ∀ (a b c : Int), gi (0 : Int) [a, b, c] (0 + 1) = b := fun _ _ _ => rfl
  have g2 : ∀ (a b c : Int), gi (0 : Int) [a, b, c] (0 + 1 + 1) = c := fun _ _ _ => rfl
  rw [sstable_builder_close.L0, if_y (by decide), ck_y (by simp), g0, wU (by omega), Number_f (by omega) (by omega), bd_some, Int.toNat_natCast, ck_y (by dsimp only; omega), wI (by omega)]
  rw [sstable_builder_close.L0, if_y (by decide), ck_y (by simp), g1]
  dsimp only
  rw [hw, wU (by omega), Number_f (by omega) (by omega), bd_some, Int.toNat_natCast, ck_y (by simp; omega), wI (by omega)]
  rw [sstable_builder_close.L0, if_y (by decide), ck_y (by simp), g2]
  dsimp only
  rw [wU (by omega), Number_f (by omega) (by omega), bd_some, ck_y (by simp; omega), wI (by omega)]
  rw [sstable_builder_close.L0, if_n (by decide)]
  dsimp only
  rw [Text_f (by omega) (by omega), bd_some, ck_y (by simp [txt]; omega), wI (by omega)]
  simp [closeS, idx]
def addS (w : sstable_builder) (e : api_Entry) (bb : Int) : sstable_builder :=
  if w.many > 0 then if ((w.body ++ layS w.last e).length : Int) ≤ bb then ⟨w.out, w.body ++ layS w.last e, w.index, w.many + 1, w.blocks, e.Key⟩
    else ⟨(closeS w).out, layS [] e, (closeS w).index, 1, (closeS w).blocks, e.Key⟩
  else ⟨w.out, layS [] e, w.index, 1, w.blocks, e.Key⟩
theorem add_f {z : Nat} (hz : 16777216 ≤ z) {w : sstable_builder} (h : Mod w) {e : api_Entry} (he : fitS e) {bb : Int} : sstable_builder_add.f z w e bb = some (addS w e bb) := by
  have hb := h.body
  have hm := h.many
  unfold sstable_builder_add.f addS slices_Clip_byte_ro.f
  by_cases h1 : w.many > 0
  · rw [if_y (by simp; omega), if_pos h1, bd_some, lay_f hz he (by omega), bd_some]
    by_cases h2 : ((w.body ++ layS w.last e).length : Int) ≤ bb
    · rw [if_y (by simpa using h2), if_pos h2, wI (by omega)]
    · rw [if_n (by simpa using h2), if_neg h2, close_f hz h, bd_some]
      unfold sstable_builder_add.J0
      rw [lay_f hz he (by simp), bd_some]
      rfl
  · rw [if_n (by simp; omega), if_neg h1]
    unfold sstable_builder_add.J0
    rw [lay_f hz he (by simp), bd_some]
    rfl
theorem Equal_f {xs ys : List Int} (hx : Bys xs) (hy : Bys ys) : bytes_Equal.f xs ys = some (decide (xs = ys)) := by
  unfold bytes_Equal.f
  rw [bstr_inj hx hy]
end Go.Proofs.Ytghpokmkhlmgcaa

namespace Go.Proofs.Ytghpokmkhlmgcaa
open Go Go.Proofs.Ytghpokmkhlmgcaa.X
set_option linter.unusedVariables false

/-! ### filters -/
def hashS (xs : List Int) : Int := xs.foldl (fun h x => wr .u64 ((bXor .u64 h (wr .u64 x)) * 1099511628211)) 14695981039346656037
theorem Hash_L0 (z : Nat) (xs : List Int) (hx : xs.length ≤ 16777215) : ∀ (k m i : Nat) (h : Int), xs.length - i = k → i ≤ xs.length → k < m →
    bloom_Hash.L0 z xs m h (i : Int) = some ((xs.drop i).foldl (fun h x => wr .u64 ((bXor .u64 h (wr .u64 x)) * 1099511628211)) h)
  | k, 0, _, _, _, _, h => by omega
  | 0, m + 1, i, c, hk, hi, _ => by
    rw [bloom_Hash.L0, if_n (by simp; omega), List.drop_eq_nil_of_le (by omega)]
    rfl
  | k + 1, m + 1, i, c, hk, hi, hm => by
    rw [bloom_Hash.L0, if_y (by simp; omega), ck_y (by omega), gi_nat _ _ _ (by omega), wI (by omega), List.drop_eq_getElem_cons (by omega)]
    exact Hash_L0 z xs hx k m (i + 1) _ (by omega) (by omega) (by omega)
theorem Hash_f {z : Nat} (hz : 16777216 ≤ z) {xs : List Int} (hx : xs.length ≤ 16777215) : bloom_Hash.f z xs = some (hashS xs) :=
  Hash_L0 z xs hx xs.length z 0 _ (by omega) (by omega) (by omega)
theorem wrU_in (x : Int) : 0 ≤ wr .u64 x ∧ wr .u64 x ≤ 18446744073709551615 := by rw [wU']; omega
theorem hash_in (xs : List Int) : 0 ≤ hashS xs ∧ hashS xs ≤ 18446744073709551615 := by
  have : ∀ (xs : List Int) (h : Int), 0 ≤ h ∧ h ≤ 18446744073709551615 → 0 ≤ xs.foldl (fun h x => wr .u64 ((bXor .u64 h (wr .u64 x)) * 1099511628211)) h ∧ xs.foldl (fun h x => wr .u64 ((bXor .u64 h (wr .u64 x)) * 1099511628211)) h ≤ 18446744073709551615 := by
    intro xs
    induction xs with
    | nil => intro h hh; exact hh
    | cons x xs ih => intro h hh; exact ih _ (wrU_in _)
  exact this xs _ (by omega)
def stepS (h : Int) : Int := bOr .u64 (bOr .u64 (sShl .u64 h 31) (sShr .u64 h 33)) 1
theorem rot_f (h : Int) : bits_RotateLeft64.f h 31 = some (bOr .u64 (sShl .u64 h 31) (sShr .u64 h 33)) := by
  unfold bits_RotateLeft64.f
  rw [show bAnd .u64 (wr .u64 31) 63 = 31 by decide +kernel, show wr .u64 (64 - 31) = 33 by decide +kernel, ck_y (by decide), ck_y (by decide)]
def setb (b : List Int) (n : Int) : List Int := b.set (1 + n / 8).toNat (bOr .u8 (gi 0 b (1 + n / 8)) (sShl .u8 1 (n % 8)))
def eachS (m step : Int) : Nat → Int → List Int → List Int
  | 0, _, b => b
  | k + 1, h, b => eachS m step k (wr .u64 (h + step)) (setb b (h % m))
theorem setb_len (b : List Int) (n : Int) : (setb b n).length = b.length := by simp [setb]
theorem eachS_len (m step : Int) : ∀ (k : Nat) (h : Int) (b : List Int), (eachS m step k h b).length = b.length
  | 0, _, _ => rfl
  | k + 1, h, b => by rw [eachS, eachS_len, setb_len]
theorem bor8_in (x y : Int) : 0 ≤ bOr .u8 x y ∧ bOr .u8 x y < 256 := by
  show 0 ≤ wr .u8 _ ∧ wr .u8 _ < 256
  rw [wB]; omega
theorem X.Bys.set {xs : List Int} (h : Bys xs) (i : Nat) {v : Int} (hv : 0 ≤ v ∧ v < 256) : Bys (xs.set i v) := fun y hy => by
  rcases List.mem_or_eq_of_mem_set hy with q | rfl
  · exact h y q
  · exact hv
theorem eachS_bys (m step : Int) : ∀ (k : Nat) (h : Int) (b : List Int), Bys b → Bys (eachS m step k h b)
  | 0, _, _, hb => hb
  | k + 1, h, b, hb => eachS_bys m step k _ _ (hb.set _ (bor8_in _ _))
theorem each_L0 (z : Nat) {p m x14 : Int} (hp : 0 ≤ p ∧ p ≤ 100) (hm : 0 < m ∧ m ≤ 4611686018427387904 ∧ m % 8 = 0) : ∀ (k n : Nat) (i : Nat) (h : Int) (b : List Int), p.toNat - i = k → i ≤ p.toNat → k < n → 0 ≤ h ∧ h ≤ 18446744073709551615 → (b.length : Int) = 1 + m / 8 →
    bloom_each_at82.L0 z p m x14 n h (i : Int) b = some (true, eachS m (bOr .u64 x14 1) k h b)
  | k, 0, _, _, _, _, _, h, _, _ => by omega
  | 0, n + 1, i, h, b, hk, hi, _, hh, hb => by
    rw [bloom_each_at82.L0, if_n (by simp; omega)]
    rfl
  | k + 1, n + 1, i, h, b, hk, hi, hn, hh, hb => by
    have h1 : 0 ≤ h % m ∧ h % m < m := ⟨Int.emod_nonneg _ (by omega), Int.emod_lt_of_pos _ (by omega)⟩
    rw [bloom_each_at82.L0, if_y (by simp; omega), ck_y (by omega), tmod_nn hh.1, tmod_nn h1.1, tdiv_nn h1.1, ck_y (by omega), wU (by omega), wI (by omega), wI (x := (i : Int) + 1) (by omega)]
    unfold bloom_Make_c1.f
    rw [wI (by omega), ck_y (by omega), bd_some]
    refine (if_n rfl).trans ?_
    exact each_L0 z hp hm k n (i + 1) _ _ (by omega) (by omega) (by omega) (wrU_in _) (by simp; omega)
def keyS (p m : Int) (b key : List Int) : List Int := eachS m (stepS (hashS key)) p.toNat (hashS key) b
theorem each_f {z : Nat} (hz : 16777216 ≤ z) {key : List Int} (hk : key.length ≤ 16777215) {p m : Int} (hp : 0 ≤ p ∧ p ≤ 100) (hm : 0 < m ∧ m ≤ 4611686018427387904 ∧ m % 8 = 0) {b : List Int} (hb : (b.length : Int) = 1 + m / 8) :
    bloom_each_at82.f z key p m b = some (true, keyS p m b key) := by
  unfold bloom_each_at82.f
  rw [Hash_f hz hk, bd_some, rot_f, bd_some]
  exact each_L0 z hp hm _ z 0 _ b rfl (by omega) (by omega) (hash_in _) hb
def bitsS (n : Nat) (pk : Int) : Int := mx 1 (((n : Int) * pk + 63) / 64) * 64
def probS (pk : Int) : Int := mx 1 (pk * 69 / 100)
def mkS (keys : List (List Int)) (pk : Int) : List Int :=
  keys.foldl (keyS (probS pk) (bitsS keys.length pk)) ((List.replicate (1 + bitsS keys.length pk / 8).toNat (0 : Int)).set 0 (probS pk))
theorem bits_in {n : Nat} {pk : Int} (hn : n ≤ 65536) (h : 1 ≤ pk ∧ pk ≤ 30) : 64 ≤ bitsS n pk ∧ bitsS n pk ≤ 2000000 ∧ bitsS n pk % 8 = 0 := by
  have h1 : (n : Int) * pk ≤ 65536 * 30 := Int.mul_le_mul (by omega) h.2 (by omega) (by omega)
  have h2 : 0 ≤ (n : Int) * pk := Int.mul_nonneg (by omega) (by omega)
  unfold bitsS mx
  split <;> omega
theorem prob_in {pk : Int} (h : 1 ≤ pk ∧ pk ≤ 30) : 1 ≤ probS pk ∧ probS pk ≤ 30 := by
  unfold probS mx
  split <;> omega
theorem keyS_len (p m : Int) (b key : List Int) : (keyS p m b key).length = b.length := eachS_len ..
theorem foldK_len (p m : Int) : ∀ (keys : List (List Int)) (b : List Int), (keys.foldl (keyS p m) b).length = b.length
  | [], _ => rfl
  | k :: ks, b => by rw [List.foldl_cons, foldK_len, keyS_len]
theorem foldK_bys (p m : Int) : ∀ (keys : List (List Int)) (b : List Int), Bys b → Bys (keys.foldl (keyS p m) b)
  | [], _, h => h
  | k :: ks, b, h => foldK_bys p m ks _ (eachS_bys _ _ _ _ _ h)
theorem mkS_len {keys : List (List Int)} {pk : Int} (hn : keys.length ≤ 65536) (h : 1 ≤ pk ∧ pk ≤ 30) : (mkS keys pk).length ≤ 260000 := by
  have := bits_in hn h
  unfold mkS
  rw [foldK_len]
  simp
  omega
theorem mkS_bys {keys : List (List Int)} {pk : Int} (h : 1 ≤ pk ∧ pk ≤ 30) : Bys (mkS keys pk) := by
  have := prob_in h
  exact foldK_bys _ _ _ _ (Bys.set (fun x hx => by rw [(List.mem_replicate.1 hx).2]; omega) _ (by omega))
theorem Make_L1 {z : Nat} (hz : 16777216 ≤ z) {keys : List (List Int)} {pk : Int} (hn : keys.length ≤ 65536) (hp : 1 ≤ pk ∧ pk ≤ 30) (hk : ∀ k ∈ keys, k.length ≤ 16777215) : ∀ (k m i : Nat) (b : List Int), keys.length - i = k → i ≤ keys.length → k < m → (b.length : Int) = 1 + bitsS keys.length pk / 8 →
    bloom_Make.L1 z keys pk m (i : Int) b = some ((keys.drop i).foldl (keyS (probS pk) (bitsS keys.length pk)) b, 0)
  | k, 0, _, _, _, _, h, _ => by omega
  | 0, m + 1, i, c, hk, hi, _, _ => by
    rw [bloom_Make.L1, if_n (by simp; omega), List.drop_eq_nil_of_le (by omega)]
    rfl
  | k + 1, m + 1, i, b, hk', hi, hm, hb => by
    have h1 : (keys.length : Int) * pk ≤ 65536 * 30 := Int.mul_le_mul (by omega) hp.2 (by omega) (by omega)
    have h2 : 0 ≤ (keys.length : Int) * pk := Int.mul_nonneg (by omega) (by omega)
    have hbi := bits_in hn hp
    have hpi := prob_in hp
    rw [bloom_Make.L1, if_y (by simp; omega), ck_y (by omega), gi_nat _ _ _ (by omega), wI (x := (keys.length : Int) * pk) (by omega), wI (x := (keys.length : Int) * pk + 63) (by omega), tdiv_nn (a := (keys.length : Int) * pk + 63) (by omega), wI (x := ((keys.length : Int) * pk + 63) / 64) (by omega),
      wI (x := pk * 69) (by omega), tdiv_nn (a := pk * 69) (by omega), wI (x := pk * 69 / 100) (by omega)]
    rw [show mx 1 (((keys.length : Int) * pk + 63) / 64) * 64 = bitsS keys.length pk from rfl, show mx 1 (pk * 69 / 100) = probS pk from rfl, wI (by omega), wU (by omega),
      each_f hz (hk _ (List.getElem_mem _)) (by omega) (by omega) hb, bd_some, wI (by omega), List.drop_eq_getElem_cons (by omega), List.foldl_cons]
    exact Make_L1 hz hn hp hk k m (i + 1) _ (by omega) (by omega) (by omega) (by rw [keyS_len]; exact hb)
theorem Make_f {z : Nat} (hz : 16777216 ≤ z) {keys : List (List Int)} {pk : Int} (hn : keys.length ≤ 65536) (hp : 1 ≤ pk ∧ pk ≤ 30) (hk : ∀ k ∈ keys, k.length ≤ 16777215) : bloom_Make.f z keys pk = some (mkS keys pk, 0) := by
  have h1 : (keys.length : Int) * pk ≤ 65536 * 30 := Int.mul_le_mul (by omega) hp.2 (by omega) (by omega)
  have h2 : 0 ≤ (keys.length : Int) * pk := Int.mul_nonneg (by omega) (by omega)
  have hbi := bits_in hn hp
  have hpi := prob_in hp
  unfold bloom_Make.f
  rw [if_n (by simp; omega), if_n (by simp; omega), if_n (by simp; omega), wI (x := (keys.length : Int) * pk) (by omega), wI (x := (keys.length : Int) * pk + 63) (by omega), tdiv_nn (a := (keys.length : Int) * pk + 63) (by omega), wI (x := ((keys.length : Int) * pk + 63) / 64) (by omega)]
  rw [show mx 1 (((keys.length : Int) * pk + 63) / 64) * 64 = bitsS keys.length pk from rfl, wI (x := bitsS keys.length pk) (by omega), tdiv_nn (a := bitsS keys.length pk) (by omega), wI (x := bitsS keys.length pk / 8) (by omega), wI (x := 1 + bitsS keys.length pk / 8) (by omega), ck_y (by omega), ck_y (by simp; omega),
      wI (x := pk * 69) (by omega), tdiv_nn (a := pk * 69) (by omega), wI (x := pk * 69 / 100) (by omega), show mx 1 (pk * 69 / 100) = probS pk from rfl, wB, Int.emod_eq_of_lt (by omega) (by omega)]
  have := Make_L1 hz hn hp hk keys.length z 0 ((List.replicate (1 + bitsS keys.length pk / 8).toNat (0 : Int)).set 0 (probS pk)) (by omega) (by omega) (by omega) (by simp; omega)
  exact this

/-! ### numbers with the highest byte ahead -/
def highS (n : Int) (s : Nat) : List Int := (List.range s).map fun i => n / 2 ^ (8 * (s - 1 - i)) % 256
theorem high_L0 (z : Nat) {n : Int} (hn : 0 ≤ n) (s : Nat) (hs : s ≤ 8) (m : Nat) (i : Nat) (xs : List Int) (hi : i < s) (hx : xs.length = s) :
    sstable_high.L0 z n (s : Int) (m + 1) xs (i : Int) = sstable_high.L0 z n (s : Int) m (xs.set i (n / 2 ^ (8 * (s - 1 - i)) % 256)) ((i + 1 : Nat) : Int) := by
  rw [sstable_high.L0, if_y (by simp; omega), wI (x := (s : Int) - 1) (by omega), wI (x := (s : Int) - 1 - i) (by omega), wI (x := 8 * ((s : Int) - 1 - i)) (by omega), ck_y (by omega), ck_y (by omega),
    show (8 * ((s : Int) - 1 - i)) = ((8 * (s - 1 - i) : Nat) : Int) by omega, shr_d _ _ _ (by show _ ≤ 64; omega), wB, wI (by omega)]
  rfl
theorem high_8 {z : Nat} (hz : 16777216 ≤ z) {n : Int} (hn : 0 ≤ n) : sstable_high.f z n 8 = some (highS n 8) := by
  obtain ⟨m, rfl⟩ : ∃ m, z = m + 9 := ⟨z - 9, by omega⟩
  unfold sstable_high.f
  rw [ck_y (by decide)]
  have h := fun k i xs => high_L0 (m + 9) hn 8 (by omega) k i xs
  have e := fun (i : Nat) (xs : List Int) k (a : i < 8) (b : xs.length = 8) => h k i xs a b
  show sstable_high.L0 (m + 9) n ((8 : Nat) : Int) (m + 9) (List.replicate 8 0) ((0 : Nat) : Int) = _
  rw [e 0 _ _ (by omega) (by simp), e 1 _ _ (by omega) (by simp), e 2 _ _ (by omega) (by simp), e 3 _ _ (by omega) (by simp), e 4 _ _ (by omega) (by simp), e 5 _ _ (by omega) (by simp), e 6 _ _ (by omega) (by simp), e 7 _ _ (by omega) (by simp)]
  rw [sstable_high.L0, if_n (by simp)]
  rfl
theorem high_4 {z : Nat} (hz : 16777216 ≤ z) {n : Int} (hn : 0 ≤ n) : sstable_high.f z n 4 = some (highS n 4) := by
  obtain ⟨m, rfl⟩ : ∃ m, z = m + 5 := ⟨z - 5, by omega⟩
  unfold sstable_high.f
  rw [ck_y (by decide)]
  have h := fun k i xs => high_L0 (m + 5) hn 4 (by omega) k i xs
  have e := fun (i : Nat) (xs : List Int) k (a : i < 4) (b : xs.length = 4) => h k i xs a b
  show sstable_high.L0 (m + 5) n ((4 : Nat) : Int) (m + 5) (List.replicate 4 0) ((0 : Nat) : Int) = _
  rw [e 0 _ _ (by omega) (by simp), e 1 _ _ (by omega) (by simp), e 2 _ _ (by omega) (by simp), e 3 _ _ (by omega) (by simp)]
  rw [sstable_high.L0, if_n (by simp)]
  rfl
theorem highS_len (n : Int) (s : Nat) : (highS n s).length = s := by simp [highS]
theorem highS_bys (n : Int) (s : Nat) : Bys (highS n s) := fun x hx => by
  obtain ⟨i, _, rfl⟩ := List.mem_map.1 hx
  omega
end Go.Proofs.Ytghpokmkhlmgcaa

namespace Go.Proofs.Ytghpokmkhlmgcaa
open Go Go.Proofs.Ytghpokmkhlmgcaa.X
set_option linter.unusedVariables false

/-! ### the end of a table -/
def tail36 (fa ia cnt bb pk : Int) : List Int := highS fa 8 ++ highS ia 8 ++ highS cnt 8 ++ highS bb 4 ++ highS pk 4 ++ [67, 79, 82, 77]
def tailS (fa ia cnt bb pk : Int) : List Int := tail36 fa ia cnt bb pk ++ le4 (~~~(crc 4294967295#32 (tail36 fa ia cnt bb pk)))
theorem tail36_len (fa ia cnt bb pk : Int) : (tail36 fa ia cnt bb pk).length = 36 := by simp [tail36, highS_len]
theorem tailS_len (fa ia cnt bb pk : Int) : (tailS fa ia cnt bb pk).length = 40 := by simp [tailS, tail36_len, le4]
def idxS (w : sstable_builder) : List Int := num w.blocks.toNat ++ w.index
def outS (w : sstable_builder) (cnt : Int) (filter : List Int) (bb pk : Int) : List Int :=
  w.out ++ frm 70 filter ++ frm 73 (idxS w) ++ tailS w.out.length (w.out ++ frm 70 filter).length cnt bb pk
def endS (w : sstable_builder) (cnt : Int) (keys : List (List Int)) (bb pk : Int) : List Int × Int :=
  if (idxS w).length > 2097152 then ([], 43) else if (outS w cnt (mkS keys pk) bb pk).length > 4194304 then ([], 43) else (outS w cnt (mkS keys pk) bb pk, 0)
theorem end_f {z : Nat} (hz : 16777216 ≤ z) {w : sstable_builder} (ho : w.out.length ≤ 8388608) (hi : w.index.length ≤ 67108864) (hbl : 0 ≤ w.blocks ∧ w.blocks ≤ 100000) {cnt : Int} (hc : 0 ≤ cnt) {keys : List (List Int)} (hn : keys.length ≤ 65536) (hk : ∀ k ∈ keys, k.length ≤ 16777215)
    {bb pk : Int} (hb : 0 ≤ bb) (hp : 1 ≤ pk ∧ pk ≤ 30) : sstable_builder_end.f z w cnt keys bb pk = some (endS w cnt keys bb pk) := by
  have hm := mkS_len hn hp
  have a := num_lenp 3 w.blocks.toNat (by omega) (by omega)
  have a' := num_len w.blocks.toNat
  have b := num_lenp 3 (mkS keys pk).length (by omega) (by omega)
  have hF := frm_len 70 (mkS keys pk)
  unfold sstable_builder_end.f endS
  rw [Make_f hz hn hp hk, bd_some, frame_f hz w 70 (by dsimp only; omega) (by omega), bd_some]
  dsimp only
  rw [wU (by omega), Number_f hz (by omega), bd_some, ck_y (by omega), show num w.blocks.toNat ++ w.index = idxS w from rfl]
  by_cases h1 : (idxS w).length > 2097152
  · rw [if_y (by simp; omega), if_pos h1]
  · rw [if_n (by simp; omega), if_neg h1]
    have c := num_lenp 4 (idxS w).length (by omega) (by omega)
    have hF' := frm_len 73 (idxS w)
    rw [frame_f hz _ 73 (by omega) (by simp; omega), bd_some]
    dsimp only
    rw [high_8 hz (by omega), bd_some, high_8 hz (by omega), bd_some, high_8 hz (by omega), bd_some, high_4 hz (by omega), bd_some, high_4 hz (by omega), bd_some,
      Concat_f hz (by simp) (by simp [highS_len]), bd_some]
    rw [show [highS (w.out.length : Int) 8, highS ((w.out ++ frm 70 (mkS keys pk)).length : Int) 8, highS cnt 8, highS bb 4, highS pk 4, [67, 79, 82, 77]].flatten = tail36 w.out.length (w.out ++ frm 70 (mkS keys pk)).length cnt bb pk by simp [tail36]]
    have ht := tail36_len w.out.length (w.out ++ frm 70 (mkS keys pk)).length cnt bb pk
    rw [Sum_f hz (by omega), bd_some, wB, wB, wB, wB, show (8 : Int) = ((8 : Nat) : Int) from rfl, show (16 : Int) = ((16 : Nat) : Int) from rfl, show (24 : Int) = ((24 : Nat) : Int) from rfl, shr_d _ _ _ (by decide), shr_d _ _ _ (by decide), shr_d _ _ _ (by decide)]
    rw [ck_y (by simp [tail36_len]), ck_y (by simp [tail36_len]; omega)]
    have e : (w.out ++ frm 70 (mkS keys pk) ++ frm 73 (idxS w) ++ (tail36 w.out.length (w.out ++ frm 70 (mkS keys pk)).length cnt bb pk ++ [iv (~~~(crc 4294967295#32 (tail36 w.out.length (w.out ++ frm 70 (mkS keys pk)).length cnt bb pk))) % 256, iv (~~~(crc 4294967295#32 (tail36 w.out.length (w.out ++ frm 70 (mkS keys pk)).length cnt bb pk))) / 2 ^ 8 % 256, iv (~~~(crc 4294967295#32 (tail36 w.out.length (w.out ++ frm 70 (mkS keys pk)).length cnt bb pk))) / 2 ^ 16 % 256, iv (~~~(crc 4294967295#32 (tail36 w.out.length (w.out ++ frm 70 (mkS keys pk)).length cnt bb pk))) / 2 ^ 24 % 256]))
      = outS w cnt (mkS keys pk) bb pk := rfl
    rw [e]
    by_cases h2 : (outS w cnt (mkS keys pk) bb pk).length > 4194304
    · rw [if_y (by simp; omega), if_pos h2]
    · rw [if_n (by simp; omega), if_neg h2]
      rfl

/-! ### Build -/
def okE (e : api_Entry) : Prop := Bys e.Key ∧ (0 ≤ e.Seq ∧ e.Seq ≤ 18446744073709551615) ∧ Bys e.Value
def bad : Option api_Entry → api_Entry → Bool
  | none, _ => false
  | some q, e => decide (ordS q e ≥ 0)
/-- what the first look over the entries finds amiss -/
def chk : Option api_Entry → List api_Entry → Option Int
  | _, [] => none
  | p, e :: r => if ¬ fitS e then some 41 else if bad p e = true then some 42 else chk (some e) r
def keyAdd (keys : List (List Int)) (k : List Int) : List (List Int) := if keys.getLast? = some k then keys else keys ++ [k]
/-- the entries one by one; none: too long -/
def run (bb : Int) : List api_Entry → List (List Int) → sstable_builder → Option (List (List Int) × sstable_builder)
  | [], keys, w => some (keys, w)
  | e :: r, keys, w => if w.out.length > 4194304 then none else run bb r (keyAdd keys e.Key) (addS w e bb)
def w0 : sstable_builder := ⟨[], [], [], 0, 0, []⟩
def buildS (l : List api_Entry) (bb pk : Int) : List Int × Int :=
  if bb < 64 ∨ bb > 65536 ∨ pk < 1 ∨ pk > 30 then ([], 1) else if l.length = 0 ∨ l.length > 65536 then ([], 40) else
  match chk none l with
  | some e => ([], e)
  | none => match run bb l [] w0 with
    | none => ([], 43)
    | some (keys, w) => endS (closeS w) l.length keys bb pk
/-- what holds of a builder behind some entries -/
structure Inv (n : Nat) (w : sstable_builder) : Prop where
  out : w.out.length ≤ 4194304 + 70100
  body : w.body.length ≤ 65900
  index : (w.index.length : Int) ≤ 300 * w.blocks
  many : 0 ≤ w.many ∧ w.many ≤ n
  blocks : 0 ≤ w.blocks ∧ w.blocks ≤ n
  last : w.last.length ≤ 256
  b1 : Bys w.out
  b2 : Bys w.body
  b3 : Bys w.index
  b4 : Bys w.last
theorem Inv.mod {n : Nat} {w : sstable_builder} (h : Inv n w) (hn : n ≤ 65536) : Mod w := ⟨by have := h.out; omega, by have := h.body; omega, by have := h.index; have := h.blocks; omega, by have := h.many; omega, by have := h.blocks; omega, h.last⟩
theorem Inv.zero : Inv 0 w0 := ⟨by simp [w0], by simp [w0], by simp [w0], by simp [w0], by simp [w0], by simp [w0], Bys.nil, Bys.nil, Bys.nil, Bys.nil⟩
theorem layS_bys {a : List Int} {e : api_Entry} (h : okE e) : Bys (layS a e) := by
  unfold layS
  refine Bys.app (Bys.app (Bys.app (Bys.app (Bys.app (Bys.app (num_bys _) (num_bys _)) (num_bys _)) (Bys.cons ?_ Bys.nil)) (num_bys _)) (h.1.drop _)) h.2.2
  split <;> omega
theorem idx_bys {a b : Nat} {m : Int} {l : List Int} (h : Bys l) : Bys (idx a b m l) := Bys.app (Bys.app (Bys.app (num_bys _) (num_bys _)) (num_bys _)) (txt_bys h)
theorem Inv.add {n : Nat} {w : sstable_builder} (h : Inv n w) (hn : n ≤ 65535) (ho : w.out.length ≤ 4194304) {e : api_Entry} (he : fitS e) (hk : okE e) {bb : Int} (hb : bb ≤ 65536) : Inv (n + 1) (addS w e bb) := by
  obtain ⟨h1, h2, h3, h4, h5, h6, b1, b2, b3, b4⟩ := h
  have hl := fun a => layS_len (ahead := a) he
  have hkl := he.2.2.1
  unfold addS
  split
  · split
    · rename_i hh
      refine ⟨by dsimp only; omega, ?_, by dsimp only; omega, by dsimp only; omega, by dsimp only; omega, hkl, b1, Bys.app b2 (layS_bys hk), b3, hk.1⟩
      dsimp only
      have := hl w.last
      omega
    · have hi := idx_len (a := w.out.length) (b := (frm 68 w.body).length) (m := w.many) (l := w.last) (by omega) (by rw [frm_len]; have := num_lenp 3 w.body.length (by omega) (by omega); omega) (by omega) h6
      have hf := frm_len 68 w.body
      have hf' := num_lenp 3 w.body.length (by omega) (by omega)
      refine ⟨?_, (hl []).1, ?_, by dsimp only; omega, ?_, hkl, Bys.app b1 (frm_bys (by omega) b2), layS_bys hk, Bys.app b3 (idx_bys b4), hk.1⟩
      · simp only [closeS, List.length_append]; omega
      · simp only [closeS, List.length_append]; omega
      · simp only [closeS]; omega
  · exact ⟨by dsimp only; omega, (hl []).1, by dsimp only; omega, by dsimp only; omega, by dsimp only; omega, hkl, b1, layS_bys hk, b3, hk.1⟩
theorem keyAdd_len (keys : List (List Int)) (k : List Int) : (keyAdd keys k).length ≤ keys.length + 1 := by unfold keyAdd; split <;> simp
def endR (l : List api_Entry) (bb pk : Int) : Option (List (List Int) × sstable_builder) → List Int × Int
  | none => ([], 43)
  | some (keys, w) => endS (closeS w) l.length keys bb pk
theorem Build_L3 {z : Nat} (hz : 16777216 ≤ z) {l : List api_Entry} {bb pk : Int} (hbb : 64 ≤ bb ∧ bb ≤ 65536) (hp : 1 ≤ pk ∧ pk ≤ 30) (hl : l.length ≤ 65536) (hf : ∀ e ∈ l, fitS e ∧ okE e) : ∀ (k m i : Nat) (keys : List (List Int)) (w : sstable_builder),
    l.length - i = k → i ≤ l.length → k < m → Inv i w → keys.length ≤ i → (∀ k ∈ keys, k.length ≤ 256 ∧ Bys k) →
    sstable_Build.L3 z l bb pk m keys (i : Int) w.out w.body w.index w.many w.blocks w.last = some (endR l bb pk (run bb (l.drop i) keys w))
  | k, 0, _, _, _, _, _, h, _, _, _ => by omega
  | 0, m + 1, i, keys, w, hk, hi, _, hw, hkl, hkk => by
    rw [sstable_Build.L3, if_n (by simp; omega), close_f hz (hw.mod (by omega)), bd_some]
    have hM := hw.mod (by omega)
    have hf := frm_len 68 w.body
    have hb' := hw.body
    have hf' := num_lenp 3 w.body.length (by omega) (by omega)
    have hi' := idx_len (a := w.out.length) (b := (frm 68 w.body).length) (m := w.many) (l := w.last) (by have := hw.out; omega) (by omega) hM.many hw.last
    rw [end_f hz (by have := hw.out; simp only [closeS, List.length_append]; omega) (by have := hw.index; have := hw.blocks; simp only [closeS, List.length_append]; omega) (by have := hw.blocks; simp only [closeS]; omega) (by omega) (by omega) (fun k hk => by have := (hkk k hk).1; omega) (by omega) hp, bd_some,
      List.drop_eq_nil_of_le (by omega)]
    rfl
  | k + 1, m + 1, i, keys, w, hk, hi, hm, hw, hkl, hkk => by
    have hmem : l[i]'(by omega) ∈ l := List.getElem_mem _
    rw [sstable_Build.L3, if_y (by simp; omega), ck_y (by omega), gi_nat _ _ _ (by omega), List.drop_eq_getElem_cons (by omega), run]
    by_cases ho : w.out.length > 4194304
    · rw [if_y (by simp; omega), if_pos ho]; rfl
    · rw [if_n (by simp; omega), if_neg ho]
      have hadd := add_f hz (w := w) (hw.mod (by omega)) (hf _ hmem).1 (bb := bb)
      rw [show (⟨w.out, w.body, w.index, w.many, w.blocks, w.last⟩ : sstable_builder) = w from rfl, hadd, bd_some]
      have hW := hw.add (by omega) (by omega) (hf _ hmem).1 (hf _ hmem).2 hbb.2
      have next : ∀ keys' : List (List Int), keys' = keyAdd keys (l[i]'(by omega)).Key → sstable_Build.J5 z (sstable_Build.L3 z l bb pk m) l bb pk (i : Int) (addS w (l[i]'(by omega)) bb) keys' = some (endR l bb pk (run bb (l.drop (i + 1)) (keyAdd keys (l[i]'(by omega)).Key) (addS w (l[i]'(by omega)) bb))) := by
        intro keys' hk'
        unfold sstable_Build.J5
        rw [wI (by omega), hk']
        refine Build_L3 hz hbb hp hl hf k m (i + 1) _ _ (by omega) (by omega) (by omega) hW (by have := keyAdd_len keys (l[i]'(by omega)).Key; omega) ?_
        intro x hx
        unfold keyAdd at hx
        split at hx
        · exact hkk x hx
        · rcases List.mem_append.1 hx with q | q
          · exact hkk x q
          · rw [List.mem_singleton.1 q]
            exact ⟨(hf _ hmem).1.2.2.1, (hf _ hmem).2.1⟩
      have next4 : keyAdd keys (l[i]'(by omega)).Key = keys ++ [(l[i]'(by omega)).Key] → sstable_Build.J4 z (sstable_Build.L3 z l bb pk m) l bb pk keys (i : Int) (addS w (l[i]'(by omega)) bb) = some (endR l bb pk (run bb (l.drop (i + 1)) (keyAdd keys (l[i]'(by omega)).Key) (addS w (l[i]'(by omega)) bb))) := by
        intro hk'
        unfold sstable_Build.J4
        rw [gi_nat _ _ _ (by omega), ck_y (by simp; omega)]
        exact next _ hk'.symm
      by_cases h0 : keys.length = 0
      · rw [if_y (by simp [h0])]
        exact next4 (by rw [List.eq_nil_of_length_eq_zero h0]; rfl)
      · rw [if_n (by rw [beq_eq_false_iff_ne]; omega), wI (by omega), ck_y (by omega)]
        rw [show ((keys.length : Int) - 1) = ((keys.length - 1 : Nat) : Int) by omega, gi_nat _ _ _ (by omega)]
        have hlast : keys.getLast? = some (keys[keys.length - 1]'(by omega)) := by rw [List.getLast?_eq_getElem?]; exact List.getElem?_eq_getElem _
        rw [Equal_f (hkk _ (List.getElem_mem _)).2 (hf _ hmem).2.1, bd_some]
        by_cases he : keys[keys.length - 1]'(by omega) = (l[i]'(by omega)).Key
        · rw [if_n (by simp [he])]
          exact next _ (by unfold keyAdd; rw [if_pos (by rw [hlast, he])])
        · rw [if_y (by simp [he])]
          exact next4 (by unfold keyAdd; rw [if_neg (by rw [hlast]; simpa using he)])
theorem chk_fit : ∀ {l : List api_Entry} {p : Option api_Entry}, chk p l = none → ∀ e ∈ l, fitS e
  | [], _, _, _, h => by cases h
  | e :: r, p, h, x, hx => by
    unfold chk at h
    split at h
    · cases h
    · rename_i hf
      have hf' : fitS e := by simpa using hf
      rcases List.mem_cons.1 hx with rfl | hx
      · exact hf'
      · split at h
        · cases h
        · exact chk_fit h x hx
def bigS (l : List api_Entry) (bb pk : Int) (o : Option Int) : List Int × Int := match o with | some e => ([], e) | none => endR l bb pk (run bb l [] w0)
theorem Build_L2 {z : Nat} (hz : 16777216 ≤ z) {l : List api_Entry} {bb pk : Int} (hbb : 64 ≤ bb ∧ bb ≤ 65536) (hp : 1 ≤ pk ∧ pk ≤ 30) (hl : l.length ≤ 65536) (hf : ∀ e ∈ l, okE e) : ∀ (k m i : Nat),
    l.length - i = k → i ≤ l.length → k < m → (∀ e ∈ l.take i, fitS e) →
    sstable_Build.L2 z l bb pk m (i : Int) = some (bigS l bb pk (chk (if i = 0 then none else l[i - 1]?) (l.drop i)))
  | k, 0, _, _, _, h, _ => by omega
  | 0, m + 1, i, hk, hi, _, ht => by
    rw [sstable_Build.L2, if_n (by simp; omega), List.drop_eq_nil_of_le (by omega), chk]
    rw [List.take_of_length_le (by omega)] at ht
    exact Build_L3 hz hbb hp hl (fun e he => ⟨ht e he, hf e he⟩) l.length z 0 [] w0 (by omega) (by omega) (by omega) Inv.zero (by simp) (fun k hk => by cases hk)
  | k + 1, m + 1, i, hk, hi, hm, ht => by
    rw [sstable_Build.L2, if_y (by simp; omega), ck_y (by omega), gi_nat _ _ _ (by omega), fits_f, bd_some, List.drop_eq_getElem_cons (by omega), chk]
    by_cases hfi : fitS (l[i]'(by omega))
    · rw [if_n (by simp [hfi]), if_neg (by simp [hfi])]
      have nxt : sstable_Build.J6 z (sstable_Build.L2 z l bb pk m) l bb pk (i : Int) = some (bigS l bb pk (chk (some (l[i]'(by omega))) (l.drop (i + 1)))) := by
        unfold sstable_Build.J6
        rw [wI (by omega)]
        have := Build_L2 hz hbb hp hl hf k m (i + 1) (by omega) (by omega) (by omega) (by
          intro e he
          rw [List.take_succ_eq_append_getElem (by omega)] at he
          rcases List.mem_append.1 he with q | q
          · exact ht e q
          · rw [List.mem_singleton.1 q]; exact hfi)
        rw [if_neg (by omega), Nat.add_sub_cancel, List.getElem?_eq_getElem (by omega)] at this
        exact this
      by_cases h0 : i = 0
      · subst h0
        rw [if_n (by simp), if_pos rfl, if_neg (by simp [bad])]
        exact nxt
      · rw [if_y (by simp; omega), if_neg h0, wI (by omega), ck_y (by omega), show ((i : Int) - 1) = ((i - 1 : Nat) : Int) by omega, gi_nat _ _ _ (by omega), order_f, bd_some, List.getElem?_eq_getElem (by omega)]
        by_cases ho : ordS (l[i - 1]'(by omega)) (l[i]'(by omega)) ≥ 0
        · rw [if_y (by simpa using ho), if_pos (by simpa [bad] using ho)]; rfl
        · rw [if_n (by simpa using ho), if_neg (by simpa [bad] using ho)]; exact nxt
    · rw [if_y (by simp [hfi]), if_pos hfi]; rfl
theorem Build_f {z : Nat} (hz : 16777216 ≤ z) {l : List api_Entry} (hf : ∀ e ∈ l, okE e) (bb pk : Int) : sstable_Build.f z l bb pk = some (buildS l bb pk) := by
  unfold sstable_Build.f buildS sstable_Build.J0 sstable_Build.J1
  by_cases h1 : bb < 64
  · rw [if_y (by simpa using h1), if_pos (.inl h1)]
  · rw [if_n (by simpa using h1)]
    by_cases h2 : bb > 65536
    · rw [if_y (by simpa using h2), if_pos (.inr (.inl h2))]
    · rw [if_n (by simpa using h2)]
      by_cases h3 : pk < 1
      · rw [if_y (by simpa using h3), if_pos (.inr (.inr (.inl h3)))]
      · rw [if_n (by simpa using h3)]
        by_cases h4 : pk > 30
        · rw [if_y (by simpa using h4), if_pos (.inr (.inr (.inr h4)))]
        · rw [if_n (by simpa using h4), if_neg (by omega)]
          by_cases h5 : l.length = 0
          · rw [if_y (by simp [h5]), if_pos (.inl h5)]
          · rw [if_n (by rw [beq_eq_false_iff_ne]; omega)]
            by_cases h6 : l.length > 65536
            · rw [if_y (by simp; omega), if_pos (.inr h6)]
            · rw [if_n (by simp; omega), if_neg (by omega)]
              have := Build_L2 hz (by omega) (by omega) (by omega) hf (bb := bb) (pk := pk) l.length z 0 (by omega) (by omega) (by omega) (fun e he => by simp at he)
              rw [if_pos rfl, List.drop_zero] at this
              refine this.trans ?_
              unfold bigS
              cases chk none l with
              | some e => rfl
              | none =>
                cases run bb l [] w0 with
                | none => rfl
                | some r => rfl
end Go.Proofs.Ytghpokmkhlmgcaa

namespace Go.Proofs.Ytghpokmkhlmgcaa
open Go Go.Proofs.Ytghpokmkhlmgcaa.X
set_option linter.unusedVariables false

theorem bor64_in (x y : Int) : 0 ≤ bOr .u64 x y ∧ bOr .u64 x y ≤ 18446744073709551615 := wrU_in _
theorem TakeNumber_L0 (z : Nat) {xs : List Int} (hx : xs.length ≤ 16777215) : ∀ (k m i : Nat) (a : Int), 10 - i = k → i ≤ 10 → i ≤ xs.length → k < m →
    Ok (codec_TakeNumber.L0 z xs m a (i : Int)) fun r => r.2.2 ≠ 0 ∨ ((0 ≤ r.1 ∧ r.1 ≤ 18446744073709551615) ∧ 1 ≤ r.2.1 ∧ r.2.1 ≤ xs.length ∧ r.2.2 = 0)
  | k, 0, _, _, _, _, _, h => by omega
  | 0, m + 1, i, a, hk, hi, hl, hm => by
    rw [codec_TakeNumber.L0, if_n (by simp; omega)]
    exact Ok.some (.inl (by decide))
  | k + 1, m + 1, i, a, hk, hi, hl, hm => by
    rw [codec_TakeNumber.L0, if_y (by simp; omega)]
    refine Ok.ite (fun _ => Ok.some (.inl (by decide))) fun h1 => ?_
    rw [beq_eq_false_iff_ne] at h1
    have hil : i < xs.length := by omega
    refine Ok.ck (by omega) (Ok.ck (by rw [wI (by omega)]; omega) ?_)
    have hJ2 : Ok (codec_TakeNumber.J2 z xs a (i : Int)) fun r => r.2.2 ≠ 0 ∨ ((0 ≤ r.1 ∧ r.1 ≤ 18446744073709551615) ∧ 1 ≤ r.2.1 ∧ r.2.1 ≤ xs.length ∧ r.2.2 = 0) := by
      unfold codec_TakeNumber.J2
      rw [wI (x := (i : Int) + 1) (by omega)]
      exact Ok.some (.inr ⟨bor64_in _ _, by dsimp only; omega, by dsimp only; omega, rfl⟩)
    have hJ1 : Ok (codec_TakeNumber.J1 z xs a (i : Int)) fun r => r.2.2 ≠ 0 ∨ ((0 ≤ r.1 ∧ r.1 ≤ 18446744073709551615) ∧ 1 ≤ r.2.1 ∧ r.2.1 ≤ xs.length ∧ r.2.2 = 0) := by
      unfold codec_TakeNumber.J1
      exact Ok.ite (fun _ => Ok.ite (fun _ => Ok.some (.inl (by decide))) fun _ => hJ2) fun _ => hJ2
    refine Ok.ite (fun _ => ?_) fun _ => Ok.ite (fun _ => Ok.ite (fun _ => Ok.some (.inl (by decide))) fun _ => hJ1) fun _ => hJ1
    rw [wI (x := (i : Int) + 1) (by omega)]
    exact TakeNumber_L0 z hx k m (i + 1) _ (by omega) (by omega) (by omega) (by omega)
theorem TakeNumber_ok {z : Nat} (hz : 16777216 ≤ z) {xs : List Int} (hx : xs.length ≤ 16777215) : Ok (codec_TakeNumber.f z xs) fun r => r.2.2 ≠ 0 ∨ ((0 ≤ r.1 ∧ r.1 ≤ 18446744073709551615) ∧ 1 ≤ r.2.1 ∧ r.2.1 ≤ xs.length ∧ r.2.2 = 0) :=
  TakeNumber_L0 z hx 10 z 0 0 rfl (by omega) (by omega) (by omega)
theorem length_ok {z : Nat} (hz : 16777216 ≤ z) {xs : List Int} (hx : xs.length ≤ 16777215) {more : Int} (hm : 0 ≤ more ∧ more ≤ 100) : Ok (codec_length.f z xs more) fun r => r.2.2 ≠ 0 ∨ (0 ≤ r.1 ∧ 1 ≤ r.2.1 ∧ r.1 + r.2.1 + more ≤ xs.length ∧ r.2.2 = 0) := by
  unfold codec_length.f
  refine (TakeNumber_ok hz hx).bd fun r h => ?_
  refine Ok.ite (fun h1 => Ok.some (.inl (by simpa using h1))) fun h1 => ?_
  rw [bne_eq_false_iff_eq] at h1
  rcases h with h | ⟨h2, h3, h4, _⟩
  · exact absurd h1 h
  refine Ok.ite (fun _ => Ok.some (.inl (by decide))) fun h5 => ?_
  have h5' : r.1 ≤ 2097152 := by simpa using h5
  rw [wI (x := (xs.length : Int) - r.2.1) (by omega), wI (x := (xs.length : Int) - r.2.1 - more) (by omega), wI (x := r.1) (by omega)]
  refine Ok.ite (fun _ => Ok.some (.inl (by decide))) fun h6 => ?_
  have h6' : r.1 ≤ (xs.length : Int) - r.2.1 - more := by simpa using h6
  exact Ok.some (.inr ⟨h2.1, h3, by dsimp only; omega, rfl⟩)
theorem cut_bys {xs : List Int} (h : Bys xs) (a b : Nat) : Bys (cut xs a b) := h.cut a b
theorem cut_le {xs : List Int} (a b : Nat) : (cut xs a b).length ≤ xs.length := by simp [cut]; omega
theorem TakeFrame_ok {z : Nat} (hz : 16777216 ≤ z) {xs : List Int} (hb : Bys xs) (hx : xs.length ≤ 8388608) : Ok (codec_TakeFrame.f z xs) fun r => r.2.2.2 ≠ 0 ∨ (Bys r.2.1 ∧ (r.2.1.length : Int) < r.2.2.1 ∧ r.2.2.1 ≤ xs.length ∧ r.2.2.2 = 0) := by
  unfold codec_TakeFrame.f
  refine Ok.ite (fun _ => Ok.some (.inl (by decide))) fun h0 => ?_
  rw [beq_eq_false_iff_ne] at h0
  refine Ok.ck (by omega) ?_
  have hc : (cut xs (Int.toNat 1) (Int.toNat (xs.length : Int))).length = xs.length - 1 := by rw [cut_len _ _ _ (by omega)]; omega
  refine (length_ok hz (by omega) (by omega)).bd fun r h => ?_
  rw [hc] at h
  refine Ok.ite (fun h1 => Ok.some (.inl (by simpa using h1))) fun h1 => ?_
  rw [bne_eq_false_iff_eq] at h1
  rcases h with h | ⟨h2, h3, h4, _⟩
  · exact absurd h1 h
  rw [wI (x := r.2.1 + 1) (by omega), wI (x := r.2.1 + 5) (by omega), wI (x := r.2.1 + 5 + r.1) (by omega)]
  refine Ok.ck (by omega) (Ok.ck (by omega) (Ok.ck (by omega) ?_))
  refine Ok.bde (sums_f hz (by have := cut_le (xs := xs) (Int.toNat 0) (r.2.1 + 1).toNat; omega) (by have := cut_le (xs := xs) (r.2.1 + 5).toNat (r.2.1 + 5 + r.1).toNat; omega)) ?_
  refine Ok.bde (Equal_f (hb.cut _ _) (le4_bys _)) ?_
  refine Ok.ite (fun _ => Ok.some (.inl (by decide))) fun _ => Ok.ck (by omega) ?_
  have hl : (cut xs (r.2.1 + 5).toNat (r.2.1 + 5 + r.1).toNat).length = r.1.toNat := by rw [cut_len _ _ _ (by omega)]; omega
  refine Ok.bde (s := cut xs (r.2.1 + 5).toNat (r.2.1 + 5 + r.1).toNat) (by unfold bytes_Clone.f; rw [ck_y (by omega)]) ?_
  refine Ok.bde (s := cut xs (r.2.1 + 5).toNat (r.2.1 + 5 + r.1).toNat) rfl ?_
  exact Ok.some (.inr ⟨hb.cut _ _, by dsimp only; omega, by dsimp only; omega, rfl⟩)
theorem entry_L0 {z : Nat} (hz : 16777216 ≤ z) {ahead : List Int} (ha : Bys ahead ∧ ahead.length ≤ 256) {n0 : Nat} (hn0 : n0 ≤ 8388608) : ∀ (k m i : Nat) (xs : List Int) (d : Bool) (ns : List Int), 4 - i = k → i ≤ 4 → k < m → Bys xs → xs.length + i ≤ n0 → ns.length = 4 → (∀ x ∈ ns, 0 ≤ x ∧ x ≤ 18446744073709551615) →
    Ok (sstable_entry.L0 z ahead m xs (i : Int) d ns) fun r => r.2.2 = true → okE r.1 ∧ Bys r.2.1 ∧ r.2.1.length + 4 ≤ n0
  | k, 0, _, _, _, _, _, _, h, _, _, _, _ => by omega
  | 0, m + 1, i, xs, d, ns, hk, hi, hm, hb, hl, hn, hr => by
    obtain ⟨a, b, c, e, rfl⟩ : ∃ a b c e, ns = [a, b, c, e] := by
      match ns, hn with
      | [a, b, c, e], _ => exact ⟨a, b, c, e, rfl⟩
    have ha' := hr a (by simp)
    have hb' := hr b (by simp)
    have hc' := hr c (by simp)
    have he' := hr e (by simp)
    rw [sstable_entry.L0, if_n (by simp; omega)]
    rw [show gi (0 : Int) [a, b, c, e] 0 = a from rfl, show gi (0 : Int) [a, b, c, e] 1 = b from rfl, show gi (0 : Int) [a, b, c, e] 2 = c from rfl, show gi (0 : Int) [a, b, c, e] 3 = e from rfl]
    unfold sstable_entry.J1
    rw [wU (x := (ahead.length : Int)) (by omega), wU (x := (xs.length : Int)) (by omega)]
    refine Ok.ite (fun _ => Ok.some fun h => by cases h) fun h1 => Ok.ite (fun _ => Ok.some fun h => by cases h) fun h2 => ?_
    have h1' : a ≤ ahead.length := by simpa using h1
    have h2' : b ≤ xs.length := by simpa using h2
    rw [wU (x := (xs.length : Int) - b) (by omega)]
    refine Ok.ite (fun _ => Ok.some fun h => by cases h) fun h3 => ?_
    have h3' : e ≤ xs.length - b := by simpa using h3
    refine Ok.ck (by omega) (Ok.ck (by omega) ?_)
    have q1 := cut_le (xs := ahead) (Int.toNat 0) a.toNat
    have q2 := cut_le (xs := xs) (Int.toNat 0) b.toNat
    refine Ok.bde (Concat_f hz (by simp) (by simp only [List.flatten_cons, List.flatten_nil, List.append_nil, List.length_append]; omega)) ?_
    have q3 : (cut xs b.toNat (Int.toNat (xs.length : Int))).length = xs.length - b.toNat := by rw [cut_len _ _ _ (by omega)]; omega
    refine Ok.ck (by omega) ?_
    refine Ok.bde (s := cut (cut xs b.toNat (Int.toNat (xs.length : Int))) (Int.toNat 0) e.toNat) (by
      unfold bytes_Clone.f
      rw [ck_y (by have := cut_le (xs := cut xs b.toNat (Int.toNat (xs.length : Int))) (Int.toNat 0) e.toNat; omega)]) ?_
    refine Ok.bde rfl ?_
    refine Ok.some fun _ => ⟨⟨?_, hc', (hb.cut _ _).cut _ _⟩, (hb.cut _ _).cut _ _, ?_⟩
    · simp only [List.flatten_cons, List.flatten_nil, List.append_nil]
      exact (ha.1.cut _ _).app (hb.cut _ _)
    · have := cut_le (xs := cut xs b.toNat (Int.toNat (xs.length : Int))) e.toNat (Int.toNat ((cut xs b.toNat (Int.toNat (xs.length : Int))).length : Int))
      dsimp only
      omega
  | k + 1, m + 1, i, xs, d, ns, hk, hi, hm, hb, hl, hn, hr => by
    rw [sstable_entry.L0, if_y (by simp; omega)]
    have hJ : ∀ (ys : List Int) (d' : Bool), Bys ys → ys.length ≤ xs.length → Ok (sstable_entry.J3 z (sstable_entry.L0 z ahead m) ahead (i : Int) ys d' ns) fun r => r.2.2 = true → okE r.1 ∧ Bys r.2.1 ∧ r.2.1.length + 4 ≤ n0 := by
      intro ys d' hy hyl
      unfold sstable_entry.J3
      refine (TakeNumber_ok hz (by omega)).bd fun r h => ?_
      refine Ok.ite (fun _ => Ok.some fun h => by cases h) fun h1 => ?_
      rw [bne_eq_false_iff_eq] at h1
      rcases h with h | ⟨h2, h3, h4, _⟩
      · exact absurd h1 h
      refine Ok.ck (by omega) (Ok.ck (by omega) ?_)
      rw [wI (by omega)]
      refine entry_L0 hz ha hn0 k m (i + 1) _ _ _ (by omega) (by omega) (by omega) (hy.cut _ _) ?_ (by simpa using hn) ?_
      · rw [cut_len _ _ _ (by omega)]; omega
      · intro x hx
        rcases List.mem_or_eq_of_mem_set hx with q | rfl
        · exact hr x q
        · exact h2
    refine Ok.ite (fun _ => ?_) fun _ => hJ xs d hb (Nat.le_refl _)
    unfold sstable_entry.J2
    refine Ok.ite (fun _ => Ok.some fun h => by cases h) fun h1 => ?_
    rw [beq_eq_false_iff_ne] at h1
    refine Ok.ck (by omega) (Ok.ite (fun _ => Ok.some fun h => by cases h) fun _ => Ok.ck (by omega) ?_)
    exact hJ _ _ (hb.cut _ _) (cut_le _ _)
theorem entry_ok {z : Nat} (hz : 16777216 ≤ z) {xs ahead : List Int} (ha : Bys ahead ∧ ahead.length ≤ 256) (hb : Bys xs) (hl : xs.length ≤ 8388608) : Ok (sstable_entry.f z xs ahead) fun r => r.2.2 = true → okE r.1 ∧ Bys r.2.1 ∧ r.2.1.length + 4 ≤ xs.length :=
  entry_L0 hz ha hl 4 z 0 xs false [0, 0, 0, 0] rfl (by omega) (by omega) hb (by omega) rfl (fun x hx => by simp at hx; omega)
theorem entries_L0 {z : Nat} (hz : 16777216 ≤ z) {fr : Int × List Int × Int × Int} {n0 : Nat} (hn0 : n0 ≤ 8388608) : ∀ (m : Nat) (xs : List Int) (out : List api_Entry) (ahead : List Int), xs.length < m → Bys xs → Bys ahead ∧ ahead.length ≤ 256 → out.length + xs.length ≤ n0 → (∀ e ∈ out, okE e) →
    Ok (sstable_entries.L0 z fr m xs out ahead) fun r => r.2.2 = true → (∀ e ∈ r.1, okE e) ∧ r.2.1 = fr.2.2.1 ∧ r.1.length ≤ n0
  | 0, _, _, _, h, _, _, _, _ => by omega
  | m + 1, xs, out, ahead, hm, hb, ha, hl, ho => by
    rw [sstable_entries.L0]
    refine Ok.ite (fun h => ?_) fun _ => Ok.some fun _ => ⟨ho, rfl, by dsimp only; omega⟩
    unfold sstable_entries.J1
    refine (entry_ok hz ha hb (by omega)).bd fun r hr => ?_
    refine Ok.ite (fun _ => Ok.some fun h => by cases h) fun h1 => Ok.ite (fun _ => Ok.some fun h => by cases h) fun h2 => ?_
    obtain ⟨h3, h4, h5⟩ := hr (by simpa using h1)
    have h2' : r.1.Key.length ≤ 256 := by
      have : (r.1.Key.length : Int) ≤ 256 := by simpa using h2
      omega
    refine Ok.ck (by simp; omega) ?_
    exact entries_L0 hz hn0 m _ _ _ (by omega) h4 ⟨h3.1, h2'⟩ (by simp; omega) (fun e he => by
      rcases List.mem_append.1 he with q | q
      · exact ho e q
      · rw [List.mem_singleton.1 q]; exact h3)
theorem entries_ok {z : Nat} (hz : 16777216 ≤ z) {xs : List Int} (hb : Bys xs) (hl : xs.length ≤ 8388608) : Ok (sstable_entries.f z xs) fun r => r.2.2 = true → (∀ e ∈ r.1, okE e) ∧ 1 ≤ r.2.1 ∧ r.2.1 ≤ xs.length ∧ (r.1.length : Int) ≤ r.2.1 := by
  unfold sstable_entries.f
  refine (TakeFrame_ok hz hb hl).bd fun r h => ?_
  refine Ok.ite (fun _ => Ok.some fun h => by cases h) fun h1 => ?_
  rw [bne_eq_false_iff_eq] at h1
  rcases h with h | ⟨h2, h3, h4, _⟩
  · exact absurd h1 h
  refine (entries_L0 hz (n0 := r.2.1.length) (by omega) z _ _ _ (by omega) h2 ⟨Bys.nil, by simp⟩ (by simp) (fun e he => by cases he)).imp fun q hq h => ?_
  obtain ⟨a, b, c⟩ := hq h
  exact ⟨a, by omega, by omega, by omega⟩
theorem low_L0 (z : Nat) {xs : List Int} (hx : xs.length ≤ 16777215) : ∀ (k m i : Nat) (a : Int), xs.length - i = k → i ≤ xs.length → k < m → Ok (sstable_low.L0 z xs m a (i : Int)) fun _ => True
  | k, 0, _, _, _, _, h => by omega
  | 0, m + 1, i, a, hk, hi, hm => by
    rw [sstable_low.L0, if_n (by simp; omega)]
    exact Ok.some trivial
  | k + 1, m + 1, i, a, hk, hi, hm => by
    rw [sstable_low.L0, if_y (by simp; omega), ck_y (by omega), wI (x := (i : Int) + 1) (by omega)]
    exact low_L0 z hx k m (i + 1) _ (by omega) (by omega) (by omega)
theorem low_ok {z : Nat} (hz : 16777216 ≤ z) {xs : List Int} (hx : xs.length ≤ 16777215) : Ok (sstable_low.f z xs) fun _ => True :=
  low_L0 z hx xs.length z 0 0 rfl (by omega) (by omega)

/-! ### what Build makes is bytes -/
theorem tailS_bys (fa ia cnt bb pk : Int) : Bys (tailS fa ia cnt bb pk) := by
  unfold tailS tail36
  refine Bys.app (Bys.app (Bys.app (Bys.app (Bys.app (Bys.app (highS_bys _ _) (highS_bys _ _)) (highS_bys _ _)) (highS_bys _ _)) (highS_bys _ _)) ?_) (le4_bys _)
  intro x hx
  simp at hx
  omega
theorem outS_bys {w : sstable_builder} (h1 : Bys w.out) (h2 : Bys w.index) {cnt : Int} {f : List Int} (hf : Bys f) {bb pk : Int} : Bys (outS w cnt f bb pk) :=
  Bys.app (Bys.app (Bys.app h1 (frm_bys (by omega) hf)) (frm_bys (by omega) (Bys.app (num_bys _) h2))) (tailS_bys _ _ _ _ _)
theorem run_inv {bb : Int} (hb : bb ≤ 65536) : ∀ (l : List api_Entry) (i : Nat) (keys : List (List Int)) (w : sstable_builder) (r : List (List Int) × sstable_builder), i + l.length ≤ 65536 → (∀ e ∈ l, fitS e ∧ okE e) → Inv i w → run bb l keys w = some r → Inv (i + l.length) r.2
  | [], i, keys, w, r, _, _, h, hr => by
    rw [run] at hr
    cases hr
    exact h
  | e :: l, i, keys, w, r, hl, hf, h, hr => by
    rw [run] at hr
    split at hr
    · cases hr
    · rename_i ho
      have := run_inv hb l (i + 1) _ _ r (by simp at hl; omega) (fun x hx => hf x (List.mem_cons_of_mem _ hx)) (h.add (by simp at hl; omega) (by omega) (hf e (List.mem_cons_self ..)).1 (hf e (List.mem_cons_self ..)).2 hb) hr
      rw [show i + (e :: l).length = i + 1 + l.length by simp; omega]
      exact this
/-- how a table came about -/
theorem buildS_out {l : List api_Entry} (hf : ∀ e ∈ l, okE e) {bb pk : Int} {b : List Int} (h : buildS l bb pk = (b, 0)) :
    (64 ≤ bb ∧ bb ≤ 65536) ∧ (1 ≤ pk ∧ pk ≤ 30) ∧ (0 < l.length ∧ l.length ≤ 65536) ∧ chk none l = none ∧ ∃ keys w, run bb l [] w0 = some (keys, w) ∧ Inv l.length w ∧ (idxS (closeS w)).length ≤ 2097152 ∧ b.length ≤ 4194304 ∧ b = outS (closeS w) l.length (mkS keys pk) bb pk := by
  unfold buildS at h
  split at h
  · cases h
  rename_i h1
  split at h
  · cases h
  rename_i h2
  have hc0 : ∀ (l : List api_Entry) (p : Option api_Entry) (e : Int), chk p l = some e → e ≠ 0 := by
    intro l
    induction l with
    | nil => intro p e h; cases h
    | cons x l ih =>
      intro p e h
      rw [chk] at h
      split at h
      · cases h; decide
      · split at h
        · cases h; decide
        · exact ih _ _ h
  cases hc : chk none l with
  | some e =>
    rw [hc] at h
    simp only [Prod.mk.injEq] at h
    exact absurd h.2 (hc0 l none e hc)
  | none =>
    rw [hc] at h
    dsimp only at h
    cases hr : run bb l [] w0 with
    | none => rw [hr] at h; cases h
    | some r =>
      obtain ⟨keys, w⟩ := r
      rw [hr] at h
      dsimp only at h
      unfold endS at h
      split at h
      · cases h
      rename_i h3
      split at h
      · cases h
      rename_i h4
      simp only [Prod.mk.injEq] at h
      refine ⟨by omega, by omega, by omega, rfl, keys, w, rfl, ?_, by omega, by rw [← h.1]; omega, h.1.symm⟩
      have := run_inv (by omega) l 0 [] w0 (keys, w) (by omega) (fun e he => ⟨chk_fit hc e he, hf e he⟩) Inv.zero hr
      simpa using this
theorem buildS_bys {l : List api_Entry} (hf : ∀ e ∈ l, okE e) {bb pk : Int} {b : List Int} (h : buildS l bb pk = (b, 0)) : Bys b := by
  obtain ⟨_, hp, _, _, keys, w, _, hi, _, _, rfl⟩ := buildS_out hf h
  exact outS_bys (Bys.app hi.b1 (frm_bys (by omega) hi.b2)) (Bys.app hi.b3 (idx_bys hi.b4)) (mkS_bys hp)

/-! ### Open -/
/-- a table's bytes that Build makes -/
def Made (b : List Int) : Prop := ∃ l bb pk, (∀ e ∈ l, okE e) ∧ buildS l bb pk = (b, 0)
def AfterOpen (b : List Int) (r : Option sstable_Table × Int) : Prop := r = (none, 44) ∨ (r.2 = 0 ∧ Made b)
theorem Open_J3 {z : Nat} (hz : 16777216 ≤ z) {b : List Int} (hb : Bys b) (hl : 40 ≤ b.length ∧ b.length ≤ 4194304) {b' : List Int} {bl : List sstable_block} {all : List api_Entry} (ha : ∀ e ∈ all, okE e) {at' : Int} (hat : 0 ≤ at' ∧ at' ≤ b.length) :
    Ok (sstable_Open.J3 z b b' bl all at') (AfterOpen b) := by
  unfold sstable_Open.J3 sstable_Open.J4
  rw [wI (by omega)]
  have hc : (cut b (Int.toNat ((b.length : Int) - 40)) (Int.toNat (b.length : Int))).length = 40 := by rw [cut_len _ _ _ (by omega)]; omega
  refine Ok.ck (by omega) (Ok.ck (by omega) (Ok.ck (by omega) ?_))
  refine (low_ok hz (by have := cut_le (xs := cut b (Int.toNat ((b.length : Int) - 40)) (Int.toNat (b.length : Int))) (Int.toNat 24) (Int.toNat 28); omega)).bd fun bb _ => ?_
  refine (low_ok hz (by have := cut_le (xs := cut b (Int.toNat ((b.length : Int) - 40)) (Int.toNat (b.length : Int))) (Int.toNat 28) (Int.toNat 32); omega)).bd fun pk _ => ?_
  refine Ok.bde (Build_f hz ha bb pk) ?_
  refine Ok.ite (fun _ => Ok.some (.inl rfl)) fun h1 => ?_
  rw [bne_eq_false_iff_eq] at h1
  have hB : buildS all bb pk = ((buildS all bb pk).1, 0) := by rw [← h1]
  refine Ok.bde (Equal_f (buildS_bys ha hB) hb) ?_
  refine Ok.ite (fun _ => Ok.some (.inl rfl)) fun h2 => ?_
  have h2' : (buildS all bb pk).1 = b := by simpa using h2
  rw [h2'] at hB
  refine Ok.ck (by omega) ?_
  refine (TakeFrame_ok hz (hb.cut _ _) (by have := cut_le (xs := b) at'.toNat (Int.toNat (b.length : Int)); omega)).bd fun r _ => ?_
  exact Ok.some (.inr ⟨rfl, all, bb, pk, ha, hB⟩)
theorem Open_L1 {z : Nat} (hz : 16777216 ≤ z) {b : List Int} (hb : Bys b) (hl : 40 ≤ b.length ∧ b.length ≤ 4194304) {b' : List Int} : ∀ (m : Nat) (all : List api_Entry) (i : Nat) (bl : List sstable_block), b.length - i < m → i ≤ b.length → (∀ e ∈ all, okE e) → bl.length ≤ i → all.length ≤ i →
    Ok (sstable_Open.L1 z b b' m all (i : Int) bl) (AfterOpen b)
  | 0, _, _, _, h, _, _, _, _ => by omega
  | m + 1, all, i, bl, hm, hi, ha, hbl, hal => by
    rw [sstable_Open.L1]
    refine Ok.ite (fun h => ?_) fun _ => Open_J3 hz hb hl ha (by omega)
    have hlt : i < b.length := by
      have : (i : Int) < b.length := by simpa using h
      omega
    refine Ok.ck (by omega) (Ok.ite (fun _ => ?_) fun _ => Open_J3 hz hb hl ha (by omega))
    refine Ok.ck (by omega) ?_
    unfold sstable_Open.J2
    have hcl := cut_len b (Int.toNat (i : Int)) (Int.toNat (b.length : Int)) (by omega)
    refine (entries_ok hz (hb.cut _ _) (by omega)).bd fun r hr => ?_
    refine Ok.ite (fun _ => Ok.some (.inl rfl)) fun h1 => Ok.ite (fun _ => Ok.some (.inl rfl)) fun h2 => ?_
    rw [beq_eq_false_iff_ne] at h2
    obtain ⟨q1, q2, q3, q4⟩ := hr (by simpa using h1)
    refine Ok.ck (by omega) (Ok.ck (by rw [wI (by omega)]; omega) (Ok.ck (by simp; omega) (Ok.ck (by omega) ?_)))
    rw [wI (x := (i : Int) + r.2.1) (by omega), show ((i : Int) + r.2.1) = ((i + r.2.1.toNat : Nat) : Int) by omega]
    exact Open_L1 hz hb hl m _ _ _ (by omega) (by omega) (fun e he => (List.mem_append.1 he).elim (ha e) (q1 e)) (by simp; omega) (by simp; omega)
theorem Open_ok {z : Nat} (hz : 16777216 ≤ z) {b : List Int} (hb : Bys b) : Ok (sstable_Open.f z b) (AfterOpen b) := by
  unfold sstable_Open.f sstable_Open.J0
  refine Ok.ite (fun _ => Ok.some (.inl rfl)) fun h1 => Ok.ite (fun _ => Ok.some (.inl rfl)) fun h2 => ?_
  have h1' : (40 : Int) ≤ b.length := by simpa using h1
  have h2' : (b.length : Int) ≤ 4194304 := by simpa using h2
  refine Ok.bde (s := b) (by unfold bytes_Clone.f; rw [ck_y (by omega)]) (Ok.bde (s := b) rfl ?_)
  exact Open_L1 hz hb (by omega) z [] 0 [] (by omega) (by omega) (fun e he => by cases he) (by simp) (by simp)
end Go.Proofs.Ytghpokmkhlmgcaa

namespace Go.Proofs.Ytghpokmkhlmgcaa
open Go Go.Proofs.Ytghpokmkhlmgcaa.X
set_option linter.unusedVariables false

/-! ### what is laid out is told apart -/
theorem num_pre : ∀ (a b : Nat) (r s : List Int), num a ++ r = num b ++ s → a = b ∧ r = s := by
  intro a
  induction a using Nat.strongRecOn with
  | ind a ih =>
    intro b r s h
    rw [num.eq_1 a, num.eq_1 b] at h
    by_cases ha : a ≤ 127
    · by_cases hb : b ≤ 127
      · rw [if_pos ha, if_pos hb] at h
        simp only [List.cons_append, List.nil_append, List.cons.injEq] at h
        exact ⟨by omega, h.2⟩
      · rw [if_pos ha, if_neg hb] at h
        simp at h
        omega
    · by_cases hb : b ≤ 127
      · rw [if_neg ha, if_pos hb] at h
        simp at h
        omega
      · rw [if_neg ha, if_neg hb] at h
        simp only [List.cons_append, List.cons.injEq] at h
        obtain ⟨h1, h2⟩ := ih (a / 128) (by omega) _ _ _ h.2
        exact ⟨by omega, h2⟩
theorem num_mono : ∀ (a b : Nat), a ≤ b → (num a).length ≤ (num b).length := by
  intro a
  induction a using Nat.strongRecOn with
  | ind a ih =>
    intro b h
    rw [num.eq_1 a, num.eq_1 b]
    by_cases ha : a ≤ 127
    · rw [if_pos ha]
      split <;> simp
    · rw [if_neg ha, if_neg (by omega)]
      have := ih (a / 128) (by omega) (b / 128) (by omega)
      simp; omega
theorem frm_len_inj {k k' : Int} {a b : List Int} (h : (frm k a).length = (frm k' b).length) : a.length = b.length := by
  rw [frm_len, frm_len] at h
  rcases Nat.lt_trichotomy a.length b.length with q | q | q
  · have := num_mono a.length b.length (by omega); omega
  · exact q
  · have := num_mono b.length a.length (by omega); omega
theorem le4_len (c : BitVec 32) : (le4 c).length = 4 := rfl
theorem frm_pre {k k' : Int} {a b r s : List Int} (h : frm k a ++ r = frm k' b ++ s) : k = k' ∧ a = b ∧ r = s := by
  unfold frm at h
  simp only [List.append_assoc] at h
  unfold hd at h
  simp only [List.cons_append, List.cons.injEq] at h
  obtain ⟨h1, h2⟩ := h
  obtain ⟨h3, h4⟩ := num_pre _ _ _ _ h2
  obtain ⟨h5, h6⟩ := List.append_inj h4 rfl
  obtain ⟨h7, h8⟩ := List.append_inj h6 h3
  exact ⟨h1, h7, h8⟩

/-! ### sums tell bytes apart -/
theorem and_one (c : BitVec 32) : c &&& 1#32 = 0#32 ∨ c &&& 1#32 = 1#32 := by
  have h : (c &&& 1#32).toNat = c.toNat % 2 := by rw [BitVec.toNat_and]; exact Nat.and_one_is_mod _
  rcases Nat.mod_two_eq_zero_or_one c.toNat with q | q
  · left; exact BitVec.eq_of_toNat_eq (by rw [h, q]; rfl)
  · right; exact BitVec.eq_of_toNat_eq (by rw [h, q]; rfl)
theorem half_inj {c d : BitVec 32} (h : c >>> 1 = d >>> 1) (e : c &&& 1#32 = d &&& 1#32) : c = d := by
  have h1 : c.toNat / 2 = d.toNat / 2 := by
    have := congrArg BitVec.toNat h
    rw [BitVec.toNat_ushiftRight, BitVec.toNat_ushiftRight, Nat.shiftRight_eq_div_pow, Nat.shiftRight_eq_div_pow] at this
    omega
  have h2 : c.toNat % 2 = d.toNat % 2 := by
    have := congrArg BitVec.toNat e
    rw [BitVec.toNat_and, BitVec.toNat_and] at this
    rw [← Nat.and_one_is_mod, ← Nat.and_one_is_mod]
    exact this
  exact BitVec.eq_of_toNat_eq (by omega)
theorem top_ne {c d : BitVec 32} : c >>> 1 ≠ d >>> 1 ^^^ 3988292384#32 := by
  intro h
  have h1 := congrArg (fun x => BitVec.getLsbD x 31) h
  simp at h1
theorem stp_0 {c : BitVec 32} (h : c &&& 1#32 = 0#32) : stp c = c >>> 1 := by
  unfold stp; rw [h]
  show c >>> 1 ^^^ (3988292384#32 &&& 0#32) = _
  simp
theorem stp_1 {c : BitVec 32} (h : c &&& 1#32 = 1#32) : stp c = c >>> 1 ^^^ 3988292384#32 := by
  unfold stp; rw [h]
  show c >>> 1 ^^^ 3988292384#32 = _
  rfl
theorem stp_inj {c d : BitVec 32} (h : stp c = stp d) : c = d := by
  rcases and_one c with a | a <;> rcases and_one d with b | b
  · rw [stp_0 a, stp_0 b] at h; exact half_inj h (by rw [a, b])
  · rw [stp_0 a, stp_1 b] at h; exact absurd h top_ne
  · rw [stp_1 a, stp_0 b] at h; exact absurd h.symm top_ne
  · rw [stp_1 a, stp_1 b] at h
    have h' := congrArg (· ^^^ 3988292384#32) h
    simp only [BitVec.xor_assoc, BitVec.xor_self, BitVec.xor_zero] at h'
    exact half_inj h' (by rw [a, b])
theorem byt_xor {c d : BitVec 32} {x y : Int} (h : byt c x = byt d y) : c ^^^ BitVec.ofInt 32 x = d ^^^ BitVec.ofInt 32 y :=
  stp_inj (stp_inj (stp_inj (stp_inj (stp_inj (stp_inj (stp_inj (stp_inj h)))))))
theorem byt_c {c d : BitVec 32} {x : Int} (h : byt c x = byt d x) : c = d := by
  have h' := congrArg (· ^^^ BitVec.ofInt 32 x) (byt_xor h)
  simpa only [BitVec.xor_assoc, BitVec.xor_self, BitVec.xor_zero] using h'
theorem byt_x {c : BitVec 32} {x y : Int} (hx : 0 ≤ x ∧ x < 256) (hy : 0 ≤ y ∧ y < 256) (h : byt c x = byt c y) : x = y := by
  have h' := congrArg (c ^^^ ·) (byt_xor h)
  simp only [← BitVec.xor_assoc, BitVec.xor_self, BitVec.zero_xor] at h'
  have h2 := congrArg BitVec.toNat h'
  rw [BitVec.toNat_ofInt, BitVec.toNat_ofInt] at h2
  omega
theorem crc_c : ∀ (q : List Int) {c d : BitVec 32}, crc c q = crc d q → c = d
  | [], _, _, h => h
  | x :: q, c, d, h => byt_c (crc_c q h)
/-- one byte is another -/
def Diff (xs ys : List Int) : Prop := ∃ p x y q, xs = p ++ x :: q ∧ ys = p ++ y :: q ∧ x ≠ y
theorem Diff.irrefl {xs : List Int} (h : Diff xs xs) : False := by
  obtain ⟨p, x, y, q, h1, h2, h3⟩ := h
  rw [h1] at h2
  have := List.append_cancel_left h2
  simp at this
  exact h3 this
theorem Diff.len {xs ys : List Int} (h : Diff xs ys) : xs.length = ys.length := by
  obtain ⟨p, x, y, q, rfl, rfl, _⟩ := h
  simp
theorem Diff.crc {xs ys : List Int} (hx : Bys xs) (hy : Bys ys) (h : Diff xs ys) {c : BitVec 32} : Go.Proofs.Ytghpokmkhlmgcaa.crc c xs ≠ Go.Proofs.Ytghpokmkhlmgcaa.crc c ys := by
  obtain ⟨p, x, y, q, rfl, rfl, hxy⟩ := h
  intro e
  rw [crc_app, crc_app] at e
  exact hxy (byt_x (hx x (by simp)) (hy y (by simp)) (crc_c q e))
theorem Diff.split : ∀ {a b r s : List Int}, a.length = b.length → Diff (a ++ r) (b ++ s) → (Diff a b ∧ r = s) ∨ (a = b ∧ Diff r s)
  | [], [], _, _, _, h => .inr ⟨rfl, h⟩
  | [], _ :: _, _, _, h, _ => by simp at h
  | _ :: _, [], _, _, h, _ => by simp at h
  | x :: a, y :: b, r, s, hl, h => by
    obtain ⟨p, u, v, q, h1, h2, h3⟩ := h
    cases p with
    | nil =>
      simp only [List.nil_append, List.cons_append, List.cons.injEq] at h1 h2
      obtain ⟨e1, e2⟩ := List.append_inj (h1.2.trans h2.2.symm) (by simpa using hl)
      left
      exact ⟨⟨[], x, y, a, rfl, by rw [e1]; rfl, by rw [h1.1, h2.1]; exact h3⟩, e2⟩
    | cons t p =>
      simp only [List.cons_append, List.cons.injEq] at h1 h2
      rcases Diff.split (by simpa using hl) ⟨p, u, v, q, h1.2, h2.2, h3⟩ with ⟨⟨p, u, v, q, g1, g2, g3⟩, e⟩ | ⟨e, d⟩
      · left
        exact ⟨⟨x :: p, u, v, q, by rw [g1]; rfl, by rw [h1.1, ← h2.1, g2]; rfl, g3⟩, e⟩
      · right
        exact ⟨by rw [e, h1.1, h2.1], d⟩
theorem frm_diff {k : Int} {a b : List Int} (ha : Bys (frm k a)) (hb : Bys (frm k b)) (hl : (frm k a).length = (frm k b).length) (h : Diff (frm k a) (frm k b)) : False := by
  have hab := frm_len_inj hl
  have hh : hd k a = hd k b := by unfold hd; rw [hab]
  unfold frm at h ha hb
  rw [List.append_assoc, List.append_assoc] at h
  rcases Diff.split (by rw [hh]) h with ⟨h1, _⟩ | ⟨_, h1⟩
  · rw [hh] at h1; exact h1.irrefl
  · rcases Diff.split (a := sum4 (hd k a ++ a)) (b := sum4 (hd k b ++ b)) rfl h1 with ⟨h2, e⟩ | ⟨e, h2⟩
    · rw [e] at h2; exact h2.irrefl
    · have e' := le4_inj e
      have e'' : Go.Proofs.Ytghpokmkhlmgcaa.crc 4294967295#32 (hd k a ++ a) = Go.Proofs.Ytghpokmkhlmgcaa.crc 4294967295#32 (hd k b ++ b) := by
        have := congrArg (~~~ ·) e'
        simpa only [BitVec.not_not] using this
      refine Diff.crc ?_ ?_ ?_ e''
      · exact Bys.app ha.left.left ha.right
      · exact Bys.app hb.left.left hb.right
      · rw [hh]
        obtain ⟨p, x, y, q, h3, h4, h5⟩ := h2
        exact ⟨hd k b ++ p, x, y, q, by rw [h3]; simp, by rw [h4]; simp, h5⟩

/-! ### a table's shape -/
abbrev Blk := List Int × Int × List Int
def fr1 (f : Blk) : List Int := frm 68 f.1
def outF : List Blk → List Int
  | [] => []
  | f :: fs => fr1 f ++ outF fs
def idxF : Nat → List Blk → List Int
  | _, [] => []
  | o, f :: fs => idx o (fr1 f).length f.2.1 f.2.2 ++ idxF (o + (fr1 f).length) fs
theorem outF_snoc : ∀ (fs : List Blk) (f : Blk), outF (fs ++ [f]) = outF fs ++ fr1 f
  | [], f => by simp [outF]
  | g :: fs, f => by simp [outF, outF_snoc fs f]
theorem idxF_snoc : ∀ (fs : List Blk) (o : Nat) (f : Blk), idxF o (fs ++ [f]) = idxF o fs ++ idx (o + (outF fs).length) (fr1 f).length f.2.1 f.2.2
  | [], o, f => by simp [idxF, outF]
  | g :: fs, o, f => by simp [idxF, outF, idxF_snoc fs _ f, Nat.add_assoc]
def Str (w : sstable_builder) : Prop := ∃ fs : List Blk, w.out = outF fs ∧ w.index = idxF 0 fs ∧ w.blocks = fs.length
theorem Str.close {w : sstable_builder} (h : Str w) : Str (closeS w) := by
  obtain ⟨fs, h1, h2, h3⟩ := h
  refine ⟨fs ++ [(w.body, w.many, w.last)], ?_, ?_, ?_⟩
  · rw [outF_snoc]; simp [closeS, h1, fr1]
  · rw [idxF_snoc]; simp [closeS, h1, h2, fr1]
  · simp [closeS, h3]
theorem Str.add {w : sstable_builder} (h : Str w) (e : api_Entry) (bb : Int) : Str (addS w e bb) := by
  unfold addS
  split
  · split
    · obtain ⟨fs, h1, h2, h3⟩ := h; exact ⟨fs, h1, h2, h3⟩
    · obtain ⟨fs, h1, h2, h3⟩ := h.close; exact ⟨fs, h1, h2, h3⟩
  · obtain ⟨fs, h1, h2, h3⟩ := h; exact ⟨fs, h1, h2, h3⟩
theorem run_str {bb : Int} : ∀ (l : List api_Entry) (keys : List (List Int)) (w : sstable_builder) (r : List (List Int) × sstable_builder), Str w → run bb l keys w = some r → Str r.2
  | [], keys, w, r, h, hr => by rw [run] at hr; cases hr; exact h
  | e :: l, keys, w, r, h, hr => by
    rw [run] at hr
    split at hr
    · cases hr
    · exact run_str l _ _ r (h.add e bb) hr
def ixF (fs : List Blk) : List Int := num fs.length ++ idxF 0 fs
def tab (fs : List Blk) (F : List Int) (cnt bb pk : Int) : List Int :=
  (outF fs ++ frm 70 F) ++ frm 73 (ixF fs) ++ tailS (outF fs).length (outF fs ++ frm 70 F).length cnt bb pk
theorem made_tab {b : List Int} (h : Made b) : Bys b ∧ b.length ≤ 4194304 ∧ ∃ fs F cnt bb pk, b = tab fs F cnt bb pk := by
  obtain ⟨l, bb, pk, hf, h⟩ := h
  refine ⟨buildS_bys hf h, ?_⟩
  obtain ⟨_, _, _, _, keys, w, hr, _, _, hl, hb⟩ := buildS_out hf h
  obtain ⟨fs, h1, h2, h3⟩ := (run_str l [] w0 _ ⟨[], rfl, rfl, rfl⟩ hr).close
  refine ⟨hl, fs, mkS keys pk, l.length, bb, pk, ?_⟩
  rw [hb]
  unfold outS tab idxS ixF
  rw [h1, h2, h3]
  simp only [Int.toNat_natCast]
theorem high_inj {a b : Nat} (ha : a ≤ 4194304) (hb : b ≤ 4194304) (h : highS a 8 = highS b 8) : a = b := by
  have : ∀ n : Nat, highS n 8 = [(n : Int) / 72057594037927936 % 256, (n : Int) / 281474976710656 % 256, (n : Int) / 1099511627776 % 256, (n : Int) / 4294967296 % 256, (n : Int) / 16777216 % 256, (n : Int) / 65536 % 256, (n : Int) / 256 % 256, (n : Int) / 1 % 256] := fun n => rfl
  rw [this, this] at h
  simp only [List.cons.injEq] at h
  omega
theorem idx_pre {a b a' b' : Nat} {m m' : Int} {l l' r s : List Int} (h : idx a b m l ++ r = idx a' b' m' l' ++ s) : b = b' ∧ r = s := by
  unfold idx txt at h
  simp only [List.append_assoc] at h
  obtain ⟨_, h⟩ := num_pre _ _ _ _ h
  obtain ⟨e, h⟩ := num_pre _ _ _ _ h
  obtain ⟨_, h⟩ := num_pre _ _ _ _ h
  obtain ⟨e', h⟩ := num_pre _ _ _ _ h
  exact ⟨e, (List.append_inj h e').2⟩
theorem outF_diff : ∀ (fs gs : List Blk) (o : Nat), fs.length = gs.length → idxF o fs = idxF o gs → Bys (outF fs) → Bys (outF gs) → Diff (outF fs) (outF gs) → False
  | [], [], _, _, _, _, _, h => h.irrefl
  | [], _ :: _, _, h, _, _, _, _ => by simp at h
  | _ :: _, [], _, h, _, _, _, _ => by simp at h
  | f :: fs, g :: gs, o, hl, hi, hf, hg, h => by
    unfold outF at hf hg h
    unfold idxF at hi
    obtain ⟨e, hi⟩ := idx_pre hi
    rcases Diff.split e h with ⟨h1, _⟩ | ⟨_, h1⟩
    · exact frm_diff hf.left hg.left e h1
    · rw [← e] at hi
      exact outF_diff fs gs _ (by simpa using hl) hi hf.right hg.right h1
theorem tail_diff {a b c d e a' b' c' d' e' : Int} (h : Diff (tailS a b c d e) (tailS a' b' c' d' e')) : False := by
  have h1 : Bys (tail36 a b c d e) := (tailS_bys a b c d e).left
  have h1' : Bys (tail36 a' b' c' d' e') := (tailS_bys a' b' c' d' e').left
  unfold tailS at h
  rcases Diff.split (by rw [tail36_len, tail36_len]) h with ⟨h3, h2⟩ | ⟨h3, h2⟩
  · have e' := le4_inj h2
    have e'' := congrArg (~~~ ·) e'
    simp only [BitVec.not_not] at e''
    exact Diff.crc h1 h1' h3 e''
  · rw [h3] at h2; exact h2.irrefl
theorem tail_inj {a b c d e a' b' c' d' e' : Int} (h : tailS a b c d e = tailS a' b' c' d' e') : highS a 8 = highS a' 8 ∧ highS b 8 = highS b' 8 := by
  unfold tailS tail36 at h
  simp only [List.append_assoc] at h
  obtain ⟨h1, h⟩ := List.append_inj h (by rw [highS_len, highS_len])
  obtain ⟨h2, _⟩ := List.append_inj h (by rw [highS_len, highS_len])
  exact ⟨h1, h2⟩
/-- no two tables differ by one byte -/
theorem apart_turned {b c : List Int} (hb : Made b) (hc : Made c) (h : Diff b c) : False := by
  obtain ⟨yb, lb, fs, F, cnt, bb, pk, rfl⟩ := made_tab hb
  obtain ⟨yc, lc, gs, G, cnt', bb', pk', rfl⟩ := made_tab hc
  have hlen := h.len
  unfold tab at h yb yc lb lc hlen
  simp only [List.length_append, tailS_len] at lb lc hlen
  rcases Diff.split (by simp only [List.length_append]; omega) h with ⟨h1, h2⟩ | ⟨_, h2⟩
  · obtain ⟨e1, e2⟩ := tail_inj h2
    have e1' := high_inj (by omega) (by omega) e1
    have e2' := high_inj (by simp only [List.length_append]; omega) (by simp only [List.length_append]; omega) e2
    simp only [List.length_append] at e2'
    rcases Diff.split (by simp only [List.length_append]; omega) h1 with ⟨h3, h4⟩ | ⟨_, h4⟩
    · have hix : ixF fs = ixF gs := (frm_pre (r := []) (s := []) (by rw [h4])).2.1
      obtain ⟨n1, n2⟩ := num_pre _ _ _ _ hix
      rcases Diff.split e1' h3 with ⟨h5, _⟩ | ⟨_, h5⟩
      · exact outF_diff fs gs 0 n1 n2 yb.left.left.left yc.left.left.left h5
      · exact frm_diff yb.left.left.right yc.left.left.right (by omega) h5
    · exact frm_diff yb.left.right yc.left.right (by omega) h4
  · exact tail_diff h2
theorem tab_pre : ∀ (fs gs : List Blk) (F G I J T T' e : List Int), outF fs ++ (frm 70 F ++ (frm 73 I ++ T)) = outF gs ++ (frm 70 G ++ (frm 73 J ++ (T' ++ e))) → T = T' ++ e
  | [], [], F, G, I, J, T, T', e, h => by
    unfold outF at h
    exact (frm_pre (frm_pre h).2.2).2.2
  | [], g :: gs, F, G, I, J, T, T', e, h => by
    unfold outF fr1 at h
    simp only [List.append_assoc, List.nil_append] at h
    exact absurd (frm_pre h).1 (by decide)
  | f :: fs, [], F, G, I, J, T, T', e, h => by
    unfold outF fr1 at h
    simp only [List.append_assoc, List.nil_append] at h
    exact absurd (frm_pre h).1 (by decide)
  | f :: fs, g :: gs, F, G, I, J, T, T', e, h => by
    unfold outF fr1 at h
    simp only [List.append_assoc] at h
    exact tab_pre fs gs F G I J T T' e (frm_pre h).2.2
/-- no table is the beginning of another -/
theorem apart_cut {b c e : List Int} (hb : Made b) (hc : Made c) (h : b = c ++ e) : e = [] := by
  obtain ⟨_, _, fs, F, cnt, bb, pk, rfl⟩ := made_tab hb
  obtain ⟨_, _, gs, G, cnt', bb', pk', rfl⟩ := made_tab hc
  unfold tab at h
  simp only [List.append_assoc] at h
  have := congrArg List.length (tab_pre _ _ _ _ _ _ _ _ _ h)
  simp only [List.length_append, tailS_len] at this
  exact List.eq_nil_of_length_eq_zero (by omega)
end Go.Proofs.Ytghpokmkhlmgcaa

namespace Go.Proofs.Ytghpokmkhlmgcaa
open Go Go.Proofs.Ytghpokmkhlmgcaa.X
set_option linter.unusedVariables false

theorem gi_mid {α : Type} (d : α) (p : List α) (x : α) (q : List α) (i : Int) (hi : i = p.length) : gi d (p ++ x :: q) i = x := by
  subst hi
  unfold gi
  simp
theorem and127 (c : Int) (h : 0 ≤ c ∧ c < 256) : bAnd .u8 c 127 = c % 128 := by
  have : ∀ i : Fin 256, bAnd .u8 (i.val : Int) 127 = ((i.val % 128 : Nat) : Int) := by decide +kernel
  have q := this ⟨c.toNat, by omega⟩
  simp only [show ((c.toNat : Nat) : Int) = c by omega] at q
  rw [q]
  omega
theorem or64 (a d k : Nat) (hk63 : k ≤ 63) (ha : a < 2 ^ k) (hd : d * 2 ^ k < 18446744073709551616) : bOr .u64 (a : Int) ((d * 2 ^ k : Nat) : Int) = ((a + d * 2 ^ k : Nat) : Int) := by
  have h1 : a ||| d * 2 ^ k = a + d * 2 ^ k := by
    have := Nat.two_pow_add_eq_or_of_lt ha d
    rw [Nat.mul_comm d, Nat.or_comm, ← this, Nat.add_comm]
  rcases Nat.eq_zero_or_pos d with rfl | hp
  · simp only [Nat.zero_mul, Nat.add_zero]
    have hk := Nat.pow_le_pow_right (n := 2) (by omega) hk63
    · show wr .u64 (((BitVec.ofInt 64 (a : Int) ||| BitVec.ofInt 64 ((0 : Nat) : Int)).toNat : Nat) : Int) = _
      rw [BitVec.toNat_or, BitVec.toNat_ofInt, BitVec.toNat_ofInt, wU']
      simp
      omega
  · have hk : 2 ^ k ≤ d * 2 ^ k := Nat.le_mul_of_pos_left _ hp
    have hlt : a + d * 2 ^ k < 18446744073709551616 := by
      rw [← h1]
      have q1 : a < 2 ^ 64 := by omega
      have q2 : d * 2 ^ k < 2 ^ 64 := by omega
      have := Nat.or_lt_two_pow q1 q2
      omega
    show wr .u64 (((BitVec.ofInt 64 (a : Int) ||| BitVec.ofInt 64 ((d * 2 ^ k : Nat) : Int)).toNat : Nat) : Int) = _
    rw [BitVec.toNat_or, BitVec.toNat_ofInt, BitVec.toNat_ofInt, wU']
    have e1 : ((a : Int) % ((2 ^ 64 : Nat) : Int)).toNat = a := by omega
    have e2 : (((d * 2 ^ k : Nat) : Int) % ((2 ^ 64 : Nat) : Int)).toNat = d * 2 ^ k := by omega
    rw [e1, e2, h1]
    omega
theorem take_step (a : Nat) (i : Nat) (c : Int) (hc : 0 ≤ c ∧ c < 256) (hi : i ≤ 9) (ha : a < 2 ^ (7 * i)) (hd : (c % 128).toNat * 2 ^ (7 * i) < 18446744073709551616) :
    bOr .u64 (a : Int) (sShl .u64 (wr .u64 (bAnd .u8 c 127)) (wr .i64 (7 * (i : Int)))) = ((a + (c % 128).toNat * 2 ^ (7 * i) : Nat) : Int) := by
  rw [and127 c hc, wU (by omega), wI (by omega)]
  have e : sShl .u64 (c % 128) (7 * (i : Int)) = (((c % 128).toNat * 2 ^ (7 * i) : Nat) : Int) := by
    show wr .u64 (c % 128 * 2 ^ (min (7 * (i : Int)).toNat 64)) = _
    rw [show min (7 * (i : Int)).toNat 64 = 7 * i by omega]
    have e1 : c % 128 * (2 : Int) ^ (7 * i) = (((c % 128).toNat * 2 ^ (7 * i) : Nat) : Int) := by
      rw [Int.natCast_mul, Int.natCast_pow]
      rw [show (((c % 128).toNat : Nat) : Int) = c % 128 by omega]
      rfl
    rw [e1, wU (by omega)]
  rw [e, or64 _ _ _ (by omega) ha hd]
theorem TakeNumber_num (z : Nat) (rest : List Int) : ∀ (n : Nat) (p : List Int) (a m : Nat), a < 2 ^ (7 * p.length) → n * 2 ^ (7 * p.length) < 18446744073709551616 → (p.length = 0 ∨ 0 < n) → p.length ≤ 9 → (num n).length ≤ m →
    codec_TakeNumber.L0 z (p ++ (num n ++ rest)) m (a : Int) (p.length : Int) = some (((a + n * 2 ^ (7 * p.length) : Nat) : Int), ((p.length + (num n).length : Nat) : Int), 0) := by
  intro n
  induction n using Nat.strongRecOn with
  | ind n ih =>
    intro p a m ha hn hp h9 hm
    rw [num.eq_1 n] at hm ⊢
    by_cases h : n ≤ 127
    · rw [if_pos h] at hm ⊢
      obtain ⟨m, rfl⟩ : ∃ k, m = k + 1 := ⟨m - 1, by simp at hm; omega⟩
      have hg : gi (0 : Int) (p ++ ([(n : Int)] ++ rest)) (p.length : Int) = (n : Int) := gi_mid _ _ _ _ _ rfl
      rw [codec_TakeNumber.L0, if_y (by simp; omega), if_n (by simp; omega), ck_y (by simp; omega), ck_y (by rw [wI (by omega)]; omega), hg, if_n (by simp; omega)]
      have hJ2 : codec_TakeNumber.J2 z (p ++ ([(n : Int)] ++ rest)) (a : Int) (p.length : Int) = some (((a + n * 2 ^ (7 * p.length) : Nat) : Int), ((p.length + 1 : Nat) : Int), 0) := by
        unfold codec_TakeNumber.J2
        rw [hg, take_step a p.length n (by omega) h9 ha (by rw [show ((n : Int) % 128).toNat = n by omega]; exact hn), show ((n : Int) % 128).toNat = n by omega, wI (by omega)]
        rfl
      have hJ1 : codec_TakeNumber.J1 z (p ++ ([(n : Int)] ++ rest)) (a : Int) (p.length : Int) = some (((a + n * 2 ^ (7 * p.length) : Nat) : Int), ((p.length + 1 : Nat) : Int), 0) := by
        unfold codec_TakeNumber.J1
        by_cases h10 : p.length = 9
        · rw [if_y (by simp [h10]), hg, if_n (by rw [h10] at hn; simp; omega), hJ2]
        · rw [if_n (by simp; omega), hJ2]
      rcases hp with hp | hp
      · rw [if_n (by rw [decide_eq_false_iff_not]; omega), hJ1]; rfl
      · by_cases hp0 : p.length = 0
        · rw [if_n (by rw [decide_eq_false_iff_not]; omega), hJ1]; rfl
        · rw [if_y (by rw [decide_eq_true_iff]; omega), if_n (by rw [beq_eq_false_iff_ne]; omega), hJ1]; rfl
    · rw [if_neg h] at hm ⊢
      obtain ⟨m, rfl⟩ : ∃ k, m = k + 1 := ⟨m - 1, by simp at hm; omega⟩
      have h8 : p.length ≤ 8 := by
        rcases Nat.lt_or_ge 8 p.length with q | q
        · have : p.length = 9 := by omega
          rw [this] at hn
          omega
        · exact q
      obtain ⟨c, hc⟩ : ∃ c : Int, c = ((n % 128 + 128 : Nat) : Int) := ⟨_, rfl⟩
      have hg : gi (0 : Int) (p ++ ((((n % 128 + 128 : Nat) : Int) :: num (n / 128)) ++ rest)) (p.length : Int) = ((n % 128 + 128 : Nat) : Int) := gi_mid _ _ _ _ _ rfl
      rw [codec_TakeNumber.L0, if_y (by simp; omega), if_n (by simp; omega), ck_y (by simp; omega), ck_y (by rw [wI (by omega)]; omega), hg, if_y (by simp; omega)]
      have hdiv : n / 128 * 2 ^ (7 * (p.length + 1)) + n % 128 * 2 ^ (7 * p.length) = n * 2 ^ (7 * p.length) := by
        rw [show 7 * (p.length + 1) = 7 + 7 * p.length by omega, Nat.pow_add, ← Nat.mul_assoc, ← Nat.add_mul, show n / 128 * 2 ^ 7 + n % 128 = n by omega]
      rw [take_step a p.length _ (by omega) h9 ha (by rw [show ((((n % 128 + 128 : Nat) : Int)) % 128).toNat = n % 128 by omega]; omega), show ((((n % 128 + 128 : Nat) : Int)) % 128).toNat = n % 128 by omega, wI (by omega)]
      have := ih (n / 128) (by omega) (p ++ [((n % 128 + 128 : Nat) : Int)]) (a + n % 128 * 2 ^ (7 * p.length)) m ?_ ?_ (.inr (by omega)) (by simp; omega) (by simpa using hm)
      · simp only [List.length_append, List.length_singleton] at this
        rw [show p ++ ((((n % 128 + 128 : Nat) : Int) :: num (n / 128)) ++ rest) = p ++ [((n % 128 + 128 : Nat) : Int)] ++ (num (n / 128) ++ rest) by simp]
        rw [show ((p.length : Int) + 1) = ((p.length + 1 : Nat) : Int) from rfl, this]
        congr 2
        · congr 1; omega
        · simp; omega
      · simp only [List.length_append, List.length_singleton]
        rw [show 7 * (p.length + 1) = 7 + 7 * p.length by omega, Nat.pow_add]
        have : n % 128 * 2 ^ (7 * p.length) ≤ 127 * 2 ^ (7 * p.length) := Nat.mul_le_mul_right _ (by omega)
        omega
      · simp only [List.length_append, List.length_singleton]
        omega
theorem TakeNumber_f {z : Nat} (hz : 16777216 ≤ z) (n : Nat) (hn : n < 18446744073709551616) (rest : List Int) : codec_TakeNumber.f z (num n ++ rest) = some ((n : Int), ((num n).length : Int), 0) := by
  have := TakeNumber_num z rest n [] 0 z (by simp) (by simpa using hn) (.inl rfl) (by simp) (by have := num_len10 (n := n) (by omega); omega)
  simpa [codec_TakeNumber.f] using this
end Go.Proofs.Ytghpokmkhlmgcaa

namespace Go.Proofs.Ytghpokmkhlmgcaa
open Go Go.Proofs.Ytghpokmkhlmgcaa.X
set_option linter.unusedVariables false

theorem cut_drop' {α : Type} (xs : List α) (n m : Nat) (hm : m = xs.length) : cut xs n m = xs.drop n := by subst hm; simp [cut]
theorem cut_take' {α : Type} (xs : List α) (m : Nat) : cut xs 0 m = xs.take m := by simp [cut]
theorem cut_mid {α : Type} (a b c : List α) (n m : Nat) (hn : n = a.length) (hm : m = a.length + b.length) : cut (a ++ (b ++ c)) n m = b := by
  subst hn hm
  unfold cut
  rw [List.take_append, List.drop_append]
  simp
theorem length_f {z : Nat} (hz : 16777216 ≤ z) (n : Nat) (hn : n ≤ 2097152) (rest : List Int) (more : Nat) (hr : n + more ≤ rest.length) (hl : rest.length ≤ 1152921504606846976) (hm : more ≤ 100) : codec_length.f z (num n ++ rest) (more : Int) = some ((n : Int), ((num n).length : Int), 0) := by
  have h10 := num_len10 (n := n) (by omega)
  unfold codec_length.f
  rw [TakeNumber_f hz n (by omega), bd_some]
  dsimp only
  rw [if_n (by rfl), if_n (by simp; omega), List.length_append, wI (x := (((num n).length + rest.length : Nat) : Int) - (num n).length) (by omega), wI (by omega), wI (x := (n : Int)) (by omega), if_n (by simp; omega)]
theorem TakeFrame_f {z : Nat} (hz : 16777216 ≤ z) (k : Int) {body : List Int} (hb : Bys body) (hl : body.length ≤ 2097152) (rest : List Int) (hr : rest.length ≤ 8388608) : codec_TakeFrame.f z (frm k body ++ rest) = some (k, body, ((frm k body).length : Int), 0) := by
  have h10 := num_len10 (n := body.length) (by omega)
  have hlen := frm_len k body
  obtain ⟨x, hx⟩ : ∃ x, frm k body ++ rest = x := ⟨_, rfl⟩
  have e1 : x = [k] ++ (num body.length ++ (sum4 (hd k body ++ body) ++ body ++ rest)) := by rw [← hx]; simp [frm, hd]
  have e2 : x = hd k body ++ (sum4 (hd k body ++ body) ++ (body ++ rest)) := by rw [← hx]; simp [frm]
  have e3 : x = (hd k body ++ sum4 (hd k body ++ body)) ++ (body ++ rest) := by rw [← hx]; simp [frm]
  have h4 : (sum4 (hd k body ++ body)).length = 4 := rfl
  have hh : (hd k body).length = (num body.length).length + 1 := by simp [hd]
  have hxl : x.length = (frm k body).length + rest.length := by rw [← hx, List.length_append]
  rw [hx]
  unfold codec_TakeFrame.f
  rw [if_n (by rw [beq_eq_false_iff_ne]; omega), ck_y (by omega), cut_drop' x _ _ (by omega), show Int.toNat 1 = 1 from rfl]
  have hd1 : x.drop 1 = num body.length ++ (sum4 (hd k body ++ body) ++ body ++ rest) := by rw [e1]; rfl
  rw [hd1, show (4 : Int) = ((4 : Nat) : Int) from rfl, length_f hz _ hl _ 4 (by simp only [List.length_append]; omega) (by simp only [List.length_append]; omega) (by omega), bd_some]
  dsimp only
  rw [if_n (by rfl), wI (x := ((num body.length).length : Int) + 1) (by omega), wI (x := ((num body.length).length : Int) + 5) (by omega), wI (x := ((num body.length).length : Int) + 5 + body.length) (by omega), ck_y (by omega), ck_y (by omega), ck_y (by omega)]
  have c1 : cut x (Int.toNat 0) (((num body.length).length : Int) + 1).toNat = hd k body := by
    rw [show Int.toNat 0 = 0 from rfl, cut_take', e2, show (((num body.length).length : Int) + 1).toNat = (hd k body).length by omega, List.take_left']
    rfl
  have c2 : cut x (((num body.length).length : Int) + 1).toNat (((num body.length).length : Int) + 5).toNat = sum4 (hd k body ++ body) := by
    rw [e2]
    exact cut_mid _ _ _ _ _ (by omega) (by omega)
  have c3 : cut x (((num body.length).length : Int) + 5).toNat (((num body.length).length : Int) + 5 + body.length).toNat = body := by
    rw [e3]
    refine cut_mid _ _ _ _ _ ?_ ?_ <;> simp only [List.length_append] <;> omega
  rw [c1, c2, c3, sums_f hz (by omega) (by omega), bd_some, Equal_f (xs := sum4 (hd k body ++ body)) (ys := sum4 (hd k body ++ body)) (le4_bys _) (le4_bys _), bd_some]
  rw [if_n (by simp), ck_y (by omega)]
  unfold bytes_Clone.f slices_Clip_byte.f
  rw [ck_y (by omega), bd_some, bd_some]
  have hg : gi (0 : Int) x 0 = k := by rw [e1]; exact gi_mid 0 [] k _ 0 rfl
  rw [hg]
  congr 3
  rw [hlen]
  simp
  omega
/-- all that is laid of entries behind a key -/
def lays : List Int → List api_Entry → List Int
  | _, [] => []
  | a, e :: r => layS a e ++ lays e.Key r
theorem entry_f {z : Nat} (hz : 16777216 ≤ z) {ahead : List Int} (ha : ahead.length ≤ 256) {e : api_Entry} (he : fitS e) (rest : List Int) (hr : rest.length ≤ 8388608) : sstable_entry.f z (layS ahead e ++ rest) ahead = some (e, rest, true) := by
  have hc := com_le ahead e.Key
  obtain ⟨h1, h2, h3, h4, h5, h6⟩ := he
  have ta := num_lenp 2 (com ahead e.Key) (by omega) (by omega)
  have tb := num_lenp 2 (e.Key.length - com ahead e.Key) (by omega) (by omega)
  have tc := num_len10 (n := e.Seq.toNat) (by omega)
  have td := num_lenp 3 e.Value.length (by omega) (by omega)
  obtain ⟨N, hN⟩ : ∃ N, com ahead e.Key = N := ⟨_, rfl⟩
  obtain ⟨dl, hdl⟩ : ∃ dl : Int, (if e.Del then (1 : Int) else 0) = dl := ⟨_, rfl⟩
  have hd1 : dl ≤ 1 := by rw [← hdl]; split <;> omega
  have hd2 : (dl == 1) = e.Del := by rw [← hdl]; cases e.Del <;> rfl
  have e0 : layS ahead e ++ rest = num N ++ (num (e.Key.length - N) ++ (num e.Seq.toNat ++ (dl :: (num e.Value.length ++ (e.Key.drop N ++ (e.Value ++ rest)))))) := by
    unfold layS; rw [hN, hdl]; simp
  rw [e0]
  have hct := com_take ahead e.Key
  rw [hN] at hc ta tb hct
  obtain ⟨m, rfl⟩ : ∃ m, z = m + 5 := ⟨z - 5, by omega⟩
  unfold sstable_entry.f
  -- the numbers
  have J : ∀ (i : Int) (n : Nat) (X : List Int) (q : List Int → Int → Bool → List Int → Option (api_Entry × List Int × Bool)) (d : Bool) (ns : List Int), n < 18446744073709551616 → 0 ≤ i ∧ i < 4 → (num n).length ≤ 10 →
      sstable_entry.J3 (m + 5) q ahead i (num n ++ X) d ns = q X (i + 1) d (ns.set i.toNat n) := by
    intro i n X q d ns hn hk hl
    unfold sstable_entry.J3
    rw [TakeNumber_f hz n hn, bd_some]
    dsimp only
    rw [if_n (by rfl), ck_y (by simp; omega), ck_y (by omega), wI (by omega), cut_drop' _ _ _ (by omega), Int.toNat_natCast, List.drop_left' rfl]
  rw [sstable_entry.L0, if_y (by rfl), if_n (by rfl), J 0 _ _ _ _ _ (by omega) (by omega) (by omega)]
  rw [sstable_entry.L0, if_y (by rfl), if_n (by rfl), J _ _ _ _ _ _ (by omega) (by omega) (by omega)]
  rw [sstable_entry.L0, if_y (by rfl), if_n (by rfl), J _ _ _ _ _ _ (by omega) (by omega) (by omega)]
  rw [sstable_entry.L0, if_y (by rfl), if_y (by rfl), if_n (by simp; omega), ck_y (by simp; omega)]
  have hg : gi (0 : Int) (dl :: (num e.Value.length ++ (e.Key.drop N ++ (e.Value ++ rest)))) 0 = dl := rfl
  rw [hg, if_n (by simp; omega), ck_y (by simp; omega), cut_drop' _ _ _ (by omega), hd2]
  rw [show List.drop (Int.toNat 1) (dl :: (num e.Value.length ++ (e.Key.drop N ++ (e.Value ++ rest)))) = num e.Value.length ++ (e.Key.drop N ++ (e.Value ++ rest)) from rfl]
  rw [J _ _ _ _ _ _ (by omega) (by omega) (by omega)]
  rw [sstable_entry.L0, if_n (by rfl)]
  have hns : ((([(0 : Int), 0, 0, 0].set (Int.toNat 0) (N : Int)).set (Int.toNat (0 + 1)) ((e.Key.length - N : Nat) : Int)).set (Int.toNat (0 + 1 + 1)) ((e.Seq.toNat : Nat) : Int)).set (Int.toNat (0 + 1 + 1 + 1)) ((e.Value.length : Nat) : Int) = [(N : Int), ((e.Key.length - N : Nat) : Int), ((e.Seq.toNat : Nat) : Int), ((e.Value.length : Nat) : Int)] := rfl
  rw [hns]
  have g0 : ∀ (a b c d : Int), gi (0 : Int) [a, b, c, d] 0 = a := fun _ _ _ _ => rfl
  have g1 : ∀ (a b c d : Int), gi (0 : Int) [a, b, c, d] 1 = b := fun _ _ _ _ => rfl
  have g2 : ∀ (a b c d : Int), gi (0 : Int) [a, b, c, d] 2 = c := fun _ _ _ _ => rfl
  have g3 : ∀ (a b c d : Int), gi (0 : Int) [a, b, c, d] 3 = d := fun _ _ _ _ => rfl
  simp only [g0, g1, g2, g3]
  have hX : (e.Key.drop N ++ (e.Value ++ rest)).length = (e.Key.length - N) + (e.Value.length + rest.length) := by simp
  rw [wU (x := (ahead.length : Int)) (by omega), wU (x := ((e.Key.drop N ++ (e.Value ++ rest)).length : Int)) (by omega), if_n (by simp; omega), if_n (by simp; omega), wU (by omega), if_n (by rw [decide_eq_false_iff_not]; omega), ck_y (by omega), ck_y (by omega)]
  have k1 : cut ahead (Int.toNat 0) (Int.toNat (N : Int)) = ahead.take N := by rw [Int.toNat_natCast]; exact cut_take' _ _
  have k2 : cut (e.Key.drop N ++ (e.Value ++ rest)) (Int.toNat 0) (Int.toNat ((e.Key.length - N : Nat) : Int)) = e.Key.drop N := by
    rw [Int.toNat_natCast]
    exact cut_mid [] _ _ _ _ rfl (by simp)
  have k3 : cut (e.Key.drop N ++ (e.Value ++ rest)) (Int.toNat ((e.Key.length - N : Nat) : Int)) (Int.toNat ((e.Key.drop N ++ (e.Value ++ rest)).length : Int)) = e.Value ++ rest := by
    rw [cut_drop' _ _ _ (by omega), Int.toNat_natCast, List.drop_left']
    simp
  rw [k1, k2, k3, Concat_f hz (by simp) (by simp; omega), bd_some, ck_y (by simp; omega)]
  have k4 : cut (e.Value ++ rest) (Int.toNat 0) (Int.toNat (e.Value.length : Int)) = e.Value := by
    rw [Int.toNat_natCast]
    exact cut_mid [] _ _ _ _ rfl (by simp)
  have k5 : cut (e.Value ++ rest) (Int.toNat (e.Value.length : Int)) (Int.toNat ((e.Value ++ rest).length : Int)) = rest := by
    rw [cut_drop' _ _ _ (by omega), Int.toNat_natCast, List.drop_left' rfl]
  rw [k4, k5]
  unfold bytes_Clone.f slices_Clip_byte.f
  rw [ck_y (by omega), bd_some, bd_some]
  have k6 : [ahead.take N, e.Key.drop N].flatten = e.Key := by simp [hct]
  rw [k6, show ((e.Seq.toNat : Nat) : Int) = e.Seq by omega]
theorem lays_len : ∀ (es : List api_Entry) (a : List Int), es.length ≤ (lays a es).length
  | [], _ => by simp [lays]
  | e :: r, a => by
    have := lays_len r e.Key
    have h1 := num_len (com a e.Key)
    simp [lays, layS]
    omega
theorem lays_snoc : ∀ (es : List api_Entry) (a : List Int) (e : api_Entry), lays a (es ++ [e]) = lays a es ++ layS ((es.getLast?.map (·.Key)).getD a) e
  | [], a, e => by simp [lays]
  | x :: es, a, e => by
    simp only [List.cons_append, lays, lays_snoc es x.Key e, List.append_assoc]
    congr 3
    cases es with
    | nil => rfl
    | cons y es =>
      simp only [List.getLast?_cons_cons, List.getLast?_cons]
      rfl
theorem entries_L0' {z : Nat} (hz : 16777216 ≤ z) {fr : Int × List Int × Int × Int} : ∀ (es : List api_Entry) (m : Nat) (out : List api_Entry) (ahead : List Int), es.length < m → (∀ e ∈ es, fitS e) → ahead.length ≤ 256 → (lays ahead es).length ≤ 8388608 → out.length + es.length ≤ 8388608 →
    sstable_entries.L0 z fr m (lays ahead es) out ahead = some (out ++ es, fr.2.2.1, true)
  | _, 0, _, _, h, _, _, _, _ => by omega
  | [], m + 1, out, ahead, _, _, _, _, _ => by
    rw [sstable_entries.L0, lays, if_n (by rfl), List.append_nil]
  | e :: r, m + 1, out, ahead, hm, hf, ha, hl, ho => by
    have he := hf e (List.mem_cons_self ..)
    have hpos := layS_len (ahead := ahead) he
    rw [lays] at hl ⊢
    rw [List.length_append] at hl
    rw [sstable_entries.L0, if_y (by rw [decide_eq_true_iff, List.length_append]; omega), entry_f hz ha he _ (by omega), bd_some]
    dsimp only
    rw [if_n (by rfl), if_n (by have := he.2.2.1; simp; omega), ck_y (by simp at ho ⊢; omega)]
    rw [entries_L0' hz r m (out ++ [e]) e.Key (by simp at hm; omega) (fun x hx => hf x (List.mem_cons_of_mem _ hx)) he.2.2.1 (by omega) (by simp at ho ⊢; omega)]
    simp
theorem entries_f {z : Nat} (hz : 16777216 ≤ z) {es : List api_Entry} (hf : ∀ e ∈ es, fitS e ∧ okE e) (hl : (lays [] es).length ≤ 2097152) (rest : List Int) (hr : rest.length ≤ 8388608) : sstable_entries.f z (frm 68 (lays [] es) ++ rest) = some (es, ((frm 68 (lays [] es)).length : Int), true) := by
  have hb : ∀ (es : List api_Entry) (a : List Int), (∀ e ∈ es, okE e) → Bys (lays a es) := by
    intro es
    induction es with
    | nil => intro a _; exact Bys.nil
    | cons e r ih => intro a h; exact Bys.app (layS_bys (h e (List.mem_cons_self ..))) (ih _ fun x hx => h x (List.mem_cons_of_mem _ hx))
  unfold sstable_entries.f
  rw [TakeFrame_f hz 68 (hb es [] fun e he => (hf e he).2) hl rest hr, bd_some]
  dsimp only
  have hn := lays_len es []
  rw [if_n (by rfl), entries_L0' hz es z [] [] (by omega) (fun e he => (hf e he).1) (by simp) (by omega) (by simp; omega)]
  rfl
end Go.Proofs.Ytghpokmkhlmgcaa

namespace Go.Proofs.Ytghpokmkhlmgcaa
open Go Go.Proofs.Ytghpokmkhlmgcaa.X
set_option linter.unusedVariables false

/-! ### which entries lie in which block -/
def lastKey (es : List api_Entry) : List Int := (es.getLast?.map (·.Key)).getD []
def firstKey (es : List api_Entry) : List Int := (es.head?.map (·.Key)).getD []
def blkOf (es : List api_Entry) : Blk := (lays [] es, (es.length : Int), lastKey es)
theorem lastKey_snoc (es : List api_Entry) (e : api_Entry) : lastKey (es ++ [e]) = e.Key := by simp [lastKey]
structure Lies (w : sstable_builder) (pre : List api_Entry) (gs : List (List api_Entry)) (cur : List api_Entry) : Prop where
  all : gs.flatten ++ cur = pre
  ne : ∀ g ∈ gs, g ≠ []
  cne : pre ≠ [] → cur ≠ []
  small : ∀ g ∈ gs, (lays [] g).length ≤ 65900
  out : w.out = outF (gs.map blkOf)
  index : w.index = idxF 0 (gs.map blkOf)
  blocks : w.blocks = gs.length
  body : w.body = lays [] cur
  many : w.many = cur.length
  last : w.last = lastKey cur
theorem Lies.zero : Lies w0 [] [] [] := ⟨rfl, by simp, by simp, by simp, rfl, rfl, rfl, rfl, rfl, rfl⟩
theorem lies_close {w : sstable_builder} {pre : List api_Entry} {gs : List (List api_Entry)} {cur : List api_Entry} (h : Lies w pre gs cur) :
    (closeS w).out = outF ((gs ++ [cur]).map blkOf) ∧ (closeS w).index = idxF 0 ((gs ++ [cur]).map blkOf) ∧ (closeS w).blocks = (gs ++ [cur]).length := by
  obtain ⟨h1, h2, h3, h4, h5, h6, h7, h8, h9, h10⟩ := h
  rw [List.map_append, List.map_singleton, outF_snoc, idxF_snoc]
  refine ⟨?_, ?_, ?_⟩
  · simp [closeS, h5, h8, fr1, blkOf]
  · simp [closeS, h5, h6, h8, h9, h10, fr1, blkOf]
  · simp [closeS, h7]
theorem Lies.add {n : Nat} {w : sstable_builder} {pre : List api_Entry} {gs : List (List api_Entry)} {cur : List api_Entry} (h : Lies w pre gs cur) (hi : Inv n w) (e : api_Entry) (bb : Int) : ∃ gs' cur', Lies (addS w e bb) (pre ++ [e]) gs' cur' := by
  have hc := lies_close h
  obtain ⟨h1, h2, h3, h4, h5, h6, h7, h8, h9, h10⟩ := h
  unfold addS
  by_cases hm : w.many > 0
  · rw [if_pos hm]
    have hcur : cur ≠ [] := by rintro rfl; simp at h9; omega
    by_cases hl : ((w.body ++ layS w.last e).length : Int) ≤ bb
    · rw [if_pos hl]
      refine ⟨gs, cur ++ [e], ?_, h2, by simp, h4, h5, h6, h7, ?_, ?_, ?_⟩
      · rw [← List.append_assoc, h1]
      · dsimp only; rw [h8, h10, lays_snoc]; rfl
      · dsimp only; rw [h9]; simp
      · dsimp only; rw [lastKey_snoc]
    · rw [if_neg hl]
      refine ⟨gs ++ [cur], [e], ?_, ?_, by simp, ?_, hc.1, hc.2.1, hc.2.2, ?_, rfl, ?_⟩
      · rw [List.flatten_append]; simp [← h1]
      · intro g hg
        rcases List.mem_append.1 hg with q | q
        · exact h2 g q
        · rw [List.mem_singleton.1 q]; exact hcur
      · intro g hg
        rcases List.mem_append.1 hg with q | q
        · exact h4 g q
        · rw [List.mem_singleton.1 q, ← h8]; exact hi.body
      · simp [lays]
      · simp [lastKey]
  · rw [if_neg hm]
    have hcur : cur = [] := by
      have := hi.many
      rw [h9] at this hm
      exact List.eq_nil_of_length_eq_zero (by omega)
    subst hcur
    have hpre : pre = [] := by
      apply Classical.byContradiction
      intro hp
      exact h3 hp rfl
    subst hpre
    refine ⟨gs, [e], ?_, h2, by simp, h4, h5, h6, h7, by simp [lays], rfl, by simp [lastKey]⟩
    rw [List.append_nil] at h1
    rw [h1]
theorem run_lies {bb : Int} (hb : bb ≤ 65536) : ∀ (l : List api_Entry) (pre : List api_Entry) (keys : List (List Int)) (w : sstable_builder) (r : List (List Int) × sstable_builder), pre.length + l.length ≤ 65536 → (∀ e ∈ l, fitS e ∧ okE e) → Inv pre.length w → (∃ gs cur, Lies w pre gs cur) → (∀ e ∈ pre, e.Key ∈ keys) →
    run bb l keys w = some r → (∃ gs cur, Lies r.2 (pre ++ l) gs cur) ∧ (∀ e ∈ pre ++ l, e.Key ∈ r.1) ∧ r.1.length ≤ keys.length + l.length
  | [], pre, keys, w, r, _, _, _, h, hk, hr => by
    rw [run] at hr
    cases hr
    rw [List.append_nil]
    exact ⟨h, hk, by simp⟩
  | e :: l, pre, keys, w, r, hl, hf, hi, ⟨gs, cur, h⟩, hk, hr => by
    rw [run] at hr
    split at hr
    · cases hr
    · rename_i ho
      have hfe := hf e (List.mem_cons_self ..)
      simp only [List.length_cons] at hl
      have := run_lies hb l (pre ++ [e]) (keyAdd keys e.Key) _ r (by simp; omega) (fun x hx => hf x (List.mem_cons_of_mem _ hx)) (by rw [List.length_append]; exact hi.add (by omega) (by omega) hfe.1 hfe.2 hb) (h.add hi e bb) ?_ hr
      · rw [List.append_assoc] at this
        refine ⟨this.1, this.2.1, ?_⟩
        have h1 := keyAdd_len keys e.Key
        have h2 := this.2.2
        simp only [List.length_cons]
        omega
      · intro x hx
        have mem : ∀ k, k ∈ keys → k ∈ keyAdd keys e.Key := by
          intro k hk
          unfold keyAdd
          split
          · exact hk
          · exact List.mem_append_left _ hk
        rcases List.mem_append.1 hx with q | q
        · exact mem _ (hk x q)
        · rw [List.mem_singleton.1 q]
          unfold keyAdd
          split
          · rename_i hlast
            exact List.mem_of_getLast? hlast
          · simp

/-! ### Open -/
theorem low_step {n c : Int} (hn : 0 ≤ n ∧ n ≤ 1099511627776) (hc : 0 ≤ c ∧ c < 256) : bOr .i64 (sShl .i64 n 8) (wr .i64 c) = n * 256 + c := by
  have e : sShl .i64 n 8 = n * 256 := by
    show wr .i64 (n * 2 ^ (min (Int.toNat 8) 64)) = _
    rw [show (2 : Int) ^ (min (Int.toNat 8) 64) = 256 from rfl, wI (by omega)]
  rw [e, wI (x := c) (by omega)]
  show wr .i64 (((BitVec.ofInt 64 (n * 256) ||| BitVec.ofInt 64 c).toNat : Nat) : Int) = _
  have h1 : (n.toNat * 256) ||| c.toNat = n.toNat * 256 + c.toNat := by
    have := Nat.two_pow_add_eq_or_of_lt (i := 8) (b := c.toNat) (by omega) n.toNat
    rw [Nat.mul_comm n.toNat, show (256 : Nat) = 2 ^ 8 from rfl, ← this]
  rw [BitVec.toNat_or, BitVec.toNat_ofInt, BitVec.toNat_ofInt]
  have e1 : (n * 256 % ((2 ^ 64 : Nat) : Int)).toNat = n.toNat * 256 := by omega
  have e2 : (c % ((2 ^ 64 : Nat) : Int)).toNat = c.toNat := by omega
  rw [e1, e2, h1, wI (by omega)]
  omega
theorem low_f {z : Nat} (hz : 16777216 ≤ z) {n : Int} (hn : 0 ≤ n ∧ n ≤ 65536) : sstable_low.f z (highS n 4) = some n := by
  have e : highS n 4 = [n / 16777216 % 256, n / 65536 % 256, n / 256 % 256, n / 1 % 256] := rfl
  rw [e]
  obtain ⟨m, rfl⟩ : ∃ m, z = m + 5 := ⟨z - 5, by omega⟩
  unfold sstable_low.f
  have g : ∀ a b c d : Int, gi (0 : Int) [a, b, c, d] 0 = a ∧ gi (0 : Int) [a, b, c, d] (0 + 1) = b ∧ gi (0 : Int) [a, b, c, d] (0 + 1 + 1) = c ∧ gi (0 : Int) [a, b, c, d] (0 + 1 + 1 + 1) = d := fun _ _ _ _ => ⟨rfl, rfl, rfl, rfl⟩
  rw [sstable_low.L0, if_y (by rfl), ck_y (by simp), (g _ _ _ _).1, low_step (by omega) (by omega), wI (by omega)]
  rw [sstable_low.L0, if_y (by rfl), ck_y (by simp), (g _ _ _ _).2.1, low_step (by omega) (by omega), wI (by omega)]
  rw [sstable_low.L0, if_y (by rfl), ck_y (by simp), (g _ _ _ _).2.2.1, low_step (by omega) (by omega), wI (by omega)]
  rw [sstable_low.L0, if_y (by rfl), ck_y (by simp), (g _ _ _ _).2.2.2, low_step (by omega) (by omega), wI (by omega)]
  rw [sstable_low.L0, if_n (by rfl)]
  congr 1
  omega
def tblocks : Nat → List (List api_Entry) → List sstable_block
  | _, [] => []
  | o, g :: gs => ⟨o, ((o + (fr1 (blkOf g)).length : Nat) : Int), g.length, firstKey g, lastKey g⟩ :: tblocks (o + (fr1 (blkOf g)).length) gs
theorem tblocks_len : ∀ (gs : List (List api_Entry)) (o : Nat), (tblocks o gs).length = gs.length
  | [], _ => rfl
  | g :: gs, o => by rw [tblocks, List.length_cons, List.length_cons, tblocks_len gs]
theorem Open_L1' {z : Nat} (hz : 16777216 ≤ z) {b b' : List Int} (hb : b.length ≤ 4194304) {R : List Int} (hR : ∃ q, R = 70 :: q) : ∀ (gs : List (List api_Entry)) (m : Nat) (P : List Int) (all : List api_Entry) (bl : List sstable_block), gs.length < m → b = P ++ (outF (gs.map blkOf) ++ R) → (∀ g ∈ gs, g ≠ [] ∧ (∀ e ∈ g, fitS e ∧ okE e) ∧ (lays [] g).length ≤ 65900) →
    all.length + gs.flatten.length ≤ 65536 → bl.length + gs.length ≤ 65536 →
    sstable_Open.L1 z b b' m all (P.length : Int) bl = sstable_Open.J3 z b b' (bl ++ tblocks P.length gs) (all ++ gs.flatten) ((P.length + (outF (gs.map blkOf)).length : Nat) : Int)
  | _, 0, _, _, _, h, _, _, _, _ => by omega
  | [], m + 1, P, all, bl, _, hbP, _, _, _ => by
    obtain ⟨q, rfl⟩ := hR
    have hlen : P.length < b.length := by rw [hbP]; simp [outF]
    rw [sstable_Open.L1, if_y (by rw [decide_eq_true_iff]; omega), ck_y (by omega)]
    have hg : gi (0 : Int) b (P.length : Int) = 70 := by rw [hbP]; exact gi_mid _ _ _ _ _ rfl
    rw [hg, if_n (by rfl)]
    simp [tblocks, outF]
  | g :: gs, m + 1, P, all, bl, hm, hbP, hgs, hal, hbl => by
    obtain ⟨hne, hfe, hsm⟩ := hgs g (List.mem_cons_self ..)
    have hout : outF ((g :: gs).map blkOf) = fr1 (blkOf g) ++ outF (gs.map blkOf) := rfl
    rw [hout] at hbP
    have hfl : (fr1 (blkOf g)).length = (lays [] g).length + (num (lays [] g).length).length + 5 := frm_len _ _
    have h3 := num_lenp 3 (lays [] g).length (by omega) (by omega)
    have hgl : 0 < g.length := List.length_pos_iff.2 hne
    have hlen : b.length = P.length + ((fr1 (blkOf g)).length + (outF (gs.map blkOf)).length + R.length) := by rw [hbP]; simp [Nat.add_assoc]
    simp only [List.flatten_cons, List.length_append, List.length_cons] at hal hbl hm
    rw [sstable_Open.L1, if_y (by rw [decide_eq_true_iff]; omega), ck_y (by omega)]
    have hg : gi (0 : Int) b (P.length : Int) = 68 := by rw [hbP]; exact gi_mid _ P 68 _ _ rfl
    rw [hg, if_y (by rfl), ck_y (by omega), cut_drop' _ _ _ (by omega), Int.toNat_natCast]
    have hd : b.drop P.length = frm 68 (lays [] g) ++ (outF (gs.map blkOf) ++ R) := by
      rw [hbP, List.drop_left' rfl, List.append_assoc]; rfl
    rw [hd, entries_f hz hfe (by omega) _ (by simp only [List.length_append]; omega), bd_some]
    dsimp only
    have hlk : (gi dapi_Entry g ((g.length : Int) - 1)).Key = lastKey g := by
      rw [show ((g.length : Int) - 1) = ((g.length - 1 : Nat) : Int) by omega, gi_nat _ _ _ (by omega)]
      unfold lastKey
      rw [List.getLast?_eq_getElem?, List.getElem?_eq_getElem (by omega)]
      rfl
    have hfk : (gi dapi_Entry g 0).Key = firstKey g := by
      cases g with
      | nil => exact absurd rfl hne
      | cons e r => rfl
    rw [if_n (by rfl), if_n (by rw [beq_eq_false_iff_ne]; omega), ck_y (by omega), wI (x := (g.length : Int) - 1) (by omega), ck_y (by omega), hlk, hfk, ck_y (by simp; omega), ck_y (by omega)]
    have hw : wr .i64 ((P.length : Int) + ((frm 68 (lays [] g)).length : Int)) = (((P ++ fr1 (blkOf g)).length : Nat) : Int) := by
      rw [wI (by have : (fr1 (blkOf g)).length = (frm 68 (lays [] g)).length := rfl; omega)]
      simp [fr1, blkOf]
    rw [hw, Open_L1' hz (b' := b') hb hR gs m (P ++ fr1 (blkOf g)) (all ++ g) (bl ++ [(⟨(P.length : Int), ((P ++ fr1 (blkOf g)).length : Int), (g.length : Int), firstKey g, lastKey g⟩ : sstable_block)]) (by omega) (by rw [hbP]; simp) (fun x hx => hgs x (List.mem_cons_of_mem _ hx)) (by rw [List.length_append]; omega) (by rw [List.length_append, List.length_singleton]; omega)]
    simp [tblocks, outF, Nat.add_assoc]
theorem Open_f {z : Nat} (hz : 16777216 ≤ z) {l : List api_Entry} (hf : ∀ e ∈ l, okE e) {bb pk : Int} {b : List Int} (h : buildS l bb pk = (b, 0)) :
    ∃ (gs : List (List api_Entry)) (keys : List (List Int)) (R : List Int), gs.flatten = l ∧ gs ≠ [] ∧ (∀ g ∈ gs, g ≠ [] ∧ (lays [] g).length ≤ 65900) ∧ (∀ e ∈ l, fitS e) ∧ (∀ e ∈ l, e.Key ∈ keys) ∧ (keys.length ≤ 65536) ∧ (1 ≤ pk ∧ pk ≤ 30) ∧ b = outF (gs.map blkOf) ++ R ∧ b.length ≤ 4194304 ∧ l.length ≤ 65536 ∧ chk none l = none ∧
      sstable_Open.f z b = some (some ⟨b, tblocks 0 gs, mkS keys pk, l.length, 0⟩, 0) := by
  obtain ⟨hbb, hpk, hl, hc, keys, w, hr, hi, hix, hlen, hb⟩ := buildS_out hf h
  have hfit := chk_fit hc
  obtain ⟨⟨gs, cur, hL⟩, hk, hkl⟩ := run_lies hbb.2 l [] [] w0 (keys, w) (by simpa using hl.2) (fun e he => ⟨hfit e he, hf e he⟩) Inv.zero ⟨[], [], Lies.zero⟩ (by simp) hr
  rw [List.nil_append] at hL hk
  have hcl := lies_close hL
  obtain ⟨GS, hGS⟩ : ∃ GS, gs ++ [cur] = GS := ⟨_, rfl⟩
  rw [hGS] at hcl
  have hcur : cur ≠ [] := hL.cne (by intro e; rw [e] at hl; simp at hl)
  have hsm : ∀ g ∈ GS, g ≠ [] ∧ (lays [] g).length ≤ 65900 := by
    intro g hg
    rw [← hGS] at hg
    rcases List.mem_append.1 hg with q | q
    · exact ⟨hL.ne g q, hL.small g q⟩
    · rw [List.mem_singleton.1 q, ← hL.body]
      exact ⟨hcur, hi.body⟩
  have hflat : GS.flatten = l := by rw [← hGS, ← hL.all]; simp
  have hkl' : keys.length ≤ 65536 := by simp at hkl; omega
  obtain ⟨T, hT⟩ : ∃ T, tailS ((closeS w).out.length : Int) (((closeS w).out ++ frm 70 (mkS keys pk)).length : Int) (l.length : Int) bb pk = T := ⟨_, rfl⟩
  obtain ⟨R, hR⟩ : ∃ R, frm 70 (mkS keys pk) ++ (frm 73 (idxS (closeS w)) ++ T) = R := ⟨_, rfl⟩
  have hbR : b = outF (GS.map blkOf) ++ R := by
    rw [hb, ← hR, ← hT]
    unfold outS
    rw [hcl.1]
    simp only [List.append_assoc]
  refine ⟨GS, keys, R, hflat, by rw [← hGS]; simp, hsm, hfit, hk, hkl', hpk, hbR, hlen, hl.2, hc, ?_⟩
  have hmk := mkS_len hkl' hpk
  have hT40 : T.length = 40 := by rw [← hT]; exact tailS_len ..
  have hb40 : 40 ≤ b.length := by rw [hbR, ← hR]; simp; omega
  have hgl : GS.length ≤ GS.flatten.length := by
    clear hGS hcl hflat hbR
    induction GS with
    | nil => simp
    | cons g gs ih =>
      have := List.length_pos_iff.2 (hsm g (List.mem_cons_self ..)).1
      have := ih (fun x hx => hsm x (List.mem_cons_of_mem _ hx))
      simp only [List.flatten_cons, List.length_append, List.length_cons]
      omega
  rw [hflat] at hgl
  unfold sstable_Open.f
  rw [if_n (by rw [decide_eq_false_iff_not]; omega), if_n (by rw [decide_eq_false_iff_not]; omega)]
  have hcln : bytes_Clone.f b = some b := by unfold bytes_Clone.f; rw [ck_y (by omega)]
  rw [hcln, bd_some, show slices_Clip_byte.f b = some b from rfl, bd_some]
  have hstep := Open_L1' hz (b := b) (b' := b) hlen (R := R) ⟨_, by rw [← hR]; rfl⟩ GS z [] [] [] (by omega) (by rw [List.nil_append]; exact hbR) (fun g hg => ⟨(hsm g hg).1, fun e he => (by
      have hm : e ∈ l := by rw [← hflat]; exact List.mem_flatten.2 ⟨g, hg, he⟩
      exact ⟨hfit e hm, hf e hm⟩), (hsm g hg).2⟩) (by simp only [List.length_nil, Nat.zero_add]; rw [hflat]; omega) (by simp only [List.length_nil, Nat.zero_add]; omega)
  simp only [List.length_nil, List.nil_append, Nat.zero_add] at hstep
  rw [show ((0 : Nat) : Int) = 0 from rfl] at hstep
  rw [hstep, hflat]
  unfold sstable_Open.J3
  rw [wI (by omega), ck_y (by omega)]
  have hcT : cut b (Int.toNat ((b.length : Int) - 40)) (Int.toNat (b.length : Int)) = T := by
    rw [cut_drop' _ _ _ (by omega)]
    have hbT : b = (outF (GS.map blkOf) ++ frm 70 (mkS keys pk) ++ frm 73 (idxS (closeS w))) ++ T := by rw [hbR, ← hR]; simp
    have hl40 : (Int.toNat ((b.length : Int) - 40)) = (outF (GS.map blkOf) ++ frm 70 (mkS keys pk) ++ frm 73 (idxS (closeS w))).length := by
      have := congrArg List.length hbT
      rw [List.length_append, hT40] at this
      omega
    rw [hl40]
    conv => lhs; rw [hbT]
    rw [List.drop_left' rfl]
  rw [hcT, ck_y (by omega), ck_y (by omega)]
  have hT2 : T = (highS ((closeS w).out.length : Int) 8 ++ highS (((closeS w).out ++ frm 70 (mkS keys pk)).length : Int) 8 ++ highS (l.length : Int) 8) ++ (highS bb 4 ++ (highS pk 4 ++ ([67, 79, 82, 77] ++ le4 (~~~(crc 4294967295#32 (tail36 ((closeS w).out.length : Int) (((closeS w).out ++ frm 70 (mkS keys pk)).length : Int) (l.length : Int) bb pk)))))) := by
    rw [← hT]; simp [tailS, tail36]
  have hbbc : cut T (Int.toNat 24) (Int.toNat 28) = highS bb 4 := by
    rw [hT2]; exact cut_mid _ _ _ _ _ (by simp [highS_len]) (by simp [highS_len])
  have hpkc : cut T (Int.toNat 28) (Int.toNat 32) = highS pk 4 := by
    have hT3 : T = (highS ((closeS w).out.length : Int) 8 ++ highS (((closeS w).out ++ frm 70 (mkS keys pk)).length : Int) 8 ++ highS (l.length : Int) 8 ++ highS bb 4) ++ (highS pk 4 ++ ([67, 79, 82, 77] ++ le4 (~~~(crc 4294967295#32 (tail36 ((closeS w).out.length : Int) (((closeS w).out ++ frm 70 (mkS keys pk)).length : Int) (l.length : Int) bb pk))))) := by rw [hT2]; simp
    rw [hT3]; exact cut_mid _ _ _ _ _ (by simp [highS_len]) (by simp [highS_len])
  rw [hbbc, hpkc, low_f hz (by omega), bd_some, low_f hz (by omega), bd_some, Build_f hz hf, bd_some, h]
  dsimp only
  rw [if_n (by rfl), Equal_f (buildS_bys hf h) (buildS_bys hf h), bd_some, if_n (by simp), ck_y (by rw [hbR, List.length_append]; omega), Int.toNat_natCast, cut_drop' _ _ _ (by omega)]
  have hdr : b.drop (outF (GS.map blkOf)).length = frm 70 (mkS keys pk) ++ (frm 73 (idxS (closeS w)) ++ T) := by
    conv => lhs; rw [hbR]
    rw [List.drop_left' rfl, hR]
  rw [hdr, TakeFrame_f hz 70 (mkS_bys hpk) (by omega) _ (by
    have := congrArg List.length hbR
    rw [← hR] at this
    simp only [List.length_append] at this ⊢
    omega), bd_some]
end Go.Proofs.Ytghpokmkhlmgcaa

namespace Go.Proofs.Ytghpokmkhlmgcaa
open Go Go.Proofs.Ytghpokmkhlmgcaa.X
set_option linter.unusedVariables false

/-- the order of bytes -/
def cmpL : List Int → List Int → Int
  | [], [] => 0
  | [], _ :: _ => -1
  | _ :: _, [] => 1
  | x :: xs, y :: ys => if x = y then cmpL xs ys else if x < y then -1 else 1
theorem cmpL_nil (x : List Int) : 0 ≤ cmpL x [] := by cases x <;> simp [cmpL]
theorem cmpL_refl : ∀ x : List Int, cmpL x x = 0
  | [] => rfl
  | x :: xs => by simp [cmpL, cmpL_refl xs]
theorem cmpL_eq : ∀ {x y : List Int}, cmpL x y = 0 → x = y
  | [], [], _ => rfl
  | [], _ :: _, h => by simp [cmpL] at h
  | _ :: _, [], h => by simp [cmpL] at h
  | x :: xs, y :: ys, h => by
    unfold cmpL at h
    split at h
    · rename_i e; rw [e, cmpL_eq h]
    · split at h <;> simp at h
theorem cmpL_swap : ∀ x y : List Int, cmpL y x = - cmpL x y
  | [], [] => rfl
  | [], _ :: _ => rfl
  | _ :: _, [] => rfl
  | x :: xs, y :: ys => by
    unfold cmpL
    by_cases e : x = y
    · rw [if_pos e, if_pos e.symm]; exact cmpL_swap xs ys
    · rw [if_neg e, if_neg fun h => e h.symm]
      by_cases l : x < y
      · rw [if_pos l, if_neg (by omega)]; rfl
      · rw [if_neg l, if_pos (by omega)]
theorem cmpL_trans : ∀ {x y w : List Int}, cmpL x y ≤ 0 → cmpL y w ≤ 0 → cmpL x w ≤ 0
  | [], _, [], _, _ => by simp [cmpL]
  | [], _, _ :: _, _, _ => by simp [cmpL]
  | _ :: _, [], _, h, _ => by simp [cmpL] at h
  | _ :: _, _ :: _, [], _, h => by simp [cmpL] at h
  | x :: xs, y :: ys, w :: ws, h1, h2 => by
    unfold cmpL at h1 h2 ⊢
    by_cases e1 : x = y
    · rw [if_pos e1] at h1
      by_cases e2 : y = w
      · rw [if_pos e2] at h2
        rw [if_pos (e1.trans e2)]
        exact cmpL_trans h1 h2
      · rw [if_neg e2] at h2
        rw [e1, if_neg e2]
        exact h2
    · rw [if_neg e1] at h1
      have l1 : x < y := by
        by_cases l : x < y
        · exact l
        · rw [if_neg l] at h1; omega
      by_cases e2 : y = w
      · rw [if_neg (by omega), if_pos (by omega)]; decide
      · rw [if_neg e2] at h2
        have l2 : y < w := by
          by_cases l : y < w
          · exact l
          · rw [if_neg l] at h2; omega
        rw [if_neg (by omega), if_pos (by omega)]; decide

/-! ### Go's order of bytes is that one -/
theorem bstr_get : ∀ (xs : List Int) (i : Nat), i < xs.length → (bstr xs)[i]! = UInt8.ofNat (xs[i]!).toNat := by
  intro xs i hi
  have hs : i < (bstr xs).size := by show i < (List.map _ xs).toArray.size; simpa using hi
  rw [getElem!_pos (bstr xs) i hs, getElem!_pos xs i hi]
  show ((xs.map fun n => UInt8.ofNat n.toNat).toArray)[i]'(by simpa using hi) = _
  simp
theorem u8_ne {x y : Int} (hx : 0 ≤ x ∧ x < 256) (hy : 0 ≤ y ∧ y < 256) : (UInt8.ofNat x.toNat != UInt8.ofNat y.toNat) = decide (x ≠ y) := by
  by_cases e : x = y
  · simp [e]
  · have : UInt8.ofNat x.toNat ≠ UInt8.ofNat y.toNat := by
      intro h
      have := congrArg UInt8.toNat h
      simp only [UInt8.toNat_ofNat'] at this
      omega
    simp [e, this]
theorem u8_lt {x y : Int} (hx : 0 ≤ x ∧ x < 256) (hy : 0 ≤ y ∧ y < 256) : (UInt8.ofNat x.toNat < UInt8.ofNat y.toNat) ↔ x < y := by
  rw [UInt8.lt_iff_toNat_lt]
  simp only [UInt8.toNat_ofNat']
  omega
theorem bstr_size (xs : List Int) : (bstr xs).size = xs.length := by show (List.map _ xs).toArray.size = _; simp
def cmpR (n : Nat) (p : Nat → Bool) (l : Nat → Bool) (e : Int) : Int := match (List.range n).find? p with | some i => if l i then -1 else 1 | none => e
theorem cmpR_succ (n : Nat) (p l : Nat → Bool) (e : Int) : cmpR (n + 1) p l e = if p 0 then (if l 0 then -1 else 1) else cmpR n (fun i => p (i + 1)) (fun i => l (i + 1)) e := by
  unfold cmpR
  rw [List.range_succ_eq_map, List.find?_cons]
  cases h : p 0 with
  | true => rfl
  | false =>
    simp only [List.find?_map, Bool.false_eq_true, if_false]
    cases h2 : List.find? (p ∘ Nat.succ) (List.range n) with
    | none =>
      have : List.find? (fun i => p (i + 1)) (List.range n) = none := h2
      simp [this]
    | some j =>
      have : List.find? (fun i => p (i + 1)) (List.range n) = some j := h2
      simp [this]
theorem bcmp_eq : ∀ {xs ys : List Int}, Bys xs → Bys ys → bcmp xs ys = cmpL xs ys := by
  have key : ∀ (xs ys : List Int), Bys xs → Bys ys → cmpR (min xs.length ys.length) (fun i => decide (xs[i]! ≠ ys[i]!)) (fun i => decide (xs[i]! < ys[i]!)) (if xs.length < ys.length then -1 else if xs.length > ys.length then 1 else 0) = cmpL xs ys := by
    intro xs
    induction xs with
    | nil =>
      intro ys _ _
      cases ys with
      | nil => rfl
      | cons y ys => simp [cmpR, cmpL]
    | cons x xs ih =>
      intro ys hx hy
      cases ys with
      | nil => simp [cmpR, cmpL]
      | cons y ys =>
        have h := ih ys (fun a ha => hx a (List.mem_cons_of_mem _ ha)) (fun a ha => hy a (List.mem_cons_of_mem _ ha))
        rw [show min (x :: xs).length (y :: ys).length = min xs.length ys.length + 1 by simp, cmpR_succ]
        have e0 : (decide ((x :: xs)[0]! ≠ (y :: ys)[0]!)) = decide (x ≠ y) := rfl
        have e1 : (decide ((x :: xs)[0]! < (y :: ys)[0]!)) = decide (x < y) := rfl
        have e2 : (fun i => decide ((x :: xs)[i + 1]! ≠ (y :: ys)[i + 1]!)) = fun i => decide (xs[i]! ≠ ys[i]!) := by funext i; simp
        have e3 : (fun i => decide ((x :: xs)[i + 1]! < (y :: ys)[i + 1]!)) = fun i => decide (xs[i]! < ys[i]!) := by funext i; simp
        rw [e0, e1, e2, e3]
        have e4 : (if (x :: xs).length < (y :: ys).length then (-1 : Int) else if (x :: xs).length > (y :: ys).length then 1 else 0) = (if xs.length < ys.length then -1 else if xs.length > ys.length then 1 else 0) := by simp
        rw [e4, h, cmpL.eq_4]
        by_cases e : x = y
        · simp [e]
        · by_cases l : x < y
          · simp [e, l]
          · simp [e, l]
  intro xs ys hx hy
  rw [← key xs ys hx hy]
  unfold bcmp Extern.BytealgCompare.cmp cmpR
  rw [bstr_size, bstr_size]
  have hf : (List.range (min xs.length ys.length)).find? (fun i => (bstr xs)[i]! != (bstr ys)[i]!) = (List.range (min xs.length ys.length)).find? (fun i => decide (xs[i]! ≠ ys[i]!)) := by
    have hc : ∀ (l : List Nat), (∀ i ∈ l, i < min xs.length ys.length) → l.find? (fun i => (bstr xs)[i]! != (bstr ys)[i]!) = l.find? (fun i => decide (xs[i]! ≠ ys[i]!)) := by
      intro l
      induction l with
      | nil => intro _; rfl
      | cons a l ih =>
        intro h
        have ha := h a (List.mem_cons_self ..)
        have e : ((bstr xs)[a]! != (bstr ys)[a]!) = decide (xs[a]! ≠ ys[a]!) := by
          rw [bstr_get xs a (by omega), bstr_get ys a (by omega)]
          refine u8_ne ?_ ?_
          · rw [getElem!_pos xs a (by omega)]; exact hx _ (List.getElem_mem _)
          · rw [getElem!_pos ys a (by omega)]; exact hy _ (List.getElem_mem _)
        rw [List.find?_cons, List.find?_cons, e, ih fun i hi => h i (List.mem_cons_of_mem _ hi)]
    exact hc _ fun i hi => List.mem_range.1 hi
  rw [hf]
  cases hq : (List.range (min xs.length ys.length)).find? (fun i => decide (xs[i]! ≠ ys[i]!)) with
  | none => rfl
  | some i =>
    have hi := List.mem_range.1 (List.mem_of_find?_eq_some hq)
    have hx' : 0 ≤ xs[i]! ∧ xs[i]! < 256 := by rw [getElem!_pos xs i (by omega)]; exact hx _ (List.getElem_mem _)
    have hy' : 0 ≤ ys[i]! ∧ ys[i]! < 256 := by rw [getElem!_pos ys i (by omega)]; exact hy _ (List.getElem_mem _)
    dsimp only
    rw [bstr_get xs i (by omega), bstr_get ys i (by omega)]
    by_cases l : xs[i]! < ys[i]!
    · rw [if_pos ((u8_lt hx' hy').2 l), if_pos (by simpa using l)]
    · rw [if_neg fun h => l ((u8_lt hx' hy').1 h), if_neg (by simpa using l)]
theorem Compare_f {xs ys : List Int} (hx : Bys xs) (hy : Bys ys) : codec_Compare.f xs ys = some (cmpL xs ys) := by
  unfold codec_Compare.f bytes_Compare.f
  rw [bd_some, bcmp_eq hx hy]

/-! ### the entries are in order -/
def ordL (a b : api_Entry) : Prop := cmpL a.Key b.Key < 0 ∨ (a.Key = b.Key ∧ b.Seq < a.Seq)
theorem ordL_trans {a b c : api_Entry} (h1 : ordL a b) (h2 : ordL b c) : ordL a c := by
  rcases h1 with h1 | ⟨h1, h1'⟩
  · rcases h2 with h2 | ⟨h2, h2'⟩
    · left
      have h3 := cmpL_trans (Int.le_of_lt h1) (Int.le_of_lt h2)
      rcases Int.lt_or_eq_of_le h3 with q | q
      · exact q
      · have e := cmpL_eq q
        have := cmpL_swap b.Key c.Key
        rw [← e] at this h2
        omega
    · left; rw [← h2]; exact h1
  · rcases h2 with h2 | ⟨h2, h2'⟩
    · left; rw [h1]; exact h2
    · right; exact ⟨h1.trans h2, by omega⟩
theorem ordL_of {a b : api_Entry} (ha : okE a) (hb : okE b) (h : ¬ ordS a b ≥ 0) : ordL a b := by
  unfold ordS at h
  rw [bcmp_eq ha.1 hb.1] at h
  by_cases q : cmpL a.Key b.Key = 0
  · have e := cmpL_eq q
    by_cases q2 : a.Seq = b.Seq
    · rw [if_pos (.inr q2)] at h; omega
    · rw [if_neg (by rintro (z | z); exact z q; exact q2 z)] at h
      by_cases q3 : a.Seq > b.Seq
      · exact .inr ⟨e, q3⟩
      · rw [if_neg q3] at h; omega
  · rw [if_pos (.inl q)] at h
    exact .inl (by omega)
theorem chk_ord : ∀ {l : List api_Entry} {p : api_Entry}, okE p → (∀ e ∈ l, okE e) → chk (some p) l = none → (∀ e ∈ l, ordL p e) ∧ l.Pairwise ordL
  | [], _, _, _, _ => ⟨by simp, List.Pairwise.nil⟩
  | e :: r, p, hp, hl, h => by
    unfold chk at h
    split at h
    · cases h
    · split at h
      · cases h
      · rename_i hb
        have he := hl e (List.mem_cons_self ..)
        have hpe : ordL p e := ordL_of hp he (by simpa [bad] using hb)
        obtain ⟨h1, h2⟩ := chk_ord he (fun x hx => hl x (List.mem_cons_of_mem _ hx)) h
        refine ⟨fun x hx => ?_, List.Pairwise.cons h1 h2⟩
        rcases List.mem_cons.1 hx with rfl | hx
        · exact hpe
        · exact ordL_trans hpe (h1 x hx)
theorem chk_sorted {l : List api_Entry} (hl : ∀ e ∈ l, okE e) (h : chk none l = none) : l.Pairwise ordL := by
  cases l with
  | nil => exact List.Pairwise.nil
  | cons e r =>
    unfold chk at h
    split at h
    · cases h
    · split at h
      · cases h
      · obtain ⟨h1, h2⟩ := chk_ord (hl e (List.mem_cons_self ..)) (fun x hx => hl x (List.mem_cons_of_mem _ hx)) h
        exact List.Pairwise.cons h1 h2

/-! ### the search -/
theorem half_eq {i j : Int} (hi : 0 ≤ i ∧ i ≤ 1000000) (hj : 0 ≤ j ∧ j ≤ 1000000) : wr .i64 (sShr .u64 (wr .u64 (wr .i64 (i + j))) 1) = (i + j) / 2 := by
  rw [wI (x := i + j) (by omega), wU (by omega), show (1 : Int) = ((1 : Nat) : Int) from rfl, shr_d _ _ _ (by decide), show (2 : Int) ^ 1 = 2 from rfl, wI (by omega)]
theorem Search_L0 (z : Nat) {t : sstable_Table} {key : List Int} (hk : Bys key) (hb : ∀ x ∈ t.blocks, Bys x.last) (hn : t.blocks.length ≤ 100000) {s : Nat} (hlo : ∀ k : Nat, k < s → cmpL (gi dsstable_block t.blocks (k : Int)).last key < 0) (hhi : ∀ k : Nat, s ≤ k → k < t.blocks.length → 0 ≤ cmpL (gi dsstable_block t.blocks (k : Int)).last key) :
    ∀ (n m i j : Nat), j - i = n → n < m → i ≤ s → s ≤ j → j ≤ t.blocks.length → sort_Search_at69.L0 z key m (i : Int) (j : Int) t.b t.blocks t.filter t.count t.reads = some ((s : Int), t) := by
  intro n
  induction n using Nat.strongRecOn with
  | ind n ih =>
    intro m i j hn' hm his hsj hjn
    obtain ⟨m, rfl⟩ : ∃ k, m = k + 1 := ⟨m - 1, by omega⟩
    rw [sort_Search_at69.L0]
    by_cases hij : i < j
    · rw [if_y (by simp; omega), half_eq (by omega) (by omega), show ((i : Int) + j) / 2 = (((i + j) / 2 : Nat) : Int) by omega]
      obtain ⟨h, hh⟩ : ∃ h, (i + j) / 2 = h := ⟨_, rfl⟩
      rw [hh]
      unfold sstable_Table_find_c1.f
      dsimp only
      have hlt : h < t.blocks.length := by omega
      rw [ck_y (by omega), Compare_f (by rw [gi_nat _ _ _ hlt]; exact hb _ (List.getElem_mem _)) hk, bd_some, bd_some]
      dsimp only
      by_cases hs : h < s
      · have := hlo h hs
        rw [if_y (by simp; omega), wI (by omega)]
        exact ih (j - (h + 1)) (by omega) m (h + 1) j rfl (by omega) (by omega) hsj hjn
      · have := hhi h (by omega) hlt
        rw [if_n (by simp; omega)]
        exact ih (h - i) (by omega) m i h rfl (by omega) his (by omega) (by omega)
    · rw [if_n (by simp; omega), show i = s by omega]
theorem find_f {z : Nat} (hz : 16777216 ≤ z) {t : sstable_Table} {key : List Int} (hk : Bys key) (hb : ∀ x ∈ t.blocks, Bys x.last) (hn : t.blocks.length ≤ 100000) {s : Nat} (hs : s ≤ t.blocks.length) (hlo : ∀ k : Nat, k < s → cmpL (gi dsstable_block t.blocks (k : Int)).last key < 0) (hhi : ∀ k : Nat, s ≤ k → k < t.blocks.length → 0 ≤ cmpL (gi dsstable_block t.blocks (k : Int)).last key) :
    sstable_Table_find.f z t key = some ((s : Int), t) := by
  unfold sstable_Table_find.f sort_Search_at69.f
  have := Search_L0 z hk hb hn hlo hhi (t.blocks.length - 0) z 0 t.blocks.length rfl (by omega) (by omega) hs (Nat.le_refl _)
  rw [show (0 : Int) = ((0 : Nat) : Int) from rfl, this, bd_some]

/-! ### a block is looked at -/
theorem tblocks_at : ∀ (P : List (List api_Entry)) (g : List api_Entry) (Q : List (List api_Entry)) (o : Nat), gi dsstable_block (tblocks o (P ++ g :: Q)) (P.length : Int) = ⟨((o + (outF (P.map blkOf)).length : Nat) : Int), ((o + (outF (P.map blkOf)).length + (fr1 (blkOf g)).length : Nat) : Int), g.length, firstKey g, lastKey g⟩
  | [], g, Q, o => rfl
  | p :: P, g, Q, o => by
    have h := tblocks_at P g Q (o + (fr1 (blkOf p)).length)
    have e : gi dsstable_block (tblocks o ((p :: P) ++ g :: Q)) ((p :: P).length : Int) = gi dsstable_block (tblocks (o + (fr1 (blkOf p)).length) (P ++ g :: Q)) (P.length : Int) := by
      unfold gi
      rw [Int.toNat_natCast, Int.toNat_natCast]
      rfl
    rw [e, h]
    simp [outF, Nat.add_assoc]
theorem look_f {z : Nat} (hz : 16777216 ≤ z) {b : List Int} {P : List (List api_Entry)} {g : List api_Entry} {Q : List (List api_Entry)} {R : List Int} (hb : b = outF ((P ++ g :: Q).map blkOf) ++ R) (hbl : b.length ≤ 4194304) (hg : ∀ e ∈ g, fitS e ∧ okE e) (hs : (lays [] g).length ≤ 65900) (F : List Int) (c r : Int) :
    sstable_Table_look.f z ⟨b, tblocks 0 (P ++ g :: Q), F, c, r⟩ (P.length : Int) = some (g, ⟨b, tblocks 0 (P ++ g :: Q), F, c, wr .i64 (r + 1)⟩) := by
  have hout : ∀ (P : List (List api_Entry)), outF ((P ++ g :: Q).map blkOf) = outF (P.map blkOf) ++ (fr1 (blkOf g) ++ outF (Q.map blkOf)) := by
    intro P
    induction P with
    | nil => rfl
    | cons p P ih =>
      show fr1 (blkOf p) ++ outF ((P ++ g :: Q).map blkOf) = (fr1 (blkOf p) ++ outF (P.map blkOf)) ++ _
      rw [ih, List.append_assoc]
  have hb2 : b = outF (P.map blkOf) ++ (fr1 (blkOf g) ++ (outF (Q.map blkOf) ++ R)) := by rw [hb, hout]; simp
  have hlen := congrArg List.length hb2
  simp only [List.length_append] at hlen
  unfold sstable_Table_look.f
  dsimp only
  rw [ck_y (by rw [tblocks_len]; simp; omega), tblocks_at]
  dsimp only
  rw [ck_y (by omega), Int.toNat_natCast, Int.toNat_natCast, Nat.zero_add]
  have hcut : cut b (outF (P.map blkOf)).length ((outF (P.map blkOf)).length + (fr1 (blkOf g)).length) = frm 68 (lays [] g) := by
    conv => lhs; rw [hb2]
    exact cut_mid _ _ _ _ _ rfl rfl
  have := entries_f hz hg (by omega) [] (by simp)
  rw [List.append_nil] at this
  rw [hcut, this, bd_some]
end Go.Proofs.Ytghpokmkhlmgcaa

namespace Go.Proofs.Ytghpokmkhlmgcaa
open Go Go.Proofs.Ytghpokmkhlmgcaa.X
set_option linter.unusedVariables false

theorem Copy_f {e : api_Entry} (he : fitS e) : cormorantref04_Copy.f e = some e := by
  obtain ⟨h1, h2, h3, h4, h5, h6⟩ := he
  unfold cormorantref04_Copy.f
  rw [ck_y (by simp; omega), ck_y (by simp; omega)]
  rfl
theorem mark_L1 (z : Nat) : ∀ (k m i : Nat) (xs : List Int), xs.length - i = k → xs.length ≤ 16777215 → k < m → i ≤ xs.length → cormorantlaw04_mark.L1 z m (i : Int) xs = some ()
  | k, 0, _, _, _, _, h, _ => by omega
  | 0, m + 1, i, xs, hk, hl, _, hi => by rw [cormorantlaw04_mark.L1, if_n (by simp; omega)]
  | k + 1, m + 1, i, xs, hk, hl, hm, hi => by
    rw [cormorantlaw04_mark.L1, if_y (by simp; omega), ck_y (by omega), wI (by omega)]
    exact mark_L1 z k m (i + 1) _ (by simp; omega) (by simpa using hl) (by omega) (by simp; omega)
theorem mark_L0 {z : Nat} (hz : 16777216 ≤ z) {e : api_Entry} (he : e.Value.length ≤ 16777215) : ∀ (k m i : Nat) (xs : List Int), xs.length - i = k → xs.length ≤ 16777215 → k < m → i ≤ xs.length → cormorantlaw04_mark.L0 z e m (i : Int) xs = some ()
  | k, 0, _, _, _, _, h, _ => by omega
  | 0, m + 1, i, xs, hk, hl, _, hi => by
    rw [cormorantlaw04_mark.L0, if_n (by simp; omega)]
    exact mark_L1 z e.Value.length z 0 e.Value rfl he (by omega) (by omega)
  | k + 1, m + 1, i, xs, hk, hl, hm, hi => by
    rw [cormorantlaw04_mark.L0, if_y (by simp; omega), ck_y (by omega), wI (by omega)]
    exact mark_L0 hz he k m (i + 1) _ (by simp; omega) (by simpa using hl) (by omega) (by simp; omega)
theorem mark_f {z : Nat} (hz : 16777216 ≤ z) {e : api_Entry} (he : fitS e) : cormorantlaw04_mark.f z e = some () := by
  obtain ⟨h1, h2, h3, h4, h5, h6⟩ := he
  exact mark_L0 hz (by omega) e.Key.length z 0 e.Key rfl (by omega) (by omega) (by omega)
open cormorantlaw04_scan in
theorem rnd_f {z : Nat} (hz : 16777216 ≤ z) {most : Int} {e : api_Entry} (he : fitS e) {out : List api_Entry} (ho : out.length ≤ 1000000) : rnd z most e out = some (decide (((out ++ [e]).length : Int) < most), out ++ [e]) := by
  unfold rnd
  rw [Copy_f he, bd_some, ck_y (by simp; omega), mark_f hz he, bd_some]
  by_cases h : ((out ++ [e]).length : Int) ≥ most
  · rw [if_y (by simpa using h)]
    congr 2
    symm
    rw [decide_eq_false_iff_not]
    omega
  · rw [if_n (by simpa using h)]
    congr 2
    symm
    rw [decide_eq_true_iff]
    omega
open cormorantlaw04_scan in
theorem S2_f {z : Nat} (hz : 16777216 ≤ z) {most : Int} {xs : List api_Entry} (hx : ∀ e ∈ xs, fitS e ∧ okE e) (hxl : xs.length ≤ 1000000) {t : sstable_Table} {q : List api_Entry → Option (Bool × sstable_Table × List api_Entry)} : ∀ (k m j : Nat) (out : List api_Entry), xs.length - j = k → j ≤ xs.length → k < m → (out.length : Int) + k < most → out.length + k ≤ 900000 →
    S2 z most [] xs t q m (j : Int) out = q (out ++ xs.drop j)
  | k, 0, _, _, _, _, h, _, _ => by omega
  | 0, m + 1, j, out, hk, hj, _, _, _ => by
    rw [S2, if_n (by simp; omega), List.drop_eq_nil_of_le (by omega), List.append_nil]
  | k + 1, m + 1, j, out, hk, hj, hm, hmost, hout => by
    have hmem : xs[j]'(by omega) ∈ xs := List.getElem_mem _
    have hc := cmpL_nil (xs[j]'(by omega)).Key
    rw [S2, if_y (by simp; omega), ck_y (by omega), gi_nat _ _ _ (by omega), Compare_f (hx _ hmem).2.1 Bys.nil, bd_some, if_y (by simpa using hc), rnd_f hz (hx _ hmem).1 (by omega), bd_some]
    dsimp only
    rw [if_n (by simp; omega), wI (by omega), show ((j : Int) + 1) = ((j + 1 : Nat) : Int) from rfl, S2_f hz hx hxl k m (j + 1) _ (by omega) (by omega) (by omega) (by simp; omega) (by simp; omega)]
    rw [List.drop_eq_getElem_cons (show j < xs.length by omega)]
    simp
open cormorantlaw04_scan in
theorem S1_f {z : Nat} (hz : 16777216 ≤ z) {most : Int} {b : List Int} {R : List Int} (hbl : b.length ≤ 4194304) {F : List Int} {c : Int} : ∀ (Q P : List (List api_Entry)) (m : Nat) (out : List api_Entry) (r : Int), b = outF ((P ++ Q).map blkOf) ++ R → (∀ g ∈ Q, (∀ e ∈ g, fitS e ∧ okE e) ∧ (lays [] g).length ≤ 65900) → Q.length < m → (P ++ Q).length ≤ 100000 → (out.length : Int) + Q.flatten.length < most → out.length + Q.flatten.length ≤ 900000 →
    ∃ r', S1 z most [] m (P.length : Int) ⟨b, tblocks 0 (P ++ Q), F, c, r⟩ out = some (true, ⟨b, tblocks 0 (P ++ Q), F, c, r'⟩, out ++ Q.flatten)
  | _, _, 0, _, _, _, _, h, _, _, _ => by omega
  | [], P, m + 1, out, r, _, _, _, _, _, _ => by
    refine ⟨r, ?_⟩
    rw [S1]
    dsimp only
    rw [if_n (by rw [decide_eq_false_iff_not, tblocks_len]; simp)]
    simp
  | g :: Q, P, m + 1, out, r, hb, hg, hm, hl, hmost, hout => by
    obtain ⟨hg1, hg2⟩ := hg g (List.mem_cons_self ..)
    simp only [List.flatten_cons, List.length_append, List.length_cons] at hmost hout hm hl
    rw [S1]
    dsimp only
    rw [if_y (by rw [decide_eq_true_iff, tblocks_len]; simp; omega), look_f hz hb hbl hg1 hg2, bd_some]
    dsimp only
    have hs2 := S2_f hz hg1 (by omega) (t := ⟨b, tblocks 0 (P ++ g :: Q), F, c, wr .i64 (r + 1)⟩) (q := S1 z most [] m (wr .i64 ((P.length : Int) + 1)) ⟨b, tblocks 0 (P ++ g :: Q), F, c, wr .i64 (r + 1)⟩) (most := most) g.length z 0 out (by omega) (by omega) (by have := lays_len g []; omega) (by omega) (by omega)
    rw [show ((0 : Nat) : Int) = 0 from rfl, List.drop_zero] at hs2
    rw [hs2, wI (by omega)]
    have hpq : P ++ g :: Q = (P ++ [g]) ++ Q := by simp
    obtain ⟨r', hr⟩ := S1_f hz hbl (F := F) (c := c) (most := most) Q (P ++ [g]) m (out ++ g) (wr .i64 (r + 1)) (by rw [← hpq]; exact hb) (fun x hx => hg x (List.mem_cons_of_mem _ hx)) (by omega) (by rw [← hpq, List.length_append, List.length_cons]; omega) (by rw [List.length_append]; omega) (by rw [List.length_append]; omega)
    refine ⟨r', ?_⟩
    rw [hpq]
    rw [show ((P.length : Int) + 1) = (((P ++ [g]).length : Nat) : Int) by simp, hr]
    simp
theorem scan_f {z : Nat} (hz : 16777216 ≤ z) {b : List Int} {R : List Int} (hbl : b.length ≤ 4194304) {F : List Int} {c r : Int} {gs : List (List api_Entry)} (hb : b = outF (gs.map blkOf) ++ R) (hg : ∀ g ∈ gs, (∀ e ∈ g, fitS e ∧ okE e) ∧ (lays [] g).length ≤ 65900) (hl : gs.length ≤ 100000) (hfl : gs.flatten.length ≤ 65536) {most : Int} (hm : (gs.flatten.length : Int) < most) :
    ∃ r', cormorantlaw04_scan.f z ⟨b, tblocks 0 gs, F, c, r⟩ [] most = some (gs.flatten, ⟨b, tblocks 0 gs, F, c, r'⟩) := by
  have hblk : ∀ (gs : List (List api_Entry)) (o : Nat), (∀ g ∈ gs, (∀ e ∈ g, okE e)) → ∀ x ∈ tblocks o gs, Bys x.last := by
    intro gs
    induction gs with
    | nil => intro o _ x hx; cases hx
    | cons g gs ih =>
      intro o h x hx
      rcases List.mem_cons.1 hx with rfl | hx
      · show Bys (lastKey g)
        unfold lastKey
        cases hq : g.getLast? with
        | none => exact Bys.nil
        | some e => exact (h g (List.mem_cons_self ..) e (List.mem_of_getLast? hq)).1
      · exact ih _ (fun y hy => h y (List.mem_cons_of_mem _ hy)) x hx
  obtain ⟨r', hr⟩ := S1_f hz hbl (F := F) (c := c) (most := most) gs [] z [] r (by rw [List.nil_append]; exact hb) hg (by omega) (by rw [List.nil_append]; omega) (by simp; simpa using hm) (by rw [List.length_nil]; omega)
  refine ⟨r', ?_⟩
  unfold cormorantlaw04_scan.f cormorantlaw04_scan.iter bytes_Clone.f
  rw [ck_y (by simp), bd_some, find_f hz (s := 0) Bys.nil (hblk gs 0 fun g hgm e he => ((hg g hgm).1 e he).2) (by dsimp only; rw [tblocks_len]; omega) (by omega) (fun k hk => by omega) (fun k _ _ => cmpL_nil _), bd_some]
  dsimp only
  rw [List.nil_append, List.length_nil] at hr
  rw [hr, bd_some]
  rfl
theorem sameOne_f {a : api_Entry} (ha : okE a) : cormorantlaw04_sameOne.f a a = some true := by
  unfold cormorantlaw04_sameOne.f cormorantlaw04_sameOne.J0
  rw [if_y (by rw [bstr_inj ha.1 ha.1]; simp), if_y (by simp), if_y (by simp), bstr_inj ha.2.2 ha.2.2]
  simp
theorem same_L0 (z : Nat) {l : List api_Entry} (hl : ∀ e ∈ l, okE e) (hlen : l.length ≤ 1000000) : ∀ (k m i : Nat), l.length - i = k → i ≤ l.length → k < m → cormorantlaw04_same.L0 z l l m (i : Int) = some true
  | k, 0, _, _, _, h => by omega
  | 0, m + 1, i, hk, hi, _ => by rw [cormorantlaw04_same.L0, if_n (by simp; omega)]
  | k + 1, m + 1, i, hk, hi, hm => by
    rw [cormorantlaw04_same.L0, if_y (by simp; omega), ck_y (by omega), ck_y (by omega), gi_nat _ _ _ (by omega), sameOne_f (hl _ (List.getElem_mem _)), bd_some, if_n (by rfl), wI (by omega)]
    exact same_L0 z hl hlen k m (i + 1) (by omega) (by omega) (by omega)
theorem same_f {z : Nat} (hz : 16777216 ≤ z) {l : List api_Entry} (hl : ∀ e ∈ l, okE e) (hlen : l.length ≤ 1000000) : cormorantlaw04_same.f z l l = some true := by
  unfold cormorantlaw04_same.f
  rw [if_n (by simp)]
  exact same_L0 z hl hlen l.length z 0 rfl (by omega) (by omega)
end Go.Proofs.Ytghpokmkhlmgcaa

namespace Go.Proofs.Ytghpokmkhlmgcaa
open Go Go.Proofs.Ytghpokmkhlmgcaa.X
set_option linter.unusedVariables false

/-- a bit of a filter is set -/
def bitS (b : List Int) (n : Int) : Prop := bAnd .u8 (gi 0 b (1 + n / 8)) (sShl .u8 1 (n % 8)) ≠ 0
theorem u8_iv {x : Int} (h : 0 ≤ x ∧ x < 256) : ((BitVec.ofInt 8 x).toNat : Int) = x := by
  rw [BitVec.toNat_ofInt]; omega
theorem bAnd8 (x y : Int) : bAnd .u8 x y = ((BitVec.ofInt 8 x &&& BitVec.ofInt 8 y).toNat : Int) := by
  show wr .u8 (((BitVec.ofInt 8 x &&& BitVec.ofInt 8 y).toNat : Nat) : Int) = _
  rw [wB]
  have := (BitVec.ofInt 8 x &&& BitVec.ofInt 8 y).isLt
  omega
theorem bOr8 (x y : Int) : bOr .u8 x y = ((BitVec.ofInt 8 x ||| BitVec.ofInt 8 y).toNat : Int) := by
  show wr .u8 (((BitVec.ofInt 8 x ||| BitVec.ofInt 8 y).toNat : Nat) : Int) = _
  rw [wB]
  have := (BitVec.ofInt 8 x ||| BitVec.ofInt 8 y).isLt
  omega
theorem ofInt_nat8 (v : BitVec 8) : BitVec.ofInt 8 (v.toNat : Int) = v := by
  rw [BitVec.ofInt_natCast, BitVec.ofNat_toNat, BitVec.setWidth_eq]
theorem bAnd_ne {x y : Int} : bAnd .u8 x y ≠ 0 ↔ BitVec.ofInt 8 x &&& BitVec.ofInt 8 y ≠ 0#8 := by
  rw [bAnd8]
  constructor
  · intro h e; rw [e] at h; exact h rfl
  · intro h e
    exact h (BitVec.eq_of_toNat_eq (by rw [show (0#8).toNat = 0 from rfl]; omega))
theorem and_or {a c m : BitVec 8} (h : a &&& m ≠ 0#8) : (a ||| c) &&& m ≠ 0#8 := by
  intro e
  apply h
  have : (a ||| c) &&& m = (a &&& m) ||| (c &&& m) := by
    rw [BitVec.and_comm, BitVec.and_or_distrib_left, BitVec.and_comm m a, BitVec.and_comm m c]
  rw [this] at e
  exact (BitVec.or_eq_zero_iff.1 e).1
theorem shl_ne {n : Int} (h : 0 ≤ n ∧ n < 8) : BitVec.ofInt 8 (sShl .u8 1 n) ≠ 0#8 := by
  have : ∀ i : Fin 8, BitVec.ofInt 8 (sShl .u8 1 (i.val : Int)) ≠ 0#8 := by decide +kernel
  have q := this ⟨n.toNat, by omega⟩
  simp only [show ((n.toNat : Nat) : Int) = n by omega] at q
  exact q
theorem bit_set {b : List Int} {n : Int} (h0 : 0 ≤ n) (h : 1 + n / 8 < b.length) : bitS (setb b n) n := by
  unfold bitS setb
  have hg : gi (0 : Int) (b.set (1 + n / 8).toNat (bOr .u8 (gi 0 b (1 + n / 8)) (sShl .u8 1 (n % 8)))) (1 + n / 8) = bOr .u8 (gi 0 b (1 + n / 8)) (sShl .u8 1 (n % 8)) := by
    unfold gi
    rw [List.getElem?_set_self (by omega)]
    rfl
  rw [hg, bAnd_ne, bOr8, ofInt_nat8]
  intro e
  have hs := shl_ne (n := n % 8) (by omega)
  have : (BitVec.ofInt 8 (gi 0 b (1 + n / 8)) ||| BitVec.ofInt 8 (sShl .u8 1 (n % 8))) &&& BitVec.ofInt 8 (sShl .u8 1 (n % 8)) = BitVec.ofInt 8 (sShl .u8 1 (n % 8)) := by
    rw [BitVec.or_comm, BitVec.and_comm]
    exact BitVec.eq_of_toNat_eq (by
      rw [BitVec.toNat_and, BitVec.toNat_or]
      exact Nat.eq_of_testBit_eq fun i => by
        rw [Nat.testBit_and, Nat.testBit_or]
        cases (BitVec.ofInt 8 (sShl .u8 1 (n % 8))).toNat.testBit i <;> simp)
  rw [this] at e
  exact hs e
theorem bit_keep {b : List Int} {n k : Int} (h0 : 0 ≤ n) (k0 : 0 ≤ k) (h : bitS b n) : bitS (setb b k) n := by
  unfold bitS at h ⊢
  unfold setb
  by_cases e : (1 + k / 8).toNat = (1 + n / 8).toNat
  · by_cases hl : (1 + n / 8).toNat < b.length
    · have hg : gi (0 : Int) (b.set (1 + k / 8).toNat (bOr .u8 (gi 0 b (1 + k / 8)) (sShl .u8 1 (k % 8)))) (1 + n / 8) = bOr .u8 (gi 0 b (1 + n / 8)) (sShl .u8 1 (k % 8)) := by
        have e2 : 1 + k / 8 = 1 + n / 8 := by omega
        rw [e2]
        unfold gi
        rw [List.getElem?_set_self hl]
        rfl
      rw [hg, bAnd_ne, bOr8, ofInt_nat8]
      rw [bAnd_ne] at h
      exact and_or h
    · rw [List.set_eq_of_length_le (by omega)]
      exact h
  · have hg : gi (0 : Int) (b.set (1 + k / 8).toNat (bOr .u8 (gi 0 b (1 + k / 8)) (sShl .u8 1 (k % 8)))) (1 + n / 8) = gi 0 b (1 + n / 8) := by
      unfold gi
      rw [List.getElem?_set_ne e]
    rw [hg]
    exact h
/-- all bits of a walk are set -/
def allS (m step : Int) (b : List Int) : Nat → Int → Prop
  | 0, _ => True
  | k + 1, h => bitS b (h % m) ∧ allS m step b k (wr .u64 (h + step))
theorem allS_keep {m step : Int} (hm : 0 < m) {b : List Int} {n : Int} (h0 : 0 ≤ n) : ∀ (k : Nat) (h : Int), allS m step b k h → allS m step (setb b n) k h
  | 0, _, _ => trivial
  | k + 1, h, ⟨h1, h2⟩ => ⟨bit_keep (Int.emod_nonneg _ (by omega)) h0 h1, allS_keep hm h0 k _ h2⟩
theorem allS_each {m step m' step' : Int} (hm : 0 < m) (hm' : 0 < m') {k : Nat} {h : Int} : ∀ (k' : Nat) (h' : Int) (b : List Int), allS m step b k h → allS m step (eachS m' step' k' h' b) k h
  | 0, _, _, q => q
  | k' + 1, h', b, q => allS_each hm hm' k' _ _ (allS_keep hm (Int.emod_nonneg _ (by omega)) k h q)
theorem each_all {m step : Int} (hm : 0 < m) : ∀ (k : Nat) (h : Int) (b : List Int), (b.length : Int) = 1 + m / 8 → m % 8 = 0 → allS m step (eachS m step k h b) k h
  | 0, _, _, _, _ => trivial
  | k + 1, h, b, hb, h8 => by
    have h1 := Int.emod_nonneg h (b := m) (by omega)
    have h2 := Int.emod_lt_of_pos h hm
    refine ⟨?_, each_all hm k _ _ (by rw [setb_len]; exact hb) h8⟩
    have q : bitS (setb b (h % m)) (h % m) := bit_set h1 (by omega)
    have : allS m step (eachS m step k (wr .u64 (h + step)) (setb b (h % m))) 1 h := allS_each hm hm k _ _ ⟨q, trivial⟩
    exact this.1
theorem fold_all {p m : Int} (hm : 0 < m) (h8 : m % 8 = 0) {key : List Int} : ∀ (keys : List (List Int)) (b : List Int), (b.length : Int) = 1 + m / 8 → (key ∈ keys ∨ allS m (stepS (hashS key)) b p.toNat (hashS key)) → allS m (stepS (hashS key)) (keys.foldl (keyS p m) b) p.toNat (hashS key)
  | [], b, _, h => by
    rcases h with h | h
    · cases h
    · exact h
  | x :: keys, b, hb, h => by
    rw [List.foldl_cons]
    refine fold_all hm h8 keys _ (by rw [keyS_len]; exact hb) ?_
    rcases h with h | h
    · rcases List.mem_cons.1 h with rfl | h
      · right; exact each_all hm _ _ _ hb h8
      · exact .inl h
    · right; exact allS_each hm hm _ _ _ h
theorem each67_L0 (z : Nat) {p m x14 : Int} (hp : 0 ≤ p ∧ p ≤ 100) (hm : 0 < m ∧ m ≤ 4611686018427387904 ∧ m % 8 = 0) {b : List Int} (hb : (b.length : Int) = 1 + m / 8) : ∀ (k n i : Nat) (h : Int), p.toNat - i = k → i ≤ p.toNat → k < n → 0 ≤ h ∧ h ≤ 18446744073709551615 → allS m (bOr .u64 x14 1) b k h →
    bloom_each_at67.L0 z p m b x14 n h (i : Int) = some true
  | k, 0, _, _, _, _, h, _, _ => by omega
  | 0, n + 1, i, h, hk, hi, _, hh, _ => by rw [bloom_each_at67.L0, if_n (by simp; omega)]
  | k + 1, n + 1, i, h, hk, hi, hn, hh, ⟨a1, a2⟩ => by
    have h1 : 0 ≤ h % m ∧ h % m < m := ⟨Int.emod_nonneg _ (by omega), Int.emod_lt_of_pos _ (by omega)⟩
    rw [bloom_each_at67.L0, if_y (by simp; omega), ck_y (by omega), tmod_nn hh.1, tmod_nn h1.1, tdiv_nn h1.1, ck_y (by omega), wU (by omega), wI (by omega), wI (x := (i : Int) + 1) (by omega)]
    unfold bloom_May_c1.f
    rw [wI (by omega), ck_y (by omega), bd_some]
    have a1' : (bAnd .u8 (gi 0 b (1 + h % m / 8)) (sShl .u8 1 (h % m % 8)) != 0) = true := by
      rw [bne_iff_ne]; exact a1
    rw [a1', if_n (by rfl)]
    exact each67_L0 z hp hm hb k n (i + 1) _ (by omega) (by omega) (by omega) (wrU_in _) a2
theorem gi0_set {b : List Int} {n : Int} (h0 : 0 ≤ n) : gi (0 : Int) (setb b n) 0 = gi 0 b 0 := by
  unfold setb gi
  rw [List.getElem?_set_ne (by show (1 + n / 8).toNat ≠ Int.toNat 0; omega)]
theorem gi0_each {m step : Int} (hm : 0 < m) : ∀ (k : Nat) (h : Int) (b : List Int), gi (0 : Int) (eachS m step k h b) 0 = gi 0 b 0
  | 0, _, _ => rfl
  | k + 1, h, b => by rw [eachS, gi0_each hm k, gi0_set (Int.emod_nonneg _ (by omega))]
theorem gi0_fold {p m : Int} (hm : 0 < m) : ∀ (keys : List (List Int)) (b : List Int), gi (0 : Int) (keys.foldl (keyS p m) b) 0 = gi 0 b 0
  | [], _ => rfl
  | x :: keys, b => by rw [List.foldl_cons, gi0_fold hm keys]; exact gi0_each hm _ _ _
theorem bits64 (n : Nat) (pk : Int) : bitsS n pk % 64 = 0 := by unfold bitsS; omega
theorem May_f {z : Nat} (hz : 16777216 ≤ z) {keys : List (List Int)} {pk : Int} (hn : keys.length ≤ 65536) (hp : 1 ≤ pk ∧ pk ≤ 30) {key : List Int} (hk : key ∈ keys) (hl : key.length ≤ 16777215) : bloom_May.f z (mkS keys pk) key = some true := by
  have hbi := bits_in hn hp
  have hpi := prob_in hp
  have h64 := bits64 keys.length pk
  have hlen : (((List.replicate (1 + bitsS keys.length pk / 8).toNat (0 : Int)).set 0 (probS pk)).length : Int) = 1 + bitsS keys.length pk / 8 := by simp; omega
  have hlen2 : ((mkS keys pk).length : Int) = 1 + bitsS keys.length pk / 8 := by unfold mkS; rw [foldK_len]; exact hlen
  have hg0 : gi (0 : Int) (mkS keys pk) 0 = probS pk := by
    unfold mkS
    rw [gi0_fold (by omega)]
    unfold gi
    rw [show Int.toNat 0 = 0 from rfl, List.getElem?_set_self (by simp; omega)]
    rfl
  have hall : allS (bitsS keys.length pk) (stepS (hashS key)) (mkS keys pk) (probS pk).toNat (hashS key) := fold_all (by omega) hbi.2.2 keys _ hlen (.inl hk)
  unfold bloom_May.f
  rw [wI (x := ((mkS keys pk).length : Int) - 1) (by omega), if_n (by rw [decide_eq_false_iff_not]; omega), tmod_nn (by omega), if_n (by rw [bne_eq_false_iff_eq]; omega), ck_y (by omega), hg0, if_n (by rw [beq_eq_false_iff_ne]; omega), if_n (by rw [decide_eq_false_iff_not]; omega), wI (by omega), wU (x := ((mkS keys pk).length : Int) - 1) (by omega), wU (by omega)]
  rw [show (((mkS keys pk).length : Int) - 1) * 8 = bitsS keys.length pk by omega]
  unfold bloom_each_at67.f
  rw [Hash_f hz hl, bd_some, rot_f, bd_some]
  have := each67_L0 z (p := probS pk) (m := bitsS keys.length pk) (x14 := bOr .u64 (sShl .u64 (hashS key) 31) (sShr .u64 (hashS key) 33)) (by omega) (by omega) hlen2 (probS pk).toNat z 0 (hashS key) rfl (by omega) (by omega) (hash_in _) hall
  rw [show (0 : Int) = ((0 : Nat) : Int) from rfl, this, bd_some]
end Go.Proofs.Ytghpokmkhlmgcaa
