/- A Go function: the Lean function that it comes to, and the proof. -/
import Derived.Test.YtghpokmkhlmgcaaBa1
import Derived.Test.YtghpokmkhlmgcaaBa3
import Derived.Test.YtghpokmkhlmgcaaBa2
namespace Go.Proofs.Ytghpokmkhlmgcaa
open Go Go.Proofs.Ytghpokmkhlmgcaa.X
set_option linter.unusedVariables false
set_option linter.unusedSimpArgs false
set_option maxRecDepth 100000
set_option maxHeartbeats 4000000
/-! ### (*cormorant.sstable.builder).close: function 29 -/
namespace sstable_builder_close
noncomputable def c0 : Code := match Try.f29.body with | some c => c | none => .skip
def R (F : List Atom) (b2 : Nat) (r : sstable_builder) : Ending → World → Prop := fun e w' => ∃ (A44 : Option Addr), ∃ (k45 : Nat), ∃ (A46 : Option Addr), ∃ (k47 : Nat), ∃ (A48 : Option Addr), ∃ (k49 : Nat), ∃ (A50 : Option Addr), ∃ (k51 : Nat), e = .returned (.tuple #[]) ∧ SL ([blk b2 [.slice A44 r.out.length k45, .slice A46 r.body.length k47, .slice A48 r.index.length k49, .int .i64 r.many, .int .i64 r.blocks, .slice A50 r.last.length k51], sl .own ku8 A44 k45 r.out, sl .ro ku8 A46 k47 r.body, sl .own ku8 A48 k49 r.index, sl .ro ku8 A50 k51 r.last] ++ F) w'
def L0 (z : Nat) (x1 : sstable_builder) (x12 : sstable_builder) : Nat → Int → (List Int) → Option sstable_builder
  | 0, _, _ => none
  | m + 1, x26, x23 => If (decide (x26 < (3 : Int))) (Ck (0 ≤ x26 ∧ x26 < ([(x1.out.length : Int), wr .i64 ((x12.out.length : Int) - (x1.out.length : Int)), x12.many].length : Int)) (Bd (codec_Number.f z (wr .u64 (gi (0 : Int) [(x1.out.length : Int), wr .i64 ((x12.out.length : Int) - (x1.out.length : Int)), x12.many] x26))) fun x37 => Ck ((x23.length + x37.length) * 1 ≤ 140737488355328) (L0 z x1 x12 m (wr .i64 (x26 + 1)) (x23 ++ x37)))) (Bd (codec_Text.f z x12.last) fun x29 => Ck ((x23.length + x29.1.length) * 1 ≤ 140737488355328) (some (sstable_builder.mk x12.out ([] : List Int) (x23 ++ x29.1) 0 (wr .i64 (x12.blocks + 1)) x12.last)))
def f (z : Nat) (x1 : sstable_builder) : Option sstable_builder := Bd (sstable_builder_frame.f z x1 68 x1.body) fun x12 => L0 z x1 x12 z 0 x12.index
noncomputable def ptL0 : List Item := [.code (cB (cB (cR (cL (cR (cR c0)))))), .inLoop (cB (cB (cR (cL (cR (cR c0)))))), .inBlock 0, .code (cR (cR (cR c0)))]
theorem L0_ok (F : List Atom) (r : sstable_builder) (z : Nat) (b2 : Nat) (b22 : Nat) (A14 : Option Addr) (x12 : sstable_builder) (k15 : Nat) (A16 : Option Addr) (k17 : Nat) (A20 : Option Addr) (k21 : Nat) (x1 : sstable_builder) (m : Nat) : ∀ (x26 : Int) (A24 : Option Addr) (x23 : List Int) (k25 : Nat) (a : Act) (w : World), Tm 78 [(0, .pointer (some ⟨b2, 0, none⟩)), (30, .slice (some ⟨b22, 0, none⟩) 3 3), (31, .int .i64 (3 : Int)), (32, .int .i64 x26)] a → SL ([blk b2 [.slice A14 x12.out.length k15, .slice A16 x12.body.length k17, .slice A24 x23.length k25, .int .i64 x12.many, .int .i64 x12.blocks, .slice A20 x12.last.length k21], sl .own ku8 A14 k15 x12.out, sl .ro ku8 A16 k17 x12.body, sl .own ku8 A24 k25 x23, sl .ro ku8 A20 k21 x12.last, sl .own ki64 (some ⟨b22, 0, none⟩) 3 [(x1.out.length : Int), wr .i64 ((x12.out.length : Int) - (x1.out.length : Int)), x12.many]] ++ F) w → L0 z x1 x12 m x26 x23 = some r → Gets Try.prog 29 ptL0 a w (R F b2 r) := by
  induction m with
  | zero => intro _ _ _ _ _ _ _ _ H; cases H
  | succ m ih =>
    intro x26 A24 x23 k25 a w T S H
    refine Gets.seq ?_
    refine rg ?_
    refine r_pv T rfl rfl fun _ T => ?_
    refine Gets.seq ?_
    rcases ifE H with ⟨h27, H⟩ | ⟨h27, H⟩
    · refine cdT T rfl h27 ?_
      refine Gets.skip (Gets.seq (Gets.block (Gets.seq ?_)))
      refine rg ?_
      obtain ⟨h35, H⟩ := ck H
      refine r_ia (ix := 5) T S rfl rfl rfl (by simp) Try.runUnderlying48 Try.sizeOf3 h35.1 h35.2 rfl fun _ T => ?_
      refine r_ldE (ix := 5) (i := x26) (off := 0) (f := (Value.int .i64)) T S rfl Try.isAgg3 rfl (0 : Int) _ rfl rfl (Fld.all _) h35.1 h35.2 (fun h => h) rfl fun _ T => ?_
      refine r_pv T rfl rfl fun _ T => ?_
      refine Gets.drawn (l := [blk b2 [.slice A14 x12.out.length k15, .slice A16 x12.body.length k17, .slice A24 x23.length k25, .int .i64 x12.many, .int .i64 x12.blocks, .slice A20 x12.last.length k21], sl .own ku8 A14 k15 x12.out, sl .ro ku8 A16 k17 x12.body, sl .own ku8 A24 k25 x23, sl .ro ku8 A20 k21 x12.last, sl .own ki64 (some ⟨b22, 0, none⟩) 3 [(x1.out.length : Int), wr .i64 ((x12.out.length : Int) - (x1.out.length : Int)), x12.many]]) (V := [some (.pointer (some ⟨b2, 0, none⟩), true), some (.pointer (some ⟨b2, 0, none⟩), true), some (.pointer (some ⟨b2, 0, none⟩), true), some (.pointer (some ⟨b2, 2, none⟩), true), some (.slice A24 x23.length k25, true), some (.int .i64 (gi (0 : Int) [(x1.out.length : Int), wr .i64 ((x12.out.length : Int) - (x1.out.length : Int)), x12.many] x26), true), some (.int .u64 (wr .u64 (gi (0 : Int) [(x1.out.length : Int), wr .i64 ((x12.out.length : Int) - (x1.out.length : Int)), x12.many] x26)), true), none, none, none, none, none]) mixed T S rfl ?_
      refine stage (some 7) rfl rfl ⟨⟨_, [(0, .pointer (some ⟨b2, 0, none⟩))], rfl, ⟨.inr ⟨rfl, rfl⟩, trivial⟩, fun u a w T S => (by refine r_pv T rfl rfl fun _ T => ?_; exact ⟨rfl, T⟩)⟩, ⟨_, [(0, .pointer (some ⟨b2, 0, none⟩))], rfl, ⟨.inr ⟨rfl, rfl⟩, trivial⟩, fun u a w T S => (by refine r_pv T rfl rfl fun _ T => ?_; exact ⟨rfl, T⟩)⟩, ⟨_, [(37, .pointer (some ⟨b2, 0, none⟩))], rfl, ⟨.inl ⟨1, rfl, rfl, rfl, rfl⟩, trivial⟩, fun u a w T S => (by refine r_pv T rfl rfl fun _ T => ?_; exact ⟨rfl, T⟩)⟩, ⟨_, [(38, .pointer (some ⟨b2, 0, none⟩))], rfl, ⟨.inl ⟨2, rfl, rfl, rfl, rfl⟩, trivial⟩, fun u a w T S => (by refine r_fa (o' := 2) T rfl Try.runUnderlying61 rfl Try.sizeOf24 rfl rfl fun _ T => ?_; exact ⟨rfl, T⟩)⟩, ⟨_, [(39, .pointer (some ⟨b2, 2, none⟩))], rfl, ⟨.inl ⟨3, rfl, rfl, rfl, rfl⟩, trivial⟩, fun u a w T S => (by refine r_ldB (ix := 0) T S rfl Try.isAgg24 rfl rfl rfl fun _ T => ?_; exact ⟨rfl, T⟩)⟩, ⟨_, [(4, .int .i64 (gi (0 : Int) [(x1.out.length : Int), wr .i64 ((x12.out.length : Int) - (x1.out.length : Int)), x12.many] x26))], rfl, ⟨.inr ⟨rfl, rfl⟩, trivial⟩, fun u a w T S => (by refine r_pv T rfl rfl fun _ T => ?_; exact ⟨rfl, T⟩)⟩, ⟨_, [(41, .int .i64 (gi (0 : Int) [(x1.out.length : Int), wr .i64 ((x12.out.length : Int) - (x1.out.length : Int)), x12.many] x26))], rfl, ⟨.inl ⟨5, rfl, rfl, rfl, rfl⟩, trivial⟩, fun u a w T S => (by refine r_conv T rfl Try.runUnderlying3 Try.runUnderlying34 rfl fun _ T => ?_; exact ⟨rfl, T⟩)⟩, trivial⟩ rfl (fun i hi => ?_) (fun h => by cases h)
      cases hi
      refine ⟨rfl, _, [(42, .int .u64 (wr .u64 (gi (0 : Int) [(x1.out.length : Int), wr .i64 ((x12.out.length : Int) - (x1.out.length : Int)), x12.many] x26)))], rfl, ⟨.inl ⟨6, rfl, rfl, rfl, rfl⟩, trivial⟩, fun u a w T S => ?_⟩
      obtain ⟨x37, h36, H⟩ := bd H
      refine r_call T Try.call55 rfl rfl (codec_Number.ok _ _ z (wr .u64 (gi (0 : Int) [(x1.out.length : Int), wr .i64 ((x12.out.length : Int) - (x1.out.length : Int)), x12.many] x26)) (S.sel (p := []) (is := []) rfl) _ h36) ?_
      rintro _ _ ⟨A38, k39, rfl, S⟩
      refine ⟨_, rfl, fun _ T => ?_⟩
      replace S : SL ([sl .own ku8 A38 k39 x37, blk b2 [.slice A14 x12.out.length k15, .slice A16 x12.body.length k17, .slice A24 x23.length k25, .int .i64 x12.many, .int .i64 x12.blocks, .slice A20 x12.last.length k21], sl .own ku8 A14 k15 x12.out, sl .ro ku8 A16 k17 x12.body, sl .own ku8 A24 k25 x23, sl .ro ku8 A20 k21 x12.last, sl .own ki64 (some ⟨b22, 0, none⟩) 3 [(x1.out.length : Int), wr .i64 ((x12.out.length : Int) - (x1.out.length : Int)), x12.many]] ++ F) _ := S.join
      refine ⟨_, [some (.pointer (some ⟨b2, 0, none⟩), true), some (.pointer (some ⟨b2, 0, none⟩), true), some (.pointer (some ⟨b2, 0, none⟩), true), some (.pointer (some ⟨b2, 2, none⟩), true), some (.slice A24 x23.length k25, true), some (.int .i64 (gi (0 : Int) [(x1.out.length : Int), wr .i64 ((x12.out.length : Int) - (x1.out.length : Int)), x12.many] x26), true), some (.int .u64 (wr .u64 (gi (0 : Int) [(x1.out.length : Int), wr .i64 ((x12.out.length : Int) - (x1.out.length : Int)), x12.many] x26)), false), some (.slice A38 x37.length k39, false), none, none, none, none], [sl .own ku8 A38 k39 x37, blk b2 [.slice A14 x12.out.length k15, .slice A16 x12.body.length k17, .slice A24 x23.length k25, .int .i64 x12.many, .int .i64 x12.blocks, .slice A20 x12.last.length k21], sl .own ku8 A14 k15 x12.out, sl .ro ku8 A16 k17 x12.body, sl .own ku8 A24 k25 x23, sl .ro ku8 A20 k21 x12.last, sl .own ki64 (some ⟨b22, 0, none⟩) 3 [(x1.out.length : Int), wr .i64 ((x12.out.length : Int) - (x1.out.length : Int)), x12.many]], rfl, ⟨.inr ⟨_, _, _, rfl, rfl⟩, .inr ⟨_, _, _, rfl, rfl⟩, .inr ⟨_, _, _, rfl, rfl⟩, .inr ⟨_, _, _, rfl, rfl⟩, .inr ⟨_, _, _, rfl, rfl⟩, .inr ⟨_, _, _, rfl, rfl⟩, .inr ⟨_, _, _, rfl, rfl⟩, .inl rfl, .inl rfl, .inl rfl, .inl rfl, .inl rfl, trivial⟩, rfl, ?_, T, S⟩
      refine stage (some 8) rfl rfl ⟨⟨_, [(0, .pointer (some ⟨b2, 0, none⟩))], rfl, ⟨.inr ⟨rfl, rfl⟩, trivial⟩, fun u a w T S => (by refine r_pv T rfl rfl fun _ T => ?_; exact ⟨rfl, T⟩)⟩, ⟨_, [(0, .pointer (some ⟨b2, 0, none⟩))], rfl, ⟨.inr ⟨rfl, rfl⟩, trivial⟩, fun u a w T S => (by refine r_pv T rfl rfl fun _ T => ?_; exact ⟨rfl, T⟩)⟩, ⟨_, [(37, .pointer (some ⟨b2, 0, none⟩))], rfl, ⟨.inl ⟨1, rfl, rfl, rfl, rfl⟩, trivial⟩, fun u a w T S => (by refine r_pv T rfl rfl fun _ T => ?_; exact ⟨rfl, T⟩)⟩, ⟨_, [(38, .pointer (some ⟨b2, 0, none⟩))], rfl, ⟨.inl ⟨2, rfl, rfl, rfl, rfl⟩, trivial⟩, fun u a w T S => (by refine r_fa (o' := 2) T rfl Try.runUnderlying61 rfl Try.sizeOf24 rfl rfl fun _ T => ?_; exact ⟨rfl, T⟩)⟩, ⟨_, [(39, .pointer (some ⟨b2, 2, none⟩))], rfl, ⟨.inl ⟨3, rfl, rfl, rfl, rfl⟩, trivial⟩, fun u a w T S => (by refine r_ldB (ix := 1) T S rfl Try.isAgg24 rfl rfl rfl fun _ T => ?_; exact ⟨rfl, T⟩)⟩, ⟨_, [(4, .int .i64 (gi (0 : Int) [(x1.out.length : Int), wr .i64 ((x12.out.length : Int) - (x1.out.length : Int)), x12.many] x26))], rfl, ⟨.inr ⟨rfl, rfl⟩, trivial⟩, fun u a w T S => (by refine r_pv T rfl rfl fun _ T => ?_; exact ⟨rfl, T⟩)⟩, trivial⟩ rfl (fun i hi => ?_) (fun h => by cases h)
      cases hi
      refine ⟨rfl, _, [(40, .slice A24 x23.length k25), (43, .slice A38 x37.length k39)], rfl, ⟨.inl ⟨4, rfl, rfl, rfl, rfl⟩, .inl ⟨7, rfl, rfl, rfl, rfl⟩, trivial⟩, fun u a w T S => ?_⟩
      obtain ⟨h42, H⟩ := ck H
      refine r_app (ix := 4) (iy := 0) (xs := x23) (ys := x37) T S rfl rfl rfl rfl (by decide) sty24 Try.runUnderlying24 (by decide) h42 rfl fun _ _ A40 k41 S T => ?_
      replace S : SL ([sl .own ku8 A38 k39 x37, blk b2 [.slice A14 x12.out.length k15, .slice A16 x12.body.length k17, .slice A24 x23.length k25, .int .i64 x12.many, .int .i64 x12.blocks, .slice A20 x12.last.length k21], sl .own ku8 A14 k15 x12.out, sl .ro ku8 A16 k17 x12.body, sl .own ku8 A40 k41 (x23 ++ x37), sl .ro ku8 A20 k21 x12.last, sl .own ki64 (some ⟨b22, 0, none⟩) 3 [(x1.out.length : Int), wr .i64 ((x12.out.length : Int) - (x1.out.length : Int)), x12.many]] ++ F) _ := S
      refine ⟨_, [some (.pointer (some ⟨b2, 0, none⟩), true), some (.pointer (some ⟨b2, 0, none⟩), true), some (.pointer (some ⟨b2, 0, none⟩), true), some (.pointer (some ⟨b2, 2, none⟩), true), some (.slice A24 x23.length k25, false), some (.int .i64 (gi (0 : Int) [(x1.out.length : Int), wr .i64 ((x12.out.length : Int) - (x1.out.length : Int)), x12.many] x26), true), some (.int .u64 (wr .u64 (gi (0 : Int) [(x1.out.length : Int), wr .i64 ((x12.out.length : Int) - (x1.out.length : Int)), x12.many] x26)), false), some (.slice A38 x37.length k39, false), some (.slice A40 ((x23 ++ x37).length) k41, false), some (.pointer (some ⟨b2, 0, none⟩), true), some (.pointer (some ⟨b2, 2, none⟩), true), none], [sl .own ku8 A38 k39 x37, blk b2 [.slice A14 x12.out.length k15, .slice A16 x12.body.length k17, .slice A24 x23.length k25, .int .i64 x12.many, .int .i64 x12.blocks, .slice A20 x12.last.length k21], sl .own ku8 A14 k15 x12.out, sl .ro ku8 A16 k17 x12.body, sl .own ku8 A40 k41 (x23 ++ x37), sl .ro ku8 A20 k21 x12.last, sl .own ki64 (some ⟨b22, 0, none⟩) 3 [(x1.out.length : Int), wr .i64 ((x12.out.length : Int) - (x1.out.length : Int)), x12.many]], rfl, ⟨.inr ⟨_, _, _, rfl, rfl⟩, .inr ⟨_, _, _, rfl, rfl⟩, .inr ⟨_, _, _, rfl, rfl⟩, .inr ⟨_, _, _, rfl, rfl⟩, .inr ⟨_, _, _, rfl, rfl⟩, .inr ⟨_, _, _, rfl, rfl⟩, .inr ⟨_, _, _, rfl, rfl⟩, .inr ⟨_, _, _, rfl, rfl⟩, .inl rfl, .inl rfl, .inl rfl, .inl rfl, trivial⟩, rfl, ?_, T, S⟩
      refine stage (some 11) rfl rfl ⟨⟨_, [(0, .pointer (some ⟨b2, 0, none⟩))], rfl, ⟨.inr ⟨rfl, rfl⟩, trivial⟩, fun u a w T S => (by refine r_pv T rfl rfl fun _ T => ?_; exact ⟨rfl, T⟩)⟩, ⟨_, [(0, .pointer (some ⟨b2, 0, none⟩))], rfl, ⟨.inr ⟨rfl, rfl⟩, trivial⟩, fun u a w T S => (by refine r_pv T rfl rfl fun _ T => ?_; exact ⟨rfl, T⟩)⟩, ⟨_, [(37, .pointer (some ⟨b2, 0, none⟩))], rfl, ⟨.inl ⟨1, rfl, rfl, rfl, rfl⟩, trivial⟩, fun u a w T S => (by refine r_pv T rfl rfl fun _ T => ?_; exact ⟨rfl, T⟩)⟩, ⟨_, [(38, .pointer (some ⟨b2, 0, none⟩))], rfl, ⟨.inl ⟨2, rfl, rfl, rfl, rfl⟩, trivial⟩, fun u a w T S => (by refine r_fa (o' := 2) T rfl Try.runUnderlying61 rfl Try.sizeOf24 rfl rfl fun _ T => ?_; exact ⟨rfl, T⟩)⟩, ⟨_, [(4, .int .i64 (gi (0 : Int) [(x1.out.length : Int), wr .i64 ((x12.out.length : Int) - (x1.out.length : Int)), x12.many] x26))], rfl, ⟨.inr ⟨rfl, rfl⟩, trivial⟩, fun u a w T S => (by refine r_pv T rfl rfl fun _ T => ?_; exact ⟨rfl, T⟩)⟩, ⟨_, [(36, .pointer (some ⟨b2, 0, none⟩))], rfl, ⟨.inl ⟨0, rfl, rfl, rfl, rfl⟩, trivial⟩, fun u a w T S => (by refine r_pv T rfl rfl fun _ T => ?_; exact ⟨rfl, T⟩)⟩, ⟨_, [(45, .pointer (some ⟨b2, 0, none⟩))], rfl, ⟨.inl ⟨9, rfl, rfl, rfl, rfl⟩, trivial⟩, fun u a w T S => (by refine r_fa (o' := 2) T rfl Try.runUnderlying61 rfl Try.sizeOf24 rfl rfl fun _ T => ?_; exact ⟨rfl, T⟩)⟩, trivial⟩ rfl (fun i hi => ?_) (fun h => by cases h)
      cases hi
      refine ⟨rfl, _, [(44, .slice A40 ((x23 ++ x37).length) k41), (46, .pointer (some ⟨b2, 2, none⟩))], rfl, ⟨.inl ⟨8, rfl, rfl, rfl, rfl⟩, .inl ⟨10, rfl, rfl, rfl, rfl⟩, trivial⟩, fun u a w T S => ?_⟩
      refine r_stB (ix := 1) (l' := [sl .own ku8 A38 k39 x37, blk b2 [.slice A14 x12.out.length k15, .slice A16 x12.body.length k17, .slice A40 ((x23 ++ x37).length) k41, .int .i64 x12.many, .int .i64 x12.blocks, .slice A20 x12.last.length k21], sl .own ku8 A14 k15 x12.out, sl .ro ku8 A16 k17 x12.body, sl .own ku8 A40 k41 (x23 ++ x37), sl .ro ku8 A20 k21 x12.last, sl .own ki64 (some ⟨b22, 0, none⟩) 3 [(x1.out.length : Int), wr .i64 ((x12.out.length : Int) - (x1.out.length : Int)), x12.many]]) T S rfl rfl rfl Try.sizeOf24 rfl (Nat.le_of_ble_eq_true rfl) rfl fun _ S => ?_
      refine ⟨_, [some (.pointer (some ⟨b2, 0, none⟩), false), some (.pointer (some ⟨b2, 0, none⟩), false), some (.pointer (some ⟨b2, 0, none⟩), false), some (.pointer (some ⟨b2, 2, none⟩), false), some (.slice A24 x23.length k25, false), some (.int .i64 (gi (0 : Int) [(x1.out.length : Int), wr .i64 ((x12.out.length : Int) - (x1.out.length : Int)), x12.many] x26), false), some (.int .u64 (wr .u64 (gi (0 : Int) [(x1.out.length : Int), wr .i64 ((x12.out.length : Int) - (x1.out.length : Int)), x12.many] x26)), false), some (.slice A38 x37.length k39, false), some (.slice A40 ((x23 ++ x37).length) k41, false), some (.pointer (some ⟨b2, 0, none⟩), true), some (.pointer (some ⟨b2, 2, none⟩), false), some (undef, false)], [sl .own ku8 A38 k39 x37, blk b2 [.slice A14 x12.out.length k15, .slice A16 x12.body.length k17, .slice A40 ((x23 ++ x37).length) k41, .int .i64 x12.many, .int .i64 x12.blocks, .slice A20 x12.last.length k21], sl .own ku8 A14 k15 x12.out, sl .ro ku8 A16 k17 x12.body, sl .own ku8 A40 k41 (x23 ++ x37), sl .ro ku8 A20 k21 x12.last, sl .own ki64 (some ⟨b22, 0, none⟩) 3 [(x1.out.length : Int), wr .i64 ((x12.out.length : Int) - (x1.out.length : Int)), x12.many]], rfl, ⟨.inr ⟨_, _, _, rfl, rfl⟩, .inr ⟨_, _, _, rfl, rfl⟩, .inr ⟨_, _, _, rfl, rfl⟩, .inr ⟨_, _, _, rfl, rfl⟩, .inr ⟨_, _, _, rfl, rfl⟩, .inr ⟨_, _, _, rfl, rfl⟩, .inr ⟨_, _, _, rfl, rfl⟩, .inr ⟨_, _, _, rfl, rfl⟩, .inr ⟨_, _, _, rfl, rfl⟩, .inr ⟨_, _, _, rfl, rfl⟩, .inr ⟨_, _, _, rfl, rfl⟩, .inl rfl, trivial⟩, rfl, ?_, T, S⟩
      refine stage none rfl rfl ⟨⟨_, [(36, .pointer (some ⟨b2, 0, none⟩))], rfl, ⟨.inl ⟨0, rfl, rfl, rfl, rfl⟩, trivial⟩, fun u a w T S => (by refine r_pv T rfl rfl fun _ T => ?_; exact ⟨rfl, T⟩)⟩, trivial⟩ rfl (fun i hi => by cases hi) (fun _ _ a w T hv hb S => ?_)
      replace T := T.sub (r := [(0, .pointer (some ⟨b2, 0, none⟩)), (30, .slice (some ⟨b22, 0, none⟩) 3 3), (31, .int .i64 (3 : Int)), (32, .int .i64 x26)]) ⟨hb 0 _ rfl rfl, hb 30 _ rfl rfl, hb 31 _ rfl rfl, hb 32 _ rfl rfl, trivial⟩
      refine Gets.inBlock ?_
      refine rg ?_
      refine r_pv T rfl rfl fun _ T => ?_
      refine r_pv T rfl rfl fun _ T => ?_
      refine Gets.inLoop ?_
      have T := T.re (s := 30) (v' := .slice (some ⟨b22, 0, none⟩) [(x1.out.length : Int), wr .i64 ((x12.out.length : Int) - (x1.out.length : Int)), x12.many].length 3) rfl (by simp)
      exact ih (wr .i64 (x26 + 1)) A40 (x23 ++ x37) k41 _ _ (T.sub ⟨rfl, rfl, rfl, rfl, trivial⟩) (S.only (p := [blk b2 [.slice A14 x12.out.length k15, .slice A16 x12.body.length k17, .slice A40 ((x23 ++ x37).length) k41, .int .i64 x12.many, .int .i64 x12.blocks, .slice A20 x12.last.length k21], sl .own ku8 A14 k15 x12.out, sl .ro ku8 A16 k17 x12.body, sl .own ku8 A40 k41 (x23 ++ x37), sl .ro ku8 A20 k21 x12.last, sl .own ki64 (some ⟨b22, 0, none⟩) 3 [(x1.out.length : Int), wr .i64 ((x12.out.length : Int) - (x1.out.length : Int)), x12.many]]) [1, 1, 1, 1, 1, 1] rfl) H
    · refine cdF T rfl h27 ?_
      refine Gets.exit rfl (Gets.seq ?_)
      refine rg ?_
      refine r_pv T rfl rfl fun _ T => ?_
      refine r_pv T rfl rfl fun _ T => ?_
      refine r_fa (o' := 5) T rfl Try.runUnderlying61 rfl Try.sizeOf24 rfl rfl fun _ T => ?_
      refine r_ldB (ix := 0) T S rfl Try.isAgg24 rfl rfl rfl fun _ T => ?_
      obtain ⟨x29, h28, H⟩ := bd H
      refine r_call T Try.call56 rfl rfl (codec_Text.ok _ _ z x12.last (S.sel (p := [sl .ro ku8 A20 k21 x12.last]) (is := [4]) rfl) _ h28) ?_
      rintro _ _ ⟨A30, k31, rfl, S⟩
      refine ⟨_, rfl, fun _ T => ?_⟩
      replace S : SL ([sl .own ku8 A30 k31 x29.1, sl .ro ku8 A20 k21 x12.last, blk b2 [.slice A14 x12.out.length k15, .slice A16 x12.body.length k17, .slice A24 x23.length k25, .int .i64 x12.many, .int .i64 x12.blocks, .slice A20 x12.last.length k21], sl .own ku8 A14 k15 x12.out, sl .ro ku8 A16 k17 x12.body, sl .own ku8 A24 k25 x23, sl .own ki64 (some ⟨b22, 0, none⟩) 3 [(x1.out.length : Int), wr .i64 ((x12.out.length : Int) - (x1.out.length : Int)), x12.many]] ++ F) _ := S.join
      refine r_pv T rfl rfl fun _ T => ?_
      refine r_pv T rfl rfl fun _ T => ?_
      refine r_pv T rfl rfl fun _ T => ?_
      refine r_pv T rfl rfl fun _ T => ?_
      refine r_pv T rfl rfl fun _ T => ?_
      refine Gets.seq ?_
      refine rg ?_
      refine r_pv T rfl rfl fun _ T => ?_
      refine r_pv T rfl rfl fun _ T => ?_
      refine r_pv T rfl rfl fun _ T => ?_
      refine r_fa (o' := 2) T rfl Try.runUnderlying61 rfl Try.sizeOf24 rfl rfl fun _ T => ?_
      refine r_ldB (ix := 2) T S rfl Try.isAgg24 rfl rfl rfl fun _ T => ?_
      refine r_pv T rfl rfl fun _ T => ?_
      obtain ⟨h34, H⟩ := ck H
      refine r_app (ix := 5) (iy := 0) (xs := x23) (ys := x29.1) T S rfl rfl rfl rfl (by decide) sty24 Try.runUnderlying24 (by decide) h34 rfl fun _ _ A32 k33 S T => ?_
      replace S : SL ([sl .own ku8 A30 k31 x29.1, sl .ro ku8 A20 k21 x12.last, blk b2 [.slice A14 x12.out.length k15, .slice A16 x12.body.length k17, .slice A24 x23.length k25, .int .i64 x12.many, .int .i64 x12.blocks, .slice A20 x12.last.length k21], sl .own ku8 A14 k15 x12.out, sl .ro ku8 A16 k17 x12.body, sl .own ku8 A32 k33 (x23 ++ x29.1), sl .own ki64 (some ⟨b22, 0, none⟩) 3 [(x1.out.length : Int), wr .i64 ((x12.out.length : Int) - (x1.out.length : Int)), x12.many]] ++ F) _ := S
      refine r_pv T rfl rfl fun _ T => ?_
      refine r_fa (o' := 2) T rfl Try.runUnderlying61 rfl Try.sizeOf24 rfl rfl fun _ T => ?_
      refine r_stB (ix := 2) (l' := [sl .own ku8 A30 k31 x29.1, sl .ro ku8 A20 k21 x12.last, blk b2 [.slice A14 x12.out.length k15, .slice A16 x12.body.length k17, .slice A32 ((x23 ++ x29.1).length) k33, .int .i64 x12.many, .int .i64 x12.blocks, .slice A20 x12.last.length k21], sl .own ku8 A14 k15 x12.out, sl .ro ku8 A16 k17 x12.body, sl .own ku8 A32 k33 (x23 ++ x29.1), sl .own ki64 (some ⟨b22, 0, none⟩) 3 [(x1.out.length : Int), wr .i64 ((x12.out.length : Int) - (x1.out.length : Int)), x12.many]]) T S rfl rfl rfl Try.sizeOf24 rfl (Nat.le_of_ble_eq_true rfl) rfl fun _ S => ?_
      refine Gets.seq ?_
      refine rg ?_
      refine r_pv T rfl rfl fun _ T => ?_
      refine r_pv T rfl rfl fun _ T => ?_
      refine r_pv T rfl rfl fun _ T => ?_
      refine r_fa (o' := 1) T rfl Try.runUnderlying61 rfl Try.sizeOf24 rfl rfl fun _ T => ?_
      refine r_stB (ix := 2) (l' := [sl .own ku8 A30 k31 x29.1, sl .ro ku8 A20 k21 x12.last, blk b2 [.slice A14 x12.out.length k15, .slice none 0 0, .slice A32 ((x23 ++ x29.1).length) k33, .int .i64 x12.many, .int .i64 x12.blocks, .slice A20 x12.last.length k21], sl .own ku8 A14 k15 x12.out, sl .ro ku8 A16 k17 x12.body, sl .own ku8 A32 k33 (x23 ++ x29.1), sl .own ki64 (some ⟨b22, 0, none⟩) 3 [(x1.out.length : Int), wr .i64 ((x12.out.length : Int) - (x1.out.length : Int)), x12.many]]) T S rfl rfl rfl Try.sizeOf24 rfl (Nat.le_of_ble_eq_true rfl) rfl fun _ S => ?_
      refine r_pv T rfl rfl fun _ T => ?_
      refine r_fa (o' := 3) T rfl Try.runUnderlying61 rfl Try.sizeOf3 rfl rfl fun _ T => ?_
      refine r_stB (ix := 2) (l' := [sl .own ku8 A30 k31 x29.1, sl .ro ku8 A20 k21 x12.last, blk b2 [.slice A14 x12.out.length k15, .slice none 0 0, .slice A32 ((x23 ++ x29.1).length) k33, .int .i64 0, .int .i64 x12.blocks, .slice A20 x12.last.length k21], sl .own ku8 A14 k15 x12.out, sl .ro ku8 A16 k17 x12.body, sl .own ku8 A32 k33 (x23 ++ x29.1), sl .own ki64 (some ⟨b22, 0, none⟩) 3 [(x1.out.length : Int), wr .i64 ((x12.out.length : Int) - (x1.out.length : Int)), x12.many]]) T S rfl rfl rfl Try.sizeOf3 rfl (Nat.le_of_ble_eq_true rfl) rfl fun _ S => ?_
      refine rg ?_
      refine r_pv T rfl rfl fun _ T => ?_
      refine r_pv T rfl rfl fun _ T => ?_
      refine r_fa (o' := 4) T rfl Try.runUnderlying61 rfl Try.sizeOf3 rfl rfl fun _ T => ?_
      refine r_ldB (ix := 2) T S rfl Try.isAgg3 rfl rfl rfl fun _ T => ?_
      refine r_pv T rfl rfl fun _ T => ?_
      refine r_pv T rfl rfl fun _ T => ?_
      refine r_fa (o' := 4) T rfl Try.runUnderlying61 rfl Try.sizeOf3 rfl rfl fun _ T => ?_
      refine r_stB (ix := 2) (l' := [sl .own ku8 A30 k31 x29.1, sl .ro ku8 A20 k21 x12.last, blk b2 [.slice A14 x12.out.length k15, .slice none 0 0, .slice A32 ((x23 ++ x29.1).length) k33, .int .i64 0, .int .i64 (wr .i64 (x12.blocks + 1)), .slice A20 x12.last.length k21], sl .own ku8 A14 k15 x12.out, sl .ro ku8 A16 k17 x12.body, sl .own ku8 A32 k33 (x23 ++ x29.1), sl .own ki64 (some ⟨b22, 0, none⟩) 3 [(x1.out.length : Int), wr .i64 ((x12.out.length : Int) - (x1.out.length : Int)), x12.many]]) T S rfl rfl rfl Try.sizeOf3 rfl (Nat.le_of_ble_eq_true rfl) rfl fun _ S => ?_
      replace S := S.nil ku8 .ro
      replace S : SL ([sl .ro ku8 none 0 ([] : List Int), sl .own ku8 A30 k31 x29.1, sl .ro ku8 A20 k21 x12.last, blk b2 [.slice A14 x12.out.length k15, .slice none (([] : List Int).length) 0, .slice A32 ((x23 ++ x29.1).length) k33, .int .i64 0, .int .i64 (wr .i64 (x12.blocks + 1)), .slice A20 x12.last.length k21], sl .own ku8 A14 k15 x12.out, sl .ro ku8 A16 k17 x12.body, sl .own ku8 A32 k33 (x23 ++ x29.1), sl .own ki64 (some ⟨b22, 0, none⟩) 3 [(x1.out.length : Int), wr .i64 ((x12.out.length : Int) - (x1.out.length : Int)), x12.many]] ++ F) _ := S.reB (i := 3) rfl (by simp) rfl
      replace H := Option.some.inj H
      subst H
      exact rtf T Try.func29 rfl rfl ⟨A14, k15, none, 0, A32, k33, A20, k21, rfl, (S.only (p := [blk b2 [.slice A14 x12.out.length k15, .slice none (([] : List Int).length) 0, .slice A32 ((x23 ++ x29.1).length) k33, .int .i64 0, .int .i64 (wr .i64 (x12.blocks + 1)), .slice A20 x12.last.length k21], sl .own ku8 A14 k15 x12.out, sl .ro ku8 none 0 ([] : List Int), sl .own ku8 A32 k33 (x23 ++ x29.1), sl .ro ku8 A20 k21 x12.last]) [3, 3, 0, 3, 1] rfl)⟩
theorem ok (F : List Atom) (w : World) (z : Nat) (x1 : sstable_builder) {b2 : Nat} {A3 : Option Addr} {k4 : Nat} {A5 : Option Addr} {k6 : Nat} {A7 : Option Addr} {k8 : Nat} {A9 : Option Addr} {k10 : Nat} (S : SL ([blk b2 [.slice A3 x1.out.length k4, .slice A5 x1.body.length k6, .slice A7 x1.index.length k8, .int .i64 x1.many, .int .i64 x1.blocks, .slice A9 x1.last.length k10], sl .own ku8 A3 k4 x1.out, sl .ro ku8 A5 k6 x1.body, sl .own ku8 A7 k8 x1.index, sl .ro ku8 A9 k10 x1.last] ++ F) w) (r : sstable_builder) (H : f z x1 = some r) : Calls Try.prog 29 #[.pointer (some ⟨b2, 0, none⟩)] w (R F b2 r) := by
  refine enter (vs := [.pointer (some ⟨b2, 0, none⟩)]) Try.func29 rfl Try.ntmps29 (Nat.le_of_ble_eq_true rfl) fun a T => ?_
  refine Gets.seq ?_
  refine rg ?_
  refine r_pv T rfl rfl fun _ T => ?_
  refine r_pv T rfl rfl fun _ T => ?_
  refine r_fa (o' := 0) T rfl Try.runUnderlying61 rfl Try.sizeOf24 rfl rfl fun _ T => ?_
  refine r_ldB (ix := 0) T S rfl Try.isAgg24 rfl rfl rfl fun _ T => ?_
  refine r_lenS T rfl Try.runUnderlying24 rfl fun _ T => ?_
  refine r_pv T rfl rfl fun _ T => ?_
  refine Gets.seq ?_
  refine rg ?_
  refine r_pv T rfl rfl fun _ T => ?_
  refine r_pv T rfl rfl fun _ T => ?_
  refine r_pv T rfl rfl fun _ T => ?_
  refine r_fa (o' := 1) T rfl Try.runUnderlying61 rfl Try.sizeOf24 rfl rfl fun _ T => ?_
  refine r_ldB (ix := 0) T S rfl Try.isAgg24 rfl rfl rfl fun _ T => ?_
  replace S := S.dup (i := 2) rfl
  obtain ⟨x12, h11, H⟩ := bd H
  refine r_call T Try.call54 rfl rfl (sstable_builder_frame.ok _ _ z x1 68 x1.body (S.sel (p := [blk b2 [.slice A3 x1.out.length k4, .slice A5 x1.body.length k6, .slice A7 x1.index.length k8, .int .i64 x1.many, .int .i64 x1.blocks, .slice A9 x1.last.length k10], sl .own ku8 A3 k4 x1.out, sl .ro ku8 A5 k6 x1.body, sl .own ku8 A7 k8 x1.index, sl .ro ku8 A9 k10 x1.last, sl .ro ku8 A5 k6 x1.body]) (is := [1, 1, 1, 1, 1, 0]) rfl) _ h11) ?_
  rintro _ _ ⟨A14, k15, A16, k17, A18, k19, A20, k21, rfl, S⟩
  refine ⟨_, rfl, fun _ T => ?_⟩
  replace S : SL ([blk b2 [.slice A14 x12.out.length k15, .slice A16 x12.body.length k17, .slice A18 x12.index.length k19, .int .i64 x12.many, .int .i64 x12.blocks, .slice A20 x12.last.length k21], sl .own ku8 A14 k15 x12.out, sl .ro ku8 A16 k17 x12.body, sl .own ku8 A18 k19 x12.index, sl .ro ku8 A20 k21 x12.last, sl .ro ku8 A5 k6 x1.body] ++ F) _ := S.join
  refine Gets.seq (Gets.seq ?_)
  refine Gets.drawn (l := [blk b2 [.slice A14 x12.out.length k15, .slice A16 x12.body.length k17, .slice A18 x12.index.length k19, .int .i64 x12.many, .int .i64 x12.blocks, .slice A20 x12.last.length k21], sl .own ku8 A14 k15 x12.out, sl .ro ku8 A16 k17 x12.body, sl .own ku8 A18 k19 x12.index, sl .ro ku8 A20 k21 x12.last, sl .ro ku8 A5 k6 x1.body]) (V := [some (.int .i64 (x1.out.length : Int), true), some (.pointer (some ⟨b2, 0, none⟩), true), some (.pointer (some ⟨b2, 0, none⟩), true), some (.pointer (some ⟨b2, 0, none⟩), true), some (.slice A14 x12.out.length k15, true), some (.int .i64 (x12.out.length : Int), true), some (.int .i64 (x1.out.length : Int), true), some (.int .i64 (wr .i64 ((x12.out.length : Int) - (x1.out.length : Int))), true), some (.pointer (some ⟨b2, 0, none⟩), true), some (.pointer (some ⟨b2, 0, none⟩), true), some (.pointer (some ⟨b2, 3, none⟩), true), some (.int .i64 x12.many, true), none, none, some (.int .i64 0, true)]) mixed T S rfl ?_
  refine stage (some 12) rfl rfl ⟨⟨_, [(2, .int .i64 (x1.out.length : Int))], rfl, ⟨.inr ⟨rfl, rfl⟩, trivial⟩, fun u a w T S => (by refine r_pv T rfl rfl fun _ T => ?_; exact ⟨rfl, T⟩)⟩, ⟨_, [(0, .pointer (some ⟨b2, 0, none⟩))], rfl, ⟨.inr ⟨rfl, rfl⟩, trivial⟩, fun u a w T S => (by refine r_pv T rfl rfl fun _ T => ?_; exact ⟨rfl, T⟩)⟩, ⟨_, [(19, .pointer (some ⟨b2, 0, none⟩))], rfl, ⟨.inl ⟨1, rfl, rfl, rfl, rfl⟩, trivial⟩, fun u a w T S => (by refine r_pv T rfl rfl fun _ T => ?_; exact ⟨rfl, T⟩)⟩, ⟨_, [(20, .pointer (some ⟨b2, 0, none⟩))], rfl, ⟨.inl ⟨2, rfl, rfl, rfl, rfl⟩, trivial⟩, fun u a w T S => (by refine r_fa (o' := 0) T rfl Try.runUnderlying61 rfl Try.sizeOf24 rfl rfl fun _ T => ?_; exact ⟨rfl, T⟩)⟩, ⟨_, [(21, .pointer (some ⟨b2, 0, none⟩))], rfl, ⟨.inl ⟨3, rfl, rfl, rfl, rfl⟩, trivial⟩, fun u a w T S => (by refine r_ldB (ix := 0) T S rfl Try.isAgg24 rfl rfl rfl fun _ T => ?_; exact ⟨rfl, T⟩)⟩, ⟨_, [(22, .slice A14 x12.out.length k15)], rfl, ⟨.inl ⟨4, rfl, rfl, rfl, rfl⟩, trivial⟩, fun u a w T S => (by refine r_lenS T rfl Try.runUnderlying24 rfl fun _ T => ?_; exact ⟨rfl, T⟩)⟩, ⟨_, [(2, .int .i64 (x1.out.length : Int))], rfl, ⟨.inr ⟨rfl, rfl⟩, trivial⟩, fun u a w T S => (by refine r_pv T rfl rfl fun _ T => ?_; exact ⟨rfl, T⟩)⟩, ⟨_, [(23, .int .i64 (x12.out.length : Int)), (24, .int .i64 (x1.out.length : Int))], rfl, ⟨.inl ⟨5, rfl, rfl, rfl, rfl⟩, .inl ⟨6, rfl, rfl, rfl, rfl⟩, trivial⟩, fun u a w T S => (by refine r_pv T rfl rfl fun _ T => ?_; exact ⟨rfl, T⟩)⟩, ⟨_, [(0, .pointer (some ⟨b2, 0, none⟩))], rfl, ⟨.inr ⟨rfl, rfl⟩, trivial⟩, fun u a w T S => (by refine r_pv T rfl rfl fun _ T => ?_; exact ⟨rfl, T⟩)⟩, ⟨_, [(26, .pointer (some ⟨b2, 0, none⟩))], rfl, ⟨.inl ⟨8, rfl, rfl, rfl, rfl⟩, trivial⟩, fun u a w T S => (by refine r_pv T rfl rfl fun _ T => ?_; exact ⟨rfl, T⟩)⟩, ⟨_, [(27, .pointer (some ⟨b2, 0, none⟩))], rfl, ⟨.inl ⟨9, rfl, rfl, rfl, rfl⟩, trivial⟩, fun u a w T S => (by refine r_fa (o' := 3) T rfl Try.runUnderlying61 rfl Try.sizeOf3 rfl rfl fun _ T => ?_; exact ⟨rfl, T⟩)⟩, ⟨_, [(28, .pointer (some ⟨b2, 3, none⟩))], rfl, ⟨.inl ⟨10, rfl, rfl, rfl, rfl⟩, trivial⟩, fun u a w T S => (by refine r_ldB (ix := 0) T S rfl Try.isAgg3 rfl rfl rfl fun _ T => ?_; exact ⟨rfl, T⟩)⟩, ⟨_, [], rfl, trivial, fun u a w T S => (by refine r_pv T rfl rfl fun _ T => ?_; exact ⟨rfl, T⟩)⟩, trivial⟩ rfl (fun i hi => ?_) (fun h => by cases h)
  cases hi
  refine ⟨rfl, _, [(18, .int .i64 (x1.out.length : Int)), (25, .int .i64 (wr .i64 ((x12.out.length : Int) - (x1.out.length : Int)))), (29, .int .i64 x12.many)], rfl, ⟨.inl ⟨0, rfl, rfl, rfl, rfl⟩, .inl ⟨7, rfl, rfl, rfl, rfl⟩, .inl ⟨11, rfl, rfl, rfl, rfl⟩, trivial⟩, fun u a w T S => ?_⟩
  replace S := SL.val (κ := ki64) (x := (x1.out.length : Int)) (cs := [.int .i64 (x1.out.length : Int)]) (fun _ => rfl) S
  replace S := SL.val (κ := ki64) (x := wr .i64 ((x12.out.length : Int) - (x1.out.length : Int))) (cs := [.int .i64 (wr .i64 ((x12.out.length : Int) - (x1.out.length : Int)))]) (fun _ => rfl) S
  replace S := SL.val (κ := ki64) (x := x12.many) (cs := [.int .i64 x12.many]) (fun _ => rfl) S
  refine r_bsl (κ := ki64) (xs := [(x1.out.length : Int), wr .i64 ((x12.out.length : Int) - (x1.out.length : Int)), x12.many]) (vs := [.int .i64 (x1.out.length : Int), .int .i64 (wr .i64 ((x12.out.length : Int) - (x1.out.length : Int))), .int .i64 x12.many]) T S sty48 rfl ⟨_, _, rfl, ⟨2, rfl⟩, ⟨_, _, rfl, ⟨1, rfl⟩, ⟨_, _, rfl, ⟨0, rfl⟩, rfl⟩⟩⟩ rfl (by decide) rfl fun _ _ b22 S T => ?_
  replace S : SL ([sl .own ki64 (some ⟨b22, 0, none⟩) 3 [(x1.out.length : Int), wr .i64 ((x12.out.length : Int) - (x1.out.length : Int)), x12.many], blk b2 [.slice A14 x12.out.length k15, .slice A16 x12.body.length k17, .slice A18 x12.index.length k19, .int .i64 x12.many, .int .i64 x12.blocks, .slice A20 x12.last.length k21], sl .own ku8 A14 k15 x12.out, sl .ro ku8 A16 k17 x12.body, sl .own ku8 A18 k19 x12.index, sl .ro ku8 A20 k21 x12.last, sl .ro ku8 A5 k6 x1.body] ++ F) _ := S.only [0, 3, 3, 3, 3, 3, 3] rfl
  refine ⟨_, [some (.int .i64 (x1.out.length : Int), false), some (.pointer (some ⟨b2, 0, none⟩), true), some (.pointer (some ⟨b2, 0, none⟩), true), some (.pointer (some ⟨b2, 0, none⟩), true), some (.slice A14 x12.out.length k15, true), some (.int .i64 (x12.out.length : Int), true), some (.int .i64 (x1.out.length : Int), true), some (.int .i64 (wr .i64 ((x12.out.length : Int) - (x1.out.length : Int))), false), some (.pointer (some ⟨b2, 0, none⟩), true), some (.pointer (some ⟨b2, 0, none⟩), true), some (.pointer (some ⟨b2, 3, none⟩), true), some (.int .i64 x12.many, false), some (.slice (some ⟨b22, 0, none⟩) 3 3, false), some (.int .i64 (3 : Int), true), some (.int .i64 0, true)], [sl .own ki64 (some ⟨b22, 0, none⟩) 3 [(x1.out.length : Int), wr .i64 ((x12.out.length : Int) - (x1.out.length : Int)), x12.many], blk b2 [.slice A14 x12.out.length k15, .slice A16 x12.body.length k17, .slice A18 x12.index.length k19, .int .i64 x12.many, .int .i64 x12.blocks, .slice A20 x12.last.length k21], sl .own ku8 A14 k15 x12.out, sl .ro ku8 A16 k17 x12.body, sl .own ku8 A18 k19 x12.index, sl .ro ku8 A20 k21 x12.last, sl .ro ku8 A5 k6 x1.body], rfl, ⟨.inr ⟨_, _, _, rfl, rfl⟩, .inr ⟨_, _, _, rfl, rfl⟩, .inr ⟨_, _, _, rfl, rfl⟩, .inr ⟨_, _, _, rfl, rfl⟩, .inr ⟨_, _, _, rfl, rfl⟩, .inr ⟨_, _, _, rfl, rfl⟩, .inr ⟨_, _, _, rfl, rfl⟩, .inr ⟨_, _, _, rfl, rfl⟩, .inr ⟨_, _, _, rfl, rfl⟩, .inr ⟨_, _, _, rfl, rfl⟩, .inr ⟨_, _, _, rfl, rfl⟩, .inr ⟨_, _, _, rfl, rfl⟩, .inl rfl, .inl rfl, .inr ⟨_, _, _, rfl, rfl⟩, trivial⟩, rfl, ?_, T, S⟩
  refine stage none rfl rfl ⟨⟨_, [(0, .pointer (some ⟨b2, 0, none⟩))], rfl, ⟨.inr ⟨rfl, rfl⟩, trivial⟩, fun u a w T S => (by refine r_pv T rfl rfl fun _ T => ?_; exact ⟨rfl, T⟩)⟩, ⟨_, [(19, .pointer (some ⟨b2, 0, none⟩))], rfl, ⟨.inl ⟨1, rfl, rfl, rfl, rfl⟩, trivial⟩, fun u a w T S => (by refine r_pv T rfl rfl fun _ T => ?_; exact ⟨rfl, T⟩)⟩, ⟨_, [(20, .pointer (some ⟨b2, 0, none⟩))], rfl, ⟨.inl ⟨2, rfl, rfl, rfl, rfl⟩, trivial⟩, fun u a w T S => (by refine r_fa (o' := 0) T rfl Try.runUnderlying61 rfl Try.sizeOf24 rfl rfl fun _ T => ?_; exact ⟨rfl, T⟩)⟩, ⟨_, [(21, .pointer (some ⟨b2, 0, none⟩))], rfl, ⟨.inl ⟨3, rfl, rfl, rfl, rfl⟩, trivial⟩, fun u a w T S => (by refine r_ldB (ix := 1) T S rfl Try.isAgg24 rfl rfl rfl fun _ T => ?_; exact ⟨rfl, T⟩)⟩, ⟨_, [(22, .slice A14 x12.out.length k15)], rfl, ⟨.inl ⟨4, rfl, rfl, rfl, rfl⟩, trivial⟩, fun u a w T S => (by refine r_lenS T rfl Try.runUnderlying24 rfl fun _ T => ?_; exact ⟨rfl, T⟩)⟩, ⟨_, [(2, .int .i64 (x1.out.length : Int))], rfl, ⟨.inr ⟨rfl, rfl⟩, trivial⟩, fun u a w T S => (by refine r_pv T rfl rfl fun _ T => ?_; exact ⟨rfl, T⟩)⟩, ⟨_, [(0, .pointer (some ⟨b2, 0, none⟩))], rfl, ⟨.inr ⟨rfl, rfl⟩, trivial⟩, fun u a w T S => (by refine r_pv T rfl rfl fun _ T => ?_; exact ⟨rfl, T⟩)⟩, ⟨_, [(26, .pointer (some ⟨b2, 0, none⟩))], rfl, ⟨.inl ⟨8, rfl, rfl, rfl, rfl⟩, trivial⟩, fun u a w T S => (by refine r_pv T rfl rfl fun _ T => ?_; exact ⟨rfl, T⟩)⟩, ⟨_, [(27, .pointer (some ⟨b2, 0, none⟩))], rfl, ⟨.inl ⟨9, rfl, rfl, rfl, rfl⟩, trivial⟩, fun u a w T S => (by refine r_fa (o' := 3) T rfl Try.runUnderlying61 rfl Try.sizeOf3 rfl rfl fun _ T => ?_; exact ⟨rfl, T⟩)⟩, ⟨_, [(30, .slice (some ⟨b22, 0, none⟩) 3 3)], rfl, ⟨.inl ⟨12, rfl, rfl, rfl, rfl⟩, trivial⟩, fun u a w T S => (by refine r_lenS T rfl Try.runUnderlying48 rfl fun _ T => ?_; exact ⟨rfl, T⟩)⟩, ⟨_, [], rfl, trivial, fun u a w T S => (by refine r_pv T rfl rfl fun _ T => ?_; exact ⟨rfl, T⟩)⟩, trivial⟩ rfl (fun i hi => by cases hi) (fun _ _ a w T hv hb S => ?_)
  replace T := T.sub (r := [(0, .pointer (some ⟨b2, 0, none⟩)), (30, .slice (some ⟨b22, 0, none⟩) 3 3), (31, .int .i64 (3 : Int)), (32, .int .i64 0)]) ⟨hb 0 _ rfl rfl, hv 12 _ 30 rfl rfl rfl, hv 13 _ 31 rfl rfl rfl, hv 14 _ 32 rfl rfl rfl, trivial⟩
  refine Gets.block ?_
  refine Gets.loop ?_
  have T := T.re (s := 30) (v' := .slice (some ⟨b22, 0, none⟩) [(x1.out.length : Int), wr .i64 ((x12.out.length : Int) - (x1.out.length : Int)), x12.many].length 3) rfl (by simp)
  exact L0_ok F r z b2 b22 A14 x12 k15 A16 k17 A20 k21 x1 z 0 A18 x12.index k19 _ _ (T.sub ⟨rfl, rfl, rfl, rfl, trivial⟩) (S.only (p := [blk b2 [.slice A14 x12.out.length k15, .slice A16 x12.body.length k17, .slice A18 x12.index.length k19, .int .i64 x12.many, .int .i64 x12.blocks, .slice A20 x12.last.length k21], sl .own ku8 A14 k15 x12.out, sl .ro ku8 A16 k17 x12.body, sl .own ku8 A18 k19 x12.index, sl .ro ku8 A20 k21 x12.last, sl .own ki64 (some ⟨b22, 0, none⟩) 3 [(x1.out.length : Int), wr .i64 ((x12.out.length : Int) - (x1.out.length : Int)), x12.many]]) [1, 1, 1, 1, 1, 0] rfl) H
end sstable_builder_close
end Go.Proofs.Ytghpokmkhlmgcaa

namespace Go.Proofs.Ytghpokmkhlmgcaa
open Go Go.Proofs.Ytghpokmkhlmgcaa.X
set_option linter.unusedVariables false
set_option linter.unusedSimpArgs false
set_option maxRecDepth 100000
set_option maxHeartbeats 4000000
/-! ### cormorant.sstable.lay: function 53 -/
namespace sstable_lay
noncomputable def c0 : Code := match Try.f53.body with | some c => c | none => .skip
def R (F : List Atom) (x1 : List Int) (A2 : Option Addr) (m3 : Md) (x4 : List Int) (A5 : Option Addr) (k6 : Nat) (m7 : Md) (x8 : api_Entry) (A9 : Option Addr) (k10 : Nat) (A11 : Option Addr) (k12 : Nat) (r : (List Int)) : Ending → World → Prop := fun e w' => ∃ (A61 : Option Addr), ∃ (k62 : Nat), e = .returned (.slice A61 r.length k62) ∧ SL ([sl .own ku8 A61 k62 r, sl m3 ku8 A2 x1.length x1, sl m7 ku8 A5 k6 x4, sl .ro ku8 A9 k10 x8.Key, sl .ro ku8 A11 k12 x8.Value] ++ F) w'
def J2 (z : Nat) (x1 : List Int) (x8 : api_Entry) (x14 : Int) (x20 : Int) : Option (List Int) := Bd (codec_Number.f z (wr .u64 x14)) fun x22 => Ck ((x1.length + x22.length) * 1 ≤ 140737488355328 ∧ 0 < x22.length) (Bd (codec_Number.f z (wr .u64 (wr .i64 ((x8.Key.length : Int) - x14)))) fun x29 => Ck (((x1 ++ x22).length + x29.length) * 1 ≤ 140737488355328) (Bd (codec_Number.f z x8.Seq) fun x36 => Ck ((((x1 ++ x22) ++ x29).length + x36.length) * 1 ≤ 140737488355328) (Ck (((((x1 ++ x22) ++ x29) ++ x36).length + [x20].length) * 1 ≤ 140737488355328) (Bd (codec_Number.f z (wr .u64 (x8.Value.length : Int))) fun x47 => Ck ((((((x1 ++ x22) ++ x29) ++ x36) ++ [x20]).length + x47.length) * 1 ≤ 140737488355328) (Ck (0 ≤ x14 ∧ x14 ≤ (x8.Key.length : Int)) (Ck (((((((x1 ++ x22) ++ x29) ++ x36) ++ [x20]) ++ x47).length + (cut x8.Key (Int.toNat x14) (Int.toNat (x8.Key.length : Int))).length) * 1 ≤ 140737488355328) (Ck ((((((((x1 ++ x22) ++ x29) ++ x36) ++ [x20]) ++ x47) ++ (cut x8.Key (Int.toNat x14) (Int.toNat (x8.Key.length : Int)))).length + x8.Value.length) * 1 ≤ 140737488355328) (some (((((((x1 ++ x22) ++ x29) ++ x36) ++ [x20]) ++ x47) ++ (cut x8.Key (Int.toNat x14) (Int.toNat (x8.Key.length : Int)))) ++ x8.Value)))))))))
def J1 (z : Nat) (x1 : List Int) (x8 : api_Entry) (x14 : Int) : Option (List Int) := If x8.Del (J2 z x1 x8 x14 1) (J2 z x1 x8 x14 0)
def L0 (z : Nat) (x1 : List Int) (x4 : List Int) (x8 : api_Entry) : Nat → Int → Option (List Int)
  | 0, _ => none
  | m + 1, x14 => If (decide (x14 < (mn (x4.length : Int) (x8.Key.length : Int)))) (Ck (0 ≤ x14 ∧ x14 < (x4.length : Int)) (Ck (x14 < (x8.Key.length : Int)) (If ((gi (0 : Int) x4 x14) == (gi (0 : Int) x8.Key x14)) (L0 z x1 x4 x8 m (wr .i64 (x14 + 1))) (J1 z x1 x8 x14)))) (J1 z x1 x8 x14)
def f (z : Nat) (x1 : List Int) (x4 : List Int) (x8 : api_Entry) : Option (List Int) := L0 z x1 x4 x8 z 0
noncomputable def ptJ2 : List Item := [.code (cL (cR (cR (cR (cR (cR c0)))))), .code (cR (cR (cR (cR (cR (cR c0))))))]
noncomputable def ptJ1 : List Item := [.code (cL (cR (cR (cR c0)))), .code (cR (cR (cR (cR c0))))]
noncomputable def ptL0 : List Item := [.code (cB (cB (cL (cR (cR c0))))), .inLoop (cB (cB (cL (cR (cR c0))))), .inBlock 0, .code (cR (cR (cR c0)))]
theorem J2_ok (F : List Atom) (r : (List Int)) (z : Nat) (x1 : List Int) (A2 : Option Addr) (m3 : Md) (x4 : List Int) (A5 : Option Addr) (k6 : Nat) (m7 : Md) (x8 : api_Entry) (A9 : Option Addr) (k10 : Nat) (A11 : Option Addr) (k12 : Nat) (b13 : Nat) (x14 : Int) (x20 : Int) (a : Act) (w : World) (T : Tm 71 [(0, .slice A2 x1.length x1.length), (5, .pointer (some ⟨b13, 0, none⟩)), (7, .int .i64 x14), (8, .int .u8 x20)] a) (S : SL ([sl m3 ku8 A2 x1.length x1, sl m7 ku8 A5 k6 x4, sl .ro ku8 A9 k10 x8.Key, sl .ro ku8 A11 k12 x8.Value, blk b13 [.slice A9 x8.Key.length k10, .int .u64 x8.Seq, .bool x8.Del, .slice A11 x8.Value.length k12]] ++ F) w) (H : J2 z x1 x8 x14 x20 = some r) : Gets Try.prog 53 ptJ2 a w (R F x1 A2 m3 x4 A5 k6 m7 x8 A9 k10 A11 k12 r) := by
  refine rg ?_
  refine r_pv T rfl rfl fun _ T => ?_
  refine r_pv T rfl rfl fun _ T => ?_
  refine r_conv T rfl Try.runUnderlying3 Try.runUnderlying34 rfl fun _ T => ?_
  obtain ⟨x22, h21, H⟩ := bd H
  refine r_call T Try.call55 rfl rfl (codec_Number.ok _ _ z (wr .u64 x14) (S.sel (p := []) (is := []) rfl) _ h21) ?_
  rintro _ _ ⟨A23, k24, rfl, S⟩
  refine ⟨_, rfl, fun _ T => ?_⟩
  replace S : SL ([sl .own ku8 A23 k24 x22, sl m3 ku8 A2 x1.length x1, sl m7 ku8 A5 k6 x4, sl .ro ku8 A9 k10 x8.Key, sl .ro ku8 A11 k12 x8.Value, blk b13 [.slice A9 x8.Key.length k10, .int .u64 x8.Seq, .bool x8.Del, .slice A11 x8.Value.length k12]] ++ F) _ := S.join
  obtain ⟨h27, H⟩ := ck H
  refine r_appT (ix := 1) (iy := 0) (xs := x1) (ys := x22) T S rfl rfl rfl rfl rfl h27.2 sty24 Try.runUnderlying24 (by decide) h27.1 rfl fun _ _ A25 k26 S T => ?_
  refine r_pv T rfl rfl fun _ T => ?_
  refine Gets.seq ?_
  refine rg ?_
  refine r_pv T rfl rfl fun _ T => ?_
  refine r_fa (o' := 0) T rfl Try.runUnderlying36 rfl Try.sizeOf24 rfl rfl fun _ T => ?_
  refine r_ldB (ix := 6) T S rfl Try.isAgg24 rfl rfl rfl fun _ T => ?_
  refine r_lenS T rfl Try.runUnderlying24 rfl fun _ T => ?_
  refine r_pv T rfl rfl fun _ T => ?_
  refine r_pv T rfl rfl fun _ T => ?_
  refine r_conv T rfl Try.runUnderlying3 Try.runUnderlying34 rfl fun _ T => ?_
  obtain ⟨x29, h28, H⟩ := bd H
  refine r_call T Try.call55 rfl rfl (codec_Number.ok _ _ z (wr .u64 (wr .i64 ((x8.Key.length : Int) - x14))) (S.sel (p := []) (is := []) rfl) _ h28) ?_
  rintro _ _ ⟨A30, k31, rfl, S⟩
  refine ⟨_, rfl, fun _ T => ?_⟩
  replace S : SL ([sl .own ku8 A30 k31 x29, sl .own ku8 A25 k26 (x1 ++ x22), sl .own ku8 A23 k24 x22, sl m3 ku8 A2 x1.length x1, sl m7 ku8 A5 k6 x4, sl .ro ku8 A9 k10 x8.Key, sl .ro ku8 A11 k12 x8.Value, blk b13 [.slice A9 x8.Key.length k10, .int .u64 x8.Seq, .bool x8.Del, .slice A11 x8.Value.length k12]] ++ F) _ := S.join
  obtain ⟨h34, H⟩ := ck H
  refine r_app (ix := 1) (iy := 0) (xs := (x1 ++ x22)) (ys := x29) T S rfl rfl rfl rfl (by decide) sty24 Try.runUnderlying24 (by decide) h34 rfl fun _ _ A32 k33 S T => ?_
  replace S : SL ([sl .own ku8 A30 k31 x29, sl .own ku8 A32 k33 ((x1 ++ x22) ++ x29), sl .own ku8 A23 k24 x22, sl m3 ku8 A2 x1.length x1, sl m7 ku8 A5 k6 x4, sl .ro ku8 A9 k10 x8.Key, sl .ro ku8 A11 k12 x8.Value, blk b13 [.slice A9 x8.Key.length k10, .int .u64 x8.Seq, .bool x8.Del, .slice A11 x8.Value.length k12]] ++ F) _ := S
  refine r_pv T rfl rfl fun _ T => ?_
  refine Gets.seq ?_
  refine rg ?_
  refine r_pv T rfl rfl fun _ T => ?_
  refine r_fa (o' := 1) T rfl Try.runUnderlying36 rfl Try.sizeOf34 rfl rfl fun _ T => ?_
  refine r_ldB (ix := 7) T S rfl Try.isAgg34 rfl rfl rfl fun _ T => ?_
  obtain ⟨x36, h35, H⟩ := bd H
  refine r_call T Try.call55 rfl rfl (codec_Number.ok _ _ z x8.Seq (S.sel (p := []) (is := []) rfl) _ h35) ?_
  rintro _ _ ⟨A37, k38, rfl, S⟩
  refine ⟨_, rfl, fun _ T => ?_⟩
  replace S : SL ([sl .own ku8 A37 k38 x36, sl .own ku8 A30 k31 x29, sl .own ku8 A32 k33 ((x1 ++ x22) ++ x29), sl .own ku8 A23 k24 x22, sl m3 ku8 A2 x1.length x1, sl m7 ku8 A5 k6 x4, sl .ro ku8 A9 k10 x8.Key, sl .ro ku8 A11 k12 x8.Value, blk b13 [.slice A9 x8.Key.length k10, .int .u64 x8.Seq, .bool x8.Del, .slice A11 x8.Value.length k12]] ++ F) _ := S.join
  obtain ⟨h41, H⟩ := ck H
  refine r_app (ix := 2) (iy := 0) (xs := ((x1 ++ x22) ++ x29)) (ys := x36) T S rfl rfl rfl rfl (by decide) sty24 Try.runUnderlying24 (by decide) h41 rfl fun _ _ A39 k40 S T => ?_
  replace S : SL ([sl .own ku8 A37 k38 x36, sl .own ku8 A30 k31 x29, sl .own ku8 A39 k40 (((x1 ++ x22) ++ x29) ++ x36), sl .own ku8 A23 k24 x22, sl m3 ku8 A2 x1.length x1, sl m7 ku8 A5 k6 x4, sl .ro ku8 A9 k10 x8.Key, sl .ro ku8 A11 k12 x8.Value, blk b13 [.slice A9 x8.Key.length k10, .int .u64 x8.Seq, .bool x8.Del, .slice A11 x8.Value.length k12]] ++ F) _ := S
  refine r_pv T rfl rfl fun _ T => ?_
  replace S := SL.val (κ := ku8) (x := x20) (cs := [.int .u8 x20]) (fun _ => rfl) S
  refine r_bsl (κ := ku8) (xs := [x20]) (vs := [.int .u8 x20]) T S sty24 rfl ⟨_, _, rfl, ⟨0, rfl⟩, rfl⟩ rfl (by decide) rfl fun _ _ b42 S T => ?_
  replace S : SL ([sl .own ku8 (some ⟨b42, 0, none⟩) 1 [x20], sl .own ku8 A37 k38 x36, sl .own ku8 A30 k31 x29, sl .own ku8 A39 k40 (((x1 ++ x22) ++ x29) ++ x36), sl .own ku8 A23 k24 x22, sl m3 ku8 A2 x1.length x1, sl m7 ku8 A5 k6 x4, sl .ro ku8 A9 k10 x8.Key, sl .ro ku8 A11 k12 x8.Value, blk b13 [.slice A9 x8.Key.length k10, .int .u64 x8.Seq, .bool x8.Del, .slice A11 x8.Value.length k12]] ++ F) _ := S.only [0, 1, 1, 1, 1, 1, 1, 1, 1, 1] rfl
  obtain ⟨h45, H⟩ := ck H
  refine r_app (ix := 3) (iy := 0) (xs := (((x1 ++ x22) ++ x29) ++ x36)) (ys := [x20]) T S rfl rfl rfl rfl (by decide) sty24 Try.runUnderlying24 (by decide) h45 rfl fun _ _ A43 k44 S T => ?_
  replace S : SL ([sl .own ku8 (some ⟨b42, 0, none⟩) 1 [x20], sl .own ku8 A37 k38 x36, sl .own ku8 A30 k31 x29, sl .own ku8 A43 k44 ((((x1 ++ x22) ++ x29) ++ x36) ++ [x20]), sl .own ku8 A23 k24 x22, sl m3 ku8 A2 x1.length x1, sl m7 ku8 A5 k6 x4, sl .ro ku8 A9 k10 x8.Key, sl .ro ku8 A11 k12 x8.Value, blk b13 [.slice A9 x8.Key.length k10, .int .u64 x8.Seq, .bool x8.Del, .slice A11 x8.Value.length k12]] ++ F) _ := S
  refine r_pv T rfl rfl fun _ T => ?_
  refine Gets.seq ?_
  refine rg ?_
  refine r_pv T rfl rfl fun _ T => ?_
  refine r_fa (o' := 3) T rfl Try.runUnderlying36 rfl Try.sizeOf24 rfl rfl fun _ T => ?_
  refine r_ldB (ix := 9) T S rfl Try.isAgg24 rfl rfl rfl fun _ T => ?_
  refine r_lenS T rfl Try.runUnderlying24 rfl fun _ T => ?_
  refine r_conv T rfl Try.runUnderlying3 Try.runUnderlying34 rfl fun _ T => ?_
  obtain ⟨x47, h46, H⟩ := bd H
  refine r_call T Try.call55 rfl rfl (codec_Number.ok _ _ z (wr .u64 (x8.Value.length : Int)) (S.sel (p := []) (is := []) rfl) _ h46) ?_
  rintro _ _ ⟨A48, k49, rfl, S⟩
  refine ⟨_, rfl, fun _ T => ?_⟩
  replace S : SL ([sl .own ku8 A48 k49 x47, sl .own ku8 (some ⟨b42, 0, none⟩) 1 [x20], sl .own ku8 A37 k38 x36, sl .own ku8 A30 k31 x29, sl .own ku8 A43 k44 ((((x1 ++ x22) ++ x29) ++ x36) ++ [x20]), sl .own ku8 A23 k24 x22, sl m3 ku8 A2 x1.length x1, sl m7 ku8 A5 k6 x4, sl .ro ku8 A9 k10 x8.Key, sl .ro ku8 A11 k12 x8.Value, blk b13 [.slice A9 x8.Key.length k10, .int .u64 x8.Seq, .bool x8.Del, .slice A11 x8.Value.length k12]] ++ F) _ := S.join
  obtain ⟨h52, H⟩ := ck H
  refine r_app (ix := 4) (iy := 0) (xs := ((((x1 ++ x22) ++ x29) ++ x36) ++ [x20])) (ys := x47) T S rfl rfl rfl rfl (by decide) sty24 Try.runUnderlying24 (by decide) h52 rfl fun _ _ A50 k51 S T => ?_
  replace S : SL ([sl .own ku8 A48 k49 x47, sl .own ku8 (some ⟨b42, 0, none⟩) 1 [x20], sl .own ku8 A37 k38 x36, sl .own ku8 A30 k31 x29, sl .own ku8 A50 k51 (((((x1 ++ x22) ++ x29) ++ x36) ++ [x20]) ++ x47), sl .own ku8 A23 k24 x22, sl m3 ku8 A2 x1.length x1, sl m7 ku8 A5 k6 x4, sl .ro ku8 A9 k10 x8.Key, sl .ro ku8 A11 k12 x8.Value, blk b13 [.slice A9 x8.Key.length k10, .int .u64 x8.Seq, .bool x8.Del, .slice A11 x8.Value.length k12]] ++ F) _ := S
  refine r_pv T rfl rfl fun _ T => ?_
  refine Gets.seq ?_
  have h53 := S.len (i := 8) rfl
  obtain ⟨h54, H⟩ := ck H
  replace S := S.cutR (ix := 8) (i := x14) (j := (x8.Key.length : Int)) (k := (k10 : Int)) rfl h54.1 h54.2 (Int.le_refl _) (by omega) (by omega)
  refine Gets.drawn (l := [sl .ro ku8 (slA A9 (Int.toNat (k10 : Int)) (Int.toNat x14) 1) (Int.toNat (k10 : Int) - Int.toNat x14) (cut x8.Key (Int.toNat x14) (Int.toNat (x8.Key.length : Int))), sl .own ku8 A48 k49 x47, sl .own ku8 (some ⟨b42, 0, none⟩) 1 [x20], sl .own ku8 A37 k38 x36, sl .own ku8 A30 k31 x29, sl .own ku8 A50 k51 (((((x1 ++ x22) ++ x29) ++ x36) ++ [x20]) ++ x47), sl .own ku8 A23 k24 x22, sl m3 ku8 A2 x1.length x1, sl m7 ku8 A5 k6 x4, sl .ro ku8 A9 k10 x8.Key, sl .ro ku8 A11 k12 x8.Value, blk b13 [.slice A9 x8.Key.length k10, .int .u64 x8.Seq, .bool x8.Del, .slice A11 x8.Value.length k12]]) (V := [some (.slice A50 ((((((x1 ++ x22) ++ x29) ++ x36) ++ [x20]) ++ x47).length) k51, true), some (.pointer (some ⟨b13, 0, none⟩), true), some (.slice A9 x8.Key.length k10, true), some (.int .i64 x14, true), some (.slice (slA A9 (Int.toNat (k10 : Int)) (Int.toNat x14) 1) ((cut x8.Key (Int.toNat x14) (Int.toNat (x8.Key.length : Int))).length) (Int.toNat (k10 : Int) - Int.toNat x14), true), none, some (.pointer (some ⟨b13, 3, none⟩), true), some (.slice A11 x8.Value.length k12, true), none, none]) mixed T S rfl ?_
  refine stage (some 5) rfl rfl ⟨⟨_, [(0, .slice A50 ((((((x1 ++ x22) ++ x29) ++ x36) ++ [x20]) ++ x47).length) k51)], rfl, ⟨.inr ⟨rfl, rfl⟩, trivial⟩, fun u a w T S => (by refine r_pv T rfl rfl fun _ T => ?_; exact ⟨rfl, T⟩)⟩, ⟨_, [(5, .pointer (some ⟨b13, 0, none⟩))], rfl, ⟨.inr ⟨rfl, rfl⟩, trivial⟩, fun u a w T S => (by refine r_fa (o' := 0) T rfl Try.runUnderlying36 rfl Try.sizeOf24 rfl rfl fun _ T => ?_; exact ⟨rfl, T⟩)⟩, ⟨_, [(63, .pointer (some ⟨b13, 0, none⟩))], rfl, ⟨.inl ⟨1, rfl, rfl, rfl, rfl⟩, trivial⟩, fun u a w T S => (by refine r_ldB (ix := 11) T S rfl Try.isAgg24 rfl rfl rfl fun _ T => ?_; exact ⟨rfl, T⟩)⟩, ⟨_, [(7, .int .i64 x14)], rfl, ⟨.inr ⟨rfl, rfl⟩, trivial⟩, fun u a w T S => (by refine r_pv T rfl rfl fun _ T => ?_; exact ⟨rfl, T⟩)⟩, ⟨_, [(64, .slice A9 x8.Key.length k10), (65, .int .i64 x14)], rfl, ⟨.inl ⟨2, rfl, rfl, rfl, rfl⟩, .inl ⟨3, rfl, rfl, rfl, rfl⟩, trivial⟩, fun u a w T S => (by refine r_slQ (xs := x8.Key) T rfl (fun h => by cases h) rfl rfl rfl h54.1 h54.2 (Int.le_refl _) (by omega) (by omega) Try.runUnderlying24 Try.sizeOf5 rfl fun _ T => ?_; exact ⟨rfl, T⟩)⟩, ⟨_, [(5, .pointer (some ⟨b13, 0, none⟩))], rfl, ⟨.inr ⟨rfl, rfl⟩, trivial⟩, fun u a w T S => (by refine r_fa (o' := 3) T rfl Try.runUnderlying36 rfl Try.sizeOf24 rfl rfl fun _ T => ?_; exact ⟨rfl, T⟩)⟩, ⟨_, [(68, .pointer (some ⟨b13, 3, none⟩))], rfl, ⟨.inl ⟨6, rfl, rfl, rfl, rfl⟩, trivial⟩, fun u a w T S => (by refine r_ldB (ix := 11) T S rfl Try.isAgg24 rfl rfl rfl fun _ T => ?_; exact ⟨rfl, T⟩)⟩, trivial⟩ rfl (fun i hi => ?_) (fun h => by cases h)
  cases hi
  refine ⟨rfl, _, [(62, .slice A50 ((((((x1 ++ x22) ++ x29) ++ x36) ++ [x20]) ++ x47).length) k51), (66, .slice (slA A9 (Int.toNat (k10 : Int)) (Int.toNat x14) 1) ((cut x8.Key (Int.toNat x14) (Int.toNat (x8.Key.length : Int))).length) (Int.toNat (k10 : Int) - Int.toNat x14))], rfl, ⟨.inl ⟨0, rfl, rfl, rfl, rfl⟩, .inl ⟨4, rfl, rfl, rfl, rfl⟩, trivial⟩, fun u a w T S => ?_⟩
  obtain ⟨h57, H⟩ := ck H
  refine r_app (ix := 5) (iy := 0) (xs := (((((x1 ++ x22) ++ x29) ++ x36) ++ [x20]) ++ x47)) (ys := (cut x8.Key (Int.toNat x14) (Int.toNat (x8.Key.length : Int)))) T S rfl rfl rfl rfl (by decide) sty24 Try.runUnderlying24 (by decide) h57 rfl fun _ _ A55 k56 S T => ?_
  replace S : SL ([sl .ro ku8 (slA A9 (Int.toNat (k10 : Int)) (Int.toNat x14) 1) (Int.toNat (k10 : Int) - Int.toNat x14) (cut x8.Key (Int.toNat x14) (Int.toNat (x8.Key.length : Int))), sl .own ku8 A48 k49 x47, sl .own ku8 (some ⟨b42, 0, none⟩) 1 [x20], sl .own ku8 A37 k38 x36, sl .own ku8 A30 k31 x29, sl .own ku8 A55 k56 ((((((x1 ++ x22) ++ x29) ++ x36) ++ [x20]) ++ x47) ++ (cut x8.Key (Int.toNat x14) (Int.toNat (x8.Key.length : Int)))), sl .own ku8 A23 k24 x22, sl m3 ku8 A2 x1.length x1, sl m7 ku8 A5 k6 x4, sl .ro ku8 A9 k10 x8.Key, sl .ro ku8 A11 k12 x8.Value, blk b13 [.slice A9 x8.Key.length k10, .int .u64 x8.Seq, .bool x8.Del, .slice A11 x8.Value.length k12]] ++ F) _ := S
  refine ⟨_, [some (.slice A50 ((((((x1 ++ x22) ++ x29) ++ x36) ++ [x20]) ++ x47).length) k51, false), some (.pointer (some ⟨b13, 0, none⟩), true), some (.slice A9 x8.Key.length k10, true), some (.int .i64 x14, true), some (.slice (slA A9 (Int.toNat (k10 : Int)) (Int.toNat x14) 1) ((cut x8.Key (Int.toNat x14) (Int.toNat (x8.Key.length : Int))).length) (Int.toNat (k10 : Int) - Int.toNat x14), false), some (.slice A55 (((((((x1 ++ x22) ++ x29) ++ x36) ++ [x20]) ++ x47) ++ (cut x8.Key (Int.toNat x14) (Int.toNat (x8.Key.length : Int)))).length) k56, false), some (.pointer (some ⟨b13, 3, none⟩), true), some (.slice A11 x8.Value.length k12, true), none, none], [sl .ro ku8 (slA A9 (Int.toNat (k10 : Int)) (Int.toNat x14) 1) (Int.toNat (k10 : Int) - Int.toNat x14) (cut x8.Key (Int.toNat x14) (Int.toNat (x8.Key.length : Int))), sl .own ku8 A48 k49 x47, sl .own ku8 (some ⟨b42, 0, none⟩) 1 [x20], sl .own ku8 A37 k38 x36, sl .own ku8 A30 k31 x29, sl .own ku8 A55 k56 ((((((x1 ++ x22) ++ x29) ++ x36) ++ [x20]) ++ x47) ++ (cut x8.Key (Int.toNat x14) (Int.toNat (x8.Key.length : Int)))), sl .own ku8 A23 k24 x22, sl m3 ku8 A2 x1.length x1, sl m7 ku8 A5 k6 x4, sl .ro ku8 A9 k10 x8.Key, sl .ro ku8 A11 k12 x8.Value, blk b13 [.slice A9 x8.Key.length k10, .int .u64 x8.Seq, .bool x8.Del, .slice A11 x8.Value.length k12]], rfl, ⟨.inr ⟨_, _, _, rfl, rfl⟩, .inr ⟨_, _, _, rfl, rfl⟩, .inr ⟨_, _, _, rfl, rfl⟩, .inr ⟨_, _, _, rfl, rfl⟩, .inr ⟨_, _, _, rfl, rfl⟩, .inl rfl, .inr ⟨_, _, _, rfl, rfl⟩, .inr ⟨_, _, _, rfl, rfl⟩, .inl rfl, .inl rfl, trivial⟩, rfl, ?_, T, S⟩
  refine stage (some 8) rfl rfl ⟨⟨_, [(5, .pointer (some ⟨b13, 0, none⟩))], rfl, ⟨.inr ⟨rfl, rfl⟩, trivial⟩, fun u a w T S => (by refine r_fa (o' := 0) T rfl Try.runUnderlying36 rfl Try.sizeOf24 rfl rfl fun _ T => ?_; exact ⟨rfl, T⟩)⟩, ⟨_, [(63, .pointer (some ⟨b13, 0, none⟩))], rfl, ⟨.inl ⟨1, rfl, rfl, rfl, rfl⟩, trivial⟩, fun u a w T S => (by refine r_ldB (ix := 11) T S rfl Try.isAgg24 rfl rfl rfl fun _ T => ?_; exact ⟨rfl, T⟩)⟩, ⟨_, [(7, .int .i64 x14)], rfl, ⟨.inr ⟨rfl, rfl⟩, trivial⟩, fun u a w T S => (by refine r_pv T rfl rfl fun _ T => ?_; exact ⟨rfl, T⟩)⟩, ⟨_, [(5, .pointer (some ⟨b13, 0, none⟩))], rfl, ⟨.inr ⟨rfl, rfl⟩, trivial⟩, fun u a w T S => (by refine r_fa (o' := 3) T rfl Try.runUnderlying36 rfl Try.sizeOf24 rfl rfl fun _ T => ?_; exact ⟨rfl, T⟩)⟩, ⟨_, [(68, .pointer (some ⟨b13, 3, none⟩))], rfl, ⟨.inl ⟨6, rfl, rfl, rfl, rfl⟩, trivial⟩, fun u a w T S => (by refine r_ldB (ix := 11) T S rfl Try.isAgg24 rfl rfl rfl fun _ T => ?_; exact ⟨rfl, T⟩)⟩, trivial⟩ rfl (fun i hi => ?_) (fun h => by cases h)
  cases hi
  refine ⟨rfl, _, [(67, .slice A55 (((((((x1 ++ x22) ++ x29) ++ x36) ++ [x20]) ++ x47) ++ (cut x8.Key (Int.toNat x14) (Int.toNat (x8.Key.length : Int)))).length) k56), (69, .slice A11 x8.Value.length k12)], rfl, ⟨.inl ⟨5, rfl, rfl, rfl, rfl⟩, .inl ⟨7, rfl, rfl, rfl, rfl⟩, trivial⟩, fun u a w T S => ?_⟩
  obtain ⟨h60, H⟩ := ck H
  refine r_app (ix := 5) (iy := 10) (xs := ((((((x1 ++ x22) ++ x29) ++ x36) ++ [x20]) ++ x47) ++ (cut x8.Key (Int.toNat x14) (Int.toNat (x8.Key.length : Int))))) (ys := x8.Value) T S rfl rfl rfl rfl (by decide) sty24 Try.runUnderlying24 (by decide) h60 rfl fun _ _ A58 k59 S T => ?_
  replace S : SL ([sl .ro ku8 (slA A9 (Int.toNat (k10 : Int)) (Int.toNat x14) 1) (Int.toNat (k10 : Int) - Int.toNat x14) (cut x8.Key (Int.toNat x14) (Int.toNat (x8.Key.length : Int))), sl .own ku8 A48 k49 x47, sl .own ku8 (some ⟨b42, 0, none⟩) 1 [x20], sl .own ku8 A37 k38 x36, sl .own ku8 A30 k31 x29, sl .own ku8 A58 k59 (((((((x1 ++ x22) ++ x29) ++ x36) ++ [x20]) ++ x47) ++ (cut x8.Key (Int.toNat x14) (Int.toNat (x8.Key.length : Int)))) ++ x8.Value), sl .own ku8 A23 k24 x22, sl m3 ku8 A2 x1.length x1, sl m7 ku8 A5 k6 x4, sl .ro ku8 A9 k10 x8.Key, sl .ro ku8 A11 k12 x8.Value, blk b13 [.slice A9 x8.Key.length k10, .int .u64 x8.Seq, .bool x8.Del, .slice A11 x8.Value.length k12]] ++ F) _ := S
  refine ⟨_, [some (.slice A50 ((((((x1 ++ x22) ++ x29) ++ x36) ++ [x20]) ++ x47).length) k51, false), some (.pointer (some ⟨b13, 0, none⟩), true), some (.slice A9 x8.Key.length k10, true), some (.int .i64 x14, true), some (.slice (slA A9 (Int.toNat (k10 : Int)) (Int.toNat x14) 1) ((cut x8.Key (Int.toNat x14) (Int.toNat (x8.Key.length : Int))).length) (Int.toNat (k10 : Int) - Int.toNat x14), false), some (.slice A55 (((((((x1 ++ x22) ++ x29) ++ x36) ++ [x20]) ++ x47) ++ (cut x8.Key (Int.toNat x14) (Int.toNat (x8.Key.length : Int)))).length) k56, false), some (.pointer (some ⟨b13, 3, none⟩), true), some (.slice A11 x8.Value.length k12, false), some (.slice A58 ((((((((x1 ++ x22) ++ x29) ++ x36) ++ [x20]) ++ x47) ++ (cut x8.Key (Int.toNat x14) (Int.toNat (x8.Key.length : Int)))) ++ x8.Value).length) k59, false), some (.slice A58 ((((((((x1 ++ x22) ++ x29) ++ x36) ++ [x20]) ++ x47) ++ (cut x8.Key (Int.toNat x14) (Int.toNat (x8.Key.length : Int)))) ++ x8.Value).length) k59, true)], [sl .ro ku8 (slA A9 (Int.toNat (k10 : Int)) (Int.toNat x14) 1) (Int.toNat (k10 : Int) - Int.toNat x14) (cut x8.Key (Int.toNat x14) (Int.toNat (x8.Key.length : Int))), sl .own ku8 A48 k49 x47, sl .own ku8 (some ⟨b42, 0, none⟩) 1 [x20], sl .own ku8 A37 k38 x36, sl .own ku8 A30 k31 x29, sl .own ku8 A58 k59 (((((((x1 ++ x22) ++ x29) ++ x36) ++ [x20]) ++ x47) ++ (cut x8.Key (Int.toNat x14) (Int.toNat (x8.Key.length : Int)))) ++ x8.Value), sl .own ku8 A23 k24 x22, sl m3 ku8 A2 x1.length x1, sl m7 ku8 A5 k6 x4, sl .ro ku8 A9 k10 x8.Key, sl .ro ku8 A11 k12 x8.Value, blk b13 [.slice A9 x8.Key.length k10, .int .u64 x8.Seq, .bool x8.Del, .slice A11 x8.Value.length k12]], rfl, ⟨.inr ⟨_, _, _, rfl, rfl⟩, .inr ⟨_, _, _, rfl, rfl⟩, .inr ⟨_, _, _, rfl, rfl⟩, .inr ⟨_, _, _, rfl, rfl⟩, .inr ⟨_, _, _, rfl, rfl⟩, .inr ⟨_, _, _, rfl, rfl⟩, .inr ⟨_, _, _, rfl, rfl⟩, .inr ⟨_, _, _, rfl, rfl⟩, .inl rfl, .inl rfl, trivial⟩, rfl, ?_, T, S⟩
  refine stage none rfl rfl ⟨⟨_, [(5, .pointer (some ⟨b13, 0, none⟩))], rfl, ⟨.inr ⟨rfl, rfl⟩, trivial⟩, fun u a w T S => (by refine r_fa (o' := 0) T rfl Try.runUnderlying36 rfl Try.sizeOf24 rfl rfl fun _ T => ?_; exact ⟨rfl, T⟩)⟩, ⟨_, [(63, .pointer (some ⟨b13, 0, none⟩))], rfl, ⟨.inl ⟨1, rfl, rfl, rfl, rfl⟩, trivial⟩, fun u a w T S => (by refine r_ldB (ix := 11) T S rfl Try.isAgg24 rfl rfl rfl fun _ T => ?_; exact ⟨rfl, T⟩)⟩, ⟨_, [(7, .int .i64 x14)], rfl, ⟨.inr ⟨rfl, rfl⟩, trivial⟩, fun u a w T S => (by refine r_pv T rfl rfl fun _ T => ?_; exact ⟨rfl, T⟩)⟩, ⟨_, [(5, .pointer (some ⟨b13, 0, none⟩))], rfl, ⟨.inr ⟨rfl, rfl⟩, trivial⟩, fun u a w T S => (by refine r_fa (o' := 3) T rfl Try.runUnderlying36 rfl Try.sizeOf24 rfl rfl fun _ T => ?_; exact ⟨rfl, T⟩)⟩, ⟨_, [(70, .slice A58 ((((((((x1 ++ x22) ++ x29) ++ x36) ++ [x20]) ++ x47) ++ (cut x8.Key (Int.toNat x14) (Int.toNat (x8.Key.length : Int)))) ++ x8.Value).length) k59)], rfl, ⟨.inl ⟨8, rfl, rfl, rfl, rfl⟩, trivial⟩, fun u a w T S => (by refine r_pv T rfl rfl fun _ T => ?_; exact ⟨rfl, T⟩)⟩, trivial⟩ rfl (fun i hi => by cases hi) (fun _ _ a w T hv hb S => ?_)
  replace T := T.sub (r := [(6, .slice A58 ((((((((x1 ++ x22) ++ x29) ++ x36) ++ [x20]) ++ x47) ++ (cut x8.Key (Int.toNat x14) (Int.toNat (x8.Key.length : Int)))) ++ x8.Value).length) k59)]) ⟨hv 9 _ 6 rfl rfl rfl, trivial⟩
  replace H := Option.some.inj H
  subst H
  exact rtn T Try.func53 rfl rfl ⟨A58, k59, rfl, (S.only (p := [sl .own ku8 A58 k59 (((((((x1 ++ x22) ++ x29) ++ x36) ++ [x20]) ++ x47) ++ (cut x8.Key (Int.toNat x14) (Int.toNat (x8.Key.length : Int)))) ++ x8.Value), sl m3 ku8 A2 x1.length x1, sl m7 ku8 A5 k6 x4, sl .ro ku8 A9 k10 x8.Key, sl .ro ku8 A11 k12 x8.Value]) [5, 6, 6, 6, 6] rfl)⟩
theorem J1_ok (F : List Atom) (r : (List Int)) (z : Nat) (x1 : List Int) (A2 : Option Addr) (m3 : Md) (x4 : List Int) (A5 : Option Addr) (k6 : Nat) (m7 : Md) (x8 : api_Entry) (A9 : Option Addr) (k10 : Nat) (A11 : Option Addr) (k12 : Nat) (b13 : Nat) (x14 : Int) (a : Act) (w : World) (T : Tm 71 [(0, .slice A2 x1.length x1.length), (5, .pointer (some ⟨b13, 0, none⟩)), (7, .int .i64 x14)] a) (S : SL ([sl m3 ku8 A2 x1.length x1, sl m7 ku8 A5 k6 x4, sl .ro ku8 A9 k10 x8.Key, sl .ro ku8 A11 k12 x8.Value, blk b13 [.slice A9 x8.Key.length k10, .int .u64 x8.Seq, .bool x8.Del, .slice A11 x8.Value.length k12]] ++ F) w) (H : J1 z x1 x8 x14 = some r) : Gets Try.prog 53 ptJ1 a w (R F x1 A2 m3 x4 A5 k6 m7 x8 A9 k10 A11 k12 r) := by
  refine rg ?_
  refine r_pv T rfl rfl fun _ T => ?_
  refine Gets.seq (Gets.seq ?_)
  refine rg ?_
  refine r_fa (o' := 2) T rfl Try.runUnderlying36 rfl Try.sizeOf4 rfl rfl fun _ T => ?_
  refine r_ldB (ix := 4) T S rfl Try.isAgg4 rfl rfl rfl fun _ T => ?_
  rcases ifE H with ⟨h19, H⟩ | ⟨h19, H⟩
  · refine cdT T rfl h19 ?_
    refine rg ?_
    refine r_pv T rfl rfl fun _ T => ?_
    refine Gets.seq ?_
    exact J2_ok F r z x1 A2 m3 x4 A5 k6 m7 x8 A9 k10 A11 k12 b13 x14 1 _ _ (T.sub ⟨rfl, rfl, rfl, rfl, trivial⟩) (S.only (p := [sl m3 ku8 A2 x1.length x1, sl m7 ku8 A5 k6 x4, sl .ro ku8 A9 k10 x8.Key, sl .ro ku8 A11 k12 x8.Value, blk b13 [.slice A9 x8.Key.length k10, .int .u64 x8.Seq, .bool x8.Del, .slice A11 x8.Value.length k12]]) [0, 0, 0, 0, 0] rfl) H
  · refine cdF T rfl h19 ?_
    refine Gets.skip (Gets.seq ?_)
    exact J2_ok F r z x1 A2 m3 x4 A5 k6 m7 x8 A9 k10 A11 k12 b13 x14 0 _ _ (T.sub ⟨rfl, rfl, rfl, rfl, trivial⟩) (S.only (p := [sl m3 ku8 A2 x1.length x1, sl m7 ku8 A5 k6 x4, sl .ro ku8 A9 k10 x8.Key, sl .ro ku8 A11 k12 x8.Value, blk b13 [.slice A9 x8.Key.length k10, .int .u64 x8.Seq, .bool x8.Del, .slice A11 x8.Value.length k12]]) [0, 0, 0, 0, 0] rfl) H
theorem L0_ok (F : List Atom) (r : (List Int)) (z : Nat) (x1 : List Int) (A2 : Option Addr) (m3 : Md) (x4 : List Int) (A5 : Option Addr) (k6 : Nat) (m7 : Md) (x8 : api_Entry) (A9 : Option Addr) (k10 : Nat) (A11 : Option Addr) (k12 : Nat) (b13 : Nat) (m : Nat) : ∀ (x14 : Int) (a : Act) (w : World), Tm 71 [(0, .slice A2 x1.length x1.length), (1, .slice A5 x4.length k6), (5, .pointer (some ⟨b13, 0, none⟩)), (7, .int .i64 x14)] a → SL ([sl m3 ku8 A2 x1.length x1, sl m7 ku8 A5 k6 x4, sl .ro ku8 A9 k10 x8.Key, sl .ro ku8 A11 k12 x8.Value, blk b13 [.slice A9 x8.Key.length k10, .int .u64 x8.Seq, .bool x8.Del, .slice A11 x8.Value.length k12]] ++ F) w → L0 z x1 x4 x8 m x14 = some r → Gets Try.prog 53 ptL0 a w (R F x1 A2 m3 x4 A5 k6 m7 x8 A9 k10 A11 k12 r) := by
  induction m with
  | zero => intro _ _ _ _ _ H; cases H
  | succ m ih =>
    intro x14 a w T S H
    refine Gets.seq ?_
    refine Gets.seq ?_
    rcases ifE H with ⟨h15, H⟩ | ⟨h15, H⟩
    · obtain ⟨h16, H⟩ := ck H
      obtain ⟨h17, H⟩ := ck H
      refine Gets.drawn (l := [sl m3 ku8 A2 x1.length x1, sl m7 ku8 A5 k6 x4, sl .ro ku8 A9 k10 x8.Key, sl .ro ku8 A11 k12 x8.Value, blk b13 [.slice A9 x8.Key.length k10, .int .u64 x8.Seq, .bool x8.Del, .slice A11 x8.Value.length k12]]) (V := [some (.int .i64 x14, true), some (.slice A5 x4.length k6, true), some (.int .i64 (x4.length : Int), true), some (.pointer (some ⟨b13, 0, none⟩), true), some (.slice A9 x8.Key.length k10, true), some (.int .i64 (x8.Key.length : Int), true), some (.int .i64 (mn (x4.length : Int) (x8.Key.length : Int)), true), some (.bool (decide (x14 < (mn (x4.length : Int) (x8.Key.length : Int)))), true), some (.bool (decide (x14 < (mn (x4.length : Int) (x8.Key.length : Int)))), true), some (.slice A5 x4.length k6, true), some (.int .i64 x14, true), some (.pointer (some (eA A5 (Int.toNat x14 * 1))), true), some (.int .u8 (gi (0 : Int) x4 x14), true), some (.pointer (some ⟨b13, 0, none⟩), true), some (.slice A9 x8.Key.length k10, true), some (.int .i64 x14, true), some (.pointer (some (eA A9 (Int.toNat x14 * 1))), true), some (.int .u8 (gi (0 : Int) x8.Key x14), true), some (.bool ((gi (0 : Int) x4 x14) == (gi (0 : Int) x8.Key x14)), true), some (.bool ((gi (0 : Int) x4 x14) == (gi (0 : Int) x8.Key x14)), true)]) mixed T S rfl ?_
      refine stage none rfl rfl ⟨⟨_, [(7, .int .i64 x14)], rfl, ⟨.inr ⟨rfl, rfl⟩, trivial⟩, fun u a w T S => (by refine r_pv T rfl rfl fun _ T => ?_; exact ⟨rfl, T⟩)⟩, ⟨_, [(1, .slice A5 x4.length k6)], rfl, ⟨.inr ⟨rfl, rfl⟩, trivial⟩, fun u a w T S => (by refine r_pv T rfl rfl fun _ T => ?_; exact ⟨rfl, T⟩)⟩, ⟨_, [(10, .slice A5 x4.length k6)], rfl, ⟨.inl ⟨1, rfl, rfl, rfl, rfl⟩, trivial⟩, fun u a w T S => (by refine r_lenS T rfl Try.runUnderlying24 rfl fun _ T => ?_; exact ⟨rfl, T⟩)⟩, ⟨_, [(5, .pointer (some ⟨b13, 0, none⟩))], rfl, ⟨.inr ⟨rfl, rfl⟩, trivial⟩, fun u a w T S => (by refine r_fa (o' := 0) T rfl Try.runUnderlying36 rfl Try.sizeOf24 rfl rfl fun _ T => ?_; exact ⟨rfl, T⟩)⟩, ⟨_, [(12, .pointer (some ⟨b13, 0, none⟩))], rfl, ⟨.inl ⟨3, rfl, rfl, rfl, rfl⟩, trivial⟩, fun u a w T S => (by refine r_ldB (ix := 4) T S rfl Try.isAgg24 rfl rfl rfl fun _ T => ?_; exact ⟨rfl, T⟩)⟩, ⟨_, [(13, .slice A9 x8.Key.length k10)], rfl, ⟨.inl ⟨4, rfl, rfl, rfl, rfl⟩, trivial⟩, fun u a w T S => (by refine r_lenS T rfl Try.runUnderlying24 rfl fun _ T => ?_; exact ⟨rfl, T⟩)⟩, ⟨_, [(11, .int .i64 (x4.length : Int)), (14, .int .i64 (x8.Key.length : Int))], rfl, ⟨.inl ⟨2, rfl, rfl, rfl, rfl⟩, .inl ⟨5, rfl, rfl, rfl, rfl⟩, trivial⟩, fun u a w T S => (by refine r_min T rfl rfl rfl fun _ T => ?_; exact ⟨rfl, T⟩)⟩, ⟨_, [(9, .int .i64 x14), (15, .int .i64 (mn (x4.length : Int) (x8.Key.length : Int)))], rfl, ⟨.inl ⟨0, rfl, rfl, rfl, rfl⟩, .inl ⟨6, rfl, rfl, rfl, rfl⟩, trivial⟩, fun u a w T S => (by refine r_pv T rfl rfl fun _ T => ?_; exact ⟨rfl, T⟩)⟩, ⟨_, [(16, .bool (decide (x14 < (mn (x4.length : Int) (x8.Key.length : Int)))))], rfl, ⟨.inl ⟨7, rfl, rfl, rfl, rfl⟩, trivial⟩, fun u a w T S => (by refine r_pv T rfl rfl fun _ T => ?_; exact ⟨rfl, T⟩)⟩, ⟨_, [(1, .slice A5 x4.length k6), (17, .bool (decide (x14 < (mn (x4.length : Int) (x8.Key.length : Int)))))], rfl, ⟨.inr ⟨rfl, rfl⟩, .inl ⟨8, rfl, rfl, rfl, rfl⟩, trivial⟩, fun u a w T S => (by refine g_yes T rfl rfl h15 ?_; refine r_pv T rfl rfl fun _ T => ?_; exact ⟨rfl, T⟩)⟩, ⟨_, [(7, .int .i64 x14), (17, .bool (decide (x14 < (mn (x4.length : Int) (x8.Key.length : Int)))))], rfl, ⟨.inr ⟨rfl, rfl⟩, .inl ⟨8, rfl, rfl, rfl, rfl⟩, trivial⟩, fun u a w T S => (by refine g_yes T rfl rfl h15 ?_; refine r_pv T rfl rfl fun _ T => ?_; exact ⟨rfl, T⟩)⟩, ⟨_, [(18, .slice A5 x4.length k6), (19, .int .i64 x14), (17, .bool (decide (x14 < (mn (x4.length : Int) (x8.Key.length : Int)))))], rfl, ⟨.inl ⟨9, rfl, rfl, rfl, rfl⟩, .inl ⟨10, rfl, rfl, rfl, rfl⟩, .inl ⟨8, rfl, rfl, rfl, rfl⟩, trivial⟩, fun u a w T S => (by refine g_yes T rfl rfl h15 ?_; refine r_ia (ix := 1) T S rfl rfl rfl rfl Try.runUnderlying24 Try.sizeOf5 h16.1 h16.2 rfl fun _ T => ?_; exact ⟨rfl, T⟩)⟩, ⟨_, [(20, .pointer (some (eA A5 (Int.toNat x14 * 1)))), (17, .bool (decide (x14 < (mn (x4.length : Int) (x8.Key.length : Int)))))], rfl, ⟨.inl ⟨11, rfl, rfl, rfl, rfl⟩, .inl ⟨8, rfl, rfl, rfl, rfl⟩, trivial⟩, fun u a w T S => (by refine g_yes T rfl rfl h15 ?_; refine r_ldE (ix := 1) (i := x14) (off := 0) (f := (Value.int .u8)) T S rfl Try.isAgg5 rfl (0 : Int) _ rfl rfl (Fld.all _) h16.1 h16.2 (fun h => h) rfl fun _ T => ?_; exact ⟨rfl, T⟩)⟩, ⟨_, [(5, .pointer (some ⟨b13, 0, none⟩)), (17, .bool (decide (x14 < (mn (x4.length : Int) (x8.Key.length : Int)))))], rfl, ⟨.inr ⟨rfl, rfl⟩, .inl ⟨8, rfl, rfl, rfl, rfl⟩, trivial⟩, fun u a w T S => (by refine g_yes T rfl rfl h15 ?_; refine r_fa (o' := 0) T rfl Try.runUnderlying36 rfl Try.sizeOf24 rfl rfl fun _ T => ?_; exact ⟨rfl, T⟩)⟩, ⟨_, [(22, .pointer (some ⟨b13, 0, none⟩)), (17, .bool (decide (x14 < (mn (x4.length : Int) (x8.Key.length : Int)))))], rfl, ⟨.inl ⟨13, rfl, rfl, rfl, rfl⟩, .inl ⟨8, rfl, rfl, rfl, rfl⟩, trivial⟩, fun u a w T S => (by refine g_yes T rfl rfl h15 ?_; refine r_ldB (ix := 4) T S rfl Try.isAgg24 rfl rfl rfl fun _ T => ?_; exact ⟨rfl, T⟩)⟩, ⟨_, [(7, .int .i64 x14), (17, .bool (decide (x14 < (mn (x4.length : Int) (x8.Key.length : Int)))))], rfl, ⟨.inr ⟨rfl, rfl⟩, .inl ⟨8, rfl, rfl, rfl, rfl⟩, trivial⟩, fun u a w T S => (by refine g_yes T rfl rfl h15 ?_; refine r_pv T rfl rfl fun _ T => ?_; exact ⟨rfl, T⟩)⟩, ⟨_, [(23, .slice A9 x8.Key.length k10), (24, .int .i64 x14), (17, .bool (decide (x14 < (mn (x4.length : Int) (x8.Key.length : Int)))))], rfl, ⟨.inl ⟨14, rfl, rfl, rfl, rfl⟩, .inl ⟨15, rfl, rfl, rfl, rfl⟩, .inl ⟨8, rfl, rfl, rfl, rfl⟩, trivial⟩, fun u a w T S => (by refine g_yes T rfl rfl h15 ?_; refine r_ia (ix := 2) T S rfl rfl rfl rfl Try.runUnderlying24 Try.sizeOf5 h16.1 h17 rfl fun _ T => ?_; exact ⟨rfl, T⟩)⟩, ⟨_, [(25, .pointer (some (eA A9 (Int.toNat x14 * 1)))), (17, .bool (decide (x14 < (mn (x4.length : Int) (x8.Key.length : Int)))))], rfl, ⟨.inl ⟨16, rfl, rfl, rfl, rfl⟩, .inl ⟨8, rfl, rfl, rfl, rfl⟩, trivial⟩, fun u a w T S => (by refine g_yes T rfl rfl h15 ?_; refine r_ldE (ix := 2) (i := x14) (off := 0) (f := (Value.int .u8)) T S rfl Try.isAgg5 rfl (0 : Int) _ rfl rfl (Fld.all _) h16.1 h17 (fun h => h) rfl fun _ T => ?_; exact ⟨rfl, T⟩)⟩, ⟨_, [(21, .int .u8 (gi (0 : Int) x4 x14)), (26, .int .u8 (gi (0 : Int) x8.Key x14)), (17, .bool (decide (x14 < (mn (x4.length : Int) (x8.Key.length : Int)))))], rfl, ⟨.inl ⟨12, rfl, rfl, rfl, rfl⟩, .inl ⟨17, rfl, rfl, rfl, rfl⟩, .inl ⟨8, rfl, rfl, rfl, rfl⟩, trivial⟩, fun u a w T S => (by refine g_yes T rfl rfl h15 ?_; refine r_pv T rfl rfl fun _ T => ?_; exact ⟨rfl, T⟩)⟩, ⟨_, [(17, .bool (decide (x14 < (mn (x4.length : Int) (x8.Key.length : Int))))), (27, .bool ((gi (0 : Int) x4 x14) == (gi (0 : Int) x8.Key x14)))], rfl, ⟨.inl ⟨8, rfl, rfl, rfl, rfl⟩, .inl ⟨18, rfl, rfl, rfl, rfl⟩, trivial⟩, fun u a w T S => (by refine r_pickT T rfl h15 rfl rfl fun _ T => ?_; exact ⟨rfl, T⟩)⟩, trivial⟩ rfl (fun i hi => by cases hi) (fun _ _ a w T hv hb S => ?_)
      replace T := T.sub (r := [(0, .slice A2 x1.length x1.length), (1, .slice A5 x4.length k6), (5, .pointer (some ⟨b13, 0, none⟩)), (7, .int .i64 x14), (28, .bool ((gi (0 : Int) x4 x14) == (gi (0 : Int) x8.Key x14)))]) ⟨hb 0 _ rfl rfl, hb 1 _ rfl rfl, hb 5 _ rfl rfl, hb 7 _ rfl rfl, hv 19 _ 28 rfl rfl rfl, trivial⟩
      rcases ifE H with ⟨h18, H⟩ | ⟨h18, H⟩
      · refine cdT T rfl h18 ?_
        refine Gets.skip (Gets.block ?_)
        refine rg ?_
        refine r_pv T rfl rfl fun _ T => ?_
        refine r_pv T rfl rfl fun _ T => ?_
        refine r_pv T rfl rfl fun _ T => ?_
        refine Gets.inBlock (Gets.inLoop ?_)
        exact ih (wr .i64 (x14 + 1)) _ _ (T.sub ⟨rfl, rfl, rfl, rfl, trivial⟩) (S.only (p := [sl m3 ku8 A2 x1.length x1, sl m7 ku8 A5 k6 x4, sl .ro ku8 A9 k10 x8.Key, sl .ro ku8 A11 k12 x8.Value, blk b13 [.slice A9 x8.Key.length k10, .int .u64 x8.Seq, .bool x8.Del, .slice A11 x8.Value.length k12]]) [0, 0, 0, 0, 0] rfl) H
      · refine cdF T rfl h18 ?_
        refine Gets.exit rfl (Gets.seq ?_)
        exact J1_ok F r z x1 A2 m3 x4 A5 k6 m7 x8 A9 k10 A11 k12 b13 x14 _ _ (T.sub ⟨rfl, rfl, rfl, trivial⟩) (S.only (p := [sl m3 ku8 A2 x1.length x1, sl m7 ku8 A5 k6 x4, sl .ro ku8 A9 k10 x8.Key, sl .ro ku8 A11 k12 x8.Value, blk b13 [.slice A9 x8.Key.length k10, .int .u64 x8.Seq, .bool x8.Del, .slice A11 x8.Value.length k12]]) [0, 0, 0, 0, 0] rfl) H
    · refine Gets.drawn (l := [sl m3 ku8 A2 x1.length x1, sl m7 ku8 A5 k6 x4, sl .ro ku8 A9 k10 x8.Key, sl .ro ku8 A11 k12 x8.Value, blk b13 [.slice A9 x8.Key.length k10, .int .u64 x8.Seq, .bool x8.Del, .slice A11 x8.Value.length k12]]) (V := [some (.int .i64 x14, true), some (.slice A5 x4.length k6, true), some (.int .i64 (x4.length : Int), true), some (.pointer (some ⟨b13, 0, none⟩), true), some (.slice A9 x8.Key.length k10, true), some (.int .i64 (x8.Key.length : Int), true), some (.int .i64 (mn (x4.length : Int) (x8.Key.length : Int)), true), some (.bool (decide (x14 < (mn (x4.length : Int) (x8.Key.length : Int)))), true), some (.bool (decide (x14 < (mn (x4.length : Int) (x8.Key.length : Int)))), true), some (undef, true), some (undef, true), some (undef, true), some (undef, true), some (undef, true), some (undef, true), some (undef, true), some (undef, true), some (undef, true), some (undef, true), some (.bool false, true)]) mixed T S rfl ?_
      refine stage none rfl rfl ⟨⟨_, [(7, .int .i64 x14)], rfl, ⟨.inr ⟨rfl, rfl⟩, trivial⟩, fun u a w T S => (by refine r_pv T rfl rfl fun _ T => ?_; exact ⟨rfl, T⟩)⟩, ⟨_, [(1, .slice A5 x4.length k6)], rfl, ⟨.inr ⟨rfl, rfl⟩, trivial⟩, fun u a w T S => (by refine r_pv T rfl rfl fun _ T => ?_; exact ⟨rfl, T⟩)⟩, ⟨_, [(10, .slice A5 x4.length k6)], rfl, ⟨.inl ⟨1, rfl, rfl, rfl, rfl⟩, trivial⟩, fun u a w T S => (by refine r_lenS T rfl Try.runUnderlying24 rfl fun _ T => ?_; exact ⟨rfl, T⟩)⟩, ⟨_, [(5, .pointer (some ⟨b13, 0, none⟩))], rfl, ⟨.inr ⟨rfl, rfl⟩, trivial⟩, fun u a w T S => (by refine r_fa (o' := 0) T rfl Try.runUnderlying36 rfl Try.sizeOf24 rfl rfl fun _ T => ?_; exact ⟨rfl, T⟩)⟩, ⟨_, [(12, .pointer (some ⟨b13, 0, none⟩))], rfl, ⟨.inl ⟨3, rfl, rfl, rfl, rfl⟩, trivial⟩, fun u a w T S => (by refine r_ldB (ix := 4) T S rfl Try.isAgg24 rfl rfl rfl fun _ T => ?_; exact ⟨rfl, T⟩)⟩, ⟨_, [(13, .slice A9 x8.Key.length k10)], rfl, ⟨.inl ⟨4, rfl, rfl, rfl, rfl⟩, trivial⟩, fun u a w T S => (by refine r_lenS T rfl Try.runUnderlying24 rfl fun _ T => ?_; exact ⟨rfl, T⟩)⟩, ⟨_, [(11, .int .i64 (x4.length : Int)), (14, .int .i64 (x8.Key.length : Int))], rfl, ⟨.inl ⟨2, rfl, rfl, rfl, rfl⟩, .inl ⟨5, rfl, rfl, rfl, rfl⟩, trivial⟩, fun u a w T S => (by refine r_min T rfl rfl rfl fun _ T => ?_; exact ⟨rfl, T⟩)⟩, ⟨_, [(9, .int .i64 x14), (15, .int .i64 (mn (x4.length : Int) (x8.Key.length : Int)))], rfl, ⟨.inl ⟨0, rfl, rfl, rfl, rfl⟩, .inl ⟨6, rfl, rfl, rfl, rfl⟩, trivial⟩, fun u a w T S => (by refine r_pv T rfl rfl fun _ T => ?_; exact ⟨rfl, T⟩)⟩, ⟨_, [(16, .bool (decide (x14 < (mn (x4.length : Int) (x8.Key.length : Int)))))], rfl, ⟨.inl ⟨7, rfl, rfl, rfl, rfl⟩, trivial⟩, fun u a w T S => (by refine r_pv T rfl rfl fun _ T => ?_; exact ⟨rfl, T⟩)⟩, ⟨_, [(1, .slice A5 x4.length k6), (17, .bool (decide (x14 < (mn (x4.length : Int) (x8.Key.length : Int)))))], rfl, ⟨.inr ⟨rfl, rfl⟩, .inl ⟨8, rfl, rfl, rfl, rfl⟩, trivial⟩, fun u a w T S => (by refine g_no T rfl rfl h15 rfl fun _ T => ?_; exact ⟨rfl, T⟩)⟩, ⟨_, [(7, .int .i64 x14), (17, .bool (decide (x14 < (mn (x4.length : Int) (x8.Key.length : Int)))))], rfl, ⟨.inr ⟨rfl, rfl⟩, .inl ⟨8, rfl, rfl, rfl, rfl⟩, trivial⟩, fun u a w T S => (by refine g_no T rfl rfl h15 rfl fun _ T => ?_; exact ⟨rfl, T⟩)⟩, ⟨_, [(18, undef), (19, undef), (17, .bool (decide (x14 < (mn (x4.length : Int) (x8.Key.length : Int)))))], rfl, ⟨.inl ⟨9, rfl, rfl, rfl, rfl⟩, .inl ⟨10, rfl, rfl, rfl, rfl⟩, .inl ⟨8, rfl, rfl, rfl, rfl⟩, trivial⟩, fun u a w T S => (by refine g_no T rfl rfl h15 rfl fun _ T => ?_; exact ⟨rfl, T⟩)⟩, ⟨_, [(20, undef), (17, .bool (decide (x14 < (mn (x4.length : Int) (x8.Key.length : Int)))))], rfl, ⟨.inl ⟨11, rfl, rfl, rfl, rfl⟩, .inl ⟨8, rfl, rfl, rfl, rfl⟩, trivial⟩, fun u a w T S => (by refine g_no T rfl rfl h15 rfl fun _ T => ?_; exact ⟨rfl, T⟩)⟩, ⟨_, [(5, .pointer (some ⟨b13, 0, none⟩)), (17, .bool (decide (x14 < (mn (x4.length : Int) (x8.Key.length : Int)))))], rfl, ⟨.inr ⟨rfl, rfl⟩, .inl ⟨8, rfl, rfl, rfl, rfl⟩, trivial⟩, fun u a w T S => (by refine g_no T rfl rfl h15 rfl fun _ T => ?_; exact ⟨rfl, T⟩)⟩, ⟨_, [(22, undef), (17, .bool (decide (x14 < (mn (x4.length : Int) (x8.Key.length : Int)))))], rfl, ⟨.inl ⟨13, rfl, rfl, rfl, rfl⟩, .inl ⟨8, rfl, rfl, rfl, rfl⟩, trivial⟩, fun u a w T S => (by refine g_no T rfl rfl h15 rfl fun _ T => ?_; exact ⟨rfl, T⟩)⟩, ⟨_, [(7, .int .i64 x14), (17, .bool (decide (x14 < (mn (x4.length : Int) (x8.Key.length : Int)))))], rfl, ⟨.inr ⟨rfl, rfl⟩, .inl ⟨8, rfl, rfl, rfl, rfl⟩, trivial⟩, fun u a w T S => (by refine g_no T rfl rfl h15 rfl fun _ T => ?_; exact ⟨rfl, T⟩)⟩, ⟨_, [(23, undef), (24, undef), (17, .bool (decide (x14 < (mn (x4.length : Int) (x8.Key.length : Int)))))], rfl, ⟨.inl ⟨14, rfl, rfl, rfl, rfl⟩, .inl ⟨15, rfl, rfl, rfl, rfl⟩, .inl ⟨8, rfl, rfl, rfl, rfl⟩, trivial⟩, fun u a w T S => (by refine g_no T rfl rfl h15 rfl fun _ T => ?_; exact ⟨rfl, T⟩)⟩, ⟨_, [(25, undef), (17, .bool (decide (x14 < (mn (x4.length : Int) (x8.Key.length : Int)))))], rfl, ⟨.inl ⟨16, rfl, rfl, rfl, rfl⟩, .inl ⟨8, rfl, rfl, rfl, rfl⟩, trivial⟩, fun u a w T S => (by refine g_no T rfl rfl h15 rfl fun _ T => ?_; exact ⟨rfl, T⟩)⟩, ⟨_, [(21, undef), (26, undef), (17, .bool (decide (x14 < (mn (x4.length : Int) (x8.Key.length : Int)))))], rfl, ⟨.inl ⟨12, rfl, rfl, rfl, rfl⟩, .inl ⟨17, rfl, rfl, rfl, rfl⟩, .inl ⟨8, rfl, rfl, rfl, rfl⟩, trivial⟩, fun u a w T S => (by refine g_no T rfl rfl h15 rfl fun _ T => ?_; exact ⟨rfl, T⟩)⟩, ⟨_, [(17, .bool (decide (x14 < (mn (x4.length : Int) (x8.Key.length : Int))))), (27, undef)], rfl, ⟨.inl ⟨8, rfl, rfl, rfl, rfl⟩, .inl ⟨18, rfl, rfl, rfl, rfl⟩, trivial⟩, fun u a w T S => (by refine r_pickF T rfl h15 rfl rfl fun _ T => ?_; exact ⟨rfl, T⟩)⟩, trivial⟩ rfl (fun i hi => by cases hi) (fun _ _ a w T hv hb S => ?_)
      replace T := T.sub (r := [(0, .slice A2 x1.length x1.length), (1, .slice A5 x4.length k6), (5, .pointer (some ⟨b13, 0, none⟩)), (7, .int .i64 x14), (28, .bool false)]) ⟨hb 0 _ rfl rfl, hb 1 _ rfl rfl, hb 5 _ rfl rfl, hb 7 _ rfl rfl, hv 19 _ 28 rfl rfl rfl, trivial⟩
      refine cdF T rfl rfl ?_
      refine Gets.exit rfl (Gets.seq ?_)
      exact J1_ok F r z x1 A2 m3 x4 A5 k6 m7 x8 A9 k10 A11 k12 b13 x14 _ _ (T.sub ⟨rfl, rfl, rfl, trivial⟩) (S.only (p := [sl m3 ku8 A2 x1.length x1, sl m7 ku8 A5 k6 x4, sl .ro ku8 A9 k10 x8.Key, sl .ro ku8 A11 k12 x8.Value, blk b13 [.slice A9 x8.Key.length k10, .int .u64 x8.Seq, .bool x8.Del, .slice A11 x8.Value.length k12]]) [0, 0, 0, 0, 0] rfl) H
theorem ok (F : List Atom) (w : World) (z : Nat) (x1 : List Int) (x4 : List Int) (x8 : api_Entry) {A2 : Option Addr} {m3 : Md} {A5 : Option Addr} {k6 : Nat} {m7 : Md} {A9 : Option Addr} {k10 : Nat} {A11 : Option Addr} {k12 : Nat} (S : SL ([sl m3 ku8 A2 x1.length x1, sl m7 ku8 A5 k6 x4, sl .ro ku8 A9 k10 x8.Key, sl .ro ku8 A11 k12 x8.Value] ++ F) w) (r : (List Int)) (H : f z x1 x4 x8 = some r) : Calls Try.prog 53 #[.slice A2 x1.length x1.length, .slice A5 x4.length k6, .agg #[.slice A9 x8.Key.length k10, .int .u64 x8.Seq, .bool x8.Del, .slice A11 x8.Value.length k12]] w (R F x1 A2 m3 x4 A5 k6 m7 x8 A9 k10 A11 k12 r) := by
  refine enter (vs := [.slice A2 x1.length x1.length, .slice A5 x4.length k6, .agg #[.slice A9 x8.Key.length k10, .int .u64 x8.Seq, .bool x8.Del, .slice A11 x8.Value.length k12]]) Try.func53 rfl Try.ntmps53 (Nat.le_of_ble_eq_true rfl) fun a T => ?_
  refine Gets.seq ?_
  refine rg ?_
  refine r_box T S rfl (cs := [.slice A9 x8.Key.length k10, .int .u64 x8.Seq, .bool x8.Del, .slice A11 x8.Value.length k12]) rfl rfl fun _ _ b13 S T => ?_
  refine r_pv T rfl rfl fun _ T => ?_
  refine Gets.seq ?_
  refine rg ?_
  refine r_pv T rfl rfl fun _ T => ?_
  refine Gets.seq (Gets.block ?_)
  refine Gets.loop ?_
  exact L0_ok F r z x1 A2 m3 x4 A5 k6 m7 x8 A9 k10 A11 k12 b13 z 0 _ _ (T.sub ⟨rfl, rfl, rfl, rfl, trivial⟩) (S.only (p := [sl m3 ku8 A2 x1.length x1, sl m7 ku8 A5 k6 x4, sl .ro ku8 A9 k10 x8.Key, sl .ro ku8 A11 k12 x8.Value, blk b13 [.slice A9 x8.Key.length k10, .int .u64 x8.Seq, .bool x8.Del, .slice A11 x8.Value.length k12]]) [1, 1, 1, 1, 0] rfl) H
end sstable_lay
end Go.Proofs.Ytghpokmkhlmgcaa

namespace Go.Proofs.Ytghpokmkhlmgcaa
open Go Go.Proofs.Ytghpokmkhlmgcaa.X
set_option linter.unusedVariables false
set_option linter.unusedSimpArgs false
set_option maxRecDepth 100000
set_option maxHeartbeats 4000000
/-! ### (*cormorant.sstable.builder).add: function 27 -/
namespace sstable_builder_add
noncomputable def c0 : Code := match Try.f27.body with | some c => c | none => .skip
def R (F : List Atom) (b2 : Nat) (x11 : api_Entry) (A12 : Option Addr) (k13 : Nat) (A14 : Option Addr) (k15 : Nat) (r : sstable_builder) : Ending → World → Prop := fun e w' => ∃ (A57 : Option Addr), ∃ (k58 : Nat), ∃ (A59 : Option Addr), ∃ (k60 : Nat), ∃ (A61 : Option Addr), ∃ (k62 : Nat), ∃ (A63 : Option Addr), ∃ (k64 : Nat), e = .returned (.tuple #[]) ∧ SL ([blk b2 [.slice A57 r.out.length k58, .slice A59 r.body.length k60, .slice A61 r.index.length k62, .int .i64 r.many, .int .i64 r.blocks, .slice A63 r.last.length k64], sl .own ku8 A57 k58 r.out, sl .ro ku8 A59 k60 r.body, sl .own ku8 A61 k62 r.index, sl .ro ku8 A63 k64 r.last, sl .ro ku8 A12 k13 x11.Key, sl .ro ku8 A14 k15 x11.Value] ++ F) w'
def J0 (z : Nat) (x11 : api_Entry) (x38 : List Int) (x41 : List Int) (x44 : List Int) (x47 : Int) (x48 : Int) (x49 : List Int) : Option sstable_builder := Bd (sstable_lay.f z ([] : List Int) ([] : List Int) x11) fun x53 => some (sstable_builder.mk x38 x53 x44 1 x48 x11.Key)
def f (z : Nat) (x1 : sstable_builder) (x11 : api_Entry) (x16 : Int) : Option sstable_builder := If (decide (x1.many > 0)) (Bd (slices_Clip_byte_ro.f x1.body) fun x20 => Bd (sstable_lay.f z x20 x1.last x11) fun x23 => If (decide ((x23.length : Int) ≤ x16)) (some (sstable_builder.mk x1.out x23 x1.index (wr .i64 (x1.many + 1)) x1.blocks x11.Key)) (Bd (sstable_builder_close.f z x1) fun x28 => J0 z x11 x28.out x28.body x28.index x28.many x28.blocks x28.last)) (J0 z x11 x1.out x1.body x1.index x1.many x1.blocks x1.last)
noncomputable def ptJ0 : List Item := [.code (cR (cR c0))]
theorem J0_ok (F : List Atom) (r : sstable_builder) (z : Nat) (b2 : Nat) (x11 : api_Entry) (A12 : Option Addr) (k13 : Nat) (A14 : Option Addr) (k15 : Nat) (b17 : Nat) (x16 : Int) (A39 : Option Addr) (x38 : List Int) (k40 : Nat) (A42 : Option Addr) (x41 : List Int) (k43 : Nat) (A45 : Option Addr) (x44 : List Int) (k46 : Nat) (x47 : Int) (x48 : Int) (A50 : Option Addr) (x49 : List Int) (k51 : Nat) (a : Act) (w : World) (T : Tm 58 [(0, .pointer (some ⟨b2, 0, none⟩)), (4, .pointer (some ⟨b17, 0, none⟩))] a) (S : SL ([blk b2 [.slice A39 x38.length k40, .slice A42 x41.length k43, .slice A45 x44.length k46, .int .i64 x47, .int .i64 x48, .slice A50 x49.length k51], sl .own ku8 A39 k40 x38, sl .ro ku8 A42 k43 x41, sl .own ku8 A45 k46 x44, sl .ro ku8 A50 k51 x49, sl .ro ku8 A12 k13 x11.Key, sl .ro ku8 A14 k15 x11.Value, blk b17 [.slice A12 x11.Key.length k13, .int .u64 x11.Seq, .bool x11.Del, .slice A14 x11.Value.length k15]] ++ F) w) (H : J0 z x11 x38 x41 x44 x47 x48 x49 = some r) : Gets Try.prog 27 ptJ0 a w (R F b2 x11 A12 k13 A14 k15 r) := by
  refine Gets.drawn (l := [blk b2 [.slice A39 x38.length k40, .slice A42 x41.length k43, .slice A45 x44.length k46, .int .i64 x47, .int .i64 x48, .slice A50 x49.length k51], sl .own ku8 A39 k40 x38, sl .ro ku8 A42 k43 x41, sl .own ku8 A45 k46 x44, sl .ro ku8 A50 k51 x49, sl .ro ku8 A12 k13 x11.Key, sl .ro ku8 A14 k15 x11.Value, blk b17 [.slice A12 x11.Key.length k13, .int .u64 x11.Seq, .bool x11.Del, .slice A14 x11.Value.length k15]]) (V := [some (.pointer (some ⟨b2, 0, none⟩), true), some (.pointer (some ⟨b2, 0, none⟩), true), some (.pointer (some ⟨b2, 0, none⟩), true), some (.agg #[.slice A12 x11.Key.length k13, .int .u64 x11.Seq, .bool x11.Del, .slice A14 x11.Value.length k15], true), none, some (.pointer (some ⟨b17, 0, none⟩), true), some (.slice A12 x11.Key.length k13, true), none, none, none, none, none, none, none, none, none]) mixed T S rfl ?_
  refine stage (some 4) rfl rfl ⟨⟨_, [(0, .pointer (some ⟨b2, 0, none⟩))], rfl, ⟨.inr ⟨rfl, rfl⟩, trivial⟩, fun u a w T S => (by refine r_pv T rfl rfl fun _ T => ?_; exact ⟨rfl, T⟩)⟩, ⟨_, [(0, .pointer (some ⟨b2, 0, none⟩))], rfl, ⟨.inr ⟨rfl, rfl⟩, trivial⟩, fun u a w T S => (by refine r_pv T rfl rfl fun _ T => ?_; exact ⟨rfl, T⟩)⟩, ⟨_, [(0, .pointer (some ⟨b2, 0, none⟩))], rfl, ⟨.inr ⟨rfl, rfl⟩, trivial⟩, fun u a w T S => (by refine r_pv T rfl rfl fun _ T => ?_; exact ⟨rfl, T⟩)⟩, ⟨_, [(4, .pointer (some ⟨b17, 0, none⟩))], rfl, ⟨.inr ⟨rfl, rfl⟩, trivial⟩, fun u a w T S => (by refine r_ldBA (ix := 7) (ds := [.slice A12 x11.Key.length k13, .int .u64 x11.Seq, .bool x11.Del, .slice A14 x11.Value.length k15]) T S rfl Try.isAgg36 rfl rfl Try.sizeOf36 rfl fun _ T => ?_; exact ⟨rfl, T⟩)⟩, ⟨_, [(4, .pointer (some ⟨b17, 0, none⟩))], rfl, ⟨.inr ⟨rfl, rfl⟩, trivial⟩, fun u a w T S => (by refine r_fa (o' := 0) T rfl Try.runUnderlying36 rfl Try.sizeOf24 rfl rfl fun _ T => ?_; exact ⟨rfl, T⟩)⟩, ⟨_, [(50, .pointer (some ⟨b17, 0, none⟩))], rfl, ⟨.inl ⟨5, rfl, rfl, rfl, rfl⟩, trivial⟩, fun u a w T S => (by refine r_ldB (ix := 7) T S rfl Try.isAgg24 rfl rfl rfl fun _ T => ?_; exact ⟨rfl, T⟩)⟩, trivial⟩ rfl (fun i hi => ?_) (fun h => by cases h)
  cases hi
  refine ⟨rfl, _, [(48, .agg #[.slice A12 x11.Key.length k13, .int .u64 x11.Seq, .bool x11.Del, .slice A14 x11.Value.length k15])], rfl, ⟨.inl ⟨3, rfl, rfl, rfl, rfl⟩, trivial⟩, fun u a w T S => ?_⟩
  replace S := S.nil ku8 .ro
  replace S := S.nil ku8 .ro
  obtain ⟨x53, h52, H⟩ := bd H
  refine r_call T Try.call53 rfl rfl (sstable_lay.ok _ _ z ([] : List Int) ([] : List Int) x11 (S.sel (p := [sl .ro ku8 none 0 ([] : List Int), sl .ro ku8 none 0 ([] : List Int), sl .ro ku8 A12 k13 x11.Key, sl .ro ku8 A14 k15 x11.Value]) (is := [1, 0, 5, 5]) rfl) _ h52) ?_
  rintro _ _ ⟨A54, k55, rfl, S⟩
  refine ⟨_, rfl, fun _ T => ?_⟩
  replace S : SL ([sl .own ku8 A54 k55 x53, sl .ro ku8 none 0 ([] : List Int), sl .ro ku8 none 0 ([] : List Int), sl .ro ku8 A12 k13 x11.Key, sl .ro ku8 A14 k15 x11.Value, blk b2 [.slice A39 x38.length k40, .slice A42 x41.length k43, .slice A45 x44.length k46, .int .i64 x47, .int .i64 x48, .slice A50 x49.length k51], sl .own ku8 A39 k40 x38, sl .ro ku8 A42 k43 x41, sl .own ku8 A45 k46 x44, sl .ro ku8 A50 k51 x49, blk b17 [.slice A12 x11.Key.length k13, .int .u64 x11.Seq, .bool x11.Del, .slice A14 x11.Value.length k15]] ++ F) _ := S.join
  refine ⟨_, [some (.pointer (some ⟨b2, 0, none⟩), true), some (.pointer (some ⟨b2, 0, none⟩), true), some (.pointer (some ⟨b2, 0, none⟩), true), some (.agg #[.slice A12 x11.Key.length k13, .int .u64 x11.Seq, .bool x11.Del, .slice A14 x11.Value.length k15], false), some (.slice A54 x53.length k55, false), some (.pointer (some ⟨b17, 0, none⟩), true), some (.slice A12 x11.Key.length k13, true), some (.pointer (some ⟨b2, 0, none⟩), true), some (.pointer (some ⟨b2, 1, none⟩), true), none, none, none, none, none, none, none], [sl .own ku8 A54 k55 x53, sl .ro ku8 none 0 ([] : List Int), sl .ro ku8 none 0 ([] : List Int), sl .ro ku8 A12 k13 x11.Key, sl .ro ku8 A14 k15 x11.Value, blk b2 [.slice A39 x38.length k40, .slice A42 x41.length k43, .slice A45 x44.length k46, .int .i64 x47, .int .i64 x48, .slice A50 x49.length k51], sl .own ku8 A39 k40 x38, sl .ro ku8 A42 k43 x41, sl .own ku8 A45 k46 x44, sl .ro ku8 A50 k51 x49, blk b17 [.slice A12 x11.Key.length k13, .int .u64 x11.Seq, .bool x11.Del, .slice A14 x11.Value.length k15]], rfl, ⟨.inr ⟨_, _, _, rfl, rfl⟩, .inr ⟨_, _, _, rfl, rfl⟩, .inr ⟨_, _, _, rfl, rfl⟩, .inr ⟨_, _, _, rfl, rfl⟩, .inl rfl, .inr ⟨_, _, _, rfl, rfl⟩, .inr ⟨_, _, _, rfl, rfl⟩, .inl rfl, .inl rfl, .inl rfl, .inl rfl, .inl rfl, .inl rfl, .inl rfl, .inl rfl, .inl rfl, trivial⟩, rfl, ?_, T, S⟩
  refine stage (some 9) rfl rfl ⟨⟨_, [(0, .pointer (some ⟨b2, 0, none⟩))], rfl, ⟨.inr ⟨rfl, rfl⟩, trivial⟩, fun u a w T S => (by refine r_pv T rfl rfl fun _ T => ?_; exact ⟨rfl, T⟩)⟩, ⟨_, [(0, .pointer (some ⟨b2, 0, none⟩))], rfl, ⟨.inr ⟨rfl, rfl⟩, trivial⟩, fun u a w T S => (by refine r_pv T rfl rfl fun _ T => ?_; exact ⟨rfl, T⟩)⟩, ⟨_, [(0, .pointer (some ⟨b2, 0, none⟩))], rfl, ⟨.inr ⟨rfl, rfl⟩, trivial⟩, fun u a w T S => (by refine r_pv T rfl rfl fun _ T => ?_; exact ⟨rfl, T⟩)⟩, ⟨_, [(4, .pointer (some ⟨b17, 0, none⟩))], rfl, ⟨.inr ⟨rfl, rfl⟩, trivial⟩, fun u a w T S => (by refine r_fa (o' := 0) T rfl Try.runUnderlying36 rfl Try.sizeOf24 rfl rfl fun _ T => ?_; exact ⟨rfl, T⟩)⟩, ⟨_, [(50, .pointer (some ⟨b17, 0, none⟩))], rfl, ⟨.inl ⟨5, rfl, rfl, rfl, rfl⟩, trivial⟩, fun u a w T S => (by refine r_ldB (ix := 10) T S rfl Try.isAgg24 rfl rfl rfl fun _ T => ?_; exact ⟨rfl, T⟩)⟩, ⟨_, [(45, .pointer (some ⟨b2, 0, none⟩))], rfl, ⟨.inl ⟨0, rfl, rfl, rfl, rfl⟩, trivial⟩, fun u a w T S => (by refine r_pv T rfl rfl fun _ T => ?_; exact ⟨rfl, T⟩)⟩, ⟨_, [(52, .pointer (some ⟨b2, 0, none⟩))], rfl, ⟨.inl ⟨7, rfl, rfl, rfl, rfl⟩, trivial⟩, fun u a w T S => (by refine r_fa (o' := 1) T rfl Try.runUnderlying61 rfl Try.sizeOf24 rfl rfl fun _ T => ?_; exact ⟨rfl, T⟩)⟩, trivial⟩ rfl (fun i hi => ?_) (fun h => by cases h)
  cases hi
  refine ⟨rfl, _, [(49, .slice A54 x53.length k55), (53, .pointer (some ⟨b2, 1, none⟩))], rfl, ⟨.inl ⟨4, rfl, rfl, rfl, rfl⟩, .inl ⟨8, rfl, rfl, rfl, rfl⟩, trivial⟩, fun u a w T S => ?_⟩
  refine r_stB (ix := 5) (l' := [sl .own ku8 A54 k55 x53, sl .ro ku8 none 0 ([] : List Int), sl .ro ku8 none 0 ([] : List Int), sl .ro ku8 A12 k13 x11.Key, sl .ro ku8 A14 k15 x11.Value, blk b2 [.slice A39 x38.length k40, .slice A54 x53.length k55, .slice A45 x44.length k46, .int .i64 x47, .int .i64 x48, .slice A50 x49.length k51], sl .own ku8 A39 k40 x38, sl .ro ku8 A42 k43 x41, sl .own ku8 A45 k46 x44, sl .ro ku8 A50 k51 x49, blk b17 [.slice A12 x11.Key.length k13, .int .u64 x11.Seq, .bool x11.Del, .slice A14 x11.Value.length k15]]) T S rfl rfl rfl Try.sizeOf24 rfl (Nat.le_of_ble_eq_true rfl) rfl fun _ S => ?_
  refine ⟨_, [some (.pointer (some ⟨b2, 0, none⟩), false), some (.pointer (some ⟨b2, 0, none⟩), true), some (.pointer (some ⟨b2, 0, none⟩), true), some (.agg #[.slice A12 x11.Key.length k13, .int .u64 x11.Seq, .bool x11.Del, .slice A14 x11.Value.length k15], false), some (.slice A54 x53.length k55, false), some (.pointer (some ⟨b17, 0, none⟩), true), some (.slice A12 x11.Key.length k13, true), some (.pointer (some ⟨b2, 0, none⟩), true), some (.pointer (some ⟨b2, 1, none⟩), false), some (undef, false), some (.pointer (some ⟨b2, 0, none⟩), true), some (.pointer (some ⟨b2, 5, none⟩), true), none, none, none, none], [sl .own ku8 A54 k55 x53, sl .ro ku8 none 0 ([] : List Int), sl .ro ku8 none 0 ([] : List Int), sl .ro ku8 A12 k13 x11.Key, sl .ro ku8 A14 k15 x11.Value, blk b2 [.slice A39 x38.length k40, .slice A54 x53.length k55, .slice A45 x44.length k46, .int .i64 x47, .int .i64 x48, .slice A50 x49.length k51], sl .own ku8 A39 k40 x38, sl .ro ku8 A42 k43 x41, sl .own ku8 A45 k46 x44, sl .ro ku8 A50 k51 x49, blk b17 [.slice A12 x11.Key.length k13, .int .u64 x11.Seq, .bool x11.Del, .slice A14 x11.Value.length k15]], rfl, ⟨.inr ⟨_, _, _, rfl, rfl⟩, .inr ⟨_, _, _, rfl, rfl⟩, .inr ⟨_, _, _, rfl, rfl⟩, .inr ⟨_, _, _, rfl, rfl⟩, .inr ⟨_, _, _, rfl, rfl⟩, .inr ⟨_, _, _, rfl, rfl⟩, .inr ⟨_, _, _, rfl, rfl⟩, .inr ⟨_, _, _, rfl, rfl⟩, .inr ⟨_, _, _, rfl, rfl⟩, .inl rfl, .inl rfl, .inl rfl, .inl rfl, .inl rfl, .inl rfl, .inl rfl, trivial⟩, rfl, ?_, T, S⟩
  refine stage (some 12) rfl rfl ⟨⟨_, [(0, .pointer (some ⟨b2, 0, none⟩))], rfl, ⟨.inr ⟨rfl, rfl⟩, trivial⟩, fun u a w T S => (by refine r_pv T rfl rfl fun _ T => ?_; exact ⟨rfl, T⟩)⟩, ⟨_, [(0, .pointer (some ⟨b2, 0, none⟩))], rfl, ⟨.inr ⟨rfl, rfl⟩, trivial⟩, fun u a w T S => (by refine r_pv T rfl rfl fun _ T => ?_; exact ⟨rfl, T⟩)⟩, ⟨_, [(4, .pointer (some ⟨b17, 0, none⟩))], rfl, ⟨.inr ⟨rfl, rfl⟩, trivial⟩, fun u a w T S => (by refine r_fa (o' := 0) T rfl Try.runUnderlying36 rfl Try.sizeOf24 rfl rfl fun _ T => ?_; exact ⟨rfl, T⟩)⟩, ⟨_, [(50, .pointer (some ⟨b17, 0, none⟩))], rfl, ⟨.inl ⟨5, rfl, rfl, rfl, rfl⟩, trivial⟩, fun u a w T S => (by refine r_ldB (ix := 10) T S rfl Try.isAgg24 rfl rfl rfl fun _ T => ?_; exact ⟨rfl, T⟩)⟩, ⟨_, [(45, .pointer (some ⟨b2, 0, none⟩))], rfl, ⟨.inl ⟨0, rfl, rfl, rfl, rfl⟩, trivial⟩, fun u a w T S => (by refine r_pv T rfl rfl fun _ T => ?_; exact ⟨rfl, T⟩)⟩, ⟨_, [(46, .pointer (some ⟨b2, 0, none⟩))], rfl, ⟨.inl ⟨1, rfl, rfl, rfl, rfl⟩, trivial⟩, fun u a w T S => (by refine r_pv T rfl rfl fun _ T => ?_; exact ⟨rfl, T⟩)⟩, ⟨_, [(54, .pointer (some ⟨b2, 0, none⟩))], rfl, ⟨.inl ⟨10, rfl, rfl, rfl, rfl⟩, trivial⟩, fun u a w T S => (by refine r_fa (o' := 5) T rfl Try.runUnderlying61 rfl Try.sizeOf24 rfl rfl fun _ T => ?_; exact ⟨rfl, T⟩)⟩, trivial⟩ rfl (fun i hi => ?_) (fun h => by cases h)
  cases hi
  refine ⟨rfl, _, [(51, .slice A12 x11.Key.length k13), (55, .pointer (some ⟨b2, 5, none⟩))], rfl, ⟨.inl ⟨6, rfl, rfl, rfl, rfl⟩, .inl ⟨11, rfl, rfl, rfl, rfl⟩, trivial⟩, fun u a w T S => ?_⟩
  refine r_stB (ix := 5) (l' := [sl .own ku8 A54 k55 x53, sl .ro ku8 none 0 ([] : List Int), sl .ro ku8 none 0 ([] : List Int), sl .ro ku8 A12 k13 x11.Key, sl .ro ku8 A14 k15 x11.Value, blk b2 [.slice A39 x38.length k40, .slice A54 x53.length k55, .slice A45 x44.length k46, .int .i64 x47, .int .i64 x48, .slice A12 x11.Key.length k13], sl .own ku8 A39 k40 x38, sl .ro ku8 A42 k43 x41, sl .own ku8 A45 k46 x44, sl .ro ku8 A50 k51 x49, blk b17 [.slice A12 x11.Key.length k13, .int .u64 x11.Seq, .bool x11.Del, .slice A14 x11.Value.length k15]]) T S rfl rfl rfl Try.sizeOf24 rfl (Nat.le_of_ble_eq_true rfl) rfl fun _ S => ?_
  refine ⟨_, [some (.pointer (some ⟨b2, 0, none⟩), false), some (.pointer (some ⟨b2, 0, none⟩), false), some (.pointer (some ⟨b2, 0, none⟩), true), some (.agg #[.slice A12 x11.Key.length k13, .int .u64 x11.Seq, .bool x11.Del, .slice A14 x11.Value.length k15], false), some (.slice A54 x53.length k55, false), some (.pointer (some ⟨b17, 0, none⟩), false), some (.slice A12 x11.Key.length k13, false), some (.pointer (some ⟨b2, 0, none⟩), false), some (.pointer (some ⟨b2, 1, none⟩), false), some (undef, false), some (.pointer (some ⟨b2, 0, none⟩), true), some (.pointer (some ⟨b2, 5, none⟩), false), some (undef, false), some (.pointer (some ⟨b2, 0, none⟩), true), some (.pointer (some ⟨b2, 3, none⟩), true), none], [sl .own ku8 A54 k55 x53, sl .ro ku8 none 0 ([] : List Int), sl .ro ku8 none 0 ([] : List Int), sl .ro ku8 A12 k13 x11.Key, sl .ro ku8 A14 k15 x11.Value, blk b2 [.slice A39 x38.length k40, .slice A54 x53.length k55, .slice A45 x44.length k46, .int .i64 x47, .int .i64 x48, .slice A12 x11.Key.length k13], sl .own ku8 A39 k40 x38, sl .ro ku8 A42 k43 x41, sl .own ku8 A45 k46 x44, sl .ro ku8 A50 k51 x49, blk b17 [.slice A12 x11.Key.length k13, .int .u64 x11.Seq, .bool x11.Del, .slice A14 x11.Value.length k15]], rfl, ⟨.inr ⟨_, _, _, rfl, rfl⟩, .inr ⟨_, _, _, rfl, rfl⟩, .inr ⟨_, _, _, rfl, rfl⟩, .inr ⟨_, _, _, rfl, rfl⟩, .inr ⟨_, _, _, rfl, rfl⟩, .inr ⟨_, _, _, rfl, rfl⟩, .inr ⟨_, _, _, rfl, rfl⟩, .inr ⟨_, _, _, rfl, rfl⟩, .inr ⟨_, _, _, rfl, rfl⟩, .inr ⟨_, _, _, rfl, rfl⟩, .inr ⟨_, _, _, rfl, rfl⟩, .inr ⟨_, _, _, rfl, rfl⟩, .inl rfl, .inl rfl, .inl rfl, .inl rfl, trivial⟩, rfl, ?_, T, S⟩
  refine stage (some 15) rfl rfl ⟨⟨_, [(0, .pointer (some ⟨b2, 0, none⟩))], rfl, ⟨.inr ⟨rfl, rfl⟩, trivial⟩, fun u a w T S => (by refine r_pv T rfl rfl fun _ T => ?_; exact ⟨rfl, T⟩)⟩, ⟨_, [(46, .pointer (some ⟨b2, 0, none⟩))], rfl, ⟨.inl ⟨1, rfl, rfl, rfl, rfl⟩, trivial⟩, fun u a w T S => (by refine r_pv T rfl rfl fun _ T => ?_; exact ⟨rfl, T⟩)⟩, ⟨_, [(47, .pointer (some ⟨b2, 0, none⟩))], rfl, ⟨.inl ⟨2, rfl, rfl, rfl, rfl⟩, trivial⟩, fun u a w T S => (by refine r_pv T rfl rfl fun _ T => ?_; exact ⟨rfl, T⟩)⟩, ⟨_, [(56, .pointer (some ⟨b2, 0, none⟩))], rfl, ⟨.inl ⟨13, rfl, rfl, rfl, rfl⟩, trivial⟩, fun u a w T S => (by refine r_fa (o' := 3) T rfl Try.runUnderlying61 rfl Try.sizeOf3 rfl rfl fun _ T => ?_; exact ⟨rfl, T⟩)⟩, trivial⟩ rfl (fun i hi => ?_) (fun h => by cases h)
  cases hi
  refine ⟨rfl, _, [(57, .pointer (some ⟨b2, 3, none⟩))], rfl, ⟨.inl ⟨14, rfl, rfl, rfl, rfl⟩, trivial⟩, fun u a w T S => ?_⟩
  refine r_stB (ix := 5) (l' := [sl .own ku8 A54 k55 x53, sl .ro ku8 none 0 ([] : List Int), sl .ro ku8 none 0 ([] : List Int), sl .ro ku8 A12 k13 x11.Key, sl .ro ku8 A14 k15 x11.Value, blk b2 [.slice A39 x38.length k40, .slice A54 x53.length k55, .slice A45 x44.length k46, .int .i64 1, .int .i64 x48, .slice A12 x11.Key.length k13], sl .own ku8 A39 k40 x38, sl .ro ku8 A42 k43 x41, sl .own ku8 A45 k46 x44, sl .ro ku8 A50 k51 x49, blk b17 [.slice A12 x11.Key.length k13, .int .u64 x11.Seq, .bool x11.Del, .slice A14 x11.Value.length k15]]) T S rfl rfl rfl Try.sizeOf3 rfl (Nat.le_of_ble_eq_true rfl) rfl fun _ S => ?_
  refine ⟨_, [some (.pointer (some ⟨b2, 0, none⟩), false), some (.pointer (some ⟨b2, 0, none⟩), false), some (.pointer (some ⟨b2, 0, none⟩), false), some (.agg #[.slice A12 x11.Key.length k13, .int .u64 x11.Seq, .bool x11.Del, .slice A14 x11.Value.length k15], false), some (.slice A54 x53.length k55, false), some (.pointer (some ⟨b17, 0, none⟩), false), some (.slice A12 x11.Key.length k13, false), some (.pointer (some ⟨b2, 0, none⟩), false), some (.pointer (some ⟨b2, 1, none⟩), false), some (undef, false), some (.pointer (some ⟨b2, 0, none⟩), false), some (.pointer (some ⟨b2, 5, none⟩), false), some (undef, false), some (.pointer (some ⟨b2, 0, none⟩), true), some (.pointer (some ⟨b2, 3, none⟩), false), some (undef, false)], [sl .own ku8 A54 k55 x53, sl .ro ku8 none 0 ([] : List Int), sl .ro ku8 none 0 ([] : List Int), sl .ro ku8 A12 k13 x11.Key, sl .ro ku8 A14 k15 x11.Value, blk b2 [.slice A39 x38.length k40, .slice A54 x53.length k55, .slice A45 x44.length k46, .int .i64 1, .int .i64 x48, .slice A12 x11.Key.length k13], sl .own ku8 A39 k40 x38, sl .ro ku8 A42 k43 x41, sl .own ku8 A45 k46 x44, sl .ro ku8 A50 k51 x49, blk b17 [.slice A12 x11.Key.length k13, .int .u64 x11.Seq, .bool x11.Del, .slice A14 x11.Value.length k15]], rfl, ⟨.inr ⟨_, _, _, rfl, rfl⟩, .inr ⟨_, _, _, rfl, rfl⟩, .inr ⟨_, _, _, rfl, rfl⟩, .inr ⟨_, _, _, rfl, rfl⟩, .inr ⟨_, _, _, rfl, rfl⟩, .inr ⟨_, _, _, rfl, rfl⟩, .inr ⟨_, _, _, rfl, rfl⟩, .inr ⟨_, _, _, rfl, rfl⟩, .inr ⟨_, _, _, rfl, rfl⟩, .inr ⟨_, _, _, rfl, rfl⟩, .inr ⟨_, _, _, rfl, rfl⟩, .inr ⟨_, _, _, rfl, rfl⟩, .inr ⟨_, _, _, rfl, rfl⟩, .inr ⟨_, _, _, rfl, rfl⟩, .inr ⟨_, _, _, rfl, rfl⟩, .inl rfl, trivial⟩, rfl, ?_, T, S⟩
  refine stage none rfl rfl ⟨⟨_, [(47, .pointer (some ⟨b2, 0, none⟩))], rfl, ⟨.inl ⟨2, rfl, rfl, rfl, rfl⟩, trivial⟩, fun u a w T S => (by refine r_pv T rfl rfl fun _ T => ?_; exact ⟨rfl, T⟩)⟩, trivial⟩ rfl (fun i hi => by cases hi) (fun _ _ a w T hv hb S => ?_)
  replace T := T.sub (r := []) trivial
  replace S : SL ([sl .ro ku8 A54 k55 x53, sl .ro ku8 none 0 ([] : List Int), sl .ro ku8 none 0 ([] : List Int), sl .ro ku8 A12 k13 x11.Key, sl .ro ku8 A14 k15 x11.Value, blk b2 [.slice A39 x38.length k40, .slice A54 x53.length k55, .slice A45 x44.length k46, .int .i64 1, .int .i64 x48, .slice A12 x11.Key.length k13], sl .own ku8 A39 k40 x38, sl .ro ku8 A42 k43 x41, sl .own ku8 A45 k46 x44, sl .ro ku8 A50 k51 x49, blk b17 [.slice A12 x11.Key.length k13, .int .u64 x11.Seq, .bool x11.Del, .slice A14 x11.Value.length k15]] ++ F) _ := S.fixL (i := 0) rfl rfl
  replace S := S.dup (i := 3) rfl
  replace H := Option.some.inj H
  subst H
  exact rtf T Try.func27 rfl rfl ⟨A39, k40, A54, k55, A45, k46, A12, k13, rfl, (S.only (p := [blk b2 [.slice A39 x38.length k40, .slice A54 x53.length k55, .slice A45 x44.length k46, .int .i64 1, .int .i64 x48, .slice A12 x11.Key.length k13], sl .own ku8 A39 k40 x38, sl .ro ku8 A54 k55 x53, sl .own ku8 A45 k46 x44, sl .ro ku8 A12 k13 x11.Key, sl .ro ku8 A12 k13 x11.Key, sl .ro ku8 A14 k15 x11.Value]) [6, 6, 1, 6, 3, 0, 2] rfl)⟩
theorem ok (F : List Atom) (w : World) (z : Nat) (x1 : sstable_builder) (x11 : api_Entry) (x16 : Int) {b2 : Nat} {A3 : Option Addr} {k4 : Nat} {A5 : Option Addr} {k6 : Nat} {A7 : Option Addr} {k8 : Nat} {A9 : Option Addr} {k10 : Nat} {A12 : Option Addr} {k13 : Nat} {A14 : Option Addr} {k15 : Nat} (S : SL ([blk b2 [.slice A3 x1.out.length k4, .slice A5 x1.body.length k6, .slice A7 x1.index.length k8, .int .i64 x1.many, .int .i64 x1.blocks, .slice A9 x1.last.length k10], sl .own ku8 A3 k4 x1.out, sl .ro ku8 A5 k6 x1.body, sl .own ku8 A7 k8 x1.index, sl .ro ku8 A9 k10 x1.last, sl .ro ku8 A12 k13 x11.Key, sl .ro ku8 A14 k15 x11.Value] ++ F) w) (r : sstable_builder) (H : f z x1 x11 x16 = some r) : Calls Try.prog 27 #[.pointer (some ⟨b2, 0, none⟩), .agg #[.slice A12 x11.Key.length k13, .int .u64 x11.Seq, .bool x11.Del, .slice A14 x11.Value.length k15], .int .i64 x16] w (R F b2 x11 A12 k13 A14 k15 r) := by
  refine enter (vs := [.pointer (some ⟨b2, 0, none⟩), .agg #[.slice A12 x11.Key.length k13, .int .u64 x11.Seq, .bool x11.Del, .slice A14 x11.Value.length k15], .int .i64 x16]) Try.func27 rfl Try.ntmps27 (Nat.le_of_ble_eq_true rfl) fun a T => ?_
  refine Gets.seq ?_
  refine rg ?_
  refine r_box T S rfl (cs := [.slice A12 x11.Key.length k13, .int .u64 x11.Seq, .bool x11.Del, .slice A14 x11.Value.length k15]) rfl rfl fun _ _ b17 S T => ?_
  refine Gets.seq (Gets.seq ?_)
  refine rg ?_
  refine r_pv T rfl rfl fun _ T => ?_
  refine r_pv T rfl rfl fun _ T => ?_
  refine r_fa (o' := 3) T rfl Try.runUnderlying61 rfl Try.sizeOf3 rfl rfl fun _ T => ?_
  refine r_ldB (ix := 1) T S rfl Try.isAgg3 rfl rfl rfl fun _ T => ?_
  refine r_pv T rfl rfl fun _ T => ?_
  rcases ifE H with ⟨h18, H⟩ | ⟨h18, H⟩
  · refine cdT T rfl h18 ?_
    refine Gets.seq (Gets.seq ?_)
    refine Gets.drawn (l := [blk b17 [.slice A12 x11.Key.length k13, .int .u64 x11.Seq, .bool x11.Del, .slice A14 x11.Value.length k15], blk b2 [.slice A3 x1.out.length k4, .slice A5 x1.body.length k6, .slice A7 x1.index.length k8, .int .i64 x1.many, .int .i64 x1.blocks, .slice A9 x1.last.length k10], sl .own ku8 A3 k4 x1.out, sl .ro ku8 A5 k6 x1.body, sl .own ku8 A7 k8 x1.index, sl .ro ku8 A9 k10 x1.last, sl .ro ku8 A12 k13 x11.Key, sl .ro ku8 A14 k15 x11.Value]) (V := [some (.pointer (some ⟨b2, 0, none⟩), true), some (.pointer (some ⟨b2, 0, none⟩), true), some (.pointer (some ⟨b2, 1, none⟩), true), some (.slice A5 x1.body.length k6, true), none, some (.pointer (some ⟨b2, 0, none⟩), true), some (.pointer (some ⟨b2, 0, none⟩), true), some (.pointer (some ⟨b2, 5, none⟩), true), some (.slice A9 x1.last.length k10, true), some (.agg #[.slice A12 x11.Key.length k13, .int .u64 x11.Seq, .bool x11.Del, .slice A14 x11.Value.length k15], true), none, none]) mixed T S rfl ?_
    refine stage (some 4) rfl rfl ⟨⟨_, [(0, .pointer (some ⟨b2, 0, none⟩))], rfl, ⟨.inr ⟨rfl, rfl⟩, trivial⟩, fun u a w T S => (by refine r_pv T rfl rfl fun _ T => ?_; exact ⟨rfl, T⟩)⟩, ⟨_, [(12, .pointer (some ⟨b2, 0, none⟩))], rfl, ⟨.inl ⟨0, rfl, rfl, rfl, rfl⟩, trivial⟩, fun u a w T S => (by refine r_pv T rfl rfl fun _ T => ?_; exact ⟨rfl, T⟩)⟩, ⟨_, [(13, .pointer (some ⟨b2, 0, none⟩))], rfl, ⟨.inl ⟨1, rfl, rfl, rfl, rfl⟩, trivial⟩, fun u a w T S => (by refine r_fa (o' := 1) T rfl Try.runUnderlying61 rfl Try.sizeOf24 rfl rfl fun _ T => ?_; exact ⟨rfl, T⟩)⟩, ⟨_, [(14, .pointer (some ⟨b2, 1, none⟩))], rfl, ⟨.inl ⟨2, rfl, rfl, rfl, rfl⟩, trivial⟩, fun u a w T S => (by refine r_ldB (ix := 1) T S rfl Try.isAgg24 rfl rfl rfl fun _ T => ?_; exact ⟨rfl, T⟩)⟩, ⟨_, [(0, .pointer (some ⟨b2, 0, none⟩))], rfl, ⟨.inr ⟨rfl, rfl⟩, trivial⟩, fun u a w T S => (by refine r_pv T rfl rfl fun _ T => ?_; exact ⟨rfl, T⟩)⟩, ⟨_, [(17, .pointer (some ⟨b2, 0, none⟩))], rfl, ⟨.inl ⟨5, rfl, rfl, rfl, rfl⟩, trivial⟩, fun u a w T S => (by refine r_pv T rfl rfl fun _ T => ?_; exact ⟨rfl, T⟩)⟩, ⟨_, [(18, .pointer (some ⟨b2, 0, none⟩))], rfl, ⟨.inl ⟨6, rfl, rfl, rfl, rfl⟩, trivial⟩, fun u a w T S => (by refine r_fa (o' := 5) T rfl Try.runUnderlying61 rfl Try.sizeOf24 rfl rfl fun _ T => ?_; exact ⟨rfl, T⟩)⟩, ⟨_, [(19, .pointer (some ⟨b2, 5, none⟩))], rfl, ⟨.inl ⟨7, rfl, rfl, rfl, rfl⟩, trivial⟩, fun u a w T S => (by refine r_ldB (ix := 1) T S rfl Try.isAgg24 rfl rfl rfl fun _ T => ?_; exact ⟨rfl, T⟩)⟩, ⟨_, [(4, .pointer (some ⟨b17, 0, none⟩))], rfl, ⟨.inr ⟨rfl, rfl⟩, trivial⟩, fun u a w T S => (by refine r_ldBA (ix := 0) (ds := [.slice A12 x11.Key.length k13, .int .u64 x11.Seq, .bool x11.Del, .slice A14 x11.Value.length k15]) T S rfl Try.isAgg36 rfl rfl Try.sizeOf36 rfl fun _ T => ?_; exact ⟨rfl, T⟩)⟩, trivial⟩ rfl (fun i hi => ?_) (fun h => by cases h)
    cases hi
    refine ⟨rfl, _, [(15, .slice A5 x1.body.length k6)], rfl, ⟨.inl ⟨3, rfl, rfl, rfl, rfl⟩, trivial⟩, fun u a w T S => ?_⟩
    obtain ⟨x20, h19, H⟩ := bd H
    refine r_call T Try.call31 rfl rfl (slices_Clip_byte_ro.ok _ _ x1.body (S.sel (p := [sl .ro ku8 A5 k6 x1.body]) (is := [3]) rfl) _ h19) ?_
    rintro _ _ ⟨A21, rfl, S⟩
    refine ⟨_, rfl, fun _ T => ?_⟩
    replace S : SL ([sl .ro ku8 A21 x20.length x20, sl .ro ku8 A5 k6 x1.body, blk b17 [.slice A12 x11.Key.length k13, .int .u64 x11.Seq, .bool x11.Del, .slice A14 x11.Value.length k15], blk b2 [.slice A3 x1.out.length k4, .slice A5 x1.body.length k6, .slice A7 x1.index.length k8, .int .i64 x1.many, .int .i64 x1.blocks, .slice A9 x1.last.length k10], sl .own ku8 A3 k4 x1.out, sl .own ku8 A7 k8 x1.index, sl .ro ku8 A9 k10 x1.last, sl .ro ku8 A12 k13 x11.Key, sl .ro ku8 A14 k15 x11.Value] ++ F) _ := S.join
    refine ⟨_, [some (.pointer (some ⟨b2, 0, none⟩), true), some (.pointer (some ⟨b2, 0, none⟩), true), some (.pointer (some ⟨b2, 1, none⟩), true), some (.slice A5 x1.body.length k6, false), some (.slice A21 x20.length x20.length, false), some (.pointer (some ⟨b2, 0, none⟩), true), some (.pointer (some ⟨b2, 0, none⟩), true), some (.pointer (some ⟨b2, 5, none⟩), true), some (.slice A9 x1.last.length k10, true), some (.agg #[.slice A12 x11.Key.length k13, .int .u64 x11.Seq, .bool x11.Del, .slice A14 x11.Value.length k15], true), none, none], [sl .ro ku8 A21 x20.length x20, sl .ro ku8 A5 k6 x1.body, blk b17 [.slice A12 x11.Key.length k13, .int .u64 x11.Seq, .bool x11.Del, .slice A14 x11.Value.length k15], blk b2 [.slice A3 x1.out.length k4, .slice A5 x1.body.length k6, .slice A7 x1.index.length k8, .int .i64 x1.many, .int .i64 x1.blocks, .slice A9 x1.last.length k10], sl .own ku8 A3 k4 x1.out, sl .own ku8 A7 k8 x1.index, sl .ro ku8 A9 k10 x1.last, sl .ro ku8 A12 k13 x11.Key, sl .ro ku8 A14 k15 x11.Value], rfl, ⟨.inr ⟨_, _, _, rfl, rfl⟩, .inr ⟨_, _, _, rfl, rfl⟩, .inr ⟨_, _, _, rfl, rfl⟩, .inr ⟨_, _, _, rfl, rfl⟩, .inl rfl, .inr ⟨_, _, _, rfl, rfl⟩, .inr ⟨_, _, _, rfl, rfl⟩, .inr ⟨_, _, _, rfl, rfl⟩, .inr ⟨_, _, _, rfl, rfl⟩, .inr ⟨_, _, _, rfl, rfl⟩, .inl rfl, .inl rfl, trivial⟩, rfl, ?_, T, S⟩
    refine stage (some 10) rfl rfl ⟨⟨_, [(0, .pointer (some ⟨b2, 0, none⟩))], rfl, ⟨.inr ⟨rfl, rfl⟩, trivial⟩, fun u a w T S => (by refine r_pv T rfl rfl fun _ T => ?_; exact ⟨rfl, T⟩)⟩, ⟨_, [(12, .pointer (some ⟨b2, 0, none⟩))], rfl, ⟨.inl ⟨0, rfl, rfl, rfl, rfl⟩, trivial⟩, fun u a w T S => (by refine r_pv T rfl rfl fun _ T => ?_; exact ⟨rfl, T⟩)⟩, ⟨_, [(13, .pointer (some ⟨b2, 0, none⟩))], rfl, ⟨.inl ⟨1, rfl, rfl, rfl, rfl⟩, trivial⟩, fun u a w T S => (by refine r_fa (o' := 1) T rfl Try.runUnderlying61 rfl Try.sizeOf24 rfl rfl fun _ T => ?_; exact ⟨rfl, T⟩)⟩, ⟨_, [(0, .pointer (some ⟨b2, 0, none⟩))], rfl, ⟨.inr ⟨rfl, rfl⟩, trivial⟩, fun u a w T S => (by refine r_pv T rfl rfl fun _ T => ?_; exact ⟨rfl, T⟩)⟩, ⟨_, [(17, .pointer (some ⟨b2, 0, none⟩))], rfl, ⟨.inl ⟨5, rfl, rfl, rfl, rfl⟩, trivial⟩, fun u a w T S => (by refine r_pv T rfl rfl fun _ T => ?_; exact ⟨rfl, T⟩)⟩, ⟨_, [(18, .pointer (some ⟨b2, 0, none⟩))], rfl, ⟨.inl ⟨6, rfl, rfl, rfl, rfl⟩, trivial⟩, fun u a w T S => (by refine r_fa (o' := 5) T rfl Try.runUnderlying61 rfl Try.sizeOf24 rfl rfl fun _ T => ?_; exact ⟨rfl, T⟩)⟩, ⟨_, [(19, .pointer (some ⟨b2, 5, none⟩))], rfl, ⟨.inl ⟨7, rfl, rfl, rfl, rfl⟩, trivial⟩, fun u a w T S => (by refine r_ldB (ix := 3) T S rfl Try.isAgg24 rfl rfl rfl fun _ T => ?_; exact ⟨rfl, T⟩)⟩, ⟨_, [(4, .pointer (some ⟨b17, 0, none⟩))], rfl, ⟨.inr ⟨rfl, rfl⟩, trivial⟩, fun u a w T S => (by refine r_ldBA (ix := 2) (ds := [.slice A12 x11.Key.length k13, .int .u64 x11.Seq, .bool x11.Del, .slice A14 x11.Value.length k15]) T S rfl Try.isAgg36 rfl rfl Try.sizeOf36 rfl fun _ T => ?_; exact ⟨rfl, T⟩)⟩, trivial⟩ rfl (fun i hi => ?_) (fun h => by cases h)
    cases hi
    refine ⟨rfl, _, [(16, .slice A21 x20.length x20.length), (20, .slice A9 x1.last.length k10), (21, .agg #[.slice A12 x11.Key.length k13, .int .u64 x11.Seq, .bool x11.Del, .slice A14 x11.Value.length k15])], rfl, ⟨.inl ⟨4, rfl, rfl, rfl, rfl⟩, .inl ⟨8, rfl, rfl, rfl, rfl⟩, .inl ⟨9, rfl, rfl, rfl, rfl⟩, trivial⟩, fun u a w T S => ?_⟩
    obtain ⟨x23, h22, H⟩ := bd H
    refine r_call T Try.call53 rfl rfl (sstable_lay.ok _ _ z x20 x1.last x11 (S.sel (p := [sl .ro ku8 A21 x20.length x20, sl .ro ku8 A9 k10 x1.last, sl .ro ku8 A12 k13 x11.Key, sl .ro ku8 A14 k15 x11.Value]) (is := [0, 5, 5, 5]) rfl) _ h22) ?_
    rintro _ _ ⟨A24, k25, rfl, S⟩
    refine ⟨_, rfl, fun _ T => ?_⟩
    replace S : SL ([sl .own ku8 A24 k25 x23, sl .ro ku8 A21 x20.length x20, sl .ro ku8 A9 k10 x1.last, sl .ro ku8 A12 k13 x11.Key, sl .ro ku8 A14 k15 x11.Value, sl .ro ku8 A5 k6 x1.body, blk b17 [.slice A12 x11.Key.length k13, .int .u64 x11.Seq, .bool x11.Del, .slice A14 x11.Value.length k15], blk b2 [.slice A3 x1.out.length k4, .slice A5 x1.body.length k6, .slice A7 x1.index.length k8, .int .i64 x1.many, .int .i64 x1.blocks, .slice A9 x1.last.length k10], sl .own ku8 A3 k4 x1.out, sl .own ku8 A7 k8 x1.index] ++ F) _ := S.join
    refine ⟨_, [some (.pointer (some ⟨b2, 0, none⟩), true), some (.pointer (some ⟨b2, 0, none⟩), true), some (.pointer (some ⟨b2, 1, none⟩), true), some (.slice A5 x1.body.length k6, false), some (.slice A21 x20.length x20.length, false), some (.pointer (some ⟨b2, 0, none⟩), true), some (.pointer (some ⟨b2, 0, none⟩), true), some (.pointer (some ⟨b2, 5, none⟩), true), some (.slice A9 x1.last.length k10, false), some (.agg #[.slice A12 x11.Key.length k13, .int .u64 x11.Seq, .bool x11.Del, .slice A14 x11.Value.length k15], false), some (.slice A24 x23.length k25, false), some (.slice A24 x23.length k25, true)], [sl .own ku8 A24 k25 x23, sl .ro ku8 A21 x20.length x20, sl .ro ku8 A9 k10 x1.last, sl .ro ku8 A12 k13 x11.Key, sl .ro ku8 A14 k15 x11.Value, sl .ro ku8 A5 k6 x1.body, blk b17 [.slice A12 x11.Key.length k13, .int .u64 x11.Seq, .bool x11.Del, .slice A14 x11.Value.length k15], blk b2 [.slice A3 x1.out.length k4, .slice A5 x1.body.length k6, .slice A7 x1.index.length k8, .int .i64 x1.many, .int .i64 x1.blocks, .slice A9 x1.last.length k10], sl .own ku8 A3 k4 x1.out, sl .own ku8 A7 k8 x1.index], rfl, ⟨.inr ⟨_, _, _, rfl, rfl⟩, .inr ⟨_, _, _, rfl, rfl⟩, .inr ⟨_, _, _, rfl, rfl⟩, .inr ⟨_, _, _, rfl, rfl⟩, .inr ⟨_, _, _, rfl, rfl⟩, .inr ⟨_, _, _, rfl, rfl⟩, .inr ⟨_, _, _, rfl, rfl⟩, .inr ⟨_, _, _, rfl, rfl⟩, .inr ⟨_, _, _, rfl, rfl⟩, .inr ⟨_, _, _, rfl, rfl⟩, .inl rfl, .inl rfl, trivial⟩, rfl, ?_, T, S⟩
    refine stage none rfl rfl ⟨⟨_, [(0, .pointer (some ⟨b2, 0, none⟩))], rfl, ⟨.inr ⟨rfl, rfl⟩, trivial⟩, fun u a w T S => (by refine r_pv T rfl rfl fun _ T => ?_; exact ⟨rfl, T⟩)⟩, ⟨_, [(12, .pointer (some ⟨b2, 0, none⟩))], rfl, ⟨.inl ⟨0, rfl, rfl, rfl, rfl⟩, trivial⟩, fun u a w T S => (by refine r_pv T rfl rfl fun _ T => ?_; exact ⟨rfl, T⟩)⟩, ⟨_, [(13, .pointer (some ⟨b2, 0, none⟩))], rfl, ⟨.inl ⟨1, rfl, rfl, rfl, rfl⟩, trivial⟩, fun u a w T S => (by refine r_fa (o' := 1) T rfl Try.runUnderlying61 rfl Try.sizeOf24 rfl rfl fun _ T => ?_; exact ⟨rfl, T⟩)⟩, ⟨_, [(0, .pointer (some ⟨b2, 0, none⟩))], rfl, ⟨.inr ⟨rfl, rfl⟩, trivial⟩, fun u a w T S => (by refine r_pv T rfl rfl fun _ T => ?_; exact ⟨rfl, T⟩)⟩, ⟨_, [(17, .pointer (some ⟨b2, 0, none⟩))], rfl, ⟨.inl ⟨5, rfl, rfl, rfl, rfl⟩, trivial⟩, fun u a w T S => (by refine r_pv T rfl rfl fun _ T => ?_; exact ⟨rfl, T⟩)⟩, ⟨_, [(18, .pointer (some ⟨b2, 0, none⟩))], rfl, ⟨.inl ⟨6, rfl, rfl, rfl, rfl⟩, trivial⟩, fun u a w T S => (by refine r_fa (o' := 5) T rfl Try.runUnderlying61 rfl Try.sizeOf24 rfl rfl fun _ T => ?_; exact ⟨rfl, T⟩)⟩, ⟨_, [(22, .slice A24 x23.length k25)], rfl, ⟨.inl ⟨10, rfl, rfl, rfl, rfl⟩, trivial⟩, fun u a w T S => (by refine r_pv T rfl rfl fun _ T => ?_; exact ⟨rfl, T⟩)⟩, trivial⟩ rfl (fun i hi => by cases hi) (fun _ _ a w T hv hb S => ?_)
    replace T := T.sub (r := [(0, .pointer (some ⟨b2, 0, none⟩)), (2, .int .i64 x16), (4, .pointer (some ⟨b17, 0, none⟩)), (6, .slice A24 x23.length k25)]) ⟨hb 0 _ rfl rfl, hb 2 _ rfl rfl, hb 4 _ rfl rfl, hv 11 _ 6 rfl rfl rfl, trivial⟩
    refine Gets.seq ?_
    refine rg ?_
    refine r_pv T rfl rfl fun _ T => ?_
    refine r_lenS T rfl Try.runUnderlying24 rfl fun _ T => ?_
    refine r_pv T rfl rfl fun _ T => ?_
    refine r_pv T rfl rfl fun _ T => ?_
    rcases ifE H with ⟨h26, H⟩ | ⟨h26, H⟩
    · refine cdT T rfl h26 ?_
      refine Gets.seq ?_
      refine Gets.drawn (l := [sl .own ku8 A24 k25 x23, sl .ro ku8 A21 x20.length x20, sl .ro ku8 A9 k10 x1.last, sl .ro ku8 A12 k13 x11.Key, sl .ro ku8 A14 k15 x11.Value, sl .ro ku8 A5 k6 x1.body, blk b17 [.slice A12 x11.Key.length k13, .int .u64 x11.Seq, .bool x11.Del, .slice A14 x11.Value.length k15], blk b2 [.slice A3 x1.out.length k4, .slice A5 x1.body.length k6, .slice A7 x1.index.length k8, .int .i64 x1.many, .int .i64 x1.blocks, .slice A9 x1.last.length k10], sl .own ku8 A3 k4 x1.out, sl .own ku8 A7 k8 x1.index]) (V := [some (.pointer (some ⟨b2, 0, none⟩), true), some (.pointer (some ⟨b2, 0, none⟩), true), some (.slice A24 x23.length k25, true), some (.pointer (some ⟨b17, 0, none⟩), true), some (.slice A12 x11.Key.length k13, true), some (.pointer (some ⟨b2, 0, none⟩), true), some (.pointer (some ⟨b2, 1, none⟩), true), none, none, none, none]) mixed T S rfl ?_
      refine stage (some 7) rfl rfl ⟨⟨_, [(0, .pointer (some ⟨b2, 0, none⟩))], rfl, ⟨.inr ⟨rfl, rfl⟩, trivial⟩, fun u a w T S => (by refine r_pv T rfl rfl fun _ T => ?_; exact ⟨rfl, T⟩)⟩, ⟨_, [(0, .pointer (some ⟨b2, 0, none⟩))], rfl, ⟨.inr ⟨rfl, rfl⟩, trivial⟩, fun u a w T S => (by refine r_pv T rfl rfl fun _ T => ?_; exact ⟨rfl, T⟩)⟩, ⟨_, [(6, .slice A24 x23.length k25)], rfl, ⟨.inr ⟨rfl, rfl⟩, trivial⟩, fun u a w T S => (by refine r_pv T rfl rfl fun _ T => ?_; exact ⟨rfl, T⟩)⟩, ⟨_, [(4, .pointer (some ⟨b17, 0, none⟩))], rfl, ⟨.inr ⟨rfl, rfl⟩, trivial⟩, fun u a w T S => (by refine r_fa (o' := 0) T rfl Try.runUnderlying36 rfl Try.sizeOf24 rfl rfl fun _ T => ?_; exact ⟨rfl, T⟩)⟩, ⟨_, [(30, .pointer (some ⟨b17, 0, none⟩))], rfl, ⟨.inl ⟨3, rfl, rfl, rfl, rfl⟩, trivial⟩, fun u a w T S => (by refine r_ldB (ix := 6) T S rfl Try.isAgg24 rfl rfl rfl fun _ T => ?_; exact ⟨rfl, T⟩)⟩, ⟨_, [(27, .pointer (some ⟨b2, 0, none⟩))], rfl, ⟨.inl ⟨0, rfl, rfl, rfl, rfl⟩, trivial⟩, fun u a w T S => (by refine r_pv T rfl rfl fun _ T => ?_; exact ⟨rfl, T⟩)⟩, ⟨_, [(32, .pointer (some ⟨b2, 0, none⟩))], rfl, ⟨.inl ⟨5, rfl, rfl, rfl, rfl⟩, trivial⟩, fun u a w T S => (by refine r_fa (o' := 1) T rfl Try.runUnderlying61 rfl Try.sizeOf24 rfl rfl fun _ T => ?_; exact ⟨rfl, T⟩)⟩, trivial⟩ rfl (fun i hi => ?_) (fun h => by cases h)
      cases hi
      refine ⟨rfl, _, [(29, .slice A24 x23.length k25), (33, .pointer (some ⟨b2, 1, none⟩))], rfl, ⟨.inl ⟨2, rfl, rfl, rfl, rfl⟩, .inl ⟨6, rfl, rfl, rfl, rfl⟩, trivial⟩, fun u a w T S => ?_⟩
      refine r_stB (ix := 7) (l' := [sl .own ku8 A24 k25 x23, sl .ro ku8 A21 x20.length x20, sl .ro ku8 A9 k10 x1.last, sl .ro ku8 A12 k13 x11.Key, sl .ro ku8 A14 k15 x11.Value, sl .ro ku8 A5 k6 x1.body, blk b17 [.slice A12 x11.Key.length k13, .int .u64 x11.Seq, .bool x11.Del, .slice A14 x11.Value.length k15], blk b2 [.slice A3 x1.out.length k4, .slice A24 x23.length k25, .slice A7 x1.index.length k8, .int .i64 x1.many, .int .i64 x1.blocks, .slice A9 x1.last.length k10], sl .own ku8 A3 k4 x1.out, sl .own ku8 A7 k8 x1.index]) T S rfl rfl rfl Try.sizeOf24 rfl (Nat.le_of_ble_eq_true rfl) rfl fun _ S => ?_
      refine ⟨_, [some (.pointer (some ⟨b2, 0, none⟩), false), some (.pointer (some ⟨b2, 0, none⟩), true), some (.slice A24 x23.length k25, false), some (.pointer (some ⟨b17, 0, none⟩), true), some (.slice A12 x11.Key.length k13, true), some (.pointer (some ⟨b2, 0, none⟩), true), some (.pointer (some ⟨b2, 1, none⟩), false), some (undef, false), some (.pointer (some ⟨b2, 0, none⟩), true), some (.pointer (some ⟨b2, 5, none⟩), true), none], [sl .own ku8 A24 k25 x23, sl .ro ku8 A21 x20.length x20, sl .ro ku8 A9 k10 x1.last, sl .ro ku8 A12 k13 x11.Key, sl .ro ku8 A14 k15 x11.Value, sl .ro ku8 A5 k6 x1.body, blk b17 [.slice A12 x11.Key.length k13, .int .u64 x11.Seq, .bool x11.Del, .slice A14 x11.Value.length k15], blk b2 [.slice A3 x1.out.length k4, .slice A24 x23.length k25, .slice A7 x1.index.length k8, .int .i64 x1.many, .int .i64 x1.blocks, .slice A9 x1.last.length k10], sl .own ku8 A3 k4 x1.out, sl .own ku8 A7 k8 x1.index], rfl, ⟨.inr ⟨_, _, _, rfl, rfl⟩, .inr ⟨_, _, _, rfl, rfl⟩, .inr ⟨_, _, _, rfl, rfl⟩, .inr ⟨_, _, _, rfl, rfl⟩, .inr ⟨_, _, _, rfl, rfl⟩, .inr ⟨_, _, _, rfl, rfl⟩, .inr ⟨_, _, _, rfl, rfl⟩, .inl rfl, .inl rfl, .inl rfl, .inl rfl, trivial⟩, rfl, ?_, T, S⟩
      refine stage (some 10) rfl rfl ⟨⟨_, [(0, .pointer (some ⟨b2, 0, none⟩))], rfl, ⟨.inr ⟨rfl, rfl⟩, trivial⟩, fun u a w T S => (by refine r_pv T rfl rfl fun _ T => ?_; exact ⟨rfl, T⟩)⟩, ⟨_, [(4, .pointer (some ⟨b17, 0, none⟩))], rfl, ⟨.inr ⟨rfl, rfl⟩, trivial⟩, fun u a w T S => (by refine r_fa (o' := 0) T rfl Try.runUnderlying36 rfl Try.sizeOf24 rfl rfl fun _ T => ?_; exact ⟨rfl, T⟩)⟩, ⟨_, [(30, .pointer (some ⟨b17, 0, none⟩))], rfl, ⟨.inl ⟨3, rfl, rfl, rfl, rfl⟩, trivial⟩, fun u a w T S => (by refine r_ldB (ix := 6) T S rfl Try.isAgg24 rfl rfl rfl fun _ T => ?_; exact ⟨rfl, T⟩)⟩, ⟨_, [(27, .pointer (some ⟨b2, 0, none⟩))], rfl, ⟨.inl ⟨0, rfl, rfl, rfl, rfl⟩, trivial⟩, fun u a w T S => (by refine r_pv T rfl rfl fun _ T => ?_; exact ⟨rfl, T⟩)⟩, ⟨_, [(28, .pointer (some ⟨b2, 0, none⟩))], rfl, ⟨.inl ⟨1, rfl, rfl, rfl, rfl⟩, trivial⟩, fun u a w T S => (by refine r_pv T rfl rfl fun _ T => ?_; exact ⟨rfl, T⟩)⟩, ⟨_, [(34, .pointer (some ⟨b2, 0, none⟩))], rfl, ⟨.inl ⟨8, rfl, rfl, rfl, rfl⟩, trivial⟩, fun u a w T S => (by refine r_fa (o' := 5) T rfl Try.runUnderlying61 rfl Try.sizeOf24 rfl rfl fun _ T => ?_; exact ⟨rfl, T⟩)⟩, trivial⟩ rfl (fun i hi => ?_) (fun h => by cases h)
      cases hi
      refine ⟨rfl, _, [(31, .slice A12 x11.Key.length k13), (35, .pointer (some ⟨b2, 5, none⟩))], rfl, ⟨.inl ⟨4, rfl, rfl, rfl, rfl⟩, .inl ⟨9, rfl, rfl, rfl, rfl⟩, trivial⟩, fun u a w T S => ?_⟩
      refine r_stB (ix := 7) (l' := [sl .own ku8 A24 k25 x23, sl .ro ku8 A21 x20.length x20, sl .ro ku8 A9 k10 x1.last, sl .ro ku8 A12 k13 x11.Key, sl .ro ku8 A14 k15 x11.Value, sl .ro ku8 A5 k6 x1.body, blk b17 [.slice A12 x11.Key.length k13, .int .u64 x11.Seq, .bool x11.Del, .slice A14 x11.Value.length k15], blk b2 [.slice A3 x1.out.length k4, .slice A24 x23.length k25, .slice A7 x1.index.length k8, .int .i64 x1.many, .int .i64 x1.blocks, .slice A12 x11.Key.length k13], sl .own ku8 A3 k4 x1.out, sl .own ku8 A7 k8 x1.index]) T S rfl rfl rfl Try.sizeOf24 rfl (Nat.le_of_ble_eq_true rfl) rfl fun _ S => ?_
      refine ⟨_, [some (.pointer (some ⟨b2, 0, none⟩), false), some (.pointer (some ⟨b2, 0, none⟩), false), some (.slice A24 x23.length k25, false), some (.pointer (some ⟨b17, 0, none⟩), false), some (.slice A12 x11.Key.length k13, false), some (.pointer (some ⟨b2, 0, none⟩), false), some (.pointer (some ⟨b2, 1, none⟩), false), some (undef, false), some (.pointer (some ⟨b2, 0, none⟩), true), some (.pointer (some ⟨b2, 5, none⟩), false), some (undef, false)], [sl .own ku8 A24 k25 x23, sl .ro ku8 A21 x20.length x20, sl .ro ku8 A9 k10 x1.last, sl .ro ku8 A12 k13 x11.Key, sl .ro ku8 A14 k15 x11.Value, sl .ro ku8 A5 k6 x1.body, blk b17 [.slice A12 x11.Key.length k13, .int .u64 x11.Seq, .bool x11.Del, .slice A14 x11.Value.length k15], blk b2 [.slice A3 x1.out.length k4, .slice A24 x23.length k25, .slice A7 x1.index.length k8, .int .i64 x1.many, .int .i64 x1.blocks, .slice A12 x11.Key.length k13], sl .own ku8 A3 k4 x1.out, sl .own ku8 A7 k8 x1.index], rfl, ⟨.inr ⟨_, _, _, rfl, rfl⟩, .inr ⟨_, _, _, rfl, rfl⟩, .inr ⟨_, _, _, rfl, rfl⟩, .inr ⟨_, _, _, rfl, rfl⟩, .inr ⟨_, _, _, rfl, rfl⟩, .inr ⟨_, _, _, rfl, rfl⟩, .inr ⟨_, _, _, rfl, rfl⟩, .inr ⟨_, _, _, rfl, rfl⟩, .inr ⟨_, _, _, rfl, rfl⟩, .inr ⟨_, _, _, rfl, rfl⟩, .inl rfl, trivial⟩, rfl, ?_, T, S⟩
      refine stage none rfl rfl ⟨⟨_, [(28, .pointer (some ⟨b2, 0, none⟩))], rfl, ⟨.inl ⟨1, rfl, rfl, rfl, rfl⟩, trivial⟩, fun u a w T S => (by refine r_pv T rfl rfl fun _ T => ?_; exact ⟨rfl, T⟩)⟩, trivial⟩ rfl (fun i hi => by cases hi) (fun _ _ a w T hv hb S => ?_)
      replace T := T.sub (r := [(0, .pointer (some ⟨b2, 0, none⟩))]) ⟨hb 0 _ rfl rfl, trivial⟩
      refine Gets.seq ?_
      refine rg ?_
      refine r_pv T rfl rfl fun _ T => ?_
      refine r_pv T rfl rfl fun _ T => ?_
      refine r_fa (o' := 3) T rfl Try.runUnderlying61 rfl Try.sizeOf3 rfl rfl fun _ T => ?_
      refine r_ldB (ix := 7) T S rfl Try.isAgg3 rfl rfl rfl fun _ T => ?_
      refine r_pv T rfl rfl fun _ T => ?_
      refine r_pv T rfl rfl fun _ T => ?_
      refine r_fa (o' := 3) T rfl Try.runUnderlying61 rfl Try.sizeOf3 rfl rfl fun _ T => ?_
      refine r_stB (ix := 7) (l' := [sl .own ku8 A24 k25 x23, sl .ro ku8 A21 x20.length x20, sl .ro ku8 A9 k10 x1.last, sl .ro ku8 A12 k13 x11.Key, sl .ro ku8 A14 k15 x11.Value, sl .ro ku8 A5 k6 x1.body, blk b17 [.slice A12 x11.Key.length k13, .int .u64 x11.Seq, .bool x11.Del, .slice A14 x11.Value.length k15], blk b2 [.slice A3 x1.out.length k4, .slice A24 x23.length k25, .slice A7 x1.index.length k8, .int .i64 (wr .i64 (x1.many + 1)), .int .i64 x1.blocks, .slice A12 x11.Key.length k13], sl .own ku8 A3 k4 x1.out, sl .own ku8 A7 k8 x1.index]) T S rfl rfl rfl Try.sizeOf3 rfl (Nat.le_of_ble_eq_true rfl) rfl fun _ S => ?_
      replace S : SL ([sl .ro ku8 A24 k25 x23, sl .ro ku8 A21 x20.length x20, sl .ro ku8 A9 k10 x1.last, sl .ro ku8 A12 k13 x11.Key, sl .ro ku8 A14 k15 x11.Value, sl .ro ku8 A5 k6 x1.body, blk b17 [.slice A12 x11.Key.length k13, .int .u64 x11.Seq, .bool x11.Del, .slice A14 x11.Value.length k15], blk b2 [.slice A3 x1.out.length k4, .slice A24 x23.length k25, .slice A7 x1.index.length k8, .int .i64 (wr .i64 (x1.many + 1)), .int .i64 x1.blocks, .slice A12 x11.Key.length k13], sl .own ku8 A3 k4 x1.out, sl .own ku8 A7 k8 x1.index] ++ F) _ := S.fixL (i := 0) rfl rfl
      replace S := S.dup (i := 3) rfl
      replace H := Option.some.inj H
      subst H
      exact rtn T Try.func27 rfl rfl ⟨A3, k4, A24, k25, A7, k8, A12, k13, rfl, (S.only (p := [blk b2 [.slice A3 x1.out.length k4, .slice A24 x23.length k25, .slice A7 x1.index.length k8, .int .i64 (wr .i64 (x1.many + 1)), .int .i64 x1.blocks, .slice A12 x11.Key.length k13], sl .own ku8 A3 k4 x1.out, sl .ro ku8 A24 k25 x23, sl .own ku8 A7 k8 x1.index, sl .ro ku8 A12 k13 x11.Key, sl .ro ku8 A12 k13 x11.Key, sl .ro ku8 A14 k15 x11.Value]) [8, 8, 1, 7, 3, 0, 2] rfl)⟩
    · refine cdF T rfl h26 ?_
      refine Gets.skip ?_
      refine rg ?_
      refine r_pv T rfl rfl fun _ T => ?_
      obtain ⟨x28, h27, H⟩ := bd H
      refine r_call T Try.call29 rfl rfl (sstable_builder_close.ok _ _ z x1 (S.sel (p := [blk b2 [.slice A3 x1.out.length k4, .slice A5 x1.body.length k6, .slice A7 x1.index.length k8, .int .i64 x1.many, .int .i64 x1.blocks, .slice A9 x1.last.length k10], sl .own ku8 A3 k4 x1.out, sl .ro ku8 A5 k6 x1.body, sl .own ku8 A7 k8 x1.index, sl .ro ku8 A9 k10 x1.last]) (is := [7, 7, 5, 6, 2]) rfl) _ h27) ?_
      rintro _ _ ⟨A30, k31, A32, k33, A34, k35, A36, k37, rfl, S⟩
      refine ⟨_, rfl, fun _ T => ?_⟩
      replace S : SL ([blk b2 [.slice A30 x28.out.length k31, .slice A32 x28.body.length k33, .slice A34 x28.index.length k35, .int .i64 x28.many, .int .i64 x28.blocks, .slice A36 x28.last.length k37], sl .own ku8 A30 k31 x28.out, sl .ro ku8 A32 k33 x28.body, sl .own ku8 A34 k35 x28.index, sl .ro ku8 A36 k37 x28.last, sl .own ku8 A24 k25 x23, sl .ro ku8 A21 x20.length x20, sl .ro ku8 A12 k13 x11.Key, sl .ro ku8 A14 k15 x11.Value, blk b17 [.slice A12 x11.Key.length k13, .int .u64 x11.Seq, .bool x11.Del, .slice A14 x11.Value.length k15]] ++ F) _ := S.join
      exact J0_ok F r z b2 x11 A12 k13 A14 k15 b17 x16 A30 x28.out k31 A32 x28.body k33 A34 x28.index k35 x28.many x28.blocks A36 x28.last k37 _ _ (T.sub ⟨rfl, rfl, trivial⟩) (S.only (p := [blk b2 [.slice A30 x28.out.length k31, .slice A32 x28.body.length k33, .slice A34 x28.index.length k35, .int .i64 x28.many, .int .i64 x28.blocks, .slice A36 x28.last.length k37], sl .own ku8 A30 k31 x28.out, sl .ro ku8 A32 k33 x28.body, sl .own ku8 A34 k35 x28.index, sl .ro ku8 A36 k37 x28.last, sl .ro ku8 A12 k13 x11.Key, sl .ro ku8 A14 k15 x11.Value, blk b17 [.slice A12 x11.Key.length k13, .int .u64 x11.Seq, .bool x11.Del, .slice A14 x11.Value.length k15]]) [0, 0, 0, 0, 0, 2, 2, 2] rfl) H
  · refine cdF T rfl h18 ?_
    refine Gets.skip ?_
    exact J0_ok F r z b2 x11 A12 k13 A14 k15 b17 x16 A3 x1.out k4 A5 x1.body k6 A7 x1.index k8 x1.many x1.blocks A9 x1.last k10 _ _ (T.sub ⟨rfl, rfl, trivial⟩) (S.only (p := [blk b2 [.slice A3 x1.out.length k4, .slice A5 x1.body.length k6, .slice A7 x1.index.length k8, .int .i64 x1.many, .int .i64 x1.blocks, .slice A9 x1.last.length k10], sl .own ku8 A3 k4 x1.out, sl .ro ku8 A5 k6 x1.body, sl .own ku8 A7 k8 x1.index, sl .ro ku8 A9 k10 x1.last, sl .ro ku8 A12 k13 x11.Key, sl .ro ku8 A14 k15 x11.Value, blk b17 [.slice A12 x11.Key.length k13, .int .u64 x11.Seq, .bool x11.Del, .slice A14 x11.Value.length k15]]) [1, 1, 1, 1, 1, 1, 1, 0] rfl) H
end sstable_builder_add
end Go.Proofs.Ytghpokmkhlmgcaa

namespace Go.Proofs.Ytghpokmkhlmgcaa
open Go Go.Proofs.Ytghpokmkhlmgcaa.X
set_option linter.unusedVariables false
set_option linter.unusedSimpArgs false
set_option maxRecDepth 100000
set_option maxHeartbeats 4000000
/-! ### cormorant.bloom.Make$1: function 82 -/
namespace bloom_Make_c1
noncomputable def c0 : Code := match Try.f82.body with | some c => c | none => .skip
def R (F : List Atom) (b4 : Nat) (r : Bool × (List Int)) : Ending → World → Prop := fun e w' => ∃ (A9 : Option Addr), ∃ (k10 : Nat), e = .returned (.bool r.1) ∧ SL ([blk b4 [.slice A9 r.2.length k10], sl .own ku8 A9 k10 r.2] ++ F) w'
def f (x1 : Int) (x2 : Int) (x3 : List Int) : Option (Bool × (List Int)) := Ck (0 ≤ wr .i64 (1 + x1) ∧ wr .i64 (1 + x1) < (x3.length : Int)) (some (true, (x3.set (Int.toNat (wr .i64 (1 + x1))) (bOr .u8 (gi (0 : Int) x3 (wr .i64 (1 + x1))) x2))))
theorem ok (F : List Atom) (w : World) (x1 : Int) (x2 : Int) (x3 : List Int) {b4 : Nat} {A5 : Option Addr} {k6 : Nat} (S : SL ([blk b4 [.slice A5 x3.length k6], sl .own ku8 A5 k6 x3] ++ F) w) (r : Bool × (List Int)) (H : f x1 x2 x3 = some r) : Calls Try.prog 82 #[.int .i64 x1, .int .u8 x2, .pointer (some ⟨b4, 0, none⟩)] w (R F b4 r) := by
  refine enter (vs := [.int .i64 x1, .int .u8 x2, .pointer (some ⟨b4, 0, none⟩)]) Try.func82 rfl Try.ntmps82 (Nat.le_of_ble_eq_true rfl) fun a T => ?_
  refine Gets.seq ?_
  refine rg ?_
  refine r_pv T rfl rfl fun _ T => ?_
  refine Gets.seq ?_
  refine rg ?_
  refine r_ldB (ix := 0) T S rfl Try.isAgg24 rfl rfl rfl fun _ T => ?_
  refine r_pv T rfl rfl fun _ T => ?_
  refine r_pv T rfl rfl fun _ T => ?_
  obtain ⟨h7, H⟩ := ck H
  refine r_ia (ix := 1) T S rfl rfl rfl rfl Try.runUnderlying24 Try.sizeOf5 h7.1 h7.2 rfl fun _ T => ?_
  refine r_ldE (ix := 1) (i := wr .i64 (1 + x1)) (off := 0) (f := (Value.int .u8)) T S rfl Try.isAgg5 rfl (0 : Int) _ rfl rfl (Fld.all _) h7.1 h7.2 (fun h => h) rfl fun _ T => ?_
  refine r_pv T rfl rfl fun _ T => ?_
  refine r_pv T rfl rfl fun _ T => ?_
  refine r_ia (ix := 1) T S rfl rfl rfl rfl Try.runUnderlying24 Try.sizeOf5 h7.1 h7.2 rfl fun _ T => ?_
  refine r_stE (ix := 1) (i := wr .i64 (1 + x1)) (u := bOr .u8 (gi (0 : Int) x3 (wr .i64 (1 + x1))) x2) (l' := [blk b4 [.slice A5 x3.length k6], sl .own ku8 A5 k6 (x3.set (Int.toNat (wr .i64 (1 + x1))) (bOr .u8 (gi (0 : Int) x3 (wr .i64 (1 + x1))) x2))]) T S rfl rfl rfl rfl (fun _ => rfl) Try.sizeOf5 h7.1 h7.2 rfl fun _ S => ?_
  refine Gets.seq ?_
  refine rg ?_
  refine r_pv T rfl rfl fun _ T => ?_
  replace S : SL ([blk b4 [.slice A5 ((x3.set (Int.toNat (wr .i64 (1 + x1))) (bOr .u8 (gi (0 : Int) x3 (wr .i64 (1 + x1))) x2)).length) k6], sl .own ku8 A5 k6 (x3.set (Int.toNat (wr .i64 (1 + x1))) (bOr .u8 (gi (0 : Int) x3 (wr .i64 (1 + x1))) x2))] ++ F) _ := S.reB (i := 0) rfl (by simp) rfl
  replace H := Option.some.inj H
  subst H
  exact rtn T Try.func82 rfl rfl ⟨A5, k6, rfl, (S.only (p := [blk b4 [.slice A5 ((x3.set (Int.toNat (wr .i64 (1 + x1))) (bOr .u8 (gi (0 : Int) x3 (wr .i64 (1 + x1))) x2)).length) k6], sl .own ku8 A5 k6 (x3.set (Int.toNat (wr .i64 (1 + x1))) (bOr .u8 (gi (0 : Int) x3 (wr .i64 (1 + x1))) x2))]) [0, 0] rfl)⟩
end bloom_Make_c1
end Go.Proofs.Ytghpokmkhlmgcaa

namespace Go.Proofs.Ytghpokmkhlmgcaa
open Go Go.Proofs.Ytghpokmkhlmgcaa.X
set_option linter.unusedVariables false
set_option linter.unusedSimpArgs false
set_option maxRecDepth 100000
set_option maxHeartbeats 4000000
/-! ### cormorant.bloom.each: function 66 -/
namespace bloom_each_at82
noncomputable def c0 : Code := match Try.f66.body with | some c => c | none => .skip
def R (F : List Atom) (x1 : List Int) (A2 : Option Addr) (k3 : Nat) (m4 : Md) (b8 : Nat) (r : Bool × (List Int)) : Ending → World → Prop := fun e w' => ∃ (A30 : Option Addr), ∃ (k31 : Nat), e = .returned (.bool r.1) ∧ SL ([sl m4 ku8 A2 k3 x1, blk b8 [.slice A30 r.2.length k31], sl .own ku8 A30 k31 r.2] ++ F) w'
def L0 (z : Nat) (x5 : Int) (x6 : Int) (x14 : Int) : Nat → Int → Int → (List Int) → Option (Bool × (List Int))
  | 0, _, _, _ => none
  | m + 1, x18, x19, x15 => If (decide (x19 < x5)) (Ck (x6 ≠ 0) (Ck (0 ≤ Int.tmod (Int.tmod x18 x6) 8) (Bd (bloom_Make_c1.f (wr .i64 (wr .u64 (Int.tdiv (Int.tmod x18 x6) 8))) (sShl .u8 1 (Int.tmod (Int.tmod x18 x6) 8)) x15) fun x24 => If (!x24.1) (some (false, x24.2)) (L0 z x5 x6 x14 m (wr .u64 (x18 + (bOr .u64 x14 1))) (wr .i64 (x19 + 1)) x24.2)))) (some (true, x15))
def f (z : Nat) (x1 : List Int) (x5 : Int) (x6 : Int) (x7 : List Int) : Option (Bool × (List Int)) := Bd (bloom_Hash.f z x1) fun x12 => Bd (bits_RotateLeft64.f x12 31) fun x14 => L0 z x5 x6 x14 z x12 0 x7
noncomputable def ptL0 : List Item := [.code (cB (cB (cR (cL (cR (cR (cR c0))))))), .inLoop (cB (cB (cR (cL (cR (cR (cR c0))))))), .inBlock 0, .code (cR (cR (cR (cR c0))))]
theorem L0_ok (F : List Atom) (r : Bool × (List Int)) (z : Nat) (x1 : List Int) (A2 : Option Addr) (k3 : Nat) (m4 : Md) (b8 : Nat) (x6 : Int) (x14 : Int) (x5 : Int) (m : Nat) : ∀ (x18 : Int) (x19 : Int) (A16 : Option Addr) (x15 : List Int) (k17 : Nat) (a : Act) (w : World), Tm 36 [(2, .int .u64 x6), (3, .func (.func 82) #[] #[.pointer (some ⟨b8, 0, none⟩)]), (9, .int .u64 x18), (10, .int .u64 (bOr .u64 x14 1)), (17, .int .i64 x5), (18, .int .i64 x19)] a → SL ([sl m4 ku8 A2 k3 x1, blk b8 [.slice A16 x15.length k17], sl .own ku8 A16 k17 x15] ++ F) w → L0 z x5 x6 x14 m x18 x19 x15 = some r → Gets Try.prog 66 ptL0 a w (R F x1 A2 k3 m4 b8 r) := by
  induction m with
  | zero => intro _ _ _ _ _ _ _ _ _ H; cases H
  | succ m ih =>
    intro x18 x19 A16 x15 k17 a w T S H
    refine Gets.seq ?_
    refine rg ?_
    refine r_pv T rfl rfl fun _ T => ?_
    refine Gets.seq ?_
    rcases ifE H with ⟨h20, H⟩ | ⟨h20, H⟩
    · refine cdT T rfl h20 ?_
      refine Gets.skip (Gets.seq (Gets.block (Gets.seq ?_)))
      refine rg ?_
      refine r_pv T rfl rfl fun _ T => ?_
      refine r_pv T rfl rfl fun _ T => ?_
      obtain ⟨h21, H⟩ := ck H
      refine r_rem T rfl rfl h21 rfl fun _ T => ?_
      refine r_pv T rfl rfl fun _ T => ?_
      refine Gets.seq (Gets.seq ?_)
      refine rg ?_
      refine r_pv T rfl rfl fun _ T => ?_
      refine r_pv T rfl rfl fun _ T => ?_
      refine r_quo T rfl rfl (by decide) rfl fun _ T => ?_
      refine r_conv T rfl Try.runUnderlying34 Try.runUnderlying3 rfl fun _ T => ?_
      refine r_pv T rfl rfl fun _ T => ?_
      refine r_rem T rfl rfl (by decide) rfl fun _ T => ?_
      obtain ⟨h22, H⟩ := ck H
      refine r_shl T rfl rfl h22 rfl fun _ T => ?_
      obtain ⟨x24, h23, H⟩ := bd H
      refine r_callF T rfl Try.call82 rfl rfl (bloom_Make_c1.ok _ _ (wr .i64 (wr .u64 (Int.tdiv (Int.tmod x18 x6) 8))) (sShl .u8 1 (Int.tmod (Int.tmod x18 x6) 8)) x15 (S.sel (p := [blk b8 [.slice A16 x15.length k17], sl .own ku8 A16 k17 x15]) (is := [1, 1]) rfl) _ h23) ?_
      rintro _ _ ⟨A26, k27, rfl, S⟩
      refine ⟨_, rfl, fun _ T => ?_⟩
      replace S : SL ([blk b8 [.slice A26 x24.2.length k27], sl .own ku8 A26 k27 x24.2, sl m4 ku8 A2 k3 x1] ++ F) _ := S.join
      refine r_pv T rfl rfl fun _ T => ?_
      rcases ifE H with ⟨h28, H⟩ | ⟨h28, H⟩
      · refine cdT T rfl h28 ?_
        refine Gets.seq ?_
        refine rg ?_
        refine r_pv T rfl rfl fun _ T => ?_
        replace H := Option.some.inj H
        subst H
        exact rtn T Try.func66 rfl rfl ⟨A26, k27, rfl, (S.only (p := [sl m4 ku8 A2 k3 x1, blk b8 [.slice A26 x24.2.length k27], sl .own ku8 A26 k27 x24.2]) [2, 0, 0] rfl)⟩
      · refine cdF T rfl h28 ?_
        refine Gets.skip ?_
        refine rg ?_
        refine r_pv T rfl rfl fun _ T => ?_
        refine r_pv T rfl rfl fun _ T => ?_
        refine r_pv T rfl rfl fun _ T => ?_
        refine r_pv T rfl rfl fun _ T => ?_
        refine Gets.inBlock ?_
        refine rg ?_
        refine r_pv T rfl rfl fun _ T => ?_
        refine r_pv T rfl rfl fun _ T => ?_
        refine Gets.inLoop ?_
        exact ih (wr .u64 (x18 + (bOr .u64 x14 1))) (wr .i64 (x19 + 1)) A26 x24.2 k27 _ _ (T.sub ⟨rfl, rfl, rfl, rfl, rfl, rfl, trivial⟩) (S.only (p := [sl m4 ku8 A2 k3 x1, blk b8 [.slice A26 x24.2.length k27], sl .own ku8 A26 k27 x24.2]) [2, 0, 0] rfl) H
    · refine cdF T rfl h20 ?_
      refine Gets.exit rfl (Gets.seq ?_)
      refine rg ?_
      refine r_pv T rfl rfl fun _ T => ?_
      replace H := Option.some.inj H
      subst H
      exact rtn T Try.func66 rfl rfl ⟨A16, k17, rfl, (S.only (p := [sl m4 ku8 A2 k3 x1, blk b8 [.slice A16 x15.length k17], sl .own ku8 A16 k17 x15]) [0, 0, 0] rfl)⟩
theorem ok (F : List Atom) (w : World) (z : Nat) (x1 : List Int) (x5 : Int) (x6 : Int) (x7 : List Int) {A2 : Option Addr} {k3 : Nat} {m4 : Md} {b8 : Nat} {A9 : Option Addr} {k10 : Nat} (S : SL ([sl m4 ku8 A2 k3 x1, blk b8 [.slice A9 x7.length k10], sl .own ku8 A9 k10 x7] ++ F) w) (r : Bool × (List Int)) (H : f z x1 x5 x6 x7 = some r) : Calls Try.prog 66 #[.slice A2 x1.length k3, .int .i64 x5, .int .u64 x6, .func (.func 82) #[] #[.pointer (some ⟨b8, 0, none⟩)]] w (R F x1 A2 k3 m4 b8 r) := by
  refine enter (vs := [.slice A2 x1.length k3, .int .i64 x5, .int .u64 x6, .func (.func 82) #[] #[.pointer (some ⟨b8, 0, none⟩)]]) Try.func66 rfl Try.ntmps66 (Nat.le_of_ble_eq_true rfl) fun a T => ?_
  refine Gets.seq ?_
  refine rg ?_
  refine r_pv T rfl rfl fun _ T => ?_
  refine Gets.seq ?_
  refine rg ?_
  refine r_pv T rfl rfl fun _ T => ?_
  obtain ⟨x12, h11, H⟩ := bd H
  refine r_call T Try.call87 rfl rfl (bloom_Hash.ok _ _ z x1 (S.sel (p := [sl m4 ku8 A2 k3 x1]) (is := [0]) rfl) _ h11) ?_
  rintro _ _ ⟨rfl, S⟩
  refine ⟨_, rfl, fun _ T => ?_⟩
  replace S : SL ([sl m4 ku8 A2 k3 x1, blk b8 [.slice A9 x7.length k10], sl .own ku8 A9 k10 x7] ++ F) _ := S.join
  refine r_pv T rfl rfl fun _ T => ?_
  refine Gets.seq ?_
  refine rg ?_
  refine r_pv T rfl rfl fun _ T => ?_
  obtain ⟨x14, h13, H⟩ := bd H
  refine r_call T Try.call88 rfl rfl (bits_RotateLeft64.ok _ _ x12 31 (S.sel (p := []) (is := []) rfl) _ h13) ?_
  rintro _ _ ⟨rfl, S⟩
  refine ⟨_, rfl, fun _ T => ?_⟩
  replace S : SL ([sl m4 ku8 A2 k3 x1, blk b8 [.slice A9 x7.length k10], sl .own ku8 A9 k10 x7] ++ F) _ := S.join
  refine r_pv T rfl rfl fun _ T => ?_
  refine r_pv T rfl rfl fun _ T => ?_
  refine Gets.seq (Gets.seq ?_)
  refine rg ?_
  refine r_pv T rfl rfl fun _ T => ?_
  refine r_pv T rfl rfl fun _ T => ?_
  refine Gets.block ?_
  refine Gets.loop ?_
  exact L0_ok F r z x1 A2 k3 m4 b8 x6 x14 x5 z x12 0 A9 x7 k10 _ _ (T.sub ⟨rfl, rfl, rfl, rfl, rfl, rfl, trivial⟩) (S.only (p := [sl m4 ku8 A2 k3 x1, blk b8 [.slice A9 x7.length k10], sl .own ku8 A9 k10 x7]) [0, 0, 0] rfl) H
end bloom_each_at82
end Go.Proofs.Ytghpokmkhlmgcaa

namespace Go.Proofs.Ytghpokmkhlmgcaa
open Go Go.Proofs.Ytghpokmkhlmgcaa.X
set_option linter.unusedVariables false
set_option linter.unusedSimpArgs false
set_option maxRecDepth 100000
set_option maxHeartbeats 4000000
/-! ### cormorant.bloom.Make: function 57 -/
namespace bloom_Make
noncomputable def c0 : Code := match Try.f57.body with | some c => c | none => .skip
def R (F : List Atom) (x1 : List (List Int)) (A2 : Option Addr) (k3 : Nat) (m4 : Md) (r : (List Int) × Int) : Ending → World → Prop := fun e w' => ∃ (A26 : Option Addr), ∃ (k27 : Nat), e = .returned (.tuple #[.slice A26 r.1.length k27, .int .i64 r.2]) ∧ SL ([sl .own ku8 A26 k27 r.1, sl m4 (kSl ku8) A2 k3 x1] ++ F) w'
def L1 (z : Nat) (x1 : List (List Int)) (x5 : Int) : Nat → Int → (List Int) → Option ((List Int) × Int)
  | 0, _, _ => none
  | m + 1, x16, x13 => If (decide (x16 < (x1.length : Int))) (Ck (0 ≤ x16 ∧ x16 < (x1.length : Int)) (Bd (bloom_each_at82.f z (gi [] x1 x16) (mx 1 (wr .i64 (Int.tdiv (wr .i64 (x5 * 69)) 100))) (wr .u64 (wr .i64 ((mx 1 (wr .i64 (Int.tdiv (wr .i64 ((wr .i64 ((x1.length : Int) * x5)) + 63)) 64))) * 64))) x13) fun x22 => L1 z x1 x5 m (wr .i64 (x16 + 1)) x22.2)) (some (x13, 0))
def J0 (z : Nat) : Option ((List Int) × Int) := some (([] : List Int), 1)
def f (z : Nat) (x1 : List (List Int)) (x5 : Int) : Option ((List Int) × Int) := If (decide (x5 < 1)) (J0 z) (If (decide (x5 > 30)) (J0 z) (If (decide ((x1.length : Int) > 65536)) (J0 z) (Ck (0 ≤ wr .i64 (1 + (wr .i64 (Int.tdiv (wr .i64 ((mx 1 (wr .i64 (Int.tdiv (wr .i64 ((wr .i64 ((x1.length : Int) * x5)) + 63)) 64))) * 64)) 8))) ∧ wr .i64 (1 + (wr .i64 (Int.tdiv (wr .i64 ((mx 1 (wr .i64 (Int.tdiv (wr .i64 ((wr .i64 ((x1.length : Int) * x5)) + 63)) 64))) * 64)) 8))) ≤ wr .i64 (1 + (wr .i64 (Int.tdiv (wr .i64 ((mx 1 (wr .i64 (Int.tdiv (wr .i64 ((wr .i64 ((x1.length : Int) * x5)) + 63)) 64))) * 64)) 8))) ∧ 1 * (wr .i64 (1 + (wr .i64 (Int.tdiv (wr .i64 ((mx 1 (wr .i64 (Int.tdiv (wr .i64 ((wr .i64 ((x1.length : Int) * x5)) + 63)) 64))) * 64)) 8)))) ≤ 281474976710656) (Ck (0 < ((List.replicate (Int.toNat (wr .i64 (1 + (wr .i64 (Int.tdiv (wr .i64 ((mx 1 (wr .i64 (Int.tdiv (wr .i64 ((wr .i64 ((x1.length : Int) * x5)) + 63)) 64))) * 64)) 8))))) (0 : Int)).length : Int)) (L1 z x1 x5 z 0 ((List.replicate (Int.toNat (wr .i64 (1 + (wr .i64 (Int.tdiv (wr .i64 ((mx 1 (wr .i64 (Int.tdiv (wr .i64 ((wr .i64 ((x1.length : Int) * x5)) + 63)) 64))) * 64)) 8))))) (0 : Int)).set (Int.toNat 0) (wr .u8 (mx 1 (wr .i64 (Int.tdiv (wr .i64 (x5 * 69)) 100))))))))))
noncomputable def ptL1 : List Item := [.code (cB (cB (cR (cL (cR (cR (cR (cR (cR (cR c0)))))))))), .inLoop (cB (cB (cR (cL (cR (cR (cR (cR (cR (cR c0)))))))))), .inBlock 0, .code (cR (cR (cR (cR (cR (cR (cR c0)))))))]
noncomputable def ptJ0 : List Item := [.code (cL (cT (cR (cL (cR c0))))), .code (cR (cT (cR (cL (cR c0))))), .code (cR (cR c0))]
theorem L1_ok (F : List Atom) (r : (List Int) × Int) (z : Nat) (x1 : List (List Int)) (A2 : Option Addr) (k3 : Nat) (m4 : Md) (x5 : Int) (b11 : Nat) (m : Nat) : ∀ (x16 : Int) (A14 : Option Addr) (x13 : List Int) (k15 : Nat) (a : Act) (w : World), Tm 56 [(6, .int .i64 (wr .i64 ((mx 1 (wr .i64 (Int.tdiv (wr .i64 ((wr .i64 ((x1.length : Int) * x5)) + 63)) 64))) * 64))), (7, .int .i64 (mx 1 (wr .i64 (Int.tdiv (wr .i64 (x5 * 69)) 100)))), (8, .pointer (some ⟨b11, 0, none⟩)), (42, .slice A2 x1.length k3), (43, .int .i64 (x1.length : Int)), (44, .int .i64 x16)] a → SL ([sl m4 (kSl ku8) A2 k3 x1, blk b11 [.slice A14 x13.length k15], sl .own ku8 A14 k15 x13] ++ F) w → L1 z x1 x5 m x16 x13 = some r → Gets Try.prog 57 ptL1 a w (R F x1 A2 k3 m4 r) := by
  induction m with
  | zero => intro _ _ _ _ _ _ _ _ H; cases H
  | succ m ih =>
    intro x16 A14 x13 k15 a w T S H
    refine Gets.seq ?_
    refine rg ?_
    refine r_pv T rfl rfl fun _ T => ?_
    refine Gets.seq ?_
    rcases ifE H with ⟨h17, H⟩ | ⟨h17, H⟩
    · refine cdT T rfl h17 ?_
      refine Gets.skip (Gets.seq (Gets.block (Gets.seq ?_)))
      refine rg ?_
      obtain ⟨h18, H⟩ := ck H
      refine r_ia (ix := 0) T S rfl rfl rfl rfl Try.runUnderlying62 Try.sizeOf24 h18.1 h18.2 rfl fun _ T => ?_
      refine r_ldR (ix := 0) (i := x16) (off := 0) T S rfl Try.isAgg24 rfl [] _ rfl rfl (Fld.all _) h18.1 h18.2 rfl rfl fun _ _ S T => ?_
      obtain ⟨A19, k20, hv_, S_⟩ := S.ofVal
      subst hv_
      replace S := S_
      refine r_pv T rfl rfl fun _ T => ?_
      refine rg ?_
      refine r_pv T rfl rfl fun _ T => ?_
      refine r_pv T rfl rfl fun _ T => ?_
      refine r_pv T rfl rfl fun _ T => ?_
      refine r_conv T rfl Try.runUnderlying3 Try.runUnderlying34 rfl fun _ T => ?_
      refine r_pv T rfl rfl fun _ T => ?_
      obtain ⟨x22, h21, H⟩ := bd H
      refine r_call T Try.call66 rfl rfl (bloom_each_at82.ok _ _ z (gi [] x1 x16) (mx 1 (wr .i64 (Int.tdiv (wr .i64 (x5 * 69)) 100))) (wr .u64 (wr .i64 ((mx 1 (wr .i64 (Int.tdiv (wr .i64 ((wr .i64 ((x1.length : Int) * x5)) + 63)) 64))) * 64))) x13 (S.sel (p := [sl .ro ku8 A19 k20 (gi [] x1 x16), blk b11 [.slice A14 x13.length k15], sl .own ku8 A14 k15 x13]) (is := [0, 1, 1]) rfl) _ h21) ?_
      rintro _ _ ⟨A24, k25, rfl, S⟩
      refine ⟨_, rfl, fun _ T => ?_⟩
      replace S : SL ([sl .ro ku8 A19 k20 (gi [] x1 x16), blk b11 [.slice A24 x22.2.length k25], sl .own ku8 A24 k25 x22.2, sl m4 (kSl ku8) A2 k3 x1] ++ F) _ := S.join
      refine Gets.inBlock ?_
      refine rg ?_
      refine r_pv T rfl rfl fun _ T => ?_
      refine r_pv T rfl rfl fun _ T => ?_
      refine Gets.inLoop ?_
      exact ih (wr .i64 (x16 + 1)) A24 x22.2 k25 _ _ (T.sub ⟨rfl, rfl, rfl, rfl, rfl, rfl, trivial⟩) (S.only (p := [sl m4 (kSl ku8) A2 k3 x1, blk b11 [.slice A24 x22.2.length k25], sl .own ku8 A24 k25 x22.2]) [3, 1, 1] rfl) H
    · refine cdF T rfl h17 ?_
      refine Gets.exit rfl (Gets.seq ?_)
      refine rg ?_
      refine r_ldB (ix := 1) T S rfl Try.isAgg24 rfl rfl rfl fun _ T => ?_
      refine r_pv T rfl rfl fun _ T => ?_
      refine r_pv T rfl rfl fun _ T => ?_
      replace H := Option.some.inj H
      subst H
      exact rtn T Try.func57 rfl rfl ⟨A14, k15, rfl, (S.only (p := [sl .own ku8 A14 k15 x13, sl m4 (kSl ku8) A2 k3 x1]) [2, 0] rfl)⟩
theorem J0_ok (F : List Atom) (r : (List Int) × Int) (z : Nat) (x1 : List (List Int)) (A2 : Option Addr) (k3 : Nat) (m4 : Md) (x5 : Int) (a : Act) (w : World) (T : Tm 56 [] a) (S : SL ([sl m4 (kSl ku8) A2 k3 x1] ++ F) w) (H : J0 z = some r) : Gets Try.prog 57 ptJ0 a w (R F x1 A2 k3 m4 r) := by
  refine rg ?_
  refine r_pv T rfl rfl fun _ T => ?_
  refine r_pv T rfl rfl fun _ T => ?_
  replace S := S.nil ku8 .own
  replace H := Option.some.inj H
  subst H
  exact rtn T Try.func57 rfl rfl ⟨none, 0, rfl, (S.only (p := [sl .own ku8 none 0 ([] : List Int), sl m4 (kSl ku8) A2 k3 x1]) [0, 0] rfl)⟩
theorem ok (F : List Atom) (w : World) (z : Nat) (x1 : List (List Int)) (x5 : Int) {A2 : Option Addr} {k3 : Nat} {m4 : Md} (S : SL ([sl m4 (kSl ku8) A2 k3 x1] ++ F) w) (r : (List Int) × Int) (H : f z x1 x5 = some r) : Calls Try.prog 57 #[.slice A2 x1.length k3, .int .i64 x5] w (R F x1 A2 k3 m4 r) := by
  refine enter (vs := [.slice A2 x1.length k3, .int .i64 x5]) Try.func57 rfl Try.ntmps57 (Nat.le_of_ble_eq_true rfl) fun a T => ?_
  refine Gets.seq ?_
  refine rg ?_
  refine r_pv T rfl rfl fun _ T => ?_
  refine r_pv T rfl rfl fun _ T => ?_
  refine Gets.seq (Gets.seq ?_)
  refine rg ?_
  refine r_pv T rfl rfl fun _ T => ?_
  refine r_pv T rfl rfl fun _ T => ?_
  refine r_pv T rfl rfl fun _ T => ?_
  rcases ifE H with ⟨h6, H⟩ | ⟨h6, H⟩
  · refine g_no T rfl rfl h6 rfl fun _ T => ?_
    refine g_no T rfl rfl h6 rfl fun _ T => ?_
    refine r_pickT T rfl h6 rfl rfl fun _ T => ?_
    refine r_pv T rfl rfl fun _ T => ?_
    refine g_no T rfl rfl rfl rfl fun _ T => ?_
    refine g_no T rfl rfl rfl rfl fun _ T => ?_
    refine g_no T rfl rfl rfl rfl fun _ T => ?_
    refine r_pickT T rfl rfl rfl rfl fun _ T => ?_
    refine cdT T rfl rfl ?_
    refine Gets.seq ?_
    exact J0_ok F r z x1 A2 k3 m4 x5 _ _ (T.sub trivial) (S.only (p := [sl m4 (kSl ku8) A2 k3 x1]) [0] rfl) H
  · refine g_yes T rfl rfl h6 ?_
    refine r_pv T rfl rfl fun _ T => ?_
    refine g_yes T rfl rfl h6 ?_
    refine r_pv T rfl rfl fun _ T => ?_
    refine r_pickF T rfl h6 rfl rfl fun _ T => ?_
    refine r_pv T rfl rfl fun _ T => ?_
    rcases ifE H with ⟨h7, H⟩ | ⟨h7, H⟩
    · refine g_no T rfl rfl h7 rfl fun _ T => ?_
      refine g_no T rfl rfl h7 rfl fun _ T => ?_
      refine g_no T rfl rfl h7 rfl fun _ T => ?_
      refine r_pickT T rfl h7 rfl rfl fun _ T => ?_
      refine cdT T rfl rfl ?_
      refine Gets.seq ?_
      exact J0_ok F r z x1 A2 k3 m4 x5 _ _ (T.sub trivial) (S.only (p := [sl m4 (kSl ku8) A2 k3 x1]) [0] rfl) H
    · refine g_yes T rfl rfl h7 ?_
      refine r_pv T rfl rfl fun _ T => ?_
      refine g_yes T rfl rfl h7 ?_
      refine r_lenS T rfl Try.runUnderlying62 rfl fun _ T => ?_
      refine g_yes T rfl rfl h7 ?_
      refine r_pv T rfl rfl fun _ T => ?_
      refine r_pickF T rfl h7 rfl rfl fun _ T => ?_
      rcases ifE H with ⟨h8, H⟩ | ⟨h8, H⟩
      · refine cdT T rfl h8 ?_
        refine Gets.seq ?_
        exact J0_ok F r z x1 A2 k3 m4 x5 _ _ (T.sub trivial) (S.only (p := [sl m4 (kSl ku8) A2 k3 x1]) [0] rfl) H
      · refine cdF T rfl h8 ?_
        refine Gets.skip (Gets.seq ?_)
        refine rg ?_
        refine r_pv T rfl rfl fun _ T => ?_
        refine r_lenS T rfl Try.runUnderlying62 rfl fun _ T => ?_
        refine r_pv T rfl rfl fun _ T => ?_
        refine r_pv T rfl rfl fun _ T => ?_
        refine r_pv T rfl rfl fun _ T => ?_
        refine r_quo T rfl rfl (by decide) rfl fun _ T => ?_
        refine r_max T rfl rfl rfl fun _ T => ?_
        refine r_pv T rfl rfl fun _ T => ?_
        refine r_pv T rfl rfl fun _ T => ?_
        refine Gets.seq ?_
        refine rg ?_
        refine r_pv T rfl rfl fun _ T => ?_
        refine r_pv T rfl rfl fun _ T => ?_
        refine r_quo T rfl rfl (by decide) rfl fun _ T => ?_
        refine r_max T rfl rfl rfl fun _ T => ?_
        refine r_pv T rfl rfl fun _ T => ?_
        refine Gets.seq ?_
        refine rg ?_
        refine r_pv T rfl rfl fun _ T => ?_
        refine r_quo T rfl rfl (by decide) rfl fun _ T => ?_
        refine r_pv T rfl rfl fun _ T => ?_
        obtain ⟨h9, H⟩ := ck H
        refine r_make (κ := ku8) T S rfl rfl sty24 (0 : Int) (fun _ => rfl) h9.1 (Int.le_refl _) (by decide) (by have := h9.2.2; omega) rfl fun _ _ b10 S T => ?_
        replace T := T.re (s := 37) (v' := .slice (some ⟨b10, 0, none⟩) (List.replicate (Int.toNat (wr .i64 (1 + (wr .i64 (Int.tdiv (wr .i64 ((mx 1 (wr .i64 (Int.tdiv (wr .i64 ((wr .i64 ((x1.length : Int) * x5)) + 63)) 64))) * 64)) 8))))) (0 : Int)).length (Int.toNat (wr .i64 (1 + (wr .i64 (Int.tdiv (wr .i64 ((mx 1 (wr .i64 (Int.tdiv (wr .i64 ((wr .i64 ((x1.length : Int) * x5)) + 63)) 64))) * 64)) 8)))))) rfl (by simp)
        refine r_alloc T S zv24 (cs := [.slice none 0 0]) rfl rfl fun _ _ b11 S T => ?_
        refine r_stB (ix := 0) (l' := [blk b11 [.slice (some ⟨b10, 0, none⟩) ((List.replicate (Int.toNat (wr .i64 (1 + (wr .i64 (Int.tdiv (wr .i64 ((mx 1 (wr .i64 (Int.tdiv (wr .i64 ((wr .i64 ((x1.length : Int) * x5)) + 63)) 64))) * 64)) 8))))) (0 : Int)).length) (Int.toNat (wr .i64 (1 + (wr .i64 (Int.tdiv (wr .i64 ((mx 1 (wr .i64 (Int.tdiv (wr .i64 ((wr .i64 ((x1.length : Int) * x5)) + 63)) 64))) * 64)) 8)))))], sl .own ku8 (some ⟨b10, 0, none⟩) (Int.toNat (wr .i64 (1 + (wr .i64 (Int.tdiv (wr .i64 ((mx 1 (wr .i64 (Int.tdiv (wr .i64 ((wr .i64 ((x1.length : Int) * x5)) + 63)) 64))) * 64)) 8))))) (List.replicate (Int.toNat (wr .i64 (1 + (wr .i64 (Int.tdiv (wr .i64 ((mx 1 (wr .i64 (Int.tdiv (wr .i64 ((wr .i64 ((x1.length : Int) * x5)) + 63)) 64))) * 64)) 8))))) (0 : Int)), sl m4 (kSl ku8) A2 k3 x1]) T S rfl rfl rfl Try.sizeOf24 rfl (Nat.le_of_ble_eq_true rfl) rfl fun _ S => ?_
        refine Gets.seq ?_
        refine rg ?_
        refine r_ldB (ix := 0) T S rfl Try.isAgg24 rfl rfl rfl fun _ T => ?_
        refine r_pv T rfl rfl fun _ T => ?_
        refine r_conv T rfl Try.runUnderlying3 Try.runUnderlying5 rfl fun _ T => ?_
        obtain ⟨h12, H⟩ := ck H
        refine r_ia (ix := 1) T S rfl rfl rfl rfl Try.runUnderlying24 Try.sizeOf5 (by decide) h12 rfl fun _ T => ?_
        refine r_stE (ix := 1) (i := 0) (u := wr .u8 (mx 1 (wr .i64 (Int.tdiv (wr .i64 (x5 * 69)) 100)))) (l' := [blk b11 [.slice (some ⟨b10, 0, none⟩) ((List.replicate (Int.toNat (wr .i64 (1 + (wr .i64 (Int.tdiv (wr .i64 ((mx 1 (wr .i64 (Int.tdiv (wr .i64 ((wr .i64 ((x1.length : Int) * x5)) + 63)) 64))) * 64)) 8))))) (0 : Int)).length) (Int.toNat (wr .i64 (1 + (wr .i64 (Int.tdiv (wr .i64 ((mx 1 (wr .i64 (Int.tdiv (wr .i64 ((wr .i64 ((x1.length : Int) * x5)) + 63)) 64))) * 64)) 8)))))], sl .own ku8 (some ⟨b10, 0, none⟩) (Int.toNat (wr .i64 (1 + (wr .i64 (Int.tdiv (wr .i64 ((mx 1 (wr .i64 (Int.tdiv (wr .i64 ((wr .i64 ((x1.length : Int) * x5)) + 63)) 64))) * 64)) 8))))) ((List.replicate (Int.toNat (wr .i64 (1 + (wr .i64 (Int.tdiv (wr .i64 ((mx 1 (wr .i64 (Int.tdiv (wr .i64 ((wr .i64 ((x1.length : Int) * x5)) + 63)) 64))) * 64)) 8))))) (0 : Int)).set (Int.toNat 0) (wr .u8 (mx 1 (wr .i64 (Int.tdiv (wr .i64 (x5 * 69)) 100))))), sl m4 (kSl ku8) A2 k3 x1]) T S rfl rfl rfl rfl (fun _ => rfl) Try.sizeOf5 (by decide) h12 rfl fun _ S => ?_
        refine Gets.seq (Gets.seq ?_)
        refine rg ?_
        refine r_pv T rfl rfl fun _ T => ?_
        refine r_lenS T rfl Try.runUnderlying62 rfl fun _ T => ?_
        refine r_pv T rfl rfl fun _ T => ?_
        refine Gets.block ?_
        refine Gets.loop ?_
        replace S : SL ([blk b11 [.slice (some ⟨b10, 0, none⟩) (((List.replicate (Int.toNat (wr .i64 (1 + (wr .i64 (Int.tdiv (wr .i64 ((mx 1 (wr .i64 (Int.tdiv (wr .i64 ((wr .i64 ((x1.length : Int) * x5)) + 63)) 64))) * 64)) 8))))) (0 : Int)).set (Int.toNat 0) (wr .u8 (mx 1 (wr .i64 (Int.tdiv (wr .i64 (x5 * 69)) 100))))).length) (Int.toNat (wr .i64 (1 + (wr .i64 (Int.tdiv (wr .i64 ((mx 1 (wr .i64 (Int.tdiv (wr .i64 ((wr .i64 ((x1.length : Int) * x5)) + 63)) 64))) * 64)) 8)))))], sl .own ku8 (some ⟨b10, 0, none⟩) (Int.toNat (wr .i64 (1 + (wr .i64 (Int.tdiv (wr .i64 ((mx 1 (wr .i64 (Int.tdiv (wr .i64 ((wr .i64 ((x1.length : Int) * x5)) + 63)) 64))) * 64)) 8))))) ((List.replicate (Int.toNat (wr .i64 (1 + (wr .i64 (Int.tdiv (wr .i64 ((mx 1 (wr .i64 (Int.tdiv (wr .i64 ((wr .i64 ((x1.length : Int) * x5)) + 63)) 64))) * 64)) 8))))) (0 : Int)).set (Int.toNat 0) (wr .u8 (mx 1 (wr .i64 (Int.tdiv (wr .i64 (x5 * 69)) 100))))), sl m4 (kSl ku8) A2 k3 x1] ++ F) _ := S.reB (i := 0) rfl (by simp) rfl
        exact L1_ok F r z x1 A2 k3 m4 x5 b11 z 0 (some ⟨b10, 0, none⟩) ((List.replicate (Int.toNat (wr .i64 (1 + (wr .i64 (Int.tdiv (wr .i64 ((mx 1 (wr .i64 (Int.tdiv (wr .i64 ((wr .i64 ((x1.length : Int) * x5)) + 63)) 64))) * 64)) 8))))) (0 : Int)).set (Int.toNat 0) (wr .u8 (mx 1 (wr .i64 (Int.tdiv (wr .i64 (x5 * 69)) 100))))) (Int.toNat (wr .i64 (1 + (wr .i64 (Int.tdiv (wr .i64 ((mx 1 (wr .i64 (Int.tdiv (wr .i64 ((wr .i64 ((x1.length : Int) * x5)) + 63)) 64))) * 64)) 8))))) _ _ (T.sub ⟨rfl, rfl, rfl, rfl, rfl, rfl, trivial⟩) (S.only (p := [sl m4 (kSl ku8) A2 k3 x1, blk b11 [.slice (some ⟨b10, 0, none⟩) (((List.replicate (Int.toNat (wr .i64 (1 + (wr .i64 (Int.tdiv (wr .i64 ((mx 1 (wr .i64 (Int.tdiv (wr .i64 ((wr .i64 ((x1.length : Int) * x5)) + 63)) 64))) * 64)) 8))))) (0 : Int)).set (Int.toNat 0) (wr .u8 (mx 1 (wr .i64 (Int.tdiv (wr .i64 (x5 * 69)) 100))))).length) (Int.toNat (wr .i64 (1 + (wr .i64 (Int.tdiv (wr .i64 ((mx 1 (wr .i64 (Int.tdiv (wr .i64 ((wr .i64 ((x1.length : Int) * x5)) + 63)) 64))) * 64)) 8)))))], sl .own ku8 (some ⟨b10, 0, none⟩) (Int.toNat (wr .i64 (1 + (wr .i64 (Int.tdiv (wr .i64 ((mx 1 (wr .i64 (Int.tdiv (wr .i64 ((wr .i64 ((x1.length : Int) * x5)) + 63)) 64))) * 64)) 8))))) ((List.replicate (Int.toNat (wr .i64 (1 + (wr .i64 (Int.tdiv (wr .i64 ((mx 1 (wr .i64 (Int.tdiv (wr .i64 ((wr .i64 ((x1.length : Int) * x5)) + 63)) 64))) * 64)) 8))))) (0 : Int)).set (Int.toNat 0) (wr .u8 (mx 1 (wr .i64 (Int.tdiv (wr .i64 (x5 * 69)) 100)))))]) [2, 0, 0] rfl) H
end bloom_Make
end Go.Proofs.Ytghpokmkhlmgcaa

namespace Go.Proofs.Ytghpokmkhlmgcaa
open Go Go.Proofs.Ytghpokmkhlmgcaa.X
set_option linter.unusedVariables false
set_option linter.unusedSimpArgs false
set_option maxRecDepth 100000
set_option maxHeartbeats 4000000
/-! ### cormorant.sstable.high: function 59 -/
namespace sstable_high
noncomputable def c0 : Code := match Try.f59.body with | some c => c | none => .skip
def R (F : List Atom) (r : (List Int)) : Ending → World → Prop := fun e w' => ∃ (A12 : Option Addr), ∃ (k13 : Nat), e = .returned (.slice A12 r.length k13) ∧ SL ([sl .own ku8 A12 k13 r] ++ F) w'
def L0 (z : Nat) (x1 : Int) (x2 : Int) : Nat → (List Int) → Int → Option (List Int)
  | 0, _, _ => none
  | m + 1, x5, x8 => If (decide (x8 < ((List.replicate (Int.toNat x2) (0 : Int)).length : Int))) (Ck (0 ≤ wr .i64 (8 * (wr .i64 ((wr .i64 (x2 - 1)) - x8)))) (Ck (0 ≤ x8 ∧ x8 < (x5.length : Int)) (L0 z x1 x2 m (x5.set (Int.toNat x8) (wr .u8 (sShr .i64 x1 (wr .i64 (8 * (wr .i64 ((wr .i64 (x2 - 1)) - x8))))))) (wr .i64 (x8 + 1))))) (some x5)
def f (z : Nat) (x1 : Int) (x2 : Int) : Option (List Int) := Ck (0 ≤ x2 ∧ x2 ≤ x2 ∧ 1 * x2 ≤ 281474976710656) (L0 z x1 x2 z (List.replicate (Int.toNat x2) (0 : Int)) 0)
noncomputable def ptL0 : List Item := [.code (cB (cB (cR (cL (cR (cR c0)))))), .inLoop (cB (cB (cR (cL (cR (cR c0)))))), .inBlock 0, .code (cR (cR (cR c0)))]
theorem L0_ok (F : List Atom) (r : (List Int)) (z : Nat) (x1 : Int) (x2 : Int) (m : Nat) : ∀ (A6 : Option Addr) (x5 : List Int) (k7 : Nat) (x8 : Int) (a : Act) (w : World), Tm 27 [(0, .int .i64 x1), (1, .int .i64 x2), (5, .slice A6 x5.length k7), (10, .int .i64 ((List.replicate (Int.toNat x2) (0 : Int)).length : Int)), (11, .int .i64 x8)] a → SL ([sl .own ku8 A6 k7 x5] ++ F) w → L0 z x1 x2 m x5 x8 = some r → Gets Try.prog 59 ptL0 a w (R F r) := by
  induction m with
  | zero => intro _ _ _ _ _ _ _ _ H; cases H
  | succ m ih =>
    intro A6 x5 k7 x8 a w T S H
    refine Gets.seq ?_
    refine rg ?_
    refine r_pv T rfl rfl fun _ T => ?_
    refine Gets.seq ?_
    rcases ifE H with ⟨h9, H⟩ | ⟨h9, H⟩
    · refine cdT T rfl h9 ?_
      refine Gets.skip (Gets.seq (Gets.block (Gets.seq ?_)))
      refine rg ?_
      refine r_pv T rfl rfl fun _ T => ?_
      refine r_pv T rfl rfl fun _ T => ?_
      refine rg ?_
      refine r_pv T rfl rfl fun _ T => ?_
      refine r_pv T rfl rfl fun _ T => ?_
      refine r_pv T rfl rfl fun _ T => ?_
      refine r_pv T rfl rfl fun _ T => ?_
      refine r_pv T rfl rfl fun _ T => ?_
      refine r_pv T rfl rfl fun _ T => ?_
      refine r_pv T rfl rfl fun _ T => ?_
      refine r_pv T rfl rfl fun _ T => ?_
      obtain ⟨h10, H⟩ := ck H
      refine r_shr T rfl rfl h10 rfl fun _ T => ?_
      refine r_conv T rfl Try.runUnderlying3 Try.runUnderlying5 rfl fun _ T => ?_
      obtain ⟨h11, H⟩ := ck H
      refine r_ia (ix := 0) T S rfl rfl rfl rfl Try.runUnderlying24 Try.sizeOf5 h11.1 h11.2 rfl fun _ T => ?_
      refine r_stE (ix := 0) (i := x8) (u := wr .u8 (sShr .i64 x1 (wr .i64 (8 * (wr .i64 ((wr .i64 (x2 - 1)) - x8)))))) (l' := [sl .own ku8 A6 k7 (x5.set (Int.toNat x8) (wr .u8 (sShr .i64 x1 (wr .i64 (8 * (wr .i64 ((wr .i64 (x2 - 1)) - x8)))))))]) T S rfl rfl rfl rfl (fun _ => rfl) Try.sizeOf5 h11.1 h11.2 rfl fun _ S => ?_
      refine Gets.inBlock ?_
      refine rg ?_
      refine r_pv T rfl rfl fun _ T => ?_
      refine r_pv T rfl rfl fun _ T => ?_
      refine Gets.inLoop ?_
      have T := T.re (s := 5) (v' := .slice A6 (x5.set (Int.toNat x8) (wr .u8 (sShr .i64 x1 (wr .i64 (8 * (wr .i64 ((wr .i64 (x2 - 1)) - x8))))))).length k7) rfl (by simp)
      exact ih A6 (x5.set (Int.toNat x8) (wr .u8 (sShr .i64 x1 (wr .i64 (8 * (wr .i64 ((wr .i64 (x2 - 1)) - x8))))))) k7 (wr .i64 (x8 + 1)) _ _ (T.sub ⟨rfl, rfl, rfl, rfl, rfl, trivial⟩) (S.only (p := [sl .own ku8 A6 k7 (x5.set (Int.toNat x8) (wr .u8 (sShr .i64 x1 (wr .i64 (8 * (wr .i64 ((wr .i64 (x2 - 1)) - x8)))))))]) [0] rfl) H
    · refine cdF T rfl h9 ?_
      refine Gets.exit rfl (Gets.seq ?_)
      refine rg ?_
      refine r_pv T rfl rfl fun _ T => ?_
      refine r_pv T rfl rfl fun _ T => ?_
      replace H := Option.some.inj H
      subst H
      exact rtn T Try.func59 rfl rfl ⟨A6, k7, rfl, (S.only (p := [sl .own ku8 A6 k7 x5]) [0] rfl)⟩
theorem ok (F : List Atom) (w : World) (z : Nat) (x1 : Int) (x2 : Int) (S : SL ([] ++ F) w) (r : (List Int)) (H : f z x1 x2 = some r) : Calls Try.prog 59 #[.int .i64 x1, .int .i64 x2] w (R F r) := by
  refine enter (vs := [.int .i64 x1, .int .i64 x2]) Try.func59 rfl Try.ntmps59 (Nat.le_of_ble_eq_true rfl) fun a T => ?_
  refine Gets.seq ?_
  refine rg ?_
  refine r_pv T rfl rfl fun _ T => ?_
  refine Gets.seq ?_
  refine rg ?_
  refine r_pv T rfl rfl fun _ T => ?_
  obtain ⟨h3, H⟩ := ck H
  refine r_make (κ := ku8) T S rfl rfl sty24 (0 : Int) (fun _ => rfl) h3.1 (Int.le_refl _) (by decide) (by have := h3.2.2; omega) rfl fun _ _ b4 S T => ?_
  replace T := T.re (s := 8) (v' := .slice (some ⟨b4, 0, none⟩) (List.replicate (Int.toNat x2) (0 : Int)).length (Int.toNat x2)) rfl (by simp)
  refine r_pv T rfl rfl fun _ T => ?_
  refine Gets.seq (Gets.seq ?_)
  refine rg ?_
  refine r_pv T rfl rfl fun _ T => ?_
  refine r_lenS T rfl Try.runUnderlying24 rfl fun _ T => ?_
  refine r_pv T rfl rfl fun _ T => ?_
  refine Gets.block ?_
  refine Gets.loop ?_
  exact L0_ok F r z x1 x2 z (some ⟨b4, 0, none⟩) (List.replicate (Int.toNat x2) (0 : Int)) (Int.toNat x2) 0 _ _ (T.sub ⟨rfl, rfl, rfl, rfl, rfl, trivial⟩) (S.only (p := [sl .own ku8 (some ⟨b4, 0, none⟩) (Int.toNat x2) (List.replicate (Int.toNat x2) (0 : Int))]) [0] rfl) H
end sstable_high
end Go.Proofs.Ytghpokmkhlmgcaa

namespace Go.Proofs.Ytghpokmkhlmgcaa
open Go Go.Proofs.Ytghpokmkhlmgcaa.X
set_option linter.unusedVariables false
set_option linter.unusedSimpArgs false
set_option maxRecDepth 100000
set_option maxHeartbeats 4000000
/-! ### cormorant.codec.Sum: function 60 -/
namespace codec_Sum
noncomputable def c0 : Code := match Try.f60.body with | some c => c | none => .skip
def R (F : List Atom) (x1 : List Int) (A2 : Option Addr) (k3 : Nat) (m4 : Md) (r : Int) : Ending → World → Prop := fun e w' => e = .returned (.int .u32 r) ∧ SL ([sl m4 ku8 A2 k3 x1] ++ F) w'
def f (z : Nat) (x1 : List Int) : Option Int := Bd (codec_register.f z 4294967295 x1) fun x6 => some (bNot .u32 x6)
theorem ok (F : List Atom) (w : World) (z : Nat) (x1 : List Int) {A2 : Option Addr} {k3 : Nat} {m4 : Md} (S : SL ([sl m4 ku8 A2 k3 x1] ++ F) w) (r : Int) (H : f z x1 = some r) : Calls Try.prog 60 #[.slice A2 x1.length k3] w (R F x1 A2 k3 m4 r) := by
  refine enter (vs := [.slice A2 x1.length k3]) Try.func60 rfl Try.ntmps60 (Nat.le_of_ble_eq_true rfl) fun a T => ?_
  refine Gets.seq ?_
  refine rg ?_
  refine r_pv T rfl rfl fun _ T => ?_
  refine Gets.seq ?_
  refine rg ?_
  refine r_pv T rfl rfl fun _ T => ?_
  obtain ⟨x6, h5, H⟩ := bd H
  refine r_call T Try.call84 rfl rfl (codec_register.ok _ _ z 4294967295 x1 (S.sel (p := [sl m4 ku8 A2 k3 x1]) (is := [0]) rfl) _ h5) ?_
  rintro _ _ ⟨rfl, S⟩
  refine ⟨_, rfl, fun _ T => ?_⟩
  replace S : SL ([sl m4 ku8 A2 k3 x1] ++ F) _ := S.join
  refine r_pv T rfl rfl fun _ T => ?_
  refine r_pv T rfl rfl fun _ T => ?_
  replace H := Option.some.inj H
  subst H
  exact rtn T Try.func60 rfl rfl ⟨rfl, (S.only (p := [sl m4 ku8 A2 k3 x1]) [0] rfl)⟩
end codec_Sum
end Go.Proofs.Ytghpokmkhlmgcaa

namespace Go.Proofs.Ytghpokmkhlmgcaa
open Go Go.Proofs.Ytghpokmkhlmgcaa.X
set_option linter.unusedVariables false
set_option linter.unusedSimpArgs false
set_option maxRecDepth 100000
set_option maxHeartbeats 4000000
/-! ### (*cormorant.sstable.builder).end: function 30 -/
namespace sstable_builder_end
noncomputable def c0 : Code := match Try.f30.body with | some c => c | none => .skip
def R (F : List Atom) (x12 : List (List Int)) (A13 : Option Addr) (k14 : Nat) (m15 : Md) (r : (List Int) × Int) : Ending → World → Prop := fun e w' => ∃ (A91 : Option Addr), ∃ (k92 : Nat), e = .returned (.tuple #[.slice A91 r.1.length k92, .int .i64 r.2]) ∧ SL ([sl .own ku8 A91 k92 r.1, sl m15 (kSl ku8) A13 k14 x12] ++ F) w'
def f (z : Nat) (x1 : sstable_builder) (x11 : Int) (x12 : List (List Int)) (x16 : Int) (x17 : Int) : Option ((List Int) × Int) := Bd (bloom_Make.f z x12 x17) fun x19 => Bd (sstable_builder_frame.f z x1 70 x19.1) fun x23 => Bd (codec_Number.f z (wr .u64 x23.blocks)) fun x34 => Ck ((x34.length + x23.index.length) * 1 ≤ 140737488355328) (If (decide (((x34 ++ x23.index).length : Int) > 2097152)) (some (([] : List Int), 43)) (Bd (sstable_builder_frame.f z x23 73 (x34 ++ x23.index)) fun x42 => Bd (sstable_high.f z (x1.out.length : Int) 8) fun x53 => Bd (sstable_high.f z (x23.out.length : Int) 8) fun x57 => Bd (sstable_high.f z x11 8) fun x61 => Bd (sstable_high.f z x16 4) fun x65 => Bd (sstable_high.f z x17 4) fun x69 => Bd (slices_Concat_byte.f z [x53, x57, x61, x65, x69, [67, 79, 82, 77]]) fun x75 => Bd (codec_Sum.f z x75) fun x79 => Ck ((x75.length + [wr .u8 x79, wr .u8 (sShr .u32 x79 8), wr .u8 (sShr .u32 x79 16), wr .u8 (sShr .u32 x79 24)].length) * 1 ≤ 140737488355328) (Ck ((x42.out.length + (x75 ++ [wr .u8 x79, wr .u8 (sShr .u32 x79 8), wr .u8 (sShr .u32 x79 16), wr .u8 (sShr .u32 x79 24)]).length) * 1 ≤ 140737488355328) (If (decide (((x42.out ++ (x75 ++ [wr .u8 x79, wr .u8 (sShr .u32 x79 8), wr .u8 (sShr .u32 x79 16), wr .u8 (sShr .u32 x79 24)])).length : Int) > 4194304)) (some (([] : List Int), 43)) (Bd (slices_Clip_byte.f (x42.out ++ (x75 ++ [wr .u8 x79, wr .u8 (sShr .u32 x79 8), wr .u8 (sShr .u32 x79 16), wr .u8 (sShr .u32 x79 24)]))) fun x89 => some (x89, 0))))))
theorem ok (F : List Atom) (w : World) (z : Nat) (x1 : sstable_builder) (x11 : Int) (x12 : List (List Int)) (x16 : Int) (x17 : Int) {b2 : Nat} {A3 : Option Addr} {k4 : Nat} {A5 : Option Addr} {k6 : Nat} {A7 : Option Addr} {k8 : Nat} {A9 : Option Addr} {k10 : Nat} {A13 : Option Addr} {k14 : Nat} {m15 : Md} (S : SL ([blk b2 [.slice A3 x1.out.length k4, .slice A5 x1.body.length k6, .slice A7 x1.index.length k8, .int .i64 x1.many, .int .i64 x1.blocks, .slice A9 x1.last.length k10], sl .own ku8 A3 k4 x1.out, sl .ro ku8 A5 k6 x1.body, sl .own ku8 A7 k8 x1.index, sl .ro ku8 A9 k10 x1.last, sl m15 (kSl ku8) A13 k14 x12] ++ F) w) (r : (List Int) × Int) (H : f z x1 x11 x12 x16 x17 = some r) : Calls Try.prog 30 #[.pointer (some ⟨b2, 0, none⟩), .int .i64 x11, .slice A13 x12.length k14, .int .i64 x16, .int .i64 x17] w (R F x12 A13 k14 m15 r) := by
  refine enter (vs := [.pointer (some ⟨b2, 0, none⟩), .int .i64 x11, .slice A13 x12.length k14, .int .i64 x16, .int .i64 x17]) Try.func30 rfl Try.ntmps30 (Nat.le_of_ble_eq_true rfl) fun a T => ?_
  refine Gets.seq ?_
  refine rg ?_
  refine r_pv T rfl rfl fun _ T => ?_
  refine r_pv T rfl rfl fun _ T => ?_
  refine Gets.seq ?_
  refine rg ?_
  refine r_pv T rfl rfl fun _ T => ?_
  refine r_pv T rfl rfl fun _ T => ?_
  refine r_fa (o' := 0) T rfl Try.runUnderlying61 rfl Try.sizeOf24 rfl rfl fun _ T => ?_
  refine r_ldB (ix := 0) T S rfl Try.isAgg24 rfl rfl rfl fun _ T => ?_
  refine r_lenS T rfl Try.runUnderlying24 rfl fun _ T => ?_
  refine r_pv T rfl rfl fun _ T => ?_
  refine Gets.seq ?_
  refine rg ?_
  refine r_pv T rfl rfl fun _ T => ?_
  refine r_pv T rfl rfl fun _ T => ?_
  obtain ⟨x19, h18, H⟩ := bd H
  refine r_call T Try.call57 rfl rfl (bloom_Make.ok _ _ z x12 x17 (S.sel (p := [sl m15 (kSl ku8) A13 k14 x12]) (is := [5]) rfl) _ h18) ?_
  rintro _ _ ⟨A20, k21, rfl, S⟩
  refine ⟨_, rfl, fun _ T => ?_⟩
  replace S : SL ([sl .own ku8 A20 k21 x19.1, sl m15 (kSl ku8) A13 k14 x12, blk b2 [.slice A3 x1.out.length k4, .slice A5 x1.body.length k6, .slice A7 x1.index.length k8, .int .i64 x1.many, .int .i64 x1.blocks, .slice A9 x1.last.length k10], sl .own ku8 A3 k4 x1.out, sl .ro ku8 A5 k6 x1.body, sl .own ku8 A7 k8 x1.index, sl .ro ku8 A9 k10 x1.last] ++ F) _ := S.join
  refine r_pv T rfl rfl fun _ T => ?_
  refine r_pv T rfl rfl fun _ T => ?_
  refine r_pv T rfl rfl fun _ T => ?_
  refine r_pv T rfl rfl fun _ T => ?_
  refine r_pv T rfl rfl fun _ T => ?_
  refine Gets.seq ?_
  refine rg ?_
  refine r_pv T rfl rfl fun _ T => ?_
  refine r_pv T rfl rfl fun _ T => ?_
  replace S : SL ([sl .ro ku8 A20 k21 x19.1, sl m15 (kSl ku8) A13 k14 x12, blk b2 [.slice A3 x1.out.length k4, .slice A5 x1.body.length k6, .slice A7 x1.index.length k8, .int .i64 x1.many, .int .i64 x1.blocks, .slice A9 x1.last.length k10], sl .own ku8 A3 k4 x1.out, sl .ro ku8 A5 k6 x1.body, sl .own ku8 A7 k8 x1.index, sl .ro ku8 A9 k10 x1.last] ++ F) _ := S.fixL (i := 0) rfl rfl
  obtain ⟨x23, h22, H⟩ := bd H
  refine r_call T Try.call54 rfl rfl (sstable_builder_frame.ok _ _ z x1 70 x19.1 (S.sel (p := [blk b2 [.slice A3 x1.out.length k4, .slice A5 x1.body.length k6, .slice A7 x1.index.length k8, .int .i64 x1.many, .int .i64 x1.blocks, .slice A9 x1.last.length k10], sl .own ku8 A3 k4 x1.out, sl .ro ku8 A5 k6 x1.body, sl .own ku8 A7 k8 x1.index, sl .ro ku8 A9 k10 x1.last, sl .ro ku8 A20 k21 x19.1]) (is := [2, 2, 2, 2, 2, 0]) rfl) _ h22) ?_
  rintro _ _ ⟨A25, k26, A27, k28, A29, k30, A31, k32, rfl, S⟩
  refine ⟨_, rfl, fun _ T => ?_⟩
  replace S : SL ([blk b2 [.slice A25 x23.out.length k26, .slice A27 x23.body.length k28, .slice A29 x23.index.length k30, .int .i64 x23.many, .int .i64 x23.blocks, .slice A31 x23.last.length k32], sl .own ku8 A25 k26 x23.out, sl .ro ku8 A27 k28 x23.body, sl .own ku8 A29 k30 x23.index, sl .ro ku8 A31 k32 x23.last, sl .ro ku8 A20 k21 x19.1, sl m15 (kSl ku8) A13 k14 x12] ++ F) _ := S.join
  refine Gets.seq ?_
  refine rg ?_
  refine r_pv T rfl rfl fun _ T => ?_
  refine r_pv T rfl rfl fun _ T => ?_
  refine r_fa (o' := 0) T rfl Try.runUnderlying61 rfl Try.sizeOf24 rfl rfl fun _ T => ?_
  refine r_ldB (ix := 0) T S rfl Try.isAgg24 rfl rfl rfl fun _ T => ?_
  refine r_lenS T rfl Try.runUnderlying24 rfl fun _ T => ?_
  refine r_pv T rfl rfl fun _ T => ?_
  refine Gets.seq ?_
  refine Gets.drawn (l := [blk b2 [.slice A25 x23.out.length k26, .slice A27 x23.body.length k28, .slice A29 x23.index.length k30, .int .i64 x23.many, .int .i64 x23.blocks, .slice A31 x23.last.length k32], sl .own ku8 A25 k26 x23.out, sl .ro ku8 A27 k28 x23.body, sl .own ku8 A29 k30 x23.index, sl .ro ku8 A31 k32 x23.last, sl .ro ku8 A20 k21 x19.1, sl m15 (kSl ku8) A13 k14 x12]) (V := [some (.pointer (some ⟨b2, 0, none⟩), true), some (.pointer (some ⟨b2, 0, none⟩), true), some (.pointer (some ⟨b2, 4, none⟩), true), some (.int .i64 x23.blocks, true), some (.int .u64 (wr .u64 x23.blocks), true), none, some (.pointer (some ⟨b2, 0, none⟩), true), some (.pointer (some ⟨b2, 0, none⟩), true), some (.pointer (some ⟨b2, 2, none⟩), true), some (.slice A29 x23.index.length k30, true), none, none]) mixed T S rfl ?_
  refine stage (some 5) rfl rfl ⟨⟨_, [(0, .pointer (some ⟨b2, 0, none⟩))], rfl, ⟨.inr ⟨rfl, rfl⟩, trivial⟩, fun u a w T S => (by refine r_pv T rfl rfl fun _ T => ?_; exact ⟨rfl, T⟩)⟩, ⟨_, [(38, .pointer (some ⟨b2, 0, none⟩))], rfl, ⟨.inl ⟨0, rfl, rfl, rfl, rfl⟩, trivial⟩, fun u a w T S => (by refine r_pv T rfl rfl fun _ T => ?_; exact ⟨rfl, T⟩)⟩, ⟨_, [(39, .pointer (some ⟨b2, 0, none⟩))], rfl, ⟨.inl ⟨1, rfl, rfl, rfl, rfl⟩, trivial⟩, fun u a w T S => (by refine r_fa (o' := 4) T rfl Try.runUnderlying61 rfl Try.sizeOf3 rfl rfl fun _ T => ?_; exact ⟨rfl, T⟩)⟩, ⟨_, [(40, .pointer (some ⟨b2, 4, none⟩))], rfl, ⟨.inl ⟨2, rfl, rfl, rfl, rfl⟩, trivial⟩, fun u a w T S => (by refine r_ldB (ix := 0) T S rfl Try.isAgg3 rfl rfl rfl fun _ T => ?_; exact ⟨rfl, T⟩)⟩, ⟨_, [(41, .int .i64 x23.blocks)], rfl, ⟨.inl ⟨3, rfl, rfl, rfl, rfl⟩, trivial⟩, fun u a w T S => (by refine r_conv T rfl Try.runUnderlying3 Try.runUnderlying34 rfl fun _ T => ?_; exact ⟨rfl, T⟩)⟩, ⟨_, [(0, .pointer (some ⟨b2, 0, none⟩))], rfl, ⟨.inr ⟨rfl, rfl⟩, trivial⟩, fun u a w T S => (by refine r_pv T rfl rfl fun _ T => ?_; exact ⟨rfl, T⟩)⟩, ⟨_, [(44, .pointer (some ⟨b2, 0, none⟩))], rfl, ⟨.inl ⟨6, rfl, rfl, rfl, rfl⟩, trivial⟩, fun u a w T S => (by refine r_pv T rfl rfl fun _ T => ?_; exact ⟨rfl, T⟩)⟩, ⟨_, [(45, .pointer (some ⟨b2, 0, none⟩))], rfl, ⟨.inl ⟨7, rfl, rfl, rfl, rfl⟩, trivial⟩, fun u a w T S => (by refine r_fa (o' := 2) T rfl Try.runUnderlying61 rfl Try.sizeOf24 rfl rfl fun _ T => ?_; exact ⟨rfl, T⟩)⟩, ⟨_, [(46, .pointer (some ⟨b2, 2, none⟩))], rfl, ⟨.inl ⟨8, rfl, rfl, rfl, rfl⟩, trivial⟩, fun u a w T S => (by refine r_ldB (ix := 0) T S rfl Try.isAgg24 rfl rfl rfl fun _ T => ?_; exact ⟨rfl, T⟩)⟩, trivial⟩ rfl (fun i hi => ?_) (fun h => by cases h)
  cases hi
  refine ⟨rfl, _, [(42, .int .u64 (wr .u64 x23.blocks))], rfl, ⟨.inl ⟨4, rfl, rfl, rfl, rfl⟩, trivial⟩, fun u a w T S => ?_⟩
  obtain ⟨x34, h33, H⟩ := bd H
  refine r_call T Try.call55 rfl rfl (codec_Number.ok _ _ z (wr .u64 x23.blocks) (S.sel (p := []) (is := []) rfl) _ h33) ?_
  rintro _ _ ⟨A35, k36, rfl, S⟩
  refine ⟨_, rfl, fun _ T => ?_⟩
  replace S : SL ([sl .own ku8 A35 k36 x34, blk b2 [.slice A25 x23.out.length k26, .slice A27 x23.body.length k28, .slice A29 x23.index.length k30, .int .i64 x23.many, .int .i64 x23.blocks, .slice A31 x23.last.length k32], sl .own ku8 A25 k26 x23.out, sl .ro ku8 A27 k28 x23.body, sl .own ku8 A29 k30 x23.index, sl .ro ku8 A31 k32 x23.last, sl .ro ku8 A20 k21 x19.1, sl m15 (kSl ku8) A13 k14 x12] ++ F) _ := S.join
  refine ⟨_, [some (.pointer (some ⟨b2, 0, none⟩), true), some (.pointer (some ⟨b2, 0, none⟩), true), some (.pointer (some ⟨b2, 4, none⟩), true), some (.int .i64 x23.blocks, true), some (.int .u64 (wr .u64 x23.blocks), false), some (.slice A35 x34.length k36, false), some (.pointer (some ⟨b2, 0, none⟩), true), some (.pointer (some ⟨b2, 0, none⟩), true), some (.pointer (some ⟨b2, 2, none⟩), true), some (.slice A29 x23.index.length k30, true), none, none], [sl .own ku8 A35 k36 x34, blk b2 [.slice A25 x23.out.length k26, .slice A27 x23.body.length k28, .slice A29 x23.index.length k30, .int .i64 x23.many, .int .i64 x23.blocks, .slice A31 x23.last.length k32], sl .own ku8 A25 k26 x23.out, sl .ro ku8 A27 k28 x23.body, sl .own ku8 A29 k30 x23.index, sl .ro ku8 A31 k32 x23.last, sl .ro ku8 A20 k21 x19.1, sl m15 (kSl ku8) A13 k14 x12], rfl, ⟨.inr ⟨_, _, _, rfl, rfl⟩, .inr ⟨_, _, _, rfl, rfl⟩, .inr ⟨_, _, _, rfl, rfl⟩, .inr ⟨_, _, _, rfl, rfl⟩, .inr ⟨_, _, _, rfl, rfl⟩, .inl rfl, .inr ⟨_, _, _, rfl, rfl⟩, .inr ⟨_, _, _, rfl, rfl⟩, .inr ⟨_, _, _, rfl, rfl⟩, .inr ⟨_, _, _, rfl, rfl⟩, .inl rfl, .inl rfl, trivial⟩, rfl, ?_, T, S⟩
  refine stage (some 10) rfl rfl ⟨⟨_, [(0, .pointer (some ⟨b2, 0, none⟩))], rfl, ⟨.inr ⟨rfl, rfl⟩, trivial⟩, fun u a w T S => (by refine r_pv T rfl rfl fun _ T => ?_; exact ⟨rfl, T⟩)⟩, ⟨_, [(38, .pointer (some ⟨b2, 0, none⟩))], rfl, ⟨.inl ⟨0, rfl, rfl, rfl, rfl⟩, trivial⟩, fun u a w T S => (by refine r_pv T rfl rfl fun _ T => ?_; exact ⟨rfl, T⟩)⟩, ⟨_, [(39, .pointer (some ⟨b2, 0, none⟩))], rfl, ⟨.inl ⟨1, rfl, rfl, rfl, rfl⟩, trivial⟩, fun u a w T S => (by refine r_fa (o' := 4) T rfl Try.runUnderlying61 rfl Try.sizeOf3 rfl rfl fun _ T => ?_; exact ⟨rfl, T⟩)⟩, ⟨_, [(40, .pointer (some ⟨b2, 4, none⟩))], rfl, ⟨.inl ⟨2, rfl, rfl, rfl, rfl⟩, trivial⟩, fun u a w T S => (by refine r_ldB (ix := 1) T S rfl Try.isAgg3 rfl rfl rfl fun _ T => ?_; exact ⟨rfl, T⟩)⟩, ⟨_, [(0, .pointer (some ⟨b2, 0, none⟩))], rfl, ⟨.inr ⟨rfl, rfl⟩, trivial⟩, fun u a w T S => (by refine r_pv T rfl rfl fun _ T => ?_; exact ⟨rfl, T⟩)⟩, ⟨_, [(44, .pointer (some ⟨b2, 0, none⟩))], rfl, ⟨.inl ⟨6, rfl, rfl, rfl, rfl⟩, trivial⟩, fun u a w T S => (by refine r_pv T rfl rfl fun _ T => ?_; exact ⟨rfl, T⟩)⟩, ⟨_, [(45, .pointer (some ⟨b2, 0, none⟩))], rfl, ⟨.inl ⟨7, rfl, rfl, rfl, rfl⟩, trivial⟩, fun u a w T S => (by refine r_fa (o' := 2) T rfl Try.runUnderlying61 rfl Try.sizeOf24 rfl rfl fun _ T => ?_; exact ⟨rfl, T⟩)⟩, ⟨_, [(46, .pointer (some ⟨b2, 2, none⟩))], rfl, ⟨.inl ⟨8, rfl, rfl, rfl, rfl⟩, trivial⟩, fun u a w T S => (by refine r_ldB (ix := 1) T S rfl Try.isAgg24 rfl rfl rfl fun _ T => ?_; exact ⟨rfl, T⟩)⟩, trivial⟩ rfl (fun i hi => ?_) (fun h => by cases h)
  cases hi
  refine ⟨rfl, _, [(43, .slice A35 x34.length k36), (47, .slice A29 x23.index.length k30)], rfl, ⟨.inl ⟨5, rfl, rfl, rfl, rfl⟩, .inl ⟨9, rfl, rfl, rfl, rfl⟩, trivial⟩, fun u a w T S => ?_⟩
  obtain ⟨h39, H⟩ := ck H
  refine r_app (ix := 0) (iy := 4) (xs := x34) (ys := x23.index) T S rfl rfl rfl rfl (by decide) sty24 Try.runUnderlying24 (by decide) h39 rfl fun _ _ A37 k38 S T => ?_
  replace S : SL ([sl .own ku8 A37 k38 (x34 ++ x23.index), blk b2 [.slice A25 x23.out.length k26, .slice A27 x23.body.length k28, .slice A29 x23.index.length k30, .int .i64 x23.many, .int .i64 x23.blocks, .slice A31 x23.last.length k32], sl .own ku8 A25 k26 x23.out, sl .ro ku8 A27 k28 x23.body, sl .own ku8 A29 k30 x23.index, sl .ro ku8 A31 k32 x23.last, sl .ro ku8 A20 k21 x19.1, sl m15 (kSl ku8) A13 k14 x12] ++ F) _ := S
  refine ⟨_, [some (.pointer (some ⟨b2, 0, none⟩), true), some (.pointer (some ⟨b2, 0, none⟩), true), some (.pointer (some ⟨b2, 4, none⟩), true), some (.int .i64 x23.blocks, true), some (.int .u64 (wr .u64 x23.blocks), false), some (.slice A35 x34.length k36, false), some (.pointer (some ⟨b2, 0, none⟩), true), some (.pointer (some ⟨b2, 0, none⟩), true), some (.pointer (some ⟨b2, 2, none⟩), true), some (.slice A29 x23.index.length k30, false), some (.slice A37 ((x34 ++ x23.index).length) k38, false), some (.slice A37 ((x34 ++ x23.index).length) k38, true)], [sl .own ku8 A37 k38 (x34 ++ x23.index), blk b2 [.slice A25 x23.out.length k26, .slice A27 x23.body.length k28, .slice A29 x23.index.length k30, .int .i64 x23.many, .int .i64 x23.blocks, .slice A31 x23.last.length k32], sl .own ku8 A25 k26 x23.out, sl .ro ku8 A27 k28 x23.body, sl .own ku8 A29 k30 x23.index, sl .ro ku8 A31 k32 x23.last, sl .ro ku8 A20 k21 x19.1, sl m15 (kSl ku8) A13 k14 x12], rfl, ⟨.inr ⟨_, _, _, rfl, rfl⟩, .inr ⟨_, _, _, rfl, rfl⟩, .inr ⟨_, _, _, rfl, rfl⟩, .inr ⟨_, _, _, rfl, rfl⟩, .inr ⟨_, _, _, rfl, rfl⟩, .inr ⟨_, _, _, rfl, rfl⟩, .inr ⟨_, _, _, rfl, rfl⟩, .inr ⟨_, _, _, rfl, rfl⟩, .inr ⟨_, _, _, rfl, rfl⟩, .inr ⟨_, _, _, rfl, rfl⟩, .inl rfl, .inl rfl, trivial⟩, rfl, ?_, T, S⟩
  refine stage none rfl rfl ⟨⟨_, [(0, .pointer (some ⟨b2, 0, none⟩))], rfl, ⟨.inr ⟨rfl, rfl⟩, trivial⟩, fun u a w T S => (by refine r_pv T rfl rfl fun _ T => ?_; exact ⟨rfl, T⟩)⟩, ⟨_, [(38, .pointer (some ⟨b2, 0, none⟩))], rfl, ⟨.inl ⟨0, rfl, rfl, rfl, rfl⟩, trivial⟩, fun u a w T S => (by refine r_pv T rfl rfl fun _ T => ?_; exact ⟨rfl, T⟩)⟩, ⟨_, [(39, .pointer (some ⟨b2, 0, none⟩))], rfl, ⟨.inl ⟨1, rfl, rfl, rfl, rfl⟩, trivial⟩, fun u a w T S => (by refine r_fa (o' := 4) T rfl Try.runUnderlying61 rfl Try.sizeOf3 rfl rfl fun _ T => ?_; exact ⟨rfl, T⟩)⟩, ⟨_, [(40, .pointer (some ⟨b2, 4, none⟩))], rfl, ⟨.inl ⟨2, rfl, rfl, rfl, rfl⟩, trivial⟩, fun u a w T S => (by refine r_ldB (ix := 1) T S rfl Try.isAgg3 rfl rfl rfl fun _ T => ?_; exact ⟨rfl, T⟩)⟩, ⟨_, [(0, .pointer (some ⟨b2, 0, none⟩))], rfl, ⟨.inr ⟨rfl, rfl⟩, trivial⟩, fun u a w T S => (by refine r_pv T rfl rfl fun _ T => ?_; exact ⟨rfl, T⟩)⟩, ⟨_, [(44, .pointer (some ⟨b2, 0, none⟩))], rfl, ⟨.inl ⟨6, rfl, rfl, rfl, rfl⟩, trivial⟩, fun u a w T S => (by refine r_pv T rfl rfl fun _ T => ?_; exact ⟨rfl, T⟩)⟩, ⟨_, [(45, .pointer (some ⟨b2, 0, none⟩))], rfl, ⟨.inl ⟨7, rfl, rfl, rfl, rfl⟩, trivial⟩, fun u a w T S => (by refine r_fa (o' := 2) T rfl Try.runUnderlying61 rfl Try.sizeOf24 rfl rfl fun _ T => ?_; exact ⟨rfl, T⟩)⟩, ⟨_, [(48, .slice A37 ((x34 ++ x23.index).length) k38)], rfl, ⟨.inl ⟨10, rfl, rfl, rfl, rfl⟩, trivial⟩, fun u a w T S => (by refine r_pv T rfl rfl fun _ T => ?_; exact ⟨rfl, T⟩)⟩, trivial⟩ rfl (fun i hi => by cases hi) (fun _ _ a w T hv hb S => ?_)
  replace T := T.sub (r := [(0, .pointer (some ⟨b2, 0, none⟩)), (1, .int .i64 x11), (3, .int .i64 x16), (4, .int .i64 x17), (12, .int .i64 (x1.out.length : Int)), (15, .int .i64 (x23.out.length : Int)), (16, .slice A37 ((x34 ++ x23.index).length) k38)]) ⟨hb 0 _ rfl rfl, hb 1 _ rfl rfl, hb 3 _ rfl rfl, hb 4 _ rfl rfl, hb 12 _ rfl rfl, hb 15 _ rfl rfl, hv 11 _ 16 rfl rfl rfl, trivial⟩
  refine Gets.seq (Gets.seq ?_)
  refine rg ?_
  refine r_pv T rfl rfl fun _ T => ?_
  refine r_lenS T rfl Try.runUnderlying24 rfl fun _ T => ?_
  refine r_pv T rfl rfl fun _ T => ?_
  rcases ifE H with ⟨h40, H⟩ | ⟨h40, H⟩
  · refine cdT T rfl h40 ?_
    refine Gets.seq ?_
    refine rg ?_
    refine r_pv T rfl rfl fun _ T => ?_
    refine r_pv T rfl rfl fun _ T => ?_
    replace S := S.nil ku8 .own
    replace H := Option.some.inj H
    subst H
    exact rtn T Try.func30 rfl rfl ⟨none, 0, rfl, (S.only (p := [sl .own ku8 none 0 ([] : List Int), sl m15 (kSl ku8) A13 k14 x12]) [0, 7] rfl)⟩
  · refine cdF T rfl h40 ?_
    refine Gets.skip (Gets.seq ?_)
    refine rg ?_
    refine r_pv T rfl rfl fun _ T => ?_
    refine r_pv T rfl rfl fun _ T => ?_
    replace S : SL ([sl .ro ku8 A37 k38 (x34 ++ x23.index), blk b2 [.slice A25 x23.out.length k26, .slice A27 x23.body.length k28, .slice A29 x23.index.length k30, .int .i64 x23.many, .int .i64 x23.blocks, .slice A31 x23.last.length k32], sl .own ku8 A25 k26 x23.out, sl .ro ku8 A27 k28 x23.body, sl .own ku8 A29 k30 x23.index, sl .ro ku8 A31 k32 x23.last, sl .ro ku8 A20 k21 x19.1, sl m15 (kSl ku8) A13 k14 x12] ++ F) _ := S.fixL (i := 0) rfl rfl
    obtain ⟨x42, h41, H⟩ := bd H
    refine r_call T Try.call54 rfl rfl (sstable_builder_frame.ok _ _ z x23 73 (x34 ++ x23.index) (S.sel (p := [blk b2 [.slice A25 x23.out.length k26, .slice A27 x23.body.length k28, .slice A29 x23.index.length k30, .int .i64 x23.many, .int .i64 x23.blocks, .slice A31 x23.last.length k32], sl .own ku8 A25 k26 x23.out, sl .ro ku8 A27 k28 x23.body, sl .own ku8 A29 k30 x23.index, sl .ro ku8 A31 k32 x23.last, sl .ro ku8 A37 k38 (x34 ++ x23.index)]) (is := [1, 1, 1, 1, 1, 0]) rfl) _ h41) ?_
    rintro _ _ ⟨A44, k45, A46, k47, A48, k49, A50, k51, rfl, S⟩
    refine ⟨_, rfl, fun _ T => ?_⟩
    replace S : SL ([blk b2 [.slice A44 x42.out.length k45, .slice A46 x42.body.length k47, .slice A48 x42.index.length k49, .int .i64 x42.many, .int .i64 x42.blocks, .slice A50 x42.last.length k51], sl .own ku8 A44 k45 x42.out, sl .ro ku8 A46 k47 x42.body, sl .own ku8 A48 k49 x42.index, sl .ro ku8 A50 k51 x42.last, sl .ro ku8 A37 k38 (x34 ++ x23.index), sl .ro ku8 A20 k21 x19.1, sl m15 (kSl ku8) A13 k14 x12] ++ F) _ := S.join
    refine Gets.seq ?_
    refine rg ?_
    refine r_pv T rfl rfl fun _ T => ?_
    obtain ⟨x53, h52, H⟩ := bd H
    refine r_call T Try.call59 rfl rfl (sstable_high.ok _ _ z (x1.out.length : Int) 8 (S.sel (p := []) (is := []) rfl) _ h52) ?_
    rintro _ _ ⟨A54, k55, rfl, S⟩
    refine ⟨_, rfl, fun _ T => ?_⟩
    replace S : SL ([sl .own ku8 A54 k55 x53, blk b2 [.slice A44 x42.out.length k45, .slice A46 x42.body.length k47, .slice A48 x42.index.length k49, .int .i64 x42.many, .int .i64 x42.blocks, .slice A50 x42.last.length k51], sl .own ku8 A44 k45 x42.out, sl .ro ku8 A46 k47 x42.body, sl .own ku8 A48 k49 x42.index, sl .ro ku8 A50 k51 x42.last, sl .ro ku8 A37 k38 (x34 ++ x23.index), sl .ro ku8 A20 k21 x19.1, sl m15 (kSl ku8) A13 k14 x12] ++ F) _ := S.join
    refine r_pv T rfl rfl fun _ T => ?_
    obtain ⟨x57, h56, H⟩ := bd H
    refine r_call T Try.call59 rfl rfl (sstable_high.ok _ _ z (x23.out.length : Int) 8 (S.sel (p := []) (is := []) rfl) _ h56) ?_
    rintro _ _ ⟨A58, k59, rfl, S⟩
    refine ⟨_, rfl, fun _ T => ?_⟩
    replace S : SL ([sl .own ku8 A58 k59 x57, sl .own ku8 A54 k55 x53, blk b2 [.slice A44 x42.out.length k45, .slice A46 x42.body.length k47, .slice A48 x42.index.length k49, .int .i64 x42.many, .int .i64 x42.blocks, .slice A50 x42.last.length k51], sl .own ku8 A44 k45 x42.out, sl .ro ku8 A46 k47 x42.body, sl .own ku8 A48 k49 x42.index, sl .ro ku8 A50 k51 x42.last, sl .ro ku8 A37 k38 (x34 ++ x23.index), sl .ro ku8 A20 k21 x19.1, sl m15 (kSl ku8) A13 k14 x12] ++ F) _ := S.join
    refine r_pv T rfl rfl fun _ T => ?_
    obtain ⟨x61, h60, H⟩ := bd H
    refine r_call T Try.call59 rfl rfl (sstable_high.ok _ _ z x11 8 (S.sel (p := []) (is := []) rfl) _ h60) ?_
    rintro _ _ ⟨A62, k63, rfl, S⟩
    refine ⟨_, rfl, fun _ T => ?_⟩
    replace S : SL ([sl .own ku8 A62 k63 x61, sl .own ku8 A58 k59 x57, sl .own ku8 A54 k55 x53, blk b2 [.slice A44 x42.out.length k45, .slice A46 x42.body.length k47, .slice A48 x42.index.length k49, .int .i64 x42.many, .int .i64 x42.blocks, .slice A50 x42.last.length k51], sl .own ku8 A44 k45 x42.out, sl .ro ku8 A46 k47 x42.body, sl .own ku8 A48 k49 x42.index, sl .ro ku8 A50 k51 x42.last, sl .ro ku8 A37 k38 (x34 ++ x23.index), sl .ro ku8 A20 k21 x19.1, sl m15 (kSl ku8) A13 k14 x12] ++ F) _ := S.join
    refine r_pv T rfl rfl fun _ T => ?_
    obtain ⟨x65, h64, H⟩ := bd H
    refine r_call T Try.call59 rfl rfl (sstable_high.ok _ _ z x16 4 (S.sel (p := []) (is := []) rfl) _ h64) ?_
    rintro _ _ ⟨A66, k67, rfl, S⟩
    refine ⟨_, rfl, fun _ T => ?_⟩
    replace S : SL ([sl .own ku8 A66 k67 x65, sl .own ku8 A62 k63 x61, sl .own ku8 A58 k59 x57, sl .own ku8 A54 k55 x53, blk b2 [.slice A44 x42.out.length k45, .slice A46 x42.body.length k47, .slice A48 x42.index.length k49, .int .i64 x42.many, .int .i64 x42.blocks, .slice A50 x42.last.length k51], sl .own ku8 A44 k45 x42.out, sl .ro ku8 A46 k47 x42.body, sl .own ku8 A48 k49 x42.index, sl .ro ku8 A50 k51 x42.last, sl .ro ku8 A37 k38 (x34 ++ x23.index), sl .ro ku8 A20 k21 x19.1, sl m15 (kSl ku8) A13 k14 x12] ++ F) _ := S.join
    refine r_pv T rfl rfl fun _ T => ?_
    obtain ⟨x69, h68, H⟩ := bd H
    refine r_call T Try.call59 rfl rfl (sstable_high.ok _ _ z x17 4 (S.sel (p := []) (is := []) rfl) _ h68) ?_
    rintro _ _ ⟨A70, k71, rfl, S⟩
    refine ⟨_, rfl, fun _ T => ?_⟩
    replace S : SL ([sl .own ku8 A70 k71 x69, sl .own ku8 A66 k67 x65, sl .own ku8 A62 k63 x61, sl .own ku8 A58 k59 x57, sl .own ku8 A54 k55 x53, blk b2 [.slice A44 x42.out.length k45, .slice A46 x42.body.length k47, .slice A48 x42.index.length k49, .int .i64 x42.many, .int .i64 x42.blocks, .slice A50 x42.last.length k51], sl .own ku8 A44 k45 x42.out, sl .ro ku8 A46 k47 x42.body, sl .own ku8 A48 k49 x42.index, sl .ro ku8 A50 k51 x42.last, sl .ro ku8 A37 k38 (x34 ++ x23.index), sl .ro ku8 A20 k21 x19.1, sl m15 (kSl ku8) A13 k14 x12] ++ F) _ := S.join
    replace S := SL.val (κ := ku8) (x := 67) (cs := [.int .u8 67]) (fun _ => rfl) S
    replace S := SL.val (κ := ku8) (x := 79) (cs := [.int .u8 79]) (fun _ => rfl) S
    replace S := SL.val (κ := ku8) (x := 82) (cs := [.int .u8 82]) (fun _ => rfl) S
    replace S := SL.val (κ := ku8) (x := 77) (cs := [.int .u8 77]) (fun _ => rfl) S
    refine r_bsl (κ := ku8) (xs := [67, 79, 82, 77]) (vs := [.int .u8 67, .int .u8 79, .int .u8 82, .int .u8 77]) T S sty24 rfl ⟨_, _, rfl, ⟨3, rfl⟩, ⟨_, _, rfl, ⟨2, rfl⟩, ⟨_, _, rfl, ⟨1, rfl⟩, ⟨_, _, rfl, ⟨0, rfl⟩, rfl⟩⟩⟩⟩ rfl (by decide) rfl fun _ _ b72 S T => ?_
    replace S : SL ([sl .own ku8 (some ⟨b72, 0, none⟩) 4 [67, 79, 82, 77], sl .own ku8 A70 k71 x69, sl .own ku8 A66 k67 x65, sl .own ku8 A62 k63 x61, sl .own ku8 A58 k59 x57, sl .own ku8 A54 k55 x53, blk b2 [.slice A44 x42.out.length k45, .slice A46 x42.body.length k47, .slice A48 x42.index.length k49, .int .i64 x42.many, .int .i64 x42.blocks, .slice A50 x42.last.length k51], sl .own ku8 A44 k45 x42.out, sl .ro ku8 A46 k47 x42.body, sl .own ku8 A48 k49 x42.index, sl .ro ku8 A50 k51 x42.last, sl .ro ku8 A37 k38 (x34 ++ x23.index), sl .ro ku8 A20 k21 x19.1, sl m15 (kSl ku8) A13 k14 x12] ++ F) _ := S.only [0, 4, 4, 4, 4, 4, 4, 4, 4, 4, 4, 4, 4, 4] rfl
    refine r_cvS (ix := 0) T S rfl rfl Try.runUnderlying24 Try.runUnderlying5 rfl ⟨_, rfl⟩ fun _ _ S T => ?_
    replace S : SL ([sl .own ku8 (some ⟨b72, 0, none⟩) 4 [67, 79, 82, 77], sl .own ku8 A70 k71 x69, sl .own ku8 A66 k67 x65, sl .own ku8 A62 k63 x61, sl .own ku8 A58 k59 x57, sl .ro ku8 A54 k55 x53, blk b2 [.slice A44 x42.out.length k45, .slice A46 x42.body.length k47, .slice A48 x42.index.length k49, .int .i64 x42.many, .int .i64 x42.blocks, .slice A50 x42.last.length k51], sl .own ku8 A44 k45 x42.out, sl .ro ku8 A46 k47 x42.body, sl .own ku8 A48 k49 x42.index, sl .ro ku8 A50 k51 x42.last, sl .ro ku8 A37 k38 (x34 ++ x23.index), sl .ro ku8 A20 k21 x19.1, sl m15 (kSl ku8) A13 k14 x12] ++ F) _ := S.fixL (i := 5) rfl rfl
    replace S := S.asVal (i := 5) (xs := x53) rfl
    replace S : SL ([rp (kSl ku8) x53 [.slice A54 x53.length k55], sl .own ku8 (some ⟨b72, 0, none⟩) 4 [67, 79, 82, 77], sl .own ku8 A70 k71 x69, sl .own ku8 A66 k67 x65, sl .own ku8 A62 k63 x61, sl .ro ku8 A58 k59 x57, sl .ro ku8 A54 k55 x53, blk b2 [.slice A44 x42.out.length k45, .slice A46 x42.body.length k47, .slice A48 x42.index.length k49, .int .i64 x42.many, .int .i64 x42.blocks, .slice A50 x42.last.length k51], sl .own ku8 A44 k45 x42.out, sl .ro ku8 A46 k47 x42.body, sl .own ku8 A48 k49 x42.index, sl .ro ku8 A50 k51 x42.last, sl .ro ku8 A37 k38 (x34 ++ x23.index), sl .ro ku8 A20 k21 x19.1, sl m15 (kSl ku8) A13 k14 x12] ++ F) _ := S.fixL (i := 5) rfl rfl
    replace S := S.asVal (i := 5) (xs := x57) rfl
    replace S : SL ([rp (kSl ku8) x57 [.slice A58 x57.length k59], rp (kSl ku8) x53 [.slice A54 x53.length k55], sl .own ku8 (some ⟨b72, 0, none⟩) 4 [67, 79, 82, 77], sl .own ku8 A70 k71 x69, sl .own ku8 A66 k67 x65, sl .ro ku8 A62 k63 x61, sl .ro ku8 A58 k59 x57, sl .ro ku8 A54 k55 x53, blk b2 [.slice A44 x42.out.length k45, .slice A46 x42.body.length k47, .slice A48 x42.index.length k49, .int .i64 x42.many, .int .i64 x42.blocks, .slice A50 x42.last.length k51], sl .own ku8 A44 k45 x42.out, sl .ro ku8 A46 k47 x42.body, sl .own ku8 A48 k49 x42.index, sl .ro ku8 A50 k51 x42.last, sl .ro ku8 A37 k38 (x34 ++ x23.index), sl .ro ku8 A20 k21 x19.1, sl m15 (kSl ku8) A13 k14 x12] ++ F) _ := S.fixL (i := 5) rfl rfl
    replace S := S.asVal (i := 5) (xs := x61) rfl
    replace S : SL ([rp (kSl ku8) x61 [.slice A62 x61.length k63], rp (kSl ku8) x57 [.slice A58 x57.length k59], rp (kSl ku8) x53 [.slice A54 x53.length k55], sl .own ku8 (some ⟨b72, 0, none⟩) 4 [67, 79, 82, 77], sl .own ku8 A70 k71 x69, sl .ro ku8 A66 k67 x65, sl .ro ku8 A62 k63 x61, sl .ro ku8 A58 k59 x57, sl .ro ku8 A54 k55 x53, blk b2 [.slice A44 x42.out.length k45, .slice A46 x42.body.length k47, .slice A48 x42.index.length k49, .int .i64 x42.many, .int .i64 x42.blocks, .slice A50 x42.last.length k51], sl .own ku8 A44 k45 x42.out, sl .ro ku8 A46 k47 x42.body, sl .own ku8 A48 k49 x42.index, sl .ro ku8 A50 k51 x42.last, sl .ro ku8 A37 k38 (x34 ++ x23.index), sl .ro ku8 A20 k21 x19.1, sl m15 (kSl ku8) A13 k14 x12] ++ F) _ := S.fixL (i := 5) rfl rfl
    replace S := S.asVal (i := 5) (xs := x65) rfl
    replace S : SL ([rp (kSl ku8) x65 [.slice A66 x65.length k67], rp (kSl ku8) x61 [.slice A62 x61.length k63], rp (kSl ku8) x57 [.slice A58 x57.length k59], rp (kSl ku8) x53 [.slice A54 x53.length k55], sl .own ku8 (some ⟨b72, 0, none⟩) 4 [67, 79, 82, 77], sl .ro ku8 A70 k71 x69, sl .ro ku8 A66 k67 x65, sl .ro ku8 A62 k63 x61, sl .ro ku8 A58 k59 x57, sl .ro ku8 A54 k55 x53, blk b2 [.slice A44 x42.out.length k45, .slice A46 x42.body.length k47, .slice A48 x42.index.length k49, .int .i64 x42.many, .int .i64 x42.blocks, .slice A50 x42.last.length k51], sl .own ku8 A44 k45 x42.out, sl .ro ku8 A46 k47 x42.body, sl .own ku8 A48 k49 x42.index, sl .ro ku8 A50 k51 x42.last, sl .ro ku8 A37 k38 (x34 ++ x23.index), sl .ro ku8 A20 k21 x19.1, sl m15 (kSl ku8) A13 k14 x12] ++ F) _ := S.fixL (i := 5) rfl rfl
    replace S := S.asVal (i := 5) (xs := x69) rfl
    replace S : SL ([rp (kSl ku8) x69 [.slice A70 x69.length k71], rp (kSl ku8) x65 [.slice A66 x65.length k67], rp (kSl ku8) x61 [.slice A62 x61.length k63], rp (kSl ku8) x57 [.slice A58 x57.length k59], rp (kSl ku8) x53 [.slice A54 x53.length k55], sl .ro ku8 (some ⟨b72, 0, none⟩) 4 [67, 79, 82, 77], sl .ro ku8 A70 k71 x69, sl .ro ku8 A66 k67 x65, sl .ro ku8 A62 k63 x61, sl .ro ku8 A58 k59 x57, sl .ro ku8 A54 k55 x53, blk b2 [.slice A44 x42.out.length k45, .slice A46 x42.body.length k47, .slice A48 x42.index.length k49, .int .i64 x42.many, .int .i64 x42.blocks, .slice A50 x42.last.length k51], sl .own ku8 A44 k45 x42.out, sl .ro ku8 A46 k47 x42.body, sl .own ku8 A48 k49 x42.index, sl .ro ku8 A50 k51 x42.last, sl .ro ku8 A37 k38 (x34 ++ x23.index), sl .ro ku8 A20 k21 x19.1, sl m15 (kSl ku8) A13 k14 x12] ++ F) _ := S.fixL (i := 5) rfl rfl
    replace S := S.asVal (i := 5) (xs := [67, 79, 82, 77]) rfl
    refine r_bsl (κ := (kSl ku8)) (xs := [x53, x57, x61, x65, x69, [67, 79, 82, 77]]) (vs := [.slice A54 x53.length k55, .slice A58 x57.length k59, .slice A62 x61.length k63, .slice A66 x65.length k67, .slice A70 x69.length k71, .slice (some ⟨b72, 0, none⟩) 4 4]) T S sty62 rfl ⟨_, _, rfl, ⟨5, rfl⟩, ⟨_, _, rfl, ⟨4, rfl⟩, ⟨_, _, rfl, ⟨3, rfl⟩, ⟨_, _, rfl, ⟨2, rfl⟩, ⟨_, _, rfl, ⟨1, rfl⟩, ⟨_, _, rfl, ⟨0, rfl⟩, rfl⟩⟩⟩⟩⟩⟩ rfl (by decide) rfl fun _ _ b73 S T => ?_
    replace S : SL ([sl .own (kSl ku8) (some ⟨b73, 0, none⟩) 6 [x53, x57, x61, x65, x69, [67, 79, 82, 77]], sl .ro ku8 (some ⟨b72, 0, none⟩) 4 [67, 79, 82, 77], sl .ro ku8 A70 k71 x69, sl .ro ku8 A66 k67 x65, sl .ro ku8 A62 k63 x61, sl .ro ku8 A58 k59 x57, sl .ro ku8 A54 k55 x53, blk b2 [.slice A44 x42.out.length k45, .slice A46 x42.body.length k47, .slice A48 x42.index.length k49, .int .i64 x42.many, .int .i64 x42.blocks, .slice A50 x42.last.length k51], sl .own ku8 A44 k45 x42.out, sl .ro ku8 A46 k47 x42.body, sl .own ku8 A48 k49 x42.index, sl .ro ku8 A50 k51 x42.last, sl .ro ku8 A37 k38 (x34 ++ x23.index), sl .ro ku8 A20 k21 x19.1, sl m15 (kSl ku8) A13 k14 x12] ++ F) _ := S.only [0, 6, 6, 6, 6, 6, 6, 6, 6, 6, 6, 6, 6, 6, 6] rfl
    obtain ⟨x75, h74, H⟩ := bd H
    refine r_call T Try.call58 rfl rfl (slices_Concat_byte.ok _ _ z [x53, x57, x61, x65, x69, [67, 79, 82, 77]] (S.sel (p := [sl .own (kSl ku8) (some ⟨b73, 0, none⟩) 6 [x53, x57, x61, x65, x69, [67, 79, 82, 77]]]) (is := [0]) rfl) _ h74) ?_
    rintro _ _ ⟨A76, k77, rfl, S⟩
    refine ⟨_, rfl, fun _ T => ?_⟩
    replace S : SL ([sl .own ku8 A76 k77 x75, sl .own (kSl ku8) (some ⟨b73, 0, none⟩) 6 [x53, x57, x61, x65, x69, [67, 79, 82, 77]], sl .ro ku8 (some ⟨b72, 0, none⟩) 4 [67, 79, 82, 77], sl .ro ku8 A70 k71 x69, sl .ro ku8 A66 k67 x65, sl .ro ku8 A62 k63 x61, sl .ro ku8 A58 k59 x57, sl .ro ku8 A54 k55 x53, blk b2 [.slice A44 x42.out.length k45, .slice A46 x42.body.length k47, .slice A48 x42.index.length k49, .int .i64 x42.many, .int .i64 x42.blocks, .slice A50 x42.last.length k51], sl .own ku8 A44 k45 x42.out, sl .ro ku8 A46 k47 x42.body, sl .own ku8 A48 k49 x42.index, sl .ro ku8 A50 k51 x42.last, sl .ro ku8 A37 k38 (x34 ++ x23.index), sl .ro ku8 A20 k21 x19.1, sl m15 (kSl ku8) A13 k14 x12] ++ F) _ := S.join
    refine r_pv T rfl rfl fun _ T => ?_
    refine Gets.seq ?_
    refine rg ?_
    refine r_pv T rfl rfl fun _ T => ?_
    obtain ⟨x79, h78, H⟩ := bd H
    refine r_call T Try.call60 rfl rfl (codec_Sum.ok _ _ z x75 (S.sel (p := [sl .own ku8 A76 k77 x75]) (is := [0]) rfl) _ h78) ?_
    rintro _ _ ⟨rfl, S⟩
    refine ⟨_, rfl, fun _ T => ?_⟩
    replace S : SL ([sl .own ku8 A76 k77 x75, sl .own (kSl ku8) (some ⟨b73, 0, none⟩) 6 [x53, x57, x61, x65, x69, [67, 79, 82, 77]], sl .ro ku8 (some ⟨b72, 0, none⟩) 4 [67, 79, 82, 77], sl .ro ku8 A70 k71 x69, sl .ro ku8 A66 k67 x65, sl .ro ku8 A62 k63 x61, sl .ro ku8 A58 k59 x57, sl .ro ku8 A54 k55 x53, blk b2 [.slice A44 x42.out.length k45, .slice A46 x42.body.length k47, .slice A48 x42.index.length k49, .int .i64 x42.many, .int .i64 x42.blocks, .slice A50 x42.last.length k51], sl .own ku8 A44 k45 x42.out, sl .ro ku8 A46 k47 x42.body, sl .own ku8 A48 k49 x42.index, sl .ro ku8 A50 k51 x42.last, sl .ro ku8 A37 k38 (x34 ++ x23.index), sl .ro ku8 A20 k21 x19.1, sl m15 (kSl ku8) A13 k14 x12] ++ F) _ := S.join
    refine r_pv T rfl rfl fun _ T => ?_
    refine Gets.seq ?_
    refine rg ?_
    refine r_pv T rfl rfl fun _ T => ?_
    refine r_pv T rfl rfl fun _ T => ?_
    refine r_conv T rfl Try.runUnderlying99 Try.runUnderlying5 rfl fun _ T => ?_
    refine r_pv T rfl rfl fun _ T => ?_
    refine r_shr T rfl rfl (by decide) rfl fun _ T => ?_
    refine r_conv T rfl Try.runUnderlying99 Try.runUnderlying5 rfl fun _ T => ?_
    refine r_pv T rfl rfl fun _ T => ?_
    refine r_shr T rfl rfl (by decide) rfl fun _ T => ?_
    refine r_conv T rfl Try.runUnderlying99 Try.runUnderlying5 rfl fun _ T => ?_
    refine r_pv T rfl rfl fun _ T => ?_
    refine r_shr T rfl rfl (by decide) rfl fun _ T => ?_
    refine r_conv T rfl Try.runUnderlying99 Try.runUnderlying5 rfl fun _ T => ?_
    replace S := SL.val (κ := ku8) (x := wr .u8 x79) (cs := [.int .u8 (wr .u8 x79)]) (fun _ => rfl) S
    replace S := SL.val (κ := ku8) (x := wr .u8 (sShr .u32 x79 8)) (cs := [.int .u8 (wr .u8 (sShr .u32 x79 8))]) (fun _ => rfl) S
    replace S := SL.val (κ := ku8) (x := wr .u8 (sShr .u32 x79 16)) (cs := [.int .u8 (wr .u8 (sShr .u32 x79 16))]) (fun _ => rfl) S
    replace S := SL.val (κ := ku8) (x := wr .u8 (sShr .u32 x79 24)) (cs := [.int .u8 (wr .u8 (sShr .u32 x79 24))]) (fun _ => rfl) S
    refine r_bsl (κ := ku8) (xs := [wr .u8 x79, wr .u8 (sShr .u32 x79 8), wr .u8 (sShr .u32 x79 16), wr .u8 (sShr .u32 x79 24)]) (vs := [.int .u8 (wr .u8 x79), .int .u8 (wr .u8 (sShr .u32 x79 8)), .int .u8 (wr .u8 (sShr .u32 x79 16)), .int .u8 (wr .u8 (sShr .u32 x79 24))]) T S sty24 rfl ⟨_, _, rfl, ⟨3, rfl⟩, ⟨_, _, rfl, ⟨2, rfl⟩, ⟨_, _, rfl, ⟨1, rfl⟩, ⟨_, _, rfl, ⟨0, rfl⟩, rfl⟩⟩⟩⟩ rfl (by decide) rfl fun _ _ b80 S T => ?_
    replace S : SL ([sl .own ku8 (some ⟨b80, 0, none⟩) 4 [wr .u8 x79, wr .u8 (sShr .u32 x79 8), wr .u8 (sShr .u32 x79 16), wr .u8 (sShr .u32 x79 24)], sl .own ku8 A76 k77 x75, sl .own (kSl ku8) (some ⟨b73, 0, none⟩) 6 [x53, x57, x61, x65, x69, [67, 79, 82, 77]], sl .ro ku8 (some ⟨b72, 0, none⟩) 4 [67, 79, 82, 77], sl .ro ku8 A70 k71 x69, sl .ro ku8 A66 k67 x65, sl .ro ku8 A62 k63 x61, sl .ro ku8 A58 k59 x57, sl .ro ku8 A54 k55 x53, blk b2 [.slice A44 x42.out.length k45, .slice A46 x42.body.length k47, .slice A48 x42.index.length k49, .int .i64 x42.many, .int .i64 x42.blocks, .slice A50 x42.last.length k51], sl .own ku8 A44 k45 x42.out, sl .ro ku8 A46 k47 x42.body, sl .own ku8 A48 k49 x42.index, sl .ro ku8 A50 k51 x42.last, sl .ro ku8 A37 k38 (x34 ++ x23.index), sl .ro ku8 A20 k21 x19.1, sl m15 (kSl ku8) A13 k14 x12] ++ F) _ := S.only [0, 4, 4, 4, 4, 4, 4, 4, 4, 4, 4, 4, 4, 4, 4, 4, 4] rfl
    obtain ⟨h83, H⟩ := ck H
    refine r_app (ix := 1) (iy := 0) (xs := x75) (ys := [wr .u8 x79, wr .u8 (sShr .u32 x79 8), wr .u8 (sShr .u32 x79 16), wr .u8 (sShr .u32 x79 24)]) T S rfl rfl rfl rfl (by decide) sty24 Try.runUnderlying24 (by decide) h83 rfl fun _ _ A81 k82 S T => ?_
    replace S : SL ([sl .own ku8 (some ⟨b80, 0, none⟩) 4 [wr .u8 x79, wr .u8 (sShr .u32 x79 8), wr .u8 (sShr .u32 x79 16), wr .u8 (sShr .u32 x79 24)], sl .own ku8 A81 k82 (x75 ++ [wr .u8 x79, wr .u8 (sShr .u32 x79 8), wr .u8 (sShr .u32 x79 16), wr .u8 (sShr .u32 x79 24)]), sl .own (kSl ku8) (some ⟨b73, 0, none⟩) 6 [x53, x57, x61, x65, x69, [67, 79, 82, 77]], sl .ro ku8 (some ⟨b72, 0, none⟩) 4 [67, 79, 82, 77], sl .ro ku8 A70 k71 x69, sl .ro ku8 A66 k67 x65, sl .ro ku8 A62 k63 x61, sl .ro ku8 A58 k59 x57, sl .ro ku8 A54 k55 x53, blk b2 [.slice A44 x42.out.length k45, .slice A46 x42.body.length k47, .slice A48 x42.index.length k49, .int .i64 x42.many, .int .i64 x42.blocks, .slice A50 x42.last.length k51], sl .own ku8 A44 k45 x42.out, sl .ro ku8 A46 k47 x42.body, sl .own ku8 A48 k49 x42.index, sl .ro ku8 A50 k51 x42.last, sl .ro ku8 A37 k38 (x34 ++ x23.index), sl .ro ku8 A20 k21 x19.1, sl m15 (kSl ku8) A13 k14 x12] ++ F) _ := S
    refine r_pv T rfl rfl fun _ T => ?_
    refine Gets.seq ?_
    refine rg ?_
    refine r_pv T rfl rfl fun _ T => ?_
    refine r_pv T rfl rfl fun _ T => ?_
    refine r_pv T rfl rfl fun _ T => ?_
    refine r_fa (o' := 0) T rfl Try.runUnderlying61 rfl Try.sizeOf24 rfl rfl fun _ T => ?_
    refine r_ldB (ix := 9) T S rfl Try.isAgg24 rfl rfl rfl fun _ T => ?_
    refine r_pv T rfl rfl fun _ T => ?_
    obtain ⟨h86, H⟩ := ck H
    refine r_app (ix := 10) (iy := 1) (xs := x42.out) (ys := (x75 ++ [wr .u8 x79, wr .u8 (sShr .u32 x79 8), wr .u8 (sShr .u32 x79 16), wr .u8 (sShr .u32 x79 24)])) T S rfl rfl rfl rfl (by decide) sty24 Try.runUnderlying24 (by decide) h86 rfl fun _ _ A84 k85 S T => ?_
    replace S : SL ([sl .own ku8 (some ⟨b80, 0, none⟩) 4 [wr .u8 x79, wr .u8 (sShr .u32 x79 8), wr .u8 (sShr .u32 x79 16), wr .u8 (sShr .u32 x79 24)], sl .own ku8 A81 k82 (x75 ++ [wr .u8 x79, wr .u8 (sShr .u32 x79 8), wr .u8 (sShr .u32 x79 16), wr .u8 (sShr .u32 x79 24)]), sl .own (kSl ku8) (some ⟨b73, 0, none⟩) 6 [x53, x57, x61, x65, x69, [67, 79, 82, 77]], sl .ro ku8 (some ⟨b72, 0, none⟩) 4 [67, 79, 82, 77], sl .ro ku8 A70 k71 x69, sl .ro ku8 A66 k67 x65, sl .ro ku8 A62 k63 x61, sl .ro ku8 A58 k59 x57, sl .ro ku8 A54 k55 x53, blk b2 [.slice A44 x42.out.length k45, .slice A46 x42.body.length k47, .slice A48 x42.index.length k49, .int .i64 x42.many, .int .i64 x42.blocks, .slice A50 x42.last.length k51], sl .own ku8 A84 k85 (x42.out ++ (x75 ++ [wr .u8 x79, wr .u8 (sShr .u32 x79 8), wr .u8 (sShr .u32 x79 16), wr .u8 (sShr .u32 x79 24)])), sl .ro ku8 A46 k47 x42.body, sl .own ku8 A48 k49 x42.index, sl .ro ku8 A50 k51 x42.last, sl .ro ku8 A37 k38 (x34 ++ x23.index), sl .ro ku8 A20 k21 x19.1, sl m15 (kSl ku8) A13 k14 x12] ++ F) _ := S
    refine r_pv T rfl rfl fun _ T => ?_
    refine r_fa (o' := 0) T rfl Try.runUnderlying61 rfl Try.sizeOf24 rfl rfl fun _ T => ?_
    refine r_stB (ix := 9) (l' := [sl .own ku8 (some ⟨b80, 0, none⟩) 4 [wr .u8 x79, wr .u8 (sShr .u32 x79 8), wr .u8 (sShr .u32 x79 16), wr .u8 (sShr .u32 x79 24)], sl .own ku8 A81 k82 (x75 ++ [wr .u8 x79, wr .u8 (sShr .u32 x79 8), wr .u8 (sShr .u32 x79 16), wr .u8 (sShr .u32 x79 24)]), sl .own (kSl ku8) (some ⟨b73, 0, none⟩) 6 [x53, x57, x61, x65, x69, [67, 79, 82, 77]], sl .ro ku8 (some ⟨b72, 0, none⟩) 4 [67, 79, 82, 77], sl .ro ku8 A70 k71 x69, sl .ro ku8 A66 k67 x65, sl .ro ku8 A62 k63 x61, sl .ro ku8 A58 k59 x57, sl .ro ku8 A54 k55 x53, blk b2 [.slice A84 ((x42.out ++ (x75 ++ [wr .u8 x79, wr .u8 (sShr .u32 x79 8), wr .u8 (sShr .u32 x79 16), wr .u8 (sShr .u32 x79 24)])).length) k85, .slice A46 x42.body.length k47, .slice A48 x42.index.length k49, .int .i64 x42.many, .int .i64 x42.blocks, .slice A50 x42.last.length k51], sl .own ku8 A84 k85 (x42.out ++ (x75 ++ [wr .u8 x79, wr .u8 (sShr .u32 x79 8), wr .u8 (sShr .u32 x79 16), wr .u8 (sShr .u32 x79 24)])), sl .ro ku8 A46 k47 x42.body, sl .own ku8 A48 k49 x42.index, sl .ro ku8 A50 k51 x42.last, sl .ro ku8 A37 k38 (x34 ++ x23.index), sl .ro ku8 A20 k21 x19.1, sl m15 (kSl ku8) A13 k14 x12]) T S rfl rfl rfl Try.sizeOf24 rfl (Nat.le_of_ble_eq_true rfl) rfl fun _ S => ?_
    refine Gets.seq (Gets.seq ?_)
    refine rg ?_
    refine r_pv T rfl rfl fun _ T => ?_
    refine r_pv T rfl rfl fun _ T => ?_
    refine r_fa (o' := 0) T rfl Try.runUnderlying61 rfl Try.sizeOf24 rfl rfl fun _ T => ?_
    refine r_ldB (ix := 9) T S rfl Try.isAgg24 rfl rfl rfl fun _ T => ?_
    refine r_lenS T rfl Try.runUnderlying24 rfl fun _ T => ?_
    refine r_pv T rfl rfl fun _ T => ?_
    rcases ifE H with ⟨h87, H⟩ | ⟨h87, H⟩
    · refine cdT T rfl h87 ?_
      refine Gets.seq ?_
      refine rg ?_
      refine r_pv T rfl rfl fun _ T => ?_
      refine r_pv T rfl rfl fun _ T => ?_
      replace S := S.nil ku8 .own
      replace H := Option.some.inj H
      subst H
      exact rtn T Try.func30 rfl rfl ⟨none, 0, rfl, (S.only (p := [sl .own ku8 none 0 ([] : List Int), sl m15 (kSl ku8) A13 k14 x12]) [0, 16] rfl)⟩
    · refine cdF T rfl h87 ?_
      refine Gets.skip (Gets.seq ?_)
      refine rg ?_
      refine r_pv T rfl rfl fun _ T => ?_
      refine r_pv T rfl rfl fun _ T => ?_
      refine r_fa (o' := 0) T rfl Try.runUnderlying61 rfl Try.sizeOf24 rfl rfl fun _ T => ?_
      refine r_ldB (ix := 9) T S rfl Try.isAgg24 rfl rfl rfl fun _ T => ?_
      obtain ⟨x89, h88, H⟩ := bd H
      refine r_call T Try.call31 rfl rfl (slices_Clip_byte.ok _ _ (x42.out ++ (x75 ++ [wr .u8 x79, wr .u8 (sShr .u32 x79 8), wr .u8 (sShr .u32 x79 16), wr .u8 (sShr .u32 x79 24)])) (S.sel (p := [sl .own ku8 A84 k85 (x42.out ++ (x75 ++ [wr .u8 x79, wr .u8 (sShr .u32 x79 8), wr .u8 (sShr .u32 x79 16), wr .u8 (sShr .u32 x79 24)]))]) (is := [10]) rfl) _ h88) ?_
      rintro _ _ ⟨A90, rfl, S⟩
      refine ⟨_, rfl, fun _ T => ?_⟩
      replace S : SL ([sl .own ku8 A90 x89.length x89, sl .own ku8 (some ⟨b80, 0, none⟩) 4 [wr .u8 x79, wr .u8 (sShr .u32 x79 8), wr .u8 (sShr .u32 x79 16), wr .u8 (sShr .u32 x79 24)], sl .own ku8 A81 k82 (x75 ++ [wr .u8 x79, wr .u8 (sShr .u32 x79 8), wr .u8 (sShr .u32 x79 16), wr .u8 (sShr .u32 x79 24)]), sl .own (kSl ku8) (some ⟨b73, 0, none⟩) 6 [x53, x57, x61, x65, x69, [67, 79, 82, 77]], sl .ro ku8 (some ⟨b72, 0, none⟩) 4 [67, 79, 82, 77], sl .ro ku8 A70 k71 x69, sl .ro ku8 A66 k67 x65, sl .ro ku8 A62 k63 x61, sl .ro ku8 A58 k59 x57, sl .ro ku8 A54 k55 x53, blk b2 [.slice A84 ((x42.out ++ (x75 ++ [wr .u8 x79, wr .u8 (sShr .u32 x79 8), wr .u8 (sShr .u32 x79 16), wr .u8 (sShr .u32 x79 24)])).length) k85, .slice A46 x42.body.length k47, .slice A48 x42.index.length k49, .int .i64 x42.many, .int .i64 x42.blocks, .slice A50 x42.last.length k51], sl .ro ku8 A46 k47 x42.body, sl .own ku8 A48 k49 x42.index, sl .ro ku8 A50 k51 x42.last, sl .ro ku8 A37 k38 (x34 ++ x23.index), sl .ro ku8 A20 k21 x19.1, sl m15 (kSl ku8) A13 k14 x12] ++ F) _ := S.join
      refine r_pv T rfl rfl fun _ T => ?_
      refine r_pv T rfl rfl fun _ T => ?_
      replace H := Option.some.inj H
      subst H
      exact rtn T Try.func30 rfl rfl ⟨A90, x89.length, rfl, (S.only (p := [sl .own ku8 A90 x89.length x89, sl m15 (kSl ku8) A13 k14 x12]) [0, 15] rfl)⟩
end sstable_builder_end
end Go.Proofs.Ytghpokmkhlmgcaa
