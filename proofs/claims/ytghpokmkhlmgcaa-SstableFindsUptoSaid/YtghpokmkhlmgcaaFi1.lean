/- A Go function: the Lean function that it comes to, and the proof. -/
import Derived.Orders
import Derived.Scope
import Derived.Below
import Derived.RangeFuncLeaves
import Derived.Laws.Sem
import Derived.Laws.Append
import GoSem.Extern.BytealgCompare
import Derived.ProofKit
import Derived.Deep.Slices
import Derived.Lib.SmallJoins
import Derived.Test.YtghpokmkhlmgcaaRows
import Derived.IntWalk
import Derived.RangeFuncRecord
import Derived.Laws.StructEq
import Derived.Test.YtghpokmkhlmgcaaProg
import Derived.KernelRfl
namespace Go.Proofs.Ytghpokmkhlmgcaa.X
open Go
set_option linter.unusedVariables false
set_option linter.unusedSimpArgs false
set_option maxRecDepth 100000
set_option maxHeartbeats 4000000
structure Cls where
 fn : FuncId
 rnd : Option Nat := none
 dfs : List Deferred := []
instance {n : Nat} : OfNat Cls n := ⟨{ fn := n }⟩
def Cls.out (c : Cls) (P : Program) (cs : List Frame) (e : Ending) (w' : World) (m' : Machine) : Prop :=
 match c.rnd with
 | none => ∃ fr, m' = lone fr cs w' ∧ fr.fn = c.fn ∧ fr.leaving P w' e
 | some _ => ∃ c0 cs' v, cs = c0 :: cs' ∧ e = .returned v ∧ m' = lone (c0.finish v) cs' w'
def Cls.up (c : Cls) (a : Act) : Act := { a with defers := a.defers ++ c.dfs }
theorem sj {α : Type} {a b : α} (h : some a = some b) : a = b := Option.some.inj h
theorem nle {a b : Nat} (h : Nat.ble a b = true) : a ≤ b := Nat.le_of_ble_eq_true h
def Gets (P : Program) (f : Cls) (k : List Item) (a : Act) (w : World) (R : Ending → World → Prop) : Prop :=
 ∀ (b : Frame) (cs : List Frame), b.fn = f.fn → b.kind = .normal → b.roundOf = f.rnd → (f.rnd.isSome = true → cs ≠ []) →
  ∃ e w' m', R e w' ∧ Comes P (lone (b.atR (f.up a) k) cs w) m' e ∧ f.out P cs e w' m'
section
variable {P : Program} {f : Cls} {k : List Item} {a : Act} {w : World} {R : Ending → World → Prop}
theorem Gets.step {k' : List Item} {w' : World} (hs : ∀ (b : Frame) (cs : List Frame), step P (lone (b.atR (f.up a) k) cs w) = .next (lone (b.atR (f.up a) k') cs w'))
  (h : Gets P f k' a w' R) : Gets P f k a w R := by
 intro b cs hf hk hr hc
 obtain ⟨e, w2, m', hR, hc, rest⟩ := h b cs hf hk hr hc
 exact ⟨e, w2, m', hR, .of_steps (.one (hs b cs)) hc, rest⟩
theorem Gets.seq {x y : Code} (h : Gets P f (.code x :: .code y :: k) a w R) : Gets P f (.code (.seq x y) :: k) a w R := h.step fun _ _ => stepR_seq
theorem sq {x y : Code} (h : Gets P f (.code x :: .code y :: k) a w R) : Gets P f (.code (.seq x y) :: k) a w R := h.seq
theorem Gets.skip (h : Gets P f k a w R) : Gets P f (.code .skip :: k) a w R := h.step fun _ _ => stepR_skip
theorem sk (h : Gets P f k a w R) : Gets P f (.code .skip :: k) a w R := h.skip
theorem Gets.block {id : Nat} {c : Code} (h : Gets P f (.code c :: .inBlock id :: k) a w R) : Gets P f (.code (.block id c) :: k) a w R := h.step fun _ _ => stepR_block
theorem bq {id : Nat} {c : Code} (h : Gets P f (.code c :: .inBlock id :: k) a w R) : Gets P f (.code (.block id c) :: k) a w R := h.block
theorem Gets.inBlock {id : Nat} (h : Gets P f k a w R) : Gets P f (.inBlock id :: k) a w R := h.step fun _ _ => stepR_inBlock
theorem Gets.loop {c : Code} (h : Gets P f (.code c :: .inLoop c :: k) a w R) : Gets P f (.code (.loop c) :: k) a w R := h.step fun _ _ => stepR_loop
theorem Gets.inLoop {c : Code} (h : Gets P f (.code c :: .inLoop c :: k) a w R) : Gets P f (.inLoop c :: k) a w R := h.step fun _ _ => stepR_inLoop
theorem stepR_scope' {b : Frame} {cs : List Frame} {c : Code} : step P (lone (b.atR a (.code (.scope c) :: k)) cs w) = .next (lone (b.atR a (.code c :: .inScope c :: k)) cs w) :=
 step_lone_go (by simp [stepG, stepG.exec, Frame.atR])
theorem stepR_inScope' {b : Frame} {cs : List Frame} {c : Code} : step P (lone (b.atR a (.inScope c :: k)) cs w) = .next (lone (b.atR a k) cs w) :=
 step_lone_go (by simp [stepG, stepG.exec, Frame.atR])
theorem Gets.scope {c : Code} (h : Gets P f (.code c :: .inScope c :: k) a w R) : Gets P f (.code (.scope c) :: k) a w R := h.step fun _ _ => stepR_scope'
theorem Gets.inScope {c : Code} (h : Gets P f k a w R) : Gets P f (.inScope c :: k) a w R := h.step fun _ _ => stepR_inScope'
theorem Gets.exit {id : Nat} {k' : List Item} (hk : exitTo id k = some k') (h : Gets P f k' a w R) : Gets P f (.code (.exit id) :: k) a w R := h.step fun _ _ => stepR_exit hk
theorem Gets.goto {l : Nat} {k' : List Item} (hk : gotoIn l k = some k') (h : Gets P f k' a w R) : Gets P f (.code (.goto l) :: k) a w R := h.step fun _ _ => stepR_goto hk
theorem Gets.of_wp {f : FuncId} {c : Code} (h : c.wp P (fun e a w => e = .normal ∧ Gets P { fn := f } k a w R) a w) : Gets P { fn := f } (.code c :: k) a w R := by
 intro b cs hf hk hr hcs
 have hup : ∀ a : Act, Cls.up { fn := f } a = a := fun a => by simp [Cls.up]
 obtain ⟨e, a', w', ⟨rfl, hq⟩, harr⟩ := h b k cs
 obtain ⟨e, w2, m', hR, hc, rest⟩ := hq b cs hf hk hr hcs
 rw [hup, Frame.atR_of_none hr] at *
 exact ⟨e, w2, m', hR, .of_steps harr hc, rest⟩
theorem Gets.ret {f : FuncId} {fn : Func} {v : Value} (hf : P.funcs[f]? = some fn) (hd : a.defers = []) (hr : (results fn a.tmps).run P w = .ok v w)
  (hR : R (.returned v) w) : Gets P { fn := f } (.code .ret :: k) a w R := by
 intro b cs hb hk hro _
 refine ⟨.returned v, w, lone { b.atR (Cls.up { fn := f } a) (.code .ret :: k) with mode := .returning } cs w, hR, ?_, { b.atR (Cls.up { fn := f } a) (.code .ret :: k) with mode := .returning }, rfl, hb, rfl, ?_, hk, fn, ?_, hr⟩
 ·rw [Frame.atR_of_none hro]; exact Steps.one step_ret
 ·simp [Frame.atR, Cls.up, hd]
 ·simpa [Frame.atR, hb] using hf
theorem Gets.fall {f : FuncId} {fn : Func} {v : Value} (hf : P.funcs[f]? = some fn) (hd : a.defers = []) (hr : (results fn a.tmps).run P w = .ok v w)
  (hR : R (.returned v) w) : Gets P { fn := f } [] a w R := by
 intro b cs hb hk hro _
 refine ⟨.returned v, w, lone { b.atR (Cls.up { fn := f } a) [] with mode := .returning } cs w, hR, ?_, { b.atR (Cls.up { fn := f } a) [] with mode := .returning }, rfl, hb, rfl, ?_, hk, fn, ?_, hr⟩
 ·rw [Frame.atR_of_none hro]; exact Steps.one step_end
 ·simp [Frame.atR, Cls.up, hd]
 ·simpa [Frame.atR, hb] using hf
theorem calls_of_ends {f : FuncId} {fn : Func} {c : Code} {args : Array Value} (hf : P.funcs[f]? = some fn) (hb : fn.body = some c)
  (h : Gets P { fn := f } [.code c] { tmps := args ++ Array.replicate (fn.ntmps - args.size) undef, defers := [] } w R) : Calls P f args w R := by
 intro cs
 let b : Frame := { (default : Frame) with fn := f, kind := .normal, roundOf := none }
 have henter : Frame.enter P f args .normal =
   b.atR (Cls.up { fn := f } { tmps := args ++ Array.replicate (fn.ntmps - args.size) undef, defers := [] }) [.code c] := by
  simp [Frame.enter, Frame.atR, hf, hb, b, Cls.up]
 obtain ⟨e, w', m', hR, hc, fr, rfl, h1, h2⟩ := h b cs rfl rfl rfl (fun h => by cases h)
 rw [← henter] at hc
 exact ⟨e, w', fr, hR, hc, h1, h2⟩
end
def lk : List (Nat × Value) → Nat → Option Value
 | [], _ => none
 | (s, v) :: r, t => match Nat.beq s t with | true => some v | false => lk r t
structure Tm (n : Nat) (l : List (Nat × Value)) (a : Act) : Prop where
 defers : a.defers = []
 size : a.tmps.size = n
 at_ : ∀ t v, lk l t = some v → a.tmps[t]? = some v
def ev (l : List (Nat × Value)) : Operand → Option Value
 | .tmp t => lk l t
 | .const v => some v
 | .global g => some (.pointer (some ⟨g, 0, none⟩))
 | .func f => some (.func (.func f) #[] #[])
def evs (l : List (Nat × Value)) : List Operand → Option (List Value)
 | [] => some []
 | x :: r => match ev l x, evs l r with | some v, some vs => some (v :: vs) | _, _ => none
theorem Tm.getD {n : Nat} {l : List (Nat × Value)} {a : Act} (T : Tm n l a) {t : Nat} {v : Value} (h : lk l t = some v) : a.tmps.getD t undef = v := by
 have := T.at_ t v h
 rw [Array.getD_eq_getD_getElem?, this]; rfl
theorem Tm.ev {n : Nat} {l : List (Nat × Value)} {a : Act} (T : Tm n l a) {x : Operand} {v : Value} (h : ev l x = some v) : a.eval x = v := by
 cases x with
 | tmp t => exact T.getD h
 | const u => exact Option.some.inj h
 | global g => exact Option.some.inj h
 | func g => exact Option.some.inj h
theorem Tm.evs {n : Nat} {l : List (Nat × Value)} {a : Act} (T : Tm n l a) : ∀ {xs : List Operand} {vs : List Value}, evs l xs = some vs → xs.map a.eval = vs
 | [], vs, h => by simpa [X.evs] using h
 | x :: xs, vs, h => by
  simp only [X.evs] at h
  split at h
  ·rename_i v vs' h1 h2
   cases h
   simp [T.ev h1, T.evs h2]
  ·cases h
def pt (dst : Option Nat) (v : Value) (l : List (Nat × Value)) : List (Nat × Value) := match dst with | some d => (d, v) :: l | none => l
theorem Tm.put {n : Nat} {l : List (Nat × Value)} {a : Act} (T : Tm n l a) {d : Nat} (hd : Nat.blt d n = true) (v : Value) : Tm n ((d, v) :: l) (a.put (some d) v) := by
 have hd' : d < n := by simpa [Nat.blt_eq] using hd
 refine ⟨T.defers, by simp [Act.put, T.size], fun t u h => ?_⟩
 simp only [lk] at h
 simp only [Act.put]
 by_cases e : d = t
 ·subst e
  have hb : Nat.beq d d = true := by simp
  simp only [hb, Option.some.injEq] at h
  rw [Array.getElem?_setIfInBounds_self_of_lt (by rw [T.size]; exact hd'), h]
 ·have hb : Nat.beq d t = false := by
   rw [Bool.eq_false_iff]; intro hh; exact e (Nat.eq_of_beq_eq_true hh)
  simp only [hb] at h
  rw [Array.getElem?_setIfInBounds_ne e]
  exact T.at_ t u h
def Sub (l : List (Nat × Value)) : List (Nat × Value) → Prop
 | [] => True
 | (t, v) :: r => lk l t = some v ∧ Sub l r
theorem Sub.lk {l : List (Nat × Value)} : ∀ {r : List (Nat × Value)}, Sub l r → ∀ t v, lk r t = some v → lk l t = some v
 | [], _, t, v, h => by simp [X.lk] at h
 | (s, u) :: r, ⟨h1, h2⟩, t, v, h => by
  simp only [X.lk] at h
  by_cases e : Nat.beq s t = true
  ·simp only [e, Option.some.injEq] at h
   rw [← Nat.eq_of_beq_eq_true e, ← h]; exact h1
  ·simp only [Bool.not_eq_true] at e
   simp only [e] at h
   exact h2.lk t v h
theorem Tm.sub {n : Nat} {l r : List (Nat × Value)} {a : Act} (T : Tm n l a) (h : Sub l r) : Tm n r a := ⟨T.defers, T.size, fun t v hh => T.at_ t v (h.lk t v hh)⟩
theorem Tm.sb {n : Nat} {l r : List (Nat × Value)} {a : Act} (T : Tm n l a) (h : r.map (fun p => lk l p.1) = r.map (fun p => some p.2)) : Tm n r a := T.sub (by
 clear T
 induction r with
 | nil => trivial
 | cons p r ih =>
  simp only [List.map_cons, List.cons.injEq] at h
  exact ⟨h.1, ih h.2⟩)
def num : Nat → List Value → List (Nat × Value)
 | _, [] => []
 | i, v :: r => (i, v) :: num (i + 1) r
theorem num_lk : ∀ (vs : List Value) (i t : Nat) (v : Value), lk (num i vs) t = some v → ∃ j, t = i + j ∧ vs[j]? = some v
 | [], _, _, _, h => by simp [num, lk] at h
 | u :: r, i, t, v, h => by
  simp only [num, lk] at h
  by_cases e : Nat.beq i t = true
  ·simp only [e, Option.some.injEq] at h
   exact ⟨0, by have := Nat.eq_of_beq_eq_true e; omega, by simp [h]⟩
  ·simp only [Bool.not_eq_true] at e
   simp only [e] at h
   obtain ⟨j, hj, hv⟩ := num_lk r (i + 1) t v h
   exact ⟨j + 1, by omega, by simpa using hv⟩
theorem Tm.start {n : Nat} {vs : List Value} (h : vs.length ≤ n) :
  Tm n (num 0 vs) { tmps := vs.toArray ++ Array.replicate (n - vs.toArray.size) undef, defers := [] } := by
 refine ⟨rfl, by simp; omega, fun t v hh => ?_⟩
 obtain ⟨j, rfl, hj⟩ := num_lk vs 0 t v hh
 have hlt : j < vs.length := by
  rcases Nat.lt_or_ge j vs.length with h | h
  ·exact h
  ·simp [List.getElem?_eq_none h] at hj
 simp only [Nat.zero_add]
 rw [Array.getElem?_append_left (by simpa using hlt)]
 simpa using hj
def wpY (Y : Bool) (P : Program) (o : Oper) (a : Act) (next : Act → World → Prop) : Result Next → Prop
 | .ok (.value v) w' => next (a.put o.dst v) w'
 | .ok .skip w' => next (a.put o.dst undef) w'
 | .ok (.enter f args) w' => Calls P f args w' fun e w'' => ∃ v, e = .returned v ∧ next (a.put o.dst v) w''
 | .ok (.round l f tmps assign body) w' => Y = true ∧ RoundIn Fence.wide 0 P l f tmps assign body w' fun e w'' => ∃ v, e = .returned v ∧ next (a.put o.dst v) w''
 | _ => False
def wpN (Y : Bool) (P : Program) (ops : Array Oper) (N : Act → World → Prop) : List Oper → Act → World → Prop
 | [], a, w => N a w
 | o :: rest, a, w =>
  if Region.wanted o (yielded ops a.tmps) then wpY Y P o a (wpN Y P ops N rest) ((execOp a.eval o).run P w)
  else wpN Y P ops N rest (a.put o.dst undef) w
theorem wpY.upon {P : Program} {o : Oper} {a : Act} {next next' : Act → World → Prop} {Q : Exit → Act → World → Prop} {r : Result Next} (hn : ∀ a w, next a w → next' a w) (h : wpY false P o a next r) : o.upon P a next' Q r := by
 cases r with
 | ok n w' =>
  cases n <;> simp only [wpY] at h <;> simp only [Oper.upon] <;> first
   | exact hn _ _ h
   | exact Calls.mono h (fun e w'' he => by obtain ⟨v, rfl, he⟩ := he; exact hn _ _ he)
   | exact absurd h.1 (by decide)
   | exact h.elim
 | halt x w' => cases x <;> exact h.elim
def wideR (r : Option Nat) : Fence := { Fence.wide with round := r }
theorem wideR_room {r : Option Nat} (n : Nat) : (wideR r).room n := room_wide n
theorem arrives_wideR {r : Option Nat} {P : Program} {m m' : Machine} : StepsIn (Machine.fenced P (wideR r)) P m m' → Steps P m m' := StepsIn.steps
theorem up_put (f : Cls) (a : Act) (d : Option Nat) (v : Value) : (f.up a).put d v = f.up (a.put d v) := by cases d <;> rfl
theorem up_eval (f : Cls) (a : Act) : (f.up a).eval = a.eval := funext fun x => by cases x <;> rfl
theorem not_defer {P : Program} {o : Oper} {a : Act} {w : World} {Y : Bool} {next : Act → World → Prop} (h : wpY Y P o a next ((execOp a.eval o).run P w)) : ∀ c, o.op ≠ .defer c := by
 intro c hc
 unfold execOp at h
 rw [hc] at h
 simp only [Sem.run_bind] at h
 cases hr : (resolve a.eval c o.type).run P w with
 | ok d w' => rw [hr] at h; exact h
 | halt x w' => rw [hr] at h; cases x <;> exact h
theorem wpOpsIn_of_wpN {P : Program} {Y : Bool} {f : Cls} {ops : Array Oper} {N : Act → World → Prop} :
  ∀ (l : List Nat) (os : List Oper), (∀ i : Nat, (os[i]?) = (l[i]?).bind fun j => ops[j]?) → os.length = l.length → ∀ (a : Act) (w : World), wpN Y P ops N os a w →
   wpOpsIn (wideR f.rnd) 0 P ops (fun e a' w => e = .normal ∧ ∃ a0, a' = f.up a0 ∧ N a0 w) l (f.up a) w
 | [], [], _, _, a, w, h => ⟨rfl, a, rfl, h⟩
 | [], _ :: _, _, hl, _, _, _ => by simp at hl
 | _ :: _, [], _, hl, _, _, _ => by simp at hl
 | i :: l, o :: os, he, hl, a, w, h => by
  have h0 : ops[i]? = some o := by have := he 0; simpa using this.symm
  have ih := wpOpsIn_of_wpN (P := P) (Y := Y) (f := f) (N := N) l os (fun j => by have := he (j + 1); simpa using this) (by simpa using hl)
  simp only [wpOpsIn, h0]
  simp only [wpN] at h
  show if Region.wanted o (yielded ops a.tmps) = true then _ else _
  split
  ·rename_i hw
   simp only [hw, if_true] at h
   refine ⟨fun _ _ => trivial, ?_⟩
   rw [Oper.semAt_eq _ _ _ (not_defer h), up_eval]
   generalize (execOp a.eval o).run P w = r at *
   cases r with
   | ok n w' =>
    cases n <;> simp only [wpY] at h <;> simp only [Oper.uponIn, up_put] <;> first
     | exact ih _ _ h
     | exact ⟨fun h => by simp [wideR, Fence.wide] at h, (callsIn_wide (n := 0)).2 (Calls.mono h (fun e w'' he => by obtain ⟨v, rfl, he⟩ := he; exact ih _ _ he))⟩
     | exact ⟨fun h => by simp [wideR, Fence.wide] at h, RoundIn.mono (F := Fence.wide) (n := 0) h.2 (fun e w'' he => by obtain ⟨v, rfl, he⟩ := he; exact ih _ _ he)⟩
     | exact h.elim
   | halt x w' => cases x <;> exact h.elim
  ·rename_i hw
   simp only [hw] at h
   exact ⟨fun _ _ => trivial, by rw [up_put]; exact ih _ _ h⟩
section
variable {P : Program} {f : Cls} {k : List Item} {a : Act} {w : World} {R : Ending → World → Prop}
theorem Gets.region {Y : Bool} {id : Nat} {ops : Array Oper} (h : wpN Y P ops (fun a w => Gets P f k a w R) ops.toList a w) :
  Gets P f (.code (.region id ops false) :: k) a w R := by
 intro b cs hf hk hr hcs
 have h1 := wpIn_region (id := id) (wpOpsIn_of_wpN (f := f) (List.range ops.size) ops.toList (fun i => by by_cases hi : i < ops.size <;> simp [hi]) (by simp) a w h)
 obtain ⟨e, a', w', ⟨rfl, a0, rfl, hq⟩, harr⟩ := h1 b k cs hr trivial (wideR_room _)
 obtain ⟨e, w2, m', hR, hc, rest⟩ := hq b cs hf hk hr hcs
 exact ⟨e, w2, m', hR, .of_steps (arrives_wideR harr) hc, rest⟩
end
abbrev Hp := Nat → Option Obj
def Hp.le (g h : Hp) : Prop := ∀ b o, g b = some o → h b = some o
def Hp.dj (g h : Hp) : Prop := ∀ b, g b = none ∨ h b = none
def Hp.un (g h : Hp) : Hp := fun b => match g b with | some o => some o | none => h b
def Hp.one (b : Nat) (o : Obj) : Hp := fun c => if c = b then some o else none
def Hp.zero : Hp := fun _ => none
theorem Hp.le_refl (h : Hp) : h.le h := fun _ _ e => e
theorem Hp.le_trans {f g h : Hp} (a : f.le g) (b : g.le h) : f.le h := fun _ _ e => b _ _ (a _ _ e)
theorem Hp.dj_symm {g h : Hp} (a : g.dj h) : h.dj g := fun b => (a b).symm
theorem Hp.dj_le {g h g' : Hp} (a : g.dj h) (l : g'.le g) : g'.dj h := fun b => by
 cases e : g' b with
 | none => exact .inl rfl
 | some o =>
  rcases a b with x | x
  ·rw [l _ _ e] at x; cases x
  ·exact .inr x
theorem Hp.zero_le (h : Hp) : Hp.zero.le h := fun _ _ e => by cases e
theorem Hp.zero_dj (h : Hp) : Hp.zero.dj h := fun _ => .inl rfl
theorem Hp.le_un_left (g h : Hp) : g.le (g.un h) := fun b o e => by simp [Hp.un, e]
theorem Hp.le_un_right {g h : Hp} (d : g.dj h) : h.le (g.un h) := fun b o e => by
 rcases d b with x | x
 ·simp [Hp.un, x, e]
 ·rw [e] at x; cases x
theorem Hp.un_le {g h k : Hp} (a : g.le k) (b : h.le k) : (g.un h).le k := fun c o e => by
 simp only [Hp.un] at e
 split at e
 ·rename_i o' ho; cases e; exact a _ _ ho
 ·exact b _ _ e
theorem Hp.un_dj {g h k : Hp} (a : g.dj k) (b : h.dj k) : (g.un h).dj k := fun c => by
 rcases a c with x | x
 ·rcases b c with y | y
  ·left; simp [Hp.un, x, y]
  ·exact .inr y
 ·exact .inr x
structure Env where
 os : Os
 tape : Nat → Question → Nat
 output : Array (Nat × ByteArray)
def env (w : World) : Env := ⟨w.os, w.tape, w.output⟩
structure Atom where
 holds : Env → Hp → Hp → Prop
 mono : ∀ {E : Env} {G G' h : Hp}, G.le G' → holds E G h → holds E G' h
def sats (E : Env) (G : Hp) : List Atom → Hp → Prop
 | [], _ => True
 | A :: L, H => ∃ h h' : Hp, h.dj h' ∧ h.le H ∧ h'.le H ∧ A.holds E G h ∧ sats E G L h'
def fit (h : Hp) (w : World) : Prop := ∀ b o, h b = some o → w.heap[b]? = some o
def SL (L : List Atom) (w : World) : Prop := ∃ G H : Hp, fit G w ∧ fit H w ∧ G.dj H ∧ sats (env w) G L H
theorem sats_le {E : Env} {G : Hp} : ∀ {L : List Atom} {H H' : Hp}, H.le H' → sats E G L H → sats E G L H'
 | [], _, _, _, _ => trivial
 | _ :: _, _, _, l, ⟨h, h', d, a, b, c, e⟩ => ⟨h, h', d, Hp.le_trans a l, Hp.le_trans b l, c, e⟩
theorem sats_mono {E : Env} {G G' : Hp} (l : G.le G') : ∀ {L : List Atom} {H : Hp}, sats E G L H → sats E G' L H
 | [], _, _ => trivial
 | A :: _, _, ⟨h, h', d, a, b, c, e⟩ => ⟨h, h', d, a, b, A.mono l c, sats_mono l e⟩
theorem sats_swap {E : Env} {G : Hp} {A B : Atom} {L : List Atom} {H : Hp} (s : sats E G (A :: B :: L) H) : sats E G (B :: A :: L) H := by
 obtain ⟨h, h', d, a, b, c, g, g', d2, a2, b2, c2, e⟩ := s
 refine ⟨g, h.un g', ?_, Hp.le_trans a2 b, Hp.un_le a (Hp.le_trans b2 b), c2, h, g', ?_, Hp.le_un_left _ _, Hp.le_un_right ?_, c, e⟩
 ·exact Hp.dj_symm (Hp.un_dj (Hp.dj_symm (Hp.dj_le (Hp.dj_symm d) a2)) (Hp.dj_symm d2))
 ·exact Hp.dj_symm (Hp.dj_le (Hp.dj_symm d) b2)
 ·exact Hp.dj_symm (Hp.dj_le (Hp.dj_symm d) b2)
theorem sats_perm {E : Env} {G : Hp} {L L' : List Atom} (p : L.Perm L') : ∀ {H : Hp}, sats E G L H → sats E G L' H := by
 induction p with
 | nil => exact fun s => s
 | cons A _ ih => exact fun ⟨h, h', d, a, b, c, e⟩ => ⟨h, h', d, a, b, c, ih e⟩
 | swap A B l => exact fun s => sats_swap s
 | trans _ _ ih1 ih2 => exact fun s => ih2 (ih1 s)
theorem sats_append {E : Env} {G : Hp} : ∀ {L M : List Atom} {H : Hp}, sats E G (L ++ M) H → ∃ h h' : Hp, h.dj h' ∧ h.le H ∧ h'.le H ∧ sats E G L h ∧ sats E G M h'
 | [], M, H, s => ⟨Hp.zero, H, Hp.zero_dj _, Hp.zero_le _, Hp.le_refl _, trivial, s⟩
 | A :: L, M, H, ⟨h, h', d, a, b, c, e⟩ => by
  obtain ⟨g, g', d2, a2, b2, c2, e2⟩ := sats_append e
  refine ⟨h.un g, g', ?_, Hp.un_le a (Hp.le_trans a2 b), Hp.le_trans b2 b, ⟨h, g, ?_, Hp.le_un_left _ _, Hp.le_un_right ?_, c, c2⟩, e2⟩
  ·exact Hp.un_dj (Hp.dj_symm (Hp.dj_le (Hp.dj_symm d) b2)) d2
  ·exact Hp.dj_symm (Hp.dj_le (Hp.dj_symm d) a2)
  ·exact Hp.dj_symm (Hp.dj_le (Hp.dj_symm d) a2)
theorem sats_join {E : Env} {G : Hp} : ∀ {L M : List Atom} {h h' : Hp}, h.dj h' → sats E G L h → sats E G M h' → sats E G (L ++ M) (h.un h')
 | [], M, h, h', d, _, s => sats_le (Hp.le_un_right d) s
 | A :: L, M, h, h', d, ⟨g, g', d2, a, b, c, e⟩, s => by
  refine ⟨g, g'.un h', ?_, Hp.le_trans a (Hp.le_un_left _ _), Hp.un_le (Hp.le_trans b (Hp.le_un_left _ _)) (Hp.le_un_right d), c, sats_join (Hp.dj_le d b) e s⟩
  exact Hp.dj_symm (Hp.un_dj (Hp.dj_symm d2) (Hp.dj_symm (Hp.dj_le d a)))
theorem SL.perm {L L' : List Atom} {w : World} (p : L.Perm L') : SL L w → SL L' w := fun ⟨G, H, a, b, c, s⟩ => ⟨G, H, a, b, c, sats_perm p s⟩
theorem SL.drop {L M : List Atom} {w : World} : SL (L ++ M) w → SL L w := fun ⟨G, H, a, b, c, s⟩ => by
 obtain ⟨h, _, _, l, _, s1, _⟩ := sats_append s
 exact ⟨G, H, a, b, c, sats_le l s1⟩
theorem SL.dropL {L M : List Atom} {w : World} : SL (L ++ M) w → SL M w := fun ⟨G, H, a, b, c, s⟩ => by
 obtain ⟨_, h', _, _, l, _, s1⟩ := sats_append s
 exact ⟨G, H, a, b, c, sats_le l s1⟩
theorem SL.heap {L : List Atom} {w w' : World} (h : w'.heap = w.heap) (e : env w' = env w) : SL L w → SL L w' := fun ⟨G, H, a, b, c, s⟩ =>
 ⟨G, H, fun x o y => by rw [h]; exact a x o y, fun x o y => by rw [h]; exact b x o y, c, e ▸ s⟩
def ext : Nat → List Atom → Option (Atom × List Atom)
 | _, [] => none
 | 0, A :: L => some (A, L)
 | n + 1, A :: L => match ext n L with | some (B, M) => some (B, A :: M) | none => none
def sel : List Nat → List Atom → Option (List Atom × List Atom)
 | [], L => some ([], L)
 | i :: is, L => match ext i L with
  | some (A, M) => match sel is M with | some (p, r) => some (A :: p, r) | none => none
  | none => none
theorem ext_perm : ∀ {n : Nat} {L M : List Atom} {A : Atom}, ext n L = some (A, M) → L.Perm (A :: M)
 | _, [], _, _, h => by simp [ext] at h
 | 0, A :: L, M, B, h => by simp [ext] at h; obtain ⟨rfl, rfl⟩ := h; exact .refl _
 | n + 1, A :: L, M, B, h => by
  simp only [ext] at h
  split at h
  ·rename_i C M' h1
   cases h
   exact ((ext_perm h1).cons A).trans (.swap _ _ _)
  ·cases h
theorem sel_perm : ∀ {is : List Nat} {L p r : List Atom}, sel is L = some (p, r) → L.Perm (p ++ r)
 | [], L, p, r, h => by simp [sel] at h; obtain ⟨rfl, rfl⟩ := h; exact .refl _
 | i :: is, L, p, r, h => by
  simp only [sel] at h
  split at h
  ·rename_i A M h1
   split at h
   ·rename_i q s h2
    cases h
    exact (ext_perm h1).trans ((sel_perm h2).cons A)
   ·cases h
  ·cases h
theorem SL.sel {is : List Nat} {l p r F : List Atom} {w : World} (S : SL (l ++ F) w) (h : X.sel is l = some (p, r)) : SL (p ++ (r ++ F)) w :=
 (S.perm ((sel_perm h).append_right F)).perm (by rw [List.append_assoc])
theorem SL.join {p r F : List Atom} {w : World} (S : SL (p ++ (r ++ F)) w) : SL ((p ++ r) ++ F) w := by rwa [List.append_assoc]
theorem SL.only {l p r F : List Atom} {w : World} (is : List Nat) (S : SL (l ++ F) w) (h : X.sel is l = some (p, r)) : SL (p ++ F) w := by
 have := S.sel h
 have h2 : (p ++ (r ++ F)).Perm ((p ++ F) ++ r) := by
  rw [List.append_assoc]; exact List.Perm.append_left p List.perm_append_comm
 exact (this.perm h2).drop
theorem SL.front {A : Atom} {L : List Atom} {w : World} (S : SL (A :: L) w) :
  ∃ G h H : Hp, fit G w ∧ fit h w ∧ fit H w ∧ G.dj h ∧ G.dj H ∧ h.dj H ∧ A.holds (env w) G h ∧ sats (env w) G L H := by
 obtain ⟨G, H, a, b, c, h, h', d, e, f, g, s⟩ := S
 exact ⟨G, h, h', a, fun x o y => b x o (e x o y), fun x o y => b x o (f x o y), Hp.dj_symm (Hp.dj_le (Hp.dj_symm c) e), Hp.dj_symm (Hp.dj_le (Hp.dj_symm c) f), d, g, s⟩
theorem SL.back {A : Atom} {L : List Atom} {w : World} {G h H : Hp} (a : fit G w) (b : fit h w) (c : fit H w) (d : G.dj h) (e : G.dj H) (f : h.dj H)
  (g : A.holds (env w) G h) (s : sats (env w) G L H) : SL (A :: L) w :=
 ⟨G, h.un H, a, fun x o y => by
  simp only [Hp.un] at y
  split at y
  ·rename_i o' ho; cases y; exact b x _ ho
  ·exact c x o y, Hp.dj_symm (Hp.un_dj (Hp.dj_symm d) (Hp.dj_symm e)), h, H, f, Hp.le_un_left _ _, Hp.le_un_right f, g, s⟩
theorem fit_dj {g h : Hp} {w : World} {b : Nat} {o o' : Obj} (_ : fit g w) (d : g.dj h) (e : g b = some o) (e' : h b = some o') : False := by
 rcases d b with x | x
 ·rw [e] at x; cases x
 ·rw [e'] at x; cases x
def World.new (w : World) (o : Obj) : World := { w with heap := w.heap.push o }
theorem fit_new {h : Hp} {w : World} (a : fit h w) (o : Obj) : fit h (World.new w o) := fun b o' e => by
 have := a b o' e
 have hlt : b < w.heap.size := by
  rcases Nat.lt_or_ge b w.heap.size with x | x
  ·exact x
  ·rw [Array.getElem?_eq_none x] at this; cases this
 simp only [World.new, Array.getElem?_push, if_neg (Nat.ne_of_lt hlt)]
 exact this
theorem fit_lt {h : Hp} {w : World} (a : fit h w) {b : Nat} {o : Obj} (e : h b = some o) : b < w.heap.size := by
 rcases Nat.lt_or_ge b w.heap.size with x | x
 ·exact x
 ·have := a b o e; rw [Array.getElem?_eq_none x] at this; cases this
theorem dj_new {h : Hp} {w : World} (a : fit h w) (o : Obj) : (Hp.one w.heap.size o).dj h := fun b => by
 by_cases e : b = w.heap.size
 ·right
  cases hh : h b with
  | none => rfl
  | some o' => exact absurd (fit_lt a hh) (by omega)
 ·left; simp [Hp.one, e]
theorem SL.new {A : Atom} {L : List Atom} {w : World} (S : SL L w) (o : Obj) (g : ∀ E G, A.holds E G (Hp.one w.heap.size o)) : SL (A :: L) (World.new w o) := by
 obtain ⟨G, H, a, b, c, s⟩ := S
 refine SL.back (G := G) (h := Hp.one w.heap.size o) (H := H) (fit_new a o) ?_ (fit_new b o) (Hp.dj_symm (dj_new a o)) c (dj_new b o) (g _ _) s
 intro x o' y
 simp only [Hp.one] at y
 split at y
 ·rename_i e; cases y; subst e; exact Array.getElem?_push_size
 ·cases y
def World.put (w : World) (b : Nat) (o : Obj) : World := { w with heap := w.heap.setIfInBounds b o }
theorem SL.put {A B : Atom} {L : List Atom} {w : World} (b : Nat) (o' : Obj) (S : SL (A :: L) w)
  (hA : ∀ G h, fit G w → fit h w → A.holds (env w) G h → (∃ o, h b = some o) ∧ B.holds (env w) G (fun c => if c = b then some o' else h c)) : SL (B :: L) (World.put w b o') := by
 obtain ⟨G, h, H, a1, a2, a3, d1, d2, d3, g, s⟩ := S.front
 obtain ⟨⟨o, ho⟩, hB⟩ := hA G h a1 a2 g
 have hlt := fit_lt a2 ho
 refine SL.back (G := G) (h := fun c => if c = b then some o' else h c) (H := H) ?_ ?_ ?_ ?_ d2 ?_ hB s
 ·intro x o2 y
  simp only [World.put]
  by_cases e : x = b
  ·subst e; exact (fit_dj a1 d1 y ho).elim
  ·rw [Array.getElem?_setIfInBounds_ne (Ne.symm e)]; exact a1 x o2 y
 ·intro x o2 y
  simp only [World.put]
  by_cases e : x = b
  ·subst e; simp only [if_true] at y; cases y; rw [Array.getElem?_setIfInBounds_self_of_lt hlt]
  ·simp only [e, if_false] at y; rw [Array.getElem?_setIfInBounds_ne (Ne.symm e)]; exact a2 x o2 y
 ·intro x o2 y
  simp only [World.put]
  by_cases e : x = b
  ·subst e; exact (fit_dj a2 d3 ho y).elim
  ·rw [Array.getElem?_setIfInBounds_ne (Ne.symm e)]; exact a3 x o2 y
 ·intro x
  by_cases e : x = b
  ·subst e; rcases d1 x with z | z
   ·exact .inl z
   ·rw [ho] at z; cases z
  ·simp only [e, if_false]; exact d1 x
 ·intro x
  by_cases e : x = b
  ·subst e; rcases d3 x with z | z
   ·rw [ho] at z; cases z
   ·exact .inr z
  ·simp only [e, if_false]; exact d3 x
theorem SL.turn {A B : Atom} {L : List Atom} {w : World} (S : SL (A :: L) w) (h : ∀ G h, fit G w → fit h w → A.holds (env w) G h → B.holds (env w) G h) : SL (B :: L) w := by
 obtain ⟨G, k, H, a1, a2, a3, d1, d2, d3, g, s⟩ := S.front
 exact SL.back a1 a2 a3 d1 d2 d3 (h G k a1 a2 g) s
theorem SL.fix {A B : Atom} {L : List Atom} {w : World} (S : SL (A :: L) w) (hB : ∀ G h, G.dj h → A.holds (env w) G h → B.holds (env w) (G.un h) Hp.zero) : SL (B :: L) w := by
 obtain ⟨G, k, H, a1, a2, a3, d1, d2, d3, g, s⟩ := S.front
 refine SL.back (G := G.un k) (h := Hp.zero) (H := H) ?_ (fun _ _ e => by cases e) a3 (Hp.dj_symm (Hp.zero_dj _)) (Hp.un_dj d2 d3) (Hp.zero_dj _) (hB G k d1 g) (sats_mono (Hp.le_un_left _ _) s)
 intro x o y
 simp only [Hp.un] at y
 split at y
 ·rename_i o' ho; cases y; exact a1 x _ ho
 ·exact a2 x o y
theorem SL.more {A B : Atom} {L : List Atom} {w : World} (S : SL (A :: L) w) (h : ∀ G h, A.holds (env w) G h → B.holds (env w) G Hp.zero) : SL (B :: A :: L) w := by
 obtain ⟨G, k, H, a1, a2, a3, d1, d2, d3, g, s⟩ := S.front
 have S2 : SL (A :: L) w := S
 refine SL.back (G := G) (h := Hp.zero) (H := k.un H) a1 (fun _ _ e => by cases e) ?_ (Hp.dj_symm (Hp.zero_dj _)) (Hp.dj_symm (Hp.un_dj (Hp.dj_symm d1) (Hp.dj_symm d2))) (Hp.zero_dj _) (h G k g) ⟨k, H, d3, Hp.le_un_left _ _, Hp.le_un_right d3, g, s⟩
 intro x o y
 simp only [Hp.un] at y
 split at y
 ·rename_i o' ho; cases y; exact a2 x _ ho
 ·exact a3 x o y
theorem SL.free {B : Atom} {L : List Atom} {w : World} (S : SL L w) (h : ∀ G, B.holds (env w) G Hp.zero) : SL (B :: L) w := by
 obtain ⟨G, H, a, b, c, s⟩ := S
 exact SL.back (G := G) (h := Hp.zero) (H := H) a (fun _ _ e => by cases e) b (Hp.dj_symm (Hp.zero_dj _)) c (Hp.zero_dj _) (h G) s
def snap (w0 : World) : Atom where
 holds E G _ := E = env w0 ∧ ∀ b o, w0.heap[b]? = some o → G b = some o
 mono l h := ⟨h.1, fun b o e => l _ _ (h.2 b o e)⟩
theorem SL.snap (w : World) : SL [X.snap w] w := by
 refine SL.back (G := fun b => w.heap[b]?) (h := Hp.zero) (H := Hp.zero) (fun b o e => e) (fun _ _ e => by cases e) (fun _ _ e => by cases e) (Hp.dj_symm (Hp.zero_dj _)) (Hp.dj_symm (Hp.zero_dj _)) (Hp.zero_dj _) ⟨rfl, fun b o e => e⟩ trivial
theorem SL.below {w0 w : World} {L : List Atom} (S : SL (X.snap w0 :: L) w) : Go.RowKit.Below w0.heap.size w0 w := by
 obtain ⟨G, k, H, a1, _, _, _, _, _, ⟨he, hg⟩, _⟩ := S.front
 have h1 : w.os = w0.os := congrArg Env.os he
 have h2 : w.tape = w0.tape := congrArg Env.tape he
 have h3 : w.output = w0.output := congrArg Env.output he
 have hb : ∀ k, k < w0.heap.size → w.heap[k]? = w0.heap[k]? := fun k hk => by
  have e : w0.heap[k]? = some w0.heap[k] := Array.getElem?_eq_getElem hk
  rw [e]; exact a1 _ _ (hg k _ e)
 refine ⟨h1, h2, h3, ?_, hb⟩
 rcases Nat.lt_or_ge w.heap.size w0.heap.size with x | x
 ·have := hb w.heap.size x
  rw [Array.getElem?_eq_none (Nat.le_refl _), Array.getElem?_eq_getElem x] at this
  cases this
 ·exact x
def one? : Value → Bool
 | .agg _ | .tuple _ => false
 | _ => true
structure K (α : Type) where
 sz : Nat
 rep : Hp → α → List Value → Prop
 len : ∀ {G : Hp} {x : α} {cs : List Value}, rep G x cs → cs.length = sz
 mono : ∀ {G G' : Hp} {x : α} {cs : List Value}, G.le G' → rep G x cs → rep G' x cs
 one : ∀ {G : Hp} {x : α} {cs : List Value}, rep G x cs → ∀ v ∈ cs, one? v = true
def kInt (k : IntKind) : K Int where
 sz := 1
 rep _ n cs := cs = [.int k n]
 len h := by rw [h]; rfl
 mono _ h := h
 one h := by rw [h]; intro v hv; simp at hv; rw [hv]; rfl
def kBool : K Bool where
 sz := 1
 rep _ n cs := cs = [.bool n]
 len h := by rw [h]; rfl
 mono _ h := h
 one h := by rw [h]; intro v hv; simp at hv; rw [hv]; rfl
def kPair {α β : Type} (κ : K α) (μ : K β) : K (α × β) where
 sz := κ.sz + μ.sz
 rep G p cs := ∃ c1 c2, cs = c1 ++ c2 ∧ κ.rep G p.1 c1 ∧ μ.rep G p.2 c2
 len h := by obtain ⟨c1, c2, rfl, h1, h2⟩ := h; simp [κ.len h1, μ.len h2]
 mono l h := by obtain ⟨c1, c2, rfl, h1, h2⟩ := h; exact ⟨c1, c2, rfl, κ.mono l h1, μ.mono l h2⟩
 one h := by
  obtain ⟨c1, c2, rfl, h1, h2⟩ := h
  intro v hv
  rcases List.mem_append.1 hv with q | q
  ·exact κ.one h1 v q
  ·exact μ.one h2 v q
def kIso {α β : Type} (κ : K α) (f : β → α) : K β where
 sz := κ.sz
 rep G x cs := κ.rep G (f x) cs
 len h := κ.len h
 mono l h := κ.mono l h
 one h := κ.one h
abbrev OA := Option Addr
abbrev ki64 := kInt .i64
abbrev ku8 := kInt .u8
abbrev ku64 := kInt .u64
def cells {α : Type} (κ : K α) (G : Hp) : List α → List Value → Prop
 | [], cs => cs = []
 | x :: xs, cs => ∃ c1 c2, cs = c1 ++ c2 ∧ κ.rep G x c1 ∧ cells κ G xs c2
theorem cells.mono {α : Type} {κ : K α} {G G' : Hp} (l : G.le G') : ∀ {xs : List α} {cs : List Value}, cells κ G xs cs → cells κ G' xs cs
 | [], _, h => h
 | _ :: _, _, ⟨c1, c2, e, h1, h2⟩ => ⟨c1, c2, e, κ.mono l h1, cells.mono l h2⟩
theorem cells.len {α : Type} {κ : K α} {G : Hp} : ∀ {xs : List α} {cs : List Value}, cells κ G xs cs → cs.length = xs.length * κ.sz
 | [], _, h => by rw [h]; simp
 | _ :: xs, _, ⟨c1, c2, e, h1, h2⟩ => by rw [e, List.length_append, κ.len h1, cells.len h2, List.length_cons, Nat.succ_mul, Nat.add_comm]
theorem cells.one {α : Type} {κ : K α} {G : Hp} : ∀ {xs : List α} {cs : List Value}, cells κ G xs cs → ∀ v ∈ cs, one? v = true
 | [], _, h, v, hv => by rw [h] at hv; simp at hv
 | _ :: xs, _, ⟨c1, c2, e, h1, h2⟩, v, hv => by
  rw [e] at hv
  rcases List.mem_append.1 hv with q | q
  ·exact κ.one h1 v q
  ·exact cells.one h2 v q
theorem cells.append {α : Type} {κ : K α} {G : Hp} {ys : List α} {ds : List Value} (h' : cells κ G ys ds) : ∀ {xs : List α} {cs : List Value}, cells κ G xs cs → cells κ G (xs ++ ys) (cs ++ ds)
 | [], _, h => by rw [h]; exact h'
 | _ :: _, _, ⟨c1, c2, e, h1, h2⟩ => ⟨c1, c2 ++ ds, by rw [e, List.append_assoc], h1, cells.append h' h2⟩
theorem cells.get {α : Type} {κ : K α} {G : Hp} : ∀ {xs : List α} {cs : List Value}, cells κ G xs cs → ∀ {i : Nat} {x : α}, xs[i]? = some x →
  ∃ ds, κ.rep G x ds ∧ ∀ j v, ds[j]? = some v → cs[i * κ.sz + j]? = some v
 | [], _, _, i, x, e => by simp at e
 | y :: xs, _, ⟨c1, c2, e, h1, h2⟩, 0, x, ex => by
  simp at ex
  subst ex
  refine ⟨c1, h1, fun j v hv => ?_⟩
  rw [e, Nat.zero_mul, Nat.zero_add, List.getElem?_append_left]
  ·exact hv
  ·rcases Nat.lt_or_ge j c1.length with q | q
   ·exact q
   ·rw [List.getElem?_eq_none q] at hv; cases hv
 | y :: xs, _, ⟨c1, c2, e, h1, h2⟩, i + 1, x, ex => by
  simp at ex
  obtain ⟨ds, r1, r2⟩ := cells.get h2 ex
  refine ⟨ds, r1, fun j v hv => ?_⟩
  rw [e, List.getElem?_append_right (by rw [κ.len h1, Nat.succ_mul]; omega), κ.len h1]
  rw [← r2 j v hv]; congr 1; rw [Nat.succ_mul]; omega
theorem cells.drop {α : Type} {κ : K α} {G : Hp} : ∀ {xs : List α} {cs : List Value} (i : Nat), cells κ G xs cs → cells κ G (xs.drop i) (cs.drop (i * κ.sz))
 | xs, cs, 0, h => by simpa using h
 | [], _, i + 1, h => by rw [h]; simp [cells]
 | x :: xs, _, i + 1, ⟨c1, c2, e, h1, h2⟩ => by
  rw [e, List.drop_succ_cons, Nat.succ_mul, Nat.add_comm, ← List.drop_drop, ← κ.len h1, List.drop_left, κ.len h1]
  exact cells.drop i h2
theorem cells.take {α : Type} {κ : K α} {G : Hp} : ∀ {xs : List α} {cs : List Value} (i : Nat), cells κ G xs cs → cells κ G (xs.take i) (cs.take (i * κ.sz))
 | xs, cs, 0, h => by simp [cells]
 | [], _, i + 1, h => by rw [h]; simp [cells]
 | x :: xs, _, i + 1, ⟨c1, c2, e, h1, h2⟩ => by
  refine ⟨c1, c2.take (i * κ.sz), ?_, h1, cells.take i h2⟩
  rw [e, Nat.succ_mul, Nat.add_comm, ← κ.len h1, List.take_length_add_append]
theorem cells.set {α : Type} {κ : K α} {G : Hp} {y : α} {v : Value} (hv : κ.rep G y [v]) : ∀ {xs : List α} {cs : List Value} (i : Nat), cells κ G xs cs → cells κ G (xs.set i y) (cs.set i v)
 | [], _, i, h => by rw [h]; simp [cells]
 | x :: xs, _, 0, ⟨c1, c2, e, h1, h2⟩ => by
  have := κ.len h1
  have h3 := κ.len hv
  match c1, this with
  | [u], _ => exact ⟨[v], c2, by rw [e]; rfl, hv, h2⟩
  | [], q => rw [← h3] at q; simp at q
  | _ :: _ :: _, q => rw [← h3] at q; simp at q
 | x :: xs, _, i + 1, ⟨c1, c2, e, h1, h2⟩ => by
  have := κ.len h1
  have h3 := κ.len hv
  match c1, this, h1 with
  | [u], _, h1 => exact ⟨[u], c2.set i v, by rw [e]; rfl, h1, cells.set hv i h2⟩
  | [], q, _ => rw [← h3] at q; simp at q
  | _ :: _ :: _, q, _ => rw [← h3] at q; simp at q
def els {α : Type} (κ : K α) (G : Hp) (arr : Array Value) (o : Nat) (xs : List α) : Prop :=
 ∃ cs, cells κ G xs cs ∧ ∀ (j : Nat) v, cs[j]? = some v → arr[o + j]? = some v
theorem els.mono {α : Type} {κ : K α} {G G' : Hp} {arr : Array Value} {o : Nat} {xs : List α} (l : G.le G') (h : els κ G arr o xs) : els κ G' arr o xs := by
 obtain ⟨cs, h1, h2⟩ := h; exact ⟨cs, h1.mono l, h2⟩
theorem els.get {α : Type} {κ : K α} {G : Hp} {arr : Array Value} {o : Nat} {xs : List α} (h : els κ G arr o xs) (i : Nat) (x : α) (e : xs[i]? = some x) :
  ∃ cs, κ.rep G x cs ∧ ∀ (j : Nat) v, cs[j]? = some v → arr[o + i * κ.sz + j]? = some v := by
 obtain ⟨cs, h1, h2⟩ := h
 obtain ⟨ds, r1, r2⟩ := h1.get e
 exact ⟨ds, r1, fun j v hv => by rw [Nat.add_assoc]; exact h2 _ _ (r2 j v hv)⟩
def unfrozen (arr : Array Value) (fr : Nat × Nat) : Prop := fr.1 = fr.2 ∨ arr.size ≤ fr.1
theorem unfrozen.at_ {arr : Array Value} {fr : Nat × Nat} (u : unfrozen arr fr) (o : Nat) (h : o < arr.size) : ¬ (fr.1 ≤ o ∧ o < fr.2) := by
 rcases u with u | u <;> omega
theorem unfrozen.of {arr arr' : Array Value} {fr : Nat × Nat} (u : unfrozen arr fr) (h : arr'.size = arr.size) : unfrozen arr' fr := by
 unfold unfrozen at *; omega
def roR {α : Type} (κ : K α) (G : Hp) (A : Option Addr) (c : Nat) (xs : List α) : Prop :=
 xs.length ≤ c ∧ (A = none → c = 0) ∧ (xs = [] ∨ ∃ b o arr e fr, A = some ⟨b, o, none⟩ ∧ G b = some (.cells arr e fr) ∧ els κ G arr o xs)
def owR {α : Type} (κ : K α) (G h : Hp) (A : Option Addr) (c : Nat) (xs : List α) : Prop :=
 xs.length ≤ c ∧ ((A = none ∧ c = 0) ∨ ∃ b o arr e fr, A = some ⟨b, o, none⟩ ∧ h b = some (.cells arr e fr) ∧ unfrozen arr fr ∧ o + c * κ.sz ≤ arr.size ∧ els κ G arr o xs)
theorem roR.mono {α : Type} {κ : K α} {G G' : Hp} {A : Option Addr} {c : Nat} {xs : List α} (l : G.le G') (h : roR κ G A c xs) : roR κ G' A c xs := by
 obtain ⟨h0, h00, h⟩ := h
 refine ⟨h0, h00, h.imp id ?_⟩
 rintro ⟨b, o, arr, e, fr, h1, h2, h3⟩
 exact ⟨b, o, arr, e, fr, h1, l _ _ h2, h3.mono l⟩
def eA (A : Option Addr) (j : Nat) : Addr := ⟨(A.getD ⟨0, 0, none⟩).block, (A.getD ⟨0, 0, none⟩).off + j, none⟩
theorem eA_some (b o j : Nat) : eA (some ⟨b, o, none⟩) j = ⟨b, o + j, none⟩ := rfl
theorem add_eA (b o j : Nat) : (⟨b, o, none⟩ : Addr).add j = eA (some ⟨b, o, none⟩) j := by
 unfold Addr.add eA
 split
 ·rename_i h; simp [h]
 ·rfl
theorem eA_add (A : Option Addr) (i j : Nat) : (eA A i).add j = eA A (i + j) := by
 unfold Addr.add eA
 split
 ·rename_i h; simp [h]
 ·simp [Nat.add_assoc]
inductive Md where
 | ro | own
 | part (off : Nat) (zs : List Value)
 | plus (Q : Hp → Prop)
def sl {α : Type} (m : Md) (κ : K α) (A : Option Addr) (c : Nat) (xs : List α) : Atom where
 holds _ G h := match m with
  | .own => owR κ G h A c xs
  | .ro => roR κ G A c xs
  | .part off zs => owR κ G h A c xs ∧ ∀ (k : Nat) v, zs[k]? = some v → ∃ arr e fr, h (eA A (off + k)).block = some (.cells arr e fr) ∧ arr[(eA A (off + k)).off]? = some v
  | .plus Q => owR κ G h A c xs ∧ Q h
 mono l h := by
  cases m with
  | ro => exact roR.mono l h
  | own =>
   obtain ⟨h0, h⟩ := h
   refine ⟨h0, h.imp id ?_⟩
   rintro ⟨b, o, arr, e, fr, h1, h2, h3, h4, h5⟩
   exact ⟨b, o, arr, e, fr, h1, h2, h3, h4, h5.mono l⟩
  | part off zs =>
   obtain ⟨⟨h0, h⟩, h'⟩ := h
   refine ⟨⟨h0, h.imp id ?_⟩, h'⟩
   rintro ⟨b, o, arr, e, fr, h1, h2, h3, h4, h5⟩
   exact ⟨b, o, arr, e, fr, h1, h2, h3, h4, h5.mono l⟩
  | plus Q =>
   obtain ⟨⟨h0, h⟩, h'⟩ := h
   refine ⟨⟨h0, h.imp id ?_⟩, h'⟩
   rintro ⟨b, o, arr, e, fr, h1, h2, h3, h4, h5⟩
   exact ⟨b, o, arr, e, fr, h1, h2, h3, h4, h5.mono l⟩
def kSl {α : Type} (κ : K α) : K (List α) where
 sz := 1
 rep G xs cs := ∃ A c, cs = [.slice A xs.length c] ∧ roR κ G A c xs
 len h := by obtain ⟨A, c, rfl, _⟩ := h; rfl
 mono l h := by obtain ⟨A, c, e, h⟩ := h; exact ⟨A, c, e, h.mono l⟩
 one h := by obtain ⟨A, c, rfl, _⟩ := h; intro v hv; simp at hv; rw [hv]; rfl
def blk (b : Nat) (cs : List Value) : Atom where
 holds _ _ h := ∃ e fr, h b = some (.cells cs.toArray e fr) ∧ unfrozen cs.toArray fr
 mono _ h := h
def rp {α : Type} (κ : K α) (x : α) (cs : List Value) : Atom where
 holds _ G _ := κ.rep G x cs
 mono l h := κ.mono l h
def pr (p : Prop) : Atom where
 holds _ _ _ := p
 mono _ h := h
theorem SL.mem {L : List Atom} {w : World} {A : Atom} {i : Nat} (S : SL L w) (h : L[i]? = some A) :
  ∃ G k : Hp, fit G w ∧ fit k w ∧ G.dj k ∧ A.holds (env w) G k := by
 obtain ⟨G, H, a, b, c, s⟩ := S
 have key : ∀ (L : List Atom) (i : Nat) (H : Hp), L[i]? = some A → sats (env w) G L H → ∃ k : Hp, k.le H ∧ A.holds (env w) G k := by
  intro L
  induction L with
  | nil => intro i H h; simp at h
  | cons B L ih =>
   intro i H h s
   obtain ⟨h1, h2, d, l1, l2, c1, s1⟩ := s
   cases i with
   | zero => simp at h; subst h; exact ⟨h1, l1, c1⟩
   | succ i =>
    simp at h
    obtain ⟨k, l, hk⟩ := ih i h2 h s1
    exact ⟨k, Hp.le_trans l l2, hk⟩
 obtain ⟨k, l, hk⟩ := key L i H h s
 exact ⟨G, k, a, fun x o y => b x o (l x o y), Hp.dj_symm (Hp.dj_le (Hp.dj_symm c) l), hk⟩
theorem SL.memF {L F : List Atom} {w : World} {A : Atom} {i : Nat} (S : SL (L ++ F) w) (h : L[i]? = some A) :
  ∃ G k : Hp, fit G w ∧ fit k w ∧ G.dj k ∧ A.holds (env w) G k := S.drop.mem h
theorem get_perm : ∀ {L : List Atom} {i : Nat} {A : Atom}, L[i]? = some A → L.Perm (A :: L.eraseIdx i)
 | [], i, A, h => by simp at h
 | B :: L, 0, A, h => by simp at h; subst h; exact .refl _
 | B :: L, i + 1, A, h => by
  simp at h
  exact ((get_perm h).cons B).trans (.swap _ _ _)
theorem set_perm : ∀ {L : List Atom} {i : Nat} {A B : Atom}, L[i]? = some A → (L.set i B).Perm (B :: L.eraseIdx i)
 | [], i, A, B, h => by simp at h
 | C :: L, 0, A, B, h => .refl _
 | C :: L, i + 1, A, B, h => by
  simp at h
  exact ((set_perm (B := B) h).cons C).trans (.swap _ _ _)
theorem SL.upd {L F : List Atom} {w w' : World} {A B : Atom} {i : Nat} (S : SL (L ++ F) w) (h : L[i]? = some A)
  (f : ∀ M, SL (A :: M) w → SL (B :: M) w') : SL (L.set i B ++ F) w' :=
 (f (L.eraseIdx i ++ F) (S.perm ((get_perm h).append_right F))).perm (((set_perm h).append_right F).symm)
theorem fit_cell {h : Hp} {w : World} (a : fit h w) {b : Nat} {arr : Array Value} {e : TypeId} {fr : Nat × Nat} (hb : h b = some (.cells arr e fr)) {o : Nat} {v : Value}
  (ho : arr[o]? = some v) : w.cell? ⟨b, o, none⟩ = some v := by
 simp [World.cell?, a b _ hb, ho]
structure Fld {α β : Type} (κ : K α) (off : Nat) (μ : K β) (g : α → β) : Prop where
 rep : ∀ {G : Hp} {x : α} {cs : List Value}, κ.rep G x cs → ∃ ds, μ.rep G (g x) ds ∧ ∀ (j : Nat) v, ds[j]? = some v → cs[off + j]? = some v
theorem Fld.all {α : Type} (κ : K α) : Fld κ 0 κ (fun x => x) := ⟨fun h => ⟨_, h, fun j v e => by simpa using e⟩⟩
theorem Fld.fst {α β γ : Type} {κ : K α} {ν : K γ} {off : Nat} {μ : K β} {g : α → β} (h : Fld κ off μ g) : Fld (kPair κ ν) off μ (fun p => g p.1) := by
 constructor
 rintro G ⟨x, y⟩ cs ⟨c1, c2, rfl, h1, h2⟩
 obtain ⟨ds, h3, h4⟩ := h.rep h1
 refine ⟨ds, h3, fun j v e => ?_⟩
 have := h4 j v e
 rw [List.getElem?_append_left]
 ·exact this
 ·rcases Nat.lt_or_ge (off + j) c1.length with q | q
  ·exact q
  ·rw [List.getElem?_eq_none q] at this; cases this
theorem Fld.snd {α β γ : Type} {κ : K α} {ν : K γ} {off : Nat} {μ : K β} {g : γ → β} (h : Fld ν off μ g) : Fld (kPair κ ν) (κ.sz + off) μ (fun p => g p.2) := by
 constructor
 rintro G ⟨x, y⟩ cs ⟨c1, c2, rfl, h1, h2⟩
 obtain ⟨ds, h3, h4⟩ := h.rep h2
 refine ⟨ds, h3, fun j v e => ?_⟩
 have := h4 j v e
 rw [List.getElem?_append_right (by rw [κ.len h1]; omega), κ.len h1]
 rw [← this]; congr 1; omega
theorem Fld.iso {α β γ : Type} {κ : K α} {off : Nat} {μ : K β} {g : α → β} (h : Fld κ off μ g) (f : γ → α) : Fld (kIso κ f) off μ (fun x => g (f x)) :=
 ⟨fun r => h.rep r⟩
def gi {α : Type} (d : α) (xs : List α) (i : Int) : α := (xs[i.toNat]?).getD d
theorem gi_get {α : Type} (d : α) (xs : List α) (i : Int) (h : i.toNat < xs.length) : xs[i.toNat]? = some (gi d xs i) := by
 simp [gi, h]
theorem sl_part {α β : Type} {m : Md} {κ : K α} {A : Option Addr} {c : Nat} {xs : List α} {E : Env} {G h : Hp} (s : (sl m κ A c xs).holds E G h) {w : World} (fG : fit G w) (fh : fit h w)
  {off : Nat} {μ : K β} {g : α → β} (hf : Fld κ off μ g) (d : α) {i : Int} (h1 : i.toNat < xs.length) :
  ∃ ds, μ.rep G (g (gi d xs i)) ds ∧ ∀ (j : Nat) v, ds[j]? = some v → w.cell? (eA A (i.toNat * κ.sz + off + j)) = some v := by
 have hx := gi_get d xs i h1
 have hne : xs ≠ [] := by intro e; subst e; simp at h1
 have key : ∃ b o arr e fr, A = some ⟨b, o, none⟩ ∧ (∀ {o : Nat} {v : Value}, arr[o]? = some v → w.cell? ⟨b, o, none⟩ = some v) ∧ els κ G arr o xs ∧ e = (0 : Nat) ∧ fr = (0 : Nat) := by
  cases m with
  | ro =>
   obtain ⟨_, _, q | ⟨b, o, arr, e, fr, q1, q2, q3⟩⟩ := s
   ·exact absurd q hne
   ·exact ⟨b, o, arr, 0, 0, q1, fun ho => fit_cell fG q2 ho, q3, rfl, rfl⟩
  | part off zs =>
   obtain ⟨⟨q0, ⟨q, q'⟩ | ⟨b, o, arr, e, fr, q1, q2, q3, q4, q5⟩⟩, _⟩ := s
   ·subst q'; exact absurd (List.eq_nil_of_length_eq_zero (by omega)) hne
   ·exact ⟨b, o, arr, 0, 0, q1, fun ho => fit_cell fh q2 ho, q5, rfl, rfl⟩
  | plus Q =>
   obtain ⟨⟨q0, ⟨q, q'⟩ | ⟨b, o, arr, e, fr, q1, q2, q3, q4, q5⟩⟩, _⟩ := s
   ·subst q'; exact absurd (List.eq_nil_of_length_eq_zero (by omega)) hne
   ·exact ⟨b, o, arr, 0, 0, q1, fun ho => fit_cell fh q2 ho, q5, rfl, rfl⟩
  | own =>
   obtain ⟨q0, ⟨q, q'⟩ | ⟨b, o, arr, e, fr, q1, q2, q3, q4, q5⟩⟩ := s
   ·subst q'; exact absurd (List.eq_nil_of_length_eq_zero (by omega)) hne
   ·exact ⟨b, o, arr, 0, 0, q1, fun ho => fit_cell fh q2 ho, q5, rfl, rfl⟩
 obtain ⟨b, o, arr, _, _, rfl, hc, he, _, _⟩ := key
 obtain ⟨cs, r1, r2⟩ := he.get _ _ hx
 obtain ⟨ds, r3, r4⟩ := hf.rep r1
 refine ⟨ds, r3, fun j v e => ?_⟩
 rw [eA_some]
 have := hc (r2 _ _ (r4 j v e))
 rw [← this]; congr 2; omega
theorem sl_some {α : Type} {m : Md} {κ : K α} {A : Option Addr} {c : Nat} {xs : List α} {E : Env} {G h : Hp} (s : (sl m κ A c xs).holds E G h) (hne : 0 < xs.length) :
  ∃ b o, A = some ⟨b, o, none⟩ := by
 have hne' : xs ≠ [] := by intro e; subst e; simp at hne
 cases m with
 | ro =>
  obtain ⟨_, _, q | ⟨b, o, arr, e, fr, q1, q2, q3⟩⟩ := s
  ·exact absurd q hne'
  ·exact ⟨b, o, q1⟩
 | part off zs =>
  obtain ⟨⟨q0, ⟨q, q'⟩ | ⟨b, o, arr, e, fr, q1, q2, q3, q4, q5⟩⟩, _⟩ := s
  ·subst q'; omega
  ·exact ⟨b, o, q1⟩
 | plus Q =>
  obtain ⟨⟨q0, ⟨q, q'⟩ | ⟨b, o, arr, e, fr, q1, q2, q3, q4, q5⟩⟩, _⟩ := s
  ·subst q'; omega
  ·exact ⟨b, o, q1⟩
 | own =>
  obtain ⟨q0, ⟨q, q'⟩ | ⟨b, o, arr, e, fr, q1, q2, q3, q4, q5⟩⟩ := s
  ·subst q'; omega
  ·exact ⟨b, o, q1⟩
theorem sl_len {α : Type} {m : Md} {κ : K α} {A : Option Addr} {c : Nat} {xs : List α} {E : Env} {G h : Hp} (s : (sl m κ A c xs).holds E G h) : xs.length ≤ c := by
 cases m with
 | ro => exact s.1
 | own => exact s.1
 | part off zs => exact s.1.1
 | plus Q => exact s.1.1
def wr (k : IntKind) (x : Int) : Int := k.wrap x
def bAnd (k : IntKind) (x y : Int) : Int := k.wrap (BitVec.ofInt k.bits x &&& BitVec.ofInt k.bits y).toNat
def bOr (k : IntKind) (x y : Int) : Int := k.wrap (BitVec.ofInt k.bits x ||| BitVec.ofInt k.bits y).toNat
def bXor (k : IntKind) (x y : Int) : Int := k.wrap (BitVec.ofInt k.bits x ^^^ BitVec.ofInt k.bits y).toNat
def bAndNot (k : IntKind) (x y : Int) : Int := k.wrap (BitVec.ofInt k.bits x &&& ~~~(BitVec.ofInt k.bits y)).toNat
def sShl (k : IntKind) (x y : Int) : Int := k.wrap (x * 2 ^ (min y.toNat k.bits))
def sShr (k : IntKind) (x y : Int) : Int := x.fdiv (2 ^ (min y.toNat k.bits))
def bNot (k : IntKind) (x : Int) : Int := bXor k (if k.signed then -1 else k.max) x
section
variable {Y : Bool} {P : Program} {ops : Array Oper} {N : Act → World → Prop} {rest : List Oper} {n : Nat} {t : List (Nat × Value)} {a : Act} {w : World}
variable {d : Nat} {ty : TypeId} {pos : String} {after : Array Edge} {l F : List Atom}
theorem wpN_val {o : Oper} {v : Value} {w' : World} (hg : o.guard = none) (hr : (execOp a.eval o).run P w = .ok (.value v) w')
  (h : wpN Y P ops N rest (a.put o.dst v) w') : wpN Y P ops N (o :: rest) a w := by
 simp only [wpN, Region.wanted, hg, if_true, hr, wpY]
 exact h
theorem wpN_skip {o : Oper} {w' : World} (hg : o.guard = none) (hr : (execOp a.eval o).run P w = .ok .skip w')
  (h : wpN Y P ops N rest (a.put o.dst undef) w') : wpN Y P ops N (o :: rest) a w := by
 simp only [wpN, Region.wanted, hg, if_true, hr, wpY]
 exact h
theorem g_yes {dst : Option Nat} {op : Op} {j d' : Nat} {want : Bool} {g : Bool} (T : Tm n t a) (hj : (ops[j]?).bind (·.dst) = some d') (hv : lk t d' = some (.bool g)) (hgw : g = want)
  (h : wpN Y P ops N (⟨dst, op, ty, pos, after, none⟩ :: rest) a w) : wpN Y P ops N (⟨dst, op, ty, pos, after, some (j, want)⟩ :: rest) a w := by
 have hy : yielded ops a.tmps j = some want := by
  simp only [yielded, hj, Option.bind_some, T.at_ _ _ hv, hgw]
 simp only [wpN, Region.wanted, hy, beq_self_eq_true, if_true] at h ⊢
 exact h
theorem g_no {op : Op} {j d' : Nat} {want : Bool} {g : Bool} (T : Tm n t a) (hj : (ops[j]?).bind (·.dst) = some d') (hv : lk t d' = some (.bool g)) (hgw : g = !want) (hd : Nat.blt d n = true)
  (h : ∀ a', Tm n ((d, undef) :: t) a' → wpN Y P ops N rest a' w) : wpN Y P ops N (⟨some d, op, ty, pos, after, some (j, want)⟩ :: rest) a w := by
 have hy : yielded ops a.tmps j = some (!want) := by
  simp only [yielded, hj, Option.bind_some, T.at_ _ _ hv, hgw]
 have hne : ((some (!want) : Option Bool) == some want) = false := by cases want <;> rfl
 simp only [wpN, Region.wanted, hy, hne]
 exact h _ (T.put hd _)
theorem g_und {op : Op} {j d' : Nat} {want : Bool} (T : Tm n t a) (hj : (ops[j]?).bind (·.dst) = some d') (hv : lk t d' = some undef) (hd : Nat.blt d n = true)
  (h : ∀ a', Tm n ((d, undef) :: t) a' → wpN Y P ops N rest a' w) : wpN Y P ops N (⟨some d, op, ty, pos, after, some (j, want)⟩ :: rest) a w := by
 have hy : yielded ops a.tmps j = none := by
  simp only [yielded, hj, Option.bind_some, T.at_ _ _ hv, undef]
 have hne : ((none : Option Bool) == some want) = false := rfl
 simp only [wpN, Region.wanted, hy, hne]
 exact h _ (T.put hd _)
def pvBin (op : BinOp) (k : IntKind) (x y : Int) : Option Value :=
 match op with
 | .add => some (.int k (wr k (x + y)))
 | .sub => some (.int k (wr k (x - y)))
 | .mul => some (.int k (wr k (x * y)))
 | .and => some (.int k (bAnd k x y))
 | .or => some (.int k (bOr k x y))
 | .xor => some (.int k (bXor k x y))
 | .andNot => some (.int k (bAndNot k x y))
 | .eql => some (.bool (x == y))
 | .neq => some (.bool (x != y))
 | .lss => some (.bool (decide (x < y)))
 | .leq => some (.bool (decide (x ≤ y)))
 | .gtr => some (.bool (decide (x > y)))
 | .geq => some (.bool (decide (x ≥ y)))
 | _ => none
def pvStr (op : BinOp) (x y : ByteArray) : Option Value :=
 match op with
 | .eql => some (.bool (x.toList == y.toList))
 | .neq => some (.bool (!(x.toList == y.toList)))
 | .lss => some (.bool (Op.bytesLess x.toList y.toList))
 | .leq => some (.bool (Op.bytesLess x.toList y.toList || x.toList == y.toList))
 | .gtr => some (.bool (!(Op.bytesLess x.toList y.toList || x.toList == y.toList)))
 | .geq => some (.bool (!(Op.bytesLess x.toList y.toList)))
 | _ => none
def pv (t : List (Nat × Value)) : Op → Option Value
 | .move x => ev t x
 | .assign x => ev t x
 | .nilCheck x => match ev t x with
  | some (.pointer (some ad)) => some (.pointer (some ad))
  | _ => none
 | .binOp op _ x y _ => match ev t x, ev t y with
  | some (.int k u), some (.int k' v) => if k = k' then pvBin op k u v else none
  | some (.string u), some (.string v) => pvStr op u v
  | _, _ => none
 | .unOp op _ x => match op, ev t x with
  | .not, some (.bool b) => some (.bool !b)
  | .neg, some (.int k u) => some (.int k (wr k (0 - u)))
  | .xor, some (.int k u) => some (.int k (bNot k u))
  | _, _ => none
 | .pick c x y => match ev t c with
  | some (.bool b) => if b then ev t x else ev t y
  | _ => none
 | .extract x i => match ev t x with
  | some (.tuple vs) => vs[i]?
  | _ => none
 | .makeFunc fn f c => match evs t f.toList, evs t c.toList with
  | some f, some c => some (.func fn f.toArray c.toArray)
  | _, _ => none
 | _ => none
theorem eqGuard_int {op : BinOp} {xt : TypeId} {x y : Operand} {k k' : IntKind} {u v : Int} : (eqGuard op xt x y (.int k u) (.int k' v)).run P w = .ok () w := by
 cases op <;> rfl
theorem eqGuard_str {op : BinOp} {xt : TypeId} {x y : Operand} {u v : ByteArray} : (eqGuard op xt x y (.string u) (.string v)).run P w = .ok () w := by
 cases op <;> rfl
theorem eqGuard_bool {op : BinOp} {xt : TypeId} {x y : Operand} {u v : Bool} : (eqGuard op xt x y (.bool u) (.bool v)).run P w = .ok () w := by
 cases op <;> rfl
theorem run_bin_int {op : BinOp} {xt : TypeId} {k : IntKind} {u v : Int} {r : Value} (h : pvBin op k u v = some r) : (binOp op xt (.int k u) (.int k v)).run P w = .ok r w := by
 cases op <;> simp only [pvBin, Option.some.injEq, reduceCtorEq] at h <;> subst h <;> simp [binOp, Op.intArith, Op.intBits, Op.intCmp, wr, bAnd, bOr, bXor, bAndNot]
theorem run_bin_str {op : BinOp} {xt : TypeId} {u v : ByteArray} {r : Value} (h : pvStr op u v = some r) : (binOp op xt (.string u) (.string v)).run P w = .ok r w := by
 cases op <;> simp only [pvStr, Option.some.injEq, reduceCtorEq] at h <;> subst h <;> simp [binOp, Op.stringOp]
theorem run_pv {o : Oper} {v : Value} (T : Tm n t a) (h : pv t o.op = some v) : (execOp a.eval o).run P w = .ok (.value v) w := by
 obtain ⟨dst, op, oty, opos, oafter, og⟩ := o
 simp only at h
 cases op <;> simp only [pv, reduceCtorEq] at h
 case move x => simp [execOp, T.ev h]
 case assign x => simp [execOp, T.ev h]
 case nilCheck x =>
  split at h
  ·rename_i ad h1; cases h; simp [execOp, T.ev h1]
  ·cases h
 case binOp op xt x y yt =>
  split at h
  ·rename_i k u k' v' h1 h2
   split at h
   ·rename_i hk; subst hk
    simp [execOp, T.ev h1, T.ev h2, eqGuard_int, run_bin_int h]
   ·cases h
  ·rename_i u v' h1 h2
   simp [execOp, T.ev h1, T.ev h2, eqGuard_str, run_bin_str h]
  ·cases h
 case unOp op xt x =>
  split at h
  ·rename_i b h1; cases h; simp [execOp, T.ev h1, Op.unary]
  ·rename_i k u h1; cases h; simp [execOp, T.ev h1, Op.unary, Op.intArith, wr]
  ·rename_i k u h1; cases h; simp [execOp, T.ev h1, Op.unary, Op.intBits, bNot, bXor]
  ·cases h
 case pick c x y =>
  split at h
  ·rename_i b h1
   cases b with
   | true => have h : ev t x = some v := h; simp [execOp, T.ev h1, T.ev h, asBool]
   | false => have h : ev t y = some v := h; simp [execOp, T.ev h1, T.ev h, asBool]
  ·cases h
 case extract x i =>
  split at h
  ·rename_i vs h1; simp [execOp, T.ev h1, Instr.extract, h]
  ·cases h
 case makeFunc fn f c =>
  split at h
  ·rename_i f' c' h1 h2
   cases h
   have e1 := T.evs h1
   have e2 := T.evs h2
   simp only [execOp, Instr.makeFunc]
   have g1 : f.map a.eval = f'.toArray := Array.ext' (by simpa using e1)
   have g2 : c.map a.eval = c'.toArray := Array.ext' (by simpa using e2)
   rw [g1, g2]; simp
  ·cases h
theorem r_pv {op : Op} {v : Value} (T : Tm n t a) (h : pv t op = some v) (hd : Nat.blt d n = true)
  (next : ∀ a', Tm n ((d, v) :: t) a' → wpN Y P ops N rest a' w) : wpN Y P ops N (⟨some d, op, ty, pos, after, none⟩ :: rest) a w :=
 wpN_val rfl (run_pv T h) (next _ (T.put hd v))
def pvd (n d : Nat) (t : List (Nat × Value)) (op : Op) : Option Value := match Nat.blt d n with | true => pv t op | false => none
theorem pvd_of {op : Op} {v : Value} {t : List (Nat × Value)} {n d : Nat} (h : pvd n d t op = some v) : pv t op = some v ∧ Nat.blt d n = true := by
 unfold pvd at h
 split at h
 ·rename_i q; exact ⟨h, q⟩
 ·cases h
theorem v1 {op : Op} {v : Value} (T : Tm n t a) (h : pvd n d t op = some v)
  (next : ∀ {a'}, Tm n ((d, v) :: t) a' → wpN Y P ops N rest a' w) : wpN Y P ops N (⟨some d, op, ty, pos, after, none⟩ :: rest) a w :=
 r_pv T (pvd_of h).1 (pvd_of h).2 fun _ => next
theorem v2 {op op' : Op} {v v' : Value} {d' : Nat} {ty' : TypeId} {pos' : String} {after' : Array Edge} (T : Tm n t a) (h : pvd n d t op = some v) (h' : pvd n d' ((d, v) :: t) op' = some v')
  (next : ∀ {a'}, Tm n ((d', v') :: (d, v) :: t) a' → wpN Y P ops N rest a' w) : wpN Y P ops N (⟨some d, op, ty, pos, after, none⟩ :: ⟨some d', op', ty', pos', after', none⟩ :: rest) a w :=
 v1 T h fun T => v1 T h' next
theorem v3 {op op' op2 : Op} {v v' u2 : Value} {d' d2 : Nat} {ty' ty2 : TypeId} {pos' pos2 : String} {after' after2 : Array Edge} (T : Tm n t a) (h : pvd n d t op = some v) (h' : pvd n d' ((d, v) :: t) op' = some v') (h2 : pvd n d2 ((d', v') :: (d, v) :: t) op2 = some u2)
  (next : ∀ {a'}, Tm n ((d2, u2) :: (d', v') :: (d, v) :: t) a' → wpN Y P ops N rest a' w) : wpN Y P ops N (⟨some d, op, ty, pos, after, none⟩ :: ⟨some d', op', ty', pos', after', none⟩ :: ⟨some d2, op2, ty2, pos2, after2, none⟩ :: rest) a w :=
 v2 T h h' fun T => v1 T h2 next
def gvd (ops : Array Oper) (t : List (Nat × Value)) (j : Nat) : Option Value := ((ops[j]?).bind (·.dst)).bind (lk t)
theorem gvd_of {ops : Array Oper} {t : List (Nat × Value)} {j : Nat} {v : Value} (h : gvd ops t j = some v) : ∃ d', (ops[j]?).bind (·.dst) = some d' ∧ lk t d' = some v := by
 unfold gvd at h
 cases q : (ops[j]?).bind (·.dst) with
 | none => rw [q] at h; cases h
 | some d' => rw [q] at h; exact ⟨d', rfl, h⟩
theorem gy {dst : Option Nat} {op : Op} {j : Nat} {want : Bool} {g : Bool} (T : Tm n t a) (hv : gvd ops t j = some (.bool g)) (hgw : g = want)
  (h : wpN Y P ops N (⟨dst, op, ty, pos, after, none⟩ :: rest) a w) : wpN Y P ops N (⟨dst, op, ty, pos, after, some (j, want)⟩ :: rest) a w := by
 obtain ⟨d', h1, h2⟩ := gvd_of hv
 exact g_yes T h1 h2 hgw h
def gvn (n d : Nat) (ops : Array Oper) (t : List (Nat × Value)) (j : Nat) : Option Value := match Nat.blt d n with | true => gvd ops t j | false => none
theorem gn {op : Op} {j : Nat} {want : Bool} {g : Bool} (T : Tm n t a) (hv : gvn n d ops t j = some (.bool g)) (hgw : g = !want)
  (h : ∀ {a'}, Tm n ((d, undef) :: t) a' → wpN Y P ops N rest a' w) : wpN Y P ops N (⟨some d, op, ty, pos, after, some (j, want)⟩ :: rest) a w := by
 unfold gvn at hv
 split at hv
 ·rename_i q
  obtain ⟨d', h1, h2⟩ := gvd_of hv
  exact g_no T h1 h2 hgw q fun _ => h
 ·cases hv
theorem pT {c x y : Operand} {b : Bool} {v : Value} (T : Tm n t a) (hc : ev t c = some (.bool b)) (hb : b = true) (hx : ev t x = some v) (hd : Nat.blt d n = true)
  (next : ∀ a', Tm n ((d, v) :: t) a' → wpN Y P ops N rest a' w) : wpN Y P ops N (⟨some d, .pick c x y, ty, pos, after, none⟩ :: rest) a w :=
 wpN_val rfl (by simp [execOp, T.ev hc, T.ev hx, asBool, hb]) (next _ (T.put hd v))
theorem pF {c x y : Operand} {b : Bool} {v : Value} (T : Tm n t a) (hc : ev t c = some (.bool b)) (hb : b = false) (hx : ev t y = some v) (hd : Nat.blt d n = true)
  (next : ∀ a', Tm n ((d, v) :: t) a' → wpN Y P ops N rest a' w) : wpN Y P ops N (⟨some d, .pick c x y, ty, pos, after, none⟩ :: rest) a w :=
 wpN_val rfl (by simp [execOp, T.ev hc, T.ev hx, asBool, hb]) (next _ (T.put hd v))
theorem r_quo {xt yt : TypeId} {x y : Operand} {k : IntKind} {u v : Int} (T : Tm n t a) (hx : ev t x = some (.int k u)) (hy : ev t y = some (.int k v)) (h0 : v ≠ 0) (hd : Nat.blt d n = true)
  (next : ∀ a', Tm n ((d, .int k (wr k (u.tdiv v))) :: t) a' → wpN Y P ops N rest a' w) : wpN Y P ops N (⟨some d, .binOp .quo xt x y yt, ty, pos, after, none⟩ :: rest) a w :=
 wpN_val rfl (by simp [execOp, T.ev hx, T.ev hy, eqGuard_int, binOp, Op.intDiv, h0, wr]) (next _ (T.put hd _))
theorem r_rem {xt yt : TypeId} {x y : Operand} {k : IntKind} {u v : Int} (T : Tm n t a) (hx : ev t x = some (.int k u)) (hy : ev t y = some (.int k v)) (h0 : v ≠ 0) (hd : Nat.blt d n = true)
  (next : ∀ a', Tm n ((d, .int k (u.tmod v)) :: t) a' → wpN Y P ops N rest a' w) : wpN Y P ops N (⟨some d, .binOp .rem xt x y yt, ty, pos, after, none⟩ :: rest) a w :=
 wpN_val rfl (by simp [execOp, T.ev hx, T.ev hy, eqGuard_int, binOp, Op.intDiv, h0]) (next _ (T.put hd _))
theorem eqGuard_shl {xt : TypeId} {x y : Operand} {u v : Value} : (eqGuard .shl xt x y u v).run P w = .ok () w := rfl
theorem eqGuard_shr {xt : TypeId} {x y : Operand} {u v : Value} : (eqGuard .shr xt x y u v).run P w = .ok () w := rfl
theorem r_shl {xt yt : TypeId} {x y : Operand} {k k' : IntKind} {u v : Int} (T : Tm n t a) (hx : ev t x = some (.int k u)) (hy : ev t y = some (.int k' v)) (h0 : 0 ≤ v) (hd : Nat.blt d n = true)
  (next : ∀ a', Tm n ((d, .int k (sShl k u v)) :: t) a' → wpN Y P ops N rest a' w) : wpN Y P ops N (⟨some d, .binOp .shl xt x y yt, ty, pos, after, none⟩ :: rest) a w :=
 wpN_val rfl (by
  have h1 : ¬ v < 0 := by omega
  simp [execOp, T.ev hx, T.ev hy, eqGuard_shl, binOp, Op.shift, h1, sShl]) (next _ (T.put hd _))
theorem r_shr {xt yt : TypeId} {x y : Operand} {k k' : IntKind} {u v : Int} (T : Tm n t a) (hx : ev t x = some (.int k u)) (hy : ev t y = some (.int k' v)) (h0 : 0 ≤ v) (hd : Nat.blt d n = true)
  (next : ∀ a', Tm n ((d, .int k (sShr k u v)) :: t) a' → wpN Y P ops N rest a' w) : wpN Y P ops N (⟨some d, .binOp .shr xt x y yt, ty, pos, after, none⟩ :: rest) a w :=
 wpN_val rfl (by
  have h1 : ¬ v < 0 := by omega
  simp [execOp, T.ev hx, T.ev hy, eqGuard_shr, binOp, Op.shift, h1, sShr]) (next _ (T.put hd _))
theorem r_conv {src dst : TypeId} {x : Operand} {k k' : IntKind} {u : Int} {ds : TypeDesc} (T : Tm n t a) (hx : ev t x = some (.int k u))
  (h1 : ∀ w, (underlying src).run P w = .ok ds w) (h2 : ∀ w, (underlying dst).run P w = .ok (.int k') w) (hd : Nat.blt d n = true)
  (next : ∀ a', Tm n ((d, .int k' (wr k' u)) :: t) a' → wpN Y P ops N rest a' w) : wpN Y P ops N (⟨some d, .convert src dst x, ty, pos, after, none⟩ :: rest) a w :=
 wpN_val rfl (by cases ds <;> simp [execOp, T.ev hx, convert, h1, h2, Conv.intToInt, wr]) (next _ (T.put hd _))
theorem run_eqBool {xt : TypeId} {u v : Bool} (h1 : ∀ w, (underlying xt).run P w = .ok .bool w) : (Op.equal xt (.bool u) (.bool v)).run P w = .ok (u == v) w := by
 unfold Op.equal
 rw [show Op.maxDepth = 9999 + 1 from rfl, Op.equalIn]
 simp [h1]
theorem r_eqB {xt yt : TypeId} {x y : Operand} {u v : Bool} (T : Tm n t a) (hx : ev t x = some (.bool u)) (hy : ev t y = some (.bool v)) (h1 : ∀ w, (underlying xt).run P w = .ok .bool w) (hd : Nat.blt d n = true)
  (next : ∀ a', Tm n ((d, .bool (u == v)) :: t) a' → wpN Y P ops N rest a' w) : wpN Y P ops N (⟨some d, .binOp .eql xt x y yt, ty, pos, after, none⟩ :: rest) a w :=
 wpN_val rfl (by simp only [execOp, T.ev hx, T.ev hy, binOp, Sem.run_bind, eqGuard_bool, Result.andThen_ok, run_eqBool h1, Sem.run_pure]) (next _ (T.put hd _))
theorem r_neB {xt yt : TypeId} {x y : Operand} {u v : Bool} (T : Tm n t a) (hx : ev t x = some (.bool u)) (hy : ev t y = some (.bool v)) (h1 : ∀ w, (underlying xt).run P w = .ok .bool w) (hd : Nat.blt d n = true)
  (next : ∀ a', Tm n ((d, .bool (!(u == v))) :: t) a' → wpN Y P ops N rest a' w) : wpN Y P ops N (⟨some d, .binOp .neq xt x y yt, ty, pos, after, none⟩ :: rest) a w :=
 wpN_val rfl (by simp only [execOp, T.ev hx, T.ev hy, binOp, Sem.run_bind, eqGuard_bool, Result.andThen_ok, run_eqBool h1, Sem.run_pure]) (next _ (T.put hd _))
theorem rn {x : Operand} {xt e : TypeId} {A : Option Addr} {m c : Nat} (T : Tm n t a) (hx : ev t x = some (.slice A m c)) (h1 : ∀ w, (underlying xt).run P w = .ok (.slice e) w) (hd : Nat.blt d n = true)
  (next : ∀ a', Tm n ((d, .int .i64 m) :: t) a' → wpN Y P ops N rest a' w) : wpN Y P ops N (⟨some d, .call ⟨.builtin .len, #[x], #[xt]⟩, ty, pos, after, none⟩ :: rest) a w :=
 wpN_val rfl (by simp [execOp, resolve, invoke, builtin, Builtin.len_, T.ev hx, h1, goInt]) (next _ (T.put hd _))
theorem r_capS {x : Operand} {xt e : TypeId} {A : Option Addr} {m c : Nat} (T : Tm n t a) (hx : ev t x = some (.slice A m c)) (h1 : ∀ w, (underlying xt).run P w = .ok (.slice e) w) (hd : Nat.blt d n = true)
  (next : ∀ a', Tm n ((d, .int .i64 c) :: t) a' → wpN Y P ops N rest a' w) : wpN Y P ops N (⟨some d, .call ⟨.builtin .cap, #[x], #[xt]⟩, ty, pos, after, none⟩ :: rest) a w :=
 wpN_val rfl (by simp [execOp, resolve, invoke, builtin, Builtin.cap_, T.ev hx, h1, goInt]) (next _ (T.put hd _))
def mn (x y : Int) : Int := if y < x then y else x
def mx (x y : Int) : Int := if y > x then y else x
theorem r_min {x y : Operand} {ts : Array TypeId} {k k' : IntKind} {u v : Int} (T : Tm n t a) (hx : ev t x = some (.int k u)) (hy : ev t y = some (.int k' v)) (hd : Nat.blt d n = true)
  (next : ∀ a', Tm n ((d, .int k (mn u v)) :: t) a' → wpN Y P ops N rest a' w) : wpN Y P ops N (⟨some d, .call ⟨.builtin .min, #[x, y], ts⟩, ty, pos, after, none⟩ :: rest) a w :=
 wpN_val rfl (by simp [execOp, resolve, invoke, builtin, Builtin.min_, Builtin.min2, T.ev hx, T.ev hy, mn]) (next _ (T.put hd _))
theorem r_max {x y : Operand} {ts : Array TypeId} {k k' : IntKind} {u v : Int} (T : Tm n t a) (hx : ev t x = some (.int k u)) (hy : ev t y = some (.int k' v)) (hd : Nat.blt d n = true)
  (next : ∀ a', Tm n ((d, .int k (mx u v)) :: t) a' → wpN Y P ops N rest a' w) : wpN Y P ops N (⟨some d, .call ⟨.builtin .max, #[x, y], ts⟩, ty, pos, after, none⟩ :: rest) a w :=
 wpN_val rfl (by simp [execOp, resolve, invoke, builtin, Builtin.max_, Builtin.max2, T.ev hx, T.ev hy, mx]) (next _ (T.put hd _))
theorem r_fa {s : TypeId} {x : Operand} {i : Nat} {fs : Array Field} {fd : Field} {z b o o' : Nat} (T : Tm n t a) (hx : ev t x = some (.pointer (some ⟨b, o, none⟩)))
  (hu : ∀ w, (underlying s).run P w = .ok (.struct fs) w) (hf : fs[i]? = some fd) (hz : ∀ w, (sizeOf fd.type).run P w = .ok (z + 1) w) (ho : o + fd.offset = o') (hd : Nat.blt d n = true)
  (next : ∀ a', Tm n ((d, .pointer (some ⟨b, o', none⟩)) :: t) a' → wpN Y P ops N rest a' w) : wpN Y P ops N (⟨some d, .fieldAddr s x i, ty, pos, after, none⟩ :: rest) a w := by
 refine wpN_val rfl ?_ (next _ (T.put hd _))
 simp only [execOp, Instr.fieldAt, T.ev hx]
 simp [hu, hf, Instr.sureAddr, fieldPlace, hz]
 subst ho
 unfold Addr.add
 split
 ·rename_i h; simp [h]
 ·rfl
theorem r_faE {s : TypeId} {x : Operand} {i : Nat} {fs : Array Field} {fd : Field} {z j : Nat} {A : Option Addr} (T : Tm n t a) (hx : ev t x = some (.pointer (some (eA A j))))
  (hu : ∀ w, (underlying s).run P w = .ok (.struct fs) w) (hf : fs[i]? = some fd) (hz : ∀ w, (sizeOf fd.type).run P w = .ok (z + 1) w) (hd : Nat.blt d n = true)
  (next : ∀ a', Tm n ((d, .pointer (some (eA A (j + fd.offset)))) :: t) a' → wpN Y P ops N rest a' w) : wpN Y P ops N (⟨some d, .fieldAddr s x i, ty, pos, after, none⟩ :: rest) a w := by
 refine wpN_val rfl ?_ (next _ (T.put hd _))
 simp only [execOp, Instr.fieldAt, T.ev hx]
 simp [hu, hf, Instr.sureAddr, fieldPlace, hz, eA_add]
theorem r_ia {α : Type} {m : Md} {κ : K α} {xt e : TypeId} {x y : Operand} {A : Option Addr} {len c ix : Nat} {xs : List α} {k : IntKind} {i : Int} (T : Tm n t a) (S : SL (l ++ F) w)
  (hx : ev t x = some (.slice A len c)) (hy : ev t y = some (.int k i)) (hl : l[ix]? = some (sl m κ A c xs)) (hlen : len = xs.length)
  (hu : ∀ w, (underlying xt).run P w = .ok (.slice e) w) (hs : ∀ w, (sizeOf e).run P w = .ok κ.sz w) (h0 : 0 ≤ i) (h1 : i < (xs.length : Int)) (hd : Nat.blt d n = true)
  (next : ∀ a', Tm n ((d, .pointer (some (eA A (i.toNat * κ.sz)))) :: t) a' → wpN Y P ops N rest a' w) : wpN Y P ops N (⟨some d, .indexAddr xt x y, ty, pos, after, none⟩ :: rest) a w := by
 obtain ⟨G, h, fG, fh, _, s⟩ := S.memF hl
 obtain ⟨b, o, rfl⟩ := sl_some s (by omega)
 subst hlen
 refine wpN_val rfl ?_ (next _ (T.put hd _))
 simp only [execOp, Instr.indexAt, T.ev hx, T.ev hy]
 simp [asIntOf, hu, hs, h0, h1, add_eA]
theorem r_iaA {xt e : TypeId} {x y : Operand} {b o sz len : Nat} {k : IntKind} {i : Int} (T : Tm n t a)
  (hx : ev t x = some (.pointer (some ⟨b, o, none⟩))) (hy : ev t y = some (.int k i))
  (hu : ∀ w, (underlying xt).run P w = .ok (.array len e) w) (hs : ∀ w, (sizeOf e).run P w = .ok sz w) (h0 : 0 ≤ i) (h1 : i < (len : Int)) (hd : Nat.blt d n = true)
  (next : ∀ a', Tm n ((d, .pointer (some ⟨b, o + i.toNat * sz, none⟩)) :: t) a' → wpN Y P ops N rest a' w) : wpN Y P ops N (⟨some d, .indexAddr xt x y, ty, pos, after, none⟩ :: rest) a w := by
 refine wpN_val rfl ?_ (next _ (T.put hd _))
 simp only [execOp, Instr.indexAt, T.ev hx, T.ev hy]
 simp [asIntOf, hu, hs, h0, h1, Instr.sureAddr, add_eA, eA_some]
theorem run_loadCells {w : World} {ad : Addr} {cs : List Value} (h : ∀ (j : Nat) v, cs[j]? = some v → w.cell? (ad.add j) = some v) :
  (loadCells ad cs.length).run P w = .ok cs.toArray w := by
 have key : ∀ (m i : Nat) (acc : Array Value), i + m = cs.length → acc = (cs.take i).toArray → (loadCellsFrom ad i m acc).run P w = .ok cs.toArray w := by
  intro m
  induction m with
  | zero => intro i acc hi ha; subst ha; simp only [loadCellsFrom, Sem.run_pure]; rw [List.take_of_length_le (by omega)]
  | succ m ih =>
   intro i acc hi ha
   have hlt : i < cs.length := by omega
   have hc := h i _ (List.getElem?_eq_getElem hlt)
   simp only [loadCellsFrom, Sem.run_bind, run_load, hc, Result.andThen_ok]
   refine ih (i + 1) _ (by omega) ?_
   subst ha
   rw [List.push_toArray]
   rw [List.take_succ_eq_append_getElem hlt]
 exact key cs.length 0 #[] (by omega) (by simp)
theorem run_loadAgg {w : World} {ty' : TypeId} {ad : Addr} {cs : List Value} (hg : ∀ w, (isAgg ty').run P w = .ok true w) (hs : ∀ w, (sizeOf ty').run P w = .ok cs.length w)
  (h : ∀ (j : Nat) v, cs[j]? = some v → w.cell? (ad.add j) = some v) : (Instr.loadAt ty' (.pointer (some ad))).run P w = .ok (.agg cs.toArray) w := by
 simp [Instr.loadAt, Instr.sureAddr, loadVar, hg, hs, run_loadCells h]
theorem run_loadOne {w : World} {ty' : TypeId} {ad : Addr} {v : Value} (hg : ∀ w, (isAgg ty').run P w = .ok false w) (h : w.cell? ad = some v) :
  (Instr.loadAt ty' (.pointer (some ad))).run P w = .ok v w := by
 simp [Instr.loadAt, Instr.sureAddr, loadVar, hg, h]
theorem lB {ty' : TypeId} {x : Operand} {b o ix : Nat} {cs : List Value} {v : Value} (T : Tm n t a) (S : SL (l ++ F) w) (hx : ev t x = some (.pointer (some ⟨b, o, none⟩)))
  (hg : ∀ w, (isAgg ty').run P w = .ok false w) (hl : l[ix]? = some (blk b cs)) (hv : cs[o]? = some v) (hd : Nat.blt d n = true)
  (next : ∀ a', Tm n ((d, v) :: t) a' → wpN Y P ops N rest a' w) : wpN Y P ops N (⟨some d, .load ty' x, ty, pos, after, none⟩ :: rest) a w := by
 obtain ⟨G, h, fG, fh, _, e, fr, hb, hu⟩ := S.memF hl
 refine wpN_val rfl ?_ (next _ (T.put hd _))
 simp only [execOp, T.ev hx]
 simp [run_loadOne hg (fit_cell fh hb (o := o) (v := v) (by simpa using hv))]
theorem r_ldBA {ty' : TypeId} {x : Operand} {b o ix : Nat} {cs ds : List Value} (T : Tm n t a) (S : SL (l ++ F) w) (hx : ev t x = some (.pointer (some ⟨b, o, none⟩)))
  (hg : ∀ w, (isAgg ty').run P w = .ok true w) (hl : l[ix]? = some (blk b cs)) (hv : (cs.drop o).take ds.length = ds) (hs : ∀ w, (sizeOf ty').run P w = .ok ds.length w) (hd : Nat.blt d n = true)
  (next : ∀ a', Tm n ((d, .agg ds.toArray) :: t) a' → wpN Y P ops N rest a' w) : wpN Y P ops N (⟨some d, .load ty' x, ty, pos, after, none⟩ :: rest) a w := by
 obtain ⟨G, h, fG, fh, _, e, fr, hb, hu⟩ := S.memF hl
 refine wpN_val rfl ?_ (next _ (T.put hd _))
 simp only [execOp, T.ev hx]
 rw [Sem.run_bind, run_loadAgg hg hs]
 ·simp
 ·intro j v hj
  rw [add_eA, eA_some]
  refine fit_cell fh hb ?_
  rw [← hv] at hj
  rw [List.getElem?_take] at hj
  split at hj
  ·rw [List.getElem?_drop] at hj
   simpa using hj
  ·cases hj
theorem r_ldE {α β : Type} {m : Md} {κ : K α} {μ : K β} {g : α → β} {f : β → Value} {ty' : TypeId} {x : Operand} {A : Option Addr} {c ix off j : Nat} {xs : List α} {i : Int} (T : Tm n t a) (S : SL (l ++ F) w)
  (hx : ev t x = some (.pointer (some (eA A j)))) (hg : ∀ w, (isAgg ty').run P w = .ok false w) (hl : l[ix]? = some (sl m κ A c xs)) (dv : α) (i' : Int) (hi : i' = i) (hj : j = i.toNat * κ.sz + off)
  (hf : Fld κ off μ g) (h0 : 0 ≤ i) (h1 : i < (xs.length : Int)) (hm : ∀ {G : Hp} {y : β} {cs : List Value}, μ.rep G y cs → cs = [f y]) (hd : Nat.blt d n = true)
  (next : ∀ a', Tm n ((d, f (g (gi dv xs i'))) :: t) a' → wpN Y P ops N rest a' w) : wpN Y P ops N (⟨some d, .load ty' x, ty, pos, after, none⟩ :: rest) a w := by
 obtain ⟨G, h, fG, fh, _, s⟩ := S.memF hl
 subst hi
 obtain ⟨ds, r1, r2⟩ := sl_part s fG fh hf dv (i := i') (by omega)
 have := hm r1
 subst this
 refine wpN_val rfl ?_ (next _ (T.put hd _))
 simp only [execOp, T.ev hx]
 have := r2 0 _ rfl
 rw [Nat.add_zero] at this
 subst hj
 simp [run_loadOne hg this]
theorem r_ldR {α β : Type} {m : Md} {κ : K α} {μ : K β} {g : α → β} {ty' : TypeId} {x : Operand} {A : Option Addr} {c ix off j : Nat} {xs : List α} {i : Int} (T : Tm n t a) (S : SL (l ++ F) w)
  (hx : ev t x = some (.pointer (some (eA A j)))) (hg : ∀ w, (isAgg ty').run P w = .ok false w) (hl : l[ix]? = some (sl m κ A c xs)) (dv : α) (i' : Int) (hi : i' = i) (hj : j = i.toNat * κ.sz + off)
  (hf : Fld κ off μ g) (h0 : 0 ≤ i) (h1 : i < (xs.length : Int)) (hm : μ.sz = 1) (hd : Nat.blt d n = true)
  (next : ∀ a' v, SL ((rp μ (g (gi dv xs i')) [v] :: l) ++ F) w → Tm n ((d, v) :: t) a' → wpN Y P ops N rest a' w) : wpN Y P ops N (⟨some d, .load ty' x, ty, pos, after, none⟩ :: rest) a w := by
 obtain ⟨G, h, fG, fh, _, s⟩ := S.memF hl
 subst hi
 obtain ⟨ds, r1, r2⟩ := sl_part s fG fh hf dv (i := i') (by omega)
 have hlen := μ.len r1
 obtain ⟨v, rfl⟩ : ∃ v, ds = [v] := by
  match ds, hlen, hm with
  | [v], _, _ => exact ⟨v, rfl⟩
  | [], h1, h2 => simp [h2] at h1
  | _ :: _ :: _, h1, h2 => simp [h2] at h1
 refine wpN_val rfl ?_ (next _ v ?_ (T.put hd _))
 ·simp only [execOp, T.ev hx]
  have := r2 0 _ rfl
  rw [Nat.add_zero] at this
  subst hj
  simp [run_loadOne hg this]
 ·obtain ⟨G', h', f1, f2, f3, q⟩ := S
  have : ∃ k : Hp, fit G' w ∧ fit k w ∧ (sl m κ A c xs).holds (env w) G' k := by
   have key : ∀ (L : List Atom) (i : Nat) (H : Hp), L[i]? = some (sl m κ A c xs) → sats (env w) G' L H → ∃ k : Hp, k.le H ∧ (sl m κ A c xs).holds (env w) G' k := by
    intro L
    induction L with
    | nil => intro i H h; simp at h
    | cons B L ih =>
     intro i H h s
     obtain ⟨h1, h2, d, l1, l2, c1, s1⟩ := s
     cases i with
     | zero => simp at h; subst h; exact ⟨h1, l1, c1⟩
     | succ i =>
      simp at h
      obtain ⟨k, l, hk⟩ := ih i h2 h s1
      exact ⟨k, Hp.le_trans l l2, hk⟩
   obtain ⟨k, hk1, hk2⟩ := key (l ++ F) ix h' (by
    rw [List.getElem?_append_left]
    ·exact hl
    ·rcases Nat.lt_or_ge ix l.length with z | z
     ·exact z
     ·rw [List.getElem?_eq_none z] at hl; cases hl) q
   exact ⟨k, f1, fun b o e => f2 b o (hk1 b o e), hk2⟩
  obtain ⟨k, g1, g2, g3⟩ := this
  obtain ⟨ds', r1', r2'⟩ := sl_part g3 g1 g2 hf dv (i := i') (by omega)
  have hlen' := μ.len r1'
  obtain ⟨v', rfl⟩ : ∃ v, ds' = [v] := by
   match ds', hlen', hm with
   | [v], _, _ => exact ⟨v, rfl⟩
   | [], h1, h2 => simp [h2] at h1
   | _ :: _ :: _, h1, h2 => simp [h2] at h1
  have e1 := r2 0 _ rfl
  have e2 := r2' 0 _ rfl
  rw [e1] at e2
  cases e2
  refine SL.back (G := G') (h := Hp.zero) (H := h') f1 (fun _ _ e => by cases e) f2 (Hp.dj_symm (Hp.zero_dj _)) f3 (Hp.zero_dj _) r1' q
end
theorem unfrozen_zero (arr : Array Value) : unfrozen arr (0, 0) := .inl rfl
section
variable {Y : Bool} {P : Program} {ops : Array Oper} {N : Act → World → Prop} {rest : List Oper} {n : Nat} {t : List (Nat × Value)} {a : Act} {w : World}
variable {d : Nat} {ty : TypeId} {pos : String} {after : Array Edge} {l F : List Atom}
theorem new_blk (S : SL (l ++ F) w) (e : TypeId) (cs : Array Value) : SL ((blk w.heap.size cs.toList :: l) ++ F) (World.new w (.cells cs e)) :=
 SL.new S _ fun _ _ => ⟨e, (0, 0), by simp [Hp.one], unfrozen_zero _⟩
theorem r_box {elem : TypeId} {x : Operand} {v : Value} {cs : List Value} (T : Tm n t a) (S : SL (l ++ F) w) (hx : ev t x = some v) (hc : v.cells.toList = cs) (hd : Nat.blt d n = true)
  (next : ∀ a' w' b, SL ((blk b cs :: l) ++ F) w' → Tm n ((d, .pointer (some ⟨b, 0, none⟩)) :: t) a' → wpN Y P ops N rest a' w') :
  wpN Y P ops N (⟨some d, .box elem x, ty, pos, after, none⟩ :: rest) a w := by
 subst hc
 refine wpN_val (w' := World.new w (.cells v.cells elem)) rfl ?_ (next _ _ w.heap.size (new_blk S elem v.cells) (T.put hd _))
 simp only [execOp, Instr.box, T.ev hx]
 simp [newVar, newRow, World.new]
theorem r_alloc {elem : TypeId} {v : Value} {cs : List Value} (T : Tm n t a) (S : SL (l ++ F) w) (hz : ∀ w, (zeroValue elem).run P w = .ok v w) (hc : v.cells.toList = cs) (hd : Nat.blt d n = true)
  (next : ∀ a' w' b, SL ((blk b cs :: l) ++ F) w' → Tm n ((d, .pointer (some ⟨b, 0, none⟩)) :: t) a' → wpN Y P ops N rest a' w') :
  wpN Y P ops N (⟨some d, .alloc elem, ty, pos, after, none⟩ :: rest) a w := by
 subst hc
 refine wpN_val (w' := World.new w (.cells v.cells elem)) rfl ?_ (next _ _ w.heap.size (new_blk S elem v.cells) (T.put hd _))
 simp only [execOp, Instr.alloc]
 simp [hz, newVar, newRow, World.new]
theorem run_store1 {w : World} {b o : Nat} {arr : Array Value} {e : TypeId} {fr : Nat × Nat} {v : Value} (hb : w.heap[b]? = some (.cells arr e fr)) (hu : unfrozen arr fr) (ho : o < arr.size) (hv : v.oneCell' = true) :
  (store ⟨b, o, none⟩ v .plain).run P w = .ok () (World.put w b (.cells (arr.setIfInBounds o v) e fr)) := by
 have hc : w.cell? ⟨b, o, none⟩ = some arr[o] := by simp [World.cell?, hb, ho]
 have hf : w.frozen? ⟨b, o, none⟩ = false := by
  have := hu.at_ o ho
  simp only [World.frozen?, hb]
  rw [Bool.eq_false_iff]; intro hh; apply this; simpa using hh
 rw [run_store _ _ _ _ _ hv]
 simp only [hc, hf]
 have hlt : b < w.heap.size := by
  rcases Nat.lt_or_ge b w.heap.size with q | q
  ·exact q
  ·rw [Array.getElem?_eq_none q] at hb; cases hb
 have : w.setCell ⟨b, o, none⟩ v = World.put w b (.cells (arr.setIfInBounds o v) e fr) := by
  simp only [World.setCell, World.put]
  congr 1
  apply Array.ext'
  apply List.ext_getElem?
  intro i
  rw [Array.getElem?_toList, Array.getElem?_toList, Array.getElem?_modify]
  by_cases hi : b = i
  ·subst hi
   rw [Array.getElem?_setIfInBounds_self_of_lt hlt, hb]
   simp
  ·rw [Array.getElem?_setIfInBounds_ne hi]
   simp [hi]
 rw [this]; rfl
def over (arr : Array Value) (o : Nat) : List Value → Array Value
 | [] => arr
 | v :: vs => over (arr.setIfInBounds o v) (o + 1) vs
theorem over_size : ∀ (vs : List Value) (arr : Array Value) (o : Nat), (over arr o vs).size = arr.size
 | [], _, _ => rfl
 | v :: vs, arr, o => by rw [over, over_size]; simp
theorem over_get : ∀ (vs : List Value) (arr : Array Value) (o j : Nat), o + vs.length ≤ arr.size →
  (over arr o vs)[j]? = if o ≤ j ∧ j < o + vs.length then vs[j - o]? else arr[j]?
 | [], arr, o, j, _ => by
  have : ¬ (o ≤ j ∧ j < o + 0) := by omega
  simp only [over, List.length_nil, this, if_false]
 | v :: vs, arr, o, j, h => by
  simp only [List.length_cons] at h
  rw [over, over_get vs _ _ _ (by simp; omega)]
  by_cases h1 : o + 1 ≤ j ∧ j < o + 1 + vs.length
  ·rw [if_pos h1, if_pos (by simp only [List.length_cons]; omega)]
   rw [show j - o = (j - (o + 1)) + 1 by omega, List.getElem?_cons_succ]
  ·rw [if_neg h1]
   by_cases h2 : o = j
   ·subst h2
    rw [Array.getElem?_setIfInBounds_self_of_lt (by omega), if_pos (by simp only [List.length_cons]; omega)]
    simp
   ·rw [Array.getElem?_setIfInBounds_ne h2, if_neg (by simp only [List.length_cons]; omega)]
theorem put_put (w : World) (b : Nat) (o o' : Obj) : World.put (World.put w b o) b o' = World.put w b o' := by
 simp [World.put, Array.setIfInBounds_setIfInBounds]
theorem put_get {w : World} {b : Nat} {o o' : Obj} (h : w.heap[b]? = some o') : (World.put w b o).heap[b]? = some o := by
 have hlt : b < w.heap.size := by
  rcases Nat.lt_or_ge b w.heap.size with q | q
  ·exact q
  ·rw [Array.getElem?_eq_none q] at h; cases h
 simp only [World.put]; rw [Array.getElem?_setIfInBounds_self_of_lt hlt]
theorem run_storeCells : ∀ {vs : List Value} {w : World} {b o i : Nat} {arr : Array Value} {e : TypeId} {fr : Nat × Nat}, w.heap[b]? = some (.cells arr e fr) → unfrozen arr fr → o + i + vs.length ≤ arr.size →
  (∀ v ∈ vs, v.oneCell' = true) → vs ≠ [] → (storeCells ⟨b, o, none⟩ vs i).run P w = .ok () (World.put w b (.cells (over arr (o + i) vs) e fr))
 | [], _, _, _, _, _, _, _, _, _, _, _, hne => absurd rfl hne
 | [v], w, b, o, i, arr, e, fr, hb, hu, ho, hv, _ => by
  simp only [storeCells, Sem.run_bind, add_eA, eA_some]
  rw [run_store1 hb hu (by simp at ho; omega) (hv v (by simp))]
  simp [storeCells, over]
 | v :: u :: vs, w, b, o, i, arr, e, fr, hb, hu, ho, hv, _ => by
  rw [storeCells, Sem.run_bind, add_eA, eA_some, run_store1 hb hu (by simp at ho; omega) (hv v (by simp))]
  simp only [Result.andThen_ok]
  rw [run_storeCells (vs := u :: vs) (put_get hb) (hu.of (by simp)) (by simp at ho ⊢; omega) (fun z hz => hv z (by simp [hz])) (by simp), put_put]
  rfl
theorem one?_eq' (v : Value) : one? v = v.oneCell' := by cases v <;> rfl
theorem r_stB {ty' : TypeId} {x y : Operand} {b o ix : Nat} {cs : List Value} {v : Value} {l' : List Atom} (T : Tm n t a) (S : SL (l ++ F) w) (hx : ev t x = some (.pointer (some ⟨b, o, none⟩))) (hy : ev t y = some v) (hv : one? v = true)
  (hs : ∀ w, (sizeOf ty').run P w = .ok 1 w) (hl : l[ix]? = some (blk b cs)) (ho : o < cs.length) (hl' : l.set ix (blk b (cs.set o v)) = l')
  (next : ∀ w', SL (l' ++ F) w' → wpN Y P ops N rest a w') : wpN Y P ops N (⟨none, .store ty' x y, ty, pos, after, none⟩ :: rest) a w := by
 obtain ⟨G, h, fG, fh, _, e, fr, hb, hu⟩ := S.memF hl
 rw [one?_eq'] at hv
 have hcells : v.cells = #[v] := by cases v <;> first | rfl | (simp [Value.oneCell'] at hv)
 subst hl'
 refine wpN_skip (w' := World.put w b (.cells (cs.toArray.setIfInBounds o v) e fr)) rfl ?_ (next _ ?_)
 ·simp only [execOp, Instr.storeAt, T.ev hx, T.ev hy]
  simp only [Sem.run_bind, Instr.sureAddr, Sem.run_pure, Result.andThen_ok, storeVar, hcells, hs]
  simp only [List.size_toArray, List.length_singleton, ne_eq, not_true_eq_false, if_false, Sem.run_bind, Sem.run_pure, Result.andThen_ok]
  have := run_storeCells (P := P) (vs := [v]) (i := 0) (o := o) (fh _ _ hb) hu (by simp; omega) (by simpa using hv) (by simp)
  simp only [over, Nat.add_zero] at this
  rw [this]; rfl
 ·refine S.upd hl (fun M SM => SL.put b _ SM ?_)
  rintro G' h' _ fh' ⟨e', fr', hb', hu'⟩
  have : Obj.cells cs.toArray e fr = Obj.cells cs.toArray e' fr' := by
   have h1 := fh _ _ hb
   have h2 := fh' _ _ hb'
   rw [h1] at h2; exact Option.some.inj h2
  cases this
  exact ⟨⟨_, hb'⟩, e, fr, by simp, hu.of (by simp)⟩
end
section
variable {Y : Bool} {P : Program} {ops : Array Oper} {N : Act → World → Prop} {rest : List Oper} {n : Nat} {t : List (Nat × Value)} {a : Act} {w : World}
variable {d : Nat} {ty : TypeId} {pos : String} {after : Array Edge} {l F : List Atom}
theorem sl_cells {α : Type} {m : Md} {κ : K α} {A : Option Addr} {c : Nat} {xs : List α} {E : Env} {G h : Hp} (s : (sl m κ A c xs).holds E G h) {w : World} (fG : fit G w) (fh : fit h w) :
  ∃ cs, cells κ G xs cs ∧ (A = none → c = 0) ∧ (cs = [] ∨ ∃ b o, A = some ⟨b, o, none⟩ ∧ ∀ (j : Nat) v, cs[j]? = some v → w.cell? ⟨b, o + j, none⟩ = some v) := by
 cases m with
 | ro =>
  obtain ⟨q0, q00, q | ⟨b, o, arr, e, fr, q1, q2, cs, q3, q4⟩⟩ := s
  ·subst q; exact ⟨[], rfl, q00, .inl rfl⟩
  ·exact ⟨cs, q3, q00, .inr ⟨b, o, q1, fun j v e => fit_cell fG q2 (q4 j v e)⟩⟩
 | own =>
  obtain ⟨q0, ⟨q1, q2⟩ | ⟨b, o, arr, e, fr, q1, q2, q3, q4, cs, q5, q6⟩⟩ := s
  ·have : xs = [] := List.eq_nil_of_length_eq_zero (by omega)
   subst this; exact ⟨[], rfl, fun _ => q2, .inl rfl⟩
  ·exact ⟨cs, q5, fun h => (by rw [q1] at h; cases h), .inr ⟨b, o, q1, fun j v e => fit_cell fh q2 (q6 j v e)⟩⟩
 | part off zs =>
  obtain ⟨q0, ⟨q1, q2⟩ | ⟨b, o, arr, e, fr, q1, q2, q3, q4, cs, q5, q6⟩⟩ := s.1
  ·have : xs = [] := List.eq_nil_of_length_eq_zero (by omega)
   subst this; exact ⟨[], rfl, fun _ => q2, .inl rfl⟩
  ·exact ⟨cs, q5, fun h => (by rw [q1] at h; cases h), .inr ⟨b, o, q1, fun j v e => fit_cell fh q2 (q6 j v e)⟩⟩
 | plus Q =>
  obtain ⟨q0, ⟨q1, q2⟩ | ⟨b, o, arr, e, fr, q1, q2, q3, q4, cs, q5, q6⟩⟩ := s.1
  ·have : xs = [] := List.eq_nil_of_length_eq_zero (by omega)
   subst this; exact ⟨[], rfl, fun _ => q2, .inl rfl⟩
  ·exact ⟨cs, q5, fun h => (by rw [q1] at h; cases h), .inr ⟨b, o, q1, fun j v e => fit_cell fh q2 (q6 j v e)⟩⟩
theorem run_firstCells {sz k c : Nat} {A : Option Addr} {cs : List Value} {w w1 : World} (hw : w1.heap = w.heap) (hk : cs.length = k * sz) (h0 : A = none → cs = [])
  (h : cs = [] ∨ ∃ b o, A = some ⟨b, o, none⟩ ∧ ∀ (j : Nat) v, cs[j]? = some v → w.cell? ⟨b, o + j, none⟩ = some v) {len : Nat} :
  (Builtin.firstCells sz k (.slice A len c)).run P w1 = .ok cs.toArray w1 := by
 cases A with
 | none => rw [h0 rfl]; rfl
 | some ad =>
  simp only [Builtin.firstCells, ← hk]
  apply run_loadCells
  intro j v e
  rcases h with h | ⟨b, o, h1, h2⟩
  ·subst h; simp at e
  ·cases h1
   rw [add_eA, eA_some]
   have := h2 j v e
   simp only [World.cell?] at this ⊢
   rw [hw]; exact this
structure SlTy (P : Program) (st e : TypeId) (sz by_ : Nat) (z : Value) : Prop where
 und : ∀ w, (underlying st).run P w = .ok (.slice e) w
 size : ∀ w, (sizeOf e).run P w = .ok sz w
 info : ∃ ti : TypeInfo, ti.bytes = by_ ∧ ∀ w, (typeInfo e).run P w = .ok ti w
 zero : ∀ w, (zeroValue e).run P w = .ok z w
 zsz : z.cells.size = sz
theorem zeroCells_size (zs : Array Value) (k : Nat) : (Builtin.zeroCells zs k).size = k * zs.size := by simp [Builtin.zeroCells]
theorem run_app_fit {st yt e : TypeId} {dy : TypeDesc} {sz by_ : Nat} {z y : Value} {A : Option Addr} {m c k : Nat} {ds : List Value} {w : World} (H : SlTy P st e sz by_ z)
  (huy : ∀ w, (underlying yt).run P w = .ok dy w) (hdy : ∀ k, dy ≠ .int k) (hk : ∀ w, (Builtin.lenOf y).run P w = .ok k w) (hf : (Builtin.firstCells sz k y).run P w = .ok ds.toArray w) (hn : m + k ≤ c)
  {w' : World} (hst : ∀ ad, A = some ad → (storeCells (ad.add (m * sz)) ds).run P w = .ok () w') (hnone : A = none → w' = w) :
  (Builtin.append_ #[st, yt] ty #[.slice A m c, y]).run P w = .ok (.slice A (m + k) c) w' := by
 unfold Builtin.append_
 simp [H.und, H.size, huy]
 simp [hk, hn, hf]
 cases A with
 | none => simp [hnone rfl]
 | some ad => simp [hst ad rfl]
theorem run_app_grow {st yt e : TypeId} {dy : TypeDesc} {sz by_ : Nat} {z y : Value} {A : Option Addr} {m c k : Nat} {cs ds : List Value} {w : World} (H : SlTy P st e sz by_ z)
  (huy : ∀ w, (underlying yt).run P w = .ok dy w) (hdy : ∀ k, dy ≠ .int k) (hk : ∀ w, (Builtin.lenOf y).run P w = .ok k w)
  (hf : ∀ w1 : World, w1.heap = w.heap → (Builtin.firstCells sz k y).run P w1 = .ok ds.toArray w1) (ho : ∀ w1 : World, w1.heap = w.heap → (Builtin.firstCells sz m (.slice A m c)).run P w1 = .ok cs.toArray w1)
  (hn : c < m + k) (hpos : 0 < by_) (hby : (m + k) * by_ ≤ 140737488355328) :
  ∃ c' zs, m + k ≤ c' ∧ zs.length = (c' - (m + k)) * sz ∧ (Builtin.append_ #[st, yt] ty #[.slice A m c, y]).run P w =
   .ok (.slice (some ⟨w.heap.size, 0, none⟩) (m + k) c') { heap := w.heap.push (.cells (cs ++ ds ++ zs).toArray e), tape := w.tape, drawn := w.drawn + 1, os := w.os, output := w.output } := by
 obtain ⟨ti, hti, hinfo⟩ := H.info
 have hfits := growslice_fits (bytes := by_) hn hby
 have hfits' : ¬ (2 : Nat) ^ 48 < Builtin.nextslicecap (m + k) c * by_ := by
  have : (2 : Nat) ^ 48 = 281474976710656 := by decide
  omega
 have hp : by_ ≠ 0 := by omega
 refine ⟨(Question.appendCap (m + k) c e).cut (w.tape w.drawn (.appendCap (m + k) c e)), (Builtin.zeroCells z.cells ((Question.appendCap (m + k) c e).cut (w.tape w.drawn (.appendCap (m + k) c e)) - (m + k))).toList, ?_, ?_, ?_⟩
 ·simp [Question.cut]
 ·simp [zeroCells_size, H.zsz]
 ·unfold Builtin.append_
  simp [H.und, H.size, huy]
  have hnf : ¬ (m + k ≤ c) := by omega
  have hfits2 : ¬ (281474976710656 < Builtin.nextslicecap (m + k) c * by_) := by omega
  simp [hk, hnf, hinfo, hti, H.zero, Question.forced, hp, hfits2]
  rw [ho w.drew rfl]
  have hz : ∀ Z : Array Value, cs.toArray ++ (ds.toArray ++ Z) = (cs ++ (ds ++ Z.toList)).toArray := by intro Z; apply Array.ext'; simp
  simp [hf w.drew rfl, newRow]
  rw [hz]; rfl
theorem app_own {α : Type} {κ : K α} {A : Option Addr} {c : Nat} {xs ys : List α} {M : List Atom} {w w' : World} {ds : List Value} (S : SL (sl .own κ A c xs :: M) w)
  (hds : ∀ G : Hp, fit G w → (∃ H : Hp, sats (env w) G (sl .own κ A c xs :: M) H ∧ fit H w ∧ G.dj H) → cells κ G ys ds) (hn : xs.length + ys.length ≤ c) (hnone : A = none → w' = w)
  (hst : ∀ b o arr e fr, A = some ⟨b, o, none⟩ → w.heap[b]? = some (.cells arr e fr) → o + c * κ.sz ≤ arr.size → ds ≠ [] → w' = World.put w b (.cells (over arr (o + xs.length * κ.sz) ds) e fr))
  (hst0 : ds = [] → w' = w) : SL (sl .own κ A c (xs ++ ys) :: M) w' := by
 have hS := S
 obtain ⟨G, H, f1, f2, f3, s⟩ := S
 have hcy := hds G f1 ⟨H, s, f2, f3⟩
 have hlen := hcy.len
 obtain ⟨h1, h2, d, l1, l2, q, s1⟩ := s
 have fh1 : fit h1 w := fun x o y => f2 x o (l1 x o y)
 have fh2 : fit h2 w := fun x o y => f2 x o (l2 x o y)
 have d1 : G.dj h1 := Hp.dj_symm (Hp.dj_le (Hp.dj_symm f3) l1)
 have d2 : G.dj h2 := Hp.dj_symm (Hp.dj_le (Hp.dj_symm f3) l2)
 obtain ⟨q0, q⟩ := q
 rcases q with ⟨q1, q2⟩ | ⟨b, o, arr, e, fr, q1, q2, q3, q4, cs, q5, q6⟩
 ·have e1 : ys = [] := List.eq_nil_of_length_eq_zero (by omega)
  subst e1
  have : ds = [] := hcy
  rw [hst0 this, List.append_nil]
  exact SL.back f1 fh1 fh2 d1 d2 d ⟨q0, .inl ⟨q1, q2⟩⟩ s1
 ·by_cases hd0 : ds = []
  ·rw [hst0 hd0]
   subst hd0
   refine SL.back f1 fh1 fh2 d1 d2 d ⟨by simpa using hn, .inr ⟨b, o, arr, e, fr, q1, q2, q3, q4, cs ++ [], cells.append hcy q5, by simpa using q6⟩⟩ s1
  ·have hw := hst b o arr e fr q1 (fh1 _ _ q2) q4 hd0
   subst hw
   have hcs := q5.len
   have hfits : o + xs.length * κ.sz + ds.length ≤ arr.size := by
    rw [hlen]
    have : (xs.length + ys.length) * κ.sz ≤ c * κ.sz := Nat.mul_le_mul_right _ hn
    rw [Nat.add_mul] at this
    omega
   have S2 : SL (sl .own κ A c xs :: M) w := SL.back f1 fh1 fh2 d1 d2 d ⟨q0, .inr ⟨b, o, arr, e, fr, q1, q2, q3, q4, cs, q5, q6⟩⟩ s1
   refine SL.back (G := G) (h := fun k => if k = b then some (.cells (over arr (o + xs.length * κ.sz) ds) e fr) else h1 k) (H := h2) ?_ ?_ ?_ ?_ d2 ?_ ⟨by simpa using hn, .inr ⟨b, o, over arr (o + xs.length * κ.sz) ds, e, fr, q1, by simp, ?_, by rw [over_size]; exact q4, cs ++ ds, cells.append hcy q5, ?_⟩⟩ s1
   ·intro x o2 y
    by_cases ex : x = b
    ·subst ex; exact (fit_dj f1 d1 y q2).elim
    ·simp only [World.put]; rw [Array.getElem?_setIfInBounds_ne (Ne.symm ex)]; exact f1 x o2 y
   ·intro x o2 y
    by_cases ex : x = b
    ·subst ex; simp only [if_true] at y; cases y; exact put_get (fh1 _ _ q2)
    ·simp only [ex, if_false] at y; simp only [World.put]; rw [Array.getElem?_setIfInBounds_ne (Ne.symm ex)]; exact fh1 x o2 y
   ·intro x o2 y
    by_cases ex : x = b
    ·subst ex; exact (fit_dj fh1 d q2 y).elim
    ·simp only [World.put]; rw [Array.getElem?_setIfInBounds_ne (Ne.symm ex)]; exact fh2 x o2 y
   ·intro x
    by_cases ex : x = b
    ·subst ex; rcases d1 x with z | z
     ·exact .inl z
     ·rw [q2] at z; cases z
    ·simp only [ex, if_false]; exact d1 x
   ·intro x
    by_cases ex : x = b
    ·subst ex; rcases d x with z | z
     ·rw [q2] at z; cases z
     ·exact .inr z
    ·simp only [ex, if_false]; exact d x
   ·exact q3.of (over_size _ _ _)
   ·intro j v hv
    rw [over_get _ _ _ _ hfits]
    by_cases hj : j < cs.length
    ·rw [List.getElem?_append_left hj] at hv
     rw [if_neg (by rw [hcs] at hj; omega)]
     exact q6 j v hv
    ·rw [List.getElem?_append_right (by omega)] at hv
     have hj2 : j - cs.length < ds.length := by
      rcases Nat.lt_or_ge (j - cs.length) ds.length with z | z
      ·exact z
      ·rw [List.getElem?_eq_none z] at hv; cases hv
     rw [if_pos (by rw [hcs] at hj hj2; omega), ← hv, hcs]
     congr 1; rw [hcs] at hj; omega
theorem new_own {A : Atom} {L : List Atom} {w w1 : World} {o : Obj} (S : SL L w) (hw : w1.heap = w.heap.push o) (he : env w1 = env w)
  (g : ∀ G H : Hp, fit G w → fit H w → G.dj H → sats (env w) G L H → A.holds (env w) G (Hp.one w.heap.size o)) : SL (A :: L) w1 := by
 obtain ⟨G, H, a, b, c, s⟩ := S
 have hh : ∀ (h : Hp), fit h w → fit h w1 := fun h f x o' e => by rw [hw]; exact fit_new f o x o' e
 refine SL.back (G := G) (h := Hp.one w.heap.size o) (H := H) (hh _ a) ?_ (hh _ b) (Hp.dj_symm (dj_new a o)) c (dj_new b o) (he ▸ g G H a b c s) (he ▸ s)
 intro x o' y
 simp only [Hp.one] at y
 split at y
 ·rename_i e; cases y; subst e; rw [hw]; exact Array.getElem?_push_size
 ·cases y
theorem sats_mem {A : Atom} {E : Env} {G : Hp} : ∀ (L : List Atom) (i : Nat) (H : Hp), L[i]? = some A → sats E G L H → ∃ k : Hp, k.le H ∧ A.holds E G k := by
 intro L
 induction L with
 | nil => intro i H h; simp at h
 | cons B L ih =>
  intro i H h s
  obtain ⟨h1, h2, d, l1, l2, c1, s1⟩ := s
  cases i with
  | zero => simp at h; subst h; exact ⟨h1, l1, c1⟩
  | succ i =>
   simp at h
   obtain ⟨k, l, hk⟩ := ih i h2 h s1
   exact ⟨k, Hp.le_trans l l2, hk⟩
theorem cells_same {α : Type} {κ : K α} {G G' : Hp} {A : Option Addr} {xs : List α} {cs ds : List Value} {w : World} (h1 : cells κ G xs cs) (h2 : cells κ G' xs ds)
  (r1 : cs = [] ∨ ∃ b o, A = some ⟨b, o, none⟩ ∧ ∀ (j : Nat) v, cs[j]? = some v → w.cell? ⟨b, o + j, none⟩ = some v)
  (r2 : ds = [] ∨ ∃ b o, A = some ⟨b, o, none⟩ ∧ ∀ (j : Nat) v, ds[j]? = some v → w.cell? ⟨b, o + j, none⟩ = some v) : ds = cs := by
 have e : cs.length = ds.length := by rw [h1.len, h2.len]
 rcases r1 with r1 | ⟨b, o, r1, q1⟩
 ·subst r1; exact List.eq_nil_of_length_eq_zero (by simpa using e.symm)
 ·rcases r2 with r2 | ⟨b', o', r2, q2⟩
  ·subst r2; exact (List.eq_nil_of_length_eq_zero (by simpa using e)).symm
  ·rw [r1] at r2; cases r2
   apply List.ext_getElem?
   intro j
   by_cases hj : j < cs.length
   ·have a1 := q1 j _ (List.getElem?_eq_getElem hj)
    have a2 := q2 j _ (List.getElem?_eq_getElem (by omega))
    rw [a1] at a2
    rw [List.getElem?_eq_getElem hj, List.getElem?_eq_getElem (by omega)]
    exact a2.symm
   ·rw [List.getElem?_eq_none (by omega), List.getElem?_eq_none (by omega)]
theorem src_cells {α : Type} {m : Md} {κ : K α} {B : Option Addr} {c ix : Nat} {ys : List α} {L : List Atom} {w : World} (S : SL L w) (hl : L[ix]? = some (sl m κ B c ys)) :
  ∃ ds : List Value, (∀ G H : Hp, fit G w → fit H w → sats (env w) G L H → cells κ G ys ds) ∧ (∀ v ∈ ds, one? v = true) ∧ ds.length = ys.length * κ.sz ∧
   ∀ (w1 : World) (len : Nat), w1.heap = w.heap → (Builtin.firstCells κ.sz ys.length (.slice B len c)).run P w1 = .ok ds.toArray w1 := by
 obtain ⟨G, h, fG, fh, _, s⟩ := S.mem hl
 have hle := sl_len s
 obtain ⟨cs, h1, h2, h3⟩ := sl_cells s fG fh
 refine ⟨cs, fun G' H' f1 f2 s' => ?_, h1.one, h1.len, fun w1 len hw => run_firstCells hw h1.len (fun e => ?_) h3⟩
 ·obtain ⟨k, lk, hk⟩ := sats_mem _ _ _ hl s'
  obtain ⟨cs', h1', _, h3'⟩ := sl_cells hk f1 (fun x o y => f2 x o (lk x o y))
  rw [← cells_same h1 h1' h3 h3']; exact h1'
 ·have : ys = [] := List.eq_nil_of_length_eq_zero (by have := h2 e; omega)
  subst this; exact h1
theorem erase_get {L : List Atom} {i j : Nat} {A : Atom} (h : L[j]? = some A) (hne : j ≠ i) : ∃ k : Nat, (L.eraseIdx i)[k]? = some A := by
 by_cases hj : j < i
 ·exact ⟨j, by rw [List.getElem?_eraseIdx_of_lt hj]; exact h⟩
 ·exact ⟨j - 1, by rw [List.getElem?_eraseIdx_of_ge (by omega)]; rw [show j - 1 + 1 = j by omega]; exact h⟩
theorem run_app {α : Type} {κ : K α} {st yt e : TypeId} {dy : TypeDesc} {by_ : Nat} {z y : Value} {A : Option Addr} {c : Nat} {xs ys : List α} {ds : List Value} {M : List Atom}
  (S : SL (sl .own κ A c xs :: M) w) (H : SlTy P st e κ.sz by_ z)
  (huy : ∀ w, (underlying yt).run P w = .ok dy w) (hdy : ∀ k, dy ≠ .int k) (hk : ∀ w, (Builtin.lenOf y).run P w = .ok ys.length w)
  (hf : ∀ w1 : World, w1.heap = w.heap → (Builtin.firstCells κ.sz ys.length y).run P w1 = .ok ds.toArray w1)
  (hds : ∀ G H : Hp, fit G w → fit H w → sats (env w) G (sl .own κ A c xs :: M) H → cells κ G ys ds) (hone : ∀ v ∈ ds, one? v = true)
  (hpos : 0 < by_) (hby : (xs.length + ys.length) * by_ ≤ 140737488355328) :
  ∃ A' c' w', (Builtin.append_ #[st, yt] ty #[.slice A xs.length c, y]).run P w = .ok (.slice A' (xs ++ ys).length c') w' ∧ SL (sl .own κ A' c' (xs ++ ys) :: M) w' := by
 rw [List.length_append]
 by_cases hn : xs.length + ys.length ≤ c
 ·obtain ⟨G0, H0, f1, f2, f3, s⟩ := S
  have S : SL (sl .own κ A c xs :: M) w := ⟨G0, H0, f1, f2, f3, s⟩
  have hlen : ds.length = ys.length * κ.sz := (hds G0 H0 f1 f2 s).len
  obtain ⟨h1, h2, d, l1, l2, q, s1⟩ := s
  have fh1 : fit h1 w := fun x o y => f2 x o (l1 x o y)
  obtain ⟨q0, q⟩ := q
  rcases q with ⟨q1, q2⟩ | ⟨b, o, arr, e', fr, q1, q2, q3, q4, cs, q5, q6⟩
  ·have e1 : ys = [] := List.eq_nil_of_length_eq_zero (by omega)
   have e2 : ds = [] := List.eq_nil_of_length_eq_zero (by rw [hlen, e1]; simp)
   refine ⟨A, c, w, run_app_fit H huy hdy hk (hf w rfl) hn (w' := w) (fun ad h => by rw [q1] at h; cases h) (fun _ => rfl), ?_⟩
   exact app_own S (fun G fG hG => by obtain ⟨H, h1, h2, _⟩ := hG; exact hds G H fG h2 h1) hn (fun _ => rfl) (fun b o arr e fr h => by rw [q1] at h; cases h) (fun _ => rfl)
  ·by_cases hd0 : ds = []
   ·refine ⟨A, c, w, run_app_fit H huy hdy hk (hf w rfl) hn (w' := w) (fun ad h => by rw [hd0]; rfl) (fun _ => rfl), ?_⟩
    exact app_own S (fun G fG hG => by obtain ⟨H, h1, h2, _⟩ := hG; exact hds G H fG h2 h1) hn (fun _ => rfl) (fun b o arr e fr _ _ _ h => absurd hd0 h) (fun _ => rfl)
   ·have hfits : o + xs.length * κ.sz + 0 + ds.length ≤ arr.size := by
     have : (xs.length + ys.length) * κ.sz ≤ c * κ.sz := Nat.mul_le_mul_right _ hn
     rw [Nat.add_mul] at this
     omega
    have hst := run_storeCells (P := P) (w := w) (vs := ds) (i := 0) (o := o + xs.length * κ.sz) (fh1 _ _ q2) q3 hfits (fun v hv => by rw [← one?_eq']; exact hone v hv) hd0
    rw [Nat.add_zero] at hst
    refine ⟨A, c, World.put w b (.cells (over arr (o + xs.length * κ.sz) ds) e' fr), run_app_fit H huy hdy hk (hf w rfl) hn (fun ad h => ?_) (fun h => by rw [q1] at h; cases h), ?_⟩
    ·rw [q1] at h; cases h
     rw [add_eA, eA_some]; exact hst
    ·refine app_own S (fun G fG hG => by obtain ⟨H, h1, h2, _⟩ := hG; exact hds G H fG h2 h1) hn (fun h => by rw [q1] at h; cases h) (fun b2 o2 arr2 e2 fr2 g1 g2 _ _ => ?_) (fun h => absurd h hd0)
     rw [q1] at g1; cases g1
     rw [fh1 _ _ q2] at g2; cases g2; rfl
 ·obtain ⟨cs, hc1, hc2, hc3, hc4⟩ := src_cells (P := P) (ix := 0) S rfl
  obtain ⟨c', zs, g1, g2, g3⟩ := run_app_grow (ty := ty) (m := xs.length) (cs := cs) (ds := ds) (A := A) (c := c) H huy hdy hk hf (fun w1 hw => hc4 w1 _ hw) (by omega) hpos hby
  refine ⟨_, c', _, g3, ?_⟩
  have S2 := new_own (A := sl .own κ (some ⟨w.heap.size, 0, none⟩) c' (xs ++ ys)) (o := .cells (cs ++ ds ++ zs).toArray e)
   (w1 := { heap := w.heap.push (.cells (cs ++ ds ++ zs).toArray e), tape := w.tape, drawn := w.drawn + 1, os := w.os, output := w.output }) S rfl rfl (fun G H fG fH _ s => ?_)
  ·exact S2.perm (.swap _ _ _) |>.dropL (L := [_])
  ·have a1 := hc1 G H fG fH s
   have a2 := hds G H fG fH s
   have a3 := cells.append a2 a1
   refine ⟨by simpa using g1, .inr ⟨w.heap.size, 0, (cs ++ ds ++ zs).toArray, e, (0, 0), rfl, by simp [Hp.one], unfrozen_zero _, ?_, cs ++ ds, a3, ?_⟩⟩
   ·have := a3.len
    simp only [List.length_append] at this g1
    simp only [List.size_toArray, List.length_append, g2, Nat.zero_add]
    have hx : (xs.length + ys.length) * κ.sz + (c' - (xs.length + ys.length)) * κ.sz = c' * κ.sz := by
     rw [← Nat.add_mul]; congr 1; omega
    omega
   ·intro j v hv
    have : j < (cs ++ ds).length := by
     rcases Nat.lt_or_ge j (cs ++ ds).length with z | z
     ·exact z
     ·rw [List.getElem?_eq_none z] at hv; cases hv
    simp only [Nat.zero_add, List.getElem?_toArray]
    rw [List.getElem?_append_left this]; exact hv
theorem r_app {α : Type} {κ : K α} {my : Md} {st yt e e' : TypeId} {by_ : Nat} {z : Value} {x y : Operand} {A B : Option Addr} {c cB ix iy : Nat} {xs ys : List α} (T : Tm n t a) (S : SL (l ++ F) w)
  (hx : ev t x = some (.slice A xs.length c)) (hlx : l[ix]? = some (sl .own κ A c xs)) (hy : ev t y = some (.slice B ys.length cB)) (hly : l[iy]? = some (sl my κ B cB ys)) (hne : iy ≠ ix)
  (H : SlTy P st e κ.sz by_ z) (huy : ∀ w, (underlying yt).run P w = .ok (.slice e') w) (hpos : 0 < by_) (hby : (xs.length + ys.length) * by_ ≤ 140737488355328) (hd : Nat.blt d n = true)
  (next : ∀ a' w' A' c', SL (l.set ix (sl .own κ A' c' (xs ++ ys)) ++ F) w' → Tm n ((d, .slice A' (xs ++ ys).length c') :: t) a' → wpN Y P ops N rest a' w') :
  wpN Y P ops N (⟨some d, .call ⟨.builtin .append, #[x, y], #[st, yt]⟩, ty, pos, after, none⟩ :: rest) a w := by
 have S1 := S.perm ((get_perm hlx).append_right F)
 obtain ⟨k, hk⟩ := erase_get hly hne
 have hk' : (sl .own κ A c xs :: (l.eraseIdx ix ++ F))[k + 1]? = some (sl my κ B cB ys) := by
  rw [List.getElem?_cons_succ, List.getElem?_append_left]
  ·exact hk
  ·rcases Nat.lt_or_ge k (l.eraseIdx ix).length with q | q
   ·exact q
   ·rw [List.getElem?_eq_none q] at hk; cases hk
 obtain ⟨ds, d1, d2, d3, d4⟩ := src_cells (P := P) (L := sl .own κ A c xs :: (l.eraseIdx ix ++ F)) S1 hk'
 obtain ⟨A', c', w', hr, S2⟩ := run_app (ty := ty) (M := l.eraseIdx ix ++ F) (y := .slice B ys.length cB) S1 H huy (fun k h => by cases h) (fun w => by simp [Builtin.lenOf]) (fun w1 hw => d4 w1 _ hw) d1 d2 hpos hby
 refine wpN_val rfl ?_ (next _ w' A' c' (S2.perm (((set_perm hlx).append_right F).symm)) (T.put hd _))
 have e1 := T.ev hx
 have e2 := T.ev hy
 simp only [execOp, resolve, invoke, builtin, Sem.run_bind, Sem.run_pure, Result.andThen_ok]
 simp only [List.map_toArray, List.map_cons, List.map_nil, e1, e2]
 rw [hr]; rfl
theorem r_appT {α : Type} {κ : K α} {mx my : Md} {st yt e e' : TypeId} {by_ : Nat} {z : Value} {x y : Operand} {A B : Option Addr} {c cB ix iy : Nat} {xs ys : List α} (T : Tm n t a) (S : SL (l ++ F) w)
  (hx : ev t x = some (.slice A xs.length c)) (hlx : l[ix]? = some (sl mx κ A c xs)) (hy : ev t y = some (.slice B ys.length cB)) (hly : l[iy]? = some (sl my κ B cB ys)) (hc : c = xs.length) (hys : 0 < ys.length)
  (H : SlTy P st e κ.sz by_ z) (huy : ∀ w, (underlying yt).run P w = .ok (.slice e') w) (hpos : 0 < by_) (hby : (xs.length + ys.length) * by_ ≤ 140737488355328) (hd : Nat.blt d n = true)
  (next : ∀ a' w' A' c', SL ((sl .own κ A' c' (xs ++ ys) :: l) ++ F) w' → Tm n ((d, .slice A' (xs ++ ys).length c') :: t) a' → wpN Y P ops N rest a' w') :
  wpN Y P ops N (⟨some d, .call ⟨.builtin .append, #[x, y], #[st, yt]⟩, ty, pos, after, none⟩ :: rest) a w := by
 have hF : ∀ {A : Atom} {i : Nat}, l[i]? = some A → (l ++ F)[i]? = some A := fun {A i} h => by
  rw [List.getElem?_append_left]
  ·exact h
  ·rcases Nat.lt_or_ge i l.length with q | q
   ·exact q
   ·rw [List.getElem?_eq_none q] at h; cases h
 obtain ⟨cs, hc1, hc2, hc3, hc4⟩ := src_cells (P := P) S (hF hlx)
 obtain ⟨ds, d1, d2, d3, d4⟩ := src_cells (P := P) S (hF hly)
 obtain ⟨c', zs, g1, g2, g3⟩ := run_app_grow (ty := ty) (m := xs.length) (k := ys.length) (y := .slice B ys.length cB) (cs := cs) (ds := ds) (A := A) (c := c) H huy (fun k h => by cases h) (fun w => by simp [Builtin.lenOf]) (fun w1 hw => d4 w1 _ hw) (fun w1 hw => hc4 w1 _ hw) (by omega) hpos hby
 have S2 := new_own (A := sl .own κ (some ⟨w.heap.size, 0, none⟩) c' (xs ++ ys)) (o := .cells (cs ++ ds ++ zs).toArray e)
   (w1 := { heap := w.heap.push (.cells (cs ++ ds ++ zs).toArray e), tape := w.tape, drawn := w.drawn + 1, os := w.os, output := w.output }) S rfl rfl (fun G H fG fH _ s => ?_)
 ·refine wpN_val rfl ?_ (next _ _ _ c' S2 (T.put hd _))
  have e1 := T.ev hx
  have e2 := T.ev hy
  simp only [execOp, resolve, invoke, builtin, Sem.run_bind, Sem.run_pure, Result.andThen_ok]
  simp only [List.map_toArray, List.map_cons, List.map_nil, e1, e2, List.length_append]
  rw [g3]; rfl
 ·have a1 := hc1 G H fG fH s
  have a2 := d1 G H fG fH s
  have a3 := cells.append a2 a1
  refine ⟨by simpa using g1, .inr ⟨w.heap.size, 0, (cs ++ ds ++ zs).toArray, e, (0, 0), rfl, by simp [Hp.one], unfrozen_zero _, ?_, cs ++ ds, a3, ?_⟩⟩
  ·have := a3.len
   simp only [List.length_append] at this g1
   simp only [List.size_toArray, List.length_append, g2, Nat.zero_add]
   have hx : (xs.length + ys.length) * κ.sz + (c' - (xs.length + ys.length)) * κ.sz = c' * κ.sz := by
    rw [← Nat.add_mul]; congr 1; omega
   omega
  ·intro j v hv
   have : j < (cs ++ ds).length := by
    rcases Nat.lt_or_ge j (cs ++ ds).length with z | z
    ·exact z
    ·rw [List.getElem?_eq_none z] at hv; cases hv
   simp only [Nat.zero_add, List.getElem?_toArray]
   rw [List.getElem?_append_left this]; exact hv
end
theorem getF {l F : List Atom} {A : Atom} {i : Nat} (h : l[i]? = some A) : (l ++ F)[i]? = some A := by
 rw [List.getElem?_append_left]
 ·exact h
 ·rcases Nat.lt_or_ge i l.length with q | q
  ·exact q
  ·rw [List.getElem?_eq_none q] at h; cases h
section
variable {Y : Bool} {P : Program} {ops : Array Oper} {N : Act → World → Prop} {rest : List Oper} {n : Nat} {t : List (Nat × Value)} {a : Act} {w : World}
variable {d : Nat} {ty : TypeId} {pos : String} {after : Array Edge} {l F : List Atom}
theorem SL.addL {A B : Atom} {i : Nat} (S : SL (l ++ F) w) (hl : l[i]? = some A) (h : ∀ G h, A.holds (env w) G h → B.holds (env w) G Hp.zero) : SL ((B :: l) ++ F) w := by
 obtain ⟨G, H, a, b, c, s⟩ := S
 obtain ⟨k, lk, hk⟩ := sats_mem _ _ _ (getF (F := F) hl) s
 exact SL.back (G := G) (h := Hp.zero) (H := H) a (fun _ _ e => by cases e) b (Hp.dj_symm (Hp.zero_dj _)) c (Hp.zero_dj _) (h G k hk) s
theorem SL.turnL {A B : Atom} {i : Nat} {l' : List Atom} (S : SL (l ++ F) w) (hl : l[i]? = some A) (h : ∀ G h, A.holds (env w) G h → B.holds (env w) G h) (hl' : l.set i B = l') : SL (l' ++ F) w := by
 subst hl'
 exact S.upd hl fun M SM => SM.turn fun G k _ _ q => h G k q
theorem SL.fixL {α : Type} {κ : K α} {A : Option Addr} {c : Nat} {xs : List α} {i : Nat} {l' : List Atom} (S : SL (l ++ F) w) (hl : l[i]? = some (sl .own κ A c xs)) (hl' : l.set i (sl .ro κ A c xs) = l') : SL (l' ++ F) w := by
 subst hl'
 refine S.upd hl fun M SM => SM.fix fun G h d q => ?_
 obtain ⟨q0, ⟨q1, q2⟩ | ⟨b, o, arr, e, fr, q1, q2, q3, q4, q5⟩⟩ := q
 ·exact ⟨q0, fun _ => q2, .inl (List.eq_nil_of_length_eq_zero (by omega))⟩
 ·exact ⟨q0, fun h => (by rw [q1] at h; cases h), .inr ⟨b, o, arr, e, fr, q1, Hp.le_un_right d _ _ q2, q5.mono (Hp.le_un_left _ _)⟩⟩
theorem SL.nil {α : Type} (κ : K α) (m : Md) (S : SL (l ++ F) w) (hm : m = .ro ∨ m = .own := by first | exact .inl rfl | exact .inr rfl) : SL ((sl m κ none 0 [] :: l) ++ F) w :=
 SL.free S fun G => by
  cases m with
  | ro => exact ⟨Nat.le_refl _, fun _ => rfl, .inl rfl⟩
  | own => exact ⟨Nat.le_refl _, .inl ⟨rfl, rfl⟩⟩
  | part off zs => rcases hm with h | h <;> cases h
  | plus Q => rcases hm with h | h <;> cases h
theorem SL.val {α : Type} {κ : K α} {x : α} {cs : List Value} (h : ∀ G, κ.rep G x cs) (S : SL (l ++ F) w) : SL ((rp κ x cs :: l) ++ F) w := SL.free S fun G => h G
theorem SL.prf {p : Prop} (h : p) (S : SL (l ++ F) w) : SL ((pr p :: l) ++ F) w := SL.free S fun _ => h
theorem SL.getp {p : Prop} {i : Nat} (S : SL (l ++ F) w) (hl : l[i]? = some (pr p)) : p := by
 obtain ⟨_, _, _, _, _, h⟩ := S.memF hl; exact h
theorem SL.len {α : Type} {m : Md} {κ : K α} {A : Option Addr} {c : Nat} {xs : List α} {i : Nat} (S : SL (l ++ F) w) (hl : l[i]? = some (sl m κ A c xs)) : xs.length ≤ c := by
 obtain ⟨_, _, _, _, _, h⟩ := S.memF hl; exact sl_len h
theorem SL.dup {α : Type} {κ : K α} {A : Option Addr} {c : Nat} {xs : List α} {i : Nat} (S : SL (l ++ F) w) (hl : l[i]? = some (sl .ro κ A c xs)) : SL ((sl .ro κ A c xs :: l) ++ F) w :=
 S.addL hl fun _ _ h => h
theorem SL.asVal {α : Type} {κ : K α} {A : Option Addr} {c : Nat} {xs : List α} {i : Nat} (S : SL (l ++ F) w) (hl : l[i]? = some (sl .ro κ A c xs)) :
  SL ((rp (kSl κ) xs [.slice A xs.length c] :: l) ++ F) w := S.addL hl fun _ _ h => ⟨A, c, rfl, h⟩
theorem SL.ofVal {α : Type} {κ : K α} {xs : List α} {v : Value} (S : SL ((rp (kSl κ) xs [v] :: l) ++ F) w) :
  ∃ A c, v = .slice A xs.length c ∧ SL ((sl .ro κ A c xs :: l) ++ F) w := by
 have hex : ∃ A c, v = .slice A xs.length c := by
  obtain ⟨_, _, _, _, _, A, c, h, _⟩ := SL.mem (L := rp (kSl κ) xs [v] :: (l ++ F)) (i := 0) S rfl
  exact ⟨A, c, by simpa using h⟩
 obtain ⟨A, c, rfl⟩ := hex
 refine ⟨A, c, rfl, SL.turn S fun G h _ _ q => ?_⟩
 obtain ⟨A', c', e, q⟩ := q
 simp at e
 obtain ⟨rfl, rfl⟩ := e
 exact q
theorem rep_cells {α : Type} {κ : K α} {x : α} {zs : List Value} (hz : ∀ G, κ.rep G x zs) (G : Hp) : ∀ k : Nat, cells κ G (List.replicate k x) (List.replicate k zs).flatten
 | 0 => rfl
 | k + 1 => ⟨zs, (List.replicate k zs).flatten, by rw [List.replicate_succ, List.flatten_cons], hz G, rep_cells hz G k⟩
theorem flat_get {zs : List Value} (hne : 0 < zs.length) : ∀ (k j : Nat), j < k * zs.length → (List.replicate k zs).flatten[j]? = zs[j % zs.length]?
 | 0, j, h => by simp at h
 | k + 1, j, h => by
  rw [List.replicate_succ, List.flatten_cons]
  by_cases hj : j < zs.length
  ·rw [List.getElem?_append_left hj, Nat.mod_eq_of_lt hj]
  ·rw [List.getElem?_append_right (by omega), flat_get hne k (j - zs.length) (by rw [Nat.add_mul, Nat.one_mul] at h; omega)]
   congr 1
   exact (Nat.mod_eq_sub_mod (by omega)).symm
theorem r_make {α : Type} {κ : K α} {st e : TypeId} {by_ : Nat} {z : Value} {x y : Operand} {k k' : IntKind} {m c : Int} (T : Tm n t a) (S : SL (l ++ F) w)
  (hx : ev t x = some (.int k m)) (hy : ev t y = some (.int k' c)) (H : SlTy P st e κ.sz by_ z) (dv : α) (hz : ∀ G, κ.rep G dv z.cells.toList) (h0 : 0 ≤ m) (h1 : m ≤ c) (hpos : 0 < by_) (hby : by_ * c ≤ 281474976710656) (hd : Nat.blt d n = true)
  (next : ∀ a' w' b, SL ((sl .own κ (some ⟨b, 0, none⟩) c.toNat (List.replicate m.toNat dv) :: l) ++ F) w' → Tm n ((d, .slice (some ⟨b, 0, none⟩) m.toNat c.toNat) :: t) a' → wpN Y P ops N rest a' w') :
  wpN Y P ops N (⟨some d, .makeSlice st x y, ty, pos, after, none⟩ :: rest) a w := by
 obtain ⟨ti, hti, hinfo⟩ := H.info
 have hcb : c ≤ 281474976710656 := by
  have : (1 : Int) * c ≤ by_ * c := Int.mul_le_mul_of_nonneg_right (by omega) (by omega)
  omega
 have hwm : IntKind.i64.wrap m = m := by simp [IntKind.wrap, IntKind.bits, IntKind.signed]; omega
 have hwc : IntKind.i64.wrap c = c := by simp [IntKind.wrap, IntKind.bits, IntKind.signed]; omega
 let arr : Array Value := (Array.range (c.toNat * κ.sz)).map fun i => (if c.toNat * κ.sz = 0 then #[] else z.cells)[i % (if c.toNat * κ.sz = 0 then #[] else z.cells).size]!
 refine wpN_val (w' := World.new w (.cells arr e)) (v := .slice (some ⟨w.heap.size, 0, none⟩) m.toNat c.toNat) rfl ?_ (next _ _ w.heap.size ?_ (T.put hd _))
 ·simp only [execOp, T.ev hx, T.ev hy, Instr.makeSlice]
  have hp1 : (2 : Int) ^ 48 = 281474976710656 := by decide
  have hlt : ¬ (281474976710656 : Int) < (by_ : Int) * c := by omega
  have hm0 : ¬ m < 0 := by omega
  have hc0 : ¬ c < 0 := by omega
  have hmc : ¬ c < m := by omega
  simp [H.und, hinfo, asInt, asIntOf, hwm, hwc, hti, hlt, hm0, hc0, hmc, H.size]
  by_cases hk : c.toNat * κ.sz = 0
  ·have hk' : c ≤ 0 ∨ κ.sz = 0 := by
    rcases Nat.mul_eq_zero.1 hk with q | q
    ·left; omega
    ·exact .inr q
   simp [hk', newRow, World.new, arr, hk]
  ·have hk' : ¬ (c ≤ 0 ∨ κ.sz = 0) := by
    intro q; apply hk; rcases q with q | q
    ·rw [show c.toNat = 0 by omega]; simp
    ·rw [q]; simp
   simp [hk', H.zero, newRow, World.new, arr, hk]
 ·have hzl := κ.len (hz Hp.zero)
  simp only [Array.length_toList] at hzl
  refine SL.new S _ fun E G => ⟨by simp; omega, .inr ⟨w.heap.size, 0, arr, e, (0, 0), rfl, by simp [Hp.one], unfrozen_zero _, by simp [arr], (List.replicate m.toNat z.cells.toList).flatten, rep_cells hz G m.toNat, ?_⟩⟩
  intro j v hv
  have hlen : (List.replicate m.toNat z.cells.toList).flatten.length = m.toNat * κ.sz := by simp [List.length_flatten, hzl]
  have hj : j < m.toNat * κ.sz := by
   rcases Nat.lt_or_ge j (m.toNat * κ.sz) with q | q
   ·exact q
   ·rw [List.getElem?_eq_none (by omega)] at hv; cases hv
  have hsz : 0 < κ.sz := by
   rcases Nat.eq_zero_or_pos κ.sz with q | q
   ·rw [q] at hj; simp at hj
   ·exact q
  have hjc : j < c.toNat * κ.sz := Nat.lt_of_lt_of_le hj (Nat.mul_le_mul_right _ (by omega))
  rw [flat_get (by simp [hzl, hsz]) _ _ (by simpa [hzl] using hj)] at hv
  have hne : ¬ c.toNat * κ.sz = 0 := by omega
  simp only [Nat.zero_add, arr, hne, if_false]
  simp only [Array.length_toList, hzl] at hv
  have hmod : j % κ.sz < z.cells.size := by rw [hzl]; exact Nat.mod_lt _ hsz
  simp [hjc, hzl]
  rw [getElem!_pos z.cells _ hmod]
  simpa [hmod] using hv
def slA (A : Option Addr) (m l sz : Nat) : Option Addr := if m = l then A else A.map (·.add (l * sz))
def cut {α : Type} (xs : List α) (lo hi : Nat) : List α := (xs.take hi).drop lo
theorem cut_len {α : Type} (xs : List α) (lo hi : Nat) (h : hi ≤ xs.length) : (cut xs lo hi).length = hi - lo := by simp [cut]; omega
def lowOf (t : List (Nat × Value)) : Option Operand → Option Int
 | none => some 0
 | some x => match ev t x with | some (.int _ i) => some i | _ => none
def highOf (t : List (Nat × Value)) (len : Int) : Option Operand → Option Int
 | none => some len
 | some x => match ev t x with | some (.int _ i) => some i | _ => none
theorem run_bound {k : IntKind} {i : Int} {y : Nat} {code : BoundsCode} (h0 : 0 ≤ i) (h1 : i ≤ y) : (Instr.sliceBound (.int k i) y code).run P w = .ok i.toNat w := by
 simp [Instr.sliceBound, asIntOf, h0, h1]
theorem lowOf_ev {T : Tm n t a} {x : Operand} {i : Int} (h : lowOf t (some x) = some i) : ∃ k, a.eval x = .int k i := by
 simp only [lowOf] at h
 split at h
 ·rename_i k j e; cases h; exact ⟨k, T.ev e⟩
 ·cases h
theorem run_slice {st e : TypeId} {sz : Nat} {A : Option Addr} {len c : Nat} {lo hi mx : Option Operand} {i j k : Int} (T : Tm n t a) (hmx : mx.isSome = true → hi.isSome = true)
  (hlo : lowOf t lo = some i) (hhi : highOf t len hi = some j) (hm : highOf t c mx = some k) (h0 : 0 ≤ i) (h1 : i ≤ j) (h2 : j ≤ k) (h3 : k ≤ (c : Int))
  (hu : ∀ w, (underlying st).run P w = .ok (.slice e) w) (hs : ∀ w, (sizeOf e).run P w = .ok sz w) :
  (Instr.sliceAt st (.slice A len c) (lo.map a.eval) (hi.map a.eval) (mx.map a.eval)).run P w = .ok (.slice (slA A k.toNat i.toNat sz) (j.toNat - i.toNat) (k.toNat - i.toNat)) w := by
 have hb : (Instr.sliceBounds true len c (lo.map a.eval) (hi.map a.eval) (mx.map a.eval)).run P w = .ok (i.toNat, j.toNat, k.toNat) w := by
  cases mx with
  | some xm =>
   obtain ⟨km, em⟩ := lowOf_ev (T := T) (x := xm) (i := k) hm
   cases hi with
   | none => simp at hmx
   | some xh =>
    obtain ⟨kh, eh⟩ := lowOf_ev (T := T) (x := xh) (i := j) hhi
    have hb1 : ∀ code, (Instr.sliceBound (.int km k) c code).run P w = .ok k.toNat w := fun code => run_bound (by omega) h3
    have hb2 : ∀ code, (Instr.sliceBound (.int kh j) k.toNat code).run P w = .ok j.toNat w := fun code => run_bound (by omega) (by omega)
    cases lo with
    | none => cases hlo; simp [Instr.sliceBounds, em, eh, hb1, hb2]
    | some xl =>
     obtain ⟨kl, el⟩ := lowOf_ev (T := T) (x := xl) (i := i) hlo
     have hb3 : ∀ code, (Instr.sliceBound (.int kl i) j.toNat code).run P w = .ok i.toNat w := fun code => run_bound h0 (by omega)
     simp [Instr.sliceBounds, em, eh, el, hb1, hb2, hb3]
  | none =>
   cases hm
   cases hi with
   | none =>
    cases hhi
    cases lo with
    | none => cases hlo; simp [Instr.sliceBounds]
    | some xl =>
     obtain ⟨kl, el⟩ := lowOf_ev (T := T) (x := xl) (i := i) hlo
     have hb3 : ∀ code, (Instr.sliceBound (.int kl i) len code).run P w = .ok i.toNat w := fun code => run_bound h0 (by omega)
     simp [Instr.sliceBounds, el, hb3]
   | some xh =>
    obtain ⟨kh, eh⟩ := lowOf_ev (T := T) (x := xh) (i := j) hhi
    have hb2 : ∀ code, (Instr.sliceBound (.int kh j) c code).run P w = .ok j.toNat w := fun code => run_bound (by omega) (by omega)
    cases lo with
    | none => cases hlo; simp [Instr.sliceBounds, eh, hb2]
    | some xl =>
     obtain ⟨kl, el⟩ := lowOf_ev (T := T) (x := xl) (i := i) hlo
     have hb3 : ∀ code, (Instr.sliceBound (.int kl i) j.toNat code).run P w = .ok i.toNat w := fun code => run_bound h0 (by omega)
     simp [Instr.sliceBounds, eh, el, hb2, hb3]
 simp [Instr.sliceAt, hu, Instr.slice, hb, hs, slA]
theorem els_cut {α : Type} {κ : K α} {G : Hp} {arr : Array Value} {o : Nat} {xs : List α} (h : els κ G arr o xs) (lo hi : Nat) : els κ G arr (o + lo * κ.sz) (cut xs lo hi) := by
 obtain ⟨cs, h1, h2⟩ := h
 refine ⟨(cs.take (hi * κ.sz)).drop (lo * κ.sz), (h1.take hi).drop lo, fun j v e => ?_⟩
 rw [List.getElem?_drop, List.getElem?_take] at e
 split at e
 ·rw [Nat.add_assoc]; exact h2 _ _ e
 ·cases e
theorem r_slR {α : Type} {κ : K α} {st e : TypeId} {x : Operand} {A : Option Addr} {c ix : Nat} {xs : List α} {lo hi mx : Option Operand} {i j k : Int} (T : Tm n t a) (S : SL (l ++ F) w)
  (hx : ev t x = some (.slice A xs.length c)) (hl : l[ix]? = some (sl .ro κ A c xs)) (hmx : mx.isSome = true → hi.isSome = true)
  (hlo : lowOf t lo = some i) (hhi : highOf t xs.length hi = some j) (hm : highOf t c mx = some k) (h0 : 0 ≤ i) (h1 : i ≤ j) (hj : j ≤ (xs.length : Int)) (h2 : j ≤ k) (h3 : k ≤ (c : Int))
  (hu : ∀ w, (underlying st).run P w = .ok (.slice e) w) (hs : ∀ w, (sizeOf e).run P w = .ok κ.sz w) (hd : Nat.blt d n = true)
  (next : ∀ a' A', SL ((sl .ro κ A' (k.toNat - i.toNat) (cut xs i.toNat j.toNat) :: l) ++ F) w → Tm n ((d, .slice A' (cut xs i.toNat j.toNat).length (k.toNat - i.toNat)) :: t) a' → wpN Y P ops N rest a' w) :
  wpN Y P ops N (⟨some d, .slice st x lo hi mx, ty, pos, after, none⟩ :: rest) a w := by
 have hcl := cut_len xs i.toNat j.toNat (by omega)
 refine wpN_val (v := .slice (slA A k.toNat i.toNat κ.sz) (cut xs i.toNat j.toNat).length (k.toNat - i.toNat)) rfl ?_ (next _ _ ?_ (T.put hd _))
 ·simp only [execOp, T.ev hx]
  rw [hcl, Sem.run_bind, run_slice T hmx hlo hhi hm h0 h1 h2 h3 hu hs]
  rfl
 ·refine S.addL hl fun G h q => ?_
  obtain ⟨q0, q00, q⟩ := q
  refine ⟨by rw [hcl]; omega, fun hn => ?_, ?_⟩
  ·have : A = none := by
    unfold slA at hn
    split at hn
    ·exact hn
    ·simpa using hn
   have := q00 this
   omega
  ·by_cases he : j.toNat = i.toNat
   ·left; exact List.eq_nil_of_length_eq_zero (by omega)
   ·right
    rcases q with q | ⟨b, o, arr, e', fr, q1, q2, q3⟩
    ·subst q; simp at hj; omega
    ·refine ⟨b, o + i.toNat * κ.sz, arr, e', fr, ?_, q2, els_cut q3 _ _⟩
     subst q1
     unfold slA
     rw [if_neg (by omega)]
     simp [add_eA, eA_some]
theorem r_slO {α : Type} {κ : K α} {st e : TypeId} {x : Operand} {A : Option Addr} {c ix : Nat} {xs : List α} {lo hi mx : Option Operand} {i j k : Int} (T : Tm n t a) (S : SL (l ++ F) w)
  (hx : ev t x = some (.slice A xs.length c)) (hl : l[ix]? = some (sl .own κ A c xs)) (hmx : mx.isSome = true → hi.isSome = true)
  (hlo : lowOf t lo = some i) (hhi : highOf t xs.length hi = some j) (hm : highOf t c mx = some k) (h0 : 0 ≤ i) (h1 : i ≤ j) (hj : j ≤ (xs.length : Int)) (h2 : j ≤ k) (h3 : k ≤ (c : Int))
  (hu : ∀ w, (underlying st).run P w = .ok (.slice e) w) (hs : ∀ w, (sizeOf e).run P w = .ok κ.sz w) (hd : Nat.blt d n = true)
  (next : ∀ a' A', SL (l.set ix (sl .own κ A' (k.toNat - i.toNat) (cut xs i.toNat j.toNat)) ++ F) w → Tm n ((d, .slice A' (cut xs i.toNat j.toNat).length (k.toNat - i.toNat)) :: t) a' → wpN Y P ops N rest a' w) :
  wpN Y P ops N (⟨some d, .slice st x lo hi mx, ty, pos, after, none⟩ :: rest) a w := by
 have hcl := cut_len xs i.toNat j.toNat (by omega)
 refine wpN_val (v := .slice (slA A k.toNat i.toNat κ.sz) (cut xs i.toNat j.toNat).length (k.toNat - i.toNat)) rfl ?_ (next _ _ ?_ (T.put hd _))
 ·simp only [execOp, T.ev hx]
  rw [hcl, Sem.run_bind, run_slice T hmx hlo hhi hm h0 h1 h2 h3 hu hs]
  rfl
 ·refine S.turnL hl (fun G h q => ?_) rfl
  obtain ⟨q0, ⟨q1, q2⟩ | ⟨b, o, arr, e', fr, q1, q2, q3, q4, q5⟩⟩ := q
  ·refine ⟨by rw [hcl]; omega, .inl ⟨?_, by omega⟩⟩
   subst q1; simp [slA]
  ·refine ⟨by rw [hcl]; omega, ?_⟩
   subst q1
   by_cases hk : k.toNat = i.toNat
   ·right
    refine ⟨b, o, arr, e', fr, by simp [slA, hk], q2, q3, by rw [hk]; simp; omega, ?_⟩
    have : cut xs i.toNat j.toNat = [] := List.eq_nil_of_length_eq_zero (by omega)
    rw [this]; exact ⟨[], rfl, fun j v e => by simp at e⟩
   ·right
    refine ⟨b, o + i.toNat * κ.sz, arr, e', fr, ?_, q2, q3, ?_, els_cut q5 _ _⟩
    ·unfold slA; rw [if_neg hk]; simp [add_eA, eA_some]
    ·have hx : i.toNat * κ.sz + (k.toNat - i.toNat) * κ.sz = k.toNat * κ.sz := by rw [← Nat.add_mul]; congr 1; omega
     have hy : k.toNat * κ.sz ≤ c * κ.sz := Nat.mul_le_mul_right _ (by omega)
     omega
def bstr (xs : List Int) : ByteArray := ⟨(xs.map fun n => UInt8.ofNat n.toNat).toArray⟩
theorem cells_u8 {G : Hp} : ∀ {xs : List Int} {cs : List Value}, cells (kInt .u8) G xs cs → cs = xs.map (Value.int .u8)
 | [], _, h => h
 | x :: xs, _, ⟨c1, c2, e, h1, h2⟩ => by rw [e, h1, cells_u8 h2]; rfl
theorem b2s_fold : ∀ (xs : List Int) (acc : ByteArray), List.foldl (fun b (x : Int) => b.push (UInt8.ofNat x.toNat)) acc xs = ⟨acc.data ++ (xs.map fun n => UInt8.ofNat n.toNat).toArray⟩
 | [], acc => by simp
 | x :: xs, acc => by
  rw [List.foldl_cons, b2s_fold xs]
  apply ByteArray.ext
  simp [ByteArray.push]
theorem r_b2s {src dst e : TypeId} {m : Md} {x : Operand} {A : Option Addr} {c ix : Nat} {xs : List Int} (T : Tm n t a) (S : SL (l ++ F) w)
  (hx : ev t x = some (.slice A xs.length c)) (hl : l[ix]? = some (sl m (kInt .u8) A c xs))
  (h1 : ∀ w, (underlying src).run P w = .ok (.slice e) w) (h2 : ∀ w, (underlying dst).run P w = .ok .string w) (h3 : ∀ w, (underlying e).run P w = .ok (.int .u8) w) (hd : Nat.blt d n = true)
  (next : ∀ a', Tm n ((d, .string (bstr xs)) :: t) a' → wpN Y P ops N rest a' w) : wpN Y P ops N (⟨some d, .convert src dst x, ty, pos, after, none⟩ :: rest) a w := by
 refine wpN_val rfl ?_ (next _ (T.put hd _))
 obtain ⟨G, h, fG, fh, _, s⟩ := S.memF hl
 have hle := sl_len s
 obtain ⟨cs, q1, q2, q3⟩ := sl_cells s fG fh
 have hcs := cells_u8 q1
 simp only [execOp, T.ev hx]
 cases A with
 | none =>
  have : xs = [] := List.eq_nil_of_length_eq_zero (by have := q2 rfl; omega)
  subst this
  simp [convert, h1, h2, h3, Conv.bytesToString, bstr]
  rfl
 | some ad =>
  have hr : (loadCells ad xs.length).run P w = .ok cs.toArray w := by
   have : xs.length = cs.length := by rw [hcs]; simp
   rw [this]
   apply run_loadCells
   intro j v e
   rcases q3 with q3 | ⟨b, o, e1, e2⟩
   ·subst q3; simp at e
   ·cases e1; rw [add_eA, eA_some]; exact e2 j v e
  subst hcs
  simp [convert, h1, h2, h3, Conv.bytesToString, hr]
  rw [b2s_fold]; simp [bstr]
def evps (t : List (Nat × Value)) : List (Nat × Operand) → Option (List (Nat × Value))
 | [] => some []
 | (i, x) :: r => match ev t x, evps t r with | some v, some vs => some ((i, v) :: vs) | _, _ => none
theorem evps_ev (T : Tm n t a) : ∀ {ps : List (Nat × Operand)} {vs : List (Nat × Value)}, evps t ps = some vs → (ps.map fun p => (p.1, a.eval p.2)) = vs
 | [], vs, h => by simpa [evps] using h
 | (i, x) :: r, vs, h => by
  simp only [evps] at h
  split at h
  ·rename_i v vs' h1 h2
   cases h
   simp [T.ev h1, evps_ev T h2]
  ·cases h
structure StTy (P : Program) (s : TypeId) (zs : Array Value) (pl : Array (Nat × Nat)) : Prop where
 zero : ∀ w, (zeroValue s).run P w = .ok (.agg zs) w
 fields : ∃ fs, (∀ w, (underlying s).run P w = .ok (.struct fs) w) ∧ ∀ w, (fs.mapM fun f => do pure (f.offset, ← sizeOf f.type) : Sem (Array (Nat × Nat))).run P w = .ok pl w
theorem r_build {s : TypeId} {zs : Array Value} {pl : Array (Nat × Nat)} {parts : Array (Nat × Operand)} {ps : List (Nat × Value)} {cs : Array Value} (T : Tm n t a) (H : StTy P s zs pl)
  (hp : evps t parts.toList = some ps) (hf : Instr.fill (fun i => pl[i]?) zs ps = some cs) (hd : Nat.blt d n = true)
  (next : ∀ a', Tm n ((d, .agg cs) :: t) a' → wpN Y P ops N rest a' w) : wpN Y P ops N (⟨some d, .build s parts, ty, pos, after, none⟩ :: rest) a w := by
 refine wpN_val rfl ?_ (next _ (T.put hd _))
 obtain ⟨fs, h1, h2⟩ := H.fields
 have e1 := evps_ev T hp
 have e2 : (parts.map fun p => (p.1, a.eval p.2)).toList = ps := by simpa using e1
 simp only [execOp, Instr.build, Sem.run_bind, H.zero, Result.andThen_ok, h1, h2, e2, Value.cells, hf]
 rfl
def reps {α : Type} (κ : K α) : List α → List Value → List Atom → Prop
 | [], vs, _ => vs = []
 | x :: xs, vs, l => ∃ v vs', vs = v :: vs' ∧ (∃ i : Nat, l[i]? = some (rp κ x v.cells.toList)) ∧ reps κ xs vs' l
theorem reps_cells {α : Type} {κ : K α} {E : Env} {G H : Hp} (s : sats E G (l ++ F) H) : ∀ {xs : List α} {vs : List Value}, reps κ xs vs l → cells κ G xs (vs.map fun v => v.cells.toList).flatten
 | [], vs, h => by rw [h]; rfl
 | x :: xs, _, ⟨v, vs', e, ⟨i, hi⟩, h⟩ => by
  subst e
  obtain ⟨k, _, hk⟩ := sats_mem _ _ _ (getF (F := F) hi) s
  exact ⟨v.cells.toList, (vs'.map fun v => v.cells.toList).flatten, by rw [List.map_cons, List.flatten_cons], hk, reps_cells s h⟩
theorem reps_len {α : Type} {κ : K α} : ∀ {xs : List α} {vs : List Value}, reps κ xs vs l → vs.length = xs.length
 | [], vs, h => by rw [h]; rfl
 | x :: xs, _, ⟨v, vs', e, _, h⟩ => by rw [e, List.length_cons, reps_len h, List.length_cons]
theorem fold_over : ∀ (vs : List Value) (k off : Nat) (arr : Array Value), ((vs.zipIdx k).foldl (fun cs (p : Value × Nat) => cs.setIfInBounds (off + p.2) p.1) arr) = over arr (off + k) vs
 | [], _, _, _ => rfl
 | v :: vs, k, off, arr => by
  rw [List.zipIdx_cons, List.foldl_cons, over]
  have := fold_over vs (k + 1) off (arr.setIfInBounds (off + k) v)
  rw [show off + (k + 1) = off + k + 1 by omega] at this
  exact this
theorem over_over : ∀ (us vs : List Value) (o : Nat) (arr : Array Value), over (over arr o us) (o + us.length) vs = over arr o (us ++ vs)
 | [], _, _, _ => rfl
 | u :: us, vs, o, arr => by
  rw [over, List.cons_append, over, ← over_over us vs, List.length_cons]
  congr 1; omega
theorem fill_num {sz : Nat} : ∀ (vs : List Value) (i : Nat) (arr : Array Value), (∀ v ∈ vs, v.cells.size = sz) → (i + vs.length) * sz ≤ arr.size →
  Instr.fill (fun i => some (i * sz, sz)) arr (num i vs) = some (over arr (i * sz) (vs.map fun v => v.cells.toList).flatten)
 | [], _, _, _, _ => rfl
 | v :: vs, i, arr, h, hs => by
  have h1 := h v (by simp)
  simp only [List.length_cons] at hs
  have h2 : i * sz + sz ≤ arr.size := by
   have : (i + 1) * sz ≤ (i + (vs.length + 1)) * sz := Nat.mul_le_mul_right _ (by omega)
   rw [Nat.succ_mul] at this; omega
  have h3 : ¬ (arr.size < i * sz + v.cells.size) := by omega
  simp only [num, Instr.fill]
  rw [if_neg (by simp [h1]; omega)]
  have hfold : (v.cells.zipIdx.foldl (fun cs (p : Value × Nat) => cs.setIfInBounds (i * sz + p.2) p.1) arr) = over arr (i * sz) v.cells.toList := by
   rw [← Array.foldl_toList, Array.toList_zipIdx]
   exact fold_over v.cells.toList 0 (i * sz) arr
  have := fill_num vs (i + 1) (over arr (i * sz) v.cells.toList) (fun u hu => h u (by simp [hu])) (by rw [over_size]; rw [show i + 1 + vs.length = i + (vs.length + 1) by omega]; exact hs)
  rw [show (fun (cs : Array Value) (x : Value × Nat) => match x with | (c, j) => cs.setIfInBounds (i * sz + j) c) = (fun cs p => cs.setIfInBounds (i * sz + p.2) p.1) from rfl, hfold, this]
  rw [List.map_cons, List.flatten_cons, ← over_over]
  rw [Array.length_toList, h1, Nat.succ_mul]
theorem over_all (arr : Array Value) (vs : List Value) (h : vs.length = arr.size) : over arr 0 vs = vs.toArray := by
 apply Array.ext'
 apply List.ext_getElem?
 intro j
 rw [Array.getElem?_toList, over_get _ _ _ _ (by omega)]
 by_cases hj : j < vs.length
 ·rw [if_pos (by omega)]; simp
 ·rw [if_neg (by omega), List.getElem?_eq_none (by simp; omega), Array.getElem?_eq_none (by omega)]
theorem reps_sz {α : Type} {κ : K α} {E : Env} {G H : Hp} (s : sats E G (l ++ F) H) : ∀ {xs : List α} {vs : List Value}, reps κ xs vs l → ∀ v ∈ vs, v.cells.size = κ.sz
 | [], vs, h, v, hv => by rw [h] at hv; simp at hv
 | x :: xs, _, ⟨v, vs', e, ⟨i, hi⟩, h⟩, u, hu => by
  subst e
  rcases List.mem_cons.1 hu with q | q
  ·subst q
   obtain ⟨k, _, hk⟩ := sats_mem _ _ _ (getF (F := F) hi) s
   have := κ.len hk
   simpa using this
  ·exact reps_sz s h u q
theorem r_bsl {α : Type} {κ : K α} {st e : TypeId} {by_ : Nat} {z : Value} {m : Nat} {parts : Array (Nat × Operand)} {vs : List Value} {xs : List α} (T : Tm n t a) (S : SL (l ++ F) w) (H : SlTy P st e κ.sz by_ z)
  (hp : evps t parts.toList = some (num 0 vs)) (hr : reps κ xs vs l) (hm : m = xs.length) (hbig : m * κ.sz ≤ 2 ^ 24) (hd : Nat.blt d n = true)
  (next : ∀ a' w' b, SL ((sl .own κ (some ⟨b, 0, none⟩) xs.length xs :: l) ++ F) w' → Tm n ((d, .slice (some ⟨b, 0, none⟩) xs.length xs.length) :: t) a' → wpN Y P ops N rest a' w') :
  wpN Y P ops N (⟨some d, .buildSlice st m parts, ty, pos, after, none⟩ :: rest) a w := by
 have hf : Instr.fill (fun i => some (i * κ.sz, κ.sz)) ((Array.range (m * κ.sz)).map fun i => (if m * κ.sz = 0 then #[] else z.cells)[i % (if m * κ.sz = 0 then #[] else z.cells).size]!) (num 0 vs) = some (vs.map fun v => v.cells.toList).flatten.toArray := by
  obtain ⟨G, H', _, _, _, s⟩ := S
  have hl := reps_len (l := l) hr
  rw [fill_num vs 0 _ (reps_sz s hr) (by simp [hl, hm]), Nat.zero_mul, over_all]
  have := (reps_cells s hr).len
  simp [this, hm]
 subst hm
 have e1 := evps_ev T hp
 have e2 : (parts.map fun p => (p.1, a.eval p.2)).toList = num 0 vs := by simpa using e1
 refine wpN_val (w' := World.new w (.cells (vs.map fun v => v.cells.toList).flatten.toArray e)) (v := .slice (some ⟨w.heap.size, 0, none⟩) xs.length xs.length) rfl ?_ (next _ _ w.heap.size ?_ (T.put hd _))
 ·have hb : ¬ (16777216 < xs.length * κ.sz) := by
   have : (2 : Nat) ^ 24 = 16777216 := by decide
   omega
  simp only [execOp, Instr.buildSlice, e2]
  by_cases hk : xs.length * κ.sz = 0
  ·simp only [hk, if_true] at hf
   have hk' : xs = [] ∨ κ.sz = 0 := by
    rcases Nat.mul_eq_zero.1 hk with q | q
    ·left; exact List.eq_nil_of_length_eq_zero q
    ·exact .inr q
   simp [H.und, H.size, hb, hk']
   simp [hk] at hf
   rw [show xs.length * κ.sz = 0 from hk]
   simp [hf, newRow, World.new]
  ·have hk' : ¬ (xs = [] ∨ κ.sz = 0) := by
    intro q; apply hk; rcases q with q | q
    ·subst q; simp
    ·rw [q]; simp
   simp only [hk, if_false] at hf
   simp [H.und, H.size, hb, hk', H.zero, hf, newRow, World.new]
   intro h0; exact absurd h0 hk
 ·refine new_own (o := .cells (vs.map fun v => v.cells.toList).flatten.toArray e) S rfl rfl fun G H' _ _ _ s => ?_
  have hc := reps_cells s hr
  have hcl := hc.len
  exact ⟨Nat.le_refl _, .inr ⟨w.heap.size, 0, (vs.map fun v => v.cells.toList).flatten.toArray, e, (0, 0), rfl, by simp [Hp.one], unfrozen_zero _, by simp only [List.size_toArray]; omega, _, hc, fun j v hv => by simpa using hv⟩⟩
theorem rc {g : FuncId} {args : Array Operand} {ts : Array TypeId} {vs : List Value} {R : Ending → World → Prop} (T : Tm n t a)
  (hc : ∀ args w, (callFunc g args).run P w = .ok (.enter g args) w) (ha : evs t args.toList = some vs) (hd : Nat.blt d n = true) (h : Calls P g vs.toArray w R)
  (hR : ∀ e w', R e w' → ∃ v, e = .returned v ∧ ∀ a', Tm n ((d, v) :: t) a' → wpN Y P ops N rest a' w') :
  wpN Y P ops N (⟨some d, .call ⟨.value (.func g), args, ts⟩, ty, pos, after, none⟩ :: rest) a w := by
 have e1 := T.evs ha
 have e2 : args.map a.eval = vs.toArray := Array.ext' (by simpa using e1)
 have hr : (execOp a.eval ⟨some d, .call ⟨.value (.func g), args, ts⟩, ty, pos, after, none⟩).run P w = .ok (.enter g vs.toArray) w := by
  simp only [execOp, resolve, Act.eval, Deferred.ofValue, e2, Sem.run_bind, Sem.run_pure, Result.andThen_ok, invoke]
  simp [hc]
 simp only [wpN, Region.wanted, if_true, hr, wpY]
 refine h.mono fun e w' q => ?_
 obtain ⟨v, rfl, hv⟩ := hR e w' q
 exact ⟨_, rfl, hv _ (T.put hd _)⟩
theorem r_callF {g : FuncId} {x : Operand} {args : Array Operand} {ts : Array TypeId} {vs fs cs : List Value} {R : Ending → World → Prop} (T : Tm n t a) (hx : ev t x = some (.func (.func g) fs.toArray cs.toArray))
  (hc : ∀ args w, (callFunc g args).run P w = .ok (.enter g args) w) (ha : evs t args.toList = some vs) (hd : Nat.blt d n = true) (h : Calls P g (fs ++ vs ++ cs).toArray w R)
  (hR : ∀ e w', R e w' → ∃ v, e = .returned v ∧ ∀ a', Tm n ((d, v) :: t) a' → wpN Y P ops N rest a' w') :
  wpN Y P ops N (⟨some d, .call ⟨.value x, args, ts⟩, ty, pos, after, none⟩ :: rest) a w := by
 have e1 := T.evs ha
 have e2 : args.map a.eval = vs.toArray := Array.ext' (by simpa using e1)
 have hr : (execOp a.eval ⟨some d, .call ⟨.value x, args, ts⟩, ty, pos, after, none⟩).run P w = .ok (.enter g (fs ++ vs ++ cs).toArray) w := by
  simp only [execOp, resolve, T.ev hx, Deferred.ofValue, e2, Sem.run_bind, Sem.run_pure, Result.andThen_ok, invoke]
  simp [hc]
 simp only [wpN, Region.wanted, if_true, hr, wpY]
 refine h.mono fun e w' q => ?_
 obtain ⟨v, rfl, hv⟩ := hR e w' q
 exact ⟨_, rfl, hv _ (T.put hd _)⟩
theorem rg {f : Cls} {k : List Item} {R : Ending → World → Prop} {id : Nat} (h : wpN true P ops (fun a w => Gets P f k a w R) ops.toList a w) :
  Gets P f (.code (.region id ops false) :: k) a w R := .region h
theorem cdT {f : Cls} {k : List Item} {R : Ending → World → Prop} {c : Operand} {x y : Code} {b : Bool} (T : Tm n t a) (hc : ev t c = some (.bool b)) (hb : b = true) (h : Gets P f (.code x :: k) a w R) :
  Gets P f (.code (.cond c x y) :: k) a w R := by
 subst hb
 exact Gets.step (fun _ _ => stepR_cond (t := true) (by rw [up_eval]; exact T.ev hc)) h
theorem cdF {f : Cls} {k : List Item} {R : Ending → World → Prop} {c : Operand} {x y : Code} {b : Bool} (T : Tm n t a) (hc : ev t c = some (.bool b)) (hb : b = false) (h : Gets P f (.code y :: k) a w R) :
  Gets P f (.code (.cond c x y) :: k) a w R := by
 subst hb
 exact Gets.step (fun _ _ => stepR_cond (t := false) (by rw [up_eval]; exact T.ev hc)) h
def resv (t : List (Nat × Value)) : List ResultVar → Option (List Value)
 | [] => some []
 | .tmp s :: r => match lk t s, resv t r with | some v, some vs => some (v :: vs) | _, _ => none
 | _ :: _ => none
def tupled : List Value → Value
 | [v] => v
 | vs => .tuple vs.toArray
def resF (a : Act) : ResultVar → Sem Value
 | .tmp t => pure (a.tmps.getD t undef)
 | .cell b ty => do loadVar ty (← asAddr (a.tmps.getD b undef))
theorem results_eq (fn : Func) : results fn a.tmps = (do let vs ← fn.results.mapM (resF a); pure (if h : vs.size = 1 then vs[0] else .tuple vs)) := by
 have h : (fun | .tmp t => pure (a.tmps.getD t undef) | .cell b ty => do loadVar ty (← asAddr (a.tmps.getD b undef)) : ResultVar → Sem Value) = resF a := by
  funext x; cases x <;> rfl
 rw [← h]; rfl
theorem results_mapM (T : Tm n t a) : ∀ {rs : List ResultVar} {vs : List Value}, resv t rs = some vs → (rs.mapM (resF a)).run P w = .ok vs w
 | [], vs, h => by simp [resv] at h; subst h; rfl
 | .cell _ _ :: r, vs, h => by simp [resv] at h
 | .tmp s :: r, vs, h => by
  simp only [resv] at h
  split at h
  ·rename_i v vs' h1 h2
   cases h
   rw [List.mapM_cons]
   simp only [resF, Sem.run_bind, Sem.run_pure, Result.andThen_ok, T.getD h1]
   rw [results_mapM T h2]; rfl
  ·cases h
theorem run_results (T : Tm n t a) {fn : Func} {rs : List ResultVar} {vs : List Value} (hrs : fn.results = rs.toArray) (h : resv t rs = some vs) : (results fn a.tmps).run P w = .ok (tupled vs) w := by
 have h1 := results_mapM (P := P) (w := w) T h
 rw [results_eq, hrs, List.mapM_toArray, Sem.run_bind, Sem.run_map, h1]
 simp only [Result.andThen_ok, Sem.run_pure]
 match vs with
 | [] => rfl
 | [v] => rfl
 | _ :: _ :: _ => simp [tupled]
theorem rtn {f : FuncId} {k : List Item} {R : Ending → World → Prop} {fn : Func} {rs : List ResultVar} {vs : List Value} (T : Tm n t a) (hf : P.funcs[f]? = some fn) (hrs : fn.results = rs.toArray) (h : resv t rs = some vs)
  (hR : R (.returned (tupled vs)) w) : Gets P { fn := f } (.code .ret :: k) a w R := Gets.ret hf T.defers (run_results T hrs h) hR
theorem rtf {f : FuncId} {R : Ending → World → Prop} {fn : Func} {rs : List ResultVar} {vs : List Value} (T : Tm n t a) (hf : P.funcs[f]? = some fn) (hrs : fn.results = rs.toArray) (h : resv t rs = some vs)
  (hR : R (.returned (tupled vs)) w) : Gets P { fn := f } [] a w R := Gets.fall hf T.defers (run_results T hrs h) hR
theorem enter {f : FuncId} {fn : Func} {c : Code} {vs : List Value} {R : Ending → World → Prop} {m : Nat} (hf : P.funcs[f]? = some fn) (hb : fn.body = some c) (hm : fn.ntmps = m) (hl : vs.length ≤ m)
  (h : ∀ a, Tm m (num 0 vs) a → Gets P { fn := f } [.code c] a w R) : Calls P f vs.toArray w R :=
 calls_of_ends hf hb (h _ (by rw [hm]; exact Tm.start hl))
def Ck {R : Type} (p : Prop) [Decidable p] (k : Option R) : Option R := if p then k else none
def If {R : Type} (b : Bool) (x y : Option R) : Option R := match b with | true => x | false => y
def Bd {S R : Type} (x : Option S) (k : S → Option R) : Option R := match x with | some s => k s | none => none
theorem ck {R : Type} {p : Prop} [Decidable p] {k : Option R} {r : R} (h : Ck p k = some r) : p ∧ k = some r := by
 unfold Ck at h
 split at h
 ·rename_i hp; exact ⟨hp, h⟩
 ·cases h
theorem ifE {R : Type} {b : Bool} {x y : Option R} {r : R} (h : If b x y = some r) : (b = true ∧ x = some r) ∨ (b = false ∧ y = some r) := by
 cases b with
 | true => exact .inl ⟨rfl, h⟩
 | false => exact .inr ⟨rfl, h⟩
theorem bd {S R : Type} {x : Option S} {k : S → Option R} {r : R} (h : Bd x k = some r) : ∃ s, x = some s ∧ k s = some r := by
 cases x with
 | none => cases h
 | some s => exact ⟨s, rfl, h⟩
end
def cL : Code → Code | .seq x _ => x | _ => .skip
def cR : Code → Code | .seq _ y => y | _ => .skip
def cT : Code → Code | .cond _ x _ => x | _ => .skip
def cE : Code → Code | .cond _ _ y => y | _ => .skip
def cB : Code → Code | .block _ x => x | .loop x => x | .scope x => x | _ => .skip
def cr : Nat → Code → Code | 0, c => c | n + 1, c => cR (cr n c)
def ex {α : Type} (f : α → Atom) : Atom where
 holds E G h := ∃ x, (f x).holds E G h
 mono l h := by obtain ⟨x, h⟩ := h; exact ⟨x, (f x).mono l h⟩
section
variable {Y : Bool} {P : Program} {ops : Array Oper} {N : Act → World → Prop} {rest : List Oper} {n : Nat} {t : List (Nat × Value)} {a : Act} {w : World}
variable {d : Nat} {ty : TypeId} {pos : String} {after : Array Edge} {l F : List Atom}
theorem SL.ex {α : Type} {f : α → Atom} {M : List Atom} (x : α) (S : SL (f x :: M) w) : SL (ex f :: M) w := S.turn fun _ _ _ _ g => ⟨x, g⟩
theorem r_stE {α : Type} {κ : K α} {ty' : TypeId} {x y : Operand} {A : Option Addr} {c ix j : Nat} {xs : List α} {i : Int} {v : Value} {u : α} {l' : List Atom} (T : Tm n t a) (S : SL (l ++ F) w)
  (hl : l[ix]? = some (sl .own κ A c xs)) (hx : ev t x = some (.pointer (some (eA A j)))) (hj : j = i.toNat * κ.sz) (hy : ev t y = some v) (hv : ∀ G, κ.rep G u [v])
  (hs : ∀ w, (sizeOf ty').run P w = .ok 1 w) (h0 : 0 ≤ i) (h1 : i < (xs.length : Int)) (hl' : l.set ix (sl .own κ A c (xs.set i.toNat u)) = l')
  (next : ∀ w', SL (l' ++ F) w' → wpN Y P ops N rest a w') : wpN Y P ops N (⟨none, .store ty' x y, ty, pos, after, none⟩ :: rest) a w := by
 obtain ⟨G, h, fG, fh, _, q0, q⟩ := S.memF hl
 have hsz : κ.sz = 1 := by have := κ.len (hv Hp.zero); simpa using this.symm
 have hv1 : v.oneCell' = true := by rw [← one?_eq']; exact κ.one (hv Hp.zero) v (by simp)
 have hcells : v.cells = #[v] := by cases v <;> first | rfl | (simp [Value.oneCell'] at hv1)
 rcases q with ⟨q1, q2⟩ | ⟨b, o, arr, e, fr, q1, q2, q3, q4, cs, q5, q6⟩
 ·omega
 ·subst q1; subst hj; subst hl'
  have hsz1 : κ.sz = 1 := hsz
  have hcs := q5.len
  rw [hsz1, Nat.mul_one] at hcs hx q4
  have hlt : o + i.toNat < arr.size := by omega
  refine wpN_skip (w' := World.put w b (.cells (arr.setIfInBounds (o + i.toNat) v) e fr)) rfl ?_ (next _ ?_)
  ·simp only [execOp, Instr.storeAt, T.ev hx, T.ev hy]
   simp only [Sem.run_bind, Instr.sureAddr, Sem.run_pure, Result.andThen_ok, storeVar, hcells, hs, eA_some]
   simp only [List.size_toArray, List.length_singleton, ne_eq, not_true_eq_false, if_false]
   have := run_storeCells (P := P) (vs := [v]) (i := 0) (o := o + i.toNat) (fh _ _ q2) q3 (by simp; omega) (by simpa using hv1) (by simp)
   simp only [over, Nat.add_zero] at this
   rw [this]; rfl
  ·refine S.upd hl (fun M SM => SL.put b _ SM ?_)
   rintro G' h' _ fh' ⟨p0, p⟩
   rcases p with ⟨p1, _⟩ | ⟨b', o', arr', e', fr', p1, p2, p3, p4, cs', p5, p6⟩
   ·cases p1
   ·cases p1
    have : Obj.cells arr e fr = Obj.cells arr' e' fr' := by
     have h1 := fh _ _ q2
     have h2 := fh' _ _ p2
     rw [h1] at h2; exact Option.some.inj h2
    cases this
    refine ⟨⟨_, p2⟩, by simpa using p0, .inr ⟨b, o, arr.setIfInBounds (o + i.toNat) v, e, fr, rfl, by simp, p3.of (by simp), by simpa using p4, cs'.set i.toNat v, cells.set (hv G') i.toNat p5, ?_⟩⟩
    intro j v' hj
    rw [List.getElem?_set] at hj
    by_cases he : i.toNat = j
    ·subst he
     have hlen := p5.len
     rw [hsz1, Nat.mul_one] at hlen
     simp only [if_true] at hj
     rw [if_pos (by omega)] at hj
     cases hj
     rw [Array.getElem?_setIfInBounds_self_of_lt hlt]
    ·rw [if_neg he] at hj
     rw [Array.getElem?_setIfInBounds_ne (by omega)]
     exact p6 j v' hj
theorem r_ldEA {α β : Type} {m : Md} {κ : K α} {μ : K β} {g : α → β} {ty' : TypeId} {x : Operand} {A : Option Addr} {c ix off j : Nat} {xs : List α} {i : Int} (T : Tm n t a) (S : SL (l ++ F) w)
  (hl : l[ix]? = some (sl m κ A c xs)) (hx : ev t x = some (.pointer (some (eA A j)))) (hg : ∀ w, (isAgg ty').run P w = .ok true w) (hs : ∀ w, (sizeOf ty').run P w = .ok μ.sz w) (dv : α) (hj : j = i.toNat * κ.sz + off)
  (hf : Fld κ off μ g) (h0 : 0 ≤ i) (h1 : i < (xs.length : Int)) (hd : Nat.blt d n = true)
  (next : ∀ a' cs, SL ((rp μ (g (gi dv xs i)) cs :: l) ++ F) w → Tm n ((d, .agg cs.toArray) :: t) a' → wpN Y P ops N rest a' w) : wpN Y P ops N (⟨some d, .load ty' x, ty, pos, after, none⟩ :: rest) a w := by
 obtain ⟨G, H, f1, f2, f3, s⟩ := S
 obtain ⟨k, lk, hk⟩ := sats_mem _ _ _ (getF (F := F) hl) s
 obtain ⟨ds, r1, r2⟩ := sl_part hk f1 (fun x o y => f2 x o (lk x o y)) hf dv (i := i) (by omega)
 subst hj
 refine wpN_val (v := .agg ds.toArray) rfl ?_ (next _ ds (SL.back (G := G) (h := Hp.zero) (H := H) f1 (fun _ _ e => by cases e) f2 (Hp.dj_symm (Hp.zero_dj _)) f3 (Hp.zero_dj _) r1 s) (T.put hd _))
 simp only [execOp, T.ev hx]
 rw [Sem.run_bind, run_loadAgg hg (by rw [μ.len r1]; exact hs)]
 ·rfl
 ·intro j v e
  rw [eA_add]; exact r2 j v e
theorem r_stBA {ty' : TypeId} {x y : Operand} {b o ix : Nat} {cs vs : List Value} {l' : List Atom} (T : Tm n t a) (S : SL (l ++ F) w) (hl : l[ix]? = some (blk b cs)) (hx : ev t x = some (.pointer (some ⟨b, o, none⟩)))
  (hy : ev t y = some (.agg vs.toArray)) (hv : vs.all one? = true) (hne : vs ≠ []) (hs : ∀ w, (sizeOf ty').run P w = .ok vs.length w) (ho : o + vs.length ≤ cs.length) (hl' : l.set ix (blk b (cs.take o ++ vs ++ cs.drop (o + vs.length))) = l')
  (next : ∀ w', SL (l' ++ F) w' → wpN Y P ops N rest a w') : wpN Y P ops N (⟨none, .store ty' x y, ty, pos, after, none⟩ :: rest) a w := by
 obtain ⟨G, h, fG, fh, _, e, fr, hb, hu⟩ := S.memF hl
 subst hl'
 have hov : over cs.toArray o vs = (cs.take o ++ vs ++ cs.drop (o + vs.length)).toArray := by
  apply Array.ext'
  apply List.ext_getElem?
  intro j
  rw [Array.getElem?_toList, over_get _ _ _ _ (by simpa using ho)]
  by_cases h1 : j < o
  ·rw [if_neg (by omega)]
   simp [List.getElem?_append, h1]
   omega
  ·by_cases h2 : j < o + vs.length
   ·rw [if_pos (by omega)]
    rw [List.getElem?_append_left (by simp; omega), List.getElem?_append_right (by simp; omega)]
    congr 1; simp; omega
   ·rw [if_neg (by omega)]
    rw [List.getElem?_append_right (by simp; omega), List.getElem?_drop]
    simp only [List.getElem?_toArray]
    congr 1; simp; omega
 refine wpN_skip (w' := World.put w b (.cells (over cs.toArray o vs) e fr)) rfl ?_ (next _ ?_)
 ·simp only [execOp, Instr.storeAt, T.ev hx, T.ev hy]
  simp only [Sem.run_bind, Instr.sureAddr, Sem.run_pure, Result.andThen_ok, storeVar, Value.cells, hs]
  simp only [List.size_toArray, ne_eq, not_true_eq_false, if_false]
  have := run_storeCells (P := P) (vs := vs) (i := 0) (o := o) (fh _ _ hb) hu (by simpa using ho) (fun v q => by rw [← one?_eq']; exact List.all_eq_true.1 hv v q) hne
  rw [this]; rfl
 ·refine S.upd hl (fun M SM => SL.put b _ SM ?_)
  rintro G' h' _ fh' ⟨e', fr', hb', hu'⟩
  have : Obj.cells cs.toArray e fr = Obj.cells cs.toArray e' fr' := by
   have h1 := fh _ _ hb
   have h2 := fh' _ _ hb'
   rw [h1] at h2; exact Option.some.inj h2
  cases this
  refine ⟨⟨_, hb'⟩, e, fr, by simp [hov], ?_⟩
  exact hu.of (by rw [← hov, over_size])
theorem SL.asArr {α : Type} {κ : K α} {b : Nat} {cs : List Value} {xs : List α} {i : Nat} {l' : List Atom} (S : SL (l ++ F) w) (hl : l[i]? = some (blk b cs)) (hc : ∀ G, cells κ G xs cs)
  (hl' : l.set i (sl .own κ (some ⟨b, 0, none⟩) xs.length xs) = l') : SL (l' ++ F) w := by
 refine S.turnL hl (fun G h q => ?_) hl'
 obtain ⟨e, fr, q1, q2⟩ := q
 have := (hc G).len
 exact ⟨Nat.le_refl _, .inr ⟨b, 0, cs.toArray, e, fr, rfl, q1, q2, by simp; omega, cs, hc G, fun j v hv => by simpa using hv⟩⟩
def cl (A : Option Addr) (j : Nat) (cs : List Value) : Atom where
 holds _ G _ := ∀ (k : Nat) v, cs[k]? = some v → ∃ arr e fr, G (eA A (j + k)).block = some (.cells arr e fr) ∧ arr[(eA A (j + k)).off]? = some v
 mono l h := fun k v e => by obtain ⟨arr, e', fr, h1, h2⟩ := h k v e; exact ⟨arr, e', fr, l _ _ h1, h2⟩
theorem cl_cell {E : Env} {G h : Hp} {A : Option Addr} {j : Nat} {cs : List Value} (q : (cl A j cs).holds E G h) {w : World} (f : fit G w) {k : Nat} {v : Value} (e : cs[k]? = some v) : w.cell? (eA A (j + k)) = some v := by
 obtain ⟨arr, e', fr, h1, h2⟩ := q k v e
 exact fit_cell f h1 h2
theorem SL.peek {α β : Type} {κ : K α} {μ : K β} {g : α → β} {A : Option Addr} {c ix : Nat} {off : Nat} {xs : List α} {i : Int} (S : SL (l ++ F) w) (hl : l[ix]? = some (sl .ro κ A c xs)) (dv : α)
  (hf : Fld κ off μ g) (h0 : 0 ≤ i) (h1 : i < (xs.length : Int)) : ∃ cs, SL ((rp μ (g (gi dv xs i)) cs :: cl A (i.toNat * κ.sz + off) cs :: l) ++ F) w := by
 obtain ⟨G, H, f1, f2, f3, s⟩ := S
 obtain ⟨k, lk, hk⟩ := sats_mem _ _ _ (getF (F := F) hl) s
 have hx := gi_get dv xs i (by omega)
 obtain ⟨q0, q00, q | ⟨b, o, arr, e, fr, q1, q2, q3⟩⟩ := hk
 ·subst q; simp at h1; omega
 ·obtain ⟨cs, r1, r2⟩ := q3.get _ _ hx
  obtain ⟨ds, r3, r4⟩ := hf.rep r1
  refine ⟨ds, G, H, f1, f2, f3, Hp.zero, H, Hp.zero_dj _, Hp.zero_le _, Hp.le_refl _, r3, Hp.zero, H, Hp.zero_dj _, Hp.zero_le _, Hp.le_refl _, ?_, s⟩
  intro j v ej
  subst q1
  refine ⟨arr, e, fr, q2, ?_⟩
  rw [eA_some]
  have := r2 _ _ (r4 j v ej)
  rw [← this]; congr 1; simp only; omega
theorem SL.peek1 {α β : Type} {κ : K α} {μ : K β} {g : α → β} {A : Option Addr} {c ix : Nat} {off : Nat} {xs : List α} {i : Int} (S : SL (l ++ F) w) (hl : l[ix]? = some (sl .ro κ A c xs)) (dv : α)
  (hf : Fld κ off μ g) (h0 : 0 ≤ i) (h1 : i < (xs.length : Int)) (hm : μ.sz = 1) : ∃ v, SL ((rp μ (g (gi dv xs i)) [v] :: cl A (i.toNat * κ.sz + off) [v] :: l) ++ F) w := by
 obtain ⟨cs, S⟩ := S.peek hl dv hf h0 h1
 have hlen : cs.length = 1 := by
  obtain ⟨_, _, _, _, _, h⟩ := S.mem (i := 0) rfl
  have := μ.len h; omega
 match cs, hlen with
 | [v], _ => exact ⟨v, S⟩
theorem r_ldC {ty' : TypeId} {x : Operand} {A : Option Addr} {ix j j' : Nat} {v : Value} (T : Tm n t a) (S : SL (l ++ F) w) (hl : l[ix]? = some (cl A j' [v])) (hx : ev t x = some (.pointer (some (eA A j)))) (hj : j = j')
  (hg : ∀ w, (isAgg ty').run P w = .ok false w) (hd : Nat.blt d n = true)
  (next : ∀ a', Tm n ((d, v) :: t) a' → wpN Y P ops N rest a' w) : wpN Y P ops N (⟨some d, .load ty' x, ty, pos, after, none⟩ :: rest) a w := by
 obtain ⟨G, h, fG, fh, _, q⟩ := S.memF hl
 subst hj
 refine wpN_val rfl ?_ (next _ (T.put hd _))
 simp only [execOp, T.ev hx]
 have := cl_cell q fG (k := 0) rfl
 rw [Nat.add_zero] at this
 simp [run_loadOne hg this]
theorem r_ldCA {ty' : TypeId} {x : Operand} {A : Option Addr} {ix j j' : Nat} {cs : List Value} (T : Tm n t a) (S : SL (l ++ F) w) (hl : l[ix]? = some (cl A j' cs)) (hx : ev t x = some (.pointer (some (eA A j)))) (hj : j = j')
  (hg : ∀ w, (isAgg ty').run P w = .ok true w) (hs : ∀ w, (sizeOf ty').run P w = .ok cs.length w) (hd : Nat.blt d n = true)
  (next : ∀ a', Tm n ((d, .agg cs.toArray) :: t) a' → wpN Y P ops N rest a' w) : wpN Y P ops N (⟨some d, .load ty' x, ty, pos, after, none⟩ :: rest) a w := by
 obtain ⟨G, h, fG, fh, _, q⟩ := S.memF hl
 subst hj
 refine wpN_val (v := .agg cs.toArray) rfl ?_ (next _ (T.put hd _))
 simp only [execOp, T.ev hx]
 rw [Sem.run_bind, run_loadAgg hg hs]
 ·rfl
 ·intro k v e
  rw [eA_add]; exact cl_cell q fG e
theorem SL.cutR {α : Type} {κ : K α} {A : Option Addr} {c ix : Nat} {xs : List α} {i j k : Int} (S : SL (l ++ F) w) (hl : l[ix]? = some (sl .ro κ A c xs)) (h0 : 0 ≤ i) (h1 : i ≤ j) (hj : j ≤ (xs.length : Int)) (h2 : j ≤ k) (h3 : k ≤ (c : Int)) :
  SL ((sl .ro κ (slA A k.toNat i.toNat κ.sz) (k.toNat - i.toNat) (cut xs i.toNat j.toNat) :: l) ++ F) w := by
 have hcl := cut_len xs i.toNat j.toNat (by omega)
 refine S.addL hl fun G h q => ?_
 obtain ⟨q0, q00, q⟩ := q
 refine ⟨by rw [hcl]; omega, fun hn => ?_, ?_⟩
 ·have : A = none := by
   unfold slA at hn
   split at hn
   ·exact hn
   ·simpa using hn
  have := q00 this
  omega
 ·by_cases he : j.toNat = i.toNat
  ·left; exact List.eq_nil_of_length_eq_zero (by omega)
  ·right
   rcases q with q | ⟨b, o, arr, e', fr, q1, q2, q3⟩
   ·subst q; simp at hj; omega
   ·refine ⟨b, o + i.toNat * κ.sz, arr, e', fr, ?_, q2, els_cut q3 _ _⟩
    subst q1
    unfold slA
    rw [if_neg (by omega)]
    simp [add_eA, eA_some]
theorem r_slQ {α : Type} {st e : TypeId} {x : Operand} {A : Option Addr} {c sz : Nat} {xs : List α} {lo hi mx : Option Operand} {i j k : Int} (T : Tm n t a)
  (hx : ev t x = some (.slice A xs.length c)) (hmx : mx.isSome = true → hi.isSome = true)
  (hlo : lowOf t lo = some i) (hhi : highOf t xs.length hi = some j) (hm : highOf t c mx = some k) (h0 : 0 ≤ i) (h1 : i ≤ j) (hj : j ≤ (xs.length : Int)) (h2 : j ≤ k) (h3 : k ≤ (c : Int))
  (hu : ∀ w, (underlying st).run P w = .ok (.slice e) w) (hs : ∀ w, (sizeOf e).run P w = .ok sz w) (hd : Nat.blt d n = true)
  (next : ∀ a', Tm n ((d, .slice (slA A k.toNat i.toNat sz) (cut xs i.toNat j.toNat).length (k.toNat - i.toNat)) :: t) a' → wpN Y P ops N rest a' w) :
  wpN Y P ops N (⟨some d, .slice st x lo hi mx, ty, pos, after, none⟩ :: rest) a w := by
 have hcl := cut_len xs i.toNat j.toNat (by omega)
 refine wpN_val (v := .slice (slA A k.toNat i.toNat sz) (cut xs i.toNat j.toNat).length (k.toNat - i.toNat)) rfl ?_ (next _ (T.put hd _))
 simp only [execOp, T.ev hx]
 rw [hcl, Sem.run_bind, run_slice T hmx hlo hhi hm h0 h1 h2 h3 hu hs]
 rfl
theorem addP {A : Atom} {E : Env} {G H : Hp} {L : List Atom} (g : A.holds E G Hp.zero) (s : sats E G L H) : sats E G (A :: L) H :=
 ⟨Hp.zero, H, Hp.zero_dj _, Hp.zero_le _, Hp.le_refl _, g, s⟩
def allIn (l : List Atom) : List Atom → Prop
 | [] => True
 | A :: r => (∃ i : Nat, l[i]? = some A) ∧ allIn l r
def allH (E : Env) (G : Hp) : List Atom → Prop
 | [] => True
 | A :: r => (∃ h, A.holds E G h) ∧ allH E G r
theorem SL.addN {As : List Atom} {B : Atom} (S : SL (l ++ F) w) (hi : allIn l As) (h : ∀ E G, allH E G As → B.holds E G Hp.zero) : SL ((B :: l) ++ F) w := by
 obtain ⟨G, H, f1, f2, f3, s⟩ := S
 refine ⟨G, H, f1, f2, f3, addP (h _ _ ?_) s⟩
 have key : ∀ (As : List Atom), allIn l As → allH (env w) G As := by
  intro As
  induction As with
  | nil => intro _; trivial
  | cons A r ih =>
   rintro ⟨⟨i, h1⟩, h2⟩
   obtain ⟨k, _, hk⟩ := sats_mem _ _ _ (getF (F := F) h1) s
   exact ⟨⟨k, hk⟩, ih h2⟩
 exact key As hi
theorem Tm.re {t : List (Nat × Value)} (T : Tm n t a) {s : Nat} {v v' : Value} (h : lk t s = some v) (e : v = v') : Tm n ((s, v') :: t) a := by
 subst e
 refine ⟨T.defers, T.size, fun q u hq => ?_⟩
 simp only [lk] at hq
 by_cases hb : Nat.beq s q = true
 ·simp only [hb, Option.some.injEq] at hq
  rw [← Nat.eq_of_beq_eq_true hb, ← hq]; exact T.at_ _ _ h
 ·simp only [Bool.not_eq_true] at hb
  simp only [hb] at hq
  exact T.at_ _ _ hq
theorem run_eqPtr {xt e : TypeId} {u v : Option Addr} (h1 : ∀ w, (underlying xt).run P w = .ok (.pointer e) w) (hn : u = none ∨ v = none) : (Op.equal xt (.pointer u) (.pointer v)).run P w = .ok (u.isNone && v.isNone) w := by
 unfold Op.equal
 rw [show Op.maxDepth = 9999 + 1 from rfl, Op.equalIn]
 rcases hn with rfl | rfl
 ·simp [h1]
 ·cases u <;> simp [h1]
theorem eqGuard_ptr {op : BinOp} {xt : TypeId} {x y : Operand} {u v : Option Addr} : (eqGuard op xt x y (.pointer u) (.pointer v)).run P w = .ok () w := by
 cases op <;> rfl
theorem r_ptrNil10e {xt yt e : TypeId} {x y : Operand} {u : Addr} (T : Tm n t a) (hx : ev t x = some (.pointer (some u))) (hy : ev t y = some (.pointer none)) (h1 : ∀ w, (underlying xt).run P w = .ok (.pointer e) w) (hd : Nat.blt d n = true)
  (next : ∀ a', Tm n ((d, .bool false) :: t) a' → wpN Y P ops N rest a' w) : wpN Y P ops N (⟨some d, .binOp .eql xt x y yt, ty, pos, after, none⟩ :: rest) a w :=
 wpN_val rfl (by simp only [execOp, T.ev hx, T.ev hy, binOp, Sem.run_bind, eqGuard_ptr, Result.andThen_ok, run_eqPtr h1 (.inr rfl), Sem.run_pure]; rfl) (next _ (T.put hd _))
theorem r_ptrNil00e {xt yt e : TypeId} {x y : Operand} (T : Tm n t a) (hx : ev t x = some (.pointer none)) (hy : ev t y = some (.pointer none)) (h1 : ∀ w, (underlying xt).run P w = .ok (.pointer e) w) (hd : Nat.blt d n = true)
  (next : ∀ a', Tm n ((d, .bool true) :: t) a' → wpN Y P ops N rest a' w) : wpN Y P ops N (⟨some d, .binOp .eql xt x y yt, ty, pos, after, none⟩ :: rest) a w :=
 wpN_val rfl (by simp only [execOp, T.ev hx, T.ev hy, binOp, Sem.run_bind, eqGuard_ptr, Result.andThen_ok, run_eqPtr h1 (.inr rfl), Sem.run_pure]; rfl) (next _ (T.put hd _))
theorem r_slNil {xt yt e : TypeId} {x : Operand} {A : Option Addr} {len c : Nat} (T : Tm n t a) (hx : ev t x = some (.slice A len c)) (h1 : ∀ w, (underlying xt).run P w = .ok (.slice e) w) (hd : Nat.blt d n = true)
  (next : ∀ a', Tm n ((d, .bool A.isNone) :: t) a' → wpN Y P ops N rest a' w) : wpN Y P ops N (⟨some d, .binOp .eql xt x (.const (.slice none 0 0)) yt, ty, pos, after, none⟩ :: rest) a w := by
 have hr : (Op.equal xt (.slice A len c) (.slice none 0 0)).run P w = .ok A.isNone w := by
  unfold Op.equal
  rw [show Op.maxDepth = 9999 + 1 from rfl, Op.equalIn]
  cases A <;> simp [h1]
 refine wpN_val rfl ?_ (next _ (T.put hd _))
 have hy : a.eval (.const (.slice none 0 0)) = .slice none 0 0 := rfl
 have hg : (eqGuard .eql xt x (.const (.slice none 0 0)) (.slice A len c) (.slice none 0 0)).run P w = .ok () w := rfl
 simp only [execOp, T.ev hx, hy, binOp, Sem.run_bind, hg, Result.andThen_ok, hr, Sem.run_pure]
theorem r_cvS {src e ix len c : Nat} {α : Type} {κ : K α} {x : Operand} {A : Option Addr} {xs : List α} (T : Tm n t a) (S : SL (l ++ F) w) (hx : ev t x = some (.slice A len c)) (hl : l[ix]? = some (sl .own κ A c xs))
  (h1 : ∀ w, (underlying src).run P w = .ok (.slice e) w) (h3 : ∀ w, (underlying e).run P w = .ok (.int .u8) w) (hd : Nat.blt d n = true) (hA : ∃ ad, A = some ad)
  (next : ∀ a' w', SL (l ++ F) w' → Tm n ((d, .slice A len c) :: t) a' → wpN Y P ops N rest a' w') :
  wpN Y P ops N (⟨some d, .convert src src x, ty, pos, after, none⟩ :: rest) a w := by
 obtain ⟨ad, rfl⟩ := hA
 obtain ⟨G, h, fG, fh, _, q0, q⟩ := S.memF hl
 rcases q with ⟨q1, _⟩ | ⟨b, o, arr, e', fr, q1, q2, q3, q4, q5⟩
 ·cases q1
 ·cases q1
  let fr' : Nat × Nat := if fr.1 == fr.2 then (arr.size, arr.size + 1) else (min fr.1 arr.size, max fr.2 (arr.size + 1))
  have hw : w.heap[b]? = some (.cells arr e' fr) := fh _ _ q2
  have hlt : b < w.heap.size := fit_lt fh q2
  have hfz : w.freeze ⟨b, arr.size, none⟩ 1 = World.put w b (.cells arr e' fr') := by
   simp only [World.freeze, World.put]
   rw [if_neg (by decide)]
   congr 1
   apply Array.ext'
   apply List.ext_getElem?
   intro i
   rw [Array.getElem?_toList, Array.getElem?_toList, Array.getElem?_modify]
   by_cases hi : b = i
   ·subst hi
    rw [Array.getElem?_setIfInBounds_self_of_lt hlt, hw]
    obtain ⟨lo, hi⟩ := fr
    simp [fr']
   ·rw [Array.getElem?_setIfInBounds_ne hi]; simp [hi]
  refine wpN_val (v := .slice (some ⟨b, o, none⟩) len c) (w' := World.put w b (.cells arr e' fr')) rfl ?_ (next _ _ ?_ (T.put hd _))
  ·simp only [execOp, T.ev hx]
   have hsh : w.shape? b = some (e', arr.size) := by simp [World.shape?, hw]
   simp [convert, h1, h3, markStringish, hsh, hfz]
  ·have hset : l.set ix (sl .own κ (some ⟨b, o, none⟩) c xs) = l := by
    apply List.ext_getElem?
    intro j
    rw [List.getElem?_set]
    split
    ·rename_i hj; subst hj; split
     ·exact hl.symm
     ·rename_i hh; rw [List.getElem?_eq_none (by omega)]
    ·rfl
   have := S.upd (B := sl .own κ (some ⟨b, o, none⟩) c xs) (w' := World.put w b (.cells arr e' fr')) hl (fun M SM => SL.put b _ SM ?_)
   ·rwa [hset] at this
   ·rintro G' h' _ fh' ⟨p0, p⟩
    rcases p with ⟨p1, _⟩ | ⟨b', o', arr', e2, fr2, p1, p2, p3, p4, p5⟩
    ·cases p1
    ·cases p1
     have : Obj.cells arr e' fr = Obj.cells arr' e2 fr2 := by
      have h1 := fh' _ _ p2
      rw [hw] at h1; exact Option.some.inj h1
     cases this
     refine ⟨⟨_, p2⟩, p0, .inr ⟨b, o, arr, e', fr', rfl, by simp, ?_, p4, p5⟩⟩
     simp only [fr']
     split
     ·exact .inr (Nat.le_refl _)
     ·rename_i hne
      have hne : fr.1 ≠ fr.2 := by simpa using hne
      rcases p3 with p3 | p3
      ·exact absurd p3 hne
      ·right; simp only; omega
theorem run_loadBytes : ∀ (xs : List Int) (o : Nat) (b : Nat) (acc : ByteArray) {w : World}, (∀ (j : Nat) v, (xs.map (Value.int .u8))[j]? = some v → w.cell? ⟨b, o + j, none⟩ = some v) →
  (Extern.Bytes.loadBytes ⟨b, o, none⟩ xs.length acc).run P w = .ok ⟨acc.data ++ (xs.map fun n => UInt8.ofNat n.toNat).toArray⟩ w
 | [], o, b, acc, w, _ => by simp [Extern.Bytes.loadBytes]
 | x :: xs, o, b, acc, w, h => by
  have h0 := h 0 _ rfl
  rw [Nat.add_zero] at h0
  have ih := run_loadBytes xs (o + 1) b (acc.push (UInt8.ofNat x.toNat)) (w := w) (fun j v e => by
   have := h (j + 1) v (by simpa using e)
   rwa [show o + 1 + j = o + (j + 1) by omega])
  simp only [List.length_cons, Extern.Bytes.loadBytes, Sem.run_bind, run_load, h0, Result.andThen_ok]
  rw [add_eA, eA_some]
  have : x.toNat.toUInt8 = UInt8.ofNat x.toNat := rfl
  rw [this, ih]
  congr 1
  apply ByteArray.ext
  simp [ByteArray.push]
theorem run_bytesOf {m : Md} {A : Option Addr} {c ix : Nat} {xs : List Int} (S : SL (l ++ F) w) (hl : l[ix]? = some (sl m (kInt .u8) A c xs)) :
  (Extern.Bytes.bytesOf (.slice A xs.length c)).run P w = .ok (bstr xs) w := by
 obtain ⟨G, h, fG, fh, _, s⟩ := S.memF hl
 have hle := sl_len s
 obtain ⟨cs, q1, q2, q3⟩ := sl_cells s fG fh
 have hcs := cells_u8 q1
 cases A with
 | none =>
  have : xs = [] := List.eq_nil_of_length_eq_zero (by have := q2 rfl; omega)
  subst this; rfl
 | some ad =>
  rcases q3 with q3 | ⟨b, o, e1, e2⟩
  ·have : xs = [] := by rw [hcs] at q3; simpa using q3
   subst this; rfl
  ·cases e1
   subst hcs
   simp only [Extern.Bytes.bytesOf]
   rw [run_loadBytes xs o b .empty e2]
   simp [bstr]
def bcmp (x y : List Int) : Int := Extern.BytealgCompare.cmp (bstr x) (bstr y)
theorem r_cmp {g : FuncId} {x y : Operand} {ts : Array TypeId} {mx my : Md} {A B : Option Addr} {c cB ix iy : Nat} {xs ys : List Int} (T : Tm n t a) (S : SL (l ++ F) w)
  (hc : ∀ u v w, (callFunc g #[u, v]).run P w = (Extern.BytealgCompare.compare #[u, v] >>= fun v => (pure (.value v) : Sem Next)).run P w)
  (hx : ev t x = some (.slice A xs.length c)) (hlx : l[ix]? = some (sl mx (kInt .u8) A c xs)) (hy : ev t y = some (.slice B ys.length cB)) (hly : l[iy]? = some (sl my (kInt .u8) B cB ys)) (hd : Nat.blt d n = true)
  (next : ∀ a', Tm n ((d, .int .i64 (bcmp xs ys)) :: t) a' → wpN Y P ops N rest a' w) : wpN Y P ops N (⟨some d, .call ⟨.value (.func g), #[x, y], ts⟩, ty, pos, after, none⟩ :: rest) a w := by
 refine wpN_val rfl ?_ (next _ (T.put hd _))
 have e1 := T.ev hx
 have e2 := T.ev hy
 have e3 : a.eval (.func g) = .func (.func g) #[] #[] := rfl
 simp only [execOp, resolve, e3, Deferred.ofValue, Sem.run_bind, Sem.run_pure, Result.andThen_ok, invoke]
 simp only [List.map_toArray, List.map_cons, List.map_nil, e1, e2, Array.append_empty, Array.empty_append]
 rw [hc]
 have hcmp : ∀ u v : Value, Extern.BytealgCompare.compare #[u, v] = (do let a ← Extern.Bytes.bytesOf u; let b ← Extern.Bytes.bytesOf v; pure (goInt (Extern.BytealgCompare.cmp a b))) := fun _ _ => rfl
 rw [hcmp]
 simp only [Sem.run_bind, run_bytesOf S hlx, run_bytesOf S hly, Result.andThen_ok, Sem.run_pure]
 rfl
theorem r_appZ {α : Type} {κ : K α} {st yt e : TypeId} {by_ : Nat} {z : Value} {x y : Operand} {A : Option Addr} {k yk : IntKind} {m : Int} (T : Tm n t a) (S : SL (l ++ F) w)
  (hx : ev t x = some (.slice A 0 0)) (hy : ev t y = some (.int k m)) (H : SlTy P st e κ.sz by_ z) (dv : α) (hz : ∀ G, κ.rep G dv z.cells.toList) (huy : ∀ w, (underlying yt).run P w = .ok (.int yk) w) (hpos : 0 < by_) (h0 : 0 < m) (hby : m * by_ ≤ 140737488355328) (hd : Nat.blt d n = true)
  (next : ∀ a' w' (b c : Nat), SL ((sl .own κ (some ⟨b, 0, none⟩) c (List.replicate m.toNat dv) :: l) ++ F) w' → Tm n ((d, .slice (some ⟨b, 0, none⟩) m.toNat c) :: t) a' → wpN Y P ops N rest a' w') :
  wpN Y P ops N (⟨some d, .call ⟨.builtin .append, #[x, y], #[st, yt]⟩, ty, pos, after, none⟩ :: rest) a w := by
 obtain ⟨ti, hti, hinfo⟩ := H.info
 have hmb : m ≤ 140737488355328 := by
  have : m * 1 ≤ m * by_ := Int.mul_le_mul_of_nonneg_left (by omega) (by omega)
  omega
 have hw : IntKind.i64.wrap m = m := by unfold IntKind.wrap; simp only [IntKind.bits, IntKind.signed]; simp; omega
 obtain ⟨q, rfl⟩ : ∃ q : Nat, m = q := ⟨m.toNat, by omega⟩
 have hqb : q * by_ ≤ 140737488355328 := by
  have : ((q * by_ : Nat) : Int) = (q : Int) * by_ := by simp
  omega
 have hfits := growslice_fits (need := q) (old := 0) (bytes := by_) (by omega) hqb
 let c := (Question.appendCap q 0 e).cut (w.tape w.drawn (.appendCap q 0 e))
 have hc : q ≤ c := by simp [c, Question.cut]
 let arr : Array Value := (#[] ++ Builtin.zeroCells z.cells q) ++ Builtin.zeroCells z.cells (c - q)
 have harr : arr.size = c * κ.sz := by
  simp only [arr, Array.size_append, zeroCells_size, H.zsz]
  have : (q + (c - q)) * κ.sz = c * κ.sz := by congr 1; omega
  rw [Nat.add_mul] at this
  simp; omega
 let w1 : World := { heap := w.heap.push (.cells arr e), tape := w.tape, drawn := w.drawn + 1, os := w.os, output := w.output }
 have hzl := κ.len (hz Hp.zero)
 simp only [Array.length_toList] at hzl
 have S2 : SL (sl .own κ (some ⟨w.heap.size, 0, none⟩) c (List.replicate q dv) :: (l ++ F)) w1 := by
  refine new_own (o := .cells arr e) S rfl rfl fun G H' _ _ _ _ => ⟨by simp; exact hc, .inr ⟨w.heap.size, 0, arr, e, (0, 0), rfl, by simp [Hp.one], unfrozen_zero _, by omega, (List.replicate q z.cells.toList).flatten, rep_cells hz G q, ?_⟩⟩
  intro j v hv
  have hlen : (List.replicate q z.cells.toList).flatten.length = q * κ.sz := by simp [List.length_flatten, hzl]
  have hj : j < q * κ.sz := by
   rcases Nat.lt_or_ge j (q * κ.sz) with q | q
   ·exact q
   ·rw [List.getElem?_eq_none (by omega)] at hv; cases hv
  have hsz : 0 < κ.sz := by
   rcases Nat.eq_zero_or_pos κ.sz with q | q
   ·rw [q] at hj; simp at hj
   ·exact q
  rw [flat_get (by simp [hzl, hsz]) _ _ (by simpa [hzl] using hj)] at hv
  simp only [Array.length_toList, hzl] at hv
  have hmod : j % κ.sz < z.cells.size := by rw [hzl]; exact Nat.mod_lt _ hsz
  have hzc : (Builtin.zeroCells z.cells q)[j]? = some v := by
   simp [Builtin.zeroCells, hzl, hj]
   rw [getElem!_pos z.cells _ hmod]
   simpa [hmod] using hv
  have hj2 : j < (Builtin.zeroCells z.cells q).size := by rw [zeroCells_size, hzl]; exact hj
  simp only [Nat.zero_add, arr, Array.empty_append]
  rw [Array.getElem?_append_left hj2]; exact hzc
 refine wpN_val (v := .slice (some ⟨w.heap.size, 0, none⟩) q c) (w' := w1) rfl ?_ (next _ w1 _ c S2 (by simpa using T.put hd _))
 have e1 := T.ev hx
 have e2 := T.ev hy
 simp only [execOp, resolve, invoke, builtin, Sem.run_bind, Sem.run_pure, Result.andThen_ok]
 simp only [List.map_toArray, List.map_cons, List.map_nil, e1, e2]
 have hq0 : ¬ (q ≤ 0) := by omega
 have hq0' : ¬ (q = 0) := by omega
 have hneg : ¬ ((q : Int) < 0) := by omega
 have hbig : ¬ ((281474976710656 : Int) < (q : Int) * (by_ : Int)) := by
  have : ((q * by_ : Nat) : Int) = (q : Int) * by_ := by simp
  omega
 have hbig2 : ¬ (281474976710656 < Builtin.nextslicecap q 0 * by_) := by omega
 have hmax : ¬ ((9223372036854775807 : Int) < (q : Int)) := by omega
 have hz' : ∀ w, (zeroValue e).run P w = .ok z w := H.zero
 unfold Builtin.append_
 cases A with
 | none =>
  simp [H.und, H.size, huy, asInt, asIntOf, hw, hneg, hinfo, hti, hbig, hq0, hq0', hbig2, hmax, Question.forced, Builtin.firstCells, newRow]
  split
  ·rename_i h
   have : Builtin.zeroCells z.cells q = #[] := by
    apply Array.eq_empty_of_size_eq_zero
    rw [zeroCells_size, H.zsz]; exact h
   simp [hz', w1, arr, this, c]
   rfl
  ·simp [hz', w1, arr, c]
   rfl
 | some ad =>
  have hl0 : ∀ w, (loadCells ad 0).run P w = .ok #[] w := fun w => by simp [loadCells, loadCellsFrom]
  simp [H.und, H.size, huy, asInt, asIntOf, hw, hneg, hinfo, hti, hbig, hq0, hq0', hbig2, hmax, Question.forced, Builtin.firstCells, newRow]
  split
  ·rename_i h
   have : Builtin.zeroCells z.cells q = #[] := by
    apply Array.eq_empty_of_size_eq_zero
    rw [zeroCells_size, H.zsz]; exact h
   simp [hz', w1, arr, this, c, hl0]
   rfl
  ·simp [hz', w1, arr, c, hl0]
   rfl
theorem cellsI {k0 : IntKind} {G : Hp} : ∀ {xs : List Int} {cs : List Value}, cells (kInt k0) G xs cs → cs = xs.map (Value.int k0)
 | [], _, h => h
 | x :: xs, _, ⟨c1, c2, e, h1, h2⟩ => by rw [e, h1, cellsI h2]; rfl
theorem cellsI' {k0 : IntKind} {G : Hp} : ∀ (xs : List Int), cells (kInt k0) G xs (xs.map (Value.int k0))
 | [] => rfl
 | x :: xs => ⟨[.int k0 x], xs.map (Value.int k0), rfl, rfl, cellsI' xs⟩
theorem SL.whole {k0 : IntKind} {A : Option Addr} {c ix : Nat} {xs : List Int} {j : Int} {l' : List Atom} (S : SL (l ++ F) w)
  (hl : l[ix]? = some (sl (.part j.toNat ((xs.drop j.toNat).map (Value.int k0))) (kInt k0) A c (cut xs 0 j.toNat))) (h0 : 0 ≤ j) (hj : j ≤ (xs.length : Int)) (hk : xs.length ≤ c) (hl' : l.set ix (sl .own (kInt k0) A c xs) = l') : SL (l' ++ F) w := by
 refine S.turnL hl (fun G h q => ?_) hl'
 have hcl := cut_len xs 0 j.toNat (by omega)
 obtain ⟨⟨q0, q⟩, hz⟩ := q
 refine ⟨hk, q.imp id ?_⟩
 rintro ⟨b, o, arr, e, fr, q1, q2, q3, q4, cs, q5, q6⟩
 refine ⟨b, o, arr, e, fr, q1, q2, q3, q4, xs.map (Value.int k0), cellsI' xs, fun i v hv => ?_⟩
 rw [cellsI q5] at q6
 by_cases hi : i < j.toNat
 ·exact q6 i v (by simpa [cut, List.getElem?_map, List.getElem?_take, hi] using hv)
 ·obtain ⟨arr', e', fr', z1, z2⟩ := hz (i - j.toNat) v (by
   rw [List.getElem?_map, List.getElem?_drop, show j.toNat + (i - j.toNat) = i by omega, ← List.getElem?_map]; exact hv)
  subst q1
  rw [eA_some] at z1 z2
  simp only at z1 z2
  rw [q2] at z1; cases z1
  rw [← z2]; congr 1; omega
theorem SL.reB {b : Nat} {cs cs' : List Value} {i : Nat} {l' : List Atom} (S : SL (l ++ F) w) (hl : l[i]? = some (blk b cs)) (e : cs = cs') (hl' : l.set i (blk b cs') = l') : SL (l' ++ F) w := by
 subst e; exact S.turnL hl (fun _ _ q => q) hl'
def lent (B : Atom) (L : List Atom) : Atom where
 holds E G h := ∃ G0 p : Hp, G0.le G ∧ p.le G ∧ G0.dj p ∧ B.holds E G0 p ∧ sats E G0 L h
 mono l h := by
  obtain ⟨G0, p, h1, h2, h3⟩ := h
  exact ⟨G0, p, fun b o e => l _ _ (h1 b o e), fun b o e => l _ _ (h2 b o e), h3⟩
theorem SL.forget {α : Type} {κ : K α} {A : Option Addr} {c ix off : Nat} {zs : List Value} {xs : List α} {l' : List Atom} (S : SL (l ++ F) w) (hl : l[ix]? = some (sl (.part off zs) κ A c xs)) (hl' : l.set ix (sl .own κ A c xs) = l') : SL (l' ++ F) w :=
 S.turnL hl (fun _ _ q => q.1) hl'
theorem SL.peekO {α β : Type} {κ : K α} {μ : K β} {g : α → β} {A : Option Addr} {c ix : Nat} {off : Nat} {xs : List α} {i : Int} (S : SL (l ++ F) w) (hl : l[ix]? = some (sl .own κ A c xs)) (dv : α)
  (hf : Fld κ off μ g) (h0 : 0 ≤ i) (h1 : i < (xs.length : Int)) (hm : μ.sz = 1) : ∃ v, SL ((rp μ (g (gi dv xs i)) [v] :: l.set ix (sl (.part (i.toNat * κ.sz + off) [v]) κ A c xs)) ++ F) w := by
 have key : ∀ {G h : Hp}, (sl .own κ A c xs).holds (env w) G h → ∃ cs, μ.rep G (g (gi dv xs i)) cs ∧ (sl (.part (i.toNat * κ.sz + off) cs) κ A c xs).holds (env w) G h := by
  intro G h hk
  have hx := gi_get dv xs i (by omega)
  obtain ⟨q0, ⟨q1, q2⟩ | ⟨b, o, arr, e, fr, q1, q2, q3, q4, q5⟩⟩ := hk
  ·omega
  ·obtain ⟨cs, r1, r2⟩ := q5.get _ _ hx
   obtain ⟨ds, r3, r4⟩ := hf.rep r1
   refine ⟨ds, r3, ⟨q0, .inr ⟨b, o, arr, e, fr, q1, q2, q3, q4, q5⟩⟩, fun k v hv => ?_⟩
   subst q1
   refine ⟨arr, e, fr, q2, ?_⟩
   rw [eA_some]
   have := r2 _ _ (r4 k v hv)
   rw [← this]; congr 1; simp only; omega
 have S1 := S.perm ((get_perm hl).append_right F)
 obtain ⟨G, k, H, a1, a2, a3, d1, d2, d3, gg, s⟩ := SL.front S1
 obtain ⟨cs, r, q⟩ := key gg
 have hlen : cs.length = 1 := by
  have := μ.len r; omega
 match cs, hlen, r, q with
 | [v], _, r, q =>
  have S2 : SL (rp μ (g (gi dv xs i)) [v] :: sl (.part (i.toNat * κ.sz + off) [v]) κ A c xs :: (l.eraseIdx ix ++ F)) w := by
   refine SL.back (G := G) (h := Hp.zero) (H := k.un H) a1 (fun _ _ e => by cases e) ?_ (Hp.dj_symm (Hp.zero_dj _)) (Hp.dj_symm (Hp.un_dj (Hp.dj_symm d1) (Hp.dj_symm d2))) (Hp.zero_dj _) r ⟨k, H, d3, Hp.le_un_left _ _, Hp.le_un_right d3, q, s⟩
   intro x o y
   simp only [Hp.un] at y
   split at y
   ·rename_i o' ho; cases y; exact a2 x _ ho
   ·exact a3 x o y
  exact ⟨v, S2.perm (List.Perm.cons _ (((set_perm hl).append_right F).symm))⟩
theorem r_ldK {α : Type} {κ : K α} {c off : Nat} {xs : List α} {ty' : TypeId} {x : Operand} {A : Option Addr} {ix j : Nat} {v : Value} (T : Tm n t a) (S : SL (l ++ F) w) (hl : l[ix]? = some (sl (.part off [v]) κ A c xs)) (hx : ev t x = some (.pointer (some (eA A j)))) (hj : j = off)
  (hg : ∀ w, (isAgg ty').run P w = .ok false w) (hd : Nat.blt d n = true)
  (next : ∀ a', Tm n ((d, v) :: t) a' → wpN Y P ops N rest a' w) : wpN Y P ops N (⟨some d, .load ty' x, ty, pos, after, none⟩ :: rest) a w := by
 obtain ⟨G, h, fG, fh, _, q⟩ := S.memF hl
 subst hj
 refine wpN_val rfl ?_ (next _ (T.put hd _))
 simp only [execOp, T.ev hx]
 obtain ⟨arr, e', fr, h1, h2⟩ := q.2 0 v rfl
 have this : w.cell? (eA A (j + 0)) = some v := fit_cell fh h1 h2
 rw [Nat.add_zero] at this
 simp [run_loadOne hg this]
def omP {α : Type} (o : Option α) (p : Prop) (q : α → Prop) : Prop := match o with | none => p | some x => q x
theorem omN {α : Type} {o : Option α} {p : Prop} {q : α → Prop} (h : o = none) (r : omP o p q) : p := by subst h; exact r
theorem omS {α : Type} {o : Option α} {p : Prop} {q : α → Prop} {x : α} (h : o = some x) (r : omP o p q) : q x := by subst h; exact r
def Om {α R : Type} (o : Option α) (a : Option R) (b : α → Option R) : Option R := match o with | none => a | some x => b x
theorem omE {α R : Type} {o : Option α} {a : Option R} {b : α → Option R} {r : R} (h : Om o a b = some r) : (o = none ∧ a = some r) ∨ ∃ x, o = some x ∧ b x = some r := by
 cases o with
 | none => exact .inl ⟨rfl, h⟩
 | some x => exact .inr ⟨x, rfl, h⟩
def resM (P : Program) (t : List (Nat × Value)) (l : List Atom) : List ResultVar → List Value → Prop
 | [], vs => vs = []
 | .tmp s :: r, vs => ∃ v vs', vs = v :: vs' ∧ lk t s = some v ∧ resM P t l r vs'
 | .cell s ty :: r, vs => ∃ v vs', vs = v :: vs' ∧ (∃ b cs, ∃ i : Nat, lk t s = some (.pointer (some ⟨b, 0, none⟩)) ∧ l[i]? = some (blk b cs) ∧
   (((∀ w, (isAgg ty).run P w = .ok true w) ∧ (∀ w, (sizeOf ty).run P w = .ok cs.length w) ∧ v = .agg cs.toArray) ∨ ((∀ w, (isAgg ty).run P w = .ok false w) ∧ cs = [v]))) ∧ resM P t l r vs'
theorem resM_run (T : Tm n t a) (S : SL (l ++ F) w) : ∀ {rs : List ResultVar} {vs : List Value}, resM P t l rs vs → (rs.mapM (resF a)).run P w = .ok vs w
 | [], vs, h => by simp [resM] at h; subst h; rfl
 | .tmp s :: r, _, ⟨v, vs', e, h1, h2⟩ => by
  subst e
  rw [List.mapM_cons]
  simp only [resF, Sem.run_bind, Sem.run_pure, Result.andThen_ok, T.getD h1]
  rw [resM_run T S h2]; rfl
 | .cell s ty :: r, _, ⟨v, vs', e, ⟨b, cs, i, h1, h2, h3⟩, h4⟩ => by
  subst e
  obtain ⟨G, h, fG, fh, _, e, fr, hb, hu⟩ := S.memF h2
  have hv : (loadVar ty ⟨b, 0, none⟩).run P w = .ok v w := by
   rcases h3 with ⟨h5, h6, h7⟩ | ⟨h5, h6⟩
   ·subst h7
    have := run_loadAgg (P := P) (w := w) (ty' := ty) (ad := ⟨b, 0, none⟩) (cs := cs) h5 h6 (fun j v hj => by
     rw [add_eA, eA_some]; exact fit_cell fh hb (by simpa using hj))
    simpa [Instr.loadAt, Instr.sureAddr] using this
   ·subst h6
    have := run_loadOne (P := P) (w := w) (ty' := ty) (ad := ⟨b, 0, none⟩) (v := v) h5 (fit_cell fh hb rfl)
    simpa [Instr.loadAt, Instr.sureAddr] using this
  rw [List.mapM_cons]
  simp only [resF, Sem.run_bind, T.getD h1, asAddr, Sem.run_pure, Result.andThen_ok, hv]
  rw [resM_run T S h4]; rfl
theorem rtnM {f : FuncId} {k : List Item} {R : Ending → World → Prop} {fn : Func} {rs : List ResultVar} {vs : List Value} (T : Tm n t a) (S : SL (l ++ F) w) (hf : P.funcs[f]? = some fn) (hrs : fn.results = rs.toArray) (h : resM P t l rs vs)
  (hR : R (.returned (tupled vs)) w) : Gets P { fn := f } (.code .ret :: k) a w R := by
 refine Gets.ret hf T.defers ?_ hR
 rw [results_eq, hrs, List.mapM_toArray, Sem.run_bind, Sem.run_map, resM_run T S h]
 simp only [Result.andThen_ok, Sem.run_pure]
 match vs with
 | [] => rfl
 | [v] => rfl
 | _ :: _ :: _ => simp [tupled]
end
def pre (ops : Array Oper) (i j : Nat) : Bool := match ops[i]? with | some o => o.after.toList.any fun e => Region.binds .any e && e.on == j | none => false
def wrt (ops : Array Oper) (j s : Nat) : Bool := match ops[j]? with | some o => o.dst == some s | none => false
def lone1 (ops : Array Oper) (j s : Nat) : Bool := (List.range ops.size).all fun k => k == j || !wrt ops k s
def later (ops : Array Oper) (i s : Nat) : Bool := (List.range ops.size).all fun k => !wrt ops k s || pre ops k i
def sorted (ops : Array Oper) : Bool := (List.range ops.size).all fun i => match ops[i]? with | some o => o.after.toList.all fun e => !Region.binds .any e || Nat.blt e.on i | none => true
abbrev Kn := List (Option (Value × Bool))
def Kn.v (V : Kn) (i : Nat) : Option Value := match V[i]? with | some (some p) => some p.1 | _ => none
def avail (ops : Array Oper) (tb : List (Nat × Value)) (V : Kn) (i : Nat) : List (Nat × Value) → Prop
 | [] => True
 | (s, v) :: r => ((∃ j, pre ops i j = true ∧ wrt ops j s = true ∧ lone1 ops j s = true ∧ V.v j = some v) ∨ (later ops i s = true ∧ lk tb s = some v)) ∧ avail ops tb V i r
def av1 (ops : Array Oper) (tb : List (Nat × Value)) (V : Kn) (i s : Nat) : Option Value :=
 match later ops i s with
 | true => lk tb s
 | false => match (List.range ops.size).find? fun j => pre ops i j && (wrt ops j s && lone1 ops j s) with | some j => V.v j | none => none
def avs (ops : Array Oper) (tb : List (Nat × Value)) (V : Kn) (i : Nat) : List Nat → Option (List (Nat × Value))
 | [] => some []
 | s :: r => match av1 ops tb V i s, avs ops tb V i r with | some v, some l => some ((s, v) :: l) | _, _ => none
theorem avl {ops : Array Oper} {tb : List (Nat × Value)} {V : Kn} {i : Nat} : ∀ (ss : List Nat) {nd : List (Nat × Value)}, avs ops tb V i ss = some nd → avail ops tb V i nd
 | [], _, h => by cases h; trivial
 | s :: r, _, h => by
  simp only [avs] at h
  split at h
  ·rename_i v l h1 h2
   cases h
   refine ⟨?_, avl r h2⟩
   unfold av1 at h1
   split at h1
   ·rename_i hl
    exact .inr ⟨hl, h1⟩
   ·split at h1
    ·rename_i j hj
     have := List.find?_some hj
     simp only [Bool.and_eq_true] at this
     exact .inl ⟨j, this.1, this.2.1, this.2.2, h1⟩
    ·cases h1
  ·cases h
structure Inv (ops : Array Oper) (tb : List (Nat × Value)) (V : Kn) (D : Array Bool) (n : Nat) (t : List (Nat × Value)) (a : Act) : Prop where
 T : Tm n t a
 size : D.size = ops.size
 closed : ∀ i j, D.getD i false = true → pre ops i j = true → D.getD j false = true
 known : ∀ i, D.getD i false = true → ∃ v, V.v i = some v ∧ ∀ s, wrt ops i s = true → lone1 ops i s = true → lk t s = some v
 done : ∀ i v, V[i]? = some (some (v, false)) → D.getD i false = true
 base : ∀ s v, lk tb s = some v → (∀ k, wrt ops k s = true → D.getD k false = false) → lk t s = some v
section
variable {P : Program} {ops : Array Oper} {n : Nat} {tb : List (Nat × Value)} {F : List Atom} {N : Act → World → Prop}
def Claim (P : Program) (ops : Array Oper) (n : Nat) (tb : List (Nat × Value)) (F : List Atom) (N : Act → World → Prop) (V : Kn) (l : List Atom) : Prop :=
 ∀ (fuel : Nat) (D : Array Bool) (t : List (Nat × Value)) (a : Act) (w : World), (D.toList.filter (fun b => !b)).length ≤ fuel → Inv ops tb V D n t a → SL (l ++ F) w →
  wpAny P .any ops (fun e a w => e = .normal ∧ N a w) fuel D a w
theorem wpOp_of_wpN {i : Nat} {o : Oper} {M : Act → World → Prop} {Q : Exit → Act → World → Prop} {K : Act → World → Prop} (ho : ops[i]? = some o) (hM : ∀ a w, M a w → K a w) {a : Act} {w : World} (h : wpN false P ops M [o] a w) : wpOp P ops Q i K a w := by
 simp only [wpN] at h
 simp only [wpOp, ho]
 split
 ·rename_i hw
  simp only [hw, if_true] at h
  left
  exact h.upon hM
 ·rename_i hw
  simp only [hw] at h
  exact hM _ _ h
theorem pre_iff {i j : Nat} {o : Oper} (ho : ops[i]? = some o) : pre ops i j = true ↔ ∃ e ∈ o.after, Region.binds .any e = true ∧ e.on = j := by
 simp only [pre, ho, List.any_eq_true, Bool.and_eq_true, beq_iff_eq]
 constructor
 ·rintro ⟨e, he, h⟩; exact ⟨e, by simpa using he, h⟩
 ·rintro ⟨e, he, h⟩; exact ⟨e, by simpa using he, h⟩
theorem wrt_lt {k s : Nat} (h : wrt ops k s = true) : k < ops.size := by
 rcases Nat.lt_or_ge k ops.size with q | q
 ·exact q
 ·simp [wrt, Array.getElem?_eq_none q] at h
theorem Inv.need {V : Kn} {D : Array Bool} {t : List (Nat × Value)} {a : Act} (I : Inv ops tb V D n t a) {i : Nat} (hpre : ∀ j, pre ops i j = true → D.getD j false = true) (hi : D.getD i false = false) :
  ∀ (nd : List (Nat × Value)), avail ops tb V i nd → ∀ s v, lk nd s = some v → lk t s = some v
 | [], _, s, v, h => by simp [lk] at h
 | (s', v') :: r, ⟨h1, h2⟩, s, v, h => by
  simp only [lk] at h
  by_cases e : Nat.beq s' s = true
  ·simp only [e, Option.some.injEq] at h
   have es := Nat.eq_of_beq_eq_true e
   subst es; subst h
   rcases h1 with ⟨j, p1, p2, p3, p4⟩ | ⟨p1, p2⟩
   ·obtain ⟨u, q1, q2⟩ := I.known j (hpre j p1)
    rw [p4] at q1; cases q1
    exact q2 _ p2 p3
   ·refine I.base _ _ p2 fun k hk => ?_
    have hk' := wrt_lt hk
    have := (List.all_eq_true.1 p1) k (List.mem_range.2 hk')
    simp only [hk, Bool.not_true, Bool.false_or] at this
    cases hd : D.getD k false with
    | false => rfl
    | true => rw [I.closed k i hd this] at hi; cases hi
  ·simp only [Bool.not_eq_true] at e
   simp only [e] at h
   exact Inv.need I hpre hi r h2 s v h
theorem lk_append : ∀ (nd t : List (Nat × Value)) (s : Nat), lk (nd ++ t) s = match lk nd s with | some v => some v | none => lk t s
 | [], _, _ => rfl
 | (s', v) :: r, t, s => by
  simp only [List.cons_append, lk]
  by_cases e : Nat.beq s' s = true
  ·simp [e]
  ·simp only [Bool.not_eq_true] at e
   simp only [e]
   exact lk_append r t s
theorem Tm.with {t nd : List (Nat × Value)} {a : Act} (T : Tm n t a) (h : ∀ s v, lk nd s = some v → lk t s = some v) : Tm n (nd ++ t) a :=
 ⟨T.defers, T.size, fun s v e => by
  rw [lk_append] at e
  split at e
  ·rename_i u hu; cases e; exact T.at_ _ _ (h _ _ hu)
  ·exact T.at_ _ _ e⟩
theorem lk_with {t nd : List (Nat × Value)} (h : ∀ s v, lk nd s = some v → lk t s = some v) {s : Nat} {v : Value} (e : lk t s = some v) : lk (nd ++ t) s = some v := by
 rw [lk_append]
 split
 ·rename_i u hu; rw [h _ _ hu] at e; exact e
 ·exact e
theorem filt_set : ∀ (l : List Bool) (i : Nat), l[i]? = some false → ((l.set i true).filter (fun b => !b)).length + 1 = (l.filter (fun b => !b)).length
 | [], _, h => by simp at h
 | b :: l, 0, h => by simp at h; subst h; simp
 | b :: l, i + 1, h => by
  simp at h
  have := filt_set l i h
  cases b <;> simp [this]
theorem Inv.step {V V' : Kn} {D : Array Bool} {t nd : List (Nat × Value)} {a a' : Act} (I : Inv ops tb V D n t a) {i : Nat} {o : Oper} {v : Value} (ho : ops[i]? = some o) (hi : D.getD i true = false)
  (hpre : ∀ j, pre ops i j = true → D.getD j false = true) (hn : ∀ s v, lk nd s = some v → lk t s = some v) (hv : V'.v i = some v) (hV : ∀ j u, V.v j = some u → V'.v j = some u)
  (hdone : ∀ j u, V'[j]? = some (some (u, false)) → V[j]? = some (some (u, false)) ∨ j = i ∨ pre ops i j = true) (T : Tm n (pt o.dst v (nd ++ t)) a') :
  Inv ops tb V' (D.setIfInBounds i true) n (pt o.dst v (nd ++ t)) a' := by
 have hlt : i < D.size := by
  rcases Nat.lt_or_ge i D.size with q | q
  ·exact q
  ·simp [Array.getElem?_eq_none q] at hi
 have hi' : D.getD i false = false := by simp [hlt] at hi ⊢; exact hi
 have hself : (D.setIfInBounds i true).getD i false = true := by simp [hlt]
 have hput : ∀ s u, (∀ x, o.dst = some x → x ≠ s) → lk (nd ++ t) s = some u → lk (pt o.dst v (nd ++ t)) s = some u := by
  intro s u hs hl
  unfold pt
  split
  ·rename_i x hx
   have hb : Nat.beq x s = false := by rw [Bool.eq_false_iff]; intro hh; exact hs x hx (Nat.eq_of_beq_eq_true hh)
   simp only [lk, hb]; exact hl
  ·exact hl
 refine ⟨T, by simpa using I.size, ?_, ?_, ?_, ?_⟩
 ·intro p q hp hpq
  by_cases e : i = p
  ·subst e; exact getD_set_true (hpre q hpq)
  ·rw [getD_set_ne false e] at hp; exact getD_set_true (I.closed p q hp hpq)
 ·intro p hp
  by_cases e : i = p
  ·subst e
   refine ⟨v, hv, fun s hw hl => ?_⟩
   have hd : o.dst = some s := by simpa [wrt, ho] using hw
   simp [pt, hd, lk]
  ·rw [getD_set_ne false e] at hp
   obtain ⟨u, q1, q2⟩ := I.known p hp
   refine ⟨u, hV _ _ q1, fun s hw hl => hput s u (fun x hx hxs => ?_) (lk_with hn (q2 s hw hl))⟩
   subst hxs
   have := (List.all_eq_true.1 hl) i (List.mem_range.2 (Array.getElem?_eq_some_iff.1 ho).1)
   have hwi : wrt ops i x = true := by simp [wrt, ho, hx]
   simp [hwi, e] at this
 ·intro p u hp
  rcases hdone p u hp with q | q
  ·exact getD_set_true (I.done p u q)
  ·rcases q with q | q
   ·subst q; exact hself
   ·exact getD_set_true (hpre p q)
 ·intro s u hs hk
  refine hput s u (fun x hx hxs => ?_) (lk_with hn (I.base s u hs fun k hw => ?_))
  ·subst hxs
   have hwi : wrt ops i x = true := by simp [wrt, ho, hx]
   rw [hk i hwi] at hself; cases hself
  ·have := hk k hw
   by_cases e : i = k
   ·subst e; exact hi'
   ·rwa [getD_set_ne false e] at this
def QAll (P : Program) (ops : Array Oper) (n : Nat) (tb : List (Nat × Value)) (F l : List Atom) (V : Kn) : Nat → Kn → Prop
 | _, [] => True
 | i, none :: r => QAll P ops n tb F l V (i + 1) r
 | i, some (_, false) :: r => QAll P ops n tb F l V (i + 1) r
 | i, some (v, true) :: r => (∃ o nd, ops[i]? = some o ∧ avail ops tb V i nd ∧ ∀ u a w, Tm n (nd ++ u) a → SL (l ++ F) w →
   wpN false P ops (fun a' w' => w' = w ∧ Tm n (pt o.dst v (nd ++ u)) a') [o] a w) ∧ QAll P ops n tb F l V (i + 1) r
def unk (ops : Array Oper) (V : Kn) (o : Option Nat) : Bool := (List.range ops.size).all fun i => (V.v i).isSome || o == some i || (List.range ops.size).any fun j => pre ops i j && (V.v j).isNone
theorem QAll.get {l : List Atom} {V : Kn} : ∀ {r : Kn} {i : Nat}, QAll P ops n tb F l V i r → ∀ {j : Nat} {v : Value}, r[j]? = some (some (v, true)) →
  ∃ o nd, ops[i + j]? = some o ∧ avail ops tb V (i + j) nd ∧ ∀ u a w, Tm n (nd ++ u) a → SL (l ++ F) w → wpN false P ops (fun a' w' => w' = w ∧ Tm n (pt o.dst v (nd ++ u)) a') [o] a w
 | [], _, _, j, v, e => by simp at e
 | none :: r, i, h, 0, v, e => by simp at e
 | none :: r, i, h, j + 1, v, e => by
  have := QAll.get (r := r) (i := i + 1) h (j := j) (v := v) (by simpa using e)
  rwa [show i + 1 + j = i + (j + 1) by omega] at this
 | some (_, false) :: r, i, h, 0, v, e => by simp at e
 | some (_, false) :: r, i, h, j + 1, v, e => by
  have := QAll.get (r := r) (i := i + 1) h (j := j) (v := v) (by simpa using e)
  rwa [show i + 1 + j = i + (j + 1) by omega] at this
 | some (u, true) :: r, i, ⟨h1, h2⟩, 0, v, e => by simp at e; subst e; exact h1
 | some (u, true) :: r, i, ⟨h1, h2⟩, j + 1, v, e => by
  have := QAll.get (r := r) (i := i + 1) h2 (j := j) (v := v) (by simpa using e)
  rwa [show i + 1 + j = i + (j + 1) by omega] at this
def KExt : Kn → Kn → Prop
 | [], _ => True
 | x :: V, y :: V' => (x = none ∨ ∃ v b b', x = some (v, b) ∧ y = some (v, b')) ∧ KExt V V'
 | _ :: _, [] => False
theorem kx0 {V : Kn} : KExt [] V := by cases V <;> exact trivial
theorem kxn {V V' : Kn} {y : Option (Value × Bool)} (h : KExt V V') : KExt (none :: V) (y :: V') := ⟨.inl rfl, h⟩
theorem kxs {V V' : Kn} {v : Value} {b b' : Bool} (h : KExt V V') : KExt (some (v, b) :: V) (some (v, b') :: V') := ⟨.inr ⟨_, _, _, rfl, rfl⟩, h⟩
theorem KExt.get : ∀ {V V' : Kn}, KExt V V' → ∀ {j : Nat} {u : Value} {b : Bool}, V[j]? = some (some (u, b)) → ∃ b', V'[j]? = some (some (u, b'))
 | [], _, _, j, u, b, h => by simp at h
 | x :: V, [], h, _, _, _, _ => h.elim
 | x :: V, y :: V', ⟨h1, h2⟩, 0, u, b, h => by
  simp at h
  subst h
  rcases h1 with q | ⟨v, b1, b2, q1, q2⟩
  ·cases q
  ·cases q1; exact ⟨b2, by simp [q2]⟩
 | x :: V, y :: V', ⟨h1, h2⟩, j + 1, u, b, h => by
  simp at h
  obtain ⟨b', h3⟩ := KExt.get h2 h
  exact ⟨b', by simpa using h3⟩
theorem KExt.v {V V' : Kn} (h : KExt V V') {j : Nat} {u : Value} (e : V.v j = some u) : V'.v j = some u := by
 unfold Kn.v at e ⊢
 split at e
 ·rename_i p hp
  cases e
  obtain ⟨b', h1⟩ := h.get hp
  rw [h1]
 ·cases e
def kdone (ops : Array Oper) (i : Nat) (V V' : Kn) : Bool :=
 (List.range V'.length).all fun j => match V'[j]? with
  | some (some (_, false)) => (match V[j]? with | some (some (_, false)) => true | _ => false) || j == i || pre ops i j
  | _ => true
theorem kdone_spec {i : Nat} {V V' : Kn} (h : kdone ops i V V' = true) (he : KExt V V') (j : Nat) (u : Value) (e : V'[j]? = some (some (u, false))) :
  V[j]? = some (some (u, false)) ∨ j = i ∨ pre ops i j = true := by
 have hlt : j < V'.length := by
  rcases Nat.lt_or_ge j V'.length with q | q
  ·exact q
  ·rw [List.getElem?_eq_none q] at e; cases e
 have := (List.all_eq_true.1 h) j (List.mem_range.2 hlt)
 simp only [e, Bool.or_eq_true, beq_iff_eq] at this
 rcases this with (q | q) | q
 ·left
  split at q
  ·rename_i v hv
   obtain ⟨b', h1⟩ := he.get hv
   rw [e] at h1; cases h1; exact hv
  ·cases q
 ·exact .inr (.inl q)
 ·exact .inr (.inr q)
def nowr (ops : Array Oper) (s : Nat) : Bool := (List.range ops.size).all fun k => !wrt ops k s
theorem nowr_spec {s : Nat} (h : nowr ops s = true) (k : Nat) : wrt ops k s = false := by
 cases hw : wrt ops k s with
 | false => rfl
 | true =>
  have := (List.all_eq_true.1 h) k (List.mem_range.2 (wrt_lt hw))
  simp [hw] at this
theorem stage {V : Kn} {l : List Atom} (o : Option Nat) (hsrt : sorted ops = true) (hlen : V.length = ops.size) (q : QAll P ops n tb F l V 0 V) (hu : unk ops V o = true)
  (loud : ∀ i, o = some i → V.v i = none ∧ ∃ op nd, ops[i]? = some op ∧ avail ops tb V i nd ∧ ∀ u a w, Tm n (nd ++ u) a → SL (l ++ F) w →
   wpN false P ops (fun a' w' => ∃ v V' l', V'.v i = some v ∧ KExt V V' ∧ kdone ops i V V' = true ∧
    Claim P ops n tb F N V' l' ∧ Tm n (pt op.dst v (nd ++ u)) a' ∧ SL (l' ++ F) w') [op] a w)
  (last : o = none → ∀ t a w, Tm n t a → (∀ i v s, V.v i = some v → wrt ops i s = true → lone1 ops i s = true → lk t s = some v) → (∀ s v, lk tb s = some v → nowr ops s = true → lk t s = some v) → SL (l ++ F) w → N a w) :
  Claim P ops n tb F N V l := by
 have hready : ∀ (D : Array Bool), D.size = ops.size → Region.ready .any ops D = [] → ∀ i, i < ops.size → D.getD i false = true := by
  intro D hD hr i
  induction i using Nat.strongRecOn with
  | _ i ih =>
   intro hi
   cases hd : D.getD i false with
   | true => rfl
   | false =>
    exfalso
    have hmem : i ∈ Region.ready .any ops D := by
     rw [mem_ready]
     refine ⟨by simp [hD, hi] at hd ⊢; exact hd, ops[i], Array.getElem?_eq_getElem hi, fun e he hb => ?_⟩
     have h1 := (List.all_eq_true.1 hsrt) i (List.mem_range.2 hi)
     simp only [Array.getElem?_eq_getElem hi] at h1
     have h2 := (List.all_eq_true.1 h1) e (by simpa using he)
     simp only [hb, Bool.not_true, Bool.false_or] at h2
     have h3 : e.on < i := by simpa [Nat.blt_eq] using h2
     exact ih _ h3 (by omega)
    rw [hr] at hmem; simp at hmem
 have hfin : ∀ (D : Array Bool) (t : List (Nat × Value)) (a : Act) (w : World), (∀ i, i < ops.size → D.getD i false = true) → Inv ops tb V D n t a → SL (l ++ F) w → N a w := by
  intro D t a w hall I S
  refine last ?_ t a w I.T (fun i v s hv hw hl => ?_) (fun s v hs hk => I.base s v hs fun k hw => by rw [nowr_spec hk k] at hw; cases hw) S
  ·cases ho : o with
   | none => rfl
   | some i =>
    obtain ⟨h1, op, nd, h2, _⟩ := loud i ho
    obtain ⟨u, h3, _⟩ := I.known i (hall i (Array.getElem?_eq_some_iff.1 h2).1)
    rw [h1] at h3; cases h3
  ·obtain ⟨u, h3, h4⟩ := I.known i (hall i (wrt_lt hw))
   rw [hv] at h3; cases h3
   exact h4 s hw hl
 intro fuel
 induction fuel with
 | zero =>
  intro D t a w hc I S
  have hall : ∀ i, i < ops.size → D.getD i false = true := by
   intro i hi
   have h0 : (D.toList.filter (fun b => !b)) = [] := List.eq_nil_of_length_eq_zero (by omega)
   rw [List.filter_eq_nil_iff] at h0
   have hlt : i < D.size := by rw [I.size]; exact hi
   have := h0 D[i] (by simp)
   simp [hlt]
   simpa using this
  refine ⟨?_, rfl, hfin D t a w hall I S⟩
  cases hr : Region.ready .any ops D with
  | nil => rfl
  | cons i r =>
   have hm : i ∈ Region.ready .any ops D := by rw [hr]; simp
   rw [mem_ready] at hm
   obtain ⟨h1, op, h2, _⟩ := hm
   have := hall i (Array.getElem?_eq_some_iff.1 h2).1
   have hlt : i < D.size := by rw [I.size]; exact (Array.getElem?_eq_some_iff.1 h2).1
   simp [hlt] at h1 this
   rw [h1] at this; cases this
 | succ fuel ih =>
  intro D t a w hc I S
  refine ⟨fun hr => ⟨rfl, hfin D t a w (hready D I.size hr) I S⟩, fun i hi => ?_⟩
  rw [mem_ready] at hi
  obtain ⟨h1, op, h2, h3⟩ := hi
  have hilt : i < ops.size := (Array.getElem?_eq_some_iff.1 h2).1
  have hlt : i < D.size := by rw [I.size]; exact hilt
  have h1' : D.getD i false = false := by simp [hlt] at h1 ⊢; exact h1
  have hpre : ∀ j, pre ops i j = true → D.getD j false = true := by
   intro j hj
   obtain ⟨e, he, hb, rfl⟩ := (pre_iff h2).1 hj
   exact h3 e he hb
  have hcount : ((D.setIfInBounds i true).toList.filter (fun b => !b)).length ≤ fuel := by
   have := filt_set D.toList i (by simp [hlt] at h1 ⊢; exact h1)
   rw [Array.toList_setIfInBounds]
   omega
  cases hv : V.v i with
  | none =>
   have hoi : o = some i := by
    have := (List.all_eq_true.1 hu) i (List.mem_range.2 hilt)
    simp only [hv, Option.isSome_none, Bool.false_or, Bool.or_eq_true, beq_iff_eq, List.any_eq_true, Bool.and_eq_true] at this
    rcases this with q | ⟨j, _, q1, q2⟩
    ·exact q
    ·obtain ⟨u, h4, _⟩ := I.known j (hpre j q1)
     rw [h4] at q2; cases q2
   obtain ⟨_, op', nd, g1, g2, g3⟩ := loud i hoi
   rw [h2] at g1; cases g1
   have hn := I.need hpre h1' nd g2
   refine wpOp_of_wpN h2 (fun a' w' h => ?_) (g3 t a w (I.T.with hn) S)
   obtain ⟨v, V', l', k1, k2, k3, k4, k5, k6⟩ := h
   exact k4 fuel _ _ _ _ hcount (I.step h2 h1 hpre hn k1 (fun _ _ h => k2.v h) (fun j u h => kdone_spec k3 k2 j u h) k5) k6
  | some v =>
   have hVi : ∃ b, V[i]? = some (some (v, b)) := by
    unfold Kn.v at hv
    split at hv
    ·rename_i p hp; cases hv; exact ⟨p.2, hp⟩
    ·cases hv
   obtain ⟨b, hVi⟩ := hVi
   cases b with
   | false => rw [I.done i v hVi] at h1'; cases h1'
   | true =>
    obtain ⟨op', nd, g1, g2, g3⟩ := q.get hVi
    rw [Nat.zero_add] at g1 g2
    rw [h2] at g1; cases g1
    have hn := I.need hpre h1' nd g2
    refine wpOp_of_wpN h2 (fun a' w' h => ?_) (g3 t a w (I.T.with hn) S)
    obtain ⟨rfl, T'⟩ := h
    exact ih _ _ _ _ hcount (I.step h2 h1 hpre hn hv (fun _ _ h => h) (fun _ _ h => .inl h) T') S
def fresh : Kn → Bool
 | [] => true
 | some (_, false) :: _ => false
 | _ :: r => fresh r
theorem fresh_get : ∀ {V : Kn} (_ : fresh V = true) (i : Nat) (v : Value), V[i]? = some (some (v, false)) → False
 | [], _, i, v, h => by simp at h
 | none :: r, hf, 0, v, h => by simp at h
 | none :: r, hf, i + 1, v, h => fresh_get (V := r) hf i v (by simpa using h)
 | some (_, false) :: r, hf, i, v, h => by simp [fresh] at hf
 | some (u, true) :: r, hf, 0, v, h => by simp at h
 | some (u, true) :: r, hf, i + 1, v, h => fresh_get (V := r) hf i v (by simpa using h)
theorem Gets.drawn {f : FuncId} {k : List Item} {a : Act} {w : World} {R : Ending → World → Prop} {id : Nat} {l : List Atom} {V : Kn} (hm : P.follows .mixedOrders = true) (T : Tm n tb a) (S : SL (l ++ F) w)
  (hV : fresh V = true) (h : Claim P ops n tb F (fun a w => Gets P { fn := f } k a w R) V l) : Gets P { fn := f } (.code (.region id ops true) :: k) a w R := by
 refine .of_wp (wp_region_any hm (h ops.size _ tb a _ ?_ ⟨T, by simp, fun i j hi => ?_, fun i hi => ?_, fun i v hv => (fresh_get hV i v hv).elim, fun s v hs _ => hs⟩ (S.heap rfl rfl)))
 ·simp
 ·by_cases hlt : i < ops.size <;> simp [hlt] at hi
 ·by_cases hlt : i < ops.size <;> simp [hlt] at hi
end
end Go.Proofs.Ytghpokmkhlmgcaa.X
namespace Go.Proofs.Ytghpokmkhlmgcaa.X
open Go Go.ChangeShapes Go.WideShapes Go.ChangeAt Go.RowKit Go.WideElems
set_option linter.unusedVariables false
set_option linter.unusedSimpArgs false
set_option maxRecDepth 100000
set_option maxHeartbeats 4000000
theorem below_trodAll {H : Type} {enc : TypeId × Value → H} {P : Program} (hl : laidOutB P = true) {W W' : World} (hb : Below W.heap.size W W') {sp : Nat → Bool} :
  ∀ {ts : List TypeId} {vs : List Value} {ds : List (DataW H)} {ps : List MemPlace}, (∀ t ∈ ts, P.readableRec t = true ∧ t < P.types.size) → (∀ x ∈ ps, x.block < W.heap.size) → (∀ x ∈ ps, sp x.block = true) →
   DataW.TrodAll enc P W 0 (fun _ => true) true ts vs ds ps → DataW.TrodAll enc P W' 0 sp true ts vs ds ps
 | [], vs, ds, ps, _, _, _, h => by
  obtain ⟨rfl, rfl, rfl⟩ := trodAll_nil h
  exact trodAll_mk0
 | t :: ts, vs, ds, ps, hr, hlt, hsp, h => by
  obtain ⟨v, vs1, d, ds1, a, b, rfl, rfl, rfl, h1, h2⟩ := trodAll_cons h
  have ih := below_trodAll hl hb (fun u hu => hr u (List.mem_cons_of_mem _ hu)) (fun x hx => hlt x (List.mem_append_right _ hx)) (fun x hx => hsp x (List.mem_append_right _ hx)) h2
  exact ⟨a, b, (WideElems.Trod_stays hl (hr t (List.mem_cons_self ..)).1 (hr t (List.mem_cons_self ..)).2 h1 (fun x hx => hb.same (hlt x (List.mem_append_left _ hx))) (fun x hx => hsp x (List.mem_append_left _ hx))), ih, rfl⟩
theorem row_true {H : Type} {enc : TypeId × Value → H} {P : Program} (hl : laidOutB P = true) {f : Func} {s : ChangeSpec} {W W' : World} {args : Array Value} {ds gs : List (DataW H)} {before : List MemPlace} {t : TypeId}
  (hW : DataW.Whole enc P f.params.toList s.vars false W args.toList ds gs before) (hv : s.vars = []) (hs : (s.fn H ds).results = [.lit (.bool true)] ∧ (s.fn H ds).args = ds ∧ (s.fn H ds).vars = [])
  (hr : ∀ t ∈ f.params.toList, P.readableRec t = true ∧ t < P.types.size) (hres : f.resultTypes = #[t]) (ht : P.underlying t = some .bool) (hb : Below W.heap.size W W') :
  s.post enc P f false true false false W args (.bool true) W' := by
 have hW' := hW
 have hlt : ∀ x ∈ before, x.block < W.heap.size := fun x hx => by simpa using hW'.lt x hx
 obtain ⟨p, q, hA, hV, rfl, _, _⟩ := hW
 rw [hv] at hV
 obtain ⟨rfl, rfl⟩ := trodVars_none hV
 obtain ⟨s1, s2, s3⟩ := hs
 simp only [List.append_nil] at hlt hW'
 refine ⟨ds, [], p, [], p, [], hW', ?_, ?_, ?_, hb.frame _, fun h => by cases h⟩
 ·rw [List.append_nil, s1, hres]
  exact trodAll_mk1 (shut_bool ht true)
 ·rw [List.append_nil, s2]
  exact below_trodAll hl hb hr hlt (fun x hx => by simpa using hlt x hx) hA
 ·rw [List.append_nil, s3, hv]
  exact rfl
def hpOf (W : World) : Hp := fun b => W.heap[b]?
structure Rd {α : Type} (κ : K α) (P : Program) (t : TypeId) (val : α → Prop) : Prop where
 sz : P.cellsOf t = κ.sz
 pos : 0 < κ.sz
 rd : ∀ {H : Type} {enc : TypeId × Value → H} {W : World} {n : Nat} {cs : List Value} {x : DataW H × List MemPlace}, DataW.trod enc P W 0 (fun _ => true) true n t cs = some x → ∃ y, κ.rep (hpOf W) y cs ∧ val y
theorem Rd.int {P : Program} {t : TypeId} {k : IntKind} (ht : P.underlying t = some (.int k)) (hc : P.cellsOf t = 1) : Rd (kInt k) P t (fun n => (Lit.int k n).wf = true) :=
 ⟨hc, Nat.one_pos, fun h => by obtain ⟨n, rfl, _, hw⟩ := DataW.trod_int ht h; exact ⟨n, rfl, hw⟩⟩
theorem Rd.bool {P : Program} {t : TypeId} (ht : P.underlying t = some .bool) (hc : P.cellsOf t = 1) : Rd kBool P t (fun _ => True) :=
 ⟨hc, Nat.one_pos, fun h => by obtain ⟨b, rfl, _⟩ := DataW.trod_bool ht h; exact ⟨b, rfl, trivial⟩⟩
theorem cell_cells {W : World} {a : Addr} {v : Value} (h : W.cell? a = some v) : ∃ arr e fr, W.heap[a.block]? = some (.cells arr e fr) ∧ a.spot = none ∧ arr[a.off]? = some v := by
 unfold World.cell? at h
 split at h
 ·rename_i c e fr hh
  split at h
  ·cases h
  ·rename_i hs
   refine ⟨c, e, fr, hh, ?_, h⟩
   cases hsp : a.spot with
   | none => rfl
   | some x => rw [hsp] at hs; simp at hs
 ·cases h
theorem addr_add2 (a : Addr) (i j : Nat) : (a.add i).add j = a.add (i + j) := by
 unfold Addr.add
 by_cases hi : i = 0 <;> by_cases hj : j = 0 <;> simp [hi, hj, Nat.add_assoc]
theorem row_cells {α : Type} {κ : K α} {W : World} {a : Addr} {val : α → Prop} : ∀ (len : Nat), (∀ i, i < len → ∃ cs', W.cells? 0 (a.add (i * κ.sz)) κ.sz = some cs' ∧ ∃ y, κ.rep (hpOf W) y cs' ∧ val y) →
  ∃ (ys : List α) (cs : List Value), ys.length = len ∧ cells κ (hpOf W) ys cs ∧ cs.length = len * κ.sz ∧ (∀ j, j < len * κ.sz → W.cell? (a.add j) = cs[j]?) ∧ ∀ y ∈ ys, val y
 | 0, _ => ⟨[], [], rfl, rfl, by simp, fun j hj => by simp at hj, fun y hy => by cases hy⟩
 | len + 1, h => by
  obtain ⟨ys, cs, h1, h2, h3, h4, h5⟩ := row_cells len fun i hi => h i (by omega)
  obtain ⟨cs', g1, y, g2, g3⟩ := h len (by omega)
  obtain ⟨_, q2, q3⟩ := World.cells?_some g1
  refine ⟨ys ++ [y], cs ++ cs', by simp [h1], cells.append (show cells κ (hpOf W) [y] cs' from ⟨cs', [], by simp, g2, rfl⟩) h2, by rw [List.length_append, h3, q2, Nat.add_mul, Nat.one_mul], fun j hj => ?_, fun z hz => ?_⟩
  ·by_cases hjl : j < len * κ.sz
   ·rw [List.getElem?_append_left (by omega)]; exact h4 j hjl
   ·rw [List.getElem?_append_right (by omega), h3]
    have := q3 (j - len * κ.sz) (by rw [Nat.add_mul, Nat.one_mul] at hj; omega)
    rw [← this, addr_add2]
    congr 2
    omega
  ·rcases List.mem_append.1 hz with q | q
   ·exact h5 z q
   ·rw [List.mem_singleton.1 q]; exact g3
theorem Rd.slice {α : Type} {κ : K α} {P : Program} {t e : TypeId} {val : α → Prop} (R : Rd κ P e val) (ht : P.underlying t = some (.slice e)) (hc : P.cellsOf t = 1) : Rd (kSl κ) P t (fun xs => xs.length ≤ maxLen ∧ ∀ x ∈ xs, val x) := by
 refine ⟨hc, Nat.one_pos, fun {H enc W n cs x} h => ?_⟩
 rcases Go.Deep.open_slice ht h with ⟨rfl, _⟩ | ⟨a, len, cap, m, n', D, Pl, rfl, _, h1, h2, h3, _, h4⟩
 ·exact ⟨[], ⟨none, 0, rfl, Nat.le_refl _, fun _ => rfl, .inl rfl⟩, by simp, fun x hx => by cases hx⟩
 ·simp only [if_true] at h3
  rw [R.sz] at h4
  obtain ⟨ys, cs, g1, g2, g3, g4, g5⟩ := row_cells (κ := κ) (val := val) (a := a) (W := W) len fun i hi => by
   obtain ⟨cs', z1, z2⟩ := h4 i (by omega)
   exact ⟨cs', z1, R.rd z2⟩
  refine ⟨ys, ⟨some a, cap, by rw [g1], by omega, (fun h => by cases h), ?_⟩, by omega, g5⟩
  by_cases hl : len = 0
  ·exact .inl (List.eq_nil_of_length_eq_zero (by omega))
  ·right
   have hpos := R.pos
   have hm : 0 < len * κ.sz := Nat.mul_pos (by omega) hpos
   have hc0 : ∃ v, W.cell? (a.add 0) = some v := by
    rw [g4 0 hm]; exact ⟨cs[0]'(by omega), List.getElem?_eq_getElem (by omega)⟩
   obtain ⟨v, hv⟩ := hc0
   have ha0 : a.add 0 = a := by simp [Addr.add]
   rw [ha0] at hv
   obtain ⟨arr, e', fr, k1, k2, k3⟩ := cell_cells hv
   obtain ⟨b, o, sp⟩ := a
   simp only at k1 k2 k3
   subst k2
   refine ⟨b, o, arr, e', fr, rfl, k1, cs, g2, fun j v hj => ?_⟩
   have hjl : j < len * κ.sz := by
    rcases Nat.lt_or_ge j cs.length with q | q
    ·omega
    ·rw [List.getElem?_eq_none q] at hj; cases hj
   have := g4 j hjl
   rw [hj, add_eA, eA_some] at this
   simpa [World.cell?, k1] using this
theorem Rd.iso {α β : Type} {κ : K α} {P : Program} {t : TypeId} {val : α → Prop} {val' : β → Prop} {f : β → α} {g : α → β} (R : Rd κ P t val) (hfg : ∀ a, f (g a) = a) (hv : ∀ a, val a → val' (g a)) : Rd (kIso κ f) P t val' :=
 ⟨R.sz, R.pos, fun h => by
  obtain ⟨y, h1, h2⟩ := R.rd h
  exact ⟨g y, by show κ.rep _ (f (g y)) _; rw [hfg]; exact h1, hv y h2⟩⟩
def RdF {α : Type} (κ : K α) (P : Program) (fs : List Field) (off : Nat) (val : α → Prop) : Prop :=
 ∀ {H : Type} {enc : TypeId × Value → H} {W : World} {cs : List Value}, (∀ f ∈ fs, ∃ n x, DataW.trod (H := H) enc P W 0 (fun _ => true) true n f.type ((cs.drop f.offset).take (P.cellsOf f.type)) = some x) → ∃ y, κ.rep (hpOf W) y ((cs.drop off).take κ.sz) ∧ val y
theorem RdF.last {α : Type} {κ : K α} {P : Program} {f : Field} {off : Nat} {val : α → Prop} (R : Rd κ P f.type val) (ho : f.offset = off) : RdF κ P [f] off val := fun {H enc W cs} h => by
 obtain ⟨n, x, h⟩ := h f (List.mem_singleton.2 rfl)
 rw [R.sz, ho] at h
 exact R.rd h
theorem RdF.cons {α β : Type} {κ : K α} {μ : K β} {P : Program} {f : Field} {fs : List Field} {off : Nat} {val : α → Prop} {val' : β → Prop} (R : Rd κ P f.type val) (ho : f.offset = off) (R' : RdF μ P fs (off + κ.sz) val') :
  RdF (kPair κ μ) P (f :: fs) off (fun p => val p.1 ∧ val' p.2) := fun {H enc W cs} h => by
 obtain ⟨y', g1, g2⟩ := R' (cs := cs) fun f' hf => h f' (List.mem_cons_of_mem _ hf)
 obtain ⟨n, x, h⟩ := h f (List.mem_cons_self ..)
 rw [R.sz, ho] at h
 obtain ⟨y, h1, h2⟩ := R.rd h
 refine ⟨(y, y'), ⟨_, _, ?_, h1, g1⟩, h2, g2⟩
 show List.take (κ.sz + μ.sz) _ = _
 rw [List.take_add, List.drop_drop]
theorem Rd.struct {α : Type} {κ : K α} {P : Program} {t : TypeId} {fs : Array Field} {val : α → Prop} (ht : P.underlying t = some (.struct fs)) (hc : P.cellsOf t = κ.sz) (hp : 0 < κ.sz) (R : RdF κ P fs.toList 0 val) : Rd κ P t val :=
 ⟨hc, hp, fun {H enc W n cs x} h => by
  obtain ⟨xs, n, _, rfl, hl, hlen, hf⟩ := DataW.trod_struct ht h
  obtain ⟨y, h1, h2⟩ := R (cs := cs) (enc := enc) (W := W) fun f hfm => by
   obtain ⟨i, hi⟩ := List.mem_iff_getElem?.1 hfm
   have h1 := hf i f (by simpa using hi)
   have hil : i < xs.length := by
    rw [hlen]
    rcases Nat.lt_or_ge i fs.toList.length with q | q
    ·simpa using q
    ·rw [List.getElem?_eq_none q] at hi; cases hi
   exact ⟨n, xs[i], by rw [h1]; exact List.getElem?_eq_getElem hil⟩
  refine ⟨y, ?_, h2⟩
  rw [List.drop_zero, List.take_of_length_le (by omega)] at h1
  exact h1⟩
theorem SL.start {W : World} : ∀ (As : List Atom), (∀ A ∈ As, A.holds (env W) (hpOf W) Hp.zero) → SL (As ++ [X.snap W]) W := by
 intro As h
 have key : ∀ (As : List Atom), (∀ A ∈ As, A.holds (env W) (hpOf W) Hp.zero) → sats (env W) (hpOf W) (As ++ [X.snap W]) Hp.zero := by
  intro As
  induction As with
  | nil => intro _; exact ⟨Hp.zero, Hp.zero, Hp.zero_dj _, Hp.le_refl _, Hp.le_refl _, ⟨rfl, fun b o e => e⟩, trivial⟩
  | cons A As ih =>
   intro h
   exact ⟨Hp.zero, Hp.zero, Hp.zero_dj _, Hp.le_refl _, Hp.le_refl _, h A (List.mem_cons_self ..), ih fun B hB => h B (List.mem_cons_of_mem _ hB)⟩
 exact ⟨hpOf W, Hp.zero, fun b o e => e, (fun _ _ e => by cases e), Hp.dj_symm (Hp.zero_dj _), key As h⟩
theorem SL.done {l : List Atom} {W W' : World} (S : SL (l ++ [X.snap W]) W') : Below W.heap.size W W' := SL.below (L := []) (SL.dropL S)
end Go.Proofs.Ytghpokmkhlmgcaa.X
namespace Go.Proofs.Ytghpokmkhlmgcaa.X
open Go Go.ChangeShapes Go.WideShapes Go.ChangeAt Go.RowKit Go.WideElems Go.Proofs.Ytghpokmkhlmgcaa
set_option linter.unusedVariables false
set_option linter.unusedSimpArgs false
set_option maxRecDepth 100000
set_option maxHeartbeats 4000000
theorem bulk_one {H : Type} (d : DataW H) : 1 ≤ Rows.uptoBulk d := by
 cases d with
 | lit l => cases l <;> simp [Rows.uptoBulk]
 | nil => simp [Rows.uptoBulk]
 | ptr d => simp [Rows.uptoBulk]
 | slice elems spare => simp [Rows.uptoBulk]
 | agg parts => simp [Rows.uptoBulk]
 | iface t d => simp [Rows.uptoBulk]
 | map entries => simp [Rows.uptoBulk]
 | held h => simp [Rows.uptoBulk]
theorem bulk_part {H : Type} {d : DataW H} {l : List (DataW H)} (h : d ∈ l) : Rows.uptoBulk d ≤ Rows.uptoBulkAll l := by
 induction l with
 | nil => cases h
 | cons x r ih =>
  simp only [Rows.uptoBulkAll]
  rcases List.mem_cons.1 h with e | e
  ·subst e; omega
  ·have := ih e; omega
theorem bulk_len {H : Type} (l : List (DataW H)) : l.length ≤ Rows.uptoBulkAll l := by
 induction l with
 | nil => simp [Rows.uptoBulkAll]
 | cons x r ih => have := bulk_one x; simp only [Rows.uptoBulkAll, List.length_cons]; omega
structure Rb {α : Type} (κ : K α) (P : Program) (t : TypeId) (val : Nat → α → Prop) : Prop where
 sz : P.cellsOf t = κ.sz
 pos : 0 < κ.sz
 mono : ∀ {m n : Nat} {a : α}, m ≤ n → val m a → val n a
 rd : ∀ {H : Type} {enc : TypeId × Value → H} {W : World} {n : Nat} {cs : List Value} {x : DataW H × List MemPlace}, DataW.trod enc P W 0 (fun _ => true) true n t cs = some x → ∃ y, κ.rep (hpOf W) y cs ∧ val (Rows.uptoBulk x.1) y
theorem Rb.int {P : Program} {t : TypeId} {k : IntKind} (ht : P.underlying t = some (.int k)) (hc : P.cellsOf t = 1) : Rb (kInt k) P t (fun _ n => (Lit.int k n).wf = true) :=
 ⟨hc, Nat.one_pos, fun _ h => h, fun h => by obtain ⟨n, rfl, _, hw⟩ := DataW.trod_int ht h; exact ⟨n, rfl, hw⟩⟩
theorem Rb.bool {P : Program} {t : TypeId} (ht : P.underlying t = some .bool) (hc : P.cellsOf t = 1) : Rb kBool P t (fun _ _ => True) :=
 ⟨hc, Nat.one_pos, fun _ h => h, fun h => by obtain ⟨b, rfl, _⟩ := DataW.trod_bool ht h; exact ⟨b, rfl, trivial⟩⟩
theorem Rb.slice {α : Type} {κ : K α} {P : Program} {t e : TypeId} {val : Nat → α → Prop} (R : Rb κ P e val) (ht : P.underlying t = some (.slice e)) (hc : P.cellsOf t = 1) : Rb (kSl κ) P t (fun n xs => xs.length ≤ n ∧ ∀ x ∈ xs, val n x) := by
 refine ⟨hc, Nat.one_pos, fun a b => ⟨Nat.le_trans b.1 a, fun x hx => R.mono a (b.2 x hx)⟩, fun {H enc W n cs x} h => ?_⟩
 rcases Go.Deep.open_slice ht h with ⟨rfl, hx⟩ | ⟨a, len, cap, m, n', D, Pl, rfl, _, h1, h2, h3, hx, h4⟩
 ·exact ⟨[], ⟨none, 0, rfl, Nat.le_refl _, fun _ => rfl, .inl rfl⟩, by simp, fun x hx => by cases hx⟩
 ·simp only [if_true] at h3
  rw [R.sz] at h4
  have hb : ∀ i, i < len → Rows.uptoBulk (D i) ≤ Rows.uptoBulk x.1 := fun i hi => by
   rw [hx]
   simp only [Rows.uptoBulk]
   have := bulk_part (d := D i) (l := (List.range len).map D) (List.mem_map.2 ⟨i, List.mem_range.2 hi, rfl⟩)
   omega
  have hbl : len ≤ Rows.uptoBulk x.1 := by
   rw [hx]
   simp only [Rows.uptoBulk]
   have := bulk_len ((List.range len).map D)
   rw [List.length_map, List.length_range] at this
   omega
  obtain ⟨ys, cs, g1, g2, g3, g4, g5⟩ := row_cells (κ := κ) (val := val (Rows.uptoBulk x.1)) (a := a) (W := W) len fun i hi => by
   obtain ⟨cs', z1, z2⟩ := h4 i (by omega)
   obtain ⟨y, y1, y2⟩ := R.rd z2
   exact ⟨cs', z1, y, y1, R.mono (hb i hi) y2⟩
  refine ⟨ys, ⟨some a, cap, by rw [g1], by omega, (fun h => by cases h), ?_⟩, by omega, g5⟩
  by_cases hl : len = 0
  ·exact .inl (List.eq_nil_of_length_eq_zero (by omega))
  ·right
   have hpos := R.pos
   have hm : 0 < len * κ.sz := Nat.mul_pos (by omega) hpos
   have hc0 : ∃ v, W.cell? (a.add 0) = some v := by
    rw [g4 0 hm]; exact ⟨cs[0]'(by omega), List.getElem?_eq_getElem (by omega)⟩
   obtain ⟨v, hv⟩ := hc0
   have ha0 : a.add 0 = a := by simp [Addr.add]
   rw [ha0] at hv
   obtain ⟨arr, e', fr, k1, k2, k3⟩ := cell_cells hv
   obtain ⟨b, o, sp⟩ := a
   simp only at k1 k2 k3
   subst k2
   refine ⟨b, o, arr, e', fr, rfl, k1, cs, g2, fun j v hj => ?_⟩
   have hjl : j < len * κ.sz := by
    rcases Nat.lt_or_ge j cs.length with q | q
    ·omega
    ·rw [List.getElem?_eq_none q] at hj; cases hj
   have := g4 j hjl
   rw [hj, add_eA, eA_some] at this
   simpa [World.cell?, k1] using this
theorem Rb.iso {α β : Type} {κ : K α} {P : Program} {t : TypeId} {val : Nat → α → Prop} {val' : Nat → β → Prop} {f : β → α} {g : α → β} (R : Rb κ P t val) (hfg : ∀ a, f (g a) = a) (hv : ∀ n a, val n a → val' n (g a)) (hm : ∀ {m n : Nat} {a : β}, m ≤ n → val' m a → val' n a) : Rb (kIso κ f) P t val' :=
 ⟨R.sz, R.pos, hm, fun h => by
  obtain ⟨y, h1, h2⟩ := R.rd h
  exact ⟨g y, by show κ.rep _ (f (g y)) _; rw [hfg]; exact h1, hv _ y h2⟩⟩
structure RbF {α : Type} (κ : K α) (P : Program) (fs : List Field) (off : Nat) (val : Nat → α → Prop) : Prop where
 mono : ∀ {m n : Nat} {a : α}, m ≤ n → val m a → val n a
 rd : ∀ {H : Type} {enc : TypeId × Value → H} {W : World} {cs : List Value} {N : Nat}, (∀ f ∈ fs, ∃ n x, DataW.trod (H := H) enc P W 0 (fun _ => true) true n f.type ((cs.drop f.offset).take (P.cellsOf f.type)) = some x ∧ Rows.uptoBulk x.1 ≤ N) → ∃ y, κ.rep (hpOf W) y ((cs.drop off).take κ.sz) ∧ val N y
theorem RbF.last {α : Type} {κ : K α} {P : Program} {f : Field} {off : Nat} {val : Nat → α → Prop} (R : Rb κ P f.type val) (ho : f.offset = off) : RbF κ P [f] off val := ⟨R.mono, fun {H enc W cs N} h => by
 obtain ⟨n, x, h, hx⟩ := h f (List.mem_singleton.2 rfl)
 rw [R.sz, ho] at h
 obtain ⟨y, h1, h2⟩ := R.rd h
 exact ⟨y, h1, R.mono hx h2⟩⟩
theorem RbF.cons {α β : Type} {κ : K α} {μ : K β} {P : Program} {f : Field} {fs : List Field} {off : Nat} {val : Nat → α → Prop} {val' : Nat → β → Prop} (R : Rb κ P f.type val) (ho : f.offset = off) (R' : RbF μ P fs (off + κ.sz) val') :
  RbF (kPair κ μ) P (f :: fs) off (fun n p => val n p.1 ∧ val' n p.2) := ⟨fun h k => ⟨R.mono h k.1, R'.mono h k.2⟩, fun {H enc W cs N} h => by
 obtain ⟨y', g1, g2⟩ := R'.rd (cs := cs) fun f' hf => h f' (List.mem_cons_of_mem _ hf)
 obtain ⟨n, x, h, hx⟩ := h f (List.mem_cons_self ..)
 rw [R.sz, ho] at h
 obtain ⟨y, h1, h2⟩ := R.rd h
 refine ⟨(y, y'), ⟨_, _, ?_, h1, g1⟩, R.mono hx h2, g2⟩
 show List.take (κ.sz + μ.sz) _ = _
 rw [List.take_add, List.drop_drop]⟩
theorem Rb.struct {α : Type} {κ : K α} {P : Program} {t : TypeId} {fs : Array Field} {val : Nat → α → Prop} (ht : P.underlying t = some (.struct fs)) (hc : P.cellsOf t = κ.sz) (hp : 0 < κ.sz) (R : RbF κ P fs.toList 0 val) : Rb κ P t val :=
 ⟨hc, hp, R.mono, fun {H enc W n cs x} h => by
  obtain ⟨xs, n, _, rfl, hl, hlen, hf⟩ := DataW.trod_struct ht h
  obtain ⟨y, h1, h2⟩ := R.rd (cs := cs) (enc := enc) (W := W) (N := Rows.uptoBulk (.agg (xs.map (·.1)))) fun f hfm => by
   obtain ⟨i, hi⟩ := List.mem_iff_getElem?.1 hfm
   have h1 := hf i f (by simpa using hi)
   have hil : i < xs.length := by
    rw [hlen]
    rcases Nat.lt_or_ge i fs.toList.length with q | q
    ·simpa using q
    ·rw [List.getElem?_eq_none q] at hi; cases hi
   refine ⟨n, xs[i], by rw [h1]; exact List.getElem?_eq_getElem hil, ?_⟩
   have := bulk_part (d := xs[i].1) (l := xs.map (·.1)) (List.mem_map.2 ⟨xs[i], List.getElem_mem hil, rfl⟩)
   simp only [Rows.uptoBulk]
   omega
  refine ⟨y, ?_, h2⟩
  rw [List.drop_zero, List.take_of_length_le (by omega)] at h1
  exact h1⟩
end Go.Proofs.Ytghpokmkhlmgcaa.X
namespace Go.Proofs.Ytghpokmkhlmgcaa.X
open Go
set_option linter.unusedVariables false
set_option linter.unusedSimpArgs false
set_option maxRecDepth 100000
set_option maxHeartbeats 4000000
def Ok {R : Type} (x : Option R) (p : R → Prop) : Prop := ∃ r, x = some r ∧ p r
theorem ck_y {R : Type} {p : Prop} [Decidable p] {k : Option R} (h : p) : Ck p k = k := if_pos h
theorem if_y {R : Type} {b : Bool} {x y : Option R} (h : b = true) : If b x y = x := by rw [h]; rfl
theorem if_n {R : Type} {b : Bool} {x y : Option R} (h : b = false) : If b x y = y := by rw [h]; rfl
@[simp] theorem bd_some {S R : Type} {s : S} {k : S → Option R} : Bd (some s) k = k s := rfl
@[simp] theorem if_t {R : Type} {x y : Option R} : If true x y = x := rfl
@[simp] theorem if_f {R : Type} {x y : Option R} : If false x y = y := rfl
namespace Ok
variable {R S : Type} {p : R → Prop}
theorem some {r : R} (h : p r) : Ok (some r) p := ⟨r, rfl, h⟩
theorem ck {c : Prop} [Decidable c] {k : Option R} (h : c) (n : Ok k p) : Ok (Ck c k) p := by rw [ck_y h]; exact n
theorem ite {b : Bool} {x y : Option R} (h : b = true → Ok x p) (n : b = false → Ok y p) : Ok (If b x y) p := by
 cases b
 ·exact n rfl
 ·exact h rfl
theorem y {b : Bool} {x y : Option R} (e : b = true) (h : Ok x p) : Ok (If b x y) p := by rw [if_y e]; exact h
theorem n {b : Bool} {x y : Option R} (e : b = false) (h : Ok y p) : Ok (If b x y) p := by rw [if_n e]; exact h
theorem bd {q : S → Prop} {x : Option S} {k : S → Option R} (h : Ok x q) (n : ∀ s, q s → Ok (k s) p) : Ok (Bd x k) p := by
 obtain ⟨s, rfl, hs⟩ := h
 exact n s hs
theorem of {x : Option R} {r : R} (h : x = Option.some r) (n : p r) : Ok x p := ⟨r, h, n⟩
theorem imp {q : R → Prop} {x : Option R} (h : Ok x p) (n : ∀ r, p r → q r) : Ok x q := by obtain ⟨r, e, h⟩ := h; exact ⟨r, e, n r h⟩
end Ok
theorem wI {x : Int} (h : -9223372036854775808 ≤ x ∧ x ≤ 9223372036854775807) : wr .i64 x = x := IntWalk.i64_in x h
theorem wU {x : Int} (h : 0 ≤ x ∧ x ≤ 18446744073709551615) : wr .u64 x = x := IntWalk.u64_in x h
theorem wB (x : Int) : wr .u8 x = x % 256 := IntKind.wrap_u8 x
theorem wW (x : Int) : wr .u32 x = x % 4294967296 := IntKind.wrap_u32 x
theorem wU' (x : Int) : wr .u64 x = x % 18446744073709551616 := by show IntKind.wrap _ _ = _; simp [IntKind.wrap, IntKind.bits, IntKind.signed]
theorem tmod_nn {a b : Int} (h : 0 ≤ a) : Int.tmod a b = a % b := Int.tmod_eq_emod_of_nonneg h
theorem tdiv_nn {a b : Int} (h : 0 ≤ a) : Int.tdiv a b = a / b := Int.tdiv_eq_ediv_of_nonneg h
theorem shr_d (k : IntKind) (x : Int) (n : Nat) (h : n ≤ k.bits) : sShr k x n = x / 2 ^ n := by
 unfold sShr
 rw [show min (Int.toNat (n : Int)) k.bits = n by omega, Int.fdiv_eq_ediv_of_nonneg _ (by exact_mod_cast Nat.zero_le _)]
def Bys (xs : List Int) : Prop := ∀ x ∈ xs, 0 ≤ x ∧ x < 256
theorem Bys.nil : Bys [] := fun _ h => by cases h
theorem Bys.cons {x : Int} {xs : List Int} (h : 0 ≤ x ∧ x < 256) (hs : Bys xs) : Bys (x :: xs) := fun y hy => by
 rcases List.mem_cons.1 hy with rfl | hy
 ·exact h
 ·exact hs y hy
theorem Bys.app {xs ys : List Int} (h : Bys xs) (k : Bys ys) : Bys (xs ++ ys) := fun y hy => (List.mem_append.1 hy).elim (h y) (k y)
theorem Bys.left {xs ys : List Int} (h : Bys (xs ++ ys)) : Bys xs := fun y hy => h y (List.mem_append_left _ hy)
theorem Bys.right {xs ys : List Int} (h : Bys (xs ++ ys)) : Bys ys := fun y hy => h y (List.mem_append_right _ hy)
theorem Bys.drop {xs : List Int} (h : Bys xs) (n : Nat) : Bys (xs.drop n) := fun y hy => h y (List.mem_of_mem_drop hy)
theorem Bys.take {xs : List Int} (h : Bys xs) (n : Nat) : Bys (xs.take n) := fun y hy => h y (List.mem_of_mem_take hy)
theorem Bys.cut {xs : List Int} (h : Bys xs) (n m : Nat) : Bys (cut xs n m) := (h.take m).drop n
theorem gi_nat {α : Type} (d : α) (xs : List α) (i : Nat) (h : i < xs.length) : gi d xs (i : Int) = xs[i] := by simp [gi, h]
theorem Bys.gi {xs : List Int} (h : Bys xs) (i : Int) : 0 ≤ gi 0 xs i ∧ gi 0 xs i < 256 := by
 unfold X.gi
 cases e : xs[i.toNat]? with
 | none => simp
 | some x => exact h x (List.mem_of_getElem? e)
theorem ba_loop (b : ByteArray) : ∀ (n i : Nat) (r : List UInt8), b.size - i = n → ByteArray.toList.loop b i r = r.reverse ++ b.data.toList.drop i
 | 0, i, r, h => by
  unfold ByteArray.toList.loop
  have : ¬ i < b.size := by omega
  rw [if_neg this, List.drop_eq_nil_of_le (by simp [← ByteArray.size_data] at this ⊢; omega), List.append_nil]
 | n + 1, i, r, h => by
  unfold ByteArray.toList.loop
  have hi : i < b.size := by omega
  rw [if_pos hi, ba_loop b n (i + 1) _ (by omega)]
  have hd : i < b.data.toList.length := by simpa [← ByteArray.size_data] using hi
  rw [List.drop_eq_getElem_cons hd, List.reverse_cons, List.append_assoc]
  have hg : b.get! i = b.data.toList[i] := by
   cases b with
   | mk d =>
    show d[i]! = _
    rw [getElem!_pos d i (by simpa using hd)]
    simp
  rw [hg]
  rfl
theorem ba_toList (b : ByteArray) : b.toList = b.data.toList := by
 unfold ByteArray.toList
 rw [ba_loop b _ 0 [] rfl]
 rfl
theorem bstr_inj {xs ys : List Int} (hx : Bys xs) (hy : Bys ys) : ((bstr xs).toList == (bstr ys).toList) = decide (xs = ys) := by
 have key : ∀ zs : List Int, (bstr zs).toList = zs.map fun n => UInt8.ofNat n.toNat := by
  intro zs
  rw [ba_toList]
  simp [bstr]
 rw [key, key]
 have hinj : ∀ {xs ys : List Int}, Bys xs → Bys ys → xs.map (fun n => UInt8.ofNat n.toNat) = ys.map (fun n => UInt8.ofNat n.toNat) → xs = ys := by
  intro xs
  induction xs with
  | nil => intro ys _ _ h; cases ys with
   | nil => rfl
   | cons y ys => simp at h
  | cons x xs ih => intro ys h1 h2 h; cases ys with
   | nil => simp at h
   | cons y ys =>
    simp only [List.map_cons, List.cons.injEq] at h
    have a := h1 x (List.mem_cons_self ..)
    have b := h2 y (List.mem_cons_self ..)
    have e : (UInt8.ofNat x.toNat).toNat = (UInt8.ofNat y.toNat).toNat := by rw [h.1]
    simp only [UInt8.toNat_ofNat'] at e
    have : x = y := by omega
    rw [this, ih (fun z hz => h1 z (List.mem_cons_of_mem _ hz)) (fun z hz => h2 z (List.mem_cons_of_mem _ hz)) h.2]
 by_cases e : xs = ys
 ·simp [e]
 ·have : ¬ (xs.map (fun n => UInt8.ofNat n.toNat) = ys.map (fun n => UInt8.ofNat n.toNat)) := fun h => e (hinj hx hy h)
  simp [e]
  exact fun h => e (hinj hx hy (by simpa using h))
def ob (b : Nat) (o : Obj) : Atom where
 holds _ _ h := h b = some o
 mono _ h := h
theorem SL.obH {b : Nat} {o : Obj} {L : List Atom} {w : World} (S : SL (ob b o :: L) w) : w.heap[b]? = some o := by
 obtain ⟨G, h, H, _, a2, _, _, _, _, g, _⟩ := S.front
 exact a2 b o g
theorem SL.obP {b : Nat} {o : Obj} {L : List Atom} {w : World} (S : SL (ob b o :: L) w) (o' : Obj) : SL (ob b o' :: L) (w.putObj b o') :=
 SL.put (B := ob b o') b o' S fun G h _ _ g => ⟨⟨o, g⟩, by show (if b = b then some o' else h b) = some o'; simp⟩
theorem SL.obN {L : List Atom} {w : World} (S : SL L w) (o : Obj) : SL (ob w.heap.size o :: L) (w.alloc o) :=
 SL.new S o fun _ _ => by show (if w.heap.size = w.heap.size then some o else none) = some o; simp
section
variable {P : Program} {ops : Array Oper} {N : Act → World → Prop} {rest : List Oper} {n : Nat} {t : List (Nat × Value)} {a : Act} {w : World}
variable {d : Nat} {ty : TypeId} {pos : String} {after : Array Edge} {L : List Atom} {k : List Item} {R : Ending → World → Prop}
abbrev mark (D : Nat) : List Deferred := [{ target := .collected D, args := #[] }]
abbrev rdy (f : FuncId) (a : Act) (ps : Array Tmp) (assign body : Code) (D : Nat) (st : LoopState) (pending : Option Code) : Loop :=
 { state := st, pending := pending, fn := f, tmps := a.tmps, params := ps, assign := assign, body := body, defers := D }
theorem Gets.range {f : FuncId} {g : Operand} {ps : Array Tmp} {assign body : Code} {gf : FuncId} {cs : List Value} {RI : Nat → Ending → World → Prop} (T : Tm n t a) (S : SL L w)
  (hg : ev t g = some (.func (.func gf) #[] cs.toArray)) (hc : ∀ args w, (callFunc gf args).run P w = .ok (.enter gf args) w)
  (h : ∀ (D : Nat) (w1 : World), SL (ob D (.deferred (some [])) :: ob (D + 1) (.loop (rdy f a ps assign body D .ready none)) :: L) w1 → Calls P gf (.func (.yield (D + 1)) #[] #[] :: cs).toArray w1 (RI D))
  (hR : ∀ D e w2, RI D e w2 → ∃ v rec L2, e = .returned v ∧ SL (ob D (.deferred (some [])) :: ob (D + 1) (.loop rec) :: L2) w2 ∧ rec.state ≠ .busy ∧
   ∀ w3, SL (ob D (.deferred (some [])) :: L2) w3 → Gets P { fn := f, dfs := mark D } ((rec.pending.map Item.code).toList ++ k) a w3 R) :
  Gets P { fn := f } (.code (.rangeFunc g ps assign body) :: k) a w R := by
 intro b cs0 hf hk hro hcs
 obtain ⟨D, hD⟩ : ∃ D, w.heap.size = D := ⟨_, rfl⟩
 obtain ⟨w1, hw1⟩ : ∃ w1, (w.alloc (.deferred (some []))).alloc (.loop (rdy f a ps assign body D .ready none)) = w1 := ⟨_, rfl⟩
 have hsz : (w.alloc (.deferred (some []))).heap.size = D + 1 := by rw [World.size_alloc, hD]
 have S1 : SL (ob D (.deferred (some [])) :: ob (D + 1) (.loop (rdy f a ps assign body D .ready none)) :: L) w1 := by
  have q := (S.obN (.deferred (some []))).obN (.loop (rdy f a ps assign body D .ready none))
  rw [hsz, hD, hw1] at q
  exact q.perm (List.Perm.swap ..)
 have he : (Instr.enterLoop b.fn (Cls.up { fn := f } a).tmps ps assign body b.roundOf).run P w = .ok (D + 1, mark D) w1 := by
  rw [hro, hf, ← hw1, ← hD]
  exact run_enterLoop_outer _ _ _ _ _
 have hev : (Cls.up { fn := f } a).eval g = .func (.func gf) #[] cs.toArray := by rw [up_eval]; exact T.ev hg
 have hres : (resolve (Cls.up { fn := f } a).eval (rangeCall g (D + 1)) 0).run P w1 = .ok { target := .fn (.func gf) cs.toArray, args := #[.func (.yield (D + 1)) #[] #[]] } w1 := by
  simp only [resolve, hev]
  simp [go_sem]
 have hinv : (invoke (.fn (.func gf) cs.toArray) #[.func (.yield (D + 1)) #[] #[]]).run P w1 = .ok (.enter gf (.func (.yield (D + 1)) #[] #[] :: cs).toArray) w1 := by
  have e2 : (#[.func (.yield (D + 1)) #[] #[]] ++ cs.toArray : Array Value) = (.func (.yield (D + 1)) #[] #[] :: cs).toArray := by simp
  rw [← e2]
  simp [invoke, go_sem, hc]
 have henter := stepR_rangeFunc (P := P) (b := b) (a := Cls.up { fn := f } a) (k := k) (cs := cs0) (w := w) he hres hinv
 have hact : ({ Cls.up { fn := f } a with defers := mark D ++ (Cls.up { fn := f } a).defers } : Act) = Cls.up { fn := f, dfs := mark D } a := by
  simp [Cls.up, T.defers]
 rw [hact] at henter
 obtain ⟨e, w2, fr, hRI, hsteps, hfn, hleave⟩ := h D w1 S1 (b.atR (Cls.up { fn := f, dfs := mark D } a) (.inRangeFunc (D + 1) :: k) :: cs0)
 obtain ⟨v, rec, L2, rfl, S2, hst, hgo⟩ := hR D e w2 hRI
 have hl : w2.heap[D + 1]? = some (.loop rec) := (S2.perm (List.Perm.swap ..)).obH
 have S3 := ((S2.perm (List.Perm.swap ..)).obP (.loop { rec with state := .exhausted }))
 have S4 : SL (ob D (.deferred (some [])) :: L2) (w2.putObj (D + 1) (.loop { rec with state := .exhausted })) := SL.dropL (L := [ob (D + 1) (.loop { rec with state := .exhausted })]) S3
 obtain ⟨e, w4, m', hRR, hcomes, hout⟩ := hgo _ S4 b cs0 hf hk hro (fun h => by cases h)
 have sback : Steps P (lone (b.atR (Cls.up { fn := f } a) (.code (.rangeFunc g ps assign body) :: k)) cs0 w) (lone (b.atR (Cls.up { fn := f, dfs := mark D } a) ((rec.pending.map Item.code).toList ++ k)) cs0 (w2.putObj (D + 1) (.loop { rec with state := .exhausted }))) := by
  refine Steps.trans (.one henter) (Steps.trans hsteps ?_)
  have h1 := step_leave_returned (c := b.atR (Cls.up { fn := f, dfs := mark D } a) (.inRangeFunc (D + 1) :: k)) (cs := cs0) hleave
  rw [finish_atR_inRangeFunc] at h1
  exact Steps.trans (.one h1) (.one (stepR_endRangeFunc (run_endLoop hl hst)))
 refine ⟨e, w4, m', hRR, .of_steps sback hcomes, ?_⟩
 exact hout
theorem rtnD {f : FuncId} {D : Nat} {fn : Func} {rs : List ResultVar} {vs : List Value} (T : Tm n t a) (S : SL (ob D (.deferred (some [])) :: L) w) (hf : P.funcs[f]? = some fn) (hrs : fn.results = rs.toArray) (h : resv t rs = some vs)
  (hR : ∀ w', SL L w' → R (.returned (tupled vs)) w') : Gets P { fn := f, dfs := mark D } (.code .ret :: k) a w R := by
 intro b cs hb hk hro _
 have hD := S.obH
 have S2 : SL L (w.putObj D (.deferred none)) := SL.dropL (L := [ob D (.deferred none)]) (S.obP (.deferred none))
 refine ⟨.returned (tupled vs), w.putObj D (.deferred none), lone { b.atR (Cls.up { fn := f } a) (.code .ret :: k) with mode := .returning } cs (w.putObj D (.deferred none)), hR _ S2, ?_, { b.atR (Cls.up { fn := f } a) (.code .ret :: k) with mode := .returning }, rfl, hb, rfl, ?_, hk, fn, ?_, run_results T hrs h⟩
 ·have s1 : step P (lone (b.atR (Cls.up { fn := f, dfs := mark D } a) (.code .ret :: k)) cs w) = .next (lone { b.atR (Cls.up { fn := f, dfs := mark D } a) (.code .ret :: k) with mode := .returning } cs w) := by
   rw [Frame.atR_of_none hro]; exact step_ret
  have s2 := step_collected (P := P) (fr := { b.atR (Cls.up { fn := f, dfs := mark D } a) (.code .ret :: k) with mode := .returning }) (cs := cs) (w := w) (d := { target := .collected D, args := #[] }) (ds := []) (by simp) (by simp [Frame.atR, Cls.up, T.defers]) rfl (run_takeDeferred hD)
  refine Steps.trans (.one s1) (.one ?_)
  rw [s2]
  simp [Frame.atR, Cls.up, T.defers]
 ·simp [Frame.atR, Cls.up, T.defers]
 ·simpa [Frame.atR, hb] using hf
def Rnds (P : Program) (l : Nat) (args : Array Value) (w : World) (R : Ending → World → Prop) : Prop :=
 ∃ fn tmps assign body, (Instr.yield l args).run P w = .ok (.round l fn tmps assign body) w ∧ RoundIn Fence.wide 0 P l fn tmps assign body w R
theorem r_yield {l : Nat} {x : Operand} {args : Array Operand} {ts : Array TypeId} {vs : List Value} (T : Tm n t a) (hx : ev t x = some (.func (.yield l) #[] #[])) (ha : evs t args.toList = some vs) (hd : Nat.blt d n = true) (h : Rnds P l vs.toArray w R)
  (hR : ∀ e w', R e w' → ∃ v, e = .returned v ∧ ∀ a', Tm n ((d, v) :: t) a' → wpN true P ops N rest a' w') :
  wpN true P ops N (⟨some d, .call ⟨.value x, args, ts⟩, ty, pos, after, none⟩ :: rest) a w := by
 have e1 := T.evs ha
 have e2 : args.map a.eval = vs.toArray := Array.ext' (by simpa using e1)
 obtain ⟨fn, tmps, assign, body, hy, hr⟩ := h
 have hr0 : (execOp a.eval ⟨some d, .call ⟨.value x, args, ts⟩, ty, pos, after, none⟩).run P w = .ok (.round l fn tmps assign body) w := by
  simp only [execOp, resolve, T.ev hx, Deferred.ofValue, e2, Sem.run_bind, Sem.run_pure, Result.andThen_ok, invoke]
  simp [hy]
 simp only [wpN, Region.wanted, if_true, hr0, wpY]
 refine ⟨trivial, RoundIn.mono hr fun e w' q => ?_⟩
 obtain ⟨v, rfl, hv⟩ := hR e w' q
 exact ⟨_, rfl, hv _ (T.put hd _)⟩
theorem yields_of {l : Nat} {rec : Loop} {args tm : Array Value} (S : SL (ob l (.loop rec) :: L) w) (hs : args.size = rec.params.size) (ht : (rec.params.zip args).foldl (fun tmps (t, a) => tmps.setIfInBounds t a) rec.tmps = tm)
  (h : Gets P { fn := rec.fn, rnd := some l } [.code rec.assign, .beginRound, .code rec.body] { tmps := tm, defers := [] } w R) : Rnds P l args w R := by
 subst ht
 refine ⟨_, _, _, _, run_yield S.obH hs, trivial, fun c cs _ => ?_⟩
 let b : Frame := { (default : Frame) with fn := rec.fn, kind := .normal, roundOf := some l }
 have hb0 : Frame.round l rec.fn ((rec.params.zip args).foldl (fun tmps (t, a) => tmps.setIfInBounds t a) rec.tmps) rec.assign rec.body .normal =
   b.atR (Cls.up { fn := rec.fn, rnd := some l } { tmps := (rec.params.zip args).foldl (fun tmps (t, a) => tmps.setIfInBounds t a) rec.tmps, defers := [] }) [.code rec.assign, .beginRound, .code rec.body] := by
  simp [Frame.round, Frame.atR, b, Cls.up]
 obtain ⟨e, w', m', hR, hcomes, c0, cs', v, hcs, rfl, rfl⟩ := h b (c :: cs) rfl rfl rfl (fun _ h => by cases h)
 cases hcs
 rw [← hb0] at hcomes
 exact ⟨.returned v, w', hR, comesIn_wide.2 hcomes⟩
theorem Gets.begin {f : FuncId} {l : Nat} {rec : Loop} (S : SL (ob l (.loop rec) :: L) w) (hs : rec.state = .ready) (h : ∀ w', SL (ob l (.loop { rec with state := .busy }) :: L) w' → Gets P { fn := f, rnd := some l } k a w' R) :
  Gets P { fn := f, rnd := some l } (.beginRound :: k) a w R := by
 intro b cs hf hk hro hcs
 obtain ⟨e, w', m', hR, hcomes, hout⟩ := h _ (S.obP _) b cs hf hk hro hcs
 exact ⟨e, w', m', hR, .of_steps (.one (stepR_beginRound hro (run_beginRound S.obH hs))) hcomes, hout⟩
theorem Gets.roundEnd {f : FuncId} {l : Nat} {rec : Loop} (S : SL (ob l (.loop rec) :: L) w) (h : ∀ w', SL (ob l (.loop { rec with state := .ready, pending := none }) :: L) w' → R (.returned (.bool true)) w') :
  Gets P { fn := f, rnd := some l } [] a w R := by
 intro b cs hf hk hro hcs
 cases cs with
 | nil => exact absurd rfl (hcs rfl)
 | cons c cs =>
  refine ⟨.returned (.bool true), _, lone (c.finish (.bool true)) cs _, h _ (S.obP _), ?_, c, cs, _, rfl, rfl, rfl⟩
  exact Steps.one (stepR_round_end hro hk (run_endRound none S.obH))
theorem Gets.roundExit {f : FuncId} {l id : Nat} {rec : Loop} (S : SL (ob l (.loop rec) :: L) w) (hx : exitTo id k = none) (h : ∀ w', SL (ob l (.loop { rec with state := .done, pending := some (.exit id) }) :: L) w' → R (.returned (.bool false)) w') :
  Gets P { fn := f, rnd := some l } (.code (.exit id) :: k) a w R := by
 intro b cs hf hk hro hcs
 cases cs with
 | nil => exact absurd rfl (hcs rfl)
 | cons c cs =>
  refine ⟨.returned (.bool false), _, lone (c.finish (.bool false)) cs _, h _ (S.obP _), ?_, c, cs, _, rfl, rfl, rfl⟩
  exact Steps.one (stepR_round_exit hro hk hx (run_endRound (some (.exit id)) S.obH))
end
def bk : Option Addr → List Nat
 | none => []
 | some a => [a.block]
def holdL (M : List Atom) (G0 H0 : Hp) : Atom where
 holds E G h := G0.le G ∧ H0.le h ∧ G0.dj H0 ∧ sats E G0 M H0
 mono l h := ⟨Hp.le_trans h.1 l, h.2.1, h.2.2.1, h.2.2.2⟩
theorem SL.hold {M : List Atom} {w : World} (S : SL M w) : ∃ G0 H0, SL [holdL M G0 H0] w := by
 obtain ⟨G, H, a, b, c, s⟩ := S
 exact ⟨G, H, G, H, a, b, c, H, Hp.zero, Hp.dj_symm (Hp.zero_dj _), Hp.le_refl _, Hp.zero_le _, ⟨Hp.le_refl _, Hp.le_refl _, c, s⟩, trivial⟩
structure Pl where
 A : Option Addr
 c : Nat
 xs : List Int
abbrev k8 : K Int := kInt .u8
def rof (ys : List Pl) : Atom where
 holds _ G _ := ∀ y ∈ ys, owR k8 G G y.A y.c y.xs
 mono l h := fun y hy => by
  obtain ⟨h0, h | ⟨b, o, arr, e, fr, h1, h2, h3, h4, h5⟩⟩ := h y hy
  ·exact ⟨h0, .inl h⟩
  ·exact ⟨h0, .inr ⟨b, o, arr, e, fr, h1, l _ _ h2, h3, h4, h5.mono l⟩⟩
def bks (ys : List Pl) : List Nat := ys.flatMap fun y => bk y.A
structure Dis (G0 H0 : Hp) (ys : List Pl) : Prop where
 nd : (bks ys).Nodup
 g : ∀ b ∈ bks ys, G0 b = none
 h : ∀ b ∈ bks ys, H0 b = none
theorem cells_k8 {G G' : Hp} : ∀ {xs : List Int} {cs : List Value}, cells k8 G xs cs → cells k8 G' xs cs
 | [], _, h => h
 | _ :: _, _, ⟨c1, c2, e, h1, h2⟩ => ⟨c1, c2, e, h1, cells_k8 h2⟩
theorem owR_flat {G G' h h' : Hp} {A : Option Addr} {c : Nat} {xs : List Int} (l : ∀ b ∈ bk A, ∀ o, h b = some o → h' b = some o) (q : owR k8 G h A c xs) : owR k8 G' h' A c xs := by
 obtain ⟨h0, q | ⟨b, o, arr, e, fr, h1, h2, h3, h4, h5⟩⟩ := q
 ·exact ⟨h0, .inl q⟩
 ·refine ⟨h0, .inr ⟨b, o, arr, e, fr, h1, l b (by rw [h1]; simp [bk]) _ h2, h3, h4, ?_⟩⟩
  obtain ⟨cs, g1, g2⟩ := h5
  exact ⟨cs, cells_k8 g1, g2⟩
theorem owR_bk {G h : Hp} {A : Option Addr} {c : Nat} {xs : List Int} (q : owR k8 G h A c xs) : ∀ b ∈ bk A, ∃ o, h b = some o := by
 intro b hb
 obtain ⟨h0, ⟨q, _⟩ | ⟨b', o, arr, e, fr, h1, h2, _⟩⟩ := q
 ·rw [q] at hb; simp [bk] at hb
 ·rw [h1] at hb; simp [bk] at hb; subst hb; exact ⟨_, h2⟩
theorem owR_ro {G : Hp} {A : Option Addr} {c : Nat} {xs : List Int} (q : owR k8 G G A c xs) : roR k8 G A c xs := by
 obtain ⟨h0, ⟨q1, q2⟩ | ⟨b, o, arr, e, fr, h1, h2, h3, h4, h5⟩⟩ := q
 ·exact ⟨h0, fun _ => q2, .inl (List.eq_nil_of_length_eq_zero (by omega))⟩
 ·exact ⟨h0, fun h => (by rw [h1] at h; cases h), .inr ⟨b, o, arr, e, fr, h1, h2, h5⟩⟩
theorem bk_nd (A : Option Addr) : (bk A).Nodup := by cases A <;> simp [bk]
theorem bks_snoc (ys : List Pl) (y : Pl) : bks (ys ++ [y]) = bks ys ++ bk y.A := by simp [bks]
theorem SL.push {A : Option Addr} {c : Nat} {xs : List Int} {ys : List Pl} {M L : List Atom} {G0 H0 : Hp} {w : World} (S : SL (sl .own k8 A c xs :: rof ys :: holdL M G0 H0 :: L) w) (D : Dis G0 H0 ys) :
  Dis G0 H0 (ys ++ [⟨A, c, xs⟩]) ∧ SL (sl .ro k8 A c xs :: rof (ys ++ [⟨A, c, xs⟩]) :: holdL M G0 H0 :: L) w := by
 obtain ⟨G, h, H, a1, a2, a3, d1, d2, d3, g, h1, h1', e1, e2, e3, q1, h2, h2', e4, e5, e6, q2, s⟩ := S.front
 have hb : ∀ b ∈ bk A, (∃ o, h b = some o) ∧ G b = none ∧ H b = none := fun b hb => by
  obtain ⟨o, ho⟩ := owR_bk g b hb
  refine ⟨⟨o, ho⟩, ?_, ?_⟩
  ·rcases d1 b with z | z
   ·exact z
   ·rw [ho] at z; cases z
  ·rcases d3 b with z | z
   ·rw [ho] at z; cases z
   ·exact z
 have hys : ∀ b ∈ bks ys, ∃ o, G b = some o := fun b hb => by
  obtain ⟨y, hy, hb⟩ := List.mem_flatMap.1 hb
  exact owR_bk (q1 y hy) b hb
 refine ⟨⟨?_, ?_, ?_⟩, ?_⟩
 ·rw [bks_snoc]
  refine List.nodup_append.2 ⟨D.nd, bk_nd A, fun b h1 b' h2 e => ?_⟩
  subst e
  obtain ⟨o, ho⟩ := hys b h1
  rw [(hb b h2).2.1] at ho; cases ho
 ·rw [bks_snoc]
  intro b hbb
  rcases List.mem_append.1 hbb with z | z
  ·exact D.g b z
  ·cases hg : G0 b with
   | none => rfl
   | some o => have := q2.1 b o hg; rw [(hb b z).2.1] at this; cases this
 ·rw [bks_snoc]
  intro b hbb
  rcases List.mem_append.1 hbb with z | z
  ·exact D.h b z
  ·cases hg : H0 b with
   | none => rfl
   | some o => have := e3 b o (e5 b o (q2.2.1 b o hg)); rw [(hb b z).2.2] at this; cases this
 ·have own : owR k8 (G.un h) (G.un h) A c xs := owR_flat (fun b _ o ho => Hp.le_un_right d1 b o ho) g
  refine SL.back (G := G.un h) (h := Hp.zero) (H := H) ?_ (fun _ _ e => by cases e) a3 (Hp.dj_symm (Hp.zero_dj _)) (Hp.un_dj d2 d3) (Hp.zero_dj _) (owR_ro own) ⟨h1, h1', e1, e2, e3, ?_, sats_mono (Hp.le_un_left _ _) ⟨h2, h2', e4, e5, e6, q2, s⟩⟩
  ·intro x o y
   simp only [Hp.un] at y
   split at y
   ·rename_i o' ho; cases y; exact a1 x _ ho
   ·exact a2 x o y
  ·intro y hy
   rcases List.mem_append.1 hy with z | z
   ·exact owR_flat (fun b _ o ho => Hp.le_un_left _ _ b o ho) (q1 y z)
   ·rw [List.mem_singleton.1 z]; exact own
def own8 (ys : List Pl) : List Atom := ys.map fun y => sl .own k8 y.A y.c y.xs
def restr (G : Hp) (bs : List Nat) : Hp := fun b => if b ∈ bs then G b else none
theorem restr_le (G : Hp) (bs : List Nat) : (restr G bs).le G := fun b o e => by
 simp only [restr] at e
 split at e
 ·exact e
 ·cases e
theorem sats_own8 {E : Env} {G G0 : Hp} : ∀ {ys : List Pl}, (bks ys).Nodup → (∀ y ∈ ys, owR k8 G G y.A y.c y.xs) → sats E G0 (own8 ys) (restr G (bks ys))
 | [], _, _ => trivial
 | y :: ys, hn, h => by
  have hbs : bks (y :: ys) = bk y.A ++ bks ys := by simp [bks]
  rw [hbs] at hn ⊢
  obtain ⟨_, n2, n3⟩ := List.nodup_append.1 hn
  refine ⟨restr G (bk y.A), restr G (bks ys), ?_, ?_, ?_, ?_, sats_own8 n2 fun z hz => h z (List.mem_cons_of_mem _ hz)⟩
  ·intro b
   by_cases e : b ∈ bk y.A
   ·right
    simp only [restr]
    rw [if_neg fun e' => n3 b e b e' rfl]
   ·left; simp [restr, e]
  ·intro b o e
   simp only [restr] at e ⊢
   split at e
   ·rename_i hb; rw [if_pos (List.mem_append_left _ hb)]; exact e
   ·cases e
  ·intro b o e
   simp only [restr] at e ⊢
   split at e
   ·rename_i hb; rw [if_pos (List.mem_append_right _ hb)]; exact e
   ·cases e
  ·exact owR_flat (fun b hb o ho => by simp only [restr]; rw [if_pos hb]; exact ho) (h y (List.mem_cons_self ..))
theorem SL.unfix {α : Type} {κ : K α} {A : Option Addr} {c : Nat} {zs : List α} {ys : List Pl} {M : List Atom} {G0 H0 : Hp} {w : World} (hflat : ∀ G G' h, owR κ G h A c zs → owR κ G' h A c zs) (S : SL [sl .own κ A c zs, rof ys, holdL M G0 H0] w) (D : Dis G0 H0 ys) :
  SL (sl .own κ A c zs :: (own8 ys ++ M)) w := by
 obtain ⟨G, h, H, a1, a2, a3, d1, d2, d3, g, h1, h1', e1, e2, e3, q1, h2, h2', e4, e5, e6, ⟨l1, l2, l3, l4⟩, _⟩ := S.front
 have lH : H0.le H := Hp.le_trans l2 (Hp.le_trans e5 e3)
 have dK : G0.dj (restr G (bks ys)) := fun b => by
  by_cases e : b ∈ bks ys
  ·exact .inl (D.g b e)
  ·right; simp [restr, e]
 have dH : (restr G (bks ys)).dj H0 := fun b => by
  by_cases e : b ∈ bks ys
  ·exact .inr (D.h b e)
  ·left; simp [restr, e]
 have dh : h.dj (restr G (bks ys)) := Hp.dj_symm (Hp.dj_le d1 (restr_le _ _))
 have dhH : h.dj H0 := Hp.dj_symm (Hp.dj_le (Hp.dj_symm d3) lH)
 refine SL.back (G := G0) (h := h) (H := (restr G (bks ys)).un H0) (fun x o y => a1 x o (l1 x o y)) a2 ?_ (Hp.dj_le d1 l1) (Hp.dj_symm (Hp.un_dj (Hp.dj_symm dK) (Hp.dj_symm l3))) (Hp.dj_symm (Hp.un_dj (Hp.dj_symm dh) (Hp.dj_symm dhH))) (hflat _ _ _ g)
  (sats_join dH (sats_own8 D.nd q1) l4)
 intro x o y
 simp only [Hp.un] at y
 split at y
 ·rename_i o' ho; cases y; exact a1 x _ (restr_le _ _ x _ ho)
 ·exact a3 x o (lH x o y)
theorem SL.toN {l : List Atom} {w : World} (S : SL l w) : SL (l ++ []) w := by rw [List.append_nil]; exact S
theorem SL.ofN {l : List Atom} {w : World} (S : SL (l ++ []) w) : SL l w := by rw [List.append_nil] at S; exact S
def pack (L : List Atom) : Atom where
 holds E G h := sats E G L h
 mono l h := sats_mono l h
theorem SL.pack {A : Atom} {L M : List Atom} {w : World} (S : SL (A :: (L ++ M)) w) : SL (A :: X.pack L :: M) w := by
 obtain ⟨G, h, H, a1, a2, a3, d1, d2, d3, g, s⟩ := S.front
 obtain ⟨h1, h2, e1, e2, e3, s1, s2⟩ := sats_append s
 exact SL.back a1 a2 a3 d1 d2 d3 g ⟨h1, h2, e1, e2, e3, s1, s2⟩
theorem SL.unpack {L M : List Atom} {w : World} (S : SL (X.pack L :: M) w) : SL (L ++ M) w := by
 obtain ⟨G, h, H, a1, a2, a3, d1, d2, d3, g, s⟩ := S.front
 refine ⟨G, h.un H, a1, ?_, Hp.dj_symm (Hp.un_dj (Hp.dj_symm d1) (Hp.dj_symm d2)), sats_join d3 g s⟩
 intro x o y
 simp only [Hp.un] at y
 split at y
 ·rename_i o' ho; cases y; exact a2 x _ ho
 ·exact a3 x o y
theorem SL.withRo {α : Type} {κ : K α} {A : Option Addr} {c : Nat} {xs : List α} {F : List Atom} {G0 H0 : Hp} {w : World} (_ : SL ([sl .ro κ A c xs] ++ F) w) (S : SL [holdL ([sl .ro κ A c xs] ++ F) G0 H0] w) :
  SL ([sl .ro κ A c xs] ++ [holdL ([sl .ro κ A c xs] ++ F) G0 H0]) w :=
 S.more fun G h ⟨l1, _, _, l4⟩ => by
  obtain ⟨_, _, _, _, _, q, _⟩ := l4
  exact roR.mono l1 q
variable {α : Type} {κ : K α} {w : World} {l F : List Atom}
def Flat (A : Atom) : Prop := ∀ E G G' h, A.holds E G h → A.holds E G' h
def Flats : List Atom → Prop
 | [] => True
 | A :: L => Flat A ∧ Flats L
theorem owR_flatI {k0 : IntKind} {G G' h : Hp} {A : Option Addr} {c : Nat} {xs : List Int} (q : owR (kInt k0) G h A c xs) : owR (kInt k0) G' h A c xs := by
 obtain ⟨q0, q | ⟨b, o, arr, e, fr, q1, q2, q3, q4, cs, q5, q6⟩⟩ := q
 ·exact ⟨q0, .inl q⟩
 ·exact ⟨q0, .inr ⟨b, o, arr, e, fr, q1, q2, q3, q4, cs, by rw [cellsI q5]; exact cellsI' xs, q6⟩⟩
theorem flatI {k0 : IntKind} {A : Option Addr} {c : Nat} {xs : List Int} : Flat (sl .own (kInt k0) A c xs) := fun _ _ _ _ q => owR_flatI q
theorem sats_flats {E : Env} {G G' : Hp} : ∀ {L : List Atom} {H : Hp}, Flats L → sats E G L H → sats E G' L H
 | [], _, _, _ => trivial
 | _ :: _, _, ⟨f, g⟩, ⟨h, h', d, a, b, c, e⟩ => ⟨h, h', d, a, b, f _ _ _ _ c, sats_flats g e⟩
theorem SL.lendM {m : Md} {A : Option Addr} {c i : Nat} {xs : List α} (S : SL (l ++ F) w) (hl : l[i]? = some (sl m κ A c xs)) :
  ∃ F1 : List Atom, SL ([sl .ro κ A c xs] ++ F1) w ∧ ∀ {fl rl : List Atom} {w' : World}, Flats fl → SL (fl ++ (rl ++ F1)) w' → SL ((fl ++ sl m κ A c xs :: l.eraseIdx i) ++ F) w' := by
 have S1 := S.perm ((get_perm hl).append_right F)
 have key : m ≠ .ro → (∀ G h, (sl m κ A c xs).holds (env w) G h → owR κ G h A c xs) → ∃ F1 : List Atom, SL ([sl .ro κ A c xs] ++ F1) w ∧ ∀ {fl rl : List Atom} {w' : World}, Flats fl → SL (fl ++ (rl ++ F1)) w' → SL ((fl ++ sl m κ A c xs :: l.eraseIdx i) ++ F) w' := by
  intro _ how
  refine ⟨[lent (sl m κ A c xs) (l.eraseIdx i ++ F)], ?_, fun {fl l' w'} hf S' => ?_⟩
  ·obtain ⟨G, k, H, a1, a2, a3, d1, d2, d3, g, s⟩ := SL.front S1
   refine SL.back (G := G.un k) (h := Hp.zero) (H := H) ?_ (fun _ _ e => by cases e) a3 (Hp.dj_symm (Hp.zero_dj _)) (Hp.un_dj d2 d3) (Hp.zero_dj _) ?_ ⟨H, Hp.zero, Hp.dj_symm (Hp.zero_dj _), Hp.le_refl _, Hp.zero_le _, ⟨G, k, Hp.le_un_left _ _, Hp.le_un_right d1, d1, g, s⟩, trivial⟩
   ·intro x o y
    simp only [Hp.un] at y
    split at y
    ·rename_i o' ho; cases y; exact a1 x _ ho
    ·exact a2 x o y
   ·obtain ⟨q0, ⟨q1, q2⟩ | ⟨b, o, arr, e, fr, q1, q2, q3, q4, q5⟩⟩ := how _ _ g
    ·exact ⟨q0, fun _ => q2, .inl (List.eq_nil_of_length_eq_zero (by omega))⟩
    ·exact ⟨q0, fun h => (by rw [q1] at h; cases h), .inr ⟨b, o, arr, e, fr, q1, Hp.le_un_right d1 _ _ q2, q5.mono (Hp.le_un_left _ _)⟩⟩
  ·obtain ⟨G, H, f1, f2, f3, s⟩ := S'
   obtain ⟨hf1, hr, dfr, lf, lr, sf, sr⟩ := sats_append s
   obtain ⟨_, hx, _, _, lx, _, sx⟩ := sats_append sr
   obtain ⟨h1, h2, _, l1, _, ⟨G0, p, z1, z2, z3, z4, z5⟩, _⟩ := sx
   have fp : fit p w' := fun x o y => f1 x o (z2 x o y)
   have lh1 : h1.le H := Hp.le_trans l1 (Hp.le_trans lx lr)
   have d1 : hf1.dj h1 := Hp.dj_symm (Hp.dj_le (Hp.dj_symm dfr) (Hp.le_trans l1 lx))
   have dp1 : p.dj h1 := Hp.dj_symm (Hp.dj_le (Hp.dj_symm (Hp.dj_le f3 z2)) lh1)
   have dpf : p.dj hf1 := Hp.dj_symm (Hp.dj_le (Hp.dj_symm (Hp.dj_le f3 z2)) lf)
   have dg1 : G0.dj h1 := Hp.dj_symm (Hp.dj_le (Hp.dj_symm (Hp.dj_le f3 z1)) lh1)
   have dgf : G0.dj hf1 := Hp.dj_symm (Hp.dj_le (Hp.dj_symm (Hp.dj_le f3 z1)) lf)
   have e1 : env w = env w' ∨ True := .inr trivial
   rw [List.append_assoc]
   refine ⟨G0, hf1.un (p.un h1), fun x o y => f1 x o (z1 x o y), ?_, ?_, sats_join ?_ (sats_flats hf sf) ⟨p, h1, dp1, Hp.le_un_left _ _, Hp.le_un_right dp1, z4, z5⟩⟩
   ·intro x o y
    simp only [Hp.un] at y
    split at y
    ·rename_i o' ho; cases y; exact f2 x _ (lf x _ ho)
    ·split at y
     ·rename_i o' ho; cases y; exact fp x _ ho
     ·exact f2 x _ (lh1 x _ y)
   ·exact Hp.dj_symm (Hp.un_dj (Hp.dj_symm dgf) (Hp.un_dj (Hp.dj_symm z3) (Hp.dj_symm dg1)))
   ·exact Hp.dj_symm (Hp.un_dj dpf (Hp.dj_symm d1))
 cases m with
 | ro =>
  refine ⟨sl .ro κ A c xs :: l.eraseIdx i ++ F, ?_, fun {fl l' w'} _ S' => ?_⟩
  ·exact S1.more fun G h q => q
  ·obtain ⟨G, H, f1, f2, f3, s⟩ := S'
   obtain ⟨hf1, hr, dfr, lf, lr, sf, sr⟩ := sats_append s
   obtain ⟨_, hx, _, _, lx, _, sx⟩ := sats_append sr
   rw [List.append_assoc]
   exact ⟨G, H, f1, f2, f3, sats_le (Hp.un_le lf (Hp.le_trans lx lr)) (sats_join (Hp.dj_symm (Hp.dj_le (Hp.dj_symm dfr) lx)) sf sx)⟩
 | own => exact key (fun h => by cases h) fun _ _ g => g
 | part off zs => exact key (fun h => by cases h) fun _ _ g => g.1
 | plus Q => exact key (fun h => by cases h) fun _ _ g => g.1
def q8 (k0 : IntKind) (A : Option Addr) (c : Nat) (xs : List Int) : Hp → Prop := fun h => owR (kInt k0) Hp.zero h A c xs
theorem SL.focus {k0 : IntKind} {A : Option Addr} {c ix : Nat} {xs : List Int} {i j k : Int} (S : SL (l ++ F) w) (hl : l[ix]? = some (sl .own (kInt k0) A c xs)) (h0 : 0 ≤ i) (h1 : i ≤ j) (hj : j ≤ (xs.length : Int)) (h2 : j ≤ k) (h3 : k ≤ (c : Int)) :
  SL (l.set ix (sl (.plus (q8 k0 A c xs)) (kInt k0) (slA A k.toNat i.toNat 1) (k.toNat - i.toNat) (cut xs i.toNat j.toNat)) ++ F) w := by
 have hcl := cut_len xs i.toNat j.toNat (by omega)
 refine S.turnL hl (fun G h q => ?_) rfl
 refine ⟨?_, owR_flatI q⟩
 obtain ⟨q0, ⟨q1, q2⟩ | ⟨b, o, arr, e, fr, q1, q2, q3, q4, q5⟩⟩ := q
 ·refine ⟨by rw [hcl]; omega, .inl ⟨?_, by omega⟩⟩
  subst q1
  unfold slA; split <;> rfl
 ·refine ⟨by rw [hcl]; omega, ?_⟩
  right
  subst q1
  have q5' := els_cut q5 i.toNat j.toNat
  have hsz : (kInt k0).sz = 1 := rfl
  rw [hsz, Nat.mul_one] at q4 q5'
  by_cases e1 : k.toNat = i.toNat
  ·have : cut xs i.toNat j.toNat = [] := List.eq_nil_of_length_eq_zero (by omega)
   refine ⟨b, o, arr, e, fr, by unfold slA; rw [if_pos e1], q2, q3, by rw [hsz, Nat.mul_one]; omega, ?_⟩
   rw [this]
   exact ⟨[], rfl, fun j v e => by simp at e⟩
  ·refine ⟨b, o + i.toNat, arr, e, fr, ?_, q2, q3, by rw [hsz, Nat.mul_one]; omega, q5'⟩
   unfold slA
   rw [if_neg e1, Option.map_some, Nat.mul_one, add_eA, eA_some]
theorem SL.unfocus {k0 : IntKind} {A A' : Option Addr} {c c' ix : Nat} {xs ys : List Int} (S : SL (l ++ F) w) (hl : l[ix]? = some (sl (.plus (q8 k0 A c xs)) (kInt k0) A' c' ys)) : SL (l.set ix (sl .own (kInt k0) A c xs) ++ F) w :=
 S.turnL hl (fun _ _ q => owR_flatI q.2) rfl
end Go.Proofs.Ytghpokmkhlmgcaa.X
namespace Go.Proofs.Ytghpokmkhlmgcaa
open Go Go.Proofs.Ytghpokmkhlmgcaa.X
set_option linter.unusedVariables false
set_option linter.unusedSimpArgs false
set_option maxRecDepth 100000
set_option maxHeartbeats 4000000
theorem mixed : Try.prog.follows .mixedOrders = true := by kernel_rfl
structure aE where
 Key : List Int
 Seq : Int
 Del : Bool
 Value : List Int
def daE : aE := ⟨[], (0 : Int), false, []⟩
def kaE : K aE := kIso (kPair (kSl ku8) (kPair ku64 (kPair kBool ((kSl ku8))))) (fun x => (x.Key, x.Seq, x.Del, x.Value))
theorem fld_aE_Key : Fld kaE 0 (kSl ku8) (fun x => x.Key) := Fld.iso (Fld.fst (Fld.all _)) _
theorem fld_aE_Seq : Fld kaE 1 ku64 (fun x => x.Seq) := Fld.iso (Fld.snd (Fld.fst (Fld.all _))) _
theorem fld_aE_Value : Fld kaE 3 (kSl ku8) (fun x => x.Value) := Fld.iso (Fld.snd (Fld.snd (Fld.snd (Fld.all _)))) _
theorem op_aE {l F : List Atom} {w : World} {x : aE} {cs : List Value} (S : SL ((rp kaE x cs :: l) ++ F) w) : ∃ (A0 : Option Addr) (k0 : Nat), ∃ (A1 : Option Addr) (k1 : Nat), cs = [.slice A0 x.Key.length k0, .int .u64 x.Seq, .bool x.Del, .slice A1 x.Value.length k1] ∧ SL (([sl .ro ku8 A0 k0 x.Key, sl .ro ku8 A1 k1 x.Value] ++ l) ++ F) w := by
 obtain ⟨G, H, f1, f2, f3, h, h', d, l1, l2, q, s1⟩ := S
 obtain ⟨_, _, rfl, ⟨A0, k0, rfl, g0⟩, ⟨_, _, rfl, rfl, ⟨_, _, rfl, rfl, ⟨A1, k1, rfl, g1⟩⟩⟩⟩ := q
 exact ⟨A0, k0, A1, k1, rfl, G, H, f1, f2, f3, (addP g0 (addP g1 (sats_le l2 s1)))⟩
theorem cl_aE {l F : List Atom} {w : World} {x : aE} {A0 : Option Addr} {k0 : Nat} {A1 : Option Addr} {k1 : Nat} {i0 i1 : Nat} (S : SL (l ++ F) w) (h0 : l[i0]? = some (sl .ro ku8 A0 k0 x.Key)) (h1 : l[i1]? = some (sl .ro ku8 A1 k1 x.Value)) : SL ((rp kaE x [.slice A0 x.Key.length k0, .int .u64 x.Seq, .bool x.Del, .slice A1 x.Value.length k1] :: l) ++ F) w := by
 refine SL.addN (As := [sl .ro ku8 A0 k0 x.Key, sl .ro ku8 A1 k1 x.Value]) S ⟨⟨_, h0⟩, ⟨_, h1⟩, trivial⟩ fun E G q => ?_
 obtain ⟨⟨_, g0⟩, ⟨_, g1⟩, _⟩ := q
 exact ⟨_, _, rfl, ⟨_, _, rfl, g0⟩, ⟨_, _, rfl, rfl, ⟨_, _, rfl, rfl, ⟨_, _, rfl, g1⟩⟩⟩⟩
structure s_builder where
 out : List Int
 body : List Int
 index : List Int
 many : Int
 blocks : Int
 last : List Int
structure s_block where
 from' : Int
 to' : Int
 many : Int
 first : List Int
 last : List Int
def ds_block : s_block := ⟨(0 : Int), (0 : Int), (0 : Int), [], []⟩
def ks_block : K s_block := kIso (kPair ki64 (kPair ki64 (kPair ki64 (kPair (kSl ku8) ((kSl ku8)))))) (fun x => (x.from', x.to', x.many, x.first, x.last))
theorem fld_s_block_from' : Fld ks_block 0 ki64 (fun x => x.from') := Fld.iso (Fld.fst (Fld.all _)) _
theorem fld_s_block_to' : Fld ks_block 1 ki64 (fun x => x.to') := Fld.iso (Fld.snd (Fld.fst (Fld.all _))) _
theorem fld_s_block_first : Fld ks_block 3 (kSl ku8) (fun x => x.first) := Fld.iso (Fld.snd (Fld.snd (Fld.snd (Fld.fst (Fld.all _))))) _
theorem fld_s_block_last : Fld ks_block 4 (kSl ku8) (fun x => x.last) := Fld.iso (Fld.snd (Fld.snd (Fld.snd (Fld.snd (Fld.all _))))) _
theorem cl_s_block {l F : List Atom} {w : World} {x : s_block} {A0 : Option Addr} {k0 : Nat} {A1 : Option Addr} {k1 : Nat} {i0 i1 : Nat} (S : SL (l ++ F) w) (h0 : l[i0]? = some (sl .ro ku8 A0 k0 x.first)) (h1 : l[i1]? = some (sl .ro ku8 A1 k1 x.last)) : SL ((rp ks_block x [.int .i64 x.from', .int .i64 x.to', .int .i64 x.many, .slice A0 x.first.length k0, .slice A1 x.last.length k1] :: l) ++ F) w := by
 refine SL.addN (As := [sl .ro ku8 A0 k0 x.first, sl .ro ku8 A1 k1 x.last]) S ⟨⟨_, h0⟩, ⟨_, h1⟩, trivial⟩ fun E G q => ?_
 obtain ⟨⟨_, g0⟩, ⟨_, g1⟩, _⟩ := q
 exact ⟨_, _, rfl, rfl, ⟨_, _, rfl, rfl, ⟨_, _, rfl, rfl, ⟨_, _, rfl, ⟨_, _, rfl, g0⟩, ⟨_, _, rfl, g1⟩⟩⟩⟩⟩
structure s_Table where
 b : List Int
 blocks : List s_block
 filter : List Int
 count : Int
 reads : Int
structure r4_reader where
 b : List Int
 bad : Bool
structure r4_Table where
 L : List aE
 Cut : List Int
 filter : List Int
 reads : Int
structure w4_Ask where
 Key : List Int
 Seq : Int
 Scan : Bool
 Most : Int
def dw4_Ask : w4_Ask := ⟨[], (0 : Int), false, (0 : Int)⟩
def kw4_Ask : K w4_Ask := kIso (kPair (kSl ku8) (kPair ku64 (kPair kBool (ki64)))) (fun x => (x.Key, x.Seq, x.Scan, x.Most))
theorem op_w4_Ask {l F : List Atom} {w : World} {x : w4_Ask} {cs : List Value} (S : SL ((rp kw4_Ask x cs :: l) ++ F) w) : ∃ (A0 : Option Addr) (k0 : Nat), cs = [.slice A0 x.Key.length k0, .int .u64 x.Seq, .bool x.Scan, .int .i64 x.Most] ∧ SL (([sl .ro ku8 A0 k0 x.Key] ++ l) ++ F) w := by
 obtain ⟨G, H, f1, f2, f3, h, h', d, l1, l2, q, s1⟩ := S
 obtain ⟨_, _, rfl, ⟨A0, k0, rfl, g0⟩, ⟨_, _, rfl, rfl, ⟨_, _, rfl, rfl, rfl⟩⟩⟩ := q
 exact ⟨A0, k0, rfl, G, H, f1, f2, f3, (addP g0 (sats_le l2 s1))⟩
theorem stt36 : StTy Try.prog 36 #[.slice none 0 0, .int .u64 0, .bool false, .slice none 0 0] #[(0, 1), (1, 1), (2, 1), (3, 1)] := ⟨fun w => by kernel_rfl, ⟨_, Try.runUnderlying36, fun w => by kernel_rfl⟩⟩
theorem stt50 : StTy Try.prog 50 #[.slice none 0 0, .slice none 0 0, .slice none 0 0, .int .i64 0] #[(0, 1), (1, 1), (2, 1), (3, 1)] := ⟨fun w => by kernel_rfl, ⟨_, Try.runUnderlying50, fun w => by kernel_rfl⟩⟩
theorem stt61 : StTy Try.prog 61 #[.slice none 0 0, .slice none 0 0, .slice none 0 0, .int .i64 0, .int .i64 0, .slice none 0 0] #[(0, 1), (1, 1), (2, 1), (3, 1), (4, 1), (5, 1)] := ⟨fun w => by kernel_rfl, ⟨_, Try.runUnderlying61, fun w => by kernel_rfl⟩⟩
theorem stt69 : StTy Try.prog 69 #[.slice none 0 0, .slice none 0 0, .slice none 0 0, .int .i64 0, .int .i64 0] #[(0, 1), (1, 1), (2, 1), (3, 1), (4, 1)] := ⟨fun w => by kernel_rfl, ⟨_, Try.runUnderlying69, fun w => by kernel_rfl⟩⟩
theorem stt73 : StTy Try.prog 73 #[.int .i64 0, .int .i64 0, .int .i64 0, .slice none 0 0, .slice none 0 0] #[(0, 1), (1, 1), (2, 1), (3, 1), (4, 1)] := ⟨fun w => by kernel_rfl, ⟨_, Try.runUnderlying73, fun w => by kernel_rfl⟩⟩
theorem stt128 : StTy Try.prog 128 #[.slice none 0 0, .bool false] #[(0, 1), (1, 1)] := ⟨fun w => by kernel_rfl, ⟨_, Try.runUnderlying128, fun w => by kernel_rfl⟩⟩
theorem sty22 : SlTy Try.prog 22 36 4 64 (.agg #[.slice none 0 0, .int .u64 0, .bool false, .slice none 0 0]) := ⟨Try.runUnderlying22, Try.sizeOf36, ⟨Try.t36, rfl, fun w => by kernel_rfl⟩, fun w => by kernel_rfl, rfl⟩
theorem sty24 : SlTy Try.prog 24 5 1 1 (.int .u8 0) := ⟨Try.runUnderlying24, Try.sizeOf5, ⟨Try.t5, rfl, fun w => by kernel_rfl⟩, fun w => by kernel_rfl, rfl⟩
theorem sty48 : SlTy Try.prog 48 3 1 8 (.int .i64 0) := ⟨Try.runUnderlying48, Try.sizeOf3, ⟨Try.t3, rfl, fun w => by kernel_rfl⟩, fun w => by kernel_rfl, rfl⟩
theorem sty62 : SlTy Try.prog 62 24 1 24 (.slice none 0 0) := ⟨Try.runUnderlying62, Try.sizeOf24, ⟨Try.t24, rfl, fun w => by kernel_rfl⟩, fun w => by kernel_rfl, rfl⟩
theorem sty67 : SlTy Try.prog 67 73 5 72 (.agg #[.int .i64 0, .int .i64 0, .int .i64 0, .slice none 0 0, .slice none 0 0]) := ⟨Try.runUnderlying67, Try.sizeOf73, ⟨Try.t73, rfl, fun w => by kernel_rfl⟩, fun w => by kernel_rfl, rfl⟩
theorem sty116 : SlTy Try.prog 116 34 1 8 (.int .u64 0) := ⟨Try.runUnderlying116, Try.sizeOf34, ⟨Try.t34, rfl, fun w => by kernel_rfl⟩, fun w => by kernel_rfl, rfl⟩
theorem zv24 (w : World) : (zeroValue 24).run Try.prog w = .ok (.slice none 0 0) w := by kernel_rfl
theorem zv36 (w : World) : (zeroValue 36).run Try.prog w = .ok (.agg #[.slice none 0 0, .int .u64 0, .bool false, .slice none 0 0]) w := by kernel_rfl
theorem zv52 (w : World) : (zeroValue 52).run Try.prog w = .ok (.agg #[.slice none 0 0, .int .u64 0, .bool false, .int .i64 0]) w := by kernel_rfl
theorem zv121 (w : World) : (zeroValue 121).run Try.prog w = .ok (.agg #[.int .u64 0, .int .u64 0, .int .u64 0, .int .u64 0]) w := by kernel_rfl
theorem tc28 : type_of% @Try.call28 := @Try.call28
theorem tc31 : type_of% @Try.call31 := @Try.call31
theorem tc32 : type_of% @Try.call32 := @Try.call32
theorem tc38 : type_of% @Try.call38 := @Try.call38
theorem tc51 : type_of% @Try.call51 := @Try.call51
theorem tc55 : type_of% @Try.call55 := @Try.call55
theorem tc58 : type_of% @Try.call58 := @Try.call58
theorem tc59 : type_of% @Try.call59 := @Try.call59
theorem tc70 : type_of% @Try.call70 := @Try.call70
theorem tc74 : type_of% @Try.call74 := @Try.call74
theorem tc8 : type_of% @Try.call8 := @Try.call8
theorem tc94 : type_of% @Try.call94 := @Try.call94
theorem tf10 : type_of% @Try.func10 := @Try.func10
theorem tf11 : type_of% @Try.func11 := @Try.func11
theorem tf13 : type_of% @Try.func13 := @Try.func13
theorem tf22 : type_of% @Try.func22 := @Try.func22
theorem tf26 : type_of% @Try.func26 := @Try.func26
theorem tf30 : type_of% @Try.func30 := @Try.func30
theorem tf33 : type_of% @Try.func33 := @Try.func33
theorem tf35 : type_of% @Try.func35 := @Try.func35
theorem tf41 : type_of% @Try.func41 := @Try.func41
theorem tf43 : type_of% @Try.func43 := @Try.func43
theorem tf45 : type_of% @Try.func45 := @Try.func45
theorem tf5 : type_of% @Try.func5 := @Try.func5
theorem tf51 : type_of% @Try.func51 := @Try.func51
theorem tf52 : type_of% @Try.func52 := @Try.func52
theorem tf6 : type_of% @Try.func6 := @Try.func6
theorem tf61 : type_of% @Try.func61 := @Try.func61
theorem tf62 : type_of% @Try.func62 := @Try.func62
theorem tf66 : type_of% @Try.func66 := @Try.func66
theorem tf7 : type_of% @Try.func7 := @Try.func7
theorem tf77 : type_of% @Try.func77 := @Try.func77
theorem tf8 : type_of% @Try.func8 := @Try.func8
theorem tf85 : type_of% @Try.func85 := @Try.func85
theorem tf92 : type_of% @Try.func92 := @Try.func92
theorem ti22 : type_of% @Try.isAgg22 := @Try.isAgg22
theorem ti24 : type_of% @Try.isAgg24 := @Try.isAgg24
theorem ti28 : type_of% @Try.isAgg28 := @Try.isAgg28
theorem ti3 : type_of% @Try.isAgg3 := @Try.isAgg3
theorem ti34 : type_of% @Try.isAgg34 := @Try.isAgg34
theorem ti36 : type_of% @Try.isAgg36 := @Try.isAgg36
theorem ti4 : type_of% @Try.isAgg4 := @Try.isAgg4
theorem ti48 : type_of% @Try.isAgg48 := @Try.isAgg48
theorem ti5 : type_of% @Try.isAgg5 := @Try.isAgg5
theorem ti67 : type_of% @Try.isAgg67 := @Try.isAgg67
theorem tu116 : type_of% @Try.runUnderlying116 := @Try.runUnderlying116
theorem tu121 : type_of% @Try.runUnderlying121 := @Try.runUnderlying121
theorem tu128 : type_of% @Try.runUnderlying128 := @Try.runUnderlying128
theorem tu22 : type_of% @Try.runUnderlying22 := @Try.runUnderlying22
theorem tu24 : type_of% @Try.runUnderlying24 := @Try.runUnderlying24
theorem tu3 : type_of% @Try.runUnderlying3 := @Try.runUnderlying3
theorem tu34 : type_of% @Try.runUnderlying34 := @Try.runUnderlying34
theorem tu36 : type_of% @Try.runUnderlying36 := @Try.runUnderlying36
theorem tu48 : type_of% @Try.runUnderlying48 := @Try.runUnderlying48
theorem tu5 : type_of% @Try.runUnderlying5 := @Try.runUnderlying5
theorem tu50 : type_of% @Try.runUnderlying50 := @Try.runUnderlying50
theorem tu52 : type_of% @Try.runUnderlying52 := @Try.runUnderlying52
theorem tu61 : type_of% @Try.runUnderlying61 := @Try.runUnderlying61
theorem tu62 : type_of% @Try.runUnderlying62 := @Try.runUnderlying62
theorem tu67 : type_of% @Try.runUnderlying67 := @Try.runUnderlying67
theorem tu69 : type_of% @Try.runUnderlying69 := @Try.runUnderlying69
theorem tu73 : type_of% @Try.runUnderlying73 := @Try.runUnderlying73
theorem tu9 : type_of% @Try.runUnderlying9 := @Try.runUnderlying9
theorem tu99 : type_of% @Try.runUnderlying99 := @Try.runUnderlying99
theorem ts22 : type_of% @Try.sizeOf22 := @Try.sizeOf22
theorem ts24 : type_of% @Try.sizeOf24 := @Try.sizeOf24
theorem ts3 : type_of% @Try.sizeOf3 := @Try.sizeOf3
theorem ts34 : type_of% @Try.sizeOf34 := @Try.sizeOf34
theorem ts36 : type_of% @Try.sizeOf36 := @Try.sizeOf36
theorem ts4 : type_of% @Try.sizeOf4 := @Try.sizeOf4
theorem ts48 : type_of% @Try.sizeOf48 := @Try.sizeOf48
theorem ts5 : type_of% @Try.sizeOf5 := @Try.sizeOf5
theorem ts67 : type_of% @Try.sizeOf67 := @Try.sizeOf67
theorem ts73 : type_of% @Try.sizeOf73 := @Try.sizeOf73
namespace slices_Clip_byte
def f (x : List Int) : Option (List Int) := some x
def R (F : List Atom) (r : List Int) : Ending → World → Prop := fun e w' => ∃ (A : Option Addr), e = .returned (.slice A r.length r.length) ∧ SL ([sl .own ku8 A r.length r] ++ F) w'
theorem ok (F : List Atom) (w : World) (x : List Int) {A : Option Addr} {k : Nat} (S : SL ([sl .own ku8 A k x] ++ F) w) (r : List Int) (H : f x = some r) : Calls Try.prog 31 #[.slice A x.length k] w (R F r) := by
 refine enter (vs := [.slice A x.length k]) Try.func31 rfl Try.ntmps31 (Nat.le_of_ble_eq_true rfl) fun a T => ?_
 refine Gets.seq (rg ?_)
 refine r_pv T rfl rfl fun _ T => ?_
 refine Gets.seq (rg ?_)
 refine r_pv T rfl rfl fun _ T => ?_
 refine r_pv T rfl rfl fun _ T => ?_
 refine rn T rfl Try.runUnderlying24 rfl fun _ T => ?_
 refine r_pv T rfl rfl fun _ T => ?_
 refine rn T rfl Try.runUnderlying24 rfl fun _ T => ?_
 have hk := S.len (i := 0) rfl
 refine r_slO (ix := 0) (xs := x) T S rfl rfl (fun _ => rfl) rfl rfl rfl (Int.le_refl 0) (by omega) (Int.le_refl _) (Int.le_refl _) (by omega) Try.runUnderlying24 Try.sizeOf5 rfl fun _ A2 S T => ?_
 have hc : cut x (Int.toNat 0) (Int.toNat (x.length : Int)) = x := by simp [cut]
 have hn : (Int.toNat (x.length : Int) - Int.toNat 0) = x.length := by simp
 rw [hc, hn] at S T
 refine r_pv T rfl rfl fun _ T => ?_
 cases H
 exact rtn T Try.func31 rfl rfl ⟨A2, rfl, S⟩
end slices_Clip_byte
namespace slices_Clip_byte_ro
def f (x : List Int) : Option (List Int) := some x
def R (F : List Atom) (x : List Int) (A : Option Addr) (k : Nat) (r : List Int) : Ending → World → Prop := fun e w' => ∃ (A2 : Option Addr), e = .returned (.slice A2 r.length r.length) ∧ SL ([sl .ro ku8 A2 r.length r, sl .ro ku8 A k x] ++ F) w'
theorem ok (F : List Atom) (w : World) (x : List Int) {A : Option Addr} {k : Nat} (S : SL ([sl .ro ku8 A k x] ++ F) w) (r : List Int) (H : f x = some r) : Calls Try.prog 31 #[.slice A x.length k] w (R F x A k r) := by
 refine enter (vs := [.slice A x.length k]) Try.func31 rfl Try.ntmps31 (Nat.le_of_ble_eq_true rfl) fun a T => ?_
 refine Gets.seq (rg ?_)
 refine r_pv T rfl rfl fun _ T => ?_
 refine Gets.seq (rg ?_)
 refine r_pv T rfl rfl fun _ T => ?_
 refine r_pv T rfl rfl fun _ T => ?_
 refine rn T rfl Try.runUnderlying24 rfl fun _ T => ?_
 refine r_pv T rfl rfl fun _ T => ?_
 refine rn T rfl Try.runUnderlying24 rfl fun _ T => ?_
 have hk := S.len (i := 0) rfl
 refine r_slR (ix := 0) (xs := x) T S rfl rfl (fun _ => rfl) rfl rfl rfl (Int.le_refl 0) (by omega) (Int.le_refl _) (Int.le_refl _) (by omega) Try.runUnderlying24 Try.sizeOf5 rfl fun _ A2 S T => ?_
 have hc : cut x (Int.toNat 0) (Int.toNat (x.length : Int)) = x := by simp [cut]
 have hn : (Int.toNat (x.length : Int) - Int.toNat 0) = x.length := by simp
 rw [hc, hn] at S T
 refine r_pv T rfl rfl fun _ T => ?_
 cases H
 exact rtn T Try.func31 rfl rfl ⟨A2, rfl, S⟩
end slices_Clip_byte_ro
namespace bytes_Clone
def f (x : List Int) : Option (List Int) := Ck ((0 + x.length) * 1 ≤ 140737488355328) (some x)
def R (F : List Atom) (m : Md) (x : List Int) (A : Option Addr) (k : Nat) (r : List Int) : Ending → World → Prop := fun e w' => ∃ (A2 : Option Addr) (k2 : Nat), e = .returned (.slice A2 r.length k2) ∧ SL ([sl .own ku8 A2 k2 r, sl m ku8 A k x] ++ F) w'
theorem ok (F : List Atom) (w : World) (x : List Int) {m : Md} {A : Option Addr} {k : Nat} (S : SL ([sl m ku8 A k x] ++ F) w) (r : List Int) (H : f x = some r) : Calls Try.prog 32 #[.slice A x.length k] w (R F m x A k r) := by
 refine enter (vs := [.slice A x.length k]) Try.func32 rfl Try.ntmps32 (Nat.le_of_ble_eq_true rfl) fun a T => ?_
 refine Gets.seq (rg ?_)
 refine r_pv T rfl rfl fun _ T => ?_
 refine Gets.seq (Gets.seq (rg ?_))
 refine r_pv T rfl rfl fun _ T => ?_
 refine r_slNil T rfl Try.runUnderlying24 rfl fun _ T => ?_
 cases A with
 | none =>
  have hx : x = [] := by
   obtain ⟨_, _, _, _, _, h⟩ := S.memF (i := 0) rfl
   have h1 := sl_len h
   have h2 : k = 0 := by
    cases m with
    | ro => exact h.2.1 rfl
    | own =>
     rcases h.2 with q | ⟨_, _, _, _, _, q, _⟩
     ·exact q.2
     ·cases q
    | part off zs =>
     rcases h.1.2 with q | ⟨_, _, _, _, _, q, _⟩
     ·exact q.2
     ·cases q
    | plus Q =>
     rcases h.1.2 with q | ⟨_, _, _, _, _, q, _⟩
     ·exact q.2
     ·cases q
   exact List.eq_nil_of_length_eq_zero (by omega)
  subst hx
  refine cdT T rfl rfl (Gets.seq (rg ?_))
  refine r_pv T rfl rfl fun _ T => ?_
  replace S := S.nil ku8 .own
  obtain ⟨_, H⟩ := ck H
  cases H
  exact rtn T Try.func32 rfl rfl ⟨none, 0, rfl, S⟩
 | some ad =>
  refine cdF T rfl rfl (Gets.skip (Gets.seq (rg ?_)))
  refine r_bsl (κ := ku8) (xs := []) (vs := []) T S sty24 rfl rfl rfl (by decide) rfl fun _ _ b S T => ?_
  refine r_pv T rfl rfl fun _ T => ?_
  obtain ⟨h, H⟩ := ck H
  refine r_app (ix := 0) (iy := 1) (xs := []) (ys := x) T S rfl rfl rfl rfl (by decide) sty24 Try.runUnderlying24 (by decide) (by simpa using h) rfl fun _ _ A2 k2 S T => ?_
  refine r_pv T rfl rfl fun _ T => ?_
  cases H
  exact rtn T Try.func32 rfl rfl ⟨A2, k2, rfl, S⟩
end bytes_Clone
theorem ext_bytes_Compare (u v : Value) (w : World) : (callFunc 86 #[u, v]).run Try.prog w = (Extern.BytealgCompare.compare #[u, v] >>= fun v => (pure (.value v) : Sem Next)).run Try.prog w := by kernel_rfl
namespace bytes_Compare
def f (x y : List Int) : Option Int := some (bcmp x y)
def R (F : List Atom) (x y : List Int) (m1 m2 : Md) (A1 A2 : Option Addr) (k1 k2 : Nat) (r : Int) : Ending → World → Prop := fun e w' => e = .returned (.int .i64 r) ∧ SL ([sl m1 (kInt .u8) A1 k1 x, sl m2 (kInt .u8) A2 k2 y] ++ F) w'
theorem ok (F : List Atom) (w : World) (x y : List Int) {m1 m2 : Md} {A1 A2 : Option Addr} {k1 k2 : Nat} (S : SL ([sl m1 (kInt .u8) A1 k1 x, sl m2 (kInt .u8) A2 k2 y] ++ F) w) (r : Int) (H : f x y = some r) : Calls Try.prog 65 #[.slice A1 x.length k1, .slice A2 y.length k2] w (R F x y m1 m2 A1 A2 k1 k2 r) := by
 refine enter (vs := [.slice A1 x.length k1, .slice A2 y.length k2]) Try.func65 rfl Try.ntmps65 (Nat.le_of_ble_eq_true rfl) fun a T => ?_
 refine Gets.seq (rg ?_)
 refine r_pv T rfl rfl fun _ T => ?_
 refine Gets.seq (rg ?_)
 refine r_pv T rfl rfl fun _ T => ?_
 refine r_pv T rfl rfl fun _ T => ?_
 refine r_cmp (ix := 0) (iy := 1) (xs := x) (ys := y) T S ext_bytes_Compare rfl rfl rfl rfl rfl fun _ T => ?_
 refine r_pv T rfl rfl fun _ T => ?_
 cases H
 exact rtn T Try.func65 rfl rfl ⟨rfl, S⟩
end bytes_Compare
namespace c_Number
noncomputable def c0 : Code := match Try.f55.body with | some c => c | none => .skip
def R (F : List Atom) (r : (List Int)) : Ending → World → Prop := fun e w' => ∃ (A18 : OA), ∃ (k19 : Nat), e = .returned (.slice A18 r.length k19) ∧ SL ([sl .own ku8 A18 k19 r] ++ F) w'
def L0 (z : Nat) : Nat → Int → (List Int) → Option (List Int)
 | 0, _, _ => none
 | m + 1, x2, x3 => If (decide (x2 > 127)) (Ck ((x3.length + [bOr .u8 (wr .u8 x2) 128].length) * 1 ≤ 140737488355328) (L0 z m (sShr .u64 x2 7) (x3 ++ [bOr .u8 (wr .u8 x2) 128]))) (Ck ((x3.length + [wr .u8 x2].length) * 1 ≤ 140737488355328) (Bd (slices_Clip_byte.f (x3 ++ [wr .u8 x2])) fun x12 => some x12))
def f (z : Nat) (x1 : Int) : Option (List Int) := L0 z z x1 []
noncomputable def ptL0 : List Item := [.code (cB (cB (cL (cR (cR c0))))), .inLoop (cB (cB (cL (cR (cR c0))))), .inBlock 0, .code (cr 3 c0)]
theorem L0_ok (F : List Atom) (r : (List Int)) (z : Nat) (x1 : Int) (m : Nat) : ∀ (x2 : Int) (A4 : OA) (x3 : List Int) (k5 : Nat) (a : Act) (w : World), Tm 20 [(0, .int .u64 x2), (3, .slice A4 x3.length k5)] a → SL ([sl .own ku8 A4 k5 x3] ++ F) w → L0 z m x2 x3 = some r → Gets Try.prog 55 ptL0 a w (R F r) := by
 induction m with
 | zero => intro _ _ _ _ _ _ _ _ H; cases H
 | succ m ih =>
  intro x2 A4 x3 k5 a w T S H
  refine sq (sq (rg (v2 T rfl rfl fun T => ?_)))
  rcases ifE H with ⟨h6, H⟩ | ⟨h6, H⟩
  ·refine cdT T rfl h6 (sk (sq (bq (rg (v2 T rfl rfl fun T => r_conv T rfl tu34 tu5 rfl fun _ T => v1 T rfl fun T => ?_)))))
   replace S := SL.val (κ := ku8) (x := bOr .u8 (wr .u8 x2) 128) (cs := [.int .u8 (bOr .u8 (wr .u8 x2) 128)]) (fun _ => rfl) S
   refine r_bsl (κ := ku8) (xs := [bOr .u8 (wr .u8 x2) 128]) (vs := [.int .u8 (bOr .u8 (wr .u8 x2) 128)]) T S sty24 rfl ⟨_, _, rfl, ⟨0, rfl⟩, rfl⟩ rfl (by decide) rfl fun _ _ b14 S T => ?_
   replace S := S.only [0, 1] rfl
   obtain ⟨h17, H⟩ := ck H
   refine r_app (ix := 1) (iy := 0) (xs := x3) (ys := [bOr .u8 (wr .u8 x2) 128]) T S rfl rfl rfl rfl (by decide) sty24 tu24 (by decide) h17 rfl fun _ _ A15 k16 S T => ?_
   refine v1 T rfl fun T => Gets.inBlock (rg (v1 T rfl fun T => ?_))
   refine r_shr T rfl rfl (by decide) rfl fun _ T => ?_
   refine v1 T rfl fun T => Gets.inLoop ?_
   exact ih (sShr .u64 x2 7) A15 (x3 ++ [bOr .u8 (wr .u8 x2) 128]) k16 _ _ (T.sb rfl) (S.only [1] rfl) H
  ·refine cdF T rfl h6 (Gets.exit rfl (sq (rg (v2 T rfl rfl fun T => r_conv T rfl tu34 tu5 rfl fun _ T => ?_))))
   replace S := SL.val (κ := ku8) (x := wr .u8 x2) (cs := [.int .u8 (wr .u8 x2)]) (fun _ => rfl) S
   refine r_bsl (κ := ku8) (xs := [wr .u8 x2]) (vs := [.int .u8 (wr .u8 x2)]) T S sty24 rfl ⟨_, _, rfl, ⟨0, rfl⟩, rfl⟩ rfl (by decide) rfl fun _ _ b7 S T => ?_
   replace S := S.only [0, 1] rfl
   obtain ⟨h10, H⟩ := ck H
   refine r_app (ix := 1) (iy := 0) (xs := x3) (ys := [wr .u8 x2]) T S rfl rfl rfl rfl (by decide) sty24 tu24 (by decide) h10 rfl fun _ _ A8 k9 S T => ?_
   obtain ⟨x12, h11, H⟩ := bd H
   refine rc T tc31 rfl rfl (slices_Clip_byte.ok _ _ (x3 ++ [wr .u8 x2]) (S.sel (is := [1]) rfl) _ h11) ?_
   rintro _ _ ⟨A13, rfl, S⟩
   refine ⟨_, rfl, fun _ T => ?_⟩
   replace S := S.join
   refine v1 T rfl fun T => ?_
   obtain rfl := sj H
   exact rtn T Try.func55 rfl rfl ⟨A13, x12.length, rfl, (S.only [0] rfl)⟩
theorem ok (F : List Atom) (w : World) (z : Nat) (x1 : Int) (S : SL ([] ++ F) w) (r : (List Int)) (H : f z x1 = some r) : Calls Try.prog 55 #[.int .u64 x1] w (R F r) := by
 refine enter (vs := [.int .u64 x1]) Try.func55 rfl Try.ntmps55 (nle rfl) fun a T => ?_
 refine sq (rg (v1 T rfl fun T => sq (rg (v1 T rfl fun T => sq (bq (Gets.loop ?_))))))
 replace S := S.nil ku8 .own
 exact L0_ok F r z x1 z x1 none [] 0 _ _ (T.sb rfl) (S.only [0] rfl) H
end c_Number
namespace c_register
noncomputable def c0 : Code := match Try.f84.body with | some c => c | none => .skip
def R (F : List Atom) (x2 : List Int) (A3 : OA) (k4 : Nat) (m5 : Md) (r : Int) : Ending → World → Prop := fun e w' => e = .returned (.int .u32 r) ∧ SL ([sl m5 ku8 A3 k4 x2] ++ F) w'
def L1 (z : Nat) (q0 : Int → Int → Option Int) (x2 : List Int) (x7 : Int) : Nat → Int → Int → Option Int
 | 0, _, _ => none
 | m + 1, x10, x11 => If (decide (x11 < 8)) (L1 z q0 x2 x7 m (bXor .u32 (sShr .u32 x10 1) (bAnd .u32 3988292384 (wr .u32 (0 - (bAnd .u32 x10 1))))) (wr .i64 (x11 + 1))) (q0 x10 (wr .i64 (x7 + 1)))
def L0 (z : Nat) (x2 : List Int) : Nat → Int → Int → Option Int
 | 0, _, _ => none
 | m + 1, x6, x7 => If (decide (x7 < (x2.length : Int))) (Ck (0 ≤ x7 ∧ x7 < (x2.length : Int)) (L1 z (L0 z x2 m) x2 x7 z (bXor .u32 x6 (wr .u32 (gi (0 : Int) x2 x7))) 0)) (some x6)
def f (z : Nat) (x1 : Int) (x2 : List Int) : Option Int := L0 z x2 z x1 0
noncomputable def ptL1 : List Item := [.code (cB (cB (cr 3 (cB (cL (cR (cR (cB (cB (cR (cL (cR c0)))))))))))), .inLoop (cB (cB (cr 3 (cB (cL (cR (cR (cB (cB (cR (cL (cR c0)))))))))))), .inBlock 2, .inBlock 1, .code (cr 3 (cB (cB (cR (cL (cR c0)))))), .inLoop (cB (cB (cR (cL (cR c0))))), .inBlock 0, .code (cR (cR c0))]
noncomputable def ptL0 : List Item := [.code (cB (cB (cR (cL (cR c0))))), .inLoop (cB (cB (cR (cL (cR c0))))), .inBlock 0, .code (cR (cR c0))]
theorem L1_ok (F : List Atom) (r : Int) (z : Nat) (x2 : List Int) (A3 : OA) (k4 : Nat) (m5 : Md) (x7 x1 : Int) (q0 : Int → Int → Option Int) (hq0 : ∀ (x6 x7 : Int) (a : Act) (w : World), Tm 32 [(0, .int .u32 x6), (8, .slice A3 x2.length k4), (9, .int .i64 (x2.length : Int)), (10, .int .i64 x7)] a → SL ([sl m5 ku8 A3 k4 x2] ++ F) w → q0 x6 x7 = some r → Gets Try.prog 84 ptL0 a w (R F x2 A3 k4 m5 r)) (m : Nat) : ∀ (x10 x11 : Int) (a : Act) (w : World), Tm 32 [(0, .int .u32 x10), (8, .slice A3 x2.length k4), (9, .int .i64 (x2.length : Int)), (10, .int .i64 x7), (18, .int .i64 x11)] a → SL ([sl m5 ku8 A3 k4 x2] ++ F) w → L1 z q0 x2 x7 m x10 x11 = some r → Gets Try.prog 84 ptL1 a w (R F x2 A3 k4 m5 r) := by
 induction m with
 | zero => intro _ _ _ _ _ _ H; cases H
 | succ m ih =>
  intro x10 x11 a w T S H
  refine sq (rg (v1 T rfl fun T => sq ?_))
  rcases ifE H with ⟨h12, H⟩ | ⟨h12, H⟩
  ·refine cdT T rfl h12 (sk (sq (bq (sq (rg (v3 T rfl rfl rfl fun T => ?_))))))
   refine sq (rg (v1 T rfl fun T => r_shr T rfl rfl (by decide) rfl fun _ T => ?_))
   refine v1 T rfl fun T => rg (v3 T rfl rfl rfl fun T => v3 T rfl rfl rfl fun T => Gets.inBlock (rg (v2 T rfl rfl fun T => Gets.inLoop ?_)))
   exact ih (bXor .u32 (sShr .u32 x10 1) (bAnd .u32 3988292384 (wr .u32 (0 - (bAnd .u32 x10 1))))) (wr .i64 (x11 + 1)) _ _ (T.sb rfl) (S.only [0] rfl) H
  ·refine cdF T rfl h12 (Gets.exit rfl (Gets.inBlock (rg (v2 T rfl rfl fun T => Gets.inLoop ?_))))
   exact hq0 x10 (wr .i64 (x7 + 1)) _ _ (T.sb rfl) (S.only [0] rfl) H
theorem L0_ok (F : List Atom) (r : Int) (z : Nat) (x2 : List Int) (A3 : OA) (k4 : Nat) (m5 : Md) (x1 : Int) (m : Nat) : ∀ (x6 x7 : Int) (a : Act) (w : World), Tm 32 [(0, .int .u32 x6), (8, .slice A3 x2.length k4), (9, .int .i64 (x2.length : Int)), (10, .int .i64 x7)] a → SL ([sl m5 ku8 A3 k4 x2] ++ F) w → L0 z x2 m x6 x7 = some r → Gets Try.prog 84 ptL0 a w (R F x2 A3 k4 m5 r) := by
 induction m with
 | zero => intro _ _ _ _ _ _ H; cases H
 | succ m ih =>
  intro x6 x7 a w T S H
  refine sq (rg (v1 T rfl fun T => sq ?_))
  rcases ifE H with ⟨h8, H⟩ | ⟨h8, H⟩
  ·refine cdT T rfl h8 (sk (sq (bq (sq (rg ?_)))))
   obtain ⟨h9, H⟩ := ck H
   refine r_ia (ix := 0) T S rfl rfl rfl rfl tu24 ts5 h9.1 h9.2 rfl fun _ T => r_ldE (ix := 0) (i := x7) (off := 0) (f := (Value.int .u8)) T S rfl ti5 rfl (0 : Int) _ rfl rfl (Fld.all _) h9.1 h9.2 id rfl fun _ T => v1 T rfl fun T => sq (rg (v2 T rfl rfl fun T => r_conv T rfl tu5 tu99 rfl fun _ T => v2 T rfl rfl fun T => sq (rg (v1 T rfl fun T => bq (Gets.loop ?_)))))
   exact L1_ok F r z x2 A3 k4 m5 x7 x1 (L0 z x2 m) ih z (bXor .u32 x6 (wr .u32 (gi (0 : Int) x2 x7))) 0 _ _ (T.sb rfl) (S.only [0] rfl) H
  ·refine cdF T rfl h8 (Gets.exit rfl (sq (rg (v2 T rfl rfl fun T => ?_))))
   obtain rfl := sj H
   exact rtn T Try.func84 rfl rfl ⟨rfl, (S.only [0] rfl)⟩
theorem ok (F : List Atom) (w : World) (z : Nat) (x1 : Int) (x2 : List Int) {A3 : OA} {k4 : Nat} {m5 : Md} (S : SL ([sl m5 ku8 A3 k4 x2] ++ F) w) (r : Int) (H : f z x1 x2 = some r) : Calls Try.prog 84 #[.int .u32 x1, .slice A3 x2.length k4] w (R F x2 A3 k4 m5 r) := by
 refine enter (vs := [.int .u32 x1, .slice A3 x2.length k4]) Try.func84 rfl Try.ntmps84 (nle rfl) fun a T => ?_
 refine sq (rg (v1 T rfl fun T => sq (sq (rg (v1 T rfl fun T => rn T rfl tu24 rfl fun _ T => v1 T rfl fun T => bq (Gets.loop ?_))))))
 exact L0_ok F r z x2 A3 k4 m5 x1 z x1 0 _ _ (T.sb rfl) (S.only [0] rfl) H
end c_register
namespace c_sums
def R (F : List Atom) (x1 : List Int) (A2 : OA) (k3 : Nat) (m4 : Md) (x5 : List Int) (A6 : OA) (k7 : Nat) (m8 : Md) (r : (List Int)) : Ending → World → Prop := fun e w' => ∃ (A14 : OA), ∃ (k15 : Nat), e = .returned (.slice A14 r.length k15) ∧ SL ([sl .own ku8 A14 k15 r, sl m4 ku8 A2 k3 x1, sl m8 ku8 A6 k7 x5] ++ F) w'
def f (z : Nat) (x1 x5 : List Int) : Option (List Int) := Bd (c_register.f z 4294967295 x1) fun x10 => Bd (c_register.f z x10 x5) fun x12 => some [wr .u8 (bNot .u32 x12), wr .u8 (sShr .u32 (bNot .u32 x12) 8), wr .u8 (sShr .u32 (bNot .u32 x12) 16), wr .u8 (sShr .u32 (bNot .u32 x12) 24)]
theorem ok (F : List Atom) (w : World) (z : Nat) (x1 x5 : List Int) {A2 : OA} {k3 : Nat} {m4 : Md} {A6 : OA} {k7 : Nat} {m8 : Md} (S : SL ([sl m4 ku8 A2 k3 x1, sl m8 ku8 A6 k7 x5] ++ F) w) (r : (List Int)) (H : f z x1 x5 = some r) : Calls Try.prog 63 #[.slice A2 x1.length k3, .slice A6 x5.length k7] w (R F x1 A2 k3 m4 x5 A6 k7 m8 r) := by
 refine enter (vs := [.slice A2 x1.length k3, .slice A6 x5.length k7]) Try.func63 rfl Try.ntmps63 (nle rfl) fun a T => ?_
 refine sq (rg (v1 T rfl fun T => sq (rg (v1 T rfl fun T => ?_))))
 obtain ⟨x10, h9, H⟩ := bd H
 refine rc T Try.call84 rfl rfl (c_register.ok _ _ z 4294967295 x1 (S.sel (is := [0]) rfl) _ h9) ?_
 rintro _ _ ⟨rfl, S⟩
 refine ⟨_, rfl, fun _ T => ?_⟩
 replace S := S.join
 refine v1 T rfl fun T => ?_
 obtain ⟨x12, h11, H⟩ := bd H
 refine rc T Try.call84 rfl rfl (c_register.ok _ _ z x10 x5 (S.sel (is := [1]) rfl) _ h11) ?_
 rintro _ _ ⟨rfl, S⟩
 refine ⟨_, rfl, fun _ T => ?_⟩
 replace S := S.join
 refine v2 T rfl rfl fun T => sq (rg ?_)
 refine v1 T rfl fun T => r_conv T rfl tu99 tu5 rfl fun _ T => v1 T rfl fun T => r_shr T rfl rfl (by decide) rfl fun _ T => ?_
 refine r_conv T rfl tu99 tu5 rfl fun _ T => v1 T rfl fun T => r_shr T rfl rfl (by decide) rfl fun _ T => ?_
 refine r_conv T rfl tu99 tu5 rfl fun _ T => v1 T rfl fun T => r_shr T rfl rfl (by decide) rfl fun _ T => ?_
 refine r_conv T rfl tu99 tu5 rfl fun _ T => ?_
 replace S := SL.val (κ := ku8) (x := wr .u8 (bNot .u32 x12)) (cs := [.int .u8 (wr .u8 (bNot .u32 x12))]) (fun _ => rfl) S
 replace S := SL.val (κ := ku8) (x := wr .u8 (sShr .u32 (bNot .u32 x12) 8)) (cs := [.int .u8 (wr .u8 (sShr .u32 (bNot .u32 x12) 8))]) (fun _ => rfl) S
 replace S := SL.val (κ := ku8) (x := wr .u8 (sShr .u32 (bNot .u32 x12) 16)) (cs := [.int .u8 (wr .u8 (sShr .u32 (bNot .u32 x12) 16))]) (fun _ => rfl) S
 replace S := SL.val (κ := ku8) (x := wr .u8 (sShr .u32 (bNot .u32 x12) 24)) (cs := [.int .u8 (wr .u8 (sShr .u32 (bNot .u32 x12) 24))]) (fun _ => rfl) S
 refine r_bsl (κ := ku8) (xs := [wr .u8 (bNot .u32 x12), wr .u8 (sShr .u32 (bNot .u32 x12) 8), wr .u8 (sShr .u32 (bNot .u32 x12) 16), wr .u8 (sShr .u32 (bNot .u32 x12) 24)]) (vs := [.int .u8 (wr .u8 (bNot .u32 x12)), .int .u8 (wr .u8 (sShr .u32 (bNot .u32 x12) 8)), .int .u8 (wr .u8 (sShr .u32 (bNot .u32 x12) 16)), .int .u8 (wr .u8 (sShr .u32 (bNot .u32 x12) 24))]) T S sty24 rfl ⟨_, _, rfl, ⟨3, rfl⟩, ⟨_, _, rfl, ⟨2, rfl⟩, ⟨_, _, rfl, ⟨1, rfl⟩, ⟨_, _, rfl, ⟨0, rfl⟩, rfl⟩⟩⟩⟩ rfl (by decide) rfl fun _ _ b13 S T => ?_
 replace S := S.only [0, 4, 4] rfl
 refine v1 T rfl fun T => ?_
 obtain rfl := sj H
 replace T := T.re (s := 4) (v' := .slice (some ⟨b13, 0, none⟩) [wr .u8 (bNot .u32 x12), wr .u8 (sShr .u32 (bNot .u32 x12) 8), wr .u8 (sShr .u32 (bNot .u32 x12) 16), wr .u8 (sShr .u32 (bNot .u32 x12) 24)].length 4) rfl (by simp)
 exact rtn T Try.func63 rfl rfl ⟨(some ⟨b13, 0, none⟩), 4, rfl, (S.only [0, 1, 0] rfl)⟩
end c_sums
namespace slices_Grow_byte
noncomputable def c0 : Code := match Try.f83.body with | some c => c | none => .skip
def R (F : List Atom) (r : (List Int)) : Ending → World → Prop := fun e w' => ∃ (A16 : OA), ∃ (k17 : Nat), e = .returned (.slice A16 r.length k17) ∧ SL ([sl .own ku8 A16 k17 r] ++ F) w'
def J0 (x13 : List Int) : Option (List Int) := some x13
def f (x1 : Int) : Option (List Int) := If (decide (x1 < 0)) (none) (If (decide ((wr .i64 (x1 - (wr .i64 ((0 : Int) - (0 : Int))))) > 0)) (Ck (0 ≤ (0 : Int) ∧ (0 : Int) ≤ (([] : List Int).length : Int)) (Ck (0 < wr .i64 (x1 - (wr .i64 ((0 : Int) - (0 : Int)))) ∧ (wr .i64 (x1 - (wr .i64 ((0 : Int) - (0 : Int))))) * 1 ≤ 140737488355328) (Ck ((0 : Int) ≤ ((List.replicate (Int.toNat (wr .i64 (x1 - (wr .i64 ((0 : Int) - (0 : Int)))))) (0 : Int)).length : Int)) (J0 (cut (List.replicate (Int.toNat (wr .i64 (x1 - (wr .i64 ((0 : Int) - (0 : Int)))))) (0 : Int)) (Int.toNat 0) (Int.toNat (0 : Int))))))) (J0 []))
noncomputable def ptJ0 : List Item := [.code (cL (cr 3 c0)), .code (cr 4 c0)]
theorem J0_ok (F : List Atom) (r : (List Int)) (x1 : Int) (A14 : OA) (x13 : List Int) (k15 : Nat) (a : Act) (w : World) (T : Tm 27 [(0, .slice A14 x13.length k15)] a) (S : SL ([sl .own ku8 A14 k15 x13] ++ F) w) (H : J0 x13 = some r) : Gets Try.prog 83 ptJ0 a w (R F r) := by
 refine rg (v2 T rfl rfl fun T => ?_)
 obtain rfl := sj H
 exact rtn T Try.func83 rfl rfl ⟨A14, k15, rfl, (S.only [0] rfl)⟩
theorem ok (F : List Atom) (w : World) (x1 : Int) (S : SL ([] ++ F) w) (r : (List Int)) (H : f x1 = some r) : Calls Try.prog 83 #[.slice none 0 0, .int .i64 x1] w (R F r) := by
 refine enter (vs := [.slice none 0 0, .int .i64 x1]) Try.func83 rfl Try.ntmps83 (nle rfl) fun a T => ?_
 refine sq (rg (v1 T rfl fun T => sq (sq (rg (v2 T rfl rfl fun T => ?_)))))
 rcases ifE H with ⟨h2, H⟩ | ⟨h2, H⟩
 ·refine cdT T rfl h2 ?_
  cases H
 ·refine cdF T rfl h2 (sk (sq (sq (rg (v2 T rfl rfl fun T => r_capS T rfl tu24 rfl fun _ T => v1 T rfl fun T => rn T rfl tu24 rfl fun _ T => v3 T rfl rfl rfl fun T => sq (rg (v2 T rfl rfl fun T => ?_)))))))
  rcases ifE H with ⟨h3, H⟩ | ⟨h3, H⟩
  ·refine cdT T rfl h3 (rg (v2 T rfl rfl fun T => r_capS T rfl tu24 rfl fun _ T => ?_))
   replace S := S.nil ku8 .ro
   have h4 := S.len (i := 0) rfl
   obtain ⟨h5, H⟩ := ck H
   refine r_slR (ix := 0) (xs := ([] : List Int)) T S rfl rfl (fun h => by cases h) rfl rfl rfl (Int.le_refl _) h5.1 h5.2 (by omega) (by omega) tu24 ts5 rfl fun _ A6 S T => ?_
   replace T := T.re (s := 20) (v' := .slice A6 0 0) rfl (by simp [cut])
   refine v1 T rfl fun T => ?_
   obtain ⟨h7, H⟩ := ck H
   refine r_appZ (κ := ku8) T S rfl rfl sty24 (0 : Int) (fun _ => rfl) tu3 (by decide) h7.1 h7.2 rfl fun _ _ b8 k9 S T => ?_
   replace T := T.re (s := 22) (v' := .slice (some ⟨b8, 0, none⟩) (List.replicate (Int.toNat (wr .i64 (x1 - (wr .i64 ((0 : Int) - (0 : Int)))))) (0 : Int)).length k9) rfl (by simp)
   refine v1 T rfl fun T => rn T rfl tu24 rfl fun _ T => ?_
   have h10 := S.len (i := 0) rfl
   obtain ⟨h11, H⟩ := ck H
   refine r_slO (ix := 0) (xs := (List.replicate (Int.toNat (wr .i64 (x1 - (wr .i64 ((0 : Int) - (0 : Int)))))) (0 : Int))) T S rfl rfl (fun h => by cases h) rfl rfl rfl (Int.le_refl _) h5.1 h11 (by have := h11; omega) (by omega) tu24 ts5 rfl fun _ A12 S T => ?_
   refine v1 T rfl fun T => sq ?_
   exact J0_ok F r x1 A12 (cut (List.replicate (Int.toNat (wr .i64 (x1 - (wr .i64 ((0 : Int) - (0 : Int)))))) (0 : Int)) (Int.toNat 0) (Int.toNat (0 : Int))) (Int.toNat (k9 : Int) - Int.toNat 0) _ _ (T.sb rfl) (S.only [0] rfl) H
  ·refine cdF T rfl h3 (sk (sq ?_))
   replace S := S.nil ku8 .own
   exact J0_ok F r x1 none [] 0 _ _ (T.sb rfl) (S.only [0] rfl) H
end slices_Grow_byte
end Go.Proofs.Ytghpokmkhlmgcaa
