/- The core of this project's walks, part 9: from a call that leaves all as it was to a row's statement. -/
import Derived.Test.YtghpokmkhlmgcaaSp1
import Derived.ProofKit
import Derived.Deep.Slices
import Derived.Lib.SmallJoins
import Derived.IntWalk
import Derived.Test.YtghpokmkhlmgcaaSp3
import Derived.Test.YtghpokmkhlmgcaaSp2
import Derived.Test.YtghpokmkhlmgcaaSp4
import Derived.KernelRfl
import Derived.Test.YtghpokmkhlmgcaaRows
namespace Go.Proofs.Ytghpokmkhlmgcaa.X
open Go Go.ChangeShapes Go.WideShapes Go.ChangeAt Go.RowKit Go.WideElems

/-- all arguments read behind the call as they did, if nothing below the heap's old size has turned -/
theorem below_trodAll {H : Type} {enc : TypeId × Value → H} {P : Program} (hl : laidOutB P = true) {W W' : World} (hb : Below W.heap.size W W') {sp : Nat → Bool} :
    ∀ {ts : List TypeId} {vs : List Value} {ds : List (DataW H)} {ps : List MemPlace}, (∀ t ∈ ts, P.readableRec t = true ∧ t < P.types.size) → (∀ x ∈ ps, x.block < W.heap.size) → (∀ x ∈ ps, sp x.block = true) →
      DataW.TrodAll enc P W 0 (fun _ => true) true ts vs ds ps → DataW.TrodAll enc P W' 0 sp true ts vs ds ps
  | [], vs, ds, ps, _, _, _, h => by
    obtain ⟨rfl, rfl, rfl⟩ := trodAll_nil h
    exact trodAll_mk0
  | t :: ts, vs, ds, ps, hr, hlt, hsp, h => by
    obtain ⟨v, vs1, d, ds1, a, b, rfl, rfl, rfl, h1, h2⟩ := trodAll_cons h
    have ih := below_trodAll hl hb (fun u hu => hr u (List.mem_cons_of_mem _ hu)) (fun x hx => hlt x (List.mem_append_right _ hx)) (fun x hx => hsp x (List.mem_append_right _ hx)) h2
    exact ⟨a, b, (WideElems.Trod_stays hl (hr t (List.mem_cons_self ..)).1 (hr t (List.mem_cons_self ..)).2 h1 (fun x hx => hb.same (hlt x (List.mem_append_left _ hx))) (fun x hx => hsp x (List.mem_append_left _ hx))), ih, rfl⟩
/-- the row 'true, and the arguments read as they did' -/
theorem row_true {H : Type} {enc : TypeId × Value → H} {P : Program} (hl : laidOutB P = true) {f : Func} {s : ChangeSpec} {W W' : World} {args : Array Value} {ds gs : List (DataW H)} {before : List MemPlace} {t : TypeId}
    (hW : DataW.Whole enc P f.params.toList s.vars false W args.toList ds gs before) (hv : s.vars = []) (hs : (s.fn H ds).results = [.lit (.bool true)] ∧ (s.fn H ds).args = ds ∧ (s.fn H ds).vars = [])
    (hr : ∀ t ∈ f.params.toList, P.readableRec t = true ∧ t < P.types.size) (hres : f.resultTypes = #[t]) (ht : P.underlying t = some .bool) (hb : Below W.heap.size W W') :
    s.post enc P f false true false false W args (.bool true) W' := by
  have hW' := hW
  have hlt : ∀ x ∈ before, x.block < W.heap.size := fun x hx => by simpa using hW'.lt x hx
  obtain ⟨p, q, hA, hV, rfl, _, _⟩ := hW
  rw [hv] at hV
  obtain ⟨rfl, rfl⟩ := trodVars_none hV
  obtain ⟨s1, s2, s3⟩ := hs
  simp only [List.append_nil] at hlt hW'
  refine ⟨ds, [], p, [], p, [], hW', ?_, ?_, ?_, hb.frame _, fun h => by cases h⟩
  · rw [List.append_nil, s1, hres]
    exact trodAll_mk1 (shut_bool ht true)
  · rw [List.append_nil, s2]
    exact below_trodAll hl hb hr hlt (fun x hx => by simpa using hlt x hx) hA
  · rw [List.append_nil, s3, hv]
    exact rfl

/-! ### what an argument reads as, as data of Lean -/
def hpOf (W : World) : Hp := fun b => W.heap[b]?
/-- what is met in reading a place of type t is data of kind κ -/
structure Rd {α : Type} (κ : K α) (P : Program) (t : TypeId) (val : α → Prop) : Prop where
  sz : P.cellsOf t = κ.sz
  pos : 0 < κ.sz
  rd : ∀ {H : Type} {enc : TypeId × Value → H} {W : World} {n : Nat} {cs : List Value} {x : DataW H × List MemPlace}, DataW.trod enc P W 0 (fun _ => true) true n t cs = some x → ∃ y, κ.rep (hpOf W) y cs ∧ val y
theorem Rd.int {P : Program} {t : TypeId} {k : IntKind} (ht : P.underlying t = some (.int k)) (hc : P.cellsOf t = 1) : Rd (kInt k) P t (fun n => (Lit.int k n).wf = true) :=
  ⟨hc, Nat.one_pos, fun h => by obtain ⟨n, rfl, _, hw⟩ := DataW.trod_int ht h; exact ⟨n, rfl, hw⟩⟩
theorem Rd.bool {P : Program} {t : TypeId} (ht : P.underlying t = some .bool) (hc : P.cellsOf t = 1) : Rd kBool P t (fun _ => True) :=
  ⟨hc, Nat.one_pos, fun h => by obtain ⟨b, rfl, _⟩ := DataW.trod_bool ht h; exact ⟨b, rfl, trivial⟩⟩
theorem Rd.str {P : Program} {t : TypeId} (ht : P.underlying t = some .string) (hc : P.cellsOf t = 1) : Rd kStr P t (fun s => s.size ≤ maxLen) :=
  ⟨hc, Nat.one_pos, fun h => by obtain ⟨b, rfl, _, hb⟩ := DataW.trod_string ht h; exact ⟨b, rfl, hb⟩⟩
theorem cell_cells {W : World} {a : Addr} {v : Value} (h : W.cell? a = some v) : ∃ arr e fr, W.heap[a.block]? = some (.cells arr e fr) ∧ a.spot = none ∧ arr[a.off]? = some v := by
  unfold World.cell? at h
  split at h
  · rename_i c e fr hh
    split at h
    · cases h
    · rename_i hs
      refine ⟨c, e, fr, hh, ?_, h⟩
      cases hsp : a.spot with
      | none => rfl
      | some x => rw [hsp] at hs; simp at hs
  · cases h
theorem addr_add2 (a : Addr) (i j : Nat) : (a.add i).add j = a.add (i + j) := by
  unfold Addr.add
  by_cases hi : i = 0 <;> by_cases hj : j = 0 <;> simp [hi, hj, Nat.add_assoc]
theorem row_cells {α : Type} {κ : K α} {W : World} {a : Addr} {val : α → Prop} : ∀ (len : Nat), (∀ i, i < len → ∃ cs', W.cells? 0 (a.add (i * κ.sz)) κ.sz = some cs' ∧ ∃ y, κ.rep (hpOf W) y cs' ∧ val y) →
    ∃ (ys : List α) (cs : List Value), ys.length = len ∧ cells κ (hpOf W) ys cs ∧ cs.length = len * κ.sz ∧ (∀ j, j < len * κ.sz → W.cell? (a.add j) = cs[j]?) ∧ ∀ y ∈ ys, val y
  | 0, _ => ⟨[], [], rfl, rfl, by simp, fun j hj => by simp at hj, fun y hy => by cases hy⟩
  | len + 1, h => by
    obtain ⟨ys, cs, h1, h2, h3, h4, h5⟩ := row_cells len fun i hi => h i (by omega)
    obtain ⟨cs', g1, y, g2, g3⟩ := h len (by omega)
    obtain ⟨_, q2, q3⟩ := World.cells?_some g1
    refine ⟨ys ++ [y], cs ++ cs', by simp [h1], cells.append (show cells κ (hpOf W) [y] cs' from ⟨cs', [], by simp, g2, rfl⟩) h2, by rw [List.length_append, h3, q2, Nat.add_mul, Nat.one_mul], fun j hj => ?_, fun z hz => ?_⟩
    · by_cases hjl : j < len * κ.sz
      · rw [List.getElem?_append_left (by omega)]; exact h4 j hjl
      · rw [List.getElem?_append_right (by omega), h3]
        have := q3 (j - len * κ.sz) (by rw [Nat.add_mul, Nat.one_mul] at hj; omega)
        rw [← this, addr_add2]
        congr 2
        omega
    · rcases List.mem_append.1 hz with q | q
      · exact h5 z q
      · rw [List.mem_singleton.1 q]; exact g3
theorem Rd.slice {α : Type} {κ : K α} {P : Program} {t e : TypeId} {val : α → Prop} (R : Rd κ P e val) (ht : P.underlying t = some (.slice e)) (hc : P.cellsOf t = 1) : Rd (kSl κ) P t (fun xs => xs.length ≤ maxLen ∧ ∀ x ∈ xs, val x) := by
  refine ⟨hc, Nat.one_pos, fun {H enc W n cs x} h => ?_⟩
  rcases Go.Deep.open_slice ht h with ⟨rfl, _⟩ | ⟨a, len, cap, m, n', D, Pl, rfl, _, h1, h2, h3, _, h4⟩
  · exact ⟨[], ⟨none, 0, rfl, Nat.le_refl _, fun _ => rfl, .inl rfl⟩, by simp, fun x hx => by cases hx⟩
  · simp only [if_true] at h3
    rw [R.sz] at h4
    obtain ⟨ys, cs, g1, g2, g3, g4, g5⟩ := row_cells (κ := κ) (val := val) (a := a) (W := W) len fun i hi => by
      obtain ⟨cs', z1, z2⟩ := h4 i (by omega)
      exact ⟨cs', z1, R.rd z2⟩
    refine ⟨ys, ⟨some a, cap, by rw [g1], by omega, (fun h => by cases h), ?_⟩, by omega, g5⟩
    by_cases hl : len = 0
    · exact .inl (List.eq_nil_of_length_eq_zero (by omega))
    · right
      have hpos := R.pos
      have hm : 0 < len * κ.sz := Nat.mul_pos (by omega) hpos
      have hc0 : ∃ v, W.cell? (a.add 0) = some v := by
        rw [g4 0 hm]; exact ⟨cs[0]'(by omega), List.getElem?_eq_getElem (by omega)⟩
      obtain ⟨v, hv⟩ := hc0
      have ha0 : a.add 0 = a := by simp [Addr.add]
      rw [ha0] at hv
      obtain ⟨arr, e', fr, k1, k2, k3⟩ := cell_cells hv
      obtain ⟨b, o, sp⟩ := a
      simp only at k1 k2 k3
      subst k2
      refine ⟨b, o, arr, e', fr, rfl, k1, cs, g2, fun j v hj => ?_⟩
      have hjl : j < len * κ.sz := by
        rcases Nat.lt_or_ge j cs.length with q | q
        · omega
        · rw [List.getElem?_eq_none q] at hj; cases hj
      have := g4 j hjl
      rw [hj, add_eA, eA_some] at this
      simpa [World.cell?, k1] using this
theorem Rd.iso {α β : Type} {κ : K α} {P : Program} {t : TypeId} {val : α → Prop} {val' : β → Prop} {f : β → α} {g : α → β} (R : Rd κ P t val) (hfg : ∀ a, f (g a) = a) (hv : ∀ a, val a → val' (g a)) : Rd (kIso κ f) P t val' :=
  ⟨R.sz, R.pos, fun h => by
    obtain ⟨y, h1, h2⟩ := R.rd h
    exact ⟨g y, by show κ.rep _ (f (g y)) _; rw [hfg]; exact h1, hv y h2⟩⟩
/-- the fields of a struct, from an offset on -/
def RdF {α : Type} (κ : K α) (P : Program) (fs : List Field) (off : Nat) (val : α → Prop) : Prop :=
  ∀ {H : Type} {enc : TypeId × Value → H} {W : World} {cs : List Value}, (∀ f ∈ fs, ∃ n x, DataW.trod (H := H) enc P W 0 (fun _ => true) true n f.type ((cs.drop f.offset).take (P.cellsOf f.type)) = some x) → ∃ y, κ.rep (hpOf W) y ((cs.drop off).take κ.sz) ∧ val y
theorem RdF.last {α : Type} {κ : K α} {P : Program} {f : Field} {off : Nat} {val : α → Prop} (R : Rd κ P f.type val) (ho : f.offset = off) : RdF κ P [f] off val := fun {H enc W cs} h => by
  obtain ⟨n, x, h⟩ := h f (List.mem_singleton.2 rfl)
  rw [R.sz, ho] at h
  exact R.rd h
theorem RdF.cons {α β : Type} {κ : K α} {μ : K β} {P : Program} {f : Field} {fs : List Field} {off : Nat} {val : α → Prop} {val' : β → Prop} (R : Rd κ P f.type val) (ho : f.offset = off) (R' : RdF μ P fs (off + κ.sz) val') :
    RdF (kPair κ μ) P (f :: fs) off (fun p => val p.1 ∧ val' p.2) := fun {H enc W cs} h => by
  obtain ⟨y', g1, g2⟩ := R' (cs := cs) fun f' hf => h f' (List.mem_cons_of_mem _ hf)
  obtain ⟨n, x, h⟩ := h f (List.mem_cons_self ..)
  rw [R.sz, ho] at h
  obtain ⟨y, h1, h2⟩ := R.rd h
  refine ⟨(y, y'), ⟨_, _, ?_, h1, g1⟩, h2, g2⟩
  show List.take (κ.sz + μ.sz) _ = _
  rw [List.take_add, List.drop_drop]
theorem Rd.struct {α : Type} {κ : K α} {P : Program} {t : TypeId} {fs : Array Field} {val : α → Prop} (ht : P.underlying t = some (.struct fs)) (hc : P.cellsOf t = κ.sz) (hp : 0 < κ.sz) (R : RdF κ P fs.toList 0 val) : Rd κ P t val :=
  ⟨hc, hp, fun {H enc W n cs x} h => by
    obtain ⟨xs, n, _, rfl, hl, hlen, hf⟩ := DataW.trod_struct ht h
    obtain ⟨y, h1, h2⟩ := R (cs := cs) (enc := enc) (W := W) fun f hfm => by
      obtain ⟨i, hi⟩ := List.mem_iff_getElem?.1 hfm
      have h1 := hf i f (by simpa using hi)
      have hil : i < xs.length := by
        rw [hlen]
        rcases Nat.lt_or_ge i fs.toList.length with q | q
        · simpa using q
        · rw [List.getElem?_eq_none q] at hi; cases hi
      exact ⟨n, xs[i], by rw [h1]; exact List.getElem?_eq_getElem hil⟩
    refine ⟨y, ?_, h2⟩
    rw [List.drop_zero, List.take_of_length_le (by omega)] at h1
    exact h1⟩

/-- a call's start: what the arguments read as, and that all that is there stays -/
theorem SL.start {W : World} : ∀ (As : List Atom), (∀ A ∈ As, A.holds (env W) (hpOf W) Hp.zero) → SL (As ++ [X.snap W]) W := by
  intro As h
  have key : ∀ (As : List Atom), (∀ A ∈ As, A.holds (env W) (hpOf W) Hp.zero) → sats (env W) (hpOf W) (As ++ [X.snap W]) Hp.zero := by
    intro As
    induction As with
    | nil => intro _; exact ⟨Hp.zero, Hp.zero, Hp.zero_dj _, Hp.le_refl _, Hp.le_refl _, ⟨rfl, fun b o e => e⟩, trivial⟩
    | cons A As ih =>
      intro h
      exact ⟨Hp.zero, Hp.zero, Hp.zero_dj _, Hp.le_refl _, Hp.le_refl _, h A (List.mem_cons_self ..), ih fun B hB => h B (List.mem_cons_of_mem _ hB)⟩
  exact ⟨hpOf W, Hp.zero, fun b o e => e, (fun _ _ e => by cases e), Hp.dj_symm (Hp.zero_dj _), key As h⟩
/-- the end: nothing that was there has turned -/
theorem SL.done {l : List Atom} {W W' : World} (S : SL (l ++ [X.snap W]) W') : Below W.heap.size W W' := SL.below (L := []) (SL.dropL S)
end Go.Proofs.Ytghpokmkhlmgcaa.X

namespace Go.Proofs.Ytghpokmkhlmgcaa.X
open Go

/-! ### a printed function answers, and its answer is so -/
def Ok {R : Type} (x : Option R) (p : R → Prop) : Prop := ∃ r, x = some r ∧ p r
theorem ck_y {R : Type} {p : Prop} [Decidable p] {k : Option R} (h : p) : Ck p k = k := if_pos h
theorem if_y {R : Type} {b : Bool} {x y : Option R} (h : b = true) : If b x y = x := by rw [h]; rfl
theorem if_n {R : Type} {b : Bool} {x y : Option R} (h : b = false) : If b x y = y := by rw [h]; rfl
@[simp] theorem bd_some {S R : Type} {s : S} {k : S → Option R} : Bd (some s) k = k s := rfl
@[simp] theorem if_t {R : Type} {x y : Option R} : If true x y = x := rfl
@[simp] theorem if_f {R : Type} {x y : Option R} : If false x y = y := rfl
theorem bd_e {S R : Type} {x : Option S} {s : S} {k : S → Option R} (h : x = some s) : Bd x k = k s := by rw [h]; rfl
namespace Ok
variable {R S : Type} {p : R → Prop}
theorem some {r : R} (h : p r) : Ok (some r) p := ⟨r, rfl, h⟩
theorem ck {c : Prop} [Decidable c] {k : Option R} (h : c) (n : Ok k p) : Ok (Ck c k) p := by rw [ck_y h]; exact n
theorem ite {b : Bool} {x y : Option R} (h : b = true → Ok x p) (n : b = false → Ok y p) : Ok (If b x y) p := by
  cases b
  · exact n rfl
  · exact h rfl
theorem y {b : Bool} {x y : Option R} (e : b = true) (h : Ok x p) : Ok (If b x y) p := by rw [if_y e]; exact h
theorem n {b : Bool} {x y : Option R} (e : b = false) (h : Ok y p) : Ok (If b x y) p := by rw [if_n e]; exact h
theorem bd {q : S → Prop} {x : Option S} {k : S → Option R} (h : Ok x q) (n : ∀ s, q s → Ok (k s) p) : Ok (Bd x k) p := by
  obtain ⟨s, rfl, hs⟩ := h
  exact n s hs
theorem bde {x : Option S} {s : S} {k : S → Option R} (h : x = Option.some s) (n : Ok (k s) p) : Ok (Bd x k) p := by rw [h]; exact n
theorem of {x : Option R} {r : R} (h : x = Option.some r) (n : p r) : Ok x p := ⟨r, h, n⟩
theorem imp {q : R → Prop} {x : Option R} (h : Ok x p) (n : ∀ r, p r → q r) : Ok x q := by obtain ⟨r, e, h⟩ := h; exact ⟨r, e, n r h⟩
end Ok

/-! ### numbers -/
theorem wI {x : Int} (h : -9223372036854775808 ≤ x ∧ x ≤ 9223372036854775807) : wr .i64 x = x := IntWalk.i64_in x h
theorem wU {x : Int} (h : 0 ≤ x ∧ x ≤ 18446744073709551615) : wr .u64 x = x := IntWalk.u64_in x h
theorem wB (x : Int) : wr .u8 x = x % 256 := IntKind.wrap_u8 x
theorem wW (x : Int) : wr .u32 x = x % 4294967296 := IntKind.wrap_u32 x
theorem wU' (x : Int) : wr .u64 x = x % 18446744073709551616 := by show IntKind.wrap _ _ = _; simp [IntKind.wrap, IntKind.bits, IntKind.signed]
theorem tmod_nn {a b : Int} (h : 0 ≤ a) : Int.tmod a b = a % b := Int.tmod_eq_emod_of_nonneg h
theorem tdiv_nn {a b : Int} (h : 0 ≤ a) : Int.tdiv a b = a / b := Int.tdiv_eq_ediv_of_nonneg h
theorem shr_d (k : IntKind) (x : Int) (n : Nat) (h : n ≤ k.bits) : sShr k x n = x / 2 ^ n := by
  unfold sShr
  rw [show min (Int.toNat (n : Int)) k.bits = n by omega, Int.fdiv_eq_ediv_of_nonneg _ (by exact_mod_cast Nat.zero_le _)]

/-! ### bytes -/
def Bys (xs : List Int) : Prop := ∀ x ∈ xs, 0 ≤ x ∧ x < 256
theorem Bys.nil : Bys [] := fun _ h => by cases h
theorem Bys.cons {x : Int} {xs : List Int} (h : 0 ≤ x ∧ x < 256) (hs : Bys xs) : Bys (x :: xs) := fun y hy => by
  rcases List.mem_cons.1 hy with rfl | hy
  · exact h
  · exact hs y hy
theorem Bys.app {xs ys : List Int} (h : Bys xs) (k : Bys ys) : Bys (xs ++ ys) := fun y hy => (List.mem_append.1 hy).elim (h y) (k y)
theorem Bys.left {xs ys : List Int} (h : Bys (xs ++ ys)) : Bys xs := fun y hy => h y (List.mem_append_left _ hy)
theorem Bys.right {xs ys : List Int} (h : Bys (xs ++ ys)) : Bys ys := fun y hy => h y (List.mem_append_right _ hy)
theorem Bys.drop {xs : List Int} (h : Bys xs) (n : Nat) : Bys (xs.drop n) := fun y hy => h y (List.mem_of_mem_drop hy)
theorem Bys.take {xs : List Int} (h : Bys xs) (n : Nat) : Bys (xs.take n) := fun y hy => h y (List.mem_of_mem_take hy)
theorem Bys.cut {xs : List Int} (h : Bys xs) (n m : Nat) : Bys (cut xs n m) := (h.take m).drop n
theorem gi_nat {α : Type} (d : α) (xs : List α) (i : Nat) (h : i < xs.length) : gi d xs (i : Int) = xs[i] := by simp [gi, h]
theorem Bys.gi {xs : List Int} (h : Bys xs) (i : Int) : 0 ≤ gi 0 xs i ∧ gi 0 xs i < 256 := by
  unfold X.gi
  cases e : xs[i.toNat]? with
  | none => simp
  | some x => exact h x (List.mem_of_getElem? e)

theorem ba_loop (b : ByteArray) : ∀ (n i : Nat) (r : List UInt8), b.size - i = n → ByteArray.toList.loop b i r = r.reverse ++ b.data.toList.drop i
  | 0, i, r, h => by
    unfold ByteArray.toList.loop
    have : ¬ i < b.size := by omega
    rw [if_neg this, List.drop_eq_nil_of_le (by simp [← ByteArray.size_data] at this ⊢; omega), List.append_nil]
  | n + 1, i, r, h => by
    unfold ByteArray.toList.loop
    have hi : i < b.size := by omega
    rw [if_pos hi, ba_loop b n (i + 1) _ (by omega)]
    have hd : i < b.data.toList.length := by simpa [← ByteArray.size_data] using hi
    rw [List.drop_eq_getElem_cons hd, List.reverse_cons, List.append_assoc]
    have hg : b.get! i = b.data.toList[i] := by
      cases b with
      | mk d =>
        show d[i]! = _
        rw [getElem!_pos d i (by simpa using hd)]
        simp
    rw [hg]
    rfl
theorem ba_toList (b : ByteArray) : b.toList = b.data.toList := by
  unfold ByteArray.toList
  rw [ba_loop b _ 0 [] rfl]
  rfl
/-- the bytes of u8 slices as Go's strings are equal exactly if the bytes are -/
theorem bstr_inj {xs ys : List Int} (hx : Bys xs) (hy : Bys ys) : ((bstr xs).toList == (bstr ys).toList) = decide (xs = ys) := by
  have key : ∀ zs : List Int, (bstr zs).toList = zs.map fun n => UInt8.ofNat n.toNat := by
    intro zs
    rw [ba_toList]
    simp [bstr]
  rw [key, key]
  have hinj : ∀ {xs ys : List Int}, Bys xs → Bys ys → xs.map (fun n => UInt8.ofNat n.toNat) = ys.map (fun n => UInt8.ofNat n.toNat) → xs = ys := by
    intro xs
    induction xs with
    | nil => intro ys _ _ h; cases ys with
      | nil => rfl
      | cons y ys => simp at h
    | cons x xs ih => intro ys h1 h2 h; cases ys with
      | nil => simp at h
      | cons y ys =>
        simp only [List.map_cons, List.cons.injEq] at h
        have a := h1 x (List.mem_cons_self ..)
        have b := h2 y (List.mem_cons_self ..)
        have e : (UInt8.ofNat x.toNat).toNat = (UInt8.ofNat y.toNat).toNat := by rw [h.1]
        simp only [UInt8.toNat_ofNat'] at e
        have : x = y := by omega
        rw [this, ih (fun z hz => h1 z (List.mem_cons_of_mem _ hz)) (fun z hz => h2 z (List.mem_cons_of_mem _ hz)) h.2]
  by_cases e : xs = ys
  · simp [e]
  · have : ¬ (xs.map (fun n => UInt8.ofNat n.toNat) = ys.map (fun n => UInt8.ofNat n.toNat)) := fun h => e (hinj hx hy h)
    simp [e]
    exact fun h => e (hinj hx hy (by simpa using h))
end Go.Proofs.Ytghpokmkhlmgcaa.X

namespace Go.Proofs.Ytghpokmkhlmgcaa
open Go Go.Proofs.Ytghpokmkhlmgcaa.X
set_option linter.unusedVariables false

/-! ### numbers -/
def num (n : Nat) : List Int := if n ≤ 127 then [(n : Int)] else ((n % 128 + 128 : Nat) : Int) :: num (n / 128)
termination_by n
decreasing_by omega
theorem num_bys (n : Nat) : Bys (num n) := by
  induction n using Nat.strongRecOn with
  | ind n ih =>
    unfold num
    split
    · exact Bys.cons (by omega) Bys.nil
    · exact Bys.cons (by omega) (ih _ (by omega))
theorem num_len (n : Nat) : 1 ≤ (num n).length := by unfold num; split <;> simp
theorem num_lenp : ∀ (k n : Nat), n < 128 ^ k → 1 ≤ k → (num n).length ≤ k
  | 0, _, _, h => by omega
  | k + 1, n, h, _ => by
    unfold num
    split
    · simp
    · have hk : 1 ≤ k := by
        rcases k with _ | k
        · simp at h; omega
        · omega
      have := num_lenp k (n / 128) (by rw [Nat.pow_succ] at h; exact Nat.div_lt_of_lt_mul (by omega)) hk
      simp; omega
theorem num_len10 {n : Nat} (h : n ≤ 18446744073709551615) : (num n).length ≤ 10 := num_lenp 10 n (by omega) (by omega)
theorem or128 (n : Nat) : bOr .u8 (wr .u8 (n : Int)) 128 = ((n % 128 + 128 : Nat) : Int) := by
  rw [wB]
  have : ∀ i : Fin 256, bOr .u8 (i.val : Int) 128 = ((i.val % 128 + 128 : Nat) : Int) := by decide +kernel
  have h := this ⟨n % 256, by omega⟩
  simp only at h
  rw [show ((n : Int) % 256) = ((n % 256 : Nat) : Int) by omega, h]
  omega
theorem Number_L0 (z : Nat) : ∀ (k n m : Nat) (acc : List Int), n < 128 ^ k → 1 ≤ k → k ≤ m → acc.length + k ≤ 100 → codec_Number.L0 z m (n : Int) acc = some (acc ++ num n)
  | 0, _, _, _, _, h, _, _ => by omega
  | k + 1, n, 0, _, _, _, h, _ => by omega
  | k + 1, n, m + 1, acc, h, _, hm, hl => by
    unfold codec_Number.L0
    by_cases hn : n ≤ 127
    · rw [if_n (by simp; omega), ck_y (by simp; omega)]
      unfold num
      rw [if_pos hn]
      simp [slices_Clip_byte.f, wB]
      omega
    · have hk : 1 ≤ k := by
        rcases k with _ | k
        · simp at h; omega
        · omega
      rw [if_y (by simp; omega), ck_y (by simp; omega), or128, show (7 : Int) = ((7 : Nat) : Int) from rfl, shr_d _ _ _ (by decide), show ((n : Int) / 2 ^ 7) = ((n / 128 : Nat) : Int) by omega,
        Number_L0 z k (n / 128) m _ (by rw [Nat.pow_succ] at h; exact Nat.div_lt_of_lt_mul (by omega)) hk (by omega) (by simp; omega)]
      rw [num.eq_1 n, if_neg hn, List.append_assoc]
      rfl
theorem Number_f {z : Nat} (hz : 16777216 ≤ z) {x : Int} (h : 0 ≤ x ∧ x ≤ 18446744073709551615) : codec_Number.f z x = some (num x.toNat) := by
  obtain ⟨n, rfl⟩ := Int.eq_ofNat_of_zero_le h.1
  have := Number_L0 z 10 n z [] (by omega) (by omega) (by omega) (by simp)
  rw [List.nil_append] at this
  exact this

/-! ### sums -/
def iv (c : BitVec 32) : Int := c.toNat
theorem of_iv (c : BitVec 32) : BitVec.ofInt 32 (iv c) = c := by
  unfold iv
  rw [BitVec.ofInt_natCast, BitVec.ofNat_toNat, BitVec.setWidth_eq]
theorem wr_iv (c : BitVec 32) : wr .u32 (iv c) = iv c := by
  rw [wW]
  unfold iv
  have := c.isLt
  omega
theorem xor_iv (a b : BitVec 32) : bXor .u32 (iv a) (iv b) = iv (a ^^^ b) := by
  show wr .u32 (((BitVec.ofInt 32 (iv a) ^^^ BitVec.ofInt 32 (iv b)).toNat : Nat) : Int) = _
  rw [of_iv, of_iv]
  exact wr_iv _
theorem and_iv (a b : BitVec 32) : bAnd .u32 (iv a) (iv b) = iv (a &&& b) := by
  show wr .u32 (((BitVec.ofInt 32 (iv a) &&& BitVec.ofInt 32 (iv b)).toNat : Nat) : Int) = _
  rw [of_iv, of_iv]
  exact wr_iv _
theorem xor_by (a : BitVec 32) (x : Int) : bXor .u32 (iv a) (wr .u32 x) = iv (a ^^^ BitVec.ofInt 32 x) := by
  rw [← xor_iv]
  congr 1
  rw [wW]
  unfold iv
  rw [BitVec.toNat_ofInt]
  omega
theorem neg_iv (a : BitVec 32) : wr .u32 (0 - iv a) = iv (0#32 - a) := by
  rw [wW]
  unfold iv
  have := a.isLt
  rw [BitVec.toNat_sub]
  simp
  omega
theorem shr_iv (a : BitVec 32) : sShr .u32 (iv a) 1 = iv (a >>> 1) := by
  rw [show (1 : Int) = ((1 : Nat) : Int) from rfl, shr_d _ _ _ (by decide)]
  unfold iv
  rw [BitVec.toNat_ushiftRight, Nat.shiftRight_eq_div_pow]
  omega
def stp (c : BitVec 32) : BitVec 32 := (c >>> 1) ^^^ (3988292384#32 &&& (0#32 - (c &&& 1#32)))
theorem stp_iv (c : BitVec 32) : bXor .u32 (sShr .u32 (iv c) 1) (bAnd .u32 3988292384 (wr .u32 (0 - (bAnd .u32 (iv c) 1)))) = iv (stp c) := by
  rw [show (1 : Int) = iv 1#32 from rfl, show (3988292384 : Int) = iv 3988292384#32 from rfl, and_iv, neg_iv, and_iv, show iv 1#32 = 1 from rfl, shr_iv, xor_iv]
  rfl
def byt (c : BitVec 32) (x : Int) : BitVec 32 := stp (stp (stp (stp (stp (stp (stp (stp (c ^^^ BitVec.ofInt 32 x))))))))
def crc (c : BitVec 32) (xs : List Int) : BitVec 32 := xs.foldl byt c
theorem register_L1 (z : Nat) (hz : 16777216 ≤ z) (q : Int → Int → Option Int) (xs : List Int) (i : Int) (c : BitVec 32) (hi : 0 ≤ i ∧ i ≤ 4611686018427387904) :
    codec_register.L1 z q xs i z (iv c) 0 = q (iv (stp (stp (stp (stp (stp (stp (stp (stp c))))))))) (i + 1) := by
  obtain ⟨n, rfl⟩ : ∃ n, z = n + 9 := ⟨z - 9, by omega⟩
  have one : ∀ (m : Nat) (c : BitVec 32) (j : Int), 0 ≤ j ∧ j < 8 → codec_register.L1 (n + 9) q xs i (m + 1) (iv c) j = codec_register.L1 (n + 9) q xs i m (iv (stp c)) (j + 1) := by
    intro m c j hj
    rw [codec_register.L1, if_y (by simp; omega), stp_iv, wI (by omega)]
  rw [one _ _ _ (by omega), one _ _ _ (by omega), one _ _ _ (by omega), one _ _ _ (by omega), one _ _ _ (by omega), one _ _ _ (by omega), one _ _ _ (by omega), one _ _ _ (by omega)]
  rw [codec_register.L1, if_n (by simp), wI (by omega)]
theorem register_L0 (z : Nat) (hz : 16777216 ≤ z) (xs : List Int) (hx : xs.length ≤ 16777215) : ∀ (k m i : Nat) (c : BitVec 32), xs.length - i = k → i ≤ xs.length → k < m →
    codec_register.L0 z xs m (iv c) (i : Int) = some (iv (crc c (xs.drop i)))
  | k, 0, _, _, _, _, h => by omega
  | 0, m + 1, i, c, hk, hi, _ => by
    rw [codec_register.L0, if_n (by simp; omega), List.drop_eq_nil_of_le (by omega)]
    rfl
  | k + 1, m + 1, i, c, hk, hi, hm => by
    rw [codec_register.L0, if_y (by simp; omega), ck_y (by omega), xor_by, register_L1 z hz _ _ _ _ (by omega), gi_nat _ _ _ (by omega), List.drop_eq_getElem_cons (by omega)]
    exact register_L0 z hz xs hx k m (i + 1) _ (by omega) (by omega) (by omega)
theorem register_f {z : Nat} (hz : 16777216 ≤ z) {xs : List Int} (hx : xs.length ≤ 16777215) (c : BitVec 32) : codec_register.f z (iv c) xs = some (iv (crc c xs)) :=
  register_L0 z hz xs hx xs.length z 0 c (by omega) (by omega) (by omega)

/-- a sum as four bytes, the lowest ahead -/
def le4 (c : BitVec 32) : List Int := [iv c % 256, iv c / 256 % 256, iv c / 65536 % 256, iv c / 16777216 % 256]
def sum4 (xs : List Int) : List Int := le4 (~~~(crc 4294967295#32 xs))
theorem not_iv (c : BitVec 32) : bNot .u32 (iv c) = iv (~~~c) := by
  show bXor .u32 (iv 4294967295#32) (iv c) = _
  rw [xor_iv]
  rw [show (4294967295#32 : BitVec 32) = BitVec.allOnes 32 from rfl, BitVec.allOnes_xor]
theorem crc_app (c : BitVec 32) (xs ys : List Int) : crc c (xs ++ ys) = crc (crc c xs) ys := List.foldl_append ..
theorem sums_f {z : Nat} (hz : 16777216 ≤ z) {xs ys : List Int} (hx : xs.length ≤ 16777215) (hy : ys.length ≤ 16777215) : codec_sums.f z xs ys = some (sum4 (xs ++ ys)) := by
  unfold codec_sums.f
  rw [show (4294967295 : Int) = iv 4294967295#32 from rfl, register_f hz hx, bd_some, register_f hz hy, bd_some, not_iv, wB, wB, wB, wB]
  rw [show (8 : Int) = ((8 : Nat) : Int) from rfl, show (16 : Int) = ((16 : Nat) : Int) from rfl, show (24 : Int) = ((24 : Nat) : Int) from rfl, shr_d _ _ _ (by decide), shr_d _ _ _ (by decide), shr_d _ _ _ (by decide), ← crc_app]
  rfl
theorem Sum_f {z : Nat} (hz : 16777216 ≤ z) {xs : List Int} (hx : xs.length ≤ 16777215) : codec_Sum.f z xs = some (iv (~~~(crc 4294967295#32 xs))) := by
  unfold codec_Sum.f
  rw [show (4294967295 : Int) = iv 4294967295#32 from rfl, register_f hz hx, bd_some, not_iv]
theorem le4_bys (c : BitVec 32) : Bys (le4 c) := by
  unfold le4
  refine Bys.cons (by omega) (Bys.cons (by omega) (Bys.cons (by omega) (Bys.cons (by omega) Bys.nil)))
theorem le4_inj {c d : BitVec 32} (h : le4 c = le4 d) : c = d := by
  unfold le4 iv at h
  simp only [List.cons.injEq] at h
  have := c.isLt
  have := d.isLt
  exact BitVec.eq_of_toNat_eq (by omega)

/-! ### pieces one behind the other -/
theorem Concat_L1 (z : Nat) (xs : List (List Int)) (hx : xs.length ≤ 1000) : ∀ (k m i : Nat) (acc : List Int), xs.length - i = k → i ≤ xs.length → k < m → acc.length + (xs.drop i).flatten.length ≤ 140737488355328 →
    slices_Concat_byte.L1 z xs m acc (i : Int) = some (acc ++ (xs.drop i).flatten)
  | k, 0, _, _, _, _, h, _ => by omega
  | 0, m + 1, i, c, hk, hi, _, _ => by
    rw [slices_Concat_byte.L1, if_n (by simp; omega), List.drop_eq_nil_of_le (by omega)]
    simp
  | k + 1, m + 1, i, acc, hk, hi, hm, hl => by
    rw [List.drop_eq_getElem_cons (by omega)] at hl ⊢
    simp only [List.flatten_cons, List.length_append] at hl
    rw [slices_Concat_byte.L1, if_y (by simp; omega), ck_y (by omega), gi_nat _ _ _ (by omega), ck_y (by omega), wI (by omega)]
    rw [show ((i : Int) + 1) = ((i + 1 : Nat) : Int) from rfl, Concat_L1 z xs hx k m (i + 1) _ (by omega) (by omega) (by omega) (by rw [List.length_append]; omega)]
    rw [List.append_assoc, List.flatten_cons]
theorem Grow_f {n : Int} (h : 0 ≤ n ∧ n ≤ 140737488355328) : slices_Grow_byte.f n = some [] := by
  unfold slices_Grow_byte.f
  rw [if_n (by simp; omega)]
  simp only [Int.sub_zero]
  rw [wI (x := 0) (by omega), Int.sub_zero, wI (by omega)]
  by_cases hn : n = 0
  · subst hn; rfl
  · rw [if_y (by simp; omega), ck_y (by simp), ck_y (by omega), ck_y (by omega)]
    simp [slices_Grow_byte.J0, cut]
theorem Concat_L0 (z : Nat) (hz : 16777216 ≤ z) (xs : List (List Int)) (hx : xs.length ≤ 1000) (hall : xs.flatten.length ≤ 140737488355328) : ∀ (k m i : Nat) (s : Nat), xs.length - i = k → i ≤ xs.length → k < m → s + (xs.drop i).flatten.length ≤ 140737488355328 →
    slices_Concat_byte.L0 z xs m (s : Int) (i : Int) = some xs.flatten
  | k, 0, _, _, _, _, h, _ => by omega
  | 0, m + 1, i, s, hk, hi, _, hl => by
    rw [slices_Concat_byte.L0, if_n (by simp; omega), Grow_f (by omega), bd_some]
    have := Concat_L1 z xs hx xs.length z 0 [] (by omega) (by omega) (by omega) (by simpa using hall)
    simpa using this
  | k + 1, m + 1, i, s, hk, hi, hm, hl => by
    rw [List.drop_eq_getElem_cons (by omega)] at hl
    simp only [List.flatten_cons, List.length_append] at hl
    rw [slices_Concat_byte.L0, if_y (by simp; omega), ck_y (by omega), gi_nat _ _ _ (by omega), wI (by omega), if_n (by simp; omega), wI (by omega)]
    exact Concat_L0 z hz xs hx hall k m (i + 1) (s + xs[i].length) (by omega) (by omega) (by omega) (by omega)
theorem Concat_f {z : Nat} (hz : 16777216 ≤ z) {xs : List (List Int)} (hx : xs.length ≤ 1000) (hall : xs.flatten.length ≤ 140737488355328) : slices_Concat_byte.f z xs = some xs.flatten :=
  Concat_L0 z hz xs hx hall xs.length z 0 0 (by omega) (by omega) (by omega) (by simpa using hall)

/-! ### frames, texts -/
def hd (kind : Int) (body : List Int) : List Int := kind :: num body.length
def frm (kind : Int) (body : List Int) : List Int := hd kind body ++ sum4 (hd kind body ++ body) ++ body
def txt (s : List Int) : List Int := num s.length ++ s
theorem Frame_f {z : Nat} (hz : 16777216 ≤ z) (kind : Int) {body : List Int} (hb : body.length ≤ 2097152) : codec_Frame.f z kind body = some (frm kind body, 0) := by
  unfold codec_Frame.f
  have h10 := num_len10 (n := body.length) (by omega)
  have h1 := num_len body.length
  rw [if_n (by simp; omega), wU (by omega), Number_f hz (by omega), bd_some, Int.toNat_natCast, ck_y (by simp; omega), sums_f hz (by simp; omega) (by omega), bd_some, Concat_f hz (by simp) (by simp [sum4, le4]; omega), bd_some]
  simp [frm, hd]
theorem Text_f {z : Nat} (hz : 16777216 ≤ z) {s : List Int} (hb : s.length ≤ 2097152) : codec_Text.f z s = some (txt s, 0) := by
  unfold codec_Text.f
  have h10 := num_len10 (n := s.length) (by omega)
  rw [if_n (by simp; omega), wU (by omega), Number_f hz (by omega), bd_some, Int.toNat_natCast, Concat_f hz (by simp) (by simp; omega), bd_some]
  simp [txt]
theorem frm_len (kind : Int) (body : List Int) : (frm kind body).length = body.length + (num body.length).length + 5 := by
  simp [frm, hd, sum4, le4]; omega
theorem frm_bys {kind : Int} {body : List Int} (hk : 0 ≤ kind ∧ kind < 256) (hb : Bys body) : Bys (frm kind body) :=
  Bys.app (Bys.app (Bys.cons hk (num_bys _)) (le4_bys _)) hb
theorem txt_bys {s : List Int} (h : Bys s) : Bys (txt s) := Bys.app (num_bys _) h
end Go.Proofs.Ytghpokmkhlmgcaa

namespace Go.Proofs.Ytghpokmkhlmgcaa
open Go Go.Proofs.Ytghpokmkhlmgcaa.X
set_option linter.unusedVariables false

/-- how many first bytes are alike -/
def com : List Int → List Int → Nat
  | x :: xs, y :: ys => if x = y then com xs ys + 1 else 0
  | _, _ => 0
theorem com_le : ∀ (xs ys : List Int), com xs ys ≤ xs.length ∧ com xs ys ≤ ys.length
  | x :: xs, y :: ys => by
    unfold com
    have := com_le xs ys
    split <;> simp <;> omega
  | [], _ => by simp [com]
  | _ :: _, [] => by simp [com]
theorem com_take : ∀ (xs ys : List Int), xs.take (com xs ys) = ys.take (com xs ys)
  | x :: xs, y :: ys => by
    unfold com
    split
    · rename_i h
      rw [List.take_succ_cons, List.take_succ_cons, com_take xs ys, h]
    · rfl
  | [], _ => by simp [com]
  | _ :: _, [] => by simp [com]
/-- an entry's bytes behind a key -/
def layS (ahead : List Int) (e : api_Entry) : List Int :=
  num (com ahead e.Key) ++ num (e.Key.length - com ahead e.Key) ++ num e.Seq.toNat ++ [if e.Del then 1 else 0] ++ num e.Value.length ++ e.Key.drop (com ahead e.Key) ++ e.Value
/-- an entry that may be -/
def fitS (e : api_Entry) : Prop := (e.Del = true → e.Value = []) ∧ 0 < e.Key.length ∧ e.Key.length ≤ 256 ∧ 0 < e.Seq ∧ e.Seq ≤ 4611686018427387904 ∧ e.Value.length ≤ 65536
instance (e : api_Entry) : Decidable (fitS e) := by unfold fitS; infer_instance
theorem fits_f (e : api_Entry) : sstable_fits.f e = some (decide (fitS e)) := by
  have hJ : ∀ e, sstable_fits.J0 e = some (decide (0 < e.Key.length ∧ e.Key.length ≤ 256 ∧ 0 < e.Seq ∧ e.Seq ≤ 4611686018427387904 ∧ e.Value.length ≤ 65536)) := by
    intro e
    unfold sstable_fits.J0 sstable_fits.J1
    by_cases h1 : 0 < e.Key.length
    · rw [if_y (by simp; omega)]
      by_cases h2 : e.Key.length ≤ 256
      · rw [if_y (by simp; omega)]
        by_cases h3 : 0 < e.Seq
        · rw [if_y (by simp; omega)]
          by_cases h4 : e.Seq ≤ 4611686018427387904
          · rw [if_y (by simp; omega)]
            congr 1
            rw [decide_eq_decide]
            omega
          · rw [if_n (by simp; omega)]; simp [h4]
        · rw [if_n (by simp; omega)]; simp [h3]
      · rw [if_n (by simp; omega)]; simp [h2]
    · rw [if_n (by simp; exact List.length_eq_zero_iff.1 (by omega))]; simp [h1]
  unfold sstable_fits.f
  by_cases hd : e.Del = true
  · rw [if_y hd]
    by_cases hv : e.Value = []
    · rw [if_n (by simp [hv]), hJ]
      congr 1
      rw [decide_eq_decide]
      exact ⟨fun h => ⟨fun _ => hv, h⟩, fun h => h.2⟩
    · have : 0 < e.Value.length := List.length_pos_iff.2 hv
      rw [if_y (by simp; omega)]
      congr 1
      symm
      rw [decide_eq_false_iff_not]
      exact fun h => hv (h.1 hd)
  · rw [if_n (by simpa using hd), hJ]
    congr 1
    rw [decide_eq_decide]
    exact ⟨fun h => ⟨fun h' => absurd h' hd, h⟩, fun h => h.2⟩
def ordS (a b : api_Entry) : Int := if bcmp a.Key b.Key ≠ 0 ∨ a.Seq = b.Seq then bcmp a.Key b.Key else if a.Seq > b.Seq then -1 else 1
theorem order_f (a b : api_Entry) : sstable_order.f a b = some (ordS a b) := by
  unfold sstable_order.f sstable_order.J0 codec_Compare.f bytes_Compare.f ordS
  simp only [bd_some]
  by_cases h : bcmp a.Key b.Key = 0
  · rw [if_n (by simp [h])]
    by_cases h2 : a.Seq = b.Seq
    · rw [if_y (by simp [h2])]; simp [h2]
    · rw [if_n (by simp [h2])]
      by_cases h3 : a.Seq > b.Seq
      · rw [if_y (by simp; omega)]; simp [h, h2, h3]
      · rw [if_n (by simp; omega)]; simp [h, h2, h3]
  · rw [if_y (by simp [h])]; simp [h]
theorem layS_len {ahead : List Int} {e : api_Entry} (he : fitS e) : (layS ahead e).length ≤ 65900 ∧ 1 ≤ (layS ahead e).length := by
  obtain ⟨h1, h2, h3, h4, h5, h6⟩ := he
  have hc := com_le ahead e.Key
  have a := num_lenp 2 (com ahead e.Key) (by omega) (by omega)
  have b := num_lenp 2 (e.Key.length - com ahead e.Key) (by omega) (by omega)
  have c := num_len10 (n := e.Seq.toNat) (by omega)
  have d := num_lenp 3 e.Value.length (by omega) (by omega)
  unfold layS
  simp
  omega
theorem lay_J1 {z : Nat} (hz : 16777216 ≤ z) {b ahead : List Int} {e : api_Entry} (he : fitS e) (hb : b.length ≤ 16777216) : sstable_lay.J1 z b e (com ahead e.Key : Int) = some (b ++ layS ahead e) := by
  have hc := com_le ahead e.Key
  have hL := layS_len (ahead := ahead) he
  obtain ⟨h1, h2, h3, h4, h5, h6⟩ := he
  have key : ∀ d : Int, sstable_lay.J2 z b e (com ahead e.Key : Int) d = some (b ++ (num (com ahead e.Key) ++ num (e.Key.length - com ahead e.Key) ++ num e.Seq.toNat ++ [d] ++ num e.Value.length ++ e.Key.drop (com ahead e.Key) ++ e.Value)) := by
    intro d
    have a := num_lenp 2 (com ahead e.Key) (by omega) (by omega)
    have a' := num_len (com ahead e.Key)
    have b' := num_lenp 2 (e.Key.length - com ahead e.Key) (by omega) (by omega)
    have c := num_len10 (n := e.Seq.toNat) (by omega)
    have d := num_lenp 3 e.Value.length (by omega) (by omega)
    unfold sstable_lay.J2
    rw [wU (by omega), Number_f hz (by omega), bd_some, Int.toNat_natCast, ck_y (by omega), wI (by omega), wU (by omega), Number_f hz (by omega), bd_some,
      show (((e.Key.length : Int) - (com ahead e.Key : Int)).toNat) = e.Key.length - com ahead e.Key by omega, ck_y (by simp; omega), Number_f hz (by omega), bd_some, ck_y (by simp; omega), ck_y (by simp; omega),
      wU (by omega), Number_f hz (by omega), bd_some, Int.toNat_natCast, ck_y (by simp; omega), ck_y (by omega), Int.toNat_natCast]
    rw [show cut e.Key (com ahead e.Key) e.Key.length = e.Key.drop (com ahead e.Key) by simp [cut]]
    rw [ck_y (by simp; omega), ck_y (by simp; omega)]
    simp
  unfold sstable_lay.J1 layS
  cases hd : e.Del with
  | true => rw [if_t, key]; simp
  | false => rw [if_f, key]; simp
theorem lay_L0 {z : Nat} (hz : 16777216 ≤ z) {b ahead : List Int} {e : api_Entry} (he : fitS e) (hb : b.length ≤ 16777216) : ∀ (k m i : Nat), e.Key.length - i = k → i ≤ com ahead e.Key → k < m →
    com (ahead.drop i) (e.Key.drop i) + i = com ahead e.Key → sstable_lay.L0 z b ahead e m (i : Int) = some (b ++ layS ahead e)
  | k, 0, _, _, _, h, _ => by omega
  | k, m + 1, i, hk, hi, hm, hcom => by
    have hc := com_le ahead e.Key
    have h3 := he.2.2.1
    rw [sstable_lay.L0]
    by_cases hin : i < ahead.length ∧ i < e.Key.length
    · rw [if_y (by simp [mn]; split <;> omega), ck_y (by omega), ck_y (by omega), gi_nat _ _ _ hin.1, gi_nat _ _ _ hin.2]
      rw [List.drop_eq_getElem_cons hin.1, List.drop_eq_getElem_cons hin.2, com] at hcom
      by_cases heq : ahead[i] = e.Key[i]
      · rw [if_pos heq] at hcom
        rw [if_y (by simp [heq]), wI (by omega)]
        exact lay_L0 hz he hb (k - 1) m (i + 1) (by omega) (by omega) (by omega) (by omega)
      · rw [if_neg heq] at hcom
        rw [if_n (by simp [heq]), show i = com ahead e.Key by omega]
        exact lay_J1 hz he hb
    · rw [if_n (by simp [mn]; split <;> omega)]
      have : com (ahead.drop i) (e.Key.drop i) = 0 := by
        have h1 := com_le (ahead.drop i) (e.Key.drop i)
        simp at h1
        omega
      rw [show i = com ahead e.Key by omega]
      exact lay_J1 hz he hb
theorem lay_f {z : Nat} (hz : 16777216 ≤ z) {b ahead : List Int} {e : api_Entry} (he : fitS e) (hb : b.length ≤ 16777216) : sstable_lay.f z b ahead e = some (b ++ layS ahead e) := by
  have := he.2.2.1
  exact lay_L0 hz he hb e.Key.length z 0 (by omega) (by omega) (by omega) (by simp)

/-! ### the builder -/
theorem frame_f {z : Nat} (hz : 16777216 ≤ z) (w : sstable_builder) (kind : Int) {body : List Int} (hb : body.length ≤ 2097152) (ho : w.out.length ≤ 16777216) :
    sstable_builder_frame.f z w kind body = some ⟨w.out ++ frm kind body, w.body, w.index, w.many, w.blocks, w.last⟩ := by
  unfold sstable_builder_frame.f
  have h10 := num_len10 (n := body.length) (by omega)
  rw [Frame_f hz _ hb, bd_some, ck_y (by rw [frm_len]; omega)]
/-- what the index has of a block -/
def idx (frm_ : Nat) (len : Nat) (many : Int) (last : List Int) : List Int := num frm_ ++ num len ++ num many.toNat ++ txt last
def closeS (w : sstable_builder) : sstable_builder := ⟨w.out ++ frm 68 w.body, [], w.index ++ idx w.out.length (frm 68 w.body).length w.many w.last, 0, w.blocks + 1, w.last⟩
/-- a builder of moderate size -/
structure Mod (w : sstable_builder) : Prop where
  out : w.out.length ≤ 8388608
  body : w.body.length ≤ 70000
  index : w.index.length ≤ 67108864
  many : 0 ≤ w.many ∧ w.many ≤ 65536
  blocks : 0 ≤ w.blocks ∧ w.blocks ≤ 65536
  last : w.last.length ≤ 256
theorem idx_len {a b : Nat} {m : Int} {l : List Int} (ha : a ≤ 16777216) (hb : b ≤ 16777216) (hm : 0 ≤ m ∧ m ≤ 65536) (hl : l.length ≤ 256) : (idx a b m l).length ≤ 300 := by
  have a := num_lenp 4 a (by omega) (by omega)
  have b := num_lenp 4 b (by omega) (by omega)
  have c := num_lenp 3 m.toNat (by omega) (by omega)
  have d := num_lenp 2 l.length (by omega) (by omega)
  simp [idx, txt]
  omega
theorem close_f {z : Nat} (hz : 16777216 ≤ z) {w : sstable_builder} (h : Mod w) : sstable_builder_close.f z w = some (closeS w) := by
  obtain ⟨h1, h2, h3, h4, h5, h6⟩ := h
  have h10 := num_lenp 3 w.body.length (by omega) (by omega)
  have hF := frm_len 68 w.body
  unfold sstable_builder_close.f
  rw [frame_f hz w 68 (by omega) (by omega), bd_some]
  obtain ⟨n, rfl⟩ : ∃ n, z = n + 4 := ⟨z - 4, by omega⟩
  have hw : wr .i64 (((w.out ++ frm 68 w.body).length : Int) - (w.out.length : Int)) = ((frm 68 w.body).length : Int) := by rw [wI (by simp; omega)]; simp; omega
  have a := num_lenp 4 w.out.length (by omega) (by omega)
  have b := num_lenp 4 (frm 68 w.body).length (by omega) (by omega)
  have c := num_lenp 3 w.many.toNat (by omega) (by omega)
  have d := num_lenp 2 w.last.length (by omega) (by omega)
  have g0 : ∀ (a b c : Int), gi (0 : Int) [a, b, c] 0 = a := fun _ _ _ => rfl
  have g1 : ∀ (a b c : Int), gi (0 : Int) [a, b, c] (0 + 1) = b := fun _ _ _ => rfl
  have g2 : ∀ (a b c : Int), gi (0 : Int) [a, b, c] (0 + 1 + 1) = c := fun _ _ _ => rfl
  rw [sstable_builder_close.L0, if_y (by decide), ck_y (by simp), g0, wU (by omega), Number_f (by omega) (by omega), bd_some, Int.toNat_natCast, ck_y (by dsimp only; omega), wI (by omega)]
  rw [sstable_builder_close.L0, if_y (by decide), ck_y (by simp), g1]
  dsimp only
  rw [hw, wU (by omega), Number_f (by omega) (by omega), bd_some, Int.toNat_natCast, ck_y (by simp; omega), wI (by omega)]
  rw [sstable_builder_close.L0, if_y (by decide), ck_y (by simp), g2]
  dsimp only
  rw [wU (by omega), Number_f (by omega) (by omega), bd_some, ck_y (by simp; omega), wI (by omega)]
  rw [sstable_builder_close.L0, if_n (by decide)]
  dsimp only
  rw [Text_f (by omega) (by omega), bd_some, ck_y (by simp [txt]; omega), wI (by omega)]
  simp [closeS, idx]
def addS (w : sstable_builder) (e : api_Entry) (bb : Int) : sstable_builder :=
  if w.many > 0 then if ((w.body ++ layS w.last e).length : Int) ≤ bb then ⟨w.out, w.body ++ layS w.last e, w.index, w.many + 1, w.blocks, e.Key⟩
    else ⟨(closeS w).out, layS [] e, (closeS w).index, 1, (closeS w).blocks, e.Key⟩
  else ⟨w.out, layS [] e, w.index, 1, w.blocks, e.Key⟩
theorem add_f {z : Nat} (hz : 16777216 ≤ z) {w : sstable_builder} (h : Mod w) {e : api_Entry} (he : fitS e) {bb : Int} : sstable_builder_add.f z w e bb = some (addS w e bb) := by
  have hb := h.body
  have hm := h.many
  unfold sstable_builder_add.f addS slices_Clip_byte_ro.f
  by_cases h1 : w.many > 0
  · rw [if_y (by simp; omega), if_pos h1, bd_some, lay_f hz he (by omega), bd_some]
    by_cases h2 : ((w.body ++ layS w.last e).length : Int) ≤ bb
    · rw [if_y (by simpa using h2), if_pos h2, wI (by omega)]
    · rw [if_n (by simpa using h2), if_neg h2, close_f hz h, bd_some]
      unfold sstable_builder_add.J0
      rw [lay_f hz he (by simp), bd_some]
      rfl
  · rw [if_n (by simp; omega), if_neg h1]
    unfold sstable_builder_add.J0
    rw [lay_f hz he (by simp), bd_some]
    rfl
theorem Equal_f {xs ys : List Int} (hx : Bys xs) (hy : Bys ys) : bytes_Equal.f xs ys = some (decide (xs = ys)) := by
  unfold bytes_Equal.f
  rw [bstr_inj hx hy]
end Go.Proofs.Ytghpokmkhlmgcaa

namespace Go.Proofs.Ytghpokmkhlmgcaa
open Go Go.Proofs.Ytghpokmkhlmgcaa.X
set_option linter.unusedVariables false

/-! ### filters -/
def hashS (xs : List Int) : Int := xs.foldl (fun h x => wr .u64 ((bXor .u64 h (wr .u64 x)) * 1099511628211)) 14695981039346656037
theorem Hash_L0 (z : Nat) (xs : List Int) (hx : xs.length ≤ 16777215) : ∀ (k m i : Nat) (h : Int), xs.length - i = k → i ≤ xs.length → k < m →
    bloom_Hash.L0 z xs m h (i : Int) = some ((xs.drop i).foldl (fun h x => wr .u64 ((bXor .u64 h (wr .u64 x)) * 1099511628211)) h)
  | k, 0, _, _, _, _, h => by omega
  | 0, m + 1, i, c, hk, hi, _ => by
    rw [bloom_Hash.L0, if_n (by simp; omega), List.drop_eq_nil_of_le (by omega)]
    rfl
  | k + 1, m + 1, i, c, hk, hi, hm => by
    rw [bloom_Hash.L0, if_y (by simp; omega), ck_y (by omega), gi_nat _ _ _ (by omega), wI (by omega), List.drop_eq_getElem_cons (by omega)]
    exact Hash_L0 z xs hx k m (i + 1) _ (by omega) (by omega) (by omega)
theorem Hash_f {z : Nat} (hz : 16777216 ≤ z) {xs : List Int} (hx : xs.length ≤ 16777215) : bloom_Hash.f z xs = some (hashS xs) :=
  Hash_L0 z xs hx xs.length z 0 _ (by omega) (by omega) (by omega)
theorem wrU_in (x : Int) : 0 ≤ wr .u64 x ∧ wr .u64 x ≤ 18446744073709551615 := by rw [wU']; omega
theorem hash_in (xs : List Int) : 0 ≤ hashS xs ∧ hashS xs ≤ 18446744073709551615 := by
  have : ∀ (xs : List Int) (h : Int), 0 ≤ h ∧ h ≤ 18446744073709551615 → 0 ≤ xs.foldl (fun h x => wr .u64 ((bXor .u64 h (wr .u64 x)) * 1099511628211)) h ∧ xs.foldl (fun h x => wr .u64 ((bXor .u64 h (wr .u64 x)) * 1099511628211)) h ≤ 18446744073709551615 := by
    intro xs
    induction xs with
    | nil => intro h hh; exact hh
    | cons x xs ih => intro h hh; exact ih _ (wrU_in _)
  exact this xs _ (by omega)
def stepS (h : Int) : Int := bOr .u64 (bOr .u64 (sShl .u64 h 31) (sShr .u64 h 33)) 1
theorem rot_f (h : Int) : bits_RotateLeft64.f h 31 = some (bOr .u64 (sShl .u64 h 31) (sShr .u64 h 33)) := by
  unfold bits_RotateLeft64.f
  rw [show bAnd .u64 (wr .u64 31) 63 = 31 by decide +kernel, show wr .u64 (64 - 31) = 33 by decide +kernel, ck_y (by decide), ck_y (by decide)]
def setb (b : List Int) (n : Int) : List Int := b.set (1 + n / 8).toNat (bOr .u8 (gi 0 b (1 + n / 8)) (sShl .u8 1 (n % 8)))
def eachS (m step : Int) : Nat → Int → List Int → List Int
  | 0, _, b => b
  | k + 1, h, b => eachS m step k (wr .u64 (h + step)) (setb b (h % m))
theorem setb_len (b : List Int) (n : Int) : (setb b n).length = b.length := by simp [setb]
theorem eachS_len (m step : Int) : ∀ (k : Nat) (h : Int) (b : List Int), (eachS m step k h b).length = b.length
  | 0, _, _ => rfl
  | k + 1, h, b => by rw [eachS, eachS_len, setb_len]
theorem bor8_in (x y : Int) : 0 ≤ bOr .u8 x y ∧ bOr .u8 x y < 256 := by
  show 0 ≤ wr .u8 _ ∧ wr .u8 _ < 256
  rw [wB]; omega
theorem X.Bys.set {xs : List Int} (h : Bys xs) (i : Nat) {v : Int} (hv : 0 ≤ v ∧ v < 256) : Bys (xs.set i v) := fun y hy => by
  rcases List.mem_or_eq_of_mem_set hy with q | rfl
  · exact h y q
  · exact hv
theorem eachS_bys (m step : Int) : ∀ (k : Nat) (h : Int) (b : List Int), Bys b → Bys (eachS m step k h b)
  | 0, _, _, hb => hb
  | k + 1, h, b, hb => eachS_bys m step k _ _ (hb.set _ (bor8_in _ _))
theorem each_L0 (z : Nat) {p m x14 : Int} (hp : 0 ≤ p ∧ p ≤ 100) (hm : 0 < m ∧ m ≤ 4611686018427387904 ∧ m % 8 = 0) : ∀ (k n : Nat) (i : Nat) (h : Int) (b : List Int), p.toNat - i = k → i ≤ p.toNat → k < n → 0 ≤ h ∧ h ≤ 18446744073709551615 → (b.length : Int) = 1 + m / 8 →
    bloom_each_at82.L0 z p m x14 n h (i : Int) b = some (true, eachS m (bOr .u64 x14 1) k h b)
  | k, 0, _, _, _, _, _, h, _, _ => by omega
  | 0, n + 1, i, h, b, hk, hi, _, hh, hb => by
    rw [bloom_each_at82.L0, if_n (by simp; omega)]
    rfl
  | k + 1, n + 1, i, h, b, hk, hi, hn, hh, hb => by
    have h1 : 0 ≤ h % m ∧ h % m < m := ⟨Int.emod_nonneg _ (by omega), Int.emod_lt_of_pos _ (by omega)⟩
    rw [bloom_each_at82.L0, if_y (by simp; omega), ck_y (by omega), tmod_nn hh.1, tmod_nn h1.1, tdiv_nn h1.1, ck_y (by omega), wU (by omega), wI (by omega), wI (x := (i : Int) + 1) (by omega)]
    unfold bloom_Make_c1.f
    rw [wI (by omega), ck_y (by omega), bd_some]
    refine (if_n rfl).trans ?_
    exact each_L0 z hp hm k n (i + 1) _ _ (by omega) (by omega) (by omega) (wrU_in _) (by simp; omega)
def keyS (p m : Int) (b key : List Int) : List Int := eachS m (stepS (hashS key)) p.toNat (hashS key) b
theorem each_f {z : Nat} (hz : 16777216 ≤ z) {key : List Int} (hk : key.length ≤ 16777215) {p m : Int} (hp : 0 ≤ p ∧ p ≤ 100) (hm : 0 < m ∧ m ≤ 4611686018427387904 ∧ m % 8 = 0) {b : List Int} (hb : (b.length : Int) = 1 + m / 8) :
    bloom_each_at82.f z key p m b = some (true, keyS p m b key) := by
  unfold bloom_each_at82.f
  rw [Hash_f hz hk, bd_some, rot_f, bd_some]
  exact each_L0 z hp hm _ z 0 _ b rfl (by omega) (by omega) (hash_in _) hb
def bitsS (n : Nat) (pk : Int) : Int := mx 1 (((n : Int) * pk + 63) / 64) * 64
def probS (pk : Int) : Int := mx 1 (pk * 69 / 100)
def mkS (keys : List (List Int)) (pk : Int) : List Int :=
  keys.foldl (keyS (probS pk) (bitsS keys.length pk)) ((List.replicate (1 + bitsS keys.length pk / 8).toNat (0 : Int)).set 0 (probS pk))
theorem bits_in {n : Nat} {pk : Int} (hn : n ≤ 65536) (h : 1 ≤ pk ∧ pk ≤ 30) : 64 ≤ bitsS n pk ∧ bitsS n pk ≤ 2000000 ∧ bitsS n pk % 8 = 0 := by
  have h1 : (n : Int) * pk ≤ 65536 * 30 := Int.mul_le_mul (by omega) h.2 (by omega) (by omega)
  have h2 : 0 ≤ (n : Int) * pk := Int.mul_nonneg (by omega) (by omega)
  unfold bitsS mx
  split <;> omega
theorem prob_in {pk : Int} (h : 1 ≤ pk ∧ pk ≤ 30) : 1 ≤ probS pk ∧ probS pk ≤ 30 := by
  unfold probS mx
  split <;> omega
theorem keyS_len (p m : Int) (b key : List Int) : (keyS p m b key).length = b.length := eachS_len ..
theorem foldK_len (p m : Int) : ∀ (keys : List (List Int)) (b : List Int), (keys.foldl (keyS p m) b).length = b.length
  | [], _ => rfl
  | k :: ks, b => by rw [List.foldl_cons, foldK_len, keyS_len]
theorem foldK_bys (p m : Int) : ∀ (keys : List (List Int)) (b : List Int), Bys b → Bys (keys.foldl (keyS p m) b)
  | [], _, h => h
  | k :: ks, b, h => foldK_bys p m ks _ (eachS_bys _ _ _ _ _ h)
theorem mkS_len {keys : List (List Int)} {pk : Int} (hn : keys.length ≤ 65536) (h : 1 ≤ pk ∧ pk ≤ 30) : (mkS keys pk).length ≤ 260000 := by
  have := bits_in hn h
  unfold mkS
  rw [foldK_len]
  simp
  omega
theorem mkS_bys {keys : List (List Int)} {pk : Int} (h : 1 ≤ pk ∧ pk ≤ 30) : Bys (mkS keys pk) := by
  have := prob_in h
  exact foldK_bys _ _ _ _ (Bys.set (fun x hx => by rw [(List.mem_replicate.1 hx).2]; omega) _ (by omega))
theorem Make_L1 {z : Nat} (hz : 16777216 ≤ z) {keys : List (List Int)} {pk : Int} (hn : keys.length ≤ 65536) (hp : 1 ≤ pk ∧ pk ≤ 30) (hk : ∀ k ∈ keys, k.length ≤ 16777215) : ∀ (k m i : Nat) (b : List Int), keys.length - i = k → i ≤ keys.length → k < m → (b.length : Int) = 1 + bitsS keys.length pk / 8 →
    bloom_Make.L1 z keys pk m (i : Int) b = some ((keys.drop i).foldl (keyS (probS pk) (bitsS keys.length pk)) b, 0)
  | k, 0, _, _, _, _, h, _ => by omega
  | 0, m + 1, i, c, hk, hi, _, _ => by
    rw [bloom_Make.L1, if_n (by simp; omega), List.drop_eq_nil_of_le (by omega)]
    rfl
  | k + 1, m + 1, i, b, hk', hi, hm, hb => by
    have h1 : (keys.length : Int) * pk ≤ 65536 * 30 := Int.mul_le_mul (by omega) hp.2 (by omega) (by omega)
    have h2 : 0 ≤ (keys.length : Int) * pk := Int.mul_nonneg (by omega) (by omega)
    have hbi := bits_in hn hp
    have hpi := prob_in hp
    rw [bloom_Make.L1, if_y (by simp; omega), ck_y (by omega), gi_nat _ _ _ (by omega), wI (x := (keys.length : Int) * pk) (by omega), wI (x := (keys.length : Int) * pk + 63) (by omega), tdiv_nn (a := (keys.length : Int) * pk + 63) (by omega), wI (x := ((keys.length : Int) * pk + 63) / 64) (by omega),
      wI (x := pk * 69) (by omega), tdiv_nn (a := pk * 69) (by omega), wI (x := pk * 69 / 100) (by omega)]
    rw [show mx 1 (((keys.length : Int) * pk + 63) / 64) * 64 = bitsS keys.length pk from rfl, show mx 1 (pk * 69 / 100) = probS pk from rfl, wI (by omega), wU (by omega),
      each_f hz (hk _ (List.getElem_mem _)) (by omega) (by omega) hb, bd_some, wI (by omega), List.drop_eq_getElem_cons (by omega), List.foldl_cons]
    exact Make_L1 hz hn hp hk k m (i + 1) _ (by omega) (by omega) (by omega) (by rw [keyS_len]; exact hb)
theorem Make_f {z : Nat} (hz : 16777216 ≤ z) {keys : List (List Int)} {pk : Int} (hn : keys.length ≤ 65536) (hp : 1 ≤ pk ∧ pk ≤ 30) (hk : ∀ k ∈ keys, k.length ≤ 16777215) : bloom_Make.f z keys pk = some (mkS keys pk, 0) := by
  have h1 : (keys.length : Int) * pk ≤ 65536 * 30 := Int.mul_le_mul (by omega) hp.2 (by omega) (by omega)
  have h2 : 0 ≤ (keys.length : Int) * pk := Int.mul_nonneg (by omega) (by omega)
  have hbi := bits_in hn hp
  have hpi := prob_in hp
  unfold bloom_Make.f
  rw [if_n (by simp; omega), if_n (by simp; omega), if_n (by simp; omega), wI (x := (keys.length : Int) * pk) (by omega), wI (x := (keys.length : Int) * pk + 63) (by omega), tdiv_nn (a := (keys.length : Int) * pk + 63) (by omega), wI (x := ((keys.length : Int) * pk + 63) / 64) (by omega)]
  rw [show mx 1 (((keys.length : Int) * pk + 63) / 64) * 64 = bitsS keys.length pk from rfl, wI (x := bitsS keys.length pk) (by omega), tdiv_nn (a := bitsS keys.length pk) (by omega), wI (x := bitsS keys.length pk / 8) (by omega), wI (x := 1 + bitsS keys.length pk / 8) (by omega), ck_y (by omega), ck_y (by simp; omega),
      wI (x := pk * 69) (by omega), tdiv_nn (a := pk * 69) (by omega), wI (x := pk * 69 / 100) (by omega), show mx 1 (pk * 69 / 100) = probS pk from rfl, wB, Int.emod_eq_of_lt (by omega) (by omega)]
  have := Make_L1 hz hn hp hk keys.length z 0 ((List.replicate (1 + bitsS keys.length pk / 8).toNat (0 : Int)).set 0 (probS pk)) (by omega) (by omega) (by omega) (by simp; omega)
  exact this

/-! ### numbers with the highest byte ahead -/
def highS (n : Int) (s : Nat) : List Int := (List.range s).map fun i => n / 2 ^ (8 * (s - 1 - i)) % 256
theorem high_L0 (z : Nat) {n : Int} (hn : 0 ≤ n) (s : Nat) (hs : s ≤ 8) (m : Nat) (i : Nat) (xs : List Int) (hi : i < s) (hx : xs.length = s) :
    sstable_high.L0 z n (s : Int) (m + 1) xs (i : Int) = sstable_high.L0 z n (s : Int) m (xs.set i (n / 2 ^ (8 * (s - 1 - i)) % 256)) ((i + 1 : Nat) : Int) := by
  rw [sstable_high.L0, if_y (by simp; omega), wI (x := (s : Int) - 1) (by omega), wI (x := (s : Int) - 1 - i) (by omega), wI (x := 8 * ((s : Int) - 1 - i)) (by omega), ck_y (by omega), ck_y (by omega),
    show (8 * ((s : Int) - 1 - i)) = ((8 * (s - 1 - i) : Nat) : Int) by omega, shr_d _ _ _ (by show _ ≤ 64; omega), wB, wI (by omega)]
  rfl
theorem high_8 {z : Nat} (hz : 16777216 ≤ z) {n : Int} (hn : 0 ≤ n) : sstable_high.f z n 8 = some (highS n 8) := by
  obtain ⟨m, rfl⟩ : ∃ m, z = m + 9 := ⟨z - 9, by omega⟩
  unfold sstable_high.f
  rw [ck_y (by decide)]
  have h := fun k i xs => high_L0 (m + 9) hn 8 (by omega) k i xs
  have e := fun (i : Nat) (xs : List Int) k (a : i < 8) (b : xs.length = 8) => h k i xs a b
  show sstable_high.L0 (m + 9) n ((8 : Nat) : Int) (m + 9) (List.replicate 8 0) ((0 : Nat) : Int) = _
  rw [e 0 _ _ (by omega) (by simp), e 1 _ _ (by omega) (by simp), e 2 _ _ (by omega) (by simp), e 3 _ _ (by omega) (by simp), e 4 _ _ (by omega) (by simp), e 5 _ _ (by omega) (by simp), e 6 _ _ (by omega) (by simp), e 7 _ _ (by omega) (by simp)]
  rw [sstable_high.L0, if_n (by simp)]
  rfl
theorem high_4 {z : Nat} (hz : 16777216 ≤ z) {n : Int} (hn : 0 ≤ n) : sstable_high.f z n 4 = some (highS n 4) := by
  obtain ⟨m, rfl⟩ : ∃ m, z = m + 5 := ⟨z - 5, by omega⟩
  unfold sstable_high.f
  rw [ck_y (by decide)]
  have h := fun k i xs => high_L0 (m + 5) hn 4 (by omega) k i xs
  have e := fun (i : Nat) (xs : List Int) k (a : i < 4) (b : xs.length = 4) => h k i xs a b
  show sstable_high.L0 (m + 5) n ((4 : Nat) : Int) (m + 5) (List.replicate 4 0) ((0 : Nat) : Int) = _
  rw [e 0 _ _ (by omega) (by simp), e 1 _ _ (by omega) (by simp), e 2 _ _ (by omega) (by simp), e 3 _ _ (by omega) (by simp)]
  rw [sstable_high.L0, if_n (by simp)]
  rfl
theorem highS_len (n : Int) (s : Nat) : (highS n s).length = s := by simp [highS]
theorem highS_bys (n : Int) (s : Nat) : Bys (highS n s) := fun x hx => by
  obtain ⟨i, _, rfl⟩ := List.mem_map.1 hx
  omega
end Go.Proofs.Ytghpokmkhlmgcaa

namespace Go.Proofs.Ytghpokmkhlmgcaa
open Go Go.Proofs.Ytghpokmkhlmgcaa.X
set_option linter.unusedVariables false

/-! ### the end of a table -/
def tail36 (fa ia cnt bb pk : Int) : List Int := highS fa 8 ++ highS ia 8 ++ highS cnt 8 ++ highS bb 4 ++ highS pk 4 ++ [67, 79, 82, 77]
def tailS (fa ia cnt bb pk : Int) : List Int := tail36 fa ia cnt bb pk ++ le4 (~~~(crc 4294967295#32 (tail36 fa ia cnt bb pk)))
theorem tail36_len (fa ia cnt bb pk : Int) : (tail36 fa ia cnt bb pk).length = 36 := by simp [tail36, highS_len]
theorem tailS_len (fa ia cnt bb pk : Int) : (tailS fa ia cnt bb pk).length = 40 := by simp [tailS, tail36_len, le4]
def idxS (w : sstable_builder) : List Int := num w.blocks.toNat ++ w.index
def outS (w : sstable_builder) (cnt : Int) (filter : List Int) (bb pk : Int) : List Int :=
  w.out ++ frm 70 filter ++ frm 73 (idxS w) ++ tailS w.out.length (w.out ++ frm 70 filter).length cnt bb pk
def endS (w : sstable_builder) (cnt : Int) (keys : List (List Int)) (bb pk : Int) : List Int × Int :=
  if (idxS w).length > 2097152 then ([], 43) else if (outS w cnt (mkS keys pk) bb pk).length > 4194304 then ([], 43) else (outS w cnt (mkS keys pk) bb pk, 0)
theorem end_f {z : Nat} (hz : 16777216 ≤ z) {w : sstable_builder} (ho : w.out.length ≤ 8388608) (hi : w.index.length ≤ 67108864) (hbl : 0 ≤ w.blocks ∧ w.blocks ≤ 100000) {cnt : Int} (hc : 0 ≤ cnt) {keys : List (List Int)} (hn : keys.length ≤ 65536) (hk : ∀ k ∈ keys, k.length ≤ 16777215)
    {bb pk : Int} (hb : 0 ≤ bb) (hp : 1 ≤ pk ∧ pk ≤ 30) : sstable_builder_end.f z w cnt keys bb pk = some (endS w cnt keys bb pk) := by
  have hm := mkS_len hn hp
  have a := num_lenp 3 w.blocks.toNat (by omega) (by omega)
  have a' := num_len w.blocks.toNat
  have b := num_lenp 3 (mkS keys pk).length (by omega) (by omega)
  have hF := frm_len 70 (mkS keys pk)
  unfold sstable_builder_end.f endS
  rw [Make_f hz hn hp hk, bd_some, frame_f hz w 70 (by dsimp only; omega) (by omega), bd_some]
  dsimp only
  rw [wU (by omega), Number_f hz (by omega), bd_some, ck_y (by omega), show num w.blocks.toNat ++ w.index = idxS w from rfl]
  by_cases h1 : (idxS w).length > 2097152
  · rw [if_y (by simp; omega), if_pos h1]
  · rw [if_n (by simp; omega), if_neg h1]
    have c := num_lenp 4 (idxS w).length (by omega) (by omega)
    have hF' := frm_len 73 (idxS w)
    rw [frame_f hz _ 73 (by omega) (by simp; omega), bd_some]
    dsimp only
    rw [high_8 hz (by omega), bd_some, high_8 hz (by omega), bd_some, high_8 hz (by omega), bd_some, high_4 hz (by omega), bd_some, high_4 hz (by omega), bd_some,
      Concat_f hz (by simp) (by simp [highS_len]), bd_some]
    rw [show [highS (w.out.length : Int) 8, highS ((w.out ++ frm 70 (mkS keys pk)).length : Int) 8, highS cnt 8, highS bb 4, highS pk 4, [67, 79, 82, 77]].flatten = tail36 w.out.length (w.out ++ frm 70 (mkS keys pk)).length cnt bb pk by simp [tail36]]
    have ht := tail36_len w.out.length (w.out ++ frm 70 (mkS keys pk)).length cnt bb pk
    rw [Sum_f hz (by omega), bd_some, wB, wB, wB, wB, show (8 : Int) = ((8 : Nat) : Int) from rfl, show (16 : Int) = ((16 : Nat) : Int) from rfl, show (24 : Int) = ((24 : Nat) : Int) from rfl, shr_d _ _ _ (by decide), shr_d _ _ _ (by decide), shr_d _ _ _ (by decide)]
    rw [ck_y (by simp [tail36_len]), ck_y (by simp [tail36_len]; omega)]
    have e : (w.out ++ frm 70 (mkS keys pk) ++ frm 73 (idxS w) ++ (tail36 w.out.length (w.out ++ frm 70 (mkS keys pk)).length cnt bb pk ++ [iv (~~~(crc 4294967295#32 (tail36 w.out.length (w.out ++ frm 70 (mkS keys pk)).length cnt bb pk))) % 256, iv (~~~(crc 4294967295#32 (tail36 w.out.length (w.out ++ frm 70 (mkS keys pk)).length cnt bb pk))) / 2 ^ 8 % 256, iv (~~~(crc 4294967295#32 (tail36 w.out.length (w.out ++ frm 70 (mkS keys pk)).length cnt bb pk))) / 2 ^ 16 % 256, iv (~~~(crc 4294967295#32 (tail36 w.out.length (w.out ++ frm 70 (mkS keys pk)).length cnt bb pk))) / 2 ^ 24 % 256]))
      = outS w cnt (mkS keys pk) bb pk := rfl
    rw [e]
    by_cases h2 : (outS w cnt (mkS keys pk) bb pk).length > 4194304
    · rw [if_y (by simp; omega), if_pos h2]
    · rw [if_n (by simp; omega), if_neg h2]
      rfl

/-! ### Build -/
def okE (e : api_Entry) : Prop := Bys e.Key ∧ (0 ≤ e.Seq ∧ e.Seq ≤ 18446744073709551615) ∧ Bys e.Value
def bad : Option api_Entry → api_Entry → Bool
  | none, _ => false
  | some q, e => decide (ordS q e ≥ 0)
/-- what the first look over the entries finds amiss -/
def chk : Option api_Entry → List api_Entry → Option Int
  | _, [] => none
  | p, e :: r => if ¬ fitS e then some 41 else if bad p e = true then some 42 else chk (some e) r
def keyAdd (keys : List (List Int)) (k : List Int) : List (List Int) := if keys.getLast? = some k then keys else keys ++ [k]
/-- the entries one by one; none: too long -/
def run (bb : Int) : List api_Entry → List (List Int) → sstable_builder → Option (List (List Int) × sstable_builder)
  | [], keys, w => some (keys, w)
  | e :: r, keys, w => if w.out.length > 4194304 then none else run bb r (keyAdd keys e.Key) (addS w e bb)
def w0 : sstable_builder := ⟨[], [], [], 0, 0, []⟩
def buildS (l : List api_Entry) (bb pk : Int) : List Int × Int :=
  if bb < 64 ∨ bb > 65536 ∨ pk < 1 ∨ pk > 30 then ([], 1) else if l.length = 0 ∨ l.length > 65536 then ([], 40) else
  match chk none l with
  | some e => ([], e)
  | none => match run bb l [] w0 with
    | none => ([], 43)
    | some (keys, w) => endS (closeS w) l.length keys bb pk
/-- what holds of a builder behind some entries -/
structure Inv (n : Nat) (w : sstable_builder) : Prop where
  out : w.out.length ≤ 4194304 + 70100
  body : w.body.length ≤ 65900
  index : (w.index.length : Int) ≤ 300 * w.blocks
  many : 0 ≤ w.many ∧ w.many ≤ n
  blocks : 0 ≤ w.blocks ∧ w.blocks ≤ n
  last : w.last.length ≤ 256
  b1 : Bys w.out
  b2 : Bys w.body
  b3 : Bys w.index
  b4 : Bys w.last
theorem Inv.mod {n : Nat} {w : sstable_builder} (h : Inv n w) (hn : n ≤ 65536) : Mod w := ⟨by have := h.out; omega, by have := h.body; omega, by have := h.index; have := h.blocks; omega, by have := h.many; omega, by have := h.blocks; omega, h.last⟩
theorem Inv.zero : Inv 0 w0 := ⟨by simp [w0], by simp [w0], by simp [w0], by simp [w0], by simp [w0], by simp [w0], Bys.nil, Bys.nil, Bys.nil, Bys.nil⟩
theorem layS_bys {a : List Int} {e : api_Entry} (h : okE e) : Bys (layS a e) := by
  unfold layS
  refine Bys.app (Bys.app (Bys.app (Bys.app (Bys.app (Bys.app (num_bys _) (num_bys _)) (num_bys _)) (Bys.cons ?_ Bys.nil)) (num_bys _)) (h.1.drop _)) h.2.2
  split <;> omega
theorem idx_bys {a b : Nat} {m : Int} {l : List Int} (h : Bys l) : Bys (idx a b m l) := Bys.app (Bys.app (Bys.app (num_bys _) (num_bys _)) (num_bys _)) (txt_bys h)
theorem Inv.add {n : Nat} {w : sstable_builder} (h : Inv n w) (hn : n ≤ 65535) (ho : w.out.length ≤ 4194304) {e : api_Entry} (he : fitS e) (hk : okE e) {bb : Int} (hb : bb ≤ 65536) : Inv (n + 1) (addS w e bb) := by
  obtain ⟨h1, h2, h3, h4, h5, h6, b1, b2, b3, b4⟩ := h
  have hl := fun a => layS_len (ahead := a) he
  have hkl := he.2.2.1
  unfold addS
  split
  · split
    · rename_i hh
      refine ⟨by dsimp only; omega, ?_, by dsimp only; omega, by dsimp only; omega, by dsimp only; omega, hkl, b1, Bys.app b2 (layS_bys hk), b3, hk.1⟩
      dsimp only
      have := hl w.last
      omega
    · have hi := idx_len (a := w.out.length) (b := (frm 68 w.body).length) (m := w.many) (l := w.last) (by omega) (by rw [frm_len]; have := num_lenp 3 w.body.length (by omega) (by omega); omega) (by omega) h6
      have hf := frm_len 68 w.body
      have hf' := num_lenp 3 w.body.length (by omega) (by omega)
      refine ⟨?_, (hl []).1, ?_, by dsimp only; omega, ?_, hkl, Bys.app b1 (frm_bys (by omega) b2), layS_bys hk, Bys.app b3 (idx_bys b4), hk.1⟩
      · simp only [closeS, List.length_append]; omega
      · simp only [closeS, List.length_append]; omega
      · simp only [closeS]; omega
  · exact ⟨by dsimp only; omega, (hl []).1, by dsimp only; omega, by dsimp only; omega, by dsimp only; omega, hkl, b1, layS_bys hk, b3, hk.1⟩
theorem keyAdd_len (keys : List (List Int)) (k : List Int) : (keyAdd keys k).length ≤ keys.length + 1 := by unfold keyAdd; split <;> simp
def endR (l : List api_Entry) (bb pk : Int) : Option (List (List Int) × sstable_builder) → List Int × Int
  | none => ([], 43)
  | some (keys, w) => endS (closeS w) l.length keys bb pk
theorem Build_L3 {z : Nat} (hz : 16777216 ≤ z) {l : List api_Entry} {bb pk : Int} (hbb : 64 ≤ bb ∧ bb ≤ 65536) (hp : 1 ≤ pk ∧ pk ≤ 30) (hl : l.length ≤ 65536) (hf : ∀ e ∈ l, fitS e ∧ okE e) : ∀ (k m i : Nat) (keys : List (List Int)) (w : sstable_builder),
    l.length - i = k → i ≤ l.length → k < m → Inv i w → keys.length ≤ i → (∀ k ∈ keys, k.length ≤ 256 ∧ Bys k) →
    sstable_Build.L3 z l bb pk m keys (i : Int) w.out w.body w.index w.many w.blocks w.last = some (endR l bb pk (run bb (l.drop i) keys w))
  | k, 0, _, _, _, _, _, h, _, _, _ => by omega
  | 0, m + 1, i, keys, w, hk, hi, _, hw, hkl, hkk => by
    rw [sstable_Build.L3, if_n (by simp; omega), close_f hz (hw.mod (by omega)), bd_some]
    have hM := hw.mod (by omega)
    have hf := frm_len 68 w.body
    have hb' := hw.body
    have hf' := num_lenp 3 w.body.length (by omega) (by omega)
    have hi' := idx_len (a := w.out.length) (b := (frm 68 w.body).length) (m := w.many) (l := w.last) (by have := hw.out; omega) (by omega) hM.many hw.last
    rw [end_f hz (by have := hw.out; simp only [closeS, List.length_append]; omega) (by have := hw.index; have := hw.blocks; simp only [closeS, List.length_append]; omega) (by have := hw.blocks; simp only [closeS]; omega) (by omega) (by omega) (fun k hk => by have := (hkk k hk).1; omega) (by omega) hp, bd_some,
      List.drop_eq_nil_of_le (by omega)]
    rfl
  | k + 1, m + 1, i, keys, w, hk, hi, hm, hw, hkl, hkk => by
    have hmem : l[i]'(by omega) ∈ l := List.getElem_mem _
    rw [sstable_Build.L3, if_y (by simp; omega), ck_y (by omega), gi_nat _ _ _ (by omega), List.drop_eq_getElem_cons (by omega), run]
    by_cases ho : w.out.length > 4194304
    · rw [if_y (by simp; omega), if_pos ho]; rfl
    · rw [if_n (by simp; omega), if_neg ho]
      have hadd := add_f hz (w := w) (hw.mod (by omega)) (hf _ hmem).1 (bb := bb)
      rw [show (⟨w.out, w.body, w.index, w.many, w.blocks, w.last⟩ : sstable_builder) = w from rfl, hadd, bd_some]
      have hW := hw.add (by omega) (by omega) (hf _ hmem).1 (hf _ hmem).2 hbb.2
      have next : ∀ keys' : List (List Int), keys' = keyAdd keys (l[i]'(by omega)).Key → sstable_Build.J5 z (sstable_Build.L3 z l bb pk m) l bb pk (i : Int) (addS w (l[i]'(by omega)) bb) keys' = some (endR l bb pk (run bb (l.drop (i + 1)) (keyAdd keys (l[i]'(by omega)).Key) (addS w (l[i]'(by omega)) bb))) := by
        intro keys' hk'
        unfold sstable_Build.J5
        rw [wI (by omega), hk']
        refine Build_L3 hz hbb hp hl hf k m (i + 1) _ _ (by omega) (by omega) (by omega) hW (by have := keyAdd_len keys (l[i]'(by omega)).Key; omega) ?_
        intro x hx
        unfold keyAdd at hx
        split at hx
        · exact hkk x hx
        · rcases List.mem_append.1 hx with q | q
          · exact hkk x q
          · rw [List.mem_singleton.1 q]
            exact ⟨(hf _ hmem).1.2.2.1, (hf _ hmem).2.1⟩
      have next4 : keyAdd keys (l[i]'(by omega)).Key = keys ++ [(l[i]'(by omega)).Key] → sstable_Build.J4 z (sstable_Build.L3 z l bb pk m) l bb pk keys (i : Int) (addS w (l[i]'(by omega)) bb) = some (endR l bb pk (run bb (l.drop (i + 1)) (keyAdd keys (l[i]'(by omega)).Key) (addS w (l[i]'(by omega)) bb))) := by
        intro hk'
        unfold sstable_Build.J4
        rw [gi_nat _ _ _ (by omega), ck_y (by simp; omega)]
        exact next _ hk'.symm
      by_cases h0 : keys.length = 0
      · rw [if_y (by simp [h0])]
        exact next4 (by rw [List.eq_nil_of_length_eq_zero h0]; rfl)
      · rw [if_n (by rw [beq_eq_false_iff_ne]; omega), wI (by omega), ck_y (by omega)]
        rw [show ((keys.length : Int) - 1) = ((keys.length - 1 : Nat) : Int) by omega, gi_nat _ _ _ (by omega)]
        have hlast : keys.getLast? = some (keys[keys.length - 1]'(by omega)) := by rw [List.getLast?_eq_getElem?]; exact List.getElem?_eq_getElem _
        rw [Equal_f (hkk _ (List.getElem_mem _)).2 (hf _ hmem).2.1, bd_some]
        by_cases he : keys[keys.length - 1]'(by omega) = (l[i]'(by omega)).Key
        · rw [if_n (by simp [he])]
          exact next _ (by unfold keyAdd; rw [if_pos (by rw [hlast, he])])
        · rw [if_y (by simp [he])]
          exact next4 (by unfold keyAdd; rw [if_neg (by rw [hlast]; simpa using he)])
theorem chk_fit : ∀ {l : List api_Entry} {p : Option api_Entry}, chk p l = none → ∀ e ∈ l, fitS e
  | [], _, _, _, h => by cases h
  | e :: r, p, h, x, hx => by
    unfold chk at h
    split at h
    · cases h
    · rename_i hf
      have hf' : fitS e := by simpa using hf
      rcases List.mem_cons.1 hx with rfl | hx
      · exact hf'
      · split at h
        · cases h
        · exact chk_fit h x hx
def bigS (l : List api_Entry) (bb pk : Int) (o : Option Int) : List Int × Int := match o with | some e => ([], e) | none => endR l bb pk (run bb l [] w0)
theorem Build_L2 {z : Nat} (hz : 16777216 ≤ z) {l : List api_Entry} {bb pk : Int} (hbb : 64 ≤ bb ∧ bb ≤ 65536) (hp : 1 ≤ pk ∧ pk ≤ 30) (hl : l.length ≤ 65536) (hf : ∀ e ∈ l, okE e) : ∀ (k m i : Nat),
    l.length - i = k → i ≤ l.length → k < m → (∀ e ∈ l.take i, fitS e) →
    sstable_Build.L2 z l bb pk m (i : Int) = some (bigS l bb pk (chk (if i = 0 then none else l[i - 1]?) (l.drop i)))
  | k, 0, _, _, _, h, _ => by omega
  | 0, m + 1, i, hk, hi, _, ht => by
    rw [sstable_Build.L2, if_n (by simp; omega), List.drop_eq_nil_of_le (by omega), chk]
    rw [List.take_of_length_le (by omega)] at ht
    exact Build_L3 hz hbb hp hl (fun e he => ⟨ht e he, hf e he⟩) l.length z 0 [] w0 (by omega) (by omega) (by omega) Inv.zero (by simp) (fun k hk => by cases hk)
  | k + 1, m + 1, i, hk, hi, hm, ht => by
    rw [sstable_Build.L2, if_y (by simp; omega), ck_y (by omega), gi_nat _ _ _ (by omega), fits_f, bd_some, List.drop_eq_getElem_cons (by omega), chk]
    by_cases hfi : fitS (l[i]'(by omega))
    · rw [if_n (by simp [hfi]), if_neg (by simp [hfi])]
      have nxt : sstable_Build.J6 z (sstable_Build.L2 z l bb pk m) l bb pk (i : Int) = some (bigS l bb pk (chk (some (l[i]'(by omega))) (l.drop (i + 1)))) := by
        unfold sstable_Build.J6
        rw [wI (by omega)]
        have := Build_L2 hz hbb hp hl hf k m (i + 1) (by omega) (by omega) (by omega) (by
          intro e he
          rw [List.take_succ_eq_append_getElem (by omega)] at he
          rcases List.mem_append.1 he with q | q
          · exact ht e q
          · rw [List.mem_singleton.1 q]; exact hfi)
        rw [if_neg (by omega), Nat.add_sub_cancel, List.getElem?_eq_getElem (by omega)] at this
        exact this
      by_cases h0 : i = 0
      · subst h0
        rw [if_n (by simp), if_pos rfl, if_neg (by simp [bad])]
        exact nxt
      · rw [if_y (by simp; omega), if_neg h0, wI (by omega), ck_y (by omega), show ((i : Int) - 1) = ((i - 1 : Nat) : Int) by omega, gi_nat _ _ _ (by omega), order_f, bd_some, List.getElem?_eq_getElem (by omega)]
        by_cases ho : ordS (l[i - 1]'(by omega)) (l[i]'(by omega)) ≥ 0
        · rw [if_y (by simpa using ho), if_pos (by simpa [bad] using ho)]; rfl
        · rw [if_n (by simpa using ho), if_neg (by simpa [bad] using ho)]; exact nxt
    · rw [if_y (by simp [hfi]), if_pos hfi]; rfl
theorem Build_f {z : Nat} (hz : 16777216 ≤ z) {l : List api_Entry} (hf : ∀ e ∈ l, okE e) (bb pk : Int) : sstable_Build.f z l bb pk = some (buildS l bb pk) := by
  unfold sstable_Build.f buildS sstable_Build.J0 sstable_Build.J1
  by_cases h1 : bb < 64
  · rw [if_y (by simpa using h1), if_pos (.inl h1)]
  · rw [if_n (by simpa using h1)]
    by_cases h2 : bb > 65536
    · rw [if_y (by simpa using h2), if_pos (.inr (.inl h2))]
    · rw [if_n (by simpa using h2)]
      by_cases h3 : pk < 1
      · rw [if_y (by simpa using h3), if_pos (.inr (.inr (.inl h3)))]
      · rw [if_n (by simpa using h3)]
        by_cases h4 : pk > 30
        · rw [if_y (by simpa using h4), if_pos (.inr (.inr (.inr h4)))]
        · rw [if_n (by simpa using h4), if_neg (by omega)]
          by_cases h5 : l.length = 0
          · rw [if_y (by simp [h5]), if_pos (.inl h5)]
          · rw [if_n (by rw [beq_eq_false_iff_ne]; omega)]
            by_cases h6 : l.length > 65536
            · rw [if_y (by simp; omega), if_pos (.inr h6)]
            · rw [if_n (by simp; omega), if_neg (by omega)]
              have := Build_L2 hz (by omega) (by omega) (by omega) hf (bb := bb) (pk := pk) l.length z 0 (by omega) (by omega) (by omega) (fun e he => by simp at he)
              rw [if_pos rfl, List.drop_zero] at this
              refine this.trans ?_
              unfold bigS
              cases chk none l with
              | some e => rfl
              | none =>
                cases run bb l [] w0 with
                | none => rfl
                | some r => rfl
end Go.Proofs.Ytghpokmkhlmgcaa

namespace Go.Proofs.Ytghpokmkhlmgcaa
open Go Go.Proofs.Ytghpokmkhlmgcaa.X
set_option linter.unusedVariables false

theorem bor64_in (x y : Int) : 0 ≤ bOr .u64 x y ∧ bOr .u64 x y ≤ 18446744073709551615 := wrU_in _
theorem TakeNumber_L0 (z : Nat) {xs : List Int} (hx : xs.length ≤ 16777215) : ∀ (k m i : Nat) (a : Int), 10 - i = k → i ≤ 10 → i ≤ xs.length → k < m →
    Ok (codec_TakeNumber.L0 z xs m a (i : Int)) fun r => r.2.2 ≠ 0 ∨ ((0 ≤ r.1 ∧ r.1 ≤ 18446744073709551615) ∧ 1 ≤ r.2.1 ∧ r.2.1 ≤ xs.length ∧ r.2.2 = 0)
  | k, 0, _, _, _, _, _, h => by omega
  | 0, m + 1, i, a, hk, hi, hl, hm => by
    rw [codec_TakeNumber.L0, if_n (by simp; omega)]
    exact Ok.some (.inl (by decide))
  | k + 1, m + 1, i, a, hk, hi, hl, hm => by
    rw [codec_TakeNumber.L0, if_y (by simp; omega)]
    refine Ok.ite (fun _ => Ok.some (.inl (by decide))) fun h1 => ?_
    rw [beq_eq_false_iff_ne] at h1
    have hil : i < xs.length := by omega
    refine Ok.ck (by omega) (Ok.ck (by rw [wI (by omega)]; omega) ?_)
    have hJ2 : Ok (codec_TakeNumber.J2 z xs a (i : Int)) fun r => r.2.2 ≠ 0 ∨ ((0 ≤ r.1 ∧ r.1 ≤ 18446744073709551615) ∧ 1 ≤ r.2.1 ∧ r.2.1 ≤ xs.length ∧ r.2.2 = 0) := by
      unfold codec_TakeNumber.J2
      rw [wI (x := (i : Int) + 1) (by omega)]
      exact Ok.some (.inr ⟨bor64_in _ _, by dsimp only; omega, by dsimp only; omega, rfl⟩)
    have hJ1 : Ok (codec_TakeNumber.J1 z xs a (i : Int)) fun r => r.2.2 ≠ 0 ∨ ((0 ≤ r.1 ∧ r.1 ≤ 18446744073709551615) ∧ 1 ≤ r.2.1 ∧ r.2.1 ≤ xs.length ∧ r.2.2 = 0) := by
      unfold codec_TakeNumber.J1
      exact Ok.ite (fun _ => Ok.ite (fun _ => Ok.some (.inl (by decide))) fun _ => hJ2) fun _ => hJ2
    refine Ok.ite (fun _ => ?_) fun _ => Ok.ite (fun _ => Ok.ite (fun _ => Ok.some (.inl (by decide))) fun _ => hJ1) fun _ => hJ1
    rw [wI (x := (i : Int) + 1) (by omega)]
    exact TakeNumber_L0 z hx k m (i + 1) _ (by omega) (by omega) (by omega) (by omega)
theorem TakeNumber_ok {z : Nat} (hz : 16777216 ≤ z) {xs : List Int} (hx : xs.length ≤ 16777215) : Ok (codec_TakeNumber.f z xs) fun r => r.2.2 ≠ 0 ∨ ((0 ≤ r.1 ∧ r.1 ≤ 18446744073709551615) ∧ 1 ≤ r.2.1 ∧ r.2.1 ≤ xs.length ∧ r.2.2 = 0) :=
  TakeNumber_L0 z hx 10 z 0 0 rfl (by omega) (by omega) (by omega)
theorem length_ok {z : Nat} (hz : 16777216 ≤ z) {xs : List Int} (hx : xs.length ≤ 16777215) {more : Int} (hm : 0 ≤ more ∧ more ≤ 100) : Ok (codec_length.f z xs more) fun r => r.2.2 ≠ 0 ∨ (0 ≤ r.1 ∧ 1 ≤ r.2.1 ∧ r.1 + r.2.1 + more ≤ xs.length ∧ r.2.2 = 0) := by
  unfold codec_length.f
  refine (TakeNumber_ok hz hx).bd fun r h => ?_
  refine Ok.ite (fun h1 => Ok.some (.inl (by simpa using h1))) fun h1 => ?_
  rw [bne_eq_false_iff_eq] at h1
  rcases h with h | ⟨h2, h3, h4, _⟩
  · exact absurd h1 h
  refine Ok.ite (fun _ => Ok.some (.inl (by decide))) fun h5 => ?_
  have h5' : r.1 ≤ 2097152 := by simpa using h5
  rw [wI (x := (xs.length : Int) - r.2.1) (by omega), wI (x := (xs.length : Int) - r.2.1 - more) (by omega), wI (x := r.1) (by omega)]
  refine Ok.ite (fun _ => Ok.some (.inl (by decide))) fun h6 => ?_
  have h6' : r.1 ≤ (xs.length : Int) - r.2.1 - more := by simpa using h6
  exact Ok.some (.inr ⟨h2.1, h3, by dsimp only; omega, rfl⟩)
theorem cut_bys {xs : List Int} (h : Bys xs) (a b : Nat) : Bys (cut xs a b) := h.cut a b
theorem cut_le {xs : List Int} (a b : Nat) : (cut xs a b).length ≤ xs.length := by simp [cut]; omega
theorem TakeFrame_ok {z : Nat} (hz : 16777216 ≤ z) {xs : List Int} (hb : Bys xs) (hx : xs.length ≤ 8388608) : Ok (codec_TakeFrame.f z xs) fun r => r.2.2.2 ≠ 0 ∨ (Bys r.2.1 ∧ (r.2.1.length : Int) < r.2.2.1 ∧ r.2.2.1 ≤ xs.length ∧ r.2.2.2 = 0) := by
  unfold codec_TakeFrame.f
  refine Ok.ite (fun _ => Ok.some (.inl (by decide))) fun h0 => ?_
  rw [beq_eq_false_iff_ne] at h0
  refine Ok.ck (by omega) ?_
  have hc : (cut xs (Int.toNat 1) (Int.toNat (xs.length : Int))).length = xs.length - 1 := by rw [cut_len _ _ _ (by omega)]; omega
  refine (length_ok hz (by omega) (by omega)).bd fun r h => ?_
  rw [hc] at h
  refine Ok.ite (fun h1 => Ok.some (.inl (by simpa using h1))) fun h1 => ?_
  rw [bne_eq_false_iff_eq] at h1
  rcases h with h | ⟨h2, h3, h4, _⟩
  · exact absurd h1 h
  rw [wI (x := r.2.1 + 1) (by omega), wI (x := r.2.1 + 5) (by omega), wI (x := r.2.1 + 5 + r.1) (by omega)]
  refine Ok.ck (by omega) (Ok.ck (by omega) (Ok.ck (by omega) ?_))
  refine Ok.bde (sums_f hz (by have := cut_le (xs := xs) (Int.toNat 0) (r.2.1 + 1).toNat; omega) (by have := cut_le (xs := xs) (r.2.1 + 5).toNat (r.2.1 + 5 + r.1).toNat; omega)) ?_
  refine Ok.bde (Equal_f (hb.cut _ _) (le4_bys _)) ?_
  refine Ok.ite (fun _ => Ok.some (.inl (by decide))) fun _ => Ok.ck (by omega) ?_
  have hl : (cut xs (r.2.1 + 5).toNat (r.2.1 + 5 + r.1).toNat).length = r.1.toNat := by rw [cut_len _ _ _ (by omega)]; omega
  refine Ok.bde (s := cut xs (r.2.1 + 5).toNat (r.2.1 + 5 + r.1).toNat) (by unfold bytes_Clone.f; rw [ck_y (by omega)]) ?_
  refine Ok.bde (s := cut xs (r.2.1 + 5).toNat (r.2.1 + 5 + r.1).toNat) rfl ?_
  exact Ok.some (.inr ⟨hb.cut _ _, by dsimp only; omega, by dsimp only; omega, rfl⟩)
theorem entry_L0 {z : Nat} (hz : 16777216 ≤ z) {ahead : List Int} (ha : Bys ahead ∧ ahead.length ≤ 256) {n0 : Nat} (hn0 : n0 ≤ 8388608) : ∀ (k m i : Nat) (xs : List Int) (d : Bool) (ns : List Int), 4 - i = k → i ≤ 4 → k < m → Bys xs → xs.length + i ≤ n0 → ns.length = 4 → (∀ x ∈ ns, 0 ≤ x ∧ x ≤ 18446744073709551615) →
    Ok (sstable_entry.L0 z ahead m xs (i : Int) d ns) fun r => r.2.2 = true → okE r.1 ∧ Bys r.2.1 ∧ r.2.1.length + 4 ≤ n0
  | k, 0, _, _, _, _, _, _, h, _, _, _, _ => by omega
  | 0, m + 1, i, xs, d, ns, hk, hi, hm, hb, hl, hn, hr => by
    obtain ⟨a, b, c, e, rfl⟩ : ∃ a b c e, ns = [a, b, c, e] := by
      match ns, hn with
      | [a, b, c, e], _ => exact ⟨a, b, c, e, rfl⟩
    have ha' := hr a (by simp)
    have hb' := hr b (by simp)
    have hc' := hr c (by simp)
    have he' := hr e (by simp)
    rw [sstable_entry.L0, if_n (by simp; omega)]
    rw [show gi (0 : Int) [a, b, c, e] 0 = a from rfl, show gi (0 : Int) [a, b, c, e] 1 = b from rfl, show gi (0 : Int) [a, b, c, e] 2 = c from rfl, show gi (0 : Int) [a, b, c, e] 3 = e from rfl]
    unfold sstable_entry.J1
    rw [wU (x := (ahead.length : Int)) (by omega), wU (x := (xs.length : Int)) (by omega)]
    refine Ok.ite (fun _ => Ok.some fun h => by cases h) fun h1 => Ok.ite (fun _ => Ok.some fun h => by cases h) fun h2 => ?_
    have h1' : a ≤ ahead.length := by simpa using h1
    have h2' : b ≤ xs.length := by simpa using h2
    rw [wU (x := (xs.length : Int) - b) (by omega)]
    refine Ok.ite (fun _ => Ok.some fun h => by cases h) fun h3 => ?_
    have h3' : e ≤ xs.length - b := by simpa using h3
    refine Ok.ck (by omega) (Ok.ck (by omega) ?_)
    have q1 := cut_le (xs := ahead) (Int.toNat 0) a.toNat
    have q2 := cut_le (xs := xs) (Int.toNat 0) b.toNat
    refine Ok.bde (Concat_f hz (by simp) (by simp only [List.flatten_cons, List.flatten_nil, List.append_nil, List.length_append]; omega)) ?_
    have q3 : (cut xs b.toNat (Int.toNat (xs.length : Int))).length = xs.length - b.toNat := by rw [cut_len _ _ _ (by omega)]; omega
    refine Ok.ck (by omega) ?_
    refine Ok.bde (s := cut (cut xs b.toNat (Int.toNat (xs.length : Int))) (Int.toNat 0) e.toNat) (by
      unfold bytes_Clone.f
      rw [ck_y (by have := cut_le (xs := cut xs b.toNat (Int.toNat (xs.length : Int))) (Int.toNat 0) e.toNat; omega)]) ?_
    refine Ok.bde rfl ?_
    refine Ok.some fun _ => ⟨⟨?_, hc', (hb.cut _ _).cut _ _⟩, (hb.cut _ _).cut _ _, ?_⟩
    · simp only [List.flatten_cons, List.flatten_nil, List.append_nil]
      exact (ha.1.cut _ _).app (hb.cut _ _)
    · have := cut_le (xs := cut xs b.toNat (Int.toNat (xs.length : Int))) e.toNat (Int.toNat ((cut xs b.toNat (Int.toNat (xs.length : Int))).length : Int))
      dsimp only
      omega
  | k + 1, m + 1, i, xs, d, ns, hk, hi, hm, hb, hl, hn, hr => by
    rw [sstable_entry.L0, if_y (by simp; omega)]
    have hJ : ∀ (ys : List Int) (d' : Bool), Bys ys → ys.length ≤ xs.length → Ok (sstable_entry.J3 z (sstable_entry.L0 z ahead m) ahead (i : Int) ys d' ns) fun r => r.2.2 = true → okE r.1 ∧ Bys r.2.1 ∧ r.2.1.length + 4 ≤ n0 := by
      intro ys d' hy hyl
      unfold sstable_entry.J3
      refine (TakeNumber_ok hz (by omega)).bd fun r h => ?_
      refine Ok.ite (fun _ => Ok.some fun h => by cases h) fun h1 => ?_
      rw [bne_eq_false_iff_eq] at h1
      rcases h with h | ⟨h2, h3, h4, _⟩
      · exact absurd h1 h
      refine Ok.ck (by omega) (Ok.ck (by omega) ?_)
      rw [wI (by omega)]
      refine entry_L0 hz ha hn0 k m (i + 1) _ _ _ (by omega) (by omega) (by omega) (hy.cut _ _) ?_ (by simpa using hn) ?_
      · rw [cut_len _ _ _ (by omega)]; omega
      · intro x hx
        rcases List.mem_or_eq_of_mem_set hx with q | rfl
        · exact hr x q
        · exact h2
    refine Ok.ite (fun _ => ?_) fun _ => hJ xs d hb (Nat.le_refl _)
    unfold sstable_entry.J2
    refine Ok.ite (fun _ => Ok.some fun h => by cases h) fun h1 => ?_
    rw [beq_eq_false_iff_ne] at h1
    refine Ok.ck (by omega) (Ok.ite (fun _ => Ok.some fun h => by cases h) fun _ => Ok.ck (by omega) ?_)
    exact hJ _ _ (hb.cut _ _) (cut_le _ _)
theorem entry_ok {z : Nat} (hz : 16777216 ≤ z) {xs ahead : List Int} (ha : Bys ahead ∧ ahead.length ≤ 256) (hb : Bys xs) (hl : xs.length ≤ 8388608) : Ok (sstable_entry.f z xs ahead) fun r => r.2.2 = true → okE r.1 ∧ Bys r.2.1 ∧ r.2.1.length + 4 ≤ xs.length :=
  entry_L0 hz ha hl 4 z 0 xs false [0, 0, 0, 0] rfl (by omega) (by omega) hb (by omega) rfl (fun x hx => by simp at hx; omega)
theorem entries_L0 {z : Nat} (hz : 16777216 ≤ z) {fr : Int × List Int × Int × Int} {n0 : Nat} (hn0 : n0 ≤ 8388608) : ∀ (m : Nat) (xs : List Int) (out : List api_Entry) (ahead : List Int), xs.length < m → Bys xs → Bys ahead ∧ ahead.length ≤ 256 → out.length + xs.length ≤ n0 → (∀ e ∈ out, okE e) →
    Ok (sstable_entries.L0 z fr m xs out ahead) fun r => r.2.2 = true → (∀ e ∈ r.1, okE e) ∧ r.2.1 = fr.2.2.1 ∧ r.1.length ≤ n0
  | 0, _, _, _, h, _, _, _, _ => by omega
  | m + 1, xs, out, ahead, hm, hb, ha, hl, ho => by
    rw [sstable_entries.L0]
    refine Ok.ite (fun h => ?_) fun _ => Ok.some fun _ => ⟨ho, rfl, by dsimp only; omega⟩
    unfold sstable_entries.J1
    refine (entry_ok hz ha hb (by omega)).bd fun r hr => ?_
    refine Ok.ite (fun _ => Ok.some fun h => by cases h) fun h1 => Ok.ite (fun _ => Ok.some fun h => by cases h) fun h2 => ?_
    obtain ⟨h3, h4, h5⟩ := hr (by simpa using h1)
    have h2' : r.1.Key.length ≤ 256 := by
      have : (r.1.Key.length : Int) ≤ 256 := by simpa using h2
      omega
    refine Ok.ck (by simp; omega) ?_
    exact entries_L0 hz hn0 m _ _ _ (by omega) h4 ⟨h3.1, h2'⟩ (by simp; omega) (fun e he => by
      rcases List.mem_append.1 he with q | q
      · exact ho e q
      · rw [List.mem_singleton.1 q]; exact h3)
theorem entries_ok {z : Nat} (hz : 16777216 ≤ z) {xs : List Int} (hb : Bys xs) (hl : xs.length ≤ 8388608) : Ok (sstable_entries.f z xs) fun r => r.2.2 = true → (∀ e ∈ r.1, okE e) ∧ 1 ≤ r.2.1 ∧ r.2.1 ≤ xs.length ∧ (r.1.length : Int) ≤ r.2.1 := by
  unfold sstable_entries.f
  refine (TakeFrame_ok hz hb hl).bd fun r h => ?_
  refine Ok.ite (fun _ => Ok.some fun h => by cases h) fun h1 => ?_
  rw [bne_eq_false_iff_eq] at h1
  rcases h with h | ⟨h2, h3, h4, _⟩
  · exact absurd h1 h
  refine (entries_L0 hz (n0 := r.2.1.length) (by omega) z _ _ _ (by omega) h2 ⟨Bys.nil, by simp⟩ (by simp) (fun e he => by cases he)).imp fun q hq h => ?_
  obtain ⟨a, b, c⟩ := hq h
  exact ⟨a, by omega, by omega, by omega⟩
theorem low_L0 (z : Nat) {xs : List Int} (hx : xs.length ≤ 16777215) : ∀ (k m i : Nat) (a : Int), xs.length - i = k → i ≤ xs.length → k < m → Ok (sstable_low.L0 z xs m a (i : Int)) fun _ => True
  | k, 0, _, _, _, _, h => by omega
  | 0, m + 1, i, a, hk, hi, hm => by
    rw [sstable_low.L0, if_n (by simp; omega)]
    exact Ok.some trivial
  | k + 1, m + 1, i, a, hk, hi, hm => by
    rw [sstable_low.L0, if_y (by simp; omega), ck_y (by omega), wI (x := (i : Int) + 1) (by omega)]
    exact low_L0 z hx k m (i + 1) _ (by omega) (by omega) (by omega)
theorem low_ok {z : Nat} (hz : 16777216 ≤ z) {xs : List Int} (hx : xs.length ≤ 16777215) : Ok (sstable_low.f z xs) fun _ => True :=
  low_L0 z hx xs.length z 0 0 rfl (by omega) (by omega)

/-! ### what Build makes is bytes -/
theorem tailS_bys (fa ia cnt bb pk : Int) : Bys (tailS fa ia cnt bb pk) := by
  unfold tailS tail36
  refine Bys.app (Bys.app (Bys.app (Bys.app (Bys.app (Bys.app (highS_bys _ _) (highS_bys _ _)) (highS_bys _ _)) (highS_bys _ _)) (highS_bys _ _)) ?_) (le4_bys _)
  intro x hx
  simp at hx
  omega
theorem outS_bys {w : sstable_builder} (h1 : Bys w.out) (h2 : Bys w.index) {cnt : Int} {f : List Int} (hf : Bys f) {bb pk : Int} : Bys (outS w cnt f bb pk) :=
  Bys.app (Bys.app (Bys.app h1 (frm_bys (by omega) hf)) (frm_bys (by omega) (Bys.app (num_bys _) h2))) (tailS_bys _ _ _ _ _)
theorem run_inv {bb : Int} (hb : bb ≤ 65536) : ∀ (l : List api_Entry) (i : Nat) (keys : List (List Int)) (w : sstable_builder) (r : List (List Int) × sstable_builder), i + l.length ≤ 65536 → (∀ e ∈ l, fitS e ∧ okE e) → Inv i w → run bb l keys w = some r → Inv (i + l.length) r.2
  | [], i, keys, w, r, _, _, h, hr => by
    rw [run] at hr
    cases hr
    exact h
  | e :: l, i, keys, w, r, hl, hf, h, hr => by
    rw [run] at hr
    split at hr
    · cases hr
    · rename_i ho
      have := run_inv hb l (i + 1) _ _ r (by simp at hl; omega) (fun x hx => hf x (List.mem_cons_of_mem _ hx)) (h.add (by simp at hl; omega) (by omega) (hf e (List.mem_cons_self ..)).1 (hf e (List.mem_cons_self ..)).2 hb) hr
      rw [show i + (e :: l).length = i + 1 + l.length by simp; omega]
      exact this
/-- how a table came about -/
theorem buildS_out {l : List api_Entry} (hf : ∀ e ∈ l, okE e) {bb pk : Int} {b : List Int} (h : buildS l bb pk = (b, 0)) :
    (64 ≤ bb ∧ bb ≤ 65536) ∧ (1 ≤ pk ∧ pk ≤ 30) ∧ (0 < l.length ∧ l.length ≤ 65536) ∧ chk none l = none ∧ ∃ keys w, run bb l [] w0 = some (keys, w) ∧ Inv l.length w ∧ (idxS (closeS w)).length ≤ 2097152 ∧ b.length ≤ 4194304 ∧ b = outS (closeS w) l.length (mkS keys pk) bb pk := by
  unfold buildS at h
  split at h
  · cases h
  rename_i h1
  split at h
  · cases h
  rename_i h2
  have hc0 : ∀ (l : List api_Entry) (p : Option api_Entry) (e : Int), chk p l = some e → e ≠ 0 := by
    intro l
    induction l with
    | nil => intro p e h; cases h
    | cons x l ih =>
      intro p e h
      rw [chk] at h
      split at h
      · cases h; decide
      · split at h
        · cases h; decide
        · exact ih _ _ h
  cases hc : chk none l with
  | some e =>
    rw [hc] at h
    simp only [Prod.mk.injEq] at h
    exact absurd h.2 (hc0 l none e hc)
  | none =>
    rw [hc] at h
    dsimp only at h
    cases hr : run bb l [] w0 with
    | none => rw [hr] at h; cases h
    | some r =>
      obtain ⟨keys, w⟩ := r
      rw [hr] at h
      dsimp only at h
      unfold endS at h
      split at h
      · cases h
      rename_i h3
      split at h
      · cases h
      rename_i h4
      simp only [Prod.mk.injEq] at h
      refine ⟨by omega, by omega, by omega, rfl, keys, w, rfl, ?_, by omega, by rw [← h.1]; omega, h.1.symm⟩
      have := run_inv (by omega) l 0 [] w0 (keys, w) (by omega) (fun e he => ⟨chk_fit hc e he, hf e he⟩) Inv.zero hr
      simpa using this
theorem buildS_bys {l : List api_Entry} (hf : ∀ e ∈ l, okE e) {bb pk : Int} {b : List Int} (h : buildS l bb pk = (b, 0)) : Bys b := by
  obtain ⟨_, hp, _, _, keys, w, _, hi, _, _, rfl⟩ := buildS_out hf h
  exact outS_bys (Bys.app hi.b1 (frm_bys (by omega) hi.b2)) (Bys.app hi.b3 (idx_bys hi.b4)) (mkS_bys hp)

/-! ### Open -/
/-- a table's bytes that Build makes -/
def Made (b : List Int) : Prop := ∃ l bb pk, (∀ e ∈ l, okE e) ∧ buildS l bb pk = (b, 0)
def AfterOpen (b : List Int) (r : Option sstable_Table × Int) : Prop := r = (none, 44) ∨ (r.2 = 0 ∧ Made b)
theorem Open_J3 {z : Nat} (hz : 16777216 ≤ z) {b : List Int} (hb : Bys b) (hl : 40 ≤ b.length ∧ b.length ≤ 4194304) {b' : List Int} {bl : List sstable_block} {all : List api_Entry} (ha : ∀ e ∈ all, okE e) {at' : Int} (hat : 0 ≤ at' ∧ at' ≤ b.length) :
    Ok (sstable_Open.J3 z b b' bl all at') (AfterOpen b) := by
  unfold sstable_Open.J3 sstable_Open.J4
  rw [wI (by omega)]
  have hc : (cut b (Int.toNat ((b.length : Int) - 40)) (Int.toNat (b.length : Int))).length = 40 := by rw [cut_len _ _ _ (by omega)]; omega
  refine Ok.ck (by omega) (Ok.ck (by omega) (Ok.ck (by omega) ?_))
  refine (low_ok hz (by have := cut_le (xs := cut b (Int.toNat ((b.length : Int) - 40)) (Int.toNat (b.length : Int))) (Int.toNat 24) (Int.toNat 28); omega)).bd fun bb _ => ?_
  refine (low_ok hz (by have := cut_le (xs := cut b (Int.toNat ((b.length : Int) - 40)) (Int.toNat (b.length : Int))) (Int.toNat 28) (Int.toNat 32); omega)).bd fun pk _ => ?_
  refine Ok.bde (Build_f hz ha bb pk) ?_
  refine Ok.ite (fun _ => Ok.some (.inl rfl)) fun h1 => ?_
  rw [bne_eq_false_iff_eq] at h1
  have hB : buildS all bb pk = ((buildS all bb pk).1, 0) := by rw [← h1]
  refine Ok.bde (Equal_f (buildS_bys ha hB) hb) ?_
  refine Ok.ite (fun _ => Ok.some (.inl rfl)) fun h2 => ?_
  have h2' : (buildS all bb pk).1 = b := by simpa using h2
  rw [h2'] at hB
  refine Ok.ck (by omega) ?_
  refine (TakeFrame_ok hz (hb.cut _ _) (by have := cut_le (xs := b) at'.toNat (Int.toNat (b.length : Int)); omega)).bd fun r _ => ?_
  exact Ok.some (.inr ⟨rfl, all, bb, pk, ha, hB⟩)
theorem Open_L1 {z : Nat} (hz : 16777216 ≤ z) {b : List Int} (hb : Bys b) (hl : 40 ≤ b.length ∧ b.length ≤ 4194304) {b' : List Int} : ∀ (m : Nat) (all : List api_Entry) (i : Nat) (bl : List sstable_block), b.length - i < m → i ≤ b.length → (∀ e ∈ all, okE e) → bl.length ≤ i → all.length ≤ i →
    Ok (sstable_Open.L1 z b b' m all (i : Int) bl) (AfterOpen b)
  | 0, _, _, _, h, _, _, _, _ => by omega
  | m + 1, all, i, bl, hm, hi, ha, hbl, hal => by
    rw [sstable_Open.L1]
    refine Ok.ite (fun h => ?_) fun _ => Open_J3 hz hb hl ha (by omega)
    have hlt : i < b.length := by
      have : (i : Int) < b.length := by simpa using h
      omega
    refine Ok.ck (by omega) (Ok.ite (fun _ => ?_) fun _ => Open_J3 hz hb hl ha (by omega))
    refine Ok.ck (by omega) ?_
    unfold sstable_Open.J2
    have hcl := cut_len b (Int.toNat (i : Int)) (Int.toNat (b.length : Int)) (by omega)
    refine (entries_ok hz (hb.cut _ _) (by omega)).bd fun r hr => ?_
    refine Ok.ite (fun _ => Ok.some (.inl rfl)) fun h1 => Ok.ite (fun _ => Ok.some (.inl rfl)) fun h2 => ?_
    rw [beq_eq_false_iff_ne] at h2
    obtain ⟨q1, q2, q3, q4⟩ := hr (by simpa using h1)
    refine Ok.ck (by omega) (Ok.ck (by rw [wI (by omega)]; omega) (Ok.ck (by simp; omega) (Ok.ck (by omega) ?_)))
    rw [wI (x := (i : Int) + r.2.1) (by omega), show ((i : Int) + r.2.1) = ((i + r.2.1.toNat : Nat) : Int) by omega]
    exact Open_L1 hz hb hl m _ _ _ (by omega) (by omega) (fun e he => (List.mem_append.1 he).elim (ha e) (q1 e)) (by simp; omega) (by simp; omega)
theorem Open_ok {z : Nat} (hz : 16777216 ≤ z) {b : List Int} (hb : Bys b) : Ok (sstable_Open.f z b) (AfterOpen b) := by
  unfold sstable_Open.f sstable_Open.J0
  refine Ok.ite (fun _ => Ok.some (.inl rfl)) fun h1 => Ok.ite (fun _ => Ok.some (.inl rfl)) fun h2 => ?_
  have h1' : (40 : Int) ≤ b.length := by simpa using h1
  have h2' : (b.length : Int) ≤ 4194304 := by simpa using h2
  refine Ok.bde (s := b) (by unfold bytes_Clone.f; rw [ck_y (by omega)]) (Ok.bde (s := b) rfl ?_)
  exact Open_L1 hz hb (by omega) z [] 0 [] (by omega) (by omega) (fun e he => by cases he) (by simp) (by simp)
end Go.Proofs.Ytghpokmkhlmgcaa

namespace Go.Proofs.Ytghpokmkhlmgcaa
open Go Go.Proofs.Ytghpokmkhlmgcaa.X
set_option linter.unusedVariables false

/-! ### what is laid out is told apart -/
theorem num_pre : ∀ (a b : Nat) (r s : List Int), num a ++ r = num b ++ s → a = b ∧ r = s := by
  intro a
  induction a using Nat.strongRecOn with
  | ind a ih =>
    intro b r s h
    rw [num.eq_1 a, num.eq_1 b] at h
    by_cases ha : a ≤ 127
    · by_cases hb : b ≤ 127
      · rw [if_pos ha, if_pos hb] at h
        simp only [List.cons_append, List.nil_append, List.cons.injEq] at h
        exact ⟨by omega, h.2⟩
      · rw [if_pos ha, if_neg hb] at h
        simp at h
        omega
    · by_cases hb : b ≤ 127
      · rw [if_neg ha, if_pos hb] at h
        simp at h
        omega
      · rw [if_neg ha, if_neg hb] at h
        simp only [List.cons_append, List.cons.injEq] at h
        obtain ⟨h1, h2⟩ := ih (a / 128) (by omega) _ _ _ h.2
        exact ⟨by omega, h2⟩
theorem num_mono : ∀ (a b : Nat), a ≤ b → (num a).length ≤ (num b).length := by
  intro a
  induction a using Nat.strongRecOn with
  | ind a ih =>
    intro b h
    rw [num.eq_1 a, num.eq_1 b]
    by_cases ha : a ≤ 127
    · rw [if_pos ha]
      split <;> simp
    · rw [if_neg ha, if_neg (by omega)]
      have := ih (a / 128) (by omega) (b / 128) (by omega)
      simp; omega
theorem frm_len_inj {k k' : Int} {a b : List Int} (h : (frm k a).length = (frm k' b).length) : a.length = b.length := by
  rw [frm_len, frm_len] at h
  rcases Nat.lt_trichotomy a.length b.length with q | q | q
  · have := num_mono a.length b.length (by omega); omega
  · exact q
  · have := num_mono b.length a.length (by omega); omega
theorem le4_len (c : BitVec 32) : (le4 c).length = 4 := rfl
theorem frm_pre {k k' : Int} {a b r s : List Int} (h : frm k a ++ r = frm k' b ++ s) : k = k' ∧ a = b ∧ r = s := by
  unfold frm at h
  simp only [List.append_assoc] at h
  unfold hd at h
  simp only [List.cons_append, List.cons.injEq] at h
  obtain ⟨h1, h2⟩ := h
  obtain ⟨h3, h4⟩ := num_pre _ _ _ _ h2
  obtain ⟨h5, h6⟩ := List.append_inj h4 rfl
  obtain ⟨h7, h8⟩ := List.append_inj h6 h3
  exact ⟨h1, h7, h8⟩

/-! ### sums tell bytes apart -/
theorem and_one (c : BitVec 32) : c &&& 1#32 = 0#32 ∨ c &&& 1#32 = 1#32 := by
  have h : (c &&& 1#32).toNat = c.toNat % 2 := by rw [BitVec.toNat_and]; exact Nat.and_one_is_mod _
  rcases Nat.mod_two_eq_zero_or_one c.toNat with q | q
  · left; exact BitVec.eq_of_toNat_eq (by rw [h, q]; rfl)
  · right; exact BitVec.eq_of_toNat_eq (by rw [h, q]; rfl)
theorem half_inj {c d : BitVec 32} (h : c >>> 1 = d >>> 1) (e : c &&& 1#32 = d &&& 1#32) : c = d := by
  have h1 : c.toNat / 2 = d.toNat / 2 := by
    have := congrArg BitVec.toNat h
    rw [BitVec.toNat_ushiftRight, BitVec.toNat_ushiftRight, Nat.shiftRight_eq_div_pow, Nat.shiftRight_eq_div_pow] at this
    omega
  have h2 : c.toNat % 2 = d.toNat % 2 := by
    have := congrArg BitVec.toNat e
    rw [BitVec.toNat_and, BitVec.toNat_and] at this
    rw [← Nat.and_one_is_mod, ← Nat.and_one_is_mod]
    exact this
  exact BitVec.eq_of_toNat_eq (by omega)
theorem top_ne {c d : BitVec 32} : c >>> 1 ≠ d >>> 1 ^^^ 3988292384#32 := by
  intro h
  have h1 := congrArg (fun x => BitVec.getLsbD x 31) h
  simp at h1
theorem stp_0 {c : BitVec 32} (h : c &&& 1#32 = 0#32) : stp c = c >>> 1 := by
  unfold stp; rw [h]
  show c >>> 1 ^^^ (3988292384#32 &&& 0#32) = _
  simp
theorem stp_1 {c : BitVec 32} (h : c &&& 1#32 = 1#32) : stp c = c >>> 1 ^^^ 3988292384#32 := by
  unfold stp; rw [h]
  show c >>> 1 ^^^ 3988292384#32 = _
  rfl
theorem stp_inj {c d : BitVec 32} (h : stp c = stp d) : c = d := by
  rcases and_one c with a | a <;> rcases and_one d with b | b
  · rw [stp_0 a, stp_0 b] at h; exact half_inj h (by rw [a, b])
  · rw [stp_0 a, stp_1 b] at h; exact absurd h top_ne
  · rw [stp_1 a, stp_0 b] at h; exact absurd h.symm top_ne
  · rw [stp_1 a, stp_1 b] at h
    have h' := congrArg (· ^^^ 3988292384#32) h
    simp only [BitVec.xor_assoc, BitVec.xor_self, BitVec.xor_zero] at h'
    exact half_inj h' (by rw [a, b])
theorem byt_xor {c d : BitVec 32} {x y : Int} (h : byt c x = byt d y) : c ^^^ BitVec.ofInt 32 x = d ^^^ BitVec.ofInt 32 y :=
  stp_inj (stp_inj (stp_inj (stp_inj (stp_inj (stp_inj (stp_inj (stp_inj h)))))))
theorem byt_c {c d : BitVec 32} {x : Int} (h : byt c x = byt d x) : c = d := by
  have h' := congrArg (· ^^^ BitVec.ofInt 32 x) (byt_xor h)
  simpa only [BitVec.xor_assoc, BitVec.xor_self, BitVec.xor_zero] using h'
theorem byt_x {c : BitVec 32} {x y : Int} (hx : 0 ≤ x ∧ x < 256) (hy : 0 ≤ y ∧ y < 256) (h : byt c x = byt c y) : x = y := by
  have h' := congrArg (c ^^^ ·) (byt_xor h)
  simp only [← BitVec.xor_assoc, BitVec.xor_self, BitVec.zero_xor] at h'
  have h2 := congrArg BitVec.toNat h'
  rw [BitVec.toNat_ofInt, BitVec.toNat_ofInt] at h2
  omega
theorem crc_c : ∀ (q : List Int) {c d : BitVec 32}, crc c q = crc d q → c = d
  | [], _, _, h => h
  | x :: q, c, d, h => byt_c (crc_c q h)
/-- one byte is another -/
def Diff (xs ys : List Int) : Prop := ∃ p x y q, xs = p ++ x :: q ∧ ys = p ++ y :: q ∧ x ≠ y
theorem Diff.irrefl {xs : List Int} (h : Diff xs xs) : False := by
  obtain ⟨p, x, y, q, h1, h2, h3⟩ := h
  rw [h1] at h2
  have := List.append_cancel_left h2
  simp at this
  exact h3 this
theorem Diff.len {xs ys : List Int} (h : Diff xs ys) : xs.length = ys.length := by
  obtain ⟨p, x, y, q, rfl, rfl, _⟩ := h
  simp
theorem Diff.crc {xs ys : List Int} (hx : Bys xs) (hy : Bys ys) (h : Diff xs ys) {c : BitVec 32} : Go.Proofs.Ytghpokmkhlmgcaa.crc c xs ≠ Go.Proofs.Ytghpokmkhlmgcaa.crc c ys := by
  obtain ⟨p, x, y, q, rfl, rfl, hxy⟩ := h
  intro e
  rw [crc_app, crc_app] at e
  exact hxy (byt_x (hx x (by simp)) (hy y (by simp)) (crc_c q e))
theorem Diff.split : ∀ {a b r s : List Int}, a.length = b.length → Diff (a ++ r) (b ++ s) → (Diff a b ∧ r = s) ∨ (a = b ∧ Diff r s)
  | [], [], _, _, _, h => .inr ⟨rfl, h⟩
  | [], _ :: _, _, _, h, _ => by simp at h
  | _ :: _, [], _, _, h, _ => by simp at h
  | x :: a, y :: b, r, s, hl, h => by
    obtain ⟨p, u, v, q, h1, h2, h3⟩ := h
    cases p with
    | nil =>
      simp only [List.nil_append, List.cons_append, List.cons.injEq] at h1 h2
      obtain ⟨e1, e2⟩ := List.append_inj (h1.2.trans h2.2.symm) (by simpa using hl)
      left
      exact ⟨⟨[], x, y, a, rfl, by rw [e1]; rfl, by rw [h1.1, h2.1]; exact h3⟩, e2⟩
    | cons t p =>
      simp only [List.cons_append, List.cons.injEq] at h1 h2
      rcases Diff.split (by simpa using hl) ⟨p, u, v, q, h1.2, h2.2, h3⟩ with ⟨⟨p, u, v, q, g1, g2, g3⟩, e⟩ | ⟨e, d⟩
      · left
        exact ⟨⟨x :: p, u, v, q, by rw [g1]; rfl, by rw [h1.1, ← h2.1, g2]; rfl, g3⟩, e⟩
      · right
        exact ⟨by rw [e, h1.1, h2.1], d⟩
theorem frm_diff {k : Int} {a b : List Int} (ha : Bys (frm k a)) (hb : Bys (frm k b)) (hl : (frm k a).length = (frm k b).length) (h : Diff (frm k a) (frm k b)) : False := by
  have hab := frm_len_inj hl
  have hh : hd k a = hd k b := by unfold hd; rw [hab]
  unfold frm at h ha hb
  rw [List.append_assoc, List.append_assoc] at h
  rcases Diff.split (by rw [hh]) h with ⟨h1, _⟩ | ⟨_, h1⟩
  · rw [hh] at h1; exact h1.irrefl
  · rcases Diff.split (a := sum4 (hd k a ++ a)) (b := sum4 (hd k b ++ b)) rfl h1 with ⟨h2, e⟩ | ⟨e, h2⟩
    · rw [e] at h2; exact h2.irrefl
    · have e' := le4_inj e
      have e'' : Go.Proofs.Ytghpokmkhlmgcaa.crc 4294967295#32 (hd k a ++ a) = Go.Proofs.Ytghpokmkhlmgcaa.crc 4294967295#32 (hd k b ++ b) := by
        have := congrArg (~~~ ·) e'
        simpa only [BitVec.not_not] using this
      refine Diff.crc ?_ ?_ ?_ e''
      · exact Bys.app ha.left.left ha.right
      · exact Bys.app hb.left.left hb.right
      · rw [hh]
        obtain ⟨p, x, y, q, h3, h4, h5⟩ := h2
        exact ⟨hd k b ++ p, x, y, q, by rw [h3]; simp, by rw [h4]; simp, h5⟩

/-! ### a table's shape -/
abbrev Blk := List Int × Int × List Int
def fr1 (f : Blk) : List Int := frm 68 f.1
def outF : List Blk → List Int
  | [] => []
  | f :: fs => fr1 f ++ outF fs
def idxF : Nat → List Blk → List Int
  | _, [] => []
  | o, f :: fs => idx o (fr1 f).length f.2.1 f.2.2 ++ idxF (o + (fr1 f).length) fs
theorem outF_snoc : ∀ (fs : List Blk) (f : Blk), outF (fs ++ [f]) = outF fs ++ fr1 f
  | [], f => by simp [outF]
  | g :: fs, f => by simp [outF, outF_snoc fs f]
theorem idxF_snoc : ∀ (fs : List Blk) (o : Nat) (f : Blk), idxF o (fs ++ [f]) = idxF o fs ++ idx (o + (outF fs).length) (fr1 f).length f.2.1 f.2.2
  | [], o, f => by simp [idxF, outF]
  | g :: fs, o, f => by simp [idxF, outF, idxF_snoc fs _ f, Nat.add_assoc]
def Str (w : sstable_builder) : Prop := ∃ fs : List Blk, w.out = outF fs ∧ w.index = idxF 0 fs ∧ w.blocks = fs.length
theorem Str.close {w : sstable_builder} (h : Str w) : Str (closeS w) := by
  obtain ⟨fs, h1, h2, h3⟩ := h
  refine ⟨fs ++ [(w.body, w.many, w.last)], ?_, ?_, ?_⟩
  · rw [outF_snoc]; simp [closeS, h1, fr1]
  · rw [idxF_snoc]; simp [closeS, h1, h2, fr1]
  · simp [closeS, h3]
theorem Str.add {w : sstable_builder} (h : Str w) (e : api_Entry) (bb : Int) : Str (addS w e bb) := by
  unfold addS
  split
  · split
    · obtain ⟨fs, h1, h2, h3⟩ := h; exact ⟨fs, h1, h2, h3⟩
    · obtain ⟨fs, h1, h2, h3⟩ := h.close; exact ⟨fs, h1, h2, h3⟩
  · obtain ⟨fs, h1, h2, h3⟩ := h; exact ⟨fs, h1, h2, h3⟩
theorem run_str {bb : Int} : ∀ (l : List api_Entry) (keys : List (List Int)) (w : sstable_builder) (r : List (List Int) × sstable_builder), Str w → run bb l keys w = some r → Str r.2
  | [], keys, w, r, h, hr => by rw [run] at hr; cases hr; exact h
  | e :: l, keys, w, r, h, hr => by
    rw [run] at hr
    split at hr
    · cases hr
    · exact run_str l _ _ r (h.add e bb) hr
def ixF (fs : List Blk) : List Int := num fs.length ++ idxF 0 fs
def tab (fs : List Blk) (F : List Int) (cnt bb pk : Int) : List Int :=
  (outF fs ++ frm 70 F) ++ frm 73 (ixF fs) ++ tailS (outF fs).length (outF fs ++ frm 70 F).length cnt bb pk
theorem made_tab {b : List Int} (h : Made b) : Bys b ∧ b.length ≤ 4194304 ∧ ∃ fs F cnt bb pk, b = tab fs F cnt bb pk := by
  obtain ⟨l, bb, pk, hf, h⟩ := h
  refine ⟨buildS_bys hf h, ?_⟩
  obtain ⟨_, _, _, _, keys, w, hr, _, _, hl, hb⟩ := buildS_out hf h
  obtain ⟨fs, h1, h2, h3⟩ := (run_str l [] w0 _ ⟨[], rfl, rfl, rfl⟩ hr).close
  refine ⟨hl, fs, mkS keys pk, l.length, bb, pk, ?_⟩
  rw [hb]
  unfold outS tab idxS ixF
  rw [h1, h2, h3]
  simp only [Int.toNat_natCast]
theorem high_inj {a b : Nat} (ha : a ≤ 4194304) (hb : b ≤ 4194304) (h : highS a 8 = highS b 8) : a = b := by
  have : ∀ n : Nat, highS n 8 = [(n : Int) / 72057594037927936 % 256, (n : Int) / 281474976710656 % 256, (n : Int) / 1099511627776 % 256, (n : Int) / 4294967296 % 256, (n : Int) / 16777216 % 256, (n : Int) / 65536 % 256, (n : Int) / 256 % 256, (n : Int) / 1 % 256] := fun n => rfl
  rw [this, this] at h
  simp only [List.cons.injEq] at h
  omega
theorem idx_pre {a b a' b' : Nat} {m m' : Int} {l l' r s : List Int} (h : idx a b m l ++ r = idx a' b' m' l' ++ s) : b = b' ∧ r = s := by
  unfold idx txt at h
  simp only [List.append_assoc] at h
  obtain ⟨_, h⟩ := num_pre _ _ _ _ h
  obtain ⟨e, h⟩ := num_pre _ _ _ _ h
  obtain ⟨_, h⟩ := num_pre _ _ _ _ h
  obtain ⟨e', h⟩ := num_pre _ _ _ _ h
  exact ⟨e, (List.append_inj h e').2⟩
theorem outF_diff : ∀ (fs gs : List Blk) (o : Nat), fs.length = gs.length → idxF o fs = idxF o gs → Bys (outF fs) → Bys (outF gs) → Diff (outF fs) (outF gs) → False
  | [], [], _, _, _, _, _, h => h.irrefl
  | [], _ :: _, _, h, _, _, _, _ => by simp at h
  | _ :: _, [], _, h, _, _, _, _ => by simp at h
  | f :: fs, g :: gs, o, hl, hi, hf, hg, h => by
    unfold outF at hf hg h
    unfold idxF at hi
    obtain ⟨e, hi⟩ := idx_pre hi
    rcases Diff.split e h with ⟨h1, _⟩ | ⟨_, h1⟩
    · exact frm_diff hf.left hg.left e h1
    · rw [← e] at hi
      exact outF_diff fs gs _ (by simpa using hl) hi hf.right hg.right h1
theorem tail_diff {a b c d e a' b' c' d' e' : Int} (h : Diff (tailS a b c d e) (tailS a' b' c' d' e')) : False := by
  have h1 : Bys (tail36 a b c d e) := (tailS_bys a b c d e).left
  have h1' : Bys (tail36 a' b' c' d' e') := (tailS_bys a' b' c' d' e').left
  unfold tailS at h
  rcases Diff.split (by rw [tail36_len, tail36_len]) h with ⟨h3, h2⟩ | ⟨h3, h2⟩
  · have e' := le4_inj h2
    have e'' := congrArg (~~~ ·) e'
    simp only [BitVec.not_not] at e''
    exact Diff.crc h1 h1' h3 e''
  · rw [h3] at h2; exact h2.irrefl
theorem tail_inj {a b c d e a' b' c' d' e' : Int} (h : tailS a b c d e = tailS a' b' c' d' e') : highS a 8 = highS a' 8 ∧ highS b 8 = highS b' 8 := by
  unfold tailS tail36 at h
  simp only [List.append_assoc] at h
  obtain ⟨h1, h⟩ := List.append_inj h (by rw [highS_len, highS_len])
  obtain ⟨h2, _⟩ := List.append_inj h (by rw [highS_len, highS_len])
  exact ⟨h1, h2⟩
/-- no two tables differ by one byte -/
theorem apart_turned {b c : List Int} (hb : Made b) (hc : Made c) (h : Diff b c) : False := by
  obtain ⟨yb, lb, fs, F, cnt, bb, pk, rfl⟩ := made_tab hb
  obtain ⟨yc, lc, gs, G, cnt', bb', pk', rfl⟩ := made_tab hc
  have hlen := h.len
  unfold tab at h yb yc lb lc hlen
  simp only [List.length_append, tailS_len] at lb lc hlen
  rcases Diff.split (by simp only [List.length_append]; omega) h with ⟨h1, h2⟩ | ⟨_, h2⟩
  · obtain ⟨e1, e2⟩ := tail_inj h2
    have e1' := high_inj (by omega) (by omega) e1
    have e2' := high_inj (by simp only [List.length_append]; omega) (by simp only [List.length_append]; omega) e2
    simp only [List.length_append] at e2'
    rcases Diff.split (by simp only [List.length_append]; omega) h1 with ⟨h3, h4⟩ | ⟨_, h4⟩
    · have hix : ixF fs = ixF gs := (frm_pre (r := []) (s := []) (by rw [h4])).2.1
      obtain ⟨n1, n2⟩ := num_pre _ _ _ _ hix
      rcases Diff.split e1' h3 with ⟨h5, _⟩ | ⟨_, h5⟩
      · exact outF_diff fs gs 0 n1 n2 yb.left.left.left yc.left.left.left h5
      · exact frm_diff yb.left.left.right yc.left.left.right (by omega) h5
    · exact frm_diff yb.left.right yc.left.right (by omega) h4
  · exact tail_diff h2
theorem tab_pre : ∀ (fs gs : List Blk) (F G I J T T' e : List Int), outF fs ++ (frm 70 F ++ (frm 73 I ++ T)) = outF gs ++ (frm 70 G ++ (frm 73 J ++ (T' ++ e))) → T = T' ++ e
  | [], [], F, G, I, J, T, T', e, h => by
    unfold outF at h
    exact (frm_pre (frm_pre h).2.2).2.2
  | [], g :: gs, F, G, I, J, T, T', e, h => by
    unfold outF fr1 at h
    simp only [List.append_assoc, List.nil_append] at h
    exact absurd (frm_pre h).1 (by decide)
  | f :: fs, [], F, G, I, J, T, T', e, h => by
    unfold outF fr1 at h
    simp only [List.append_assoc, List.nil_append] at h
    exact absurd (frm_pre h).1 (by decide)
  | f :: fs, g :: gs, F, G, I, J, T, T', e, h => by
    unfold outF fr1 at h
    simp only [List.append_assoc] at h
    exact tab_pre fs gs F G I J T T' e (frm_pre h).2.2
/-- no table is the beginning of another -/
theorem apart_cut {b c e : List Int} (hb : Made b) (hc : Made c) (h : b = c ++ e) : e = [] := by
  obtain ⟨_, _, fs, F, cnt, bb, pk, rfl⟩ := made_tab hb
  obtain ⟨_, _, gs, G, cnt', bb', pk', rfl⟩ := made_tab hc
  unfold tab at h
  simp only [List.append_assoc] at h
  have := congrArg List.length (tab_pre _ _ _ _ _ _ _ _ _ h)
  simp only [List.length_append, tailS_len] at this
  exact List.eq_nil_of_length_eq_zero (by omega)
end Go.Proofs.Ytghpokmkhlmgcaa

namespace Go.Proofs.Ytghpokmkhlmgcaa
open Go Go.Proofs.Ytghpokmkhlmgcaa.X
set_option maxRecDepth 100000
theorem shown_true : cormorantlaw04_shown.f 16777216 = some true := by decide +kernel
end Go.Proofs.Ytghpokmkhlmgcaa

namespace Go.Proofs.Ytghpokmkhlmgcaa
open Go Go.Proofs.Ytghpokmkhlmgcaa.X
set_option linter.unusedVariables false
theorem bXor_ne {x v : Int} (hx : 0 ≤ x ∧ x < 256) (hv : 0 ≤ v ∧ v < 256) (h : v ≠ 0) : (0 ≤ bXor .u8 x v ∧ bXor .u8 x v < 256) ∧ bXor .u8 x v ≠ x := by
  have key : ∀ a : Fin 256, ∀ b : Fin 256, b.val ≠ 0 → bXor .u8 (a.val : Int) (b.val : Int) ≠ (a.val : Int) := by
    intro a b hb e
    have h1 : bXor .u8 (a.val : Int) (b.val : Int) = wr .u8 (((BitVec.ofInt 8 (a.val : Int) ^^^ BitVec.ofInt 8 (b.val : Int)).toNat : Nat) : Int) := rfl
    rw [h1, wB] at e
    have hlt := (BitVec.ofInt 8 (a.val : Int) ^^^ BitVec.ofInt 8 (b.val : Int)).isLt
    have e' : (BitVec.ofInt 8 (a.val : Int) ^^^ BitVec.ofInt 8 (b.val : Int)).toNat = (BitVec.ofInt 8 (a.val : Int)).toNat := by
      rw [BitVec.toNat_ofInt]
      have := a.isLt
      omega
    have e2 := congrArg (BitVec.ofInt 8 (a.val : Int) ^^^ ·) (BitVec.eq_of_toNat_eq e')
    simp only [← BitVec.xor_assoc, BitVec.xor_self, BitVec.zero_xor] at e2
    have e3 := congrArg BitVec.toNat e2
    rw [BitVec.toNat_ofInt] at e3
    have := b.isLt
    simp at e3
    omega
  refine ⟨?_, ?_⟩
  · show 0 ≤ wr .u8 _ ∧ wr .u8 _ < 256
    rw [wB]; omega
  · have := key ⟨x.toNat, by omega⟩ ⟨v.toNat, by omega⟩ (by simp; omega)
    simp only [show ((x.toNat : Nat) : Int) = x by omega, show ((v.toNat : Nat) : Int) = v by omega] at this
    exact this
theorem set_diff {b : List Int} {k : Nat} (hk : k < b.length) {v : Int} (h : v ≠ b[k]) : Diff b (b.set k v) := by
  refine ⟨b.take k, b[k], v, b.drop (k + 1), ?_, ?_, fun e => h e.symm⟩
  · rw [← List.drop_eq_getElem_cons hk, List.take_append_drop]
  · rw [List.set_eq_take_append_cons_drop, if_pos hk]
theorem spoilt_plain {x1 : List api_Entry} (hx : ∀ e ∈ x1, okE e) (x4 : Int) {x5 : Int} (h5 : 0 ≤ x5 ∧ x5 < 256) : cormorantlaw04_SstableSpoilt.f 16777216 x1 x4 x5 = some true := by
  have hz : 16777216 ≤ 16777216 := Nat.le_refl _
  unfold cormorantlaw04_SstableSpoilt.f cormorantlaw04_SstableSpoilt.J0
  rw [shown_true, bd_some, Build_f hz hx, bd_some, Bool.not_true, if_f]
  by_cases he : (buildS x1 64 10).2 = 0
  · rw [if_n (by simp [he])]
    by_cases h4 : x4 < 0
    · rw [if_y (by simpa using h4)]
    · rw [if_n (by simpa using h4)]
      by_cases h50 : x5 = 0
      · rw [if_y (by simp [h50])]
      · rw [if_n (by simp [h50])]
        obtain ⟨b, hb⟩ : ∃ b, (buildS x1 64 10).1 = b := ⟨_, rfl⟩
        have hB : buildS x1 64 10 = (b, 0) := by rw [← hb, ← he]
        have hM : Made b := ⟨x1, 64, 10, hx, hB⟩
        have hy := buildS_bys hx hB
        have hlen : 40 ≤ b.length ∧ b.length ≤ 4194304 := by
          obtain ⟨_, h1, fs, F, cnt, bb, pk, h2⟩ := made_tab hM
          refine ⟨?_, h1⟩
          rw [h2]
          unfold tab
          simp only [List.length_append, tailS_len]
          omega
        rw [hb, if_n (by rw [beq_eq_false_iff_ne]; omega), ck_y (by omega), tmod_nn (by omega)]
        have hk1 := Int.emod_nonneg x4 (b := (b.length : Int)) (by omega)
        have hk2 := Int.emod_lt_of_pos x4 (b := (b.length : Int)) (by omega)
        obtain ⟨k, hk⟩ : ∃ k : Nat, x4 % (b.length : Int) = k := ⟨(x4 % (b.length : Int)).toNat, by omega⟩
        rw [hk] at hk1 hk2 ⊢
        rw [ck_y (by omega)]
        have hcut : cut b (Int.toNat 0) (Int.toNat (k : Int)) = b.take k := by simp [cut]
        rw [hcut]
        obtain ⟨r, hr, hr'⟩ := Open_ok hz (hy.take k)
        rw [hr, bd_some]
        have e1 : r = (none, 44) := by
          rcases hr' with h | ⟨_, h⟩
          · exact h
          · have := apart_cut hM h (e := b.drop k) (List.take_append_drop k b).symm
            have := congrArg List.length this
            simp at this
            omega
        rw [e1]
        dsimp only [Om]
        rw [ck_y (by omega), gi_nat _ _ _ (by omega), Int.toNat_natCast]
        obtain ⟨hx1, hx2⟩ := bXor_ne (hy _ (List.getElem_mem (n := k) (by omega))) h5 h50
        obtain ⟨s, hs, hs'⟩ := Open_ok hz (b := b.set k (bXor .u8 (b[k]'(by omega)) x5)) (X.Bys.set hy _ hx1)
        rw [hs, bd_some]
        have e2 : s = (none, 44) := by
          rcases hs' with h | ⟨_, h⟩
          · exact h
          · exact (apart_turned hM h (set_diff (by omega) hx2)).elim
        rw [e2]
        rfl
  · rw [if_y (by simpa using he)]
end Go.Proofs.Ytghpokmkhlmgcaa

namespace Go.Proofs.Ytghpokmkhlmgcaa
open Go Go.ChangeShapes Go.WideShapes Go.ChangeAt Go.RowKit Go.Proofs.Ytghpokmkhlmgcaa.X

theorem Try.own : ownKnob Try.prog.godebug = none := by kernel_rfl
theorem Try.laidOut : laidOutB Try.prog = true := by kernel_rfl
theorem rdBytes : Rd (kSl ku8) Try.prog 24 (fun xs => xs.length ≤ maxLen ∧ ∀ x ∈ xs, (Lit.int .u8 x).wf = true) := (Rd.int (by kernel_rfl) (by kernel_rfl)).slice (e := 5) (by kernel_rfl) (by kernel_rfl)
def okBytes (xs : List Int) : Prop := xs.length ≤ maxLen ∧ ∀ b ∈ xs, (Lit.int .u8 b).wf = true
def okEntry (x : api_Entry) : Prop := okBytes x.Key ∧ (Lit.int .u64 x.Seq).wf = true ∧ okBytes x.Value
theorem rdEntry : Rd kapi_Entry Try.prog 36 okEntry :=
  Rd.iso (g := fun p => ⟨p.1, p.2.1, p.2.2.1, p.2.2.2⟩) (Rd.struct Try.underlying36 (by kernel_rfl) (by decide)
    (RdF.cons rdBytes rfl (RdF.cons (Rd.int (P := Try.prog) (k := .u64) (by kernel_rfl) (by kernel_rfl)) rfl (RdF.cons (Rd.bool (P := Try.prog) (by kernel_rfl) (by kernel_rfl)) rfl (RdF.last rdBytes rfl))))) (fun _ => rfl) (fun _ h => ⟨h.1, h.2.1, h.2.2.2⟩)
theorem rdEntries : Rd (kSl kapi_Entry) Try.prog 22 (fun xs => xs.length ≤ maxLen ∧ ∀ x ∈ xs, okEntry x) := rdEntry.slice (by kernel_rfl) (by kernel_rfl)

set_option maxRecDepth 100000 in
theorem spoilt_lifted (plain : ∀ x1 x4 x5, x1.length ≤ maxLen → (∀ x ∈ x1, okEntry x) → (Lit.int .i64 x4).wf = true → (Lit.int .u8 x5).wf = true → ∃ z, cormorantlaw04_SstableSpoilt.f z x1 x4 x5 = some true)
    (os : Os) (started : os.Started) (H : Type) (enc : TypeId × Value → H) :
    ReturnsInHanded {} Try.checked os 3 .any (Rows.sstableSpoiltSpec.pre6 enc Try.prog Try.f3 Rows.sstableSpoiltRow.domain false) (Rows.sstableSpoiltSpec.post enc Try.prog Try.f3 false true false false) := by
  refine returnsInHanded_of_change (C := Try.checked) Try.own started (by kernel_rfl) Try.func3
    (ChangeSpec.witness6 (enc := enc) (C := Try.checked) false ⟨#[], #[.slice none 0 0, .int .i64 0, .int .u8 0], []⟩ 8 (by kernel_rfl) (by kernel_rfl) (by kernel_rfl) (by kernel_rfl)) ?_
  intro W base args ds gs before hval0 hW hcnd _
  have hval : ∀ (j : Nat) t v, Try.f3.params[j]? = some t → args[j]? = some v → Value.okWide Try.prog W .any base t v := hval0
  have hW' := hW
  obtain ⟨p, q, hA0, hV, rfl, hfz, hnd⟩ := hW
  have hA : DataW.TrodAll enc Try.prog W 0 (fun _ => true) true Try.f3.params.toList args.toList ds p := hA0
  rw [Try.params3] at hA hval
  obtain ⟨v0, v1, v2, d0, d1, d2, p0, p1, p2, rfl, rfl, rfl, h0, h1, h2⟩ := trodAll_three hA
  obtain ⟨rfl, rfl⟩ := trodVars_none hV
  obtain ⟨a, rfl, rfl, rfl, wa⟩ := open_int Try.underlying3 (hval 1 3 v1 rfl rfl) h1
  obtain ⟨b, rfl, rfl, rfl, wb⟩ := open_int Try.underlying5 (hval 2 5 v2 rfl rfl) h2
  obtain ⟨A, m, c, rfl⟩ := okWide_slice Try.underlying22 (hval 0 22 v0 rfl rfl)
  obtain ⟨_, hn⟩ := h0
  obtain ⟨x1, ⟨A', c', he, hro⟩, hlen, hall⟩ := rdEntries.rd hn
  have he' : [Value.slice A m c] = [.slice A' x1.length c'] := he
  obtain ⟨rfl, rfl, rfl⟩ : A = A' ∧ m = x1.length ∧ c = c' := by simpa using he'
  obtain ⟨z, hz⟩ := plain x1 a b hlen hall wa wb
  have hrow := fun (W' : World) (hb : Below W.heap.size W W') => row_true (s := Rows.sstableSpoiltSpec) (f := Try.f3) (args := #[.slice A x1.length c, .int .i64 a, .int .u8 b]) (t := 4) Try.laidOut hW' rfl ⟨rfl, rfl, rfl⟩
    (by rw [Try.params3]; decide +kernel) rfl (by kernel_rfl) hb
  refine (cormorantlaw04_SstableSpoilt.ok [X.snap W] W z x1 a b (SL.start [sl .ro kapi_Entry A c x1] (fun B hB => by rw [List.mem_singleton.1 hB]; exact hro)) true hz).mono fun e W' h => ?_
  obtain ⟨rfl, S⟩ := h
  have hb := SL.done (l := [sl .ro kapi_Entry A c x1]) S
  exact ⟨_, rfl, hrow W' hb⟩
theorem spoilt_of (plain : ∀ x1 x4 x5, x1.length ≤ maxLen → (∀ x ∈ x1, okEntry x) → (Lit.int .i64 x4).wf = true → (Lit.int .u8 x5).wf = true → ∃ z, cormorantlaw04_SstableSpoilt.f z x1 x4 x5 = some true) : Rows.SstableSpoiltSaid :=
  OpenClaim.holds_of_wide 3 Try.f3 rfl rfl rfl rfl rfl rfl rfl ⟨rfl, rfl, rfl, rfl, rfl⟩ rfl rfl rfl rfl rfl (by kernel_rfl) Try.func3 (by kernel_rfl)
    (of_decide_eq_true (by kernel_rfl)) (by unfold Func.isWrapper; first | (rw [if_pos (by decide +kernel)]; kernel_rfl) | (rw [if_neg (by decide +kernel)]; exact ⟨rfl, rfl⟩))
    (fun os started H enc _ => spoilt_lifted plain os started H enc)
theorem int_of_wf {k : IntKind} {n : Int} (h : (Lit.int k n).wf = true) : k.min ≤ n ∧ n ≤ k.max := by simpa [Lit.wf] using h
theorem bys_of {xs : List Int} (h : okBytes xs) : Bys xs := fun x hx => by
  have := int_of_wf (h.2 x hx)
  have h1 : IntKind.u8.min = 0 := by decide
  have h2 : IntKind.u8.max = 255 := by decide
  omega
theorem okE_of {e : api_Entry} (h : okEntry e) : okE e := ⟨bys_of h.1, by
  have := int_of_wf h.2.1
  have h1 : IntKind.u64.min = 0 := by decide
  have h2 : IntKind.u64.max = 18446744073709551615 := by decide
  omega, bys_of h.2.2⟩
theorem spoilt_holds : Rows.SstableSpoiltSaid := spoilt_of fun x1 x4 x5 _ hx _ h5 => ⟨16777216, spoilt_plain (fun e he => okE_of (hx e he)) x4 (by
  have := int_of_wf h5
  have h1 : IntKind.u8.min = 0 := by decide
  have h2 : IntKind.u8.max = 255 := by decide
  omega)⟩
end Go.Proofs.Ytghpokmkhlmgcaa
