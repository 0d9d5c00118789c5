/- A Go function: the Lean function that it comes to, and the proof. -/
import Derived.Test.YtghpokmkhlmgcaaFi4
import Derived.IntWalk
import Derived.KernelRfl
namespace Go.Proofs.Ytghpokmkhlmgcaa
open Go Go.Proofs.Ytghpokmkhlmgcaa.X
set_option linter.unusedVariables false
set_option linter.unusedSimpArgs false
set_option maxRecDepth 100000
set_option maxHeartbeats 4000000
namespace w4_scan
def dRE : RE := ⟨daE, none, 0, none, 0⟩
theorem gi_RE (ys : List RE) (j : Int) : gi daE (ys.map (·.e)) j = (gi dRE ys j).e := by
 unfold gi
 rw [List.getElem?_map]
 cases ys[j.toNat]? <;> rfl
theorem op_RE {l F : List Atom} {w : World} {y : RE} {cs : List Value} (S : SL ((rp kRE y cs :: l) ++ F) w) : cs = y.cells ∧ SL (l ++ F) w := by
 obtain ⟨G, h, H, a1, a2, a3, d1, d2, d3, g, s⟩ := SL.front S
 exact ⟨g, G, H, a1, a3, d2, s⟩
theorem pls_drop {ys : List RE} {j : Nat} (h : j < ys.length) : own8 (pls (ys.drop j)) = sl .own k8 ys[j].A1 ys[j].k1 ys[j].e.Key :: sl .own k8 ys[j].A2 ys[j].k2 ys[j].e.Value :: own8 (pls (ys.drop (j + 1))) := by
 rw [List.drop_eq_getElem_cons h]
 rfl
theorem SL.pk {L M : List Atom} {w : World} (S : SL (L ++ M) w) : SL (X.pack L :: M) w := by
 obtain ⟨G, H, a, b, c, s⟩ := S
 obtain ⟨h1, h2, e1, e2, e3, s1, s2⟩ := sats_append s
 exact ⟨G, H, a, b, c, h1, h2, e1, e2, e3, s1, s2⟩
theorem SL.pop {ys : List RE} {j : Nat} (h : j < ys.length) {M : List Atom} {w : World} (S : SL (X.pack (own8 (pls (ys.drop j))) :: M) w) :
  SL (sl .own k8 ys[j].A1 ys[j].k1 ys[j].e.Key :: sl .own k8 ys[j].A2 ys[j].k2 ys[j].e.Value :: X.pack (own8 (pls (ys.drop (j + 1)))) :: M) w := by
 have S1 := S.unpack
 rw [pls_drop h] at S1
 have S2 : SL (own8 (pls (ys.drop (j + 1))) ++ (sl .own k8 ys[j].A1 ys[j].k1 ys[j].e.Key :: sl .own k8 ys[j].A2 ys[j].k2 ys[j].e.Value :: M)) w := by
  refine S1.perm ?_
  have := (List.perm_append_comm (l₁ := [sl .own k8 ys[j].A1 ys[j].k1 ys[j].e.Key, sl .own k8 ys[j].A2 ys[j].k2 ys[j].e.Value]) (l₂ := own8 (pls (ys.drop (j + 1))))).append_right M
  simpa using this
 have S3 := SL.pk S2
 exact S3.perm ((List.Perm.swap ..).trans ((List.Perm.swap ..).cons _))
theorem zv22 (w : World) : (zeroValue 22).run Try.prog w = .ok (.slice none 0 0) w := by kernel_rfl
noncomputable def i0 : Code := match Try.f64.body with | some c => c | none => .skip
def S2 (z : Nat) (most : Int) (from' : List Int) (xs : List aE) (t : s_Table) (q : List aE → Option (Bool × s_Table × List aE)) : Nat → Int → List aE → Option (Bool × s_Table × List aE)
 | 0, _, _ => none
 | m + 1, j, out => If (decide (j < (xs.length : Int))) (Ck (0 ≤ j ∧ j < (xs.length : Int) ∧ j < 4611686018427387904) (Bd (c_Compare.f (gi daE xs j).Key from') fun c => If (decide (c ≥ 0)) (Bd (rnd z most (gi daE xs j) out) fun r => If (!r.1) (some (false, t, r.2)) (S2 z most from' xs t q m (wr .i64 (j + 1)) r.2)) (S2 z most from' xs t q m (wr .i64 (j + 1)) out))) (q out)
def S1 (z : Nat) (most : Int) (from' : List Int) : Nat → Int → s_Table → List aE → Option (Bool × s_Table × List aE)
 | 0, _, _, _ => none
 | m + 1, i, t, out => If (decide (i < (t.blocks.length : Int))) (Bd (s_Table_look.f z t i) fun x => S2 z most from' x.1 x.2 (S1 z most from' m (wr .i64 (i + 1)) x.2) z 0 out) (some (true, t, out))
def iter (z : Nat) (t : s_Table) (from' : List Int) (most : Int) (out : List aE) : Option (Bool × s_Table × List aE) := Bd (s_Table_find.f z t from') fun x => S1 z most from' z x.1 x.2 out
def RS (F : List Atom) (from' : List Int) (most : Int) (l D b5 b7 tb fb b : Nat) (a0 : Act) (Af : Option Addr) (kf : Nat) (r : Bool × s_Table × List aE) : Ending → World → Prop := fun e w' => ∃ (A3 : Option Addr) (k4 : Nat) (A5 : Option Addr) (k6 : Nat) (A7 : Option Addr) (k8 : Nat) (Ao : Option Addr) (ko : Nat), e = .returned (.tuple #[]) ∧ SL ([lp l D a0 r.1, blk tb [.pointer (some ⟨b, 0, none⟩)], blk fb [.slice Af from'.length kf], sl .ro ku8 Af kf from', blk b [.slice A3 r.2.1.b.length k4, .slice A5 r.2.1.blocks.length k6, .slice A7 r.2.1.filter.length k8, .int .i64 r.2.1.count, .int .i64 r.2.1.reads], sl .ro ku8 A3 k4 r.2.1.b, sl .ro ks_block A5 k6 r.2.1.blocks, sl .ro ku8 A7 k8 r.2.1.filter, blk b5 [.int .i64 most], blk b7 [.slice Ao r.2.2.length ko], sl .own kaE Ao ko r.2.2] ++ F) w'
noncomputable def pt1 : List Item := [.code (cB (cB (cR i0))), .inLoop (cB (cB (cR i0))), .inBlock 0]
noncomputable def pt2 : List Item := [.code (cB (cB (cR (cB (cL (cR (cB (cB (cR i0))))))))), .inLoop (cB (cB (cR (cB (cL (cR (cB (cB (cR i0))))))))), .inBlock 2, .inBlock 1, .code (cR (cR (cB (cB (cR i0))))), .inLoop (cB (cB (cR i0))), .inBlock 0]
theorem S2_ok (F : List Atom) (r : Bool × s_Table × List aE) (z : Nat) (from' : List Int) (most : Int) {l D b5 b7 tb fb b : Nat} {a0 : Act} {Af : Option Addr} {kf : Nat} (T0 : Tm 27 [(5, .pointer (some ⟨b5, 0, none⟩)), (7, .pointer (some ⟨b7, 0, none⟩))] a0)
  (i : Int) (t : s_Table) {A3 A5 A7 A : Option Addr} {k4 k6 k8 k : Nat} (ys : List RE) (q : List aE → Option (Bool × s_Table × List aE))
  (hq : ∀ (Ao : Option Addr) (ko : Nat) (out : List aE) (a : Act) (w : World), Tm 39 [(0, .func (.yield l) #[] #[]), (1, .pointer (some ⟨tb, 0, none⟩)), (2, .pointer (some ⟨fb, 0, none⟩)), (4, .int .i64 (wr .i64 (i + 1)))] a → SL ([lp l D a0 true, blk tb [.pointer (some ⟨b, 0, none⟩)], blk fb [.slice Af from'.length kf], sl .ro ku8 Af kf from', blk b [.slice A3 t.b.length k4, .slice A5 t.blocks.length k6, .slice A7 t.filter.length k8, .int .i64 t.count, .int .i64 t.reads], sl .ro ku8 A3 k4 t.b, sl .ro ks_block A5 k6 t.blocks, sl .ro ku8 A7 k8 t.filter, blk b5 [.int .i64 most], blk b7 [.slice Ao out.length ko], sl .own kaE Ao ko out] ++ F) w → q out = some r → Gets Try.prog 64 pt1 a w (RS F from' most l D b5 b7 tb fb b a0 Af kf r)) (m : Nat) :
  ∀ (j : Nat) (out : List aE) (Ao : Option Addr) (ko : Nat) (a : Act) (w : World), Tm 39 [(0, .func (.yield l) #[] #[]), (1, .pointer (some ⟨tb, 0, none⟩)), (2, .pointer (some ⟨fb, 0, none⟩)), (4, .int .i64 i), (21, .slice A ys.length k), (22, .int .i64 (ys.length : Int)), (23, .int .i64 (j : Int))] a →
   SL ([lp l D a0 true, blk tb [.pointer (some ⟨b, 0, none⟩)], blk fb [.slice Af from'.length kf], sl .ro ku8 Af kf from', blk b [.slice A3 t.b.length k4, .slice A5 t.blocks.length k6, .slice A7 t.filter.length k8, .int .i64 t.count, .int .i64 t.reads], sl .ro ku8 A3 k4 t.b, sl .ro ks_block A5 k6 t.blocks, sl .ro ku8 A7 k8 t.filter, blk b5 [.int .i64 most], blk b7 [.slice Ao out.length ko], sl .own kaE Ao ko out, sl .own kRE A k ys, pack (own8 (pls (ys.drop j)))] ++ F) w → S2 z most from' (ys.map (·.e)) t q m (j : Int) out = some r → Gets Try.prog 64 pt2 a w (RS F from' most l D b5 b7 tb fb b a0 Af kf r) := by
 induction m with
 | zero => intro _ _ _ _ _ _ _ _ H; cases H
 | succ m ih =>
  intro j out Ao ko a w T S H
  unfold S2 at H
  rw [List.length_map] at H
  refine sq (rg (v1 T rfl fun T => sq ?_))
  rcases ifE H with ⟨h1, H⟩ | ⟨h1, H⟩
  ·refine cdT T rfl h1 (sk (sq (bq (sq ?_))))
   obtain ⟨h2, H⟩ := ck H
   have hjl : j < ys.length := by omega
   refine rg (r_ia (ix := 11) T S rfl rfl rfl rfl tu22 ts36 h2.1 h2.2.1 rfl fun _ T => r_ldEA (ix := 11) (i := (j : Int)) (off := 0) T S rfl rfl ti36 ts36 dRE rfl (Fld.all _) h2.1 h2.2.1 rfl fun _ _ S T => ?_)
   obtain ⟨hv_, S_⟩ := op_RE S
   subst hv_
   replace S := S_
   rw [gi_RE] at H
   have hgi : gi dRE ys (j : Int) = ys[j] := by unfold gi; rw [Int.toNat_natCast, List.getElem?_eq_getElem hjl]; rfl
   rw [hgi] at H
   have hcells : (RE.cells (gi dRE ys (j : Int))) = vE ys[j].e ys[j].A1 ys[j].k1 ys[j].A2 ys[j].k2 := by rw [hgi]; rfl
   replace T := T.re (s := 26) (v' := .agg (vE ys[j].e ys[j].A1 ys[j].k1 ys[j].A2 ys[j].k2).toArray) rfl (by show Value.agg (RE.cells (gi dRE ys (j : Int))).toArray = _; rw [hcells])
   have SP := S.only (p := [pack (own8 (pls (ys.drop j))), lp l D a0 true, blk tb [.pointer (some ⟨b, 0, none⟩)], blk fb [.slice Af from'.length kf], sl .ro ku8 Af kf from', blk b [.slice A3 t.b.length k4, .slice A5 t.blocks.length k6, .slice A7 t.filter.length k8, .int .i64 t.count, .int .i64 t.reads], sl .ro ku8 A3 k4 t.b, sl .ro ks_block A5 k6 t.blocks, sl .ro ku8 A7 k8 t.filter, blk b5 [.int .i64 most], blk b7 [.slice Ao out.length ko], sl .own kaE Ao ko out, sl .own kRE A k ys]) [12, 0, 0, 0, 0, 0, 0, 0, 0, 0, 0, 0, 0] rfl
   have SQ := SL.pop hjl SP
   clear SP S S_ hgi hcells
   generalize ys[j] = y at H T SQ
   obtain ⟨ye, yA1, yk1, yA2, yk2⟩ := y
   simp only at H T SQ
   replace S := SL.only (l := [sl .own ku8 yA1 yk1 ye.Key, sl .own ku8 yA2 yk2 ye.Value, pack (own8 (pls (ys.drop (j + 1)))), lp l D a0 true, blk tb [.pointer (some ⟨b, 0, none⟩)], blk fb [.slice Af from'.length kf], sl .ro ku8 Af kf from', blk b [.slice A3 t.b.length k4, .slice A5 t.blocks.length k6, .slice A7 t.filter.length k8, .int .i64 t.count, .int .i64 t.reads], sl .ro ku8 A3 k4 t.b, sl .ro ks_block A5 k6 t.blocks, sl .ro ku8 A7 k8 t.filter, blk b5 [.int .i64 most], blk b7 [.slice Ao out.length ko], sl .own kaE Ao ko out, sl .own kRE A k ys]) (F := F) (p := [lp l D a0 true, blk tb [.pointer (some ⟨b, 0, none⟩)], blk fb [.slice Af from'.length kf], sl .ro ku8 Af kf from', blk b [.slice A3 t.b.length k4, .slice A5 t.blocks.length k6, .slice A7 t.filter.length k8, .int .i64 t.count, .int .i64 t.reads], sl .ro ku8 A3 k4 t.b, sl .ro ks_block A5 k6 t.blocks, sl .ro ku8 A7 k8 t.filter, blk b5 [.int .i64 most], blk b7 [.slice Ao out.length ko], sl .own kaE Ao ko out, sl .own kRE A k ys, pack (own8 (pls (ys.drop (j + 1)))), sl .own ku8 yA1 yk1 ye.Key, sl .own ku8 yA2 yk2 ye.Value]) [3, 3, 3, 3, 3, 3, 3, 3, 3, 3, 3, 3, 2, 0, 0] SQ rfl
   refine r_alloc T S zv36 (cs := [.slice none 0 0, .int .u64 0, .bool false, .slice none 0 0]) rfl rfl fun _ _ b6 S T => ?_
   refine r_stBA (ix := 0) (vs := vE ye yA1 yk1 yA2 yk2) (l' := [blk b6 (vE ye yA1 yk1 yA2 yk2), lp l D a0 true, blk tb [.pointer (some ⟨b, 0, none⟩)], blk fb [.slice Af from'.length kf], sl .ro ku8 Af kf from', blk b [.slice A3 t.b.length k4, .slice A5 t.blocks.length k6, .slice A7 t.filter.length k8, .int .i64 t.count, .int .i64 t.reads], sl .ro ku8 A3 k4 t.b, sl .ro ks_block A5 k6 t.blocks, sl .ro ku8 A7 k8 t.filter, blk b5 [.int .i64 most], blk b7 [.slice Ao out.length ko], sl .own kaE Ao ko out, sl .own kRE A k ys, pack (own8 (pls (ys.drop (j + 1)))), sl .own ku8 yA1 yk1 ye.Key, sl .own ku8 yA2 yk2 ye.Value]) T S rfl rfl rfl rfl (by simp) ts36 (nle rfl) rfl fun _ S => ?_
   refine sq (rg (r_fa (o' := 0) T rfl tu36 rfl ts24 rfl rfl fun _ T => lB (ix := 0) T S rfl ti24 rfl rfl rfl fun _ T => lB (ix := 3) T S rfl ti24 rfl rfl rfl fun _ T => ?_))
   obtain ⟨c, h3, H⟩ := bd H
   refine rc T tc38 rfl rfl (c_Compare.ok _ _ ye.Key from' (S.sel (p := [sl .own ku8 yA1 yk1 ye.Key, sl .ro ku8 Af kf from']) (is := [14, 4]) rfl) _ h3) ?_
   rintro _ _ ⟨rfl, S⟩
   refine ⟨_, rfl, fun _ T => ?_⟩
   replace S : SL ([sl .own ku8 yA1 yk1 ye.Key, sl .ro ku8 Af kf from', blk b6 (vE ye yA1 yk1 yA2 yk2), lp l D a0 true, blk tb [.pointer (some ⟨b, 0, none⟩)], blk fb [.slice Af from'.length kf], blk b [.slice A3 t.b.length k4, .slice A5 t.blocks.length k6, .slice A7 t.filter.length k8, .int .i64 t.count, .int .i64 t.reads], sl .ro ku8 A3 k4 t.b, sl .ro ks_block A5 k6 t.blocks, sl .ro ku8 A7 k8 t.filter, blk b5 [.int .i64 most], blk b7 [.slice Ao out.length ko], sl .own kaE Ao ko out, sl .own kRE A k ys, pack (own8 (pls (ys.drop (j + 1)))), sl .own ku8 yA2 yk2 ye.Value] ++ F) _ := S.join
   refine v2 T rfl rfl fun T => ?_
   have next : ∀ (out' : List aE) (Ao : Option Addr) (ko : Nat) (a : Act) (w : World), Tm 39 [(0, .func (.yield l) #[] #[]), (1, .pointer (some ⟨tb, 0, none⟩)), (2, .pointer (some ⟨fb, 0, none⟩)), (4, .int .i64 i), (21, .slice A ys.length k), (22, .int .i64 (ys.length : Int)), (23, .int .i64 (j : Int))] a →
     SL ([lp l D a0 true, blk tb [.pointer (some ⟨b, 0, none⟩)], blk fb [.slice Af from'.length kf], sl .ro ku8 Af kf from', blk b [.slice A3 t.b.length k4, .slice A5 t.blocks.length k6, .slice A7 t.filter.length k8, .int .i64 t.count, .int .i64 t.reads], sl .ro ku8 A3 k4 t.b, sl .ro ks_block A5 k6 t.blocks, sl .ro ku8 A7 k8 t.filter, blk b5 [.int .i64 most], blk b7 [.slice Ao out'.length ko], sl .own kaE Ao ko out', sl .own kRE A k ys, pack (own8 (pls (ys.drop (j + 1))))] ++ F) w → S2 z most from' (ys.map (·.e)) t q m (wr .i64 ((j : Int) + 1)) out' = some r →
     Gets Try.prog 64 (.inBlock 3 :: .code (cR (cR (cR (cB (cB (cR (cB (cL (cR (cB (cB (cR i0)))))))))))) :: pt2.tail) a w (RS F from' most l D b5 b7 tb fb b a0 Af kf r) := by
    intro out' Ao ko a w T S H
    refine Gets.inBlock (rg (v2 T rfl rfl fun T => Gets.inLoop ?_))
    have hw : wr .i64 ((j : Int) + 1) = ((j + 1 : Nat) : Int) := by
     show IntKind.wrap _ _ = _
     rw [IntWalk.i64_in _ (by omega)]
     rfl
    rw [hw] at H T
    exact ih (j + 1) out' Ao ko _ _ (T.sb rfl) S H
   rcases ifE H with ⟨h4, H⟩ | ⟨h4, H⟩
   ·refine gy T rfl h4 (v1 T rfl fun T => gy T rfl h4 (r_ldBA (ix := 2) (ds := vE ye yA1 yk1 yA2 yk2) T S rfl ti36 rfl rfl ts36 rfl fun _ T => gy T rfl h4 ?_))
    obtain ⟨x, h5, H⟩ := bd H
    refine r_yield T rfl rfl rfl (rnd_ok _ _ z most ye out T0 (S.sel (p := [lp l D a0 true, sl .own ku8 yA1 yk1 ye.Key, sl .own ku8 yA2 yk2 ye.Value, blk b5 [.int .i64 most], blk b7 [.slice Ao out.length ko], sl .own kaE Ao ko out]) (is := [3, 0, 13, 8, 8, 8]) rfl) _ h5) ?_
    rintro _ _ ⟨Ao', ko', rfl, S⟩
    refine ⟨_, rfl, fun _ T => ?_⟩
    replace S : SL ([lp l D a0 x.1, blk b5 [.int .i64 most], blk b7 [.slice Ao' x.2.length ko'], sl .own kaE Ao' ko' x.2, sl .ro ku8 Af kf from', blk b6 (vE ye yA1 yk1 yA2 yk2), blk tb [.pointer (some ⟨b, 0, none⟩)], blk fb [.slice Af from'.length kf], blk b [.slice A3 t.b.length k4, .slice A5 t.blocks.length k6, .slice A7 t.filter.length k8, .int .i64 t.count, .int .i64 t.reads], sl .ro ku8 A3 k4 t.b, sl .ro ks_block A5 k6 t.blocks, sl .ro ku8 A7 k8 t.filter, sl .own kRE A k ys, pack (own8 (pls (ys.drop (j + 1))))] ++ F) _ := S.join
    refine gy T rfl h4 (v1 T rfl fun T => pT T rfl h4 rfl rfl fun _ T => ?_)
    rcases ifE H with ⟨h6, H⟩ | ⟨h6, H⟩
    ·refine cdT T rfl h6 ?_
     obtain rfl := sj H
     have h6' : x.1 = false := by simpa using h6
     rw [h6'] at S
     exact rtn T Try.func64 rfl rfl ⟨A3, k4, A5, k6, A7, k8, Ao', ko', rfl, S.only (p := [lp l D a0 false, blk tb [.pointer (some ⟨b, 0, none⟩)], blk fb [.slice Af from'.length kf], sl .ro ku8 Af kf from', blk b [.slice A3 t.b.length k4, .slice A5 t.blocks.length k6, .slice A7 t.filter.length k8, .int .i64 t.count, .int .i64 t.reads], sl .ro ku8 A3 k4 t.b, sl .ro ks_block A5 k6 t.blocks, sl .ro ku8 A7 k8 t.filter, blk b5 [.int .i64 most], blk b7 [.slice Ao' x.2.length ko'], sl .own kaE Ao' ko' x.2]) [0, 5, 5, 3, 4, 4, 4, 4, 0, 0, 0] rfl⟩
    ·refine cdF T rfl h6 ?_
     have h6' : x.1 = true := by simpa using h6
     rw [h6'] at S
     refine sk ?_
     exact next x.2 Ao' ko' _ _ (T.sb rfl) (S.only (p := [lp l D a0 true, blk tb [.pointer (some ⟨b, 0, none⟩)], blk fb [.slice Af from'.length kf], sl .ro ku8 Af kf from', blk b [.slice A3 t.b.length k4, .slice A5 t.blocks.length k6, .slice A7 t.filter.length k8, .int .i64 t.count, .int .i64 t.reads], sl .ro ku8 A3 k4 t.b, sl .ro ks_block A5 k6 t.blocks, sl .ro ku8 A7 k8 t.filter, blk b5 [.int .i64 most], blk b7 [.slice Ao' x.2.length ko'], sl .own kaE Ao' ko' x.2, sl .own kRE A k ys, pack (own8 (pls (ys.drop (j + 1))))]) [0, 5, 5, 3, 4, 4, 4, 4, 0, 0, 0, 1, 1] rfl) H
   ·refine gn T rfl h4 fun T => gn T rfl h4 fun T => gn T rfl h4 fun T => gn T rfl h4 fun T => pF T rfl h4 rfl rfl fun _ T => cdF T rfl rfl (sk ?_)
    exact next out Ao ko _ _ (T.sb rfl) (S.only (p := [lp l D a0 true, blk tb [.pointer (some ⟨b, 0, none⟩)], blk fb [.slice Af from'.length kf], sl .ro ku8 Af kf from', blk b [.slice A3 t.b.length k4, .slice A5 t.blocks.length k6, .slice A7 t.filter.length k8, .int .i64 t.count, .int .i64 t.reads], sl .ro ku8 A3 k4 t.b, sl .ro ks_block A5 k6 t.blocks, sl .ro ku8 A7 k8 t.filter, blk b5 [.int .i64 most], blk b7 [.slice Ao out.length ko], sl .own kaE Ao ko out, sl .own kRE A k ys, pack (own8 (pls (ys.drop (j + 1))))]) [3, 3, 3, 1, 2, 2, 2, 2, 2, 2, 2, 2, 2] rfl) H
  ·refine cdF T rfl h1 (Gets.exit rfl (Gets.inBlock (rg (v3 T rfl rfl rfl fun T => Gets.inLoop ?_))))
   exact hq Ao ko out _ _ (T.sb rfl) (S.only (p := [lp l D a0 true, blk tb [.pointer (some ⟨b, 0, none⟩)], blk fb [.slice Af from'.length kf], sl .ro ku8 Af kf from', blk b [.slice A3 t.b.length k4, .slice A5 t.blocks.length k6, .slice A7 t.filter.length k8, .int .i64 t.count, .int .i64 t.reads], sl .ro ku8 A3 k4 t.b, sl .ro ks_block A5 k6 t.blocks, sl .ro ku8 A7 k8 t.filter, blk b5 [.int .i64 most], blk b7 [.slice Ao out.length ko], sl .own kaE Ao ko out]) [0, 0, 0, 0, 0, 0, 0, 0, 0, 0, 0] rfl) H
theorem S1_ok (F : List Atom) (r : Bool × s_Table × List aE) (z : Nat) (from' : List Int) (most : Int) {l D b5 b7 tb fb b : Nat} {a0 : Act} {Af : Option Addr} {kf : Nat} (T0 : Tm 27 [(5, .pointer (some ⟨b5, 0, none⟩)), (7, .pointer (some ⟨b7, 0, none⟩))] a0) (m : Nat) :
  ∀ (i : Int) (t : s_Table) (out : List aE) (A3 : Option Addr) (k4 : Nat) (A5 : Option Addr) (k6 : Nat) (A7 : Option Addr) (k8 : Nat) (Ao : Option Addr) (ko : Nat) (a : Act) (w : World), Tm 39 [(0, .func (.yield l) #[] #[]), (1, .pointer (some ⟨tb, 0, none⟩)), (2, .pointer (some ⟨fb, 0, none⟩)), (4, .int .i64 i)] a →
   SL ([lp l D a0 true, blk tb [.pointer (some ⟨b, 0, none⟩)], blk fb [.slice Af from'.length kf], sl .ro ku8 Af kf from', blk b [.slice A3 t.b.length k4, .slice A5 t.blocks.length k6, .slice A7 t.filter.length k8, .int .i64 t.count, .int .i64 t.reads], sl .ro ku8 A3 k4 t.b, sl .ro ks_block A5 k6 t.blocks, sl .ro ku8 A7 k8 t.filter, blk b5 [.int .i64 most], blk b7 [.slice Ao out.length ko], sl .own kaE Ao ko out] ++ F) w → S1 z most from' m i t out = some r → Gets Try.prog 64 pt1 a w (RS F from' most l D b5 b7 tb fb b a0 Af kf r) := by
 induction m with
 | zero => intro _ _ _ _ _ _ _ _ _ _ _ _ _ _ _ H; cases H
 | succ m ih =>
  intro i t out A3 k4 A5 k6 A7 k8 Ao ko a w T S H
  unfold S1 at H
  refine sq (sq (rg (v1 T rfl fun T => lB (ix := 1) T S rfl ti28 rfl rfl rfl fun _ T => v1 T rfl fun T => r_fa (o' := 1) T rfl tu69 rfl ts67 rfl rfl fun _ T => lB (ix := 4) T S rfl ti67 rfl rfl rfl fun _ T => rn T rfl tu67 rfl fun _ T => v1 T rfl fun T => ?_)))
  rcases ifE H with ⟨h1, H⟩ | ⟨h1, H⟩
  ·refine cdT T rfl h1 (sk (sq (bq (sq (rg (lB (ix := 1) T S rfl ti28 rfl rfl rfl fun _ T => v1 T rfl fun T => ?_))))))
   obtain ⟨x, h2, H⟩ := bd H
   refine rc T Try.call41 rfl rfl (s_Table_look.okD _ _ z t i (S.sel (p := [blk b [.slice A3 t.b.length k4, .slice A5 t.blocks.length k6, .slice A7 t.filter.length k8, .int .i64 t.count, .int .i64 t.reads], sl .ro ku8 A3 k4 t.b, sl .ro ks_block A5 k6 t.blocks, sl .ro ku8 A7 k8 t.filter]) (is := [4, 4, 4, 4]) rfl) _ h2) ?_
   rintro _ _ ⟨ys, A9, k9, A3', k4', A5', k6', A7', k8', hys, rfl, S⟩
   refine ⟨_, rfl, fun _ T => ?_⟩
   replace S : SL ([sl .own kRE A9 k9 ys, blk b [.slice A3' x.2.b.length k4', .slice A5' x.2.blocks.length k6', .slice A7' x.2.filter.length k8', .int .i64 x.2.count, .int .i64 x.2.reads], sl .ro ku8 A3' k4' x.2.b, sl .ro ks_block A5' k6' x.2.blocks, sl .ro ku8 A7' k8' x.2.filter, pack (own8 (pls ys)), lp l D a0 true, blk tb [.pointer (some ⟨b, 0, none⟩)], blk fb [.slice Af from'.length kf], sl .ro ku8 Af kf from', blk b5 [.int .i64 most], blk b7 [.slice Ao out.length ko], sl .own kaE Ao ko out] ++ F) _ := S.join
   refine rn T rfl tu22 rfl fun _ T => v1 T rfl fun T => bq (Gets.loop ?_)
   rw [hys] at H
   refine S2_ok F r z from' most T0 i x.2 (A3 := A3') (k4 := k4') (A5 := A5') (k6 := k6') (A7 := A7') (k8 := k8') ys (S1 z most from' m (wr .i64 (i + 1)) x.2) (fun Ao ko out a w T S H => ih (wr .i64 (i + 1)) x.2 out A3' k4' A5' k6' A7' k8' Ao ko a w T S H) z 0 out Ao ko _ _ (T.sb rfl)
    (S.only (p := [lp l D a0 true, blk tb [.pointer (some ⟨b, 0, none⟩)], blk fb [.slice Af from'.length kf], sl .ro ku8 Af kf from', blk b [.slice A3' x.2.b.length k4', .slice A5' x.2.blocks.length k6', .slice A7' x.2.filter.length k8', .int .i64 x.2.count, .int .i64 x.2.reads], sl .ro ku8 A3' k4' x.2.b, sl .ro ks_block A5' k6' x.2.blocks, sl .ro ku8 A7' k8' x.2.filter, blk b5 [.int .i64 most], blk b7 [.slice Ao out.length ko], sl .own kaE Ao ko out, sl .own kRE A9 k9 ys, pack (own8 (pls (ys.drop 0)))]) [6, 6, 6, 6, 1, 1, 1, 1, 2, 2, 2, 0, 0] rfl) H
  ·refine cdF T rfl h1 (Gets.exit rfl ?_)
   obtain rfl := sj H
   exact rtf T Try.func64 rfl rfl ⟨A3, k4, A5, k6, A7, k8, Ao, ko, rfl, S.only (p := [lp l D a0 true, blk tb [.pointer (some ⟨b, 0, none⟩)], blk fb [.slice Af from'.length kf], sl .ro ku8 Af kf from', blk b [.slice A3 t.b.length k4, .slice A5 t.blocks.length k6, .slice A7 t.filter.length k8, .int .i64 t.count, .int .i64 t.reads], sl .ro ku8 A3 k4 t.b, sl .ro ks_block A5 k6 t.blocks, sl .ro ku8 A7 k8 t.filter, blk b5 [.int .i64 most], blk b7 [.slice Ao out.length ko], sl .own kaE Ao ko out]) [0, 0, 0, 0, 0, 0, 0, 0, 0, 0, 0] rfl⟩
theorem iter_ok (F : List Atom) (w : World) (z : Nat) (t : s_Table) (from' : List Int) (most : Int) (out : List aE) {l D b5 b7 tb fb b : Nat} {a0 : Act} {Af A3 A5 A7 Ao : Option Addr} {kf k4 k6 k8 ko : Nat} (T0 : Tm 27 [(5, .pointer (some ⟨b5, 0, none⟩)), (7, .pointer (some ⟨b7, 0, none⟩))] a0)
  (S : SL ([lp l D a0 true, blk tb [.pointer (some ⟨b, 0, none⟩)], blk fb [.slice Af from'.length kf], sl .ro ku8 Af kf from', blk b [.slice A3 t.b.length k4, .slice A5 t.blocks.length k6, .slice A7 t.filter.length k8, .int .i64 t.count, .int .i64 t.reads], sl .ro ku8 A3 k4 t.b, sl .ro ks_block A5 k6 t.blocks, sl .ro ku8 A7 k8 t.filter, blk b5 [.int .i64 most], blk b7 [.slice Ao out.length ko], sl .own kaE Ao ko out] ++ F) w) (r : Bool × s_Table × List aE) (H : iter z t from' most out = some r) :
  Calls Try.prog 64 #[.func (.yield l) #[] #[], .pointer (some ⟨tb, 0, none⟩), .pointer (some ⟨fb, 0, none⟩)] w (RS F from' most l D b5 b7 tb fb b a0 Af kf r) := by
 refine enter (vs := [.func (.yield l) #[] #[], .pointer (some ⟨tb, 0, none⟩), .pointer (some ⟨fb, 0, none⟩)]) Try.func64 rfl Try.ntmps64 (nle rfl) fun a T => ?_
 unfold iter at H
 refine sq (rg (lB (ix := 1) T S rfl ti28 rfl rfl rfl fun _ T => lB (ix := 2) T S rfl ti24 rfl rfl rfl fun _ T => ?_))
 obtain ⟨x, h1, H⟩ := bd H
 refine rc T Try.call40 rfl rfl (s_Table_find.ok _ _ z t from' (S.sel (p := [blk b [.slice A3 t.b.length k4, .slice A5 t.blocks.length k6, .slice A7 t.filter.length k8, .int .i64 t.count, .int .i64 t.reads], sl .ro ku8 A3 k4 t.b, sl .ro ks_block A5 k6 t.blocks, sl .ro ku8 A7 k8 t.filter, sl .ro ku8 Af kf from']) (is := [4, 4, 4, 4, 3]) rfl) _ h1) ?_
 rintro _ _ ⟨A3', k4', A5', k6', A7', k8', rfl, S⟩
 refine ⟨_, rfl, fun _ T => ?_⟩
 replace S : SL ([blk b [.slice A3' x.2.b.length k4', .slice A5' x.2.blocks.length k6', .slice A7' x.2.filter.length k8', .int .i64 x.2.count, .int .i64 x.2.reads], sl .ro ku8 A3' k4' x.2.b, sl .ro ks_block A5' k6' x.2.blocks, sl .ro ku8 A7' k8' x.2.filter, sl .ro ku8 Af kf from', lp l D a0 true, blk tb [.pointer (some ⟨b, 0, none⟩)], blk fb [.slice Af from'.length kf], blk b5 [.int .i64 most], blk b7 [.slice Ao out.length ko], sl .own kaE Ao ko out] ++ F) _ := S.join
 refine v1 T rfl fun T => bq (Gets.loop ?_)
 exact S1_ok F r z from' most T0 z x.1 x.2 out A3' k4' A5' k6' A7' k8' Ao ko _ _ (T.sb rfl) (S.only (p := [lp l D a0 true, blk tb [.pointer (some ⟨b, 0, none⟩)], blk fb [.slice Af from'.length kf], sl .ro ku8 Af kf from', blk b [.slice A3' x.2.b.length k4', .slice A5' x.2.blocks.length k6', .slice A7' x.2.filter.length k8', .int .i64 x.2.count, .int .i64 x.2.reads], sl .ro ku8 A3' k4' x.2.b, sl .ro ks_block A5' k6' x.2.blocks, sl .ro ku8 A7' k8' x.2.filter, blk b5 [.int .i64 most], blk b7 [.slice Ao out.length ko], sl .own kaE Ao ko out]) [5, 5, 5, 4, 0, 0, 0, 0, 0, 0, 0] rfl) H
theorem Scan_ok (F : List Atom) (w : World) (b : Nat) (from' : List Int) {m : Md} {A : Option Addr} {k : Nat} (S : SL ([sl m ku8 A k from'] ++ F) w) (r : List Int) (H : bytes_Clone.f from' = some r) :
  Calls Try.prog 36 #[.pointer (some ⟨b, 0, none⟩), .slice A from'.length k] w (fun e w' => ∃ (tb fb : Nat) (Af : Option Addr) (kf : Nat), e = .returned (.func (.func 64) #[] #[.pointer (some ⟨tb, 0, none⟩), .pointer (some ⟨fb, 0, none⟩)]) ∧ SL ([blk tb [.pointer (some ⟨b, 0, none⟩)], blk fb [.slice Af r.length kf], sl .own ku8 Af kf r, sl m ku8 A k from'] ++ F) w') := by
 refine enter (vs := [.pointer (some ⟨b, 0, none⟩), .slice A from'.length k]) Try.func36 rfl Try.ntmps36 (nle rfl) fun a T => ?_
 refine sq (rg (r_box T S rfl (cs := [.pointer (some ⟨b, 0, none⟩)]) rfl rfl fun _ _ tb S T => r_box T S rfl (cs := [.slice A from'.length k]) rfl rfl fun _ _ fb S T => v1 T rfl fun T => sq (rg (lB (ix := 0) T S rfl ti24 rfl rfl rfl fun _ T => rc T tc32 rfl rfl (bytes_Clone.ok _ _ from' (S.sel (p := [sl m ku8 A k from']) (is := [2]) rfl) _ H) ?_))))
 rintro _ _ ⟨A2, k2, rfl, S⟩
 refine ⟨_, rfl, fun _ T => ?_⟩
 replace S : SL ([sl .own ku8 A2 k2 r, sl m ku8 A k from', blk fb [.slice A from'.length k], blk tb [.pointer (some ⟨b, 0, none⟩)]] ++ F) _ := S.join
 refine r_stB (ix := 2) (l' := [sl .own ku8 A2 k2 r, sl m ku8 A k from', blk fb [.slice A2 r.length k2], blk tb [.pointer (some ⟨b, 0, none⟩)]]) T S rfl rfl rfl ts24 rfl (nle rfl) rfl fun _ S => sq (rg (v2 T rfl rfl fun T => ?_))
 exact rtn T Try.func36 rfl rfl ⟨tb, fb, A2, k2, rfl, S.only (p := [blk tb [.pointer (some ⟨b, 0, none⟩)], blk fb [.slice A2 r.length k2], sl .own ku8 A2 k2 r, sl m ku8 A k from']) [3, 2, 0, 0] rfl⟩
def f (z : Nat) (t : s_Table) (from' : List Int) (most : Int) : Option (List aE × s_Table) := Bd (bytes_Clone.f from') fun fr => Bd (iter z t fr most []) fun x => some (x.2.2, x.2.1)
def R (F : List Atom) (b : Nat) (from' : List Int) (m : Md) (A : Option Addr) (k : Nat) (r : List aE × s_Table) : Ending → World → Prop := fun e w' => ∃ (Ao : Option Addr) (ko : Nat) (A3 : Option Addr) (k4 : Nat) (A5 : Option Addr) (k6 : Nat) (A7 : Option Addr) (k8 : Nat), e = .returned (.slice Ao r.1.length ko) ∧ SL ([sl .own kaE Ao ko r.1, blk b [.slice A3 r.2.b.length k4, .slice A5 r.2.blocks.length k6, .slice A7 r.2.filter.length k8, .int .i64 r.2.count, .int .i64 r.2.reads], sl .ro ku8 A3 k4 r.2.b, sl .ro ks_block A5 k6 r.2.blocks, sl .ro ku8 A7 k8 r.2.filter, sl m ku8 A k from'] ++ F) w'
theorem ok (F : List Atom) (w : World) (z : Nat) (t : s_Table) (from' : List Int) (most : Int) {b : Nat} {A3 : Option Addr} {k4 : Nat} {A5 : Option Addr} {k6 : Nat} {A7 : Option Addr} {k8 : Nat} {A : Option Addr} {k : Nat} {m : Md} (S : SL ([blk b [.slice A3 t.b.length k4, .slice A5 t.blocks.length k6, .slice A7 t.filter.length k8, .int .i64 t.count, .int .i64 t.reads], sl .ro ku8 A3 k4 t.b, sl .ro ks_block A5 k6 t.blocks, sl .ro ku8 A7 k8 t.filter, sl m ku8 A k from'] ++ F) w) (r : List aE × s_Table) (H : f z t from' most = some r) :
  Calls Try.prog 9 #[.pointer (some ⟨b, 0, none⟩), .slice A from'.length k, .int .i64 most] w (R F b from' m A k r) := by
 refine enter (vs := [.pointer (some ⟨b, 0, none⟩), .slice A from'.length k, .int .i64 most]) Try.func9 rfl Try.ntmps9 (nle rfl) fun a T => ?_
 unfold f at H
 refine sq (rg (r_box T S rfl (cs := [.int .i64 most]) rfl rfl fun _ _ b5 S T => v1 T rfl fun T => sq (rg (r_alloc T S zv22 (cs := [.slice none 0 0]) rfl rfl fun _ _ b7 S T => sq (sq (rg (v2 T rfl rfl fun T => ?_)))))))
 obtain ⟨fr, h1, H⟩ := bd H
 refine rc T Try.call36 rfl rfl (Scan_ok _ _ b from' (S.sel (p := [sl m ku8 A k from']) (is := [6]) rfl) _ h1) ?_
 rintro _ _ ⟨tb, fb, Af, kf, rfl, S⟩
 refine ⟨_, rfl, fun a1 T => ?_⟩
 replace S : SL ([blk tb [.pointer (some ⟨b, 0, none⟩)], blk fb [.slice Af fr.length kf], sl .own ku8 Af kf fr, sl m ku8 A k from', blk b7 [.slice none 0 0], blk b5 [.int .i64 most], blk b [.slice A3 t.b.length k4, .slice A5 t.blocks.length k6, .slice A7 t.filter.length k8, .int .i64 t.count, .int .i64 t.reads], sl .ro ku8 A3 k4 t.b, sl .ro ks_block A5 k6 t.blocks, sl .ro ku8 A7 k8 t.filter] ++ F) _ := S.join
 replace S : SL ([blk tb [.pointer (some ⟨b, 0, none⟩)], blk fb [.slice Af fr.length kf], sl .ro ku8 Af kf fr, sl m ku8 A k from', blk b7 [.slice none 0 0], blk b5 [.int .i64 most], blk b [.slice A3 t.b.length k4, .slice A5 t.blocks.length k6, .slice A7 t.filter.length k8, .int .i64 t.count, .int .i64 t.reads], sl .ro ku8 A3 k4 t.b, sl .ro ks_block A5 k6 t.blocks, sl .ro ku8 A7 k8 t.filter] ++ F) _ := S.fixL (i := 2) rfl rfl
 replace S := S.nil kaE .own
 obtain ⟨x, h2, H⟩ := bd H
 obtain rfl := sj H
 refine bq ?_
 have T0 : Tm 27 [(5, .pointer (some ⟨b5, 0, none⟩)), (7, .pointer (some ⟨b7, 0, none⟩))] a1 := T.sb rfl
 refine Gets.range (cs := [.pointer (some ⟨tb, 0, none⟩), .pointer (some ⟨fb, 0, none⟩)]) (RI := fun D => RS ([ob D (.deferred (some [])), sl m ku8 A k from'] ++ F) fr most (D + 1) D b5 b7 tb fb b a1 Af kf x) T S rfl Try.call64 (fun D w1 S => ?_) (fun D e w2 hR => ?_)
 ·refine iter_ok _ w1 z t fr most [] (A3 := A3) (k4 := k4) (A5 := A5) (k6 := k6) (A7 := A7) (k8 := k8) (Ao := none) (ko := 0) T0 ?_ x h2
  have S' := SL.only (l := [ob D (.deferred (some [])), lp (D + 1) D a1 true, sl .own kaE none 0 [], blk tb [.pointer (some ⟨b, 0, none⟩)], blk fb [.slice Af fr.length kf], sl .ro ku8 Af kf fr, sl m ku8 A k from', blk b7 [.slice none 0 0], blk b5 [.int .i64 most], blk b [.slice A3 t.b.length k4, .slice A5 t.blocks.length k6, .slice A7 t.filter.length k8, .int .i64 t.count, .int .i64 t.reads], sl .ro ku8 A3 k4 t.b, sl .ro ks_block A5 k6 t.blocks, sl .ro ku8 A7 k8 t.filter]) (F := F)
   (p := [lp (D + 1) D a1 true, blk tb [.pointer (some ⟨b, 0, none⟩)], blk fb [.slice Af fr.length kf], sl .ro ku8 Af kf fr, blk b [.slice A3 t.b.length k4, .slice A5 t.blocks.length k6, .slice A7 t.filter.length k8, .int .i64 t.count, .int .i64 t.reads], sl .ro ku8 A3 k4 t.b, sl .ro ks_block A5 k6 t.blocks, sl .ro ku8 A7 k8 t.filter, blk b5 [.int .i64 most], blk b7 [.slice none 0 0], sl .own kaE none 0 [], ob D (.deferred (some [])), sl m ku8 A k from']) [1, 2, 2, 2, 5, 5, 5, 5, 4, 3, 1, 0, 0] S rfl
  exact S'
 ·obtain ⟨A3, k4, A5, k6, A7, k8, Ao, ko, rfl, S⟩ := hR
  have S' := SL.only (l := [lp (D + 1) D a1 x.1, blk tb [.pointer (some ⟨b, 0, none⟩)], blk fb [.slice Af fr.length kf], sl .ro ku8 Af kf fr, blk b [.slice A3 x.2.1.b.length k4, .slice A5 x.2.1.blocks.length k6, .slice A7 x.2.1.filter.length k8, .int .i64 x.2.1.count, .int .i64 x.2.1.reads], sl .ro ku8 A3 k4 x.2.1.b, sl .ro ks_block A5 k6 x.2.1.blocks, sl .ro ku8 A7 k8 x.2.1.filter, blk b5 [.int .i64 most], blk b7 [.slice Ao x.2.2.length ko], sl .own kaE Ao ko x.2.2, ob D (.deferred (some [])), sl m ku8 A k from']) (F := F) (p := [ob D (.deferred (some [])), lp (D + 1) D a1 x.1, sl .own kaE Ao ko x.2.2, blk b [.slice A3 x.2.1.b.length k4, .slice A5 x.2.1.blocks.length k6, .slice A7 x.2.1.filter.length k8, .int .i64 x.2.1.count, .int .i64 x.2.1.reads], sl .ro ku8 A3 k4 x.2.1.b, sl .ro ks_block A5 k6 x.2.1.blocks, sl .ro ku8 A7 k8 x.2.1.filter, sl m ku8 A k from', blk b7 [.slice Ao x.2.2.length ko]]) [11, 0, 9, 3, 3, 3, 3, 5, 4] S rfl
  refine ⟨_, _, [sl .own kaE Ao ko x.2.2, blk b [.slice A3 x.2.1.b.length k4, .slice A5 x.2.1.blocks.length k6, .slice A7 x.2.1.filter.length k8, .int .i64 x.2.1.count, .int .i64 x.2.1.reads], sl .ro ku8 A3 k4 x.2.1.b, sl .ro ks_block A5 k6 x.2.1.blocks, sl .ro ku8 A7 k8 x.2.1.filter, sl m ku8 A k from', blk b7 [.slice Ao x.2.2.length ko]] ++ F, rfl, S', ?_, fun w3 S => ?_⟩
  ·cases x.1 <;> simp
  have fin : ∀ (a2 : Act), Tm 27 [(7, .pointer (some ⟨b7, 0, none⟩))] a2 → Gets Try.prog { fn := 9, dfs := X.mark D } [.code (cR (cR (cR c0)))] a2 w3 (R F b from' m A k (x.2.2, x.2.1)) := by
   intro a2 T
   replace S : SL ([ob D (.deferred (some [])), sl .own kaE Ao ko x.2.2, blk b [.slice A3 x.2.1.b.length k4, .slice A5 x.2.1.blocks.length k6, .slice A7 x.2.1.filter.length k8, .int .i64 x.2.1.count, .int .i64 x.2.1.reads], sl .ro ku8 A3 k4 x.2.1.b, sl .ro ks_block A5 k6 x.2.1.blocks, sl .ro ku8 A7 k8 x.2.1.filter, sl m ku8 A k from', blk b7 [.slice Ao x.2.2.length ko]] ++ F) w3 := S
   refine sq (rg (lB (ix := 7) T S rfl ti22 rfl rfl rfl fun _ T => v1 T rfl fun T => ?_))
   refine rtnD (R := R F b from' m A k (x.2.2, x.2.1)) (L := [sl .own kaE Ao ko x.2.2, blk b [.slice A3 x.2.1.b.length k4, .slice A5 x.2.1.blocks.length k6, .slice A7 x.2.1.filter.length k8, .int .i64 x.2.1.count, .int .i64 x.2.1.reads], sl .ro ku8 A3 k4 x.2.1.b, sl .ro ks_block A5 k6 x.2.1.blocks, sl .ro ku8 A7 k8 x.2.1.filter, sl m ku8 A k from', blk b7 [.slice Ao x.2.2.length ko]] ++ F) T S Try.func9 rfl rfl fun w4 S => ⟨Ao, ko, A3, k4, A5, k6, A7, k8, rfl, ?_⟩
   exact SL.only (l := [sl .own kaE Ao ko x.2.2, blk b [.slice A3 x.2.1.b.length k4, .slice A5 x.2.1.blocks.length k6, .slice A7 x.2.1.filter.length k8, .int .i64 x.2.1.count, .int .i64 x.2.1.reads], sl .ro ku8 A3 k4 x.2.1.b, sl .ro ks_block A5 k6 x.2.1.blocks, sl .ro ku8 A7 k8 x.2.1.filter, sl m ku8 A k from', blk b7 [.slice Ao x.2.2.length ko]]) (F := F) (p := [sl .own kaE Ao ko x.2.2, blk b [.slice A3 x.2.1.b.length k4, .slice A5 x.2.1.blocks.length k6, .slice A7 x.2.1.filter.length k8, .int .i64 x.2.1.count, .int .i64 x.2.1.reads], sl .ro ku8 A3 k4 x.2.1.b, sl .ro ks_block A5 k6 x.2.1.blocks, sl .ro ku8 A7 k8 x.2.1.filter, sl m ku8 A k from']) [0, 0, 0, 0, 0, 0] S rfl
  have T7 : Tm 27 [(7, .pointer (some ⟨b7, 0, none⟩))] a1 := T.sb rfl
  cases hx : x.1 with
  | true => exact Gets.inBlock (fin _ T7)
  | false => exact Gets.exit rfl (fin _ T7)
end w4_scan
namespace w4_sameOne
noncomputable def c0 : Code := match Try.f12.body with | some c => c | none => .skip
def R (F : List Atom) (x1 : aE) (A2 : OA) (k3 : Nat) (m4 : Md) (A5 : OA) (k6 : Nat) (m7 : Md) (x8 : aE) (A9 : OA) (k10 : Nat) (m11 : Md) (A12 : OA) (k13 : Nat) (m14 : Md) (r : Bool) : Ending → World → Prop := fun e w' => e = .returned (.bool r) ∧ SL ([sl m4 ku8 A2 k3 x1.Key, sl m7 ku8 A5 k6 x1.Value, sl m11 ku8 A9 k10 x8.Key, sl m14 ku8 A12 k13 x8.Value] ++ F) w'
def J0 (x20 : Bool) : Option Bool := some x20
def f (x1 x8 : aE) : Option Bool := If ((bstr x1.Key).toList == (bstr x8.Key).toList) (If (x1.Seq == x8.Seq) (If (x1.Del == x8.Del) (J0 ((bstr x1.Value).toList == (bstr x8.Value).toList)) (J0 false)) (J0 false)) (J0 false)
noncomputable def ptJ0 : List Item := [.code (cR (cR c0))]
theorem J0_ok (F : List Atom) (r : Bool) (x1 : aE) (A2 : OA) (k3 : Nat) (m4 : Md) (A5 : OA) (k6 : Nat) (m7 : Md) (x8 : aE) (A9 : OA) (k10 : Nat) (m11 : Md) (A12 : OA) (k13 : Nat) (m14 : Md) (x20 : Bool) (a : Act) (w : World) (T : Tm 35 [(4, .bool x20)] a) (S : SL ([sl m4 ku8 A2 k3 x1.Key, sl m7 ku8 A5 k6 x1.Value, sl m11 ku8 A9 k10 x8.Key, sl m14 ku8 A12 k13 x8.Value] ++ F) w) (H : J0 x20 = some r) : Gets Try.prog 12 ptJ0 a w (R F x1 A2 k3 m4 A5 k6 m7 x8 A9 k10 m11 A12 k13 m14 r) := by
 obtain rfl := sj H
 exact rtn T Try.func12 rfl rfl ⟨rfl, (S.only [0, 0, 0, 0] rfl)⟩
theorem ok (F : List Atom) (w : World) (x1 x8 : aE) {A2 : OA} {k3 : Nat} {m4 : Md} {A5 : OA} {k6 : Nat} {m7 : Md} {A9 : OA} {k10 : Nat} {m11 : Md} {A12 : OA} {k13 : Nat} {m14 : Md} (S : SL ([sl m4 ku8 A2 k3 x1.Key, sl m7 ku8 A5 k6 x1.Value, sl m11 ku8 A9 k10 x8.Key, sl m14 ku8 A12 k13 x8.Value] ++ F) w) (r : Bool) (H : f x1 x8 = some r) : Calls Try.prog 12 #[.agg #[.slice A2 x1.Key.length k3, .int .u64 x1.Seq, .bool x1.Del, .slice A5 x1.Value.length k6], .agg #[.slice A9 x8.Key.length k10, .int .u64 x8.Seq, .bool x8.Del, .slice A12 x8.Value.length k13]] w (R F x1 A2 k3 m4 A5 k6 m7 x8 A9 k10 m11 A12 k13 m14 r) := by
 refine enter (vs := [.agg #[.slice A2 x1.Key.length k3, .int .u64 x1.Seq, .bool x1.Del, .slice A5 x1.Value.length k6], .agg #[.slice A9 x8.Key.length k10, .int .u64 x8.Seq, .bool x8.Del, .slice A12 x8.Value.length k13]]) Try.func12 rfl Try.ntmps12 (nle rfl) fun a T => ?_
 refine sq (rg (r_box T S rfl (cs := [.slice A2 x1.Key.length k3, .int .u64 x1.Seq, .bool x1.Del, .slice A5 x1.Value.length k6]) rfl rfl fun _ _ b15 S T => r_box T S rfl (cs := [.slice A9 x8.Key.length k10, .int .u64 x8.Seq, .bool x8.Del, .slice A12 x8.Value.length k13]) rfl rfl fun _ _ b16 S T => v1 T rfl fun T => sq (rg (r_fa (o' := 0) T rfl tu36 rfl ts24 rfl rfl fun _ T => lB (ix := 1) T S rfl ti24 rfl rfl rfl fun _ T => r_b2s (ix := 2) (xs := x1.Key) T S rfl rfl tu24 tu9 tu5 rfl fun _ T => r_fa (o' := 0) T rfl tu36 rfl ts24 rfl rfl fun _ T => lB (ix := 0) T S rfl ti24 rfl rfl rfl fun _ T => r_b2s (ix := 4) (xs := x8.Key) T S rfl rfl tu24 tu9 tu5 rfl fun _ T => v2 T rfl rfl fun T => ?_))))
 rcases ifE H with ⟨h17, H⟩ | ⟨h17, H⟩
 ·refine gy T rfl h17 (r_fa (o' := 1) T rfl tu36 rfl ts34 rfl rfl fun _ T => gy T rfl h17 (lB (ix := 1) T S rfl ti34 rfl rfl rfl fun _ T => gy T rfl h17 (r_fa (o' := 1) T rfl tu36 rfl ts34 rfl rfl fun _ T => gy T rfl h17 (lB (ix := 0) T S rfl ti34 rfl rfl rfl fun _ T => gy T rfl h17 (v1 T rfl fun T => pT T rfl h17 rfl rfl fun _ T => v1 T rfl fun T => ?_)))))
  rcases ifE H with ⟨h18, H⟩ | ⟨h18, H⟩
  ·refine gy T rfl h18 (r_fa (o' := 2) T rfl tu36 rfl ts4 rfl rfl fun _ T => gy T rfl h18 (lB (ix := 1) T S rfl ti4 rfl rfl rfl fun _ T => gy T rfl h18 (r_fa (o' := 2) T rfl tu36 rfl ts4 rfl rfl fun _ T => gy T rfl h18 (lB (ix := 0) T S rfl ti4 rfl rfl rfl fun _ T => gy T rfl h18 (r_eqB T rfl rfl Try.runUnderlying4 rfl fun _ T => pT T rfl h18 rfl rfl fun _ T => v1 T rfl fun T => ?_)))))
   rcases ifE H with ⟨h19, H⟩ | ⟨h19, H⟩
   ·refine gy T rfl h19 (r_fa (o' := 3) T rfl tu36 rfl ts24 rfl rfl fun _ T => gy T rfl h19 (lB (ix := 1) T S rfl ti24 rfl rfl rfl fun _ T => gy T rfl h19 (r_b2s (ix := 3) (xs := x1.Value) T S rfl rfl tu24 tu9 tu5 rfl fun _ T => gy T rfl h19 (r_fa (o' := 3) T rfl tu36 rfl ts24 rfl rfl fun _ T => gy T rfl h19 (lB (ix := 0) T S rfl ti24 rfl rfl rfl fun _ T => gy T rfl h19 (r_b2s (ix := 5) (xs := x8.Value) T S rfl rfl tu24 tu9 tu5 rfl fun _ T => gy T rfl h19 (v1 T rfl fun T => pT T rfl h19 rfl rfl fun _ T => v1 T rfl fun T => ?_)))))))
    exact J0_ok F r x1 A2 k3 m4 A5 k6 m7 x8 A9 k10 m11 A12 k13 m14 ((bstr x1.Value).toList == (bstr x8.Value).toList) _ _ (T.sb rfl) (S.only [2, 2, 2, 2] rfl) H
   ·refine gn T rfl h19 fun T => gn T rfl h19 fun T => gn T rfl h19 fun T => gn T rfl h19 fun T => gn T rfl h19 fun T => gn T rfl h19 fun T => gn T rfl h19 fun T => pF T rfl h19 rfl rfl fun _ T => v1 T rfl fun T => ?_
    exact J0_ok F r x1 A2 k3 m4 A5 k6 m7 x8 A9 k10 m11 A12 k13 m14 false _ _ (T.sb rfl) (S.only [2, 2, 2, 2] rfl) H
  ·refine gn T rfl h18 fun T => gn T rfl h18 fun T => gn T rfl h18 fun T => gn T rfl h18 fun T => gn T rfl h18 fun T => pF T rfl h18 rfl rfl fun _ T => v1 T rfl fun T => gn T rfl rfl fun T => gn T rfl rfl fun T => gn T rfl rfl fun T => gn T rfl rfl fun T => gn T rfl rfl fun T => gn T rfl rfl fun T => gn T rfl rfl fun T => pF T rfl rfl rfl rfl fun _ T => v1 T rfl fun T => ?_
   exact J0_ok F r x1 A2 k3 m4 A5 k6 m7 x8 A9 k10 m11 A12 k13 m14 false _ _ (T.sb rfl) (S.only [2, 2, 2, 2] rfl) H
 ·refine gn T rfl h17 fun T => gn T rfl h17 fun T => gn T rfl h17 fun T => gn T rfl h17 fun T => gn T rfl h17 fun T => pF T rfl h17 rfl rfl fun _ T => v1 T rfl fun T => gn T rfl rfl fun T => gn T rfl rfl fun T => gn T rfl rfl fun T => gn T rfl rfl fun T => gn T rfl rfl fun T => pF T rfl rfl rfl rfl fun _ T => v1 T rfl fun T => gn T rfl rfl fun T => gn T rfl rfl fun T => gn T rfl rfl fun T => gn T rfl rfl fun T => gn T rfl rfl fun T => gn T rfl rfl fun T => gn T rfl rfl fun T => pF T rfl rfl rfl rfl fun _ T => v1 T rfl fun T => ?_
  exact J0_ok F r x1 A2 k3 m4 A5 k6 m7 x8 A9 k10 m11 A12 k13 m14 false _ _ (T.sb rfl) (S.only [2, 2, 2, 2] rfl) H
end w4_sameOne
namespace w4_same
noncomputable def c0 : Code := match Try.f10.body with | some c => c | none => .skip
def R (F : List Atom) (x1 : List aE) (A2 : OA) (k3 : Nat) (x4 : List aE) (A5 : OA) (k6 : Nat) (r : Bool) : Ending → World → Prop := fun e w' => e = .returned (.bool r) ∧ SL ([sl .ro kaE A2 k3 x1, sl .ro kaE A5 k6 x4] ++ F) w'
def L0 (z : Nat) (x1 x4 : List aE) : Nat → Int → Option Bool
 | 0, _ => none
 | m + 1, x8 => If (decide (x8 < (x1.length : Int))) (Ck (0 ≤ x8 ∧ x8 < (x1.length : Int)) (Ck (x8 < (x4.length : Int)) (Bd (w4_sameOne.f (gi daE x1 x8) (gi daE x4 x8)) fun x2482 => If (!x2482) (some false) (L0 z x1 x4 m (wr .i64 (x8 + 1)))))) (some true)
def f (z : Nat) (x1 x4 : List aE) : Option Bool := If ((x1.length : Int) != (x4.length : Int)) (some false) (L0 z x1 x4 z 0)
noncomputable def ptL0 : List Item := [.code (cB (cB (cR (cL (cR (cR c0)))))), .inLoop (cB (cB (cR (cL (cR (cR c0)))))), .inBlock 0, .code (cr 3 c0)]
theorem L0_ok (F : List Atom) (r : Bool) (z : Nat) (x1 : List aE) (A2 : OA) (k3 : Nat) (x4 : List aE) (A5 : OA) (k6 m : Nat) : ∀ (x8 : Int) (a : Act) (w : World), Tm 29 [(0, .slice A2 x1.length k3), (1, .slice A5 x4.length k6), (5, .int .i64 x8)] a → SL ([sl .ro kaE A2 k3 x1, sl .ro kaE A5 k6 x4] ++ F) w → L0 z x1 x4 m x8 = some r → Gets Try.prog 10 ptL0 a w (R F x1 A2 k3 x4 A5 k6 r) := by
 induction m with
 | zero => intro _ _ _ _ _ H; cases H
 | succ m ih =>
  intro x8 a w T S H
  refine sq (sq (rg (v2 T rfl rfl fun T => rn T rfl tu22 rfl fun _ T => v1 T rfl fun T => ?_)))
  rcases ifE H with ⟨h9, H⟩ | ⟨h9, H⟩
  ·refine cdT T rfl h9 (sk (sq (bq (sq ?_))))
   obtain ⟨h2121, H⟩ := ck H
   obtain ⟨_, S⟩ := S.peek (ix := 0) (off := 0) (i := x8) rfl daE (Fld.all _) h2121.1 h2121.2
   obtain ⟨A2181, k2182, A2183, k2184, hv_, S_⟩ := op_aE (l := _ :: _) S
   subst hv_
   replace S := S_
   obtain ⟨h2361, H⟩ := ck H
   obtain ⟨_, S⟩ := S.peek (ix := 4) (off := 0) (i := x8) rfl daE (Fld.all _) h2121.1 h2361
   obtain ⟨A2421, k2422, A2423, k2424, hv_, S_⟩ := op_aE (l := _ :: _) S
   subst hv_
   replace S := S_
   refine Gets.drawn (l := [sl .ro ku8 A2421 k2422 ((gi daE x4 x8).Key), sl .ro ku8 A2423 k2424 ((gi daE x4 x8).Value), cl A5 (Int.toNat x8 * 4) [.slice A2421 (((gi daE x4 x8).Key).length) k2422, .int .u64 ((gi daE x4 x8).Seq), .bool ((gi daE x4 x8).Del), .slice A2423 (((gi daE x4 x8).Value).length) k2424], sl .ro ku8 A2181 k2182 ((gi daE x1 x8).Key), sl .ro ku8 A2183 k2184 ((gi daE x1 x8).Value), cl A2 (Int.toNat x8 * 4) [.slice A2181 (((gi daE x1 x8).Key).length) k2182, .int .u64 ((gi daE x1 x8).Seq), .bool ((gi daE x1 x8).Del), .slice A2183 (((gi daE x1 x8).Value).length) k2184], sl .ro kaE A2 k3 x1, sl .ro kaE A5 k6 x4]) (V := [some (.slice A2 x1.length k3, true), some (.int .i64 x8, true), some (.pointer (some (eA A2 (Int.toNat x8 * 4))), true), some (.agg #[.slice A2181 (((gi daE x1 x8).Key).length) k2182, .int .u64 ((gi daE x1 x8).Seq), .bool ((gi daE x1 x8).Del), .slice A2183 (((gi daE x1 x8).Value).length) k2184], true), some (.slice A5 x4.length k6, true), some (.int .i64 x8, true), some (.pointer (some (eA A5 (Int.toNat x8 * 4))), true), some (.agg #[.slice A2421 (((gi daE x4 x8).Key).length) k2422, .int .u64 ((gi daE x4 x8).Seq), .bool ((gi daE x4 x8).Del), .slice A2423 (((gi daE x4 x8).Value).length) k2424], true), none, none]) mixed T S rfl ?_
   refine stage (some 8) rfl rfl ⟨⟨_, _, rfl, (avl [0] rfl), fun _ _ _ T S => v1 T rfl fun T => ⟨rfl, T⟩⟩, ⟨_, _, rfl, (avl [5] rfl), fun _ _ _ T S => v1 T rfl fun T => ⟨rfl, T⟩⟩, ⟨_, _, rfl, (avl [18, 19] rfl), fun _ _ _ T S => r_ia (ix := 6) T S rfl rfl rfl rfl tu22 ts36 h2121.1 h2121.2 rfl fun _ T => ⟨rfl, T⟩⟩, ⟨_, _, rfl, (avl [20] rfl), fun _ _ _ T S => r_ldCA (ix := 5) (A := A2) T S rfl rfl rfl ti36 ts36 rfl fun _ T => ⟨rfl, T⟩⟩, ⟨_, _, rfl, (avl [1] rfl), fun _ _ _ T S => v1 T rfl fun T => ⟨rfl, T⟩⟩, ⟨_, _, rfl, (avl [5] rfl), fun _ _ _ T S => v1 T rfl fun T => ⟨rfl, T⟩⟩, ⟨_, _, rfl, (avl [22, 23] rfl), fun _ _ _ T S => r_ia (ix := 7) T S rfl rfl rfl rfl tu22 ts36 h2121.1 h2361 rfl fun _ T => ⟨rfl, T⟩⟩, ⟨_, _, rfl, (avl [24] rfl), fun _ _ _ T S => r_ldCA (ix := 2) (A := A5) T S rfl rfl rfl ti36 ts36 rfl fun _ T => ⟨rfl, T⟩⟩, trivial⟩ rfl (fun i hi => ?_) (fun h => by cases h)
   cases hi
   refine ⟨rfl, _, _, rfl, (avl [21, 25] rfl), fun u a w T S => ?_⟩
   obtain ⟨x2482, h2481, H⟩ := bd H
   refine rc T Try.call12 rfl rfl (w4_sameOne.ok _ _ (gi daE x1 x8) (gi daE x4 x8) (S.sel (is := [3, 3, 0, 0]) rfl) _ h2481) ?_
   rintro _ _ ⟨rfl, S⟩
   refine ⟨_, rfl, fun _ T => ?_⟩
   replace S := S.join
   refine ⟨_, [some (.slice A2 x1.length k3, true), some (.int .i64 x8, true), some (.pointer (some (eA A2 (Int.toNat x8 * 4))), true), some (.agg #[.slice A2181 (((gi daE x1 x8).Key).length) k2182, .int .u64 ((gi daE x1 x8).Seq), .bool ((gi daE x1 x8).Del), .slice A2183 (((gi daE x1 x8).Value).length) k2184], false), some (.slice A5 x4.length k6, true), some (.int .i64 x8, true), some (.pointer (some (eA A5 (Int.toNat x8 * 4))), true), some (.agg #[.slice A2421 (((gi daE x4 x8).Key).length) k2422, .int .u64 ((gi daE x4 x8).Seq), .bool ((gi daE x4 x8).Del), .slice A2423 (((gi daE x4 x8).Value).length) k2424], false), some (.bool x2482, false), some (.bool x2482, true)], [sl .ro ku8 A2181 k2182 ((gi daE x1 x8).Key), sl .ro ku8 A2183 k2184 ((gi daE x1 x8).Value), sl .ro ku8 A2421 k2422 ((gi daE x4 x8).Key), sl .ro ku8 A2423 k2424 ((gi daE x4 x8).Value), cl A5 (Int.toNat x8 * 4) [.slice A2421 (((gi daE x4 x8).Key).length) k2422, .int .u64 ((gi daE x4 x8).Seq), .bool ((gi daE x4 x8).Del), .slice A2423 (((gi daE x4 x8).Value).length) k2424], cl A2 (Int.toNat x8 * 4) [.slice A2181 (((gi daE x1 x8).Key).length) k2182, .int .u64 ((gi daE x1 x8).Seq), .bool ((gi daE x1 x8).Del), .slice A2183 (((gi daE x1 x8).Value).length) k2184], sl .ro kaE A2 k3 x1, sl .ro kaE A5 k6 x4], rfl, (by repeat first | exact kx0 | apply kxs | apply kxn), rfl, ?_, T, S⟩
   refine stage none rfl rfl ⟨⟨_, _, rfl, (avl [0] rfl), fun _ _ _ T S => v1 T rfl fun T => ⟨rfl, T⟩⟩, ⟨_, _, rfl, (avl [5] rfl), fun _ _ _ T S => v1 T rfl fun T => ⟨rfl, T⟩⟩, ⟨_, _, rfl, (avl [18, 19] rfl), fun _ _ _ T S => r_ia (ix := 6) T S rfl rfl rfl rfl tu22 ts36 h2121.1 h2121.2 rfl fun _ T => ⟨rfl, T⟩⟩, ⟨_, _, rfl, (avl [1] rfl), fun _ _ _ T S => v1 T rfl fun T => ⟨rfl, T⟩⟩, ⟨_, _, rfl, (avl [5] rfl), fun _ _ _ T S => v1 T rfl fun T => ⟨rfl, T⟩⟩, ⟨_, _, rfl, (avl [22, 23] rfl), fun _ _ _ T S => r_ia (ix := 7) T S rfl rfl rfl rfl tu22 ts36 h2121.1 h2361 rfl fun _ T => ⟨rfl, T⟩⟩, ⟨_, _, rfl, (avl [26] rfl), fun _ _ _ T S => v1 T rfl fun T => ⟨rfl, T⟩⟩, trivial⟩ rfl (fun i hi => by cases hi) (fun _ _ a w T hv hb S => ?_)
   replace T := T.sub (r := [(0, .slice A2 x1.length k3), (1, .slice A5 x4.length k6), (5, .int .i64 x8), (6, .bool x2482)]) ⟨hb 0 _ rfl rfl, hb 1 _ rfl rfl, hb 5 _ rfl rfl, hv 9 _ 6 rfl rfl rfl, trivial⟩
   refine sq (rg (v2 T rfl rfl fun T => ?_))
   rcases ifE H with ⟨h10, H⟩ | ⟨h10, H⟩
   ·refine cdT T rfl h10 (sq (rg (v1 T rfl fun T => ?_)))
    obtain rfl := sj H
    exact rtn T tf10 rfl rfl ⟨rfl, (S.only [6, 6] rfl)⟩
   ·refine cdF T rfl h10 (sk (Gets.inBlock (rg (v3 T rfl rfl rfl fun T => Gets.inLoop ?_))))
    exact ih (wr .i64 (x8 + 1)) _ _ (T.sb rfl) (S.only [6, 6] rfl) H
  ·refine cdF T rfl h9 (Gets.exit rfl (sq (rg (v1 T rfl fun T => ?_))))
   obtain rfl := sj H
   exact rtn T tf10 rfl rfl ⟨rfl, (S.only [0, 0] rfl)⟩
theorem ok (F : List Atom) (w : World) (z : Nat) (x1 x4 : List aE) {A2 : OA} {k3 : Nat} {A5 : OA} {k6 : Nat} (S : SL ([sl .ro kaE A2 k3 x1, sl .ro kaE A5 k6 x4] ++ F) w) (r : Bool) (H : f z x1 x4 = some r) : Calls Try.prog 10 #[.slice A2 x1.length k3, .slice A5 x4.length k6] w (R F x1 A2 k3 x4 A5 k6 r) := by
 refine enter (vs := [.slice A2 x1.length k3, .slice A5 x4.length k6]) tf10 rfl Try.ntmps10 (nle rfl) fun a T => ?_
 refine sq (rg (v1 T rfl fun T => sq (sq (rg (v1 T rfl fun T => rn T rfl tu22 rfl fun _ T => v1 T rfl fun T => rn T rfl tu22 rfl fun _ T => v1 T rfl fun T => ?_)))))
 rcases ifE H with ⟨h7, H⟩ | ⟨h7, H⟩
 ·refine cdT T rfl h7 (sq (rg (v1 T rfl fun T => ?_)))
  obtain rfl := sj H
  exact rtn T tf10 rfl rfl ⟨rfl, (S.only [0, 0] rfl)⟩
 ·refine cdF T rfl h7 (sk (sq (sq (rg (v1 T rfl fun T => bq (Gets.loop ?_))))))
  exact L0_ok F r z x1 A2 k3 x4 A5 k6 z 0 _ _ (T.sb rfl) (S.only [0, 0] rfl) H
end w4_same
theorem Copy_f {e : aE} (he : fitS e) : r4_Copy.f e = some e := by
 obtain ⟨h1, h2, h3, h4, h5, h6⟩ := he
 unfold r4_Copy.f
 rw [ck_y (by simp; omega), ck_y (by simp; omega)]
 rfl
theorem mark_L1 (z : Nat) : ∀ (k m i : Nat) (xs : List Int), xs.length - i = k → xs.length ≤ 16777215 → k < m → i ≤ xs.length → w4_mark.L1 z m (i : Int) xs = some ()
 | k, 0, _, _, _, _, h, _ => by omega
 | 0, m + 1, i, xs, hk, hl, _, hi => by rw [w4_mark.L1, if_n (by simp; omega)]
 | k + 1, m + 1, i, xs, hk, hl, hm, hi => by
  rw [w4_mark.L1, if_y (by simp; omega), ck_y (by omega), wI (by omega)]
  exact mark_L1 z k m (i + 1) _ (by simp; omega) (by simpa using hl) (by omega) (by simp; omega)
theorem mark_L0 {z : Nat} (hz : 16777216 ≤ z) {e : aE} (he : e.Value.length ≤ 16777215) : ∀ (k m i : Nat) (xs : List Int), xs.length - i = k → xs.length ≤ 16777215 → k < m → i ≤ xs.length → w4_mark.L0 z e m (i : Int) xs = some ()
 | k, 0, _, _, _, _, h, _ => by omega
 | 0, m + 1, i, xs, hk, hl, _, hi => by
  rw [w4_mark.L0, if_n (by simp; omega)]
  exact mark_L1 z e.Value.length z 0 e.Value rfl he (by omega) (by omega)
 | k + 1, m + 1, i, xs, hk, hl, hm, hi => by
  rw [w4_mark.L0, if_y (by simp; omega), ck_y (by omega), wI (by omega)]
  exact mark_L0 hz he k m (i + 1) _ (by simp; omega) (by simpa using hl) (by omega) (by simp; omega)
theorem mark_f {z : Nat} (hz : 16777216 ≤ z) {e : aE} (he : fitS e) : w4_mark.f z e = some () := by
 obtain ⟨h1, h2, h3, h4, h5, h6⟩ := he
 exact mark_L0 hz (by omega) e.Key.length z 0 e.Key rfl (by omega) (by omega) (by omega)
open w4_scan in
theorem rnd_f {z : Nat} (hz : 16777216 ≤ z) {most : Int} {e : aE} (he : fitS e) {out : List aE} (ho : out.length ≤ 1000000) : rnd z most e out = some (decide (((out ++ [e]).length : Int) < most), out ++ [e]) := by
 unfold rnd
 rw [Copy_f he, bd_some, ck_y (by simp; omega), mark_f hz he, bd_some]
 by_cases h : ((out ++ [e]).length : Int) ≥ most
 ·rw [if_y (by simpa using h)]
  congr 2
  symm
  rw [decide_eq_false_iff_not]
  omega
 ·rw [if_n (by simpa using h)]
  congr 2
  symm
  rw [decide_eq_true_iff]
  omega
theorem sameOne_f {a : aE} (ha : okE a) : w4_sameOne.f a a = some true := by
 unfold w4_sameOne.f w4_sameOne.J0
 rw [if_y (by rw [bstr_inj ha.1 ha.1]; simp), if_y (by simp), if_y (by simp), bstr_inj ha.2.2 ha.2.2]
 simp
theorem same_L0 (z : Nat) {l : List aE} (hl : ∀ e ∈ l, okE e) (hlen : l.length ≤ 1000000) : ∀ (k m i : Nat), l.length - i = k → i ≤ l.length → k < m → w4_same.L0 z l l m (i : Int) = some true
 | k, 0, _, _, _, h => by omega
 | 0, m + 1, i, hk, hi, _ => by rw [w4_same.L0, if_n (by simp; omega)]
 | k + 1, m + 1, i, hk, hi, hm => by
  rw [w4_same.L0, if_y (by simp; omega), ck_y (by omega), ck_y (by omega), gi_nat _ _ _ (by omega), sameOne_f (hl _ (List.getElem_mem _)), bd_some, if_n (by rfl), wI (by omega)]
  exact same_L0 z hl hlen k m (i + 1) (by omega) (by omega) (by omega)
theorem same_f {z : Nat} (hz : 16777216 ≤ z) {l : List aE} (hl : ∀ e ∈ l, okE e) (hlen : l.length ≤ 1000000) : w4_same.f z l l = some true := by
 unfold w4_same.f
 rw [if_n (by simp)]
 exact same_L0 z hl hlen l.length z 0 rfl (by omega) (by omega)
namespace b_May_c1
def R (F : List Atom) (x3 : List Int) (b4 : Nat) (A5 : OA) (k6 : Nat) (r : Bool) : Ending → World → Prop := fun e w' => e = .returned (.bool r) ∧ SL ([blk b4 [.slice A5 x3.length k6], sl .ro ku8 A5 k6 x3] ++ F) w'
def f (x1 x2 : Int) (x3 : List Int) : Option Bool := Ck (0 ≤ wr .i64 (1 + x1) ∧ wr .i64 (1 + x1) < (x3.length : Int)) (some ((bAnd .u8 (gi (0 : Int) x3 (wr .i64 (1 + x1))) x2) != 0))
theorem ok (F : List Atom) (w : World) (x1 x2 : Int) (x3 : List Int) {b4 : Nat} {A5 : OA} {k6 : Nat} (S : SL ([blk b4 [.slice A5 x3.length k6], sl .ro ku8 A5 k6 x3] ++ F) w) (r : Bool) (H : f x1 x2 x3 = some r) : Calls Try.prog 67 #[.int .i64 x1, .int .u8 x2, .pointer (some ⟨b4, 0, none⟩)] w (R F x3 b4 A5 k6 r) := by
 refine enter (vs := [.int .i64 x1, .int .u8 x2, .pointer (some ⟨b4, 0, none⟩)]) Try.func67 rfl Try.ntmps67 (nle rfl) fun a T => ?_
 refine sq (rg (v1 T rfl fun T => sq (rg (lB (ix := 0) T S rfl ti24 rfl rfl rfl fun _ T => v2 T rfl rfl fun T => ?_))))
 obtain ⟨h7, H⟩ := ck H
 refine r_ia (ix := 1) T S rfl rfl rfl rfl tu24 ts5 h7.1 h7.2 rfl fun _ T => r_ldE (ix := 1) (i := wr .i64 (1 + x1)) (off := 0) (f := (Value.int .u8)) T S rfl ti5 rfl (0 : Int) _ rfl rfl (Fld.all _) h7.1 h7.2 id rfl fun _ T => v3 T rfl rfl rfl fun T => v1 T rfl fun T => ?_
 obtain rfl := sj H
 exact rtn T Try.func67 rfl rfl ⟨rfl, (S.only [0, 0] rfl)⟩
end b_May_c1
namespace b_each_at67
noncomputable def c0 : Code := match Try.f66.body with | some c => c | none => .skip
def R (F : List Atom) (x1 : List Int) (A2 : OA) (k3 : Nat) (m4 : Md) (x7 : List Int) (b8 : Nat) (A9 : OA) (k10 : Nat) (r : Bool) : Ending → World → Prop := fun e w' => e = .returned (.bool r) ∧ SL ([sl m4 ku8 A2 k3 x1, blk b8 [.slice A9 x7.length k10], sl .ro ku8 A9 k10 x7] ++ F) w'
def L0 (z : Nat) (x5 x6 : Int) (x7 : List Int) (x14 : Int) : Nat → Int → Int → Option Bool
 | 0, _, _ => none
 | m + 1, x15, x16 => If (decide (x16 < x5)) (Ck (x6 ≠ 0) (Ck (0 ≤ Int.tmod (Int.tmod x15 x6) 8) (Bd (b_May_c1.f (wr .i64 (wr .u64 (Int.tdiv (Int.tmod x15 x6) 8))) (sShl .u8 1 (Int.tmod (Int.tmod x15 x6) 8)) x7) fun x21 => If (!x21) (some false) (L0 z x5 x6 x7 x14 m (wr .u64 (x15 + (bOr .u64 x14 1))) (wr .i64 (x16 + 1)))))) (some true)
def f (z : Nat) (x1 : List Int) (x5 x6 : Int) (x7 : List Int) : Option Bool := Bd (b_Hash.f z x1) fun x12 => Bd (bits_RotateLeft64.f x12 31) fun x14 => L0 z x5 x6 x7 x14 z x12 0
noncomputable def ptL0 : List Item := [.code (cB (cB (cR (cL (cr 3 c0))))), .inLoop (cB (cB (cR (cL (cr 3 c0))))), .inBlock 0, .code (cr 4 c0)]
theorem L0_ok (F : List Atom) (r : Bool) (z : Nat) (x1 : List Int) (A2 : OA) (k3 : Nat) (m4 : Md) (x7 : List Int) (b8 : Nat) (A9 : OA) (k10 : Nat) (x6 x14 x5 : Int) (m : Nat) : ∀ (x15 x16 : Int) (a : Act) (w : World), Tm 36 [(2, .int .u64 x6), (3, .func (.func 67) #[] #[.pointer (some ⟨b8, 0, none⟩)]), (9, .int .u64 x15), (10, .int .u64 (bOr .u64 x14 1)), (17, .int .i64 x5), (18, .int .i64 x16)] a → SL ([sl m4 ku8 A2 k3 x1, blk b8 [.slice A9 x7.length k10], sl .ro ku8 A9 k10 x7] ++ F) w → L0 z x5 x6 x7 x14 m x15 x16 = some r → Gets Try.prog 66 ptL0 a w (R F x1 A2 k3 m4 x7 b8 A9 k10 r) := by
 induction m with
 | zero => intro _ _ _ _ _ _ H; cases H
 | succ m ih =>
  intro x15 x16 a w T S H
  refine sq (rg (v1 T rfl fun T => sq ?_))
  rcases ifE H with ⟨h17, H⟩ | ⟨h17, H⟩
  ·refine cdT T rfl h17 (sk (sq (bq (sq (rg (v2 T rfl rfl fun T => ?_))))))
   obtain ⟨h18, H⟩ := ck H
   refine r_rem T rfl rfl h18 rfl fun _ T => v1 T rfl fun T => sq (sq ?_)
   refine rg (v2 T rfl rfl fun T => r_quo T rfl rfl (by decide) rfl fun _ T => ?_)
   refine r_conv T rfl tu34 tu3 rfl fun _ T => v1 T rfl fun T => r_rem T rfl rfl (by decide) rfl fun _ T => ?_
   obtain ⟨h19, H⟩ := ck H
   refine r_shl T rfl rfl h19 rfl fun _ T => ?_
   obtain ⟨x21, h20, H⟩ := bd H
   refine r_callF T rfl Try.call67 rfl rfl (b_May_c1.ok _ _ (wr .i64 (wr .u64 (Int.tdiv (Int.tmod x15 x6) 8))) (sShl .u8 1 (Int.tmod (Int.tmod x15 x6) 8)) x7 (S.sel (is := [1, 1]) rfl) _ h20) ?_
   rintro _ _ ⟨rfl, S⟩
   refine ⟨_, rfl, fun _ T => ?_⟩
   replace S := S.join
   refine v1 T rfl fun T => ?_
   rcases ifE H with ⟨h22, H⟩ | ⟨h22, H⟩
   ·refine cdT T rfl h22 (sq (rg (v1 T rfl fun T => ?_)))
    obtain rfl := sj H
    exact rtn T tf66 rfl rfl ⟨rfl, (S.only [2, 0, 0] rfl)⟩
   ·refine cdF T rfl h22 (sk (rg (v3 T rfl rfl rfl fun T => v1 T rfl fun T => Gets.inBlock (rg (v2 T rfl rfl fun T => Gets.inLoop ?_)))))
    exact ih (wr .u64 (x15 + (bOr .u64 x14 1))) (wr .i64 (x16 + 1)) _ _ (T.sb rfl) (S.only [2, 0, 0] rfl) H
  ·refine cdF T rfl h17 (Gets.exit rfl (sq (rg (v1 T rfl fun T => ?_))))
   obtain rfl := sj H
   exact rtn T tf66 rfl rfl ⟨rfl, (S.only [0, 0, 0] rfl)⟩
theorem ok (F : List Atom) (w : World) (z : Nat) (x1 : List Int) (x5 x6 : Int) (x7 : List Int) {A2 : OA} {k3 : Nat} {m4 : Md} {b8 : Nat} {A9 : OA} {k10 : Nat} (S : SL ([sl m4 ku8 A2 k3 x1, blk b8 [.slice A9 x7.length k10], sl .ro ku8 A9 k10 x7] ++ F) w) (r : Bool) (H : f z x1 x5 x6 x7 = some r) : Calls Try.prog 66 #[.slice A2 x1.length k3, .int .i64 x5, .int .u64 x6, .func (.func 67) #[] #[.pointer (some ⟨b8, 0, none⟩)]] w (R F x1 A2 k3 m4 x7 b8 A9 k10 r) := by
 refine enter (vs := [.slice A2 x1.length k3, .int .i64 x5, .int .u64 x6, .func (.func 67) #[] #[.pointer (some ⟨b8, 0, none⟩)]]) tf66 rfl Try.ntmps66 (nle rfl) fun a T => ?_
 refine sq (rg (v1 T rfl fun T => sq (rg (v1 T rfl fun T => ?_))))
 obtain ⟨x12, h11, H⟩ := bd H
 refine rc T Try.call87 rfl rfl (b_Hash.ok _ _ z x1 (S.sel (is := [0]) rfl) _ h11) ?_
 rintro _ _ ⟨rfl, S⟩
 refine ⟨_, rfl, fun _ T => ?_⟩
 replace S := S.join
 refine v1 T rfl fun T => sq (rg (v1 T rfl fun T => ?_))
 obtain ⟨x14, h13, H⟩ := bd H
 refine rc T Try.call88 rfl rfl (bits_RotateLeft64.ok _ _ x12 31 (S.sel (is := []) rfl) _ h13) ?_
 rintro _ _ ⟨rfl, S⟩
 refine ⟨_, rfl, fun _ T => ?_⟩
 replace S := S.join
 refine v2 T rfl rfl fun T => sq (sq (rg (v2 T rfl rfl fun T => bq (Gets.loop ?_))))
 exact L0_ok F r z x1 A2 k3 m4 x7 b8 A9 k10 x6 x14 x5 z x12 0 _ _ (T.sb rfl) (S.only [0, 0, 0] rfl) H
end b_each_at67
namespace b_May
noncomputable def c0 : Code := match Try.f39.body with | some c => c | none => .skip
def R (F : List Atom) (x1 : List Int) (A2 : OA) (k3 : Nat) (x4 : List Int) (A5 : OA) (k6 : Nat) (m7 : Md) (r : Bool) : Ending → World → Prop := fun e w' => e = .returned (.bool r) ∧ SL ([sl .ro ku8 A2 k3 x1, sl m7 ku8 A5 k6 x4] ++ F) w'
def J0 (z : Nat) : Option Bool := some true
def f (z : Nat) (x1 x4 : List Int) : Option Bool := If (decide ((wr .i64 ((x1.length : Int) - 1)) < 8)) (J0 z) (If ((Int.tmod (wr .i64 ((x1.length : Int) - 1)) 8) != 0) (J0 z) (Ck (0 < (x1.length : Int)) (If ((gi (0 : Int) x1 0) == 0) (J0 z) (If (decide ((gi (0 : Int) x1 0) > 30)) (J0 z) (Bd (b_each_at67.f z x4 (wr .i64 (gi (0 : Int) x1 0)) (wr .u64 ((wr .u64 (wr .i64 ((x1.length : Int) - 1))) * 8)) x1) fun x15 => some x15)))))
noncomputable def ptJ0 : List Item := [.code (cL (cT (cR (cL (cR (cR c0)))))), .code (cR (cT (cR (cL (cR (cR c0)))))), .code (cr 3 c0)]
theorem J0_ok (F : List Atom) (r : Bool) (z : Nat) (x1 : List Int) (A2 : OA) (k3 : Nat) (x4 : List Int) (A5 : OA) (k6 : Nat) (m7 : Md) (a : Act) (w : World) (T : Tm 38 [] a) (S : SL ([sl .ro ku8 A2 k3 x1, sl m7 ku8 A5 k6 x4] ++ F) w) (H : J0 z = some r) : Gets Try.prog 39 ptJ0 a w (R F x1 A2 k3 x4 A5 k6 m7 r) := by
 refine rg (v1 T rfl fun T => ?_)
 obtain rfl := sj H
 exact rtn T Try.func39 rfl rfl ⟨rfl, (S.only [0, 0] rfl)⟩
theorem ok (F : List Atom) (w : World) (z : Nat) (x1 x4 : List Int) {A2 : OA} {k3 : Nat} {A5 : OA} {k6 : Nat} {m7 : Md} (S : SL ([sl .ro ku8 A2 k3 x1, sl m7 ku8 A5 k6 x4] ++ F) w) (r : Bool) (H : f z x1 x4 = some r) : Calls Try.prog 39 #[.slice A2 x1.length k3, .slice A5 x4.length k6] w (R F x1 A2 k3 x4 A5 k6 m7 r) := by
 refine enter (vs := [.slice A2 x1.length k3, .slice A5 x4.length k6]) Try.func39 rfl Try.ntmps39 (nle rfl) fun a T => ?_
 refine sq (rg (r_box T S rfl (cs := [.slice A2 x1.length k3]) rfl rfl fun _ _ b8 S T => v1 T rfl fun T => sq (rg (lB (ix := 0) T S rfl ti24 rfl rfl rfl fun _ T => rn T rfl tu24 rfl fun _ T => v2 T rfl rfl fun T => sq (sq (rg (v3 T rfl rfl rfl fun T => ?_)))))))
 rcases ifE H with ⟨h9, H⟩ | ⟨h9, H⟩
 ·refine gn T rfl h9 fun T => gn T rfl h9 fun T => gn T rfl h9 fun T => pT T rfl h9 rfl rfl fun _ T => v1 T rfl fun T => gn T rfl rfl fun T => gn T rfl rfl fun T => gn T rfl rfl fun T => gn T rfl rfl fun T => pT T rfl rfl rfl rfl fun _ T => v1 T rfl fun T => gn T rfl rfl fun T => gn T rfl rfl fun T => gn T rfl rfl fun T => gn T rfl rfl fun T => pT T rfl rfl rfl rfl fun _ T => cdT T rfl rfl (sq ?_)
  exact J0_ok F r z x1 A2 k3 x4 A5 k6 m7 _ _ (T.sub trivial) (S.only [1, 1] rfl) H
 ·refine gy T rfl h9 ?_
  refine v1 T rfl fun T => gy T rfl h9 (r_rem T rfl rfl (by decide) rfl fun _ T => ?_)
  refine gy T rfl h9 (v1 T rfl fun T => pF T rfl h9 rfl rfl fun _ T => v1 T rfl fun T => ?_)
  rcases ifE H with ⟨h10, H⟩ | ⟨h10, H⟩
  ·refine gn T rfl h10 fun T => gn T rfl h10 fun T => gn T rfl h10 fun T => gn T rfl h10 fun T => pT T rfl h10 rfl rfl fun _ T => v1 T rfl fun T => gn T rfl rfl fun T => gn T rfl rfl fun T => gn T rfl rfl fun T => gn T rfl rfl fun T => pT T rfl rfl rfl rfl fun _ T => cdT T rfl rfl (sq ?_)
   exact J0_ok F r z x1 A2 k3 x4 A5 k6 m7 _ _ (T.sub trivial) (S.only [1, 1] rfl) H
  ·refine gy T rfl h10 (lB (ix := 0) T S rfl ti24 rfl rfl rfl fun _ T => gy T rfl h10 ?_)
   obtain ⟨h11, H⟩ := ck H
   refine r_ia (ix := 1) T S rfl rfl rfl rfl tu24 ts5 (by decide) h11 rfl fun _ T => ?_
   refine gy T rfl h10 (r_ldE (ix := 1) (i := 0) (off := 0) (f := (Value.int .u8)) T S rfl ti5 rfl (0 : Int) _ rfl rfl (Fld.all _) (by decide) h11 id rfl fun _ T => ?_)
   refine gy T rfl h10 (v1 T rfl fun T => pF T rfl h10 rfl rfl fun _ T => v1 T rfl fun T => ?_)
   rcases ifE H with ⟨h12, H⟩ | ⟨h12, H⟩
   ·refine gn T rfl h12 fun T => gn T rfl h12 fun T => gn T rfl h12 fun T => gn T rfl h12 fun T => pT T rfl h12 rfl rfl fun _ T => cdT T rfl rfl (sq ?_)
    exact J0_ok F r z x1 A2 k3 x4 A5 k6 m7 _ _ (T.sub trivial) (S.only [1, 1] rfl) H
   ·refine gy T rfl h12 ?_
    refine lB (ix := 0) T S rfl ti24 rfl rfl rfl fun _ T => gy T rfl h12 (r_ia (ix := 1) T S rfl rfl rfl rfl tu24 ts5 (by decide) h11 rfl fun _ T => ?_)
    refine gy T rfl h12 (r_ldE (ix := 1) (i := 0) (off := 0) (f := (Value.int .u8)) T S rfl ti5 rfl (0 : Int) _ rfl rfl (Fld.all _) (by decide) h11 id rfl fun _ T => ?_)
    refine gy T rfl h12 (v1 T rfl fun T => pF T rfl h12 rfl rfl fun _ T => ?_)
    rcases ifE H with ⟨h13, H⟩ | ⟨h13, H⟩
    ·refine cdT T rfl h13 (sq ?_)
     exact J0_ok F r z x1 A2 k3 x4 A5 k6 m7 _ _ (T.sub trivial) (S.only [1, 1] rfl) H
    ·refine cdF T rfl h13 (sk (sq ?_))
     refine rg (v1 T rfl fun T => lB (ix := 0) T S rfl ti24 rfl rfl rfl fun _ T => r_ia (ix := 1) T S rfl rfl rfl rfl tu24 ts5 (by decide) h11 rfl fun _ T => ?_)
     refine r_ldE (ix := 1) (i := 0) (off := 0) (f := (Value.int .u8)) T S rfl ti5 rfl (0 : Int) _ rfl rfl (Fld.all _) (by decide) h11 id rfl fun _ T => ?_
     refine r_conv T rfl tu5 tu3 rfl fun _ T => v1 T rfl fun T => r_conv T rfl tu3 tu34 rfl fun _ T => v2 T rfl rfl fun T => ?_
     replace S := S.dup (i := 1) rfl
     obtain ⟨x15, h14, H⟩ := bd H
     refine rc T Try.call66 rfl rfl (b_each_at67.ok _ _ z x4 (wr .i64 (gi (0 : Int) x1 0)) (wr .u64 ((wr .u64 (wr .i64 ((x1.length : Int) - 1))) * 8)) x1 (S.sel (is := [3, 1, 0]) rfl) _ h14) ?_
     rintro _ _ ⟨rfl, S⟩
     refine ⟨_, rfl, fun _ T => ?_⟩
     replace S := S.join
     refine v1 T rfl fun T => ?_
     obtain rfl := sj H
     exact rtn T Try.func39 rfl rfl ⟨rfl, (S.only [3, 0] rfl)⟩
end b_May
theorem gi0_set {b : List Int} {n : Int} (h0 : 0 ≤ n) : gi (0 : Int) (setb b n) 0 = gi 0 b 0 := by
 unfold setb gi
 rw [List.getElem?_set_ne (by show (1 + n / 8).toNat ≠ Int.toNat 0; omega)]
theorem gi0_each {m step : Int} (hm : 0 < m) : ∀ (k : Nat) (h : Int) (b : List Int), gi (0 : Int) (eachS m step k h b) 0 = gi 0 b 0
 | 0, _, _ => rfl
 | k + 1, h, b => by rw [eachS, gi0_each hm k, gi0_set (Int.emod_nonneg _ (by omega))]
theorem gi0_fold {p m : Int} (hm : 0 < m) : ∀ (keys : List (List Int)) (b : List Int), gi (0 : Int) (keys.foldl (keyS p m) b) 0 = gi 0 b 0
 | [], _ => rfl
 | x :: keys, b => by rw [List.foldl_cons, gi0_fold hm keys]; exact gi0_each hm _ _ _
theorem bits64 (n : Nat) (pk : Int) : bitsS n pk % 64 = 0 := by unfold bitsS; omega
namespace s_Table_First
def R (F : List Atom) (b2 : Nat) (r : (List Int) × s_Table) : Ending → World → Prop := fun e w' => ∃ (A19 : OA), ∃ (k20 : Nat), ∃ (A22 : OA), ∃ (k23 : Nat), ∃ (A24 : OA), ∃ (k25 : Nat), ∃ (A26 : OA), ∃ (k27 : Nat), e = .returned (.slice A19 r.1.length k20) ∧ SL ([sl .own ku8 A19 k20 r.1, blk b2 [.slice A22 r.2.b.length k23, .slice A24 r.2.blocks.length k25, .slice A26 r.2.filter.length k27, .int .i64 r.2.count, .int .i64 r.2.reads], sl .ro ku8 A22 k23 r.2.b, sl .ro ks_block A24 k25 r.2.blocks, sl .ro ku8 A26 k27 r.2.filter] ++ F) w'
def f (x1 : s_Table) : Option ((List Int) × s_Table) := Ck (0 < (x1.blocks.length : Int)) (Bd (bytes_Clone.f ((gi ds_block x1.blocks 0).first)) fun x13 => Bd (slices_Clip_byte.f x13) fun x17 => some (x17, x1))
theorem ok (F : List Atom) (w : World) (x1 : s_Table) {b2 : Nat} {A3 : OA} {k4 : Nat} {A5 : OA} {k6 : Nat} {A7 : OA} {k8 : Nat} (S : SL ([blk b2 [.slice A3 x1.b.length k4, .slice A5 x1.blocks.length k6, .slice A7 x1.filter.length k8, .int .i64 x1.count, .int .i64 x1.reads], sl .ro ku8 A3 k4 x1.b, sl .ro ks_block A5 k6 x1.blocks, sl .ro ku8 A7 k8 x1.filter] ++ F) w) (r : (List Int) × s_Table) (H : f x1 = some r) : Calls Try.prog 15 #[.pointer (some ⟨b2, 0, none⟩)] w (R F b2 r) := by
 refine enter (vs := [.pointer (some ⟨b2, 0, none⟩)]) Try.func15 rfl Try.ntmps15 (nle rfl) fun a T => ?_
 refine sq (rg (v1 T rfl fun T => sq (rg (v2 T rfl rfl fun T => r_fa (o' := 1) T rfl tu69 rfl ts67 rfl rfl fun _ T => lB (ix := 0) T S rfl ti67 rfl rfl rfl fun _ T => ?_))))
 obtain ⟨h9, H⟩ := ck H
 refine r_ia (ix := 2) T S rfl rfl rfl rfl tu67 ts73 (by decide) h9 rfl fun _ T => ?_
 refine r_faE T rfl tu73 rfl ts24 rfl fun _ T => r_ldR (ix := 2) (i := 0) (off := 3) T S rfl ti24 rfl ds_block _ rfl rfl fld_s_block_first (by decide) h9 rfl rfl fun _ _ S T => ?_
 obtain ⟨A10, k11, hv_, S_⟩ := S.ofVal
 subst hv_
 replace S := S_
 obtain ⟨x13, h12, H⟩ := bd H
 refine rc T tc32 rfl rfl (bytes_Clone.ok _ _ ((gi ds_block x1.blocks 0).first) (S.sel (is := [0]) rfl) _ h12) ?_
 rintro _ _ ⟨A14, k15, rfl, S⟩
 refine ⟨_, rfl, fun _ T => ?_⟩
 replace S := S.join
 obtain ⟨x17, h16, H⟩ := bd H
 refine rc T tc31 rfl rfl (slices_Clip_byte.ok _ _ x13 (S.sel (is := [0]) rfl) _ h16) ?_
 rintro _ _ ⟨A18, rfl, S⟩
 refine ⟨_, rfl, fun _ T => ?_⟩
 replace S := S.join
 refine v1 T rfl fun T => ?_
 obtain rfl := sj H
 exact rtn T Try.func15 rfl rfl ⟨A18, x17.length, A3, k4, A5, k6, A7, k8, rfl, (S.only [0, 1, 1, 1, 1] rfl)⟩
end s_Table_First
namespace s_Table_Last
def R (F : List Atom) (b2 : Nat) (r : (List Int) × s_Table) : Ending → World → Prop := fun e w' => ∃ (A9 : OA), ∃ (k10 : Nat), ∃ (A12 : OA), ∃ (k13 : Nat), ∃ (A14 : OA), ∃ (k15 : Nat), ∃ (A16 : OA), ∃ (k17 : Nat), e = .returned (.slice A9 r.1.length k10) ∧ SL ([sl .own ku8 A9 k10 r.1, blk b2 [.slice A12 r.2.b.length k13, .slice A14 r.2.blocks.length k15, .slice A16 r.2.filter.length k17, .int .i64 r.2.count, .int .i64 r.2.reads], sl .ro ku8 A12 k13 r.2.b, sl .ro ks_block A14 k15 r.2.blocks, sl .ro ku8 A16 k17 r.2.filter] ++ F) w'
def f (x1 : s_Table) : Option ((List Int) × s_Table) := Ck (0 ≤ wr .i64 ((x1.blocks.length : Int) - 1) ∧ wr .i64 ((x1.blocks.length : Int) - 1) < (x1.blocks.length : Int)) (Bd (bytes_Clone.f ((gi ds_block x1.blocks (wr .i64 ((x1.blocks.length : Int) - 1))).last)) fun x2782 => Bd (slices_Clip_byte.f x2782) fun x2842 => some (x2842, x1))
abbrev y0 (b2 : Nat) : Option (Value × Bool) := some (.pointer (some ⟨b2, 0, none⟩), true)
abbrev y1 (A2721 : OA) (x1 : s_Table) (k2722 : Nat) : Value := .slice A2721 (((gi ds_block x1.blocks (wr .i64 ((x1.blocks.length : Int) - 1))).last).length) k2722
abbrev y2 (b2 : Nat) (A3 : OA) (x1 : s_Table) (k4 : Nat) (A5 : OA) (k6 : Nat) (A7 : OA) (k8 : Nat) : Atom := blk b2 [.slice A3 x1.b.length k4, .slice A5 x1.blocks.length k6, .slice A7 x1.filter.length k8, .int .i64 x1.count, .int .i64 x1.reads]
abbrev y3 (b2 : Nat) : Option (Value × Bool) := some (.pointer (some ⟨b2, 1, none⟩), true)
theorem ok (F : List Atom) (w : World) (x1 : s_Table) {b2 : Nat} {A3 : OA} {k4 : Nat} {A5 : OA} {k6 : Nat} {A7 : OA} {k8 : Nat} (S : SL ([(y2 b2 A3 x1 k4 A5 k6 A7 k8), sl .ro ku8 A3 k4 x1.b, sl .ro ks_block A5 k6 x1.blocks, sl .ro ku8 A7 k8 x1.filter] ++ F) w) (r : (List Int) × s_Table) (H : f x1 = some r) : Calls Try.prog 16 #[.pointer (some ⟨b2, 0, none⟩)] w (R F b2 r) := by
 refine enter (vs := [.pointer (some ⟨b2, 0, none⟩)]) Try.func16 rfl Try.ntmps16 (nle rfl) fun a T => ?_
 refine sq (rg (v1 T rfl fun T => sq ?_))
 obtain ⟨h2601, H⟩ := ck H
 obtain ⟨_, S⟩ := S.peek1 (ix := 2) (off := 4) (i := wr .i64 ((x1.blocks.length : Int) - 1)) rfl ds_block fld_s_block_last h2601.1 h2601.2 rfl
 obtain ⟨A2721, k2722, hv_, S_⟩ := SL.ofVal (l := _ :: _) S
 subst hv_
 replace S := S_
 refine Gets.drawn (l := [sl .ro ku8 A2721 k2722 ((gi ds_block x1.blocks (wr .i64 ((x1.blocks.length : Int) - 1))).last), cl A5 (Int.toNat (wr .i64 ((x1.blocks.length : Int) - 1)) * 5 + 4) [(y1 A2721 x1 k2722)], (y2 b2 A3 x1 k4 A5 k6 A7 k8), sl .ro ku8 A3 k4 x1.b, sl .ro ks_block A5 k6 x1.blocks, sl .ro ku8 A7 k8 x1.filter]) (V := [(y0 b2), (y0 b2), (y3 b2), some (.slice A5 x1.blocks.length k6, true), (y0 b2), (y0 b2), (y3 b2), some (.slice A5 x1.blocks.length k6, true), some (.int .i64 (x1.blocks.length : Int), true), some (.int .i64 (wr .i64 ((x1.blocks.length : Int) - 1)), true), some (.pointer (some (eA A5 (Int.toNat (wr .i64 ((x1.blocks.length : Int) - 1)) * 5))), true), some (.pointer (some (eA A5 (Int.toNat (wr .i64 ((x1.blocks.length : Int) - 1)) * 5 + 4))), true), some ((y1 A2721 x1 k2722), true), none, none, none]) mixed T S rfl ?_
 refine stage (some 13) rfl rfl ⟨⟨_, _, rfl, (avl [0] rfl), fun _ _ _ T S => v1 T rfl fun T => ⟨rfl, T⟩⟩, ⟨_, _, rfl, (avl [3] rfl), fun _ _ _ T S => v1 T rfl fun T => ⟨rfl, T⟩⟩, ⟨_, _, rfl, (avl [4] rfl), fun _ _ _ T S => r_fa (o' := 1) T rfl tu69 rfl ts67 rfl rfl fun _ T => ⟨rfl, T⟩⟩, ⟨_, _, rfl, (avl [5] rfl), fun _ _ _ T S => lB (ix := 2) T S rfl ti67 rfl rfl rfl fun _ T => ⟨rfl, T⟩⟩, ⟨_, _, rfl, (avl [0] rfl), fun _ _ _ T S => v1 T rfl fun T => ⟨rfl, T⟩⟩, ⟨_, _, rfl, (avl [7] rfl), fun _ _ _ T S => v1 T rfl fun T => ⟨rfl, T⟩⟩, ⟨_, _, rfl, (avl [8] rfl), fun _ _ _ T S => r_fa (o' := 1) T rfl tu69 rfl ts67 rfl rfl fun _ T => ⟨rfl, T⟩⟩, ⟨_, _, rfl, (avl [9] rfl), fun _ _ _ T S => lB (ix := 2) T S rfl ti67 rfl rfl rfl fun _ T => ⟨rfl, T⟩⟩, ⟨_, _, rfl, (avl [10] rfl), fun _ _ _ T S => rn T rfl tu67 rfl fun _ T => ⟨rfl, T⟩⟩, ⟨_, _, rfl, (avl [11] rfl), fun _ _ _ T S => v1 T rfl fun T => ⟨rfl, T⟩⟩, ⟨_, _, rfl, (avl [6, 12] rfl), fun _ _ _ T S => r_ia (ix := 4) T S rfl rfl rfl rfl tu67 ts73 h2601.1 h2601.2 rfl fun _ T => ⟨rfl, T⟩⟩, ⟨_, _, rfl, (avl [13] rfl), fun _ _ _ T S => r_faE T rfl tu73 rfl ts24 rfl fun _ T => ⟨rfl, T⟩⟩, ⟨_, _, rfl, (avl [14] rfl), fun _ _ _ T S => r_ldC (ix := 1) (A := A5) T S rfl rfl rfl ti24 rfl fun _ T => ⟨rfl, T⟩⟩, trivial⟩ rfl (fun i hi => ?_) (fun h => by cases h)
 cases hi
 refine ⟨rfl, _, _, rfl, (avl [15] rfl), fun u a w T S => ?_⟩
 obtain ⟨x2782, h2781, H⟩ := bd H
 refine rc T tc32 rfl rfl (bytes_Clone.ok _ _ ((gi ds_block x1.blocks (wr .i64 ((x1.blocks.length : Int) - 1))).last) (S.sel (is := [0]) rfl) _ h2781) ?_
 rintro _ _ ⟨A2783, k2784, rfl, S⟩
 refine ⟨_, rfl, fun _ T => ?_⟩
 replace S := S.join
 refine ⟨_, [(y0 b2), (y0 b2), (y3 b2), some (.slice A5 x1.blocks.length k6, true), (y0 b2), (y0 b2), (y3 b2), some (.slice A5 x1.blocks.length k6, true), some (.int .i64 (x1.blocks.length : Int), true), some (.int .i64 (wr .i64 ((x1.blocks.length : Int) - 1)), true), some (.pointer (some (eA A5 (Int.toNat (wr .i64 ((x1.blocks.length : Int) - 1)) * 5))), true), some (.pointer (some (eA A5 (Int.toNat (wr .i64 ((x1.blocks.length : Int) - 1)) * 5 + 4))), true), some ((y1 A2721 x1 k2722), false), some (.slice A2783 x2782.length k2784, false), none, none], [sl .own ku8 A2783 k2784 x2782, sl .ro ku8 A2721 k2722 ((gi ds_block x1.blocks (wr .i64 ((x1.blocks.length : Int) - 1))).last), cl A5 (Int.toNat (wr .i64 ((x1.blocks.length : Int) - 1)) * 5 + 4) [(y1 A2721 x1 k2722)], (y2 b2 A3 x1 k4 A5 k6 A7 k8), sl .ro ku8 A3 k4 x1.b, sl .ro ks_block A5 k6 x1.blocks, sl .ro ku8 A7 k8 x1.filter], rfl, (by repeat first | exact kx0 | apply kxs | apply kxn), rfl, ?_, T, S⟩
 refine stage (some 14) rfl rfl ⟨⟨_, _, rfl, (avl [0] rfl), fun _ _ _ T S => v1 T rfl fun T => ⟨rfl, T⟩⟩, ⟨_, _, rfl, (avl [3] rfl), fun _ _ _ T S => v1 T rfl fun T => ⟨rfl, T⟩⟩, ⟨_, _, rfl, (avl [4] rfl), fun _ _ _ T S => r_fa (o' := 1) T rfl tu69 rfl ts67 rfl rfl fun _ T => ⟨rfl, T⟩⟩, ⟨_, _, rfl, (avl [5] rfl), fun _ _ _ T S => lB (ix := 3) T S rfl ti67 rfl rfl rfl fun _ T => ⟨rfl, T⟩⟩, ⟨_, _, rfl, (avl [0] rfl), fun _ _ _ T S => v1 T rfl fun T => ⟨rfl, T⟩⟩, ⟨_, _, rfl, (avl [7] rfl), fun _ _ _ T S => v1 T rfl fun T => ⟨rfl, T⟩⟩, ⟨_, _, rfl, (avl [8] rfl), fun _ _ _ T S => r_fa (o' := 1) T rfl tu69 rfl ts67 rfl rfl fun _ T => ⟨rfl, T⟩⟩, ⟨_, _, rfl, (avl [9] rfl), fun _ _ _ T S => lB (ix := 3) T S rfl ti67 rfl rfl rfl fun _ T => ⟨rfl, T⟩⟩, ⟨_, _, rfl, (avl [10] rfl), fun _ _ _ T S => rn T rfl tu67 rfl fun _ T => ⟨rfl, T⟩⟩, ⟨_, _, rfl, (avl [11] rfl), fun _ _ _ T S => v1 T rfl fun T => ⟨rfl, T⟩⟩, ⟨_, _, rfl, (avl [6, 12] rfl), fun _ _ _ T S => r_ia (ix := 5) T S rfl rfl rfl rfl tu67 ts73 h2601.1 h2601.2 rfl fun _ T => ⟨rfl, T⟩⟩, ⟨_, _, rfl, (avl [13] rfl), fun _ _ _ T S => r_faE T rfl tu73 rfl ts24 rfl fun _ T => ⟨rfl, T⟩⟩, trivial⟩ rfl (fun i hi => ?_) (fun h => by cases h)
 cases hi
 refine ⟨rfl, _, _, rfl, (avl [16] rfl), fun u a w T S => ?_⟩
 obtain ⟨x2842, h2841, H⟩ := bd H
 refine rc T tc31 rfl rfl (slices_Clip_byte.ok _ _ x2782 (S.sel (is := [0]) rfl) _ h2841) ?_
 rintro _ _ ⟨A2843, rfl, S⟩
 refine ⟨_, rfl, fun _ T => ?_⟩
 replace S := S.join
 refine ⟨_, [(y0 b2), (y0 b2), (y3 b2), some (.slice A5 x1.blocks.length k6, true), (y0 b2), (y0 b2), (y3 b2), some (.slice A5 x1.blocks.length k6, true), some (.int .i64 (x1.blocks.length : Int), true), some (.int .i64 (wr .i64 ((x1.blocks.length : Int) - 1)), true), some (.pointer (some (eA A5 (Int.toNat (wr .i64 ((x1.blocks.length : Int) - 1)) * 5))), true), some (.pointer (some (eA A5 (Int.toNat (wr .i64 ((x1.blocks.length : Int) - 1)) * 5 + 4))), true), some ((y1 A2721 x1 k2722), false), some (.slice A2783 x2782.length k2784, false), some (.slice A2843 x2842.length x2842.length, false), some (.slice A2843 x2842.length x2842.length, true)], [sl .own ku8 A2843 x2842.length x2842, sl .ro ku8 A2721 k2722 ((gi ds_block x1.blocks (wr .i64 ((x1.blocks.length : Int) - 1))).last), cl A5 (Int.toNat (wr .i64 ((x1.blocks.length : Int) - 1)) * 5 + 4) [(y1 A2721 x1 k2722)], (y2 b2 A3 x1 k4 A5 k6 A7 k8), sl .ro ku8 A3 k4 x1.b, sl .ro ks_block A5 k6 x1.blocks, sl .ro ku8 A7 k8 x1.filter], rfl, (by repeat first | exact kx0 | apply kxs | apply kxn), rfl, ?_, T, S⟩
 refine stage none rfl rfl ⟨⟨_, _, rfl, (avl [0] rfl), fun _ _ _ T S => v1 T rfl fun T => ⟨rfl, T⟩⟩, ⟨_, _, rfl, (avl [3] rfl), fun _ _ _ T S => v1 T rfl fun T => ⟨rfl, T⟩⟩, ⟨_, _, rfl, (avl [4] rfl), fun _ _ _ T S => r_fa (o' := 1) T rfl tu69 rfl ts67 rfl rfl fun _ T => ⟨rfl, T⟩⟩, ⟨_, _, rfl, (avl [5] rfl), fun _ _ _ T S => lB (ix := 3) T S rfl ti67 rfl rfl rfl fun _ T => ⟨rfl, T⟩⟩, ⟨_, _, rfl, (avl [0] rfl), fun _ _ _ T S => v1 T rfl fun T => ⟨rfl, T⟩⟩, ⟨_, _, rfl, (avl [7] rfl), fun _ _ _ T S => v1 T rfl fun T => ⟨rfl, T⟩⟩, ⟨_, _, rfl, (avl [8] rfl), fun _ _ _ T S => r_fa (o' := 1) T rfl tu69 rfl ts67 rfl rfl fun _ T => ⟨rfl, T⟩⟩, ⟨_, _, rfl, (avl [9] rfl), fun _ _ _ T S => lB (ix := 3) T S rfl ti67 rfl rfl rfl fun _ T => ⟨rfl, T⟩⟩, ⟨_, _, rfl, (avl [10] rfl), fun _ _ _ T S => rn T rfl tu67 rfl fun _ T => ⟨rfl, T⟩⟩, ⟨_, _, rfl, (avl [11] rfl), fun _ _ _ T S => v1 T rfl fun T => ⟨rfl, T⟩⟩, ⟨_, _, rfl, (avl [6, 12] rfl), fun _ _ _ T S => r_ia (ix := 5) T S rfl rfl rfl rfl tu67 ts73 h2601.1 h2601.2 rfl fun _ T => ⟨rfl, T⟩⟩, ⟨_, _, rfl, (avl [13] rfl), fun _ _ _ T S => r_faE T rfl tu73 rfl ts24 rfl fun _ T => ⟨rfl, T⟩⟩, ⟨_, _, rfl, (avl [17] rfl), fun _ _ _ T S => v1 T rfl fun T => ⟨rfl, T⟩⟩, trivial⟩ rfl (fun i hi => by cases hi) (fun _ _ a w T hv hb S => ?_)
 replace T := T.sub (r := [(2, .slice A2843 x2842.length x2842.length)]) ⟨hv 15 _ 2 rfl rfl rfl, trivial⟩
 obtain rfl := sj H
 exact rtn T Try.func16 rfl rfl ⟨A2843, x2842.length, A3, k4, A5, k6, A7, k8, rfl, (S.only [0, 2, 2, 2, 2] rfl)⟩
end s_Table_Last
namespace s_Table_Get
noncomputable def c0 : Code := match Try.f11.body with | some c => c | none => .skip
def R (F : List Atom) (b2 : Nat) (x9 : List Int) (A10 : OA) (k11 : Nat) (r : aE × Bool × s_Table) : Ending → World → Prop := fun e w' => ∃ (A107 : OA), ∃ (k108 : Nat), ∃ (A109 : OA), ∃ (k110 : Nat), ∃ (A112 : OA), ∃ (k113 : Nat), ∃ (A114 : OA), ∃ (k115 : Nat), ∃ (A116 : OA), ∃ (k117 : Nat), e = .returned (.tuple #[.agg #[.slice A107 r.1.Key.length k108, .int .u64 r.1.Seq, .bool r.1.Del, .slice A109 r.1.Value.length k110], .bool r.2.1]) ∧ SL ([sl .ro ku8 A107 k108 r.1.Key, sl .ro ku8 A109 k110 r.1.Value, blk b2 [.slice A112 r.2.2.b.length k113, .slice A114 r.2.2.blocks.length k115, .slice A116 r.2.2.filter.length k117, .int .i64 r.2.2.count, .int .i64 r.2.2.reads], sl .ro ku8 A112 k113 r.2.2.b, sl .ro ks_block A114 k115 r.2.2.blocks, sl .ro ku8 A116 k117 r.2.2.filter, sl .ro ku8 A10 k11 x9] ++ F) w'
def J3 (z : Nat) (q1 : Int → (List Int) → (List s_block) → (List Int) → Int → Int → Option (aE × Bool × s_Table)) (q2 : Int → Option (aE × Bool × s_Table)) (x9 : List Int) (x12 x76 : Int) (x79 : (List aE) × s_Table) (x89 : Int) : Option (aE × Bool × s_Table) := q2 (wr .i64 (x89 + 1))
def L2 (z : Nat) (q1 : Int → (List Int) → (List s_block) → (List Int) → Int → Int → Option (aE × Bool × s_Table)) (x9 : List Int) (x12 x76 : Int) (x79 : (List aE) × s_Table) : Nat → Int → Option (aE × Bool × s_Table)
 | 0, _ => none
 | m + 1, x89 => If (decide (x89 < (x79.1.length : Int))) (Ck (0 ≤ x89 ∧ x89 < (x79.1.length : Int)) (Bd (bytes_Equal.f ((gi daE x79.1 x89).Key) x9) fun x104 => If x104 (If (decide (((gi daE x79.1 x89).Seq) ≤ x12)) (some ((gi daE x79.1 x89), true, x79.2)) (J3 z q1 (L2 z q1 x9 x12 x76 x79 m) x9 x12 x76 x79 x89)) (J3 z q1 (L2 z q1 x9 x12 x76 x79 m) x9 x12 x76 x79 x89))) (Ck (0 ≤ x76 ∧ x76 < (x79.2.blocks.length : Int)) (Bd (bytes_Equal.f ((gi ds_block x79.2.blocks x76).last) x9) fun x95 => If (!x95) (some ((aE.mk ([] : List Int) 0 false ([] : List Int)), false, x79.2)) (q1 (wr .i64 (x76 + 1)) x79.2.b x79.2.blocks x79.2.filter x79.2.count x79.2.reads)))
def L1 (z : Nat) (x9 : List Int) (x12 : Int) : Nat → Int → (List Int) → (List s_block) → (List Int) → Int → Int → Option (aE × Bool × s_Table)
 | 0, _, _, _, _, _, _ => none
 | m + 1, x76, x65, x68, x71, x74, x75 => If (decide (x76 < (x68.length : Int))) (Bd (s_Table_look.f z (s_Table.mk x65 x68 x71 x74 x75) x76) fun x79 => L2 z (L1 z x9 x12 m) x9 x12 x76 x79 z 0) (some ((aE.mk ([] : List Int) 0 false ([] : List Int)), false, (s_Table.mk x65 x68 x71 x74 x75)))
def J0 (z : Nat) (x45 : List Int) (x48 : List s_block) (x51 : List Int) (x54 x55 : Int) : Option (aE × Bool × s_Table) := some ((aE.mk ([] : List Int) 0 false ([] : List Int)), false, (s_Table.mk x45 x48 x51 x54 x55))
def f (z : Nat) (x1 : s_Table) (x9 : List Int) (x12 : Int) : Option (aE × Bool × s_Table) := Bd (s_Table_First.f x1) fun x15 => Bd (c_Compare.f x9 x15.1) fun x26 => If (decide (x26 < 0)) (J0 z x15.2.b x15.2.blocks x15.2.filter x15.2.count x15.2.reads) (Bd (s_Table_Last.f x15.2) fun x29 => Bd (c_Compare.f x9 x29.1) fun x40 => If (decide (x40 > 0)) (J0 z x29.2.b x29.2.blocks x29.2.filter x29.2.count x29.2.reads) (Bd (b_May.f z x29.2.filter x9) fun x43 => If (!x43) (J0 z x29.2.b x29.2.blocks x29.2.filter x29.2.count x29.2.reads) (Bd (s_Table_find.f z x29.2 x9) fun x57 => L1 z x9 x12 z x57.1 x57.2.b x57.2.blocks x57.2.filter x57.2.count x57.2.reads)))
noncomputable def ptJ3 : List Item := [.code (cr 3 (cB (cB (cR (cL (cB (cL (cR (cB (cB (cR (cL (cR (cR c0)))))))))))))), .inLoop (cB (cB (cR (cL (cB (cL (cR (cB (cB (cR (cL (cR (cR c0))))))))))))), .inBlock 2, .code (cR (cB (cL (cR (cB (cB (cR (cL (cR (cR c0)))))))))), .inBlock 1, .code (cR (cR (cB (cB (cR (cL (cR (cR c0)))))))), .inLoop (cB (cB (cR (cL (cR (cR c0)))))), .inBlock 0, .code (cr 3 c0)]
noncomputable def ptL2 : List Item := [.code (cB (cB (cR (cL (cB (cL (cR (cB (cB (cR (cL (cR (cR c0))))))))))))), .inLoop (cB (cB (cR (cL (cB (cL (cR (cB (cB (cR (cL (cR (cR c0))))))))))))), .inBlock 2, .code (cR (cB (cL (cR (cB (cB (cR (cL (cR (cR c0)))))))))), .inBlock 1, .code (cR (cR (cB (cB (cR (cL (cR (cR c0)))))))), .inLoop (cB (cB (cR (cL (cR (cR c0)))))), .inBlock 0, .code (cr 3 c0)]
noncomputable def ptL1 : List Item := [.code (cB (cB (cR (cL (cR (cR c0)))))), .inLoop (cB (cB (cR (cL (cR (cR c0)))))), .inBlock 0, .code (cr 3 c0)]
noncomputable def ptJ0 : List Item := [.code (cL (cT (cR (cL (cR c0))))), .code (cR (cT (cR (cL (cR c0))))), .code (cR (cR c0))]
abbrev y0 : List Value := [.slice none 0 0, .int .u64 0, .bool false, .slice none 0 0]
abbrev y1 (b2 : Nat) (A83 : OA) (x79 : (List aE) × s_Table) (k84 : Nat) (A85 : OA) (k86 : Nat) (A87 : OA) (k88 : Nat) (A10 : OA) (k11 : Nat) (x9 : List Int) (b13 : Nat) (A80 : OA) (k81 : Nat) : List Atom := [blk b2 [.slice A83 x79.2.b.length k84, .slice A85 x79.2.blocks.length k86, .slice A87 x79.2.filter.length k88, .int .i64 x79.2.count, .int .i64 x79.2.reads], sl .ro ku8 A83 k84 x79.2.b, sl .ro ks_block A85 k86 x79.2.blocks, sl .ro ku8 A87 k88 x79.2.filter, sl .ro ku8 A10 k11 x9, blk b13 (y0), sl .own kaE A80 k81 x79.1]
abbrev y2 (A98 : OA) (x79 : (List aE) × s_Table) (x89 : Int) (k99 : Nat) (A100 : OA) (k101 : Nat) : List Value := [.slice A98 (((gi daE x79.1 x89).Key).length) k99, .int .u64 ((gi daE x79.1 x89).Seq), .bool ((gi daE x79.1 x89).Del), .slice A100 (((gi daE x79.1 x89).Value).length) k101]
abbrev y3 (b2 : Nat) : Value := .pointer (some ⟨b2, 0, none⟩)
abbrev y4 (b13 : Nat) : Nat × Value := (6, .pointer (some ⟨b13, 0, none⟩))
theorem J3_ok (F : List Atom) (r : aE × Bool × s_Table) (z b2 : Nat) (x9 : List Int) (A10 : OA) (k11 : Nat) (x12 : Int) (b13 : Nat) (x76 : Int) (A80 : OA) (x79 : (List aE) × s_Table) (k81 : Nat) (x89 : Int) (A83 : OA) (k84 : Nat) (A85 : OA) (k86 : Nat) (A87 : OA) (k88 : Nat) (q1 : Int → (List Int) → (List s_block) → (List Int) → Int → Int → Option (aE × Bool × s_Table)) (hq1 : ∀ (x76 : Int) (A66 : OA) (x65 : List Int) (k67 : Nat) (A69 : OA) (x68 : List s_block) (k70 : Nat) (A72 : OA) (x71 : List Int) (k73 : Nat) (x74 x75 : Int) (a : Act) (w : World), Tm 77 [(0, (y3 b2)), (1, .slice A10 x9.length k11), (2, .int .u64 x12), (y4 b13), (8, .int .i64 x76)] a → SL ([blk b2 [.slice A66 x65.length k67, .slice A69 x68.length k70, .slice A72 x71.length k73, .int .i64 x74, .int .i64 x75], sl .ro ku8 A66 k67 x65, sl .ro ks_block A69 k70 x68, sl .ro ku8 A72 k73 x71, sl .ro ku8 A10 k11 x9, blk b13 (y0)] ++ F) w → q1 x76 x65 x68 x71 x74 x75 = some r → Gets Try.prog 11 ptL1 a w (R F b2 x9 A10 k11 r)) (q2 : Int → Option (aE × Bool × s_Table)) (hq2 : ∀ (x89 : Int) (a : Act) (w : World), Tm 77 [(0, (y3 b2)), (1, .slice A10 x9.length k11), (2, .int .u64 x12), (y4 b13), (8, .int .i64 x76), (47, .slice A80 x79.1.length k81), (48, .int .i64 (x79.1.length : Int)), (49, .int .i64 x89)] a → SL ((y1 b2 A83 x79 k84 A85 k86 A87 k88 A10 k11 x9 b13 A80 k81) ++ F) w → q2 x89 = some r → Gets Try.prog 11 ptL2 a w (R F b2 x9 A10 k11 r)) (a : Act) (w : World) (T : Tm 77 [(0, (y3 b2)), (1, .slice A10 x9.length k11), (2, .int .u64 x12), (y4 b13), (8, .int .i64 x76), (47, .slice A80 x79.1.length k81), (48, .int .i64 (x79.1.length : Int)), (49, .int .i64 x89)] a) (S : SL ((y1 b2 A83 x79 k84 A85 k86 A87 k88 A10 k11 x9 b13 A80 k81) ++ F) w) (H : J3 z q1 q2 x9 x12 x76 x79 x89 = some r) : Gets Try.prog 11 ptJ3 a w (R F b2 x9 A10 k11 r) := by
 refine rg (v2 T rfl rfl fun T => Gets.inLoop ?_)
 exact hq2 (wr .i64 (x89 + 1)) _ _ (T.sb rfl) (S.only [0, 0, 0, 0, 0, 0, 0] rfl) H
theorem L2_ok (F : List Atom) (r : aE × Bool × s_Table) (z b2 : Nat) (x9 : List Int) (A10 : OA) (k11 : Nat) (x12 : Int) (b13 : Nat) (x76 : Int) (A80 : OA) (x79 : (List aE) × s_Table) (k81 : Nat) (A83 : OA) (k84 : Nat) (A85 : OA) (k86 : Nat) (A87 : OA) (k88 : Nat) (q1 : Int → (List Int) → (List s_block) → (List Int) → Int → Int → Option (aE × Bool × s_Table)) (hq1 : ∀ (x76 : Int) (A66 : OA) (x65 : List Int) (k67 : Nat) (A69 : OA) (x68 : List s_block) (k70 : Nat) (A72 : OA) (x71 : List Int) (k73 : Nat) (x74 x75 : Int) (a : Act) (w : World), Tm 77 [(0, (y3 b2)), (1, .slice A10 x9.length k11), (2, .int .u64 x12), (y4 b13), (8, .int .i64 x76)] a → SL ([blk b2 [.slice A66 x65.length k67, .slice A69 x68.length k70, .slice A72 x71.length k73, .int .i64 x74, .int .i64 x75], sl .ro ku8 A66 k67 x65, sl .ro ks_block A69 k70 x68, sl .ro ku8 A72 k73 x71, sl .ro ku8 A10 k11 x9, blk b13 (y0)] ++ F) w → q1 x76 x65 x68 x71 x74 x75 = some r → Gets Try.prog 11 ptL1 a w (R F b2 x9 A10 k11 r)) (m : Nat) : ∀ (x89 : Int) (a : Act) (w : World), Tm 77 [(0, (y3 b2)), (1, .slice A10 x9.length k11), (2, .int .u64 x12), (y4 b13), (8, .int .i64 x76), (47, .slice A80 x79.1.length k81), (48, .int .i64 (x79.1.length : Int)), (49, .int .i64 x89)] a → SL ((y1 b2 A83 x79 k84 A85 k86 A87 k88 A10 k11 x9 b13 A80 k81) ++ F) w → L2 z q1 x9 x12 x76 x79 m x89 = some r → Gets Try.prog 11 ptL2 a w (R F b2 x9 A10 k11 r) := by
 induction m with
 | zero => intro _ _ _ _ _ H; cases H
 | succ m ih =>
  intro x89 a w T S H
  refine sq (rg (v1 T rfl fun T => sq ?_))
  rcases ifE H with ⟨h90, H⟩ | ⟨h90, H⟩
  ·refine cdT T rfl h90 (sk (sq (bq (sq (rg ?_)))))
   obtain ⟨h97, H⟩ := ck H
   refine r_ia (ix := 6) T S rfl rfl rfl rfl tu22 ts36 h97.1 h97.2 rfl fun _ T => r_ldEA (ix := 6) (i := x89) (off := 0) T S rfl rfl ti36 ts36 daE rfl (Fld.all _) h97.1 h97.2 rfl fun _ _ S T => ?_
   obtain ⟨A98, k99, A100, k101, hv_, S_⟩ := op_aE S
   subst hv_
   replace S := S_
   refine r_alloc T S zv36 (cs := (y0)) rfl rfl fun _ _ b102 S T => r_stBA (ix := 0) (vs := (y2 A98 x79 x89 k99 A100 k101)) T S rfl rfl rfl rfl (by simp) ts36 (nle rfl) rfl fun _ S => ?_
   refine sq (rg (r_fa (o' := 0) T rfl tu36 rfl ts24 rfl rfl fun _ T => lB (ix := 0) T S rfl ti24 rfl rfl rfl fun _ T => v1 T rfl fun T => ?_))
   replace S := S.dup (i := 7) rfl
   obtain ⟨x104, h103, H⟩ := bd H
   refine rc T tc28 rfl rfl (bytes_Equal.ok _ _ ((gi daE x79.1 x89).Key) x9 (S.sel (is := [2, 0]) rfl) _ h103) ?_
   rintro _ _ ⟨rfl, S⟩
   refine ⟨_, rfl, fun _ T => ?_⟩
   replace S := S.join.only [0, 1, 1, 1, 1, 1, 1, 1, 1, 1] rfl
   refine v1 T rfl fun T => ?_
   rcases ifE H with ⟨h105, H⟩ | ⟨h105, H⟩
   ·refine gy T rfl h105 (r_fa (o' := 1) T rfl tu36 rfl ts34 rfl rfl fun _ T => gy T rfl h105 (lB (ix := 1) T S rfl ti34 rfl rfl rfl fun _ T => gy T rfl h105 (v1 T rfl fun T => gy T rfl h105 (v1 T rfl fun T => pT T rfl h105 rfl rfl fun _ T => ?_))))
    rcases ifE H with ⟨h106, H⟩ | ⟨h106, H⟩
    ·refine cdT T rfl h106 ?_
     refine sq (rg (r_ldBA (ix := 1) (ds := (y2 A98 x79 x89 k99 A100 k101)) T S rfl ti36 rfl rfl ts36 rfl fun _ T => r_stBA (ix := 8) (vs := (y2 A98 x79 x89 k99 A100 k101)) T S rfl rfl rfl rfl (by simp) ts36 (nle rfl) rfl fun _ S => ?_))
     refine v1 T rfl fun T => ?_
     obtain rfl := sj H
     exact rtnM T S tf11 rfl ⟨_, _, rfl, ⟨b13, _, 8, rfl, rfl, .inl ⟨ti36, ts36, rfl⟩⟩, ⟨_, _, rfl, rfl, rfl⟩⟩ ⟨A98, k99, A100, k101, A83, k84, A85, k86, A87, k88, rfl, (S.only [0, 1, 1, 1, 1, 1, 1] rfl)⟩
    ·refine cdF T rfl h106 (sk (Gets.inBlock ?_))
     exact J3_ok F r z b2 x9 A10 k11 x12 b13 x76 A80 x79 k81 x89 A83 k84 A85 k86 A87 k88 q1 hq1 (L2 z q1 x9 x12 x76 x79 m) ih _ _ (T.sb rfl) (S.only [3, 3, 3, 3, 3, 3, 3] rfl) H
   ·refine gn T rfl h105 fun T => gn T rfl h105 fun T => gn T rfl h105 fun T => gn T rfl h105 fun T => pF T rfl h105 rfl rfl fun _ T => cdF T rfl rfl (sk (Gets.inBlock ?_))
    exact J3_ok F r z b2 x9 A10 k11 x12 b13 x76 A80 x79 k81 x89 A83 k84 A85 k86 A87 k88 q1 hq1 (L2 z q1 x9 x12 x76 x79 m) ih _ _ (T.sb rfl) (S.only [3, 3, 3, 3, 3, 3, 3] rfl) H
  ·refine cdF T rfl h90 (Gets.exit rfl (sq (rg (v2 T rfl rfl fun T => r_fa (o' := 1) T rfl tu69 rfl ts67 rfl rfl fun _ T => lB (ix := 0) T S rfl ti67 rfl rfl rfl fun _ T => v1 T rfl fun T => ?_))))
   obtain ⟨h91, H⟩ := ck H
   refine r_ia (ix := 2) T S rfl rfl rfl rfl tu67 ts73 h91.1 h91.2 rfl fun _ T => r_faE T rfl tu73 rfl ts24 rfl fun _ T => r_ldR (ix := 2) (i := x76) (off := 4) T S rfl ti24 rfl ds_block _ rfl rfl fld_s_block_last h91.1 h91.2 rfl rfl fun _ _ S T => ?_
   obtain ⟨A92, k93, hv_, S_⟩ := S.ofVal
   subst hv_
   replace S := S_
   refine v1 T rfl fun T => ?_
   replace S := S.dup (i := 5) rfl
   obtain ⟨x95, h94, H⟩ := bd H
   refine rc T tc28 rfl rfl (bytes_Equal.ok _ _ ((gi ds_block x79.2.blocks x76).last) x9 (S.sel (is := [1, 0]) rfl) _ h94) ?_
   rintro _ _ ⟨rfl, S⟩
   refine ⟨_, rfl, fun _ T => ?_⟩
   replace S := S.join.only [0, 1, 1, 1, 1, 1, 1, 1] rfl
   refine v1 T rfl fun T => ?_
   rcases ifE H with ⟨h96, H⟩ | ⟨h96, H⟩
   ·refine cdT T rfl h96 (Gets.exit rfl (sq ?_))
    refine rg (r_build (cs := #[.slice none 0 0, .int .u64 0, .bool false, .slice none 0 0]) T stt36 rfl rfl rfl fun _ T => r_stBA (ix := 6) (vs := (y0)) T S rfl rfl rfl rfl (by simp) ts36 (nle rfl) rfl fun _ S => ?_)
    refine v1 T rfl fun T => ?_
    replace S := S.nil ku8 .ro
    replace S := S.nil ku8 .ro
    obtain rfl := sj H
    exact rtnM T S tf11 rfl ⟨_, _, rfl, ⟨b13, _, 8, rfl, rfl, .inl ⟨ti36, ts36, rfl⟩⟩, ⟨_, _, rfl, rfl, rfl⟩⟩ ⟨none, 0, none, 0, A83, k84, A85, k86, A87, k88, rfl, (S.only [1, 0, 1, 1, 1, 1, 1] rfl)⟩
   ·refine cdF T rfl h96 (sk (Gets.inBlock (rg (v3 T rfl rfl rfl fun T => Gets.inLoop ?_))))
    exact hq1 (wr .i64 (x76 + 1)) A83 x79.2.b k84 A85 x79.2.blocks k86 A87 x79.2.filter k88 x79.2.count x79.2.reads _ _ (T.sb rfl) (S.only [1, 1, 1, 1, 1, 1] rfl) H
theorem L1_ok (F : List Atom) (r : aE × Bool × s_Table) (z b2 : Nat) (x9 : List Int) (A10 : OA) (k11 : Nat) (x12 : Int) (b13 m : Nat) : ∀ (x76 : Int) (A66 : OA) (x65 : List Int) (k67 : Nat) (A69 : OA) (x68 : List s_block) (k70 : Nat) (A72 : OA) (x71 : List Int) (k73 : Nat) (x74 x75 : Int) (a : Act) (w : World), Tm 77 [(0, (y3 b2)), (1, .slice A10 x9.length k11), (2, .int .u64 x12), (y4 b13), (8, .int .i64 x76)] a → SL ([blk b2 [.slice A66 x65.length k67, .slice A69 x68.length k70, .slice A72 x71.length k73, .int .i64 x74, .int .i64 x75], sl .ro ku8 A66 k67 x65, sl .ro ks_block A69 k70 x68, sl .ro ku8 A72 k73 x71, sl .ro ku8 A10 k11 x9, blk b13 (y0)] ++ F) w → L1 z x9 x12 m x76 x65 x68 x71 x74 x75 = some r → Gets Try.prog 11 ptL1 a w (R F b2 x9 A10 k11 r) := by
 induction m with
 | zero => intro _ _ _ _ _ _ _ _ _ _ _ _ _ _ _ _ H; cases H
 | succ m ih =>
  intro x76 A66 x65 k67 A69 x68 k70 A72 x71 k73 x74 x75 a w T S H
  refine sq (sq (rg (v3 T rfl rfl rfl fun T => r_fa (o' := 1) T rfl tu69 rfl ts67 rfl rfl fun _ T => lB (ix := 0) T S rfl ti67 rfl rfl rfl fun _ T => rn T rfl tu67 rfl fun _ T => v1 T rfl fun T => ?_)))
  rcases ifE H with ⟨h77, H⟩ | ⟨h77, H⟩
  ·refine cdT T rfl h77 (sk (sq (bq (sq (sq (rg (v2 T rfl rfl fun T => ?_)))))))
   obtain ⟨x79, h78, H⟩ := bd H
   refine rc T Try.call41 rfl rfl (s_Table_look.ok _ _ z (s_Table.mk x65 x68 x71 x74 x75) x76 (S.sel (is := [0, 0, 0, 0]) rfl) _ h78) ?_
   rintro _ _ ⟨A80, k81, A83, k84, A85, k86, A87, k88, rfl, S⟩
   refine ⟨_, rfl, fun _ T => ?_⟩
   replace S := S.join
   refine rn T rfl tu22 rfl fun _ T => v1 T rfl fun T => bq (Gets.loop ?_)
   exact L2_ok F r z b2 x9 A10 k11 x12 b13 x76 A80 x79 k81 A83 k84 A85 k86 A87 k88 (L1 z x9 x12 m) ih z 0 _ _ (T.sb rfl) (S.only [1, 1, 1, 1, 1, 1, 0] rfl) H
  ·refine cdF T rfl h77 (Gets.exit rfl (sq ?_))
   refine rg (r_build (cs := #[.slice none 0 0, .int .u64 0, .bool false, .slice none 0 0]) T stt36 rfl rfl rfl fun _ T => r_stBA (ix := 5) (vs := (y0)) T S rfl rfl rfl rfl (by simp) ts36 (nle rfl) rfl fun _ S => ?_)
   refine v1 T rfl fun T => ?_
   replace S := S.nil ku8 .ro
   replace S := S.nil ku8 .ro
   obtain rfl := sj H
   exact rtnM T S tf11 rfl ⟨_, _, rfl, ⟨b13, _, 7, rfl, rfl, .inl ⟨ti36, ts36, rfl⟩⟩, ⟨_, _, rfl, rfl, rfl⟩⟩ ⟨none, 0, none, 0, A66, k67, A69, k70, A72, k73, rfl, (S.only [1, 0, 0, 0, 0, 0, 0] rfl)⟩
theorem J0_ok (F : List Atom) (r : aE × Bool × s_Table) (z b2 : Nat) (x9 : List Int) (A10 : OA) (k11 b13 : Nat) (x12 : Int) (A46 : OA) (x45 : List Int) (k47 : Nat) (A49 : OA) (x48 : List s_block) (k50 : Nat) (A52 : OA) (x51 : List Int) (k53 : Nat) (x54 x55 : Int) (a : Act) (w : World) (T : Tm 77 [(y4 b13)] a) (S : SL ([blk b2 [.slice A46 x45.length k47, .slice A49 x48.length k50, .slice A52 x51.length k53, .int .i64 x54, .int .i64 x55], sl .ro ku8 A46 k47 x45, sl .ro ks_block A49 k50 x48, sl .ro ku8 A52 k53 x51, sl .ro ku8 A10 k11 x9, blk b13 (y0)] ++ F) w) (H : J0 z x45 x48 x51 x54 x55 = some r) : Gets Try.prog 11 ptJ0 a w (R F b2 x9 A10 k11 r) := by
 refine rg (r_build (cs := #[.slice none 0 0, .int .u64 0, .bool false, .slice none 0 0]) T stt36 rfl rfl rfl fun _ T => r_stBA (ix := 5) (vs := (y0)) T S rfl rfl rfl rfl (by simp) ts36 (nle rfl) rfl fun _ S => ?_)
 refine v1 T rfl fun T => ?_
 replace S := S.nil ku8 .ro
 replace S := S.nil ku8 .ro
 obtain rfl := sj H
 exact rtnM T S tf11 rfl ⟨_, _, rfl, ⟨b13, _, 7, rfl, rfl, .inl ⟨ti36, ts36, rfl⟩⟩, ⟨_, _, rfl, rfl, rfl⟩⟩ ⟨none, 0, none, 0, A46, k47, A49, k50, A52, k53, rfl, (S.only [1, 0, 0, 0, 0, 0, 0] rfl)⟩
theorem ok (F : List Atom) (w : World) (z : Nat) (x1 : s_Table) (x9 : List Int) (x12 : Int) {b2 : Nat} {A3 : OA} {k4 : Nat} {A5 : OA} {k6 : Nat} {A7 : OA} {k8 : Nat} {A10 : OA} {k11 : Nat} (S : SL ([blk b2 [.slice A3 x1.b.length k4, .slice A5 x1.blocks.length k6, .slice A7 x1.filter.length k8, .int .i64 x1.count, .int .i64 x1.reads], sl .ro ku8 A3 k4 x1.b, sl .ro ks_block A5 k6 x1.blocks, sl .ro ku8 A7 k8 x1.filter, sl .ro ku8 A10 k11 x9] ++ F) w) (r : aE × Bool × s_Table) (H : f z x1 x9 x12 = some r) : Calls Try.prog 11 #[(y3 b2), .slice A10 x9.length k11, .int .u64 x12] w (R F b2 x9 A10 k11 r) := by
 refine enter (vs := [(y3 b2), .slice A10 x9.length k11, .int .u64 x12]) tf11 rfl Try.ntmps11 (nle rfl) fun a T => ?_
 refine sq (rg (r_alloc T S zv36 (cs := (y0)) rfl rfl fun _ _ b13 S T => v1 T rfl fun T => sq (sq (rg (v2 T rfl rfl fun T => ?_)))))
 obtain ⟨x15, h14, H⟩ := bd H
 refine rc T Try.call15 rfl rfl (s_Table_First.ok _ _ x1 (S.sel (is := [1, 1, 1, 1]) rfl) _ h14) ?_
 rintro _ _ ⟨A16, k17, A19, k20, A21, k22, A23, k24, rfl, S⟩
 refine ⟨_, rfl, fun _ T => ?_⟩
 replace S := S.join
 replace S := S.dup (i := 6) rfl
 obtain ⟨x26, h25, H⟩ := bd H
 refine rc T tc38 rfl rfl (c_Compare.ok _ _ x9 x15.1 (S.sel (is := [0, 0]) rfl) _ h25) ?_
 rintro _ _ ⟨rfl, S⟩
 refine ⟨_, rfl, fun _ T => ?_⟩
 replace S := S.join.only [1, 1, 1, 1, 1, 1, 1] rfl
 refine v2 T rfl rfl fun T => ?_
 rcases ifE H with ⟨h27, H⟩ | ⟨h27, H⟩
 ·refine gn T rfl h27 fun T => gn T rfl h27 fun T => gn T rfl h27 fun T => gn T rfl h27 fun T => gn T rfl h27 fun T => pT T rfl h27 rfl rfl fun _ T => v1 T rfl fun T => gn T rfl rfl fun T => gn T rfl rfl fun T => gn T rfl rfl fun T => gn T rfl rfl fun T => gn T rfl rfl fun T => gn T rfl rfl fun T => gn T rfl rfl fun T => pT T rfl rfl rfl rfl fun _ T => cdT T rfl rfl (sq ?_)
  exact J0_ok F r z b2 x9 A10 k11 b13 x12 A19 x15.2.b k20 A21 x15.2.blocks k22 A23 x15.2.filter k24 x15.2.count x15.2.reads _ _ (T.sb rfl) (S.only [1, 1, 1, 1, 2, 1] rfl) H
 ·refine gy T rfl h27 (v1 T rfl fun T => gy T rfl h27 (v1 T rfl fun T => gy T rfl h27 ?_))
  obtain ⟨x29, h28, H⟩ := bd H
  refine rc T Try.call16 rfl rfl (s_Table_Last.ok _ _ x15.2 (S.sel (is := [1, 1, 1, 1]) rfl) _ h28) ?_
  rintro _ _ ⟨A30, k31, A33, k34, A35, k36, A37, k38, rfl, S⟩
  refine ⟨_, rfl, fun _ T => ?_⟩
  replace S := S.join
  refine gy T rfl h27 ?_
  replace S := S.dup (i := 7) rfl
  obtain ⟨x40, h39, H⟩ := bd H
  refine rc T tc38 rfl rfl (c_Compare.ok _ _ x9 x29.1 (S.sel (is := [0, 0]) rfl) _ h39) ?_
  rintro _ _ ⟨rfl, S⟩
  refine ⟨_, rfl, fun _ T => ?_⟩
  replace S := S.join.only [1, 1, 1, 1, 1, 1, 1, 1] rfl
  refine gy T rfl h27 (v1 T rfl fun T => pF T rfl h27 rfl rfl fun _ T => v1 T rfl fun T => ?_)
  rcases ifE H with ⟨h41, H⟩ | ⟨h41, H⟩
  ·refine gn T rfl h41 fun T => gn T rfl h41 fun T => gn T rfl h41 fun T => gn T rfl h41 fun T => gn T rfl h41 fun T => gn T rfl h41 fun T => gn T rfl h41 fun T => pT T rfl h41 rfl rfl fun _ T => cdT T rfl rfl (sq ?_)
   exact J0_ok F r z b2 x9 A10 k11 b13 x12 A33 x29.2.b k34 A35 x29.2.blocks k36 A37 x29.2.filter k38 x29.2.count x29.2.reads _ _ (T.sb rfl) (S.only [1, 1, 1, 1, 3, 2] rfl) H
  ·refine gy T rfl h41 (v1 T rfl fun T => gy T rfl h41 (v1 T rfl fun T => gy T rfl h41 (r_fa (o' := 2) T rfl tu69 rfl ts24 rfl rfl fun _ T => gy T rfl h41 (lB (ix := 1) T S rfl ti24 rfl rfl rfl fun _ T => gy T rfl h41 (v1 T rfl fun T => gy T rfl h41 ?_)))))
   replace S := S.dup (i := 7) rfl
   obtain ⟨x43, h42, H⟩ := bd H
   refine rc T Try.call39 rfl rfl (b_May.ok _ _ z x29.2.filter x9 (S.sel (is := [5, 0]) rfl) _ h42) ?_
   rintro _ _ ⟨rfl, S⟩
   refine ⟨_, rfl, fun _ T => ?_⟩
   replace S := S.join.only [0, 1, 1, 1, 1, 1, 1, 1] rfl
   refine gy T rfl h41 (v1 T rfl fun T => pF T rfl h41 rfl rfl fun _ T => ?_)
   rcases ifE H with ⟨h44, H⟩ | ⟨h44, H⟩
   ·refine cdT T rfl h44 (sq ?_)
    exact J0_ok F r z b2 x9 A10 k11 b13 x12 A33 x29.2.b k34 A35 x29.2.blocks k36 A37 x29.2.filter k38 x29.2.count x29.2.reads _ _ (T.sb rfl) (S.only [2, 2, 2, 0, 3, 2] rfl) H
   ·refine cdF T rfl h44 (sk (sq (sq (rg (v2 T rfl rfl fun T => ?_)))))
    replace S := S.dup (i := 7) rfl
    obtain ⟨x57, h56, H⟩ := bd H
    refine rc T Try.call40 rfl rfl (s_Table_find.ok _ _ z x29.2 x9 (S.sel (is := [3, 3, 3, 1, 0]) rfl) _ h56) ?_
    rintro _ _ ⟨A59, k60, A61, k62, A63, k64, rfl, S⟩
    refine ⟨_, rfl, fun _ T => ?_⟩
    replace S := S.join.only [0, 0, 0, 0, 1, 1, 1, 1] rfl
    refine v1 T rfl fun T => bq (Gets.loop ?_)
    exact L1_ok F r z b2 x9 A10 k11 x12 b13 z x57.1 A59 x57.2.b k60 A61 x57.2.blocks k62 A63 x57.2.filter k64 x57.2.count x57.2.reads _ _ (T.sb rfl) (S.only [0, 0, 0, 0, 3, 2] rfl) H
end s_Table_Get
theorem ordL_le {a b : aE} (h : ordL a b) : cmpL a.Key b.Key ≤ 0 := by
 rcases h with h | ⟨h, _⟩
 ·omega
 ·rw [h, cmpL_refl]; exact Int.le_refl _
theorem lastKey_mem {g : List aE} (h : g ≠ []) : ∃ x ∈ g, lastKey g = x.Key := by
 unfold lastKey
 rw [List.getLast?_eq_some_getLast h]
 exact ⟨_, List.getLast_mem h, rfl⟩
theorem tblocks_last : ∀ (gs : List (List aE)) (o k : Nat) (h : k < gs.length), (gi ds_block (tblocks o gs) (k : Int)).last = lastKey gs[k]
 | [], _, _, h => by simp at h
 | g :: gs, o, 0, h => rfl
 | g :: gs, o, k + 1, h => by
  have := tblocks_last gs (o + (fr1 (blkOf g)).length) k (by simpa using h)
  unfold gi at this ⊢
  rw [Int.toNat_natCast] at this ⊢
  simpa [tblocks] using this
theorem tblocks_bys : ∀ (gs : List (List aE)) (o : Nat), (∀ g ∈ gs, (∀ e ∈ g, okE e)) → ∀ x ∈ tblocks o gs, Bys x.last
 | [], _, _, x, hx => by cases hx
 | g :: gs, o, h, x, hx => by
  rcases List.mem_cons.1 hx with rfl | hx
  ·show Bys (lastKey g)
   unfold lastKey
   cases hq : g.getLast? with
   | none => exact Bys.nil
   | some e => exact (h g (List.mem_cons_self ..) e (List.mem_of_getLast? hq)).1
  ·exact tblocks_bys gs _ (fun y hy => h y (List.mem_cons_of_mem _ hy)) x hx
def hit (key : List Int) (seq : Int) (x : aE) : Prop := x.Key = key ∧ x.Seq ≤ seq
section
variable {z : Nat} {q : Int → List Int → List s_block → List Int → Int → Int → Option (aE × Bool × s_Table)} {key : List Int} {seq : Int} {i : Int} {t : s_Table}
theorem L2_step (hk : Bys key) {w u : List aE} {x : aE} (hx : okE x) (hw : w.length ≤ 1000000) {m : Nat} (h : ¬ hit key seq x) :
  s_Table_Get.L2 z q key seq i (w ++ x :: u, t) (m + 1) (w.length : Int) = s_Table_Get.L2 z q key seq i (w ++ x :: u, t) m (((w ++ [x]).length : Nat) : Int) := by
 have hg : gi daE (w ++ x :: u) (w.length : Int) = x := gi_mid _ _ _ _ _ rfl
 rw [s_Table_Get.L2]
 dsimp only
 rw [if_y (by simp; omega), ck_y (by simp; omega), hg, Equal_f hx.1 hk, bd_some]
 unfold s_Table_Get.J3
 rw [wI (by omega), show ((w.length : Int) + 1) = (((w ++ [x]).length : Nat) : Int) by simp]
 by_cases hkk : x.Key = key
 ·rw [if_y (by simpa using hkk), if_n (by rw [decide_eq_false_iff_not]; exact fun hs => h ⟨hkk, hs⟩)]
 ·rw [if_n (by simpa using hkk)]
theorem L2_yes (hk : Bys key) {e : aE} (he : okE e) (hh : hit key seq e) {v : List aE} : ∀ (u w : List aE) (m : Nat), u.length < m → (∀ x ∈ u, okE x ∧ ¬ hit key seq x) → w.length + u.length ≤ 1000000 →
  s_Table_Get.L2 z q key seq i (w ++ (u ++ e :: v), t) m (w.length : Int) = some (e, true, t)
 | _, _, 0, h, _, _ => by omega
 | [], w, m + 1, _, _, hl => by
  have hg : gi daE (w ++ ([] ++ e :: v)) (w.length : Int) = e := gi_mid _ _ _ _ _ rfl
  rw [s_Table_Get.L2]
  dsimp only
  rw [if_y (by simp; omega), ck_y (by simp; omega), hg, Equal_f he.1 hk, bd_some, if_y (by simpa using hh.1), if_y (by simpa using hh.2)]
 | x :: u, w, m + 1, hm, hu, hl => by
  simp only [List.length_cons] at hm hl
  obtain ⟨h1, h2⟩ := hu x (List.mem_cons_self ..)
  rw [show w ++ (x :: u ++ e :: v) = w ++ x :: (u ++ e :: v) from rfl, L2_step hk h1 (by omega) h2, show w ++ x :: (u ++ e :: v) = (w ++ [x]) ++ (u ++ e :: v) by simp]
  exact L2_yes hk he hh u (w ++ [x]) m (by omega) (fun y hy => hu y (List.mem_cons_of_mem _ hy)) (by simp; omega)
theorem L2_no (hk : Bys key) : ∀ (u w : List aE) (m : Nat), u.length < m → (∀ x ∈ u, okE x ∧ ¬ hit key seq x) → w.length + u.length ≤ 1000000 → (0 ≤ i ∧ i < (t.blocks.length : Int)) → (gi ds_block t.blocks i).last = key →
  s_Table_Get.L2 z q key seq i (w ++ u, t) m (w.length : Int) = q (wr .i64 (i + 1)) t.b t.blocks t.filter t.count t.reads
 | _, _, 0, h, _, _, _, _ => by omega
 | [], w, m + 1, _, _, hl, hi, hlast => by
  rw [s_Table_Get.L2]
  dsimp only
  rw [if_n (by simp), ck_y hi, hlast, Equal_f hk hk, bd_some, if_n (by simp)]
 | x :: u, w, m + 1, hm, hu, hl, hi, hlast => by
  simp only [List.length_cons] at hm hl
  obtain ⟨h1, h2⟩ := hu x (List.mem_cons_self ..)
  rw [L2_step hk h1 (by omega) h2, show w ++ x :: u = (w ++ [x]) ++ u by simp]
  exact L2_no hk u (w ++ [x]) m (by omega) (fun y hy => hu y (List.mem_cons_of_mem _ hy)) (by simp; omega) hi hlast
end
theorem part_keys (key : List Int) : ∀ (P : List (List aE)), P.Pairwise (fun p p' => cmpL (lastKey p) (lastKey p') ≤ 0) → ∃ P1 P2, P = P1 ++ P2 ∧ (∀ p ∈ P1, cmpL (lastKey p) key < 0) ∧ ∀ p ∈ P2, 0 ≤ cmpL (lastKey p) key
 | [], _ => ⟨[], [], rfl, by simp, by simp⟩
 | p :: P, h => by
  obtain ⟨h1, h2⟩ := List.pairwise_cons.1 h
  by_cases hp : cmpL (lastKey p) key < 0
  ·obtain ⟨P1, P2, e, q1, q2⟩ := part_keys key P h2
   refine ⟨p :: P1, P2, by rw [e]; rfl, fun x hx => ?_, q2⟩
   rcases List.mem_cons.1 hx with rfl | hx
   ·exact hp
   ·exact q1 x hx
  ·refine ⟨[], p :: P, rfl, by simp, fun x hx => ?_⟩
   rcases List.mem_cons.1 hx with rfl | hx
   ·omega
   ·have a := h1 x hx
    have s1 := cmpL_swap (lastKey p) key
    have s2 := cmpL_swap key (lastKey x)
    have := cmpL_trans (x := key) (y := lastKey p) (w := lastKey x) (by omega) a
    omega
namespace r4_Newest
noncomputable def c0 : Code := match Try.f50.body with | some c => c | none => .skip
def R (F : List Atom) (x1 : List aE) (A2 : OA) (k3 : Nat) (x4 : List Int) (A5 : OA) (k6 : Nat) (m7 : Md) (r : aE × Bool) : Ending → World → Prop := fun e w' => ∃ (A24 : OA), ∃ (k25 : Nat), ∃ (A26 : OA), ∃ (k27 : Nat), e = .returned (.tuple #[.agg #[.slice A24 r.1.Key.length k25, .int .u64 r.1.Seq, .bool r.1.Del, .slice A26 r.1.Value.length k27], .bool r.2]) ∧ SL ([sl .ro ku8 A24 k25 r.1.Key, sl .ro ku8 A26 k27 r.1.Value, sl .ro kaE A2 k3 x1, sl m7 ku8 A5 k6 x4] ++ F) w'
def J1 (z : Nat) (q0 : Int → Option (aE × Bool)) (x1 : List aE) (x4 : List Int) (x8 x10 : Int) : Option (aE × Bool) := q0 (wr .i64 (x10 + 1))
def L0 (z : Nat) (x1 : List aE) (x4 : List Int) (x8 : Int) : Nat → Int → Option (aE × Bool)
 | 0, _ => none
 | m + 1, x10 => If (decide (x10 < (x1.length : Int))) (If ((bstr ((gi daE x1 x10).Key)).toList == (bstr x4).toList) (Ck (0 ≤ x10 ∧ x10 < (x1.length : Int)) (If (decide (((gi daE x1 x10).Seq) ≤ x8)) (Bd (r4_Copy.f (gi daE x1 x10)) fun x19 => some (x19, true)) (J1 z (L0 z x1 x4 x8 m) x1 x4 x8 x10))) (Ck (0 ≤ x10 ∧ x10 < (x1.length : Int)) (J1 z (L0 z x1 x4 x8 m) x1 x4 x8 x10))) (some ((aE.mk ([] : List Int) 0 false ([] : List Int)), false))
def f (z : Nat) (x1 : List aE) (x4 : List Int) (x8 : Int) : Option (aE × Bool) := L0 z x1 x4 x8 z 0
noncomputable def ptJ1 : List Item := [.code (cR (cR (cB (cB (cR (cL (cR c0))))))), .inLoop (cB (cB (cR (cL (cR c0))))), .inBlock 0, .code (cR (cR c0))]
noncomputable def ptL0 : List Item := [.code (cB (cB (cR (cL (cR c0))))), .inLoop (cB (cB (cR (cL (cR c0))))), .inBlock 0, .code (cR (cR c0))]
abbrev y0 : List Value := [.slice none 0 0, .int .u64 0, .bool false, .slice none 0 0]
theorem J1_ok (F : List Atom) (r : aE × Bool) (z : Nat) (x1 : List aE) (A2 : OA) (k3 : Nat) (x4 : List Int) (A5 : OA) (k6 : Nat) (m7 : Md) (x8 : Int) (b9 : Nat) (x10 : Int) (q0 : Int → Option (aE × Bool)) (hq0 : ∀ (x10 : Int) (a : Act) (w : World), Tm 39 [(0, .slice A2 x1.length k3), (1, .slice A5 x4.length k6), (2, .int .u64 x8), (6, .pointer (some ⟨b9, 0, none⟩)), (8, .int .i64 x10)] a → SL ([sl .ro kaE A2 k3 x1, sl m7 ku8 A5 k6 x4, blk b9 (y0)] ++ F) w → q0 x10 = some r → Gets Try.prog 50 ptL0 a w (R F x1 A2 k3 x4 A5 k6 m7 r)) (a : Act) (w : World) (T : Tm 39 [(0, .slice A2 x1.length k3), (1, .slice A5 x4.length k6), (2, .int .u64 x8), (6, .pointer (some ⟨b9, 0, none⟩)), (8, .int .i64 x10)] a) (S : SL ([sl .ro kaE A2 k3 x1, sl m7 ku8 A5 k6 x4, blk b9 (y0)] ++ F) w) (H : J1 z q0 x1 x4 x8 x10 = some r) : Gets Try.prog 50 ptJ1 a w (R F x1 A2 k3 x4 A5 k6 m7 r) := by
 refine rg (v3 T rfl rfl rfl fun T => Gets.inLoop ?_)
 exact hq0 (wr .i64 (x10 + 1)) _ _ (T.sb rfl) (S.only [0, 0, 0] rfl) H
theorem L0_ok (F : List Atom) (r : aE × Bool) (z : Nat) (x1 : List aE) (A2 : OA) (k3 : Nat) (x4 : List Int) (A5 : OA) (k6 : Nat) (m7 : Md) (x8 : Int) (b9 m : Nat) : ∀ (x10 : Int) (a : Act) (w : World), Tm 39 [(0, .slice A2 x1.length k3), (1, .slice A5 x4.length k6), (2, .int .u64 x8), (6, .pointer (some ⟨b9, 0, none⟩)), (8, .int .i64 x10)] a → SL ([sl .ro kaE A2 k3 x1, sl m7 ku8 A5 k6 x4, blk b9 (y0)] ++ F) w → L0 z x1 x4 x8 m x10 = some r → Gets Try.prog 50 ptL0 a w (R F x1 A2 k3 x4 A5 k6 m7 r) := by
 induction m with
 | zero => intro _ _ _ _ _ H; cases H
 | succ m ih =>
  intro x10 a w T S H
  refine sq (sq (rg (v2 T rfl rfl fun T => rn T rfl tu22 rfl fun _ T => v1 T rfl fun T => ?_)))
  rcases ifE H with ⟨h11, H⟩ | ⟨h11, H⟩
  ·refine cdT T rfl h11 (sk (sq (bq (sq ?_))))
   rcases ifE H with ⟨h12, H⟩ | ⟨h12, H⟩
   ·obtain ⟨h2121, H⟩ := ck H
    obtain ⟨_, S⟩ := S.peek1 (ix := 0) (off := 0) (i := x10) rfl daE fld_aE_Key h2121.1 h2121.2 rfl
    obtain ⟨A2241, k2242, hv_, S_⟩ := SL.ofVal (l := _ :: _) S
    subst hv_
    replace S := S_
    refine Gets.drawn (l := [sl .ro ku8 A2241 k2242 ((gi daE x1 x10).Key), cl A2 (Int.toNat x10 * 4 + 0) [.slice A2241 (((gi daE x1 x10).Key).length) k2242], sl .ro kaE A2 k3 x1, sl m7 ku8 A5 k6 x4, blk b9 (y0)]) (V := [some (.slice A2 x1.length k3, true), some (.int .i64 x10, true), some (.pointer (some (eA A2 (Int.toNat x10 * 4))), true), some (.pointer (some (eA A2 (Int.toNat x10 * 4 + 0))), true), some (.slice A2241 (((gi daE x1 x10).Key).length) k2242, true), some (.string (bstr ((gi daE x1 x10).Key)), true), some (.slice A5 x4.length k6, true), some (.string (bstr x4), true), some (.bool ((bstr ((gi daE x1 x10).Key)).toList == (bstr x4).toList), true), some (.bool ((bstr ((gi daE x1 x10).Key)).toList == (bstr x4).toList), true), some (.slice A2 x1.length k3, true), some (.int .i64 x10, true), some (.pointer (some (eA A2 (Int.toNat x10 * 4))), true), some (.pointer (some (eA A2 (Int.toNat x10 * 4 + 1))), true), some (.int .u64 ((gi daE x1 x10).Seq), true), some (.int .u64 x8, true), some (.bool (decide (((gi daE x1 x10).Seq) ≤ x8)), true), some (.bool (decide (((gi daE x1 x10).Seq) ≤ x8)), true)]) mixed T S rfl ?_
    refine stage none rfl rfl ⟨⟨_, _, rfl, (avl [0] rfl), fun _ _ _ T S => v1 T rfl fun T => ⟨rfl, T⟩⟩, ⟨_, _, rfl, (avl [8] rfl), fun _ _ _ T S => v1 T rfl fun T => ⟨rfl, T⟩⟩, ⟨_, _, rfl, (avl [15, 16] rfl), fun _ _ _ T S => r_ia (ix := 2) T S rfl rfl rfl rfl tu22 ts36 h2121.1 h2121.2 rfl fun _ T => ⟨rfl, T⟩⟩, ⟨_, _, rfl, (avl [17] rfl), fun _ _ _ T S => r_faE T rfl tu36 rfl ts24 rfl fun _ T => ⟨rfl, T⟩⟩, ⟨_, _, rfl, (avl [18] rfl), fun _ _ _ T S => r_ldC (ix := 1) (A := A2) T S rfl rfl rfl ti24 rfl fun _ T => ⟨rfl, T⟩⟩, ⟨_, _, rfl, (avl [19] rfl), fun _ _ _ T S => r_b2s (ix := 0) (xs := ((gi daE x1 x10).Key)) T S rfl rfl tu24 tu9 tu5 rfl fun _ T => ⟨rfl, T⟩⟩, ⟨_, _, rfl, (avl [1] rfl), fun _ _ _ T S => v1 T rfl fun T => ⟨rfl, T⟩⟩, ⟨_, _, rfl, (avl [21] rfl), fun _ _ _ T S => r_b2s (ix := 3) (xs := x4) T S rfl rfl tu24 tu9 tu5 rfl fun _ T => ⟨rfl, T⟩⟩, ⟨_, _, rfl, (avl [20, 22] rfl), fun _ _ _ T S => v1 T rfl fun T => ⟨rfl, T⟩⟩, ⟨_, _, rfl, (avl [23] rfl), fun _ _ _ T S => v1 T rfl fun T => ⟨rfl, T⟩⟩, ⟨_, _, rfl, (avl [0, 24] rfl), fun _ _ _ T S => gy T rfl h12 (v1 T rfl fun T => ⟨rfl, T⟩)⟩, ⟨_, _, rfl, (avl [8, 24] rfl), fun _ _ _ T S => gy T rfl h12 (v1 T rfl fun T => ⟨rfl, T⟩)⟩, ⟨_, _, rfl, (avl [25, 26, 24] rfl), fun _ _ _ T S => gy T rfl h12 (r_ia (ix := 2) T S rfl rfl rfl rfl tu22 ts36 h2121.1 h2121.2 rfl fun _ T => ⟨rfl, T⟩)⟩, ⟨_, _, rfl, (avl [27, 24] rfl), fun _ _ _ T S => gy T rfl h12 (r_faE T rfl tu36 rfl ts34 rfl fun _ T => ⟨rfl, T⟩)⟩, ⟨_, _, rfl, (avl [28, 24] rfl), fun _ _ _ T S => gy T rfl h12 (r_ldE (ix := 2) (i := x10) (off := 1) (f := (Value.int .u64)) T S rfl ti34 rfl daE _ rfl rfl fld_aE_Seq h2121.1 h2121.2 id rfl fun _ T => ⟨rfl, T⟩)⟩, ⟨_, _, rfl, (avl [2, 24] rfl), fun _ _ _ T S => gy T rfl h12 (v1 T rfl fun T => ⟨rfl, T⟩)⟩, ⟨_, _, rfl, (avl [29, 30, 24] rfl), fun _ _ _ T S => gy T rfl h12 (v1 T rfl fun T => ⟨rfl, T⟩)⟩, ⟨_, _, rfl, (avl [24, 31] rfl), fun _ _ _ T S => pT T rfl h12 rfl rfl fun _ T => ⟨rfl, T⟩⟩, trivial⟩ rfl (fun i hi => by cases hi) (fun _ _ a w T hv hb S => ?_)
    replace T := T.sub (r := [(0, .slice A2 x1.length k3), (1, .slice A5 x4.length k6), (2, .int .u64 x8), (6, .pointer (some ⟨b9, 0, none⟩)), (8, .int .i64 x10), (32, .bool (decide (((gi daE x1 x10).Seq) ≤ x8)))]) ⟨hb 0 _ rfl rfl, hb 1 _ rfl rfl, hb 2 _ rfl rfl, hb 6 _ rfl rfl, hb 8 _ rfl rfl, hv 17 _ 32 rfl rfl rfl, trivial⟩
    rcases ifE H with ⟨h13, H⟩ | ⟨h13, H⟩
    ·refine cdT T rfl h13 (sq (rg (v2 T rfl rfl fun T => r_ia (ix := 2) T S rfl rfl rfl rfl tu22 ts36 h2121.1 h2121.2 rfl fun _ T => r_ldEA (ix := 2) (i := x10) (off := 0) T S rfl rfl ti36 ts36 daE rfl (Fld.all _) h2121.1 h2121.2 rfl fun _ _ S T => ?_)))
     obtain ⟨A14, k15, A16, k17, hv_, S_⟩ := op_aE S
     subst hv_
     replace S := S_
     obtain ⟨x19, h18, H⟩ := bd H
     refine rc T Try.call37 rfl rfl (r4_Copy.ok _ _ (gi daE x1 x10) (S.sel (is := [0, 0]) rfl) _ h18) ?_
     rintro _ _ ⟨A20, k21, A22, k23, rfl, S⟩
     refine ⟨_, rfl, fun _ T => ?_⟩
     replace S := S.join
     refine r_stBA (ix := 8) (vs := [.slice A20 x19.Key.length k21, .int .u64 x19.Seq, .bool x19.Del, .slice A22 x19.Value.length k23]) T S rfl rfl rfl rfl (by simp) ts36 (nle rfl) rfl fun _ S => ?_
     refine v1 T rfl fun T => ?_
     obtain rfl := sj H
     exact rtnM T S Try.func50 rfl ⟨_, _, rfl, ⟨b9, _, 8, rfl, rfl, .inl ⟨ti36, ts36, rfl⟩⟩, ⟨_, _, rfl, rfl, rfl⟩⟩ ⟨A20, k21, A22, k23, rfl, (S.only [0, 0, 4, 4] rfl)⟩
    ·refine cdF T rfl h13 (sk (Gets.inBlock ?_))
     exact J1_ok F r z x1 A2 k3 x4 A5 k6 m7 x8 b9 x10 (L0 z x1 x4 x8 m) ih _ _ (T.sb rfl) (S.only [2, 2, 2] rfl) H
   ·obtain ⟨h2121, H⟩ := ck H
    obtain ⟨_, S⟩ := S.peek1 (ix := 0) (off := 0) (i := x10) rfl daE fld_aE_Key h2121.1 h2121.2 rfl
    obtain ⟨A2241, k2242, hv_, S_⟩ := SL.ofVal (l := _ :: _) S
    subst hv_
    replace S := S_
    refine Gets.drawn (l := [sl .ro ku8 A2241 k2242 ((gi daE x1 x10).Key), cl A2 (Int.toNat x10 * 4 + 0) [.slice A2241 (((gi daE x1 x10).Key).length) k2242], sl .ro kaE A2 k3 x1, sl m7 ku8 A5 k6 x4, blk b9 (y0)]) (V := [some (.slice A2 x1.length k3, true), some (.int .i64 x10, true), some (.pointer (some (eA A2 (Int.toNat x10 * 4))), true), some (.pointer (some (eA A2 (Int.toNat x10 * 4 + 0))), true), some (.slice A2241 (((gi daE x1 x10).Key).length) k2242, true), some (.string (bstr ((gi daE x1 x10).Key)), true), some (.slice A5 x4.length k6, true), some (.string (bstr x4), true), some (.bool ((bstr ((gi daE x1 x10).Key)).toList == (bstr x4).toList), true), some (.bool ((bstr ((gi daE x1 x10).Key)).toList == (bstr x4).toList), true), some (undef, true), some (undef, true), some (undef, true), some (undef, true), some (undef, true), some (undef, true), some (undef, true), some (.bool false, true)]) mixed T S rfl ?_
    refine stage none rfl rfl ⟨⟨_, _, rfl, (avl [0] rfl), fun _ _ _ T S => v1 T rfl fun T => ⟨rfl, T⟩⟩, ⟨_, _, rfl, (avl [8] rfl), fun _ _ _ T S => v1 T rfl fun T => ⟨rfl, T⟩⟩, ⟨_, _, rfl, (avl [15, 16] rfl), fun _ _ _ T S => r_ia (ix := 2) T S rfl rfl rfl rfl tu22 ts36 h2121.1 h2121.2 rfl fun _ T => ⟨rfl, T⟩⟩, ⟨_, _, rfl, (avl [17] rfl), fun _ _ _ T S => r_faE T rfl tu36 rfl ts24 rfl fun _ T => ⟨rfl, T⟩⟩, ⟨_, _, rfl, (avl [18] rfl), fun _ _ _ T S => r_ldC (ix := 1) (A := A2) T S rfl rfl rfl ti24 rfl fun _ T => ⟨rfl, T⟩⟩, ⟨_, _, rfl, (avl [19] rfl), fun _ _ _ T S => r_b2s (ix := 0) (xs := ((gi daE x1 x10).Key)) T S rfl rfl tu24 tu9 tu5 rfl fun _ T => ⟨rfl, T⟩⟩, ⟨_, _, rfl, (avl [1] rfl), fun _ _ _ T S => v1 T rfl fun T => ⟨rfl, T⟩⟩, ⟨_, _, rfl, (avl [21] rfl), fun _ _ _ T S => r_b2s (ix := 3) (xs := x4) T S rfl rfl tu24 tu9 tu5 rfl fun _ T => ⟨rfl, T⟩⟩, ⟨_, _, rfl, (avl [20, 22] rfl), fun _ _ _ T S => v1 T rfl fun T => ⟨rfl, T⟩⟩, ⟨_, _, rfl, (avl [23] rfl), fun _ _ _ T S => v1 T rfl fun T => ⟨rfl, T⟩⟩, ⟨_, _, rfl, (avl [0, 24] rfl), fun _ _ _ T S => gn T rfl h12 fun T => ⟨rfl, T⟩⟩, ⟨_, _, rfl, (avl [8, 24] rfl), fun _ _ _ T S => gn T rfl h12 fun T => ⟨rfl, T⟩⟩, ⟨_, _, rfl, (avl [25, 26, 24] rfl), fun _ _ _ T S => gn T rfl h12 fun T => ⟨rfl, T⟩⟩, ⟨_, _, rfl, (avl [27, 24] rfl), fun _ _ _ T S => gn T rfl h12 fun T => ⟨rfl, T⟩⟩, ⟨_, _, rfl, (avl [28, 24] rfl), fun _ _ _ T S => gn T rfl h12 fun T => ⟨rfl, T⟩⟩, ⟨_, _, rfl, (avl [2, 24] rfl), fun _ _ _ T S => gn T rfl h12 fun T => ⟨rfl, T⟩⟩, ⟨_, _, rfl, (avl [29, 30, 24] rfl), fun _ _ _ T S => gn T rfl h12 fun T => ⟨rfl, T⟩⟩, ⟨_, _, rfl, (avl [24, 31] rfl), fun _ _ _ T S => pF T rfl h12 rfl rfl fun _ T => ⟨rfl, T⟩⟩, trivial⟩ rfl (fun i hi => by cases hi) (fun _ _ a w T hv hb S => ?_)
    replace T := T.sub (r := [(0, .slice A2 x1.length k3), (1, .slice A5 x4.length k6), (2, .int .u64 x8), (6, .pointer (some ⟨b9, 0, none⟩)), (8, .int .i64 x10), (32, .bool false)]) ⟨hb 0 _ rfl rfl, hb 1 _ rfl rfl, hb 2 _ rfl rfl, hb 6 _ rfl rfl, hb 8 _ rfl rfl, hv 17 _ 32 rfl rfl rfl, trivial⟩
    refine cdF T rfl rfl (sk (Gets.inBlock ?_))
    exact J1_ok F r z x1 A2 k3 x4 A5 k6 m7 x8 b9 x10 (L0 z x1 x4 x8 m) ih _ _ (T.sb rfl) (S.only [2, 2, 2] rfl) H
  ·refine cdF T rfl h11 (Gets.exit rfl (sq ?_))
   refine rg (r_build (cs := #[.slice none 0 0, .int .u64 0, .bool false, .slice none 0 0]) T stt36 rfl rfl rfl fun _ T => r_stBA (ix := 2) (vs := (y0)) T S rfl rfl rfl rfl (by simp) ts36 (nle rfl) rfl fun _ S => ?_)
   refine v1 T rfl fun T => ?_
   replace S := S.nil ku8 .ro
   replace S := S.nil ku8 .ro
   obtain rfl := sj H
   exact rtnM T S Try.func50 rfl ⟨_, _, rfl, ⟨b9, _, 4, rfl, rfl, .inl ⟨ti36, ts36, rfl⟩⟩, ⟨_, _, rfl, rfl, rfl⟩⟩ ⟨none, 0, none, 0, rfl, (S.only [1, 0, 0, 0] rfl)⟩
theorem ok (F : List Atom) (w : World) (z : Nat) (x1 : List aE) (x4 : List Int) (x8 : Int) {A2 : OA} {k3 : Nat} {A5 : OA} {k6 : Nat} {m7 : Md} (S : SL ([sl .ro kaE A2 k3 x1, sl m7 ku8 A5 k6 x4] ++ F) w) (r : aE × Bool) (H : f z x1 x4 x8 = some r) : Calls Try.prog 50 #[.slice A2 x1.length k3, .slice A5 x4.length k6, .int .u64 x8] w (R F x1 A2 k3 x4 A5 k6 m7 r) := by
 refine enter (vs := [.slice A2 x1.length k3, .slice A5 x4.length k6, .int .u64 x8]) Try.func50 rfl Try.ntmps50 (nle rfl) fun a T => ?_
 refine sq (rg (r_alloc T S zv36 (cs := (y0)) rfl rfl fun _ _ b9 S T => v1 T rfl fun T => sq (sq (rg (v1 T rfl fun T => bq (Gets.loop ?_))))))
 exact L0_ok F r z x1 A2 k3 x4 A5 k6 m7 x8 b9 z 0 _ _ (T.sb rfl) (S.only [1, 1, 0] rfl) H
end r4_Newest
namespace r3_May
noncomputable def c0 : Code := match Try.f52.body with | some c => c | none => .skip
def R (F : List Atom) (x1 : List Int) (A2 : OA) (k3 : Nat) (m4 : Md) (x5 : List Int) (A6 : OA) (k7 : Nat) (m8 : Md) (r : Bool) : Ending → World → Prop := fun e w' => e = .returned (.bool r) ∧ SL ([sl m4 ku8 A2 k3 x1, sl m8 ku8 A6 k7 x5] ++ F) w'
def L1 (z : Nat) (x1 : List Int) (x15 : (List Int)) : Nat → Int → Option Bool
 | 0, _ => none
 | m + 1, x18 => If (decide (x18 < (x15.length : Int))) (Ck (0 ≤ x18 ∧ x18 < (x15.length : Int)) (Ck (0 ≤ Int.tmod (gi (0 : Int) x15 x18) 8) (Ck (0 ≤ wr .i64 (1 + (wr .i64 (wr .u64 (Int.tdiv (gi (0 : Int) x15 x18) 8)))) ∧ wr .i64 (1 + (wr .i64 (wr .u64 (Int.tdiv (gi (0 : Int) x15 x18) 8)))) < (x1.length : Int)) (If ((bAnd .u8 (gi (0 : Int) x1 (wr .i64 (1 + (wr .i64 (wr .u64 (Int.tdiv (gi (0 : Int) x15 x18) 8)))))) (sShl .u8 1 (Int.tmod (gi (0 : Int) x15 x18) 8))) == 0) (some false) (L1 z x1 x15 m (wr .i64 (x18 + 1))))))) (some true)
def J0 (z : Nat) : Option Bool := some true
def f (z : Nat) (x1 x5 : List Int) : Option Bool := If (decide ((x1.length : Int) < 9)) (J0 z) (If ((Int.tmod (x1.length : Int) 8) != 1) (J0 z) (Ck (0 < (x1.length : Int)) (If (decide ((gi (0 : Int) x1 0) < 1)) (J0 z) (If (decide ((gi (0 : Int) x1 0) > 30)) (J0 z) (Bd (r3_bits.f z x5 (wr .i64 (gi (0 : Int) x1 0)) (wr .u64 (wr .i64 (8 * (wr .i64 ((x1.length : Int) - 1)))))) fun x15 => L1 z x1 x15 z 0)))))
noncomputable def ptL1 : List Item := [.code (cB (cB (cR (cL (cr 3 c0))))), .inLoop (cB (cB (cR (cL (cr 3 c0))))), .inBlock 0, .code (cr 4 c0)]
noncomputable def ptJ0 : List Item := [.code (cL (cT (cR (cL (cR c0))))), .code (cR (cT (cR (cL (cR c0))))), .code (cR (cR c0))]
theorem L1_ok (F : List Atom) (r : Bool) (z : Nat) (x1 : List Int) (A2 : OA) (k3 : Nat) (m4 : Md) (x5 : List Int) (A6 : OA) (k7 : Nat) (m8 : Md) (A16 : OA) (x15 : (List Int)) (k17 m : Nat) : ∀ (x18 : Int) (a : Act) (w : World), Tm 65 [(0, .slice A2 x1.length k3), (5, .slice A16 x15.length k17), (6, .int .i64 x18)] a → SL ([sl m4 ku8 A2 k3 x1, sl m8 ku8 A6 k7 x5, sl .own ku64 A16 k17 x15] ++ F) w → L1 z x1 x15 m x18 = some r → Gets Try.prog 52 ptL1 a w (R F x1 A2 k3 m4 x5 A6 k7 m8 r) := by
 induction m with
 | zero => intro _ _ _ _ _ H; cases H
 | succ m ih =>
  intro x18 a w T S H
  refine sq (sq (rg (v2 T rfl rfl fun T => rn T rfl tu116 rfl fun _ T => v1 T rfl fun T => ?_)))
  rcases ifE H with ⟨h19, H⟩ | ⟨h19, H⟩
  ·refine cdT T rfl h19 (sk (sq (bq (sq (rg (v2 T rfl rfl fun T => ?_))))))
   obtain ⟨h20, H⟩ := ck H
   refine r_ia (ix := 2) T S rfl rfl rfl rfl tu116 ts34 h20.1 h20.2 rfl fun _ T => r_ldE (ix := 2) (i := x18) (off := 0) (f := (Value.int .u64)) T S rfl ti34 rfl (0 : Int) _ rfl rfl (Fld.all _) h20.1 h20.2 id rfl fun _ T => r_rem T rfl rfl (by decide) rfl fun _ T => ?_
   obtain ⟨h21, H⟩ := ck H
   refine r_shl T rfl rfl h21 rfl fun _ T => v1 T rfl fun T => sq (rg (v3 T rfl rfl rfl fun T => r_ia (ix := 2) T S rfl rfl rfl rfl tu116 ts34 h20.1 h20.2 rfl fun _ T => ?_))
   refine r_ldE (ix := 2) (i := x18) (off := 0) (f := (Value.int .u64)) T S rfl ti34 rfl (0 : Int) _ rfl rfl (Fld.all _) h20.1 h20.2 id rfl fun _ T => r_quo T rfl rfl (by decide) rfl fun _ T => ?_
   refine r_conv T rfl tu34 tu3 rfl fun _ T => v1 T rfl fun T => ?_
   obtain ⟨h22, H⟩ := ck H
   refine r_ia (ix := 0) T S rfl rfl rfl rfl tu24 ts5 h22.1 h22.2 rfl fun _ T => r_ldE (ix := 0) (i := wr .i64 (1 + (wr .i64 (wr .u64 (Int.tdiv (gi (0 : Int) x15 x18) 8))))) (off := 0) (f := (Value.int .u8)) T S rfl ti5 rfl (0 : Int) _ rfl rfl (Fld.all _) h22.1 h22.2 id rfl fun _ T => v3 T rfl rfl rfl fun T => ?_
   rcases ifE H with ⟨h23, H⟩ | ⟨h23, H⟩
   ·refine cdT T rfl h23 (sq (rg (v1 T rfl fun T => ?_)))
    obtain rfl := sj H
    exact rtn T tf52 rfl rfl ⟨rfl, (S.only [0, 0] rfl)⟩
   ·refine cdF T rfl h23 (sk (Gets.inBlock (rg (v3 T rfl rfl rfl fun T => Gets.inLoop ?_))))
    exact ih (wr .i64 (x18 + 1)) _ _ (T.sb rfl) (S.only [0, 0, 0] rfl) H
  ·refine cdF T rfl h19 (Gets.exit rfl (sq (rg (v1 T rfl fun T => ?_))))
   obtain rfl := sj H
   exact rtn T tf52 rfl rfl ⟨rfl, (S.only [0, 0] rfl)⟩
theorem J0_ok (F : List Atom) (r : Bool) (z : Nat) (x1 : List Int) (A2 : OA) (k3 : Nat) (m4 : Md) (x5 : List Int) (A6 : OA) (k7 : Nat) (m8 : Md) (a : Act) (w : World) (T : Tm 65 [] a) (S : SL ([sl m4 ku8 A2 k3 x1, sl m8 ku8 A6 k7 x5] ++ F) w) (H : J0 z = some r) : Gets Try.prog 52 ptJ0 a w (R F x1 A2 k3 m4 x5 A6 k7 m8 r) := by
 refine rg (v1 T rfl fun T => ?_)
 obtain rfl := sj H
 exact rtn T tf52 rfl rfl ⟨rfl, (S.only [0, 0] rfl)⟩
theorem ok (F : List Atom) (w : World) (z : Nat) (x1 x5 : List Int) {A2 : OA} {k3 : Nat} {m4 : Md} {A6 : OA} {k7 : Nat} {m8 : Md} (S : SL ([sl m4 ku8 A2 k3 x1, sl m8 ku8 A6 k7 x5] ++ F) w) (r : Bool) (H : f z x1 x5 = some r) : Calls Try.prog 52 #[.slice A2 x1.length k3, .slice A6 x5.length k7] w (R F x1 A2 k3 m4 x5 A6 k7 m8 r) := by
 refine enter (vs := [.slice A2 x1.length k3, .slice A6 x5.length k7]) tf52 rfl Try.ntmps52 (nle rfl) fun a T => ?_
 refine sq (rg (v1 T rfl fun T => sq (sq (rg (v1 T rfl fun T => rn T rfl tu24 rfl fun _ T => v2 T rfl rfl fun T => ?_)))))
 rcases ifE H with ⟨h9, H⟩ | ⟨h9, H⟩
 ·refine gn T rfl h9 fun T => gn T rfl h9 fun T => gn T rfl h9 fun T => gn T rfl h9 fun T => pT T rfl h9 rfl rfl fun _ T => v1 T rfl fun T => gn T rfl rfl fun T => gn T rfl rfl fun T => gn T rfl rfl fun T => gn T rfl rfl fun T => pT T rfl rfl rfl rfl fun _ T => v1 T rfl fun T => gn T rfl rfl fun T => gn T rfl rfl fun T => gn T rfl rfl fun T => gn T rfl rfl fun T => pT T rfl rfl rfl rfl fun _ T => cdT T rfl rfl (sq ?_)
  exact J0_ok F r z x1 A2 k3 m4 x5 A6 k7 m8 _ _ (T.sub trivial) (S.only [0, 0] rfl) H
 ·refine gy T rfl h9 (v1 T rfl fun T => gy T rfl h9 (rn T rfl tu24 rfl fun _ T => gy T rfl h9 ?_))
  refine r_rem T rfl rfl (by decide) rfl fun _ T => ?_
  refine gy T rfl h9 (v1 T rfl fun T => pF T rfl h9 rfl rfl fun _ T => v1 T rfl fun T => ?_)
  rcases ifE H with ⟨h10, H⟩ | ⟨h10, H⟩
  ·refine gn T rfl h10 fun T => gn T rfl h10 fun T => gn T rfl h10 fun T => gn T rfl h10 fun T => pT T rfl h10 rfl rfl fun _ T => v1 T rfl fun T => gn T rfl rfl fun T => gn T rfl rfl fun T => gn T rfl rfl fun T => gn T rfl rfl fun T => pT T rfl rfl rfl rfl fun _ T => cdT T rfl rfl (sq ?_)
   exact J0_ok F r z x1 A2 k3 m4 x5 A6 k7 m8 _ _ (T.sub trivial) (S.only [0, 0] rfl) H
  ·refine gy T rfl h10 (v1 T rfl fun T => gy T rfl h10 ?_)
   obtain ⟨h11, H⟩ := ck H
   refine r_ia (ix := 0) T S rfl rfl rfl rfl tu24 ts5 (by decide) h11 rfl fun _ T => ?_
   refine gy T rfl h10 (r_ldE (ix := 0) (i := 0) (off := 0) (f := (Value.int .u8)) T S rfl ti5 rfl (0 : Int) _ rfl rfl (Fld.all _) (by decide) h11 id rfl fun _ T => ?_)
   refine gy T rfl h10 (v1 T rfl fun T => pF T rfl h10 rfl rfl fun _ T => v1 T rfl fun T => ?_)
   rcases ifE H with ⟨h12, H⟩ | ⟨h12, H⟩
   ·refine gn T rfl h12 fun T => gn T rfl h12 fun T => gn T rfl h12 fun T => gn T rfl h12 fun T => pT T rfl h12 rfl rfl fun _ T => cdT T rfl rfl (sq ?_)
    exact J0_ok F r z x1 A2 k3 m4 x5 A6 k7 m8 _ _ (T.sub trivial) (S.only [0, 0] rfl) H
   ·refine gy T rfl h12 ?_
    refine v1 T rfl fun T => gy T rfl h12 (r_ia (ix := 0) T S rfl rfl rfl rfl tu24 ts5 (by decide) h11 rfl fun _ T => ?_)
    refine gy T rfl h12 (r_ldE (ix := 0) (i := 0) (off := 0) (f := (Value.int .u8)) T S rfl ti5 rfl (0 : Int) _ rfl rfl (Fld.all _) (by decide) h11 id rfl fun _ T => ?_)
    refine gy T rfl h12 (v1 T rfl fun T => pF T rfl h12 rfl rfl fun _ T => ?_)
    rcases ifE H with ⟨h13, H⟩ | ⟨h13, H⟩
    ·refine cdT T rfl h13 (sq ?_)
     exact J0_ok F r z x1 A2 k3 m4 x5 A6 k7 m8 _ _ (T.sub trivial) (S.only [0, 0] rfl) H
    ·refine cdF T rfl h13 (sk (sq ?_))
     refine rg (v2 T rfl rfl fun T => r_ia (ix := 0) T S rfl rfl rfl rfl tu24 ts5 (by decide) h11 rfl fun _ T => ?_)
     refine r_ldE (ix := 0) (i := 0) (off := 0) (f := (Value.int .u8)) T S rfl ti5 rfl (0 : Int) _ rfl rfl (Fld.all _) (by decide) h11 id rfl fun _ T => ?_
     refine r_conv T rfl tu5 tu3 rfl fun _ T => v1 T rfl fun T => rn T rfl tu24 rfl fun _ T => v2 T rfl rfl fun T => r_conv T rfl tu3 tu34 rfl fun _ T => ?_
     obtain ⟨x15, h14, H⟩ := bd H
     refine rc T Try.call80 rfl rfl (r3_bits.ok _ _ z x5 (wr .i64 (gi (0 : Int) x1 0)) (wr .u64 (wr .i64 (8 * (wr .i64 ((x1.length : Int) - 1))))) (S.sel (is := [1]) rfl) _ h14) ?_
     rintro _ _ ⟨A16, k17, rfl, S⟩
     refine ⟨_, rfl, fun _ T => ?_⟩
     replace S := S.join
     refine v1 T rfl fun T => sq (sq (rg (v1 T rfl fun T => bq (Gets.loop ?_))))
     exact L1_ok F r z x1 A2 k3 m4 x5 A6 k7 m8 A16 x15 k17 z 0 _ _ (T.sb rfl) (S.only [2, 1, 0] rfl) H
end r3_May
namespace r4_Table_Get
noncomputable def c0 : Code := match Try.f22.body with | some c => c | none => .skip
def R (F : List Atom) (b2 : Nat) (x9 : List Int) (A10 : OA) (k11 : Nat) (m12 : Md) (r : aE × Bool × r4_Table) : Ending → World → Prop := fun e w' => ∃ (A51 : OA), ∃ (k52 : Nat), ∃ (A53 : OA), ∃ (k54 : Nat), ∃ (A56 : OA), ∃ (k57 : Nat), ∃ (A58 : OA), ∃ (k59 : Nat), ∃ (A60 : OA), ∃ (k61 : Nat), e = .returned (.tuple #[.agg #[.slice A51 r.1.Key.length k52, .int .u64 r.1.Seq, .bool r.1.Del, .slice A53 r.1.Value.length k54], .bool r.2.1]) ∧ SL ([sl .ro ku8 A51 k52 r.1.Key, sl .ro ku8 A53 k54 r.1.Value, blk b2 [.slice A56 r.2.2.L.length k57, .slice A58 r.2.2.Cut.length k59, .slice A60 r.2.2.filter.length k61, .int .i64 r.2.2.reads], sl .ro kaE A56 k57 r.2.2.L, sl .ro ki64 A58 k59 r.2.2.Cut, sl .ro ku8 A60 k61 r.2.2.filter, sl m12 ku8 A10 k11 x9] ++ F) w'
def J2 (z : Nat) (x1 : r4_Table) (x16 : aE × Bool) (x32 : Int) : Option (aE × Bool × r4_Table) := some (x16.1, x16.2, (r4_Table.mk x1.L x1.Cut x1.filter (wr .i64 (x32 + 1))))
def L1 (z : Nat) (x1 : r4_Table) (x9 : List Int) (x13 : Int) (x16 : aE × Bool) : Nat → Int → Int → Int → Option (aE × Bool × r4_Table)
 | 0, _, _, _ => none
 | m + 1, x33, x34, x32 => If (decide (x34 < (x1.Cut.length : Int))) (Ck (0 ≤ x34 ∧ x34 < (x1.Cut.length : Int)) (Ck (0 ≤ x33 ∧ x33 ≤ wr .i64 (x33 + (gi (0 : Int) x1.Cut x34)) ∧ wr .i64 (x33 + (gi (0 : Int) x1.Cut x34)) ≤ (x1.L.length : Int)) (Ck (0 ≤ wr .i64 (((cut x1.L (Int.toNat x33) (Int.toNat (wr .i64 (x33 + (gi (0 : Int) x1.Cut x34))))).length : Int) - 1) ∧ wr .i64 (((cut x1.L (Int.toNat x33) (Int.toNat (wr .i64 (x33 + (gi (0 : Int) x1.Cut x34))))).length : Int) - 1) < ((cut x1.L (Int.toNat x33) (Int.toNat (wr .i64 (x33 + (gi (0 : Int) x1.Cut x34))))).length : Int)) (Bd (r1_Compare.f z ((gi daE (cut x1.L (Int.toNat x33) (Int.toNat (wr .i64 (x33 + (gi (0 : Int) x1.Cut x34))))) (wr .i64 (((cut x1.L (Int.toNat x33) (Int.toNat (wr .i64 (x33 + (gi (0 : Int) x1.Cut x34))))).length : Int) - 1))).Key) x9) fun x40 => If (decide (x40 < 0)) (L1 z x1 x9 x13 x16 m (wr .i64 (x33 + (gi (0 : Int) x1.Cut x34))) (wr .i64 (x34 + 1)) x32) (Bd (r4_Newest.f z (cut x1.L (Int.toNat x33) (Int.toNat (wr .i64 (x33 + (gi (0 : Int) x1.Cut x34))))) x9 x13) fun x43 => If x43.2 (J2 z x1 x16 x32) (If (decide (x40 > 0)) (J2 z x1 x16 x32) (L1 z x1 x9 x13 x16 m (wr .i64 (x33 + (gi (0 : Int) x1.Cut x34))) (wr .i64 (x34 + 1)) (wr .i64 (x32 + 1))))))))) (some (x16.1, x16.2, (r4_Table.mk x1.L x1.Cut x1.filter x32)))
def J0 (z : Nat) (x1 : r4_Table) : Option (aE × Bool × r4_Table) := some ((aE.mk ([] : List Int) 0 false ([] : List Int)), false, x1)
def f (z : Nat) (x1 : r4_Table) (x9 : List Int) (x13 : Int) : Option (aE × Bool × r4_Table) := Bd (r4_Newest.f z x1.L x9 x13) fun x16 => Ck (0 < (x1.L.length : Int)) (Bd (r1_Compare.f z x9 ((gi daE x1.L 0).Key)) fun x26 => Ck (0 ≤ wr .i64 ((x1.L.length : Int) - 1) ∧ wr .i64 ((x1.L.length : Int) - 1) < (x1.L.length : Int)) (Bd (r1_Compare.f z x9 ((gi daE x1.L (wr .i64 ((x1.L.length : Int) - 1))).Key)) fun x2842 => Bd (r3_May.f z x1.filter x9) fun x28 => If (decide (x26 < 0)) (J0 z x1) (If (decide (x2842 > 0)) (J0 z x1) (If (!x28) (J0 z x1) (L1 z x1 x9 x13 x16 z 0 0 x1.reads)))))
noncomputable def ptJ2 : List Item := [.code (cL (cr 8 c0)), .code (cr 9 c0)]
noncomputable def ptL1 : List Item := [.code (cB (cB (cR (cL (cr 7 c0))))), .inLoop (cB (cB (cR (cL (cr 7 c0))))), .inBlock 0, .code (cr 8 c0)]
noncomputable def ptJ0 : List Item := [.code (cL (cT (cR (cL (cr 5 c0))))), .code (cR (cT (cR (cL (cr 5 c0))))), .code (cr 6 c0)]
abbrev y0 (A17 : OA) (x16 : aE × Bool) (k18 : Nat) (A19 : OA) (k20 : Nat) : List Value := [.slice A17 x16.1.Key.length k18, .int .u64 x16.1.Seq, .bool x16.1.Del, .slice A19 x16.1.Value.length k20]
abbrev y1 (b2 : Nat) : Option (Value × Bool) := some (.pointer (some ⟨b2, 0, none⟩), true)
abbrev y2 : List Value := [.slice none 0 0, .int .u64 0, .bool false, .slice none 0 0]
abbrev y3 (A3 : OA) (k4 : Nat) (x33 : Int) (x1 : r4_Table) (x34 : Int) : Value := .slice (slA A3 (Int.toNat (k4 : Int)) (Int.toNat x33) 4) ((cut x1.L (Int.toNat x33) (Int.toNat (wr .i64 (x33 + (gi (0 : Int) x1.Cut x34))))).length) (Int.toNat (k4 : Int) - Int.toNat x33)
theorem J2_ok (F : List Atom) (r : aE × Bool × r4_Table) (z b2 : Nat) (x9 : List Int) (A10 : OA) (k11 : Nat) (m12 : Md) (b14 b21 : Nat) (x16 : aE × Bool) (A3 : OA) (x1 : r4_Table) (k4 : Nat) (A5 : OA) (k6 : Nat) (A7 : OA) (k8 : Nat) (x32 : Int) (A17 : OA) (k18 : Nat) (A19 : OA) (k20 : Nat) (x13 : Int) (a : Act) (w : World) (T : Tm 135 [(6, .pointer (some ⟨b14, 0, none⟩)), (8, .pointer (some ⟨b21, 0, none⟩)), (9, .bool x16.2)] a) (S : SL ([blk b2 [.slice A3 x1.L.length k4, .slice A5 x1.Cut.length k6, .slice A7 x1.filter.length k8, .int .i64 (wr .i64 (x32 + 1))], sl .ro kaE A3 k4 x1.L, sl .ro ki64 A5 k6 x1.Cut, sl .ro ku8 A7 k8 x1.filter, sl m12 ku8 A10 k11 x9, blk b14 (y2), blk b21 (y0 A17 x16 k18 A19 k20), sl .ro ku8 A17 k18 x16.1.Key, sl .ro ku8 A19 k20 x16.1.Value] ++ F) w) (H : J2 z x1 x16 x32 = some r) : Gets Try.prog 22 ptJ2 a w (R F b2 x9 A10 k11 m12 r) := by
 refine rg (r_ldBA (ix := 6) (ds := (y0 A17 x16 k18 A19 k20)) T S rfl ti36 rfl rfl ts36 rfl fun _ T => v1 T rfl fun T => r_stBA (ix := 5) (vs := (y0 A17 x16 k18 A19 k20)) T S rfl rfl rfl rfl (by simp) ts36 (nle rfl) rfl fun _ S => ?_)
 refine v1 T rfl fun T => ?_
 obtain rfl := sj H
 exact rtnM T S tf22 rfl ⟨_, _, rfl, ⟨b14, _, 5, rfl, rfl, .inl ⟨ti36, ts36, rfl⟩⟩, ⟨_, _, rfl, rfl, rfl⟩⟩ ⟨A17, k18, A19, k20, A3, k4, A5, k6, A7, k8, rfl, (S.only [7, 7, 0, 0, 0, 0, 0] rfl)⟩
theorem L1_ok (F : List Atom) (r : aE × Bool × r4_Table) (z b2 : Nat) (x9 : List Int) (A10 : OA) (k11 : Nat) (m12 : Md) (x13 : Int) (b14 b21 : Nat) (x16 : aE × Bool) (A3 : OA) (x1 : r4_Table) (k4 : Nat) (A5 : OA) (k6 : Nat) (A7 : OA) (k8 : Nat) (A17 : OA) (k18 : Nat) (A19 : OA) (k20 m : Nat) : ∀ (x33 x34 x32 : Int) (a : Act) (w : World), Tm 135 [(0, .pointer (some ⟨b2, 0, none⟩)), (1, .slice A10 x9.length k11), (2, .int .u64 x13), (6, .pointer (some ⟨b14, 0, none⟩)), (8, .pointer (some ⟨b21, 0, none⟩)), (9, .bool x16.2), (13, .int .i64 x33), (14, .int .i64 x34)] a → SL ([blk b2 [.slice A3 x1.L.length k4, .slice A5 x1.Cut.length k6, .slice A7 x1.filter.length k8, .int .i64 x32], sl .ro kaE A3 k4 x1.L, sl .ro ki64 A5 k6 x1.Cut, sl .ro ku8 A7 k8 x1.filter, sl m12 ku8 A10 k11 x9, blk b14 (y2), blk b21 (y0 A17 x16 k18 A19 k20), sl .ro ku8 A17 k18 x16.1.Key, sl .ro ku8 A19 k20 x16.1.Value] ++ F) w → L1 z x1 x9 x13 x16 m x33 x34 x32 = some r → Gets Try.prog 22 ptL1 a w (R F b2 x9 A10 k11 m12 r) := by
 induction m with
 | zero => intro _ _ _ _ _ _ _ H; cases H
 | succ m ih =>
  intro x33 x34 x32 a w T S H
  refine sq (sq (rg (v3 T rfl rfl rfl fun T => r_fa (o' := 1) T rfl tu50 rfl ts48 rfl rfl fun _ T => lB (ix := 0) T S rfl ti48 rfl rfl rfl fun _ T => rn T rfl tu48 rfl fun _ T => v1 T rfl fun T => ?_)))
  rcases ifE H with ⟨h35, H⟩ | ⟨h35, H⟩
  ·refine cdT T rfl h35 (sk (sq (bq (sq ?_))))
   obtain ⟨h3621, H⟩ := ck H
   have h3801 := S.len (i := 1) rfl
   obtain ⟨h3802, H⟩ := ck H
   replace S := S.cutR (ix := 1) (i := x33) (j := wr .i64 (x33 + (gi (0 : Int) x1.Cut x34))) (k := (k4 : Int)) rfl h3802.1 h3802.2.1 h3802.2.2 (by have := h3802.2.2; omega) (by omega)
   refine Gets.drawn (l := [sl .ro kaE (slA A3 (Int.toNat (k4 : Int)) (Int.toNat x33) 4) (Int.toNat (k4 : Int) - Int.toNat x33) (cut x1.L (Int.toNat x33) (Int.toNat (wr .i64 (x33 + (gi (0 : Int) x1.Cut x34))))), blk b2 [.slice A3 x1.L.length k4, .slice A5 x1.Cut.length k6, .slice A7 x1.filter.length k8, .int .i64 x32], sl .ro kaE A3 k4 x1.L, sl .ro ki64 A5 k6 x1.Cut, sl .ro ku8 A7 k8 x1.filter, sl m12 ku8 A10 k11 x9, blk b14 (y2), blk b21 (y0 A17 x16 k18 A19 k20), sl .ro ku8 A17 k18 x16.1.Key, sl .ro ku8 A19 k20 x16.1.Value]) (V := [(y1 b2), (y1 b2), (y1 b2), some (.slice A3 x1.L.length k4, true), some (.int .i64 x33, true), some (.int .i64 x33, true), (y1 b2), (y1 b2), some (.pointer (some ⟨b2, 1, none⟩), true), some (.slice A5 x1.Cut.length k6, true), some (.int .i64 x34, true), some (.pointer (some (eA A5 (Int.toNat x34 * 1))), true), some (.int .i64 (gi (0 : Int) x1.Cut x34), true), some (.int .i64 (wr .i64 (x33 + (gi (0 : Int) x1.Cut x34))), true), some ((y3 A3 k4 x33 x1 x34), true), some ((y3 A3 k4 x33 x1 x34), true)]) mixed T S rfl ?_
   refine stage none rfl rfl ⟨⟨_, _, rfl, (avl [0] rfl), fun _ _ _ T S => v1 T rfl fun T => ⟨rfl, T⟩⟩, ⟨_, _, rfl, (avl [79] rfl), fun _ _ _ T S => v1 T rfl fun T => ⟨rfl, T⟩⟩, ⟨_, _, rfl, (avl [80] rfl), fun _ _ _ T S => r_fa (o' := 0) T rfl tu50 rfl ts22 rfl rfl fun _ T => ⟨rfl, T⟩⟩, ⟨_, _, rfl, (avl [81] rfl), fun _ _ _ T S => lB (ix := 1) T S rfl ti22 rfl rfl rfl fun _ T => ⟨rfl, T⟩⟩, ⟨_, _, rfl, (avl [13] rfl), fun _ _ _ T S => v1 T rfl fun T => ⟨rfl, T⟩⟩, ⟨_, _, rfl, (avl [13] rfl), fun _ _ _ T S => v1 T rfl fun T => ⟨rfl, T⟩⟩, ⟨_, _, rfl, (avl [0] rfl), fun _ _ _ T S => v1 T rfl fun T => ⟨rfl, T⟩⟩, ⟨_, _, rfl, (avl [85] rfl), fun _ _ _ T S => v1 T rfl fun T => ⟨rfl, T⟩⟩, ⟨_, _, rfl, (avl [86] rfl), fun _ _ _ T S => r_fa (o' := 1) T rfl tu50 rfl ts48 rfl rfl fun _ T => ⟨rfl, T⟩⟩, ⟨_, _, rfl, (avl [87] rfl), fun _ _ _ T S => lB (ix := 1) T S rfl ti48 rfl rfl rfl fun _ T => ⟨rfl, T⟩⟩, ⟨_, _, rfl, (avl [14] rfl), fun _ _ _ T S => v1 T rfl fun T => ⟨rfl, T⟩⟩, ⟨_, _, rfl, (avl [88, 89] rfl), fun _ _ _ T S => r_ia (ix := 3) T S rfl rfl rfl rfl tu48 ts3 h3621.1 h3621.2 rfl fun _ T => ⟨rfl, T⟩⟩, ⟨_, _, rfl, (avl [90] rfl), fun _ _ _ T S => r_ldE (ix := 3) (i := x34) (off := 0) (f := (Value.int .i64)) T S rfl ti3 rfl (0 : Int) _ rfl rfl (Fld.all _) h3621.1 h3621.2 id rfl fun _ T => ⟨rfl, T⟩⟩, ⟨_, _, rfl, (avl [84, 91] rfl), fun _ _ _ T S => v1 T rfl fun T => ⟨rfl, T⟩⟩, ⟨_, _, rfl, (avl [82, 83, 92] rfl), fun _ _ _ T S => r_slQ (xs := x1.L) T rfl (fun h => by cases h) rfl rfl rfl h3802.1 h3802.2.1 h3802.2.2 (by have := h3802.2.2; omega) (by omega) tu22 ts36 rfl fun _ T => ⟨rfl, T⟩⟩, ⟨_, _, rfl, (avl [93] rfl), fun _ _ _ T S => v1 T rfl fun T => ⟨rfl, T⟩⟩, trivial⟩ rfl (fun i hi => by cases hi) (fun _ _ a w T hv hb S => ?_)
   replace T := T.sub (r := [(0, .pointer (some ⟨b2, 0, none⟩)), (1, .slice A10 x9.length k11), (2, .int .u64 x13), (6, .pointer (some ⟨b14, 0, none⟩)), (8, .pointer (some ⟨b21, 0, none⟩)), (9, .bool x16.2), (13, .int .i64 x33), (14, .int .i64 x34), (15, (y3 A3 k4 x33 x1 x34))]) ⟨hb 0 _ rfl rfl, hb 1 _ rfl rfl, hb 2 _ rfl rfl, hb 6 _ rfl rfl, hb 8 _ rfl rfl, hb 9 _ rfl rfl, hb 13 _ rfl rfl, hb 14 _ rfl rfl, hv 15 _ 15 rfl rfl rfl, trivial⟩
   refine sq (rg (v3 T rfl rfl rfl fun T => r_fa (o' := 1) T rfl tu50 rfl ts48 rfl rfl fun _ T => lB (ix := 1) T S rfl ti48 rfl rfl rfl fun _ T => v1 T rfl fun T => r_ia (ix := 3) T S rfl rfl rfl rfl tu48 ts3 h3621.1 h3621.2 rfl fun _ T => r_ldE (ix := 3) (i := x34) (off := 0) (f := (Value.int .i64)) T S rfl ti3 rfl (0 : Int) _ rfl rfl (Fld.all _) h3621.1 h3621.2 id rfl fun _ T => v2 T rfl rfl fun T => sq (rg (v2 T rfl rfl fun T => rn T rfl tu22 rfl fun _ T => v1 T rfl fun T => ?_))))
   obtain ⟨h36, H⟩ := ck H
   refine r_ia (ix := 0) T S rfl rfl rfl rfl tu22 ts36 h36.1 h36.2 rfl fun _ T => r_faE T rfl tu36 rfl ts24 rfl fun _ T => r_ldR (ix := 0) (i := wr .i64 (((cut x1.L (Int.toNat x33) (Int.toNat (wr .i64 (x33 + (gi (0 : Int) x1.Cut x34))))).length : Int) - 1)) (off := 0) T S rfl ti24 rfl daE _ rfl rfl fld_aE_Key h36.1 h36.2 rfl rfl fun _ _ S T => ?_
   obtain ⟨A37, k38, hv_, S_⟩ := S.ofVal
   subst hv_
   replace S := S_
   refine v1 T rfl fun T => ?_
   obtain ⟨x40, h39, H⟩ := bd H
   refine rc T tc51 rfl rfl (r1_Compare.ok _ _ z ((gi daE (cut x1.L (Int.toNat x33) (Int.toNat (wr .i64 (x33 + (gi (0 : Int) x1.Cut x34))))) (wr .i64 (((cut x1.L (Int.toNat x33) (Int.toNat (wr .i64 (x33 + (gi (0 : Int) x1.Cut x34))))).length : Int) - 1))).Key) x9 (S.sel (is := [0, 5]) rfl) _ h39) ?_
   rintro _ _ ⟨rfl, S⟩
   refine ⟨_, rfl, fun _ T => ?_⟩
   replace S := S.join
   refine v1 T rfl fun T => sq (sq (rg (v2 T rfl rfl fun T => ?_)))
   rcases ifE H with ⟨h41, H⟩ | ⟨h41, H⟩
   ·refine cdT T rfl h41 (Gets.exit rfl (rg (v3 T rfl rfl rfl fun T => Gets.inLoop ?_)))
    exact ih (wr .i64 (x33 + (gi (0 : Int) x1.Cut x34))) (wr .i64 (x34 + 1)) x32 _ _ (T.sb rfl) (S.only [3, 3, 3, 3, 1, 2, 2, 2, 2] rfl) H
   ·refine cdF T rfl h41 (sk (sq (rg (v2 T rfl rfl fun T => r_fa (o' := 3) T rfl tu50 rfl ts3 rfl rfl fun _ T => lB (ix := 3) T S rfl ti3 rfl rfl rfl fun _ T => v2 T rfl rfl fun T => r_fa (o' := 3) T rfl tu50 rfl ts3 rfl rfl fun _ T => r_stB (ix := 3) T S rfl rfl rfl ts3 rfl (nle rfl) rfl fun _ S => sq (rg (v3 T rfl rfl rfl fun T => ?_))))))
    obtain ⟨x43, h42, H⟩ := bd H
    refine rc T Try.call50 rfl rfl (r4_Newest.ok _ _ z (cut x1.L (Int.toNat x33) (Int.toNat (wr .i64 (x33 + (gi (0 : Int) x1.Cut x34))))) x9 x13 (S.sel (is := [2, 1]) rfl) _ h42) ?_
    rintro _ _ ⟨A44, k45, A46, k47, rfl, S⟩
    refine ⟨_, rfl, fun _ T => ?_⟩
    replace S := S.join
    refine v3 T rfl rfl rfl fun T => r_alloc T S zv36 (cs := (y2)) rfl rfl fun _ _ b48 S T => ?_
    refine r_stBA (ix := 0) (vs := [.slice A44 x43.1.Key.length k45, .int .u64 x43.1.Seq, .bool x43.1.Del, .slice A46 x43.1.Value.length k47]) T S rfl rfl rfl rfl (by simp) ts36 (nle rfl) rfl fun _ S => ?_
    refine v1 T rfl fun T => sq (rg (v2 T rfl rfl fun T => ?_))
    rcases ifE H with ⟨h49, H⟩ | ⟨h49, H⟩
    ·refine gn T rfl h49 fun T => gn T rfl h49 fun T => pT T rfl h49 rfl rfl fun _ T => cdT T rfl rfl (Gets.exit rfl (sq ?_))
     exact J2_ok F r z b2 x9 A10 k11 m12 b14 b21 x16 A3 x1 k4 A5 k6 A7 k8 x32 A17 k18 A19 k20 x13 _ _ (T.sb rfl) (S.only [6, 6, 6, 6, 4, 5, 5, 5, 5] rfl) H
    ·refine gy T rfl h49 (v1 T rfl fun T => gy T rfl h49 (v1 T rfl fun T => pF T rfl h49 rfl rfl fun _ T => ?_))
     rcases ifE H with ⟨h50, H⟩ | ⟨h50, H⟩
     ·refine cdT T rfl h50 (Gets.exit rfl (sq ?_))
      exact J2_ok F r z b2 x9 A10 k11 m12 b14 b21 x16 A3 x1 k4 A5 k6 A7 k8 x32 A17 k18 A19 k20 x13 _ _ (T.sb rfl) (S.only [6, 6, 6, 6, 4, 5, 5, 5, 5] rfl) H
     ·refine cdF T rfl h50 (sk (Gets.inBlock (rg (v3 T rfl rfl rfl fun T => Gets.inLoop ?_))))
      exact ih (wr .i64 (x33 + (gi (0 : Int) x1.Cut x34))) (wr .i64 (x34 + 1)) (wr .i64 (x32 + 1)) _ _ (T.sb rfl) (S.only [6, 6, 6, 6, 4, 5, 5, 5, 5] rfl) H
  ·refine cdF T rfl h35 (Gets.exit rfl (sq ?_))
   refine rg (r_ldBA (ix := 6) (ds := (y0 A17 x16 k18 A19 k20)) T S rfl ti36 rfl rfl ts36 rfl fun _ T => v1 T rfl fun T => r_stBA (ix := 5) (vs := (y0 A17 x16 k18 A19 k20)) T S rfl rfl rfl rfl (by simp) ts36 (nle rfl) rfl fun _ S => ?_)
   refine v1 T rfl fun T => ?_
   obtain rfl := sj H
   exact rtnM T S tf22 rfl ⟨_, _, rfl, ⟨b14, _, 5, rfl, rfl, .inl ⟨ti36, ts36, rfl⟩⟩, ⟨_, _, rfl, rfl, rfl⟩⟩ ⟨A17, k18, A19, k20, A3, k4, A5, k6, A7, k8, rfl, (S.only [7, 7, 0, 0, 0, 0, 0] rfl)⟩
theorem J0_ok (F : List Atom) (r : aE × Bool × r4_Table) (z b2 : Nat) (x9 : List Int) (A10 : OA) (k11 : Nat) (m12 : Md) (b14 : Nat) (A3 : OA) (x1 : r4_Table) (k4 : Nat) (A5 : OA) (k6 : Nat) (A7 : OA) (k8 : Nat) (x13 : Int) (a : Act) (w : World) (T : Tm 135 [(6, .pointer (some ⟨b14, 0, none⟩))] a) (S : SL ([blk b2 [.slice A3 x1.L.length k4, .slice A5 x1.Cut.length k6, .slice A7 x1.filter.length k8, .int .i64 x1.reads], sl .ro kaE A3 k4 x1.L, sl .ro ki64 A5 k6 x1.Cut, sl .ro ku8 A7 k8 x1.filter, sl m12 ku8 A10 k11 x9, blk b14 (y2)] ++ F) w) (H : J0 z x1 = some r) : Gets Try.prog 22 ptJ0 a w (R F b2 x9 A10 k11 m12 r) := by
 refine rg (r_build (cs := #[.slice none 0 0, .int .u64 0, .bool false, .slice none 0 0]) T stt36 rfl rfl rfl fun _ T => r_stBA (ix := 5) (vs := (y2)) T S rfl rfl rfl rfl (by simp) ts36 (nle rfl) rfl fun _ S => ?_)
 refine v1 T rfl fun T => ?_
 replace S := S.nil ku8 .ro
 replace S := S.nil ku8 .ro
 obtain rfl := sj H
 exact rtnM T S tf22 rfl ⟨_, _, rfl, ⟨b14, _, 7, rfl, rfl, .inl ⟨ti36, ts36, rfl⟩⟩, ⟨_, _, rfl, rfl, rfl⟩⟩ ⟨none, 0, none, 0, A3, k4, A5, k6, A7, k8, rfl, (S.only [1, 0, 0, 0, 0, 0, 0] rfl)⟩
theorem ok (F : List Atom) (w : World) (z : Nat) (x1 : r4_Table) (x9 : List Int) (x13 : Int) {b2 : Nat} {A3 : OA} {k4 : Nat} {A5 : OA} {k6 : Nat} {A7 : OA} {k8 : Nat} {A10 : OA} {k11 : Nat} {m12 : Md} (S : SL ([blk b2 [.slice A3 x1.L.length k4, .slice A5 x1.Cut.length k6, .slice A7 x1.filter.length k8, .int .i64 x1.reads], sl .ro kaE A3 k4 x1.L, sl .ro ki64 A5 k6 x1.Cut, sl .ro ku8 A7 k8 x1.filter, sl m12 ku8 A10 k11 x9] ++ F) w) (r : aE × Bool × r4_Table) (H : f z x1 x9 x13 = some r) : Calls Try.prog 22 #[.pointer (some ⟨b2, 0, none⟩), .slice A10 x9.length k11, .int .u64 x13] w (R F b2 x9 A10 k11 m12 r) := by
 refine enter (vs := [.pointer (some ⟨b2, 0, none⟩), .slice A10 x9.length k11, .int .u64 x13]) tf22 rfl Try.ntmps22 (nle rfl) fun a T => ?_
 refine sq (rg (r_alloc T S zv36 (cs := (y2)) rfl rfl fun _ _ b14 S T => v1 T rfl fun T => sq (rg (v2 T rfl rfl fun T => r_fa (o' := 0) T rfl tu50 rfl ts22 rfl rfl fun _ T => lB (ix := 1) T S rfl ti22 rfl rfl rfl fun _ T => v2 T rfl rfl fun T => ?_))))
 obtain ⟨x16, h15, H⟩ := bd H
 refine rc T Try.call50 rfl rfl (r4_Newest.ok _ _ z x1.L x9 x13 (S.sel (is := [2, 4]) rfl) _ h15) ?_
 rintro _ _ ⟨A17, k18, A19, k20, rfl, S⟩
 refine ⟨_, rfl, fun _ T => ?_⟩
 replace S := S.join
 refine v3 T rfl rfl rfl fun T => r_alloc T S zv36 (cs := (y2)) rfl rfl fun _ _ b21 S T => ?_
 refine r_stBA (ix := 0) (vs := (y0 A17 x16 k18 A19 k20)) T S rfl rfl rfl rfl (by simp) ts36 (nle rfl) rfl fun _ S => ?_
 refine v1 T rfl fun T => sq (rg (v3 T rfl rfl rfl fun T => r_fa (o' := 0) T rfl tu50 rfl ts22 rfl rfl fun _ T => lB (ix := 6) T S rfl ti22 rfl rfl rfl fun _ T => ?_))
 obtain ⟨h22, H⟩ := ck H
 refine r_ia (ix := 3) T S rfl rfl rfl rfl tu22 ts36 (by decide) h22 rfl fun _ T => ?_
 refine r_faE T rfl tu36 rfl ts24 rfl fun _ T => r_ldR (ix := 3) (i := 0) (off := 0) T S rfl ti24 rfl daE _ rfl rfl fld_aE_Key (by decide) h22 rfl rfl fun _ _ S T => ?_
 obtain ⟨A23, k24, hv_, S_⟩ := S.ofVal
 subst hv_
 replace S := S_
 obtain ⟨x26, h25, H⟩ := bd H
 refine rc T tc51 rfl rfl (r1_Compare.ok _ _ z x9 ((gi daE x1.L 0).Key) (S.sel (is := [5, 0]) rfl) _ h25) ?_
 rintro _ _ ⟨rfl, S⟩
 refine ⟨_, rfl, fun _ T => ?_⟩
 replace S := S.join
 refine v1 T rfl fun T => sq ?_
 obtain ⟨h2661, H⟩ := ck H
 obtain ⟨_, S⟩ := S.peek1 (ix := 5) (off := 0) (i := wr .i64 ((x1.L.length : Int) - 1)) rfl daE fld_aE_Key h2661.1 h2661.2 rfl
 obtain ⟨A2781, k2782, hv_, S_⟩ := SL.ofVal (l := _ :: _) S
 subst hv_
 replace S := S_
 refine Gets.drawn (l := [sl .ro ku8 A2781 k2782 ((gi daE x1.L (wr .i64 ((x1.L.length : Int) - 1))).Key), cl A3 (Int.toNat (wr .i64 ((x1.L.length : Int) - 1)) * 4 + 0) [.slice A2781 (((gi daE x1.L (wr .i64 ((x1.L.length : Int) - 1))).Key).length) k2782], sl m12 ku8 A10 k11 x9, blk b21 (y0 A17 x16 k18 A19 k20), sl .ro ku8 A17 k18 x16.1.Key, sl .ro ku8 A19 k20 x16.1.Value, sl .ro kaE A3 k4 x1.L, blk b14 (y2), blk b2 [.slice A3 x1.L.length k4, .slice A5 x1.Cut.length k6, .slice A7 x1.filter.length k8, .int .i64 x1.reads], sl .ro ki64 A5 k6 x1.Cut, sl .ro ku8 A7 k8 x1.filter]) (V := [some (.slice A10 x9.length k11, true), (y1 b2), (y1 b2), (y1 b2), some (.slice A3 x1.L.length k4, true), (y1 b2), (y1 b2), (y1 b2), some (.slice A3 x1.L.length k4, true), some (.int .i64 (x1.L.length : Int), true), some (.int .i64 (wr .i64 ((x1.L.length : Int) - 1)), true), some (.pointer (some (eA A3 (Int.toNat (wr .i64 ((x1.L.length : Int) - 1)) * 4))), true), some (.pointer (some (eA A3 (Int.toNat (wr .i64 ((x1.L.length : Int) - 1)) * 4 + 0))), true), some (.slice A2781 (((gi daE x1.L (wr .i64 ((x1.L.length : Int) - 1))).Key).length) k2782, true), none, none]) mixed T (S.only [0, 0, 0, 1, 1, 1, 1, 1, 1, 1, 1] rfl) rfl ?_
 refine stage (some 14) rfl rfl ⟨⟨_, _, rfl, (avl [1] rfl), fun _ _ _ T S => v1 T rfl fun T => ⟨rfl, T⟩⟩, ⟨_, _, rfl, (avl [0] rfl), fun _ _ _ T S => v1 T rfl fun T => ⟨rfl, T⟩⟩, ⟨_, _, rfl, (avl [39] rfl), fun _ _ _ T S => v1 T rfl fun T => ⟨rfl, T⟩⟩, ⟨_, _, rfl, (avl [40] rfl), fun _ _ _ T S => r_fa (o' := 0) T rfl tu50 rfl ts22 rfl rfl fun _ T => ⟨rfl, T⟩⟩, ⟨_, _, rfl, (avl [41] rfl), fun _ _ _ T S => lB (ix := 8) T S rfl ti22 rfl rfl rfl fun _ T => ⟨rfl, T⟩⟩, ⟨_, _, rfl, (avl [0] rfl), fun _ _ _ T S => v1 T rfl fun T => ⟨rfl, T⟩⟩, ⟨_, _, rfl, (avl [43] rfl), fun _ _ _ T S => v1 T rfl fun T => ⟨rfl, T⟩⟩, ⟨_, _, rfl, (avl [44] rfl), fun _ _ _ T S => r_fa (o' := 0) T rfl tu50 rfl ts22 rfl rfl fun _ T => ⟨rfl, T⟩⟩, ⟨_, _, rfl, (avl [45] rfl), fun _ _ _ T S => lB (ix := 8) T S rfl ti22 rfl rfl rfl fun _ T => ⟨rfl, T⟩⟩, ⟨_, _, rfl, (avl [46] rfl), fun _ _ _ T S => rn T rfl tu22 rfl fun _ T => ⟨rfl, T⟩⟩, ⟨_, _, rfl, (avl [47] rfl), fun _ _ _ T S => v1 T rfl fun T => ⟨rfl, T⟩⟩, ⟨_, _, rfl, (avl [42, 48] rfl), fun _ _ _ T S => r_ia (ix := 6) T S rfl rfl rfl rfl tu22 ts36 h2661.1 h2661.2 rfl fun _ T => ⟨rfl, T⟩⟩, ⟨_, _, rfl, (avl [49] rfl), fun _ _ _ T S => r_faE T rfl tu36 rfl ts24 rfl fun _ T => ⟨rfl, T⟩⟩, ⟨_, _, rfl, (avl [50] rfl), fun _ _ _ T S => r_ldC (ix := 1) (A := A3) T S rfl rfl rfl ti24 rfl fun _ T => ⟨rfl, T⟩⟩, trivial⟩ rfl (fun i hi => ?_) (fun h => by cases h)
 cases hi
 refine ⟨rfl, _, _, rfl, (avl [38, 51] rfl), fun u a w T S => ?_⟩
 obtain ⟨x2842, h2841, H⟩ := bd H
 refine rc T tc51 rfl rfl (r1_Compare.ok _ _ z x9 ((gi daE x1.L (wr .i64 ((x1.L.length : Int) - 1))).Key) (S.sel (is := [2, 0]) rfl) _ h2841) ?_
 rintro _ _ ⟨rfl, S⟩
 refine ⟨_, rfl, fun _ T => ?_⟩
 replace S := S.join
 refine ⟨_, [some (.slice A10 x9.length k11, false), (y1 b2), (y1 b2), (y1 b2), some (.slice A3 x1.L.length k4, true), (y1 b2), (y1 b2), (y1 b2), some (.slice A3 x1.L.length k4, true), some (.int .i64 (x1.L.length : Int), true), some (.int .i64 (wr .i64 ((x1.L.length : Int) - 1)), true), some (.pointer (some (eA A3 (Int.toNat (wr .i64 ((x1.L.length : Int) - 1)) * 4))), true), some (.pointer (some (eA A3 (Int.toNat (wr .i64 ((x1.L.length : Int) - 1)) * 4 + 0))), true), some (.slice A2781 (((gi daE x1.L (wr .i64 ((x1.L.length : Int) - 1))).Key).length) k2782, false), some (.int .i64 x2842, false), some (.int .i64 x2842, true)], [sl m12 ku8 A10 k11 x9, sl .ro ku8 A2781 k2782 ((gi daE x1.L (wr .i64 ((x1.L.length : Int) - 1))).Key), cl A3 (Int.toNat (wr .i64 ((x1.L.length : Int) - 1)) * 4 + 0) [.slice A2781 (((gi daE x1.L (wr .i64 ((x1.L.length : Int) - 1))).Key).length) k2782], blk b21 (y0 A17 x16 k18 A19 k20), sl .ro ku8 A17 k18 x16.1.Key, sl .ro ku8 A19 k20 x16.1.Value, sl .ro kaE A3 k4 x1.L, blk b14 (y2), blk b2 [.slice A3 x1.L.length k4, .slice A5 x1.Cut.length k6, .slice A7 x1.filter.length k8, .int .i64 x1.reads], sl .ro ki64 A5 k6 x1.Cut, sl .ro ku8 A7 k8 x1.filter], rfl, (by repeat first | exact kx0 | apply kxs | apply kxn), rfl, ?_, T, S⟩
 refine stage none rfl rfl ⟨⟨_, _, rfl, (avl [0] rfl), fun _ _ _ T S => v1 T rfl fun T => ⟨rfl, T⟩⟩, ⟨_, _, rfl, (avl [39] rfl), fun _ _ _ T S => v1 T rfl fun T => ⟨rfl, T⟩⟩, ⟨_, _, rfl, (avl [40] rfl), fun _ _ _ T S => r_fa (o' := 0) T rfl tu50 rfl ts22 rfl rfl fun _ T => ⟨rfl, T⟩⟩, ⟨_, _, rfl, (avl [41] rfl), fun _ _ _ T S => lB (ix := 8) T S rfl ti22 rfl rfl rfl fun _ T => ⟨rfl, T⟩⟩, ⟨_, _, rfl, (avl [0] rfl), fun _ _ _ T S => v1 T rfl fun T => ⟨rfl, T⟩⟩, ⟨_, _, rfl, (avl [43] rfl), fun _ _ _ T S => v1 T rfl fun T => ⟨rfl, T⟩⟩, ⟨_, _, rfl, (avl [44] rfl), fun _ _ _ T S => r_fa (o' := 0) T rfl tu50 rfl ts22 rfl rfl fun _ T => ⟨rfl, T⟩⟩, ⟨_, _, rfl, (avl [45] rfl), fun _ _ _ T S => lB (ix := 8) T S rfl ti22 rfl rfl rfl fun _ T => ⟨rfl, T⟩⟩, ⟨_, _, rfl, (avl [46] rfl), fun _ _ _ T S => rn T rfl tu22 rfl fun _ T => ⟨rfl, T⟩⟩, ⟨_, _, rfl, (avl [47] rfl), fun _ _ _ T S => v1 T rfl fun T => ⟨rfl, T⟩⟩, ⟨_, _, rfl, (avl [42, 48] rfl), fun _ _ _ T S => r_ia (ix := 6) T S rfl rfl rfl rfl tu22 ts36 h2661.1 h2661.2 rfl fun _ T => ⟨rfl, T⟩⟩, ⟨_, _, rfl, (avl [49] rfl), fun _ _ _ T S => r_faE T rfl tu36 rfl ts24 rfl fun _ T => ⟨rfl, T⟩⟩, ⟨_, _, rfl, (avl [52] rfl), fun _ _ _ T S => v1 T rfl fun T => ⟨rfl, T⟩⟩, trivial⟩ rfl (fun i hi => by cases hi) (fun _ _ a w T hv hb S => ?_)
 replace T := T.sub (r := [(0, .pointer (some ⟨b2, 0, none⟩)), (1, .slice A10 x9.length k11), (2, .int .u64 x13), (6, .pointer (some ⟨b14, 0, none⟩)), (8, .pointer (some ⟨b21, 0, none⟩)), (9, .bool x16.2), (10, .int .i64 x26), (11, .int .i64 x2842)]) ⟨hb 0 _ rfl rfl, hb 1 _ rfl rfl, hb 2 _ rfl rfl, hb 6 _ rfl rfl, hb 8 _ rfl rfl, hb 9 _ rfl rfl, hb 10 _ rfl rfl, hv 15 _ 11 rfl rfl rfl, trivial⟩
 refine sq (rg (v2 T rfl rfl fun T => r_fa (o' := 2) T rfl tu50 rfl ts24 rfl rfl fun _ T => lB (ix := 8) T S rfl ti24 rfl rfl rfl fun _ T => v1 T rfl fun T => ?_))
 obtain ⟨x28, h27, H⟩ := bd H
 refine rc T Try.call52 rfl rfl (r3_May.ok _ _ z x1.filter x9 (S.sel (is := [10, 0]) rfl) _ h27) ?_
 rintro _ _ ⟨rfl, S⟩
 refine ⟨_, rfl, fun _ T => ?_⟩
 replace S := S.join
 refine v1 T rfl fun T => sq (sq (rg (v3 T rfl rfl rfl fun T => ?_)))
 rcases ifE H with ⟨h29, H⟩ | ⟨h29, H⟩
 ·refine gn T rfl h29 fun T => gn T rfl h29 fun T => pT T rfl h29 rfl rfl fun _ T => v1 T rfl fun T => gn T rfl rfl fun T => gn T rfl rfl fun T => pT T rfl rfl rfl rfl fun _ T => cdT T rfl rfl (sq ?_)
  exact J0_ok F r z b2 x9 A10 k11 m12 b14 A3 x1 k4 A5 k6 A7 k8 x13 _ _ (T.sb rfl) (S.only [9, 7, 8, 0, 0, 5] rfl) H
 ·refine gy T rfl h29 (v1 T rfl fun T => gy T rfl h29 (v1 T rfl fun T => pF T rfl h29 rfl rfl fun _ T => v1 T rfl fun T => ?_))
  rcases ifE H with ⟨h30, H⟩ | ⟨h30, H⟩
  ·refine gn T rfl h30 fun T => gn T rfl h30 fun T => pT T rfl h30 rfl rfl fun _ T => cdT T rfl rfl (sq ?_)
   exact J0_ok F r z b2 x9 A10 k11 m12 b14 A3 x1 k4 A5 k6 A7 k8 x13 _ _ (T.sb rfl) (S.only [9, 7, 8, 0, 0, 5] rfl) H
  ·refine gy T rfl h30 (v1 T rfl fun T => gy T rfl h30 (v1 T rfl fun T => pF T rfl h30 rfl rfl fun _ T => ?_))
   rcases ifE H with ⟨h31, H⟩ | ⟨h31, H⟩
   ·refine cdT T rfl h31 (sq ?_)
    exact J0_ok F r z b2 x9 A10 k11 m12 b14 A3 x1 k4 A5 k6 A7 k8 x13 _ _ (T.sb rfl) (S.only [9, 7, 8, 0, 0, 5] rfl) H
   ·refine cdF T rfl h31 (sk (sq (rg (v1 T rfl fun T => sq (sq (rg (v1 T rfl fun T => bq (Gets.loop ?_))))))))
    exact L1_ok F r z b2 x9 A10 k11 m12 x13 b14 b21 x16 A3 x1 k4 A5 k6 A7 k8 A17 k18 A19 k20 z 0 0 x1.reads _ _ (T.sb rfl) (S.only [9, 7, 8, 0, 0, 5, 2, 2, 2] rfl) H
end r4_Table_Get
def mayL (b : List Int) (ps : List Int) : Bool := ps.all fun n => bAnd .u8 (gi 0 b (1 + n / 8)) (sShl .u8 1 (n % 8)) != 0
theorem each67_g (z : Nat) {p m x14 : Int} (hp : 0 ≤ p ∧ p ≤ 100) (hm : 0 < m ∧ m ≤ 4611686018427387904 ∧ m % 8 = 0) {b : List Int} (hb : (b.length : Int) = 1 + m / 8) : ∀ (k n i : Nat) (h : Int), p.toNat - i = k → i ≤ p.toNat → k < n → 0 ≤ h ∧ h ≤ 18446744073709551615 →
  b_each_at67.L0 z p m b x14 n h (i : Int) = some (mayL b (posS m (bOr .u64 x14 1) k h))
 | k, 0, _, _, _, _, h, _ => by omega
 | 0, n + 1, i, h, hk, hi, _, hh => by rw [b_each_at67.L0, if_n (by simp; omega)]; rfl
 | k + 1, n + 1, i, h, hk, hi, hn, hh => by
  have h1 : 0 ≤ h % m ∧ h % m < m := ⟨Int.emod_nonneg _ (by omega), Int.emod_lt_of_pos _ (by omega)⟩
  rw [b_each_at67.L0, if_y (by simp; omega), ck_y (by omega), tmod_nn hh.1, tmod_nn h1.1, tdiv_nn h1.1, ck_y (by omega), wU (by omega), wI (by omega), wI (x := (i : Int) + 1) (by omega)]
  unfold b_May_c1.f
  rw [wI (by omega), ck_y (by omega), bd_some, posS]
  unfold mayL
  rw [List.all_cons]
  cases hc : (bAnd .u8 (gi 0 b (1 + h % m / 8)) (sShl .u8 1 (h % m % 8)) != 0) with
  | false => rw [if_y (by rfl)]; rfl
  | true =>
   rw [if_n (by rfl), Bool.true_and]
   exact each67_g z hp hm hb k n (i + 1) _ (by omega) (by omega) (by omega) (wrU_in _)
theorem refMay_L1 (z : Nat) {m : Int} (hm : 0 < m ∧ m ≤ 4611686018427387904 ∧ m % 8 = 0) {b : List Int} (hb : (b.length : Int) = 1 + m / 8) {ps : List Int} (hp : ∀ x ∈ ps, 0 ≤ x ∧ x < m) (hl : ps.length ≤ 1000) : ∀ (k n i : Nat), ps.length - i = k → i ≤ ps.length → k < n →
  r3_May.L1 z b ps n (i : Int) = some (mayL b (ps.drop i))
 | k, 0, _, _, _, h => by omega
 | 0, n + 1, i, hk, hi, _ => by rw [r3_May.L1, if_n (by simp; omega), List.drop_eq_nil_of_le (by omega)]; rfl
 | k + 1, n + 1, i, hk, hi, hn => by
  have hil : i < ps.length := by omega
  have hx := hp _ (List.getElem_mem hil)
  rw [r3_May.L1, if_y (by simp; omega), ck_y (by omega), gi_nat _ _ _ hil, tmod_nn hx.1, tdiv_nn hx.1, ck_y (by omega), wU (x := ps[i] / 8) (by omega), wI (x := ps[i] / 8) (by omega), wI (x := 1 + ps[i] / 8) (by omega), ck_y (by omega), wI (by omega), List.drop_eq_getElem_cons hil]
  unfold mayL
  rw [List.all_cons]
  by_cases hc : bAnd .u8 (gi 0 b (1 + ps[i] / 8)) (sShl .u8 1 (ps[i] % 8)) = 0
  ·rw [if_y (by simpa using hc), hc]; rfl
  ·rw [if_n (by simpa using hc)]
   have h0 : (bAnd .u8 (gi 0 b (1 + ps[i] / 8)) (sShl .u8 1 (ps[i] % 8)) != 0) = true := by rw [bne_iff_ne]; exact hc
   rw [h0, Bool.true_and]
   exact refMay_L1 z hm hb hp hl k n (i + 1) (by omega) (by omega) (by omega)
theorem mks_facts {keys : List (List Int)} {pk : Int} (hn : keys.length ≤ 65536) (hp : 1 ≤ pk ∧ pk ≤ 30) : ((mkS keys pk).length : Int) = 1 + bitsS keys.length pk / 8 ∧ gi (0 : Int) (mkS keys pk) 0 = probS pk := by
 have hbi := bits_in hn hp
 have hlen : (((List.replicate (1 + bitsS keys.length pk / 8).toNat (0 : Int)).set 0 (probS pk)).length : Int) = 1 + bitsS keys.length pk / 8 := by simp; omega
 refine ⟨by unfold mkS; rw [foldK_len]; exact hlen, ?_⟩
 unfold mkS
 rw [gi0_fold (by omega)]
 unfold gi
 rw [show Int.toNat 0 = 0 from rfl, List.getElem?_set_self (by simp; omega)]
 rfl
def mayS (keys : List (List Int)) (pk : Int) (key : List Int) : Bool := mayL (mkS keys pk) (posS (bitsS keys.length pk) (stepS (hashS key)) (probS pk).toNat (hashS key))
theorem May_g {z : Nat} (hz : 16777216 ≤ z) {keys : List (List Int)} {pk : Int} (hn : keys.length ≤ 65536) (hp : 1 ≤ pk ∧ pk ≤ 30) {key : List Int} (hl : key.length ≤ 16777215) : b_May.f z (mkS keys pk) key = some (mayS keys pk key) := by
 have hbi := bits_in hn hp
 have hpi := prob_in hp
 have h64 := bits64 keys.length pk
 obtain ⟨hlen2, hg0⟩ := mks_facts hn hp
 unfold b_May.f
 rw [wI (x := ((mkS keys pk).length : Int) - 1) (by omega), if_n (by rw [decide_eq_false_iff_not]; omega), tmod_nn (by omega), if_n (by rw [bne_eq_false_iff_eq]; omega), ck_y (by omega), hg0, if_n (by rw [beq_eq_false_iff_ne]; omega), if_n (by rw [decide_eq_false_iff_not]; omega), wI (by omega), wU (x := ((mkS keys pk).length : Int) - 1) (by omega), wU (by omega)]
 rw [show (((mkS keys pk).length : Int) - 1) * 8 = bitsS keys.length pk by omega]
 unfold b_each_at67.f
 rw [Hash_f hz hl, bd_some, rot_f, bd_some]
 have := each67_g z (p := probS pk) (m := bitsS keys.length pk) (x14 := bOr .u64 (sShl .u64 (hashS key) 31) (sShr .u64 (hashS key) 33)) (by omega) (by omega) hlen2 (probS pk).toNat z 0 (hashS key) rfl (by omega) (by omega) (hash_in _)
 rw [show (0 : Int) = ((0 : Nat) : Int) from rfl, this, bd_some]
 rfl
theorem refMay_g {z : Nat} (hz : 16777216 ≤ z) {keys : List (List Int)} {pk : Int} (hn : keys.length ≤ 65536) (hp : 1 ≤ pk ∧ pk ≤ 30) {key : List Int} (hl : key.length ≤ 16777215) : r3_May.f z (mkS keys pk) key = some (mayS keys pk key) := by
 have hbi := bits_in hn hp
 have hpi := prob_in hp
 have h64 := bits64 keys.length pk
 obtain ⟨hlen2, hg0⟩ := mks_facts hn hp
 unfold r3_May.f
 rw [if_n (by rw [decide_eq_false_iff_not]; omega), tmod_nn (by omega), if_n (by rw [bne_eq_false_iff_eq]; omega), ck_y (by omega), hg0, if_n (by rw [decide_eq_false_iff_not]; omega), if_n (by rw [decide_eq_false_iff_not]; omega), wI (x := probS pk) (by omega), wI (x := ((mkS keys pk).length : Int) - 1) (by omega), wI (x := 8 * (((mkS keys pk).length : Int) - 1)) (by omega), wU (by omega)]
 rw [show 8 * (((mkS keys pk).length : Int) - 1) = bitsS keys.length pk by omega]
 rw [bits_f hz (by omega) (by omega) (by omega) (by omega), bd_some]
 have := refMay_L1 z (m := bitsS keys.length pk) (b := mkS keys pk) (by omega) hlen2 (posS_in (step := stepS (hashS key)) (by omega) (probS pk).toNat (hashS key)) (by rw [posS_len]; omega) (probS pk).toNat z 0 (by rw [posS_len]; omega) (by omega) (by omega)
 exact this
def zE : aE := ⟨[], 0, false, []⟩
def newS (key : List Int) (seq : Int) (l : List aE) : aE × Bool := match l.find? (fun e => decide (e.Key = key ∧ e.Seq ≤ seq)) with
 | some e => (e, true)
 | none => (zE, false)
theorem newS_no {key : List Int} {seq : Int} {l : List aE} (h : ∀ e ∈ l, ¬ hit key seq e) : newS key seq l = (zE, false) := by
 unfold newS
 rw [List.find?_eq_none.2 fun e he => by simpa [hit] using h e he]
theorem newS_yes {key : List Int} {seq : Int} {A B : List aE} {e : aE} (h : ∀ x ∈ A, ¬ hit key seq x) (he : hit key seq e) : newS key seq (A ++ e :: B) = (e, true) := by
 unfold newS
 have h0 : A.find? (fun e => decide (e.Key = key ∧ e.Seq ≤ seq)) = none := List.find?_eq_none.2 fun e he => by simpa [hit] using h e he
 rw [List.find?_append, h0, Option.none_or, List.find?_cons_of_pos (by simpa [hit] using he)]
theorem new_split (key : List Int) (seq : Int) : ∀ l : List aE, (∀ e ∈ l, ¬ hit key seq e) ∨ ∃ A e B, l = A ++ e :: B ∧ (∀ x ∈ A, ¬ hit key seq x) ∧ hit key seq e
 | [] => .inl (by simp)
 | x :: l => by
  by_cases h : hit key seq x
  ·exact .inr ⟨[], x, l, rfl, by simp, h⟩
  ·rcases new_split key seq l with q | ⟨A, e, B, h1, h2, h3⟩
   ·refine .inl fun e he => ?_
    rcases List.mem_cons.1 he with rfl | he
    ·exact h
    ·exact q e he
   ·refine .inr ⟨x :: A, e, B, by rw [h1]; rfl, fun y hy => ?_, h3⟩
    rcases List.mem_cons.1 hy with rfl | hy
    ·exact h
    ·exact h2 y hy
theorem Newest_L0 (z : Nat) {key : List Int} (hk : Bys key) {seq : Int} : ∀ (u w : List aE) (m : Nat), (∀ e ∈ u, fitS e ∧ okE e) → u.length < m → w.length + u.length ≤ 1000000 →
  r4_Newest.L0 z (w ++ u) key seq m (w.length : Int) = some (newS key seq u)
 | _, _, 0, _, h, _ => by omega
 | [], w, m + 1, _, _, _ => by
  rw [r4_Newest.L0, if_n (by simp)]
  rfl
 | x :: u, w, m + 1, hf, hm, hl => by
  simp only [List.length_cons] at hm hl
  have hx := hf x (List.mem_cons_self ..)
  have hg : gi daE (w ++ x :: u) (w.length : Int) = x := gi_mid _ _ _ _ _ rfl
  have ih := Newest_L0 z hk (seq := seq) u (w ++ [x]) m (fun e he => hf e (List.mem_cons_of_mem _ he)) (by omega) (by simp; omega)
  have ih' : r4_Newest.L0 z (w ++ x :: u) key seq m ((w.length : Int) + 1) = some (newS key seq u) := by
   rw [show ((w.length : Int) + 1) = (((w ++ [x]).length : Nat) : Int) by simp, ← ih]
   simp
  have hno : ¬ hit key seq x → newS key seq (x :: u) = newS key seq u := fun h => by
   unfold newS
   rw [List.find?_cons_of_neg (by simpa [hit] using h)]
  rw [r4_Newest.L0, if_y (by simp; omega), hg, bstr_inj hx.2.1 hk]
  unfold r4_Newest.J1
  by_cases hkk : x.Key = key
  ·rw [if_y (by simpa using hkk), ck_y (by simp; omega)]
   by_cases hs : x.Seq ≤ seq
   ·rw [if_y (by simpa using hs), Copy_f hx.1, bd_some]
    have := newS_yes (key := key) (seq := seq) (A := []) (B := u) (e := x) (by simp) ⟨hkk, hs⟩
    rw [List.nil_append] at this
    rw [this]
   ·rw [if_n (by simpa using hs), wI (by omega), ih', hno fun h => hs h.2]
  ·rw [if_n (by simpa using hkk), ck_y (by simp; omega), wI (by omega), ih', hno fun h => hkk h.1]
theorem Newest_f {z : Nat} (hz : 16777216 ≤ z) {l : List aE} (hf : ∀ e ∈ l, fitS e ∧ okE e) (hl : l.length ≤ 65536) {key : List Int} (hk : Bys key) (seq : Int) : r4_Newest.f z l key seq = some (newS key seq l) := by
 have := Newest_L0 z hk (seq := seq) l [] z hf (by omega) (by simp; omega)
 exact this
theorem last_ge {g : List aE} (h : g.Pairwise ordL) {x : aE} (hx : x ∈ g) : cmpL x.Key (lastKey g) ≤ 0 := by
 obtain ⟨a, y, rfl⟩ : ∃ a y, g = a ++ [y] := by
  have hne : g ≠ [] := List.ne_nil_of_mem hx
  exact ⟨g.dropLast, g.getLast hne, (List.dropLast_concat_getLast hne).symm⟩
 rw [lastKey_snoc]
 rcases List.mem_append.1 hx with q | q
 ·exact ordL_le ((List.pairwise_append.1 h).2.2 x q y (List.mem_singleton.2 rfl))
 ·rw [List.mem_singleton.1 q, cmpL_refl]; exact Int.le_refl _
theorem lastKey_gi {g : List aE} (h : g ≠ []) : (gi daE g ((g.length : Int) - 1)).Key = lastKey g := by
 have hp := List.length_pos_iff.2 h
 rw [show ((g.length : Int) - 1) = ((g.length - 1 : Nat) : Int) by omega, gi_nat _ _ _ (by omega)]
 unfold lastKey
 rw [List.getLast?_eq_some_getLast h, List.getLast_eq_getElem]
 rfl
theorem firstKey_gi {g : List aE} (h : g ≠ []) : (gi daE g 0).Key = firstKey g := by
 cases g with
 | nil => exact absurd rfl h
 | cons x g => rfl
theorem gi_mem' {l : List aE} (h : l ≠ []) : gi daE l 0 ∈ l := by
 cases l with
 | nil => exact absurd rfl h
 | cons x l => exact List.mem_cons_self ..
theorem refCmp_g {z : Nat} (hz : 16777216 ≤ z) {xs ys : List Int} (h : xs.length ≤ 256 ∨ ys.length ≤ 256) : r1_Compare.f z xs ys = some (cmpL xs ys) := refCmp_f hz (by omega)
section
variable {l : List aE} {bb pk : Int} {b : List Int} {gs : List (List aE)} (t : Tab l bb pk b gs)
include t
theorem Tab.inord {g : List aE} (hg : g ∈ gs) : g.Pairwise ordL := by
 have := t.ord
 rw [← t.flat] at this
 exact (List.pairwise_flatten.1 this).1 g hg
theorem Tab.between {P Q : List (List aE)} (h : gs = P ++ Q) {x y : aE} (hx : x ∈ P.flatten) (hy : y ∈ Q.flatten) : cmpL x.Key y.Key ≤ 0 := by
 have := t.ord
 rw [← t.flat, h, List.flatten_append] at this
 exact ordL_le ((List.pairwise_append.1 this).2.2 x hx y hy)
theorem Tab.gne : gs ≠ [] := by
 intro h
 have := t.flat
 rw [h] at this
 exact t.ne this.symm
theorem Tab.lastIs {P : List (List aE)} {g : List aE} (h : gs = P ++ [g]) : lastKey g = lastKey l := by
 have hg := (t.small g (by rw [h]; simp)).1
 rw [← t.flat, h, List.flatten_append]
 unfold lastKey
 rw [List.getLast?_append]
 simp only [List.flatten_cons, List.flatten_nil, List.append_nil]
 cases hq : g.getLast? with
 | none => exact absurd (List.getLast?_eq_none_iff.1 hq) hg
 | some x => rfl
theorem Tab.firstIs {Q : List (List aE)} {g : List aE} (h : gs = g :: Q) : firstKey g = firstKey l := by
 have hg := (t.small g (by rw [h]; simp)).1
 rw [← t.flat, h]
 cases g with
 | nil => exact absurd rfl hg
 | cons x g => rfl
theorem Tab.first (F : List Int) (c r : Int) : s_Table_First.f ⟨b, tblocks 0 gs, F, c, r⟩ = some ((gi daE l 0).Key, ⟨b, tblocks 0 gs, F, c, r⟩) := by
 have hne := t.gne
 cases hgs : gs with
 | nil => exact absurd hgs hne
 | cons g Q =>
  unfold s_Table_First.f
  dsimp only
  rw [ck_y (by rw [tblocks_len]; simp)]
  have hgi : (gi ds_block (tblocks 0 (g :: Q)) 0).first = firstKey g := rfl
  rw [hgi, t.firstIs hgs]
  have hl := firstKey_gi t.ne
  have := (t.fit _ (gi_mem' t.ne)).2.2.1
  unfold bytes_Clone.f slices_Clip_byte.f
  rw [← hl, ck_y (by omega), bd_some, bd_some]
theorem Tab.lastEl : ∃ x ∈ l, (gi daE l ((l.length : Int) - 1)) = x := by
 have hp := List.length_pos_iff.2 t.ne
 refine ⟨l[l.length - 1], List.getElem_mem _, ?_⟩
 rw [show ((l.length : Int) - 1) = ((l.length - 1 : Nat) : Int) by omega, gi_nat _ _ _ (by omega)]
theorem Tab.last (F : List Int) (c r : Int) : s_Table_Last.f ⟨b, tblocks 0 gs, F, c, r⟩ = some ((gi daE l ((l.length : Int) - 1)).Key, ⟨b, tblocks 0 gs, F, c, r⟩) := by
 have hne := t.gne
 have hgl := t.gl
 have hpos : 0 < gs.length := List.length_pos_iff.2 hne
 unfold s_Table_Last.f
 dsimp only
 rw [tblocks_len, wI (by omega), ck_y (by omega), show ((gs.length : Int) - 1) = ((gs.length - 1 : Nat) : Int) by omega, tblocks_last gs 0 _ (by omega)]
 have hgs : gs = gs.dropLast ++ [gs[gs.length - 1]] := by
  rw [← List.getLast_eq_getElem hne]
  exact (List.dropLast_concat_getLast hne).symm
 rw [t.lastIs hgs]
 have hl := lastKey_gi t.ne
 obtain ⟨x, hx, hx2⟩ := t.lastEl
 have := (t.fit _ hx).2.2.1
 unfold bytes_Clone.f slices_Clip_byte.f
 rw [← hl, ck_y (by rw [hx2]; omega), bd_some, bd_some]
end
def cutsS (gs : List (List aE)) : List Int := gs.map fun g => (g.length : Int)
theorem cutsS_at (P : List (List aE)) (g : List aE) (Q : List (List aE)) : gi (0 : Int) (cutsS (P ++ g :: Q)) (P.length : Int) = g.length := by
 unfold cutsS
 rw [List.map_append, List.map_cons]
 exact gi_mid _ _ _ _ _ (by simp)
theorem cutsS_len (gs : List (List aE)) : (cutsS gs).length = gs.length := by simp [cutsS]
theorem no_hit_lt {key : List Int} {seq : Int} {g : List aE} (ho : g.Pairwise ordL) (h : cmpL (lastKey g) key < 0) : ∀ x ∈ g, ¬ hit key seq x := fun x hx q => by
 have h1 := last_ge ho hx
 rw [q.1] at h1
 have := cmpL_swap key (lastKey g)
 omega
section
variable {l : List aE} {bb pk : Int} {b : List Int} {gs : List (List aE)} (t : Tab l bb pk b gs)
include t
theorem Tab.flen {P Q : List (List aE)} (h : gs = P ++ Q) : l.length = P.flatten.length + Q.flatten.length := by
 have := congrArg List.length t.flat
 rw [h, List.flatten_append, List.length_append] at this
 omega
theorem Tab.cutg {P : List (List aE)} {g : List aE} {Q : List (List aE)} (h : gs = P ++ g :: Q) : cut l (Int.toNat (P.flatten.length : Int)) (Int.toNat ((P.flatten.length : Int) + (g.length : Int))) = g := by
 have e : l = P.flatten ++ (g ++ Q.flatten) := by rw [← t.flat, h]; simp
 rw [show Int.toNat (P.flatten.length : Int) = P.flatten.length from rfl, show Int.toNat ((P.flatten.length : Int) + (g.length : Int)) = P.flatten.length + g.length by omega]
 conv => lhs; rw [e]
 exact cut_mid _ _ _ _ _ rfl rfl
theorem Tab.snoc {P : List (List aE)} {g : List aE} {Q : List (List aE)} (h : gs = P ++ g :: Q) : gs = (P ++ [g]) ++ Q := by have _ := t; rw [h]; simp
theorem Tab.ref_step {z : Nat} (hz : 16777216 ≤ z) {key : List Int} (hk : Bys key) {seq : Int} {F : List Int} {r0 : Int} {x16 : aE × Bool} {P : List (List aE)} {g : List aE} {Q : List (List aE)} (h : gs = P ++ g :: Q) (m : Nat) (r : Int) :
  r4_Table_Get.L1 z ⟨l, cutsS gs, F, r0⟩ key seq x16 (m + 1) (P.flatten.length : Int) (P.length : Int) r =
   If (decide (cmpL (lastKey g) key < 0)) (r4_Table_Get.L1 z ⟨l, cutsS gs, F, r0⟩ key seq x16 m (((P ++ [g]).flatten.length : Nat) : Int) (((P ++ [g]).length : Nat) : Int) r)
    (If (newS key seq g).2 (some (x16.1, x16.2, ⟨l, cutsS gs, F, wr .i64 (r + 1)⟩)) (If (decide (cmpL (lastKey g) key > 0)) (some (x16.1, x16.2, ⟨l, cutsS gs, F, wr .i64 (r + 1)⟩)) (r4_Table_Get.L1 z ⟨l, cutsS gs, F, r0⟩ key seq x16 m (((P ++ [g]).flatten.length : Nat) : Int) (((P ++ [g]).length : Nat) : Int) (wr .i64 (r + 1))))) := by
 have hgl := t.gl
 have hl := t.len
 have hgm : g ∈ gs := by rw [h]; simp
 have hf := t.flen h
 simp only [List.flatten_cons, List.length_append] at hf
 have hgc : gi (0 : Int) (cutsS gs) (P.length : Int) = g.length := by rw [h]; exact cutsS_at P g Q
 have hgp := List.length_pos_iff.2 (t.small g hgm).1
 have hgsl : gs.length = P.length + (Q.length + 1) := by rw [h]; simp
 obtain ⟨x, hx, hxk⟩ := lastKey_mem (t.small g hgm).1
 have hxl := (t.fit x (t.mem hgm hx)).2.2.1
 rw [← hxk] at hxl
 rw [r4_Table_Get.L1]
 dsimp only
 rw [if_y (by rw [decide_eq_true_iff, cutsS_len]; omega), ck_y (by rw [cutsS_len]; omega), hgc, wI (x := (P.flatten.length : Int) + (g.length : Int)) (by omega), ck_y (by omega), t.cutg h, wI (x := (g.length : Int) - 1) (by omega), ck_y (by omega), lastKey_gi (t.small g hgm).1, refCmp_g hz (.inl hxl), bd_some, wI (x := (P.length : Int) + 1) (by omega), Newest_f hz (fun e he => ⟨t.fit e (t.mem hgm he), t.oe e (t.mem hgm he)⟩) (by omega) hk seq, bd_some]
 unfold r4_Table_Get.J2
 dsimp only
 rw [show ((P.flatten.length : Int) + (g.length : Int)) = (((P ++ [g]).flatten.length : Nat) : Int) by simp, show ((P.length : Int) + 1) = (((P ++ [g]).length : Nat) : Int) by simp]
theorem Tab.ref_skip {z : Nat} (hz : 16777216 ≤ z) {key : List Int} (hk : Bys key) {seq : Int} {F : List Int} {r0 : Int} {x16 : aE × Bool} {r : Int} {Q : List (List aE)} (m : Nat) : ∀ (P2 P1 : List (List aE)), gs = P1 ++ (P2 ++ Q) → (∀ p ∈ P2, cmpL (lastKey p) key < 0) →
  r4_Table_Get.L1 z ⟨l, cutsS gs, F, r0⟩ key seq x16 (m + P2.length) (P1.flatten.length : Int) (P1.length : Int) r = r4_Table_Get.L1 z ⟨l, cutsS gs, F, r0⟩ key seq x16 m (((P1 ++ P2).flatten.length : Nat) : Int) (((P1 ++ P2).length : Nat) : Int) r
 | [], P1, h, _ => by simp
 | p :: P2, P1, h, hp => by
  have h' : gs = P1 ++ p :: (P2 ++ Q) := h
  rw [List.length_cons, show m + (P2.length + 1) = (m + P2.length) + 1 from rfl, t.ref_step hz hk h', if_y (by simpa using hp p (List.mem_cons_self ..)), Tab.ref_skip hz hk (Q := Q) m P2 (P1 ++ [p]) (by rw [h']; simp) (fun q hq => hp q (List.mem_cons_of_mem _ hq))]
  simp
theorem Tab.get_L1 {z : Nat} (hz : 16777216 ≤ z) {key : List Int} (hk : Bys key) {seq : Int} {F : List Int} {c r0 : Int} : ∀ (Q P : List (List aE)) (m m' : Nat) (r : Int), gs = P ++ Q → (∀ x ∈ P.flatten, ¬ hit key seq x) → Q.length < m → Q.length < m' → (∀ g ∈ Q, 0 ≤ cmpL (lastKey g) key) →
  ∃ r', s_Table_Get.L1 z key seq m (P.length : Int) b (tblocks 0 gs) F c r = some ((newS key seq l).1, (newS key seq l).2, ⟨b, tblocks 0 gs, F, c, r'⟩) ∧
   r4_Table_Get.L1 z ⟨l, cutsS gs, F, r0⟩ key seq (newS key seq l) m' (P.flatten.length : Int) (P.length : Int) r = some ((newS key seq l).1, (newS key seq l).2, ⟨l, cutsS gs, F, r'⟩)
 | _, _, 0, _, _, _, _, h, _, _ => by omega
 | _, _, _, 0, _, _, _, _, h, _ => by omega
 | [], P, m + 1, m' + 1, r, h, hno, _, _, _ => by
  rw [List.append_nil] at h
  have hl : l = P.flatten := by rw [← t.flat, h]
  have hn := newS_no hno
  rw [← hl] at hn
  refine ⟨r, ?_, ?_⟩
  ·rw [s_Table_Get.L1, if_n (by rw [decide_eq_false_iff_not, tblocks_len, h]; simp), hn]
   rfl
  ·rw [r4_Table_Get.L1]
   dsimp only
   rw [if_n (by rw [decide_eq_false_iff_not, cutsS_len, h]; simp)]
 | g :: Q, P, m + 1, m' + 1, r, h, hno, hm, hm', hge => by
  have hgm : g ∈ gs := by rw [h]; simp
  have hgl := t.gl
  have hln := t.len
  have hgsl : gs.length = P.length + (Q.length + 1) := by rw [h]; simp
  have hfl := t.flen h
  simp only [List.flatten_cons, List.length_append] at hfl
  have hfo : ∀ e ∈ g, fitS e ∧ okE e := fun e he => ⟨t.fit e (t.mem hgm he), t.oe e (t.mem hgm he)⟩
  have hlook := look_f hz (b := b) (P := P) (g := g) (Q := Q) (R := rstS gs l bb pk) (by rw [← h]; exact t.hb) t.blen hfo (t.small g hgm).2 F c r
  rw [← h] at hlook
  have hlL : l = P.flatten ++ (g ++ Q.flatten) := by rw [← t.flat, h]; simp
  have hg0 := hge g (List.mem_cons_self ..)
  rw [s_Table_Get.L1, if_y (by rw [decide_eq_true_iff, tblocks_len]; omega), hlook, bd_some, t.ref_step hz hk h, if_n (by rw [decide_eq_false_iff_not]; omega)]
  rcases new_split key seq g with hn | ⟨A, e, B, h1, h2, h3⟩
  ·rw [newS_no hn, if_n (by rfl)]
   by_cases hgt : cmpL (lastKey g) key > 0
   ·refine ⟨wr .i64 (r + 1), ?_, by rw [if_y (by simpa using hgt)]⟩
    have hnl : newS key seq l = (zE, false) := newS_no fun x hx q => by
     rw [hlL] at hx
     rcases List.mem_append.1 hx with hx | hx
     ·exact hno x hx q
     rcases List.mem_append.1 hx with hx | hx
     ·exact hn x hx q
     ·obtain ⟨y, hy, hyk⟩ := lastKey_mem (t.small g hgm).1
      have := t.between (P := P ++ [g]) (Q := Q) (t.snoc h) (x := y) (y := x) (by simp [hy]) hx
      rw [← hyk, q.1] at this
      omega
    rw [hnl]
    have hL2 : ∀ (u w : List aE) (m' : Nat) (q : Int → List Int → List s_block → List Int → Int → Int → Option (aE × Bool × s_Table)), g = w ++ u → u.length < m' → s_Table_Get.L2 z q key seq (P.length : Int) (g, ⟨b, tblocks 0 gs, F, c, wr .i64 (r + 1)⟩) m' (w.length : Int) = some (zE, false, ⟨b, tblocks 0 gs, F, c, wr .i64 (r + 1)⟩) := by
     intro u
     induction u with
     | nil =>
      intro w m' q hg hm'
      obtain ⟨m', rfl⟩ : ∃ k, m' = k + 1 := ⟨m' - 1, by omega⟩
      rw [List.append_nil] at hg
      have hat := tblocks_at P g Q 0
      rw [← h] at hat
      have hlb : Bys (lastKey g) := by
       obtain ⟨y, hy, hyk⟩ := lastKey_mem (t.small g hgm).1
       rw [hyk]; exact (hfo y hy).2.1
      rw [s_Table_Get.L2]
      dsimp only
      rw [if_n (by rw [← hg]; simp), ck_y (by rw [tblocks_len]; omega), hat]
      dsimp only
      rw [Equal_f hlb hk, bd_some, if_y (by
       have : lastKey g ≠ key := fun q => by rw [q, cmpL_refl] at hgt; omega
       simp [this])]
      rfl
     | cons x u ih =>
      intro w m' q hg hm'
      obtain ⟨m', rfl⟩ : ∃ k, m' = k + 1 := ⟨m' - 1, by omega⟩
      have hx : x ∈ g := by rw [hg]; simp
      have := L2_step (z := z) (q := q) (key := key) (seq := seq) (i := (P.length : Int)) (t := ⟨b, tblocks 0 gs, F, c, wr .i64 (r + 1)⟩) hk (w := w) (u := u) (hfo x hx).2 (by have := congrArg List.length hg; simp at this; omega) (m := m') (hn x hx)
      rw [← hg] at this
      rw [this]
      exact ih (w ++ [x]) m' q (by rw [hg]; simp) (by simp at hm'; omega)
    exact hL2 g [] z _ rfl (by omega)
   ·have he : lastKey g = key := cmpL_eq (by omega)
    rw [if_n (by simpa using hgt)]
    have := L2_no (z := z) (q := s_Table_Get.L1 z key seq m) (i := (P.length : Int)) (t := ⟨b, tblocks 0 gs, F, c, wr .i64 (r + 1)⟩) (seq := seq) hk g [] z (by omega) (fun x hx => ⟨(hfo x hx).2, hn x hx⟩) (by simp; omega) (by dsimp only; rw [tblocks_len]; omega) (by
     dsimp only
     have hat := tblocks_at P g Q 0
     rw [← h] at hat
     rw [hat]; exact he)
    rw [List.nil_append, List.length_nil] at this
    rw [show ((0 : Nat) : Int) = 0 from rfl] at this
    rw [this]
    dsimp only
    rw [wI (by omega), show ((P.length : Int) + 1) = (((P ++ [g]).length : Nat) : Int) by simp]
    exact Tab.get_L1 hz hk Q (P ++ [g]) m m' (wr .i64 (r + 1)) (t.snoc h) (fun x hx => by
     simp only [List.flatten_append, List.flatten_cons, List.flatten_nil, List.append_nil] at hx
     rcases List.mem_append.1 hx with hx | hx
     ·exact hno x hx
     ·exact hn x hx) (by simp at hm; omega) (by simp at hm'; omega) (fun p hp => hge p (List.mem_cons_of_mem _ hp))
  ·have hgn : newS key seq g = (e, true) := by rw [h1]; exact newS_yes h2 h3
   have hln2 : newS key seq l = (e, true) := by
    rw [hlL, h1, show P.flatten ++ (A ++ e :: B ++ Q.flatten) = (P.flatten ++ A) ++ e :: (B ++ Q.flatten) by simp]
    refine newS_yes (fun x hx => ?_) h3
    rcases List.mem_append.1 hx with hx | hx
    ·exact hno x hx
    ·exact h2 x hx
   rw [hgn, hln2, if_y (by rfl)]
   refine ⟨wr .i64 (r + 1), ?_, rfl⟩
   have hlen := congrArg List.length h1
   simp only [List.length_append, List.length_cons] at hlen
   have := L2_yes (z := z) (q := s_Table_Get.L1 z key seq m) (i := (P.length : Int)) (t := ⟨b, tblocks 0 gs, F, c, wr .i64 (r + 1)⟩) hk (hfo e (by rw [h1]; simp)).2 h3 (v := B) A [] z (by omega) (fun x hx => ⟨(hfo x (by rw [h1]; simp [hx])).2, h2 x hx⟩) (by simp only [List.length_nil]; omega)
   rw [List.nil_append, ← h1] at this
   exact this
theorem Tab.mono : gs.Pairwise (fun p p' => cmpL (lastKey p) (lastKey p') ≤ 0) := by
 have := t.ord
 rw [← t.flat] at this
 refine List.Pairwise.imp_of_mem (fun {p p'} hp hp' h => ?_) (List.pairwise_flatten.1 this).2
 obtain ⟨x, hx, ex⟩ := lastKey_mem (t.small p hp).1
 obtain ⟨y, hy, ey⟩ := lastKey_mem (t.small p' hp').1
 rw [ex, ey]
 exact ordL_le (h x hx y hy)
theorem Tab.parts {z : Nat} (hz : 16777216 ≤ z) {key : List Int} (hk : Bys key) : ∃ P1 P2, gs = P1 ++ P2 ∧ (∀ p ∈ P1, cmpL (lastKey p) key < 0) ∧ (∀ p ∈ P2, 0 ≤ cmpL (lastKey p) key) ∧ ∀ (F : List Int) (c r : Int), s_Table_find.f z ⟨b, tblocks 0 gs, F, c, r⟩ key = some ((P1.length : Int), ⟨b, tblocks 0 gs, F, c, r⟩) := by
 obtain ⟨P1, P2, h, hlo, hhi⟩ := part_keys key gs t.mono
 have hgl := t.gl
 have hgsl : gs.length = P1.length + P2.length := by rw [h]; simp
 refine ⟨P1, P2, h, hlo, hhi, fun F c r => ?_⟩
 exact find_f hz (t := ⟨b, tblocks 0 gs, F, c, r⟩) hk (tblocks_bys gs 0 fun p hp x hx => t.oe x (t.mem hp hx)) (by dsimp only; rw [tblocks_len]; omega) (s := P1.length) (by dsimp only; rw [tblocks_len]; omega) (fun k hk => by
  dsimp only
  have hkl : k < gs.length := by omega
  rw [tblocks_last gs 0 k hkl]
  have : gs[k] = P1[k] := by
   have h1 : gs[k]? = P1[k]? := by rw [h, List.getElem?_append_left hk]
   rw [List.getElem?_eq_getElem hkl, List.getElem?_eq_getElem hk] at h1
   exact Option.some.inj h1
  rw [this]
  exact hlo _ (List.getElem_mem _)) (fun k hk hk2 => by
  dsimp only at hk2 ⊢
  rw [tblocks_len] at hk2
  rw [tblocks_last gs 0 k hk2]
  have h1 : gs[k]? = P2[k - P1.length]? := by rw [h, List.getElem?_append_right hk]
  rw [List.getElem?_eq_getElem hk2] at h1
  exact hhi _ (List.mem_of_getElem? h1.symm))
theorem Tab.get {z : Nat} (hz : 16777216 ≤ z) {key : List Int} (hk : Bys key) (hkl : key.length ≤ 16777215) (seq r : Int) :
  ∃ x fd r', s_Table_Get.f z ⟨b, tblocks 0 gs, mkS (keysL l) pk, l.length, r⟩ key seq = some (x, fd, ⟨b, tblocks 0 gs, mkS (keysL l) pk, l.length, r'⟩) ∧
   r4_Table_Get.f z ⟨l, cutsS gs, mkS (keysL l) pk, r⟩ key seq = some (x, fd, ⟨l, cutsS gs, mkS (keysL l) pk, r'⟩) ∧ (x = zE ∨ x ∈ l) := by
 have hne := List.length_pos_iff.2 t.ne
 have hln := t.len
 have hgl := t.gl
 have hkn := keysL_len l
 have hm0 := gi_mem' t.ne
 obtain ⟨y, hy, hy2⟩ := t.lastEl
 have h0l := (t.fit _ hm0).2.2.1
 have h1l := (t.fit _ hy).2.2.1
 have hfo : ∀ e ∈ l, fitS e ∧ okE e := fun e he => ⟨t.fit e he, t.oe e he⟩
 unfold s_Table_Get.f r4_Table_Get.f
 dsimp only
 rw [t.first, bd_some]
 dsimp only
 rw [Compare_f hk (t.oe _ hm0).1, bd_some, Newest_f hz hfo t.len hk seq, bd_some, ck_y (by omega), refCmp_g hz (.inr h0l), bd_some, wI (by omega), ck_y (by omega), hy2, refCmp_g hz (.inr h1l), bd_some, refMay_g hz (by omega) t.hpk hkl, bd_some]
 by_cases c1 : cmpL key (gi daE l 0).Key < 0
 ·exact ⟨zE, false, r, by rw [if_y (by simpa using c1)]; rfl, by rw [if_y (by simpa using c1)]; rfl, .inl rfl⟩
 rw [if_n (by simpa using c1), if_n (by simpa using c1), t.last, bd_some, hy2]
 dsimp only
 rw [Compare_f hk (t.oe _ hy).1, bd_some]
 by_cases c2 : cmpL key y.Key > 0
 ·exact ⟨zE, false, r, by rw [if_y (by simpa using c2)]; rfl, by rw [if_y (by simpa using c2)]; rfl, .inl rfl⟩
 rw [if_n (by simpa using c2), if_n (by simpa using c2), May_g hz (by omega) t.hpk hkl, bd_some]
 by_cases c3 : mayS (keysL l) pk key = true
 ·obtain ⟨P1, P2, h, hlo, hhi, hfind⟩ := t.parts hz hk
  have hgsl : gs.length = P1.length + P2.length := by rw [h]; simp
  have hno : ∀ x ∈ P1.flatten, ¬ hit key seq x := fun x hx => by
   obtain ⟨p, hp, hxp⟩ := List.mem_flatten.1 hx
   exact no_hit_lt (t.inord (by rw [h]; simp [hp])) (hlo p hp) x hxp
  rw [if_n (by rw [c3]; rfl), if_n (by rw [c3]; rfl), hfind, bd_some]
  dsimp only
  have hsk := t.ref_skip hz hk (seq := seq) (F := mkS (keysL l) pk) (r0 := r) (x16 := newS key seq l) (r := r) (Q := P2) (z - P1.length) P1 [] (by rw [List.nil_append]; exact h) hlo
  rw [show z - P1.length + P1.length = z by omega] at hsk
  simp only [List.nil_append, List.flatten_nil, List.length_nil] at hsk
  rw [show ((0 : Nat) : Int) = 0 from rfl] at hsk
  rw [hsk]
  obtain ⟨r', e1, e2⟩ := t.get_L1 hz hk (seq := seq) (F := mkS (keysL l) pk) (c := (l.length : Int)) (r0 := r) P2 P1 z (z - P1.length) r h hno (by omega) (by omega) hhi
  refine ⟨_, _, r', e1, e2, ?_⟩
  unfold newS
  cases hq : l.find? (fun e => decide (e.Key = key ∧ e.Seq ≤ seq)) with
  | none => exact .inl rfl
  | some e => exact .inr (List.mem_of_find?_eq_some hq)
 ·have c3' : mayS (keysL l) pk key = false := by simpa using c3
  exact ⟨zE, false, r, by rw [if_y (by rw [c3']; rfl)]; rfl, by rw [if_y (by rw [c3']; rfl)]; rfl, .inl rfl⟩
end
namespace r4_Table_From
noncomputable def c0 : Code := match Try.f49.body with | some c => c | none => .skip
def R (F : List Atom) (b2 : Nat) (x9 : List Int) (A10 : OA) (k11 : Nat) (m12 : Md) (r : Int × Int × r4_Table) : Ending → World → Prop := fun e w' => ∃ (A27 : OA), ∃ (k28 : Nat), ∃ (A29 : OA), ∃ (k30 : Nat), ∃ (A31 : OA), ∃ (k32 : Nat), e = .returned (.tuple #[.int .i64 r.1, .int .i64 r.2.1]) ∧ SL ([blk b2 [.slice A27 r.2.2.L.length k28, .slice A29 r.2.2.Cut.length k30, .slice A31 r.2.2.filter.length k32, .int .i64 r.2.2.reads], sl .ro kaE A27 k28 r.2.2.L, sl .ro ki64 A29 k30 r.2.2.Cut, sl .ro ku8 A31 k32 r.2.2.filter, sl m12 ku8 A10 k11 x9] ++ F) w'
def L1 (z : Nat) (x1 : r4_Table) (x9 : List Int) (x14 : Int) : Nat → Int → Option (Int × Int × r4_Table)
 | 0, _ => none
 | m + 1, x19 => Ck (0 ≤ x19 ∧ x19 < (x1.L.length : Int)) (Bd (r1_Compare.f z ((gi daE x1.L x19).Key) x9) fun x24 => If (decide (x24 < 0)) (L1 z x1 x9 x14 m (wr .i64 (x19 + 1))) (some (x14, x19, x1)))
def L0 (z : Nat) (x1 : r4_Table) (x9 : List Int) : Nat → Int → Int → Option (Int × Int × r4_Table)
 | 0, _, _ => none
 | m + 1, x13, x14 => If (decide (x14 < (x1.Cut.length : Int))) (Ck (0 ≤ x14 ∧ x14 < (x1.Cut.length : Int)) (Ck (0 ≤ wr .i64 ((wr .i64 (x13 + (gi (0 : Int) x1.Cut x14))) - 1) ∧ wr .i64 ((wr .i64 (x13 + (gi (0 : Int) x1.Cut x14))) - 1) < (x1.L.length : Int)) (Bd (r1_Compare.f z ((gi daE x1.L (wr .i64 ((wr .i64 (x13 + (gi (0 : Int) x1.Cut x14))) - 1))).Key) x9) fun x17 => If (decide (x17 ≥ 0)) (L1 z x1 x9 x14 z x13) (L0 z x1 x9 m (wr .i64 (x13 + (gi (0 : Int) x1.Cut x14))) (wr .i64 (x14 + 1)))))) (some ((x1.Cut.length : Int), (x1.L.length : Int), x1))
def f (z : Nat) (x1 : r4_Table) (x9 : List Int) : Option (Int × Int × r4_Table) := L0 z x1 x9 z 0 0
noncomputable def ptL1 : List Item := [.code (cB (cB (cL (cR (cT (cR (cL (cR (cR (cB (cL (cR (cB (cB (cR (cL (cR (cR c0)))))))))))))))))), .inLoop (cB (cB (cL (cR (cT (cR (cL (cR (cR (cB (cL (cR (cB (cB (cR (cL (cR (cR c0)))))))))))))))))), .inBlock 2, .code (cR (cR (cT (cR (cL (cR (cR (cB (cL (cR (cB (cB (cR (cL (cR (cR c0)))))))))))))))), .code (cr 3 (cB (cL (cR (cB (cB (cR (cL (cR (cR c0)))))))))), .inBlock 1, .code (cR (cR (cB (cB (cR (cL (cR (cR c0)))))))), .inLoop (cB (cB (cR (cL (cR (cR c0)))))), .inBlock 0, .code (cr 3 c0)]
noncomputable def ptL0 : List Item := [.code (cB (cB (cR (cL (cR (cR c0)))))), .inLoop (cB (cB (cR (cL (cR (cR c0)))))), .inBlock 0, .code (cr 3 c0)]
abbrev y0 (b2 : Nat) : Value := .pointer (some ⟨b2, 0, none⟩)
abbrev y1 (b2 : Nat) (A3 : OA) (x1 : r4_Table) (k4 : Nat) (A5 : OA) (k6 : Nat) (A7 : OA) (k8 : Nat) (m12 : Md) (A10 : OA) (k11 : Nat) (x9 : List Int) : List Atom := [blk b2 [.slice A3 x1.L.length k4, .slice A5 x1.Cut.length k6, .slice A7 x1.filter.length k8, .int .i64 x1.reads], sl .ro kaE A3 k4 x1.L, sl .ro ki64 A5 k6 x1.Cut, sl .ro ku8 A7 k8 x1.filter, sl m12 ku8 A10 k11 x9]
abbrev y2 (A3681 : OA) (x1 : r4_Table) (x13 x14 : Int) (k3682 : Nat) : Value := .slice A3681 (((gi daE x1.L (wr .i64 ((wr .i64 (x13 + (gi (0 : Int) x1.Cut x14))) - 1))).Key).length) k3682
theorem L1_ok (F : List Atom) (r : Int × Int × r4_Table) (z b2 : Nat) (x9 : List Int) (A10 : OA) (k11 : Nat) (m12 : Md) (x14 : Int) (A3 : OA) (x1 : r4_Table) (k4 : Nat) (A5 : OA) (k6 : Nat) (A7 : OA) (k8 m : Nat) : ∀ (x19 : Int) (a : Act) (w : World), Tm 77 [(0, (y0 b2)), (1, .slice A10 x9.length k11), (7, .int .i64 x14), (10, .int .i64 x19)] a → SL ((y1 b2 A3 x1 k4 A5 k6 A7 k8 m12 A10 k11 x9) ++ F) w → L1 z x1 x9 x14 m x19 = some r → Gets Try.prog 49 ptL1 a w (R F b2 x9 A10 k11 m12 r) := by
 induction m with
 | zero => intro _ _ _ _ _ H; cases H
 | succ m ih =>
  intro x19 a w T S H
  refine sq (sq (rg (v2 T rfl rfl fun T => r_fa (o' := 0) T rfl tu50 rfl ts22 rfl rfl fun _ T => lB (ix := 0) T S rfl ti22 rfl rfl rfl fun _ T => v1 T rfl fun T => ?_)))
  obtain ⟨h20, H⟩ := ck H
  refine r_ia (ix := 1) T S rfl rfl rfl rfl tu22 ts36 h20.1 h20.2 rfl fun _ T => r_faE T rfl tu36 rfl ts24 rfl fun _ T => r_ldR (ix := 1) (i := x19) (off := 0) T S rfl ti24 rfl daE _ rfl rfl fld_aE_Key h20.1 h20.2 rfl rfl fun _ _ S T => ?_
  obtain ⟨A21, k22, hv_, S_⟩ := S.ofVal
  subst hv_
  replace S := S_
  refine v1 T rfl fun T => ?_
  obtain ⟨x24, h23, H⟩ := bd H
  refine rc T tc51 rfl rfl (r1_Compare.ok _ _ z ((gi daE x1.L x19).Key) x9 (S.sel (is := [0, 4]) rfl) _ h23) ?_
  rintro _ _ ⟨rfl, S⟩
  refine ⟨_, rfl, fun _ T => ?_⟩
  replace S := S.join
  refine v1 T rfl fun T => ?_
  rcases ifE H with ⟨h25, H⟩ | ⟨h25, H⟩
  ·refine cdT T rfl h25 (sk (bq (rg (v3 T rfl rfl rfl fun T => Gets.inBlock (Gets.inLoop ?_)))))
   exact ih (wr .i64 (x19 + 1)) _ _ (T.sb rfl) (S.only [2, 2, 2, 2, 1] rfl) H
  ·refine cdF T rfl h25 (Gets.exit rfl (sq (rg (v3 T rfl rfl rfl fun T => v1 T rfl fun T => ?_))))
   obtain rfl := sj H
   exact rtn T Try.func49 rfl rfl ⟨A3, k4, A5, k6, A7, k8, rfl, (S.only [2, 2, 2, 2, 1] rfl)⟩
theorem L0_ok (F : List Atom) (r : Int × Int × r4_Table) (z b2 : Nat) (x9 : List Int) (A10 : OA) (k11 : Nat) (m12 : Md) (A3 : OA) (x1 : r4_Table) (k4 : Nat) (A5 : OA) (k6 : Nat) (A7 : OA) (k8 m : Nat) : ∀ (x13 x14 : Int) (a : Act) (w : World), Tm 77 [(0, (y0 b2)), (1, .slice A10 x9.length k11), (6, .int .i64 x13), (7, .int .i64 x14)] a → SL ((y1 b2 A3 x1 k4 A5 k6 A7 k8 m12 A10 k11 x9) ++ F) w → L0 z x1 x9 m x13 x14 = some r → Gets Try.prog 49 ptL0 a w (R F b2 x9 A10 k11 m12 r) := by
 induction m with
 | zero => intro _ _ _ _ _ _ H; cases H
 | succ m ih =>
  intro x13 x14 a w T S H
  refine sq (sq (rg (v3 T rfl rfl rfl fun T => r_fa (o' := 1) T rfl tu50 rfl ts48 rfl rfl fun _ T => lB (ix := 0) T S rfl ti48 rfl rfl rfl fun _ T => rn T rfl tu48 rfl fun _ T => v1 T rfl fun T => ?_)))
  rcases ifE H with ⟨h15, H⟩ | ⟨h15, H⟩
  ·refine cdT T rfl h15 (sk (sq (bq (sq ?_))))
   obtain ⟨h3321, H⟩ := ck H
   obtain ⟨h3561, H⟩ := ck H
   obtain ⟨_, S⟩ := S.peek1 (ix := 1) (off := 0) (i := wr .i64 ((wr .i64 (x13 + (gi (0 : Int) x1.Cut x14))) - 1)) rfl daE fld_aE_Key h3561.1 h3561.2 rfl
   obtain ⟨A3681, k3682, hv_, S_⟩ := SL.ofVal (l := _ :: _) S
   subst hv_
   replace S := S_
   refine Gets.drawn (l := [sl .ro ku8 A3681 k3682 ((gi daE x1.L (wr .i64 ((wr .i64 (x13 + (gi (0 : Int) x1.Cut x14))) - 1))).Key), cl A3 (Int.toNat (wr .i64 ((wr .i64 (x13 + (gi (0 : Int) x1.Cut x14))) - 1)) * 4 + 0) [(y2 A3681 x1 x13 x14 k3682)], blk b2 [.slice A3 x1.L.length k4, .slice A5 x1.Cut.length k6, .slice A7 x1.filter.length k8, .int .i64 x1.reads], sl .ro kaE A3 k4 x1.L, sl .ro ki64 A5 k6 x1.Cut, sl .ro ku8 A7 k8 x1.filter, sl m12 ku8 A10 k11 x9]) (V := [some ((y0 b2), true), some ((y0 b2), true), some ((y0 b2), true), some (.slice A3 x1.L.length k4, true), some (.int .i64 x13, true), some ((y0 b2), true), some ((y0 b2), true), some (.pointer (some ⟨b2, 1, none⟩), true), some (.slice A5 x1.Cut.length k6, true), some (.int .i64 x14, true), some (.pointer (some (eA A5 (Int.toNat x14 * 1))), true), some (.int .i64 (gi (0 : Int) x1.Cut x14), true), some (.int .i64 (wr .i64 (x13 + (gi (0 : Int) x1.Cut x14))), true), some (.int .i64 (wr .i64 ((wr .i64 (x13 + (gi (0 : Int) x1.Cut x14))) - 1)), true), some (.pointer (some (eA A3 (Int.toNat (wr .i64 ((wr .i64 (x13 + (gi (0 : Int) x1.Cut x14))) - 1)) * 4))), true), some (.pointer (some (eA A3 (Int.toNat (wr .i64 ((wr .i64 (x13 + (gi (0 : Int) x1.Cut x14))) - 1)) * 4 + 0))), true), some ((y2 A3681 x1 x13 x14 k3682), true), some ((y2 A3681 x1 x13 x14 k3682), true)]) mixed T S rfl ?_
   refine stage none rfl rfl ⟨⟨_, _, rfl, (avl [0] rfl), fun _ _ _ T S => v1 T rfl fun T => ⟨rfl, T⟩⟩, ⟨_, _, rfl, (avl [20] rfl), fun _ _ _ T S => v1 T rfl fun T => ⟨rfl, T⟩⟩, ⟨_, _, rfl, (avl [21] rfl), fun _ _ _ T S => r_fa (o' := 0) T rfl tu50 rfl ts22 rfl rfl fun _ T => ⟨rfl, T⟩⟩, ⟨_, _, rfl, (avl [22] rfl), fun _ _ _ T S => lB (ix := 2) T S rfl ti22 rfl rfl rfl fun _ T => ⟨rfl, T⟩⟩, ⟨_, _, rfl, (avl [6] rfl), fun _ _ _ T S => v1 T rfl fun T => ⟨rfl, T⟩⟩, ⟨_, _, rfl, (avl [0] rfl), fun _ _ _ T S => v1 T rfl fun T => ⟨rfl, T⟩⟩, ⟨_, _, rfl, (avl [25] rfl), fun _ _ _ T S => v1 T rfl fun T => ⟨rfl, T⟩⟩, ⟨_, _, rfl, (avl [26] rfl), fun _ _ _ T S => r_fa (o' := 1) T rfl tu50 rfl ts48 rfl rfl fun _ T => ⟨rfl, T⟩⟩, ⟨_, _, rfl, (avl [27] rfl), fun _ _ _ T S => lB (ix := 2) T S rfl ti48 rfl rfl rfl fun _ T => ⟨rfl, T⟩⟩, ⟨_, _, rfl, (avl [7] rfl), fun _ _ _ T S => v1 T rfl fun T => ⟨rfl, T⟩⟩, ⟨_, _, rfl, (avl [28, 29] rfl), fun _ _ _ T S => r_ia (ix := 4) T S rfl rfl rfl rfl tu48 ts3 h3321.1 h3321.2 rfl fun _ T => ⟨rfl, T⟩⟩, ⟨_, _, rfl, (avl [30] rfl), fun _ _ _ T S => r_ldE (ix := 4) (i := x14) (off := 0) (f := (Value.int .i64)) T S rfl ti3 rfl (0 : Int) _ rfl rfl (Fld.all _) h3321.1 h3321.2 id rfl fun _ T => ⟨rfl, T⟩⟩, ⟨_, _, rfl, (avl [24, 31] rfl), fun _ _ _ T S => v1 T rfl fun T => ⟨rfl, T⟩⟩, ⟨_, _, rfl, (avl [32] rfl), fun _ _ _ T S => v1 T rfl fun T => ⟨rfl, T⟩⟩, ⟨_, _, rfl, (avl [23, 33] rfl), fun _ _ _ T S => r_ia (ix := 3) T S rfl rfl rfl rfl tu22 ts36 h3561.1 h3561.2 rfl fun _ T => ⟨rfl, T⟩⟩, ⟨_, _, rfl, (avl [34] rfl), fun _ _ _ T S => r_faE T rfl tu36 rfl ts24 rfl fun _ T => ⟨rfl, T⟩⟩, ⟨_, _, rfl, (avl [35] rfl), fun _ _ _ T S => r_ldC (ix := 1) (A := A3) T S rfl rfl rfl ti24 rfl fun _ T => ⟨rfl, T⟩⟩, ⟨_, _, rfl, (avl [36] rfl), fun _ _ _ T S => v1 T rfl fun T => ⟨rfl, T⟩⟩, trivial⟩ rfl (fun i hi => by cases hi) (fun _ _ a w T hv hb S => ?_)
   replace T := T.sub (r := [(0, (y0 b2)), (1, .slice A10 x9.length k11), (6, .int .i64 x13), (7, .int .i64 x14), (8, (y2 A3681 x1 x13 x14 k3682))]) ⟨hb 0 _ rfl rfl, hb 1 _ rfl rfl, hb 6 _ rfl rfl, hb 7 _ rfl rfl, hv 17 _ 8 rfl rfl rfl, trivial⟩
   refine sq (rg (v2 T rfl rfl fun T => ?_))
   obtain ⟨x17, h16, H⟩ := bd H
   refine rc T tc51 rfl rfl (r1_Compare.ok _ _ z ((gi daE x1.L (wr .i64 ((wr .i64 (x13 + (gi (0 : Int) x1.Cut x14))) - 1))).Key) x9 (S.sel (is := [0, 5]) rfl) _ h16) ?_
   rintro _ _ ⟨rfl, S⟩
   refine ⟨_, rfl, fun _ T => ?_⟩
   replace S := S.join
   refine v1 T rfl fun T => sq (sq (rg (v2 T rfl rfl fun T => ?_)))
   rcases ifE H with ⟨h18, H⟩ | ⟨h18, H⟩
   ·refine cdT T rfl h18 (sq (rg (v2 T rfl rfl fun T => sq (bq (Gets.loop ?_)))))
    exact L1_ok F r z b2 x9 A10 k11 m12 x14 A3 x1 k4 A5 k6 A7 k8 z x13 _ _ (T.sb rfl) (S.only [3, 3, 3, 3, 1] rfl) H
   ·refine cdF T rfl h18 (sk (rg (v3 T rfl rfl rfl fun T => r_fa (o' := 1) T rfl tu50 rfl ts48 rfl rfl fun _ T => lB (ix := 3) T S rfl ti48 rfl rfl rfl fun _ T => v1 T rfl fun T => r_ia (ix := 5) T S rfl rfl rfl rfl tu48 ts3 h3321.1 h3321.2 rfl fun _ T => r_ldE (ix := 5) (i := x14) (off := 0) (f := (Value.int .i64)) T S rfl ti3 rfl (0 : Int) _ rfl rfl (Fld.all _) h3321.1 h3321.2 id rfl fun _ T => v2 T rfl rfl fun T => Gets.inBlock (rg (v3 T rfl rfl rfl fun T => Gets.inLoop ?_)))))
    exact ih (wr .i64 (x13 + (gi (0 : Int) x1.Cut x14))) (wr .i64 (x14 + 1)) _ _ (T.sb rfl) (S.only [3, 3, 3, 3, 1] rfl) H
  ·refine cdF T rfl h15 (Gets.exit rfl (sq ?_))
   refine Gets.drawn (l := (y1 b2 A3 x1 k4 A5 k6 A7 k8 m12 A10 k11 x9)) (V := [some ((y0 b2), true), some ((y0 b2), true), some (.pointer (some ⟨b2, 1, none⟩), true), some (.slice A5 x1.Cut.length k6, true), some (.int .i64 (x1.Cut.length : Int), true), some ((y0 b2), true), some ((y0 b2), true), some ((y0 b2), true), some (.slice A3 x1.L.length k4, true), some (.int .i64 (x1.L.length : Int), true), some (.int .i64 (x1.Cut.length : Int), true), some (.int .i64 (x1.L.length : Int), true)]) mixed T S rfl ?_
   refine stage none rfl rfl ⟨⟨_, _, rfl, (avl [0] rfl), fun _ _ _ T S => v1 T rfl fun T => ⟨rfl, T⟩⟩, ⟨_, _, rfl, (avl [67] rfl), fun _ _ _ T S => v1 T rfl fun T => ⟨rfl, T⟩⟩, ⟨_, _, rfl, (avl [68] rfl), fun _ _ _ T S => r_fa (o' := 1) T rfl tu50 rfl ts48 rfl rfl fun _ T => ⟨rfl, T⟩⟩, ⟨_, _, rfl, (avl [69] rfl), fun _ _ _ T S => lB (ix := 0) T S rfl ti48 rfl rfl rfl fun _ T => ⟨rfl, T⟩⟩, ⟨_, _, rfl, (avl [70] rfl), fun _ _ _ T S => rn T rfl tu48 rfl fun _ T => ⟨rfl, T⟩⟩, ⟨_, _, rfl, (avl [0] rfl), fun _ _ _ T S => v1 T rfl fun T => ⟨rfl, T⟩⟩, ⟨_, _, rfl, (avl [72] rfl), fun _ _ _ T S => v1 T rfl fun T => ⟨rfl, T⟩⟩, ⟨_, _, rfl, (avl [73] rfl), fun _ _ _ T S => r_fa (o' := 0) T rfl tu50 rfl ts22 rfl rfl fun _ T => ⟨rfl, T⟩⟩, ⟨_, _, rfl, (avl [74] rfl), fun _ _ _ T S => lB (ix := 0) T S rfl ti22 rfl rfl rfl fun _ T => ⟨rfl, T⟩⟩, ⟨_, _, rfl, (avl [75] rfl), fun _ _ _ T S => rn T rfl tu22 rfl fun _ T => ⟨rfl, T⟩⟩, ⟨_, _, rfl, (avl [71] rfl), fun _ _ _ T S => v1 T rfl fun T => ⟨rfl, T⟩⟩, ⟨_, _, rfl, (avl [76] rfl), fun _ _ _ T S => v1 T rfl fun T => ⟨rfl, T⟩⟩, trivial⟩ rfl (fun i hi => by cases hi) (fun _ _ a w T hv hb S => ?_)
   replace T := T.sub (r := [(4, .int .i64 (x1.Cut.length : Int)), (5, .int .i64 (x1.L.length : Int))]) ⟨hv 10 _ 4 rfl rfl rfl, hv 11 _ 5 rfl rfl rfl, trivial⟩
   obtain rfl := sj H
   exact rtn T Try.func49 rfl rfl ⟨A3, k4, A5, k6, A7, k8, rfl, (S.only [0, 0, 0, 0, 0] rfl)⟩
theorem ok (F : List Atom) (w : World) (z : Nat) (x1 : r4_Table) (x9 : List Int) {b2 : Nat} {A3 : OA} {k4 : Nat} {A5 : OA} {k6 : Nat} {A7 : OA} {k8 : Nat} {A10 : OA} {k11 : Nat} {m12 : Md} (S : SL ((y1 b2 A3 x1 k4 A5 k6 A7 k8 m12 A10 k11 x9) ++ F) w) (r : Int × Int × r4_Table) (H : f z x1 x9 = some r) : Calls Try.prog 49 #[(y0 b2), .slice A10 x9.length k11] w (R F b2 x9 A10 k11 m12 r) := by
 refine enter (vs := [(y0 b2), .slice A10 x9.length k11]) Try.func49 rfl Try.ntmps49 (nle rfl) fun a T => ?_
 refine sq (rg (v2 T rfl rfl fun T => sq (rg (v1 T rfl fun T => sq (sq (rg (v1 T rfl fun T => bq (Gets.loop ?_))))))))
 exact L0_ok F r z b2 x9 A10 k11 m12 A3 x1 k4 A5 k6 A7 k8 z 0 0 _ _ (T.sb rfl) (S.only [0, 0, 0, 0, 0] rfl) H
end r4_Table_From
namespace r4_Table_Scan
noncomputable def c0 : Code := match Try.f20.body with | some c => c | none => .skip
def R (F : List Atom) (b2 : Nat) (x9 : List Int) (A10 : OA) (k11 : Nat) (m12 : Md) (r : (List aE) × r4_Table) : Ending → World → Prop := fun e w' => ∃ (A60 : OA), ∃ (k61 : Nat), ∃ (A63 : OA), ∃ (k64 : Nat), ∃ (A65 : OA), ∃ (k66 : Nat), ∃ (A67 : OA), ∃ (k68 : Nat), e = .returned (.slice A60 r.1.length k61) ∧ SL ([sl .own kaE A60 k61 r.1, blk b2 [.slice A63 r.2.L.length k64, .slice A65 r.2.Cut.length k66, .slice A67 r.2.filter.length k68, .int .i64 r.2.reads], sl .ro kaE A63 k64 r.2.L, sl .ro ki64 A65 k66 r.2.Cut, sl .ro ku8 A67 k68 r.2.filter, sl m12 ku8 A10 k11 x9] ++ F) w'
def J5 (z : Nat) (x15 : Int × Int × r4_Table) (x31 : Int) (x35 : List aE) : Option ((List aE) × r4_Table) := some (x35, (r4_Table.mk x15.2.2.L x15.2.2.Cut x15.2.2.filter x31))
def J4 (z : Nat) (q3 : Int → Int → Int → (List aE) → Int → Option ((List aE) × r4_Table)) (x13 : Int) (x15 : Int × Int × r4_Table) (x33 : Int) (x35 : List aE) (x43 x44 x42 : Int) : Option ((List aE) × r4_Table) := Ck (0 ≤ x33 ∧ x33 < (x15.2.2.L.length : Int)) (Bd (r4_Copy.f (gi daE x15.2.2.L x33)) fun x51 => Ck ((x35.length + [x51].length) * 64 ≤ 140737488355328) (q3 x43 (wr .i64 (x33 + 1)) x44 (x35 ++ [x51]) x42))
def L3 (z : Nat) (x13 : Int) (x15 : Int × Int × r4_Table) : Nat → Int → Int → Int → (List aE) → Int → Option ((List aE) × r4_Table)
 | 0, _, _, _, _, _ => none
 | m + 1, x32, x33, x34, x35, x31 => If (decide (x33 < (x15.2.2.L.length : Int))) (If (decide ((x35.length : Int) < x13)) (If (x33 == x34) (Ck (0 ≤ wr .i64 (x32 + 1) ∧ wr .i64 (x32 + 1) < (x15.2.2.Cut.length : Int)) (J4 z (L3 z x13 x15 m) x13 x15 x33 x35 (wr .i64 (x32 + 1)) (wr .i64 (x34 + (gi (0 : Int) x15.2.2.Cut (wr .i64 (x32 + 1))))) (wr .i64 (x31 + 1)))) (J4 z (L3 z x13 x15 m) x13 x15 x33 x35 x32 x34 x31)) (J5 z x15 x31 x35)) (J5 z x15 x31 x35)
def J2 (z : Nat) (x13 : Int) (x15 : Int × Int × r4_Table) (x23 x30 : Int) : Option ((List aE) × r4_Table) := L3 z x13 x15 z x15.1 x15.2.1 x23 [] x30
def J1 (z : Nat) (x13 : Int) (x15 : Int × Int × r4_Table) (x23 : Int) : Option ((List aE) × r4_Table) := If (decide (x13 > 0)) (If (decide (x15.1 < (x15.2.2.Cut.length : Int))) (J2 z x13 x15 x23 (wr .i64 (x15.2.2.reads + 1))) (J2 z x13 x15 x23 x15.2.2.reads)) (J2 z x13 x15 x23 x15.2.2.reads)
def L0 (z : Nat) (x13 : Int) (x15 : Int × Int × r4_Table) : Nat → Int → Int → Option ((List aE) × r4_Table)
 | 0, _, _ => none
 | m + 1, x23, x24 => If (decide (x24 ≤ x15.1)) (If (decide (x24 < (x15.2.2.Cut.length : Int))) (Ck (0 ≤ x24 ∧ x24 < (x15.2.2.Cut.length : Int)) (L0 z x13 x15 m (wr .i64 (x23 + (gi (0 : Int) x15.2.2.Cut x24))) (wr .i64 (x24 + 1)))) (J1 z x13 x15 x23)) (J1 z x13 x15 x23)
def f (z : Nat) (x1 : r4_Table) (x9 : List Int) (x13 : Int) : Option ((List aE) × r4_Table) := Bd (r4_Table_From.f z x1 x9) fun x15 => L0 z x13 x15 z 0 0
noncomputable def ptJ5 : List Item := [.code (cL (cr 7 c0)), .code (cr 8 c0)]
noncomputable def ptJ4 : List Item := [.code (cL (cR (cB (cR (cB (cB (cL (cr 6 c0)))))))), .code (cR (cR (cB (cR (cB (cB (cL (cr 6 c0)))))))), .inBlock 3, .inLoop (cB (cB (cL (cr 6 c0)))), .inBlock 2, .code (cr 7 c0)]
noncomputable def ptL3 : List Item := [.code (cB (cB (cL (cr 6 c0)))), .inLoop (cB (cB (cL (cr 6 c0)))), .inBlock 2, .code (cr 7 c0)]
noncomputable def ptJ2 : List Item := [.code (cL (cr 5 c0)), .code (cr 6 c0)]
noncomputable def ptJ1 : List Item := [.code (cL (cL (cr 4 c0))), .code (cR (cL (cr 4 c0))), .code (cr 5 c0)]
noncomputable def ptL0 : List Item := [.code (cB (cB (cR (cL (cr 3 c0))))), .inLoop (cB (cB (cR (cL (cr 3 c0))))), .inBlock 0, .code (cr 4 c0)]
abbrev y0 (b2 : Nat) : Value := .pointer (some ⟨b2, 0, none⟩)
theorem J5_ok (F : List Atom) (r : (List aE) × r4_Table) (z b2 : Nat) (x9 : List Int) (A10 : OA) (k11 : Nat) (m12 : Md) (A36 : OA) (x35 : List aE) (k37 : Nat) (A17 : OA) (x15 : Int × Int × r4_Table) (k18 : Nat) (A19 : OA) (k20 : Nat) (A21 : OA) (k22 : Nat) (x31 x13 : Int) (a : Act) (w : World) (T : Tm 107 [(11, .slice A36 x35.length k37)] a) (S : SL ([blk b2 [.slice A17 x15.2.2.L.length k18, .slice A19 x15.2.2.Cut.length k20, .slice A21 x15.2.2.filter.length k22, .int .i64 x31], sl .ro kaE A17 k18 x15.2.2.L, sl .ro ki64 A19 k20 x15.2.2.Cut, sl .ro ku8 A21 k22 x15.2.2.filter, sl m12 ku8 A10 k11 x9, sl .own kaE A36 k37 x35] ++ F) w) (H : J5 z x15 x31 x35 = some r) : Gets Try.prog 20 ptJ5 a w (R F b2 x9 A10 k11 m12 r) := by
 refine rg (v2 T rfl rfl fun T => ?_)
 obtain rfl := sj H
 exact rtn T Try.func20 rfl rfl ⟨A36, k37, A17, k18, A19, k20, A21, k22, rfl, (S.only [5, 0, 0, 0, 0, 0] rfl)⟩
theorem J4_ok (F : List Atom) (r : (List aE) × r4_Table) (z b2 : Nat) (x9 : List Int) (A10 : OA) (k11 : Nat) (m12 : Md) (x13 x33 : Int) (A36 : OA) (x35 : List aE) (k37 : Nat) (A17 : OA) (x15 : Int × Int × r4_Table) (k18 : Nat) (A19 : OA) (k20 : Nat) (A21 : OA) (k22 : Nat) (q3 : Int → Int → Int → (List aE) → Int → Option ((List aE) × r4_Table)) (hq3 : ∀ (x32 x33 x34 : Int) (A36 : OA) (x35 : List aE) (k37 : Nat) (x31 : Int) (a : Act) (w : World), Tm 107 [(0, (y0 b2)), (2, .int .i64 x13), (7, .int .i64 x32), (8, .int .i64 x33), (9, .int .i64 x34), (11, .slice A36 x35.length k37)] a → SL ([blk b2 [.slice A17 x15.2.2.L.length k18, .slice A19 x15.2.2.Cut.length k20, .slice A21 x15.2.2.filter.length k22, .int .i64 x31], sl .ro kaE A17 k18 x15.2.2.L, sl .ro ki64 A19 k20 x15.2.2.Cut, sl .ro ku8 A21 k22 x15.2.2.filter, sl m12 ku8 A10 k11 x9, sl .own kaE A36 k37 x35] ++ F) w → q3 x32 x33 x34 x35 x31 = some r → Gets Try.prog 20 ptL3 a w (R F b2 x9 A10 k11 m12 r)) (x43 x44 x42 : Int) (a : Act) (w : World) (T : Tm 107 [(0, (y0 b2)), (2, .int .i64 x13), (7, .int .i64 x43), (8, .int .i64 x33), (9, .int .i64 x44), (11, .slice A36 x35.length k37)] a) (S : SL ([blk b2 [.slice A17 x15.2.2.L.length k18, .slice A19 x15.2.2.Cut.length k20, .slice A21 x15.2.2.filter.length k22, .int .i64 x42], sl .ro kaE A17 k18 x15.2.2.L, sl .ro ki64 A19 k20 x15.2.2.Cut, sl .ro ku8 A21 k22 x15.2.2.filter, sl m12 ku8 A10 k11 x9, sl .own kaE A36 k37 x35] ++ F) w) (H : J4 z q3 x13 x15 x33 x35 x43 x44 x42 = some r) : Gets Try.prog 20 ptJ4 a w (R F b2 x9 A10 k11 m12 r) := by
 refine rg (v3 T rfl rfl rfl fun T => r_fa (o' := 0) T rfl tu50 rfl ts22 rfl rfl fun _ T => lB (ix := 0) T S rfl ti22 rfl rfl rfl fun _ T => v1 T rfl fun T => ?_)
 obtain ⟨h45, H⟩ := ck H
 refine r_ia (ix := 1) T S rfl rfl rfl rfl tu22 ts36 h45.1 h45.2 rfl fun _ T => r_ldEA (ix := 1) (i := x33) (off := 0) T S rfl rfl ti36 ts36 daE rfl (Fld.all _) h45.1 h45.2 rfl fun _ _ S T => ?_
 obtain ⟨A46, k47, A48, k49, hv_, S_⟩ := op_aE S
 subst hv_
 replace S := S_
 obtain ⟨x51, h50, H⟩ := bd H
 refine rc T Try.call37 rfl rfl (r4_Copy.ok _ _ (gi daE x15.2.2.L x33) (S.sel (is := [0, 0]) rfl) _ h50) ?_
 rintro _ _ ⟨A52, k53, A54, k55, rfl, S⟩
 refine ⟨_, rfl, fun _ T => ?_⟩
 replace S := S.join
 replace S : SL ([rp kaE x51 [.slice A52 x51.Key.length k53, .int .u64 x51.Seq, .bool x51.Del, .slice A54 x51.Value.length k55], sl .ro ku8 A52 k53 x51.Key, sl .ro ku8 A54 k55 x51.Value, sl .ro ku8 A46 k47 ((gi daE x15.2.2.L x33).Key), sl .ro ku8 A48 k49 ((gi daE x15.2.2.L x33).Value), blk b2 [.slice A17 x15.2.2.L.length k18, .slice A19 x15.2.2.Cut.length k20, .slice A21 x15.2.2.filter.length k22, .int .i64 x42], sl .ro kaE A17 k18 x15.2.2.L, sl .ro ki64 A19 k20 x15.2.2.Cut, sl .ro ku8 A21 k22 x15.2.2.filter, sl m12 ku8 A10 k11 x9, sl .own kaE A36 k37 x35] ++ F) _ := cl_aE (i0 := 0) (i1 := 1) S rfl rfl
 refine r_bsl (κ := kaE) (xs := [x51]) (vs := [.agg #[.slice A52 x51.Key.length k53, .int .u64 x51.Seq, .bool x51.Del, .slice A54 x51.Value.length k55]]) T S sty22 rfl ⟨_, _, rfl, ⟨0, rfl⟩, rfl⟩ rfl (by decide) rfl fun _ _ b56 S T => ?_
 replace S := S.only [0, 1, 1, 1, 1, 1, 1, 1, 1, 1, 1] rfl
 obtain ⟨h59, H⟩ := ck H
 refine r_app (ix := 10) (iy := 0) (xs := x35) (ys := [x51]) T S rfl rfl rfl rfl (by decide) sty22 tu22 (by decide) h59 rfl fun _ _ A57 k58 S T => ?_
 refine v1 T rfl fun T => rg (v3 T rfl rfl rfl fun T => Gets.inBlock (Gets.inLoop ?_))
 exact hq3 x43 (wr .i64 (x33 + 1)) x44 A57 (x35 ++ [x51]) k58 x42 _ _ (T.sb rfl) (S.only [5, 5, 5, 5, 5, 5] rfl) H
theorem L3_ok (F : List Atom) (r : (List aE) × r4_Table) (z b2 : Nat) (x9 : List Int) (A10 : OA) (k11 : Nat) (m12 : Md) (x13 : Int) (A17 : OA) (x15 : Int × Int × r4_Table) (k18 : Nat) (A19 : OA) (k20 : Nat) (A21 : OA) (k22 m : Nat) : ∀ (x32 x33 x34 : Int) (A36 : OA) (x35 : List aE) (k37 : Nat) (x31 : Int) (a : Act) (w : World), Tm 107 [(0, (y0 b2)), (2, .int .i64 x13), (7, .int .i64 x32), (8, .int .i64 x33), (9, .int .i64 x34), (11, .slice A36 x35.length k37)] a → SL ([blk b2 [.slice A17 x15.2.2.L.length k18, .slice A19 x15.2.2.Cut.length k20, .slice A21 x15.2.2.filter.length k22, .int .i64 x31], sl .ro kaE A17 k18 x15.2.2.L, sl .ro ki64 A19 k20 x15.2.2.Cut, sl .ro ku8 A21 k22 x15.2.2.filter, sl m12 ku8 A10 k11 x9, sl .own kaE A36 k37 x35] ++ F) w → L3 z x13 x15 m x32 x33 x34 x35 x31 = some r → Gets Try.prog 20 ptL3 a w (R F b2 x9 A10 k11 m12 r) := by
 induction m with
 | zero => intro _ _ _ _ _ _ _ _ _ _ _ H; cases H
 | succ m ih =>
  intro x32 x33 x34 A36 x35 k37 x31 a w T S H
  refine sq (sq (rg (v3 T rfl rfl rfl fun T => r_fa (o' := 0) T rfl tu50 rfl ts22 rfl rfl fun _ T => lB (ix := 0) T S rfl ti22 rfl rfl rfl fun _ T => rn T rfl tu22 rfl fun _ T => v2 T rfl rfl fun T => ?_)))
  rcases ifE H with ⟨h38, H⟩ | ⟨h38, H⟩
  ·refine gy T rfl h38 (v1 T rfl fun T => gy T rfl h38 (rn T rfl tu22 rfl fun _ T => gy T rfl h38 (v1 T rfl fun T => gy T rfl h38 (v1 T rfl fun T => pT T rfl h38 rfl rfl fun _ T => ?_))))
   rcases ifE H with ⟨h39, H⟩ | ⟨h39, H⟩
   ·refine cdT T rfl h39 (sk (bq (sq (sq (rg (v3 T rfl rfl rfl fun T => ?_))))))
    rcases ifE H with ⟨h40, H⟩ | ⟨h40, H⟩
    ·refine cdT T rfl h40 (sq (rg (v3 T rfl rfl rfl fun T => sq (rg (v3 T rfl rfl rfl fun T => r_fa (o' := 1) T rfl tu50 rfl ts48 rfl rfl fun _ T => lB (ix := 0) T S rfl ti48 rfl rfl rfl fun _ T => v1 T rfl fun T => ?_)))))
     obtain ⟨h41, H⟩ := ck H
     refine r_ia (ix := 2) T S rfl rfl rfl rfl tu48 ts3 h41.1 h41.2 rfl fun _ T => r_ldE (ix := 2) (i := wr .i64 (x32 + 1)) (off := 0) (f := (Value.int .i64)) T S rfl ti3 rfl (0 : Int) _ rfl rfl (Fld.all _) h41.1 h41.2 id rfl fun _ T => v2 T rfl rfl fun T => rg (v2 T rfl rfl fun T => r_fa (o' := 3) T rfl tu50 rfl ts3 rfl rfl fun _ T => lB (ix := 0) T S rfl ti3 rfl rfl rfl fun _ T => v2 T rfl rfl fun T => r_fa (o' := 3) T rfl tu50 rfl ts3 rfl rfl fun _ T => r_stB (ix := 0) T S rfl rfl rfl ts3 rfl (nle rfl) rfl fun _ S => sq ?_)
     exact J4_ok F r z b2 x9 A10 k11 m12 x13 x33 A36 x35 k37 A17 x15 k18 A19 k20 A21 k22 (L3 z x13 x15 m) ih (wr .i64 (x32 + 1)) (wr .i64 (x34 + (gi (0 : Int) x15.2.2.Cut (wr .i64 (x32 + 1))))) (wr .i64 (x31 + 1)) _ _ (T.sb rfl) (S.only [0, 0, 0, 0, 0, 0] rfl) H
    ·refine cdF T rfl h40 (sk (sq ?_))
     exact J4_ok F r z b2 x9 A10 k11 m12 x13 x33 A36 x35 k37 A17 x15 k18 A19 k20 A21 k22 (L3 z x13 x15 m) ih x32 x34 x31 _ _ (T.sb rfl) (S.only [0, 0, 0, 0, 0, 0] rfl) H
   ·refine cdF T rfl h39 (Gets.exit rfl (sq ?_))
    exact J5_ok F r z b2 x9 A10 k11 m12 A36 x35 k37 A17 x15 k18 A19 k20 A21 k22 x31 x13 _ _ (T.sb rfl) (S.only [0, 0, 0, 0, 0, 0] rfl) H
  ·refine gn T rfl h38 fun T => gn T rfl h38 fun T => gn T rfl h38 fun T => gn T rfl h38 fun T => pF T rfl h38 rfl rfl fun _ T => cdF T rfl rfl (Gets.exit rfl (sq ?_))
   exact J5_ok F r z b2 x9 A10 k11 m12 A36 x35 k37 A17 x15 k18 A19 k20 A21 k22 x31 x13 _ _ (T.sb rfl) (S.only [0, 0, 0, 0, 0, 0] rfl) H
theorem J2_ok (F : List Atom) (r : (List aE) × r4_Table) (z b2 : Nat) (x9 : List Int) (A10 : OA) (k11 : Nat) (m12 : Md) (x13 : Int) (x15 : Int × Int × r4_Table) (x23 : Int) (A17 : OA) (k18 : Nat) (A19 : OA) (k20 : Nat) (A21 : OA) (k22 : Nat) (x30 : Int) (a : Act) (w : World) (T : Tm 107 [(0, (y0 b2)), (2, .int .i64 x13), (7, .int .i64 x15.1), (8, .int .i64 x15.2.1), (9, .int .i64 x23)] a) (S : SL ([blk b2 [.slice A17 x15.2.2.L.length k18, .slice A19 x15.2.2.Cut.length k20, .slice A21 x15.2.2.filter.length k22, .int .i64 x30], sl .ro kaE A17 k18 x15.2.2.L, sl .ro ki64 A19 k20 x15.2.2.Cut, sl .ro ku8 A21 k22 x15.2.2.filter, sl m12 ku8 A10 k11 x9] ++ F) w) (H : J2 z x13 x15 x23 x30 = some r) : Gets Try.prog 20 ptJ2 a w (R F b2 x9 A10 k11 m12 r) := by
 refine rg (v1 T rfl fun T => sq (bq (Gets.loop ?_)))
 replace S := S.nil kaE .own
 exact L3_ok F r z b2 x9 A10 k11 m12 x13 A17 x15 k18 A19 k20 A21 k22 z x15.1 x15.2.1 x23 none [] 0 x30 _ _ (T.sb rfl) (S.only [1, 1, 1, 1, 1, 0] rfl) H
theorem J1_ok (F : List Atom) (r : (List aE) × r4_Table) (z b2 : Nat) (x9 : List Int) (A10 : OA) (k11 : Nat) (m12 : Md) (x13 : Int) (x15 : Int × Int × r4_Table) (x23 : Int) (A17 : OA) (k18 : Nat) (A19 : OA) (k20 : Nat) (A21 : OA) (k22 : Nat) (a : Act) (w : World) (T : Tm 107 [(0, (y0 b2)), (2, .int .i64 x13), (7, .int .i64 x15.1), (8, .int .i64 x15.2.1), (9, .int .i64 x23)] a) (S : SL ([blk b2 [.slice A17 x15.2.2.L.length k18, .slice A19 x15.2.2.Cut.length k20, .slice A21 x15.2.2.filter.length k22, .int .i64 x15.2.2.reads], sl .ro kaE A17 k18 x15.2.2.L, sl .ro ki64 A19 k20 x15.2.2.Cut, sl .ro ku8 A21 k22 x15.2.2.filter, sl m12 ku8 A10 k11 x9] ++ F) w) (H : J1 z x13 x15 x23 = some r) : Gets Try.prog 20 ptJ1 a w (R F b2 x9 A10 k11 m12 r) := by
 refine rg (v3 T rfl rfl rfl fun T => ?_)
 rcases ifE H with ⟨h28, H⟩ | ⟨h28, H⟩
 ·refine gy T rfl h28 (v1 T rfl fun T => gy T rfl h28 (v1 T rfl fun T => gy T rfl h28 (v1 T rfl fun T => gy T rfl h28 (r_fa (o' := 1) T rfl tu50 rfl ts48 rfl rfl fun _ T => gy T rfl h28 (lB (ix := 0) T S rfl ti48 rfl rfl rfl fun _ T => gy T rfl h28 (rn T rfl tu48 rfl fun _ T => gy T rfl h28 (v1 T rfl fun T => pT T rfl h28 rfl rfl fun _ T => ?_)))))))
  rcases ifE H with ⟨h29, H⟩ | ⟨h29, H⟩
  ·refine cdT T rfl h29 (rg (v2 T rfl rfl fun T => r_fa (o' := 3) T rfl tu50 rfl ts3 rfl rfl fun _ T => lB (ix := 0) T S rfl ti3 rfl rfl rfl fun _ T => v2 T rfl rfl fun T => r_fa (o' := 3) T rfl tu50 rfl ts3 rfl rfl fun _ T => r_stB (ix := 0) T S rfl rfl rfl ts3 rfl (nle rfl) rfl fun _ S => sq ?_))
   exact J2_ok F r z b2 x9 A10 k11 m12 x13 x15 x23 A17 k18 A19 k20 A21 k22 (wr .i64 (x15.2.2.reads + 1)) _ _ (T.sb rfl) (S.only [0, 0, 0, 0, 0] rfl) H
  ·refine cdF T rfl h29 (sk (sq ?_))
   exact J2_ok F r z b2 x9 A10 k11 m12 x13 x15 x23 A17 k18 A19 k20 A21 k22 x15.2.2.reads _ _ (T.sb rfl) (S.only [0, 0, 0, 0, 0] rfl) H
 ·refine gn T rfl h28 fun T => gn T rfl h28 fun T => gn T rfl h28 fun T => gn T rfl h28 fun T => gn T rfl h28 fun T => gn T rfl h28 fun T => gn T rfl h28 fun T => pF T rfl h28 rfl rfl fun _ T => cdF T rfl rfl (sk (sq ?_))
  exact J2_ok F r z b2 x9 A10 k11 m12 x13 x15 x23 A17 k18 A19 k20 A21 k22 x15.2.2.reads _ _ (T.sb rfl) (S.only [0, 0, 0, 0, 0] rfl) H
theorem L0_ok (F : List Atom) (r : (List aE) × r4_Table) (z b2 : Nat) (x9 : List Int) (A10 : OA) (k11 : Nat) (m12 : Md) (x13 : Int) (x15 : Int × Int × r4_Table) (A17 : OA) (k18 : Nat) (A19 : OA) (k20 : Nat) (A21 : OA) (k22 m : Nat) : ∀ (x23 x24 : Int) (a : Act) (w : World), Tm 107 [(0, (y0 b2)), (2, .int .i64 x13), (7, .int .i64 x15.1), (8, .int .i64 x15.2.1), (9, .int .i64 x23), (10, .int .i64 x24)] a → SL ([blk b2 [.slice A17 x15.2.2.L.length k18, .slice A19 x15.2.2.Cut.length k20, .slice A21 x15.2.2.filter.length k22, .int .i64 x15.2.2.reads], sl .ro kaE A17 k18 x15.2.2.L, sl .ro ki64 A19 k20 x15.2.2.Cut, sl .ro ku8 A21 k22 x15.2.2.filter, sl m12 ku8 A10 k11 x9] ++ F) w → L0 z x13 x15 m x23 x24 = some r → Gets Try.prog 20 ptL0 a w (R F b2 x9 A10 k11 m12 r) := by
 induction m with
 | zero => intro _ _ _ _ _ _ H; cases H
 | succ m ih =>
  intro x23 x24 a w T S H
  refine sq (sq (rg (v3 T rfl rfl rfl fun T => v1 T rfl fun T => ?_)))
  rcases ifE H with ⟨h25, H⟩ | ⟨h25, H⟩
  ·refine gy T rfl h25 (v1 T rfl fun T => gy T rfl h25 (v1 T rfl fun T => gy T rfl h25 (v1 T rfl fun T => gy T rfl h25 (r_fa (o' := 1) T rfl tu50 rfl ts48 rfl rfl fun _ T => gy T rfl h25 (lB (ix := 0) T S rfl ti48 rfl rfl rfl fun _ T => gy T rfl h25 (rn T rfl tu48 rfl fun _ T => gy T rfl h25 (v1 T rfl fun T => pT T rfl h25 rfl rfl fun _ T => ?_)))))))
   rcases ifE H with ⟨h26, H⟩ | ⟨h26, H⟩
   ·refine cdT T rfl h26 (sk (sq (bq (rg (v3 T rfl rfl rfl fun T => r_fa (o' := 1) T rfl tu50 rfl ts48 rfl rfl fun _ T => lB (ix := 0) T S rfl ti48 rfl rfl rfl fun _ T => v1 T rfl fun T => ?_)))))
    obtain ⟨h27, H⟩ := ck H
    refine r_ia (ix := 2) T S rfl rfl rfl rfl tu48 ts3 h27.1 h27.2 rfl fun _ T => r_ldE (ix := 2) (i := x24) (off := 0) (f := (Value.int .i64)) T S rfl ti3 rfl (0 : Int) _ rfl rfl (Fld.all _) h27.1 h27.2 id rfl fun _ T => v2 T rfl rfl fun T => Gets.inBlock (rg (v3 T rfl rfl rfl fun T => Gets.inLoop ?_))
    exact ih (wr .i64 (x23 + (gi (0 : Int) x15.2.2.Cut x24))) (wr .i64 (x24 + 1)) _ _ (T.sb rfl) (S.only [0, 0, 0, 0, 0] rfl) H
   ·refine cdF T rfl h26 (Gets.exit rfl (sq (sq ?_)))
    exact J1_ok F r z b2 x9 A10 k11 m12 x13 x15 x23 A17 k18 A19 k20 A21 k22 _ _ (T.sb rfl) (S.only [0, 0, 0, 0, 0] rfl) H
  ·refine gn T rfl h25 fun T => gn T rfl h25 fun T => gn T rfl h25 fun T => gn T rfl h25 fun T => gn T rfl h25 fun T => gn T rfl h25 fun T => gn T rfl h25 fun T => pF T rfl h25 rfl rfl fun _ T => cdF T rfl rfl (Gets.exit rfl (sq (sq ?_)))
   exact J1_ok F r z b2 x9 A10 k11 m12 x13 x15 x23 A17 k18 A19 k20 A21 k22 _ _ (T.sb rfl) (S.only [0, 0, 0, 0, 0] rfl) H
theorem ok (F : List Atom) (w : World) (z : Nat) (x1 : r4_Table) (x9 : List Int) (x13 : Int) {b2 : Nat} {A3 : OA} {k4 : Nat} {A5 : OA} {k6 : Nat} {A7 : OA} {k8 : Nat} {A10 : OA} {k11 : Nat} {m12 : Md} (S : SL ([blk b2 [.slice A3 x1.L.length k4, .slice A5 x1.Cut.length k6, .slice A7 x1.filter.length k8, .int .i64 x1.reads], sl .ro kaE A3 k4 x1.L, sl .ro ki64 A5 k6 x1.Cut, sl .ro ku8 A7 k8 x1.filter, sl m12 ku8 A10 k11 x9] ++ F) w) (r : (List aE) × r4_Table) (H : f z x1 x9 x13 = some r) : Calls Try.prog 20 #[(y0 b2), .slice A10 x9.length k11, .int .i64 x13] w (R F b2 x9 A10 k11 m12 r) := by
 refine enter (vs := [(y0 b2), .slice A10 x9.length k11, .int .i64 x13]) Try.func20 rfl Try.ntmps20 (nle rfl) fun a T => ?_
 refine sq (rg (v1 T rfl fun T => sq (rg (v2 T rfl rfl fun T => ?_))))
 obtain ⟨x15, h14, H⟩ := bd H
 refine rc T Try.call49 rfl rfl (r4_Table_From.ok _ _ z x1 x9 (S.sel (is := [0, 0, 0, 0, 0]) rfl) _ h14) ?_
 rintro _ _ ⟨A17, k18, A19, k20, A21, k22, rfl, S⟩
 refine ⟨_, rfl, fun _ T => ?_⟩
 replace S := S.join
 refine v3 T rfl rfl rfl fun T => v2 T rfl rfl fun T => sq (rg (v1 T rfl fun T => sq (sq (rg (v1 T rfl fun T => bq (Gets.loop ?_))))))
 exact L0_ok F r z b2 x9 A10 k11 m12 x13 x15 A17 k18 A19 k20 A21 k22 z 0 0 _ _ (T.sb rfl) (S.only [0, 0, 0, 0, 0] rfl) H
end r4_Table_Scan
def scn (most : Nat) : List aE → List (List aE) → List aE → Int → List aE × Int
 | w, [], out, r => (out ++ w.take (most - out.length), r)
 | w, g :: Q, out, r => if most ≤ out.length + w.length then (out ++ w.take (most - out.length), r) else scn most g Q (out ++ w) (wr .i64 (r + 1))
theorem scn_stop {most : Nat} {w : List aE} {Q : List (List aE)} {out : List aE} {r : Int} (h : most ≤ out.length + w.length) : scn most w Q out r = (out ++ w.take (most - out.length), r) := by
 cases Q with
 | nil => rfl
 | cons g Q => rw [scn, if_pos h]
theorem scn_mem {most : Nat} : ∀ (Q : List (List aE)) (w out : List aE) (r : Int), (∀ e ∈ (scn most w Q out r).1, e ∈ out ∨ e ∈ w ∨ e ∈ Q.flatten) ∧ (out.length ≤ most → (scn most w Q out r).1.length ≤ most)
 | [], w, out, r => by
  refine ⟨fun e he => ?_, fun h => ?_⟩
  ·rcases List.mem_append.1 he with q | q
   ·exact .inl q
   ·exact .inr (.inl (List.mem_of_mem_take q))
  ·simp only [scn, List.length_append, List.length_take]; omega
 | g :: Q, w, out, r => by
  rw [scn]
  split
  ·refine ⟨fun e he => ?_, fun h => ?_⟩
   ·rcases List.mem_append.1 he with q | q
    ·exact .inl q
    ·exact .inr (.inl (List.mem_of_mem_take q))
   ·simp only [List.length_append, List.length_take]; omega
  ·obtain ⟨h1, h2⟩ := scn_mem Q g (out ++ w) (wr .i64 (r + 1))
   refine ⟨fun e he => ?_, fun h => h2 (by rw [List.length_append]; omega)⟩
   rcases h1 e he with q | q | q
   ·rcases List.mem_append.1 q with q | q
    ·exact .inl q
    ·exact .inr (.inl q)
   ·exact .inr (.inr (by simp [q]))
   ·exact .inr (.inr (List.mem_flatten.2 (by
     obtain ⟨x, hx, hx2⟩ := List.mem_flatten.1 q
     exact ⟨x, List.mem_cons_of_mem _ hx, hx2⟩)))
def vOf (fr : List Int) (g : List aE) : List aE := g.filter fun e => decide (0 ≤ cmpL e.Key fr)
open w4_scan in
theorem S2_g {z : Nat} (hz : 16777216 ≤ z) {most : Nat} (hmo : most ≤ 100000) {fr : List Int} (hfr : Bys fr) {xs : List aE} (hx : ∀ e ∈ xs, fitS e ∧ okE e) (hxl : xs.length ≤ 1000000) {t : s_Table} {q : List aE → Option (Bool × s_Table × List aE)} : ∀ (k m j : Nat) (out : List aE), xs.length - j = k → j ≤ xs.length → k < m → out.length < most →
  S2 z most fr xs t q m (j : Int) out = if most ≤ out.length + (vOf fr (xs.drop j)).length then some (false, t, out ++ (vOf fr (xs.drop j)).take (most - out.length)) else q (out ++ vOf fr (xs.drop j))
 | k, 0, _, _, _, _, h, _ => by omega
 | 0, m + 1, j, out, hk, hj, _, ho => by
  rw [S2, if_n (by rw [decide_eq_false_iff_not]; omega), List.drop_eq_nil_of_le (by omega), if_neg (by simp [vOf]; omega)]
  simp [vOf]
 | k + 1, m + 1, j, out, hk, hj, hm, ho => by
  have hjl : j < xs.length := by omega
  have he := hx _ (List.getElem_mem hjl)
  rw [S2, if_y (by simp; omega), ck_y (by omega), gi_nat _ _ _ hjl, Compare_f he.2.1 hfr, bd_some, List.drop_eq_getElem_cons hjl]
  have ih := fun out' h => S2_g hz hmo hfr hx hxl (t := t) (q := q) k m (j + 1) out' (by omega) (by omega) (by omega) h
  by_cases hc : 0 ≤ cmpL xs[j].Key fr
  ·have hv : vOf fr (xs[j] :: xs.drop (j + 1)) = xs[j] :: vOf fr (xs.drop (j + 1)) := by unfold vOf; rw [List.filter_cons_of_pos (by simpa using hc)]
   rw [if_y (by simpa using hc), rnd_f hz he.1 (by omega), bd_some, hv]
   dsimp only
   by_cases hs : ((out ++ [xs[j]]).length : Int) < most
   ·have hs' : out.length + 1 < most := by simp at hs; omega
    rw [if_n (by simpa using hs), wI (by omega), show ((j : Int) + 1) = ((j + 1 : Nat) : Int) from rfl, ih _ (by simp; omega)]
    simp only [List.length_append, List.length_cons, List.length_nil]
    by_cases hq : most ≤ out.length + (0 + 1) + (vOf fr (xs.drop (j + 1))).length
    ·rw [if_pos hq, if_pos (by omega), show most - out.length = (most - (out.length + (0 + 1))) + 1 by omega, List.take_succ_cons]
     simp
    ·rw [if_neg hq, if_neg (by omega)]
     simp
   ·have hs' : most = out.length + 1 := by simp at hs; omega
    rw [if_y (by simpa using hs), if_pos (by simp; omega), show most - out.length = 0 + 1 by omega, List.take_succ_cons, List.take_zero]
  ·have hv : vOf fr (xs[j] :: xs.drop (j + 1)) = vOf fr (xs.drop (j + 1)) := by unfold vOf; rw [List.filter_cons_of_neg (by simpa using hc)]
   rw [if_n (by simpa using hc), wI (by omega), show ((j : Int) + 1) = ((j + 1 : Nat) : Int) from rfl, ih _ ho, hv]
section
variable {l : List aE} {bb pk : Int} {b : List Int} {gs : List (List aE)} (t : Tab l bb pk b gs)
include t
open w4_scan in
theorem Tab.S1_g {z : Nat} (hz : 16777216 ≤ z) {most : Nat} (hmo : most ≤ 100000) {fr : List Int} (hfr : Bys fr) {F : List Int} {c : Int} : ∀ (Q P : List (List aE)) (g : List aE) (m : Nat) (out : List aE) (r : Int), gs = P ++ g :: Q → Q.length + 1 < m → out.length < most →
  ∃ fl, S1 z most fr m (P.length : Int) ⟨b, tblocks 0 gs, F, c, r⟩ out = some (fl, ⟨b, tblocks 0 gs, F, c, (scn most (vOf fr g) (Q.map (vOf fr)) out (wr .i64 (r + 1))).2⟩, (scn most (vOf fr g) (Q.map (vOf fr)) out (wr .i64 (r + 1))).1)
 | Q, P, g, 0, _, _, _, h, _ => by omega
 | Q, P, g, m + 1, out, r, h, hm, ho => by
  have hgm : g ∈ gs := by rw [h]; simp
  have hgl := t.gl
  have hln := t.len
  have hgsl : gs.length = P.length + (Q.length + 1) := by rw [h]; simp
  have hfl := t.flen h
  simp only [List.flatten_cons, List.length_append] at hfl
  have hfo : ∀ e ∈ g, fitS e ∧ okE e := fun e he => ⟨t.fit e (t.mem hgm he), t.oe e (t.mem hgm he)⟩
  have hlook := look_f hz (b := b) (P := P) (g := g) (Q := Q) (R := rstS gs l bb pk) (by rw [← h]; exact t.hb) t.blen hfo (t.small g hgm).2 F c r
  rw [← h] at hlook
  have hs2 := S2_g hz hmo hfr hfo (by omega) (t := ⟨b, tblocks 0 gs, F, c, wr .i64 (r + 1)⟩) (q := S1 z most fr m (wr .i64 ((P.length : Int) + 1)) ⟨b, tblocks 0 gs, F, c, wr .i64 (r + 1)⟩) g.length z 0 out (by omega) (by omega) (by omega) ho
  rw [show ((0 : Nat) : Int) = 0 from rfl, List.drop_zero] at hs2
  rw [S1]
  dsimp only
  rw [if_y (by rw [decide_eq_true_iff, tblocks_len]; omega), hlook, bd_some]
  dsimp only
  rw [hs2]
  by_cases hq : most ≤ out.length + (vOf fr g).length
  ·rw [if_pos hq, scn_stop hq]
   exact ⟨_, rfl⟩
  ·rw [if_neg hq, wI (by omega), show ((P.length : Int) + 1) = (((P ++ [g]).length : Nat) : Int) by simp]
   cases Q with
   | nil =>
    obtain ⟨m, rfl⟩ : ∃ k, m = k + 1 := ⟨m - 1, by omega⟩
    rw [S1]
    dsimp only
    rw [if_n (by rw [decide_eq_false_iff_not, tblocks_len, h]; simp)]
    refine ⟨true, ?_⟩
    rw [List.map_nil, scn, List.take_of_length_le (by omega)]
   | cons g' Q =>
    obtain ⟨fl, hr⟩ := Tab.S1_g hz hmo hfr Q (P ++ [g]) g' m (out ++ vOf fr g) (wr .i64 (r + 1)) (t.snoc h) (by simp at hm; omega) (by rw [List.length_append]; omega)
    refine ⟨fl, ?_⟩
    rw [hr, List.map_cons, scn, if_neg hq]
theorem Tab.L3_one {z : Nat} {most : Nat} {F : List Int} {r0 : Int} {x1 x2 : Int} {pre : List aE} {x : aE} {w R : List aE} (h : l = pre ++ (x :: w ++ R)) (m : Nat) (i bd : Int) (out : List aE) (r : Int) (ho : out.length < most) (hb : bd ≠ pre.length) (hmo : most ≤ 100000) :
  r4_Table_Scan.L3 z most (x1, x2, ⟨l, cutsS gs, F, r0⟩) (m + 1) i (pre.length : Int) bd out r = r4_Table_Scan.L3 z most (x1, x2, ⟨l, cutsS gs, F, r0⟩) m i (((pre ++ [x]).length : Nat) : Int) bd (out ++ [x]) r := by
 have hlen := congrArg List.length h
 simp only [List.length_append, List.length_cons] at hlen
 have hln := t.len
 have hg : gi daE l (pre.length : Int) = x := by rw [h]; exact gi_mid _ _ _ _ _ rfl
 have hx : x ∈ l := by rw [h]; simp
 rw [r4_Table_Scan.L3]
 unfold r4_Table_Scan.J4
 dsimp only
 rw [if_y (by rw [decide_eq_true_iff]; omega), if_y (by rw [decide_eq_true_iff]; omega), if_n (by rw [beq_eq_false_iff_ne]; exact fun q => hb q.symm), ck_y (by omega), hg, Copy_f (t.fit x hx), bd_some, ck_y (by simp; omega), wI (by omega)]
 rw [show ((pre.length : Int) + 1) = (((pre ++ [x]).length : Nat) : Int) by simp]
theorem Tab.L3_run {z : Nat} {most : Nat} {F : List Int} {r0 : Int} {x1 x2 : Int} (hmo : most ≤ 100000) {R : List aE} (m : Nat) (i bd : Int) (r : Int) : ∀ (w pre out : List aE), l = pre ++ (w ++ R) → out.length + w.length ≤ most → (pre.length : Int) + w.length ≤ bd →
  r4_Table_Scan.L3 z most (x1, x2, ⟨l, cutsS gs, F, r0⟩) (m + w.length) i (pre.length : Int) bd out r = r4_Table_Scan.L3 z most (x1, x2, ⟨l, cutsS gs, F, r0⟩) m i (((pre ++ w).length : Nat) : Int) bd (out ++ w) r
 | [], pre, out, _, _, _ => by simp
 | x :: w, pre, out, h, ho, hb => by
  simp only [List.length_cons] at ho hb
  rw [List.length_cons, show m + (w.length + 1) = (m + w.length) + 1 from rfl, t.L3_one h _ i bd out r (by omega) (by omega) hmo, Tab.L3_run hmo (R := R) m i bd r w (pre ++ [x]) (out ++ [x]) (by rw [h]; simp) (by simp; omega) (by simp; omega)]
  simp
theorem Tab.L3_full {z : Nat} {most : Nat} {F : List Int} {r0 : Int} {x1 x2 : Int} (m : Nat) (i j bd : Int) (out : List aE) (r : Int) (h : (most : Int) ≤ out.length) : r4_Table_Scan.L3 z most (x1, x2, ⟨l, cutsS gs, F, r0⟩) (m + 1) i j bd out r = some (out, ⟨l, cutsS gs, F, r⟩) := by
 have _ := t
 rw [r4_Table_Scan.L3, if_n (b := decide ((out.length : Int) < most)) (by rw [decide_eq_false_iff_not]; omega)]
 unfold r4_Table_Scan.J5
 unfold If
 split <;> rfl
theorem Tab.L3_end {z : Nat} {most : Nat} {F : List Int} {r0 : Int} {x1 x2 : Int} (m : Nat) (i j bd : Int) (out : List aE) (r : Int) (h : (l.length : Int) ≤ j) : r4_Table_Scan.L3 z most (x1, x2, ⟨l, cutsS gs, F, r0⟩) (m + 1) i j bd out r = some (out, ⟨l, cutsS gs, F, r⟩) := by
 have _ := t
 rw [r4_Table_Scan.L3]
 dsimp only
 rw [if_n (by rw [decide_eq_false_iff_not]; omega)]
 rfl
theorem Tab.L3_bd {z : Nat} {most : Nat} {F : List Int} {r0 : Int} {x1 x2 : Int} (hmo : most ≤ 100000) {P : List (List aE)} {g g' : List aE} {Q : List (List aE)} (h : gs = P ++ g :: g' :: Q) (m : Nat) (out : List aE) (r : Int) (ho : out.length < most) :
  r4_Table_Scan.L3 z most (x1, x2, ⟨l, cutsS gs, F, r0⟩) (m + 1) (P.length : Int) (((P ++ [g]).flatten.length : Nat) : Int) (((P ++ [g]).flatten.length : Nat) : Int) out r =
   r4_Table_Scan.L3 z most (x1, x2, ⟨l, cutsS gs, F, r0⟩) (m + 1) (((P ++ [g]).length : Nat) : Int) (((P ++ [g]).flatten.length : Nat) : Int) (((P ++ [g]).flatten.length + g'.length : Nat) : Int) out (wr .i64 (r + 1)) := by
 have h' := t.snoc h
 have hfl := t.flen h'
 simp only [List.flatten_cons, List.length_append] at hfl
 have hln := t.len
 have hgl := t.gl
 have hgp := List.length_pos_iff.2 (t.small g' (by rw [h]; simp)).1
 have hgsl : gs.length = P.length + (Q.length + 2) := by rw [h]; simp
 have hgc : gi (0 : Int) (cutsS gs) (((P ++ [g]).length : Nat) : Int) = g'.length := by
  have := cutsS_at (P ++ [g]) g' Q
  rw [← h'] at this; exact this
 conv => lhs; rw [r4_Table_Scan.L3]
 conv => rhs; rw [r4_Table_Scan.L3]
 dsimp only
 rw [if_y (by rw [decide_eq_true_iff]; omega), if_y (by rw [decide_eq_true_iff]; omega), if_y (by simp), if_y (by rw [decide_eq_true_iff]; omega), if_y (by rw [decide_eq_true_iff]; omega), if_n (by rw [beq_eq_false_iff_ne]; omega), wI (x := (P.length : Int) + 1) (by omega), ck_y (by rw [cutsS_len]; omega), show ((P.length : Int) + 1) = (((P ++ [g]).length : Nat) : Int) by simp, hgc, wI (by omega), Int.natCast_add]
theorem Tab.L3_g {z : Nat} {most : Nat} (hmo : most ≤ 100000) {F : List Int} {r0 : Int} {x1 x2 : Int} : ∀ (Q P : List (List aE)) (g u w : List aE) (m : Nat) (out : List aE) (r : Int), gs = P ++ g :: Q → g = u ++ w → w.length + Q.flatten.length + 2 < m → out.length < most →
  r4_Table_Scan.L3 z most (x1, x2, ⟨l, cutsS gs, F, r0⟩) m (P.length : Int) ((P.flatten.length + u.length : Nat) : Int) ((P.flatten.length + g.length : Nat) : Int) out r = some ((scn most w Q out r).1, ⟨l, cutsS gs, F, (scn most w Q out r).2⟩) := by
 have full : ∀ (Q P : List (List aE)) (g u w : List aE) (m : Nat) (out : List aE) (r : Int), gs = P ++ g :: Q → g = u ++ w → w.length + Q.flatten.length + 2 < m → out.length < most → most ≤ out.length + w.length →
   r4_Table_Scan.L3 z most (x1, x2, ⟨l, cutsS gs, F, r0⟩) m (P.length : Int) ((P.flatten.length + u.length : Nat) : Int) ((P.flatten.length + g.length : Nat) : Int) out r = some ((scn most w Q out r).1, ⟨l, cutsS gs, F, (scn most w Q out r).2⟩) := by
  intro Q P g u w m out r h hg hm ho hq
  obtain ⟨w1, w2, hw, hw1⟩ : ∃ w1 w2, w = w1 ++ w2 ∧ w1.length = most - out.length := ⟨w.take (most - out.length), w.drop (most - out.length), (List.take_append_drop _ _).symm, by rw [List.length_take]; omega⟩
  have hl : l = (P.flatten ++ u) ++ (w1 ++ (w2 ++ Q.flatten)) := by rw [← t.flat, h, hg, hw]; simp
  have hgl := congrArg List.length hg
  have hwl := congrArg List.length hw
  simp only [List.length_append] at hgl hwl
  have := t.L3_run (z := z) (F := F) (r0 := r0) (x1 := x1) (x2 := x2) hmo (m - w1.length) (P.length : Int) ((P.flatten.length + g.length : Nat) : Int) r w1 (P.flatten ++ u) out hl (by omega) (by simp only [List.length_append]; omega)
  rw [show m - w1.length + w1.length = m by omega] at this
  obtain ⟨k, hk⟩ : ∃ k, m - w1.length = k + 1 := ⟨m - w1.length - 1, by omega⟩
  rw [show P.flatten.length + u.length = (P.flatten ++ u).length by simp, this, hk, t.L3_full k _ _ _ _ _ (by rw [List.length_append]; omega), scn_stop hq, hw, List.take_left' hw1]
 have run : ∀ (Q P : List (List aE)) (g u w : List aE) (m : Nat) (out : List aE) (r : Int), gs = P ++ g :: Q → g = u ++ w → w.length + Q.flatten.length + 2 < m → ¬ most ≤ out.length + w.length →
   ∃ k, m - w.length = k + 1 ∧ r4_Table_Scan.L3 z most (x1, x2, ⟨l, cutsS gs, F, r0⟩) m (P.length : Int) ((P.flatten.length + u.length : Nat) : Int) ((P.flatten.length + g.length : Nat) : Int) out r = r4_Table_Scan.L3 z most (x1, x2, ⟨l, cutsS gs, F, r0⟩) (k + 1) (P.length : Int) (((P ++ [g]).flatten.length : Nat) : Int) (((P ++ [g]).flatten.length : Nat) : Int) (out ++ w) r := by
  intro Q P g u w m out r h hg hm hq
  have hl : l = (P.flatten ++ u) ++ (w ++ Q.flatten) := by rw [← t.flat, h, hg]; simp
  have hgl := congrArg List.length hg
  simp only [List.length_append] at hgl
  have := t.L3_run (z := z) (F := F) (r0 := r0) (x1 := x1) (x2 := x2) hmo (m - w.length) (P.length : Int) ((P.flatten.length + g.length : Nat) : Int) r w (P.flatten ++ u) out hl (by omega) (by simp only [List.length_append]; omega)
  rw [show m - w.length + w.length = m by omega] at this
  obtain ⟨k, hk⟩ : ∃ k, m - w.length = k + 1 := ⟨m - w.length - 1, by omega⟩
  refine ⟨k, hk, ?_⟩
  have e1 : (P ++ [g]).flatten.length = P.flatten.length + g.length := by simp
  have e2 : (P.flatten ++ u ++ w).length = P.flatten.length + g.length := by simp only [List.length_append]; omega
  rw [show P.flatten.length + u.length = (P.flatten ++ u).length by simp, this, hk, e1, e2]
 intro Q
 induction Q with
 | nil =>
  intro P g u w m out r h hg hm ho
  by_cases hq : most ≤ out.length + w.length
  ·exact full [] P g u w m out r h hg hm ho hq
  ·obtain ⟨k, hk, e⟩ := run [] P g u w m out r h hg hm hq
   rw [e, t.L3_end k _ _ _ _ _ (by rw [← h, t.flat]; exact Int.le_refl _), scn, List.take_of_length_le (by omega)]
 | cons g' Q ih =>
  intro P g u w m out r h hg hm ho
  by_cases hq : most ≤ out.length + w.length
  ·exact full (g' :: Q) P g u w m out r h hg hm ho hq
  ·obtain ⟨k, hk, e⟩ := run (g' :: Q) P g u w m out r h hg hm hq
   rw [e, t.L3_bd hmo h k (out ++ w) r (by rw [List.length_append]; omega)]
   simp only [List.flatten_cons, List.length_append] at hm
   have := ih (P ++ [g]) g' [] g' (k + 1) (out ++ w) (wr .i64 (r + 1)) (t.snoc h) rfl (by omega) (by rw [List.length_append]; omega)
   simp only [List.length_nil, Nat.add_zero] at this
   rw [this, scn, if_neg hq]
end
theorem part_es (key : List Int) : ∀ (g : List aE), g.Pairwise ordL → ∃ u v, g = u ++ v ∧ (∀ x ∈ u, cmpL x.Key key < 0) ∧ ∀ x ∈ v, 0 ≤ cmpL x.Key key
 | [], _ => ⟨[], [], rfl, by simp, by simp⟩
 | p :: P, h => by
  obtain ⟨h1, h2⟩ := List.pairwise_cons.1 h
  by_cases hp : cmpL p.Key key < 0
  ·obtain ⟨P1, P2, e, q1, q2⟩ := part_es key P h2
   refine ⟨p :: P1, P2, by rw [e]; rfl, fun x hx => ?_, q2⟩
   rcases List.mem_cons.1 hx with rfl | hx
   ·exact hp
   ·exact q1 x hx
  ·refine ⟨[], p :: P, rfl, by simp, fun x hx => ?_⟩
   rcases List.mem_cons.1 hx with rfl | hx
   ·omega
   ·have a := ordL_le (h1 x hx)
    have s1 := cmpL_swap p.Key key
    have s2 := cmpL_swap key x.Key
    have := cmpL_trans (x := key) (y := p.Key) (w := x.Key) (by omega) a
    omega
theorem vOf_app {key : List Int} {u v : List aE} (hu : ∀ x ∈ u, cmpL x.Key key < 0) (hv : ∀ x ∈ v, 0 ≤ cmpL x.Key key) : vOf key (u ++ v) = v := by
 unfold vOf
 rw [List.filter_append, List.filter_eq_nil_iff.2 (fun x hx => by have := hu x hx; simp; omega), List.filter_eq_self.2 (fun x hx => by simpa using hv x hx)]
 rfl
section
variable {l : List aE} {bb pk : Int} {b : List Int} {gs : List (List aE)} (t : Tab l bb pk b gs)
include t
theorem Tab.lastAt {P : List (List aE)} {g : List aE} {Q : List (List aE)} (h : gs = P ++ g :: Q) : (gi daE l ((P.flatten.length : Int) + g.length - 1)).Key = lastKey g := by
 have hne := (t.small g (by rw [h]; simp)).1
 obtain ⟨a, y, rfl⟩ : ∃ a y, g = a ++ [y] := ⟨g.dropLast, g.getLast hne, (List.dropLast_concat_getLast hne).symm⟩
 have e : l = (P.flatten ++ a) ++ y :: Q.flatten := by rw [← t.flat, h]; simp
 rw [lastKey_snoc]
 have : gi daE l ((P.flatten.length : Int) + (a ++ [y]).length - 1) = y := by
  conv => lhs; rw [e]
  exact gi_mid _ _ _ _ _ (by simp; omega)
 rw [this]
theorem Tab.from_step {z : Nat} (hz : 16777216 ≤ z) {key : List Int} {F : List Int} {r : Int} {P : List (List aE)} {g : List aE} {Q : List (List aE)} (h : gs = P ++ g :: Q) (m : Nat) :
  r4_Table_From.L0 z ⟨l, cutsS gs, F, r⟩ key (m + 1) (P.flatten.length : Int) (P.length : Int) =
   If (decide (cmpL (lastKey g) key ≥ 0)) (r4_Table_From.L1 z ⟨l, cutsS gs, F, r⟩ key (P.length : Int) z (P.flatten.length : Int)) (r4_Table_From.L0 z ⟨l, cutsS gs, F, r⟩ key m (((P ++ [g]).flatten.length : Nat) : Int) (((P ++ [g]).length : Nat) : Int)) := by
 have hgl := t.gl
 have hl := t.len
 have hgm : g ∈ gs := by rw [h]; simp
 have hf := t.flen h
 simp only [List.flatten_cons, List.length_append] at hf
 have hgc : gi (0 : Int) (cutsS gs) (P.length : Int) = g.length := by rw [h]; exact cutsS_at P g Q
 have hgp := List.length_pos_iff.2 (t.small g hgm).1
 have hgsl : gs.length = P.length + (Q.length + 1) := by rw [h]; simp
 obtain ⟨x, hx, hxk⟩ := lastKey_mem (t.small g hgm).1
 have hxl := (t.fit x (t.mem hgm hx)).2.2.1
 rw [← hxk] at hxl
 rw [r4_Table_From.L0]
 dsimp only
 rw [if_y (by rw [decide_eq_true_iff, cutsS_len]; omega), ck_y (by rw [cutsS_len]; omega), hgc, wI (x := (P.flatten.length : Int) + (g.length : Int)) (by omega), wI (x := (P.flatten.length : Int) + (g.length : Int) - 1) (by omega), ck_y (by omega), t.lastAt h, refCmp_g hz (.inl hxl), bd_some, wI (x := (P.length : Int) + 1) (by omega), show ((P.flatten.length : Int) + (g.length : Int)) = (((P ++ [g]).flatten.length : Nat) : Int) by simp, show ((P.length : Int) + 1) = (((P ++ [g]).length : Nat) : Int) by simp]
theorem Tab.from_skip {z : Nat} (hz : 16777216 ≤ z) {key : List Int} {F : List Int} {r : Int} {Q : List (List aE)} (m : Nat) : ∀ (P2 P1 : List (List aE)), gs = P1 ++ (P2 ++ Q) → (∀ p ∈ P2, cmpL (lastKey p) key < 0) →
  r4_Table_From.L0 z ⟨l, cutsS gs, F, r⟩ key (m + P2.length) (P1.flatten.length : Int) (P1.length : Int) = r4_Table_From.L0 z ⟨l, cutsS gs, F, r⟩ key m (((P1 ++ P2).flatten.length : Nat) : Int) (((P1 ++ P2).length : Nat) : Int)
 | [], P1, h, _ => by simp
 | p :: P2, P1, h, hp => by
  have h' : gs = P1 ++ p :: (P2 ++ Q) := h
  rw [List.length_cons, show m + (P2.length + 1) = (m + P2.length) + 1 from rfl, t.from_step hz h', if_n (by have := hp p (List.mem_cons_self ..); rw [decide_eq_false_iff_not]; omega), Tab.from_skip hz (Q := Q) m P2 (P1 ++ [p]) (by rw [h']; simp) (fun q hq => hp q (List.mem_cons_of_mem _ hq))]
  simp
theorem Tab.from_L1 {z : Nat} (hz : 16777216 ≤ z) {key : List Int} {U : r4_Table} (hU : U.L = l) {i : Int} {x : aE} {R : List aE} (hx : 0 ≤ cmpL x.Key key) : ∀ (u pre : List aE) (m : Nat), l = pre ++ (u ++ x :: R) → u.length < m → (∀ y ∈ u, cmpL y.Key key < 0) →
  r4_Table_From.L1 z U key i m (pre.length : Int) = some (i, ((pre.length + u.length : Nat) : Int), U)
 | _, _, 0, _, h, _ => by omega
 | [], pre, m + 1, h, _, _ => by
  have hg : gi daE l (pre.length : Int) = x := by rw [h]; exact gi_mid _ _ _ _ _ rfl
  have hm : x ∈ l := by rw [h]; simp
  have hl := congrArg List.length h
  simp only [List.length_append, List.length_cons] at hl
  rw [r4_Table_From.L1, hU, ck_y (by omega), hg, refCmp_g hz (.inl (t.fit x hm).2.2.1), bd_some, if_n (by rw [decide_eq_false_iff_not]; omega)]
  rfl
 | y :: u, pre, m + 1, h, hm, hu => by
  have hg : gi daE l (pre.length : Int) = y := by rw [h]; exact gi_mid _ _ _ _ _ rfl
  have hy : y ∈ l := by rw [h]; simp
  have hl := congrArg List.length h
  have hln := t.len
  simp only [List.length_append, List.length_cons] at hl hm
  rw [r4_Table_From.L1, hU, ck_y (by omega), hg, refCmp_g hz (.inl (t.fit y hy).2.2.1), bd_some, if_y (by simpa using hu y (List.mem_cons_self ..)), wI (by omega), show ((pre.length : Int) + 1) = (((pre ++ [y]).length : Nat) : Int) by simp, Tab.from_L1 hz hU (R := R) hx u (pre ++ [y]) m (by rw [h]; simp) (by omega) (fun q hq => hu q (List.mem_cons_of_mem _ hq))]
  simp; omega
theorem Tab.scan_L0 {z most : Int} {x15 : Int × Int × r4_Table} {zz : Nat} {F : List Int} {r : Int} (hx : x15.2.2 = ⟨l, cutsS gs, F, r⟩) {R : List (List aE)} (m : Nat) : ∀ (Q P : List (List aE)), gs = P ++ (Q ++ R) → ((P ++ Q).length : Int) ≤ x15.1 + 1 →
  r4_Table_Scan.L0 zz most x15 (m + Q.length) (P.flatten.length : Int) (P.length : Int) = r4_Table_Scan.L0 zz most x15 m (((P ++ Q).flatten.length : Nat) : Int) (((P ++ Q).length : Nat) : Int)
 | [], P, _, _ => by simp
 | g :: Q, P, h, hle => by
  have h' : gs = P ++ g :: (Q ++ R) := h
  have hgl := t.gl
  have hln := t.len
  have hf := t.flen h'
  simp only [List.flatten_cons, List.length_append] at hf
  have hgc : gi (0 : Int) (cutsS gs) (P.length : Int) = g.length := by rw [h']; exact cutsS_at P g (Q ++ R)
  have hgsl : gs.length = P.length + (Q.length + R.length + 1) := by rw [h']; simp
  rw [List.length_append, List.length_cons] at hle
  rw [List.length_cons, show m + (Q.length + 1) = (m + Q.length) + 1 from rfl, r4_Table_Scan.L0, hx]
  dsimp only
  rw [if_y (by rw [decide_eq_true_iff]; omega), if_y (by rw [decide_eq_true_iff, cutsS_len]; omega), ck_y (by rw [cutsS_len]; omega), hgc, wI (by omega), wI (by omega), show ((P.flatten.length : Int) + (g.length : Int)) = (((P ++ [g]).flatten.length : Nat) : Int) by simp, show ((P.length : Int) + 1) = (((P ++ [g]).length : Nat) : Int) by simp, Tab.scan_L0 (z := z) hx (R := R) m Q (P ++ [g]) (by rw [h']; simp) (by simp; omega)]
  simp
theorem Tab.scan {z : Nat} (hz : 16777216 ≤ z) {key : List Int} (hk : Bys key) (hkl : key.length ≤ 16777215) {most : Nat} (h1 : 1 ≤ most) (hmo : most ≤ 100000) (r : Int) :
  ∃ out r', w4_scan.f z ⟨b, tblocks 0 gs, mkS (keysL l) pk, l.length, r⟩ key most = some (out, ⟨b, tblocks 0 gs, mkS (keysL l) pk, l.length, r'⟩) ∧
   r4_Table_Scan.f z ⟨l, cutsS gs, mkS (keysL l) pk, r⟩ key most = some (out, ⟨l, cutsS gs, mkS (keysL l) pk, r'⟩) ∧ (∀ e ∈ out, e ∈ l) ∧ out.length ≤ 100000 := by
 have hln := t.len
 have hgl := t.gl
 obtain ⟨P1, P2, h, hlo, hhi, hfind⟩ := t.parts hz hk
 have hgsl : gs.length = P1.length + P2.length := by rw [h]; simp
 have hcl : bytes_Clone.f key = some key := by unfold bytes_Clone.f; rw [ck_y (by omega)]
 have hsk := t.from_skip hz (key := key) (F := mkS (keysL l) pk) (r := r) (Q := P2) (z - P1.length) P1 [] (by rw [List.nil_append]; exact h) hlo
 rw [show z - P1.length + P1.length = z by omega] at hsk
 simp only [List.nil_append, List.flatten_nil, List.length_nil] at hsk
 obtain ⟨k, hk0⟩ : ∃ k, z - P1.length = k + 1 := ⟨z - P1.length - 1, by omega⟩
 rw [hk0] at hsk
 unfold w4_scan.f w4_scan.iter r4_Table_Scan.f r4_Table_From.f
 rw [hcl, bd_some, hfind, bd_some]
 dsimp only
 rw [show (0 : Int) = ((0 : Nat) : Int) from rfl, hsk]
 cases hP2 : P2 with
 | nil =>
  rw [hP2, List.append_nil] at h
  have hfl : P1.flatten.length = l.length := by rw [← h, t.flat]
  refine ⟨[], r, ?_, ?_, by simp, by simp⟩
  ·obtain ⟨z', rfl⟩ : ∃ z', z = z' + 1 := ⟨z - 1, by omega⟩
   rw [w4_scan.S1]
   dsimp only
   rw [if_n (by rw [decide_eq_false_iff_not, tblocks_len, h]; simp), bd_some]
  ·rw [r4_Table_From.L0]
   dsimp only
   rw [if_n (by rw [decide_eq_false_iff_not, cutsS_len, h]; simp), bd_some]
   have hsum := t.scan_L0 (z := 0) (zz := z) (most := (most : Int)) (x15 := (((cutsS gs).length : Int), (l.length : Int), ⟨l, cutsS gs, mkS (keysL l) pk, r⟩)) (R := []) rfl (z - gs.length) gs [] (by simp) (by rw [List.nil_append, cutsS_len]; dsimp only; omega)
   rw [show z - gs.length + gs.length = z by omega] at hsum
   simp only [List.nil_append, List.flatten_nil, List.length_nil] at hsum
   obtain ⟨k2, hk2⟩ : ∃ k, z - gs.length = k + 1 := ⟨z - gs.length - 1, by omega⟩
   rw [hsum, hk2, r4_Table_Scan.L0]
   dsimp only
   rw [if_y (by rw [decide_eq_true_iff, cutsS_len]; omega), if_n (by rw [decide_eq_false_iff_not, cutsS_len]; omega)]
   unfold r4_Table_Scan.J1
   dsimp only
   rw [if_y (by rw [decide_eq_true_iff]; omega), if_n (by rw [decide_eq_false_iff_not]; omega)]
   unfold r4_Table_Scan.J2
   obtain ⟨z', hz'⟩ : ∃ z', z = z' + 1 := ⟨z - 1, by omega⟩
   have := t.L3_end (z := z) (most := most) (F := mkS (keysL l) pk) (r0 := r) (x1 := ((cutsS gs).length : Int)) (x2 := (l.length : Int)) z' ((cutsS gs).length : Int) (l.length : Int) (gs.flatten.length : Int) [] r (Int.le_refl _)
   rw [← hz'] at this
   exact this
 | cons g Q =>
  rw [hP2] at h hhi
  have hgm : g ∈ gs := by rw [h]; simp
  have hgo := t.inord hgm
  obtain ⟨u, v, hg, hu, hv⟩ := part_es key g hgo
  have hge := hhi g (List.mem_cons_self ..)
  obtain ⟨x, v', hv'⟩ : ∃ x v', v = x :: v' := by
   cases v with
   | cons x v' => exact ⟨x, v', rfl⟩
   | nil =>
    rw [List.append_nil] at hg
    obtain ⟨y, hy, hyk⟩ := lastKey_mem (t.small g hgm).1
    have := hu y (by rw [← hg]; exact hy)
    rw [← hyk] at this
    omega
  have hvg : vOf key g = v := by rw [hg]; exact vOf_app hu hv
  have hQ : Q.map (vOf key) = Q := by
   have : ∀ q ∈ Q, vOf key q = q := by
    intro q hq
    have := vOf_app (key := key) (u := []) (v := q) (by simp) (fun y hy => by
     obtain ⟨w, hw, hwk⟩ := lastKey_mem (t.small g hgm).1
     have a := t.between (P := P1 ++ [g]) (Q := Q) (t.snoc h) (x := w) (y := y) (by simp [hw]) (List.mem_flatten.2 ⟨q, hq, hy⟩)
     rw [← hwk] at a
     have s1 := cmpL_swap (lastKey g) key
     have s2 := cmpL_swap key y.Key
     have := cmpL_trans (x := key) (y := lastKey g) (w := y.Key) (by omega) a
     omega)
    exact this
   rw [List.map_congr_left this, List.map_id']
  have hfl := t.flen h
  simp only [List.flatten_cons, List.length_append] at hfl
  have hgll := congrArg List.length hg
  simp only [List.length_append] at hgll
  have hgs1 : gs.length = P1.length + (Q.length + 1) := by rw [h]; simp
  obtain ⟨fl, hS⟩ := t.S1_g hz hmo hk (F := mkS (keysL l) pk) (c := (l.length : Int)) Q P1 g z [] r h (by omega) (by simp; omega)
  rw [hvg, hQ] at hS
  rw [hS, bd_some]
  obtain ⟨m1, m2⟩ := scn_mem (most := most) Q v [] (wr .i64 (r + 1))
  refine ⟨(scn most v Q [] (wr .i64 (r + 1))).1, (scn most v Q [] (wr .i64 (r + 1))).2, rfl, ?_, fun e he => ?_, by have := m2 (by simp); omega⟩
  ·rw [t.from_step hz h, if_y (by rw [decide_eq_true_iff]; exact hge)]
   have hl : l = P1.flatten ++ (u ++ x :: (v' ++ Q.flatten)) := by rw [← t.flat, h, hg, hv']; simp
   rw [t.from_L1 hz (U := ⟨l, cutsS gs, mkS (keysL l) pk, r⟩) rfl (hv x (by rw [hv']; simp)) u P1.flatten z hl (by omega) hu, bd_some]
   have hsum := t.scan_L0 (z := 0) (zz := z) (most := (most : Int)) (x15 := ((P1.length : Int), ((P1.flatten.length + u.length : Nat) : Int), ⟨l, cutsS gs, mkS (keysL l) pk, r⟩)) (R := Q) rfl (z - (P1 ++ [g]).length) (P1 ++ [g]) [] (by rw [List.nil_append]; exact t.snoc h) (by rw [List.nil_append]; simp)
   have hpg : (P1 ++ [g]).length = P1.length + 1 := by simp
   rw [show z - (P1 ++ [g]).length + (P1 ++ [g]).length = z by omega] at hsum
   simp only [List.nil_append, List.flatten_nil, List.length_nil] at hsum
   obtain ⟨k2, hk2⟩ : ∃ k, z - (P1 ++ [g]).length = k + 1 := ⟨z - (P1 ++ [g]).length - 1, by omega⟩
   rw [hsum, hk2, r4_Table_Scan.L0]
   dsimp only
   rw [if_n (by rw [decide_eq_false_iff_not, hpg]; omega)]
   unfold r4_Table_Scan.J1
   dsimp only
   rw [if_y (by rw [decide_eq_true_iff]; omega), if_y (by rw [decide_eq_true_iff, cutsS_len]; omega)]
   unfold r4_Table_Scan.J2
   dsimp only
   have := t.L3_g (z := z) hmo (F := mkS (keysL l) pk) (r0 := r) (x1 := (P1.length : Int)) (x2 := ((P1.flatten.length + u.length : Nat) : Int)) Q P1 g u v z [] (wr .i64 (r + 1)) h hg (by omega) (by simp; omega)
   rw [show (((P1 ++ [g]).flatten.length : Nat) : Int) = ((P1.flatten.length + g.length : Nat) : Int) by simp]
   exact this
  ·rw [← t.flat, h]
   rcases m1 e he with q | q | q
   ·cases q
   ·simp only [List.flatten_append, List.flatten_cons, List.mem_append]
    exact .inr (.inl (by rw [hg]; exact List.mem_append_right _ q))
   ·simp only [List.flatten_append, List.flatten_cons, List.mem_append]
    exact .inr (.inr q)
end
namespace s_Table_Get
open w4_scan
theorem entries_L0_len (z : Nat) (x5 : Int × List Int × Int × Int) : ∀ (m : Nat) (x9 : List Int) (x12 : List aE) (x15 : List Int) (r : List aE × Int × Bool), s_entries.L0 z x5 m x9 x12 x15 = some r → x12.length ≤ 140737488355328 → r.1.length ≤ 140737488355328
 | 0, _, _, _, _, h, _ => by cases h
 | m + 1, x9, x12, x15, r, h, hl => by
  unfold s_entries.L0 at h
  rcases ifE h with ⟨_, h⟩ | ⟨_, h⟩
  ·obtain ⟨x, _, h⟩ := bd h
   rcases ifE h with ⟨_, h⟩ | ⟨_, h⟩
   ·cases h; simp
   ·rcases ifE h with ⟨_, h⟩ | ⟨_, h⟩
    ·cases h; simp
    ·obtain ⟨hc, h⟩ := ck h
     exact entries_L0_len z x5 m _ _ _ r h (by simp at hc ⊢; omega)
  ·cases h; exact hl
theorem look_len {z : Nat} {x : s_Table} {i : Int} {r : List aE × s_Table} (h : s_Table_look.f z x i = some r) : r.1.length ≤ 140737488355328 := by
 unfold s_Table_look.f at h
 obtain ⟨_, h⟩ := ck h
 obtain ⟨_, h⟩ := ck h
 obtain ⟨y, hy, h⟩ := bd h
 cases h
 unfold s_entries.f at hy
 obtain ⟨u, _, hy⟩ := bd hy
 rcases ifE hy with ⟨_, hy⟩ | ⟨_, hy⟩
 ·cases hy; simp
 ·exact entries_L0_len _ _ _ _ _ _ _ hy (by simp)
theorem pop_RE {ys : List RE} {xs : List aE} (hx : xs = ys.map (·.e)) {j : Nat} (hj : j < ys.length) {cs : List Value} {l F : List Atom} {w : World} {i : Nat} (S : SL ((rp kRE (gi dRE ys (j : Int)) cs :: l) ++ F) w) (hl : l[i]? = some (pack (own8 (pls (ys.drop j))))) :
  ∃ A1 k1 A2 k2, cs = [.slice A1 (gi daE xs (j : Int)).Key.length k1, .int .u64 (gi daE xs (j : Int)).Seq, .bool (gi daE xs (j : Int)).Del, .slice A2 (gi daE xs (j : Int)).Value.length k2] ∧
   SL ((sl .own ku8 A1 k1 (gi daE xs (j : Int)).Key :: sl .own ku8 A2 k2 (gi daE xs (j : Int)).Value :: l.set i (pack (own8 (pls (ys.drop (j + 1)))))) ++ F) w := by
 obtain ⟨hc, S'⟩ := op_RE S
 subst hc
 rw [hx, gi_RE]
 have hgi : gi dRE ys (j : Int) = ys[j] := by unfold gi; rw [Int.toNat_natCast, List.getElem?_eq_getElem hj]; rfl
 rw [hgi]
 refine ⟨_, _, _, _, rfl, ?_⟩
 have S1 := S'.perm ((get_perm hl).append_right F)
 have S2 := SL.pop hj S1
 refine S2.perm ?_
 refine (List.Perm.cons _ (List.Perm.cons _ ?_))
 exact ((set_perm hl).append_right F).symm
def RD (F : List Atom) (b2 : Nat) (x9 : List Int) (A10 : Option Addr) (k11 : Nat) (r : aE × Bool × s_Table) : Ending → World → Prop := fun e w' => ∃ (A107 : Option Addr), ∃ (k108 : Nat), ∃ (A109 : Option Addr), ∃ (k110 : Nat), ∃ (A112 : Option Addr), ∃ (k113 : Nat), ∃ (A114 : Option Addr), ∃ (k115 : Nat), ∃ (A116 : Option Addr), ∃ (k117 : Nat), e = .returned (.tuple #[.agg #[.slice A107 r.1.Key.length k108, .int .u64 r.1.Seq, .bool r.1.Del, .slice A109 r.1.Value.length k110], .bool r.2.1]) ∧ SL ([sl .own ku8 A107 k108 r.1.Key, sl .own ku8 A109 k110 r.1.Value, blk b2 [.slice A112 r.2.2.b.length k113, .slice A114 r.2.2.blocks.length k115, .slice A116 r.2.2.filter.length k117, .int .i64 r.2.2.count, .int .i64 r.2.2.reads], sl .ro ku8 A112 k113 r.2.2.b, sl .ro ks_block A114 k115 r.2.2.blocks, sl .ro ku8 A116 k117 r.2.2.filter, sl .ro ku8 A10 k11 x9] ++ F) w'
theorem L2D_ok (F : List Atom) (r : aE × Bool × s_Table) (z : Nat) (b2 : Nat) (x9 : List Int) (A10 : Option Addr) (k11 : Nat) (x12 : Int) (b13 : Nat) (x76 : Int) (A80 : Option Addr) (x79 : (List aE) × s_Table) (ys : List RE) (hys : x79.1 = ys.map (·.e)) (hlen : x79.1.length = ys.length) (hb : x79.1.length ≤ 140737488355328) (k81 : Nat) (A83 : Option Addr) (k84 : Nat) (A85 : Option Addr) (k86 : Nat) (A87 : Option Addr) (k88 : Nat) (q1 : Int → (List Int) → (List s_block) → (List Int) → Int → Int → Option (aE × Bool × s_Table)) (hq1 : ∀ (x76 : Int) (A66 : Option Addr) (x65 : List Int) (k67 : Nat) (A69 : Option Addr) (x68 : List s_block) (k70 : Nat) (A72 : Option Addr) (x71 : List Int) (k73 : Nat) (x74 : Int) (x75 : Int) (a : Act) (w : World), Tm 77 [(0, .pointer (some ⟨b2, 0, none⟩)), (1, .slice A10 x9.length k11), (2, .int .u64 x12), (6, .pointer (some ⟨b13, 0, none⟩)), (8, .int .i64 x76)] a → SL ([blk b2 [.slice A66 x65.length k67, .slice A69 x68.length k70, .slice A72 x71.length k73, .int .i64 x74, .int .i64 x75], sl .ro ku8 A66 k67 x65, sl .ro ks_block A69 k70 x68, sl .ro ku8 A72 k73 x71, sl .ro ku8 A10 k11 x9, blk b13 [.slice none 0 0, .int .u64 0, .bool false, .slice none 0 0]] ++ F) w → q1 x76 x65 x68 x71 x74 x75 = some r → Gets Try.prog 11 ptL1 a w (RD F b2 x9 A10 k11 r)) (m : Nat) : ∀ (j : Nat) (a : Act) (w : World), Tm 77 [(0, .pointer (some ⟨b2, 0, none⟩)), (1, .slice A10 x9.length k11), (2, .int .u64 x12), (6, .pointer (some ⟨b13, 0, none⟩)), (8, .int .i64 x76), (47, .slice A80 ys.length k81), (48, .int .i64 (x79.1.length : Int)), (49, .int .i64 (j : Int))] a → SL ([blk b2 [.slice A83 x79.2.b.length k84, .slice A85 x79.2.blocks.length k86, .slice A87 x79.2.filter.length k88, .int .i64 x79.2.count, .int .i64 x79.2.reads], sl .ro ku8 A83 k84 x79.2.b, sl .ro ks_block A85 k86 x79.2.blocks, sl .ro ku8 A87 k88 x79.2.filter, sl .ro ku8 A10 k11 x9, blk b13 [.slice none 0 0, .int .u64 0, .bool false, .slice none 0 0], sl .own kRE A80 k81 ys, pack (own8 (pls (ys.drop j)))] ++ F) w → L2 z q1 x9 x12 x76 x79 m (j : Int) = some r → Gets Try.prog 11 ptL2 a w (RD F b2 x9 A10 k11 r) := by
 induction m with
 | zero => intro _ _ _ _ _ H; cases H
 | succ m ih =>
  intro j a w T S H
  refine sq (rg (v1 T rfl fun T => sq ?_))
  rcases ifE H with ⟨h90, H⟩ | ⟨h90, H⟩
  ·refine cdT T rfl h90 (sk (sq (bq (sq (rg ?_)))))
   obtain ⟨h97, H⟩ := ck H
   refine r_ia (ix := 6) T S rfl rfl rfl rfl tu22 ts36 h97.1 (by rw [← hlen]; exact h97.2) rfl fun _ T => ?_
   refine r_ldEA (ix := 6) (i := (j : Int)) (off := 0) T S rfl rfl ti36 ts36 dRE rfl (Fld.all _) h97.1 (by rw [← hlen]; exact h97.2) rfl fun _ _ S T => ?_
   obtain ⟨A98, k99, A100, k101, hv_, S_⟩ := pop_RE (i := 7) hys (by omega) S rfl
   subst hv_
   replace S := S_
   refine r_alloc T S zv36 (cs := [.slice none 0 0, .int .u64 0, .bool false, .slice none 0 0]) rfl rfl fun _ _ b102 S T => ?_
   refine r_stBA (ix := 0) (vs := [.slice A98 (((gi daE x79.1 (j : Int)).Key).length) k99, .int .u64 ((gi daE x79.1 (j : Int)).Seq), .bool ((gi daE x79.1 (j : Int)).Del), .slice A100 (((gi daE x79.1 (j : Int)).Value).length) k101]) (l' := [blk b102 [.slice A98 (((gi daE x79.1 (j : Int)).Key).length) k99, .int .u64 ((gi daE x79.1 (j : Int)).Seq), .bool ((gi daE x79.1 (j : Int)).Del), .slice A100 (((gi daE x79.1 (j : Int)).Value).length) k101], sl .own ku8 A98 k99 ((gi daE x79.1 (j : Int)).Key), sl .own ku8 A100 k101 ((gi daE x79.1 (j : Int)).Value), blk b2 [.slice A83 x79.2.b.length k84, .slice A85 x79.2.blocks.length k86, .slice A87 x79.2.filter.length k88, .int .i64 x79.2.count, .int .i64 x79.2.reads], sl .ro ku8 A83 k84 x79.2.b, sl .ro ks_block A85 k86 x79.2.blocks, sl .ro ku8 A87 k88 x79.2.filter, sl .ro ku8 A10 k11 x9, blk b13 [.slice none 0 0, .int .u64 0, .bool false, .slice none 0 0], sl .own kRE A80 k81 ys, pack (own8 (pls (ys.drop (j + 1))))]) T S rfl rfl rfl rfl (by simp) ts36 (nle rfl) rfl fun _ S => ?_
   refine sq (rg (r_fa (o' := 0) T rfl tu36 rfl ts24 rfl rfl fun _ T => lB (ix := 0) T S rfl ti24 rfl rfl rfl fun _ T => v1 T rfl fun T => ?_))
   replace S := S.dup (i := 7) rfl
   obtain ⟨x104, h103, H⟩ := bd H
   refine rc T tc28 rfl rfl (bytes_Equal.ok _ _ ((gi daE x79.1 (j : Int)).Key) x9 (S.sel (p := [sl .own ku8 A98 k99 ((gi daE x79.1 (j : Int)).Key), sl .ro ku8 A10 k11 x9]) (is := [2, 0]) rfl) _ h103) ?_
   rintro _ _ ⟨rfl, S⟩
   refine ⟨_, rfl, fun _ T => ?_⟩
   replace S : SL ([sl .own ku8 A98 k99 ((gi daE x79.1 (j : Int)).Key), blk b102 [.slice A98 (((gi daE x79.1 (j : Int)).Key).length) k99, .int .u64 ((gi daE x79.1 (j : Int)).Seq), .bool ((gi daE x79.1 (j : Int)).Del), .slice A100 (((gi daE x79.1 (j : Int)).Value).length) k101], sl .own ku8 A100 k101 ((gi daE x79.1 (j : Int)).Value), blk b2 [.slice A83 x79.2.b.length k84, .slice A85 x79.2.blocks.length k86, .slice A87 x79.2.filter.length k88, .int .i64 x79.2.count, .int .i64 x79.2.reads], sl .ro ku8 A83 k84 x79.2.b, sl .ro ks_block A85 k86 x79.2.blocks, sl .ro ku8 A87 k88 x79.2.filter, sl .ro ku8 A10 k11 x9, blk b13 [.slice none 0 0, .int .u64 0, .bool false, .slice none 0 0], sl .own kRE A80 k81 ys, pack (own8 (pls (ys.drop (j + 1))))] ++ F) _ := S.join.only [0, 1, 1, 1, 1, 1, 1, 1, 1, 1, 1] rfl
   refine v1 T rfl fun T => ?_
   rcases ifE H with ⟨h105, H⟩ | ⟨h105, H⟩
   ·refine gy T rfl h105 (r_fa (o' := 1) T rfl tu36 rfl ts34 rfl rfl fun _ T => gy T rfl h105 (lB (ix := 1) T S rfl ti34 rfl rfl rfl fun _ T => gy T rfl h105 (v1 T rfl fun T => gy T rfl h105 (v1 T rfl fun T => pT T rfl h105 rfl rfl fun _ T => ?_))))
    rcases ifE H with ⟨h106, H⟩ | ⟨h106, H⟩
    ·refine cdT T rfl h106 (sq (rg (r_ldBA (ix := 1) (ds := [.slice A98 (((gi daE x79.1 (j : Int)).Key).length) k99, .int .u64 ((gi daE x79.1 (j : Int)).Seq), .bool ((gi daE x79.1 (j : Int)).Del), .slice A100 (((gi daE x79.1 (j : Int)).Value).length) k101]) T S rfl ti36 rfl rfl ts36 rfl fun _ T => ?_)))
     refine r_stBA (ix := 8) (vs := [.slice A98 (((gi daE x79.1 (j : Int)).Key).length) k99, .int .u64 ((gi daE x79.1 (j : Int)).Seq), .bool ((gi daE x79.1 (j : Int)).Del), .slice A100 (((gi daE x79.1 (j : Int)).Value).length) k101]) (l' := [sl .own ku8 A98 k99 ((gi daE x79.1 (j : Int)).Key), blk b102 [.slice A98 (((gi daE x79.1 (j : Int)).Key).length) k99, .int .u64 ((gi daE x79.1 (j : Int)).Seq), .bool ((gi daE x79.1 (j : Int)).Del), .slice A100 (((gi daE x79.1 (j : Int)).Value).length) k101], sl .own ku8 A100 k101 ((gi daE x79.1 (j : Int)).Value), blk b2 [.slice A83 x79.2.b.length k84, .slice A85 x79.2.blocks.length k86, .slice A87 x79.2.filter.length k88, .int .i64 x79.2.count, .int .i64 x79.2.reads], sl .ro ku8 A83 k84 x79.2.b, sl .ro ks_block A85 k86 x79.2.blocks, sl .ro ku8 A87 k88 x79.2.filter, sl .ro ku8 A10 k11 x9, blk b13 [.slice A98 (((gi daE x79.1 (j : Int)).Key).length) k99, .int .u64 ((gi daE x79.1 (j : Int)).Seq), .bool ((gi daE x79.1 (j : Int)).Del), .slice A100 (((gi daE x79.1 (j : Int)).Value).length) k101], sl .own kRE A80 k81 ys, pack (own8 (pls (ys.drop (j + 1))))]) T S rfl rfl rfl rfl (by simp) ts36 (nle rfl) rfl fun _ S => ?_
     refine v1 T rfl fun T => ?_
     obtain rfl := sj H
     exact rtnM T S tf11 rfl ⟨_, _, rfl, ⟨b13, _, 8, rfl, rfl, .inl ⟨ti36, ts36, rfl⟩⟩, ⟨_, _, rfl, rfl, rfl⟩⟩ ⟨A98, k99, A100, k101, A83, k84, A85, k86, A87, k88, rfl, (S.only (p := [sl .own ku8 A98 k99 ((gi daE x79.1 (j : Int)).Key), sl .own ku8 A100 k101 ((gi daE x79.1 (j : Int)).Value), blk b2 [.slice A83 x79.2.b.length k84, .slice A85 x79.2.blocks.length k86, .slice A87 x79.2.filter.length k88, .int .i64 x79.2.count, .int .i64 x79.2.reads], sl .ro ku8 A83 k84 x79.2.b, sl .ro ks_block A85 k86 x79.2.blocks, sl .ro ku8 A87 k88 x79.2.filter, sl .ro ku8 A10 k11 x9]) [0, 1, 1, 1, 1, 1, 1] rfl)⟩
    ·refine cdF T rfl h106 (sk (Gets.inBlock (rg (v2 T rfl rfl fun T => Gets.inLoop ?_))))
     unfold J3 at H
     have hw : wr .i64 ((j : Int) + 1) = ((j + 1 : Nat) : Int) := wI (x := (j : Int) + 1) (by omega)
     rw [hw] at H T
     exact ih (j + 1) _ _ (T.sb rfl) (S.only (p := [blk b2 [.slice A83 x79.2.b.length k84, .slice A85 x79.2.blocks.length k86, .slice A87 x79.2.filter.length k88, .int .i64 x79.2.count, .int .i64 x79.2.reads], sl .ro ku8 A83 k84 x79.2.b, sl .ro ks_block A85 k86 x79.2.blocks, sl .ro ku8 A87 k88 x79.2.filter, sl .ro ku8 A10 k11 x9, blk b13 [.slice none 0 0, .int .u64 0, .bool false, .slice none 0 0], sl .own kRE A80 k81 ys, pack (own8 (pls (ys.drop (j + 1))))]) [3, 3, 3, 3, 3, 3, 3, 3] rfl) H
   ·refine gn T rfl h105 fun T => gn T rfl h105 fun T => gn T rfl h105 fun T => gn T rfl h105 fun T => pF T rfl h105 rfl rfl fun _ T => cdF T rfl rfl (sk (Gets.inBlock (rg (v2 T rfl rfl fun T => Gets.inLoop ?_))))
    unfold J3 at H
    have hw : wr .i64 ((j : Int) + 1) = ((j + 1 : Nat) : Int) := wI (x := (j : Int) + 1) (by omega)
    rw [hw] at H T
    exact ih (j + 1) _ _ (T.sb rfl) (S.only (p := [blk b2 [.slice A83 x79.2.b.length k84, .slice A85 x79.2.blocks.length k86, .slice A87 x79.2.filter.length k88, .int .i64 x79.2.count, .int .i64 x79.2.reads], sl .ro ku8 A83 k84 x79.2.b, sl .ro ks_block A85 k86 x79.2.blocks, sl .ro ku8 A87 k88 x79.2.filter, sl .ro ku8 A10 k11 x9, blk b13 [.slice none 0 0, .int .u64 0, .bool false, .slice none 0 0], sl .own kRE A80 k81 ys, pack (own8 (pls (ys.drop (j + 1))))]) [3, 3, 3, 3, 3, 3, 3, 3] rfl) H
  ·refine cdF T rfl h90 (Gets.exit rfl (sq (rg (v2 T rfl rfl fun T => r_fa (o' := 1) T rfl tu69 rfl ts67 rfl rfl fun _ T => lB (ix := 0) T S rfl ti67 rfl rfl rfl fun _ T => v1 T rfl fun T => ?_))))
   obtain ⟨h91, H⟩ := ck H
   refine r_ia (ix := 2) T S rfl rfl rfl rfl tu67 ts73 h91.1 h91.2 rfl fun _ T => r_faE T rfl tu73 rfl ts24 rfl fun _ T => r_ldR (ix := 2) (i := x76) (off := 4) T S rfl ti24 rfl ds_block _ rfl rfl fld_s_block_last h91.1 h91.2 rfl rfl fun _ _ S T => ?_
   obtain ⟨A92, k93, hv_, S_⟩ := S.ofVal
   subst hv_
   replace S := S_
   refine v1 T rfl fun T => ?_
   replace S := S.dup (i := 5) rfl
   obtain ⟨x95, h94, H⟩ := bd H
   refine rc T tc28 rfl rfl (bytes_Equal.ok _ _ ((gi ds_block x79.2.blocks x76).last) x9 (S.sel (p := [sl .ro ku8 A92 k93 ((gi ds_block x79.2.blocks x76).last), sl .ro ku8 A10 k11 x9]) (is := [1, 0]) rfl) _ h94) ?_
   rintro _ _ ⟨rfl, S⟩
   refine ⟨_, rfl, fun _ T => ?_⟩
   replace S : SL ([sl .ro ku8 A92 k93 ((gi ds_block x79.2.blocks x76).last), blk b2 [.slice A83 x79.2.b.length k84, .slice A85 x79.2.blocks.length k86, .slice A87 x79.2.filter.length k88, .int .i64 x79.2.count, .int .i64 x79.2.reads], sl .ro ku8 A83 k84 x79.2.b, sl .ro ks_block A85 k86 x79.2.blocks, sl .ro ku8 A87 k88 x79.2.filter, sl .ro ku8 A10 k11 x9, blk b13 [.slice none 0 0, .int .u64 0, .bool false, .slice none 0 0], sl .own kRE A80 k81 ys, pack (own8 (pls (ys.drop j)))] ++ F) _ := S.join.only [0, 1, 1, 1, 1, 1, 1, 1, 1] rfl
   refine v1 T rfl fun T => ?_
   rcases ifE H with ⟨h96, H⟩ | ⟨h96, H⟩
   ·refine cdT T rfl h96 (Gets.exit rfl (sq (rg (r_build (cs := #[.slice none 0 0, .int .u64 0, .bool false, .slice none 0 0]) T stt36 rfl rfl rfl fun _ T => ?_))))
    refine r_stBA (ix := 6) (vs := [.slice none 0 0, .int .u64 0, .bool false, .slice none 0 0]) (l' := [sl .ro ku8 A92 k93 ((gi ds_block x79.2.blocks x76).last), blk b2 [.slice A83 x79.2.b.length k84, .slice A85 x79.2.blocks.length k86, .slice A87 x79.2.filter.length k88, .int .i64 x79.2.count, .int .i64 x79.2.reads], sl .ro ku8 A83 k84 x79.2.b, sl .ro ks_block A85 k86 x79.2.blocks, sl .ro ku8 A87 k88 x79.2.filter, sl .ro ku8 A10 k11 x9, blk b13 [.slice none 0 0, .int .u64 0, .bool false, .slice none 0 0], sl .own kRE A80 k81 ys, pack (own8 (pls (ys.drop j)))]) T S rfl rfl rfl rfl (by simp) ts36 (nle rfl) rfl fun _ S => ?_
    refine v1 T rfl fun T => ?_
    replace S := S.nil ku8 .own
    replace S := S.nil ku8 .own
    obtain rfl := sj H
    exact rtnM T S tf11 rfl ⟨_, _, rfl, ⟨b13, _, 8, rfl, rfl, .inl ⟨ti36, ts36, rfl⟩⟩, ⟨_, _, rfl, rfl, rfl⟩⟩ ⟨none, 0, none, 0, A83, k84, A85, k86, A87, k88, rfl, (S.only (p := [sl .own ku8 none 0 ([] : List Int), sl .own ku8 none 0 ([] : List Int), blk b2 [.slice A83 x79.2.b.length k84, .slice A85 x79.2.blocks.length k86, .slice A87 x79.2.filter.length k88, .int .i64 x79.2.count, .int .i64 x79.2.reads], sl .ro ku8 A83 k84 x79.2.b, sl .ro ks_block A85 k86 x79.2.blocks, sl .ro ku8 A87 k88 x79.2.filter, sl .ro ku8 A10 k11 x9]) [1, 0, 1, 1, 1, 1, 1] rfl)⟩
   ·refine cdF T rfl h96 (sk (Gets.inBlock (rg (v3 T rfl rfl rfl fun T => Gets.inLoop ?_))))
    exact hq1 (wr .i64 (x76 + 1)) A83 x79.2.b k84 A85 x79.2.blocks k86 A87 x79.2.filter k88 x79.2.count x79.2.reads _ _ (T.sb rfl) (S.only (p := [blk b2 [.slice A83 x79.2.b.length k84, .slice A85 x79.2.blocks.length k86, .slice A87 x79.2.filter.length k88, .int .i64 x79.2.count, .int .i64 x79.2.reads], sl .ro ku8 A83 k84 x79.2.b, sl .ro ks_block A85 k86 x79.2.blocks, sl .ro ku8 A87 k88 x79.2.filter, sl .ro ku8 A10 k11 x9, blk b13 [.slice none 0 0, .int .u64 0, .bool false, .slice none 0 0]]) [1, 1, 1, 1, 1, 1] rfl) H
theorem L1D_ok (F : List Atom) (r : aE × Bool × s_Table) (z : Nat) (b2 : Nat) (x9 : List Int) (A10 : Option Addr) (k11 : Nat) (x12 : Int) (b13 : Nat) (m : Nat) : ∀ (x76 : Int) (A66 : Option Addr) (x65 : List Int) (k67 : Nat) (A69 : Option Addr) (x68 : List s_block) (k70 : Nat) (A72 : Option Addr) (x71 : List Int) (k73 : Nat) (x74 : Int) (x75 : Int) (a : Act) (w : World), Tm 77 [(0, .pointer (some ⟨b2, 0, none⟩)), (1, .slice A10 x9.length k11), (2, .int .u64 x12), (6, .pointer (some ⟨b13, 0, none⟩)), (8, .int .i64 x76)] a → SL ([blk b2 [.slice A66 x65.length k67, .slice A69 x68.length k70, .slice A72 x71.length k73, .int .i64 x74, .int .i64 x75], sl .ro ku8 A66 k67 x65, sl .ro ks_block A69 k70 x68, sl .ro ku8 A72 k73 x71, sl .ro ku8 A10 k11 x9, blk b13 [.slice none 0 0, .int .u64 0, .bool false, .slice none 0 0]] ++ F) w → L1 z x9 x12 m x76 x65 x68 x71 x74 x75 = some r → Gets Try.prog 11 ptL1 a w (RD F b2 x9 A10 k11 r) := by
 induction m with
 | zero => intro _ _ _ _ _ _ _ _ _ _ _ _ _ _ _ _ H; cases H
 | succ m ih =>
  intro x76 A66 x65 k67 A69 x68 k70 A72 x71 k73 x74 x75 a w T S H
  refine sq (sq (rg (v3 T rfl rfl rfl fun T => r_fa (o' := 1) T rfl tu69 rfl ts67 rfl rfl fun _ T => lB (ix := 0) T S rfl ti67 rfl rfl rfl fun _ T => rn T rfl tu67 rfl fun _ T => v1 T rfl fun T => ?_)))
  rcases ifE H with ⟨h77, H⟩ | ⟨h77, H⟩
  ·refine cdT T rfl h77 (sk (sq (bq (sq (sq (rg (v2 T rfl rfl fun T => ?_)))))))
   obtain ⟨x79, h78, H⟩ := bd H
   refine rc T Try.call41 rfl rfl (s_Table_look.okD _ _ z (s_Table.mk x65 x68 x71 x74 x75) x76 (S.sel (p := [blk b2 [.slice A66 x65.length k67, .slice A69 x68.length k70, .slice A72 x71.length k73, .int .i64 x74, .int .i64 x75], sl .ro ku8 A66 k67 x65, sl .ro ks_block A69 k70 x68, sl .ro ku8 A72 k73 x71]) (is := [0, 0, 0, 0]) rfl) _ h78) ?_
   rintro _ _ ⟨ys, A80, k81, A83, k84, A85, k86, A87, k88, hys, rfl, S⟩
   have hlen : x79.1.length = ys.length := by rw [hys, List.length_map]
   refine ⟨_, rfl, fun _ T => ?_⟩
   replace S : SL ([sl .own kRE A80 k81 ys, blk b2 [.slice A83 x79.2.b.length k84, .slice A85 x79.2.blocks.length k86, .slice A87 x79.2.filter.length k88, .int .i64 x79.2.count, .int .i64 x79.2.reads], sl .ro ku8 A83 k84 x79.2.b, sl .ro ks_block A85 k86 x79.2.blocks, sl .ro ku8 A87 k88 x79.2.filter, pack (own8 (pls ys)), sl .ro ku8 A10 k11 x9, blk b13 [.slice none 0 0, .int .u64 0, .bool false, .slice none 0 0]] ++ F) _ := S.join
   refine rn T rfl tu22 rfl fun _ T => v1 T rfl fun T => bq (Gets.loop ?_)
   exact L2D_ok F r z b2 x9 A10 k11 x12 b13 x76 A80 x79 ys hys hlen (look_len h78) k81 A83 k84 A85 k86 A87 k88 (L1 z x9 x12 m) ih z 0 _ _ (T.sub ⟨rfl, rfl, rfl, rfl, rfl, rfl, by simp [lk, hlen], rfl, trivial⟩) (S.only (p := [blk b2 [.slice A83 x79.2.b.length k84, .slice A85 x79.2.blocks.length k86, .slice A87 x79.2.filter.length k88, .int .i64 x79.2.count, .int .i64 x79.2.reads], sl .ro ku8 A83 k84 x79.2.b, sl .ro ks_block A85 k86 x79.2.blocks, sl .ro ku8 A87 k88 x79.2.filter, sl .ro ku8 A10 k11 x9, blk b13 [.slice none 0 0, .int .u64 0, .bool false, .slice none 0 0], sl .own kRE A80 k81 ys, pack (own8 (pls (ys.drop 0)))]) [1, 1, 1, 1, 2, 2, 0, 0] rfl) H
  ·refine cdF T rfl h77 (Gets.exit rfl (sq (rg (r_build (cs := #[.slice none 0 0, .int .u64 0, .bool false, .slice none 0 0]) T stt36 rfl rfl rfl fun _ T => ?_))))
   refine r_stBA (ix := 5) (vs := [.slice none 0 0, .int .u64 0, .bool false, .slice none 0 0]) (l' := [blk b2 [.slice A66 x65.length k67, .slice A69 x68.length k70, .slice A72 x71.length k73, .int .i64 x74, .int .i64 x75], sl .ro ku8 A66 k67 x65, sl .ro ks_block A69 k70 x68, sl .ro ku8 A72 k73 x71, sl .ro ku8 A10 k11 x9, blk b13 [.slice none 0 0, .int .u64 0, .bool false, .slice none 0 0]]) T S rfl rfl rfl rfl (by simp) ts36 (nle rfl) rfl fun _ S => ?_
   refine v1 T rfl fun T => ?_
   replace S := S.nil ku8 .own
   replace S := S.nil ku8 .own
   obtain rfl := sj H
   exact rtnM T S tf11 rfl ⟨_, _, rfl, ⟨b13, _, 7, rfl, rfl, .inl ⟨ti36, ts36, rfl⟩⟩, ⟨_, _, rfl, rfl, rfl⟩⟩ ⟨none, 0, none, 0, A66, k67, A69, k70, A72, k73, rfl, (S.only (p := [sl .own ku8 none 0 ([] : List Int), sl .own ku8 none 0 ([] : List Int), blk b2 [.slice A66 x65.length k67, .slice A69 x68.length k70, .slice A72 x71.length k73, .int .i64 x74, .int .i64 x75], sl .ro ku8 A66 k67 x65, sl .ro ks_block A69 k70 x68, sl .ro ku8 A72 k73 x71, sl .ro ku8 A10 k11 x9]) [1, 0, 0, 0, 0, 0, 0] rfl)⟩
theorem J0D_ok (F : List Atom) (r : aE × Bool × s_Table) (z : Nat) (b2 : Nat) (x9 : List Int) (A10 : Option Addr) (k11 : Nat) (b13 : Nat) (x12 : Int) (A46 : Option Addr) (x45 : List Int) (k47 : Nat) (A49 : Option Addr) (x48 : List s_block) (k50 : Nat) (A52 : Option Addr) (x51 : List Int) (k53 : Nat) (x54 : Int) (x55 : Int) (a : Act) (w : World) (T : Tm 77 [(6, .pointer (some ⟨b13, 0, none⟩))] a) (S : SL ([blk b2 [.slice A46 x45.length k47, .slice A49 x48.length k50, .slice A52 x51.length k53, .int .i64 x54, .int .i64 x55], sl .ro ku8 A46 k47 x45, sl .ro ks_block A49 k50 x48, sl .ro ku8 A52 k53 x51, sl .ro ku8 A10 k11 x9, blk b13 [.slice none 0 0, .int .u64 0, .bool false, .slice none 0 0]] ++ F) w) (H : J0 z x45 x48 x51 x54 x55 = some r) : Gets Try.prog 11 ptJ0 a w (RD F b2 x9 A10 k11 r) := by
 refine rg (r_build (cs := #[.slice none 0 0, .int .u64 0, .bool false, .slice none 0 0]) T stt36 rfl rfl rfl fun _ T => ?_)
 refine r_stBA (ix := 5) (vs := [.slice none 0 0, .int .u64 0, .bool false, .slice none 0 0]) (l' := [blk b2 [.slice A46 x45.length k47, .slice A49 x48.length k50, .slice A52 x51.length k53, .int .i64 x54, .int .i64 x55], sl .ro ku8 A46 k47 x45, sl .ro ks_block A49 k50 x48, sl .ro ku8 A52 k53 x51, sl .ro ku8 A10 k11 x9, blk b13 [.slice none 0 0, .int .u64 0, .bool false, .slice none 0 0]]) T S rfl rfl rfl rfl (by simp) ts36 (nle rfl) rfl fun _ S => ?_
 refine v1 T rfl fun T => ?_
 replace S := S.nil ku8 .own
 replace S := S.nil ku8 .own
 obtain rfl := sj H
 exact rtnM T S tf11 rfl ⟨_, _, rfl, ⟨b13, _, 7, rfl, rfl, .inl ⟨ti36, ts36, rfl⟩⟩, ⟨_, _, rfl, rfl, rfl⟩⟩ ⟨none, 0, none, 0, A46, k47, A49, k50, A52, k53, rfl, (S.only (p := [sl .own ku8 none 0 ([] : List Int), sl .own ku8 none 0 ([] : List Int), blk b2 [.slice A46 x45.length k47, .slice A49 x48.length k50, .slice A52 x51.length k53, .int .i64 x54, .int .i64 x55], sl .ro ku8 A46 k47 x45, sl .ro ks_block A49 k50 x48, sl .ro ku8 A52 k53 x51, sl .ro ku8 A10 k11 x9]) [1, 0, 0, 0, 0, 0, 0] rfl)⟩
theorem okD (F : List Atom) (w : World) (z : Nat) (x1 : s_Table) (x9 : List Int) (x12 : Int) {b2 : Nat} {A3 : Option Addr} {k4 : Nat} {A5 : Option Addr} {k6 : Nat} {A7 : Option Addr} {k8 : Nat} {A10 : Option Addr} {k11 : Nat} (S : SL ([blk b2 [.slice A3 x1.b.length k4, .slice A5 x1.blocks.length k6, .slice A7 x1.filter.length k8, .int .i64 x1.count, .int .i64 x1.reads], sl .ro ku8 A3 k4 x1.b, sl .ro ks_block A5 k6 x1.blocks, sl .ro ku8 A7 k8 x1.filter, sl .ro ku8 A10 k11 x9] ++ F) w) (r : aE × Bool × s_Table) (H : f z x1 x9 x12 = some r) : Calls Try.prog 11 #[.pointer (some ⟨b2, 0, none⟩), .slice A10 x9.length k11, .int .u64 x12] w (RD F b2 x9 A10 k11 r) := by
 refine enter (vs := [.pointer (some ⟨b2, 0, none⟩), .slice A10 x9.length k11, .int .u64 x12]) tf11 rfl Try.ntmps11 (nle rfl) fun a T => ?_
 refine sq (rg (r_alloc T S zv36 (cs := [.slice none 0 0, .int .u64 0, .bool false, .slice none 0 0]) rfl rfl fun _ _ b13 S T => v1 T rfl fun T => sq (sq (rg (v2 T rfl rfl fun T => ?_)))))
 obtain ⟨x15, h14, H⟩ := bd H
 refine rc T Try.call15 rfl rfl (s_Table_First.ok _ _ x1 (S.sel (p := [blk b2 [.slice A3 x1.b.length k4, .slice A5 x1.blocks.length k6, .slice A7 x1.filter.length k8, .int .i64 x1.count, .int .i64 x1.reads], sl .ro ku8 A3 k4 x1.b, sl .ro ks_block A5 k6 x1.blocks, sl .ro ku8 A7 k8 x1.filter]) (is := [1, 1, 1, 1]) rfl) _ h14) ?_
 rintro _ _ ⟨A16, k17, A19, k20, A21, k22, A23, k24, rfl, S⟩
 refine ⟨_, rfl, fun _ T => ?_⟩
 replace S : SL ([sl .own ku8 A16 k17 x15.1, blk b2 [.slice A19 x15.2.b.length k20, .slice A21 x15.2.blocks.length k22, .slice A23 x15.2.filter.length k24, .int .i64 x15.2.count, .int .i64 x15.2.reads], sl .ro ku8 A19 k20 x15.2.b, sl .ro ks_block A21 k22 x15.2.blocks, sl .ro ku8 A23 k24 x15.2.filter, blk b13 [.slice none 0 0, .int .u64 0, .bool false, .slice none 0 0], sl .ro ku8 A10 k11 x9] ++ F) _ := S.join
 replace S := S.dup (i := 6) rfl
 obtain ⟨x26, h25, H⟩ := bd H
 refine rc T tc38 rfl rfl (c_Compare.ok _ _ x9 x15.1 (S.sel (p := [sl .ro ku8 A10 k11 x9, sl .own ku8 A16 k17 x15.1]) (is := [0, 0]) rfl) _ h25) ?_
 rintro _ _ ⟨rfl, S⟩
 refine ⟨_, rfl, fun _ T => ?_⟩
 replace S : SL ([sl .own ku8 A16 k17 x15.1, blk b2 [.slice A19 x15.2.b.length k20, .slice A21 x15.2.blocks.length k22, .slice A23 x15.2.filter.length k24, .int .i64 x15.2.count, .int .i64 x15.2.reads], sl .ro ku8 A19 k20 x15.2.b, sl .ro ks_block A21 k22 x15.2.blocks, sl .ro ku8 A23 k24 x15.2.filter, blk b13 [.slice none 0 0, .int .u64 0, .bool false, .slice none 0 0], sl .ro ku8 A10 k11 x9] ++ F) _ := S.join.only [1, 1, 1, 1, 1, 1, 1] rfl
 refine v2 T rfl rfl fun T => ?_
 rcases ifE H with ⟨h27, H⟩ | ⟨h27, H⟩
 ·refine gn T rfl h27 fun T => gn T rfl h27 fun T => gn T rfl h27 fun T => gn T rfl h27 fun T => gn T rfl h27 fun T => pT T rfl h27 rfl rfl fun _ T => v1 T rfl fun T => gn T rfl rfl fun T => gn T rfl rfl fun T => gn T rfl rfl fun T => gn T rfl rfl fun T => gn T rfl rfl fun T => gn T rfl rfl fun T => gn T rfl rfl fun T => pT T rfl rfl rfl rfl fun _ T => cdT T rfl rfl (sq ?_)
  exact J0D_ok F r z b2 x9 A10 k11 b13 x12 A19 x15.2.b k20 A21 x15.2.blocks k22 A23 x15.2.filter k24 x15.2.count x15.2.reads _ _ (T.sb rfl) (S.only (p := [blk b2 [.slice A19 x15.2.b.length k20, .slice A21 x15.2.blocks.length k22, .slice A23 x15.2.filter.length k24, .int .i64 x15.2.count, .int .i64 x15.2.reads], sl .ro ku8 A19 k20 x15.2.b, sl .ro ks_block A21 k22 x15.2.blocks, sl .ro ku8 A23 k24 x15.2.filter, sl .ro ku8 A10 k11 x9, blk b13 [.slice none 0 0, .int .u64 0, .bool false, .slice none 0 0]]) [1, 1, 1, 1, 2, 1] rfl) H
 ·refine gy T rfl h27 (v1 T rfl fun T => gy T rfl h27 (v1 T rfl fun T => gy T rfl h27 ?_))
  obtain ⟨x29, h28, H⟩ := bd H
  refine rc T Try.call16 rfl rfl (s_Table_Last.ok _ _ x15.2 (S.sel (p := [blk b2 [.slice A19 x15.2.b.length k20, .slice A21 x15.2.blocks.length k22, .slice A23 x15.2.filter.length k24, .int .i64 x15.2.count, .int .i64 x15.2.reads], sl .ro ku8 A19 k20 x15.2.b, sl .ro ks_block A21 k22 x15.2.blocks, sl .ro ku8 A23 k24 x15.2.filter]) (is := [1, 1, 1, 1]) rfl) _ h28) ?_
  rintro _ _ ⟨A30, k31, A33, k34, A35, k36, A37, k38, rfl, S⟩
  refine ⟨_, rfl, fun _ T => ?_⟩
  replace S : SL ([sl .own ku8 A30 k31 x29.1, blk b2 [.slice A33 x29.2.b.length k34, .slice A35 x29.2.blocks.length k36, .slice A37 x29.2.filter.length k38, .int .i64 x29.2.count, .int .i64 x29.2.reads], sl .ro ku8 A33 k34 x29.2.b, sl .ro ks_block A35 k36 x29.2.blocks, sl .ro ku8 A37 k38 x29.2.filter, sl .own ku8 A16 k17 x15.1, blk b13 [.slice none 0 0, .int .u64 0, .bool false, .slice none 0 0], sl .ro ku8 A10 k11 x9] ++ F) _ := S.join
  refine gy T rfl h27 ?_
  replace S := S.dup (i := 7) rfl
  obtain ⟨x40, h39, H⟩ := bd H
  refine rc T tc38 rfl rfl (c_Compare.ok _ _ x9 x29.1 (S.sel (p := [sl .ro ku8 A10 k11 x9, sl .own ku8 A30 k31 x29.1]) (is := [0, 0]) rfl) _ h39) ?_
  rintro _ _ ⟨rfl, S⟩
  refine ⟨_, rfl, fun _ T => ?_⟩
  replace S : SL ([sl .own ku8 A30 k31 x29.1, blk b2 [.slice A33 x29.2.b.length k34, .slice A35 x29.2.blocks.length k36, .slice A37 x29.2.filter.length k38, .int .i64 x29.2.count, .int .i64 x29.2.reads], sl .ro ku8 A33 k34 x29.2.b, sl .ro ks_block A35 k36 x29.2.blocks, sl .ro ku8 A37 k38 x29.2.filter, sl .own ku8 A16 k17 x15.1, blk b13 [.slice none 0 0, .int .u64 0, .bool false, .slice none 0 0], sl .ro ku8 A10 k11 x9] ++ F) _ := S.join.only [1, 1, 1, 1, 1, 1, 1, 1] rfl
  refine gy T rfl h27 (v1 T rfl fun T => pF T rfl h27 rfl rfl fun _ T => v1 T rfl fun T => ?_)
  rcases ifE H with ⟨h41, H⟩ | ⟨h41, H⟩
  ·refine gn T rfl h41 fun T => gn T rfl h41 fun T => gn T rfl h41 fun T => gn T rfl h41 fun T => gn T rfl h41 fun T => gn T rfl h41 fun T => gn T rfl h41 fun T => pT T rfl h41 rfl rfl fun _ T => cdT T rfl rfl (sq ?_)
   exact J0D_ok F r z b2 x9 A10 k11 b13 x12 A33 x29.2.b k34 A35 x29.2.blocks k36 A37 x29.2.filter k38 x29.2.count x29.2.reads _ _ (T.sb rfl) (S.only (p := [blk b2 [.slice A33 x29.2.b.length k34, .slice A35 x29.2.blocks.length k36, .slice A37 x29.2.filter.length k38, .int .i64 x29.2.count, .int .i64 x29.2.reads], sl .ro ku8 A33 k34 x29.2.b, sl .ro ks_block A35 k36 x29.2.blocks, sl .ro ku8 A37 k38 x29.2.filter, sl .ro ku8 A10 k11 x9, blk b13 [.slice none 0 0, .int .u64 0, .bool false, .slice none 0 0]]) [1, 1, 1, 1, 3, 2] rfl) H
  ·refine gy T rfl h41 (v1 T rfl fun T => gy T rfl h41 (v1 T rfl fun T => gy T rfl h41 (r_fa (o' := 2) T rfl tu69 rfl ts24 rfl rfl fun _ T => gy T rfl h41 (lB (ix := 1) T S rfl ti24 rfl rfl rfl fun _ T => gy T rfl h41 (v1 T rfl fun T => gy T rfl h41 ?_)))))
   replace S := S.dup (i := 7) rfl
   obtain ⟨x43, h42, H⟩ := bd H
   refine rc T Try.call39 rfl rfl (b_May.ok _ _ z x29.2.filter x9 (S.sel (p := [sl .ro ku8 A37 k38 x29.2.filter, sl .ro ku8 A10 k11 x9]) (is := [5, 0]) rfl) _ h42) ?_
   rintro _ _ ⟨rfl, S⟩
   refine ⟨_, rfl, fun _ T => ?_⟩
   replace S : SL ([sl .ro ku8 A37 k38 x29.2.filter, sl .own ku8 A30 k31 x29.1, blk b2 [.slice A33 x29.2.b.length k34, .slice A35 x29.2.blocks.length k36, .slice A37 x29.2.filter.length k38, .int .i64 x29.2.count, .int .i64 x29.2.reads], sl .ro ku8 A33 k34 x29.2.b, sl .ro ks_block A35 k36 x29.2.blocks, sl .own ku8 A16 k17 x15.1, blk b13 [.slice none 0 0, .int .u64 0, .bool false, .slice none 0 0], sl .ro ku8 A10 k11 x9] ++ F) _ := S.join.only [0, 1, 1, 1, 1, 1, 1, 1] rfl
   refine gy T rfl h41 (v1 T rfl fun T => pF T rfl h41 rfl rfl fun _ T => ?_)
   rcases ifE H with ⟨h44, H⟩ | ⟨h44, H⟩
   ·refine cdT T rfl h44 (sq ?_)
    exact J0D_ok F r z b2 x9 A10 k11 b13 x12 A33 x29.2.b k34 A35 x29.2.blocks k36 A37 x29.2.filter k38 x29.2.count x29.2.reads _ _ (T.sb rfl) (S.only (p := [blk b2 [.slice A33 x29.2.b.length k34, .slice A35 x29.2.blocks.length k36, .slice A37 x29.2.filter.length k38, .int .i64 x29.2.count, .int .i64 x29.2.reads], sl .ro ku8 A33 k34 x29.2.b, sl .ro ks_block A35 k36 x29.2.blocks, sl .ro ku8 A37 k38 x29.2.filter, sl .ro ku8 A10 k11 x9, blk b13 [.slice none 0 0, .int .u64 0, .bool false, .slice none 0 0]]) [2, 2, 2, 0, 3, 2] rfl) H
   ·refine cdF T rfl h44 (sk (sq (sq (rg (v2 T rfl rfl fun T => ?_)))))
    replace S := S.dup (i := 7) rfl
    obtain ⟨x57, h56, H⟩ := bd H
    refine rc T Try.call40 rfl rfl (s_Table_find.ok _ _ z x29.2 x9 (S.sel (p := [blk b2 [.slice A33 x29.2.b.length k34, .slice A35 x29.2.blocks.length k36, .slice A37 x29.2.filter.length k38, .int .i64 x29.2.count, .int .i64 x29.2.reads], sl .ro ku8 A33 k34 x29.2.b, sl .ro ks_block A35 k36 x29.2.blocks, sl .ro ku8 A37 k38 x29.2.filter, sl .ro ku8 A10 k11 x9]) (is := [3, 3, 3, 1, 0]) rfl) _ h56) ?_
    rintro _ _ ⟨A59, k60, A61, k62, A63, k64, rfl, S⟩
    refine ⟨_, rfl, fun _ T => ?_⟩
    replace S : SL ([blk b2 [.slice A59 x57.2.b.length k60, .slice A61 x57.2.blocks.length k62, .slice A63 x57.2.filter.length k64, .int .i64 x57.2.count, .int .i64 x57.2.reads], sl .ro ku8 A59 k60 x57.2.b, sl .ro ks_block A61 k62 x57.2.blocks, sl .ro ku8 A63 k64 x57.2.filter, sl .own ku8 A30 k31 x29.1, sl .own ku8 A16 k17 x15.1, blk b13 [.slice none 0 0, .int .u64 0, .bool false, .slice none 0 0], sl .ro ku8 A10 k11 x9] ++ F) _ := S.join.only [0, 0, 0, 0, 1, 1, 1, 1] rfl
    refine v1 T rfl fun T => bq (Gets.loop ?_)
    exact L1D_ok F r z b2 x9 A10 k11 x12 b13 z x57.1 A59 x57.2.b k60 A61 x57.2.blocks k62 A63 x57.2.filter k64 x57.2.count x57.2.reads _ _ (T.sb rfl) (S.only (p := [blk b2 [.slice A59 x57.2.b.length k60, .slice A61 x57.2.blocks.length k62, .slice A63 x57.2.filter.length k64, .int .i64 x57.2.count, .int .i64 x57.2.reads], sl .ro ku8 A59 k60 x57.2.b, sl .ro ks_block A61 k62 x57.2.blocks, sl .ro ku8 A63 k64 x57.2.filter, sl .ro ku8 A10 k11 x9, blk b13 [.slice none 0 0, .int .u64 0, .bool false, .slice none 0 0]]) [0, 0, 0, 0, 3, 2] rfl) H
end s_Table_Get
namespace s_Table_Count
def R (F : List Atom) (b2 : Nat) (r : Int × s_Table) : Ending → World → Prop := fun e w' => ∃ (A10 : OA), ∃ (k11 : Nat), ∃ (A12 : OA), ∃ (k13 : Nat), ∃ (A14 : OA), ∃ (k15 : Nat), e = .returned (.int .i64 r.1) ∧ SL ([blk b2 [.slice A10 r.2.b.length k11, .slice A12 r.2.blocks.length k13, .slice A14 r.2.filter.length k15, .int .i64 r.2.count, .int .i64 r.2.reads], sl .ro ku8 A10 k11 r.2.b, sl .ro ks_block A12 k13 r.2.blocks, sl .ro ku8 A14 k15 r.2.filter] ++ F) w'
def f (x1 : s_Table) : Option (Int × s_Table) := some (x1.count, x1)
theorem ok (F : List Atom) (w : World) (x1 : s_Table) {b2 : Nat} {A3 : OA} {k4 : Nat} {A5 : OA} {k6 : Nat} {A7 : OA} {k8 : Nat} (S : SL ([blk b2 [.slice A3 x1.b.length k4, .slice A5 x1.blocks.length k6, .slice A7 x1.filter.length k8, .int .i64 x1.count, .int .i64 x1.reads], sl .ro ku8 A3 k4 x1.b, sl .ro ks_block A5 k6 x1.blocks, sl .ro ku8 A7 k8 x1.filter] ++ F) w) (r : Int × s_Table) (H : f x1 = some r) : Calls Try.prog 17 #[.pointer (some ⟨b2, 0, none⟩)] w (R F b2 r) := by
 refine enter (vs := [.pointer (some ⟨b2, 0, none⟩)]) Try.func17 rfl Try.ntmps17 (nle rfl) fun a T => ?_
 refine sq (rg (v1 T rfl fun T => sq (rg (v2 T rfl rfl fun T => r_fa (o' := 3) T rfl tu69 rfl ts3 rfl rfl fun _ T => lB (ix := 0) T S rfl ti3 rfl rfl rfl fun _ T => v1 T rfl fun T => ?_))))
 obtain rfl := sj H
 exact rtn T Try.func17 rfl rfl ⟨A3, k4, A5, k6, A7, k8, rfl, (S.only [0, 0, 0, 0] rfl)⟩
end s_Table_Count
namespace s_Table_Blocks
def R (F : List Atom) (b2 : Nat) (r : Int × s_Table) : Ending → World → Prop := fun e w' => ∃ (A10 : OA), ∃ (k11 : Nat), ∃ (A12 : OA), ∃ (k13 : Nat), ∃ (A14 : OA), ∃ (k15 : Nat), e = .returned (.int .i64 r.1) ∧ SL ([blk b2 [.slice A10 r.2.b.length k11, .slice A12 r.2.blocks.length k13, .slice A14 r.2.filter.length k15, .int .i64 r.2.count, .int .i64 r.2.reads], sl .ro ku8 A10 k11 r.2.b, sl .ro ks_block A12 k13 r.2.blocks, sl .ro ku8 A14 k15 r.2.filter] ++ F) w'
def f (x1 : s_Table) : Option (Int × s_Table) := some ((x1.blocks.length : Int), x1)
theorem ok (F : List Atom) (w : World) (x1 : s_Table) {b2 : Nat} {A3 : OA} {k4 : Nat} {A5 : OA} {k6 : Nat} {A7 : OA} {k8 : Nat} (S : SL ([blk b2 [.slice A3 x1.b.length k4, .slice A5 x1.blocks.length k6, .slice A7 x1.filter.length k8, .int .i64 x1.count, .int .i64 x1.reads], sl .ro ku8 A3 k4 x1.b, sl .ro ks_block A5 k6 x1.blocks, sl .ro ku8 A7 k8 x1.filter] ++ F) w) (r : Int × s_Table) (H : f x1 = some r) : Calls Try.prog 18 #[.pointer (some ⟨b2, 0, none⟩)] w (R F b2 r) := by
 refine enter (vs := [.pointer (some ⟨b2, 0, none⟩)]) Try.func18 rfl Try.ntmps18 (nle rfl) fun a T => ?_
 refine sq (rg (v1 T rfl fun T => sq (rg (v2 T rfl rfl fun T => r_fa (o' := 1) T rfl tu69 rfl ts67 rfl rfl fun _ T => lB (ix := 0) T S rfl ti67 rfl rfl rfl fun _ T => rn T rfl tu67 rfl fun _ T => v1 T rfl fun T => ?_))))
 obtain rfl := sj H
 exact rtn T Try.func18 rfl rfl ⟨A3, k4, A5, k6, A7, k8, rfl, (S.only [0, 0, 0, 0] rfl)⟩
end s_Table_Blocks
end Go.Proofs.Ytghpokmkhlmgcaa
