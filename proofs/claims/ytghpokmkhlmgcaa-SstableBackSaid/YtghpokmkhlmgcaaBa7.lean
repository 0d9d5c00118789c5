/- Each entry of a table is found. -/
import Derived.Test.YtghpokmkhlmgcaaBa6
import Derived.Test.YtghpokmkhlmgcaaBa3
import Derived.Test.YtghpokmkhlmgcaaBa5
import Derived.KernelRfl
import Derived.Test.YtghpokmkhlmgcaaRows
namespace Go.Proofs.Ytghpokmkhlmgcaa
open Go Go.Proofs.Ytghpokmkhlmgcaa.X
set_option linter.unusedVariables false

theorem ordL_le {a b : api_Entry} (h : ordL a b) : cmpL a.Key b.Key ≤ 0 := by
  rcases h with h | ⟨h, _⟩
  · omega
  · rw [h, cmpL_refl]; exact Int.le_refl _
theorem lastKey_mem {g : List api_Entry} (h : g ≠ []) : ∃ x ∈ g, lastKey g = x.Key := by
  unfold lastKey
  rw [List.getLast?_eq_some_getLast h]
  exact ⟨_, List.getLast_mem h, rfl⟩
theorem firstKey_mem {g : List api_Entry} (h : g ≠ []) : ∃ x ∈ g, firstKey g = x.Key := by
  cases g with
  | nil => exact absurd rfl h
  | cons e r => exact ⟨e, List.mem_cons_self .., rfl⟩
theorem flat_split : ∀ (gs : List (List api_Entry)) (A : List api_Entry) (e : api_Entry) (B : List api_Entry), gs.flatten = A ++ e :: B → ∃ P g Q g1 g2, gs = P ++ g :: Q ∧ g = g1 ++ e :: g2 ∧ A = P.flatten ++ g1
  | [], A, e, B, h => by simp at h
  | g :: gs, A, e, B, h => by
    rw [List.flatten_cons] at h
    rcases List.append_eq_append_iff.1 h with ⟨C, h1, h2⟩ | ⟨C, h1, h2⟩
    · obtain ⟨P, x, Q, g1, g2, p1, p2, p3⟩ := flat_split gs C e B h2
      exact ⟨g :: P, x, Q, g1, g2, by rw [p1]; rfl, p2, by rw [h1, p3, List.flatten_cons, List.append_assoc]⟩
    · cases C with
      | nil =>
        rw [List.nil_append] at h2
        obtain ⟨P, x, Q, g1, g2, p1, p2, p3⟩ := flat_split gs [] e B h2.symm
        rw [List.append_nil] at h1
        exact ⟨g :: P, x, Q, g1, g2, by rw [p1]; rfl, p2, by rw [List.flatten_cons, List.append_assoc, ← p3, List.append_nil, h1]⟩
      | cons c C =>
        rw [List.cons_append, List.cons.injEq] at h2
        exact ⟨[], g, gs, A, C, rfl, by rw [h1, h2.1], by simp⟩
theorem tblocks_last : ∀ (gs : List (List api_Entry)) (o k : Nat) (h : k < gs.length), (gi dsstable_block (tblocks o gs) (k : Int)).last = lastKey gs[k]
  | [], _, _, h => by simp at h
  | g :: gs, o, 0, h => rfl
  | g :: gs, o, k + 1, h => by
    have := tblocks_last gs (o + (fr1 (blkOf g)).length) k (by simpa using h)
    unfold gi at this ⊢
    rw [Int.toNat_natCast] at this ⊢
    simpa [tblocks] using this
theorem tblocks_bys : ∀ (gs : List (List api_Entry)) (o : Nat), (∀ g ∈ gs, (∀ e ∈ g, okE e)) → ∀ x ∈ tblocks o gs, Bys x.last
  | [], _, _, x, hx => by cases hx
  | g :: gs, o, h, x, hx => by
    rcases List.mem_cons.1 hx with rfl | hx
    · show Bys (lastKey g)
      unfold lastKey
      cases hq : g.getLast? with
      | none => exact Bys.nil
      | some e => exact (h g (List.mem_cons_self ..) e (List.mem_of_getLast? hq)).1
    · exact tblocks_bys gs _ (fun y hy => h y (List.mem_cons_of_mem _ hy)) x hx
def hit (key : List Int) (seq : Int) (x : api_Entry) : Prop := x.Key = key ∧ x.Seq ≤ seq
section
variable {z : Nat} {q : Int → List Int → List sstable_block → List Int → Int → Int → Option (api_Entry × Bool × sstable_Table)} {key : List Int} {seq : Int} {i : Int} {t : sstable_Table}
theorem L2_step (hk : Bys key) {w u : List api_Entry} {x : api_Entry} (hx : okE x) (hw : w.length ≤ 1000000) {m : Nat} (h : ¬ hit key seq x) :
    sstable_Table_Get.L2 z q key seq i (w ++ x :: u, t) (m + 1) (w.length : Int) = sstable_Table_Get.L2 z q key seq i (w ++ x :: u, t) m (((w ++ [x]).length : Nat) : Int) := by
  have hg : gi dapi_Entry (w ++ x :: u) (w.length : Int) = x := gi_mid _ _ _ _ _ rfl
  rw [sstable_Table_Get.L2]
  dsimp only
  rw [if_y (by simp; omega), ck_y (by simp; omega), hg, Equal_f hx.1 hk, bd_some]
  unfold sstable_Table_Get.J3
  rw [wI (by omega), show ((w.length : Int) + 1) = (((w ++ [x]).length : Nat) : Int) by simp]
  by_cases hkk : x.Key = key
  · rw [if_y (by simpa using hkk), if_n (by rw [decide_eq_false_iff_not]; exact fun hs => h ⟨hkk, hs⟩)]
  · rw [if_n (by simpa using hkk)]
theorem L2_yes (hk : Bys key) {e : api_Entry} (he : okE e) (hh : hit key seq e) {v : List api_Entry} : ∀ (u w : List api_Entry) (m : Nat), u.length < m → (∀ x ∈ u, okE x ∧ ¬ hit key seq x) → w.length + u.length ≤ 1000000 →
    sstable_Table_Get.L2 z q key seq i (w ++ (u ++ e :: v), t) m (w.length : Int) = some (e, true, t)
  | _, _, 0, h, _, _ => by omega
  | [], w, m + 1, _, _, hl => by
    have hg : gi dapi_Entry (w ++ ([] ++ e :: v)) (w.length : Int) = e := gi_mid _ _ _ _ _ rfl
    rw [sstable_Table_Get.L2]
    dsimp only
    rw [if_y (by simp; omega), ck_y (by simp; omega), hg, Equal_f he.1 hk, bd_some, if_y (by simpa using hh.1), if_y (by simpa using hh.2)]
  | x :: u, w, m + 1, hm, hu, hl => by
    simp only [List.length_cons] at hm hl
    obtain ⟨h1, h2⟩ := hu x (List.mem_cons_self ..)
    rw [show w ++ (x :: u ++ e :: v) = w ++ x :: (u ++ e :: v) from rfl, L2_step hk h1 (by omega) h2, show w ++ x :: (u ++ e :: v) = (w ++ [x]) ++ (u ++ e :: v) by simp]
    exact L2_yes hk he hh u (w ++ [x]) m (by omega) (fun y hy => hu y (List.mem_cons_of_mem _ hy)) (by simp; omega)
theorem L2_no (hk : Bys key) : ∀ (u w : List api_Entry) (m : Nat), u.length < m → (∀ x ∈ u, okE x ∧ ¬ hit key seq x) → w.length + u.length ≤ 1000000 → (0 ≤ i ∧ i < (t.blocks.length : Int)) → (gi dsstable_block t.blocks i).last = key →
    sstable_Table_Get.L2 z q key seq i (w ++ u, t) m (w.length : Int) = q (wr .i64 (i + 1)) t.b t.blocks t.filter t.count t.reads
  | _, _, 0, h, _, _, _, _ => by omega
  | [], w, m + 1, _, _, hl, hi, hlast => by
    rw [sstable_Table_Get.L2]
    dsimp only
    rw [if_n (by simp), ck_y hi, hlast, Equal_f hk hk, bd_some, if_n (by simp)]
  | x :: u, w, m + 1, hm, hu, hl, hi, hlast => by
    simp only [List.length_cons] at hm hl
    obtain ⟨h1, h2⟩ := hu x (List.mem_cons_self ..)
    rw [L2_step hk h1 (by omega) h2, show w ++ x :: u = (w ++ [x]) ++ u by simp]
    exact L2_no hk u (w ++ [x]) m (by omega) (fun y hy => hu y (List.mem_cons_of_mem _ hy)) (by simp; omega) hi hlast
end
theorem Get_L1 {z : Nat} (hz : 16777216 ≤ z) {b R : List Int} (hbl : b.length ≤ 4194304) {key : List Int} (hk : Bys key) {seq : Int} {e : api_Entry} (he : okE e) (hh : hit key seq e) {g g1 g2 : List api_Entry} (hg : g = g1 ++ e :: g2) {Q : List (List api_Entry)} {F : List Int} {c : Int} :
    ∀ (P2 P1 : List (List api_Entry)) (m : Nat) (r : Int), b = outF ((P1 ++ (P2 ++ g :: Q)).map blkOf) ++ R → (∀ p ∈ P1 ++ (P2 ++ g :: Q), (∀ e ∈ p, fitS e ∧ okE e) ∧ (lays [] p).length ≤ 65900) → P2.length < m → (P1 ++ (P2 ++ g :: Q)).length ≤ 100000 → (∀ p ∈ P2, lastKey p = key ∧ ∀ x ∈ p, ¬ hit key seq x) → (∀ x ∈ g1, ¬ hit key seq x) →
      ∃ r', sstable_Table_Get.L1 z key seq m (P1.length : Int) b (tblocks 0 (P1 ++ (P2 ++ g :: Q))) F c r = some (e, true, ⟨b, tblocks 0 (P1 ++ (P2 ++ g :: Q)), F, c, r'⟩)
  | _, _, 0, _, _, _, h, _, _, _ => by omega
  | [], P1, m + 1, r, hb, hall, _, hl, _, hg1 => by
    have hgm := hall g (by simp)
    have hn := lays_len g []
    refine ⟨wr .i64 (r + 1), ?_⟩
    rw [List.nil_append] at hb ⊢
    rw [sstable_Table_Get.L1, if_y (by rw [decide_eq_true_iff, tblocks_len]; simp; omega), look_f hz hb hbl hgm.1 hgm.2, bd_some]
    have := L2_yes (z := z) (q := sstable_Table_Get.L1 z key seq m) (i := (P1.length : Int)) (t := ⟨b, tblocks 0 (P1 ++ g :: Q), F, c, wr .i64 (r + 1)⟩) hk he hh (v := g2) g1 [] z (by
      rw [hg] at hn hgm
      simp only [List.length_append] at hn
      omega) (fun x hx => ⟨(hgm.1 x (by rw [hg]; simp [hx])).2, hg1 x hx⟩) (by
      rw [hg] at hn hgm
      simp only [List.length_append] at hn
      simp only [List.length_nil]
      omega)
    rw [List.nil_append, ← hg] at this
    exact this
  | p :: P2, P1, m + 1, r, hb, hall, hm, hl, hp, hg1 => by
    have hpm := hall p (by simp)
    have hn := lays_len p []
    obtain ⟨hlast, hno⟩ := hp p (List.mem_cons_self ..)
    have hshape : P1 ++ (p :: P2 ++ g :: Q) = P1 ++ p :: (P2 ++ g :: Q) := rfl
    have hshape2 : P1 ++ p :: (P2 ++ g :: Q) = (P1 ++ [p]) ++ (P2 ++ g :: Q) := by simp
    rw [hshape] at hb hl hall ⊢
    rw [sstable_Table_Get.L1, if_y (by rw [decide_eq_true_iff, tblocks_len]; simp; omega), look_f hz hb hbl hpm.1 hpm.2, bd_some]
    have hat := tblocks_at P1 p (P2 ++ g :: Q) 0
    have := L2_no (z := z) (q := sstable_Table_Get.L1 z key seq m) (i := (P1.length : Int)) (t := ⟨b, tblocks 0 (P1 ++ p :: (P2 ++ g :: Q)), F, c, wr .i64 (r + 1)⟩) (seq := seq) hk p [] z (by omega) (fun x hx => ⟨(hpm.1 x hx).2, hno x hx⟩) (by simp; omega) (by dsimp only; rw [tblocks_len]; simp; omega) (by dsimp only; rw [hat]; exact hlast)
    rw [List.nil_append, List.length_nil] at this
    rw [show ((0 : Nat) : Int) = 0 from rfl] at this
    rw [this]
    dsimp only
    have hll := hl
    rw [List.length_append] at hll
    rw [wI (by omega)]
    obtain ⟨r', hr⟩ := Get_L1 hz hbl hk he hh hg (Q := Q) (F := F) (c := c) P2 (P1 ++ [p]) m (wr .i64 (r + 1)) (by rw [← hshape2]; exact hb) (by rw [← hshape2]; exact hall) (by simp at hm; omega) (by rw [← hshape2]; exact hl) (fun y hy => hp y (List.mem_cons_of_mem _ hy)) hg1
    refine ⟨r', ?_⟩
    rw [hshape2, show ((P1.length : Int) + 1) = (((P1 ++ [p]).length : Nat) : Int) by simp]
    exact hr
theorem part_keys (key : List Int) : ∀ (P : List (List api_Entry)), P.Pairwise (fun p p' => cmpL (lastKey p) (lastKey p') ≤ 0) → ∃ P1 P2, P = P1 ++ P2 ∧ (∀ p ∈ P1, cmpL (lastKey p) key < 0) ∧ ∀ p ∈ P2, 0 ≤ cmpL (lastKey p) key
  | [], _ => ⟨[], [], rfl, by simp, by simp⟩
  | p :: P, h => by
    obtain ⟨h1, h2⟩ := List.pairwise_cons.1 h
    by_cases hp : cmpL (lastKey p) key < 0
    · obtain ⟨P1, P2, e, q1, q2⟩ := part_keys key P h2
      refine ⟨p :: P1, P2, by rw [e]; rfl, fun x hx => ?_, q2⟩
      rcases List.mem_cons.1 hx with rfl | hx
      · exact hp
      · exact q1 x hx
    · refine ⟨[], p :: P, rfl, by simp, fun x hx => ?_⟩
      rcases List.mem_cons.1 hx with rfl | hx
      · omega
      · have a := h1 x hx
        have s1 := cmpL_swap (lastKey p) key
        have s2 := cmpL_swap key (lastKey x)
        have := cmpL_trans (x := key) (y := lastKey p) (w := lastKey x) (by omega) a
        omega
theorem Get_f {z : Nat} (hz : 16777216 ≤ z) {b R : List Int} (hbl : b.length ≤ 4194304) {gs : List (List api_Entry)} (hb : b = outF (gs.map blkOf) ++ R) (hall : ∀ g ∈ gs, g ≠ [] ∧ (∀ e ∈ g, fitS e ∧ okE e) ∧ (lays [] g).length ≤ 65900) (hgl : gs.length ≤ 100000) (hord : gs.flatten.Pairwise ordL) {A B : List api_Entry} {e : api_Entry} (hsplit : gs.flatten = A ++ e :: B)
    {F : List Int} (hmay : bloom_May.f z F e.Key = some true) (c r : Int) : ∃ r', sstable_Table_Get.f z ⟨b, tblocks 0 gs, F, c, r⟩ e.Key e.Seq = some (e, true, ⟨b, tblocks 0 gs, F, c, r'⟩) := by
  obtain ⟨P, g, Q, g1, g2, hgs, hg, hA⟩ := flat_split gs A e B hsplit
  obtain ⟨hin, hbt⟩ := List.pairwise_flatten.1 hord
  have hgm : g ∈ gs := by rw [hgs]; simp
  have heg : e ∈ g := by rw [hg]; simp
  have heo := ((hall g hgm).2.1 e heg).2
  have hef := ((hall g hgm).2.1 e heg).1
  have hbef : ∀ x ∈ A, ordL x e := by
    rw [hsplit] at hord
    exact fun x hx => (List.pairwise_append.1 hord).2.2 x hx e (List.mem_cons_self ..)
  have hnohit : ∀ x ∈ A, ¬ hit e.Key e.Seq x := by
    rintro x hx ⟨h1, h2⟩
    rcases hbef x hx with q | ⟨_, q⟩
    · rw [h1, cmpL_refl] at q; omega
    · omega
  have hmono : gs.Pairwise (fun p p' => cmpL (lastKey p) (lastKey p') ≤ 0) := by
    refine List.Pairwise.imp_of_mem (fun {p p'} hp hp' h => ?_) hbt
    obtain ⟨x, hx, ex⟩ := lastKey_mem (hall p hp).1
    obtain ⟨y, hy, ey⟩ := lastKey_mem (hall p' hp').1
    rw [ex, ey]
    exact ordL_le (h x hx y hy)
  have hgle : 0 ≤ cmpL (lastKey g) e.Key := by
    obtain ⟨x, hx, ex⟩ := lastKey_mem (hall g hgm).1
    have hs := cmpL_swap e.Key (lastKey g)
    have : cmpL e.Key (lastKey g) ≤ 0 := by
      have hgp := hin g hgm
      unfold lastKey
      rw [hg] at hgp ⊢
      rw [List.getLast?_append]
      cases g2 with
      | nil => simp [cmpL_refl]
      | cons y g2 =>
        have hpe := (List.pairwise_cons.1 (List.pairwise_append.1 hgp).2.1).1
        have hne : (e :: y :: g2).getLast? = some ((y :: g2).getLast (List.cons_ne_nil y g2)) := by rw [List.getLast?_cons_cons, List.getLast?_eq_some_getLast (List.cons_ne_nil y g2)]
        rw [hne]
        exact ordL_le (hpe _ (List.getLast_mem _))
    omega
  rw [hgs] at hmono
  obtain ⟨mP, mgQ, mX⟩ := List.pairwise_append.1 hmono
  obtain ⟨P1, P2, hP, hlo, hhi⟩ := part_keys e.Key P mP
  have hP2 : ∀ p ∈ P2, lastKey p = e.Key ∧ ∀ x ∈ p, ¬ hit e.Key e.Seq x := by
    intro p hp
    have hpP : p ∈ P := by rw [hP]; exact List.mem_append_right _ hp
    have hpA : ∀ x ∈ p, x ∈ A := fun x hx => by rw [hA]; exact List.mem_append_left _ (List.mem_flatten.2 ⟨p, hpP, hx⟩)
    refine ⟨?_, fun x hx => hnohit x (hpA x hx)⟩
    obtain ⟨x, hx, ex⟩ := lastKey_mem (hall p (by rw [hgs]; exact List.mem_append_left _ hpP)).1
    have h1 := hhi p hp
    have h2 := ordL_le (hbef x (hpA x hx))
    rw [ex] at h1 ⊢
    exact cmpL_eq (by omega)
  have hQ : ∀ p ∈ Q, 0 ≤ cmpL (lastKey p) e.Key := by
    intro p hp
    have h1 := (List.pairwise_cons.1 mgQ).1 p hp
    have s1 := cmpL_swap (lastKey g) e.Key
    have s2 := cmpL_swap e.Key (lastKey p)
    have := cmpL_trans (x := e.Key) (y := lastKey g) (w := lastKey p) (by omega) h1
    omega
  have hgs2 : gs = P1 ++ (P2 ++ g :: Q) := by rw [hgs, hP, List.append_assoc]
  have hkl := hef.2.2.1
  -- the ends
  have hne0 : gs ≠ [] := by rw [hgs]; simp
  have hfirst : ∃ k0, sstable_Table_First.f ⟨b, tblocks 0 gs, F, c, r⟩ = some (k0, ⟨b, tblocks 0 gs, F, c, r⟩) ∧ Bys k0 ∧ 0 ≤ cmpL e.Key k0 := by
    cases gs with
    | nil => exact absurd rfl hne0
    | cons f0 fs =>
      obtain ⟨x, hx, ex⟩ := firstKey_mem (hall f0 (List.mem_cons_self ..)).1
      have hx' := (hall f0 (List.mem_cons_self ..)).2.1 x hx
      refine ⟨firstKey f0, ?_, by rw [ex]; exact hx'.2.1, ?_⟩
      · unfold sstable_Table_First.f
        dsimp only
        rw [ck_y (by rw [tblocks_len]; simp)]
        have hgi : (gi dsstable_block (tblocks 0 (f0 :: fs)) 0).first = firstKey f0 := rfl
        rw [hgi]
        unfold bytes_Clone.f slices_Clip_byte.f
        rw [ck_y (by rw [ex]; have := hx'.1.2.2.1; omega), bd_some, bd_some]
      · have hhead : ∃ y ∈ (f0 :: fs).flatten, firstKey f0 = y.Key ∧ (f0 :: fs).flatten.head? = some y := by
          cases f0 with
          | nil => exact absurd rfl (hall [] (List.mem_cons_self ..)).1
          | cons y f0 => exact ⟨y, by simp, rfl, rfl⟩
        obtain ⟨y, _, ey, hy⟩ := hhead
        rw [hsplit] at hy
        have s1 := cmpL_swap e.Key (firstKey f0)
        cases A with
        | nil => simp at hy; rw [ey, ← hy, cmpL_refl]; exact Int.le_refl _
        | cons a A =>
          simp at hy
          have := ordL_le (hbef a (List.mem_cons_self ..))
          rw [hy, ← ey] at this
          omega
  have hlast : ∃ k1, sstable_Table_Last.f ⟨b, tblocks 0 gs, F, c, r⟩ = some (k1, ⟨b, tblocks 0 gs, F, c, r⟩) ∧ Bys k1 ∧ cmpL e.Key k1 ≤ 0 := by
    have hpos : 0 < gs.length := List.length_pos_iff.2 hne0
    have hidx : gs.length - 1 < gs.length := by omega
    have hmem : gs[gs.length - 1] ∈ gs := List.getElem_mem _
    obtain ⟨x, hx, ex⟩ := lastKey_mem (hall _ hmem).1
    have hx' := (hall _ hmem).2.1 x hx
    refine ⟨lastKey gs[gs.length - 1], ?_, by rw [ex]; exact hx'.2.1, ?_⟩
    · unfold sstable_Table_Last.f
      dsimp only
      rw [tblocks_len, wI (by omega), ck_y (by omega), show ((gs.length : Int) - 1) = ((gs.length - 1 : Nat) : Int) by omega, tblocks_last gs 0 _ hidx]
      unfold bytes_Clone.f slices_Clip_byte.f
      rw [ck_y (by rw [ex]; have := hx'.1.2.2.1; omega), bd_some, bd_some]
    · have hcase : gs[gs.length - 1] = g ∨ gs[gs.length - 1] ∈ Q := by
        have e1 : gs[gs.length - 1] = gs.getLast hne0 := (List.getLast_eq_getElem hne0).symm
        rw [e1]
        cases hq : Q with
        | nil =>
          left
          have hgl2 : gs.getLast? = some g := by rw [hgs, hq, List.getLast?_append]; rfl
          rw [List.getLast?_eq_some_getLast hne0] at hgl2
          exact Option.some.inj hgl2
        | cons q0 Q0 =>
          right
          have hgl2 : gs.getLast? = some ((q0 :: Q0).getLast (List.cons_ne_nil q0 Q0)) := by
            rw [hgs, hq, List.getLast?_append, List.getLast?_cons_cons, List.getLast?_eq_some_getLast (List.cons_ne_nil q0 Q0)]
            rfl
          rw [List.getLast?_eq_some_getLast hne0] at hgl2
          rw [Option.some.inj hgl2]
          exact List.getLast_mem _
      have s1 := cmpL_swap e.Key (lastKey gs[gs.length - 1])
      rcases hcase with q | q
      · rw [q] at s1 ⊢; omega
      · have := hQ _ q; omega
  obtain ⟨k0, f1, f2, f3⟩ := hfirst
  obtain ⟨k1, l1, l2, l3⟩ := hlast
  unfold sstable_Table_Get.f
  rw [f1, bd_some]
  dsimp only
  rw [Compare_f heo.1 f2, bd_some, if_n (by rw [decide_eq_false_iff_not]; omega), l1, bd_some]
  dsimp only
  rw [Compare_f heo.1 l2, bd_some, if_n (by rw [decide_eq_false_iff_not]; omega), hmay, bd_some, if_n (by rfl)]
  have hfind := find_f hz (t := ⟨b, tblocks 0 gs, F, c, r⟩) heo.1 (tblocks_bys gs 0 fun p hp x hx => ((hall p hp).2.1 x hx).2) (by dsimp only; rw [tblocks_len]; exact hgl) (s := P1.length) (by dsimp only; rw [tblocks_len, hgs2]; simp) (fun k hk => by
    dsimp only
    have hkl : k < gs.length := by rw [hgs2, List.length_append]; omega
    rw [tblocks_last gs 0 k hkl]
    have : gs[k] = P1[k] := by
      have h1 : gs[k]? = P1[k]? := by rw [hgs2, List.getElem?_append_left hk]
      rw [List.getElem?_eq_getElem hkl, List.getElem?_eq_getElem hk] at h1
      exact Option.some.inj h1
    rw [this]
    exact hlo _ (List.getElem_mem _)) (fun k hk hk2 => by
    dsimp only at hk2 ⊢
    rw [tblocks_len] at hk2
    rw [tblocks_last gs 0 k hk2]
    have hm : gs[k] ∈ P2 ++ g :: Q := by
      have h1 : gs[k]? = (P2 ++ g :: Q)[k - P1.length]? := by rw [hgs2, List.getElem?_append_right hk]
      rw [List.getElem?_eq_getElem hk2] at h1
      exact List.mem_of_getElem? h1.symm
    rcases List.mem_append.1 hm with q | q
    · exact hhi _ q
    · rcases List.mem_cons.1 q with q | q
      · rw [q]; exact hgle
      · exact hQ _ q)
  rw [hfind, bd_some]
  dsimp only
  have hbb := hb
  rw [hgs2] at hbb hall hgl ⊢
  refine Get_L1 hz hbl heo.1 heo ⟨rfl, Int.le_refl _⟩ hg P2 P1 z r hbb (fun p hp => (hall p hp).2) (by simp only [List.length_append] at hgl; omega) hgl hP2 (fun x hx => hnohit x (by rw [hA]; exact List.mem_append_right _ hx))
end Go.Proofs.Ytghpokmkhlmgcaa

namespace Go.Proofs.Ytghpokmkhlmgcaa
open Go Go.Proofs.Ytghpokmkhlmgcaa.X
set_option maxRecDepth 100000
theorem shown_true : cormorantlaw04_shown.f 16777216 = some true := by decide +kernel
end Go.Proofs.Ytghpokmkhlmgcaa

namespace Go.Proofs.Ytghpokmkhlmgcaa
open Go Go.Proofs.Ytghpokmkhlmgcaa.X
set_option linter.unusedVariables false

theorem endS_err {w : sstable_builder} {cnt : Int} {keys : List (List Int)} {bb pk : Int} (h : (endS w cnt keys bb pk).2 ≠ 0) : (endS w cnt keys bb pk).1 = [] := by
  unfold endS at h ⊢
  split
  · rfl
  · rename_i h1
    rw [if_neg h1] at h
    split
    · rfl
    · rename_i h2
      rw [if_neg h2] at h
      exact absurd rfl h
theorem buildS_err {l : List api_Entry} {bb pk : Int} (h : (buildS l bb pk).2 ≠ 0) : (buildS l bb pk).1 = [] := by
  unfold buildS at h ⊢
  split
  · rfl
  · rename_i h1
    rw [if_neg h1] at h
    split
    · rfl
    · rename_i h2
      rw [if_neg h2] at h
      cases hc : chk none l with
      | some e => rfl
      | none =>
        rw [hc] at h
        dsimp only at h ⊢
        cases hr : run bb l [] w0 with
        | none => rfl
        | some r =>
          rw [hr] at h
          exact endS_err h
theorem back_L3 {z : Nat} (hz : 16777216 ≤ z) {b R : List Int} (hbl : b.length ≤ 4194304) {gs : List (List api_Entry)} (hb : b = outF (gs.map blkOf) ++ R) (hall : ∀ g ∈ gs, g ≠ [] ∧ (∀ e ∈ g, fitS e ∧ okE e) ∧ (lays [] g).length ≤ 65900) (hgl : gs.length ≤ 100000) {l : List api_Entry} (hfl : gs.flatten = l) (hord : l.Pairwise ordL) (hl : l.length ≤ 65536) (hok : ∀ e ∈ l, okE e)
    {F : List Int} (hmay : ∀ e ∈ l, bloom_May.f z F e.Key = some true) (c : Int) : ∀ (k m i : Nat) (r : Int), l.length - i = k → i ≤ l.length → k < m → cormorantlaw04_SstableBack.L3 z l m (i : Int) b (tblocks 0 gs) F c r = some true
  | k, 0, _, _, _, _, h => by omega
  | 0, m + 1, i, r, hk, hi, _ => by rw [cormorantlaw04_SstableBack.L3, if_n (by simp; omega)]
  | k + 1, m + 1, i, r, hk, hi, hm => by
    have hil : i < l.length := by omega
    have hmem : l[i] ∈ l := List.getElem_mem _
    have hsplit : gs.flatten = l.take i ++ l[i] :: l.drop (i + 1) := by rw [hfl, ← List.drop_eq_getElem_cons hil, List.take_append_drop]
    obtain ⟨r', hg⟩ := Get_f hz hbl hb hall hgl (by rw [hfl]; exact hord) hsplit (hmay _ hmem) c r
    rw [cormorantlaw04_SstableBack.L3, if_y (by simp; omega), ck_y (by omega), gi_nat _ _ _ hil, hg, bd_some]
    dsimp only
    rw [sameOne_f (hok _ hmem), bd_some, if_n (by rfl), if_n (by rfl), wI (by omega)]
    exact back_L3 hz hbl hb hall hgl hfl hord hl hok hmay c k m (i + 1) r' (by omega) (by omega) (by omega)
theorem back_plain {l : List api_Entry} (hx : ∀ e ∈ l, okE e) (bb pk : Int) : cormorantlaw04_SstableBack.f 16777216 l bb pk = some true := by
  have hz : 16777216 ≤ 16777216 := Nat.le_refl _
  unfold cormorantlaw04_SstableBack.f cormorantlaw04_SstableBack.J0 cormorantlaw04_SstableBack.J1
  rw [shown_true, bd_some, Build_f hz hx, bd_some, Bool.not_true, if_f]
  by_cases he : (buildS l bb pk).2 = 0
  · rw [if_n (by simp [he])]
    obtain ⟨b, hb⟩ : ∃ b, (buildS l bb pk).1 = b := ⟨_, rfl⟩
    have hB : buildS l bb pk = (b, 0) := by rw [← hb, ← he]
    rw [hb]
    obtain ⟨gs, keys, R, hfl, hne, hsm, hfit, hkeys, hkl, hpk, hbR, hbl, hll, hchk, hopen⟩ := Open_f hz hx hB
    have hmem : ∀ g ∈ gs, ∀ e ∈ g, e ∈ l := fun g hg e he => by rw [← hfl]; exact List.mem_flatten.2 ⟨g, hg, he⟩
    have hall : ∀ g ∈ gs, g ≠ [] ∧ (∀ e ∈ g, fitS e ∧ okE e) ∧ (lays [] g).length ≤ 65900 := fun g hg => ⟨(hsm g hg).1, fun e he => ⟨hfit e (hmem g hg e he), hx e (hmem g hg e he)⟩, (hsm g hg).2⟩
    have hgl : gs.length ≤ 100000 := by
      have : ∀ (gs : List (List api_Entry)), (∀ g ∈ gs, g ≠ []) → gs.length ≤ gs.flatten.length := by
        intro gs
        induction gs with
        | nil => intro _; simp
        | cons g gs ih =>
          intro h
          have h1 := List.length_pos_iff.2 (h g (List.mem_cons_self ..))
          have h2 := ih fun x hx => h x (List.mem_cons_of_mem _ hx)
          simp only [List.flatten_cons, List.length_append, List.length_cons]
          omega
      have := this gs fun g hg => (hsm g hg).1
      rw [hfl] at this
      omega
    have hord := chk_sorted hx hchk
    rw [hopen, bd_some]
    dsimp only [Om]
    rw [if_n (by rfl), wI (by omega)]
    obtain ⟨r', hscan⟩ := scan_f hz hbl (F := mkS keys pk) (c := l.length) (r := 0) hbR (fun g hg => (hall g hg).2) hgl (by rw [hfl]; exact hll) (most := (l.length : Int) + 1) (by rw [hfl]; omega)
    rw [hscan, bd_some, hfl]
    dsimp only
    rw [same_f hz hx (by omega), bd_some, if_n (by rfl)]
    exact back_L3 hz hbl hbR hall hgl hfl hord hll hx (fun e he => May_f hz hkl hpk (hkeys e he) (by have := (hfit e he).2.2.1; omega)) _ l.length _ 0 r' (by omega) (by omega) (by omega)
  · rw [if_y (by simpa using he), if_t, buildS_err he]
    rfl
end Go.Proofs.Ytghpokmkhlmgcaa

namespace Go.Proofs.Ytghpokmkhlmgcaa
open Go Go.ChangeShapes Go.WideShapes Go.ChangeAt Go.RowKit Go.Proofs.Ytghpokmkhlmgcaa.X

theorem Try.own : ownKnob Try.prog.godebug = none := by kernel_rfl
theorem Try.laidOut : laidOutB Try.prog = true := by kernel_rfl
theorem rdBytes : Rd (kSl ku8) Try.prog 24 (fun xs => xs.length ≤ maxLen ∧ ∀ x ∈ xs, (Lit.int .u8 x).wf = true) := (Rd.int (by kernel_rfl) (by kernel_rfl)).slice (e := 5) (by kernel_rfl) (by kernel_rfl)
def okBytes (xs : List Int) : Prop := xs.length ≤ maxLen ∧ ∀ b ∈ xs, (Lit.int .u8 b).wf = true
def okEntry (x : api_Entry) : Prop := okBytes x.Key ∧ (Lit.int .u64 x.Seq).wf = true ∧ okBytes x.Value
theorem rdEntry : Rd kapi_Entry Try.prog 36 okEntry :=
  Rd.iso (g := fun p => ⟨p.1, p.2.1, p.2.2.1, p.2.2.2⟩) (Rd.struct Try.underlying36 (by kernel_rfl) (by decide)
    (RdF.cons rdBytes rfl (RdF.cons (Rd.int (P := Try.prog) (k := .u64) (by kernel_rfl) (by kernel_rfl)) rfl (RdF.cons (Rd.bool (P := Try.prog) (by kernel_rfl) (by kernel_rfl)) rfl (RdF.last rdBytes rfl))))) (fun _ => rfl) (fun _ h => ⟨h.1, h.2.1, h.2.2.2⟩)
theorem rdEntries : Rd (kSl kapi_Entry) Try.prog 22 (fun xs => xs.length ≤ maxLen ∧ ∀ x ∈ xs, okEntry x) := rdEntry.slice (by kernel_rfl) (by kernel_rfl)

set_option maxRecDepth 100000 in
theorem back_lifted (plain : ∀ x1 x4 x5, x1.length ≤ maxLen → (∀ x ∈ x1, okEntry x) → (Lit.int .i64 x4).wf = true → (Lit.int .i64 x5).wf = true → ∃ z, cormorantlaw04_SstableBack.f z x1 x4 x5 = some true)
    (os : Os) (started : os.Started) (H : Type) (enc : TypeId × Value → H) :
    ReturnsInHanded {} Try.checked os 4 .any (Rows.sstableBackSpec.pre6 enc Try.prog Try.f4 Rows.sstableBackRow.domain false) (Rows.sstableBackSpec.post enc Try.prog Try.f4 false true false false) := by
  refine returnsInHanded_of_change (C := Try.checked) Try.own started (by kernel_rfl) Try.func4
    (ChangeSpec.witness6 (enc := enc) (C := Try.checked) false ⟨#[], #[.slice none 0 0, .int .i64 0, .int .i64 0], []⟩ 8 (by kernel_rfl) (by kernel_rfl) (by kernel_rfl) (by kernel_rfl)) ?_
  intro W base args ds gs before hval0 hW hcnd _
  have hval : ∀ (j : Nat) t v, Try.f4.params[j]? = some t → args[j]? = some v → Value.okWide Try.prog W .any base t v := hval0
  have hW' := hW
  obtain ⟨p, q, hA0, hV, rfl, hfz, hnd⟩ := hW
  have hA : DataW.TrodAll enc Try.prog W 0 (fun _ => true) true Try.f4.params.toList args.toList ds p := hA0
  rw [Try.params4] at hA hval
  obtain ⟨v0, v1, v2, d0, d1, d2, p0, p1, p2, rfl, rfl, rfl, h0, h1, h2⟩ := trodAll_three hA
  obtain ⟨rfl, rfl⟩ := trodVars_none hV
  obtain ⟨a, rfl, rfl, rfl, wa⟩ := open_int Try.underlying3 (hval 1 3 v1 rfl rfl) h1
  obtain ⟨b, rfl, rfl, rfl, wb⟩ := open_int Try.underlying3 (hval 2 3 v2 rfl rfl) h2
  obtain ⟨A, m, c, rfl⟩ := okWide_slice Try.underlying22 (hval 0 22 v0 rfl rfl)
  obtain ⟨_, hn⟩ := h0
  obtain ⟨x1, ⟨A', c', he, hro⟩, hlen, hall⟩ := rdEntries.rd hn
  have he' : [Value.slice A m c] = [.slice A' x1.length c'] := he
  obtain ⟨rfl, rfl, rfl⟩ : A = A' ∧ m = x1.length ∧ c = c' := by simpa using he'
  obtain ⟨z, hz⟩ := plain x1 a b hlen hall wa wb
  have hrow := fun (W' : World) (hb : Below W.heap.size W W') => row_true (s := Rows.sstableBackSpec) (f := Try.f4) (args := #[.slice A x1.length c, .int .i64 a, .int .i64 b]) (t := 4) Try.laidOut hW' rfl ⟨rfl, rfl, rfl⟩
    (by rw [Try.params4]; decide +kernel) rfl (by kernel_rfl) hb
  refine (cormorantlaw04_SstableBack.ok [X.snap W] W z x1 a b (SL.start [sl .ro kapi_Entry A c x1] (fun B hB => by rw [List.mem_singleton.1 hB]; exact hro)) true hz).mono fun e W' h => ?_
  obtain ⟨rfl, S⟩ := h
  have hb := SL.done (l := [sl .ro kapi_Entry A c x1]) S
  exact ⟨_, rfl, hrow W' hb⟩
theorem back_of (plain : ∀ x1 x4 x5, x1.length ≤ maxLen → (∀ x ∈ x1, okEntry x) → (Lit.int .i64 x4).wf = true → (Lit.int .i64 x5).wf = true → ∃ z, cormorantlaw04_SstableBack.f z x1 x4 x5 = some true) : Rows.SstableBackSaid :=
  OpenClaim.holds_of_wide 4 Try.f4 rfl rfl rfl rfl rfl rfl rfl ⟨rfl, rfl, rfl, rfl, rfl⟩ rfl rfl rfl rfl rfl (by kernel_rfl) Try.func4 (by kernel_rfl)
    (of_decide_eq_true (by kernel_rfl)) (by unfold Func.isWrapper; first | (rw [if_pos (by decide +kernel)]; kernel_rfl) | (rw [if_neg (by decide +kernel)]; exact ⟨rfl, rfl⟩))
    (fun os started H enc _ => back_lifted plain os started H enc)
theorem int_of_wf {k : IntKind} {n : Int} (h : (Lit.int k n).wf = true) : k.min ≤ n ∧ n ≤ k.max := by simpa [Lit.wf] using h
theorem bys_of {xs : List Int} (h : okBytes xs) : Bys xs := fun x hx => by
  have := int_of_wf (h.2 x hx)
  have h1 : IntKind.u8.min = 0 := by decide
  have h2 : IntKind.u8.max = 255 := by decide
  omega
theorem okE_of {e : api_Entry} (h : okEntry e) : okE e := ⟨bys_of h.1, by
  have := int_of_wf h.2.1
  have h1 : IntKind.u64.min = 0 := by decide
  have h2 : IntKind.u64.max = 18446744073709551615 := by decide
  omega, bys_of h.2.2⟩
theorem back_holds : Rows.SstableBackSaid := back_of fun _ x4 x5 _ hx _ _ => ⟨16777216, back_plain (fun e he => okE_of (hx e he)) x4 x5⟩
end Go.Proofs.Ytghpokmkhlmgcaa
