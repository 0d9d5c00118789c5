/- A Go function: the Lean function that it comes to, and the proof. -/
import Derived.Test.YtohelmfkpmphoaaDoorRr3
namespace Go.Proofs.YtohelmfkpmphoaaDoor
open Go Go.Proofs.YtohelmfkpmphoaaDoor.X
set_option linter.unusedVariables false
set_option linter.unusedSimpArgs false
def keyV (v : api_Value) : List Int := if v.Null = true then [2] else if v.Type' = 1 then 1 :: kI v.Int else if v.Type' = 2 then [1, v.Int % 256] else 1 :: kT (sbytes v.Text)
def valV (v : api_Value) : List Int := if v.Null = true then [0] else if v.Type' = 3 then 1 :: txt (sbytes v.Text) else keyV v
def okV (v : api_Value) : Prop := inR v.Int ∧ (1 ≤ v.Type' ∧ v.Type' ≤ 3) ∧ fitB v v.Type' = true
theorem okV.text {v : api_Value} (h : okV v) (h3 : v.Type' = 3) : v.Text.size ≤ 65536 ∧ (0 : Int) ∉ sbytes v.Text := ((of_decide_eq_true h.2.2).2.2.1 h3).2
theorem keyV_len {v : api_Value} (h : okV v) : (keyV v).length ≤ 65600 := by
 unfold keyV
 split
 ·simp
 ·split
  ·simp [kI_len]
  ·split
   ·simp
   ·obtain ⟨_, ⟨h1, h2⟩, _⟩ := id h
    have := (h.text (by omega)).1
    have := sbytes_len v.Text
    simp [kT]; omega
theorem valV_len {v : api_Value} (h : okV v) : (valV v).length ≤ 65600 := by
 unfold valV
 split
 ·simp
 ·split
  ·rename_i h3
   have := (h.text h3).1
   have := sbytes_len v.Text
   have := txt_len (s := sbytes v.Text) (by omega)
   simp; omega
  ·exact keyV_len h
theorem keyV_bys (v : api_Value) : Bys (keyV v) := by
 unfold keyV
 split
 ·exact Bys.cons (by omega) Bys.nil
 ·split
  ·exact Bys.cons (by omega) (kI_bys _)
  ·split
   ·exact Bys.cons (by omega) (Bys.cons (by omega) Bys.nil)
   ·exact Bys.cons (by omega) ((sbytes_bys _).app (Bys.cons (by omega) (Bys.cons (by omega) Bys.nil)))
theorem valV_bys (v : api_Value) : Bys (valV v) := by
 unfold valV
 split
 ·exact Bys.cons (by omega) Bys.nil
 ·split
  ·exact Bys.cons (by omega) (txt_bys (sbytes_bys _))
  ·exact keyV_bys v
section
variable {z : Nat} (hz : 16777216 ≤ z)
include hz
theorem column_f {v : api_Value} (h : okV v) : rowkey_column.f z v = some (keyV v) := by
 unfold rowkey_column.f keyV
 cases hn : v.Null
 ·rw [if_f, if_neg (by simp)]
  by_cases h1 : v.Type' = 1
  ·rw [if_y (by simpa using h1), if_pos h1, KeyInt_f hz h.1, bd_some, ck_y (by simp [kI_len])]
   rfl
  rw [if_n (by simpa using h1), if_neg h1]
  by_cases h2 : v.Type' = 2
  ·rw [if_y (by simpa using h2), if_pos h2, wB]
  rw [if_n (by simpa using h2), if_neg h2]
  obtain ⟨h4, h5⟩ := h.text (by have := h.2.1; omega)
  have hl := sbytes_len v.Text
  rw [KeyText_f hz (sbytes_bys _) h5 (by omega), bd_some, ck_y (by simp [kT]; omega)]
  rfl
 ·rw [if_t, if_pos rfl]
theorem ColumnKey_f {v : api_Value} (h : okV v) {b : List Int} (hb : b.length ≤ 137438953472) : cormorantref20_ColumnKey.f z b v = some (b ++ keyV v) := by
 unfold cormorantref20_ColumnKey.f keyV
 cases hn : v.Null
 ·rw [if_f, if_neg (by simp), ck_y (by simp; omega)]
  by_cases h1 : v.Type' = 1
  ·rw [if_y (by simpa using h1), if_pos h1, refKeyInt_f hz h.1, bd_some, ck_y (by simp [kI_len]; omega)]
   simp
  rw [if_n (by simpa using h1), if_neg h1]
  by_cases h2 : v.Type' = 2
  ·rw [if_y (by simpa using h2), if_pos h2, wB, ck_y (by simp; omega)]
   simp
  rw [if_n (by simpa using h2), if_neg h2]
  obtain ⟨h4, h5⟩ := h.text (by have := h.2.1; omega)
  have hl := sbytes_len v.Text
  rw [refKeyText_f hz h5 (by omega), bd_some, ck_y (by simp [kT]; omega)]
  simp
 ·rw [if_t, if_pos rfl, ck_y (by simp; omega)]
theorem plain_f {v : api_Value} (h : okV v) : rowkey_plain.f z v = some (valV v) := by
 unfold rowkey_plain.f valV
 cases hn : v.Null
 ·rw [if_f, if_neg (by simp)]
  by_cases h3 : v.Type' = 3
  ·have hl := sbytes_len v.Text
   have := (h.text h3).1
   have := txt_len (s := sbytes v.Text) (by omega)
   rw [if_y (by simpa using h3), if_pos h3, Text_f hz (by omega), bd_some, ck_y (by simp; omega)]
   rfl
  ·rw [if_n (by simpa using h3), if_neg h3]
   have e : api_Value.mk v.Type' false v.Int v.Text = v := by cases v; simp_all
   rw [e, column_f hz h, bd_some]
 ·rw [if_t, if_pos rfl]
theorem ValueBytes_f {v : api_Value} (h : okV v) {b : List Int} (hb : b.length ≤ 137438953472) : cormorantref18_ValueBytes.f z b v = some (b ++ valV v) := by
 unfold cormorantref18_ValueBytes.f
 cases hn : v.Null
 ·have e0 : valV v = if v.Type' = 3 then 1 :: txt (sbytes v.Text) else keyV v := by simp [valV, hn]
  have e1 : keyV v = if v.Type' = 1 then 1 :: kI v.Int else if v.Type' = 2 then [1, v.Int % 256] else 1 :: kT (sbytes v.Text) := by simp [keyV, hn]
  rw [if_f, ck_y (by simp; omega), e0]
  by_cases h1 : v.Type' = 1
  ·rw [if_y (by simpa using h1), if_neg (by omega), e1, if_pos h1, refKeyInt_f hz h.1, bd_some, ck_y (by simp [kI_len]; omega)]
   simp
  rw [if_n (by simpa using h1)]
  by_cases h2 : v.Type' = 2
  ·rw [if_y (by simpa using h2), if_neg (by omega), e1, if_neg h1, if_pos h2, wB, ck_y (by simp; omega)]
   simp
  have h3 : v.Type' = 3 := by have := h.2.1; omega
  have hl := sbytes_len v.Text
  have := (h.text h3).1
  have := txt_len (s := sbytes v.Text) (by omega)
  rw [if_n (by simpa using h2), if_pos h3]
  unfold cormorantref18_text.f
  rw [refText_f hz (by omega), bd_some, if_n (by rfl), ck_y (by simp; omega), bd_some]
  simp
 ·have e0 : valV v = [0] := by simp [valV, hn]
  rw [if_t, e0, ck_y (by simp; omega)]
def keysS (row : List api_Value) (l : List Int) : List Int := (l.map fun n => keyV (gi dapi_Value row n)).flatten
omit hz in
theorem keysS_cons (row : List api_Value) (n : Int) (l : List Int) : keysS row (n :: l) = keyV (gi dapi_Value row n) ++ keysS row l := by simp [keysS]
theorem columns_f {row : List api_Value} {l : List Int} (hl : l.length ≤ 1048576) (h : ∀ n ∈ l, (0 ≤ n ∧ n < (row.length : Int)) ∧ okV (gi dapi_Value row n)) : rowkey_columns.f z row l = some (keysS row l) := by
 have key : ∀ (k m i : Nat) (acc : List Int), l.length - i = k → i ≤ l.length → k < m → acc.length ≤ i * 65600 → rowkey_columns.L0 z row l m acc (i : Int) = some (acc ++ keysS row (l.drop i)) := by
  intro k
  induction k with
  | zero =>
   intro m i acc h1 h2 h3 h4
   obtain ⟨m, rfl⟩ : ∃ q, m = q + 1 := ⟨m - 1, by omega⟩
   rw [rowkey_columns.L0, if_n (by simp; omega), List.drop_eq_nil_of_le (by omega)]
   simp [keysS]
  | succ k ih =>
   intro m i acc h1 h2 h3 h4
   obtain ⟨m, rfl⟩ : ∃ q, m = q + 1 := ⟨m - 1, by omega⟩
   have hi : i < l.length := by omega
   obtain ⟨q1, q2⟩ := h _ (List.getElem_mem hi)
   have := keyV_len q2
   rw [rowkey_columns.L0, if_y (by simp; omega), ck_y (by omega), gi_nat _ _ _ hi, ck_y q1, column_f hz q2, bd_some, ck_y (by omega), wI (by omega)]
   have := ih m (i + 1) (acc ++ keyV (gi dapi_Value row l[i])) (by omega) (by omega) (by omega) (by simp; omega)
   rw [show ((i : Int) + 1) = ((i + 1 : Nat) : Int) by omega, this, List.drop_eq_getElem_cons hi, keysS_cons, List.append_assoc]
 have := key l.length z 0 [] (by omega) (by omega) (by omega) (by simp)
 simpa [rowkey_columns.f] using this
theorem keys_f {row : List api_Value} {l b : List Int} (hb : b.length ≤ 1000) (hl : l.length ≤ 1048576) (h : ∀ n ∈ l, (0 ≤ n ∧ n < (row.length : Int)) ∧ okV (gi dapi_Value row n)) : cormorantref20_keys.f z b l row = some (b ++ keysS row l) := by
 have key : ∀ (k m i : Nat) (acc : List Int), l.length - i = k → i ≤ l.length → k < m → acc.length ≤ 1000 + i * 65600 → cormorantref20_keys.L0 z l row m acc (i : Int) = some (acc ++ keysS row (l.drop i)) := by
  intro k
  induction k with
  | zero =>
   intro m i acc h1 h2 h3 h4
   obtain ⟨m, rfl⟩ : ∃ q, m = q + 1 := ⟨m - 1, by omega⟩
   rw [cormorantref20_keys.L0, if_n (by simp; omega), List.drop_eq_nil_of_le (by omega)]
   simp [keysS]
  | succ k ih =>
   intro m i acc h1 h2 h3 h4
   obtain ⟨m, rfl⟩ : ∃ q, m = q + 1 := ⟨m - 1, by omega⟩
   have hi : i < l.length := by omega
   obtain ⟨q1, q2⟩ := h _ (List.getElem_mem hi)
   have := keyV_len q2
   rw [cormorantref20_keys.L0, if_y (by simp; omega), ck_y (by omega), gi_nat _ _ _ hi, ck_y q1, ColumnKey_f hz q2 (by omega), bd_some, wI (by omega)]
   have := ih m (i + 1) (acc ++ keyV (gi dapi_Value row l[i])) (by omega) (by omega) (by omega) (by simp; omega)
   rw [show ((i : Int) + 1) = ((i + 1 : Nat) : Int) by omega, this, List.drop_eq_getElem_cons hi, keysS_cons, List.append_assoc]
 have := key l.length z 0 b (by omega) (by omega) (by omega) (by omega)
 simpa [cormorantref20_keys.f] using this
theorem Index_f {l : List Int} (hl : l.length ≤ 1048576) (x : Int) : ∃ r, slices_Index_int.f z l x = some r ∧ decide (r ≥ 0) = decide (x ∈ l) := by
 have key : ∀ (k m i : Nat), l.length - i = k → i ≤ l.length → k < m → x ∉ l.take i → ∃ r, slices_Index_int.L0 z l x m (i : Int) = some r ∧ decide (r ≥ 0) = decide (x ∈ l) := by
  intro k
  induction k with
  | zero =>
   intro m i h1 h2 h3 h4
   obtain ⟨m, rfl⟩ : ∃ q, m = q + 1 := ⟨m - 1, by omega⟩
   rw [List.take_of_length_le (by omega)] at h4
   exact ⟨-1, by rw [slices_Index_int.L0, if_n (by simp; omega)], by rw [decide_eq_false h4]; rfl⟩
  | succ k ih =>
   intro m i h1 h2 h3 h4
   obtain ⟨m, rfl⟩ : ∃ q, m = q + 1 := ⟨m - 1, by omega⟩
   have hi : i < l.length := by omega
   rw [slices_Index_int.L0, if_y (by simp; omega), ck_y (by omega), gi_nat _ _ _ hi]
   by_cases e : x = l[i]
   ·exact ⟨i, by rw [if_y (by simpa using e)], by rw [decide_eq_true (show x ∈ l from e ▸ List.getElem_mem hi)]; simp⟩
   ·rw [if_n (by simpa using e), wI (by omega)]
    refine ih m (i + 1) (by omega) (by omega) (by omega) ?_
    rw [List.take_succ_eq_append_getElem hi, List.mem_append, List.mem_singleton]
    exact fun q => q.elim h4 e
 exact key l.length z 0 (by omega) (by omega) (by omega) (by simp)
theorem Contains_f {l : List Int} (hl : l.length ≤ 1048576) (x : Int) : slices_Contains_int.f z l x = some (decide (x ∈ l)) := by
 obtain ⟨r, h1, h2⟩ := Index_f hz hl x
 unfold slices_Contains_int.f
 rw [h1, bd_some, h2]
theorem isKey_f {t : api_Table} (hl : t.Key.length ≤ 1048576) (x : Int) : cormorantref20_isKey.f z t x = some (decide (x ∈ t.Key)) := by
 have key : ∀ (k m i : Nat), t.Key.length - i = k → i ≤ t.Key.length → k < m → x ∉ t.Key.take i → cormorantref20_isKey.L0 z t x m (i : Int) = some (decide (x ∈ t.Key)) := by
  intro k
  induction k with
  | zero =>
   intro m i h1 h2 h3 h4
   obtain ⟨m, rfl⟩ : ∃ q, m = q + 1 := ⟨m - 1, by omega⟩
   rw [List.take_of_length_le (by omega)] at h4
   rw [cormorantref20_isKey.L0, if_n (by simp; omega), decide_eq_false h4]
  | succ k ih =>
   intro m i h1 h2 h3 h4
   obtain ⟨m, rfl⟩ : ∃ q, m = q + 1 := ⟨m - 1, by omega⟩
   have hi : i < t.Key.length := by omega
   rw [cormorantref20_isKey.L0, if_y (by simp; omega), ck_y (by omega), gi_nat _ _ _ hi]
   by_cases e : t.Key[i] = x
   ·rw [if_y (by simpa using e), decide_eq_true (e ▸ List.getElem_mem hi)]
   ·rw [if_n (by simpa using e), wI (by omega)]
    refine ih m (i + 1) (by omega) (by omega) (by omega) ?_
    rw [List.take_succ_eq_append_getElem hi, List.mem_append, List.mem_singleton]
    exact fun q => q.elim h4 fun q => e q.symm
 exact key t.Key.length z 0 (by omega) (by omega) (by omega) (by simp)
def headS (id : Int) : List Int := 2 :: (kI id ++ kI 1)
theorem begin_f {id : Int} (h : inR id) : rowkey_begin.f z [id, 1] = some (headS id) := by
 obtain ⟨k, rfl⟩ : ∃ k, z = k + 3 := ⟨z - 3, by omega⟩
 have h1 : inR 1 := by unfold inR; decide
 unfold rowkey_begin.f
 rw [rowkey_begin.L0, if_y (by simp), ck_y (by simp), show gi (0 : Int) [id, 1] 0 = id from rfl, KeyInt_f hz h, bd_some, ck_y (by simp [kI_len]), wI (by omega)]
 rw [rowkey_begin.L0, if_y (by simp), ck_y (by simp), show gi (0 : Int) [id, 1] (0 + 1) = 1 from rfl, KeyInt_f hz h1, bd_some, ck_y (by simp [kI_len]), wI (by omega)]
 rw [rowkey_begin.L0, if_n (by simp)]
 simp [slices_Clip_byte.f, headS]
theorem beginIndex_f {id : Int} (h : inR id) : cormorantref20_beginIndex.f z id 1 = some (headS id) := by
 have h1 : inR 1 := by unfold inR; decide
 unfold cormorantref20_beginIndex.f cormorantref20_begin.f
 rw [refKeyInt_f hz h, bd_some, ck_y (by simp [kI_len]), bd_some, refKeyInt_f hz h1, bd_some, ck_y (by simp [kI_len])]
 simp [headS]
end
theorem headS_len (id : Int) : (headS id).length = 17 := rfl
theorem headS_bys (id : Int) : Bys (headS id) := Bys.cons (by omega) ((kI_bys _).app (kI_bys _))
def valsF (t : api_Table) (row : List api_Value) : Nat → Nat → List Int
 | 0, _ => []
 | k + 1, i => (if (i : Int) ∈ t.Key then [] else valV (gi dapi_Value row (i : Int))) ++ valsF t row k (i + 1)
def valsS (t : api_Table) (row : List api_Value) : List Int := valsF t row row.length 0
def RowS (t : api_Table) (row : List api_Value) : api_KV × Int :=
 if tabB t = false then (⟨[], []⟩, 1) else if rowB t row = false then (⟨[], []⟩, 200) else
 if (headS t.Id ++ keysS row t.Key).length > 256 ∨ (valsS t row).length > 65536 then (⟨[], []⟩, 201) else (⟨headS t.Id ++ keysS row t.Key, valsS t row⟩, 0)
structure LimT (t : api_Table) : Prop where
 cols : t.Columns.length ≤ 1048576
 key : t.Key.length ≤ 1048576
 id : inR t.Id
def LimR (row : List api_Value) : Prop := row.length ≤ 1048576 ∧ ∀ v ∈ row, inR v.Int
theorem rowB_ok {t : api_Table} {row : List api_Value} (ht : tabB t = true) (hr : LimR row) (h : rowB t row = true) : ∀ i, i < row.length → okV (gi dapi_Value row (i : Int)) := by
 intro i hi
 obtain ⟨h1, h2⟩ := of_decide_eq_true h
 have hg := h2 i hi
 have hty : tyB t = true := by unfold tabB at ht; simp at ht; exact ht.1
 have hct : 1 ≤ (gi dapi_Column t.Columns (i : Int)).Type' ∧ (gi dapi_Column t.Columns (i : Int)).Type' ≤ 3 := by
  rw [gi_nat _ _ _ (by omega)]
  exact (of_decide_eq_true hty) _ (List.getElem_mem _)
 unfold goodAt at hg
 rw [Bool.and_eq_true] at hg
 have hty2 : (gi dapi_Value row (i : Int)).Type' = (gi dapi_Column t.Columns (i : Int)).Type' := (of_decide_eq_true hg.1).1
 refine ⟨?_, by rw [hty2]; exact hct, by rw [hty2]; exact hg.1⟩
 rw [gi_nat _ _ _ hi]
 exact hr.2 _ (List.getElem_mem _)
theorem key_ok {t : api_Table} {row : List api_Value} (ht : tabB t = true) (hr : LimR row) (h : rowB t row = true) : ∀ n ∈ t.Key, (0 ≤ n ∧ n < (row.length : Int)) ∧ okV (gi dapi_Value row n) := by
 intro n hn
 obtain ⟨h1, h2⟩ := of_decide_eq_true h
 have hk : keyB t.Columns.length t.Key = true := by unfold tabB at ht; simp at ht; exact ht.2
 have := (of_decide_eq_true hk).1 n hn
 refine ⟨by omega, ?_⟩
 have q := rowB_ok ht hr h n.toNat (by omega)
 rw [show ((n.toNat : Nat) : Int) = n by omega] at q
 exact q
theorem Row_f {z : Nat} (hz : 16777216 ≤ z) {t : api_Table} (ht : LimT t) {row : List api_Value} (hr : LimR row) : rowkey_Row.f z t row = some (RowS t row) := by
 unfold rowkey_Row.f RowS
 rw [tabled_f hz ht.cols ht.key, bd_some]
 cases h1 : tabB t
 ·rfl
 rw [if_n (by rfl), if_neg (by simp), rowed_f hz hr.1, bd_some]
 cases h2 : rowB t row
 ·rfl
 have hk := key_ok h1 hr h2
 have ho := rowB_ok h1 hr h2
 have hkl : (keysS row t.Key).length ≤ t.Key.length * 65600 := by
  have : ∀ l : List Int, (∀ n ∈ l, okV (gi dapi_Value row n)) → (keysS row l).length ≤ l.length * 65600 := by
   intro l
   induction l with
   | nil => intro _; simp [keysS]
   | cons n l ih =>
    intro h
    have := ih fun n hn => h n (List.mem_cons_of_mem _ hn)
    have := keyV_len (h n (List.mem_cons_self ..))
    rw [keysS_cons]
    simp; omega
  exact this _ fun n hn => (hk n hn).2
 have hkl2 := ht.key
 rw [if_n (by rfl), if_neg (by simp), begin_f hz ht.id, bd_some, columns_f hz ht.key hk, bd_some, Concat_f hz (by simp) (by simp [headS_len]; omega), bd_some]
 have e : [headS t.Id, keysS row t.Key].flatten = headS t.Id ++ keysS row t.Key := by simp
 rw [e]
 generalize headS t.Id ++ keysS row t.Key = K
 unfold rowkey_Row.J0
 have key : ∀ (k m i : Nat) (acc : List Int), row.length - i = k → i ≤ row.length → k < m → acc.length ≤ i * 65600 → rowkey_Row.L1 z t row K m (i : Int) acc = some (if K.length > 256 ∨ (acc ++ valsF t row k i).length > 65536 then (⟨[], []⟩, 201) else (⟨K, acc ++ valsF t row k i⟩, 0)) := by
  intro k
  induction k with
  | zero =>
   intro m i acc q1 q2 q3 q4
   obtain ⟨m, rfl⟩ : ∃ q, m = q + 1 := ⟨m - 1, by omega⟩
   rw [rowkey_Row.L1, if_n (by simp; omega)]
   unfold rowkey_Row.J2 valsF slices_Clip_byte.f
   rw [List.append_nil]
   by_cases c1 : K.length > 256
   ·rw [if_y (by simp; omega), if_pos (.inl c1)]
   rw [if_n (by simp; omega)]
   by_cases c2 : acc.length > 65536
   ·rw [if_y (by simp; omega), if_pos (.inr c2)]
   rw [if_n (by simp; omega), if_neg (by omega)]
   rfl
  | succ k ih =>
   intro m i acc q1 q2 q3 q4
   obtain ⟨m, rfl⟩ : ∃ q, m = q + 1 := ⟨m - 1, by omega⟩
   have hi : i < row.length := by omega
   have hv := ho i hi
   have hvl := valV_len hv
   have hrl := hr.1
   rw [rowkey_Row.L1, if_y (by simp; omega), ck_y (by omega), Contains_f hz ht.key, bd_some]
   unfold rowkey_Row.J3
   rw [wI (by omega), valsF]
   by_cases c : (i : Int) ∈ t.Key
   ·rw [if_n (by simpa using c), if_pos c]
    have := ih m (i + 1) acc (by omega) (by omega) (by omega) (Nat.le_trans q4 (Nat.mul_le_mul_right _ (Nat.le_succ i)))
    simpa using this
   ·have hp : rowkey_plain.f z (api_Value.mk (gi dapi_Value row (i : Int)).Type' (gi dapi_Value row (i : Int)).Null (gi dapi_Value row (i : Int)).Int (gi dapi_Value row (i : Int)).Text) = some (valV (gi dapi_Value row (i : Int))) := plain_f hz hv
    rw [if_y (by simpa using c), if_neg c, hp, bd_some, ck_y (by show (acc.length + (valV (gi dapi_Value row (i : Int))).length) * 1 ≤ _; omega)]
    have := ih m (i + 1) (acc ++ valV (gi dapi_Value row (i : Int))) (by omega) (by omega) (by omega) (by simp; omega)
    rw [List.append_assoc] at this
    exact this
 have := key row.length z 0 [] (by omega) (by omega) (by have := hr.1; omega) (by simp)
 rw [List.nil_append] at this
 exact this
theorem refRow_f {z : Nat} (hz : 16777216 ≤ z) {t : api_Table} (ht : LimT t) {row : List api_Value} (hr : LimR row) : cormorantref20_Row.f z t row = some (RowS t row) := by
 unfold cormorantref20_Row.f RowS
 rw [tableMay_f hz ht.cols ht.key, bd_some]
 cases h1 : tabB t
 ·rfl
 have hty : tyB t = true := by unfold tabB at h1; simp at h1; exact h1.1
 rw [if_n (by rfl), if_neg (by simp), Is_f hz hty hr.1, bd_some]
 cases h2 : rowB t row
 ·rfl
 have hk := key_ok h1 hr h2
 have ho := rowB_ok h1 hr h2
 rw [if_n (by rfl), if_neg (by simp), beginIndex_f hz ht.id, bd_some, keys_f hz (by rw [headS_len]; omega) ht.key hk, bd_some]
 generalize headS t.Id ++ keysS row t.Key = K
 have key : ∀ (k m i : Nat) (acc : List Int), row.length - i = k → i ≤ row.length → k < m → acc.length ≤ i * 65600 → cormorantref20_Row.L0 z t row K m acc (i : Int) = some (if K.length > 256 ∨ (acc ++ valsF t row k i).length > 65536 then (⟨[], []⟩, 201) else (⟨K, acc ++ valsF t row k i⟩, 0)) := by
  intro k
  induction k with
  | zero =>
   intro m i acc q1 q2 q3 q4
   obtain ⟨m, rfl⟩ : ∃ q, m = q + 1 := ⟨m - 1, by omega⟩
   rw [cormorantref20_Row.L0, if_n (by simp; omega)]
   unfold cormorantref20_Row.J1 valsF
   rw [List.append_nil]
   by_cases c1 : K.length > 256
   ·rw [if_y (by simp; omega), if_pos (.inl c1)]
   rw [if_n (by simp; omega)]
   by_cases c2 : acc.length > 65536
   ·rw [if_y (by simp; omega), if_pos (.inr c2)]
   rw [if_n (by simp; omega), if_neg (by omega)]
  | succ k ih =>
   intro m i acc q1 q2 q3 q4
   obtain ⟨m, rfl⟩ : ∃ q, m = q + 1 := ⟨m - 1, by omega⟩
   have hi : i < row.length := by omega
   have hv := ho i hi
   have hvl := valV_len hv
   have hrl := hr.1
   rw [cormorantref20_Row.L0, if_y (by simp; omega), isKey_f hz ht.key, bd_some]
   unfold cormorantref20_Row.J2
   rw [wI (by omega), valsF]
   by_cases c : (i : Int) ∈ t.Key
   ·rw [if_n (by simpa using c), if_pos c]
    have := ih m (i + 1) acc (by omega) (by omega) (by omega) (Nat.le_trans q4 (Nat.mul_le_mul_right _ (Nat.le_succ i)))
    simpa using this
   ·rw [if_y (by simpa using c), if_neg c, ck_y (by omega), ValueBytes_f hz hv (by omega), bd_some]
    have := ih m (i + 1) (acc ++ valV (gi dapi_Value row (i : Int))) (by omega) (by omega) (by omega) (by simp; omega)
    rw [List.append_assoc] at this
    exact this
 have := key row.length z 0 [] (by omega) (by omega) (by have := hr.1; omega) (by simp)
 rw [List.nil_append] at this
 exact this
end Go.Proofs.YtohelmfkpmphoaaDoor
namespace Go.Proofs.YtohelmfkpmphoaaDoor
open Go Go.Proofs.YtohelmfkpmphoaaDoor.X
set_option linter.unusedVariables false
set_option linter.unusedSimpArgs false
set_option maxRecDepth 100000
set_option maxHeartbeats 4000000
namespace rowkey_reader_byte
def R (F : List Atom) (b2 : Nat) (r : Int × rowkey_reader) : Ending → World → Prop := fun e w' => ∃ (A11 : Option Addr), ∃ (k12 : Nat), e = .returned (.int .u8 r.1) ∧ SL ([blk b2 [.slice A11 r.2.b.length k12, .bool r.2.bad], sl .ro ku8 A11 k12 r.2.b] ++ F) w'
def f (x1 : rowkey_reader) : Option (Int × rowkey_reader) := If ((x1.b.length : Int) == 0) (some (0, (rowkey_reader.mk x1.b true))) (Ck (0 < (x1.b.length : Int)) (Ck (1 ≤ (x1.b.length : Int)) (some (gi (0 : Int) x1.b 0, (rowkey_reader.mk (cut x1.b (Int.toNat 1) (Int.toNat (x1.b.length : Int))) x1.bad)))))
theorem ok (F : List Atom) (w : World) (x1 : rowkey_reader) {b2 : Nat} {A3 : Option Addr} {k4 : Nat} (S : SL ([blk b2 [.slice A3 x1.b.length k4, .bool x1.bad], sl .ro ku8 A3 k4 x1.b] ++ F) w) (r : Int × rowkey_reader) (H : f x1 = some r) : Calls Tryd.prog 59 #[.pointer (some ⟨b2, 0, none⟩)] w (R F b2 r) := by
 refine enter (vs := [.pointer (some ⟨b2, 0, none⟩)]) Tryd.func59 rfl Tryd.ntmps59 (Nat.le_of_ble_eq_true rfl) fun a T => ?_
 refine Gets.seq ?_
 refine rg ?_
 refine r_pv T rfl rfl fun _ T => ?_
 refine Gets.seq (Gets.seq ?_)
 refine rg ?_
 refine r_pv T rfl rfl fun _ T => ?_
 refine r_pv T rfl rfl fun _ T => ?_
 refine r_fa (o' := 0) T rfl Tryd.runUnderlying69 rfl Tryd.sizeOf29 rfl rfl fun _ T => ?_
 refine r_ldB (ix := 0) T S rfl Tryd.isAgg29 rfl rfl rfl fun _ T => ?_
 refine r_lenS T rfl Tryd.runUnderlying29 rfl fun _ T => ?_
 refine r_pv T rfl rfl fun _ T => ?_
 rcases ifE H with ⟨h5, H⟩ | ⟨h5, H⟩
 ·refine cdT T rfl h5 ?_
  refine Gets.seq ?_
  refine rg ?_
  refine r_pv T rfl rfl fun _ T => ?_
  refine r_pv T rfl rfl fun _ T => ?_
  refine r_fa (o' := 1) T rfl Tryd.runUnderlying69 rfl Tryd.sizeOf4 rfl rfl fun _ T => ?_
  refine r_stB (ix := 0) (l' := [blk b2 [.slice A3 x1.b.length k4, .bool true], sl .ro ku8 A3 k4 x1.b]) T S rfl rfl rfl Tryd.sizeOf4 rfl (Nat.le_of_ble_eq_true rfl) rfl fun _ S => ?_
  refine Gets.seq ?_
  refine rg ?_
  refine r_pv T rfl rfl fun _ T => ?_
  replace H := Option.some.inj H
  subst H
  exact rtn T Tryd.func59 rfl rfl ⟨A3, k4, rfl, (S.only (p := [blk b2 [.slice A3 x1.b.length k4, .bool true], sl .ro ku8 A3 k4 x1.b]) [0, 0] rfl)⟩
 ·refine cdF T rfl h5 ?_
  refine Gets.skip (Gets.seq ?_)
  refine rg ?_
  refine r_pv T rfl rfl fun _ T => ?_
  refine r_pv T rfl rfl fun _ T => ?_
  refine r_fa (o' := 0) T rfl Tryd.runUnderlying69 rfl Tryd.sizeOf29 rfl rfl fun _ T => ?_
  refine r_ldB (ix := 0) T S rfl Tryd.isAgg29 rfl rfl rfl fun _ T => ?_
  obtain ⟨h6, H⟩ := ck H
  refine r_ia (ix := 1) T S rfl rfl rfl rfl Tryd.runUnderlying29 Tryd.sizeOf5 (by decide) h6 rfl fun _ T => ?_
  refine r_ldE (ix := 1) (i := 0) (off := 0) (f := (Value.int .u8)) T S rfl Tryd.isAgg5 rfl (0 : Int) _ rfl rfl (Fld.all _) (by decide) h6 (fun h => h) rfl fun _ T => ?_
  refine r_pv T rfl rfl fun _ T => ?_
  refine Gets.seq ?_
  refine rg ?_
  refine r_pv T rfl rfl fun _ T => ?_
  refine r_pv T rfl rfl fun _ T => ?_
  refine r_pv T rfl rfl fun _ T => ?_
  refine r_fa (o' := 0) T rfl Tryd.runUnderlying69 rfl Tryd.sizeOf29 rfl rfl fun _ T => ?_
  refine r_ldB (ix := 0) T S rfl Tryd.isAgg29 rfl rfl rfl fun _ T => ?_
  have h7 := S.len (i := 1) rfl
  obtain ⟨h8, H⟩ := ck H
  refine r_slR (ix := 1) (xs := x1.b) T S rfl rfl (fun h => by cases h) rfl rfl rfl (by decide) h8 (Int.le_refl _) (by omega) (by omega) Tryd.runUnderlying29 Tryd.sizeOf5 rfl fun _ A9 S T => ?_
  refine r_pv T rfl rfl fun _ T => ?_
  refine r_fa (o' := 0) T rfl Tryd.runUnderlying69 rfl Tryd.sizeOf29 rfl rfl fun _ T => ?_
  refine r_stB (ix := 1) (l' := [sl .ro ku8 A9 (Int.toNat (k4 : Int) - Int.toNat 1) (cut x1.b (Int.toNat 1) (Int.toNat (x1.b.length : Int))), blk b2 [.slice A9 ((cut x1.b (Int.toNat 1) (Int.toNat (x1.b.length : Int))).length) (Int.toNat (k4 : Int) - Int.toNat 1), .bool x1.bad], sl .ro ku8 A3 k4 x1.b]) T S rfl rfl rfl Tryd.sizeOf29 rfl (Nat.le_of_ble_eq_true rfl) rfl fun _ S => ?_
  refine Gets.seq ?_
  refine rg ?_
  refine r_pv T rfl rfl fun _ T => ?_
  refine r_pv T rfl rfl fun _ T => ?_
  replace H := Option.some.inj H
  subst H
  exact rtn T Tryd.func59 rfl rfl ⟨A9, (Int.toNat (k4 : Int) - Int.toNat 1), rfl, (S.only (p := [blk b2 [.slice A9 ((cut x1.b (Int.toNat 1) (Int.toNat (x1.b.length : Int))).length) (Int.toNat (k4 : Int) - Int.toNat 1), .bool x1.bad], sl .ro ku8 A9 (Int.toNat (k4 : Int) - Int.toNat 1) (cut x1.b (Int.toNat 1) (Int.toNat (x1.b.length : Int)))]) [1, 0] rfl)⟩
end rowkey_reader_byte
end Go.Proofs.YtohelmfkpmphoaaDoor
namespace Go.Proofs.YtohelmfkpmphoaaDoor
open Go Go.Proofs.YtohelmfkpmphoaaDoor.X
set_option linter.unusedVariables false
set_option linter.unusedSimpArgs false
set_option maxRecDepth 100000
set_option maxHeartbeats 4000000
namespace rowkey_reader_went
noncomputable def c0 : Code := match Tryd.f61.body with | some c => c | none => .skip
def R (F : List Atom) (b2 : Nat) (r : rowkey_reader) : Ending → World → Prop := fun e w' => ∃ (A17 : Option Addr), ∃ (k18 : Nat), e = .returned (.tuple #[]) ∧ SL ([blk b2 [.slice A17 r.b.length k18, .bool r.bad], sl .ro ku8 A17 k18 r.b] ++ F) w'
def J1 (x8 : Bool) (x13 : List Int) : Option rowkey_reader := some (rowkey_reader.mk x13 x8)
def J0 (x1 : rowkey_reader) (x5 : Int) (x6 : Int) (x8 : Bool) : Option rowkey_reader := If (x6 == 0) (Ck (0 ≤ x5 ∧ x5 ≤ (x1.b.length : Int)) (J1 x8 (cut x1.b (Int.toNat x5) (Int.toNat (x1.b.length : Int))))) (J1 x8 x1.b)
def f (x1 : rowkey_reader) (x5 : Int) (x6 : Int) : Option rowkey_reader := If x1.bad (J0 x1 x5 x6 true) (J0 x1 x5 x6 (x6 != 0))
noncomputable def ptJ1 : List Item := []
noncomputable def ptJ0 : List Item := [.code (cL (cR c0)), .code (cR (cR c0))]
theorem J1_ok (F : List Atom) (r : rowkey_reader) (b2 : Nat) (x8 : Bool) (x5 : Int) (x6 : Int) (A14 : Option Addr) (x13 : List Int) (k15 : Nat) (a : Act) (w : World) (T : Tm 28 [] a) (S : SL ([blk b2 [.slice A14 x13.length k15, .bool x8], sl .ro ku8 A14 k15 x13] ++ F) w) (H : J1 x8 x13 = some r) : Gets Tryd.prog 61 ptJ1 a w (R F b2 r) := by
 replace H := Option.some.inj H
 subst H
 exact rtf T Tryd.func61 rfl rfl ⟨A14, k15, rfl, (S.only (p := [blk b2 [.slice A14 x13.length k15, .bool x8], sl .ro ku8 A14 k15 x13]) [0, 0] rfl)⟩
theorem J0_ok (F : List Atom) (r : rowkey_reader) (b2 : Nat) (x5 : Int) (x6 : Int) (A3 : Option Addr) (x1 : rowkey_reader) (k4 : Nat) (x8 : Bool) (a : Act) (w : World) (T : Tm 28 [(0, .pointer (some ⟨b2, 0, none⟩)), (1, .int .i64 x5), (2, .int .i64 x6)] a) (S : SL ([blk b2 [.slice A3 x1.b.length k4, .bool x8], sl .ro ku8 A3 k4 x1.b] ++ F) w) (H : J0 x1 x5 x6 x8 = some r) : Gets Tryd.prog 61 ptJ0 a w (R F b2 r) := by
 refine rg ?_
 refine r_pv T rfl rfl fun _ T => ?_
 refine r_pv T rfl rfl fun _ T => ?_
 rcases ifE H with ⟨h9, H⟩ | ⟨h9, H⟩
 ·refine cdT T rfl h9 ?_
  refine rg ?_
  refine r_pv T rfl rfl fun _ T => ?_
  refine r_pv T rfl rfl fun _ T => ?_
  refine r_pv T rfl rfl fun _ T => ?_
  refine r_fa (o' := 0) T rfl Tryd.runUnderlying69 rfl Tryd.sizeOf29 rfl rfl fun _ T => ?_
  refine r_ldB (ix := 0) T S rfl Tryd.isAgg29 rfl rfl rfl fun _ T => ?_
  refine r_pv T rfl rfl fun _ T => ?_
  have h10 := S.len (i := 1) rfl
  obtain ⟨h11, H⟩ := ck H
  refine r_slR (ix := 1) (xs := x1.b) T S rfl rfl (fun h => by cases h) rfl rfl rfl h11.1 h11.2 (Int.le_refl _) (by omega) (by omega) Tryd.runUnderlying29 Tryd.sizeOf5 rfl fun _ A12 S T => ?_
  refine r_pv T rfl rfl fun _ T => ?_
  refine r_fa (o' := 0) T rfl Tryd.runUnderlying69 rfl Tryd.sizeOf29 rfl rfl fun _ T => ?_
  refine r_stB (ix := 1) (l' := [sl .ro ku8 A12 (Int.toNat (k4 : Int) - Int.toNat x5) (cut x1.b (Int.toNat x5) (Int.toNat (x1.b.length : Int))), blk b2 [.slice A12 ((cut x1.b (Int.toNat x5) (Int.toNat (x1.b.length : Int))).length) (Int.toNat (k4 : Int) - Int.toNat x5), .bool x8], sl .ro ku8 A3 k4 x1.b]) T S rfl rfl rfl Tryd.sizeOf29 rfl (Nat.le_of_ble_eq_true rfl) rfl fun _ S => ?_
  exact J1_ok F r b2 x8 x5 x6 A12 (cut x1.b (Int.toNat x5) (Int.toNat (x1.b.length : Int))) (Int.toNat (k4 : Int) - Int.toNat x5) _ _ (T.sub trivial) (S.only (p := [blk b2 [.slice A12 ((cut x1.b (Int.toNat x5) (Int.toNat (x1.b.length : Int))).length) (Int.toNat (k4 : Int) - Int.toNat x5), .bool x8], sl .ro ku8 A12 (Int.toNat (k4 : Int) - Int.toNat x5) (cut x1.b (Int.toNat x5) (Int.toNat (x1.b.length : Int)))]) [1, 0] rfl) H
 ·refine cdF T rfl h9 ?_
  refine Gets.skip ?_
  exact J1_ok F r b2 x8 x5 x6 A3 x1.b k4 _ _ (T.sub trivial) (S.only (p := [blk b2 [.slice A3 x1.b.length k4, .bool x8], sl .ro ku8 A3 k4 x1.b]) [0, 0] rfl) H
theorem ok (F : List Atom) (w : World) (x1 : rowkey_reader) (x5 : Int) (x6 : Int) {b2 : Nat} {A3 : Option Addr} {k4 : Nat} (S : SL ([blk b2 [.slice A3 x1.b.length k4, .bool x1.bad], sl .ro ku8 A3 k4 x1.b] ++ F) w) (r : rowkey_reader) (H : f x1 x5 x6 = some r) : Calls Tryd.prog 61 #[.pointer (some ⟨b2, 0, none⟩), .int .i64 x5, .int .i64 x6] w (R F b2 r) := by
 refine enter (vs := [.pointer (some ⟨b2, 0, none⟩), .int .i64 x5, .int .i64 x6]) Tryd.func61 rfl Tryd.ntmps61 (Nat.le_of_ble_eq_true rfl) fun a T => ?_
 refine Gets.seq ?_
 refine rg ?_
 refine r_pv T rfl rfl fun _ T => ?_
 refine r_pv T rfl rfl fun _ T => ?_
 refine r_pv T rfl rfl fun _ T => ?_
 refine r_fa (o' := 1) T rfl Tryd.runUnderlying69 rfl Tryd.sizeOf4 rfl rfl fun _ T => ?_
 refine r_ldB (ix := 0) T S rfl Tryd.isAgg4 rfl rfl rfl fun _ T => ?_
 refine r_pv T rfl rfl fun _ T => ?_
 rcases ifE H with ⟨h7, H⟩ | ⟨h7, H⟩
 ·refine g_no T rfl rfl h7 rfl fun _ T => ?_
  refine g_no T rfl rfl h7 rfl fun _ T => ?_
  refine r_pickT T rfl h7 rfl rfl fun _ T => ?_
  refine r_pv T rfl rfl fun _ T => ?_
  refine r_fa (o' := 1) T rfl Tryd.runUnderlying69 rfl Tryd.sizeOf4 rfl rfl fun _ T => ?_
  refine r_stB (ix := 0) (l' := [blk b2 [.slice A3 x1.b.length k4, .bool true], sl .ro ku8 A3 k4 x1.b]) T S rfl rfl rfl Tryd.sizeOf4 rfl (Nat.le_of_ble_eq_true rfl) rfl fun _ S => ?_
  refine Gets.seq ?_
  exact J0_ok F r b2 x5 x6 A3 x1 k4 true _ _ (T.sub ⟨rfl, rfl, rfl, trivial⟩) (S.only (p := [blk b2 [.slice A3 x1.b.length k4, .bool true], sl .ro ku8 A3 k4 x1.b]) [0, 0] rfl) H
 ·refine g_yes T rfl rfl h7 ?_
  refine r_pv T rfl rfl fun _ T => ?_
  refine g_yes T rfl rfl h7 ?_
  refine r_pv T rfl rfl fun _ T => ?_
  refine r_pickF T rfl h7 rfl rfl fun _ T => ?_
  refine r_pv T rfl rfl fun _ T => ?_
  refine r_fa (o' := 1) T rfl Tryd.runUnderlying69 rfl Tryd.sizeOf4 rfl rfl fun _ T => ?_
  refine r_stB (ix := 0) (l' := [blk b2 [.slice A3 x1.b.length k4, .bool (x6 != 0)], sl .ro ku8 A3 k4 x1.b]) T S rfl rfl rfl Tryd.sizeOf4 rfl (Nat.le_of_ble_eq_true rfl) rfl fun _ S => ?_
  refine Gets.seq ?_
  exact J0_ok F r b2 x5 x6 A3 x1 k4 (x6 != 0) _ _ (T.sub ⟨rfl, rfl, rfl, trivial⟩) (S.only (p := [blk b2 [.slice A3 x1.b.length k4, .bool (x6 != 0)], sl .ro ku8 A3 k4 x1.b]) [0, 0] rfl) H
end rowkey_reader_went
end Go.Proofs.YtohelmfkpmphoaaDoor
namespace Go.Proofs.YtohelmfkpmphoaaDoor
open Go Go.Proofs.YtohelmfkpmphoaaDoor.X
set_option linter.unusedVariables false
set_option linter.unusedSimpArgs false
set_option maxRecDepth 100000
set_option maxHeartbeats 4000000
namespace rowkey_reader_value_at58
noncomputable def c0 : Code := match Tryd.f32.body with | some c => c | none => .skip
def R (F : List Atom) (b2 : Nat) (r : api_Value × rowkey_reader) : Ending → World → Prop := fun e w' => ∃ (A46 : Option Addr), ∃ (k47 : Nat), e = .returned (.agg #[.int .i64 r.1.Type', .bool r.1.Null, .int .i64 r.1.Int, .string r.1.Text]) ∧ SL ([blk b2 [.slice A46 r.2.b.length k47, .bool r.2.bad], sl .ro ku8 A46 k47 r.2.b] ++ F) w'
def J0 (z : Nat) (x5 : Int) (x38 : List Int) (x41 : Bool) (x42 : Bool) (x43 : Int) (x44 : ByteArray) : Option (api_Value × rowkey_reader) := some ((api_Value.mk x5 x42 x43 x44), (rowkey_reader.mk x38 x41))
def f (z : Nat) (x1 : rowkey_reader) (x5 : Int) (x6 : Int) : Option (api_Value × rowkey_reader) := Bd (rowkey_reader_byte.f x1) fun x10 => If (x10.1 == x6) (J0 z x5 x10.2.b x10.2.bad true 0 (⟨#[]⟩ : ByteArray)) (If (x5 == 1) (Bd (codec_TakeKeyInt.f z x10.2.b) fun x17 => Bd (rowkey_reader_went.f x10.2 x17.2.1 x17.2.2) fun x19 => J0 z x5 x19.b x19.bad false x17.1 (⟨#[]⟩ : ByteArray)) (If (x5 == 2) (Bd (rowkey_reader_byte.f x10.2) fun x25 => J0 z x5 x25.2.b x25.2.bad false (wr .i64 x25.1) (⟨#[]⟩ : ByteArray)) (Bd (codec_TakeKeyText.f z x10.2.b) fun x30 => Bd (rowkey_reader_went.f x10.2 x30.2.1 x30.2.2) fun x34 => J0 z x5 x34.b x34.bad false 0 (bstr x30.1))))
noncomputable def ptJ0 : List Item := [.code (cL (cR (cR (cR c0)))), .code (cR (cR (cR (cR c0))))]
abbrev y0 : List Value := [.int .i64 0, .bool false, .int .i64 0, .string (⟨#[]⟩ : ByteArray)]
abbrev y1 (x5 : Int) : List Value := [.int .i64 x5, .bool false, .int .i64 0, .string (⟨#[]⟩ : ByteArray)]
abbrev y2 (b2 : Nat) (A12 : Option Addr) (x10 : Int × rowkey_reader) (k13 : Nat) : Atom := blk b2 [.slice A12 x10.2.b.length k13, .bool x10.2.bad]
abbrev y3 : Value := .string (⟨#[]⟩ : ByteArray)
theorem J0_ok (F : List Atom) (r : api_Value × rowkey_reader) (z : Nat) (b2 : Nat) (b7 : Nat) (b8 : Nat) (x5 : Int) (x6 : Int) (A39 : Option Addr) (x38 : List Int) (k40 : Nat) (x41 : Bool) (x42 : Bool) (x43 : Int) (x44 : ByteArray) (a : Act) (w : World) (T : Tm 67 [(8, .pointer (some ⟨b7, 0, none⟩)), (9, .pointer (some ⟨b8, 0, none⟩))] a) (S : SL ([blk b2 [.slice A39 x38.length k40, .bool x41], sl .ro ku8 A39 k40 x38, blk b7 (y0), blk b8 [.int .i64 x5, .bool x42, .int .i64 x43, .string x44]] ++ F) w) (H : J0 z x5 x38 x41 x42 x43 x44 = some r) : Gets Tryd.prog 32 ptJ0 a w (R F b2 r) := by
 refine rg ?_
 refine r_ldBA (ix := 3) (ds := [.int .i64 x5, .bool x42, .int .i64 x43, .string x44]) T S rfl Tryd.isAgg43 rfl rfl Tryd.sizeOf43 rfl fun _ T => ?_
 refine r_stBA (ix := 2) (vs := [.int .i64 x5, .bool x42, .int .i64 x43, .string x44]) (l' := [blk b2 [.slice A39 x38.length k40, .bool x41], sl .ro ku8 A39 k40 x38, blk b7 [.int .i64 x5, .bool x42, .int .i64 x43, .string x44], blk b8 [.int .i64 x5, .bool x42, .int .i64 x43, .string x44]]) T S rfl rfl rfl rfl (by simp) Tryd.sizeOf43 (Nat.le_of_ble_eq_true rfl) rfl fun _ S => ?_
 replace H := Option.some.inj H
 subst H
 exact rtnM T S Tryd.func32 rfl ⟨_, _, rfl, ⟨b7, _, 2, rfl, rfl, .inl ⟨Tryd.isAgg43, Tryd.sizeOf43, rfl⟩⟩, rfl⟩ ⟨A39, k40, rfl, (S.only (p := [blk b2 [.slice A39 x38.length k40, .bool x41], sl .ro ku8 A39 k40 x38]) [0, 0] rfl)⟩
theorem ok (F : List Atom) (w : World) (z : Nat) (x1 : rowkey_reader) (x5 : Int) (x6 : Int) {b2 : Nat} {A3 : Option Addr} {k4 : Nat} (S : SL ([blk b2 [.slice A3 x1.b.length k4, .bool x1.bad], sl .ro ku8 A3 k4 x1.b] ++ F) w) (r : api_Value × rowkey_reader) (H : f z x1 x5 x6 = some r) : Calls Tryd.prog 32 #[.pointer (some ⟨b2, 0, none⟩), .int .i64 x5, .int .u8 x6, .func (.func 58) #[] #[]] w (R F b2 r) := by
 refine enter (vs := [.pointer (some ⟨b2, 0, none⟩), .int .i64 x5, .int .u8 x6, .func (.func 58) #[] #[]]) Tryd.func32 rfl Tryd.ntmps32 (Nat.le_of_ble_eq_true rfl) fun a T => ?_
 refine Gets.seq ?_
 refine rg ?_
 refine r_alloc T S zv43 (cs := (y0)) rfl rfl fun _ _ b7 S T => ?_
 refine Gets.seq ?_
 refine rg ?_
 refine r_pv T rfl rfl fun _ T => ?_
 refine r_build (cs := #[.int .i64 x5, .bool false, .int .i64 0, (y3)]) T stt43 rfl rfl rfl fun _ T => ?_
 refine r_alloc T S zv43 (cs := (y0)) rfl rfl fun _ _ b8 S T => ?_
 refine r_stBA (ix := 0) (vs := (y1 x5)) (l' := [blk b8 (y1 x5), blk b7 (y0), blk b2 [.slice A3 x1.b.length k4, .bool x1.bad], sl .ro ku8 A3 k4 x1.b]) T S rfl rfl rfl rfl (by simp) Tryd.sizeOf43 (Nat.le_of_ble_eq_true rfl) rfl fun _ S => ?_
 refine Gets.seq (Gets.block (Gets.seq ?_))
 refine rg ?_
 refine r_pv T rfl rfl fun _ T => ?_
 obtain ⟨x10, h9, H⟩ := bd H
 refine r_call T Tryd.call59 rfl rfl (rowkey_reader_byte.ok _ _ x1 (S.sel (p := [blk b2 [.slice A3 x1.b.length k4, .bool x1.bad], sl .ro ku8 A3 k4 x1.b]) (is := [2, 2]) rfl) _ h9) ?_
 rintro _ _ ⟨A12, k13, rfl, S⟩
 refine ⟨_, rfl, fun _ T => ?_⟩
 replace S : SL ([(y2 b2 A12 x10 k13), sl .ro ku8 A12 k13 x10.2.b, blk b8 (y1 x5), blk b7 (y0)] ++ F) _ := S.join
 refine r_pv T rfl rfl fun _ T => ?_
 refine r_pv T rfl rfl fun _ T => ?_
 refine r_pv T rfl rfl fun _ T => ?_
 rcases ifE H with ⟨h14, H⟩ | ⟨h14, H⟩
 ·refine cdT T rfl h14 ?_
  refine rg ?_
  refine r_fa (o' := 1) T rfl Tryd.runUnderlying43 rfl Tryd.sizeOf4 rfl rfl fun _ T => ?_
  refine r_stB (ix := 2) (l' := [(y2 b2 A12 x10 k13), sl .ro ku8 A12 k13 x10.2.b, blk b8 [.int .i64 x5, .bool true, .int .i64 0, (y3)], blk b7 (y0)]) T S rfl rfl rfl Tryd.sizeOf4 rfl (Nat.le_of_ble_eq_true rfl) rfl fun _ S => ?_
  refine Gets.inBlock (Gets.seq ?_)
  exact J0_ok F r z b2 b7 b8 x5 x6 A12 x10.2.b k13 x10.2.bad true 0 (⟨#[]⟩ : ByteArray) _ _ (T.sub ⟨rfl, rfl, trivial⟩) (S.only (p := [(y2 b2 A12 x10 k13), sl .ro ku8 A12 k13 x10.2.b, blk b7 (y0), blk b8 [.int .i64 x5, .bool true, .int .i64 0, (y3)]]) [0, 0, 1, 0] rfl) H
 ·refine cdF T rfl h14 ?_
  refine Gets.seq ?_
  refine rg ?_
  refine r_pv T rfl rfl fun _ T => ?_
  refine r_pv T rfl rfl fun _ T => ?_
  refine r_pv T rfl rfl fun _ T => ?_
  rcases ifE H with ⟨h15, H⟩ | ⟨h15, H⟩
  ·refine cdT T rfl h15 ?_
   refine Gets.seq ?_
   refine rg ?_
   refine r_pv T rfl rfl fun _ T => ?_
   refine r_pv T rfl rfl fun _ T => ?_
   refine r_fa (o' := 0) T rfl Tryd.runUnderlying69 rfl Tryd.sizeOf29 rfl rfl fun _ T => ?_
   refine r_ldB (ix := 0) T S rfl Tryd.isAgg29 rfl rfl rfl fun _ T => ?_
   obtain ⟨x17, h16, H⟩ := bd H
   refine r_call T Tryd.call60 rfl rfl (codec_TakeKeyInt.ok _ _ z x10.2.b (S.sel (p := [sl .ro ku8 A12 k13 x10.2.b]) (is := [1]) rfl) _ h16) ?_
   rintro _ _ ⟨rfl, S⟩
   refine ⟨_, rfl, fun _ T => ?_⟩
   replace S : SL ([sl .ro ku8 A12 k13 x10.2.b, (y2 b2 A12 x10 k13), blk b8 (y1 x5), blk b7 (y0)] ++ F) _ := S.join
   refine r_pv T rfl rfl fun _ T => ?_
   refine r_pv T rfl rfl fun _ T => ?_
   refine r_pv T rfl rfl fun _ T => ?_
   refine r_pv T rfl rfl fun _ T => ?_
   refine r_pv T rfl rfl fun _ T => ?_
   refine r_pv T rfl rfl fun _ T => ?_
   refine r_pv T rfl rfl fun _ T => ?_
   refine Gets.seq ?_
   refine rg ?_
   refine r_pv T rfl rfl fun _ T => ?_
   refine r_pv T rfl rfl fun _ T => ?_
   refine r_pv T rfl rfl fun _ T => ?_
   obtain ⟨x19, h18, H⟩ := bd H
   refine r_call T Tryd.call61 rfl rfl (rowkey_reader_went.ok _ _ x10.2 x17.2.1 x17.2.2 (S.sel (p := [(y2 b2 A12 x10 k13), sl .ro ku8 A12 k13 x10.2.b]) (is := [1, 0]) rfl) _ h18) ?_
   rintro _ _ ⟨A21, k22, rfl, S⟩
   refine ⟨_, rfl, fun _ T => ?_⟩
   replace S : SL ([blk b2 [.slice A21 x19.b.length k22, .bool x19.bad], sl .ro ku8 A21 k22 x19.b, blk b8 (y1 x5), blk b7 (y0)] ++ F) _ := S.join
   refine rg ?_
   refine r_pv T rfl rfl fun _ T => ?_
   refine r_fa (o' := 2) T rfl Tryd.runUnderlying43 rfl Tryd.sizeOf2 rfl rfl fun _ T => ?_
   refine r_stB (ix := 2) (l' := [blk b2 [.slice A21 x19.b.length k22, .bool x19.bad], sl .ro ku8 A21 k22 x19.b, blk b8 [.int .i64 x5, .bool false, .int .i64 x17.1, (y3)], blk b7 (y0)]) T S rfl rfl rfl Tryd.sizeOf2 rfl (Nat.le_of_ble_eq_true rfl) rfl fun _ S => ?_
   refine Gets.inBlock (Gets.seq ?_)
   exact J0_ok F r z b2 b7 b8 x5 x6 A21 x19.b k22 x19.bad false x17.1 (⟨#[]⟩ : ByteArray) _ _ (T.sub ⟨rfl, rfl, trivial⟩) (S.only (p := [blk b2 [.slice A21 x19.b.length k22, .bool x19.bad], sl .ro ku8 A21 k22 x19.b, blk b7 (y0), blk b8 [.int .i64 x5, .bool false, .int .i64 x17.1, (y3)]]) [0, 0, 1, 0] rfl) H
  ·refine cdF T rfl h15 ?_
   refine Gets.seq ?_
   refine rg ?_
   refine r_pv T rfl rfl fun _ T => ?_
   refine r_pv T rfl rfl fun _ T => ?_
   refine r_pv T rfl rfl fun _ T => ?_
   rcases ifE H with ⟨h23, H⟩ | ⟨h23, H⟩
   ·refine cdT T rfl h23 ?_
    refine rg ?_
    refine r_pv T rfl rfl fun _ T => ?_
    obtain ⟨x25, h24, H⟩ := bd H
    refine r_call T Tryd.call59 rfl rfl (rowkey_reader_byte.ok _ _ x10.2 (S.sel (p := [(y2 b2 A12 x10 k13), sl .ro ku8 A12 k13 x10.2.b]) (is := [0, 0]) rfl) _ h24) ?_
    rintro _ _ ⟨A27, k28, rfl, S⟩
    refine ⟨_, rfl, fun _ T => ?_⟩
    replace S : SL ([blk b2 [.slice A27 x25.2.b.length k28, .bool x25.2.bad], sl .ro ku8 A27 k28 x25.2.b, blk b8 (y1 x5), blk b7 (y0)] ++ F) _ := S.join
    refine r_conv T rfl Tryd.runUnderlying5 Tryd.runUnderlying2 rfl fun _ T => ?_
    refine r_fa (o' := 2) T rfl Tryd.runUnderlying43 rfl Tryd.sizeOf2 rfl rfl fun _ T => ?_
    refine r_stB (ix := 2) (l' := [blk b2 [.slice A27 x25.2.b.length k28, .bool x25.2.bad], sl .ro ku8 A27 k28 x25.2.b, blk b8 [.int .i64 x5, .bool false, .int .i64 (wr .i64 x25.1), (y3)], blk b7 (y0)]) T S rfl rfl rfl Tryd.sizeOf2 rfl (Nat.le_of_ble_eq_true rfl) rfl fun _ S => ?_
    refine Gets.inBlock (Gets.seq ?_)
    exact J0_ok F r z b2 b7 b8 x5 x6 A27 x25.2.b k28 x25.2.bad false (wr .i64 x25.1) (⟨#[]⟩ : ByteArray) _ _ (T.sub ⟨rfl, rfl, trivial⟩) (S.only (p := [blk b2 [.slice A27 x25.2.b.length k28, .bool x25.2.bad], sl .ro ku8 A27 k28 x25.2.b, blk b7 (y0), blk b8 [.int .i64 x5, .bool false, .int .i64 (wr .i64 x25.1), (y3)]]) [0, 0, 1, 0] rfl) H
   ·refine cdF T rfl h23 ?_
    refine Gets.seq ?_
    refine rg ?_
    refine r_pv T rfl rfl fun _ T => ?_
    refine r_pv T rfl rfl fun _ T => ?_
    refine r_pv T rfl rfl fun _ T => ?_
    refine r_fa (o' := 0) T rfl Tryd.runUnderlying69 rfl Tryd.sizeOf29 rfl rfl fun _ T => ?_
    refine r_ldB (ix := 0) T S rfl Tryd.isAgg29 rfl rfl rfl fun _ T => ?_
    obtain ⟨x30, h29, H⟩ := bd H
    refine r_callF T rfl Tryd.call58 rfl rfl (codec_TakeKeyText.ok _ _ z x10.2.b (S.sel (p := [sl .ro ku8 A12 k13 x10.2.b]) (is := [1]) rfl) _ h29) ?_
    rintro _ _ ⟨A31, k32, rfl, S⟩
    refine ⟨_, rfl, fun _ T => ?_⟩
    replace S : SL ([sl .own ku8 A31 k32 x30.1, sl .ro ku8 A12 k13 x10.2.b, (y2 b2 A12 x10 k13), blk b8 (y1 x5), blk b7 (y0)] ++ F) _ := S.join
    refine r_pv T rfl rfl fun _ T => ?_
    refine r_pv T rfl rfl fun _ T => ?_
    refine r_pv T rfl rfl fun _ T => ?_
    refine r_pv T rfl rfl fun _ T => ?_
    refine r_pv T rfl rfl fun _ T => ?_
    refine r_pv T rfl rfl fun _ T => ?_
    refine r_pv T rfl rfl fun _ T => ?_
    refine Gets.seq ?_
    refine rg ?_
    refine r_pv T rfl rfl fun _ T => ?_
    refine r_pv T rfl rfl fun _ T => ?_
    refine r_pv T rfl rfl fun _ T => ?_
    obtain ⟨x34, h33, H⟩ := bd H
    refine r_call T Tryd.call61 rfl rfl (rowkey_reader_went.ok _ _ x10.2 x30.2.1 x30.2.2 (S.sel (p := [(y2 b2 A12 x10 k13), sl .ro ku8 A12 k13 x10.2.b]) (is := [2, 1]) rfl) _ h33) ?_
    rintro _ _ ⟨A36, k37, rfl, S⟩
    refine ⟨_, rfl, fun _ T => ?_⟩
    replace S : SL ([blk b2 [.slice A36 x34.b.length k37, .bool x34.bad], sl .ro ku8 A36 k37 x34.b, sl .own ku8 A31 k32 x30.1, blk b8 (y1 x5), blk b7 (y0)] ++ F) _ := S.join
    refine rg ?_
    refine r_pv T rfl rfl fun _ T => ?_
    refine r_b2s (ix := 2) (xs := x30.1) T S rfl rfl Tryd.runUnderlying29 Tryd.runUnderlying9 Tryd.runUnderlying5 rfl fun _ T => ?_
    refine r_fa (o' := 3) T rfl Tryd.runUnderlying43 rfl Tryd.sizeOf9 rfl rfl fun _ T => ?_
    refine r_stB (ix := 3) (l' := [blk b2 [.slice A36 x34.b.length k37, .bool x34.bad], sl .ro ku8 A36 k37 x34.b, sl .own ku8 A31 k32 x30.1, blk b8 [.int .i64 x5, .bool false, .int .i64 0, .string (bstr x30.1)], blk b7 (y0)]) T S rfl rfl rfl Tryd.sizeOf9 rfl (Nat.le_of_ble_eq_true rfl) rfl fun _ S => ?_
    refine Gets.inBlock (Gets.seq ?_)
    exact J0_ok F r z b2 b7 b8 x5 x6 A36 x34.b k37 x34.bad false 0 (bstr x30.1) _ _ (T.sub ⟨rfl, rfl, trivial⟩) (S.only (p := [blk b2 [.slice A36 x34.b.length k37, .bool x34.bad], sl .ro ku8 A36 k37 x34.b, blk b7 (y0), blk b8 [.int .i64 x5, .bool false, .int .i64 0, .string (bstr x30.1)]]) [0, 0, 2, 1] rfl) H
end rowkey_reader_value_at58
end Go.Proofs.YtohelmfkpmphoaaDoor
namespace Go.Proofs.YtohelmfkpmphoaaDoor
open Go Go.Proofs.YtohelmfkpmphoaaDoor.X
set_option linter.unusedVariables false
set_option linter.unusedSimpArgs false
set_option maxRecDepth 100000
set_option maxHeartbeats 4000000
namespace rowkey_reader_keys
noncomputable def c0 : Code := match Tryd.f31.body with | some c => c | none => .skip
def R (F : List Atom) (b2 : Nat) (x5 : api_Table) (A6 : Option Addr) (k7 : Nat) (A8 : Option Addr) (k9 : Nat) (A10 : Option Addr) (k11 : Nat) (x12 : List Int) (A13 : Option Addr) (k14 : Nat) (m15 : Md) (x16 : List api_Value) (A17 : Option Addr) (k18 : Nat) (r : rowkey_reader × (List api_Value)) : Ending → World → Prop := fun e w' => ∃ (A38 : Option Addr), ∃ (k39 : Nat), e = .returned (.tuple #[]) ∧ SL ([blk b2 [.slice A38 r.1.b.length k39, .bool r.1.bad], sl .ro ku8 A38 k39 r.1.b, sl .ro kapi_Column A6 k7 x5.Columns, sl .ro ki64 A8 k9 x5.Key, sl .ro kapi_Index A10 k11 x5.Indexes, sl m15 ki64 A13 k14 x12, sl .own kapi_Value A17 k18 r.2, pr (r.2.length = x16.length)] ++ F) w'
def L0 (z : Nat) (x5 : api_Table) (x12 : List Int) : Nat → Int → (List Int) → Bool → (List api_Value) → Option (rowkey_reader × (List api_Value))
 | 0, _, _, _, _ => none
 | m + 1, x26, x20, x23, x24 => If (decide (x26 < (x12.length : Int))) (Ck (0 ≤ x26 ∧ x26 < (x12.length : Int)) (Ck (0 ≤ gi (0 : Int) x12 x26 ∧ gi (0 : Int) x12 x26 < (x5.Columns.length : Int)) (Bd (rowkey_reader_value_at58.f z (rowkey_reader.mk x20 x23) ((gi dapi_Column x5.Columns (gi (0 : Int) x12 x26)).Type') 2) fun x31 => Ck (gi (0 : Int) x12 x26 < (x24.length : Int)) (L0 z x5 x12 m (wr .i64 (x26 + 1)) x31.2.b x31.2.bad (x24.set (Int.toNat (gi (0 : Int) x12 x26)) x31.1))))) (some ((rowkey_reader.mk x20 x23), x24))
def f (z : Nat) (x1 : rowkey_reader) (x5 : api_Table) (x12 : List Int) (x16 : List api_Value) : Option (rowkey_reader × (List api_Value)) := L0 z x5 x12 z 0 x1.b x1.bad x16
noncomputable def ptL0 : List Item := [.code (cB (cB (cR (cR c0)))), .inLoop (cB (cB (cR (cR c0)))), .inBlock 0]
abbrev y0 (x5 : api_Table) (A6 : Option Addr) (k7 : Nat) (A8 : Option Addr) (k9 : Nat) (A10 : Option Addr) (k11 : Nat) : List Value := [.int .i64 x5.Id, .string x5.Name, .slice A6 x5.Columns.length k7, .slice A8 x5.Key.length k9, .slice A10 x5.Indexes.length k11]
theorem L0_ok (F : List Atom) (r : rowkey_reader × (List api_Value)) (z : Nat) (b2 : Nat) (x5 : api_Table) (A6 : Option Addr) (k7 : Nat) (A8 : Option Addr) (k9 : Nat) (A10 : Option Addr) (k11 : Nat) (x12 : List Int) (A13 : Option Addr) (k14 : Nat) (m15 : Md) (x16 : List api_Value) (A17 : Option Addr) (k18 : Nat) (b19 : Nat) (m : Nat) : ∀ (x26 : Int) (A21 : Option Addr) (x20 : List Int) (k22 : Nat) (x23 : Bool) (x24 : List api_Value) (a : Act) (w : World), Tm 28 [(0, .pointer (some ⟨b2, 0, none⟩)), (3, .slice A17 x16.length k18), (5, .pointer (some ⟨b19, 0, none⟩)), (10, .slice A13 x12.length k14), (11, .int .i64 (x12.length : Int)), (12, .int .i64 x26)] a → SL ([blk b2 [.slice A21 x20.length k22, .bool x23], sl .ro ku8 A21 k22 x20, sl .ro kapi_Column A6 k7 x5.Columns, sl .ro ki64 A8 k9 x5.Key, sl .ro kapi_Index A10 k11 x5.Indexes, sl m15 ki64 A13 k14 x12, sl .own kapi_Value A17 k18 x24, pr (x24.length = x16.length), blk b19 (y0 x5 A6 k7 A8 k9 A10 k11)] ++ F) w → L0 z x5 x12 m x26 x20 x23 x24 = some r → Gets Tryd.prog 31 ptL0 a w (R F b2 x5 A6 k7 A8 k9 A10 k11 x12 A13 k14 m15 x16 A17 k18 r) := by
 induction m with
 | zero => intro _ _ _ _ _ _ _ _ _ _ H; cases H
 | succ m ih =>
  intro x26 A21 x20 k22 x23 x24 a w T S H
  have h25 := S.getp (i := 7) rfl
  refine Gets.seq ?_
  refine rg ?_
  refine r_pv T rfl rfl fun _ T => ?_
  refine Gets.seq ?_
  rcases ifE H with ⟨h27, H⟩ | ⟨h27, H⟩
  ·refine cdT T rfl h27 ?_
   refine Gets.skip (Gets.seq (Gets.block (Gets.seq ?_)))
   refine rg ?_
   obtain ⟨h28, H⟩ := ck H
   refine r_ia (ix := 5) T S rfl rfl rfl rfl Tryd.runUnderlying23 Tryd.sizeOf3 h28.1 h28.2 rfl fun _ T => ?_
   refine r_ldE (ix := 5) (i := x26) (off := 0) (f := (Value.int .i64)) T S rfl Tryd.isAgg3 rfl (0 : Int) _ rfl rfl (Fld.all _) h28.1 h28.2 (fun h => h) rfl fun _ T => ?_
   refine r_pv T rfl rfl fun _ T => ?_
   refine rg ?_
   refine r_pv T rfl rfl fun _ T => ?_
   refine r_pv T rfl rfl fun _ T => ?_
   refine r_pv T rfl rfl fun _ T => ?_
   refine r_fa (o' := 2) T rfl Tryd.runUnderlying26 rfl Tryd.sizeOf22 rfl rfl fun _ T => ?_
   refine r_ldB (ix := 8) T S rfl Tryd.isAgg22 rfl rfl rfl fun _ T => ?_
   refine r_pv T rfl rfl fun _ T => ?_
   obtain ⟨h29, H⟩ := ck H
   refine r_ia (ix := 2) T S rfl rfl rfl rfl Tryd.runUnderlying22 Tryd.sizeOf72 h29.1 h29.2 rfl fun _ T => ?_
   refine r_faE T rfl Tryd.runUnderlying72 rfl Tryd.sizeOf3 rfl fun _ T => ?_
   refine r_ldE (ix := 2) (i := gi (0 : Int) x12 x26) (off := 1) (f := (Value.int .i64)) T S rfl Tryd.isAgg3 rfl dapi_Column _ rfl rfl fld_api_Column_Type' h29.1 h29.2 (fun h => h) rfl fun _ T => ?_
   obtain ⟨x31, h30, H⟩ := bd H
   refine r_call T Tryd.call32 rfl rfl (rowkey_reader_value_at58.ok _ _ z (rowkey_reader.mk x20 x23) ((gi dapi_Column x5.Columns (gi (0 : Int) x12 x26)).Type') 2 (S.sel (p := [blk b2 [.slice A21 x20.length k22, .bool x23], sl .ro ku8 A21 k22 x20]) (is := [0, 0]) rfl) _ h30) ?_
   rintro _ _ ⟨A33, k34, rfl, S⟩
   refine ⟨_, rfl, fun _ T => ?_⟩
   replace S : SL ([blk b2 [.slice A33 x31.2.b.length k34, .bool x31.2.bad], sl .ro ku8 A33 k34 x31.2.b, sl .ro kapi_Column A6 k7 x5.Columns, sl .ro ki64 A8 k9 x5.Key, sl .ro kapi_Index A10 k11 x5.Indexes, sl m15 ki64 A13 k14 x12, sl .own kapi_Value A17 k18 x24, pr (x24.length = x16.length), blk b19 (y0 x5 A6 k7 A8 k9 A10 k11)] ++ F) _ := S.join
   obtain ⟨h35, H⟩ := ck H
   refine r_ia (ix := 6) T S rfl rfl rfl h25.symm Tryd.runUnderlying27 Tryd.sizeOf43 h29.1 h35 rfl fun _ T => ?_
   have h36 : (x24.set (Int.toNat (gi (0 : Int) x12 x26)) x31.1).length = x16.length := by rw [List.length_set]; exact h25
   refine r_stEO (ix := 6) (i := gi (0 : Int) x12 x26) (u := x31.1) (vs := [.int .i64 x31.1.Type', .bool x31.1.Null, .int .i64 x31.1.Int, .string x31.1.Text]) (l' := [blk b2 [.slice A33 x31.2.b.length k34, .bool x31.2.bad], sl .ro ku8 A33 k34 x31.2.b, sl .ro kapi_Column A6 k7 x5.Columns, sl .ro ki64 A8 k9 x5.Key, sl .ro kapi_Index A10 k11 x5.Indexes, sl m15 ki64 A13 k14 x12, sl .own kapi_Value A17 k18 (x24.set (Int.toNat (gi (0 : Int) x12 x26)) x31.1), pr (x24.length = x16.length), blk b19 (y0 x5 A6 k7 A8 k9 A10 k11)]) T S rfl rfl rfl rfl (by simp) (fun _ => ⟨_, _, rfl, rfl, ⟨_, _, rfl, rfl, ⟨_, _, rfl, rfl, rfl⟩⟩⟩) Tryd.sizeOf43 h29.1 h35 rfl fun _ S => ?_
   refine Gets.inBlock ?_
   refine rg ?_
   refine r_pv T rfl rfl fun _ T => ?_
   refine r_pv T rfl rfl fun _ T => ?_
   refine Gets.inLoop ?_
   replace S := SL.prf h36 S
   exact ih (wr .i64 (x26 + 1)) A33 x31.2.b k34 x31.2.bad (x24.set (Int.toNat (gi (0 : Int) x12 x26)) x31.1) _ _ (T.sub ⟨rfl, rfl, rfl, rfl, rfl, rfl, trivial⟩) (S.only (p := [blk b2 [.slice A33 x31.2.b.length k34, .bool x31.2.bad], sl .ro ku8 A33 k34 x31.2.b, sl .ro kapi_Column A6 k7 x5.Columns, sl .ro ki64 A8 k9 x5.Key, sl .ro kapi_Index A10 k11 x5.Indexes, sl m15 ki64 A13 k14 x12, sl .own kapi_Value A17 k18 (x24.set (Int.toNat (gi (0 : Int) x12 x26)) x31.1), pr ((x24.set (Int.toNat (gi (0 : Int) x12 x26)) x31.1).length = x16.length), blk b19 (y0 x5 A6 k7 A8 k9 A10 k11)]) [1, 1, 1, 1, 1, 1, 1, 0, 1] rfl) H
  ·refine cdF T rfl h27 ?_
   refine Gets.exit rfl ?_
   replace S := SL.prf h25 S
   replace H := Option.some.inj H
   subst H
   exact rtf T Tryd.func31 rfl rfl ⟨A21, k22, rfl, (S.only (p := [blk b2 [.slice A21 x20.length k22, .bool x23], sl .ro ku8 A21 k22 x20, sl .ro kapi_Column A6 k7 x5.Columns, sl .ro ki64 A8 k9 x5.Key, sl .ro kapi_Index A10 k11 x5.Indexes, sl m15 ki64 A13 k14 x12, sl .own kapi_Value A17 k18 x24, pr (x24.length = x16.length)]) [1, 1, 1, 1, 1, 1, 1, 0] rfl)⟩
theorem ok (F : List Atom) (w : World) (z : Nat) (x1 : rowkey_reader) (x5 : api_Table) (x12 : List Int) (x16 : List api_Value) {b2 : Nat} {A3 : Option Addr} {k4 : Nat} {A6 : Option Addr} {k7 : Nat} {A8 : Option Addr} {k9 : Nat} {A10 : Option Addr} {k11 : Nat} {A13 : Option Addr} {k14 : Nat} {m15 : Md} {A17 : Option Addr} {k18 : Nat} (S : SL ([blk b2 [.slice A3 x1.b.length k4, .bool x1.bad], sl .ro ku8 A3 k4 x1.b, sl .ro kapi_Column A6 k7 x5.Columns, sl .ro ki64 A8 k9 x5.Key, sl .ro kapi_Index A10 k11 x5.Indexes, sl m15 ki64 A13 k14 x12, sl .own kapi_Value A17 k18 x16] ++ F) w) (r : rowkey_reader × (List api_Value)) (H : f z x1 x5 x12 x16 = some r) : Calls Tryd.prog 31 #[.pointer (some ⟨b2, 0, none⟩), .agg #[.int .i64 x5.Id, .string x5.Name, .slice A6 x5.Columns.length k7, .slice A8 x5.Key.length k9, .slice A10 x5.Indexes.length k11], .slice A13 x12.length k14, .slice A17 x16.length k18] w (R F b2 x5 A6 k7 A8 k9 A10 k11 x12 A13 k14 m15 x16 A17 k18 r) := by
 refine enter (vs := [.pointer (some ⟨b2, 0, none⟩), .agg #[.int .i64 x5.Id, .string x5.Name, .slice A6 x5.Columns.length k7, .slice A8 x5.Key.length k9, .slice A10 x5.Indexes.length k11], .slice A13 x12.length k14, .slice A17 x16.length k18]) Tryd.func31 rfl Tryd.ntmps31 (Nat.le_of_ble_eq_true rfl) fun a T => ?_
 have pinA17 : x16.length = x16.length := rfl
 refine Gets.seq ?_
 refine rg ?_
 refine r_box T S rfl (cs := (y0 x5 A6 k7 A8 k9 A10 k11)) rfl rfl fun _ _ b19 S T => ?_
 refine Gets.seq ?_
 refine rg ?_
 refine r_pv T rfl rfl fun _ T => ?_
 refine r_lenS T rfl Tryd.runUnderlying23 rfl fun _ T => ?_
 refine r_pv T rfl rfl fun _ T => ?_
 refine Gets.block ?_
 refine Gets.loop ?_
 replace S := SL.prf pinA17 S
 exact L0_ok F r z b2 x5 A6 k7 A8 k9 A10 k11 x12 A13 k14 m15 x16 A17 k18 b19 z 0 A3 x1.b k4 x1.bad x16 _ _ (T.sub ⟨rfl, rfl, rfl, rfl, rfl, rfl, trivial⟩) (S.only (p := [blk b2 [.slice A3 x1.b.length k4, .bool x1.bad], sl .ro ku8 A3 k4 x1.b, sl .ro kapi_Column A6 k7 x5.Columns, sl .ro ki64 A8 k9 x5.Key, sl .ro kapi_Index A10 k11 x5.Indexes, sl m15 ki64 A13 k14 x12, sl .own kapi_Value A17 k18 x16, pr (x16.length = x16.length), blk b19 (y0 x5 A6 k7 A8 k9 A10 k11)]) [2, 2, 2, 2, 2, 2, 2, 0, 0] rfl) H
end rowkey_reader_keys
end Go.Proofs.YtohelmfkpmphoaaDoor
namespace Go.Proofs.YtohelmfkpmphoaaDoor
open Go Go.Proofs.YtohelmfkpmphoaaDoor.X
set_option linter.unusedVariables false
set_option linter.unusedSimpArgs false
set_option maxRecDepth 100000
set_option maxHeartbeats 4000000
namespace rowkey_reader_value_at33
noncomputable def c0 : Code := match Tryd.f32.body with | some c => c | none => .skip
def R (F : List Atom) (b2 : Nat) (r : api_Value × rowkey_reader) : Ending → World → Prop := fun e w' => ∃ (A46 : Option Addr), ∃ (k47 : Nat), e = .returned (.agg #[.int .i64 r.1.Type', .bool r.1.Null, .int .i64 r.1.Int, .string r.1.Text]) ∧ SL ([blk b2 [.slice A46 r.2.b.length k47, .bool r.2.bad], sl .ro ku8 A46 k47 r.2.b] ++ F) w'
def J0 (z : Nat) (x5 : Int) (x38 : List Int) (x41 : Bool) (x42 : Bool) (x43 : Int) (x44 : ByteArray) : Option (api_Value × rowkey_reader) := some ((api_Value.mk x5 x42 x43 x44), (rowkey_reader.mk x38 x41))
def f (z : Nat) (x1 : rowkey_reader) (x5 : Int) (x6 : Int) : Option (api_Value × rowkey_reader) := Bd (rowkey_reader_byte.f x1) fun x10 => If (x10.1 == x6) (J0 z x5 x10.2.b x10.2.bad true 0 (⟨#[]⟩ : ByteArray)) (If (x5 == 1) (Bd (codec_TakeKeyInt.f z x10.2.b) fun x17 => Bd (rowkey_reader_went.f x10.2 x17.2.1 x17.2.2) fun x19 => J0 z x5 x19.b x19.bad false x17.1 (⟨#[]⟩ : ByteArray)) (If (x5 == 2) (Bd (rowkey_reader_byte.f x10.2) fun x25 => J0 z x5 x25.2.b x25.2.bad false (wr .i64 x25.1) (⟨#[]⟩ : ByteArray)) (Bd (codec_TakeText.f z x10.2.b) fun x30 => Bd (rowkey_reader_went.f x10.2 x30.2.1 x30.2.2) fun x34 => J0 z x5 x34.b x34.bad false 0 (bstr x30.1))))
noncomputable def ptJ0 : List Item := [.code (cL (cR (cR (cR c0)))), .code (cR (cR (cR (cR c0))))]
abbrev y0 : List Value := [.int .i64 0, .bool false, .int .i64 0, .string (⟨#[]⟩ : ByteArray)]
abbrev y1 (x5 : Int) : List Value := [.int .i64 x5, .bool false, .int .i64 0, .string (⟨#[]⟩ : ByteArray)]
abbrev y2 (b2 : Nat) (A12 : Option Addr) (x10 : Int × rowkey_reader) (k13 : Nat) : Atom := blk b2 [.slice A12 x10.2.b.length k13, .bool x10.2.bad]
abbrev y3 : Value := .string (⟨#[]⟩ : ByteArray)
theorem J0_ok (F : List Atom) (r : api_Value × rowkey_reader) (z : Nat) (b2 : Nat) (b7 : Nat) (b8 : Nat) (x5 : Int) (x6 : Int) (A39 : Option Addr) (x38 : List Int) (k40 : Nat) (x41 : Bool) (x42 : Bool) (x43 : Int) (x44 : ByteArray) (a : Act) (w : World) (T : Tm 67 [(8, .pointer (some ⟨b7, 0, none⟩)), (9, .pointer (some ⟨b8, 0, none⟩))] a) (S : SL ([blk b2 [.slice A39 x38.length k40, .bool x41], sl .ro ku8 A39 k40 x38, blk b7 (y0), blk b8 [.int .i64 x5, .bool x42, .int .i64 x43, .string x44]] ++ F) w) (H : J0 z x5 x38 x41 x42 x43 x44 = some r) : Gets Tryd.prog 32 ptJ0 a w (R F b2 r) := by
 refine rg ?_
 refine r_ldBA (ix := 3) (ds := [.int .i64 x5, .bool x42, .int .i64 x43, .string x44]) T S rfl Tryd.isAgg43 rfl rfl Tryd.sizeOf43 rfl fun _ T => ?_
 refine r_stBA (ix := 2) (vs := [.int .i64 x5, .bool x42, .int .i64 x43, .string x44]) (l' := [blk b2 [.slice A39 x38.length k40, .bool x41], sl .ro ku8 A39 k40 x38, blk b7 [.int .i64 x5, .bool x42, .int .i64 x43, .string x44], blk b8 [.int .i64 x5, .bool x42, .int .i64 x43, .string x44]]) T S rfl rfl rfl rfl (by simp) Tryd.sizeOf43 (Nat.le_of_ble_eq_true rfl) rfl fun _ S => ?_
 replace H := Option.some.inj H
 subst H
 exact rtnM T S Tryd.func32 rfl ⟨_, _, rfl, ⟨b7, _, 2, rfl, rfl, .inl ⟨Tryd.isAgg43, Tryd.sizeOf43, rfl⟩⟩, rfl⟩ ⟨A39, k40, rfl, (S.only (p := [blk b2 [.slice A39 x38.length k40, .bool x41], sl .ro ku8 A39 k40 x38]) [0, 0] rfl)⟩
theorem ok (F : List Atom) (w : World) (z : Nat) (x1 : rowkey_reader) (x5 : Int) (x6 : Int) {b2 : Nat} {A3 : Option Addr} {k4 : Nat} (S : SL ([blk b2 [.slice A3 x1.b.length k4, .bool x1.bad], sl .ro ku8 A3 k4 x1.b] ++ F) w) (r : api_Value × rowkey_reader) (H : f z x1 x5 x6 = some r) : Calls Tryd.prog 32 #[.pointer (some ⟨b2, 0, none⟩), .int .i64 x5, .int .u8 x6, .func (.func 33) #[] #[]] w (R F b2 r) := by
 refine enter (vs := [.pointer (some ⟨b2, 0, none⟩), .int .i64 x5, .int .u8 x6, .func (.func 33) #[] #[]]) Tryd.func32 rfl Tryd.ntmps32 (Nat.le_of_ble_eq_true rfl) fun a T => ?_
 refine Gets.seq ?_
 refine rg ?_
 refine r_alloc T S zv43 (cs := (y0)) rfl rfl fun _ _ b7 S T => ?_
 refine Gets.seq ?_
 refine rg ?_
 refine r_pv T rfl rfl fun _ T => ?_
 refine r_build (cs := #[.int .i64 x5, .bool false, .int .i64 0, (y3)]) T stt43 rfl rfl rfl fun _ T => ?_
 refine r_alloc T S zv43 (cs := (y0)) rfl rfl fun _ _ b8 S T => ?_
 refine r_stBA (ix := 0) (vs := (y1 x5)) (l' := [blk b8 (y1 x5), blk b7 (y0), blk b2 [.slice A3 x1.b.length k4, .bool x1.bad], sl .ro ku8 A3 k4 x1.b]) T S rfl rfl rfl rfl (by simp) Tryd.sizeOf43 (Nat.le_of_ble_eq_true rfl) rfl fun _ S => ?_
 refine Gets.seq (Gets.block (Gets.seq ?_))
 refine rg ?_
 refine r_pv T rfl rfl fun _ T => ?_
 obtain ⟨x10, h9, H⟩ := bd H
 refine r_call T Tryd.call59 rfl rfl (rowkey_reader_byte.ok _ _ x1 (S.sel (p := [blk b2 [.slice A3 x1.b.length k4, .bool x1.bad], sl .ro ku8 A3 k4 x1.b]) (is := [2, 2]) rfl) _ h9) ?_
 rintro _ _ ⟨A12, k13, rfl, S⟩
 refine ⟨_, rfl, fun _ T => ?_⟩
 replace S : SL ([(y2 b2 A12 x10 k13), sl .ro ku8 A12 k13 x10.2.b, blk b8 (y1 x5), blk b7 (y0)] ++ F) _ := S.join
 refine r_pv T rfl rfl fun _ T => ?_
 refine r_pv T rfl rfl fun _ T => ?_
 refine r_pv T rfl rfl fun _ T => ?_
 rcases ifE H with ⟨h14, H⟩ | ⟨h14, H⟩
 ·refine cdT T rfl h14 ?_
  refine rg ?_
  refine r_fa (o' := 1) T rfl Tryd.runUnderlying43 rfl Tryd.sizeOf4 rfl rfl fun _ T => ?_
  refine r_stB (ix := 2) (l' := [(y2 b2 A12 x10 k13), sl .ro ku8 A12 k13 x10.2.b, blk b8 [.int .i64 x5, .bool true, .int .i64 0, (y3)], blk b7 (y0)]) T S rfl rfl rfl Tryd.sizeOf4 rfl (Nat.le_of_ble_eq_true rfl) rfl fun _ S => ?_
  refine Gets.inBlock (Gets.seq ?_)
  exact J0_ok F r z b2 b7 b8 x5 x6 A12 x10.2.b k13 x10.2.bad true 0 (⟨#[]⟩ : ByteArray) _ _ (T.sub ⟨rfl, rfl, trivial⟩) (S.only (p := [(y2 b2 A12 x10 k13), sl .ro ku8 A12 k13 x10.2.b, blk b7 (y0), blk b8 [.int .i64 x5, .bool true, .int .i64 0, (y3)]]) [0, 0, 1, 0] rfl) H
 ·refine cdF T rfl h14 ?_
  refine Gets.seq ?_
  refine rg ?_
  refine r_pv T rfl rfl fun _ T => ?_
  refine r_pv T rfl rfl fun _ T => ?_
  refine r_pv T rfl rfl fun _ T => ?_
  rcases ifE H with ⟨h15, H⟩ | ⟨h15, H⟩
  ·refine cdT T rfl h15 ?_
   refine Gets.seq ?_
   refine rg ?_
   refine r_pv T rfl rfl fun _ T => ?_
   refine r_pv T rfl rfl fun _ T => ?_
   refine r_fa (o' := 0) T rfl Tryd.runUnderlying69 rfl Tryd.sizeOf29 rfl rfl fun _ T => ?_
   refine r_ldB (ix := 0) T S rfl Tryd.isAgg29 rfl rfl rfl fun _ T => ?_
   obtain ⟨x17, h16, H⟩ := bd H
   refine r_call T Tryd.call60 rfl rfl (codec_TakeKeyInt.ok _ _ z x10.2.b (S.sel (p := [sl .ro ku8 A12 k13 x10.2.b]) (is := [1]) rfl) _ h16) ?_
   rintro _ _ ⟨rfl, S⟩
   refine ⟨_, rfl, fun _ T => ?_⟩
   replace S : SL ([sl .ro ku8 A12 k13 x10.2.b, (y2 b2 A12 x10 k13), blk b8 (y1 x5), blk b7 (y0)] ++ F) _ := S.join
   refine r_pv T rfl rfl fun _ T => ?_
   refine r_pv T rfl rfl fun _ T => ?_
   refine r_pv T rfl rfl fun _ T => ?_
   refine r_pv T rfl rfl fun _ T => ?_
   refine r_pv T rfl rfl fun _ T => ?_
   refine r_pv T rfl rfl fun _ T => ?_
   refine r_pv T rfl rfl fun _ T => ?_
   refine Gets.seq ?_
   refine rg ?_
   refine r_pv T rfl rfl fun _ T => ?_
   refine r_pv T rfl rfl fun _ T => ?_
   refine r_pv T rfl rfl fun _ T => ?_
   obtain ⟨x19, h18, H⟩ := bd H
   refine r_call T Tryd.call61 rfl rfl (rowkey_reader_went.ok _ _ x10.2 x17.2.1 x17.2.2 (S.sel (p := [(y2 b2 A12 x10 k13), sl .ro ku8 A12 k13 x10.2.b]) (is := [1, 0]) rfl) _ h18) ?_
   rintro _ _ ⟨A21, k22, rfl, S⟩
   refine ⟨_, rfl, fun _ T => ?_⟩
   replace S : SL ([blk b2 [.slice A21 x19.b.length k22, .bool x19.bad], sl .ro ku8 A21 k22 x19.b, blk b8 (y1 x5), blk b7 (y0)] ++ F) _ := S.join
   refine rg ?_
   refine r_pv T rfl rfl fun _ T => ?_
   refine r_fa (o' := 2) T rfl Tryd.runUnderlying43 rfl Tryd.sizeOf2 rfl rfl fun _ T => ?_
   refine r_stB (ix := 2) (l' := [blk b2 [.slice A21 x19.b.length k22, .bool x19.bad], sl .ro ku8 A21 k22 x19.b, blk b8 [.int .i64 x5, .bool false, .int .i64 x17.1, (y3)], blk b7 (y0)]) T S rfl rfl rfl Tryd.sizeOf2 rfl (Nat.le_of_ble_eq_true rfl) rfl fun _ S => ?_
   refine Gets.inBlock (Gets.seq ?_)
   exact J0_ok F r z b2 b7 b8 x5 x6 A21 x19.b k22 x19.bad false x17.1 (⟨#[]⟩ : ByteArray) _ _ (T.sub ⟨rfl, rfl, trivial⟩) (S.only (p := [blk b2 [.slice A21 x19.b.length k22, .bool x19.bad], sl .ro ku8 A21 k22 x19.b, blk b7 (y0), blk b8 [.int .i64 x5, .bool false, .int .i64 x17.1, (y3)]]) [0, 0, 1, 0] rfl) H
  ·refine cdF T rfl h15 ?_
   refine Gets.seq ?_
   refine rg ?_
   refine r_pv T rfl rfl fun _ T => ?_
   refine r_pv T rfl rfl fun _ T => ?_
   refine r_pv T rfl rfl fun _ T => ?_
   rcases ifE H with ⟨h23, H⟩ | ⟨h23, H⟩
   ·refine cdT T rfl h23 ?_
    refine rg ?_
    refine r_pv T rfl rfl fun _ T => ?_
    obtain ⟨x25, h24, H⟩ := bd H
    refine r_call T Tryd.call59 rfl rfl (rowkey_reader_byte.ok _ _ x10.2 (S.sel (p := [(y2 b2 A12 x10 k13), sl .ro ku8 A12 k13 x10.2.b]) (is := [0, 0]) rfl) _ h24) ?_
    rintro _ _ ⟨A27, k28, rfl, S⟩
    refine ⟨_, rfl, fun _ T => ?_⟩
    replace S : SL ([blk b2 [.slice A27 x25.2.b.length k28, .bool x25.2.bad], sl .ro ku8 A27 k28 x25.2.b, blk b8 (y1 x5), blk b7 (y0)] ++ F) _ := S.join
    refine r_conv T rfl Tryd.runUnderlying5 Tryd.runUnderlying2 rfl fun _ T => ?_
    refine r_fa (o' := 2) T rfl Tryd.runUnderlying43 rfl Tryd.sizeOf2 rfl rfl fun _ T => ?_
    refine r_stB (ix := 2) (l' := [blk b2 [.slice A27 x25.2.b.length k28, .bool x25.2.bad], sl .ro ku8 A27 k28 x25.2.b, blk b8 [.int .i64 x5, .bool false, .int .i64 (wr .i64 x25.1), (y3)], blk b7 (y0)]) T S rfl rfl rfl Tryd.sizeOf2 rfl (Nat.le_of_ble_eq_true rfl) rfl fun _ S => ?_
    refine Gets.inBlock (Gets.seq ?_)
    exact J0_ok F r z b2 b7 b8 x5 x6 A27 x25.2.b k28 x25.2.bad false (wr .i64 x25.1) (⟨#[]⟩ : ByteArray) _ _ (T.sub ⟨rfl, rfl, trivial⟩) (S.only (p := [blk b2 [.slice A27 x25.2.b.length k28, .bool x25.2.bad], sl .ro ku8 A27 k28 x25.2.b, blk b7 (y0), blk b8 [.int .i64 x5, .bool false, .int .i64 (wr .i64 x25.1), (y3)]]) [0, 0, 1, 0] rfl) H
   ·refine cdF T rfl h23 ?_
    refine Gets.seq ?_
    refine rg ?_
    refine r_pv T rfl rfl fun _ T => ?_
    refine r_pv T rfl rfl fun _ T => ?_
    refine r_pv T rfl rfl fun _ T => ?_
    refine r_fa (o' := 0) T rfl Tryd.runUnderlying69 rfl Tryd.sizeOf29 rfl rfl fun _ T => ?_
    refine r_ldB (ix := 0) T S rfl Tryd.isAgg29 rfl rfl rfl fun _ T => ?_
    obtain ⟨x30, h29, H⟩ := bd H
    refine r_callF T rfl Tryd.call33 rfl rfl (codec_TakeText.ok _ _ z x10.2.b (S.sel (p := [sl .ro ku8 A12 k13 x10.2.b]) (is := [1]) rfl) _ h29) ?_
    rintro _ _ ⟨A31, k32, rfl, S⟩
    refine ⟨_, rfl, fun _ T => ?_⟩
    replace S : SL ([sl .own ku8 A31 k32 x30.1, sl .ro ku8 A12 k13 x10.2.b, (y2 b2 A12 x10 k13), blk b8 (y1 x5), blk b7 (y0)] ++ F) _ := S.join
    refine r_pv T rfl rfl fun _ T => ?_
    refine r_pv T rfl rfl fun _ T => ?_
    refine r_pv T rfl rfl fun _ T => ?_
    refine r_pv T rfl rfl fun _ T => ?_
    refine r_pv T rfl rfl fun _ T => ?_
    refine r_pv T rfl rfl fun _ T => ?_
    refine r_pv T rfl rfl fun _ T => ?_
    refine Gets.seq ?_
    refine rg ?_
    refine r_pv T rfl rfl fun _ T => ?_
    refine r_pv T rfl rfl fun _ T => ?_
    refine r_pv T rfl rfl fun _ T => ?_
    obtain ⟨x34, h33, H⟩ := bd H
    refine r_call T Tryd.call61 rfl rfl (rowkey_reader_went.ok _ _ x10.2 x30.2.1 x30.2.2 (S.sel (p := [(y2 b2 A12 x10 k13), sl .ro ku8 A12 k13 x10.2.b]) (is := [2, 1]) rfl) _ h33) ?_
    rintro _ _ ⟨A36, k37, rfl, S⟩
    refine ⟨_, rfl, fun _ T => ?_⟩
    replace S : SL ([blk b2 [.slice A36 x34.b.length k37, .bool x34.bad], sl .ro ku8 A36 k37 x34.b, sl .own ku8 A31 k32 x30.1, blk b8 (y1 x5), blk b7 (y0)] ++ F) _ := S.join
    refine rg ?_
    refine r_pv T rfl rfl fun _ T => ?_
    refine r_b2s (ix := 2) (xs := x30.1) T S rfl rfl Tryd.runUnderlying29 Tryd.runUnderlying9 Tryd.runUnderlying5 rfl fun _ T => ?_
    refine r_fa (o' := 3) T rfl Tryd.runUnderlying43 rfl Tryd.sizeOf9 rfl rfl fun _ T => ?_
    refine r_stB (ix := 3) (l' := [blk b2 [.slice A36 x34.b.length k37, .bool x34.bad], sl .ro ku8 A36 k37 x34.b, sl .own ku8 A31 k32 x30.1, blk b8 [.int .i64 x5, .bool false, .int .i64 0, .string (bstr x30.1)], blk b7 (y0)]) T S rfl rfl rfl Tryd.sizeOf9 rfl (Nat.le_of_ble_eq_true rfl) rfl fun _ S => ?_
    refine Gets.inBlock (Gets.seq ?_)
    exact J0_ok F r z b2 b7 b8 x5 x6 A36 x34.b k37 x34.bad false 0 (bstr x30.1) _ _ (T.sub ⟨rfl, rfl, trivial⟩) (S.only (p := [blk b2 [.slice A36 x34.b.length k37, .bool x34.bad], sl .ro ku8 A36 k37 x34.b, blk b7 (y0), blk b8 [.int .i64 x5, .bool false, .int .i64 0, .string (bstr x30.1)]]) [0, 0, 2, 1] rfl) H
end rowkey_reader_value_at33
end Go.Proofs.YtohelmfkpmphoaaDoor
namespace Go.Proofs.YtohelmfkpmphoaaDoor
open Go Go.Proofs.YtohelmfkpmphoaaDoor.X
set_option linter.unusedVariables false
set_option linter.unusedSimpArgs false
set_option maxRecDepth 100000
set_option maxHeartbeats 4000000
namespace rowkey_TakeRow
noncomputable def c0 : Code := match Tryd.f9.body with | some c => c | none => .skip
def R (F : List Atom) (x1 : api_Table) (A2 : Option Addr) (k3 : Nat) (A4 : Option Addr) (k5 : Nat) (A6 : Option Addr) (k7 : Nat) (x8 : api_KV) (A9 : Option Addr) (k10 : Nat) (A11 : Option Addr) (k12 : Nat) (r : (List api_Value) × Int) : Ending → World → Prop := fun e w' => ∃ (A79 : Option Addr), ∃ (k80 : Nat), e = .returned (.tuple #[.slice A79 r.1.length k80, .int .i64 r.2]) ∧ SL ([sl .own kapi_Value A79 k80 r.1, sl .ro kapi_Column A2 k3 x1.Columns, sl .ro ki64 A4 k5 x1.Key, sl .ro kapi_Index A6 k7 x1.Indexes, sl .ro ku8 A9 k10 x8.Key, sl .ro ku8 A11 k12 x8.Value] ++ F) w'
def J1 (z : Nat) : Option ((List api_Value) × Int) := some (([] : List api_Value), 200)
def J2 (z : Nat) (q0 : (List api_Value) → Int → (List Int) → Bool → Option ((List api_Value) × Int)) (x1 : api_Table) (x8 : api_KV) (x30 : rowkey_reader × (List api_Value)) (x43 : Int) (x72 : List api_Value) (x75 : List Int) (x78 : Bool) : Option ((List api_Value) × Int) := q0 x72 (wr .i64 (x43 + 1)) x75 x78
def L0 (z : Nat) (x1 : api_Table) (x8 : api_KV) (x30 : rowkey_reader × (List api_Value)) : Nat → (List api_Value) → Int → (List Int) → Bool → Option ((List api_Value) × Int)
 | 0, _, _, _, _ => none
 | m + 1, x36, x43, x39, x42 => If (decide (x43 < (x1.Columns.length : Int))) (Ck (0 ≤ x43 ∧ x43 < (x1.Columns.length : Int)) (Bd (slices_Contains_int.f z x1.Key x43) fun x64 => If (!x64) (Bd (rowkey_reader_value_at33.f z (rowkey_reader.mk x39 x42) ((gi dapi_Column x1.Columns x43).Type') 0) fun x67 => Ck (x43 < (x36.length : Int)) (J2 z (L0 z x1 x8 x30 m) x1 x8 x30 x43 (x36.set (Int.toNat x43) x67.1) x67.2.b x67.2.bad)) (J2 z (L0 z x1 x8 x30 m) x1 x8 x30 x43 x36 x39 x42))) (Bd (rowkey_Row.f z x1 x36) fun x46 => If x30.1.bad (J1 z) (If x42 (J1 z) (If (x46.2 != 0) (J1 z) (Bd (bytes_Equal.f x46.1.Key x8.Key) fun x56 => If (!x56) (J1 z) (Bd (bytes_Equal.f x46.1.Value x8.Value) fun x59 => If (!x59) (J1 z) (some (x36, 0)))))))
def f (z : Nat) (x1 : api_Table) (x8 : api_KV) : Option ((List api_Value) × Int) := Bd (rowkey_tabled.f z x1 x1.Key) fun x16 => If (!x16) (some (([] : List api_Value), 1)) (Ck (0 ≤ (x1.Columns.length : Int) ∧ (x1.Columns.length : Int) ≤ (x1.Columns.length : Int) ∧ 40 * (x1.Columns.length : Int) ≤ 281474976710656) (Bd (rowkey_begin.f z [x1.Id, 1]) fun x22 => Ck (0 ≤ mn (x8.Key.length : Int) (x22.length : Int) ∧ mn (x8.Key.length : Int) (x22.length : Int) ≤ (x8.Key.length : Int)) (Bd (rowkey_reader_keys.f z (rowkey_reader.mk (cut x8.Key (Int.toNat (mn (x8.Key.length : Int) (x22.length : Int))) (Int.toNat (x8.Key.length : Int))) false) x1 x1.Key (List.replicate (Int.toNat (x1.Columns.length : Int)) dapi_Value)) fun x30 => L0 z x1 x8 x30 z x30.2 0 x8.Value false)))
noncomputable def ptJ1 : List Item := [.code (cL (cT (cR (cL (cR (cR (cR (cR (cR (cR (cR (cR (cR c0))))))))))))), .code (cR (cT (cR (cL (cR (cR (cR (cR (cR (cR (cR (cR (cR c0))))))))))))), .code (cR (cR (cR (cR (cR (cR (cR (cR (cR (cR c0))))))))))]
noncomputable def ptJ2 : List Item := [.code (cR (cR (cR (cB (cB (cR (cL (cR (cR (cR (cR (cR (cR (cR c0)))))))))))))), .inLoop (cB (cB (cR (cL (cR (cR (cR (cR (cR (cR (cR c0))))))))))), .inBlock 0, .code (cR (cR (cR (cR (cR (cR (cR (cR c0))))))))]
noncomputable def ptL0 : List Item := [.code (cB (cB (cR (cL (cR (cR (cR (cR (cR (cR (cR c0))))))))))), .inLoop (cB (cB (cR (cL (cR (cR (cR (cR (cR (cR (cR c0))))))))))), .inBlock 0, .code (cR (cR (cR (cR (cR (cR (cR (cR c0))))))))]
abbrev y0 (x1 : api_Table) (A2 : Option Addr) (k3 : Nat) (A4 : Option Addr) (k5 : Nat) (A6 : Option Addr) (k7 : Nat) : List Value := [.int .i64 x1.Id, .string x1.Name, .slice A2 x1.Columns.length k3, .slice A4 x1.Key.length k5, .slice A6 x1.Indexes.length k7]
abbrev y1 (x1 : api_Table) (x43 : Int) : List Value := [.string ((gi dapi_Column x1.Columns x43).Name), .int .i64 ((gi dapi_Column x1.Columns x43).Type'), .bool ((gi dapi_Column x1.Columns x43).NotNull), .int .i64 (((gi dapi_Column x1.Columns x43).Default).Type'), .bool (((gi dapi_Column x1.Columns x43).Default).Null), .int .i64 (((gi dapi_Column x1.Columns x43).Default).Int), .string (((gi dapi_Column x1.Columns x43).Default).Text)]
abbrev y2 (b14 : Nat) (A9 : Option Addr) (x8 : api_KV) (k10 : Nat) (A11 : Option Addr) (k12 : Nat) : Atom := blk b14 [.slice A9 x8.Key.length k10, .slice A11 x8.Value.length k12]
abbrev y3 (A2 : Option Addr) (k3 : Nat) (x1 : api_Table) : Atom := sl .ro kapi_Column A2 k3 x1.Columns
abbrev y4 (A6 : Option Addr) (k7 : Nat) (x1 : api_Table) : Atom := sl .ro kapi_Index A6 k7 x1.Indexes
abbrev y5 (b28 : Nat) (A32 : Option Addr) (x30 : rowkey_reader × (List api_Value)) (k33 : Nat) : Atom := blk b28 [.slice A32 x30.1.b.length k33, .bool x30.1.bad]
abbrev y6 (A4 : Option Addr) (k5 : Nat) (x1 : api_Table) : Atom := sl .ro ki64 A4 k5 x1.Key
abbrev y7 (A11 : Option Addr) (k12 : Nat) (x8 : api_KV) : Atom := sl .ro ku8 A11 k12 x8.Value
abbrev y8 (A27 : Option Addr) (x8 : api_KV) (x22 : (List Int)) (k10 : Nat) : Value := .slice A27 ((cut x8.Key (Int.toNat (mn (x8.Key.length : Int) (x22.length : Int))) (Int.toNat (x8.Key.length : Int))).length) (Int.toNat (k10 : Int) - Int.toNat (mn (x8.Key.length : Int) (x22.length : Int)))
abbrev y9 (b19 : Nat) (x1 : api_Table) : Atom := sl .own kapi_Value (some ⟨b19, 0, none⟩) (Int.toNat (x1.Columns.length : Int)) (List.replicate (Int.toNat (x1.Columns.length : Int)) dapi_Value)
abbrev y10 (A9 : Option Addr) (k10 : Nat) (x8 : api_KV) : Atom := sl .ro ku8 A9 k10 x8.Key
theorem J1_ok (F : List Atom) (r : (List api_Value) × Int) (z : Nat) (x1 : api_Table) (A2 : Option Addr) (k3 : Nat) (A4 : Option Addr) (k5 : Nat) (A6 : Option Addr) (k7 : Nat) (x8 : api_KV) (A9 : Option Addr) (k10 : Nat) (A11 : Option Addr) (k12 : Nat) (a : Act) (w : World) (T : Tm 106 [] a) (S : SL ([(y3 A2 k3 x1), (y6 A4 k5 x1), (y4 A6 k7 x1), (y10 A9 k10 x8), (y7 A11 k12 x8)] ++ F) w) (H : J1 z = some r) : Gets Tryd.prog 9 ptJ1 a w (R F x1 A2 k3 A4 k5 A6 k7 x8 A9 k10 A11 k12 r) := by
 refine rg ?_
 refine r_pv T rfl rfl fun _ T => ?_
 refine r_pv T rfl rfl fun _ T => ?_
 replace S := S.nil kapi_Value .own
 replace H := Option.some.inj H
 subst H
 exact rtn T Tryd.func9 rfl rfl ⟨none, 0, rfl, (S.only (p := [sl .own kapi_Value none 0 ([] : List api_Value), (y3 A2 k3 x1), (y6 A4 k5 x1), (y4 A6 k7 x1), (y10 A9 k10 x8), (y7 A11 k12 x8)]) [0, 0, 0, 0, 0, 0] rfl)⟩
theorem J2_ok (F : List Atom) (r : (List api_Value) × Int) (z : Nat) (x1 : api_Table) (A2 : Option Addr) (k3 : Nat) (A4 : Option Addr) (k5 : Nat) (A6 : Option Addr) (k7 : Nat) (x8 : api_KV) (A9 : Option Addr) (k10 : Nat) (A11 : Option Addr) (k12 : Nat) (b13 : Nat) (b14 : Nat) (b28 : Nat) (b35 : Nat) (x43 : Int) (A32 : Option Addr) (x30 : rowkey_reader × (List api_Value)) (k33 : Nat) (q0 : (List api_Value) → Int → (List Int) → Bool → Option ((List api_Value) × Int)) (hq0 : ∀ (A37 : Option Addr) (x36 : List api_Value) (k38 : Nat) (x43 : Int) (A40 : Option Addr) (x39 : List Int) (k41 : Nat) (x42 : Bool) (a : Act) (w : World), Tm 106 [(2, .pointer (some ⟨b13, 0, none⟩)), (3, .pointer (some ⟨b14, 0, none⟩)), (6, .slice A37 x36.length k38), (8, .pointer (some ⟨b28, 0, none⟩)), (9, .pointer (some ⟨b35, 0, none⟩)), (49, .slice A2 x1.Columns.length k3), (50, .int .i64 (x1.Columns.length : Int)), (51, .int .i64 x43)] a → SL ([(y3 A2 k3 x1), (y6 A4 k5 x1), (y4 A6 k7 x1), (y10 A9 k10 x8), (y7 A11 k12 x8), blk b13 (y0 x1 A2 k3 A4 k5 A6 k7), (y2 b14 A9 x8 k10 A11 k12), sl .own kapi_Value A37 k38 x36, (y5 b28 A32 x30 k33), sl .ro ku8 A32 k33 x30.1.b, blk b35 [.slice A40 x39.length k41, .bool x42], sl .ro ku8 A40 k41 x39] ++ F) w → q0 x36 x43 x39 x42 = some r → Gets Tryd.prog 9 ptL0 a w (R F x1 A2 k3 A4 k5 A6 k7 x8 A9 k10 A11 k12 r)) (A73 : Option Addr) (x72 : List api_Value) (k74 : Nat) (A76 : Option Addr) (x75 : List Int) (k77 : Nat) (x78 : Bool) (a : Act) (w : World) (T : Tm 106 [(2, .pointer (some ⟨b13, 0, none⟩)), (3, .pointer (some ⟨b14, 0, none⟩)), (6, .slice A73 x72.length k74), (8, .pointer (some ⟨b28, 0, none⟩)), (9, .pointer (some ⟨b35, 0, none⟩)), (49, .slice A2 x1.Columns.length k3), (50, .int .i64 (x1.Columns.length : Int)), (51, .int .i64 x43)] a) (S : SL ([(y3 A2 k3 x1), (y6 A4 k5 x1), (y4 A6 k7 x1), (y10 A9 k10 x8), (y7 A11 k12 x8), blk b13 (y0 x1 A2 k3 A4 k5 A6 k7), (y2 b14 A9 x8 k10 A11 k12), sl .own kapi_Value A73 k74 x72, (y5 b28 A32 x30 k33), sl .ro ku8 A32 k33 x30.1.b, blk b35 [.slice A76 x75.length k77, .bool x78], sl .ro ku8 A76 k77 x75] ++ F) w) (H : J2 z q0 x1 x8 x30 x43 x72 x75 x78 = some r) : Gets Tryd.prog 9 ptJ2 a w (R F x1 A2 k3 A4 k5 A6 k7 x8 A9 k10 A11 k12 r) := by
 refine rg ?_
 refine r_pv T rfl rfl fun _ T => ?_
 refine r_pv T rfl rfl fun _ T => ?_
 refine Gets.inLoop ?_
 exact hq0 A73 x72 k74 (wr .i64 (x43 + 1)) A76 x75 k77 x78 _ _ (T.sub ⟨rfl, rfl, rfl, rfl, rfl, rfl, rfl, rfl, trivial⟩) (S.only (p := [(y3 A2 k3 x1), (y6 A4 k5 x1), (y4 A6 k7 x1), (y10 A9 k10 x8), (y7 A11 k12 x8), blk b13 (y0 x1 A2 k3 A4 k5 A6 k7), (y2 b14 A9 x8 k10 A11 k12), sl .own kapi_Value A73 k74 x72, (y5 b28 A32 x30 k33), sl .ro ku8 A32 k33 x30.1.b, blk b35 [.slice A76 x75.length k77, .bool x78], sl .ro ku8 A76 k77 x75]) [0, 0, 0, 0, 0, 0, 0, 0, 0, 0, 0, 0] rfl) H
theorem L0_ok (F : List Atom) (r : (List api_Value) × Int) (z : Nat) (x1 : api_Table) (A2 : Option Addr) (k3 : Nat) (A4 : Option Addr) (k5 : Nat) (A6 : Option Addr) (k7 : Nat) (x8 : api_KV) (A9 : Option Addr) (k10 : Nat) (A11 : Option Addr) (k12 : Nat) (b13 : Nat) (b14 : Nat) (b28 : Nat) (b35 : Nat) (A32 : Option Addr) (x30 : rowkey_reader × (List api_Value)) (k33 : Nat) (m : Nat) : ∀ (A37 : Option Addr) (x36 : List api_Value) (k38 : Nat) (x43 : Int) (A40 : Option Addr) (x39 : List Int) (k41 : Nat) (x42 : Bool) (a : Act) (w : World), Tm 106 [(2, .pointer (some ⟨b13, 0, none⟩)), (3, .pointer (some ⟨b14, 0, none⟩)), (6, .slice A37 x36.length k38), (8, .pointer (some ⟨b28, 0, none⟩)), (9, .pointer (some ⟨b35, 0, none⟩)), (49, .slice A2 x1.Columns.length k3), (50, .int .i64 (x1.Columns.length : Int)), (51, .int .i64 x43)] a → SL ([(y3 A2 k3 x1), (y6 A4 k5 x1), (y4 A6 k7 x1), (y10 A9 k10 x8), (y7 A11 k12 x8), blk b13 (y0 x1 A2 k3 A4 k5 A6 k7), (y2 b14 A9 x8 k10 A11 k12), sl .own kapi_Value A37 k38 x36, (y5 b28 A32 x30 k33), sl .ro ku8 A32 k33 x30.1.b, blk b35 [.slice A40 x39.length k41, .bool x42], sl .ro ku8 A40 k41 x39] ++ F) w → L0 z x1 x8 x30 m x36 x43 x39 x42 = some r → Gets Tryd.prog 9 ptL0 a w (R F x1 A2 k3 A4 k5 A6 k7 x8 A9 k10 A11 k12 r) := by
 induction m with
 | zero => intro _ _ _ _ _ _ _ _ _ _ _ _ H; cases H
 | succ m ih =>
  intro A37 x36 k38 x43 A40 x39 k41 x42 a w T S H
  refine Gets.seq ?_
  refine rg ?_
  refine r_pv T rfl rfl fun _ T => ?_
  refine Gets.seq ?_
  rcases ifE H with ⟨h44, H⟩ | ⟨h44, H⟩
  ·refine cdT T rfl h44 ?_
   refine Gets.skip (Gets.seq (Gets.block (Gets.seq ?_)))
   refine rg ?_
   refine r_pv T rfl rfl fun _ T => ?_
   obtain ⟨h61, H⟩ := ck H
   refine r_ia (ix := 0) T S rfl rfl rfl rfl Tryd.runUnderlying22 Tryd.sizeOf72 h61.1 h61.2 rfl fun _ T => ?_
   refine r_ldEA (ix := 0) (i := x43) (off := 0) T S rfl rfl Tryd.isAgg72 Tryd.sizeOf72 dapi_Column rfl (Fld.all _) h61.1 h61.2 rfl fun _ _ S T => ?_
   obtain ⟨hv_, S_⟩ := op_api_Column S
   subst hv_
   replace S := S_
   refine r_alloc T S zv72 (cs := [.string (⟨#[]⟩ : ByteArray), .int .i64 0, .bool false, .int .i64 0, .bool false, .int .i64 0, .string (⟨#[]⟩ : ByteArray)]) rfl rfl fun _ _ b62 S T => ?_
   refine r_pv T rfl rfl fun _ T => ?_
   refine r_stBA (ix := 0) (vs := (y1 x1 x43)) (l' := [blk b62 (y1 x1 x43), (y3 A2 k3 x1), (y6 A4 k5 x1), (y4 A6 k7 x1), (y10 A9 k10 x8), (y7 A11 k12 x8), blk b13 (y0 x1 A2 k3 A4 k5 A6 k7), (y2 b14 A9 x8 k10 A11 k12), sl .own kapi_Value A37 k38 x36, (y5 b28 A32 x30 k33), sl .ro ku8 A32 k33 x30.1.b, blk b35 [.slice A40 x39.length k41, .bool x42], sl .ro ku8 A40 k41 x39]) T S rfl rfl rfl rfl (by simp) Tryd.sizeOf72 (Nat.le_of_ble_eq_true rfl) rfl fun _ S => ?_
   refine Gets.seq ?_
   refine rg ?_
   refine r_fa (o' := 3) T rfl Tryd.runUnderlying26 rfl Tryd.sizeOf23 rfl rfl fun _ T => ?_
   refine r_ldB (ix := 6) T S rfl Tryd.isAgg23 rfl rfl rfl fun _ T => ?_
   refine r_pv T rfl rfl fun _ T => ?_
   replace S := S.dup (i := 2) rfl
   obtain ⟨x64, h63, H⟩ := bd H
   refine r_call T Tryd.call28 rfl rfl (slices_Contains_int.ok _ _ z x1.Key x43 (S.sel (p := [(y6 A4 k5 x1)]) (is := [0]) rfl) _ h63) ?_
   rintro _ _ ⟨rfl, S⟩
   refine ⟨_, rfl, fun _ T => ?_⟩
   replace S : SL ([blk b62 (y1 x1 x43), (y3 A2 k3 x1), (y6 A4 k5 x1), (y4 A6 k7 x1), (y10 A9 k10 x8), (y7 A11 k12 x8), blk b13 (y0 x1 A2 k3 A4 k5 A6 k7), (y2 b14 A9 x8 k10 A11 k12), sl .own kapi_Value A37 k38 x36, (y5 b28 A32 x30 k33), sl .ro ku8 A32 k33 x30.1.b, blk b35 [.slice A40 x39.length k41, .bool x42], sl .ro ku8 A40 k41 x39] ++ F) _ := S.join.only [1, 1, 1, 1, 1, 1, 1, 1, 1, 1, 1, 1, 1] rfl
   refine r_pv T rfl rfl fun _ T => ?_
   rcases ifE H with ⟨h65, H⟩ | ⟨h65, H⟩
   ·refine cdT T rfl h65 ?_
    refine rg ?_
    refine r_pv T rfl rfl fun _ T => ?_
    refine r_pv T rfl rfl fun _ T => ?_
    refine r_pv T rfl rfl fun _ T => ?_
    refine r_fa (o' := 1) T rfl Tryd.runUnderlying72 rfl Tryd.sizeOf3 rfl rfl fun _ T => ?_
    refine r_ldB (ix := 0) T S rfl Tryd.isAgg3 rfl rfl rfl fun _ T => ?_
    obtain ⟨x67, h66, H⟩ := bd H
    refine r_call T Tryd.call32 rfl rfl (rowkey_reader_value_at33.ok _ _ z (rowkey_reader.mk x39 x42) ((gi dapi_Column x1.Columns x43).Type') 0 (S.sel (p := [blk b35 [.slice A40 x39.length k41, .bool x42], sl .ro ku8 A40 k41 x39]) (is := [11, 11]) rfl) _ h66) ?_
    rintro _ _ ⟨A69, k70, rfl, S⟩
    refine ⟨_, rfl, fun _ T => ?_⟩
    replace S : SL ([blk b35 [.slice A69 x67.2.b.length k70, .bool x67.2.bad], sl .ro ku8 A69 k70 x67.2.b, blk b62 (y1 x1 x43), (y3 A2 k3 x1), (y6 A4 k5 x1), (y4 A6 k7 x1), (y10 A9 k10 x8), (y7 A11 k12 x8), blk b13 (y0 x1 A2 k3 A4 k5 A6 k7), (y2 b14 A9 x8 k10 A11 k12), sl .own kapi_Value A37 k38 x36, (y5 b28 A32 x30 k33), sl .ro ku8 A32 k33 x30.1.b] ++ F) _ := S.join
    obtain ⟨h71, H⟩ := ck H
    refine r_ia (ix := 10) T S rfl rfl rfl rfl Tryd.runUnderlying27 Tryd.sizeOf43 h61.1 h71 rfl fun _ T => ?_
    refine r_stEO (ix := 10) (i := x43) (u := x67.1) (vs := [.int .i64 x67.1.Type', .bool x67.1.Null, .int .i64 x67.1.Int, .string x67.1.Text]) (l' := [blk b35 [.slice A69 x67.2.b.length k70, .bool x67.2.bad], sl .ro ku8 A69 k70 x67.2.b, blk b62 (y1 x1 x43), (y3 A2 k3 x1), (y6 A4 k5 x1), (y4 A6 k7 x1), (y10 A9 k10 x8), (y7 A11 k12 x8), blk b13 (y0 x1 A2 k3 A4 k5 A6 k7), (y2 b14 A9 x8 k10 A11 k12), sl .own kapi_Value A37 k38 (x36.set (Int.toNat x43) x67.1), (y5 b28 A32 x30 k33), sl .ro ku8 A32 k33 x30.1.b]) T S rfl rfl rfl rfl (by simp) (fun _ => ⟨_, _, rfl, rfl, ⟨_, _, rfl, rfl, ⟨_, _, rfl, rfl, rfl⟩⟩⟩) Tryd.sizeOf43 h61.1 h71 rfl fun _ S => ?_
    refine Gets.inBlock ?_
    have T := T.re (s := 6) (v' := .slice A37 (x36.set (Int.toNat x43) x67.1).length k38) rfl (by simp)
    exact J2_ok F r z x1 A2 k3 A4 k5 A6 k7 x8 A9 k10 A11 k12 b13 b14 b28 b35 x43 A32 x30 k33 (L0 z x1 x8 x30 m) ih A37 (x36.set (Int.toNat x43) x67.1) k38 A69 x67.2.b k70 x67.2.bad _ _ (T.sub ⟨rfl, rfl, rfl, rfl, rfl, rfl, rfl, rfl, trivial⟩) (S.only (p := [(y3 A2 k3 x1), (y6 A4 k5 x1), (y4 A6 k7 x1), (y10 A9 k10 x8), (y7 A11 k12 x8), blk b13 (y0 x1 A2 k3 A4 k5 A6 k7), (y2 b14 A9 x8 k10 A11 k12), sl .own kapi_Value A37 k38 (x36.set (Int.toNat x43) x67.1), (y5 b28 A32 x30 k33), sl .ro ku8 A32 k33 x30.1.b, blk b35 [.slice A69 x67.2.b.length k70, .bool x67.2.bad], sl .ro ku8 A69 k70 x67.2.b]) [3, 3, 3, 3, 3, 3, 3, 3, 3, 3, 0, 0] rfl) H
   ·refine cdF T rfl h65 ?_
    refine Gets.skip (Gets.inBlock ?_)
    exact J2_ok F r z x1 A2 k3 A4 k5 A6 k7 x8 A9 k10 A11 k12 b13 b14 b28 b35 x43 A32 x30 k33 (L0 z x1 x8 x30 m) ih A37 x36 k38 A40 x39 k41 x42 _ _ (T.sub ⟨rfl, rfl, rfl, rfl, rfl, rfl, rfl, rfl, trivial⟩) (S.only (p := [(y3 A2 k3 x1), (y6 A4 k5 x1), (y4 A6 k7 x1), (y10 A9 k10 x8), (y7 A11 k12 x8), blk b13 (y0 x1 A2 k3 A4 k5 A6 k7), (y2 b14 A9 x8 k10 A11 k12), sl .own kapi_Value A37 k38 x36, (y5 b28 A32 x30 k33), sl .ro ku8 A32 k33 x30.1.b, blk b35 [.slice A40 x39.length k41, .bool x42], sl .ro ku8 A40 k41 x39]) [1, 1, 1, 1, 1, 1, 1, 1, 1, 1, 1, 1] rfl) H
  ·refine cdF T rfl h44 ?_
   refine Gets.exit rfl (Gets.seq ?_)
   refine rg ?_
   refine r_ldBA (ix := 5) (ds := (y0 x1 A2 k3 A4 k5 A6 k7)) T S rfl Tryd.isAgg26 rfl rfl Tryd.sizeOf26 rfl fun _ T => ?_
   refine r_pv T rfl rfl fun _ T => ?_
   replace S := S.dup (i := 0) rfl
   replace S := S.dup (i := 2) rfl
   replace S := S.dup (i := 4) rfl
   obtain ⟨x46, h45, H⟩ := bd H
   refine r_call T Tryd.call7 rfl rfl (rowkey_Row.ok _ _ z x1 x36 (S.sel (p := [(y3 A2 k3 x1), (y6 A4 k5 x1), (y4 A6 k7 x1), sl .own kapi_Value A37 k38 x36]) (is := [2, 1, 0, 7]) rfl) _ h45) ?_
   rintro _ _ ⟨A47, k48, A49, k50, rfl, S⟩
   refine ⟨_, rfl, fun _ T => ?_⟩
   replace S : SL ([sl .ro ku8 A47 k48 x46.1.Key, sl .ro ku8 A49 k50 x46.1.Value, sl .own kapi_Value A37 k38 x36, (y3 A2 k3 x1), (y6 A4 k5 x1), (y4 A6 k7 x1), (y10 A9 k10 x8), (y7 A11 k12 x8), blk b13 (y0 x1 A2 k3 A4 k5 A6 k7), (y2 b14 A9 x8 k10 A11 k12), (y5 b28 A32 x30 k33), sl .ro ku8 A32 k33 x30.1.b, blk b35 [.slice A40 x39.length k41, .bool x42], sl .ro ku8 A40 k41 x39] ++ F) _ := S.join.only [0, 0, 3, 3, 3, 3, 3, 3, 3, 3, 3, 3, 3, 3] rfl
   refine r_pv T rfl rfl fun _ T => ?_
   refine r_pv T rfl rfl fun _ T => ?_
   refine r_pv T rfl rfl fun _ T => ?_
   refine r_alloc T S zv31 (cs := [.slice none 0 0, .slice none 0 0]) rfl rfl fun _ _ b51 S T => ?_
   refine r_stBA (ix := 0) (vs := [.slice A47 x46.1.Key.length k48, .slice A49 x46.1.Value.length k50]) (l' := [blk b51 [.slice A47 x46.1.Key.length k48, .slice A49 x46.1.Value.length k50], sl .ro ku8 A47 k48 x46.1.Key, sl .ro ku8 A49 k50 x46.1.Value, sl .own kapi_Value A37 k38 x36, (y3 A2 k3 x1), (y6 A4 k5 x1), (y4 A6 k7 x1), (y10 A9 k10 x8), (y7 A11 k12 x8), blk b13 (y0 x1 A2 k3 A4 k5 A6 k7), (y2 b14 A9 x8 k10 A11 k12), (y5 b28 A32 x30 k33), sl .ro ku8 A32 k33 x30.1.b, blk b35 [.slice A40 x39.length k41, .bool x42], sl .ro ku8 A40 k41 x39]) T S rfl rfl rfl rfl (by simp) Tryd.sizeOf31 (Nat.le_of_ble_eq_true rfl) rfl fun _ S => ?_
   refine r_pv T rfl rfl fun _ T => ?_
   refine Gets.seq (Gets.seq ?_)
   refine rg ?_
   refine r_pv T rfl rfl fun _ T => ?_
   refine r_pv T rfl rfl fun _ T => ?_
   refine r_fa (o' := 1) T rfl Tryd.runUnderlying69 rfl Tryd.sizeOf4 rfl rfl fun _ T => ?_
   refine r_ldB (ix := 11) T S rfl Tryd.isAgg4 rfl rfl rfl fun _ T => ?_
   refine r_pv T rfl rfl fun _ T => ?_
   rcases ifE H with ⟨h52, H⟩ | ⟨h52, H⟩
   ·refine g_no T rfl rfl h52 rfl fun _ T => ?_
    refine g_no T rfl rfl h52 rfl fun _ T => ?_
    refine g_no T rfl rfl h52 rfl fun _ T => ?_
    refine g_no T rfl rfl h52 rfl fun _ T => ?_
    refine r_pickT T rfl h52 rfl rfl fun _ T => ?_
    refine r_pv T rfl rfl fun _ T => ?_
    refine g_no T rfl rfl rfl rfl fun _ T => ?_
    refine g_no T rfl rfl rfl rfl fun _ T => ?_
    refine r_pickT T rfl rfl rfl rfl fun _ T => ?_
    refine r_pv T rfl rfl fun _ T => ?_
    refine g_no T rfl rfl rfl rfl fun _ T => ?_
    refine g_no T rfl rfl rfl rfl fun _ T => ?_
    refine g_no T rfl rfl rfl rfl fun _ T => ?_
    refine g_no T rfl rfl rfl rfl fun _ T => ?_
    refine g_no T rfl rfl rfl rfl fun _ T => ?_
    refine g_no T rfl rfl rfl rfl fun _ T => ?_
    refine r_pickT T rfl rfl rfl rfl fun _ T => ?_
    refine r_pv T rfl rfl fun _ T => ?_
    refine g_no T rfl rfl rfl rfl fun _ T => ?_
    refine g_no T rfl rfl rfl rfl fun _ T => ?_
    refine g_no T rfl rfl rfl rfl fun _ T => ?_
    refine g_no T rfl rfl rfl rfl fun _ T => ?_
    refine g_no T rfl rfl rfl rfl fun _ T => ?_
    refine g_no T rfl rfl rfl rfl fun _ T => ?_
    refine r_pickT T rfl rfl rfl rfl fun _ T => ?_
    refine cdT T rfl rfl ?_
    refine Gets.seq ?_
    exact J1_ok F r z x1 A2 k3 A4 k5 A6 k7 x8 A9 k10 A11 k12 _ _ (T.sub trivial) (S.only (p := [(y3 A2 k3 x1), (y6 A4 k5 x1), (y4 A6 k7 x1), (y10 A9 k10 x8), (y7 A11 k12 x8)]) [4, 4, 4, 4, 4] rfl) H
   ·refine g_yes T rfl rfl h52 ?_
    refine r_pv T rfl rfl fun _ T => ?_
    refine g_yes T rfl rfl h52 ?_
    refine r_pv T rfl rfl fun _ T => ?_
    refine g_yes T rfl rfl h52 ?_
    refine r_fa (o' := 1) T rfl Tryd.runUnderlying69 rfl Tryd.sizeOf4 rfl rfl fun _ T => ?_
    refine g_yes T rfl rfl h52 ?_
    refine r_ldB (ix := 13) T S rfl Tryd.isAgg4 rfl rfl rfl fun _ T => ?_
    refine r_pickF T rfl h52 rfl rfl fun _ T => ?_
    refine r_pv T rfl rfl fun _ T => ?_
    rcases ifE H with ⟨h53, H⟩ | ⟨h53, H⟩
    ·refine g_no T rfl rfl h53 rfl fun _ T => ?_
     refine g_no T rfl rfl h53 rfl fun _ T => ?_
     refine r_pickT T rfl h53 rfl rfl fun _ T => ?_
     refine r_pv T rfl rfl fun _ T => ?_
     refine g_no T rfl rfl rfl rfl fun _ T => ?_
     refine g_no T rfl rfl rfl rfl fun _ T => ?_
     refine g_no T rfl rfl rfl rfl fun _ T => ?_
     refine g_no T rfl rfl rfl rfl fun _ T => ?_
     refine g_no T rfl rfl rfl rfl fun _ T => ?_
     refine g_no T rfl rfl rfl rfl fun _ T => ?_
     refine r_pickT T rfl rfl rfl rfl fun _ T => ?_
     refine r_pv T rfl rfl fun _ T => ?_
     refine g_no T rfl rfl rfl rfl fun _ T => ?_
     refine g_no T rfl rfl rfl rfl fun _ T => ?_
     refine g_no T rfl rfl rfl rfl fun _ T => ?_
     refine g_no T rfl rfl rfl rfl fun _ T => ?_
     refine g_no T rfl rfl rfl rfl fun _ T => ?_
     refine g_no T rfl rfl rfl rfl fun _ T => ?_
     refine r_pickT T rfl rfl rfl rfl fun _ T => ?_
     refine cdT T rfl rfl ?_
     refine Gets.seq ?_
     exact J1_ok F r z x1 A2 k3 A4 k5 A6 k7 x8 A9 k10 A11 k12 _ _ (T.sub trivial) (S.only (p := [(y3 A2 k3 x1), (y6 A4 k5 x1), (y4 A6 k7 x1), (y10 A9 k10 x8), (y7 A11 k12 x8)]) [4, 4, 4, 4, 4] rfl) H
    ·refine g_yes T rfl rfl h53 ?_
     refine r_pv T rfl rfl fun _ T => ?_
     refine g_yes T rfl rfl h53 ?_
     refine r_pv T rfl rfl fun _ T => ?_
     refine r_pickF T rfl h53 rfl rfl fun _ T => ?_
     refine r_pv T rfl rfl fun _ T => ?_
     rcases ifE H with ⟨h54, H⟩ | ⟨h54, H⟩
     ·refine g_no T rfl rfl h54 rfl fun _ T => ?_
      refine g_no T rfl rfl h54 rfl fun _ T => ?_
      refine g_no T rfl rfl h54 rfl fun _ T => ?_
      refine g_no T rfl rfl h54 rfl fun _ T => ?_
      refine g_no T rfl rfl h54 rfl fun _ T => ?_
      refine g_no T rfl rfl h54 rfl fun _ T => ?_
      refine r_pickT T rfl h54 rfl rfl fun _ T => ?_
      refine r_pv T rfl rfl fun _ T => ?_
      refine g_no T rfl rfl rfl rfl fun _ T => ?_
      refine g_no T rfl rfl rfl rfl fun _ T => ?_
      refine g_no T rfl rfl rfl rfl fun _ T => ?_
      refine g_no T rfl rfl rfl rfl fun _ T => ?_
      refine g_no T rfl rfl rfl rfl fun _ T => ?_
      refine g_no T rfl rfl rfl rfl fun _ T => ?_
      refine r_pickT T rfl rfl rfl rfl fun _ T => ?_
      refine cdT T rfl rfl ?_
      refine Gets.seq ?_
      exact J1_ok F r z x1 A2 k3 A4 k5 A6 k7 x8 A9 k10 A11 k12 _ _ (T.sub trivial) (S.only (p := [(y3 A2 k3 x1), (y6 A4 k5 x1), (y4 A6 k7 x1), (y10 A9 k10 x8), (y7 A11 k12 x8)]) [4, 4, 4, 4, 4] rfl) H
     ·refine g_yes T rfl rfl h54 ?_
      refine r_fa (o' := 0) T rfl Tryd.runUnderlying31 rfl Tryd.sizeOf29 rfl rfl fun _ T => ?_
      refine g_yes T rfl rfl h54 ?_
      refine r_ldB (ix := 0) T S rfl Tryd.isAgg29 rfl rfl rfl fun _ T => ?_
      refine g_yes T rfl rfl h54 ?_
      refine r_fa (o' := 0) T rfl Tryd.runUnderlying31 rfl Tryd.sizeOf29 rfl rfl fun _ T => ?_
      refine g_yes T rfl rfl h54 ?_
      refine r_ldB (ix := 10) T S rfl Tryd.isAgg29 rfl rfl rfl fun _ T => ?_
      refine g_yes T rfl rfl h54 ?_
      replace S := S.dup (i := 7) rfl
      obtain ⟨x56, h55, H⟩ := bd H
      refine r_call T Tryd.call34 rfl rfl (bytes_Equal.ok _ _ x46.1.Key x8.Key (S.sel (p := [sl .ro ku8 A47 k48 x46.1.Key, (y10 A9 k10 x8)]) (is := [2, 0]) rfl) _ h55) ?_
      rintro _ _ ⟨rfl, S⟩
      refine ⟨_, rfl, fun _ T => ?_⟩
      replace S : SL ([sl .ro ku8 A47 k48 x46.1.Key, blk b51 [.slice A47 x46.1.Key.length k48, .slice A49 x46.1.Value.length k50], sl .ro ku8 A49 k50 x46.1.Value, sl .own kapi_Value A37 k38 x36, (y3 A2 k3 x1), (y6 A4 k5 x1), (y4 A6 k7 x1), (y10 A9 k10 x8), (y7 A11 k12 x8), blk b13 (y0 x1 A2 k3 A4 k5 A6 k7), (y2 b14 A9 x8 k10 A11 k12), (y5 b28 A32 x30 k33), sl .ro ku8 A32 k33 x30.1.b, blk b35 [.slice A40 x39.length k41, .bool x42], sl .ro ku8 A40 k41 x39] ++ F) _ := S.join.only [0, 1, 1, 1, 1, 1, 1, 1, 1, 1, 1, 1, 1, 1, 1] rfl
      refine g_yes T rfl rfl h54 ?_
      refine r_pv T rfl rfl fun _ T => ?_
      refine r_pickF T rfl h54 rfl rfl fun _ T => ?_
      refine r_pv T rfl rfl fun _ T => ?_
      rcases ifE H with ⟨h57, H⟩ | ⟨h57, H⟩
      ·refine g_no T rfl rfl h57 rfl fun _ T => ?_
       refine g_no T rfl rfl h57 rfl fun _ T => ?_
       refine g_no T rfl rfl h57 rfl fun _ T => ?_
       refine g_no T rfl rfl h57 rfl fun _ T => ?_
       refine g_no T rfl rfl h57 rfl fun _ T => ?_
       refine g_no T rfl rfl h57 rfl fun _ T => ?_
       refine r_pickT T rfl h57 rfl rfl fun _ T => ?_
       refine cdT T rfl rfl ?_
       refine Gets.seq ?_
       exact J1_ok F r z x1 A2 k3 A4 k5 A6 k7 x8 A9 k10 A11 k12 _ _ (T.sub trivial) (S.only (p := [(y3 A2 k3 x1), (y6 A4 k5 x1), (y4 A6 k7 x1), (y10 A9 k10 x8), (y7 A11 k12 x8)]) [4, 4, 4, 4, 4] rfl) H
      ·refine g_yes T rfl rfl h57 ?_
       refine r_fa (o' := 1) T rfl Tryd.runUnderlying31 rfl Tryd.sizeOf29 rfl rfl fun _ T => ?_
       refine g_yes T rfl rfl h57 ?_
       refine r_ldB (ix := 1) T S rfl Tryd.isAgg29 rfl rfl rfl fun _ T => ?_
       refine g_yes T rfl rfl h57 ?_
       refine r_fa (o' := 1) T rfl Tryd.runUnderlying31 rfl Tryd.sizeOf29 rfl rfl fun _ T => ?_
       refine g_yes T rfl rfl h57 ?_
       refine r_ldB (ix := 10) T S rfl Tryd.isAgg29 rfl rfl rfl fun _ T => ?_
       refine g_yes T rfl rfl h57 ?_
       replace S := S.dup (i := 8) rfl
       obtain ⟨x59, h58, H⟩ := bd H
       refine r_call T Tryd.call34 rfl rfl (bytes_Equal.ok _ _ x46.1.Value x8.Value (S.sel (p := [sl .ro ku8 A49 k50 x46.1.Value, (y7 A11 k12 x8)]) (is := [3, 0]) rfl) _ h58) ?_
       rintro _ _ ⟨rfl, S⟩
       refine ⟨_, rfl, fun _ T => ?_⟩
       replace S : SL ([sl .ro ku8 A49 k50 x46.1.Value, sl .ro ku8 A47 k48 x46.1.Key, blk b51 [.slice A47 x46.1.Key.length k48, .slice A49 x46.1.Value.length k50], sl .own kapi_Value A37 k38 x36, (y3 A2 k3 x1), (y6 A4 k5 x1), (y4 A6 k7 x1), (y10 A9 k10 x8), (y7 A11 k12 x8), blk b13 (y0 x1 A2 k3 A4 k5 A6 k7), (y2 b14 A9 x8 k10 A11 k12), (y5 b28 A32 x30 k33), sl .ro ku8 A32 k33 x30.1.b, blk b35 [.slice A40 x39.length k41, .bool x42], sl .ro ku8 A40 k41 x39] ++ F) _ := S.join.only [0, 1, 1, 1, 1, 1, 1, 1, 1, 1, 1, 1, 1, 1, 1] rfl
       refine g_yes T rfl rfl h57 ?_
       refine r_pv T rfl rfl fun _ T => ?_
       refine r_pickF T rfl h57 rfl rfl fun _ T => ?_
       rcases ifE H with ⟨h60, H⟩ | ⟨h60, H⟩
       ·refine cdT T rfl h60 ?_
        refine Gets.seq ?_
        exact J1_ok F r z x1 A2 k3 A4 k5 A6 k7 x8 A9 k10 A11 k12 _ _ (T.sub trivial) (S.only (p := [(y3 A2 k3 x1), (y6 A4 k5 x1), (y4 A6 k7 x1), (y10 A9 k10 x8), (y7 A11 k12 x8)]) [4, 4, 4, 4, 4] rfl) H
       ·refine cdF T rfl h60 ?_
        refine Gets.skip (Gets.seq ?_)
        refine rg ?_
        refine r_pv T rfl rfl fun _ T => ?_
        refine r_pv T rfl rfl fun _ T => ?_
        refine r_pv T rfl rfl fun _ T => ?_
        replace H := Option.some.inj H
        subst H
        exact rtn T Tryd.func9 rfl rfl ⟨A37, k38, rfl, (S.only (p := [sl .own kapi_Value A37 k38 x36, (y3 A2 k3 x1), (y6 A4 k5 x1), (y4 A6 k7 x1), (y10 A9 k10 x8), (y7 A11 k12 x8)]) [3, 3, 3, 3, 3, 3] rfl)⟩
theorem ok (F : List Atom) (w : World) (z : Nat) (x1 : api_Table) (x8 : api_KV) {A2 : Option Addr} {k3 : Nat} {A4 : Option Addr} {k5 : Nat} {A6 : Option Addr} {k7 : Nat} {A9 : Option Addr} {k10 : Nat} {A11 : Option Addr} {k12 : Nat} (S : SL ([(y3 A2 k3 x1), (y6 A4 k5 x1), (y4 A6 k7 x1), (y10 A9 k10 x8), (y7 A11 k12 x8)] ++ F) w) (r : (List api_Value) × Int) (H : f z x1 x8 = some r) : Calls Tryd.prog 9 #[.agg #[.int .i64 x1.Id, .string x1.Name, .slice A2 x1.Columns.length k3, .slice A4 x1.Key.length k5, .slice A6 x1.Indexes.length k7], .agg #[.slice A9 x8.Key.length k10, .slice A11 x8.Value.length k12]] w (R F x1 A2 k3 A4 k5 A6 k7 x8 A9 k10 A11 k12 r) := by
 refine enter (vs := [.agg #[.int .i64 x1.Id, .string x1.Name, .slice A2 x1.Columns.length k3, .slice A4 x1.Key.length k5, .slice A6 x1.Indexes.length k7], .agg #[.slice A9 x8.Key.length k10, .slice A11 x8.Value.length k12]]) Tryd.func9 rfl Tryd.ntmps9 (Nat.le_of_ble_eq_true rfl) fun a T => ?_
 refine Gets.seq ?_
 refine rg ?_
 refine r_box T S rfl (cs := (y0 x1 A2 k3 A4 k5 A6 k7)) rfl rfl fun _ _ b13 S T => ?_
 refine r_box T S rfl (cs := [.slice A9 x8.Key.length k10, .slice A11 x8.Value.length k12]) rfl rfl fun _ _ b14 S T => ?_
 refine r_pv T rfl rfl fun _ T => ?_
 refine r_pv T rfl rfl fun _ T => ?_
 refine Gets.seq (Gets.seq ?_)
 refine rg ?_
 refine r_ldBA (ix := 1) (ds := (y0 x1 A2 k3 A4 k5 A6 k7)) T S rfl Tryd.isAgg26 rfl rfl Tryd.sizeOf26 rfl fun _ T => ?_
 refine r_fa (o' := 3) T rfl Tryd.runUnderlying26 rfl Tryd.sizeOf23 rfl rfl fun _ T => ?_
 refine r_ldB (ix := 1) T S rfl Tryd.isAgg23 rfl rfl rfl fun _ T => ?_
 replace S := S.dup (i := 2) rfl
 replace S := S.dup (i := 4) rfl
 replace S := S.dup (i := 6) rfl
 replace S := S.dup (i := 6) rfl
 obtain ⟨x16, h15, H⟩ := bd H
 refine r_call T Tryd.call23 rfl rfl (rowkey_tabled.ok _ _ z x1 x1.Key (S.sel (p := [(y3 A2 k3 x1), (y6 A4 k5 x1), (y4 A6 k7 x1), (y6 A4 k5 x1)]) (is := [3, 2, 1, 0]) rfl) _ h15) ?_
 rintro _ _ ⟨rfl, S⟩
 refine ⟨_, rfl, fun _ T => ?_⟩
 replace S : SL ([(y2 b14 A9 x8 k10 A11 k12), blk b13 (y0 x1 A2 k3 A4 k5 A6 k7), (y3 A2 k3 x1), (y6 A4 k5 x1), (y4 A6 k7 x1), (y10 A9 k10 x8), (y7 A11 k12 x8)] ++ F) _ := S.join.only [4, 4, 4, 4, 4, 4, 4] rfl
 refine r_pv T rfl rfl fun _ T => ?_
 rcases ifE H with ⟨h17, H⟩ | ⟨h17, H⟩
 ·refine cdT T rfl h17 ?_
  refine Gets.seq ?_
  refine rg ?_
  refine r_pv T rfl rfl fun _ T => ?_
  refine r_pv T rfl rfl fun _ T => ?_
  replace S := S.nil kapi_Value .own
  replace H := Option.some.inj H
  subst H
  exact rtn T Tryd.func9 rfl rfl ⟨none, 0, rfl, (S.only (p := [sl .own kapi_Value none 0 ([] : List api_Value), (y3 A2 k3 x1), (y6 A4 k5 x1), (y4 A6 k7 x1), (y10 A9 k10 x8), (y7 A11 k12 x8)]) [0, 2, 2, 2, 2, 2] rfl)⟩
 ·refine cdF T rfl h17 ?_
  refine Gets.skip (Gets.seq ?_)
  refine rg ?_
  refine r_fa (o' := 2) T rfl Tryd.runUnderlying26 rfl Tryd.sizeOf22 rfl rfl fun _ T => ?_
  refine r_ldB (ix := 1) T S rfl Tryd.isAgg22 rfl rfl rfl fun _ T => ?_
  refine r_lenS T rfl Tryd.runUnderlying22 rfl fun _ T => ?_
  obtain ⟨h18, H⟩ := ck H
  refine r_make (κ := kapi_Value) T S rfl rfl sty27 dapi_Value (fun _ => ⟨_, _, rfl, rfl, ⟨_, _, rfl, rfl, ⟨_, _, rfl, rfl, rfl⟩⟩⟩) h18.1 (Int.le_refl _) (by decide) (by have := h18.2.2; omega) rfl fun _ _ b19 S T => ?_
  replace T := T.re (s := 22) (v' := .slice (some ⟨b19, 0, none⟩) (List.replicate (Int.toNat (x1.Columns.length : Int)) dapi_Value).length (Int.toNat (x1.Columns.length : Int))) rfl (by simp)
  refine r_pv T rfl rfl fun _ T => ?_
  refine Gets.seq ?_
  refine rg ?_
  refine r_fa (o' := 0) T rfl Tryd.runUnderlying26 rfl Tryd.sizeOf3 rfl rfl fun _ T => ?_
  refine r_ldB (ix := 2) T S rfl Tryd.isAgg3 rfl rfl rfl fun _ T => ?_
  replace S := SL.val (κ := ki64) (x := x1.Id) (cs := [.int .i64 x1.Id]) (fun _ => rfl) S
  replace S := SL.val (κ := ki64) (x := 1) (cs := [.int .i64 1]) (fun _ => rfl) S
  refine r_bsl (κ := ki64) (xs := [x1.Id, 1]) (vs := [.int .i64 x1.Id, .int .i64 1]) T S sty23 rfl ⟨_, _, rfl, ⟨1, rfl⟩, ⟨_, _, rfl, ⟨0, rfl⟩, rfl⟩⟩ rfl (by decide) rfl fun _ _ b20 S T => ?_
  replace S : SL ([sl .own ki64 (some ⟨b20, 0, none⟩) 2 [x1.Id, 1], (y9 b19 x1), (y2 b14 A9 x8 k10 A11 k12), blk b13 (y0 x1 A2 k3 A4 k5 A6 k7), (y3 A2 k3 x1), (y6 A4 k5 x1), (y4 A6 k7 x1), (y10 A9 k10 x8), (y7 A11 k12 x8)] ++ F) _ := S.only [0, 2, 2, 2, 2, 2, 2, 2, 2] rfl
  obtain ⟨x22, h21, H⟩ := bd H
  refine r_call T Tryd.call26 rfl rfl (rowkey_begin.ok _ _ z [x1.Id, 1] (S.sel (p := [sl .own ki64 (some ⟨b20, 0, none⟩) 2 [x1.Id, 1]]) (is := [0]) rfl) _ h21) ?_
  rintro _ _ ⟨A23, k24, rfl, S⟩
  refine ⟨_, rfl, fun _ T => ?_⟩
  replace S : SL ([sl .own ku8 A23 k24 x22, sl .own ki64 (some ⟨b20, 0, none⟩) 2 [x1.Id, 1], (y9 b19 x1), (y2 b14 A9 x8 k10 A11 k12), blk b13 (y0 x1 A2 k3 A4 k5 A6 k7), (y3 A2 k3 x1), (y6 A4 k5 x1), (y4 A6 k7 x1), (y10 A9 k10 x8), (y7 A11 k12 x8)] ++ F) _ := S.join
  refine r_pv T rfl rfl fun _ T => ?_
  refine Gets.seq ?_
  refine rg ?_
  refine r_fa (o' := 0) T rfl Tryd.runUnderlying31 rfl Tryd.sizeOf29 rfl rfl fun _ T => ?_
  refine r_ldB (ix := 3) T S rfl Tryd.isAgg29 rfl rfl rfl fun _ T => ?_
  refine r_fa (o' := 0) T rfl Tryd.runUnderlying31 rfl Tryd.sizeOf29 rfl rfl fun _ T => ?_
  refine r_ldB (ix := 3) T S rfl Tryd.isAgg29 rfl rfl rfl fun _ T => ?_
  refine r_lenS T rfl Tryd.runUnderlying29 rfl fun _ T => ?_
  refine r_pv T rfl rfl fun _ T => ?_
  refine r_lenS T rfl Tryd.runUnderlying29 rfl fun _ T => ?_
  refine r_min T rfl rfl rfl fun _ T => ?_
  have h25 := S.len (i := 8) rfl
  obtain ⟨h26, H⟩ := ck H
  refine r_slR (ix := 8) (xs := x8.Key) T S rfl rfl (fun h => by cases h) rfl rfl rfl h26.1 h26.2 (Int.le_refl _) (by omega) (by omega) Tryd.runUnderlying29 Tryd.sizeOf5 rfl fun _ A27 S T => ?_
  refine r_build (cs := #[(y8 A27 x8 x22 k10), .bool false]) T stt69 rfl rfl rfl fun _ T => ?_
  refine r_box T S rfl (cs := [(y8 A27 x8 x22 k10), .bool false]) rfl rfl fun _ _ b28 S T => ?_
  refine r_pv T rfl rfl fun _ T => ?_
  refine Gets.seq ?_
  refine rg ?_
  refine r_pv T rfl rfl fun _ T => ?_
  refine r_ldBA (ix := 6) (ds := (y0 x1 A2 k3 A4 k5 A6 k7)) T S rfl Tryd.isAgg26 rfl rfl Tryd.sizeOf26 rfl fun _ T => ?_
  refine r_fa (o' := 3) T rfl Tryd.runUnderlying26 rfl Tryd.sizeOf23 rfl rfl fun _ T => ?_
  refine r_ldB (ix := 6) T S rfl Tryd.isAgg23 rfl rfl rfl fun _ T => ?_
  refine r_pv T rfl rfl fun _ T => ?_
  replace S := S.dup (i := 7) rfl
  replace S := S.dup (i := 9) rfl
  replace S := S.dup (i := 11) rfl
  replace S := S.dup (i := 11) rfl
  obtain ⟨x30, h29, H⟩ := bd H
  refine r_call T Tryd.call31 rfl rfl (rowkey_reader_keys.ok _ _ z (rowkey_reader.mk (cut x8.Key (Int.toNat (mn (x8.Key.length : Int) (x22.length : Int))) (Int.toNat (x8.Key.length : Int))) false) x1 x1.Key (List.replicate (Int.toNat (x1.Columns.length : Int)) dapi_Value) (S.sel (p := [blk b28 [(y8 A27 x8 x22 k10), .bool false], sl .ro ku8 A27 (Int.toNat (k10 : Int) - Int.toNat (mn (x8.Key.length : Int) (x22.length : Int))) (cut x8.Key (Int.toNat (mn (x8.Key.length : Int) (x22.length : Int))) (Int.toNat (x8.Key.length : Int))), (y3 A2 k3 x1), (y6 A4 k5 x1), (y4 A6 k7 x1), (y6 A4 k5 x1), (y9 b19 x1)]) (is := [4, 4, 3, 2, 1, 0, 2]) rfl) _ h29) ?_
  rintro _ _ ⟨A32, k33, rfl, S⟩
  refine ⟨_, rfl, fun _ T => ?_⟩
  replace S : SL ([(y5 b28 A32 x30 k33), sl .ro ku8 A32 k33 x30.1.b, sl .own kapi_Value (some ⟨b19, 0, none⟩) (Int.toNat (x1.Columns.length : Int)) x30.2, pr (x30.2.length = (List.replicate (Int.toNat (x1.Columns.length : Int)) dapi_Value).length), sl .own ku8 A23 k24 x22, sl .own ki64 (some ⟨b20, 0, none⟩) 2 [x1.Id, 1], (y2 b14 A9 x8 k10 A11 k12), blk b13 (y0 x1 A2 k3 A4 k5 A6 k7), (y3 A2 k3 x1), (y6 A4 k5 x1), (y4 A6 k7 x1), (y10 A9 k10 x8), (y7 A11 k12 x8)] ++ F) _ := S.join.only [0, 0, 4, 4, 4, 4, 4, 4, 4, 4, 4, 4, 4] rfl
  have h34 := (S.getp (i := 3) rfl)
  refine Gets.seq ?_
  refine rg ?_
  refine r_fa (o' := 1) T rfl Tryd.runUnderlying31 rfl Tryd.sizeOf29 rfl rfl fun _ T => ?_
  refine r_ldB (ix := 6) T S rfl Tryd.isAgg29 rfl rfl rfl fun _ T => ?_
  refine r_build (cs := #[.slice A11 x8.Value.length k12, .bool false]) T stt69 rfl rfl rfl fun _ T => ?_
  refine r_box T S rfl (cs := [.slice A11 x8.Value.length k12, .bool false]) rfl rfl fun _ _ b35 S T => ?_
  refine r_pv T rfl rfl fun _ T => ?_
  refine Gets.seq (Gets.seq ?_)
  refine rg ?_
  refine r_fa (o' := 2) T rfl Tryd.runUnderlying26 rfl Tryd.sizeOf22 rfl rfl fun _ T => ?_
  refine r_ldB (ix := 8) T S rfl Tryd.isAgg22 rfl rfl rfl fun _ T => ?_
  refine r_lenS T rfl Tryd.runUnderlying22 rfl fun _ T => ?_
  refine r_pv T rfl rfl fun _ T => ?_
  refine Gets.block ?_
  refine Gets.loop ?_
  have T := T.re (s := 6) (v' := .slice (some ⟨b19, 0, none⟩) x30.2.length (Int.toNat (x1.Columns.length : Int))) rfl (by rw [h34])
  replace S := S.dup (i := 13) rfl
  exact L0_ok F r z x1 A2 k3 A4 k5 A6 k7 x8 A9 k10 A11 k12 b13 b14 b28 b35 A32 x30 k33 z (some ⟨b19, 0, none⟩) x30.2 (Int.toNat (x1.Columns.length : Int)) 0 A11 x8.Value k12 false _ _ (T.sub ⟨rfl, rfl, rfl, rfl, rfl, rfl, rfl, rfl, trivial⟩) (S.only (p := [(y3 A2 k3 x1), (y6 A4 k5 x1), (y4 A6 k7 x1), (y10 A9 k10 x8), (y7 A11 k12 x8), blk b13 (y0 x1 A2 k3 A4 k5 A6 k7), (y2 b14 A9 x8 k10 A11 k12), sl .own kapi_Value (some ⟨b19, 0, none⟩) (Int.toNat (x1.Columns.length : Int)) x30.2, (y5 b28 A32 x30 k33), sl .ro ku8 A32 k33 x30.1.b, blk b35 [.slice A11 x8.Value.length k12, .bool false], (y7 A11 k12 x8)]) [10, 10, 10, 10, 10, 9, 8, 4, 2, 2, 1, 0] rfl) H
end rowkey_TakeRow
end Go.Proofs.YtohelmfkpmphoaaDoor
namespace Go.Proofs.YtohelmfkpmphoaaDoor
open Go Go.Proofs.YtohelmfkpmphoaaDoor.X
set_option linter.unusedVariables false
set_option linter.unusedSimpArgs false
theorem gi_set {α : Type} (d : α) (xs : List α) (n m : Int) (v : α) (hn : n.toNat < xs.length) : gi d (xs.set n.toNat v) m = if n.toNat = m.toNat then v else gi d xs m := by
 unfold gi
 rw [List.getElem?_set]
 by_cases e : n.toNat = m.toNat
 ·rw [if_pos e, if_pos e, if_pos hn]; rfl
 ·rw [if_neg e, if_neg e]
theorem gi0 (x : Int) (xs : List Int) : gi 0 (x :: xs) 0 = x := rfl
theorem cut1 (x : Int) (xs : List Int) : cut (x :: xs) (Int.toNat 1) (Int.toNat ((x :: xs).length : Int)) = xs := by
 rw [show Int.toNat ((x :: xs).length : Int) = (x :: xs).length by omega]
 show ((x :: xs).take (x :: xs).length).drop 1 = xs
 rw [List.take_length]; rfl
theorem cutD (xs : List Int) (n : Nat) : cut xs (Int.toNat (n : Int)) (Int.toNat (xs.length : Int)) = xs.drop n := by
 rw [show Int.toNat (xs.length : Int) = xs.length by omega, show Int.toNat (n : Int) = n by omega]
 exact cut_drop' xs n _ rfl
theorem empt {s : ByteArray} (h : s.size = 0) : s = (⟨#[]⟩ : ByteArray) := by
 cases s with
 | mk d =>
  have : d.size = 0 := h
  congr 1
  exact Array.eq_empty_of_size_eq_zero this
theorem byte_f (x : Int) (xs : List Int) (bad : Bool) : rowkey_reader_byte.f ⟨x :: xs, bad⟩ = some (x, ⟨xs, bad⟩) := by
 unfold rowkey_reader_byte.f
 dsimp only
 rw [if_n (by simp; omega), ck_y (by simp), ck_y (by simp; omega), cut1, gi0]
theorem went_f (xs : List Int) (bad : Bool) (n : Nat) (h : n ≤ xs.length) : rowkey_reader_went.f ⟨xs, bad⟩ (n : Int) 0 = some ⟨xs.drop n, bad⟩ := by
 unfold rowkey_reader_went.f rowkey_reader_went.J0 rowkey_reader_went.J1
 dsimp only
 rw [cutD]
 cases bad
 ·rw [if_f, if_y (by decide), ck_y (by omega)]; rfl
 ·rw [if_t, if_y (by decide), ck_y (by omega)]
section
variable {z : Nat} (hz : 16777216 ≤ z)
include hz
omit hz in
theorem okV.cases {v : api_Value} (h : okV v) : (v.Null = true ∧ v = ⟨v.Type', true, 0, ⟨#[]⟩⟩) ∨ (v.Null = false ∧ v.Type' = 1 ∧ v = ⟨1, false, v.Int, ⟨#[]⟩⟩) ∨ (v.Null = false ∧ v.Type' = 2 ∧ (v.Int = 0 ∨ v.Int = 1) ∧ v = ⟨2, false, v.Int, ⟨#[]⟩⟩) ∨ (v.Null = false ∧ v.Type' = 3 ∧ v = ⟨3, false, 0, v.Text⟩) := by
 obtain ⟨h1, h2, h3⟩ := h
 obtain ⟨_, q2, q3, q4, q5⟩ := of_decide_eq_true h3
 obtain ⟨ty, nl, n, s⟩ := v
 cases nl
 ·right
  dsimp only at *
  by_cases e1 : ty = 1
  ·left; subst e1; exact ⟨rfl, rfl, by rw [empt (q5 (by decide) (by decide))]⟩
  ·right
   by_cases e2 : ty = 2
   ·left; subst e2; exact ⟨rfl, rfl, (q4 rfl).2, by rw [empt (q4 rfl).1]⟩
   ·right
    have e3 : ty = 3 := by omega
    subst e3
    exact ⟨rfl, rfl, by rw [(q3 rfl).1]⟩
 ·left
  have := q2 rfl
  exact ⟨rfl, by dsimp only at *; rw [this.1, empt this.2]⟩
theorem value58_f {v : api_Value} (h : okV v) {rest : List Int} (hr : Bys rest) (hl : rest.length ≤ 1048576) (bad : Bool) : rowkey_reader_value_at58.f z ⟨keyV v ++ rest, bad⟩ v.Type' 2 = some (v, ⟨rest, bad⟩) := by
 unfold rowkey_reader_value_at58.f rowkey_reader_value_at58.J0
 rcases h.cases with ⟨hn, e⟩ | ⟨hn, ht, e⟩ | ⟨hn, ht, hi, e⟩ | ⟨hn, ht, e⟩
 ·have : keyV v = [2] := by simp [keyV, hn]
  rw [this, List.singleton_append, byte_f, bd_some]
  dsimp only
  rw [if_y (by decide), ← e]
 ·have : keyV v = 1 :: kI v.Int := by simp [keyV, hn, ht]
  rw [this, List.cons_append, byte_f, bd_some]
  dsimp only
  rw [if_n (by decide), if_y (by simpa using ht), TakeKeyInt_f hz h.1, bd_some]
  dsimp only
  rw [show (8 : Int) = ((8 : Nat) : Int) from rfl, went_f _ _ _ (by simp [kI_len]), bd_some, ht, ← e]
  have : (kI v.Int ++ rest).drop 8 = rest := List.drop_left' (kI_len _)
  rw [this]
 ·have : keyV v = [1, v.Int % 256] := by simp [keyV, hn, ht]
  rw [this]
  show Bd (rowkey_reader_byte.f ⟨1 :: (v.Int % 256 :: rest), bad⟩) _ = _
  rw [byte_f, bd_some]
  dsimp only
  rw [if_n (by decide), if_n (by rw [ht]; decide), if_y (by rw [ht]; decide), byte_f, bd_some]
  dsimp only
  rw [show v.Int % 256 = v.Int by omega, wI (by omega), ht, ← e]
 ·have hx := h.text ht
  have hsl := sbytes_len v.Text
  have : keyV v = 1 :: kT (sbytes v.Text) := by simp [keyV, hn, ht]
  rw [this, List.cons_append, byte_f, bd_some]
  dsimp only
  rw [if_n (by decide), if_n (by rw [ht]; decide), if_n (by rw [ht]; decide), TakeKeyText_f hz (sbytes_bys _) hx.2 hr (by simp [kT]; omega), bd_some]
  dsimp only
  rw [went_f _ _ _ (by simp [kT]), bd_some, bstr_sbytes, ht, ← e]
  have : (kT (sbytes v.Text) ++ rest).drop ((sbytes v.Text).length + 2) = rest := List.drop_left' (by simp [kT])
  rw [this]
theorem value33_f {v : api_Value} (h : okV v) {rest : List Int} (hr : Bys rest) (hl : rest.length ≤ 1048576) (bad : Bool) : rowkey_reader_value_at33.f z ⟨valV v ++ rest, bad⟩ v.Type' 0 = some (v, ⟨rest, bad⟩) := by
 unfold rowkey_reader_value_at33.f rowkey_reader_value_at33.J0
 rcases h.cases with ⟨hn, e⟩ | ⟨hn, ht, e⟩ | ⟨hn, ht, hi, e⟩ | ⟨hn, ht, e⟩
 ·have : valV v = [0] := by simp [valV, hn]
  rw [this, List.singleton_append, byte_f, bd_some]
  dsimp only
  rw [if_y (by decide), ← e]
 ·have : valV v = 1 :: kI v.Int := by simp [valV, keyV, hn, ht]
  rw [this, List.cons_append, byte_f, bd_some]
  dsimp only
  rw [if_n (by decide), if_y (by simpa using ht), TakeKeyInt_f hz h.1, bd_some]
  dsimp only
  rw [show (8 : Int) = ((8 : Nat) : Int) from rfl, went_f _ _ _ (by simp [kI_len]), bd_some, ht, ← e]
  have : (kI v.Int ++ rest).drop 8 = rest := List.drop_left' (kI_len _)
  rw [this]
 ·have : valV v = [1, v.Int % 256] := by simp [valV, keyV, hn, ht]
  rw [this]
  show Bd (rowkey_reader_byte.f ⟨1 :: (v.Int % 256 :: rest), bad⟩) _ = _
  rw [byte_f, bd_some]
  dsimp only
  rw [if_n (by decide), if_n (by rw [ht]; decide), if_y (by rw [ht]; decide), byte_f, bd_some]
  dsimp only
  rw [show v.Int % 256 = v.Int by omega, wI (by omega), ht, ← e]
 ·have hx := h.text ht
  have hsl := sbytes_len v.Text
  have htl := txt_len (s := sbytes v.Text) (by omega)
  have : valV v = 1 :: txt (sbytes v.Text) := by simp [valV, hn, ht]
  rw [this, List.cons_append, byte_f, bd_some]
  dsimp only
  rw [if_n (by decide), if_n (by rw [ht]; decide), if_n (by rw [ht]; decide), TakeText_f hz (by omega) (by simp; omega), bd_some]
  dsimp only
  rw [went_f _ _ _ (by simp), bd_some, bstr_sbytes, ht, ← e, List.drop_left' rfl]
end
def stK (row : List api_Value) (r : List api_Value) (n : Int) : List api_Value := r.set n.toNat (gi dapi_Value row n)
def setK (row : List api_Value) (l : List Int) (r : List api_Value) : List api_Value := l.foldl (stK row) r
theorem stK_len (row r : List api_Value) (n : Int) : (stK row r n).length = r.length := by simp [stK]
theorem setK_len (row : List api_Value) (l : List Int) : ∀ r, (setK row l r).length = r.length := by
 induction l with
 | nil => intro r; rfl
 | cons n l ih => intro r; show (setK row l (stK row r n)).length = _; rw [ih, stK_len]
theorem setK_gi (row : List api_Value) : ∀ (l : List Int) (r : List api_Value) (m : Int), (∀ n ∈ l, 0 ≤ n ∧ n < (r.length : Int)) → 0 ≤ m → (gi dapi_Value r m = gi dapi_Value row m ∨ m ∈ l) → gi dapi_Value (setK row l r) m = gi dapi_Value row m
 | [], r, m, _, _, h => h.elim id fun h => by cases h
 | n :: l, r, m, hl, hm, h => by
  show gi dapi_Value (setK row l (stK row r n)) m = _
  have hn := hl n (List.mem_cons_self ..)
  refine setK_gi row l (stK row r n) m (fun q hq => by rw [stK_len]; exact hl q (List.mem_cons_of_mem _ hq)) hm ?_
  have hs : gi dapi_Value (stK row r n) m = if n.toNat = m.toNat then gi dapi_Value row n else gi dapi_Value r m := gi_set _ _ _ _ _ (by omega)
  rw [hs]
  by_cases e : n = m
  ·subst e; left; rw [if_pos rfl]
  ·rw [if_neg (by omega)]
   rcases h with h | h
   ·exact .inl h
   ·rcases List.mem_cons.1 h with h | h
    ·exact absurd h.symm e
    ·exact .inr h
def tyAt (t : api_Table) (row : List api_Value) (n : Int) : Prop := (gi dapi_Column t.Columns n).Type' = (gi dapi_Value row n).Type'
theorem keysS_bys (row : List api_Value) (l : List Int) : Bys (keysS row l) := by
 induction l with
 | nil => exact Bys.nil
 | cons n l ih => rw [keysS_cons]; exact (keyV_bys _).app ih
theorem valsF_bys (t : api_Table) (row : List api_Value) : ∀ k i, Bys (valsF t row k i)
 | 0, _ => Bys.nil
 | k + 1, i => by
  rw [valsF]
  refine Bys.app ?_ (valsF_bys t row k (i + 1))
  split
  ·exact Bys.nil
  ·exact valV_bys _
section
variable {z : Nat} (hz : 16777216 ≤ z)
include hz
theorem keysRd_f {t : api_Table} {row : List api_Value} (hcl : t.Columns.length = row.length) {l : List Int} (hl : l.length ≤ 1048576) (h : ∀ n ∈ l, (0 ≤ n ∧ n < (row.length : Int)) ∧ okV (gi dapi_Value row n) ∧ tyAt t row n) (hk : (keysS row l).length ≤ 1048576) (bad : Bool) {r0 : List api_Value} (hr : r0.length = row.length) :
  rowkey_reader_keys.f z ⟨keysS row l, bad⟩ t l r0 = some (⟨[], bad⟩, setK row l r0) := by
 have key : ∀ (k m i : Nat) (r : List api_Value), l.length - i = k → i ≤ l.length → k < m → r.length = row.length → (keysS row (l.drop i)).length ≤ 1048576 → rowkey_reader_keys.L0 z t l m (i : Int) (keysS row (l.drop i)) bad r = some (⟨[], bad⟩, setK row (l.drop i) r) := by
  intro k
  induction k with
  | zero =>
   intro m i r h1 h2 h3 h4 h5
   obtain ⟨m, rfl⟩ : ∃ q, m = q + 1 := ⟨m - 1, by omega⟩
   rw [rowkey_reader_keys.L0, if_n (by simp; omega), List.drop_eq_nil_of_le (by omega)]
   rfl
  | succ k ih =>
   intro m i r h1 h2 h3 h4 h5
   obtain ⟨m, rfl⟩ : ∃ q, m = q + 1 := ⟨m - 1, by omega⟩
   have hi : i < l.length := by omega
   obtain ⟨q1, q2, q3⟩ := h l[i] (List.getElem_mem hi)
   rw [List.drop_eq_getElem_cons hi, keysS_cons] at h5 ⊢
   rw [List.length_append] at h5
   rw [rowkey_reader_keys.L0, if_y (by simp; omega), ck_y (by omega), gi_nat _ _ _ hi, ck_y (by omega), show (gi dapi_Column t.Columns l[i]).Type' = (gi dapi_Value row l[i]).Type' from q3, value58_f hz q2 (keysS_bys _ _) (by omega), bd_some]
   dsimp only
   rw [ck_y (by omega), wI (by omega)]
   exact ih m (i + 1) _ (by omega) (by omega) (by omega) (by simpa using h4) (by omega)
 have := key l.length z 0 r0 (by omega) (by omega) (by omega) hr (by simpa using hk)
 rw [List.drop_zero] at this
 exact this
structure LimKV (kv : api_KV) : Prop where
 key : kv.Key.length ≤ 1048576
 value : kv.Value.length ≤ 1048576
 kb : Bys kv.Key
 vb : Bys kv.Value
omit hz in
theorem RowS_bys (t : api_Table) (row : List api_Value) : Bys (RowS t row).1.Key ∧ Bys (RowS t row).1.Value := by
 unfold RowS
 split
 ·exact ⟨Bys.nil, Bys.nil⟩
 split
 ·exact ⟨Bys.nil, Bys.nil⟩
 split
 ·exact ⟨Bys.nil, Bys.nil⟩
 ·exact ⟨(headS_bys _).app (keysS_bys _ _), valsF_bys _ _ _ _⟩
omit hz in
theorem RowS_inv {t : api_Table} {row : List api_Value} {kv : api_KV} (h : RowS t row = (kv, 0)) : tabB t = true ∧ rowB t row = true ∧ kv.Key = headS t.Id ++ keysS row t.Key ∧ kv.Value = valsS t row ∧ kv.Key.length ≤ 256 ∧ kv.Value.length ≤ 65536 := by
 unfold RowS at h
 split at h
 ·cases h
 rename_i h1
 split at h
 ·cases h
 rename_i h2
 split at h
 ·cases h
 rename_i h3
 have := (Prod.mk.inj h).1
 subst this
 exact ⟨by simpa using h1, by simpa using h2, rfl, rfl, by dsimp only; omega, by dsimp only; omega⟩
omit hz in
theorem tyAt_of {t : api_Table} {row : List api_Value} (h : rowB t row = true) {n : Int} (hn : 0 ≤ n ∧ n < (row.length : Int)) : tyAt t row n := by
 obtain ⟨h1, h2⟩ := of_decide_eq_true h
 have hg := h2 n.toNat (by omega)
 unfold goodAt at hg
 rw [Bool.and_eq_true, show ((n.toNat : Nat) : Int) = n by omega] at hg
 exact (of_decide_eq_true hg.1).1.symm
omit hz in
theorem ext_gi {r row : List api_Value} (hl : r.length = row.length) (h : ∀ j : Nat, j < row.length → gi dapi_Value r (j : Int) = gi dapi_Value row (j : Int)) : r = row := by
 refine List.ext_getElem hl fun j h1 h2 => ?_
 have := h j h2
 rwa [gi_nat _ _ _ h1, gi_nat _ _ _ h2] at this
theorem TakeRow_f {t : api_Table} (ht : LimT t) {row : List api_Value} (hrow : LimR row) {kv : api_KV} (h : RowS t row = (kv, 0)) : rowkey_TakeRow.f z t kv = some (row, 0) := by
 obtain ⟨htab, hrb, hK, hV, hKl, hVl⟩ := RowS_inv h
 have hcols := ht.cols
 have hcl : row.length = t.Columns.length := (of_decide_eq_true hrb).1
 have hkey := key_ok htab hrow hrb
 have hok := rowB_ok htab hrow hrb
 have hlen : kv.Key.length = 17 + (keysS row t.Key).length := by rw [hK, List.length_append, headS_len]
 unfold rowkey_TakeRow.f
 rw [tabled_f hz ht.cols ht.key, bd_some, htab, Bool.not_true, if_f, ck_y (by omega), begin_f hz ht.id, bd_some, headS_len]
 have hmn : mn (kv.Key.length : Int) ((17 : Nat) : Int) = 17 := by unfold mn; split <;> omega
 rw [hmn, ck_y (by omega)]
 have hcut : cut kv.Key (Int.toNat 17) (Int.toNat (kv.Key.length : Int)) = keysS row t.Key := by
  rw [show Int.toNat (kv.Key.length : Int) = kv.Key.length by omega, show Int.toNat 17 = 17 from rfl, cut_drop' _ _ _ rfl, hK]
  exact List.drop_left' (headS_len _)
 rw [hcut, keysRd_f hz hcl.symm ht.key (fun n hn => ⟨(hkey n hn).1, (hkey n hn).2, tyAt_of hrb (hkey n hn).1⟩) (by omega) _ (by simp [hcl]), bd_some]
 dsimp only
 have key : ∀ (k m i : Nat) (r : List api_Value), row.length - i = k → i ≤ row.length → k < m → r.length = row.length → (∀ j : Nat, j < row.length → (j < i ∨ (j : Int) ∈ t.Key) → gi dapi_Value r (j : Int) = gi dapi_Value row (j : Int)) → (valsF t row k i).length ≤ 65536 → ∀ p : rowkey_reader × List api_Value, p.1.bad = false → rowkey_TakeRow.L0 z t kv p m r (i : Int) (valsF t row k i) false = some (row, 0) := by
  intro k
  induction k with
  | zero =>
   intro m i r h1 h2 h3 h4 h5 h6 p hp
   obtain ⟨m, rfl⟩ : ∃ q, m = q + 1 := ⟨m - 1, by omega⟩
   have : r = row := ext_gi h4 fun j hj => h5 j hj (.inl (by omega))
   subst this
   rw [rowkey_TakeRow.L0, if_n (by simp; omega), Row_f hz ht hrow, bd_some, h, hp, if_f, if_f, if_n (by rfl)]
   have hb := RowS_bys t r
   rw [h] at hb
   rw [Equal_f hb.1 hb.1, bd_some, if_n (by simp), Equal_f hb.2 hb.2, bd_some, if_n (by simp)]
  | succ k ih =>
   intro m i r h1 h2 h3 h4 h5 h6 p hp
   obtain ⟨m, rfl⟩ : ∃ q, m = q + 1 := ⟨m - 1, by omega⟩
   have hi : i < row.length := by omega
   rw [rowkey_TakeRow.L0, if_y (by simp; omega), ck_y (by omega), Contains_f hz ht.key, bd_some]
   unfold rowkey_TakeRow.J2
   rw [wI (by omega)]
   rw [valsF] at h6 ⊢
   rw [List.length_append] at h6
   by_cases c : (i : Int) ∈ t.Key
   ·rw [if_n (by simpa using c), if_pos c]
    exact ih m (i + 1) r (by omega) (by omega) (by omega) h4 (fun j hj hq => h5 j hj (by
     by_cases e : j = i
     ·subst e; exact .inr c
     ·exact hq.imp (fun q => by omega) id)) (by omega) p hp
   ·rw [if_neg c] at h6
    rw [if_y (by simpa using c), if_neg c, show (gi dapi_Column t.Columns (i : Int)).Type' = (gi dapi_Value row (i : Int)).Type' from tyAt_of hrb (by omega), value33_f hz (hok i hi) (valsF_bys _ _ _ _) (by omega), bd_some]
    dsimp only
    rw [ck_y (by omega)]
    refine ih m (i + 1) _ (by omega) (by omega) (by omega) (by simpa using h4) (fun j hj hq => ?_) (by omega) p hp
    rw [gi_set _ _ _ _ _ (by omega)]
    by_cases e : j = i
    ·subst e; rw [if_pos rfl]
    ·rw [if_neg (by omega)]
     exact h5 j hj (hq.imp (fun q => by omega) id)
 have := key row.length z 0 (setK row t.Key (List.replicate (Int.toNat (t.Columns.length : Int)) dapi_Value)) (by omega) (by omega) (by have := hrow.1; omega) (by rw [setK_len]; simp [hcl]) (fun j hj hq => setK_gi row _ _ _ (fun n hn => by have := (hkey n hn).1; simp; omega) (by omega) (.inr (hq.resolve_left (by omega)))) (by have : valsS t row = valsF t row row.length 0 := rfl; rw [← this, ← hV]; exact hVl) (⟨[], false⟩, setK row t.Key (List.replicate (Int.toNat (t.Columns.length : Int)) dapi_Value)) rfl
 rw [hV]
 exact this
end
end Go.Proofs.YtohelmfkpmphoaaDoor
namespace Go.Proofs.YtohelmfkpmphoaaDoor
open Go Go.Proofs.YtohelmfkpmphoaaDoor.X
set_option linter.unusedVariables false
set_option linter.unusedSimpArgs false
set_option maxRecDepth 100000
set_option maxHeartbeats 4000000
namespace cormorantlaw20_sameValues
noncomputable def c0 : Code := match Tryd.f10.body with | some c => c | none => .skip
def R (F : List Atom) (x1 : List api_Value) (A2 : Option Addr) (k3 : Nat) (m4 : Md) (x5 : List api_Value) (A6 : Option Addr) (k7 : Nat) (m8 : Md) (r : Bool) : Ending → World → Prop := fun e w' => e = .returned (.bool r) ∧ SL ([sl m4 kapi_Value A2 k3 x1, sl m8 kapi_Value A6 k7 x5] ++ F) w'
def L0 (z : Nat) (x1 : List api_Value) (x5 : List api_Value) : Nat → Int → Option Bool
 | 0, _ => none
 | m + 1, x10 => If (decide (x10 < (x1.length : Int))) (Ck (0 ≤ x10 ∧ x10 < (x1.length : Int)) (Ck (x10 < (x5.length : Int)) (If (!(eqapi_Value (gi dapi_Value x1 x10) (gi dapi_Value x5 x10))) (some false) (L0 z x1 x5 m (wr .i64 (x10 + 1)))))) (some true)
def f (z : Nat) (x1 : List api_Value) (x5 : List api_Value) : Option Bool := If ((x1.length : Int) != (x5.length : Int)) (some false) (L0 z x1 x5 z 0)
noncomputable def ptL0 : List Item := [.code (cB (cB (cR (cL (cR (cR c0)))))), .inLoop (cB (cB (cR (cL (cR (cR c0)))))), .inBlock 0, .code (cR (cR (cR c0)))]
theorem L0_ok (F : List Atom) (r : Bool) (z : Nat) (x1 : List api_Value) (A2 : Option Addr) (k3 : Nat) (m4 : Md) (x5 : List api_Value) (A6 : Option Addr) (k7 : Nat) (m8 : Md) (m : Nat) : ∀ (x10 : Int) (a : Act) (w : World), Tm 26 [(0, .slice A2 x1.length k3), (1, .slice A6 x5.length k7), (5, .int .i64 x10)] a → SL ([sl m4 kapi_Value A2 k3 x1, sl m8 kapi_Value A6 k7 x5] ++ F) w → L0 z x1 x5 m x10 = some r → Gets Tryd.prog 10 ptL0 a w (R F x1 A2 k3 m4 x5 A6 k7 m8 r) := by
 induction m with
 | zero => intro _ _ _ _ _ H; cases H
 | succ m ih =>
  intro x10 a w T S H
  refine Gets.seq ?_
  refine Gets.seq ?_
  refine rg ?_
  refine r_pv T rfl rfl fun _ T => ?_
  refine r_pv T rfl rfl fun _ T => ?_
  refine r_lenS T rfl Tryd.runUnderlying27 rfl fun _ T => ?_
  refine r_pv T rfl rfl fun _ T => ?_
  rcases ifE H with ⟨h11, H⟩ | ⟨h11, H⟩
  ·refine cdT T rfl h11 ?_
   refine Gets.skip (Gets.seq (Gets.block (Gets.seq ?_)))
   obtain ⟨h2121, H⟩ := ck H
   obtain ⟨h2361, H⟩ := ck H
   refine Gets.drawn (l := [sl m4 kapi_Value A2 k3 x1, sl m8 kapi_Value A6 k7 x5]) (V := [some (.slice A2 x1.length k3, true), some (.int .i64 x10, true), some (.pointer (some (eA A2 (Int.toNat x10 * 4))), true), some (.agg #[.int .i64 ((gi dapi_Value x1 x10).Type'), .bool ((gi dapi_Value x1 x10).Null), .int .i64 ((gi dapi_Value x1 x10).Int), .string ((gi dapi_Value x1 x10).Text)], true), some (.slice A6 x5.length k7, true), some (.int .i64 x10, true), some (.pointer (some (eA A6 (Int.toNat x10 * 4))), true), some (.agg #[.int .i64 ((gi dapi_Value x5 x10).Type'), .bool ((gi dapi_Value x5 x10).Null), .int .i64 ((gi dapi_Value x5 x10).Int), .string ((gi dapi_Value x5 x10).Text)], true), some (.bool (!(eqapi_Value (gi dapi_Value x1 x10) (gi dapi_Value x5 x10))), true)]) mixed T S rfl ?_
   refine stage none rfl rfl ⟨⟨_, [(0, _)], rfl, ⟨.inr ⟨rfl, rfl⟩, trivial⟩, fun _ _ _ T S => r_pv T rfl rfl fun _ T => ⟨rfl, T⟩⟩, ⟨_, [(5, _)], rfl, ⟨.inr ⟨rfl, rfl⟩, trivial⟩, fun _ _ _ T S => r_pv T rfl rfl fun _ T => ⟨rfl, T⟩⟩, ⟨_, [(17, _), (18, _)], rfl, ⟨.inl ⟨0, rfl, rfl, rfl, rfl⟩, .inl ⟨1, rfl, rfl, rfl, rfl⟩, trivial⟩, fun _ _ _ T S => r_ia (ix := 0) T S rfl rfl rfl rfl Tryd.runUnderlying27 Tryd.sizeOf43 h2121.1 h2121.2 rfl fun _ T => ⟨rfl, T⟩⟩, ⟨_, [(19, _)], rfl, ⟨.inl ⟨2, rfl, rfl, rfl, rfl⟩, trivial⟩, fun _ _ _ T S => r_ldEP (ix := 0) (i := x10) (off := 0) (f := pf_api_Value) T S rfl rfl Tryd.isAgg43 Tryd.sizeOf43 dapi_Value rfl (Fld.all _) h2121.1 h2121.2 pl_api_Value rfl fun _ T => ⟨rfl, T⟩⟩, ⟨_, [(1, _)], rfl, ⟨.inr ⟨rfl, rfl⟩, trivial⟩, fun _ _ _ T S => r_pv T rfl rfl fun _ T => ⟨rfl, T⟩⟩, ⟨_, [(5, _)], rfl, ⟨.inr ⟨rfl, rfl⟩, trivial⟩, fun _ _ _ T S => r_pv T rfl rfl fun _ T => ⟨rfl, T⟩⟩, ⟨_, [(21, _), (22, _)], rfl, ⟨.inl ⟨4, rfl, rfl, rfl, rfl⟩, .inl ⟨5, rfl, rfl, rfl, rfl⟩, trivial⟩, fun _ _ _ T S => r_ia (ix := 1) T S rfl rfl rfl rfl Tryd.runUnderlying27 Tryd.sizeOf43 h2121.1 h2361 rfl fun _ T => ⟨rfl, T⟩⟩, ⟨_, [(23, _)], rfl, ⟨.inl ⟨6, rfl, rfl, rfl, rfl⟩, trivial⟩, fun _ _ _ T S => r_ldEP (ix := 1) (i := x10) (off := 0) (f := pf_api_Value) T S rfl rfl Tryd.isAgg43 Tryd.sizeOf43 dapi_Value rfl (Fld.all _) h2121.1 h2361 pl_api_Value rfl fun _ T => ⟨rfl, T⟩⟩, ⟨_, [(20, _), (24, _)], rfl, ⟨.inl ⟨3, rfl, rfl, rfl, rfl⟩, .inl ⟨7, rfl, rfl, rfl, rfl⟩, trivial⟩, fun _ _ _ T S => r_neA (u := [.int .i64 ((gi dapi_Value x1 x10).Type'), .bool ((gi dapi_Value x1 x10).Null), .int .i64 ((gi dapi_Value x1 x10).Int), .string ((gi dapi_Value x1 x10).Text)]) (v := [.int .i64 ((gi dapi_Value x5 x10).Type'), .bool ((gi dapi_Value x5 x10).Null), .int .i64 ((gi dapi_Value x5 x10).Int), .string ((gi dapi_Value x5 x10).Text)]) T rfl rfl (fun _ => seg43 _ _ _ _ _ _) (fun w => seq43 (gi dapi_Value x1 x10) (gi dapi_Value x5 x10) w) rfl fun _ T => ⟨rfl, T⟩⟩, trivial⟩ rfl (fun i hi => by cases hi) (fun _ _ a w T hv hb S => ?_)
   replace T := T.sub (r := [(0, .slice A2 x1.length k3), (1, .slice A6 x5.length k7), (5, .int .i64 x10), (25, .bool (!(eqapi_Value (gi dapi_Value x1 x10) (gi dapi_Value x5 x10))))]) ⟨hb 0 _ rfl rfl, hb 1 _ rfl rfl, hb 5 _ rfl rfl, hv 8 _ 25 rfl rfl rfl, trivial⟩
   rcases ifE H with ⟨h12, H⟩ | ⟨h12, H⟩
   ·refine cdT T rfl h12 ?_
    refine Gets.seq ?_
    refine rg ?_
    refine r_pv T rfl rfl fun _ T => ?_
    replace H := Option.some.inj H
    subst H
    exact rtn T Tryd.func10 rfl rfl ⟨rfl, (S.only (p := [sl m4 kapi_Value A2 k3 x1, sl m8 kapi_Value A6 k7 x5]) [0, 0] rfl)⟩
   ·refine cdF T rfl h12 ?_
    refine Gets.skip (Gets.inBlock ?_)
    refine rg ?_
    refine r_pv T rfl rfl fun _ T => ?_
    refine r_pv T rfl rfl fun _ T => ?_
    refine r_pv T rfl rfl fun _ T => ?_
    refine Gets.inLoop ?_
    exact ih (wr .i64 (x10 + 1)) _ _ (T.sub ⟨rfl, rfl, rfl, trivial⟩) (S.only (p := [sl m4 kapi_Value A2 k3 x1, sl m8 kapi_Value A6 k7 x5]) [0, 0] rfl) H
  ·refine cdF T rfl h11 ?_
   refine Gets.exit rfl (Gets.seq ?_)
   refine rg ?_
   refine r_pv T rfl rfl fun _ T => ?_
   replace H := Option.some.inj H
   subst H
   exact rtn T Tryd.func10 rfl rfl ⟨rfl, (S.only (p := [sl m4 kapi_Value A2 k3 x1, sl m8 kapi_Value A6 k7 x5]) [0, 0] rfl)⟩
theorem ok (F : List Atom) (w : World) (z : Nat) (x1 : List api_Value) (x5 : List api_Value) {A2 : Option Addr} {k3 : Nat} {m4 : Md} {A6 : Option Addr} {k7 : Nat} {m8 : Md} (S : SL ([sl m4 kapi_Value A2 k3 x1, sl m8 kapi_Value A6 k7 x5] ++ F) w) (r : Bool) (H : f z x1 x5 = some r) : Calls Tryd.prog 10 #[.slice A2 x1.length k3, .slice A6 x5.length k7] w (R F x1 A2 k3 m4 x5 A6 k7 m8 r) := by
 refine enter (vs := [.slice A2 x1.length k3, .slice A6 x5.length k7]) Tryd.func10 rfl Tryd.ntmps10 (Nat.le_of_ble_eq_true rfl) fun a T => ?_
 refine Gets.seq ?_
 refine rg ?_
 refine r_pv T rfl rfl fun _ T => ?_
 refine Gets.seq (Gets.seq ?_)
 refine rg ?_
 refine r_pv T rfl rfl fun _ T => ?_
 refine r_lenS T rfl Tryd.runUnderlying27 rfl fun _ T => ?_
 refine r_pv T rfl rfl fun _ T => ?_
 refine r_lenS T rfl Tryd.runUnderlying27 rfl fun _ T => ?_
 refine r_pv T rfl rfl fun _ T => ?_
 rcases ifE H with ⟨h9, H⟩ | ⟨h9, H⟩
 ·refine cdT T rfl h9 ?_
  refine Gets.seq ?_
  refine rg ?_
  refine r_pv T rfl rfl fun _ T => ?_
  replace H := Option.some.inj H
  subst H
  exact rtn T Tryd.func10 rfl rfl ⟨rfl, (S.only (p := [sl m4 kapi_Value A2 k3 x1, sl m8 kapi_Value A6 k7 x5]) [0, 0] rfl)⟩
 ·refine cdF T rfl h9 ?_
  refine Gets.skip (Gets.seq (Gets.seq ?_))
  refine rg ?_
  refine r_pv T rfl rfl fun _ T => ?_
  refine Gets.block ?_
  refine Gets.loop ?_
  exact L0_ok F r z x1 A2 k3 m4 x5 A6 k7 m8 z 0 _ _ (T.sub ⟨rfl, rfl, rfl, trivial⟩) (S.only (p := [sl m4 kapi_Value A2 k3 x1, sl m8 kapi_Value A6 k7 x5]) [0, 0] rfl) H
end cormorantlaw20_sameValues
end Go.Proofs.YtohelmfkpmphoaaDoor
namespace Go.Proofs.YtohelmfkpmphoaaDoor
open Go Go.Proofs.YtohelmfkpmphoaaDoor.X
set_option linter.unusedVariables false
set_option linter.unusedSimpArgs false
set_option maxRecDepth 100000
set_option maxHeartbeats 4000000
namespace cormorantlaw20_made
def R (F : List Atom) (r : api_Table) : Ending → World → Prop := fun e w' => ∃ (A6 : Option Addr), ∃ (k7 : Nat), ∃ (A8 : Option Addr), ∃ (k9 : Nat), ∃ (A10 : Option Addr), ∃ (k11 : Nat), e = .returned (.agg #[.int .i64 r.Id, .string r.Name, .slice A6 r.Columns.length k7, .slice A8 r.Key.length k9, .slice A10 r.Indexes.length k11]) ∧ SL ([sl .ro kapi_Column A6 k7 r.Columns, sl .ro ki64 A8 k9 r.Key, sl .ro kapi_Index A10 k11 r.Indexes] ++ F) w'
def f : Option api_Table := some (api_Table.mk 1 (⟨#[116]⟩ : ByteArray) [(api_Column.mk (⟨#[97]⟩ : ByteArray) 1 true (api_Value.mk 0 false 0 (⟨#[]⟩ : ByteArray))), (api_Column.mk (⟨#[98]⟩ : ByteArray) 3 false (api_Value.mk 0 false 0 (⟨#[]⟩ : ByteArray)))] [0] [(api_Index.mk 2 (⟨#[]⟩ : ByteArray) [1] false)])
abbrev y0 (b2 : Nat) : Atom := sl .own kapi_Column (some ⟨b2, 0, none⟩) 2 [(api_Column.mk (⟨#[97]⟩ : ByteArray) 1 true (api_Value.mk 0 false 0 (⟨#[]⟩ : ByteArray))), (api_Column.mk (⟨#[98]⟩ : ByteArray) 3 false (api_Value.mk 0 false 0 (⟨#[]⟩ : ByteArray)))]
abbrev y1 : List Value := [.int .i64 0, .string (⟨#[]⟩ : ByteArray), .slice none 0 0, .slice none 0 0, .slice none 0 0]
abbrev y2 (b2 : Nat) : Atom := sl .ro kapi_Column (some ⟨b2, 0, none⟩) 2 [(api_Column.mk (⟨#[97]⟩ : ByteArray) 1 true (api_Value.mk 0 false 0 (⟨#[]⟩ : ByteArray))), (api_Column.mk (⟨#[98]⟩ : ByteArray) 3 false (api_Value.mk 0 false 0 (⟨#[]⟩ : ByteArray)))]
abbrev y3 (b2 : Nat) (b3 : Nat) (b5 : Nat) : List Value := [.int .i64 1, .string (⟨#[116]⟩ : ByteArray), .slice (some ⟨b2, 0, none⟩) 2 2, .slice (some ⟨b3, 0, none⟩) 1 1, .slice (some ⟨b5, 0, none⟩) 1 1]
abbrev y4 : api_Index := (api_Index.mk 2 (⟨#[]⟩ : ByteArray) [1] false)
abbrev y5 : Value := .string (⟨#[]⟩ : ByteArray)
abbrev y6 : Atom := rp kapi_Column (api_Column.mk (⟨#[97]⟩ : ByteArray) 1 true (api_Value.mk 0 false 0 (⟨#[]⟩ : ByteArray))) [.string (⟨#[97]⟩ : ByteArray), .int .i64 1, .bool true, .int .i64 0, .bool false, .int .i64 0, (y5)]
abbrev y7 (b3 : Nat) : Atom := sl .own ki64 (some ⟨b3, 0, none⟩) 1 [0]
abbrev y8 (b4 : Nat) : Atom := sl .ro ki64 (some ⟨b4, 0, none⟩) 1 [1]
theorem ok (F : List Atom) (w : World) (S : SL ([] ++ F) w) (r : api_Table) (H : f  = some r) : Calls Tryd.prog 12 #[] w (R F r) := by
 refine enter (vs := []) Tryd.func12 rfl Tryd.ntmps12 (Nat.le_of_ble_eq_true rfl) fun a T => ?_
 refine Gets.seq ?_
 refine rg ?_
 refine r_alloc T S zv26 (cs := (y1)) rfl rfl fun _ _ b1 S T => ?_
 refine Gets.seq ?_
 refine rg ?_
 refine r_build (cs := #[.string (⟨#[97]⟩ : ByteArray), .int .i64 1, .bool true, .int .i64 0, .bool false, .int .i64 0, (y5)]) T stt72 rfl rfl rfl fun _ T => ?_
 refine r_build (cs := #[.string (⟨#[98]⟩ : ByteArray), .int .i64 3, .bool false, .int .i64 0, .bool false, .int .i64 0, (y5)]) T stt72 rfl rfl rfl fun _ T => ?_
 replace S : SL ([(y6), blk b1 (y1)] ++ F) _ := cl_api_Column  S 
 replace S : SL ([rp kapi_Column (api_Column.mk (⟨#[98]⟩ : ByteArray) 3 false (api_Value.mk 0 false 0 (⟨#[]⟩ : ByteArray))) [.string (⟨#[98]⟩ : ByteArray), .int .i64 3, .bool false, .int .i64 0, .bool false, .int .i64 0, (y5)], (y6), blk b1 (y1)] ++ F) _ := cl_api_Column  S 
 refine r_bsl (κ := kapi_Column) (xs := [(api_Column.mk (⟨#[97]⟩ : ByteArray) 1 true (api_Value.mk 0 false 0 (⟨#[]⟩ : ByteArray))), (api_Column.mk (⟨#[98]⟩ : ByteArray) 3 false (api_Value.mk 0 false 0 (⟨#[]⟩ : ByteArray)))]) (vs := [.agg #[.string (⟨#[97]⟩ : ByteArray), .int .i64 1, .bool true, .int .i64 0, .bool false, .int .i64 0, (y5)], .agg #[.string (⟨#[98]⟩ : ByteArray), .int .i64 3, .bool false, .int .i64 0, .bool false, .int .i64 0, (y5)]]) T S sty22 rfl ⟨_, _, rfl, ⟨1, rfl⟩, ⟨_, _, rfl, ⟨0, rfl⟩, rfl⟩⟩ rfl (by decide) rfl fun _ _ b2 S T => ?_
 replace S : SL ([(y0 b2), blk b1 (y1)] ++ F) _ := S.only [0, 2] rfl
 replace S := SL.val (κ := ki64) (x := 0) (cs := [.int .i64 0]) (fun _ => rfl) S
 refine r_bsl (κ := ki64) (xs := [0]) (vs := [.int .i64 0]) T S sty23 rfl ⟨_, _, rfl, ⟨0, rfl⟩, rfl⟩ rfl (by decide) rfl fun _ _ b3 S T => ?_
 replace S : SL ([(y7 b3), (y0 b2), blk b1 (y1)] ++ F) _ := S.only [0, 1, 1] rfl
 replace S := SL.val (κ := ki64) (x := 1) (cs := [.int .i64 1]) (fun _ => rfl) S
 refine r_bsl (κ := ki64) (xs := [1]) (vs := [.int .i64 1]) T S sty23 rfl ⟨_, _, rfl, ⟨0, rfl⟩, rfl⟩ rfl (by decide) rfl fun _ _ b4 S T => ?_
 replace S : SL ([sl .own ki64 (some ⟨b4, 0, none⟩) 1 [1], (y7 b3), (y0 b2), blk b1 (y1)] ++ F) _ := S.only [0, 1, 1, 1] rfl
 refine r_build (cs := #[.int .i64 2, (y5), .slice (some ⟨b4, 0, none⟩) 1 1, .bool false]) T stt46 rfl rfl rfl fun _ T => ?_
 replace S : SL ([(y8 b4), (y7 b3), (y0 b2), blk b1 (y1)] ++ F) _ := S.fixL (i := 0) rfl rfl
 replace S : SL ([rp kapi_Index (y4) [.int .i64 2, (y5), .slice (some ⟨b4, 0, none⟩) 1 1, .bool false], (y8 b4), (y7 b3), (y0 b2), blk b1 (y1)] ++ F) _ := cl_api_Index (i0 := 0) S rfl
 refine r_bsl (κ := kapi_Index) (xs := [(y4)]) (vs := [.agg #[.int .i64 2, (y5), .slice (some ⟨b4, 0, none⟩) 1 1, .bool false]]) T S sty24 rfl ⟨_, _, rfl, ⟨0, rfl⟩, rfl⟩ rfl (by decide) rfl fun _ _ b5 S T => ?_
 replace S : SL ([sl .own kapi_Index (some ⟨b5, 0, none⟩) 1 [(y4)], (y8 b4), (y7 b3), (y0 b2), blk b1 (y1)] ++ F) _ := S.only [0, 1, 1, 1, 1] rfl
 refine r_build (cs := #[.int .i64 1, .string (⟨#[116]⟩ : ByteArray), .slice (some ⟨b2, 0, none⟩) 2 2, .slice (some ⟨b3, 0, none⟩) 1 1, .slice (some ⟨b5, 0, none⟩) 1 1]) T stt26 rfl rfl rfl fun _ T => ?_
 refine r_stBA (ix := 4) (vs := (y3 b2 b3 b5)) (l' := [sl .own kapi_Index (some ⟨b5, 0, none⟩) 1 [(y4)], (y8 b4), (y7 b3), (y0 b2), blk b1 (y3 b2 b3 b5)]) T S rfl rfl rfl rfl (by simp) Tryd.sizeOf26 (Nat.le_of_ble_eq_true rfl) rfl fun _ S => ?_
 replace S : SL ([sl .own kapi_Index (some ⟨b5, 0, none⟩) 1 [(y4)], (y8 b4), (y7 b3), (y2 b2), blk b1 (y3 b2 b3 b5)] ++ F) _ := S.fixL (i := 3) rfl rfl
 replace S : SL ([sl .own kapi_Index (some ⟨b5, 0, none⟩) 1 [(y4)], (y8 b4), sl .ro ki64 (some ⟨b3, 0, none⟩) 1 [0], (y2 b2), blk b1 (y3 b2 b3 b5)] ++ F) _ := S.fixL (i := 2) rfl rfl
 replace S : SL ([sl .ro kapi_Index (some ⟨b5, 0, none⟩) 1 [(y4)], (y8 b4), sl .ro ki64 (some ⟨b3, 0, none⟩) 1 [0], (y2 b2), blk b1 (y3 b2 b3 b5)] ++ F) _ := S.fixL (i := 0) rfl rfl
 replace H := Option.some.inj H
 subst H
 exact rtnM T S Tryd.func12 rfl ⟨_, _, rfl, ⟨b1, _, 4, rfl, rfl, .inl ⟨Tryd.isAgg26, Tryd.sizeOf26, rfl⟩⟩, rfl⟩ ⟨(some ⟨b2, 0, none⟩), 2, (some ⟨b3, 0, none⟩), 1, (some ⟨b5, 0, none⟩), 1, rfl, (S.only (p := [(y2 b2), sl .ro ki64 (some ⟨b3, 0, none⟩) 1 [0], sl .ro kapi_Index (some ⟨b5, 0, none⟩) 1 [(y4)]]) [3, 2, 0] rfl)⟩
end cormorantlaw20_made
end Go.Proofs.YtohelmfkpmphoaaDoor
namespace Go.Proofs.YtohelmfkpmphoaaDoor
open Go Go.Proofs.YtohelmfkpmphoaaDoor.X
set_option linter.unusedVariables false
set_option linter.unusedSimpArgs false
set_option maxRecDepth 100000
set_option maxHeartbeats 4000000
namespace rowkey_Entry
def R (F : List Atom) (x1 : api_Table) (A2 : Option Addr) (k3 : Nat) (A4 : Option Addr) (k5 : Nat) (A6 : Option Addr) (k7 : Nat) (x8 : api_Index) (A9 : Option Addr) (k10 : Nat) (x11 : List api_Value) (A12 : Option Addr) (k13 : Nat) (m14 : Md) (r : api_KV × Int) : Ending → World → Prop := fun e w' => ∃ (A25 : Option Addr), ∃ (k26 : Nat), ∃ (A27 : Option Addr), ∃ (k28 : Nat), e = .returned (.tuple #[.agg #[.slice A25 r.1.Key.length k26, .slice A27 r.1.Value.length k28], .int .i64 r.2]) ∧ SL ([sl .ro ku8 A25 k26 r.1.Key, sl .ro ku8 A27 k28 r.1.Value, sl .ro kapi_Column A2 k3 x1.Columns, sl .ro ki64 A4 k5 x1.Key, sl .ro kapi_Index A6 k7 x1.Indexes, sl .ro ki64 A9 k10 x8.Columns, sl m14 kapi_Value A12 k13 x11] ++ F) w'
def f (z : Nat) (x1 : api_Table) (x8 : api_Index) (x11 : List api_Value) : Option (api_KV × Int) := Bd (rowkey_tabled.f z x1 x8.Columns) fun x19 => If (!x19) (some ((api_KV.mk ([] : List Int) ([] : List Int)), 1)) (Bd (rowkey_rowed.f z x1 x11) fun x22 => If (!x22) (some ((api_KV.mk ([] : List Int) ([] : List Int)), 200)) (Bd (rowkey_begin.f z [x1.Id, x8.Id]) fun x2302 => Bd (rowkey_columns.f z x11 x8.Columns) fun x2542 => Bd (rowkey_columns.f z x11 x1.Key) fun x2782 => Bd (slices_Concat_byte.f z [x2302, x2542, x2782]) fun x2902 => If (decide ((x2902.length : Int) > 256)) (some ((api_KV.mk ([] : List Int) ([] : List Int)), 201)) (some ((api_KV.mk x2902 ([] : List Int)), 0))))
abbrev y0 (x1 : api_Table) (A2 : Option Addr) (k3 : Nat) (A4 : Option Addr) (k5 : Nat) (A6 : Option Addr) (k7 : Nat) : List Value := [.int .i64 x1.Id, .string x1.Name, .slice A2 x1.Columns.length k3, .slice A4 x1.Key.length k5, .slice A6 x1.Indexes.length k7]
abbrev y1 (b16 : Nat) (x8 : api_Index) (A9 : Option Addr) (k10 : Nat) : Atom := blk b16 [.int .i64 x8.Id, .string x8.Name, .slice A9 x8.Columns.length k10, .bool x8.Unique]
abbrev y2 : List Value := [.slice none 0 0, .slice none 0 0]
abbrev y3 (b2241 : Nat) (x1 : api_Table) (x8 : api_Index) : Atom := sl .own ki64 (some ⟨b2241, 0, none⟩) 2 [x1.Id, x8.Id]
abbrev y4 (A2 : Option Addr) (k3 : Nat) (x1 : api_Table) : Atom := sl .ro kapi_Column A2 k3 x1.Columns
abbrev y5 (A6 : Option Addr) (k7 : Nat) (x1 : api_Table) : Atom := sl .ro kapi_Index A6 k7 x1.Indexes
abbrev y6 (A9 : Option Addr) (k10 : Nat) (x8 : api_Index) : Atom := sl .ro ki64 A9 k10 x8.Columns
abbrev y7 (A4 : Option Addr) (k5 : Nat) (x1 : api_Table) : Atom := sl .ro ki64 A4 k5 x1.Key
abbrev y8 (b15 : Nat) : Option (Value × Bool) := some (.pointer (some ⟨b15, 0, none⟩), true)
abbrev y9 (b16 : Nat) : Option (Value × Bool) := some (.pointer (some ⟨b16, 0, none⟩), true)
abbrev y10 (b16 : Nat) : Option (Value × Bool) := some (.pointer (some ⟨b16, 2, none⟩), true)
abbrev y11 (b15 : Nat) : Option (Value × Bool) := some (.pointer (some ⟨b15, 3, none⟩), true)
abbrev y12 (b2841 : Nat) (x2302 : (List Int)) (x2542 : (List Int)) (x2782 : (List Int)) : Atom := sl .own (kSl ku8) (some ⟨b2841, 0, none⟩) 3 [x2302, x2542, x2782]
abbrev y13 : Atom := sl .ro ku8 none 0 ([] : List Int)
abbrev y14 (b2241 : Nat) : Option (Value × Bool) := some (.slice (some ⟨b2241, 0, none⟩) 2 2, false)
abbrev y15 (m14 : Md) (A12 : Option Addr) (k13 : Nat) (x11 : List api_Value) : Atom := sl m14 kapi_Value A12 k13 x11
theorem ok (F : List Atom) (w : World) (z : Nat) (x1 : api_Table) (x8 : api_Index) (x11 : List api_Value) {A2 : Option Addr} {k3 : Nat} {A4 : Option Addr} {k5 : Nat} {A6 : Option Addr} {k7 : Nat} {A9 : Option Addr} {k10 : Nat} {A12 : Option Addr} {k13 : Nat} {m14 : Md} (S : SL ([(y4 A2 k3 x1), (y7 A4 k5 x1), (y5 A6 k7 x1), (y6 A9 k10 x8), (y15 m14 A12 k13 x11)] ++ F) w) (r : api_KV × Int) (H : f z x1 x8 x11 = some r) : Calls Tryd.prog 13 #[.agg #[.int .i64 x1.Id, .string x1.Name, .slice A2 x1.Columns.length k3, .slice A4 x1.Key.length k5, .slice A6 x1.Indexes.length k7], .agg #[.int .i64 x8.Id, .string x8.Name, .slice A9 x8.Columns.length k10, .bool x8.Unique], .slice A12 x11.length k13] w (R F x1 A2 k3 A4 k5 A6 k7 x8 A9 k10 x11 A12 k13 m14 r) := by
 refine enter (vs := [.agg #[.int .i64 x1.Id, .string x1.Name, .slice A2 x1.Columns.length k3, .slice A4 x1.Key.length k5, .slice A6 x1.Indexes.length k7], .agg #[.int .i64 x8.Id, .string x8.Name, .slice A9 x8.Columns.length k10, .bool x8.Unique], .slice A12 x11.length k13]) Tryd.func13 rfl Tryd.ntmps13 (Nat.le_of_ble_eq_true rfl) fun a T => ?_
 refine Gets.seq ?_
 refine rg ?_
 refine r_box T S rfl (cs := (y0 x1 A2 k3 A4 k5 A6 k7)) rfl rfl fun _ _ b15 S T => ?_
 refine r_box T S rfl (cs := [.int .i64 x8.Id, .string x8.Name, .slice A9 x8.Columns.length k10, .bool x8.Unique]) rfl rfl fun _ _ b16 S T => ?_
 refine r_alloc T S zv31 (cs := (y2)) rfl rfl fun _ _ b17 S T => ?_
 refine r_pv T rfl rfl fun _ T => ?_
 refine Gets.seq (Gets.block (Gets.seq ?_))
 refine rg ?_
 refine r_ldBA (ix := 2) (ds := (y0 x1 A2 k3 A4 k5 A6 k7)) T S rfl Tryd.isAgg26 rfl rfl Tryd.sizeOf26 rfl fun _ T => ?_
 refine r_fa (o' := 2) T rfl Tryd.runUnderlying46 rfl Tryd.sizeOf23 rfl rfl fun _ T => ?_
 refine r_ldB (ix := 1) T S rfl Tryd.isAgg23 rfl rfl rfl fun _ T => ?_
 replace S := S.dup (i := 3) rfl
 replace S := S.dup (i := 5) rfl
 replace S := S.dup (i := 7) rfl
 replace S := S.dup (i := 9) rfl
 obtain ⟨x19, h18, H⟩ := bd H
 refine r_call T Tryd.call23 rfl rfl (rowkey_tabled.ok _ _ z x1 x8.Columns (S.sel (p := [(y4 A2 k3 x1), (y7 A4 k5 x1), (y5 A6 k7 x1), (y6 A9 k10 x8)]) (is := [3, 2, 1, 0]) rfl) _ h18) ?_
 rintro _ _ ⟨rfl, S⟩
 refine ⟨_, rfl, fun _ T => ?_⟩
 replace S : SL ([blk b17 (y2), (y1 b16 x8 A9 k10), blk b15 (y0 x1 A2 k3 A4 k5 A6 k7), (y4 A2 k3 x1), (y7 A4 k5 x1), (y5 A6 k7 x1), (y6 A9 k10 x8), (y15 m14 A12 k13 x11)] ++ F) _ := S.join.only [4, 4, 4, 4, 4, 4, 4, 4] rfl
 refine r_pv T rfl rfl fun _ T => ?_
 refine r_pv T rfl rfl fun _ T => ?_
 rcases ifE H with ⟨h20, H⟩ | ⟨h20, H⟩
 ·refine cdT T rfl h20 ?_
  refine Gets.seq ?_
  refine rg ?_
  refine r_build (cs := #[.slice none 0 0, .slice none 0 0]) T stt31 rfl rfl rfl fun _ T => ?_
  refine r_stBA (ix := 0) (vs := (y2)) (l' := [blk b17 (y2), (y1 b16 x8 A9 k10), blk b15 (y0 x1 A2 k3 A4 k5 A6 k7), (y4 A2 k3 x1), (y7 A4 k5 x1), (y5 A6 k7 x1), (y6 A9 k10 x8), (y15 m14 A12 k13 x11)]) T S rfl rfl rfl rfl (by simp) Tryd.sizeOf31 (Nat.le_of_ble_eq_true rfl) rfl fun _ S => ?_
  refine r_pv T rfl rfl fun _ T => ?_
  replace S := S.nil ku8 .ro
  replace S := S.nil ku8 .ro
  replace H := Option.some.inj H
  subst H
  exact rtnM T S Tryd.func13 rfl ⟨_, _, rfl, ⟨b17, _, 2, rfl, rfl, .inl ⟨Tryd.isAgg31, Tryd.sizeOf31, rfl⟩⟩, ⟨_, _, rfl, rfl, rfl⟩⟩ ⟨none, 0, none, 0, rfl, (S.only (p := [(y13), (y13), (y4 A2 k3 x1), (y7 A4 k5 x1), (y5 A6 k7 x1), (y6 A9 k10 x8), (y15 m14 A12 k13 x11)]) [1, 0, 3, 3, 3, 3, 3] rfl)⟩
 ·refine cdF T rfl h20 ?_
  refine Gets.seq ?_
  refine rg ?_
  refine r_ldBA (ix := 2) (ds := (y0 x1 A2 k3 A4 k5 A6 k7)) T S rfl Tryd.isAgg26 rfl rfl Tryd.sizeOf26 rfl fun _ T => ?_
  refine r_pv T rfl rfl fun _ T => ?_
  replace S := S.dup (i := 3) rfl
  replace S := S.dup (i := 5) rfl
  replace S := S.dup (i := 7) rfl
  obtain ⟨x22, h21, H⟩ := bd H
  refine r_call T Tryd.call24 rfl rfl (rowkey_rowed.ok _ _ z x1 x11 (S.sel (p := [(y4 A2 k3 x1), (y7 A4 k5 x1), (y5 A6 k7 x1), (y15 m14 A12 k13 x11)]) (is := [2, 1, 0, 7]) rfl) _ h21) ?_
  rintro _ _ ⟨rfl, S⟩
  refine ⟨_, rfl, fun _ T => ?_⟩
  replace S : SL ([(y15 m14 A12 k13 x11), blk b17 (y2), (y1 b16 x8 A9 k10), blk b15 (y0 x1 A2 k3 A4 k5 A6 k7), (y4 A2 k3 x1), (y7 A4 k5 x1), (y5 A6 k7 x1), (y6 A9 k10 x8)] ++ F) _ := S.join.only [3, 3, 3, 3, 3, 3, 3, 3] rfl
  refine r_pv T rfl rfl fun _ T => ?_
  refine r_pv T rfl rfl fun _ T => ?_
  rcases ifE H with ⟨h23, H⟩ | ⟨h23, H⟩
  ·refine cdT T rfl h23 ?_
   refine Gets.seq ?_
   refine rg ?_
   refine r_build (cs := #[.slice none 0 0, .slice none 0 0]) T stt31 rfl rfl rfl fun _ T => ?_
   refine r_stBA (ix := 1) (vs := (y2)) (l' := [(y15 m14 A12 k13 x11), blk b17 (y2), (y1 b16 x8 A9 k10), blk b15 (y0 x1 A2 k3 A4 k5 A6 k7), (y4 A2 k3 x1), (y7 A4 k5 x1), (y5 A6 k7 x1), (y6 A9 k10 x8)]) T S rfl rfl rfl rfl (by simp) Tryd.sizeOf31 (Nat.le_of_ble_eq_true rfl) rfl fun _ S => ?_
   refine r_pv T rfl rfl fun _ T => ?_
   replace S := S.nil ku8 .ro
   replace S := S.nil ku8 .ro
   replace H := Option.some.inj H
   subst H
   exact rtnM T S Tryd.func13 rfl ⟨_, _, rfl, ⟨b17, _, 3, rfl, rfl, .inl ⟨Tryd.isAgg31, Tryd.sizeOf31, rfl⟩⟩, ⟨_, _, rfl, rfl, rfl⟩⟩ ⟨none, 0, none, 0, rfl, (S.only (p := [(y13), (y13), (y4 A2 k3 x1), (y7 A4 k5 x1), (y5 A6 k7 x1), (y6 A9 k10 x8), (y15 m14 A12 k13 x11)]) [1, 0, 4, 4, 4, 4, 0] rfl)⟩
  ·refine cdF T rfl h23 ?_
   refine Gets.skip (Gets.inBlock (Gets.seq ?_))
   refine Gets.drawn (l := [(y15 m14 A12 k13 x11), blk b17 (y2), (y1 b16 x8 A9 k10), blk b15 (y0 x1 A2 k3 A4 k5 A6 k7), (y4 A2 k3 x1), (y7 A4 k5 x1), (y5 A6 k7 x1), (y6 A9 k10 x8)]) (V := [(y8 b15), some (.int .i64 x1.Id, true), (y9 b16), some (.int .i64 x8.Id, true), none, none, some (.slice A12 x11.length k13, true), (y10 b16), some (.slice A9 x8.Columns.length k10, true), none, some (.slice A12 x11.length k13, true), (y11 b15), some (.slice A4 x1.Key.length k5, true), none, none, none, none]) mixed T S rfl ?_
   refine stage (some 4) rfl rfl ⟨⟨_, [(3, _)], rfl, ⟨.inr ⟨rfl, rfl⟩, trivial⟩, fun _ _ _ T S => r_fa (o' := 0) T rfl Tryd.runUnderlying26 rfl Tryd.sizeOf3 rfl rfl fun _ T => ⟨rfl, T⟩⟩, ⟨_, [(22, _)], rfl, ⟨.inl ⟨0, rfl, rfl, rfl, rfl⟩, trivial⟩, fun _ _ _ T S => r_ldB (ix := 3) T S rfl Tryd.isAgg3 rfl rfl rfl fun _ T => ⟨rfl, T⟩⟩, ⟨_, [(4, _)], rfl, ⟨.inr ⟨rfl, rfl⟩, trivial⟩, fun _ _ _ T S => r_fa (o' := 0) T rfl Tryd.runUnderlying46 rfl Tryd.sizeOf3 rfl rfl fun _ T => ⟨rfl, T⟩⟩, ⟨_, [(24, _)], rfl, ⟨.inl ⟨2, rfl, rfl, rfl, rfl⟩, trivial⟩, fun _ _ _ T S => r_ldB (ix := 2) T S rfl Tryd.isAgg3 rfl rfl rfl fun _ T => ⟨rfl, T⟩⟩, ⟨_, [(2, _)], rfl, ⟨.inr ⟨rfl, rfl⟩, trivial⟩, fun _ _ _ T S => r_pv T rfl rfl fun _ T => ⟨rfl, T⟩⟩, ⟨_, [(4, _)], rfl, ⟨.inr ⟨rfl, rfl⟩, trivial⟩, fun _ _ _ T S => r_fa (o' := 2) T rfl Tryd.runUnderlying46 rfl Tryd.sizeOf23 rfl rfl fun _ T => ⟨rfl, T⟩⟩, ⟨_, [(29, _)], rfl, ⟨.inl ⟨7, rfl, rfl, rfl, rfl⟩, trivial⟩, fun _ _ _ T S => r_ldB (ix := 2) T S rfl Tryd.isAgg23 rfl rfl rfl fun _ T => ⟨rfl, T⟩⟩, ⟨_, [(2, _)], rfl, ⟨.inr ⟨rfl, rfl⟩, trivial⟩, fun _ _ _ T S => r_pv T rfl rfl fun _ T => ⟨rfl, T⟩⟩, ⟨_, [(3, _)], rfl, ⟨.inr ⟨rfl, rfl⟩, trivial⟩, fun _ _ _ T S => r_fa (o' := 3) T rfl Tryd.runUnderlying26 rfl Tryd.sizeOf23 rfl rfl fun _ T => ⟨rfl, T⟩⟩, ⟨_, [(33, _)], rfl, ⟨.inl ⟨11, rfl, rfl, rfl, rfl⟩, trivial⟩, fun _ _ _ T S => r_ldB (ix := 3) T S rfl Tryd.isAgg23 rfl rfl rfl fun _ T => ⟨rfl, T⟩⟩, trivial⟩ rfl (fun i hi => ?_) (fun h => by cases h)
   cases hi
   refine ⟨rfl, _, [(23, _), (25, _)], rfl, ⟨.inl ⟨1, rfl, rfl, rfl, rfl⟩, .inl ⟨3, rfl, rfl, rfl, rfl⟩, trivial⟩, fun u a w T S => ?_⟩
   replace S := SL.val (κ := ki64) (x := x1.Id) (cs := [.int .i64 x1.Id]) (fun _ => rfl) S
   replace S := SL.val (κ := ki64) (x := x8.Id) (cs := [.int .i64 x8.Id]) (fun _ => rfl) S
   refine r_bsl (κ := ki64) (xs := [x1.Id, x8.Id]) (vs := [.int .i64 x1.Id, .int .i64 x8.Id]) T S sty23 rfl ⟨_, _, rfl, ⟨1, rfl⟩, ⟨_, _, rfl, ⟨0, rfl⟩, rfl⟩⟩ rfl (by decide) rfl fun _ _ b2241 S T => ?_
   replace S : SL ([(y3 b2241 x1 x8), (y15 m14 A12 k13 x11), blk b17 (y2), (y1 b16 x8 A9 k10), blk b15 (y0 x1 A2 k3 A4 k5 A6 k7), (y4 A2 k3 x1), (y7 A4 k5 x1), (y5 A6 k7 x1), (y6 A9 k10 x8)] ++ F) _ := S.only [0, 2, 2, 2, 2, 2, 2, 2, 2] rfl
   refine ⟨_, [(y8 b15), some (.int .i64 x1.Id, false), (y9 b16), some (.int .i64 x8.Id, false), (y14 b2241), none, some (.slice A12 x11.length k13, true), (y10 b16), some (.slice A9 x8.Columns.length k10, true), none, some (.slice A12 x11.length k13, true), (y11 b15), some (.slice A4 x1.Key.length k5, true), none, none, none, none], [(y3 b2241 x1 x8), (y15 m14 A12 k13 x11), blk b17 (y2), (y1 b16 x8 A9 k10), blk b15 (y0 x1 A2 k3 A4 k5 A6 k7), (y4 A2 k3 x1), (y7 A4 k5 x1), (y5 A6 k7 x1), (y6 A9 k10 x8)], rfl, (by repeat first | exact kx0 | apply kxs | apply kxn), rfl, ?_, T, S⟩
   refine stage (some 5) rfl rfl ⟨⟨_, [(3, _)], rfl, ⟨.inr ⟨rfl, rfl⟩, trivial⟩, fun _ _ _ T S => r_fa (o' := 0) T rfl Tryd.runUnderlying26 rfl Tryd.sizeOf3 rfl rfl fun _ T => ⟨rfl, T⟩⟩, ⟨_, [(4, _)], rfl, ⟨.inr ⟨rfl, rfl⟩, trivial⟩, fun _ _ _ T S => r_fa (o' := 0) T rfl Tryd.runUnderlying46 rfl Tryd.sizeOf3 rfl rfl fun _ T => ⟨rfl, T⟩⟩, ⟨_, [(2, _)], rfl, ⟨.inr ⟨rfl, rfl⟩, trivial⟩, fun _ _ _ T S => r_pv T rfl rfl fun _ T => ⟨rfl, T⟩⟩, ⟨_, [(4, _)], rfl, ⟨.inr ⟨rfl, rfl⟩, trivial⟩, fun _ _ _ T S => r_fa (o' := 2) T rfl Tryd.runUnderlying46 rfl Tryd.sizeOf23 rfl rfl fun _ T => ⟨rfl, T⟩⟩, ⟨_, [(29, _)], rfl, ⟨.inl ⟨7, rfl, rfl, rfl, rfl⟩, trivial⟩, fun _ _ _ T S => r_ldB (ix := 3) T S rfl Tryd.isAgg23 rfl rfl rfl fun _ T => ⟨rfl, T⟩⟩, ⟨_, [(2, _)], rfl, ⟨.inr ⟨rfl, rfl⟩, trivial⟩, fun _ _ _ T S => r_pv T rfl rfl fun _ T => ⟨rfl, T⟩⟩, ⟨_, [(3, _)], rfl, ⟨.inr ⟨rfl, rfl⟩, trivial⟩, fun _ _ _ T S => r_fa (o' := 3) T rfl Tryd.runUnderlying26 rfl Tryd.sizeOf23 rfl rfl fun _ T => ⟨rfl, T⟩⟩, ⟨_, [(33, _)], rfl, ⟨.inl ⟨11, rfl, rfl, rfl, rfl⟩, trivial⟩, fun _ _ _ T S => r_ldB (ix := 4) T S rfl Tryd.isAgg23 rfl rfl rfl fun _ T => ⟨rfl, T⟩⟩, trivial⟩ rfl (fun i hi => ?_) (fun h => by cases h)
   cases hi
   refine ⟨rfl, _, [(26, _)], rfl, ⟨.inl ⟨4, rfl, rfl, rfl, rfl⟩, trivial⟩, fun u a w T S => ?_⟩
   obtain ⟨x2302, h2301, H⟩ := bd H
   refine r_call T Tryd.call26 rfl rfl (rowkey_begin.ok _ _ z [x1.Id, x8.Id] (S.sel (p := [(y3 b2241 x1 x8)]) (is := [0]) rfl) _ h2301) ?_
   rintro _ _ ⟨A2303, k2304, rfl, S⟩
   refine ⟨_, rfl, fun _ T => ?_⟩
   replace S : SL ([sl .own ku8 A2303 k2304 x2302, (y3 b2241 x1 x8), (y15 m14 A12 k13 x11), blk b17 (y2), (y1 b16 x8 A9 k10), blk b15 (y0 x1 A2 k3 A4 k5 A6 k7), (y4 A2 k3 x1), (y7 A4 k5 x1), (y5 A6 k7 x1), (y6 A9 k10 x8)] ++ F) _ := S.join
   refine ⟨_, [(y8 b15), some (.int .i64 x1.Id, false), (y9 b16), some (.int .i64 x8.Id, false), (y14 b2241), some (.slice A2303 x2302.length k2304, false), some (.slice A12 x11.length k13, true), (y10 b16), some (.slice A9 x8.Columns.length k10, true), none, some (.slice A12 x11.length k13, true), (y11 b15), some (.slice A4 x1.Key.length k5, true), none, none, none, none], [sl .own ku8 A2303 k2304 x2302, (y3 b2241 x1 x8), (y15 m14 A12 k13 x11), blk b17 (y2), (y1 b16 x8 A9 k10), blk b15 (y0 x1 A2 k3 A4 k5 A6 k7), (y4 A2 k3 x1), (y7 A4 k5 x1), (y5 A6 k7 x1), (y6 A9 k10 x8)], rfl, (by repeat first | exact kx0 | apply kxs | apply kxn), rfl, ?_, T, S⟩
   refine stage (some 9) rfl rfl ⟨⟨_, [(3, _)], rfl, ⟨.inr ⟨rfl, rfl⟩, trivial⟩, fun _ _ _ T S => r_fa (o' := 0) T rfl Tryd.runUnderlying26 rfl Tryd.sizeOf3 rfl rfl fun _ T => ⟨rfl, T⟩⟩, ⟨_, [(4, _)], rfl, ⟨.inr ⟨rfl, rfl⟩, trivial⟩, fun _ _ _ T S => r_fa (o' := 0) T rfl Tryd.runUnderlying46 rfl Tryd.sizeOf3 rfl rfl fun _ T => ⟨rfl, T⟩⟩, ⟨_, [(2, _)], rfl, ⟨.inr ⟨rfl, rfl⟩, trivial⟩, fun _ _ _ T S => r_pv T rfl rfl fun _ T => ⟨rfl, T⟩⟩, ⟨_, [(4, _)], rfl, ⟨.inr ⟨rfl, rfl⟩, trivial⟩, fun _ _ _ T S => r_fa (o' := 2) T rfl Tryd.runUnderlying46 rfl Tryd.sizeOf23 rfl rfl fun _ T => ⟨rfl, T⟩⟩, ⟨_, [(29, _)], rfl, ⟨.inl ⟨7, rfl, rfl, rfl, rfl⟩, trivial⟩, fun _ _ _ T S => r_ldB (ix := 4) T S rfl Tryd.isAgg23 rfl rfl rfl fun _ T => ⟨rfl, T⟩⟩, ⟨_, [(2, _)], rfl, ⟨.inr ⟨rfl, rfl⟩, trivial⟩, fun _ _ _ T S => r_pv T rfl rfl fun _ T => ⟨rfl, T⟩⟩, ⟨_, [(3, _)], rfl, ⟨.inr ⟨rfl, rfl⟩, trivial⟩, fun _ _ _ T S => r_fa (o' := 3) T rfl Tryd.runUnderlying26 rfl Tryd.sizeOf23 rfl rfl fun _ T => ⟨rfl, T⟩⟩, ⟨_, [(33, _)], rfl, ⟨.inl ⟨11, rfl, rfl, rfl, rfl⟩, trivial⟩, fun _ _ _ T S => r_ldB (ix := 5) T S rfl Tryd.isAgg23 rfl rfl rfl fun _ T => ⟨rfl, T⟩⟩, trivial⟩ rfl (fun i hi => ?_) (fun h => by cases h)
   cases hi
   refine ⟨rfl, _, [(28, _), (30, _)], rfl, ⟨.inl ⟨6, rfl, rfl, rfl, rfl⟩, .inl ⟨8, rfl, rfl, rfl, rfl⟩, trivial⟩, fun u a w T S => ?_⟩
   replace S := S.dup (i := 9) rfl
   obtain ⟨x2542, h2541, H⟩ := bd H
   refine r_call T Tryd.call27 rfl rfl (rowkey_columns.ok _ _ z x11 x8.Columns (S.sel (p := [(y15 m14 A12 k13 x11), (y6 A9 k10 x8)]) (is := [3, 0]) rfl) _ h2541) ?_
   rintro _ _ ⟨A2543, k2544, rfl, S⟩
   refine ⟨_, rfl, fun _ T => ?_⟩
   replace S : SL ([sl .own ku8 A2543 k2544 x2542, (y15 m14 A12 k13 x11), sl .own ku8 A2303 k2304 x2302, (y3 b2241 x1 x8), blk b17 (y2), (y1 b16 x8 A9 k10), blk b15 (y0 x1 A2 k3 A4 k5 A6 k7), (y4 A2 k3 x1), (y7 A4 k5 x1), (y5 A6 k7 x1), (y6 A9 k10 x8)] ++ F) _ := S.join.only [0, 0, 1, 1, 1, 1, 1, 1, 1, 1, 1] rfl
   refine ⟨_, [(y8 b15), some (.int .i64 x1.Id, false), (y9 b16), some (.int .i64 x8.Id, false), (y14 b2241), some (.slice A2303 x2302.length k2304, false), some (.slice A12 x11.length k13, false), (y10 b16), some (.slice A9 x8.Columns.length k10, false), some (.slice A2543 x2542.length k2544, false), some (.slice A12 x11.length k13, true), (y11 b15), some (.slice A4 x1.Key.length k5, true), none, none, none, none], [sl .own ku8 A2543 k2544 x2542, (y15 m14 A12 k13 x11), sl .own ku8 A2303 k2304 x2302, (y3 b2241 x1 x8), blk b17 (y2), (y1 b16 x8 A9 k10), blk b15 (y0 x1 A2 k3 A4 k5 A6 k7), (y4 A2 k3 x1), (y7 A4 k5 x1), (y5 A6 k7 x1), (y6 A9 k10 x8)], rfl, (by repeat first | exact kx0 | apply kxs | apply kxn), rfl, ?_, T, S⟩
   refine stage (some 13) rfl rfl ⟨⟨_, [(3, _)], rfl, ⟨.inr ⟨rfl, rfl⟩, trivial⟩, fun _ _ _ T S => r_fa (o' := 0) T rfl Tryd.runUnderlying26 rfl Tryd.sizeOf3 rfl rfl fun _ T => ⟨rfl, T⟩⟩, ⟨_, [(4, _)], rfl, ⟨.inr ⟨rfl, rfl⟩, trivial⟩, fun _ _ _ T S => r_fa (o' := 0) T rfl Tryd.runUnderlying46 rfl Tryd.sizeOf3 rfl rfl fun _ T => ⟨rfl, T⟩⟩, ⟨_, [(4, _)], rfl, ⟨.inr ⟨rfl, rfl⟩, trivial⟩, fun _ _ _ T S => r_fa (o' := 2) T rfl Tryd.runUnderlying46 rfl Tryd.sizeOf23 rfl rfl fun _ T => ⟨rfl, T⟩⟩, ⟨_, [(2, _)], rfl, ⟨.inr ⟨rfl, rfl⟩, trivial⟩, fun _ _ _ T S => r_pv T rfl rfl fun _ T => ⟨rfl, T⟩⟩, ⟨_, [(3, _)], rfl, ⟨.inr ⟨rfl, rfl⟩, trivial⟩, fun _ _ _ T S => r_fa (o' := 3) T rfl Tryd.runUnderlying26 rfl Tryd.sizeOf23 rfl rfl fun _ T => ⟨rfl, T⟩⟩, ⟨_, [(33, _)], rfl, ⟨.inl ⟨11, rfl, rfl, rfl, rfl⟩, trivial⟩, fun _ _ _ T S => r_ldB (ix := 6) T S rfl Tryd.isAgg23 rfl rfl rfl fun _ T => ⟨rfl, T⟩⟩, trivial⟩ rfl (fun i hi => ?_) (fun h => by cases h)
   cases hi
   refine ⟨rfl, _, [(32, _), (34, _)], rfl, ⟨.inl ⟨10, rfl, rfl, rfl, rfl⟩, .inl ⟨12, rfl, rfl, rfl, rfl⟩, trivial⟩, fun u a w T S => ?_⟩
   replace S := S.dup (i := 8) rfl
   obtain ⟨x2782, h2781, H⟩ := bd H
   refine r_call T Tryd.call27 rfl rfl (rowkey_columns.ok _ _ z x11 x1.Key (S.sel (p := [(y15 m14 A12 k13 x11), (y7 A4 k5 x1)]) (is := [2, 0]) rfl) _ h2781) ?_
   rintro _ _ ⟨A2783, k2784, rfl, S⟩
   refine ⟨_, rfl, fun _ T => ?_⟩
   replace S : SL ([sl .own ku8 A2783 k2784 x2782, (y15 m14 A12 k13 x11), sl .own ku8 A2543 k2544 x2542, sl .own ku8 A2303 k2304 x2302, (y3 b2241 x1 x8), blk b17 (y2), (y1 b16 x8 A9 k10), blk b15 (y0 x1 A2 k3 A4 k5 A6 k7), (y4 A2 k3 x1), (y7 A4 k5 x1), (y5 A6 k7 x1), (y6 A9 k10 x8)] ++ F) _ := S.join.only [0, 0, 1, 1, 1, 1, 1, 1, 1, 1, 1, 1] rfl
   refine ⟨_, [(y8 b15), some (.int .i64 x1.Id, false), (y9 b16), some (.int .i64 x8.Id, false), (y14 b2241), some (.slice A2303 x2302.length k2304, false), some (.slice A12 x11.length k13, false), (y10 b16), some (.slice A9 x8.Columns.length k10, false), some (.slice A2543 x2542.length k2544, false), some (.slice A12 x11.length k13, false), (y11 b15), some (.slice A4 x1.Key.length k5, false), some (.slice A2783 x2782.length k2784, false), none, none, none], [sl .own ku8 A2783 k2784 x2782, (y15 m14 A12 k13 x11), sl .own ku8 A2543 k2544 x2542, sl .own ku8 A2303 k2304 x2302, (y3 b2241 x1 x8), blk b17 (y2), (y1 b16 x8 A9 k10), blk b15 (y0 x1 A2 k3 A4 k5 A6 k7), (y4 A2 k3 x1), (y7 A4 k5 x1), (y5 A6 k7 x1), (y6 A9 k10 x8)], rfl, (by repeat first | exact kx0 | apply kxs | apply kxn), rfl, ?_, T, S⟩
   refine stage (some 14) rfl rfl ⟨⟨_, [(3, _)], rfl, ⟨.inr ⟨rfl, rfl⟩, trivial⟩, fun _ _ _ T S => r_fa (o' := 0) T rfl Tryd.runUnderlying26 rfl Tryd.sizeOf3 rfl rfl fun _ T => ⟨rfl, T⟩⟩, ⟨_, [(4, _)], rfl, ⟨.inr ⟨rfl, rfl⟩, trivial⟩, fun _ _ _ T S => r_fa (o' := 0) T rfl Tryd.runUnderlying46 rfl Tryd.sizeOf3 rfl rfl fun _ T => ⟨rfl, T⟩⟩, ⟨_, [(4, _)], rfl, ⟨.inr ⟨rfl, rfl⟩, trivial⟩, fun _ _ _ T S => r_fa (o' := 2) T rfl Tryd.runUnderlying46 rfl Tryd.sizeOf23 rfl rfl fun _ T => ⟨rfl, T⟩⟩, ⟨_, [(3, _)], rfl, ⟨.inr ⟨rfl, rfl⟩, trivial⟩, fun _ _ _ T S => r_fa (o' := 3) T rfl Tryd.runUnderlying26 rfl Tryd.sizeOf23 rfl rfl fun _ T => ⟨rfl, T⟩⟩, trivial⟩ rfl (fun i hi => ?_) (fun h => by cases h)
   cases hi
   refine ⟨rfl, _, [(27, _), (31, _), (35, _)], rfl, ⟨.inl ⟨5, rfl, rfl, rfl, rfl⟩, .inl ⟨9, rfl, rfl, rfl, rfl⟩, .inl ⟨13, rfl, rfl, rfl, rfl⟩, trivial⟩, fun u a w T S => ?_⟩
   replace S : SL ([sl .own ku8 A2783 k2784 x2782, (y15 m14 A12 k13 x11), sl .own ku8 A2543 k2544 x2542, sl .ro ku8 A2303 k2304 x2302, (y3 b2241 x1 x8), blk b17 (y2), (y1 b16 x8 A9 k10), blk b15 (y0 x1 A2 k3 A4 k5 A6 k7), (y4 A2 k3 x1), (y7 A4 k5 x1), (y5 A6 k7 x1), (y6 A9 k10 x8)] ++ F) _ := S.fixL (i := 3) rfl rfl
   replace S := S.asVal (i := 3) (xs := x2302) rfl
   replace S : SL ([rp (kSl ku8) x2302 [.slice A2303 x2302.length k2304], sl .own ku8 A2783 k2784 x2782, (y15 m14 A12 k13 x11), sl .ro ku8 A2543 k2544 x2542, sl .ro ku8 A2303 k2304 x2302, (y3 b2241 x1 x8), blk b17 (y2), (y1 b16 x8 A9 k10), blk b15 (y0 x1 A2 k3 A4 k5 A6 k7), (y4 A2 k3 x1), (y7 A4 k5 x1), (y5 A6 k7 x1), (y6 A9 k10 x8)] ++ F) _ := S.fixL (i := 3) rfl rfl
   replace S := S.asVal (i := 3) (xs := x2542) rfl
   replace S : SL ([rp (kSl ku8) x2542 [.slice A2543 x2542.length k2544], rp (kSl ku8) x2302 [.slice A2303 x2302.length k2304], sl .ro ku8 A2783 k2784 x2782, (y15 m14 A12 k13 x11), sl .ro ku8 A2543 k2544 x2542, sl .ro ku8 A2303 k2304 x2302, (y3 b2241 x1 x8), blk b17 (y2), (y1 b16 x8 A9 k10), blk b15 (y0 x1 A2 k3 A4 k5 A6 k7), (y4 A2 k3 x1), (y7 A4 k5 x1), (y5 A6 k7 x1), (y6 A9 k10 x8)] ++ F) _ := S.fixL (i := 2) rfl rfl
   replace S := S.asVal (i := 2) (xs := x2782) rfl
   refine r_bsl (κ := (kSl ku8)) (xs := [x2302, x2542, x2782]) (vs := [.slice A2303 x2302.length k2304, .slice A2543 x2542.length k2544, .slice A2783 x2782.length k2784]) T S sty92 rfl ⟨_, _, rfl, ⟨2, rfl⟩, ⟨_, _, rfl, ⟨1, rfl⟩, ⟨_, _, rfl, ⟨0, rfl⟩, rfl⟩⟩⟩ rfl (by decide) rfl fun _ _ b2841 S T => ?_
   replace S : SL ([(y12 b2841 x2302 x2542 x2782), sl .ro ku8 A2783 k2784 x2782, (y15 m14 A12 k13 x11), sl .ro ku8 A2543 k2544 x2542, sl .ro ku8 A2303 k2304 x2302, (y3 b2241 x1 x8), blk b17 (y2), (y1 b16 x8 A9 k10), blk b15 (y0 x1 A2 k3 A4 k5 A6 k7), (y4 A2 k3 x1), (y7 A4 k5 x1), (y5 A6 k7 x1), (y6 A9 k10 x8)] ++ F) _ := S.only [0, 3, 3, 3, 3, 3, 3, 3, 3, 3, 3, 3, 3] rfl
   refine ⟨_, [(y8 b15), some (.int .i64 x1.Id, false), (y9 b16), some (.int .i64 x8.Id, false), (y14 b2241), some (.slice A2303 x2302.length k2304, false), some (.slice A12 x11.length k13, false), (y10 b16), some (.slice A9 x8.Columns.length k10, false), some (.slice A2543 x2542.length k2544, false), some (.slice A12 x11.length k13, false), (y11 b15), some (.slice A4 x1.Key.length k5, false), some (.slice A2783 x2782.length k2784, false), some (.slice (some ⟨b2841, 0, none⟩) 3 3, false), none, none], [(y12 b2841 x2302 x2542 x2782), sl .ro ku8 A2783 k2784 x2782, (y15 m14 A12 k13 x11), sl .ro ku8 A2543 k2544 x2542, sl .ro ku8 A2303 k2304 x2302, (y3 b2241 x1 x8), blk b17 (y2), (y1 b16 x8 A9 k10), blk b15 (y0 x1 A2 k3 A4 k5 A6 k7), (y4 A2 k3 x1), (y7 A4 k5 x1), (y5 A6 k7 x1), (y6 A9 k10 x8)], rfl, (by repeat first | exact kx0 | apply kxs | apply kxn), rfl, ?_, T, S⟩
   refine stage (some 15) rfl rfl ⟨⟨_, [(3, _)], rfl, ⟨.inr ⟨rfl, rfl⟩, trivial⟩, fun _ _ _ T S => r_fa (o' := 0) T rfl Tryd.runUnderlying26 rfl Tryd.sizeOf3 rfl rfl fun _ T => ⟨rfl, T⟩⟩, ⟨_, [(4, _)], rfl, ⟨.inr ⟨rfl, rfl⟩, trivial⟩, fun _ _ _ T S => r_fa (o' := 0) T rfl Tryd.runUnderlying46 rfl Tryd.sizeOf3 rfl rfl fun _ T => ⟨rfl, T⟩⟩, ⟨_, [(4, _)], rfl, ⟨.inr ⟨rfl, rfl⟩, trivial⟩, fun _ _ _ T S => r_fa (o' := 2) T rfl Tryd.runUnderlying46 rfl Tryd.sizeOf23 rfl rfl fun _ T => ⟨rfl, T⟩⟩, ⟨_, [(3, _)], rfl, ⟨.inr ⟨rfl, rfl⟩, trivial⟩, fun _ _ _ T S => r_fa (o' := 3) T rfl Tryd.runUnderlying26 rfl Tryd.sizeOf23 rfl rfl fun _ T => ⟨rfl, T⟩⟩, trivial⟩ rfl (fun i hi => ?_) (fun h => by cases h)
   cases hi
   refine ⟨rfl, _, [(36, _)], rfl, ⟨.inl ⟨14, rfl, rfl, rfl, rfl⟩, trivial⟩, fun u a w T S => ?_⟩
   obtain ⟨x2902, h2901, H⟩ := bd H
   refine r_call T Tryd.call25 rfl rfl (slices_Concat_byte.ok _ _ z [x2302, x2542, x2782] (S.sel (p := [(y12 b2841 x2302 x2542 x2782)]) (is := [0]) rfl) _ h2901) ?_
   rintro _ _ ⟨A2903, k2904, rfl, S⟩
   refine ⟨_, rfl, fun _ T => ?_⟩
   replace S : SL ([sl .own ku8 A2903 k2904 x2902, (y12 b2841 x2302 x2542 x2782), sl .ro ku8 A2783 k2784 x2782, (y15 m14 A12 k13 x11), sl .ro ku8 A2543 k2544 x2542, sl .ro ku8 A2303 k2304 x2302, (y3 b2241 x1 x8), blk b17 (y2), (y1 b16 x8 A9 k10), blk b15 (y0 x1 A2 k3 A4 k5 A6 k7), (y4 A2 k3 x1), (y7 A4 k5 x1), (y5 A6 k7 x1), (y6 A9 k10 x8)] ++ F) _ := S.join
   refine ⟨_, [(y8 b15), some (.int .i64 x1.Id, false), (y9 b16), some (.int .i64 x8.Id, false), (y14 b2241), some (.slice A2303 x2302.length k2304, false), some (.slice A12 x11.length k13, false), (y10 b16), some (.slice A9 x8.Columns.length k10, false), some (.slice A2543 x2542.length k2544, false), some (.slice A12 x11.length k13, false), (y11 b15), some (.slice A4 x1.Key.length k5, false), some (.slice A2783 x2782.length k2784, false), some (.slice (some ⟨b2841, 0, none⟩) 3 3, false), some (.slice A2903 x2902.length k2904, false), some (.slice A2903 x2902.length k2904, true)], [sl .own ku8 A2903 k2904 x2902, (y12 b2841 x2302 x2542 x2782), sl .ro ku8 A2783 k2784 x2782, (y15 m14 A12 k13 x11), sl .ro ku8 A2543 k2544 x2542, sl .ro ku8 A2303 k2304 x2302, (y3 b2241 x1 x8), blk b17 (y2), (y1 b16 x8 A9 k10), blk b15 (y0 x1 A2 k3 A4 k5 A6 k7), (y4 A2 k3 x1), (y7 A4 k5 x1), (y5 A6 k7 x1), (y6 A9 k10 x8)], rfl, (by repeat first | exact kx0 | apply kxs | apply kxn), rfl, ?_, T, S⟩
   refine stage none rfl rfl ⟨⟨_, [(3, _)], rfl, ⟨.inr ⟨rfl, rfl⟩, trivial⟩, fun _ _ _ T S => r_fa (o' := 0) T rfl Tryd.runUnderlying26 rfl Tryd.sizeOf3 rfl rfl fun _ T => ⟨rfl, T⟩⟩, ⟨_, [(4, _)], rfl, ⟨.inr ⟨rfl, rfl⟩, trivial⟩, fun _ _ _ T S => r_fa (o' := 0) T rfl Tryd.runUnderlying46 rfl Tryd.sizeOf3 rfl rfl fun _ T => ⟨rfl, T⟩⟩, ⟨_, [(4, _)], rfl, ⟨.inr ⟨rfl, rfl⟩, trivial⟩, fun _ _ _ T S => r_fa (o' := 2) T rfl Tryd.runUnderlying46 rfl Tryd.sizeOf23 rfl rfl fun _ T => ⟨rfl, T⟩⟩, ⟨_, [(3, _)], rfl, ⟨.inr ⟨rfl, rfl⟩, trivial⟩, fun _ _ _ T S => r_fa (o' := 3) T rfl Tryd.runUnderlying26 rfl Tryd.sizeOf23 rfl rfl fun _ T => ⟨rfl, T⟩⟩, ⟨_, [(37, _)], rfl, ⟨.inl ⟨15, rfl, rfl, rfl, rfl⟩, trivial⟩, fun _ _ _ T S => r_pv T rfl rfl fun _ T => ⟨rfl, T⟩⟩, trivial⟩ rfl (fun i hi => by cases hi) (fun _ _ a w T hv hb S => ?_)
   replace T := T.sub (r := [(6, .pointer (some ⟨b17, 0, none⟩)), (8, .slice A2903 x2902.length k2904)]) ⟨hb 6 _ rfl rfl, hv 16 _ 8 rfl rfl rfl, trivial⟩
   refine Gets.seq (Gets.seq ?_)
   refine rg ?_
   refine r_pv T rfl rfl fun _ T => ?_
   refine r_lenS T rfl Tryd.runUnderlying29 rfl fun _ T => ?_
   refine r_pv T rfl rfl fun _ T => ?_
   rcases ifE H with ⟨h24, H⟩ | ⟨h24, H⟩
   ·refine cdT T rfl h24 ?_
    refine Gets.seq ?_
    refine rg ?_
    refine r_build (cs := #[.slice none 0 0, .slice none 0 0]) T stt31 rfl rfl rfl fun _ T => ?_
    refine r_stBA (ix := 7) (vs := (y2)) (l' := [sl .own ku8 A2903 k2904 x2902, (y12 b2841 x2302 x2542 x2782), sl .ro ku8 A2783 k2784 x2782, (y15 m14 A12 k13 x11), sl .ro ku8 A2543 k2544 x2542, sl .ro ku8 A2303 k2304 x2302, (y3 b2241 x1 x8), blk b17 (y2), (y1 b16 x8 A9 k10), blk b15 (y0 x1 A2 k3 A4 k5 A6 k7), (y4 A2 k3 x1), (y7 A4 k5 x1), (y5 A6 k7 x1), (y6 A9 k10 x8)]) T S rfl rfl rfl rfl (by simp) Tryd.sizeOf31 (Nat.le_of_ble_eq_true rfl) rfl fun _ S => ?_
    refine r_pv T rfl rfl fun _ T => ?_
    replace S := S.nil ku8 .ro
    replace S := S.nil ku8 .ro
    replace H := Option.some.inj H
    subst H
    exact rtnM T S Tryd.func13 rfl ⟨_, _, rfl, ⟨b17, _, 9, rfl, rfl, .inl ⟨Tryd.isAgg31, Tryd.sizeOf31, rfl⟩⟩, ⟨_, _, rfl, rfl, rfl⟩⟩ ⟨none, 0, none, 0, rfl, (S.only (p := [(y13), (y13), (y4 A2 k3 x1), (y7 A4 k5 x1), (y5 A6 k7 x1), (y6 A9 k10 x8), (y15 m14 A12 k13 x11)]) [1, 0, 10, 10, 10, 10, 3] rfl)⟩
   ·refine cdF T rfl h24 ?_
    refine Gets.skip (Gets.seq ?_)
    refine rg ?_
    refine r_pv T rfl rfl fun _ T => ?_
    refine r_build (cs := #[.slice A2903 x2902.length k2904, .slice none 0 0]) T stt31 rfl rfl rfl fun _ T => ?_
    refine r_stBA (ix := 7) (vs := [.slice A2903 x2902.length k2904, .slice none 0 0]) (l' := [sl .own ku8 A2903 k2904 x2902, (y12 b2841 x2302 x2542 x2782), sl .ro ku8 A2783 k2784 x2782, (y15 m14 A12 k13 x11), sl .ro ku8 A2543 k2544 x2542, sl .ro ku8 A2303 k2304 x2302, (y3 b2241 x1 x8), blk b17 [.slice A2903 x2902.length k2904, .slice none 0 0], (y1 b16 x8 A9 k10), blk b15 (y0 x1 A2 k3 A4 k5 A6 k7), (y4 A2 k3 x1), (y7 A4 k5 x1), (y5 A6 k7 x1), (y6 A9 k10 x8)]) T S rfl rfl rfl rfl (by simp) Tryd.sizeOf31 (Nat.le_of_ble_eq_true rfl) rfl fun _ S => ?_
    refine r_pv T rfl rfl fun _ T => ?_
    replace S : SL ([sl .ro ku8 A2903 k2904 x2902, (y12 b2841 x2302 x2542 x2782), sl .ro ku8 A2783 k2784 x2782, (y15 m14 A12 k13 x11), sl .ro ku8 A2543 k2544 x2542, sl .ro ku8 A2303 k2304 x2302, (y3 b2241 x1 x8), blk b17 [.slice A2903 x2902.length k2904, .slice none 0 0], (y1 b16 x8 A9 k10), blk b15 (y0 x1 A2 k3 A4 k5 A6 k7), (y4 A2 k3 x1), (y7 A4 k5 x1), (y5 A6 k7 x1), (y6 A9 k10 x8)] ++ F) _ := S.fixL (i := 0) rfl rfl
    replace S := S.nil ku8 .ro
    replace H := Option.some.inj H
    subst H
    exact rtnM T S Tryd.func13 rfl ⟨_, _, rfl, ⟨b17, _, 8, rfl, rfl, .inl ⟨Tryd.isAgg31, Tryd.sizeOf31, rfl⟩⟩, ⟨_, _, rfl, rfl, rfl⟩⟩ ⟨A2903, k2904, none, 0, rfl, (S.only (p := [sl .ro ku8 A2903 k2904 x2902, (y13), (y4 A2 k3 x1), (y7 A4 k5 x1), (y5 A6 k7 x1), (y6 A9 k10 x8), (y15 m14 A12 k13 x11)]) [1, 0, 9, 9, 9, 9, 2] rfl)⟩
end rowkey_Entry
end Go.Proofs.YtohelmfkpmphoaaDoor
namespace Go.Proofs.YtohelmfkpmphoaaDoor
open Go Go.Proofs.YtohelmfkpmphoaaDoor.X
set_option linter.unusedVariables false
set_option linter.unusedSimpArgs false
set_option maxRecDepth 100000
set_option maxHeartbeats 4000000
namespace bytes_HasPrefix
noncomputable def c0 : Code := match Tryd.f37.body with | some c => c | none => .skip
def R (F : List Atom) (x1 : List Int) (A2 : Option Addr) (k3 : Nat) (x4 : List Int) (A5 : Option Addr) (k6 : Nat) (m7 : Md) (r : Bool) : Ending → World → Prop := fun e w' => e = .returned (.bool r) ∧ SL ([sl .ro ku8 A2 k3 x1, sl m7 ku8 A5 k6 x4] ++ F) w'
def J0 (x14 : Bool) : Option Bool := some x14
def f (x1 : List Int) (x4 : List Int) : Option Bool := If (decide ((x1.length : Int) ≥ (x4.length : Int))) (Ck (0 ≤ (x4.length : Int) ∧ (x4.length : Int) ≤ (x1.length : Int)) (Bd (bytes_Equal.f (cut x1 (Int.toNat 0) (Int.toNat (x4.length : Int))) x4) fun x13 => J0 x13)) (J0 false)
noncomputable def ptJ0 : List Item := [.code (cR (cR c0))]
theorem J0_ok (F : List Atom) (r : Bool) (x1 : List Int) (A2 : Option Addr) (k3 : Nat) (x4 : List Int) (A5 : Option Addr) (k6 : Nat) (m7 : Md) (x14 : Bool) (a : Act) (w : World) (T : Tm 18 [(4, .bool x14)] a) (S : SL ([sl .ro ku8 A2 k3 x1, sl m7 ku8 A5 k6 x4] ++ F) w) (H : J0 x14 = some r) : Gets Tryd.prog 37 ptJ0 a w (R F x1 A2 k3 x4 A5 k6 m7 r) := by
 replace H := Option.some.inj H
 subst H
 exact rtn T Tryd.func37 rfl rfl ⟨rfl, (S.only (p := [sl .ro ku8 A2 k3 x1, sl m7 ku8 A5 k6 x4]) [0, 0] rfl)⟩
theorem ok (F : List Atom) (w : World) (x1 : List Int) (x4 : List Int) {A2 : Option Addr} {k3 : Nat} {A5 : Option Addr} {k6 : Nat} {m7 : Md} (S : SL ([sl .ro ku8 A2 k3 x1, sl m7 ku8 A5 k6 x4] ++ F) w) (r : Bool) (H : f x1 x4 = some r) : Calls Tryd.prog 37 #[.slice A2 x1.length k3, .slice A5 x4.length k6] w (R F x1 A2 k3 x4 A5 k6 m7 r) := by
 refine enter (vs := [.slice A2 x1.length k3, .slice A5 x4.length k6]) Tryd.func37 rfl Tryd.ntmps37 (Nat.le_of_ble_eq_true rfl) fun a T => ?_
 refine Gets.seq ?_
 refine rg ?_
 refine r_pv T rfl rfl fun _ T => ?_
 refine Gets.seq ?_
 refine rg ?_
 refine r_pv T rfl rfl fun _ T => ?_
 refine r_lenS T rfl Tryd.runUnderlying29 rfl fun _ T => ?_
 refine r_pv T rfl rfl fun _ T => ?_
 refine r_lenS T rfl Tryd.runUnderlying29 rfl fun _ T => ?_
 refine r_pv T rfl rfl fun _ T => ?_
 refine r_pv T rfl rfl fun _ T => ?_
 rcases ifE H with ⟨h8, H⟩ | ⟨h8, H⟩
 ·refine g_yes T rfl rfl h8 ?_
  refine r_pv T rfl rfl fun _ T => ?_
  refine g_yes T rfl rfl h8 ?_
  refine r_pv T rfl rfl fun _ T => ?_
  refine g_yes T rfl rfl h8 ?_
  refine r_lenS T rfl Tryd.runUnderlying29 rfl fun _ T => ?_
  refine g_yes T rfl rfl h8 ?_
  have h9 := S.len (i := 0) rfl
  obtain ⟨h10, H⟩ := ck H
  refine r_slR (ix := 0) (xs := x1) T S rfl rfl (fun h => by cases h) rfl rfl rfl (Int.le_refl _) h10.1 h10.2 (by have := h10.2; omega) (by omega) Tryd.runUnderlying29 Tryd.sizeOf5 rfl fun _ A11 S T => ?_
  refine g_yes T rfl rfl h8 ?_
  refine r_pv T rfl rfl fun _ T => ?_
  refine g_yes T rfl rfl h8 ?_
  obtain ⟨x13, h12, H⟩ := bd H
  refine r_call T Tryd.call34 rfl rfl (bytes_Equal.ok _ _ (cut x1 (Int.toNat 0) (Int.toNat (x4.length : Int))) x4 (S.sel (p := [sl .ro ku8 A11 (Int.toNat (k3 : Int) - Int.toNat 0) (cut x1 (Int.toNat 0) (Int.toNat (x4.length : Int))), sl m7 ku8 A5 k6 x4]) (is := [0, 1]) rfl) _ h12) ?_
  rintro _ _ ⟨rfl, S⟩
  refine ⟨_, rfl, fun _ T => ?_⟩
  replace S : SL ([sl .ro ku8 A11 (Int.toNat (k3 : Int) - Int.toNat 0) (cut x1 (Int.toNat 0) (Int.toNat (x4.length : Int))), sl m7 ku8 A5 k6 x4, sl .ro ku8 A2 k3 x1] ++ F) _ := S.join
  refine r_pickT T rfl h8 rfl rfl fun _ T => ?_
  refine r_pv T rfl rfl fun _ T => ?_
  exact J0_ok F r x1 A2 k3 x4 A5 k6 m7 x13 _ _ (T.sub ⟨rfl, trivial⟩) (S.only (p := [sl .ro ku8 A2 k3 x1, sl m7 ku8 A5 k6 x4]) [2, 1] rfl) H
 ·refine g_no T rfl rfl h8 rfl fun _ T => ?_
  refine g_no T rfl rfl h8 rfl fun _ T => ?_
  refine g_no T rfl rfl h8 rfl fun _ T => ?_
  refine g_no T rfl rfl h8 rfl fun _ T => ?_
  refine g_no T rfl rfl h8 rfl fun _ T => ?_
  refine g_no T rfl rfl h8 rfl fun _ T => ?_
  refine r_pickF T rfl h8 rfl rfl fun _ T => ?_
  refine r_pv T rfl rfl fun _ T => ?_
  exact J0_ok F r x1 A2 k3 x4 A5 k6 m7 false _ _ (T.sub ⟨rfl, trivial⟩) (S.only (p := [sl .ro ku8 A2 k3 x1, sl m7 ku8 A5 k6 x4]) [0, 0] rfl) H
end bytes_HasPrefix
end Go.Proofs.YtohelmfkpmphoaaDoor
namespace Go.Proofs.YtohelmfkpmphoaaDoor
open Go Go.Proofs.YtohelmfkpmphoaaDoor.X
set_option linter.unusedVariables false
set_option linter.unusedSimpArgs false
set_option maxRecDepth 100000
set_option maxHeartbeats 4000000
namespace rowkey_some
noncomputable def c0 : Code := match Tryd.f38.body with | some c => c | none => .skip
def R (F : List Atom) (x1 : List api_Value) (A2 : Option Addr) (k3 : Nat) (m4 : Md) (x5 : List Int) (A6 : Option Addr) (k7 : Nat) (m8 : Md) (r : (List api_Value)) : Ending → World → Prop := fun e w' => ∃ (A23 : Option Addr), ∃ (k24 : Nat), e = .returned (.slice A23 r.length k24) ∧ SL ([sl .own kapi_Value A23 k24 r, sl m4 kapi_Value A2 k3 x1, sl m8 ki64 A6 k7 x5] ++ F) w'
def L0 (z : Nat) (x1 : List api_Value) (x5 : List Int) : Nat → (List api_Value) → Int → Option (List api_Value)
 | 0, _, _ => none
 | m + 1, x9, x12 => If (decide (x12 < (x5.length : Int))) (Ck (0 ≤ x12 ∧ x12 < (x5.length : Int)) (Ck (0 ≤ gi (0 : Int) x5 x12 ∧ gi (0 : Int) x5 x12 < (x1.length : Int)) (Ck ((x9.length + [(gi dapi_Value x1 (gi (0 : Int) x5 x12))].length) * 40 ≤ 140737488355328) (L0 z x1 x5 m (x9 ++ [(gi dapi_Value x1 (gi (0 : Int) x5 x12))]) (wr .i64 (x12 + 1)))))) (Bd (slices_Clip_cormorant_api_Value.f x9) fun x15 => some x15)
def f (z : Nat) (x1 : List api_Value) (x5 : List Int) : Option (List api_Value) := L0 z x1 x5 z [] 0
noncomputable def ptL0 : List Item := [.code (cB (cB (cR (cL (cR (cR c0)))))), .inLoop (cB (cB (cR (cL (cR (cR c0)))))), .inBlock 0, .code (cR (cR (cR c0)))]
theorem L0_ok (F : List Atom) (r : (List api_Value)) (z : Nat) (x1 : List api_Value) (A2 : Option Addr) (k3 : Nat) (m4 : Md) (x5 : List Int) (A6 : Option Addr) (k7 : Nat) (m8 : Md) (m : Nat) : ∀ (A10 : Option Addr) (x9 : List api_Value) (k11 : Nat) (x12 : Int) (a : Act) (w : World), Tm 24 [(0, .slice A2 x1.length k3), (5, .slice A10 x9.length k11), (8, .slice A6 x5.length k7), (9, .int .i64 (x5.length : Int)), (10, .int .i64 x12)] a → SL ([sl m4 kapi_Value A2 k3 x1, sl m8 ki64 A6 k7 x5, sl .own kapi_Value A10 k11 x9] ++ F) w → L0 z x1 x5 m x9 x12 = some r → Gets Tryd.prog 38 ptL0 a w (R F x1 A2 k3 m4 x5 A6 k7 m8 r) := by
 induction m with
 | zero => intro _ _ _ _ _ _ _ _ H; cases H
 | succ m ih =>
  intro A10 x9 k11 x12 a w T S H
  refine Gets.seq ?_
  refine rg ?_
  refine r_pv T rfl rfl fun _ T => ?_
  refine Gets.seq ?_
  rcases ifE H with ⟨h13, H⟩ | ⟨h13, H⟩
  ·refine cdT T rfl h13 ?_
   refine Gets.skip (Gets.seq (Gets.block (Gets.seq ?_)))
   refine rg ?_
   obtain ⟨h17, H⟩ := ck H
   refine r_ia (ix := 1) T S rfl rfl rfl rfl Tryd.runUnderlying23 Tryd.sizeOf3 h17.1 h17.2 rfl fun _ T => ?_
   refine r_ldE (ix := 1) (i := x12) (off := 0) (f := (Value.int .i64)) T S rfl Tryd.isAgg3 rfl (0 : Int) _ rfl rfl (Fld.all _) h17.1 h17.2 (fun h => h) rfl fun _ T => ?_
   refine r_pv T rfl rfl fun _ T => ?_
   refine rg ?_
   refine r_pv T rfl rfl fun _ T => ?_
   refine r_pv T rfl rfl fun _ T => ?_
   refine r_pv T rfl rfl fun _ T => ?_
   obtain ⟨h18, H⟩ := ck H
   refine r_ia (ix := 0) T S rfl rfl rfl rfl Tryd.runUnderlying27 Tryd.sizeOf43 h18.1 h18.2 rfl fun _ T => ?_
   refine r_ldEP (ix := 0) (i := gi (0 : Int) x5 x12) (off := 0) (f := pf_api_Value) T S rfl rfl Tryd.isAgg43 Tryd.sizeOf43 dapi_Value rfl (Fld.all _) h18.1 h18.2 pl_api_Value rfl fun _ T => ?_
   replace S : SL ([rp kapi_Value (gi dapi_Value x1 (gi (0 : Int) x5 x12)) [.int .i64 ((gi dapi_Value x1 (gi (0 : Int) x5 x12)).Type'), .bool ((gi dapi_Value x1 (gi (0 : Int) x5 x12)).Null), .int .i64 ((gi dapi_Value x1 (gi (0 : Int) x5 x12)).Int), .string ((gi dapi_Value x1 (gi (0 : Int) x5 x12)).Text)], sl m4 kapi_Value A2 k3 x1, sl m8 ki64 A6 k7 x5, sl .own kapi_Value A10 k11 x9] ++ F) _ := cl_api_Value  S 
   refine r_bsl (κ := kapi_Value) (xs := [(gi dapi_Value x1 (gi (0 : Int) x5 x12))]) (vs := [.agg #[.int .i64 ((gi dapi_Value x1 (gi (0 : Int) x5 x12)).Type'), .bool ((gi dapi_Value x1 (gi (0 : Int) x5 x12)).Null), .int .i64 ((gi dapi_Value x1 (gi (0 : Int) x5 x12)).Int), .string ((gi dapi_Value x1 (gi (0 : Int) x5 x12)).Text)]]) T S sty27 rfl ⟨_, _, rfl, ⟨0, rfl⟩, rfl⟩ rfl (by decide) rfl fun _ _ b19 S T => ?_
   replace S : SL ([sl .own kapi_Value (some ⟨b19, 0, none⟩) 1 [(gi dapi_Value x1 (gi (0 : Int) x5 x12))], sl m4 kapi_Value A2 k3 x1, sl m8 ki64 A6 k7 x5, sl .own kapi_Value A10 k11 x9] ++ F) _ := S.only [0, 1, 1, 1] rfl
   obtain ⟨h22, H⟩ := ck H
   refine r_app (ix := 3) (iy := 0) (xs := x9) (ys := [(gi dapi_Value x1 (gi (0 : Int) x5 x12))]) T S rfl rfl rfl rfl (by decide) sty27 Tryd.runUnderlying27 (by decide) h22 rfl fun _ _ A20 k21 S T => ?_
   replace S : SL ([sl .own kapi_Value (some ⟨b19, 0, none⟩) 1 [(gi dapi_Value x1 (gi (0 : Int) x5 x12))], sl m4 kapi_Value A2 k3 x1, sl m8 ki64 A6 k7 x5, sl .own kapi_Value A20 k21 (x9 ++ [(gi dapi_Value x1 (gi (0 : Int) x5 x12))])] ++ F) _ := S
   refine r_pv T rfl rfl fun _ T => ?_
   refine Gets.inBlock ?_
   refine rg ?_
   refine r_pv T rfl rfl fun _ T => ?_
   refine r_pv T rfl rfl fun _ T => ?_
   refine Gets.inLoop ?_
   exact ih A20 (x9 ++ [(gi dapi_Value x1 (gi (0 : Int) x5 x12))]) k21 (wr .i64 (x12 + 1)) _ _ (T.sub ⟨rfl, rfl, rfl, rfl, rfl, trivial⟩) (S.only (p := [sl m4 kapi_Value A2 k3 x1, sl m8 ki64 A6 k7 x5, sl .own kapi_Value A20 k21 (x9 ++ [(gi dapi_Value x1 (gi (0 : Int) x5 x12))])]) [1, 1, 1] rfl) H
  ·refine cdF T rfl h13 ?_
   refine Gets.exit rfl (Gets.seq ?_)
   refine rg ?_
   refine r_pv T rfl rfl fun _ T => ?_
   obtain ⟨x15, h14, H⟩ := bd H
   refine r_call T Tryd.call66 rfl rfl (slices_Clip_cormorant_api_Value.ok _ _ x9 (S.sel (p := [sl .own kapi_Value A10 k11 x9]) (is := [2]) rfl) _ h14) ?_
   rintro _ _ ⟨A16, rfl, S⟩
   refine ⟨_, rfl, fun _ T => ?_⟩
   replace S : SL ([sl .own kapi_Value A16 x15.length x15, sl m4 kapi_Value A2 k3 x1, sl m8 ki64 A6 k7 x5] ++ F) _ := S.join
   refine r_pv T rfl rfl fun _ T => ?_
   replace H := Option.some.inj H
   subst H
   exact rtn T Tryd.func38 rfl rfl ⟨A16, x15.length, rfl, (S.only (p := [sl .own kapi_Value A16 x15.length x15, sl m4 kapi_Value A2 k3 x1, sl m8 ki64 A6 k7 x5]) [0, 0, 0] rfl)⟩
theorem ok (F : List Atom) (w : World) (z : Nat) (x1 : List api_Value) (x5 : List Int) {A2 : Option Addr} {k3 : Nat} {m4 : Md} {A6 : Option Addr} {k7 : Nat} {m8 : Md} (S : SL ([sl m4 kapi_Value A2 k3 x1, sl m8 ki64 A6 k7 x5] ++ F) w) (r : (List api_Value)) (H : f z x1 x5 = some r) : Calls Tryd.prog 38 #[.slice A2 x1.length k3, .slice A6 x5.length k7] w (R F x1 A2 k3 m4 x5 A6 k7 m8 r) := by
 refine enter (vs := [.slice A2 x1.length k3, .slice A6 x5.length k7]) Tryd.func38 rfl Tryd.ntmps38 (Nat.le_of_ble_eq_true rfl) fun a T => ?_
 refine Gets.seq ?_
 refine rg ?_
 refine r_pv T rfl rfl fun _ T => ?_
 refine Gets.seq ?_
 refine rg ?_
 refine r_pv T rfl rfl fun _ T => ?_
 refine Gets.seq (Gets.seq ?_)
 refine rg ?_
 refine r_pv T rfl rfl fun _ T => ?_
 refine r_lenS T rfl Tryd.runUnderlying23 rfl fun _ T => ?_
 refine r_pv T rfl rfl fun _ T => ?_
 refine Gets.block ?_
 refine Gets.loop ?_
 replace S := S.nil kapi_Value .own
 exact L0_ok F r z x1 A2 k3 m4 x5 A6 k7 m8 z none [] 0 0 _ _ (T.sub ⟨rfl, rfl, rfl, rfl, rfl, trivial⟩) (S.only (p := [sl m4 kapi_Value A2 k3 x1, sl m8 ki64 A6 k7 x5, sl .own kapi_Value none 0 []]) [1, 1, 0] rfl) H
end rowkey_some
end Go.Proofs.YtohelmfkpmphoaaDoor
namespace Go.Proofs.YtohelmfkpmphoaaDoor
open Go Go.Proofs.YtohelmfkpmphoaaDoor.X
set_option linter.unusedVariables false
set_option linter.unusedSimpArgs false
set_option maxRecDepth 100000
set_option maxHeartbeats 4000000
namespace rowkey_TakeEntry
noncomputable def c0 : Code := match Tryd.f14.body with | some c => c | none => .skip
def R (F : List Atom) (x1 : api_Table) (A2 : Option Addr) (k3 : Nat) (A4 : Option Addr) (k5 : Nat) (A6 : Option Addr) (k7 : Nat) (x8 : api_Index) (A9 : Option Addr) (k10 : Nat) (x11 : api_KV) (A12 : Option Addr) (k13 : Nat) (A14 : Option Addr) (k15 : Nat) (r : (List api_Value) × (List api_Value) × Int) : Ending → World → Prop := fun e w' => ∃ (A78 : Option Addr), ∃ (k79 : Nat), ∃ (A80 : Option Addr), ∃ (k81 : Nat), e = .returned (.tuple #[.slice A78 r.1.length k79, .slice A80 r.2.1.length k81, .int .i64 r.2.2]) ∧ SL ([sl .own kapi_Value A78 k79 r.1, sl .own kapi_Value A80 k81 r.2.1, sl .ro kapi_Column A2 k3 x1.Columns, sl .ro ki64 A4 k5 x1.Key, sl .ro kapi_Index A6 k7 x1.Indexes, sl .ro ki64 A9 k10 x8.Columns, sl .ro ku8 A12 k13 x11.Key, sl .ro ku8 A14 k15 x11.Value] ++ F) w'
def J2 (z : Nat) : Option ((List api_Value) × (List api_Value) × Int) := some (([] : List api_Value), ([] : List api_Value), 200)
def L1 (z : Nat) (x1 : api_Table) (x8 : api_Index) (x11 : api_KV) (x24 : (List Int)) : Nat → (List api_Value) → Int → Option ((List api_Value) × (List api_Value) × Int)
 | 0, _, _ => none
 | m + 1, x34, x37 => If (decide (x37 < (x1.Columns.length : Int))) (Ck (0 ≤ x37 ∧ x37 < (x1.Columns.length : Int)) (Ck (x37 < (x34.length : Int)) (L1 z x1 x8 x11 x24 m (x34.set (Int.toNat x37) (api_Value.mk ((gi dapi_Column x1.Columns x37).Type') (!((gi dapi_Column x1.Columns x37).NotNull)) 0 (⟨#[]⟩ : ByteArray))) (wr .i64 (x37 + 1))))) (Ck (0 ≤ (x24.length : Int) ∧ (x24.length : Int) ≤ (x11.Key.length : Int)) (Bd (rowkey_reader_keys.f z (rowkey_reader.mk (cut x11.Key (Int.toNat (x24.length : Int)) (Int.toNat (x11.Key.length : Int))) false) x1 x8.Columns x34) fun x44 => Bd (rowkey_some.f z x44.2 x8.Columns) fun x50 => Bd (rowkey_reader_keys.f z x44.1 x1 x1.Key x44.2) fun x54 => Bd (rowkey_Entry.f z x1 x8 x54.2) fun x60 => If x54.1.bad (J2 z) (If (x60.2 != 0) (J2 z) (Bd (bytes_Equal.f x60.1.Key x11.Key) fun x69 => If (!x69) (J2 z) (Bd (rowkey_some.f z x54.2 x1.Key) fun x72 => some (x50, x72, 0))))))
def J0 (z : Nat) : Option ((List api_Value) × (List api_Value) × Int) := some (([] : List api_Value), ([] : List api_Value), 200)
def f (z : Nat) (x1 : api_Table) (x8 : api_Index) (x11 : api_KV) : Option ((List api_Value) × (List api_Value) × Int) := Bd (rowkey_tabled.f z x1 x8.Columns) fun x20 => If (!x20) (some (([] : List api_Value), ([] : List api_Value), 1)) (Bd (rowkey_begin.f z [x1.Id, x8.Id]) fun x24 => If (decide ((x11.Value.length : Int) > 0)) (J0 z) (If (decide ((x11.Key.length : Int) > 256)) (J0 z) (Bd (bytes_HasPrefix.f x11.Key x24) fun x30 => If (!x30) (J0 z) (Ck (0 ≤ (x1.Columns.length : Int) ∧ (x1.Columns.length : Int) ≤ (x1.Columns.length : Int) ∧ 40 * (x1.Columns.length : Int) ≤ 281474976710656) (L1 z x1 x8 x11 x24 z (List.replicate (Int.toNat (x1.Columns.length : Int)) dapi_Value) 0)))))
noncomputable def ptJ2 : List Item := [.code (cL (cT (cR (cL (cR (cR (cR (cR (cR (cR (cR (cR (cR (cR (cR c0))))))))))))))), .code (cR (cT (cR (cL (cR (cR (cR (cR (cR (cR (cR (cR (cR (cR (cR c0))))))))))))))), .code (cR (cR (cR (cR (cR (cR (cR (cR (cR (cR (cR (cR c0))))))))))))]
noncomputable def ptL1 : List Item := [.code (cB (cB (cR (cL (cR (cR (cR (cR (cR c0))))))))), .inLoop (cB (cB (cR (cL (cR (cR (cR (cR (cR c0))))))))), .inBlock 0, .code (cR (cR (cR (cR (cR (cR c0))))))]
noncomputable def ptJ0 : List Item := [.code (cL (cT (cR (cL (cR (cR (cR c0))))))), .code (cR (cT (cR (cL (cR (cR (cR c0))))))), .code (cR (cR (cR (cR c0))))]
abbrev y0 (x1 : api_Table) (A2 : Option Addr) (k3 : Nat) (A4 : Option Addr) (k5 : Nat) (A6 : Option Addr) (k7 : Nat) : List Value := [.int .i64 x1.Id, .string x1.Name, .slice A2 x1.Columns.length k3, .slice A4 x1.Key.length k5, .slice A6 x1.Indexes.length k7]
abbrev y1 (x8 : api_Index) (A9 : Option Addr) (k10 : Nat) : List Value := [.int .i64 x8.Id, .string x8.Name, .slice A9 x8.Columns.length k10, .bool x8.Unique]
abbrev y2 (A2 : Option Addr) (k3 : Nat) (x1 : api_Table) (A4 : Option Addr) (k5 : Nat) (A6 : Option Addr) (k7 : Nat) (A9 : Option Addr) (k10 : Nat) (x8 : api_Index) (A12 : Option Addr) (k13 : Nat) (x11 : api_KV) (A14 : Option Addr) (k15 : Nat) : List Atom := [sl .ro kapi_Column A2 k3 x1.Columns, sl .ro ki64 A4 k5 x1.Key, sl .ro kapi_Index A6 k7 x1.Indexes, sl .ro ki64 A9 k10 x8.Columns, sl .ro ku8 A12 k13 x11.Key, sl .ro ku8 A14 k15 x11.Value]
abbrev y3 (x1 : api_Table) (x37 : Int) : List Value := [.string ((gi dapi_Column x1.Columns x37).Name), .int .i64 ((gi dapi_Column x1.Columns x37).Type'), .bool ((gi dapi_Column x1.Columns x37).NotNull), .int .i64 (((gi dapi_Column x1.Columns x37).Default).Type'), .bool (((gi dapi_Column x1.Columns x37).Default).Null), .int .i64 (((gi dapi_Column x1.Columns x37).Default).Int), .string (((gi dapi_Column x1.Columns x37).Default).Text)]
abbrev y4 (b18 : Nat) (A12 : Option Addr) (x11 : api_KV) (k13 : Nat) (A14 : Option Addr) (k15 : Nat) : Atom := blk b18 [.slice A12 x11.Key.length k13, .slice A14 x11.Value.length k15]
abbrev y5 (A2 : Option Addr) (k3 : Nat) (x1 : api_Table) : Atom := sl .ro kapi_Column A2 k3 x1.Columns
abbrev y6 (A6 : Option Addr) (k7 : Nat) (x1 : api_Table) : Atom := sl .ro kapi_Index A6 k7 x1.Indexes
abbrev y7 (x1 : api_Table) (x37 : Int) : api_Value := (api_Value.mk ((gi dapi_Column x1.Columns x37).Type') (!((gi dapi_Column x1.Columns x37).NotNull)) 0 (⟨#[]⟩ : ByteArray))
abbrev y8 (A9 : Option Addr) (k10 : Nat) (x8 : api_Index) : Atom := sl .ro ki64 A9 k10 x8.Columns
abbrev y9 (A4 : Option Addr) (k5 : Nat) (x1 : api_Table) : Atom := sl .ro ki64 A4 k5 x1.Key
abbrev y10 : Atom := sl .own kapi_Value none 0 ([] : List api_Value)
abbrev y11 (A41 : Option Addr) (x11 : api_KV) (x24 : (List Int)) (k13 : Nat) : Value := .slice A41 ((cut x11.Key (Int.toNat (x24.length : Int)) (Int.toNat (x11.Key.length : Int))).length) (Int.toNat (k13 : Int) - Int.toNat (x24.length : Int))
abbrev y12 (A14 : Option Addr) (k15 : Nat) (x11 : api_KV) : Atom := sl .ro ku8 A14 k15 x11.Value
theorem J2_ok (F : List Atom) (r : (List api_Value) × (List api_Value) × Int) (z : Nat) (x1 : api_Table) (A2 : Option Addr) (k3 : Nat) (A4 : Option Addr) (k5 : Nat) (A6 : Option Addr) (k7 : Nat) (x8 : api_Index) (A9 : Option Addr) (k10 : Nat) (x11 : api_KV) (A12 : Option Addr) (k13 : Nat) (A14 : Option Addr) (k15 : Nat) (a : Act) (w : World) (T : Tm 118 [] a) (S : SL ((y2 A2 k3 x1 A4 k5 A6 k7 A9 k10 x8 A12 k13 x11 A14 k15) ++ F) w) (H : J2 z = some r) : Gets Tryd.prog 14 ptJ2 a w (R F x1 A2 k3 A4 k5 A6 k7 x8 A9 k10 x11 A12 k13 A14 k15 r) := by
 refine rg ?_
 refine r_pv T rfl rfl fun _ T => ?_
 refine r_pv T rfl rfl fun _ T => ?_
 refine r_pv T rfl rfl fun _ T => ?_
 replace S := S.nil kapi_Value .own
 replace S := S.nil kapi_Value .own
 replace H := Option.some.inj H
 subst H
 exact rtn T Tryd.func14 rfl rfl ⟨none, 0, none, 0, rfl, (S.only (p := [(y10), (y10), (y5 A2 k3 x1), (y9 A4 k5 x1), (y6 A6 k7 x1), (y8 A9 k10 x8), sl .ro ku8 A12 k13 x11.Key, (y12 A14 k15 x11)]) [1, 0, 0, 0, 0, 0, 0, 0] rfl)⟩
theorem L1_ok (F : List Atom) (r : (List api_Value) × (List api_Value) × Int) (z : Nat) (x1 : api_Table) (A2 : Option Addr) (k3 : Nat) (A4 : Option Addr) (k5 : Nat) (A6 : Option Addr) (k7 : Nat) (x8 : api_Index) (A9 : Option Addr) (k10 : Nat) (x11 : api_KV) (A12 : Option Addr) (k13 : Nat) (A14 : Option Addr) (k15 : Nat) (b16 : Nat) (b17 : Nat) (b18 : Nat) (A25 : Option Addr) (x24 : (List Int)) (k26 : Nat) (m : Nat) : ∀ (A35 : Option Addr) (x34 : List api_Value) (k36 : Nat) (x37 : Int) (a : Act) (w : World), Tm 118 [(3, .pointer (some ⟨b16, 0, none⟩)), (4, .pointer (some ⟨b17, 0, none⟩)), (5, .pointer (some ⟨b18, 0, none⟩)), (9, .slice A25 x24.length k26), (10, .slice A35 x34.length k36), (50, .slice A2 x1.Columns.length k3), (51, .int .i64 (x1.Columns.length : Int)), (52, .int .i64 x37)] a → SL ([(y5 A2 k3 x1), (y9 A4 k5 x1), (y6 A6 k7 x1), (y8 A9 k10 x8), sl .ro ku8 A12 k13 x11.Key, (y12 A14 k15 x11), blk b16 (y0 x1 A2 k3 A4 k5 A6 k7), blk b17 (y1 x8 A9 k10), (y4 b18 A12 x11 k13 A14 k15), sl .own ku8 A25 k26 x24, sl .own kapi_Value A35 k36 x34] ++ F) w → L1 z x1 x8 x11 x24 m x34 x37 = some r → Gets Tryd.prog 14 ptL1 a w (R F x1 A2 k3 A4 k5 A6 k7 x8 A9 k10 x11 A12 k13 A14 k15 r) := by
 induction m with
 | zero => intro _ _ _ _ _ _ _ _ H; cases H
 | succ m ih =>
  intro A35 x34 k36 x37 a w T S H
  refine Gets.seq ?_
  refine rg ?_
  refine r_pv T rfl rfl fun _ T => ?_
  refine Gets.seq ?_
  rcases ifE H with ⟨h38, H⟩ | ⟨h38, H⟩
  ·refine cdT T rfl h38 ?_
   refine Gets.skip (Gets.seq (Gets.block (Gets.seq ?_)))
   refine rg ?_
   refine r_pv T rfl rfl fun _ T => ?_
   obtain ⟨h75, H⟩ := ck H
   refine r_ia (ix := 0) T S rfl rfl rfl rfl Tryd.runUnderlying22 Tryd.sizeOf72 h75.1 h75.2 rfl fun _ T => ?_
   refine r_ldEA (ix := 0) (i := x37) (off := 0) T S rfl rfl Tryd.isAgg72 Tryd.sizeOf72 dapi_Column rfl (Fld.all _) h75.1 h75.2 rfl fun _ _ S T => ?_
   obtain ⟨hv_, S_⟩ := op_api_Column S
   subst hv_
   replace S := S_
   refine r_alloc T S zv72 (cs := [.string (⟨#[]⟩ : ByteArray), .int .i64 0, .bool false, .int .i64 0, .bool false, .int .i64 0, .string (⟨#[]⟩ : ByteArray)]) rfl rfl fun _ _ b76 S T => ?_
   refine r_pv T rfl rfl fun _ T => ?_
   refine r_stBA (ix := 0) (vs := (y3 x1 x37)) (l' := [blk b76 (y3 x1 x37), (y5 A2 k3 x1), (y9 A4 k5 x1), (y6 A6 k7 x1), (y8 A9 k10 x8), sl .ro ku8 A12 k13 x11.Key, (y12 A14 k15 x11), blk b16 (y0 x1 A2 k3 A4 k5 A6 k7), blk b17 (y1 x8 A9 k10), (y4 b18 A12 x11 k13 A14 k15), sl .own ku8 A25 k26 x24, sl .own kapi_Value A35 k36 x34]) T S rfl rfl rfl rfl (by simp) Tryd.sizeOf72 (Nat.le_of_ble_eq_true rfl) rfl fun _ S => ?_
   refine rg ?_
   refine r_pv T rfl rfl fun _ T => ?_
   refine r_pv T rfl rfl fun _ T => ?_
   refine r_fa (o' := 1) T rfl Tryd.runUnderlying72 rfl Tryd.sizeOf3 rfl rfl fun _ T => ?_
   refine r_ldB (ix := 0) T S rfl Tryd.isAgg3 rfl rfl rfl fun _ T => ?_
   refine r_fa (o' := 2) T rfl Tryd.runUnderlying72 rfl Tryd.sizeOf4 rfl rfl fun _ T => ?_
   refine r_ldB (ix := 0) T S rfl Tryd.isAgg4 rfl rfl rfl fun _ T => ?_
   refine r_pv T rfl rfl fun _ T => ?_
   refine r_build (cs := #[.int .i64 ((gi dapi_Column x1.Columns x37).Type'), .bool (!((gi dapi_Column x1.Columns x37).NotNull)), .int .i64 0, .string (⟨#[]⟩ : ByteArray)]) T stt43 rfl rfl rfl fun _ T => ?_
   obtain ⟨h77, H⟩ := ck H
   refine r_ia (ix := 11) T S rfl rfl rfl rfl Tryd.runUnderlying27 Tryd.sizeOf43 h75.1 h77 rfl fun _ T => ?_
   refine r_stEO (ix := 11) (i := x37) (u := (y7 x1 x37)) (vs := [.int .i64 ((gi dapi_Column x1.Columns x37).Type'), .bool (!((gi dapi_Column x1.Columns x37).NotNull)), .int .i64 0, .string (⟨#[]⟩ : ByteArray)]) (l' := [blk b76 (y3 x1 x37), (y5 A2 k3 x1), (y9 A4 k5 x1), (y6 A6 k7 x1), (y8 A9 k10 x8), sl .ro ku8 A12 k13 x11.Key, (y12 A14 k15 x11), blk b16 (y0 x1 A2 k3 A4 k5 A6 k7), blk b17 (y1 x8 A9 k10), (y4 b18 A12 x11 k13 A14 k15), sl .own ku8 A25 k26 x24, sl .own kapi_Value A35 k36 (x34.set (Int.toNat x37) (y7 x1 x37))]) T S rfl rfl rfl rfl (by simp) (fun _ => ⟨_, _, rfl, rfl, ⟨_, _, rfl, rfl, ⟨_, _, rfl, rfl, rfl⟩⟩⟩) Tryd.sizeOf43 h75.1 h77 rfl fun _ S => ?_
   refine Gets.inBlock ?_
   refine rg ?_
   refine r_pv T rfl rfl fun _ T => ?_
   refine r_pv T rfl rfl fun _ T => ?_
   refine Gets.inLoop ?_
   have T := T.re (s := 10) (v' := .slice A35 (x34.set (Int.toNat x37) (y7 x1 x37)).length k36) rfl (by simp)
   exact ih A35 (x34.set (Int.toNat x37) (y7 x1 x37)) k36 (wr .i64 (x37 + 1)) _ _ (T.sub ⟨rfl, rfl, rfl, rfl, rfl, rfl, rfl, rfl, trivial⟩) (S.only (p := [(y5 A2 k3 x1), (y9 A4 k5 x1), (y6 A6 k7 x1), (y8 A9 k10 x8), sl .ro ku8 A12 k13 x11.Key, (y12 A14 k15 x11), blk b16 (y0 x1 A2 k3 A4 k5 A6 k7), blk b17 (y1 x8 A9 k10), (y4 b18 A12 x11 k13 A14 k15), sl .own ku8 A25 k26 x24, sl .own kapi_Value A35 k36 (x34.set (Int.toNat x37) (y7 x1 x37))]) [1, 1, 1, 1, 1, 1, 1, 1, 1, 1, 1] rfl) H
  ·refine cdF T rfl h38 ?_
   refine Gets.exit rfl (Gets.seq ?_)
   refine rg ?_
   refine r_fa (o' := 0) T rfl Tryd.runUnderlying31 rfl Tryd.sizeOf29 rfl rfl fun _ T => ?_
   refine r_ldB (ix := 8) T S rfl Tryd.isAgg29 rfl rfl rfl fun _ T => ?_
   refine r_pv T rfl rfl fun _ T => ?_
   refine r_lenS T rfl Tryd.runUnderlying29 rfl fun _ T => ?_
   have h39 := S.len (i := 4) rfl
   obtain ⟨h40, H⟩ := ck H
   refine r_slR (ix := 4) (xs := x11.Key) T S rfl rfl (fun h => by cases h) rfl rfl rfl h40.1 h40.2 (Int.le_refl _) (by omega) (by omega) Tryd.runUnderlying29 Tryd.sizeOf5 rfl fun _ A41 S T => ?_
   refine r_build (cs := #[(y11 A41 x11 x24 k13), .bool false]) T stt69 rfl rfl rfl fun _ T => ?_
   refine r_box T S rfl (cs := [(y11 A41 x11 x24 k13), .bool false]) rfl rfl fun _ _ b42 S T => ?_
   refine r_pv T rfl rfl fun _ T => ?_
   refine Gets.seq ?_
   refine rg ?_
   refine r_pv T rfl rfl fun _ T => ?_
   refine r_ldBA (ix := 8) (ds := (y0 x1 A2 k3 A4 k5 A6 k7)) T S rfl Tryd.isAgg26 rfl rfl Tryd.sizeOf26 rfl fun _ T => ?_
   refine r_fa (o' := 2) T rfl Tryd.runUnderlying46 rfl Tryd.sizeOf23 rfl rfl fun _ T => ?_
   refine r_ldB (ix := 9) T S rfl Tryd.isAgg23 rfl rfl rfl fun _ T => ?_
   refine r_pv T rfl rfl fun _ T => ?_
   replace S := S.dup (i := 2) rfl
   replace S := S.dup (i := 4) rfl
   replace S := S.dup (i := 6) rfl
   replace S := S.dup (i := 8) rfl
   obtain ⟨x44, h43, H⟩ := bd H
   refine r_call T Tryd.call31 rfl rfl (rowkey_reader_keys.ok _ _ z (rowkey_reader.mk (cut x11.Key (Int.toNat (x24.length : Int)) (Int.toNat (x11.Key.length : Int))) false) x1 x8.Columns x34 (S.sel (p := [blk b42 [(y11 A41 x11 x24 k13), .bool false], sl .ro ku8 A41 (Int.toNat (k13 : Int) - Int.toNat (x24.length : Int)) (cut x11.Key (Int.toNat (x24.length : Int)) (Int.toNat (x11.Key.length : Int))), (y5 A2 k3 x1), (y9 A4 k5 x1), (y6 A6 k7 x1), (y8 A9 k10 x8), sl .own kapi_Value A35 k36 x34]) (is := [4, 4, 3, 2, 1, 0, 10]) rfl) _ h43) ?_
   rintro _ _ ⟨A46, k47, rfl, S⟩
   refine ⟨_, rfl, fun _ T => ?_⟩
   replace S : SL ([blk b42 [.slice A46 x44.1.b.length k47, .bool x44.1.bad], sl .ro ku8 A46 k47 x44.1.b, sl .own kapi_Value A35 k36 x44.2, pr (x44.2.length = x34.length), (y5 A2 k3 x1), (y9 A4 k5 x1), (y6 A6 k7 x1), (y8 A9 k10 x8), sl .ro ku8 A12 k13 x11.Key, (y12 A14 k15 x11), blk b16 (y0 x1 A2 k3 A4 k5 A6 k7), blk b17 (y1 x8 A9 k10), (y4 b18 A12 x11 k13 A14 k15), sl .own ku8 A25 k26 x24] ++ F) _ := S.join.only [0, 0, 4, 4, 4, 4, 4, 4, 4, 4, 4, 4, 4, 4] rfl
   have h48 := (S.getp (i := 3) rfl)
   refine Gets.seq ?_
   refine rg ?_
   refine r_pv T rfl rfl fun _ T => ?_
   refine r_fa (o' := 2) T rfl Tryd.runUnderlying46 rfl Tryd.sizeOf23 rfl rfl fun _ T => ?_
   refine r_ldB (ix := 11) T S rfl Tryd.isAgg23 rfl rfl rfl fun _ T => ?_
   replace T := T.re (s := 80) (v' := .slice A35 x44.2.length k36) rfl (by rw [h48])
   replace S := S.dup (i := 7) rfl
   obtain ⟨x50, h49, H⟩ := bd H
   refine r_call T Tryd.call38 rfl rfl (rowkey_some.ok _ _ z x44.2 x8.Columns (S.sel (p := [sl .own kapi_Value A35 k36 x44.2, (y8 A9 k10 x8)]) (is := [3, 0]) rfl) _ h49) ?_
   rintro _ _ ⟨A51, k52, rfl, S⟩
   refine ⟨_, rfl, fun _ T => ?_⟩
   replace S : SL ([sl .own kapi_Value A51 k52 x50, sl .own kapi_Value A35 k36 x44.2, blk b42 [.slice A46 x44.1.b.length k47, .bool x44.1.bad], sl .ro ku8 A46 k47 x44.1.b, pr (x44.2.length = x34.length), (y5 A2 k3 x1), (y9 A4 k5 x1), (y6 A6 k7 x1), (y8 A9 k10 x8), sl .ro ku8 A12 k13 x11.Key, (y12 A14 k15 x11), blk b16 (y0 x1 A2 k3 A4 k5 A6 k7), blk b17 (y1 x8 A9 k10), (y4 b18 A12 x11 k13 A14 k15), sl .own ku8 A25 k26 x24] ++ F) _ := S.join.only [0, 0, 1, 1, 1, 1, 1, 1, 1, 1, 1, 1, 1, 1, 1] rfl
   refine r_pv T rfl rfl fun _ T => ?_
   refine Gets.seq ?_
   refine rg ?_
   refine r_pv T rfl rfl fun _ T => ?_
   refine r_ldBA (ix := 11) (ds := (y0 x1 A2 k3 A4 k5 A6 k7)) T S rfl Tryd.isAgg26 rfl rfl Tryd.sizeOf26 rfl fun _ T => ?_
   refine r_fa (o' := 3) T rfl Tryd.runUnderlying26 rfl Tryd.sizeOf23 rfl rfl fun _ T => ?_
   refine r_ldB (ix := 11) T S rfl Tryd.isAgg23 rfl rfl rfl fun _ T => ?_
   refine r_pv T rfl rfl fun _ T => ?_
   replace T := T.re (s := 88) (v' := .slice A35 x44.2.length k36) rfl (by rw [h48])
   replace S := S.dup (i := 5) rfl
   replace S := S.dup (i := 7) rfl
   replace S := S.dup (i := 9) rfl
   replace S := S.dup (i := 9) rfl
   obtain ⟨x54, h53, H⟩ := bd H
   refine r_call T Tryd.call31 rfl rfl (rowkey_reader_keys.ok _ _ z x44.1 x1 x1.Key x44.2 (S.sel (p := [blk b42 [.slice A46 x44.1.b.length k47, .bool x44.1.bad], sl .ro ku8 A46 k47 x44.1.b, (y5 A2 k3 x1), (y9 A4 k5 x1), (y6 A6 k7 x1), (y9 A4 k5 x1), sl .own kapi_Value A35 k36 x44.2]) (is := [6, 6, 3, 2, 1, 0, 1]) rfl) _ h53) ?_
   rintro _ _ ⟨A56, k57, rfl, S⟩
   refine ⟨_, rfl, fun _ T => ?_⟩
   replace S : SL ([blk b42 [.slice A56 x54.1.b.length k57, .bool x54.1.bad], sl .ro ku8 A56 k57 x54.1.b, sl .own kapi_Value A35 k36 x54.2, pr (x54.2.length = x44.2.length), sl .own kapi_Value A51 k52 x50, pr (x44.2.length = x34.length), (y5 A2 k3 x1), (y9 A4 k5 x1), (y6 A6 k7 x1), (y8 A9 k10 x8), sl .ro ku8 A12 k13 x11.Key, (y12 A14 k15 x11), blk b16 (y0 x1 A2 k3 A4 k5 A6 k7), blk b17 (y1 x8 A9 k10), (y4 b18 A12 x11 k13 A14 k15), sl .own ku8 A25 k26 x24] ++ F) _ := S.join.only [0, 0, 4, 4, 4, 4, 4, 4, 4, 4, 4, 4, 4, 4, 4, 4] rfl
   have h58 := (S.getp (i := 3) rfl).trans h48
   refine Gets.seq ?_
   refine rg ?_
   refine r_ldBA (ix := 12) (ds := (y0 x1 A2 k3 A4 k5 A6 k7)) T S rfl Tryd.isAgg26 rfl rfl Tryd.sizeOf26 rfl fun _ T => ?_
   refine r_ldBA (ix := 13) (ds := (y1 x8 A9 k10)) T S rfl Tryd.isAgg46 rfl rfl Tryd.sizeOf46 rfl fun _ T => ?_
   refine r_pv T rfl rfl fun _ T => ?_
   replace T := T.re (s := 93) (v' := .slice A35 x54.2.length k36) rfl (by rw [h58])
   replace S := S.dup (i := 6) rfl
   replace S := S.dup (i := 8) rfl
   replace S := S.dup (i := 10) rfl
   replace S := S.dup (i := 12) rfl
   obtain ⟨x60, h59, H⟩ := bd H
   refine r_call T Tryd.call13 rfl rfl (rowkey_Entry.ok _ _ z x1 x8 x54.2 (S.sel (p := [(y5 A2 k3 x1), (y9 A4 k5 x1), (y6 A6 k7 x1), (y8 A9 k10 x8), sl .own kapi_Value A35 k36 x54.2]) (is := [3, 2, 1, 0, 2]) rfl) _ h59) ?_
   rintro _ _ ⟨A61, k62, A63, k64, rfl, S⟩
   refine ⟨_, rfl, fun _ T => ?_⟩
   replace S : SL ([sl .ro ku8 A61 k62 x60.1.Key, sl .ro ku8 A63 k64 x60.1.Value, sl .own kapi_Value A35 k36 x54.2, blk b42 [.slice A56 x54.1.b.length k57, .bool x54.1.bad], sl .ro ku8 A56 k57 x54.1.b, pr (x54.2.length = x44.2.length), sl .own kapi_Value A51 k52 x50, pr (x44.2.length = x34.length), (y5 A2 k3 x1), (y9 A4 k5 x1), (y6 A6 k7 x1), (y8 A9 k10 x8), sl .ro ku8 A12 k13 x11.Key, (y12 A14 k15 x11), blk b16 (y0 x1 A2 k3 A4 k5 A6 k7), blk b17 (y1 x8 A9 k10), (y4 b18 A12 x11 k13 A14 k15), sl .own ku8 A25 k26 x24] ++ F) _ := S.join.only [0, 0, 4, 4, 4, 4, 4, 4, 4, 4, 4, 4, 4, 4, 4, 4, 4, 4] rfl
   refine r_pv T rfl rfl fun _ T => ?_
   refine r_pv T rfl rfl fun _ T => ?_
   refine r_pv T rfl rfl fun _ T => ?_
   refine r_alloc T S zv31 (cs := [.slice none 0 0, .slice none 0 0]) rfl rfl fun _ _ b65 S T => ?_
   refine r_stBA (ix := 0) (vs := [.slice A61 x60.1.Key.length k62, .slice A63 x60.1.Value.length k64]) (l' := [blk b65 [.slice A61 x60.1.Key.length k62, .slice A63 x60.1.Value.length k64], sl .ro ku8 A61 k62 x60.1.Key, sl .ro ku8 A63 k64 x60.1.Value, sl .own kapi_Value A35 k36 x54.2, blk b42 [.slice A56 x54.1.b.length k57, .bool x54.1.bad], sl .ro ku8 A56 k57 x54.1.b, pr (x54.2.length = x44.2.length), sl .own kapi_Value A51 k52 x50, pr (x44.2.length = x34.length), (y5 A2 k3 x1), (y9 A4 k5 x1), (y6 A6 k7 x1), (y8 A9 k10 x8), sl .ro ku8 A12 k13 x11.Key, (y12 A14 k15 x11), blk b16 (y0 x1 A2 k3 A4 k5 A6 k7), blk b17 (y1 x8 A9 k10), (y4 b18 A12 x11 k13 A14 k15), sl .own ku8 A25 k26 x24]) T S rfl rfl rfl rfl (by simp) Tryd.sizeOf31 (Nat.le_of_ble_eq_true rfl) rfl fun _ S => ?_
   refine r_pv T rfl rfl fun _ T => ?_
   refine Gets.seq (Gets.seq ?_)
   refine rg ?_
   refine r_pv T rfl rfl fun _ T => ?_
   refine r_pv T rfl rfl fun _ T => ?_
   refine r_fa (o' := 1) T rfl Tryd.runUnderlying69 rfl Tryd.sizeOf4 rfl rfl fun _ T => ?_
   refine r_ldB (ix := 4) T S rfl Tryd.isAgg4 rfl rfl rfl fun _ T => ?_
   refine r_pv T rfl rfl fun _ T => ?_
   rcases ifE H with ⟨h66, H⟩ | ⟨h66, H⟩
   ·refine g_no T rfl rfl h66 rfl fun _ T => ?_
    refine g_no T rfl rfl h66 rfl fun _ T => ?_
    refine r_pickT T rfl h66 rfl rfl fun _ T => ?_
    refine r_pv T rfl rfl fun _ T => ?_
    refine g_no T rfl rfl rfl rfl fun _ T => ?_
    refine g_no T rfl rfl rfl rfl fun _ T => ?_
    refine g_no T rfl rfl rfl rfl fun _ T => ?_
    refine g_no T rfl rfl rfl rfl fun _ T => ?_
    refine g_no T rfl rfl rfl rfl fun _ T => ?_
    refine g_no T rfl rfl rfl rfl fun _ T => ?_
    refine r_pickT T rfl rfl rfl rfl fun _ T => ?_
    refine cdT T rfl rfl ?_
    refine Gets.seq ?_
    exact J2_ok F r z x1 A2 k3 A4 k5 A6 k7 x8 A9 k10 x11 A12 k13 A14 k15 _ _ (T.sub trivial) (S.only (p := (y2 A2 k3 x1 A4 k5 A6 k7 A9 k10 x8 A12 k13 x11 A14 k15)) [9, 9, 9, 9, 9, 9] rfl) H
   ·refine g_yes T rfl rfl h66 ?_
    refine r_pv T rfl rfl fun _ T => ?_
    refine g_yes T rfl rfl h66 ?_
    refine r_pv T rfl rfl fun _ T => ?_
    refine r_pickF T rfl h66 rfl rfl fun _ T => ?_
    refine r_pv T rfl rfl fun _ T => ?_
    rcases ifE H with ⟨h67, H⟩ | ⟨h67, H⟩
    ·refine g_no T rfl rfl h67 rfl fun _ T => ?_
     refine g_no T rfl rfl h67 rfl fun _ T => ?_
     refine g_no T rfl rfl h67 rfl fun _ T => ?_
     refine g_no T rfl rfl h67 rfl fun _ T => ?_
     refine g_no T rfl rfl h67 rfl fun _ T => ?_
     refine g_no T rfl rfl h67 rfl fun _ T => ?_
     refine r_pickT T rfl h67 rfl rfl fun _ T => ?_
     refine cdT T rfl rfl ?_
     refine Gets.seq ?_
     exact J2_ok F r z x1 A2 k3 A4 k5 A6 k7 x8 A9 k10 x11 A12 k13 A14 k15 _ _ (T.sub trivial) (S.only (p := (y2 A2 k3 x1 A4 k5 A6 k7 A9 k10 x8 A12 k13 x11 A14 k15)) [9, 9, 9, 9, 9, 9] rfl) H
    ·refine g_yes T rfl rfl h67 ?_
     refine r_fa (o' := 0) T rfl Tryd.runUnderlying31 rfl Tryd.sizeOf29 rfl rfl fun _ T => ?_
     refine g_yes T rfl rfl h67 ?_
     refine r_ldB (ix := 0) T S rfl Tryd.isAgg29 rfl rfl rfl fun _ T => ?_
     refine g_yes T rfl rfl h67 ?_
     refine r_fa (o' := 0) T rfl Tryd.runUnderlying31 rfl Tryd.sizeOf29 rfl rfl fun _ T => ?_
     refine g_yes T rfl rfl h67 ?_
     refine r_ldB (ix := 17) T S rfl Tryd.isAgg29 rfl rfl rfl fun _ T => ?_
     refine g_yes T rfl rfl h67 ?_
     replace S := S.dup (i := 13) rfl
     obtain ⟨x69, h68, H⟩ := bd H
     refine r_call T Tryd.call34 rfl rfl (bytes_Equal.ok _ _ x60.1.Key x11.Key (S.sel (p := [sl .ro ku8 A61 k62 x60.1.Key, sl .ro ku8 A12 k13 x11.Key]) (is := [2, 0]) rfl) _ h68) ?_
     rintro _ _ ⟨rfl, S⟩
     refine ⟨_, rfl, fun _ T => ?_⟩
     replace S : SL ([sl .ro ku8 A61 k62 x60.1.Key, blk b65 [.slice A61 x60.1.Key.length k62, .slice A63 x60.1.Value.length k64], sl .ro ku8 A63 k64 x60.1.Value, sl .own kapi_Value A35 k36 x54.2, blk b42 [.slice A56 x54.1.b.length k57, .bool x54.1.bad], sl .ro ku8 A56 k57 x54.1.b, pr (x54.2.length = x44.2.length), sl .own kapi_Value A51 k52 x50, pr (x44.2.length = x34.length), (y5 A2 k3 x1), (y9 A4 k5 x1), (y6 A6 k7 x1), (y8 A9 k10 x8), sl .ro ku8 A12 k13 x11.Key, (y12 A14 k15 x11), blk b16 (y0 x1 A2 k3 A4 k5 A6 k7), blk b17 (y1 x8 A9 k10), (y4 b18 A12 x11 k13 A14 k15), sl .own ku8 A25 k26 x24] ++ F) _ := S.join.only [0, 1, 1, 1, 1, 1, 1, 1, 1, 1, 1, 1, 1, 1, 1, 1, 1, 1, 1] rfl
     refine g_yes T rfl rfl h67 ?_
     refine r_pv T rfl rfl fun _ T => ?_
     refine r_pickF T rfl h67 rfl rfl fun _ T => ?_
     rcases ifE H with ⟨h70, H⟩ | ⟨h70, H⟩
     ·refine cdT T rfl h70 ?_
      refine Gets.seq ?_
      exact J2_ok F r z x1 A2 k3 A4 k5 A6 k7 x8 A9 k10 x11 A12 k13 A14 k15 _ _ (T.sub trivial) (S.only (p := (y2 A2 k3 x1 A4 k5 A6 k7 A9 k10 x8 A12 k13 x11 A14 k15)) [9, 9, 9, 9, 9, 9] rfl) H
     ·refine cdF T rfl h70 ?_
      refine Gets.skip (Gets.seq ?_)
      refine rg ?_
      refine r_pv T rfl rfl fun _ T => ?_
      refine r_pv T rfl rfl fun _ T => ?_
      refine r_fa (o' := 3) T rfl Tryd.runUnderlying26 rfl Tryd.sizeOf23 rfl rfl fun _ T => ?_
      refine r_ldB (ix := 15) T S rfl Tryd.isAgg23 rfl rfl rfl fun _ T => ?_
      replace T := T.re (s := 114) (v' := .slice A35 x54.2.length k36) rfl (by rw [h58])
      replace S := S.dup (i := 10) rfl
      obtain ⟨x72, h71, H⟩ := bd H
      refine r_call T Tryd.call38 rfl rfl (rowkey_some.ok _ _ z x54.2 x1.Key (S.sel (p := [sl .own kapi_Value A35 k36 x54.2, (y9 A4 k5 x1)]) (is := [4, 0]) rfl) _ h71) ?_
      rintro _ _ ⟨A73, k74, rfl, S⟩
      refine ⟨_, rfl, fun _ T => ?_⟩
      replace S : SL ([sl .own kapi_Value A73 k74 x72, sl .own kapi_Value A35 k36 x54.2, sl .ro ku8 A61 k62 x60.1.Key, blk b65 [.slice A61 x60.1.Key.length k62, .slice A63 x60.1.Value.length k64], sl .ro ku8 A63 k64 x60.1.Value, blk b42 [.slice A56 x54.1.b.length k57, .bool x54.1.bad], sl .ro ku8 A56 k57 x54.1.b, pr (x54.2.length = x44.2.length), sl .own kapi_Value A51 k52 x50, pr (x44.2.length = x34.length), (y5 A2 k3 x1), (y9 A4 k5 x1), (y6 A6 k7 x1), (y8 A9 k10 x8), sl .ro ku8 A12 k13 x11.Key, (y12 A14 k15 x11), blk b16 (y0 x1 A2 k3 A4 k5 A6 k7), blk b17 (y1 x8 A9 k10), (y4 b18 A12 x11 k13 A14 k15), sl .own ku8 A25 k26 x24] ++ F) _ := S.join.only [0, 0, 1, 1, 1, 1, 1, 1, 1, 1, 1, 1, 1, 1, 1, 1, 1, 1, 1, 1] rfl
      refine r_pv T rfl rfl fun _ T => ?_
      refine r_pv T rfl rfl fun _ T => ?_
      refine r_pv T rfl rfl fun _ T => ?_
      replace H := Option.some.inj H
      subst H
      exact rtn T Tryd.func14 rfl rfl ⟨A51, k52, A73, k74, rfl, (S.only (p := [sl .own kapi_Value A51 k52 x50, sl .own kapi_Value A73 k74 x72, (y5 A2 k3 x1), (y9 A4 k5 x1), (y6 A6 k7 x1), (y8 A9 k10 x8), sl .ro ku8 A12 k13 x11.Key, (y12 A14 k15 x11)]) [8, 0, 8, 8, 8, 8, 8, 8] rfl)⟩
theorem J0_ok (F : List Atom) (r : (List api_Value) × (List api_Value) × Int) (z : Nat) (x1 : api_Table) (A2 : Option Addr) (k3 : Nat) (A4 : Option Addr) (k5 : Nat) (A6 : Option Addr) (k7 : Nat) (x8 : api_Index) (A9 : Option Addr) (k10 : Nat) (x11 : api_KV) (A12 : Option Addr) (k13 : Nat) (A14 : Option Addr) (k15 : Nat) (a : Act) (w : World) (T : Tm 118 [] a) (S : SL ((y2 A2 k3 x1 A4 k5 A6 k7 A9 k10 x8 A12 k13 x11 A14 k15) ++ F) w) (H : J0 z = some r) : Gets Tryd.prog 14 ptJ0 a w (R F x1 A2 k3 A4 k5 A6 k7 x8 A9 k10 x11 A12 k13 A14 k15 r) := by
 refine rg ?_
 refine r_pv T rfl rfl fun _ T => ?_
 refine r_pv T rfl rfl fun _ T => ?_
 refine r_pv T rfl rfl fun _ T => ?_
 replace S := S.nil kapi_Value .own
 replace S := S.nil kapi_Value .own
 replace H := Option.some.inj H
 subst H
 exact rtn T Tryd.func14 rfl rfl ⟨none, 0, none, 0, rfl, (S.only (p := [(y10), (y10), (y5 A2 k3 x1), (y9 A4 k5 x1), (y6 A6 k7 x1), (y8 A9 k10 x8), sl .ro ku8 A12 k13 x11.Key, (y12 A14 k15 x11)]) [1, 0, 0, 0, 0, 0, 0, 0] rfl)⟩
theorem ok (F : List Atom) (w : World) (z : Nat) (x1 : api_Table) (x8 : api_Index) (x11 : api_KV) {A2 : Option Addr} {k3 : Nat} {A4 : Option Addr} {k5 : Nat} {A6 : Option Addr} {k7 : Nat} {A9 : Option Addr} {k10 : Nat} {A12 : Option Addr} {k13 : Nat} {A14 : Option Addr} {k15 : Nat} (S : SL ((y2 A2 k3 x1 A4 k5 A6 k7 A9 k10 x8 A12 k13 x11 A14 k15) ++ F) w) (r : (List api_Value) × (List api_Value) × Int) (H : f z x1 x8 x11 = some r) : Calls Tryd.prog 14 #[.agg #[.int .i64 x1.Id, .string x1.Name, .slice A2 x1.Columns.length k3, .slice A4 x1.Key.length k5, .slice A6 x1.Indexes.length k7], .agg #[.int .i64 x8.Id, .string x8.Name, .slice A9 x8.Columns.length k10, .bool x8.Unique], .agg #[.slice A12 x11.Key.length k13, .slice A14 x11.Value.length k15]] w (R F x1 A2 k3 A4 k5 A6 k7 x8 A9 k10 x11 A12 k13 A14 k15 r) := by
 refine enter (vs := [.agg #[.int .i64 x1.Id, .string x1.Name, .slice A2 x1.Columns.length k3, .slice A4 x1.Key.length k5, .slice A6 x1.Indexes.length k7], .agg #[.int .i64 x8.Id, .string x8.Name, .slice A9 x8.Columns.length k10, .bool x8.Unique], .agg #[.slice A12 x11.Key.length k13, .slice A14 x11.Value.length k15]]) Tryd.func14 rfl Tryd.ntmps14 (Nat.le_of_ble_eq_true rfl) fun a T => ?_
 refine Gets.seq ?_
 refine rg ?_
 refine r_box T S rfl (cs := (y0 x1 A2 k3 A4 k5 A6 k7)) rfl rfl fun _ _ b16 S T => ?_
 refine r_box T S rfl (cs := (y1 x8 A9 k10)) rfl rfl fun _ _ b17 S T => ?_
 refine r_box T S rfl (cs := [.slice A12 x11.Key.length k13, .slice A14 x11.Value.length k15]) rfl rfl fun _ _ b18 S T => ?_
 refine r_pv T rfl rfl fun _ T => ?_
 refine r_pv T rfl rfl fun _ T => ?_
 refine r_pv T rfl rfl fun _ T => ?_
 refine Gets.seq (Gets.seq ?_)
 refine rg ?_
 refine r_ldBA (ix := 2) (ds := (y0 x1 A2 k3 A4 k5 A6 k7)) T S rfl Tryd.isAgg26 rfl rfl Tryd.sizeOf26 rfl fun _ T => ?_
 refine r_fa (o' := 2) T rfl Tryd.runUnderlying46 rfl Tryd.sizeOf23 rfl rfl fun _ T => ?_
 refine r_ldB (ix := 1) T S rfl Tryd.isAgg23 rfl rfl rfl fun _ T => ?_
 replace S := S.dup (i := 3) rfl
 replace S := S.dup (i := 5) rfl
 replace S := S.dup (i := 7) rfl
 replace S := S.dup (i := 9) rfl
 obtain ⟨x20, h19, H⟩ := bd H
 refine r_call T Tryd.call23 rfl rfl (rowkey_tabled.ok _ _ z x1 x8.Columns (S.sel (p := [(y5 A2 k3 x1), (y9 A4 k5 x1), (y6 A6 k7 x1), (y8 A9 k10 x8)]) (is := [3, 2, 1, 0]) rfl) _ h19) ?_
 rintro _ _ ⟨rfl, S⟩
 refine ⟨_, rfl, fun _ T => ?_⟩
 replace S : SL ([(y4 b18 A12 x11 k13 A14 k15), blk b17 (y1 x8 A9 k10), blk b16 (y0 x1 A2 k3 A4 k5 A6 k7), (y5 A2 k3 x1), (y9 A4 k5 x1), (y6 A6 k7 x1), (y8 A9 k10 x8), sl .ro ku8 A12 k13 x11.Key, (y12 A14 k15 x11)] ++ F) _ := S.join.only [4, 4, 4, 4, 4, 4, 4, 4, 4] rfl
 refine r_pv T rfl rfl fun _ T => ?_
 rcases ifE H with ⟨h21, H⟩ | ⟨h21, H⟩
 ·refine cdT T rfl h21 ?_
  refine Gets.seq ?_
  refine rg ?_
  refine r_pv T rfl rfl fun _ T => ?_
  refine r_pv T rfl rfl fun _ T => ?_
  refine r_pv T rfl rfl fun _ T => ?_
  replace S := S.nil kapi_Value .own
  replace S := S.nil kapi_Value .own
  replace H := Option.some.inj H
  subst H
  exact rtn T Tryd.func14 rfl rfl ⟨none, 0, none, 0, rfl, (S.only (p := [(y10), (y10), (y5 A2 k3 x1), (y9 A4 k5 x1), (y6 A6 k7 x1), (y8 A9 k10 x8), sl .ro ku8 A12 k13 x11.Key, (y12 A14 k15 x11)]) [1, 0, 3, 3, 3, 3, 3, 3] rfl)⟩
 ·refine cdF T rfl h21 ?_
  refine Gets.skip (Gets.seq ?_)
  refine rg ?_
  refine r_fa (o' := 0) T rfl Tryd.runUnderlying26 rfl Tryd.sizeOf3 rfl rfl fun _ T => ?_
  refine r_ldB (ix := 2) T S rfl Tryd.isAgg3 rfl rfl rfl fun _ T => ?_
  refine r_fa (o' := 0) T rfl Tryd.runUnderlying46 rfl Tryd.sizeOf3 rfl rfl fun _ T => ?_
  refine r_ldB (ix := 1) T S rfl Tryd.isAgg3 rfl rfl rfl fun _ T => ?_
  replace S := SL.val (κ := ki64) (x := x1.Id) (cs := [.int .i64 x1.Id]) (fun _ => rfl) S
  replace S := SL.val (κ := ki64) (x := x8.Id) (cs := [.int .i64 x8.Id]) (fun _ => rfl) S
  refine r_bsl (κ := ki64) (xs := [x1.Id, x8.Id]) (vs := [.int .i64 x1.Id, .int .i64 x8.Id]) T S sty23 rfl ⟨_, _, rfl, ⟨1, rfl⟩, ⟨_, _, rfl, ⟨0, rfl⟩, rfl⟩⟩ rfl (by decide) rfl fun _ _ b22 S T => ?_
  replace S : SL ([sl .own ki64 (some ⟨b22, 0, none⟩) 2 [x1.Id, x8.Id], (y4 b18 A12 x11 k13 A14 k15), blk b17 (y1 x8 A9 k10), blk b16 (y0 x1 A2 k3 A4 k5 A6 k7), (y5 A2 k3 x1), (y9 A4 k5 x1), (y6 A6 k7 x1), (y8 A9 k10 x8), sl .ro ku8 A12 k13 x11.Key, (y12 A14 k15 x11)] ++ F) _ := S.only [0, 2, 2, 2, 2, 2, 2, 2, 2, 2] rfl
  obtain ⟨x24, h23, H⟩ := bd H
  refine r_call T Tryd.call26 rfl rfl (rowkey_begin.ok _ _ z [x1.Id, x8.Id] (S.sel (p := [sl .own ki64 (some ⟨b22, 0, none⟩) 2 [x1.Id, x8.Id]]) (is := [0]) rfl) _ h23) ?_
  rintro _ _ ⟨A25, k26, rfl, S⟩
  refine ⟨_, rfl, fun _ T => ?_⟩
  replace S : SL ([sl .own ku8 A25 k26 x24, sl .own ki64 (some ⟨b22, 0, none⟩) 2 [x1.Id, x8.Id], (y4 b18 A12 x11 k13 A14 k15), blk b17 (y1 x8 A9 k10), blk b16 (y0 x1 A2 k3 A4 k5 A6 k7), (y5 A2 k3 x1), (y9 A4 k5 x1), (y6 A6 k7 x1), (y8 A9 k10 x8), sl .ro ku8 A12 k13 x11.Key, (y12 A14 k15 x11)] ++ F) _ := S.join
  refine r_pv T rfl rfl fun _ T => ?_
  refine Gets.seq (Gets.seq ?_)
  refine rg ?_
  refine r_fa (o' := 1) T rfl Tryd.runUnderlying31 rfl Tryd.sizeOf29 rfl rfl fun _ T => ?_
  refine r_ldB (ix := 2) T S rfl Tryd.isAgg29 rfl rfl rfl fun _ T => ?_
  refine r_lenS T rfl Tryd.runUnderlying29 rfl fun _ T => ?_
  refine r_pv T rfl rfl fun _ T => ?_
  refine r_pv T rfl rfl fun _ T => ?_
  rcases ifE H with ⟨h27, H⟩ | ⟨h27, H⟩
  ·refine g_no T rfl rfl h27 rfl fun _ T => ?_
   refine g_no T rfl rfl h27 rfl fun _ T => ?_
   refine g_no T rfl rfl h27 rfl fun _ T => ?_
   refine g_no T rfl rfl h27 rfl fun _ T => ?_
   refine r_pickT T rfl h27 rfl rfl fun _ T => ?_
   refine r_pv T rfl rfl fun _ T => ?_
   refine g_no T rfl rfl rfl rfl fun _ T => ?_
   refine g_no T rfl rfl rfl rfl fun _ T => ?_
   refine g_no T rfl rfl rfl rfl fun _ T => ?_
   refine g_no T rfl rfl rfl rfl fun _ T => ?_
   refine g_no T rfl rfl rfl rfl fun _ T => ?_
   refine r_pickT T rfl rfl rfl rfl fun _ T => ?_
   refine cdT T rfl rfl ?_
   refine Gets.seq ?_
   exact J0_ok F r z x1 A2 k3 A4 k5 A6 k7 x8 A9 k10 x11 A12 k13 A14 k15 _ _ (T.sub trivial) (S.only (p := (y2 A2 k3 x1 A4 k5 A6 k7 A9 k10 x8 A12 k13 x11 A14 k15)) [5, 5, 5, 5, 5, 5] rfl) H
  ·refine g_yes T rfl rfl h27 ?_
   refine r_fa (o' := 0) T rfl Tryd.runUnderlying31 rfl Tryd.sizeOf29 rfl rfl fun _ T => ?_
   refine g_yes T rfl rfl h27 ?_
   refine r_ldB (ix := 2) T S rfl Tryd.isAgg29 rfl rfl rfl fun _ T => ?_
   refine g_yes T rfl rfl h27 ?_
   refine r_lenS T rfl Tryd.runUnderlying29 rfl fun _ T => ?_
   refine g_yes T rfl rfl h27 ?_
   refine r_pv T rfl rfl fun _ T => ?_
   refine r_pickF T rfl h27 rfl rfl fun _ T => ?_
   refine r_pv T rfl rfl fun _ T => ?_
   rcases ifE H with ⟨h28, H⟩ | ⟨h28, H⟩
   ·refine g_no T rfl rfl h28 rfl fun _ T => ?_
    refine g_no T rfl rfl h28 rfl fun _ T => ?_
    refine g_no T rfl rfl h28 rfl fun _ T => ?_
    refine g_no T rfl rfl h28 rfl fun _ T => ?_
    refine g_no T rfl rfl h28 rfl fun _ T => ?_
    refine r_pickT T rfl h28 rfl rfl fun _ T => ?_
    refine cdT T rfl rfl ?_
    refine Gets.seq ?_
    exact J0_ok F r z x1 A2 k3 A4 k5 A6 k7 x8 A9 k10 x11 A12 k13 A14 k15 _ _ (T.sub trivial) (S.only (p := (y2 A2 k3 x1 A4 k5 A6 k7 A9 k10 x8 A12 k13 x11 A14 k15)) [5, 5, 5, 5, 5, 5] rfl) H
   ·refine g_yes T rfl rfl h28 ?_
    refine r_fa (o' := 0) T rfl Tryd.runUnderlying31 rfl Tryd.sizeOf29 rfl rfl fun _ T => ?_
    refine g_yes T rfl rfl h28 ?_
    refine r_ldB (ix := 2) T S rfl Tryd.isAgg29 rfl rfl rfl fun _ T => ?_
    refine g_yes T rfl rfl h28 ?_
    refine r_pv T rfl rfl fun _ T => ?_
    refine g_yes T rfl rfl h28 ?_
    replace S := S.dup (i := 9) rfl
    obtain ⟨x30, h29, H⟩ := bd H
    refine r_call T Tryd.call37 rfl rfl (bytes_HasPrefix.ok _ _ x11.Key x24 (S.sel (p := [sl .ro ku8 A12 k13 x11.Key, sl .own ku8 A25 k26 x24]) (is := [0, 0]) rfl) _ h29) ?_
    rintro _ _ ⟨rfl, S⟩
    refine ⟨_, rfl, fun _ T => ?_⟩
    replace S : SL ([sl .own ku8 A25 k26 x24, sl .own ki64 (some ⟨b22, 0, none⟩) 2 [x1.Id, x8.Id], (y4 b18 A12 x11 k13 A14 k15), blk b17 (y1 x8 A9 k10), blk b16 (y0 x1 A2 k3 A4 k5 A6 k7), (y5 A2 k3 x1), (y9 A4 k5 x1), (y6 A6 k7 x1), (y8 A9 k10 x8), sl .ro ku8 A12 k13 x11.Key, (y12 A14 k15 x11)] ++ F) _ := S.join.only [1, 1, 1, 1, 1, 1, 1, 1, 1, 1, 1] rfl
    refine g_yes T rfl rfl h28 ?_
    refine r_pv T rfl rfl fun _ T => ?_
    refine r_pickF T rfl h28 rfl rfl fun _ T => ?_
    rcases ifE H with ⟨h31, H⟩ | ⟨h31, H⟩
    ·refine cdT T rfl h31 ?_
     refine Gets.seq ?_
     exact J0_ok F r z x1 A2 k3 A4 k5 A6 k7 x8 A9 k10 x11 A12 k13 A14 k15 _ _ (T.sub trivial) (S.only (p := (y2 A2 k3 x1 A4 k5 A6 k7 A9 k10 x8 A12 k13 x11 A14 k15)) [5, 5, 5, 5, 5, 5] rfl) H
    ·refine cdF T rfl h31 ?_
     refine Gets.skip (Gets.seq ?_)
     refine rg ?_
     refine r_fa (o' := 2) T rfl Tryd.runUnderlying26 rfl Tryd.sizeOf22 rfl rfl fun _ T => ?_
     refine r_ldB (ix := 4) T S rfl Tryd.isAgg22 rfl rfl rfl fun _ T => ?_
     refine r_lenS T rfl Tryd.runUnderlying22 rfl fun _ T => ?_
     obtain ⟨h32, H⟩ := ck H
     refine r_make (κ := kapi_Value) T S rfl rfl sty27 dapi_Value (fun _ => ⟨_, _, rfl, rfl, ⟨_, _, rfl, rfl, ⟨_, _, rfl, rfl, rfl⟩⟩⟩) h32.1 (Int.le_refl _) (by decide) (by have := h32.2.2; omega) rfl fun _ _ b33 S T => ?_
     replace T := T.re (s := 48) (v' := .slice (some ⟨b33, 0, none⟩) (List.replicate (Int.toNat (x1.Columns.length : Int)) dapi_Value).length (Int.toNat (x1.Columns.length : Int))) rfl (by simp)
     refine r_pv T rfl rfl fun _ T => ?_
     refine Gets.seq (Gets.seq ?_)
     refine rg ?_
     refine r_fa (o' := 2) T rfl Tryd.runUnderlying26 rfl Tryd.sizeOf22 rfl rfl fun _ T => ?_
     refine r_ldB (ix := 5) T S rfl Tryd.isAgg22 rfl rfl rfl fun _ T => ?_
     refine r_lenS T rfl Tryd.runUnderlying22 rfl fun _ T => ?_
     refine r_pv T rfl rfl fun _ T => ?_
     refine Gets.block ?_
     refine Gets.loop ?_
     exact L1_ok F r z x1 A2 k3 A4 k5 A6 k7 x8 A9 k10 x11 A12 k13 A14 k15 b16 b17 b18 A25 x24 k26 z (some ⟨b33, 0, none⟩) (List.replicate (Int.toNat (x1.Columns.length : Int)) dapi_Value) (Int.toNat (x1.Columns.length : Int)) 0 _ _ (T.sub ⟨rfl, rfl, rfl, rfl, rfl, rfl, rfl, rfl, trivial⟩) (S.only (p := [(y5 A2 k3 x1), (y9 A4 k5 x1), (y6 A6 k7 x1), (y8 A9 k10 x8), sl .ro ku8 A12 k13 x11.Key, (y12 A14 k15 x11), blk b16 (y0 x1 A2 k3 A4 k5 A6 k7), blk b17 (y1 x8 A9 k10), (y4 b18 A12 x11 k13 A14 k15), sl .own ku8 A25 k26 x24, sl .own kapi_Value (some ⟨b33, 0, none⟩) (Int.toNat (x1.Columns.length : Int)) (List.replicate (Int.toNat (x1.Columns.length : Int)) dapi_Value)]) [6, 6, 6, 6, 6, 6, 5, 4, 3, 1, 0] rfl) H
end rowkey_TakeEntry
end Go.Proofs.YtohelmfkpmphoaaDoor
namespace Go.Proofs.YtohelmfkpmphoaaDoor
open Go Go.Proofs.YtohelmfkpmphoaaDoor.X
set_option linter.unusedVariables false
set_option linter.unusedSimpArgs false
set_option maxRecDepth 100000
set_option maxHeartbeats 4000000
namespace rowkey_Part_c1
def R (F : List Atom) (x1 : api_Index) (A2 : Option Addr) (k3 : Nat) (x4 : Int) (b5 : Nat) (r : Bool) : Ending → World → Prop := fun e w' => e = .returned (.bool r) ∧ SL ([sl .ro ki64 A2 k3 x1.Columns, blk b5 [.int .i64 x4]] ++ F) w'
def f (x1 : api_Index) (x4 : Int) : Option Bool := some (x1.Id == x4)
theorem ok (F : List Atom) (w : World) (x1 : api_Index) (x4 : Int) {A2 : Option Addr} {k3 : Nat} {b5 : Nat} (S : SL ([sl .ro ki64 A2 k3 x1.Columns, blk b5 [.int .i64 x4]] ++ F) w) (r : Bool) (H : f x1 x4 = some r) : Calls Tryd.prog 40 #[.agg #[.int .i64 x1.Id, .string x1.Name, .slice A2 x1.Columns.length k3, .bool x1.Unique], .pointer (some ⟨b5, 0, none⟩)] w (R F x1 A2 k3 x4 b5 r) := by
 refine enter (vs := [.agg #[.int .i64 x1.Id, .string x1.Name, .slice A2 x1.Columns.length k3, .bool x1.Unique], .pointer (some ⟨b5, 0, none⟩)]) Tryd.func40 rfl Tryd.ntmps40 (Nat.le_of_ble_eq_true rfl) fun a T => ?_
 refine Gets.seq ?_
 refine rg ?_
 refine r_box T S rfl (cs := [.int .i64 x1.Id, .string x1.Name, .slice A2 x1.Columns.length k3, .bool x1.Unique]) rfl rfl fun _ _ b6 S T => ?_
 refine r_pv T rfl rfl fun _ T => ?_
 refine Gets.seq ?_
 refine rg ?_
 refine r_fa (o' := 0) T rfl Tryd.runUnderlying46 rfl Tryd.sizeOf3 rfl rfl fun _ T => ?_
 refine r_ldB (ix := 0) T S rfl Tryd.isAgg3 rfl rfl rfl fun _ T => ?_
 refine r_ldB (ix := 2) T S rfl Tryd.isAgg3 rfl rfl rfl fun _ T => ?_
 refine r_pv T rfl rfl fun _ T => ?_
 refine r_pv T rfl rfl fun _ T => ?_
 replace H := Option.some.inj H
 subst H
 exact rtn T Tryd.func40 rfl rfl ⟨rfl, (S.only (p := [sl .ro ki64 A2 k3 x1.Columns, blk b5 [.int .i64 x4]]) [1, 1] rfl)⟩
end rowkey_Part_c1
end Go.Proofs.YtohelmfkpmphoaaDoor
namespace Go.Proofs.YtohelmfkpmphoaaDoor
open Go Go.Proofs.YtohelmfkpmphoaaDoor.X
set_option linter.unusedVariables false
set_option linter.unusedSimpArgs false
set_option maxRecDepth 100000
set_option maxHeartbeats 4000000
namespace slices_IndexFunc_cormorant_api_Index_at40
noncomputable def c0 : Code := match Tryd.f39.body with | some c => c | none => .skip
def R (F : List Atom) (x1 : List api_Index) (A2 : Option Addr) (k3 : Nat) (m4 : Md) (x5 : Int) (b6 : Nat) (r : Int) : Ending → World → Prop := fun e w' => e = .returned (.int .i64 r) ∧ SL ([sl m4 kapi_Index A2 k3 x1, blk b6 [.int .i64 x5]] ++ F) w'
def L0 (z : Nat) (x1 : List api_Index) (x5 : Int) : Nat → Int → Option Int
 | 0, _ => none
 | m + 1, x7 => If (decide (x7 < (x1.length : Int))) (Ck (0 ≤ x7 ∧ x7 < (x1.length : Int)) (Bd (rowkey_Part_c1.f (gi dapi_Index x1 x7) x5) fun x13 => If x13 (some x7) (L0 z x1 x5 m (wr .i64 (x7 + 1))))) (some (-1))
def f (z : Nat) (x1 : List api_Index) (x5 : Int) : Option Int := L0 z x1 x5 z 0
noncomputable def ptL0 : List Item := [.code (cB (cB (cR (cL (cR c0))))), .inLoop (cB (cB (cR (cL (cR c0))))), .inBlock 0, .code (cR (cR c0))]
theorem L0_ok (F : List Atom) (r : Int) (z : Nat) (x1 : List api_Index) (A2 : Option Addr) (k3 : Nat) (m4 : Md) (x5 : Int) (b6 : Nat) (m : Nat) : ∀ (x7 : Int) (a : Act) (w : World), Tm 19 [(0, .slice A2 x1.length k3), (1, .func (.func 40) #[] #[.pointer (some ⟨b6, 0, none⟩)]), (7, .int .i64 (x1.length : Int)), (8, .int .i64 x7)] a → SL ([sl m4 kapi_Index A2 k3 x1, blk b6 [.int .i64 x5]] ++ F) w → L0 z x1 x5 m x7 = some r → Gets Tryd.prog 39 ptL0 a w (R F x1 A2 k3 m4 x5 b6 r) := by
 induction m with
 | zero => intro _ _ _ _ _ H; cases H
 | succ m ih =>
  intro x7 a w T S H
  refine Gets.seq ?_
  refine rg ?_
  refine r_pv T rfl rfl fun _ T => ?_
  refine Gets.seq ?_
  rcases ifE H with ⟨h8, H⟩ | ⟨h8, H⟩
  ·refine cdT T rfl h8 ?_
   refine Gets.skip (Gets.seq (Gets.block (Gets.seq ?_)))
   refine rg ?_
   refine r_pv T rfl rfl fun _ T => ?_
   refine r_pv T rfl rfl fun _ T => ?_
   refine Gets.seq ?_
   refine rg ?_
   refine r_pv T rfl rfl fun _ T => ?_
   refine r_pv T rfl rfl fun _ T => ?_
   refine r_pv T rfl rfl fun _ T => ?_
   obtain ⟨h9, H⟩ := ck H
   refine r_ia (ix := 0) T S rfl rfl rfl rfl Tryd.runUnderlying24 Tryd.sizeOf46 h9.1 h9.2 rfl fun _ T => ?_
   refine r_ldEA (ix := 0) (i := x7) (off := 0) T S rfl rfl Tryd.isAgg46 Tryd.sizeOf46 dapi_Index rfl (Fld.all _) h9.1 h9.2 rfl fun _ _ S T => ?_
   obtain ⟨A10, k11, hv_, S_⟩ := op_api_Index S
   subst hv_
   replace S := S_
   obtain ⟨x13, h12, H⟩ := bd H
   refine r_callF T rfl Tryd.call40 rfl rfl (rowkey_Part_c1.ok _ _ (gi dapi_Index x1 x7) x5 (S.sel (p := [sl .ro ki64 A10 k11 ((gi dapi_Index x1 x7).Columns), blk b6 [.int .i64 x5]]) (is := [0, 1]) rfl) _ h12) ?_
   rintro _ _ ⟨rfl, S⟩
   refine ⟨_, rfl, fun _ T => ?_⟩
   replace S : SL ([sl .ro ki64 A10 k11 ((gi dapi_Index x1 x7).Columns), blk b6 [.int .i64 x5], sl m4 kapi_Index A2 k3 x1] ++ F) _ := S.join
   rcases ifE H with ⟨h14, H⟩ | ⟨h14, H⟩
   ·refine cdT T rfl h14 ?_
    refine Gets.seq ?_
    refine rg ?_
    refine r_pv T rfl rfl fun _ T => ?_
    refine r_pv T rfl rfl fun _ T => ?_
    replace H := Option.some.inj H
    subst H
    exact rtn T Tryd.func39 rfl rfl ⟨rfl, (S.only (p := [sl m4 kapi_Index A2 k3 x1, blk b6 [.int .i64 x5]]) [2, 1] rfl)⟩
   ·refine cdF T rfl h14 ?_
    refine Gets.skip (Gets.inBlock ?_)
    refine rg ?_
    refine r_pv T rfl rfl fun _ T => ?_
    refine r_pv T rfl rfl fun _ T => ?_
    refine Gets.inLoop ?_
    exact ih (wr .i64 (x7 + 1)) _ _ (T.sub ⟨rfl, rfl, rfl, rfl, trivial⟩) (S.only (p := [sl m4 kapi_Index A2 k3 x1, blk b6 [.int .i64 x5]]) [2, 1] rfl) H
  ·refine cdF T rfl h8 ?_
   refine Gets.exit rfl (Gets.seq ?_)
   refine rg ?_
   refine r_pv T rfl rfl fun _ T => ?_
   replace H := Option.some.inj H
   subst H
   exact rtn T Tryd.func39 rfl rfl ⟨rfl, (S.only (p := [sl m4 kapi_Index A2 k3 x1, blk b6 [.int .i64 x5]]) [0, 0] rfl)⟩
theorem ok (F : List Atom) (w : World) (z : Nat) (x1 : List api_Index) (x5 : Int) {A2 : Option Addr} {k3 : Nat} {m4 : Md} {b6 : Nat} (S : SL ([sl m4 kapi_Index A2 k3 x1, blk b6 [.int .i64 x5]] ++ F) w) (r : Int) (H : f z x1 x5 = some r) : Calls Tryd.prog 39 #[.slice A2 x1.length k3, .func (.func 40) #[] #[.pointer (some ⟨b6, 0, none⟩)]] w (R F x1 A2 k3 m4 x5 b6 r) := by
 refine enter (vs := [.slice A2 x1.length k3, .func (.func 40) #[] #[.pointer (some ⟨b6, 0, none⟩)]]) Tryd.func39 rfl Tryd.ntmps39 (Nat.le_of_ble_eq_true rfl) fun a T => ?_
 refine Gets.seq ?_
 refine rg ?_
 refine r_pv T rfl rfl fun _ T => ?_
 refine Gets.seq (Gets.seq ?_)
 refine rg ?_
 refine r_pv T rfl rfl fun _ T => ?_
 refine r_lenS T rfl Tryd.runUnderlying24 rfl fun _ T => ?_
 refine r_pv T rfl rfl fun _ T => ?_
 refine Gets.block ?_
 refine Gets.loop ?_
 exact L0_ok F r z x1 A2 k3 m4 x5 b6 z 0 _ _ (T.sub ⟨rfl, rfl, rfl, rfl, trivial⟩) (S.only (p := [sl m4 kapi_Index A2 k3 x1, blk b6 [.int .i64 x5]]) [0, 0] rfl) H
end slices_IndexFunc_cormorant_api_Index_at40
end Go.Proofs.YtohelmfkpmphoaaDoor
namespace Go.Proofs.YtohelmfkpmphoaaDoor
open Go Go.Proofs.YtohelmfkpmphoaaDoor.X
set_option linter.unusedVariables false
set_option linter.unusedSimpArgs false
set_option maxRecDepth 100000
set_option maxHeartbeats 4000000
namespace rowkey_askable
noncomputable def c0 : Code := match Tryd.f42.body with | some c => c | none => .skip
def R (F : List Atom) (x1 : api_Table) (A2 : Option Addr) (k3 : Nat) (A4 : Option Addr) (k5 : Nat) (A6 : Option Addr) (k7 : Nat) (x8 : List Int) (A9 : Option Addr) (k10 : Nat) (m11 : Md) (x12 : List api_Value) (A13 : Option Addr) (k14 : Nat) (m15 : Md) (r : Bool) : Ending → World → Prop := fun e w' => e = .returned (.bool r) ∧ SL ([sl .ro kapi_Column A2 k3 x1.Columns, sl .ro ki64 A4 k5 x1.Key, sl .ro kapi_Index A6 k7 x1.Indexes, sl m11 ki64 A9 k10 x8, sl m15 kapi_Value A13 k14 x12] ++ F) w'
def J2 (z : Nat) : Option Bool := some false
def L1 (z : Nat) (x1 : api_Table) (x8 : List Int) (x12 : List api_Value) : Nat → Int → Option Bool
 | 0, _ => none
 | m + 1, x21 => If (decide (x21 < (x12.length : Int))) (Ck (0 ≤ x21 ∧ x21 < (x12.length : Int)) (If ((gi dapi_Value x12 x21).Null) (J2 z) (Ck (x21 < (x8.length : Int)) (Ck (0 ≤ gi (0 : Int) x8 x21 ∧ gi (0 : Int) x8 x21 < (x1.Columns.length : Int)) (Bd (rowkey_fits.f (api_Value.mk ((gi dapi_Value x12 x21).Type') ((gi dapi_Value x12 x21).Null) ((gi dapi_Value x12 x21).Int) ((gi dapi_Value x12 x21).Text)) ((gi dapi_Column x1.Columns (gi (0 : Int) x8 x21)).Type')) fun x2782 => If (!x2782) (J2 z) (L1 z x1 x8 x12 m (wr .i64 (x21 + 1)))))))) (some true)
def J0 (z : Nat) : Option Bool := some false
def f (z : Nat) (x1 : api_Table) (x8 : List Int) (x12 : List api_Value) : Option Bool := Bd (rowkey_tabled.f z x1 x8) fun x18 => If (!x18) (J0 z) (If (decide ((x12.length : Int) > (x8.length : Int))) (J0 z) (L1 z x1 x8 x12 z 0))
noncomputable def ptJ2 : List Item := [.code (cL (cT (cR (cR (cB (cL (cR (cR (cB (cB (cR (cL (cR (cR c0)))))))))))))), .code (cR (cT (cR (cR (cB (cL (cR (cR (cB (cB (cR (cL (cR (cR c0)))))))))))))), .inBlock 1, .code (cR (cR (cR (cB (cB (cR (cL (cR (cR c0))))))))), .inLoop (cB (cB (cR (cL (cR (cR c0)))))), .inBlock 0, .code (cR (cR (cR c0)))]
noncomputable def ptL1 : List Item := [.code (cB (cB (cR (cL (cR (cR c0)))))), .inLoop (cB (cB (cR (cL (cR (cR c0)))))), .inBlock 0, .code (cR (cR (cR c0)))]
noncomputable def ptJ0 : List Item := [.code (cL (cT (cR (cL (cR c0))))), .code (cR (cT (cR (cL (cR c0))))), .code (cR (cR c0))]
abbrev y0 (b24 : Nat) (x12 : List api_Value) (x21 : Int) (A2 : Option Addr) (k3 : Nat) (x1 : api_Table) (A4 : Option Addr) (k5 : Nat) (A6 : Option Addr) (k7 : Nat) (m11 : Md) (A9 : Option Addr) (k10 : Nat) (x8 : List Int) (m15 : Md) (A13 : Option Addr) (k14 : Nat) (b16 : Nat) : List Atom := [blk b24 [.int .i64 ((gi dapi_Value x12 x21).Type'), .bool ((gi dapi_Value x12 x21).Null), .int .i64 ((gi dapi_Value x12 x21).Int), .string ((gi dapi_Value x12 x21).Text)], sl .ro kapi_Column A2 k3 x1.Columns, sl .ro ki64 A4 k5 x1.Key, sl .ro kapi_Index A6 k7 x1.Indexes, sl m11 ki64 A9 k10 x8, sl m15 kapi_Value A13 k14 x12, blk b16 [.int .i64 x1.Id, .string x1.Name, .slice A2 x1.Columns.length k3, .slice A4 x1.Key.length k5, .slice A6 x1.Indexes.length k7]]
abbrev y1 (A2 : Option Addr) (k3 : Nat) (x1 : api_Table) (A4 : Option Addr) (k5 : Nat) (A6 : Option Addr) (k7 : Nat) (m11 : Md) (A9 : Option Addr) (k10 : Nat) (x8 : List Int) (m15 : Md) (A13 : Option Addr) (k14 : Nat) (x12 : List api_Value) : List Atom := [sl .ro kapi_Column A2 k3 x1.Columns, sl .ro ki64 A4 k5 x1.Key, sl .ro kapi_Index A6 k7 x1.Indexes, sl m11 ki64 A9 k10 x8, sl m15 kapi_Value A13 k14 x12]
abbrev y2 (x1 : api_Table) (A2 : Option Addr) (k3 : Nat) (A4 : Option Addr) (k5 : Nat) (A6 : Option Addr) (k7 : Nat) : List Value := [.int .i64 x1.Id, .string x1.Name, .slice A2 x1.Columns.length k3, .slice A4 x1.Key.length k5, .slice A6 x1.Indexes.length k7]
theorem J2_ok (F : List Atom) (r : Bool) (z : Nat) (x1 : api_Table) (A2 : Option Addr) (k3 : Nat) (A4 : Option Addr) (k5 : Nat) (A6 : Option Addr) (k7 : Nat) (x8 : List Int) (A9 : Option Addr) (k10 : Nat) (m11 : Md) (x12 : List api_Value) (A13 : Option Addr) (k14 : Nat) (m15 : Md) (a : Act) (w : World) (T : Tm 44 [] a) (S : SL ((y1 A2 k3 x1 A4 k5 A6 k7 m11 A9 k10 x8 m15 A13 k14 x12) ++ F) w) (H : J2 z = some r) : Gets Tryd.prog 42 ptJ2 a w (R F x1 A2 k3 A4 k5 A6 k7 x8 A9 k10 m11 x12 A13 k14 m15 r) := by
 refine rg ?_
 refine r_pv T rfl rfl fun _ T => ?_
 replace H := Option.some.inj H
 subst H
 exact rtn T Tryd.func42 rfl rfl ⟨rfl, (S.only (p := (y1 A2 k3 x1 A4 k5 A6 k7 m11 A9 k10 x8 m15 A13 k14 x12)) [0, 0, 0, 0, 0] rfl)⟩
theorem L1_ok (F : List Atom) (r : Bool) (z : Nat) (x1 : api_Table) (A2 : Option Addr) (k3 : Nat) (A4 : Option Addr) (k5 : Nat) (A6 : Option Addr) (k7 : Nat) (x8 : List Int) (A9 : Option Addr) (k10 : Nat) (m11 : Md) (x12 : List api_Value) (A13 : Option Addr) (k14 : Nat) (m15 : Md) (b16 : Nat) (m : Nat) : ∀ (x21 : Int) (a : Act) (w : World), Tm 44 [(1, .slice A9 x8.length k10), (3, .pointer (some ⟨b16, 0, none⟩)), (20, .slice A13 x12.length k14), (21, .int .i64 (x12.length : Int)), (22, .int .i64 x21)] a → SL ([sl .ro kapi_Column A2 k3 x1.Columns, sl .ro ki64 A4 k5 x1.Key, sl .ro kapi_Index A6 k7 x1.Indexes, sl m11 ki64 A9 k10 x8, sl m15 kapi_Value A13 k14 x12, blk b16 (y2 x1 A2 k3 A4 k5 A6 k7)] ++ F) w → L1 z x1 x8 x12 m x21 = some r → Gets Tryd.prog 42 ptL1 a w (R F x1 A2 k3 A4 k5 A6 k7 x8 A9 k10 m11 x12 A13 k14 m15 r) := by
 induction m with
 | zero => intro _ _ _ _ _ H; cases H
 | succ m ih =>
  intro x21 a w T S H
  refine Gets.seq ?_
  refine rg ?_
  refine r_pv T rfl rfl fun _ T => ?_
  refine Gets.seq ?_
  rcases ifE H with ⟨h22, H⟩ | ⟨h22, H⟩
  ·refine cdT T rfl h22 ?_
   refine Gets.skip (Gets.seq (Gets.block (Gets.seq ?_)))
   refine rg ?_
   refine r_pv T rfl rfl fun _ T => ?_
   obtain ⟨h23, H⟩ := ck H
   refine r_ia (ix := 4) T S rfl rfl rfl rfl Tryd.runUnderlying27 Tryd.sizeOf43 h23.1 h23.2 rfl fun _ T => ?_
   refine r_ldEP (ix := 4) (i := x21) (off := 0) (f := pf_api_Value) T S rfl rfl Tryd.isAgg43 Tryd.sizeOf43 dapi_Value rfl (Fld.all _) h23.1 h23.2 pl_api_Value rfl fun _ T => ?_
   refine r_alloc T S zv43 (cs := [.int .i64 0, .bool false, .int .i64 0, .string (⟨#[]⟩ : ByteArray)]) rfl rfl fun _ _ b24 S T => ?_
   refine r_pv T rfl rfl fun _ T => ?_
   refine r_stBA (ix := 0) (vs := [.int .i64 ((gi dapi_Value x12 x21).Type'), .bool ((gi dapi_Value x12 x21).Null), .int .i64 ((gi dapi_Value x12 x21).Int), .string ((gi dapi_Value x12 x21).Text)]) (l' := (y0 b24 x12 x21 A2 k3 x1 A4 k5 A6 k7 m11 A9 k10 x8 m15 A13 k14 b16)) T S rfl rfl rfl rfl (by simp) Tryd.sizeOf43 (Nat.le_of_ble_eq_true rfl) rfl fun _ S => ?_
   refine Gets.seq ?_
   rcases ifE H with ⟨h25, H⟩ | ⟨h25, H⟩
   ·refine Gets.drawn (l := (y0 b24 x12 x21 A2 k3 x1 A4 k5 A6 k7 m11 A9 k10 x8 m15 A13 k14 b16)) (V := [some (.pointer (some ⟨b24, 1, none⟩), true), some (.bool ((gi dapi_Value x12 x21).Null), true), some (.bool ((gi dapi_Value x12 x21).Null), true), some (undef, true), some (undef, true), some (undef, true), some (undef, true), some (undef, true), some (undef, true), some (undef, true), some (undef, true), some (undef, true), some (undef, true), some (undef, true), some (undef, true), some (.bool true, true)]) mixed T S rfl ?_
    refine stage none rfl rfl ⟨⟨_, [(8, _)], rfl, ⟨.inr ⟨rfl, rfl⟩, trivial⟩, fun _ _ _ T S => r_fa (o' := 1) T rfl Tryd.runUnderlying43 rfl Tryd.sizeOf4 rfl rfl fun _ T => ⟨rfl, T⟩⟩, ⟨_, [(27, _)], rfl, ⟨.inl ⟨0, rfl, rfl, rfl, rfl⟩, trivial⟩, fun _ _ _ T S => r_ldB (ix := 0) T S rfl Tryd.isAgg4 rfl rfl rfl fun _ T => ⟨rfl, T⟩⟩, ⟨_, [(28, _)], rfl, ⟨.inl ⟨1, rfl, rfl, rfl, rfl⟩, trivial⟩, fun _ _ _ T S => r_pv T rfl rfl fun _ T => ⟨rfl, T⟩⟩, ⟨_, [(8, _), (29, _)], rfl, ⟨.inr ⟨rfl, rfl⟩, .inl ⟨2, rfl, rfl, rfl, rfl⟩, trivial⟩, fun _ _ _ T S => g_no T rfl rfl h25 rfl fun _ T => ⟨rfl, T⟩⟩, ⟨_, [(3, _), (29, _)], rfl, ⟨.inr ⟨rfl, rfl⟩, .inl ⟨2, rfl, rfl, rfl, rfl⟩, trivial⟩, fun _ _ _ T S => g_no T rfl rfl h25 rfl fun _ T => ⟨rfl, T⟩⟩, ⟨_, [(31, _), (29, _)], rfl, ⟨.inl ⟨4, rfl, rfl, rfl, rfl⟩, .inl ⟨2, rfl, rfl, rfl, rfl⟩, trivial⟩, fun _ _ _ T S => g_no T rfl rfl h25 rfl fun _ T => ⟨rfl, T⟩⟩, ⟨_, [(1, _), (29, _)], rfl, ⟨.inr ⟨rfl, rfl⟩, .inl ⟨2, rfl, rfl, rfl, rfl⟩, trivial⟩, fun _ _ _ T S => g_no T rfl rfl h25 rfl fun _ T => ⟨rfl, T⟩⟩, ⟨_, [(7, _), (29, _)], rfl, ⟨.inr ⟨rfl, rfl⟩, .inl ⟨2, rfl, rfl, rfl, rfl⟩, trivial⟩, fun _ _ _ T S => g_no T rfl rfl h25 rfl fun _ T => ⟨rfl, T⟩⟩, ⟨_, [(33, _), (34, _), (29, _)], rfl, ⟨.inl ⟨6, rfl, rfl, rfl, rfl⟩, .inl ⟨7, rfl, rfl, rfl, rfl⟩, .inl ⟨2, rfl, rfl, rfl, rfl⟩, trivial⟩, fun _ _ _ T S => g_no T rfl rfl h25 rfl fun _ T => ⟨rfl, T⟩⟩, ⟨_, [(35, _), (29, _)], rfl, ⟨.inl ⟨8, rfl, rfl, rfl, rfl⟩, .inl ⟨2, rfl, rfl, rfl, rfl⟩, trivial⟩, fun _ _ _ T S => g_no T rfl rfl h25 rfl fun _ T => ⟨rfl, T⟩⟩, ⟨_, [(32, _), (36, _), (29, _)], rfl, ⟨.inl ⟨5, rfl, rfl, rfl, rfl⟩, .inl ⟨9, rfl, rfl, rfl, rfl⟩, .inl ⟨2, rfl, rfl, rfl, rfl⟩, trivial⟩, fun _ _ _ T S => g_no T rfl rfl h25 rfl fun _ T => ⟨rfl, T⟩⟩, ⟨_, [(37, _), (29, _)], rfl, ⟨.inl ⟨10, rfl, rfl, rfl, rfl⟩, .inl ⟨2, rfl, rfl, rfl, rfl⟩, trivial⟩, fun _ _ _ T S => g_no T rfl rfl h25 rfl fun _ T => ⟨rfl, T⟩⟩, ⟨_, [(38, _), (29, _)], rfl, ⟨.inl ⟨11, rfl, rfl, rfl, rfl⟩, .inl ⟨2, rfl, rfl, rfl, rfl⟩, trivial⟩, fun _ _ _ T S => g_no T rfl rfl h25 rfl fun _ T => ⟨rfl, T⟩⟩, ⟨_, [(30, _), (39, _), (29, _)], rfl, ⟨.inl ⟨3, rfl, rfl, rfl, rfl⟩, .inl ⟨12, rfl, rfl, rfl, rfl⟩, .inl ⟨2, rfl, rfl, rfl, rfl⟩, trivial⟩, fun _ _ _ T S => g_no T rfl rfl h25 rfl fun _ T => ⟨rfl, T⟩⟩, ⟨_, [(40, _), (29, _)], rfl, ⟨.inl ⟨13, rfl, rfl, rfl, rfl⟩, .inl ⟨2, rfl, rfl, rfl, rfl⟩, trivial⟩, fun _ _ _ T S => g_no T rfl rfl h25 rfl fun _ T => ⟨rfl, T⟩⟩, ⟨_, [(29, _), (41, _)], rfl, ⟨.inl ⟨2, rfl, rfl, rfl, rfl⟩, .inl ⟨14, rfl, rfl, rfl, rfl⟩, trivial⟩, fun _ _ _ T S => r_pickT T rfl h25 rfl rfl fun _ T => ⟨rfl, T⟩⟩, trivial⟩ rfl (fun i hi => by cases hi) (fun _ _ a w T hv hb S => ?_)
    replace T := T.sub (r := [(1, .slice A9 x8.length k10), (3, .pointer (some ⟨b16, 0, none⟩)), (20, .slice A13 x12.length k14), (21, .int .i64 (x12.length : Int)), (22, .int .i64 x21), (42, .bool true)]) ⟨hb 1 _ rfl rfl, hb 3 _ rfl rfl, hb 20 _ rfl rfl, hb 21 _ rfl rfl, hb 22 _ rfl rfl, hv 15 _ 42 rfl rfl rfl, trivial⟩
    refine cdT T rfl rfl ?_
    refine Gets.seq ?_
    exact J2_ok F r z x1 A2 k3 A4 k5 A6 k7 x8 A9 k10 m11 x12 A13 k14 m15 _ _ (T.sub trivial) (S.only (p := (y1 A2 k3 x1 A4 k5 A6 k7 m11 A9 k10 x8 m15 A13 k14 x12)) [1, 1, 1, 1, 1] rfl) H
   ·obtain ⟨h2481, H⟩ := ck H
    obtain ⟨h2601, H⟩ := ck H
    refine Gets.drawn (l := (y0 b24 x12 x21 A2 k3 x1 A4 k5 A6 k7 m11 A9 k10 x8 m15 A13 k14 b16)) (V := [some (.pointer (some ⟨b24, 1, none⟩), true), some (.bool ((gi dapi_Value x12 x21).Null), true), some (.bool ((gi dapi_Value x12 x21).Null), true), some (.agg #[.int .i64 ((gi dapi_Value x12 x21).Type'), .bool ((gi dapi_Value x12 x21).Null), .int .i64 ((gi dapi_Value x12 x21).Int), .string ((gi dapi_Value x12 x21).Text)], true), some (.pointer (some ⟨b16, 2, none⟩), true), some (.slice A2 x1.Columns.length k3, true), some (.slice A9 x8.length k10, true), some (.int .i64 x21, true), some (.pointer (some (eA A9 (Int.toNat x21 * 1))), true), some (.int .i64 (gi (0 : Int) x8 x21), true), some (.pointer (some (eA A2 (Int.toNat (gi (0 : Int) x8 x21) * 7))), true), some (.pointer (some (eA A2 (Int.toNat (gi (0 : Int) x8 x21) * 7 + 1))), true), some (.int .i64 ((gi dapi_Column x1.Columns (gi (0 : Int) x8 x21)).Type'), true), none, none, none]) mixed T S rfl ?_
    refine stage (some 13) rfl rfl ⟨⟨_, [(8, _)], rfl, ⟨.inr ⟨rfl, rfl⟩, trivial⟩, fun _ _ _ T S => r_fa (o' := 1) T rfl Tryd.runUnderlying43 rfl Tryd.sizeOf4 rfl rfl fun _ T => ⟨rfl, T⟩⟩, ⟨_, [(27, _)], rfl, ⟨.inl ⟨0, rfl, rfl, rfl, rfl⟩, trivial⟩, fun _ _ _ T S => r_ldB (ix := 0) T S rfl Tryd.isAgg4 rfl rfl rfl fun _ T => ⟨rfl, T⟩⟩, ⟨_, [(28, _)], rfl, ⟨.inl ⟨1, rfl, rfl, rfl, rfl⟩, trivial⟩, fun _ _ _ T S => r_pv T rfl rfl fun _ T => ⟨rfl, T⟩⟩, ⟨_, [(8, _), (29, _)], rfl, ⟨.inr ⟨rfl, rfl⟩, .inl ⟨2, rfl, rfl, rfl, rfl⟩, trivial⟩, fun _ _ _ T S => g_yes T rfl rfl h25 (r_ldBA (ix := 0) (ds := [.int .i64 ((gi dapi_Value x12 x21).Type'), .bool ((gi dapi_Value x12 x21).Null), .int .i64 ((gi dapi_Value x12 x21).Int), .string ((gi dapi_Value x12 x21).Text)]) T S rfl Tryd.isAgg43 rfl rfl Tryd.sizeOf43 rfl fun _ T => ⟨rfl, T⟩)⟩, ⟨_, [(3, _), (29, _)], rfl, ⟨.inr ⟨rfl, rfl⟩, .inl ⟨2, rfl, rfl, rfl, rfl⟩, trivial⟩, fun _ _ _ T S => g_yes T rfl rfl h25 (r_fa (o' := 2) T rfl Tryd.runUnderlying26 rfl Tryd.sizeOf22 rfl rfl fun _ T => ⟨rfl, T⟩)⟩, ⟨_, [(31, _), (29, _)], rfl, ⟨.inl ⟨4, rfl, rfl, rfl, rfl⟩, .inl ⟨2, rfl, rfl, rfl, rfl⟩, trivial⟩, fun _ _ _ T S => g_yes T rfl rfl h25 (r_ldB (ix := 6) T S rfl Tryd.isAgg22 rfl rfl rfl fun _ T => ⟨rfl, T⟩)⟩, ⟨_, [(1, _), (29, _)], rfl, ⟨.inr ⟨rfl, rfl⟩, .inl ⟨2, rfl, rfl, rfl, rfl⟩, trivial⟩, fun _ _ _ T S => g_yes T rfl rfl h25 (r_pv T rfl rfl fun _ T => ⟨rfl, T⟩)⟩, ⟨_, [(7, _), (29, _)], rfl, ⟨.inr ⟨rfl, rfl⟩, .inl ⟨2, rfl, rfl, rfl, rfl⟩, trivial⟩, fun _ _ _ T S => g_yes T rfl rfl h25 (r_pv T rfl rfl fun _ T => ⟨rfl, T⟩)⟩, ⟨_, [(33, _), (34, _), (29, _)], rfl, ⟨.inl ⟨6, rfl, rfl, rfl, rfl⟩, .inl ⟨7, rfl, rfl, rfl, rfl⟩, .inl ⟨2, rfl, rfl, rfl, rfl⟩, trivial⟩, fun _ _ _ T S => g_yes T rfl rfl h25 (r_ia (ix := 4) T S rfl rfl rfl rfl Tryd.runUnderlying23 Tryd.sizeOf3 h23.1 h2481 rfl fun _ T => ⟨rfl, T⟩)⟩, ⟨_, [(35, _), (29, _)], rfl, ⟨.inl ⟨8, rfl, rfl, rfl, rfl⟩, .inl ⟨2, rfl, rfl, rfl, rfl⟩, trivial⟩, fun _ _ _ T S => g_yes T rfl rfl h25 (r_ldE (ix := 4) (i := x21) (off := 0) (f := (Value.int .i64)) T S rfl Tryd.isAgg3 rfl (0 : Int) _ rfl rfl (Fld.all _) h23.1 h2481 (fun h => h) rfl fun _ T => ⟨rfl, T⟩)⟩, ⟨_, [(32, _), (36, _), (29, _)], rfl, ⟨.inl ⟨5, rfl, rfl, rfl, rfl⟩, .inl ⟨9, rfl, rfl, rfl, rfl⟩, .inl ⟨2, rfl, rfl, rfl, rfl⟩, trivial⟩, fun _ _ _ T S => g_yes T rfl rfl h25 (r_ia (ix := 1) T S rfl rfl rfl rfl Tryd.runUnderlying22 Tryd.sizeOf72 h2601.1 h2601.2 rfl fun _ T => ⟨rfl, T⟩)⟩, ⟨_, [(37, _), (29, _)], rfl, ⟨.inl ⟨10, rfl, rfl, rfl, rfl⟩, .inl ⟨2, rfl, rfl, rfl, rfl⟩, trivial⟩, fun _ _ _ T S => g_yes T rfl rfl h25 (r_faE T rfl Tryd.runUnderlying72 rfl Tryd.sizeOf3 rfl fun _ T => ⟨rfl, T⟩)⟩, ⟨_, [(38, _), (29, _)], rfl, ⟨.inl ⟨11, rfl, rfl, rfl, rfl⟩, .inl ⟨2, rfl, rfl, rfl, rfl⟩, trivial⟩, fun _ _ _ T S => g_yes T rfl rfl h25 (r_ldE (ix := 1) (i := gi (0 : Int) x8 x21) (off := 1) (f := (Value.int .i64)) T S rfl Tryd.isAgg3 rfl dapi_Column _ rfl rfl fld_api_Column_Type' h2601.1 h2601.2 (fun h => h) rfl fun _ T => ⟨rfl, T⟩)⟩, trivial⟩ rfl (fun i hi => ?_) (fun h => by cases h)
    cases hi
    refine ⟨rfl, _, [(30, _), (39, _), (29, _)], rfl, ⟨.inl ⟨3, rfl, rfl, rfl, rfl⟩, .inl ⟨12, rfl, rfl, rfl, rfl⟩, .inl ⟨2, rfl, rfl, rfl, rfl⟩, trivial⟩, fun u a w T S => ?_⟩
    refine g_yes T rfl rfl h25 ?_
    obtain ⟨x2782, h2781, H⟩ := bd H
    refine r_call T Tryd.call53 rfl rfl (rowkey_fits.ok _ _ (api_Value.mk ((gi dapi_Value x12 x21).Type') ((gi dapi_Value x12 x21).Null) ((gi dapi_Value x12 x21).Int) ((gi dapi_Value x12 x21).Text)) ((gi dapi_Column x1.Columns (gi (0 : Int) x8 x21)).Type') (S.sel (p := []) (is := []) rfl) _ h2781) ?_
    rintro _ _ ⟨rfl, S⟩
    refine ⟨_, rfl, fun _ T => ?_⟩
    replace S : SL ((y0 b24 x12 x21 A2 k3 x1 A4 k5 A6 k7 m11 A9 k10 x8 m15 A13 k14 b16) ++ F) _ := S.join
    refine ⟨_, [some (.pointer (some ⟨b24, 1, none⟩), true), some (.bool ((gi dapi_Value x12 x21).Null), true), some (.bool ((gi dapi_Value x12 x21).Null), false), some (.agg #[.int .i64 ((gi dapi_Value x12 x21).Type'), .bool ((gi dapi_Value x12 x21).Null), .int .i64 ((gi dapi_Value x12 x21).Int), .string ((gi dapi_Value x12 x21).Text)], false), some (.pointer (some ⟨b16, 2, none⟩), true), some (.slice A2 x1.Columns.length k3, true), some (.slice A9 x8.length k10, true), some (.int .i64 x21, true), some (.pointer (some (eA A9 (Int.toNat x21 * 1))), true), some (.int .i64 (gi (0 : Int) x8 x21), true), some (.pointer (some (eA A2 (Int.toNat (gi (0 : Int) x8 x21) * 7))), true), some (.pointer (some (eA A2 (Int.toNat (gi (0 : Int) x8 x21) * 7 + 1))), true), some (.int .i64 ((gi dapi_Column x1.Columns (gi (0 : Int) x8 x21)).Type'), false), some (.bool x2782, false), some (.bool (!x2782), true), some (.bool (!x2782), true)], (y0 b24 x12 x21 A2 k3 x1 A4 k5 A6 k7 m11 A9 k10 x8 m15 A13 k14 b16), rfl, (by repeat first | exact kx0 | apply kxs | apply kxn), rfl, ?_, T, S⟩
    refine stage none rfl rfl ⟨⟨_, [(8, _)], rfl, ⟨.inr ⟨rfl, rfl⟩, trivial⟩, fun _ _ _ T S => r_fa (o' := 1) T rfl Tryd.runUnderlying43 rfl Tryd.sizeOf4 rfl rfl fun _ T => ⟨rfl, T⟩⟩, ⟨_, [(27, _)], rfl, ⟨.inl ⟨0, rfl, rfl, rfl, rfl⟩, trivial⟩, fun _ _ _ T S => r_ldB (ix := 0) T S rfl Tryd.isAgg4 rfl rfl rfl fun _ T => ⟨rfl, T⟩⟩, ⟨_, [(3, _), (29, _)], rfl, ⟨.inr ⟨rfl, rfl⟩, .inl ⟨2, rfl, rfl, rfl, rfl⟩, trivial⟩, fun _ _ _ T S => g_yes T rfl rfl h25 (r_fa (o' := 2) T rfl Tryd.runUnderlying26 rfl Tryd.sizeOf22 rfl rfl fun _ T => ⟨rfl, T⟩)⟩, ⟨_, [(31, _), (29, _)], rfl, ⟨.inl ⟨4, rfl, rfl, rfl, rfl⟩, .inl ⟨2, rfl, rfl, rfl, rfl⟩, trivial⟩, fun _ _ _ T S => g_yes T rfl rfl h25 (r_ldB (ix := 6) T S rfl Tryd.isAgg22 rfl rfl rfl fun _ T => ⟨rfl, T⟩)⟩, ⟨_, [(1, _), (29, _)], rfl, ⟨.inr ⟨rfl, rfl⟩, .inl ⟨2, rfl, rfl, rfl, rfl⟩, trivial⟩, fun _ _ _ T S => g_yes T rfl rfl h25 (r_pv T rfl rfl fun _ T => ⟨rfl, T⟩)⟩, ⟨_, [(7, _), (29, _)], rfl, ⟨.inr ⟨rfl, rfl⟩, .inl ⟨2, rfl, rfl, rfl, rfl⟩, trivial⟩, fun _ _ _ T S => g_yes T rfl rfl h25 (r_pv T rfl rfl fun _ T => ⟨rfl, T⟩)⟩, ⟨_, [(33, _), (34, _), (29, _)], rfl, ⟨.inl ⟨6, rfl, rfl, rfl, rfl⟩, .inl ⟨7, rfl, rfl, rfl, rfl⟩, .inl ⟨2, rfl, rfl, rfl, rfl⟩, trivial⟩, fun _ _ _ T S => g_yes T rfl rfl h25 (r_ia (ix := 4) T S rfl rfl rfl rfl Tryd.runUnderlying23 Tryd.sizeOf3 h23.1 h2481 rfl fun _ T => ⟨rfl, T⟩)⟩, ⟨_, [(35, _), (29, _)], rfl, ⟨.inl ⟨8, rfl, rfl, rfl, rfl⟩, .inl ⟨2, rfl, rfl, rfl, rfl⟩, trivial⟩, fun _ _ _ T S => g_yes T rfl rfl h25 (r_ldE (ix := 4) (i := x21) (off := 0) (f := (Value.int .i64)) T S rfl Tryd.isAgg3 rfl (0 : Int) _ rfl rfl (Fld.all _) h23.1 h2481 (fun h => h) rfl fun _ T => ⟨rfl, T⟩)⟩, ⟨_, [(32, _), (36, _), (29, _)], rfl, ⟨.inl ⟨5, rfl, rfl, rfl, rfl⟩, .inl ⟨9, rfl, rfl, rfl, rfl⟩, .inl ⟨2, rfl, rfl, rfl, rfl⟩, trivial⟩, fun _ _ _ T S => g_yes T rfl rfl h25 (r_ia (ix := 1) T S rfl rfl rfl rfl Tryd.runUnderlying22 Tryd.sizeOf72 h2601.1 h2601.2 rfl fun _ T => ⟨rfl, T⟩)⟩, ⟨_, [(37, _), (29, _)], rfl, ⟨.inl ⟨10, rfl, rfl, rfl, rfl⟩, .inl ⟨2, rfl, rfl, rfl, rfl⟩, trivial⟩, fun _ _ _ T S => g_yes T rfl rfl h25 (r_faE T rfl Tryd.runUnderlying72 rfl Tryd.sizeOf3 rfl fun _ T => ⟨rfl, T⟩)⟩, ⟨_, [(40, _), (29, _)], rfl, ⟨.inl ⟨13, rfl, rfl, rfl, rfl⟩, .inl ⟨2, rfl, rfl, rfl, rfl⟩, trivial⟩, fun _ _ _ T S => g_yes T rfl rfl h25 (r_pv T rfl rfl fun _ T => ⟨rfl, T⟩)⟩, ⟨_, [(29, _), (41, _)], rfl, ⟨.inl ⟨2, rfl, rfl, rfl, rfl⟩, .inl ⟨14, rfl, rfl, rfl, rfl⟩, trivial⟩, fun _ _ _ T S => r_pickF T rfl h25 rfl rfl fun _ T => ⟨rfl, T⟩⟩, trivial⟩ rfl (fun i hi => by cases hi) (fun _ _ a w T hv hb S => ?_)
    replace T := T.sub (r := [(1, .slice A9 x8.length k10), (3, .pointer (some ⟨b16, 0, none⟩)), (20, .slice A13 x12.length k14), (21, .int .i64 (x12.length : Int)), (22, .int .i64 x21), (42, .bool (!x2782))]) ⟨hb 1 _ rfl rfl, hb 3 _ rfl rfl, hb 20 _ rfl rfl, hb 21 _ rfl rfl, hb 22 _ rfl rfl, hv 15 _ 42 rfl rfl rfl, trivial⟩
    rcases ifE H with ⟨h26, H⟩ | ⟨h26, H⟩
    ·refine cdT T rfl h26 ?_
     refine Gets.seq ?_
     exact J2_ok F r z x1 A2 k3 A4 k5 A6 k7 x8 A9 k10 m11 x12 A13 k14 m15 _ _ (T.sub trivial) (S.only (p := (y1 A2 k3 x1 A4 k5 A6 k7 m11 A9 k10 x8 m15 A13 k14 x12)) [1, 1, 1, 1, 1] rfl) H
    ·refine cdF T rfl h26 ?_
     refine Gets.skip (Gets.inBlock ?_)
     refine rg ?_
     refine r_pv T rfl rfl fun _ T => ?_
     refine r_pv T rfl rfl fun _ T => ?_
     refine Gets.inLoop ?_
     exact ih (wr .i64 (x21 + 1)) _ _ (T.sub ⟨rfl, rfl, rfl, rfl, rfl, trivial⟩) (S.only (p := [sl .ro kapi_Column A2 k3 x1.Columns, sl .ro ki64 A4 k5 x1.Key, sl .ro kapi_Index A6 k7 x1.Indexes, sl m11 ki64 A9 k10 x8, sl m15 kapi_Value A13 k14 x12, blk b16 (y2 x1 A2 k3 A4 k5 A6 k7)]) [1, 1, 1, 1, 1, 1] rfl) H
  ·refine cdF T rfl h22 ?_
   refine Gets.exit rfl (Gets.seq ?_)
   refine rg ?_
   refine r_pv T rfl rfl fun _ T => ?_
   replace H := Option.some.inj H
   subst H
   exact rtn T Tryd.func42 rfl rfl ⟨rfl, (S.only (p := (y1 A2 k3 x1 A4 k5 A6 k7 m11 A9 k10 x8 m15 A13 k14 x12)) [0, 0, 0, 0, 0] rfl)⟩
theorem J0_ok (F : List Atom) (r : Bool) (z : Nat) (x1 : api_Table) (A2 : Option Addr) (k3 : Nat) (A4 : Option Addr) (k5 : Nat) (A6 : Option Addr) (k7 : Nat) (x8 : List Int) (A9 : Option Addr) (k10 : Nat) (m11 : Md) (x12 : List api_Value) (A13 : Option Addr) (k14 : Nat) (m15 : Md) (a : Act) (w : World) (T : Tm 44 [] a) (S : SL ((y1 A2 k3 x1 A4 k5 A6 k7 m11 A9 k10 x8 m15 A13 k14 x12) ++ F) w) (H : J0 z = some r) : Gets Tryd.prog 42 ptJ0 a w (R F x1 A2 k3 A4 k5 A6 k7 x8 A9 k10 m11 x12 A13 k14 m15 r) := by
 refine rg ?_
 refine r_pv T rfl rfl fun _ T => ?_
 replace H := Option.some.inj H
 subst H
 exact rtn T Tryd.func42 rfl rfl ⟨rfl, (S.only (p := (y1 A2 k3 x1 A4 k5 A6 k7 m11 A9 k10 x8 m15 A13 k14 x12)) [0, 0, 0, 0, 0] rfl)⟩
theorem ok (F : List Atom) (w : World) (z : Nat) (x1 : api_Table) (x8 : List Int) (x12 : List api_Value) {A2 : Option Addr} {k3 : Nat} {A4 : Option Addr} {k5 : Nat} {A6 : Option Addr} {k7 : Nat} {A9 : Option Addr} {k10 : Nat} {m11 : Md} {A13 : Option Addr} {k14 : Nat} {m15 : Md} (S : SL ((y1 A2 k3 x1 A4 k5 A6 k7 m11 A9 k10 x8 m15 A13 k14 x12) ++ F) w) (r : Bool) (H : f z x1 x8 x12 = some r) : Calls Tryd.prog 42 #[.agg #[.int .i64 x1.Id, .string x1.Name, .slice A2 x1.Columns.length k3, .slice A4 x1.Key.length k5, .slice A6 x1.Indexes.length k7], .slice A9 x8.length k10, .slice A13 x12.length k14] w (R F x1 A2 k3 A4 k5 A6 k7 x8 A9 k10 m11 x12 A13 k14 m15 r) := by
 refine enter (vs := [.agg #[.int .i64 x1.Id, .string x1.Name, .slice A2 x1.Columns.length k3, .slice A4 x1.Key.length k5, .slice A6 x1.Indexes.length k7], .slice A9 x8.length k10, .slice A13 x12.length k14]) Tryd.func42 rfl Tryd.ntmps42 (Nat.le_of_ble_eq_true rfl) fun a T => ?_
 refine Gets.seq ?_
 refine rg ?_
 refine r_box T S rfl (cs := (y2 x1 A2 k3 A4 k5 A6 k7)) rfl rfl fun _ _ b16 S T => ?_
 refine r_pv T rfl rfl fun _ T => ?_
 refine Gets.seq (Gets.seq ?_)
 refine rg ?_
 refine r_ldBA (ix := 0) (ds := (y2 x1 A2 k3 A4 k5 A6 k7)) T S rfl Tryd.isAgg26 rfl rfl Tryd.sizeOf26 rfl fun _ T => ?_
 refine r_pv T rfl rfl fun _ T => ?_
 replace S := S.dup (i := 1) rfl
 replace S := S.dup (i := 3) rfl
 replace S := S.dup (i := 5) rfl
 obtain ⟨x18, h17, H⟩ := bd H
 refine r_call T Tryd.call23 rfl rfl (rowkey_tabled.ok _ _ z x1 x8 (S.sel (p := [sl .ro kapi_Column A2 k3 x1.Columns, sl .ro ki64 A4 k5 x1.Key, sl .ro kapi_Index A6 k7 x1.Indexes, sl m11 ki64 A9 k10 x8]) (is := [2, 1, 0, 4]) rfl) _ h17) ?_
 rintro _ _ ⟨rfl, S⟩
 refine ⟨_, rfl, fun _ T => ?_⟩
 replace S : SL ([sl m11 ki64 A9 k10 x8, blk b16 (y2 x1 A2 k3 A4 k5 A6 k7), sl .ro kapi_Column A2 k3 x1.Columns, sl .ro ki64 A4 k5 x1.Key, sl .ro kapi_Index A6 k7 x1.Indexes, sl m15 kapi_Value A13 k14 x12] ++ F) _ := S.join.only [3, 3, 3, 3, 3, 3] rfl
 refine r_pv T rfl rfl fun _ T => ?_
 refine r_pv T rfl rfl fun _ T => ?_
 rcases ifE H with ⟨h19, H⟩ | ⟨h19, H⟩
 ·refine g_no T rfl rfl h19 rfl fun _ T => ?_
  refine g_no T rfl rfl h19 rfl fun _ T => ?_
  refine g_no T rfl rfl h19 rfl fun _ T => ?_
  refine g_no T rfl rfl h19 rfl fun _ T => ?_
  refine g_no T rfl rfl h19 rfl fun _ T => ?_
  refine r_pickT T rfl h19 rfl rfl fun _ T => ?_
  refine cdT T rfl rfl ?_
  refine Gets.seq ?_
  exact J0_ok F r z x1 A2 k3 A4 k5 A6 k7 x8 A9 k10 m11 x12 A13 k14 m15 _ _ (T.sub trivial) (S.only (p := (y1 A2 k3 x1 A4 k5 A6 k7 m11 A9 k10 x8 m15 A13 k14 x12)) [2, 2, 2, 0, 1] rfl) H
 ·refine g_yes T rfl rfl h19 ?_
  refine r_pv T rfl rfl fun _ T => ?_
  refine g_yes T rfl rfl h19 ?_
  refine r_lenS T rfl Tryd.runUnderlying27 rfl fun _ T => ?_
  refine g_yes T rfl rfl h19 ?_
  refine r_pv T rfl rfl fun _ T => ?_
  refine g_yes T rfl rfl h19 ?_
  refine r_lenS T rfl Tryd.runUnderlying23 rfl fun _ T => ?_
  refine g_yes T rfl rfl h19 ?_
  refine r_pv T rfl rfl fun _ T => ?_
  refine r_pickF T rfl h19 rfl rfl fun _ T => ?_
  rcases ifE H with ⟨h20, H⟩ | ⟨h20, H⟩
  ·refine cdT T rfl h20 ?_
   refine Gets.seq ?_
   exact J0_ok F r z x1 A2 k3 A4 k5 A6 k7 x8 A9 k10 m11 x12 A13 k14 m15 _ _ (T.sub trivial) (S.only (p := (y1 A2 k3 x1 A4 k5 A6 k7 m11 A9 k10 x8 m15 A13 k14 x12)) [2, 2, 2, 0, 1] rfl) H
  ·refine cdF T rfl h20 ?_
   refine Gets.skip (Gets.seq (Gets.seq ?_))
   refine rg ?_
   refine r_pv T rfl rfl fun _ T => ?_
   refine r_lenS T rfl Tryd.runUnderlying27 rfl fun _ T => ?_
   refine r_pv T rfl rfl fun _ T => ?_
   refine Gets.block ?_
   refine Gets.loop ?_
   exact L1_ok F r z x1 A2 k3 A4 k5 A6 k7 x8 A9 k10 m11 x12 A13 k14 m15 b16 z 0 _ _ (T.sub ⟨rfl, rfl, rfl, rfl, rfl, trivial⟩) (S.only (p := [sl .ro kapi_Column A2 k3 x1.Columns, sl .ro ki64 A4 k5 x1.Key, sl .ro kapi_Index A6 k7 x1.Indexes, sl m11 ki64 A9 k10 x8, sl m15 kapi_Value A13 k14 x12, blk b16 (y2 x1 A2 k3 A4 k5 A6 k7)]) [2, 2, 2, 0, 1, 0] rfl) H
end rowkey_askable
end Go.Proofs.YtohelmfkpmphoaaDoor
namespace Go.Proofs.YtohelmfkpmphoaaDoor
open Go Go.Proofs.YtohelmfkpmphoaaDoor.X
set_option linter.unusedVariables false
set_option linter.unusedSimpArgs false
set_option maxRecDepth 100000
set_option maxHeartbeats 4000000
namespace rowkey_from
noncomputable def c0 : Code := match Tryd.f44.body with | some c => c | none => .skip
def R (F : List Atom) (x1 : List Int) (A2 : Option Addr) (k3 : Nat) (r : (List Int)) : Ending → World → Prop := fun e w' => ∃ (A42 : Option Addr), ∃ (k43 : Nat), e = .returned (.slice A42 r.length k43) ∧ SL ([sl .own ku8 A42 k43 r, sl .ro ku8 A2 k3 x1] ++ F) w'
def J0 (z : Nat) (x1 : List Int) (x4 : api_Limit) (x5 : api_Limit) : Option (List Int) := If x4.Has (Bd (rowkey_column.f z (api_Value.mk x4.Value.Type' x4.Value.Null x4.Value.Int x4.Value.Text)) fun x22 => Bd (slices_Concat_byte.f z [x1, x22]) fun x27 => some x27) (If x5.Has (Bd (slices_Concat_byte.f z [x1, [1]]) fun x34 => some x34) (Bd (slices_Concat_byte.f z [x1]) fun x39 => some x39))
def f (z : Nat) (x1 : List Int) (x4 : api_Limit) (x5 : api_Limit) : Option (List Int) := If x4.Has (If x4.Open (Bd (rowkey_column.f z (api_Value.mk x4.Value.Type' x4.Value.Null x4.Value.Int x4.Value.Text)) fun x11 => Bd (slices_Concat_byte.f z [x1, x11, [3]]) fun x17 => some x17) (J0 z x1 x4 x5)) (J0 z x1 x4 x5)
noncomputable def ptJ0 : List Item := [.code (cL (cE (cR (cB (cL (cR c0)))))), .code (cR (cE (cR (cB (cL (cR c0)))))), .inBlock 0, .code (cR (cR c0))]
abbrev y0 (x4 : api_Limit) : List Value := [.bool x4.Has, .bool x4.Open, .int .i64 x4.Value.Type', .bool x4.Value.Null, .int .i64 x4.Value.Int, .string x4.Value.Text]
abbrev y1 (x5 : api_Limit) : List Value := [.bool x5.Has, .bool x5.Open, .int .i64 x5.Value.Type', .bool x5.Value.Null, .int .i64 x5.Value.Int, .string x5.Value.Text]
theorem J0_ok (F : List Atom) (r : (List Int)) (z : Nat) (x1 : List Int) (A2 : Option Addr) (k3 : Nat) (b6 : Nat) (b7 : Nat) (x4 : api_Limit) (x5 : api_Limit) (a : Act) (w : World) (T : Tm 40 [(0, .slice A2 x1.length k3), (4, .pointer (some ⟨b6, 0, none⟩)), (5, .pointer (some ⟨b7, 0, none⟩))] a) (S : SL ([sl .ro ku8 A2 k3 x1, blk b6 (y0 x4), blk b7 (y1 x5)] ++ F) w) (H : J0 z x1 x4 x5 = some r) : Gets Tryd.prog 44 ptJ0 a w (R F x1 A2 k3 r) := by
 refine rg ?_
 refine r_fa (o' := 0) T rfl Tryd.runUnderlying54 rfl Tryd.sizeOf4 rfl rfl fun _ T => ?_
 refine r_ldB (ix := 1) T S rfl Tryd.isAgg4 rfl rfl rfl fun _ T => ?_
 refine r_pv T rfl rfl fun _ T => ?_
 rcases ifE H with ⟨h20, H⟩ | ⟨h20, H⟩
 ·refine cdT T rfl h20 ?_
  refine Gets.seq ?_
  refine rg ?_
  refine r_pv T rfl rfl fun _ T => ?_
  refine r_fa (o' := 2) T rfl Tryd.runUnderlying54 rfl Tryd.sizeOf43 rfl rfl fun _ T => ?_
  refine r_ldBA (ix := 1) (ds := [.int .i64 x4.Value.Type', .bool x4.Value.Null, .int .i64 x4.Value.Int, .string x4.Value.Text]) T S rfl Tryd.isAgg43 rfl rfl Tryd.sizeOf43 rfl fun _ T => ?_
  obtain ⟨x22, h21, H⟩ := bd H
  refine r_call T Tryd.call43 rfl rfl (rowkey_column.ok _ _ z (api_Value.mk x4.Value.Type' x4.Value.Null x4.Value.Int x4.Value.Text) (S.sel (p := []) (is := []) rfl) _ h21) ?_
  rintro _ _ ⟨A23, k24, rfl, S⟩
  refine ⟨_, rfl, fun _ T => ?_⟩
  replace S : SL ([sl .own ku8 A23 k24 x22, sl .ro ku8 A2 k3 x1, blk b6 (y0 x4), blk b7 (y1 x5)] ++ F) _ := S.join
  replace S := S.asVal (i := 1) (xs := x1) rfl
  replace S : SL ([rp (kSl ku8) x1 [.slice A2 x1.length k3], sl .ro ku8 A23 k24 x22, sl .ro ku8 A2 k3 x1, blk b6 (y0 x4), blk b7 (y1 x5)] ++ F) _ := S.fixL (i := 1) rfl rfl
  replace S := S.asVal (i := 1) (xs := x22) rfl
  refine r_bsl (κ := (kSl ku8)) (xs := [x1, x22]) (vs := [.slice A2 x1.length k3, .slice A23 x22.length k24]) T S sty92 rfl ⟨_, _, rfl, ⟨1, rfl⟩, ⟨_, _, rfl, ⟨0, rfl⟩, rfl⟩⟩ rfl (by decide) rfl fun _ _ b25 S T => ?_
  replace S : SL ([sl .own (kSl ku8) (some ⟨b25, 0, none⟩) 2 [x1, x22], sl .ro ku8 A23 k24 x22, sl .ro ku8 A2 k3 x1, blk b6 (y0 x4), blk b7 (y1 x5)] ++ F) _ := S.only [0, 2, 2, 2, 2] rfl
  obtain ⟨x27, h26, H⟩ := bd H
  refine r_call T Tryd.call25 rfl rfl (slices_Concat_byte.ok _ _ z [x1, x22] (S.sel (p := [sl .own (kSl ku8) (some ⟨b25, 0, none⟩) 2 [x1, x22]]) (is := [0]) rfl) _ h26) ?_
  rintro _ _ ⟨A28, k29, rfl, S⟩
  refine ⟨_, rfl, fun _ T => ?_⟩
  replace S : SL ([sl .own ku8 A28 k29 x27, sl .own (kSl ku8) (some ⟨b25, 0, none⟩) 2 [x1, x22], sl .ro ku8 A23 k24 x22, sl .ro ku8 A2 k3 x1, blk b6 (y0 x4), blk b7 (y1 x5)] ++ F) _ := S.join
  refine r_pv T rfl rfl fun _ T => ?_
  replace H := Option.some.inj H
  subst H
  exact rtn T Tryd.func44 rfl rfl ⟨A28, k29, rfl, (S.only (p := [sl .own ku8 A28 k29 x27, sl .ro ku8 A2 k3 x1]) [0, 2] rfl)⟩
 ·refine cdF T rfl h20 ?_
  refine Gets.seq ?_
  refine rg ?_
  refine r_fa (o' := 0) T rfl Tryd.runUnderlying54 rfl Tryd.sizeOf4 rfl rfl fun _ T => ?_
  refine r_ldB (ix := 2) T S rfl Tryd.isAgg4 rfl rfl rfl fun _ T => ?_
  refine r_pv T rfl rfl fun _ T => ?_
  rcases ifE H with ⟨h30, H⟩ | ⟨h30, H⟩
  ·refine cdT T rfl h30 ?_
   refine Gets.seq ?_
   refine rg ?_
   refine r_pv T rfl rfl fun _ T => ?_
   replace S := SL.val (κ := ku8) (x := 1) (cs := [.int .u8 1]) (fun _ => rfl) S
   refine r_bsl (κ := ku8) (xs := [1]) (vs := [.int .u8 1]) T S sty29 rfl ⟨_, _, rfl, ⟨0, rfl⟩, rfl⟩ rfl (by decide) rfl fun _ _ b31 S T => ?_
   replace S : SL ([sl .own ku8 (some ⟨b31, 0, none⟩) 1 [1], sl .ro ku8 A2 k3 x1, blk b6 (y0 x4), blk b7 (y1 x5)] ++ F) _ := S.only [0, 1, 1, 1] rfl
   replace S := S.asVal (i := 1) (xs := x1) rfl
   replace S : SL ([rp (kSl ku8) x1 [.slice A2 x1.length k3], sl .ro ku8 (some ⟨b31, 0, none⟩) 1 [1], sl .ro ku8 A2 k3 x1, blk b6 (y0 x4), blk b7 (y1 x5)] ++ F) _ := S.fixL (i := 1) rfl rfl
   replace S := S.asVal (i := 1) (xs := [1]) rfl
   refine r_bsl (κ := (kSl ku8)) (xs := [x1, [1]]) (vs := [.slice A2 x1.length k3, .slice (some ⟨b31, 0, none⟩) 1 1]) T S sty92 rfl ⟨_, _, rfl, ⟨1, rfl⟩, ⟨_, _, rfl, ⟨0, rfl⟩, rfl⟩⟩ rfl (by decide) rfl fun _ _ b32 S T => ?_
   replace S : SL ([sl .own (kSl ku8) (some ⟨b32, 0, none⟩) 2 [x1, [1]], sl .ro ku8 (some ⟨b31, 0, none⟩) 1 [1], sl .ro ku8 A2 k3 x1, blk b6 (y0 x4), blk b7 (y1 x5)] ++ F) _ := S.only [0, 2, 2, 2, 2] rfl
   obtain ⟨x34, h33, H⟩ := bd H
   refine r_call T Tryd.call25 rfl rfl (slices_Concat_byte.ok _ _ z [x1, [1]] (S.sel (p := [sl .own (kSl ku8) (some ⟨b32, 0, none⟩) 2 [x1, [1]]]) (is := [0]) rfl) _ h33) ?_
   rintro _ _ ⟨A35, k36, rfl, S⟩
   refine ⟨_, rfl, fun _ T => ?_⟩
   replace S : SL ([sl .own ku8 A35 k36 x34, sl .own (kSl ku8) (some ⟨b32, 0, none⟩) 2 [x1, [1]], sl .ro ku8 (some ⟨b31, 0, none⟩) 1 [1], sl .ro ku8 A2 k3 x1, blk b6 (y0 x4), blk b7 (y1 x5)] ++ F) _ := S.join
   refine r_pv T rfl rfl fun _ T => ?_
   replace H := Option.some.inj H
   subst H
   exact rtn T Tryd.func44 rfl rfl ⟨A35, k36, rfl, (S.only (p := [sl .own ku8 A35 k36 x34, sl .ro ku8 A2 k3 x1]) [0, 2] rfl)⟩
  ·refine cdF T rfl h30 ?_
   refine Gets.skip (Gets.inBlock (Gets.seq ?_))
   refine rg ?_
   refine r_pv T rfl rfl fun _ T => ?_
   replace S := S.asVal (i := 0) (xs := x1) rfl
   refine r_bsl (κ := (kSl ku8)) (xs := [x1]) (vs := [.slice A2 x1.length k3]) T S sty92 rfl ⟨_, _, rfl, ⟨0, rfl⟩, rfl⟩ rfl (by decide) rfl fun _ _ b37 S T => ?_
   replace S : SL ([sl .own (kSl ku8) (some ⟨b37, 0, none⟩) 1 [x1], sl .ro ku8 A2 k3 x1, blk b6 (y0 x4), blk b7 (y1 x5)] ++ F) _ := S.only [0, 1, 1, 1] rfl
   obtain ⟨x39, h38, H⟩ := bd H
   refine r_call T Tryd.call25 rfl rfl (slices_Concat_byte.ok _ _ z [x1] (S.sel (p := [sl .own (kSl ku8) (some ⟨b37, 0, none⟩) 1 [x1]]) (is := [0]) rfl) _ h38) ?_
   rintro _ _ ⟨A40, k41, rfl, S⟩
   refine ⟨_, rfl, fun _ T => ?_⟩
   replace S : SL ([sl .own ku8 A40 k41 x39, sl .own (kSl ku8) (some ⟨b37, 0, none⟩) 1 [x1], sl .ro ku8 A2 k3 x1, blk b6 (y0 x4), blk b7 (y1 x5)] ++ F) _ := S.join
   refine r_pv T rfl rfl fun _ T => ?_
   replace H := Option.some.inj H
   subst H
   exact rtn T Tryd.func44 rfl rfl ⟨A40, k41, rfl, (S.only (p := [sl .own ku8 A40 k41 x39, sl .ro ku8 A2 k3 x1]) [0, 1] rfl)⟩
theorem ok (F : List Atom) (w : World) (z : Nat) (x1 : List Int) (x4 : api_Limit) (x5 : api_Limit) {A2 : Option Addr} {k3 : Nat} (S : SL ([sl .ro ku8 A2 k3 x1] ++ F) w) (r : (List Int)) (H : f z x1 x4 x5 = some r) : Calls Tryd.prog 44 #[.slice A2 x1.length k3, .agg #[.bool x4.Has, .bool x4.Open, .int .i64 x4.Value.Type', .bool x4.Value.Null, .int .i64 x4.Value.Int, .string x4.Value.Text], .agg #[.bool x5.Has, .bool x5.Open, .int .i64 x5.Value.Type', .bool x5.Value.Null, .int .i64 x5.Value.Int, .string x5.Value.Text]] w (R F x1 A2 k3 r) := by
 refine enter (vs := [.slice A2 x1.length k3, .agg #[.bool x4.Has, .bool x4.Open, .int .i64 x4.Value.Type', .bool x4.Value.Null, .int .i64 x4.Value.Int, .string x4.Value.Text], .agg #[.bool x5.Has, .bool x5.Open, .int .i64 x5.Value.Type', .bool x5.Value.Null, .int .i64 x5.Value.Int, .string x5.Value.Text]]) Tryd.func44 rfl Tryd.ntmps44 (Nat.le_of_ble_eq_true rfl) fun a T => ?_
 refine Gets.seq ?_
 refine rg ?_
 refine r_box T S rfl (cs := (y0 x4)) rfl rfl fun _ _ b6 S T => ?_
 refine r_box T S rfl (cs := (y1 x5)) rfl rfl fun _ _ b7 S T => ?_
 refine r_pv T rfl rfl fun _ T => ?_
 refine Gets.seq (Gets.block (Gets.seq ?_))
 refine rg ?_
 refine r_fa (o' := 0) T rfl Tryd.runUnderlying54 rfl Tryd.sizeOf4 rfl rfl fun _ T => ?_
 refine r_ldB (ix := 1) T S rfl Tryd.isAgg4 rfl rfl rfl fun _ T => ?_
 refine r_pv T rfl rfl fun _ T => ?_
 rcases ifE H with ⟨h8, H⟩ | ⟨h8, H⟩
 ·refine g_yes T rfl rfl h8 ?_
  refine r_fa (o' := 1) T rfl Tryd.runUnderlying54 rfl Tryd.sizeOf4 rfl rfl fun _ T => ?_
  refine g_yes T rfl rfl h8 ?_
  refine r_ldB (ix := 1) T S rfl Tryd.isAgg4 rfl rfl rfl fun _ T => ?_
  refine r_pickT T rfl h8 rfl rfl fun _ T => ?_
  refine r_pv T rfl rfl fun _ T => ?_
  rcases ifE H with ⟨h9, H⟩ | ⟨h9, H⟩
  ·refine cdT T rfl h9 ?_
   refine Gets.seq ?_
   refine rg ?_
   refine r_pv T rfl rfl fun _ T => ?_
   refine r_fa (o' := 2) T rfl Tryd.runUnderlying54 rfl Tryd.sizeOf43 rfl rfl fun _ T => ?_
   refine r_ldBA (ix := 1) (ds := [.int .i64 x4.Value.Type', .bool x4.Value.Null, .int .i64 x4.Value.Int, .string x4.Value.Text]) T S rfl Tryd.isAgg43 rfl rfl Tryd.sizeOf43 rfl fun _ T => ?_
   obtain ⟨x11, h10, H⟩ := bd H
   refine r_call T Tryd.call43 rfl rfl (rowkey_column.ok _ _ z (api_Value.mk x4.Value.Type' x4.Value.Null x4.Value.Int x4.Value.Text) (S.sel (p := []) (is := []) rfl) _ h10) ?_
   rintro _ _ ⟨A12, k13, rfl, S⟩
   refine ⟨_, rfl, fun _ T => ?_⟩
   replace S : SL ([sl .own ku8 A12 k13 x11, blk b7 (y1 x5), blk b6 (y0 x4), sl .ro ku8 A2 k3 x1] ++ F) _ := S.join
   replace S := SL.val (κ := ku8) (x := 3) (cs := [.int .u8 3]) (fun _ => rfl) S
   refine r_bsl (κ := ku8) (xs := [3]) (vs := [.int .u8 3]) T S sty29 rfl ⟨_, _, rfl, ⟨0, rfl⟩, rfl⟩ rfl (by decide) rfl fun _ _ b14 S T => ?_
   replace S : SL ([sl .own ku8 (some ⟨b14, 0, none⟩) 1 [3], sl .own ku8 A12 k13 x11, blk b7 (y1 x5), blk b6 (y0 x4), sl .ro ku8 A2 k3 x1] ++ F) _ := S.only [0, 1, 1, 1, 1] rfl
   replace S := S.asVal (i := 4) (xs := x1) rfl
   replace S : SL ([rp (kSl ku8) x1 [.slice A2 x1.length k3], sl .own ku8 (some ⟨b14, 0, none⟩) 1 [3], sl .ro ku8 A12 k13 x11, blk b7 (y1 x5), blk b6 (y0 x4), sl .ro ku8 A2 k3 x1] ++ F) _ := S.fixL (i := 2) rfl rfl
   replace S := S.asVal (i := 2) (xs := x11) rfl
   replace S : SL ([rp (kSl ku8) x11 [.slice A12 x11.length k13], rp (kSl ku8) x1 [.slice A2 x1.length k3], sl .ro ku8 (some ⟨b14, 0, none⟩) 1 [3], sl .ro ku8 A12 k13 x11, blk b7 (y1 x5), blk b6 (y0 x4), sl .ro ku8 A2 k3 x1] ++ F) _ := S.fixL (i := 2) rfl rfl
   replace S := S.asVal (i := 2) (xs := [3]) rfl
   refine r_bsl (κ := (kSl ku8)) (xs := [x1, x11, [3]]) (vs := [.slice A2 x1.length k3, .slice A12 x11.length k13, .slice (some ⟨b14, 0, none⟩) 1 1]) T S sty92 rfl ⟨_, _, rfl, ⟨2, rfl⟩, ⟨_, _, rfl, ⟨1, rfl⟩, ⟨_, _, rfl, ⟨0, rfl⟩, rfl⟩⟩⟩ rfl (by decide) rfl fun _ _ b15 S T => ?_
   replace S : SL ([sl .own (kSl ku8) (some ⟨b15, 0, none⟩) 3 [x1, x11, [3]], sl .ro ku8 (some ⟨b14, 0, none⟩) 1 [3], sl .ro ku8 A12 k13 x11, blk b7 (y1 x5), blk b6 (y0 x4), sl .ro ku8 A2 k3 x1] ++ F) _ := S.only [0, 3, 3, 3, 3, 3] rfl
   obtain ⟨x17, h16, H⟩ := bd H
   refine r_call T Tryd.call25 rfl rfl (slices_Concat_byte.ok _ _ z [x1, x11, [3]] (S.sel (p := [sl .own (kSl ku8) (some ⟨b15, 0, none⟩) 3 [x1, x11, [3]]]) (is := [0]) rfl) _ h16) ?_
   rintro _ _ ⟨A18, k19, rfl, S⟩
   refine ⟨_, rfl, fun _ T => ?_⟩
   replace S : SL ([sl .own ku8 A18 k19 x17, sl .own (kSl ku8) (some ⟨b15, 0, none⟩) 3 [x1, x11, [3]], sl .ro ku8 (some ⟨b14, 0, none⟩) 1 [3], sl .ro ku8 A12 k13 x11, blk b7 (y1 x5), blk b6 (y0 x4), sl .ro ku8 A2 k3 x1] ++ F) _ := S.join
   refine r_pv T rfl rfl fun _ T => ?_
   replace H := Option.some.inj H
   subst H
   exact rtn T Tryd.func44 rfl rfl ⟨A18, k19, rfl, (S.only (p := [sl .own ku8 A18 k19 x17, sl .ro ku8 A2 k3 x1]) [0, 5] rfl)⟩
  ·refine cdF T rfl h9 ?_
   refine Gets.seq ?_
   exact J0_ok F r z x1 A2 k3 b6 b7 x4 x5 _ _ (T.sub ⟨rfl, rfl, rfl, trivial⟩) (S.only (p := [sl .ro ku8 A2 k3 x1, blk b6 (y0 x4), blk b7 (y1 x5)]) [2, 1, 0] rfl) H
 ·refine g_no T rfl rfl h8 rfl fun _ T => ?_
  refine g_no T rfl rfl h8 rfl fun _ T => ?_
  refine r_pickF T rfl h8 rfl rfl fun _ T => ?_
  refine r_pv T rfl rfl fun _ T => ?_
  refine cdF T rfl rfl ?_
  refine Gets.seq ?_
  exact J0_ok F r z x1 A2 k3 b6 b7 x4 x5 _ _ (T.sub ⟨rfl, rfl, rfl, trivial⟩) (S.only (p := [sl .ro ku8 A2 k3 x1, blk b6 (y0 x4), blk b7 (y1 x5)]) [2, 1, 0] rfl) H
end rowkey_from
end Go.Proofs.YtohelmfkpmphoaaDoor
namespace Go.Proofs.YtohelmfkpmphoaaDoor
open Go Go.Proofs.YtohelmfkpmphoaaDoor.X
set_option linter.unusedVariables false
set_option linter.unusedSimpArgs false
set_option maxRecDepth 100000
set_option maxHeartbeats 4000000
namespace rowkey_to
noncomputable def c0 : Code := match Tryd.f45.body with | some c => c | none => .skip
def R (F : List Atom) (x1 : List Int) (A2 : Option Addr) (k3 : Nat) (r : (List Int)) : Ending → World → Prop := fun e w' => ∃ (A43 : Option Addr), ∃ (k44 : Nat), e = .returned (.slice A43 r.length k44) ∧ SL ([sl .own ku8 A43 k44 r, sl .ro ku8 A2 k3 x1] ++ F) w'
def J0 (z : Nat) (x1 : List Int) (x4 : api_Limit) (x5 : api_Limit) : Option (List Int) := If x5.Has (Bd (rowkey_column.f z (api_Value.mk x5.Value.Type' x5.Value.Null x5.Value.Int x5.Value.Text)) fun x21 => Bd (slices_Concat_byte.f z [x1, x21, [3]]) fun x27 => some x27) (If x4.Has (Bd (slices_Concat_byte.f z [x1, [2]]) fun x34 => some x34) (Bd (slices_Concat_byte.f z [x1, [3]]) fun x40 => some x40))
def f (z : Nat) (x1 : List Int) (x4 : api_Limit) (x5 : api_Limit) : Option (List Int) := If x5.Has (If x5.Open (Bd (rowkey_column.f z (api_Value.mk x5.Value.Type' x5.Value.Null x5.Value.Int x5.Value.Text)) fun x11 => Bd (slices_Concat_byte.f z [x1, x11]) fun x16 => some x16) (J0 z x1 x4 x5)) (J0 z x1 x4 x5)
noncomputable def ptJ0 : List Item := [.code (cL (cE (cR (cB (cL (cR c0)))))), .code (cR (cE (cR (cB (cL (cR c0)))))), .inBlock 0, .code (cR (cR c0))]
abbrev y0 (x4 : api_Limit) : List Value := [.bool x4.Has, .bool x4.Open, .int .i64 x4.Value.Type', .bool x4.Value.Null, .int .i64 x4.Value.Int, .string x4.Value.Text]
abbrev y1 (x5 : api_Limit) : List Value := [.bool x5.Has, .bool x5.Open, .int .i64 x5.Value.Type', .bool x5.Value.Null, .int .i64 x5.Value.Int, .string x5.Value.Text]
theorem J0_ok (F : List Atom) (r : (List Int)) (z : Nat) (x1 : List Int) (A2 : Option Addr) (k3 : Nat) (b6 : Nat) (b7 : Nat) (x4 : api_Limit) (x5 : api_Limit) (a : Act) (w : World) (T : Tm 41 [(0, .slice A2 x1.length k3), (4, .pointer (some ⟨b6, 0, none⟩)), (5, .pointer (some ⟨b7, 0, none⟩))] a) (S : SL ([sl .ro ku8 A2 k3 x1, blk b6 (y0 x4), blk b7 (y1 x5)] ++ F) w) (H : J0 z x1 x4 x5 = some r) : Gets Tryd.prog 45 ptJ0 a w (R F x1 A2 k3 r) := by
 refine rg ?_
 refine r_fa (o' := 0) T rfl Tryd.runUnderlying54 rfl Tryd.sizeOf4 rfl rfl fun _ T => ?_
 refine r_ldB (ix := 2) T S rfl Tryd.isAgg4 rfl rfl rfl fun _ T => ?_
 refine r_pv T rfl rfl fun _ T => ?_
 rcases ifE H with ⟨h19, H⟩ | ⟨h19, H⟩
 ·refine cdT T rfl h19 ?_
  refine Gets.seq ?_
  refine rg ?_
  refine r_pv T rfl rfl fun _ T => ?_
  refine r_fa (o' := 2) T rfl Tryd.runUnderlying54 rfl Tryd.sizeOf43 rfl rfl fun _ T => ?_
  refine r_ldBA (ix := 2) (ds := [.int .i64 x5.Value.Type', .bool x5.Value.Null, .int .i64 x5.Value.Int, .string x5.Value.Text]) T S rfl Tryd.isAgg43 rfl rfl Tryd.sizeOf43 rfl fun _ T => ?_
  obtain ⟨x21, h20, H⟩ := bd H
  refine r_call T Tryd.call43 rfl rfl (rowkey_column.ok _ _ z (api_Value.mk x5.Value.Type' x5.Value.Null x5.Value.Int x5.Value.Text) (S.sel (p := []) (is := []) rfl) _ h20) ?_
  rintro _ _ ⟨A22, k23, rfl, S⟩
  refine ⟨_, rfl, fun _ T => ?_⟩
  replace S : SL ([sl .own ku8 A22 k23 x21, sl .ro ku8 A2 k3 x1, blk b6 (y0 x4), blk b7 (y1 x5)] ++ F) _ := S.join
  replace S := SL.val (κ := ku8) (x := 3) (cs := [.int .u8 3]) (fun _ => rfl) S
  refine r_bsl (κ := ku8) (xs := [3]) (vs := [.int .u8 3]) T S sty29 rfl ⟨_, _, rfl, ⟨0, rfl⟩, rfl⟩ rfl (by decide) rfl fun _ _ b24 S T => ?_
  replace S : SL ([sl .own ku8 (some ⟨b24, 0, none⟩) 1 [3], sl .own ku8 A22 k23 x21, sl .ro ku8 A2 k3 x1, blk b6 (y0 x4), blk b7 (y1 x5)] ++ F) _ := S.only [0, 1, 1, 1, 1] rfl
  replace S := S.asVal (i := 2) (xs := x1) rfl
  replace S : SL ([rp (kSl ku8) x1 [.slice A2 x1.length k3], sl .own ku8 (some ⟨b24, 0, none⟩) 1 [3], sl .ro ku8 A22 k23 x21, sl .ro ku8 A2 k3 x1, blk b6 (y0 x4), blk b7 (y1 x5)] ++ F) _ := S.fixL (i := 2) rfl rfl
  replace S := S.asVal (i := 2) (xs := x21) rfl
  replace S : SL ([rp (kSl ku8) x21 [.slice A22 x21.length k23], rp (kSl ku8) x1 [.slice A2 x1.length k3], sl .ro ku8 (some ⟨b24, 0, none⟩) 1 [3], sl .ro ku8 A22 k23 x21, sl .ro ku8 A2 k3 x1, blk b6 (y0 x4), blk b7 (y1 x5)] ++ F) _ := S.fixL (i := 2) rfl rfl
  replace S := S.asVal (i := 2) (xs := [3]) rfl
  refine r_bsl (κ := (kSl ku8)) (xs := [x1, x21, [3]]) (vs := [.slice A2 x1.length k3, .slice A22 x21.length k23, .slice (some ⟨b24, 0, none⟩) 1 1]) T S sty92 rfl ⟨_, _, rfl, ⟨2, rfl⟩, ⟨_, _, rfl, ⟨1, rfl⟩, ⟨_, _, rfl, ⟨0, rfl⟩, rfl⟩⟩⟩ rfl (by decide) rfl fun _ _ b25 S T => ?_
  replace S : SL ([sl .own (kSl ku8) (some ⟨b25, 0, none⟩) 3 [x1, x21, [3]], sl .ro ku8 (some ⟨b24, 0, none⟩) 1 [3], sl .ro ku8 A22 k23 x21, sl .ro ku8 A2 k3 x1, blk b6 (y0 x4), blk b7 (y1 x5)] ++ F) _ := S.only [0, 3, 3, 3, 3, 3] rfl
  obtain ⟨x27, h26, H⟩ := bd H
  refine r_call T Tryd.call25 rfl rfl (slices_Concat_byte.ok _ _ z [x1, x21, [3]] (S.sel (p := [sl .own (kSl ku8) (some ⟨b25, 0, none⟩) 3 [x1, x21, [3]]]) (is := [0]) rfl) _ h26) ?_
  rintro _ _ ⟨A28, k29, rfl, S⟩
  refine ⟨_, rfl, fun _ T => ?_⟩
  replace S : SL ([sl .own ku8 A28 k29 x27, sl .own (kSl ku8) (some ⟨b25, 0, none⟩) 3 [x1, x21, [3]], sl .ro ku8 (some ⟨b24, 0, none⟩) 1 [3], sl .ro ku8 A22 k23 x21, sl .ro ku8 A2 k3 x1, blk b6 (y0 x4), blk b7 (y1 x5)] ++ F) _ := S.join
  refine r_pv T rfl rfl fun _ T => ?_
  replace H := Option.some.inj H
  subst H
  exact rtn T Tryd.func45 rfl rfl ⟨A28, k29, rfl, (S.only (p := [sl .own ku8 A28 k29 x27, sl .ro ku8 A2 k3 x1]) [0, 3] rfl)⟩
 ·refine cdF T rfl h19 ?_
  refine Gets.seq ?_
  refine rg ?_
  refine r_fa (o' := 0) T rfl Tryd.runUnderlying54 rfl Tryd.sizeOf4 rfl rfl fun _ T => ?_
  refine r_ldB (ix := 1) T S rfl Tryd.isAgg4 rfl rfl rfl fun _ T => ?_
  refine r_pv T rfl rfl fun _ T => ?_
  rcases ifE H with ⟨h30, H⟩ | ⟨h30, H⟩
  ·refine cdT T rfl h30 ?_
   refine Gets.seq ?_
   refine rg ?_
   refine r_pv T rfl rfl fun _ T => ?_
   replace S := SL.val (κ := ku8) (x := 2) (cs := [.int .u8 2]) (fun _ => rfl) S
   refine r_bsl (κ := ku8) (xs := [2]) (vs := [.int .u8 2]) T S sty29 rfl ⟨_, _, rfl, ⟨0, rfl⟩, rfl⟩ rfl (by decide) rfl fun _ _ b31 S T => ?_
   replace S : SL ([sl .own ku8 (some ⟨b31, 0, none⟩) 1 [2], sl .ro ku8 A2 k3 x1, blk b6 (y0 x4), blk b7 (y1 x5)] ++ F) _ := S.only [0, 1, 1, 1] rfl
   replace S := S.asVal (i := 1) (xs := x1) rfl
   replace S : SL ([rp (kSl ku8) x1 [.slice A2 x1.length k3], sl .ro ku8 (some ⟨b31, 0, none⟩) 1 [2], sl .ro ku8 A2 k3 x1, blk b6 (y0 x4), blk b7 (y1 x5)] ++ F) _ := S.fixL (i := 1) rfl rfl
   replace S := S.asVal (i := 1) (xs := [2]) rfl
   refine r_bsl (κ := (kSl ku8)) (xs := [x1, [2]]) (vs := [.slice A2 x1.length k3, .slice (some ⟨b31, 0, none⟩) 1 1]) T S sty92 rfl ⟨_, _, rfl, ⟨1, rfl⟩, ⟨_, _, rfl, ⟨0, rfl⟩, rfl⟩⟩ rfl (by decide) rfl fun _ _ b32 S T => ?_
   replace S : SL ([sl .own (kSl ku8) (some ⟨b32, 0, none⟩) 2 [x1, [2]], sl .ro ku8 (some ⟨b31, 0, none⟩) 1 [2], sl .ro ku8 A2 k3 x1, blk b6 (y0 x4), blk b7 (y1 x5)] ++ F) _ := S.only [0, 2, 2, 2, 2] rfl
   obtain ⟨x34, h33, H⟩ := bd H
   refine r_call T Tryd.call25 rfl rfl (slices_Concat_byte.ok _ _ z [x1, [2]] (S.sel (p := [sl .own (kSl ku8) (some ⟨b32, 0, none⟩) 2 [x1, [2]]]) (is := [0]) rfl) _ h33) ?_
   rintro _ _ ⟨A35, k36, rfl, S⟩
   refine ⟨_, rfl, fun _ T => ?_⟩
   replace S : SL ([sl .own ku8 A35 k36 x34, sl .own (kSl ku8) (some ⟨b32, 0, none⟩) 2 [x1, [2]], sl .ro ku8 (some ⟨b31, 0, none⟩) 1 [2], sl .ro ku8 A2 k3 x1, blk b6 (y0 x4), blk b7 (y1 x5)] ++ F) _ := S.join
   refine r_pv T rfl rfl fun _ T => ?_
   replace H := Option.some.inj H
   subst H
   exact rtn T Tryd.func45 rfl rfl ⟨A35, k36, rfl, (S.only (p := [sl .own ku8 A35 k36 x34, sl .ro ku8 A2 k3 x1]) [0, 2] rfl)⟩
  ·refine cdF T rfl h30 ?_
   refine Gets.skip (Gets.inBlock (Gets.seq ?_))
   refine rg ?_
   refine r_pv T rfl rfl fun _ T => ?_
   replace S := SL.val (κ := ku8) (x := 3) (cs := [.int .u8 3]) (fun _ => rfl) S
   refine r_bsl (κ := ku8) (xs := [3]) (vs := [.int .u8 3]) T S sty29 rfl ⟨_, _, rfl, ⟨0, rfl⟩, rfl⟩ rfl (by decide) rfl fun _ _ b37 S T => ?_
   replace S : SL ([sl .own ku8 (some ⟨b37, 0, none⟩) 1 [3], sl .ro ku8 A2 k3 x1, blk b6 (y0 x4), blk b7 (y1 x5)] ++ F) _ := S.only [0, 1, 1, 1] rfl
   replace S := S.asVal (i := 1) (xs := x1) rfl
   replace S : SL ([rp (kSl ku8) x1 [.slice A2 x1.length k3], sl .ro ku8 (some ⟨b37, 0, none⟩) 1 [3], sl .ro ku8 A2 k3 x1, blk b6 (y0 x4), blk b7 (y1 x5)] ++ F) _ := S.fixL (i := 1) rfl rfl
   replace S := S.asVal (i := 1) (xs := [3]) rfl
   refine r_bsl (κ := (kSl ku8)) (xs := [x1, [3]]) (vs := [.slice A2 x1.length k3, .slice (some ⟨b37, 0, none⟩) 1 1]) T S sty92 rfl ⟨_, _, rfl, ⟨1, rfl⟩, ⟨_, _, rfl, ⟨0, rfl⟩, rfl⟩⟩ rfl (by decide) rfl fun _ _ b38 S T => ?_
   replace S : SL ([sl .own (kSl ku8) (some ⟨b38, 0, none⟩) 2 [x1, [3]], sl .ro ku8 (some ⟨b37, 0, none⟩) 1 [3], sl .ro ku8 A2 k3 x1, blk b6 (y0 x4), blk b7 (y1 x5)] ++ F) _ := S.only [0, 2, 2, 2, 2] rfl
   obtain ⟨x40, h39, H⟩ := bd H
   refine r_call T Tryd.call25 rfl rfl (slices_Concat_byte.ok _ _ z [x1, [3]] (S.sel (p := [sl .own (kSl ku8) (some ⟨b38, 0, none⟩) 2 [x1, [3]]]) (is := [0]) rfl) _ h39) ?_
   rintro _ _ ⟨A41, k42, rfl, S⟩
   refine ⟨_, rfl, fun _ T => ?_⟩
   replace S : SL ([sl .own ku8 A41 k42 x40, sl .own (kSl ku8) (some ⟨b38, 0, none⟩) 2 [x1, [3]], sl .ro ku8 (some ⟨b37, 0, none⟩) 1 [3], sl .ro ku8 A2 k3 x1, blk b6 (y0 x4), blk b7 (y1 x5)] ++ F) _ := S.join
   refine r_pv T rfl rfl fun _ T => ?_
   replace H := Option.some.inj H
   subst H
   exact rtn T Tryd.func45 rfl rfl ⟨A41, k42, rfl, (S.only (p := [sl .own ku8 A41 k42 x40, sl .ro ku8 A2 k3 x1]) [0, 2] rfl)⟩
theorem ok (F : List Atom) (w : World) (z : Nat) (x1 : List Int) (x4 : api_Limit) (x5 : api_Limit) {A2 : Option Addr} {k3 : Nat} (S : SL ([sl .ro ku8 A2 k3 x1] ++ F) w) (r : (List Int)) (H : f z x1 x4 x5 = some r) : Calls Tryd.prog 45 #[.slice A2 x1.length k3, .agg #[.bool x4.Has, .bool x4.Open, .int .i64 x4.Value.Type', .bool x4.Value.Null, .int .i64 x4.Value.Int, .string x4.Value.Text], .agg #[.bool x5.Has, .bool x5.Open, .int .i64 x5.Value.Type', .bool x5.Value.Null, .int .i64 x5.Value.Int, .string x5.Value.Text]] w (R F x1 A2 k3 r) := by
 refine enter (vs := [.slice A2 x1.length k3, .agg #[.bool x4.Has, .bool x4.Open, .int .i64 x4.Value.Type', .bool x4.Value.Null, .int .i64 x4.Value.Int, .string x4.Value.Text], .agg #[.bool x5.Has, .bool x5.Open, .int .i64 x5.Value.Type', .bool x5.Value.Null, .int .i64 x5.Value.Int, .string x5.Value.Text]]) Tryd.func45 rfl Tryd.ntmps45 (Nat.le_of_ble_eq_true rfl) fun a T => ?_
 refine Gets.seq ?_
 refine rg ?_
 refine r_box T S rfl (cs := (y0 x4)) rfl rfl fun _ _ b6 S T => ?_
 refine r_box T S rfl (cs := (y1 x5)) rfl rfl fun _ _ b7 S T => ?_
 refine r_pv T rfl rfl fun _ T => ?_
 refine Gets.seq (Gets.block (Gets.seq ?_))
 refine rg ?_
 refine r_fa (o' := 0) T rfl Tryd.runUnderlying54 rfl Tryd.sizeOf4 rfl rfl fun _ T => ?_
 refine r_ldB (ix := 0) T S rfl Tryd.isAgg4 rfl rfl rfl fun _ T => ?_
 refine r_pv T rfl rfl fun _ T => ?_
 rcases ifE H with ⟨h8, H⟩ | ⟨h8, H⟩
 ·refine g_yes T rfl rfl h8 ?_
  refine r_fa (o' := 1) T rfl Tryd.runUnderlying54 rfl Tryd.sizeOf4 rfl rfl fun _ T => ?_
  refine g_yes T rfl rfl h8 ?_
  refine r_ldB (ix := 0) T S rfl Tryd.isAgg4 rfl rfl rfl fun _ T => ?_
  refine r_pickT T rfl h8 rfl rfl fun _ T => ?_
  refine r_pv T rfl rfl fun _ T => ?_
  rcases ifE H with ⟨h9, H⟩ | ⟨h9, H⟩
  ·refine cdT T rfl h9 ?_
   refine Gets.seq ?_
   refine rg ?_
   refine r_pv T rfl rfl fun _ T => ?_
   refine r_fa (o' := 2) T rfl Tryd.runUnderlying54 rfl Tryd.sizeOf43 rfl rfl fun _ T => ?_
   refine r_ldBA (ix := 0) (ds := [.int .i64 x5.Value.Type', .bool x5.Value.Null, .int .i64 x5.Value.Int, .string x5.Value.Text]) T S rfl Tryd.isAgg43 rfl rfl Tryd.sizeOf43 rfl fun _ T => ?_
   obtain ⟨x11, h10, H⟩ := bd H
   refine r_call T Tryd.call43 rfl rfl (rowkey_column.ok _ _ z (api_Value.mk x5.Value.Type' x5.Value.Null x5.Value.Int x5.Value.Text) (S.sel (p := []) (is := []) rfl) _ h10) ?_
   rintro _ _ ⟨A12, k13, rfl, S⟩
   refine ⟨_, rfl, fun _ T => ?_⟩
   replace S : SL ([sl .own ku8 A12 k13 x11, blk b7 (y1 x5), blk b6 (y0 x4), sl .ro ku8 A2 k3 x1] ++ F) _ := S.join
   replace S := S.asVal (i := 3) (xs := x1) rfl
   replace S : SL ([rp (kSl ku8) x1 [.slice A2 x1.length k3], sl .ro ku8 A12 k13 x11, blk b7 (y1 x5), blk b6 (y0 x4), sl .ro ku8 A2 k3 x1] ++ F) _ := S.fixL (i := 1) rfl rfl
   replace S := S.asVal (i := 1) (xs := x11) rfl
   refine r_bsl (κ := (kSl ku8)) (xs := [x1, x11]) (vs := [.slice A2 x1.length k3, .slice A12 x11.length k13]) T S sty92 rfl ⟨_, _, rfl, ⟨1, rfl⟩, ⟨_, _, rfl, ⟨0, rfl⟩, rfl⟩⟩ rfl (by decide) rfl fun _ _ b14 S T => ?_
   replace S : SL ([sl .own (kSl ku8) (some ⟨b14, 0, none⟩) 2 [x1, x11], sl .ro ku8 A12 k13 x11, blk b7 (y1 x5), blk b6 (y0 x4), sl .ro ku8 A2 k3 x1] ++ F) _ := S.only [0, 2, 2, 2, 2] rfl
   obtain ⟨x16, h15, H⟩ := bd H
   refine r_call T Tryd.call25 rfl rfl (slices_Concat_byte.ok _ _ z [x1, x11] (S.sel (p := [sl .own (kSl ku8) (some ⟨b14, 0, none⟩) 2 [x1, x11]]) (is := [0]) rfl) _ h15) ?_
   rintro _ _ ⟨A17, k18, rfl, S⟩
   refine ⟨_, rfl, fun _ T => ?_⟩
   replace S : SL ([sl .own ku8 A17 k18 x16, sl .own (kSl ku8) (some ⟨b14, 0, none⟩) 2 [x1, x11], sl .ro ku8 A12 k13 x11, blk b7 (y1 x5), blk b6 (y0 x4), sl .ro ku8 A2 k3 x1] ++ F) _ := S.join
   refine r_pv T rfl rfl fun _ T => ?_
   replace H := Option.some.inj H
   subst H
   exact rtn T Tryd.func45 rfl rfl ⟨A17, k18, rfl, (S.only (p := [sl .own ku8 A17 k18 x16, sl .ro ku8 A2 k3 x1]) [0, 4] rfl)⟩
  ·refine cdF T rfl h9 ?_
   refine Gets.seq ?_
   exact J0_ok F r z x1 A2 k3 b6 b7 x4 x5 _ _ (T.sub ⟨rfl, rfl, rfl, trivial⟩) (S.only (p := [sl .ro ku8 A2 k3 x1, blk b6 (y0 x4), blk b7 (y1 x5)]) [2, 1, 0] rfl) H
 ·refine g_no T rfl rfl h8 rfl fun _ T => ?_
  refine g_no T rfl rfl h8 rfl fun _ T => ?_
  refine r_pickF T rfl h8 rfl rfl fun _ T => ?_
  refine r_pv T rfl rfl fun _ T => ?_
  refine cdF T rfl rfl ?_
  refine Gets.seq ?_
  exact J0_ok F r z x1 A2 k3 b6 b7 x4 x5 _ _ (T.sub ⟨rfl, rfl, rfl, trivial⟩) (S.only (p := [sl .ro ku8 A2 k3 x1, blk b6 (y0 x4), blk b7 (y1 x5)]) [2, 1, 0] rfl) H
end rowkey_to
end Go.Proofs.YtohelmfkpmphoaaDoor
