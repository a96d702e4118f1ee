/- Texts as tables of bytes; codes of which any few rows make all; plain. -/
import Derived.Test.YtalinkpfklhgaaaRowsLaw5
import Derived.Test.YtalinkpfklhgaaaStrs
set_option linter.unusedVariables false
set_option linter.unusedSimpArgs false
namespace Go.Proofs.Ytalinkpfklhgaaa.CodP
open Go.Proofs.Ytalinkpfklhgaaa Go.Proofs.Ytalinkpfklhgaaa.Base Go.Proofs.Ytalinkpfklhgaaa.Lin Go.Proofs.Ytalinkpfklhgaaa.RowsW

/-- The bytes of texts. -/
def txb (s : ByteArray) (p : Nat) : Nat := (s.data.toList.getD p 0).toNat
theorem txb_le (s : ByteArray) (p : Nat) : txb s p ≤ 255 := by
  unfold txb
  have := (s.data.toList.getD p 0).toNat_lt
  omega
def tx (ss : List ByteArray) : M := fun i p => toF (txb (ss.getD i ByteArray.empty) p)
def br (L : Nat) (f : Nat → F) : List UInt8 := (List.range L).map fun p => UInt8.ofNat (f p).v
def strOf (L : Nat) (f : Nat → F) : ByteArray := str (br L f)
def txs (m L : Nat) (X : M) : List ByteArray := (List.range m).map fun i => strOf L (X i)
theorem br_length (L : Nat) (f : Nat → F) : (br L f).length = L := by simp [br]
theorem br_succ (L : Nat) (f : Nat → F) : br (L + 1) f = br L f ++ [UInt8.ofNat (f L).v] := by
  unfold br
  rw [List.range_succ]
  simp
theorem ofNat_v (a : F) : (UInt8.ofNat a.v).toNat = a.v := by
  have := a.le
  exact UInt8.toNat_ofNat_of_lt' (show a.v < 256 by omega)
theorem br_congr {L : Nat} {f g : Nat → F} (h : ∀ p, p < L → f p = g p) : br L f = br L g :=
  List.map_congr_left fun p hp => by rw [h p (List.mem_range.1 hp)]
theorem strOf_size (L : Nat) (f : Nat → F) : (strOf L f).size = L := by rw [strOf, str_size, br_length]
theorem strOf_congr {L : Nat} {f g : Nat → F} (h : ∀ p, p < L → f p = g p) : strOf L f = strOf L g := by rw [strOf, strOf, br_congr h]
theorem txs_length (m L : Nat) (X : M) : (txs m L X).length = m := by simp [txs]
theorem txs_getElem (m L : Nat) (X : M) (i : Nat) (h : i < (txs m L X).length) : (txs m L X)[i] = strOf L (X i) := by simp [txs]
theorem txs_succ (m L : Nat) (X : M) : txs (m + 1) L X = txs m L X ++ [strOf L (X m)] := by
  unfold txs
  rw [List.range_succ]
  simp
theorem txs_congr {m L : Nat} {X Y : M} (h : Eqv m L X Y) : txs m L X = txs m L Y :=
  List.map_congr_left fun i hi => strOf_congr fun p hp => h i (List.mem_range.1 hi) p hp
theorem txb_strOf (L : Nat) (f : Nat → F) (p : Nat) (h : p < L) : txb (strOf L f) p = (f p).v := by
  unfold txb strOf
  rw [str_list, List.getD_eq_getElem?_getD, br, List.getElem?_map, List.getElem?_range h]
  exact ofNat_v _
theorem tx_txs (m L : Nat) (X : M) : Eqv m L (tx (txs m L X)) X := fun i hi p hp => by
  unfold tx
  have hl : i < (txs m L X).length := by rw [txs_length]; exact hi
  rw [List.getD_eq_getElem?_getD, List.getElem?_eq_getElem hl, Option.getD_some, txs_getElem, txb_strOf L _ p hp, toF_of]
theorem tx_at {ss : List ByteArray} {i : Nat} (h : i < ss.length) (p : Nat) : (tx ss i p).v = txb ss[i] p := by
  unfold tx
  rw [List.getD_eq_getElem?_getD, List.getElem?_eq_getElem h, Option.getD_some]
  exact toF_v (txb_le _ _)
theorem strOf_tx {ss : List ByteArray} {L i : Nat} (h : i < ss.length) (hs : ss[i].size = L) : strOf L (tx ss i) = ss[i] := by
  have : br L (tx ss i) = ss[i].data.toList := by
    apply List.ext_getElem
    · rw [br_length, list_size, hs]
    · intro p h1 h2
      have h3 : (tx ss i p).v = (ss[i].data.toList[p]).toNat := by
        rw [tx_at h, txb, List.getD_eq_getElem?_getD, List.getElem?_eq_getElem h2]
        rfl
      simp only [br, List.getElem_map, List.getElem_range]
      rw [h3]
      simp
  rw [strOf, this, list_str]
theorem txs_tx {ss : List ByteArray} {L : Nat} (h : ∀ i (h : i < ss.length), ss[i].size = L) : txs ss.length L (tx ss) = ss := by
  apply List.ext_getElem
  · rw [txs_length]
  · intro i h1 h2
    rw [txs_getElem, strOf_tx h2 (h i h2)]
theorem txs_size (m L : Nat) (X : M) : ∀ i (h : i < (txs m L X).length), (txs m L X)[i].size = L := fun i h => by rw [txs_getElem, strOf_size]
/-- Rows that were picked. -/
def selT (G : M) (l : List Int) : M := fun i j => G ((l.getD i 0).toNat) j
theorem selT_pick (G : M) (n k : Nat) (l : List Int) (h : ∀ i (h : i < l.length), 0 ≤ l[i] ∧ l[i] < n) : pickL (tab n k G) l = tab l.length k (selT G l) := by
  apply List.ext_getElem
  · rw [pickL_length, tab_length]
  · intro i h1 h2
    have hi : i < l.length := by rw [pickL_length] at h1; exact h1
    have hr := h i hi
    have e1 : (pickL (tab n k G) l)[i] = (tab n k G).getD (l[i].toNat) [] := by simp [pickL]
    rw [e1, tab_get k G (by omega), tab_getElem]
    refine rw1_congr fun j hj => ?_
    unfold selT
    rw [List.getD_eq_getElem?_getD, List.getElem?_eq_getElem hi, Option.getD_some]
theorem selT_at {G : M} {l : List Int} {i m : Nat} (h : i < l.length) (e : l[i] = (m : Int)) : selT G l i = G m := by
  funext j
  unfold selT
  rw [List.getD_eq_getElem?_getD, List.getElem?_eq_getElem h, Option.getD_some, e, Int.toNat_natCast]
/-- Numbers within reach, none twice. -/
structure Apart (n : Nat) (l : List Int) : Prop where
  rng : ∀ i (h : i < l.length), 0 ≤ l[i] ∧ l[i] < n
  ne : ∀ i (h : i < l.length), ∀ j (hj : j < i), l[i] ≠ l[j]'(by omega)
/-- A code of k of n. -/
structure CodeG (k n : Nat) (G : M) : Prop where
  gen : ∃ U : M, Eqv n k G (mm k powT U) ∧ Eqv k k (mm k U powT) dl ∧ Eqv k k (mm k powT U) dl
  one : Eqv k k G dl
  free : ∀ l : List Int, l.length = k → Apart n l → Free k (selT G l)
theorem CodeG.of_powers {k n : Nat} (hn : n ≤ 32) (hk : k ≤ n) {U : M} (h1 : Eqv k k (mm k U powT) dl) (h2 : Eqv k k (mm k powT U) dl) : CodeG k n (mm k powT U) := by
  refine ⟨⟨U, Eqv.refl _ _ _, h1, h2⟩, h2, fun l hl ha => ?_⟩
  have hU : Free k U := free_of_left (B := powT) h2
  have hP := powL_free l n hn ha.rng ha.ne
  rw [hl] at hP
  exact free_mul (A := powL l) hP hU
theorem CodeG.single {n : Nat} {G : M} (h : CodeG 1 n G) : ∀ i, i < n → G i 0 = 1 := fun i hi => by
  obtain ⟨U, h1, h2, _⟩ := h.gen
  have e0 : ∀ i, powT i 0 = 1 := fun i => rfl
  have e1 : U 0 0 = 1 := by
    have h3 : (0 : F) + U 0 0 * powT 0 0 = dl 0 0 := h2 0 (by omega) 0 (by omega)
    rw [e0, zero_add, mul_one, dl_self] at h3
    exact h3
  rw [h1 i hi 0 (by omega)]
  show (0 : F) + powT i 0 * U 0 0 = 1
  rw [e0, e1, zero_add, mul_one]
/-- The numbers below a limit. -/
def upL (k : Nat) : List Int := (List.range k).map fun i : Nat => (i : Int)
theorem upL_length (k : Nat) : (upL k).length = k := by simp [upL]
theorem upL_getElem (k i : Nat) (h : i < (upL k).length) : (upL k)[i] = (i : Int) := by simp [upL]
theorem upL_apart {k n : Nat} (h : k ≤ n) : Apart n (upL k) := by
  refine ⟨fun i hi => ?_, fun i hi j hj => ?_⟩
  · rw [upL_getElem]; rw [upL_length] at hi; omega
  · rw [upL_getElem, upL_getElem]; omega
theorem upL_succ (k : Nat) : upL (k + 1) = upL k ++ [(k : Int)] := by
  unfold upL
  rw [List.range_succ]
  simp
theorem selT_up (G : M) (k : Nat) (q : Nat) : Eqv k q (selT G (upL k)) G := fun i hi j _ => by
  rw [selT_at (m := i) (by rw [upL_length]; exact hi) (upL_getElem k i (by rw [upL_length]; exact hi))]
end Go.Proofs.Ytalinkpfklhgaaa.CodP
