/- Texts of this claim in one. -/
import Derived.WalkKit
import Derived.KernelRfl
import Derived.Deep.QuietTactic
import Derived.BigQuiet
import Derived.WalkSpells
import Derived.WalkLawsBesides
import Derived.Lib.Hide
import Derived.Deep.DeepCutAuto
import Derived.Deep.RegionWith
import Derived.Deep.RegionLaw
import Derived.Deep.RegionHeld3
import Derived.Lib.QuietBelow
import Derived.Test.YtmlemichkeomjaaProg
import Derived.Maps.AppendAt
import Derived.Deep.OwnRows
import Derived.Deep.AppendLies
import Derived.SliceStrings
/- Words that the walks share: what a call may change in memory, and a scope in which the run jumps back to one label. -/
set_option linter.unusedVariables false
set_option linter.unusedSimpArgs false
namespace Go.Proofs.Ytmlemichkeomjaa.Base
open Go.RowKit

theorem cell_below {w w1 : World} (h : Below w.heap.size w w1) {a : Addr} {v : Value} (hc : w.cell? a = some v) : w1.cell? a = some v :=
  (h.cell (World.block_lt_of_cell? w a hc)).trans hc
theorem frozen_below {w w1 : World} (h : Below w.heap.size w w1) {a : Addr} {v : Value} (hc : w.cell? a = some v) : w1.frozen? a = w.frozen? a :=
  h.frozen (World.block_lt_of_cell? w a hc)
theorem below_trans {w w1 w2 : World} (h : Below w.heap.size w w1) (k : Below w1.heap.size w1 w2) : Below w.heap.size w w2 := h.trans (k.mono h.size)
theorem below_drewN {B : Nat} {w W : World} (h : Below B w W) (n : Nat) : Below B w (W.drewN n) := ⟨h.os, h.tape, h.output, h.size, h.block⟩

theorem below_of_drew {w w1 : World} (h : Below w.drew.heap.size w.drew w1) : Below w.heap.size w w1 := ⟨h.os, h.tape, h.output, h.size, h.block⟩
theorem below_of_regrown {w w' : World} (h : ∃ p : Regrown, w' = Go.Sort.grow (redrawn w p.d) p.os) : Below w.heap.size w w' := by
  obtain ⟨p, rfl⟩ := h
  exact below_regrown w p.d p.os
theorem bt {B : Nat} {w W W' : World} (h : Below B w W) (hB : B ≤ W.heap.size) (hd : Below W.heap.size W W') : Below B w W' := h.trans (hd.mono hB)
theorem bt_drew {B : Nat} {w W W' : World} (h : Below B w W) (hB : B ≤ W.heap.size) (hd : Below W.drew.heap.size W.drew W') : Below B w W' := h.trans ((below_of_drew hd).mono hB)
theorem bt_drewN {B : Nat} {w W W' : World} {n : Nat} (h : Below B w W) (hB : B ≤ W.heap.size) (hd : Below (W.drewN n).heap.size (W.drewN n) W') : Below B w W' :=
  h.trans (⟨hd.os, hd.tape, hd.output, hd.size, fun k hk => hd.block k (Nat.lt_of_lt_of_le hk hB)⟩)
/-- Some orders were drawn, and nothing else happened. -/
def Drawn (w w' : World) : Prop := ∃ n, w' = w.drewN n
theorem Drawn.refl (w : World) : Drawn w w := ⟨0, rfl⟩
theorem Drawn.trans {a b c : World} (h : Drawn a b) (k : Drawn b c) : Drawn a c := by
  obtain ⟨n, rfl⟩ := h
  obtain ⟨m, rfl⟩ := k
  exact ⟨n + m, World.drewN_drewN ..⟩
theorem Drawn.step {w : World} (n : Nat) : Drawn w (w.drewN n) := ⟨n, rfl⟩
theorem Drawn.below {B : Nat} {w w' : World} (h : Drawn w w') : Below B w w' := by
  obtain ⟨n, rfl⟩ := h
  exact below_drewN (Below.refl _ _) n

/-- Of the old blocks only those from lo on and below hi may have turned. -/
structure Only (lo hi : Nat) (w w' : World) : Prop where
  os : w'.os = w.os
  tape : w'.tape = w.tape
  output : w'.output = w.output
  size : w.heap.size ≤ w'.heap.size
  block : ∀ k, k < w.heap.size → (k < lo ∨ hi ≤ k) → w'.heap[k]? = w.heap[k]?
theorem Only.refl (lo hi : Nat) (w : World) : Only lo hi w w := ⟨rfl, rfl, rfl, Nat.le_refl _, fun _ _ _ => rfl⟩
theorem Only.trans {lo hi : Nat} {a b c : World} (h : Only lo hi a b) (k : Only lo hi b c) : Only lo hi a c :=
  ⟨k.os.trans h.os, k.tape.trans h.tape, k.output.trans h.output, Nat.le_trans h.size k.size, fun i hi' hx => (k.block i (by have := h.size; omega) hx).trans (h.block i hi' hx)⟩
theorem Only.of_below {lo hi : Nat} {w w' : World} (h : Below w.heap.size w w') : Only lo hi w w' := ⟨h.os, h.tape, h.output, h.size, fun k hk _ => h.block k hk⟩
theorem Only.wide {lo hi lo' hi' : Nat} {w w' : World} (h : Only lo hi w w') (h1 : lo' ≤ lo) (h2 : hi ≤ hi') : Only lo' hi' w w' :=
  ⟨h.os, h.tape, h.output, h.size, fun k hk hx => h.block k hk (by omega)⟩
theorem Only.below {lo hi B : Nat} {w w' : World} (h : Only lo hi w w') (hB : B ≤ lo) (hB' : B ≤ w.heap.size) : Below B w w' :=
  ⟨h.os, h.tape, h.output, h.size, fun k hk => h.block k (by omega) (by omega)⟩
theorem Only.drewN {lo hi : Nat} {a w : World} (h : Only lo hi a w) (n : Nat) : Only lo hi a (w.drewN n) := ⟨h.os, h.tape, h.output, h.size, h.block⟩
theorem Only.setCell {lo hi : Nat} {a w : World} (h : Only lo hi a w) {p : Addr} (h1 : lo ≤ p.block) (h2 : p.block < hi) (u : Value) : Only lo hi a (w.setCell p u) :=
  h.trans ⟨rfl, rfl, rfl, by simp [World.setCell], fun k _ hx => Below.heap_setCell _ _ _ _ (by omega)⟩
theorem Only.alloc {lo hi : Nat} {a w : World} (h : Only lo hi a w) (o : Obj) : Only lo hi a (w.alloc o) :=
  h.trans ⟨rfl, rfl, rfl, by simp, fun k hk _ => Below.heap_alloc _ _ _ hk⟩
theorem Only.cell {lo hi : Nat} {w w' : World} (h : Only lo hi w w') {p : Addr} (hp : p.block < w.heap.size) (hx : p.block < lo ∨ hi ≤ p.block) : w'.cell? p = w.cell? p :=
  World.cell?_of_block (w := w) (h.block p.block hp hx)
theorem Only.frozen {lo hi : Nat} {w w' : World} (h : Only lo hi w w') {p : Addr} (hp : p.block < w.heap.size) (hx : p.block < lo ∨ hi ≤ p.block) : w'.frozen? p = w.frozen? p :=
  World.frozen?_of_block (w := w) (h.block p.block hp hx)

/-- A scope in which the run jumps back to one label: what holds there each time (J), and a measure. -/
theorem wp_scope_loop {P : Program} {a : Act} {w : World} {Q : Exit → Act → World → Prop} {c body : Code} (l : Nat) (J : Act → World → Prop) (μ : Act → World → Nat) (hf : findLabel c l = some (.seq .skip body))
    (first : (∀ a w, J a w → body.wp P (Exit.jump l J Q) a w) → c.wp P (Exit.jump l J Q) a w)
    (pass : ∀ a w, J a w → body.wp P (Exit.jump l (fun a' w' => J a' w' ∧ μ a' w' < μ a w) Q) a w) : (Code.scope c).wp P Q a w := by
  refine wp_scope_jumps l J μ hf (first fun a w hJ => ?_) (fun a w hJ => ?_)
  · refine Code.wp_mono (fun e a' w' q => ?_) (pass a w hJ)
    cases e <;> first | exact q | exact ⟨q.1, q.2.1⟩
  · refine wp_seq (wp_skip ?_)
    exact pass a w hJ

/-- A cell behind a store into one of the cells. -/
theorem cell_set {w : World} {b i : Nat} {u : Value} (h : w.cell? ⟨b, i, none⟩ = some u) (v : Value) (j : Nat) :
    (w.setCell ⟨b, i, none⟩ v).cell? ⟨b, j, none⟩ = if j = i then some v else w.cell? ⟨b, j, none⟩ := by
  by_cases e : j = i
  · subst e; rw [if_pos rfl]; exact World.cell?_setCell_same _ _ _ h
  · rw [if_neg e]
    exact World.cell?_setCell_other _ _ _ _ (fun h => e (by injection h with _ h; exact h.symm))
theorem cell_drew (w : World) (a : Addr) : w.drew.cell? a = w.cell? a := rfl
theorem frozen_drew (w : World) (a : Addr) : w.drew.frozen? a = w.frozen? a := rfl
theorem i64_xor_nat (a b : Nat) (ha : a < 2 ^ 62) (hb : b < 2 ^ 62) : bits .xor .i64 (a : Int) (b : Int) = ((a ^^^ b : Nat) : Int) := by
  have hx : a ^^^ b < 2 ^ 62 := Nat.xor_lt_two_pow ha hb
  show IntKind.i64.wrap ((BitVec.ofInt 64 (a : Int) ^^^ BitVec.ofInt 64 (b : Int)).toNat : Int) = _
  rw [BitVec.toNat_xor, ofInt_u64 a (by omega), ofInt_u64 b (by omega), IntKind.wrap_i64]
  omega

/-- Bytes that are read, at a slice's address. -/
structure Bytes (w : World) (A : Option Addr) (l : List Nat) : Prop where
  le : ∀ x, x ∈ l → x ≤ 255
  len : l.length ≤ 140737488355328
  at_ : l = [] ∨ ∃ b off, A = some ⟨b, off, none⟩ ∧ ∀ j, j < l.length → w.cell? ⟨b, off + j, none⟩ = some (.int .u8 ((l.getD j 0 : Nat) : Int))
theorem Bytes.below {w w' : World} {A : Option Addr} {l : List Nat} (h : Bytes w A l) (hb : Below w.heap.size w w') : Bytes w' A l := by
  refine ⟨h.le, h.len, ?_⟩
  rcases h.at_ with h1 | ⟨b, off, e, hc⟩
  · exact .inl h1
  · exact .inr ⟨b, off, e, fun j hj => cell_below hb (hc j hj)⟩
theorem Bytes.getD_le {w : World} {A : Option Addr} {l : List Nat} (h : Bytes w A l) (j : Nat) : l.getD j 0 ≤ 255 := by
  by_cases hj : j < l.length
  · rw [List.getD_eq_getElem?_getD, List.getElem?_eq_getElem hj]
    exact h.le _ (List.getElem_mem hj)
  · rw [List.getD_eq_getElem?_getD, List.getElem?_eq_none (by omega)]
    exact Nat.zero_le _
theorem Bytes.nil (w : World) (A : Option Addr) : Bytes w A [] := ⟨fun _ h => (by cases h), (by simp), Or.inl rfl⟩

/-- A list of bytes as a string. -/
def str (l : List UInt8) : ByteArray := ⟨l.toArray⟩
theorem str_list (l : List UInt8) : (str l).data.toList = l := rfl
theorem list_size (s : ByteArray) : s.data.toList.length = s.size := by rw [Array.length_toList]; rfl
theorem str_size (l : List UInt8) : (str l).size = l.length := by rw [← list_size, str_list]
theorem list_str (s : ByteArray) : str s.data.toList = s := rfl
theorem str_inj {l m : List UInt8} (h : str l = str m) : l = m := by rw [← str_list l, h, str_list]

theorem str_append (s t : ByteArray) : s ++ t = str (s.data.toList ++ t.data.toList) := by
  apply ByteArray.ext
  rw [ByteArray.data_append]
  simp [str]
theorem extract_str (s : ByteArray) (i j : Nat) : s.extract i j = str ((s.data.toList.take j).drop i) := by
  apply ByteArray.ext
  apply Array.ext'
  rw [ByteArray.data_extract]
  simp [str, List.drop_take]
theorem extract_le {s : ByteArray} {B : Nat} (i j : Nat) (h : s.size ≤ B) : (s.extract i j).size ≤ B := by
  rw [ByteArray.size_extract]; omega
theorem str_eq {a b : ByteArray} (h : a.data.toList = b.data.toList) : (a.toList == b.toList) = true := by
  rw [ByteArray.toList_eq, ByteArray.toList_eq, h]; simp
theorem str_ne {a b : ByteArray} (h : ¬ a.data.toList = b.data.toList) : (a.toList == b.toList) = false := by
  rw [ByteArray.toList_eq, ByteArray.toList_eq]; exact beq_eq_false_iff_ne.2 h
/-- A slice of bytes made a string. -/
theorem conv_str {P : Program} {src dst e : TypeId} (hs : P.underlying src = some (.slice e)) (he : P.underlying e = some (.int .u8)) (hd : P.underlying dst = some .string) (w : World) (A : Option Addr) (l : List Nat) (n c : Nat) (hB : Bytes w A l) (hn : l.length = n) :
    (convert src dst (.slice A n c)).run P w = .ok (.string (str (l.map UInt8.ofNat))) w := by
  rcases hB.at_ with h | ⟨b, off, rfl, hc⟩
  · subst h
    subst hn
    cases A with
    | none => exact run_convert_bytes_nil w src e hs he _ _ dst hd
    | some ad =>
      rw [run_convert_bytes_string w src dst e _ _ c hs he hd]
      have := run_bytesToString (P := P) w ad 0 c [] (by
        have := run_loadCells_list (P := P) w ad [] (fun j v hj => by simp at hj)
        simpa using this)
      have e : str (([] : List Nat).map UInt8.ofNat) = ByteArray.empty := rfl
      rw [e]
      simpa using this
  · subst hn
    have := run_convert_bytes_arg (P := P) w src e hs he b off l.length c (l.map fun x : Nat => (x : Int)) (by simp) (fun i hi => by
      rw [hc i hi]
      simp [List.getD_eq_getElem?_getD, List.getElem?_eq_getElem hi]) dst hd
    rw [this]
    simp only [strOfNums, str, List.map_map]
    rfl

theorem int_ne {a b : Int} (h : a ≠ b) : (a == b) = false := beq_eq_false_iff_ne.2 h
theorem int_eq {a b : Int} (h : a = b) : (a == b) = true := beq_iff_eq.2 h
theorem int_bne {a b : Int} (h : a ≠ b) : (a != b) = true := by rw [bne_iff_ne]; exact h
theorem int_beq {a b : Int} (h : a = b) : (a != b) = false := by rw [h]; simp
end Go.Proofs.Ytmlemichkeomjaa.Base

/- The field of 256 elements as plain Lean: its tables, and the laws that they obey. -/
set_option linter.unusedVariables false
set_option linter.unusedSimpArgs false
namespace Go.Proofs.Ytmlemichkeomjaa.GfP

/-- Doubling in the field. -/
def dbl (x : Nat) : Nat := if 2 * x > 255 then (2 * x) ^^^ 285 else 2 * x
/-- The n-th power of 2. -/
def pw : Nat → Nat
  | 0 => 1
  | n + 1 => dbl (pw n)
def tbl : List Nat := [1, 2, 4, 8, 16, 32, 64, 128, 29, 58, 116, 232, 205, 135, 19, 38, 76, 152, 45, 90, 180, 117, 234, 201, 143, 3, 6, 12, 24, 48, 96, 192, 157, 39, 78, 156, 37, 74, 148, 53, 106, 212, 181, 119, 238, 193, 159, 35, 70, 140, 5, 10, 20, 40, 80, 160, 93, 186, 105, 210, 185, 111, 222, 161, 95, 190, 97, 194, 153, 47, 94, 188, 101, 202, 137, 15, 30, 60, 120, 240, 253, 231, 211, 187, 107, 214, 177, 127, 254, 225, 223, 163, 91, 182, 113, 226, 217, 175, 67, 134, 17, 34, 68, 136, 13, 26, 52, 104, 208, 189, 103, 206, 129, 31, 62, 124, 248, 237, 199, 147, 59, 118, 236, 197, 151, 51, 102, 204, 133, 23, 46, 92, 184, 109, 218, 169, 79, 158, 33, 66, 132, 21, 42, 84, 168, 77, 154, 41, 82, 164, 85, 170, 73, 146, 57, 114, 228, 213, 183, 115, 230, 209, 191, 99, 198, 145, 63, 126, 252, 229, 215, 179, 123, 246, 241, 255, 227, 219, 171, 75, 150, 49, 98, 196, 149, 55, 110, 220, 165, 87, 174, 65, 130, 25, 50, 100, 200, 141, 7, 14, 28, 56, 112, 224, 221, 167, 83, 166, 81, 162, 89, 178, 121, 242, 249, 239, 195, 155, 43, 86, 172, 69, 138, 9, 18, 36, 72, 144, 61, 122, 244, 245, 247, 243, 251, 235, 203, 139, 11, 22, 44, 88, 176, 125, 250, 233, 207, 131, 27, 54, 108, 216, 173, 71, 142]
def lgL : List Nat := [0, 0, 1, 25, 2, 50, 26, 198, 3, 223, 51, 238, 27, 104, 199, 75, 4, 100, 224, 14, 52, 141, 239, 129, 28, 193, 105, 248, 200, 8, 76, 113, 5, 138, 101, 47, 225, 36, 15, 33, 53, 147, 142, 218, 240, 18, 130, 69, 29, 181, 194, 125, 106, 39, 249, 185, 201, 154, 9, 120, 77, 228, 114, 166, 6, 191, 139, 98, 102, 221, 48, 253, 226, 152, 37, 179, 16, 145, 34, 136, 54, 208, 148, 206, 143, 150, 219, 189, 241, 210, 19, 92, 131, 56, 70, 64, 30, 66, 182, 163, 195, 72, 126, 110, 107, 58, 40, 84, 250, 133, 186, 61, 202, 94, 155, 159, 10, 21, 121, 43, 78, 212, 229, 172, 115, 243, 167, 87, 7, 112, 192, 247, 140, 128, 99, 13, 103, 74, 222, 237, 49, 197, 254, 24, 227, 165, 153, 119, 38, 184, 180, 124, 17, 68, 146, 217, 35, 32, 137, 46, 55, 63, 209, 91, 149, 188, 207, 205, 144, 135, 151, 178, 220, 252, 190, 97, 242, 86, 211, 171, 20, 42, 93, 158, 132, 60, 57, 83, 71, 109, 65, 162, 31, 45, 67, 216, 183, 123, 164, 118, 196, 23, 73, 236, 127, 12, 111, 246, 108, 161, 59, 82, 41, 157, 85, 170, 251, 96, 134, 177, 187, 204, 62, 90, 203, 89, 95, 176, 156, 169, 160, 81, 11, 245, 22, 235, 122, 117, 44, 215, 79, 174, 213, 233, 230, 231, 173, 232, 116, 214, 244, 234, 168, 80, 88, 175]
/-- Which power of 2 a byte is. -/
def lg (x : Nat) : Nat := lgL.getD x 0

theorem tbl_pw : ∀ n, n < 255 → tbl.getD n 0 = pw n := by decide +kernel
theorem tbl_pos : ∀ n, n < 255 → 0 < tbl.getD n 0 ∧ tbl.getD n 0 ≤ 255 := by decide +kernel
theorem tbl_lg : ∀ x, x < 256 → 0 < x → tbl.getD (lg x) 0 = x ∧ lg x < 255 := by decide +kernel
theorem lg_tbl : ∀ n, n < 255 → lg (tbl.getD n 0) = n := by decide +kernel
theorem pw_round : pw 255 = 1 := by decide +kernel
theorem lg_zero : lg 0 = 0 := by decide +kernel
theorem pw_none : pw 0 = 1 := rfl
theorem pw_succ (n : Nat) : pw (n + 1) = dbl (pw n) := rfl
attribute [local irreducible] pw lg

/-- Doubled so many times. -/
def dit : Nat → Nat → Nat
  | 0, x => x
  | i + 1, x => dbl (dit i x)
theorem dit_pw (i j : Nat) : dit i (pw j) = pw (i + j) := by
  induction i with
  | zero => rw [Nat.zero_add]; rfl
  | succ i ih =>
    have h : i + 1 + j = (i + j) + 1 := by omega
    rw [h, pw_succ, ← ih]; rfl
theorem pw_add255 (n : Nat) : pw (n + 255) = pw n := by
  have h1 := dit_pw n 255
  have h2 := dit_pw n 0
  rw [pw_round] at h1
  rw [pw_none, Nat.add_zero] at h2
  exact h1.symm.trans h2
theorem pw_mod (n : Nat) : pw (n % 255) = pw n := by
  induction n using Nat.strongRecOn with
  | _ n ih =>
    by_cases h : n < 255
    · rw [Nat.mod_eq_of_lt h]
    · have h1 := ih (n - 255) (by omega)
      have h2 := pw_add255 (n - 255)
      have h3 : n - 255 + 255 = n := by omega
      rw [h3] at h2
      have h4 : (n - 255) % 255 = n % 255 := by omega
      rw [h4] at h1
      exact h1.trans h2.symm
theorem pw_pos (n : Nat) : 0 < pw n ∧ pw n ≤ 255 := by
  rw [← pw_mod n, ← tbl_pw _ (Nat.mod_lt _ (by omega))]
  exact tbl_pos _ (Nat.mod_lt _ (by omega))
theorem pw_lg {x : Nat} (h0 : 0 < x) (h : x ≤ 255) : pw (lg x) = x := by
  have h1 := tbl_lg x (by omega) h0
  rw [← tbl_pw _ h1.2]
  exact h1.1
theorem lg_lt {x : Nat} (h : x ≤ 255) : lg x < 255 := by
  by_cases h0 : 0 < x
  · exact (tbl_lg x (by omega) h0).2
  · have : x = 0 := by omega
    rw [this, lg_zero]; omega
theorem lg_pw (n : Nat) : lg (pw n) = n % 255 := by
  rw [← pw_mod n, ← tbl_pw _ (Nat.mod_lt _ (by omega))]
  rw [lg_tbl _ (Nat.mod_lt _ (by omega))]
theorem pw_inj {n m : Nat} (h : pw n = pw m) : n % 255 = m % 255 := by rw [← lg_pw, ← lg_pw, h]
theorem pw_congr {n m : Nat} (h : n % 255 = m % 255) : pw n = pw m := by rw [← pw_mod n, ← pw_mod m, h]

/-- What the log of a byte is, once so many powers have been laid. -/
def logAt : Nat → Nat → Nat
  | 0, _ => 0
  | i + 1, x => if x = pw i then i else logAt i x
theorem logAt_pw (i n : Nat) (hi : i ≤ 255) (hn : n < i) : logAt i (pw n) = n := by
  induction i with
  | zero => omega
  | succ i ih =>
    unfold logAt
    by_cases h : pw n = pw i
    · rw [if_pos h]
      have := pw_inj h
      rw [Nat.mod_eq_of_lt (by omega), Nat.mod_eq_of_lt (by omega)] at this
      omega
    · rw [if_neg h]
      refine ih (by omega) ?_
      by_cases h1 : n = i
      · rw [h1] at h; exact absurd rfl h
      · omega
theorem logAt_zero (i : Nat) : logAt i 0 = 0 := by
  induction i with
  | zero => rfl
  | succ i ih =>
    unfold logAt
    rw [if_neg (by have := pw_pos i; omega), ih]
theorem logAt_end (x : Nat) (h : x ≤ 255) : logAt 255 x = lg x := by
  by_cases h0 : 0 < x
  · have := logAt_pw 255 (lg x) (by omega) (lg_lt h)
    rwa [pw_lg h0 h] at this
  · have : x = 0 := by omega
    rw [this, logAt_zero, lg_zero]

/-- The product. -/
def mul (a b : Nat) : Nat := if a = 0 ∨ b = 0 then 0 else pw (lg a + lg b)
theorem mul_le (a b : Nat) : mul a b ≤ 255 := by
  unfold mul; split
  · omega
  · exact (pw_pos _).2
theorem mul_zero (a : Nat) : mul a 0 = 0 := by simp [mul]
theorem zero_mul (a : Nat) : mul 0 a = 0 := by simp [mul]
theorem mul_pw (i j : Nat) : mul (pw i) (pw j) = pw (i + j) := by
  have h1 := (pw_pos i).1
  have h2 := (pw_pos j).1
  unfold mul
  rw [if_neg (by omega), lg_pw, lg_pw]
  exact pw_congr (by omega)
theorem mul_comm (a b : Nat) : mul a b = mul b a := by
  unfold mul
  by_cases h : a = 0 ∨ b = 0
  · rw [if_pos h, if_pos (Or.comm.1 h)]
  · rw [if_neg h, if_neg (fun h' => h (Or.comm.1 h')), Nat.add_comm]
theorem is_pw {a : Nat} (h0 : ¬ a = 0) (h : a ≤ 255) : ∃ i, i < 255 ∧ a = pw i := ⟨lg a, lg_lt h, (pw_lg (by omega) h).symm⟩
theorem mul_assoc {a b c : Nat} (ha : a ≤ 255) (hb : b ≤ 255) (hc : c ≤ 255) : mul a (mul b c) = mul (mul a b) c := by
  by_cases ha0 : a = 0
  · subst ha0; rw [zero_mul, zero_mul, zero_mul]
  by_cases hb0 : b = 0
  · subst hb0; rw [zero_mul, mul_zero, zero_mul]
  by_cases hc0 : c = 0
  · subst hc0; rw [mul_zero, mul_zero, mul_zero]
  obtain ⟨i, _, rfl⟩ := is_pw ha0 ha
  obtain ⟨j, _, rfl⟩ := is_pw hb0 hb
  obtain ⟨k, _, rfl⟩ := is_pw hc0 hc
  rw [mul_pw, mul_pw, mul_pw, mul_pw, Nat.add_assoc]
theorem mul_one {a : Nat} (h : a ≤ 255) : mul a 1 = a := by
  by_cases h0 : a = 0
  · subst h0; exact zero_mul 1
  · obtain ⟨i, _, rfl⟩ := is_pw h0 h
    have h := mul_pw i 0
    rwa [pw_none, Nat.add_zero] at h
theorem one_mul {a : Nat} (h : a ≤ 255) : mul 1 a = a := by rw [mul_comm, mul_one h]
theorem mul_eq_zero {a b : Nat} (h : mul a b = 0) : a = 0 ∨ b = 0 := by
  unfold mul at h
  by_cases h1 : a = 0 ∨ b = 0
  · exact h1
  · rw [if_neg h1] at h
    have := (pw_pos (lg a + lg b)).1
    omega

theorem dbl_le (x : Nat) (h : x ≤ 255) : dbl x ≤ 255 := by
  have : ∀ x, x < 256 → dbl x ≤ 255 := by decide +kernel
  exact this x (by omega)
theorem xor_le {a b : Nat} (ha : a ≤ 255) (hb : b ≤ 255) : a ^^^ b ≤ 255 := by
  have := Nat.xor_lt_two_pow (n := 8) (x := a) (y := b) (by omega) (by omega)
  omega
theorem dbl_bits (x : Nat) (h : x ≤ 255) : dbl x = (2 * x) ^^^ (if x.testBit 7 then 285 else 0) := by
  have : ∀ x, x < 256 → dbl x = (2 * x) ^^^ (if x.testBit 7 then 285 else 0) := by decide +kernel
  exact this x (by omega)
theorem two_xor (x y : Nat) : 2 * (x ^^^ y) = 2 * x ^^^ 2 * y := by
  have h : ∀ n : Nat, 2 * n = n <<< 1 := fun n => by rw [Nat.shiftLeft_eq]; omega
  rw [h, h, h, Nat.shiftLeft_xor_distrib]
theorem dbl_xor {x y : Nat} (hx : x ≤ 255) (hy : y ≤ 255) : dbl (x ^^^ y) = dbl x ^^^ dbl y := by
  rw [dbl_bits _ (xor_le hx hy), dbl_bits x hx, dbl_bits y hy, two_xor, Nat.testBit_xor]
  have e : ∀ a b : Nat, (a ^^^ 285) ^^^ (b ^^^ 285) = a ^^^ b := fun a b => by
    rw [Nat.xor_assoc, Nat.xor_comm b 285, ← Nat.xor_assoc 285 285 b, Nat.xor_self, Nat.zero_xor]
  have e1 : ∀ a b : Nat, (a ^^^ b) ^^^ 285 = (a ^^^ 285) ^^^ b := fun a b => by
    rw [Nat.xor_assoc, Nat.xor_assoc, Nat.xor_comm b 285]
  cases x.testBit 7 <;> cases y.testBit 7 <;> simp only [Bool.xor_false, Bool.xor_true, Bool.not_true, Bool.not_false, if_true, if_false, Nat.xor_zero, Bool.false_eq_true, e, e1]
  · rw [← e1, Nat.xor_assoc]
theorem dit_le (i : Nat) {x : Nat} (h : x ≤ 255) : dit i x ≤ 255 := by
  induction i with
  | zero => exact h
  | succ i ih => exact dbl_le _ ih
theorem dit_xor (i : Nat) {x y : Nat} (hx : x ≤ 255) (hy : y ≤ 255) : dit i (x ^^^ y) = dit i x ^^^ dit i y := by
  induction i with
  | zero => rfl
  | succ i ih =>
    show dbl _ = dbl _ ^^^ dbl _
    rw [ih, dbl_xor (dit_le i hx) (dit_le i hy)]
theorem dit_zero (i : Nat) : dit i 0 = 0 := by
  induction i with
  | zero => rfl
  | succ i ih =>
    show dbl _ = 0
    rw [ih]; rfl
theorem mul_dit (i : Nat) {x : Nat} (h : x ≤ 255) : mul (pw i) x = dit i x := by
  by_cases h0 : x = 0
  · subst h0; rw [mul_zero, dit_zero]
  · obtain ⟨j, _, rfl⟩ := is_pw h0 h
    rw [mul_pw, dit_pw]
theorem mul_xor {a b c : Nat} (ha : a ≤ 255) (hb : b ≤ 255) (hc : c ≤ 255) : mul a (b ^^^ c) = mul a b ^^^ mul a c := by
  by_cases ha0 : a = 0
  · subst ha0; rw [zero_mul, zero_mul, zero_mul]; rfl
  obtain ⟨i, _, rfl⟩ := is_pw ha0 ha
  rw [mul_dit i (xor_le hb hc), mul_dit i hb, mul_dit i hc, dit_xor i hb hc]
theorem xor_mul {a b c : Nat} (ha : a ≤ 255) (hb : b ≤ 255) (hc : c ≤ 255) : mul (a ^^^ b) c = mul a c ^^^ mul b c := by
  rw [mul_comm, mul_xor hc ha hb, mul_comm c a, mul_comm c b]
/-- What makes a with b. -/
def quo (a b : Nat) : Nat := if b = 0 ∨ a = 0 then 0 else pw (lg a + 255 - lg b)
theorem quo_le (a b : Nat) : quo a b ≤ 255 := by
  unfold quo; split
  · omega
  · exact (pw_pos _).2
theorem quo_mul {a b : Nat} (ha : a ≤ 255) (hb : b ≤ 255) (hb0 : ¬ b = 0) : mul (quo a b) b = a := by
  unfold quo
  by_cases h : a = 0
  · rw [if_pos (Or.inr h), zero_mul, h]
  · rw [if_neg (by omega)]
    obtain ⟨i, hi, rfl⟩ := is_pw h ha
    obtain ⟨j, hj, rfl⟩ := is_pw hb0 hb
    rw [mul_pw, lg_pw, lg_pw]
    exact pw_congr (by omega)
/-- What makes 1 with a. -/
def inv (a : Nat) : Nat := quo 1 a
theorem inv_le (a : Nat) : inv a ≤ 255 := quo_le 1 a
theorem inv_mul {a : Nat} (h : a ≤ 255) (h0 : ¬ a = 0) : mul (inv a) a = 1 := quo_mul (by omega) h h0
theorem mul_inv {a : Nat} (h : a ≤ 255) (h0 : ¬ a = 0) : mul a (inv a) = 1 := by rw [mul_comm, inv_mul h h0]
theorem mul_cancel {a b c : Nat} (ha : a ≤ 255) (hb : b ≤ 255) (hc : c ≤ 255) (h0 : ¬ a = 0) (h : mul a b = mul a c) : b = c := by
  have h1 : mul (inv a) (mul a b) = mul (inv a) (mul a c) := by rw [h]
  rwa [mul_assoc (inv_le a) ha hb, mul_assoc (inv_le a) ha hc, inv_mul ha h0, one_mul hb, one_mul hc] at h1
theorem quo_eq {a b : Nat} (ha : a ≤ 255) (hb : b ≤ 255) (hb0 : ¬ b = 0) : quo a b = mul a (inv b) := by
  refine mul_cancel (a := b) hb (quo_le a b) (mul_le _ _) hb0 ?_
  rw [mul_comm b, quo_mul ha hb hb0, mul_comm b, ← mul_assoc ha (inv_le b) hb, inv_mul hb hb0, mul_one ha]
/-- The n-th power of 2, of any whole number. -/
def pwi (n : Int) : Nat := pw (n % 255).toNat
theorem pwi_add (n m : Int) : mul (pwi n) (pwi m) = pwi (n + m) := by
  unfold pwi
  rw [mul_pw]
  exact pw_congr (by omega)
theorem pwi_nat (n : Nat) : pwi n = pw n := by
  unfold pwi
  exact pw_congr (by omega)
theorem pwi_pos (n : Int) : 0 < pwi n ∧ pwi n ≤ 255 := pw_pos _
/-- A power of a byte. -/
def pow (a : Nat) (n : Int) : Nat := if n = 0 then 1 else if a = 0 then 0 else pwi (lg a * n)
theorem pow_le (a : Nat) (n : Int) : pow a n ≤ 255 := by
  unfold pow; split
  · omega
  · split
    · omega
    · exact (pwi_pos _).2
theorem pow_pw {a : Nat} (h0 : ¬ a = 0) (n : Int) : pow a n = pwi (lg a * n) := by
  unfold pow
  by_cases h : n = 0
  · subst h
    rw [if_pos rfl, Int.mul_zero]
    exact (pw_none.symm.trans (pwi_nat 0).symm)
  · rw [if_neg h, if_neg h0]
theorem pow_add {a : Nat} (h0 : ¬ a = 0) (n m : Int) : mul (pow a n) (pow a m) = pow a (n + m) := by
  rw [pow_pw h0, pow_pw h0, pow_pw h0, pwi_add, Int.mul_add]
end Go.Proofs.Ytmlemichkeomjaa.GfP

/- gf.New lays the tables of powers and logs. -/
set_option linter.unusedVariables false
set_option linter.unusedSimpArgs false
namespace Go.Proofs.Ytmlemichkeomjaa.GfW
open Go.RowKit Go.Proofs.Ytmlemichkeomjaa.Base Go.Proofs.Ytmlemichkeomjaa.GfP

theorem zero_cells : Try.zeroCells173 = (List.replicate 510 (Value.int .u8 0) ++ List.replicate 256 (Value.int .i64 0)).toArray := by kernel_rfl

/-- The tables in block b, once so many powers have been laid. -/
structure TabAt (w : World) (b i : Nat) : Prop where
  exp : ∀ j : Nat, j < 510 → w.cell? ⟨b, j, none⟩ = some (.int .u8 ((if j % 255 < i then pw j else 0 : Nat) : Int))
  log : ∀ x : Nat, x < 256 → w.cell? ⟨b, 510 + x, none⟩ = some (.int .i64 (logAt i x : Nat))
  free : ∀ j : Nat, w.frozen? ⟨b, j, none⟩ = false

theorem TabAt.step {w : World} {b i : Nat} (h : TabAt w b i) (hi : i < 255) :
    TabAt (((w.setCell ⟨b, i, none⟩ (.int .u8 (pw i : Nat))).setCell ⟨b, i + 255, none⟩ (.int .u8 (pw i : Nat))).setCell ⟨b, 510 + pw i, none⟩ (.int .i64 (i : Nat))).drew b (i + 1) := by
  have hp := pw_pos i
  have g1 := h.exp i (by omega)
  have g2 := h.exp (i + 255) (by omega)
  have g3 := h.log (pw i) (by omega)
  obtain ⟨u2, g2'⟩ : ∃ u, (w.setCell ⟨b, i, none⟩ (.int .u8 (pw i : Nat))).cell? ⟨b, i + 255, none⟩ = some u := ⟨_, by rw [cell_set g1, if_neg (by omega)]; exact g2⟩
  obtain ⟨u3, g3'⟩ : ∃ u, ((w.setCell ⟨b, i, none⟩ (.int .u8 (pw i : Nat))).setCell ⟨b, i + 255, none⟩ (.int .u8 (pw i : Nat))).cell? ⟨b, 510 + pw i, none⟩ = some u :=
    ⟨_, by rw [cell_set g2', if_neg (by omega), cell_set g1, if_neg (by omega)]; exact g3⟩
  refine ⟨fun j hj => ?_, fun x hx => ?_, fun j => ?_⟩
  · rw [cell_drew, cell_set g3', if_neg (by omega), cell_set g2', cell_set g1]
    by_cases e1 : j = i + 255
    · rw [if_pos e1, if_pos (by omega), pw_congr (n := i) (m := j) (by omega)]
    · rw [if_neg e1]
      by_cases e2 : j = i
      · rw [if_pos e2, if_pos (by omega), e2]
      · rw [if_neg e2, h.exp j hj]
        by_cases e3 : j % 255 < i
        · rw [if_pos e3, if_pos (by omega)]
        · rw [if_neg e3, if_neg (by omega)]
  · rw [cell_drew, cell_set g3', cell_set g2', cell_set g1]
    unfold logAt
    by_cases e : x = pw i
    · rw [if_pos (by omega), if_pos e]
    · rw [if_neg (by omega), if_neg (by omega), if_neg (by omega), if_neg e]
      exact h.log x hx
  · have := h.free j
    rw [frozen_drew, World.frozen?_setCell, World.frozen?_setCell, World.frozen?_setCell]
    exact this
theorem TabAt.start (w : World) : TabAt (w.alloc (.cells Try.zeroCells173 173)) w.heap.size 0 := by
  rw [zero_cells]
  have hh : ∀ j : Nat, (w.alloc (.cells (List.replicate 510 (Value.int .u8 0) ++ List.replicate 256 (Value.int .i64 0)).toArray 173)).cell? ⟨w.heap.size, j, none⟩ = (List.replicate 510 (Value.int .u8 0) ++ List.replicate 256 (Value.int .i64 0))[j]? := by
    intro j
    simp only [World.cell?]
    rw [heap_alloc_new]
    dsimp only
    rw [if_neg (by simp), List.getElem?_toArray]
  refine ⟨fun j hj => ?_, fun x hx => ?_, fun j => ?_⟩
  · rw [hh, List.getElem?_append_left (by rw [List.length_replicate]; exact hj), List.getElem?_replicate, if_pos hj, if_neg (by omega)]; rfl
  · rw [hh, List.getElem?_append_right (by rw [List.length_replicate]; omega), List.getElem?_replicate, List.length_replicate, if_pos (by omega)]; rfl
  · simp only [World.frozen?]
    rw [heap_alloc_new]
    simp
theorem dbl_big {x : Nat} (h : x ≤ 255) (hb : (255 : Int) < (x : Int) * 2) : bits BinOp.xor IntKind.i64 ((x : Int) * 2) 285 = (dbl x : Nat) := by
  have e : ((x : Int) * 2) = ((2 * x : Nat) : Int) := by omega
  rw [e]
  show bits BinOp.xor IntKind.i64 ((2 * x : Nat) : Int) ((285 : Nat) : Int) = _
  rw [i64_xor_nat _ _ (by omega) (by omega), dbl, if_pos (by omega)]
theorem dbl_small {x : Nat} (hb : (x : Int) * 2 ≤ (255 : Int)) : ((x : Int) * 2) = (dbl x : Nat) := by
  rw [dbl, if_neg (by omega)]; omega

set_option maxRecDepth 100000 in
set_option maxHeartbeats 400000 in
theorem new_any (w : World) :
    Calls Try.prog 63 #[] w fun e w' => e = .returned (.pointer (some ⟨w.heap.size, 0, none⟩)) ∧ TabAt w' w.heap.size 255 ∧ w.heap.size < w'.heap.size ∧ Below w.heap.size w w' := by
  go_enter Try.func63, Try.ntmps63
  go_wp2
  refine wp_scope_loop 0 (fun a' wr => ∃ (i : Nat) (u0 u4 u5 u6 u7 u8 u9 u10 u11 u12 u13 u14 u15 u16 u17 u18 u19 u20 u21 u22 u23 u24 u25 u26 u27 u28 u29 u30 u31 u32 u33 u34 u35 u36 u37 : Value), i ≤ 255 ∧ TabAt wr w.heap.size i ∧ wr.heap.size = w.heap.size + 1 ∧ Below w.heap.size w wr ∧ a' = { tmps := #[u0, .pointer (some ⟨w.heap.size, 0, none⟩), .int .i64 (pw i), .int .i64 i, u4, u5, u6, u7, u8, u9, u10, u11, u12, u13, u14, u15, u16, u17, u18, u19, u20, u21, u22, u23, u24, u25, u26, u27, u28, u29, u30, u31, u32, u33, u34, u35, u36, u37], defers := [] }) (fun a' _ => 255 - (intOf (a'.tmps.getD 3 undef)).toNat) rfl ?_ ?_
  · intro hloop
    go_wp2
    go_step3
    go_step
    go_step
    refine hloop _ _ ⟨0, _, _, _, _, _, _, _, _, _, _, _, _, _, _, _, _, _, _, _, _, _, _, _, _, _, _, _, _, _, _, _, _, _, _, _, by omega, TabAt.start w, by simp, (Below.refl _ _).alloc (Nat.le_refl _) _, rfl⟩
  · rintro a' wr ⟨i, u0, u4, u5, u6, u7, u8, u9, u10, u11, u12, u13, u14, u15, u16, u17, u18, u19, u20, u21, u22, u23, u24, u25, u26, u27, u28, u29, u30, u31, u32, u33, u34, u35, u36, u37, hi, HT, hz, HB, rfl⟩
    by_cases hlt : i < 255
    · have g1 := HT.exp i (by omega)
      have g2 := HT.exp (i + 255) (by omega)
      have f1 := HT.free i
      have f2 := HT.free (i + 255)
      have hp := pw_pos i
      have g3 := HT.log (pw i) (by omega)
      have f3 := HT.free (510 + pw i)
      have HS := HT.step hlt
      have HN : Below w.heap.size w (((wr.setCell ⟨w.heap.size, i, none⟩ (.int .u8 (pw i : Nat))).setCell ⟨w.heap.size, i + 255, none⟩ (.int .u8 (pw i : Nat))).setCell ⟨w.heap.size, 510 + pw i, none⟩ (.int .i64 (i : Nat))).drew :=
        (((HB.setCell (Nat.le_refl _) _).setCell (Nat.le_refl _) _).setCell (Nat.le_refl _) _).drew
      clear HT HB
      go_wp2
      go_region
      go_wp2
      · have hb : (255 : Int) < ((pw i : Nat) : Int) * 2 := by assumption
        go_step3
        rw [dbl_big hp.2 hb]
        refine ⟨rfl, ⟨i + 1, _, _, _, _, _, _, _, _, _, _, _, _, _, _, _, _, _, _, _, _, _, _, _, _, _, _, _, _, _, _, _, _, _, _, _, by omega, HS, by simpa using hz, HN, rfl⟩, ?_⟩
        simp [intOf]; omega
      · have hb : ((pw i : Nat) : Int) * 2 ≤ 255 := by assumption
        go_step3
        rw [dbl_small hb]
        refine ⟨rfl, ⟨i + 1, _, _, _, _, _, _, _, _, _, _, _, _, _, _, _, _, _, _, _, _, _, _, _, _, _, _, _, _, _, _, _, _, _, _, _, by omega, HS, by simpa using hz, HN, rfl⟩, ?_⟩
        simp [intOf]; omega
    · go_wp2
      simp only [Exit.jump]
      go_ret
      have : i = 255 := by omega
      subst this
      exact ⟨rfl, HT, by omega, HB⟩
end Go.Proofs.Ytmlemichkeomjaa.GfW

/- The field's methods answer by its tables. -/
set_option linter.unusedVariables false
set_option linter.unusedSimpArgs false
namespace Go.Proofs.Ytmlemichkeomjaa.GfW
open Go.RowKit Go.Proofs.Ytmlemichkeomjaa.Base Go.Proofs.Ytmlemichkeomjaa.GfP

/-- A field in block b. -/
structure FieldIn (w : World) (b : Nat) : Prop where
  tab : TabAt w b 255
  lt : b < w.heap.size
theorem FieldIn.below {w w' : World} {b : Nat} (h : FieldIn w b) (hb : Below w.heap.size w w') : FieldIn w' b :=
  ⟨⟨fun j hj => cell_below hb (h.tab.exp j hj), fun x hx => cell_below hb (h.tab.log x hx), fun j => (hb.frozen (p := ⟨b, j, none⟩) h.lt).trans (h.tab.free j)⟩, by have := h.lt; have := hb.size; omega⟩
theorem FieldIn.drawn {w w' : World} {b : Nat} (h : FieldIn w b) (hd : Drawn w w') : FieldIn w' b := h.below hd.below
theorem FieldIn.exp {w : World} {b : Nat} (h : FieldIn w b) (j : Nat) (hj : j < 510) : w.cell? ⟨b, j, none⟩ = some (.int .u8 (pw j : Nat)) := by
  have := h.tab.exp j hj
  rwa [if_pos (Nat.mod_lt _ (by omega))] at this
theorem FieldIn.log {w : World} {b : Nat} (h : FieldIn w b) (x : Nat) (hx : x ≤ 255) : w.cell? ⟨b, 510 + x, none⟩ = some (.int .i64 (lg x : Nat)) := by
  have := h.tab.log x (by omega)
  rwa [logAt_end x hx] at this

theorem new_field (w : World) :
    Calls Try.prog 63 #[] w fun e w' => ∃ b, e = .returned (.pointer (some ⟨b, 0, none⟩)) ∧ FieldIn w' b ∧ w.heap.size ≤ b ∧ Below w.heap.size w w' :=
  (new_any w).mono fun e w' ⟨he, ht, hz, hb⟩ => ⟨_, he, ⟨ht, hz⟩, Nat.le_refl _, hb⟩

theorem add_any (x y : Nat) (w : World) (hx : x ≤ 255) (hy : y ≤ 255) :
    Calls Try.prog 128 #[.int .u8 x, .int .u8 y] w fun e w' => e = .returned (.int .u8 ((x ^^^ y : Nat) : Int)) ∧ w = w' := by
  go_enter Try.func128, Try.ntmps128
  go_wp2
  go_ret
  rw [u8_xor_nat x y (by omega) (by omega)]
  exact ⟨rfl, rfl⟩

set_option maxHeartbeats 400000 in
theorem mul_nz (b : Nat) (x y : Nat) (w : World) (hx : x ≤ 255) (hy : y ≤ 255) (hx0 : 0 < x) (hy0 : 0 < y) (hF : FieldIn w b) :
    Calls Try.prog 129 #[.pointer (some ⟨b, 0, none⟩), .int .u8 x, .int .u8 y] w fun e w' => e = .returned (.int .u8 (pw (lg x + lg y) : Nat)) ∧ Drawn w w' := by
  have c1 := hF.log x hx
  have c2 := hF.log y hy
  have l1 := lg_lt hx
  have l2 := lg_lt hy
  have c3 := hF.exp (lg x + lg y) (by omega)
  have z1 : ((x : Int) == 0) = false := int_ne (by omega)
  have z2 : ((y : Int) == 0) = false := int_ne (by omega)
  clear hF
  go_enter Try.func129, Try.ntmps129
  go_wp2
  go_quiet (fail)
  go_wp2
  go_ret
  exact ⟨rfl, _, rfl⟩
theorem mul_z (b : Nat) (x y : Nat) (w : World) (h : x = 0 ∨ y = 0) :
    Calls Try.prog 129 #[.pointer (some ⟨b, 0, none⟩), .int .u8 x, .int .u8 y] w fun e w' => e = .returned (.int .u8 0) ∧ Drawn w w' := by
  by_cases hx : x = 0
  · subst hx
    go_enter Try.func129, Try.ntmps129
    go_wp2
    go_ret
    exact ⟨rfl, Drawn.refl _⟩
  · obtain rfl : y = 0 := by omega
    have z1 : ((x : Int) == 0) = false := int_ne (by omega)
    go_enter Try.func129, Try.ntmps129
    go_wp2
    go_ret
    exact ⟨rfl, Drawn.refl _⟩
theorem mul_any (b : Nat) (x y : Nat) (w : World) (hx : x ≤ 255) (hy : y ≤ 255) (hF : FieldIn w b) :
    Calls Try.prog 129 #[.pointer (some ⟨b, 0, none⟩), .int .u8 x, .int .u8 y] w fun e w' => e = .returned (.int .u8 (mul x y : Nat)) ∧ Drawn w w' := by
  unfold mul
  by_cases h : x = 0 ∨ y = 0
  · rw [if_pos h]; exact mul_z b x y w h
  · rw [if_neg h]; exact mul_nz b x y w hx hy (by omega) (by omega) hF

set_option maxHeartbeats 400000 in
theorem div_nz (b : Nat) (x y : Nat) (w : World) (hx : x ≤ 255) (hy : y ≤ 255) (hx0 : 0 < x) (hy0 : 0 < y) (hF : FieldIn w b) :
    Calls Try.prog 127 #[.pointer (some ⟨b, 0, none⟩), .int .u8 x, .int .u8 y] w fun e w' => e = .returned (.tuple #[.int .u8 (pw (lg x + 255 - lg y) : Nat), .bool true]) ∧ Drawn w w' := by
  have c1 := hF.log x hx
  have c2 := hF.log y hy
  have l1 := lg_lt hx
  have l2 := lg_lt hy
  have c3 := hF.exp (lg x + 255 - lg y) (by omega)
  have z1 : ((x : Int) == 0) = false := int_ne (by omega)
  have z2 : ((y : Int) == 0) = false := int_ne (by omega)
  clear hF
  go_enter Try.func127, Try.ntmps127
  go_wp2
  go_quiet (fail)
  go_wp2
  go_ret2
  exact ⟨rfl, _, rfl⟩
theorem div_z (b : Nat) (y : Nat) (w : World) (hy0 : 0 < y) :
    Calls Try.prog 127 #[.pointer (some ⟨b, 0, none⟩), .int .u8 0, .int .u8 y] w fun e w' => e = .returned (.tuple #[.int .u8 0, .bool true]) ∧ Drawn w w' := by
  have z2 : ((y : Int) == 0) = false := int_ne (by omega)
  go_enter Try.func127, Try.ntmps127
  go_wp2
  go_ret2
  exact ⟨rfl, Drawn.refl _⟩
theorem div_by0 (b : Nat) (x : Nat) (w : World) :
    Calls Try.prog 127 #[.pointer (some ⟨b, 0, none⟩), .int .u8 x, .int .u8 0] w fun e w' => e = .returned (.tuple #[.int .u8 0, .bool false]) ∧ Drawn w w' := by
  go_enter Try.func127, Try.ntmps127
  go_wp2
  go_ret2
  exact ⟨rfl, Drawn.refl _⟩
theorem div_any (b : Nat) (x y : Nat) (w : World) (hx : x ≤ 255) (hy : y ≤ 255) (hF : FieldIn w b) :
    Calls Try.prog 127 #[.pointer (some ⟨b, 0, none⟩), .int .u8 x, .int .u8 y] w fun e w' => e = .returned (.tuple #[.int .u8 (quo x y : Nat), .bool (decide (0 < y))]) ∧ Drawn w w' := by
  unfold quo
  by_cases hy0 : y = 0
  · subst hy0; rw [if_pos (Or.inl rfl)]; exact div_by0 b x w
  · rw [decide_eq_true (show 0 < y by omega)]
    by_cases hx0 : x = 0
    · subst hx0; rw [if_pos (Or.inr rfl)]; exact div_z b y w (by omega)
    · rw [if_neg (by omega)]; exact div_nz b x y w hx hy (by omega) (by omega) hF

theorem tmod_facts (n : Int) : -255 < n.tmod 255 ∧ n.tmod 255 < 255 ∧ n % 255 = if n.tmod 255 < 0 then n.tmod 255 + 255 else n.tmod 255 := by
  have h3 : n.tmod 255 = n - 255 * (n.tdiv 255) := by rw [Int.tmod_def]
  have h4 : n.tmod 255 < 255 := Int.tmod_lt_of_pos n (by omega)
  have h5 : -255 < n.tmod 255 := by have := Int.lt_tmod_of_pos n (show (0:Int) < 255 by omega); omega
  refine ⟨h5, h4, ?_⟩
  split <;> omega
set_option maxHeartbeats 400000 in
theorem exp_any (b : Nat) (n : Int) (w : World) (hF : FieldIn w b) :
    Calls Try.prog 124 #[.pointer (some ⟨b, 0, none⟩), .int .i64 n] w fun e w' => e = .returned (.int .u8 (pwi n : Nat)) ∧ Drawn w w' := by
  have ht := tmod_facts n
  have c1 := hF.exp (n % 255).toNat (by omega)
  have hv : ((pwi n : Nat) : Int) = ((pw (n % 255).toNat : Nat) : Int) := rfl
  rw [hv]
  generalize hm : n.tmod 255 = m at ht
  by_cases h : m < 0
  · have e : (n % 255).toNat = (m + 255).toNat := by omega
    rw [e] at c1 ⊢
    generalize hp : ((pw (m + 255).toNat : Nat) : Int) = p at c1 ⊢
    clear hF hv e hp
    go_enter Try.func124, Try.ntmps124
    go_wp2
    go_ret
    exact ⟨rfl, Drawn.refl _⟩
  · have e : (n % 255).toNat = m.toNat := by omega
    rw [e] at c1 ⊢
    generalize hp : ((pw (m).toNat : Nat) : Int) = p at c1 ⊢
    clear hF hv e hp
    go_enter Try.func124, Try.ntmps124
    go_wp2
    go_ret
    exact ⟨rfl, Drawn.refl _⟩

theorem pwi_tmod (a n : Int) : pwi (a * n.tmod 255) = pwi (a * n) := by
  have h3 : n.tmod 255 = n - 255 * (n.tdiv 255) := by rw [Int.tmod_def]
  unfold pwi
  have : (a * n.tmod 255) % 255 = (a * n) % 255 := by
    rw [h3, Int.mul_sub, Int.mul_left_comm, Int.sub_emod, Int.mul_emod_right]
    simp
  rw [this]
theorem pow_z (b : Nat) (n : Int) (w : World) (z1 : (n == 0) = false) :
    Calls Try.prog 93 #[.pointer (some ⟨b, 0, none⟩), .int .u8 0, .int .i64 n] w fun e w' => e = .returned (.int .u8 0) ∧ Drawn w w' := by
  go_enter Try.func93, Try.ntmps93
  go_wp2
  go_ret
  exact ⟨rfl, Drawn.refl _⟩
set_option maxHeartbeats 400000 in
theorem pow_any (b : Nat) (x : Nat) (n : Int) (w : World) (hx : x ≤ 255) (hF : FieldIn w b) :
    Calls Try.prog 93 #[.pointer (some ⟨b, 0, none⟩), .int .u8 x, .int .i64 n] w fun e w' => e = .returned (.int .u8 (pow x n : Nat)) ∧ Drawn w w' := by
  unfold pow
  by_cases hn : n = 0
  · subst hn
    rw [if_pos rfl]
    go_enter Try.func93, Try.ntmps93
    go_wp2
    go_ret
    exact ⟨rfl, Drawn.refl _⟩
  · rw [if_neg hn]
    have z1 : (n == 0) = false := int_ne hn
    by_cases h : x = 0
    · subst h
      rw [if_pos rfl]
      exact pow_z b n w z1
    · rw [if_neg h]
      have c1 := hF.log x hx
      have z2 : ((x : Int) == 0) = false := int_ne (by omega)
      have ht := tmod_facts n
      have e := pwi_tmod (lg x) n
      rw [← e]
      generalize hm : n.tmod 255 = m at ht ⊢
      have hl := lg_lt hx
      have b1 : (lg x : Int) * m ≤ 64770 := by
        have := Int.mul_le_mul_of_nonneg_left (show m ≤ 255 by omega) (show (0:Int) ≤ (lg x : Int) by omega)
        omega
      have b2 : -64770 ≤ (lg x : Int) * m := by
        have := Int.mul_le_mul_of_nonneg_left (show -255 ≤ m by omega) (show (0:Int) ≤ (lg x : Int) by omega)
        omega
      clear e hn
      go_enter Try.func93, Try.ntmps93
      go_wp2_with (go_at_call 124; refine (exp_any b _ _ hF).mono ?_; rintro e w' ⟨rfl, hd⟩)
      go_ret
      exact ⟨rfl, hd⟩

/-- The sum of the products of the first k bytes. -/
def dot (l m : List Nat) : Nat → Nat
  | 0 => 0
  | k + 1 => dot l m k ^^^ mul (l.getD k 0) (m.getD k 0)
theorem dot_le (l m : List Nat) (k : Nat) : dot l m k ≤ 255 := by
  induction k with
  | zero => exact Nat.zero_le _
  | succ k ih => exact xor_le ih (mul_le _ _)
set_option maxHeartbeats 400000 in
theorem dot_eq (b : Nat) (w : World) (A A' : Option Addr) (l m : List Nat) (n c c' : Nat) (hl : Bytes w A l) (hm : Bytes w A' m) (h1 : l.length = n) (h2 : m.length = n) (hF : FieldIn w b) :
    Calls Try.prog 100 #[.pointer (some ⟨b, 0, none⟩), .slice A n c, .slice A' n c'] w fun e w' => e = .returned (.tuple #[.int .u8 (dot l m n : Nat), .bool true]) ∧ Drawn w w' := by
  have h3 := hl.len
  rw [h1] at h3
  have H1 := Lib.hid h1
  have H2 := Lib.hid h2
  clear h1 h2
  go_enter Try.func100, Try.ntmps100
  go_wp2
  go_loopw [8, 21] (fun o i wr => ∃ k : Nat, k ≤ n ∧ i = .int .i64 k ∧ o = .int .u8 (dot l m k : Nat) ∧ Drawn w wr) (fun _ i _ => n - (intOf i).toNat)
  case atStart => exact ⟨0, by omega, rfl, rfl, Drawn.refl _⟩
  case round =>
    obtain ⟨k, hk, rfl, rfl, hd⟩ := hrel
    by_cases hlt : k < n
    · have hF1 := hF.drawn hd
      have hl1 := hl.below hd.below
      have hm1 := hm.below hd.below
      have b1 := hl.getD_le k
      have b2 := hm.getD_le k
      have q1 := H1.out
      have q2 := H2.out
      obtain ⟨b3, o3, rfl, c3⟩ := hl1.at_.resolve_left (by intro e; rw [e] at q1; simp at q1; omega)
      obtain ⟨b4, o4, rfl, c4⟩ := hm1.at_.resolve_left (by intro e; rw [e] at q2; simp at q2; omega)
      replace c3 := c3 k (by omega)
      replace c4 := c4 k (by omega)
      have b5 := dot_le l m k
      have b6 := mul_le (l.getD k 0) (m.getD k 0)
      have hx := u8_xor_nat (dot l m k) (mul (l.getD k 0) (m.getD k 0)) (by omega) (by omega)
      have hs : dot l m (k + 1) = dot l m k ^^^ mul (l.getD k 0) (m.getD k 0) := rfl
      generalize l.getD k 0 = p at *
      generalize m.getD k 0 = q at *
      clear hl hm hl1 hm1 hF q1 q2 H1 H2
      have HS := Lib.hid hs
      clear hs
      have HD := Lib.hid hd
      clear hd
      go_wp2
      go_quiet ((go_at_call 129; exact Calls.quiet_of (mul_any b _ _ _ (by omega) (by omega) (hF1.drawn (Drawn.step _)))))
      go_wp2
      go_roundw
      case rel => exact ⟨k + 1, by omega, by go_num, by rw [HS.out], HD.out.trans (Drawn.step _)⟩
      case measure => simp [intOf]; omega
    · obtain rfl : k = n := by omega
      go_wp2
      go_ret2
      exact ⟨rfl, hd⟩
theorem dot_ne (b : Nat) (w : World) (A A' : Option Addr) (n n' c c' : Nat) (hlen : n ≠ n') :
    Calls Try.prog 100 #[.pointer (some ⟨b, 0, none⟩), .slice A n c, .slice A' n' c'] w fun e w' => e = .returned (.tuple #[.int .u8 0, .bool false]) ∧ Drawn w w' := by
  have z : ((n : Int) != (n' : Int)) = true := int_bne (by omega)
  go_enter Try.func100, Try.ntmps100
  go_wp2
  go_ret2
  exact ⟨rfl, Drawn.refl _⟩
end Go.Proofs.Ytmlemichkeomjaa.GfW

/- The document's product, inverse, power and log come to the tables'. -/
set_option linter.unusedVariables false
set_option linter.unusedSimpArgs false
namespace Go.Proofs.Ytmlemichkeomjaa.GfP

/-- The document's sum once so many bits were looked at. -/
def rm (a b : Nat) : Nat → Nat
  | 0 => 0
  | k + 1 => if b / 2 ^ k % 2 = 1 then rm a b k ^^^ dit k a else rm a b k
theorem low_bits : ∀ b, b < 256 → ∀ k, k < 8 → b % 2 ^ (k + 1) = (b % 2 ^ k) ^^^ (if b / 2 ^ k % 2 = 1 then 2 ^ k else 0) := by decide +kernel
theorem pw_small : ∀ k, k < 8 → pw k = 2 ^ k := by decide +kernel
theorem rm_low {a b : Nat} (ha : a ≤ 255) (hb : b ≤ 255) (k : Nat) (hk : k ≤ 8) : rm a b k = mul a (b % 2 ^ k) := by
  induction k with
  | zero => rw [Nat.pow_zero, Nat.mod_one, mul_zero]; rfl
  | succ k ih =>
    have h1 := low_bits b (by omega) k (by omega)
    have h2 : b % 2 ^ k ≤ 255 := Nat.le_trans (Nat.mod_le _ _) hb
    rw [rm, ih (by omega), h1]
    by_cases h : b / 2 ^ k % 2 = 1
    · have h3 : pw k ≤ 255 := (pw_pos k).2
      rw [if_pos h, if_pos h, ← pw_small k (by omega), mul_xor ha (by rw [pw_small k (by omega)]; exact h2) h3, mul_comm a (pw k), mul_dit k ha]
    · rw [if_neg h, if_neg h, Nat.xor_zero]
theorem rm_mul {a b : Nat} (ha : a ≤ 255) (hb : b ≤ 255) : rm a b 8 = mul a b := by
  rw [rm_low ha hb 8 (by omega), Nat.mod_eq_of_lt (by omega)]
theorem rm_le {a : Nat} (b : Nat) (ha : a ≤ 255) (k : Nat) : rm a b k ≤ 255 := by
  induction k with
  | zero => exact Nat.zero_le _
  | succ k ih =>
    rw [rm]; split
    · exact xor_le ih (dit_le k ha)
    · exact ih
theorem inv_zero : inv 0 = 0 := rfl
theorem inv_uniq {a b : Nat} (ha : a ≤ 255) (hb : b ≤ 255) (h : mul a b = 1) : b = inv a := by
  have h0 : ¬ a = 0 := by intro h0; rw [h0, zero_mul] at h; omega
  refine mul_cancel ha hb (inv_le a) h0 ?_
  rw [h, mul_inv ha h0]
theorem inv_pos {a : Nat} (ha : a ≤ 255) (h0 : ¬ a = 0) : 0 < inv a := by
  have := mul_inv ha h0
  by_cases h : inv a = 0
  · rw [h, mul_zero] at this; omega
  · omega
theorem mul_inv_all {a b : Nat} (ha : a ≤ 255) (hb : b ≤ 255) : quo a b = mul a (inv b) := by
  by_cases h : b = 0
  · subst h; rw [inv_zero, mul_zero]; simp [quo]
  · exact quo_eq ha hb h
/-- The document's power. -/
def rp (a : Nat) : Nat → Nat
  | 0 => 1
  | k + 1 => mul (rp a k) a
theorem rp_le (a k : Nat) : rp a k ≤ 255 := by
  cases k with
  | zero => simp [rp]
  | succ k => exact mul_le _ _
theorem rp_pow {a : Nat} (ha : a ≤ 255) (h0 : ¬ a = 0) (k : Nat) : rp a k = pw (lg a * k) := by
  induction k with
  | zero => rw [Nat.mul_zero]; rfl
  | succ k ih =>
    rw [rp, ih]
    have h := mul_pw (lg a * k) (lg a)
    rw [pw_lg (by omega) ha] at h
    rw [h, Nat.mul_succ]
theorem rp_two (k : Nat) : rp 2 k = pw k := by
  rw [rp_pow (by omega) (by omega), show lg 2 = 1 from by decide +kernel, Nat.one_mul]
theorem rp_rest {a : Nat} (ha : a ≤ 255) (h0 : ¬ a = 0) (n : Int) : pow a n = rp a (n % 255).toNat := by
  rw [pow_pw h0, rp_pow ha h0]
  unfold pwi
  refine pw_congr ?_
  have h : ((lg a : Int) * n) % 255 = ((lg a : Int) * (n % 255)) % 255 := by rw [Int.mul_emod, Int.mul_emod (lg a : Int) (n % 255), Int.emod_emod]
  have e : ((lg a * (n % 255).toNat : Nat) : Int) = (lg a : Int) * (n % 255) := by
    rw [Int.natCast_mul, Int.toNat_of_nonneg (by omega)]
  rw [h, ← e]
  omega
theorem rp_nat {a : Nat} (ha : a ≤ 255) (k : Nat) : pow a k = rp a k := by
  by_cases h0 : a = 0
  · subst h0
    cases k with
    | zero => rfl
    | succ k =>
      unfold pow
      rw [if_neg (by omega), if_pos rfl, rp, mul_zero]
  · rw [pow_pw h0, rp_pow ha h0]
    rw [← Int.natCast_mul]
    exact pwi_nat _
theorem pwi_rest (n : Int) : pwi n = rp 2 (n % 255).toNat := by rw [rp_two]; rfl
end Go.Proofs.Ytmlemichkeomjaa.GfP

/- The document's functions of chapter 1, walked. -/
set_option linter.unusedVariables false
set_option linter.unusedSimpArgs false
namespace Go.Proofs.Ytmlemichkeomjaa.GfR
open Go.RowKit Go.Proofs.Ytmlemichkeomjaa.Base Go.Proofs.Ytmlemichkeomjaa.GfP Go.Proofs.Ytmlemichkeomjaa.GfW

theorem bit_of {q : Nat} (h : q % 2 = 1) : (((q : Nat) : Int) % 2 == 1) = true := int_eq (by omega)
theorem bit_no {q : Nat} (h : ¬ q % 2 = 1) : (((q : Nat) : Int) % 2 == 1) = false := int_ne (by omega)
set_option maxRecDepth 100000 in
set_option maxHeartbeats 400000 in
theorem rmul (a b : Nat) (w : World) (ha : a ≤ 255) (hb : b ≤ 255) :
    Calls Try.prog 136 #[.int .i64 a, .int .i64 b] w fun e w' => e = .returned (.int .i64 (mul a b : Nat)) ∧ w = w' := by
  rw [← rm_mul ha hb]
  go_enter Try.func136, Try.ntmps136
  go_wp2
  go_loop [0, 1, 5, 6] (fun x y n i => ∃ k : Nat, k ≤ 8 ∧ i = .int .i64 k ∧ n = .int .i64 (rm a b k : Nat) ∧ y = .int .i64 (b / 2 ^ k : Nat) ∧ x = .int .i64 (dit k a : Nat)) (fun _ _ _ i => 8 - (intOf i).toNat)
  case atStart => exact ⟨0, by omega, rfl, rfl, by rw [Nat.pow_zero, Nat.div_one], rfl⟩
  case round =>
    obtain ⟨k, hk, rfl, rfl, rfl, rfl⟩ := hrel
    by_cases hlt : k < 8
    · have d1 := dit_le k ha
      have d2 := rm_le b ha k
      have d3 : b / 2 ^ k ≤ 255 := Nat.le_trans (Nat.div_le_self _ _) hb
      have e1 : b / 2 ^ (k + 1) = b / 2 ^ k / 2 := by rw [Nat.pow_succ, Nat.div_div_eq_div_mul]
      have e2 : rm a b (k + 1) = if b / 2 ^ k % 2 = 1 then rm a b k ^^^ dit k a else rm a b k := rfl
      have e3 : dit (k + 1) a = dbl (dit k a) := rfl
      have hx := i64_xor_nat (rm a b k) (dit k a) (by omega) (by omega)
      generalize dit k a = x at *
      generalize rm a b k = n at *
      generalize b / 2 ^ k = q at *
      have E1 := Lib.hid e1
      have E2 := Lib.hid e2
      have E3 := Lib.hid e3
      clear e1 e2 e3
      have e4 : ((q / 2 : Nat) : Int) = (q : Int) / 2 := by omega
      have E4 := Lib.hid e4
      clear e4
      by_cases hq : q % 2 = 1
      · have hq1 := bit_of hq
        have HQ := Lib.hid hq
        clear hq
        go_wp2
        · have hbig : (255 : Int) < ((x : Nat) : Int) * 2 := by assumption
          go_round
          case rel => exact ⟨k + 1, by omega, by go_num, by rw [E2.out, if_pos HQ.out], by rw [E1.out, E4.out], by rw [E3.out, dbl_big d1 hbig]⟩
          case measure => simp [intOf]; omega
        · have hsm : ((x : Nat) : Int) * 2 ≤ 255 := by assumption
          go_round
          case rel => exact ⟨k + 1, by omega, by go_num, by rw [E2.out, if_pos HQ.out], by rw [E1.out, E4.out], by rw [E3.out, dbl_small hsm]⟩
          case measure => simp [intOf]; omega
      · have hq1 := bit_no hq
        have HQ := Lib.hid hq
        clear hq
        go_wp2
        · have hbig : (255 : Int) < ((x : Nat) : Int) * 2 := by assumption
          go_round
          case rel => exact ⟨k + 1, by omega, by go_num, by rw [E2.out, if_neg HQ.out], by rw [E1.out, E4.out], by rw [E3.out, dbl_big d1 hbig]⟩
          case measure => simp [intOf]; omega
        · have hsm : ((x : Nat) : Int) * 2 ≤ 255 := by assumption
          go_round
          case rel => exact ⟨k + 1, by omega, by go_num, by rw [E2.out, if_neg HQ.out], by rw [E1.out, E4.out], by rw [E3.out, dbl_small hsm]⟩
          case measure => simp [intOf]; omega
    · obtain rfl : k = 8 := by omega
      go_wp2
      go_ret
      exact ⟨rfl, rfl⟩

theorem eq_one {x : Nat} (h : x = 1) : (((x : Nat) : Int) == 1) = true := int_eq (by omega)
theorem ne_one {x : Nat} (h : ¬ x = 1) : (((x : Nat) : Int) == 1) = false := int_ne (by omega)
set_option maxRecDepth 100000 in
set_option maxHeartbeats 400000 in
theorem rinv (a : Nat) (w : World) (ha : a ≤ 255) :
    Calls Try.prog 137 #[.int .i64 a] w fun e w' => e = .returned (.int .i64 (inv a : Nat)) ∧ w = w' := by
  go_enter Try.func137, Try.ntmps137
  go_wp2
  go_loop [3] (fun i => ∃ k : Nat, 1 ≤ k ∧ k ≤ 256 ∧ i = .int .i64 k ∧ ∀ j, j < k → ¬ mul a j = 1) (fun i => 256 - (intOf i).toNat)
  case atStart => exact ⟨1, by omega, by omega, rfl, fun j hj => by obtain rfl : j = 0 := by omega
                                                                    rw [mul_zero]; omega⟩
  case round =>
    obtain ⟨k, hk1, hk, rfl, hno⟩ := hrel
    by_cases hlt : k < 256
    · by_cases h1 : mul a k = 1
      · have hk2 := inv_uniq ha (show k ≤ 255 by omega) h1
        have h2 := eq_one h1
        have HK := Lib.hid hk2
        clear hk2 h1 hno
        go_wp2_with (go_at_call 136; refine (rmul a k _ (by omega) (by omega)).mono ?_; rintro e w' ⟨rfl, rfl⟩)
        go_ret
        exact ⟨by rw [← HK.out]; rfl, rfl⟩
      · have h2 := ne_one h1
        have HN := Lib.hid (show ∀ j, j < k + 1 → ¬ mul a j = 1 from fun j hj => by
          by_cases e : j = k
          · rw [e]; exact h1
          · exact hno j (by omega))
        clear h1 hno
        go_wp2_with (go_at_call 136; refine (rmul a k _ (by omega) (by omega)).mono ?_; rintro e w' ⟨rfl, rfl⟩)
        go_round
        case rel => exact ⟨k + 1, by omega, by omega, by go_num, HN.out⟩
        case measure => simp [intOf]; omega
    · obtain rfl : k = 256 := by omega
      have h0 : inv a = 0 := by
        by_cases h0 : a = 0
        · rw [h0]; rfl
        · exact absurd (mul_inv ha h0) (hno (inv a) (by have := inv_le a; omega))
      have HZ := Lib.hid h0
      clear h0 hno
      go_wp2
      go_ret
      exact ⟨by rw [HZ.out]; rfl, rfl⟩

/-- Which power of 2 a byte is, or -1. -/
def rl (a : Nat) : Int := if a = 0 then -1 else lg a
theorem eq_nat {x y : Nat} (h : x = y) : (((x : Nat) : Int) == ((y : Nat) : Int)) = true := int_eq (by omega)
theorem ne_nat {x y : Nat} (h : ¬ x = y) : (((x : Nat) : Int) == ((y : Nat) : Int)) = false := int_ne (by omega)
end Go.Proofs.Ytmlemichkeomjaa.GfR

/- Tables over the field of 256 elements: sums, products, what undoes them, and powers of unlike elements; plain. -/
set_option linter.unusedVariables false
set_option linter.unusedSimpArgs false
namespace Go.Proofs.Ytmlemichkeomjaa.Lin
open Go.Proofs.Ytmlemichkeomjaa

/-- An element of the field. -/
structure F where
  v : Nat
  le : v ≤ 255
theorem F.ext {a b : F} (h : a.v = b.v) : a = b := by
  cases a; cases b; cases h; rfl
def F.zero : F := ⟨0, by omega⟩
def F.one : F := ⟨1, by omega⟩
def F.add (a b : F) : F := ⟨a.v ^^^ b.v, GfP.xor_le a.le b.le⟩
def F.mul (a b : F) : F := ⟨GfP.mul a.v b.v, GfP.mul_le _ _⟩
def F.inv (a : F) : F := ⟨GfP.inv a.v, GfP.inv_le _⟩
instance : Add F := ⟨F.add⟩
instance : Mul F := ⟨F.mul⟩
instance : OfNat F 0 := ⟨F.zero⟩
instance : OfNat F 1 := ⟨F.one⟩
instance : DecidableEq F := fun a b => if h : a.v = b.v then isTrue (F.ext h) else isFalse (fun e => h (by rw [e]))
theorem v_add (a b : F) : (a + b).v = a.v ^^^ b.v := rfl
theorem v_mul (a b : F) : (a * b).v = GfP.mul a.v b.v := rfl
theorem v_zero : (0 : F).v = 0 := rfl
theorem v_one : (1 : F).v = 1 := rfl
theorem add_comm (a b : F) : a + b = b + a := F.ext (Nat.xor_comm _ _)
theorem add_assoc (a b c : F) : a + b + c = a + (b + c) := F.ext (Nat.xor_assoc _ _ _)
theorem add_zero (a : F) : a + 0 = a := F.ext (Nat.xor_zero _)
theorem zero_add (a : F) : 0 + a = a := F.ext (Nat.zero_xor _)
theorem add_self (a : F) : a + a = 0 := F.ext (Nat.xor_self _)
theorem mul_comm (a b : F) : a * b = b * a := F.ext (GfP.mul_comm _ _)
theorem mul_assoc (a b c : F) : a * b * c = a * (b * c) := F.ext (GfP.mul_assoc a.le b.le c.le).symm
theorem mul_one (a : F) : a * 1 = a := F.ext (GfP.mul_one a.le)
theorem one_mul (a : F) : 1 * a = a := F.ext (GfP.one_mul a.le)
theorem mul_zero (a : F) : a * 0 = 0 := F.ext (GfP.mul_zero a.v)
theorem zero_mul (a : F) : 0 * a = 0 := F.ext (GfP.zero_mul a.v)
theorem mul_add (a b c : F) : a * (b + c) = a * b + a * c := F.ext (GfP.mul_xor a.le b.le c.le)
theorem add_mul (a b c : F) : (a + b) * c = a * c + b * c := F.ext (GfP.xor_mul a.le b.le c.le)
theorem v_ne {a : F} (h : a ≠ 0) : ¬ a.v = 0 := fun e => h (F.ext e)
theorem inv_mul {a : F} (h : a ≠ 0) : a.inv * a = 1 := F.ext (GfP.inv_mul a.le (v_ne h))
theorem mul_inv {a : F} (h : a ≠ 0) : a * a.inv = 1 := F.ext (GfP.mul_inv a.le (v_ne h))
theorem mul_eq_zero {a b : F} (h : a * b = 0) : a = 0 ∨ b = 0 := by
  have e : GfP.mul a.v b.v = 0 := by rw [← v_mul, h]; rfl
  rcases GfP.mul_eq_zero e with h1 | h1
  · exact .inl (F.ext h1)
  · exact .inr (F.ext h1)
theorem one_ne_zero : (1 : F) ≠ 0 := fun h => by cases h
instance : Std.Associative (α := F) (· + ·) := ⟨add_assoc⟩
instance : Std.Commutative (α := F) (· + ·) := ⟨add_comm⟩
instance : Std.Associative (α := F) (· * ·) := ⟨mul_assoc⟩
instance : Std.Commutative (α := F) (· * ·) := ⟨mul_comm⟩
theorem add_cancel (a b : F) : a + (a + b) = b := by rw [← add_assoc, add_self, zero_add]
theorem eq_of_add {a b : F} (h : a + b = 0) : a = b := by
  have : a + (a + b) = a + 0 := by rw [h]
  rw [add_cancel, add_zero] at this
  exact this.symm

/-- Sums. -/
def sm : Nat → (Nat → F) → F
  | 0, _ => 0
  | n + 1, f => sm n f + f n
theorem sm_congr {n : Nat} {f g : Nat → F} (h : ∀ i, i < n → f i = g i) : sm n f = sm n g := by
  induction n with
  | zero => rfl
  | succ n ih => rw [sm, sm, ih fun i hi => h i (by omega), h n (by omega)]
theorem sm_none {n : Nat} {f : Nat → F} (h : ∀ i, i < n → f i = 0) : sm n f = 0 := by
  induction n with
  | zero => rfl
  | succ n ih => rw [sm, ih fun i hi => h i (by omega), h n (by omega), add_zero]
theorem sm_add (n : Nat) (f g : Nat → F) : sm n (fun i => f i + g i) = sm n f + sm n g := by
  induction n with
  | zero => show (0 : F) = 0 + 0; rw [add_zero]
  | succ n ih => rw [sm, sm, sm, ih]; ac_rfl
theorem sm_mul (n : Nat) (a : F) (f : Nat → F) : sm n (fun i => a * f i) = a * sm n f := by
  induction n with
  | zero => exact (mul_zero a).symm
  | succ n ih => rw [sm, sm, ih, mul_add]
theorem sm_mul_right (n : Nat) (a : F) (f : Nat → F) : sm n (fun i => f i * a) = sm n f * a := by
  rw [mul_comm, ← sm_mul]
  exact sm_congr fun i _ => mul_comm _ _
theorem sm_swap (n m : Nat) (f : Nat → Nat → F) : sm n (fun i => sm m (fun j => f i j)) = sm m (fun j => sm n (fun i => f i j)) := by
  induction n with
  | zero => exact (sm_none fun _ _ => rfl).symm
  | succ n ih => rw [sm, ih, ← sm_add]; rfl
def dl (i j : Nat) : F := if i = j then 1 else 0
theorem dl_self (i : Nat) : dl i i = 1 := if_pos rfl
theorem dl_ne {i j : Nat} (h : i ≠ j) : dl i j = 0 := if_neg h
theorem dl_comm (i j : Nat) : dl i j = dl j i := by
  by_cases h : i = j
  · rw [h]
  · rw [dl_ne h, dl_ne (Ne.symm h)]
theorem sm_dl (n k : Nat) (f : Nat → F) (h : k < n) : sm n (fun i => dl k i * f i) = f k := by
  induction n with
  | zero => omega
  | succ n ih =>
    rw [sm]
    by_cases e : k = n
    · subst e
      rw [dl_self, one_mul, sm_none fun i hi => by rw [dl_ne (by omega), zero_mul], zero_add]
    · rw [ih (by omega), dl_ne e, zero_mul, add_zero]
theorem sm_two (n i c : Nat) (a b : F) (f : Nat → F) (hi : i < n) (hc : c < n) : sm n (fun k => (a * dl i k + b * dl c k) * f k) = a * f i + b * f c := by
  have h : ∀ k, k < n → (a * dl i k + b * dl c k) * f k = a * (dl i k * f k) + b * (dl c k * f k) := fun k _ => by rw [add_mul, mul_assoc, mul_assoc]
  rw [sm_congr h, sm_add, sm_mul, sm_mul, sm_dl n i f hi, sm_dl n c f hc]

/-- Tables, and their products. -/
abbrev M := Nat → Nat → F
def mm (n : Nat) (A B : M) : M := fun i j => sm n (fun k => A i k * B k j)
theorem mm_assoc (n p : Nat) (A B C : M) (i j : Nat) : mm p (mm n A B) C i j = mm n A (mm p B C) i j := by
  unfold mm
  have h1 : ∀ k, k < p → sm n (fun l => A i l * B l k) * C k j = sm n (fun l => A i l * (B l k * C k j)) := fun k _ => by
    rw [← sm_mul_right]
    exact sm_congr fun l _ => mul_assoc _ _ _
  rw [sm_congr h1, sm_swap]
  exact sm_congr fun l _ => sm_mul _ _ _
theorem mm_congr {n i j : Nat} {A A' B B' : M} (hA : ∀ k, k < n → A i k = A' i k) (hB : ∀ k, k < n → B k j = B' k j) : mm n A B i j = mm n A' B' i j :=
  sm_congr fun k hk => by rw [hA k hk, hB k hk]
theorem mm_one_left {n i : Nat} (A : M) (j : Nat) (h : i < n) : mm n dl A i j = A i j := sm_dl n i (fun k => A k j) h
theorem mm_one_right {n j : Nat} (A : M) (i : Nat) (h : j < n) : mm n A dl i j = A i j := by
  rw [← sm_dl n j (fun k => A i k) h]
  exact sm_congr fun k _ => by rw [mul_comm, dl_comm]
/-- Alike within bounds. -/
def Eqv (r c : Nat) (A B : M) : Prop := ∀ i, i < r → ∀ j, j < c → A i j = B i j
theorem Eqv.refl (r c : Nat) (A : M) : Eqv r c A A := fun _ _ _ _ => rfl
theorem Eqv.symm {r c : Nat} {A B : M} (h : Eqv r c A B) : Eqv r c B A := fun i hi j hj => (h i hi j hj).symm
theorem Eqv.trans {r c : Nat} {A B C : M} (h : Eqv r c A B) (k : Eqv r c B C) : Eqv r c A C := fun i hi j hj => (h i hi j hj).trans (k i hi j hj)

/-- A row times a column of numbers. -/
def ap (n : Nat) (A : M) (x : Nat → F) : Nat → F := fun i => sm n (fun k => A i k * x k)
theorem ap_ap (n p : Nat) (A B : M) (x : Nat → F) (i : Nat) : ap p (mm n A B) x i = ap n A (ap p B x) i := mm_assoc n p A B (fun k _ => x k) i 0
theorem ap_one {n i : Nat} (x : Nat → F) (h : i < n) : ap n dl x i = x i := sm_dl n i x h
theorem ap_congr {n i : Nat} {A B : M} {x y : Nat → F} (hA : ∀ k, k < n → A i k = B i k) (hx : ∀ k, k < n → x k = y k) : ap n A x i = ap n B y i :=
  sm_congr fun k hk => by rw [hA k hk, hx k hk]
/-- None hangs on the others. -/
def Free (n : Nat) (A : M) : Prop := ∀ x : Nat → F, (∀ i, i < n → ap n A x i = 0) → ∀ i, i < n → x i = 0
theorem free_of_left {n : Nat} {A B : M} (h : Eqv n n (mm n B A) dl) : Free n A := fun x hx i hi => by
  have h1 : ap n (mm n B A) x i = 0 := by
    rw [ap_ap]
    exact sm_none fun k hk => by rw [hx k hk, mul_zero]
  rw [ap_congr (fun k hk => h i hi k hk) (fun _ _ => rfl), ap_one x hi] at h1
  exact h1
theorem free_mul {n : Nat} {A B : M} (hA : Free n A) (hB : Free n B) : Free n (mm n A B) := fun x hx =>
  hB x (hA (ap n B x) fun i hi => by rw [← ap_ap]; exact hx i hi)
theorem free_congr {n : Nat} {A B : M} (h : Eqv n n A B) (hA : Free n A) : Free n B := fun x hx =>
  hA x fun i hi => by rw [ap_congr (fun k hk => h i hi k hk) (fun _ _ => rfl)]; exact hx i hi
/-- What undoes from the left is but one. -/
theorem left_uniq {n : Nat} {A B C : M} (hl : Eqv n n (mm n C B) dl) (hr : Eqv n n (mm n B A) dl) : Eqv n n C A := fun i hi j hj => by
  have h1 : mm n (mm n C B) A i j = mm n C (mm n B A) i j := mm_assoc n n C B A i j
  rw [mm_congr (fun k hk => hl i hi k hk) (fun _ _ => rfl), mm_one_left A j hi, mm_congr (fun _ _ => rfl) (fun k hk => hr k hk j hj), mm_one_right C i hj] at h1
  exact h1.symm

/-- Two rows change places. -/
def sw (c p i : Nat) : Nat := if i = c then p else if i = p then c else i
theorem sw_sw (c p i : Nat) : sw c p (sw c p i) = i := by
  unfold sw
  by_cases h : i = c
  · rw [if_pos h]
    by_cases h2 : p = c
    · rw [if_pos h2]; omega
    · rw [if_neg h2, if_pos rfl]; omega
  · rw [if_neg h]
    by_cases h2 : i = p
    · rw [if_pos h2, if_pos rfl]; omega
    · rw [if_neg h2, if_neg h, if_neg h2]
theorem sw_lt {c p i n : Nat} (hc : c < n) (hp : p < n) (hi : i < n) : sw c p i < n := by
  unfold sw
  split
  · exact hp
  · split
    · exact hc
    · exact hi
/-- One step: the rows change places, the row c is divided by W c c, and taken from the others so many times. -/
def co (c : Nat) (W : M) (i : Nat) : F := if i = c then 0 else 1
def cp (c : Nat) (W : M) (i : Nat) : F := if i = c then (W c c).inv else W i c * (W c c).inv
def st (c : Nat) (W X : M) : M := fun i j => co c W i * X i j + cp c W i * X c j
def swp (c p : Nat) (X : M) : M := fun i j => X (sw c p i) j
/-- What the program does with a row of X, whose W has been met. -/
theorem st_at_c (c : Nat) (W X : M) (j : Nat) : st c W X c j = (W c c).inv * X c j := by
  unfold st co cp
  rw [if_pos rfl, if_pos rfl, zero_mul, zero_add]
theorem st_at_i {c i : Nat} (W X : M) (j : Nat) (h : i ≠ c) : st c W X i j = X i j + W i c * ((W c c).inv * X c j) := by
  unfold st co cp
  rw [if_neg h, if_neg h, one_mul, mul_assoc]
theorem st_lin (n c : Nat) (W X A : M) (i j : Nat) : mm n (st c W X) A i j = st c W (mm n X A) i j := by
  unfold mm st
  have h : ∀ k, k < n → (co c W i * X i k + cp c W i * X c k) * A k j = co c W i * (X i k * A k j) + cp c W i * (X c k * A k j) := fun k _ => by
    rw [add_mul, mul_assoc, mul_assoc]
  rw [sm_congr h, sm_add, sm_mul, sm_mul]
theorem swp_lin (n c p : Nat) (X A : M) (i j : Nat) : mm n (swp c p X) A i j = swp c p (mm n X A) i j := rfl
/-- Back again. -/
def bk (c : Nat) (W : M) : M := fun i k => (if i = c then 0 else 1) * dl i k + (if i = c then W c c else W i c) * dl c k
theorem bk_st {n c : Nat} (W X : M) (h : W c c ≠ 0) (hc : c < n) {i : Nat} (hi : i < n) (j : Nat) : mm n (bk c W) (st c W X) i j = X i j := by
  unfold mm bk
  rw [sm_two n i c _ _ (fun k => st c W X k j) hi hc]
  by_cases e : i = c
  · rw [if_pos e, if_pos e, zero_mul, zero_add, st_at_c, ← mul_assoc, mul_inv h, one_mul, e]
  · rw [if_neg e, if_neg e, one_mul, st_at_i W X j e, st_at_c, add_assoc, add_self, add_zero]

/-- What holds behind c steps. -/
structure Inv (n c : Nat) (A W O : M) : Prop where
  left : Eqv n n (mm n O A) W
  right : ∃ P : M, Eqv n n (mm n P W) A ∧ Eqv n n (mm n P O) dl
  unit : ∀ i, i < n → ∀ j, j < c → W i j = dl i j
theorem Inv.start (n : Nat) (A : M) : Inv n 0 A A dl :=
  ⟨fun i hi j hj => mm_one_left A j hi, ⟨dl, fun i hi j hj => mm_one_left A j hi, fun i hi j hj => mm_one_left dl j hi⟩, fun i hi j hj => by omega⟩
theorem Inv.swap {n c p : Nat} {A W O : M} (h : Inv n c A W O) (hc : c < n) (hcp : c ≤ p) (hp : p < n) : Inv n c A (swp c p W) (swp c p O) := by
  obtain ⟨hl, ⟨P, hP1, hP2⟩, hu⟩ := h
  refine ⟨fun i hi j hj => hl _ (sw_lt hc hp hi) j hj, ⟨mm n P (fun i k => dl (sw c p i) k), fun i hi j hj => ?_, fun i hi j hj => ?_⟩, fun i hi j hj => ?_⟩
  · rw [mm_assoc, ← hP1 i hi j hj]
    refine mm_congr (fun _ _ => rfl) fun k hk => ?_
    show sm n (fun l => dl (sw c p k) l * W (sw c p l) j) = W k j
    rw [sm_dl n _ (fun l => W (sw c p l) j) (sw_lt hc hp hk), sw_sw]
  · rw [mm_assoc, ← hP2 i hi j hj]
    refine mm_congr (fun _ _ => rfl) fun k hk => ?_
    show sm n (fun l => dl (sw c p k) l * O (sw c p l) j) = O k j
    rw [sm_dl n _ (fun l => O (sw c p l) j) (sw_lt hc hp hk), sw_sw]
  · show W (sw c p i) j = dl i j
    rw [hu _ (sw_lt hc hp hi) j hj]
    by_cases e1 : i = c
    · subst e1
      rw [dl_ne (show i ≠ j by omega), dl_ne]
      unfold sw; rw [if_pos rfl]; omega
    · by_cases e2 : i = p
      · subst e2
        rw [dl_ne (show i ≠ j by omega), dl_ne]
        unfold sw; rw [if_neg e1, if_pos rfl]; omega
      · unfold sw; rw [if_neg e1, if_neg e2]
theorem Inv.step {n c : Nat} {A W O : M} (h : Inv n c A W O) (hc : c < n) (h0 : W c c ≠ 0) : Inv n (c + 1) A (st c W W) (st c W O) := by
  obtain ⟨hl, ⟨P, hP1, hP2⟩, hu⟩ := h
  refine ⟨fun i hi j hj => ?_, ⟨mm n P (bk c W), fun i hi j hj => ?_, fun i hi j hj => ?_⟩, fun i hi j hj => ?_⟩
  · rw [st_lin]
    unfold st
    rw [hl i hi j hj, hl c hc j hj]
  · rw [mm_assoc, ← hP1 i hi j hj]
    exact mm_congr (fun _ _ => rfl) fun k hk => bk_st W W h0 hc hk j
  · rw [mm_assoc, ← hP2 i hi j hj]
    exact mm_congr (fun _ _ => rfl) fun k hk => bk_st W O h0 hc hk j
  · by_cases ej : j = c
    · subst ej
      by_cases e : i = j
      · subst e
        rw [st_at_c, inv_mul h0, dl_self]
      · rw [st_at_i W W j e, inv_mul h0, mul_one, add_self, dl_ne e]
    · have hjc : j < c := by omega
      by_cases e : i = c
      · subst e
        rw [st_at_c, hu i hi j hjc, dl_ne (by omega), mul_zero]
      · rw [st_at_i W W j e, hu i hi j hjc, hu c hc j hjc, dl_ne (show c ≠ j by omega), mul_zero, mul_zero, add_zero]
/-- At the end it is undone from both sides. -/
theorem Inv.done {n : Nat} {A W O : M} (h : Inv n n A W O) : Eqv n n (mm n O A) dl ∧ Eqv n n (mm n A O) dl := by
  obtain ⟨hl, ⟨P, hP1, hP2⟩, hu⟩ := h
  have hPA : Eqv n n P A := fun i hi j hj => by
    rw [← hP1 i hi j hj, ← mm_one_right P i hj]
    exact mm_congr (fun _ _ => rfl) fun k hk => (hu k hk j hj).symm
  exact ⟨fun i hi j hj => (hl i hi j hj).trans (hu i hi j hj), fun i hi j hj => by
    rw [← hP2 i hi j hj]
    exact mm_congr (fun k hk => (hPA i hi k hk).symm) fun _ _ => rfl⟩
/-- Where no row has anything at c, some hang on the others. -/
theorem Inv.stuck {n c : Nat} {A W O : M} (h : Inv n c A W O) (hc : c < n) (hz : ∀ p, c ≤ p → p < n → W p c = 0) : ¬ Free n A := by
  obtain ⟨hl, ⟨P, hP1, hP2⟩, hu⟩ := h
  intro hF
  have hW : ∀ i, i < n → ap n W (fun k => if k < c then W k c else dl c k) i = 0 := by
    intro i hi
    have e : ∀ k, k < n → W i k * (if k < c then W k c else dl c k) = (if i < c then dl i k * W k c else 0) + dl c k * W i k := by
      intro k hk
      by_cases h1 : k < c
      · rw [if_pos h1, hu i hi k h1, dl_ne (show c ≠ k by omega), zero_mul, add_zero]
        by_cases h2 : i < c
        · rw [if_pos h2]
        · rw [if_neg h2, dl_ne (by omega), zero_mul]
      · rw [if_neg h1]
        by_cases h2 : i < c
        · rw [if_pos h2, dl_ne (show i ≠ k by omega), zero_mul, zero_add, mul_comm]
        · rw [if_neg h2, zero_add, mul_comm]
    show sm n _ = 0
    rw [sm_congr e, sm_add, sm_dl n c (fun k => W i k) hc]
    by_cases h2 : i < c
    · have : sm n (fun k => if i < c then dl i k * W k c else 0) = W i c := by
        rw [← sm_dl n i (fun k => W k c) hi]
        exact sm_congr fun k _ => by rw [if_pos h2]
      rw [this, add_self]
    · rw [sm_none fun k _ => by rw [if_neg h2], zero_add, hz i (by omega) hi]
  have := hF (fun k => if k < c then W k c else dl c k) (fun i hi => by
    have e : ap n A (fun k => if k < c then W k c else dl c k) i = ap n (mm n P W) (fun k => if k < c then W k c else dl c k) i :=
      ap_congr (fun k hk => (hP1 i hi k hk).symm) fun _ _ => rfl
    rw [e, ap_ap]
    exact sm_none fun k hk => by rw [hW k hk, mul_zero]) c hc
  rw [if_neg (by omega), dl_self] at this
  exact one_ne_zero this

/-- Powers. -/
def pwr (a : F) : Nat → F
  | 0 => 1
  | n + 1 => pwr a n * a
/-- The value of a polynomial. -/
def ev (t : F) : List F → F
  | [] => 0
  | c :: l => c + t * ev t l
def dv (r : F) : List F → List F
  | [] => []
  | [_] => []
  | _ :: d :: l => ev r (d :: l) :: dv r (d :: l)
theorem dv_length (r : F) : ∀ l : List F, (dv r l).length = l.length - 1
  | [] => rfl
  | [_] => rfl
  | _ :: d :: l => by
    show (dv r (d :: l)).length + 1 = _
    rw [dv_length r (d :: l)]
    simp
theorem dv_ev (r t : F) : ∀ l : List F, ev t l = ev r l + (t + r) * ev t (dv r l)
  | [] => by show (0 : F) = 0 + (t + r) * 0; rw [mul_zero, add_zero]
  | [c] => by
    show c + t * 0 = c + r * 0 + (t + r) * 0
    rw [mul_zero, mul_zero, mul_zero, add_zero, add_zero]
  | c :: d :: l => by
    have ih := dv_ev r t (d :: l)
    show c + t * ev t (d :: l) = c + r * ev r (d :: l) + (t + r) * (ev r (d :: l) + t * ev t (dv r (d :: l)))
    rw [ih]
    generalize ev r (d :: l) = x
    generalize ev t (dv r (d :: l)) = y
    have e1 : (t + r) * (x + t * y) = t * x + t * ((t + r) * y) + r * x := by
      rw [mul_add, add_mul, ← mul_assoc, ← mul_assoc, mul_comm (t + r) t]
      ac_rfl
    rw [e1, mul_add]
    have e2 : c + r * x + (t * x + t * ((t + r) * y) + r * x) = c + (t * x + t * ((t + r) * y)) + (r * x + r * x) := by ac_rfl
    rw [e2, add_self, add_zero]
theorem dv_none (r : F) : ∀ l : List F, (∀ c, c ∈ dv r l → c = 0) → ev r l = 0 → ∀ c, c ∈ l → c = 0
  | [], _, _, c, h => by cases h
  | [a], _, h0, c, h => by
    have : a + r * 0 = 0 := h0
    rw [mul_zero, add_zero] at this
    rw [List.mem_singleton.1 h, this]
  | a :: d :: l, hz, h0, c, h => by
    have hx : ev r (d :: l) = 0 := hz _ (List.mem_cons_self ..)
    have ih := dv_none r (d :: l) (fun c hc => hz c (List.mem_cons_of_mem _ hc)) hx
    rcases List.mem_cons.1 h with rfl | h
    · have : c + r * ev r (d :: l) = 0 := h0
      rwa [hx, mul_zero, add_zero] at this
    · exact ih c h
/-- A polynomial with more roots than its degree is none. -/
theorem roots : ∀ (xs l : List F), xs.Pairwise (· ≠ ·) → l.length ≤ xs.length → (∀ x, x ∈ xs → ev x l = 0) → ∀ c, c ∈ l → c = 0
  | [], l, _, hl, _, c, hc => by
    have h0 : l = [] := List.eq_nil_of_length_eq_zero (by simpa using hl)
    rw [h0] at hc
    cases hc
  | x :: xs, l, hp, hl, hr, c, hc => by
    have hp' := List.pairwise_cons.1 hp
    refine dv_none x l (fun c hc => ?_) (hr x (List.mem_cons_self ..)) c hc
    refine roots xs (dv x l) hp'.2 (by rw [dv_length]; have : (x :: xs).length = xs.length + 1 := rfl; omega) (fun y hy => ?_) c hc
    have h1 := dv_ev x y l
    rw [hr x (List.mem_cons_self ..), hr y (List.mem_cons_of_mem _ hy), zero_add] at h1
    rcases mul_eq_zero h1.symm with h2 | h2
    · exact absurd (eq_of_add h2).symm (hp'.1 y hy)
    · exact h2
theorem ev_snoc (t : F) (l : List F) (c : F) : ev t (l ++ [c]) = ev t l + c * pwr t l.length := by
  induction l with
  | nil => show c + t * 0 = 0 + c * 1; rw [mul_zero, add_zero, zero_add, mul_one]
  | cons a l ih =>
    show a + t * ev t (l ++ [c]) = a + t * ev t l + c * (pwr t l.length * t)
    rw [ih, mul_add]
    have : t * (c * pwr t l.length) = c * (pwr t l.length * t) := by ac_rfl
    rw [this, add_assoc]
theorem ev_sm (t : F) (x : Nat → F) (k : Nat) : ev t ((List.range k).map x) = sm k (fun j => pwr t j * x j) := by
  induction k with
  | zero => rfl
  | succ k ih => rw [List.range_succ, List.map_append, List.map_cons, List.map_nil, ev_snoc, ih, sm, List.length_map, List.length_range, mul_comm (x k)]
/-- Rows of powers of unlike elements don't hang on each other. -/
theorem powers_free (k : Nat) (e : Nat → F) (h : ∀ i, i < k → ∀ j, j < i → e i ≠ e j) : Free k (fun i j => pwr (e i) j) := by
  intro x hx i hi
  refine roots ((List.range k).map e) ((List.range k).map x) ?_ (by simp) (fun y hy => ?_) (x i) (List.mem_map.2 ⟨i, List.mem_range.2 hi, rfl⟩)
  · rw [List.pairwise_map]
    have hp : ∀ m, m ≤ k → (List.range m).Pairwise (fun a b => e a ≠ e b) := by
      intro m
      induction m with
      | zero => intro _; exact List.Pairwise.nil
      | succ m ih =>
        intro hm
        rw [List.range_succ, List.pairwise_append]
        refine ⟨ih (by omega), List.pairwise_singleton _ _, fun a ha b hb => ?_⟩
        rw [List.mem_singleton.1 hb]
        exact (h m (by omega) a (List.mem_range.1 ha)).symm
    exact hp k (Nat.le_refl _)
  · obtain ⟨j, hj, rfl⟩ := List.mem_map.1 hy
    rw [ev_sm]
    exact hx j (List.mem_range.1 hj)
end Go.Proofs.Ytmlemichkeomjaa.Lin

/- How many rows don't hang on the others, told step by step; plain. -/
set_option linter.unusedVariables false
set_option linter.unusedSimpArgs false
namespace Go.Proofs.Ytmlemichkeomjaa.Lin
open Go.Proofs.Ytmlemichkeomjaa

theorem ap_add (n : Nat) (A : M) (x y : Nat → F) (i : Nat) : ap n A (fun k => x k + y k) i = ap n A x i + ap n A y i := by
  unfold ap
  rw [← sm_add]
  exact sm_congr fun k _ => mul_add _ _ _
theorem ap_dl {n q : Nat} (A : M) (t : F) (i : Nat) (hq : q < n) : ap n A (fun k => dl q k * t) i = A i q * t := by
  unfold ap
  have : ∀ k, k < n → A i k * (dl q k * t) = dl q k * (A i k * t) := fun k _ => by ac_rfl
  rw [sm_congr this, sm_dl n q (fun k => A i k * t) hq]
/-- What holds behind c steps, none of which was left out. -/
structure Ech (n c : Nat) (A W : M) : Prop where
  ker : ∀ x : Nat → F, (∀ i, i < n → ap n A x i = 0) ↔ (∀ i, i < n → ap n W x i = 0)
  low : ∀ i, i < n → ∀ j, j < i → j < c → W i j = 0
  dia : ∀ i, i < c → W i i ≠ 0
theorem Ech.start (n : Nat) (A : M) : Ech n 0 A A := ⟨fun _ => Iff.rfl, fun _ _ _ _ h => by omega, fun _ h => by omega⟩
theorem Ech.swap {n c p : Nat} {A W : M} (h : Ech n c A W) (hc : c < n) (hcp : c ≤ p) (hp : p < n) : Ech n c A (swp c p W) := by
  refine ⟨fun x => (h.ker x).trans ⟨fun g i hi => g _ (sw_lt hc hp hi), fun g i hi => ?_⟩, fun i hi j hj hjc => ?_, fun i hi => ?_⟩
  · have := g _ (sw_lt hc hp hi)
    have e : ap n (swp c p W) x (sw c p i) = ap n W x (sw c p (sw c p i)) := rfl
    rwa [e, sw_sw] at this
  · show W (sw c p i) j = 0
    unfold sw
    by_cases e1 : i = c
    · rw [if_pos e1]; exact h.low p hp j (by omega) hjc
    · rw [if_neg e1]
      by_cases e2 : i = p
      · rw [if_pos e2]; exact h.low c hc j (by omega) hjc
      · rw [if_neg e2]; exact h.low i hi j hj hjc
  · show W (sw c p i) i ≠ 0
    unfold sw
    rw [if_neg (by omega), if_neg (by omega)]
    exact h.dia i hi
def el (c : Nat) (W : M) : M := fun i j => if c < i then W i j + (W i c * (W c c).inv) * W c j else W i j
theorem ap_el (n c : Nat) (W : M) (x : Nat → F) (i : Nat) : ap n (el c W) x i = if c < i then ap n W x i + (W i c * (W c c).inv) * ap n W x c else ap n W x i := by
  unfold ap el
  by_cases h : c < i
  · rw [if_pos h, ← sm_mul, ← sm_add]
    refine sm_congr fun k _ => ?_
    rw [if_pos h, add_mul, mul_assoc]
  · rw [if_neg h]
    exact sm_congr fun k _ => by rw [if_neg h]
theorem Ech.step {n c : Nat} {A W : M} (h : Ech n c A W) (hc : c < n) (h0 : W c c ≠ 0) : Ech n (c + 1) A (el c W) := by
  refine ⟨fun x => (h.ker x).trans ⟨fun g i hi => ?_, fun g => ?_⟩, fun i hi j hj hjc => ?_, fun i hi => ?_⟩
  · rw [ap_el, g i hi, g c hc]
    split
    · rw [mul_zero, add_zero]
    · rfl
  · have hcc : ap n W x c = 0 := by
      have := g c hc
      rwa [ap_el, if_neg (by omega)] at this
    intro i hi
    have := g i hi
    rw [ap_el, hcc, mul_zero, add_zero] at this
    split at this <;> exact this
  · unfold el
    by_cases e : c < i
    · rw [if_pos e]
      by_cases ej : j = c
      · subst ej
        rw [mul_assoc, inv_mul h0, mul_one, add_self]
      · rw [h.low i hi j hj (by omega), h.low c hc j (by omega) (by omega), mul_zero, add_zero]
    · rw [if_neg e]
      exact h.low i hi j hj (by omega)
  · unfold el
    rw [if_neg (by omega)]
    by_cases e : i = c
    · rw [e]; exact h0
    · exact h.dia i (by omega)
theorem Ech.done {n : Nat} {A W : M} (h : Ech n n A W) : Free n A := by
  intro x hx
  have hW := (h.ker x).1 hx
  have hm : ∀ m, m ≤ n → ∀ i, i < n → n - m ≤ i → x i = 0 := by
    intro m
    induction m with
    | zero => intro _ i hi h1; omega
    | succ m ih =>
      intro hm i hi h1
      by_cases e : n - m ≤ i
      · exact ih (by omega) i hi e
      · have h2 := hW i hi
        have h3 : ∀ k, k < n → W i k * x k = dl i k * (W i k * x k) := fun k hk => by
          by_cases e1 : i = k
          · rw [e1, dl_self, one_mul]
          · rw [dl_ne e1, zero_mul]
            by_cases e2 : k < i
            · rw [h.low i hi k e2 hk, zero_mul]
            · rw [ih (by omega) k hk (by omega), mul_zero]
        unfold ap at h2
        rw [sm_congr h3, sm_dl n i (fun k => W i k * x k) hi] at h2
        rcases mul_eq_zero h2 with h4 | h4
        · exact absurd h4 (h.dia i hi)
        · exact h4
  exact fun i hi => hm n (Nat.le_refl _) i hi (by omega)
theorem Ech.stuck {n c : Nat} {A W : M} (h : Ech n c A W) (hc : c < n) (hz : ∀ p, c ≤ p → p < n → W p c = 0) : ¬ Free n A := by
  have hm : ∀ m, m ≤ c → ∃ x : Nat → F, x c = 1 ∧ (∀ k, c < k → x k = 0) ∧ ∀ i, i < c → c - m ≤ i → ap n W x i = 0 := by
    intro m
    induction m with
    | zero => intro _; exact ⟨fun k => dl c k, dl_self c, fun k hk => dl_ne (by omega), fun i hi h1 => by omega⟩
    | succ m ih =>
      intro hm
      obtain ⟨x, h1, h2, h3⟩ := ih (by omega)
      have hd := h.dia (c - m - 1) (by omega)
      refine ⟨fun k => x k + dl (c - m - 1) k * ((W (c - m - 1) (c - m - 1)).inv * ap n W x (c - m - 1)), ?_, fun k hk => ?_, fun i hi hi2 => ?_⟩
      · show x c + dl (c - m - 1) c * _ = 1
        rw [dl_ne (show c - m - 1 ≠ c by omega), zero_mul, add_zero, h1]
      · show x k + dl (c - m - 1) k * _ = 0
        rw [dl_ne (show c - m - 1 ≠ k by omega), zero_mul, add_zero, h2 k hk]
      · rw [ap_add, ap_dl W _ i (by omega)]
        by_cases e : i = c - m - 1
        · rw [e, ← mul_assoc, mul_inv hd, one_mul, add_self]
        · rw [h3 i hi (by omega), h.low i (by omega) (c - m - 1) (by omega) (by omega), zero_mul, add_zero]
  obtain ⟨x, h1, h2, h3⟩ := hm c (Nat.le_refl _)
  intro hF
  have := hF x ((h.ker x).2 fun i hi => by
    by_cases e : i < c
    · exact h3 i e (by omega)
    · refine sm_none fun k hk => ?_
      by_cases e1 : k < c
      · rw [h.low i hi k (by omega) e1, zero_mul]
      · by_cases e2 : k = c
        · rw [e2, hz i (by omega) hi, zero_mul]
        · rw [h2 k (by omega), mul_zero]) c hc
  rw [h1] at this
  exact one_ne_zero this
end Go.Proofs.Ytmlemichkeomjaa.Lin

/- Rows as lists, and as tables: plain Lean. -/
set_option linter.unusedVariables false
set_option linter.unusedSimpArgs false
namespace Go.Proofs.Ytmlemichkeomjaa.Lin
open Go.Proofs.Ytmlemichkeomjaa

def toF (x : Nat) : F := ⟨x % 256, by omega⟩
theorem toF_v {x : Nat} (h : x ≤ 255) : (toF x).v = x := Nat.mod_eq_of_lt (by omega)
theorem toF_of (a : F) : toF a.v = a := F.ext (toF_v a.le)
/-- The table of rows. -/
def fn (ls : List (List Nat)) : M := fun i j => toF ((ls.getD i []).getD j 0)
def rw1 (k : Nat) (f : Nat → F) : List Nat := (List.range k).map fun j => (f j).v
def tab (n k : Nat) (A : M) : List (List Nat) := (List.range n).map fun i => rw1 k (A i)
theorem rw1_length (k : Nat) (f : Nat → F) : (rw1 k f).length = k := by simp [rw1]
theorem tab_length (n k : Nat) (A : M) : (tab n k A).length = n := by simp [tab]
theorem rw1_get {k : Nat} (f : Nat → F) {j : Nat} (h : j < k) : (rw1 k f).getD j 0 = (f j).v := by
  unfold rw1
  rw [List.getD_eq_getElem?_getD, List.getElem?_map, List.getElem?_range h]
  rfl
theorem tab_get {n : Nat} (k : Nat) (A : M) {i : Nat} (h : i < n) : (tab n k A).getD i [] = rw1 k (A i) := by
  unfold tab
  rw [List.getD_eq_getElem?_getD, List.getElem?_map, List.getElem?_range h]
  rfl
theorem tab_getElem (n k : Nat) (A : M) (i : Nat) (h : i < (tab n k A).length) : (tab n k A)[i] = rw1 k (A i) := by
  simp [tab]
theorem fn_tab {n k : Nat} (A : M) {i j : Nat} (hi : i < n) (hj : j < k) : fn (tab n k A) i j = A i j := by
  unfold fn
  rw [tab_get k A hi, rw1_get _ hj, toF_of]
theorem fn_tab_eqv (n k : Nat) (A : M) : Eqv n k (fn (tab n k A)) A := fun _ hi _ hj => fn_tab A hi hj
theorem rw1_le (k : Nat) (f : Nat → F) : ∀ x, x ∈ rw1 k f → x ≤ 255 := by
  intro x hx
  obtain ⟨j, _, rfl⟩ := List.mem_map.1 hx
  exact (f j).le
theorem rw1_congr {k : Nat} {f g : Nat → F} (h : ∀ j, j < k → f j = g j) : rw1 k f = rw1 k g := by
  unfold rw1
  exact List.map_congr_left fun j hj => by rw [h j (List.mem_range.1 hj)]
theorem tab_congr {n k : Nat} {A B : M} (h : Eqv n k A B) : tab n k A = tab n k B := by
  unfold tab
  exact List.map_congr_left fun i hi => rw1_congr fun j hj => h i (List.mem_range.1 hi) j hj
/-- n rows of k bytes. -/
structure Rect (n k : Nat) (ls : List (List Nat)) : Prop where
  len : ls.length = n
  row : ∀ i (h : i < ls.length), ls[i].length = k
  le : ∀ i (h : i < ls.length), ∀ x, x ∈ ls[i] → x ≤ 255
theorem tab_rect (n k : Nat) (A : M) : Rect n k (tab n k A) :=
  ⟨tab_length n k A, fun i h => by rw [tab_getElem, rw1_length], fun i h => by rw [tab_getElem]; exact rw1_le _ _⟩
theorem Rect.fn_v {n k : Nat} {ls : List (List Nat)} (h : Rect n k ls) {i j : Nat} (hi : i < ls.length) (hj : j < ls[i].length) : (fn ls i j).v = ls[i][j] := by
  unfold fn
  have e1 : ls.getD i [] = ls[i] := by rw [List.getD_eq_getElem?_getD, List.getElem?_eq_getElem hi, Option.getD_some]
  rw [e1, List.getD_eq_getElem?_getD, List.getElem?_eq_getElem hj, Option.getD_some]
  exact toF_v (h.le i hi _ (List.getElem_mem hj))
theorem Rect.row_eq {n k : Nat} {ls : List (List Nat)} (h : Rect n k ls) {i : Nat} (hi : i < ls.length) : ls[i] = rw1 k (fn ls i) := by
  apply List.ext_getElem
  · rw [rw1_length, h.row i hi]
  · intro j h1 h2
    have := h.fn_v hi h1
    rw [← this]
    simp [rw1]
theorem Rect.tab_eq {n k : Nat} {ls : List (List Nat)} (h : Rect n k ls) : tab n k (fn ls) = ls := by
  apply List.ext_getElem
  · rw [tab_length, h.len]
  · intro i h1 h2
    rw [tab_getElem, ← h.row_eq h2]
/-- Are rows right? -/
def wid (ls : List (List Nat)) : Nat := (ls.getD 0 []).length
def rightB (ls : List (List Nat)) : Bool := decide (1 ≤ ls.length) && decide (ls.length ≤ 32) && decide (1 ≤ wid ls) && decide (wid ls ≤ 32) && ls.all fun r => r.length == wid ls
theorem right_iff (ls : List (List Nat)) : rightB ls = true ↔ (1 ≤ ls.length ∧ ls.length ≤ 32 ∧ 1 ≤ wid ls ∧ wid ls ≤ 32 ∧ ∀ i (h : i < ls.length), ls[i].length = wid ls) := by
  unfold rightB
  simp only [Bool.and_eq_true, decide_eq_true_eq, List.all_eq_true, beq_iff_eq]
  constructor
  · rintro ⟨⟨⟨⟨h1, h2⟩, h3⟩, h4⟩, h5⟩
    exact ⟨h1, h2, h3, h4, fun i hi => h5 _ (List.getElem_mem hi)⟩
  · rintro ⟨h1, h2, h3, h4, h5⟩
    refine ⟨⟨⟨⟨h1, h2⟩, h3⟩, h4⟩, fun r hr => ?_⟩
    obtain ⟨i, hi, rfl⟩ := List.mem_iff_getElem.1 hr
    exact h5 i hi
theorem right_rect {ls : List (List Nat)} (h : rightB ls = true) (hl : ∀ i (h : i < ls.length), ∀ x, x ∈ ls[i] → x ≤ 255) : Rect ls.length (wid ls) ls := by
  obtain ⟨_, _, _, _, h5⟩ := (right_iff ls).1 h
  exact ⟨rfl, h5, hl⟩
theorem wid_tab {n : Nat} (k : Nat) (A : M) (h : 0 < n) : wid (tab n k A) = k := by
  unfold wid
  rw [tab_get k A h, rw1_length]
theorem right_tab {n k : Nat} (A : M) (h1 : 1 ≤ n) (h2 : n ≤ 32) (h3 : 1 ≤ k) (h4 : k ≤ 32) : rightB (tab n k A) = true := by
  have hl := tab_length n k A
  have hw := wid_tab k A (show 0 < n by omega)
  exact (right_iff _).2 ⟨by omega, by omega, by omega, by omega, fun i h => by rw [tab_getElem, rw1_length, hw]⟩
end Go.Proofs.Ytmlemichkeomjaa.Lin

/- Slices of slices of bytes, and of whole numbers, that are only read. -/
set_option linter.unusedVariables false
set_option linter.unusedSimpArgs false
namespace Go.Proofs.Ytmlemichkeomjaa.Base
open Go.RowKit

/-- A row of bytes, of whatever length. -/
structure Row1 (w : World) (A : Option Addr) (l : List Nat) : Prop where
  le : ∀ x, x ∈ l → x ≤ 255
  at_ : l = [] ∨ ∃ b off, A = some ⟨b, off, none⟩ ∧ ∀ j, j < l.length → w.cell? ⟨b, off + j, none⟩ = some (.int .u8 ((l.getD j 0 : Nat) : Int))
theorem Row1.bytes {w : World} {A : Option Addr} {l : List Nat} (h : Row1 w A l) (hl : l.length ≤ 140737488355328) : Bytes w A l := ⟨h.le, hl, h.at_⟩
theorem Row1.of_bytes {w : World} {A : Option Addr} {l : List Nat} (h : Bytes w A l) : Row1 w A l := ⟨h.le, h.at_⟩
theorem Row1.below {w w' : World} {A : Option Addr} {l : List Nat} (h : Row1 w A l) (hb : Below w.heap.size w w') : Row1 w' A l := by
  refine ⟨h.le, ?_⟩
  rcases h.at_ with h1 | ⟨b, off, e, hc⟩
  · exact .inl h1
  · exact .inr ⟨b, off, e, fun j hj => cell_below hb (hc j hj)⟩
theorem Row1.block {w : World} {A : Option Addr} {l : List Nat} (h : Row1 w A l) (h0 : l.length ≠ 0) : ∃ b off, A = some ⟨b, off, none⟩ ∧ ∀ j, j < l.length → w.cell? ⟨b, off + j, none⟩ = some (.int .u8 ((l.getD j 0 : Nat) : Int)) := by
  rcases h.at_ with h1 | h1
  · exact absurd (by rw [h1]; rfl) h0
  · exact h1
theorem Row1.nil (w : World) (A : Option Addr) : Row1 w A [] := ⟨fun _ h => (by cases h), Or.inl rfl⟩
/-- Rows of bytes. -/
structure Rows (w : World) (A : Option Addr) (ls : List (List Nat)) : Prop where
  at_ : ls = [] ∨ ∃ b off, A = some ⟨b, off, none⟩ ∧ ∀ j (h : j < ls.length), ∃ B c, w.cell? ⟨b, off + j, none⟩ = some (.slice B ls[j].length c) ∧ Row1 w B ls[j]
theorem Rows.below {w w' : World} {A : Option Addr} {ls : List (List Nat)} (h : Rows w A ls) (hb : Below w.heap.size w w') : Rows w' A ls := by
  refine ⟨?_⟩
  rcases h.at_ with h1 | ⟨b, off, e, hc⟩
  · exact .inl h1
  · refine .inr ⟨b, off, e, fun j hj => ?_⟩
    obtain ⟨B, c, h1, h2⟩ := hc j hj
    exact ⟨B, c, cell_below hb h1, h2.below hb⟩
theorem Rows.block {w : World} {A : Option Addr} {ls : List (List Nat)} (h : Rows w A ls) (h0 : ls.length ≠ 0) : ∃ b off, A = some ⟨b, off, none⟩ ∧ ∀ j (h : j < ls.length), ∃ B c, w.cell? ⟨b, off + j, none⟩ = some (.slice B ls[j].length c) ∧ Row1 w B ls[j] := by
  rcases h.at_ with h1 | h1
  · exact absurd (by rw [h1]; rfl) h0
  · exact h1
theorem Rows.nil (w : World) (A : Option Addr) : Rows w A [] := ⟨.inl rfl⟩
theorem Rows.le {w : World} {A : Option Addr} {ls : List (List Nat)} (h : Rows w A ls) : ∀ i (hi : i < ls.length), ∀ x, x ∈ ls[i] → x ≤ 255 := by
  intro i hi
  obtain ⟨b, off, _, hc⟩ := h.block (by omega)
  obtain ⟨B, c, _, h2⟩ := hc i hi
  exact h2.le
/-- Whole numbers. -/
structure Ints (w : World) (A : Option Addr) (l : List Int) : Prop where
  le : ∀ x, x ∈ l → -9223372036854775808 ≤ x ∧ x ≤ 9223372036854775807
  at_ : l = [] ∨ ∃ b off, A = some ⟨b, off, none⟩ ∧ ∀ j (h : j < l.length), w.cell? ⟨b, off + j, none⟩ = some (.int .i64 l[j])
theorem Ints.below {w w' : World} {A : Option Addr} {l : List Int} (h : Ints w A l) (hb : Below w.heap.size w w') : Ints w' A l := by
  refine ⟨h.le, ?_⟩
  rcases h.at_ with h1 | ⟨b, off, e, hc⟩
  · exact .inl h1
  · exact .inr ⟨b, off, e, fun j hj => cell_below hb (hc j hj)⟩
theorem Ints.block {w : World} {A : Option Addr} {l : List Int} (h : Ints w A l) (h0 : l.length ≠ 0) : ∃ b off, A = some ⟨b, off, none⟩ ∧ ∀ j (h : j < l.length), w.cell? ⟨b, off + j, none⟩ = some (.int .i64 l[j]) := by
  rcases h.at_ with h1 | h1
  · exact absurd (by rw [h1]; rfl) h0
  · exact h1
theorem Ints.nil (w : World) (A : Option Addr) : Ints w A [] := ⟨fun _ h => (by cases h), .inl rfl⟩
end Go.Proofs.Ytmlemichkeomjaa.Base

/- Rows that are only read: few, stookref02.Right, IsOne. -/
set_option linter.unusedVariables false
set_option linter.unusedSimpArgs false
namespace Go.Proofs.Ytmlemichkeomjaa.RowsW
open Go.RowKit Go.Proofs.Ytmlemichkeomjaa.Base Go.Proofs.Ytmlemichkeomjaa.Lin

/-- Rows few and short. -/
def fewR (ls : List (List Nat)) : Bool := decide (ls.length ≤ 40) && ls.all fun r => decide (r.length ≤ 40)
theorem fewR_yes {ls : List (List Nat)} (h : fewR ls = true) : ls.length ≤ 40 ∧ ∀ j (hj : j < ls.length), ls[j].length ≤ 40 := by
  unfold fewR at h
  simp only [Bool.and_eq_true, decide_eq_true_eq, List.all_eq_true] at h
  exact ⟨h.1, fun j hj => h.2 _ (List.getElem_mem hj)⟩
theorem bt_drewN' {w wr : World} (h : Below w.heap.size w wr) (n : Nat) : Below w.heap.size w (wr.drewN n) := below_drewN h n
theorem rightB_no {ls : List (List Nat)} {k : Nat} (hk : k < ls.length) (h : ls[k].length ≠ wid ls ∨ ls[k].length < 1 ∨ 32 < ls[k].length) : rightB ls = false := by
  cases hb : rightB ls with
  | false => rfl
  | true =>
    obtain ⟨_, _, h3, h4, h5⟩ := (right_iff ls).1 hb
    have := h5 k hk
    omega
end Go.Proofs.Ytmlemichkeomjaa.RowsW

/- Rows that are only read: stookref02.IsOne, Equal, where they say yes. -/
set_option linter.unusedVariables false
set_option linter.unusedSimpArgs false
namespace Go.Proofs.Ytmlemichkeomjaa.RowsW
open Go.RowKit Go.Proofs.Ytmlemichkeomjaa.Base Go.Proofs.Ytmlemichkeomjaa.Lin

end Go.Proofs.Ytmlemichkeomjaa.RowsW

/- A slice of the call's own that is appended to; made a string. -/
set_option linter.unusedVariables false
set_option linter.unusedSimpArgs false
namespace Go.Proofs.Ytmlemichkeomjaa.Base
open Go.RowKit

/-- Bytes as values. -/
def bv (l : List UInt8) : List Value := l.map fun b => Value.int .u8 ((b.toNat : Nat) : Int)
theorem bv_length (l : List UInt8) : (bv l).length = l.length := by simp [bv]
theorem bv_append (l m : List UInt8) : bv (l ++ m) = bv l ++ bv m := by simp [bv]
theorem own_none (w : World) (base e size : Nat) : w.ownsRow base e size (.slice none 0 0) 0 [] := ⟨by simp, .inl ⟨rfl, rfl⟩⟩
theorem own_lo {w : World} {base e size n : Nat} {v : Value} {xs : List Value} (h : w.ownsRow base e size v n xs) (k : Nat) (hk : v.ownBlock = some k) : base ≤ k := by
  rcases h.2 with ⟨rfl, _⟩ | ⟨g, cap, cur, rfl, hb, _⟩
  · simp [Value.ownBlock] at hk
  · have : g = k := by simpa [Value.ownBlock] using hk
    omega

section
variable {P : Program} {ops : Array Oper} {rest : List Oper} {o : Oper} {a : Act} {Q : Exit → Act → World → Prop}
/-- append(v, y): the goal's world has the variadic's box. -/
theorem app_one {w0 W : World} (base : Nat) (hgd : o.guard = none) (s x : Operand) (t e : TypeId) (z : Value) (bytes : Nat)
    (ho : o.op = .call { callee := .builtin .append, args := #[s, x], argTypes := #[t, t] })
    (ht : P.underlying t = some (.slice e)) (hinfo : (P.info? e).map (fun i => (i.zero, i.size, i.bytes)) = some (some z, 1, bytes)) (hz : z.cells.size = 1) (hb0 : 0 < bytes)
    (v : Value) (xs : List Value) (y : Value) (n : Nat) (hn : xs.length = n) (hs : a.eval s = v) (hx : a.eval x = .slice (some ⟨W.heap.size, 0, none⟩) 1 1) (h1 : y.oneCell' = true)
    (HO : W.ownsRow base e 1 v n xs) (HB : Below base w0 W) (hbase : base ≤ W.heap.size) (hl : (n + 1) * bytes ≤ 140737488355328)
    (h : ∀ v1 w1, w1.ownsRow base e 1 v1 (n + 1) (xs ++ [y]) → Below base w0 w1 → W.grownBy w1 v.ownBlock → wpList P ops Q rest (a.put o.dst v1) w1) :
    wpList P ops Q (o :: rest) a (W.alloc (.cells #[y] e)) := by
  obtain ⟨i0, hi, hzz⟩ := Option.map_eq_some_iff.1 hinfo
  simp only [Prod.mk.injEq] at hzz
  obtain ⟨hz0, hz1, hz2⟩ := hzz
  have hlen : n + 1 ≤ 140737488355328 := Nat.le_trans (Nat.le_mul_of_pos_right _ hb0) hl
  refine wpList_append_own_at (W.alloc (.cells #[y] e)) hgd s x t ho base e i0 z 1 bytes ht hi hz0 hz1 hz2 hz (by omega) v n xs hs (HO.alloc _) ⟨W.heap.size, 0, none⟩ 1 1 [y] hx rfl
    (World.news_of_block (cs := #[y]) (t := e) (fr := (0, 0)) (heap_alloc_new W _)) (by simpa using h1) (by simp only [maxLen]; omega) hl (by simp; omega) ?_
  intro v1 w1 hown hg _ _
  exact h v1 w1 hown ((HB.alloc hbase _).grown hg (by simp; omega) (own_lo HO)) (World.grownBy.trans (World.grownBy_alloc W _ _) hg)
/-- .. as one step of a region that draws its order. -/
theorem step_app_one {K : Act → World → Prop} {E : Prop} {w0 W : World} (base : Nat) (hgd : o.guard = none) (s x : Operand) (t e : TypeId) (z : Value) (bytes : Nat)
    (ho : o.op = .call { callee := .builtin .append, args := #[s, x], argTypes := #[t, t] })
    (ht : P.underlying t = some (.slice e)) (hinfo : (P.info? e).map (fun i => (i.zero, i.size, i.bytes)) = some (some z, 1, bytes)) (hz : z.cells.size = 1) (hb0 : 0 < bytes)
    (v : Value) (xs : List Value) (y : Value) (n : Nat) (hn : xs.length = n) (hs : a.eval s = v) (hx : a.eval x = .slice (some ⟨W.heap.size, 0, none⟩) 1 1) (h1 : y.oneCell' = true)
    (HO : W.ownsRow base e 1 v n xs) (HB : Below base w0 W) (hbase : base ≤ W.heap.size) (hl : (n + 1) * bytes ≤ 140737488355328)
    (h : ∀ v1 w1, w1.ownsRow base e 1 v1 (n + 1) (xs ++ [y]) → Below base w0 w1 → W.grownBy w1 v.ownBlock → K (a.put o.dst v1) w1) :
    if Region.wanted o (yielded ops a.tmps) = true then Oper.wp P o a (W.alloc (.cells #[y] e)) K Q else E := by
  have hw : Region.wanted o (yielded ops a.tmps) = true := by simp [Region.wanted, hgd]
  rw [if_pos hw]
  obtain ⟨i0, hi, hzz⟩ := Option.map_eq_some_iff.1 hinfo
  simp only [Prod.mk.injEq] at hzz
  obtain ⟨hz0, hz1, hz2⟩ := hzz
  have hlen : n + 1 ≤ 140737488355328 := Nat.le_trans (Nat.le_mul_of_pos_right _ hb0) hl
  obtain ⟨v1, w1, hr, hown, hg, _⟩ := run_append_own_at (P := P) (W.alloc (.cells #[y] e)) base t o.type e i0 z 1 bytes ht hi hz0 hz1 hz2 hz (by omega) v n xs (HO.alloc _) ⟨W.heap.size, 0, none⟩ 1 1 [y] rfl
    (World.news_of_block (cs := #[y]) (t := e) (fr := (0, 0)) (heap_alloc_new W _)) (by simpa using h1) (by simp only [maxLen]; omega) hl (by simp; omega)
  unfold Oper.wp execOp
  simp only [ho, resolve, invoke, builtin, Sem.run_bind, Sem.run_pure, Result.andThen_ok, List.map_toArray, List.map_cons, List.map_nil, hs, hx, hr]
  exact h v1 w1 hown ((HB.alloc hbase _).grown hg (by simp; omega) (own_lo HO)) (World.grownBy.trans (World.grownBy_alloc W _ _) hg)
end

/-- A conversion in a walk of a region that only reads. -/
theorem quiet_conv {P : Program} {a : Act} {C : World → Prop} {o : Oper} {K : Act → Prop} (src dst : TypeId) (x : Operand) (h : o.op = .convert src dst x) (v s : Value) (hx : a.eval x = v)
    (hr : ∀ w, C w → (convert src dst v).run P w = .ok s w) (hk : K (a.put o.dst s)) : o.quiet P a C K :=
  ⟨_, fun w hw => by
    unfold Oper.quietAt execOp
    simp only [h, hx, Sem.run_bind, hr w hw, Result.andThen_ok, Sem.run_pure]
    exact ⟨rfl, rfl⟩, hk⟩
theorem own_regrown {w wr : World} {B : Nat} {e : TypeId} {size : Nat} {v : Value} {n : Nat} {xs : List Value} (h : wr.ownsRow B e size v n xs) (hp : ∃ p : Regrown, w = Go.Sort.grow (redrawn wr p.d) p.os) : w.ownsRow B e size v n xs := by
  obtain ⟨p, rfl⟩ := hp
  obtain ⟨hl, h0 | ⟨g, cap, cur, hv, hb, hh, r⟩⟩ := h
  · exact ⟨hl, .inl h0⟩
  · have hg : g < wr.heap.size := by
      rcases Nat.lt_or_ge g wr.heap.size with h1 | h1
      · exact h1
      · rw [Array.getElem?_eq_none h1] at hh
        cases hh
    exact ⟨hl, .inr ⟨g, cap, cur, hv, hb, by rw [← hh]; exact Array.getElem?_append_left hg, r⟩⟩

/-- What is owned is read. -/
theorem own_bytes {w : World} {base e n : Nat} {v : Value} {l : List UInt8} (h : w.ownsRow base e 1 v n (bv l)) (hle : n ≤ 140737488355328) : ∃ A c, v = .slice A n c ∧ l.length = n ∧ Bytes w A (l.map UInt8.toNat) := by
  have hl : l.length = n := by have := h.1; rw [bv_length] at this; omega
  have hle2 : ∀ x, x ∈ l.map UInt8.toNat → x ≤ 255 := fun x hx => by
    obtain ⟨b, _, rfl⟩ := List.mem_map.1 hx
    have := b.toNat_lt
    omega
  rcases h.2 with ⟨rfl, h0⟩ | ⟨g, cap, cur, rfl, _⟩
  · have : l = [] := List.eq_nil_of_length_eq_zero (by omega)
    subst this
    exact ⟨none, 0, by rw [h0], by simp; omega, Bytes.nil _ _⟩
  · refine ⟨_, cap, rfl, hl, hle2, by simp; omega, Or.inr ⟨g, 0, rfl, fun j hj => ?_⟩⟩
    have hj' : j < l.length := by simpa using hj
    have hc := h.cells (g := g) rfl j (.int .u8 ((l[j].toNat : Nat) : Int)) (by simp [bv, hj'])
    have ha : (⟨g, 0, none⟩ : Addr).add j = ⟨g, 0 + j, none⟩ := by unfold Addr.add; split <;> simp_all
    rw [ha] at hc
    rw [hc]
    simp [List.getD_eq_getElem?_getD, hj']
/-- .. and made a string. -/
theorem conv_own {P : Program} {src dst e e' : TypeId} (hs : P.underlying src = some (.slice e)) (he : P.underlying e = some (.int .u8)) (hd : P.underlying dst = some .string) {w : World} {base n : Nat} {v : Value} {l : List UInt8}
    (h : w.ownsRow base e' 1 v n (bv l)) (hle : n ≤ 140737488355328) : (convert src dst v).run P w = .ok (.string (str l)) w := by
  obtain ⟨A, c, rfl, hl, hB⟩ := own_bytes h hle
  rw [conv_str hs he hd w A _ n c hB (by simpa using hl), List.map_map]
  have : (UInt8.ofNat ∘ UInt8.toNat) = id := by funext b; simp
  rw [this, List.map_id]
end Go.Proofs.Ytmlemichkeomjaa.Base

/- A slice of strings that is only read. -/
set_option linter.unusedVariables false
set_option linter.unusedSimpArgs false
namespace Go.Proofs.Ytmlemichkeomjaa.Base
open Go.RowKit Go.ChangeShapes

/-- The strings of a slice. -/
structure Strs (w : World) (A : Option Addr) (n : Nat) (ss : List ByteArray) : Prop where
  len : ss.length = n
  at_ : n = 0 ∨ ∃ b off, A = some ⟨b, off, none⟩ ∧ ∀ j (h : j < ss.length), w.cell? ⟨b, off + j, none⟩ = some (.string ss[j])
theorem Strs.below {w w' : World} {A : Option Addr} {n : Nat} {ss : List ByteArray} (h : Strs w A n ss) (hb : Below w.heap.size w w') : Strs w' A n ss := by
  refine ⟨h.len, ?_⟩
  rcases h.at_ with h1 | ⟨b, off, e, hc⟩
  · exact .inl h1
  · exact .inr ⟨b, off, e, fun j hj => cell_below hb (hc j hj)⟩
theorem Strs.nil (w : World) (A : Option Addr) : Strs w A 0 [] := ⟨rfl, .inl rfl⟩
/-- Where it lies. -/
theorem Strs.block {w : World} {A : Option Addr} {n : Nat} {ss : List ByteArray} (h : Strs w A n ss) (h0 : n ≠ 0) : ∃ b off, A = some ⟨b, off, none⟩ ∧ ∀ j (h : j < ss.length), w.cell? ⟨b, off + j, none⟩ = some (.string ss[j]) := by
  rcases h.at_ with h1 | h1
  · exact absurd h1 h0
  · exact h1
/-- So many bytes at most. -/
def total : List ByteArray → Nat
  | [] => 0
  | s :: l => s.size + total l
theorem total_append (l m : List ByteArray) : total (l ++ m) = total l + total m := by
  induction l with
  | nil => show total m = 0 + total m; omega
  | cons s l ih => show s.size + total (l ++ m) = s.size + total l + total m; omega
theorem total_get {l : List ByteArray} {j : Nat} (h : j < l.length) : l[j].size ≤ total l := by
  induction l generalizing j with
  | nil => simp at h
  | cons s l ih =>
    cases j with
    | zero => show s.size ≤ s.size + total l; omega
    | succ j =>
      have hj : j < l.length := by simpa using h
      have := ih hj
      show l[j].size ≤ s.size + total l
      omega
theorem take_snoc_list {α : Type} (l : List α) (k : Nat) (h : k < l.length) : l.take (k + 1) = l.take k ++ [l[k]] := List.take_succ_eq_append_getElem h
theorem total_take_le (l : List ByteArray) (k : Nat) : total (l.take k) ≤ total l := by
  have := total_append (l.take k) (l.drop k)
  rw [List.take_append_drop] at this
  omega
end Go.Proofs.Ytmlemichkeomjaa.Base

