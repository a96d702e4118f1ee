/- Words that the walks share: what a call may change in memory, and a scope in which the run jumps back to one label. -/
import Derived.WalkKit
import Derived.KernelRfl
import Derived.Deep.QuietTactic
import Derived.BigQuiet
import Derived.WalkSpells
import Derived.WalkLawsBesides
import Derived.Lib.Hide
import Derived.Deep.DeepCutAuto
import Derived.Deep.RegionWith
import Derived.Deep.RegionLaw
import Derived.Deep.RegionHeld3
import Derived.Lib.QuietBelow
set_option linter.unusedVariables false
set_option linter.unusedSimpArgs false
namespace Go.Proofs.Ytpologlcfohjeaa.Base
open Go.RowKit

theorem cell_below {w w1 : World} (h : Below w.heap.size w w1) {a : Addr} {v : Value} (hc : w.cell? a = some v) : w1.cell? a = some v :=
  (h.cell (World.block_lt_of_cell? w a hc)).trans hc
theorem frozen_below {w w1 : World} (h : Below w.heap.size w w1) {a : Addr} {v : Value} (hc : w.cell? a = some v) : w1.frozen? a = w.frozen? a :=
  h.frozen (World.block_lt_of_cell? w a hc)
theorem below_trans {w w1 w2 : World} (h : Below w.heap.size w w1) (k : Below w1.heap.size w1 w2) : Below w.heap.size w w2 := h.trans (k.mono h.size)
theorem below_drewN {B : Nat} {w W : World} (h : Below B w W) (n : Nat) : Below B w (W.drewN n) := ⟨h.os, h.tape, h.output, h.size, h.block⟩

theorem below_of_drew {w w1 : World} (h : Below w.drew.heap.size w.drew w1) : Below w.heap.size w w1 := ⟨h.os, h.tape, h.output, h.size, h.block⟩
theorem below_of_regrown {w w' : World} (h : ∃ p : Regrown, w' = Go.Sort.grow (redrawn w p.d) p.os) : Below w.heap.size w w' := by
  obtain ⟨p, rfl⟩ := h
  exact below_regrown w p.d p.os
theorem bt {B : Nat} {w W W' : World} (h : Below B w W) (hB : B ≤ W.heap.size) (hd : Below W.heap.size W W') : Below B w W' := h.trans (hd.mono hB)
theorem bt_drew {B : Nat} {w W W' : World} (h : Below B w W) (hB : B ≤ W.heap.size) (hd : Below W.drew.heap.size W.drew W') : Below B w W' := h.trans ((below_of_drew hd).mono hB)
theorem bt_drewN {B : Nat} {w W W' : World} {n : Nat} (h : Below B w W) (hB : B ≤ W.heap.size) (hd : Below (W.drewN n).heap.size (W.drewN n) W') : Below B w W' :=
  h.trans (⟨hd.os, hd.tape, hd.output, hd.size, fun k hk => hd.block k (Nat.lt_of_lt_of_le hk hB)⟩)
/-- Some orders were drawn, and nothing else happened. -/
def Drawn (w w' : World) : Prop := ∃ n, w' = w.drewN n
theorem Drawn.refl (w : World) : Drawn w w := ⟨0, rfl⟩
theorem Drawn.trans {a b c : World} (h : Drawn a b) (k : Drawn b c) : Drawn a c := by
  obtain ⟨n, rfl⟩ := h
  obtain ⟨m, rfl⟩ := k
  exact ⟨n + m, World.drewN_drewN ..⟩
theorem Drawn.step {w : World} (n : Nat) : Drawn w (w.drewN n) := ⟨n, rfl⟩
theorem Drawn.below {B : Nat} {w w' : World} (h : Drawn w w') : Below B w w' := by
  obtain ⟨n, rfl⟩ := h
  exact below_drewN (Below.refl _ _) n

/-- Of the old blocks only those from lo on and below hi may have turned. -/
structure Only (lo hi : Nat) (w w' : World) : Prop where
  os : w'.os = w.os
  tape : w'.tape = w.tape
  output : w'.output = w.output
  size : w.heap.size ≤ w'.heap.size
  block : ∀ k, k < w.heap.size → (k < lo ∨ hi ≤ k) → w'.heap[k]? = w.heap[k]?
theorem Only.refl (lo hi : Nat) (w : World) : Only lo hi w w := ⟨rfl, rfl, rfl, Nat.le_refl _, fun _ _ _ => rfl⟩
theorem Only.trans {lo hi : Nat} {a b c : World} (h : Only lo hi a b) (k : Only lo hi b c) : Only lo hi a c :=
  ⟨k.os.trans h.os, k.tape.trans h.tape, k.output.trans h.output, Nat.le_trans h.size k.size, fun i hi' hx => (k.block i (by have := h.size; omega) hx).trans (h.block i hi' hx)⟩
theorem Only.of_below {lo hi : Nat} {w w' : World} (h : Below w.heap.size w w') : Only lo hi w w' := ⟨h.os, h.tape, h.output, h.size, fun k hk _ => h.block k hk⟩
theorem Only.wide {lo hi lo' hi' : Nat} {w w' : World} (h : Only lo hi w w') (h1 : lo' ≤ lo) (h2 : hi ≤ hi') : Only lo' hi' w w' :=
  ⟨h.os, h.tape, h.output, h.size, fun k hk hx => h.block k hk (by omega)⟩
theorem Only.below {lo hi B : Nat} {w w' : World} (h : Only lo hi w w') (hB : B ≤ lo) (hB' : B ≤ w.heap.size) : Below B w w' :=
  ⟨h.os, h.tape, h.output, h.size, fun k hk => h.block k (by omega) (by omega)⟩
theorem Only.drewN {lo hi : Nat} {a w : World} (h : Only lo hi a w) (n : Nat) : Only lo hi a (w.drewN n) := ⟨h.os, h.tape, h.output, h.size, h.block⟩
theorem Only.setCell {lo hi : Nat} {a w : World} (h : Only lo hi a w) {p : Addr} (h1 : lo ≤ p.block) (h2 : p.block < hi) (u : Value) : Only lo hi a (w.setCell p u) :=
  h.trans ⟨rfl, rfl, rfl, by simp [World.setCell], fun k _ hx => Below.heap_setCell _ _ _ _ (by omega)⟩
theorem Only.alloc {lo hi : Nat} {a w : World} (h : Only lo hi a w) (o : Obj) : Only lo hi a (w.alloc o) :=
  h.trans ⟨rfl, rfl, rfl, by simp, fun k hk _ => Below.heap_alloc _ _ _ hk⟩
theorem Only.cell {lo hi : Nat} {w w' : World} (h : Only lo hi w w') {p : Addr} (hp : p.block < w.heap.size) (hx : p.block < lo ∨ hi ≤ p.block) : w'.cell? p = w.cell? p :=
  World.cell?_of_block (w := w) (h.block p.block hp hx)
theorem Only.frozen {lo hi : Nat} {w w' : World} (h : Only lo hi w w') {p : Addr} (hp : p.block < w.heap.size) (hx : p.block < lo ∨ hi ≤ p.block) : w'.frozen? p = w.frozen? p :=
  World.frozen?_of_block (w := w) (h.block p.block hp hx)

/-- A scope in which the run jumps back to one label: what holds there each time (J), and a measure. -/
theorem wp_scope_loop {P : Program} {a : Act} {w : World} {Q : Exit → Act → World → Prop} {c body : Code} (l : Nat) (J : Act → World → Prop) (μ : Act → World → Nat) (hf : findLabel c l = some (.seq .skip body))
    (first : (∀ a w, J a w → body.wp P (Exit.jump l J Q) a w) → c.wp P (Exit.jump l J Q) a w)
    (pass : ∀ a w, J a w → body.wp P (Exit.jump l (fun a' w' => J a' w' ∧ μ a' w' < μ a w) Q) a w) : (Code.scope c).wp P Q a w := by
  refine wp_scope_jumps l J μ hf (first fun a w hJ => ?_) (fun a w hJ => ?_)
  · refine Code.wp_mono (fun e a' w' q => ?_) (pass a w hJ)
    cases e <;> first | exact q | exact ⟨q.1, q.2.1⟩
  · refine wp_seq (wp_skip ?_)
    exact pass a w hJ

/-- A cell behind a store into one of the cells. -/
theorem cell_set {w : World} {b i : Nat} {u : Value} (h : w.cell? ⟨b, i, none⟩ = some u) (v : Value) (j : Nat) :
    (w.setCell ⟨b, i, none⟩ v).cell? ⟨b, j, none⟩ = if j = i then some v else w.cell? ⟨b, j, none⟩ := by
  by_cases e : j = i
  · subst e; rw [if_pos rfl]; exact World.cell?_setCell_same _ _ _ h
  · rw [if_neg e]
    exact World.cell?_setCell_other _ _ _ _ (fun h => e (by injection h with _ h; exact h.symm))
theorem cell_drew (w : World) (a : Addr) : w.drew.cell? a = w.cell? a := rfl
theorem frozen_drew (w : World) (a : Addr) : w.drew.frozen? a = w.frozen? a := rfl
theorem i64_xor_nat (a b : Nat) (ha : a < 2 ^ 62) (hb : b < 2 ^ 62) : bits .xor .i64 (a : Int) (b : Int) = ((a ^^^ b : Nat) : Int) := by
  have hx : a ^^^ b < 2 ^ 62 := Nat.xor_lt_two_pow ha hb
  show IntKind.i64.wrap ((BitVec.ofInt 64 (a : Int) ^^^ BitVec.ofInt 64 (b : Int)).toNat : Int) = _
  rw [BitVec.toNat_xor, ofInt_u64 a (by omega), ofInt_u64 b (by omega), IntKind.wrap_i64]
  omega

/-- Bytes that are read, at a slice's address. -/
structure Bytes (w : World) (A : Option Addr) (l : List Nat) : Prop where
  le : ∀ x, x ∈ l → x ≤ 255
  len : l.length ≤ 140737488355328
  at_ : l = [] ∨ ∃ b off, A = some ⟨b, off, none⟩ ∧ ∀ j, j < l.length → w.cell? ⟨b, off + j, none⟩ = some (.int .u8 ((l.getD j 0 : Nat) : Int))
theorem Bytes.below {w w' : World} {A : Option Addr} {l : List Nat} (h : Bytes w A l) (hb : Below w.heap.size w w') : Bytes w' A l := by
  refine ⟨h.le, h.len, ?_⟩
  rcases h.at_ with h1 | ⟨b, off, e, hc⟩
  · exact .inl h1
  · exact .inr ⟨b, off, e, fun j hj => cell_below hb (hc j hj)⟩
theorem Bytes.getD_le {w : World} {A : Option Addr} {l : List Nat} (h : Bytes w A l) (j : Nat) : l.getD j 0 ≤ 255 := by
  by_cases hj : j < l.length
  · rw [List.getD_eq_getElem?_getD, List.getElem?_eq_getElem hj]
    exact h.le _ (List.getElem_mem hj)
  · rw [List.getD_eq_getElem?_getD, List.getElem?_eq_none (by omega)]
    exact Nat.zero_le _
theorem Bytes.nil (w : World) (A : Option Addr) : Bytes w A [] := ⟨fun _ h => (by cases h), (by simp), Or.inl rfl⟩

/-- A list of bytes as a string. -/
def str (l : List UInt8) : ByteArray := ⟨l.toArray⟩
theorem str_list (l : List UInt8) : (str l).data.toList = l := rfl
theorem list_size (s : ByteArray) : s.data.toList.length = s.size := by rw [Array.length_toList]; rfl
theorem str_size (l : List UInt8) : (str l).size = l.length := by rw [← list_size, str_list]
theorem list_str (s : ByteArray) : str s.data.toList = s := rfl
theorem str_inj {l m : List UInt8} (h : str l = str m) : l = m := by rw [← str_list l, h, str_list]

theorem str_append (s t : ByteArray) : s ++ t = str (s.data.toList ++ t.data.toList) := by
  apply ByteArray.ext
  rw [ByteArray.data_append]
  simp [str]
theorem extract_str (s : ByteArray) (i j : Nat) : s.extract i j = str ((s.data.toList.take j).drop i) := by
  apply ByteArray.ext
  apply Array.ext'
  rw [ByteArray.data_extract]
  simp [str, List.drop_take]
theorem extract_le {s : ByteArray} {B : Nat} (i j : Nat) (h : s.size ≤ B) : (s.extract i j).size ≤ B := by
  rw [ByteArray.size_extract]; omega
theorem str_eq {a b : ByteArray} (h : a.data.toList = b.data.toList) : (a.toList == b.toList) = true := by
  rw [ByteArray.toList_eq, ByteArray.toList_eq, h]; simp
theorem str_ne {a b : ByteArray} (h : ¬ a.data.toList = b.data.toList) : (a.toList == b.toList) = false := by
  rw [ByteArray.toList_eq, ByteArray.toList_eq]; exact beq_eq_false_iff_ne.2 h
/-- A slice of bytes made a string. -/
theorem conv_str {P : Program} {src dst e : TypeId} (hs : P.underlying src = some (.slice e)) (he : P.underlying e = some (.int .u8)) (hd : P.underlying dst = some .string) (w : World) (A : Option Addr) (l : List Nat) (n c : Nat) (hB : Bytes w A l) (hn : l.length = n) :
    (convert src dst (.slice A n c)).run P w = .ok (.string (str (l.map UInt8.ofNat))) w := by
  rcases hB.at_ with h | ⟨b, off, rfl, hc⟩
  · subst h
    subst hn
    cases A with
    | none => exact run_convert_bytes_nil w src e hs he _ _ dst hd
    | some ad =>
      rw [run_convert_bytes_string w src dst e _ _ c hs he hd]
      have := run_bytesToString (P := P) w ad 0 c [] (by
        have := run_loadCells_list (P := P) w ad [] (fun j v hj => by simp at hj)
        simpa using this)
      have e : str (([] : List Nat).map UInt8.ofNat) = ByteArray.empty := rfl
      rw [e]
      simpa using this
  · subst hn
    have := run_convert_bytes_arg (P := P) w src e hs he b off l.length c (l.map fun x : Nat => (x : Int)) (by simp) (fun i hi => by
      rw [hc i hi]
      simp [List.getD_eq_getElem?_getD, List.getElem?_eq_getElem hi]) dst hd
    rw [this]
    simp only [strOfNums, str, List.map_map]
    rfl

theorem int_ne {a b : Int} (h : a ≠ b) : (a == b) = false := beq_eq_false_iff_ne.2 h
theorem int_eq {a b : Int} (h : a = b) : (a == b) = true := beq_iff_eq.2 h
theorem int_bne {a b : Int} (h : a ≠ b) : (a != b) = true := by rw [bne_iff_ne]; exact h
theorem int_beq {a b : Int} (h : a = b) : (a != b) = false := by rw [h]; simp
end Go.Proofs.Ytpologlcfohjeaa.Base
