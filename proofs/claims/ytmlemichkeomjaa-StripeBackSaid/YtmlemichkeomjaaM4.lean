/- Texts of this claim in one. -/
import Derived.Test.YtmlemichkeomjaaM3
import Derived.Lib.JoinLaws
/- Texts as tables of bytes; codes of which any few rows make all; plain. -/
set_option linter.unusedVariables false
set_option linter.unusedSimpArgs false
namespace Go.Proofs.Ytmlemichkeomjaa.CodP
open Go.Proofs.Ytmlemichkeomjaa Go.Proofs.Ytmlemichkeomjaa.Base Go.Proofs.Ytmlemichkeomjaa.Lin Go.Proofs.Ytmlemichkeomjaa.RowsW

/-- The bytes of texts. -/
def txb (s : ByteArray) (p : Nat) : Nat := (s.data.toList.getD p 0).toNat
theorem txb_le (s : ByteArray) (p : Nat) : txb s p ≤ 255 := by
  unfold txb
  have := (s.data.toList.getD p 0).toNat_lt
  omega
def tx (ss : List ByteArray) : M := fun i p => toF (txb (ss.getD i ByteArray.empty) p)
def br (L : Nat) (f : Nat → F) : List UInt8 := (List.range L).map fun p => UInt8.ofNat (f p).v
def strOf (L : Nat) (f : Nat → F) : ByteArray := str (br L f)
def txs (m L : Nat) (X : M) : List ByteArray := (List.range m).map fun i => strOf L (X i)
theorem br_length (L : Nat) (f : Nat → F) : (br L f).length = L := by simp [br]
theorem br_succ (L : Nat) (f : Nat → F) : br (L + 1) f = br L f ++ [UInt8.ofNat (f L).v] := by
  unfold br
  rw [List.range_succ]
  simp
theorem ofNat_v (a : F) : (UInt8.ofNat a.v).toNat = a.v := by
  have := a.le
  exact UInt8.toNat_ofNat_of_lt' (show a.v < 256 by omega)
theorem br_congr {L : Nat} {f g : Nat → F} (h : ∀ p, p < L → f p = g p) : br L f = br L g :=
  List.map_congr_left fun p hp => by rw [h p (List.mem_range.1 hp)]
theorem strOf_size (L : Nat) (f : Nat → F) : (strOf L f).size = L := by rw [strOf, str_size, br_length]
theorem strOf_congr {L : Nat} {f g : Nat → F} (h : ∀ p, p < L → f p = g p) : strOf L f = strOf L g := by rw [strOf, strOf, br_congr h]
theorem txs_length (m L : Nat) (X : M) : (txs m L X).length = m := by simp [txs]
theorem txs_getElem (m L : Nat) (X : M) (i : Nat) (h : i < (txs m L X).length) : (txs m L X)[i] = strOf L (X i) := by simp [txs]
theorem txs_succ (m L : Nat) (X : M) : txs (m + 1) L X = txs m L X ++ [strOf L (X m)] := by
  unfold txs
  rw [List.range_succ]
  simp
theorem txs_congr {m L : Nat} {X Y : M} (h : Eqv m L X Y) : txs m L X = txs m L Y :=
  List.map_congr_left fun i hi => strOf_congr fun p hp => h i (List.mem_range.1 hi) p hp
theorem txb_strOf (L : Nat) (f : Nat → F) (p : Nat) (h : p < L) : txb (strOf L f) p = (f p).v := by
  unfold txb strOf
  rw [str_list, List.getD_eq_getElem?_getD, br, List.getElem?_map, List.getElem?_range h]
  exact ofNat_v _
theorem tx_txs (m L : Nat) (X : M) : Eqv m L (tx (txs m L X)) X := fun i hi p hp => by
  unfold tx
  have hl : i < (txs m L X).length := by rw [txs_length]; exact hi
  rw [List.getD_eq_getElem?_getD, List.getElem?_eq_getElem hl, Option.getD_some, txs_getElem, txb_strOf L _ p hp, toF_of]
theorem tx_at {ss : List ByteArray} {i : Nat} (h : i < ss.length) (p : Nat) : (tx ss i p).v = txb ss[i] p := by
  unfold tx
  rw [List.getD_eq_getElem?_getD, List.getElem?_eq_getElem h, Option.getD_some]
  exact toF_v (txb_le _ _)
theorem strOf_tx {ss : List ByteArray} {L i : Nat} (h : i < ss.length) (hs : ss[i].size = L) : strOf L (tx ss i) = ss[i] := by
  have : br L (tx ss i) = ss[i].data.toList := by
    apply List.ext_getElem
    · rw [br_length, list_size, hs]
    · intro p h1 h2
      have h3 : (tx ss i p).v = (ss[i].data.toList[p]).toNat := by
        rw [tx_at h, txb, List.getD_eq_getElem?_getD, List.getElem?_eq_getElem h2]
        rfl
      simp only [br, List.getElem_map, List.getElem_range]
      rw [h3]
      simp
  rw [strOf, this, list_str]
theorem txs_tx {ss : List ByteArray} {L : Nat} (h : ∀ i (h : i < ss.length), ss[i].size = L) : txs ss.length L (tx ss) = ss := by
  apply List.ext_getElem
  · rw [txs_length]
  · intro i h1 h2
    rw [txs_getElem, strOf_tx h2 (h i h2)]
theorem txs_size (m L : Nat) (X : M) : ∀ i (h : i < (txs m L X).length), (txs m L X)[i].size = L := fun i h => by rw [txs_getElem, strOf_size]
/-- Rows that were picked. -/
def selT (G : M) (l : List Int) : M := fun i j => G ((l.getD i 0).toNat) j
theorem selT_pick (G : M) (n k : Nat) (l : List Int) (h : ∀ i (h : i < l.length), 0 ≤ l[i] ∧ l[i] < n) : pickL (tab n k G) l = tab l.length k (selT G l) := by
  apply List.ext_getElem
  · rw [pickL_length, tab_length]
  · intro i h1 h2
    have hi : i < l.length := by rw [pickL_length] at h1; exact h1
    have hr := h i hi
    have e1 : (pickL (tab n k G) l)[i] = (tab n k G).getD (l[i].toNat) [] := by simp [pickL]
    rw [e1, tab_get k G (by omega), tab_getElem]
    refine rw1_congr fun j hj => ?_
    unfold selT
    rw [List.getD_eq_getElem?_getD, List.getElem?_eq_getElem hi, Option.getD_some]
theorem selT_at {G : M} {l : List Int} {i m : Nat} (h : i < l.length) (e : l[i] = (m : Int)) : selT G l i = G m := by
  funext j
  unfold selT
  rw [List.getD_eq_getElem?_getD, List.getElem?_eq_getElem h, Option.getD_some, e, Int.toNat_natCast]
/-- Numbers within reach, none twice. -/
structure Apart (n : Nat) (l : List Int) : Prop where
  rng : ∀ i (h : i < l.length), 0 ≤ l[i] ∧ l[i] < n
  ne : ∀ i (h : i < l.length), ∀ j (hj : j < i), l[i] ≠ l[j]'(by omega)
/-- A code of k of n. -/
structure CodeG (k n : Nat) (G : M) : Prop where
  gen : ∃ U : M, Eqv n k G (mm k powT U) ∧ Eqv k k (mm k U powT) dl ∧ Eqv k k (mm k powT U) dl
  one : Eqv k k G dl
  free : ∀ l : List Int, l.length = k → Apart n l → Free k (selT G l)
theorem CodeG.of_powers {k n : Nat} (hn : n ≤ 32) (hk : k ≤ n) {U : M} (h1 : Eqv k k (mm k U powT) dl) (h2 : Eqv k k (mm k powT U) dl) : CodeG k n (mm k powT U) := by
  refine ⟨⟨U, Eqv.refl _ _ _, h1, h2⟩, h2, fun l hl ha => ?_⟩
  have hU : Free k U := free_of_left (B := powT) h2
  have hP := powL_free l n hn ha.rng ha.ne
  rw [hl] at hP
  exact free_mul (A := powL l) hP hU
theorem CodeG.single {n : Nat} {G : M} (h : CodeG 1 n G) : ∀ i, i < n → G i 0 = 1 := fun i hi => by
  obtain ⟨U, h1, h2, _⟩ := h.gen
  have e0 : ∀ i, powT i 0 = 1 := fun i => rfl
  have e1 : U 0 0 = 1 := by
    have h3 : (0 : F) + U 0 0 * powT 0 0 = dl 0 0 := h2 0 (by omega) 0 (by omega)
    rw [e0, zero_add, mul_one, dl_self] at h3
    exact h3
  rw [h1 i hi 0 (by omega)]
  show (0 : F) + powT i 0 * U 0 0 = 1
  rw [e0, e1, zero_add, mul_one]
/-- The numbers below a limit. -/
def upL (k : Nat) : List Int := (List.range k).map fun i : Nat => (i : Int)
theorem upL_length (k : Nat) : (upL k).length = k := by simp [upL]
theorem upL_getElem (k i : Nat) (h : i < (upL k).length) : (upL k)[i] = (i : Int) := by simp [upL]
theorem upL_apart {k n : Nat} (h : k ≤ n) : Apart n (upL k) := by
  refine ⟨fun i hi => ?_, fun i hi j hj => ?_⟩
  · rw [upL_getElem]; rw [upL_length] at hi; omega
  · rw [upL_getElem, upL_getElem]; omega
theorem upL_succ (k : Nat) : upL (k + 1) = upL k ++ [(k : Int)] := by
  unfold upL
  rw [List.range_succ]
  simp
theorem selT_up (G : M) (k : Nat) (q : Nat) : Eqv k q (selT G (upL k)) G := fun i hi j _ => by
  rw [selT_at (m := i) (by rw [upL_length]; exact hi) (upL_getElem k i (by rw [upL_length]; exact hi))]
end Go.Proofs.Ytmlemichkeomjaa.CodP

/- coder.column and coder.even walked. -/
set_option linter.unusedVariables false
set_option linter.unusedSimpArgs false
namespace Go.Proofs.Ytmlemichkeomjaa.CodW
open Go.RowKit Go.Proofs.Ytmlemichkeomjaa.Base Go.Proofs.Ytmlemichkeomjaa.GfP Go.Proofs.Ytmlemichkeomjaa.GfW Go.Proofs.Ytmlemichkeomjaa.Lin Go.Proofs.Ytmlemichkeomjaa.RowsW Go.Proofs.Ytmlemichkeomjaa.CodP

/-- A column of texts. -/
def colT (ss : List ByteArray) (p : Nat) : List Nat := ss.map fun s => txb s p
theorem colT_length (ss : List ByteArray) (p : Nat) : (colT ss p).length = ss.length := by simp [colT]
theorem colT_take (ss : List ByteArray) (p k : Nat) (h : k < ss.length) : lv (colT (ss.take (k + 1)) p) = lv (colT (ss.take k) p) ++ [.int .u8 ((txb ss[k] p : Nat) : Int)] := by
  unfold colT lv
  rw [List.take_succ_eq_append_getElem h, List.map_append, List.map_append]
  rfl
theorem colT_le (ss : List ByteArray) (p : Nat) : ∀ x, x ∈ colT ss p → x ≤ 255 := fun x hx => by
  obtain ⟨s, _, rfl⟩ := List.mem_map.1 hx
  exact txb_le s p
theorem txb_get {s : ByteArray} {p : Nat} (h : p < s.size) : txb s p = s[p].toNat := by
  unfold txb
  rw [List.getD_eq_getElem?_getD, List.getElem?_eq_getElem (by rw [list_size]; exact h)]
  rfl
set_option maxRecDepth 100000 in
set_option maxHeartbeats 1000000 in
theorem colT_any (A : Option Addr) (n c : Nat) (ss : List ByteArray) (p : Nat) (w : World) (hS : Strs w A n ss) (hn : n ≤ 1000) (hp : p ≤ 1000000) (hq : ∀ i (hi : i < ss.length), p < ss[i].size) :
    Calls Try.prog 135 #[.slice A n c, .int .i64 (p : Nat)] w fun e w' => ∃ A' c', e = .returned (.slice A' n c') ∧ Bytes w' A' (colT ss p) ∧ (∀ b off s, A' = some ⟨b, off, s⟩ → w.heap.size ≤ b ∧ b < w'.heap.size) ∧ Below w.heap.size w w' := by
  have HQ := Lib.hid hq
  have HL := Lib.hid hS.len
  clear hq
  have hmk := fun W => run_make_room (P := Try.prog) 70 5 (.int .u8 0) 1 Try.underlying70 info_byte rfl .i64 .i64 n (by omega) (by omega) W
  have HO0 : (w.alloc (.cells (madeCells #[.int .u8 0] n) 5)).ownsRow w.heap.size 5 1 (.slice (some ⟨w.heap.size, 0, none⟩) 0 n) 0 (lv (colT (ss.take 0) p)) := World.ownsRow_made w _ n (Nat.le_refl _) (by unfold maxLen; omega) (by simp [madeCells])
  have HB0 : Below w.heap.size w (w.alloc (.cells (madeCells #[.int .u8 0] n) 5)) := (Below.refl _ _).alloc (Nat.le_refl _) _
  go_enter Try.func135, Try.ntmps135
  go_wp2
  go_loopw [5, 7, 13] (fun d _ i wr => ∃ k : Nat, k ≤ n ∧ i = .int .i64 k ∧ wr.ownsRow w.heap.size 5 1 d k (lv (colT (ss.take k) p)) ∧ Below w.heap.size w wr) (fun _ _ i _ => n - (intOf i).toNat)
  case atStart => exact ⟨0, by omega, rfl, HO0, HB0⟩
  case round =>
    obtain ⟨k, hk, rfl, HO, HB⟩ := hrel
    by_cases hlt : k < n
    · have hkl : k < ss.length := by have := HL.out; omega
      obtain ⟨b, off, rfl, hc⟩ := (hS.below HB).block (by omega)
      have hck := hc k hkl
      have hps := HQ.out k hkl
      have HT := Lib.hid (colT_take ss p k hkl)
      have HX := Lib.hid (txb_get hps)
      clear hc
      generalize ss[k] = s at hck hps HT HX
      go_wp2_with (at_builtin; refine app_one w.heap.size rfl (.tmp 17) (.tmp 21) 70 5 (.int .u8 0) 1 rfl Try.underlying70 info_byte rfl (by omega) _ (lv (colT (ss.take k) p)) _ k (by rw [lv_length, colT_length, List.length_take]; omega) rfl rfl rfl HO HB HB.size (by omega) ?_; intro v1 w1 HO2 HB2 hg2)
      go_roundw
      case rel => exact ⟨k + 1, by omega, by go_num, by rw [HT.out, HX.out]; exact HO2, HB2⟩
      case measure => simp [intOf]; omega
    · obtain rfl : k = n := by omega
      rw [List.take_of_length_le (by have := HL.out; omega)] at HO
      have hlo := HO.lt
      obtain ⟨A', c', rfl, hl, hr⟩ := own_row1 HO (colT_le ss p)
      have hfar : ∀ b off s, A' = some ⟨b, off, s⟩ → w.heap.size ≤ b ∧ b < wr.heap.size := fun b off s e => by
        subst e
        exact hlo b rfl
      have HF := Lib.hid hfar
      clear hlo hfar hl
      go_wp2
      go_ret
      exact ⟨A', c', rfl, hr.bytes (by rw [colT_length, HL.out]; omega), HF.out, HB⟩
/-- Texts all as long. -/
def evenB (ss : List ByteArray) : Bool := ss.all fun s => s.size == (ss.getD 0 ByteArray.empty).size
theorem even_iff {ss : List ByteArray} {L : Nat} (hL : (ss.getD 0 ByteArray.empty).size = L) : evenB ss = true ↔ ∀ i (h : i < ss.length), ss[i].size = L := by
  unfold evenB
  rw [hL]
  simp only [List.all_eq_true, beq_iff_eq]
  exact ⟨fun h i hi => h _ (List.getElem_mem hi), fun h s hs => by obtain ⟨i, hi, rfl⟩ := List.mem_iff_getElem.1 hs; exact h i hi⟩
set_option maxRecDepth 100000 in
set_option maxHeartbeats 1000000 in
theorem even_any (A : Option Addr) (n c : Nat) (ss : List ByteArray) (w : World) (hS : Strs w A n ss) (hn : n ≤ 140737488355328) :
    Calls Try.prog 107 #[.slice A n c] w fun e w' => e = .returned (.bool (evenB ss)) ∧ w = w' := by
  obtain ⟨L, hL⟩ : ∃ L, (ss.getD 0 ByteArray.empty).size = L := ⟨_, rfl⟩
  have HI := Lib.hid (even_iff hL)
  have HL := Lib.hid hS.len
  obtain ⟨R, hR⟩ : ∃ R, evenB ss = R := ⟨_, rfl⟩
  rw [hR] at HI ⊢
  have HLL := Lib.hid hL
  clear hR hL
  go_enter Try.func107, Try.ntmps107
  go_wp2
  go_loop [4, 7] (fun _ i => ∃ k : Nat, k ≤ n ∧ i = .int .i64 k ∧ ∀ j (hj : j < ss.length), j < k → ss[j].size = L) (fun _ i => n - (intOf i).toNat)
  case atStart => exact ⟨0, by omega, rfl, fun j _ h => by omega⟩
  case round =>
    obtain ⟨k, hk, rfl, hall⟩ := hrel
    have HA := Lib.hid hall
    clear hall
    by_cases hlt : k < n
    · have hkl : k < ss.length := by have := HL.out; omega
      obtain ⟨b, off, rfl, hc⟩ := hS.block (by omega)
      have hck := hc k hkl
      have h0c := hc 0 (by omega)
      rw [Nat.add_zero] at h0c
      have z0 : (0 : Int) < n := by omega
      have HL0 := Lib.hid (show ss[0].size = L by rw [← HLL.out, List.getD_eq_getElem?_getD, List.getElem?_eq_getElem (by omega)]; rfl)
      obtain ⟨s, hs⟩ : ∃ s, s = ss[k] := ⟨_, rfl⟩
      obtain ⟨s0, hs0⟩ : ∃ s, s = ss[0] := ⟨_, rfl⟩
      rw [← hs] at hck
      rw [← hs0] at h0c HL0
      have HSK := Lib.hid hs
      clear hc hs hs0
      by_cases he : s.size = s0.size
      · have e1 : (((s.size : Nat) : Int) != ((s0.size : Nat) : Int)) = false := int_beq (by omega)
        have HEQ := Lib.hid he
        clear he
        go_wp2
        go_round
        case rel =>
          refine ⟨k + 1, by omega, by go_num, fun j hj hjk => ?_⟩
          rcases Nat.lt_or_ge j k with h | h
          · exact HA.out j hj h
          · obtain rfl : j = k := by omega
            rw [← HSK.out, HEQ.out, HL0.out]
        case measure => simp [intOf]; omega
      · have e1 : (((s.size : Nat) : Int) != ((s0.size : Nat) : Int)) = true := int_bne (by omega)
        have HEQ := Lib.hid he
        clear he
        go_wp2
        go_ret
        refine ⟨?_, rfl⟩
        have : R = false := by
          cases R with
          | false => rfl
          | true =>
            have h1 := HI.out.1 rfl k hkl
            rw [← HSK.out] at h1
            exact absurd (h1.trans HL0.out.symm) HEQ.out
        rw [this]
        rfl
    · obtain rfl : k = n := by omega
      go_wp2
      go_ret
      refine ⟨?_, rfl⟩
      have : R = true := HI.out.2 fun i hi => HA.out i hi (by have := HL.out; omega)
      rw [this]
      rfl
end Go.Proofs.Ytmlemichkeomjaa.CodW

/- (*coder.Coder).times walked. -/
set_option linter.unusedVariables false
set_option linter.unusedSimpArgs false
namespace Go.Proofs.Ytmlemichkeomjaa.CodW
open Go.RowKit Go.Proofs.Ytmlemichkeomjaa.Base Go.Proofs.Ytmlemichkeomjaa.GfP Go.Proofs.Ytmlemichkeomjaa.GfW Go.Proofs.Ytmlemichkeomjaa.Lin Go.Proofs.Ytmlemichkeomjaa.RowsW Go.Proofs.Ytmlemichkeomjaa.CodP

theorem info_str : (Try.prog.info? 9).map (fun i => (i.zero, i.size, i.bytes)) = some (some (.string ByteArray.empty), 1, 16) := by kernel_rfl
theorem bv_br_succ (L : Nat) (f : Nat → F) : bv (br (L + 1) f) = bv (br L f) ++ [.int .u8 (((f L).v : Nat) : Int)] := by
  rw [br_succ, bv_append]
  unfold bv
  rw [List.map_cons, List.map_nil, ofNat_v]
/-- Texts as values. -/
def sv (ss : List ByteArray) : List Value := ss.map Value.string
theorem sv_length (ss : List ByteArray) : (sv ss).length = ss.length := by simp [sv]
theorem sv_snoc (ss : List ByteArray) (s : ByteArray) : sv (ss ++ [s]) = sv ss ++ [.string s] := by simp [sv]
theorem own_strs {w : World} {base e n : Nat} {v : Value} {ss : List ByteArray} (h : w.ownsRow base e 1 v n (sv ss)) : ∃ A c, v = .slice A n c ∧ Strs w A n ss ∧ n ≤ c ∧ (0 < n → ∃ g, A = some ⟨g, 0, none⟩ ∧ base ≤ g) := by
  have hl : ss.length = n := by have := h.1; rw [sv_length] at this; omega
  rcases h.2 with ⟨rfl, h0⟩ | ⟨g, cap, cur, rfl, hb, hg, hc, _⟩
  · subst h0
    have : ss = [] := List.eq_nil_of_length_eq_zero hl
    subst this
    exact ⟨none, 0, rfl, Strs.nil _ _, Nat.le_refl _, fun h => by omega⟩
  · refine ⟨_, cap, rfl, ⟨hl, .inr ⟨g, 0, rfl, fun j hj => ?_⟩⟩, hc, fun _ => ⟨g, rfl, hb⟩⟩
    have hcl := h.cells (g := g) rfl j (.string ss[j]) (by simp [sv, hj])
    have ha : (⟨g, 0, none⟩ : Addr).add j = ⟨g, 0 + j, none⟩ := by unfold Addr.add; split <;> simp_all
    rw [ha] at hcl
    exact hcl
/-- append(v, y), and where what comes back lies. -/
theorem app_one_at {P : Program} {ops : Array Oper} {rest : List Oper} {o : Oper} {a : Act} {Q : Exit → Act → World → Prop} {w0 W : World} (base : Nat) (hgd : o.guard = none) (s x : Operand) (t e : TypeId) (z : Value) (bytes : Nat)
    (ho : o.op = .call { callee := .builtin .append, args := #[s, x], argTypes := #[t, t] })
    (ht : P.underlying t = some (.slice e)) (hinfo : (P.info? e).map (fun i => (i.zero, i.size, i.bytes)) = some (some z, 1, bytes)) (hz : z.cells.size = 1) (hb0 : 0 < bytes)
    (v : Value) (xs : List Value) (y : Value) (n : Nat) (hn : xs.length = n) (hs : a.eval s = v) (hx : a.eval x = .slice (some ⟨W.heap.size, 0, none⟩) 1 1) (h1 : y.oneCell' = true)
    (HO : W.ownsRow base e 1 v n xs) (HB : Below base w0 W) (hbase : base ≤ W.heap.size) (hl : (n + 1) * bytes ≤ 140737488355328)
    (h : ∀ g1 c1 w1, w1.ownsRow base e 1 (.slice (some ⟨g1, 0, none⟩) (n + 1) c1) (n + 1) (xs ++ [y]) → Below base w0 w1 → W.grownBy w1 v.ownBlock → (v.ownBlock = some g1 ∨ W.heap.size ≤ g1) → wpList P ops Q rest (a.put o.dst (.slice (some ⟨g1, 0, none⟩) (n + 1) c1)) w1) :
    wpList P ops Q (o :: rest) a (W.alloc (.cells #[y] e)) := by
  obtain ⟨i0, hi, hzz⟩ := Option.map_eq_some_iff.1 hinfo
  simp only [Prod.mk.injEq] at hzz
  obtain ⟨hz0, hz1, hz2⟩ := hzz
  have hlen : n + 1 ≤ 140737488355328 := Nat.le_trans (Nat.le_mul_of_pos_right _ hb0) hl
  refine wpList_append_own_at (W.alloc (.cells #[y] e)) hgd s x t ho base e i0 z 1 bytes ht hi hz0 hz1 hz2 hz (by omega) v n xs hs (HO.alloc _) ⟨W.heap.size, 0, none⟩ 1 1 [y] hx rfl
    (World.news_of_block (cs := #[y]) (t := e) (fr := (0, 0)) (heap_alloc_new W _)) (by simpa using h1) (by simp only [maxLen]; omega) hl (by simp; omega) ?_
  intro v1 w1 hown hg _ hat
  obtain ⟨g1, c1, rfl⟩ := own_form hown (by omega)
  refine h g1 c1 w1 hown ((HB.alloc hbase _).grown hg (by simp; omega) (own_lo HO)) (World.grownBy.trans (World.grownBy_alloc W _ _) hg) ?_
  rcases hat with h2 | h2
  · exact .inl (h2.symm.trans rfl)
  · right
    have : g1 = (W.alloc (.cells #[y] e)).heap.size := by simpa [Value.ownBlock] using h2
    rw [World.size_alloc] at this
    omega
/-- What times has made so far: in the block g m slices, slice i with so many bytes. -/
structure Outs (w0 w : World) (g m : Nat) (vs : Nat → Value) (ln : Nat → Nat) (X : M) : Prop where
  top : ∀ i, i < m → w.cell? ⟨g, i, none⟩ = some (vs i)
  blk : ∃ cur : Array Value, w.heap[g]? = some (.cells cur 70 (0, 0))
  lo : w0.heap.size ≤ g
  row : ∀ i, i < m → w.ownsRow w0.heap.size 5 1 (vs i) (ln i) (bv (br (ln i) (X i)))
  dis : ∀ i j, i < m → j < m → i ≠ j → (vs i).ownBlock = none ∨ (vs i).ownBlock ≠ (vs j).ownBlock
  below : Below w0.heap.size w0 w
theorem Outs.lt {w0 w : World} {g m : Nat} {vs : Nat → Value} {ln : Nat → Nat} {X : M} (h : Outs w0 w g m vs ln X) : g < w.heap.size := by
  obtain ⟨cur, hg⟩ := h.blk
  rcases Nat.lt_or_ge g w.heap.size with h1 | h1
  · exact h1
  · rw [Array.getElem?_eq_none h1] at hg; cases hg
theorem Outs.later {w0 w w' : World} {g m : Nat} {vs : Nat → Value} {ln : Nat → Nat} {X : M} (h : Outs w0 w g m vs ln X) (hb : Below w.heap.size w w') : Outs w0 w' g m vs ln X :=
  ⟨fun i hi => cell_below hb (h.top i hi), by obtain ⟨cur, hg⟩ := h.blk; exact ⟨cur, (hb.block g h.lt).trans hg⟩, h.lo, fun i hi => own_below (h.row i hi) hb, h.dis, bt h.below h.below.size hb⟩
theorem own_not {w : World} {g b e size n : Nat} {t : TypeId} {cur : Array Value} {v : Value} {xs : List Value} (hg : w.heap[g]? = some (.cells cur t (0, 0))) (h : w.ownsRow b e size v n xs) (ht : t ≠ e) : some g ≠ v.ownBlock := by
  rcases h.2 with ⟨rfl, _⟩ | ⟨g2, cap, cur2, rfl, _, hg2, _⟩
  · simp [Value.ownBlock]
  · intro e'
    obtain rfl : g = g2 := by simpa [Value.ownBlock] using e'
    rw [hg] at hg2
    simp at hg2
    exact ht hg2.2
theorem own_set {w : World} {g i base e size n : Nat} {v u : Value} {xs : List Value} (h : w.ownsRow base e size v n xs) (hne : some g ≠ v.ownBlock) : (w.setCell ⟨g, i, none⟩ u).ownsRow base e size v n xs := by
  obtain ⟨hl, h0 | ⟨g2, cap, cur, rfl, h1, hh, r⟩⟩ := h
  · exact ⟨hl, .inl h0⟩
  · refine ⟨hl, .inr ⟨g2, cap, cur, rfl, h1, (Below.heap_setCell _ _ _ _ ?_).trans hh, r⟩⟩
    intro e'
    apply hne
    simp only [Value.ownBlock]
    exact congrArg some e'.symm
/-- A byte more behind row k. -/
theorem Outs.step {w0 w W w1 : World} {g m k g1 c1 : Nat} {vs : Nat → Value} {ln : Nat → Nat} {X : M} (h : Outs w0 w g m vs ln X) (hk : k < m) (hb : Below w.heap.size w W)
    (ho : w1.ownsRow w0.heap.size 5 1 (.slice (some ⟨g1, 0, none⟩) (ln k + 1) c1) (ln k + 1) (bv (br (ln k) (X k)) ++ [.int .u8 (((X k (ln k)).v : Nat) : Int)])) (hB : Below w0.heap.size w0 w1) (hgr : W.grownBy w1 (vs k).ownBlock) (hat : (vs k).ownBlock = some g1 ∨ W.heap.size ≤ g1) :
    Outs w0 (w1.setCell ⟨g, k, none⟩ (.slice (some ⟨g1, 0, none⟩) (ln k + 1) c1)) g m (fun i => if i = k then .slice (some ⟨g1, 0, none⟩) (ln k + 1) c1 else vs i) (fun i => if i = k then ln k + 1 else ln i) X := by
  have hW := h.later hb
  obtain ⟨cur, hg⟩ := hW.blk
  have hgk : some g ≠ (vs k).ownBlock := own_not hg (hW.row k hk) (by decide)
  have hgl := hW.lt
  have hg1 : w1.heap[g]? = some (.cells cur 70 (0, 0)) := (hgr.block g hgl hgk).trans hg
  have htop : ∀ i, i < m → w1.cell? ⟨g, i, none⟩ = some (vs i) := fun i hi => (World.cell?_of_block (a := ⟨g, i, none⟩) (w := W) (hgr.block g hgl hgk)).trans (hW.top i hi)
  have hown : ∀ i, i < m → i ≠ k → w1.ownsRow w0.heap.size 5 1 (vs i) (ln i) (bv (br (ln i) (X i))) := fun i hi e => own_grown (hW.row i hi) hgr (hW.dis i k hi hk e)
  have hg1v : some g ≠ (Value.slice (some ⟨g1, 0, none⟩) (ln k + 1) c1).ownBlock := own_not hg1 ho (by decide)
  have hlt : ∀ i, i < m → ∀ b, (vs i).ownBlock = some b → b < W.heap.size := fun i hi b e => ((hW.row i hi).lt b e).2
  refine ⟨fun i hi => ?_, ⟨_, heap_setCell_same w1 g k cur _ _ hg1⟩, h.lo, fun i hi => ?_, fun i j hi hj hij => ?_, hB.setCell h.lo _⟩
  · rw [cell_set (htop k hk)]
    by_cases e : i = k
    · rw [if_pos e, if_pos e]
    · rw [if_neg e, if_neg e, htop i hi]
  · by_cases e : i = k
    · subst e
      simp only [if_pos]
      rw [bv_br_succ]
      exact own_set ho hg1v
    · simp only [if_neg e]
      exact own_set (hown i hi e) (own_not hg1 (hown i hi e) (by decide))
  · by_cases ei : i = k
    · subst ei
      have ej : j ≠ i := Ne.symm hij
      simp only [if_pos, if_neg ej]
      right
      intro e
      have e' : (vs j).ownBlock = some g1 := e.symm
      rcases hat with h2 | h2
      · rcases hW.dis j i hj hi ej with h3 | h3
        · rw [h3] at e'; cases e'
        · exact h3 (e'.trans h2.symm)
      · have := hlt j hj g1 e'; omega
    · simp only [if_neg ei]
      by_cases ej : j = k
      · subst ej
        simp only [if_pos]
        rcases hW.dis i j hi hj ei with h3 | h3
        · exact .inl h3
        · right
          intro e
          have e' : (vs i).ownBlock = some g1 := e
          rcases hat with h2 | h2
          · exact h3 (e'.trans h2.symm)
          · have := hlt i hi g1 e'; omega
      · simp only [if_neg ej]
        exact hW.dis i j hi hj hij
end Go.Proofs.Ytmlemichkeomjaa.CodW

/- (*coder.Coder).times walked. -/
set_option linter.unusedVariables false
set_option linter.unusedSimpArgs false
namespace Go.Proofs.Ytmlemichkeomjaa.CodW
open Go.RowKit Go.Proofs.Ytmlemichkeomjaa.Base Go.Proofs.Ytmlemichkeomjaa.GfP Go.Proofs.Ytmlemichkeomjaa.GfW Go.Proofs.Ytmlemichkeomjaa.Lin Go.Proofs.Ytmlemichkeomjaa.RowsW Go.Proofs.Ytmlemichkeomjaa.CodP

theorem Outs.grown {w0 w w1 : World} {g m : Nat} {vs : Nat → Value} {ln : Nat → Nat} {X : M} {row : Option Nat} (h : Outs w0 w g m vs ln X) (hg : w.grownBy w1 row) (hne : some g ≠ row) (hr : ∀ i, i < m → (vs i).ownBlock = none ∨ (vs i).ownBlock ≠ row) (hB : Below w0.heap.size w0 w1) : Outs w0 w1 g m vs ln X :=
  ⟨fun i hi => (World.cell?_of_block (a := ⟨g, i, none⟩) (w := w) (hg.block g h.lt hne)).trans (h.top i hi), by obtain ⟨cur, h1⟩ := h.blk; exact ⟨cur, (hg.block g h.lt hne).trans h1⟩, h.lo, fun i hi => own_grown (h.row i hi) hg (hr i hi), h.dis, hB⟩
theorem Outs.congr {w0 w : World} {g m : Nat} {vs : Nat → Value} {ln ln' : Nat → Nat} {X : M} (h : Outs w0 w g m vs ln X) (he : ∀ i, i < m → ln i = ln' i) : Outs w0 w g m vs ln' X :=
  ⟨h.top, h.blk, h.lo, fun i hi => by have := h.row i hi; rwa [he i hi] at this, h.dis, h.below⟩
theorem bytes_grown {w w1 : World} {A : Option Addr} {l : List Nat} {row : Option Nat} (h : Bytes w A l) (hg : w.grownBy w1 row) (hne : ∀ b off s, A = some ⟨b, off, s⟩ → some b ≠ row) : Bytes w1 A l := by
  refine ⟨h.le, h.len, ?_⟩
  rcases h.at_ with h1 | ⟨b, off, e, hc⟩
  · exact .inl h1
  · exact .inr ⟨b, off, e, fun j hj => hg.cell (hc j hj) (hne b off none e)⟩
theorem outs_start (w : World) (m : Nat) (X : M) : Outs w (w.alloc (.cells (madeCells #[.slice none 0 0] m) 70)) w.heap.size m (fun _ => .slice none 0 0) (fun _ => 0) X := by
  have hg := heap_alloc_new w (.cells (madeCells #[.slice none 0 0] m) 70)
  refine ⟨fun i hi => ?_, ⟨_, hg⟩, Nat.le_refl _, fun i _ => World.ownsRow_nil _ _ _ _, fun i j _ _ _ => .inl rfl, (Below.refl _ _).alloc (Nat.le_refl _) _⟩
  have h := World.rowIs_made w (.slice none 0 0) m 70
  exact h.cell hi
theorem colT_at {ss : List ByteArray} {i : Nat} (h : i < ss.length) (p : Nat) : (colT ss p).getD i 0 = (tx ss i p).v := by
  rw [tx_at h]
  unfold colT
  rw [List.getD_eq_getElem?_getD, List.getElem?_map, List.getElem?_eq_getElem h]
  rfl
theorem Outs.after {w0 w W w1 : World} {g m k : Nat} {vs : Nat → Value} {ln : Nat → Nat} {X : M} (h : Outs w0 w g m vs ln X) (hk : k < m) (hb : Below w.heap.size w W) (hgr : W.grownBy w1 (vs k).ownBlock) : w1.cell? ⟨g, k, none⟩ = some (vs k) ∧ w1.frozen? ⟨g, k, none⟩ = false := by
  have hW := h.later hb
  obtain ⟨cur, hg⟩ := hW.blk
  have hgk : some g ≠ (vs k).ownBlock := own_not hg (hW.row k hk) (by decide)
  exact ⟨(World.cell?_of_block (a := ⟨g, k, none⟩) (w := W) (hgr.block g hW.lt hgk)).trans (hW.top k hk), frozen_of_row w1 g k cur _ ((hgr.block g hW.lt hgk).trans hg)⟩
theorem Outs.step' {w0 w W w1 : World} {g m k g1 c1 q : Nat} {vs : Nat → Value} {ln : Nat → Nat} {X : M} (h : Outs w0 w g m vs ln X) (hk : k < m) (hq : ln k = q) (hb : Below w.heap.size w W)
    (ho : w1.ownsRow w0.heap.size 5 1 (.slice (some ⟨g1, 0, none⟩) (q + 1) c1) (q + 1) (bv (br q (X k)) ++ [.int .u8 (((X k q).v : Nat) : Int)])) (hB : Below w0.heap.size w0 w1) (hgr : W.grownBy w1 (vs k).ownBlock) (hat : (vs k).ownBlock = some g1 ∨ W.heap.size ≤ g1) :
    Outs w0 (w1.setCell ⟨g, k, none⟩ (.slice (some ⟨g1, 0, none⟩) (q + 1) c1)) g m (fun i => if i = k then .slice (some ⟨g1, 0, none⟩) (q + 1) c1 else vs i) (fun i => if i = k then q + 1 else ln i) X := by
  subst hq
  exact h.step hk hb ho hB hgr hat
set_option maxRecDepth 100000 in
set_option maxHeartbeats 4000000 in
theorem times_any (cb fb : Nat) (A A2 : Option Addr) (m q c c2 L : Nat) (ls : List (List Nat)) (ss : List ByteArray) (w : World) (hf : w.cell? ⟨cb, 2, none⟩ = some (.pointer (some ⟨fb, 0, none⟩))) (hF : FieldIn w fb) (hR : Base.Rows w A ls) (hS : Strs w A2 q ss) (hl : ls.length = m) (hq0 : 0 < q) (hm : m ≤ 1000) (hq : q ≤ 1000) (hL : L ≤ 1000000)
    (hrow : ∀ i (h : i < ls.length), ls[i].length = q) (hsz : ∀ i (h : i < ss.length), ss[i].size = L) :
    Calls Try.prog 108 #[.pointer (some ⟨cb, 0, none⟩), .slice A m c, .slice A2 q c2] w fun e w' => ∃ A' c', e = .returned (.slice A' m c') ∧ m ≤ c' ∧ Strs w' A' m (txs m L (mm q (fn ls) (tx ss))) ∧ Below w.heap.size w w' := by
  have HQ := Lib.hid hrow
  have HZ := Lib.hid hsz
  have HL := Lib.hid hl
  have HLS := Lib.hid hS.len
  have HLE := Lib.hid hR.le
  obtain ⟨X, hX⟩ : ∃ X : M, X = mm q (fn ls) (tx ss) := ⟨_, rfl⟩
  rw [← hX]
  have HXX := Lib.hid hX
  obtain ⟨b2, off2, rfl, hc2⟩ := hS.block (by omega)
  have g0 := hc2 0 (by have := hS.len; omega)
  rw [Nat.add_zero] at g0
  obtain ⟨s0, hs0⟩ : ∃ s, s = ss[0]'(by have := hS.len; omega) := ⟨_, rfl⟩
  rw [← hs0] at g0
  have hs0L : s0.size = L := by rw [hs0]; exact hsz 0 _
  have z1 : (0 : Int) < q := by omega
  have hmk := fun W => run_make_row' (P := Try.prog) 119 70 (.slice none 0 0) 24 Try.underlying119 info_row rfl .i64 .i64 m (by omega) (by omega) W
  have HST := outs_start w m X
  have g0a := cell_alloc g0 (.cells (madeCells #[.slice none 0 0] m) 70)
  have HCOL := Lib.hid (fun W p (hp : p < L) (h : Strs W (some ⟨b2, off2, none⟩) q ss) => colT_any (some ⟨b2, off2, none⟩) q c2 ss p W h hq (by omega) (fun i hi => by rw [hsz i hi]; exact hp))
  clear hX hs0 hc2 hrow hsz hl
  go_enter Try.func108, Try.ntmps108
  go_wp2
  go_loopw [8, 9, 10, 11, 12, 23] (fun _ _ _ _ _ i wr => ∃ (p : Nat) (vs : Nat → Value), p ≤ L ∧ i = .int .i64 p ∧ Outs w wr w.heap.size m vs (fun _ => p) X) (fun _ _ _ _ _ i _ => L - (intOf i).toNat)
  case atStart => exact ⟨0, _, by omega, rfl, HST⟩
  case round =>
    obtain ⟨p, vs, hp, rfl, HO⟩ := hrel
    by_cases hlt : p < L
    · obtain ⟨wi, rfl⟩ : ∃ wi : World, wi = wr := ⟨_, rfl⟩
      have HB := HO.below
      go_wp2_with (go_at_call 135; (with_reducible refine (HCOL.out _ p hlt (hS.below HB)).mono ?_); rintro e w4 ⟨A4, c4, rfl, hBy, hfar, hd4⟩)
      have HO4 := HO.later hd4
      have hsep : ∀ bb oo ss', A4 = some ⟨bb, oo, ss'⟩ → (some bb ≠ some w.heap.size ∧ (∀ i, i < m → (vs i).ownBlock ≠ some bb) ∧ bb < w4.heap.size) := fun bb oo ss' e => by
        have h9 := hfar bb oo ss' e
        refine ⟨fun e2 => ?_, fun i hi e2 => ?_, h9.2⟩
        · have e3 : bb = w.heap.size := Option.some.inj e2
          have := HO.lt
          omega
        · have := ((HO.row i hi).lt bb e2).2
          omega
      have HSEP := Lib.hid hsep
      clear hfar hsep hd4 HO HB
      go_loopw [10, 11, 12, 31] (fun _ _ _ i wx => ∃ (a : Nat) (us' : Nat → Value), a ≤ m ∧ i = .int .i64 a ∧ Outs w wx w.heap.size m us' (fun j => if j < a then p + 1 else p) X ∧ Bytes wx A4 (colT ss p) ∧ Hid (∀ bb oo ss', A4 = some ⟨bb, oo, ss'⟩ → (some bb ≠ some w.heap.size ∧ (∀ i, i < m → (us' i).ownBlock ≠ some bb) ∧ bb < wx.heap.size))) (fun _ _ _ i _ => m - (intOf i).toNat)
      case atStart => exact ⟨0, vs, by omega, rfl, HO4.congr (fun i _ => (if_neg (by omega)).symm), hBy, HSEP⟩
      case round =>
        obtain ⟨a, us', ha, rfl, HO, HY, HS9⟩ := hrel
        by_cases hlt2 : a < m
        · have hal : a < ls.length := by have := HL.out; omega
          have HB := HO.below
          have ht := HO.top a hlt2
          obtain ⟨b, off, e, hc⟩ := (hR.below HB).block (by have := HL.out; omega)
          obtain ⟨cur, hgb⟩ := HO.blk
          have hfg := frozen_of_row wr w.heap.size a cur _ hgb
          subst e
          obtain ⟨B1, c1, hcell, hrow1⟩ := hc a hal
          have hq1 := HQ.out a hal
          rw [hq1] at hcell
          have hf1 := cell_below HB hf
          have hF1 := FieldIn.below hF HB
          have hby := hrow1.bytes (by omega)
          have HV : dot ls[a] (colT ss p) q = (X a p).v := by
            rw [HXX.out]
            exact dot_sm q (fun x hx => (fn_at hal (HLE.out a hal)).symm) (fun x hx => colT_at (by have := HLS.out; omega) p)
          have hcl : (colT ss p).length = q := by rw [colT_length]; exact HLS.out
          have HD := Lib.hid (fun W (h1 : Bytes W B1 ls[a]) (h2 : Bytes W A4 (colT ss p)) (h3 : FieldIn W fb) => dot_eq fb W B1 A4 ls[a] (colT ss p) q c1 c4 h1 h2 hq1 hcl h3)
          rw [HV] at HD
          have hown := HO.row a hlt2
          simp only [if_neg (Nat.lt_irrefl a)] at hown
          clear HV hq1 hcl hrow1 hc hgb
          go_upto_region 9 with fail
          go_quiet ((go_at_call 100; exact Calls.quiet_of (HD.out _ (hby.below (Drawn.below (Drawn.step _))) (HY.below (Drawn.below (Drawn.step _))) (hF1.drawn (Drawn.step _)))))
          rename_i nq
          have hD : Drawn wr (wr.drewN nq) := Drawn.step nq
          generalize wr.drewN nq = wd at hD ⊢
          have hDb := hD.below (B := wr.heap.size)
          have HO1 := own_below hown hDb
          have HB1 := bt HB HB.size hDb
          have ht1 := cell_below hDb ht
          have hbl : (bv (br p (X a))).length = p := by rw [bv_length, br_length]
          have HBL := Lib.hid hbl
          clear hbl hown ht hcell hf1 hF1 hby hfg HD
          go_wp2_with (at_builtin; refine app_one_at w.heap.size rfl (.tmp 52) (.tmp 54) 70 5 (.int .u8 0) 1 rfl Try.underlying70 info_byte rfl (by omega) (us' a) (bv (br p (X a))) _ p HBL.out rfl rfl rfl HO1 HB1 HB1.size (by omega) ?_; intro g1 cc1 w1 HO2 HB2 hg2 hat2; have htf := HO.after hlt2 hDb hg2; have htf1 := htf.1; have htf2 := htf.2)
          go_roundw
          case rel =>
            have HN := HO.step' (q := p) hlt2 (if_neg (Nat.lt_irrefl a)) hDb HO2 HB2 hg2 hat2
            refine ⟨a + 1, _, by omega, by go_num, HN.congr (fun i hi => ?_), bytes_other (bytes_grown (HY.below hDb) hg2 (fun bb oo ss' e => (HS9.out bb oo ss' e).2.1 a hlt2 ∘ Eq.symm)) _ (fun bb oo ss' e e2 => (HS9.out bb oo ss' e).1 (congrArg some e2)), Lib.hid fun bb oo ss' e => ?_⟩
            · by_cases e : i = a
              · subst e; rw [if_pos rfl, if_pos (by omega)]
              · rw [if_neg e]
                by_cases h : i < a
                · rw [if_pos h, if_pos (by omega)]
                · rw [if_neg h, if_neg (by omega)]
            · obtain ⟨h1, h2, h3⟩ := HS9.out bb oo ss' e
              have l1 := hDb.size
              have l2 := hg2.size
              refine ⟨h1, fun i hi e2 => ?_, by rw [setCell_size]; omega⟩
              by_cases ei : i = a
              · subst ei
                rw [if_pos rfl] at e2
                have e3 : g1 = bb := by simpa [Value.ownBlock] using e2
                rcases hat2 with h4 | h4
                · exact h2 i hi (h4.trans (congrArg some e3))
                · omega
              · rw [if_neg ei] at e2
                exact h2 i hi e2
          case measure => simp [intOf]; omega
        · obtain rfl : a = m := by omega
          go_wp2
          go_roundw
          case rel => exact ⟨p + 1, us', by omega, by go_num, HO.congr (fun i hi => if_pos hi)⟩
          case measure => simp [intOf]; omega
    · obtain rfl : p = L := by omega
      go_wp2
      go_loopw [13, 15, 61] (fun d _ i wx => ∃ a : Nat, a ≤ m ∧ i = .int .i64 a ∧ wx.ownsRow w.heap.size 9 1 d a (sv (txs a p X)) ∧ Outs w wx w.heap.size m vs (fun _ => p) X) (fun _ _ i _ => m - (intOf i).toNat)
      case atStart => exact ⟨0, by omega, rfl, World.ownsRow_nil _ _ _ _, HO⟩
      case round =>
        obtain ⟨a, ha, rfl, HT, HO1⟩ := hrel
        by_cases hlt2 : a < m
        · have ht := HO1.top a hlt2
          have hcv := conv_own Try.underlying70 Try.underlying5 Try.underlying9 (HO1.row a hlt2) (by omega)
          have HST2 := Lib.hid (txs_succ a p X)
          have hll : (sv (txs a p X)).length = a := by rw [sv_length, txs_length]
          have HLL := Lib.hid hll
          have HB := HO1.below
          obtain ⟨cur, hgb⟩ := HO1.blk
          have HNE := Lib.hid (own_not hgb HT (by decide))
          have HNR := Lib.hid (fun i (hi : i < m) => own_ne_own (HO1.row i hi) HT (by decide))
          clear hll hgb
          go_wp2_with (at_builtin; refine app_one w.heap.size rfl (.tmp 65) (.tmp 68) 40 9 (.string ByteArray.empty) 16 rfl Try.underlying40 info_str rfl (by omega) _ (sv (txs a p X)) _ a HLL.out rfl rfl rfl HT HB HB.size (by omega) ?_; intro v1 w1 HT2 HB2 hg2)
          go_roundw
          case rel => exact ⟨a + 1, by omega, by go_num, by rw [HST2.out, sv_snoc]; exact HT2, HO1.grown hg2 HNE.out HNR.out HB2⟩
          case measure => simp [intOf]; omega
        · obtain rfl : a = m := by omega
          obtain ⟨A', c', rfl, h1, h2, _⟩ := own_strs HT
          have HB := HO1.below
          go_wp2
          go_ret
          exact ⟨A', c', rfl, h2, h1, HB⟩
end Go.Proofs.Ytmlemichkeomjaa.CodW

/- coder.upTo, New and Sizes walked. -/
set_option linter.unusedVariables false
set_option linter.unusedSimpArgs false
namespace Go.Proofs.Ytmlemichkeomjaa.CodW
open Go.RowKit Go.Proofs.Ytmlemichkeomjaa.Base Go.Proofs.Ytmlemichkeomjaa.GfP Go.Proofs.Ytmlemichkeomjaa.GfW Go.Proofs.Ytmlemichkeomjaa.Lin Go.Proofs.Ytmlemichkeomjaa.RowsW Go.Proofs.Ytmlemichkeomjaa.CodP

theorem info_int : (Try.prog.info? 3).map (fun i => (i.zero, i.size, i.bytes)) = some (some (.int .i64 0), 1, 8) := by kernel_rfl
/-- Whole numbers as values. -/
def zv (l : List Int) : List Value := l.map (Value.int .i64)
theorem zv_length (l : List Int) : (zv l).length = l.length := by simp [zv]
theorem own_ints {w : World} {base e n : Nat} {v : Value} {l : List Int} (h : w.ownsRow base e 1 v n (zv l)) (hle : ∀ x, x ∈ l → -9223372036854775808 ≤ x ∧ x ≤ 9223372036854775807) : ∃ A c, v = .slice A n c ∧ n ≤ c ∧ Ints w A l := by
  have hl : l.length = n := by have := h.1; rw [zv_length] at this; omega
  rcases h.2 with ⟨rfl, h0⟩ | ⟨g, cap, cur, rfl, hb, hg, hc, _⟩
  · subst h0
    have : l = [] := List.eq_nil_of_length_eq_zero hl
    subst this
    exact ⟨none, 0, rfl, Nat.le_refl _, Ints.nil _ _⟩
  · refine ⟨_, cap, rfl, hc, hle, .inr ⟨g, 0, rfl, fun j hj => ?_⟩⟩
    have hcl := h.cells (g := g) rfl j (.int .i64 l[j]) (by simp [zv, hj])
    have ha : (⟨g, 0, none⟩ : Addr).add j = ⟨g, 0 + j, none⟩ := by unfold Addr.add; split <;> simp_all
    rw [ha] at hcl
    exact hcl
theorem upL_le (k : Nat) (hk : k ≤ 1000) : ∀ x, x ∈ upL k → -9223372036854775808 ≤ x ∧ x ≤ 9223372036854775807 := fun x hx => by
  obtain ⟨i, hi, rfl⟩ := List.mem_map.1 hx
  have := List.mem_range.1 hi
  omega
set_option maxRecDepth 100000 in
set_option maxHeartbeats 1000000 in
theorem upto_any (k : Nat) (w : World) (hk : k ≤ 1000) :
    Calls Try.prog 60 #[.int .i64 (k : Nat)] w fun e w' => ∃ A c, e = .returned (.slice A k c) ∧ k ≤ c ∧ Ints w' A (upL k) ∧ Below w.heap.size w w' := by
  go_enter Try.func60, Try.ntmps60
  go_wp2
  go_loopw [3, 4, 6] (fun d _ i wr => ∃ a : Nat, a ≤ k ∧ i = .int .i64 a ∧ wr.ownsRow w.heap.size 3 1 d a (zv (upL a)) ∧ Below w.heap.size w wr) (fun _ _ i _ => k - (intOf i).toNat)
  case atStart => exact ⟨0, by omega, rfl, World.ownsRow_nil _ _ _ _, Below.refl _ _⟩
  case round =>
    obtain ⟨a, ha, rfl, HO, HB⟩ := hrel
    by_cases hlt : a < k
    · have hll : (zv (upL a)).length = a := by rw [zv_length, upL_length]
      have HLL := Lib.hid hll
      have HU := Lib.hid (show zv (upL (a + 1)) = zv (upL a) ++ [.int .i64 (a : Int)] by rw [upL_succ]; simp [zv])
      clear hll
      go_wp2_with (at_builtin; refine app_one w.heap.size rfl (.tmp 9) (.tmp 11) 22 3 (.int .i64 0) 8 rfl Try.underlying22 info_int rfl (by omega) _ (zv (upL a)) _ a HLL.out rfl rfl rfl HO HB HB.size (by omega) ?_; intro v1 w1 HO2 HB2 hg2)
      go_roundw
      case rel => exact ⟨a + 1, by omega, by go_num, by rw [HU.out]; exact HO2, HB2⟩
      case measure => simp [intOf]; omega
    · obtain rfl : a = k := by omega
      obtain ⟨A, c, rfl, h1, h2⟩ := own_ints HO (upL_le a hk)
      go_wp2
      go_ret
      exact ⟨A, c, rfl, h1, h2, HB⟩
/-- A code of k of n lies in the block cb. -/
structure CoderAt (w : World) (cb k n fb : Nat) (A : Option Addr) (c : Nat) (G : M) : Prop where
  f0 : w.cell? ⟨cb, 0, none⟩ = some (.int .i64 (k : Nat))
  f1 : w.cell? ⟨cb, 1, none⟩ = some (.int .i64 (n : Nat))
  f2 : w.cell? ⟨cb, 2, none⟩ = some (.pointer (some ⟨fb, 0, none⟩))
  f3 : w.cell? ⟨cb, 3, none⟩ = some (.slice A n c)
  field : FieldIn w fb
  rows : Base.Rows w A (tab n k G)
  code : CodeG k n G
  k1 : 1 ≤ k
  kn : k ≤ n
  n16 : n ≤ 16
  nc : n ≤ c
theorem CoderAt.below {w w' : World} {cb k n fb c : Nat} {A : Option Addr} {G : M} (h : CoderAt w cb k n fb A c G) (hb : Below w.heap.size w w') : CoderAt w' cb k n fb A c G :=
  ⟨cell_below hb h.f0, cell_below hb h.f1, cell_below hb h.f2, cell_below hb h.f3, h.field.below hb, h.rows.below hb, h.code, h.k1, h.kn, h.n16, h.nc⟩
theorem new_no (k n : Int) (w : World) (h : k < 1 ∨ n < k ∨ 16 < n) :
    Calls Try.prog 26 #[.int .i64 k, .int .i64 n] w fun e w' => e = .returned (.tuple #[.pointer none, .int .i64 1]) ∧ w = w' := by
  by_cases h1 : k < 1
  · have e1 : decide (k < 1) = true := by simp [h1]
    clear h
    go_enter Try.func26, Try.ntmps26
    go_wp2
    go_ret2
    exact ⟨rfl, rfl⟩
  · have e1 : decide (k < 1) = false := by simp; omega
    by_cases h2 : n < k
    · have e2 : decide (n < k) = true := by simp [h2]
      clear h
      go_enter Try.func26, Try.ntmps26
      go_wp2
      go_ret2
      exact ⟨rfl, rfl⟩
    · have e2 : decide (n < k) = false := by simp; omega
      have e3 : decide (16 < n) = true := by simp; omega
      clear h
      go_enter Try.func26, Try.ntmps26
      go_wp2
      go_ret2
      exact ⟨rfl, rfl⟩
theorem code_made {k n : Nat} (hn : n ≤ 32) (hk : k ≤ n) {O : M} (h : Eqv k k (mm k O (fn (tab k k powT))) dl ∧ Eqv k k (mm k (fn (tab k k powT)) O) dl) : CodeG k n (mm k powT O) :=
  CodeG.of_powers hn hk ((mm_fn_tab k k k O powT).symm.trans h.1) ((mm_tab_fn k k k powT O).symm.trans h.2)
set_option maxRecDepth 100000 in
set_option maxHeartbeats 1000000 in
theorem new_ok (k n : Nat) (w : World) (h1 : 1 ≤ k) (h2 : k ≤ n) (h3 : n ≤ 16) :
    Calls Try.prog 26 #[.int .i64 (k : Nat), .int .i64 (n : Nat)] w fun e w' => ∃ cb fb A c G, e = .returned (.tuple #[.pointer (some ⟨cb, 0, none⟩), .int .i64 0]) ∧ CoderAt w' cb k n fb A c G ∧ Below w.heap.size w w' := by
  have HB : Below w.heap.size w w := Below.refl _ _
  have n1 : 1 ≤ n := by omega
  have n32 : n ≤ 32 := by omega
  have k32 : k ≤ 32 := by omega
  have e1 : decide ((k : Int) < 1) = false := by simp; omega
  have e2 : decide ((n : Int) < k) = false := by simp; omega
  have e2' : decide (n < k) = false := by simp; omega
  have e3 : decide ((16 : Int) < n) = false := by simp; omega
  have HPW := Lib.hid (fun W => powers_rows n k W n1 n32 h1 k32)
  have HUP := Lib.hid (fun W => upto_any k W (by omega))
  have HPK := Lib.hid (fun W g c A2 c2 (h9 : Base.Rows W (some ⟨g, 0, none⟩) (tab n k powT)) (h8 : Ints W A2 (upL k)) => pick_good (some ⟨g, 0, none⟩) A2 n c k c2 (tab n k powT) (upL k) W h9 h8 (tab_length _ _ _) (upL_length k) (right_tab _ n1 n32 h1 k32) h1 k32 (upL_apart h2).rng)
  rw [selT_pick powT n k (upL k) (upL_apart h2).rng, upL_length, tab_congr (selT_up powT k k)] at HPK
  have hFT : Free k (fn (tab k k powT)) := free_tab (by
    have := powL_free (upL k) n n32 (upL_apart h2).rng (upL_apart h2).ne
    rw [upL_length] at this
    exact free_congr (selT_up powT k k) this)
  have HUN := Lib.hid (fun W g off c (h9 : Base.Rows W (some ⟨g, off, none⟩) (tab k k powT)) => undo_rows g off k c (tab k k powT) W h9 (tab_length _ _ _) (right_tab _ h1 k32 h1 k32) (wid_tab _ _ h1) hFT)
  have HML := Lib.hid (fun W A A' c c' O (h9 : Base.Rows W A (tab n k powT)) (h8 : Base.Rows W A' (tab k k O)) => mul_rows A A' n k c c' k (tab n k powT) (tab k k O) W h9 h8 (tab_length _ _ _) (tab_length _ _ _) (right_tab _ n1 n32 h1 k32) (right_tab _ h1 k32 h1 k32) (wid_tab _ _ n1) (wid_tab _ _ h1))
  clear hFT
  go_enter Try.func26, Try.ntmps26
  go_wp2_with (first | (go_at_call 58; (with_reducible refine (HPW.out _).mono ?_); rintro e w1 ⟨g1, c1, rfl, hc1, hP, hd⟩; replace HB := bt HB HB.size hd; clear hd) | (go_at_call 60; (with_reducible refine (HUP.out _).mono ?_); rintro e w2 ⟨A2, c2, rfl, hc2, hI, hd⟩; replace hP := hP.below hd; replace HB := bt HB HB.size hd; clear hd) | (go_at_call 59; (with_reducible refine (HPK.out _ _ _ _ _ hP hI).mono ?_); rintro e w3 ⟨A3, c3, rfl, hT, hd⟩; replace hP := hP.below hd; obtain ⟨b3, o3, rfl, hx3⟩ := hT.block (by rw [tab_length]; omega); clear hx3; replace HB := bt HB HB.size hd; clear hd) | (go_at_call 61; (with_reducible refine (HUN.out _ _ _ _ hT).mono ?_); rintro e w4 ⟨g4, c4, O, rfl, hc4, hO, hE, hd⟩; replace hP := hP.below hd; have HE := Lib.hid hE; clear hE; replace HB := bt HB HB.size hd; clear hd) | (go_at_call 62; (with_reducible refine (HML.out _ _ _ _ _ _ hP hO).mono ?_); rintro e w5 ⟨g5, c5, rfl, hc5, hG, hd⟩; replace HB := bt HB HB.size hd; clear hd) | (go_at_call 63; (with_reducible refine (new_field _).mono ?_); rintro e w6 ⟨fb, rfl, hF, hfb, hd⟩; replace hG := hG.below hd; replace HB := bt HB HB.size hd; clear hd))
  go_ret2
  have hb7 : Below w6.heap.size w6 (w6.alloc (.cells #[.int .i64 (k : Nat), .int .i64 (n : Nat), .pointer (some ⟨fb, 0, none⟩), .slice (some ⟨g5, 0, none⟩) n c5] 130)) := (Below.refl _ _).alloc (Nat.le_refl _) _
  have hg := heap_alloc_new w6 (.cells #[.int .i64 (k : Nat), .int .i64 (n : Nat), .pointer (some ⟨fb, 0, none⟩), .slice (some ⟨g5, 0, none⟩) n c5] 130)
  have hG2 := hG
  rw [tab_congr ((mm_fn_tab n k k (fn (tab n k powT)) O).trans (mm_tab_fn n k k powT O))] at hG2
  refine ⟨w6.heap.size, fb, some ⟨g5, 0, none⟩, c5, mm k powT O, rfl, ⟨?_, ?_, ?_, ?_, hF.below hb7, hG2.below hb7, code_made n32 h2 HE.out, h1, h2, h3, hc5⟩, bt HB HB.size hb7⟩
  all_goals (rw [cell_of_row _ _ _ _ _ _ hg]; rfl)
end Go.Proofs.Ytmlemichkeomjaa.CodW

/- (*coder.Coder).Make, Sizes and Right walked. -/
set_option linter.unusedVariables false
set_option linter.unusedSimpArgs false
namespace Go.Proofs.Ytmlemichkeomjaa.CodW
open Go.RowKit Go.Proofs.Ytmlemichkeomjaa.Base Go.Proofs.Ytmlemichkeomjaa.GfP Go.Proofs.Ytmlemichkeomjaa.GfW Go.Proofs.Ytmlemichkeomjaa.Lin Go.Proofs.Ytmlemichkeomjaa.RowsW Go.Proofs.Ytmlemichkeomjaa.CodP

theorem make_nil (v : Value) (w : World) : Calls Try.prog 66 #[.pointer none, v] w fun e w' => e = .returned (.tuple #[.slice none 0 0, .int .i64 1]) ∧ w = w' := by
  go_enter Try.func66, Try.ntmps66
  go_wp2
  go_ret2
  exact ⟨rfl, rfl⟩
section
variable (cb k n fb : Nat) (A : Option Addr) (c : Nat) (G : M)
theorem make_no (A2 : Option Addr) (m c2 : Nat) (ss : List ByteArray) (w : World) (hC : CoderAt w cb k n fb A c G) (hS : Strs w A2 m ss) (hm : m ≤ 140737488355328) (h : m ≠ k ∨ evenB ss = false) :
    Calls Try.prog 66 #[.pointer (some ⟨cb, 0, none⟩), .slice A2 m c2] w fun e w' => e = .returned (.tuple #[.slice none 0 0, .int .i64 1]) ∧ w = w' := by
  have h0 := hC.f0
  by_cases hmk : m = k
  · have he := h.resolve_left (fun h9 => h9 hmk)
    have HE := even_any A2 m c2 ss w hS hm
    rw [he] at HE
    have HE := Lib.hid HE
    have e1 : (((m : Nat) : Int) != ((k : Nat) : Int)) = false := int_beq (by omega)
    clear h hmk he hC
    go_enter Try.func66, Try.ntmps66
    go_wp2_with (go_at_call 107; (with_reducible refine (HE.out).mono ?_); rintro e w2 ⟨rfl, rfl⟩)
    go_ret2
    exact ⟨rfl, rfl⟩
  · have e1 : (((m : Nat) : Int) != ((k : Nat) : Int)) = true := int_bne (by omega)
    clear h hC
    go_enter Try.func66, Try.ntmps66
    go_wp2
    go_ret2
    exact ⟨rfl, rfl⟩
theorem make_ok (A2 : Option Addr) (c2 L : Nat) (ss : List ByteArray) (w : World) (hC : CoderAt w cb k n fb A c G) (hS : Strs w A2 k ss) (hL : L ≤ 1000000) (he : ∀ i (h : i < ss.length), ss[i].size = L) :
    Calls Try.prog 66 #[.pointer (some ⟨cb, 0, none⟩), .slice A2 k c2] w fun e w' => ∃ A' c', e = .returned (.tuple #[.slice A' n c', .int .i64 0]) ∧ n ≤ c' ∧ Strs w' A' n (txs n L (mm k G (tx ss))) ∧ Below w.heap.size w w' := by
  have h0 := hC.f0
  have h3 := hC.f3
  have k1 := hC.k1
  have kn := hC.kn
  have n16 := hC.n16
  have hl := hS.len
  have HE := even_any A2 k c2 ss w hS (by omega)
  rw [(even_iff (L := L) (by rw [List.getD_eq_getElem?_getD, List.getElem?_eq_getElem (by omega)]; exact he 0 (by omega))).2 he] at HE
  have HE := Lib.hid HE
  have HT := times_any cb fb A A2 n k c c2 L (tab n k G) ss w hC.f2 hC.field hC.rows hS (tab_length _ _ _) (by omega) (by omega) (by omega) hL (fun i h => by rw [tab_getElem, rw1_length]) he
  rw [txs_congr (mm_tab_fn n k L G (tx ss))] at HT
  have HT := Lib.hid HT
  have e1 : (((k : Nat) : Int) != ((k : Nat) : Int)) = false := int_beq rfl
  clear hC he hl
  go_enter Try.func66, Try.ntmps66
  go_wp2_with (first | (go_at_call 107; (with_reducible refine (HE.out).mono ?_); rintro e w2 ⟨rfl, rfl⟩) | (go_at_call 108; (with_reducible refine (HT.out).mono ?_); rintro e w3 ⟨A3, c3, rfl, hc3, hS3, hd3⟩))
  go_ret2
  exact ⟨A3, c3, rfl, hc3, hS3, hd3⟩
theorem sizes_any (w : World) (hC : CoderAt w cb k n fb A c G) :
    Calls Try.prog 64 #[.pointer (some ⟨cb, 0, none⟩)] w fun e w' => e = .returned (.tuple #[.int .i64 (k : Nat), .int .i64 (n : Nat)]) ∧ Below w.heap.size w w' := by
  have h0 := hC.f0
  have h1 := hC.f1
  clear hC
  go_enter Try.func64, Try.ntmps64
  go_wp2
  go_quiet (fail)
  go_wp2
  go_ret2
  exact ⟨rfl, below_drewN (Below.refl _ _) _⟩
theorem sizes_nil (w : World) :
    Calls Try.prog 64 #[.pointer none] w fun e w' => e = .returned (.tuple #[.int .i64 0, .int .i64 0]) ∧ w = w' := by
  go_enter Try.func64, Try.ntmps64
  go_wp2
  go_ret2
  exact ⟨rfl, rfl⟩
set_option maxRecDepth 100000 in
set_option maxHeartbeats 1000000 in
/-- All pieces together are right. -/
theorem cright_yes (A2 : Option Addr) (c2 L : Nat) (X : M) (w : World) (hC : CoderAt w cb k n fb A c G) (hS : Strs w A2 n (txs n L (mm k G X))) (hc2 : n ≤ c2) (hL : L ≤ 1000000) :
    Calls Try.prog 28 #[.pointer (some ⟨cb, 0, none⟩), .slice A2 n c2] w fun e w' => e = .returned (.bool true) ∧ Below w.heap.size w w' := by
  have h0 := hC.f0
  have h1 := hC.f1
  have k1 := hC.k1
  have kn := hC.kn
  have n16 := hC.n16
  have htake : (txs n L (mm k G X)).take k = txs k L X := by
    have e1 : Eqv k L (mm k G X) X := fun i hi j hj => by
      rw [mm_congr (A := G) (A' := dl) (fun q hq => hC.code.one i hi q hq) (fun _ _ => rfl), mm_one_left X j hi]
    rw [← txs_congr e1]
    unfold txs
    rw [← List.map_take, List.take_range, Nat.min_eq_left kn]
  obtain ⟨b, off, rfl, hc⟩ := hS.block (by omega)
  have hS2 : Strs w (some ⟨b, off, none⟩) k (txs k L X) := by
    refine ⟨txs_length _ _ _, .inr ⟨b, off, rfl, fun j hj => ?_⟩⟩
    have hj2 : j < k := by rw [txs_length] at hj; exact hj
    rw [hc j (by rw [txs_length]; omega)]
    simp only [← htake, List.getElem_take]
  have HM := make_ok cb k n fb A c G (some ⟨b, off, none⟩) c2 L (txs k L X) w hC hS2 hL (txs_size k L X)
  have hcg : Eqv n L (mm k G (tx (txs k L X))) (mm k G X) := fun i _ j hj => mm_congr (fun _ _ => rfl) (fun q hq => tx_txs k L X q hq j hj)
  rw [txs_congr hcg] at HM
  have HM := Lib.hid HM
  have e1 : (((n : Nat) : Int) != ((n : Nat) : Int)) = false := int_beq rfl
  obtain ⟨tt, htt⟩ : ∃ tt, tt = txs n L (mm k G X) := ⟨_, rfl⟩
  rw [← htt] at HM hS
  have HLT := Lib.hid (show tt.length = n by rw [htt, txs_length])
  clear hC htake hS2 hcg hc htt
  go_enter Try.func28, Try.ntmps28
  go_wp2_with (go_at_call 66; (with_reducible refine (HM.out).mono ?_); rintro e w3 ⟨A3, c3, rfl, hc3, hS3, hd3⟩)
  go_loopw [7, 34] (fun _ i wr => ∃ a : Nat, a ≤ n ∧ i = .int .i64 a ∧ Drawn w3 wr) (fun _ i _ => n - (intOf i).toNat)
  case atStart => exact ⟨0, by omega, rfl, Drawn.refl _⟩
  case round =>
    obtain ⟨a, ha, rfl, HD⟩ := hrel
    have HDb := HD.below (B := w3.heap.size)
    by_cases hlt : a < n
    · have hat : a < tt.length := by have := HLT.out; omega
      obtain ⟨b5, off5, rfl, hc5⟩ := (hS3.below HDb).block (by omega)
      obtain ⟨b6, off6, e6, hc6⟩ := ((hS.below hd3).below HDb).block (by omega)
      cases e6
      have g5 := hc5 a hat
      have g6 := hc6 a hat
      clear hc5 hc6
      obtain ⟨s, hs⟩ : ∃ s, s = tt[a] := ⟨_, rfl⟩
      rw [← hs] at g5 g6
      clear hs
      have es : (s.toList == s.toList) = true := by simp
      go_upto_region 9 with fail
      go_quiet (fail)
      go_wp2
      go_roundw
      case rel => exact ⟨a + 1, by omega, by go_num, HD.trans (Drawn.step _)⟩
      case measure => simp [intOf]; omega
    · obtain rfl : a = n := by omega
      go_wp2
      go_ret
      exact ⟨rfl, bt hd3 hd3.size HDb⟩
end
end Go.Proofs.Ytmlemichkeomjaa.CodW

/- stooklaw03.few, sum and awake walked. -/
set_option linter.unusedVariables false
set_option linter.unusedSimpArgs false
namespace Go.Proofs.Ytmlemichkeomjaa.CodW
open Go.RowKit Go.Proofs.Ytmlemichkeomjaa.Base Go.Proofs.Ytmlemichkeomjaa.GfP Go.Proofs.Ytmlemichkeomjaa.GfW Go.Proofs.Ytmlemichkeomjaa.Lin Go.Proofs.Ytmlemichkeomjaa.RowsW Go.Proofs.Ytmlemichkeomjaa.CodP

/-- Texts few and short. -/
def fewT (ss : List ByteArray) : Bool := decide (ss.length < 100) && (ss.all fun s => decide (s.size ≤ 1000)) && decide (total ss ≤ 3000)
theorem fewT_yes {ss : List ByteArray} (h : fewT ss = true) : ss.length < 100 ∧ (∀ i (h : i < ss.length), ss[i].size ≤ 1000) ∧ total ss ≤ 3000 := by
  unfold fewT at h
  simp only [Bool.and_eq_true, decide_eq_true_eq, List.all_eq_true] at h
  exact ⟨h.1.1, fun i hi => h.1.2 _ (List.getElem_mem hi), h.2⟩
theorem fewT_long {ss : List ByteArray} {k : Nat} (hk : k < ss.length) (h : 1000 < ss[k].size) : fewT ss = false := by
  cases hb : fewT ss with
  | false => rfl
  | true => have := (fewT_yes hb).2.1 k hk; omega
/-- Two texts, byte by byte. -/
def addT (s t : ByteArray) : Nat → F := fun p => toF (txb s p) + toF (txb t p)
theorem addT_v {s t : ByteArray} {k : Nat} (hs : k < s.size) (ht : k < t.size) : bits BinOp.xor IntKind.u8 ((s[k].toNat : Nat) : Int) ((t[k].toNat : Nat) : Int) = (((addT s t k).v : Nat) : Int) := by
  rw [u8_xor_nat _ _ (by have := s[k].toNat_lt; omega) (by have := t[k].toNat_lt; omega), addT, v_add, toF_v (txb_le _ _), toF_v (txb_le _ _), txb_get hs, txb_get ht]
theorem box_strs {w : World} {l : List ByteArray} (hl : 0 < l.length) : Strs (w.alloc (.cells (sv l).toArray 9)) (some ⟨w.heap.size, 0, none⟩) l.length l := by
  have hg := heap_alloc_new w (.cells (sv l).toArray 9)
  refine ⟨rfl, .inr ⟨_, 0, rfl, fun j hj => ?_⟩⟩
  rw [cell_of_row _ _ _ _ _ _ hg]
  simp [sv, hj]
theorem single_txs {n : Nat} {G : M} (h : CodeG 1 n G) (s : ByteArray) : txs n s.size (mm 1 G (tx [s])) = (List.range n).map fun _ => s := by
  refine List.map_congr_left fun i hi => ?_
  have e : ∀ p, p < s.size → mm 1 G (tx [s]) i p = tx [s] 0 p := fun p _ => by
    show (0 : F) + G i 0 * tx [s] 0 p = _
    rw [h.single i (List.mem_range.1 hi), Lin.zero_add, Lin.one_mul]
  rw [strOf_congr e]
  exact strOf_tx (ss := [s]) (by simp) rfl
theorem new_lit (k n : Nat) (K N : Int) (hk : K = (k : Nat)) (hn : N = (n : Nat)) (w : World) (h1 : 1 ≤ k) (h2 : k ≤ n) (h3 : n ≤ 16) :
    Calls Try.prog 26 #[.int .i64 K, .int .i64 N] w fun e w' => ∃ cb fb A c G, e = .returned (.tuple #[.pointer (some ⟨cb, 0, none⟩), .int .i64 0]) ∧ CoderAt w' cb k n fb A c G ∧ Below w.heap.size w w' := by
  subst hk hn
  exact new_ok k n w h1 h2 h3
def ab : ByteArray := ⟨#[97, 98]⟩
theorem make_ab (cb n fb c : Nat) (A : Option Addr) (G : M) (w : World) (hC : CoderAt w cb 1 n fb A c G) :
    Calls Try.prog 66 #[.pointer (some ⟨cb, 0, none⟩), .slice (some ⟨w.heap.size, 0, none⟩) 1 1] (w.alloc (.cells #[.string ⟨#[97, 98]⟩] 9)) fun e w' => ∃ g off c', e = .returned (.tuple #[.slice (some ⟨g, off, none⟩) n c', .int .i64 0]) ∧ (∀ i, i < n → w'.cell? ⟨g, off + i, none⟩ = some (.string ⟨#[97, 98]⟩)) ∧ Below w.heap.size w w' := by
  have hb : Below w.heap.size w (w.alloc (.cells #[.string ⟨#[97, 98]⟩] 9)) := (Below.refl _ _).alloc (Nat.le_refl _) _
  have hn := hC.kn
  have HM := make_ok cb 1 n fb A c G (some ⟨w.heap.size, 0, none⟩) 1 2 [ab] (w.alloc (.cells #[.string ⟨#[97, 98]⟩] 9)) (hC.below hb) (box_strs (w := w) (l := [ab]) (by simp)) (by omega) (fun i hi => by
    have : i = 0 := by simp at hi; omega
    subst this; rfl)
  rw [show txs n 2 (mm 1 G (tx [ab])) = (List.range n).map fun _ => ab from single_txs hC.code ab] at HM
  refine HM.mono ?_
  rintro e w' ⟨A', c', rfl, _, hS, hd⟩
  obtain ⟨g, off, rfl, hc⟩ := hS.block (by omega)
  refine ⟨g, off, c', rfl, fun i hi => ?_, hb.trans (hd.mono hb.size)⟩
  rw [hc i (by simp; exact hi)]
  simp [ab]
theorem make_empty (cb n fb c : Nat) (A : Option Addr) (G : M) (w : World) (hC : CoderAt w cb 2 n fb A c G) :
    Calls Try.prog 66 #[.pointer (some ⟨cb, 0, none⟩), .slice (some ⟨w.heap.size, 0, none⟩) 2 2] (w.alloc (.cells #[.string ⟨#[]⟩, .string ⟨#[]⟩] 9)) fun e w' => ∃ A' c', e = .returned (.tuple #[.slice A' n c', .int .i64 0]) ∧ Below w.heap.size w w' := by
  have hb : Below w.heap.size w (w.alloc (.cells #[.string ⟨#[]⟩, .string ⟨#[]⟩] 9)) := (Below.refl _ _).alloc (Nat.le_refl _) _
  refine (make_ok cb 2 n fb A c G (some ⟨w.heap.size, 0, none⟩) 2 0 [⟨#[]⟩, ⟨#[]⟩] (w.alloc (.cells #[.string ⟨#[]⟩, .string ⟨#[]⟩] 9)) (hC.below hb) (box_strs (w := w) (l := [⟨#[]⟩, ⟨#[]⟩]) (by simp)) (by omega) (fun i hi => by
    have : i = 0 ∨ i = 1 := by simp at hi; omega
    rcases this with rfl | rfl <;> rfl)).mono ?_
  rintro e w' ⟨A', c', rfl, _, _, hd⟩
  exact ⟨A', c', rfl, hb.trans (hd.mono hb.size)⟩
end Go.Proofs.Ytmlemichkeomjaa.CodW

/- The law CoderSums walked. -/
set_option linter.unusedVariables false
set_option linter.unusedSimpArgs false
namespace Go.Proofs.Ytmlemichkeomjaa.CodW
open Go.RowKit Go.Proofs.Ytmlemichkeomjaa.Base Go.Proofs.Ytmlemichkeomjaa.GfP Go.Proofs.Ytmlemichkeomjaa.GfW Go.Proofs.Ytmlemichkeomjaa.Lin Go.Proofs.Ytmlemichkeomjaa.RowsW Go.Proofs.Ytmlemichkeomjaa.CodP

theorem strs_regrown {w : World} {A : Option Addr} {n : Nat} {ss : List ByteArray} (h : Strs w A n ss) (p : Regrown) : Strs (Go.Sort.grow (redrawn w p.d) p.os) A n ss := h.below (below_of_regrown ⟨p, rfl⟩)
theorem even_size {ss : List ByteArray} (he : evenB ss = true) (h0 : 0 < ss.length) : ∀ i (h : i < ss.length), ss[i].size = ss[0].size := (even_iff (L := ss[0].size) (by rw [List.getD_eq_getElem?_getD, List.getElem?_eq_getElem h0]; rfl)).1 he
/-- The pieces of texts, or a refusal. -/
theorem make_some (cb k n fb : Nat) (A : Option Addr) (c : Nat) (G : M) (A2 : Option Addr) (m c2 : Nat) (ss : List ByteArray) (w : World) (hC : CoderAt w cb k n fb A c G) (hS : Strs w A2 m ss) (hm : m ≤ 140737488355328) (hf : fewT ss = true) :
    Calls Try.prog 66 #[.pointer (some ⟨cb, 0, none⟩), .slice A2 m c2] w fun e w' => ∃ v er, e = .returned (.tuple #[v, .int .i64 er]) ∧ Below w.heap.size w w' := by
  by_cases h : m = k ∧ evenB ss = true
  · obtain ⟨rfl, he⟩ := h
    have k1 := hC.k1
    have hl := hS.len
    have hsz := (fewT_yes hf).2.1 0 (by omega)
    exact (make_ok cb m n fb A c G A2 c2 ss[0].size ss w hC hS (by omega) (even_size he (by omega))).mono fun e w' ⟨A', c', h1, _, _, h2⟩ => ⟨_, _, h1, h2⟩
  · refine (make_no cb k n fb A c G A2 m c2 ss w hC hS hm ?_).mono fun e w' ⟨h1, h2⟩ => ⟨_, _, h1, h2 ▸ Below.refl _ _⟩
    by_cases a : m = k
    · exact .inr (by by_cases b : evenB ss = true; exact absurd ⟨a, b⟩ h; simpa using b)
    · exact .inl a
def addM (X Y : M) : M := fun i p => X i p + Y i p
theorem mm_addM (k : Nat) (G X Y : M) (i p : Nat) : mm k G (addM X Y) i p = addM (mm k G X) (mm k G Y) i p := by
  unfold mm addM
  rw [← sm_add]
  exact sm_congr fun j _ => mul_add _ _ _
theorem addT_tx {sa sb : List ByteArray} {i : Nat} (ha : i < sa.length) (hb : i < sb.length) : addT sa[i] sb[i] = addM (tx sa) (tx sb) i := by
  funext p
  unfold addT addM tx
  rw [List.getD_eq_getElem?_getD, List.getElem?_eq_getElem ha, List.getD_eq_getElem?_getD, List.getElem?_eq_getElem hb]
  rfl
section
variable (A B : Option Addr) (n m c1 c2 x : Nat) (sa sb : List ByteArray) (w : World)
end
end Go.Proofs.Ytmlemichkeomjaa.CodW

