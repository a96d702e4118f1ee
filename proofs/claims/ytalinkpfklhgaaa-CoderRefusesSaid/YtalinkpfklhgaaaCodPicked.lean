/- stooklaw03.picked walked. -/
import Derived.Test.YtalinkpfklhgaaaCodAgain
import Derived.Test.YtalinkpfklhgaaaCodSums
import Derived.Outline
set_option linter.unusedVariables false
set_option linter.unusedSimpArgs false
namespace Go.Proofs.Ytalinkpfklhgaaa.CodW
open Go.RowKit Go.Proofs.Ytalinkpfklhgaaa.Base Go.Proofs.Ytalinkpfklhgaaa.GfP Go.Proofs.Ytalinkpfklhgaaa.GfW Go.Proofs.Ytalinkpfklhgaaa.Lin Go.Proofs.Ytalinkpfklhgaaa.RowsW Go.Proofs.Ytalinkpfklhgaaa.CodP

theorem info_piece : (Try.prog.info? 70).map (fun i => (i.zero, i.size, i.bytes)) = some (some (.agg #[.int .i64 0, .string ByteArray.empty]), 2, 24) := by kernel_rfl
/-- Pieces as values. -/
def pv : List (Int × ByteArray) → List Value
  | [] => []
  | p :: l => .int .i64 p.1 :: .string p.2 :: pv l
theorem pv_length (ps : List (Int × ByteArray)) : (pv ps).length = ps.length * 2 := by
  induction ps with
  | nil => rfl
  | cons p l ih => simp only [pv, List.length_cons, ih]; omega
theorem pv_append (a b : List (Int × ByteArray)) : pv (a ++ b) = pv a ++ pv b := by
  induction a with
  | nil => rfl
  | cons p l ih => simp only [pv, List.cons_append, ih]
theorem pv_get (ps : List (Int × ByteArray)) : ∀ j (h : j < ps.length), (pv ps)[j * 2]? = some (.int .i64 ps[j].1) ∧ (pv ps)[j * 2 + 1]? = some (.string ps[j].2) := by
  induction ps with
  | nil => intro j h; simp at h
  | cons p l ih =>
    intro j h
    cases j with
    | zero => exact ⟨rfl, rfl⟩
    | succ j =>
      have h2 := ih j (by simpa using h)
      rw [show (j + 1) * 2 = j * 2 + 1 + 1 by omega]
      simp only [pv, List.getElem?_cons_succ, List.getElem_cons_succ]
      exact h2
theorem own_pieces {w : World} {base n : Nat} {v : Value} {ps : List (Int × ByteArray)} (h : w.ownsRow base 70 2 v n (pv ps)) (hle : ∀ x, x ∈ ps → -9223372036854775808 ≤ x.1 ∧ x.1 ≤ 9223372036854775807) : ∃ A c, v = .slice A n c ∧ n ≤ c ∧ ps.length = n ∧ Pieces w A ps := by
  have hl : ps.length = n := by have := h.1; rw [pv_length] at this; omega
  rcases h.2 with ⟨rfl, h0⟩ | ⟨g, cap, cur, rfl, hb, hg, hc, _⟩
  · subst h0
    have : ps = [] := List.eq_nil_of_length_eq_zero hl
    subst this
    exact ⟨none, 0, rfl, Nat.le_refl _, rfl, Pieces.nil _ _⟩
  · refine ⟨_, cap, rfl, hc, hl, hle, .inr ⟨g, 0, rfl, fun j hj => ?_⟩⟩
    obtain ⟨h1, h2⟩ := pv_get ps j hj
    have a1 := h.cells (g := g) rfl (j * 2) _ h1
    have a2 := h.cells (g := g) rfl (j * 2 + 1) _ h2
    have e1 : ∀ i, (⟨g, 0, none⟩ : Addr).add i = ⟨g, 0 + i, none⟩ := fun i => by unfold Addr.add; split <;> simp_all
    rw [e1] at a1 a2
    exact ⟨a1, by rw [Nat.add_assoc]; exact a2⟩
/-- append(v, y), y a struct of two cells, laid before. -/
theorem app_two {P : Program} {ops : Array Oper} {rest : List Oper} {o : Oper} {a : Act} {Q : Exit → Act → World → Prop} {w0 W : World} (base : Nat) (hgd : o.guard = none) (s x : Operand) (t e : TypeId) (z : Value) (bytes : Nat)
    (ho : o.op = .call { callee := .builtin .append, args := #[s, x], argTypes := #[t, t] })
    (ht : P.underlying t = some (.slice e)) (hinfo : (P.info? e).map (fun i => (i.zero, i.size, i.bytes)) = some (some z, 2, bytes)) (hz : z.cells.size = 2) (hb0 : 0 < bytes)
    (v : Value) (xs : List Value) (y1 y2 : Value) (n : Nat) (hs : a.eval s = v) (hx : a.eval x = .slice (some ⟨W.heap.size, 0, none⟩) 1 1) (h1 : y1.oneCell' = true) (h2 : y2.oneCell' = true)
    (HO : W.ownsRow base e 2 v n xs) (HB : Below base w0 W) (hbase : base ≤ W.heap.size) (hl : (n + 1) * bytes ≤ 140737488355328)
    (h : ∀ v1 w1, w1.ownsRow base e 2 v1 (n + 1) (xs ++ [y1, y2]) → Below base w0 w1 → W.grownBy w1 v.ownBlock → wpList P ops Q rest (a.put o.dst v1) w1) :
    wpList P ops Q (o :: rest) a (W.alloc (.cells #[y1, y2] e)) := by
  obtain ⟨i0, hi, hzz⟩ := Option.map_eq_some_iff.1 hinfo
  simp only [Prod.mk.injEq] at hzz
  obtain ⟨hz0, hz1, hz2⟩ := hzz
  have hlen : n + 1 ≤ 140737488355328 := Nat.le_trans (Nat.le_mul_of_pos_right _ hb0) hl
  refine wpList_append_own_at (W.alloc (.cells #[y1, y2] e)) hgd s x t ho base e i0 z 2 bytes ht hi hz0 hz1 hz2 hz (by omega) v n xs hs (HO.alloc _) ⟨W.heap.size, 0, none⟩ 1 1 [y1, y2] hx rfl
    (World.news_of_block (cs := #[y1, y2]) (t := e) (fr := (0, 0)) (heap_alloc_new W _)) (by simpa using ⟨h1, h2⟩) (by simp only [maxLen]; omega) hl (by simp; omega) ?_
  intro v1 w1 hown hg _ _
  exact h v1 w1 hown ((HB.alloc hbase _).grown hg (by simp; omega) (own_lo HO)) (World.grownBy.trans (World.grownBy_alloc W _ _) hg)
/-- Pieces of texts: numbers within reach, none twice, each with its text. -/
structure PicksOf (l : List ByteArray) (ps : List (Int × ByteArray)) : Prop where
  apart : Apart l.length (nums ps)
  text : ∀ i (h : i < ps.length), ps[i].2 = l.getD ps[i].1.toNat ByteArray.empty
theorem PicksOf.nil (l : List ByteArray) : PicksOf l [] := ⟨⟨fun i h => by simp [nums] at h, fun i h => by simp [nums] at h⟩, fun i h => by simp at h⟩
theorem PicksOf.snoc {l : List ByteArray} {ps : List (Int × ByteArray)} {i : Nat} (h : PicksOf l ps) (hi : i < l.length) (hn : ((i : Nat) : Int) ∉ nums ps) : PicksOf l (ps ++ [(((i : Nat) : Int), l[i])]) := by
  have e1 : nums (ps ++ [(((i : Nat) : Int), l[i])]) = nums ps ++ [((i : Nat) : Int)] := by simp [nums]
  refine ⟨⟨fun j hj => ?_, fun j hj q hq => ?_⟩, fun j hj => ?_⟩
  · simp only [e1] at hj ⊢
    by_cases e : j < (nums ps).length
    · rw [List.getElem_append_left e]; exact h.apart.rng j e
    · rw [List.getElem_append_right (by omega)]
      simp
      omega
  · simp only [e1] at hj ⊢
    have hjl : j < (nums ps).length + 1 := by simpa using hj
    by_cases e : j < (nums ps).length
    · rw [List.getElem_append_left e, List.getElem_append_left (by omega)]
      exact h.apart.ne j e q hq
    · have e2 : j = (nums ps).length := by omega
      subst e2
      rw [List.getElem_append_right (Nat.le_refl _), List.getElem_append_left hq]
      intro e3
      apply hn
      have : ((i : Nat) : Int) = (nums ps)[q] := by simpa using e3
      rw [this]
      exact List.getElem_mem _
  · by_cases e : j < ps.length
    · simp only [List.getElem_append_left e]
      exact h.text j e
    · have e2 : j = ps.length := by rw [List.length_append, List.length_singleton] at hj; omega
      subst e2
      simp only [List.getElem_append_right (Nat.le_refl _), Nat.sub_self, List.getElem_cons_zero]
      rw [Int.toNat_natCast, List.getD_eq_getElem?_getD, List.getElem?_eq_getElem hi]
      rfl
theorem notin_succ {ps : List (Int × ByteArray)} {k : Nat} (x : Int) (hk : k < ps.length) : decide (x ∉ (nums ps).take (k + 1)) = (decide (x ∉ (nums ps).take k) && decide (ps[k].1 ≠ x)) := by
  rw [nums_take hk rfl]
  by_cases h : x ∈ (nums ps).take k
  · simp [h]
  · simp only [List.mem_append, List.mem_singleton, h, false_or, not_false_eq_true, decide_true, Bool.true_and, decide_eq_decide]
    exact ⟨fun h e => h e.symm, fun h e => h e.symm⟩
set_option maxRecDepth 100000 in
set_option maxHeartbeats 1000000 in
theorem picked_any (A A2 : Option Addr) (q c m c2 : Nat) (l : List ByteArray) (od : List Nat) (w : World) (hS : Strs w A q l) (hB : Bytes w A2 od) (hm : od.length = m) (hq0 : 0 < q) (hq : q ≤ 1000) (hm2 : m ≤ 1000) :
    Calls Try.prog 56 #[.slice A q c, .slice A2 m c2] w fun e w' => ∃ A' c' ps, e = .returned (.slice A' ps.length c') ∧ ps.length ≤ c' ∧ ps.length ≤ m ∧ Pieces w' A' ps ∧ PicksOf l ps ∧ Below w.heap.size w w' := by
  have HL := Lib.hid hS.len
  have HM := Lib.hid hm
  have z0 : (0 : Int) < q := by omega
  have zq : (q : Int) ≠ 0 := by omega
  clear hm
  go_enter Try.func56, Try.ntmps56
  go_wp2
  go_loopw [5, 6, 7, 8, 9] (fun d i _ _ _ wr => ∃ (a : Nat) (ps : List (Int × ByteArray)), a ≤ m ∧ i = .int .i64 a ∧ ps.length ≤ a ∧ wr.ownsRow w.heap.size 70 2 d ps.length (pv ps) ∧ PicksOf l ps ∧ Below w.heap.size w wr) (fun _ i _ _ _ _ => m - (intOf i).toNat)
  case atStart => exact ⟨0, [], by omega, rfl, by simp, World.ownsRow_nil _ _ _ _, PicksOf.nil l, Below.refl _ _⟩
  case round =>
    obtain ⟨a, ps, ha, rfl, hpa, HO, HP, HBw⟩ := hrel
    have HPI := Lib.hid HP
    have hple : ∀ x, x ∈ ps → -9223372036854775808 ≤ x.1 ∧ x.1 ≤ 9223372036854775807 := fun x hx => by
      obtain ⟨i, hi, rfl⟩ := List.mem_iff_getElem.1 hx
      have := HP.apart.rng i (by rw [nums_length]; exact hi)
      rw [nums_getElem] at this
      have := HL.out
      omega
    obtain ⟨Ao, co, rfl, hco, _, hPc⟩ := own_pieces HO hple
    clear HP
    by_cases hlt : a < m
    · have hal : a < od.length := by have := HM.out; omega
      obtain ⟨b2, o2, rfl, hc2⟩ := (hB.below HBw).at_.resolve_left (by intro e; rw [e] at hal; simp at hal)
      have g1 := hc2 a hal
      have hle := hB.getD_le a
      clear hc2
      obtain ⟨x, hx⟩ : ∃ x, x = od.getD a 0 := ⟨_, rfl⟩
      rw [← hx] at g1 hle
      obtain ⟨i, hi⟩ : ∃ i : Nat, ((x : Nat) : Int) % (q : Nat) = (i : Nat) := ⟨x % q, by simp⟩
      have hiq : i < q := by have := Int.emod_lt_of_pos (x : Int) z0; omega
      have hil : i < l.length := by have := HL.out; omega
      obtain ⟨b1, o1, rfl, hc1⟩ := (hS.below HBw).block (by omega)
      have g2 := hc1 i hil
      clear hc1 hx
      have w1 : IntKind.i64.wrap ((x : Nat) : Int) = ((x : Nat) : Int) := by rw [IntKind.wrap_i64]; omega
      go_wp2
      go_loop [8, 9] (fun f j => ∃ k : Nat, k ≤ ps.length ∧ j = .int .i64 k ∧ f = .bool (decide (((i : Nat) : Int) ∉ (nums ps).take k))) (fun _ j => ps.length - (intOf j).toNat)
      case atStart => exact ⟨0, by omega, rfl, by simp⟩
      case round =>
        obtain ⟨k, hk, rfl, rfl⟩ := hrel
        by_cases hkl : k < ps.length
        · obtain ⟨b0, off, rfl, hc⟩ := hPc.block (by omega)
          obtain ⟨g3, _⟩ := hc k hkl
          clear hc
          have hst := Lib.hid (notin_succ ((i : Nat) : Int) hkl)
          generalize ps[k].1 = y at g3 hst
          generalize decide (((i : Nat) : Int) ∉ (nums ps).take k) = f at hst ⊢
          cases f
          · go_wp2
            go_round
            case rel => exact ⟨k + 1, by omega, by go_num, by rw [hst.out]; rfl⟩
            case measure => simp [intOf]; omega
          · by_cases hyi : y = i
            · have t1 : (y != (i : Int)) = false := by simp [hyi]
              have HY := Lib.hid hyi
              clear hyi
              go_wp2
              go_round
              case rel => exact ⟨k + 1, by omega, by go_num, by rw [hst.out]; simp [HY.out]⟩
              case measure => simp [intOf]; omega
            · have t1 : (y != (i : Int)) = true := by simp [hyi]
              have HY := Lib.hid hyi
              clear hyi
              go_wp2
              go_round
              case rel => exact ⟨k + 1, by omega, by go_num, by rw [hst.out]; simp [HY.out]⟩
              case measure => simp [intOf]; omega
        · obtain rfl : k = ps.length := by omega
          rw [List.take_of_length_le (by rw [nums_length]; exact Nat.le_refl _)]
          by_cases hmem : ((i : Nat) : Int) ∈ nums ps
          · have t1 : decide (((i : Nat) : Int) ∉ nums ps) = false := by simp [hmem]
            rw [t1]
            clear hmem t1
            go_wp2
            go_roundw
            case rel => exact ⟨a + 1, ps, by omega, by go_num, by omega, HO, HPI.out, HBw⟩
            case measure => simp [intOf]; omega
          · have t1 : decide (((i : Nat) : Int) ∉ nums ps) = true := by simp [hmem]
            rw [t1]
            have HM2 := Lib.hid hmem
            clear hmem t1
            go_wp2_with (at_builtin; refine app_two w.heap.size rfl (.tmp 41) (.tmp 48) 68 70 (.agg #[.int .i64 0, .string ByteArray.empty]) 24 rfl Try.underlying68 info_piece rfl (by omega) _ (pv ps) _ _ ps.length rfl rfl rfl rfl HO HBw HBw.size (by omega) ?_; intro v1 w1 HO1 HB1 hg1; rw [show pv ps ++ [Value.int .i64 ((i : Nat) : Int), Value.string l[i]] = pv (ps ++ [(((i : Nat) : Int), l[i])]) by rw [pv_append]; rfl] at HO1)
            go_roundw
            case rel => exact ⟨a + 1, ps ++ [(((i : Nat) : Int), l[i])], by omega, by go_num, by simp; omega, by rw [List.length_append, List.length_singleton]; exact HO1, HPI.out.snoc hil HM2.out, HB1⟩
            case measure => simp [intOf]; omega
    · obtain rfl : a = m := by omega
      go_wp2
      go_ret
      exact ⟨Ao, co, ps, rfl, hco, hpa, hPc, HPI.out, HBw⟩
end Go.Proofs.Ytalinkpfklhgaaa.CodW
