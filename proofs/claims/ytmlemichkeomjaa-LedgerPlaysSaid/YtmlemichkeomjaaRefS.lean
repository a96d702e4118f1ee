/- The reference's state of a ledger, as it is read; count. -/
import Derived.Test.YtmlemichkeomjaaLedSt
set_option linter.unusedVariables false
set_option linter.unusedSimpArgs false
namespace Go.Proofs.Ytmlemichkeomjaa.LedW
open Go.RowKit Go.Proofs.Ytmlemichkeomjaa.Base Go.Proofs.Ytmlemichkeomjaa.MendW Go.Proofs.Ytmlemichkeomjaa.ManP Go.Proofs.Ytmlemichkeomjaa.ManW Go.Proofs.Ytmlemichkeomjaa.LedP
/-- Where the tasks and the parts lie. -/
structure RV where
  B : Option Addr
  cb : Nat
  C : Option Addr
  cc : Nat
  vs : Nat → MV
def RV.cells (y : RV) (s : LS) : Array Value := #[.int .i64 s.n, .int .i64 s.ep, .int .i64 s.fin, .int .i64 s.er, .slice y.B s.done.length y.cb, .slice y.C s.has.length y.cc]
theorem RV.one (y : RV) (s : LS) : (y.cells s).all (·.oneCell') = true := by simp [RV.cells, Value.oneCell']
def tcell (d : Bool) (m : Man) (v : MV) (e : Int) (q : Nat) : Value :=
  if q = 0 then .bool d else if q = 1 then .int .i64 m.task else if q = 2 then .int .i64 m.att else if q = 3 then .slice v.A2 m.sz.length v.c2 else if q = 4 then .slice v.A3 m.sm.length v.c3 else if q = 5 then .slice v.A4 m.hm.length v.c4 else .int .i64 e
def pcell (h : Bool) (t : ByteArray) (e : Int) (c : Bool) (q : Nat) : Value :=
  if q = 0 then .bool h else if q = 1 then .string t else if q = 2 then .int .i64 e else .bool c
def tOf (s : LS) (vs : Nat → MV) (t q : Nat) : Value := tcell (s.done.getD t false) (s.ms.getD t noMan) (vs t) (s.te.getD t 0) q
def pOf (s : LS) (p q : Nat) : Value := pcell (s.has.getD p false) (s.res.getD p ByteArray.empty) (s.pe.getD p 0) (s.com.getD p false) q
/-- A reference's state that is read. -/
structure RefW (w : World) (y : RV) (s : LS) : Prop where
  t : s.done.length = 0 ∨ ∃ b off, y.B = some ⟨b, off, none⟩ ∧ ∀ t q, t < s.done.length → q < 7 → w.cell? ⟨b, off + (t * 7 + q), none⟩ = some (tOf s y.vs t q)
  p : s.has.length = 0 ∨ ∃ b off, y.C = some ⟨b, off, none⟩ ∧ ∀ p q, p < s.has.length → q < 4 → w.cell? ⟨b, off + (p * 4 + q), none⟩ = some (pOf s p q)
  man : ∀ t, t < s.done.length → ManV w (y.vs t) (s.ms.getD t noMan)
  ok : Ok s
section
variable {w w' : World} {y : RV} {s : LS}
theorem RefW.below (h : RefW w y s) (hb : Below w.heap.size w w') : RefW w' y s :=
  ⟨h.t.imp id fun ⟨b, o, e, hc⟩ => ⟨b, o, e, fun t q ht hq => cell_below hb (hc t q ht hq)⟩, h.p.imp id fun ⟨b, o, e, hc⟩ => ⟨b, o, e, fun t q ht hq => cell_below hb (hc t q ht hq)⟩, fun t ht => (h.man t ht).below hb, h.ok⟩
/-- A task's cells. -/
theorem RefW.task (h : RefW w y s) {t : Nat} (ht : t < s.done.length) : ∃ b off, y.B = some ⟨b, off, none⟩ ∧ w.cell? ⟨b, off + t * 7, none⟩ = some (.bool (s.done.getD t false)) ∧ w.cell? ⟨b, off + t * 7 + 1, none⟩ = some (.int .i64 (s.ms.getD t noMan).task) ∧ w.cell? ⟨b, off + t * 7 + 2, none⟩ = some (.int .i64 (s.ms.getD t noMan).att) ∧
    w.cell? ⟨b, off + t * 7 + 3, none⟩ = some (.slice (y.vs t).A2 (s.ms.getD t noMan).sz.length (y.vs t).c2) ∧ w.cell? ⟨b, off + t * 7 + 4, none⟩ = some (.slice (y.vs t).A3 (s.ms.getD t noMan).sm.length (y.vs t).c3) ∧ w.cell? ⟨b, off + t * 7 + 5, none⟩ = some (.slice (y.vs t).A4 (s.ms.getD t noMan).hm.length (y.vs t).c4) ∧ w.cell? ⟨b, off + t * 7 + 6, none⟩ = some (.int .i64 (s.te.getD t 0)) := by
  rcases h.t with h0 | ⟨b, off, e, hc⟩
  · omega
  · have g := fun q hq => hc t q ht hq
    simp only [← Nat.add_assoc] at g
    exact ⟨b, off, e, g 0 (by omega), g 1 (by omega), g 2 (by omega), g 3 (by omega), g 4 (by omega), g 5 (by omega), g 6 (by omega)⟩
/-- A part's cells. -/
theorem RefW.part (h : RefW w y s) {p : Nat} (hp : p < s.has.length) : ∃ b off, y.C = some ⟨b, off, none⟩ ∧ w.cell? ⟨b, off + p * 4, none⟩ = some (.bool (s.has.getD p false)) ∧ w.cell? ⟨b, off + p * 4 + 1, none⟩ = some (.string (s.res.getD p ByteArray.empty)) ∧ w.cell? ⟨b, off + p * 4 + 2, none⟩ = some (.int .i64 (s.pe.getD p 0)) ∧ w.cell? ⟨b, off + p * 4 + 3, none⟩ = some (.bool (s.com.getD p false)) := by
  rcases h.p with h0 | ⟨b, off, e, hc⟩
  · omega
  · have g := fun q hq => hc p q hp hq
    simp only [← Nat.add_assoc] at g
    exact ⟨b, off, e, g 0 (by omega), g 1 (by omega), g 2 (by omega), g 3 (by omega)⟩
end
theorem count_take {l : List Bool} {k : Nat} (h : k < l.length) : (l.take (k + 1)).count true = (l.take k).count true + (if l.getD k false = true then 1 else 0) := by
  rw [List.take_add_one, List.getElem?_eq_getElem h, Option.toList_some, List.count_append]
  congr 1
  rw [List.getD_eq_getElem?_getD, List.getElem?_eq_getElem h, Option.getD_some]
  cases l[k] <;> rfl
theorem count_full {l : List Bool} : l.count true < l.length ↔ false ∈ l := by
  induction l with
  | nil => simp
  | cons b l ih =>
    have hle := List.count_le_length (a := true) (l := l)
    cases b
    · simp; omega
    · simp only [List.count_cons_self, List.length_cons, List.mem_cons, Bool.false_eq_true, false_or, ← ih, show ¬ (false = true) from by decide]
      omega
theorem count_some {l : List Bool} : 0 < l.count true ↔ true ∈ l := List.count_pos_iff
set_option maxRecDepth 100000 in
set_option maxHeartbeats 2000000 in
theorem count_any (y : RV) (s : LS) (w : World) (h : RefW w y s) :
    Calls Try.prog 52 #[.agg #[.int .i64 s.n, .int .i64 s.ep, .int .i64 s.fin, .int .i64 s.er, .slice y.B s.done.length y.cb, .slice y.C s.has.length y.cc]] w fun e w' => e = .returned (.tuple #[.int .i64 ((s.has.count true : Nat) : Int), .int .i64 ((s.com.count true : Nat) : Int)]) ∧ Below w.heap.size w w' := by
  have HH := Lib.hid h
  have hf := h.ok.fewp
  have hlc := h.ok.lc
  clear h
  go_enter Try.func52, Try.ntmps52
  go_upto_region 1 with fail
  have hA := heap_alloc_new w (.cells #[.int .i64 s.n, .int .i64 s.ep, .int .i64 s.fin, .int .i64 s.er, .slice y.B s.done.length y.cb, .slice y.C s.has.length y.cc] 48)
  have HB := (Below.refl w.heap.size w).alloc (Nat.le_refl _) (.cells #[.int .i64 s.n, .int .i64 s.ep, .int .i64 s.fin, .int .i64 s.er, .slice y.B s.done.length y.cb, .slice y.C s.has.length y.cc] 48)
  generalize w.alloc (.cells #[.int .i64 s.n, .int .i64 s.ep, .int .i64 s.fin, .int .i64 s.er, .slice y.B s.done.length y.cb, .slice y.C s.has.length y.cc] 48) = W at hA HB ⊢
  have p5 : W.cell? ⟨w.heap.size, 5, none⟩ = some (.slice y.C s.has.length y.cc) := by rw [cell_of_row _ _ _ _ _ _ hA]; rfl
  have HW := Lib.hid (HH.out.below HB)
  clear hA
  go_wp2
  go_loop [4, 5, 6] (fun a b i => ∃ k : Nat, k ≤ s.has.length ∧ i = .int .i64 k ∧ a = .int .i64 (((s.has.take k).count true : Nat) : Int) ∧ b = .int .i64 (((s.com.take k).count true : Nat) : Int)) (fun _ _ i => s.has.length - (intOf i).toNat)
  case atStart => exact ⟨0, by omega, rfl, by simp, by simp⟩
  case round =>
    obtain ⟨k, hk, rfl, rfl, rfl⟩ := hrel
    by_cases hlt : k < s.has.length
    · obtain ⟨b, off, e, g0, g1, g2, g3⟩ := HW.out.part hlt
      have ea := count_take (l := s.has) hlt
      have eb := count_take (l := s.com) (by omega : k < s.com.length)
      have la : (s.has.take k).count true ≤ 16 := Nat.le_trans List.count_le_length (by rw [List.length_take]; omega)
      have lb : (s.com.take k).count true ≤ 16 := Nat.le_trans List.count_le_length (by rw [List.length_take]; omega)
      generalize s.has.getD k false = H at g0 ea
      generalize s.com.getD k false = C at g3 eb
      have EA := Lib.hid ea
      have EB := Lib.hid eb
      rw [e] at p5
      clear e ea eb g1 g2
      generalize (s.has.take k).count true = na at EA la
      generalize (s.com.take k).count true = nb at EB lb
      cases H <;> cases C <;>
      · go_wp2
        go_round
        case rel => exact ⟨k + 1, by omega, by go_num, by rw [EA.out]; first | rfl | simp, by rw [EB.out]; first | rfl | simp⟩
        case measure => simp [intOf]; omega
    · obtain rfl : k = s.has.length := by omega
      have e1 : s.has.take s.has.length = s.has := List.take_length
      have e2 : s.com.take s.has.length = s.com := by rw [← hlc]; exact List.take_length
      rw [e1, e2]
      clear e1 e2
      go_wp2
      go_ret2
      exact ⟨rfl, HB⟩
end Go.Proofs.Ytmlemichkeomjaa.LedW
