/- Records that come in; stooklaw20.Of, Small. -/
import Derived.Test.YtmlemichkeomjaaLedA
set_option linter.unusedVariables false
set_option linter.unusedSimpArgs false
namespace Go.Proofs.Ytmlemichkeomjaa.LedW
open Go.RowKit Go.Proofs.Ytmlemichkeomjaa.Base Go.Proofs.Ytmlemichkeomjaa.MendW Go.Proofs.Ytmlemichkeomjaa.ManP Go.Proofs.Ytmlemichkeomjaa.ManW Go.Proofs.Ytmlemichkeomjaa.LedP
/-- A record's nine cells. -/
structure RecAt (w : World) (b o : Nat) (r : LR) (v : MV) : Prop where
  f0 : w.cell? ⟨b, o, none⟩ = some (.int .i64 r.kind)
  f1 : w.cell? ⟨b, o + 1, none⟩ = some (.int .i64 r.n)
  f2 : w.cell? ⟨b, o + 2, none⟩ = some (.int .i64 r.e)
  f3 : w.cell? ⟨b, o + 3, none⟩ = some (.string r.text)
  f4 : w.cell? ⟨b, o + 4, none⟩ = some (.int .i64 r.m.task)
  f5 : w.cell? ⟨b, o + 5, none⟩ = some (.int .i64 r.m.att)
  f6 : w.cell? ⟨b, o + 6, none⟩ = some (.slice v.A2 r.m.sz.length v.c2)
  f7 : w.cell? ⟨b, o + 7, none⟩ = some (.slice v.A3 r.m.sm.length v.c3)
  f8 : w.cell? ⟨b, o + 8, none⟩ = some (.slice v.A4 r.m.hm.length v.c4)
theorem RecAt.below {w w' : World} {b o : Nat} {r : LR} {v : MV} (h : RecAt w b o r v) (hb : Below w.heap.size w w') : RecAt w' b o r v :=
  ⟨cell_below hb h.f0, cell_below hb h.f1, cell_below hb h.f2, cell_below hb h.f3, cell_below hb h.f4, cell_below hb h.f5, cell_below hb h.f6, cell_below hb h.f7, cell_below hb h.f8⟩
/-- A slice of records. -/
structure RecsV (w : World) (A : Option Addr) (rs : List LR) (vs : Nat → MV) : Prop where
  at_ : rs = [] ∨ ∃ b off, A = some ⟨b, off, none⟩ ∧ ∀ j (h : j < rs.length), RecAt w b (off + j * 9) rs[j] (vs j)
  man : ∀ j (h : j < rs.length), ManV w (vs j) rs[j].m
  fit : ∀ j (h : j < rs.length), rs[j].m.sz.length ≤ maxLen ∧ rs[j].m.sm.length ≤ maxLen ∧ rs[j].m.hm.length ≤ maxLen ∧ ∀ i (h2 : i < rs[j].m.hm.length), rs[j].m.hm[i].length ≤ maxLen
theorem RecsV.below {w w' : World} {A : Option Addr} {rs : List LR} {vs : Nat → MV} (h : RecsV w A rs vs) (hb : Below w.heap.size w w') : RecsV w' A rs vs :=
  ⟨h.at_.imp id fun ⟨b, o, e, hc⟩ => ⟨b, o, e, fun j hj => (hc j hj).below hb⟩, fun j hj => (h.man j hj).below hb, h.fit⟩
theorem RecsV.block {w : World} {A : Option Addr} {rs : List LR} {vs : Nat → MV} (h : RecsV w A rs vs) (h0 : rs.length ≠ 0) : ∃ b off, A = some ⟨b, off, none⟩ ∧ ∀ j (h : j < rs.length), RecAt w b (off + j * 9) rs[j] (vs j) := by
  rcases h.at_ with h1 | h1
  · exact absurd (by rw [h1]; rfl) h0
  · exact h1
/-- Few records of few things. -/
def FewR (rs : List LR) : Prop := rs.length ≤ 60 ∧ ∀ r ∈ rs, Slim r.m ∧ r.text.size ≤ 5000
theorem info_rec : (Try.prog.info? 53).map (·.size) = some 9 := by kernel_rfl
theorem slim_of {m : Man} (h : SmallM m.sz.length m.sm.length m.hm) : Slim m := ⟨h.size, h.sum, h.homes, fun l hl => by
  obtain ⟨i, hi, rfl⟩ := List.mem_iff_getElem.1 hl
  exact h.row i hi⟩
set_option maxRecDepth 100000 in
set_option maxHeartbeats 1000000 in
/-- stooklaw20.Of. -/
theorem of_any (r : LR) (v : MV) (w : World) :
    Calls Try.prog 22 #[.agg #[.int .i64 r.kind, .int .i64 r.n, .int .i64 r.e, .string r.text, .int .i64 r.m.task, .int .i64 r.m.att, .slice v.A2 r.m.sz.length v.c2, .slice v.A3 r.m.sm.length v.c3, .slice v.A4 r.m.hm.length v.c4]] w fun e w' => e = .returned (.agg #[.int .i64 r.kind, .int .i64 r.n, .int .i64 r.e, .string r.text, .int .i64 r.m.task, .int .i64 r.m.att, .slice v.A2 r.m.sz.length v.c2, .slice v.A3 r.m.sm.length v.c3, .slice v.A4 r.m.hm.length v.c4]) ∧ Below w.heap.size w w' := by
  go_enter Try.func22, Try.ntmps22
  go_upto_region 1 with fail
  have hA := heap_alloc_new w (.cells #[.int .i64 r.kind, .int .i64 r.n, .int .i64 r.e, .string r.text, .int .i64 r.m.task, .int .i64 r.m.att, .slice v.A2 r.m.sz.length v.c2, .slice v.A3 r.m.sm.length v.c3, .slice v.A4 r.m.hm.length v.c4] 56)
  have HB := (Below.refl w.heap.size w).alloc (Nat.le_refl _) (.cells #[.int .i64 r.kind, .int .i64 r.n, .int .i64 r.e, .string r.text, .int .i64 r.m.task, .int .i64 r.m.att, .slice v.A2 r.m.sz.length v.c2, .slice v.A3 r.m.sm.length v.c3, .slice v.A4 r.m.hm.length v.c4] 56)
  have hz := World.size_alloc w (.cells #[.int .i64 r.kind, .int .i64 r.n, .int .i64 r.e, .string r.text, .int .i64 r.m.task, .int .i64 r.m.att, .slice v.A2 r.m.sz.length v.c2, .slice v.A3 r.m.sm.length v.c3, .slice v.A4 r.m.hm.length v.c4] 56)
  generalize w.alloc (.cells #[.int .i64 r.kind, .int .i64 r.n, .int .i64 r.e, .string r.text, .int .i64 r.m.task, .int .i64 r.m.att, .slice v.A2 r.m.sz.length v.c2, .slice v.A3 r.m.sm.length v.c3, .slice v.A4 r.m.hm.length v.c4] 56) = W0 at hA HB hz ⊢
  have hA2 := heap_alloc_new W0 (.cells #[.int .i64 0, .int .i64 0, .int .i64 0, .string ⟨#[]⟩, .int .i64 0, .int .i64 0, .slice none 0 0, .slice none 0 0, .slice none 0 0] 53)
  have d1 := (Below.refl W0.heap.size W0).alloc (Nat.le_refl _) (.cells #[.int .i64 0, .int .i64 0, .int .i64 0, .string ⟨#[]⟩, .int .i64 0, .int .i64 0, .slice none 0 0, .slice none 0 0, .slice none 0 0] 53)
  generalize W0.alloc (.cells #[.int .i64 0, .int .i64 0, .int .i64 0, .string ⟨#[]⟩, .int .i64 0, .int .i64 0, .slice none 0 0, .slice none 0 0, .slice none 0 0] 53) = W at hA2 d1 ⊢
  replace hA := (d1.block _ (by omega)).trans hA
  replace HB := bt HB HB.size d1
  rw [hz] at hA2
  have p0 : W.cell? ⟨w.heap.size, 0, none⟩ = some (.int .i64 r.kind) := by rw [cell_of_row _ _ _ _ _ _ hA]; rfl
  have p1 : W.cell? ⟨w.heap.size, 1, none⟩ = some (.int .i64 r.n) := by rw [cell_of_row _ _ _ _ _ _ hA]; rfl
  have p2 : W.cell? ⟨w.heap.size, 2, none⟩ = some (.int .i64 r.e) := by rw [cell_of_row _ _ _ _ _ _ hA]; rfl
  have p3 : W.cell? ⟨w.heap.size, 3, none⟩ = some (.string r.text) := by rw [cell_of_row _ _ _ _ _ _ hA]; rfl
  have p4 : W.cell? ⟨w.heap.size, 4, none⟩ = some (.int .i64 r.m.task) := by rw [cell_of_row _ _ _ _ _ _ hA]; rfl
  have p5 : W.cell? ⟨w.heap.size, 5, none⟩ = some (.int .i64 r.m.att) := by rw [cell_of_row _ _ _ _ _ _ hA]; rfl
  have p6 : W.cell? ⟨w.heap.size, 6, none⟩ = some (.slice v.A2 r.m.sz.length v.c2) := by rw [cell_of_row _ _ _ _ _ _ hA]; rfl
  have p7 : W.cell? ⟨w.heap.size, 7, none⟩ = some (.slice v.A3 r.m.sm.length v.c3) := by rw [cell_of_row _ _ _ _ _ _ hA]; rfl
  have p8 : W.cell? ⟨w.heap.size, 8, none⟩ = some (.slice v.A4 r.m.hm.length v.c4) := by rw [cell_of_row _ _ _ _ _ _ hA]; rfl
  have hone : (#[.int .i64 r.kind, .int .i64 r.n, .int .i64 r.e, .string r.text, .int .i64 r.m.task, .int .i64 r.m.att, .slice v.A2 r.m.sz.length v.c2, .slice v.A3 r.m.sm.length v.c3, .slice v.A4 r.m.hm.length v.c4] : Array Value).all (·.oneCell') = true := by simp [Value.oneCell']
  clear hA d1
  go_wp2_with (refine wpList_store_row rfl 53 (.tmp 2) (.tmp 13) rfl (w.heap.size + 1) #[.int .i64 r.kind, .int .i64 r.n, .int .i64 r.e, .string r.text, .int .i64 r.m.task, .int .i64 r.m.att, .slice v.A2 r.m.sz.length v.c2, .slice v.A3 r.m.sm.length v.c3, .slice v.A4 r.m.hm.length v.c4] rfl rfl 53 #[.int .i64 0, .int .i64 0, .int .i64 0, .string ⟨#[]⟩, .int .i64 0, .int .i64 0, .slice none 0 0, .slice none 0 0, .slice none 0 0] hA2 info_rec rfl hone ?_)
  have hR := setRow_heap W (w.heap.size + 1) _ #[.int .i64 r.kind, .int .i64 r.n, .int .i64 r.e, .string r.text, .int .i64 r.m.task, .int .i64 r.m.att, .slice v.A2 r.m.sz.length v.c2, .slice v.A3 r.m.sm.length v.c3, .slice v.A4 r.m.hm.length v.c4] _ _ hA2
  refine bodyPost_ret (results_cell_one rfl _ _ (w.heap.size + 1) 53 _ (0, 0) _ rfl hR Try.underlying53 rfl info_rec) rfl ?_
  exact ⟨rfl, HB.trans ⟨rfl, rfl, rfl, by simp, fun q hq => setRow_other W _ q _ (by omega)⟩⟩
set_option maxRecDepth 100000 in
set_option maxHeartbeats 2000000 in
/-- stooklaw20.Small. -/
theorem small20_any (A : Option Addr) (n c : Nat) (rs : List LR) (vs : Nat → MV) (w : World) (h : RecsV w A rs vs) (hl : rs.length = n) (hn : n ≤ maxLen) :
    Calls Try.prog 17 #[.slice A n c] w fun e w' => ∃ r : Nat, e = .returned (.int .i64 (r : Nat)) ∧ (r = 0 ∨ r = 1 ∧ FewR rs) ∧ Below w.heap.size w w' := by
  have HL := Lib.hid hl
  have hn2 : n ≤ 9223372036854775807 := by simpa [maxLen] using hn
  clear hn hl
  go_enter Try.func17, Try.ntmps17
  go_wp2
  go_loopw [3, 4] (fun a i wr => ∃ (k : Nat) (x : Int), k ≤ n ∧ k ≤ 61 ∧ i = .int .i64 k ∧ a = .int .i64 x ∧ 0 ≤ x ∧ x ≤ k * 100000 ∧ Below w.heap.size w wr ∧ (∀ j (hj : j < rs.length), j < k → Slim rs[j].m ∧ ((rs[j].text.size : Int) ≤ x ∨ 100000 ≤ x))) (fun _ i _ => n - (intOf i).toNat)
  case atStart => exact ⟨0, 0, by omega, by omega, rfl, rfl, by omega, by omega, Below.refl _ _, fun j _ h => by omega⟩
  case round =>
    obtain ⟨k, x, hk, hk61, rfl, rfl, hx0, hx1, HB, hall⟩ := hrel
    have HA := Lib.hid hall
    clear hall
    by_cases hlt : k < n
    · by_cases h60 : k ≤ 60
      · have hkl : k < rs.length := by have := HL.out; omega
        obtain ⟨b, off, rfl, hc⟩ := (h.below HB).block (by omega)
        have hm := Lib.hid ((h.below HB).man k hkl)
        obtain ⟨g0, g1, g2, g3, g4, g5, g6, g7, g8⟩ := hc k hkl
        obtain ⟨r, hr⟩ : ∃ r, r = rs[k] := ⟨_, rfl⟩
        rw [← hr] at g0 g1 g2 g3 g4 g5 g6 g7 g8 hm
        have hft := Lib.hid (h.fit k hkl)
        rw [← hr] at hft
        generalize vs k = v at g6 g7 g8 hm
        have HR := Lib.hid hr
        clear hc hr
        have HC := Lib.hid (small16_any r.m.task r.m.att v.A2 r.m.sz.length v.c2 v.A3 r.m.sm.length v.c3 v.A4 r.m.hm.length v.c4 r.m.hm wr hm.out.man.i4 rfl (by have := hft.out; simp only [maxLen] at this; omega) (fun i hi => by have := hft.out.2.2.2 i hi; simp only [maxLen] at this; omega))
        go_wp2_with (go_at_call 12; (with_reducible refine (HC.out).mono ?_); rintro e w3 ⟨q, rfl, hsm, hd⟩; have HE := bt HB HB.size hd; clear hd; have HSM := Lib.hid hsm; (rcases hsm with rfl | ⟨rfl, hsm⟩))
        · go_ret
          exact ⟨0, rfl, .inl rfl, HE⟩
        · go_ret
          exact ⟨0, rfl, .inl rfl, HE⟩
        · go_roundw
          case rel =>
            have HA2 := HA.out
            refine ⟨k + 1, _, by omega, by omega, by go_num, rfl, ?_, ?_, HE, fun j hj hjk => ?_⟩
            · split <;> omega
            · split <;> omega
            · by_cases e : j = k
              · subst e
                rw [← HR.out]
                exact ⟨slim_of (HSM.out.resolve_left (by decide)).2, by split <;> omega⟩
              · have := HA2 j hj (by omega)
                exact ⟨this.1, by split <;> omega⟩
          case measure => simp [intOf]; omega
      · obtain rfl : k = 61 := by omega
        go_wp2
        go_ret
        exact ⟨0, rfl, .inl rfl, HB⟩
    · obtain rfl : k = n := by omega
      by_cases h60 : (60 : Int) < (k : Int)
      · have t1 : decide ((60 : Int) < ((k : Nat) : Int)) = true := by simpa using h60
        go_wp2
        go_ret
        exact ⟨0, rfl, .inl rfl, HB⟩
      · have t1 : decide ((60 : Int) < ((k : Nat) : Int)) = false := by simpa using h60
        by_cases h5 : (5000 : Int) < x
        · have t2 : decide ((5000 : Int) < x) = true := by simpa using h5
          go_wp2
          go_ret
          exact ⟨0, rfl, .inl rfl, HB⟩
        · have t2 : decide ((5000 : Int) < x) = false := by simpa using h5
          have HF := Lib.hid (show FewR rs from ⟨by have := HL.out; omega, fun r hr => by
            obtain ⟨j, hj, rfl⟩ := List.mem_iff_getElem.1 hr
            have := HA.out j hj (by have := HL.out; omega)
            exact ⟨this.1, by omega⟩⟩)
          go_wp2
          go_ret
          exact ⟨1, rfl, .inr ⟨rfl, HF.out⟩, HB⟩
end Go.Proofs.Ytmlemichkeomjaa.LedW
