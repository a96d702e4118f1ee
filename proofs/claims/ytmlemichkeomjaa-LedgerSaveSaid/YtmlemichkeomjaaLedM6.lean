/- The ledger's method done walked. -/
import Derived.Test.YtmlemichkeomjaaLedM5
import Derived.Test.YtmlemichkeomjaaRegS
set_option linter.unusedVariables false
set_option linter.unusedSimpArgs false
namespace Go.Proofs.Ytmlemichkeomjaa.LedW
open Go.RowKit Go.Proofs.Ytmlemichkeomjaa.Base Go.Proofs.Ytmlemichkeomjaa.MendW Go.Proofs.Ytmlemichkeomjaa.ManP Go.Proofs.Ytmlemichkeomjaa.ManW Go.Proofs.Ytmlemichkeomjaa.LedP
theorem right_pos {m : Man} {parts n : Int} (h : right m parts n = true) : 0 ≤ m.task := by
  unfold right rightB at h
  simp only [Bool.and_eq_true] at h
  have h1 := h.1.1.1.1.1.1
  unfold idB at h1
  simp at h1
  exact h1.1
set_option maxRecDepth 100000 in
set_option maxHeartbeats 4000000 in
theorem done_any (ob lo : Nat) (s : LS) (r : LR) (v : MV) (w : World) (h : Own w lo ob s) (hlo : lo ≤ w.heap.size) (hv : ManV w v r.m) (hs : Slim r.m) :
    Calls Try.prog 84 #[.pointer (some ⟨ob, 0, none⟩), .agg #[.int .i64 r.kind, .int .i64 r.n, .int .i64 r.e, .string r.text, .int .i64 r.m.task, .int .i64 r.m.att, .slice v.A2 r.m.sz.length v.c2, .slice v.A3 r.m.sm.length v.c3, .slice v.A4 r.m.hm.length v.c4]] w (MethPost w lo ob (doneP s r)) := by
  obtain ⟨F, v2, v3, v4, v5, v6, v7, v8, vs, HO⟩ := h
  obtain ⟨rk, rn, re, rt, m⟩ := r
  obtain ⟨P, hP⟩ : ∃ P, P = doneP s ⟨rk, rn, re, rt, m⟩ := ⟨_, rfl⟩
  rw [← hP]
  unfold doneP at hP
  dsimp only at hP hv hs ⊢
  have hsz := hs.sz
  have hsm := hs.sm
  have hhm := hs.hm
  obtain ⟨R, hR⟩ : ∃ R, right m s.has.length s.n = R := ⟨_, rfl⟩
  have HRP := Lib.hid (fun h => right_pos (m := m) (parts := s.has.length) (n := s.n) (hR.trans h))
  have HRI := Lib.hid (fun W (hW : Below w.heap.size w W) => by
    have h := right_any m.task m.att v.A2 m.sz.length v.c2 v.A3 m.sm.length v.c3 v.A4 m.hm.length v.c4 m.sz m.hm s.has.length s.n W (hv.man.i2.below hW) rfl (by omega) (hv.man.i4.below hW) rfl (by omega) (fun i hi => by have := hs.row _ (List.getElem_mem hi); omega)
    rw [show rightB m.task m.att m.sz.length m.sm.length m.hm.length m.sz m.hm s.has.length s.n = R from hR] at h
    exact h)
  rw [hR] at hP
  have HMC := Lib.hid (fun W (hW : Below w.heap.size w W) => man_clone (hv.below hW) hs)
  have HOW := Lib.hid HO
  have HV := Lib.hid hv
  have HSL := Lib.hid hs
  obtain ⟨A2, c2, A3, c3, A4, c4, A5, c5, A6, c6, A7, c7, A8, c8, rfl, rfl, rfl, rfl, rfl, rfl, rfl, HST⟩ := HO.rows.read
  have HSTH := Lib.hid HST
  clear hR hv hs HST
  obtain ⟨mt, ma, sz, sm, hm⟩ := m
  obtain ⟨B2, d2, B3, d3, B4, d4⟩ := v
  dsimp only at hP HRI HRP HMC hsz hsm hhm ⊢
  cases R with
  | false =>
    rw [if_pos (.inl rfl)] at hP
    have HP := Lib.hid hP
    clear hP
    go_enter Try.func84, Try.ntmps84
    go_upto_region 1 with fail
    have HR := RecBox.mk' w rk rn re rt mt ma B2 sz.length d2 B3 sm.length d3 B4 hm.length d4
    have HB0 := (Below.refl w.heap.size w).alloc (Nat.le_refl _) (.cells #[.int .i64 rk, .int .i64 rn, .int .i64 re, .string rt, .int .i64 mt, .int .i64 ma, .slice B2 sz.length d2, .slice B3 sm.length d3, .slice B4 hm.length d4] 53)
    generalize w.alloc (.cells #[.int .i64 rk, .int .i64 rn, .int .i64 re, .string rt, .int .i64 mt, .int .i64 ma, .slice B2 sz.length d2, .slice B3 sm.length d3, .slice B4 hm.length d4] 53) = W at HR HB0 ⊢
    replace HO := HO.below HB0
    obtain ⟨r0, r1, r2, r3, r4, r5, r6, r7, r8⟩ := HR
    have p0 := HO.field (j := 0) rfl
    have p2 := HO.field (j := 2) rfl
    have p5 := HO.field (j := 5) rfl
    replace HB0 := HB0.drew
    replace HO := HO.below (w' := W.drew) ((Below.refl _ _).drew)
    go_upto_region 2 with fail
    refine RegG.wp_region_s (fun w' => w'.cell? ⟨w.heap.size, 4, none⟩ = some (.int .i64 mt) ∧ w'.cell? ⟨w.heap.size, 5, none⟩ = some (.int .i64 ma) ∧ w'.cell? ⟨w.heap.size, 6, none⟩ = some (.slice B2 sz.length d2) ∧ w'.cell? ⟨w.heap.size, 7, none⟩ = some (.slice B3 sm.length d3) ∧ w'.cell? ⟨w.heap.size, 8, none⟩ = some (.slice B4 hm.length d4) ∧ w'.cell? ⟨ob, 0, none⟩ = some (.int .i64 s.n) ∧ w'.cell? ⟨ob, 2, none⟩ = some (.slice A2 s.done.length c2) ∧ w'.cell? ⟨ob, 5, none⟩ = some (.slice A5 s.has.length c5)) (by kernel_rfl) ?_
    refine RegG.wpG.take (v := ?_) 0 1 rfl (by kernel_rfl) (fun _ _ _ h => h) ?_ rfl ⟨r4, r5, r6, r7, r8, p0, p2, p5⟩ ?_
    rotate_left
    · (rintro w ⟨s4, s5, s6, s7, s8, s0, s2, s9⟩; go_simp; first | done | with_reducible rfl)
    (try simp only [Act.put, List.setIfInBounds_toArray, List.set_cons_zero, List.set_cons_succ])
    refine RegG.wpG.take (v := ?_) 1 11 rfl (by kernel_rfl) (fun _ _ _ h => h) ?_ rfl ⟨r4, r5, r6, r7, r8, p0, p2, p5⟩ ?_
    rotate_left
    · (rintro w ⟨s4, s5, s6, s7, s8, s0, s2, s9⟩; go_simp; first | done | with_reducible rfl)
    (try simp only [Act.put, List.setIfInBounds_toArray, List.set_cons_zero, List.set_cons_succ])
    refine RegG.wpG.take (v := ?_) 2 3 rfl (by kernel_rfl) (fun _ _ _ h => h) ?_ rfl ⟨r4, r5, r6, r7, r8, p0, p2, p5⟩ ?_
    rotate_left
    · (rintro w ⟨s4, s5, s6, s7, s8, s0, s2, s9⟩; go_simp; first | done | with_reducible rfl)
    (try simp only [Act.put, List.setIfInBounds_toArray, List.set_cons_zero, List.set_cons_succ])
    refine RegG.wpG.take (v := ?_) 3 4 rfl (by kernel_rfl) (fun _ _ _ h => h) ?_ rfl ⟨r4, r5, r6, r7, r8, p0, p2, p5⟩ ?_
    rotate_left
    · (rintro w ⟨s4, s5, s6, s7, s8, s0, s2, s9⟩; go_simp; first | done | with_reducible rfl)
    (try simp only [Act.put, List.setIfInBounds_toArray, List.set_cons_zero, List.set_cons_succ])
    refine RegG.wpG.take (v := ?_) 4 5 rfl (by kernel_rfl) (fun _ _ _ h => h) ?_ rfl ⟨r4, r5, r6, r7, r8, p0, p2, p5⟩ ?_
    rotate_left
    · (rintro w ⟨s4, s5, s6, s7, s8, s0, s2, s9⟩; go_simp; first | done | with_reducible rfl)
    (try simp only [Act.put, List.setIfInBounds_toArray, List.set_cons_zero, List.set_cons_succ])
    refine RegG.wpG.take (v := ?_) 5 6 rfl (by kernel_rfl) (fun _ _ _ h => h) ?_ rfl ⟨r4, r5, r6, r7, r8, p0, p2, p5⟩ ?_
    rotate_left
    · (rintro w ⟨s4, s5, s6, s7, s8, s0, s2, s9⟩; go_simp; first | done | with_reducible rfl)
    (try simp only [Act.put, List.setIfInBounds_toArray, List.set_cons_zero, List.set_cons_succ])
    refine RegG.wpG.take (v := ?_) 6 11 rfl (by kernel_rfl) (fun _ _ _ h => h) ?_ rfl ⟨r4, r5, r6, r7, r8, p0, p2, p5⟩ ?_
    rotate_left
    · (rintro w ⟨s4, s5, s6, s7, s8, s0, s2, s9⟩; go_simp; first | done | with_reducible rfl)
    (try simp only [Act.put, List.setIfInBounds_toArray, List.set_cons_zero, List.set_cons_succ])
    refine RegG.wpG.take (v := ?_) 7 8 rfl (by kernel_rfl) (fun _ _ _ h => h) ?_ rfl ⟨r4, r5, r6, r7, r8, p0, p2, p5⟩ ?_
    rotate_left
    · (rintro w ⟨s4, s5, s6, s7, s8, s0, s2, s9⟩; go_simp; first | done | with_reducible rfl)
    (try simp only [Act.put, List.setIfInBounds_toArray, List.set_cons_zero, List.set_cons_succ])
    refine RegG.wpG.take (v := ?_) 8 9 rfl (by kernel_rfl) (fun _ _ _ h => h) ?_ rfl ⟨r4, r5, r6, r7, r8, p0, p2, p5⟩ ?_
    rotate_left
    · (rintro w ⟨s4, s5, s6, s7, s8, s0, s2, s9⟩; go_simp; first | done | with_reducible rfl)
    (try simp only [Act.put, List.setIfInBounds_toArray, List.set_cons_zero, List.set_cons_succ])
    refine RegG.wpG.take (v := ?_) 9 10 rfl (by kernel_rfl) (fun _ _ _ h => h) ?_ rfl ⟨r4, r5, r6, r7, r8, p0, p2, p5⟩ ?_
    rotate_left
    · (rintro w ⟨s4, s5, s6, s7, s8, s0, s2, s9⟩; go_simp; first | done | with_reducible rfl)
    (try simp only [Act.put, List.setIfInBounds_toArray, List.set_cons_zero, List.set_cons_succ])
    refine RegG.wpG.take (v := ?_) 10 11 rfl (by kernel_rfl) (fun _ _ _ h => h) ?_ rfl ⟨r4, r5, r6, r7, r8, p0, p2, p5⟩ ?_
    rotate_left
    · (rintro w ⟨s4, s5, s6, s7, s8, s0, s2, s9⟩; go_simp; first | done | with_reducible rfl)
    (try simp only [Act.put, List.setIfInBounds_toArray, List.set_cons_zero, List.set_cons_succ])
    refine RegG.wpG.step 11 (by kernel_rfl) rfl rfl (fun K hK => ?_)
    go_simp
    go_at_call 121
    (with_reducible refine (HRI.out _ HB0).mono ?_)
    rintro e w5 ⟨rfl, hd⟩
    replace r4 := cell_below hd r4
    replace r5 := cell_below hd r5
    replace r6 := cell_below hd r6
    replace r7 := cell_below hd r7
    replace r8 := cell_below hd r8
    replace p0 := cell_below hd p0
    replace p2 := cell_below hd p2
    replace p5 := cell_below hd p5
    replace HO := HO.below hd
    replace HB0 := bt HB0 HB0.size hd
    clear hd
    refine hK.out _ _ ⟨r4, r5, r6, r7, r8, p0, p2, p5⟩ ?_
    clear hK K
    (try simp only [Act.put, List.setIfInBounds_toArray, List.set_cons_zero, List.set_cons_succ])
    refine RegG.wpG.take (v := ?_) 12 13 rfl (by kernel_rfl) (fun _ _ _ h => h) ?_ rfl ⟨r4, r5, r6, r7, r8, p0, p2, p5⟩ ?_
    rotate_left
    · (rintro w ⟨s4, s5, s6, s7, s8, s0, s2, s9⟩; go_simp; first | done | with_reducible rfl)
    (try simp only [Act.put, List.setIfInBounds_toArray, List.set_cons_zero, List.set_cons_succ])
    refine RegG.wpG.take (v := ?_) 13 21 rfl (by kernel_rfl) (fun _ _ _ h => h) ?_ (by kernel_rfl) ⟨r4, r5, r6, r7, r8, p0, p2, p5⟩ ?_
    rotate_left
    · (rintro w ⟨s4, s5, s6, s7, s8, s0, s2, s9⟩; go_simp; first | done | with_reducible rfl)
    (try simp only [Act.put, List.setIfInBounds_toArray, List.set_cons_zero, List.set_cons_succ])
    refine RegG.wpG.skip 14 20 rfl (by kernel_rfl) (fun _ _ _ h => h) (by kernel_rfl) ⟨r4, r5, r6, r7, r8, p0, p2, p5⟩ ?_
    (try simp only [Act.put, List.setIfInBounds_toArray, List.set_cons_zero, List.set_cons_succ])
    refine RegG.wpG.skip 15 16 rfl (by kernel_rfl) (fun _ _ _ h => h) (by kernel_rfl) ⟨r4, r5, r6, r7, r8, p0, p2, p5⟩ ?_
    (try simp only [Act.put, List.setIfInBounds_toArray, List.set_cons_zero, List.set_cons_succ])
    refine RegG.wpG.skip 16 17 rfl (by kernel_rfl) (fun _ _ _ h => h) (by kernel_rfl) ⟨r4, r5, r6, r7, r8, p0, p2, p5⟩ ?_
    (try simp only [Act.put, List.setIfInBounds_toArray, List.set_cons_zero, List.set_cons_succ])
    refine RegG.wpG.skip 17 18 rfl (by kernel_rfl) (fun _ _ _ h => h) (by kernel_rfl) ⟨r4, r5, r6, r7, r8, p0, p2, p5⟩ ?_
    (try simp only [Act.put, List.setIfInBounds_toArray, List.set_cons_zero, List.set_cons_succ])
    refine RegG.wpG.skip 18 19 rfl (by kernel_rfl) (fun _ _ _ h => h) (by kernel_rfl) ⟨r4, r5, r6, r7, r8, p0, p2, p5⟩ ?_
    (try simp only [Act.put, List.setIfInBounds_toArray, List.set_cons_zero, List.set_cons_succ])
    refine RegG.wpG.skip 19 20 rfl (by kernel_rfl) (fun _ _ _ h => h) (by kernel_rfl) ⟨r4, r5, r6, r7, r8, p0, p2, p5⟩ ?_
    (try simp only [Act.put, List.setIfInBounds_toArray, List.set_cons_zero, List.set_cons_succ])
    refine RegG.wpG.skip 20 21 rfl (by kernel_rfl) (fun _ _ _ h => h) (by kernel_rfl) ⟨r4, r5, r6, r7, r8, p0, p2, p5⟩ ?_
    (try simp only [Act.put, List.setIfInBounds_toArray, List.set_cons_zero, List.set_cons_succ])
    refine RegG.wpG.step 21 (by kernel_rfl) rfl rfl (fun K hK => ?_)
    go_simp
    refine hK.out _ _ ⟨r4, r5, r6, r7, r8, p0, p2, p5⟩ ?_
    clear hK K
    (try simp only [Act.put, List.setIfInBounds_toArray, List.set_cons_zero, List.set_cons_succ])
    refine RegG.wpG.end_ (by kernel_rfl) ?_ _
    go_wp2_with fail
    go_ret
    rw [HP.out]
    exact ⟨rfl, ⟨_, _, _, _, _, _, _, _, _, HO⟩, HB0.mono hlo⟩
  | true =>
    obtain ⟨t, rfl⟩ := Int.eq_ofNat_of_zero_le (HRP.out rfl)
    rw [Int.toNat_natCast] at hP
    go_enter Try.func84, Try.ntmps84
    go_upto_region 1 with fail
    have HR := RecBox.mk' w rk rn re rt (t : Nat) ma B2 sz.length d2 B3 sm.length d3 B4 hm.length d4
    have HB0 := (Below.refl w.heap.size w).alloc (Nat.le_refl _) (.cells #[.int .i64 rk, .int .i64 rn, .int .i64 re, .string rt, .int .i64 (t : Nat), .int .i64 ma, .slice B2 sz.length d2, .slice B3 sm.length d3, .slice B4 hm.length d4] 53)
    generalize w.alloc (.cells #[.int .i64 rk, .int .i64 rn, .int .i64 re, .string rt, .int .i64 (t : Nat), .int .i64 ma, .slice B2 sz.length d2, .slice B3 sm.length d3, .slice B4 hm.length d4] 53) = W at HR HB0 ⊢
    replace HO := HO.below HB0
    obtain ⟨r0, r1, r2, r3, r4, r5, r6, r7, r8⟩ := HR
    have p0 := HO.field (j := 0) rfl
    have p2 := HO.field (j := 2) rfl
    have p5 := HO.field (j := 5) rfl
    replace HB0 := HB0.drew
    replace HO := HO.below (w' := W.drew) ((Below.refl _ _).drew)
    go_upto_region 2 with fail
    refine RegG.wp_region_s (fun w' => w'.cell? ⟨w.heap.size, 4, none⟩ = some (.int .i64 (t : Nat)) ∧ w'.cell? ⟨w.heap.size, 5, none⟩ = some (.int .i64 ma) ∧ w'.cell? ⟨w.heap.size, 6, none⟩ = some (.slice B2 sz.length d2) ∧ w'.cell? ⟨w.heap.size, 7, none⟩ = some (.slice B3 sm.length d3) ∧ w'.cell? ⟨w.heap.size, 8, none⟩ = some (.slice B4 hm.length d4) ∧ w'.cell? ⟨ob, 0, none⟩ = some (.int .i64 s.n) ∧ w'.cell? ⟨ob, 2, none⟩ = some (.slice A2 s.done.length c2) ∧ w'.cell? ⟨ob, 5, none⟩ = some (.slice A5 s.has.length c5)) (by kernel_rfl) ?_
    refine RegG.wpG.take (v := ?_) 0 1 rfl (by kernel_rfl) (fun _ _ _ h => h) ?_ rfl ⟨r4, r5, r6, r7, r8, p0, p2, p5⟩ ?_
    rotate_left
    · (rintro w ⟨s4, s5, s6, s7, s8, s0, s2, s9⟩; go_simp; first | done | with_reducible rfl)
    (try simp only [Act.put, List.setIfInBounds_toArray, List.set_cons_zero, List.set_cons_succ])
    refine RegG.wpG.take (v := ?_) 1 11 rfl (by kernel_rfl) (fun _ _ _ h => h) ?_ rfl ⟨r4, r5, r6, r7, r8, p0, p2, p5⟩ ?_
    rotate_left
    · (rintro w ⟨s4, s5, s6, s7, s8, s0, s2, s9⟩; go_simp; first | done | with_reducible rfl)
    (try simp only [Act.put, List.setIfInBounds_toArray, List.set_cons_zero, List.set_cons_succ])
    refine RegG.wpG.take (v := ?_) 2 3 rfl (by kernel_rfl) (fun _ _ _ h => h) ?_ rfl ⟨r4, r5, r6, r7, r8, p0, p2, p5⟩ ?_
    rotate_left
    · (rintro w ⟨s4, s5, s6, s7, s8, s0, s2, s9⟩; go_simp; first | done | with_reducible rfl)
    (try simp only [Act.put, List.setIfInBounds_toArray, List.set_cons_zero, List.set_cons_succ])
    refine RegG.wpG.take (v := ?_) 3 4 rfl (by kernel_rfl) (fun _ _ _ h => h) ?_ rfl ⟨r4, r5, r6, r7, r8, p0, p2, p5⟩ ?_
    rotate_left
    · (rintro w ⟨s4, s5, s6, s7, s8, s0, s2, s9⟩; go_simp; first | done | with_reducible rfl)
    (try simp only [Act.put, List.setIfInBounds_toArray, List.set_cons_zero, List.set_cons_succ])
    refine RegG.wpG.take (v := ?_) 4 5 rfl (by kernel_rfl) (fun _ _ _ h => h) ?_ rfl ⟨r4, r5, r6, r7, r8, p0, p2, p5⟩ ?_
    rotate_left
    · (rintro w ⟨s4, s5, s6, s7, s8, s0, s2, s9⟩; go_simp; first | done | with_reducible rfl)
    (try simp only [Act.put, List.setIfInBounds_toArray, List.set_cons_zero, List.set_cons_succ])
    refine RegG.wpG.take (v := ?_) 5 6 rfl (by kernel_rfl) (fun _ _ _ h => h) ?_ rfl ⟨r4, r5, r6, r7, r8, p0, p2, p5⟩ ?_
    rotate_left
    · (rintro w ⟨s4, s5, s6, s7, s8, s0, s2, s9⟩; go_simp; first | done | with_reducible rfl)
    (try simp only [Act.put, List.setIfInBounds_toArray, List.set_cons_zero, List.set_cons_succ])
    refine RegG.wpG.take (v := ?_) 6 11 rfl (by kernel_rfl) (fun _ _ _ h => h) ?_ rfl ⟨r4, r5, r6, r7, r8, p0, p2, p5⟩ ?_
    rotate_left
    · (rintro w ⟨s4, s5, s6, s7, s8, s0, s2, s9⟩; go_simp; first | done | with_reducible rfl)
    (try simp only [Act.put, List.setIfInBounds_toArray, List.set_cons_zero, List.set_cons_succ])
    refine RegG.wpG.take (v := ?_) 7 8 rfl (by kernel_rfl) (fun _ _ _ h => h) ?_ rfl ⟨r4, r5, r6, r7, r8, p0, p2, p5⟩ ?_
    rotate_left
    · (rintro w ⟨s4, s5, s6, s7, s8, s0, s2, s9⟩; go_simp; first | done | with_reducible rfl)
    (try simp only [Act.put, List.setIfInBounds_toArray, List.set_cons_zero, List.set_cons_succ])
    refine RegG.wpG.take (v := ?_) 8 9 rfl (by kernel_rfl) (fun _ _ _ h => h) ?_ rfl ⟨r4, r5, r6, r7, r8, p0, p2, p5⟩ ?_
    rotate_left
    · (rintro w ⟨s4, s5, s6, s7, s8, s0, s2, s9⟩; go_simp; first | done | with_reducible rfl)
    (try simp only [Act.put, List.setIfInBounds_toArray, List.set_cons_zero, List.set_cons_succ])
    refine RegG.wpG.take (v := ?_) 9 10 rfl (by kernel_rfl) (fun _ _ _ h => h) ?_ rfl ⟨r4, r5, r6, r7, r8, p0, p2, p5⟩ ?_
    rotate_left
    · (rintro w ⟨s4, s5, s6, s7, s8, s0, s2, s9⟩; go_simp; first | done | with_reducible rfl)
    (try simp only [Act.put, List.setIfInBounds_toArray, List.set_cons_zero, List.set_cons_succ])
    refine RegG.wpG.take (v := ?_) 10 11 rfl (by kernel_rfl) (fun _ _ _ h => h) ?_ rfl ⟨r4, r5, r6, r7, r8, p0, p2, p5⟩ ?_
    rotate_left
    · (rintro w ⟨s4, s5, s6, s7, s8, s0, s2, s9⟩; go_simp; first | done | with_reducible rfl)
    (try simp only [Act.put, List.setIfInBounds_toArray, List.set_cons_zero, List.set_cons_succ])
    refine RegG.wpG.step 11 (by kernel_rfl) rfl rfl (fun K hK => ?_)
    go_simp
    go_at_call 121
    (with_reducible refine (HRI.out _ HB0).mono ?_)
    rintro e w5 ⟨rfl, hd⟩
    replace r4 := cell_below hd r4
    replace r5 := cell_below hd r5
    replace r6 := cell_below hd r6
    replace r7 := cell_below hd r7
    replace r8 := cell_below hd r8
    replace p0 := cell_below hd p0
    replace p2 := cell_below hd p2
    replace p5 := cell_below hd p5
    replace HO := HO.below hd
    replace HB0 := bt HB0 HB0.size hd
    clear hd
    refine hK.out _ _ ⟨r4, r5, r6, r7, r8, p0, p2, p5⟩ ?_
    clear hK K
    (try simp only [Act.put, List.setIfInBounds_toArray, List.set_cons_zero, List.set_cons_succ])
    refine RegG.wpG.take (v := ?_) 12 13 rfl (by kernel_rfl) (fun _ _ _ h => h) ?_ rfl ⟨r4, r5, r6, r7, r8, p0, p2, p5⟩ ?_
    rotate_left
    · (rintro w ⟨s4, s5, s6, s7, s8, s0, s2, s9⟩; go_simp; first | done | with_reducible rfl)
    (try simp only [Act.put, List.setIfInBounds_toArray, List.set_cons_zero, List.set_cons_succ])
    refine RegG.wpG.take (v := ?_) 13 21 rfl (by kernel_rfl) (fun _ _ _ h => h) ?_ (by kernel_rfl) ⟨r4, r5, r6, r7, r8, p0, p2, p5⟩ ?_
    rotate_left
    · (rintro w ⟨s4, s5, s6, s7, s8, s0, s2, s9⟩; go_simp; first | done | with_reducible rfl)
    (try simp only [Act.put, List.setIfInBounds_toArray, List.set_cons_zero, List.set_cons_succ])
    refine RegG.wpG.take (v := ?_) 14 20 rfl (by kernel_rfl) (fun _ _ _ h => h) ?_ (by kernel_rfl) ⟨r4, r5, r6, r7, r8, p0, p2, p5⟩ ?_
    rotate_left
    · (rintro w ⟨s4, s5, s6, s7, s8, s0, s2, s9⟩; go_simp; first | done | with_reducible rfl)
    (try simp only [Act.put, List.setIfInBounds_toArray, List.set_cons_zero, List.set_cons_succ])
    refine RegG.wpG.take (v := ?_) 15 16 rfl (by kernel_rfl) (fun _ _ _ h => h) ?_ (by kernel_rfl) ⟨r4, r5, r6, r7, r8, p0, p2, p5⟩ ?_
    rotate_left
    · (rintro w ⟨s4, s5, s6, s7, s8, s0, s2, s9⟩; go_simp; first | done | with_reducible rfl)
    (try simp only [Act.put, List.setIfInBounds_toArray, List.set_cons_zero, List.set_cons_succ])
    refine RegG.wpG.take (v := ?_) 16 17 rfl (by kernel_rfl) (fun _ _ _ h => h) ?_ (by kernel_rfl) ⟨r4, r5, r6, r7, r8, p0, p2, p5⟩ ?_
    rotate_left
    · (rintro w ⟨s4, s5, s6, s7, s8, s0, s2, s9⟩; go_simp; first | done | with_reducible rfl)
    (try simp only [Act.put, List.setIfInBounds_toArray, List.set_cons_zero, List.set_cons_succ])
    refine RegG.wpG.take (v := ?_) 17 18 rfl (by kernel_rfl) (fun _ _ _ h => h) ?_ (by kernel_rfl) ⟨r4, r5, r6, r7, r8, p0, p2, p5⟩ ?_
    rotate_left
    · (rintro w ⟨s4, s5, s6, s7, s8, s0, s2, s9⟩; go_simp; first | done | with_reducible rfl)
    (try simp only [Act.put, List.setIfInBounds_toArray, List.set_cons_zero, List.set_cons_succ])
    refine RegG.wpG.take (v := ?_) 18 19 rfl (by kernel_rfl) (fun _ _ _ h => h) ?_ (by kernel_rfl) ⟨r4, r5, r6, r7, r8, p0, p2, p5⟩ ?_
    rotate_left
    · (rintro w ⟨s4, s5, s6, s7, s8, s0, s2, s9⟩; go_simp; first | done | with_reducible rfl)
    (try simp only [Act.put, List.setIfInBounds_toArray, List.set_cons_zero, List.set_cons_succ])
    refine RegG.wpG.take (v := ?_) 19 20 rfl (by kernel_rfl) (fun _ _ _ h => h) ?_ (by kernel_rfl) ⟨r4, r5, r6, r7, r8, p0, p2, p5⟩ ?_
    rotate_left
    · (rintro w ⟨s4, s5, s6, s7, s8, s0, s2, s9⟩; go_simp; first | done | with_reducible rfl)
    (try simp only [Act.put, List.setIfInBounds_toArray, List.set_cons_zero, List.set_cons_succ])
    refine RegG.wpG.take (v := ?_) 20 21 rfl (by kernel_rfl) (fun _ _ _ h => h) ?_ (by kernel_rfl) ⟨r4, r5, r6, r7, r8, p0, p2, p5⟩ ?_
    rotate_left
    · (rintro w ⟨s4, s5, s6, s7, s8, s0, s2, s9⟩; go_simp; first | done | with_reducible rfl)
    (try simp only [Act.put, List.setIfInBounds_toArray, List.set_cons_zero, List.set_cons_succ])
    refine RegG.wpG.step 21 (by kernel_rfl) rfl rfl (fun K hK => ?_)
    go_simp
    refine hK.out _ _ ⟨r4, r5, r6, r7, r8, p0, p2, p5⟩ ?_
    clear hK K
    (try simp only [Act.put, List.setIfInBounds_toArray, List.set_cons_zero, List.set_cons_succ])
    refine RegG.wpG.end_ (by kernel_rfl) ?_ _
    by_cases ht : (s.done.length : Int) ≤ (t : Nat)
    · rw [if_pos (.inr ht)] at hP
      have HP := Lib.hid hP
      clear hP
      go_wp2_with fail
      go_ret
      rw [HP.out]
      exact ⟨rfl, ⟨_, _, _, _, _, _, _, _, _, HO⟩, HB0.mono hlo⟩
    have ht' : t < s.done.length := by omega
    have htm : t < s.ms.length := by rw [HO.rows.ok.lm]; exact ht'
    have hte : t < s.te.length := by rw [HO.rows.ok.lt]; exact ht'
    have i0 : (0 : Int) ≤ (t : Int) := by omega
    have i1 : (t : Int) < (s.done.length : Int) := by omega
    rw [if_neg (by rintro (h | h); exact absurd h (by decide); exact ht h)] at hP
    obtain ⟨T, hT⟩ : ∃ T, s.te.getD t 0 = T := ⟨_, rfl⟩
    obtain ⟨D, hD⟩ : ∃ D, s.done.getD t false = D := ⟨_, rfl⟩
    rw [hT, hD, show s.ms.getD t noMan = s.ms[t] from by simp [List.getD_eq_getElem?_getD, htm]] at hP
    obtain ⟨g, c, e2, gc, _, hgo, hlo4, hlt4⟩ := HO.at_row 0 (by decide) HO.rows.d ht'
    simp only [Value.slice.injEq] at e2
    obtain ⟨rfl, _, rfl⟩ := e2
    have gD := gc _ (bvs_get ht' hD)
    obtain ⟨g4, c4', e4, gt, _, _, _, _⟩ := HO.at_row 2 (by decide) HO.rows.t ht'
    simp only [Value.slice.injEq] at e4
    obtain ⟨rfl, _, rfl⟩ := e4
    have gT := gt _ (zv_get hte hT)
    clear gc gt
    obtain ⟨g6, c6, e6⟩ := HO.rows.pool.some 1 HO.rows.m (by omega)
    simp only [Value.slice.injEq] at e6
    obtain ⟨rfl, _, rfl⟩ := e6
    have hvv : (Value.slice (some ⟨g6, 0, none⟩) s.done.length c3) = .slice (some ⟨g6, 0, none⟩) s.done.length c3 := rfl
    have hos := HO.rows.ok.slim _ (List.getElem_mem htm)
    have hoz := hos.sz
    have hom := hos.sm
    clear hos
    have hgc : ∀ (q : Nat) (hq : q < 5) (u : Value), (mcells s.ms[t] (vs t))[q]? = some u → w5.cell? ⟨g6, t * 5 + q, none⟩ = some u := fun q hq u hu => HO.rows.pool_cell rfl htm hq hu
    have hov := (HO.rows.man t htm).here
    obtain ⟨om, hm⟩ : ∃ m, m = s.ms[t] := ⟨_, rfl⟩
    obtain ⟨ov, hvo⟩ : ∃ v, v = vs t := ⟨_, rfl⟩
    rw [← hm] at hP hoz hom
    rw [← hm, ← hvo] at hgc hov
    obtain ⟨ot, oa, osz, osm, ohm⟩ := om
    obtain ⟨O2, b2, O3, b3, O4, b4⟩ := ov
    dsimp only at hP hoz hom
    have g0 := hgc 0 (by omega) _ rfl
    have g1 := hgc 1 (by omega) _ rfl
    have g2 := hgc 2 (by omega) _ rfl
    have g3 := hgc 3 (by omega) _ rfl
    have g4c := hgc 4 (by omega) _ rfl
    dsimp only at g0 g1 g2 g3 g4c
    rw [Nat.add_zero] at g0
    clear hgc hm hvo hvv
    have HOV := Lib.hid hov
    have HTM := Lib.hid htm
    have HTE := Lib.hid hte
    have HDD := Lib.hid hD
    have HGO := Lib.hid hgo
    have HL4 := Lib.hid hlo4
    have HLT := Lib.hid hlt4
    clear hov htm hte hD hT hgo hlo4 hlt4
    have p3 := HO.field (j := 3) rfl
    have p4 := HO.field (j := 4) rfl
    go_upto_region 5 with fail
    have q1 : (w5.alloc (.cells #[.int .i64 ot, .int .i64 oa, .slice O2 osz.length b2, .slice O3 osm.length b3, .slice O4 ohm.length b4] 26)).cell? ⟨w5.heap.size, 1, none⟩ = some (.int .i64 oa) := by rw [cell_of_row _ _ _ _ _ _ (heap_alloc_new w5 _)]; rfl
    have q2 : (w5.alloc (.cells #[.int .i64 ot, .int .i64 oa, .slice O2 osz.length b2, .slice O3 osm.length b3, .slice O4 ohm.length b4] 26)).cell? ⟨w5.heap.size, 2, none⟩ = some (.slice O2 osz.length b2) := by rw [cell_of_row _ _ _ _ _ _ (heap_alloc_new w5 _)]; rfl
    have q3 : (w5.alloc (.cells #[.int .i64 ot, .int .i64 oa, .slice O2 osz.length b2, .slice O3 osm.length b3, .slice O4 ohm.length b4] 26)).cell? ⟨w5.heap.size, 3, none⟩ = some (.slice O3 osm.length b3) := by rw [cell_of_row _ _ _ _ _ _ (heap_alloc_new w5 _)]; rfl
    have hA := (Below.refl w5.heap.size w5).alloc (Nat.le_refl _) (.cells #[.int .i64 ot, .int .i64 oa, .slice O2 osz.length b2, .slice O3 osm.length b3, .slice O4 ohm.length b4] 26)
    generalize hab : w5.heap.size = ab at q1 q2 q3 hA ⊢
    generalize w5.alloc (.cells #[.int .i64 ot, .int .i64 oa, .slice O2 osz.length b2, .slice O3 osm.length b3, .slice O4 ohm.length b4] 26) = W2 at q1 q2 q3 hA ⊢
    rw [← hab] at hA
    replace gD := cell_below hA gD
    replace gT := cell_below hA gT
    replace p4 := cell_below hA p4
    replace p2 := cell_below hA p2
    replace p3 := cell_below hA p3
    replace r4 := cell_below hA r4
    replace r5 := cell_below hA r5
    replace r6 := cell_below hA r6
    replace r7 := cell_below hA r7
    replace r8 := cell_below hA r8
    replace HO := HO.below hA
    replace HB0 := bt HB0 HB0.size hA
    have HB5 := hA
    clear hA hab g0 g1 g2 g3 g4c p0 p5
    obtain ⟨Z, hZ⟩ : ∃ Z, decide (osz = sz) = Z := ⟨_, rfl⟩
    obtain ⟨Y, hY⟩ : ∃ Y, decide (osm = sm) = Y := ⟨_, rfl⟩
    obtain ⟨V, hV⟩ : ∃ V, (oa != ma) = V := ⟨_, rfl⟩
    have HCI := Lib.hid (fun W (h1 : Below w5.heap.size w5 W) (h2 : Below w.heap.size w W) => by
      have h := sleq_int O2 B2 osz.length sz.length b2 d2 osz sz W (HOV.out.man.i2.below h1) rfl (HV.out.man.i2.below h2) rfl (by omega)
      rw [hZ] at h
      exact h)
    have HCU := Lib.hid (fun W (h1 : Below w5.heap.size w5 W) (h2 : Below w.heap.size w W) => by
      have h := sleq_u32 O3 B3 osm.length sm.length b3 d3 osm sm W (HOV.out.man.i3.below h1) rfl (HV.out.man.i3.below h2) rfl (by omega)
      rw [hY] at h
      exact h)
    have hZP := Lib.hid hZ
    have hYP := Lib.hid hY
    clear hZ hY hoz hom
    by_cases t0 : T = 0
    · subst t0
      cases D with
      | false =>
        rw [if_neg (by rintro (h | ⟨h, _⟩); exact h rfl; exact absurd h (by decide))] at hP
        have HP := Lib.hid hP
        clear hP
        go_upto_region 7 with (first | (go_at_call 45; (with_reducible refine (HCI.out _ HB5 HB0).mono ?_); rintro e w7 ⟨rfl, hd⟩; replace r4 := cell_below hd r4; replace r5 := cell_below hd r5; replace r6 := cell_below hd r6; replace r7 := cell_below hd r7; replace r8 := cell_below hd r8; replace p2 := cell_below hd p2; replace p3 := cell_below hd p3; replace q1 := cell_below hd q1; replace q2 := cell_below hd q2; replace q3 := cell_below hd q3; replace HO := HO.below hd; replace HB0 := bt HB0 HB0.size hd; replace HB5 := bt HB5 HB5.size hd; clear hd) | (go_at_call 46; (with_reducible refine (HCU.out _ HB5 HB0).mono ?_); rintro e w7 ⟨rfl, hd⟩; replace r4 := cell_below hd r4; replace r5 := cell_below hd r5; replace r6 := cell_below hd r6; replace r7 := cell_below hd r7; replace r8 := cell_below hd r8; replace p2 := cell_below hd p2; replace p3 := cell_below hd p3; replace q1 := cell_below hd q1; replace q2 := cell_below hd q2; replace q3 := cell_below hd q3; replace HO := HO.below hd; replace HB0 := bt HB0 HB0.size hd; replace HB5 := bt HB5 HB5.size hd; clear hd))
        replace HO := HO.below (w' := World.drew W2) ((Below.refl _ _).drew)
        replace HB0 := HB0.drew
        have HOH := Lib.hid HO
        refine RegG.wp_region_g (fun W => W.cell? ⟨ob, 2, none⟩ = some (.slice (some ⟨g, 0, none⟩) s.done.length c2) ∧ W.cell? ⟨ob, 3, none⟩ = some (.slice (some ⟨g6, 0, none⟩) s.done.length c3) ∧ W.cell? ⟨w.heap.size, 4, none⟩ = some (.int .i64 (t : Nat)) ∧ W.cell? ⟨w.heap.size, 5, none⟩ = some (.int .i64 ma) ∧ W.cell? ⟨w.heap.size, 6, none⟩ = some (.slice B2 sz.length d2) ∧ W.cell? ⟨w.heap.size, 7, none⟩ = some (.slice B3 sm.length d3) ∧ W.cell? ⟨w.heap.size, 8, none⟩ = some (.slice B4 hm.length d4)) [12, 14] (by kernel_rfl) ?_
        refine RegG.wpG.pure (v := ?_) 0 1 rfl (by kernel_rfl) (by decide) (fun _ _ _ h => h) ?_ rfl (fun _ => ⟨p2, p3, r4, r5, r6, r7, r8⟩) ?_
        rotate_left
        · (intro w; go_simp; first | done | with_reducible rfl)
        (try simp only [Act.put, List.setIfInBounds_toArray, List.set_cons_zero, List.set_cons_succ])
        refine RegG.wpG.pure (v := ?_) 1 2 rfl (by kernel_rfl) (by decide) (fun _ _ _ h => h) ?_ rfl (fun _ => ⟨p2, p3, r4, r5, r6, r7, r8⟩) ?_
        rotate_left
        · (intro w; go_simp; first | done | with_reducible rfl)
        (try simp only [Act.put, List.setIfInBounds_toArray, List.set_cons_zero, List.set_cons_succ])
        refine RegG.wpG.pure (v := ?_) 2 3 rfl (by kernel_rfl) (by decide) (fun _ _ _ h => h) ?_ rfl (fun _ => ⟨p2, p3, r4, r5, r6, r7, r8⟩) ?_
        rotate_left
        · (intro w; go_simp; first | done | with_reducible rfl)
        (try simp only [Act.put, List.setIfInBounds_toArray, List.set_cons_zero, List.set_cons_succ])
        refine RegG.wpG.load (v := ?_) 3 14 rfl (by kernel_rfl) (by decide) (by decide) (fun _ _ _ h => h) ?_ rfl ⟨p2, p3, r4, r5, r6, r7, r8⟩ ?_
        rotate_left
        · (rintro w ⟨s2, s3, s4, s5, s6, s7, s8⟩; go_simp; first | done | with_reducible rfl)
        (try simp only [Act.put, List.setIfInBounds_toArray, List.set_cons_zero, List.set_cons_succ])
        refine RegG.wpG.pure (v := ?_) 4 13 rfl (by kernel_rfl) (by decide) (fun _ _ _ h => h) ?_ rfl (fun _ => ⟨p2, p3, r4, r5, r6, r7, r8⟩) ?_
        rotate_left
        · (intro w; go_simp; first | done | with_reducible rfl)
        (try simp only [Act.put, List.setIfInBounds_toArray, List.set_cons_zero, List.set_cons_succ])
        refine RegG.wpG.pure (v := ?_) 5 6 rfl (by kernel_rfl) (by decide) (fun _ _ _ h => h) ?_ rfl (fun _ => ⟨p2, p3, r4, r5, r6, r7, r8⟩) ?_
        rotate_left
        · (intro w; go_simp; first | done | with_reducible rfl)
        (try simp only [Act.put, List.setIfInBounds_toArray, List.set_cons_zero, List.set_cons_succ])
        refine RegG.wpG.pure (v := ?_) 6 7 rfl (by kernel_rfl) (by decide) (fun _ _ _ h => h) ?_ rfl (fun _ => ⟨p2, p3, r4, r5, r6, r7, r8⟩) ?_
        rotate_left
        · (intro w; go_simp; first | done | with_reducible rfl)
        (try simp only [Act.put, List.setIfInBounds_toArray, List.set_cons_zero, List.set_cons_succ])
        refine RegG.wpG.pure (v := ?_) 7 8 rfl (by kernel_rfl) (by decide) (fun _ _ _ h => h) ?_ rfl (fun _ => ⟨p2, p3, r4, r5, r6, r7, r8⟩) ?_
        rotate_left
        · (intro w; go_simp; first | done | with_reducible rfl)
        (try simp only [Act.put, List.setIfInBounds_toArray, List.set_cons_zero, List.set_cons_succ])
        refine RegG.wpG.load (v := ?_) 8 14 rfl (by kernel_rfl) (by decide) (by decide) (fun _ _ _ h => h) ?_ rfl ⟨p2, p3, r4, r5, r6, r7, r8⟩ ?_
        rotate_left
        · (rintro w ⟨s2, s3, s4, s5, s6, s7, s8⟩; go_simp; first | done | with_reducible rfl)
        (try simp only [Act.put, List.setIfInBounds_toArray, List.set_cons_zero, List.set_cons_succ])
        refine RegG.wpG.pure (v := ?_) 9 15 rfl (by kernel_rfl) (by decide) (fun _ _ _ h => h) ?_ rfl (fun _ => ⟨p2, p3, r4, r5, r6, r7, r8⟩) ?_
        rotate_left
        · (intro w; go_simp; first | done | with_reducible rfl)
        (try simp only [Act.put, List.setIfInBounds_toArray, List.set_cons_zero, List.set_cons_succ])
        refine RegG.wpG.pure (v := ?_) 10 11 rfl (by kernel_rfl) (by decide) (fun _ _ _ h => h) ?_ rfl (fun _ => ⟨p2, p3, r4, r5, r6, r7, r8⟩) ?_
        rotate_left
        · (intro w; go_simp; first | done | with_reducible rfl)
        (try simp only [Act.put, List.setIfInBounds_toArray, List.set_cons_zero, List.set_cons_succ])
        refine RegG.wpG.load (v := ?_) 11 12 rfl (by kernel_rfl) (by decide) (by decide) (fun _ _ _ h => h) ?_ rfl ⟨p2, p3, r4, r5, r6, r7, r8⟩ ?_
        rotate_left
        · (rintro w ⟨s2, s3, s4, s5, s6, s7, s8⟩; go_simp; first | done | with_reducible rfl)
        (try simp only [Act.put, List.setIfInBounds_toArray, List.set_cons_zero, List.set_cons_succ])
        refine RegG.wpG.one 12 (by kernel_rfl) rfl rfl (fun K hK => ?_)
        go_simp
        go_at_call 77
        (with_reducible refine (HMC.out _ HB0).mono ?_)
        rintro e w8 ⟨v6', rfl, hN, hd⟩
        replace p2 := cell_below hd p2
        replace p3 := cell_below hd p3
        replace r4 := cell_below hd r4
        replace r5 := cell_below hd r5
        replace r6 := cell_below hd r6
        replace r7 := cell_below hd r7
        replace r8 := cell_below hd r8
        have HO1 := HOH.out.below hd
        have hB8 := bt HB0 HB0.size hd
        have hNS := new_safe HOH.out.rows.pool (Nat.le_trans hlo HB0.size) hN
        have hNS1 : ManB (Safe lo (up F 0 ⟨4, 1, .slice (some ⟨g, 0, none⟩) s.done.length c2, s.done.length, (bvs s.done).set t (.bool true)⟩) (w8.setCell ⟨g, t, none⟩ (.bool true)).heap.size) (w8.setCell ⟨g, t, none⟩ (.bool true)) v6' ⟨(t : Nat), ma, sz, sm, hm⟩ := by
          rw [show (w8.setCell ⟨g, t, none⟩ (.bool true)).heap.size = w8.heap.size from by simp]
          exact (hNS.keep (fun q hq => heap_setCell_other _ _ _ _ (fun e => hq.2 0 (by rw [HO1.rows.d, e]; rfl)))).mono (fun q hq => safe_chg (Nat.le_refl _) (.inl (by rw [HO1.rows.d])) hq)
        have z5 := HO1.rows.pool.free 0 HO1.rows.d rfl t
        have y5 := HO1.rows.pool.cell 0 HO1.rows.d rfl (bvs_get ht' HDD.out)
        have hlo4 := (HO1.rows.pool.lt 0 (g := g) (by rw [HO1.rows.d]; rfl)).1
        have hlo6 := (HO1.rows.pool.lt 1 (g := g6) (by rw [HO1.rows.m]; rfl)).1
        have HF1 := HO1.put (s' := { s with done := s.done.set t true }) 0 HO1.rows.d rfl t (.bool true) ⟨by rw [up_self, bvs_set]; simp, ((up_ne _ _ (by decide)).trans HO1.rows.m).trans (by simp), ((up_ne _ _ (by decide)).trans HO1.rows.t).trans (by simp), (up_ne _ _ (by decide)).trans HO1.rows.h, (up_ne _ _ (by decide)).trans HO1.rows.r, (up_ne _ _ (by decide)).trans HO1.rows.p, (up_ne _ _ (by decide)).trans HO1.rows.c, (up_ne _ _ (by decide)).trans HO1.box⟩ rfl HO1.rows.rt HO1.rows.rp ⟨by simp [HO1.rows.ok.lm], by simp [HO1.rows.ok.lt], HO1.rows.ok.lr, HO1.rows.ok.lp, HO1.rows.ok.lc, by simpa using HO1.rows.ok.few, HO1.rows.ok.fewp, HO1.rows.ok.slim⟩
        have hvv : (Value.slice (some ⟨g6, 0, none⟩) s.done.length c3) = .slice (some ⟨g6, 0, none⟩) ({ s with done := s.done.set t true } : LS).done.length c3 := by simp
        have hfin : OwnS ((((((w8.setCell ⟨g, t, none⟩ (.bool true)).setCell ⟨g6, t * 5, none⟩ (.int .i64 (t : Nat))).setCell ⟨g6, t * 5 + 1, none⟩ (.int .i64 ma)).setCell ⟨g6, t * 5 + 2, none⟩ (.slice v6'.A2 sz.length v6'.c2)).setCell ⟨g6, t * 5 + 3, none⟩ (.slice v6'.A3 sm.length v6'.c3)).setCell ⟨g6, t * 5 + 4, none⟩ (.slice v6'.A4 hm.length v6'.c4)) lo ob _ _ _ _ _ _ _ _ _ _ := HF1.put_man (m := ⟨(t : Nat), ma, sz, sm, hm⟩) (v := v6') hvv (k := t) HTM.out hNS1 HSL.out
        have HF := Lib.hid hfin
        clear hfin hNS hNS1
        have HF1H := Lib.hid HF1
        have hcell : ∀ q (hq : q < 5), ∃ u, (w8.setCell ⟨g, t, none⟩ (.bool true)).cell? ⟨g6, t * 5 + q, none⟩ = some u := fun q hq => by
          obtain ⟨u, hu⟩ : ∃ u, (mcells s.ms[t] (vs t))[q]? = some u := ⟨_, List.getElem?_eq_getElem (show q < 5 from hq)⟩
          exact ⟨u, HF1H.out.rows.pool_cell hvv (k := t) HTM.out hq hu⟩
        obtain ⟨u0, y0⟩ := hcell 0 (by omega)
        obtain ⟨u1, y1⟩ := hcell 1 (by omega)
        obtain ⟨u2, y2⟩ := hcell 2 (by omega)
        obtain ⟨u3, y3⟩ := hcell 3 (by omega)
        obtain ⟨u4, y4⟩ := hcell 4 (by omega)
        rw [Nat.add_zero] at y0
        have z0 : (w8.setCell ⟨g, t, none⟩ (.bool true)).frozen? ⟨g6, t * 5, none⟩ = false := HF1H.out.rows.pool.free 1 HF1H.out.rows.m hvv (t * 5)
        have z1 : (w8.setCell ⟨g, t, none⟩ (.bool true)).frozen? ⟨g6, t * 5 + 1, none⟩ = false := HF1H.out.rows.pool.free 1 HF1H.out.rows.m hvv (t * 5 + 1)
        have z2 : (w8.setCell ⟨g, t, none⟩ (.bool true)).frozen? ⟨g6, t * 5 + 2, none⟩ = false := HF1H.out.rows.pool.free 1 HF1H.out.rows.m hvv (t * 5 + 2)
        have z3 : (w8.setCell ⟨g, t, none⟩ (.bool true)).frozen? ⟨g6, t * 5 + 3, none⟩ = false := HF1H.out.rows.pool.free 1 HF1H.out.rows.m hvv (t * 5 + 3)
        have z4 : (w8.setCell ⟨g, t, none⟩ (.bool true)).frozen? ⟨g6, t * 5 + 4, none⟩ = false := HF1H.out.rows.pool.free 1 HF1H.out.rows.m hvv (t * 5 + 4)
        have HBF := Lib.hid (((((((hB8.mono hlo).setCell (p := ⟨g, t, none⟩) hlo4 (.bool true)).setCell (p := ⟨g6, t * 5, none⟩) hlo6 (.int .i64 (t : Nat))).setCell (p := ⟨g6, t * 5 + 1, none⟩) hlo6 (.int .i64 ma)).setCell (p := ⟨g6, t * 5 + 2, none⟩) hlo6 (.slice v6'.A2 sz.length v6'.c2)).setCell (p := ⟨g6, t * 5 + 3, none⟩) hlo6 (.slice v6'.A3 sm.length v6'.c3)).setCell (p := ⟨g6, t * 5 + 4, none⟩) hlo6 (.slice v6'.A4 hm.length v6'.c4))
        clear HF1 HO1 HO hB8 hcell hvv hd hN
        refine hK.out _ _ (fun _ => ⟨p2, p3, r4, r5, r6, r7, r8⟩) ?_
        clear hK K
        (try simp only [Act.put, List.setIfInBounds_toArray, List.set_cons_zero, List.set_cons_succ])
        refine RegG.wpG.pure (v := ?_) 13 14 rfl (by kernel_rfl) (by decide) (fun _ _ _ h => h) ?_ rfl (fun _ => ⟨p2, p3, r4, r5, r6, r7, r8⟩) ?_
        rotate_left
        · (intro w; go_simp; first | done | with_reducible rfl)
        (try simp only [Act.put, List.setIfInBounds_toArray, List.set_cons_zero, List.set_cons_succ])
        refine RegG.wpG.one 14 (by kernel_rfl) rfl rfl (fun K hK => ?_)
        go_simp
        refine hK.out _ _ (fun h => absurd h (by decide)) ?_
        clear hK K z5 y5 p2 p3 r4 r5 r6 r7 r8
        (try simp only [Act.put, List.setIfInBounds_toArray, List.set_cons_zero, List.set_cons_succ])
        refine RegG.wpG.pure (v := ?_) 15 16 rfl (by kernel_rfl) (by decide) (fun _ _ _ h => h) ?_ rfl (fun h => absurd h (by decide)) ?_
        rotate_left
        · (intro w; go_simp; first | done | with_reducible rfl)
        (try simp only [Act.put, List.setIfInBounds_toArray, List.set_cons_zero, List.set_cons_succ])
        refine RegG.wpG.one 16 (by kernel_rfl) rfl rfl (fun K hK => ?_)
        go_simp
        refine hK.out _ _ (fun h => absurd h (by decide)) ?_
        clear hK K y0 y1 y2 y3 y4 z0 z1 z2 z3 z4
        (try simp only [Act.put, List.setIfInBounds_toArray, List.set_cons_zero, List.set_cons_succ])
        refine RegG.wpG.done (by kernel_rfl) ?_ _
        go_wp2
        go_ret
        rw [HP.out]
        exact ⟨rfl, ⟨_, _, _, _, _, _, _, _, _, HF.out⟩, HBF.out⟩
      | true =>
        cases V with
        | true =>
          have hne : oa ≠ ma := by simpa using hV
          rw [if_pos (.inr ⟨rfl, .inl hne⟩)] at hP
          have HP := Lib.hid hP
          clear hP
          go_wp2_with (first | (go_at_call 45; (with_reducible refine (HCI.out _ HB5 HB0).mono ?_); rintro e w7 ⟨rfl, hd⟩; replace r4 := cell_below hd r4; replace r5 := cell_below hd r5; replace r6 := cell_below hd r6; replace r7 := cell_below hd r7; replace r8 := cell_below hd r8; replace p2 := cell_below hd p2; replace p3 := cell_below hd p3; replace q1 := cell_below hd q1; replace q2 := cell_below hd q2; replace q3 := cell_below hd q3; replace HO := HO.below hd; replace HB0 := bt HB0 HB0.size hd; replace HB5 := bt HB5 HB5.size hd; clear hd) | (go_at_call 46; (with_reducible refine (HCU.out _ HB5 HB0).mono ?_); rintro e w7 ⟨rfl, hd⟩; replace r4 := cell_below hd r4; replace r5 := cell_below hd r5; replace r6 := cell_below hd r6; replace r7 := cell_below hd r7; replace r8 := cell_below hd r8; replace p2 := cell_below hd p2; replace p3 := cell_below hd p3; replace q1 := cell_below hd q1; replace q2 := cell_below hd q2; replace q3 := cell_below hd q3; replace HO := HO.below hd; replace HB0 := bt HB0 HB0.size hd; replace HB5 := bt HB5 HB5.size hd; clear hd))
          go_ret
          rw [HP.out]
          exact ⟨rfl, ⟨_, _, _, _, _, _, _, _, _, HO⟩, HB0.mono hlo⟩
        | false =>
          have heq : oa = ma := by simpa using hV
          have HEQ := Lib.hid heq
          clear heq
          cases Z with
          | false =>
            rw [if_pos (.inr ⟨rfl, .inr (.inl (of_decide_eq_false hZP.out))⟩)] at hP
            have HP := Lib.hid hP
            clear hP
            go_wp2_with (first | (go_at_call 45; (with_reducible refine (HCI.out _ HB5 HB0).mono ?_); rintro e w7 ⟨rfl, hd⟩; replace r4 := cell_below hd r4; replace r5 := cell_below hd r5; replace r6 := cell_below hd r6; replace r7 := cell_below hd r7; replace r8 := cell_below hd r8; replace p2 := cell_below hd p2; replace p3 := cell_below hd p3; replace q1 := cell_below hd q1; replace q2 := cell_below hd q2; replace q3 := cell_below hd q3; replace HO := HO.below hd; replace HB0 := bt HB0 HB0.size hd; replace HB5 := bt HB5 HB5.size hd; clear hd) | (go_at_call 46; (with_reducible refine (HCU.out _ HB5 HB0).mono ?_); rintro e w7 ⟨rfl, hd⟩; replace r4 := cell_below hd r4; replace r5 := cell_below hd r5; replace r6 := cell_below hd r6; replace r7 := cell_below hd r7; replace r8 := cell_below hd r8; replace p2 := cell_below hd p2; replace p3 := cell_below hd p3; replace q1 := cell_below hd q1; replace q2 := cell_below hd q2; replace q3 := cell_below hd q3; replace HO := HO.below hd; replace HB0 := bt HB0 HB0.size hd; replace HB5 := bt HB5 HB5.size hd; clear hd))
            go_ret
            rw [HP.out]
            exact ⟨rfl, ⟨_, _, _, _, _, _, _, _, _, HO⟩, HB0.mono hlo⟩
          | true =>
            cases Y with
            | false =>
              rw [if_pos (.inr ⟨rfl, .inr (.inr (of_decide_eq_false hYP.out))⟩)] at hP
              have HP := Lib.hid hP
              clear hP
              go_wp2_with (first | (go_at_call 45; (with_reducible refine (HCI.out _ HB5 HB0).mono ?_); rintro e w7 ⟨rfl, hd⟩; replace r4 := cell_below hd r4; replace r5 := cell_below hd r5; replace r6 := cell_below hd r6; replace r7 := cell_below hd r7; replace r8 := cell_below hd r8; replace p2 := cell_below hd p2; replace p3 := cell_below hd p3; replace q1 := cell_below hd q1; replace q2 := cell_below hd q2; replace q3 := cell_below hd q3; replace HO := HO.below hd; replace HB0 := bt HB0 HB0.size hd; replace HB5 := bt HB5 HB5.size hd; clear hd) | (go_at_call 46; (with_reducible refine (HCU.out _ HB5 HB0).mono ?_); rintro e w7 ⟨rfl, hd⟩; replace r4 := cell_below hd r4; replace r5 := cell_below hd r5; replace r6 := cell_below hd r6; replace r7 := cell_below hd r7; replace r8 := cell_below hd r8; replace p2 := cell_below hd p2; replace p3 := cell_below hd p3; replace q1 := cell_below hd q1; replace q2 := cell_below hd q2; replace q3 := cell_below hd q3; replace HO := HO.below hd; replace HB0 := bt HB0 HB0.size hd; replace HB5 := bt HB5 HB5.size hd; clear hd))
              go_ret
              rw [HP.out]
              exact ⟨rfl, ⟨_, _, _, _, _, _, _, _, _, HO⟩, HB0.mono hlo⟩
            | true =>
              rw [if_neg (by rintro (h | ⟨_, h | h | h⟩); exact h rfl; exact h HEQ.out; exact h (of_decide_eq_true hZP.out); exact h (of_decide_eq_true hYP.out))] at hP
              have HP := Lib.hid hP
              clear hP
              go_upto_region 7 with (first | (go_at_call 45; (with_reducible refine (HCI.out _ HB5 HB0).mono ?_); rintro e w7 ⟨rfl, hd⟩; replace r4 := cell_below hd r4; replace r5 := cell_below hd r5; replace r6 := cell_below hd r6; replace r7 := cell_below hd r7; replace r8 := cell_below hd r8; replace p2 := cell_below hd p2; replace p3 := cell_below hd p3; replace q1 := cell_below hd q1; replace q2 := cell_below hd q2; replace q3 := cell_below hd q3; replace HO := HO.below hd; replace HB0 := bt HB0 HB0.size hd; replace HB5 := bt HB5 HB5.size hd; clear hd) | (go_at_call 46; (with_reducible refine (HCU.out _ HB5 HB0).mono ?_); rintro e w7 ⟨rfl, hd⟩; replace r4 := cell_below hd r4; replace r5 := cell_below hd r5; replace r6 := cell_below hd r6; replace r7 := cell_below hd r7; replace r8 := cell_below hd r8; replace p2 := cell_below hd p2; replace p3 := cell_below hd p3; replace q1 := cell_below hd q1; replace q2 := cell_below hd q2; replace q3 := cell_below hd q3; replace HO := HO.below hd; replace HB0 := bt HB0 HB0.size hd; replace HB5 := bt HB5 HB5.size hd; clear hd))
              replace HO := HO.below (w' := World.drew w7) ((Below.refl _ _).drew)
              replace HB0 := HB0.drew
              have HOH := Lib.hid HO
              refine RegG.wp_region_g (fun W => W.cell? ⟨ob, 2, none⟩ = some (.slice (some ⟨g, 0, none⟩) s.done.length c2) ∧ W.cell? ⟨ob, 3, none⟩ = some (.slice (some ⟨g6, 0, none⟩) s.done.length c3) ∧ W.cell? ⟨w.heap.size, 4, none⟩ = some (.int .i64 (t : Nat)) ∧ W.cell? ⟨w.heap.size, 5, none⟩ = some (.int .i64 ma) ∧ W.cell? ⟨w.heap.size, 6, none⟩ = some (.slice B2 sz.length d2) ∧ W.cell? ⟨w.heap.size, 7, none⟩ = some (.slice B3 sm.length d3) ∧ W.cell? ⟨w.heap.size, 8, none⟩ = some (.slice B4 hm.length d4)) [12, 14] (by kernel_rfl) ?_
              refine RegG.wpG.pure (v := ?_) 0 1 rfl (by kernel_rfl) (by decide) (fun _ _ _ h => h) ?_ rfl (fun _ => ⟨p2, p3, r4, r5, r6, r7, r8⟩) ?_
              rotate_left
              · (intro w; go_simp; first | done | with_reducible rfl)
              (try simp only [Act.put, List.setIfInBounds_toArray, List.set_cons_zero, List.set_cons_succ])
              refine RegG.wpG.pure (v := ?_) 1 2 rfl (by kernel_rfl) (by decide) (fun _ _ _ h => h) ?_ rfl (fun _ => ⟨p2, p3, r4, r5, r6, r7, r8⟩) ?_
              rotate_left
              · (intro w; go_simp; first | done | with_reducible rfl)
              (try simp only [Act.put, List.setIfInBounds_toArray, List.set_cons_zero, List.set_cons_succ])
              refine RegG.wpG.pure (v := ?_) 2 3 rfl (by kernel_rfl) (by decide) (fun _ _ _ h => h) ?_ rfl (fun _ => ⟨p2, p3, r4, r5, r6, r7, r8⟩) ?_
              rotate_left
              · (intro w; go_simp; first | done | with_reducible rfl)
              (try simp only [Act.put, List.setIfInBounds_toArray, List.set_cons_zero, List.set_cons_succ])
              refine RegG.wpG.load (v := ?_) 3 14 rfl (by kernel_rfl) (by decide) (by decide) (fun _ _ _ h => h) ?_ rfl ⟨p2, p3, r4, r5, r6, r7, r8⟩ ?_
              rotate_left
              · (rintro w ⟨s2, s3, s4, s5, s6, s7, s8⟩; go_simp; first | done | with_reducible rfl)
              (try simp only [Act.put, List.setIfInBounds_toArray, List.set_cons_zero, List.set_cons_succ])
              refine RegG.wpG.pure (v := ?_) 4 13 rfl (by kernel_rfl) (by decide) (fun _ _ _ h => h) ?_ rfl (fun _ => ⟨p2, p3, r4, r5, r6, r7, r8⟩) ?_
              rotate_left
              · (intro w; go_simp; first | done | with_reducible rfl)
              (try simp only [Act.put, List.setIfInBounds_toArray, List.set_cons_zero, List.set_cons_succ])
              refine RegG.wpG.pure (v := ?_) 5 6 rfl (by kernel_rfl) (by decide) (fun _ _ _ h => h) ?_ rfl (fun _ => ⟨p2, p3, r4, r5, r6, r7, r8⟩) ?_
              rotate_left
              · (intro w; go_simp; first | done | with_reducible rfl)
              (try simp only [Act.put, List.setIfInBounds_toArray, List.set_cons_zero, List.set_cons_succ])
              refine RegG.wpG.pure (v := ?_) 6 7 rfl (by kernel_rfl) (by decide) (fun _ _ _ h => h) ?_ rfl (fun _ => ⟨p2, p3, r4, r5, r6, r7, r8⟩) ?_
              rotate_left
              · (intro w; go_simp; first | done | with_reducible rfl)
              (try simp only [Act.put, List.setIfInBounds_toArray, List.set_cons_zero, List.set_cons_succ])
              refine RegG.wpG.pure (v := ?_) 7 8 rfl (by kernel_rfl) (by decide) (fun _ _ _ h => h) ?_ rfl (fun _ => ⟨p2, p3, r4, r5, r6, r7, r8⟩) ?_
              rotate_left
              · (intro w; go_simp; first | done | with_reducible rfl)
              (try simp only [Act.put, List.setIfInBounds_toArray, List.set_cons_zero, List.set_cons_succ])
              refine RegG.wpG.load (v := ?_) 8 14 rfl (by kernel_rfl) (by decide) (by decide) (fun _ _ _ h => h) ?_ rfl ⟨p2, p3, r4, r5, r6, r7, r8⟩ ?_
              rotate_left
              · (rintro w ⟨s2, s3, s4, s5, s6, s7, s8⟩; go_simp; first | done | with_reducible rfl)
              (try simp only [Act.put, List.setIfInBounds_toArray, List.set_cons_zero, List.set_cons_succ])
              refine RegG.wpG.pure (v := ?_) 9 15 rfl (by kernel_rfl) (by decide) (fun _ _ _ h => h) ?_ rfl (fun _ => ⟨p2, p3, r4, r5, r6, r7, r8⟩) ?_
              rotate_left
              · (intro w; go_simp; first | done | with_reducible rfl)
              (try simp only [Act.put, List.setIfInBounds_toArray, List.set_cons_zero, List.set_cons_succ])
              refine RegG.wpG.pure (v := ?_) 10 11 rfl (by kernel_rfl) (by decide) (fun _ _ _ h => h) ?_ rfl (fun _ => ⟨p2, p3, r4, r5, r6, r7, r8⟩) ?_
              rotate_left
              · (intro w; go_simp; first | done | with_reducible rfl)
              (try simp only [Act.put, List.setIfInBounds_toArray, List.set_cons_zero, List.set_cons_succ])
              refine RegG.wpG.load (v := ?_) 11 12 rfl (by kernel_rfl) (by decide) (by decide) (fun _ _ _ h => h) ?_ rfl ⟨p2, p3, r4, r5, r6, r7, r8⟩ ?_
              rotate_left
              · (rintro w ⟨s2, s3, s4, s5, s6, s7, s8⟩; go_simp; first | done | with_reducible rfl)
              (try simp only [Act.put, List.setIfInBounds_toArray, List.set_cons_zero, List.set_cons_succ])
              refine RegG.wpG.one 12 (by kernel_rfl) rfl rfl (fun K hK => ?_)
              go_simp
              go_at_call 77
              (with_reducible refine (HMC.out _ HB0).mono ?_)
              rintro e w8 ⟨v6', rfl, hN, hd⟩
              replace p2 := cell_below hd p2
              replace p3 := cell_below hd p3
              replace r4 := cell_below hd r4
              replace r5 := cell_below hd r5
              replace r6 := cell_below hd r6
              replace r7 := cell_below hd r7
              replace r8 := cell_below hd r8
              have HO1 := HOH.out.below hd
              have hB8 := bt HB0 HB0.size hd
              have hNS := new_safe HOH.out.rows.pool (Nat.le_trans hlo HB0.size) hN
              have hNS1 : ManB (Safe lo (up F 0 ⟨4, 1, .slice (some ⟨g, 0, none⟩) s.done.length c2, s.done.length, (bvs s.done).set t (.bool true)⟩) (w8.setCell ⟨g, t, none⟩ (.bool true)).heap.size) (w8.setCell ⟨g, t, none⟩ (.bool true)) v6' ⟨(t : Nat), ma, sz, sm, hm⟩ := by
                rw [show (w8.setCell ⟨g, t, none⟩ (.bool true)).heap.size = w8.heap.size from by simp]
                exact (hNS.keep (fun q hq => heap_setCell_other _ _ _ _ (fun e => hq.2 0 (by rw [HO1.rows.d, e]; rfl)))).mono (fun q hq => safe_chg (Nat.le_refl _) (.inl (by rw [HO1.rows.d])) hq)
              have z5 := HO1.rows.pool.free 0 HO1.rows.d rfl t
              have y5 := HO1.rows.pool.cell 0 HO1.rows.d rfl (bvs_get ht' HDD.out)
              have hlo4 := (HO1.rows.pool.lt 0 (g := g) (by rw [HO1.rows.d]; rfl)).1
              have hlo6 := (HO1.rows.pool.lt 1 (g := g6) (by rw [HO1.rows.m]; rfl)).1
              have HF1 := HO1.put (s' := { s with done := s.done.set t true }) 0 HO1.rows.d rfl t (.bool true) ⟨by rw [up_self, bvs_set]; simp, ((up_ne _ _ (by decide)).trans HO1.rows.m).trans (by simp), ((up_ne _ _ (by decide)).trans HO1.rows.t).trans (by simp), (up_ne _ _ (by decide)).trans HO1.rows.h, (up_ne _ _ (by decide)).trans HO1.rows.r, (up_ne _ _ (by decide)).trans HO1.rows.p, (up_ne _ _ (by decide)).trans HO1.rows.c, (up_ne _ _ (by decide)).trans HO1.box⟩ rfl HO1.rows.rt HO1.rows.rp ⟨by simp [HO1.rows.ok.lm], by simp [HO1.rows.ok.lt], HO1.rows.ok.lr, HO1.rows.ok.lp, HO1.rows.ok.lc, by simpa using HO1.rows.ok.few, HO1.rows.ok.fewp, HO1.rows.ok.slim⟩
              have hvv : (Value.slice (some ⟨g6, 0, none⟩) s.done.length c3) = .slice (some ⟨g6, 0, none⟩) ({ s with done := s.done.set t true } : LS).done.length c3 := by simp
              have hfin : OwnS ((((((w8.setCell ⟨g, t, none⟩ (.bool true)).setCell ⟨g6, t * 5, none⟩ (.int .i64 (t : Nat))).setCell ⟨g6, t * 5 + 1, none⟩ (.int .i64 ma)).setCell ⟨g6, t * 5 + 2, none⟩ (.slice v6'.A2 sz.length v6'.c2)).setCell ⟨g6, t * 5 + 3, none⟩ (.slice v6'.A3 sm.length v6'.c3)).setCell ⟨g6, t * 5 + 4, none⟩ (.slice v6'.A4 hm.length v6'.c4)) lo ob _ _ _ _ _ _ _ _ _ _ := HF1.put_man (m := ⟨(t : Nat), ma, sz, sm, hm⟩) (v := v6') hvv (k := t) HTM.out hNS1 HSL.out
              have HF := Lib.hid hfin
              clear hfin hNS hNS1
              have HF1H := Lib.hid HF1
              have hcell : ∀ q (hq : q < 5), ∃ u, (w8.setCell ⟨g, t, none⟩ (.bool true)).cell? ⟨g6, t * 5 + q, none⟩ = some u := fun q hq => by
                obtain ⟨u, hu⟩ : ∃ u, (mcells s.ms[t] (vs t))[q]? = some u := ⟨_, List.getElem?_eq_getElem (show q < 5 from hq)⟩
                exact ⟨u, HF1H.out.rows.pool_cell hvv (k := t) HTM.out hq hu⟩
              obtain ⟨u0, y0⟩ := hcell 0 (by omega)
              obtain ⟨u1, y1⟩ := hcell 1 (by omega)
              obtain ⟨u2, y2⟩ := hcell 2 (by omega)
              obtain ⟨u3, y3⟩ := hcell 3 (by omega)
              obtain ⟨u4, y4⟩ := hcell 4 (by omega)
              rw [Nat.add_zero] at y0
              have z0 : (w8.setCell ⟨g, t, none⟩ (.bool true)).frozen? ⟨g6, t * 5, none⟩ = false := HF1H.out.rows.pool.free 1 HF1H.out.rows.m hvv (t * 5)
              have z1 : (w8.setCell ⟨g, t, none⟩ (.bool true)).frozen? ⟨g6, t * 5 + 1, none⟩ = false := HF1H.out.rows.pool.free 1 HF1H.out.rows.m hvv (t * 5 + 1)
              have z2 : (w8.setCell ⟨g, t, none⟩ (.bool true)).frozen? ⟨g6, t * 5 + 2, none⟩ = false := HF1H.out.rows.pool.free 1 HF1H.out.rows.m hvv (t * 5 + 2)
              have z3 : (w8.setCell ⟨g, t, none⟩ (.bool true)).frozen? ⟨g6, t * 5 + 3, none⟩ = false := HF1H.out.rows.pool.free 1 HF1H.out.rows.m hvv (t * 5 + 3)
              have z4 : (w8.setCell ⟨g, t, none⟩ (.bool true)).frozen? ⟨g6, t * 5 + 4, none⟩ = false := HF1H.out.rows.pool.free 1 HF1H.out.rows.m hvv (t * 5 + 4)
              have HBF := Lib.hid (((((((hB8.mono hlo).setCell (p := ⟨g, t, none⟩) hlo4 (.bool true)).setCell (p := ⟨g6, t * 5, none⟩) hlo6 (.int .i64 (t : Nat))).setCell (p := ⟨g6, t * 5 + 1, none⟩) hlo6 (.int .i64 ma)).setCell (p := ⟨g6, t * 5 + 2, none⟩) hlo6 (.slice v6'.A2 sz.length v6'.c2)).setCell (p := ⟨g6, t * 5 + 3, none⟩) hlo6 (.slice v6'.A3 sm.length v6'.c3)).setCell (p := ⟨g6, t * 5 + 4, none⟩) hlo6 (.slice v6'.A4 hm.length v6'.c4))
              clear HF1 HO1 HO hB8 hcell hvv hd hN
              refine hK.out _ _ (fun _ => ⟨p2, p3, r4, r5, r6, r7, r8⟩) ?_
              clear hK K
              (try simp only [Act.put, List.setIfInBounds_toArray, List.set_cons_zero, List.set_cons_succ])
              refine RegG.wpG.pure (v := ?_) 13 14 rfl (by kernel_rfl) (by decide) (fun _ _ _ h => h) ?_ rfl (fun _ => ⟨p2, p3, r4, r5, r6, r7, r8⟩) ?_
              rotate_left
              · (intro w; go_simp; first | done | with_reducible rfl)
              (try simp only [Act.put, List.setIfInBounds_toArray, List.set_cons_zero, List.set_cons_succ])
              refine RegG.wpG.one 14 (by kernel_rfl) rfl rfl (fun K hK => ?_)
              go_simp
              refine hK.out _ _ (fun h => absurd h (by decide)) ?_
              clear hK K z5 y5 p2 p3 r4 r5 r6 r7 r8
              (try simp only [Act.put, List.setIfInBounds_toArray, List.set_cons_zero, List.set_cons_succ])
              refine RegG.wpG.pure (v := ?_) 15 16 rfl (by kernel_rfl) (by decide) (fun _ _ _ h => h) ?_ rfl (fun h => absurd h (by decide)) ?_
              rotate_left
              · (intro w; go_simp; first | done | with_reducible rfl)
              (try simp only [Act.put, List.setIfInBounds_toArray, List.set_cons_zero, List.set_cons_succ])
              refine RegG.wpG.one 16 (by kernel_rfl) rfl rfl (fun K hK => ?_)
              go_simp
              refine hK.out _ _ (fun h => absurd h (by decide)) ?_
              clear hK K y0 y1 y2 y3 y4 z0 z1 z2 z3 z4
              (try simp only [Act.put, List.setIfInBounds_toArray, List.set_cons_zero, List.set_cons_succ])
              refine RegG.wpG.done (by kernel_rfl) ?_ _
              go_wp2
              go_ret
              rw [HP.out]
              exact ⟨rfl, ⟨_, _, _, _, _, _, _, _, _, HF.out⟩, HBF.out⟩
    · have tT : (T != 0) = true := int_bne t0
      rw [if_pos (.inl t0)] at hP
      have HP := Lib.hid hP
      clear hP
      go_wp2_with (first | (go_at_call 45; (with_reducible refine (HCI.out _ HB5 HB0).mono ?_); rintro e w7 ⟨rfl, hd⟩; replace r4 := cell_below hd r4; replace r5 := cell_below hd r5; replace r6 := cell_below hd r6; replace r7 := cell_below hd r7; replace r8 := cell_below hd r8; replace p2 := cell_below hd p2; replace p3 := cell_below hd p3; replace q1 := cell_below hd q1; replace q2 := cell_below hd q2; replace q3 := cell_below hd q3; replace HO := HO.below hd; replace HB0 := bt HB0 HB0.size hd; replace HB5 := bt HB5 HB5.size hd; clear hd) | (go_at_call 46; (with_reducible refine (HCU.out _ HB5 HB0).mono ?_); rintro e w7 ⟨rfl, hd⟩; replace r4 := cell_below hd r4; replace r5 := cell_below hd r5; replace r6 := cell_below hd r6; replace r7 := cell_below hd r7; replace r8 := cell_below hd r8; replace p2 := cell_below hd p2; replace p3 := cell_below hd p3; replace q1 := cell_below hd q1; replace q2 := cell_below hd q2; replace q3 := cell_below hd q3; replace HO := HO.below hd; replace HB0 := bt HB0 HB0.size hd; replace HB5 := bt HB5 HB5.size hd; clear hd))
      go_ret
      rw [HP.out]
      exact ⟨rfl, ⟨_, _, _, _, _, _, _, _, _, HO⟩, HB0.mono hlo⟩
end Go.Proofs.Ytmlemichkeomjaa.LedW
