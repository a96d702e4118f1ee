/- The law MsgThere walked. -/
import Derived.Test.YtdjgdhpncocahaaMsgL
import Derived.Deep.DeepCutAuto
set_option linter.unusedVariables false
set_option linter.unusedSimpArgs false
namespace Go.Proofs.Ytdjgdhpncocahaa.MsgW
open Go.RowKit Go.Proofs.Ytdjgdhpncocahaa.Base Go.Proofs.Ytdjgdhpncocahaa.EqsW Go.Proofs.Ytdjgdhpncocahaa.TapeP Go.Proofs.Ytdjgdhpncocahaa.TapeW Go.Proofs.Ytdjgdhpncocahaa.CrcP Go.Proofs.Ytdjgdhpncocahaa.CrcW Go.Proofs.Ytdjgdhpncocahaa.MsgP
theorem heap_old {w : World} {k : Nat} {o : Obj} (x : Obj) (h : w.heap[k]? = some o) : (w.alloc x).heap[k]? = some o := heap_below h ((Below.refl w.heap.size w).alloc (Nat.le_refl _) x)
theorem drew_out {w w' : World} {o : Obj} (h : Below (w.alloc o).drew.heap.size (w.alloc o).drew w') : Below (w.drew.alloc o).heap.size (w.drew.alloc o) w' := h
theorem heap_out {w w6 : World} {o : Obj} (h : w6.heap[w.drew.heap.size]? = some o) : w6.heap[w.heap.size]? = some o := h
theorem row_set {w : World} {b j : Nat} {cs : Array Value} {T : TypeId} {z : Nat × Nat} {v : Value} (h : w.heap[b]? = some (.cells cs T z)) : (w.setCell ⟨b, j, none⟩ v).heap[b]? = some (.cells (cs.setIfInBounds j v) T z) := by
  simp [World.setCell, Array.getElem?_modify, h]
theorem box_fin {B X Y : Nat} {w W : World} {T : TypeId} {o : Obj} {v0 v1 v2 v3 v4 v5 v6 v7 v8 v9 v10 u0 u1 u2 u3 u4 u5 u6 u7 u8 u9 u10 : Value} (hN : W.heap[Y]? = some (.cells #[u0, u1, u2, u3, u4, u5, u6, u7, u8, u9, u10] T (0, 0))) (hX : W.heap[X]? = some o) (hne : X ≠ Y) (hB : Below B w W) (hY : B ≤ Y) :
    ((((((((((((W.setCell ⟨Y, 0, none⟩ v0).setCell ⟨Y, 1, none⟩ v1).setCell ⟨Y, 2, none⟩ v2).setCell ⟨Y, 3, none⟩ v3).setCell ⟨Y, 4, none⟩ v4).setCell ⟨Y, 5, none⟩ v5).setCell ⟨Y, 6, none⟩ v6).setCell ⟨Y, 7, none⟩ v7).setCell ⟨Y, 8, none⟩ v8).setCell ⟨Y, 9, none⟩ v9).setCell ⟨Y, 10, none⟩ v10)).heap[X]? = some o ∧ ((((((((((((W.setCell ⟨Y, 0, none⟩ v0).setCell ⟨Y, 1, none⟩ v1).setCell ⟨Y, 2, none⟩ v2).setCell ⟨Y, 3, none⟩ v3).setCell ⟨Y, 4, none⟩ v4).setCell ⟨Y, 5, none⟩ v5).setCell ⟨Y, 6, none⟩ v6).setCell ⟨Y, 7, none⟩ v7).setCell ⟨Y, 8, none⟩ v8).setCell ⟨Y, 9, none⟩ v9).setCell ⟨Y, 10, none⟩ v10)).heap[Y]? = some (.cells #[v0, v1, v2, v3, v4, v5, v6, v7, v8, v9, v10] T (0, 0)) ∧ Below B w ((((((((((((W.setCell ⟨Y, 0, none⟩ v0).setCell ⟨Y, 1, none⟩ v1).setCell ⟨Y, 2, none⟩ v2).setCell ⟨Y, 3, none⟩ v3).setCell ⟨Y, 4, none⟩ v4).setCell ⟨Y, 5, none⟩ v5).setCell ⟨Y, 6, none⟩ v6).setCell ⟨Y, 7, none⟩ v7).setCell ⟨Y, 8, none⟩ v8).setCell ⟨Y, 9, none⟩ v9).setCell ⟨Y, 10, none⟩ v10)) :=
  ⟨(heap_set (heap_set (heap_set (heap_set (heap_set (heap_set (heap_set (heap_set (heap_set (heap_set (heap_set hX hne) hne) hne) hne) hne) hne) hne) hne) hne) hne) hne), by have h := row_set (j := 10) (v := v10) (row_set (j := 9) (v := v9) (row_set (j := 8) (v := v8) (row_set (j := 7) (v := v7) (row_set (j := 6) (v := v6) (row_set (j := 5) (v := v5) (row_set (j := 4) (v := v4) (row_set (j := 3) (v := v3) (row_set (j := 2) (v := v2) (row_set (j := 1) (v := v1) (row_set (j := 0) (v := v0) hN)))))))))); simpa using h, (Below.setCell (Below.setCell (Below.setCell (Below.setCell (Below.setCell (Below.setCell (Below.setCell (Below.setCell (Below.setCell (Below.setCell (Below.setCell hB hY _) hY _) hY _) hY _) hY _) hY _) hY _) hY _) hY _) hY _) hY _)⟩

set_option maxRecDepth 100000 in
set_option maxHeartbeats 2000000 in
theorem there_few (n0 n1 n2 n3 n4 n5 n6 n7 n8 : Int) (t : ByteArray) (A : Option Addr) (ln cp : Nat) (kind : Int) (x : Nat) (ss : List ByteArray) (w : World) (hS : Strs w A ln ss) (ht : t.size ≤ 140737488351232) (hf : fewB t ss = false) :
    Calls Try.prog 21 #[(.agg #[.int .i64 n0, .int .i64 n1, .int .i64 n2, .int .i64 n3, .int .i64 n4, .int .i64 n5, .int .i64 n6, .int .i64 n7, .int .i64 n8, .string t, .slice A ln cp]), .int .i64 kind, .int .u16 x] w fun e w' => e = .returned (.bool true) ∧ Below w.heap.size w w' := by
  have hF := fun W h => few_any n0 n1 n2 n3 n4 n5 n6 n7 n8 t A ln cp ss W h ht
  rw [hf] at hF
  have HF := Lib.hid hF
  clear hF hf
  go_enter Try.func21, Try.ntmps21
  go_upto_region 1 with fail
  have hA := heap_alloc_new w (.cells #[.int .i64 n0, .int .i64 n1, .int .i64 n2, .int .i64 n3, .int .i64 n4, .int .i64 n5, .int .i64 n6, .int .i64 n7, .int .i64 n8, .string t, .slice A ln cp] 28)
  have HB : Below w.heap.size w (w.alloc (.cells #[.int .i64 n0, .int .i64 n1, .int .i64 n2, .int .i64 n3, .int .i64 n4, .int .i64 n5, .int .i64 n6, .int .i64 n7, .int .i64 n8, .string t, .slice A ln cp] 28)) := (Below.refl w.heap.size w).alloc (by simp) _
  generalize w.alloc (.cells #[.int .i64 n0, .int .i64 n1, .int .i64 n2, .int .i64 n3, .int .i64 n4, .int .i64 n5, .int .i64 n6, .int .i64 n7, .int .i64 n8, .string t, .slice A ln cp] 28) = W1 at hA HB ⊢
  go_wp2_with (first | (go_at_call 25; (with_reducible refine (awake_any _).mono ?_); rintro e w2 ⟨rfl, hd⟩; replace hA := heap_below hA hd; obtain ⟨f0, f1, f2, f3, f4, f5, f6, f7, f8, f9, f10⟩ := box_cells hA; (first | replace HB := bt HB HB.size hd | replace HB := bt_drew HB HB.size hd | replace HB := bt_drewN HB HB.size hd); clear hd) | (go_at_call 26; refine (HF.out _ (hS.below HB)).mono ?_; rintro e w3 ⟨rfl, hd⟩; replace hA := heap_below hA hd; (first | replace HB := bt HB HB.size hd | replace HB := bt_drew HB HB.size hd | replace HB := bt_drewN HB HB.size hd); clear hd))
  all_goals (go_ret; exact ⟨rfl, HB⟩)
set_option maxRecDepth 100000 in
set_option maxHeartbeats 8000000 in
theorem there_any (n0 n1 n2 n3 n4 n5 n6 n7 n8 : Int) (t : ByteArray) (A : Option Addr) (ln cp : Nat) (kind : Int) (x : Nat) (ss : List ByteArray) (w : World) (hS : Strs w A ln ss) (ht : t.size ≤ 140737488351232) (hf : fewB t ss = true) (hn : ln ≤ 9223372036854775807) (hx : x ≤ 65535) :
    Calls Try.prog 21 #[(.agg #[.int .i64 n0, .int .i64 n1, .int .i64 n2, .int .i64 n3, .int .i64 n4, .int .i64 n5, .int .i64 n6, .int .i64 n7, .int .i64 n8, .string t, .slice A ln cp]), .int .i64 kind, .int .u16 x] w fun e w' => e = .returned (.bool true) ∧ Below w.heap.size w w' := by
  have hF := fun W h => few_any n0 n1 n2 n3 n4 n5 n6 n7 n8 t A ln cp ss W h ht
  rw [hf] at hF
  have HF := Lib.hid hF
  clear hF hf
  go_enter Try.func21, Try.ntmps21
  go_upto_region 1 with fail
  have hA := heap_alloc_new w (.cells #[.int .i64 n0, .int .i64 n1, .int .i64 n2, .int .i64 n3, .int .i64 n4, .int .i64 n5, .int .i64 n6, .int .i64 n7, .int .i64 n8, .string t, .slice A ln cp] 28)
  have HB : Below w.heap.size w (w.alloc (.cells #[.int .i64 n0, .int .i64 n1, .int .i64 n2, .int .i64 n3, .int .i64 n4, .int .i64 n5, .int .i64 n6, .int .i64 n7, .int .i64 n8, .string t, .slice A ln cp] 28)) := (Below.refl w.heap.size w).alloc (by simp) _
  generalize w.alloc (.cells #[.int .i64 n0, .int .i64 n1, .int .i64 n2, .int .i64 n3, .int .i64 n4, .int .i64 n5, .int .i64 n6, .int .i64 n7, .int .i64 n8, .string t, .slice A ln cp] 28) = W1 at hA HB ⊢
  go_upto_region 3 with (first | (go_at_call 25; (with_reducible refine (awake_any _).mono ?_); rintro e w2 ⟨rfl, hd⟩; replace hA := heap_below hA hd; obtain ⟨f0, f1, f2, f3, f4, f5, f6, f7, f8, f9, f10⟩ := box_cells hA; (first | replace HB := bt HB HB.size hd | replace HB := bt_drew HB HB.size hd | replace HB := bt_drewN HB HB.size hd); clear hd) | (go_at_call 26; refine (HF.out _ (hS.below HB)).mono ?_; rintro e w3 ⟨rfl, hd⟩; replace hA := heap_below hA hd; (first | replace HB := bt HB HB.size hd | replace HB := bt_drew HB HB.size hd | replace HB := bt_drewN HB HB.size hd); clear hd))
  clear f0 f1 f2 f3 f4 f5 f6 f7 f8 f9 f10
  obtain ⟨f0, f1, f2, f3, f4, f5, f6, f7, f8, f9, f10⟩ := box_cells hA
  go_upto_region 4 with (go_at_call 29; refine (of_any _ _ _ _ _ _ _ _ _ _ _ _ _ _).mono ?_; rintro e w4 ⟨rfl, hd⟩; (first | replace HB := bt HB HB.size hd | replace HB := bt_drew HB HB.size hd | replace HB := bt_drewN HB HB.size hd); clear hd)
  clear f0 f1 f2 f3 f4 f5 f6 f7 f8 f9 f10 hA
  have hX := heap_alloc_new w4 (.cells #[.int .i64 n0, .int .i64 n1, .int .i64 n2, .int .i64 n3, .int .i64 n4, .int .i64 n5, .int .i64 n6, .int .i64 n7, .int .i64 n8, .string t, .slice A ln cp] 33)
  replace HB := HB.alloc HB.size (.cells #[.int .i64 n0, .int .i64 n1, .int .i64 n2, .int .i64 n3, .int .i64 n4, .int .i64 n5, .int .i64 n6, .int .i64 n7, .int .i64 n8, .string t, .slice A ln cp] 33)
  generalize w4.alloc (.cells #[.int .i64 n0, .int .i64 n1, .int .i64 n2, .int .i64 n3, .int .i64 n4, .int .i64 n5, .int .i64 n6, .int .i64 n7, .int .i64 n8, .string t, .slice A ln cp] 33) = W5 at hX HB ⊢
  generalize w4.heap.size = X at *
  obtain ⟨f0, f1, f2, f3, f4, f5, f6, f7, f8, f9, f10⟩ := box_cells hX
  have g0 : W5.drew.cell? ⟨X, 0, none⟩ = some (.int .i64 n0) := f0
  have gX : W5.drew.heap[X]? = some (.cells #[.int .i64 n0, .int .i64 n1, .int .i64 n2, .int .i64 n3, .int .i64 n4, .int .i64 n5, .int .i64 n6, .int .i64 n7, .int .i64 n8, .string t, .slice A ln cp] 33 (0, 0)) := hX
  have gB : Below w.heap.size w W5.drew := HB.drew
  obtain ⟨e0, e1, e2, e3, e4, e5, e6, e7, e8, e9, e10⟩ := box_cells gX
  have p0 := fun o => cell_old o e0; have p1 := fun o => cell_old o e1; have p2 := fun o => cell_old o e2; have p3 := fun o => cell_old o e3; have p4 := fun o => cell_old o e4; have p5 := fun o => cell_old o e5; have p6 := fun o => cell_old o e6; have p7 := fun o => cell_old o e7; have p8 := fun o => cell_old o e8; have p9 := fun o => cell_old o e9; have p10 := fun o => cell_old o e10
  have o0 := fun o => cell_old o f0; have o1 := fun o => cell_old o f1; have o2 := fun o => cell_old o f2; have o3 := fun o => cell_old o f3; have o4 := fun o => cell_old o f4; have o5 := fun o => cell_old o f5; have o6 := fun o => cell_old o f6; have o7 := fun o => cell_old o f7; have o8 := fun o => cell_old o f8; have o9 := fun o => cell_old o f9; have o10 := fun o => cell_old o f10
  clear f0 f1 f2 f3 f4 f5 f6 f7 f8 f9 f10
  clear hX HB
  go_cut [8] (fun s8 wx => ∃ Y : Nat, s8 = .pointer (some ⟨Y, 0, none⟩) ∧ wx.heap[X]? = some (.cells #[.int .i64 n0, .int .i64 n1, .int .i64 n2, .int .i64 n3, .int .i64 n4, .int .i64 n5, .int .i64 n6, .int .i64 n7, .int .i64 n8, .string t, .slice A ln cp] 33 (0, 0)) ∧ wx.heap[Y]? = some (.cells #[.int .i64 n0, .int .i64 n1, .int .i64 n2, .int .i64 n3, .int .i64 n4, .int .i64 n5, .int .i64 n6, .int .i64 0, .int .i64 0, .string (str []), .slice none 0 0] 33 (0, 0)) ∧ Below w.heap.size w wx)
  case first =>
    go_region_with (go_at_call 28; refine (answer_any _ _ _ _ _ _ _ _ _ _ _ _ _ _ _).mono ?_; rintro e w6 ⟨rfl, hd⟩; (first | (replace g0 := cell_below hd g0; replace gX := heap_below gX hd; replace gB := bt gB gB.size hd; (try (replace hN := heap_below hN hd; clear c0 c1 c2 c3 c4 c5 c6 c7 c8 c9 c10 z0 z1 z2 z3 z4 z5 z6 z7 z8 z9 z10; obtain ⟨c0, c1, c2, c3, c4, c5, c6, c7, c8, c9, c10⟩ := box_cells hN; have z0 := Lib.frozen_of_heap hN 0; have z1 := Lib.frozen_of_heap hN 1; have z2 := Lib.frozen_of_heap hN 2; have z3 := Lib.frozen_of_heap hN 3; have z4 := Lib.frozen_of_heap hN 4; have z5 := Lib.frozen_of_heap hN 5; have z6 := Lib.frozen_of_heap hN 6; have z7 := Lib.frozen_of_heap hN 7; have z8 := Lib.frozen_of_heap hN 8; have z9 := Lib.frozen_of_heap hN 9; have z10 := Lib.frozen_of_heap hN 10))) | ((try replace hd := drew_out hd); have hne := Nat.ne_of_lt (heap_lt gX); have hge := gB.size; have hN := heap_below (heap_alloc_new _ _) hd; (try replace hN := heap_out hN); obtain ⟨c0, c1, c2, c3, c4, c5, c6, c7, c8, c9, c10⟩ := box_cells hN; have z0 := Lib.frozen_of_heap hN 0; have z1 := Lib.frozen_of_heap hN 1; have z2 := Lib.frozen_of_heap hN 2; have z3 := Lib.frozen_of_heap hN 3; have z4 := Lib.frozen_of_heap hN 4; have z5 := Lib.frozen_of_heap hN 5; have z6 := Lib.frozen_of_heap hN 6; have z7 := Lib.frozen_of_heap hN 7; have z8 := Lib.frozen_of_heap hN 8; have z9 := Lib.frozen_of_heap hN 9; have z10 := Lib.frozen_of_heap hN 10; replace g0 := cell_below hd (cell_old _ g0); replace gX := heap_below (heap_old _ gX) hd; replace gB := bt (gB.alloc gB.size _) (gB.alloc gB.size _).size hd)); clear hd; have q0 := fun o => cell_old o g0)
    all_goals (go_wp2_with fail; go_meet; (first | (have h9 := hN; exact ⟨_, rfl, box_fin hN gX hne gB hge⟩) | exact ⟨_, rfl, heap_old _ gX, heap_alloc_new _ _, gB.alloc gB.size _⟩))
  case rest =>
    obtain ⟨Y, rfl, hX, hY, hB⟩ := hcut
    obtain ⟨f0, f1, f2, f3, f4, f5, f6, f7, f8, f9, f10⟩ := box_cells hX
    clear e0 e1 e2 e3 e4 e5 e6 e7 e8 e9 e10 p0 p1 p2 p3 p4 p5 p6 p7 p8 p9 p10 o0 o1 o2 o3 o4 o5 o6 o7 o8 o9 o10
    rcases hr : rightM (numAt n0 n1 n2 n3 n4 n5 n6 n7 n8) t ss with _ | _
    · have HR := Lib.hid hr
      clear hr
      go_upto_region 6 with (go_at_call 71; refine (bytes_wrong n0 n1 n2 n3 n4 n5 n6 n7 n8 t A ln cp ss _ (hS.below hB) hn HR.out).mono ?_; rintro e w7 ⟨rfl, hd⟩; replace hX := heap_below hX hd; replace hY := heap_below hY hd; replace hB := bt hB hB.size hd; clear hd f0 f1 f2 f3 f4 f5 f6 f7 f8 f9 f10)
      obtain ⟨f0, f1, f2, f3, f4, f5, f6, f7, f8, f9, f10⟩ := box_cells hX
      obtain ⟨y0, y1, y2, y3, y4, y5, y6, y7, y8, y9, y10⟩ := box_cells hY
      have r0 := regrown_cell f0; have r1 := regrown_cell f1; have r2 := regrown_cell f2; have r3 := regrown_cell f3; have r4 := regrown_cell f4; have r5 := regrown_cell f5; have r6 := regrown_cell f6; have r7 := regrown_cell f7; have r8 := regrown_cell f8; have r9 := regrown_cell f9; have r10 := regrown_cell f10; have s0 := regrown_cell y0; have s1 := regrown_cell y1; have s2 := regrown_cell y2; have s3 := regrown_cell y3; have s4 := regrown_cell y4; have s5 := regrown_cell y5; have s6 := regrown_cell y6; have s7 := regrown_cell y7; have s8 := regrown_cell y8; have s9 := regrown_cell y9; have s10 := regrown_cell y10
      (refine wp_region_quiet_below (by kernel_rfl) (by kernel_rfl) ?_; (repeat (go_big_quiet_step ((go_at_call 30; (with_reducible exact Calls.regrown_of (id_any _ _ _ _ _ _ _ _ _ _ _ _ _ _)))))); refine wpQuiet_nil ?_; intro wq hw'; have HQ := below_of_regrown hw'; clear hw')
      replace f1 := cell_below HQ f1; replace f2 := cell_below HQ f2; replace y1 := cell_below HQ y1; replace y2 := cell_below HQ y2
      replace hB := bt hB hB.size HQ
      clear r0 r1 r2 r3 r4 r5 r6 r7 r8 r9 r10 s0 s1 s2 s3 s4 s5 s6 s7 s8 s9 s10 HQ
      go_wp2_with fail
      go_ret
      exact ⟨rfl, hB⟩
    · obtain ⟨S, hS1, hS2, HBr⟩ : ∃ S : ByteArray, 0 < S.size ∧ S.size ≤ 1000000000 ∧ ∀ W, Strs W A ln ss → Calls Try.prog 71 #[(.agg #[.int .i64 n0, .int .i64 n1, .int .i64 n2, .int .i64 n3, .int .i64 n4, .int .i64 n5, .int .i64 n6, .int .i64 n7, .int .i64 n8, .string t, .slice A ln cp])] W fun e w' => e = .returned (.tuple #[.string S, .int .i64 0]) ∧ Below W.heap.size W w' :=
        ⟨str (sealed (body (numAt n0 n1 n2 n3 n4 n5 n6 n7 n8) t ss)), by rw [str_size, sealed, List.length_append, four_length]; omega, by rw [str_size, sealed, List.length_append, four_length]; have := body_length hr; omega, fun W hS => bytes_right n0 n1 n2 n3 n4 n5 n6 n7 n8 t A ln cp ss W hS hn hr⟩
      have HBR := Lib.hid HBr
      clear HBr hr
      have hk : ((x : Int) % (S.size : Int)) = ((x % S.size : Nat) : Int) := by rw [Int.natCast_emod]
      have hk2 : x % S.size ≤ S.size := Nat.le_of_lt (Nat.mod_lt _ hS1)
      generalize x % S.size = k at hk hk2
      have hs0 : (S.size : Int) ≠ 0 := by omega
      go_upto_region 6 with (go_at_call 71; refine (HBR.out _ (hS.below hB)).mono ?_; rintro e w7 ⟨rfl, hd⟩; replace hX := heap_below hX hd; replace hY := heap_below hY hd; replace hB := bt hB hB.size hd; clear hd f0 f1 f2 f3 f4 f5 f6 f7 f8 f9 f10)
      obtain ⟨f0, f1, f2, f3, f4, f5, f6, f7, f8, f9, f10⟩ := box_cells hX
      obtain ⟨y0, y1, y2, y3, y4, y5, y6, y7, y8, y9, y10⟩ := box_cells hY
      have r0 := regrown_cell f0; have r1 := regrown_cell f1; have r2 := regrown_cell f2; have r3 := regrown_cell f3; have r4 := regrown_cell f4; have r5 := regrown_cell f5; have r6 := regrown_cell f6; have r7 := regrown_cell f7; have r8 := regrown_cell f8; have r9 := regrown_cell f9; have r10 := regrown_cell f10; have s0 := regrown_cell y0; have s1 := regrown_cell y1; have s2 := regrown_cell y2; have s3 := regrown_cell y3; have s4 := regrown_cell y4; have s5 := regrown_cell y5; have s6 := regrown_cell y6; have s7 := regrown_cell y7; have s8 := regrown_cell y8; have s9 := regrown_cell y9; have s10 := regrown_cell y10
      (refine wp_region_quiet_below (by kernel_rfl) (by kernel_rfl) ?_; (repeat (go_big_quiet_step ((go_at_call 30; (with_reducible exact Calls.regrown_of (id_any _ _ _ _ _ _ _ _ _ _ _ _ _ _)))))); refine wpQuiet_nil ?_; intro wq hw'; have HQ := below_of_regrown hw'; clear hw')
      replace hB := bt hB hB.size HQ
      clear f0 f1 f2 f3 f4 f5 f6 f7 f8 f9 f10 y0 y1 y2 y3 y4 y5 y6 y7 y8 y9 y10 r0 r1 r2 r3 r4 r5 r6 r7 r8 r9 r10 s0 s1 s2 s3 s4 s5 s6 s7 s8 s9 s10 HQ hX hY
      go_wp2_with fail
      have hse : (S.extract 0 k).size ≤ 1000000000 := by rw [ByteArray.size_extract]; omega
      refine (read_gen _ _ hse).mono ?_
      rintro e w8 ⟨hd, h⟩
      replace hB := bt hB hB.size hd
      replace hS := hS.below hB
      clear hk hk2 hs0 hse hd
      rcases h with ⟨er, he, rfl⟩ | ⟨m0, m1, m2, m3, m4, m5, m6, m7, m8, t', A', n', c', tt, rfl, hS', hn', hr'⟩
      · have h1 : (((er : Nat) : Int) == 0) = false := by simp [he]
        have h2 : ((er : Nat) : Int) ≠ 0 := by omega
        clear he
        go_wp2_with fail
        all_goals (go_ret; exact ⟨rfl, hB.alloc hB.size _⟩)
      · go_wp2_with (go_at_call 73; refine (right_any m0 m1 m2 m3 m4 m5 m6 m7 m8 t' A' n' c' tt _ (by first | exact hS' | exact hS'.below ((Below.refl w8.heap.size w8).alloc (Nat.le_refl _) _)) (by omega)).mono ?_; rintro e w9 ⟨rfl, hd⟩)
        all_goals (go_ret; exact ⟨rfl, bt (hB.alloc hB.size _) (hB.alloc hB.size _).size hd⟩)
theorem msg_there (n0 n1 n2 n3 n4 n5 n6 n7 n8 : Int) (t : ByteArray) (A : Option Addr) (ln cp : Nat) (kind : Int) (x : Nat) (ss : List ByteArray) (w : World) (hS : Strs w A ln ss) (ht : t.size ≤ 140737488351232) (hn : ln ≤ 9223372036854775807) (hx : x ≤ 65535) :
    Calls Try.prog 21 #[(.agg #[.int .i64 n0, .int .i64 n1, .int .i64 n2, .int .i64 n3, .int .i64 n4, .int .i64 n5, .int .i64 n6, .int .i64 n7, .int .i64 n8, .string t, .slice A ln cp]), .int .i64 kind, .int .u16 x] w fun e w' => e = .returned (.bool true) ∧ Below w.heap.size w w' := by
  rcases hf : fewB t ss with _ | _
  · exact there_few n0 n1 n2 n3 n4 n5 n6 n7 n8 t A ln cp kind x ss w hS ht hf
  · exact there_any n0 n1 n2 n3 n4 n5 n6 n7 n8 t A ln cp kind x ss w hS ht hf hn hx
end Go.Proofs.Ytdjgdhpncocahaa.MsgW
