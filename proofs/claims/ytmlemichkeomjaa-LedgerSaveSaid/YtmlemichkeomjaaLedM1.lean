/- The ledger's methods taskErr and partErr walked. -/
import Derived.Test.YtmlemichkeomjaaLedSmall
set_option linter.unusedVariables false
set_option linter.unusedSimpArgs false
namespace Go.Proofs.Ytmlemichkeomjaa.LedW
open Go.RowKit Go.Proofs.Ytmlemichkeomjaa.Base Go.Proofs.Ytmlemichkeomjaa.MendW Go.Proofs.Ytmlemichkeomjaa.ManP Go.Proofs.Ytmlemichkeomjaa.ManW Go.Proofs.Ytmlemichkeomjaa.LedP
theorem bvs_set (l : List Bool) (j : Nat) (x : Bool) : (bvs l).set j (.bool x) = bvs (l.set j x) := by simp [bvs, List.map_set]
theorem svs_set (l : List ByteArray) (j : Nat) (x : ByteArray) : (svs l).set j (.string x) = svs (l.set j x) := by simp [svs, List.map_set]
theorem zv_set (l : List Int) (j : Nat) (x : Int) : (zv l).set j (.int .i64 x) = zv (l.set j x) := by simp [zv, List.map_set]
/-- What stands under the keys. -/
structure Keys (ob : Nat) (F : Nat → Ent) (v2 v3 v4 v5 v6 v7 v8 : Value) (vs : Nat → MV) (s : LS) : Prop where
  d : F 0 = ⟨4, 1, v2, s.done.length, bvs s.done⟩
  m : F 1 = ⟨26, 5, v3, s.done.length, flat s.ms vs⟩
  t : F 2 = ⟨30, 1, v4, s.done.length, zv s.te⟩
  h : F 3 = ⟨4, 1, v5, s.has.length, bvs s.has⟩
  r : F 4 = ⟨9, 1, v6, s.has.length, svs s.res⟩
  p : F 5 = ⟨30, 1, v7, s.has.length, zv s.pe⟩
  c : F 6 = ⟨4, 1, v8, s.has.length, bvs s.com⟩
  box : F 7 = ⟨42, 11, .slice (some ⟨ob, 0, none⟩) 1 1, 1, [.int .i64 s.n, .int .i64 s.ep, v2, v3, v4, v5, v6, v7, v8, .int .i64 s.fin, .int .i64 s.er]⟩
section
variable {w : World} {lo ml ob : Nat} {F : Nat → Ent} {v2 v3 v4 v5 v6 v7 v8 : Value} {vs : Nat → MV} {s s' : LS}
theorem OwnS'.keys (h : OwnS' w lo ml ob F v2 v3 v4 v5 v6 v7 v8 vs s) : Keys ob F v2 v3 v4 v5 v6 v7 v8 vs s := ⟨h.rows.d, h.rows.m, h.rows.t, h.rows.h, h.rows.r, h.rows.p, h.rows.c, h.box⟩
/-- A store into a row of one's own. -/
theorem OwnS'.put (h : OwnS' w lo ml ob F v2 v3 v4 v5 v6 v7 v8 vs s) (a : Nat) {e : TypeId} {size n : Nat} {v : Value} {xs : List Value} (hE : F a = ⟨e, size, v, n, xs⟩) {g c : Nat} (hv : v = .slice (some ⟨g, 0, none⟩) n c) (t : Nat) (u : Value)
    (hk : Keys ob (up F a ⟨e, size, v, n, xs.set t u⟩) v2 v3 v4 v5 v6 v7 v8 vs s') (hms : s'.ms = s.ms) (rt : ∀ x ∈ s'.te, -9223372036854775808 ≤ x ∧ x ≤ 9223372036854775807) (rp : ∀ x ∈ s'.pe, -9223372036854775808 ≤ x ∧ x ≤ 9223372036854775807) (ok : Ok s') :
    OwnS' (w.setCell ⟨g, t, none⟩ u) lo ml ob (up F a ⟨e, size, v, n, xs.set t u⟩) v2 v3 v4 v5 v6 v7 v8 vs s' := by
  refine ⟨⟨h.rows.pool.store a hE hv t u, hk.d, hk.m, hk.t, hk.h, hk.r, hk.p, hk.c, fun j hj => ?_, rt, rp, ok⟩, hk.box⟩
  have hsz : (w.setCell ⟨g, t, none⟩ u).heap.size = w.heap.size := by simp
  have hj' : j < s.ms.length := by rw [← hms]; exact hj
  have e1 : s'.ms[j] = s.ms[j] := by congr 1
  rw [hsz, e1]
  exact ((h.rows.man j hj').keep (fun q hq => heap_setCell_other _ _ _ _ (fun e => hq.2 a (by rw [hE, e]; subst hv; rfl)))).mono (fun q hq => safe_chg (Nat.le_refl _) (.inl (by rw [hE])) hq)
/-- A row of one's own, its cell t. -/
theorem OwnS'.at_row (h : OwnS' w lo ml ob F v2 v3 v4 v5 v6 v7 v8 vs s) (a : Nat) (ha : a ≠ 7) {e : TypeId} {n : Nat} {v : Value} {xs : List Value} (hE : F a = ⟨e, 1, v, n, xs⟩) {t : Nat} (ht : t < n) : ∃ g c, v = .slice (some ⟨g, 0, none⟩) n c ∧ (∀ u, xs[t]? = some u → w.cell? ⟨g, t, none⟩ = some u) ∧ w.frozen? ⟨g, t, none⟩ = false ∧ g ≠ ob ∧ lo ≤ g ∧ g < w.heap.size := by
  obtain ⟨g, c, hv⟩ := h.rows.pool.some a hE (by omega)
  refine ⟨g, c, hv, fun u hu => h.rows.pool.cell a hE hv hu, h.rows.pool.free a hE hv t, fun e => ha (h.rows.pool.ne a 7 g (by rw [hE, hv]; rfl) (by rw [h.box, e]; rfl)), h.rows.pool.lt a (by rw [hE, hv]; rfl)⟩
theorem OwnS'.field (h : OwnS' w lo ml ob F v2 v3 v4 v5 v6 v7 v8 vs s) {j : Nat} {u : Value} (hu : ([.int .i64 s.n, .int .i64 s.ep, v2, v3, v4, v5, v6, v7, v8, .int .i64 s.fin, .int .i64 s.er] : List Value)[j]? = some u) : w.cell? ⟨ob, j, none⟩ = some u := h.rows.pool.cell 7 h.box rfl hu
end
/-- A state in the block ob. -/
def Own (w : World) (lo ob : Nat) (s : LS) : Prop := ∃ F v2 v3 v4 v5 v6 v7 v8 vs, OwnS w lo ob F v2 v3 v4 v5 v6 v7 v8 vs s
def MethPost (w : World) (lo ob : Nat) (p : LS × Nat) (e : Ending) (w' : World) : Prop := e = .returned (.int .i64 (p.2 : Nat)) ∧ Own w' lo ob p.1 ∧ Below lo w w'
/-- A record in a block. -/
structure RecBox (w : World) (b : Nat) (rk rn re : Int) (rt : ByteArray) (mt ma : Int) (B2 : Option Addr) (n2 d2 : Nat) (B3 : Option Addr) (n3 d3 : Nat) (B4 : Option Addr) (n4 d4 : Nat) : Prop where
  f0 : w.cell? ⟨b, 0, none⟩ = some (.int .i64 rk)
  f1 : w.cell? ⟨b, 1, none⟩ = some (.int .i64 rn)
  f2 : w.cell? ⟨b, 2, none⟩ = some (.int .i64 re)
  f3 : w.cell? ⟨b, 3, none⟩ = some (.string rt)
  f4 : w.cell? ⟨b, 4, none⟩ = some (.int .i64 mt)
  f5 : w.cell? ⟨b, 5, none⟩ = some (.int .i64 ma)
  f6 : w.cell? ⟨b, 6, none⟩ = some (.slice B2 n2 d2)
  f7 : w.cell? ⟨b, 7, none⟩ = some (.slice B3 n3 d3)
  f8 : w.cell? ⟨b, 8, none⟩ = some (.slice B4 n4 d4)
theorem RecBox.below {w w' : World} {b : Nat} {rk rn re : Int} {rt : ByteArray} {mt ma : Int} {B2 : Option Addr} {n2 d2 : Nat} {B3 : Option Addr} {n3 d3 : Nat} {B4 : Option Addr} {n4 d4 : Nat} (h : RecBox w b rk rn re rt mt ma B2 n2 d2 B3 n3 d3 B4 n4 d4) (hb : Below w.heap.size w w') : RecBox w' b rk rn re rt mt ma B2 n2 d2 B3 n3 d3 B4 n4 d4 :=
  ⟨cell_below hb h.f0, cell_below hb h.f1, cell_below hb h.f2, cell_below hb h.f3, cell_below hb h.f4, cell_below hb h.f5, cell_below hb h.f6, cell_below hb h.f7, cell_below hb h.f8⟩
theorem RecBox.mk' (w : World) (rk rn re : Int) (rt : ByteArray) (mt ma : Int) (B2 : Option Addr) (n2 d2 : Nat) (B3 : Option Addr) (n3 d3 : Nat) (B4 : Option Addr) (n4 d4 : Nat) : RecBox (w.alloc (.cells #[.int .i64 rk, .int .i64 rn, .int .i64 re, .string rt, .int .i64 mt, .int .i64 ma, .slice B2 n2 d2, .slice B3 n3 d3, .slice B4 n4 d4] 53)) w.heap.size rk rn re rt mt ma B2 n2 d2 B3 n3 d3 B4 n4 d4 := by
  constructor <;> (rw [cell_of_row _ _ _ _ _ _ (heap_alloc_new w _)]; rfl)
theorem getD_b {l : List Bool} {t : Nat} (h : t < l.length) : l.getD t false = l[t] := by simp [List.getD_eq_getElem?_getD, h]
theorem getD_i {l : List Int} {t : Nat} (h : t < l.length) : l.getD t 0 = l[t] := by simp [List.getD_eq_getElem?_getD, h]
theorem bvs_get {l : List Bool} {t : Nat} (h : t < l.length) {D : Bool} (hD : l.getD t false = D) : (bvs l)[t]? = some (.bool D) := by
  rw [getD_b h] at hD
  simp [bvs, h, hD]
theorem zv_get {l : List Int} {t : Nat} (h : t < l.length) {T : Int} (hT : l.getD t 0 = T) : (zv l)[t]? = some (.int .i64 T) := by
  rw [getD_i h] at hT
  simp [zv, h, hT]
theorem cell_set_ne {w : World} {g b t j : Nat} {u : Value} (h : b ≠ g) : (w.setCell ⟨g, t, none⟩ u).cell? ⟨b, j, none⟩ = w.cell? ⟨b, j, none⟩ := by
  unfold World.cell?
  rw [heap_setCell_other _ _ _ _ h]
theorem mem_set_rng {l : List Int} {t : Nat} {x : Int} (h : ∀ y ∈ l, -9223372036854775808 ≤ y ∧ y ≤ 9223372036854775807) (hx : -9223372036854775808 ≤ x ∧ x ≤ 9223372036854775807) : ∀ y ∈ l.set t x, -9223372036854775808 ≤ y ∧ y ≤ 9223372036854775807 := fun y hy => by
  rcases List.mem_or_eq_of_mem_set hy with h1 | rfl
  · exact h y h1
  · exact hx
set_option maxRecDepth 100000 in
set_option maxHeartbeats 4000000 in
theorem taskErr_any (ob lo : Nat) (s : LS) (r : LR) (mt ma : Int) (B2 : Option Addr) (n2 d2 : Nat) (B3 : Option Addr) (n3 d3 : Nat) (B4 : Option Addr) (n4 d4 : Nat) (t : Nat) (w : World) (h : Own w lo ob s) (hlo : lo ≤ w.heap.size) (hn : r.n = (t : Nat)) (ht : t < s.done.length) (he : -9223372036854775808 ≤ r.e ∧ r.e ≤ 9223372036854775807) :
    Calls Try.prog 85 #[.pointer (some ⟨ob, 0, none⟩), .agg #[.int .i64 r.kind, .int .i64 r.n, .int .i64 r.e, .string r.text, .int .i64 mt, .int .i64 ma, .slice B2 n2 d2, .slice B3 n3 d3, .slice B4 n4 d4]] w (MethPost w lo ob (taskErrP s r)) := by
  obtain ⟨F, v2, v3, v4, v5, v6, v7, v8, vs, HO⟩ := h
  obtain ⟨rk, rn, re, rt, rm⟩ := r
  dsimp only at hn he ⊢
  have HN := Lib.hid hn
  have HT := Lib.hid ht
  have HE := Lib.hid he
  obtain ⟨P, hP⟩ : ∃ P, P = taskErrP s ⟨rk, rn, re, rt, rm⟩ := ⟨_, rfl⟩
  rw [← hP]
  have htt : t < s.te.length := by rw [HO.rows.ok.lt]; exact ht
  unfold taskErrP at hP
  dsimp only at hP
  rw [hn, Int.toNat_natCast] at hP
  obtain ⟨D, hD⟩ : ∃ D, s.done.getD t false = D := ⟨_, rfl⟩
  obtain ⟨T, hT⟩ : ∃ T, s.te.getD t 0 = T := ⟨_, rfl⟩
  rw [hD, hT] at hP
  have HD := Lib.hid hD
  have HTT := Lib.hid hT
  have i0 : (0 : Int) ≤ (t : Int) := by omega
  have i1 : (t : Int) < (s.done.length : Int) := by omega
  clear hn ht he hD hT
  have HOW := Lib.hid HO
  by_cases h0 : re = 0
  · rw [if_pos h0] at hP
    have HP := Lib.hid hP
    clear hP
    subst h0
    go_enter Try.func85, Try.ntmps85
    go_upto_region 1 with fail; have HB := (Below.refl w.heap.size w).alloc (Nat.le_refl _) (.cells #[.int .i64 rk, .int .i64 rn, .int .i64 0, .string rt, .int .i64 mt, .int .i64 ma, .slice B2 n2 d2, .slice B3 n3 d3, .slice B4 n4 d4] 53); have HR := RecBox.mk' w rk rn 0 rt mt ma B2 n2 d2 B3 n3 d3 B4 n4 d4; generalize w.alloc (.cells #[.int .i64 rk, .int .i64 rn, .int .i64 0, .string rt, .int .i64 mt, .int .i64 ma, .slice B2 n2 d2, .slice B3 n3 d3, .slice B4 n4 d4] 53) = W at HR HB ⊢; replace HO := HO.below HB; replace HB := HB.mono hlo; obtain ⟨r0, r1, r2, r3, r4, r5, r6, r7, r8⟩ := HR
    go_wp2
    go_ret
    rw [HP.out]
    exact ⟨rfl, ⟨_, _, _, _, _, _, _, _, _, HO⟩, HB⟩
  · rw [if_neg h0] at hP
    by_cases hb : D = true ∨ T ≠ 0
    · rw [if_pos hb] at hP
      have HP := Lib.hid hP
      clear hP
      cases D with
      | true =>
        go_enter Try.func85, Try.ntmps85
        go_upto_region 1 with fail; have HR := RecBox.mk' w rk rn re rt mt ma B2 n2 d2 B3 n3 d3 B4 n4 d4; have HB := (Below.refl w.heap.size w).alloc (Nat.le_refl _) (.cells #[.int .i64 rk, .int .i64 rn, .int .i64 re, .string rt, .int .i64 mt, .int .i64 ma, .slice B2 n2 d2, .slice B3 n3 d3, .slice B4 n4 d4] 53); generalize w.alloc (.cells #[.int .i64 rk, .int .i64 rn, .int .i64 re, .string rt, .int .i64 mt, .int .i64 ma, .slice B2 n2 d2, .slice B3 n3 d3, .slice B4 n4 d4] 53) = W at HR HB ⊢; replace HO := HO.below HB; replace HB := HB.mono hlo; obtain ⟨r0, r1, r2, r3, r4, r5, r6, r7, r8⟩ := HR; rw [HN.out] at r1
        obtain ⟨g, c, e2, gc, _, hgo, _⟩ := HO.at_row 0 (by decide) HO.rows.d HT.out; subst e2; obtain ⟨g4, c4, e4, gc4, gf4, hgo4, hlo4, hlt4⟩ := HO.at_row 2 (by decide) HO.rows.t HT.out; subst e4; have gD := gc _ (bvs_get HT.out HD.out); have gT := gc4 _ (zv_get htt HTT.out); have p2 := HO.field (j := 2) rfl; have p4 := HO.field (j := 4) rfl; clear gc gc4
        clear hb
        go_wp2_with fail
        go_quiet (fail)
        go_wp2
        go_ret
        rw [HP.out]
        exact ⟨rfl, ⟨_, _, _, _, _, _, _, _, _, HO.below (below_drewN (Below.refl _ _) _)⟩, below_drewN HB _⟩
      | false =>
        have t5 : (T != 0) = true := int_bne (by simpa using hb)
        go_enter Try.func85, Try.ntmps85
        go_upto_region 1 with fail; have HR := RecBox.mk' w rk rn re rt mt ma B2 n2 d2 B3 n3 d3 B4 n4 d4; have HB := (Below.refl w.heap.size w).alloc (Nat.le_refl _) (.cells #[.int .i64 rk, .int .i64 rn, .int .i64 re, .string rt, .int .i64 mt, .int .i64 ma, .slice B2 n2 d2, .slice B3 n3 d3, .slice B4 n4 d4] 53); generalize w.alloc (.cells #[.int .i64 rk, .int .i64 rn, .int .i64 re, .string rt, .int .i64 mt, .int .i64 ma, .slice B2 n2 d2, .slice B3 n3 d3, .slice B4 n4 d4] 53) = W at HR HB ⊢; replace HO := HO.below HB; replace HB := HB.mono hlo; obtain ⟨r0, r1, r2, r3, r4, r5, r6, r7, r8⟩ := HR; rw [HN.out] at r1
        obtain ⟨g, c, e2, gc, _, hgo, _⟩ := HO.at_row 0 (by decide) HO.rows.d HT.out; subst e2; obtain ⟨g4, c4, e4, gc4, gf4, hgo4, hlo4, hlt4⟩ := HO.at_row 2 (by decide) HO.rows.t HT.out; subst e4; have gD := gc _ (bvs_get HT.out HD.out); have gT := gc4 _ (zv_get htt HTT.out); have p2 := HO.field (j := 2) rfl; have p4 := HO.field (j := 4) rfl; clear gc gc4
        clear hb
        go_wp2_with fail
        go_quiet (fail)
        go_wp2
        go_ret
        rw [HP.out]
        exact ⟨rfl, ⟨_, _, _, _, _, _, _, _, _, HO.below (below_drewN (Below.refl _ _) _)⟩, below_drewN HB _⟩
    · rw [if_neg hb] at hP
      have HP := Lib.hid hP
      clear hP
      obtain rfl : D = false := by cases D <;> simp_all
      obtain rfl : T = 0 := by simpa using hb
      clear hb
      go_enter Try.func85, Try.ntmps85
      go_upto_region 1 with fail; have HR := RecBox.mk' w rk rn re rt mt ma B2 n2 d2 B3 n3 d3 B4 n4 d4; have HB := (Below.refl w.heap.size w).alloc (Nat.le_refl _) (.cells #[.int .i64 rk, .int .i64 rn, .int .i64 re, .string rt, .int .i64 mt, .int .i64 ma, .slice B2 n2 d2, .slice B3 n3 d3, .slice B4 n4 d4] 53); generalize w.alloc (.cells #[.int .i64 rk, .int .i64 rn, .int .i64 re, .string rt, .int .i64 mt, .int .i64 ma, .slice B2 n2 d2, .slice B3 n3 d3, .slice B4 n4 d4] 53) = W at HR HB ⊢; replace HO := HO.below HB; replace HB := HB.mono hlo; obtain ⟨r0, r1, r2, r3, r4, r5, r6, r7, r8⟩ := HR; rw [HN.out] at r1
      obtain ⟨g, c, e2, gc, _, hgo, _⟩ := HO.at_row 0 (by decide) HO.rows.d HT.out; subst e2; obtain ⟨g4, c4, e4, gc4, gf4, hgo4, hlo4, hlt4⟩ := HO.at_row 2 (by decide) HO.rows.t HT.out; subst e4; have gD := gc _ (bvs_get HT.out HD.out); have gT := gc4 _ (zv_get htt HTT.out); have p2 := HO.field (j := 2) rfl; have p4 := HO.field (j := 4) rfl; clear gc gc4
      go_wp2_with fail
      go_quiet (fail)
      generalize hW2 : World.drewN W _ = W2
      have hd : Below W.heap.size W W2.drew := by rw [← hW2]; exact (below_drewN (Below.refl _ _) _).drew
      clear hW2 gD gT p2
      replace HO := HO.below hd
      replace HB := bt HB (Nat.le_trans hlo4 (Nat.le_of_lt hlt4)) hd
      have q4 := cell_below hd p4
      have q1 := cell_below hd r1
      have q2 := cell_below hd r2
      have z4 := HO.rows.pool.free 2 HO.rows.t rfl t
      have y4 := HO.rows.pool.cell 2 HO.rows.t rfl (zv_get htt HTT.out)
      have hg1 : w.heap.size ≠ g4 := fun e => by have := (HOW.out.rows.pool.lt 2 (g := g4) (by rw [HOW.out.rows.t]; rfl)).2; omega
      clear p4 r0 r1 r2 r3 r4 r5 r6 r7 r8
      go_upto_region 5 with fail
      go_region_held3 (fun w' => w'.cell? ⟨ob, 4, none⟩ = some (.slice (some ⟨g4, 0, none⟩) s.done.length c4) ∧ w'.cell? ⟨w.heap.size, 1, none⟩ = some (.int .i64 (t : Nat)) ∧ w'.cell? ⟨w.heap.size, 2, none⟩ = some (.int .i64 re)) (first | exact ⟨q4, q1, q2⟩ | exact ⟨(cell_set_ne (Ne.symm hgo4)).trans q4, (cell_set_ne hg1).trans q1, (cell_set_ne hg1).trans q2⟩) (fail)
      clear q4 q1 q2 z4 y4
      have HF := Lib.hid (HO.put (s' := { s with te := s.te.set t re }) 2 HO.rows.t rfl t (.int .i64 re) ⟨(up_ne _ _ (by decide)).trans HO.rows.d, (up_ne _ _ (by decide)).trans HO.rows.m, by rw [up_self, zv_set], (up_ne _ _ (by decide)).trans HO.rows.h, (up_ne _ _ (by decide)).trans HO.rows.r, (up_ne _ _ (by decide)).trans HO.rows.p, (up_ne _ _ (by decide)).trans HO.rows.c, (up_ne _ _ (by decide)).trans HO.box⟩ rfl (mem_set_rng HO.rows.rt HE.out) HO.rows.rp ⟨HO.rows.ok.lm, by simp [HO.rows.ok.lt], HO.rows.ok.lr, HO.rows.ok.lp, HO.rows.ok.lc, HO.rows.ok.few, HO.rows.ok.fewp, HO.rows.ok.slim⟩)
      have HBF := Lib.hid (HB.setCell (p := ⟨g4, t, none⟩) hlo4 (.int .i64 re))
      clear HO HB
      go_wp2
      go_ret
      rw [HP.out]
      exact ⟨rfl, ⟨_, _, _, _, _, _, _, _, _, HF.out⟩, HBF.out⟩
end Go.Proofs.Ytmlemichkeomjaa.LedW
