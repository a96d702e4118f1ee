/- ledger.New walked. -/
import Derived.Test.YtmlemichkeomjaaRegI
import Derived.Test.YtmlemichkeomjaaLedA
set_option linter.unusedVariables false
set_option linter.unusedSimpArgs false
namespace Go.Proofs.Ytmlemichkeomjaa.LedW
open Go.RowKit Go.Proofs.Ytmlemichkeomjaa.Base Go.Proofs.Ytmlemichkeomjaa.MendW Go.Proofs.Ytmlemichkeomjaa.ManP Go.Proofs.Ytmlemichkeomjaa.ManW Go.Proofs.Ytmlemichkeomjaa.LedP
/-- The first state. -/
def newS (t p n : Nat) : LS := ⟨n, 0, List.replicate t false, List.replicate t noMan, List.replicate t 0, List.replicate p false, List.replicate p ByteArray.empty, List.replicate p 0, List.replicate p false, 0, 0⟩
theorem newS_ok {t p n : Nat} (ht : t ≤ 16) (hp : p ≤ 16) : Ok (newS t p n) := ⟨by simp [newS], by simp [newS], by simp [newS], by simp [newS], by simp [newS], by simpa [newS] using ht, by simpa [newS] using hp, fun m hm => by
  rw [List.eq_of_mem_replicate (show m ∈ List.replicate t noMan from hm)]
  exact slim_no⟩
theorem made_one (z : Value) (hz : z.cells = #[z]) (k : Nat) : (madeCells z.cells (k * 1)).toList = List.replicate k z := by rw [hz, Nat.mul_one, toList_madeCells_one]
theorem made_flat (k : Nat) : (madeCells (Value.agg #[.int .i64 0, .int .i64 0, .slice none 0 0, .slice none 0 0, .slice none 0 0]).cells (k * 5)).toList = flat (List.replicate k noMan) (fun _ => noMV) := by
  apply List.ext_getElem?
  intro j
  by_cases hj : j < k * 5
  · have e1 : j = j / 5 * 5 + j % 5 := by omega
    have h5 : j % 5 < 5 := Nat.mod_lt _ (by decide)
    have hi : j / 5 < (List.replicate k noMan).length := by rw [List.length_replicate]; omega
    have e2 := flat_get (List.replicate k noMan) (fun _ => noMV) (j / 5) (j % 5) hi h5
    rw [← e1] at e2
    rw [e2, List.getElem_replicate]
    have e3 : (madeCells (Value.agg #[.int .i64 0, .int .i64 0, .slice none 0 0, .slice none 0 0, .slice none 0 0]).cells (k * 5)).toList[j]? = some ((#[.int .i64 0, .int .i64 0, .slice none 0 0, .slice none 0 0, .slice none 0 0] : Array Value)[j % 5]!) := by
      simp only [madeCells, Array.getElem?_toList, Array.getElem?_map, Array.getElem?_range, if_pos hj]
      rfl
    rw [e3]
    generalize j % 5 = q at h5
    have h6 : q = 0 ∨ q = 1 ∨ q = 2 ∨ q = 3 ∨ q = 4 := by omega
    rcases h6 with rfl | rfl | rfl | rfl | rfl <;> rfl
  · rw [List.getElem?_eq_none (by rw [Array.length_toList, size_madeCells]; omega), List.getElem?_eq_none (by rw [flat_length, List.length_replicate]; omega)]
def ent (t p q : Nat) (v : Value) : Ent :=
  if q = 0 then ⟨4, 1, v, t, bvs (List.replicate t false)⟩ else if q = 1 then ⟨26, 5, v, t, flat (List.replicate t noMan) (fun _ => noMV)⟩ else if q = 2 then ⟨30, 1, v, t, zv (List.replicate t 0)⟩ else if q = 3 then ⟨4, 1, v, p, bvs (List.replicate p false)⟩ else if q = 4 then ⟨9, 1, v, p, svs (List.replicate p ByteArray.empty)⟩ else if q = 5 then ⟨30, 1, v, p, zv (List.replicate p 0)⟩ else ⟨4, 1, v, p, bvs (List.replicate p false)⟩
theorem wp_make {P : Program} {o : Oper} {a : Act} {w w' : World} {K : Act → World → Prop} {Q : Exit → Act → World → Prop} (ty : TypeId) (x y : Operand) (ho : o.op = .makeSlice ty x y) {n : Nat} (hx : a.eval x = .int .i64 (n : Nat)) (hy : a.eval y = .int .i64 (n : Nat)) {v : Value}
    (hr : (Instr.makeSlice ty (.int .i64 (n : Nat)) (.int .i64 (n : Nat))).run P w = .ok v w') (h : K (a.put o.dst v) w') : o.wp P a w K Q := by
  unfold Oper.wp execOp
  simp only [ho, hx, hy, Sem.run_bind, Sem.run_pure, Result.andThen_ok, hr]
  exact h
/-- A new row of zeros, under the key q. -/
theorem make_key {t p q k size bytes : Nat} {z : Value} {ty e : TypeId} (ht : Try.prog.underlying ty = some (.slice e)) (hi : (Try.prog.info? e).map (fun i => (i.zero, i.size, i.bytes)) = some (some z, size, bytes)) (hb : bytes ≤ 1000) (hk : k ≤ 16)
    (he : ∀ v, ent t p q v = ⟨e, size, v, k, (madeCells z.cells (k * size)).toList⟩) {w : World} {lo : Nat} {F : Nat → Ent} (hp : Pool w lo F) (hlo : lo ≤ w.heap.size) :
    ∃ v w', (Instr.makeSlice ty (.int .i64 (k : Nat)) (.int .i64 (k : Nat))).run Try.prog w = .ok v w' ∧ (∃ A m c, v = .slice A m c) ∧ Pool w' lo (up F q (ent t p q v)) ∧ Below w.heap.size w w' := by
  obtain ⟨i, hi1, hi2⟩ := Option.map_eq_some_iff.1 hi
  simp only [Prod.mk.injEq] at hi2
  obtain ⟨h1, h2, h3⟩ := hi2
  have hl : k ≤ maxLen := by simp only [maxLen]; omega
  have hbk : bytes * k ≤ 1000 * 16 := Nat.mul_le_mul hb hk
  have h7 : ((bytes * k : Nat) : Int) ≤ 281474976710656 := by omega
  rw [Int.natCast_mul] at h7
  have hr := run_make (P := Try.prog) w ty e i z ht hi1 h1 .i64 .i64 k k (by omega) (Int.le_refl _) (by rw [h3]; exact h7) (by omega)
  rw [h2] at hr
  simp only [Int.toNat_natCast] at hr
  have hB := (Below.refl w.heap.size w).alloc (Nat.le_refl _) (.cells (madeCells z.cells (k * size)) e)
  refine ⟨_, _, hr, ⟨_, _, _, rfl⟩, hp.new q hB hlo ?_, hB⟩
  rw [he]
  exact World.ownsRow_lit w _ k (Nat.le_refl _) hl (size_madeCells _ _)
theorem tmp_set {a : Act} {d : Nat} (v : Value) (h : d < a.tmps.size) : (a.tmps.setIfInBounds d v).getD d undef = v := by simp [h]
theorem tmp_other {a : Act} {d e : Nat} (v : Value) (h : d ≠ e) : (a.tmps.setIfInBounds d v).getD e undef = a.tmps.getD e undef := by simp [Array.getElem?_setIfInBounds_ne h]
theorem keep_one {l : Array Bool} {a : Act} {i j d c : Nat} {v x : Value} (hij : i ≠ j) (hdc : d ≠ c) (h : l.getD j false = true → a.tmps.getD c undef = x) : (l.setIfInBounds i true).getD j false = true → (a.tmps.setIfInBounds d v).getD c undef = x := fun h2 => by
  rw [getD_set_ne false hij] at h2
  rw [tmp_other v hdc]
  exact h h2
theorem keep_new {l : Array Bool} {a : Act} {i d : Nat} {v x : Value} (hd : d < a.tmps.size) (h : v = x) : (l.setIfInBounds i true).getD i false = true → (a.tmps.setIfInBounds d v).getD d undef = x := fun _ => by
  rw [tmp_set v hd]
  exact h
def upG (G : Nat → Value) (q : Nat) (v : Value) : Nat → Value := fun k => if k = q then v else G k
/-- The temporaries that have been laid. -/
structure TI (t p n : Nat) (G : Nat → Value) (l : Array Bool) (a : Act) : Prop where
  sz : a.tmps.size = 38
  df : a.defers = []
  r0 : a.tmps.getD 0 undef = .int .i64 (t : Nat)
  r1 : a.tmps.getD 1 undef = .int .i64 (p : Nat)
  r2 : a.tmps.getD 2 undef = .int .i64 (n : Nat)
  m0 : l.getD 0 false = true → a.tmps.getD 22 undef = .int .i64 (n : Nat)
  m1 : l.getD 1 false = true → a.tmps.getD 23 undef = .int .i64 (t : Nat)
  m2 : l.getD 2 false = true → a.tmps.getD 24 undef = G 0
  m3 : l.getD 3 false = true → a.tmps.getD 25 undef = .int .i64 (t : Nat)
  m4 : l.getD 4 false = true → a.tmps.getD 26 undef = G 1
  m5 : l.getD 5 false = true → a.tmps.getD 27 undef = .int .i64 (t : Nat)
  m6 : l.getD 6 false = true → a.tmps.getD 28 undef = G 2
  m7 : l.getD 7 false = true → a.tmps.getD 29 undef = .int .i64 (p : Nat)
  m8 : l.getD 8 false = true → a.tmps.getD 30 undef = G 3
  m9 : l.getD 9 false = true → a.tmps.getD 31 undef = .int .i64 (p : Nat)
  m10 : l.getD 10 false = true → a.tmps.getD 32 undef = G 4
  m11 : l.getD 11 false = true → a.tmps.getD 33 undef = .int .i64 (p : Nat)
  m12 : l.getD 12 false = true → a.tmps.getD 34 undef = G 5
  m13 : l.getD 13 false = true → a.tmps.getD 35 undef = .int .i64 (p : Nat)
  m14 : l.getD 14 false = true → a.tmps.getD 36 undef = G 6
  m15 : l.getD 15 false = true → a.tmps.getD 37 undef = .agg #[.int .i64 (n : Nat), .int .i64 0, G 0, G 1, G 2, G 3, G 4, G 5, G 6, .int .i64 0, .int .i64 0]
  m17 : l.getD 17 false = true → a.tmps.getD 7 undef = .int .i64 0
/-- .. and the memory. -/
structure NewI (w0 : World) (t p n : Nat) (G : Nat → Value) (F : Nat → Ent) (l : Array Bool) (a : Act) (w : World) : Prop where
  ti : TI t p n G l a
  r6 : a.tmps.getD 6 undef = .pointer (some ⟨w0.heap.size, 0, none⟩)
  one : ∀ q, ∃ A m c, G q = .slice A m c
  pool : Pool w (w0.heap.size + 1) F
  keys : ∀ q, q < 7 → l.getD (2 + 2 * q) false = true → F q = ent t p q (G q)
  all : l.getD 15 false = true → ∀ q, q < 7 → l.getD (2 + 2 * q) false = true
  bx : ∃ cs, w.heap[w0.heap.size]? = some (.cells cs 42 (0, 0)) ∧ cs.size = 11 ∧ (l.getD 16 false = true → cs = #[.int .i64 (n : Nat), .int .i64 0, G 0, G 1, G 2, G 3, G 4, G 5, G 6, .int .i64 0, .int .i64 0])
  up15 : l.getD 16 false = true → l.getD 15 false = true
  below : Below w0.heap.size w0 w
section
variable {t p n : Nat} {G : Nat → Value} {l : Array Bool} {a : Act}
theorem TI.s0 (H : TI t p n G l a) {v : Value} (hv : v = .int .i64 (n : Nat)) : TI t p n G (l.setIfInBounds 0 true) (a.put (some 22) v) := ⟨(Array.size_setIfInBounds ..).trans H.sz, H.df, (tmp_other _ (by decide)).trans H.r0, (tmp_other _ (by decide)).trans H.r1, (tmp_other _ (by decide)).trans H.r2, keep_new (by rw [H.sz]; decide) hv, keep_one (by decide) (by decide) H.m1, keep_one (by decide) (by decide) H.m2, keep_one (by decide) (by decide) H.m3, keep_one (by decide) (by decide) H.m4, keep_one (by decide) (by decide) H.m5, keep_one (by decide) (by decide) H.m6, keep_one (by decide) (by decide) H.m7, keep_one (by decide) (by decide) H.m8, keep_one (by decide) (by decide) H.m9, keep_one (by decide) (by decide) H.m10, keep_one (by decide) (by decide) H.m11, keep_one (by decide) (by decide) H.m12, keep_one (by decide) (by decide) H.m13, keep_one (by decide) (by decide) H.m14, keep_one (by decide) (by decide) H.m15, keep_one (by decide) (by decide) H.m17⟩
theorem TI.s1 (H : TI t p n G l a) {v : Value} (hv : v = .int .i64 (t : Nat)) : TI t p n G (l.setIfInBounds 1 true) (a.put (some 23) v) := ⟨(Array.size_setIfInBounds ..).trans H.sz, H.df, (tmp_other _ (by decide)).trans H.r0, (tmp_other _ (by decide)).trans H.r1, (tmp_other _ (by decide)).trans H.r2, keep_one (by decide) (by decide) H.m0, keep_new (by rw [H.sz]; decide) hv, keep_one (by decide) (by decide) H.m2, keep_one (by decide) (by decide) H.m3, keep_one (by decide) (by decide) H.m4, keep_one (by decide) (by decide) H.m5, keep_one (by decide) (by decide) H.m6, keep_one (by decide) (by decide) H.m7, keep_one (by decide) (by decide) H.m8, keep_one (by decide) (by decide) H.m9, keep_one (by decide) (by decide) H.m10, keep_one (by decide) (by decide) H.m11, keep_one (by decide) (by decide) H.m12, keep_one (by decide) (by decide) H.m13, keep_one (by decide) (by decide) H.m14, keep_one (by decide) (by decide) H.m15, keep_one (by decide) (by decide) H.m17⟩
theorem TI.s3 (H : TI t p n G l a) {v : Value} (hv : v = .int .i64 (t : Nat)) : TI t p n G (l.setIfInBounds 3 true) (a.put (some 25) v) := ⟨(Array.size_setIfInBounds ..).trans H.sz, H.df, (tmp_other _ (by decide)).trans H.r0, (tmp_other _ (by decide)).trans H.r1, (tmp_other _ (by decide)).trans H.r2, keep_one (by decide) (by decide) H.m0, keep_one (by decide) (by decide) H.m1, keep_one (by decide) (by decide) H.m2, keep_new (by rw [H.sz]; decide) hv, keep_one (by decide) (by decide) H.m4, keep_one (by decide) (by decide) H.m5, keep_one (by decide) (by decide) H.m6, keep_one (by decide) (by decide) H.m7, keep_one (by decide) (by decide) H.m8, keep_one (by decide) (by decide) H.m9, keep_one (by decide) (by decide) H.m10, keep_one (by decide) (by decide) H.m11, keep_one (by decide) (by decide) H.m12, keep_one (by decide) (by decide) H.m13, keep_one (by decide) (by decide) H.m14, keep_one (by decide) (by decide) H.m15, keep_one (by decide) (by decide) H.m17⟩
theorem TI.s5 (H : TI t p n G l a) {v : Value} (hv : v = .int .i64 (t : Nat)) : TI t p n G (l.setIfInBounds 5 true) (a.put (some 27) v) := ⟨(Array.size_setIfInBounds ..).trans H.sz, H.df, (tmp_other _ (by decide)).trans H.r0, (tmp_other _ (by decide)).trans H.r1, (tmp_other _ (by decide)).trans H.r2, keep_one (by decide) (by decide) H.m0, keep_one (by decide) (by decide) H.m1, keep_one (by decide) (by decide) H.m2, keep_one (by decide) (by decide) H.m3, keep_one (by decide) (by decide) H.m4, keep_new (by rw [H.sz]; decide) hv, keep_one (by decide) (by decide) H.m6, keep_one (by decide) (by decide) H.m7, keep_one (by decide) (by decide) H.m8, keep_one (by decide) (by decide) H.m9, keep_one (by decide) (by decide) H.m10, keep_one (by decide) (by decide) H.m11, keep_one (by decide) (by decide) H.m12, keep_one (by decide) (by decide) H.m13, keep_one (by decide) (by decide) H.m14, keep_one (by decide) (by decide) H.m15, keep_one (by decide) (by decide) H.m17⟩
theorem TI.s7 (H : TI t p n G l a) {v : Value} (hv : v = .int .i64 (p : Nat)) : TI t p n G (l.setIfInBounds 7 true) (a.put (some 29) v) := ⟨(Array.size_setIfInBounds ..).trans H.sz, H.df, (tmp_other _ (by decide)).trans H.r0, (tmp_other _ (by decide)).trans H.r1, (tmp_other _ (by decide)).trans H.r2, keep_one (by decide) (by decide) H.m0, keep_one (by decide) (by decide) H.m1, keep_one (by decide) (by decide) H.m2, keep_one (by decide) (by decide) H.m3, keep_one (by decide) (by decide) H.m4, keep_one (by decide) (by decide) H.m5, keep_one (by decide) (by decide) H.m6, keep_new (by rw [H.sz]; decide) hv, keep_one (by decide) (by decide) H.m8, keep_one (by decide) (by decide) H.m9, keep_one (by decide) (by decide) H.m10, keep_one (by decide) (by decide) H.m11, keep_one (by decide) (by decide) H.m12, keep_one (by decide) (by decide) H.m13, keep_one (by decide) (by decide) H.m14, keep_one (by decide) (by decide) H.m15, keep_one (by decide) (by decide) H.m17⟩
theorem TI.s9 (H : TI t p n G l a) {v : Value} (hv : v = .int .i64 (p : Nat)) : TI t p n G (l.setIfInBounds 9 true) (a.put (some 31) v) := ⟨(Array.size_setIfInBounds ..).trans H.sz, H.df, (tmp_other _ (by decide)).trans H.r0, (tmp_other _ (by decide)).trans H.r1, (tmp_other _ (by decide)).trans H.r2, keep_one (by decide) (by decide) H.m0, keep_one (by decide) (by decide) H.m1, keep_one (by decide) (by decide) H.m2, keep_one (by decide) (by decide) H.m3, keep_one (by decide) (by decide) H.m4, keep_one (by decide) (by decide) H.m5, keep_one (by decide) (by decide) H.m6, keep_one (by decide) (by decide) H.m7, keep_one (by decide) (by decide) H.m8, keep_new (by rw [H.sz]; decide) hv, keep_one (by decide) (by decide) H.m10, keep_one (by decide) (by decide) H.m11, keep_one (by decide) (by decide) H.m12, keep_one (by decide) (by decide) H.m13, keep_one (by decide) (by decide) H.m14, keep_one (by decide) (by decide) H.m15, keep_one (by decide) (by decide) H.m17⟩
theorem TI.s11 (H : TI t p n G l a) {v : Value} (hv : v = .int .i64 (p : Nat)) : TI t p n G (l.setIfInBounds 11 true) (a.put (some 33) v) := ⟨(Array.size_setIfInBounds ..).trans H.sz, H.df, (tmp_other _ (by decide)).trans H.r0, (tmp_other _ (by decide)).trans H.r1, (tmp_other _ (by decide)).trans H.r2, keep_one (by decide) (by decide) H.m0, keep_one (by decide) (by decide) H.m1, keep_one (by decide) (by decide) H.m2, keep_one (by decide) (by decide) H.m3, keep_one (by decide) (by decide) H.m4, keep_one (by decide) (by decide) H.m5, keep_one (by decide) (by decide) H.m6, keep_one (by decide) (by decide) H.m7, keep_one (by decide) (by decide) H.m8, keep_one (by decide) (by decide) H.m9, keep_one (by decide) (by decide) H.m10, keep_new (by rw [H.sz]; decide) hv, keep_one (by decide) (by decide) H.m12, keep_one (by decide) (by decide) H.m13, keep_one (by decide) (by decide) H.m14, keep_one (by decide) (by decide) H.m15, keep_one (by decide) (by decide) H.m17⟩
theorem TI.s13 (H : TI t p n G l a) {v : Value} (hv : v = .int .i64 (p : Nat)) : TI t p n G (l.setIfInBounds 13 true) (a.put (some 35) v) := ⟨(Array.size_setIfInBounds ..).trans H.sz, H.df, (tmp_other _ (by decide)).trans H.r0, (tmp_other _ (by decide)).trans H.r1, (tmp_other _ (by decide)).trans H.r2, keep_one (by decide) (by decide) H.m0, keep_one (by decide) (by decide) H.m1, keep_one (by decide) (by decide) H.m2, keep_one (by decide) (by decide) H.m3, keep_one (by decide) (by decide) H.m4, keep_one (by decide) (by decide) H.m5, keep_one (by decide) (by decide) H.m6, keep_one (by decide) (by decide) H.m7, keep_one (by decide) (by decide) H.m8, keep_one (by decide) (by decide) H.m9, keep_one (by decide) (by decide) H.m10, keep_one (by decide) (by decide) H.m11, keep_one (by decide) (by decide) H.m12, keep_new (by rw [H.sz]; decide) hv, keep_one (by decide) (by decide) H.m14, keep_one (by decide) (by decide) H.m15, keep_one (by decide) (by decide) H.m17⟩
theorem TI.s2 (H : TI t p n G l a) {v : Value} (n15 : ¬ l.getD 15 false = true) : TI t p n (upG G 0 v) (l.setIfInBounds 2 true) (a.put (some 24) v) := ⟨(Array.size_setIfInBounds ..).trans H.sz, H.df, (tmp_other _ (by decide)).trans H.r0, (tmp_other _ (by decide)).trans H.r1, (tmp_other _ (by decide)).trans H.r2, keep_one (by decide) (by decide) H.m0, keep_one (by decide) (by decide) H.m1, keep_new (by rw [H.sz]; decide) rfl, keep_one (by decide) (by decide) H.m3, keep_one (by decide) (by decide) H.m4, keep_one (by decide) (by decide) H.m5, keep_one (by decide) (by decide) H.m6, keep_one (by decide) (by decide) H.m7, keep_one (by decide) (by decide) H.m8, keep_one (by decide) (by decide) H.m9, keep_one (by decide) (by decide) H.m10, keep_one (by decide) (by decide) H.m11, keep_one (by decide) (by decide) H.m12, keep_one (by decide) (by decide) H.m13, keep_one (by decide) (by decide) H.m14, fun h => absurd h (by rw [getD_set_ne false (by decide)]; exact n15), keep_one (by decide) (by decide) H.m17⟩
theorem TI.s4 (H : TI t p n G l a) {v : Value} (n15 : ¬ l.getD 15 false = true) : TI t p n (upG G 1 v) (l.setIfInBounds 4 true) (a.put (some 26) v) := ⟨(Array.size_setIfInBounds ..).trans H.sz, H.df, (tmp_other _ (by decide)).trans H.r0, (tmp_other _ (by decide)).trans H.r1, (tmp_other _ (by decide)).trans H.r2, keep_one (by decide) (by decide) H.m0, keep_one (by decide) (by decide) H.m1, keep_one (by decide) (by decide) H.m2, keep_one (by decide) (by decide) H.m3, keep_new (by rw [H.sz]; decide) rfl, keep_one (by decide) (by decide) H.m5, keep_one (by decide) (by decide) H.m6, keep_one (by decide) (by decide) H.m7, keep_one (by decide) (by decide) H.m8, keep_one (by decide) (by decide) H.m9, keep_one (by decide) (by decide) H.m10, keep_one (by decide) (by decide) H.m11, keep_one (by decide) (by decide) H.m12, keep_one (by decide) (by decide) H.m13, keep_one (by decide) (by decide) H.m14, fun h => absurd h (by rw [getD_set_ne false (by decide)]; exact n15), keep_one (by decide) (by decide) H.m17⟩
theorem TI.s6 (H : TI t p n G l a) {v : Value} (n15 : ¬ l.getD 15 false = true) : TI t p n (upG G 2 v) (l.setIfInBounds 6 true) (a.put (some 28) v) := ⟨(Array.size_setIfInBounds ..).trans H.sz, H.df, (tmp_other _ (by decide)).trans H.r0, (tmp_other _ (by decide)).trans H.r1, (tmp_other _ (by decide)).trans H.r2, keep_one (by decide) (by decide) H.m0, keep_one (by decide) (by decide) H.m1, keep_one (by decide) (by decide) H.m2, keep_one (by decide) (by decide) H.m3, keep_one (by decide) (by decide) H.m4, keep_one (by decide) (by decide) H.m5, keep_new (by rw [H.sz]; decide) rfl, keep_one (by decide) (by decide) H.m7, keep_one (by decide) (by decide) H.m8, keep_one (by decide) (by decide) H.m9, keep_one (by decide) (by decide) H.m10, keep_one (by decide) (by decide) H.m11, keep_one (by decide) (by decide) H.m12, keep_one (by decide) (by decide) H.m13, keep_one (by decide) (by decide) H.m14, fun h => absurd h (by rw [getD_set_ne false (by decide)]; exact n15), keep_one (by decide) (by decide) H.m17⟩
theorem TI.s8 (H : TI t p n G l a) {v : Value} (n15 : ¬ l.getD 15 false = true) : TI t p n (upG G 3 v) (l.setIfInBounds 8 true) (a.put (some 30) v) := ⟨(Array.size_setIfInBounds ..).trans H.sz, H.df, (tmp_other _ (by decide)).trans H.r0, (tmp_other _ (by decide)).trans H.r1, (tmp_other _ (by decide)).trans H.r2, keep_one (by decide) (by decide) H.m0, keep_one (by decide) (by decide) H.m1, keep_one (by decide) (by decide) H.m2, keep_one (by decide) (by decide) H.m3, keep_one (by decide) (by decide) H.m4, keep_one (by decide) (by decide) H.m5, keep_one (by decide) (by decide) H.m6, keep_one (by decide) (by decide) H.m7, keep_new (by rw [H.sz]; decide) rfl, keep_one (by decide) (by decide) H.m9, keep_one (by decide) (by decide) H.m10, keep_one (by decide) (by decide) H.m11, keep_one (by decide) (by decide) H.m12, keep_one (by decide) (by decide) H.m13, keep_one (by decide) (by decide) H.m14, fun h => absurd h (by rw [getD_set_ne false (by decide)]; exact n15), keep_one (by decide) (by decide) H.m17⟩
theorem TI.s10 (H : TI t p n G l a) {v : Value} (n15 : ¬ l.getD 15 false = true) : TI t p n (upG G 4 v) (l.setIfInBounds 10 true) (a.put (some 32) v) := ⟨(Array.size_setIfInBounds ..).trans H.sz, H.df, (tmp_other _ (by decide)).trans H.r0, (tmp_other _ (by decide)).trans H.r1, (tmp_other _ (by decide)).trans H.r2, keep_one (by decide) (by decide) H.m0, keep_one (by decide) (by decide) H.m1, keep_one (by decide) (by decide) H.m2, keep_one (by decide) (by decide) H.m3, keep_one (by decide) (by decide) H.m4, keep_one (by decide) (by decide) H.m5, keep_one (by decide) (by decide) H.m6, keep_one (by decide) (by decide) H.m7, keep_one (by decide) (by decide) H.m8, keep_one (by decide) (by decide) H.m9, keep_new (by rw [H.sz]; decide) rfl, keep_one (by decide) (by decide) H.m11, keep_one (by decide) (by decide) H.m12, keep_one (by decide) (by decide) H.m13, keep_one (by decide) (by decide) H.m14, fun h => absurd h (by rw [getD_set_ne false (by decide)]; exact n15), keep_one (by decide) (by decide) H.m17⟩
theorem TI.s12 (H : TI t p n G l a) {v : Value} (n15 : ¬ l.getD 15 false = true) : TI t p n (upG G 5 v) (l.setIfInBounds 12 true) (a.put (some 34) v) := ⟨(Array.size_setIfInBounds ..).trans H.sz, H.df, (tmp_other _ (by decide)).trans H.r0, (tmp_other _ (by decide)).trans H.r1, (tmp_other _ (by decide)).trans H.r2, keep_one (by decide) (by decide) H.m0, keep_one (by decide) (by decide) H.m1, keep_one (by decide) (by decide) H.m2, keep_one (by decide) (by decide) H.m3, keep_one (by decide) (by decide) H.m4, keep_one (by decide) (by decide) H.m5, keep_one (by decide) (by decide) H.m6, keep_one (by decide) (by decide) H.m7, keep_one (by decide) (by decide) H.m8, keep_one (by decide) (by decide) H.m9, keep_one (by decide) (by decide) H.m10, keep_one (by decide) (by decide) H.m11, keep_new (by rw [H.sz]; decide) rfl, keep_one (by decide) (by decide) H.m13, keep_one (by decide) (by decide) H.m14, fun h => absurd h (by rw [getD_set_ne false (by decide)]; exact n15), keep_one (by decide) (by decide) H.m17⟩
theorem TI.s14 (H : TI t p n G l a) {v : Value} (n15 : ¬ l.getD 15 false = true) : TI t p n (upG G 6 v) (l.setIfInBounds 14 true) (a.put (some 36) v) := ⟨(Array.size_setIfInBounds ..).trans H.sz, H.df, (tmp_other _ (by decide)).trans H.r0, (tmp_other _ (by decide)).trans H.r1, (tmp_other _ (by decide)).trans H.r2, keep_one (by decide) (by decide) H.m0, keep_one (by decide) (by decide) H.m1, keep_one (by decide) (by decide) H.m2, keep_one (by decide) (by decide) H.m3, keep_one (by decide) (by decide) H.m4, keep_one (by decide) (by decide) H.m5, keep_one (by decide) (by decide) H.m6, keep_one (by decide) (by decide) H.m7, keep_one (by decide) (by decide) H.m8, keep_one (by decide) (by decide) H.m9, keep_one (by decide) (by decide) H.m10, keep_one (by decide) (by decide) H.m11, keep_one (by decide) (by decide) H.m12, keep_one (by decide) (by decide) H.m13, keep_new (by rw [H.sz]; decide) rfl, fun h => absurd h (by rw [getD_set_ne false (by decide)]; exact n15), keep_one (by decide) (by decide) H.m17⟩
theorem TI.s15 (H : TI t p n G l a) {v : Value} (hv : v = .agg #[.int .i64 (n : Nat), .int .i64 0, G 0, G 1, G 2, G 3, G 4, G 5, G 6, .int .i64 0, .int .i64 0]) : TI t p n G (l.setIfInBounds 15 true) (a.put (some 37) v) := ⟨(Array.size_setIfInBounds ..).trans H.sz, H.df, (tmp_other _ (by decide)).trans H.r0, (tmp_other _ (by decide)).trans H.r1, (tmp_other _ (by decide)).trans H.r2, keep_one (by decide) (by decide) H.m0, keep_one (by decide) (by decide) H.m1, keep_one (by decide) (by decide) H.m2, keep_one (by decide) (by decide) H.m3, keep_one (by decide) (by decide) H.m4, keep_one (by decide) (by decide) H.m5, keep_one (by decide) (by decide) H.m6, keep_one (by decide) (by decide) H.m7, keep_one (by decide) (by decide) H.m8, keep_one (by decide) (by decide) H.m9, keep_one (by decide) (by decide) H.m10, keep_one (by decide) (by decide) H.m11, keep_one (by decide) (by decide) H.m12, keep_one (by decide) (by decide) H.m13, keep_one (by decide) (by decide) H.m14, keep_new (by rw [H.sz]; decide) hv, keep_one (by decide) (by decide) H.m17⟩
theorem TI.s17 (H : TI t p n G l a) {v : Value} (hv : v = .int .i64 0) : TI t p n G (l.setIfInBounds 17 true) (a.put (some 7) v) := ⟨(Array.size_setIfInBounds ..).trans H.sz, H.df, (tmp_other _ (by decide)).trans H.r0, (tmp_other _ (by decide)).trans H.r1, (tmp_other _ (by decide)).trans H.r2, keep_one (by decide) (by decide) H.m0, keep_one (by decide) (by decide) H.m1, keep_one (by decide) (by decide) H.m2, keep_one (by decide) (by decide) H.m3, keep_one (by decide) (by decide) H.m4, keep_one (by decide) (by decide) H.m5, keep_one (by decide) (by decide) H.m6, keep_one (by decide) (by decide) H.m7, keep_one (by decide) (by decide) H.m8, keep_one (by decide) (by decide) H.m9, keep_one (by decide) (by decide) H.m10, keep_one (by decide) (by decide) H.m11, keep_one (by decide) (by decide) H.m12, keep_one (by decide) (by decide) H.m13, keep_one (by decide) (by decide) H.m14, keep_one (by decide) (by decide) H.m15, keep_new (by rw [H.sz]; decide) hv⟩
theorem TI.s16 (H : TI t p n G l a) : TI t p n G (l.setIfInBounds 16 true) a := ⟨H.sz, H.df, H.r0, H.r1, H.r2, fun h => H.m0 (by rwa [getD_set_ne false (by decide)] at h), fun h => H.m1 (by rwa [getD_set_ne false (by decide)] at h), fun h => H.m2 (by rwa [getD_set_ne false (by decide)] at h), fun h => H.m3 (by rwa [getD_set_ne false (by decide)] at h), fun h => H.m4 (by rwa [getD_set_ne false (by decide)] at h), fun h => H.m5 (by rwa [getD_set_ne false (by decide)] at h), fun h => H.m6 (by rwa [getD_set_ne false (by decide)] at h), fun h => H.m7 (by rwa [getD_set_ne false (by decide)] at h), fun h => H.m8 (by rwa [getD_set_ne false (by decide)] at h), fun h => H.m9 (by rwa [getD_set_ne false (by decide)] at h), fun h => H.m10 (by rwa [getD_set_ne false (by decide)] at h), fun h => H.m11 (by rwa [getD_set_ne false (by decide)] at h), fun h => H.m12 (by rwa [getD_set_ne false (by decide)] at h), fun h => H.m13 (by rwa [getD_set_ne false (by decide)] at h), fun h => H.m14 (by rwa [getD_set_ne false (by decide)] at h), fun h => H.m15 (by rwa [getD_set_ne false (by decide)] at h), fun h => H.m17 (by rwa [getD_set_ne false (by decide)] at h)⟩
variable {w0 w : World} {F : Nat → Ent}
/-- A move. -/
theorem NewI.move (H : NewI w0 t p n G F l a w) {i c : Nat} {v : Value} (hi : i < 15) (h2 : ∀ q, q < 7 → i ≠ 2 + 2 * q) (hc : c ≠ 6) (h : TI t p n G (l.setIfInBounds i true) (a.put (some c) v)) : NewI w0 t p n G F (l.setIfInBounds i true) (a.put (some c) v) w := by
  refine ⟨h, (tmp_other _ hc).trans H.r6, H.one, H.pool, fun q hq hl => H.keys q hq (by rwa [getD_set_ne false (h2 q hq)] at hl), fun hl q hq => ?_, ?_, fun hl => ?_, H.below⟩
  · rw [getD_set_ne false (by omega)] at hl
    rw [getD_set_ne false (h2 q hq)]
    exact H.all hl q hq
  · rw [getD_set_ne false (by omega)]; exact H.bx
  · rw [getD_set_ne false (by omega)] at hl ⊢; exact H.up15 hl
theorem lset_self {i : Nat} (h : i < l.size) : (l.setIfInBounds i true).getD i false = true := by simp [h]
/-- A new row. -/
theorem NewI.make (H : NewI w0 t p n G F l a w) {q c : Nat} {v : Value} {w' : World} (hq : q < 7) (hc : c ≠ 6) (h : TI t p n (upG G q v) (l.setIfInBounds (2 + 2 * q) true) (a.put (some c) v)) (n15 : ¬ l.getD 15 false = true) (h1 : ∃ A m c, v = .slice A m c) (hp : Pool w' (w0.heap.size + 1) (up F q (ent t p q v))) (hb : Below w.heap.size w w') :
    NewI w0 t p n (upG G q v) (up F q (ent t p q v)) (l.setIfInBounds (2 + 2 * q) true) (a.put (some c) v) w' := by
  have hs := H.below.size
  obtain ⟨cs, hcs, hsz, _⟩ := H.bx
  have n16 : ¬ l.getD 16 false = true := fun h => n15 (H.up15 h)
  refine ⟨h, (tmp_other _ hc).trans H.r6, fun k => ?_, hp, fun k hk hl => ?_, fun hl => ?_, ⟨cs, (hb.block _ ?_).trans hcs, hsz, fun hl => ?_⟩, fun hl => ?_, H.below.trans (hb.mono hs)⟩
  · unfold upG; split
    · exact h1
    · exact H.one k
  · by_cases e : k = q
    · subst e; rw [up_self]; simp [upG]
    · rw [up_ne _ _ e, H.keys k hk (by rwa [getD_set_ne false (by omega)] at hl)]; simp [upG, e]
  · rw [getD_set_ne false (by omega)] at hl; exact absurd hl n15
  · have := Array.getElem?_eq_some_iff.1 hcs
    exact this.1
  · rw [getD_set_ne false (by omega)] at hl; exact absurd hl n16
  · rw [getD_set_ne false (by omega)] at hl; exact absurd hl n16
/-- The literal. -/
theorem NewI.lit (H : NewI w0 t p n G F l a w) {v : Value} (h : TI t p n G (l.setIfInBounds 15 true) (a.put (some 37) v)) (ha : ∀ q, q < 7 → l.getD (2 + 2 * q) false = true) (hl : 15 < l.size) : NewI w0 t p n G F (l.setIfInBounds 15 true) (a.put (some 37) v) w := by
  refine ⟨h, (tmp_other _ (by decide)).trans H.r6, H.one, H.pool, fun q hq hl => H.keys q hq (by rwa [getD_set_ne false (by omega)] at hl), fun _ q hq => ?_, ?_, fun _ => lset_self hl, H.below⟩
  · rw [getD_set_ne false (by omega)]; exact ha q hq
  · rw [getD_set_ne false (by decide)]; exact H.bx
/-- The store. -/
theorem NewI.store (H : NewI w0 t p n G F l a w) (h : TI t p n G (l.setIfInBounds 16 true) a) (h15 : l.getD 15 false = true) : NewI w0 t p n G F (l.setIfInBounds 16 true) a (w.setRow w0.heap.size #[.int .i64 (n : Nat), .int .i64 0, G 0, G 1, G 2, G 3, G 4, G 5, G 6, .int .i64 0, .int .i64 0]) := by
  obtain ⟨cs, hcs, hsz, _⟩ := H.bx
  refine ⟨h, H.r6, H.one, ⟨fun b => pool_heap (H.pool.own b) fun k hk => setRow_other w _ k _ (by have := (H.pool.lt b hk).1; omega), H.pool.ne⟩, fun q hq hl => H.keys q hq (by rwa [getD_set_ne false (by omega)] at hl), fun hl q hq => ?_, ⟨_, setRow_heap _ _ _ _ _ _ hcs, rfl, fun _ => rfl⟩, fun _ => ?_, H.below.trans ⟨rfl, rfl, rfl, by simp, fun q hq => setRow_other w _ q _ (by omega)⟩⟩
  · rw [getD_set_ne false (by omega)]; exact H.all h15 q hq
  · rw [getD_set_ne false (by decide)]; exact h15
theorem NewI.last (H : NewI w0 t p n G F l a w) {v : Value} (h : TI t p n G (l.setIfInBounds 17 true) (a.put (some 7) v)) : NewI w0 t p n G F (l.setIfInBounds 17 true) (a.put (some 7) v) w := by
  refine ⟨h, (tmp_other _ (by decide)).trans H.r6, H.one, H.pool, fun q hq hl => H.keys q hq (by rwa [getD_set_ne false (by omega)] at hl), fun hl q hq => ?_, ?_, fun hl => ?_, H.below⟩
  · rw [getD_set_ne false (by decide)] at hl
    rw [getD_set_ne false (by omega)]
    exact H.all hl q hq
  · rw [getD_set_ne false (by decide)]; exact H.bx
  · rw [getD_set_ne false (by decide)] at hl ⊢; exact H.up15 hl
end
end Go.Proofs.Ytmlemichkeomjaa.LedW
