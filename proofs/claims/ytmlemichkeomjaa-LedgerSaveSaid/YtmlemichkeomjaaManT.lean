/- stripe.Read walked. -/
import Derived.Test.YtmlemichkeomjaaManS
import Derived.Deep.DeepCutAuto
import Derived.StillTailTactics
set_option linter.unusedVariables false
set_option linter.unusedSimpArgs false
namespace Go.Proofs.Ytmlemichkeomjaa.ManW
open Go.RowKit Go.Proofs.Ytmlemichkeomjaa.BuildW Go.Proofs.Ytmlemichkeomjaa.Base Go.Proofs.Ytmlemichkeomjaa.TapeP Go.Proofs.Ytmlemichkeomjaa.TapeW Go.Proofs.Ytmlemichkeomjaa.ManP Go.Proofs.Ytmlemichkeomjaa.MendW
/-- What Read keeps. -/
structure RdB (w wr : World) (rb tb : Nat) (s : ByteArray) (st : St) : Prop where
  below : Below w.heap.size w wr
  res : wr.heap[w.heap.size]? = some (.cells #[.int .i64 0, .int .i64 0, .slice none 0 0, .slice none 0 0, .slice none 0 0] 26 (0, 0))
  lo : w.heap.size < tb
  rd : RdAt wr rb tb s st
theorem RdB.num {w wr w2 : World} {rb tb : Nat} {s : ByteArray} {st st2 : St} (h : RdB w wr rb tb s st) (hO : Only tb (rb + 1) wr w2) (hR : RdAt w2 rb tb s st2) : RdB w w2 rb tb s st2 := by
  have h1 := h.below.size
  have h2 := h.lo
  have h3 := h.rd.lt
  have h4 := h.rd.rlt
  exact ⟨h.below.trans (hO.below (by omega) h1), (hO.block _ (by omega) (.inl h2)).trans h.res, h2, hR⟩
theorem RdB.far {w wr w2 : World} {rb tb : Nat} {s : ByteArray} {st : St} (h : RdB w wr rb tb s st) (hb : Below (rb + 1) wr w2) : RdB w w2 rb tb s st := by
  have h1 := h.below.size
  have h2 := h.lo
  have h3 := h.rd.lt
  have h4 := h.rd.rlt
  exact ⟨h.below.trans (hb.mono (by omega)), (hb.block _ (by omega)).trans h.res, h2, h.rd.far hb (Nat.lt_succ_self _)⟩
structure RdS (w wr : World) (rb tb mb : Nat) (s : ByteArray) (st : St) (t a : Int) (v2 v3 v4 : Value) (sz sm : List Int) (hm : List (List Int)) (rv : Nat → Value) (F : Nat → Ent) : Prop where
  below : Below w.heap.size w wr
  res : wr.heap[w.heap.size]? = some (.cells #[.int .i64 0, .int .i64 0, .slice none 0 0, .slice none 0 0, .slice none 0 0] 26 (0, 0))
  lo : w.heap.size < tb
  rd : RdAt wr rb tb s st
  pool : Pool wr (rb + 1) F
  plan : RdP F mb t a v2 v3 v4 sz sm hm rv
section
variable {w wr w2 : World} {rb tb mb : Nat} {s : ByteArray} {st : St} {t a : Int} {v2 v3 v4 : Value} {sz sm : List Int} {hm : List (List Int)} {rv : Nat → Value} {F : Nat → Ent}
theorem RdS.num (h : RdS w wr rb tb mb s st t a v2 v3 v4 sz sm hm rv F) {st2 : St} (hO : Only tb (rb + 1) wr w2) (hR : RdAt w2 rb tb s st2) : RdS w w2 rb tb mb s st2 t a v2 v3 v4 sz sm hm rv F := by
  have h1 := h.below.size
  have h2 := h.lo
  have h3 := h.rd.lt
  have h4 := h.rd.rlt
  exact ⟨h.below.trans (hO.below (by omega) h1), (hO.block _ (by omega) (.inl h2)).trans h.res, h2, hR, pool_only h.pool hO (Nat.le_refl _), h.plan⟩
theorem RdS.far (h : RdS w wr rb tb mb s st t a v2 v3 v4 sz sm hm rv F) (hb : Below (rb + 1) wr w2) {F2 : Nat → Ent} {u2 u3 u4 : Value} {sz2 sm2 : List Int} {hm2 : List (List Int)} {rv2 : Nat → Value} (hP : Pool w2 (rb + 1) F2) (hp : RdP F2 mb t a u2 u3 u4 sz2 sm2 hm2 rv2) : RdS w w2 rb tb mb s st t a u2 u3 u4 sz2 sm2 hm2 rv2 F2 := by
  have h1 := h.below.size
  have h2 := h.lo
  have h3 := h.rd.lt
  have h4 := h.rd.rlt
  exact ⟨h.below.trans (hb.mono (by omega)), (hb.block _ (by omega)).trans h.res, h2, h.rd.far hb (Nat.lt_succ_self _), hP, hp⟩
theorem RdS.later (h : RdS w wr rb tb mb s st t a v2 v3 v4 sz sm hm rv F) (hb : Below wr.heap.size wr w2) : RdS w w2 rb tb mb s st t a v2 v3 v4 sz sm hm rv F :=
  h.far (hb.mono h.rd.rlt) (h.pool.below hb) h.plan
theorem RdS.hi (h : RdS w wr rb tb mb s st t a v2 v3 v4 sz sm hm rv F) : rb + 1 ≤ wr.heap.size := h.rd.rlt
theorem RdS.mlt (h : RdS w wr rb tb mb s st t a v2 v3 v4 sz sm hm rv F) : rb + 1 ≤ mb ∧ mb < wr.heap.size := h.pool.lt 7 (by rw [h.plan.box]; rfl)
theorem RdS.c2 (h : RdS w wr rb tb mb s st t a v2 v3 v4 sz sm hm rv F) : wr.cell? ⟨mb, 2, none⟩ = some v2 := h.pool.cell 7 h.plan.box rfl rfl
theorem RdS.c3 (h : RdS w wr rb tb mb s st t a v2 v3 v4 sz sm hm rv F) : wr.cell? ⟨mb, 3, none⟩ = some v3 := h.pool.cell 7 h.plan.box rfl rfl
theorem RdS.c4 (h : RdS w wr rb tb mb s st t a v2 v3 v4 sz sm hm rv F) : wr.cell? ⟨mb, 4, none⟩ = some v4 := h.pool.cell 7 h.plan.box rfl rfl
theorem RdS.fr (h : RdS w wr rb tb mb s st t a v2 v3 v4 sz sm hm rv F) (j : Nat) : wr.frozen? ⟨mb, j, none⟩ = false := h.pool.free 7 h.plan.box rfl j
/-- Behind an append, ahead of the store. -/
structure RdA (w w1 : World) (rb tb mb : Nat) (s : ByteArray) (st : St) (F1 : Nat → Ent) (t a : Int) (v2 v3 v4 : Value) : Prop where
  below : Below w.heap.size w w1
  res : w1.heap[w.heap.size]? = some (.cells #[.int .i64 0, .int .i64 0, .slice none 0 0, .slice none 0 0, .slice none 0 0] 26 (0, 0))
  lo : w.heap.size < tb
  rd : RdAt w1 rb tb s st
  pool : Pool w1 (rb + 1) F1
  box : F1 7 = ⟨26, 5, .slice (some ⟨mb, 0, none⟩) 1 1, 1, [.int .i64 t, .int .i64 a, v2, v3, v4]⟩
theorem RdS.app (h : RdS w wr rb tb mb s st t a v2 v3 v4 sz sm hm rv F) (key : Nat) (hk : key ≠ 7) (E : Ent) (hb : Below (rb + 1) wr w2) (hP : Pool w2 (rb + 1) (up F key E)) : RdA w w2 rb tb mb s st (up F key E) t a v2 v3 v4 := by
  have h1 := h.below.size
  have h2 := h.lo
  have h3 := h.rd.lt
  have h4 := h.rd.rlt
  exact ⟨h.below.trans (hb.mono (by omega)), (hb.block _ (by omega)).trans h.res, h2, h.rd.far hb (Nat.lt_succ_self _), hP, (up_ne _ _ (Ne.symm hk)).trans h.plan.box⟩
end
section
variable {w wr : World} {rb tb mb : Nat} {s : ByteArray} {st : St} {t a : Int} {v2 v3 v4 : Value} {sz sm : List Int} {hm : List (List Int)} {rv : Nat → Value} {F F1 : Nat → Ent}
theorem RdA.fr (h : RdA w wr rb tb mb s st F1 t a v2 v3 v4) (j : Nat) : wr.frozen? ⟨mb, j, none⟩ = false := h.pool.free 7 h.box rfl j
theorem RdA.cell (h : RdA w wr rb tb mb s st F1 t a v2 v3 v4) {j : Nat} {u : Value} (hu : ([.int .i64 t, .int .i64 a, v2, v3, v4] : List Value)[j]? = some u) : wr.cell? ⟨mb, j, none⟩ = some u := h.pool.cell 7 h.box rfl hu
theorem RdA.store (h : RdA w wr rb tb mb s st F1 t a v2 v3 v4) (j : Nat) (u : Value) {u2 u3 u4 : Value} {sz2 sm2 : List Int} {hm2 : List (List Int)} {rv2 : Nat → Value}
    (hp : RdP (up F1 7 ⟨26, 5, .slice (some ⟨mb, 0, none⟩) 1 1, 1, ([.int .i64 t, .int .i64 a, v2, v3, v4] : List Value).set j u⟩) mb t a u2 u3 u4 sz2 sm2 hm2 rv2) : RdS w (wr.setCell ⟨mb, j, none⟩ u) rb tb mb s st t a u2 u3 u4 sz2 sm2 hm2 rv2 (up F1 7 ⟨26, 5, .slice (some ⟨mb, 0, none⟩) 1 1, 1, ([.int .i64 t, .int .i64 a, v2, v3, v4] : List Value).set j u⟩) := by
  have hm := h.pool.lt 7 (by rw [h.box]; rfl)
  have h1 := h.below.size
  have h2 := h.lo
  have h3 := h.rd.lt
  have h4 := h.rd.rlt
  have hb : Below (rb + 1) wr (wr.setCell ⟨mb, j, none⟩ u) := (Below.refl _ _).setCell (p := ⟨mb, j, none⟩) hm.1 u
  exact ⟨h.below.trans (hb.mono (by omega)), (hb.block _ (by omega)).trans h.res, h2, h.rd.far hb (Nat.lt_succ_self _), h.pool.store 7 h.box rfl j u, hp⟩
end
theorem rnum_call (rb tb : Nat) (s : ByteArray) (st : St) (lim over : Nat) (l o : Int) (hl1 : l = (lim : Nat)) (ho1 : o = (over : Nat)) (w : World) (hl : lim ≤ 9007199254740991) (ho : over ≤ 255) (hR : RdAt w rb tb s st) :
    Calls Try.prog 43 #[.pointer (some ⟨rb, 0, none⟩), .int .i64 l, .int .i64 o] w (RnumPost w rb tb s lim over st) := by
  subst hl1
  subst ho1
  exact rnum_any rb tb s st lim over w hl ho hR
theorem rnum_most (rb tb : Nat) (s : ByteArray) (st : St) (w : World) (hR : RdAt w rb tb s st) :
    Calls Try.prog 43 #[.pointer (some ⟨rb, 0, none⟩), .int .i64 9007199254740991, .int .i64 0] w (RnumPost w rb tb s most 0 st) :=
  rnum_call rb tb s st most 0 _ _ rfl rfl w (Nat.le_refl _) (by omega) hR
theorem rnum_sum (rb tb : Nat) (s : ByteArray) (st : St) (w : World) (hR : RdAt w rb tb s st) :
    Calls Try.prog 43 #[.pointer (some ⟨rb, 0, none⟩), .int .i64 4294967295, .int .i64 6] w (RnumPost w rb tb s 4294967295 6 st) :=
  rnum_call rb tb s st 4294967295 6 _ _ rfl rfl w (by omega) (by omega) hR
theorem rnum_len (rb tb : Nat) (s : ByteArray) (st : St) (w : World) (hs : s.size ≤ 1000000000000) (hR : RdAt w rb tb s st) :
    Calls Try.prog 43 #[.pointer (some ⟨rb, 0, none⟩), .int .i64 (s.size : Nat), .int .i64 3] w (RnumPost w rb tb s s.size 3 st) := by
  exact rnum_call rb tb s st s.size 3 _ _ rfl rfl w (by omega) (by omega) hR
def NumPost (w : World) (rb tb : Nat) (s : ByteArray) (n : Nat) (st : St) (e : Ending) (w' : World) : Prop := e = .returned (.int .i64 (n : Nat)) ∧ RdAt w' rb tb s st ∧ Only tb (rb + 1) w w'
theorem got_most (rb tb : Nat) (s : ByteArray) (st : St) : ∃ (n : Nat) (st2 : St), rnum s.data.toList most 0 st = (n, st2) ∧ ∀ w, RdAt w rb tb s st →
    Calls Try.prog 43 #[.pointer (some ⟨rb, 0, none⟩), .int .i64 9007199254740991, .int .i64 0] w (NumPost w rb tb s n st2) := ⟨_, _, rfl, fun w h => rnum_most rb tb s st w h⟩
theorem got_sum (rb tb : Nat) (s : ByteArray) (st : St) : ∃ (n : Nat) (st2 : St), rnum s.data.toList 4294967295 6 st = (n, st2) ∧ ∀ w, RdAt w rb tb s st →
    Calls Try.prog 43 #[.pointer (some ⟨rb, 0, none⟩), .int .i64 4294967295, .int .i64 6] w (NumPost w rb tb s n st2) := ⟨_, _, rfl, fun w h => rnum_sum rb tb s st w h⟩
theorem got_len (rb tb : Nat) (s : ByteArray) (st : St) (hs : s.size ≤ 1000000000000) : ∃ (n : Nat) (st2 : St), rnum s.data.toList s.size 3 st = (n, st2) ∧ ∀ w, RdAt w rb tb s st →
    Calls Try.prog 43 #[.pointer (some ⟨rb, 0, none⟩), .int .i64 (s.size : Nat), .int .i64 3] w (NumPost w rb tb s n st2) := ⟨_, _, rfl, fun w h => rnum_len rb tb s st w hs h⟩
theorem wrap_u32 (n : Nat) : ∃ m : Nat, m = n % 4294967296 ∧ IntKind.u32.wrap ((n : Nat) : Int) = ((m : Nat) : Int) := by
  refine ⟨_, rfl, ?_⟩
  rw [IntKind.wrap]; simp [IntKind.bits, IntKind.signed]
theorem pool_nil {w : World} {lo : Nat} {F : Nat → Ent} (h : Pool w lo F) (a : Nat) (e : TypeId) : Pool w lo (up F a ⟨e, 1, .slice none 0 0, 0, []⟩) := by
  refine ⟨fun k => ?_, fun k l g hk hl => ?_⟩
  · by_cases ek : k = a
    · subst ek; rw [up_self]; exact ⟨rfl, .inl ⟨rfl, rfl⟩⟩
    · rw [up_ne _ _ ek]; exact h.own k
  · by_cases ek : k = a
    · subst ek; rw [up_self] at hk; simp [Value.ownBlock] at hk
    · by_cases el : l = a
      · subst el; rw [up_self] at hl; simp [Value.ownBlock] at hl
      · rw [up_ne _ _ ek] at hk; rw [up_ne _ _ el] at hl; exact h.ne k l g hk hl
theorem RdP.move {F : Nat → Ent} {mb : Nat} {t a : Int} {v2 v3 v4 : Value} {sz sm : List Int} {hm : List (List Int)} {rv : Nat → Value} (h : RdP F mb t a v2 v3 v4 sz sm hm rv) (E : Ent) : RdP (up (up F (2 * hm.length + 10) E) 4 noEnt) mb t a v2 v3 v4 sz sm hm rv :=
  ⟨by rw [up_ne _ _ (by omega), up_ne _ _ (by omega)]; exact h.sz_, by rw [up_ne _ _ (by omega), up_ne _ _ (by omega)]; exact h.sm_, by rw [up_ne _ _ (by omega), up_ne _ _ (by omega)]; exact h.top, by rw [up_ne _ _ (by omega), up_ne _ _ (by omega)]; exact h.box, fun i hi => by rw [up_ne _ _ (by omega), up_ne _ _ (by omega)]; exact h.row i hi⟩
/-- A manifest whose parts lie from lo on: it is read in each world that has these blocks. -/
def ManX (lo : Nat) (w : World) (A2 : Option Addr) (n2 : Nat) (A3 : Option Addr) (n3 : Nat) (A4 : Option Addr) (n4 : Nat) (m : Man) : Prop := ∀ w2 : World, (∀ k, lo ≤ k → k < w.heap.size → w2.heap[k]? = w.heap[k]?) → ManW w2 A2 n2 A3 n3 A4 n4 m
/-- What Read answers. -/
def ReadPost (w : World) (s : ByteArray) (e : Ending) (w' : World) : Prop :=
  ∃ A2 c2 A3 c3 A4 c4, e = .returned (.tuple #[.agg #[.int .i64 (rman s.data.toList).1.task, .int .i64 (rman s.data.toList).1.att, .slice A2 (rman s.data.toList).1.sz.length c2, .slice A3 (rman s.data.toList).1.sm.length c3, .slice A4 (rman s.data.toList).1.hm.length c4], .int .i64 ((rman s.data.toList).2 : Nat)]) ∧
    ManX w.heap.size w' A2 (rman s.data.toList).1.sz.length A3 (rman s.data.toList).1.sm.length A4 (rman s.data.toList).1.hm.length (rman s.data.toList).1 ∧ Below w.heap.size w w'
theorem start_pool {w : World} {rb : Nat} (hr : rb < w.heap.size) (t a : Int) : Pool (w.alloc (.cells #[.int .i64 t, .int .i64 a, .slice none 0 0, .slice none 0 0, .slice none 0 0] 26)) (rb + 1) (up (fun k => if k = 0 then ⟨3, 1, .slice none 0 0, 0, []⟩ else if k = 1 then ⟨72, 1, .slice none 0 0, 0, []⟩ else if k = 2 then ⟨22, 1, .slice none 0 0, 0, []⟩ else noEnt) 7 ⟨26, 5, .slice (some ⟨w.heap.size, 0, none⟩) 1 1, 1, [.int .i64 t, .int .i64 a, .slice none 0 0, .slice none 0 0, .slice none 0 0]⟩) := by
  refine pool_alloc (F := fun k : Nat => if k = 0 then ⟨3, 1, .slice none 0 0, 0, []⟩ else if k = 1 then ⟨72, 1, .slice none 0 0, 0, []⟩ else if k = 2 then ⟨22, 1, .slice none 0 0, 0, []⟩ else noEnt) ⟨fun k => ?_, fun k l g hk => ?_⟩ 7 hr 26 5 #[.int .i64 t, .int .i64 a, .slice none 0 0, .slice none 0 0, .slice none 0 0] rfl
  · show Ent.own (if k = 0 then _ else if k = 1 then _ else if k = 2 then _ else noEnt) w (rb + 1)
    split
    · exact ⟨rfl, .inl ⟨rfl, rfl⟩⟩
    · split
      · exact ⟨rfl, .inl ⟨rfl, rfl⟩⟩
      · split
        · exact ⟨rfl, .inl ⟨rfl, rfl⟩⟩
        · exact noEnt_own _ _
  · exfalso
    have hk : (if k = 0 then (⟨3, 1, .slice none 0 0, 0, []⟩ : Ent) else if k = 1 then ⟨72, 1, .slice none 0 0, 0, []⟩ else if k = 2 then ⟨22, 1, .slice none 0 0, 0, []⟩ else noEnt).v.ownBlock = some g := hk
    split at hk
    · simp [Value.ownBlock] at hk
    · split at hk
      · simp [Value.ownBlock] at hk
      · split at hk <;> simp [noEnt, Value.ownBlock] at hk
theorem start_plan (t a : Int) (mb : Nat) : RdP (up (fun k => if k = 0 then ⟨3, 1, .slice none 0 0, 0, []⟩ else if k = 1 then ⟨72, 1, .slice none 0 0, 0, []⟩ else if k = 2 then ⟨22, 1, .slice none 0 0, 0, []⟩ else noEnt) 7 ⟨26, 5, .slice (some ⟨mb, 0, none⟩) 1 1, 1, [.int .i64 t, .int .i64 a, .slice none 0 0, .slice none 0 0, .slice none 0 0]⟩) mb t a (.slice none 0 0) (.slice none 0 0) (.slice none 0 0) [] [] [] (fun _ => .slice none 0 0) :=
  ⟨rfl, rfl, rfl, rfl, fun i hi => by simp at hi⟩
theorem rman_of {s : ByteArray} {ra rc rn : Nat × St} {ta tc N : Nat} {sc st0 : St} {y : RM} (h1 : ra = rnum s.data.toList most 0 (0, 0)) (h2 : ta = ra.1) (h3 : rc = rnum s.data.toList most 0 ra.2) (h4 : tc = rc.1) (h5 : sc = rc.2) (h6 : rn = rnum s.data.toList s.size 3 sc) (h7 : N = rn.1) (h8 : st0 = rn.2) (hy : y = rparts s.data.toList N ⟨st0, [], [], []⟩) :
    rman s.data.toList = if y.st.2 = 0 then if y.st.1 = s.size then (⟨(ta : Nat), (tc : Nat), y.sz, y.sm, y.hm⟩, 0) else (noMan, 6) else (noMan, y.st.2) := by
  unfold rman
  rw [list_size]
  dsimp only
  rw [← h1, ← h3, ← h5, ← h6, ← h7, ← h8, ← hy, ← h2, ← h4]
/-- A store below a pool leaves what is read of it. -/
theorem man_far {w : World} {lo g mb : Nat} {F : Nat → Ent} {t a : Int} {A2 A3 A4 : Option Addr} {c2 c3 c4 : Nat} {sz sm : List Int} {hm : List (List Int)} {rv : Nat → Value} (h : ManW w A2 sz.length A3 sm.length A4 hm.length ⟨t, a, sz, sm, hm⟩) (HP : Pool w lo F) (hp : RdP F mb t a (.slice A2 sz.length c2) (.slice A3 sm.length c3) (.slice A4 hm.length c4) sz sm hm rv) (hg : g < lo) (cs : Array Value) :
    ManX g (w.setRow g cs) A2 sz.length A3 sm.length A4 hm.length ⟨t, a, sz, sm, hm⟩ := by
  intro w2 hw2
  have HQ : Pool w2 lo F := ⟨fun a => pool_heap (HP.own a) fun k hk => (hw2 k (by have := (HP.lt a hk).1; omega) (by have := (HP.lt a hk).2; simpa using this)).trans (setRow_other w g k cs (by have := (HP.lt a hk).1; omega)), HP.ne⟩
  have k0 := h.i2.le
  have k1 := h.i3.le
  have k2 : ∀ l, l ∈ hm → ∀ x, x ∈ l → -9223372036854775808 ≤ x ∧ x ≤ 9223372036854775807 := fun l hl x hx => by
    obtain ⟨j, hj, rfl⟩ := List.mem_iff_getElem.1 hl
    rcases h.i4.at_ with e | ⟨b, off, e, hc⟩
    · dsimp only at e; subst e; simp at hj
    · obtain ⟨B, c, _, _, hI⟩ := hc j hj
      exact hI.le x hx
  obtain ⟨B2, d2, B3, d3, B4, d4, e2, e3, e4, hM⟩ := man_of_pool HQ hp.sz_ hp.sm_ hp.top hp.row k0 k1 k2 t a
  simp only [Value.slice.injEq, true_and] at e2 e3 e4
  obtain ⟨rfl, _⟩ := e2
  obtain ⟨rfl, _⟩ := e3
  obtain ⟨rfl, _⟩ := e4
  exact hM
theorem block_lt {w : World} {g : Nat} {o : Obj} (h : w.heap[g]? = some o) : g < w.heap.size := by
  rcases Nat.lt_or_ge g w.heap.size with h' | h'
  · exact h'
  · simp [Array.getElem?_eq_none h'] at h
theorem results_cell_slot {P : Program} {fn : Func} {p q : Tmp} {ty : TypeId} (h : fn.results = #[.cell p ty, .tmp q]) (tmps : Array Value) (w : World) (g : Nat) (t : TypeId) (cs : Array Value) (fr : Nat × Nat) (d : TypeDesc) {v : Value}
    (hp : tmps.getD p undef = .pointer (some ⟨g, 0, none⟩)) (hg : w.heap[g]? = some (.cells cs t fr))
    (hu : P.underlying ty = some d) (hd : (match d with | .struct _ | .array _ _ => true | _ => false) = true) (hi : (P.info? ty).map (·.size) = some cs.size) (hq : tmps.getD q undef = v) :
    (results fn tmps).run P w = .ok (.tuple #[.agg cs, v]) w := by
  have hp' : tmps[p]?.getD undef = .pointer (some ⟨g, 0, none⟩) := by simpa using hp
  have hq' : tmps[q]?.getD undef = v := by simpa using hq
  simp [results, h, hp', hq', asAddr, run_loadVar_row w g t ty cs fr d hg hu hd hi]
theorem info_man : (Try.prog.info? 26).map (·.size) = some 5 := by kernel_rfl
theorem fin_any {w W : World} {s : ByteArray} {m : Man} {er : Nat} (hm : rman s.data.toList = (m, er)) {A2 A3 A4 : Option Addr} {c2 c3 c4 : Nat} (hb : Below w.heap.size w W) {z : Array Value}
    (hr : W.heap[w.heap.size]? = some (.cells z 26 (0, 0))) (hM : ManX w.heap.size (W.setRow w.heap.size #[.int .i64 m.task, .int .i64 m.att, .slice A2 m.sz.length c2, .slice A3 m.sm.length c3, .slice A4 m.hm.length c4]) A2 m.sz.length A3 m.sm.length A4 m.hm.length m)
    (tmps : Array Value) (h2 : tmps.getD 2 undef = .pointer (some ⟨w.heap.size, 0, none⟩)) (h3 : tmps.getD 3 undef = .int .i64 (er : Nat)) :
    bodyPost Try.prog Try.f14 (ReadPost w s) .ret { tmps := tmps, defers := [] } (W.setRow w.heap.size #[.int .i64 m.task, .int .i64 m.att, .slice A2 m.sz.length c2, .slice A3 m.sm.length c3, .slice A4 m.hm.length c4]) := by
  refine bodyPost_ret (results_cell_slot rfl _ _ w.heap.size 26 _ (0, 0) _ h2 (setRow_heap _ _ _ #[.int .i64 m.task, .int .i64 m.att, .slice A2 m.sz.length c2, .slice A3 m.sm.length c3, .slice A4 m.hm.length c4] _ _ hr) Try.underlying26 rfl info_man h3) rfl ?_
  unfold ReadPost
  rw [hm]
  exact ⟨A2, c2, A3, c3, A4, c4, rfl, hM, hb.trans ⟨rfl, rfl, rfl, by simp, fun k hk => setRow_other W _ k _ (by omega)⟩⟩
theorem fin_zero {w W : World} {s : ByteArray} {er : Nat} (hm : rman s.data.toList = (noMan, er)) (hb : Below w.heap.size w W) (hr : W.heap[w.heap.size]? = some (.cells #[.int .i64 0, .int .i64 0, .slice none 0 0, .slice none 0 0, .slice none 0 0] 26 (0, 0)))
    (tmps : Array Value) (h2 : tmps.getD 2 undef = .pointer (some ⟨w.heap.size, 0, none⟩)) (h3 : tmps.getD 3 undef = .int .i64 (er : Nat)) :
    bodyPost Try.prog Try.f14 (ReadPost w s) .ret { tmps := tmps, defers := [] } W := by
  refine bodyPost_ret (results_cell_slot rfl _ _ w.heap.size 26 _ (0, 0) _ h2 hr Try.underlying26 rfl info_man h3) rfl ?_
  unfold ReadPost
  rw [hm]
  exact ⟨none, 0, none, 0, none, 0, rfl, fun _ _ => ManW.none _ _ _ _ _ _, hb⟩
theorem zero_free {W : World} {g : Nat} {z : Array Value} (h : W.heap[g]? = some (.cells z 26 (0, 0))) : W.frozen? ⟨g, 0, none⟩ = false ∧ W.frozen? ⟨g, 1, none⟩ = false ∧ W.frozen? ⟨g, 2, none⟩ = false ∧ W.frozen? ⟨g, 3, none⟩ = false ∧ W.frozen? ⟨g, 4, none⟩ = false :=
  ⟨frozen_of_row _ _ _ _ _ h, frozen_of_row _ _ _ _ _ h, frozen_of_row _ _ _ _ _ h, frozen_of_row _ _ _ _ _ h, frozen_of_row _ _ _ _ _ h⟩
theorem zero_cells {W : World} {g : Nat} (h : W.heap[g]? = some (.cells #[.int .i64 0, .int .i64 0, .slice none 0 0, .slice none 0 0, .slice none 0 0] 26 (0, 0))) : W.cell? ⟨g, 0, none⟩ = some (.int .i64 0) ∧ W.cell? ⟨g, 1, none⟩ = some (.int .i64 0) ∧ W.cell? ⟨g, 2, none⟩ = some (.slice none 0 0) ∧ W.cell? ⟨g, 3, none⟩ = some (.slice none 0 0) ∧ W.cell? ⟨g, 4, none⟩ = some (.slice none 0 0) := by
  refine ⟨?_, ?_, ?_, ?_, ?_⟩ <;> (rw [cell_of_row _ _ _ _ _ _ h]; rfl)
theorem sets_zero {w W : World} (hb : Below w.heap.size w W) (h : W.heap[w.heap.size]? = some (.cells #[.int .i64 0, .int .i64 0, .slice none 0 0, .slice none 0 0, .slice none 0 0] 26 (0, 0))) :
    Below w.heap.size w (((((W.setCell ⟨w.heap.size, 0, none⟩ (.int .i64 0)).setCell ⟨w.heap.size, 1, none⟩ (.int .i64 0)).setCell ⟨w.heap.size, 2, none⟩ (.slice none 0 0)).setCell ⟨w.heap.size, 3, none⟩ (.slice none 0 0)).setCell ⟨w.heap.size, 4, none⟩ (.slice none 0 0)).drew ∧
    (((((W.setCell ⟨w.heap.size, 0, none⟩ (.int .i64 0)).setCell ⟨w.heap.size, 1, none⟩ (.int .i64 0)).setCell ⟨w.heap.size, 2, none⟩ (.slice none 0 0)).setCell ⟨w.heap.size, 3, none⟩ (.slice none 0 0)).setCell ⟨w.heap.size, 4, none⟩ (.slice none 0 0)).drew.heap[w.heap.size]? = some (.cells #[.int .i64 0, .int .i64 0, .slice none 0 0, .slice none 0 0, .slice none 0 0] 26 (0, 0)) := by
  refine ⟨(((((hb.setCell (p := ⟨w.heap.size, 0, none⟩) (Nat.le_refl _) _).setCell (p := ⟨w.heap.size, 1, none⟩) (Nat.le_refl _) _).setCell (p := ⟨w.heap.size, 2, none⟩) (Nat.le_refl _) _).setCell (p := ⟨w.heap.size, 3, none⟩) (Nat.le_refl _) _).setCell (p := ⟨w.heap.size, 4, none⟩) (Nat.le_refl _) _).drew, ?_⟩
  have h0 := heap_setCell_same _ _ 0 _ _ (.int .i64 0) h
  have h1 := heap_setCell_same _ _ 1 _ _ (.int .i64 0) h0
  have h2 := heap_setCell_same _ _ 2 _ _ (.slice none 0 0) h1
  have h3 := heap_setCell_same _ _ 3 _ _ (.slice none 0 0) h2
  have h4 := heap_setCell_same _ _ 4 _ _ (.slice none 0 0) h3
  have h5 : (W.setCell ⟨w.heap.size, 0, none⟩ (.int .i64 0) |>.setCell ⟨w.heap.size, 1, none⟩ (.int .i64 0) |>.setCell ⟨w.heap.size, 2, none⟩ (.slice none 0 0) |>.setCell ⟨w.heap.size, 3, none⟩ (.slice none 0 0) |>.setCell ⟨w.heap.size, 4, none⟩ (.slice none 0 0)).heap[w.heap.size]? = some (.cells #[.int .i64 0, .int .i64 0, .slice none 0 0, .slice none 0 0, .slice none 0 0] 26 (0, 0)) := by
    rw [h4]; simp
  have hd : ∀ X : World, X.drew.heap = X.heap := fun _ => rfl
  rw [hd]
  exact h5
theorem home_rng (s : List UInt8) (k : Nat) (x : St × List Int) (h : ∀ y ∈ x.2, -9223372036854775808 ≤ y ∧ y ≤ 9223372036854775807) : ∀ y ∈ (rhome s k x).2, -9223372036854775808 ≤ y ∧ y ≤ 9223372036854775807 := by
  induction k with
  | zero => exact h
  | succ k ih =>
    rw [rhome]
    split
    · intro y hy
      rcases List.mem_append.1 hy with hy | hy
      · exact ih y hy
      · rw [List.mem_singleton.1 hy]
        have := (rnum_le s most 0 (rhome s k x).1).1
        omega
    · exact ih
theorem parts_rng (s : List UInt8) (st0 : St) (k : Nat) : (∀ x, x ∈ (rparts s k ⟨st0, [], [], []⟩).sz → -9223372036854775808 ≤ x ∧ x ≤ 9223372036854775807) ∧ (∀ x, x ∈ (rparts s k ⟨st0, [], [], []⟩).sm → 0 ≤ x ∧ x ≤ 4294967295) ∧ (∀ l, l ∈ (rparts s k ⟨st0, [], [], []⟩).hm → ∀ x, x ∈ l → -9223372036854775808 ≤ x ∧ x ≤ 9223372036854775807) := by
  induction k with
  | zero => exact ⟨fun x h => by simp [rparts] at h, fun x h => by simp [rparts] at h, fun l h => by simp [rparts] at h⟩
  | succ k ih =>
    rw [rparts]
    split
    · obtain ⟨a, b, c⟩ := ih
      unfold rpart
      dsimp only
      refine ⟨fun x hx => ?_, fun x hx => ?_, fun l hl => ?_⟩
      · rcases List.mem_append.1 hx with hx | hx
        · exact a x hx
        · rw [List.mem_singleton.1 hx]
          have := (rnum_le s most 0 (rparts s k ⟨st0, [], [], []⟩).st).1
          omega
      · rcases List.mem_append.1 hx with hx | hx
        · exact b x hx
        · rw [List.mem_singleton.1 hx]; omega
      · rcases List.mem_append.1 hl with hl | hl
        · exact c l hl
        · rw [List.mem_singleton.1 hl]
          exact home_rng _ _ _ (fun y hy => by cases hy)
    · exact ih
set_option maxRecDepth 100000 in
set_option maxHeartbeats 4000000 in
theorem read_any (s : ByteArray) (w : World) (hs : s.size ≤ 1000000000000) :
    Calls Try.prog 14 #[.string s] w (ReadPost w s) := by
  obtain ⟨L, hL⟩ : ∃ L, L = s.data.toList := ⟨_, rfl⟩
  have hlen : L.length = s.size := by rw [hL, list_size]
  go_enter Try.func14, Try.ntmps14
  go_upto_region 2 with (go_at_call 42; (with_reducible refine (new_tape s _ (by omega)).mono ?_); rintro e w2 ⟨tb, rfl, hT, hlt, hd⟩)
  have hb1 : Below w.heap.size w (w.alloc (.cells #[.int .i64 0, .int .i64 0, .slice none 0 0, .slice none 0 0, .slice none 0 0] 26)) := (Below.refl _ _).alloc (Nat.le_refl _) _
  have hr1 : (w.alloc (.cells #[.int .i64 0, .int .i64 0, .slice none 0 0, .slice none 0 0, .slice none 0 0] 26)).heap[w.heap.size]? = some (.cells #[.int .i64 0, .int .i64 0, .slice none 0 0, .slice none 0 0, .slice none 0 0] 26 (0, 0)) := heap_alloc_new w _
  have hz1 : (w.alloc (.cells #[.int .i64 0, .int .i64 0, .slice none 0 0, .slice none 0 0, .slice none 0 0] 26)).heap.size = w.heap.size + 1 := World.size_alloc _ _
  generalize w.alloc (.cells #[.int .i64 0, .int .i64 0, .slice none 0 0, .slice none 0 0, .slice none 0 0] 26) = wA at hb1 hr1 hz1 hlt hd
  have HB : RdB w (w2.alloc (.cells #[.pointer (some ⟨tb, 0, none⟩), .int .i64 0] 99)) w2.heap.size tb s (0, 0) := by
    have hl := hT.lt
    have hb2 := hb1.trans (hd.mono (by omega))
    exact ⟨hb2.alloc hb2.size _, (heap_alloc_old w2 _ (by omega)).trans ((hd.block _ (by omega)).trans hr1), by omega, heap_alloc_new w2 _, hT.below ((Below.refl _ _).alloc (Nat.le_refl _) _), hl, by omega⟩
  generalize w2.alloc (.cells #[.pointer (some ⟨tb, 0, none⟩), .int .i64 0] 99) = w3 at HB ⊢
  generalize w2.heap.size = rb at HB ⊢
  clear hb1 hr1 hz1 hlt hd hT
  have HL := Lib.hid hL
  have HLEN := Lib.hid hlen
  clear hL hlen
  go_upto_region 3 with (first | (go_at_call 43; (with_reducible refine (rnum_most rb tb s _ _ HB.rd).mono ?_); rintro e w4 ⟨rfl, hR, hO⟩; have HN := HB.num hO hR; clear HB hR hO; have HB := HN; clear HN))
  obtain ⟨ra, hra⟩ : ∃ ra, ra = rnum s.data.toList most 0 (0, 0) := ⟨_, rfl⟩
  rw [← hra] at HB ⊢
  obtain ⟨rc, hrc⟩ : ∃ rc, rc = rnum s.data.toList most 0 ra.2 := ⟨_, rfl⟩
  rw [← hrc] at HB ⊢
  obtain ⟨F0, HS⟩ : ∃ F0, RdS w (w4.alloc (.cells #[.int .i64 (ra.1 : Nat), .int .i64 (rc.1 : Nat), .slice none 0 0, .slice none 0 0, .slice none 0 0] 26)) rb tb w4.heap.size s rc.2 (ra.1 : Nat) (rc.1 : Nat) (.slice none 0 0) (.slice none 0 0) (.slice none 0 0) [] [] [] (fun _ => .slice none 0 0) F0 := by
    have hf := HB.far ((Below.refl (rb + 1) w4).alloc HB.rd.rlt (.cells #[.int .i64 (ra.1 : Nat), .int .i64 (rc.1 : Nat), .slice none 0 0, .slice none 0 0, .slice none 0 0] 26))
    exact ⟨_, hf.below, hf.res, hf.lo, hf.rd, start_pool HB.rd.rlt _ _, start_plan _ _ _⟩
  generalize w4.alloc (.cells #[.int .i64 (ra.1 : Nat), .int .i64 (rc.1 : Nat), .slice none 0 0, .slice none 0 0, .slice none 0 0] 26) = w5 at HS ⊢
  generalize w4.heap.size = mb at HS ⊢
  have HRA := Lib.hid hra
  have HRC := Lib.hid hrc
  obtain ⟨ta, hta⟩ : ∃ ta, ta = ra.1 := ⟨_, rfl⟩
  obtain ⟨tc, htc⟩ : ∃ tc, tc = rc.1 := ⟨_, rfl⟩
  obtain ⟨sc, hsc⟩ : ∃ sc, sc = rc.2 := ⟨_, rfl⟩
  rw [← hta, ← htc, ← hsc] at HS
  rw [← hta, ← htc]
  have HTA := Lib.hid hta
  have HTC := Lib.hid htc
  have HSC := Lib.hid hsc
  clear HB hra hrc hta htc hsc
  go_upto_region 5 with (first | (go_at_call 43; (with_reducible refine (rnum_len rb tb s _ _ hs HS.rd).mono ?_); rintro e w4 ⟨rfl, hR, hO⟩; have HN := HS.num hO hR; clear HS hR hO; have HS := HN; clear HN))
  obtain ⟨rn, hrn⟩ : ∃ rn, rn = rnum s.data.toList s.size 3 sc := ⟨_, rfl⟩
  rw [← hrn] at HS ⊢
  obtain ⟨N, hN⟩ : ∃ N, N = rn.1 := ⟨_, rfl⟩
  rw [← hN]
  have hNle : N ≤ 9007199254740991 := by rw [hN, hrn]; exact (rnum_le _ _ _ _).1
  have HRN := Lib.hid hrn
  have HNN := Lib.hid hN
  obtain ⟨st0, hst0⟩ : ∃ st0, st0 = rn.2 := ⟨_, rfl⟩
  rw [← hst0] at HS
  have HST := Lib.hid hst0
  clear hrn hN hst0
  obtain ⟨wa, rfl⟩ : ∃ wa, wa = w4 := ⟨_, rfl⟩
  go_wp2
  go_loopw [7, 8, 9, 10] (fun x _ _ _ wr => ∃ p : Nat, p ≤ N ∧ x = .int .i64 p ∧ ∃ (F : Nat → Ent) (v2 v3 v4 : Value) (rv : Nat → Value) (y : RM), y = rparts s.data.toList p ⟨st0, [], [], []⟩ ∧ RdS w wr rb tb mb s y.st (ta : Nat) (tc : Nat) v2 v3 v4 y.sz y.sm y.hm rv F ∧ y.sz.length = p ∧ y.sm.length = p ∧ y.hm.length = p) (fun x _ _ _ _ => N - (intOf x).toNat)
  case atStart => exact ⟨0, by omega, rfl, F0, _, _, _, _, ⟨st0, [], [], []⟩, rfl, HS, rfl, rfl, rfl⟩
  case round =>
    clear HS F0
    obtain ⟨p, hp, rfl, F, v2, v3, v4, rv, y, hy, HS, l1, l2, l3⟩ := hrel
    have c1 := HS.rd.c1
    by_cases he : y.st.2 = 0
    · rw [he] at c1
      have c1 : wr.cell? ⟨rb, 1, none⟩ = some (.int .i64 0) := c1
      by_cases hlt : p < N
      · have hs0 : st0.2 = 0 := by
          rcases Nat.eq_zero_or_pos st0.2 with h | h
          · exact h
          · rw [hy, rparts_stop (k := 0) (x := ⟨st0, [], [], []⟩) (show st0.2 ≠ 0 by omega) p (by omega)] at he
            exact he
        have hNs : N ≤ s.size := by
          rw [HNN.out, HRN.out]
          exact (rnum_trace (by rw [← HRN.out, ← HST.out]; exact hs0)).2.2 (by omega)
        go_upto_region 7 with fail
        clear c1
        replace HS := HS.later (w2 := wr.drew) ((Below.refl _ _).drew)
        have c2 := HS.c2
        have HE := Lib.hid he
        have HY := Lib.hid hy
        have L1 := Lib.hid l1
        have L2 := Lib.hid l2
        have L3 := Lib.hid l3
        have hlb : y.sz.length ≤ 1000000000000 := by omega
        have hlc : y.sm.length ≤ 1000000000000 := by omega
        have hld : y.hm.length ≤ 1000000000000 := by omega
        clear hy l1 l2 l3
        obtain ⟨n1, st1, e1, hR1⟩ := got_most rb tb s y.st
        obtain ⟨n2, st2, e2, hR2⟩ := got_sum rb tb s st1
        obtain ⟨n3, st3, e3, hR3⟩ := got_len rb tb s st2 hs
        obtain ⟨m2, em2, hw2⟩ := wrap_u32 n2
        have E1 := Lib.hid e1
        have E2 := Lib.hid e2
        have E3 := Lib.hid e3
        have EM := Lib.hid em2
        have HW := Lib.hid hw2
        have R1 := Lib.hid hR1
        have R2 := Lib.hid hR2
        have R3 := Lib.hid hR3
        clear e1 e2 e3 em2 hw2 hR1 hR2 hR3
        go_cut [] (fun wx => ∃ F v2, RdS w wx rb tb mb s st1 (ta : Nat) (tc : Nat) v2 v3 v4 (y.sz ++ [(n1 : Int)]) y.sm y.hm rv F)
        case first =>
          go_region_law (first
            | (go_simp; go_at_call 43; (with_reducible refine (R1.out _ HS.rd).mono ?_); rintro e w6 ⟨rfl, hR, hO⟩; have HN := HS.num hO hR; clear HS hR hO c2; have HS := HN; clear HN; have c2 := HS.c2; have c2b := (HS.later ((Below.refl _ _).alloc (Nat.le_refl _) (.cells #[.int .i64 (n1 : Nat)] 3))).c2)
            | (refine step_pool_src (by rfl) (.tmp 37) (.tmp 40) 22 3 (.int .i64 0) 8 (by rfl) Try.underlying22 info_int rfl 0 HS.plan.sz_ 1 1 (some ⟨w6.heap.size, 0, none⟩) [.int .i64 (n1 : Nat)] (by rfl) (by rfl) (by rfl) (.inr ⟨w6.heap.size, 0, rfl, fun j u hj => src_box w6 _ _ j u hj⟩) (by simp [Value.oneCell']) (HS.later ((Below.refl _ _).alloc (Nat.le_refl _) _)).pool (HS.later ((Below.refl _ _).alloc (Nat.le_refl _) _)).hi (by omega) (by omega) ?_; intro A7 c7 w7 HP7 hd7; have HA := (HS.later ((Below.refl _ _).alloc (Nat.le_refl _) _)).app 0 (by decide) _ hd7 HP7; have f2 := HA.fr 2; have d2 := HA.cell (j := 2) rfl))
          all_goals (have HZ := HA.store 2 (.slice A7 (y.sz.length + 1) c7) (HS.plan.size _ _ _ rfl))
          all_goals (go_wp2_with fail; go_meet)
          all_goals exact ⟨_, _, HZ⟩
        case rest =>
          clear HS c2 F v2
          obtain ⟨F, v2, HS⟩ := hcut
          replace HS := HS.later (w2 := wc.drew) ((Below.refl _ _).drew)
          have c3 := HS.c3
          have hw := HW.out
          go_upto_region 8 with fail
          go_cut [] (fun wx => ∃ F v3, RdS w wx rb tb mb s st2 (ta : Nat) (tc : Nat) v2 v3 v4 (y.sz ++ [(n1 : Int)]) (y.sm ++ [(m2 : Int)]) y.hm rv F)
          case first =>
            go_region_law (first
              | (go_simp; go_at_call 43; (with_reducible refine (R2.out _ HS.rd).mono ?_); rintro e w6 ⟨rfl, hR, hO⟩; have HN := HS.num hO hR; clear HS hR hO c3; have HS := HN; clear HN; have c3 := HS.c3; have c3b := (HS.later ((Below.refl _ _).alloc (Nat.le_refl _) (.cells #[.int .u32 (m2 : Nat)] 72))).c3)
              | (refine step_pool_src (by rfl) (.tmp 44) (.tmp 48) 23 72 (.int .u32 0) 4 (by rfl) Try.underlying23 info_u32 rfl 1 HS.plan.sm_ 1 1 (some ⟨w6.heap.size, 0, none⟩) [.int .u32 (m2 : Nat)] (by rfl) (by rfl) (by rfl) (.inr ⟨w6.heap.size, 0, rfl, fun j u hj => src_box w6 _ _ j u hj⟩) (by simp [Value.oneCell']) (HS.later ((Below.refl _ _).alloc (Nat.le_refl _) _)).pool (HS.later ((Below.refl _ _).alloc (Nat.le_refl _) _)).hi (by omega) (by omega) ?_; intro A7 c7 w7 HP7 hd7; have HA := (HS.later ((Below.refl _ _).alloc (Nat.le_refl _) _)).app 1 (by decide) _ hd7 HP7; have f2 := HA.fr 3; have d2 := HA.cell (j := 3) rfl))
            all_goals (have HZ := HA.store 3 (.slice A7 (y.sm.length + 1) c7) (HS.plan.sum _ _ _ rfl))
            all_goals (go_wp2_with fail; go_meet)
            all_goals exact ⟨_, _, HZ⟩
          case rest =>
            clear HS c3 F v3 hw
            obtain ⟨F, v3, HS⟩ := hcut
            go_upto_region 12 with (go_at_call 43; (with_reducible refine (R3.out _ HS.rd).mono ?_); rintro e w6 ⟨rfl, hR, hO⟩; have HN := HS.num hO hR; clear HS hR hO; have HS := HN; clear HN)
            replace HS : RdS w w6 rb tb mb s st3 (ta : Nat) (tc : Nat) v2 v3 v4 (y.sz ++ [(n1 : Int)]) (y.sm ++ [(m2 : Int)]) y.hm rv (up F 4 ⟨3, 1, .slice none 0 0, 0, []⟩) := ⟨HS.below, HS.res, HS.lo, HS.rd, pool_nil HS.pool 4 3, HS.plan.four _⟩
            have hn3 : n3 ≤ 9007199254740991 := by have := (rnum_le s.data.toList s.size 3 st2).1; rw [E3.out] at this; exact this
            obtain ⟨wo, rfl⟩ : ∃ wo, wo = wr := ⟨_, rfl⟩
            clear hlb hlc R1 R2 R3
            go_wp2
            go_loopw [8, 10] (fun v8 x10 wr => ∃ i : Nat, i ≤ n3 ∧ x10 = .int .i64 i ∧ ∃ (F : Nat → Ent) (z : St × List Int), z = rhome s.data.toList i (st3, []) ∧ RdS w wr rb tb mb s z.1 (ta : Nat) (tc : Nat) v2 v3 v4 (y.sz ++ [(n1 : Int)]) (y.sm ++ [(m2 : Int)]) y.hm rv F ∧ F 4 = ⟨3, 1, v8, z.2.length, zv z.2⟩ ∧ z.2.length = i) (fun _ x _ => n3 - (intOf x).toNat)
            case atStart => exact ⟨0, by omega, rfl, _, (st3, []), rfl, HS, by rw [up_self]; rfl, rfl⟩
            case round =>
              clear HS F
              obtain ⟨i, hi, rfl, F, z, hz, HS, h4, lz⟩ := hrel
              have c1 := HS.rd.c1
              by_cases he2 : z.1.2 = 0
              · rw [he2] at c1
                have c1 : wr.cell? ⟨rb, 1, none⟩ = some (.int .i64 0) := c1
                by_cases hlt2 : i < n3
                · have hs3 : st3.2 = 0 := by
                    rcases Nat.eq_zero_or_pos st3.2 with h | h
                    · exact h
                    · rw [hz, rhome_stop (k := 0) (x := (st3, [])) (show st3.2 ≠ 0 by omega) i (by omega)] at he2
                      exact he2
                  have hns : n3 ≤ s.size := by
                    have := (rnum_trace (s := s.data.toList) (lim := s.size) (over := 3) (st := st2) (by rw [E3.out]; exact hs3)).2.2 (by omega)
                    rw [E3.out] at this
                    exact this
                  obtain ⟨n5, st5, e5, hR5⟩ := got_most rb tb s z.1
                  have E5 := Lib.hid e5
                  have R5 := Lib.hid hR5
                  have HZ := Lib.hid hz
                  have LZ := Lib.hid lz
                  have H4 := Lib.hid h4
                  have HE2 := Lib.hid he2
                  have hzb : z.2.length ≤ 1000000000000 := by omega
                  clear e5 hR5 hz h4 lz hs3 he2
                  go_upto_region 13 with (first
                    | (go_at_call 43; (with_reducible refine (R5.out _ HS.rd).mono ?_); rintro e w7 ⟨rfl, hR, hO⟩; have HN := HS.num hO hR; clear HS hR hO c1; have HS := HN; clear HN)
                    | (at_builtin; refine pool_src rfl (.tmp 67) (.tmp 70) 22 3 (.int .i64 0) 8 rfl Try.underlying22 info_int rfl 4 H4.out 1 1 (some ⟨w7.heap.size, 0, none⟩) [.int .i64 (n5 : Nat)] rfl rfl rfl (.inr ⟨w7.heap.size, 0, rfl, fun j u hj => src_box w7 _ _ j u hj⟩) (by simp [Value.oneCell']) (HS.later ((Below.refl _ _).alloc (Nat.le_refl _) _)).pool (HS.later ((Below.refl _ _).alloc (Nat.le_refl _) _)).hi (by omega) (by omega) ?_; intro A7 c7 w8 HP7 hd7; have HN := (HS.later ((Below.refl _ _).alloc (Nat.le_refl _) _)).far hd7 HP7 (HS.plan.four _); clear HS HP7 hd7; have HS := HN; clear HN))
                  go_wp2
                  go_roundw
                  case rel =>
                    refine ⟨i + 1, by omega, by go_num, _, (st5, z.2 ++ [(n5 : Int)]), ?_, HS, ?_, by rw [List.length_append, LZ.out]; rfl⟩
                    · rw [rhome_go (by rw [← HZ.out]; exact HE2.out), ← HZ.out, E5.out]
                    · rw [up_self, zv_snoc, List.length_append]; rfl
                  case measure => simp [intOf]; omega
                · have hz2 : z = rhome s.data.toList n3 (st3, []) := by
                    obtain rfl : i = n3 := by omega
                    exact hz
                  have HZ := Lib.hid hz2
                  obtain ⟨A8, c8, hu8⟩ : ∃ A c, u8 = .slice A z.2.length c := own_sl (by have := HS.pool.own 4; rw [h4] at this; exact this)
                  subst hu8
                  have H4 := Lib.hid h4
                  have H7 := Lib.hid HS.plan
                  replace HS : RdS w wr rb tb mb s z.1 (ta : Nat) (tc : Nat) v2 v3 v4 (y.sz ++ [(n1 : Int)]) (y.sm ++ [(m2 : Int)]) y.hm rv _ := ⟨HS.below, HS.res, HS.lo, HS.rd, pool_move HS.pool 4 (2 * y.hm.length + 10) (by omega), HS.plan.move _⟩
                  have c4 := HS.c4
                  clear hz hz2 h4 lz hi
                  go_wp2_with (at_builtin; refine pool_src rfl (.tmp 73) (.tmp 75) 24 22 (.slice none 0 0) 24 rfl Try.underlying24 info_ints rfl 2 HS.plan.top 1 1 (some ⟨wr.heap.size, 0, none⟩) [.slice A8 z.2.length c8] rfl rfl rfl (.inr ⟨wr.heap.size, 0, rfl, fun j u hj => src_box wr _ _ j u hj⟩) (by simp [Value.oneCell']) (HS.later ((Below.refl _ _).alloc (Nat.le_refl _) _)).pool (HS.later ((Below.refl _ _).alloc (Nat.le_refl _) _)).hi (by omega) (by omega) ?_; intro A7 c7 w8 HP7 hd7; have HA := (HS.later ((Below.refl _ _).alloc (Nat.le_refl _) _)).app 2 (by decide) _ hd7 HP7; have f2 := HA.fr 4; have d2 := HA.cell (j := 4) rfl; have HZZ := Lib.hid (HA.store 4 (.slice A7 (y.hm.length + 1) c7) (H7.out.home H4.out _ _ rfl)); clear HA HP7 hd7 c4)
                  go_roundw
                  case rel => exact ⟨p + 1, by omega, by go_num, _, _, _, _, _, ⟨z.1, y.sz ++ [(n1 : Int)], y.sm ++ [(m2 : Int)], y.hm ++ [z.2]⟩, by rw [rparts_go (by rw [← HY.out]; exact HE.out), ← HY.out]; unfold rpart; rw [list_size]; dsimp only; rw [E1.out]; dsimp only; rw [E2.out]; dsimp only; rw [E3.out]; dsimp only; rw [← HZ.out, EM.out], HZZ.out, by rw [List.length_append, L1.out]; rfl, by rw [List.length_append, L2.out]; rfl, by rw [List.length_append, L3.out]; rfl⟩
                  case measure => simp [intOf]; omega
              · have hz2 : z = rhome s.data.toList n3 (st3, []) := by rw [hz]; exact (rhome_stop (by rw [← hz]; exact he2) n3 hi).symm
                have t1 : (((z.1.2 : Nat) : Int) == 0) = false := by rw [beq_eq_false_iff_ne]; omega
                by_cases hlt2 : i < n3
                · have HZ := Lib.hid hz2
                  obtain ⟨A8, c8, hu8⟩ : ∃ A c, u8 = .slice A z.2.length c := own_sl (by have := HS.pool.own 4; rw [h4] at this; exact this)
                  subst hu8
                  have H4 := Lib.hid h4
                  have H7 := Lib.hid HS.plan
                  replace HS : RdS w wr rb tb mb s z.1 (ta : Nat) (tc : Nat) v2 v3 v4 (y.sz ++ [(n1 : Int)]) (y.sm ++ [(m2 : Int)]) y.hm rv _ := ⟨HS.below, HS.res, HS.lo, HS.rd, pool_move HS.pool 4 (2 * y.hm.length + 10) (by omega), HS.plan.move _⟩
                  have c4 := HS.c4
                  clear hz hz2 h4 lz hi
                  go_wp2_with (at_builtin; refine pool_src rfl (.tmp 73) (.tmp 75) 24 22 (.slice none 0 0) 24 rfl Try.underlying24 info_ints rfl 2 HS.plan.top 1 1 (some ⟨wr.heap.size, 0, none⟩) [.slice A8 z.2.length c8] rfl rfl rfl (.inr ⟨wr.heap.size, 0, rfl, fun j u hj => src_box wr _ _ j u hj⟩) (by simp [Value.oneCell']) (HS.later ((Below.refl _ _).alloc (Nat.le_refl _) _)).pool (HS.later ((Below.refl _ _).alloc (Nat.le_refl _) _)).hi (by omega) (by omega) ?_; intro A7 c7 w8 HP7 hd7; have HA := (HS.later ((Below.refl _ _).alloc (Nat.le_refl _) _)).app 2 (by decide) _ hd7 HP7; have f2 := HA.fr 4; have d2 := HA.cell (j := 4) rfl; have HZZ := Lib.hid (HA.store 4 (.slice A7 (y.hm.length + 1) c7) (H7.out.home H4.out _ _ rfl)); clear HA HP7 hd7 c4)
                  go_roundw
                  case rel => exact ⟨p + 1, by omega, by go_num, _, _, _, _, _, ⟨z.1, y.sz ++ [(n1 : Int)], y.sm ++ [(m2 : Int)], y.hm ++ [z.2]⟩, by rw [rparts_go (by rw [← HY.out]; exact HE.out), ← HY.out]; unfold rpart; rw [list_size]; dsimp only; rw [E1.out]; dsimp only; rw [E2.out]; dsimp only; rw [E3.out]; dsimp only; rw [← HZ.out, EM.out], HZZ.out, by rw [List.length_append, L1.out]; rfl, by rw [List.length_append, L2.out]; rfl, by rw [List.length_append, L3.out]; rfl⟩
                  case measure => simp [intOf]; omega
                · have HZ := Lib.hid hz2
                  obtain ⟨A8, c8, hu8⟩ : ∃ A c, u8 = .slice A z.2.length c := own_sl (by have := HS.pool.own 4; rw [h4] at this; exact this)
                  subst hu8
                  have H4 := Lib.hid h4
                  have H7 := Lib.hid HS.plan
                  replace HS : RdS w wr rb tb mb s z.1 (ta : Nat) (tc : Nat) v2 v3 v4 (y.sz ++ [(n1 : Int)]) (y.sm ++ [(m2 : Int)]) y.hm rv _ := ⟨HS.below, HS.res, HS.lo, HS.rd, pool_move HS.pool 4 (2 * y.hm.length + 10) (by omega), HS.plan.move _⟩
                  have c4 := HS.c4
                  clear hz hz2 h4 lz hi
                  go_wp2_with (at_builtin; refine pool_src rfl (.tmp 73) (.tmp 75) 24 22 (.slice none 0 0) 24 rfl Try.underlying24 info_ints rfl 2 HS.plan.top 1 1 (some ⟨wr.heap.size, 0, none⟩) [.slice A8 z.2.length c8] rfl rfl rfl (.inr ⟨wr.heap.size, 0, rfl, fun j u hj => src_box wr _ _ j u hj⟩) (by simp [Value.oneCell']) (HS.later ((Below.refl _ _).alloc (Nat.le_refl _) _)).pool (HS.later ((Below.refl _ _).alloc (Nat.le_refl _) _)).hi (by omega) (by omega) ?_; intro A7 c7 w8 HP7 hd7; have HA := (HS.later ((Below.refl _ _).alloc (Nat.le_refl _) _)).app 2 (by decide) _ hd7 HP7; have f2 := HA.fr 4; have d2 := HA.cell (j := 4) rfl; have HZZ := Lib.hid (HA.store 4 (.slice A7 (y.hm.length + 1) c7) (H7.out.home H4.out _ _ rfl)); clear HA HP7 hd7 c4)
                  go_roundw
                  case rel => exact ⟨p + 1, by omega, by go_num, _, _, _, _, _, ⟨z.1, y.sz ++ [(n1 : Int)], y.sm ++ [(m2 : Int)], y.hm ++ [z.2]⟩, by rw [rparts_go (by rw [← HY.out]; exact HE.out), ← HY.out]; unfold rpart; rw [list_size]; dsimp only; rw [E1.out]; dsimp only; rw [E2.out]; dsimp only; rw [E3.out]; dsimp only; rw [← HZ.out, EM.out], HZZ.out, by rw [List.length_append, L1.out]; rfl, by rw [List.length_append, L2.out]; rfl, by rw [List.length_append, L3.out]; rfl⟩
                  case measure => simp [intOf]; omega
      · have hyN : y = rparts s.data.toList N ⟨st0, [], [], []⟩ := by
          obtain rfl : p = N := by omega
          exact hy
        have hrm := rman_of HRA.out HTA.out HRC.out HTC.out HSC.out HRN.out HNN.out HST.out hyN
        obtain ⟨k0, k1, k2⟩ := parts_rng s.data.toList st0 N
        rw [← hyN] at k0 k1 k2
        by_cases hend : y.st.1 = s.size
        · have hm : rman s.data.toList = (⟨(ta : Nat), (tc : Nat), y.sz, y.sm, y.hm⟩, 0) := by rw [hrm, if_pos he, if_pos hend]
          obtain ⟨A2, c2, A3, c3, A4, c4, rfl, rfl, rfl, hMW⟩ := man_of_pool HS.pool HS.plan.sz_ HS.plan.sm_ HS.plan.top HS.plan.row k0 k1 k2 (ta : Nat) (tc : Nat)
          have HM := Lib.hid hm
          have HMW := Lib.hid hMW
          have q0 := HS.pool.cell 7 HS.plan.box rfl (j := 0) rfl
          have q1 := HS.pool.cell 7 HS.plan.box rfl (j := 1) rfl
          have q2 := HS.c2
          have q3 := HS.c3
          have q4 := HS.c4
          have t5 : ((s.size : Int) - (y.st.1 : Nat) == 0) = true := by rw [beq_iff_eq]; omega
          have HE := Lib.hid hend
          have c0 := HS.rd.c0
          have hA := HS.res
          have hone : (#[.int .i64 (ta : Nat), .int .i64 (tc : Nat), .slice A2 y.sz.length c2, .slice A3 y.sm.length c3, .slice A4 y.hm.length c4] : Array Value).all (·.oneCell') = true := by simp [Value.oneCell']
          clear hy hyN hrm hm hMW k0 k1 k2 hend l1 l2 l3
          go_upto_region 18 with (go_at_call 44; (with_reducible refine (end_any tb s _ _ HS.rd.tape).mono ?_); rintro e w6 ⟨rfl, hd⟩)
          replace hd : Below wr.heap.size wr w6 := hd.below
          clear q0 q1 q2 q3 q4 c0 c1 hA
          replace HMW := Lib.hid (HMW.out.below hd)
          replace HS := HS.later hd
          clear hd
          have q0 := HS.pool.cell 7 HS.plan.box rfl (j := 0) rfl
          have q1 := HS.pool.cell 7 HS.plan.box rfl (j := 1) rfl
          have q2 := HS.c2
          have q3 := HS.c3
          have q4 := HS.c4
          have c1 := HS.rd.c1
          rw [he] at c1
          have c1 : w6.cell? ⟨rb, 1, none⟩ = some (.int .i64 0) := c1
          have hA := HS.res
          go_wp2_with (refine wpList_store_row rfl 26 (.tmp 2) (.tmp 104) rfl w.heap.size #[.int .i64 (ta : Nat), .int .i64 (tc : Nat), .slice A2 y.sz.length c2, .slice A3 y.sm.length c3, .slice A4 y.hm.length c4] rfl rfl 26 #[.int .i64 0, .int .i64 0, .slice none 0 0, .slice none 0 0, .slice none 0 0] hA info_man rfl hone ?_)
          refine fin_any HM.out HS.below hA ?_ _ rfl rfl
          have hlo := HS.lo
          have hlt3 := HS.rd.lt
          exact man_far HMW.out HS.pool HS.plan (by omega) _
        · have hm : rman s.data.toList = (noMan, 6) := by rw [hrm, if_pos he, if_neg hend]
          have HM := Lib.hid hm
          have hle := HS.rd.tape.le
          have t5 : ((s.size : Int) - (y.st.1 : Nat) == 0) = false := by rw [beq_eq_false_iff_ne]; omega
          have c0 := HS.rd.c0
          clear hy hyN hrm hm k0 k1 k2 hend l1 l2 l3
          go_upto_region 17 with (go_at_call 44; (with_reducible refine (end_any tb s _ _ HS.rd.tape).mono ?_); rintro e w6 ⟨rfl, hd⟩)
          replace hd : Below wr.heap.size wr w6 := hd.below
          clear c0 c1
          replace HS := HS.later hd
          clear hd
          have d1 := HS.rd.c1
          have f1 := HS.rd.fr 1
          have hlo := HS.lo
          have hlt3 := HS.rd.lt
          have hW1 : Below w.heap.size w (w6.setCell ⟨rb, 1, none⟩ (.int .i64 6)) := HS.below.setCell (p := ⟨rb, 1, none⟩) (by show w.heap.size ≤ rb; omega) _
          have hW2 := (heap_setCell_other w6 ⟨rb, 1, none⟩ w.heap.size (.int .i64 6) (by show w.heap.size ≠ rb; omega)).trans HS.res
          have c1 : (w6.setCell ⟨rb, 1, none⟩ (.int .i64 6)).cell? ⟨rb, 1, none⟩ = some (.int .i64 6) := (HS.rd.set 6 (by omega)).c1
          go_upto_region 19 with fail
          clear d1 f1 HS
          obtain ⟨WX, hWX⟩ : ∃ WX, WX = w6.setCell ⟨rb, 1, none⟩ (.int .i64 6) := ⟨_, rfl⟩
          rw [← hWX] at hW1 hW2 c1 ⊢
          clear hWX
          obtain ⟨z0, z1, z2, z3, z4⟩ := zero_free hW2
          obtain ⟨y0, y1, y2, y3, y4⟩ := zero_cells hW2
          have HW := Lib.hid (And.intro hW1 hW2)
          clear hW1 hW2
          go_region
          all_goals go_wp2
          all_goals (obtain ⟨hX1, hX2⟩ := sets_zero HW.out.1 HW.out.2)
          all_goals exact fin_zero HM.out hX1 hX2 _ rfl rfl
    · have hyN : y = rparts s.data.toList N ⟨st0, [], [], []⟩ := by rw [hy]; exact (rparts_stop (by rw [← hy]; exact he) N hp).symm
      have hrm := rman_of HRA.out HTA.out HRC.out HTC.out HSC.out HRN.out HNN.out HST.out hyN
      have hm : rman s.data.toList = (noMan, y.st.2) := by rw [hrm, if_neg he]
      have HM := Lib.hid hm
      have hW1 := HS.below
      have hW2 := HS.res
      have her := HS.rd.er
      have hlo := HS.lo
      have hlt3 := HS.rd.lt
      obtain ⟨er, hE⟩ : ∃ er, er = y.st.2 := ⟨_, rfl⟩
      rw [← hE] at c1 HM he her
      have t1 : (((er : Nat) : Int) == 0) = false := by rw [beq_eq_false_iff_ne]; omega
      have t2 : (((er : Nat) : Int) != 0) = true := int_bne (by omega)
      clear hy hyN hrm hm hE l1 l2 l3 HS he
      by_cases hlt : p < N
      · go_upto_region 19 with fail
        obtain ⟨WX, rfl⟩ : ∃ WX, WX = wr := ⟨_, rfl⟩
        obtain ⟨z0, z1, z2, z3, z4⟩ := zero_free hW2
        obtain ⟨y0, y1, y2, y3, y4⟩ := zero_cells hW2
        have HW := Lib.hid (And.intro hW1 hW2)
        clear hW1 hW2
        go_region
        all_goals go_wp2
        all_goals (obtain ⟨hX1, hX2⟩ := sets_zero HW.out.1 HW.out.2)
        all_goals exact fin_zero HM.out hX1 hX2 _ rfl rfl
      · go_upto_region 19 with fail
        obtain ⟨WX, rfl⟩ : ∃ WX, WX = wr := ⟨_, rfl⟩
        obtain ⟨z0, z1, z2, z3, z4⟩ := zero_free hW2
        obtain ⟨y0, y1, y2, y3, y4⟩ := zero_cells hW2
        have HW := Lib.hid (And.intro hW1 hW2)
        clear hW1 hW2
        go_region
        all_goals go_wp2
        all_goals (obtain ⟨hX1, hX2⟩ := sets_zero HW.out.1 HW.out.2)
        all_goals exact fin_zero HM.out hX1 hX2 _ rfl rfl
end Go.Proofs.Ytmlemichkeomjaa.ManW
