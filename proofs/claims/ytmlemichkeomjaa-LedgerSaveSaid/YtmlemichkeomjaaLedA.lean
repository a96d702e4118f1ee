/- ledger.Apply walked. -/
import Derived.Test.YtmlemichkeomjaaLedM6
set_option linter.unusedVariables false
set_option linter.unusedSimpArgs false
namespace Go.Proofs.Ytmlemichkeomjaa.LedW
open Go.RowKit Go.Proofs.Ytmlemichkeomjaa.Base Go.Proofs.Ytmlemichkeomjaa.MendW Go.Proofs.Ytmlemichkeomjaa.ManP Go.Proofs.Ytmlemichkeomjaa.ManW Go.Proofs.Ytmlemichkeomjaa.LedP
/-- A copy of one's own put into a box of its own. -/
theorem OwnR'.box_new {w : World} {lo : Nat} {F : Nat → Ent} {v2 v3 v4 v5 v6 v7 v8 : Value} {vs : Nat → MV} {s : LS} (h : OwnR w lo F v2 v3 v4 v5 v6 v7 v8 vs s) (hlo : lo ≤ w.heap.size) :
    OwnS (w.alloc (.cells #[.int .i64 s.n, .int .i64 s.ep, v2, v3, v4, v5, v6, v7, v8, .int .i64 s.fin, .int .i64 s.er] 42)) lo w.heap.size (up F 7 ⟨42, 11, .slice (some ⟨w.heap.size, 0, none⟩) 1 1, 1, [.int .i64 s.n, .int .i64 s.ep, v2, v3, v4, v5, v6, v7, v8, .int .i64 s.fin, .int .i64 s.er]⟩) v2 v3 v4 v5 v6 v7 v8 vs s := by
  have hB := (Below.refl w.heap.size w).alloc (Nat.le_refl _) (.cells #[.int .i64 s.n, .int .i64 s.ep, v2, v3, v4, v5, v6, v7, v8, .int .i64 s.fin, .int .i64 s.er] 42)
  refine ⟨⟨pool_alloc h.pool 7 hlo 42 11 #[.int .i64 s.n, .int .i64 s.ep, v2, v3, v4, v5, v6, v7, v8, .int .i64 s.fin, .int .i64 s.er] rfl, (up_ne _ _ (by decide)).trans h.d, (up_ne _ _ (by decide)).trans h.m, (up_ne _ _ (by decide)).trans h.t, (up_ne _ _ (by decide)).trans h.h, (up_ne _ _ (by decide)).trans h.r, (up_ne _ _ (by decide)).trans h.p, (up_ne _ _ (by decide)).trans h.c, fun j hj => ?_, h.rt, h.rp, h.ok⟩, by rw [up_self]⟩
  exact ((h.man j hj).keep (fun q hq => hB.block q hq.1.1)).mono (fun q hq => safe_chg hB.size (.inr (fun g e => by simp only [Value.ownBlock, Option.some.injEq] at e; omega)) hq)
/-- A block below is laid anew. -/
theorem OwnR'.low {w : World} {lo rb : Nat} {F : Nat → Ent} {v2 v3 v4 v5 v6 v7 v8 : Value} {vs : Nat → MV} {s : LS} (h : OwnR w lo F v2 v3 v4 v5 v6 v7 v8 vs s) (hr : rb < lo) (cs : Array Value) : OwnR (w.setRow rb cs) lo F v2 v3 v4 v5 v6 v7 v8 vs s := by
  refine ⟨⟨fun a => pool_heap (h.pool.own a) fun k hk => setRow_other w rb k cs (by have := (h.pool.lt a hk).1; omega), h.pool.ne⟩, h.d, h.m, h.t, h.h, h.r, h.p, h.c, fun j hj => ?_, h.rt, h.rp, h.ok⟩
  rw [show (w.setRow rb cs).heap.size = w.heap.size from by simp]
  exact (h.man j hj).keep (fun q hq => setRow_other w rb q cs (by have := hq.1.2; omega))
/-- A state read from blocks lo .. hi alone. -/
def StateB (lo hi : Nat) (w : World) (A2 A3 A4 A5 A6 A7 A8 : Option Addr) (vs : Nat → MV) (s : LS) : Prop := ∀ w2 : World, (∀ k, lo ≤ k → k < hi → w2.heap[k]? = w.heap[k]?) → StateW w2 A2 A3 A4 A5 A6 A7 A8 vs s
section
variable {lo hi : Nat} {w w' : World} {A2 A3 A4 A5 A6 A7 A8 : Option Addr} {vs : Nat → MV} {s : LS}
theorem StateB.here (h : StateB lo hi w A2 A3 A4 A5 A6 A7 A8 vs s) : StateW w A2 A3 A4 A5 A6 A7 A8 vs s := h w fun _ _ _ => rfl
theorem StateB.keep (h : StateB lo hi w A2 A3 A4 A5 A6 A7 A8 vs s) (hk : ∀ k, lo ≤ k → k < hi → w'.heap[k]? = w.heap[k]?) : StateB lo hi w' A2 A3 A4 A5 A6 A7 A8 vs s := fun w2 h2 => h w2 fun k h3 h4 => (h2 k h3 h4).trans (hk k h3 h4)
theorem StateB.below (h : StateB lo hi w A2 A3 A4 A5 A6 A7 A8 vs s) (hb : Below hi w w') : StateB lo hi w' A2 A3 A4 A5 A6 A7 A8 vs s := h.keep fun k _ hk => hb.block k hk
theorem StateB.mono {lo' hi' : Nat} (h : StateB lo hi w A2 A3 A4 A5 A6 A7 A8 vs s) (h1 : lo' ≤ lo) (h2 : hi ≤ hi') : StateB lo' hi' w A2 A3 A4 A5 A6 A7 A8 vs s := fun w2 hk => h w2 fun k h3 h4 => hk k (by omega) (by omega)
end
/-- Rows of one's own, read whatever lies about them. -/
theorem OwnR'.readB {w : World} {lo : Nat} {F : Nat → Ent} {v2 v3 v4 v5 v6 v7 v8 : Value} {vs : Nat → MV} {s : LS} (h : OwnR w lo F v2 v3 v4 v5 v6 v7 v8 vs s) :
    ∃ A2 c2 A3 c3 A4 c4 A5 c5 A6 c6 A7 c7 A8 c8, v2 = .slice A2 s.done.length c2 ∧ v3 = .slice A3 s.done.length c3 ∧ v4 = .slice A4 s.done.length c4 ∧ v5 = .slice A5 s.has.length c5 ∧ v6 = .slice A6 s.has.length c6 ∧ v7 = .slice A7 s.has.length c7 ∧ v8 = .slice A8 s.has.length c8 ∧
      StateB lo w.heap.size w A2 A3 A4 A5 A6 A7 A8 vs s := by
  have o : ∀ k e, F k = e → e.own w lo := fun k e he => he ▸ h.pool.own k
  obtain ⟨A2, c2, e2, _⟩ := own_bools (o 0 _ h.d)
  obtain ⟨A3, c3, e3, _⟩ := own_mans (o 1 _ h.m) (fun j hj => (h.man j hj).here)
  obtain ⟨A4, c4, e4, _⟩ := own_errs (o 2 _ h.t) h.rt
  obtain ⟨A5, c5, e5, _⟩ := own_bools (o 3 _ h.h)
  obtain ⟨A6, c6, e6, _⟩ := own_texts (o 4 _ h.r) h.ok.lr
  obtain ⟨A7, c7, e7, _⟩ := own_errs (o 5 _ h.p) h.rp
  obtain ⟨A8, c8, e8, _⟩ := own_bools (o 6 _ h.c)
  refine ⟨A2, c2, A3, c3, A4, c4, A5, c5, A6, c6, A7, c7, A8, c8, e2, e3, e4, e5, e6, e7, e8, fun w2 hk => ?_⟩
  have o2 : ∀ k e, F k = e → e.own w2 lo := fun k e he => he ▸ pool_heap (h.pool.own k) fun g hg => hk g (h.pool.lt k hg).1 (h.pool.lt k hg).2
  obtain ⟨B2, d2, f2, g2⟩ := own_bools (o2 0 _ h.d)
  obtain ⟨B3, d3, f3, g3⟩ := own_mans (o2 1 _ h.m) (fun j hj => h.man j hj w2 fun k hs => hk k hs.1.2 hs.1.1)
  obtain ⟨B4, d4, f4, g4⟩ := own_errs (o2 2 _ h.t) h.rt
  obtain ⟨B5, d5, f5, g5⟩ := own_bools (o2 3 _ h.h)
  obtain ⟨B6, d6, f6, g6⟩ := own_texts (o2 4 _ h.r) h.ok.lr
  obtain ⟨B7, d7, f7, g7⟩ := own_errs (o2 5 _ h.p) h.rp
  obtain ⟨B8, d8, f8, g8⟩ := own_bools (o2 6 _ h.c)
  obtain rfl : A2 = B2 := by rw [e2] at f2; simp at f2; exact f2.1
  obtain rfl : A3 = B3 := by rw [e3] at f3; simp at f3; exact f3.1
  obtain rfl : A4 = B4 := by rw [e4] at f4; simp at f4; exact f4.1
  obtain rfl : A5 = B5 := by rw [e5] at f5; simp at f5; exact f5.1
  obtain rfl : A6 = B6 := by rw [e6] at f6; simp at f6; exact f6.1
  obtain rfl : A7 = B7 := by rw [e7] at f7; simp at f7; exact f7.1
  obtain rfl : A8 = B8 := by rw [e8] at f8; simp at f8; exact f8.1
  exact ⟨g2, g3, g4, g5, g6, g7, g8, h.ok⟩
def ApplyPost (w : World) (s : LS) (n : Nat) (e : Ending) (w' : World) : Prop := ∃ A2 c2 A3 c3 A4 c4 A5 c5 A6 c6 A7 c7 A8 c8 vs, e = .returned (.tuple #[.agg #[.int .i64 s.n, .int .i64 s.ep, .slice A2 s.done.length c2, .slice A3 s.done.length c3, .slice A4 s.done.length c4, .slice A5 s.has.length c5, .slice A6 s.has.length c6, .slice A7 s.has.length c7, .slice A8 s.has.length c8, .int .i64 s.fin, .int .i64 s.er], .int .i64 (n : Nat)]) ∧
  StateB w.heap.size w'.heap.size w' A2 A3 A4 A5 A6 A7 A8 vs s ∧ Below w.heap.size w w'
theorem results_cell_two {P : Program} {fn : Func} {p q : Tmp} {ty : TypeId} (h : fn.results = #[.cell p ty, .tmp q]) (tmps : Array Value) (w : World) (g : Nat) (t : TypeId) (cs : Array Value) (fr : Nat × Nat) (d : TypeDesc) {v : Value}
    (hp : tmps.getD p undef = .pointer (some ⟨g, 0, none⟩)) (hg : w.heap[g]? = some (.cells cs t fr))
    (hu : P.underlying ty = some d) (hd : (match d with | .struct _ | .array _ _ => true | _ => false) = true) (hi : (P.info? ty).map (·.size) = some cs.size) (hq : tmps.getD q undef = v) :
    (results fn tmps).run P w = .ok (.tuple #[.agg cs, v]) w := by
  have hp' : tmps[p]?.getD undef = .pointer (some ⟨g, 0, none⟩) := by simpa using hp
  have hq' : tmps[q]?.getD undef = v := by simpa using hq
  simp [results, h, hp', hq', asAddr, run_loadVar_row w g t ty cs fr d hg hu hd hi]
/-- Apply's end: the state laid into the result's box. -/
theorem apply_fin {w W : World} {lo : Nat} {F : Nat → Ent} {v2 v3 v4 v5 v6 v7 v8 : Value} {vs : Nat → MV} {s : LS} {n : Nat} (h : OwnR W lo F v2 v3 v4 v5 v6 v7 v8 vs s) (hb : Below w.heap.size w W) (hlo : w.heap.size + 2 < lo) {z : Array Value} (hr : W.heap[w.heap.size + 2]? = some (.cells z 42 (0, 0)))
    (tmps : Array Value) (h4 : tmps.getD 4 undef = .pointer (some ⟨w.heap.size + 2, 0, none⟩)) (h5 : tmps.getD 5 undef = .int .i64 (n : Nat)) :
    bodyPost Try.prog Try.f21 (ApplyPost w s n) .ret { tmps := tmps, defers := [] } (W.setRow (w.heap.size + 2) #[.int .i64 s.n, .int .i64 s.ep, v2, v3, v4, v5, v6, v7, v8, .int .i64 s.fin, .int .i64 s.er]) := by
  have hl := OwnR'.low h hlo #[.int .i64 s.n, .int .i64 s.ep, v2, v3, v4, v5, v6, v7, v8, .int .i64 s.fin, .int .i64 s.er]
  obtain ⟨A2, c2, A3, c3, A4, c4, A5, c5, A6, c6, A7, c7, A8, c8, rfl, rfl, rfl, rfl, rfl, rfl, rfl, HS⟩ := hl.readB
  refine bodyPost_ret (results_cell_two rfl _ _ (w.heap.size + 2) 42 _ (0, 0) _ h4 (setRow_heap _ _ _ #[.int .i64 s.n, .int .i64 s.ep, .slice A2 s.done.length c2, .slice A3 s.done.length c3, .slice A4 s.done.length c4, .slice A5 s.has.length c5, .slice A6 s.has.length c6, .slice A7 s.has.length c7, .slice A8 s.has.length c8, .int .i64 s.fin, .int .i64 s.er] _ _ hr) Try.underlying42 rfl info_state h5) rfl ?_
  exact ⟨A2, c2, A3, c3, A4, c4, A5, c5, A6, c6, A7, c7, A8, c8, vs, rfl, HS.mono (by omega) (Nat.le_refl _), hb.trans ⟨rfl, rfl, rfl, by simp, fun q hq => setRow_other W _ q _ (by omega)⟩⟩
/-- Three boxes made one behind the other. -/
theorem three_boxes (w : World) (x y z : Array Value) (tx ty tz : TypeId) {W : World} (hW : W = ((w.alloc (.cells x tx)).alloc (.cells y ty)).alloc (.cells z tz)) :
    W.heap[w.heap.size]? = some (.cells x tx (0, 0)) ∧ W.heap[w.heap.size + 1]? = some (.cells y ty (0, 0)) ∧ W.heap[w.heap.size + 2]? = some (.cells z tz (0, 0)) ∧ W.heap.size = w.heap.size + 3 ∧ Below w.heap.size w W := by
  subst hW
  have s1 : (w.alloc (.cells x tx)).heap.size = w.heap.size + 1 := World.size_alloc _ _
  have s2 : ((w.alloc (.cells x tx)).alloc (.cells y ty)).heap.size = w.heap.size + 2 := by rw [World.size_alloc, s1]
  have h1 := heap_alloc_new w (.cells x tx)
  have h2 := heap_alloc_new (w.alloc (.cells x tx)) (.cells y ty)
  have h3 := heap_alloc_new ((w.alloc (.cells x tx)).alloc (.cells y ty)) (.cells z tz)
  have b1 := (Below.refl w.heap.size w).alloc (Nat.le_refl _) (.cells x tx)
  have b2 := (Below.refl (w.alloc (.cells x tx)).heap.size (w.alloc (.cells x tx))).alloc (Nat.le_refl _) (.cells y ty)
  have b3 := (Below.refl ((w.alloc (.cells x tx)).alloc (.cells y ty)).heap.size ((w.alloc (.cells x tx)).alloc (.cells y ty))).alloc (Nat.le_refl _) (.cells z tz)
  rw [s1] at h2
  rw [s2] at h3
  refine ⟨?_, ?_, h3, by rw [World.size_alloc, s2], bt (bt b1 b1.size b2) (by rw [s2]; omega) b3⟩
  · rw [b3.block _ (by rw [s2]; omega), b2.block _ (by rw [s1]; omega)]; exact h1
  · rw [b3.block _ (by rw [s2]; omega)]; exact h2
end Go.Proofs.Ytmlemichkeomjaa.LedW
