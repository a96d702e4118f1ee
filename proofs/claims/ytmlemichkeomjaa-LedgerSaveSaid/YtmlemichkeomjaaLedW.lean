/- The ledger's state in a world: read, and of one's own. -/
import Derived.Test.YtmlemichkeomjaaLedClone
import Derived.Test.YtmlemichkeomjaaLedMan
import Derived.Test.YtmlemichkeomjaaLedP
import Derived.Test.YtmlemichkeomjaaM1
set_option linter.unusedVariables false
set_option linter.unusedSimpArgs false
namespace Go.Proofs.Ytmlemichkeomjaa.LedW
open Go.RowKit Go.Proofs.Ytmlemichkeomjaa.Base Go.Proofs.Ytmlemichkeomjaa.MendW Go.Proofs.Ytmlemichkeomjaa.ManP Go.Proofs.Ytmlemichkeomjaa.ManW Go.Proofs.Ytmlemichkeomjaa.LedP
/-- Where a manifest's parts lie. -/
structure MV where
  A2 : Option Addr
  c2 : Nat
  A3 : Option Addr
  c3 : Nat
  A4 : Option Addr
  c4 : Nat
def noMV : MV := ⟨none, 0, none, 0, none, 0⟩
def mcells (m : Man) (v : MV) : List Value := [.int .i64 m.task, .int .i64 m.att, .slice v.A2 m.sz.length v.c2, .slice v.A3 m.sm.length v.c3, .slice v.A4 m.hm.length v.c4]
theorem mcells_length (m : Man) (v : MV) : (mcells m v).length = 5 := rfl
theorem mcells_one (m : Man) (v : MV) : ∀ u ∈ mcells m v, u.oneCell' = true := fun u hu => by
  simp only [mcells, List.mem_cons, List.not_mem_nil, or_false] at hu
  rcases hu with rfl | rfl | rfl | rfl | rfl <;> rfl
/-- A manifest that is read. -/
structure ManV (w : World) (v : MV) (m : Man) : Prop where
  man : ManW w v.A2 m.sz.length v.A3 m.sm.length v.A4 m.hm.length m
  rt : -9223372036854775808 ≤ m.task ∧ m.task ≤ 9223372036854775807
  ra : -9223372036854775808 ≤ m.att ∧ m.att ≤ 9223372036854775807
theorem ManV.below {w w' : World} {v : MV} {m : Man} (h : ManV w v m) (hb : Below w.heap.size w w') : ManV w' v m := ⟨h.man.below hb, h.rt, h.ra⟩
theorem ManV.no (w : World) : ManV w noMV noMan := ⟨ManW.none _ _ _ _ _ _, by decide, by decide⟩
/-- .. whose parts lie in blocks of a kind. -/
def ManB (B : Nat → Prop) (w : World) (v : MV) (m : Man) : Prop := ∀ w' : World, (∀ k, B k → w'.heap[k]? = w.heap[k]?) → ManV w' v m
theorem ManB.here {B : Nat → Prop} {w : World} {v : MV} {m : Man} (h : ManB B w v m) : ManV w v m := h w fun _ _ => rfl
theorem ManB.keep {B : Nat → Prop} {w w1 : World} {v : MV} {m : Man} (h : ManB B w v m) (hk : ∀ k, B k → w1.heap[k]? = w.heap[k]?) : ManB B w1 v m := fun w2 h2 => h w2 fun k hb => (h2 k hb).trans (hk k hb)
theorem ManB.mono {B B' : Nat → Prop} {w : World} {v : MV} {m : Man} (h : ManB B w v m) (hb : ∀ k, B k → B' k) : ManB B' w v m := fun w2 h2 => h w2 fun k hk => h2 k (hb k hk)
theorem cell_heap {w w' : World} (h : w'.heap = w.heap) (a : Addr) : w'.cell? a = w.cell? a := by unfold World.cell?; rw [h]
theorem Ints.heap {w w' : World} {A : Option Addr} {l : List Int} (h : Ints w A l) (e : w'.heap = w.heap) : Ints w' A l := ⟨h.le, h.at_.imp id fun ⟨b, o, e1, hc⟩ => ⟨b, o, e1, fun j hj => (cell_heap e _).trans (hc j hj)⟩⟩
theorem U32s.heap {w w' : World} {A : Option Addr} {l : List Int} (h : U32s w A l) (e : w'.heap = w.heap) : U32s w' A l := ⟨h.le, h.at_.imp id fun ⟨b, o, e1, hc⟩ => ⟨b, o, e1, fun j hj => (cell_heap e _).trans (hc j hj)⟩⟩
theorem IRows.heap {w w' : World} {A : Option Addr} {l : List (List Int)} (h : IRows w A l) (e : w'.heap = w.heap) : IRows w' A l := ⟨h.at_.imp id fun ⟨b, o, e1, hc⟩ => ⟨b, o, e1, fun j hj => by
  obtain ⟨B, c, h1, h2, h3⟩ := hc j hj
  exact ⟨B, c, (cell_heap e _).trans h1, h2, Ints.heap h3 e⟩⟩⟩
theorem ManV.heap {w w' : World} {v : MV} {m : Man} (h : ManV w v m) (e : w'.heap = w.heap) : ManV w' v m := ⟨⟨Ints.heap h.man.i2 e, h.man.l2, U32s.heap h.man.i3 e, h.man.l3, IRows.heap h.man.i4 e, h.man.l4⟩, h.rt, h.ra⟩
theorem ManB.of {w : World} {v : MV} {m : Man} (h : ManV w v m) : ManB (fun k => k < w.heap.size) w v m := fun w' hk => by
  have hs : w.heap.size ≤ w'.heap.size := by
    rcases Nat.eq_zero_or_pos w.heap.size with h0 | h0
    · omega
    · have h1 := hk (w.heap.size - 1) (by omega)
      rw [Array.getElem?_eq_getElem (show w.heap.size - 1 < w.heap.size by omega)] at h1
      have := (Array.getElem?_eq_some_iff.1 h1).1
      omega
  have hb : Below w.heap.size w { w with heap := w'.heap } := ⟨rfl, rfl, rfl, hs, fun k hk2 => hk k hk2⟩
  exact (h.below hb).heap rfl
/-- Manifests side by side. -/
def flat : List Man → (Nat → MV) → List Value
  | [], _ => []
  | m :: ms, vs => mcells m (vs 0) ++ flat ms (fun i => vs (i + 1))
theorem flat_length : ∀ (ms : List Man) (vs : Nat → MV), (flat ms vs).length = ms.length * 5
  | [], _ => rfl
  | m :: ms, vs => by rw [flat, List.length_append, flat_length ms, mcells_length, List.length_cons]; omega
theorem flat_get : ∀ (ms : List Man) (vs : Nat → MV) (i q : Nat) (h : i < ms.length), q < 5 → (flat ms vs)[i * 5 + q]? = (mcells ms[i] (vs i))[q]?
  | m :: ms, vs, 0, q, _, hq => by rw [flat, Nat.zero_mul, Nat.zero_add, List.getElem?_append_left (by rw [mcells_length]; exact hq)]; rfl
  | m :: ms, vs, i + 1, q, h, hq => by
    rw [flat, List.getElem?_append_right (by rw [mcells_length]; omega), mcells_length, show (i + 1) * 5 + q - 5 = i * 5 + q by omega, flat_get ms _ i q (by simpa using h) hq]
    rfl
theorem flat_one : ∀ (ms : List Man) (vs : Nat → MV), ∀ u ∈ flat ms vs, u.oneCell' = true
  | [], _, u, hu => by cases hu
  | m :: ms, vs, u, hu => by
    rcases List.mem_append.1 (show u ∈ mcells m (vs 0) ++ flat ms (fun i => vs (i + 1)) from hu) with h | h
    · exact mcells_one m _ u h
    · exact flat_one ms _ u h
def upv (vs : Nat → MV) (i : Nat) (v : MV) : Nat → MV := fun j => if j = i then v else vs j
theorem flat_congr : ∀ (ms : List Man) (vs vs' : Nat → MV), (∀ i, i < ms.length → vs i = vs' i) → flat ms vs = flat ms vs'
  | [], _, _, _ => rfl
  | m :: ms, vs, vs', h => by
    rw [flat, flat, h 0 (by simp), flat_congr ms _ (fun i => vs' (i + 1)) (fun i hi => h (i + 1) (by simp; omega))]
def set5 (l : List Value) (o : Nat) (cs : List Value) : List Value := ((((l.set o (cs.getD 0 undef)).set (o + 1) (cs.getD 1 undef)).set (o + 2) (cs.getD 2 undef)).set (o + 3) (cs.getD 3 undef)).set (o + 4) (cs.getD 4 undef)
theorem set5_flat : ∀ (ms : List Man) (vs : Nat → MV) (i : Nat) (m' : Man) (v' : MV), i < ms.length → set5 (flat ms vs) (i * 5) (mcells m' v') = flat (ms.set i m') (upv vs i v')
  | m :: ms, vs, 0, m', v', _ => by
    rw [List.set_cons_zero, flat, flat]
    have e : flat ms (fun i => vs (i + 1)) = flat ms (fun i => upv vs 0 v' (i + 1)) := flat_congr _ _ _ fun i _ => by simp [upv]
    rw [← e]
    simp [set5, mcells, upv]
  | m :: ms, vs, i + 1, m', v', h => by
    rw [List.set_cons_succ, flat, flat]
    have e : flat (ms.set i m') (fun j => upv vs (i + 1) v' (j + 1)) = flat (ms.set i m') (upv (fun j => vs (j + 1)) i v') := flat_congr _ _ _ fun j _ => by simp [upv]
    rw [e, ← set5_flat ms _ i m' v' (by simpa using h)]
    have e0 : upv vs (i + 1) v' 0 = vs 0 := by simp [upv]
    rw [e0]
    have hs : ∀ (l : List Value) (k : Nat) (u : Value), (mcells m (vs 0) ++ l).set ((i + 1) * 5 + k) u = mcells m (vs 0) ++ l.set (i * 5 + k) u := fun l k u => by
      rw [List.set_append_right _ _ (by rw [mcells_length]; omega), mcells_length, show (i + 1) * 5 + k - 5 = i * 5 + k by omega]
    have h0 := fun (l : List Value) (u : Value) => hs l 0 u
    simp only [Nat.add_zero] at h0
    unfold set5
    rw [h0, hs, hs, hs, hs]
/-- Manifests that are read. -/
structure MansV (w : World) (A : Option Addr) (ms : List Man) (vs : Nat → MV) : Prop where
  at_ : ms = [] ∨ ∃ b off, A = some ⟨b, off, none⟩ ∧ ∀ j u, (flat ms vs)[j]? = some u → w.cell? ⟨b, off + j, none⟩ = some u
  man : ∀ j (h : j < ms.length), ManV w (vs j) ms[j]
theorem MansV.below {w w' : World} {A : Option Addr} {ms : List Man} {vs : Nat → MV} (h : MansV w A ms vs) (hb : Below w.heap.size w w') : MansV w' A ms vs :=
  ⟨h.at_.imp id fun ⟨b, o, e, hc⟩ => ⟨b, o, e, fun j u hj => cell_below hb (hc j u hj)⟩, fun j hj => (h.man j hj).below hb⟩
/-- The cells of one of them. -/
theorem MansV.cells {w : World} {A : Option Addr} {ms : List Man} {vs : Nat → MV} (h : MansV w A ms vs) (i : Nat) (hi : i < ms.length) : ∃ b off, A = some ⟨b, off, none⟩ ∧
    w.cell? ⟨b, off + i * 5, none⟩ = some (.int .i64 ms[i].task) ∧ w.cell? ⟨b, off + i * 5 + 1, none⟩ = some (.int .i64 ms[i].att) ∧ w.cell? ⟨b, off + i * 5 + 2, none⟩ = some (.slice (vs i).A2 ms[i].sz.length (vs i).c2) ∧ w.cell? ⟨b, off + i * 5 + 3, none⟩ = some (.slice (vs i).A3 ms[i].sm.length (vs i).c3) ∧ w.cell? ⟨b, off + i * 5 + 4, none⟩ = some (.slice (vs i).A4 ms[i].hm.length (vs i).c4) := by
  rcases h.at_ with rfl | ⟨b, off, e, hc⟩
  · simp at hi
  · have g : ∀ q (hq : q < 5) u, (mcells ms[i] (vs i))[q]? = some u → w.cell? ⟨b, off + (i * 5 + q), none⟩ = some u := fun q hq u hu => hc _ _ (by rw [flat_get ms vs i q hi hq]; exact hu)
    exact ⟨b, off, e, g 0 (by omega) _ rfl, g 1 (by omega) _ rfl, g 2 (by omega) _ rfl, g 3 (by omega) _ rfl, g 4 (by omega) _ rfl⟩
/-- A state that is read. -/
structure StateW (w : World) (A2 A3 A4 A5 A6 A7 A8 : Option Addr) (vs : Nat → MV) (s : LS) : Prop where
  d : Bools w A2 s.done
  m : MansV w A3 s.ms vs
  t : Ints w A4 s.te
  h : Bools w A5 s.has
  r : Strs w A6 s.has.length s.res
  p : Ints w A7 s.pe
  c : Bools w A8 s.com
  ok : Ok s
theorem StateW.below {w w' : World} {A2 A3 A4 A5 A6 A7 A8 : Option Addr} {vs : Nat → MV} {s : LS} (h : StateW w A2 A3 A4 A5 A6 A7 A8 vs s) (hb : Below w.heap.size w w') : StateW w' A2 A3 A4 A5 A6 A7 A8 vs s :=
  ⟨h.d.below hb, h.m.below hb, h.t.below hb, h.h.below hb, h.r.below hb, h.p.below hb, h.c.below hb, h.ok⟩
def bvs (l : List Bool) : List Value := l.map Value.bool
theorem bvs_length (l : List Bool) : (bvs l).length = l.length := by simp [bvs]
def svs (l : List ByteArray) : List Value := l.map Value.string
theorem svs_length (l : List ByteArray) : (svs l).length = l.length := by simp [svs]
/-- A block that is there, not below ml, and no row's. -/
def Safe (ml : Nat) (F : Nat → Ent) (n k : Nat) : Prop := (k < n ∧ ml ≤ k) ∧ ∀ a, (F a).v.ownBlock ≠ some k
/-- The rows of a state of one's own: 0 done, 1 manifests, 2 tasks' errors, 3 has, 4 results, 5 parts' errors, 6 committed. -/
structure OwnR' (w : World) (lo ml : Nat) (F : Nat → Ent) (v2 v3 v4 v5 v6 v7 v8 : Value) (vs : Nat → MV) (s : LS) : Prop where
  pool : Pool w lo F
  d : F 0 = ⟨4, 1, v2, s.done.length, bvs s.done⟩
  m : F 1 = ⟨26, 5, v3, s.done.length, flat s.ms vs⟩
  t : F 2 = ⟨30, 1, v4, s.done.length, zv s.te⟩
  h : F 3 = ⟨4, 1, v5, s.has.length, bvs s.has⟩
  r : F 4 = ⟨9, 1, v6, s.has.length, svs s.res⟩
  p : F 5 = ⟨30, 1, v7, s.has.length, zv s.pe⟩
  c : F 6 = ⟨4, 1, v8, s.has.length, bvs s.com⟩
  man : ∀ j (h : j < s.ms.length), ManB (Safe ml F w.heap.size) w (vs j) s.ms[j]
  rt : ∀ x ∈ s.te, -9223372036854775808 ≤ x ∧ x ≤ 9223372036854775807
  rp : ∀ x ∈ s.pe, -9223372036854775808 ≤ x ∧ x ≤ 9223372036854775807
  ok : Ok s
abbrev OwnR (w : World) (lo : Nat) (F : Nat → Ent) (v2 v3 v4 v5 v6 v7 v8 : Value) (vs : Nat → MV) (s : LS) : Prop := OwnR' w lo lo F v2 v3 v4 v5 v6 v7 v8 vs s
/-- .. with the state in the block ob. -/
structure OwnS' (w : World) (lo ml ob : Nat) (F : Nat → Ent) (v2 v3 v4 v5 v6 v7 v8 : Value) (vs : Nat → MV) (s : LS) : Prop where
  rows : OwnR' w lo ml F v2 v3 v4 v5 v6 v7 v8 vs s
  box : F 7 = ⟨42, 11, .slice (some ⟨ob, 0, none⟩) 1 1, 1, [.int .i64 s.n, .int .i64 s.ep, v2, v3, v4, v5, v6, v7, v8, .int .i64 s.fin, .int .i64 s.er]⟩
abbrev OwnS (w : World) (lo ob : Nat) (F : Nat → Ent) (v2 v3 v4 v5 v6 v7 v8 : Value) (vs : Nat → MV) (s : LS) : Prop := OwnS' w lo lo ob F v2 v3 v4 v5 v6 v7 v8 vs s
theorem safe_low {w : World} {lo : Nat} {F : Nat → Ent} (h : Pool w lo F) (hlo : lo ≤ w.heap.size) {k : Nat} (hk : k < lo) : Safe 0 F w.heap.size k := ⟨⟨by omega, Nat.zero_le _⟩, fun a e => by have := (h.lt a e).1; omega⟩
/-- Own rows, to be read. -/
theorem own_bools {w : World} {base e n : Nat} {v : Value} {l : List Bool} (h : w.ownsRow base e 1 v n (bvs l)) : ∃ A c, v = .slice A n c ∧ Bools w A l := by
  obtain ⟨A, c, h1, _, h3⟩ := own_at h
  refine ⟨A, c, h1, ⟨?_⟩⟩
  rcases h3 with h3 | ⟨b, e, h3⟩
  · exact .inl (by simpa [bvs] using h3)
  · exact .inr ⟨b, 0, e, fun j hj => h3 j _ (by simp [bvs, hj])⟩
theorem own_errs {w : World} {base e n : Nat} {v : Value} {l : List Int} (h : w.ownsRow base e 1 v n (zv l)) (hr : ∀ x ∈ l, -9223372036854775808 ≤ x ∧ x ≤ 9223372036854775807) : ∃ A c, v = .slice A n c ∧ Ints w A l := by
  obtain ⟨A, c, h1, _, h3⟩ := own_ints' h hr
  exact ⟨A, c, h1, h3⟩
theorem own_texts {w : World} {base e n : Nat} {v : Value} {l : List ByteArray} (h : w.ownsRow base e 1 v n (svs l)) (hl : l.length = n) : ∃ A c, v = .slice A n c ∧ Strs w A n l := by
  obtain ⟨A, c, h1, _, h3⟩ := own_at h
  refine ⟨A, c, h1, hl, ?_⟩
  rcases h3 with h3 | ⟨b, e, h3⟩
  · exact .inl (by rw [← hl]; simpa [svs] using h3)
  · exact .inr ⟨b, 0, e, fun j hj => h3 j _ (by simp [svs, hj])⟩
theorem own_mans {w : World} {base e n : Nat} {v : Value} {ms : List Man} {vs : Nat → MV} (h : w.ownsRow base e 5 v n (flat ms vs)) (hm : ∀ j (h : j < ms.length), ManV w (vs j) ms[j]) : ∃ A c, v = .slice A n c ∧ MansV w A ms vs := by
  rcases h.2 with ⟨rfl, h0⟩ | ⟨g, cap, cur, rfl, hb, hg, hc, _⟩
  · subst h0
    refine ⟨none, 0, rfl, .inl ?_, hm⟩
    have := h.1
    rw [flat_length] at this
    exact List.eq_nil_of_length_eq_zero (by omega)
  · refine ⟨_, cap, rfl, .inr ⟨g, 0, rfl, fun j u hu => ?_⟩, hm⟩
    have hcl := h.cells (g := g) rfl j u hu
    have ha : (⟨g, 0, none⟩ : Addr).add j = ⟨g, 0 + j, none⟩ := by unfold Addr.add; split <;> simp_all
    rw [ha] at hcl
    exact hcl
theorem OwnR'.read {w : World} {lo ml : Nat} {F : Nat → Ent} {v2 v3 v4 v5 v6 v7 v8 : Value} {vs : Nat → MV} {s : LS} (h : OwnR' w lo ml F v2 v3 v4 v5 v6 v7 v8 vs s) :
    ∃ A2 c2 A3 c3 A4 c4 A5 c5 A6 c6 A7 c7 A8 c8, v2 = .slice A2 s.done.length c2 ∧ v3 = .slice A3 s.done.length c3 ∧ v4 = .slice A4 s.done.length c4 ∧ v5 = .slice A5 s.has.length c5 ∧ v6 = .slice A6 s.has.length c6 ∧ v7 = .slice A7 s.has.length c7 ∧ v8 = .slice A8 s.has.length c8 ∧
      StateW w A2 A3 A4 A5 A6 A7 A8 vs s := by
  have o : ∀ k e, F k = e → e.own w lo := fun k e he => he ▸ h.pool.own k
  obtain ⟨A2, c2, e2, d2⟩ := own_bools (o 0 _ h.d)
  obtain ⟨A3, c3, e3, d3⟩ := own_mans (o 1 _ h.m) (fun j hj => (h.man j hj).here)
  obtain ⟨A4, c4, e4, d4⟩ := own_errs (o 2 _ h.t) h.rt
  obtain ⟨A5, c5, e5, d5⟩ := own_bools (o 3 _ h.h)
  obtain ⟨A6, c6, e6, d6⟩ := own_texts (o 4 _ h.r) h.ok.lr
  obtain ⟨A7, c7, e7, d7⟩ := own_errs (o 5 _ h.p) h.rp
  obtain ⟨A8, c8, e8, d8⟩ := own_bools (o 6 _ h.c)
  exact ⟨A2, c2, A3, c3, A4, c4, A5, c5, A6, c6, A7, c7, A8, c8, e2, e3, e4, e5, e6, e7, e8, d2, d3, d4, d5, d6, d7, d8, h.ok⟩
/-- Behind what leaves all that lay there. -/
theorem OwnR'.below {w w' : World} {lo ml : Nat} {F : Nat → Ent} {v2 v3 v4 v5 v6 v7 v8 : Value} {vs : Nat → MV} {s : LS} (h : OwnR' w lo ml F v2 v3 v4 v5 v6 v7 v8 vs s) (hb : Below w.heap.size w w') : OwnR' w' lo ml F v2 v3 v4 v5 v6 v7 v8 vs s :=
  ⟨h.pool.below hb, h.d, h.m, h.t, h.h, h.r, h.p, h.c, fun j hj => ((h.man j hj).keep (fun k hk => hb.block k hk.1.1)).mono (fun k hk => ⟨⟨Nat.lt_of_lt_of_le hk.1.1 hb.size, hk.1.2⟩, hk.2⟩), h.rt, h.rp, h.ok⟩
/-- A pool's rows turn in their blocks or go into new ones: what is safe stays so. -/
theorem safe_chg {ml : Nat} {F : Nat → Ent} {n n' : Nat} (hn : n ≤ n') {a : Nat} {E : Ent} (hE : E.v.ownBlock = (F a).v.ownBlock ∨ ∀ g, E.v.ownBlock = some g → n ≤ g) {k : Nat} (hk : Safe ml F n k) : Safe ml (up F a E) n' k := by
  refine ⟨⟨Nat.lt_of_lt_of_le hk.1.1 hn, hk.1.2⟩, fun b e => ?_⟩
  by_cases hb : b = a
  · subst hb
    rw [up_self] at e
    rcases hE with hE | hE
    · exact hk.2 b (hE ▸ e)
    · have := hE k e; have := hk.1.1; omega
  · rw [up_ne _ _ hb] at e
    exact hk.2 b e
/-- A new manifest of one's own. -/
def ManNew (w w' : World) (v : MV) (m : Man) : Prop := ManB (fun k => w.heap.size ≤ k ∧ k < w'.heap.size) w' v m
def ClonePost (w : World) (m : Man) (e : Ending) (w' : World) : Prop := ∃ v, e = .returned (.agg #[.int .i64 m.task, .int .i64 m.att, .slice v.A2 m.sz.length v.c2, .slice v.A3 m.sm.length v.c3, .slice v.A4 m.hm.length v.c4]) ∧ ManNew w w' v m ∧ Below w.heap.size w w'
theorem src_u32s {w : World} {B : Option Addr} {l : List Int} (h : U32s w B l) : uv l = [] ∨ ∃ b off, B = some ⟨b, off, none⟩ ∧ ∀ j u, (uv l)[j]? = some u → w.cell? ((⟨b, off, none⟩ : Addr).add j) = some u := by
  rcases h.at_ with h1 | ⟨b, off, e, hc⟩
  · exact .inl (by rw [h1]; rfl)
  · refine .inr ⟨b, off, e, fun j u hj => ?_⟩
    unfold uv at hj
    rw [List.getElem?_map] at hj
    obtain ⟨x, hx, rfl⟩ := Option.map_eq_some_iff.1 hj
    obtain ⟨hjl, rfl⟩ := List.getElem?_eq_some_iff.1 hx
    rw [add_off]
    exact hc j hjl
theorem src_add {w : World} {B : Option Addr} {xs : List Value} (h : SrcAt w B xs) : xs = [] ∨ ∃ b off, B = some ⟨b, off, none⟩ ∧ ∀ j u, xs[j]? = some u → w.cell? ((⟨b, off, none⟩ : Addr).add j) = some u :=
  h.imp id fun ⟨b, off, e, hc⟩ => ⟨b, off, e, fun j u hj => by rw [add_off]; exact hc j u hj⟩
/-- ledger.manifest. -/
theorem man_clone {w : World} {v : MV} {m : Man} (h : ManV w v m) (hs : Slim m) :
    Calls Try.prog 77 #[.agg #[.int .i64 m.task, .int .i64 m.att, .slice v.A2 m.sz.length v.c2, .slice v.A3 m.sm.length v.c3, .slice v.A4 m.hm.length v.c4]] w (ClonePost w m) := by
  have hsz := hs.sz
  have hsm := hs.sm
  have hhm := hs.hm
  refine (manifest_raw m.task m.att v.A2 m.sz.length v.c2 v.A3 m.sm.length v.c3 v.A4 m.hm.length v.c4 (zv m.sz) (uv m.sm) m.hm w (zv_length _) (uv_length _) (by omega) h.man.i4 rfl (fun i hi => by have := hs.row _ (List.getElem_mem hi); omega)
    (fun W hW => clone_int _ _ _ _ W (src_add (src_ints (h.man.i2.below hW))) (zv_one _) (zv_length _) (by omega))
    (fun W hW => clone_u32 _ _ _ _ W (src_u32s (h.man.i3.below hW)) (fun u hu => by obtain ⟨x, _, rfl⟩ := List.mem_map.1 hu; rfl) (uv_length _) (by omega))).mono ?_
  rintro e w' ⟨F, v2, v3, v4, rv, rfl, HP, HM, hd⟩
  have hh := h.man
  have k2 : ∀ l, l ∈ m.hm → ∀ x, x ∈ l → -9223372036854775808 ≤ x ∧ x ≤ 9223372036854775807 := fun l hl x hx => by
    obtain ⟨j, hj, rfl⟩ := List.mem_iff_getElem.1 hl
    rcases hh.i4.at_ with e | ⟨b, off, e, hc⟩
    · rw [e] at hj; simp at hj
    · obtain ⟨B, c, _, _, hI⟩ := hc j hj
      exact hI.le x hx
  have h0 : F 0 = ⟨3, 1, v2, m.sz.length, zv m.sz⟩ := by have := HM.sz; rwa [zv_length] at this
  have h1 : F 1 = ⟨72, 1, v3, m.sm.length, uv m.sm⟩ := by have := HM.sm; rwa [uv_length] at this
  obtain ⟨A2, c2, A3, c3, A4, c4, rfl, rfl, rfl, hM⟩ := man_of_pool HP h0 h1 HM.top HM.row hh.i2.le hh.i3.le k2 m.task m.att
  refine ⟨⟨A2, c2, A3, c3, A4, c4⟩, rfl, fun w2 hw2 => ?_, hd⟩
  have HQ : Pool w2 w.heap.size F := ⟨fun a => pool_heap (HP.own a) fun k hk => hw2 k ⟨(HP.lt a hk).1, (HP.lt a hk).2⟩, HP.ne⟩
  obtain ⟨B2, d2, B3, d3, B4, d4, e2, e3, e4, hM2⟩ := man_of_pool HQ h0 h1 HM.top HM.row hh.i2.le hh.i3.le k2 m.task m.att
  simp only [Value.slice.injEq, true_and] at e2 e3 e4
  obtain ⟨rfl, _⟩ := e2
  obtain ⟨rfl, _⟩ := e3
  obtain ⟨rfl, _⟩ := e4
  exact ⟨hM2, h.rt, h.ra⟩
end Go.Proofs.Ytmlemichkeomjaa.LedW
