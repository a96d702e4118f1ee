/- Texts of this claim in one. -/
import Derived.Test.YtmlemichkeomjaaM1
import Derived.Deep.OwnRows
import Derived.Maps.AppendAt
import Derived.Test.YtmlemichkeomjaaM7
import Derived.Lib.Builder
import Derived.Deep.DeepCutAuto
/- A pool: rows of one's own under keys, no two of which lie in one block. -/
set_option linter.unusedVariables false
set_option linter.unusedSimpArgs false
namespace Go.Proofs.Ytmlemichkeomjaa.Base
open Go.RowKit
/-- A row of one's own. -/
structure Ent where
  e : TypeId
  size : Nat
  v : Value
  n : Nat
  xs : List Value
def Ent.own (E : Ent) (w : World) (lo : Nat) : Prop := w.ownsRow lo E.e E.size E.v E.n E.xs
/-- No row. -/
def noEnt : Ent := ⟨0, 0, .slice none 0 0, 0, []⟩
theorem noEnt_own (w : World) (lo : Nat) : noEnt.own w lo := ⟨rfl, .inl ⟨rfl, rfl⟩⟩
def up {κ : Type} [DecidableEq κ] (F : κ → Ent) (a : κ) (E : Ent) : κ → Ent := fun b => if b = a then E else F b
theorem up_self {κ : Type} [DecidableEq κ] (F : κ → Ent) (a : κ) (E : Ent) : up F a E a = E := if_pos rfl
theorem up_ne {κ : Type} [DecidableEq κ] (F : κ → Ent) {a b : κ} (E : Ent) (h : b ≠ a) : up F a E b = F b := if_neg h
/-- Rows under keys, each in a block of its own. -/
structure Pool {κ : Type} (w : World) (lo : Nat) (F : κ → Ent) : Prop where
  own : ∀ a, (F a).own w lo
  ne : ∀ a b g, (F a).v.ownBlock = some g → (F b).v.ownBlock = some g → a = b
theorem Pool.nil {κ : Type} (w : World) (lo : Nat) : Pool w lo (fun _ : κ => noEnt) := ⟨fun _ => noEnt_own w lo, fun a b g h => by simp [noEnt, Value.ownBlock] at h⟩
theorem pool_heap {w w' : World} {base e size n : Nat} {v : Value} {xs : List Value} (h : w.ownsRow base e size v n xs) (hb : ∀ g, v.ownBlock = some g → w'.heap[g]? = w.heap[g]?) : w'.ownsRow base e size v n xs := by
  obtain ⟨hl, h0 | ⟨g, cap, cur, rfl, h1, hh, r⟩⟩ := h
  · exact ⟨hl, .inl h0⟩
  · exact ⟨hl, .inr ⟨g, cap, cur, rfl, h1, (hb g rfl).trans hh, r⟩⟩
theorem pool_mono {w : World} {base base' e size n : Nat} {v : Value} {xs : List Value} (h : w.ownsRow base e size v n xs) (hb : base' ≤ base) : w.ownsRow base' e size v n xs := by
  obtain ⟨hl, h0 | ⟨g, cap, cur, rfl, h1, hh, r⟩⟩ := h
  · exact ⟨hl, .inl h0⟩
  · exact ⟨hl, .inr ⟨g, cap, cur, rfl, Nat.le_trans hb h1, hh, r⟩⟩
theorem Pool.lt {κ : Type} {w : World} {lo : Nat} {F : κ → Ent} (h : Pool w lo F) (a : κ) {g : Nat} (hg : (F a).v.ownBlock = some g) : lo ≤ g ∧ g < w.heap.size := World.ownsRow.lt (h.own a) g hg
theorem Pool.below {κ : Type} {w w' : World} {lo : Nat} {F : κ → Ent} (h : Pool w lo F) (hb : Below w.heap.size w w') : Pool w' lo F :=
  ⟨fun a => pool_heap (h.own a) fun g hg => hb.block g (h.lt a hg).2, h.ne⟩
theorem Pool.drew {κ : Type} {w : World} {lo : Nat} {F : κ → Ent} (h : Pool w lo F) : Pool w.drew lo F := h.below ((Below.refl _ _).drew)
theorem Pool.mono {κ : Type} {w : World} {lo lo' : Nat} {F : κ → Ent} (h : Pool w lo F) (hl : lo' ≤ lo) : Pool w lo' F := ⟨fun a => pool_mono (h.own a) hl, h.ne⟩
section
variable {κ : Type} [DecidableEq κ] {w w' : World} {lo : Nat} {F : κ → Ent}
/-- The row under a turns, in its own block or into a new one. -/
theorem Pool.chg (h : Pool w lo F) (a : κ) {row : Option Nat} (hg : w.grownBy w' row) (hrow : row = none ∨ row = (F a).v.ownBlock) {E : Ent} (hE : E.own w' lo) (hv : E.v.ownBlock = (F a).v.ownBlock ∨ ∀ g, E.v.ownBlock = some g → w.heap.size ≤ g) : Pool w' lo (up F a E) := by
  have keep : ∀ b, b ≠ a → ∀ g, (F b).v.ownBlock = some g → w'.heap[g]? = w.heap[g]? := fun b hb g hgb => by
    refine hg.block g (h.lt b hgb).2 fun e => ?_
    rcases hrow with rfl | rfl
    · cases e
    · exact hb (h.ne b a g hgb e.symm)
  refine ⟨fun b => ?_, fun b c g hb hc => ?_⟩
  · by_cases e : b = a
    · subst e; rw [up_self]; exact hE
    · rw [up_ne _ _ e]; exact pool_heap (h.own b) (keep b e)
  · by_cases e1 : b = a
    · by_cases e2 : c = a
      · rw [e1, e2]
      · subst e1
        rw [up_self] at hb
        rw [up_ne _ _ e2] at hc
        rcases hv with hv | hv
        · exact (h.ne c b g hc (hv ▸ hb)).symm
        · have := hv g hb; have := (h.lt c hc).2; omega
    · rw [up_ne _ _ e1] at hb
      by_cases e2 : c = a
      · subst e2
        rw [up_self] at hc
        rcases hv with hv | hv
        · exact h.ne b c g hb (hv ▸ hc)
        · have := hv g hc; have := (h.lt b hb).2; omega
      · rw [up_ne _ _ e2] at hc
        exact h.ne b c g hb hc
/-- A new row under a. -/
theorem Pool.new (h : Pool w lo F) (a : κ) (hb : Below w.heap.size w w') (hlo : lo ≤ w.heap.size) {E : Ent} (hE : E.own w' w.heap.size) : Pool w' lo (up F a E) :=
  h.chg a (row := none) ⟨hb.os, hb.tape, hb.output, hb.size, fun k hk _ => hb.block k hk⟩ (.inl rfl) (pool_mono hE hlo) (.inr fun g hg => (World.ownsRow.lt hE g hg).1)
/-- A store into the row under a. -/
theorem Pool.store (h : Pool w lo F) (a : κ) {e size n c g : Nat} {v : Value} {xs : List Value} (hE : F a = ⟨e, size, v, n, xs⟩) (hv : v = .slice (some ⟨g, 0, none⟩) n c) (j : Nat) (u : Value) : Pool (w.setCell ⟨g, j, none⟩ u) lo (up F a ⟨e, size, v, n, xs.set j u⟩) := by
  have ho := h.own a
  rw [hE, hv] at ho
  obtain ⟨h1, h2⟩ := World.ownsRow.stored ho j u
  refine h.chg a h2 (.inr (by rw [hE, hv]; rfl)) ?_ (.inl (by rw [hE]))
  unfold Ent.own
  simp only [hv]
  exact h1
/-- Behind append. -/
theorem Pool.app (h : Pool w lo F) (a : κ) (hg : w.grownBy w' (F a).v.ownBlock) {E : Ent} (hE : E.own w' lo) (hat : E.v.ownBlock = (F a).v.ownBlock ∨ E.v.ownBlock = some w.heap.size) : Pool w' lo (up F a E) :=
  h.chg a hg (.inr rfl) hE (hat.imp id fun e g hg => by rw [e] at hg; simp at hg; omega)
end
section
variable {κ : Type} {w w' : World} {lo : Nat} {F : κ → Ent}
theorem Pool.cell (h : Pool w lo F) (a : κ) {e size n c g : Nat} {v : Value} {xs : List Value} (hE : F a = ⟨e, size, v, n, xs⟩) (hv : v = .slice (some ⟨g, 0, none⟩) n c) {j : Nat} {u : Value} (hu : xs[j]? = some u) : w.cell? ⟨g, j, none⟩ = some u := by
  have ho := h.own a
  rw [hE, hv] at ho
  have hl : xs.length = n * size := ho.1
  have hj : j < xs.length := (List.getElem?_eq_some_iff.1 hu).1
  rw [World.ownsRow.cellAt ho j (by show j < n * size; omega)]
  exact hu
theorem Pool.free (h : Pool w lo F) (a : κ) {e size n c g : Nat} {v : Value} {xs : List Value} (hE : F a = ⟨e, size, v, n, xs⟩) (hv : v = .slice (some ⟨g, 0, none⟩) n c) (j : Nat) : w.frozen? ⟨g, j, none⟩ = false := by
  have ho := h.own a
  rw [hE, hv] at ho
  exact World.ownsRow.frozenAt ho j
theorem Pool.slice (h : Pool w lo F) (a : κ) {e size n : Nat} {v : Value} {xs : List Value} (hE : F a = ⟨e, size, v, n, xs⟩) : ∃ A c, v = .slice A n c := by
  have ho := h.own a
  rw [hE] at ho
  rcases ho.2 with ⟨h1, h2⟩ | ⟨g, cap, cur, h1, _⟩
  · exact ⟨none, 0, by rw [show v = _ from h1, show n = 0 from h2]⟩
  · exact ⟨_, _, h1⟩
theorem Pool.some (h : Pool w lo F) (a : κ) {e size n : Nat} {v : Value} {xs : List Value} (hE : F a = ⟨e, size, v, n, xs⟩) (hn : 0 < n) : ∃ g c, v = .slice (some ⟨g, 0, none⟩) n c := by
  have ho := h.own a
  rw [hE] at ho
  rcases ho.2 with ⟨h1, h2⟩ | ⟨g, cap, cur, h1, _⟩
  · have : n = 0 := h2
    omega
  · exact ⟨_, _, h1⟩
/-- Two pools, the second one made behind the first. -/
theorem Pool.merge {F' : κ → Ent} (h : Pool w lo F) (hb : Below w.heap.size w w') (h' : Pool w' w.heap.size F') (hlo : lo ≤ w.heap.size) (s : κ → Bool) : Pool w' lo (fun k => if s k = true then F' k else F k) := by
  refine ⟨fun a => ?_, fun a b g ha hb' => ?_⟩
  · by_cases e : s a = true
    · simp only [e, if_true]; exact pool_mono (h'.own a) hlo
    · simp only [e]; exact (h.below hb).own a
  · by_cases e1 : s a = true
    · by_cases e2 : s b = true
      · simp only [e1, e2, if_true] at ha hb'; exact h'.ne a b g ha hb'
      · simp only [e1, if_true] at ha
        simp only [e2] at hb'
        have := (h'.lt a ha).1
        have := (h.lt b hb').2
        omega
    · simp only [e1] at ha
      by_cases e2 : s b = true
      · simp only [e2, if_true] at hb'
        have := (h'.lt b hb').1
        have := (h.lt a ha).2
        omega
      · simp only [e2] at hb'; exact h.ne a b g ha hb'
end
end Go.Proofs.Ytmlemichkeomjaa.Base

/- append to a row of a pool. -/
set_option linter.unusedVariables false
set_option linter.unusedSimpArgs false
namespace Go.Proofs.Ytmlemichkeomjaa.Base
open Go.RowKit
theorem own_slice {w : World} {base e size n : Nat} {v : Value} {xs : List Value} (h : w.ownsRow base e size v n xs) : ∃ A c, v = .slice A n c := by
  rcases h.2 with ⟨rfl, h0⟩ | ⟨g, cap, cur, rfl, _⟩
  · exact ⟨none, 0, by rw [h0]⟩
  · exact ⟨_, _, rfl⟩
section
variable {P : Program} {ops : Array Oper} {rest : List Oper} {o : Oper} {a : Act} {Q : Exit → Act → World → Prop} {κ : Type} [DecidableEq κ]
/-- The equation of the run. -/
theorem run_pool_app {w0 W : World} {lo : Nat} {F : κ → Ent} (t ty e : TypeId) (size : Nat) (z : Value) (bytes : Nat)
    (ht : P.underlying t = some (.slice e)) (hinfo : (P.info? e).map (fun i => (i.zero, i.size, i.bytes)) = some (some z, size, bytes)) (hz : z.cells.size = size) (hs0 : 0 < size) (hb0 : 0 < bytes)
    (key : κ) {v : Value} {n : Nat} {xs : List Value} (hE : F key = ⟨e, size, v, n, xs⟩) (news : List Value) (hn : news.length = size) (h1 : ∀ u ∈ news, u.oneCell' = true)
    (HP : Pool W lo F) (HB : Below lo w0 W) (hlo : lo ≤ W.heap.size) (hl : (n + 1) * bytes ≤ 140737488355328) :
    ∃ A1 c1 w1, (Builtin.append_ #[t, t] ty #[v, .slice (some ⟨W.heap.size, 0, none⟩) 1 1]).run P (W.alloc (.cells news.toArray e)) = .ok (.slice A1 (n + 1) c1) w1 ∧ Pool w1 lo (up F key ⟨e, size, .slice A1 (n + 1) c1, n + 1, xs ++ news⟩) ∧ Below lo w0 w1 := by
  obtain ⟨i0, hi, hzz⟩ := Option.map_eq_some_iff.1 hinfo
  simp only [Prod.mk.injEq] at hzz
  obtain ⟨hz0, hz1, hz2⟩ := hzz
  have hlen : n + 1 ≤ 140737488355328 := Nat.le_trans (Nat.le_mul_of_pos_right _ hb0) hl
  have HO := HP.own key
  rw [hE] at HO
  obtain ⟨v1, w1, hr, hown, hg, _, hat⟩ := run_append_own_at (P := P) (W.alloc (.cells news.toArray e)) lo t ty e i0 z size bytes ht hi hz0 hz1 hz2 hz hs0 v n xs (HO.alloc _) ⟨W.heap.size, 0, none⟩ 1 1 news (by omega)
    (World.news_of_block (cs := news.toArray) (t := e) (fr := (0, 0)) (heap_alloc_new W _)) h1 (by simp only [maxLen]; omega) hl (by simp; omega)
  obtain ⟨A1, c1, rfl⟩ := own_slice hown
  have HA := HP.below ((Below.refl W.heap.size W).alloc (Nat.le_refl _) (.cells news.toArray e))
  refine ⟨A1, c1, w1, hr, HA.app key (by rw [hE]; exact hg) hown (by rw [hE]; exact hat), (HB.alloc hlo _).grown hg (by simp; omega) (own_lo HO)⟩
/-- append(v, y), y laid before in a block of its own. -/
theorem pool_app {w0 W : World} {lo : Nat} {F : κ → Ent} (hgd : o.guard = none) (s x : Operand) (t e : TypeId) (size : Nat) (z : Value) (bytes : Nat)
    (ho : o.op = .call { callee := .builtin .append, args := #[s, x], argTypes := #[t, t] })
    (ht : P.underlying t = some (.slice e)) (hinfo : (P.info? e).map (fun i => (i.zero, i.size, i.bytes)) = some (some z, size, bytes)) (hz : z.cells.size = size) (hs0 : 0 < size) (hb0 : 0 < bytes)
    (key : κ) {v : Value} {n : Nat} {xs : List Value} (hE : F key = ⟨e, size, v, n, xs⟩) (news : List Value) (hn : news.length = size) (h1 : ∀ u ∈ news, u.oneCell' = true) (hs : a.eval s = v) (hx : a.eval x = .slice (some ⟨W.heap.size, 0, none⟩) 1 1)
    (HP : Pool W lo F) (HB : Below lo w0 W) (hlo : lo ≤ W.heap.size) (hl : (n + 1) * bytes ≤ 140737488355328)
    (h : ∀ A1 c1 w1, Pool w1 lo (up F key ⟨e, size, .slice A1 (n + 1) c1, n + 1, xs ++ news⟩) → Below lo w0 w1 → wpList P ops Q rest (a.put o.dst (.slice A1 (n + 1) c1)) w1) :
    wpList P ops Q (o :: rest) a (W.alloc (.cells news.toArray e)) := by
  obtain ⟨A1, c1, w1, hr, h2, h3⟩ := run_pool_app (P := P) t o.type e size z bytes ht hinfo hz hs0 hb0 key hE news hn h1 HP HB hlo hl
  refine wpList_plain hgd fun K hK => ?_
  unfold Oper.wp execOp
  simp only [ho, resolve, invoke, builtin, Sem.run_bind, Sem.run_pure, Result.andThen_ok, List.map_toArray, List.map_cons, List.map_nil, hs, hx, hr]
  exact hK _ _ (h A1 c1 w1 h2 h3)
/-- .. as one step of a region that draws its order. -/
theorem step_pool_app {K : Act → World → Prop} {E : Prop} {w0 W : World} {lo : Nat} {F : κ → Ent} (hgd : o.guard = none) (s x : Operand) (t e : TypeId) (size : Nat) (z : Value) (bytes : Nat)
    (ho : o.op = .call { callee := .builtin .append, args := #[s, x], argTypes := #[t, t] })
    (ht : P.underlying t = some (.slice e)) (hinfo : (P.info? e).map (fun i => (i.zero, i.size, i.bytes)) = some (some z, size, bytes)) (hz : z.cells.size = size) (hs0 : 0 < size) (hb0 : 0 < bytes)
    (key : κ) {v : Value} {n : Nat} {xs : List Value} (hE : F key = ⟨e, size, v, n, xs⟩) (news : List Value) (hn : news.length = size) (h1 : ∀ u ∈ news, u.oneCell' = true) (hs : a.eval s = v) (hx : a.eval x = .slice (some ⟨W.heap.size, 0, none⟩) 1 1)
    (HP : Pool W lo F) (HB : Below lo w0 W) (hlo : lo ≤ W.heap.size) (hl : (n + 1) * bytes ≤ 140737488355328)
    (h : ∀ A1 c1 w1, Pool w1 lo (up F key ⟨e, size, .slice A1 (n + 1) c1, n + 1, xs ++ news⟩) → Below lo w0 w1 → K (a.put o.dst (.slice A1 (n + 1) c1)) w1) :
    if Region.wanted o (yielded ops a.tmps) = true then Oper.wp P o a (W.alloc (.cells news.toArray e)) K Q else E := by
  have hw : Region.wanted o (yielded ops a.tmps) = true := by simp [Region.wanted, hgd]
  rw [if_pos hw]
  obtain ⟨A1, c1, w1, hr, h2, h3⟩ := run_pool_app (P := P) t o.type e size z bytes ht hinfo hz hs0 hb0 key hE news hn h1 HP HB hlo hl
  unfold Oper.wp execOp
  simp only [ho, resolve, invoke, builtin, Sem.run_bind, Sem.run_pure, Result.andThen_ok, List.map_toArray, List.map_cons, List.map_nil, hs, hx, hr]
  exact h A1 c1 w1 h2 h3
end
end Go.Proofs.Ytmlemichkeomjaa.Base

/- mend.copied walked: a manifest of one's own. -/
set_option linter.unusedVariables false
set_option linter.unusedSimpArgs false
namespace Go.Proofs.Ytmlemichkeomjaa.MendW
open Go.RowKit Go.Proofs.Ytmlemichkeomjaa.Base
theorem heap_below {w w' : World} {b : Nat} {o : Obj} (hb : Below w.heap.size w w') (h : w.heap[b]? = some o) : w'.heap[b]? = some o := by
  refine (hb.block b ?_).trans h
  rcases Nat.lt_or_ge b w.heap.size with h' | h'
  · exact h'
  · simp [Array.getElem?_eq_none h'] at h
theorem own_sl {w : World} {base e n : Nat} {v : Value} {xs : List Value} (h : w.ownsRow base e 1 v n xs) : ∃ A c, v = .slice A n c := by
  rcases h.2 with ⟨rfl, h0⟩ | ⟨g, cap, cur, rfl, _⟩
  · exact ⟨none, 0, by rw [h0]⟩
  · exact ⟨_, _, rfl⟩
/-- A block of one struct in a pool. -/
theorem pool_obj {w : World} {lo : Nat} {F : Nat → Ent} (h : Pool w lo F) (a : Nat) {e size g : Nat} {xs : List Value} (hE : F a = ⟨e, size, .slice (some ⟨g, 0, none⟩) 1 1, 1, xs⟩) : w.heap[g]? = some (.cells xs.toArray e (0, 0)) := by
  have ho := h.own a
  rw [hE] at ho
  unfold Ent.own at ho
  dsimp only at ho
  rcases ho.2 with ⟨h1, _⟩ | ⟨g', cap, cur, h1, _, hg, _, _, hcs, ht⟩
  · cases h1
  · simp only [Value.slice.injEq, Option.some.injEq, Addr.mk.injEq, and_true, true_and] at h1
    obtain ⟨rfl, rfl⟩ := h1
    rw [hg, ← ht, List.take_of_length_le (by rw [Array.length_toList]; omega)]
theorem pool_setRow {w : World} {lo : Nat} {F : Nat → Ent} (h : Pool w lo F) (a : Nat) {e size g : Nat} {xs : List Value} (hE : F a = ⟨e, size, .slice (some ⟨g, 0, none⟩) 1 1, 1, xs⟩) (cs : Array Value) (hs : cs.size = size) : Pool (w.setRow g cs) lo (up F a ⟨e, size, .slice (some ⟨g, 0, none⟩) 1 1, 1, cs.toList⟩) := by
  have hg := pool_obj h a hE
  refine h.chg a (w' := w.setRow g cs) (row := some g) ⟨rfl, rfl, rfl, by simp, fun k _ hk => setRow_other w g k _ (fun e => hk (by rw [e]))⟩ (.inr (by rw [hE]; rfl)) ?_ (.inl (by rw [hE]))
  refine ⟨by show cs.toList.length = 1 * size; rw [Array.length_toList]; omega, .inr ⟨g, 1, cs, rfl, (h.lt a (g := g) (by rw [hE]; rfl)).1, setRow_heap w g _ cs e _ hg, Nat.le_refl _, by simp [maxLen], by show cs.size = 1 * size; omega, ?_⟩⟩
  exact List.take_of_length_le (by show cs.toList.length ≤ 1 * size; rw [Array.length_toList]; omega)
theorem pool_alloc {w : World} {lo : Nat} {F : Nat → Ent} (h : Pool w lo F) (a : Nat) (hlo : lo ≤ w.heap.size) (e size : Nat) (cs : Array Value) (hs : cs.size = size) : Pool (w.alloc (.cells cs e)) lo (up F a ⟨e, size, .slice (some ⟨w.heap.size, 0, none⟩) 1 1, 1, cs.toList⟩) :=
  h.new a ((Below.refl _ _).alloc (Nat.le_refl _) _) hlo (World.ownsRow_lit w cs 1 (Nat.le_refl _) (by simp [maxLen]) (by show cs.size = 1 * size; omega))
/-- The keys: 0 sizes, 1 sums, 2 the rows' slices, 3 loads, 4 what is lost, 5 moves, 6 the planner, 7, 8 variables, 2 i + 10 row i, 2 i + 11 what move i is from. -/
structure ManP (F : Nat → Ent) (v2 v3 v4 : Value) (x2 x3 : List Value) (hm : List (List Int)) (rv : Nat → Value) : Prop where
  sz : F 0 = ⟨3, 1, v2, x2.length, x2⟩
  sm : F 1 = ⟨72, 1, v3, x3.length, x3⟩
  top : F 2 = ⟨22, 1, v4, hm.length, (List.range hm.length).map rv⟩
  row : ∀ i (h : i < hm.length), F (2 * i + 10) = ⟨3, 1, rv i, hm[i].length, zv hm[i]⟩
/-- Under way: k rows are one's own. -/
structure ManK (F : Nat → Ent) (b r : Nat) (t a : Int) (v2 v3 v4 : Value) (n2 n3 n4 : Nat) (x2 x3 x4 : List Value) (hm : List (List Int)) (k : Nat) (rv : Nat → Value) : Prop where
  sz : F 0 = ⟨3, 1, v2, n2, x2⟩
  sm : F 1 = ⟨72, 1, v3, n3, x3⟩
  top : F 2 = ⟨22, 1, v4, n4, (List.range k).map rv ++ x4.drop k⟩
  box : F 7 = ⟨26, 5, .slice (some ⟨b, 0, none⟩) 1 1, 1, [.int .i64 t, .int .i64 a, v2, v3, v4]⟩
  res : F 8 = ⟨26, 5, .slice (some ⟨r, 0, none⟩) 1 1, 1, [.int .i64 0, .int .i64 0, .slice none 0 0, .slice none 0 0, .slice none 0 0]⟩
  row : ∀ i (h : i < hm.length), i < k → F (2 * i + 10) = ⟨3, 1, rv i, hm[i].length, zv hm[i]⟩
theorem copied_leaf {w w3 : World} {F : Nat → Ent} {r : Nat} {t a : Int} {u2 u3 u4 : Value} {A5 B2 B3 : Option Addr} {n2 n3 n4 c2 c3 c5 : Nat} {x2 x3 x4 : List Value} {hm : List (List Int)} (HP : Pool w3 w.heap.size F) (HB : Below w.heap.size w w3)
    (h0 : F 0 = ⟨3, 1, .slice B2 n2 c2, n2, x2⟩) (h1 : F 1 = ⟨72, 1, .slice B3 n3 c3, n3, x3⟩) (h2 : F 2 = ⟨22, 1, .slice A5 n4 c5, n4, x4⟩)
    (h7 : F 7 = ⟨26, 5, .slice (some ⟨w.heap.size, 0, none⟩) 1 1, 1, [.int .i64 t, .int .i64 a, u2, u3, u4]⟩)
    (h8 : F 8 = ⟨26, 5, .slice (some ⟨r, 0, none⟩) 1 1, 1, [.int .i64 0, .int .i64 0, .slice none 0 0, .slice none 0 0, .slice none 0 0]⟩) :
    Below w.heap.size w (((w3.setCell ⟨w.heap.size, 2, none⟩ (.slice B2 n2 c2)).setCell ⟨w.heap.size, 3, none⟩ (.slice B3 n3 c3)).setCell ⟨w.heap.size, 4, none⟩ (.slice A5 n4 c5)) ∧
    ∃ F v2 v3 A6 c6, Pool (((w3.setCell ⟨w.heap.size, 2, none⟩ (.slice B2 n2 c2)).setCell ⟨w.heap.size, 3, none⟩ (.slice B3 n3 c3)).setCell ⟨w.heap.size, 4, none⟩ (.slice A5 n4 c5)) w.heap.size F ∧ ManK F w.heap.size r t a v2 v3 (.slice A6 n4 c6) n2 n3 n4 x2 x3 x4 hm 0 (fun _ => .slice none 0 0) := by
  have s1 := HP.store 7 h7 rfl 2 (.slice B2 n2 c2)
  have s2 := s1.store 7 (up_self _ _ _) rfl 3 (.slice B3 n3 c3)
  have s3 := s2.store 7 (up_self _ _ _) rfl 4 (.slice A5 n4 c5)
  refine ⟨((HB.setCell (p := ⟨w.heap.size, 2, none⟩) (Nat.le_refl _) _).setCell (p := ⟨w.heap.size, 3, none⟩) (Nat.le_refl _) _).setCell (p := ⟨w.heap.size, 4, none⟩) (Nat.le_refl _) _, _, .slice B2 n2 c2, .slice B3 n3 c3, A5, c5, s3, ⟨?_, ?_, ?_, ?_, ?_, fun i _ h => by omega⟩⟩
  · exact h0
  · exact h1
  · simpa [up] using h2
  · rw [up_self]; rfl
  · exact h8
theorem map_snoc {x4 : List Value} {k : Nat} (hk : k < x4.length) (rv : Nat → Value) (u : Value) : ((List.range k).map rv ++ x4.drop k).set k u = (List.range (k + 1)).map (fun i => if i = k then u else rv i) ++ x4.drop (k + 1) := by
  rw [List.drop_eq_getElem_cons hk, List.set_append_right _ _ (by simp), List.range_succ, List.map_append]
  simp only [List.length_map, List.length_range, Nat.sub_self, List.set_cons_zero, List.map_cons, List.map_nil, if_true, List.append_assoc, List.singleton_append]
  congr 1
  refine List.map_congr_left fun i hi => ?_
  rw [if_neg (by have := List.mem_range.1 hi; omega)]
theorem copied_step {w w3 : World} {F : Nat → Ent} {r g k : Nat} {t a : Int} {v2 v3 : Value} {B : Option Addr} {n2 n3 n4 c5 cq : Nat} {x2 x3 x4 : List Value} {hm : List (List Int)} {rv : Nat → Value}
    (HP : Pool w3 w.heap.size (up F (2 * k + 10) ⟨3, 1, .slice B hm[k]!.length cq, hm[k]!.length, zv hm[k]!⟩)) (HK : ManK F w.heap.size r t a v2 v3 (.slice (some ⟨g, 0, none⟩) n4 c5) n2 n3 n4 x2 x3 x4 hm k rv) (hk : k < x4.length) (hl : hm.length = x4.length) :
    ∃ F rv, Pool (w3.setCell ⟨g, k, none⟩ (.slice B hm[k]!.length cq)) w.heap.size F ∧ ManK F w.heap.size r t a v2 v3 (.slice (some ⟨g, 0, none⟩) n4 c5) n2 n3 n4 x2 x3 x4 hm (k + 1) rv := by
  have s1 := HP.store 2 ((up_ne _ _ (by omega)).trans HK.top) rfl k (.slice B hm[k]!.length cq)
  refine ⟨_, fun i => if i = k then .slice B hm[k]!.length cq else rv i, s1, ⟨?_, ?_, ?_, ?_, ?_, fun i hi hik => ?_⟩⟩
  · rw [up_ne _ _ (by omega), up_ne _ _ (by omega)]; exact HK.sz
  · rw [up_ne _ _ (by omega), up_ne _ _ (by omega)]; exact HK.sm
  · rw [up_self, map_snoc hk]
  · rw [up_ne _ _ (by omega), up_ne _ _ (by omega)]; exact HK.box
  · rw [up_ne _ _ (by omega), up_ne _ _ (by omega)]; exact HK.res
  · rw [up_ne _ _ (by omega)]
    by_cases e : i = k
    · subst e
      rw [up_self, if_pos rfl]
      simp [hi]
    · rw [up_ne _ _ (by omega), if_neg e]
      exact HK.row i hi (by omega)
theorem results_cell_one {P : Program} {fn : Func} {p : Tmp} {ty : TypeId} (h : fn.results = #[.cell p ty]) (tmps : Array Value) (w : World) (g : Nat) (t : TypeId) (cs : Array Value) (fr : Nat × Nat) (d : TypeDesc)
    (hp : tmps.getD p undef = .pointer (some ⟨g, 0, none⟩)) (hg : w.heap[g]? = some (.cells cs t fr))
    (hu : P.underlying ty = some d) (hd : (match d with | .struct _ | .array _ _ => true | _ => false) = true) (hi : (P.info? ty).map (·.size) = some cs.size) :
    (results fn tmps).run P w = .ok (.agg cs) w := by
  have hp' : tmps[p]?.getD undef = .pointer (some ⟨g, 0, none⟩) := by simpa using hp
  simp [results, h, hp', asAddr, run_loadVar_row w g t ty cs fr d hg hu hd hi]
/-- The slices of rows that came in, as values. -/
structure Slices (w : World) (A : Option Addr) (hm : List (List Int)) (xs : List Value) : Prop where
  cells_ : xs = [] ∨ ∃ b off, A = some ⟨b, off, none⟩ ∧ ∀ j u, xs[j]? = some u → w.cell? ⟨b, off + j, none⟩ = some u
  row : ∀ k (h : k < hm.length), ∃ B c, xs[k]? = some (.slice B hm[k].length c) ∧ Ints w B hm[k]
theorem irows_values {w : World} {A : Option Addr} {hm : List (List Int)} {n : Nat} (hH : IRows w A hm) (hl : hm.length = n) : ∃ xs : List Value, xs.length = n ∧ Slices w A hm xs ∧ ∀ u ∈ xs, u.oneCell' = true := by
  by_cases h0 : hm.length = 0
  · have : hm = [] := List.eq_nil_of_length_eq_zero h0
    subst this
    exact ⟨[], by simpa using hl, ⟨.inl rfl, fun k h => by simp at h⟩, fun u hu => by cases hu⟩
  obtain ⟨b, off, rfl, hc⟩ := hH.block h0
  have hp : ∀ i, ∃ p : Option Addr × Nat, ∀ h : i < hm.length, w.cell? ⟨b, off + i, none⟩ = some (.slice p.1 hm[i].length p.2) ∧ Ints w p.1 hm[i] := fun i => by
    by_cases hi : i < hm.length
    · obtain ⟨B, c, h1, _, h3⟩ := hc i hi; exact ⟨(B, c), fun _ => ⟨h1, h3⟩⟩
    · exact ⟨(none, 0), fun h => absurd h hi⟩
  obtain ⟨f, hf⟩ := Classical.axiomOfChoice hp
  have hg : ∀ j u, ((List.range hm.length).map fun i => Value.slice (f i).1 (hm.getD i []).length (f i).2)[j]? = some u → ∃ h : j < hm.length, u = .slice (f j).1 hm[j].length (f j).2 := fun j u hu => by
    rw [List.getElem?_map] at hu
    by_cases hj : j < hm.length
    · rw [List.getElem?_range hj] at hu
      simp only [Option.map_some, Option.some.injEq] at hu
      exact ⟨hj, by rw [← hu, List.getD_eq_getElem?_getD, List.getElem?_eq_getElem hj]; rfl⟩
    · rw [List.getElem?_eq_none (by simp; omega)] at hu; cases hu
  refine ⟨(List.range hm.length).map fun i => Value.slice (f i).1 (hm.getD i []).length (f i).2, by simp [hl], ⟨.inr ⟨b, off, rfl, fun j u hu => ?_⟩, fun k hk => ⟨(f k).1, (f k).2, ?_, (hf k hk).2⟩⟩, fun u hu => ?_⟩
  · obtain ⟨hj, rfl⟩ := hg j u hu
    exact (hf j hj).1
  · rw [List.getElem?_map, List.getElem?_range hk, Option.map_some, List.getD_eq_getElem?_getD, List.getElem?_eq_getElem hk]; rfl
  · obtain ⟨i, _, rfl⟩ := List.mem_map.1 hu
    rfl
theorem own_form {w : World} {lo : Nat} {E : Ent} (h : E.own w lo) (h0 : 0 < E.n) : ∃ g cap, E.v = .slice (some ⟨g, 0, none⟩) E.n cap := by
  rcases h.2 with ⟨_, h1⟩ | ⟨g, cap, cur, h1, _⟩
  · omega
  · exact ⟨g, cap, h1⟩
theorem add_off (b off j : Nat) : (⟨b, off, none⟩ : Addr).add j = ⟨b, off + j, none⟩ := by unfold Addr.add; split <;> simp_all
theorem Slices.cells {w W : World} {A : Option Addr} {hm : List (List Int)} {xs : List Value} (h : Slices w A hm xs) (hb : Below w.heap.size w W) : xs = [] ∨ ∃ b off, A = some ⟨b, off, none⟩ ∧ ∀ j u, xs[j]? = some u → W.cell? ((⟨b, off, none⟩ : Addr).add j) = some u := by
  rcases h.cells_ with h1 | ⟨b, off, e, hc⟩
  · exact .inl h1
  · exact .inr ⟨b, off, e, fun j u hu => by rw [add_off]; exact cell_below hb (hc j u hu)⟩
theorem Slices.clone {w : World} {A : Option Addr} {hm : List (List Int)} {xs : List Value} (h : Slices w A hm xs) (k : Nat) (hk : k < hm.length) (hr : hm[k].length ≤ 1000000) : ∃ B c, xs[k]? = some (.slice B hm[k].length c) ∧
    ∀ W, Below w.heap.size w W → Calls Try.prog 117 #[.slice B hm[k].length c] W fun e w' => ∃ v, e = .returned v ∧ w'.ownsRow W.heap.size 3 1 v hm[k].length (zv hm[k]) ∧ Below W.heap.size W w' := by
  obtain ⟨B, c, h1, h2⟩ := h.row k hk
  refine ⟨B, c, h1, fun W hb => clone_int B _ c (zv hm[k]) W ?_ (fun u hu => ?_) (zv_length _) hr⟩
  · rcases h2.at_ with h3 | ⟨b, off, e, hc⟩
    · exact .inl (by rw [h3]; rfl)
    · refine .inr ⟨b, off, e, fun j u hu => ?_⟩
      obtain ⟨hj, rfl⟩ := List.getElem?_eq_some_iff.1 hu
      rw [add_off]
      have hj' : j < hm[k].length := by rw [zv_length] at hj; exact hj
      rw [cell_below hb (hc j hj')]
      simp [zv]
  · obtain ⟨x, _, rfl⟩ := List.mem_map.1 hu
    rfl
/-- What copied answers. -/
def CopiedPost (w : World) (t a : Int) (x2 x3 : List Value) (hm : List (List Int)) (e : Ending) (w' : World) : Prop := ∃ F v2 v3 v4 rv, e = .returned (.agg #[.int .i64 t, .int .i64 a, v2, v3, v4]) ∧ Pool w' w.heap.size F ∧ ManP F v2 v3 v4 x2 x3 hm rv ∧ Below w.heap.size w w'
end Go.Proofs.Ytmlemichkeomjaa.MendW

