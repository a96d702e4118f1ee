/- append to a row of a pool. -/
import Derived.Test.YtpologlcfohjeaaPool
set_option linter.unusedVariables false
set_option linter.unusedSimpArgs false
namespace Go.Proofs.Ytpologlcfohjeaa.Base
open Go.RowKit
theorem own_slice {w : World} {base e size n : Nat} {v : Value} {xs : List Value} (h : w.ownsRow base e size v n xs) : ∃ A c, v = .slice A n c := by
  rcases h.2 with ⟨rfl, h0⟩ | ⟨g, cap, cur, rfl, _⟩
  · exact ⟨none, 0, by rw [h0]⟩
  · exact ⟨_, _, rfl⟩
section
variable {P : Program} {ops : Array Oper} {rest : List Oper} {o : Oper} {a : Act} {Q : Exit → Act → World → Prop} {κ : Type} [DecidableEq κ]
/-- The equation of the run. -/
theorem run_pool_app {w0 W : World} {lo : Nat} {F : κ → Ent} (t ty e : TypeId) (size : Nat) (z : Value) (bytes : Nat)
    (ht : P.underlying t = some (.slice e)) (hinfo : (P.info? e).map (fun i => (i.zero, i.size, i.bytes)) = some (some z, size, bytes)) (hz : z.cells.size = size) (hs0 : 0 < size) (hb0 : 0 < bytes)
    (key : κ) {v : Value} {n : Nat} {xs : List Value} (hE : F key = ⟨e, size, v, n, xs⟩) (news : List Value) (hn : news.length = size) (h1 : ∀ u ∈ news, u.oneCell' = true)
    (HP : Pool W lo F) (HB : Below lo w0 W) (hlo : lo ≤ W.heap.size) (hl : (n + 1) * bytes ≤ 140737488355328) :
    ∃ A1 c1 w1, (Builtin.append_ #[t, t] ty #[v, .slice (some ⟨W.heap.size, 0, none⟩) 1 1]).run P (W.alloc (.cells news.toArray e)) = .ok (.slice A1 (n + 1) c1) w1 ∧ Pool w1 lo (up F key ⟨e, size, .slice A1 (n + 1) c1, n + 1, xs ++ news⟩) ∧ Below lo w0 w1 := by
  obtain ⟨i0, hi, hzz⟩ := Option.map_eq_some_iff.1 hinfo
  simp only [Prod.mk.injEq] at hzz
  obtain ⟨hz0, hz1, hz2⟩ := hzz
  have hlen : n + 1 ≤ 140737488355328 := Nat.le_trans (Nat.le_mul_of_pos_right _ hb0) hl
  have HO := HP.own key
  rw [hE] at HO
  obtain ⟨v1, w1, hr, hown, hg, _, hat⟩ := run_append_own_at (P := P) (W.alloc (.cells news.toArray e)) lo t ty e i0 z size bytes ht hi hz0 hz1 hz2 hz hs0 v n xs (HO.alloc _) ⟨W.heap.size, 0, none⟩ 1 1 news (by omega)
    (World.news_of_block (cs := news.toArray) (t := e) (fr := (0, 0)) (heap_alloc_new W _)) h1 (by simp only [maxLen]; omega) hl (by simp; omega)
  obtain ⟨A1, c1, rfl⟩ := own_slice hown
  have HA := HP.below ((Below.refl W.heap.size W).alloc (Nat.le_refl _) (.cells news.toArray e))
  refine ⟨A1, c1, w1, hr, HA.app key (by rw [hE]; exact hg) hown (by rw [hE]; exact hat), (HB.alloc hlo _).grown hg (by simp; omega) (own_lo HO)⟩
/-- append(v, y), y laid before in a block of its own. -/
theorem pool_app {w0 W : World} {lo : Nat} {F : κ → Ent} (hgd : o.guard = none) (s x : Operand) (t e : TypeId) (size : Nat) (z : Value) (bytes : Nat)
    (ho : o.op = .call { callee := .builtin .append, args := #[s, x], argTypes := #[t, t] })
    (ht : P.underlying t = some (.slice e)) (hinfo : (P.info? e).map (fun i => (i.zero, i.size, i.bytes)) = some (some z, size, bytes)) (hz : z.cells.size = size) (hs0 : 0 < size) (hb0 : 0 < bytes)
    (key : κ) {v : Value} {n : Nat} {xs : List Value} (hE : F key = ⟨e, size, v, n, xs⟩) (news : List Value) (hn : news.length = size) (h1 : ∀ u ∈ news, u.oneCell' = true) (hs : a.eval s = v) (hx : a.eval x = .slice (some ⟨W.heap.size, 0, none⟩) 1 1)
    (HP : Pool W lo F) (HB : Below lo w0 W) (hlo : lo ≤ W.heap.size) (hl : (n + 1) * bytes ≤ 140737488355328)
    (h : ∀ A1 c1 w1, Pool w1 lo (up F key ⟨e, size, .slice A1 (n + 1) c1, n + 1, xs ++ news⟩) → Below lo w0 w1 → wpList P ops Q rest (a.put o.dst (.slice A1 (n + 1) c1)) w1) :
    wpList P ops Q (o :: rest) a (W.alloc (.cells news.toArray e)) := by
  obtain ⟨A1, c1, w1, hr, h2, h3⟩ := run_pool_app (P := P) t o.type e size z bytes ht hinfo hz hs0 hb0 key hE news hn h1 HP HB hlo hl
  refine wpList_plain hgd fun K hK => ?_
  unfold Oper.wp execOp
  simp only [ho, resolve, invoke, builtin, Sem.run_bind, Sem.run_pure, Result.andThen_ok, List.map_toArray, List.map_cons, List.map_nil, hs, hx, hr]
  exact hK _ _ (h A1 c1 w1 h2 h3)
/-- .. as one step of a region that draws its order. -/
theorem step_pool_app {K : Act → World → Prop} {E : Prop} {w0 W : World} {lo : Nat} {F : κ → Ent} (hgd : o.guard = none) (s x : Operand) (t e : TypeId) (size : Nat) (z : Value) (bytes : Nat)
    (ho : o.op = .call { callee := .builtin .append, args := #[s, x], argTypes := #[t, t] })
    (ht : P.underlying t = some (.slice e)) (hinfo : (P.info? e).map (fun i => (i.zero, i.size, i.bytes)) = some (some z, size, bytes)) (hz : z.cells.size = size) (hs0 : 0 < size) (hb0 : 0 < bytes)
    (key : κ) {v : Value} {n : Nat} {xs : List Value} (hE : F key = ⟨e, size, v, n, xs⟩) (news : List Value) (hn : news.length = size) (h1 : ∀ u ∈ news, u.oneCell' = true) (hs : a.eval s = v) (hx : a.eval x = .slice (some ⟨W.heap.size, 0, none⟩) 1 1)
    (HP : Pool W lo F) (HB : Below lo w0 W) (hlo : lo ≤ W.heap.size) (hl : (n + 1) * bytes ≤ 140737488355328)
    (h : ∀ A1 c1 w1, Pool w1 lo (up F key ⟨e, size, .slice A1 (n + 1) c1, n + 1, xs ++ news⟩) → Below lo w0 w1 → K (a.put o.dst (.slice A1 (n + 1) c1)) w1) :
    if Region.wanted o (yielded ops a.tmps) = true then Oper.wp P o a (W.alloc (.cells news.toArray e)) K Q else E := by
  have hw : Region.wanted o (yielded ops a.tmps) = true := by simp [Region.wanted, hgd]
  rw [if_pos hw]
  obtain ⟨A1, c1, w1, hr, h2, h3⟩ := run_pool_app (P := P) t o.type e size z bytes ht hinfo hz hs0 hb0 key hE news hn h1 HP HB hlo hl
  unfold Oper.wp execOp
  simp only [ho, resolve, invoke, builtin, Sem.run_bind, Sem.run_pure, Result.andThen_ok, List.map_toArray, List.map_cons, List.map_nil, hs, hx, hr]
  exact h A1 c1 w1 h2 h3
end
end Go.Proofs.Ytpologlcfohjeaa.Base
