/- A slice of the call's own that is appended to; made a string. -/
import Derived.Test.YtpologlcfohjeaaBase
import Derived.Maps.AppendAt
import Derived.Deep.OwnRows
import Derived.Deep.AppendLies
set_option linter.unusedVariables false
set_option linter.unusedSimpArgs false
namespace Go.Proofs.Ytpologlcfohjeaa.Base
open Go.RowKit

/-- Bytes as values. -/
def bv (l : List UInt8) : List Value := l.map fun b => Value.int .u8 ((b.toNat : Nat) : Int)
theorem bv_length (l : List UInt8) : (bv l).length = l.length := by simp [bv]
theorem bv_append (l m : List UInt8) : bv (l ++ m) = bv l ++ bv m := by simp [bv]
theorem own_none (w : World) (base e size : Nat) : w.ownsRow base e size (.slice none 0 0) 0 [] := ⟨by simp, .inl ⟨rfl, rfl⟩⟩
theorem own_lo {w : World} {base e size n : Nat} {v : Value} {xs : List Value} (h : w.ownsRow base e size v n xs) (k : Nat) (hk : v.ownBlock = some k) : base ≤ k := by
  rcases h.2 with ⟨rfl, _⟩ | ⟨g, cap, cur, rfl, hb, _⟩
  · simp [Value.ownBlock] at hk
  · have : g = k := by simpa [Value.ownBlock] using hk
    omega

section
variable {P : Program} {ops : Array Oper} {rest : List Oper} {o : Oper} {a : Act} {Q : Exit → Act → World → Prop}
/-- append(v, y): the goal's world has the variadic's box. -/
theorem app_one {w0 W : World} (base : Nat) (hgd : o.guard = none) (s x : Operand) (t e : TypeId) (z : Value) (bytes : Nat)
    (ho : o.op = .call { callee := .builtin .append, args := #[s, x], argTypes := #[t, t] })
    (ht : P.underlying t = some (.slice e)) (hinfo : (P.info? e).map (fun i => (i.zero, i.size, i.bytes)) = some (some z, 1, bytes)) (hz : z.cells.size = 1) (hb0 : 0 < bytes)
    (v : Value) (xs : List Value) (y : Value) (n : Nat) (hn : xs.length = n) (hs : a.eval s = v) (hx : a.eval x = .slice (some ⟨W.heap.size, 0, none⟩) 1 1) (h1 : y.oneCell' = true)
    (HO : W.ownsRow base e 1 v n xs) (HB : Below base w0 W) (hbase : base ≤ W.heap.size) (hl : (n + 1) * bytes ≤ 140737488355328)
    (h : ∀ v1 w1, w1.ownsRow base e 1 v1 (n + 1) (xs ++ [y]) → Below base w0 w1 → W.grownBy w1 v.ownBlock → wpList P ops Q rest (a.put o.dst v1) w1) :
    wpList P ops Q (o :: rest) a (W.alloc (.cells #[y] e)) := by
  obtain ⟨i0, hi, hzz⟩ := Option.map_eq_some_iff.1 hinfo
  simp only [Prod.mk.injEq] at hzz
  obtain ⟨hz0, hz1, hz2⟩ := hzz
  have hlen : n + 1 ≤ 140737488355328 := Nat.le_trans (Nat.le_mul_of_pos_right _ hb0) hl
  refine wpList_append_own_at (W.alloc (.cells #[y] e)) hgd s x t ho base e i0 z 1 bytes ht hi hz0 hz1 hz2 hz (by omega) v n xs hs (HO.alloc _) ⟨W.heap.size, 0, none⟩ 1 1 [y] hx rfl
    (World.news_of_block (cs := #[y]) (t := e) (fr := (0, 0)) (heap_alloc_new W _)) (by simpa using h1) (by simp only [maxLen]; omega) hl (by simp; omega) ?_
  intro v1 w1 hown hg _ _
  exact h v1 w1 hown ((HB.alloc hbase _).grown hg (by simp; omega) (own_lo HO)) (World.grownBy.trans (World.grownBy_alloc W _ _) hg)
/-- .. as one step of a region that draws its order. -/
theorem step_app_one {K : Act → World → Prop} {E : Prop} {w0 W : World} (base : Nat) (hgd : o.guard = none) (s x : Operand) (t e : TypeId) (z : Value) (bytes : Nat)
    (ho : o.op = .call { callee := .builtin .append, args := #[s, x], argTypes := #[t, t] })
    (ht : P.underlying t = some (.slice e)) (hinfo : (P.info? e).map (fun i => (i.zero, i.size, i.bytes)) = some (some z, 1, bytes)) (hz : z.cells.size = 1) (hb0 : 0 < bytes)
    (v : Value) (xs : List Value) (y : Value) (n : Nat) (hn : xs.length = n) (hs : a.eval s = v) (hx : a.eval x = .slice (some ⟨W.heap.size, 0, none⟩) 1 1) (h1 : y.oneCell' = true)
    (HO : W.ownsRow base e 1 v n xs) (HB : Below base w0 W) (hbase : base ≤ W.heap.size) (hl : (n + 1) * bytes ≤ 140737488355328)
    (h : ∀ v1 w1, w1.ownsRow base e 1 v1 (n + 1) (xs ++ [y]) → Below base w0 w1 → W.grownBy w1 v.ownBlock → K (a.put o.dst v1) w1) :
    if Region.wanted o (yielded ops a.tmps) = true then Oper.wp P o a (W.alloc (.cells #[y] e)) K Q else E := by
  have hw : Region.wanted o (yielded ops a.tmps) = true := by simp [Region.wanted, hgd]
  rw [if_pos hw]
  obtain ⟨i0, hi, hzz⟩ := Option.map_eq_some_iff.1 hinfo
  simp only [Prod.mk.injEq] at hzz
  obtain ⟨hz0, hz1, hz2⟩ := hzz
  have hlen : n + 1 ≤ 140737488355328 := Nat.le_trans (Nat.le_mul_of_pos_right _ hb0) hl
  obtain ⟨v1, w1, hr, hown, hg, _⟩ := run_append_own_at (P := P) (W.alloc (.cells #[y] e)) base t o.type e i0 z 1 bytes ht hi hz0 hz1 hz2 hz (by omega) v n xs (HO.alloc _) ⟨W.heap.size, 0, none⟩ 1 1 [y] rfl
    (World.news_of_block (cs := #[y]) (t := e) (fr := (0, 0)) (heap_alloc_new W _)) (by simpa using h1) (by simp only [maxLen]; omega) hl (by simp; omega)
  unfold Oper.wp execOp
  simp only [ho, resolve, invoke, builtin, Sem.run_bind, Sem.run_pure, Result.andThen_ok, List.map_toArray, List.map_cons, List.map_nil, hs, hx, hr]
  exact h v1 w1 hown ((HB.alloc hbase _).grown hg (by simp; omega) (own_lo HO)) (World.grownBy.trans (World.grownBy_alloc W _ _) hg)
end

/-- A conversion in a walk of a region that only reads. -/
theorem quiet_conv {P : Program} {a : Act} {C : World → Prop} {o : Oper} {K : Act → Prop} (src dst : TypeId) (x : Operand) (h : o.op = .convert src dst x) (v s : Value) (hx : a.eval x = v)
    (hr : ∀ w, C w → (convert src dst v).run P w = .ok s w) (hk : K (a.put o.dst s)) : o.quiet P a C K :=
  ⟨_, fun w hw => by
    unfold Oper.quietAt execOp
    simp only [h, hx, Sem.run_bind, hr w hw, Result.andThen_ok, Sem.run_pure]
    exact ⟨rfl, rfl⟩, hk⟩
theorem own_regrown {w wr : World} {B : Nat} {e : TypeId} {size : Nat} {v : Value} {n : Nat} {xs : List Value} (h : wr.ownsRow B e size v n xs) (hp : ∃ p : Regrown, w = Go.Sort.grow (redrawn wr p.d) p.os) : w.ownsRow B e size v n xs := by
  obtain ⟨p, rfl⟩ := hp
  obtain ⟨hl, h0 | ⟨g, cap, cur, hv, hb, hh, r⟩⟩ := h
  · exact ⟨hl, .inl h0⟩
  · have hg : g < wr.heap.size := by
      rcases Nat.lt_or_ge g wr.heap.size with h1 | h1
      · exact h1
      · rw [Array.getElem?_eq_none h1] at hh
        cases hh
    exact ⟨hl, .inr ⟨g, cap, cur, hv, hb, by rw [← hh]; exact Array.getElem?_append_left hg, r⟩⟩

/-- What is owned is read. -/
theorem own_bytes {w : World} {base e n : Nat} {v : Value} {l : List UInt8} (h : w.ownsRow base e 1 v n (bv l)) (hle : n ≤ 140737488355328) : ∃ A c, v = .slice A n c ∧ l.length = n ∧ Bytes w A (l.map UInt8.toNat) := by
  have hl : l.length = n := by have := h.1; rw [bv_length] at this; omega
  have hle2 : ∀ x, x ∈ l.map UInt8.toNat → x ≤ 255 := fun x hx => by
    obtain ⟨b, _, rfl⟩ := List.mem_map.1 hx
    have := b.toNat_lt
    omega
  rcases h.2 with ⟨rfl, h0⟩ | ⟨g, cap, cur, rfl, _⟩
  · have : l = [] := List.eq_nil_of_length_eq_zero (by omega)
    subst this
    exact ⟨none, 0, by rw [h0], by simp; omega, Bytes.nil _ _⟩
  · refine ⟨_, cap, rfl, hl, hle2, by simp; omega, Or.inr ⟨g, 0, rfl, fun j hj => ?_⟩⟩
    have hj' : j < l.length := by simpa using hj
    have hc := h.cells (g := g) rfl j (.int .u8 ((l[j].toNat : Nat) : Int)) (by simp [bv, hj'])
    have ha : (⟨g, 0, none⟩ : Addr).add j = ⟨g, 0 + j, none⟩ := by unfold Addr.add; split <;> simp_all
    rw [ha] at hc
    rw [hc]
    simp [List.getD_eq_getElem?_getD, hj']
/-- .. and made a string. -/
theorem conv_own {P : Program} {src dst e e' : TypeId} (hs : P.underlying src = some (.slice e)) (he : P.underlying e = some (.int .u8)) (hd : P.underlying dst = some .string) {w : World} {base n : Nat} {v : Value} {l : List UInt8}
    (h : w.ownsRow base e' 1 v n (bv l)) (hle : n ≤ 140737488355328) : (convert src dst v).run P w = .ok (.string (str l)) w := by
  obtain ⟨A, c, rfl, hl, hB⟩ := own_bytes h hle
  rw [conv_str hs he hd w A _ n c hB (by simpa using hl), List.map_map]
  have : (UInt8.ofNat ∘ UInt8.toNat) = id := by funext b; simp
  rw [this, List.map_id]
end Go.Proofs.Ytpologlcfohjeaa.Base
