/- What Make answers, as it is read. -/
import Derived.Test.YtpologlcfohjeaaMendN
set_option linter.unusedVariables false
set_option linter.unusedSimpArgs false
namespace Go.Proofs.Ytpologlcfohjeaa.MendW
open Go.RowKit Go.Proofs.Ytpologlcfohjeaa.Base
/-- Moves that are read. -/
structure Moves (w : World) (A : Option Addr) (ms : List Mv) : Prop where
  at_ : ms = [] ∨ ∃ b off, A = some ⟨b, off, none⟩ ∧ ∀ j (h : j < ms.length), w.cell? ⟨b, off + j * 4, none⟩ = some (.int .i64 ((ms[j].part : Nat) : Int)) ∧ w.cell? ⟨b, off + j * 4 + 1, none⟩ = some (.int .i64 ((ms[j].at_ : Nat) : Int)) ∧ w.cell? ⟨b, off + j * 4 + 2, none⟩ = some (.int .i64 ((ms[j].dst : Nat) : Int)) ∧
    ∃ Af cf, w.cell? ⟨b, off + j * 4 + 3, none⟩ = some (.slice Af ms[j].fl.length cf) ∧ Ints w Af ms[j].fl
theorem Moves.below {w w' : World} {A : Option Addr} {ms : List Mv} (h : Moves w A ms) (hb : Below w.heap.size w w') : Moves w' A ms := by
  refine ⟨?_⟩
  rcases h.at_ with h1 | ⟨b, off, e, hc⟩
  · exact .inl h1
  · refine .inr ⟨b, off, e, fun j hj => ?_⟩
    obtain ⟨h1, h2, h3, Af, cf, h4, h5⟩ := hc j hj
    exact ⟨cell_below hb h1, cell_below hb h2, cell_below hb h3, Af, cf, cell_below hb h4, h5.below hb⟩
theorem Moves.block {w : World} {A : Option Addr} {ms : List Mv} (h : Moves w A ms) (h0 : ms.length ≠ 0) : ∃ b off, A = some ⟨b, off, none⟩ ∧ ∀ j (h : j < ms.length), w.cell? ⟨b, off + j * 4, none⟩ = some (.int .i64 ((ms[j].part : Nat) : Int)) ∧ w.cell? ⟨b, off + j * 4 + 1, none⟩ = some (.int .i64 ((ms[j].at_ : Nat) : Int)) ∧ w.cell? ⟨b, off + j * 4 + 2, none⟩ = some (.int .i64 ((ms[j].dst : Nat) : Int)) ∧
    ∃ Af cf, w.cell? ⟨b, off + j * 4 + 3, none⟩ = some (.slice Af ms[j].fl.length cf) ∧ Ints w Af ms[j].fl := by
  rcases h.at_ with h1 | h1
  · exact absurd (by rw [h1]; rfl) h0
  · exact h1
def MakePost (w : World) (t a : Int) (sz sm : List Int) (live : List Bool) (hv : List (List Bool)) (hm : List (List Int)) (k : Nat) (e : Ending) (w' : World) : Prop :=
  ∃ Am cm Ax cx A2 c2 A3 c3 A4 c4 ms ls X, e = .returned (.tuple #[.agg #[.slice Am ms.length cm, .slice Ax ls.length cx, .int .i64 t, .int .i64 a, .slice A2 sz.length c2, .slice A3 sm.length c3, .slice A4 X.length c4], .int .i64 0]) ∧
    Moves w' Am ms ∧ Ints w' Ax ls ∧ Ints w' A2 sz ∧ U32s w' A3 sm ∧ IRows w' A4 X ∧ PlanRel live hv hm k hm.length ms ls X ∧ Below w.heap.size w w'
theorem own_u32s {w : World} {base e n : Nat} {v : Value} {l : List Int} (h : w.ownsRow base e 1 v n (uv l)) (hle : ∀ x, x ∈ l → 0 ≤ x ∧ x ≤ 4294967295) : ∃ A c, v = .slice A n c ∧ l.length = n ∧ U32s w A l := by
  have hl : l.length = n := by have := h.1; rw [uv_length] at this; omega
  rcases h.2 with ⟨rfl, h0⟩ | ⟨g, cap, cur, rfl, hb, hg, hc, _⟩
  · subst h0
    have : l = [] := List.eq_nil_of_length_eq_zero hl
    subst this
    exact ⟨none, 0, rfl, rfl, ⟨hle, .inl rfl⟩⟩
  · refine ⟨_, cap, rfl, hl, hle, .inr ⟨g, 0, rfl, fun j hj => ?_⟩⟩
    have hcl := h.cells (g := g) rfl j (.int .u32 l[j]) (by simp [uv, hj])
    rw [add_off] at hcl
    exact hcl
theorem ap_mem {row : List Int} {P : List (Nat × Nat)} : ∀ x, x ∈ ap row P → x ∈ row ∨ ∃ y, y ∈ P ∧ x = ((y.2 : Nat) : Int) := by
  unfold ap
  induction P generalizing row with
  | nil => intro x hx; exact .inl hx
  | cons y P ih =>
    intro x hx
    rw [List.foldl_cons] at hx
    rcases ih x hx with h | ⟨z, hz, e⟩
    · rcases List.mem_or_eq_of_mem_set h with h | h
      · exact .inl h
      · exact .inr ⟨y, List.mem_cons_self, h⟩
    · exact .inr ⟨z, List.mem_cons_of_mem _ hz, e⟩
section
variable {live : List Bool} {hv : List (List Bool)} {hm : List (List Int)} {k i : Nat} {ms : List Mv} {ls : List Int} {X : List (List Int)}
theorem PlanRel.rng (h : PlanRel live hv hm k i ms ls X) (hi : i ≤ hm.length) (hl : live.length ≤ 16) (hr : ∀ j, ∀ x, x ∈ hm.getD j [] → -9223372036854775808 ≤ x ∧ x ≤ 9223372036854775807) : ∀ j, ∀ x, x ∈ X.getD j [] → -9223372036854775808 ≤ x ∧ x ≤ 9223372036854775807 := by
  induction h with
  | zero => exact hr
  | lost _ _ ih => exact ih (by omega)
  | @part i ms ms1 ls X hrel hk hfl hp ih =>
    intro j x hx
    by_cases e : j = i
    · subst e
      rw [List.getD_eq_getElem?_getD, List.getElem?_set_self (by rw [hrel.len]; omega)] at hx
      rcases ap_mem x hx with h | ⟨y, hy, rfl⟩
      · exact hr j x h
      · have := hp.le y hy
        omega
    · rw [List.getD_eq_getElem?_getD, List.getElem?_set_ne (by omega), ← List.getD_eq_getElem?_getD] at hx
      exact ih (by omega) j x hx
theorem PlanRel.lost_mem (h : PlanRel live hv hm k i ms ls X) : ∀ x, x ∈ ls → 0 ≤ x ∧ x < i := by
  induction h with
  | zero => intro x hx; cases hx
  | lost _ _ ih =>
    intro x hx
    rcases List.mem_append.1 hx with h | h
    · have := ih x h; omega
    · obtain rfl := List.mem_singleton.1 h; omega
  | part _ _ _ _ ih => intro x hx; have := ih x hx; omega
end
theorem irows_rng {w : World} {A : Option Addr} {hm : List (List Int)} (h : IRows w A hm) : ∀ j, ∀ x, x ∈ hm.getD j [] → -9223372036854775808 ≤ x ∧ x ≤ 9223372036854775807 := fun j x hx => by
  rw [List.getD_eq_getElem?_getD] at hx
  by_cases hj : j < hm.length
  · rw [List.getElem?_eq_getElem hj] at hx
    obtain ⟨b, off, _, hc⟩ := h.block (by omega)
    obtain ⟨B, c, _, _, hI⟩ := hc j hj
    exact hI.le x hx
  · rw [List.getElem?_eq_none (by omega)] at hx; cases hx
theorem made_post {w : World} {t a : Int} {sz sm : List Int} {live : List Bool} {hv : List (List Bool)} {hm : List (List Int)} {k : Nat} {e : Ending} {w' : World} (h : MadePost w t a (zv sz) (uv sm) live hv hm k e w')
    (hsz : ∀ x, x ∈ sz → -9223372036854775808 ≤ x ∧ x ≤ 9223372036854775807) (hsm : ∀ x, x ∈ sm → 0 ≤ x ∧ x ≤ 4294967295) (hr : ∀ j, ∀ x, x ∈ hm.getD j [] → -9223372036854775808 ≤ x ∧ x ≤ 9223372036854775807) (hl : live.length ≤ 16) (hn : hm.length ≤ 1000) (hrl : ∀ j, (hm.getD j []).length ≤ 1000) :
    MakePost w t a sz sm live hv hm k e w' := by
  obtain ⟨lo, pb, F, hvv, lvv, V, nl, loads, ms, ls, X, rv, rfl, HB, _, HP, HPL, HR⟩ := h
  have own : ∀ b {e size n : Nat} {v : Value} {xs : List Value}, F b = ⟨e, size, v, n, xs⟩ → w'.ownsRow lo e size v n xs := fun b e size n v xs h => by have := HP.own b; rw [h] at this; exact this
  obtain ⟨A2, c2, h2, _, _, I2⟩ := own_ints (own 0 HPL.sz) hsz
  obtain ⟨A3, c3, h3, _, I3⟩ := own_u32s (own 1 HPL.sm) hsm
  obtain ⟨Ax, cx, hx, _, _, Ix⟩ := own_ints (own 4 HPL.lst) (fun x hx => by have := HR.lost_mem x hx; omega)
  obtain ⟨Am, cm, hm9⟩ := HP.slice 5 HPL.mvs
  obtain ⟨A4, c4, h4⟩ := HP.slice 2 HPL.top
  refine ⟨Am, cm, Ax, cx, A2, c2, A3, c3, A4, c4, ms, ls, X, by rw [hm9, hx, h2, h3, h4, zv_length, uv_length], ⟨?_⟩, Ix, I2, I3, ⟨?_⟩, HR, HB⟩
  · by_cases h0 : ms.length = 0
    · exact .inl (List.eq_nil_of_length_eq_zero h0)
    obtain ⟨g, c, hg⟩ := HP.some 5 HPL.mvs (by omega)
    rw [hg] at hm9
    simp only [Value.slice.injEq] at hm9
    refine .inr ⟨g, 0, hm9.1.symm, fun j hj => ?_⟩
    obtain ⟨q1, q2, q3, q4⟩ := mvv_get ms j hj
    have hok := HR.moves (Nat.le_refl _) ms[j] (List.getElem_mem hj)
    obtain ⟨Af, cf, hf, _, _, If⟩ := own_ints (own _ (HPL.frm j hj)) (by
      rw [hok.fl]
      exact castL_le (k := 1000) (fun x hx => by have := (presK_lt _ _ _ _ _ x (List.mem_of_mem_take hx)).1; have := hrl ms[j].part; omega) (by omega))
    rw [hf] at q4
    have := HP.cell 5 HPL.mvs hg q1
    have := HP.cell 5 HPL.mvs hg q2
    have := HP.cell 5 HPL.mvs hg q3
    have := HP.cell 5 HPL.mvs hg q4
    simp only [Nat.zero_add]
    exact ⟨by assumption, by assumption, by assumption, Af, cf, by assumption, If⟩
  · by_cases h0 : X.length = 0
    · exact .inl (List.eq_nil_of_length_eq_zero h0)
    obtain ⟨g, c, hg⟩ := HP.some 2 HPL.top (by omega)
    rw [hg] at h4
    simp only [Value.slice.injEq] at h4
    refine .inr ⟨g, 0, h4.1.symm, fun j hj => ?_⟩
    have hgd : X.getD j [] = X[j] := by rw [List.getD_eq_getElem?_getD, List.getElem?_eq_getElem hj]; rfl
    obtain ⟨Af, cf, hf, _, hcf, If⟩ := own_ints (own _ (HPL.row j hj)) (by rw [← hgd]; exact HR.rng (Nat.le_refl _) hl hr j)
    have := HP.cell 2 HPL.top hg (j := j) (u := rv j) (by rw [List.getElem?_map, List.getElem?_range hj]; rfl)
    rw [hf] at this
    simp only [Nat.zero_add]
    exact ⟨Af, cf, this, hcf, If⟩
theorem make_post (t a : Int) (A2 : Option Addr) (n2 c2 : Nat) (A3 : Option Addr) (n3 c3 : Nat) (A4 : Option Addr) (n4 c4 : Nat) (k : Nat) (Ah : Option Addr) (nh ch : Nat) (Al : Option Addr) (nl cl : Nat) (Ao : Option Addr) (co : Nat) (sz sm : List Int) (hm : List (List Int)) (hv : List (List Bool)) (live : List Bool) (loads : List Int) (w : World)
    (hk : 1 ≤ k) (hnl : 0 < nl) (hnl2 : nl ≤ 16) (hS : Ints w A2 sz) (hsl : sz.length = n2) (hs9 : n2 ≤ 1000000) (hU : U32s w A3 sm) (hul : sm.length = n3) (hu9 : n3 ≤ 1000000)
    (hH : IRows w A4 hm) (hl : hm.length = n4) (hl9 : n4 ≤ 1000) (hr : ∀ i (h : i < hm.length), hm[i].length ≤ 1000) (hV : BRows w Ah hv) (hvl : hv.length = nh) (hB : Bools w Al live) (hlv : live.length = nl) (hO : Ints w Ao loads) (hol : loads.length = nl) :
    Calls Try.prog 8 #[.agg #[.int .i64 t, .int .i64 a, .slice A2 n2 c2, .slice A3 n3 c3, .slice A4 n4 c4], .int .i64 (k : Nat), .slice Ah nh ch, .slice Al nl cl, .slice Ao nl co] w (MakePost w t a sz sm live hv hm k) :=
  (make_ok t a A2 n2 c2 A3 n3 c3 A4 n4 c4 k Ah nh ch Al nl cl Ao co sz sm hm hv live loads w hk hnl hnl2 hS hsl hs9 hU hul hu9 hH hl hl9 hr hV hvl hB hlv hO hol).mono fun e w' h =>
    made_post h hS.le hU.le (irows_rng hH) (by omega) (by omega) (getD_le hr)
end Go.Proofs.Ytpologlcfohjeaa.MendW
