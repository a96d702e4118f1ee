/- What stripe.Read keeps: a pool. -/
import Derived.Test.YtmlemichkeomjaaManR
import Derived.Test.YtmlemichkeomjaaM8
set_option linter.unusedVariables false
set_option linter.unusedSimpArgs false
namespace Go.Proofs.Ytmlemichkeomjaa.ManW
open Go.RowKit Go.Proofs.Ytmlemichkeomjaa.BuildW Go.Proofs.Ytmlemichkeomjaa.Base Go.Proofs.Ytmlemichkeomjaa.TapeP Go.Proofs.Ytmlemichkeomjaa.TapeW Go.Proofs.Ytmlemichkeomjaa.ManP Go.Proofs.Ytmlemichkeomjaa.MendW
def uv (l : List Int) : List Value := l.map (Value.int .u32)
theorem uv_length (l : List Int) : (uv l).length = l.length := by simp [uv]
theorem info_u32 : (Try.prog.info? 72).map (fun i => (i.zero, i.size, i.bytes)) = some (some (.int .u32 0), 1, 4) := by kernel_rfl
theorem info_ints : (Try.prog.info? 22).map (fun i => (i.zero, i.size, i.bytes)) = some (some (.slice none 0 0), 1, 24) := by kernel_rfl
section
variable {P : Program} {ops : Array Oper} {rest : List Oper} {o : Oper} {a : Act} {Q : Exit → Act → World → Prop} {κ : Type} [DecidableEq κ]
/-- append to a row of a pool, out of any source. -/
theorem run_pool_src {W : World} {lo : Nat} {F : κ → Ent} (t ty e : TypeId) (z : Value) (bytes : Nat)
    (ht : P.underlying t = some (.slice e)) (hinfo : (P.info? e).map (fun i => (i.zero, i.size, i.bytes)) = some (some z, 1, bytes)) (hz : z.cells.size = 1)
    (key : κ) {v : Value} {n : Nat} {xs : List Value} (hE : F key = ⟨e, 1, v, n, xs⟩) (m c : Nat) (B : Option Addr) (news : List Value) (hm : news.length = m) (hsrc : SrcAt W B news) (h1 : ∀ u ∈ news, u.oneCell' = true)
    (HP : Pool W lo F) (hlo : lo ≤ W.heap.size) (hl : (n + m) * bytes ≤ 140737488355328) (hlen : n + m ≤ 140737488355328) :
    ∃ A1 c1 w1, (Builtin.append_ #[t, t] ty #[v, .slice B m c]).run P W = .ok (.slice A1 (n + m) c1) w1 ∧ Pool w1 lo (up F key ⟨e, 1, .slice A1 (n + m) c1, n + m, xs ++ news⟩) ∧ Below lo W w1 := by
  have HO := HP.own key
  rw [hE] at HO
  obtain ⟨v1, w1, hr, hown, hg, hat⟩ := run_app_src (P := P) lo t ty e z bytes ht hinfo hz v xs n m c B news hm hsrc h1 HO hlo hl hlen
  obtain ⟨A1, c1, rfl⟩ := own_sl hown
  exact ⟨A1, c1, w1, hr, HP.app key (by rw [hE]; exact hg) hown (by rw [hE]; exact hat), (Below.refl _ _).grown hg hlo (own_lo HO)⟩
theorem step_pool_src {K : Act → World → Prop} {E : Prop} {W : World} {lo : Nat} {F : κ → Ent} (hgd : o.guard = none) (s x : Operand) (t e : TypeId) (z : Value) (bytes : Nat)
    (ho : o.op = .call { callee := .builtin .append, args := #[s, x], argTypes := #[t, t] })
    (ht : P.underlying t = some (.slice e)) (hinfo : (P.info? e).map (fun i => (i.zero, i.size, i.bytes)) = some (some z, 1, bytes)) (hz : z.cells.size = 1)
    (key : κ) {v : Value} {n : Nat} {xs : List Value} (hE : F key = ⟨e, 1, v, n, xs⟩) (m c : Nat) (B : Option Addr) (news : List Value) (hs : a.eval s = v) (hx : a.eval x = .slice B m c) (hm : news.length = m) (hsrc : SrcAt W B news) (h1 : ∀ u ∈ news, u.oneCell' = true)
    (HP : Pool W lo F) (hlo : lo ≤ W.heap.size) (hl : (n + m) * bytes ≤ 140737488355328) (hlen : n + m ≤ 140737488355328)
    (h : ∀ A1 c1 w1, Pool w1 lo (up F key ⟨e, 1, .slice A1 (n + m) c1, n + m, xs ++ news⟩) → Below lo W w1 → K (a.put o.dst (.slice A1 (n + m) c1)) w1) :
    if Region.wanted o (yielded ops a.tmps) = true then Oper.wp P o a W K Q else E := by
  have hw : Region.wanted o (yielded ops a.tmps) = true := by simp [Region.wanted, hgd]
  rw [if_pos hw]
  obtain ⟨A1, c1, w1, hr, h2, h3⟩ := run_pool_src (P := P) t o.type e z bytes ht hinfo hz key hE m c B news hm hsrc h1 HP hlo hl hlen
  unfold Oper.wp execOp
  simp only [ho, resolve, invoke, builtin, Sem.run_bind, Sem.run_pure, Result.andThen_ok, List.map_toArray, List.map_cons, List.map_nil, hs, hx, hr]
  exact h A1 c1 w1 h2 h3
theorem pool_src {W : World} {lo : Nat} {F : κ → Ent} (hgd : o.guard = none) (s x : Operand) (t e : TypeId) (z : Value) (bytes : Nat)
    (ho : o.op = .call { callee := .builtin .append, args := #[s, x], argTypes := #[t, t] })
    (ht : P.underlying t = some (.slice e)) (hinfo : (P.info? e).map (fun i => (i.zero, i.size, i.bytes)) = some (some z, 1, bytes)) (hz : z.cells.size = 1)
    (key : κ) {v : Value} {n : Nat} {xs : List Value} (hE : F key = ⟨e, 1, v, n, xs⟩) (m c : Nat) (B : Option Addr) (news : List Value) (hs : a.eval s = v) (hx : a.eval x = .slice B m c) (hm : news.length = m) (hsrc : SrcAt W B news) (h1 : ∀ u ∈ news, u.oneCell' = true)
    (HP : Pool W lo F) (hlo : lo ≤ W.heap.size) (hl : (n + m) * bytes ≤ 140737488355328) (hlen : n + m ≤ 140737488355328)
    (h : ∀ A1 c1 w1, Pool w1 lo (up F key ⟨e, 1, .slice A1 (n + m) c1, n + m, xs ++ news⟩) → Below lo W w1 → wpList P ops Q rest (a.put o.dst (.slice A1 (n + m) c1)) w1) :
    wpList P ops Q (o :: rest) a W := by
  obtain ⟨A1, c1, w1, hr, h2, h3⟩ := run_pool_src (P := P) t o.type e z bytes ht hinfo hz key hE m c B news hm hsrc h1 HP hlo hl hlen
  refine wpList_plain hgd fun K hK => ?_
  unfold Oper.wp execOp
  simp only [ho, resolve, invoke, builtin, Sem.run_bind, Sem.run_pure, Result.andThen_ok, List.map_toArray, List.map_cons, List.map_nil, hs, hx, hr]
  exact hK _ _ (h A1 c1 w1 h2 h3)
end
theorem pool_only {κ : Type} {w w' : World} {lo a b : Nat} {F : κ → Ent} (h : Pool w lo F) (hO : Only a b w w') (hb : b ≤ lo) : Pool w' lo F :=
  ⟨fun k => pool_heap (h.own k) fun g hg => hO.block g (h.lt k hg).2 (.inr (by have := (h.lt k hg).1; omega)), h.ne⟩
theorem RdAt.far {w w' : World} {rb tb lo : Nat} {s : ByteArray} {st : St} (h : RdAt w rb tb s st) (hb : Below lo w w') (hl : rb < lo) : RdAt w' rb tb s st :=
  ⟨(hb.block rb hl).trans h.blk, ⟨(hb.block tb (by have := h.lt; omega)).trans h.tape.blk, h.tape.le, h.tape.sz⟩, h.lt, h.er⟩
/-- The keys: 0 sizes, 1 sums, 2 the rows' slices, 4 the row under way, 7 the manifest, 2 i + 10 row i. -/
structure RdP (F : Nat → Ent) (mb : Nat) (t a : Int) (v2 v3 v4 : Value) (sz sm : List Int) (hm : List (List Int)) (rv : Nat → Value) : Prop where
  sz_ : F 0 = ⟨3, 1, v2, sz.length, zv sz⟩
  sm_ : F 1 = ⟨72, 1, v3, sm.length, uv sm⟩
  top : F 2 = ⟨22, 1, v4, hm.length, (List.range hm.length).map rv⟩
  box : F 7 = ⟨26, 5, .slice (some ⟨mb, 0, none⟩) 1 1, 1, [.int .i64 t, .int .i64 a, v2, v3, v4]⟩
  row : ∀ i (h : i < hm.length), F (2 * i + 10) = ⟨3, 1, rv i, hm[i].length, zv hm[i]⟩
section
variable {F : Nat → Ent} {mb : Nat} {t a : Int} {v2 v3 v4 : Value} {sz sm : List Int} {hm : List (List Int)} {rv : Nat → Value}
theorem RdP.four (h : RdP F mb t a v2 v3 v4 sz sm hm rv) (E : Ent) : RdP (up F 4 E) mb t a v2 v3 v4 sz sm hm rv :=
  ⟨h.sz_, h.sm_, h.top, h.box, fun i hi => by rw [up_ne _ _ (by omega)]; exact h.row i hi⟩
theorem RdP.size (h : RdP F mb t a v2 v3 v4 sz sm hm rv) (v : Value) (x : Int) (n : Nat) (hn : n = sz.length + 1) : RdP (up (up F 0 ⟨3, 1, v, n, zv sz ++ [.int .i64 x]⟩) 7 ⟨26, 5, .slice (some ⟨mb, 0, none⟩) 1 1, 1, [.int .i64 t, .int .i64 a, v, v3, v4]⟩) mb t a v v3 v4 (sz ++ [x]) sm hm rv :=
  ⟨by rw [up_ne _ _ (by omega), up_self, zv_snoc, hn]; simp, h.sm_, h.top, by rw [up_self], fun i hi => by rw [up_ne _ _ (by omega), up_ne _ _ (by omega)]; exact h.row i hi⟩
theorem RdP.sum (h : RdP F mb t a v2 v3 v4 sz sm hm rv) (v : Value) (x : Int) (n : Nat) (hn : n = sm.length + 1) : RdP (up (up F 1 ⟨72, 1, v, n, uv sm ++ [.int .u32 x]⟩) 7 ⟨26, 5, .slice (some ⟨mb, 0, none⟩) 1 1, 1, [.int .i64 t, .int .i64 a, v2, v, v4]⟩) mb t a v2 v v4 sz (sm ++ [x]) hm rv :=
  ⟨h.sz_, by rw [up_ne _ _ (by omega), up_self, hn]; simp [uv], h.top, by rw [up_self], fun i hi => by rw [up_ne _ _ (by omega), up_ne _ _ (by omega)]; exact h.row i hi⟩
/-- A pool's key, another one's row. -/
theorem pool_move {w : World} {lo : Nat} {F : Nat → Ent} (h : Pool w lo F) (a b : Nat) (hab : a ≠ b) : Pool w lo (up (up F b (F a)) a noEnt) := by
  refine ⟨fun k => ?_, fun k l g hk hl => ?_⟩
  · by_cases e : k = a
    · subst e; rw [up_self]; exact noEnt_own _ _
    · rw [up_ne _ _ e]
      by_cases e2 : k = b
      · subst e2; rw [up_self]; exact h.own a
      · rw [up_ne _ _ e2]; exact h.own k
  · have g1 : ∀ k, (up (up F b (F a)) a noEnt k).v.ownBlock = some g → k ≠ a ∧ ((k = b ∧ (F a).v.ownBlock = some g) ∨ (k ≠ b ∧ (F k).v.ownBlock = some g)) := fun k hk => by
      by_cases e : k = a
      · subst e; rw [up_self] at hk; simp [noEnt, Value.ownBlock] at hk
      · rw [up_ne _ _ e] at hk
        by_cases e2 : k = b
        · subst e2; rw [up_self] at hk; exact ⟨e, .inl ⟨rfl, hk⟩⟩
        · rw [up_ne _ _ e2] at hk; exact ⟨e, .inr ⟨e2, hk⟩⟩
    obtain ⟨k1, k2⟩ := g1 k hk
    obtain ⟨l1, l2⟩ := g1 l hl
    rcases k2 with ⟨rfl, k2⟩ | ⟨k3, k2⟩ <;> rcases l2 with ⟨rfl, l2⟩ | ⟨l3, l2⟩
    · rfl
    · exact absurd (h.ne _ _ g k2 l2).symm l1
    · exact absurd (h.ne _ _ g k2 l2) k1
    · exact h.ne _ _ g k2 l2
theorem RdP.home {u : Value} {l : List Int} (h : RdP F mb t a v2 v3 v4 sz sm hm rv) (h4 : F 4 = ⟨3, 1, u, l.length, zv l⟩) (v : Value) (n : Nat) (hn : n = hm.length + 1) :
    RdP (up (up (up (up F (2 * hm.length + 10) (F 4)) 4 noEnt) 2 ⟨22, 1, v, n, (List.range hm.length).map rv ++ [u]⟩) 7 ⟨26, 5, .slice (some ⟨mb, 0, none⟩) 1 1, 1, [.int .i64 t, .int .i64 a, v2, v3, v]⟩) mb t a v2 v3 v sz sm (hm ++ [l]) (fun i => if i = hm.length then u else rv i) := by
  subst hn
  refine ⟨?_, ?_, ?_, by rw [up_self], fun i hi => ?_⟩
  · rw [up_ne _ _ (by omega), up_ne _ _ (by omega), up_ne _ _ (by omega), up_ne _ _ (by omega)]; exact h.sz_
  · rw [up_ne _ _ (by omega), up_ne _ _ (by omega), up_ne _ _ (by omega), up_ne _ _ (by omega)]; exact h.sm_
  · rw [up_ne _ _ (by omega), up_self, List.length_append, List.length_singleton, List.range_succ, List.map_append]
    simp only [List.map_cons, List.map_nil, if_true]
    congr 2
    refine List.map_congr_left fun i hi => ?_
    rw [if_neg (by have := List.mem_range.1 hi; omega)]
  · rw [up_ne _ _ (by omega), up_ne _ _ (by omega), up_ne _ _ (by omega)]
    rw [List.length_append, List.length_singleton] at hi
    by_cases e : i = hm.length
    · subst e
      rw [up_self, h4, if_pos rfl]
      simp
    · rw [up_ne _ _ (by omega), if_neg e, List.getElem_append_left (by omega)]
      exact h.row i (by omega)
end
/-- The parts of a manifest that is read. -/
structure ManW (w : World) (A2 : Option Addr) (n2 : Nat) (A3 : Option Addr) (n3 : Nat) (A4 : Option Addr) (n4 : Nat) (m : Man) : Prop where
  i2 : Ints w A2 m.sz
  l2 : m.sz.length = n2
  i3 : U32s w A3 m.sm
  l3 : m.sm.length = n3
  i4 : IRows w A4 m.hm
  l4 : m.hm.length = n4
theorem ManW.below {w w' : World} {A2 : Option Addr} {n2 : Nat} {A3 : Option Addr} {n3 : Nat} {A4 : Option Addr} {n4 : Nat} {m : Man} (h : ManW w A2 n2 A3 n3 A4 n4 m) (hb : Below w.heap.size w w') : ManW w' A2 n2 A3 n3 A4 n4 m :=
  ⟨h.i2.below hb, h.l2, h.i3.below hb, h.l3, h.i4.below hb, h.l4⟩
theorem ManW.none (w : World) (t a : Int) (A2 A3 A4 : Option Addr) : ManW w A2 0 A3 0 A4 0 ⟨t, a, [], [], []⟩ :=
  ⟨Ints.nil _ _, rfl, ⟨fun _ h => by simp at h, Or.inl rfl⟩, rfl, IRows.nil _ _, rfl⟩
theorem own_at {w : World} {base e n : Nat} {v : Value} {xs : List Value} (h : w.ownsRow base e 1 v n xs) : ∃ A c, v = .slice A n c ∧ n ≤ c ∧ (xs = [] ∨ ∃ b, A = some ⟨b, 0, none⟩ ∧ ∀ j u, xs[j]? = some u → w.cell? ⟨b, 0 + j, none⟩ = some u) := by
  rcases h.2 with ⟨rfl, h0⟩ | ⟨g, cap, cur, rfl, hb, hg, hc, _⟩
  · subst h0
    exact ⟨none, 0, rfl, Nat.le_refl _, .inl (List.eq_nil_of_length_eq_zero h.1)⟩
  · refine ⟨_, cap, rfl, hc, .inr ⟨g, rfl, fun j u hu => ?_⟩⟩
    have hcl := h.cells (g := g) rfl j u hu
    have ha : (⟨g, 0, none⟩ : Addr).add j = ⟨g, 0 + j, none⟩ := by unfold Addr.add; split <;> simp_all
    rw [ha] at hcl
    exact hcl
theorem own_ints' {w : World} {base e n : Nat} {v : Value} {l : List Int} (h : w.ownsRow base e 1 v n (zv l)) (hle : ∀ x, x ∈ l → -9223372036854775808 ≤ x ∧ x ≤ 9223372036854775807) : ∃ A c, v = .slice A n c ∧ n ≤ c ∧ Ints w A l := by
  obtain ⟨A, c, h1, _, h2, h3⟩ := own_ints h hle
  exact ⟨A, c, h1, h2, h3⟩
theorem own_u32s {w : World} {base e n : Nat} {v : Value} {l : List Int} (h : w.ownsRow base e 1 v n (uv l)) (hle : ∀ x, x ∈ l → 0 ≤ x ∧ x ≤ 4294967295) : ∃ A c, v = .slice A n c ∧ U32s w A l := by
  obtain ⟨A, c, h1, h2, h3⟩ := own_at h
  refine ⟨A, c, h1, hle, ?_⟩
  rcases h3 with h3 | ⟨b, e, h3⟩
  · exact .inl (by simpa [uv] using h3)
  · exact .inr ⟨b, 0, e, fun j hj => h3 j _ (by simp [uv, hj])⟩
/-- What one has made is read. -/
theorem man_of_pool {w : World} {lo : Nat} {F : Nat → Ent} {v2 v3 v4 : Value} {sz sm : List Int} {hm : List (List Int)} {rv : Nat → Value} (HP : Pool w lo F) (h0 : F 0 = ⟨3, 1, v2, sz.length, zv sz⟩) (h1 : F 1 = ⟨72, 1, v3, sm.length, uv sm⟩) (h2 : F 2 = ⟨22, 1, v4, hm.length, (List.range hm.length).map rv⟩) (hr : ∀ i (h : i < hm.length), F (2 * i + 10) = ⟨3, 1, rv i, hm[i].length, zv hm[i]⟩)
    (k0 : ∀ x, x ∈ sz → -9223372036854775808 ≤ x ∧ x ≤ 9223372036854775807) (k1 : ∀ x, x ∈ sm → 0 ≤ x ∧ x ≤ 4294967295) (k2 : ∀ l, l ∈ hm → ∀ x, x ∈ l → -9223372036854775808 ≤ x ∧ x ≤ 9223372036854775807) (t a : Int) :
    ∃ A2 c2 A3 c3 A4 c4, v2 = .slice A2 sz.length c2 ∧ v3 = .slice A3 sm.length c3 ∧ v4 = .slice A4 hm.length c4 ∧ ManW w A2 sz.length A3 sm.length A4 hm.length ⟨t, a, sz, sm, hm⟩ := by
  have o0 := HP.own 0
  have o1 := HP.own 1
  have o2 := HP.own 2
  rw [h0] at o0
  rw [h1] at o1
  rw [h2] at o2
  unfold Ent.own at o0 o1 o2
  dsimp only at o0 o1 o2
  obtain ⟨A2, c2, e2, _, i2⟩ := own_ints' o0 k0
  obtain ⟨A3, c3, e3, i3⟩ := own_u32s o1 k1
  obtain ⟨A4, c4, e4, _, i4⟩ := own_at o2
  refine ⟨A2, c2, A3, c3, A4, c4, e2, e3, e4, i2, rfl, i3, rfl, ⟨?_⟩, rfl⟩
  rcases i4 with i4 | ⟨b, e, hc⟩
  · refine .inl ?_
    dsimp only
    cases hm with
    | nil => rfl
    | cons x l => simp [List.range_succ] at i4
  · refine .inr ⟨b, 0, e, fun j hj => ?_⟩
    dsimp only at hj ⊢
    have o3 := HP.own (2 * j + 10)
    rw [hr j hj] at o3
    obtain ⟨B, c, e5, l5, i5⟩ := own_ints' o3 (k2 _ (List.getElem_mem hj))
    have := hc j (rv j) (by simp [hj])
    dsimp only at e5
    rw [e5] at this
    exact ⟨B, c, this, l5, i5⟩
end Go.Proofs.Ytmlemichkeomjaa.ManW
