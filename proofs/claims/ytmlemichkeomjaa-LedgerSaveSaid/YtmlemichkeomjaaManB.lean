/- stripe.Bytes walked. -/
import Derived.Test.YtmlemichkeomjaaManP
import Derived.Test.YtmlemichkeomjaaM7
import Derived.Deep.RegionHeld3
import Derived.Laws.OwnMore
set_option linter.unusedVariables false
set_option linter.unusedSimpArgs false
namespace Go.Proofs.Ytmlemichkeomjaa.ManW
open Go.RowKit Go.Proofs.Ytmlemichkeomjaa.BuildW Go.Proofs.Ytmlemichkeomjaa.Base Go.Proofs.Ytmlemichkeomjaa.TapeP Go.Proofs.Ytmlemichkeomjaa.TapeW Go.Proofs.Ytmlemichkeomjaa.ManP Go.Proofs.Ytmlemichkeomjaa.MendW
section
variable {P : Program} {ops : Array Oper} {rest : List Oper} {o : Oper} {a : Act} {Q : Exit → Act → World → Prop}
/-- A source of what is appended. -/
def SrcAt (w : World) (B : Option Addr) (news : List Value) : Prop := news = [] ∨ ∃ b off, B = some ⟨b, off, none⟩ ∧ ∀ j u, news[j]? = some u → w.cell? ⟨b, off + j, none⟩ = some u
theorem run_app_src {W : World} (base : Nat) (t ty e : TypeId) (z : Value) (bytes : Nat)
    (ht : P.underlying t = some (.slice e)) (hinfo : (P.info? e).map (fun i => (i.zero, i.size, i.bytes)) = some (some z, 1, bytes)) (hz : z.cells.size = 1)
    (v : Value) (xs : List Value) (n m c : Nat) (B : Option Addr) (news : List Value) (hm : news.length = m) (hsrc : SrcAt W B news) (h1 : ∀ u ∈ news, u.oneCell' = true)
    (HO : W.ownsRow base e 1 v n xs) (hbase : base ≤ W.heap.size) (hl : (n + m) * bytes ≤ 140737488355328) (hlen : n + m ≤ 140737488355328) :
    ∃ v1 w1, (Builtin.append_ #[t, t] ty #[v, .slice B m c]).run P W = .ok v1 w1 ∧ w1.ownsRow base e 1 v1 (n + m) (xs ++ news) ∧ W.grownBy w1 v.ownBlock ∧ (v1.ownBlock = v.ownBlock ∨ v1.ownBlock = some W.heap.size) := by
  obtain ⟨i0, hi, hzz⟩ := Option.map_eq_some_iff.1 hinfo
  simp only [Prod.mk.injEq] at hzz
  obtain ⟨hz0, hz1, hz2⟩ := hzz
  by_cases hB : ∃ b off, B = some ⟨b, off, none⟩ ∧ ∀ j u, news[j]? = some u → W.cell? ⟨b, off + j, none⟩ = some u
  · obtain ⟨b, off, rfl, hc⟩ := hB
    obtain ⟨v1, w1, hr, hown, hg, _, hat⟩ := run_append_own_at (P := P) W base t ty e i0 z 1 bytes ht hi hz0 hz1 hz2 hz (by omega) v n xs HO ⟨b, off, none⟩ m c news (by omega)
      (fun j u hj => by rw [show (⟨b, off, none⟩ : Addr).add j = ⟨b, off + j, none⟩ by unfold Addr.add; split <;> simp_all]; exact hc j u hj) h1 (by simp only [maxLen]; omega) hl hbase
    exact ⟨v1, w1, hr, hown, hg, hat⟩
  · have h0 : news = [] := hsrc.resolve_right hB
    subst h0
    obtain rfl : m = 0 := hm.symm
    refine ⟨v, W, ?_, by simpa using HO, ⟨rfl, rfl, rfl, Nat.le_refl _, fun _ _ _ => rfl⟩, .inl rfl⟩
    rcases HO.2 with ⟨rfl, rfl⟩ | ⟨g, cap, cur, rfl, _, _, hnc, _⟩
    · cases B <;> simp [Builtin.append_, run_underlying ht, sizeOf, typeInfo, hi, Builtin.lenOf, Builtin.firstCells, loadCells, loadCellsFrom, storeCells]
    · cases B <;> simp [Builtin.append_, run_underlying ht, sizeOf, typeInfo, hi, Builtin.lenOf, Builtin.firstCells, hnc, loadCells, loadCellsFrom, storeCells]
theorem step_app_src {K : Act → World → Prop} {E : Prop} {w0 W : World} (base : Nat) (hgd : o.guard = none) (s x : Operand) (t e : TypeId) (z : Value) (bytes : Nat)
    (ho : o.op = .call { callee := .builtin .append, args := #[s, x], argTypes := #[t, t] })
    (ht : P.underlying t = some (.slice e)) (hinfo : (P.info? e).map (fun i => (i.zero, i.size, i.bytes)) = some (some z, 1, bytes)) (hz : z.cells.size = 1)
    (v : Value) (xs : List Value) (n m c : Nat) (B : Option Addr) (news : List Value) (hs : a.eval s = v) (hx : a.eval x = .slice B m c) (hm : news.length = m) (hsrc : SrcAt W B news) (h1 : ∀ u ∈ news, u.oneCell' = true)
    (HO : W.ownsRow base e 1 v n xs) (HB : Below base w0 W) (hbase : base ≤ W.heap.size) (hl : (n + m) * bytes ≤ 140737488355328) (hlen : n + m ≤ 140737488355328)
    (h : ∀ v1 w1, w1.ownsRow base e 1 v1 (n + m) (xs ++ news) → Below base w0 w1 → K (a.put o.dst v1) w1) :
    if Region.wanted o (yielded ops a.tmps) = true then Oper.wp P o a W K Q else E := by
  have hw : Region.wanted o (yielded ops a.tmps) = true := by simp [Region.wanted, hgd]
  rw [if_pos hw]
  obtain ⟨v1, w1, hr, hown, hg, _⟩ := run_app_src (P := P) base t o.type e z bytes ht hinfo hz v xs n m c B news hm hsrc h1 HO hbase hl hlen
  unfold Oper.wp execOp
  simp only [ho, resolve, invoke, builtin, Sem.run_bind, Sem.run_pure, Result.andThen_ok, List.map_toArray, List.map_cons, List.map_nil, hs, hx, hr]
  exact h v1 w1 hown (HB.grown hg hbase (own_lo HO))
end
theorem arr_eta (a : Array Value) : a = ((List.range a.size).map fun i => a.getD i undef).toArray := by
  apply Array.ext
  · simp
  · intro i h1 h2
    simp [Array.getD, h1]
theorem src_ints {w : World} {B : Option Addr} {l : List Int} (h : Ints w B l) : SrcAt w B (zv l) := by
  rcases h.at_ with h1 | ⟨b, off, e, hc⟩
  · exact .inl (by rw [h1]; rfl)
  · refine .inr ⟨b, off, e, fun j u hj => ?_⟩
    unfold zv at hj
    rw [List.getElem?_map] at hj
    obtain ⟨x, hx, rfl⟩ := Option.map_eq_some_iff.1 hj
    obtain ⟨hjl, rfl⟩ := List.getElem?_eq_some_iff.1 hx
    exact hc j hjl
theorem src_below {w w' : World} {B : Option Addr} {news : List Value} (h : SrcAt w B news) (hb : Below w.heap.size w w') : SrcAt w' B news := by
  rcases h with h1 | ⟨b, off, e, hc⟩
  · exact .inl h1
  · exact .inr ⟨b, off, e, fun j u hj => cell_below hb (hc j u hj)⟩
theorem src_box (w : World) (cs : Array Value) (t : TypeId) (j : Nat) (u : Value) (h : cs.toList[j]? = some u) : (w.alloc (.cells cs t)).cell? ⟨w.heap.size, 0 + j, none⟩ = some u := by
  rw [cell_of_row _ _ _ _ _ _ (heap_alloc_new w _), Nat.zero_add]
  simpa using h
theorem zv_one (l : List Int) : ∀ u ∈ zv l, u.oneCell' = true := fun u hu => by
  obtain ⟨x, _, rfl⟩ := List.mem_map.1 hu
  rfl
theorem rows_take {A B : List Int} {H : List (List Int)} {p : Nat} (hp : p < A.length) (hB : B.length = A.length) (hH : H.length = A.length) :
    rows (A.take (p + 1)) (B.take (p + 1)) (H.take (p + 1)) = rows (A.take p) (B.take p) (H.take p) ++ (A[p] :: B[p] :: (H[p].length : Int) :: H[p]) := by
  rw [List.take_succ_eq_append_getElem hp, List.take_succ_eq_append_getElem (show p < B.length by omega), List.take_succ_eq_append_getElem (show p < H.length by omega)]
  exact rows_snoc _ _ _ _ _ _ (by simp; omega) (by simp; omega)
theorem rows_length_take (A B : List Int) (H : List (List Int)) : ∀ p, (rows (A.take p) (B.take p) (H.take p)).length ≤ (rows A B H).length := by
  intro p
  induction p generalizing A B H with
  | zero => simp [rows]
  | succ p ih =>
    match A, B, H with
    | a :: A, b :: B, h :: H =>
      have := ih A B H
      simp only [rows, List.take_succ_cons, List.length_cons, List.length_append]; omega
    | [], _, _ => simp [rows]
    | _ :: _, [], _ => simp [rows]
    | _ :: _, _ :: _, [] => simp [rows]
theorem Ints.getD {w : World} {A : Option Addr} {l : List Int} (h : Ints w A l) (x : Int) (hx : x ∈ l) : -9223372036854775808 ≤ x ∧ x ≤ 9223372036854775807 := h.le x hx
/-- The numbers of the first parts. -/
def pre (m : Man) (p : Nat) : List Int := m.task :: m.att :: (m.sz.length : Int) :: rows (m.sz.take p) (m.sm.take p) (m.hm.take p)
theorem pre_zero (m : Man) : pre m 0 = [m.task, m.att, (m.sz.length : Int)] := by simp [pre, rows]
theorem pre_all (m : Man) (h3 : m.sm.length = m.sz.length) (h4 : m.hm.length = m.sz.length) : pre m m.sz.length = listL m := by
  unfold pre listL
  rw [List.take_length, ← h3, List.take_length, h3, ← h4, List.take_length]
theorem pre_succ (m : Man) {p : Nat} (hp : p < m.sz.length) (h3 : m.sm.length = m.sz.length) (h4 : m.hm.length = m.sz.length) : pre m (p + 1) = pre m p ++ (m.sz[p] :: m.sm[p] :: (m.hm[p].length : Int) :: m.hm[p]) := by
  unfold pre
  rw [rows_take hp h3 h4]; rfl
theorem pre_le (m : Man) (p : Nat) : (pre m p).length ≤ (listL m).length := by
  have := rows_length_take m.sz m.sm m.hm p
  simp only [pre, listL, List.length_cons]; omega
theorem enc_le : ∀ {l : List Int}, (∀ x ∈ l, okN x) → (enc l).length ≤ 8 * l.length
  | [], _ => Nat.le_refl _
  | x :: l, h => by
    have h1 := enc_le (l := l) (fun y hy => h y (List.mem_cons_of_mem _ hy))
    have h2 := h x (List.mem_cons_self)
    have h3 := num_length 7 x.toNat (by have := h2.2; omega)
    show (num x.toNat ++ enc l).length ≤ _
    rw [List.length_append, List.length_cons]; omega
/-- What is read in the loop. -/
def Cells6 (W : World) (b : Nat) (A2 : Option Addr) (n c2 : Nat) (A3 : Option Addr) (c3 : Nat) (A4 : Option Addr) (c4 : Nat) (b2 o2 b3 o3 b4 o4 p : Nat) (x y : Int) (B : Option Addr) (q c : Nat) : Prop :=
  W.cell? ⟨b, 2, none⟩ = some (.slice A2 n c2) ∧ W.cell? ⟨b, 3, none⟩ = some (.slice A3 n c3) ∧ W.cell? ⟨b, 4, none⟩ = some (.slice A4 n c4) ∧ W.cell? ⟨b2, o2 + p, none⟩ = some (.int .i64 x) ∧ W.cell? ⟨b3, o3 + p, none⟩ = some (.int .u32 y) ∧ W.cell? ⟨b4, o4 + p, none⟩ = some (.slice B q c)
theorem Cells6.below {W W' : World} {b : Nat} {A2 : Option Addr} {n c2 : Nat} {A3 : Option Addr} {c3 : Nat} {A4 : Option Addr} {c4 : Nat} {b2 o2 b3 o3 b4 o4 p : Nat} {x y : Int} {B : Option Addr} {q c : Nat} (h : Cells6 W b A2 n c2 A3 c3 A4 c4 b2 o2 b3 o3 b4 o4 p x y B q c) (hb : Below W.heap.size W W') : Cells6 W' b A2 n c2 A3 c3 A4 c4 b2 o2 b3 o3 b4 o4 p x y B q c :=
  ⟨cell_below hb h.1, cell_below hb h.2.1, cell_below hb h.2.2.1, cell_below hb h.2.2.2.1, cell_below hb h.2.2.2.2.1, cell_below hb h.2.2.2.2.2⟩
/-- What holds at the label. -/
structure BytesA (W wr : World) (m : Man) (v : Value) (p : Nat) : Prop where
  le : p ≤ m.sz.length
  own : wr.ownsRow W.heap.size 3 1 v (pre m p).length (zv (pre m p))
  below : Below W.heap.size W wr
def BytesJ (W : World) (T Z : Int) (A2 : Option Addr) (n c2 : Nat) (A3 : Option Addr) (c3 : Nat) (A4 : Option Addr) (c4 : Nat) (b : Nat) (m : Man) (a' : Act) (wr : World) : Prop :=
  ∃ (v : Value) (p : Nat) (us : Nat → Value), BytesA W wr m v p ∧ a' = { tmps := #[.agg #[.int .i64 T, .int .i64 Z, .slice A2 n c2, .slice A3 n c3, .slice A4 n c4], .pointer (some ⟨b, 0, none⟩), us 2, v, .int .i64 (p : Nat), us 5, us 6, us 7, us 8, us 9, us 10, us 11, us 12, us 13, us 14, us 15, us 16, us 17, us 18, us 19, us 20, us 21, us 22, us 23, us 24, us 25, us 26, us 27, us 28, us 29, us 30, us 31, us 32, us 33, us 34, us 35, us 36, us 37, us 38, us 39, us 40, us 41, us 42, us 43, us 44, us 45, us 46, us 47, us 48, us 49, us 50, us 51, us 52, us 53, us 54, us 55, us 56, us 57, us 58, us 59, us 60, us 61, us 62, us 63, us 64, us 65, us 66, us 67, us 68, us 69, us 70, us 71, us 72, us 73, us 74, us 75, us 76, us 77, us 78, us 79, us 80], defers := [] }
set_option maxRecDepth 100000 in
theorem frame81 (t : Array Value) (hs : t.size = 81) : t = #[t.getD 0 undef, t.getD 1 undef, t.getD 2 undef, t.getD 3 undef, t.getD 4 undef, t.getD 5 undef, t.getD 6 undef, t.getD 7 undef, t.getD 8 undef, t.getD 9 undef, t.getD 10 undef, t.getD 11 undef, t.getD 12 undef, t.getD 13 undef, t.getD 14 undef, t.getD 15 undef, t.getD 16 undef, t.getD 17 undef, t.getD 18 undef, t.getD 19 undef, t.getD 20 undef, t.getD 21 undef, t.getD 22 undef, t.getD 23 undef, t.getD 24 undef, t.getD 25 undef, t.getD 26 undef, t.getD 27 undef, t.getD 28 undef, t.getD 29 undef, t.getD 30 undef, t.getD 31 undef, t.getD 32 undef, t.getD 33 undef, t.getD 34 undef, t.getD 35 undef, t.getD 36 undef, t.getD 37 undef, t.getD 38 undef, t.getD 39 undef, t.getD 40 undef, t.getD 41 undef, t.getD 42 undef, t.getD 43 undef, t.getD 44 undef, t.getD 45 undef, t.getD 46 undef, t.getD 47 undef, t.getD 48 undef, t.getD 49 undef, t.getD 50 undef, t.getD 51 undef, t.getD 52 undef, t.getD 53 undef, t.getD 54 undef, t.getD 55 undef, t.getD 56 undef, t.getD 57 undef, t.getD 58 undef, t.getD 59 undef, t.getD 60 undef, t.getD 61 undef, t.getD 62 undef, t.getD 63 undef, t.getD 64 undef, t.getD 65 undef, t.getD 66 undef, t.getD 67 undef, t.getD 68 undef, t.getD 69 undef, t.getD 70 undef, t.getD 71 undef, t.getD 72 undef, t.getD 73 undef, t.getD 74 undef, t.getD 75 undef, t.getD 76 undef, t.getD 77 undef, t.getD 78 undef, t.getD 79 undef, t.getD 80 undef] := by
  have h := arr_eta t
  rw [hs] at h
  exact h
set_option maxRecDepth 100000 in
theorem BytesJ.mk' {W wr : World} {T Z : Int} {A2 : Option Addr} {n c2 : Nat} {A3 : Option Addr} {c3 : Nat} {A4 : Option Addr} {c4 : Nat} {b : Nat} {m : Man} {v : Value} {p : Nat} {t' : Array Value}
    (HU : BytesA W wr m v p) (hs : t'.size = 81) (h0 : t'.getD 0 undef = .agg #[.int .i64 T, .int .i64 Z, .slice A2 n c2, .slice A3 n c3, .slice A4 n c4]) (h1 : t'.getD 1 undef = .pointer (some ⟨b, 0, none⟩)) (h3 : t'.getD 3 undef = v) (h4 : t'.getD 4 undef = .int .i64 (p : Nat)) :
    BytesJ W T Z A2 n c2 A3 c3 A4 c4 b m { tmps := t', defers := [] } wr := by
  have e := frame81 t' hs
  rw [h0, h1, h3, h4] at e
  exact ⟨v, p, fun i => t'.getD i undef, HU, congrArg (fun t => Act.mk t []) e⟩
set_option maxRecDepth 100000 in
set_option maxHeartbeats 4000000 in
theorem bytes_any (m : Man) (A2 : Option Addr) (n2 c2 : Nat) (A3 : Option Addr) (n3 c3 : Nat) (A4 : Option Addr) (n4 c4 : Nat) (w : World)
    (H2 : Ints w A2 m.sz) (l2 : m.sz.length = n2) (H3 : U32s w A3 m.sm) (l3 : m.sm.length = n3) (H4 : IRows w A4 m.hm) (l4 : m.hm.length = n4) (hbig : (listL m).length ≤ 1000000) (h2 : n2 ≤ 1000000) (h3 : n3 ≤ 9223372036854775807) (h4 : n4 ≤ 9223372036854775807) :
    Calls Try.prog 13 #[.agg #[.int .i64 m.task, .int .i64 m.att, .slice A2 n2 c2, .slice A3 n3 c3, .slice A4 n4 c4]] w fun e w' => e = .returned (.string (str (bytesM m))) ∧ Below w.heap.size w w' := by
  have hno : (n3 ≠ n2 ∨ n4 ≠ n2) → bytesM m = [] := fun h => by
    unfold bytesM
    rw [if_neg (fun hh => by have := hh.1; have := hh.2.1; omega)]
  obtain ⟨T, hT⟩ : ∃ T, T = m.task := ⟨_, rfl⟩
  obtain ⟨Z, hZ⟩ : ∃ Z, Z = m.att := ⟨_, rfl⟩
  rw [← hT, ← hZ]
  by_cases e3 : n3 = n2
  · by_cases e4 : n4 = n2
    · subst e3
      subst e4
      have HT := Lib.hid hT
      have HZ := Lib.hid hZ
      have L2 := Lib.hid l2
      have L3 := Lib.hid l3
      have L4 := Lib.hid l4
      have HBIG := Lib.hid hbig
      clear hno hT hZ l2 l3 l4 hbig h3 h4
      go_enter Try.func13, Try.ntmps13
      go_upto_region 1 with fail
      have HM := ManBox.mk' w T Z A2 n4 c2 A3 n4 c3 A4 n4 c4
      have HB0 : Below w.heap.size w (w.alloc (.cells #[.int .i64 T, .int .i64 Z, .slice A2 n4 c2, .slice A3 n4 c3, .slice A4 n4 c4] 26)) := (Below.refl _ _).alloc (Nat.le_refl _) _
      generalize w.alloc (.cells #[.int .i64 T, .int .i64 Z, .slice A2 n4 c2, .slice A3 n4 c3, .slice A4 n4 c4] 26) = W at HM HB0 ⊢
      obtain ⟨q0, q1, q2, q3, q4⟩ := HM
      have t3 : ((n4 : Int) != (n4 : Int)) = false := by simp
      have HQ := Lib.hid (And.intro q2 (And.intro q3 q4))
      go_wp2
      refine wp_scope_loop 0 (BytesJ W T Z A2 n4 c2 A3 c3 A4 c4 w.heap.size m) (fun a' _ => n4 - (intOf (a'.tmps.getD 4 undef)).toNat) rfl ?_ ?_
      · intro hloop
        go_wp2
        go_step3
        go_step
        go_step
        refine hloop _ _ (BytesJ.mk' (v := .slice (some ⟨W.heap.size, 0, none⟩) 3 3) (p := 0) ⟨Nat.zero_le _, ?_, (Below.refl _ _).alloc (Nat.le_refl _) _⟩ rfl rfl rfl rfl rfl)
        have e0 : zv (pre m 0) = (#[.int .i64 T, .int .i64 Z, .int .i64 (n4 : Nat)] : Array Value).toList := by
          rw [pre_zero, ← HT.out, ← HZ.out, L2.out]; rfl
        rw [e0, pre_zero]
        exact World.ownsRow_lit W #[.int .i64 T, .int .i64 Z, .int .i64 (n4 : Nat)] 3 (Nat.le_refl _) (by simp [maxLen]) rfl
      · rintro a' wr ⟨v, p, us, ⟨hp, HO, HB⟩, rfl⟩
        obtain ⟨k, hk⟩ : ∃ k, k = (pre m p).length := ⟨_, rfl⟩
        have hkb : k ≤ 1000000 := by have := pre_le m p; have := HBIG.out; omega
        by_cases hlt : p < n4
        · have hp2 : p < m.sz.length := by have := L2.out; omega
          have hp3 : p < m.sm.length := by have := L3.out; omega
          have hp4 : p < m.hm.length := by have := L4.out; omega
          have HS := Lib.hid (pre_succ m hp2 (L3.out.trans L2.out.symm) (L4.out.trans L2.out.symm))
          have hkn := pre_le m (p + 1)
          rw [HS.out, List.length_append, ← hk] at hkn
          obtain ⟨b2, o2, rfl, g2⟩ := (H2.below HB0).block (by omega)
          obtain ⟨b3, o3, rfl, g3⟩ := (H3.below HB0).block (by omega)
          obtain ⟨b4, o4, rfl, g4⟩ := (H4.below HB0).block (by omega)
          obtain ⟨B, c, h1, h5, h6⟩ := g4 p hp4
          replace g2 := g2 p hp2
          replace g3 := g3 p hp3
          have hy := H3.le m.sm[p] (List.getElem_mem hp3)
          clear g4
          generalize m.sz[p] = x at g2 HS hkn
          generalize m.sm[p] = y at g3 HS hkn hy
          have wy : IntKind.i64.wrap y = y := IntWalk.i64_in _ (by omega)
          generalize m.hm[p] = hr at h1 h5 h6 HS hkn
          obtain ⟨q, hq⟩ : ∃ q, q = hr.length := ⟨_, rfl⟩
          rw [← hq] at h1 h5 HS
          have HC := Lib.hid (show Cells6 W w.heap.size _ n4 c2 _ c3 _ c4 b2 o2 b3 o3 b4 o4 p x y B q c from ⟨HQ.out.1, HQ.out.2.1, HQ.out.2.2, g2, g3, h1⟩)
          have hqk : k + (3 + q) ≤ 1000000 := by have := HBIG.out; simp only [List.length_cons] at hkn; omega
          have HSR := Lib.hid (src_ints h6)
          have HQL := Lib.hid hq
          have HK := Lib.hid hk
          have HP := Lib.hid hp
          clear g2 g3 h1 h5 h6 hq hkn HQ q0 q1 q2 q3 q4 hk hp hp2 hp3 hp4
          obtain ⟨r2, r3, r4, r5, r6, r7⟩ := HC.out.below HB
          have i0 : (0 : Int) ≤ (p : Int) := by omega
          have i1 : (p : Int) < (n4 : Int) := by omega
          rw [HK.out.symm] at HO
          go_upto_region 6 with fail
          go_region_held3 (fun w' => w'.cell? ⟨w.heap.size, 2, none⟩ = some (.slice (some ⟨b2, o2, none⟩) n4 c2) ∧ w'.cell? ⟨w.heap.size, 3, none⟩ = some (.slice (some ⟨b3, o3, none⟩) n4 c3) ∧ w'.cell? ⟨w.heap.size, 4, none⟩ = some (.slice (some ⟨b4, o4, none⟩) n4 c4) ∧ w'.cell? ⟨b2, o2 + p, none⟩ = some (.int .i64 x) ∧ w'.cell? ⟨b3, o3 + p, none⟩ = some (.int .u32 y) ∧ w'.cell? ⟨b4, o4 + p, none⟩ = some (.slice B q c))
            (first | exact HC.out.below HB | exact HC.out.below HB.drew | exact HC.out.below (HB.alloc HB.size _) | exact HC.out.below (HB.alloc HB.size _).drew)
            (first
              | (refine step_app_src W.heap.size (by rfl) (.tmp 38) (.tmp 56) 22 3 (.int .i64 0) 8 (by rfl) Try.underlying22 info_int rfl v (zv (pre m p)) k 3 3 (some ⟨wr.heap.size, 0, none⟩) [.int .i64 x, .int .i64 y, .int .i64 (q : Nat)] (by rfl) (by rfl) (by rfl) (.inr ⟨wr.heap.size, 0, rfl, fun j u hj => src_box wr _ _ j u hj⟩) (by simp [Value.oneCell']) (own_below HO ((Below.refl _ _).alloc (Nat.le_refl _) _).drew) (HB.alloc HB.size _).drew (HB.alloc HB.size _).drew.size (by omega) (by omega) ?_; intro v1 w1 HO1 HB1; clear HB HO; have HB := HB1; clear HB1)
              | (refine step_app_src W.heap.size (by rfl) (.tmp 57) (.tmp 62) 22 3 (.int .i64 0) 8 (by rfl) Try.underlying22 info_int rfl v1 (zv (pre m p) ++ [.int .i64 x, .int .i64 y, .int .i64 (q : Nat)]) (k + 3) q c B (zv hr) (by rfl) (by rfl) (by rw [zv_length]; exact HQL.out.symm) (src_below HSR.out HB) (zv_one hr) HO1 HB HB.size (by omega) (by omega) ?_; intro v2 w2 HO2 HB1; clear HB; have HB := HB1; clear HB1))
          clear r2 r3 r4 r5 r6 r7 i0 i1 wy
          have hp1 : ((p + 1 : Nat) : Int) = (p : Int) + 1 := by omega
          have HP1 := Lib.hid hp1
          clear hp1
          go_wp2
          go_step3
          refine ⟨rfl, BytesJ.mk' (v := v2) (p := p + 1) ⟨by have := L2.out; omega, ?_, HB⟩ rfl rfl rfl rfl (by rw [HP1.out]; rfl), ?_⟩
          · rw [HS.out]
            have e1 : zv (pre m p ++ x :: y :: (q : Int) :: hr) = zv (pre m p) ++ [.int .i64 x, .int .i64 y, .int .i64 (q : Nat)] ++ zv hr := by simp [zv]
            have e2 : (pre m p ++ x :: y :: (q : Int) :: hr).length = k + 3 + q := by
              have := HK.out; have := HQL.out; simp only [List.length_append, List.length_cons]; omega
            rw [e1, e2]
            exact HO2
          · simp [intOf]; omega
        · obtain rfl : p = n4 := by have := L2.out; omega
          have HL := Lib.hid (show pre m p = listL m by rw [← L2.out]; exact pre_all m (L3.out.trans L2.out.symm) (L4.out.trans L2.out.symm))
          have HF := Lib.hid (show m.sm.length = m.sz.length ∧ m.hm.length = m.sz.length from ⟨L3.out.trans L2.out.symm, L4.out.trans L2.out.symm⟩)
          rw [← hk, HL.out] at HO
          rw [HL.out] at hk
          have hk0 : 0 < k := by rw [hk]; simp [listL]
          obtain ⟨g, cap, hv⟩ : ∃ g cap, v = .slice (some ⟨g, 0, none⟩) k cap := by
            rcases HO.2 with ⟨_, h1⟩ | ⟨g, cap, cur, h1, _⟩
            · omega
            · exact ⟨g, cap, h1⟩
          subst hv
          have HC := Lib.hid (fun j (hj : j < (listL m).length) => (HO.cells rfl j (.int .i64 (listL m)[j]) (by simp [zv, hj])))
          have r2 := cell_below HB HQ.out.1
          replace HB := (HB0.trans (HB.mono HB0.size))
          clear hp HO HQ q0 q1 q2 q3 q4 HL HB0
          have hbm : bytesM m = if ∀ x ∈ listL m, okN x then enc (listL m) else [] := by
            unfold bytesM
            by_cases h : ∀ x ∈ listL m, okN x
            · rw [if_pos ⟨HF.out.1, HF.out.2, h⟩, if_pos h]
            · rw [if_neg (fun hh => h hh.2.2), if_neg h]
          have HBM := Lib.hid hbm
          clear hbm HF
          generalize listL m = L at *
          have HKL := Lib.hid hk
          have hs := HB.size
          clear hk H2 H3 H4 HT HZ L2 L3 L4 HBIG
          obtain ⟨wa, rfl⟩ : ∃ wa, wa = wr := ⟨_, rfl⟩
          go_wp2
          clear r2
          go_loopw [5, 7, 8, 68] (fun o _ _ i wr => ∃ j : Nat, j ≤ k ∧ i = .int .i64 j ∧ o = .string (str (enc (L.take j))) ∧ (∀ x ∈ L.take j, okN x) ∧ Below w.heap.size w wr ∧ Below wa.heap.size wa wr) (fun _ _ _ i _ => k - (intOf i).toNat)
          case atStart => exact ⟨0, by omega, rfl, rfl, fun x hx => by simp at hx, HB, Below.refl _ _⟩
          case round =>
            clear HB
            obtain ⟨j, hj, rfl, rfl, hok, HB, HA⟩ := hrel
            by_cases hlt2 : j < k
            · have hjl : j < L.length := by have := HKL.out; omega
              have hcell := cell_below HA (HC.out j hjl)
              rw [show (⟨g, 0, none⟩ : Addr).add j = ⟨g, 0 + j, none⟩ by unfold Addr.add; split <;> simp_all, Nat.zero_add] at hcell
              have htk := List.take_succ_eq_append_getElem hjl
              have hmem := List.getElem_mem hjl
              have i0 : (0 : Int) ≤ (j : Int) := by omega
              have i1 : (j : Int) < (k : Int) := by omega
              have hsz : (str (enc (L.take j))).size ≤ 8 * j := by
                rw [str_size]
                have := enc_le hok
                rw [List.length_take, Nat.min_eq_left (by omega)] at this
                exact this
              generalize L[j] = x at hcell htk hmem
              by_cases hx : okN x
              · obtain ⟨s1, hs1⟩ : ∃ s1, s1 = str (numI x) := ⟨_, rfl⟩
                have HN := Lib.hid (fun W => (num_any x W))
                rw [← hs1] at HN
                have e1 := numI_in hx.1 hx.2
                have z1 : (s1.toList == []) = false := by
                  rw [hs1, e1, ByteArray.toList_eq, str_list, beq_eq_false_iff_ne]
                  exact num_ne _
                have z2 : s1.size ≤ 8 := by rw [hs1, str_size]; exact numI_length x
                have z4 : (str (enc (L.take j))).size + s1.size ≤ 9223372036854775807 := by omega
                have HT := Lib.hid htk
                have z3 := Lib.hid (show str (enc (L.take (j + 1))) = str (enc (L.take j)) ++ s1 by
                  rw [hs1, e1, str_append, HT.out, enc_append, str_list, str_list]
                  show str (enc (L.take j) ++ (num x.toNat ++ [])) = _
                  rw [List.append_nil])
                have HO := Lib.hid hok
                clear hok hs1 e1 htk hmem z2 hsz
                have HX := Lib.hid hx
                clear hx
                generalize str (enc (L.take j)) = s0 at z3 z4 ⊢
                go_wp2_with (go_at_call 41; (with_reducible refine (HN.out _).mono ?_); rintro e w4 ⟨rfl, hd⟩; replace HA := bt HA HA.size hd; replace HB := bt HB HB.size hd; clear hd)
                go_roundw
                case rel => exact ⟨j + 1, by omega, by go_num, by rw [z3.out], fun y hy => by
                  rw [HT.out] at hy
                  rcases List.mem_append.1 hy with hy | hy
                  · exact HO.out y hy
                  · rw [List.mem_singleton.1 hy]; exact HX.out, HB, HA⟩
                case measure => simp [intOf]; omega
              · have e1 : numI x = [] := numI_out (by unfold okN at hx; omega)
                have HN := Lib.hid (fun W => (num_any x W))
                rw [e1] at HN
                have z1 : ((str []).toList == []) = true := by rw [ByteArray.toList_eq]; rfl
                have z5 := Lib.hid (show bytesM m = [] by rw [HBM.out, if_neg (fun h => hx (h x hmem))])
                clear hok e1 htk hmem hsz hx HBM
                generalize str (enc (L.take j)) = s0
                go_wp2_with (go_at_call 41; (with_reducible refine (HN.out _).mono ?_); rintro e w4 ⟨rfl, hd⟩; replace HA := bt HA HA.size hd; replace HB := bt HB HB.size hd; clear hd)
                simp only [Exit.jump]
                go_ret
                exact ⟨by rw [z5.out]; rfl, HB⟩
            · obtain rfl : j = k := by omega
              have z5 := Lib.hid (show bytesM m = enc (L.take j) by
                have e : L.take j = L := by rw [HKL.out, List.take_length]
                rw [e] at hok ⊢
                rw [HBM.out, if_pos hok])
              clear hok HBM
              go_wp2
              simp only [Exit.jump]
              go_ret
              exact ⟨by rw [z5.out]; rfl, HB⟩
    · have hn := hno (.inr e4)
      rw [hn]
      clear hbig hno hT hZ
      subst e3
      have t4 : ((n4 : Int) != (n3 : Int)) = true := int_bne (by omega)
      have t3 : ((n3 : Int) != (n3 : Int)) = false := by simp
      go_enter Try.func13, Try.ntmps13
      go_upto_region 1 with fail
      have HM := ManBox.mk' w T Z A2 n3 c2 A3 n3 c3 A4 n4 c4
      have HB0 : Below w.heap.size w (w.alloc (.cells #[.int .i64 T, .int .i64 Z, .slice A2 n3 c2, .slice A3 n3 c3, .slice A4 n4 c4] 26)) := (Below.refl _ _).alloc (Nat.le_refl _) _
      generalize w.alloc (.cells #[.int .i64 T, .int .i64 Z, .slice A2 n3 c2, .slice A3 n3 c3, .slice A4 n4 c4] 26) = W at HM HB0 ⊢
      obtain ⟨q0, q1, q2, q3, q4⟩ := HM
      go_wp2
      refine wp_scope_loop 0 (fun _ _ => False) (fun _ _ => 0) rfl ?_ (fun _ _ h => h.elim)
      intro _
      go_wp2
      simp only [Exit.jump]
      go_ret
      exact ⟨rfl, HB0⟩
  · have hn := hno (.inl e3)
    rw [hn]
    clear hbig hno hT hZ
    have t3 : ((n3 : Int) != (n2 : Int)) = true := int_bne (by omega)
    go_enter Try.func13, Try.ntmps13
    go_upto_region 1 with fail
    have HM := ManBox.mk' w T Z A2 n2 c2 A3 n3 c3 A4 n4 c4
    have HB0 : Below w.heap.size w (w.alloc (.cells #[.int .i64 T, .int .i64 Z, .slice A2 n2 c2, .slice A3 n3 c3, .slice A4 n4 c4] 26)) := (Below.refl _ _).alloc (Nat.le_refl _) _
    generalize w.alloc (.cells #[.int .i64 T, .int .i64 Z, .slice A2 n2 c2, .slice A3 n3 c3, .slice A4 n4 c4] 26) = W at HM HB0 ⊢
    obtain ⟨q0, q1, q2, q3, q4⟩ := HM
    go_wp2
    refine wp_scope_loop 0 (fun _ _ => False) (fun _ _ => 0) rfl ?_ (fun _ _ h => h.elim)
    intro _
    go_wp2
    simp only [Exit.jump]
    go_ret
    exact ⟨rfl, HB0⟩
end Go.Proofs.Ytmlemichkeomjaa.ManW
