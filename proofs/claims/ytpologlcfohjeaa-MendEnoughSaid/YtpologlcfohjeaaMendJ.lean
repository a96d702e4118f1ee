/- (*planner).part walked: the way with moves. -/
import Derived.Test.YtpologlcfohjeaaMendI
import Derived.Deep.DeepCutAuto
set_option linter.unusedVariables false
set_option linter.unusedSimpArgs false
namespace Go.Proofs.Ytpologlcfohjeaa.MendW
open Go.RowKit Go.Proofs.Ytpologlcfohjeaa.Base
/-- What part keeps beside the plan: its manifest, the pieces that are present, who is taken. -/
structure PartS (F : Nat → Ent) (mb : Nat) (tt ta : Int) (A2 : Option Addr) (n2 c2 : Nat) (A3 : Option Addr) (n3 c3 : Nat) (A4 : Option Addr) (n4 c4 : Nat) (A5 : Option Addr) (c5 : Nat) (s : List Nat) (tv : Value) (T : List Int) : Prop where
  mbox : F 7 = ⟨26, 5, .slice (some ⟨mb, 0, none⟩) 1 1, 1, [.int .i64 tt, .int .i64 ta, .slice A2 n2 c2, .slice A3 n3 c3, .slice A4 n4 c4]⟩
  tkn : F 8 = ⟨3, 1, tv, T.length, zv T⟩
  prs : F 9 = ⟨3, 1, .slice A5 s.length c5, s.length, zv (castL s)⟩
section
variable {F : Nat → Ent} {mb : Nat} {tt ta : Int} {A2 : Option Addr} {n2 c2 : Nat} {A3 : Option Addr} {n3 c3 : Nat} {A4 : Option Addr} {n4 c4 : Nat} {A5 : Option Addr} {c5 : Nat} {s : List Nat} {tv : Value} {T : List Int}
theorem PartS.up_ (h : PartS F mb tt ta A2 n2 c2 A3 n3 c3 A4 n4 c4 A5 c5 s tv T) (b : Nat) (E : Ent) (hb : b < 7 ∨ 9 < b) : PartS (up F b E) mb tt ta A2 n2 c2 A3 n3 c3 A4 n4 c4 A5 c5 s tv T :=
  ⟨(up_ne _ _ (by omega)).trans h.mbox, (up_ne _ _ (by omega)).trans h.tkn, (up_ne _ _ (by omega)).trans h.prs⟩
theorem PartS.take (h : PartS F mb tt ta A2 n2 c2 A3 n3 c3 A4 n4 c4 A5 c5 s tv T) (x : Int) (v : Value) (n : Nat) (hn : n = T.length + 1) : PartS (up F 8 ⟨3, 1, v, n, zv T ++ [.int .i64 x]⟩) mb tt ta A2 n2 c2 A3 n3 c3 A4 n4 c4 A5 c5 s v (T ++ [x]) :=
  ⟨h.mbox, by rw [up_self, zv_snoc, hn]; simp, h.prs⟩
end
section
variable {F : Nat → Ent} {mb : Nat} {tt ta : Int} {A2 : Option Addr} {n2 c2 : Nat} {A3 : Option Addr} {n3 c3 : Nat} {A4 : Option Addr} {n4 c4 : Nat} {A5 : Option Addr} {c5 : Nat} {s : List Nat} {tv : Value} {T : List Int}
theorem move_leaf {w8 : World} {lo pb kn n9 c9 cm2 p i r nl : Nat} {k t a : Int} {hvv lvv : Value} {x2 x3 : List Value} {V : PV} {loads : List Int} {M : List Mv} {lost : List Int} {X : List (List Int)} {rv : Nat → Value} {A9 Am2 : Option Addr}
    (HP8 : Pool w8 lo (up (up F (2 * n9 + 11) ⟨3, 1, .slice A9 kn c9, kn, zv (castL (s.take kn))⟩) 5 ⟨38, 4, .slice Am2 (n9 + 1) cm2, n9 + 1, mvv M ++ [.int .i64 ((p : Nat) : Int), .int .i64 ((i : Nat) : Int), .int .i64 ((r : Nat) : Int), .slice A9 kn c9]⟩))
    (HPL : PlanP F pb k t a hvv lvv nl x2 x3 V loads M lost X rv) (HPS : PartS F mb tt ta A2 n2 c2 A3 n3 c3 A4 n4 c4 A5 c5 s tv T) (hn : n9 = M.length) (hk : kn ≤ s.length) :
    ∃ F2, Pool (w8.setCell ⟨pb, 4, none⟩ (.slice Am2 (n9 + 1) cm2)) lo F2 ∧ PlanP F2 pb k t a hvv lvv nl x2 x3 { V with mv := .slice Am2 (n9 + 1) cm2 } loads (M ++ [⟨p, i, r, .slice A9 kn c9, castL (s.take kn)⟩]) lost X rv ∧ PartS F2 mb tt ta A2 n2 c2 A3 n3 c3 A4 n4 c4 A5 c5 s tv T := by
  subst hn
  have e : kn = (castL (s.take kn)).length := by rw [castL_length, List.length_take]; omega
  have H := HP8.store 6 ((up_ne _ _ (by decide)).trans (HPL.box_up (2 * M.length + 11) _ (by omega))) rfl 4 (.slice Am2 (M.length + 1) cm2)
  refine ⟨_, H, ?_, ((HPS.up_ _ _ (.inr (by omega))).up_ 5 _ (.inl (by omega))).up_ 6 _ (.inl (by omega))⟩
  have h2 := HPL.move ⟨p, i, r, .slice A9 kn c9, castL (s.take kn)⟩ (.slice Am2 (M.length + 1) cm2)
  dsimp only at h2
  rw [← e] at h2
  exact h2
end
theorem put_plan {F : Nat → Ent} {pb nl : Nat} {k t a : Int} {hvv lvv : Value} {x2 x3 : List Value} {V : PV} {loads : List Int} {ms : List Mv} {lost : List Int} {X : List (List Int)} {rv : Nat → Value} {p : Nat} {A : List Int} (h : PlanP F pb k t a hvv lvv nl x2 x3 V loads ms lost (X.set p A) rv) (hp : p < X.length) (q : Nat) (hq : A.length = q) (j : Nat) (x : Int) :
    PlanP (up F (2 * p + 10) ⟨3, 1, rv p, q, (zv A).set j (.int .i64 x)⟩) pb k t a hvv lvv nl x2 x3 V loads ms lost (X.set p (A.set j x)) rv := by
  subst hq
  have h2 := h.put p j (by rw [List.length_set]; exact hp) x
  have e : (X.set p A)[p]'(by rw [List.length_set]; exact hp) = A := by simp
  simp only [e, List.set_set] at h2
  exact h2
theorem set_rng {l : List Int} {j : Nat} {y : Int} (h : ∀ x, x ∈ l → -9223372036854775808 ≤ x ∧ x ≤ 9223372036854775807) (hy : -9223372036854775808 ≤ y ∧ y ≤ 9223372036854775807) : ∀ x, x ∈ l.set j y → -9223372036854775808 ≤ x ∧ x ≤ 9223372036854775807 := fun x hx => by
  rcases List.mem_or_eq_of_mem_set hx with h1 | rfl
  · exact h x h1
  · exact hy
/-- What holds at the label. -/
structure PartA (w0 wr : World) (lo pb mb : Nat) (k t a : Int) (hvv lvv : Value) (nl : Nat) (x2 x3 : List Value) (live : List Bool) (tt ta : Int) (A2 : Option Addr) (n2 c2 : Nat) (A3 : Option Addr) (n3 c3 : Nat) (A4 : Option Addr) (n4 c4 : Nat) (A5 : Option Addr) (c5 : Nat) (s : List Nat) (row : List Int) (p : Nat) (ms : List Mv) (lost : List Int) (X : List (List Int)) (rv : Nat → Value)
    (F : Nat → Ent) (V : PV) (tv : Value) (loads : List Int) (ms1 : List Mv) (i : Nat) : Prop where
  le : i ≤ row.length
  below : Below lo w0 wr
  lo_ : lo ≤ wr.heap.size
  pool : Pool wr lo F
  ll : loads.length = nl
  lle : ∀ x, x ∈ loads → -9223372036854775808 ≤ x ∧ x ≤ 9223372036854775807
  plan : PlanP F pb k t a hvv lvv nl x2 x3 V loads (ms ++ ms1) lost (X.set p (ap row (ms1.map fun m => (m.at_, m.dst)))) rv
  part : PartS F mb tt ta A2 n2 c2 A3 n3 c3 A4 n4 c4 A5 c5 s tv ((s.map fun i => row.getD i 0) ++ tos (ms1.map fun m => (m.at_, m.dst)))
  mv : ∀ m, m ∈ ms1 → m.part = p ∧ m.fl = castL (s.take k.toNat)
  proc : Proc live (s.map fun i => row.getD i 0) s i (ms1.map fun m => (m.at_, m.dst))
set_option maxRecDepth 100000 in
def PartJ (w0 : World) (lo pb mb : Nat) (k t a : Int) (hvv lvv : Value) (nl : Nat) (x2 x3 : List Value) (live : List Bool) (tt ta : Int) (A2 : Option Addr) (n2 c2 : Nat) (A3 : Option Addr) (n3 c3 : Nat) (A4 : Option Addr) (n4 c4 : Nat) (A5 : Option Addr) (c5 : Nat) (s : List Nat) (row : List Int) (p : Nat) (ms : List Mv) (lost : List Int) (X : List (List Int)) (rv : Nat → Value) (a' : Act) (wr : World) : Prop :=
  ∃ (F : Nat → Ent) (V : PV) (tv : Value) (loads : List Int) (ms1 : List Mv) (i : Nat) (us : Nat → Value), PartA w0 wr lo pb mb k t a hvv lvv nl x2 x3 live tt ta A2 n2 c2 A3 n3 c3 A4 n4 c4 A5 c5 s row p ms lost X rv F V tv loads ms1 i ∧
    a' = { tmps := #[.pointer (some ⟨pb, 0, none⟩), .agg #[.int .i64 tt, .int .i64 ta, .slice A2 n2 c2, .slice A3 n3 c3, .slice A4 n4 c4], .int .i64 (p : Nat), us 3, .pointer (some ⟨mb, 0, none⟩), us 5, .slice A5 s.length c5, tv, us 8, us 9, .int .i64 (i : Nat), us 11, us 12, us 13, us 14, us 15, us 16, us 17, us 18, us 19, us 20, us 21, us 22, us 23, us 24, us 25, us 26, us 27, us 28, us 29, us 30, us 31, us 32, us 33, us 34, us 35, us 36, us 37, us 38, us 39, us 40, us 41, us 42, us 43, us 44, us 45, us 46, us 47, us 48, us 49, us 50, us 51, us 52, us 53, us 54, us 55, us 56, us 57, us 58, us 59, us 60, us 61, us 62, us 63, us 64, us 65, us 66, us 67, us 68, us 69, us 70, us 71, us 72, us 73, us 74, us 75, us 76, us 77, us 78, us 79, us 80, us 81, us 82, us 83, us 84, us 85, us 86, us 87, us 88, us 89, us 90, us 91, us 92, us 93, us 94, us 95, us 96, us 97, us 98, us 99, us 100, us 101, us 102, us 103, us 104, us 105, us 106, us 107, us 108, us 109, us 110, us 111, us 112, us 113, us 114, us 115, us 116, us 117, us 118, us 119, us 120, us 121, us 122, us 123, us 124, us 125, us 126, us 127, us 128], defers := [] }
theorem arr_eta (a : Array Value) : a = ((List.range a.size).map fun i => a.getD i undef).toArray := by
  apply Array.ext
  · simp
  · intro i h1 h2
    simp [Array.getD, h1]
set_option maxRecDepth 100000 in
theorem frame129 (t : Array Value) (hs : t.size = 129) : t = #[t.getD 0 undef, t.getD 1 undef, t.getD 2 undef, t.getD 3 undef, t.getD 4 undef, t.getD 5 undef, t.getD 6 undef, t.getD 7 undef, t.getD 8 undef, t.getD 9 undef, t.getD 10 undef, t.getD 11 undef, t.getD 12 undef, t.getD 13 undef, t.getD 14 undef, t.getD 15 undef, t.getD 16 undef, t.getD 17 undef, t.getD 18 undef, t.getD 19 undef, t.getD 20 undef, t.getD 21 undef, t.getD 22 undef, t.getD 23 undef, t.getD 24 undef, t.getD 25 undef, t.getD 26 undef, t.getD 27 undef, t.getD 28 undef, t.getD 29 undef, t.getD 30 undef, t.getD 31 undef, t.getD 32 undef, t.getD 33 undef, t.getD 34 undef, t.getD 35 undef, t.getD 36 undef, t.getD 37 undef, t.getD 38 undef, t.getD 39 undef, t.getD 40 undef, t.getD 41 undef, t.getD 42 undef, t.getD 43 undef, t.getD 44 undef, t.getD 45 undef, t.getD 46 undef, t.getD 47 undef, t.getD 48 undef, t.getD 49 undef, t.getD 50 undef, t.getD 51 undef, t.getD 52 undef, t.getD 53 undef, t.getD 54 undef, t.getD 55 undef, t.getD 56 undef, t.getD 57 undef, t.getD 58 undef, t.getD 59 undef, t.getD 60 undef, t.getD 61 undef, t.getD 62 undef, t.getD 63 undef, t.getD 64 undef, t.getD 65 undef, t.getD 66 undef, t.getD 67 undef, t.getD 68 undef, t.getD 69 undef, t.getD 70 undef, t.getD 71 undef, t.getD 72 undef, t.getD 73 undef, t.getD 74 undef, t.getD 75 undef, t.getD 76 undef, t.getD 77 undef, t.getD 78 undef, t.getD 79 undef, t.getD 80 undef, t.getD 81 undef, t.getD 82 undef, t.getD 83 undef, t.getD 84 undef, t.getD 85 undef, t.getD 86 undef, t.getD 87 undef, t.getD 88 undef, t.getD 89 undef, t.getD 90 undef, t.getD 91 undef, t.getD 92 undef, t.getD 93 undef, t.getD 94 undef, t.getD 95 undef, t.getD 96 undef, t.getD 97 undef, t.getD 98 undef, t.getD 99 undef, t.getD 100 undef, t.getD 101 undef, t.getD 102 undef, t.getD 103 undef, t.getD 104 undef, t.getD 105 undef, t.getD 106 undef, t.getD 107 undef, t.getD 108 undef, t.getD 109 undef, t.getD 110 undef, t.getD 111 undef, t.getD 112 undef, t.getD 113 undef, t.getD 114 undef, t.getD 115 undef, t.getD 116 undef, t.getD 117 undef, t.getD 118 undef, t.getD 119 undef, t.getD 120 undef, t.getD 121 undef, t.getD 122 undef, t.getD 123 undef, t.getD 124 undef, t.getD 125 undef, t.getD 126 undef, t.getD 127 undef, t.getD 128 undef] := by
  have h := arr_eta t
  rw [hs] at h
  exact h
set_option maxRecDepth 100000 in
theorem PartJ.mk' {w0 wr : World} {lo pb mb : Nat} {k t a : Int} {hvv lvv : Value} {nl : Nat} {x2 x3 : List Value} {live : List Bool} {tt ta : Int} {A2 : Option Addr} {n2 c2 : Nat} {A3 : Option Addr} {n3 c3 : Nat} {A4 : Option Addr} {n4 c4 : Nat} {A5 : Option Addr} {c5 : Nat} {s : List Nat} {row : List Int} {p : Nat} {ms : List Mv} {lost : List Int} {X : List (List Int)} {rv : Nat → Value} {F : Nat → Ent} {V : PV} {tv : Value} {loads : List Int} {ms1 : List Mv} {i : Nat} {t' : Array Value}
    (HU : PartA w0 wr lo pb mb k t a hvv lvv nl x2 x3 live tt ta A2 n2 c2 A3 n3 c3 A4 n4 c4 A5 c5 s row p ms lost X rv F V tv loads ms1 i) (hs : t'.size = 129)
    (h0 : t'.getD 0 undef = .pointer (some ⟨pb, 0, none⟩)) (h1 : t'.getD 1 undef = .agg #[.int .i64 tt, .int .i64 ta, .slice A2 n2 c2, .slice A3 n3 c3, .slice A4 n4 c4]) (h2 : t'.getD 2 undef = .int .i64 (p : Nat)) (h4 : t'.getD 4 undef = .pointer (some ⟨mb, 0, none⟩)) (h6 : t'.getD 6 undef = .slice A5 s.length c5) (h7 : t'.getD 7 undef = tv) (h10 : t'.getD 10 undef = .int .i64 (i : Nat)) :
    PartJ w0 lo pb mb k t a hvv lvv nl x2 x3 live tt ta A2 n2 c2 A3 n3 c3 A4 n4 c4 A5 c5 s row p ms lost X rv { tmps := t', defers := [] } wr := by
  have e := frame129 t' hs
  rw [h0, h1, h2, h4, h6, h7, h10] at e
  exact ⟨F, V, tv, loads, ms1, i, fun i => t'.getD i undef, HU, congrArg (fun t => Act.mk t []) e⟩
theorem wrap_rng (x : Int) : -9223372036854775808 ≤ wrap64 x ∧ wrap64 x ≤ 9223372036854775807 := by
  unfold wrap64
  omega
theorem clone_pool {w : World} {lo : Nat} {F : Nat → Ent} {g c : Nat} {s : List Nat} (HP : Pool w lo F) (hE : F 9 = ⟨3, 1, .slice (some ⟨g, 0, none⟩) s.length c, s.length, zv (castL s)⟩) (k : Nat) (hk : k ≤ s.length) (hs : s.length ≤ 1000000) :
    Calls Try.prog 17 #[.slice (some ⟨g, 0, none⟩) k c] w fun e w' => ∃ v, e = .returned v ∧ w'.ownsRow w.heap.size 3 1 v k (zv (castL (s.take k))) ∧ Below w.heap.size w w' := by
  refine clone_int _ k c (zv (castL (s.take k))) w (.inr ⟨g, 0, rfl, fun j u hu => ?_⟩) (fun u hu => ?_) (by rw [zv_length, castL_length, List.length_take]; omega) (by omega)
  · rw [add_off, Nat.zero_add]
    refine HP.cell 9 hE rfl ?_
    obtain ⟨hj, rfl⟩ := List.getElem?_eq_some_iff.1 hu
    rw [zv_length, castL_length, List.length_take] at hj
    simp [zv, castL, show j < s.length by omega]
  · obtain ⟨x, _, rfl⟩ := List.mem_map.1 hu
    rfl
theorem cell_old {w : World} {a : Addr} {v : Value} (o : Obj) (h : w.cell? a = some v) : (w.alloc o).cell? a = some v := cell_below ((Below.refl w.heap.size w).alloc (Nat.le_refl _) o) h
theorem wrap_small (n : Nat) (h : n ≤ 1000000) : wrap64 ((n : Nat) : Int) = ((n : Nat) : Int) := by
  unfold wrap64
  omega
theorem wrap_pred (r j : Nat) (h : r ≤ 1000000) (e : ((r : Nat) : Int) - 1 = (j : Nat)) : IntKind.i64.wrap (((r : Nat) : Int) - 1) = ((j : Nat) : Int) := by
  rw [e, IntKind.wrap_i64]
  have : j ≤ 1000000 := by omega
  clear e h
  omega
theorem livesB_le {live : List Bool} {w : Int} (h : livesB live w = true) : 1 ≤ w ∧ w ≤ (live.length : Int) := by
  unfold livesB at h
  rw [Bool.and_eq_true, decide_eq_true_iff] at h
  refine ⟨h.1, ?_⟩
  rcases Nat.lt_or_ge (w - 1).toNat live.length with h2 | h2
  · omega
  · rw [List.getD_eq_getElem?_getD, List.getElem?_eq_none h2] at h
    cases h.2
theorem Proc.le {live : List Bool} {base : List Int} {pr : List Nat} {i : Nat} {P : List (Nat × Nat)} (h : Proc live base pr i P) : ∀ x, x ∈ P → 1 ≤ x.2 ∧ x.2 ≤ live.length ∧ x.1 < i ∧ x.1 ∉ pr := by
  induction h with
  | zero => intro x hx; cases hx
  | none _ _ ih => intro x hx; have := ih x hx; exact ⟨this.1, this.2.1, by omega, this.2.2.2⟩
  | held _ _ ih => intro x hx; have := ih x hx; exact ⟨this.1, this.2.1, by omega, this.2.2.2⟩
  | move _ hn hr hf ih =>
    intro x hx
    rcases List.mem_append.1 hx with h1 | h1
    · have := ih x h1; exact ⟨this.1, this.2.1, by omega, this.2.2.2⟩
    · obtain rfl := List.mem_singleton.1 h1
      have := (hf.yes hr).1
      exact ⟨by show 1 ≤ _; omega, this, by show _ < _; omega, hn⟩
theorem Proc.len {live : List Bool} {base : List Int} {pr : List Nat} {i : Nat} {P : List (Nat × Nat)} (h : Proc live base pr i P) : P.length ≤ i := by
  induction h with
  | zero => exact Nat.le_refl _
  | none _ _ ih => omega
  | held _ _ ih => omega
  | move _ _ _ _ ih => rw [List.length_append, List.length_singleton]; omega
theorem taken_le {live : List Bool} {row : List Int} {s : List Nat} {i : Nat} {P : List (Nat × Nat)} (h : Proc live (s.map fun i => row.getD i 0) s i P) (hs : ∀ x, x ∈ s → x < row.length ∧ livesB live (row.getD x 0) = true) (hl : live.length ≤ 1000000) :
    ∀ x, x ∈ (s.map fun i => row.getD i 0) ++ tos P → -9223372036854775808 ≤ x ∧ x ≤ 9223372036854775807 := fun x hx => by
  rcases List.mem_append.1 hx with h1 | h1
  · obtain ⟨y, hy, rfl⟩ := List.mem_map.1 h1
    have := livesB_le (hs y hy).2
    omega
  · obtain ⟨y, hy, rfl⟩ := List.mem_map.1 h1
    have := h.le y hy
    omega
end Go.Proofs.Ytpologlcfohjeaa.MendW
