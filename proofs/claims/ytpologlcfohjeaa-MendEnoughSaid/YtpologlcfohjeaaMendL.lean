/- mend.Make walked. -/
import Derived.Test.YtpologlcfohjeaaMendK
set_option linter.unusedVariables false
set_option linter.unusedSimpArgs false
namespace Go.Proofs.Ytpologlcfohjeaa.MendW
open Go.RowKit Go.Proofs.Ytpologlcfohjeaa.Base
/-- What a plan is, up to a part: whatever the loads. -/
inductive PlanRel (live : List Bool) (hv : List (List Bool)) (hm : List (List Int)) (k : Nat) : Nat → List Mv → List Int → List (List Int) → Prop
  | zero : PlanRel live hv hm k 0 [] [] hm
  | lost {i : Nat} {ms : List Mv} {ls : List Int} {X : List (List Int)} : PlanRel live hv hm k i ms ls X → (presOf hv live hm i).length < k → PlanRel live hv hm k (i + 1) ms (ls ++ [((i : Nat) : Int)]) X
  | part {i : Nat} {ms ms1 : List Mv} {ls : List Int} {X : List (List Int)} : PlanRel live hv hm k i ms ls X → k ≤ (presOf hv live hm i).length → (∀ m, m ∈ ms1 → m.part = i ∧ m.fl = castL ((presOf hv live hm i).take k)) →
      Proc live ((presOf hv live hm i).map fun j => (hm.getD i []).getD j 0) (presOf hv live hm i) (hm.getD i []).length (ms1.map fun m => (m.at_, m.dst)) → PlanRel live hv hm k (i + 1) (ms ++ ms1) ls (X.set i (ap (hm.getD i []) (ms1.map fun m => (m.at_, m.dst))))
section
variable {live : List Bool} {hv : List (List Bool)} {hm : List (List Int)} {k i : Nat} {ms : List Mv} {ls : List Int} {X : List (List Int)}
theorem PlanRel.len (h : PlanRel live hv hm k i ms ls X) : X.length = hm.length := by
  induction h with
  | zero => rfl
  | lost _ _ ih => exact ih
  | part _ _ _ _ ih => rw [List.length_set]; exact ih
theorem PlanRel.ahead (h : PlanRel live hv hm k i ms ls X) : ∀ j, i ≤ j → X.getD j [] = hm.getD j [] := by
  induction h with
  | zero => intro j _; rfl
  | lost _ _ ih => intro j hj; exact ih j (by omega)
  | part _ _ _ _ ih =>
    intro j hj
    rw [List.getD_eq_getElem?_getD, List.getElem?_set_ne (by omega), ← List.getD_eq_getElem?_getD]
    exact ih j (by omega)
theorem PlanRel.lost_len (h : PlanRel live hv hm k i ms ls X) : ls.length ≤ i := by
  induction h with
  | zero => simp
  | lost _ _ ih => rw [List.length_append, List.length_singleton]; omega
  | part _ _ _ _ ih => omega
theorem PlanRel.moves_len (h : PlanRel live hv hm k i ms ls X) (hr : ∀ j, (hm.getD j []).length ≤ 1000) : ms.length ≤ 1000 * i := by
  induction h with
  | zero => simp
  | lost _ _ ih => omega
  | part _ _ _ hp ih =>
    have h1 := hp.len
    rw [List.length_map] at h1
    have h2 := hr ‹Nat›
    rw [List.length_append]
    rename_i i' _ _ _ _ _ _ _
    have h3 := hr i'
    omega
end
theorem getD_le {hm : List (List Int)} (h : ∀ i (h : i < hm.length), hm[i].length ≤ 1000) (j : Nat) : (hm.getD j []).length ≤ 1000 := by
  rw [List.getD_eq_getElem?_getD]
  by_cases hj : j < hm.length
  · rw [List.getElem?_eq_getElem hj]; exact h j hj
  · rw [List.getElem?_eq_none (by omega)]; simp
theorem part_rel {live : List Bool} {hv : List (List Bool)} {hm : List (List Int)} {k i : Nat} {ms ms1 : List Mv} {ls ls1 : List Int} {X : List (List Int)} (h : PlanRel live hv hm k i ms ls X)
    (hor : (((presOf hv live hm i).length : Int) < (k : Int) ∧ ms1 = [] ∧ ls1 = [(i : Int)]) ∨ ((k : Int) ≤ ((presOf hv live hm i).length : Int) ∧ ls1 = [] ∧ (∀ m, m ∈ ms1 → m.part = i ∧ m.fl = castL ((presOf hv live hm i).take (k : Int).toNat)) ∧ Proc live ((presOf hv live hm i).map fun j => (hm.getD i []).getD j 0) (presOf hv live hm i) (hm.getD i []).length (ms1.map fun m => (m.at_, m.dst)))) (hi : i < hm.length) :
    PlanRel live hv hm k (i + 1) (ms ++ ms1) (ls ++ ls1) (X.set i (ap (hm.getD i []) (ms1.map fun m => (m.at_, m.dst)))) := by
  rcases hor with ⟨h1, rfl, rfl⟩ | ⟨h1, rfl, h2, h3⟩
  · rw [List.append_nil, List.map_nil, show X.set i (ap (hm.getD i []) []) = X from set_same (h.ahead i (Nat.le_refl _)) (by rw [h.len]; exact hi)]
    exact h.lost (by omega)
  · rw [List.append_nil]
    exact h.part (by omega) h2 h3
theorem part_any (w0 w : World) (pb k : Nat) (t a tt ta : Int) (Ah : Option Addr) (nh ch : Nat) (Al : Option Addr) (nl cl : Nat) (x2 x3 : List Value) (hv : List (List Bool)) (live : List Bool) (hm : List (List Int)) (A2 : Option Addr) (n2 c2 : Nat) (A3 : Option Addr) (n3 c3 : Nat) (A4 : Option Addr) (n4 c4 : Nat) (p : Nat) (hp : p < n4)
    (F : Nat → Ent) (V : PV) (loads : List Int) (ms : List Mv) (lost : List Int) (X : List (List Int)) (rv : Nat → Value) (HB : Below w0.heap.size w0 w) (HP : Pool w w0.heap.size F) (hll : loads.length = nl) (hle : ∀ x, x ∈ loads → -9223372036854775808 ≤ x ∧ x ≤ 9223372036854775807)
    (HS : PlanP F pb k t a (.slice Ah nh ch) (.slice Al nl cl) nl x2 x3 V loads ms lost X rv) (hpx : X.getD p [] = hm.getD p []) (hX : X.length = n4) (hlo : lost.length ≤ 1000) (hms : ms.length ≤ 1000000) (hnl : nl ≤ 1000000)
    (hH : IRows w0 A4 hm) (hl : hm.length = n4) (hr : ∀ i (h : i < hm.length), hm[i].length ≤ 1000) (hV : BRows w0 Ah hv) (hvl : hv.length = nh) (hB : Bools w0 Al live) (hlv : live.length = nl) (hk : 1 ≤ k) :
    Calls Try.prog 19 #[.pointer (some ⟨pb, 0, none⟩), .agg #[.int .i64 tt, .int .i64 ta, .slice A2 n2 c2, .slice A3 n3 c3, .slice A4 n4 c4], .int .i64 (p : Nat)] w
      (PartPost w0 w w0.heap.size pb k t a (.slice Ah nh ch) (.slice Al nl cl) nl x2 x3 live (presOf hv live hm p) (hm.getD p []) p ms lost X rv) := by
  by_cases h : k ≤ (presOf hv live hm p).length
  · exact part_go w0 w pb k t a tt ta Ah nh ch Al nl cl x2 x3 hv live hm A2 n2 c2 A3 n3 c3 A4 n4 c4 p hp F V loads ms lost X rv HB HP hll hle HS hpx hX hms hnl hH hl hr hV hvl hB hlv h hk
  · exact part_lost w0 w w0.heap.size pb k t a tt ta Ah nh ch Al nl cl x2 x3 hv live hm A2 n2 c2 A3 n3 c3 A4 n4 c4 p hp F V loads ms lost X rv HB HB.size HP hll hle HS hpx hX hlo (hH.below HB) hl (fun i hi => by have := hr i hi; omega) (hV.below HB) hvl (hB.below HB) hlv (by omega)
def uv (l : List Int) : List Value := l.map (Value.int .u32)
theorem uv_length (l : List Int) : (uv l).length = l.length := by simp [uv]
theorem clone_ints {w : World} {A : Option Addr} {l : List Int} {n c : Nat} (h : Ints w A l) (hl : l.length = n) (hn : n ≤ 1000000) :
    Calls Try.prog 17 #[.slice A n c] w fun e w' => ∃ v, e = .returned v ∧ w'.ownsRow w.heap.size 3 1 v n (zv l) ∧ Below w.heap.size w w' := by
  refine clone_int A n c (zv l) w ?_ (fun u hu => ?_) (by rw [zv_length]; exact hl) hn
  · rcases h.at_ with h1 | ⟨b, off, rfl, hc⟩
    · exact .inl (by rw [h1]; rfl)
    · refine .inr ⟨b, off, rfl, fun j u hu => ?_⟩
      obtain ⟨hj, rfl⟩ := List.getElem?_eq_some_iff.1 hu
      rw [add_off, hc j (by rw [zv_length] at hj; exact hj)]
      simp [zv]
  · obtain ⟨x, _, rfl⟩ := List.mem_map.1 hu
    rfl
theorem clone_u32s {w : World} {A : Option Addr} {l : List Int} {n c : Nat} (h : U32s w A l) (hl : l.length = n) (hn : n ≤ 1000000) :
    Calls Try.prog 31 #[.slice A n c] w fun e w' => ∃ v, e = .returned v ∧ w'.ownsRow w.heap.size 49 1 v n (uv l) ∧ Below w.heap.size w w' := by
  refine clone_u32 A n c (uv l) w ?_ (fun u hu => ?_) (by rw [uv_length]; exact hl) hn
  · rcases h.at_ with h1 | ⟨b, off, rfl, hc⟩
    · exact .inl (by rw [h1]; rfl)
    · refine .inr ⟨b, off, rfl, fun j u hu => ?_⟩
      obtain ⟨hj, rfl⟩ := List.getElem?_eq_some_iff.1 hu
      rw [add_off, hc j (by rw [uv_length] at hj; exact hj)]
      simp [uv]
  · obtain ⟨x, _, rfl⟩ := List.mem_map.1 hu
    rfl
theorem pool_setRow_below {w : World} {lo g : Nat} {F : Nat → Ent} (h : Pool w lo F) (hg : g < lo) (cs : Array Value) : Pool (w.setRow g cs) lo F :=
  ⟨fun a => pool_heap (h.own a) fun k hk => setRow_other w g k cs (by have := (h.lt a hk).1; omega), h.ne⟩
/-- What Make answers. -/
def MadePost (w : World) (t a : Int) (x2 x3 : List Value) (live : List Bool) (hv : List (List Bool)) (hm : List (List Int)) (k : Nat) (e : Ending) (w' : World) : Prop :=
  ∃ lo pb F hvv lvv V nl loads ms ls X rv, e = .returned (.tuple #[.agg #[V.mv, V.ov, .int .i64 t, .int .i64 a, V.v2, V.v3, V.v4], .int .i64 0]) ∧ Below w.heap.size w w' ∧ w.heap.size ≤ lo ∧ Pool w' lo F ∧ PlanP F pb k t a hvv lvv nl x2 x3 V loads ms ls X rv ∧ PlanRel live hv hm k hm.length ms ls X
theorem start_plan {F : Nat → Ent} {pb nl : Nat} {k t a : Int} {hvv lvv ld v2 v3 v4 : Value} {x2 x3 : List Value} {loads : List Int} {hm : List (List Int)} {rv : Nat → Value}
    (h0 : F 0 = ⟨3, 1, v2, x2.length, x2⟩) (h1 : F 1 = ⟨49, 1, v3, x3.length, x3⟩) (h2 : F 2 = ⟨22, 1, v4, hm.length, (List.range hm.length).map rv⟩) (h3 : F 3 = ⟨3, 1, ld, nl, zv loads⟩) (h4 : F 4 = ⟨3, 1, .slice none 0 0, 0, []⟩) (h5 : F 5 = ⟨38, 4, .slice none 0 0, 0, []⟩)
    (h6 : F 6 = ⟨55, 11, .slice (some ⟨pb, 0, none⟩) 1 1, 1, [.int .i64 k, hvv, lvv, ld, .slice none 0 0, .slice none 0 0, .int .i64 t, .int .i64 a, v2, v3, v4]⟩) (hr : ∀ i (h : i < hm.length), F (2 * i + 10) = ⟨3, 1, rv i, hm[i].length, zv hm[i]⟩) :
    PlanP F pb k t a hvv lvv nl x2 x3 ⟨ld, .slice none 0 0, .slice none 0 0, v2, v3, v4⟩ loads [] [] hm rv :=
  ⟨h0, h1, h2, h3, h4, h5, h6, hr, fun i hi => by simp at hi⟩
theorem results_cell_slot {P : Program} {fn : Func} {p q : Tmp} {ty : TypeId} (h : fn.results = #[.cell p ty, .tmp q]) (tmps : Array Value) (w : World) (g : Nat) (t : TypeId) (cs : Array Value) (fr : Nat × Nat) (d : TypeDesc) {v : Value}
    (hp : tmps.getD p undef = .pointer (some ⟨g, 0, none⟩)) (hg : w.heap[g]? = some (.cells cs t fr))
    (hu : P.underlying ty = some d) (hd : (match d with | .struct _ | .array _ _ => true | _ => false) = true) (hi : (P.info? ty).map (·.size) = some cs.size) (hq : tmps.getD q undef = v) :
    (results fn tmps).run P w = .ok (.tuple #[.agg cs, v]) w := by
  have hp' : tmps[p]?.getD undef = .pointer (some ⟨g, 0, none⟩) := by simpa using hp
  have hq' : tmps[q]?.getD undef = v := by simpa using hq
  simp [results, h, hp', hq', asAddr, run_loadVar_row w g t ty cs fr d hg hu hd hi]
set_option maxRecDepth 100000 in
set_option maxHeartbeats 4000000 in
/-- What is not to be planned. -/
theorem make_bad (t a : Int) (A2 : Option Addr) (n2 c2 : Nat) (A3 : Option Addr) (n3 c3 : Nat) (A4 : Option Addr) (n4 c4 : Nat) (k : Int) (Ah : Option Addr) (nh ch : Nat) (Al : Option Addr) (nl cl : Nat) (Ao : Option Addr) (no co : Nat) (w : World)
    (hbad : ¬ (1 ≤ k ∧ 0 < nl ∧ nl ≤ 16 ∧ no = nl)) :
    Calls Try.prog 8 #[.agg #[.int .i64 t, .int .i64 a, .slice A2 n2 c2, .slice A3 n3 c3, .slice A4 n4 c4], .int .i64 k, .slice Ah nh ch, .slice Al nl cl, .slice Ao no co] w fun e w' => e = .returned (.tuple #[.agg #[.slice none 0 0, .slice none 0 0, .int .i64 0, .int .i64 0, .slice none 0 0, .slice none 0 0, .slice none 0 0], .int .i64 1]) ∧ Below w.heap.size w w' := by
  have hA : ((w.alloc (.cells #[.int .i64 t, .int .i64 a, .slice A2 n2 c2, .slice A3 n3 c3, .slice A4 n4 c4] 26)).alloc (.cells #[.slice none 0 0, .slice none 0 0, .int .i64 0, .int .i64 0, .slice none 0 0, .slice none 0 0, .slice none 0 0] 33)).heap[w.heap.size + 1]? = some (.cells #[.slice none 0 0, .slice none 0 0, .int .i64 0, .int .i64 0, .slice none 0 0, .slice none 0 0, .slice none 0 0] 33 (0, 0)) := by
    have h := heap_alloc_new (w.alloc (.cells #[.int .i64 t, .int .i64 a, .slice A2 n2 c2, .slice A3 n3 c3, .slice A4 n4 c4] 26)) (.cells #[.slice none 0 0, .slice none 0 0, .int .i64 0, .int .i64 0, .slice none 0 0, .slice none 0 0, .slice none 0 0] 33)
    simpa using h
  have HB : Below w.heap.size w ((w.alloc (.cells #[.int .i64 t, .int .i64 a, .slice A2 n2 c2, .slice A3 n3 c3, .slice A4 n4 c4] 26)).alloc (.cells #[.slice none 0 0, .slice none 0 0, .int .i64 0, .int .i64 0, .slice none 0 0, .slice none 0 0, .slice none 0 0] 33)) := ((Below.refl _ _).alloc (Nat.le_refl _) _).alloc (by simp) _
  have hone : (#[.slice none 0 0, .slice none 0 0, .int .i64 0, .int .i64 0, .slice none 0 0, .slice none 0 0, .slice none 0 0] : Array Value).all (·.oneCell') = true := by simp [Value.oneCell']
  have hi33 : (Try.prog.info? 33).map (·.size) = some 7 := by kernel_rfl
  go_enter Try.func8, Try.ntmps8
  go_upto_region 1 with fail
  generalize (w.alloc (.cells #[.int .i64 t, .int .i64 a, .slice A2 n2 c2, .slice A3 n3 c3, .slice A4 n4 c4] 26)).alloc (.cells #[.slice none 0 0, .slice none 0 0, .int .i64 0, .int .i64 0, .slice none 0 0, .slice none 0 0, .slice none 0 0] 33) = W at hA HB ⊢
  have fin : ∀ (tmps : Array Value), tmps.getD 10 undef = .pointer (some ⟨w.heap.size + 1, 0, none⟩) → tmps.getD 11 undef = .int .i64 1 → bodyPost Try.prog Try.f8 (fun e w' => e = .returned (.tuple #[.agg #[.slice none 0 0, .slice none 0 0, .int .i64 0, .int .i64 0, .slice none 0 0, .slice none 0 0, .slice none 0 0], .int .i64 1]) ∧ Below w.heap.size w w') .ret { tmps := tmps, defers := [] } (W.setRow (w.heap.size + 1) #[.slice none 0 0, .slice none 0 0, .int .i64 0, .int .i64 0, .slice none 0 0, .slice none 0 0, .slice none 0 0]) := fun tmps h1 h2 => by
    refine bodyPost_ret (results_cell_slot rfl _ _ (w.heap.size + 1) 33 _ (0, 0) _ h1 (setRow_heap _ _ _ #[.slice none 0 0, .slice none 0 0, .int .i64 0, .int .i64 0, .slice none 0 0, .slice none 0 0, .slice none 0 0] _ _ hA) Try.underlying33 rfl hi33 h2) rfl ?_
    exact ⟨rfl, HB.trans ⟨rfl, rfl, rfl, by simp, fun k hk => setRow_other W _ k _ (by omega)⟩⟩
  have FIN := Lib.hid fin
  clear fin
  by_cases h1 : k < 1
  · have t1 : decide (k < 1) = true := by simp [h1]
    clear hbad h1
    go_wp2_with (refine wpList_store_row rfl 33 (.tmp 10) (.tmp 33) rfl (w.heap.size + 1) #[.slice none 0 0, .slice none 0 0, .int .i64 0, .int .i64 0, .slice none 0 0, .slice none 0 0, .slice none 0 0] rfl rfl 33 #[.slice none 0 0, .slice none 0 0, .int .i64 0, .int .i64 0, .slice none 0 0, .slice none 0 0, .slice none 0 0] hA hi33 rfl hone ?_)
    exact FIN.out _ rfl rfl
  · have t1 : decide (k < 1) = false := by simp [h1]
    by_cases h2 : nl = 0
    · have t2 : (((nl : Nat) : Int) == 0) = true := by simp [h2]
      clear hbad h1 h2
      go_wp2_with (refine wpList_store_row rfl 33 (.tmp 10) (.tmp 33) rfl (w.heap.size + 1) #[.slice none 0 0, .slice none 0 0, .int .i64 0, .int .i64 0, .slice none 0 0, .slice none 0 0, .slice none 0 0] rfl rfl 33 #[.slice none 0 0, .slice none 0 0, .int .i64 0, .int .i64 0, .slice none 0 0, .slice none 0 0, .slice none 0 0] hA hi33 rfl hone ?_)
      exact FIN.out _ rfl rfl
    · have t2 : (((nl : Nat) : Int) == 0) = false := by simp; omega
      have t2' : (nl == 0) = false := by simp; omega
      by_cases h3 : 16 < nl
      · have t3 : decide ((16 : Int) < ((nl : Nat) : Int)) = true := by simp; omega
        have t3' : decide (16 < nl) = true := by simp; omega
        clear hbad h1 h2 h3
        go_wp2_with (refine wpList_store_row rfl 33 (.tmp 10) (.tmp 33) rfl (w.heap.size + 1) #[.slice none 0 0, .slice none 0 0, .int .i64 0, .int .i64 0, .slice none 0 0, .slice none 0 0, .slice none 0 0] rfl rfl 33 #[.slice none 0 0, .slice none 0 0, .int .i64 0, .int .i64 0, .slice none 0 0, .slice none 0 0, .slice none 0 0] hA hi33 rfl hone ?_)
        exact FIN.out _ rfl rfl
      · have t3 : decide ((16 : Int) < ((nl : Nat) : Int)) = false := by simp; omega
        have t3' : decide (16 < nl) = false := by simp; omega
        have hne : no ≠ nl := by omega
        have t4 : (((no : Nat) : Int) != ((nl : Nat) : Int)) = true := by simp; omega
        have t4' : (no != nl) = true := by simp; omega
        clear hbad h1 h2 h3 hne
        go_wp2_with (refine wpList_store_row rfl 33 (.tmp 10) (.tmp 33) rfl (w.heap.size + 1) #[.slice none 0 0, .slice none 0 0, .int .i64 0, .int .i64 0, .slice none 0 0, .slice none 0 0, .slice none 0 0] rfl rfl 33 #[.slice none 0 0, .slice none 0 0, .int .i64 0, .int .i64 0, .slice none 0 0, .slice none 0 0, .slice none 0 0] hA hi33 rfl hone ?_)
        exact FIN.out _ rfl rfl
set_option maxRecDepth 100000 in
set_option maxHeartbeats 4000000 in
theorem make_ok (t a : Int) (A2 : Option Addr) (n2 c2 : Nat) (A3 : Option Addr) (n3 c3 : Nat) (A4 : Option Addr) (n4 c4 : Nat) (k : Nat) (Ah : Option Addr) (nh ch : Nat) (Al : Option Addr) (nl cl : Nat) (Ao : Option Addr) (co : Nat) (sz sm : List Int) (hm : List (List Int)) (hv : List (List Bool)) (live : List Bool) (loads : List Int) (w : World)
    (hk : 1 ≤ k) (hnl : 0 < nl) (hnl2 : nl ≤ 16) (hS : Ints w A2 sz) (hsl : sz.length = n2) (hs9 : n2 ≤ 1000000) (hU : U32s w A3 sm) (hul : sm.length = n3) (hu9 : n3 ≤ 1000000)
    (hH : IRows w A4 hm) (hl : hm.length = n4) (hl9 : n4 ≤ 1000) (hr : ∀ i (h : i < hm.length), hm[i].length ≤ 1000) (hV : BRows w Ah hv) (hvl : hv.length = nh) (hB : Bools w Al live) (hlv : live.length = nl) (hO : Ints w Ao loads) (hol : loads.length = nl) :
    Calls Try.prog 8 #[.agg #[.int .i64 t, .int .i64 a, .slice A2 n2 c2, .slice A3 n3 c3, .slice A4 n4 c4], .int .i64 (k : Nat), .slice Ah nh ch, .slice Al nl cl, .slice Ao nl co] w (MadePost w t a (zv sz) (uv sm) live hv hm k) := by
  have hr6 : ∀ i (h : i < hm.length), hm[i].length ≤ 1000000 := fun i h => by have := hr i h; omega
  have KO := Lib.hid (fun W (h : Below w.heap.size w W) => clone_ints (hO.below h) (c := co) hol (by omega))
  have KC := Lib.hid (fun W (h : Below w.heap.size w W) => copied_any t a A2 n2 c2 A3 n3 c3 A4 n4 c4 (zv sz) (uv sm) hm W (by rw [zv_length]; exact hsl) (by rw [uv_length]; exact hul) (by omega) (hH.below h) hl hr6
    (fun W2 h2 => clone_ints ((hS.below h).below h2) hsl hs9) (fun W2 h2 => clone_u32s ((hU.below h).below h2) hul hu9))
  have HH := Lib.hid hH
  have HV := Lib.hid hV
  have HBL := Lib.hid hB
  have HL := Lib.hid hl
  have HR := Lib.hid hr
  have HVL := Lib.hid hvl
  have HLV := Lib.hid hlv
  have HOL := Lib.hid hol
  have HOLE := Lib.hid hO.le
  have HSL := Lib.hid hsl
  have HUL := Lib.hid hul
  have t1 : decide (((k : Nat) : Int) < 1) = false := by simp; omega
  have t1' : decide (k < 1) = false := by simp; omega
  have t2 : (((nl : Nat) : Int) == 0) = false := by simp; omega
  have t2' : (nl == 0) = false := by simp; omega
  have t3 : decide ((16 : Int) < ((nl : Nat) : Int)) = false := by simp; omega
  have t3' : decide (16 < nl) = false := by simp; omega
  have t4 : (((nl : Nat) : Int) != ((nl : Nat) : Int)) = false := by simp
  clear hH hV hB hl hr hr6 hvl hlv hol hO hS hU hsl hul
  go_enter Try.func8, Try.ntmps8
  go_upto_region 1 with fail
  have hs1 : (w.alloc (.cells #[.int .i64 t, .int .i64 a, .slice A2 n2 c2, .slice A3 n3 c3, .slice A4 n4 c4] 26)).heap.size = w.heap.size + 1 := by simp
  have HM := ManBox.mk' w t a A2 n2 c2 A3 n3 c3 A4 n4 c4
  have HB0 : Below w.heap.size w (w.alloc (.cells #[.int .i64 t, .int .i64 a, .slice A2 n2 c2, .slice A3 n3 c3, .slice A4 n4 c4] 26)) := (Below.refl _ _).alloc (Nat.le_refl _) _
  generalize w.alloc (.cells #[.int .i64 t, .int .i64 a, .slice A2 n2 c2, .slice A3 n3 c3, .slice A4 n4 c4] 26) = W0 at HM HB0 hs1 ⊢
  have hA := heap_alloc_new W0 (.cells #[.slice none 0 0, .slice none 0 0, .int .i64 0, .int .i64 0, .slice none 0 0, .slice none 0 0, .slice none 0 0] 33)
  rw [hs1] at hA
  replace HM := HM.below ((Below.refl _ _).alloc (Nat.le_refl _) (.cells #[.slice none 0 0, .slice none 0 0, .int .i64 0, .int .i64 0, .slice none 0 0, .slice none 0 0, .slice none 0 0] 33))
  replace HB0 := HB0.alloc HB0.size (.cells #[.slice none 0 0, .slice none 0 0, .int .i64 0, .int .i64 0, .slice none 0 0, .slice none 0 0, .slice none 0 0] 33)
  have hs2 : (W0.alloc (.cells #[.slice none 0 0, .slice none 0 0, .int .i64 0, .int .i64 0, .slice none 0 0, .slice none 0 0, .slice none 0 0] 33)).heap.size = w.heap.size + 2 := by simp [hs1]
  generalize W0.alloc (.cells #[.slice none 0 0, .slice none 0 0, .int .i64 0, .int .i64 0, .slice none 0 0, .slice none 0 0, .slice none 0 0] 33) = W at HM HB0 hA hs2 ⊢
  clear hs1
  have HMH := Lib.hid HM
  obtain ⟨m0, m1, m2, m3, m4⟩ := HM
  have HBW : Below W.heap.size W W.drew := (Below.refl _ _).drew
  have HP := Lib.hid (Pool.nil W.drew W.heap.size (κ := Nat))
  go_upto_region 3 with fail
  go_cut [12] (fun s12 wx => ∃ pb F v2 v3 v4 ld rv, s12 = .pointer (some ⟨pb, 0, none⟩) ∧ Below W.heap.size W wx ∧ Pool wx W.heap.size F ∧ PlanP F pb k t a (.slice Ah nh ch) (.slice Al nl cl) nl (zv sz) (uv sm) ⟨ld, .slice none 0 0, .slice none 0 0, v2, v3, v4⟩ loads [] [] hm rv)
  case first =>
    go_region_law (first | (go_simp; go_at_call 17; (with_reducible refine (KO.out _ (HB0.trans (HBW.mono HB0.size))).mono ?_); rintro e w3 ⟨ld, rfl, O3, hd⟩; obtain ⟨B3, e3, rfl⟩ := own_sl O3; replace HP := Lib.hid (HP.out.new 3 hd HBW.size (E := ⟨3, 1, .slice B3 nl e3, nl, zv loads⟩) O3); replace m0 := cell_below hd m0; replace m1 := cell_below hd m1; replace m2 := cell_below hd m2; replace m3 := cell_below hd m3; replace m4 := cell_below hd m4; replace HBW := bt HBW HBW.size hd; clear hd O3) | (go_simp; go_at_call 18; (with_reducible refine (KC.out _ (HB0.trans (HBW.mono HB0.size))).mono ?_); rintro e w4 ⟨F1, v2, v3, v4, rv, rfl, HP1, HM1, hd⟩; obtain ⟨B4, e4, rfl⟩ := HP1.slice 0 HM1.sz; obtain ⟨B5, e5, rfl⟩ := HP1.slice 1 HM1.sm; obtain ⟨B6, e6, rfl⟩ := HP1.slice 2 HM1.top; replace HP := Lib.hid (HP.out.merge hd HP1 HBW.size (fun x => decide (x ≤ 2) || decide (10 ≤ x))); replace m0 := cell_below hd m0; replace m1 := cell_below hd m1; replace m2 := cell_below hd m2; replace m3 := cell_below hd m3; replace m4 := cell_below hd m4; replace HBW := bt HBW HBW.size hd; clear hd HP1))
    all_goals (go_wp2_with fail; go_meet)
    all_goals (
      have P4 := HP.out.new 4 (Below.refl _ _) HBW.size (E := ⟨3, 1, .slice none 0 0, 0, []⟩) (World.ownsRow_nil _ _ _ _)
      have P5 := P4.new 5 (Below.refl _ _) HBW.size (E := ⟨38, 4, .slice none 0 0, 0, []⟩) (World.ownsRow_nil _ _ _ _)
      have P6 := pool_alloc P5 6 HBW.size 55 11 #[.int .i64 (k : Nat), .slice Ah nh ch, .slice Al nl cl, .slice B3 nl e3, .slice none 0 0, .slice none 0 0, .int .i64 t, .int .i64 a, .slice B4 (zv sz).length e4, .slice B5 (uv sm).length e5, .slice B6 hm.length e6] rfl
      refine ⟨_, _, .slice B4 (zv sz).length e4, .slice B5 (uv sm).length e5, .slice B6 hm.length e6, .slice B3 nl e3, rv, rfl, HBW.alloc HBW.size _, P6, start_plan ?_ ?_ ?_ ?_ ?_ ?_ ?_ fun i hi => ?_⟩
      · exact HM1.sz
      · exact HM1.sm
      · exact HM1.top
      · rfl
      · rfl
      · rfl
      · rfl
      · rw [up_ne _ _ (by omega), up_ne _ _ (by omega), up_ne _ _ (by omega)]
        (try rw [up_ne _ _ (by omega)])
        exact (if_pos (by simp)).trans (HM1.row i hi))
  case rest =>
    clear HP HBW m0 m1 m2 m3 m4
    obtain ⟨pb, F, v2, v3, v4, ld, rv, rfl, HB, HP, HPL⟩ := hcut
    have q4 := (HMH.out.below HB).f4
    have HPP := Lib.hid HP
    have HPLL := Lib.hid HPL
    clear HP HPL
    go_wp2
    clear q4
    go_loopw [13, 47] (fun _ i wr => ∃ j : Nat, j ≤ n4 ∧ i = .int .i64 j ∧ Below W.heap.size W wr ∧ ∃ F V loads ms ls X, Pool wr W.heap.size F ∧ loads.length = nl ∧ (∀ x, x ∈ loads → -9223372036854775808 ≤ x ∧ x ≤ 9223372036854775807) ∧ PlanP F pb k t a (.slice Ah nh ch) (.slice Al nl cl) nl (zv sz) (uv sm) V loads ms ls X rv ∧ PlanRel live hv hm k j ms ls X) (fun _ i _ => n4 - (intOf i).toNat)
    case atStart => exact ⟨0, by omega, rfl, HB, F, _, loads, [], [], hm, HPP.out, HOL.out, HOLE.out, HPLL.out, PlanRel.zero⟩
    case round =>
      clear HPP HPLL HB F
      obtain ⟨j, hj, rfl, HB, F, V, loads, ms, ls, X, HP, hll, hle, HPL, HREL⟩ := hrel
      have HPP := Lib.hid HP
      have HPLL := Lib.hid HPL
      have HLL := Lib.hid hll
      have HLE := Lib.hid hle
      have HRL := Lib.hid HREL
      clear HP HPL hll hle HREL
      obtain ⟨m0, m1, m2, m3, m4⟩ := HMH.out.below HB
      by_cases hlt : j < n4
      · have HPART := Lib.hid (part_any W wr pb k t a t a Ah nh ch Al nl cl (zv sz) (uv sm) hv live hm A2 n2 c2 A3 n3 c3 A4 n4 c4 j hlt F V loads ms ls X rv HB HPP.out HLL.out HLE.out HPLL.out (HRL.out.ahead j (Nat.le_refl _)) (HRL.out.len.trans HL.out)
          (by have := HRL.out.lost_len; omega) (by have := HRL.out.moves_len (getD_le HR.out); omega) (by omega) (HH.out.below HB0) HL.out HR.out (HV.out.below HB0) HVL.out (HBL.out.below HB0) HLV.out hk)
        go_wp2_with (go_at_call 19; (with_reducible refine (HPART.out).mono ?_); rintro e w5 hpp; obtain ⟨F5, V5, loads5, ms5, ls5, rfl, HB5, HP5, hl5, hle5, HPL5, hor⟩ := hpp; have HX := Lib.hid (part_rel HRL.out hor (by have := HL.out; omega)); clear hor)
        go_roundw
        case rel => exact ⟨j + 1, by omega, by go_num, HB5, F5, V5, loads5, _, _, _, HP5, hl5, hle5, HPL5, HX.out⟩
        case measure => simp [intOf]; omega
      · obtain rfl : j = n4 := by omega
        obtain ⟨Am, cm, hmv⟩ := HPP.out.slice 5 HPLL.out.mvs
        obtain ⟨Ax, cx, hov⟩ := HPP.out.slice 4 HPLL.out.lst
        obtain ⟨A12, c12, hv2⟩ := HPP.out.slice 0 HPLL.out.sz
        obtain ⟨A13, c13, hv3⟩ := HPP.out.slice 1 HPLL.out.sm
        obtain ⟨A14, c14, hv4⟩ := HPP.out.slice 2 HPLL.out.top
        have f4 := HPP.out.cell 6 HPLL.out.box rfl (j := 4) rfl
        have f5 := HPP.out.cell 6 HPLL.out.box rfl (j := 5) rfl
        have f6 := HPP.out.cell 6 HPLL.out.box rfl (j := 6) rfl
        have f7 := HPP.out.cell 6 HPLL.out.box rfl (j := 7) rfl
        have f8 := HPP.out.cell 6 HPLL.out.box rfl (j := 8) rfl
        have f9 := HPP.out.cell 6 HPLL.out.box rfl (j := 9) rfl
        have f10 := HPP.out.cell 6 HPLL.out.box rfl (j := 10) rfl
        rw [hmv] at f4
        rw [hov] at f5
        rw [hv2] at f8
        rw [hv3] at f9
        rw [hv4] at f10
        have HVS := Lib.hid (And.intro hmv (And.intro hov (And.intro hv2 (And.intro hv3 hv4))))
        have hR := heap_below HB hA
        have HHL := Lib.hid HL.out
        have hone : (#[.slice Am ms.length cm, .slice Ax ls.length cx, .int .i64 t, .int .i64 a, .slice A12 (zv sz).length c12, .slice A13 (uv sm).length c13, .slice A14 X.length c14] : Array Value).all (·.oneCell') = true := by simp [Value.oneCell']
        have hi33 : (Try.prog.info? 33).map (·.size) = some 7 := by kernel_rfl
        have hpp : ∀ g, w.heap.size + 1 = g → g < W.heap.size := fun g hg => by omega
        have HPQ := Lib.hid (pool_setRow_below HPP.out (g := w.heap.size + 1) (by omega) #[.slice Am ms.length cm, .slice Ax ls.length cx, .int .i64 t, .int .i64 a, .slice A12 (zv sz).length c12, .slice A13 (uv sm).length c13, .slice A14 X.length c14])
        clear hmv hov hv2 hv3 hv4 m0 m1 m2 m3 m4 hA hpp
        go_wp2_with (refine wpList_store_row rfl 33 (.tmp 10) (.tmp 58) rfl (w.heap.size + 1) #[.slice Am ms.length cm, .slice Ax ls.length cx, .int .i64 t, .int .i64 a, .slice A12 (zv sz).length c12, .slice A13 (uv sm).length c13, .slice A14 X.length c14] rfl rfl 33 #[.slice none 0 0, .slice none 0 0, .int .i64 0, .int .i64 0, .slice none 0 0, .slice none 0 0, .slice none 0 0] hR hi33 rfl hone ?_)
        refine bodyPost_ret (results_cell_slot rfl _ _ (w.heap.size + 1) 33 _ (0, 0) _ rfl (setRow_heap _ _ _ #[.slice Am ms.length cm, .slice Ax ls.length cx, .int .i64 t, .int .i64 a, .slice A12 (zv sz).length c12, .slice A13 (uv sm).length c13, .slice A14 X.length c14] _ _ hR) Try.underlying33 rfl hi33 rfl) rfl ?_
        obtain ⟨e1, e2, e3, e4, e5⟩ := HVS.out
        refine ⟨W.heap.size, pb, F, .slice Ah nh ch, .slice Al nl cl, V, nl, loads, ms, ls, X, rv, by rw [e1, e2, e3, e4, e5]; rfl, ?_, HB0.size, HPQ.out, HPLL.out, by rw [HHL.out]; exact HRL.out⟩
        exact (HB0.trans (HB.mono HB0.size)).trans ⟨rfl, rfl, rfl, by simp, fun k hk => setRow_other wr _ k _ (by omega)⟩
end Go.Proofs.Ytpologlcfohjeaa.MendW
