/- Texts of this claim in one. -/
import Derived.Test.YtmlemichkeomjaaM1
import Derived.BigQuiet
import Derived.Deep.OwnRows
import Derived.OwnWalk
import Derived.WalkSpells
import Derived.Outline
import Derived.Laws.CopyOwn
/- Rows that are only read: stookref02.Equal, where it says yes. -/
set_option linter.unusedVariables false
set_option linter.unusedSimpArgs false
namespace Go.Proofs.Ytmlemichkeomjaa.RowsW
open Go.RowKit Go.Proofs.Ytmlemichkeomjaa.Base Go.Proofs.Ytmlemichkeomjaa.Lin
theorem regrown_cell {w : World} {a : Addr} {v : Value} (h : w.cell? a = some v) (p : Regrown) : (Go.Sort.grow (redrawn w p.d) p.os).cell? a = some v := cell_below (below_of_regrown ⟨p, rfl⟩) h

end Go.Proofs.Ytmlemichkeomjaa.RowsW

/- A row of bytes of one's own: rows.scale walked. -/
set_option linter.unusedVariables false
set_option linter.unusedSimpArgs false
namespace Go.Proofs.Ytmlemichkeomjaa.RowsW
open Go.RowKit Go.Proofs.Ytmlemichkeomjaa.Base Go.Proofs.Ytmlemichkeomjaa.GfP Go.Proofs.Ytmlemichkeomjaa.GfW Go.Proofs.Ytmlemichkeomjaa.Lin

/-- Block b is a row of q bytes, f's. -/
structure RowAt (w : World) (b q : Nat) (f : Nat → F) : Prop where
  cell : ∀ j, j < q → w.cell? ⟨b, j, none⟩ = some (.int .u8 (((f j).v : Nat) : Int))
  free : ∀ j, w.frozen? ⟨b, j, none⟩ = false
  lt : b < w.heap.size
  blk : ∃ cur : Array Value, w.heap[b]? = some (.cells cur 5 (0, 0)) ∧ cur.size = q
theorem RowAt.below {w w' : World} {b q : Nat} {f : Nat → F} (h : RowAt w b q f) (hb : Below w.heap.size w w') : RowAt w' b q f :=
  ⟨fun j hj => cell_below hb (h.cell j hj), fun j => (hb.frozen (p := ⟨b, j, none⟩) h.lt).trans (h.free j), by have := h.lt; have := hb.size; omega, by obtain ⟨cur, h1, h2⟩ := h.blk; exact ⟨cur, (hb.block b h.lt).trans h1, h2⟩⟩
theorem RowAt.only {w w' : World} {b q lo hi : Nat} {f : Nat → F} (h : RowAt w b q f) (ho : Only lo hi w w') (hx : b < lo ∨ hi ≤ b) : RowAt w' b q f :=
  ⟨fun j hj => (ho.cell (p := ⟨b, j, none⟩) h.lt hx).trans (h.cell j hj), fun j => (ho.frozen (p := ⟨b, j, none⟩) h.lt hx).trans (h.free j), by have := h.lt; have := ho.size; omega, by obtain ⟨cur, h1, h2⟩ := h.blk; exact ⟨cur, (ho.block b h.lt hx).trans h1, h2⟩⟩
theorem RowAt.congr {w : World} {b q : Nat} {f g : Nat → F} (h : RowAt w b q f) (hg : ∀ j, j < q → f j = g j) : RowAt w b q g :=
  ⟨fun j hj => by rw [h.cell j hj, hg j hj], h.free, h.lt, h.blk⟩
theorem RowAt.set {w : World} {b q : Nat} {f : Nat → F} (h : RowAt w b q f) (k : Nat) (hk : k < q) (v : F) : RowAt (w.setCell ⟨b, k, none⟩ (.int .u8 ((v.v : Nat) : Int))) b q (fun j => if j = k then v else f j) := by
  refine ⟨fun j hj => ?_, fun j => ?_, ?_, ?_⟩
  · rw [cell_set (h.cell k hk)]
    by_cases e : j = k
    · subst e; simp
    · have := h.cell j hj
      simp [this, e, Ne.symm e]
  · rw [World.frozen?_setCell]; exact h.free j
  · simpa using h.lt
  · obtain ⟨cur, h1, h2⟩ := h.blk
    exact ⟨_, heap_setCell_same w b k cur _ _ h1, by simpa using h2⟩
theorem FieldIn.only {w w' : World} {b lo hi : Nat} (h : FieldIn w b) (ho : Only lo hi w w') (hx : b < lo ∨ hi ≤ b) : FieldIn w' b :=
  ⟨⟨fun j hj => (ho.cell (p := ⟨b, j, none⟩) h.lt hx).trans (h.tab.exp j hj), fun x hx2 => (ho.cell (p := ⟨b, 510 + x, none⟩) h.lt hx).trans (h.tab.log x hx2), fun j => (ho.frozen (p := ⟨b, j, none⟩) h.lt hx).trans (h.tab.free j)⟩, by have := h.lt; have := ho.size; omega⟩
set_option maxRecDepth 100000 in
set_option maxHeartbeats 1000000 in
theorem scale_any (fb b q c : Nat) (f : Nat → F) (y : F) (w : World) (hR : RowAt w b q f) (hF : FieldIn w fb) (hne : fb ≠ b) (hq : q ≤ 1000) (hy : y ≠ 0) :
    Calls Try.prog 97 #[.pointer (some ⟨fb, 0, none⟩), .slice (some ⟨b, 0, none⟩) q c, .int .u8 ((y.v : Nat) : Int)] w fun e w' => (∃ v, e = .returned v) ∧ RowAt w' b q (fun j => y.inv * f j) ∧ Only b (b + 1) w w' := by
  have hyl := y.le
  have hy0 := v_ne hy
  go_enter Try.func97, Try.ntmps97
  go_wp2
  go_loopw [9] (fun i wr => ∃ k : Nat, k ≤ q ∧ i = .int .i64 k ∧ RowAt wr b q (fun j => if j < k then y.inv * f j else f j) ∧ Only b (b + 1) w wr) (fun i _ => q - (intOf i).toNat)
  case atStart => exact ⟨0, by omega, rfl, hR.congr fun j hj => by simp, Only.refl _ _ _⟩
  case round =>
    obtain ⟨k, hk, rfl, HR, HO⟩ := hrel
    by_cases hlt : k < q
    · have hck := HR.cell k hlt
      have hfk := HR.free k
      rw [if_neg (Nat.lt_irrefl k)] at hck
      have hFr := FieldIn.only hF HO (by omega)
      have hxl := (f k).le
      obtain ⟨x, hx⟩ : ∃ x, x = (f k).v := ⟨_, rfl⟩
      rw [← hx] at hck hxl
      have HX := Lib.hid hx
      clear hx
      go_wp2_with (go_at_call 127; refine (div_any fb x y.v _ hxl hyl hFr).mono ?_; rintro e w2 ⟨rfl, hd⟩; have hck2 := cell_below hd.below hck; have hfk2 := (frozen_below hd.below hck).trans hfk)
      have hv : quo x y.v = (y.inv * f k).v := by
        rw [v_mul, HX.out, quo_eq (f k).le hyl hy0, GfP.mul_comm]
        rfl
      rw [hv]
      refine ⟨⟨k + 1, by omega, by go_num, ?_, ((HO.trans (Only.of_below hd.below)).setCell (p := ⟨b, k, none⟩) (Nat.le_refl _) (Nat.lt_succ_self b) _)⟩, by simp [intOf]; omega⟩
      refine ((HR.below hd.below).set k hlt (y.inv * f k)).congr fun j hj => ?_
      by_cases e : j = k
      · subst e; simp
      · rw [if_neg e]
        by_cases h : j < k
        · rw [if_pos h, if_pos (by omega)]
        · rw [if_neg h, if_neg (by omega)]
    · obtain rfl : k = q := by omega
      go_wp2
      go_end0
      exact ⟨⟨_, rfl⟩, HR.congr fun j hj => by rw [if_pos hj], HO⟩
end Go.Proofs.Ytmlemichkeomjaa.RowsW

/- A row of bytes of one's own: rows.less walked. -/
set_option linter.unusedVariables false
set_option linter.unusedSimpArgs false
namespace Go.Proofs.Ytmlemichkeomjaa.RowsW
open Go.RowKit Go.Proofs.Ytmlemichkeomjaa.Base Go.Proofs.Ytmlemichkeomjaa.GfP Go.Proofs.Ytmlemichkeomjaa.GfW Go.Proofs.Ytmlemichkeomjaa.Lin
theorem bt_drew' {wr w2 : World} (h : Below wr.drew.heap.size wr.drew w2) : Below wr.heap.size wr w2 := ((Below.refl wr.heap.size wr).drew).trans h
set_option maxRecDepth 100000 in
set_option maxHeartbeats 1000000 in
theorem less_any (fb b b2 q c c2 : Nat) (f g : Nat → F) (t : F) (w : World) (hR : RowAt w b q f) (hG : RowAt w b2 q g) (hF : FieldIn w fb) (hne : fb ≠ b) (hne2 : b2 ≠ b) (hq : q ≤ 1000) :
    Calls Try.prog 98 #[.pointer (some ⟨fb, 0, none⟩), .slice (some ⟨b, 0, none⟩) q c, .slice (some ⟨b2, 0, none⟩) q c2, .int .u8 ((t.v : Nat) : Int)] w fun e w' => (∃ v, e = .returned v) ∧ RowAt w' b q (fun j => f j + t * g j) ∧ Only b (b + 1) w w' := by
  have htl := t.le
  go_enter Try.func98, Try.ntmps98
  go_wp2
  go_loopw [11] (fun i wr => ∃ k : Nat, k ≤ q ∧ i = .int .i64 k ∧ RowAt wr b q (fun j => if j < k then f j + t * g j else f j) ∧ Only b (b + 1) w wr) (fun i _ => q - (intOf i).toNat)
  case atStart => exact ⟨0, by omega, rfl, hR.congr fun j hj => by simp, Only.refl _ _ _⟩
  case round =>
    obtain ⟨k, hk, rfl, HR, HO⟩ := hrel
    by_cases hlt : k < q
    · have hck := HR.cell k hlt
      have hfk := HR.free k
      rw [if_neg (Nat.lt_irrefl k)] at hck
      have hor : fb < b ∨ b + 1 ≤ fb := by omega
      have hor2 : b2 < b ∨ b + 1 ≤ b2 := by omega
      have hFr := FieldIn.only hF HO hor
      have HG := RowAt.only hG HO hor2
      have hgk := HG.cell k hlt
      have hxl := (f k).le
      have hyl := (g k).le
      obtain ⟨x, hx⟩ : ∃ x, x = (f k).v := ⟨_, rfl⟩
      obtain ⟨y, hy⟩ : ∃ y, y = (g k).v := ⟨_, rfl⟩
      rw [← hx] at hck hxl
      rw [← hy] at hgk hyl
      have HX := Lib.hid hx
      have HY := Lib.hid hy
      clear hx hy HG
      have hml := mul_le y t.v
      go_upto_region 3 with fail
      have d1 : wr.drew.cell? ⟨b, k, none⟩ = some (.int .u8 ((x : Nat) : Int)) := hck
      have d2 : wr.drew.frozen? ⟨b, k, none⟩ = false := hfk
      have d3 : wr.drew.cell? ⟨b2, k, none⟩ = some (.int .u8 ((y : Nat) : Int)) := hgk
      have d4 := FieldIn.below hFr ((Below.refl wr.heap.size wr).drew)
      clear hck hfk hgk
      go_region_with (first | (go_at_call 129; refine (mul_any fb y t.v _ hyl htl d4).mono ?_; rintro e w2 ⟨rfl, hd⟩; replace d2 := (frozen_below hd.below d1).trans d2; replace d1 := cell_below hd.below d1) | (go_at_call 128; refine (add_any x (mul y t.v) _ hxl hml).mono ?_; rintro e w3 ⟨rfl, rfl⟩))
      all_goals go_wp2
      all_goals (
        have hv : x ^^^ mul y t.v = (f k + t * g k).v := by
          rw [v_add, v_mul, HX.out, HY.out, GfP.mul_comm t.v]
        rw [hv]
        have hb0 : Below wr.heap.size wr w2 := bt_drew' hd.below
        refine ⟨⟨k + 1, by omega, by go_num, ?_, ((HO.trans (Only.of_below hb0)).setCell (p := ⟨b, k, none⟩) (Nat.le_refl _) (Nat.lt_succ_self b) _)⟩, by simp [intOf]; omega⟩
        refine ((HR.below hb0).set k hlt (f k + t * g k)).congr fun j hj => ?_
        by_cases e : j = k
        · subst e; simp
        · rw [if_neg e]
          by_cases h : j < k
          · rw [if_pos h, if_pos (by omega)]
          · rw [if_neg h, if_neg (by omega)])
    · obtain rfl : k = q := by omega
      go_wp2
      go_end0
      exact ⟨⟨_, rfl⟩, HR.congr fun j hj => by rw [if_pos hj], HO⟩
end Go.Proofs.Ytmlemichkeomjaa.RowsW

/- Rows of one's own: a block of slices, each a row of its own. -/
set_option linter.unusedVariables false
set_option linter.unusedSimpArgs false
namespace Go.Proofs.Ytmlemichkeomjaa.RowsW
open Go.RowKit Go.Proofs.Ytmlemichkeomjaa.Base Go.Proofs.Ytmlemichkeomjaa.GfP Go.Proofs.Ytmlemichkeomjaa.GfW Go.Proofs.Ytmlemichkeomjaa.Lin

/-- The block g holds n slices; slice i is the block bs i, a row of q bytes: M i's. -/
structure Mat (w : World) (lo g n q : Nat) (bs : Nat → Nat) (A : M) : Prop where
  top : ∀ i, i < n → w.cell? ⟨g, i, none⟩ = some (.slice (some ⟨bs i, 0, none⟩) q q)
  free : ∀ i, w.frozen? ⟨g, i, none⟩ = false
  lt : g < w.heap.size
  row : ∀ i, i < n → RowAt w (bs i) q (A i)
  inj : ∀ i j, i < n → j < n → bs i = bs j → i = j
  ne : ∀ i, i < n → bs i ≠ g
  lo_g : lo ≤ g
  lo_b : ∀ i, i < n → lo ≤ bs i
theorem Mat.below {w w' : World} {lo g n q : Nat} {bs : Nat → Nat} {A : M} (h : Mat w lo g n q bs A) (hb : Below w.heap.size w w') : Mat w' lo g n q bs A :=
  ⟨fun i hi => cell_below hb (h.top i hi), fun i => (hb.frozen (p := ⟨g, i, none⟩) h.lt).trans (h.free i), by have := h.lt; have := hb.size; omega, fun i hi => (h.row i hi).below hb, h.inj, h.ne, h.lo_g, h.lo_b⟩
theorem Mat.congr {w : World} {lo g n q : Nat} {bs : Nat → Nat} {A B : M} (h : Mat w lo g n q bs A) (he : Eqv n q A B) : Mat w lo g n q bs B :=
  ⟨h.top, h.free, h.lt, fun i hi => (h.row i hi).congr fun j hj => he i hi j hj, h.inj, h.ne, h.lo_g, h.lo_b⟩
/-- Row k alone has turned. -/
theorem Mat.row_only {w w' : World} {lo g n q k : Nat} {bs : Nat → Nat} {A : M} {f : Nat → F} (h : Mat w lo g n q bs A) (hk : k < n) (ho : Only (bs k) (bs k + 1) w w') (hr : RowAt w' (bs k) q f) :
    Mat w' lo g n q bs (fun i => if i = k then f else A i) := by
  have hgk := h.ne k hk
  have hx : g < bs k ∨ bs k + 1 ≤ g := by omega
  refine ⟨fun i hi => (ho.cell (p := ⟨g, i, none⟩) h.lt hx).trans (h.top i hi), fun i => (ho.frozen (p := ⟨g, i, none⟩) h.lt hx).trans (h.free i), by have := h.lt; have := ho.size; omega, fun i hi => ?_, h.inj, h.ne, h.lo_g, h.lo_b⟩
  by_cases e : i = k
  · subst e; simpa using hr
  · simp only [e, if_false]
    have hne : bs i ≠ bs k := fun e' => e (h.inj i k hi hk e')
    exact (h.row i hi).only ho (by omega)
end Go.Proofs.Ytmlemichkeomjaa.RowsW

/- rows.made walked. -/
set_option linter.unusedVariables false
set_option linter.unusedSimpArgs false
namespace Go.Proofs.Ytmlemichkeomjaa.RowsW
open Go.RowKit Go.Proofs.Ytmlemichkeomjaa.Base Go.Proofs.Ytmlemichkeomjaa.GfP Go.Proofs.Ytmlemichkeomjaa.GfW Go.Proofs.Ytmlemichkeomjaa.Lin

def sl (q : Nat) (bs : List Nat) : List Value := bs.map fun b => Value.slice (some ⟨b, 0, none⟩) q q
theorem sl_length (q : Nat) (bs : List Nat) : (sl q bs).length = bs.length := by simp [sl]
theorem info_row : (Try.prog.info? 70).map (fun i => (i.zero, i.size, i.bytes)) = some (some (.slice none 0 0), 1, 24) := by kernel_rfl
theorem info_byte : (Try.prog.info? 5).map (fun i => (i.zero, i.size, i.bytes)) = some (some (.int .u8 0), 1, 1) := by kernel_rfl
theorem rowIs_grown {w w' : World} {b : Nat} {t : TypeId} {q : Nat} {f : Nat → Value} {row : Option Nat} (h : w.rowIs b t q f) (hg : w.grownBy w' row) (hne : some b ≠ row) : w'.rowIs b t q f := by
  have hlt := h.lt
  obtain ⟨c, h1, h2⟩ := h
  exact ⟨c, (hg.block b hlt hne).trans h1, h2⟩
theorem row_not_own {w : World} {b : Nat} {t e : TypeId} {q base size n : Nat} {f : Nat → Value} {v : Value} {xs : List Value} (h : w.rowIs b t q f) (ho : w.ownsRow base e size v n xs) (hte : t ≠ e) : some b ≠ v.ownBlock := by
  obtain ⟨c, h1, _⟩ := h
  rcases ho.2 with ⟨rfl, _⟩ | ⟨g, cap, cur, rfl, _, hg, _⟩
  · simp [Value.ownBlock]
  · intro e'
    obtain rfl : b = g := by simpa [Value.ownBlock] using e'
    rw [h1] at hg
    simp at hg
    exact hte hg.2
/-- What made has made so far. -/
structure Made (w0 w : World) (d : Value) (q k : Nat) (bs : List Nat) : Prop where
  len : bs.length = k
  own : w.ownsRow w0.heap.size 70 1 d k (sl q bs)
  row : ∀ b, b ∈ bs → w.rowIs b 5 q (fun _ => .int .u8 0)
  lo : ∀ b, b ∈ bs → w0.heap.size ≤ b
  nd : bs.Nodup
  below : Below w0.heap.size w0 w
set_option maxRecDepth 100000 in
set_option maxHeartbeats 1000000 in
theorem made_list (n q : Nat) (w : World) (hn : n ≤ 1000) (hq : q ≤ 1000) :
    Calls Try.prog 92 #[.int .i64 (n : Nat), .int .i64 (q : Nat)] w fun e w' => ∃ d bs, e = .returned d ∧ Made w w' d q n bs := by
  have hmk := fun W => run_make_row' (P := Try.prog) 70 5 (.int .u8 0) 1 Try.underlying70 info_byte rfl .i64 .i64 q (by omega) (by omega) W
  go_enter Try.func92, Try.ntmps92
  go_wp2
  go_loopw [5, 7] (fun d i wr => ∃ (k : Nat) (bs : List Nat), k ≤ n ∧ i = .int .i64 k ∧ Made w wr d q k bs) (fun _ i _ => n - (intOf i).toNat)
  case atStart => exact ⟨0, [], by omega, rfl, ⟨rfl, World.ownsRow_nil _ _ _ _, (fun _ h => nomatch h), (fun _ h => nomatch h), List.nodup_nil, Below.refl _ _⟩⟩
  case round =>
    obtain ⟨k, bs, hk, rfl, HM⟩ := hrel
    by_cases hlt : k < n
    · have HO1 := HM.own.alloc (.cells (madeCells #[.int .u8 0] q) 5)
      have HB1 := HM.below.alloc HM.below.size (.cells (madeCells #[.int .u8 0] q) 5)
      have hnew := World.rowIs_made wr (.int .u8 0) q 5
      have hlen := HM.len
      go_wp2_with (at_builtin; refine app_one w.heap.size rfl (.tmp 9) (.tmp 12) 119 70 (.slice none 0 0) 24 rfl Try.underlying119 info_row rfl (by omega) _ (sl q bs) _ k (by rw [sl_length]; exact hlen) rfl (by rw [World.size_alloc]; rfl) rfl HO1 HB1 HB1.size (by omega) ?_; intro v1 w1 HO2 HB2 hg2)
      go_roundw
      case rel =>
        refine ⟨k + 1, bs ++ [wr.heap.size], by omega, by go_num, ⟨by simp [hlen], by simpa [sl] using HO2, fun b hb => ?_, fun b hb => ?_, ?_, HB2⟩⟩
        · rcases List.mem_append.1 hb with h | h
          · exact rowIs_grown ((HM.row b h).alloc _) hg2 (row_not_own ((HM.row b h).alloc _) HO1 (by decide))
          · obtain rfl := List.mem_singleton.1 h
            exact rowIs_grown hnew hg2 (row_not_own hnew HO1 (by decide))
        · rcases List.mem_append.1 hb with h | h
          · exact HM.lo b h
          · rw [List.mem_singleton.1 h]; exact HM.below.size
        · refine List.nodup_append.2 ⟨HM.nd, (by simp), fun a ha b hb e => ?_⟩
          rw [List.mem_singleton.1 hb] at e
          have := (HM.row a ha).lt
          omega
      case measure => simp [intOf]; omega
    · obtain rfl : k = n := by omega
      go_wp2
      go_ret
      exact ⟨_, bs, rfl, HM⟩
theorem made_mat {w0 w : World} {d : Value} {q n : Nat} {bs : List Nat} (h : Made w0 w d q n bs) (hn : 0 < n) :
    ∃ g cap, d = .slice (some ⟨g, 0, none⟩) n cap ∧ n ≤ cap ∧ Mat w w0.heap.size g n q (fun i => bs.getD i 0) (fun _ _ => 0) := by
  have hl := h.len
  rcases h.own.2 with ⟨_, h0⟩ | ⟨g, cap, cur, rfl, hb, hg, hc, hm, hs, ht⟩
  · omega
  refine ⟨g, cap, rfl, hc, ?_, fun i => Lib.frozen_of_heap hg i, ?_, fun i hi => ?_, fun i j hi hj e => ?_, fun i hi => ?_, hb, fun i hi => ?_⟩
  · intro i hi
    rw [cell_of_row w g i _ _ _ hg]
    have h1 : (sl q bs)[i]? = some (.slice (some ⟨bs.getD i 0, 0, none⟩) q q) := by
      simp only [sl, List.getElem?_map, List.getD_eq_getElem?_getD]
      rw [List.getElem?_eq_getElem (by omega)]
      rfl
    rw [← ht, List.getElem?_take, if_pos (by omega)] at h1
    simpa using h1
  · rcases Nat.lt_or_ge g w.heap.size with h' | h'
    · exact h'
    · simp [Array.getElem?_eq_none h'] at hg
  · have hmem : bs.getD i 0 ∈ bs := by
      rw [List.getD_eq_getElem?_getD, List.getElem?_eq_getElem (by omega)]
      exact List.getElem_mem _
    have hr := h.row _ hmem
    exact ⟨fun j hj => hr.cell hj, fun j => hr.frozen j, hr.lt, by obtain ⟨cur, h1, h2, _⟩ := hr; exact ⟨cur, h1, h2⟩⟩
  · simp only [List.getD_eq_getElem?_getD] at e
    rw [List.getElem?_eq_getElem (by omega), List.getElem?_eq_getElem (by omega)] at e
    exact (List.getElem_inj h.nd).1 e
  · have hmem : bs.getD i 0 ∈ bs := by
      rw [List.getD_eq_getElem?_getD, List.getElem?_eq_getElem (by omega)]
      exact List.getElem_mem _
    have := row_not_own (h.row _ hmem) h.own (by decide)
    intro e
    apply this
    rw [e]
    rfl
  · have hmem : bs.getD i 0 ∈ bs := by
      rw [List.getD_eq_getElem?_getD, List.getElem?_eq_getElem (by omega)]
      exact List.getElem_mem _
    exact h.lo _ hmem
theorem made_any (n q : Nat) (w : World) (hn : n ≤ 1000) (hq : q ≤ 1000) (h0 : 0 < n) :
    Calls Try.prog 92 #[.int .i64 (n : Nat), .int .i64 (q : Nat)] w fun e w' => ∃ g cap bs, e = .returned (.slice (some ⟨g, 0, none⟩) n cap) ∧ n ≤ cap ∧ Mat w' w.heap.size g n q bs (fun _ _ => 0) ∧ Below w.heap.size w w' := by
  refine (made_list n q w hn hq).mono ?_
  rintro e w' ⟨d, bs, rfl, h⟩
  obtain ⟨g, cap, rfl, hc, hM⟩ := made_mat h h0
  exact ⟨g, cap, _, rfl, hc, hM, h.below⟩
end Go.Proofs.Ytmlemichkeomjaa.RowsW

/- rows.fits, rows.One and rows.column walked. -/
set_option linter.unusedVariables false
set_option linter.unusedSimpArgs false
namespace Go.Proofs.Ytmlemichkeomjaa.RowsW
open Go.RowKit Go.Proofs.Ytmlemichkeomjaa.Base Go.Proofs.Ytmlemichkeomjaa.GfP Go.Proofs.Ytmlemichkeomjaa.GfW Go.Proofs.Ytmlemichkeomjaa.Lin

theorem fits_yes (n : Int) (w : World) (h1 : 1 ≤ n) (h2 : n ≤ 32) :
    Calls Try.prog 91 #[.int .i64 n] w fun e w' => e = .returned (.bool true) ∧ w = w' := by
  go_enter Try.func91, Try.ntmps91
  go_wp2
  go_ret
  exact ⟨rfl, rfl⟩
theorem fits_no (n : Int) (w : World) (h1 : ¬ (1 ≤ n ∧ n ≤ 32)) :
    Calls Try.prog 91 #[.int .i64 n] w fun e w' => e = .returned (.bool false) ∧ w = w' := by
  by_cases h : 1 ≤ n
  · have h2 : ¬ n ≤ 32 := fun h3 => h1 ⟨h, h3⟩
    clear h1
    go_enter Try.func91, Try.ntmps91
    go_wp2
    go_ret
    exact ⟨rfl, rfl⟩
  · clear h1
    go_enter Try.func91, Try.ntmps91
    go_wp2
    go_ret
    exact ⟨rfl, rfl⟩
theorem one_no (n : Int) (w : World) (h1 : ¬ (1 ≤ n ∧ n ≤ 32)) :
    Calls Try.prog 96 #[.int .i64 n] w fun e w' => e = .returned (.tuple #[.slice none 0 0, .bool false]) ∧ w = w' := by
  have H := Lib.hid (fits_no n w h1)
  clear h1
  go_enter Try.func96, Try.ntmps96
  go_wp2_with (go_at_call 91; refine (H.out).mono ?_; rintro e w2 ⟨rfl, rfl⟩)
  go_ret2
  exact ⟨rfl, rfl⟩
/-- Ones on the first k places. -/
def oneTo (k : Nat) : M := fun i j => if i < k then dl i j else 0
theorem oneTo_zero (n q : Nat) : Eqv n q (oneTo 0) (fun _ _ => 0) := fun i _ j _ => if_neg (by omega)
theorem oneTo_all (n q : Nat) : Eqv n q (oneTo n) dl := fun i hi j _ => if_pos hi
theorem oneTo_step {n q k : Nat} : Eqv n q (fun i => if i = k then (fun j => if j = k then 1 else oneTo k k j) else oneTo k i) (oneTo (k + 1)) := by
  intro i _ j _
  by_cases e : i = k
  · subst e
    simp only [if_pos]
    unfold oneTo dl
    by_cases e2 : i = j
    · subst e2; simp
    · rw [if_neg (Ne.symm e2), if_neg (by omega), if_pos (by omega), if_neg e2]
  · simp only [if_neg e]
    unfold oneTo
    by_cases h : i < k
    · rw [if_pos h, if_pos (by omega)]
    · rw [if_neg h, if_neg (by omega)]
theorem Mat.only {w w' : World} {lo g n q a b : Nat} {bs : Nat → Nat} {A : M} (h : Mat w lo g n q bs A) (ho : Only a b w w') (hx : b ≤ lo) : Mat w' lo g n q bs A := by
  have h1 := h.lo_g
  exact ⟨fun i hi => (ho.cell (p := ⟨g, i, none⟩) h.lt (by right; exact Nat.le_trans hx h1)).trans (h.top i hi), fun i => (ho.frozen (p := ⟨g, i, none⟩) h.lt (by right; exact Nat.le_trans hx h1)).trans (h.free i), by have := h.lt; have := ho.size; omega, fun i hi => (h.row i hi).only ho (by right; exact Nat.le_trans hx (h.lo_b i hi)), h.inj, h.ne, h.lo_g, h.lo_b⟩
/-- One byte of row k is set. -/
theorem Mat.set {w : World} {lo g n q : Nat} {bs : Nat → Nat} {A : M} (h : Mat w lo g n q bs A) (k j : Nat) (hk : k < n) (hj : j < q) (v : F) :
    Mat (w.setCell ⟨bs k, j, none⟩ (.int .u8 ((v.v : Nat) : Int))) lo g n q bs (fun i => if i = k then (fun l => if l = j then v else A k l) else A i) :=
  h.row_only hk ((Only.refl (bs k) (bs k + 1) w).setCell (p := ⟨bs k, j, none⟩) (Nat.le_refl _) (Nat.lt_succ_self _) _) ((h.row k hk).set j hj v)
theorem Mat.lo_below {w0 w w' : World} {lo g n q k j : Nat} {bs : Nat → Nat} {A : M} (h : Mat w lo g n q bs A) (hb : Below lo w0 w) (hlo : lo ≤ w.heap.size) (hk : k < n) (v : Value) : Below lo w0 (w.setCell ⟨bs k, j, none⟩ v) :=
  hb.setCell (by have := h.lo_b k hk; exact this) _
set_option maxRecDepth 100000 in
set_option maxHeartbeats 1000000 in
theorem one_any (n : Nat) (w : World) (h1 : 1 ≤ n) (h2 : n ≤ 32) :
    Calls Try.prog 96 #[.int .i64 (n : Nat)] w fun e w' => ∃ g cap bs, e = .returned (.tuple #[.slice (some ⟨g, 0, none⟩) n cap, .bool true]) ∧ n ≤ cap ∧ Mat w' w.heap.size g n n bs dl ∧ Below w.heap.size w w' := by
  have HF := Lib.hid (fits_yes n w (by omega) (by omega))
  have HM := Lib.hid (made_any n n w (by omega) (by omega) (by omega))
  go_enter Try.func96, Try.ntmps96
  go_wp2_with (first | (go_at_call 91; refine (HF.out).mono ?_; rintro e w2 ⟨rfl, rfl⟩) | (go_at_call 92; refine (HM.out).mono ?_; rintro e w1 ⟨g, cap, bs, rfl, hcap, hM, hB⟩))
  go_loopw [5, 14] (fun _ i wr => ∃ k : Nat, k ≤ n ∧ i = .int .i64 k ∧ Mat wr w.heap.size g n n bs (oneTo k) ∧ Below w.heap.size w wr) (fun _ i _ => n - (intOf i).toNat)
  case atStart => exact ⟨0, by omega, rfl, hM.congr (oneTo_zero n n).symm, hB⟩
  case round =>
    obtain ⟨k, hk, rfl, HR, HB⟩ := hrel
    by_cases hlt : k < n
    · have ht := HR.top k hlt
      have hr := HR.row k hlt
      have hc := hr.cell k hlt
      have hf := hr.free k
      go_wp2
      go_roundw
      case rel => exact ⟨k + 1, by omega, by go_num, (HR.set k k hlt hlt 1).congr oneTo_step, HB.setCell (HR.lo_b k hlt) _⟩
      case measure => simp [intOf]; omega
    · obtain rfl : k = n := by omega
      go_wp2
      go_ret2
      exact ⟨g, cap, bs, rfl, hcap, HR.congr (oneTo_all k k), HB⟩
end Go.Proofs.Ytmlemichkeomjaa.RowsW

/- rows.Right walked. -/
set_option linter.unusedVariables false
set_option linter.unusedSimpArgs false
namespace Go.Proofs.Ytmlemichkeomjaa.RowsW
open Go.RowKit Go.Proofs.Ytmlemichkeomjaa.Base Go.Proofs.Ytmlemichkeomjaa.GfP Go.Proofs.Ytmlemichkeomjaa.GfW Go.Proofs.Ytmlemichkeomjaa.Lin

theorem cell_alloc {w : World} {a : Addr} {v : Value} (h : w.cell? a = some v) (o : Obj) : (w.alloc o).cell? a = some v := cell_below ((Below.refl w.heap.size w).alloc (Nat.le_refl _) o) h
theorem wid_of {ls : List (List Nat)} (h : 0 < ls.length) : wid ls = ls[0].length := by
  unfold wid
  rw [List.getD_eq_getElem?_getD, List.getElem?_eq_getElem h]
  rfl
set_option maxRecDepth 100000 in
set_option maxHeartbeats 1000000 in
theorem right_in (b off n c : Nat) (ls : List (List Nat)) (w : World) (hR : Base.Rows w (some ⟨b, off, none⟩) ls) (hl : ls.length = n) (h1 : 1 ≤ n) (h2 : n ≤ 32) (q : Nat) (hw : wid ls = q) (hq1 : 1 ≤ q) (hq2 : q ≤ 32) :
    Calls Try.prog 94 #[.slice (some ⟨b, off, none⟩) n c] w fun e w' => e = .returned (.bool (rightB ls)) ∧ Below w.heap.size w w' := by
  have h0l : 0 < ls.length := by omega
  obtain ⟨b', off', e, hc⟩ := hR.block (by omega)
  cases e
  obtain ⟨B0, c0, h0, _⟩ := hc 0 h0l
  rw [Nat.add_zero, ← wid_of h0l, hw] at h0
  obtain ⟨B, hB⟩ : ∃ B, rightB ls = B := ⟨_, rfl⟩
  rw [hB]
  have HB := Lib.hid hB
  have HW := Lib.hid hw
  have HC := Lib.hid hc
  clear hB hw hc hR
  have h0a := cell_alloc h0
  have e1 : decide ((n : Int) < 1) = false := by simp; omega
  have e2 : decide ((32 : Int) < n) = false := by simp; omega
  have e3 : decide ((q : Int) < 1) = false := by simp; omega
  have e4 : decide ((32 : Int) < q) = false := by simp; omega
  go_enter Try.func94, Try.ntmps94
  go_wp2
  go_loop [5, 8] (fun _ i => ∃ k : Nat, k ≤ n ∧ i = .int .i64 k ∧ ∀ j (hj : j < ls.length), j < k → ls[j].length = q) (fun _ i => n - (intOf i).toNat)
  case atStart => exact ⟨0, by omega, rfl, fun j _ h => by omega⟩
  case round =>
    obtain ⟨k, hk, rfl, hall⟩ := hrel
    have HA := Lib.hid hall
    clear hall
    by_cases hlt : k < n
    · have hkl : k < ls.length := by omega
      obtain ⟨B1, c1, hk1, _⟩ := HC.out k hkl
      obtain ⟨m, hm⟩ : ∃ m, m = ls[k].length := ⟨_, rfl⟩
      rw [← hm] at hk1
      have HM := Lib.hid hm
      clear hm
      have hka := cell_alloc hk1
      by_cases hmq : m = q
      · subst hmq
        go_wp2
        go_round
        case rel =>
          refine ⟨k + 1, by omega, by go_num, fun j hj hjk => ?_⟩
          rcases Nat.lt_or_ge j k with h | h
          · exact HA.out j hj h
          · obtain rfl : j = k := by omega
            exact HM.out.symm
        case measure => simp [intOf]; omega
      · have e5 : ((m : Int) != (q : Int)) = true := int_bne (by omega)
        go_wp2
        go_ret
        refine ⟨?_, (Below.refl _ _).alloc (Nat.le_refl _) _⟩
        rw [← HB.out, rightB_no hkl (.inl (by rw [← HM.out, HW.out]; exact hmq))]
        rfl
    · obtain rfl : k = n := by omega
      go_wp2
      go_ret
      refine ⟨?_, (Below.refl _ _).alloc (Nat.le_refl _) _⟩
      have hr : rightB ls = true := (right_iff ls).2 ⟨by omega, by omega, by rw [HW.out]; exact hq1, by rw [HW.out]; exact hq2, fun i hi => by rw [HW.out]; exact HA.out i hi (by omega)⟩
      rw [← HB.out, hr]
      rfl
theorem right_any (A : Option Addr) (n c : Nat) (ls : List (List Nat)) (w : World) (hR : Base.Rows w A ls) (hl : ls.length = n) (hn : n ≤ 1000) (hw : wid ls ≤ 1000) :
    Calls Try.prog 94 #[.slice A n c] w fun e w' => e = .returned (.bool (rightB ls)) ∧ Below w.heap.size w w' := by
  by_cases h40 : n < 1 ∨ 32 < n
  · have hb : rightB ls = false := by
      cases hb : rightB ls with
      | false => rfl
      | true => have := (right_iff ls).1 hb; omega
    rw [hb]
    clear hb
    rcases h40 with h40 | h40
    · obtain rfl : n = 0 := by omega
      clear h40
      go_enter Try.func94, Try.ntmps94
      go_wp2
      go_ret
      exact ⟨rfl, (Below.refl _ _).alloc (Nat.le_refl _) _⟩
    · have e1 : decide ((n : Int) < 1) = false := by simp; omega
      have e2 : decide ((32 : Int) < n) = true := by simp; omega
      go_enter Try.func94, Try.ntmps94
      go_wp2
      go_ret
      exact ⟨rfl, (Below.refl _ _).alloc (Nat.le_refl _) _⟩
  · obtain ⟨b, off, rfl, hc⟩ := hR.block (by omega)
    by_cases hq : 1 ≤ wid ls ∧ wid ls ≤ 32
    · exact right_in b off n c ls w hR hl (by omega) (by omega) _ rfl hq.1 hq.2
    · have hb : rightB ls = false := by
        cases hb : rightB ls with
        | false => rfl
        | true => have := (right_iff ls).1 hb; omega
      rw [hb]
      clear hb hR
      have h0l : 0 < ls.length := by omega
      obtain ⟨B0, c0, h0, _⟩ := hc 0 h0l
      rw [Nat.add_zero, ← wid_of h0l] at h0
      generalize wid ls = q at hq h0 hw
      clear hc
      have h0a := cell_alloc h0
      have e1 : decide ((n : Int) < 1) = false := by simp; omega
      have e2 : decide ((32 : Int) < n) = false := by simp; omega
      have e0 : 0 < n := by omega
      by_cases e3 : q = 0
      · subst e3
        go_enter Try.func94, Try.ntmps94
        go_wp2
        go_ret
        exact ⟨rfl, (Below.refl _ _).alloc (Nat.le_refl _) _⟩
      · have e3' : decide ((q : Int) < 1) = false := by simp; omega
        have e4 : decide ((32 : Int) < q) = true := by simp; omega
        go_enter Try.func94, Try.ntmps94
        go_wp2
        go_ret
        exact ⟨rfl, (Below.refl _ _).alloc (Nat.le_refl _) _⟩
end Go.Proofs.Ytmlemichkeomjaa.RowsW

/- rows.column walked. -/
set_option linter.unusedVariables false
set_option linter.unusedSimpArgs false
namespace Go.Proofs.Ytmlemichkeomjaa.RowsW
open Go.RowKit Go.Proofs.Ytmlemichkeomjaa.Base Go.Proofs.Ytmlemichkeomjaa.GfP Go.Proofs.Ytmlemichkeomjaa.GfW Go.Proofs.Ytmlemichkeomjaa.Lin

/-- A column of rows, as values. -/
def colv (ls : List (List Nat)) (j : Nat) : List Value := ls.map fun r => Value.int .u8 ((r.getD j 0 : Nat) : Int)
theorem colv_length (ls : List (List Nat)) (j : Nat) : (colv ls j).length = ls.length := by simp [colv]
def col (ls : List (List Nat)) (j : Nat) : List Nat := ls.map fun r => r.getD j 0
theorem col_length (ls : List (List Nat)) (j : Nat) : (col ls j).length = ls.length := by simp [col]
theorem colv_take (ls : List (List Nat)) (j k : Nat) (h : k < ls.length) : colv (ls.take (k + 1)) j = colv (ls.take k) j ++ [.int .u8 ((ls[k].getD j 0 : Nat) : Int)] := by
  unfold colv
  rw [List.take_succ_eq_append_getElem h, List.map_append]
  rfl
/-- What is owned lies in a new block. -/
theorem own_col {w : World} {base e n j : Nat} {v : Value} {ls : List (List Nat)} (h : w.ownsRow base e 1 v n (colv ls j)) (hle : ∀ i (hi : i < ls.length), ∀ x, x ∈ ls[i] → x ≤ 255) (hn : n ≤ 140737488355328) :
    ∃ A c, v = .slice A n c ∧ Bytes w A (col ls j) ∧ ∀ b off s, A = some ⟨b, off, s⟩ → base ≤ b ∧ b < w.heap.size := by
  have hl : ls.length = n := by have := h.1; rw [colv_length] at this; omega
  have hle2 : ∀ x, x ∈ col ls j → x ≤ 255 := fun x hx => by
    obtain ⟨r, hr, rfl⟩ := List.mem_map.1 hx
    obtain ⟨i, hi, rfl⟩ := List.mem_iff_getElem.1 hr
    rw [List.getD_eq_getElem?_getD]
    cases h9 : ls[i][j]? with
    | none => simp
    | some y => simpa using hle i hi y (List.mem_of_getElem? h9)
  rcases h.2 with ⟨rfl, h0⟩ | ⟨g, cap, cur, rfl, hb, hg, _⟩
  · have : ls = [] := List.eq_nil_of_length_eq_zero (by omega)
    subst this
    exact ⟨none, 0, by rw [h0], Bytes.nil _ _, fun b off s e => by cases e⟩
  · have hglt : g < w.heap.size := by
      rcases Nat.lt_or_ge g w.heap.size with h1 | h1
      · exact h1
      · rw [Array.getElem?_eq_none h1] at hg; cases hg
    refine ⟨_, cap, rfl, ⟨hle2, by rw [col_length]; omega, Or.inr ⟨g, 0, rfl, fun i hi => ?_⟩⟩, fun b off s e => by cases e; exact ⟨hb, hglt⟩⟩
    have hi' : i < ls.length := by simpa [col] using hi
    have hc := h.cells (g := g) rfl i (.int .u8 ((ls[i].getD j 0 : Nat) : Int)) (by simp [colv, hi'])
    have ha : (⟨g, 0, none⟩ : Addr).add i = ⟨g, 0 + i, none⟩ := by unfold Addr.add; split <;> simp_all
    rw [ha] at hc
    rw [hc]
    simp [col, List.getD_eq_getElem?_getD, hi']
set_option maxRecDepth 100000 in
set_option maxHeartbeats 1000000 in
theorem column_any (A : Option Addr) (n c : Nat) (ls : List (List Nat)) (j : Nat) (w : World) (hR : Base.Rows w A ls) (hl : ls.length = n) (hn : n ≤ 1000) (hq : ∀ i (hi : i < ls.length), j < ls[i].length) (hj : j ≤ 1000) :
    Calls Try.prog 99 #[.slice A n c, .int .i64 (j : Nat)] w fun e w' => ∃ A' c', e = .returned (.slice A' n c') ∧ Bytes w' A' (col ls j) ∧ (∀ b off s, A' = some ⟨b, off, s⟩ → w.heap.size ≤ b ∧ b < w'.heap.size) ∧ Below w.heap.size w w' := by
  have HQ := Lib.hid hq
  have HLE := Lib.hid hR.le
  clear hq
  go_enter Try.func99, Try.ntmps99
  go_wp2
  go_loopw [5, 7, 10] (fun d _ i wr => ∃ k : Nat, k ≤ n ∧ i = .int .i64 k ∧ wr.ownsRow w.heap.size 5 1 d k (colv (ls.take k) j) ∧ Below w.heap.size w wr) (fun _ _ i _ => n - (intOf i).toNat)
  case atStart => exact ⟨0, by omega, rfl, World.ownsRow_nil _ _ _ _, Below.refl _ _⟩
  case round =>
    obtain ⟨k, hk, rfl, HO, HB⟩ := hrel
    by_cases hlt : k < n
    · have hkl : k < ls.length := by omega
      obtain ⟨b, off, rfl, hc⟩ := (hR.below HB).block (by omega)
      obtain ⟨B1, c1, hcell, hrow⟩ := hc k hkl
      clear hc
      have hjq := HQ.out k hkl
      obtain ⟨b2, off2, rfl, hc2⟩ := hrow.block (by omega)
      have hcj := hc2 j hjq
      clear hc2 hrow
      have HT := Lib.hid (colv_take ls j k hkl)
      obtain ⟨q, hqe⟩ : ∃ q, q = ls[k].length := ⟨_, rfl⟩
      rw [← hqe] at hcell hjq
      obtain ⟨x, hx⟩ : ∃ x, x = ls[k].getD j 0 := ⟨_, rfl⟩
      rw [← hx] at hcj
      have HX := Lib.hid hx
      clear hx hqe
      go_wp2_with (at_builtin; refine app_one w.heap.size rfl (.tmp 14) (.tmp 19) 70 5 (.int .u8 0) 1 rfl Try.underlying70 info_byte rfl (by omega) _ (colv (ls.take k) j) _ k (by rw [colv_length, List.length_take]; omega) rfl rfl rfl HO HB HB.size (by omega) ?_; intro v1 w1 HO2 HB2 hg2)
      go_roundw
      case rel => exact ⟨k + 1, by omega, by go_num, by rw [HT.out, ← HX.out]; exact HO2, HB2⟩
      case measure => simp [intOf]; omega
    · obtain rfl : k = n := by omega
      rw [List.take_of_length_le (by omega)] at HO
      obtain ⟨A', c', rfl, h1, h2⟩ := own_col HO HLE.out (by omega)
      go_wp2
      go_ret
      exact ⟨A', c', rfl, h1, h2, HB⟩
end Go.Proofs.Ytmlemichkeomjaa.RowsW

/- rows.Mul walked. -/
set_option linter.unusedVariables false
set_option linter.unusedSimpArgs false
namespace Go.Proofs.Ytmlemichkeomjaa.RowsW
open Go.RowKit Go.Proofs.Ytmlemichkeomjaa.Base Go.Proofs.Ytmlemichkeomjaa.GfP Go.Proofs.Ytmlemichkeomjaa.GfW Go.Proofs.Ytmlemichkeomjaa.Lin

theorem dot_sm {l m : List Nat} {f g : Nat → F} (n : Nat) (hl : ∀ k, k < n → l.getD k 0 = (f k).v) (hm : ∀ k, k < n → m.getD k 0 = (g k).v) : dot l m n = (sm n fun k => f k * g k).v := by
  induction n with
  | zero => rfl
  | succ n ih =>
    rw [dot, sm, v_add, v_mul, ih (fun k hk => hl k (by omega)) (fun k hk => hm k (by omega)), hl n (by omega), hm n (by omega)]
theorem fn_at {ls : List (List Nat)} {i j : Nat} (hi : i < ls.length) (hle : ∀ x, x ∈ ls[i] → x ≤ 255) : (fn ls i j).v = ls[i].getD j 0 := by
  unfold fn
  have e1 : ls.getD i [] = ls[i] := by rw [List.getD_eq_getElem?_getD, List.getElem?_eq_getElem hi, Option.getD_some]
  rw [e1]
  refine toF_v ?_
  rw [List.getD_eq_getElem?_getD]
  cases h9 : ls[i][j]? with
  | none => simp
  | some y => simpa using hle y (List.mem_of_getElem? h9)
theorem col_at {ls : List (List Nat)} {i j : Nat} (hi : i < ls.length) : (col ls j).getD i 0 = ls[i].getD j 0 := by
  unfold col
  rw [List.getD_eq_getElem?_getD, List.getElem?_map, List.getElem?_eq_getElem hi]
  rfl
/-- Filled column by column. -/
def fillC (P : M) (j k : Nat) : M := fun i l => if l < j ∨ (l = j ∧ i < k) then P i l else 0
theorem fillC_zero (P : M) (n q : Nat) : Eqv n q (fillC P 0 0) (fun _ _ => 0) := fun i _ l _ => if_neg (by omega)
theorem fillC_next (P : M) (n q j : Nat) : Eqv n q (fillC P j n) (fillC P (j + 1) 0) := by
  intro i hi l _
  unfold fillC
  by_cases h : l < j + 1
  · rw [if_pos (by omega), if_pos (by omega)]
  · rw [if_neg (by omega), if_neg (by omega)]
theorem fillC_all (P : M) (n q : Nat) : Eqv n q (fillC P q 0) P := fun i _ l hl => if_pos (by omega)
theorem fillC_step (P : M) (n q j k : Nat) : Eqv n q (fun i => if i = k then (fun l => if l = j then P k j else fillC P j k k l) else fillC P j k i) (fillC P j (k + 1)) := by
  intro i _ l _
  by_cases e : i = k
  · subst e
    simp only [if_pos]
    unfold fillC
    by_cases e2 : l = j
    · subst e2; rw [if_pos rfl, if_pos (by omega)]
    · rw [if_neg e2]
      by_cases h : l < j
      · rw [if_pos (by omega), if_pos (by omega)]
      · rw [if_neg (by omega), if_neg (by omega)]
  · simp only [if_neg e]
    unfold fillC
    by_cases h : l < j ∨ (l = j ∧ i < k)
    · rw [if_pos h, if_pos (by omega)]
    · rw [if_neg h, if_neg (by omega)]
theorem bytes_other {w : World} {A : Option Addr} {l : List Nat} {p : Addr} (h : Bytes w A l) (v : Value) (hne : ∀ b off s, A = some ⟨b, off, s⟩ → b ≠ p.block) : Bytes (w.setCell p v) A l := by
  refine ⟨h.le, h.len, ?_⟩
  rcases h.at_ with h1 | ⟨b, off, e, hc⟩
  · exact .inl h1
  · refine .inr ⟨b, off, e, fun j hj => ?_⟩
    rw [← hc j hj]
    exact World.cell?_of_block (w := w) (Below.heap_setCell _ _ _ _ (hne b off none e))
set_option maxRecDepth 100000 in
set_option maxHeartbeats 1000000 in
theorem mul_ok (A A' : Option Addr) (n m c c' p : Nat) (ls ms : List (List Nat)) (w : World) (hR : Base.Rows w A ls) (hR' : Base.Rows w A' ms) (hl : ls.length = n) (hl' : ms.length = m) (hr : rightB ls = true) (hr' : rightB ms = true) (hw : wid ls = m) (hp : wid ms = p) :
    Calls Try.prog 62 #[.slice A n c, .slice A' m c'] w fun e w' => ∃ g cap bs, e = .returned (.tuple #[.slice (some ⟨g, 0, none⟩) n cap, .int .i64 0]) ∧ n ≤ cap ∧ Mat w' w.heap.size g n p bs (mm m (fn ls) (fn ms)) ∧ Below w.heap.size w w' := by
  obtain ⟨q1, q2, q3, q4, q5⟩ := (right_iff ls).1 hr
  obtain ⟨r1, r2, r3, r4, r5⟩ := (right_iff ms).1 hr'
  rw [hl] at q1 q2
  rw [hl'] at r1 r2
  have HA1 := Lib.hid (fun W (h : Base.Rows W A ls) => right_any A n c ls W h hl (by omega) (by omega))
  have HA2 := Lib.hid (fun W (h : Base.Rows W A' ms) => right_any A' m c' ms W h hl' (by omega) (by omega))
  rw [hr] at HA1
  rw [hr'] at HA2
  have HQ := Lib.hid q5
  have HS := Lib.hid r5
  have HW := Lib.hid hw
  have HP := Lib.hid hp
  have HL1 := Lib.hid hl
  have HL2 := Lib.hid hl'
  have HMD := Lib.hid (fun W => made_any n p W (by omega) (by omega) (by omega))
  have HB0 : Below w.heap.size w w := Below.refl _ _
  rw [hw] at q3 q4
  rw [hp] at r3 r4
  obtain ⟨b, off, rfl, hc0⟩ := hR.block (by omega)
  obtain ⟨B0, c0, h0, hx0⟩ := hc0 0 (by omega)
  clear hx0
  rw [Nat.add_zero, ← wid_of (by omega), hw] at h0
  obtain ⟨b', off', rfl, hc0'⟩ := hR'.block (by omega)
  obtain ⟨B0', c0', h0', hx0'⟩ := hc0' 0 (by omega)
  clear hx0'
  rw [Nat.add_zero, ← wid_of (by omega), hp] at h0'
  clear hc0 hc0' hr hr' hw hp hl hl' q5 r5
  obtain ⟨P, hP⟩ : ∃ P : M, P = mm m (fn ls) (fn ms) := ⟨_, rfl⟩
  rw [← hP]
  have HPP := Lib.hid hP
  clear hP
  have z0 : (0 : Int) < n := by omega
  have z1 : (0 : Int) < m := by omega
  go_enter Try.func62, Try.ntmps62
  go_wp2_with (first | (go_at_call 94; (with_reducible refine (HA1.out _ (hR.below HB0)).mono ?_); rintro e w1 ⟨rfl, hd1⟩; replace HB0 := bt HB0 HB0.size hd1; replace h0 := cell_below hd1 h0; replace h0' := cell_below hd1 h0') | (go_at_call 94; (with_reducible refine (HA2.out _ (hR'.below HB0)).mono ?_); rintro e w1 ⟨rfl, hd1⟩; replace HB0 := bt HB0 HB0.size hd1; replace h0 := cell_below hd1 h0; replace h0' := cell_below hd1 h0') | (go_at_call 63; (with_reducible refine (new_field _).mono ?_); rintro e w2 ⟨fb, rfl, hF, hfb, hd⟩; replace HB0 := bt HB0 HB0.size hd; replace h0 := cell_below hd h0; replace h0' := cell_below hd h0') | (go_at_call 92; (with_reducible refine (HMD.out _).mono ?_); rintro e w3 ⟨g, cap, bs, rfl, hcap, hM, hd3⟩; replace h0 := cell_below hd3 h0; replace h0' := cell_below hd3 h0'))
  have HRW := Lib.hid (fun k (hk : k < ls.length) => HQ.out k hk)
  have HL := Lib.hid hR.le
  have HL' := Lib.hid hR'.le
  have R2 := hR.below HB0
  have R2' := hR'.below HB0
  go_loopw [8, 9, 10, 40] (fun _ _ _ i wr => ∃ j : Nat, j ≤ p ∧ i = .int .i64 j ∧ Mat wr w2.heap.size g n p bs (fillC P j 0) ∧ Below w2.heap.size w2 wr) (fun _ _ _ i _ => p - (intOf i).toNat)
  case atStart => exact ⟨0, by omega, rfl, hM.congr (fillC_zero P n p).symm, hd3⟩
  case round =>
    obtain ⟨j, hj, rfl, HM, HB⟩ := hrel
    by_cases hlt : j < p
    · have HC := Lib.hid (fun W (h : Base.Rows W (some ⟨b', off', none⟩) ms) => column_any (some ⟨b', off', none⟩) m c' ms j W h HL2.out (by omega) (fun i hi => by rw [HS.out i hi, HP.out]; exact hlt) (by omega))
      go_wp2_with (go_at_call 99; (with_reducible refine (HC.out _ (R2'.below HB)).mono ?_); rintro e w4 ⟨A4, c4, rfl, hBy, hfar, hd4⟩)
      have hnew : ∀ bb oo ss, A4 = some ⟨bb, oo, ss⟩ → ∀ i, i < n → bb ≠ bs i := fun bb oo ss e i hi e2 => by
        have h9 := (hfar bb oo ss e).1
        have h8 := (HM.row i hi).lt
        omega
      have HNW := Lib.hid hnew
      replace HM := HM.below hd4
      replace HB := bt HB HB.size hd4
      clear hnew hfar hd4
      go_loopw [10, 48] (fun _ i wr => ∃ k : Nat, k ≤ n ∧ i = .int .i64 k ∧ Mat wr w2.heap.size g n p bs (fillC P j k) ∧ Below w2.heap.size w2 wr ∧ Bytes wr A4 (col ms j)) (fun _ i _ => n - (intOf i).toNat)
      case atStart => exact ⟨0, by omega, rfl, HM, HB, hBy⟩
      case round =>
        obtain ⟨k, hk, rfl, HM1, HB1, HY⟩ := hrel
        by_cases hlt2 : k < n
        · have ht := HM1.top k hlt2
          have hr := HM1.row k hlt2
          have hck := hr.cell j hlt
          have hfk := hr.free j
          have hkl : k < ls.length := by have := HL1.out; omega
          have hFr := FieldIn.below hF HB1
          obtain ⟨bb, oo, e, hc⟩ := (R2.below HB1).block (by omega)
          cases e
          obtain ⟨B1, c1, hcell, hrow⟩ := hc k hkl
          clear hc
          have hq1 : ls[k].length = m := by rw [HQ.out k hkl, HW.out]
          rw [hq1] at hcell
          have hby := hrow.bytes (by omega)
          have HV : dot ls[k] (col ms j) m = (P k j).v := by
            rw [HPP.out]
            exact dot_sm m (fun x hx => (fn_at hkl (HL.out k hkl)).symm) (fun x hx => by
              have hxl : x < ms.length := by have := HL2.out; omega
              rw [col_at hxl, fn_at hxl (HL'.out x hxl)])
          have hcl : (col ms j).length = m := by rw [col_length]; exact HL2.out
          have HD := Lib.hid (fun W (h1 : Bytes W B1 ls[k]) (h2 : Bytes W A4 (col ms j)) (h3 : FieldIn W fb) => dot_eq fb W B1 A4 ls[k] (col ms j) m c1 c4 h1 h2 hq1 hcl h3)
          rw [HV] at HD
          clear HV hq1 hcl hrow hr
          go_upto_region 12 with fail
          have d1 : wr.drew.cell? ⟨g, k, none⟩ = some (.slice (some ⟨bs k, 0, none⟩) p p) := ht
          have d2 : wr.drew.cell? ⟨bs k, j, none⟩ = some (.int .u8 (((fillC P j k k j).v : Nat) : Int)) := hck
          have d3 : wr.drew.frozen? ⟨bs k, j, none⟩ = false := hfk
          have d4 : wr.drew.cell? ⟨b, off + k, none⟩ = some (.slice B1 m c1) := hcell
          have D5 := Lib.hid (HD.out wr.drew (hby.below ((Below.refl wr.heap.size wr).drew)) (HY.below ((Below.refl wr.heap.size wr).drew)) (FieldIn.below hFr ((Below.refl wr.heap.size wr).drew)))
          clear ht hck hfk hcell hby hFr
          go_region_with (go_at_call 100; (with_reducible refine (D5.out).mono ?_); rintro e w5 ⟨rfl, hd⟩; replace d3 := (frozen_below hd.below d2).trans d3; replace d1 := cell_below hd.below d1; replace d2 := cell_below hd.below d2; replace d4 := cell_below hd.below d4)
          all_goals go_wp2
          all_goals (
            have hb0 : Below wr.heap.size wr w5 := bt_drew' hd.below
            exact ⟨⟨k + 1, by omega, by go_num, ((HM1.below hb0).set k j hlt2 hlt (P k j)).congr (fillC_step P n p j k), (bt HB1 HB1.size hb0).setCell (HM1.lo_b k hlt2) _, bytes_other (HY.below hb0) _ (fun bb oo ss e => HNW.out bb oo ss e k hlt2)⟩, by simp [intOf]; omega⟩)
        · obtain rfl : k = n := by omega
          go_wp2
          go_roundw
          case rel => exact ⟨j + 1, by omega, by go_num, HM1.congr (fillC_next P k p j), HB1⟩
          case measure => simp [intOf]; omega
    · obtain rfl : j = p := by omega
      go_wp2
      go_ret2
      exact ⟨g, cap, bs, rfl, hcap, ⟨HM.top, HM.free, HM.lt, (HM.congr (fillC_all P n j)).row, HM.inj, HM.ne, by have := HM.lo_g; have := HB0.size; omega, fun i hi => by have := HM.lo_b i hi; have := HB0.size; omega⟩, bt HB0 HB0.size HB⟩
end Go.Proofs.Ytmlemichkeomjaa.RowsW

/- rows.Powers walked. -/
set_option linter.unusedVariables false
set_option linter.unusedSimpArgs false
namespace Go.Proofs.Ytmlemichkeomjaa.RowsW
open Go.RowKit Go.Proofs.Ytmlemichkeomjaa.Base Go.Proofs.Ytmlemichkeomjaa.GfP Go.Proofs.Ytmlemichkeomjaa.GfW Go.Proofs.Ytmlemichkeomjaa.Lin

/-- The rows of powers. -/
def powT : M := fun i j => pwr (toF i) j
theorem pwr_rp (a k : Nat) (ha : a ≤ 255) : (pwr (toF a) k).v = rp a k := by
  induction k with
  | zero => rfl
  | succ k ih =>
    show (pwr (toF a) k * toF a).v = mul (rp a k) a
    rw [v_mul, ih, toF_v ha]
theorem pow_powT {i j : Nat} (hi : i ≤ 255) : pow i (j : Nat) = (powT i j).v := by
  rw [rp_nat hi]
  exact (pwr_rp i j hi).symm
/-- Filled row by row. -/
def fillR (P : M) (i j : Nat) : M := fun r l => if r < i ∨ (r = i ∧ l < j) then P r l else 0
theorem fillR_zero (P : M) (n q : Nat) : Eqv n q (fillR P 0 0) (fun _ _ => 0) := fun i _ l _ => if_neg (by omega)
theorem fillR_next (P : M) (n q i : Nat) : Eqv n q (fillR P i q) (fillR P (i + 1) 0) := by
  intro r hr l hl
  unfold fillR
  by_cases h : r < i + 1
  · rw [if_pos (by omega), if_pos (by omega)]
  · rw [if_neg (by omega), if_neg (by omega)]
theorem fillR_all (P : M) (n q : Nat) : Eqv n q (fillR P n 0) P := fun i hi l hl => if_pos (by omega)
theorem fillR_step (P : M) (n q i j : Nat) : Eqv n q (fun r => if r = i then (fun l => if l = j then P i j else fillR P i j i l) else fillR P i j r) (fillR P i (j + 1)) := by
  intro r _ l _
  by_cases e : r = i
  · subst e
    simp only [if_pos]
    unfold fillR
    by_cases e2 : l = j
    · subst e2; rw [if_pos rfl, if_pos (by omega)]
    · rw [if_neg e2]
      by_cases h : l < j
      · rw [if_pos (by omega), if_pos (by omega)]
      · rw [if_neg (by omega), if_neg (by omega)]
  · simp only [if_neg e]
    unfold fillR
    by_cases h : r < i
    · rw [if_pos (by omega), if_pos (by omega)]
    · rw [if_neg (by omega), if_neg (by omega)]
theorem Mat.wide {w : World} {lo lo' g n q : Nat} {bs : Nat → Nat} {A : M} (h : Mat w lo g n q bs A) (hl : lo' ≤ lo) : Mat w lo' g n q bs A :=
  ⟨h.top, h.free, h.lt, h.row, h.inj, h.ne, Nat.le_trans hl h.lo_g, fun i hi => Nat.le_trans hl (h.lo_b i hi)⟩
theorem powers_no (n k : Int) (w : World) (h1 : ¬ ((1 ≤ n ∧ n ≤ 32) ∧ (1 ≤ k ∧ k ≤ 32))) :
    Calls Try.prog 58 #[.int .i64 n, .int .i64 k] w fun e w' => e = .returned (.tuple #[.slice none 0 0, .bool false]) ∧ w = w' := by
  by_cases hn : 1 ≤ n ∧ n ≤ 32
  · have hk : ¬ (1 ≤ k ∧ k ≤ 32) := fun h => h1 ⟨hn, h⟩
    have H := Lib.hid (fits_yes n w hn.1 hn.2)
    have H2 := Lib.hid (fits_no k w hk)
    clear h1 hn hk
    go_enter Try.func58, Try.ntmps58
    go_wp2_with (first | (go_at_call 91; (with_reducible refine (H.out).mono ?_); rintro e w2 ⟨rfl, rfl⟩; clear H) | (go_at_call 91; (with_reducible refine (H2.out).mono ?_); rintro e w2 ⟨rfl, rfl⟩))
    go_ret2
    exact ⟨rfl, rfl⟩
  · have H := Lib.hid (fits_no n w hn)
    clear h1 hn
    go_enter Try.func58, Try.ntmps58
    go_wp2_with (go_at_call 91; (with_reducible refine (H.out).mono ?_); rintro e w2 ⟨rfl, rfl⟩)
    go_ret2
    exact ⟨rfl, rfl⟩
set_option maxRecDepth 100000 in
set_option maxHeartbeats 1000000 in
theorem powers_ok (n q : Nat) (w : World) (h1 : 1 ≤ n) (h2 : n ≤ 32) (h3 : 1 ≤ q) (h4 : q ≤ 32) :
    Calls Try.prog 58 #[.int .i64 (n : Nat), .int .i64 (q : Nat)] w fun e w' => ∃ g cap bs, e = .returned (.tuple #[.slice (some ⟨g, 0, none⟩) n cap, .bool true]) ∧ n ≤ cap ∧ Mat w' w.heap.size g n q bs powT ∧ Below w.heap.size w w' := by
  have HF := Lib.hid (fun (x : Nat) (a : 1 ≤ x) (b : x ≤ 32) => fits_yes x w (by omega) (by omega))
  have HMD := Lib.hid (fun W => made_any n q W (by omega) (by omega) (by omega))
  go_enter Try.func58, Try.ntmps58
  go_wp2_with (first | (go_at_call 91; (with_reducible refine (HF.out _ (by omega) (by omega)).mono ?_); rintro e w2 ⟨rfl, rfl⟩) | (go_at_call 63; (with_reducible refine (new_field _).mono ?_); rintro e w2 ⟨fb, rfl, hF, hfb, HB0⟩) | (go_at_call 92; (with_reducible refine (HMD.out _).mono ?_); rintro e w3 ⟨g, cap, bs, rfl, hcap, hM, hd3⟩))
  go_loopw [8, 9, 24] (fun _ _ i wr => ∃ k : Nat, k ≤ n ∧ i = .int .i64 k ∧ Mat wr w2.heap.size g n q bs (fillR powT k 0) ∧ Below w2.heap.size w2 wr) (fun _ _ i _ => n - (intOf i).toNat)
  case atStart => exact ⟨0, by omega, rfl, hM.congr (fillR_zero powT n q).symm, hd3⟩
  case round =>
    obtain ⟨k, hk, rfl, HM, HB⟩ := hrel
    by_cases hlt : k < n
    · go_wp2
      go_loopw [9, 28] (fun _ i wr => ∃ j : Nat, j ≤ q ∧ i = .int .i64 j ∧ Mat wr w2.heap.size g n q bs (fillR powT k j) ∧ Below w2.heap.size w2 wr) (fun _ i _ => q - (intOf i).toNat)
      case atStart => exact ⟨0, by omega, rfl, HM, HB⟩
      case round =>
        obtain ⟨j, hj, rfl, HM1, HB1⟩ := hrel
        by_cases hlt2 : j < q
        · have ht := HM1.top k hlt
          have hr := HM1.row k hlt
          have hck := hr.cell j hlt2
          have hfk := hr.free j
          have hFr := FieldIn.below hF HB1
          have hv := pow_powT (i := k) (j := j) (by omega)
          have HD := Lib.hid (fun W (h3 : FieldIn W fb) => pow_any fb k (j : Nat) W (by omega) h3)
          rw [hv] at HD
          clear hv
          have hcv : IntKind.u8.wrap ((k : Nat) : Int) = ((k : Nat) : Int) := by rw [IntKind.wrap_u8]; omega
          go_upto_region 11 with fail
          have d1 : wr.drew.cell? ⟨g, k, none⟩ = some (.slice (some ⟨bs k, 0, none⟩) q q) := ht
          have d2 : wr.drew.cell? ⟨bs k, j, none⟩ = some (.int .u8 (((fillR powT k j k j).v : Nat) : Int)) := hck
          have d3 : wr.drew.frozen? ⟨bs k, j, none⟩ = false := hfk
          have D5 := Lib.hid (HD.out wr.drew (FieldIn.below hFr ((Below.refl wr.heap.size wr).drew)))
          clear ht hck hfk hr hFr
          go_region_with (go_at_call 93; (with_reducible refine (D5.out).mono ?_); rintro e w5 ⟨rfl, hd⟩; replace d3 := (frozen_below hd.below d2).trans d3; replace d1 := cell_below hd.below d1; replace d2 := cell_below hd.below d2)
          clear hcv
          all_goals go_wp2
          all_goals (
            have hb0 : Below wr.heap.size wr w5 := bt_drew' hd.below
            exact ⟨⟨j + 1, by omega, by go_num, ((HM1.below hb0).set k j hlt hlt2 (powT k j)).congr (fillR_step powT n q k j), (bt HB1 HB1.size hb0).setCell (HM1.lo_b k hlt) _⟩, by simp [intOf]; omega⟩)
        · obtain rfl : j = q := by omega
          go_wp2
          go_roundw
          case rel => exact ⟨k + 1, by omega, by go_num, HM1.congr (fillR_next powT n j k), HB1⟩
          case measure => simp [intOf]; omega
    · obtain rfl : k = n := by omega
      go_wp2
      go_ret2
      exact ⟨g, cap, bs, rfl, hcap, (HM.congr (fillR_all powT k q)).wide HB0.size, bt HB0 HB0.size HB⟩
end Go.Proofs.Ytmlemichkeomjaa.RowsW

/- slices.Clone of a row and rows.Pick walked. -/
set_option linter.unusedVariables false
set_option linter.unusedSimpArgs false
namespace Go.Proofs.Ytmlemichkeomjaa.RowsW
open Go.RowKit Go.Proofs.Ytmlemichkeomjaa.Base Go.Proofs.Ytmlemichkeomjaa.GfP Go.Proofs.Ytmlemichkeomjaa.GfW Go.Proofs.Ytmlemichkeomjaa.Lin

/-- Bytes as values. -/
def lv (l : List Nat) : List Value := l.map fun x => Value.int .u8 ((x : Nat) : Int)
theorem lv_length (l : List Nat) : (lv l).length = l.length := by simp [lv]
theorem own_grown {w w' : World} {base e size n : Nat} {v : Value} {xs : List Value} {row : Option Nat} (h : w.ownsRow base e size v n xs) (hg : w.grownBy w' row) (hne : v.ownBlock = none ∨ v.ownBlock ≠ row) : w'.ownsRow base e size v n xs := by
  obtain ⟨hl, h0 | ⟨g, cap, cur, rfl, hb, hh, r⟩⟩ := h
  · exact ⟨hl, .inl h0⟩
  · have hlt : g < w.heap.size := by
      rcases Nat.lt_or_ge g w.heap.size with h1 | h1
      · exact h1
      · rw [Array.getElem?_eq_none h1] at hh; cases hh
    refine ⟨hl, .inr ⟨g, cap, cur, rfl, hb, (hg.block g hlt ?_).trans hh, r⟩⟩
    rcases hne with h1 | h1
    · simp [Value.ownBlock] at h1
    · exact h1
theorem own_ne_own {w : World} {b1 b2 e1 e2 s1 s2 n1 n2 : Nat} {v1 v2 : Value} {x1 x2 : List Value} (h1 : w.ownsRow b1 e1 s1 v1 n1 x1) (h2 : w.ownsRow b2 e2 s2 v2 n2 x2) (he : e1 ≠ e2) : v1.ownBlock = none ∨ v1.ownBlock ≠ v2.ownBlock := by
  rcases h1.2 with ⟨rfl, _⟩ | ⟨g, cap, cur, rfl, _, hg, _⟩
  · exact .inl rfl
  · right
    rcases h2.2 with ⟨rfl, _⟩ | ⟨g2, cap2, cur2, rfl, _, hg2, _⟩
    · simp [Value.ownBlock]
    · intro e
      obtain rfl : g = g2 := by simpa [Value.ownBlock] using e
      rw [hg] at hg2
      simp at hg2
      exact he hg2.2
theorem own_alloc {w : World} {base e size n : Nat} {v : Value} {xs : List Value} (h : w.ownsRow base e size v n xs) (o : Obj) : (w.alloc o).ownsRow base e size v n xs := h.alloc o
theorem own_below {w w' : World} {base e size n : Nat} {v : Value} {xs : List Value} (h : w.ownsRow base e size v n xs) (hb : Below w.heap.size w w') : w'.ownsRow base e size v n xs := by
  obtain ⟨hl, h0 | ⟨g, cap, cur, rfl, h1, hh, r⟩⟩ := h
  · exact ⟨hl, .inl h0⟩
  · have hlt : g < w.heap.size := by
      rcases Nat.lt_or_ge g w.heap.size with h1 | h1
      · exact h1
      · rw [Array.getElem?_eq_none h1] at hh; cases hh
    exact ⟨hl, .inr ⟨g, cap, cur, rfl, h1, (hb.block g hlt).trans hh, r⟩⟩
theorem own_row1 {w : World} {base e n : Nat} {v : Value} {l : List Nat} (h : w.ownsRow base e 1 v n (lv l)) (hle : ∀ x, x ∈ l → x ≤ 255) : ∃ A c, v = .slice A n c ∧ l.length = n ∧ Row1 w A l := by
  have hl : l.length = n := by have := h.1; rw [lv_length] at this; omega
  rcases h.2 with ⟨rfl, h0⟩ | ⟨g, cap, cur, rfl, hb, hg, _⟩
  · have : l = [] := List.eq_nil_of_length_eq_zero (by omega)
    subst this
    exact ⟨none, 0, by rw [h0], hl, Row1.nil _ _⟩
  · refine ⟨_, cap, rfl, hl, hle, Or.inr ⟨g, 0, rfl, fun i hi => ?_⟩⟩
    have hc := h.cells (g := g) rfl i (.int .u8 ((l.getD i 0 : Nat) : Int)) (by simp [lv, hi])
    have ha : (⟨g, 0, none⟩ : Addr).add i = ⟨g, 0 + i, none⟩ := by unfold Addr.add; split <;> simp_all
    rw [ha] at hc
    exact hc
theorem row1_news {w : World} {b off : Nat} {l : List Nat} (h : ∀ j, j < l.length → w.cell? ⟨b, off + j, none⟩ = some (.int .u8 ((l.getD j 0 : Nat) : Int))) : ∀ j u, (lv l)[j]? = some u → w.cell? ((⟨b, off, none⟩ : Addr).add j) = some u := by
  intro j u hj
  have hjl : j < l.length := by
    rcases Nat.lt_or_ge j l.length with h' | h'
    · exact h'
    · rw [List.getElem?_eq_none (by rw [lv_length]; exact h')] at hj; cases hj
  rw [show (⟨b, off, none⟩ : Addr).add j = ⟨b, off + j, none⟩ by cases j <;> simp [Addr.add], h j hjl]
  rw [← hj]
  simp [lv, hjl]
theorem lv_one (l : List Nat) : ∀ u ∈ lv l, u.oneCell' = true := fun u hu => by
  obtain ⟨x, _, rfl⟩ := List.mem_map.1 hu
  rfl
theorem own_form {w : World} {base e size n : Nat} {v : Value} {xs : List Value} (h : w.ownsRow base e size v n xs) (h0 : 0 < n) : ∃ g cap, v = .slice (some ⟨g, 0, none⟩) n cap := by
  rcases h.2 with ⟨_, h1⟩ | ⟨g, cap, cur, rfl, _⟩
  · omega
  · exact ⟨g, cap, rfl⟩
set_option maxRecDepth 100000 in
set_option maxHeartbeats 1000000 in
theorem clone_any (A : Option Addr) (n c : Nat) (l : List Nat) (w : World) (hR : Row1 w A l) (hl : l.length = n) (h0 : 0 < n) (hn : n ≤ 1000000) :
    Calls Try.prog 95 #[.slice A n c] w fun e w' => ∃ g cp, e = .returned (.slice (some ⟨g, 0, none⟩) n cp) ∧ w'.ownsRow w.heap.size 5 1 (.slice (some ⟨g, 0, none⟩) n cp) n (lv l) ∧ Below w.heap.size w w' := by
  obtain ⟨b, off, rfl, hc⟩ := hR.block (by omega)
  have hE := fun W => Lib.run_eql_slice_nil (P := Try.prog) W 70 5 (some ⟨b, off, none⟩) n c 0 0 Try.underlying70
  obtain ⟨i0, hi, hzz⟩ := Option.map_eq_some_iff.1 info_byte
  simp only [Prod.mk.injEq] at hzz
  obtain ⟨hz0, hz1, hz2⟩ := hzz
  have HO : (w.alloc (.cells #[] 5)).ownsRow w.heap.size 5 1 (.slice (some ⟨w.heap.size, 0, none⟩) 0 0) 0 [] := World.ownsRow_made w #[] 0 (Nat.le_refl _) (by unfold maxLen; omega) rfl
  have HN := Lib.hid (row1_news (w := w.alloc (.cells #[] 5)) (fun j hj => cell_alloc (hc j hj) _))
  clear hc hR
  go_enter Try.func95, Try.ntmps95
  go_wp2_with (at_builtin; refine wpList_append_own_at _ rfl (.tmp 5) (.tmp 6) 70 rfl w.heap.size 5 i0 (.int .u8 0) 1 1 Try.underlying70 hi hz0 hz1 hz2 rfl (by omega) (.slice (some ⟨w.heap.size, 0, none⟩) 0 0) 0 [] rfl HO ⟨b, off, none⟩ n c (lv l) rfl (by rw [lv_length]; omega) HN.out (lv_one l) (by simp only [maxLen]; omega) (by omega) (by simp) ?_; intro v1 w1 HO2 hg2 _ _)
  rw [Nat.zero_add, List.nil_append] at HO2
  obtain ⟨g, cp, rfl⟩ := own_form HO2 h0
  go_ret
  exact ⟨g, cp, rfl, HO2, ((Below.refl _ _).alloc (Nat.le_refl _) _).grown hg2 (by simp) (own_lo HO)⟩

theorem own_mono {w : World} {base base' e size n : Nat} {v : Value} {xs : List Value} (h : w.ownsRow base e size v n xs) (hb : base' ≤ base) : w.ownsRow base' e size v n xs :=
  ⟨h.1, h.2.imp id fun ⟨g, cap, cur, hv, hg, r⟩ => ⟨g, cap, cur, hv, Nat.le_trans hb hg, r⟩⟩
/-- What has been picked so far. -/
structure Picked (w0 w : World) (d : Value) (vs : List Value) (ms : List (List Nat)) : Prop where
  own : w.ownsRow w0.heap.size 70 1 d ms.length vs
  row : ∀ i (h : i < ms.length), ∃ v, vs[i]? = some v ∧ w.ownsRow 0 5 1 v ms[i].length (lv ms[i])
  le : ∀ i (h : i < ms.length), ∀ x, x ∈ ms[i] → x ≤ 255
  below : Below w0.heap.size w0 w
theorem Picked.start (w : World) : Picked w w (.slice none 0 0) [] [] := ⟨World.ownsRow_nil _ _ _ _, fun i h => by simp at h, fun i h => by simp at h, Below.refl _ _⟩
theorem Picked.step {w0 w W w1 : World} {d d1 v : Value} {vs : List Value} {ms : List (List Nat)} {l : List Nat} (h : Picked w0 w d vs ms) (hb : Below w.heap.size w W) (hv : W.ownsRow w.heap.size 5 1 v l.length (lv l)) (hle : ∀ x, x ∈ l → x ≤ 255)
    (ho : w1.ownsRow w0.heap.size 70 1 d1 (ms.length + 1) (vs ++ [v])) (hB : Below w0.heap.size w0 w1) (hg : W.grownBy w1 d.ownBlock) : Picked w0 w1 d1 (vs ++ [v]) (ms ++ [l]) := by
  have hvl : vs.length = ms.length := by have := h.own.1; omega
  refine ⟨by simpa using ho, fun i hi => ?_, fun i hi => ?_, hB⟩
  · by_cases e : i < ms.length
    · obtain ⟨u, hu, hou⟩ := h.row i e
      refine ⟨u, by rw [List.getElem?_append_left (by omega)]; exact hu, ?_⟩
      rw [List.getElem_append_left e]
      exact own_grown (own_below hou hb) hg (own_ne_own (own_below hou hb) (own_below h.own hb) (by decide))
    · obtain rfl : i = ms.length := by rw [List.length_append, List.length_singleton] at hi; omega
      refine ⟨v, by rw [← hvl]; simp, ?_⟩
      rw [List.getElem_append_right (Nat.le_refl _)]
      simp only [Nat.sub_self, List.getElem_cons_zero]
      exact own_mono (own_grown hv hg (own_ne_own hv (own_below h.own hb) (by decide))) (Nat.zero_le _)
  · by_cases e : i < ms.length
    · rw [List.getElem_append_left e]; exact h.le i e
    · obtain rfl : i = ms.length := by rw [List.length_append, List.length_singleton] at hi; omega
      rw [List.getElem_append_right (Nat.le_refl _)]
      simpa using hle
theorem Picked.rows {w0 w : World} {d : Value} {vs : List Value} {ms : List (List Nat)} (h : Picked w0 w d vs ms) : ∃ A c, d = .slice A ms.length c ∧ ms.length ≤ c ∧ Base.Rows w A ms := by
  rcases h.own.2 with ⟨rfl, h0⟩ | ⟨g, cap, cur, rfl, hb, hg, hc, _⟩
  · have : ms = [] := List.eq_nil_of_length_eq_zero h0
    subst this
    exact ⟨none, 0, rfl, Nat.le_refl _, Base.Rows.nil _ _⟩
  · refine ⟨_, cap, rfl, hc, ⟨Or.inr ⟨g, 0, rfl, fun j hj => ?_⟩⟩⟩
    obtain ⟨v, hv, hov⟩ := h.row j hj
    obtain ⟨A, c, rfl, _, hr⟩ := own_row1 hov (h.le j hj)
    have hcl := h.own.cells (g := g) rfl j _ hv
    have ha : (⟨g, 0, none⟩ : Addr).add j = ⟨g, 0 + j, none⟩ := by unfold Addr.add; split <;> simp_all
    rw [ha] at hcl
    exact ⟨A, c, hcl, hr⟩
theorem Picked.rows' {w0 w : World} {d : Value} {vs : List Value} {ms : List (List Nat)} {k : Nat} (h : Picked w0 w d vs ms) (hk : ms.length = k) : ∃ A c, d = .slice A k c ∧ k ≤ c ∧ Base.Rows w A ms := by
  subst hk
  exact h.rows
/-- The rows of those numbers. -/
def pickL (ls : List (List Nat)) (l : List Int) : List (List Nat) := l.map fun n => ls.getD n.toNat []
theorem pickL_length (ls : List (List Nat)) (l : List Int) : (pickL ls l).length = l.length := by simp [pickL]
theorem pickL_take (ls : List (List Nat)) (l : List Int) (k m : Nat) (h : k < l.length) (e : l[k] = (m : Int)) (hm : m < ls.length) : pickL ls (l.take (k + 1)) = pickL ls (l.take k) ++ [ls[m]] := by
  unfold pickL
  rw [List.take_succ_eq_append_getElem h, List.map_append, List.map_cons, List.map_nil, e]
  simp [List.getD_eq_getElem?_getD, List.getElem?_eq_getElem hm]
theorem pick_no (A A2 : Option Addr) (n c m c2 : Nat) (ls : List (List Nat)) (w : World) (hR : Base.Rows w A ls) (hl : ls.length = n) (hn : n ≤ 1000) (hw : wid ls ≤ 1000) (hm : m ≤ 1000000) (h : rightB ls = false ∨ ¬ (1 ≤ m ∧ m ≤ 32)) :
    Calls Try.prog 59 #[.slice A n c, .slice A2 m c2] w fun e w' => e = .returned (.tuple #[.slice none 0 0, .int .i64 1]) ∧ Below w.heap.size w w' := by
  obtain ⟨B, hB⟩ : ∃ B, rightB ls = B := ⟨_, rfl⟩
  have HR := right_any A n c ls w hR hl hn hw
  rw [hB] at h HR
  have HR := Lib.hid HR
  clear hB hR
  cases B with
  | false =>
    clear h
    go_enter Try.func59, Try.ntmps59
    go_wp2_with (go_at_call 94; (with_reducible refine (HR.out).mono ?_); rintro e w2 ⟨rfl, hd⟩)
    go_ret2
    exact ⟨rfl, hd⟩
  | true =>
    have hm2 : ¬ (1 ≤ m ∧ m ≤ 32) := by simpa using h
    have HF := Lib.hid (fun W => fits_no m W (by omega))
    clear h hm2
    go_enter Try.func59, Try.ntmps59
    go_wp2_with (first | (go_at_call 94; (with_reducible refine (HR.out).mono ?_); rintro e w2 ⟨rfl, hd⟩) | (go_at_call 91; (with_reducible refine (HF.out _).mono ?_); rintro e w3 ⟨rfl, rfl⟩))
    go_ret2
    exact ⟨rfl, hd⟩
def PickPost (w : World) (ls : List (List Nat)) (l : List Int) (n m : Nat) (e : Ending) (w' : World) : Prop :=
  (((∃ i, ∃ h : i < l.length, ¬ (0 ≤ l[i] ∧ l[i] < n)) ∧ e = .returned (.tuple #[.slice none 0 0, .int .i64 1])) ∨ ((∀ i (h : i < l.length), 0 ≤ l[i] ∧ l[i] < n) ∧ ∃ A' c', e = .returned (.tuple #[.slice A' m c', .int .i64 0]) ∧ m ≤ c' ∧ Base.Rows w' A' (pickL ls l))) ∧ Below w.heap.size w w'
set_option maxRecDepth 100000 in
set_option maxHeartbeats 1000000 in
theorem pick_any (A A2 : Option Addr) (n c m c2 : Nat) (ls : List (List Nat)) (l : List Int) (w : World) (hR : Base.Rows w A ls) (hI : Ints w A2 l) (hl : ls.length = n) (hl2 : l.length = m) (hr : rightB ls = true) (h1 : 1 ≤ m) (h2 : m ≤ 32) (q : Nat) (hw : wid ls = q) :
    Calls Try.prog 59 #[.slice A n c, .slice A2 m c2] w (PickPost w ls l n m) := by
  obtain ⟨q1, q2, q3, q4, q5⟩ := (right_iff ls).1 hr
  rw [hl] at q1 q2
  rw [hw] at q3 q4
  have HR := right_any A n c ls w hR hl (by omega) (by omega)
  rw [hr] at HR
  have HR := Lib.hid HR
  have HF := Lib.hid (fun W => fits_yes m W (by omega) (by omega))
  have HQ := Lib.hid (fun i (hi : i < ls.length) => (q5 i hi).trans hw)
  have HL := Lib.hid hl
  have HLE := Lib.hid hR.le
  clear q5 hw hr
  go_enter Try.func59, Try.ntmps59
  go_wp2_with (first | (go_at_call 94; (with_reducible refine (HR.out).mono ?_); rintro e w2 ⟨rfl, hd2⟩) | (go_at_call 91; (with_reducible refine (HF.out _).mono ?_); rintro e w3 ⟨rfl, rfl⟩))
  have HS : Picked w2 w2 (.slice none 0 0) [] [] := Picked.start w2
  go_loopw [6, 8, 20] (fun d _ i wr => ∃ (k : Nat) (vs : List Value), k ≤ m ∧ i = .int .i64 k ∧ Picked w2 wr d vs (pickL ls (l.take k)) ∧ ∀ j (hj : j < l.length), j < k → 0 ≤ l[j] ∧ l[j] < n) (fun _ _ i _ => m - (intOf i).toNat)
  case atStart => exact ⟨0, [], by omega, rfl, HS, fun j _ h => by omega⟩
  case round =>
    obtain ⟨k, vs, hk, rfl, HP, hall⟩ := hrel
    have HA := Lib.hid hall
    clear hall
    by_cases hlt : k < m
    · have hkl : k < l.length := by omega
      have HB := bt hd2 hd2.size HP.below
      obtain ⟨ib, io, rfl, hci⟩ := (hI.below HB).block (by omega)
      have hx := hci k hkl
      have hxr := hI.le l[k] (List.getElem_mem hkl)
      clear hci
      obtain ⟨x, hxe⟩ : ∃ x, x = l[k] := ⟨_, rfl⟩
      rw [← hxe] at hx hxr
      have HX := Lib.hid hxe
      clear hxe
      by_cases hx0 : x < 0
      · have hx0' : decide (x < 0) = true := by simp [hx0]
        go_wp2
        go_ret2
        unfold PickPost
        exact ⟨.inl ⟨⟨k, hkl, by rw [← HX.out]; omega⟩, rfl⟩, HB⟩
      · have hx0' : decide (x < 0) = false := by simp; omega
        by_cases hxn : (n : Int) ≤ x
        · have hxn' : decide ((n : Int) ≤ x) = true := by simp [hxn]
          go_wp2
          go_ret2
          unfold PickPost
          exact ⟨.inl ⟨⟨k, hkl, by rw [← HX.out]; omega⟩, rfl⟩, HB⟩
        · have hxn' : decide ((n : Int) ≤ x) = false := by simp; omega
          obtain ⟨i, hi⟩ := Int.eq_ofNat_of_zero_le (show 0 ≤ x by omega)
          subst hi
          have hin : i < n := by omega
          have hil : i < ls.length := by have := HL.out; omega
          obtain ⟨b, off, rfl, hc⟩ := (hR.below HB).block (by have := HL.out; omega)
          obtain ⟨B1, c1, hcell, hrow⟩ := hc i hil
          clear hc
          have hq := HQ.out i hil
          rw [hq] at hcell
          have HCL := Lib.hid (clone_any B1 q c1 ls[i] wr hrow hq (by omega) (by omega))
          rw [← hq] at HCL
          have HT := Lib.hid (pickL_take ls l k i hkl HX.out.symm hil)
          have HQI := Lib.hid hq
          have hlen : (pickL ls (l.take k)).length = k := by rw [pickL_length, List.length_take]; omega
          have HO1 := HP.own
          rw [hlen] at HO1
          have hvl : vs.length = k := by have := HO1.1; omega
          have HLEN := Lib.hid hlen
          clear hq hlen hx0 hxn hrow
          go_wp2_with (first | (go_at_call 95; rw [← HQI.out]; (with_reducible refine (HCL.out).mono ?_); rintro e w4 ⟨vg, vc, rfl, hv, hd4⟩; have HO3 := own_below HO1 hd4; have HB3 := bt HP.below HP.below.size hd4) | (at_builtin; refine app_one w2.heap.size rfl (.tmp 32) (.tmp 38) 119 70 (.slice none 0 0) 24 rfl Try.underlying119 info_row rfl (by omega) _ vs _ k hvl rfl rfl rfl HO3 HB3 HB3.size (by omega) ?_; intro v1 w1 HO2 HB2 hg2))
          go_roundw
          case rel =>
            rw [← HLEN.out] at HO2
            have HP2 := HP.step hd4 hv (HLE.out i hil) HO2 HB2 hg2
            rw [← HT.out] at HP2
            refine ⟨k + 1, _, by omega, by go_num, HP2, fun j hj hjk => ?_⟩
            rcases Nat.lt_or_ge j k with h | h
            · exact HA.out j hj h
            · obtain rfl : j = k := by omega
              rw [← HX.out]
              omega
          case measure => simp [intOf]; omega
    · obtain rfl : k = m := by omega
      have HT : l.take k = l := List.take_of_length_le (by omega)
      rw [HT] at HP
      obtain ⟨A', c', rfl, h3, h4⟩ := HP.rows' (k := k) (by rw [pickL_length]; exact hl2)
      have HB := bt hd2 hd2.size HP.below
      go_wp2
      go_ret2
      unfold PickPost
      exact ⟨.inr ⟨fun i h => HA.out i h (by omega), A', c', rfl, h3, h4⟩, HB⟩
end Go.Proofs.Ytmlemichkeomjaa.RowsW

/- Two tables of one's own side by side; a row copied; rows that change places. -/
set_option linter.unusedVariables false
set_option linter.unusedSimpArgs false
namespace Go.Proofs.Ytmlemichkeomjaa.RowsW
open Go.RowKit Go.Proofs.Ytmlemichkeomjaa.Base Go.Proofs.Ytmlemichkeomjaa.GfP Go.Proofs.Ytmlemichkeomjaa.GfW Go.Proofs.Ytmlemichkeomjaa.Lin

theorem RowAt.of_heap {w w' : World} {b q : Nat} {f : Nat → F} (h : RowAt w b q f) (hb : w'.heap[b]? = w.heap[b]?) (hs : w.heap.size ≤ w'.heap.size) : RowAt w' b q f :=
  ⟨fun j hj => (World.cell?_of_block (a := ⟨b, j, none⟩) (w := w) hb).trans (h.cell j hj), fun j => (World.frozen?_of_block (a := ⟨b, j, none⟩) (w := w) hb).trans (h.free j), Nat.lt_of_lt_of_le h.lt hs, by obtain ⟨cur, h1, h2⟩ := h.blk; exact ⟨cur, hb.trans h1, h2⟩⟩
theorem Mat.of_heap {w w' : World} {lo g n q : Nat} {bs : Nat → Nat} {A : M} (h : Mat w lo g n q bs A) (hg : w'.heap[g]? = w.heap[g]?) (hb : ∀ i, i < n → w'.heap[bs i]? = w.heap[bs i]?) (hs : w.heap.size ≤ w'.heap.size) : Mat w' lo g n q bs A :=
  ⟨fun i hi => (World.cell?_of_block (a := ⟨g, i, none⟩) (w := w) hg).trans (h.top i hi), fun i => (World.frozen?_of_block (a := ⟨g, i, none⟩) (w := w) hg).trans (h.free i), Nat.lt_of_lt_of_le h.lt hs, fun i hi => (h.row i hi).of_heap (hb i hi) hs, h.inj, h.ne, h.lo_g, h.lo_b⟩
theorem setCell_size (w : World) (a : Addr) (v : Value) : (w.setCell a v).heap.size = w.heap.size := by simp [World.setCell]
/-- A table whose blocks are others. -/
theorem Mat.other {w : World} {lo g n q h i : Nat} {bs : Nat → Nat} {A : M} (hM : Mat w lo g n q bs A) (hg : g ≠ h) (hb : ∀ i, i < n → bs i ≠ h) (v : Value) : Mat (w.setCell ⟨h, i, none⟩ v) lo g n q bs A :=
  hM.of_heap (Below.heap_setCell _ _ _ _ hg) (fun i hi => Below.heap_setCell _ _ _ _ (hb i hi)) (by rw [setCell_size]; exact Nat.le_refl _)
theorem Mat.swapped {w : World} {lo g n q c p : Nat} {bs : Nat → Nat} {A : M} (h : Mat w lo g n q bs A) (hc : c < n) (hp : p < n) :
    Mat ((w.setCell ⟨g, c, none⟩ (.slice (some ⟨bs p, 0, none⟩) q q)).setCell ⟨g, p, none⟩ (.slice (some ⟨bs c, 0, none⟩) q q)) lo g n q (fun i => bs (sw c p i)) (swp c p A) := by
  have e1 := cell_set (h.top c hc) (.slice (some ⟨bs p, 0, none⟩) q q)
  have e2 : (w.setCell ⟨g, c, none⟩ (.slice (some ⟨bs p, 0, none⟩) q q)).cell? ⟨g, p, none⟩ = some (.slice (some ⟨bs p, 0, none⟩) q q) := by
    rw [e1 p]
    by_cases e : p = c
    · rw [if_pos e]
    · rw [if_neg e, h.top p hp]
  have e3 := cell_set e2 (.slice (some ⟨bs c, 0, none⟩) q q)
  refine ⟨fun i hi => ?_, fun i => ?_, ?_, fun i hi => ?_, fun i j hi hj e => ?_, fun i hi => h.ne _ (sw_lt hc hp hi), h.lo_g, fun i hi => h.lo_b _ (sw_lt hc hp hi)⟩
  · rw [e3 i, e1 i]
    unfold sw
    by_cases a : i = p
    · subst a
      rw [if_pos rfl]
      by_cases b : i = c
      · subst b; simp
      · rw [if_neg b]; simp
    · rw [if_neg a]
      by_cases b : i = c
      · rw [if_pos b, if_pos b]
      · rw [if_neg b, if_neg b, if_neg a, h.top i hi]
  · rw [World.frozen?_setCell, World.frozen?_setCell]; exact h.free i
  · rw [setCell_size, setCell_size]; exact h.lt
  · have hk := sw_lt hc hp hi
    refine ((h.row _ hk).of_heap (w' := (w.setCell ⟨g, c, none⟩ (.slice (some ⟨bs p, 0, none⟩) q q)).setCell ⟨g, p, none⟩ (.slice (some ⟨bs c, 0, none⟩) q q)) ?_ (by rw [setCell_size, setCell_size]; exact Nat.le_refl _))
    rw [Below.heap_setCell _ _ _ _ (h.ne _ hk), Below.heap_setCell _ _ _ _ (h.ne _ hk)]
  · have := h.inj _ _ (sw_lt hc hp hi) (sw_lt hc hp hj) e
    have := congrArg (sw c p) this
    rwa [sw_sw, sw_sw] at this
/-- Two tables, none of whose blocks is the other's. -/
structure Two (w : World) (lo g h n : Nat) (bs cs : Nat → Nat) (W O : M) : Prop where
  a : Mat w lo g n n bs W
  b : Mat w lo h n n cs O
  gh : g ≠ h
  d1 : ∀ i, i < n → bs i ≠ h
  d2 : ∀ i, i < n → cs i ≠ g
  d3 : ∀ i j, i < n → j < n → bs i ≠ cs j
theorem Two.of_made {w w' : World} {lo g h n : Nat} {bs cs : Nat → Nat} {W O : M} (hO : Mat w lo h n n cs O) (hW : Mat w' w.heap.size g n n bs W) (hb : Below w.heap.size w w') (hlo : lo ≤ w.heap.size) : Two w' lo g h n bs cs W O :=
  ⟨hW.wide hlo, hO.below hb, by have := hW.lo_g; have := hO.lt; omega, fun i hi => by have := hW.lo_b i hi; have := hO.lt; omega, fun i hi => by have := hW.lo_g; have := (hO.row i hi).lt; omega, fun i j hi hj => by have := hW.lo_b i hi; have := (hO.row j hj).lt; omega⟩
theorem Two.below {w w' : World} {lo g h n : Nat} {bs cs : Nat → Nat} {W O : M} (hT : Two w lo g h n bs cs W O) (hb : Below w.heap.size w w') : Two w' lo g h n bs cs W O :=
  ⟨hT.a.below hb, hT.b.below hb, hT.gh, hT.d1, hT.d2, hT.d3⟩
theorem Two.congr {w : World} {lo g h n : Nat} {bs cs : Nat → Nat} {W O W' O' : M} (hT : Two w lo g h n bs cs W O) (h1 : Eqv n n W W') (h2 : Eqv n n O O') : Two w lo g h n bs cs W' O' :=
  ⟨hT.a.congr h1, hT.b.congr h2, hT.gh, hT.d1, hT.d2, hT.d3⟩
theorem only_heap {a b : Nat} {w w' : World} (ho : Only a b w w') {k : Nat} (hk : k < w.heap.size) (hx : k < a ∨ b ≤ k) : w'.heap[k]? = w.heap[k]? := ho.block k hk hx
theorem Two.row_a {w w' : World} {lo g h n k : Nat} {bs cs : Nat → Nat} {W O : M} {f : Nat → F} (hT : Two w lo g h n bs cs W O) (hk : k < n) (ho : Only (bs k) (bs k + 1) w w') (hr : RowAt w' (bs k) n f) :
    Two w' lo g h n bs cs (fun i => if i = k then f else W i) O :=
  ⟨hT.a.row_only hk ho hr, hT.b.of_heap (only_heap ho hT.b.lt (by have := hT.d1 k hk; omega)) (fun i hi => only_heap ho (hT.b.row i hi).lt (by have := hT.d3 k i hk hi; omega)) ho.size, hT.gh, hT.d1, hT.d2, hT.d3⟩
theorem Two.row_b {w w' : World} {lo g h n k : Nat} {bs cs : Nat → Nat} {W O : M} {f : Nat → F} (hT : Two w lo g h n bs cs W O) (hk : k < n) (ho : Only (cs k) (cs k + 1) w w') (hr : RowAt w' (cs k) n f) :
    Two w' lo g h n bs cs W (fun i => if i = k then f else O i) :=
  ⟨hT.a.of_heap (only_heap ho hT.a.lt (by have := hT.d2 k hk; omega)) (fun i hi => only_heap ho (hT.a.row i hi).lt (by have := hT.d3 i k hi hk; omega)) ho.size, hT.b.row_only hk ho hr, hT.gh, hT.d1, hT.d2, hT.d3⟩
theorem Two.swapped {w : World} {lo g h n c p : Nat} {bs cs : Nat → Nat} {W O : M} (hT : Two w lo g h n bs cs W O) (hc : c < n) (hp : p < n) :
    Two ((((w.setCell ⟨g, c, none⟩ (.slice (some ⟨bs p, 0, none⟩) n n)).setCell ⟨g, p, none⟩ (.slice (some ⟨bs c, 0, none⟩) n n)).setCell ⟨h, c, none⟩ (.slice (some ⟨cs p, 0, none⟩) n n)).setCell ⟨h, p, none⟩ (.slice (some ⟨cs c, 0, none⟩) n n))
      lo g h n (fun i => bs (sw c p i)) (fun i => cs (sw c p i)) (swp c p W) (swp c p O) := by
  have h1 := hT.a.swapped hc hp
  have h2 := ((hT.b.other (h := g) (i := c) (Ne.symm hT.gh) hT.d2 (.slice (some ⟨bs p, 0, none⟩) n n)).other (h := g) (i := p) (Ne.symm hT.gh) hT.d2 (.slice (some ⟨bs c, 0, none⟩) n n)).swapped hc hp
  exact ⟨(h1.other (h := h) (i := c) hT.gh (fun i hi => hT.d1 _ (sw_lt hc hp hi)) _).other (h := h) (i := p) hT.gh (fun i hi => hT.d1 _ (sw_lt hc hp hi)) _, h2, hT.gh, fun i hi => hT.d1 _ (sw_lt hc hp hi), fun i hi => hT.d2 _ (sw_lt hc hp hi), fun i j hi hj => hT.d3 _ _ (sw_lt hc hp hi) (sw_lt hc hp hj)⟩
theorem Mat.only_row {w w' : World} {lo g n q k : Nat} {bs : Nat → Nat} {A : M} {w0 : World} (h : Mat w lo g n q bs A) (hk : k < n) (hb : Below lo w0 w) (hlo : lo ≤ w.heap.size) (ho : Only (bs k) (bs k + 1) w w') : Below lo w0 w' :=
  hb.trans (ho.below (h.lo_b k hk) hlo)
/-- A row is copied whole, as one step of a region that draws its order. -/
theorem step_copy_row {P : Program} {ops : Array Oper} {o : Oper} {a : Act} {w : World} {K : Act → World → Prop} {Q : Exit → Act → World → Prop} {E : Prop} (hgd : o.guard = none) (d s : Operand) (dT sT : TypeId)
    (ho : o.op = .call { callee := .builtin .copy, args := #[d, s], argTypes := #[dT, sT] }) (elem : TypeId) (hu : P.underlying dT = some (.slice elem)) (hsz : (P.info? elem).map (·.size) = some 1)
    (b q c b2 off2 c2 : Nat) (f g : Nat → F) (hd : a.eval d = .slice (some ⟨b, 0, none⟩) q c) (hs : a.eval s = .slice (some ⟨b2, off2, none⟩) q c2)
    (hR : RowAt w b q g) (hsrc : ∀ j, j < q → w.cell? ⟨b2, off2 + j, none⟩ = some (.int .u8 (((f j).v : Nat) : Int)))
    (h : ∀ w', RowAt w' b q f → Only b (b + 1) w w' → K (a.put o.dst (goInt q)) w') :
    if Region.wanted o (yielded ops a.tmps) = true then Oper.wp P o a w K Q else E := by
  have hw : Region.wanted o (yielded ops a.tmps) = true := by simp [Region.wanted, hgd]
  rw [if_pos hw]
  obtain ⟨cur, hg, hsize⟩ := hR.blk
  have hcl : ((List.range q).map fun j => Value.int .u8 (((f j).v : Nat) : Int)).length = q := by simp
  have hrun := run_copy_row (P := P) w dT sT o.type elem b 0 q c ⟨b2, off2, none⟩ q c2 cur 5 ((List.range q).map fun j => Value.int .u8 (((f j).v : Nat) : Int)) hu hsz hg (by rw [hcl]; exact (Nat.min_self q).symm) (fun j v hj => by
    rcases Nat.lt_or_ge j q with h' | h'
    · rw [show (⟨b2, off2, none⟩ : Addr).add j = ⟨b2, off2 + j, none⟩ by cases j <;> simp [Addr.add], hsrc j h', ← hj]
      simp [h']
    · rw [List.getElem?_eq_none (by rw [hcl]; exact h')] at hj; cases hj) (by rw [hcl]; omega) (fun v hv => by obtain ⟨j, _, rfl⟩ := List.mem_map.1 hv; rfl)
  unfold Oper.wp
  simp only [execOp, ho, resolve, invoke, builtin, Sem.run_bind, Sem.run_pure, Result.andThen_ok, List.map_toArray, List.map_cons, List.map_nil, hd, hs, hrun]
  rw [hcl]
  have hd0 : cur.toList.drop (0 + q) = [] := List.drop_eq_nil_of_le (by simp; omega)
  have hrow := setRow_heap w b cur (((List.range q).map fun j => Value.int .u8 (((f j).v : Nat) : Int)).toArray) 5 (0, 0) hg
  have he : (cur.toList.take 0 ++ ((List.range q).map fun j => Value.int .u8 (((f j).v : Nat) : Int)) ++ cur.toList.drop (0 + q)).toArray = ((List.range q).map fun j => Value.int .u8 (((f j).v : Nat) : Int)).toArray := by rw [hd0]; simp
  rw [he]
  refine h _ ⟨fun j hj => ?_, fun j => frozen_of_row _ b j _ _ hrow, by rw [size_setRow]; exact hR.lt, ⟨_, hrow, by simp⟩⟩ ⟨rfl, rfl, rfl, by rw [size_setRow]; exact Nat.le_refl _, fun k hk hx => setRow_other w b k _ (by omega)⟩
  rw [cell_of_row _ b j _ _ _ hrow]
  simp [hj]
end Go.Proofs.Ytmlemichkeomjaa.RowsW

