/- (*coder.Coder).times walked. -/
import Derived.Test.YtalinkpfklhgaaaCodTimes
set_option linter.unusedVariables false
set_option linter.unusedSimpArgs false
namespace Go.Proofs.Ytalinkpfklhgaaa.CodW
open Go.RowKit Go.Proofs.Ytalinkpfklhgaaa.Base Go.Proofs.Ytalinkpfklhgaaa.GfP Go.Proofs.Ytalinkpfklhgaaa.GfW Go.Proofs.Ytalinkpfklhgaaa.Lin Go.Proofs.Ytalinkpfklhgaaa.RowsW Go.Proofs.Ytalinkpfklhgaaa.CodP

theorem Outs.grown {w0 w w1 : World} {g m : Nat} {vs : Nat → Value} {ln : Nat → Nat} {X : M} {row : Option Nat} (h : Outs w0 w g m vs ln X) (hg : w.grownBy w1 row) (hne : some g ≠ row) (hr : ∀ i, i < m → (vs i).ownBlock = none ∨ (vs i).ownBlock ≠ row) (hB : Below w0.heap.size w0 w1) : Outs w0 w1 g m vs ln X :=
  ⟨fun i hi => (World.cell?_of_block (a := ⟨g, i, none⟩) (w := w) (hg.block g h.lt hne)).trans (h.top i hi), by obtain ⟨cur, h1⟩ := h.blk; exact ⟨cur, (hg.block g h.lt hne).trans h1⟩, h.lo, fun i hi => own_grown (h.row i hi) hg (hr i hi), h.dis, hB⟩
theorem Outs.congr {w0 w : World} {g m : Nat} {vs : Nat → Value} {ln ln' : Nat → Nat} {X : M} (h : Outs w0 w g m vs ln X) (he : ∀ i, i < m → ln i = ln' i) : Outs w0 w g m vs ln' X :=
  ⟨h.top, h.blk, h.lo, fun i hi => by have := h.row i hi; rwa [he i hi] at this, h.dis, h.below⟩
theorem bytes_grown {w w1 : World} {A : Option Addr} {l : List Nat} {row : Option Nat} (h : Bytes w A l) (hg : w.grownBy w1 row) (hne : ∀ b off s, A = some ⟨b, off, s⟩ → some b ≠ row) : Bytes w1 A l := by
  refine ⟨h.le, h.len, ?_⟩
  rcases h.at_ with h1 | ⟨b, off, e, hc⟩
  · exact .inl h1
  · exact .inr ⟨b, off, e, fun j hj => hg.cell (hc j hj) (hne b off none e)⟩
theorem outs_start (w : World) (m : Nat) (X : M) : Outs w (w.alloc (.cells (madeCells #[.slice none 0 0] m) 29)) w.heap.size m (fun _ => .slice none 0 0) (fun _ => 0) X := by
  have hg := heap_alloc_new w (.cells (madeCells #[.slice none 0 0] m) 29)
  refine ⟨fun i hi => ?_, ⟨_, hg⟩, Nat.le_refl _, fun i _ => World.ownsRow_nil _ _ _ _, fun i j _ _ _ => .inl rfl, (Below.refl _ _).alloc (Nat.le_refl _) _⟩
  have h := World.rowIs_made w (.slice none 0 0) m 29
  exact h.cell hi
theorem colT_at {ss : List ByteArray} {i : Nat} (h : i < ss.length) (p : Nat) : (colT ss p).getD i 0 = (tx ss i p).v := by
  rw [tx_at h]
  unfold colT
  rw [List.getD_eq_getElem?_getD, List.getElem?_map, List.getElem?_eq_getElem h]
  rfl
theorem Outs.after {w0 w W w1 : World} {g m k : Nat} {vs : Nat → Value} {ln : Nat → Nat} {X : M} (h : Outs w0 w g m vs ln X) (hk : k < m) (hb : Below w.heap.size w W) (hgr : W.grownBy w1 (vs k).ownBlock) : w1.cell? ⟨g, k, none⟩ = some (vs k) ∧ w1.frozen? ⟨g, k, none⟩ = false := by
  have hW := h.later hb
  obtain ⟨cur, hg⟩ := hW.blk
  have hgk : some g ≠ (vs k).ownBlock := own_not hg (hW.row k hk) (by decide)
  exact ⟨(World.cell?_of_block (a := ⟨g, k, none⟩) (w := W) (hgr.block g hW.lt hgk)).trans (hW.top k hk), frozen_of_row w1 g k cur _ ((hgr.block g hW.lt hgk).trans hg)⟩
theorem Outs.step' {w0 w W w1 : World} {g m k g1 c1 q : Nat} {vs : Nat → Value} {ln : Nat → Nat} {X : M} (h : Outs w0 w g m vs ln X) (hk : k < m) (hq : ln k = q) (hb : Below w.heap.size w W)
    (ho : w1.ownsRow w0.heap.size 5 1 (.slice (some ⟨g1, 0, none⟩) (q + 1) c1) (q + 1) (bv (br q (X k)) ++ [.int .u8 (((X k q).v : Nat) : Int)])) (hB : Below w0.heap.size w0 w1) (hgr : W.grownBy w1 (vs k).ownBlock) (hat : (vs k).ownBlock = some g1 ∨ W.heap.size ≤ g1) :
    Outs w0 (w1.setCell ⟨g, k, none⟩ (.slice (some ⟨g1, 0, none⟩) (q + 1) c1)) g m (fun i => if i = k then .slice (some ⟨g1, 0, none⟩) (q + 1) c1 else vs i) (fun i => if i = k then q + 1 else ln i) X := by
  subst hq
  exact h.step hk hb ho hB hgr hat
set_option maxRecDepth 100000 in
set_option maxHeartbeats 4000000 in
theorem times_any (cb fb : Nat) (A A2 : Option Addr) (m q c c2 L : Nat) (ls : List (List Nat)) (ss : List ByteArray) (w : World) (hf : w.cell? ⟨cb, 2, none⟩ = some (.pointer (some ⟨fb, 0, none⟩))) (hF : FieldIn w fb) (hR : Base.Rows w A ls) (hS : Strs w A2 q ss) (hl : ls.length = m) (hq0 : 0 < q) (hm : m ≤ 1000) (hq : q ≤ 1000) (hL : L ≤ 1000000)
    (hrow : ∀ i (h : i < ls.length), ls[i].length = q) (hsz : ∀ i (h : i < ss.length), ss[i].size = L) :
    Calls Try.prog 69 #[.pointer (some ⟨cb, 0, none⟩), .slice A m c, .slice A2 q c2] w fun e w' => ∃ A' c', e = .returned (.slice A' m c') ∧ m ≤ c' ∧ Strs w' A' m (txs m L (mm q (fn ls) (tx ss))) ∧ Below w.heap.size w w' := by
  have HQ := Lib.hid hrow
  have HZ := Lib.hid hsz
  have HL := Lib.hid hl
  have HLS := Lib.hid hS.len
  have HLE := Lib.hid hR.le
  obtain ⟨X, hX⟩ : ∃ X : M, X = mm q (fn ls) (tx ss) := ⟨_, rfl⟩
  rw [← hX]
  have HXX := Lib.hid hX
  obtain ⟨b2, off2, rfl, hc2⟩ := hS.block (by omega)
  have g0 := hc2 0 (by have := hS.len; omega)
  rw [Nat.add_zero] at g0
  obtain ⟨s0, hs0⟩ : ∃ s, s = ss[0]'(by have := hS.len; omega) := ⟨_, rfl⟩
  rw [← hs0] at g0
  have hs0L : s0.size = L := by rw [hs0]; exact hsz 0 _
  have z1 : (0 : Int) < q := by omega
  have hmk := fun W => run_make_row' (P := Try.prog) 40 29 (.slice none 0 0) 24 Try.underlying40 info_row rfl .i64 .i64 m (by omega) (by omega) W
  have HST := outs_start w m X
  have g0a := cell_alloc g0 (.cells (madeCells #[.slice none 0 0] m) 29)
  have HCOL := Lib.hid (fun W p (hp : p < L) (h : Strs W (some ⟨b2, off2, none⟩) q ss) => colT_any (some ⟨b2, off2, none⟩) q c2 ss p W h hq (by omega) (fun i hi => by rw [hsz i hi]; exact hp))
  clear hX hs0 hc2 hrow hsz hl
  go_enter Try.func69, Try.ntmps69
  go_wp2
  go_loopw [8, 9, 10, 11, 12, 23] (fun _ _ _ _ _ i wr => ∃ (p : Nat) (vs : Nat → Value), p ≤ L ∧ i = .int .i64 p ∧ Outs w wr w.heap.size m vs (fun _ => p) X) (fun _ _ _ _ _ i _ => L - (intOf i).toNat)
  case atStart => exact ⟨0, _, by omega, rfl, HST⟩
  case round =>
    obtain ⟨p, vs, hp, rfl, HO⟩ := hrel
    by_cases hlt : p < L
    · obtain ⟨wi, rfl⟩ : ∃ wi : World, wi = wr := ⟨_, rfl⟩
      have HB := HO.below
      go_wp2_with (go_at_call 73; (with_reducible refine (HCOL.out _ p hlt (hS.below HB)).mono ?_); rintro e w4 ⟨A4, c4, rfl, hBy, hfar, hd4⟩)
      have HO4 := HO.later hd4
      have hsep : ∀ bb oo ss', A4 = some ⟨bb, oo, ss'⟩ → (some bb ≠ some w.heap.size ∧ (∀ i, i < m → (vs i).ownBlock ≠ some bb) ∧ bb < w4.heap.size) := fun bb oo ss' e => by
        have h9 := hfar bb oo ss' e
        refine ⟨fun e2 => ?_, fun i hi e2 => ?_, h9.2⟩
        · have e3 : bb = w.heap.size := Option.some.inj e2
          have := HO.lt
          omega
        · have := ((HO.row i hi).lt bb e2).2
          omega
      have HSEP := Lib.hid hsep
      clear hfar hsep hd4 HO HB
      go_loopw [10, 11, 12, 31] (fun _ _ _ i wx => ∃ (a : Nat) (us' : Nat → Value), a ≤ m ∧ i = .int .i64 a ∧ Outs w wx w.heap.size m us' (fun j => if j < a then p + 1 else p) X ∧ Bytes wx A4 (colT ss p) ∧ Hid (∀ bb oo ss', A4 = some ⟨bb, oo, ss'⟩ → (some bb ≠ some w.heap.size ∧ (∀ i, i < m → (us' i).ownBlock ≠ some bb) ∧ bb < wx.heap.size))) (fun _ _ _ i _ => m - (intOf i).toNat)
      case atStart => exact ⟨0, vs, by omega, rfl, HO4.congr (fun i _ => (if_neg (by omega)).symm), hBy, HSEP⟩
      case round =>
        obtain ⟨a, us', ha, rfl, HO, HY, HS9⟩ := hrel
        by_cases hlt2 : a < m
        · have hal : a < ls.length := by have := HL.out; omega
          have HB := HO.below
          have ht := HO.top a hlt2
          obtain ⟨b, off, e, hc⟩ := (hR.below HB).block (by have := HL.out; omega)
          obtain ⟨cur, hgb⟩ := HO.blk
          have hfg := frozen_of_row wr w.heap.size a cur _ hgb
          subst e
          obtain ⟨B1, c1, hcell, hrow1⟩ := hc a hal
          have hq1 := HQ.out a hal
          rw [hq1] at hcell
          have hf1 := cell_below HB hf
          have hF1 := FieldIn.below hF HB
          have hby := hrow1.bytes (by omega)
          have HV : dot ls[a] (colT ss p) q = (X a p).v := by
            rw [HXX.out]
            exact dot_sm q (fun x hx => (fn_at hal (HLE.out a hal)).symm) (fun x hx => colT_at (by have := HLS.out; omega) p)
          have hcl : (colT ss p).length = q := by rw [colT_length]; exact HLS.out
          have HD := Lib.hid (fun W (h1 : Bytes W B1 ls[a]) (h2 : Bytes W A4 (colT ss p)) (h3 : FieldIn W fb) => dot_eq fb W B1 A4 ls[a] (colT ss p) q c1 c4 h1 h2 hq1 hcl h3)
          rw [HV] at HD
          have hown := HO.row a hlt2
          simp only [if_neg (Nat.lt_irrefl a)] at hown
          clear HV hq1 hcl hrow1 hc hgb
          go_upto_region 9 with fail
          go_quiet ((go_at_call 25; exact Calls.quiet_of (HD.out _ (hby.below (Drawn.below (Drawn.step _))) (HY.below (Drawn.below (Drawn.step _))) (hF1.drawn (Drawn.step _)))))
          rename_i nq
          have hD : Drawn wr (wr.drewN nq) := Drawn.step nq
          generalize wr.drewN nq = wd at hD ⊢
          have hDb := hD.below (B := wr.heap.size)
          have HO1 := own_below hown hDb
          have HB1 := bt HB HB.size hDb
          have ht1 := cell_below hDb ht
          have hbl : (bv (br p (X a))).length = p := by rw [bv_length, br_length]
          have HBL := Lib.hid hbl
          clear hbl hown ht hcell hf1 hF1 hby hfg HD
          go_wp2_with (at_builtin; refine app_one_at w.heap.size rfl (.tmp 52) (.tmp 54) 29 5 (.int .u8 0) 1 rfl Try.underlying29 info_byte rfl (by omega) (us' a) (bv (br p (X a))) _ p HBL.out rfl rfl rfl HO1 HB1 HB1.size (by omega) ?_; intro g1 cc1 w1 HO2 HB2 hg2 hat2; have htf := HO.after hlt2 hDb hg2; have htf1 := htf.1; have htf2 := htf.2)
          go_roundw
          case rel =>
            have HN := HO.step' (q := p) hlt2 (if_neg (Nat.lt_irrefl a)) hDb HO2 HB2 hg2 hat2
            refine ⟨a + 1, _, by omega, by go_num, HN.congr (fun i hi => ?_), bytes_other (bytes_grown (HY.below hDb) hg2 (fun bb oo ss' e => (HS9.out bb oo ss' e).2.1 a hlt2 ∘ Eq.symm)) _ (fun bb oo ss' e e2 => (HS9.out bb oo ss' e).1 (congrArg some e2)), Lib.hid fun bb oo ss' e => ?_⟩
            · by_cases e : i = a
              · subst e; rw [if_pos rfl, if_pos (by omega)]
              · rw [if_neg e]
                by_cases h : i < a
                · rw [if_pos h, if_pos (by omega)]
                · rw [if_neg h, if_neg (by omega)]
            · obtain ⟨h1, h2, h3⟩ := HS9.out bb oo ss' e
              have l1 := hDb.size
              have l2 := hg2.size
              refine ⟨h1, fun i hi e2 => ?_, by rw [setCell_size]; omega⟩
              by_cases ei : i = a
              · subst ei
                rw [if_pos rfl] at e2
                have e3 : g1 = bb := by simpa [Value.ownBlock] using e2
                rcases hat2 with h4 | h4
                · exact h2 i hi (h4.trans (congrArg some e3))
                · omega
              · rw [if_neg ei] at e2
                exact h2 i hi e2
          case measure => simp [intOf]; omega
        · obtain rfl : a = m := by omega
          go_wp2
          go_roundw
          case rel => exact ⟨p + 1, us', by omega, by go_num, HO.congr (fun i hi => if_pos hi)⟩
          case measure => simp [intOf]; omega
    · obtain rfl : p = L := by omega
      go_wp2
      go_loopw [13, 15, 61] (fun d _ i wx => ∃ a : Nat, a ≤ m ∧ i = .int .i64 a ∧ wx.ownsRow w.heap.size 9 1 d a (sv (txs a p X)) ∧ Outs w wx w.heap.size m vs (fun _ => p) X) (fun _ _ i _ => m - (intOf i).toNat)
      case atStart => exact ⟨0, by omega, rfl, World.ownsRow_nil _ _ _ _, HO⟩
      case round =>
        obtain ⟨a, ha, rfl, HT, HO1⟩ := hrel
        by_cases hlt2 : a < m
        · have ht := HO1.top a hlt2
          have hcv := conv_own Try.underlying29 Try.underlying5 Try.underlying9 (HO1.row a hlt2) (by omega)
          have HST2 := Lib.hid (txs_succ a p X)
          have hll : (sv (txs a p X)).length = a := by rw [sv_length, txs_length]
          have HLL := Lib.hid hll
          have HB := HO1.below
          obtain ⟨cur, hgb⟩ := HO1.blk
          have HNE := Lib.hid (own_not hgb HT (by decide))
          have HNR := Lib.hid (fun i (hi : i < m) => own_ne_own (HO1.row i hi) HT (by decide))
          clear hll hgb
          go_wp2_with (at_builtin; refine app_one w.heap.size rfl (.tmp 65) (.tmp 68) 59 9 (.string ByteArray.empty) 16 rfl Try.underlying59 info_str rfl (by omega) _ (sv (txs a p X)) _ a HLL.out rfl rfl rfl HT HB HB.size (by omega) ?_; intro v1 w1 HT2 HB2 hg2)
          go_roundw
          case rel => exact ⟨a + 1, by omega, by go_num, by rw [HST2.out, sv_snoc]; exact HT2, HO1.grown hg2 HNE.out HNR.out HB2⟩
          case measure => simp [intOf]; omega
        · obtain rfl : a = m := by omega
          obtain ⟨A', c', rfl, h1, h2, _⟩ := own_strs HT
          have HB := HO1.below
          go_wp2
          go_ret
          exact ⟨A', c', rfl, h2, h1, HB⟩
end Go.Proofs.Ytalinkpfklhgaaa.CodW
