/- stookref02.Rank walked. -/
import Derived.Test.YtalinkpfklhgaaaRowsRank
import Derived.StillTailTactics
set_option linter.unusedVariables false
set_option linter.unusedSimpArgs false
namespace Go.Proofs.Ytalinkpfklhgaaa.RowsW
open Go.RowKit Go.Proofs.Ytalinkpfklhgaaa.Base Go.Proofs.Ytalinkpfklhgaaa.GfP Go.Proofs.Ytalinkpfklhgaaa.GfW Go.Proofs.Ytalinkpfklhgaaa.GfR Go.Proofs.Ytalinkpfklhgaaa.Lin

def elr (r c : Nat) (W : M) : M := fun i j => if r < i then W i j + (W i c * (W r c).inv) * W r j else W i j
def elF (r c i j : Nat) (W : M) : M := fun i' j' => if i' < i ∨ (i' = i ∧ j' < j) then elr r c W i' j' else W i' j'
theorem elF_start (n q r c : Nat) (W : M) : Eqv n q W (elF r c (r + 1) 0 W) := by
  intro i _ j _
  unfold elF
  by_cases h : i < r + 1
  · rw [if_pos (by omega), elr, if_neg (by omega)]
  · rw [if_neg (by omega)]
theorem elF_next (n q r c i : Nat) (W : M) : Eqv n q (elF r c i q W) (elF r c (i + 1) 0 W) := by
  intro a _ b hb
  unfold elF
  by_cases h : a < i + 1
  · rw [if_pos (by omega), if_pos (by omega)]
  · rw [if_neg (by omega), if_neg (by omega)]
theorem elF_all (n q r c : Nat) (W : M) : Eqv n q (elF r c n 0 W) (elr r c W) := fun i hi j _ => if_pos (by omega)
theorem elF_step (n q r c i j : Nat) (W : M) : Eqv n q (fun a b => if a = i ∧ b = j then elr r c W i j else elF r c i j W a b) (elF r c i (j + 1) W) := by
  intro a _ b _
  show (if a = i ∧ b = j then elr r c W i j else elF r c i j W a b) = _
  by_cases e : a = i ∧ b = j
  · obtain ⟨rfl, rfl⟩ := e
    rw [if_pos ⟨rfl, rfl⟩, elF, if_pos (by omega)]
  · rw [if_neg e]
    unfold elF
    by_cases h : a < i ∨ (a = i ∧ b < j)
    · rw [if_pos h, if_pos (by omega)]
    · rw [if_neg h, if_neg (by omega)]
theorem elF_at (r c i j : Nat) (W : M) (k : Nat) (h : j ≤ k) : elF r c i j W i k = W i k := if_neg (by omega)
theorem elF_r (r c i j : Nat) (W : M) (k : Nat) (h : r < i) : elF r c i j W r k = W r k := by
  unfold elF
  rw [if_pos (.inl h), elr, if_neg (by omega)]
theorem set_some (w : World) {g p r : Nat} {a b : Value} (h1 : w.cell? ⟨g, r, none⟩ = some a) (h2 : w.cell? ⟨g, p, none⟩ = some b) (v : Value) : ∃ u, (w.setCell ⟨g, p, none⟩ v).cell? ⟨g, r, none⟩ = some u := by
  rw [cell_set h2 v r]
  by_cases e : r = p
  · rw [if_pos e]; exact ⟨_, rfl⟩
  · rw [if_neg e, h1]; exact ⟨_, rfl⟩
theorem IM.swap2 {w wr : World} {g n r m p : Nat} {bs cp : Nat → Nat} {W P : M} (H : IM wr w.heap.size g n n bs cp W) (hr : r < n) (hrp : r ≤ p) (hp : p < n) (hB : Below w.heap.size w wr) (h0 : ¬ W p m = 0) (hst : (r = m ∧ Ech n m P W) ∨ (r < m ∧ ¬ Free n P)) :
    ∃ bs2 cp2 W2 wx, wx = (wr.setCell ⟨g, p, none⟩ (.slice (some ⟨bs r, 0, none⟩) n (cp r))).setCell ⟨g, r, none⟩ (.slice (some ⟨bs p, 0, none⟩) n (cp p)) ∧ IM wx w.heap.size g n n bs2 cp2 W2 ∧ Below w.heap.size w wx ∧ W2 r m ≠ 0 ∧ ((r = m ∧ Ech n m P W2) ∨ (r < m ∧ ¬ Free n P)) := by
  refine ⟨_, _, _, _, rfl, H.swapped hr hp, (hB.setCell (by have := H.lo_g; exact this) _).setCell (by have := H.lo_g; exact this) _, ?_, ?_⟩
  · show W (sw r p r) m ≠ 0
    unfold sw
    rw [if_pos rfl]
    exact h0
  · rcases hst with ⟨rfl, h⟩ | h
    · exact .inl ⟨rfl, h.swap hr hrp hp⟩
    · exact .inr h
/-- What Rank answers of square rows. -/
def RankPost (w : World) (A : M) (n : Nat) (e : Ending) (w' : World) : Prop :=
  (∃ k : Nat, e = .returned (.int .i64 (k : Nat)) ∧ ((k = n ∧ Free n A) ∨ (k < n ∧ ¬ Free n A))) ∧ Below w.heap.size w w'
set_option maxRecDepth 100000 in
set_option maxHeartbeats 4000000 in
theorem rank_any (A : Option Addr) (n c : Nat) (ls : List (List Nat)) (w : World) (hR : Base.Rows w A ls) (hl : ls.length = n) (h0 : 0 < n) (hn : n ≤ 1000) (hq : ∀ i (h : i < ls.length), ls[i].length = n) :
    Calls Try.prog 39 #[.slice A n c] w (RankPost w (fn ls) n) := by
  have HQ := Lib.hid hq
  have HL := Lib.hid hl
  have HLE := Lib.hid hR.le
  obtain ⟨P, hP⟩ : ∃ P : M, P = fn ls := ⟨_, rfl⟩
  rw [← hP]
  have HPP := Lib.hid hP
  obtain ⟨b, off, rfl, hc0⟩ := hR.block (by omega)
  obtain ⟨B0, c0, g0, hx0⟩ := hc0 0 (by omega)
  rw [Nat.add_zero, hq 0 (by omega)] at g0
  clear hP hq hl hc0 hx0
  have z1 : (0 : Int) < n := by omega
  go_enter Try.func39, Try.ntmps39
  go_wp2
  go_loopw [3, 4, 5, 6] (fun d i _ _ wr => ∃ (k : Nat) (vs : List Value), k ≤ n ∧ i = .int .i64 k ∧ IPicked w wr d vs k n P) (fun _ i _ _ _ => n - (intOf i).toNat)
  case atStart => exact ⟨0, [], by omega, rfl, IPicked.start w n P⟩
  case round =>
    obtain ⟨k, vs, hk, rfl, HPK⟩ := hrel
    by_cases hlt : k < n
    · have hkl : k < ls.length := by have := HL.out; omega
      obtain ⟨b', off', e, hc⟩ := (hR.below HPK.below).block (by have := HL.out; omega)
      cases e
      obtain ⟨B1, c1, hcell, hrow⟩ := hc k hkl
      rw [HQ.out k hkl] at hcell
      have hrl := HQ.out k hkl
      obtain ⟨b1, off1, rfl, hsrc⟩ := hrow.block (by omega)
      have HSRC := Lib.hid (fun x (hx : x < n) => show wr.cell? ⟨b1, off1 + x, none⟩ = some (.int .u8 (((P k x).v : Nat) : Int)) by
        rw [HPP.out, fn_at hkl (HLE.out k hkl)]
        exact hsrc x (by omega))
      clear hc hrow hrl hsrc
      obtain ⟨wi, rfl⟩ : ∃ wi : World, wi = wr := ⟨_, rfl⟩
      go_wp2
      go_loopw [5, 6] (fun r j wx => ∃ q : Nat, q ≤ n ∧ j = .int .i64 q ∧ wx.ownsRow wi.heap.size 3 1 r q (iv (rw1 q (P k))) ∧ Below wi.heap.size wi wx) (fun _ j _ => n - (intOf j).toNat)
      case atStart => exact ⟨0, by omega, rfl, World.ownsRow_nil _ _ _ _, Below.refl _ _⟩
      case round =>
        obtain ⟨q, hq, rfl, HO, HB1⟩ := hrel
        by_cases hqp : q < n
        · have g1 := cell_below HB1 hcell
          have g2 := cell_below HB1 (HSRC.out q hqp)
          have HS := Lib.hid (iv_rw1_succ q (P k))
          have hle := (P k q).le
          have w1 : IntKind.i64.wrap (((P k q).v : Nat) : Int) = (((P k q).v : Nat) : Int) := u8int _ hle
          have hll : (iv (rw1 q (P k))).length = q := by rw [iv_length, rw1_length]
          have HLL := Lib.hid hll
          clear hll
          go_wp2_with (at_builtin; refine app_one wi.heap.size rfl (.tmp 30) (.tmp 39) 50 3 (.int .i64 0) 8 rfl Try.underlying50 info_int rfl (by omega) _ (iv (rw1 q (P k))) _ q HLL.out rfl rfl rfl HO HB1 HB1.size (by omega) ?_; intro v1 w1 HO2 HB3 hg2)
          go_roundw
          case rel => exact ⟨q + 1, by omega, by go_num, by rw [HS.out]; exact HO2, HB3⟩
          case measure => simp [intOf]; omega
        · obtain rfl : q = n := by omega
          have g1 := cell_below HB1 hcell
          have HO1 := own_below HPK.own HB1
          have HB2 := bt HPK.below HPK.below.size HB1
          have hvl : vs.length = k := by have := HO1.1; omega
          obtain ⟨rg, rc, rfl⟩ := own_form HO (by omega)
          go_wp2_with (at_builtin; refine app_one w.heap.size rfl (.tmp 41) (.tmp 43) 88 50 (.slice none 0 0) 24 rfl Try.underlying88 info_ints rfl (by omega) _ vs _ k hvl rfl rfl rfl HO1 HB2 HB2.size (by omega) ?_; intro v1 w1 HO2 HB3 hg2)
          go_roundw
          case rel => exact ⟨k + 1, _, by omega, by go_num, HPK.step HB1 HO HO2 HB3 hg2⟩
          case measure => simp [intOf]; omega
    · obtain rfl : k = n := by omega
      obtain ⟨g, gc, bs0, cp0, rfl, HIM⟩ := HPK.im h0
      have HBa := HPK.below
      clear HPK
      have g1 := cell_below HBa g0
      go_wp2
      go_loopw [7, 8, 9, 10, 11, 12, 13, 14] (fun rn rc _ _ _ _ _ _ wx => ∃ (r m : Nat) (W : M) (bs cp : Nat → Nat), r < k ∧ r ≤ m ∧ m ≤ k ∧ rn = .int .i64 r ∧ rc = .int .i64 m ∧ IM wx w.heap.size g k k bs cp W ∧ ((r = m ∧ Ech k m P W) ∨ (r < m ∧ ¬ Free k P)) ∧ Below w.heap.size w wx) (fun _ rc _ _ _ _ _ _ _ => k - (intOf rc).toNat)
      case atStart => exact ⟨0, 0, P, bs0, cp0, by omega, by omega, by omega, rfl, rfl, HIM, .inl ⟨rfl, Ech.start k P⟩, HBa⟩
      case round =>
        obtain ⟨r, m, W, bs, cp, hr, hrm, hmk, rfl, rfl, HI, hst, HB⟩ := hrel
        have HST := Lib.hid hst
        clear hst
        have g2 := cell_below HB g0
        by_cases hm : m < k
        · go_wp2
          go_loop [9] (fun i => ∃ p : Nat, r ≤ p ∧ p ≤ k ∧ i = .int .i64 p ∧ ∀ a, r ≤ a → a < p → W a m = 0) (fun i => k - (intOf i).toNat)
          case atStart => exact ⟨r, by omega, by omega, rfl, fun a h1 h2 => by omega⟩
          case round =>
            obtain ⟨p, hrp, hpk, rfl, hz⟩ := hrel
            have HZ := Lib.hid hz
            clear hz
            by_cases hlt : p < k
            · have ht := HI.top p hlt
              have hcl := HI.cell p hlt m hm
              by_cases hw0 : W p m = 0
              · replace hcl : wr.cell? ⟨bs p, m, none⟩ = some (.int .i64 0) := by rw [hcl, hw0]; rfl
                have HW0 := Lib.hid hw0
                clear hw0
                have t1 : decide ((p : Nat) < k) = true := by simp [hlt]
                go_wp2
                go_round
                case rel =>
                  refine ⟨p + 1, by omega, by omega, by go_num, fun a h1 h2 => ?_⟩
                  rcases Nat.lt_or_ge a p with h' | h'
                  · exact HZ.out a h1 h'
                  · obtain rfl : a = p := by omega
                    exact HW0.out
                case measure => simp [intOf]; omega
              · have hv := v_ne hw0
                obtain ⟨x, hx⟩ : ∃ x, x = (W p m).v := ⟨_, rfl⟩
                rw [← hx] at hcl hv
                have e2 : (((x : Nat) : Int) == 0) = false := int_ne (by omega)
                have e3 : (((p : Nat) : Int) == ((k : Nat) : Int)) = false := int_ne (by omega)
                have t1 : decide ((p : Nat) < k) = true := by simp [hlt]
                have k1 := HI.top r hr
                have f1 := HI.free p
                have f2 := HI.free r
                obtain ⟨u, hu⟩ := set_some wr k1 ht (.slice (some ⟨bs r, 0, none⟩) k (cp r))
                have HII := Lib.hid HI
                have HW0 := Lib.hid hw0
                clear hx HI hw0
                go_upto_region 22 with fail
                obtain ⟨bs2, cp2, W2, wx, hwx, HI2, hB2, hpiv, HE2⟩ := HII.out.swap2 hr hrp hlt HB HW0.out HST.out
                rw [← hwx]
                clear hwx hu k1 f1 f2 ht hcl hv e2 t1 HII HW0 HST HZ HB
                have g3 := cell_below hB2 g0
                have hT := HI2.top r hr
                have hC := HI2.cell r hr m hm
                have hPl := (W2 r m).le
                have HPV := Lib.hid hpiv
                have HEE := Lib.hid HE2
                have HIV0 : ∀ W, Calls Try.prog 33 #[.int .i64 (((W2 r m).v : Nat) : Int)] W fun e w' => e = .returned (.int .i64 (((W2 r m).inv.v : Nat) : Int)) ∧ W = w' := fun W => rinv (W2 r m).v W hPl
                have HIV := Lib.hid HIV0
                clear HIV0
                clear hpiv HE2
                go_wp2_with (go_at_call 33; (with_reducible refine (HIV.out _).mono ?_); rintro e w2 ⟨rfl, rfl⟩)
                go_loopw [12, 13, 14] (fun i _ _ wy => ∃ a : Nat, r < a ∧ a ≤ k ∧ i = .int .i64 a ∧ IM wy w.heap.size g k k bs2 cp2 (elF r m a 0 W2) ∧ Below w.heap.size w wy) (fun i _ _ _ => k - (intOf i).toNat)
                case atStart => exact ⟨r + 1, by omega, by omega, by go_num, HI2.congr (elF_start k k r m W2), hB2⟩
                case round =>
                  obtain ⟨a, hra, hak, rfl, HIa, HBy⟩ := hrel
                  have g4 := cell_below HBy g0
                  by_cases hlt3 : a < k
                  · have hTa := HIa.top a hlt3
                    have hCa := HIa.cell a hlt3 m hm
                    rw [elF_at r m a 0 W2 m (by omega)] at hCa
                    have hla := (W2 a m).le
                    have hli := (W2 r m).inv.le
                    have HMU := Lib.hid (fun W => rmul (W2 a m).v (W2 r m).inv.v W hla hli)
                    obtain ⟨t, ht⟩ : ∃ t : F, t = W2 a m * (W2 r m).inv := ⟨_, rfl⟩
                    have HTT := Lib.hid ht
                    rw [← v_mul, ← ht] at HMU
                    clear ht
                    go_wp2_with (go_at_call 26; (with_reducible refine (HMU.out _).mono ?_); rintro e w2 ⟨rfl, rfl⟩)
                    go_loopw [14] (fun j wz => ∃ e : Nat, e ≤ k ∧ j = .int .i64 e ∧ IM wz w.heap.size g k k bs2 cp2 (elF r m a e W2) ∧ Below w.heap.size w wz) (fun j _ => k - (intOf j).toNat)
                    case atStart => exact ⟨0, by omega, rfl, HIa, HBy⟩
                    case round =>
                      obtain ⟨e, he, rfl, HIe, HBz⟩ := hrel
                      have hTa2 := HIe.top a hlt3
                      by_cases hek : e < k
                      · have hTr2 := HIe.top r hr
                        have hCe := HIe.cell a hlt3 e hek
                        have hCr := HIe.cell r hr e hek
                        have hfe := HIe.rfree a hlt3 e
                        rw [elF_at r m a e W2 e (by omega)] at hCe
                        rw [elF_r r m a e W2 e hra] at hCr
                        have HTE := Lib.hid (show elr r m W2 a e = W2 a e + t * W2 r e by rw [elr, if_pos hra, HTT.out])
                        have l1 := t.le
                        have l2 := (W2 r e).le
                        have l3 := (W2 a e).le
                        have l4 := mul_le t.v (W2 r e).v
                        have HM1 := Lib.hid (fun W => rmul t.v (W2 r e).v W l1 l2)
                        have hxx := i64_xor_nat (W2 a e).v (mul t.v (W2 r e).v) (by omega) (by omega)
                        rw [← v_mul, ← v_add, ← HTE.out] at hxx
                        rw [← v_mul] at HM1
                        have HIX := Lib.hid HIe
                        clear HIe
                        go_upto_region 30 with fail
                        have d1 : wr.drew.cell? ⟨g, a, none⟩ = some (.slice (some ⟨bs2 a, 0, none⟩) k (cp2 a)) := hTa2
                        have d2 : wr.drew.cell? ⟨g, r, none⟩ = some (.slice (some ⟨bs2 r, 0, none⟩) k (cp2 r)) := hTr2
                        have d3 : wr.drew.cell? ⟨bs2 a, e, none⟩ = some (.int .i64 (((W2 a e).v : Nat) : Int)) := hCe
                        have d4 : wr.drew.cell? ⟨bs2 r, e, none⟩ = some (.int .i64 (((W2 r e).v : Nat) : Int)) := hCr
                        have d5 : wr.drew.frozen? ⟨bs2 a, e, none⟩ = false := hfe
                        clear hTa2 hTr2 hCe hCr hfe
                        have hbd : Below wr.heap.size wr wr.drew := (Below.refl _ _).drew
                        refine wp_region_still_tail 23 (by kernel_rfl) (by kernel_rfl) ?_
                        simp only [List.take_succ_cons, List.take_zero, List.drop_succ_cons, List.drop_zero]
                        change wpStill _ _ wr.drew (fun a' => wpList _ _ _ _ a' wr.drew) _ _
                        generalize wr.drew = wd at d1 d2 d3 d4 d5 hbd ⊢
                        repeat still_step
                        still_call ((HM1.out _).mono fun _ _ ⟨h1, h2⟩ => ⟨h1, h2.symm⟩)
                        repeat still_step
                        refine wpStill_nil ?_
                        go_wp2
                        go_roundw
                        case rel =>
                          have HIY := (HIX.out.below hbd).set a e hlt3 hek (elr r m W2 a e)
                          exact ⟨e + 1, by omega, by go_num, HIY.congr (elF_step k k r m a e W2), (bt HBz HBz.size hbd).setCell (HIX.out.lo_b a hlt3) _⟩
                        case measure => simp [intOf]; omega
                      · obtain rfl : k = e := by omega
                        go_wp2
                        go_roundw
                        case rel => exact ⟨a + 1, by omega, by omega, by go_num, HIe.congr (elF_next k k r m a W2), HBz⟩
                        case measure => simp [intOf]; omega
                  · obtain rfl : k = a := by omega
                    have HIb := HIa.congr (elF_all k k r m W2)
                    by_cases hrk : r + 1 = k
                    · have e9 : (((r : Nat) : Int) + 1 == ((k : Nat) : Int)) = true := int_eq (by omega)
                      have HRK := Lib.hid hrk
                      clear hrk HIa
                      go_wp2
                      go_ret
                      refine ⟨⟨r + 1, by simp, .inl ⟨HRK.out, ?_⟩⟩, HBy⟩
                      have h8 := HRK.out
                      rcases HEE.out with ⟨rfl, h1⟩ | ⟨h1, _⟩
                      · have h2 := h1.step hm HPV.out
                        rw [h8] at h2
                        exact h2.done
                      · omega
                    · have e9 : (((r : Nat) : Int) + 1 == ((k : Nat) : Int)) = false := int_ne (by omega)
                      have HRK := Lib.hid hrk
                      clear hrk HIa
                      go_wp2
                      go_roundw
                      case rel =>
                        have h8 := HRK.out
                        refine ⟨r + 1, m + 1, elr r m W2, bs2, cp2, by omega, by omega, by omega, by go_num, by go_num, HIb, ?_, HBy⟩
                        rcases HEE.out with ⟨rfl, h1⟩ | ⟨h1, h2⟩
                        · exact .inl ⟨rfl, h1.step hm HPV.out⟩
                        · exact .inr ⟨by omega, h2⟩
                      case measure => simp [intOf]; omega
            · obtain rfl : p = k := by omega
              have t1 : decide ((p : Nat) < p) = false := by simp
              have e3 : (((p : Nat) : Int) == ((p : Nat) : Int)) = true := int_eq rfl
              go_wp2
              go_roundw
              case rel =>
                refine ⟨r, m + 1, W, bs, cp, hr, by omega, by omega, rfl, by go_num, HI, .inr ⟨by omega, ?_⟩, HB⟩
                rcases HST.out with ⟨rfl, h1⟩ | ⟨_, h1⟩
                · exact h1.stuck hm HZ.out
                · exact h1
              case measure => simp [intOf]; omega
        · obtain rfl : m = k := by omega
          go_wp2
          go_ret
          refine ⟨⟨r, rfl, .inr ⟨hr, ?_⟩⟩, HB⟩
          rcases HST.out with ⟨h1, _⟩ | ⟨_, h1⟩
          · omega
          · exact h1
end Go.Proofs.Ytalinkpfklhgaaa.RowsW
