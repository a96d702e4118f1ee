/- stookref16.Pieces walked. -/
import Derived.Test.YtmlemichkeomjaaStrpRef
set_option linter.unusedVariables false
set_option linter.unusedSimpArgs false
namespace Go.Proofs.Ytmlemichkeomjaa.StrpW
open Go.RowKit Go.Proofs.Ytmlemichkeomjaa.Base Go.Proofs.Ytmlemichkeomjaa.GfP Go.Proofs.Ytmlemichkeomjaa.GfW Go.Proofs.Ytmlemichkeomjaa.Lin Go.Proofs.Ytmlemichkeomjaa.RowsW Go.Proofs.Ytmlemichkeomjaa.CodP Go.Proofs.Ytmlemichkeomjaa.CodW
theorem Bytes.sub {w : World} {b off : Nat} {l : List Nat} (h : Bytes w (some ⟨b, off, none⟩) l) (X Y : Nat) : Bytes w (some ⟨b, off + X, none⟩) ((l.take Y).drop X) := by
  refine ⟨fun x hx => h.le x (List.mem_of_mem_take (List.mem_of_mem_drop hx)), by rw [List.length_drop, List.length_take]; have := h.len; omega, ?_⟩
  rcases h.at_ with h1 | ⟨b', off', e, hc⟩
  · left; rw [h1]; simp
  · cases e
    right
    refine ⟨b, off + X, rfl, fun j hj => ?_⟩
    rw [List.length_drop, List.length_take] at hj
    rw [show off + X + j = off + (X + j) by omega, hc (X + j) (by omega)]
    simp only [List.getD_eq_getElem?_getD, List.getElem?_drop, List.getElem?_take]
    rw [if_pos (by omega)]
theorem back_bytes (l : List UInt8) (X Y : Nat) : (((l.map UInt8.toNat).take Y).drop X).map UInt8.ofNat = (l.take Y).drop X := by
  rw [← List.map_take, ← List.map_drop, List.map_map]
  have : (UInt8.ofNat ∘ UInt8.toNat) = id := by funext b; simp
  rw [this, List.map_id]
theorem padL_take_succ {k : Nat} (hk : 1 ≤ k) (s : ByteArray) (i : Nat) (hi : i < cutL k s.size * k) : (padL k s).take (i + 1) = (padL k s).take i ++ [if h : i < s.size then s[i] else 0] := by
  have hg : (padL k s)[i]? = some (if h : i < s.size then s[i] else 0) := by
    unfold padL
    by_cases h : i < s.size
    · rw [dif_pos h, List.getElem?_append_left (by rw [list_size]; exact h), List.getElem?_eq_getElem (by rw [list_size]; exact h)]
      rfl
    · rw [dif_neg h, List.getElem?_append_right (by rw [list_size]; omega), List.getElem?_replicate, if_pos (by rw [list_size]; omega)]
  rw [List.take_add_one, hg]
  rfl
theorem cutL_quo {k z : Nat} (hk : 1 ≤ k) : cutL k z = if z / k * k < z then z / k + 1 else z / k := by
  have h1 := cutL_ge (z := z) hk
  have h2 := cutL_lt (z := z) hk
  have h3 := Nat.div_mul_le_self z k
  have h4 := Nat.lt_div_mul_add (a := z) (b := k) (by omega)
  generalize cutL k z = c at *
  generalize z / k = d at *
  have m : ∀ a b : Nat, a * k < b * k → a < b := fun a b h => Nat.lt_of_mul_lt_mul_right h
  have hd1 : (d + 1) * k = d * k + k := Nat.succ_mul d k
  have hd2 : (c + 1) * k = c * k + k := Nat.succ_mul c k
  split
  · rename_i h
    have a1 : d < c := m d c (by omega)
    have a2 : c < d + 2 := m c (d + 2) (by rw [show d + 2 = (d + 1) + 1 from rfl, Nat.succ_mul]; omega)
    omega
  · have e : d * k = z := by omega
    have a1 : d < c + 1 := m d (c + 1) (by omega)
    have a2 : c < d + 1 := m c (d + 1) (by omega)
    omega
/-- The document's pieces. -/
def rpc (k : Nat) (s : ByteArray) (x : Nat) : ByteArray := strOf (cutL k s.size) (fun p => sm k (fun i => tx (parts k k s) i p * CodP.lg i (toF x) k))
def rpcs (m k : Nat) (s : ByteArray) : List ByteArray := (List.range m).map (rpc k s)
theorem rpcs_length (m k : Nat) (s : ByteArray) : (rpcs m k s).length = m := by simp [rpcs]
theorem rpcs_succ (m k : Nat) (s : ByteArray) : rpcs (m + 1) k s = rpcs m k s ++ [rpc k s m] := by
  unfold rpcs
  rw [List.range_succ]
  simp
theorem pcs_rpcs {k n : Nat} {G : M} (hG : CodeG k n G) (hkn : k ≤ n) (hn : n ≤ 16) (s : ByteArray) : rpcs n k s = pcs k n G s := by
  unfold rpcs pcs txs
  refine List.map_congr_left fun x hx => strOf_congr fun p hp => ?_
  refine sm_congr fun i hi => ?_
  rw [code_lg hG hkn hn x i (List.mem_range.1 hx) hi, Lin.mul_comm]
set_option maxRecDepth 100000 in
set_option maxHeartbeats 2000000 in
theorem pieces_any (s : ByteArray) (k n : Nat) (w : World) (k1 : 1 ≤ k) (k16 : k ≤ 16) (n16 : n ≤ 16) (hs : s.size ≤ 100000) :
    Calls Try.prog 32 #[.string s, .int .i64 (k : Nat), .int .i64 (n : Nat)] w fun e w' => ∃ A c, e = .returned (.slice A n c) ∧ n ≤ c ∧ Strs w' A n (rpcs n k s) ∧ Below w.heap.size w w' := by
  obtain ⟨L, hL⟩ : ∃ L, cutL k s.size = L := ⟨_, rfl⟩
  have h1 := cutL_ge (z := s.size) k1
  have h2 := cutL_lt (z := s.size) k1
  have h3 := cutL_le (z := s.size) k1
  have hq := cutL_quo (z := s.size) k1
  have h5 := Nat.div_mul_le_self s.size k
  have h6 := Nat.div_le_self s.size k
  have hdiv : (s.size : Int) / (k : Int) = ((s.size / k : Nat) : Int) := by rw [Int.natCast_ediv]
  have HT1 := Lib.hid (fun i hi => padL_take_succ (k := k) k1 s i hi)
  have hpl := padL_length k1 s
  rw [hL] at h1 h2 h3 hq HT1 hpl
  generalize s.size / k = d at hq h5 h6 hdiv
  have hdk : (d : Int) * (k : Int) = ((d * k : Nat) : Int) := by rw [Int.natCast_mul]
  generalize d * k = dk at hq h5 hdk
  obtain ⟨P, hP⟩ : ∃ P, L * k = P := ⟨_, rfl⟩
  have hLk : (L : Int) * (k : Int) = (P : Int) := by rw [← hP, Int.natCast_mul]
  have HP := Lib.hid hP
  rw [hP] at h1 h2 HT1 hpl
  have HPL := Lib.hid hpl
  have HLL := Lib.hid hL
  have k0 : ((k : Int) == 0) = false := int_ne (by omega)
  clear hP hpl hL
  go_enter Try.func32, Try.ntmps32
  go_upto_if 23 with fail
  go_cut [7] (fun s7 wx => w = wx ∧ s7 = .int .i64 (L : Nat))
  case first =>
    by_cases hlt : dk < s.size
    · rw [if_pos hlt] at hq
      have e1 : decide ((dk : Int) < (s.size : Int)) = true := decide_eq_true (by omega)
      have e2 : (d : Int) + 1 = (L : Int) := by omega
      have HE2 := Lib.hid e2
      have hd9 : d ≤ 100000 := by omega
      clear hq e2
      go_wp2
      all_goals (go_meet; exact ⟨rfl, by rw [HE2.out]⟩)
    · rw [if_neg hlt] at hq
      subst hq
      have e1 : decide ((dk : Int) < (s.size : Int)) = false := decide_eq_false (by omega)
      go_wp2
      all_goals (go_meet; exact ⟨rfl, rfl⟩)
  case rest =>
    obtain ⟨rfl, rfl⟩ := hcut
    clear hq h5 h6 hdiv hdk
    go_wp2
    go_loopw [8, 9] (fun d i wr => ∃ a : Nat, a ≤ P ∧ i = .int .i64 a ∧ wr.ownsRow w.heap.size 5 1 d a (bv ((padL k s).take a)) ∧ Below w.heap.size w wr) (fun _ i _ => P - (intOf i).toNat)
    case atStart => exact ⟨0, by omega, rfl, World.ownsRow_nil _ _ _ _, Below.refl _ _⟩
    case round =>
      obtain ⟨a, ha, rfl, HO, HB⟩ := hrel
      obtain ⟨wi, rfl⟩ : ∃ wi : World, wi = wr := ⟨_, rfl⟩
      by_cases hlt : a < P
      · have hT := HT1.out a hlt
        have hbl : (bv ((padL k s).take a)).length = a := by rw [bv_length, List.length_take]; have := HPL.out; omega
        have HBL := Lib.hid hbl
        clear hbl
        by_cases has : a < s.size
        · rw [dif_pos has] at hT
          have HST := Lib.hid (show bv ((padL k s).take (a + 1)) = bv ((padL k s).take a) ++ [.int .u8 ((s[a].toNat : Nat) : Int)] by rw [hT, bv_append]; rfl)
          have e8 : decide ((a : Int) < (s.size : Int)) = true := decide_eq_true (by omega)
          clear hT
          go_wp2_with (at_builtin; refine app_one w.heap.size rfl (.tmp 37) (.tmp 41) 70 5 (.int .u8 0) 1 rfl Try.underlying70 info_byte rfl (by omega) _ (bv ((padL k s).take a)) _ a HBL.out rfl rfl rfl HO HB HB.size (by omega) ?_; intro v1 w1 HO2 HB2 hg2)
          go_roundw
          case rel => exact ⟨a + 1, by omega, by go_num, by rw [HST.out]; exact HO2, HB2⟩
          case measure => simp [intOf]; omega
        · rw [dif_neg has] at hT
          have HST := Lib.hid (show bv ((padL k s).take (a + 1)) = bv ((padL k s).take a) ++ [.int .u8 0] by rw [hT, bv_append]; rfl)
          have e8 : decide ((a : Int) < (s.size : Int)) = false := decide_eq_false (by omega)
          clear hT
          go_wp2_with (at_builtin; refine app_one w.heap.size rfl (.tmp 43) (.tmp 44) 70 5 (.int .u8 0) 1 rfl Try.underlying70 info_byte rfl (by omega) _ (bv ((padL k s).take a)) _ a HBL.out rfl rfl rfl HO HB HB.size (by omega) ?_; intro v1 w1 HO2 HB2 hg2)
          go_roundw
          case rel => exact ⟨a + 1, by omega, by go_num, by rw [HST.out]; exact HO2, HB2⟩
          case measure => simp [intOf]; omega
      · obtain rfl : a = P := by omega
        rw [List.take_of_length_le (by have := HPL.out; omega)] at HO
        obtain ⟨Ab, cb, rfl, _, hBy⟩ := own_bytes HO (by omega)
        have hoff : (Ab = none ∧ cb = 0 ∧ a = 0) ∨ ∃ g, Ab = some ⟨g, 0, none⟩ ∧ a ≤ cb := by
          rcases HO.2 with ⟨e, h⟩ | ⟨g, cap, cur, e, _, _, hcap, _⟩
          · simp only [Value.slice.injEq] at e
            exact .inl ⟨e.1, e.2.2, h⟩
          · cases e
            exact .inr ⟨g, rfl, hcap⟩
        clear HO
        go_wp2
        go_loopw [10, 12] (fun d i wr => ∃ x : Nat, x ≤ k ∧ i = .int .i64 x ∧ wr.ownsRow wi.heap.size 9 1 d x (sv (parts x k s)) ∧ Below wi.heap.size wi wr) (fun _ i _ => k - (intOf i).toNat)
        case atStart => exact ⟨0, by omega, rfl, World.ownsRow_nil _ _ _ _, Below.refl _ _⟩
        case round =>
          obtain ⟨x, hx, rfl, HO, HBx⟩ := hrel
          obtain ⟨wj, rfl⟩ : ∃ wj : World, wj = wr := ⟨_, rfl⟩
          by_cases hlt2 : x < k
          · have hll : (sv (parts x k s)).length = x := by rw [sv_length, parts_length]
            have HLE := Lib.hid hll
            obtain ⟨X, hX⟩ : ∃ X, x * L = X := ⟨_, rfl⟩
            obtain ⟨Y, hY⟩ : ∃ Y, (x + 1) * L = Y := ⟨_, rfl⟩
            have hYP : Y ≤ a := by rw [← hY, ← HP.out, Nat.mul_comm L k]; exact Nat.mul_le_mul_right _ hlt2
            have hXY : X ≤ Y := by rw [← hX, ← hY]; exact Nat.mul_le_mul_right _ (Nat.le_succ x)
            have m1 : (x : Int) * (L : Int) = (X : Int) := by rw [← hX, Int.natCast_mul]
            have m2 : ((x : Int) + 1) * (L : Int) = (Y : Int) := by rw [← hY, Int.natCast_mul]; rfl
            have HST := Lib.hid (show sv (parts (x + 1) k s) = sv (parts x k s) ++ [.string (str (((padL k s).take Y).drop X))] by rw [parts_succ, sv_snoc, CodP.part, HLL.out, hX, hY])
            clear hll hX hY hLk
            rcases hoff with ⟨rfl, rfl, ha0⟩ | ⟨g, rfl, hac⟩
            · have X0 : X = 0 := by omega
              have Y0 : Y = 0 := by omega
              subst X0 Y0
              have HA0 := Lib.hid ha0
              clear ha0
              have HCV := fun W => Base.conv_str (P := Try.prog) (src := 70) (e := 5) (dst := 9) Try.underlying70 Try.underlying5 Try.underlying9 W none [] 0 0 (Bytes.nil W none) rfl
              go_wp2_with (at_builtin; refine app_one wi.heap.size rfl (.tmp 51) (.tmp 62) 40 9 (.string ByteArray.empty) 16 rfl Try.underlying40 info_str rfl (by omega) _ (sv (parts x k s)) _ x HLE.out rfl rfl rfl HO HBx HBx.size (by omega) ?_; intro v1 w1 HO2 HB2 hg2)
              go_roundw
              case rel => exact ⟨x + 1, by omega, by go_num, by rw [HST.out]; exact HO2, HB2⟩
              case measure => simp [intOf]; omega
            · by_cases hcX : cb - X = 0
              · have hXa : X = a := by omega
                have hYX : Y - X = 0 := by omega
                have HST' := HST.out
                rw [List.eq_nil_of_length_eq_zero (show (((padL k s).take Y).drop X).length = 0 by rw [List.length_drop, List.length_take]; omega)] at HST'
                have HST := Lib.hid HST'
                clear HST'
                have HCV := Base.conv_str (P := Try.prog) (src := 70) (e := 5) (dst := 9) Try.underlying70 Try.underlying5 Try.underlying9 wj (some ⟨g, 0, none⟩) [] 0 0 (Bytes.nil _ _) rfl
                have HXa := Lib.hid hXa
                clear hXa
                go_wp2_with (at_builtin; refine app_one wi.heap.size rfl (.tmp 51) (.tmp 62) 40 9 (.string ByteArray.empty) 16 rfl Try.underlying40 info_str rfl (by omega) _ (sv (parts x k s)) _ x HLE.out rfl rfl rfl HO HBx HBx.size (by omega) ?_; intro v1 w1 HO2 HB2 hg2)
                go_roundw
                case rel => exact ⟨x + 1, by omega, by go_num, by rw [HST.out]; exact HO2, HB2⟩
                case measure => simp [intOf]; omega
              · have HCV := Base.conv_str (P := Try.prog) (src := 70) (e := 5) (dst := 9) Try.underlying70 Try.underlying5 Try.underlying9 wj (some ⟨g, X, none⟩) _ (Y - X) (cb - X) (by have h9 := Bytes.sub (hBy.below HBx) X Y; rw [Nat.zero_add] at h9; exact h9) (by rw [List.length_drop, List.length_take, List.length_map]; have := HPL.out; omega)
                rw [back_bytes] at HCV
                go_wp2_with (at_builtin; refine app_one wi.heap.size rfl (.tmp 51) (.tmp 62) 40 9 (.string ByteArray.empty) 16 rfl Try.underlying40 info_str rfl (by omega) _ (sv (parts x k s)) _ x HLE.out rfl rfl rfl HO HBx HBx.size (by omega) ?_; intro v1 w1 HO2 HB2 hg2)
                go_roundw
                case rel => exact ⟨x + 1, by omega, by go_num, by rw [HST.out]; exact HO2, HB2⟩
                case measure => simp [intOf]; omega
          · obtain rfl : x = k := by omega
            obtain ⟨A5, c5, rfl, hS5, hc5, _⟩ := own_strs HO
            have HB5 := bt HB HB.size HBx
            have HPC := Lib.hid (fun W y (hy : y ≤ 16) (h : Strs W A5 x (parts x x s)) => piece_any A5 x c5 y L (parts x x s) W h (by omega) k16 hy (by omega) (by rw [← HLL.out]; exact parts_size k1 s))
            clear HO hBy hoff hLk HB HBx HT1
            go_wp2
            go_loopw [11, 13] (fun d i wr => ∃ y : Nat, y ≤ n ∧ i = .int .i64 y ∧ wr.ownsRow wj.heap.size 9 1 d y (sv (rpcs y x s)) ∧ Below wj.heap.size wj wr) (fun _ i _ => n - (intOf i).toNat)
            case atStart => exact ⟨0, by omega, rfl, World.ownsRow_nil _ _ _ _, Below.refl _ _⟩
            case round =>
              obtain ⟨y, hy, rfl, HO, HBy⟩ := hrel
              by_cases hlt3 : y < n
              · have hll : (sv (rpcs y x s)).length = y := by rw [sv_length, rpcs_length]
                have HLE := Lib.hid hll
                have HST := Lib.hid (show sv (rpcs (y + 1) x s) = sv (rpcs y x s) ++ [.string (rpc x s y)] by rw [rpcs_succ, sv_snoc])
                have HPP := Lib.hid (HPC.out wr y (by omega) (hS5.below HBy))
                rw [show strOf L (fun p => sm x (fun i => tx (parts x x s) i p * CodP.lg i (toF y) x)) = rpc x s y by rw [rpc, HLL.out]] at HPP
                clear hll
                go_wp2_with (first | (go_at_call 70; (with_reducible refine (HPP.out).mono ?_); rintro e w6 ⟨rfl, hd⟩; have HO6 := own_below HO hd; have HB6 := bt HBy HBy.size hd) | (at_builtin; refine app_one wj.heap.size rfl (.tmp 69) (.tmp 73) 40 9 (.string ByteArray.empty) 16 rfl Try.underlying40 info_str rfl (by omega) _ (sv (rpcs y x s)) _ y HLE.out rfl rfl rfl HO6 HB6 HB6.size (by omega) ?_; intro v1 w1 HO2 HB2 hg2))
                go_roundw
                case rel => exact ⟨y + 1, by omega, by go_num, by rw [HST.out]; exact HO2, HB2⟩
                case measure => simp [intOf]; omega
              · obtain rfl : y = n := by omega
                obtain ⟨A7, c7, rfl, hS7, hc7, _⟩ := own_strs HO
                have HB7 := bt HB5 HB5.size HBy
                go_wp2
                go_ret
                exact ⟨A7, c7, rfl, hc7, hS7, HB7⟩
end Go.Proofs.Ytmlemichkeomjaa.StrpW
