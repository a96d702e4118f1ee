/- Rows that are only read: stookref02.Equal, where it says yes. -/
import Derived.Test.YtalinkpfklhgaaaRowsW2
import Derived.Test.YtalinkpfklhgaaaOwn
import Derived.BigQuiet
set_option linter.unusedVariables false
set_option linter.unusedSimpArgs false
namespace Go.Proofs.Ytalinkpfklhgaaa.RowsW
open Go.RowKit Go.Proofs.Ytalinkpfklhgaaa.Base Go.Proofs.Ytalinkpfklhgaaa.Lin
theorem regrown_cell {w : World} {a : Addr} {v : Value} (h : w.cell? a = some v) (p : Regrown) : (Go.Sort.grow (redrawn w p.d) p.os).cell? a = some v := cell_below (below_of_regrown ⟨p, rfl⟩) h

set_option maxRecDepth 100000 in
set_option maxHeartbeats 1000000 in
theorem equal_yes (A A' : Option Addr) (n c c' : Nat) (ls : List (List Nat)) (w : World) (hR : Base.Rows w A ls) (hR' : Base.Rows w A' ls) (hl : ls.length = n) (hn : n ≤ 1000) (hq : ∀ i (hi : i < ls.length), ls[i].length ≤ 1000) :
    Calls Try.prog 41 #[.slice A n c, .slice A' n c'] w fun e w' => e = .returned (.bool true) ∧ Below w.heap.size w w' := by
  have HQ := Lib.hid hq
  clear hq
  go_enter Try.func41, Try.ntmps41
  go_wp2
  go_loopw [5] (fun i wr => ∃ k : Nat, k ≤ n ∧ i = .int .i64 k ∧ Below w.heap.size w wr) (fun i _ => n - (intOf i).toNat)
  case atStart => exact ⟨0, by omega, rfl, Below.refl _ _⟩
  case round =>
    obtain ⟨k, hk, rfl, HD⟩ := hrel
    by_cases hlt : k < n
    · have hkl : k < ls.length := by omega
      obtain ⟨b, off, rfl, hc⟩ := (hR.below HD).block (by omega)
      obtain ⟨B1, c1, h1, hr1⟩ := hc k hkl
      obtain ⟨b2, off2, rfl, hc2⟩ := (hR'.below HD).block (by omega)
      obtain ⟨B2, c2, h2, hr2⟩ := hc2 k hkl
      clear hc hc2
      have hq1 := HQ.out k hkl
      generalize ls[k] = l at h1 h2 hr1 hr2 hq1
      obtain ⟨q, hqe⟩ : ∃ q, l.length = q := ⟨_, rfl⟩
      rw [hqe] at h1 h2
      have H1 := Lib.hid (fun wx (hwx : ∃ p : Regrown, wx = Go.Sort.grow (redrawn wr p.d) p.os) => Base.conv_str Try.underlying29 Try.underlying5 Try.underlying9 wx B1 l q c1 ((hr1.below (below_of_regrown hwx)).bytes (by omega)) hqe)
      have H2 := Lib.hid (fun wx (hwx : ∃ p : Regrown, wx = Go.Sort.grow (redrawn wr p.d) p.os) => Base.conv_str Try.underlying29 Try.underlying5 Try.underlying9 wx B2 l q c2 ((hr2.below (below_of_regrown hwx)).bytes (by omega)) hqe)
      have r1 := regrown_cell h1
      have r2 := regrown_cell h2
      go_upto_region 6 with fail
      (refine wp_region_quiet_below (by kernel_rfl) (by kernel_rfl) ?_; (repeat (go_big_quiet_step (fail))); (refine BigFrame.wpQuiet_want (by rfl) (fun K hK => quiet_conv 29 9 (.tmp 20) rfl _ _ rfl (fun wx hwx => H1.out wx hwx) ?_); refine hK _ ?_; clear hK K; go_simp); (repeat (go_big_quiet_step (fail))); (refine BigFrame.wpQuiet_want (by rfl) (fun K hK => quiet_conv 29 9 (.tmp 25) rfl _ _ rfl (fun wx hwx => H2.out wx hwx) ?_); refine hK _ ?_; clear hK K; go_simp); (repeat (go_big_quiet_step (fail))); refine wpQuiet_nil ?_; intro pq; generalize hw' : Go.Sort.grow (redrawn _ pq.d) pq.os = wq; have HQ := below_of_regrown ⟨pq, hw'.symm⟩; clear hw')
      have HE := bt HD HD.size HQ
      have he : ((str (List.map UInt8.ofNat l)).toList == (str (List.map UInt8.ofNat l)).toList) = true := by simp
      clear HQ HD H1 H2 r1 r2 h1 h2
      go_wp2
      go_roundw
      case rel => exact ⟨k + 1, by omega, by go_num, HE⟩
      case measure => simp [intOf]; omega
    · obtain rfl : k = n := by omega
      go_wp2
      go_ret
      exact ⟨rfl, HD⟩
end Go.Proofs.Ytalinkpfklhgaaa.RowsW
