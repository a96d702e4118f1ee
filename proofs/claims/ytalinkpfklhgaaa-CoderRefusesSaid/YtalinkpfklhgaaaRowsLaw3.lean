/- The law RowsBrackets walked. -/
import Derived.Test.YtalinkpfklhgaaaRowsLaw2
set_option linter.unusedVariables false
set_option linter.unusedSimpArgs false
namespace Go.Proofs.Ytalinkpfklhgaaa.RowsW
open Go.RowKit Go.Proofs.Ytalinkpfklhgaaa.Base Go.Proofs.Ytalinkpfklhgaaa.GfP Go.Proofs.Ytalinkpfklhgaaa.GfW Go.Proofs.Ytalinkpfklhgaaa.GfR Go.Proofs.Ytalinkpfklhgaaa.Lin

/-- A product, right or refused. -/
theorem mul_some (A A' : Option Addr) (n m c c' : Nat) (ls ms : List (List Nat)) (w : World) (hR : Base.Rows w A ls) (hR' : Base.Rows w A' ms) (hl : ls.length = n) (hl' : ms.length = m) (hf : fewR ls = true) (hf' : fewR ms = true) :
    Calls Try.prog 43 #[.slice A n c, .slice A' m c'] w fun e w' => ∃ v er, e = .returned (.tuple #[v, .int .i64 er]) ∧ Below w.heap.size w w' := by
  by_cases h : rightB ls = true ∧ rightB ms = true ∧ wid ls = m
  · exact (mul_rows A A' n m c c' _ ls ms w hR hR' hl hl' h.1 h.2.1 h.2.2 rfl).mono fun e w' ⟨g, cap, h1, _, _, h2⟩ => ⟨_, _, h1, h2⟩
  · have h1 := fewR_wid hf
    have h2 := fewR_wid hf'
    have h3 := (fewR_yes hf).1
    have h4 := (fewR_yes hf').1
    refine (mul_no A A' n m c c' ls ms w hR hR' hl hl' (by omega) (by omega) (by omega) (by omega) ?_).mono fun e w' ⟨h1, h2⟩ => ⟨_, _, h1, h2⟩
    by_cases a : rightB ls = true
    · by_cases b : rightB ms = true
      · exact .inr (.inr fun h9 => h ⟨a, b, h9⟩)
      · exact .inr (.inl (by simpa using b))
    · exact .inl (by simpa using a)
theorem mul_bad (A A' : Option Addr) (n m c c' : Nat) (ls ms : List (List Nat)) (w : World) (hR : Base.Rows w A ls) (hR' : Base.Rows w A' ms) (hl : ls.length = n) (hl' : ms.length = m) (hf : fewR ls = true) (hf' : fewR ms = true) (h : ¬ (rightB ls = true ∧ rightB ms = true ∧ wid ls = m)) :
    Calls Try.prog 43 #[.slice A n c, .slice A' m c'] w fun e w' => e = .returned (.tuple #[.slice none 0 0, .int .i64 1]) ∧ Below w.heap.size w w' := by
  have h1 := fewR_wid hf
  have h2 := fewR_wid hf'
  have h3 := (fewR_yes hf).1
  have h4 := (fewR_yes hf').1
  refine (mul_no A A' n m c c' ls ms w hR hR' hl hl' (by omega) (by omega) (by omega) (by omega) ?_)
  by_cases a : rightB ls = true
  · by_cases b : rightB ms = true
    · exact .inr (.inr fun h9 => h ⟨a, b, h9⟩)
    · exact .inr (.inl (by simpa using b))
  · exact .inl (by simpa using a)
section
variable (A B C : Option Addr) (n m p c1 c2 c3 : Nat) (la lb lc : List (List Nat)) (w : World)
set_option maxRecDepth 100000 in
set_option maxHeartbeats 1000000 in
theorem lawbr_far (hA : Base.Rows w A la) (hB : Base.Rows w B lb) (hC : Base.Rows w C lc) (ha : la.length = n) (hb : lb.length = m) (hc : lc.length = p) (hf : ¬ (fewR la = true ∧ fewR lb = true ∧ fewR lc = true)) :
    Calls Try.prog 13 #[.slice A n c1, .slice B m c2, .slice C p c3] w fun e w' => e = .returned (.bool true) ∧ Below w.heap.size w w' := by
  have HB : Below w.heap.size w w := Below.refl _ _
  have HFA := fun W (h : Base.Rows W A la) => few_any A n c1 la W h ha
  have HFB := fun W (h : Base.Rows W B lb) => few_any B m c2 lb W h hb
  have HFC := fun W (h : Base.Rows W C lc) => few_any C p c3 lc W h hc
  generalize fewR la = x at HFA hf
  generalize fewR lb = y at HFB hf
  generalize fewR lc = z at HFC hf
  cases x <;> cases y <;> cases z <;> first | exact absurd ⟨rfl, rfl, rfl⟩ hf | skip
  all_goals (
    have HFA := Lib.hid HFA
    have HFB := Lib.hid HFB
    have HFC := Lib.hid HFC
    clear hf
    go_enter Try.func13, Try.ntmps13
    go_wp2_with (first | (go_at_call 34; (with_reducible refine (awake_any _).mono ?_); rintro e w2 ⟨rfl, hd⟩; replace HB := bt HB HB.size hd; clear hd) | (go_at_call 35; (with_reducible refine (HFA.out _ (hA.below HB)).mono ?_); rintro e w2 ⟨rfl, rfl⟩) | (go_at_call 35; (with_reducible refine (HFB.out _ (hB.below HB)).mono ?_); rintro e w2 ⟨rfl, rfl⟩) | (go_at_call 35; (with_reducible refine (HFC.out _ (hC.below HB)).mono ?_); rintro e w2 ⟨rfl, rfl⟩))
    go_ret
    exact ⟨rfl, HB⟩)
set_option maxRecDepth 100000 in
set_option maxHeartbeats 1000000 in
theorem lawbr_bad1 (hA : Base.Rows w A la) (hB : Base.Rows w B lb) (hC : Base.Rows w C lc) (ha : la.length = n) (hb : lb.length = m) (hc : lc.length = p) (f1 : fewR la = true) (f2 : fewR lb = true) (f3 : fewR lc = true) (h : ¬ (rightB la = true ∧ rightB lb = true ∧ wid la = m)) :
    Calls Try.prog 13 #[.slice A n c1, .slice B m c2, .slice C p c3] w fun e w' => e = .returned (.bool true) ∧ Below w.heap.size w w' := by
  have HB : Below w.heap.size w w := Below.refl _ _
  have HFA := Lib.hid (fun W (h : Base.Rows W A la) => few_any A n c1 la W h ha)
  have HFB := Lib.hid (fun W (h : Base.Rows W B lb) => few_any B m c2 lb W h hb)
  have HFC := Lib.hid (fun W (h : Base.Rows W C lc) => few_any C p c3 lc W h hc)
  rw [f1] at HFA
  rw [f2] at HFB
  rw [f3] at HFC
  have HM1 := Lib.hid (fun W (h9 : Base.Rows W A la) (h8 : Base.Rows W B lb) => mul_bad A B n m c1 c2 la lb W h9 h8 ha hb f1 f2 h)
  have HM2 := Lib.hid (fun W (h9 : Base.Rows W B lb) (h8 : Base.Rows W C lc) => mul_some B C m p c2 c3 lb lc W h9 h8 hb hc f2 f3)
  clear f1 f2 f3 h
  have tok : True := trivial
  go_enter Try.func13, Try.ntmps13
  go_wp2_with (first | (go_at_call 34; (with_reducible refine (awake_any _).mono ?_); rintro e w2 ⟨rfl, hd⟩; replace HB := bt HB HB.size hd; clear hd) | (go_at_call 35; (with_reducible refine (HFA.out _ (hA.below HB)).mono ?_); rintro e w2 ⟨rfl, rfl⟩) | (go_at_call 35; (with_reducible refine (HFB.out _ (hB.below HB)).mono ?_); rintro e w2 ⟨rfl, rfl⟩) | (go_at_call 35; (with_reducible refine (HFC.out _ (hC.below HB)).mono ?_); rintro e w2 ⟨rfl, rfl⟩) | (go_at_call 43; have _t := tok; (with_reducible refine (HM1.out _ (hA.below HB) (hB.below HB)).mono ?_); rintro e w2 ⟨rfl, hd⟩; clear tok; replace HB := bt HB HB.size hd; clear hd) | (go_at_call 43; (with_reducible refine (HM2.out _ (hB.below HB) (hC.below HB)).mono ?_); rintro e w2 ⟨v, er, rfl, hd⟩; replace HB := bt HB HB.size hd; clear hd))
  go_ret
  exact ⟨rfl, HB⟩
set_option maxRecDepth 100000 in
set_option maxHeartbeats 1000000 in
theorem lawbr_bad2 (hA : Base.Rows w A la) (hB : Base.Rows w B lb) (hC : Base.Rows w C lc) (ha : la.length = n) (hb : lb.length = m) (hc : lc.length = p) (f1 : fewR la = true) (f2 : fewR lb = true) (f3 : fewR lc = true) (h1 : rightB la = true ∧ rightB lb = true ∧ wid la = m) (h : ¬ (rightB lb = true ∧ rightB lc = true ∧ wid lb = p)) :
    Calls Try.prog 13 #[.slice A n c1, .slice B m c2, .slice C p c3] w fun e w' => e = .returned (.bool true) ∧ Below w.heap.size w w' := by
  have HB : Below w.heap.size w w := Below.refl _ _
  have HFA := Lib.hid (fun W (h : Base.Rows W A la) => few_any A n c1 la W h ha)
  have HFB := Lib.hid (fun W (h : Base.Rows W B lb) => few_any B m c2 lb W h hb)
  have HFC := Lib.hid (fun W (h : Base.Rows W C lc) => few_any C p c3 lc W h hc)
  rw [f1] at HFA
  rw [f2] at HFB
  rw [f3] at HFC
  have HM1 := Lib.hid (fun W (h9 : Base.Rows W A la) (h8 : Base.Rows W B lb) => mul_rows A B n m c1 c2 _ la lb W h9 h8 ha hb h1.1 h1.2.1 h1.2.2 rfl)
  have HM2 := Lib.hid (fun W (h9 : Base.Rows W B lb) (h8 : Base.Rows W C lc) => mul_bad B C m p c2 c3 lb lc W h9 h8 hb hc f2 f3 h)
  clear f1 f2 f3 h h1
  have tok : True := trivial
  go_enter Try.func13, Try.ntmps13
  go_wp2_with (first | (go_at_call 34; (with_reducible refine (awake_any _).mono ?_); rintro e w2 ⟨rfl, hd⟩; replace HB := bt HB HB.size hd; clear hd) | (go_at_call 35; (with_reducible refine (HFA.out _ (hA.below HB)).mono ?_); rintro e w2 ⟨rfl, rfl⟩) | (go_at_call 35; (with_reducible refine (HFB.out _ (hB.below HB)).mono ?_); rintro e w2 ⟨rfl, rfl⟩) | (go_at_call 35; (with_reducible refine (HFC.out _ (hC.below HB)).mono ?_); rintro e w2 ⟨rfl, rfl⟩) | (go_at_call 43; have _t := tok; (with_reducible refine (HM1.out _ (hA.below HB) (hB.below HB)).mono ?_); rintro e w2 ⟨g, cap, rfl, hcap, _, hd⟩; clear tok; replace HB := bt HB HB.size hd; clear hd) | (go_at_call 43; (with_reducible refine (HM2.out _ (hB.below HB) (hC.below HB)).mono ?_); rintro e w2 ⟨rfl, hd⟩; replace HB := bt HB HB.size hd; clear hd))
  go_ret
  exact ⟨rfl, HB⟩
set_option maxRecDepth 100000 in
set_option maxHeartbeats 1000000 in
theorem lawbr_yes (hA : Base.Rows w A la) (hB : Base.Rows w B lb) (hC : Base.Rows w C lc) (ha : la.length = n) (hb : lb.length = m) (hc : lc.length = p) (f1 : fewR la = true) (f2 : fewR lb = true) (f3 : fewR lc = true) (h1 : rightB la = true ∧ rightB lb = true ∧ wid la = m) (h2 : rightB lb = true ∧ rightB lc = true ∧ wid lb = p) (q : Nat) (hq : wid lc = q) :
    Calls Try.prog 13 #[.slice A n c1, .slice B m c2, .slice C p c3] w fun e w' => e = .returned (.bool true) ∧ Below w.heap.size w w' := by
  have HB : Below w.heap.size w w := Below.refl _ _
  have HFA := Lib.hid (fun W (h : Base.Rows W A la) => few_any A n c1 la W h ha)
  have HFB := Lib.hid (fun W (h : Base.Rows W B lb) => few_any B m c2 lb W h hb)
  have HFC := Lib.hid (fun W (h : Base.Rows W C lc) => few_any C p c3 lc W h hc)
  rw [f1] at HFA
  rw [f2] at HFB
  rw [f3] at HFC
  have hq40 := (fewR_yes f1).2
  obtain ⟨ra1, ra2, ra3, ra4, ra5⟩ := (right_iff la).1 h1.1
  obtain ⟨rb1, rb2, rb3, rb4, rb5⟩ := (right_iff lb).1 h1.2.1
  obtain ⟨rc1, rc2, rc3, rc4, rc5⟩ := (right_iff lc).1 h2.2.1
  rw [hq] at rc3 rc4
  rw [h2.2.2] at rb3 rb4
  rw [h1.2.2] at ra3 ra4
  have n1 : 1 ≤ n := by omega
  have n2 : n ≤ 32 := by omega
  have hra := right_rect h1.1 hA.le
  rw [ha, h1.2.2] at hra
  have HM1 := Lib.hid (fun W (h9 : Base.Rows W A la) (h8 : Base.Rows W B lb) => mul_rows A B n m c1 c2 p la lb W h9 h8 ha hb h1.1 h1.2.1 h1.2.2 h2.2.2)
  have HM2 := Lib.hid (fun W (h9 : Base.Rows W B lb) (h8 : Base.Rows W C lc) => mul_rows B C m p c2 c3 q lb lc W h9 h8 hb hc h2.1 h2.2.1 h2.2.2 hq)
  have HM3 := Lib.hid (fun W g c (h9 : Base.Rows W (some ⟨g, 0, none⟩) (tab n p (mm m (fn la) (fn lb)))) (h8 : Base.Rows W C lc) => mul_rows (some ⟨g, 0, none⟩) C n p c c3 q _ lc W h9 h8 (tab_length _ _ _) hc (right_tab _ n1 n2 rb3 rb4) h2.2.1 (wid_tab _ _ (by omega)) hq)
  rw [tab_congr (mm_tab_fn n p q (mm m (fn la) (fn lb)) (fn lc))] at HM3
  have HM4 := Lib.hid (fun W g c (h9 : Base.Rows W A la) (h8 : Base.Rows W (some ⟨g, 0, none⟩) (tab m q (mm p (fn lb) (fn lc)))) => mul_rows A (some ⟨g, 0, none⟩) n m c1 c q la _ W h9 h8 ha (tab_length _ _ _) h1.1 (right_tab _ ra3 ra4 rc3 rc4) h1.2.2 (wid_tab _ _ (by omega)))
  rw [tab_congr (mm_fn_tab n m q (fn la) (mm p (fn lb) (fn lc))), tab_congr (show Eqv n q (mm m (fn la) (mm p (fn lb) (fn lc))) (mm p (mm m (fn la) (fn lb)) (fn lc)) from fun i _ j _ => (mm_assoc m p (fn la) (fn lb) (fn lc) i j).symm)] at HM4
  have HM5 := Lib.hid (fun W g c (h9 : Base.Rows W (some ⟨g, 0, none⟩) (tab n n dl)) (h8 : Base.Rows W A la) => mul_rows (some ⟨g, 0, none⟩) A n n c c1 m _ la W h9 h8 (tab_length _ _ _) ha (right_tab _ n1 n2 n1 n2) h1.1 (wid_tab _ _ (by omega)) h1.2.2)
  rw [tab_congr ((mm_tab_fn n n m dl (fn la)).trans (fun i hi j _ => mm_one_left (fn la) j hi)), hra.tab_eq] at HM5
  have HON := Lib.hid (fun W => one_rows n W n1 n2)
  have HE1 := Lib.hid (fun W A A' c c' (h9 : Base.Rows W A (tab n q (mm p (mm m (fn la) (fn lb)) (fn lc)))) (h8 : Base.Rows W A' (tab n q (mm p (mm m (fn la) (fn lb)) (fn lc)))) => equal_tab A A' n q c c' _ W h9 h8 (by omega) (by omega))
  have HE2 := Lib.hid (fun W A' c' (h9 : Base.Rows W A' la) (h8 : Base.Rows W A la) => equal_yes A' A n c' c1 la W h9 h8 ha (by omega) (fun i hi => Nat.le_trans (hq40 i hi) (by omega)))
  clear f1 f2 f3 h1 h2 hra hq40 ra5 rb5 rc5 hq ha hb hc
  have tok1 : True := trivial
  have tok2 : True := trivial
  have tok3 : True := trivial
  have tok4 : True := trivial
  have tok5 : True := trivial
  go_enter Try.func13, Try.ntmps13
  go_wp2_with (first | (go_at_call 34; (with_reducible refine (awake_any _).mono ?_); rintro e w2 ⟨rfl, hd⟩; replace HB := bt HB HB.size hd; clear hd) | (go_at_call 35; (with_reducible refine (HFA.out _ (hA.below HB)).mono ?_); rintro e w2 ⟨rfl, rfl⟩) | (go_at_call 35; (with_reducible refine (HFB.out _ (hB.below HB)).mono ?_); rintro e w2 ⟨rfl, rfl⟩) | (go_at_call 35; (with_reducible refine (HFC.out _ (hC.below HB)).mono ?_); rintro e w2 ⟨rfl, rfl⟩) | (go_at_call 43; have _t := tok1; (with_reducible refine (HM1.out _ (hA.below HB) (hB.below HB)).mono ?_); rintro e w2 ⟨gx, cx, rfl, hcx, hX, hd⟩; clear tok1; replace HB := bt HB HB.size hd; clear hd) | (go_at_call 43; have _t := tok2; (with_reducible refine (HM2.out _ (hB.below HB) (hC.below HB)).mono ?_); rintro e w3 ⟨gy, cy, rfl, hcy, hY, hd⟩; clear tok2; replace hX := hX.below hd; replace HB := bt HB HB.size hd; clear hd) | (go_at_call 43; have _t := tok3; (with_reducible refine (HM3.out _ _ _ hX (hC.below HB)).mono ?_); rintro e w4 ⟨gp, cp, rfl, hcp, hP, hd⟩; clear tok3; replace hY := hY.below hd; replace HB := bt HB HB.size hd; clear hd) | (go_at_call 43; have _t := tok4; (with_reducible refine (HM4.out _ _ _ (hA.below HB) hY).mono ?_); rintro e w5 ⟨gq, cq, rfl, hcq, hQ, hd⟩; clear tok4; replace hP := hP.below hd; replace HB := bt HB HB.size hd; clear hd) | (go_at_call 40; (with_reducible refine (HON.out _).mono ?_); rintro e w6 ⟨go, co, rfl, hco, hO, hd⟩; replace hP := hP.below hd; replace hQ := hQ.below hd; replace HB := bt HB HB.size hd; clear hd) | (go_at_call 43; have _t := tok5; (with_reducible refine (HM5.out _ _ _ hO (hA.below HB)).mono ?_); rintro e w7 ⟨gz, cz, rfl, hcz, hZ, hd⟩; clear tok5; replace hP := hP.below hd; replace hQ := hQ.below hd; replace HB := bt HB HB.size hd; clear hd) | (go_at_call 41; (with_reducible refine (HE1.out _ _ _ _ _ hP hQ).mono ?_); rintro e w8 ⟨rfl, hd⟩; replace hZ := hZ.below hd; replace HB := bt HB HB.size hd; clear hd) | (go_at_call 41; (with_reducible refine (HE2.out _ _ _ hZ (hA.below HB)).mono ?_); rintro e w9 ⟨rfl, hd⟩; replace HB := bt HB HB.size hd; clear hd))
  go_ret
  exact ⟨rfl, HB⟩
theorem lawbr (hA : Base.Rows w A la) (hB : Base.Rows w B lb) (hC : Base.Rows w C lc) (ha : la.length = n) (hb : lb.length = m) (hc : lc.length = p) :
    Calls Try.prog 13 #[.slice A n c1, .slice B m c2, .slice C p c3] w fun e w' => e = .returned (.bool true) ∧ Below w.heap.size w w' := by
  by_cases hf : fewR la = true ∧ fewR lb = true ∧ fewR lc = true
  · obtain ⟨f1, f2, f3⟩ := hf
    by_cases h1 : rightB la = true ∧ rightB lb = true ∧ wid la = m
    · by_cases h2 : rightB lb = true ∧ rightB lc = true ∧ wid lb = p
      · exact lawbr_yes A B C n m p c1 c2 c3 la lb lc w hA hB hC ha hb hc f1 f2 f3 h1 h2 _ rfl
      · exact lawbr_bad2 A B C n m p c1 c2 c3 la lb lc w hA hB hC ha hb hc f1 f2 f3 h1 h2
    · exact lawbr_bad1 A B C n m p c1 c2 c3 la lb lc w hA hB hC ha hb hc f1 f2 f3 h1
  · exact lawbr_far A B C n m p c1 c2 c3 la lb lc w hA hB hC ha hb hc hf
end
end Go.Proofs.Ytalinkpfklhgaaa.RowsW
