/- Texts of this claim in one. -/
import Derived.Test.YtmlemichkeomjaaM9
import Derived.Test.YtmlemichkeomjaaLedRec
import Derived.Test.YtmlemichkeomjaaManT
/- What Save answers, and records replayed: plain. -/
set_option linter.unusedVariables false
set_option linter.unusedSimpArgs false
namespace Go.Proofs.Ytmlemichkeomjaa.LedP
open Go.Proofs.Ytmlemichkeomjaa.ManP Go.Proofs.Ytmlemichkeomjaa.MendW
/-- A record that goes through, kind by kind, with all that was asked. -/
inductive Did (s : LS) (r : LR) : LS → Prop
  | boot : r.kind = 0 → s.ep < r.n → Did s r { s with ep := r.n }
  | done (t : Nat) : r.kind = 1 → s.fin = 0 → right r.m s.has.length s.n = true → r.m.task = (t : Nat) → t < s.done.length → s.te.getD t 0 = 0 → Did s r { s with done := s.done.set t true, ms := s.ms.set t r.m }
  | taskErr (t : Nat) : r.kind = 2 → s.fin = 0 → r.n = (t : Nat) → t < s.done.length → r.e ≠ 0 → s.done.getD t false = false → s.te.getD t 0 = 0 → Did s r { s with te := s.te.set t r.e }
  | lost (t : Nat) : r.kind = 3 → s.fin = 0 → r.n = (t : Nat) → t < s.done.length → s.done.getD t false = true → Did s r { s with done := s.done.set t false, ms := s.ms.set t noMan }
  | result (p : Nat) : r.kind = 4 → s.fin = 0 → r.n = (p : Nat) → p < s.has.length → r.text.size ≤ 1048576 → s.has.getD p false = false → s.pe.getD p 0 = 0 → Did s r { s with has := s.has.set p true, res := s.res.set p r.text }
  | partErr (p : Nat) : r.kind = 5 → s.fin = 0 → r.n = (p : Nat) → p < s.has.length → r.e ≠ 0 → s.has.getD p false = false → s.pe.getD p 0 = 0 → Did s r { s with pe := s.pe.set p r.e }
  | commit (p : Nat) : r.kind = 6 → s.fin = 0 → r.n = (p : Nat) → p < s.has.length → false ∉ s.has → s.com.getD p false = false → Did s r { s with com := s.com.set p true }
  | fin : r.kind = 7 → s.fin = 0 → 1 ≤ r.n → r.n ≤ 3 → (r.e = 0 ↔ r.n = 1) → (r.n = 1 → false ∉ s.com) → (r.n ≠ 1 → true ∉ s.com) → Did s r { s with fin := r.n, er := r.e }
theorem did_range {s : LS} {r : LR} (h : (applyP s r).2 = 0) : ¬ badR r := by
  intro hb
  unfold applyP at h
  rw [if_pos hb] at h
  exact absurd h (show ¬ (1 : Nat) = 0 from by decide)
theorem not_true {b : Bool} (h : ¬ b = true) : b = false := by cases b <;> simp_all
theorem not_false {b : Bool} (h : ¬ b = false) : b = true := by cases b <;> simp_all
theorem apply_did {s : LS} {r : LR} (h : (applyP s r).2 = 0) : Did s r (applyP s r).1 := by
  have hb := did_range h
  unfold applyP at h ⊢
  rw [if_neg hb] at h ⊢
  unfold badR at hb
  have hn : 0 ≤ r.n := by omega
  obtain ⟨t, ht⟩ := Int.eq_ofNat_of_zero_le hn
  split at h
  · rename_i hk
    rw [if_pos hk]
    split at h
    · exact absurd h (show ¬ (17 : Nat) = 0 from by decide)
    · rename_i he
      rw [if_neg he]
      exact .boot hk (by omega)
  · rename_i hk
    rw [if_neg hk]
    split at h
    · exact absurd h (show ¬ (19 : Nat) = 0 from by decide)
    · rename_i hf
      rw [if_neg hf]
      have hf0 : s.fin = 0 := by omega
      split at h
      · exact absurd h (show ¬ (1 : Nat) = 0 from by decide)
      · rename_i hm
        rw [if_neg hm]
        have hm1 : (r.kind = 2 ∨ r.kind = 3) → t < s.done.length := fun h4 => by
          have e : mostP s r = s.done.length := by unfold mostP; rw [if_pos h4]
          rw [e] at hm
          omega
        have hm2 : (r.kind = 4 ∨ r.kind = 5 ∨ r.kind = 6) → t < s.has.length := fun h4 => by
          have e : mostP s r = s.has.length := by unfold mostP; rw [if_neg (by omega), if_pos h4]
          rw [e] at hm
          omega
        unfold methP at h ⊢
        by_cases k1 : r.kind = 1
        · rw [if_pos k1] at h ⊢
          unfold doneP at h ⊢
          split at h
          · exact absurd h (show ¬ (1 : Nat) = 0 from by decide)
          · rename_i hc
            rw [if_neg hc]; split at h
            · exact absurd h (show ¬ (18 : Nat) = 0 from by decide)
            · rename_i hd
              rw [if_neg hd]
              have hr : right r.m s.has.length s.n = true := not_false fun hq => hc (.inl hq)
              have ht0 : 0 ≤ r.m.task := by
                unfold right rightB at hr
                simp only [Bool.and_eq_true, idB, decide_eq_true_eq] at hr
                exact hr.1.1.1.1.1.1.1
              obtain ⟨q, hq⟩ := Int.eq_ofNat_of_zero_le ht0
              have hl : ¬ (s.done.length : Int) ≤ r.m.task := fun h9 => hc (.inr h9)
              have he : s.te.getD r.m.task.toNat 0 = 0 := Classical.byContradiction fun h9 => hd (.inl h9)
              rw [hq, Int.toNat_natCast] at he ⊢
              exact .done q k1 hf0 hr hq (by omega) he
        rw [if_neg k1] at h ⊢
        by_cases k2 : r.kind = 2
        · rw [if_pos k2] at h ⊢
          unfold taskErrP at h ⊢
          split at h
          · exact absurd h (show ¬ (1 : Nat) = 0 from by decide)
          · rename_i hc
            rw [if_neg hc]; split at h
            · exact absurd h (show ¬ (18 : Nat) = 0 from by decide)
            · rename_i hd
              rw [if_neg hd]
              rw [ht, Int.toNat_natCast] at hd ⊢
              exact .taskErr t k2 hf0 ht (hm1 (.inl k2)) hc (not_true fun hq => hd (.inl hq)) (Classical.byContradiction fun h9 => hd (.inr h9))
        rw [if_neg k2] at h ⊢
        by_cases k3 : r.kind = 3
        · rw [if_pos k3] at h ⊢
          unfold lostP at h ⊢
          split at h
          · exact absurd h (show ¬ (19 : Nat) = 0 from by decide)
          · rename_i hd
            rw [if_neg hd]
            rw [ht, Int.toNat_natCast] at hd ⊢
            exact .lost t k3 hf0 ht (hm1 (.inr k3)) (not_false hd)
        rw [if_neg k3] at h ⊢
        by_cases k4 : r.kind = 4
        · rw [if_pos k4] at h ⊢
          unfold resultP at h ⊢
          split at h
          · exact absurd h (show ¬ (3 : Nat) = 0 from by decide)
          · rename_i hc
            rw [if_neg hc]; split at h
            · exact absurd h (show ¬ (18 : Nat) = 0 from by decide)
            · rename_i hd
              rw [if_neg hd]
              rw [ht, Int.toNat_natCast] at hd ⊢
              exact .result t k4 hf0 ht (hm2 (.inl k4)) (by omega) (not_true fun hq => hd (.inl hq)) (Classical.byContradiction fun h9 => hd (.inr h9))
        rw [if_neg k4] at h ⊢
        by_cases k5 : r.kind = 5
        · rw [if_pos k5] at h ⊢
          unfold partErrP at h ⊢
          split at h
          · exact absurd h (show ¬ (1 : Nat) = 0 from by decide)
          · rename_i hc
            rw [if_neg hc]; split at h
            · exact absurd h (show ¬ (18 : Nat) = 0 from by decide)
            · rename_i hd
              rw [if_neg hd]
              rw [ht, Int.toNat_natCast] at hd ⊢
              exact .partErr t k5 hf0 ht (hm2 (.inr (.inl k5))) hc (not_true fun hq => hd (.inl hq)) (Classical.byContradiction fun h9 => hd (.inr h9))
        rw [if_neg k5] at h ⊢
        by_cases k6 : r.kind = 6
        · rw [if_pos k6] at h ⊢
          unfold commitP at h ⊢
          split at h
          · exact absurd h (show ¬ (19 : Nat) = 0 from by decide)
          · rename_i hc
            rw [if_neg hc]; split at h
            · exact absurd h (show ¬ (18 : Nat) = 0 from by decide)
            · rename_i hd
              rw [if_neg hd]
              rw [ht, Int.toNat_natCast] at hd ⊢
              exact .commit t k6 hf0 ht (hm2 (.inr (.inr k6))) hc (not_true hd)
        rw [if_neg k6] at h ⊢
        have k7 : r.kind = 7 := by omega
        unfold endP at h ⊢
        split at h
        · exact absurd h (show ¬ (1 : Nat) = 0 from by decide)
        · rename_i hx
          rw [if_neg hx]; split at h
          · exact absurd h (show ¬ (19 : Nat) = 0 from by decide)
          · rename_i hc
            rw [if_neg hc]
            exact .fin k7 hf0 (by omega) (by omega) (Classical.byContradiction fun h9 => hx (.inr (.inr h9))) (fun h1 h2 => hc (.inl ⟨h1, h2⟩)) (fun h1 h2 => hc (.inr ⟨h1, h2⟩))
/-- A record that doesn't tell of a manifest. -/
theorem apply_m (s : LS) (k n e : Int) (t : ByteArray) (m m' : Man) (hk : k ≠ 1) : applyP s ⟨k, n, e, t, m⟩ = applyP s ⟨k, n, e, t, m'⟩ := by
  unfold applyP methP
  dsimp only
  rw [if_neg hk, if_neg hk]
  rfl
/-- A record as its bytes have it. -/
def wire (r : LR) : LR := { r with m := if r.kind = 1 then r.m else noMan }
theorem apply_wire (s : LS) (r : LR) : applyP s (wire r) = applyP s r := by
  obtain ⟨k, n, e, t, m⟩ := r
  unfold wire
  dsimp only
  by_cases hk : k = 1
  · rw [if_pos hk]
  · rw [if_neg hk]; exact apply_m s k n e t noMan m hk
/-- Records done one behind the other; how many were. -/
noncomputable def replayP : LS → List LR → LS × Nat
  | s, [] => (s, 0)
  | s, r :: l => ((replayP (applyP s r).1 l).1, (if (applyP s r).2 = 0 then 1 else 0) + (replayP (applyP s r).1 l).2)
theorem replay_append : ∀ (l m : List LR) (s : LS), replayP s (l ++ m) = ((replayP (replayP s l).1 m).1, (replayP s l).2 + (replayP (replayP s l).1 m).2)
  | [], m, s => by simp [replayP]
  | r :: l, m, s => by
    rw [List.cons_append, replayP, replay_append l m]
    simp only [replayP]
    rw [Nat.add_assoc]
theorem replay_snoc (l : List LR) (r : LR) (s : LS) : replayP s (l ++ [r]) = ((applyP (replayP s l).1 r).1, (replayP s l).2 + (if (applyP (replayP s l).1 r).2 = 0 then 1 else 0)) := by
  rw [replay_append]
  simp only [replayP, Nat.add_zero]
theorem replay_wire : ∀ (l : List LR) (s : LS), replayP s (l.map wire) = replayP s l
  | [], _ => rfl
  | r :: l, s => by
    rw [List.map_cons, replayP, replayP, apply_wire, replay_wire l]
theorem replay_ok : ∀ {l : List LR} {s : LS}, Ok s → (∀ r ∈ l, Slim r.m) → Ok (replayP s l).1
  | [], s, h, _ => h
  | r :: l, s, h, hs => replay_ok (l := l) (h.apply (hs r (List.mem_cons_self ..))) (fun x hx => hs x (List.mem_cons_of_mem _ hx))
/-- All of them are done. -/
def Goes (s : LS) (l : List LR) (s' : LS) : Prop := replayP s l = (s', l.length)
theorem Goes.nil (s : LS) : Goes s [] s := rfl
theorem Goes.append {s s' s'' : LS} {l m : List LR} (h : Goes s l s') (k : Goes s' m s'') : Goes s (l ++ m) s'' := by
  unfold Goes at *
  rw [replay_append, h]
  dsimp only
  rw [k, List.length_append]
theorem Goes.one {s s' : LS} {r : LR} (h : applyP s r = (s', 0)) : Goes s [r] s' := by
  unfold Goes
  simp only [replayP, h]
  rfl
theorem Goes.snoc {s s' : LS} {l : List LR} (h : Goes s l s') {r : LR} (h0 : (applyP s' r).2 = 0) : Goes s (l ++ [r]) (applyP s' r).1 :=
  h.append (Goes.one (Prod.ext rfl h0))
def many (f : Nat → List LR) (k : Nat) : List LR := (List.range k).flatMap f
theorem many_zero (f : Nat → List LR) : many f 0 = [] := rfl
theorem many_succ (f : Nat → List LR) (k : Nat) : many f (k + 1) = many f k ++ f k := by
  unfold many
  rw [List.range_succ, List.flatMap_append]
  simp
theorem Goes.many {F : Nat → LS} {f : Nat → List LR} : ∀ k, (∀ i, i < k → Goes (F i) (f i) (F (i + 1))) → Goes (F 0) (LedP.many f k) (F k)
  | 0, _ => Goes.nil _
  | k + 1, h => by
    rw [many_succ]
    exact (Goes.many k fun i hi => h i (by omega)).append (h k (by omega))
/-- The first k of a list, and nothing behind. -/
def mix {α : Type} (d : α) (l : List α) (k : Nat) : List α := (List.range l.length).map fun i => if i < k then l.getD i d else d
section
variable {α : Type} (d : α) (l : List α)
theorem mix_length (k : Nat) : (mix d l k).length = l.length := by simp [mix]
theorem mix_getD (k i : Nat) (hi : i < l.length) : (mix d l k).getD i d = if i < k then l.getD i d else d := by
  simp [mix, List.getD_eq_getElem?_getD, hi]
theorem mix_zero : mix d l 0 = List.replicate l.length d := by
  unfold mix
  apply List.ext_getElem
  · simp
  · intro i h1 h2; simp
theorem mix_all (k : Nat) (h : l.length ≤ k) : mix d l k = l := by
  unfold mix
  apply List.ext_getElem
  · simp
  · intro i h1 h2
    have : i < l.length := h2
    simp [show i < k by omega, List.getD_eq_getElem?_getD, this]
theorem mix_set (k : Nat) (h : k < l.length) : (mix d l k).set k (l.getD k d) = mix d l (k + 1) := by
  unfold mix
  apply List.ext_getElem
  · simp
  · intro i h1 h2
    rw [List.getElem_set]
    by_cases e : k = i
    · subst e; simp
    · rw [if_neg e]
      simp only [List.getElem_map, List.getElem_range]
      by_cases h3 : i < k
      · rw [if_pos h3, if_pos (by omega)]
      · rw [if_neg h3, if_neg (by omega)]
theorem mix_skip (k : Nat) (h : l.getD k d = d) : mix d l (k + 1) = mix d l k := by
  unfold mix
  apply List.map_congr_left
  intro i _
  by_cases e : i = k
  · subst e
    rw [if_pos (by omega), if_neg (by omega), h]
  · by_cases h3 : i < k
    · rw [if_pos h3, if_pos (by omega)]
    · rw [if_neg h3, if_neg (by omega)]
end
/-- What Save answers. -/
def E0 : ByteArray := ByteArray.empty
noncomputable def bootL (s : LS) : List LR := if 0 < s.ep then [⟨0, s.ep, 0, E0, noMan⟩] else []
def taskL (s : LS) (i : Nat) : List LR := if s.done.getD i false = true then [⟨1, 0, 0, E0, s.ms.getD i noMan⟩] else if s.te.getD i 0 ≠ 0 then [⟨2, i, s.te.getD i 0, E0, noMan⟩] else []
def partL (s : LS) (i : Nat) : List LR := if s.has.getD i false = true then [⟨4, i, 0, s.res.getD i E0, noMan⟩] else if s.pe.getD i 0 ≠ 0 then [⟨5, i, s.pe.getD i 0, E0, noMan⟩] else []
def comL (s : LS) (i : Nat) : List LR := if s.com.getD i false = true then [⟨6, i, 0, E0, noMan⟩] else []
def endL (s : LS) : List LR := if s.fin ≠ 0 then [⟨7, s.fin, s.er, E0, noMan⟩] else []
noncomputable def outL (s : LS) : List LR := bootL s ++ many (taskL s) s.done.length ++ many (partL s) s.has.length
noncomputable def saveP (s : LS) : List LR := outL s ++ many (comL s) s.has.length ++ endL s
/-- What holds of a state that records have made. -/
structure Reach (t p : Nat) (n : Int) (s : LS) : Prop where
  ok : Ok s
  lt : s.done.length = t
  lp : s.has.length = p
  sn : s.n = n
  ep : 0 ≤ s.ep ∧ s.ep ≤ 2147483647
  td : ∀ i, i < t → s.done.getD i false = true → right (s.ms.getD i noMan) p n = true ∧ (s.ms.getD i noMan).task = (i : Nat) ∧ s.te.getD i 0 = 0
  tn : ∀ i, i < t → s.done.getD i false = false → s.ms.getD i noMan = noMan
  te : ∀ i, i < t → 0 ≤ s.te.getD i 0 ∧ s.te.getD i 0 ≤ 255
  ph : ∀ i, i < p → s.has.getD i false = true → s.pe.getD i 0 = 0 ∧ (s.res.getD i E0).size ≤ 1048576
  pn : ∀ i, i < p → s.has.getD i false = false → s.res.getD i E0 = E0
  pe : ∀ i, i < p → 0 ≤ s.pe.getD i 0 ∧ s.pe.getD i 0 ≤ 255
  com : true ∈ s.com → false ∉ s.has
  fin : (s.fin = 0 ∧ s.er = 0) ∨ (1 ≤ s.fin ∧ s.fin ≤ 3 ∧ (s.er = 0 ↔ s.fin = 1) ∧ 0 ≤ s.er ∧ s.er ≤ 255 ∧ (s.fin = 1 → false ∉ s.com) ∧ (s.fin ≠ 1 → true ∉ s.com))
theorem mem_set_true {l : List Bool} {k : Nat} {b x : Bool} (h : x ∈ l.set k b) : x ∈ l ∨ x = b := List.mem_or_eq_of_mem_set h
theorem Reach.step {t p : Nat} {n : Int} {s : LS} {r : LR} (h : Reach t p n s) (hs : Slim r.m) (h0 : (applyP s r).2 = 0) : Reach t p n (applyP s r).1 := by
  have hok := h.ok.apply hs (r := r)
  have hb := did_range h0
  unfold badR at hb
  have hd := apply_did h0
  have hlm := h.ok.lm
  have hlt := h.ok.lt
  have hlr := h.ok.lr
  have hlp := h.ok.lp
  have hlc := h.ok.lc
  have et := h.lt
  have ep := h.lp
  generalize (applyP s r).1 = s' at hok hd
  clear h0
  cases hd with
  | boot hk hl => exact ⟨hok, h.lt, h.lp, h.sn, ⟨by have := h.ep; dsimp only; omega, by dsimp only; omega⟩, h.td, h.tn, h.te, h.ph, h.pn, h.pe, h.com, h.fin⟩
  | done a hk hf hr ht ha he =>
    refine ⟨hok, by simpa using h.lt, h.lp, h.sn, h.ep, fun i hi hd => ?_, fun i hi hd => ?_, h.te, h.ph, h.pn, h.pe, h.com, h.fin⟩
    · dsimp only at hd ⊢
      by_cases e : a = i
      · subst e
        rw [getD_set_self _ _ _ _ (by omega), ← h.lp, ← h.sn]
        exact ⟨hr, ht, he⟩
      · rw [getD_set_ne' _ _ _ e] at hd ⊢
        exact h.td i hi hd
    · dsimp only at hd ⊢
      by_cases e : a = i
      · subst e
        rw [getD_set_self _ _ _ _ (by omega)] at hd
        cases hd
      · rw [getD_set_ne' _ _ _ e] at hd ⊢
        exact h.tn i hi hd
  | taskErr a hk hf ha hl he hd0 ht0 =>
    refine ⟨hok, h.lt, h.lp, h.sn, h.ep, fun i hi hd => ?_, h.tn, fun i hi => ?_, h.ph, h.pn, h.pe, h.com, h.fin⟩
    · dsimp only at hd ⊢
      by_cases e : a = i
      · subst e
        rw [hd0] at hd
        cases hd
      · rw [getD_set_ne' _ _ _ e]
        exact h.td i hi hd
    · dsimp only
      by_cases e : a = i
      · subst e
        rw [getD_set_self _ _ _ _ (by omega)]
        omega
      · rw [getD_set_ne' _ _ _ e]
        exact h.te i hi
  | lost a hk hf ha hl hd0 =>
    refine ⟨hok, by simpa using h.lt, h.lp, h.sn, h.ep, fun i hi hd => ?_, fun i hi hd => ?_, h.te, h.ph, h.pn, h.pe, h.com, h.fin⟩
    · dsimp only at hd ⊢
      by_cases e : a = i
      · subst e
        rw [getD_set_self _ _ _ _ (by omega)] at hd
        cases hd
      · rw [getD_set_ne' _ _ _ e] at hd ⊢
        exact h.td i hi hd
    · dsimp only at hd ⊢
      by_cases e : a = i
      · subst e
        rw [getD_set_self _ _ _ _ (by omega)]
      · rw [getD_set_ne' _ _ _ e] at hd ⊢
        exact h.tn i hi hd
  | result a hk hf ha hl ht0 hh hp0 =>
    have hnc : true ∉ s.com := fun hc => by
      have := getD_false_mem (h.com hc) hl
      rw [hh] at this
      cases this
    refine ⟨hok, h.lt, by simpa using h.lp, h.sn, h.ep, ?_, h.tn, h.te, fun i hi hd => ?_, fun i hi hd => ?_, h.pe, fun hc => absurd hc hnc, h.fin⟩
    · exact h.td
    · dsimp only at hd ⊢
      by_cases e : a = i
      · subst e
        rw [getD_set_self _ _ _ _ (by omega)]
        exact ⟨hp0, ht0⟩
      · rw [getD_set_ne' _ _ _ e] at hd ⊢
        exact h.ph i hi hd
    · dsimp only at hd ⊢
      by_cases e : a = i
      · subst e
        rw [getD_set_self _ _ _ _ (by omega)] at hd
        cases hd
      · rw [getD_set_ne' _ _ _ e] at hd ⊢
        exact h.pn i hi hd
  | partErr a hk hf ha hl he hh hp0 =>
    refine ⟨hok, h.lt, h.lp, h.sn, h.ep, h.td, h.tn, h.te, fun i hi hd => ?_, h.pn, fun i hi => ?_, h.com, h.fin⟩
    · dsimp only at hd ⊢
      by_cases e : a = i
      · subst e
        rw [hh] at hd
        cases hd
      · rw [getD_set_ne' _ _ _ e]
        exact h.ph i hi hd
    · dsimp only
      by_cases e : a = i
      · subst e
        rw [getD_set_self _ _ _ _ (by omega)]
        omega
      · rw [getD_set_ne' _ _ _ e]
        exact h.pe i hi
  | commit a hk hf ha hl hh hc0 =>
    refine ⟨hok, h.lt, h.lp, h.sn, h.ep, h.td, h.tn, h.te, h.ph, h.pn, h.pe, fun _ => hh, .inl ?_⟩
    rcases h.fin with h1 | h1
    · exact h1
    · omega
  | fin hk hf h1 h3 he hc1 hc2 => exact ⟨hok, h.lt, h.lp, h.sn, h.ep, h.td, h.tn, h.te, h.ph, h.pn, h.pe, h.com, .inr ⟨h1, h3, he, by dsimp only; omega, by dsimp only; omega, hc1, hc2⟩⟩
theorem Reach.any {t p : Nat} {n : Int} {s : LS} {r : LR} (h : Reach t p n s) (hs : Slim r.m) : Reach t p n (applyP s r).1 := by
  by_cases h0 : (applyP s r).2 = 0
  · exact h.step hs h0
  · rw [applyP_no h0]; exact h
/-- A state half made. -/
def st (s : LS) (ep : Int) (a b c : Nat) : LS := ⟨s.n, ep, mix false s.done a, mix noMan s.ms a, mix 0 s.te a, mix false s.has b, mix E0 s.res b, mix 0 s.pe b, mix false s.com c, 0, 0⟩
theorem applyP_meth {s : LS} {k n e : Int} {t : ByteArray} {m : Man} (hk : 1 ≤ k ∧ k ≤ 7) (hn : 0 ≤ n ∧ n ≤ 2147483647) (he : 0 ≤ e ∧ e ≤ 255) (hf : s.fin = 0) (hm : mostP s ⟨k, n, e, t, m⟩ < 0 ∨ n < mostP s ⟨k, n, e, t, m⟩) : applyP s ⟨k, n, e, t, m⟩ = methP s ⟨k, n, e, t, m⟩ := by
  unfold applyP
  rw [if_neg (by unfold badR; dsimp only; omega), if_neg (by dsimp only; omega), if_neg (by omega), if_neg (by dsimp only at hm ⊢; omega)]
theorem goes_boot {t p : Nat} {n : Int} {s : LS} (h : Reach t p n s) : Goes (st s 0 0 0 0) (bootL s) (st s s.ep 0 0 0) := by
  have := h.ep
  unfold bootL
  split
  · refine Goes.one ?_
    unfold applyP
    rw [if_neg (by unfold badR; dsimp only; omega), if_pos (by rfl), if_neg (by dsimp only [st]; omega)]
    rfl
  · rw [show s.ep = 0 by omega]; exact Goes.nil _
theorem goes_task {t p : Nat} {n : Int} {s : LS} (h : Reach t p n s) (i : Nat) (hi : i < t) : Goes (st s s.ep i 0 0) (taskL s i) (st s s.ep (i + 1) 0 0) := by
  have et := h.lt
  have ep := h.lp
  have hlm := h.ok.lm
  have hlt := h.ok.lt
  have hfew := h.ok.few
  unfold taskL
  split
  · rename_i hd
    obtain ⟨h1, h2, h3⟩ := h.td i hi hd
    refine Goes.one ?_
    rw [applyP_meth (by omega) (by omega) (by omega) rfl (.inl (by unfold mostP; simp))]
    unfold methP doneP
    dsimp only
    rw [h2, Int.toNat_natCast]
    have e1 : (st s s.ep i 0 0).has.length = p := by simp [st, mix_length, ep]
    have e2 : (st s s.ep i 0 0).done.length = t := by simp [st, mix_length, et]
    have e3 : (st s s.ep i 0 0).n = n := h.sn
    have e4 : (st s s.ep i 0 0).te.getD i 0 = 0 := by
      show (mix 0 s.te i).getD i 0 = 0
      rw [mix_getD _ _ _ _ (by omega), if_neg (by omega)]
    have e5 : (st s s.ep i 0 0).done.getD i false = false := by
      show (mix false s.done i).getD i false = false
      rw [mix_getD _ _ _ _ (by omega), if_neg (by omega)]
    rw [if_pos rfl, e1, e2, e3, if_neg (fun h9 => h9.elim (fun h9 => by rw [h1] at h9; cases h9) (fun h9 => by omega)), if_neg (fun h9 => h9.elim (fun h9 => h9 e4) (fun h9 => by rw [e5] at h9; exact absurd h9.1 (by decide)))]
    unfold st
    dsimp only
    have x1 := mix_set false s.done i (by omega)
    rw [hd] at x1
    rw [x1, mix_set noMan s.ms i (by omega), mix_skip 0 s.te i h3, h.sn]
  · rename_i hd
    have hd := not_true hd
    have hm := h.tn i hi hd
    split
    · rename_i hte
      have := h.te i hi
      refine Goes.one ?_
      have e2 : (st s s.ep i 0 0).done.length = t := by simp [st, mix_length, et]
      rw [applyP_meth (by omega) (by omega) (by omega) rfl (.inr (by unfold mostP; simp [e2]; omega))]
      unfold methP taskErrP
      dsimp only
      have e4 : (st s s.ep i 0 0).te.getD i 0 = 0 := by
        show (mix 0 s.te i).getD i 0 = 0
        rw [mix_getD _ _ _ _ (by omega), if_neg (by omega)]
      have e5 : (st s s.ep i 0 0).done.getD i false = false := by
        show (mix false s.done i).getD i false = false
        rw [mix_getD _ _ _ _ (by omega), if_neg (by omega)]
      rw [Int.toNat_natCast, if_neg (by decide), if_pos rfl, if_neg hte, if_neg (fun h9 => h9.elim (fun h9 => by rw [e5] at h9; cases h9) (fun h9 => h9 e4))]
      unfold st
      dsimp only
      rw [mix_skip false s.done i hd, mix_skip noMan s.ms i hm, mix_set 0 s.te i (by omega)]
    · rename_i hte
      have e : st s s.ep (i + 1) 0 0 = st s s.ep i 0 0 := by
        unfold st
        rw [mix_skip false s.done i hd, mix_skip noMan s.ms i hm, mix_skip 0 s.te i (by omega)]
      rw [e]
      exact Goes.nil _
theorem goes_part {t p : Nat} {n : Int} {s : LS} (h : Reach t p n s) (i : Nat) (hi : i < p) : Goes (st s s.ep t i 0) (partL s i) (st s s.ep t (i + 1) 0) := by
  have et := h.lt
  have ep := h.lp
  have hlr := h.ok.lr
  have hlp := h.ok.lp
  have hfew := h.ok.fewp
  have e2 : (st s s.ep t i 0).has.length = p := by simp [st, mix_length, ep]
  have e4 : (st s s.ep t i 0).pe.getD i 0 = 0 := by
    show (mix 0 s.pe i).getD i 0 = 0
    rw [mix_getD _ _ _ _ (by omega), if_neg (by omega)]
  have e5 : (st s s.ep t i 0).has.getD i false = false := by
    show (mix false s.has i).getD i false = false
    rw [mix_getD _ _ _ _ (by omega), if_neg (by omega)]
  unfold partL
  split
  · rename_i hd
    obtain ⟨h1, h2⟩ := h.ph i hi hd
    refine Goes.one ?_
    rw [applyP_meth (by omega) (by omega) (by omega) rfl (.inr (by unfold mostP; simp [e2]; omega))]
    unfold methP resultP
    dsimp only
    rw [Int.toNat_natCast, if_neg (by decide), if_neg (by decide), if_neg (by decide), if_pos rfl, if_neg (by omega), if_neg (fun h9 => h9.elim (fun h9 => by rw [e5] at h9; cases h9) (fun h9 => h9 e4))]
    unfold st
    dsimp only
    have x1 := mix_set false s.has i (by omega)
    rw [hd] at x1
    rw [x1, mix_set E0 s.res i (by omega), mix_skip 0 s.pe i h1]
  · rename_i hd
    have hd := not_true hd
    have hm := h.pn i hi hd
    split
    · rename_i hte
      have := h.pe i hi
      refine Goes.one ?_
      rw [applyP_meth (by omega) (by omega) (by omega) rfl (.inr (by unfold mostP; simp [e2]; omega))]
      unfold methP partErrP
      dsimp only
      rw [Int.toNat_natCast, if_neg (by decide), if_neg (by decide), if_neg (by decide), if_neg (by decide), if_pos rfl, if_neg hte, if_neg (fun h9 => h9.elim (fun h9 => by rw [e5] at h9; cases h9) (fun h9 => h9 e4))]
      unfold st
      dsimp only
      rw [mix_skip false s.has i hd, mix_skip E0 s.res i hm, mix_set 0 s.pe i (by omega)]
    · rename_i hte
      have e : st s s.ep t (i + 1) 0 = st s s.ep t i 0 := by
        unfold st
        rw [mix_skip false s.has i hd, mix_skip E0 s.res i hm, mix_skip 0 s.pe i (by omega)]
      rw [e]
      exact Goes.nil _
theorem goes_com {t p : Nat} {n : Int} {s : LS} (h : Reach t p n s) (i : Nat) (hi : i < p) : Goes (st s s.ep t p i) (comL s i) (st s s.ep t p (i + 1)) := by
  have ep := h.lp
  have hlc := h.ok.lc
  have hfew := h.ok.fewp
  have e2 : (st s s.ep t p i).has.length = p := by simp [st, mix_length, ep]
  have e5 : (st s s.ep t p i).com.getD i false = false := by
    show (mix false s.com i).getD i false = false
    rw [mix_getD _ _ _ _ (by omega), if_neg (by omega)]
  unfold comL
  split
  · rename_i hd
    refine Goes.one ?_
    rw [applyP_meth (by omega) (by omega) (by omega) rfl (.inr (by unfold mostP; simp [e2]; omega))]
    unfold methP commitP
    dsimp only
    have e6 : (st s s.ep t p i).has = s.has := mix_all false s.has p (by omega)
    rw [Int.toNat_natCast, if_neg (by decide), if_neg (by decide), if_neg (by decide), if_neg (by decide), if_neg (by decide), if_pos rfl, e6, if_neg (h.com (getD_true_mem hd)), if_neg (by rw [e5]; decide)]
    unfold st
    dsimp only
    have x1 := mix_set false s.com i (by omega)
    rw [hd] at x1
    rw [x1, mix_all false s.has p (by omega)]
  · rename_i hd
    have e : st s s.ep t p (i + 1) = st s s.ep t p i := by
      unfold st
      rw [mix_skip false s.com i (not_true hd)]
    rw [e]
    exact Goes.nil _
theorem goes_end {t p : Nat} {n : Int} {s : LS} (h : Reach t p n s) : Goes (st s s.ep t p p) (endL s) s := by
  have et := h.lt
  have ep := h.lp
  have hlm := h.ok.lm
  have hlt := h.ok.lt
  have hlr := h.ok.lr
  have hlp := h.ok.lp
  have hlc := h.ok.lc
  have e : st s s.ep t p p = { s with fin := 0, er := 0 } := by
    unfold st
    rw [mix_all false s.done t (by omega), mix_all noMan s.ms t (by omega), mix_all 0 s.te t (by omega), mix_all false s.has p (by omega), mix_all E0 s.res p (by omega), mix_all 0 s.pe p (by omega), mix_all false s.com p (by omega)]
  rw [e]
  unfold endL
  rcases h.fin with ⟨h1, h2⟩ | ⟨h1, h2, h3, h4, h5, h6, h7⟩
  · rw [if_neg (by omega)]
    have e9 : ({ s with fin := 0, er := 0 } : LS) = s := by
      obtain ⟨n0, ep0, d0, m0, t0, ha0, r0, p0, c0, f0, g0⟩ := s
      dsimp only at h1 h2
      subst h1 h2
      rfl
    rw [e9]
    exact Goes.nil _
  · rw [if_pos (by omega)]
    refine Goes.one ?_
    rw [applyP_meth (by omega) (by omega) (by omega) rfl (.inl (by unfold mostP; simp))]
    unfold methP endP
    dsimp only
    rw [if_neg (by decide), if_neg (by decide), if_neg (by decide), if_neg (by decide), if_neg (by decide), if_neg (by decide), if_neg (fun h9 => h9.elim (fun h9 => by omega) (fun h9 => h9.elim (fun h9 => by omega) (fun h9 => h9 h3))), if_neg (fun h9 => h9.elim (fun h9 => h6 h9.1 h9.2) (fun h9 => h7 h9.1 h9.2))]
theorem save_goes {t p : Nat} {n : Int} {s : LS} (h : Reach t p n s) : Goes (st s 0 0 0 0) (saveP s) s := by
  have a := goes_boot h
  have b := Goes.many (F := fun i => st s s.ep i 0 0) (f := taskL s) t (fun i hi => goes_task h i hi)
  have c := Goes.many (F := fun i => st s s.ep t i 0) (f := partL s) p (fun i hi => goes_part h i hi)
  have d := Goes.many (F := fun i => st s s.ep t p i) (f := comL s) p (fun i hi => goes_com h i hi)
  have e := goes_end h
  rw [← h.lt] at b
  have e1 : s.has.length = p := h.lp
  unfold saveP outL
  rw [e1]
  rw [h.lt] at b ⊢
  exact (((a.append b).append c).append d).append e
end Go.Proofs.Ytmlemichkeomjaa.LedP

/- Rows of records of one's own. -/
set_option linter.unusedVariables false
set_option linter.unusedSimpArgs false
namespace Go.Proofs.Ytmlemichkeomjaa.LedW
open Go.RowKit Go.Proofs.Ytmlemichkeomjaa.Base Go.Proofs.Ytmlemichkeomjaa.MendW Go.Proofs.Ytmlemichkeomjaa.ManP Go.Proofs.Ytmlemichkeomjaa.ManW Go.Proofs.Ytmlemichkeomjaa.LedP
theorem info_recs : (Try.prog.info? 53).map (fun i => (i.zero, i.size, i.bytes)) = some (some (.agg #[.int .i64 0, .int .i64 0, .int .i64 0, .string ByteArray.empty, .int .i64 0, .int .i64 0, .slice none 0 0, .slice none 0 0, .slice none 0 0]), 9, 128) := by kernel_rfl
section
variable {P : Program} {ops : Array Oper} {rest : List Oper} {o : Oper} {a : Act} {Q : Exit → Act → World → Prop} {κ : Type} [DecidableEq κ]
/-- append, out of any source, to a row of elements of any size. -/
theorem run_app_wide {W : World} (base : Nat) (t ty e : TypeId) (size : Nat) (z : Value) (bytes : Nat)
    (ht : P.underlying t = some (.slice e)) (hinfo : (P.info? e).map (fun i => (i.zero, i.size, i.bytes)) = some (some z, size, bytes)) (hz : z.cells.size = size) (hs0 : 0 < size)
    (v : Value) (xs : List Value) (n m c : Nat) (B : Option Addr) (news : List Value) (hm : news.length = m * size) (hsrc : SrcAt W B news) (h1 : ∀ u ∈ news, u.oneCell' = true)
    (HO : W.ownsRow base e size v n xs) (hbase : base ≤ W.heap.size) (hl : (n + m) * bytes ≤ 140737488355328) (hlen : n + m ≤ 140737488355328) :
    ∃ v1 w1, (Builtin.append_ #[t, t] ty #[v, .slice B m c]).run P W = .ok v1 w1 ∧ w1.ownsRow base e size v1 (n + m) (xs ++ news) ∧ W.grownBy w1 v.ownBlock ∧ (v1.ownBlock = v.ownBlock ∨ v1.ownBlock = some W.heap.size) := by
  obtain ⟨i0, hi, hzz⟩ := Option.map_eq_some_iff.1 hinfo
  simp only [Prod.mk.injEq] at hzz
  obtain ⟨hz0, hz1, hz2⟩ := hzz
  by_cases hB : ∃ b off, B = some ⟨b, off, none⟩ ∧ ∀ j u, news[j]? = some u → W.cell? ⟨b, off + j, none⟩ = some u
  · obtain ⟨b, off, rfl, hc⟩ := hB
    obtain ⟨v1, w1, hr, hown, hg, _, hat⟩ := run_append_own_at (P := P) W base t ty e i0 z size bytes ht hi hz0 hz1 hz2 hz hs0 v n xs HO ⟨b, off, none⟩ m c news hm
      (fun j u hj => by rw [show (⟨b, off, none⟩ : Addr).add j = ⟨b, off + j, none⟩ by unfold Addr.add; split <;> simp_all]; exact hc j u hj) h1 (by simp only [maxLen]; omega) hl hbase
    exact ⟨v1, w1, hr, hown, hg, hat⟩
  · have h0 : news = [] := hsrc.resolve_right hB
    subst h0
    obtain rfl : m = 0 := by
      have h2 : 0 = m * size := by simpa using hm
      rcases Nat.mul_eq_zero.1 h2.symm with h3 | h3
      · exact h3
      · omega
    refine ⟨v, W, ?_, by simpa using HO, ⟨rfl, rfl, rfl, Nat.le_refl _, fun _ _ _ => rfl⟩, .inl rfl⟩
    rcases HO.2 with ⟨rfl, rfl⟩ | ⟨g, cap, cur, rfl, _, _, hnc, _⟩
    · cases B <;> simp [Builtin.append_, run_underlying ht, sizeOf, typeInfo, hi, Builtin.lenOf, Builtin.firstCells, loadCells, loadCellsFrom, storeCells]
    · cases B <;> simp [Builtin.append_, run_underlying ht, sizeOf, typeInfo, hi, Builtin.lenOf, Builtin.firstCells, hnc, loadCells, loadCellsFrom, storeCells]
theorem pool_wide {W : World} {lo : Nat} {F : κ → Ent} (hgd : o.guard = none) (s x : Operand) (t e : TypeId) (size : Nat) (z : Value) (bytes : Nat)
    (ho : o.op = .call { callee := .builtin .append, args := #[s, x], argTypes := #[t, t] })
    (ht : P.underlying t = some (.slice e)) (hinfo : (P.info? e).map (fun i => (i.zero, i.size, i.bytes)) = some (some z, size, bytes)) (hz : z.cells.size = size) (hs0 : 0 < size)
    (key : κ) {v : Value} {n : Nat} {xs : List Value} (hE : F key = ⟨e, size, v, n, xs⟩) (m c : Nat) (B : Option Addr) (news : List Value) (hs : a.eval s = v) (hx : a.eval x = .slice B m c) (hm : news.length = m * size) (hsrc : SrcAt W B news) (h1 : ∀ u ∈ news, u.oneCell' = true)
    (HP : Pool W lo F) (hlo : lo ≤ W.heap.size) (hl : (n + m) * bytes ≤ 140737488355328) (hlen : n + m ≤ 140737488355328)
    (h : ∀ A1 c1 w1, Pool w1 lo (up F key ⟨e, size, .slice A1 (n + m) c1, n + m, xs ++ news⟩) → W.grownBy w1 v.ownBlock → ((Value.slice A1 (n + m) c1).ownBlock = v.ownBlock ∨ (Value.slice A1 (n + m) c1).ownBlock = some W.heap.size) → wpList P ops Q rest (a.put o.dst (.slice A1 (n + m) c1)) w1) :
    wpList P ops Q (o :: rest) a W := by
  have HO := HP.own key
  rw [hE] at HO
  obtain ⟨v1, w1, hr, hown, hg, hat⟩ := run_app_wide (P := P) lo t o.type e size z bytes ht hinfo hz hs0 v xs n m c B news hm hsrc h1 HO hlo hl hlen
  obtain ⟨A1, c1, rfl⟩ := own_slice hown
  refine wpList_plain hgd fun K hK => ?_
  unfold Oper.wp execOp
  simp only [ho, resolve, invoke, builtin, Sem.run_bind, Sem.run_pure, Result.andThen_ok, List.map_toArray, List.map_cons, List.map_nil, hs, hx, hr]
  exact hK _ _ (h A1 c1 w1 (HP.app key (by rw [hE]; exact hg) hown (by rw [hE]; exact hat)) hg hat)
end
/-- Records as values. -/
def rcells (r : LR) (v : MV) : List Value := [.int .i64 r.kind, .int .i64 r.n, .int .i64 r.e, .string r.text, .int .i64 r.m.task, .int .i64 r.m.att, .slice v.A2 r.m.sz.length v.c2, .slice v.A3 r.m.sm.length v.c3, .slice v.A4 r.m.hm.length v.c4]
theorem rcells_length (r : LR) (v : MV) : (rcells r v).length = 9 := rfl
def flatR : List (LR × MV) → List Value
  | [] => []
  | e :: l => rcells e.1 e.2 ++ flatR l
theorem flatR_append : ∀ (a b : List (LR × MV)), flatR (a ++ b) = flatR a ++ flatR b
  | [], _ => rfl
  | e :: l, b => by rw [List.cons_append, flatR, flatR, flatR_append l b, List.append_assoc]
theorem flatR_one (r : LR) (v : MV) : flatR [(r, v)] = rcells r v := List.append_nil _
theorem flatR_length : ∀ (es : List (LR × MV)), (flatR es).length = es.length * 9
  | [] => rfl
  | e :: l => by rw [flatR, List.length_append, flatR_length l, rcells_length, List.length_cons]; omega
theorem flatR_get : ∀ (es : List (LR × MV)) (j q : Nat) (h : j < es.length), q < 9 → (flatR es)[j * 9 + q]? = (rcells es[j].1 es[j].2)[q]?
  | e :: l, 0, q, _, hq => by rw [flatR, Nat.zero_mul, Nat.zero_add, List.getElem?_append_left (by rw [rcells_length]; exact hq)]; rfl
  | e :: l, j + 1, q, h, hq => by
    rw [flatR, List.getElem?_append_right (by rw [rcells_length]; omega), rcells_length, show (j + 1) * 9 + q - 9 = j * 9 + q by omega, flatR_get l j q (by simpa using h) hq]
    rfl
theorem flatR_cell : ∀ (es : List (LR × MV)), ∀ u ∈ flatR es, u.oneCell' = true
  | [], u, hu => by cases hu
  | e :: l, u, hu => by
    rcases List.mem_append.1 (show u ∈ rcells e.1 e.2 ++ flatR l from hu) with h | h
    · simp only [rcells, List.mem_cons, List.not_mem_nil, or_false] at h
      rcases h with rfl | rfl | rfl | rfl | rfl | rfl | rfl | rfl | rfl <;> rfl
    · exact flatR_cell l u h
theorem ManB.no (B : Nat → Prop) (w : World) : ManB B w noMV noMan := fun w' _ => ManV.no w'
/-- Two rows of records, out and commits. -/
structure Outs (lo : Nat) (w : World) (F : Nat → Ent) (v3 v4 : Value) (eo ec : List (LR × MV)) : Prop where
  pool : Pool w lo F
  ll : lo ≤ w.heap.size
  out : F 0 = ⟨53, 9, v3, eo.length, flatR eo⟩
  com : F 1 = ⟨53, 9, v4, ec.length, flatR ec⟩
  man : ∀ e ∈ eo, ManB (Safe lo F w.heap.size) w e.2 e.1.m
  manc : ∀ e ∈ ec, ManB (Safe lo F w.heap.size) w e.2 e.1.m
section
variable {lo : Nat} {w w' : World} {F : Nat → Ent} {v3 v4 : Value} {eo ec : List (LR × MV)}
theorem Outs.start (w : World) : ∃ F, Outs w.heap.size w F (.slice none 0 0) (.slice none 0 0) [] [] := by
  refine ⟨fun k => ⟨53, 9, .slice none 0 0, 0, []⟩, ⟨fun k => ⟨rfl, .inl ⟨rfl, rfl⟩⟩, fun a b g h => by simp [Value.ownBlock] at h⟩, Nat.le_refl _, rfl, rfl, (fun e h => by cases h), (fun e h => by cases h)⟩
theorem safe_mono {ml n n' : Nat} {F : Nat → Ent} (hn : n ≤ n') {k : Nat} (h : Safe ml F n k) : Safe ml F n' k := ⟨⟨Nat.lt_of_lt_of_le h.1.1 hn, h.1.2⟩, h.2⟩
theorem Outs.below (h : Outs lo w F v3 v4 eo ec) (hb : Below w.heap.size w w') : Outs lo w' F v3 v4 eo ec :=
  ⟨h.pool.below hb, Nat.le_trans h.ll hb.size, h.out, h.com, fun e he => ((h.man e he).keep fun k hk => hb.block k hk.1.1).mono fun k hk => safe_mono hb.size hk, fun e he => ((h.manc e he).keep fun k hk => hb.block k hk.1.1).mono fun k hk => safe_mono hb.size hk⟩
theorem Outs.app0 (h : Outs lo w F v3 v4 eo ec) {v : Value} {m : Nat} {es : List (LR × MV)} (hm : es.length = m) (HP : Pool w' lo (up F 0 ⟨53, 9, v, eo.length + m, flatR eo ++ flatR es⟩)) (hg : w.grownBy w' v3.ownBlock)
    (hat : v.ownBlock = v3.ownBlock ∨ v.ownBlock = some w.heap.size) (hs : ∀ e ∈ es, ManB (Safe lo F w.heap.size) w e.2 e.1.m) :
    Outs lo w' (up F 0 ⟨53, 9, v, eo.length + m, flatR eo ++ flatR es⟩) v v4 (eo ++ es) ec := by
  have hv : (F 0).v = v3 := by rw [h.out]
  have keep : ∀ k, Safe lo F w.heap.size k → w'.heap[k]? = w.heap[k]? := fun k hk => hg.block k hk.1.1 fun e => hk.2 0 (by rw [hv]; exact e.symm)
  have safe : ∀ k, Safe lo F w.heap.size k → Safe lo (up F 0 ⟨53, 9, v, eo.length + m, flatR eo ++ flatR es⟩) w'.heap.size k := fun k hk => safe_chg hg.size (hat.imp (fun e => by rw [hv]; exact e) (fun e g hg => by rw [e] at hg; simp at hg; omega)) hk
  refine ⟨HP, Nat.le_trans h.ll hg.size, by rw [up_self, List.length_append, hm, flatR_append], (up_ne _ _ (by decide)).trans h.com, fun e he => ?_, fun e he => ((h.manc e he).keep keep).mono safe⟩
  rcases List.mem_append.1 he with he | he
  · exact ((h.man e he).keep keep).mono safe
  · exact ((hs e he).keep keep).mono safe
theorem Outs.app1 (h : Outs lo w F v3 v4 eo ec) {v : Value} {m : Nat} {es : List (LR × MV)} (hm : es.length = m) (HP : Pool w' lo (up F 1 ⟨53, 9, v, ec.length + m, flatR ec ++ flatR es⟩)) (hg : w.grownBy w' v4.ownBlock)
    (hat : v.ownBlock = v4.ownBlock ∨ v.ownBlock = some w.heap.size) (hs : ∀ e ∈ es, ManB (Safe lo F w.heap.size) w e.2 e.1.m) :
    Outs lo w' (up F 1 ⟨53, 9, v, ec.length + m, flatR ec ++ flatR es⟩) v3 v eo (ec ++ es) := by
  have hv : (F 1).v = v4 := by rw [h.com]
  have keep : ∀ k, Safe lo F w.heap.size k → w'.heap[k]? = w.heap[k]? := fun k hk => hg.block k hk.1.1 fun e => hk.2 1 (by rw [hv]; exact e.symm)
  have safe : ∀ k, Safe lo F w.heap.size k → Safe lo (up F 1 ⟨53, 9, v, ec.length + m, flatR ec ++ flatR es⟩) w'.heap.size k := fun k hk => safe_chg hg.size (hat.imp (fun e => by rw [hv]; exact e) (fun e g hg => by rw [e] at hg; simp at hg; omega)) hk
  refine ⟨HP, Nat.le_trans h.ll hg.size, (up_ne _ _ (by decide)).trans h.out, by rw [up_self, List.length_append, hm, flatR_append], fun e he => ((h.man e he).keep keep).mono safe, fun e he => ?_⟩
  rcases List.mem_append.1 he with he | he
  · exact ((h.manc e he).keep keep).mono safe
  · exact ((hs e he).keep keep).mono safe
/-- A manifest just made. -/
theorem Outs.made (h : Outs lo w F v3 v4 eo ec) {v : MV} {m : Man} (hm : ManNew w w' v m) : ManB (Safe lo F w'.heap.size) w' v m := by
  refine ManB.mono hm fun k hk => ⟨⟨hk.2, Nat.le_trans h.ll hk.1⟩, fun a e => ?_⟩
  have := (h.pool.lt a e).2
  omega
theorem Outs.src (h : Outs lo w F v3 v4 eo ec) : ∃ B c, v4 = .slice B ec.length c ∧ SrcAt w B (flatR ec) := by
  have ho := h.pool.own 1
  rw [h.com] at ho
  rcases ho.2 with ⟨h1, h2⟩ | ⟨g, cap, cur, h1, _⟩
  · have hl : ec.length = 0 := h2
    obtain rfl : ec = [] := List.eq_nil_of_length_eq_zero hl
    exact ⟨none, 0, h1, .inl rfl⟩
  · exact ⟨_, _, h1, .inr ⟨g, 0, rfl, fun j u hu => by rw [Nat.zero_add]; exact h.pool.cell 1 h.com h1 hu⟩⟩
theorem Outs.read (h : Outs lo w F v3 v4 eo ec) (hs : ∀ e ∈ eo, Slim e.1.m) : ∃ A c, v3 = .slice A eo.length c ∧ RecsV w A (eo.map Prod.fst) (fun j => (eo.getD j (⟨0, 0, 0, E0, noMan⟩, noMV)).2) := by
  have ho := h.pool.own 0
  rw [h.out] at ho
  have hgd : ∀ j (hj : j < eo.length), (eo.getD j (⟨0, 0, 0, E0, noMan⟩, noMV)).2 = eo[j].2 := fun j hj => by simp [List.getD_eq_getElem?_getD, hj]
  have hman : ∀ j (hj : j < (eo.map Prod.fst).length), ManV w (eo.getD j (⟨0, 0, 0, E0, noMan⟩, noMV)).2 (eo.map Prod.fst)[j].m := fun j hj => by
    have hj2 : j < eo.length := by simpa using hj
    rw [hgd j hj2, List.getElem_map]
    exact (h.man _ (List.getElem_mem hj2)).here
  have hfit : ∀ j (hj : j < (eo.map Prod.fst).length), (eo.map Prod.fst)[j].m.sz.length ≤ maxLen ∧ (eo.map Prod.fst)[j].m.sm.length ≤ maxLen ∧ (eo.map Prod.fst)[j].m.hm.length ≤ maxLen ∧ ∀ i (h2 : i < (eo.map Prod.fst)[j].m.hm.length), (eo.map Prod.fst)[j].m.hm[i].length ≤ maxLen := fun j hj => by
    have hj2 : j < eo.length := by simpa using hj
    have hsl := hs _ (List.getElem_mem hj2)
    have e : (eo.map Prod.fst)[j] = eo[j].1 := List.getElem_map _
    rw [e]
    have h1 := hsl.sz
    have h2 := hsl.sm
    have h3 := hsl.hm
    simp only [maxLen]
    exact ⟨by omega, by omega, by omega, fun i hi => by have := hsl.row _ (List.getElem_mem hi); omega⟩
  rcases ho.2 with ⟨h1, h2⟩ | ⟨g, cap, cur, h1, _⟩
  · have hl : eo.length = 0 := h2
    obtain rfl : eo = [] := List.eq_nil_of_length_eq_zero hl
    exact ⟨none, 0, h1, .inl rfl, hman, hfit⟩
  · refine ⟨_, _, h1, .inr ⟨g, 0, rfl, fun j hj => ?_⟩, hman, hfit⟩
    have hj2 : j < eo.length := by simpa using hj
    have e : (eo.map Prod.fst)[j] = eo[j].1 := List.getElem_map _
    rw [e, hgd j hj2]
    have c : ∀ q (hq : q < 9) u, (rcells eo[j].1 eo[j].2)[q]? = some u → w.cell? ⟨g, 0 + j * 9 + q, none⟩ = some u := fun q hq u hu => by
      rw [Nat.zero_add]
      exact h.pool.cell 0 h.out h1 (by rw [flatR_get eo j q hj2 hq]; exact hu)
    exact ⟨c 0 (by omega) _ rfl, c 1 (by omega) _ rfl, c 2 (by omega) _ rfl, c 3 (by omega) _ rfl, c 4 (by omega) _ rfl, c 5 (by omega) _ rfl, c 6 (by omega) _ rfl, c 7 (by omega) _ rfl, c 8 (by omega) _ rfl⟩
end
end Go.Proofs.Ytmlemichkeomjaa.LedW

/- ledger.Bytes walked. -/
set_option linter.unusedVariables false
set_option linter.unusedSimpArgs false
namespace Go.Proofs.Ytmlemichkeomjaa.LedW
open Go.RowKit Go.Proofs.Ytmlemichkeomjaa.Base Go.Proofs.Ytmlemichkeomjaa.TapeP Go.Proofs.Ytmlemichkeomjaa.TapeW Go.Proofs.Ytmlemichkeomjaa.MendW Go.Proofs.Ytmlemichkeomjaa.ManP Go.Proofs.Ytmlemichkeomjaa.ManW Go.Proofs.Ytmlemichkeomjaa.LedP
/-- A record's bytes. -/
def encM (r : LR) : List UInt8 := if r.kind = 1 then bytesM r.m else []
def encR (r : LR) : List UInt8 := numI r.kind ++ numI r.n ++ numI r.e ++ text r.text.data.toList ++ text (encM r)
theorem rows_le' (N q : Nat) : ∀ (A B : List Int) (H : List (List Int)), H.length ≤ N → (∀ l ∈ H, l.length ≤ q) → (rows A B H).length ≤ N * (q + 3) := by
  intro A B H
  induction H generalizing A B N with
  | nil => intro _ _; cases A <;> cases B <;> simp [rows]
  | cons h H ih =>
    intro hN hq
    obtain ⟨N, rfl⟩ : ∃ k, N = k + 1 := ⟨N - 1, by simp at hN; omega⟩
    have h1 := hq h (by simp)
    match A, B with
    | a :: A, b :: B =>
      have h2 := ih N A B (by simpa using hN) (fun l hl => hq l (by simp [hl]))
      simp only [rows, List.length_cons, List.length_append]
      rw [Nat.add_mul, Nat.one_mul]; omega
    | [], _ => simp [rows]
    | _ :: _, [] => simp [rows]
theorem slim_list {m : Man} (h : Slim m) : (listL m).length ≤ 1000 := by
  have := rows_le' 30 30 m.sz m.sm m.hm h.hm h.row
  simp only [listL, List.length_cons]
  omega
theorem slim_bytes {m : Man} (h : Slim m) : (bytesM m).length ≤ 8000 := by
  unfold bytesM
  split
  · rename_i hf
    have h1 := enc_le hf.2.2
    have h2 := slim_list h
    omega
  · simp
theorem encM_le {r : LR} (h : Slim r.m) : (encM r).length ≤ 8000 := by
  unfold encM
  split
  · exact slim_bytes h
  · simp
theorem encR_le {r : LR} (h : Slim r.m) (ht : r.text.size ≤ 10000000) : (encR r).length ≤ 24 + r.text.size + 8 + 8008 := by
  unfold encR
  have a := numI_length r.kind
  have b := numI_length r.n
  have c := numI_length r.e
  have d := text_length r.text (by omega)
  have e := encM_le h
  have f := text_length (str (encM r)) (by rw [str_size]; omega)
  rw [str_list, str_size] at f
  simp only [List.length_append]
  omega
theorem box_rec {W : World} {b : Nat} {T : TypeId} {r : LR} {v : MV} (h : W.heap[b]? = some (.cells #[.int .i64 r.kind, .int .i64 r.n, .int .i64 r.e, .string r.text, .int .i64 r.m.task, .int .i64 r.m.att, .slice v.A2 r.m.sz.length v.c2, .slice v.A3 r.m.sm.length v.c3, .slice v.A4 r.m.hm.length v.c4] T (0, 0))) : RecAt W b 0 r v :=
  ⟨by rw [cell_of_row _ _ _ _ _ _ h]; rfl, by rw [cell_of_row _ _ _ _ _ _ h]; rfl, by rw [cell_of_row _ _ _ _ _ _ h]; rfl, by rw [cell_of_row _ _ _ _ _ _ h]; rfl, by rw [cell_of_row _ _ _ _ _ _ h]; rfl, by rw [cell_of_row _ _ _ _ _ _ h]; rfl, by rw [cell_of_row _ _ _ _ _ _ h]; rfl, by rw [cell_of_row _ _ _ _ _ _ h]; rfl, by rw [cell_of_row _ _ _ _ _ _ h]; rfl⟩
set_option maxRecDepth 100000 in
set_option maxHeartbeats 2000000 in
/-- What ledger.Bytes lays, the manifest's bytes at hand. -/
theorem lbytes_any (r : LR) (v : MV) (w : World) (hv : ManV w v r.m) (hs : Slim r.m) (h0 : 0 ≤ r.kind ∧ 0 ≤ r.n ∧ 0 ≤ r.e) (ht : r.text.size ≤ 10000000) :
    Calls Try.prog 36 #[.agg #[.int .i64 r.kind, .int .i64 r.n, .int .i64 r.e, .string r.text, .int .i64 r.m.task, .int .i64 r.m.att, .slice v.A2 r.m.sz.length v.c2, .slice v.A3 r.m.sm.length v.c3, .slice v.A4 r.m.hm.length v.c4]] w fun e w' => e = .returned (.string (str (encR r))) ∧ Below w.heap.size w w' := by
  have KM := Lib.hid (fun W (h : ManV W v r.m) => bytes_any r.m v.A2 r.m.sz.length v.c2 v.A3 r.m.sm.length v.c3 v.A4 r.m.hm.length v.c4 W h.man.i2 rfl h.man.i3 rfl h.man.i4 rfl (by have := slim_list hs; omega) (by have := hs.sz; omega) (by have := hs.sm; omega) (by have := hs.hm; omega))
  obtain ⟨q0, q1, q2⟩ := h0
  have t0 : decide (r.kind < 0) = false := by simp; omega
  have t1 : decide (r.n < 0) = false := by simp; omega
  have t2 : decide (r.e < 0) = false := by simp; omega
  have n0 := numI_length r.kind
  have n1 := numI_length r.n
  have n2 := numI_length r.e
  have n3 := text_length r.text (by omega)
  have hml := encM_le hs
  have n4 := text_length (str (encM r)) (by rw [str_size]; omega)
  rw [str_list, str_size] at n4
  (have e1 : str (numI r.kind) ++ str (numI r.n) = str (numI r.kind ++ numI r.n) := (by rw [str_append]; rfl)); (have e2 : str (numI r.kind ++ numI r.n) ++ str (numI r.e) = str (numI r.kind ++ numI r.n ++ numI r.e) := (by rw [str_append]; rfl)); (have e3 : str (numI r.kind ++ numI r.n ++ numI r.e) ++ str (text r.text.data.toList) = str (numI r.kind ++ numI r.n ++ numI r.e ++ text r.text.data.toList) := (by rw [str_append]; rfl)); (have e4 : str (numI r.kind ++ numI r.n ++ numI r.e ++ text r.text.data.toList) ++ str (text (encM r)) = str (encR r) := (by rw [str_append]; rfl))
  have s1 : (str (numI r.kind)).size + (str (numI r.n)).size ≤ 9223372036854775807 := by rw [str_size, str_size]; omega
  have s2 : (str (numI r.kind) ++ str (numI r.n)).size + (str (numI r.e)).size ≤ 9223372036854775807 := by rw [e1, str_size, str_size, List.length_append]; omega
  have s3 : (str (numI r.kind) ++ str (numI r.n) ++ str (numI r.e)).size + (str (text r.text.data.toList)).size ≤ 9223372036854775807 := by rw [e1, e2, str_size, str_size, List.length_append, List.length_append]; omega
  have s4 : (str (numI r.kind) ++ str (numI r.n) ++ str (numI r.e) ++ str (text r.text.data.toList)).size + (str (text (encM r))).size ≤ 9223372036854775807 := by rw [e1, e2, e3, str_size, str_size, List.length_append, List.length_append, List.length_append]; omega
  have HE := Lib.hid (show str (numI r.kind) ++ str (numI r.n) ++ str (numI r.e) ++ str (text r.text.data.toList) ++ str (text (encM r)) = str (encR r) by rw [e1, e2, e3, e4])
  have KT := Lib.hid (fun W => text_any r.text W (by omega))
  have KU : ∀ W, Calls Try.prog 73 #[.string (str (encM r))] W fun e w' => e = .returned (.string (str (text (encM r)))) ∧ Below W.heap.size W w' := fun W => by
    have h := text_any (str (encM r)) W (by rw [str_size]; omega)
    rwa [str_list] at h
  replace KU := Lib.hid KU
  clear e1 e2 e3 e4 n0 n1 n2 n3 n4 hml ht
  go_enter Try.func36, Try.ntmps36
  go_upto_region 1 with fail
  have hA := heap_alloc_new w (.cells #[.int .i64 r.kind, .int .i64 r.n, .int .i64 r.e, .string r.text, .int .i64 r.m.task, .int .i64 r.m.att, .slice v.A2 r.m.sz.length v.c2, .slice v.A3 r.m.sm.length v.c3, .slice v.A4 r.m.hm.length v.c4] 53)
  have HB : Below w.heap.size w (w.alloc (.cells #[.int .i64 r.kind, .int .i64 r.n, .int .i64 r.e, .string r.text, .int .i64 r.m.task, .int .i64 r.m.att, .slice v.A2 r.m.sz.length v.c2, .slice v.A3 r.m.sm.length v.c3, .slice v.A4 r.m.hm.length v.c4] 53)) := (Below.refl w.heap.size w).alloc (by simp) _
  generalize w.alloc (.cells #[.int .i64 r.kind, .int .i64 r.n, .int .i64 r.e, .string r.text, .int .i64 r.m.task, .int .i64 r.m.att, .slice v.A2 r.m.sz.length v.c2, .slice v.A3 r.m.sm.length v.c3, .slice v.A4 r.m.hm.length v.c4] 53) = W1 at hA HB ⊢
  obtain ⟨p0, p1, p2, p3, p4, p5, p6, p7, p8⟩ := box_rec hA
  by_cases hk : r.kind = 1
  · have hk2 : (r.kind == 1) = true := by simp [hk]
    have HM := Lib.hid (show encM r = bytesM r.m from if_pos hk)
    have hk3 : decide (r.kind = 1) = true := by simp [hk]
    have HVV := Lib.hid (hv.below HB)
    clear hk
    have HAA := Lib.hid hA
    clear hA
    go_upto_region 6 with (go_at_call 13; (with_reducible refine (KM.out _ HVV.out).mono ?_); rintro e w2 ⟨rfl, hd⟩; have HA2 := heap_below hd HAA.out; replace HB := bt HB HB.size hd; clear hd)
    rw [← HM.out]
    clear p0 p1 p2 p3 p4 p5 p6 p7 p8
    obtain ⟨p0, p1, p2, p3, p4, p5, p6, p7, p8⟩ := box_rec HA2
    clear HA2 p4 p5 p6 p7 p8
    replace p0 := regrown_cell p0
    replace p1 := regrown_cell p1
    replace p2 := regrown_cell p2
    replace p3 := regrown_cell p3
    (refine wp_region_quiet_below (by kernel_rfl) (by kernel_rfl) ?_; (repeat (go_big_quiet_step ((first | (go_at_call 73; (with_reducible exact Calls.regrown_of (KT.out _))) | (go_at_call 73; (with_reducible exact Calls.regrown_of (KU.out _))) | (go_at_call 41; (with_reducible exact Calls.regrown_of (num_any _ _))))))); refine wpQuiet_nil ?_; intro wq hw'; have HQ := below_of_regrown hw'; clear hw')
    go_wp2
    go_ret
    rw [HE.out]
    exact ⟨rfl, HB.trans (HQ.mono HB.size)⟩
  · have hk2 : (r.kind == 1) = false := by simp [hk]
    have HM := Lib.hid (show encM r = [] from if_neg hk)
    have hk3 : decide (r.kind = 1) = false := by simp [hk]
    clear hk
    go_upto_region 6 with fail
    rw [show (⟨#[]⟩ : ByteArray) = str (encM r) by rw [HM.out]; rfl]
    replace p0 := regrown_cell p0
    replace p1 := regrown_cell p1
    replace p2 := regrown_cell p2
    replace p3 := regrown_cell p3
    clear p4 p5 p6 p7 p8
    (refine wp_region_quiet_below (by kernel_rfl) (by kernel_rfl) ?_; (repeat (go_big_quiet_step ((first | (go_at_call 73; (with_reducible exact Calls.regrown_of (KT.out _))) | (go_at_call 73; (with_reducible exact Calls.regrown_of (KU.out _))) | (go_at_call 41; (with_reducible exact Calls.regrown_of (num_any _ _))))))); refine wpQuiet_nil ?_; intro wq hw'; have HQ := below_of_regrown hw'; clear hw')
    go_wp2
    go_ret
    rw [HE.out]
    exact ⟨rfl, HB.trans (HQ.mono HB.size)⟩
end Go.Proofs.Ytmlemichkeomjaa.LedW

/- ledger.Read walked, at a record's bytes. -/
set_option linter.unusedVariables false
set_option linter.unusedSimpArgs false
namespace Go.Proofs.Ytmlemichkeomjaa.LedW
open Go.RowKit Go.Proofs.Ytmlemichkeomjaa.Base Go.Proofs.Ytmlemichkeomjaa.TapeP Go.Proofs.Ytmlemichkeomjaa.TapeW Go.Proofs.Ytmlemichkeomjaa.MendW Go.Proofs.Ytmlemichkeomjaa.ManP Go.Proofs.Ytmlemichkeomjaa.ManW Go.Proofs.Ytmlemichkeomjaa.LedP
/-- A record whose bytes are read as it. -/
structure GoodR (r : LR) : Prop where
  k : 0 ≤ r.kind ∧ r.kind ≤ 7
  n : 0 ≤ r.n ∧ r.n ≤ 2147483647
  e : 0 ≤ r.e ∧ r.e ≤ 255
  t : r.text.size ≤ 1048576
  fit : r.kind = 1 → Fit r.m ∧ ∀ y ∈ r.m.sm, 0 ≤ y ∧ y ≤ 4294967295
  slim : Slim r.m
  no : r.kind ≠ 1 → r.m = noMan
theorem places {r : LR} (h : GoodR r) : ∃ a b c i0 i1 i2 i3 i4 : Nat, r.kind = (a : Nat) ∧ r.n = (b : Nat) ∧ r.e = (c : Nat) ∧ pk ((encR r).drop 0) = (a, i0, 0) ∧ pk ((encR r).drop (0 + i0)) = (b, i1, 0) ∧ pk ((encR r).drop (0 + i0 + i1)) = (c, i2, 0) ∧
    pk ((encR r).drop (0 + i0 + i1 + i2)) = (r.text.size, i3, 0) ∧ ((encR r).drop (0 + i0 + i1 + i2 + i3)).take r.text.size = r.text.data.toList ∧ pk ((encR r).drop (0 + i0 + i1 + i2 + i3 + r.text.size)) = ((encM r).length, i4, 0) ∧
    ((encR r).drop (0 + i0 + i1 + i2 + i3 + r.text.size + i4)).take (encM r).length = encM r ∧ 0 + i0 + i1 + i2 + i3 + r.text.size + i4 + (encM r).length = (encR r).length := by
  obtain ⟨a, ha⟩ := Int.eq_ofNat_of_zero_le h.k.1
  obtain ⟨b, hb⟩ := Int.eq_ofNat_of_zero_le h.n.1
  obtain ⟨c, hc⟩ := Int.eq_ofNat_of_zero_le h.e.1
  have hk := h.k
  have hn := h.n
  have he := h.e
  have ht := h.t
  have hM := encM_le h.slim
  have ea : numI r.kind = num a := by rw [numI_in (by omega) (by omega), ha, Int.toNat_natCast]
  have eb : numI r.n = num b := by rw [numI_in (by omega) (by omega), hb, Int.toNat_natCast]
  have ec : numI r.e = num c := by rw [numI_in (by omega) (by omega), hc, Int.toNat_natCast]
  have hL : encR r = num a ++ num b ++ num c ++ (num r.text.size ++ r.text.data.toList) ++ (num (encM r).length ++ encM r) := by
    unfold encR text
    rw [ea, eb, ec, list_size]
  generalize encR r = L at hL ⊢
  generalize encM r = M at hL hM ⊢
  have hts : r.text.data.toList.length = r.text.size := list_size r.text
  have l0 : L = [] ++ (num a ++ (num b ++ (num c ++ ((num r.text.size ++ r.text.data.toList) ++ (num M.length ++ M))))) := by rw [hL]; simp only [List.append_assoc, List.nil_append]
  have l1 : L = num a ++ (num b ++ (num c ++ ((num r.text.size ++ r.text.data.toList) ++ (num M.length ++ M)))) := by rw [hL]; simp only [List.append_assoc]
  have l2 : L = (num a ++ num b) ++ (num c ++ ((num r.text.size ++ r.text.data.toList) ++ (num M.length ++ M))) := by rw [hL]; simp only [List.append_assoc]
  have l3 : L = (num a ++ num b ++ num c) ++ (num r.text.size ++ (r.text.data.toList ++ (num M.length ++ M))) := by rw [hL]; simp only [List.append_assoc]
  have l4 : L = (num a ++ num b ++ num c ++ (num r.text.size ++ r.text.data.toList)) ++ (num M.length ++ (M ++ [])) := by rw [hL]; simp only [List.append_assoc, List.append_nil]
  have p2 : 0 + (num a).length + (num b).length = (num a ++ num b).length := by rw [List.length_append]; omega
  have p3 : 0 + (num a).length + (num b).length + (num c).length = (num a ++ num b ++ num c).length := by rw [List.length_append, List.length_append]; omega
  have p4 : 0 + (num a).length + (num b).length + (num c).length + (num r.text.size).length + r.text.size = (num a ++ num b ++ num c ++ (num r.text.size ++ r.text.data.toList)).length := by rw [List.length_append, List.length_append, List.length_append, List.length_append, hts]; omega
  refine ⟨a, b, c, (num a).length, (num b).length, (num c).length, (num r.text.size).length, (num M.length).length, ha, hb, hc, pk_at l0 rfl (by omega), pk_at l1 (by omega) (by omega), pk_at l2 p2 (by omega), pk_at l3 p3 (by omega), take_at l3 p3 hts.symm, pk_at l4 p4 (by omega), take_at l4 p4 rfl, ?_⟩
  have e := congrArg List.length l4
  rw [List.length_append, ← p4, List.length_append, List.length_append, List.length_nil] at e
  omega
/-- While a record is read. -/
structure RdQ (w W : World) (tb : Nat) (S : ByteArray) (p : Nat) : Prop where
  below : Below w.heap.size w W
  res : W.heap[w.heap.size]? = some (.cells #[.int .i64 0, .int .i64 0, .int .i64 0, .string ⟨#[]⟩, .int .i64 0, .int .i64 0, .slice none 0 0, .slice none 0 0, .slice none 0 0] 53 (0, 0))
  lo : w.heap.size < tb
  tape : TapeAt W tb S p
section
variable {w W W' : World} {tb : Nat} {S : ByteArray} {p q : Nat}
theorem RdQ.step (h : RdQ w W tb S p) (hs : Step W W' tb S q) : RdQ w W' tb S q := by
  have h1 := h.lo
  have h2 := h.tape.lt
  exact ⟨h.below.trans (hs.only.below (Nat.le_of_lt h1) h.below.size), (hs.only.block _ (by omega) (.inl h1)).trans h.res, h1, hs.tape⟩
theorem RdQ.far (h : RdQ w W tb S p) (hb : Below W.heap.size W W') : RdQ w W' tb S p := by
  have h1 := h.lo
  have h2 := h.tape.lt
  exact ⟨h.below.trans (hb.mono h.below.size), (hb.block _ (by omega)).trans h.res, h1, h.tape.below hb⟩
theorem RdQ.set (h : RdQ w W tb S p) {g : Nat} (hg : tb < g) (j : Nat) (u : Value) : RdQ w (W.setCell ⟨g, j, none⟩ u) tb S p := by
  have h1 := h.lo
  have h2 := h.tape
  exact ⟨h.below.setCell (p := ⟨g, j, none⟩) (by show w.heap.size ≤ g; omega) u, (heap_setCell_other W ⟨g, j, none⟩ _ u (by show w.heap.size ≠ g; omega)).trans h.res, h1, ⟨(heap_setCell_other W ⟨g, j, none⟩ _ u (by show tb ≠ g; omega)).trans h2.blk, h2.le, h2.sz⟩⟩
end
/-- What is answered. -/
def ReadR (w : World) (r : LR) (e : Ending) (w' : World) : Prop := ∃ v : MV, e = .returned (.tuple #[.agg #[.int .i64 r.kind, .int .i64 r.n, .int .i64 r.e, .string r.text, .int .i64 r.m.task, .int .i64 r.m.att, .slice v.A2 r.m.sz.length v.c2, .slice v.A3 r.m.sm.length v.c3, .slice v.A4 r.m.hm.length v.c4], .int .i64 0]) ∧ ManV w' v r.m ∧ Below w.heap.size w w'
theorem read_fin {w W : World} {r : LR} {v : MV} {tb : Nat} {S : ByteArray} {p : Nat} (hQ : RdQ w W tb S p) (hM : ManV (W.setRow w.heap.size #[.int .i64 r.kind, .int .i64 r.n, .int .i64 r.e, .string r.text, .int .i64 r.m.task, .int .i64 r.m.att, .slice v.A2 r.m.sz.length v.c2, .slice v.A3 r.m.sm.length v.c3, .slice v.A4 r.m.hm.length v.c4]) v r.m) (tmps : Array Value) (h2 : tmps.getD 2 undef = .pointer (some ⟨w.heap.size, 0, none⟩)) (h3 : tmps.getD 3 undef = .int .i64 0) :
    bodyPost Try.prog Try.f76 (ReadR w r) .ret { tmps := tmps, defers := [] } (W.setRow w.heap.size #[.int .i64 r.kind, .int .i64 r.n, .int .i64 r.e, .string r.text, .int .i64 r.m.task, .int .i64 r.m.att, .slice v.A2 r.m.sz.length v.c2, .slice v.A3 r.m.sm.length v.c3, .slice v.A4 r.m.hm.length v.c4]) := by
  refine bodyPost_ret (results_cell_slot rfl _ _ w.heap.size 53 _ (0, 0) _ h2 (setRow_heap _ _ _ #[.int .i64 r.kind, .int .i64 r.n, .int .i64 r.e, .string r.text, .int .i64 r.m.task, .int .i64 r.m.att, .slice v.A2 r.m.sz.length v.c2, .slice v.A3 r.m.sm.length v.c3, .slice v.A4 r.m.hm.length v.c4] _ _ hQ.res) Try.underlying53 rfl info_rec h3) rfl ?_
  exact ⟨v, rfl, hM, hQ.below.trans ⟨rfl, rfl, rfl, by simp, fun k hk => setRow_other W _ k _ (by omega)⟩⟩
theorem five_heap {W : World} {g : Nat} {T : TypeId} {x0 x1 x2 x3 x4 x5 x6 x7 x8 : Value} (u4 u5 u6 u7 u8 : Value) (h : W.heap[g]? = some (.cells #[x0, x1, x2, x3, x4, x5, x6, x7, x8] T (0, 0))) :
    (((((W.setCell ⟨g, 4, none⟩ u4).setCell ⟨g, 5, none⟩ u5).setCell ⟨g, 6, none⟩ u6).setCell ⟨g, 7, none⟩ u7).setCell ⟨g, 8, none⟩ u8).heap[g]? = some (.cells #[x0, x1, x2, x3, u4, u5, u6, u7, u8] T (0, 0)) := by
  have h1 : (W.setCell ⟨g, 4, none⟩ u4).heap[g]? = some (.cells #[x0, x1, x2, x3, u4, x5, x6, x7, x8] T (0, 0)) := by rw [heap_setCell_same _ _ _ _ _ _ h]; rfl
  have h2 : ((W.setCell ⟨g, 4, none⟩ u4).setCell ⟨g, 5, none⟩ u5).heap[g]? = some (.cells #[x0, x1, x2, x3, u4, u5, x6, x7, x8] T (0, 0)) := by rw [heap_setCell_same _ _ _ _ _ _ h1]; rfl
  have h3 : (((W.setCell ⟨g, 4, none⟩ u4).setCell ⟨g, 5, none⟩ u5).setCell ⟨g, 6, none⟩ u6).heap[g]? = some (.cells #[x0, x1, x2, x3, u4, u5, u6, x7, x8] T (0, 0)) := by rw [heap_setCell_same _ _ _ _ _ _ h2]; rfl
  have h4 : ((((W.setCell ⟨g, 4, none⟩ u4).setCell ⟨g, 5, none⟩ u5).setCell ⟨g, 6, none⟩ u6).setCell ⟨g, 7, none⟩ u7).heap[g]? = some (.cells #[x0, x1, x2, x3, u4, u5, u6, u7, x8] T (0, 0)) := by rw [heap_setCell_same _ _ _ _ _ _ h3]; rfl
  rw [heap_setCell_same _ _ _ _ _ _ h4]; rfl
theorem five_other {W : World} {g k : Nat} (u4 u5 u6 u7 u8 : Value) (h : k ≠ g) :
    (((((W.setCell ⟨g, 4, none⟩ u4).setCell ⟨g, 5, none⟩ u5).setCell ⟨g, 6, none⟩ u6).setCell ⟨g, 7, none⟩ u7).setCell ⟨g, 8, none⟩ u8).heap[k]? = W.heap[k]? := by
  rw [heap_setCell_other _ _ _ _ h, heap_setCell_other _ _ _ _ h, heap_setCell_other _ _ _ _ h, heap_setCell_other _ _ _ _ h, heap_setCell_other _ _ _ _ h]
theorem cells9 {W : World} {g : Nat} {T : TypeId} {x0 x1 x2 x3 x4 x5 x6 x7 x8 : Value} (h : W.heap[g]? = some (.cells #[x0, x1, x2, x3, x4, x5, x6, x7, x8] T (0, 0))) :
    W.cell? ⟨g, 0, none⟩ = some x0 ∧ W.cell? ⟨g, 1, none⟩ = some x1 ∧ W.cell? ⟨g, 2, none⟩ = some x2 ∧ W.cell? ⟨g, 3, none⟩ = some x3 ∧ W.cell? ⟨g, 4, none⟩ = some x4 ∧ W.cell? ⟨g, 5, none⟩ = some x5 ∧ W.cell? ⟨g, 6, none⟩ = some x6 ∧ W.cell? ⟨g, 7, none⟩ = some x7 ∧ W.cell? ⟨g, 8, none⟩ = some x8 :=
  ⟨by rw [cell_of_row _ _ _ _ _ _ h]; rfl, by rw [cell_of_row _ _ _ _ _ _ h]; rfl, by rw [cell_of_row _ _ _ _ _ _ h]; rfl, by rw [cell_of_row _ _ _ _ _ _ h]; rfl, by rw [cell_of_row _ _ _ _ _ _ h]; rfl, by rw [cell_of_row _ _ _ _ _ _ h]; rfl, by rw [cell_of_row _ _ _ _ _ _ h]; rfl, by rw [cell_of_row _ _ _ _ _ _ h]; rfl, by rw [cell_of_row _ _ _ _ _ _ h]; rfl⟩
set_option maxRecDepth 100000 in
set_option maxHeartbeats 4000000 in
theorem lread_any (r : LR) (w : World) (h : GoodR r) : Calls Try.prog 76 #[.string (str (encR r))] w (ReadR w r) := by
  obtain ⟨a, b, c, i0, i1, i2, i3, i4, ha, hb, hc, k0, k1, k2, k3, x3, k4, x4, hend⟩ := places h
  have hsz : (str (encR r)).size ≤ 140737488351232 := by rw [str_size]; have := encR_le h.slim (by have := h.t; omega); have := h.t; omega
  have hML := encM_le h.slim
  have ht := h.t
  obtain ⟨S, hS⟩ : ∃ S, S = str (encR r) := ⟨_, rfl⟩
  have hL : encR r = S.data.toList := by rw [hS, str_list]
  rw [← hS] at hsz ⊢
  rw [hL] at k0 k1 k2 k3 x3 k4 x4 hend
  rw [list_size] at hend
  have hA := fun B W (h : TapeAt W B S 0) => tnum_ok B S 0 W h k0
  have hB := fun B W (h : TapeAt W B S (0 + i0)) => tnum_ok B S _ W h k1
  have hC := fun B W (h : TapeAt W B S (0 + i0 + i1)) => tnum_ok B S _ W h k2
  have hD := fun B W (h : TapeAt W B S (0 + i0 + i1 + i2)) => ttext_ok B S _ 1048576 W h k3 (by omega) (by omega)
  have hE := fun B W (h : TapeAt W B S (0 + i0 + i1 + i2 + i3 + r.text.size)) => ttext_ok B S _ 65536 W h k4 (by omega) (by omega)
  have hF := fun B W (h : TapeAt W B S (0 + i0 + i1 + i2 + i3 + r.text.size + i4 + (encM r).length)) => TapeW.end_any B S _ W h
  rw [x3] at hD
  rw [x4] at hE
  simp only [list_str] at hD
  generalize 0 + i0 + i1 + i2 + i3 + r.text.size + i4 + (encM r).length = p5 at hE hF hend
  generalize 0 + i0 + i1 + i2 + i3 + r.text.size = p4 at hD hE
  generalize 0 + i0 + i1 + i2 = p3 at hC hD
  generalize 0 + i0 + i1 = p2 at hB hC
  generalize 0 + i0 = p1 at hA hB
  have tend : ((S.size : Int) - (p5 : Nat) == 0) = true := by rw [beq_iff_eq]; omega
  have HG := Lib.hid h
  have hcc : c ≤ 255 := by have := h.e; omega
  have HRD := Lib.hid (fun (hk : r.kind = 1) => show rman (str (encM r)).data.toList = (r.m, 0) by
    rw [str_list, show encM r = bytesM r.m from if_pos hk, (h.fit hk).1.bytes]
    exact read_there (h.fit hk).1 (h.fit hk).2)
  have hms : (str (encM r)).size ≤ 1000000000000 := by rw [str_size]; omega
  obtain ⟨k, n, e, t, m⟩ := r
  dsimp only at ha hb hc hD HRD ht
  subst ha hb hc
  clear hL hS k0 k1 k2 k3 x3 k4 x4 hend h
  have HA := Lib.hid hA
  have HB' := Lib.hid hB
  have HC := Lib.hid hC
  have HD := Lib.hid hD
  have HE := Lib.hid hE
  have HF := Lib.hid hF
  have HSZ := Lib.hid hsz
  clear hA hB hC hD hE hF hsz
  go_enter Try.func76, Try.ntmps76
  go_upto_region 2 with (go_at_call 42; (with_reducible refine (new_tape S _ HSZ.out).mono ?_); rintro e w2 ⟨tb, rfl, hT, hlt, hd⟩)
  have HQ : RdQ w w2 tb S 0 := by
    have hz := World.size_alloc w (.cells #[.int .i64 0, .int .i64 0, .int .i64 0, .string ⟨#[]⟩, .int .i64 0, .int .i64 0, .slice none 0 0, .slice none 0 0, .slice none 0 0] 53)
    have h1 := (Below.refl w.heap.size w).alloc (Nat.le_refl _) (.cells #[.int .i64 0, .int .i64 0, .int .i64 0, .string ⟨#[]⟩, .int .i64 0, .int .i64 0, .slice none 0 0, .slice none 0 0, .slice none 0 0] 53)
    exact ⟨h1.trans (hd.mono (by omega)), (hd.block _ (by omega)).trans (heap_alloc_new w _), by omega, hT⟩
  clear hd hT hlt
  go_wp2_with (go_at_call 78; (with_reducible refine (HA.out _ _ HQ.tape).mono ?_))
  rintro e w4 ⟨rfl, h4⟩
  replace HQ := HQ.step h4
  clear h4
  go_wp2_with (go_at_call 78; (with_reducible refine (HB'.out _ _ HQ.tape).mono ?_))
  rintro e w5 ⟨rfl, h4⟩
  replace HQ := HQ.step h4
  clear h4
  go_wp2_with (go_at_call 78; (with_reducible refine (HC.out _ _ HQ.tape).mono ?_))
  rintro e w6 ⟨rfl, h4⟩
  replace HQ := HQ.step h4
  clear h4
  go_wp2_with (go_at_call 115; (with_reducible refine (HD.out _ _ HQ.tape).mono ?_))
  rintro e w7 ⟨rfl, h4⟩
  replace HQ := HQ.step h4
  clear h4
  go_wp2_with (go_at_call 115; (with_reducible refine (HE.out _ _ HQ.tape).mono ?_))
  rintro e w8 ⟨rfl, h4⟩
  replace HQ := HQ.step h4
  clear h4
  go_upto_region 18 with fail
  have hN := heap_alloc_new w8 (.cells #[.int .i64 (a : Nat), .int .i64 (b : Nat), .int .i64 (c : Nat), .string t, .int .i64 0, .int .i64 0, .slice none 0 0, .slice none 0 0, .slice none 0 0] 53)
  have hG := HQ.tape.lt
  have hnz := World.size_alloc w8 (.cells #[.int .i64 (a : Nat), .int .i64 (b : Nat), .int .i64 (c : Nat), .string t, .int .i64 0, .int .i64 0, .slice none 0 0, .slice none 0 0, .slice none 0 0] 53)
  replace HQ := HQ.far ((Below.refl w8.heap.size w8).alloc (Nat.le_refl _) (.cells #[.int .i64 (a : Nat), .int .i64 (b : Nat), .int .i64 (c : Nat), .string t, .int .i64 0, .int .i64 0, .slice none 0 0, .slice none 0 0, .slice none 0 0] 53))
  generalize w8.alloc (.cells #[.int .i64 (a : Nat), .int .i64 (b : Nat), .int .i64 (c : Nat), .string t, .int .i64 0, .int .i64 0, .slice none 0 0, .slice none 0 0, .slice none 0 0] 53) = W at hN HQ hnz ⊢
  generalize w8.heap.size = G at hN hG hnz ⊢
  have HMS := Lib.hid hms
  have tc : decide ((255 : Int) < ((c : Nat) : Int)) = false := by simp; omega
  clear hms hML
  by_cases hk : a = 1
  · have tk : (((a : Nat) : Int) == 1) = true := by rw [hk]; rfl
    have KR : ∀ W, Calls Try.prog 14 #[.string (str (encM ⟨(a : Nat), (b : Nat), (c : Nat), t, m⟩))] W fun e w' => ∃ A2 c2 A3 c3 A4 c4, e = .returned (.tuple #[.agg #[.int .i64 m.task, .int .i64 m.att, .slice A2 m.sz.length c2, .slice A3 m.sm.length c3, .slice A4 m.hm.length c4], .int .i64 0]) ∧ ManX W.heap.size w' A2 m.sz.length A3 m.sm.length A4 m.hm.length m ∧ Below W.heap.size W w' := fun W => by
      have h := ManW.read_any _ W HMS.out
      unfold ReadPost at h
      rw [HRD.out (by rw [hk]; rfl)] at h
      exact h
    replace KR := Lib.hid KR
    have HMR := Lib.hid (HG.out.fit (by show ((a : Nat) : Int) = 1; rw [hk]; rfl))
    clear HRD HMS hk
    generalize str (encM ⟨(a : Nat), (b : Nat), (c : Nat), t, m⟩) = SM at KR ⊢
    go_upto_region 20 with (go_at_call 14; (with_reducible refine (KR.out _).mono ?_); rintro e w9 ⟨A2, c2, A3, c3, A4, c4, rfl, hM, hd⟩; have hN9 := heap_below hd hN; have z4 := frozen_of_row _ _ 4 _ _ hN9; have z5 := frozen_of_row _ _ 5 _ _ hN9; have z6 := frozen_of_row _ _ 6 _ _ hN9; have z7 := frozen_of_row _ _ 7 _ _ hN9; have z8 := frozen_of_row _ _ 8 _ _ hN9; obtain ⟨y0, y1, y2, y3, y4, y5, y6, y7, y8⟩ := cells9 hN9)
    clear z4 z5 z6 z7 z8 y0 y1 y2 y3 y4 y5 y6 y7 y8
    have HQ9 := (((((HQ.far hd).set hG 4 (.int .i64 m.task)).set hG 5 (.int .i64 m.att)).set hG 6 (.slice A2 m.sz.length c2)).set hG 7 (.slice A3 m.sm.length c3)).set hG 8 (.slice A4 m.hm.length c4)
    have hN10 := five_heap (.int .i64 m.task) (.int .i64 m.att) (.slice A2 m.sz.length c2) (.slice A3 m.sm.length c3) (.slice A4 m.hm.length c4) hN9
    have hM10 : ManB (fun k => W.heap.size ≤ k ∧ k < w9.heap.size) (((((w9.setCell ⟨G, 4, none⟩ (.int .i64 m.task)).setCell ⟨G, 5, none⟩ (.int .i64 m.att)).setCell ⟨G, 6, none⟩ (.slice A2 m.sz.length c2)).setCell ⟨G, 7, none⟩ (.slice A3 m.sm.length c3)).setCell ⟨G, 8, none⟩ (.slice A4 m.hm.length c4)) ⟨A2, c2, A3, c3, A4, c4⟩ m := by
      have hf := HMR.out.1.ok
      have f1 := hf m.task (by simp [listL])
      have f2 := hf m.att (by simp [listL])
      unfold okN at f1 f2
      exact fun w2 h2 => ⟨hM w2 fun k h1 h3 => (h2 k ⟨h1, h3⟩).trans (five_other _ _ _ _ _ (by omega)), by omega, by omega⟩
    have hz10 : (((((w9.setCell ⟨G, 4, none⟩ (.int .i64 m.task)).setCell ⟨G, 5, none⟩ (.int .i64 m.att)).setCell ⟨G, 6, none⟩ (.slice A2 m.sz.length c2)).setCell ⟨G, 7, none⟩ (.slice A3 m.sm.length c3)).setCell ⟨G, 8, none⟩ (.slice A4 m.hm.length c4)).heap.size = w9.heap.size := by simp
    have hwl : w.heap.size < W.heap.size := by have := HQ.lo; omega
    generalize ((((w9.setCell ⟨G, 4, none⟩ (.int .i64 m.task)).setCell ⟨G, 5, none⟩ (.int .i64 m.att)).setCell ⟨G, 6, none⟩ (.slice A2 m.sz.length c2)).setCell ⟨G, 7, none⟩ (.slice A3 m.sm.length c3)).setCell ⟨G, 8, none⟩ (.slice A4 m.hm.length c4) = W10 at HQ9 hN10 hM10 hz10 ⊢
    clear hM hN9 hd hN hnz HQ
    have HMH := Lib.hid hM10
    have HQH := Lib.hid HQ9
    clear hM10
    obtain ⟨y0, y1, y2, y3, y4, y5, y6, y7, y8⟩ := cells9 hN10
    go_upto_region 25 with (go_at_call 44; (with_reducible refine (HF.out _ _ HQ9.tape).mono ?_); rintro e w11 ⟨rfl, hd⟩)
    replace hd : Below W10.heap.size W10 w11 := hd.below
    clear y0 y1 y2 y3 y4 y5 y6 y7 y8 HQ9
    obtain ⟨y0, y1, y2, y3, y4, y5, y6, y7, y8⟩ := cells9 (heap_below hd hN10)
    have HQX := HQH.out.far hd
    have hA := HQX.res
    have HM11 := Lib.hid (HMH.out.keep (w1 := w11) fun k hk => hd.block k (by omega))
    clear hN10 hd
    have hone : (#[.int .i64 (a : Nat), .int .i64 (b : Nat), .int .i64 (c : Nat), .string t, .int .i64 m.task, .int .i64 m.att, .slice A2 m.sz.length c2, .slice A3 m.sm.length c3, .slice A4 m.hm.length c4] : Array Value).all (·.oneCell') = true := by simp [Value.oneCell']
    have HX : ManV (w11.setRow w.heap.size #[.int .i64 (a : Nat), .int .i64 (b : Nat), .int .i64 (c : Nat), .string t, .int .i64 m.task, .int .i64 m.att, .slice A2 m.sz.length c2, .slice A3 m.sm.length c3, .slice A4 m.hm.length c4]) ⟨A2, c2, A3, c3, A4, c4⟩ m := (HM11.out.keep fun k hk => setRow_other _ _ k _ (by omega)).here
    have HXX := Lib.hid HX
    have HQY := Lib.hid HQX
    clear HX HQX
    go_wp2_with (refine wpList_store_row rfl 53 (.tmp 2) (.tmp 88) rfl w.heap.size #[.int .i64 (a : Nat), .int .i64 (b : Nat), .int .i64 (c : Nat), .string t, .int .i64 m.task, .int .i64 m.att, .slice A2 m.sz.length c2, .slice A3 m.sm.length c3, .slice A4 m.hm.length c4] rfl rfl 53 #[.int .i64 0, .int .i64 0, .int .i64 0, .string ⟨#[]⟩, .int .i64 0, .int .i64 0, .slice none 0 0, .slice none 0 0, .slice none 0 0] hA info_rec rfl hone ?_)
    exact read_fin (r := ⟨(a : Nat), (b : Nat), (c : Nat), t, m⟩) (v := ⟨A2, c2, A3, c3, A4, c4⟩) HQY.out HXX.out _ rfl rfl
  · have tk : (((a : Nat) : Int) == 1) = false := by simp; omega
    have hk2 : ¬ ((a : Nat) : Int) = 1 := by omega
    obtain rfl : m = noMan := HG.out.no hk2
    rw [show str (encM ⟨(a : Nat), (b : Nat), (c : Nat), t, noMan⟩) = (⟨#[]⟩ : ByteArray) from by unfold encM; rw [if_neg hk2]; rfl]
    clear HRD hk hk2 HE
    have HQH := Lib.hid HQ
    obtain ⟨y0, y1, y2, y3, y4, y5, y6, y7, y8⟩ := cells9 hN
    go_upto_region 25 with (go_at_call 44; (with_reducible refine (HF.out _ _ HQ.tape).mono ?_); rintro e w11 ⟨rfl, hd⟩)
    replace hd : Below W.heap.size W w11 := hd.below
    clear y0 y1 y2 y3 y4 y5 y6 y7 y8 HQ
    obtain ⟨y0, y1, y2, y3, y4, y5, y6, y7, y8⟩ := cells9 (heap_below hd hN)
    have HQX := HQH.out.far hd
    have hA := HQX.res
    have hone : (#[.int .i64 (a : Nat), .int .i64 (b : Nat), .int .i64 (c : Nat), .string t, .int .i64 0, .int .i64 0, .slice none 0 0, .slice none 0 0, .slice none 0 0] : Array Value).all (·.oneCell') = true := by simp [Value.oneCell']
    have HQY := Lib.hid HQX
    clear HQX hN hd
    go_wp2_with (refine wpList_store_row rfl 53 (.tmp 2) (.tmp 88) rfl w.heap.size #[.int .i64 (a : Nat), .int .i64 (b : Nat), .int .i64 (c : Nat), .string t, .int .i64 0, .int .i64 0, .slice none 0 0, .slice none 0 0, .slice none 0 0] rfl rfl 53 #[.int .i64 0, .int .i64 0, .int .i64 0, .string ⟨#[]⟩, .int .i64 0, .int .i64 0, .slice none 0 0, .slice none 0 0, .slice none 0 0] hA info_rec rfl hone ?_)
    exact read_fin (r := ⟨(a : Nat), (b : Nat), (c : Nat), t, noMan⟩) (v := noMV) HQY.out (ManV.no _) _ rfl rfl
end Go.Proofs.Ytmlemichkeomjaa.LedW

