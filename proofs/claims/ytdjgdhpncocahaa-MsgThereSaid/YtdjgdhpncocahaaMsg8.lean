/- A message read: msg.Read, walked. -/
import Derived.Test.YtdjgdhpncocahaaMsg7
set_option linter.unusedVariables false
set_option linter.unusedSimpArgs false
namespace Go.Proofs.Ytdjgdhpncocahaa.MsgW
open Go.RowKit Go.Proofs.Ytdjgdhpncocahaa.Base Go.Proofs.Ytdjgdhpncocahaa.EqsW Go.Proofs.Ytdjgdhpncocahaa.TapeP Go.Proofs.Ytdjgdhpncocahaa.TapeW Go.Proofs.Ytdjgdhpncocahaa.CrcP Go.Proofs.Ytdjgdhpncocahaa.CrcW Go.Proofs.Ytdjgdhpncocahaa.MsgP Go.Proofs.Ytdjgdhpncocahaa.BuildW
open Go.Proofs.Ytdjgdhpncocahaa.JrnW (sv sv_length sv_append info_str own_strs map_snoc)

def arr9 (a : List Nat) : Array Value := #[.int .i64 (a.getD 0 0 : Nat), .int .i64 (a.getD 1 0 : Nat), .int .i64 (a.getD 2 0 : Nat), .int .i64 (a.getD 3 0 : Nat), .int .i64 (a.getD 4 0 : Nat), .int .i64 (a.getD 5 0 : Nat), .int .i64 (a.getD 6 0 : Nat), .int .i64 (a.getD 7 0 : Nat), .int .i64 (a.getD 8 0 : Nat)]
theorem arr9_snoc (a : List Nat) (n : Nat) (h : a.length < 9) : (arr9 a).setIfInBounds a.length (.int .i64 (n : Nat)) = arr9 (a ++ [n]) := by
  match a, h with
  | [], _ => rfl
  | [_], _ => rfl
  | [_, _], _ => rfl
  | [_, _, _], _ => rfl
  | [_, _, _, _], _ => rfl
  | [_, _, _, _, _], _ => rfl
  | [_, _, _, _, _, _], _ => rfl
  | [_, _, _, _, _, _, _], _ => rfl
  | [_, _, _, _, _, _, _, _], _ => rfl
def appN (acc : List Nat) (r : List Nat × Nat × Nat) : List Nat × Nat × Nat := if r.2.2 ≠ 0 then ([], r.2.1, r.2.2) else (acc ++ r.1, r.2.1, 0)
theorem nms_err (k : Nat) (l : List UInt8) (p : Nat) (h : (nms k l p).2.2 ≠ 0) : (nms k l p).1 = [] := by
  cases k with
  | zero => rfl
  | succ k =>
    unfold nms at h ⊢
    split
    · rfl
    · rename_i h1
      rw [if_neg h1] at h
      dsimp only at h ⊢
      split
      · rfl
      · rename_i h2
        rw [if_neg h2] at h
        exact absurd rfl h
theorem appN_nil (k : Nat) (l : List UInt8) (p : Nat) : nms k l p = appN [] (nms k l p) := by
  have h := nms_err k l p
  generalize nms k l p = r at *
  obtain ⟨a, b, c⟩ := r
  unfold appN
  split
  · rename_i h1
    have : a = [] := h h1
    rw [this]
  · rename_i h1
    have : c = 0 := by simpa using h1
    rw [this]
    rfl
theorem nms_step (acc : List Nat) (k : Nat) (l : List UInt8) (p n i : Nat) (h : pk (l.drop p) = (n, i, 0)) : appN acc (nms (k + 1) l p) = appN (acc ++ [n]) (nms k l (p + i)) := by
  have e : nms (k + 1) l p = appN [n] (nms k l (p + i)) := by
    show (if (pk (l.drop p)).2.2 ≠ 0 then _ else _) = _
    rw [h]
    dsimp only
    rw [if_neg (by simp)]
    unfold appN
    rfl
  rw [e]
  unfold appN
  by_cases h1 : (nms k l (p + i)).2.2 ≠ 0
  · rw [if_pos h1, if_pos h1]; dsimp only; rw [if_pos h1]
  · rw [if_neg h1, if_neg h1]; dsimp only; rw [if_neg (by simp), List.append_assoc]
theorem nms_stop (acc : List Nat) (k : Nat) (l : List UInt8) (p n i er : Nat) (h : pk (l.drop p) = (n, i, er)) (he : er ≠ 0) : appN acc (nms (k + 1) l p) = ([], p, er) := by
  have e : nms (k + 1) l p = ([], p, er) := by
    show (if (pk (l.drop p)).2.2 ≠ 0 then _ else _) = _
    rw [h]
    dsimp only
    rw [if_pos he]
  rw [e]
  unfold appN
  rw [if_pos he]
def numL (a : List Nat) : Nat → Int := numAt (a.getD 0 0 : Nat) (a.getD 1 0 : Nat) (a.getD 2 0 : Nat) (a.getD 3 0 : Nat) (a.getD 4 0 : Nat) (a.getD 5 0 : Nat) (a.getD 6 0 : Nat) (a.getD 7 0 : Nat) (a.getD 8 0 : Nat)
def msgV (a : List Nat) (t : ByteArray) (v : Value) : Value := .agg #[.int .i64 (a.getD 0 0 : Nat), .int .i64 (a.getD 1 0 : Nat), .int .i64 (a.getD 2 0 : Nat), .int .i64 (a.getD 3 0 : Nat), .int .i64 (a.getD 4 0 : Nat), .int .i64 (a.getD 5 0 : Nat), .int .i64 (a.getD 6 0 : Nat), .int .i64 (a.getD 7 0 : Nat), .int .i64 (a.getD 8 0 : Nat), .string t, v]
/-- The error of bytes that are read as a message. -/
def rdE (l : List UInt8) : Nat :=
  if (nms 9 l 0).2.2 ≠ 0 then (nms 9 l 0).2.2
  else if (tx 1048576 l (nms 9 l 0).2.1).2.2 ≠ 0 then (tx 1048576 l (nms 9 l 0).2.1).2.2
  else if (lsT l (tx 1048576 l (nms 9 l 0).2.1).2.1).2.2 ≠ 0 then (lsT l (tx 1048576 l (nms 9 l 0).2.1).2.1).2.2
  else if (lsT l (tx 1048576 l (nms 9 l 0).2.1).2.1).2.1 < l.length then 6
  else if rightM (numL (nms 9 l 0).1) (str (tx 1048576 l (nms 9 l 0).2.1).1) ((lsT l (tx 1048576 l (nms 9 l 0).2.1).2.1).1.map str) = true then 0 else 6
theorem heap_only {w w' : World} {b k : Nat} {o : Obj} (h : w.heap[k]? = some o) (hb : Only b (b + 1) w w') (hne : k ≠ b) : w'.heap[k]? = some o := by
  refine (hb.block k ?_ (by omega)).trans h
  rcases Nat.lt_or_ge k w.heap.size with h' | h'
  · exact h'
  · simp [Array.getElem?_eq_none h'] at h
theorem heap_lt {w : World} {k : Nat} {o : Obj} (h : w.heap[k]? = some o) : k < w.heap.size := by
  rcases Nat.lt_or_ge k w.heap.size with h' | h'
  · exact h'
  · simp [Array.getElem?_eq_none h'] at h
theorem results_cell_slot {P : Program} {fn : Func} {p q : Tmp} {ty : TypeId} (h : fn.results = #[.cell p ty, .tmp q]) (tmps : Array Value) (w : World) (g : Nat) (t : TypeId) (cs : Array Value) (fr : Nat × Nat) (d : TypeDesc) {v : Value}
    (hp : tmps.getD p undef = .pointer (some ⟨g, 0, none⟩)) (hg : w.heap[g]? = some (.cells cs t fr))
    (hu : P.underlying ty = some d) (hd : (match d with | .struct _ | .array _ _ => true | _ => false) = true) (hi : (P.info? ty).map (·.size) = some cs.size) (hq : tmps.getD q undef = v) :
    (results fn tmps).run P w = .ok (.tuple #[.agg cs, v]) w := by
  have hp' : tmps[p]?.getD undef = .pointer (some ⟨g, 0, none⟩) := by simpa using hp
  have hq' : tmps[q]?.getD undef = v := by simpa using hq
  simp [results, h, hp', hq', asAddr, run_loadVar_row w g t ty cs fr d hg hu hd hi]
/-- What Read hands back. -/
def ReadPost (w : World) (l : List UInt8) (e : Ending) (w' : World) : Prop :=
  Below w.heap.size w w' ∧ ((rdE l ≠ 0 ∧ e = .returned (.tuple #[msgV [] (str []) (.slice none 0 0), .int .i64 (rdE l : Nat)])) ∨
    (rdE l = 0 ∧ ∃ A c, e = .returned (.tuple #[msgV (nms 9 l 0).1 (str (tx 1048576 l (nms 9 l 0).2.1).1) (.slice A (lsT l (tx 1048576 l (nms 9 l 0).2.1).2.1).1.length c), .int .i64 0]) ∧
      Strs w' A (lsT l (tx 1048576 l (nms 9 l 0).2.1).2.1).1.length ((lsT l (tx 1048576 l (nms 9 l 0).2.1).2.1).1.map str)))

set_option maxRecDepth 100000 in
set_option maxHeartbeats 1000000 in
/-- Not sealed: told. -/
theorem read_bad (s : ByteArray) (w : World) (hs : s.size ≤ 140737488351232) (er : Nat) (ho : opened s.data.toList = ([], er)) (he : er ≠ 0) :
    Calls Try.prog 72 #[.string s] w fun e w' => e = .returned (.tuple #[.agg #[.int .i64 0, .int .i64 0, .int .i64 0, .int .i64 0, .int .i64 0, .int .i64 0, .int .i64 0, .int .i64 0, .int .i64 0, .string ⟨#[]⟩, .slice none 0 0], .int .i64 (er : Nat)]) ∧ Below w.heap.size w w' := by
  have hop := fun W => open_any s W hs
  rw [ho] at hop
  have OP := Lib.hid hop
  have hz : (((er : Nat) : Int) != 0) = true := int_bne (by omega)
  clear hop ho he
  go_enter Try.func72, Try.ntmps72
  go_upto_region 1 with fail
  have hA := heap_alloc_new w (.cells #[.int .i64 0, .int .i64 0, .int .i64 0, .int .i64 0, .int .i64 0, .int .i64 0, .int .i64 0, .int .i64 0, .int .i64 0, .string ⟨#[]⟩, .slice none 0 0] 33)
  have HB : Below w.heap.size w (w.alloc (.cells #[.int .i64 0, .int .i64 0, .int .i64 0, .int .i64 0, .int .i64 0, .int .i64 0, .int .i64 0, .int .i64 0, .int .i64 0, .string ⟨#[]⟩, .slice none 0 0] 33)) := (Below.refl w.heap.size w).alloc (by simp) _
  generalize w.alloc (.cells #[.int .i64 0, .int .i64 0, .int .i64 0, .int .i64 0, .int .i64 0, .int .i64 0, .int .i64 0, .int .i64 0, .int .i64 0, .string ⟨#[]⟩, .slice none 0 0] 33) = W1 at hA HB ⊢
  have hone : (#[.int .i64 0, .int .i64 0, .int .i64 0, .int .i64 0, .int .i64 0, .int .i64 0, .int .i64 0, .int .i64 0, .int .i64 0, .string ⟨#[]⟩, .slice none 0 0] : Array Value).all (·.oneCell') = true := by simp [Value.oneCell']
  have hi33 : (Try.prog.info? 33).map (·.size) = some 11 := by kernel_rfl
  go_upto_region 3 with (go_at_call 39; refine (OP.out _).mono ?_; rintro e w2 ⟨rfl, hd⟩; replace hA := heap_below hA hd; (first | replace HB := bt HB HB.size hd | replace HB := bt_drew HB HB.size hd | replace HB := bt_drewN HB HB.size hd); clear hd)
  go_wp2_with (refine wpList_store_row rfl 33 (.tmp 2) (.tmp 17) rfl w.heap.size #[.int .i64 0, .int .i64 0, .int .i64 0, .int .i64 0, .int .i64 0, .int .i64 0, .int .i64 0, .int .i64 0, .int .i64 0, .string ⟨#[]⟩, .slice none 0 0] rfl rfl 33 #[.int .i64 0, .int .i64 0, .int .i64 0, .int .i64 0, .int .i64 0, .int .i64 0, .int .i64 0, .int .i64 0, .int .i64 0, .string ⟨#[]⟩, .slice none 0 0] hA hi33 rfl hone ?_)
  have hR := setRow_heap _ _ _ #[.int .i64 0, .int .i64 0, .int .i64 0, .int .i64 0, .int .i64 0, .int .i64 0, .int .i64 0, .int .i64 0, .int .i64 0, .string ⟨#[]⟩, .slice none 0 0] _ _ hA
  refine bodyPost_ret (results_cell_slot rfl _ _ w.heap.size 33 _ (0, 0) _ rfl hR Try.underlying33 rfl hi33 rfl) rfl ?_
  exact ⟨rfl, below_setRow HB w.heap.size _ (Nat.le_refl _)⟩
end Go.Proofs.Ytdjgdhpncocahaa.MsgW
