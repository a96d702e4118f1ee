/- Texts of this claim in one. -/
import Derived.Test.YtmlemichkeomjaaM14
import Derived.Test.YtmlemichkeomjaaLedRep
import Derived.Deep.CutRange
import Derived.Test.YtmlemichkeomjaaLedSt2
import Derived.Test.YtmlemichkeomjaaM13
/- What Save holds while it goes. -/
set_option linter.unusedVariables false
set_option linter.unusedSimpArgs false
namespace Go.Proofs.Ytmlemichkeomjaa.LedW
open Go.RowKit Go.Proofs.Ytmlemichkeomjaa.Base Go.Proofs.Ytmlemichkeomjaa.MendW Go.Proofs.Ytmlemichkeomjaa.ManP Go.Proofs.Ytmlemichkeomjaa.ManW Go.Proofs.Ytmlemichkeomjaa.LedP
theorem rcells_one (r : LR) (v : MV) : ∀ u ∈ rcells r v, u.oneCell' = true := fun u hu => flatR_cell [(r, v)] u (by rw [flatR_one]; exact hu)
/-- Two rows of records, the state's box below them. -/
structure SvK (w wr : World) (lo : Nat) (cs : Array Value) (F : Nat → Ent) (v3 v4 : Value) (eo ec : List (LR × MV)) : Prop where
  outs : Outs lo wr F v3 v4 eo ec
  box : wr.heap[w.heap.size]? = some (.cells cs 42 (0, 0))
  lo : w.heap.size < lo
  below : Below w.heap.size w wr
  slo : ∀ e ∈ eo, Slim e.1.m
  slc : ∀ e ∈ ec, Slim e.1.m
def SvJ (w wr : World) (lo : Nat) (cs : Array Value) (v3 v4 : Value) (L M : List LR) : Prop := ∃ F eo ec, SvK w wr lo cs F v3 v4 eo ec ∧ eo.map Prod.fst = L ∧ ec.map Prod.fst = M
section
variable {w wr w' : World} {lo : Nat} {cs : Array Value} {F : Nat → Ent} {v3 v4 : Value} {eo ec : List (LR × MV)}
theorem SvK.far (h : SvK w wr lo cs F v3 v4 eo ec) (hb : Below wr.heap.size wr w') : SvK w w' lo cs F v3 v4 eo ec :=
  ⟨h.outs.below hb, (hb.block _ (Array.getElem?_eq_some_iff.1 h.box).1).trans h.box, h.lo, h.below.trans (hb.mono h.below.size), h.slo, h.slc⟩
theorem SvK.boxed (h : SvK w wr lo cs F v3 v4 eo ec) (xs : Array Value) (T : TypeId) : SvK w (wr.alloc (.cells xs T)) lo cs F v3 v4 eo ec := h.far ((Below.refl _ _).alloc (Nat.le_refl _) _)
theorem SvK.grown (h : SvK w wr lo cs F v3 v4 eo ec) {key : Nat} {v : Value} (hk : (F key).v = v) (hg : wr.grownBy w' v.ownBlock) : w'.heap[w.heap.size]? = some (.cells cs 42 (0, 0)) ∧ Below w.heap.size w w' := by
  have h1 := h.lo
  have h2 := (Array.getElem?_eq_some_iff.1 h.box).1
  have hb : Below lo wr w' := (Below.refl _ _).grown hg h.outs.ll (fun g hg2 => by rw [← hk] at hg2; exact (h.outs.pool.lt key hg2).1)
  exact ⟨(hb.block _ h1).trans h.box, h.below.trans (hb.mono (Nat.le_of_lt h1))⟩
theorem SvK.join0 (h : SvK w wr lo cs F v3 v4 eo ec) {v : Value} {m : Nat} {es : List (LR × MV)} (hm : es.length = m) (HP : Pool w' lo (up F 0 ⟨53, 9, v, eo.length + m, flatR eo ++ flatR es⟩)) (hg : wr.grownBy w' v3.ownBlock)
    (hat : v.ownBlock = v3.ownBlock ∨ v.ownBlock = some wr.heap.size) (hs : ∀ e ∈ es, ManB (Safe lo F wr.heap.size) wr e.2 e.1.m) (hsl : ∀ e ∈ es, Slim e.1.m) :
    SvK w w' lo cs (up F 0 ⟨53, 9, v, eo.length + m, flatR eo ++ flatR es⟩) v v4 (eo ++ es) ec := by
  obtain ⟨h1, h2⟩ := h.grown (key := 0) (by rw [h.outs.out]) hg
  exact ⟨h.outs.app0 hm HP hg hat hs, h1, h.lo, h2, fun e he => (List.mem_append.1 he).elim (h.slo e) (hsl e), h.slc⟩
theorem SvK.join1 (h : SvK w wr lo cs F v3 v4 eo ec) {v : Value} {m : Nat} {es : List (LR × MV)} (hm : es.length = m) (HP : Pool w' lo (up F 1 ⟨53, 9, v, ec.length + m, flatR ec ++ flatR es⟩)) (hg : wr.grownBy w' v4.ownBlock)
    (hat : v.ownBlock = v4.ownBlock ∨ v.ownBlock = some wr.heap.size) (hs : ∀ e ∈ es, ManB (Safe lo F wr.heap.size) wr e.2 e.1.m) (hsl : ∀ e ∈ es, Slim e.1.m) :
    SvK w w' lo cs (up F 1 ⟨53, 9, v, ec.length + m, flatR ec ++ flatR es⟩) v3 v eo (ec ++ es) := by
  obtain ⟨h1, h2⟩ := h.grown (key := 1) (by rw [h.outs.com]) hg
  exact ⟨h.outs.app1 hm HP hg hat hs, h1, h.lo, h2, h.slo, fun e he => (List.mem_append.1 he).elim (h.slc e) (hsl e)⟩
theorem SvK.push0 (h : SvK w wr lo cs F v3 v4 eo ec) (r : LR) (v : MV) {A : Value} (HP : Pool w' lo (up F 0 ⟨53, 9, A, eo.length + 1, flatR eo ++ rcells r v⟩)) (hg : (wr.alloc (.cells (rcells r v).toArray 53)).grownBy w' v3.ownBlock)
    (hat : A.ownBlock = v3.ownBlock ∨ A.ownBlock = some (wr.alloc (.cells (rcells r v).toArray 53)).heap.size) (hs : ManB (Safe lo F wr.heap.size) wr v r.m) (hsl : Slim r.m) :
    ∃ F', SvK w w' lo cs F' A v4 (eo ++ [(r, v)]) ec := by
  have hb := (Below.refl wr.heap.size wr).alloc (Nat.le_refl _) (.cells (rcells r v).toArray 53)
  refine ⟨_, (h.far hb).join0 (es := [(r, v)]) rfl (by rw [flatR_one]; exact HP) hg hat (fun e he => ?_) (fun e he => ?_)⟩
  · rw [List.mem_singleton.1 he]
    exact (hs.keep fun k hk => hb.block k hk.1.1).mono fun k hk => safe_mono hb.size hk
  · rw [List.mem_singleton.1 he]; exact hsl
theorem SvK.push1 (h : SvK w wr lo cs F v3 v4 eo ec) (r : LR) (v : MV) {A : Value} (HP : Pool w' lo (up F 1 ⟨53, 9, A, ec.length + 1, flatR ec ++ rcells r v⟩)) (hg : (wr.alloc (.cells (rcells r v).toArray 53)).grownBy w' v4.ownBlock)
    (hat : A.ownBlock = v4.ownBlock ∨ A.ownBlock = some (wr.alloc (.cells (rcells r v).toArray 53)).heap.size) (hs : ManB (Safe lo F wr.heap.size) wr v r.m) (hsl : Slim r.m) :
    ∃ F', SvK w w' lo cs F' v3 A eo (ec ++ [(r, v)]) := by
  have hb := (Below.refl wr.heap.size wr).alloc (Nat.le_refl _) (.cells (rcells r v).toArray 53)
  refine ⟨_, (h.far hb).join1 (es := [(r, v)]) rfl (by rw [flatR_one]; exact HP) hg hat (fun e he => ?_) (fun e he => ?_)⟩
  · rw [List.mem_singleton.1 he]
    exact (hs.keep fun k hk => hb.block k hk.1.1).mono fun k hk => safe_mono hb.size hk
  · rw [List.mem_singleton.1 he]; exact hsl
theorem SvK.j0 {L M : List LR} {r : LR} {v : MV} (h : ∃ F', SvK w w' lo cs F' v3 v4 (eo ++ [(r, v)]) ec) (hL : eo.map Prod.fst = L) (hM : ec.map Prod.fst = M) : SvJ w w' lo cs v3 v4 (L ++ [r]) M := by
  obtain ⟨F', h⟩ := h
  exact ⟨F', _, _, h, by rw [List.map_append, hL]; rfl, hM⟩
theorem SvK.j1 {L M : List LR} {r : LR} {v : MV} (h : ∃ F', SvK w w' lo cs F' v3 v4 eo (ec ++ [(r, v)])) (hL : eo.map Prod.fst = L) (hM : ec.map Prod.fst = M) : SvJ w w' lo cs v3 v4 L (M ++ [r]) := by
  obtain ⟨F', h⟩ := h
  exact ⟨F', _, _, h, hL, by rw [List.map_append, hM]; rfl⟩
end
theorem SvJ.box {w wr : World} {lo : Nat} {cs : Array Value} {v3 v4 : Value} {L M : List LR} (h : SvJ w wr lo cs v3 v4 L M) : wr.heap[w.heap.size]? = some (.cells cs 42 (0, 0)) := by
  obtain ⟨F, eo, ec, hK, _⟩ := h
  exact hK.box
theorem SvJ.below {w wr : World} {lo : Nat} {cs : Array Value} {v3 v4 : Value} {L M : List LR} (h : SvJ w wr lo cs v3 v4 L M) : Below w.heap.size w wr := by
  obtain ⟨F, eo, ec, hK, _⟩ := h
  exact hK.below
theorem SvJ.of {w wr : World} {lo : Nat} {cs : Array Value} {v3 v4 : Value} {L L' M : List LR} (h : SvJ w wr lo cs v3 v4 L M) (e : L = L') : SvJ w wr lo cs v3 v4 L' M := e ▸ h
theorem SvJ.ofM {w wr : World} {lo : Nat} {cs : Array Value} {v3 v4 : Value} {L M M' : List LR} (h : SvJ w wr lo cs v3 v4 L M) (e : M = M') : SvJ w wr lo cs v3 v4 L M' := e ▸ h
theorem bools_cell {w : World} {b off : Nat} {l : List Bool} (h : Bools w (some ⟨b, off, none⟩) l) (k : Nat) (hk : k < l.length) : w.cell? ⟨b, off + k, none⟩ = some (.bool l[k]) := by
  rcases h.at_ with h0 | ⟨b', o', e, hc⟩
  · rw [h0] at hk; simp at hk
  · obtain ⟨rfl, rfl⟩ : b = b' ∧ off = o' := by simpa using e
    exact hc k hk
/-- How many records there are. -/
theorem many_le {f : Nat → List LR} (h : ∀ i, (f i).length ≤ 1) : ∀ k, (LedP.many f k).length ≤ k
  | 0 => Nat.le_refl _
  | k + 1 => by rw [many_succ, List.length_append]; have := many_le h k; have := h k; omega
theorem bootL_le (s : LS) : (bootL s).length ≤ 1 := by unfold bootL; split <;> simp
theorem taskL_le (s : LS) (i : Nat) : (taskL s i).length ≤ 1 := by
  unfold taskL
  split
  · simp
  · split <;> simp
theorem partL_le (s : LS) (i : Nat) : (partL s i).length ≤ 1 := by
  unfold partL
  split
  · simp
  · split <;> simp
theorem comL_le (s : LS) (i : Nat) : (comL s i).length ≤ 1 := by unfold comL; split <;> simp
theorem endL_le (s : LS) : (endL s).length ≤ 1 := by unfold endL; split <;> simp
/-- What Save answers. -/
def SavePost (w : World) (s : LS) (e : Ending) (w' : World) : Prop := ∃ A c us, e = .returned (.slice A (saveP s).length c) ∧ RecsV w' A (saveP s) us ∧ Below w.heap.size w w'
theorem SvJ.post {w wr : World} {lo : Nat} {cs : Array Value} {v3 v4 : Value} {s : LS} {M : List LR} (h : SvJ w wr lo cs v3 v4 (saveP s) M) : SavePost w s (.returned v3) wr := by
  obtain ⟨F, eo, ec, hK, hL, _⟩ := h
  obtain ⟨A, c, rfl, hR⟩ := hK.outs.read hK.slo
  rw [hL] at hR
  exact ⟨A, c, _, by rw [← hL, List.length_map], hR, hK.below⟩
end Go.Proofs.Ytmlemichkeomjaa.LedW

/- ledger.Save walked. -/
set_option linter.unusedVariables false
set_option linter.unusedSimpArgs false
namespace Go.Proofs.Ytmlemichkeomjaa.LedW
open Go.RowKit Go.Proofs.Ytmlemichkeomjaa.Base Go.Proofs.Ytmlemichkeomjaa.MendW Go.Proofs.Ytmlemichkeomjaa.ManP Go.Proofs.Ytmlemichkeomjaa.ManW Go.Proofs.Ytmlemichkeomjaa.LedP
theorem getD_of {α : Type} {l : List α} {d : α} {k : Nat} (h : k < l.length) : l.getD k d = l[k] := by simp [List.getD_eq_getElem?_getD, h]
set_option maxRecDepth 100000 in
set_option maxHeartbeats 8000000 in
theorem save_any (A2 A3 A4 A5 A6 A7 A8 : Option Addr) (c2 c3 c4 c5 c6 c7 c8 : Nat) (vs : Nat → MV) (s : LS) (w : World) (h : StateW w A2 A3 A4 A5 A6 A7 A8 vs s) :
    Calls Try.prog 40 #[.agg #[.int .i64 s.n, .int .i64 s.ep, .slice A2 s.done.length c2, .slice A3 s.done.length c3, .slice A4 s.done.length c4, .slice A5 s.has.length c5, .slice A6 s.has.length c6, .slice A7 s.has.length c7, .slice A8 s.has.length c8, .int .i64 s.fin, .int .i64 s.er]] w (SavePost w s) := by
  have hT := h.ok.few
  have hP := h.ok.fewp
  have HS := Lib.hid (fun W (hW : Below w.heap.size w W) => h.below hW)
  clear h
  go_enter Try.func40, Try.ntmps40
  go_upto_region 2 with fail
  obtain ⟨lo, HJ⟩ : ∃ lo, SvJ w (w.alloc (.cells #[.int .i64 s.n, .int .i64 s.ep, .slice A2 s.done.length c2, .slice A3 s.done.length c3, .slice A4 s.done.length c4, .slice A5 s.has.length c5, .slice A6 s.has.length c6, .slice A7 s.has.length c7, .slice A8 s.has.length c8, .int .i64 s.fin, .int .i64 s.er] 42)) lo #[.int .i64 s.n, .int .i64 s.ep, .slice A2 s.done.length c2, .slice A3 s.done.length c3, .slice A4 s.done.length c4, .slice A5 s.has.length c5, .slice A6 s.has.length c6, .slice A7 s.has.length c7, .slice A8 s.has.length c8, .int .i64 s.fin, .int .i64 s.er] (.slice none 0 0) (.slice none 0 0) [] [] := by
    obtain ⟨F, hO⟩ := Outs.start (w.alloc (.cells #[.int .i64 s.n, .int .i64 s.ep, .slice A2 s.done.length c2, .slice A3 s.done.length c3, .slice A4 s.done.length c4, .slice A5 s.has.length c5, .slice A6 s.has.length c6, .slice A7 s.has.length c7, .slice A8 s.has.length c8, .int .i64 s.fin, .int .i64 s.er] 42))
    have hz := World.size_alloc w (.cells #[.int .i64 s.n, .int .i64 s.ep, .slice A2 s.done.length c2, .slice A3 s.done.length c3, .slice A4 s.done.length c4, .slice A5 s.has.length c5, .slice A6 s.has.length c6, .slice A7 s.has.length c7, .slice A8 s.has.length c8, .int .i64 s.fin, .int .i64 s.er] 42)
    exact ⟨_, F, [], [], ⟨hO, heap_alloc_new w _, by omega, (Below.refl _ _).alloc (Nat.le_refl _) _, (fun e h => by cases h), (fun e h => by cases h)⟩, rfl, rfl⟩
  generalize w.alloc (.cells #[.int .i64 s.n, .int .i64 s.ep, .slice A2 s.done.length c2, .slice A3 s.done.length c3, .slice A4 s.done.length c4, .slice A5 s.has.length c5, .slice A6 s.has.length c6, .slice A7 s.has.length c7, .slice A8 s.has.length c8, .int .i64 s.fin, .int .i64 s.er] 42) = W at HJ ⊢
  obtain ⟨F, eo, ec, HK, hL, hM⟩ := HJ
  obtain ⟨p0, p1, p2, p3, p4, p5, p6, p7, p8, p9, p10⟩ := cells11 HK.box
  have HKK := Lib.hid HK
  have HLL := Lib.hid hL
  have HMM := Lib.hid hM
  have hle : eo.length = 0 := by rw [← List.length_map (f := Prod.fst), hL]; rfl
  have HLE := Lib.hid hle
  clear HK hL hM hle
  go_cut [9] from 7 to 9 (fun s9 wx => wx = W ∧ ∃ bb : Bool, s9 = .bool bb ∧ (bb = true ↔ 0 < s.ep))
  case first =>
    by_cases hep : 0 < s.ep
    · have he := Lib.hid hep
      go_wp2
      go_meet
      exact ⟨rfl, true, rfl, by simp [he.out]⟩
    · have he := Lib.hid hep
      go_wp2
      go_meet
      exact ⟨rfl, false, rfl, by simp [he.out]⟩
  case rest =>
  obtain ⟨rfl, bb, rfl, hbb⟩ := hcut
  rename_i KK hKK
  refine hKK _ _ ?_
  clear hKK KK
  go_cut [3] from 10 to 15 (fun s3 wx => SvJ w wx lo #[.int .i64 s.n, .int .i64 s.ep, .slice A2 s.done.length c2, .slice A3 s.done.length c3, .slice A4 s.done.length c4, .slice A5 s.has.length c5, .slice A6 s.has.length c6, .slice A7 s.has.length c7, .slice A8 s.has.length c8, .int .i64 s.fin, .int .i64 s.er] s3 (.slice none 0 0) (bootL s) [])
  case first =>
    cases bb with
    | true =>
      have hep := hbb.1 rfl
      have e : bootL s = [] ++ [⟨0, s.ep, 0, E0, noMan⟩] := by unfold bootL; rw [if_pos hep]; rfl
      have HE := Lib.hid e
      clear e hbb
      go_wp2_with (at_builtin; go_loud (refine pool_wide rfl (.tmp 10) (.tmp 14) 92 53 9 (.agg #[.int .i64 0, .int .i64 0, .int .i64 0, .string ByteArray.empty, .int .i64 0, .int .i64 0, .slice none 0 0, .slice none 0 0, .slice none 0 0]) 128 rfl Try.underlying92 info_recs rfl (by omega) 0 HKK.out.outs.out 1 1 (some ⟨wc.heap.size, 0, none⟩) (rcells ⟨0, s.ep, 0, E0, noMan⟩ noMV) rfl rfl rfl (.inr ⟨wc.heap.size, 0, rfl, fun j u hj => src_box wc _ _ j u hj⟩) (rcells_one _ _) (HKK.out.outs.below ((Below.refl _ _).alloc (Nat.le_refl _) _)).pool (HKK.out.outs.below ((Below.refl _ _).alloc (Nat.le_refl _) _)).ll (by have := HLE.out; omega) (by have := HLE.out; omega) ?_; intro A1 c1 w1 HP1 hg1 hat1; have HK1 := Lib.hid (SvK.j0 (HKK.out.push0 ⟨0, s.ep, 0, E0, noMan⟩ noMV HP1 hg1 hat1 (ManB.no _ _) slim_no) HLL.out HMM.out)))
      go_meet
      rw [HE.out]
      exact HK1.out
    | false =>
      have hep : ¬ 0 < s.ep := fun h => absurd (hbb.2 h) (by decide)
      have e : bootL s = [] := by unfold bootL; rw [if_neg hep]
      have HE := Lib.hid e
      clear e hbb
      go_wp2
      go_meet
      rw [HE.out]
      exact ⟨_, _, _, HKK.out, HLL.out, HMM.out⟩
  case rest =>
  clear HKK HLL HMM HLE hbb p0 p1 p2 p3 p4 p5 p6 p7 p8 p9 p10 eo ec F
  have HJ := Lib.hid hcut
  clear hcut
  have hbx := HJ.out.box
  have q2 : wc.cell? ⟨w.heap.size, 2, none⟩ = some (.slice A2 s.done.length c2) := by rw [cell_of_row _ _ _ _ _ _ hbx]; rfl
  clear hbx
  go_wp2
  go_loopw [3, 19] (fun v3 i wr => ∃ k : Nat, k ≤ s.done.length ∧ i = .int .i64 k ∧ SvJ w wr lo #[.int .i64 s.n, .int .i64 s.ep, .slice A2 s.done.length c2, .slice A3 s.done.length c3, .slice A4 s.done.length c4, .slice A5 s.has.length c5, .slice A6 s.has.length c6, .slice A7 s.has.length c7, .slice A8 s.has.length c8, .int .i64 s.fin, .int .i64 s.er] v3 (.slice none 0 0) (bootL s ++ many (taskL s) k) []) (fun _ i _ => s.done.length - (intOf i).toNat)
  case atStart => exact ⟨0, by omega, rfl, by rw [many_zero, List.append_nil]; exact HJ.out⟩
  case round =>
    clear HJ q2
    obtain ⟨k, hk, rfl, hJ⟩ := hrel
    obtain ⟨F, eo, ec, HK, hL, hM⟩ := hJ
    have HST := HS.out wr HK.below
    obtain ⟨p0, p1, p2, p3, p4, p5, p6, p7, p8, p9, p10⟩ := cells11 HK.box
    have HKK := Lib.hid HK
    have HLL := Lib.hid hL
    have HMM := Lib.hid hM
    have HLE := Lib.hid (show eo.length ≤ 40 by
      rw [← List.length_map (f := Prod.fst), hL, List.length_append]
      have a := bootL_le s
      have b := many_le (taskL_le s) k
      omega)
    by_cases hlt : k < s.done.length
    · have hml := HST.ok.lm
      have htl := HST.ok.lt
      have hkm : k < s.ms.length := by omega
      have hkt : k < s.te.length := by omega
      obtain ⟨bd, od, rfl, hd1⟩ := HST.d.at_.resolve_left (fun h => by rw [h] at hlt; simp at hlt)
      obtain ⟨bm, om, rfl, m0, m1, m2, m3, m4⟩ := HST.m.cells k hkm
      obtain ⟨bt, ot, rfl, ht1⟩ := HST.t.at_.resolve_left (fun h => by rw [h] at hkt; simp at hkt)
      have d0 := hd1 k hlt
      have t0 := ht1 k hkt
      have hms := HST.ok.slim _ (List.getElem_mem hkm)
      have hmv := HST.m.man k hkm
      have HTL := Lib.hid (show taskL s k = if s.done[k] = true then [⟨1, 0, 0, E0, s.ms[k]⟩] else if s.te[k] ≠ 0 then [⟨2, k, s.te[k], E0, noMan⟩] else [] by
        unfold taskL; rw [getD_of hlt, getD_of hkm, getD_of hkt])
      generalize s.done[k] = dk at d0 HTL
      generalize s.te[k] = tk at t0 HTL
      generalize s.ms[k] = mk at m0 m1 m2 m3 m4 hms hmv HTL
      generalize vs k = vk at m2 m3 m4 hmv
      have HMC := Lib.hid (man_clone hmv hms)
      have HMS := Lib.hid hms
      have HMA := Lib.hid (many_succ (taskL s) k)
      clear hd1 ht1 hmv hms HST hml htl hkm hkt HK hL hM
      cases dk with
      | true =>
        have HT2 := Lib.hid (show taskL s k = [⟨1, 0, 0, E0, mk⟩] by rw [HTL.out, if_pos rfl])
        clear HTL
        go_wp2_with (first | (go_at_call 77; (with_reducible refine (HMC.out).mono ?_); rintro e w2 ⟨v2, rfl, hMN, hd⟩; have HK2 := Lib.hid (HKK.out.far hd); have HMD := Lib.hid (HKK.out.outs.made hMN)) | (at_builtin; refine pool_wide rfl (.tmp 28) (.tmp 36) 92 53 9 (.agg #[.int .i64 0, .int .i64 0, .int .i64 0, .string ByteArray.empty, .int .i64 0, .int .i64 0, .slice none 0 0, .slice none 0 0, .slice none 0 0]) 128 rfl Try.underlying92 info_recs rfl (by omega) 0 HK2.out.outs.out 1 1 (some ⟨w2.heap.size, 0, none⟩) (rcells ⟨1, 0, 0, E0, mk⟩ v2) rfl rfl rfl (.inr ⟨w2.heap.size, 0, rfl, fun j u hj => src_box w2 _ _ j u hj⟩) (rcells_one _ _) (HK2.out.outs.below ((Below.refl _ _).alloc (Nat.le_refl _) _)).pool (HK2.out.outs.below ((Below.refl _ _).alloc (Nat.le_refl _) _)).ll (by have := HLE.out; omega) (by have := HLE.out; omega) ?_; intro A1 c1 w1 HP1 hg1 hat1; have HK1 := Lib.hid (SvK.j0 (HK2.out.push0 ⟨1, 0, 0, E0, mk⟩ v2 HP1 hg1 hat1 HMD.out HMS.out) HLL.out HMM.out)))
        go_roundw
        case rel => exact ⟨k + 1, by omega, by go_num, by rw [HMA.out, HT2.out, ← List.append_assoc]; exact HK1.out⟩
        case measure => simp [intOf]; omega
      | false =>
        by_cases hte : tk = 0
        · have ht : (tk != 0) = false := by simp [hte]
          have HT2 := Lib.hid (show taskL s k = [] by rw [HTL.out, if_neg (by decide), if_neg (by simp [hte])])
          clear HTL hte
          go_wp2
          go_roundw
          case rel => exact ⟨k + 1, by omega, by go_num, by rw [HMA.out, HT2.out, List.append_nil]; exact ⟨_, _, _, HKK.out, HLL.out, HMM.out⟩⟩
          case measure => simp [intOf]; omega
        · have ht : (tk != 0) = true := by simp [hte]
          have HT2 := Lib.hid (show taskL s k = [⟨2, k, tk, E0, noMan⟩] by rw [HTL.out, if_neg (by decide), if_pos hte])
          clear HTL hte
          go_wp2_with (at_builtin; refine pool_wide rfl (.tmp 45) (.tmp 53) 92 53 9 (.agg #[.int .i64 0, .int .i64 0, .int .i64 0, .string ByteArray.empty, .int .i64 0, .int .i64 0, .slice none 0 0, .slice none 0 0, .slice none 0 0]) 128 rfl Try.underlying92 info_recs rfl (by omega) 0 HKK.out.outs.out 1 1 (some ⟨wr.heap.size, 0, none⟩) (rcells ⟨2, k, tk, E0, noMan⟩ noMV) rfl rfl rfl (.inr ⟨wr.heap.size, 0, rfl, fun j u hj => src_box wr _ _ j u hj⟩) (rcells_one _ _) (HKK.out.outs.below ((Below.refl _ _).alloc (Nat.le_refl _) _)).pool (HKK.out.outs.below ((Below.refl _ _).alloc (Nat.le_refl _) _)).ll (by have := HLE.out; omega) (by have := HLE.out; omega) ?_; intro A1 c1 w1 HP1 hg1 hat1; have HK1 := Lib.hid (SvK.j0 (HKK.out.push0 ⟨2, k, tk, E0, noMan⟩ noMV HP1 hg1 hat1 (ManB.no _ _) slim_no) HLL.out HMM.out))
          go_roundw
          case rel => exact ⟨k + 1, by omega, by go_num, by rw [HMA.out, HT2.out, ← List.append_assoc]; exact HK1.out⟩
          case measure => simp [intOf]; omega
    · obtain rfl : k = s.done.length := by omega
      have HJ := Lib.hid (show ∃ F eo ec, SvK w wr lo #[.int .i64 s.n, .int .i64 s.ep, .slice A2 s.done.length c2, .slice A3 s.done.length c3, .slice A4 s.done.length c4, .slice A5 s.has.length c5, .slice A6 s.has.length c6, .slice A7 s.has.length c7, .slice A8 s.has.length c8, .int .i64 s.fin, .int .i64 s.er] F u3 (.slice none 0 0) eo ec ∧ eo.map Prod.fst = bootL s ++ many (taskL s) s.done.length ∧ ec.map Prod.fst = [] from ⟨_, _, _, HKK.out, HLL.out, HMM.out⟩)
      clear HK hL hM HKK HLL HMM HLE HST p0 p1 p2 p3 p4 p6 p7 p8 p9 p10 F eo ec hlt hk
      go_wp2
      go_loopw [3, 4, 59] (fun v3 v4 i wr => ∃ k : Nat, k ≤ s.has.length ∧ i = .int .i64 k ∧ SvJ w wr lo #[.int .i64 s.n, .int .i64 s.ep, .slice A2 s.done.length c2, .slice A3 s.done.length c3, .slice A4 s.done.length c4, .slice A5 s.has.length c5, .slice A6 s.has.length c6, .slice A7 s.has.length c7, .slice A8 s.has.length c8, .int .i64 s.fin, .int .i64 s.er] v3 v4 (bootL s ++ many (taskL s) s.done.length ++ many (partL s) k) (many (comL s) k)) (fun _ _ i _ => s.has.length - (intOf i).toNat)
      case atStart => exact ⟨0, by omega, rfl, by rw [many_zero, many_zero, List.append_nil]; exact HJ.out⟩
      case round =>
        clear HJ p5
        obtain ⟨k, hk, rfl, hJ⟩ := hrel
        obtain ⟨F, eo, ec, HK, hL, hM⟩ := hJ
        have HST := HS.out _ HK.below
        obtain ⟨p0, p1, p2, p3, p4, p5, p6, p7, p8, p9, p10⟩ := cells11 HK.box
        have HKK := Lib.hid HK
        have HLL := Lib.hid hL
        have HMM := Lib.hid hM
        have HLE := Lib.hid (show eo.length ≤ 40 by
          rw [← List.length_map (f := Prod.fst), hL, List.length_append, List.length_append]
          have a := bootL_le s
          have b := many_le (taskL_le s) s.done.length
          have c := many_le (partL_le s) k
          omega)
        by_cases hlt : k < s.has.length
        · have hrl := HST.ok.lr
          have hpl := HST.ok.lp
          have hcl := HST.ok.lc
          have hkr : k < s.res.length := by omega
          have hkp : k < s.pe.length := by omega
          have hkc : k < s.com.length := by omega
          obtain ⟨bh, oh, rfl, hh1⟩ := HST.h.at_.resolve_left (fun h => by rw [h] at hlt; simp at hlt)
          obtain ⟨br, or_, rfl, hr1⟩ := HST.r.block (by omega)
          obtain ⟨bp, op, rfl, hp1⟩ := HST.p.at_.resolve_left (fun h => by rw [h] at hkp; simp at hkp)
          obtain ⟨bc, oc, rfl, hc1⟩ := HST.c.at_.resolve_left (fun h => by rw [h] at hkc; simp at hkc)
          have h0 := hh1 k hlt
          have r0 := hr1 k hkr
          have e0 := hp1 k hkp
          have HPL := Lib.hid (show partL s k = if s.has[k] = true then [⟨4, k, 0, s.res[k], noMan⟩] else if s.pe[k] ≠ 0 then [⟨5, k, s.pe[k], E0, noMan⟩] else [] by
            unfold partL; rw [getD_of hlt, getD_of hkr, getD_of hkp])
          generalize s.has[k] = dk at h0 HPL
          generalize s.pe[k] = tk at e0 HPL
          generalize s.res[k] = rk at r0 HPL
          have HMA := Lib.hid (many_succ (partL s) k)
          clear hh1 hr1 hp1 hc1 HST hrl hpl hcl hkr hkp HK hL hM
          cases dk with
          | true =>
            have HT2 := Lib.hid (show bootL s ++ many (taskL s) s.done.length ++ many (partL s) k ++ [⟨4, k, 0, rk, noMan⟩] = bootL s ++ many (taskL s) s.done.length ++ many (partL s) (k + 1) by rw [HMA.out, HPL.out, if_pos rfl, List.append_assoc (bootL s ++ many (taskL s) s.done.length)])
            clear HPL HMA
            go_upto_region 19 with (at_builtin; refine pool_wide rfl (.tmp 68) (.tmp 76) 92 53 9 (.agg #[.int .i64 0, .int .i64 0, .int .i64 0, .string ByteArray.empty, .int .i64 0, .int .i64 0, .slice none 0 0, .slice none 0 0, .slice none 0 0]) 128 rfl Try.underlying92 info_recs rfl (by omega) 0 HKK.out.outs.out 1 1 (some ⟨wr.heap.size, 0, none⟩) (rcells ⟨4, k, 0, rk, noMan⟩ noMV) rfl rfl rfl (.inr ⟨wr.heap.size, 0, rfl, fun j u hj => src_box wr _ _ j u hj⟩) (rcells_one _ _) (HKK.out.outs.below ((Below.refl _ _).alloc (Nat.le_refl _) _)).pool (HKK.out.outs.below ((Below.refl _ _).alloc (Nat.le_refl _) _)).ll (by have := HLE.out; omega) (by have := HLE.out; omega) ?_; intro A1 c1 w1 HP1 hg1 hat1; have HK1 := Lib.hid (SvK.j0 (HKK.out.push0 ⟨4, k, 0, rk, noMan⟩ noMV HP1 hg1 hat1 (ManB.no _ _) slim_no) HLL.out HMM.out); clear HP1 hg1 hat1)
            have HJA := Lib.hid (HK1.out.of HT2.out)
            clear HK1 HKK HLL HMM HLE p0 p1 p2 p3 p4 p5 p6 p7 p8 p9 p10 h0 r0 e0
            have HKX := HJA.out
            obtain ⟨F2, eo2, ec2, HK2, hL2, hM2⟩ := HKX
            have q8 := (cells11 HK2.box).2.2.2.2.2.2.2.2.1
            have c0 := bools_cell (HS.out _ HK2.below).c k hkc
            have HCL := Lib.hid (show comL s k = if s.com[k] = true then [⟨6, k, 0, E0, noMan⟩] else [] by unfold comL; rw [getD_of hkc])
            generalize s.com[k] = ck at c0 HCL
            have HKB := Lib.hid HK2
            have HLB := Lib.hid hL2
            have HMB := Lib.hid hM2
            have HLEB := Lib.hid (show ec2.length ≤ 40 by
              rw [← List.length_map (f := Prod.fst), hM2]
              have b := many_le (comL_le s) k
              omega)
            clear HK2 hL2 hM2
            cases ck with
            | true =>
              have HC2 := Lib.hid (show many (comL s) (k + 1) = many (comL s) k ++ [⟨6, k, 0, E0, noMan⟩] by rw [many_succ, HCL.out, if_pos rfl])
              clear HCL
              go_wp2_with (at_builtin; refine pool_wide rfl (.tmp 100) (.tmp 103) 92 53 9 (.agg #[.int .i64 0, .int .i64 0, .int .i64 0, .string ByteArray.empty, .int .i64 0, .int .i64 0, .slice none 0 0, .slice none 0 0, .slice none 0 0]) 128 rfl Try.underlying92 info_recs rfl (by omega) 1 HKB.out.outs.com 1 1 (some ⟨w1.heap.size, 0, none⟩) (rcells ⟨6, k, 0, E0, noMan⟩ noMV) rfl rfl rfl (.inr ⟨w1.heap.size, 0, rfl, fun j u hj => src_box w1 _ _ j u hj⟩) (rcells_one _ _) (HKB.out.outs.below ((Below.refl _ _).alloc (Nat.le_refl _) _)).pool (HKB.out.outs.below ((Below.refl _ _).alloc (Nat.le_refl _) _)).ll (by have := HLEB.out; omega) (by have := HLEB.out; omega) ?_; intro A1 c1 w9 HP1 hg1 hat1; have HK9 := Lib.hid (SvK.j1 (HKB.out.push1 ⟨6, k, 0, E0, noMan⟩ noMV HP1 hg1 hat1 (ManB.no _ _) slim_no) HLB.out HMB.out); clear HP1 hg1 hat1)
              go_roundw
              case rel => exact ⟨k + 1, by omega, by go_num, HK9.out.ofM HC2.out.symm⟩
              case measure => simp [intOf]; omega
            | false =>
              have HC2 := Lib.hid (show many (comL s) (k + 1) = many (comL s) k by rw [many_succ, HCL.out, if_neg (by decide), List.append_nil])
              clear HCL
              go_wp2
              go_roundw
              case rel => exact ⟨k + 1, by omega, by go_num, HJA.out.ofM HC2.out.symm⟩
              case measure => simp [intOf]; omega
          | false =>
            by_cases hte : tk = 0
            · have ht : (tk != 0) = false := by simp [hte]
              have HT2 := Lib.hid (show bootL s ++ many (taskL s) s.done.length ++ many (partL s) k = bootL s ++ many (taskL s) s.done.length ++ many (partL s) (k + 1) by rw [HMA.out, HPL.out, if_neg (by decide), if_neg (by simp [hte]), List.append_nil])
              clear HPL HMA hte
              go_upto_region 19 with fail
              have HJA := Lib.hid (SvJ.of ⟨_, _, _, HKK.out, HLL.out, HMM.out⟩ HT2.out)
              clear HKK HLL HMM HLE p0 p1 p2 p3 p4 p5 p6 p7 p8 p9 p10 h0 r0 e0
              have HKX := HJA.out
              obtain ⟨F2, eo2, ec2, HK2, hL2, hM2⟩ := HKX
              have q8 := (cells11 HK2.box).2.2.2.2.2.2.2.2.1
              have c0 := bools_cell (HS.out _ HK2.below).c k hkc
              have HCL := Lib.hid (show comL s k = if s.com[k] = true then [⟨6, k, 0, E0, noMan⟩] else [] by unfold comL; rw [getD_of hkc])
              generalize s.com[k] = ck at c0 HCL
              have HKB := Lib.hid HK2
              have HLB := Lib.hid hL2
              have HMB := Lib.hid hM2
              have HLEB := Lib.hid (show ec2.length ≤ 40 by
                rw [← List.length_map (f := Prod.fst), hM2]
                have b := many_le (comL_le s) k
                omega)
              clear HK2 hL2 hM2
              cases ck with
              | true =>
                have HC2 := Lib.hid (show many (comL s) (k + 1) = many (comL s) k ++ [⟨6, k, 0, E0, noMan⟩] by rw [many_succ, HCL.out, if_pos rfl])
                clear HCL
                go_wp2_with (at_builtin; refine pool_wide rfl (.tmp 100) (.tmp 103) 92 53 9 (.agg #[.int .i64 0, .int .i64 0, .int .i64 0, .string ByteArray.empty, .int .i64 0, .int .i64 0, .slice none 0 0, .slice none 0 0, .slice none 0 0]) 128 rfl Try.underlying92 info_recs rfl (by omega) 1 HKB.out.outs.com 1 1 (some ⟨wr.heap.size, 0, none⟩) (rcells ⟨6, k, 0, E0, noMan⟩ noMV) rfl rfl rfl (.inr ⟨wr.heap.size, 0, rfl, fun j u hj => src_box wr _ _ j u hj⟩) (rcells_one _ _) (HKB.out.outs.below ((Below.refl _ _).alloc (Nat.le_refl _) _)).pool (HKB.out.outs.below ((Below.refl _ _).alloc (Nat.le_refl _) _)).ll (by have := HLEB.out; omega) (by have := HLEB.out; omega) ?_; intro A1 c1 w9 HP1 hg1 hat1; have HK9 := Lib.hid (SvK.j1 (HKB.out.push1 ⟨6, k, 0, E0, noMan⟩ noMV HP1 hg1 hat1 (ManB.no _ _) slim_no) HLB.out HMB.out); clear HP1 hg1 hat1)
                go_roundw
                case rel => exact ⟨k + 1, by omega, by go_num, HK9.out.ofM HC2.out.symm⟩
                case measure => simp [intOf]; omega
              | false =>
                have HC2 := Lib.hid (show many (comL s) (k + 1) = many (comL s) k by rw [many_succ, HCL.out, if_neg (by decide), List.append_nil])
                clear HCL
                go_wp2
                go_roundw
                case rel => exact ⟨k + 1, by omega, by go_num, HJA.out.ofM HC2.out.symm⟩
                case measure => simp [intOf]; omega
            · have ht : (tk != 0) = true := by simp [hte]
              have HT2 := Lib.hid (show bootL s ++ many (taskL s) s.done.length ++ many (partL s) k ++ [⟨5, k, tk, E0, noMan⟩] = bootL s ++ many (taskL s) s.done.length ++ many (partL s) (k + 1) by rw [HMA.out, HPL.out, if_neg (by decide), if_pos hte, List.append_assoc (bootL s ++ many (taskL s) s.done.length)])
              clear HPL HMA hte
              go_upto_region 19 with (at_builtin; refine pool_wide rfl (.tmp 85) (.tmp 93) 92 53 9 (.agg #[.int .i64 0, .int .i64 0, .int .i64 0, .string ByteArray.empty, .int .i64 0, .int .i64 0, .slice none 0 0, .slice none 0 0, .slice none 0 0]) 128 rfl Try.underlying92 info_recs rfl (by omega) 0 HKK.out.outs.out 1 1 (some ⟨wr.heap.size, 0, none⟩) (rcells ⟨5, k, tk, E0, noMan⟩ noMV) rfl rfl rfl (.inr ⟨wr.heap.size, 0, rfl, fun j u hj => src_box wr _ _ j u hj⟩) (rcells_one _ _) (HKK.out.outs.below ((Below.refl _ _).alloc (Nat.le_refl _) _)).pool (HKK.out.outs.below ((Below.refl _ _).alloc (Nat.le_refl _) _)).ll (by have := HLE.out; omega) (by have := HLE.out; omega) ?_; intro A1 c1 w1 HP1 hg1 hat1; have HK1 := Lib.hid (SvK.j0 (HKK.out.push0 ⟨5, k, tk, E0, noMan⟩ noMV HP1 hg1 hat1 (ManB.no _ _) slim_no) HLL.out HMM.out); clear HP1 hg1 hat1)
              have HJA := Lib.hid (HK1.out.of HT2.out)
              clear HK1 HKK HLL HMM HLE p0 p1 p2 p3 p4 p5 p6 p7 p8 p9 p10 h0 r0 e0
              have HKX := HJA.out
              obtain ⟨F2, eo2, ec2, HK2, hL2, hM2⟩ := HKX
              have q8 := (cells11 HK2.box).2.2.2.2.2.2.2.2.1
              have c0 := bools_cell (HS.out _ HK2.below).c k hkc
              have HCL := Lib.hid (show comL s k = if s.com[k] = true then [⟨6, k, 0, E0, noMan⟩] else [] by unfold comL; rw [getD_of hkc])
              generalize s.com[k] = ck at c0 HCL
              have HKB := Lib.hid HK2
              have HLB := Lib.hid hL2
              have HMB := Lib.hid hM2
              have HLEB := Lib.hid (show ec2.length ≤ 40 by
                rw [← List.length_map (f := Prod.fst), hM2]
                have b := many_le (comL_le s) k
                omega)
              clear HK2 hL2 hM2
              cases ck with
              | true =>
                have HC2 := Lib.hid (show many (comL s) (k + 1) = many (comL s) k ++ [⟨6, k, 0, E0, noMan⟩] by rw [many_succ, HCL.out, if_pos rfl])
                clear HCL
                go_wp2_with (at_builtin; refine pool_wide rfl (.tmp 100) (.tmp 103) 92 53 9 (.agg #[.int .i64 0, .int .i64 0, .int .i64 0, .string ByteArray.empty, .int .i64 0, .int .i64 0, .slice none 0 0, .slice none 0 0, .slice none 0 0]) 128 rfl Try.underlying92 info_recs rfl (by omega) 1 HKB.out.outs.com 1 1 (some ⟨w1.heap.size, 0, none⟩) (rcells ⟨6, k, 0, E0, noMan⟩ noMV) rfl rfl rfl (.inr ⟨w1.heap.size, 0, rfl, fun j u hj => src_box w1 _ _ j u hj⟩) (rcells_one _ _) (HKB.out.outs.below ((Below.refl _ _).alloc (Nat.le_refl _) _)).pool (HKB.out.outs.below ((Below.refl _ _).alloc (Nat.le_refl _) _)).ll (by have := HLEB.out; omega) (by have := HLEB.out; omega) ?_; intro A1 c1 w9 HP1 hg1 hat1; have HK9 := Lib.hid (SvK.j1 (HKB.out.push1 ⟨6, k, 0, E0, noMan⟩ noMV HP1 hg1 hat1 (ManB.no _ _) slim_no) HLB.out HMB.out); clear HP1 hg1 hat1)
                go_roundw
                case rel => exact ⟨k + 1, by omega, by go_num, HK9.out.ofM HC2.out.symm⟩
                case measure => simp [intOf]; omega
              | false =>
                have HC2 := Lib.hid (show many (comL s) (k + 1) = many (comL s) k by rw [many_succ, HCL.out, if_neg (by decide), List.append_nil])
                clear HCL
                go_wp2
                go_roundw
                case rel => exact ⟨k + 1, by omega, by go_num, HJA.out.ofM HC2.out.symm⟩
                case measure => simp [intOf]; omega
        · obtain rfl : k = s.has.length := by omega
          have HLE2 := Lib.hid (show ec.length ≤ 40 by
            rw [← List.length_map (f := Prod.fst), hM]
            have b := many_le (comL_le s) s.has.length
            omega)
          have HEQ := Lib.hid (show (eo ++ ec).map Prod.fst = outL s ++ many (comL s) s.has.length by rw [List.map_append, hL, hM]; rfl)
          obtain ⟨B4, c4', rfl, hsrc⟩ := HK.outs.src
          have HSRC := Lib.hid hsrc
          clear hsrc HK hL hM HLL HST hlt hk p0 p1 p2 p3 p4 p5 p6 p7 p8 p9 p10
          go_upto_region 23 with (at_builtin; refine pool_wide rfl (.tmp 106) (.tmp 107) 92 53 9 (.agg #[.int .i64 0, .int .i64 0, .int .i64 0, .string ByteArray.empty, .int .i64 0, .int .i64 0, .slice none 0 0, .slice none 0 0, .slice none 0 0]) 128 rfl Try.underlying92 info_recs rfl (by omega) 0 HKK.out.outs.out ec.length c4' B4 (flatR ec) rfl rfl (flatR_length ec) HSRC.out (flatR_cell ec) HKK.out.outs.pool HKK.out.outs.ll (by have := HLE.out; have := HLE2.out; omega) (by have := HLE.out; have := HLE2.out; omega) ?_; intro A1 c1 w1 HP1 hg1 hat1; have HK1 := Lib.hid (HKK.out.join0 rfl HP1 hg1 hat1 HKK.out.outs.manc HKK.out.slc); clear HP1 hg1 hat1)
          have HLE3 := Lib.hid (show (eo ++ ec).length ≤ 80 by rw [List.length_append]; have := HLE.out; have := HLE2.out; omega)
          have hx := HK1.out
          obtain ⟨p0, p1, p2, p3, p4, p5, p6, p7, p8, p9, p10⟩ := cells11 hx.box
          clear HKK HSRC hx HLE HLE2
          obtain ⟨F9, hF9⟩ : ∃ F9, F9 = up F 0 ⟨53, 9, .slice A1 (eo.length + ec.length) c1, eo.length + ec.length, flatR eo ++ flatR ec⟩ := ⟨_, rfl⟩
          have HKK := HK1
          rw [← hF9] at HKK
          clear HK1 hF9
          generalize eo.length + ec.length = n9 at HKK ⊢
          have HLE := HLE3
          have HLL := HEQ
          clear HLE3 HEQ
          generalize eo ++ ec = e9 at HKK HLE HLL
          by_cases hf : s.fin = 0
          · have tf : (s.fin != 0) = false := by simp [hf]
            have HE := Lib.hid (show outL s ++ many (comL s) s.has.length = saveP s by unfold saveP endL; rw [if_neg (by simp [hf]), List.append_nil])
            clear hf
            go_wp2
            go_ret
            exact SvJ.post (M := many (comL s) s.has.length) (SvJ.of ⟨_, _, _, HKK.out, HLL.out, HMM.out⟩ HE.out)
          · have tf : (s.fin != 0) = true := by simp [hf]
            have HE := Lib.hid (show outL s ++ many (comL s) s.has.length ++ [⟨7, s.fin, s.er, E0, noMan⟩] = saveP s by unfold saveP endL; rw [if_pos hf])
            clear hf
            go_wp2_with (at_builtin; refine pool_wide rfl (.tmp 112) (.tmp 118) 92 53 9 (.agg #[.int .i64 0, .int .i64 0, .int .i64 0, .string ByteArray.empty, .int .i64 0, .int .i64 0, .slice none 0 0, .slice none 0 0, .slice none 0 0]) 128 rfl Try.underlying92 info_recs rfl (by omega) 0 HKK.out.outs.out 1 1 (some ⟨w1.heap.size, 0, none⟩) (rcells ⟨7, s.fin, s.er, E0, noMan⟩ noMV) rfl rfl rfl (.inr ⟨w1.heap.size, 0, rfl, fun j u hj => src_box w1 _ _ j u hj⟩) (rcells_one _ _) (HKK.out.outs.below ((Below.refl _ _).alloc (Nat.le_refl _) _)).pool (HKK.out.outs.below ((Below.refl _ _).alloc (Nat.le_refl _) _)).ll (by have := HLE.out; omega) (by have := HLE.out; omega) ?_; intro A1 c1 w2 HP1 hg1 hat1; have HK9 := Lib.hid (SvK.j0 (HKK.out.push0 ⟨7, s.fin, s.er, E0, noMan⟩ noMV HP1 hg1 hat1 (ManB.no _ _) slim_no) HLL.out HMM.out); clear HP1 hg1 hat1)
            go_ret
            exact SvJ.post (HK9.out.of HE.out)
end Go.Proofs.Ytmlemichkeomjaa.LedW

/- For LedgerSave: which records have bytes; what is kept about the journal. -/
set_option linter.unusedVariables false
set_option linter.unusedSimpArgs false
namespace Go.Proofs.Ytmlemichkeomjaa.LedW
open Go.RowKit Go.Proofs.Ytmlemichkeomjaa.Base Go.Proofs.Ytmlemichkeomjaa.MendW Go.Proofs.Ytmlemichkeomjaa.ManP Go.Proofs.Ytmlemichkeomjaa.ManW Go.Proofs.Ytmlemichkeomjaa.LedP Go.Proofs.Ytmlemichkeomjaa.JrnP Go.Proofs.Ytmlemichkeomjaa.JrnW
theorem rows_mem {x : Int} : ∀ {A B : List Int} {H : List (List Int)}, x ∈ rows A B H → x ∈ A ∨ x ∈ B ∨ ∃ h ∈ H, x = (h.length : Nat) ∨ x ∈ h
  | a :: A, b :: B, h :: H, hx => by
    simp only [rows, List.mem_cons, List.mem_append] at hx
    rcases hx with rfl | rfl | rfl | hx | hx
    · exact .inl (List.mem_cons_self ..)
    · exact .inr (.inl (List.mem_cons_self ..))
    · exact .inr (.inr ⟨h, List.mem_cons_self .., .inl rfl⟩)
    · exact .inr (.inr ⟨h, List.mem_cons_self .., .inr hx⟩)
    · rcases rows_mem hx with h1 | h1 | ⟨l, hl, h1⟩
      · exact .inl (List.mem_cons_of_mem _ h1)
      · exact .inr (.inl (List.mem_cons_of_mem _ h1))
      · exact .inr (.inr ⟨l, List.mem_cons_of_mem _ hl, h1⟩)
  | [], _, _, hx => by simp [rows] at hx
  | _ :: _, [], _, hx => by simp [rows] at hx
  | _ :: _, _ :: _, [], hx => by simp [rows] at hx
theorem fit_right {m : Man} {p n : Int} (h : right m p n = true) (hs : ∀ y ∈ m.sm, 0 ≤ y ∧ y ≤ 4294967295) (hl : Slim m) : Fit m := by
  unfold right rightB at h
  simp only [Bool.and_eq_true, decide_eq_true_eq, Bool.not_eq_true', idB] at h
  obtain ⟨⟨⟨⟨⟨⟨h1, h2⟩, h3⟩, h4⟩, h5⟩, h6⟩, h7⟩ := h
  rw [List.any_eq_false] at h6 h7
  have hz := hl.sz
  refine ⟨by omega, by omega, fun x hx => ?_⟩
  unfold okN
  simp only [listL, List.mem_cons] at hx
  rcases hx with rfl | rfl | rfl | hx
  · omega
  · omega
  · omega
  · rcases rows_mem hx with h8 | h8 | ⟨l, hl2, h8⟩
    · have := h6 x h8
      unfold badS at this
      simp only [Bool.or_eq_true, decide_eq_true_eq] at this
      omega
    · have := hs x h8
      omega
    · rcases h8 with rfl | h8
      · have := hl.row l hl2
        omega
      · have h9 := h7 l hl2
        unfold badH at h9
        have hH : Homely l n := by
          refine Classical.byContradiction fun hc => h9 ?_
          rw [homelyD_false hc]
          rfl
        obtain ⟨j, hj, rfl⟩ := List.mem_iff_getElem.1 h8
        have := hH.rng j hj
        omega
/-- A record that went through has bytes. -/
theorem good_wire {s : LS} {r : LR} (h : (applyP s r).2 = 0) (hs : Slim r.m) (ht : r.text.size ≤ 1048576) (hu : ∀ y ∈ r.m.sm, 0 ≤ y ∧ y ≤ 4294967295) : GoodR (wire r) := by
  have hb := did_range h
  unfold badR at hb
  have hd := apply_did h
  obtain ⟨k, n, e, t, m⟩ := r
  dsimp only at hs ht hu hb
  by_cases hk : k = 1
  · have hr : right m s.has.length s.n = true := by
      generalize (applyP s ⟨k, n, e, t, m⟩).1 = s' at hd
      cases hd with
      | done a h1 h2 h3 => exact h3
      | boot h1 => dsimp only at h1; omega
      | taskErr a h1 => dsimp only at h1; omega
      | lost a h1 => dsimp only at h1; omega
      | result a h1 => dsimp only at h1; omega
      | partErr a h1 => dsimp only at h1; omega
      | commit a h1 => dsimp only at h1; omega
      | fin h1 => dsimp only at h1; omega
    unfold wire
    dsimp only
    rw [if_pos hk]
    exact ⟨by dsimp only; omega, by dsimp only; omega, by dsimp only; omega, ht, fun _ => ⟨fit_right hr hu hs, hu⟩, hs, fun h => absurd hk h⟩
  · unfold wire
    dsimp only
    rw [if_neg hk]
    exact ⟨by dsimp only; omega, by dsimp only; omega, by dsimp only; omega, ht, fun h => absurd h hk, slim_no, fun _ => rfl⟩
theorem enc_wire (r : LR) : encR (wire r) = encR r := by
  obtain ⟨k, n, e, t, m⟩ := r
  unfold wire encR encM
  dsimp only
  by_cases hk : k = 1
  · rw [if_pos hk, if_pos hk, if_pos hk]
  · rw [if_neg hk, if_neg hk]
theorem mem_many {f : Nat → List LR} {k : Nat} {r : LR} (h : r ∈ many f k) : ∃ i, i < k ∧ r ∈ f i := by
  unfold many at h
  obtain ⟨i, hi, hr⟩ := List.mem_flatMap.1 h
  exact ⟨i, List.mem_range.1 hi, hr⟩
/-- What Save answers has bytes. -/
theorem good_save {t p : Nat} {n : Int} {s : LS} (h : LedP.Reach t p n s) (hu : ∀ m ∈ s.ms, ∀ y ∈ m.sm, 0 ≤ y ∧ y ≤ 4294967295) : ∀ r ∈ saveP s, GoodR r := by
  have hep := h.ep
  have hlm := h.ok.lm
  have hfew := h.ok.few
  have hfewp := h.ok.fewp
  intro r hr
  unfold saveP outL at hr
  rcases List.mem_append.1 hr with hr | hr
  · rcases List.mem_append.1 hr with hr | hr
    · rcases List.mem_append.1 hr with hr | hr
      · rcases List.mem_append.1 hr with hr | hr
        · unfold bootL at hr
          split at hr
          · rw [List.mem_singleton.1 hr]
            exact ⟨by dsimp only; omega, by dsimp only; omega, by dsimp only; omega, (by show E0.size ≤ 1048576; decide), (fun h => absurd h (by dsimp only; decide)), slim_no, fun _ => rfl⟩
          · cases hr
        · obtain ⟨i, hi, hr⟩ := mem_many hr
          unfold taskL at hr
          split at hr
          · rename_i hd
            obtain ⟨h1, h2, h3⟩ := h.td i (by rw [← h.lt]; exact hi) hd
            have him : i < s.ms.length := by omega
            have hms : s.ms.getD i noMan ∈ s.ms := by rw [getD_of him]; exact List.getElem_mem him
            rw [List.mem_singleton.1 hr]
            exact ⟨by dsimp only; omega, by dsimp only; omega, by dsimp only; omega, (by show E0.size ≤ 1048576; decide), fun _ => ⟨fit_right h1 (hu _ hms) (h.ok.slim _ hms), hu _ hms⟩, h.ok.slim _ hms, fun h => absurd rfl h⟩
          · split at hr
            · have hte := h.te i (by rw [← h.lt]; exact hi)
              rw [List.mem_singleton.1 hr]
              exact ⟨by dsimp only; omega, by dsimp only; omega, by dsimp only; omega, (by show E0.size ≤ 1048576; decide), (fun h => absurd h (by dsimp only; decide)), slim_no, fun _ => rfl⟩
            · cases hr
      · obtain ⟨i, hi, hr⟩ := mem_many hr
        unfold partL at hr
        split at hr
        · rename_i hd
          obtain ⟨h1, h2⟩ := h.ph i (by rw [← h.lp]; exact hi) hd
          rw [List.mem_singleton.1 hr]
          exact ⟨by dsimp only; omega, by dsimp only; omega, by dsimp only; omega, h2, (fun h => absurd h (by dsimp only; decide)), slim_no, fun _ => rfl⟩
        · split at hr
          · have hpe := h.pe i (by rw [← h.lp]; exact hi)
            rw [List.mem_singleton.1 hr]
            exact ⟨by dsimp only; omega, by dsimp only; omega, by dsimp only; omega, (by show E0.size ≤ 1048576; decide), (fun h => absurd h (by dsimp only; decide)), slim_no, fun _ => rfl⟩
          · cases hr
    · obtain ⟨i, hi, hr⟩ := mem_many hr
      unfold comL at hr
      split at hr
      · rw [List.mem_singleton.1 hr]
        exact ⟨by dsimp only; omega, by dsimp only; omega, by dsimp only; omega, (by show E0.size ≤ 1048576; decide), (fun h => absurd h (by dsimp only; decide)), slim_no, fun _ => rfl⟩
      · cases hr
  · unfold endL at hr
    split at hr
    · rename_i hf
      rw [List.mem_singleton.1 hr]
      rcases h.fin with h1 | ⟨h1, h2, h3, h4, h5, _⟩
      · omega
      · exact ⟨by dsimp only; omega, by dsimp only; omega, by dsimp only; omega, (by show E0.size ≤ 1048576; decide), (fun h => absurd h (by dsimp only; decide)), slim_no, fun _ => rfl⟩
    · cases hr
theorem save_len (s : LS) (h1 : s.done.length ≤ 16) (h2 : s.has.length ≤ 16) : (saveP s).length ≤ 100 := by
  unfold saveP outL
  simp only [List.length_append]
  have a := bootL_le s
  have b := many_le (taskL_le s) s.done.length
  have c := many_le (partL_le s) s.has.length
  have d := many_le (comL_le s) s.has.length
  have e := endL_le s
  omega
theorem reach_new {t p n : Nat} (ht : t ≤ 16) (hp : p ≤ 16) : LedP.Reach t p n (newS t p n) := by
  refine ⟨newS_ok ht hp, by simp [newS], by simp [newS], rfl, ⟨by simp [newS], by simp [newS]⟩, fun i hi hd => ?_, fun i hi _ => ?_, fun i hi => ?_, fun i hi hd => ?_, fun i hi _ => ?_, fun i hi => ?_, fun hc => ?_, .inl ⟨rfl, rfl⟩⟩
  · simp [newS, List.getD_eq_getElem?_getD, hi] at hd
  · simp [newS, List.getD_eq_getElem?_getD, hi]
  · simp [newS, List.getD_eq_getElem?_getD, hi]
  · simp [newS, List.getD_eq_getElem?_getD, hi] at hd
  · simp [newS, List.getD_eq_getElem?_getD, hi, E0]
  · simp [newS, List.getD_eq_getElem?_getD, hi]
  · have := List.eq_of_mem_replicate (show true ∈ List.replicate p false from hc)
    cases this
theorem newS_st {t p n : Nat} {s : LS} (h : LedP.Reach t p n s) : newS t p n = st s 0 0 0 0 := by
  have a := h.ok.lm
  have b := h.ok.lt
  have c := h.ok.lr
  have d := h.ok.lp
  have e := h.ok.lc
  unfold newS st
  rw [mix_zero, mix_zero, mix_zero, mix_zero, mix_zero, mix_zero, mix_zero, a, b, c, d, e, h.lt, h.lp, h.sn]
  rfl
/-- The records that went through, and the state behind them. -/
structure AccJ (s0 : LS) (t p n : Nat) (s : LS) (acc : List LR) : Prop where
  reach : LedP.Reach t p n s
  goes : Goes s0 acc s
  good : ∀ r ∈ acc, GoodR r
  text : ∀ r ∈ acc, r.text.size ≤ 5000
theorem AccJ.start {t p n : Nat} (ht : t ≤ 16) (hp : p ≤ 16) : AccJ (newS t p n) t p n (newS t p n) [] := ⟨reach_new ht hp, Goes.nil _, (fun r h => by cases h), (fun r h => by cases h)⟩
theorem AccJ.yes {s0 : LS} {t p n : Nat} {s : LS} {acc : List LR} {r : LR} (h : AccJ s0 t p n s acc) (h0 : (applyP s r).2 = 0) (hs : Slim r.m) (ht : r.text.size ≤ 5000) (hu : ∀ y ∈ r.m.sm, 0 ≤ y ∧ y ≤ 4294967295) : AccJ s0 t p n (applyP s r).1 (acc ++ [wire r]) := by
  have hg : Goes s0 (acc ++ [wire r]) (applyP s (wire r)).1 := h.goes.snoc (by rw [apply_wire]; exact h0)
  rw [apply_wire] at hg
  refine ⟨h.reach.any hs, hg, fun x hx => ?_, fun x hx => ?_⟩
  · rcases List.mem_append.1 hx with hx | hx
    · exact h.good x hx
    · rw [List.mem_singleton.1 hx]; exact good_wire h0 hs (by omega) hu
  · rcases List.mem_append.1 hx with hx | hx
    · exact h.text x hx
    · rw [List.mem_singleton.1 hx]; exact ht
/-- Their texts. -/
def encs (l : List LR) : List ByteArray := l.map fun r => str (encR r)
theorem encs_length (l : List LR) : (encs l).length = l.length := by simp [encs]
theorem encs_snoc (l : List LR) (r : LR) : encs (l ++ [wire r]) = encs l ++ [str (encR r)] := by simp [encs, enc_wire]
theorem encs_total : ∀ (l : List LR), (∀ r ∈ l, GoodR r) → (∀ r ∈ l, r.text.size ≤ 5000) → total (encs l) ≤ 20000 * l.length
  | [], _, _ => Nat.le_refl _
  | r :: l, h, ht => by
    have h1 := encs_total l (fun x hx => h x (List.mem_cons_of_mem _ hx)) (fun x hx => ht x (List.mem_cons_of_mem _ hx))
    have h2 := encR_le (h r (List.mem_cons_self ..)).slim (by have := ht r (List.mem_cons_self ..); omega)
    have h3 := ht r (List.mem_cons_self ..)
    show (str (encR r)).size + total (encs l) ≤ _
    rw [str_size, List.length_cons]
    omega
theorem lst_back (ss : List ByteArray) : (lst ss).map str = ss := by
  unfold lst
  rw [List.map_map]
  conv => rhs; rw [← List.map_id ss]
  exact List.map_congr_left fun s _ => list_str s
/-- A journal, its blocks as they were. -/
theorem JAt.keepB {w w' : World} {base b : Nat} {ss : List ByteArray} (h : JAt w base b ss) (hk : ∀ k, base ≤ k → k < w.heap.size → w'.heap[k]? = w.heap[k]?) : JAt w' base b ss := by
  obtain ⟨v, h1, h2⟩ := h.ex
  exact ⟨⟨v, (hk b h.lo h.lt).trans h1, pool_heap h2 fun g hg => hk g (World.ownsRow.lt h2 g hg).1 (World.ownsRow.lt h2 g hg).2⟩, h.lo, h.small⟩
/-- What append leaves of what was made behind the journal. -/
theorem rows_keep {wr W W' : World} {base b : Nat} {ss : List ByteArray} (hJ : JAt wr base b ss) (hb : W.heap[b]? = wr.heap[b]?) (hk : ∀ v, W.heap[b]? = some (.cells #[v] 139 (0, 0)) → ∀ k, k < W.heap.size → k ≠ b → v.ownBlock ≠ some k → W'.heap[k]? = W.heap[k]?) :
    ∀ k, wr.heap.size ≤ k → k < W.heap.size → W'.heap[k]? = W.heap[k]? := by
  obtain ⟨v, h1, h2⟩ := hJ.ex
  have hl := hJ.lt
  intro k hk1 hk2
  refine hk v (hb.trans h1) k hk2 (by omega) fun e => ?_
  have := (World.ownsRow.lt h2 k e).2
  omega
/-- The new state laid into the old one's block, its rows behind wr. -/
theorem VarN.lay {wr w : World} {nb g : Nat} {y : SV} {s : LS} {cs : Array Value} (h : VarN wr w nb y s) (hb : w.heap[g]? = some (.cells cs 42 (0, 0))) (hg : g < wr.heap.size) :
    (w.setRow g (y.cells s)).heap[g]? = some (.cells (y.cells s) 42 (0, 0)) ∧ ∃ lo hi, StB lo hi (w.setRow g (y.cells s)) y s ∧ wr.heap.size ≤ lo ∧ hi ≤ (w.setRow g (y.cells s)).heap.size := by
  obtain ⟨lo, hi, h1, h2, h3, h4⟩ := h.st
  exact ⟨setRow_heap _ _ _ _ _ _ hb, lo, hi, StateB.keep h1 (fun k h5 h6 => setRow_other _ _ k _ (by omega)), h2, by simpa using h4⟩
end Go.Proofs.Ytmlemichkeomjaa.LedW

