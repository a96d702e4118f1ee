/- ledger.copied walked. -/
import Derived.Test.YtmlemichkeomjaaLedW
import Derived.Test.YtmlemichkeomjaaRegG
import Derived.Lib.Builder
import Derived.Deep.DeepCutAuto
set_option linter.unusedVariables false
set_option linter.unusedSimpArgs false
namespace Go.Proofs.Ytmlemichkeomjaa.LedW
open Go.RowKit Go.Proofs.Ytmlemichkeomjaa.Base Go.Proofs.Ytmlemichkeomjaa.MendW Go.Proofs.Ytmlemichkeomjaa.ManP Go.Proofs.Ytmlemichkeomjaa.ManW Go.Proofs.Ytmlemichkeomjaa.LedP
section
variable {w : World} {A : Option Addr} {n c : Nat}
theorem clone_bools {l : List Bool} (h : Bools w A l) (hl : l.length = n) (hn : n ≤ 1000000) :
    Calls Try.prog 80 #[.slice A n c] w fun e w' => ∃ v, e = .returned v ∧ w'.ownsRow w.heap.size 4 1 v n (bvs l) ∧ Below w.heap.size w w' := by
  refine clone_bool A n c (bvs l) w ?_ (fun u hu => by obtain ⟨x, _, rfl⟩ := List.mem_map.1 hu; rfl) (by rw [bvs_length]; exact hl) hn
  rcases h.at_ with h1 | ⟨b, off, rfl, hc⟩
  · exact .inl (by rw [h1]; rfl)
  · refine .inr ⟨b, off, rfl, fun j u hu => ?_⟩
    obtain ⟨hj, rfl⟩ := List.getElem?_eq_some_iff.1 hu
    rw [add_off, hc j (by rw [bvs_length] at hj; exact hj)]
    simp [bvs]
theorem clone_errnos {l : List Int} (h : Ints w A l) (hl : l.length = n) (hn : n ≤ 1000000) :
    Calls Try.prog 81 #[.slice A n c] w fun e w' => ∃ v, e = .returned v ∧ w'.ownsRow w.heap.size 30 1 v n (zv l) ∧ Below w.heap.size w w' :=
  clone_errs A n c (zv l) w (src_add (src_ints h)) (zv_one _) (by rw [zv_length]; exact hl) hn
theorem clone_texts {l : List ByteArray} (h : Strs w A n l) (hn : n ≤ 1000000) :
    Calls Try.prog 82 #[.slice A n c] w fun e w' => ∃ v, e = .returned v ∧ w'.ownsRow w.heap.size 9 1 v n (svs l) ∧ Below w.heap.size w w' := by
  refine clone_strs A n c (svs l) w ?_ (fun u hu => by obtain ⟨x, _, rfl⟩ := List.mem_map.1 hu; rfl) (by rw [svs_length]; exact h.len) hn
  by_cases h0 : n = 0
  · exact .inl (List.eq_nil_of_length_eq_zero (by rw [svs_length, h.len]; exact h0))
  · obtain ⟨b, off, rfl, hc⟩ := h.block h0
    refine .inr ⟨b, off, rfl, fun j u hu => ?_⟩
    obtain ⟨hj, rfl⟩ := List.getElem?_eq_some_iff.1 hu
    rw [add_off, hc j (by rw [svs_length] at hj; exact hj)]
    simp [svs]
theorem clone_flat {ms : List Man} {vs : Nat → MV} (h : MansV w A ms vs) (hl : ms.length = n) (hn : n ≤ 1000) :
    Calls Try.prog 83 #[.slice A n c] w fun e w' => ∃ v, e = .returned v ∧ w'.ownsRow w.heap.size 26 5 v n (flat ms vs) ∧ Below w.heap.size w w' := by
  refine clone_mans A n c (flat ms vs) w ?_ (flat_one _ _) (by rw [flat_length, hl]) (by omega)
  rcases h.at_ with h1 | ⟨b, off, rfl, hc⟩
  · exact .inl (by rw [h1]; rfl)
  · exact .inr ⟨b, off, rfl, fun j u hu => by rw [add_off]; exact hc j u hu⟩
end
theorem own_sl' {w : World} {base e size n : Nat} {v : Value} {xs : List Value} (h : w.ownsRow base e size v n xs) : ∃ A c, v = .slice A n c := by
  rcases h.2 with ⟨rfl, h0⟩ | ⟨g, cap, cur, rfl, _⟩
  · exact ⟨none, 0, by rw [h0]⟩
  · exact ⟨_, _, rfl⟩
/-- Under way: the box holds the values xs. -/
structure Cop (w wx : World) (F : Nat → Ent) (xs : List Value) : Prop where
  pool : Pool wx w.heap.size F
  below : Below w.heap.size w wx
  box : F 7 = ⟨42, 11, .slice (some ⟨w.heap.size, 0, none⟩) 1 1, 1, xs⟩
  res : F 8 = ⟨42, 11, .slice (some ⟨w.heap.size + 1, 0, none⟩) 1 1, 1, [.int .i64 0, .int .i64 0, .slice none 0 0, .slice none 0 0, .slice none 0 0, .slice none 0 0, .slice none 0 0, .slice none 0 0, .slice none 0 0, .int .i64 0, .int .i64 0]⟩
theorem Cop.new {w wx w2 : World} {F : Nat → Ent} {xs : List Value} (h : Cop w wx F xs) (k : Nat) (hk : k < 7) {E : Ent} (hE : E.own w2 wx.heap.size) (hb : Below wx.heap.size wx w2) : Cop w w2 (up F k E) xs :=
  ⟨h.pool.new k hb h.below.size hE, bt h.below h.below.size hb, (up_ne _ _ (by omega)).trans h.box, (up_ne _ _ (by omega)).trans h.res⟩
theorem Cop.set {w wx : World} {F : Nat → Ent} {xs : List Value} (h : Cop w wx F xs) (j : Nat) (u : Value) : Cop w (wx.setCell ⟨w.heap.size, j, none⟩ u) (up F 7 ⟨42, 11, .slice (some ⟨w.heap.size, 0, none⟩) 1 1, 1, xs.set j u⟩) (xs.set j u) :=
  ⟨h.pool.store 7 h.box rfl j u, h.below.setCell (p := ⟨w.heap.size, j, none⟩) (Nat.le_refl _) u, up_self _ _ _, (up_ne _ _ (by decide)).trans h.res⟩
theorem Cop.cell {w wx : World} {F : Nat → Ent} {xs : List Value} (h : Cop w wx F xs) (j : Nat) (u : Value) (hu : xs[j]? = some u) : wx.cell? ⟨w.heap.size, j, none⟩ = some u := h.pool.cell 7 h.box rfl hu
theorem Cop.free {w wx : World} {F : Nat → Ent} {xs : List Value} (h : Cop w wx F xs) (j : Nat) : wx.frozen? ⟨w.heap.size, j, none⟩ = false := h.pool.free 7 h.box rfl j
theorem Cop.drew {w wx : World} {F : Nat → Ent} {xs : List Value} (h : Cop w wx F xs) : Cop w wx.drew F xs := ⟨h.pool.drew, h.below.drew, h.box, h.res⟩
theorem Cop.start (w : World) (xs : Array Value) (hs : xs.size = 11) : ∃ F, Cop w ((w.alloc (.cells xs 42)).alloc (.cells #[.int .i64 0, .int .i64 0, .slice none 0 0, .slice none 0 0, .slice none 0 0, .slice none 0 0, .slice none 0 0, .slice none 0 0, .slice none 0 0, .int .i64 0, .int .i64 0] 42)) F xs.toList := by
  have h1 := pool_alloc (Pool.nil w w.heap.size (κ := Nat)) 7 (Nat.le_refl _) 42 11 xs hs
  have h2 := pool_alloc h1 8 (by rw [World.size_alloc]; omega) 42 11 #[.int .i64 0, .int .i64 0, .slice none 0 0, .slice none 0 0, .slice none 0 0, .slice none 0 0, .slice none 0 0, .slice none 0 0, .slice none 0 0, .int .i64 0, .int .i64 0] rfl
  have hs : (w.alloc (.cells xs 42)).heap.size = w.heap.size + 1 := World.size_alloc _ _
  exact ⟨_, h2, ((Below.refl _ _).alloc (Nat.le_refl _) _).alloc (by rw [hs]; omega) _, rfl, by rw [up_self, hs]⟩
theorem OwnR'.pool_cell {w : World} {lo ml : Nat} {F : Nat → Ent} {v2 v3 v4 v5 v6 v7 v8 : Value} {vs : Nat → MV} {s : LS} (h : OwnR' w lo ml F v2 v3 v4 v5 v6 v7 v8 vs s) {g c : Nat} (hv : v3 = .slice (some ⟨g, 0, none⟩) s.done.length c) {k : Nat} (hk : k < s.ms.length) {q : Nat} (hq : q < 5) {u : Value} (hu : (mcells s.ms[k] (vs k))[q]? = some u) : w.cell? ⟨g, k * 5 + q, none⟩ = some u :=
  h.pool.cell 1 h.m hv (by rw [flat_get s.ms vs k q hk hq]; exact hu)
/-- A manifest of the state's is laid anew. -/
theorem OwnS'.put_man {w : World} {lo ml ob : Nat} {F : Nat → Ent} {v2 v3 v4 v5 v6 v7 v8 : Value} {vs : Nat → MV} {s : LS} (h : OwnS' w lo ml ob F v2 v3 v4 v5 v6 v7 v8 vs s) {g c : Nat} (hv : v3 = .slice (some ⟨g, 0, none⟩) s.done.length c) {k : Nat} (hk : k < s.ms.length) {m : Man} {v : MV} (hm : ManB (Safe ml F w.heap.size) w v m) (hs : Slim m) :
    OwnS' (((((w.setCell ⟨g, k * 5, none⟩ (.int .i64 m.task)).setCell ⟨g, k * 5 + 1, none⟩ (.int .i64 m.att)).setCell ⟨g, k * 5 + 2, none⟩ (.slice v.A2 m.sz.length v.c2)).setCell ⟨g, k * 5 + 3, none⟩ (.slice v.A3 m.sm.length v.c3)).setCell ⟨g, k * 5 + 4, none⟩ (.slice v.A4 m.hm.length v.c4)) lo ml ob
      (up F 1 ⟨26, 5, v3, s.done.length, flat (s.ms.set k m) (upv vs k v)⟩) v2 v3 v4 v5 v6 v7 v8 (upv vs k v) { s with ms := s.ms.set k m } := by
  have p1 := h.rows.pool.store 1 h.rows.m hv (k * 5) (.int .i64 m.task)
  have p2 := p1.store 1 (up_self _ _ _) hv (k * 5 + 1) (.int .i64 m.att)
  have p3 := p2.store 1 (up_self _ _ _) hv (k * 5 + 2) (.slice v.A2 m.sz.length v.c2)
  have p4 := p3.store 1 (up_self _ _ _) hv (k * 5 + 3) (.slice v.A3 m.sm.length v.c3)
  have p5 := p4.store 1 (up_self _ _ _) hv (k * 5 + 4) (.slice v.A4 m.hm.length v.c4)
  have hup : ∀ (E E' : Ent), up (up F 1 E) 1 E' = up F 1 E' := fun E E' => by
    funext b; unfold up; split <;> rfl
  rw [hup, hup, hup, hup] at p5
  have hfl : ((((flat s.ms vs).set (k * 5) (.int .i64 m.task)).set (k * 5 + 1) (.int .i64 m.att)).set (k * 5 + 2) (.slice v.A2 m.sz.length v.c2)).set (k * 5 + 3) (.slice v.A3 m.sm.length v.c3) = ((((flat s.ms vs).set (k * 5) (.int .i64 m.task)).set (k * 5 + 1) (.int .i64 m.att)).set (k * 5 + 2) (.slice v.A2 m.sz.length v.c2)).set (k * 5 + 3) (.slice v.A3 m.sm.length v.c3) := rfl
  have e5 : (((((flat s.ms vs).set (k * 5) (.int .i64 m.task)).set (k * 5 + 1) (.int .i64 m.att)).set (k * 5 + 2) (.slice v.A2 m.sz.length v.c2)).set (k * 5 + 3) (.slice v.A3 m.sm.length v.c3)).set (k * 5 + 4) (.slice v.A4 m.hm.length v.c4) = flat (s.ms.set k m) (upv vs k v) := set5_flat s.ms vs k m v hk
  rw [e5] at p5
  have hg : (F 1).v.ownBlock = some g := by rw [h.rows.m, hv]; rfl
  have hsame : ∀ q, Safe ml F w.heap.size q → (((((w.setCell ⟨g, k * 5, none⟩ (.int .i64 m.task)).setCell ⟨g, k * 5 + 1, none⟩ (.int .i64 m.att)).setCell ⟨g, k * 5 + 2, none⟩ (.slice v.A2 m.sz.length v.c2)).setCell ⟨g, k * 5 + 3, none⟩ (.slice v.A3 m.sm.length v.c3)).setCell ⟨g, k * 5 + 4, none⟩ (.slice v.A4 m.hm.length v.c4)).heap[q]? = w.heap[q]? := fun q hq => by
    have hqg : q ≠ g := fun e => hq.2 1 (by rw [hg, e])
    rw [heap_setCell_other _ _ _ _ hqg, heap_setCell_other _ _ _ _ hqg, heap_setCell_other _ _ _ _ hqg, heap_setCell_other _ _ _ _ hqg, heap_setCell_other _ _ _ _ hqg]
  have hsz : (((((w.setCell ⟨g, k * 5, none⟩ (.int .i64 m.task)).setCell ⟨g, k * 5 + 1, none⟩ (.int .i64 m.att)).setCell ⟨g, k * 5 + 2, none⟩ (.slice v.A2 m.sz.length v.c2)).setCell ⟨g, k * 5 + 3, none⟩ (.slice v.A3 m.sm.length v.c3)).setCell ⟨g, k * 5 + 4, none⟩ (.slice v.A4 m.hm.length v.c4)).heap.size = w.heap.size := by simp
  have hsafe : ∀ q, Safe ml F w.heap.size q → Safe ml (up F 1 ⟨26, 5, v3, s.done.length, flat (s.ms.set k m) (upv vs k v)⟩) w.heap.size q := fun q hq => safe_chg (Nat.le_refl _) (.inl (by rw [h.rows.m])) hq
  refine ⟨⟨p5, ?_, up_self _ _ _, ?_, ?_, ?_, ?_, ?_, fun j hj => ?_, h.rows.rt, h.rows.rp, ⟨by simp [h.rows.ok.lm], h.rows.ok.lt, h.rows.ok.lr, h.rows.ok.lp, h.rows.ok.lc, h.rows.ok.few, h.rows.ok.fewp, fun x hx => ?_⟩⟩, ?_⟩
  · exact (up_ne _ _ (by decide)).trans h.rows.d
  · exact (up_ne _ _ (by decide)).trans h.rows.t
  · exact (up_ne _ _ (by decide)).trans h.rows.h
  · exact (up_ne _ _ (by decide)).trans h.rows.r
  · exact (up_ne _ _ (by decide)).trans h.rows.p
  · exact (up_ne _ _ (by decide)).trans h.rows.c
  · have hj' : j < s.ms.length := by simpa using hj
    rw [hsz]
    by_cases e : j = k
    · subst e
      have e1 : ({ s with ms := s.ms.set j m } : LS).ms[j] = m := by simp
      have e2 : upv vs j v j = v := by simp [upv]
      rw [e1, e2]
      exact (hm.keep hsame).mono hsafe
    · have e1 : ({ s with ms := s.ms.set k m } : LS).ms[j] = s.ms[j] := by simp [Ne.symm e]
      have e2 : upv vs k v j = vs j := by simp [upv, e]
      rw [e1, e2]
      exact ((h.rows.man j hj').keep hsame).mono hsafe
  · rcases List.mem_or_eq_of_mem_set hx with h1 | rfl
    · exact h.rows.ok.slim x h1
    · exact hs
  · exact (up_ne _ _ (by decide)).trans h.box
/-- .. and the manifests before it, and it, lie no lower than they did. -/
theorem OwnS'.put_low {w : World} {lo ml ml2 ob : Nat} {F : Nat → Ent} {v2 v3 v4 v5 v6 v7 v8 : Value} {vs : Nat → MV} {s : LS} (h : OwnS' w lo ml ob F v2 v3 v4 v5 v6 v7 v8 vs s) {g c : Nat} (hv : v3 = .slice (some ⟨g, 0, none⟩) s.done.length c) {k : Nat} {m : Man} {v : MV} (hk : k < s.ms.length) (hmk : m = s.ms[k]) (hm : ManB (Safe ml2 F w.heap.size) w v m)
    (hl : ∀ j (hj : j < s.ms.length), j < k → ManB (Safe ml2 F w.heap.size) w (vs j) s.ms[j]) : ∀ j (hj : j < s.ms.length), j < k + 1 → ManB (Safe ml2 (up F 1 ⟨26, 5, v3, s.done.length, flat (s.ms.set k m) (upv vs k v)⟩) (((((w.setCell ⟨g, k * 5, none⟩ (.int .i64 m.task)).setCell ⟨g, k * 5 + 1, none⟩ (.int .i64 m.att)).setCell ⟨g, k * 5 + 2, none⟩ (.slice v.A2 m.sz.length v.c2)).setCell ⟨g, k * 5 + 3, none⟩ (.slice v.A3 m.sm.length v.c3)).setCell ⟨g, k * 5 + 4, none⟩ (.slice v.A4 m.hm.length v.c4)).heap.size) (((((w.setCell ⟨g, k * 5, none⟩ (.int .i64 m.task)).setCell ⟨g, k * 5 + 1, none⟩ (.int .i64 m.att)).setCell ⟨g, k * 5 + 2, none⟩ (.slice v.A2 m.sz.length v.c2)).setCell ⟨g, k * 5 + 3, none⟩ (.slice v.A3 m.sm.length v.c3)).setCell ⟨g, k * 5 + 4, none⟩ (.slice v.A4 m.hm.length v.c4)) (upv vs k v j) s.ms[j] := by
  intro j hj hjk
  have hg : (F 1).v.ownBlock = some g := by rw [h.rows.m, hv]; rfl
  have hsame : ∀ q, Safe ml2 F w.heap.size q → (((((w.setCell ⟨g, k * 5, none⟩ (.int .i64 m.task)).setCell ⟨g, k * 5 + 1, none⟩ (.int .i64 m.att)).setCell ⟨g, k * 5 + 2, none⟩ (.slice v.A2 m.sz.length v.c2)).setCell ⟨g, k * 5 + 3, none⟩ (.slice v.A3 m.sm.length v.c3)).setCell ⟨g, k * 5 + 4, none⟩ (.slice v.A4 m.hm.length v.c4)).heap[q]? = w.heap[q]? := fun q hq => by
    have hqg : q ≠ g := fun e => hq.2 1 (by rw [hg, e])
    rw [heap_setCell_other _ _ _ _ hqg, heap_setCell_other _ _ _ _ hqg, heap_setCell_other _ _ _ _ hqg, heap_setCell_other _ _ _ _ hqg, heap_setCell_other _ _ _ _ hqg]
  have hsz : (((((w.setCell ⟨g, k * 5, none⟩ (.int .i64 m.task)).setCell ⟨g, k * 5 + 1, none⟩ (.int .i64 m.att)).setCell ⟨g, k * 5 + 2, none⟩ (.slice v.A2 m.sz.length v.c2)).setCell ⟨g, k * 5 + 3, none⟩ (.slice v.A3 m.sm.length v.c3)).setCell ⟨g, k * 5 + 4, none⟩ (.slice v.A4 m.hm.length v.c4)).heap.size = w.heap.size := by simp
  have hsafe : ∀ q, Safe ml2 F w.heap.size q → Safe ml2 (up F 1 ⟨26, 5, v3, s.done.length, flat (s.ms.set k m) (upv vs k v)⟩) w.heap.size q := fun q hq => safe_chg (Nat.le_refl _) (.inl (by rw [h.rows.m])) hq
  rw [hsz]
  by_cases e : j = k
  · subst e
    rw [show upv vs j v j = v by simp [upv], ← hmk]
    exact (hm.keep hsame).mono hsafe
  · rw [show upv vs k v j = vs j by simp [upv, e]]
    exact ((hl j hj (by omega)).keep hsame).mono hsafe
theorem OwnS'.below {w w' : World} {lo ml ob : Nat} {F : Nat → Ent} {v2 v3 v4 v5 v6 v7 v8 : Value} {vs : Nat → MV} {s : LS} (h : OwnS' w lo ml ob F v2 v3 v4 v5 v6 v7 v8 vs s) (hb : Below w.heap.size w w') : OwnS' w' lo ml ob F v2 v3 v4 v5 v6 v7 v8 vs s := ⟨h.rows.below hb, h.box⟩
theorem new_safe {w w' : World} {lo ml : Nat} {F : Nat → Ent} (h : Pool w lo F) (hml : ml ≤ w.heap.size) {v : MV} {m : Man} (hm : ManNew w w' v m) : ManB (Safe ml F w'.heap.size) w' v m :=
  hm.mono fun k hk => ⟨⟨hk.2, Nat.le_trans hml hk.1⟩, fun a e => by have := (h.lt a e).2; omega⟩
theorem LS.same_ms (s : LS) {k : Nat} (hk : k < s.ms.length) : ({ s with ms := s.ms.set k s.ms[k] } : LS) = s := by
  cases s
  simp at hk ⊢
/-- Another block of one's own is laid anew. -/
theorem OwnR'.other {w : World} {lo ml r : Nat} {F : Nat → Ent} {v2 v3 v4 v5 v6 v7 v8 : Value} {vs : Nat → MV} {s : LS} (h : OwnR' w lo ml F v2 v3 v4 v5 v6 v7 v8 vs s) {a : Nat} (ha : 7 ≤ a) {e : TypeId} {size : Nat} {xs : List Value} (h8 : F a = ⟨e, size, .slice (some ⟨r, 0, none⟩) 1 1, 1, xs⟩) (cs : Array Value) (hcs : cs.size = size) :
    OwnR' (w.setRow r cs) lo ml (up F a ⟨e, size, .slice (some ⟨r, 0, none⟩) 1 1, 1, cs.toList⟩) v2 v3 v4 v5 v6 v7 v8 vs s :=
  ⟨pool_setRow h.pool a h8 cs hcs, (up_ne _ _ (by omega)).trans h.d, (up_ne _ _ (by omega)).trans h.m, (up_ne _ _ (by omega)).trans h.t, (up_ne _ _ (by omega)).trans h.h, (up_ne _ _ (by omega)).trans h.r, (up_ne _ _ (by omega)).trans h.p, (up_ne _ _ (by omega)).trans h.c,
    fun j hj => by
      have hs : (w.setRow r cs).heap.size = w.heap.size := by simp
      rw [hs]
      exact ((h.man j hj).keep (fun q hq => setRow_other w r q cs (fun e => hq.2 a (by rw [h8, e]; rfl)))).mono (fun q hq => safe_chg (Nat.le_refl _) (.inl (by rw [h8])) hq), h.rt, h.rp, h.ok⟩
theorem info_state : (Try.prog.info? 42).map (·.size) = some 11 := by kernel_rfl
def CopyPost (w : World) (s : LS) (e : Ending) (w' : World) : Prop := ∃ F v2 v3 v4 v5 v6 v7 v8 vs, e = .returned (.agg #[.int .i64 s.n, .int .i64 s.ep, v2, v3, v4, v5, v6, v7, v8, .int .i64 s.fin, .int .i64 s.er]) ∧ OwnR w' w.heap.size F v2 v3 v4 v5 v6 v7 v8 vs s ∧ Below w.heap.size w w'
set_option maxRecDepth 100000 in
set_option maxHeartbeats 4000000 in
theorem copied_any (A2 A3 A4 A5 A6 A7 A8 : Option Addr) (c2 c3 c4 c5 c6 c7 c8 : Nat) (vs : Nat → MV) (s : LS) (w : World) (h : StateW w A2 A3 A4 A5 A6 A7 A8 vs s) :
    Calls Try.prog 50 #[.agg #[.int .i64 s.n, .int .i64 s.ep, .slice A2 s.done.length c2, .slice A3 s.done.length c3, .slice A4 s.done.length c4, .slice A5 s.has.length c5, .slice A6 s.has.length c6, .slice A7 s.has.length c7, .slice A8 s.has.length c8, .int .i64 s.fin, .int .i64 s.er]] w (CopyPost w s) := by
  have hT := h.ok.few
  have hP := h.ok.fewp
  have K2 := Lib.hid (fun W (hW : Below w.heap.size w W) => clone_bools (c := c2) (h.d.below hW) rfl (by omega))
  have K3 := Lib.hid (fun W (hW : Below w.heap.size w W) => clone_flat (c := c3) (h.m.below hW) h.ok.lm (by omega))
  have K4 := Lib.hid (fun W (hW : Below w.heap.size w W) => clone_errnos (c := c4) (h.t.below hW) h.ok.lt (by omega))
  have K5 := Lib.hid (fun W (hW : Below w.heap.size w W) => clone_bools (c := c5) (h.h.below hW) rfl (by omega))
  have K6 := Lib.hid (fun W (hW : Below w.heap.size w W) => clone_texts (c := c6) (h.r.below hW) (by omega))
  have K7 := Lib.hid (fun W (hW : Below w.heap.size w W) => clone_errnos (c := c7) (h.p.below hW) h.ok.lp (by omega))
  have K8 := Lib.hid (fun W (hW : Below w.heap.size w W) => clone_bools (c := c8) (h.c.below hW) h.ok.lc (by omega))
  obtain ⟨nT, hnT⟩ : ∃ nT, nT = s.done.length := ⟨_, rfl⟩
  obtain ⟨nP, hnP⟩ : ∃ nP, nP = s.has.length := ⟨_, rfl⟩
  obtain ⟨qn, hqn⟩ : ∃ q, q = s.n := ⟨_, rfl⟩
  obtain ⟨qe, hqe⟩ : ∃ q, q = s.ep := ⟨_, rfl⟩
  obtain ⟨qf, hqf⟩ : ∃ q, q = s.fin := ⟨_, rfl⟩
  obtain ⟨qr, hqr⟩ : ∃ q, q = s.er := ⟨_, rfl⟩
  rw [← hnT, ← hnP, ← hqn, ← hqe, ← hqf, ← hqr]
  rw [← hnT] at K2 K3 K4
  rw [← hnP] at K5 K6 K7 K8
  rw [← hnT] at hT
  rw [← hnP] at hP
  have HS := Lib.hid h
  have HQ := Lib.hid (And.intro hnT (And.intro hnP (And.intro hqn (And.intro hqe (And.intro hqf hqr)))))
  clear h hnT hnP hqn hqe hqf hqr
  go_enter Try.func50, Try.ntmps50
  go_upto_region 1 with fail
  obtain ⟨F0, HC⟩ := Cop.start w #[.int .i64 qn, .int .i64 qe, .slice A2 nT c2, .slice A3 nT c3, .slice A4 nT c4, .slice A5 nP c5, .slice A6 nP c6, .slice A7 nP c7, .slice A8 nP c8, .int .i64 qf, .int .i64 qr] rfl
  generalize (w.alloc (.cells #[.int .i64 qn, .int .i64 qe, .slice A2 nT c2, .slice A3 nT c3, .slice A4 nT c4, .slice A5 nP c5, .slice A6 nP c6, .slice A7 nP c7, .slice A8 nP c8, .int .i64 qf, .int .i64 qr] 42)).alloc (.cells #[.int .i64 0, .int .i64 0, .slice none 0 0, .slice none 0 0, .slice none 0 0, .slice none 0 0, .slice none 0 0, .slice none 0 0, .slice none 0 0, .int .i64 0, .int .i64 0] 42) = W at HC ⊢
  replace HC := HC.drew
  have p2 := HC.cell 2 _ rfl
  have p4 := HC.cell 4 _ rfl
  have p5 := HC.cell 5 _ rfl
  have p6 := HC.cell 6 _ rfl
  go_cut [] (fun wx => ∃ F v2 v4 v5 v6, Cop w wx F [.int .i64 qn, .int .i64 qe, v2, .slice A3 nT c3, v4, v5, v6, .slice A7 nP c7, .slice A8 nP c8, .int .i64 qf, .int .i64 qr] ∧ F 0 = ⟨4, 1, v2, nT, bvs s.done⟩ ∧ F 2 = ⟨30, 1, v4, nT, zv s.te⟩ ∧ F 3 = ⟨4, 1, v5, nP, bvs s.has⟩ ∧ F 4 = ⟨9, 1, v6, nP, svs s.res⟩)
  case first =>
    --R1<
    refine RegG.wp_region_g (fun W => W.cell? ⟨w.heap.size, 2, none⟩ = some (.slice A2 nT c2) ∧ W.cell? ⟨w.heap.size, 4, none⟩ = some (.slice A4 nT c4) ∧ W.cell? ⟨w.heap.size, 5, none⟩ = some (.slice A5 nP c5) ∧ W.cell? ⟨w.heap.size, 6, none⟩ = some (.slice A6 nP c6)) [13] (by kernel_rfl) ?_
    refine RegG.wpG.pure (v := ?_) 0 1 rfl (by kernel_rfl) (by decide) (fun _ _ _ h => h) ?_ rfl (fun _ => ⟨p2, p4, p5, p6⟩) ?_
    rotate_left
    · (intro w; go_simp; first | done | with_reducible rfl)
    (try simp only [Act.put, List.setIfInBounds_toArray, List.set_cons_zero, List.set_cons_succ])
    refine RegG.wpG.load (v := ?_) 1 13 rfl (by kernel_rfl) (by decide) (by decide) (fun _ _ _ h => h) ?_ rfl ⟨p2, p4, p5, p6⟩ ?_
    rotate_left
    · (rintro w ⟨s2, s4, s5, s6⟩; go_simp; first | done | with_reducible rfl)
    (try simp only [Act.put, List.setIfInBounds_toArray, List.set_cons_zero, List.set_cons_succ])
    refine RegG.wpG.pure (v := ?_) 3 4 rfl (by kernel_rfl) (by decide) (fun _ _ _ h => h) ?_ rfl (fun _ => ⟨p2, p4, p5, p6⟩) ?_
    rotate_left
    · (intro w; go_simp; first | done | with_reducible rfl)
    (try simp only [Act.put, List.setIfInBounds_toArray, List.set_cons_zero, List.set_cons_succ])
    refine RegG.wpG.load (v := ?_) 4 13 rfl (by kernel_rfl) (by decide) (by decide) (fun _ _ _ h => h) ?_ rfl ⟨p2, p4, p5, p6⟩ ?_
    rotate_left
    · (rintro w ⟨s2, s4, s5, s6⟩; go_simp; first | done | with_reducible rfl)
    (try simp only [Act.put, List.setIfInBounds_toArray, List.set_cons_zero, List.set_cons_succ])
    refine RegG.wpG.pure (v := ?_) 6 7 rfl (by kernel_rfl) (by decide) (fun _ _ _ h => h) ?_ rfl (fun _ => ⟨p2, p4, p5, p6⟩) ?_
    rotate_left
    · (intro w; go_simp; first | done | with_reducible rfl)
    (try simp only [Act.put, List.setIfInBounds_toArray, List.set_cons_zero, List.set_cons_succ])
    refine RegG.wpG.load (v := ?_) 7 13 rfl (by kernel_rfl) (by decide) (by decide) (fun _ _ _ h => h) ?_ rfl ⟨p2, p4, p5, p6⟩ ?_
    rotate_left
    · (rintro w ⟨s2, s4, s5, s6⟩; go_simp; first | done | with_reducible rfl)
    (try simp only [Act.put, List.setIfInBounds_toArray, List.set_cons_zero, List.set_cons_succ])
    refine RegG.wpG.pure (v := ?_) 9 10 rfl (by kernel_rfl) (by decide) (fun _ _ _ h => h) ?_ rfl (fun _ => ⟨p2, p4, p5, p6⟩) ?_
    rotate_left
    · (intro w; go_simp; first | done | with_reducible rfl)
    (try simp only [Act.put, List.setIfInBounds_toArray, List.set_cons_zero, List.set_cons_succ])
    refine RegG.wpG.load (v := ?_) 10 13 rfl (by kernel_rfl) (by decide) (by decide) (fun _ _ _ h => h) ?_ rfl ⟨p2, p4, p5, p6⟩ ?_
    rotate_left
    · (rintro w ⟨s2, s4, s5, s6⟩; go_simp; first | done | with_reducible rfl)
    (try simp only [Act.put, List.setIfInBounds_toArray, List.set_cons_zero, List.set_cons_succ])
    refine RegG.wpG.one 2 (by kernel_rfl) rfl rfl (fun K hK => ?_)
    go_simp
    go_at_call 80
    (with_reducible refine (K2.out _ HC.below).mono ?_)
    rintro e w3 ⟨v, rfl, O, hd⟩
    obtain ⟨B0, d0, rfl⟩ := own_sl' O
    replace HC := HC.new 0 (by decide) (E := ⟨4, 1, .slice B0 nT d0, nT, bvs s.done⟩) O hd
    clear O hd
    clear p2 p4 p5 p6
    have p2 := HC.cell 2 _ rfl
    have p4 := HC.cell 4 _ rfl
    have p5 := HC.cell 5 _ rfl
    have p6 := HC.cell 6 _ rfl
    refine hK.out _ _ (fun _ => ⟨p2, p4, p5, p6⟩) ?_
    clear hK K
    (try simp only [Act.put, List.setIfInBounds_toArray, List.set_cons_zero, List.set_cons_succ])
    refine RegG.wpG.pure (v := ?_) 12 13 rfl (by kernel_rfl) (by decide) (fun _ _ _ h => h) ?_ rfl (fun _ => ⟨p2, p4, p5, p6⟩) ?_
    rotate_left
    · (intro w; go_simp; first | done | with_reducible rfl)
    (try simp only [Act.put, List.setIfInBounds_toArray, List.set_cons_zero, List.set_cons_succ])
    refine RegG.wpG.one 5 (by kernel_rfl) rfl rfl (fun K hK => ?_)
    go_simp
    go_at_call 81
    (with_reducible refine (K4.out _ HC.below).mono ?_)
    rintro e w3 ⟨v, rfl, O, hd⟩
    obtain ⟨B2, d2, rfl⟩ := own_sl' O
    replace HC := HC.new 2 (by decide) (E := ⟨30, 1, .slice B2 nT d2, nT, zv s.te⟩) O hd
    clear O hd
    clear p2 p4 p5 p6
    have p2 := HC.cell 2 _ rfl
    have p4 := HC.cell 4 _ rfl
    have p5 := HC.cell 5 _ rfl
    have p6 := HC.cell 6 _ rfl
    refine hK.out _ _ (fun _ => ⟨p2, p4, p5, p6⟩) ?_
    clear hK K
    (try simp only [Act.put, List.setIfInBounds_toArray, List.set_cons_zero, List.set_cons_succ])
    refine RegG.wpG.one 8 (by kernel_rfl) rfl rfl (fun K hK => ?_)
    go_simp
    go_at_call 80
    (with_reducible refine (K5.out _ HC.below).mono ?_)
    rintro e w3 ⟨v, rfl, O, hd⟩
    obtain ⟨B3, d3, rfl⟩ := own_sl' O
    replace HC := HC.new 3 (by decide) (E := ⟨4, 1, .slice B3 nP d3, nP, bvs s.has⟩) O hd
    clear O hd
    clear p2 p4 p5 p6
    have p2 := HC.cell 2 _ rfl
    have p4 := HC.cell 4 _ rfl
    have p5 := HC.cell 5 _ rfl
    have p6 := HC.cell 6 _ rfl
    refine hK.out _ _ (fun _ => ⟨p2, p4, p5, p6⟩) ?_
    clear hK K
    (try simp only [Act.put, List.setIfInBounds_toArray, List.set_cons_zero, List.set_cons_succ])
    refine RegG.wpG.one 11 (by kernel_rfl) rfl rfl (fun K hK => ?_)
    go_simp
    go_at_call 82
    (with_reducible refine (K6.out _ HC.below).mono ?_)
    rintro e w3 ⟨v, rfl, O, hd⟩
    obtain ⟨B4, d4, rfl⟩ := own_sl' O
    replace HC := HC.new 4 (by decide) (E := ⟨9, 1, .slice B4 nP d4, nP, svs s.res⟩) O hd
    clear O hd
    clear p2 p4 p5 p6
    have p2 := HC.cell 2 _ rfl
    have p4 := HC.cell 4 _ rfl
    have p5 := HC.cell 5 _ rfl
    have p6 := HC.cell 6 _ rfl
    refine hK.out _ _ (fun _ => ⟨p2, p4, p5, p6⟩) ?_
    clear hK K
    (try simp only [Act.put, List.setIfInBounds_toArray, List.set_cons_zero, List.set_cons_succ])
    refine RegG.wpG.one 13 (by kernel_rfl) rfl rfl (fun K hK => ?_)
    have y2 := HC.cell 2 _ rfl
    have z2 := HC.free 2
    go_simp
    refine hK.out _ _ (fun h => absurd h (by decide)) ?_
    clear hK K y2 z2
    replace HC := HC.set 2 (.slice B0 nT d0)
    (try simp only [Act.put, List.setIfInBounds_toArray, List.set_cons_zero, List.set_cons_succ])
    refine RegG.wpG.pure (v := ?_) 14 15 rfl (by kernel_rfl) (by decide) (fun _ _ _ h => h) ?_ rfl (fun h => absurd h (by decide)) ?_
    rotate_left
    · (intro w; go_simp; first | done | with_reducible rfl)
    (try simp only [Act.put, List.setIfInBounds_toArray, List.set_cons_zero, List.set_cons_succ])
    refine RegG.wpG.one 15 (by kernel_rfl) rfl rfl (fun K hK => ?_)
    have y4 := HC.cell 4 _ rfl
    have z4 := HC.free 4
    go_simp
    refine hK.out _ _ (fun h => absurd h (by decide)) ?_
    clear hK K y4 z4
    replace HC := HC.set 4 (.slice B2 nT d2)
    (try simp only [Act.put, List.setIfInBounds_toArray, List.set_cons_zero, List.set_cons_succ])
    refine RegG.wpG.pure (v := ?_) 16 17 rfl (by kernel_rfl) (by decide) (fun _ _ _ h => h) ?_ rfl (fun h => absurd h (by decide)) ?_
    rotate_left
    · (intro w; go_simp; first | done | with_reducible rfl)
    (try simp only [Act.put, List.setIfInBounds_toArray, List.set_cons_zero, List.set_cons_succ])
    refine RegG.wpG.one 17 (by kernel_rfl) rfl rfl (fun K hK => ?_)
    have y5 := HC.cell 5 _ rfl
    have z5 := HC.free 5
    go_simp
    refine hK.out _ _ (fun h => absurd h (by decide)) ?_
    clear hK K y5 z5
    replace HC := HC.set 5 (.slice B3 nP d3)
    (try simp only [Act.put, List.setIfInBounds_toArray, List.set_cons_zero, List.set_cons_succ])
    refine RegG.wpG.pure (v := ?_) 18 19 rfl (by kernel_rfl) (by decide) (fun _ _ _ h => h) ?_ rfl (fun h => absurd h (by decide)) ?_
    rotate_left
    · (intro w; go_simp; first | done | with_reducible rfl)
    (try simp only [Act.put, List.setIfInBounds_toArray, List.set_cons_zero, List.set_cons_succ])
    refine RegG.wpG.one 19 (by kernel_rfl) rfl rfl (fun K hK => ?_)
    have y6 := HC.cell 6 _ rfl
    have z6 := HC.free 6
    go_simp
    refine hK.out _ _ (fun h => absurd h (by decide)) ?_
    clear hK K y6 z6
    replace HC := HC.set 6 (.slice B4 nP d4)
    (try simp only [Act.put, List.setIfInBounds_toArray, List.set_cons_zero, List.set_cons_succ])
    refine RegG.wpG.done (by kernel_rfl) ?_ _
    go_wp2_with fail
    go_meet
    exact ⟨_, _, _, _, _, HC, rfl, rfl, rfl, rfl⟩
    --R1>
  case rest =>
    clear HC p2 p4 p5 p6
    obtain ⟨F, v2, v4, v5, v6, HC, f0, f2, f3, f4⟩ := hcut
    replace HC := HC.drew
    have p7 := HC.cell 7 _ rfl
    have p8 := HC.cell 8 _ rfl
    have p3 := HC.cell 3 _ rfl
    go_upto_region 2 with fail
    go_cut [] (fun wx => ∃ F v3 v7 v8, Cop w wx F [.int .i64 qn, .int .i64 qe, v2, v3, v4, v5, v6, v7, v8, .int .i64 qf, .int .i64 qr] ∧ F 5 = ⟨30, 1, v7, nP, zv s.pe⟩ ∧ F 6 = ⟨4, 1, v8, nP, bvs s.com⟩ ∧ F 1 = ⟨26, 5, v3, nT, flat s.ms vs⟩ ∧ F 0 = ⟨4, 1, v2, nT, bvs s.done⟩ ∧ F 2 = ⟨30, 1, v4, nT, zv s.te⟩ ∧ F 3 = ⟨4, 1, v5, nP, bvs s.has⟩ ∧ F 4 = ⟨9, 1, v6, nP, svs s.res⟩)
    case first =>
    --R2<
      refine RegG.wp_region_g (fun W => W.cell? ⟨w.heap.size, 7, none⟩ = some (.slice A7 nP c7) ∧ W.cell? ⟨w.heap.size, 8, none⟩ = some (.slice A8 nP c8) ∧ W.cell? ⟨w.heap.size, 3, none⟩ = some (.slice A3 nT c3)) [10] (by kernel_rfl) ?_
      refine RegG.wpG.pure (v := ?_) 0 1 rfl (by kernel_rfl) (by decide) (fun _ _ _ h => h) ?_ rfl (fun _ => ⟨p7, p8, p3⟩) ?_
      rotate_left
      · (intro w; go_simp; first | done | with_reducible rfl)
      (try simp only [Act.put, List.setIfInBounds_toArray, List.set_cons_zero, List.set_cons_succ])
      refine RegG.wpG.load (v := ?_) 1 10 rfl (by kernel_rfl) (by decide) (by decide) (fun _ _ _ h => h) ?_ rfl ⟨p7, p8, p3⟩ ?_
      rotate_left
      · (rintro w ⟨s7, s8, s3⟩; go_simp; first | done | with_reducible rfl)
      (try simp only [Act.put, List.setIfInBounds_toArray, List.set_cons_zero, List.set_cons_succ])
      refine RegG.wpG.pure (v := ?_) 3 4 rfl (by kernel_rfl) (by decide) (fun _ _ _ h => h) ?_ rfl (fun _ => ⟨p7, p8, p3⟩) ?_
      rotate_left
      · (intro w; go_simp; first | done | with_reducible rfl)
      (try simp only [Act.put, List.setIfInBounds_toArray, List.set_cons_zero, List.set_cons_succ])
      refine RegG.wpG.load (v := ?_) 4 10 rfl (by kernel_rfl) (by decide) (by decide) (fun _ _ _ h => h) ?_ rfl ⟨p7, p8, p3⟩ ?_
      rotate_left
      · (rintro w ⟨s7, s8, s3⟩; go_simp; first | done | with_reducible rfl)
      (try simp only [Act.put, List.setIfInBounds_toArray, List.set_cons_zero, List.set_cons_succ])
      refine RegG.wpG.pure (v := ?_) 6 7 rfl (by kernel_rfl) (by decide) (fun _ _ _ h => h) ?_ rfl (fun _ => ⟨p7, p8, p3⟩) ?_
      rotate_left
      · (intro w; go_simp; first | done | with_reducible rfl)
      (try simp only [Act.put, List.setIfInBounds_toArray, List.set_cons_zero, List.set_cons_succ])
      refine RegG.wpG.load (v := ?_) 7 10 rfl (by kernel_rfl) (by decide) (by decide) (fun _ _ _ h => h) ?_ rfl ⟨p7, p8, p3⟩ ?_
      rotate_left
      · (rintro w ⟨s7, s8, s3⟩; go_simp; first | done | with_reducible rfl)
      (try simp only [Act.put, List.setIfInBounds_toArray, List.set_cons_zero, List.set_cons_succ])
      refine RegG.wpG.one 2 (by kernel_rfl) rfl rfl (fun K hK => ?_)
      go_simp
      go_at_call 81
      (with_reducible refine (K7.out _ HC.below).mono ?_)
      rintro e w3 ⟨v, rfl, O, hd⟩
      obtain ⟨B5, d5, rfl⟩ := own_sl' O
      replace HC := HC.new 5 (by decide) (E := ⟨30, 1, .slice B5 nP d5, nP, zv s.pe⟩) O hd
      clear O hd
      clear p7 p8 p3
      have p7 := HC.cell 7 _ rfl
      have p8 := HC.cell 8 _ rfl
      have p3 := HC.cell 3 _ rfl
      refine hK.out _ _ (fun _ => ⟨p7, p8, p3⟩) ?_
      clear hK K
      (try simp only [Act.put, List.setIfInBounds_toArray, List.set_cons_zero, List.set_cons_succ])
      refine RegG.wpG.pure (v := ?_) 9 10 rfl (by kernel_rfl) (by decide) (fun _ _ _ h => h) ?_ rfl (fun _ => ⟨p7, p8, p3⟩) ?_
      rotate_left
      · (intro w; go_simp; first | done | with_reducible rfl)
      (try simp only [Act.put, List.setIfInBounds_toArray, List.set_cons_zero, List.set_cons_succ])
      refine RegG.wpG.one 5 (by kernel_rfl) rfl rfl (fun K hK => ?_)
      go_simp
      go_at_call 80
      (with_reducible refine (K8.out _ HC.below).mono ?_)
      rintro e w3 ⟨v, rfl, O, hd⟩
      obtain ⟨B6, d6, rfl⟩ := own_sl' O
      replace HC := HC.new 6 (by decide) (E := ⟨4, 1, .slice B6 nP d6, nP, bvs s.com⟩) O hd
      clear O hd
      clear p7 p8 p3
      have p7 := HC.cell 7 _ rfl
      have p8 := HC.cell 8 _ rfl
      have p3 := HC.cell 3 _ rfl
      refine hK.out _ _ (fun _ => ⟨p7, p8, p3⟩) ?_
      clear hK K
      (try simp only [Act.put, List.setIfInBounds_toArray, List.set_cons_zero, List.set_cons_succ])
      refine RegG.wpG.one 8 (by kernel_rfl) rfl rfl (fun K hK => ?_)
      go_simp
      go_at_call 83
      (with_reducible refine (K3.out _ HC.below).mono ?_)
      rintro e w3 ⟨v, rfl, O, hd⟩
      obtain ⟨B1, d1, rfl⟩ := own_sl' O
      replace HC := HC.new 1 (by decide) (E := ⟨26, 5, .slice B1 nT d1, nT, flat s.ms vs⟩) O hd
      clear O hd
      clear p7 p8 p3
      have p7 := HC.cell 7 _ rfl
      have p8 := HC.cell 8 _ rfl
      have p3 := HC.cell 3 _ rfl
      refine hK.out _ _ (fun _ => ⟨p7, p8, p3⟩) ?_
      clear hK K
      (try simp only [Act.put, List.setIfInBounds_toArray, List.set_cons_zero, List.set_cons_succ])
      refine RegG.wpG.one 10 (by kernel_rfl) rfl rfl (fun K hK => ?_)
      have y7 := HC.cell 7 _ rfl
      have z7 := HC.free 7
      go_simp
      refine hK.out _ _ (fun h => absurd h (by decide)) ?_
      clear hK K y7 z7
      replace HC := HC.set 7 (.slice B5 nP d5)
      (try simp only [Act.put, List.setIfInBounds_toArray, List.set_cons_zero, List.set_cons_succ])
      refine RegG.wpG.pure (v := ?_) 11 12 rfl (by kernel_rfl) (by decide) (fun _ _ _ h => h) ?_ rfl (fun h => absurd h (by decide)) ?_
      rotate_left
      · (intro w; go_simp; first | done | with_reducible rfl)
      (try simp only [Act.put, List.setIfInBounds_toArray, List.set_cons_zero, List.set_cons_succ])
      refine RegG.wpG.one 12 (by kernel_rfl) rfl rfl (fun K hK => ?_)
      have y8 := HC.cell 8 _ rfl
      have z8 := HC.free 8
      go_simp
      refine hK.out _ _ (fun h => absurd h (by decide)) ?_
      clear hK K y8 z8
      replace HC := HC.set 8 (.slice B6 nP d6)
      (try simp only [Act.put, List.setIfInBounds_toArray, List.set_cons_zero, List.set_cons_succ])
      refine RegG.wpG.pure (v := ?_) 13 14 rfl (by kernel_rfl) (by decide) (fun _ _ _ h => h) ?_ rfl (fun h => absurd h (by decide)) ?_
      rotate_left
      · (intro w; go_simp; first | done | with_reducible rfl)
      (try simp only [Act.put, List.setIfInBounds_toArray, List.set_cons_zero, List.set_cons_succ])
      refine RegG.wpG.one 14 (by kernel_rfl) rfl rfl (fun K hK => ?_)
      have y3 := HC.cell 3 _ rfl
      have z3 := HC.free 3
      go_simp
      refine hK.out _ _ (fun h => absurd h (by decide)) ?_
      clear hK K y3 z3
      replace HC := HC.set 3 (.slice B1 nT d1)
      (try simp only [Act.put, List.setIfInBounds_toArray, List.set_cons_zero, List.set_cons_succ])
      refine RegG.wpG.done (by kernel_rfl) ?_ _
      go_wp2_with fail
      go_meet
      exact ⟨_, _, _, _, HC, rfl, rfl, rfl, f0, f2, f3, f4⟩
    --R2>
    case rest =>
      clear HC p7 p8 p3 f0 f2 f3 f4 F
      obtain ⟨F, v3, v7, v8, HC, f5, f6, f1, f0, f2, f3, f4⟩ := hcut
      obtain ⟨e1, e2, e3, e4, e5, e6⟩ := HQ.out
      have hmans : ∀ j (hj : j < s.ms.length), ManB (Safe 0 F wc.heap.size) wc (vs j) s.ms[j] := fun j hj =>
        ((ManB.of (HS.out.m.man j hj)).keep (fun q hq => HC.below.block q hq)).mono (fun q hq => safe_low HC.pool HC.below.size hq)
      have HO : OwnS' wc w.heap.size 0 w.heap.size F v2 v3 v4 v5 v6 v7 v8 vs s := ⟨⟨HC.pool, e1 ▸ f0, e1 ▸ f1, e1 ▸ f2, e2 ▸ f3, e2 ▸ f4, e2 ▸ f5, e2 ▸ f6, hmans, HS.out.t.le, HS.out.p.le, HS.out.ok⟩, by rw [HC.box, e3, e4, e5, e6]⟩
      have hres := HC.res
      have HB := HC.below
      clear hmans HC f0 f1 f2 f3 f4 f5 f6 e1 e2 e3 e4 e5 e6
      have hlm := HS.out.ok.lm
      obtain ⟨A9, c9, rfl⟩ : ∃ A c, v3 = .slice A nT c := own_sl' (by have := HO.rows.pool.own 1; rw [HO.rows.m, ← HQ.out.1] at this; exact this)
      have q3 := HO.rows.pool.cell 7 HO.box rfl (j := 3) rfl
      go_wp2
      clear q3
      go_loopw [3, 35] (fun _ i wr => ∃ k : Nat, k ≤ nT ∧ i = .int .i64 k ∧ Below w.heap.size w wr ∧ ∃ (F : Nat → Ent) (vs : Nat → MV), OwnS' wr w.heap.size 0 w.heap.size F v2 (.slice A9 nT c9) v4 v5 v6 v7 v8 vs s ∧ F 8 = ⟨42, 11, .slice (some ⟨w.heap.size + 1, 0, none⟩) 1 1, 1, [.int .i64 0, .int .i64 0, .slice none 0 0, .slice none 0 0, .slice none 0 0, .slice none 0 0, .slice none 0 0, .slice none 0 0, .slice none 0 0, .int .i64 0, .int .i64 0]⟩ ∧ ∀ j (hj : j < s.ms.length), j < k → ManB (Safe w.heap.size F wr.heap.size) wr (vs j) s.ms[j]) (fun _ i _ => nT - (intOf i).toNat)
      case atStart => exact ⟨0, by omega, rfl, HB, F, vs, HO, hres, fun j hj h => absurd h (Nat.not_lt_zero _)⟩
      case round =>
        clear HO hres HB F
        obtain ⟨k, hk, rfl, HB, F, vsr, HO, hres, hlw⟩ := hrel
        have HLW := Lib.hid hlw
        clear hlw
        have hQ1 := HQ.out.1
        by_cases hlt : k < nT
        · have hkm : k < s.ms.length := by omega
          obtain ⟨g, cap, hv⟩ := own_form (HO.rows.pool.own 1) (by rw [HO.rows.m]; show 0 < s.done.length; omega)
          rw [HO.rows.m] at hv
          simp only [Value.slice.injEq] at hv
          obtain ⟨rfl, hdrop, rfl⟩ := hv
          clear hdrop
          have hbg : g ≠ w.heap.size := fun e => by
            have := HO.rows.pool.ne 1 7 g (by rw [HO.rows.m]; rfl) (by rw [HO.box, e]; rfl)
            omega
          have i0 : (0 : Int) ≤ (k : Int) := by omega
          have i1 : (k : Int) < (nT : Int) := by omega
          have hme := LS.same_ms s hkm
          have hsl := HS.out.ok.slim _ (List.getElem_mem hkm)
          obtain ⟨m, hm⟩ : ∃ m, m = s.ms[k] := ⟨_, rfl⟩
          obtain ⟨v, hv⟩ : ∃ v, v = vsr k := ⟨_, rfl⟩
          rw [← hm] at hme hsl
          have HME := Lib.hid hme
          have HSL := Lib.hid hsl
          have HM := Lib.hid hm
          have HV := Lib.hid hv
          have HQ1 := Lib.hid hQ1
          clear hme hsl hm hv hQ1
          replace HO := HO.below (w' := wr.drew) ((Below.refl _ _).drew)
          replace HB := HB.drew
          have HMV := Lib.hid (show ManV wr.drew v m by rw [HM.out, HV.out]; exact (HO.rows.man k hkm).here)
          have hvv : (Value.slice (some ⟨g, 0, none⟩) nT c9) = .slice (some ⟨g, 0, none⟩) s.done.length c9 := by rw [HQ1.out]
          have HVV := Lib.hid hvv
          have hgc : ∀ (q : Nat) (hq : q < 5) (u : Value), (mcells m v)[q]? = some u → wr.drew.cell? ⟨g, k * 5 + q, none⟩ = some u := fun q hq u hu => HO.rows.pool_cell HVV.out hkm hq (by rw [← HM.out, ← HV.out]; exact hu)
          have g0 := hgc 0 (by omega) _ rfl
          have g1 := hgc 1 (by omega) _ rfl
          have g2 := hgc 2 (by omega) _ rfl
          have g3 := hgc 3 (by omega) _ rfl
          have g4 := hgc 4 (by omega) _ rfl
          rw [Nat.add_zero] at g0
          clear hgc hvv
          have HOH := Lib.hid HO
          go_upto_region 6 with fail
          have p3 := HO.rows.pool.cell 7 HO.box rfl (j := 3) rfl
          refine RegG.wp_region_g (fun W => W.cell? ⟨w.heap.size, 3, none⟩ = some (.slice (some ⟨g, 0, none⟩) nT c9) ∧ W.cell? ⟨g, k * 5, none⟩ = some (.int .i64 m.task) ∧ W.cell? ⟨g, k * 5 + 1, none⟩ = some (.int .i64 m.att) ∧ W.cell? ⟨g, k * 5 + 2, none⟩ = some (.slice v.A2 m.sz.length v.c2) ∧ W.cell? ⟨g, k * 5 + 3, none⟩ = some (.slice v.A3 m.sm.length v.c3) ∧ W.cell? ⟨g, k * 5 + 4, none⟩ = some (.slice v.A4 m.hm.length v.c4)) [10] (by kernel_rfl) ?_
          refine RegG.wpG.pure (v := ?_) 0 1 rfl (by kernel_rfl) (by decide) (fun _ _ _ h => h) ?_ rfl (fun _ => ⟨p3, g0, g1, g2, g3, g4⟩) ?_
          rotate_left
          · (intro w; go_simp; first | done | with_reducible rfl)
          (try simp only [Act.put, List.setIfInBounds_toArray, List.set_cons_zero, List.set_cons_succ])
          refine RegG.wpG.load (v := ?_) 1 10 rfl (by kernel_rfl) (by decide) (by decide) (fun _ _ _ h => h) ?_ rfl ⟨p3, g0, g1, g2, g3, g4⟩ ?_
          rotate_left
          · (rintro w ⟨s3, s4, s5, s6, s7, s8⟩; go_simp; first | done | with_reducible rfl)
          (try simp only [Act.put, List.setIfInBounds_toArray, List.set_cons_zero, List.set_cons_succ])
          refine RegG.wpG.pure (v := ?_) 2 9 rfl (by kernel_rfl) (by decide) (fun _ _ _ h => h) ?_ rfl (fun _ => ⟨p3, g0, g1, g2, g3, g4⟩) ?_
          rotate_left
          · (intro w; go_simp; first | done | with_reducible rfl)
          (try simp only [Act.put, List.setIfInBounds_toArray, List.set_cons_zero, List.set_cons_succ])
          refine RegG.wpG.pure (v := ?_) 3 4 rfl (by kernel_rfl) (by decide) (fun _ _ _ h => h) ?_ rfl (fun _ => ⟨p3, g0, g1, g2, g3, g4⟩) ?_
          rotate_left
          · (intro w; go_simp; first | done | with_reducible rfl)
          (try simp only [Act.put, List.setIfInBounds_toArray, List.set_cons_zero, List.set_cons_succ])
          refine RegG.wpG.load (v := ?_) 4 10 rfl (by kernel_rfl) (by decide) (by decide) (fun _ _ _ h => h) ?_ rfl ⟨p3, g0, g1, g2, g3, g4⟩ ?_
          rotate_left
          · (rintro w ⟨s3, s4, s5, s6, s7, s8⟩; go_simp; first | done | with_reducible rfl)
          (try simp only [Act.put, List.setIfInBounds_toArray, List.set_cons_zero, List.set_cons_succ])
          refine RegG.wpG.pure (v := ?_) 5 6 rfl (by kernel_rfl) (by decide) (fun _ _ _ h => h) ?_ rfl (fun _ => ⟨p3, g0, g1, g2, g3, g4⟩) ?_
          rotate_left
          · (intro w; go_simp; first | done | with_reducible rfl)
          (try simp only [Act.put, List.setIfInBounds_toArray, List.set_cons_zero, List.set_cons_succ])
          refine RegG.wpG.pure (v := ?_) 6 7 rfl (by kernel_rfl) (by decide) (fun _ _ _ h => h) ?_ rfl (fun _ => ⟨p3, g0, g1, g2, g3, g4⟩) ?_
          rotate_left
          · (intro w; go_simp; first | done | with_reducible rfl)
          (try simp only [Act.put, List.setIfInBounds_toArray, List.set_cons_zero, List.set_cons_succ])
          refine RegG.wpG.load (v := ?_) 7 10 rfl (by kernel_rfl) (by decide) (by decide) (fun _ _ _ h => h) ?_ rfl ⟨p3, g0, g1, g2, g3, g4⟩ ?_
          rotate_left
          · (rintro w ⟨s3, s4, s5, s6, s7, s8⟩; go_simp; first | done | with_reducible rfl)
          (try simp only [Act.put, List.setIfInBounds_toArray, List.set_cons_zero, List.set_cons_succ])
          refine RegG.wpG.one 8 (by kernel_rfl) rfl rfl (fun K hK => ?_)
          go_simp
          go_at_call 77
          (with_reducible refine (man_clone HMV.out HSL.out).mono ?_)
          rintro e w6 ⟨v6', rfl, hN, hd⟩
          have HO1 := Lib.hid (HOH.out.below hd)
          have HO2 := Lib.hid (HO1.out.put_man HVV.out hkm (new_safe HOH.out.rows.pool (Nat.zero_le _) hN) HSL.out)
          have HL2 := Lib.hid (HO1.out.put_low HVV.out hkm HM.out (new_safe HOH.out.rows.pool HB.size hN) (fun j hj hjk => ((HLW.out j hj hjk).keep (fun q hq => hd.block q hq.1.1)).mono (fun q hq => ⟨⟨Nat.lt_of_lt_of_le hq.1.1 hd.size, hq.1.2⟩, hq.2⟩)))
          replace g0 := cell_below hd g0
          replace g1 := cell_below hd g1
          replace g2 := cell_below hd g2
          replace g3 := cell_below hd g3
          replace g4 := cell_below hd g4
          replace p3 := cell_below hd p3
          have z0 := HO1.out.rows.pool.free 1 HO1.out.rows.m HVV.out (k * 5)
          have z1 := HO1.out.rows.pool.free 1 HO1.out.rows.m HVV.out (k * 5 + 1)
          have z2 := HO1.out.rows.pool.free 1 HO1.out.rows.m HVV.out (k * 5 + 2)
          have z3 := HO1.out.rows.pool.free 1 HO1.out.rows.m HVV.out (k * 5 + 3)
          have z4 := HO1.out.rows.pool.free 1 HO1.out.rows.m HVV.out (k * 5 + 4)
          have HB6 := Lib.hid (bt HB HB.size hd)
          clear hd hN
          refine hK.out _ _ (fun _ => ⟨p3, g0, g1, g2, g3, g4⟩) ?_
          clear hK K
          (try simp only [Act.put, List.setIfInBounds_toArray, List.set_cons_zero, List.set_cons_succ])
          refine RegG.wpG.pure (v := ?_) 9 10 rfl (by kernel_rfl) (by decide) (fun _ _ _ h => h) ?_ rfl (fun _ => ⟨p3, g0, g1, g2, g3, g4⟩) ?_
          rotate_left
          · (intro w; go_simp; first | done | with_reducible rfl)
          (try simp only [Act.put, List.setIfInBounds_toArray, List.set_cons_zero, List.set_cons_succ])
          refine RegG.wpG.one 10 (by kernel_rfl) rfl rfl (fun K hK => ?_)
          go_simp
          refine hK.out _ _ (fun h => absurd h (by decide)) ?_
          clear hK K g0 g1 g2 g3 g4 z0 z1 z2 z3 z4 p3
          (try simp only [Act.put, List.setIfInBounds_toArray, List.set_cons_zero, List.set_cons_succ])
          refine RegG.wpG.done (by kernel_rfl) ?_ _
          have HX := Lib.hid (show OwnS' _ w.heap.size 0 w.heap.size _ v2 _ v4 v5 v6 v7 v8 (upv vsr k v6') s from HME.out ▸ HO2.out)
          have HB7 := Lib.hid (((((HB6.out.setCell (p := ⟨g, k * 5, none⟩) (HOH.out.rows.pool.lt 1 (by rw [HOH.out.rows.m]; rfl)).1 (.int .i64 m.task)).setCell (p := ⟨g, k * 5 + 1, none⟩) (HOH.out.rows.pool.lt 1 (by rw [HOH.out.rows.m]; rfl)).1 (.int .i64 m.att)).setCell (p := ⟨g, k * 5 + 2, none⟩) (HOH.out.rows.pool.lt 1 (by rw [HOH.out.rows.m]; rfl)).1 (.slice v6'.A2 m.sz.length v6'.c2)).setCell (p := ⟨g, k * 5 + 3, none⟩) (HOH.out.rows.pool.lt 1 (by rw [HOH.out.rows.m]; rfl)).1 (.slice v6'.A3 m.sm.length v6'.c3)).setCell (p := ⟨g, k * 5 + 4, none⟩) (HOH.out.rows.pool.lt 1 (by rw [HOH.out.rows.m]; rfl)).1 (.slice v6'.A4 m.hm.length v6'.c4))
          have HR8 := Lib.hid hres
          clear HO HB hres
          go_wp2
          go_roundw
          case rel => exact ⟨k + 1, by omega, by go_num, HB7.out, _, _, HX.out, (up_ne _ _ (by decide)).trans HR8.out, HL2.out⟩
          case measure => simp [intOf]; omega
        · obtain rfl : k = nT := by omega
          clear hQ1
          obtain ⟨A2, c2, A3, c3, A4, c4, A5, c5, A6, c6, A7, c7, A8, c8, rfl, hv3, rfl, rfl, rfl, rfl, rfl, _⟩ := HO.rows.read
          have q0 := HO.rows.pool.cell 7 HO.box rfl (j := 0) rfl
          have q1 := HO.rows.pool.cell 7 HO.box rfl (j := 1) rfl
          have q2 := HO.rows.pool.cell 7 HO.box rfl (j := 2) rfl
          have q3 := HO.rows.pool.cell 7 HO.box rfl (j := 3) rfl
          have q4 := HO.rows.pool.cell 7 HO.box rfl (j := 4) rfl
          have q5 := HO.rows.pool.cell 7 HO.box rfl (j := 5) rfl
          have q6 := HO.rows.pool.cell 7 HO.box rfl (j := 6) rfl
          have q7 := HO.rows.pool.cell 7 HO.box rfl (j := 7) rfl
          have q8 := HO.rows.pool.cell 7 HO.box rfl (j := 8) rfl
          have q9 := HO.rows.pool.cell 7 HO.box rfl (j := 9) rfl
          have q10 := HO.rows.pool.cell 7 HO.box rfl (j := 10) rfl
          have hA := pool_obj HO.rows.pool 8 hres
          have HR8 := Lib.hid hres
          have HOH := Lib.hid HO
          have HOR := Lib.hid (show OwnR wr w.heap.size F _ _ _ _ _ _ _ vsr s from ⟨HO.rows.pool, HO.rows.d, HO.rows.m, HO.rows.t, HO.rows.h, HO.rows.r, HO.rows.p, HO.rows.c, fun j hj => HLW.out j hj (by have h1 := HQ.out.1; have h2 := hlm; omega), HO.rows.rt, HO.rows.rp, HO.rows.ok⟩)
          clear HO hres
          have hone : (#[.int .i64 s.n, .int .i64 s.ep, .slice A2 s.done.length c2, .slice A9 k c9, .slice A4 s.done.length c4, .slice A5 s.has.length c5, .slice A6 s.has.length c6, .slice A7 s.has.length c7, .slice A8 s.has.length c8, .int .i64 s.fin, .int .i64 s.er] : Array Value).all (·.oneCell') = true := by simp [Value.oneCell']
          clear hv3
          go_wp2_with (refine wpList_store_row rfl 42 (.tmp 2) (.tmp 49) rfl (w.heap.size + 1) #[.int .i64 s.n, .int .i64 s.ep, .slice A2 s.done.length c2, .slice A9 k c9, .slice A4 s.done.length c4, .slice A5 s.has.length c5, .slice A6 s.has.length c6, .slice A7 s.has.length c7, .slice A8 s.has.length c8, .int .i64 s.fin, .int .i64 s.er] rfl rfl 42 #[.int .i64 0, .int .i64 0, .slice none 0 0, .slice none 0 0, .slice none 0 0, .slice none 0 0, .slice none 0 0, .slice none 0 0, .slice none 0 0, .int .i64 0, .int .i64 0] hA info_state rfl hone ?_)
          have hR := setRow_heap _ _ _ #[.int .i64 s.n, .int .i64 s.ep, .slice A2 s.done.length c2, .slice A9 k c9, .slice A4 s.done.length c4, .slice A5 s.has.length c5, .slice A6 s.has.length c6, .slice A7 s.has.length c7, .slice A8 s.has.length c8, .int .i64 s.fin, .int .i64 s.er] _ _ hA
          refine bodyPost_ret (results_cell_one rfl _ _ (w.heap.size + 1) 42 _ (0, 0) _ rfl hR Try.underlying42 rfl info_state) rfl ?_
          exact ⟨_, _, _, _, _, _, _, _, vsr, rfl, HOR.out.other (by decide) HR8.out _ rfl, HB.trans ⟨rfl, rfl, rfl, by simp, fun q hq => setRow_other wr _ q _ (by omega)⟩⟩
end Go.Proofs.Ytmlemichkeomjaa.LedW
