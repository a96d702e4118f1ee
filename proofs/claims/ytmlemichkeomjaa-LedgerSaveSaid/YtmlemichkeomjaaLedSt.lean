/- A variable that holds a ledger's state. -/
import Derived.Test.YtmlemichkeomjaaLedAw
import Derived.Test.YtmlemichkeomjaaLedSame
import Derived.Test.YtmlemichkeomjaaRegG
set_option linter.unusedVariables false
set_option linter.unusedSimpArgs false
namespace Go.Proofs.Ytmlemichkeomjaa.LedW
open Go.RowKit Go.Proofs.Ytmlemichkeomjaa.Base Go.Proofs.Ytmlemichkeomjaa.MendW Go.Proofs.Ytmlemichkeomjaa.ManP Go.Proofs.Ytmlemichkeomjaa.ManW Go.Proofs.Ytmlemichkeomjaa.LedP
/-- Where a state's rows lie. -/
structure SV where
  A2 : Option Addr
  c2 : Nat
  A3 : Option Addr
  c3 : Nat
  A4 : Option Addr
  c4 : Nat
  A5 : Option Addr
  c5 : Nat
  A6 : Option Addr
  c6 : Nat
  A7 : Option Addr
  c7 : Nat
  A8 : Option Addr
  c8 : Nat
  vs : Nat → MV
def SV.cells (x : SV) (s : LS) : Array Value := #[.int .i64 s.n, .int .i64 s.ep, .slice x.A2 s.done.length x.c2, .slice x.A3 s.done.length x.c3, .slice x.A4 s.done.length x.c4, .slice x.A5 s.has.length x.c5, .slice x.A6 s.has.length x.c6, .slice x.A7 s.has.length x.c7, .slice x.A8 s.has.length x.c8, .int .i64 s.fin, .int .i64 s.er]
theorem SV.one (y : SV) (s : LS) : (y.cells s).all (·.oneCell') = true := by simp [SV.cells, Value.oneCell']
def StB (lo hi : Nat) (w : World) (x : SV) (s : LS) : Prop := StateB lo hi w x.A2 x.A3 x.A4 x.A5 x.A6 x.A7 x.A8 x.vs s
def StW (w : World) (x : SV) (s : LS) : Prop := StateW w x.A2 x.A3 x.A4 x.A5 x.A6 x.A7 x.A8 x.vs s
theorem StW.below {w w' : World} {x : SV} {s : LS} (h : StW w x s) (hb : Below w.heap.size w w') : StW w' x s := StateW.below h hb
theorem StW.ep {w : World} {x : SV} {s : LS} (h : StW w x s) (e : Int) : StW w x { s with ep := e } := ⟨h.d, h.m, h.t, h.h, h.r, h.p, h.c, ⟨h.ok.lm, h.ok.lt, h.ok.lr, h.ok.lp, h.ok.lc, h.ok.few, h.ok.fewp, h.ok.slim⟩⟩
theorem StB.ep {lo hi : Nat} {w : World} {x : SV} {s : LS} (h : StB lo hi w x s) (e : Int) : StB lo hi w x { s with ep := e } := fun w2 hk => StW.ep (x := x) (h w2 hk) e
def ApplyV (w : World) (s : LS) (n : Nat) (e : Ending) (w' : World) : Prop := ∃ x : SV, e = .returned (.tuple #[.agg #[.int .i64 s.n, .int .i64 s.ep, .slice x.A2 s.done.length x.c2, .slice x.A3 s.done.length x.c3, .slice x.A4 s.done.length x.c4, .slice x.A5 s.has.length x.c5, .slice x.A6 s.has.length x.c6, .slice x.A7 s.has.length x.c7, .slice x.A8 s.has.length x.c8, .int .i64 s.fin, .int .i64 s.er], .int .i64 (n : Nat)]) ∧ StB w.heap.size w'.heap.size w' x s ∧ Below w.heap.size w w'
theorem ApplyPost.v {w w' : World} {s : LS} {n : Nat} {e : Ending} (h : ApplyPost w s n e w') : ApplyV w s n e w' := by
  obtain ⟨A2, c2, A3, c3, A4, c4, A5, c5, A6, c6, A7, c7, A8, c8, vs, he, hs, hb⟩ := h
  exact ⟨⟨A2, c2, A3, c3, A4, c4, A5, c5, A6, c6, A7, c7, A8, c8, vs⟩, he, hs, hb⟩
theorem apply_v (x : SV) (s : LS) (r : LR) (v : MV) (w : World) (h : StW w x s) (hv : ManV w v r.m) (hs : Slim r.m) :
    Calls Try.prog 21 #[.agg #[.int .i64 s.n, .int .i64 s.ep, .slice x.A2 s.done.length x.c2, .slice x.A3 s.done.length x.c3, .slice x.A4 s.done.length x.c4, .slice x.A5 s.has.length x.c5, .slice x.A6 s.has.length x.c6, .slice x.A7 s.has.length x.c7, .slice x.A8 s.has.length x.c8, .int .i64 s.fin, .int .i64 s.er], .agg #[.int .i64 r.kind, .int .i64 r.n, .int .i64 r.e, .string r.text, .int .i64 r.m.task, .int .i64 r.m.att, .slice v.A2 r.m.sz.length v.c2, .slice v.A3 r.m.sm.length v.c3, .slice v.A4 r.m.hm.length v.c4]] w (ApplyV w (applyP s r).1 (applyP s r).2) :=
  (apply_any x.A2 x.A3 x.A4 x.A5 x.A6 x.A7 x.A8 x.c2 x.c3 x.c4 x.c5 x.c6 x.c7 x.c8 x.vs s r v w h hv hs).mono fun _ _ h => h.v
theorem apply_0 (k n e : Int) (x : SV) (s : LS) (w : World) (h : StW w x s) :
    Calls Try.prog 21 #[.agg #[.int .i64 s.n, .int .i64 s.ep, .slice x.A2 s.done.length x.c2, .slice x.A3 s.done.length x.c3, .slice x.A4 s.done.length x.c4, .slice x.A5 s.has.length x.c5, .slice x.A6 s.has.length x.c6, .slice x.A7 s.has.length x.c7, .slice x.A8 s.has.length x.c8, .int .i64 s.fin, .int .i64 s.er], .agg #[.int .i64 k, .int .i64 n, .int .i64 e, .string ⟨#[]⟩, .int .i64 0, .int .i64 0, .slice none 0 0, .slice none 0 0, .slice none 0 0]] w (ApplyV w (applyP s (rec0 k n e)).1 (applyP s (rec0 k n e)).2) :=
  (apply_none k n e x.A2 x.A3 x.A4 x.A5 x.A6 x.A7 x.A8 x.c2 x.c3 x.c4 x.c5 x.c6 x.c7 x.c8 x.vs s w h).mono fun _ _ h => h.v
theorem new_v (t p n : Nat) (ht : 1 ≤ t ∧ t ≤ 16) (hp : 1 ≤ p ∧ p ≤ 16) (hn : 1 ≤ n ∧ n ≤ 16) (w : World) :
    Calls Try.prog 18 #[.int .i64 (t : Nat), .int .i64 (p : Nat), .int .i64 (n : Nat)] w (ApplyV w (newS t p n) 0) := (new_ok t p n ht hp hn w).mono fun _ _ h => h.v
theorem same_v (x y : SV) (s : LS) (w : World) (h : StW w x s) (h' : StW w y s) :
    Calls Try.prog 25 #[.agg #[.int .i64 s.n, .int .i64 s.ep, .slice x.A2 s.done.length x.c2, .slice x.A3 s.done.length x.c3, .slice x.A4 s.done.length x.c4, .slice x.A5 s.has.length x.c5, .slice x.A6 s.has.length x.c6, .slice x.A7 s.has.length x.c7, .slice x.A8 s.has.length x.c8, .int .i64 s.fin, .int .i64 s.er], .agg #[.int .i64 s.n, .int .i64 s.ep, .slice y.A2 s.done.length y.c2, .slice y.A3 s.done.length y.c3, .slice y.A4 s.done.length y.c4, .slice y.A5 s.has.length y.c5, .slice y.A6 s.has.length y.c6, .slice y.A7 s.has.length y.c7, .slice y.A8 s.has.length y.c8, .int .i64 s.fin, .int .i64 s.er]] w fun e w' => e = .returned (.bool true) ∧ Below w.heap.size w w' :=
  same_state _ _ _ _ _ _ _ _ _ _ _ _ _ _ _ _ _ _ _ _ _ _ _ _ _ _ _ _ x.vs y.vs s w h h'
/-- The block g holds the state s. -/
structure VarS (w0 w : World) (g : Nat) (x : SV) (s : LS) : Prop where
  box : w.heap[g]? = some (.cells (x.cells s) 42 (0, 0))
  st : ∃ lo hi, StB lo hi w x s ∧ (g < lo ∨ hi ≤ g) ∧ hi ≤ w.heap.size
  lo : w0.heap.size ≤ g
section
variable {w0 w w' : World} {g : Nat} {x : SV} {s : LS}
theorem VarS.lt (h : VarS w0 w g x s) : g < w.heap.size := (Array.getElem?_eq_some_iff.1 h.box).1
theorem VarS.state (h : VarS w0 w g x s) : StW w x s := by
  obtain ⟨lo, hi, h1, _⟩ := h.st
  exact StateB.here h1
theorem VarS.below (h : VarS w0 w g x s) (hb : Below w.heap.size w w') : VarS w0 w' g x s := by
  obtain ⟨lo, hi, h1, h2, h3⟩ := h.st
  exact ⟨(hb.block _ h.lt).trans h.box, ⟨lo, hi, StateB.below h1 (hb.mono h3), h2, Nat.le_trans h3 hb.size⟩, h.lo⟩
theorem VarS.cell (h : VarS w0 w g x s) {j : Nat} {u : Value} (hu : (x.cells s)[j]? = some u) : w.cell? ⟨g, j, none⟩ = some u := by rw [cell_of_row _ _ _ _ _ _ h.box]; exact hu
theorem VarS.new (hs : StB w'.heap.size w.heap.size w x s) (hlo : w0.heap.size ≤ w.heap.size) : VarS w0 (w.alloc (.cells #[.int .i64 s.n, .int .i64 s.ep, .slice x.A2 s.done.length x.c2, .slice x.A3 s.done.length x.c3, .slice x.A4 s.done.length x.c4, .slice x.A5 s.has.length x.c5, .slice x.A6 s.has.length x.c6, .slice x.A7 s.has.length x.c7, .slice x.A8 s.has.length x.c8, .int .i64 s.fin, .int .i64 s.er] 42)) w.heap.size x s :=
  ⟨heap_alloc_new w _, ⟨_, _, StateB.below hs ((Below.refl w.heap.size w).alloc (Nat.le_refl _) _), .inr (Nat.le_refl _), by rw [World.size_alloc]; omega⟩, hlo⟩
/-- Another state laid into the block. -/
theorem VarS.put {lo hi : Nat} {cs : Array Value} {y : SV} {s' : LS} (hb : w.heap[g]? = some (.cells cs 42 (0, 0))) (hl : w0.heap.size ≤ g) (hs : StB lo hi w y s') (hg : g < lo ∨ hi ≤ g) (hh : hi ≤ w.heap.size) : VarS w0 (w.setRow g (y.cells s')) g y s' :=
  ⟨setRow_heap _ _ _ _ _ _ hb, ⟨lo, hi, StateB.keep hs (fun k h1 h2 => setRow_other _ _ k _ (by omega)), hg, by simpa using hh⟩, hl⟩
/-- The epoch laid anew. -/
theorem VarS.epoch (h : VarS w0 w g x s) (e : Int) : VarS w0 (w.setCell ⟨g, 1, none⟩ (.int .i64 e)) g x { s with ep := e } := by
  obtain ⟨lo, hi, h1, h2, h3⟩ := h.st
  refine ⟨?_, ⟨lo, hi, StB.ep (StateB.keep h1 fun k h4 h5 => heap_setCell_other _ _ _ _ (by show k ≠ g; omega)) e, h2, by simpa using h3⟩, h.lo⟩
  have hb := h.box
  unfold World.setCell
  simp only [Array.getElem?_modify, if_true, hb, Option.map_some]
  rfl
theorem below_put (hb : Below w0.heap.size w0 w) (hg : w0.heap.size ≤ g) (cs : Array Value) : Below w0.heap.size w0 (w.setRow g cs) := hb.trans ⟨rfl, rfl, rfl, by simp, fun q hq => setRow_other w _ q _ (by omega)⟩
end
end Go.Proofs.Ytmlemichkeomjaa.LedW
