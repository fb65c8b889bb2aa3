/- The walks over the reader of words, further: all tokens of a text. -/
import Derived.Test.YtegbclolpppajaaDoorLexW5
import Derived.Defers
import Derived.Recover
import Derived.Laws.Pointers
import Derived.Deep.AppendLies
import Derived.Deep.RegionHeld3
import Derived.RegionTactic
import Derived.ChangeAlike
set_option linter.unusedVariables false
namespace Go.Proofs.YtegbclolpppajaaDoor
open Go.RowKit

/-- The three results' variables, before the end. -/
structure Out3 (W : World) (B : Nat) (v : Value) (e l c : Int) : Prop where
  h0 : W.heap[B]? = some (.cells #[v] 23 (0, 0))
  h1 : W.heap[B + 1]? = some (.cells #[.int .i64 e] 24 (0, 0))
  h2 : W.heap[B + 1 + 1]? = some (.cells #[.int .i64 l, .int .i64 c] 26 (0, 0))

def caughtV (l c : Int) : PanicEntry := { v := .iface 34 (.agg #[.int .i64 l, .int .i64 c]), recovered := true }

set_option maxHeartbeats 400000 in
theorem catch_idle (b0 b1 b2 : Addr) (w : World) :
    CallsD Tryd.prog 9 #[.pointer (some b0), .pointer (some b1), .pointer (some b2)] .returning w fun e u' w' => e = .returned (.tuple #[]) ∧ u' = .returning ∧ w' = w := by
  refine callsD_of_wpS Tryd.func9 rfl fun c₀ cs hu => ?_
  apply wpS_seq
  apply wpS_region
  simp [wpOpsS, go_sem, recoverD, hu, Tryd.ntmps9, Exit.thenS]
  refine wpS_of_wp ?_
  rw [show (#[Value.pointer (some b0), .pointer (some b1), .pointer (some b2)] ++ ((Array.replicate 6 undef).setIfInBounds 1 Value.nilIface).setIfInBounds 0 Value.nilIface) = #[Value.pointer (some b0), .pointer (some b1), .pointer (some b2), .nilIface, .nilIface, undef, undef, undef, undef] from rfl]
  go_wp2
  cases c₀
  simp_all [bodyPostS, results, Tryd.results9]

set_option maxHeartbeats 400000 in
theorem catch_wrong (B : Nat) (v : Value) (e0 l0 d0 l c : Int) (w : World) (hO : Out3 w B v e0 l0 d0) :
    CallsD Tryd.prog 9 #[.pointer (some ⟨B, 0, none⟩), .pointer (some ⟨B + 1, 0, none⟩), .pointer (some ⟨B + 1 + 1, 0, none⟩)] (.panicking (wrongV l c)) w fun e u' w' =>
      e = .returned (.tuple #[]) ∧ u' = .panicking [caughtV l c] ∧ Below B w w' ∧ Out3 w' B (.slice none 0 0) 20 l c := by
  unfold wrongV
  refine callsD_of_wpS Tryd.func9 rfl fun c₀ cs hu => ?_
  apply wpS_seq
  apply wpS_region
  simp [wpOpsS, go_sem, recoverD, hu, Tryd.ntmps9, Exit.thenS]
  generalize hx : Value.iface 34 (.agg #[.int .i64 l, .int .i64 c]) = x
  refine wpS_of_wp ?_
  rw [show (#[Value.pointer (some ⟨B, 0, none⟩), .pointer (some ⟨B + 1, 0, none⟩), .pointer (some ⟨B + 1 + 1, 0, none⟩)] ++ ((Array.replicate 6 undef).setIfInBounds 1 x).setIfInBounds 0 x) = #[Value.pointer (some ⟨B, 0, none⟩), .pointer (some ⟨B + 1, 0, none⟩), .pointer (some ⟨B + 1 + 1, 0, none⟩), x, x, undef, undef, undef, undef] from rfl]
  subst hx
  have f0 : w.frozen? ⟨B, 0, none⟩ = false := Lib.frozen_of_heap hO.h0 0
  have f1 : w.frozen? ⟨B + 1, 0, none⟩ = false := Lib.frozen_of_heap hO.h1 0
  have f2 : w.frozen? ⟨B + 1 + 1, 0, none⟩ = false := Lib.frozen_of_heap hO.h2 0
  have f3 : w.frozen? ⟨B + 1 + 1, 1, none⟩ = false := Lib.frozen_of_heap hO.h2 1
  have c0 : w.cell? ⟨B, 0, none⟩ = some v := by rw [Lib.cell_of_heap hO.h0]; rfl
  have c1 : w.cell? ⟨B + 1, 0, none⟩ = some (.int .i64 e0) := by rw [Lib.cell_of_heap hO.h1]; rfl
  have c2 : w.cell? ⟨B + 1 + 1, 0, none⟩ = some (.int .i64 l0) := by rw [Lib.cell_of_heap hO.h2]; rfl
  have c3 : w.cell? ⟨B + 1 + 1, 1, none⟩ = some (.int .i64 d0) := by rw [Lib.cell_of_heap hO.h2]; rfl
  have hta : ∀ W, (Instr.typeAssert (.iface 34 (.agg #[.int .i64 l, .int .i64 c])) 20 34 false).run Tryd.prog W = .ok (.agg #[.int .i64 l, .int .i64 c]) W := fun _ => by kernel_rfl
  go_wp2
  go_region
  have hb : Below B w ((((w.setCell ⟨B, 0, none⟩ (.slice none 0 0)).setCell ⟨B + 1, 0, none⟩ (.int .i64 20)).setCell ⟨B + 1 + 1, 0, none⟩ (.int .i64 l)).setCell ⟨B + 1 + 1, 1, none⟩ (.int .i64 c)).drew :=
    (((((Below.refl B w).setCell (p := ⟨B, 0, none⟩) (Nat.le_refl _) _).setCell (p := ⟨B + 1, 0, none⟩) (by dsimp only; omega) _).setCell (p := ⟨B + 1 + 1, 0, none⟩) (by dsimp only; omega) _).setCell (p := ⟨B + 1 + 1, 1, none⟩) (by dsimp only; omega) _).drew
  have n1 : ¬ (B + 1 + 1 = B) := by omega
  have n2 : ¬ (B = B + 1 + 1) := by omega
  have ho : Out3 ((((w.setCell ⟨B, 0, none⟩ (.slice none 0 0)).setCell ⟨B + 1, 0, none⟩ (.int .i64 20)).setCell ⟨B + 1 + 1, 0, none⟩ (.int .i64 l)).setCell ⟨B + 1 + 1, 1, none⟩ (.int .i64 c)).drew B (.slice none 0 0) 20 l c :=
    ⟨by simp [World.drew, World.setCell, Array.getElem?_modify, hO.h0, n1], by simp [World.drew, World.setCell, Array.getElem?_modify, hO.h1], by simp [World.drew, World.setCell, Array.getElem?_modify, hO.h2, n2]⟩
  generalize ((((w.setCell ⟨B, 0, none⟩ (.slice none 0 0)).setCell ⟨B + 1, 0, none⟩ (.int .i64 20)).setCell ⟨B + 1 + 1, 0, none⟩ (.int .i64 l)).setCell ⟨B + 1 + 1, 1, none⟩ (.int .i64 c)).drew = W at hb ho ⊢
  refine ⟨rfl, _, rfl, .tuple #[], ?_, rfl, rfl, hb, ho⟩
  simp [results, Tryd.results9]

def tokCells (ts : List Tk) : List Value := ts.flatMap fun t => [.int .i64 t.kind, .string ⟨t.text.toArray⟩, .int .i64 t.l, .int .i64 t.c]
theorem tokCells_length (ts : List Tk) : (tokCells ts).length = ts.length * 4 := by
  induction ts with
  | nil => rfl
  | cons t ts ih =>
    have : tokCells (t :: ts) = [.int .i64 t.kind, .string ⟨t.text.toArray⟩, .int .i64 t.l, .int .i64 t.c] ++ tokCells ts := rfl
    rw [this, List.length_append, ih]
    simp
    omega
theorem tokCells_snoc (ts : List Tk) (t : Tk) : tokCells (ts ++ [t]) = tokCells ts ++ [.int .i64 t.kind, .string ⟨t.text.toArray⟩, .int .i64 t.l, .int .i64 t.c] := by
  simp [tokCells]

/-- All tokens of a text. -/
def allR (s : List UInt8) : Res (List Tk) := allF (s.length + 1) [] ⟨s, 1, 1⟩

def AllPost (w : World) (r : Res (List Tk)) (e : Ending) (w' : World) : Prop :=
  match r with
  | .ok ts _ => ∃ v, e = .returned (.tuple #[v, .int .i64 0, .agg #[.int .i64 0, .int .i64 0]]) ∧ w'.ownsRow w.heap.size 30 4 v ts.length (tokCells ts) ∧ Below w.heap.size w w'
  | .bad l c => e = .returned (.tuple #[.slice none 0 0, .int .i64 20, .agg #[.int .i64 l, .int .i64 c]]) ∧ Below w.heap.size w w'

/-- In the middle of All. -/
structure AllS (w W : World) (out : List Tk) (st : St) : Prop where
  low : 3 ≤ w.heap.size
  below : Below w.heap.size w W
  ok : WOk W
  rd : rdr W (w.heap.size + 1 + 1 + 1) st
  out3 : ∃ v, Out3 W w.heap.size v 0 0 0 ∧ W.ownsRow (w.heap.size + 1 + 1 + 1 + 1) 30 4 v out.length (tokCells out)

theorem Out3.keep {W W' : World} {B : Nat} {v : Value} {e l c : Int} (h : Out3 W B v e l c) (hk : ∀ k, B ≤ k → k ≤ B + 1 + 1 → W'.heap[k]? = W.heap[k]?) : Out3 W' B v e l c :=
  ⟨(hk _ (by omega) (by omega)).trans h.h0, (hk _ (by omega) (by omega)).trans h.h1, (hk _ (by omega) (by omega)).trans h.h2⟩
theorem own_base' {w : World} {base : Nat} {e : TypeId} {size n : Nat} {v : Value} {xs : List Value} (h : w.ownsRow base e size v n xs) (k : Nat) (hk : v.ownBlock = some k) : base ≤ k ∧ k < w.heap.size := by
  rcases h.2 with ⟨rfl, _⟩ | ⟨g, cap, cur, rfl, hb, hh, _⟩
  · simp [Value.ownBlock] at hk
  · have : g = k := by simpa [Value.ownBlock] using hk
    subst this
    exact ⟨hb, lt_of_heap hh⟩
theorem own_ne {w : World} {base : Nat} {e : TypeId} {size n : Nat} {v : Value} {xs : List Value} (h : w.ownsRow base e size v n xs) {g : Nat} (hg : g < base) : v.ownBlock = none ∨ v.ownBlock ≠ some g :=
  .inr fun hk => by have := (own_base' h g hk).1; omega
theorem own_base_le {w : World} {base base' : Nat} {e : TypeId} {size n : Nat} {v : Value} {xs : List Value} (h : w.ownsRow base e size v n xs) (hb : base' ≤ base) : w.ownsRow base' e size v n xs := by
  refine ⟨h.1, ?_⟩
  rcases h.2 with h | ⟨g, cap, cur, h1, h2, h3⟩
  · exact .inl h
  · exact .inr ⟨g, cap, cur, h1, by omega, h3⟩
theorem AllS.fx {w W W' : World} {out : List Tk} {st st' : St} (h : AllS w W out st) (hf : Fx (w.heap.size + 1 + 1 + 1) W W') (hr : rdr W' (w.heap.size + 1 + 1 + 1) st') : AllS w W' out st' := by
  obtain ⟨hlow, hb, hk, hrd, v, ho, hown⟩ := h
  have hlt := hrd.lt
  exact ⟨hlow, hb.trans (hf.below (by omega) hb.size), hk.fx hrd hf, hr, v, ho.keep fun k h1 h2 => hf.block k (by omega) (by omega),
    hown.kept (row := some (w.heap.size + 1 + 1 + 1)) ⟨hf.os, hf.tape, hf.output, hf.size, fun i hi hne => hf.block i hi (fun e => hne (by rw [e]))⟩ (own_ne hown (by omega))⟩
theorem AllS.new {w W W' : World} {out : List Tk} {st : St} (h : AllS w W out st) (hb : Below W.heap.size W W') : AllS w W' out st := h.fx (Fx.of_below hb) (h.rd.below hb)
theorem Out3.alloc {W : World} {B : Nat} {v : Value} {e l c : Int} (h : Out3 W B v e l c) (o : Obj) : Out3 (W.alloc o) B v e l c :=
  h.keep fun k h1 h2 => Below.heap_alloc _ _ _ (by have := lt_of_heap h.h2; omega)
theorem Out3.grown {W W2 : World} {B : Nat} {v : Value} {e l c : Int} {n : Nat} {xs : List Value} (h : Out3 W B v e l c) (hown : W.ownsRow (B + 1 + 1 + 1 + 1) 30 4 v n xs) (hg : W.grownBy W2 v.ownBlock) : Out3 W2 B v e l c :=
  h.keep fun k h1 h2 => hg.block k (by have := lt_of_heap h.h2; omega) (fun e => by have := (own_base' hown k e.symm).1; omega)
theorem heap_alloc_new2 (W : World) (o1 o2 : Obj) : ((W.alloc o1).alloc o2).heap[W.heap.size + 1]? = some o2 := by
  have := heap_alloc_new (W.alloc o1) o2
  simpa using this
/-- A token more: behind the append, and the store of its result. -/
theorem AllS.push {w W W2 : World} {out : List Tk} {t : Tk} {st : St} {v v' : Value} (h : AllS w W out st) (ho : Out3 W w.heap.size v 0 0 0) (hown : W.ownsRow (w.heap.size + 1 + 1 + 1 + 1) 30 4 v out.length (tokCells out))
    (hg : W.grownBy W2 v.ownBlock) (h2 : W2.ownsRow (w.heap.size + 1 + 1 + 1 + 1) 30 4 v' (out.length + 1) (tokCells out ++ [.int .i64 t.kind, .string ⟨t.text.toArray⟩, .int .i64 t.l, .int .i64 t.c])) :
    AllS w (W2.setCell ⟨w.heap.size, 0, none⟩ v') (out ++ [t]) st := by
  have hlt := h.rd.lt
  have hne : ∀ k, k < w.heap.size + 1 + 1 + 1 + 1 → some k ≠ v.ownBlock := fun k hk e => by have := (own_base' hown k e.symm).1; omega
  have hblk : ∀ k, k < w.heap.size + 1 + 1 + 1 + 1 → W2.heap[k]? = W.heap[k]? := fun k hk => hg.block k (by omega) (hne k hk)
  have hB2 : Below w.heap.size w W2 := h.below.trans (show Below w.heap.size W W2 from ⟨hg.os, hg.tape, hg.output, hg.size, fun k hk => hblk k (by omega)⟩)
  have hB3 := hB2.setCell (p := ⟨w.heap.size, 0, none⟩) (Nat.le_refl _) v'
  have hS : ∀ k, k ≠ w.heap.size → (W2.setCell ⟨w.heap.size, 0, none⟩ v').heap[k]? = W2.heap[k]? := fun k hk => Below.heap_setCell _ _ _ _ hk
  have hNG := h.rd.1
  have hw : 3 ≤ W.heap.size := h.ok.size
  have hlow := h.low
  refine ⟨h.low, hB3, h.ok.keep (Nat.le_trans hg.size (by simp [World.setCell])) fun k hk => ?_, ⟨h.rd.1, ?_⟩, v', ⟨?_, ?_, ?_⟩, ?_⟩
  · rw [hS _ (by omega), hblk _ (by omega)]
  · rw [hS _ (by omega), hblk _ (by omega)]; exact h.rd.2
  · have e := (hblk w.heap.size (by omega)).trans ho.h0
    simp [World.setCell, Array.getElem?_modify, e]
  · rw [hS _ (by omega), hblk _ (by omega)]; exact ho.h1
  · rw [hS _ (by omega), hblk _ (by omega)]; exact ho.h2
  · rw [tokCells_snoc, List.length_append]
    exact ownsRow_setCell_below h2 (by dsimp only; omega) _

theorem all_results {W : World} {B : Nat} {v : Value} {e l c : Int} {tmps : Array Value} (h : Out3 W B v e l c) (h2 : tmps.getD 2 undef = .pointer (some ⟨B, 0, none⟩)) (h3 : tmps.getD 3 undef = .pointer (some ⟨B + 1, 0, none⟩)) (h4 : tmps.getD 4 undef = .pointer (some ⟨B + 1 + 1, 0, none⟩)) :
    (results Tryd.f6 tmps).run Tryd.prog W = .ok (.tuple #[v, .int .i64 e, .agg #[.int .i64 l, .int .i64 c]]) W := by
  have h2' : tmps[2]?.getD undef = .pointer (some ⟨B, 0, none⟩) := by simpa using h2
  have h3' : tmps[3]?.getD undef = .pointer (some ⟨B + 1, 0, none⟩) := by simpa using h3
  have h4' : tmps[4]?.getD undef = .pointer (some ⟨B + 1 + 1, 0, none⟩) := by simpa using h4
  have c0 : W.cell? ⟨B, 0, none⟩ = some v := by rw [Lib.cell_of_heap h.h0]; rfl
  have c1 : W.cell? ⟨B + 1, 0, none⟩ = some (.int .i64 e) := by rw [Lib.cell_of_heap h.h1]; rfl
  have c2 : W.cell? ⟨B + 1 + 1, 0, none⟩ = some (.int .i64 l) := by rw [Lib.cell_of_heap h.h2]; rfl
  have c3 : W.cell? ⟨B + 1 + 1, 1, none⟩ = some (.int .i64 c) := by rw [Lib.cell_of_heap h.h2]; rfl
  simp [results, Tryd.results6, h2', h3', h4', asAddr, go_sem, c0, c1, c2, c3]
theorem tok_cells_one (k : Int) (x : List UInt8) (l c : Int) : ∀ u ∈ [Value.int .i64 k, .string ⟨x.toArray⟩, .int .i64 l, .int .i64 c], u.oneCell' = true := by
  intro u hu
  simp at hu
  rcases hu with rfl | rfl | rfl | rfl <;> rfl
theorem tokInfo3 : (Tryd.prog.info? 30).map (fun i => (i.zero, i.size, i.bytes)) = some (some (.agg #[.int .i64 0, .string ⟨#[]⟩, .int .i64 0, .int .i64 0]), 4, 40) := by kernel_rfl
/-- The end of All: what the statement 'return' has stored. -/
theorem all_end {w wr W W2 : World} {out : List Tk} {st : St} {v v' : Value} {o : Obj} (hS : AllS w wr out st) (hO : Out3 wr w.heap.size v 0 0 0) (hown : wr.ownsRow (w.heap.size + 1 + 1 + 1 + 1) 30 4 v out.length (tokCells out))
    (hg : W.grownBy W2 v.ownBlock) (hW1 : W.heap = (wr.alloc o).heap) (hW2 : (W.os, W.tape, W.output) = (wr.os, wr.tape, wr.output))
    (h2 : W2.ownsRow (w.heap.size + 1 + 1 + 1 + 1) 30 4 v' (out.length + 1) (tokCells out ++ [.int .i64 0, .string ⟨#[]⟩, .int .i64 st.l, .int .i64 st.c])) :
    Out3 ((((W2.setCell ⟨w.heap.size, 0, none⟩ v').setCell ⟨w.heap.size + 1, 0, none⟩ (.int .i64 0)).setCell ⟨w.heap.size + 1 + 1, 0, none⟩ (.int .i64 0)).setCell ⟨w.heap.size + 1 + 1, 1, none⟩ (.int .i64 0)) w.heap.size v' 0 0 0 ∧
    ((((W2.setCell ⟨w.heap.size, 0, none⟩ v').setCell ⟨w.heap.size + 1, 0, none⟩ (.int .i64 0)).setCell ⟨w.heap.size + 1 + 1, 0, none⟩ (.int .i64 0)).setCell ⟨w.heap.size + 1 + 1, 1, none⟩ (.int .i64 0)).ownsRow w.heap.size 30 4 v' (out ++ [(⟨0, [], st.l, st.c⟩ : Tk)]).length (tokCells (out ++ [⟨0, [], st.l, st.c⟩])) ∧
    Below w.heap.size w ((((W2.setCell ⟨w.heap.size, 0, none⟩ v').setCell ⟨w.heap.size + 1, 0, none⟩ (.int .i64 0)).setCell ⟨w.heap.size + 1 + 1, 0, none⟩ (.int .i64 0)).setCell ⟨w.heap.size + 1 + 1, 1, none⟩ (.int .i64 0)) := by
  injection hW2 with e1 e23
  injection e23 with e2 e3
  have hlt := hS.rd.lt
  have hWs : W.heap.size = wr.heap.size + 1 := by rw [hW1]; simp
  have hWb : ∀ k, k < wr.heap.size → W.heap[k]? = wr.heap[k]? := fun k hk => by rw [hW1]; exact Below.heap_alloc _ _ _ hk
  have hne : ∀ k, k < w.heap.size + 1 + 1 + 1 + 1 → some k ≠ v.ownBlock := fun k hk e => by have := (own_base' hown k e.symm).1; omega
  have hb2 : ∀ k, k < w.heap.size + 1 + 1 + 1 + 1 → W2.heap[k]? = wr.heap[k]? := fun k hk => (hg.block k (by omega) (hne k hk)).trans (hWb k (by omega))
  have hB2 : Below w.heap.size w W2 := hS.below.trans (show Below w.heap.size wr W2 from ⟨hg.os.trans e1, hg.tape.trans e2, hg.output.trans e3, by have := hg.size; omega, fun k hk => hb2 k (by omega)⟩)
  have n1 : ¬ (w.heap.size + 1 + 1 = w.heap.size) := by omega
  have n2 : ¬ (w.heap.size = w.heap.size + 1 + 1) := by omega
  refine ⟨⟨?_, ?_, ?_⟩, ?_, ?_⟩
  · have e := (hb2 w.heap.size (by omega)).trans hO.h0
    simp [World.setCell, Array.getElem?_modify, e, n1]
  · have e := (hb2 (w.heap.size + 1) (by omega)).trans hO.h1
    simp [World.setCell, Array.getElem?_modify, e]
  · have e := (hb2 (w.heap.size + 1 + 1) (by omega)).trans hO.h2
    simp [World.setCell, Array.getElem?_modify, e, n2]
  · rw [tokCells_snoc, List.length_append]
    have := ownsRow_setCell_below (ownsRow_setCell_below (ownsRow_setCell_below (ownsRow_setCell_below h2 (a := ⟨w.heap.size, 0, none⟩) (by dsimp only; omega) v') (a := ⟨w.heap.size + 1, 0, none⟩) (by dsimp only; omega) (.int .i64 0)) (a := ⟨w.heap.size + 1 + 1, 0, none⟩) (by dsimp only; omega) (.int .i64 0)) (a := ⟨w.heap.size + 1 + 1, 1, none⟩) (by dsimp only; omega) (.int .i64 0)
    exact own_base_le this (by omega)
  · exact ((((hB2.setCell (p := ⟨w.heap.size, 0, none⟩) (Nat.le_refl _) _).setCell (p := ⟨w.heap.size + 1, 0, none⟩) (by dsimp only; omega) _).setCell (p := ⟨w.heap.size + 1 + 1, 0, none⟩) (by dsimp only; omega) _).setCell (p := ⟨w.heap.size + 1 + 1, 1, none⟩) (by dsimp only; omega) _)
theorem allS_fine (s : List UInt8) (n : Nat) (h : s.length ≤ n) : St.Fine ⟨s, 1, 1⟩ n := ⟨h, by dsimp only; omega, by dsimp only; omega, by dsimp only; omega, by dsimp only; omega⟩
theorem allS_start (s : List UInt8) (w : World) (hW : WOk w) : AllS w ((((w.alloc (.cells #[.slice none 0 0] 23)).alloc (.cells #[.int .i64 0] 24)).alloc (.cells #[.int .i64 0, .int .i64 0] 26)).alloc (.cells #[.string ⟨s.toArray⟩, .int .i64 1, .int .i64 1] 37)) [] ⟨s, 1, 1⟩ := by
  have hb : Below w.heap.size w ((((w.alloc (.cells #[.slice none 0 0] 23)).alloc (.cells #[.int .i64 0] 24)).alloc (.cells #[.int .i64 0, .int .i64 0] 26)).alloc (.cells #[.string ⟨s.toArray⟩, .int .i64 1, .int .i64 1] 37)) :=
    ((((Below.refl _ w).alloc (Nat.le_refl _) _).alloc (by simp) _).alloc (by simp; omega) _).alloc (by simp; omega) _
  have hNG := hW.size
  refine ⟨hNG, hb, hW.below hb, ⟨by omega, ?_⟩, .slice none 0 0, ⟨?_, ?_, ?_⟩, ⟨rfl, .inl ⟨rfl, rfl⟩⟩⟩
  all_goals
    show ((((w.heap.push _).push _).push _).push _)[_]? = _
    simp only [Array.getElem?_push, Array.size_push]
    repeat (first | rfl | rw [if_pos (by omega)] | rw [if_neg (by omega)])
theorem index_one_mem (x : UInt8) : ∀ l : List UInt8, 0 ≤ Lib.index l [x] → x ∈ l := by
  intro l
  induction l with
  | nil => intro h; simp [Lib.index] at h
  | cons b l ih =>
    intro h
    unfold Lib.index at h
    by_cases hb : b = x
    · rw [hb]; exact List.mem_cons_self
    · rw [if_neg (by simp [List.isPrefixOf]; exact fun e => hb e.symm)] at h
      split at h
      · simp at h
      · rename_i hne
        have h1 := (index_range l [x]).1
        simp only [beq_iff_eq] at hne
        exact List.mem_cons_of_mem _ (ih (by omega))
theorem contains_one (x : UInt8) (l : List UInt8) (h : Lib.contains l [x] = true) : l.contains x = true := by
  unfold Lib.contains at h
  simpa using index_one_mem x l (of_decide_eq_true h)
theorem word_fine {st : St} {n : Nat} (hf : st.Fine n) (h0 : st.s ≠ []) (h : (sgn st.s).length = 1 ∧ Lib.contains letters (sgn st.s) = true) : (wordF st).2.Fine n ∧ (wordF st).2.s.length < st.s.length := by
  obtain ⟨h1, h2⟩ := h
  obtain ⟨a, b, c, d, e⟩ := hf
  cases hs : st.s with
  | nil => exact absurd hs h0
  | cons x l =>
    have hx : sgn st.s = [x] := by
      rw [hs] at h1 ⊢
      unfold sgn at h1 ⊢
      have := Lib.decodeL_width (x :: l)
      obtain ⟨k, hk⟩ : ∃ k, (Lib.decodeL (x :: l)).2 = k + 1 := ⟨(Lib.decodeL (x :: l)).2 - 1, by omega⟩
      rw [hk] at h1 ⊢
      simp only [List.take_succ_cons, List.length_cons] at h1 ⊢
      rw [List.eq_nil_of_length_eq_zero (show (l.take k).length = 0 by omega)]
    rw [hx] at h2
    have hc := contains_one x letters h2
    have hd : Lib.trimLeftS (x :: l) letters = Lib.trimLeftS l letters := by
      unfold Lib.trimLeftS
      rw [List.dropWhile_cons, if_pos hc]
    have hle := trimLeft_le l letters
    unfold wordF
    rw [hs, hd]
    rw [hs] at a d e
    simp only [List.length_cons] at a d e ⊢
    refine ⟨⟨?_, ?_, ?_, ?_, ?_⟩, ?_⟩ <;> (try dsimp only) <;> omega
theorem text_fine : ∀ (f : Nat) (out : List UInt8) (st : St) (x : List UInt8) (st' : St) (n : Nat), textF f out st = .ok x st' → st.Fine n → st'.Fine n ∧ st'.s.length ≤ st.s.length := by
  intro f
  induction f with
  | zero => intro out st x st' n h; cases h
  | succ f ih =>
    intro out st x st' n h hf
    unfold textF at h
    split at h
    · cases h
    · rename_i h1
      simp only [not_or] at h1
      have hne : st.s ≠ [] := fun e => h1.1 ((sgn_eq_nil _).2 e)
      have ht := St.take_fine hf hne
      split at h
      · injection h with e1 e2
        rw [← e2]
        exact ⟨ht.1, by omega⟩
      · split at h
        · cases hes : escapeF st.take with
          | bad l c => rw [hes] at h; cases h
          | ok y st1 =>
            rw [hes] at h
            have h2 := escape_fine hes ht.1
            have h3 := ih _ _ _ _ n h h2.1
            exact ⟨h3.1, by omega⟩
        · have h3 := ih _ _ _ _ n h ht.1
          exact ⟨h3.1, by omega⟩
theorem skip_fine : ∀ (f : Nat) (st : St) (n : Nat), st.Fine n → (skipF f st).Fine n ∧ (skipF f st).s.length ≤ st.s.length := by
  intro f
  induction f with
  | zero => intro st n hf; exact ⟨hf, Nat.le_refl _⟩
  | succ f ih =>
    intro st n hf
    unfold skipF
    split
    · exact ⟨hf, Nat.le_refl _⟩
    · rename_i h
      have ht := St.take_fine hf (not_or.1 h).1
      have h3 := ih st.take n ht.1
      exact ⟨h3.1, by omega⟩
theorem skip_fine_lt (f : Nat) (st : St) (n : Nat) (hf : st.Fine n) (h0 : st.s ≠ []) (h1 : sgn st.s = [35]) : (skipF (f + 1) st).s.length < st.s.length := by
  unfold skipF
  rw [if_neg (by rw [h1]; simp [h0])]
  have ht := St.take_fine hf h0
  have h3 := skip_fine f st.take n ht.1
  omega
/-- A token takes at least a sign. -/
theorem one_fine {st st1 : St} {o : Option Tk} {n : Nat} (h : oneF st = .ok o st1) (hf : st.Fine n) (h0 : st.s ≠ []) : st1.Fine n ∧ st1.s.length < st.s.length := by
  have ht := St.take_fine hf h0
  unfold oneF at h
  split at h
  · injection h with _ e; rw [← e]; exact ht
  split at h
  · rename_i h1
    injection h with _ e; rw [← e]; exact ⟨(skip_fine _ st n hf).1, skip_fine_lt _ st n hf h0 h1⟩
  split at h
  · injection h with _ e; rw [← e]; exact ht
  split at h
  · split at h
    · cases h
    · rename_i x st2 hx
      injection h with _ e; rw [← e]
      have := text_fine _ _ _ _ _ n hx ht.1
      exact ⟨this.1, by omega⟩
  split at h
  · rename_i hw
    injection h with _ e; rw [← e]
    exact word_fine hf h0 hw
  · cases h

set_option maxHeartbeats 1600000 in
theorem all_any (s : List UInt8) (w : World) (hW : WOk w) (hs : s.length ≤ 8192) :
    Calls Tryd.prog 6 #[.string ⟨s.toArray⟩] w (AllPost w (allR s)) := by
  have hNG := hW.size
  obtain ⟨R, hR⟩ : ∃ R, R = allR s := ⟨_, rfl⟩
  rw [← hR]
  have HR := Lib.hid hR.symm
  clear hR
  obtain ⟨n, hn0⟩ : ∃ n, n = s.length := ⟨_, rfl⟩
  have hn : n ≤ 100000 := by omega
  have HN := Lib.hid hn0
  clear hn0
  have hmf : ∀ (fn : Fn) (first cap : Array Value) (w : World), (Instr.makeFunc fn first cap).run Tryd.prog w = .ok (.func fn first cap) w := fun _ _ _ _ => rfl
  go_enter_defers Tryd.func6, Tryd.ntmps6
  go_wp2
  go_loopg [6, 7] n (fun k _ _ wr => ∃ (f : Nat) (out : List Tk) (st : St), st.s.length = k ∧ k < f ∧ Hid (allF f out st = R) ∧ AllS w wr out st ∧ st.Fine n ∧ out.length + k ≤ n)
  case atStart =>
    have hz := HN.out
    exact ⟨s.length + 1, [], ⟨s, 1, 1⟩, hz.symm, by omega, HR, allS_start s w hW, allS_fine s n (by omega), by simp⟩
  case round =>
    obtain ⟨f, out, st, hk, hkf, HE, hS, hf, ho⟩ := hrel
    obtain ⟨f, rfl⟩ : ∃ m, f = m + 1 := ⟨f - 1, by omega⟩
    have HK := Lib.hid hk
    clear hk
    have g0 := hS.rd.c0
    by_cases h0 : st.s = []
    · have q0 : (st.s == []) = true := beq_iff_eq.2 h0
      have hb : R = .ok (out ++ [⟨0, [], st.l, st.c⟩]) st := by rw [← HE.out]; exact if_pos h0
      have HB := Lib.hid hb
      clear h0 HR HE hb
      obtain ⟨v, hO, hown⟩ := hS.out3
      have g1 := hS.rd.c1
      have g2 := hS.rd.c2
      have c0 : wr.cell? ⟨w.heap.size, 0, none⟩ = some v := by rw [Lib.cell_of_heap hO.h0]; rfl
      have c1 : wr.cell? ⟨w.heap.size + 1, 0, none⟩ = some (.int .i64 0) := by rw [Lib.cell_of_heap hO.h1]; rfl
      have c2 : wr.cell? ⟨w.heap.size + 1 + 1, 0, none⟩ = some (.int .i64 0) := by rw [Lib.cell_of_heap hO.h2]; rfl
      have c3 : wr.cell? ⟨w.heap.size + 1 + 1, 1, none⟩ = some (.int .i64 0) := by rw [Lib.cell_of_heap hO.h2]; rfl
      have hlen : (out.length + 1) * 40 ≤ 140737488355328 := by omega
      obtain ⟨i0, hi, hz0, hz1, hz2⟩ := info_parts tokInfo3
      go_wp2
      refine wp_region_noPanic ?_
      have hbase : w.heap.size + 1 + 1 + 1 + 1 ≤ wr.heap.size := hS.rd.lt
      have Hn := Lib.hid (tok_cells_one 0 [] st.l st.c)
      have k0 := fun o => cell_alloc' o c0
      go_region_law (refine step_append_lies _ rfl _ _ 23 rfl (w.heap.size + 1 + 1 + 1 + 1) 30 i0 (.agg #[.int .i64 0, .string ⟨#[]⟩, .int .i64 0, .int .i64 0]) 4 40 Tryd.underlying23 hi hz0 hz1 hz2 rfl (by decide) v out.length (tokCells out) (by simp [Act.eval]) (hown.alloc _) ⟨wr.heap.size, 0, none⟩ 1 1 [.int .i64 0, .string ⟨#[]⟩, .int .i64 st.l, .int .i64 st.c] (by simp [Act.eval]) rfl (World.news_of_block (cs := #[.int .i64 0, .string ⟨#[]⟩, .int .i64 st.l, .int .i64 st.c]) (t := 30) (fr := (0, 0)) (heap_alloc_new wr _)) Hn.out (by decide) (by unfold maxLen; omega) hlen (by simp; omega) _ rfl ?_; intro g cap w2 hown2 hgrow hat hlt; have hO3 : Out3 w2 w.heap.size v 0 0 0 := Out3.grown (by exact (hO.alloc (.cells #[.int .i64 0, .string ⟨#[]⟩, .int .i64 st.l, .int .i64 st.c] 30)).keep fun _ _ _ => rfl) (by exact hown.alloc (.cells #[.int .i64 0, .string ⟨#[]⟩, .int .i64 st.l, .int .i64 st.c] 30)) hgrow; have d0 : w2.cell? ⟨w.heap.size, 0, none⟩ = some v := (by rw [Lib.cell_of_heap hO3.h0]; rfl); have d1 : w2.cell? ⟨w.heap.size + 1, 0, none⟩ = some (.int .i64 0) := (by rw [Lib.cell_of_heap hO3.h1]; rfl); have d2 : w2.cell? ⟨w.heap.size + 1 + 1, 0, none⟩ = some (.int .i64 0) := (by rw [Lib.cell_of_heap hO3.h2]; rfl); have d3 : w2.cell? ⟨w.heap.size + 1 + 1, 1, none⟩ = some (.int .i64 0) := (by rw [Lib.cell_of_heap hO3.h2]; rfl); have e0 : w2.frozen? ⟨w.heap.size, 0, none⟩ = false := Lib.frozen_of_heap hO3.h0 0; have e1 : w2.frozen? ⟨w.heap.size + 1, 0, none⟩ = false := Lib.frozen_of_heap hO3.h1 0; have e2 : w2.frozen? ⟨w.heap.size + 1 + 1, 0, none⟩ = false := Lib.frozen_of_heap hO3.h2 0; have e3 : w2.frozen? ⟨w.heap.size + 1 + 1, 1, none⟩ = false := Lib.frozen_of_heap hO3.h2 1)
      all_goals
        refine NoPanic.normal ?_
        go_wp2
        have hend := all_end hS hO hown hgrow rfl rfl hown2
        refine leaves_cons (f := 9) (args := #[.pointer (some ⟨w.heap.size, 0, none⟩), .pointer (some ⟨w.heap.size + 1, 0, none⟩), .pointer (some ⟨w.heap.size + 1 + 1, 0, none⟩)]) (by simp) (by simp [go_sem]) ?_
        refine (catch_idle _ _ _ _).mono ?_
        rintro e u' w'' ⟨rfl, rfl, rfl⟩
        refine ⟨_, all_results hend.1 rfl rfl rfl, ?_⟩
        rw [HB.out]
        exact ⟨_, rfl, hend.2.1, hend.2.2⟩
    · have q0 : (st.s == []) = false := beq_eq_false_iff_ne.2 h0
      have hb : R = match oneF st with
          | .bad l c => .bad l c
          | .ok none st1 => allF f out st1
          | .ok (some t) st1 => allF f (out ++ [t]) st1 := by rw [← HE.out]; exact if_neg h0
      have H0 := Lib.hid h0
      clear h0 HR HE
      cases ho1 : oneF st with
      | bad l c =>
        rw [ho1] at hb
        have HB := Lib.hid hb
        have H1 := Lib.hid ho1
        clear hb ho1
        go_wp2_with (first | (go_at_call 10; (with_reducible refine (one_any _ st n hn _ hS.ok hS.rd hf H0.out).mono ?_); rw [H1.out]; rintro e w' ⟨he', hf'⟩; obtain rfl : e = .panicked (wrongV l c) := he'; have hf1 := hf'))
        have hS1 := hS.below.trans (hf1.below (B := w.heap.size) (by omega) hS.below.size)
        obtain ⟨v, hO, _⟩ := hS.out3
        have hO1 : Out3 w' w.heap.size v 0 0 0 := hO.keep fun k h1 h2 => hf1.block k (by have := hS.rd.lt; omega) (by omega)
        refine leaves_cons (f := 9) (args := #[.pointer (some ⟨w.heap.size, 0, none⟩), .pointer (some ⟨w.heap.size + 1, 0, none⟩), .pointer (some ⟨w.heap.size + 1 + 1, 0, none⟩)]) (by simp) (by simp [go_sem]) ?_
        refine (catch_wrong w.heap.size v 0 0 0 l c _ hO1).mono ?_
        rintro e u' w'' ⟨rfl, rfl, hb2, hO2⟩
        refine ⟨_, all_results hO2 rfl rfl rfl, ?_⟩
        rw [HB.out]
        exact ⟨rfl, hS1.trans hb2⟩
      | ok o st1 =>
        rw [ho1] at hb
        have hof := one_fine ho1 hf H0.out
        have hof1 := hof.1
        have hof2 := hof.2
        cases o with
        | none =>
          have HB := Lib.hid hb.symm
          have H1 := Lib.hid ho1
          clear hb ho1 hof
          go_wp2_with (first | (go_at_call 10; (with_reducible refine (one_any _ st n hn _ hS.ok hS.rd hf H0.out).mono ?_); rw [H1.out]; rintro e w' ⟨he', hf', hr'⟩; obtain rfl : e = .returned (.tuple #[.agg #[.int .i64 0, .string ⟨#[]⟩, .int .i64 st.l, .int .i64 st.c], .bool false]) := he'; have hS1 := hS.fx hf' hr'))
          go_roundg st1.s.length
          case measure => have e3 := HK.out; omega
          case rel => exact ⟨f, out, st1, rfl, by have e3 := HK.out; omega, HB, hS1.new ((Below.refl _ _).alloc (Nat.le_refl _) _), hof1, by have e3 := HK.out; omega⟩
        | some t =>
          have HB := Lib.hid hb.symm
          have H1 := Lib.hid ho1
          clear hb ho1 hof
          have hlen : (out.length + 1) * 40 ≤ 140737488355328 := by omega
          obtain ⟨i0, hi, hz0, hz1, hz2⟩ := info_parts tokInfo3
          go_wp2_with (first | ((go_at_call 10; (with_reducible refine (one_any _ st n hn _ hS.ok hS.rd hf H0.out).mono ?_); rw [H1.out]; rintro e w' ⟨he', hf', hr'⟩; obtain rfl : e = .returned (.tuple #[.agg #[.int .i64 t.kind, .string ⟨t.text.toArray⟩, .int .i64 t.l, .int .i64 t.c], .bool true]) := he'; have hS1 := hS.fx hf' hr'; obtain ⟨v, hO, hown⟩ := hS1.out3; have c0 := fun o => cell_alloc' o (show w'.cell? ⟨w.heap.size, 0, none⟩ = some v from by rw [Lib.cell_of_heap hO.h0]; rfl))) | (at_builtin; refine wpList_append_lies _ rfl _ _ 23 rfl (w.heap.size + 1 + 1 + 1 + 1) 30 i0 (.agg #[.int .i64 0, .string ⟨#[]⟩, .int .i64 0, .int .i64 0]) 4 40 Tryd.underlying23 hi hz0 hz1 hz2 rfl (by decide) _ _ _ rfl ((hown.alloc _).alloc _) ⟨w'.heap.size + 1, 0, none⟩ 1 1 [.int .i64 t.kind, .string ⟨t.text.toArray⟩, .int .i64 t.l, .int .i64 t.c] rfl rfl ?c1 ?c2 (by decide) ?c3 ?c4 ?c5 _ rfl ?_))
          case c1 => exact World.news_of_block (cs := #[.int .i64 t.kind, .string ⟨t.text.toArray⟩, .int .i64 t.l, .int .i64 t.c]) (t := 30) (fr := (0, 0)) (heap_alloc_new2 _ _ _)
          case c2 => intro u hu; simp at hu; rcases hu with rfl | rfl | rfl | rfl <;> rfl
          case c3 => unfold maxLen; omega
          case c4 => exact hlen
          case c5 => have := hS1.rd.lt; simp; omega
          intro g cap w2 hown2 hgrow hat hlt
          have hS2 := (hS1.new ((Below.refl _ _).alloc (Nat.le_refl _) (.cells #[.int .i64 t.kind, .string ⟨t.text.toArray⟩, .int .i64 t.l, .int .i64 t.c] 30 (0, 0)))).new ((Below.refl _ _).alloc (Nat.le_refl _) (.cells #[.int .i64 t.kind, .string ⟨t.text.toArray⟩, .int .i64 t.l, .int .i64 t.c] 30 (0, 0)))
          have hO2 := (hO.alloc (.cells #[.int .i64 t.kind, .string ⟨t.text.toArray⟩, .int .i64 t.l, .int .i64 t.c] 30 (0, 0))).alloc (.cells #[.int .i64 t.kind, .string ⟨t.text.toArray⟩, .int .i64 t.l, .int .i64 t.c] 30 (0, 0))
          have hw2 := (hown.alloc (.cells #[.int .i64 t.kind, .string ⟨t.text.toArray⟩, .int .i64 t.l, .int .i64 t.c] 30 (0, 0))).alloc (.cells #[.int .i64 t.kind, .string ⟨t.text.toArray⟩, .int .i64 t.l, .int .i64 t.c] 30 (0, 0))
          have hO3 := hO2.grown hw2 hgrow
          have hS3 := hS2.push hO2 hw2 hgrow hown2
          have d0 : w2.cell? ⟨w.heap.size, 0, none⟩ = some v := by rw [Lib.cell_of_heap hO3.h0]; rfl
          have e0 : w2.frozen? ⟨w.heap.size, 0, none⟩ = false := Lib.frozen_of_heap hO3.h0 0
          clear c0 hat
          go_wp2
          go_roundg st1.s.length
          case measure => have e3 := HK.out; omega
          case rel => exact ⟨f, out ++ [t], st1, rfl, by have e3 := HK.out; omega, HB, hS3, hof1, by have e3 := HK.out; rw [List.length_append]; simp; omega⟩
end Go.Proofs.YtegbclolpppajaaDoor
