/- The walks over the reader of words, further: words, and one token. -/
import Derived.Test.YtegbclolpppajaaDoorLexW3
set_option linter.unusedVariables false
namespace Go.Proofs.YtegbclolpppajaaDoor
open Go.RowKit

theorem letters_ascii : ∀ (j : Nat) b, letters[j]? = some b → b.toNat < 128 := by
  intro j b h
  have hm : b ∈ letters := List.mem_of_getElem? h
  have : ∀ x ∈ letters, x.toNat < 128 := by decide
  exact this b hm
theorem trimLeft_any (a b : List UInt8) (w : World) (hb : b.length < 4294967281) (hascii : ∀ (j : Nat) x, b[j]? = some x → x.toNat < 128) :
    Calls Tryd.prog 42 #[.string ⟨a.toArray⟩, .string ⟨b.toArray⟩] w fun e w' => e = .returned (.string ⟨(Lib.trimLeftS a b).toArray⟩) ∧ Below w.heap.size w w' :=
  Tryd.strings_TrimLeft_set ⟨a.toArray⟩ ⟨b.toArray⟩ w hb hascii

theorem trimLeft_le (a b : List UInt8) : (Lib.trimLeftS a b).length ≤ a.length := by
  unfold Lib.trimLeftS
  have := List.dropWhile_sublist (p := (b.contains ·)) (l := a)
  exact this.length_le

set_option maxHeartbeats 400000 in
theorem word_any (g : Nat) (st : St) (n : Nat) (hn : n ≤ 100000) (w : World) (hr : rdr w g st) (hf : st.Fine n) :
    Calls Tryd.prog 23 #[.pointer (some ⟨g, 0, none⟩)] w fun e w' => e = .returned (.string ⟨(wordF st).1.toArray⟩) ∧ Fx g w w' ∧ rdr w' g (wordF st).2 := by
  have hz := hf.size
  have hc0 := hf.c0
  have hc1 := hf.c1
  have hle := trimLeft_le st.s letters
  have h0 := hr.c0
  go_enter Tryd.func23, Tryd.ntmps23
  go_wp2_with (go_at_call 42; refine (trimLeft_any st.s letters _ (by decide) letters_ascii).mono ?_; rintro e w1 ⟨rfl, hb⟩; have hr1 := hr.below hb; have g0 := hr1.c0; have g1 := hr1.c1; have g2 := hr1.c2; have gf := hr1.fz)
  go_ret
  exact ⟨ret_str (by rw [extract_mk, List.drop_zero]; rfl), ((Fx.of_below hb).set _ _).set _ _, (hr1.set0 _).set2 _⟩

theorem cell_alloc' {W : World} {a : Addr} {v : Value} (o : Obj) (h : W.cell? a = some v) : (W.alloc o).cell? a = some v :=
  (World.cell?_of_block (Below.heap_alloc W o a.block (World.block_lt_of_cell? W a h))).trans h

theorem textF_fuel : ∀ (f f' : Nat) (out : List UInt8) (st : St), st.s.length < f → st.s.length < f' → ∀ n, st.Fine n → textF f out st = textF f' out st := by
  intro f
  induction f with
  | zero => intro f' out st h; omega
  | succ f ih =>
    intro f' out st h h' n hf
    obtain ⟨f', rfl⟩ : ∃ m, f' = m + 1 := ⟨f' - 1, by omega⟩
    unfold textF
    split
    · rfl
    · rename_i h1
      simp only [not_or] at h1
      have hne : st.s ≠ [] := fun e => h1.1 ((sgn_eq_nil _).2 e)
      have ht := St.take_fine hf hne
      split
      · rfl
      · split
        · cases hes : escapeF st.take with
          | bad l c => rfl
          | ok x st1 =>
            have := escape_fine hes ht.1
            exact ih _ _ _ (by omega) (by omega) n this.1
        · exact ih _ _ _ (by omega) (by omega) n ht.1

def oneV (l c : Int) : Option Tk → Value
  | none => .tuple #[.agg #[.int .i64 0, .string ⟨#[]⟩, .int .i64 l, .int .i64 c], .bool false]
  | some t => .tuple #[.agg #[.int .i64 t.kind, .string ⟨t.text.toArray⟩, .int .i64 t.l, .int .i64 t.c], .bool true]

/-- In the middle of reading a token: the two variables that the call has laid. -/
structure OneS (w W : World) (g : Nat) (l c : Int) : Prop where
  fx : Fx g w W
  ok : WOk W
  res : W.heap[w.heap.size]? = some (.cells #[.int .i64 0, .string ⟨#[]⟩, .int .i64 0, .int .i64 0] 30 (0, 0))
  tok : W.heap[w.heap.size + 1]? = some (.cells #[.int .i64 0, .string ⟨#[]⟩, .int .i64 l, .int .i64 c] 30 (0, 0))
section
variable {w W W' : World} {g : Nat} {l c : Int} {st : St}
theorem OneS.step (h : OneS w W g l c) (hg : g < w.heap.size) (hr : rdr W g st) (hf : Fx g W W') : OneS w W' g l c :=
  ⟨h.fx.trans hf, h.ok.fx hr hf, (hf.block _ (lt_of_heap h.res) (by omega)).trans h.res, (hf.block _ (lt_of_heap h.tok) (by omega)).trans h.tok⟩
theorem OneS.t0 (h : OneS w W g l c) : W.cell? ⟨w.heap.size + 1, 0, none⟩ = some (.int .i64 0) := by rw [Lib.cell_of_heap h.tok]; rfl
theorem OneS.t1 (h : OneS w W g l c) : W.cell? ⟨w.heap.size + 1, 1, none⟩ = some (.string ⟨#[]⟩) := by rw [Lib.cell_of_heap h.tok]; rfl
theorem OneS.t2 (h : OneS w W g l c) : W.cell? ⟨w.heap.size + 1, 2, none⟩ = some (.int .i64 l) := by rw [Lib.cell_of_heap h.tok]; rfl
theorem OneS.t3 (h : OneS w W g l c) : W.cell? ⟨w.heap.size + 1, 3, none⟩ = some (.int .i64 c) := by rw [Lib.cell_of_heap h.tok]; rfl
theorem OneS.s0 (h : OneS w W g l c) : W.cell? ⟨w.heap.size, 0, none⟩ = some (.int .i64 0) := by rw [Lib.cell_of_heap h.res]; rfl
theorem OneS.s1 (h : OneS w W g l c) : W.cell? ⟨w.heap.size, 1, none⟩ = some (.string ⟨#[]⟩) := by rw [Lib.cell_of_heap h.res]; rfl
theorem OneS.s2 (h : OneS w W g l c) : W.cell? ⟨w.heap.size, 2, none⟩ = some (.int .i64 0) := by rw [Lib.cell_of_heap h.res]; rfl
theorem OneS.s3 (h : OneS w W g l c) : W.cell? ⟨w.heap.size, 3, none⟩ = some (.int .i64 0) := by rw [Lib.cell_of_heap h.res]; rfl
theorem OneS.fs (h : OneS w W g l c) (j : Nat) : W.frozen? ⟨w.heap.size, j, none⟩ = false := Lib.frozen_of_heap h.res j
theorem OneS.ft (h : OneS w W g l c) (j : Nat) : W.frozen? ⟨w.heap.size + 1, j, none⟩ = false := Lib.frozen_of_heap h.tok j
end

/-- The result's four cells are stored at the end. -/
theorem Fx.then_sets {w W : World} {g : Nat} {a b c d : Value} (h : Fx g w W) : Fx g w ((((W.setCell ⟨w.heap.size, 0, none⟩ a).setCell ⟨w.heap.size, 1, none⟩ b).setCell ⟨w.heap.size, 2, none⟩ c).setCell ⟨w.heap.size, 3, none⟩ d) :=
  h.then_below (((((Below.refl w.heap.size W).setCell (p := ⟨w.heap.size, 0, none⟩) (Nat.le_refl _) _).setCell (p := ⟨w.heap.size, 1, none⟩) (Nat.le_refl _) _).setCell (p := ⟨w.heap.size, 2, none⟩) (Nat.le_refl _) _).setCell (p := ⟨w.heap.size, 3, none⟩) (Nat.le_refl _) _)
theorem rdr.sets {W : World} {g B : Nat} {st : St} {a b c d : Value} (h : rdr W g st) (hg : g < B) : rdr ((((W.setCell ⟨B, 0, none⟩ a).setCell ⟨B, 1, none⟩ b).setCell ⟨B, 2, none⟩ c).setCell ⟨B, 3, none⟩ d) g st :=
  h.low hg (((((Below.refl B W).setCell (p := ⟨B, 0, none⟩) (Nat.le_refl _) _).setCell (p := ⟨B, 1, none⟩) (Nat.le_refl _) _).setCell (p := ⟨B, 2, none⟩) (Nat.le_refl _) _).setCell (p := ⟨B, 3, none⟩) (Nat.le_refl _) _)

theorem heap4 {W : World} {B : Nat} {x0 x1 x2 x3 a b c d : Value} {T : TypeId} {fz : Nat × Nat} (h : W.heap[B]? = some (.cells #[x0, x1, x2, x3] T fz)) :
    ((((W.setCell ⟨B, 0, none⟩ a).setCell ⟨B, 1, none⟩ b).setCell ⟨B, 2, none⟩ c).setCell ⟨B, 3, none⟩ d).heap[B]? = some (.cells #[a, b, c, d] T fz) := by
  simp [World.setCell, Array.getElem?_modify, h]
theorem tokInfo : (Tryd.prog.info? 30).map (·.size) = some 4 := by kernel_rfl
theorem one_end {R : Ending → World → Prop} {tmps : Array Value} {W : World} {B : Nat} {a b c d : Value} {fz : Nat × Nat} (h2 : tmps.getD 2 undef = .pointer (some ⟨B, 0, none⟩))
    (hc : W.heap[B]? = some (.cells #[a, b, c, d] 30 fz)) (hR : R (.returned (.tuple #[.agg #[a, b, c, d], tmps.getD 3 undef])) W) :
    bodyPost Tryd.prog Tryd.f10 R Exit.ret { tmps := tmps, defers := [] } W := by
  have h2' : tmps[2]?.getD undef = .pointer (some ⟨B, 0, none⟩) := by simpa using h2
  refine bodyPost_ret (v := .tuple #[.agg #[a, b, c, d], tmps.getD 3 undef]) ?_ rfl hR
  simp [results, Tryd.results10, h2', asAddr, run_loadVar_row W B _ 30 #[a, b, c, d] fz _ hc Tryd.underlying30 rfl tokInfo]

end Go.Proofs.YtegbclolpppajaaDoor
