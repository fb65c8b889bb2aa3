/- The walks over the reader of words: each function comes to what its plain function tells. -/
import Derived.Test.YtegbclolpppajaaDoorLexP
import Derived.Test.YtegbclolpppajaaDoorBld
import Derived.Lib.Hide
set_option linter.unusedVariables false
namespace Go.Proofs.YtegbclolpppajaaDoor
open Go.RowKit

/-- Nothing that was there has changed but block g. -/
structure Fx (g : Nat) (w w' : World) : Prop where
  os : w'.os = w.os
  tape : w'.tape = w.tape
  output : w'.output = w.output
  size : w.heap.size ≤ w'.heap.size
  block : ∀ k, k < w.heap.size → k ≠ g → w'.heap[k]? = w.heap[k]?
theorem Fx.refl (g : Nat) (w : World) : Fx g w w := ⟨rfl, rfl, rfl, Nat.le_refl _, fun _ _ _ => rfl⟩
theorem Fx.trans {g : Nat} {a b c : World} (h : Fx g a b) (k : Fx g b c) : Fx g a c :=
  ⟨k.os.trans h.os, k.tape.trans h.tape, k.output.trans h.output, Nat.le_trans h.size k.size, fun i hi hg => (k.block i (Nat.lt_of_lt_of_le hi h.size) hg).trans (h.block i hi hg)⟩
theorem Fx.of_below {g : Nat} {w w' : World} (h : Below w.heap.size w w') : Fx g w w' := ⟨h.os, h.tape, h.output, h.size, fun k hk _ => h.block k hk⟩
theorem Fx.set {g : Nat} {a w : World} (h : Fx g a w) (j : Nat) (v : Value) : Fx g a (w.setCell ⟨g, j, none⟩ v) :=
  h.trans ⟨rfl, rfl, rfl, by simp [World.setCell], fun k _ hk => Below.heap_setCell _ _ _ _ hk⟩
theorem Fx.alloc {g : Nat} {a w : World} (h : Fx g a w) (o : Obj) : Fx g a (w.alloc o) :=
  h.trans (.of_below ((Below.refl _ w).alloc (Nat.le_refl _) o))
/-- From a call of a function that has laid g itself. -/
theorem Fx.below {g B : Nat} {w w' : World} (h : Fx g w w') (hg : B ≤ g) (hB : B ≤ w.heap.size) : Below B w w' := ⟨h.os, h.tape, h.output, h.size, fun k hk => h.block k (by omega) (by omega)⟩

/-- What the library's functions lean on: tables, and a number. -/
structure WOk (w : World) : Prop where
  max : ∃ m, w.cell? ⟨2, 0, none⟩ = some (.int .i64 m)
  tabs : Lib.Utf8Tabs 0 1 w
  size : 3 ≤ w.heap.size
theorem WOk.keep {w w' : World} (h : WOk w) (hs : w.heap.size ≤ w'.heap.size) (hb : ∀ k, k < 3 → w'.heap[k]? = w.heap[k]?) : WOk w' := by
  obtain ⟨⟨m, hm⟩, ⟨t1, t2⟩, hz⟩ := h
  have hc : ∀ b o, b < 3 → w'.cell? ⟨b, o, none⟩ = w.cell? ⟨b, o, none⟩ := fun b o h => World.cell?_of_block (a := ⟨b, o, none⟩) (hb b h)
  exact ⟨⟨m, (hc _ _ (by decide)).trans hm⟩, ⟨fun c h => (hc _ _ (by decide)).trans (t1 c h), fun i hi => ⟨(hc _ _ (by decide)).trans (t2 i hi).1, (hc _ _ (by decide)).trans (t2 i hi).2⟩⟩, by omega⟩
theorem WOk.below {w w' : World} (h : WOk w) (hb : Below w.heap.size w w') : WOk w' := h.keep hb.size fun k hk => hb.block k (by have := h.size; omega)

/-- The reader in block g. -/
def rdr (w : World) (g : Nat) (st : St) : Prop := 3 ≤ g ∧ w.heap[g]? = some (.cells #[.string ⟨st.s.toArray⟩, .int .i64 st.l, .int .i64 st.c] 37 (0, 0))
section
variable {w w' : World} {g : Nat} {st : St}
theorem rdr.c0 (h : rdr w g st) : w.cell? ⟨g, 0, none⟩ = some (.string ⟨st.s.toArray⟩) := by simp [World.cell?, h.2]
theorem rdr.c1 (h : rdr w g st) : w.cell? ⟨g, 1, none⟩ = some (.int .i64 st.l) := by simp [World.cell?, h.2]
theorem rdr.c2 (h : rdr w g st) : w.cell? ⟨g, 2, none⟩ = some (.int .i64 st.c) := by simp [World.cell?, h.2]
theorem rdr.fz (h : rdr w g st) (j : Nat) : w.frozen? ⟨g, j, none⟩ = false := by simp [World.frozen?, h.2]
theorem rdr.lt (h : rdr w g st) : g < w.heap.size := lt_of_heap h.2
theorem rdr.below (h : rdr w g st) (hb : Below w.heap.size w w') : rdr w' g st := ⟨h.1, (hb.block g h.lt).trans h.2⟩
theorem WOk.fx (h : WOk w) (hr : rdr w g st) (hf : Fx g w w') : WOk w' := h.keep hf.size fun k hk => hf.block k (by have := h.size; omega) (by have := hr.1; omega)
theorem rdr.set0 (h : rdr w g st) (s : List UInt8) : rdr (w.setCell ⟨g, 0, none⟩ (.string ⟨s.toArray⟩)) g ⟨s, st.l, st.c⟩ := by
  refine ⟨h.1, ?_⟩
  simp [World.setCell, Array.getElem?_modify, h.2]
theorem rdr.set1 (h : rdr w g st) (l : Int) : rdr (w.setCell ⟨g, 1, none⟩ (.int .i64 l)) g ⟨st.s, l, st.c⟩ := by
  refine ⟨h.1, ?_⟩
  simp [World.setCell, Array.getElem?_modify, h.2]
theorem rdr.set2 (h : rdr w g st) (c : Int) : rdr (w.setCell ⟨g, 2, none⟩ (.int .i64 c)) g ⟨st.s, st.l, c⟩ := by
  refine ⟨h.1, ?_⟩
  simp [World.setCell, Array.getElem?_modify, h.2]
end

theorem extract_mk (l : List UInt8) (a b : Nat) : (⟨l.toArray⟩ : ByteArray).extract a b = ⟨((l.take b).drop a).toArray⟩ := by
  apply ByteArray.ext
  simp [ByteArray.data_extract, List.extract_toArray, List.extract, List.drop_take]
theorem extract_tail (l : List UInt8) (k : Nat) : (⟨l.toArray⟩ : ByteArray).extract k l.length = ⟨(l.drop k).toArray⟩ := by rw [extract_mk, List.take_length]
theorem ret_str {a b : ByteArray} (h : a = b) : Ending.returned (.string a) = .returned (.string b) := by rw [h]
theorem size_mk (l : List UInt8) : (⟨l.toArray⟩ : ByteArray).size = l.length := rfl
theorem cell_iter (w : World) (s : ByteArray) (p : Nat) (a : Addr) (h : a.block < w.heap.size) : (w.iter s p).cell? a = w.cell? a := World.cell?_of_block (Below.heap_alloc w _ _ h)

/-- What the reader's panic carries. -/
def wrongV (l c : Int) : List PanicEntry := [{ v := .iface 34 (.agg #[.int .i64 l, .int .i64 c]), recovered := false }]

theorem fail_any (g : Nat) (st : St) (w : World) (hr : rdr w g st) :
    Calls Tryd.prog 24 #[.pointer (some ⟨g, 0, none⟩)] w fun e w' => e = .panicked (wrongV st.l st.c) ∧ w' = w := by
  have h1 := hr.c1
  have h2 := hr.c2
  go_enter Tryd.func24, Tryd.ntmps24
  go_wp2
  exact ⟨rfl, rfl, rfl⟩

set_option maxHeartbeats 400000 in
theorem next_any (g : Nat) (st : St) (w : World) (hr : rdr w g st) (hs : st.s.length ≤ 100000) :
    Calls Tryd.prog 18 #[.pointer (some ⟨g, 0, none⟩)] w fun e w' => e = .returned (.string ⟨(sgn st.s).toArray⟩) ∧ Below w.heap.size w w' := by
  obtain ⟨s, l, c⟩ := st
  dsimp only at hs ⊢
  have h0 : w.cell? ⟨g, 0, none⟩ = some (.string ⟨s.toArray⟩) := hr.c0
  have hi := fun (x : ByteArray) p => (cell_iter w x p ⟨g, 0, none⟩ hr.lt).trans h0
  by_cases hne : s = []
  · subst hne
    have hn := fun ty => run_next_end (P := Tryd.prog) w ⟨#[]⟩ 0 ty (by show ¬ (0 < 0); omega)
    go_enter Tryd.func18, Tryd.ntmps18
    go_wp2
    refine wp_loop_rounds 1 ?_; rw [rounds_succ]
    go_wp2
    go_ret
    exact ⟨rfl, (Below.refl _ w).alloc (Nat.le_refl _) _⟩
  · have hp : 0 < s.length := List.length_pos_iff.2 hne
    have hw := Lib.decodeL_width s
    have hle := Lib.decodeL_le s hne
    have hn := fun ty => run_next_any (P := Tryd.prog) w ⟨s.toArray⟩ 0 ty (by rw [size_mk]; exact hp)
    simp only [Nat.zero_add, show (Utf8.decode ⟨s.toArray⟩ 0) = Lib.decodeL s from rfl] at hn
    by_cases hlt : (Lib.decodeL s).2 < s.length
    · have hn2 := fun ty => run_next_any (P := Tryd.prog) w ⟨s.toArray⟩ (Lib.decodeL s).2 ty (by rw [size_mk]; exact hlt)
      go_enter Tryd.func18, Tryd.ntmps18
      go_wp2
      refine wp_loop_rounds 2 ?_; rw [rounds_succ]
      go_wp2
      rw [rounds_succ]
      go_wp2
      go_ret
      exact ⟨ret_str (by rw [extract_mk, List.drop_zero]; rfl), (Below.refl _ w).alloc (Nat.le_refl _) _⟩
    · have hn2 := fun ty => run_next_end (P := Tryd.prog) w ⟨s.toArray⟩ (Lib.decodeL s).2 ty (by rw [size_mk]; exact hlt)
      go_enter Tryd.func18, Tryd.ntmps18
      go_wp2
      refine wp_loop_rounds 2 ?_; rw [rounds_succ]
      go_wp2
      rw [rounds_succ]
      go_wp2
      go_ret
      exact ⟨ret_str (by unfold sgn; rw [List.take_of_length_le (by omega)]), (Below.refl _ w).alloc (Nat.le_refl _) _⟩

theorem index_any (a b : List UInt8) (w : World) (hW : WOk w) (ha : a.length < 4294967281) :
    Calls Tryd.prog 21 #[.string ⟨a.toArray⟩, .string ⟨b.toArray⟩] w fun e w' => e = .returned (.int .i64 (Lib.index a b)) ∧ w' = w := by
  obtain ⟨m, hm⟩ := hW.max
  exact Tryd.strings_Index ⟨a.toArray⟩ ⟨b.toArray⟩ m w ha hm
theorem contains_any (a b : List UInt8) (w : World) (hW : WOk w) (ha : a.length < 4294967281) :
    Calls Tryd.prog 19 #[.string ⟨a.toArray⟩, .string ⟨b.toArray⟩] w fun e w' => e = .returned (.bool (Lib.contains a b)) ∧ w' = w := by
  obtain ⟨m, hm⟩ := hW.max
  exact Tryd.strings_Contains ⟨a.toArray⟩ ⟨b.toArray⟩ m w ha hm

set_option maxHeartbeats 400000 in
theorem take_any (g : Nat) (st : St) (n : Nat) (hn : n ≤ 100000) (w : World) (hr : rdr w g st) (hne : st.s ≠ []) (hf : st.Fine n) :
    Calls Tryd.prog 20 #[.pointer (some ⟨g, 0, none⟩)] w fun e w' => e = .returned (.string ⟨(sgn st.s).toArray⟩) ∧ Fx g w w' ∧ rdr w' g st.take := by
  have hz := hf.size
  have hc := hf.c0
  have hl := hf.l0
  have hc1 := hf.c1
  have hl1 := hf.l1
  have hsl := sgn_length st.s hne
  by_cases h10 : sgn st.s = [10]
  · have hq : (sgn st.s == [10]) = true := beq_iff_eq.2 h10
    have hfin : st.take = ⟨st.s.drop (sgn st.s).length, st.l + 1, 1⟩ := if_pos h10
    have Hfin := Lib.hid hfin; clear hfin h10
    go_enter Tryd.func20, Tryd.ntmps20
    go_wp2_with (go_at_call 18; refine (next_any g st _ hr (by omega)).mono ?_; rintro e w1 ⟨rfl, hb⟩; have hr1 := hr.below hb; have h0 := hr1.c0; have h1 := hr1.c1; have h2 := hr1.c2; have f0 := hr1.fz)
    go_ret
    refine ⟨rfl, ((((Fx.of_below hb).set _ _).set _ _).set _ _).set _ _, ?_⟩
    rw [Hfin.out, extract_tail]
    exact (((hr1.set0 _).set2 _).set1 _).set2 _
  · have hq : (sgn st.s == [10]) = false := beq_eq_false_iff_ne.2 h10
    have hfin : st.take = ⟨st.s.drop (sgn st.s).length, st.l, st.c + 1⟩ := if_neg h10
    have Hfin := Lib.hid hfin; clear hfin h10
    go_enter Tryd.func20, Tryd.ntmps20
    go_wp2_with (go_at_call 18; refine (next_any g st _ hr (by omega)).mono ?_; rintro e w1 ⟨rfl, hb⟩; have hr1 := hr.below hb; have h0 := hr1.c0; have h1 := hr1.c1; have h2 := hr1.c2; have f0 := hr1.fz)
    go_ret
    refine ⟨rfl, ((Fx.of_below hb).set _ _).set _ _, ?_⟩
    rw [Hfin.out, extract_tail]
    exact (hr1.set0 _).set2 _

/-- What a part of the reader answers, said of the world. -/
def RPost {α : Type} (enc : α → Value) (g : Nat) (w : World) (r : Res α) (e : Ending) (w' : World) : Prop :=
  match r with
  | .ok a st => e = .returned (enc a) ∧ Fx g w w' ∧ rdr w' g st
  | .bad l c => e = .panicked (wrongV l c) ∧ Fx g w w'

theorem index_range (a b : List UInt8) : -1 ≤ Lib.index a b ∧ Lib.index a b ≤ a.length := by
  induction a with
  | nil => unfold Lib.index; split <;> simp
  | cons x l ih =>
    unfold Lib.index
    split
    · simp; omega
    · split <;> simp <;> omega

set_option maxHeartbeats 400000 in
theorem digit_any (g : Nat) (st : St) (n : Nat) (hn : n ≤ 100000) (w : World) (hW : WOk w) (hr : rdr w g st) (hf : st.Fine n) :
    Calls Tryd.prog 51 #[.pointer (some ⟨g, 0, none⟩)] w (RPost (Value.int .u8) g w (digitF st)) := by
  have hz := hf.size
  by_cases h0 : st.s = []
  · have hd : digitF st = .bad st.l st.c := if_pos (.inl h0)
    rw [hd]
    have H0 := Lib.hid h0
    clear hd h0
    go_enter Tryd.func51, Tryd.ntmps51
    go_wp2_with (first | ((go_at_call 18; (with_reducible refine (next_any g st _ hr (by omega)).mono ?_); rintro e w' ⟨rfl, hb'⟩; have hr1 := hr.below hb'; have hb1 := hb'; clear hb'); have h0 := hr1.c0; have hW1 := hW.below hb1) | (go_at_call 21; refine (index_any hexs (sgn st.s) _ hW1 (by decide)).mono ?_; rintro e w' ⟨rfl, rfl⟩) | (go_at_call 24; (with_reducible refine (fail_any g st _ hr1).mono ?_); rintro e w' ⟨rfl, rfl⟩))
    exact ⟨rfl, rfl, Fx.of_below hb1⟩
  · have hsl := sgn_length st.s h0
    have hlen : 1 ≤ (sgn st.s).length := hsl.1
    have hir := index_range hexs (sgn st.s)
    have hir2 : Lib.index hexs (sgn st.s) ≤ 16 := hir.2
    have he : (st.s == []) = false := beq_eq_false_iff_ne.2 h0
    by_cases h1 : 1 < (sgn st.s).length
    · have hd : digitF st = .bad st.l st.c := if_pos (.inr (.inl h1))
      rw [hd]
      have H0 := Lib.hid h0
      clear hd h0
      go_enter Tryd.func51, Tryd.ntmps51
      go_wp2_with (first | ((go_at_call 18; (with_reducible refine (next_any g st _ hr1 (by omega)).mono ?_); rintro e w' ⟨rfl, hb'⟩; have hr2 := hr1.below hb'; have hb2 := hb'; clear hb')) | ((go_at_call 18; (with_reducible refine (next_any g st _ hr (by omega)).mono ?_); rintro e w' ⟨rfl, hb'⟩; have hr1 := hr.below hb'; have hb1 := hb'; clear hb'); have h0 := hr1.c0; have hW1 := hW.below hb1) | (go_at_call 21; refine (index_any hexs (sgn st.s) _ hW1 (by decide)).mono ?_; rintro e w' ⟨rfl, rfl⟩) | (go_at_call 24; (with_reducible refine (fail_any g st _ hr2).mono ?_); rintro e w' ⟨rfl, rfl⟩))
      exact ⟨rfl, rfl, Fx.of_below (hb1.trans (hb2.mono hb1.size))⟩
    · have h1' : (sgn st.s).length ≤ 1 := by omega
      by_cases h2 : Lib.index hexs (sgn st.s) < 0
      · have hd : digitF st = .bad st.l st.c := if_pos (.inr (.inr h2))
        rw [hd]
        have H0 := Lib.hid h0
        clear hd h0 h1
        go_enter Tryd.func51, Tryd.ntmps51
        go_wp2_with (first | ((go_at_call 18; (with_reducible refine (next_any g st _ hr1 (by omega)).mono ?_); rintro e w' ⟨rfl, hb'⟩; have hr2 := hr1.below hb'; have hb2 := hb'; clear hb')) | ((go_at_call 18; (with_reducible refine (next_any g st _ hr (by omega)).mono ?_); rintro e w' ⟨rfl, hb'⟩; have hr1 := hr.below hb'; have hb1 := hb'; clear hb'); have h0 := hr1.c0; have hW1 := hW.below hb1) | (go_at_call 21; refine (index_any hexs (sgn st.s) _ hW1 (by decide)).mono ?_; rintro e w' ⟨rfl, rfl⟩) | (go_at_call 24; (with_reducible refine (fail_any g st _ hr2).mono ?_); rintro e w' ⟨rfl, rfl⟩))
        exact ⟨rfl, rfl, Fx.of_below (hb1.trans (hb2.mono hb1.size))⟩
      · have hd : digitF st = .ok (Lib.index hexs (sgn st.s)) st.take := if_neg (not_or.2 ⟨h0, not_or.2 ⟨h1, h2⟩⟩)
        rw [hd]
        have H0 := Lib.hid h0
        have h2' : 0 ≤ Lib.index hexs (sgn st.s) := by omega
        clear hd h0 h1 h2
        go_enter Tryd.func51, Tryd.ntmps51
        go_wp2_with (first | ((go_at_call 18; (with_reducible refine (next_any g st _ hr1 (by omega)).mono ?_); rintro e w' ⟨rfl, hb'⟩; have hr2 := hr1.below hb'; have hb2 := hb'; clear hb')) | ((go_at_call 18; (with_reducible refine (next_any g st _ hr (by omega)).mono ?_); rintro e w' ⟨rfl, hb'⟩; have hr1 := hr.below hb'; have hb1 := hb'; clear hb'); have h0 := hr1.c0; have hW1 := hW.below hb1) | (go_at_call 21; refine (index_any hexs (sgn st.s) _ hW1 (by decide)).mono ?_; rintro e w' ⟨rfl, rfl⟩) | ((go_at_call 20; (with_reducible refine (take_any g st n hn _ hr2 H0.out hf).mono ?_); rintro e w' ⟨rfl, hf', hr'⟩; have hr3 := hr'; have hf3 := hf'; clear hr' hf')))
        go_ret
        exact ⟨rfl, (Fx.of_below (hb1.trans (hb2.mono hb1.size))).trans hf3, hr3⟩
end Go.Proofs.YtegbclolpppajaaDoor
