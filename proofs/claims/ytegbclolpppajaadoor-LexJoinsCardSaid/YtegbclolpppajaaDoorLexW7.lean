/- The walks over the reader of words, further: plain words, the one text that is quoted in the statements' first lines. -/
import Derived.Test.YtegbclolpppajaaDoorLexW6
import Derived.Shelf.Utf8.AppendRune
import Derived.Lib.RuneBytes
set_option linter.unusedVariables false
namespace Go.Proofs.YtegbclolpppajaaDoor
open Go.RowKit

theorem trim_any (a b : List UInt8) (w : World) (ha : a.length ≤ 9223372036854775807) (hb : b.length < 4294967281) (hascii : ∀ (j : Nat) x, b[j]? = some x → x.toNat < 128) :
    Calls Tryd.prog 11 #[.string ⟨a.toArray⟩, .string ⟨b.toArray⟩] w fun e w' => e = .returned (.string ⟨(Lib.trimS a b).toArray⟩) ∧ Below w.heap.size w w' :=
  Tryd.strings_Trim_set ⟨a.toArray⟩ ⟨b.toArray⟩ w ha hb hascii

def plainF (s : List UInt8) : Bool := !s.isEmpty && (Lib.trimS s letters).isEmpty

set_option maxHeartbeats 400000 in
theorem plain_any (s : List UInt8) (w : World) (hs : s.length ≤ 9223372036854775807) :
    Calls Tryd.prog 7 #[.string ⟨s.toArray⟩] w fun e w' => e = .returned (.bool (plainF s)) ∧ Below w.heap.size w w' := by
  by_cases h0 : s = []
  · have q : (s == []) = true := beq_iff_eq.2 h0
    have hd : plainF s = false := by rw [h0]; rfl
    rw [hd]
    clear h0 hd
    go_enter Tryd.func7, Tryd.ntmps7
    go_wp2
    go_ret
    exact ⟨rfl, Below.refl _ _⟩
  · have q : (s == []) = false := beq_eq_false_iff_ne.2 h0
    have hd : plainF s = (Lib.trimS s letters).isEmpty := by
      unfold plainF
      cases hs : s with
      | nil => exact absurd hs h0
      | cons x l => rfl
    rw [hd]
    clear h0 hd
    go_enter Tryd.func7, Tryd.ntmps7
    go_wp2_with (go_at_call 11; refine (trim_any s letters _ hs (by decide) letters_ascii).mono ?_; rintro e w' ⟨rfl, hb⟩)
    go_ret
    exact ⟨rfl, hb⟩

set_option maxHeartbeats 1000000 in
theorem writeRune_any (B b : Nat) (bs : List Value) (r : Int) (hr0 : -2147483648 ≤ r) (hr1 : r ≤ 2147483647) (w : World) (h : IsB B b bs w) (hlen : bs.length + 4 ≤ 140737488355328) (hBw : B ≤ w.heap.size) :
    Calls Tryd.prog 16 #[.pointer (some ⟨b, 0, none⟩), .int .i32 r] w fun e w' => e = .returned (.tuple #[.int .i64 (Lib.runeCells r).length, .nilIface]) ∧ (BAt B b (bs ++ Lib.runeCells r) w' ∧ Below B w w' ∧ BKept b w w') := by
  have hk4 := Lib.runeCells_le r
  go_enter Tryd.func16, Tryd.ntmps16
  go_wp2_with (go_at_call 32; refine (copyCheck_any B b bs _ h).mono ?_)
  rintro e w1 ⟨rfl, h1, hb1, hk1⟩
  obtain ⟨hB, v, hbk, hown, hne⟩ := h1
  obtain ⟨ao, cap, rfl⟩ : ∃ ao cap, v = .slice ao bs.length cap := by
    rcases hown.2 with ⟨hv, h0⟩ | ⟨g, cap, cur, fz, hv, _⟩
    · exact ⟨none, 0, by rw [hv, h0]⟩
    · exact ⟨_, _, hv⟩
  have c0 : w1.cell? ⟨b, 0, none⟩ = some (.pointer (some ⟨b, 0, none⟩)) := by rw [Lib.cell_of_heap hbk]; rfl
  have c1 : w1.cell? ⟨b, 1, none⟩ = some (.slice ao bs.length cap) := by rw [Lib.cell_of_heap hbk]; rfl
  go_wp2_with (go_at_call 38; refine (Tryd.utf8_AppendRune_row B _ bs.length bs r hr0 hr1 _ hown hlen (by have := hb1.size; omega)).mono ?_)
  rintro e w2 ⟨v', rfl, hown', o, hgrow⟩
  have hlt := lt_of_heap hbk
  have hb2 : w2.heap[b]? = some (.cells #[.pointer (some ⟨b, 0, none⟩), .slice ao bs.length cap] 44 (0, 0)) := by
    rw [hgrow.block b (by simp; omega) (fun e => hne e.symm), Lib.alloc_old w1 _ b hlt]
    exact hbk
  have d0 : w2.cell? ⟨b, 0, none⟩ = some (.pointer (some ⟨b, 0, none⟩)) := by rw [Lib.cell_of_heap hb2]; rfl
  have d1 : w2.cell? ⟨b, 1, none⟩ = some (.slice ao bs.length cap) := by rw [Lib.cell_of_heap hb2]; rfl
  have f1 : w2.frozen? ⟨b, 1, none⟩ = false := Lib.frozen_of_heap hb2 1
  obtain ⟨g, cap', rfl⟩ : ∃ g cap', v' = .slice (some ⟨g, 0, none⟩) (bs.length + (Lib.runeCells r).length) cap' := by
    rcases hown'.2 with ⟨_, h0⟩ | ⟨g, cap', cur, fz, hv, _⟩
    · omega
    · exact ⟨g, cap', hv⟩
  go_wp2
  go_ret2
  refine ⟨?_, ?_, ?_, ((hk1.alloc _).grown hgrow (Lib.ownsRowF_kind (hown.alloc _))).setCell ⟨b, 1, none⟩ rfl _⟩
  · have e : ((bs.length : Int) + ((Lib.runeCells r).length : Int) - (bs.length : Int)) = ((Lib.runeCells r).length : Int) := by omega
    simp [e]
  · exact Lib.BuilderAtF.put hB hb2 (bs' := bs ++ Lib.runeCells r) (by simpa using hown') (by decide)
  · exact ((hb1.alloc (by have := hb1.size; omega) _).grown hgrow (by have := hb1.size; simp; omega) (fun k hk => (hown.lt k hk).1)).setCell (p := ⟨b, 1, none⟩) hB _

theorem decode_97 (w : World) : Calls Tryd.prog 13 #[.string ((⟨#[97, 10]⟩ : ByteArray).extract 0 2)] w fun e w' => e = .returned (.tuple #[.int .i32 97, .int .i64 1]) ∧ w' = w :=
  Tryd.utf8_DecodeRuneInString_ascii ((⟨#[97, 10]⟩ : ByteArray).extract 0 2) 97 w (by decide) (by decide)
theorem decode_10 (w : World) : Calls Tryd.prog 13 #[.string ((⟨#[97, 10]⟩ : ByteArray).extract 1 2)] w fun e w' => e = .returned (.tuple #[.int .i32 10, .int .i64 1]) ∧ w' = w :=
  Tryd.utf8_DecodeRuneInString_ascii ((⟨#[97, 10]⟩ : ByteArray).extract 1 2) 10 w (by decide) (by decide)
theorem idx_97 (w : World) : Calls Tryd.prog 14 #[.string ⟨#[34, 92, 10, 9]⟩, .int .i32 97] w fun e w' => e = .returned (.int .i64 (-1)) ∧ w' = w :=
  Tryd.strings_IndexRune_ascii ⟨#[34, 92, 10, 9]⟩ 97 w (by decide) (by decide)
theorem idx_10 (w : World) : Calls Tryd.prog 14 #[.string ⟨#[34, 92, 10, 9]⟩, .int .i32 10] w fun e w' => e = .returned (.int .i64 2) ∧ w' = w :=
  Tryd.strings_IndexRune_ascii ⟨#[34, 92, 10, 9]⟩ 10 w (by decide) (by decide)

set_option maxHeartbeats 1000000 in
theorem quote_ex (w : World) :
    Calls Tryd.prog 8 #[.string ⟨#[97, 10]⟩] w fun e w' => e = .returned (.string ⟨#[34, 97, 92, 110, 34]⟩) ∧ Below w.heap.size w w' := by
  have hB0 := isB_new w
  have hz0 : w.heap.size ≤ (w.alloc (.cells #[.pointer none, .slice none 0 0] 44)).heap.size := by simp
  have hb0 := (Below.refl _ w).alloc (Nat.le_refl _) (.cells #[.pointer none, .slice none 0 0] 44)
  go_enter Tryd.func8, Tryd.ntmps8
  go_wp2_with ((go_at_call 12; (with_reducible refine (writeByte_any _ _ _ _ _ hB0 (by simp) (by omega)).mono ?_); rintro e w' ⟨rfl, hI', hb', hk'⟩; have hB1 := hI'; have hb1 := hb'; have hk1 := hk'; have z' := hb'.size; clear hI' hb' hk'))
  have n1 : ∀ ty, (Instr.next (.pointer (some ⟨w'.heap.size, 0, none⟩)) true ty).run Tryd.prog (w'.iter ⟨#[97, 10]⟩ 0) = .ok (.tuple #[.bool true, .int .i64 0, .int .i32 97]) (w'.iter ⟨#[97, 10]⟩ 1) := fun ty => run_next_ascii w' ⟨#[97, 10]⟩ 0 ty (by decide) (by decide)
  have B1 : IsB w.heap.size w.heap.size ([] ++ [Value.int .u8 34]) (w'.iter ⟨#[97, 10]⟩ 1) := Lib.IsBuilderF.alloc (.inr hB1) _
  have zi : (w'.iter ⟨#[97, 10]⟩ 1).heap.size = w'.heap.size + 1 := by simp [World.iter]
  have hit : (w'.iter ⟨#[97, 10]⟩ 1).heap[w'.heap.size]? = some (.stringIter ⟨#[97, 10]⟩ 1) := heap_alloc_new _ _
  have hne : w'.heap.size ≠ w.heap.size := by simp at z'; omega
  have hib0 : w.heap.size ≤ w'.heap.size := by simp at z'; omega
  refine wp_loop_rounds 3 ?_; rw [rounds_succ]
  go_wp2_with (first | (go_at_call 13; refine (decode_97 _).mono ?_; rintro e w'' ⟨rfl, rfl⟩) | (go_at_call 14; refine (idx_97 _).mono ?_; rintro e w'' ⟨rfl, rfl⟩))
  have hbW : Below w.heap.size w (w'.iter ⟨#[97, 10]⟩ 1) := (hb0.trans hb1).alloc (by have := hb1.size; simp at this; omega) _
  generalize w'.iter ⟨#[97, 10]⟩ 1 = W1 at B1 zi hit hbW n1 ⊢
  generalize w'.heap.size = ib at zi hit hne hib0 n1 ⊢
  have zW : w.heap.size ≤ W1.heap.size := hbW.size
  clear n1 zi z' hb1 hk1 hb0 hB0 hz0 hB1
  go_wp2_with ((go_at_call 16; (with_reducible refine (writeRune_any _ _ _ _ (by omega) (by omega) _ B1 (by decide) (by omega)).mono ?_); rintro e w' ⟨rfl, hI', hb', hk'⟩; have hB2 := hI'; have hb2 := hb'; have hk2 := hk'; have z' := hb'.size; clear hI' hb' hk'))
  have hit2 := hk2.iter hit hne
  have n2 : ∀ ty, (Instr.next (.pointer (some ⟨ib, 0, none⟩)) true ty).run Tryd.prog w' = .ok (.tuple #[.bool true, .int .i64 1, .int .i32 10]) (w'.iterAt ib ⟨#[97, 10]⟩ 2) := fun ty => Lib.run_next_ascii_at w' ib ⟨#[97, 10]⟩ 1 ty hit2 (by decide) (by decide)
  have B2 : IsB w.heap.size w.heap.size ([Value.int .u8 34] ++ Lib.runeCells 97) (w'.iterAt ib ⟨#[97, 10]⟩ 2) := Lib.IsBuilderF.iterAt (.inr hB2) hit2 2
  have hit3 := Lib.iterAt_heap w' ib ⟨#[97, 10]⟩ 1 2 hit2
  rw [rounds_succ]
  go_wp2_with (first | (go_at_call 13; refine (decode_10 _).mono ?_; rintro e w'' ⟨rfl, rfl⟩) | (go_at_call 14; refine (idx_10 _).mono ?_; rintro e w'' ⟨rfl, rfl⟩))
  have hb3 : Below w.heap.size W1 (w'.iterAt ib ⟨#[97, 10]⟩ 2) := Lib.below_iterAt hb2 (by omega) _ _
  generalize w'.iterAt ib ⟨#[97, 10]⟩ 2 = W3 at B2 hit3 hb3 n2 ⊢
  have z3 := hb3.size
  clear n2 hit2 hit hk2 hB2 hb2 B1 z'
  go_wp2_with ((go_at_call 15; (with_reducible refine (writeString_any _ _ _ _ _ B2 (by decide) (by omega)).mono ?_); rintro e w' ⟨rfl, hI', hb', hk'⟩; have hB4 := hI'; have hb4 := hb'; have hk4 := hk'; have z' := hb'.size; clear hI' hb' hk'))
  have hit4 := hk4.iter hit3 hne
  have n3 : ∀ ty, (Instr.next (.pointer (some ⟨ib, 0, none⟩)) true ty).run Tryd.prog w' = .ok (.tuple #[.bool false]) w' := fun ty => Lib.run_next_end_at w' ib ⟨#[97, 10]⟩ 2 ty hit4 (by decide)
  have B4 : IsB w.heap.size w.heap.size _ w' := .inr hB4
  rw [rounds_succ]
  go_wp2_with ((go_at_call 12; (with_reducible refine (writeByte_any _ _ _ _ _ B4 (by decide) (by omega)).mono ?_); rintro e w' ⟨rfl, hI', hb', hk'⟩; have hB5 := hI'; have hb5 := hb'; have hk5 := hk'; have z' := hb'.size; clear hI' hb' hk'))
  have B5 : IsB w.heap.size w.heap.size (Lib.byteCells [34, 97, 92, 110, 34]) w' := .inr hB5
  have z5 : w.heap.size ≤ w'.heap.size := by have := hb4.size; omega
  go_wp2_with (go_at_call 17; (with_reducible refine (Tryd.Builder_String_any_f _ _ [34, 97, 92, 110, 34] _ B5 z5).mono ?_); rintro e w'' ⟨rfl, hI', hb6⟩)
  go_ret
  exact ⟨rfl, (((hbW.trans hb3).trans hb4).trans hb5).trans hb6⟩

/-! ### The statements' first lines -/
theorem all1 : allR [97, 32, 34, 98, 92, 120, 52, 49, 34, 59] = .ok [⟨1, [97], 1, 1⟩, ⟨2, [98, 65], 1, 3⟩, ⟨5, [], 1, 10⟩, ⟨0, [], 1, 11⟩] ⟨[], 1, 11⟩ := by rfl
theorem all2 : allR [97, 98, 10, 32, 64] = .bad 2 2 := by kernel_rfl
theorem plain1 : plainF [97, 45, 49] = true := by kernel_rfl
theorem plain2 : plainF [] = false := by rfl

theorem allex1 (w : World) (hW : WOk w) : Calls Tryd.prog 6 #[.string ⟨#[97, 32, 34, 98, 92, 120, 52, 49, 34, 59]⟩] w fun e w' => ∃ g cap, e = .returned (.tuple #[.slice (some ⟨g, 0, none⟩) 4 cap, .int .i64 0, .agg #[.int .i64 0, .int .i64 0]]) ∧ w.heap.size ≤ g ∧ g < w'.heap.size ∧ (∀ j x, (tokCells [⟨1, [97], 1, 1⟩, ⟨2, [98, 65], 1, 3⟩, ⟨5, [], 1, 10⟩, ⟨0, [], 1, 11⟩])[j]? = some x → w'.cell? ⟨g, j, none⟩ = some x) ∧ Below w.heap.size w w' := by
  have h := all_any [97, 32, 34, 98, 92, 120, 52, 49, 34, 59] w hW (by decide)
  rw [all1] at h
  refine h.mono ?_
  rintro e w' ⟨v, he, hown, hb⟩
  obtain ⟨g, cap, rfl, h1, h2⟩ := hown.form (by decide)
  refine ⟨g, cap, he, h1, h2, fun j x hx => ?_, hb⟩
  have := hown.cells (g := g) rfl j x hx
  rwa [show (⟨g, 0, none⟩ : Addr).add j = ⟨g, j, none⟩ from by unfold Addr.add; split <;> simp_all] at this
theorem allex2 (w : World) (hW : WOk w) : Calls Tryd.prog 6 #[.string ⟨#[97, 98, 10, 32, 64]⟩] w fun e w' => e = .returned (.tuple #[.slice none 0 0, .int .i64 20, .agg #[.int .i64 2, .int .i64 2]]) ∧ Below w.heap.size w w' := by
  have h := all_any [97, 98, 10, 32, 64] w hW (by decide)
  rw [all2] at h
  exact h
theorem plainex1 (w : World) : Calls Tryd.prog 7 #[.string ⟨#[97, 45, 49]⟩] w fun e w' => e = .returned (.bool true) ∧ Below w.heap.size w w' := by
  have h := plain_any [97, 45, 49] w (by decide)
  rw [plain1] at h
  exact h
theorem plainex2 (w : World) : Calls Tryd.prog 7 #[.string ⟨#[]⟩] w fun e w' => e = .returned (.bool false) ∧ Below w.heap.size w w' := by
  have h := plain_any [] w (by decide)
  rw [plain2] at h
  exact h

set_option maxHeartbeats 1000000 in
theorem awake_any (w : World) (hW : WOk w) :
    Calls Tryd.prog 5 #[] w fun e w' => e = .returned (.bool true) ∧ Below w.heap.size w w' := by
  go_enter Tryd.func5, Tryd.ntmps5
  go_wp2_with fail
  refine (allex1 w hW).mono ?_
  rintro e w1 ⟨g, cap, rfl, hg, hlt, hc, hb1⟩
  go_wp2_with fail
  have hA : Below w1.heap.size w1 (w1.alloc (.cells #[.int .i64 0, .int .i64 0] 26)) := (Below.refl _ _).alloc (Nat.le_refl _) _
  have hW1 := (hW.below hb1).below hA
  have hc1 := fun j x (hx : (tokCells [⟨1, [97], 1, 1⟩, ⟨2, [98, 65], 1, 3⟩, ⟨5, [], 1, 10⟩, ⟨0, [], 1, 11⟩])[j]? = some x) => (hA.cell (p := ⟨g, j, none⟩) hlt).trans (hc j x hx)
  have hb2 := hb1.trans (hA.mono hb1.size)
  have hlt2 := Nat.lt_of_lt_of_le hlt hA.size
  generalize w1.alloc (.cells #[.int .i64 0, .int .i64 0] 26) = w2 at hW1 hc1 hb2 hlt2 ⊢
  refine (allex2 w2 hW1).mono ?_
  rintro e w3 ⟨rfl, hb3⟩
  have hc3 := fun j x (hx : (tokCells [⟨1, [97], 1, 1⟩, ⟨2, [98, 65], 1, 3⟩, ⟨5, [], 1, 10⟩, ⟨0, [], 1, 11⟩])[j]? = some x) => (hb3.cell (p := ⟨g, j, none⟩) hlt2).trans (hc1 j x hx)
  have k0 := fun o => cell_alloc' o (hc3 0 _ rfl)
  have k4 := fun o => cell_alloc' o (hc3 4 _ rfl)
  have k5 := fun o => cell_alloc' o (hc3 5 _ rfl)
  have k6 := fun o => cell_alloc' o (hc3 6 _ rfl)
  have k7 := fun o => cell_alloc' o (hc3 7 _ rfl)
  have k8 := fun o => cell_alloc' o (hc3 8 _ rfl)
  have k11 := fun o => cell_alloc' o (hc3 11 _ rfl)
  have k12 := fun o => cell_alloc' o (hc3 12 _ rfl)
  have k15 := fun o => cell_alloc' o (hc3 15 _ rfl)
  clear hc hc1 hc3
  have hb4 : Below w.heap.size w (w3.alloc (.cells #[.int .i64 2, .int .i64 2] 26)) := ((hb2.trans (hb3.mono hb2.size))).alloc (by have := hb2.size; have := hb3.size; omega) _
  have z4 := hb4.size
  go_wp2_with fail
  refine (plainex1 _).mono ?_
  rintro e w5 ⟨rfl, hb5⟩
  have hb5' := hb4.trans (hb5.mono z4)
  have z5 := hb5'.size
  go_wp2_with fail
  refine (plainex2 _).mono ?_
  rintro e w6 ⟨rfl, hb6⟩
  have hb6' := hb5'.trans (hb6.mono z5)
  have z6 := hb6'.size
  go_wp2_with fail
  refine (quote_ex _).mono ?_
  rintro e w7 ⟨rfl, hb7⟩
  have hb7' := hb6'.trans (hb7.mono z6)
  go_wp2_with fail
  go_ret
  exact ⟨rfl, hb7'⟩
end Go.Proofs.YtegbclolpppajaaDoor
