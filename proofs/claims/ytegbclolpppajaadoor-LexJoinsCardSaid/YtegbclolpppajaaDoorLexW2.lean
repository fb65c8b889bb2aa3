/- The walks over the reader of words, further: what stands behind a backslash, and strings. -/
import Derived.Test.YtegbclolpppajaaDoorLexW
import Derived.Laws.BitsAllLaws
import Derived.Laws.BytesArg
set_option linter.unusedVariables false
namespace Go.Proofs.YtegbclolpppajaaDoor
open Go.RowKit

theorem index_lt (a b : List UInt8) (hb : b ≠ []) : Lib.index a b < a.length := by
  induction a with
  | nil =>
    unfold Lib.index
    rw [if_neg (by simpa using hb)]
    decide
  | cons x l ih =>
    unfold Lib.index
    split
    · simp only [List.length_cons]; omega
    · split <;> simp only [List.length_cons] <;> omega

theorem digit_range {st st' : St} {a : Int} (h : digitF st = .ok a st') : 0 ≤ a ∧ a ≤ 15 ∧ st' = st.take ∧ st.s ≠ [] := by
  unfold digitF at h
  split at h
  · cases h
  · rename_i hn
    simp only [not_or] at hn
    injection h with h1 h2
    have := index_lt hexs (sgn st.s) (sgn_ne _ hn.1)
    have hl : (hexs.length : Int) = 16 := rfl
    exact ⟨by omega, by omega, h2.symm, hn.1⟩

theorem or_nat : ∀ x : Fin 16, ∀ y : Fin 16, (x.val * 16 ||| y.val) = 16 * x.val + y.val := by decide
theorem or_hex (a b : Int) (h0 : 0 ≤ a) (h1 : a ≤ 15) (h2 : 0 ≤ b) (h3 : b ≤ 15) : bits .or .u8 (a * 16) b = 16 * a + b := by
  have h := or_nat ⟨a.toNat, by omega⟩ ⟨b.toNat, by omega⟩
  rw [u8_or _ _ (by omega) (by omega) h2 (by omega), show (a * 16).toNat = a.toNat * 16 from by omega]
  dsimp only at h
  rw [h]
  omega
/-- A text of one byte that the call has laid itself. -/
theorem conv_one (W : World) (x : Int) : (convert 42 9 (.slice (some ⟨W.heap.size, 0, none⟩) 1 1)).run Tryd.prog (W.alloc (.cells #[.int .u8 x] 5)) = .ok (.string (strOfNums [x])) (W.alloc (.cells #[.int .u8 x] 5)) := by
  refine run_convert_bytes_arg _ 42 5 Tryd.underlying42 Tryd.underlying5 W.heap.size 0 1 1 [x] rfl (fun i hi => ?_) 9 Tryd.underlying9
  obtain rfl : i = 0 := by omega
  rw [Lib.cell_of_heap (heap_alloc_new W _)]
  rfl
theorem means_cut (i : Int) (h : 0 ≤ i) : (⟨#[34, 92, 10, 9]⟩ : ByteArray).extract i.toNat (i + 1).toNat = ⟨((means.drop i.toNat).take 1).toArray⟩ := by
  have e : (i + 1).toNat = i.toNat + 1 := by omega
  rw [e]
  exact (extract_mk means _ _).trans (by rw [List.drop_take, show i.toNat + 1 - i.toNat = 1 from by omega])

set_option maxHeartbeats 800000 in
theorem escape_any (g : Nat) (st : St) (n : Nat) (hn : n ≤ 100000) (w : World) (hW : WOk w) (hr : rdr w g st) (hf : st.Fine n) :
    Calls Tryd.prog 41 #[.pointer (some ⟨g, 0, none⟩)] w (RPost (fun l => Value.string ⟨l.toArray⟩) g w (escapeF st)) := by
  have hz := hf.size
  by_cases hx : sgn st.s = [120]
  · have hq : (sgn st.s == [120]) = true := beq_iff_eq.2 hx
    have hne : st.s ≠ [] := by
      intro h
      rw [h, sgn_nil] at hx
      cases hx
    have ht := St.take_fine hf hne
    have hd : escapeF st = match digitF st.take with
      | .bad l c => .bad l c
      | .ok a st1 => match digitF st1 with
        | .bad l c => .bad l c
        | .ok b st2 => .ok [UInt8.ofNat (16 * a + b).toNat] st2 := if_pos hx
    rw [hd]
    clear hd
    have hf1 := ht.1
    cases hda : digitF st.take with
    | bad l c =>
      have Ha := Lib.hid hda
      clear hda hx ht
      dsimp only
      go_enter Tryd.func41, Tryd.ntmps41
      go_wp2_with (first | ((go_at_call 18; (with_reducible refine (next_any g st _ hr (by omega)).mono ?_); rintro e w' ⟨rfl, hb'⟩; have hr1 := hr.below hb'; have hb1 := hb'; clear hb'); have hW1 := hW.below hb1) | ((go_at_call 20; (with_reducible refine (take_any g st n hn _ hr1 hne hf).mono ?_); rintro e w' ⟨rfl, hf', hr'⟩; have hr2 := hr'; have hf2 := hf'; clear hr' hf'); have hW2 := hW1.fx hr1 hf2) | ((go_at_call 51; (with_reducible refine (digit_any g st.take n hn _ hW2 hr2 hf1).mono ?_); rw [Ha.out]; rintro e w' ⟨rfl, hf'⟩; have hf3 := hf'; clear hf')))
      exact ⟨rfl, rfl, ((Fx.of_below hb1).trans hf2).trans hf3⟩
    | ok a st1 =>
      obtain ⟨ha0, ha1, rfl, hne1⟩ := digit_range hda
      have Ha := Lib.hid hda
      clear hda hx
      have ht2 := St.take_fine hf1 hne1
      have hf2' := ht2.1
      clear ht ht2
      dsimp only
      cases hdb : digitF st.take.take with
      | bad l c =>
        have Hb := Lib.hid hdb
        clear hdb
        dsimp only
        go_enter Tryd.func41, Tryd.ntmps41
        go_wp2_with (first | ((go_at_call 18; (with_reducible refine (next_any g st _ hr (by omega)).mono ?_); rintro e w' ⟨rfl, hb'⟩; have hr1 := hr.below hb'; have hb1 := hb'; clear hb'); have hW1 := hW.below hb1) | ((go_at_call 20; (with_reducible refine (take_any g st n hn _ hr1 hne hf).mono ?_); rintro e w' ⟨rfl, hf', hr'⟩; have hr2 := hr'; have hf2 := hf'; clear hr' hf'); have hW2 := hW1.fx hr1 hf2) | ((go_at_call 51; (with_reducible refine (digit_any g st.take n hn _ hW2 hr2 hf1).mono ?_); rw [Ha.out]; rintro e w' ⟨rfl, hf', hr3⟩; have hf3 := hf'; clear hf'); have hW3 := hW2.fx hr2 hf3; clear hW2) | ((go_at_call 51; (with_reducible refine (digit_any g st.take.take n hn _ hW3 hr3 hf2').mono ?_); rw [Hb.out]; rintro e w' ⟨rfl, hf'⟩; have hf4 := hf'; clear hf')))
        exact ⟨rfl, rfl, (((Fx.of_below hb1).trans hf2).trans hf3).trans hf4⟩
      | ok b st2 =>
        obtain ⟨hb0, hb1', e2, hne2⟩ := digit_range hdb
        clear e2 hne2
        have Hb := Lib.hid hdb
        have hcv := conv_one
        clear hdb
        dsimp only
        go_enter Tryd.func41, Tryd.ntmps41
        go_wp2_with (first | ((go_at_call 18; (with_reducible refine (next_any g st _ hr (by omega)).mono ?_); rintro e w' ⟨rfl, hb'⟩; have hr1 := hr.below hb'; have hb1 := hb'; clear hb'); have hW1 := hW.below hb1) | ((go_at_call 20; (with_reducible refine (take_any g st n hn _ hr1 hne hf).mono ?_); rintro e w' ⟨rfl, hf', hr'⟩; have hr2 := hr'; have hf2 := hf'; clear hr' hf'); have hW2 := hW1.fx hr1 hf2) | ((go_at_call 51; (with_reducible refine (digit_any g st.take n hn _ hW2 hr2 hf1).mono ?_); rw [Ha.out]; rintro e w' ⟨rfl, hf', hr3⟩; have hf3 := hf'; clear hf'); have hW3 := hW2.fx hr2 hf3; clear hW2) | ((go_at_call 51; (with_reducible refine (digit_any g st.take.take n hn _ hW3 hr3 hf2').mono ?_); rw [Hb.out]; rintro e w' ⟨rfl, hf', hr4⟩; have hf4 := hf'; clear hf')))
        go_ret
        exact ⟨ret_str (by rw [or_hex a b ha0 ha1 hb0 hb1']; rfl), ((((Fx.of_below hb1).trans hf2).trans hf3).trans hf4).alloc _, ⟨hr4.1, (Below.heap_alloc _ _ _ hr4.lt).trans hr4.2⟩⟩
  · have hq : (sgn st.s == [120]) = false := beq_eq_false_iff_ne.2 hx
    have hir := index_range escs (sgn st.s)
    by_cases h0 : st.s = []
    · have hd : escapeF st = .bad st.l st.c := (if_neg hx).trans (if_pos (.inl ((sgn_eq_nil _).2 h0)))
      rw [hd]
      have he : (sgn st.s == []) = true := beq_iff_eq.2 ((sgn_eq_nil _).2 h0)
      clear hd h0 hx
      go_enter Tryd.func41, Tryd.ntmps41
      go_wp2_with (first | ((go_at_call 18; (with_reducible refine (next_any g st _ hr (by omega)).mono ?_); rintro e w' ⟨rfl, hb'⟩; have hr1 := hr.below hb'; have hb1 := hb'; clear hb'); have hW1 := hW.below hb1) | (go_at_call 21; refine (index_any escs (sgn st.s) _ hW1 (by decide)).mono ?_; rintro e w' ⟨rfl, rfl⟩) | (go_at_call 24; (with_reducible refine (fail_any g st _ hr1).mono ?_); rintro e w' ⟨rfl, rfl⟩))
      exact ⟨rfl, rfl, Fx.of_below hb1⟩
    · have he : (sgn st.s == []) = false := beq_eq_false_iff_ne.2 (sgn_ne _ h0)
      have hlt := index_lt escs (sgn st.s) (sgn_ne _ h0)
      have hl4 : Lib.index escs (sgn st.s) < 4 := hlt
      by_cases h2 : Lib.index escs (sgn st.s) < 0
      · have hd : escapeF st = .bad st.l st.c := (if_neg hx).trans (if_pos (.inr h2))
        rw [hd]
        have H0 := Lib.hid h0
        clear hd h0 hx
        go_enter Tryd.func41, Tryd.ntmps41
        go_wp2_with (first | ((go_at_call 18; (with_reducible refine (next_any g st _ hr (by omega)).mono ?_); rintro e w' ⟨rfl, hb'⟩; have hr1 := hr.below hb'; have hb1 := hb'; clear hb'); have hW1 := hW.below hb1) | (go_at_call 21; refine (index_any escs (sgn st.s) _ hW1 (by decide)).mono ?_; rintro e w' ⟨rfl, rfl⟩) | (go_at_call 24; (with_reducible refine (fail_any g st _ hr1).mono ?_); rintro e w' ⟨rfl, rfl⟩))
        exact ⟨rfl, rfl, Fx.of_below hb1⟩
      · have hd : escapeF st = .ok ((means.drop (Lib.index escs (sgn st.s)).toNat).take 1) st.take := (if_neg hx).trans (if_neg (not_or.2 ⟨sgn_ne _ h0, h2⟩))
        rw [hd]
        have H0 := Lib.hid h0
        have h2' : 0 ≤ Lib.index escs (sgn st.s) := by omega
        clear hd h0 hx h2
        go_enter Tryd.func41, Tryd.ntmps41
        go_wp2_with (first | ((go_at_call 18; (with_reducible refine (next_any g st _ hr (by omega)).mono ?_); rintro e w' ⟨rfl, hb'⟩; have hr1 := hr.below hb'; have hb1 := hb'; clear hb'); have hW1 := hW.below hb1) | (go_at_call 21; refine (index_any escs (sgn st.s) _ hW1 (by decide)).mono ?_; rintro e w' ⟨rfl, rfl⟩) | ((go_at_call 20; (with_reducible refine (take_any g st n hn _ hr1 H0.out hf).mono ?_); rintro e w' ⟨rfl, hf', hr'⟩; have hr2 := hr'; have hf2 := hf'; clear hr' hf')))
        go_ret
        exact ⟨ret_str (means_cut _ h2'), (Fx.of_below hb1).trans hf2, hr2⟩
end Go.Proofs.YtegbclolpppajaaDoor
