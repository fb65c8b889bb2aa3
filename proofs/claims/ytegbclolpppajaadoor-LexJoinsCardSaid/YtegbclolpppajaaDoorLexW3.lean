/- The walks over the reader of words, further: the loop over a string's parts. -/
import Derived.Test.YtegbclolpppajaaDoorLexW2
set_option linter.unusedVariables false
namespace Go.Proofs.YtegbclolpppajaaDoor
open Go.RowKit

theorem valid_any (a : List UInt8) (w : World) (hW : WOk w) (ha : a.length ≤ 9223372036854775807) :
    Calls Tryd.prog 40 #[.string ⟨a.toArray⟩] w fun e w' => e = .returned (.bool (Lib.validD a)) ∧ Below w.heap.size w w' :=
  Tryd.utf8_ValidString ⟨a.toArray⟩ w ha hW.tabs

theorem Fx.then_below {g : Nat} {w a b : World} (h : Fx g w a) (k : Below w.heap.size a b) : Fx g w b :=
  ⟨k.os.trans h.os, k.tape.trans h.tape, k.output.trans h.output, Nat.le_trans h.size k.size, fun i hi hg => (k.block i hi).trans (h.block i hi hg)⟩
theorem Fx.then_new {g : Nat} {w a b : World} (h : Fx g w a) (k : Below a.heap.size a b) : Fx g w b := h.then_below (k.mono h.size)
theorem IsB.keep {B b : Nat} {bs : List Value} {w w' : World} (h : IsB B b bs w) (hk : ∀ k, B ≤ k → k < w.heap.size → w'.heap[k]? = w.heap[k]?) : IsB B b bs w' := by
  have key : ∀ p, Lib.BuilderAtF 44 5 B b p bs w → Lib.BuilderAtF 44 5 B b p bs w' := by
    rintro p ⟨h1, v, h2, h3, h4⟩
    refine ⟨h1, v, (hk b h1 (lt_of_heap h2)).trans h2, ⟨h3.1, ?_⟩, h4⟩
    rcases h3.2 with hn | ⟨g', cap, cur, fz, hv, hg, hh, r⟩
    · exact .inl hn
    · exact .inr ⟨g', cap, cur, fz, hv, hg, (hk g' hg (lt_of_heap hh)).trans hh, r⟩
  exact h.elim (fun x => .inl (key _ x)) (fun x => .inr (key _ x))
theorem IsB.fx {B b g : Nat} {bs : List Value} {w w' : World} (h : IsB B b bs w) (hg : g < B) (hf : Fx g w w') : IsB B b bs w' :=
  h.keep fun k h1 h2 => hf.block k h2 (by omega)
theorem IsB.new {B b : Nat} {bs : List Value} {w w' : World} (h : IsB B b bs w) (hf : Below w.heap.size w w') : IsB B b bs w' :=
  h.keep fun k _ h2 => hf.block k h2
theorem rdr.low {w w' : World} {g B : Nat} {st : St} (h : rdr w g st) (hB : g < B) (hb : Below B w w') : rdr w' g st := ⟨h.1, (hb.block g hB).trans h.2⟩
theorem WOk.low {w w' : World} {B : Nat} (h : WOk w) (hB : 3 ≤ B) (hb : Below B w w') : WOk w' := h.keep hb.size fun k hk => hb.block k (by omega)

theorem isB_wrote {B b : Nat} {out x : List UInt8} {w : World} (h : BAt B b (Lib.byteCells out ++ Lib.strCells ⟨x.toArray⟩) w) : IsB B b (Lib.byteCells (out ++ x)) w := by
  rw [Lib.byteCells_append]
  exact .inr h

theorem st_take_length (st : St) : st.take.s.length + (sgn st.s).length = st.s.length := by
  have := sgn_le st.s
  unfold St.take
  split <;> simp only [List.length_drop] <;> omega

theorem escape_fine {st st' : St} {x : List UInt8} {n : Nat} (h : escapeF st = .ok x st') (hf : st.Fine n) : st'.Fine n ∧ st'.s.length < st.s.length ∧ x.length ≤ 1 := by
  unfold escapeF at h
  split at h
  · rename_i hx
    have hne : st.s ≠ [] := by
      intro h'
      rw [h', sgn_nil] at hx
      cases hx
    have h1 := St.take_fine hf hne
    split at h
    · cases h
    · rename_i a st1 hd1
      obtain ⟨_, _, e1, hne1⟩ := digit_range hd1
      have h2 := St.take_fine h1.1 hne1
      rw [← e1] at h2
      split at h
      · cases h
      · rename_i b st2 hd2
        obtain ⟨_, _, e2, hne2⟩ := digit_range hd2
        have h3 := St.take_fine h2.1 hne2
        rw [← e2] at h3
        injection h with h4 h5
        subst h5 h4
        exact ⟨h3.1, by omega, by simp⟩
  · split at h
    · cases h
    · rename_i hn
      injection h with h4 h5
      subst h5 h4
      have h1 := St.take_fine hf (fun h' => hn (.inl ((sgn_eq_nil _).2 h')))
      exact ⟨h1.1, h1.2, by rw [List.length_take]; omega⟩

set_option maxHeartbeats 1600000 in
theorem text_any (g : Nat) (st : St) (n : Nat) (hn : n ≤ 100000) (w : World) (hW : WOk w) (hr : rdr w g st) (hf : st.Fine n) :
    Calls Tryd.prog 22 #[.pointer (some ⟨g, 0, none⟩)] w (RPost (fun l => Value.string ⟨l.toArray⟩) g w (textF (st.s.length + 1) [] st)) := by
  have hglt := hr.lt
  have hNG := hW.size
  obtain ⟨R, hR⟩ : ∃ R, R = textF (st.s.length + 1) [] st := ⟨_, rfl⟩
  rw [← hR]
  have HR := Lib.hid hR.symm
  clear hR
  have hal := fun (T : TypeId) => (Below.refl w.heap.size w).alloc (Nat.le_refl _) (.cells #[.pointer none, .slice none 0 0] T)
  go_enter Tryd.func22, Tryd.ntmps22
  go_wp2
  go_loopg [4] st.s.length (fun k _ wr => ∃ (f : Nat) (out : List UInt8) (st' : St), st'.s.length = k ∧ k < f ∧ Hid (textF f out st' = R) ∧ rdr wr g st' ∧ IsB w.heap.size w.heap.size (Lib.byteCells out) wr ∧ Fx g w wr ∧ WOk wr ∧ st'.Fine n ∧ out.length + k ≤ n)
  case atStart =>
    exact ⟨_, [], st, rfl, Nat.lt_succ_self _, HR, hr.below (hal _), isB_new w, Fx.of_below (hal _), hW.below (hal _), hf, by have := hf.size; simpa using this⟩
  case round =>
    obtain ⟨f, out, st', hk, hkf, HE, hr', hB, hF, hW', hf', ho⟩ := hrel
    obtain ⟨f, rfl⟩ : ∃ m, f = m + 1 := ⟨f - 1, by omega⟩
    have hz := hf'.size
    have HK := Lib.hid hk
    have hkz : gk ≤ n := by omega
    clear hk
    have hsz := hF.size
    by_cases h1 : sgn st'.s = [] ∨ sgn st'.s = [10] ∨ Lib.validD (sgn st'.s) = false
    · have hb : R = .bad st'.l st'.c := by rw [← HE.out]; exact if_pos h1
      have HB := Lib.hid hb
      clear hb HE HR
      by_cases h2 : sgn st'.s = []
      · have q1 : (sgn st'.s == []) = true := beq_iff_eq.2 h2
        clear h1 h2
        go_wp2_with (first | ((go_at_call 18; (with_reducible refine (next_any g st' _ hr' (by omega)).mono ?_); rintro e w' ⟨rfl, hb'⟩; have hr1 := hr'.below hb'; have hb1 := hb'; clear hb')) | (go_at_call 24; (with_reducible refine (fail_any g st' _ hr1).mono ?_); rintro e w' ⟨rfl, rfl⟩))
        refine ⟨rfl, ?_⟩; rw [HB.out]; exact ⟨rfl, hF.then_new hb1⟩
      · have q1 : (sgn st'.s == []) = false := beq_eq_false_iff_ne.2 h2
        by_cases h3 : sgn st'.s = [10]
        · have q2 : (sgn st'.s == [10]) = true := beq_iff_eq.2 h3
          clear h1 h2 h3
          go_wp2_with (first | ((go_at_call 18; (with_reducible refine (next_any g st' _ hr' (by omega)).mono ?_); rintro e w' ⟨rfl, hb'⟩; have hr1 := hr'.below hb'; have hb1 := hb'; clear hb')) | (go_at_call 24; (with_reducible refine (fail_any g st' _ hr1).mono ?_); rintro e w' ⟨rfl, rfl⟩))
          refine ⟨rfl, ?_⟩; rw [HB.out]; exact ⟨rfl, hF.then_new hb1⟩
        · have q2 : (sgn st'.s == [10]) = false := beq_eq_false_iff_ne.2 h3
          have q3 : Lib.validD (sgn st'.s) = false := by
            rcases h1 with h | h | h
            · exact absurd h h2
            · exact absurd h h3
            · exact h
          have hsl := sgn_le st'.s
          clear h1 h2 h3
          go_wp2_with (first | ((go_at_call 18; (with_reducible refine (next_any g st' _ hr' (by omega)).mono ?_); rintro e w' ⟨rfl, hb'⟩; have hr1 := hr'.below hb'; have hb1 := hb'; clear hb'); have hW1 := hW'.below hb1) | ((go_at_call 40; refine (valid_any (sgn st'.s) _ hW1 (by omega)).mono ?_; rintro e w' ⟨rfl, hb'⟩; have hb2 := hb'; clear hb'); have hr2 := hr1.below hb2) | (go_at_call 24; (with_reducible refine (fail_any g st' _ hr2).mono ?_); rintro e w' ⟨rfl, rfl⟩))
          refine ⟨rfl, ?_⟩; rw [HB.out]; exact ⟨rfl, (hF.then_new hb1).then_new hb2⟩
    · simp only [not_or] at h1
      obtain ⟨h2, h3, h4⟩ := h1
      have hne : st'.s ≠ [] := fun h => h2 ((sgn_eq_nil _).2 h)
      have q1 : (sgn st'.s == []) = false := beq_eq_false_iff_ne.2 h2
      have q2 : (sgn st'.s == [10]) = false := beq_eq_false_iff_ne.2 h3
      have q3 : Lib.validD (sgn st'.s) = true := by simpa using h4
      have hsl := sgn_le st'.s
      have ht := St.take_fine hf' hne
      have hft := ht.1
      have hN1 : ¬ (sgn st'.s = [] ∨ sgn st'.s = [10] ∨ Lib.validD (sgn st'.s) = false) := by simp [h2, h3, h4]
      have HN := Lib.hid hN1
      have Hne := Lib.hid hne
      clear hN1 h2 h3 h4 hne
      by_cases h5 : sgn st'.s = [34]
      · have q4 : (sgn st'.s == [34]) = true := beq_iff_eq.2 h5
        have hb : R = .ok out st'.take := by rw [← HE.out]; exact (if_neg HN.out).trans (if_pos h5)
        have HB := Lib.hid hb
        clear hb HE HR h5
        go_wp2_with (first | ((go_at_call 18; (with_reducible refine (next_any g st' _ hr' (by omega)).mono ?_); rintro e w' ⟨rfl, hb'⟩; have hr1 := hr'.below hb'; have hb1 := hb'; clear hb'); have hW1 := hW'.below hb1; have z1 := hb1.size; have hB1 := hB.new hb1) | ((go_at_call 40; refine (valid_any (sgn st'.s) _ hW1 (by omega)).mono ?_; rintro e w' ⟨rfl, hb'⟩; have hb2 := hb'; clear hb'); have hr2 := hr1.below hb2; have z2 := hb2.size; have hW2 := hW1.below hb2; have hB2 := hB1.new hb2) | ((go_at_call 20; (with_reducible refine (take_any g st' n hn _ hr2 Hne.out hf').mono ?_); rintro e w' ⟨rfl, hf', hr'⟩; have hr3 := hr'; have hf3 := hf'; clear hr' hf'); have z3 := hf3.size; have hB3 := hB2.fx hglt hf3; have hW3 := hW2.fx hr2 hf3) | (go_at_call 17; (with_reducible refine (Tryd.Builder_String_any_f _ _ out _ hB3 (by omega)).mono ?_); rintro e w' ⟨rfl, hI', hb'⟩; have hb4 := hb'; clear hI' hb'))
        go_ret
        rw [HB.out]
        exact ⟨rfl, (((hF.then_new hb1).then_new hb2).trans hf3).then_below hb4, hr3.low hglt hb4⟩
      · have q4 : (sgn st'.s == [34]) = false := beq_eq_false_iff_ne.2 h5
        by_cases h6 : sgn st'.s = [92]
        · have q5 : (sgn st'.s == [92]) = true := beq_iff_eq.2 h6
          have hb : R = match escapeF st'.take with
              | .bad l c => .bad l c
              | .ok x st1 => textF f (out ++ x) st1 := by rw [← HE.out]; exact (if_neg HN.out).trans ((if_neg h5).trans (if_pos h6))
          cases hes : escapeF st'.take with
          | bad l c =>
            rw [hes] at hb
            have HB := Lib.hid hb
            have HS := Lib.hid hes
            clear hb HE HR h5 h6 hes
            go_wp2_with (first | ((go_at_call 18; (with_reducible refine (next_any g st' _ hr' (by omega)).mono ?_); rintro e w' ⟨rfl, hb'⟩; have hr1 := hr'.below hb'; have hb1 := hb'; clear hb'); have hW1 := hW'.below hb1; have z1 := hb1.size; have hB1 := hB.new hb1) | ((go_at_call 40; refine (valid_any (sgn st'.s) _ hW1 (by omega)).mono ?_; rintro e w' ⟨rfl, hb'⟩; have hb2 := hb'; clear hb'); have hr2 := hr1.below hb2; have z2 := hb2.size; have hW2 := hW1.below hb2; have hB2 := hB1.new hb2) | ((go_at_call 20; (with_reducible refine (take_any g st' n hn _ hr2 Hne.out hf').mono ?_); rintro e w' ⟨rfl, hf', hr'⟩; have hr3 := hr'; have hf3 := hf'; clear hr' hf'); have z3 := hf3.size; have hB3 := hB2.fx hglt hf3; have hW3 := hW2.fx hr2 hf3) | (go_at_call 41; (with_reducible refine (escape_any g st'.take n hn _ hW3 hr3 hft).mono ?_); rw [HS.out]; rintro e w' ⟨rfl, hf'⟩; have hf4 := hf'; clear hf'))
            refine ⟨rfl, ?_⟩
            rw [HB.out]
            exact ⟨rfl, (((hF.then_new hb1).then_new hb2).trans hf3).trans hf4⟩
          | ok x st1 =>
            rw [hes] at hb
            have hef := escape_fine hes hft
            have hxl := hef.2.2
            have hx1 : out.length + x.length ≤ 140737488355328 := by omega
            have HB := Lib.hid hb.symm
            have HS := Lib.hid hes
            have HX := Lib.hid hef
            clear hb HE HR h5 h6 hes hef
            go_wp2_with (first | ((go_at_call 18; (with_reducible refine (next_any g st' _ hr' (by omega)).mono ?_); rintro e w' ⟨rfl, hb'⟩; have hr1 := hr'.below hb'; have hb1 := hb'; clear hb'); have hW1 := hW'.below hb1; have z1 := hb1.size; have hB1 := hB.new hb1) | ((go_at_call 40; refine (valid_any (sgn st'.s) _ hW1 (by omega)).mono ?_; rintro e w' ⟨rfl, hb'⟩; have hb2 := hb'; clear hb'); have hr2 := hr1.below hb2; have z2 := hb2.size; have hW2 := hW1.below hb2; have hB2 := hB1.new hb2) | ((go_at_call 20; (with_reducible refine (take_any g st' n hn _ hr2 Hne.out hf').mono ?_); rintro e w' ⟨rfl, hf', hr'⟩; have hr3 := hr'; have hf3 := hf'; clear hr' hf'); have z3 := hf3.size; have hB3 := hB2.fx hglt hf3; have hW3 := hW2.fx hr2 hf3) | ((go_at_call 41; (with_reducible refine (escape_any g st'.take n hn _ hW3 hr3 hft).mono ?_); rw [HS.out]; rintro e w' ⟨rfl, hf', hr4⟩; have hf4 := hf'; clear hf'); have z4 := hf4.size; have hB4 := hB3.fx hglt hf4; have hW4 := hW3.fx hr3 hf4) | (go_at_call 15; (with_reducible refine (writeString_any _ _ _ _ _ hB4 (by rw [Lib.byteCells_length, size_mk]; exact hx1) (by omega)).mono ?_); rintro e w' ⟨rfl, hI', hb', _⟩; have hI5 := hI'; have hb5 := hb'; clear hI' hb'))
            go_roundg st1.s.length
            case measure => have e1 := HX.out.2.1; have e2 := ht.2; have e3 := HK.out; omega
            case rel => exact ⟨f, out ++ x, st1, rfl, by have e1 := HX.out.2.1; have e2 := ht.2; have e3 := HK.out; omega, HB, hr4.low hglt hb5, isB_wrote hI5, ((((hF.then_new hb1).then_new hb2).trans hf3).trans hf4).then_below hb5, hW4.low hNG hb5, HX.out.1, by have e1 := HX.out.2.1; have e2 := ht.2; have e3 := HK.out; rw [List.length_append]; omega⟩
        · have q5 : (sgn st'.s == [92]) = false := beq_eq_false_iff_ne.2 h6
          have hb : R = textF f (out ++ sgn st'.s) st'.take := by rw [← HE.out]; exact (if_neg HN.out).trans ((if_neg h5).trans (if_neg h6))
          have hx1 : out.length + (sgn st'.s).length ≤ 140737488355328 := by have e3 := HK.out; omega
          have HB := Lib.hid hb.symm
          have hst := st_take_length st'
          clear hb HE HR h5 h6
          go_wp2_with (first | ((go_at_call 18; (with_reducible refine (next_any g st' _ hr' (by omega)).mono ?_); rintro e w' ⟨rfl, hb'⟩; have hr1 := hr'.below hb'; have hb1 := hb'; clear hb'); have hW1 := hW'.below hb1; have z1 := hb1.size; have hB1 := hB.new hb1) | ((go_at_call 40; refine (valid_any (sgn st'.s) _ hW1 (by omega)).mono ?_; rintro e w' ⟨rfl, hb'⟩; have hb2 := hb'; clear hb'); have hr2 := hr1.below hb2; have z2 := hb2.size; have hW2 := hW1.below hb2; have hB2 := hB1.new hb2) | ((go_at_call 20; (with_reducible refine (take_any g st' n hn _ hr2 Hne.out hf').mono ?_); rintro e w' ⟨rfl, hf', hr'⟩; have hr3 := hr'; have hf3 := hf'; clear hr' hf'); have z3 := hf3.size; have hB3 := hB2.fx hglt hf3; have hW3 := hW2.fx hr2 hf3) | (go_at_call 15; (with_reducible refine (writeString_any _ _ _ _ _ hB3 (by rw [Lib.byteCells_length, size_mk]; exact hx1) (by omega)).mono ?_); rintro e w' ⟨rfl, hI', hb', _⟩; have hI5 := hI'; have hb5 := hb'; clear hI' hb'))
          go_roundg st'.take.s.length
          case measure => have e2 := ht.2; have e3 := HK.out; omega
          case rel => exact ⟨f, out ++ sgn st'.s, st'.take, rfl, by have e2 := ht.2; have e3 := HK.out; omega, HB, hr3.low hglt hb5, isB_wrote hI5, (((hF.then_new hb1).then_new hb2).trans hf3).then_below hb5, hW3.low hNG hb5, hft, by have e3 := HK.out; rw [List.length_append]; omega⟩
end Go.Proofs.YtegbclolpppajaaDoor
