/- The walks over the reader of words, further: one token, branch by branch. -/
import Derived.Test.YtegbclolpppajaaDoorLexW4
set_option linter.unusedVariables false
namespace Go.Proofs.YtegbclolpppajaaDoor
open Go.RowKit
theorem heap_set {W : World} {B : Nat} {o : Option Obj} {p : Addr} {v : Value} (h : W.heap[B]? = o) (hne : B ≠ p.block) : (W.setCell p v).heap[B]? = o := (Below.heap_setCell _ _ _ _ hne).trans h

def W00 (w : World) (l c : Int) : World := (w.alloc (.cells #[.int .i64 0, .string ⟨#[]⟩, .int .i64 0, .int .i64 0] 30)).alloc (.cells #[.int .i64 0, .string ⟨#[]⟩, .int .i64 l, .int .i64 c] 30)
theorem one_start {g : Nat} {st : St} {w : World} (hW : WOk w) (hr : rdr w g st) : ∃ W0, Hid (W0 = W00 w st.l st.c) ∧ rdr W0 g st ∧ OneS w W0 g st.l st.c := by
  have hb : Below w.heap.size w (W00 w st.l st.c) := ((Below.refl _ w).alloc (Nat.le_refl _) _).alloc (by simp) _
  refine ⟨_, rfl, hr.below hb, Fx.of_below hb, hW.below hb, ?_, ?_⟩
  · unfold W00
    rw [Below.heap_alloc _ _ _ (by simp)]; exact heap_alloc_new w _
  · have := heap_alloc_new (w.alloc (.cells #[.int .i64 0, .string ⟨#[]⟩, .int .i64 0, .int .i64 0] 30)) (.cells #[.int .i64 0, .string ⟨#[]⟩, .int .i64 st.l, .int .i64 st.c] 30)
    simpa [W00] using this

set_option maxHeartbeats 800000 in
theorem one_blank (g : Nat) (st : St) (n : Nat) (hn : n ≤ 100000) (w : World) (hW : WOk w) (hr : rdr w g st) (hf : st.Fine n) (hne : st.s ≠ []) (h1 : Lib.contains blanks (sgn st.s) = true) :
    Calls Tryd.prog 10 #[.pointer (some ⟨g, 0, none⟩)] w (RPost (oneV st.l st.c) g w (.ok none st.take)) := by
  have hz := hf.size; have hlt := hr.lt; obtain ⟨W0, HW0, hr0, hs0⟩ := one_start hW hr; have k1 := fun o => cell_alloc' o hr.c1; have k2 := fun o => cell_alloc' o hr.c2
  go_enter Tryd.func10, Tryd.ntmps10; go_wp2_with fail; rw [← show W0 = (w.alloc (.cells #[.int .i64 0, .string ⟨#[]⟩, .int .i64 0, .int .i64 0] 30)).alloc (.cells #[.int .i64 0, .string ⟨#[]⟩, .int .i64 st.l, .int .i64 st.c] 30) from HW0.out]
  go_wp2_with (first | ((go_at_call 18; (with_reducible refine (next_any g st _ hr0 (by omega)).mono ?_); rintro e w' ⟨rfl, hb'⟩; have hr1 := hr0.below hb'; have hb1 := hb'; clear hb'); have hs1 := hs0.step hlt hr0 (Fx.of_below hb1)) | (go_at_call 19; refine (contains_any blanks (sgn st.s) _ hs1.ok (by decide)).mono ?_; rintro e w' ⟨rfl, rfl⟩) | ((go_at_call 20; (with_reducible refine (take_any g st n hn _ hr1 hne hf).mono ?_); rintro e w' ⟨rfl, hf', hr'⟩; have hr2 := hr'; have hf2 := hf'; clear hr' hf'); have hs2 := hs1.step hlt hr1 hf2; have t0 := hs2.t0; have t1 := hs2.t1; have t2 := hs2.t2; have t3 := hs2.t3; have s0 := hs2.s0; have s1 := hs2.s1; have s2 := hs2.s2; have s3 := hs2.s3; have fs := hs2.fs; have ft := hs2.ft))
  exact one_end rfl (heap4 hs2.res) ⟨rfl, Fx.then_sets hs2.fx, rdr.sets hr2 hlt⟩

set_option maxHeartbeats 1600000 in
theorem one_note (g : Nat) (st : St) (n : Nat) (hn : n ≤ 100000) (w : World) (hW : WOk w) (hr : rdr w g st) (hf : st.Fine n) (hne : st.s ≠ []) (hc : Lib.contains blanks (sgn st.s) = false) (q2 : (sgn st.s == [35]) = true) :
    Calls Tryd.prog 10 #[.pointer (some ⟨g, 0, none⟩)] w (RPost (oneV st.l st.c) g w (.ok none (skipF (st.s.length + 1) st))) := by
  obtain ⟨R, hR⟩ : ∃ R, R = skipF (st.s.length + 1) st := ⟨_, rfl⟩
  rw [← hR]
  have HR := Lib.hid hR.symm
  clear hR
  have hz := hf.size; have hlt := hr.lt; obtain ⟨W0, HW0, hr0, hs0⟩ := one_start hW hr; have k1 := fun o => cell_alloc' o hr.c1; have k2 := fun o => cell_alloc' o hr.c2
  go_enter Tryd.func10, Tryd.ntmps10; go_wp2_with fail; rw [← show W0 = (w.alloc (.cells #[.int .i64 0, .string ⟨#[]⟩, .int .i64 0, .int .i64 0] 30)).alloc (.cells #[.int .i64 0, .string ⟨#[]⟩, .int .i64 st.l, .int .i64 st.c] 30) from HW0.out]
  go_wp2_with (first | ((go_at_call 18; (with_reducible refine (next_any g st _ hr0 (by omega)).mono ?_); rintro e w' ⟨rfl, hb'⟩; have hr1 := hr0.below hb'; have hb1 := hb'; clear hb'); have hs1 := hs0.step hlt hr0 (Fx.of_below hb1)) | (go_at_call 19; refine (contains_any blanks (sgn st.s) _ hs1.ok (by decide)).mono ?_; rintro e w' ⟨rfl, rfl⟩))
  go_loopg [24] st.s.length (fun k _ wr => ∃ (f : Nat) (st' : St), st'.s.length = k ∧ k < f ∧ Hid (skipF f st' = R) ∧ rdr wr g st' ∧ OneS w wr g st.l st.c ∧ st'.Fine n)
  case atStart => exact ⟨_, st, rfl, Nat.lt_succ_self _, HR, hr1, hs1, hf⟩
  case round =>
    obtain ⟨f, st', hk, hkf, HE, hr', hs', hf'⟩ := hrel
    obtain ⟨f, rfl⟩ : ∃ m, f = m + 1 := ⟨f - 1, by omega⟩
    have hz' := hf'.size
    have HK := Lib.hid hk
    clear hk
    have g0 := hr'.c0
    by_cases e1 : st'.s = []
    · have q3 : (st'.s == []) = true := beq_iff_eq.2 e1
      have hb : st' = R := by rw [← HE.out]; exact (if_pos (.inl e1)).symm
      have HB := Lib.hid hb
      clear hb e1
      have t0 := hs'.t0; have t1 := hs'.t1; have t2 := hs'.t2; have t3 := hs'.t3; have s0 := hs'.s0; have s1 := hs'.s1; have s2 := hs'.s2; have s3 := hs'.s3; have fs := hs'.fs; have ft := hs'.ft
      go_wp2
      exact one_end rfl (heap4 hs'.res) ⟨rfl, Fx.then_sets hs'.fx, HB.out ▸ rdr.sets hr' hlt⟩
    · have q3 : (st'.s == []) = false := beq_eq_false_iff_ne.2 e1
      by_cases e2 : sgn st'.s = [10]
      · have q4 : (sgn st'.s == [10]) = true := beq_iff_eq.2 e2
        have hb : st' = R := by rw [← HE.out]; exact (if_pos (.inr e2)).symm
        have HB := Lib.hid hb
        clear hb e1 e2
        go_wp2_with (first | ((go_at_call 18; (with_reducible refine (next_any g st' _ hr' (by omega)).mono ?_); rintro e w' ⟨rfl, hb'⟩; have hr2 := hr'.below hb'; have hb2 := hb'; clear hb'); have hs2 := hs'.step hlt hr' (Fx.of_below hb2); have t0 := hs2.t0; have t1 := hs2.t1; have t2 := hs2.t2; have t3 := hs2.t3; have s0 := hs2.s0; have s1 := hs2.s1; have s2 := hs2.s2; have s3 := hs2.s3; have fs := hs2.fs; have ft := hs2.ft))
        exact one_end rfl (heap4 hs2.res) ⟨rfl, Fx.then_sets hs2.fx, HB.out ▸ rdr.sets hr2 hlt⟩
      · have q4 : (sgn st'.s == [10]) = false := beq_eq_false_iff_ne.2 e2
        have hb : skipF f st'.take = R := by rw [← HE.out]; exact (if_neg (not_or.2 ⟨e1, e2⟩)).symm
        have ht := St.take_fine hf' e1
        have HB := Lib.hid hb
        have H1 := Lib.hid e1
        clear hb e1 e2
        go_wp2_with (first | ((go_at_call 18; (with_reducible refine (next_any g st' _ hr' (by omega)).mono ?_); rintro e w' ⟨rfl, hb'⟩; have hr2 := hr'.below hb'; have hb2 := hb'; clear hb'); have hs2 := hs'.step hlt hr' (Fx.of_below hb2)) | ((go_at_call 20; (with_reducible refine (take_any g st' n hn _ hr2 H1.out hf').mono ?_); rintro e w' ⟨rfl, hf', hr'⟩; have hr3 := hr'; have hf3 := hf'; clear hr' hf'); have hs3 := hs2.step hlt hr2 hf3))
        go_roundg st'.take.s.length
        case measure => have e3 := HK.out; omega
        case rel => exact ⟨f, st'.take, rfl, by have e3 := HK.out; omega, HB, hr3, hs3, ht.1⟩

set_option maxHeartbeats 800000 in
theorem one_open (g : Nat) (st : St) (n : Nat) (hn : n ≤ 100000) (w : World) (hW : WOk w) (hr : rdr w g st) (hf : st.Fine n) (hne : st.s ≠ []) (hc : Lib.contains blanks (sgn st.s) = false) (q2 : (sgn st.s == [35]) = false) (q3 : (sgn st.s == [123]) = true) :
    Calls Tryd.prog 10 #[.pointer (some ⟨g, 0, none⟩)] w (RPost (oneV st.l st.c) g w (.ok (some ⟨3 + Lib.index braces (sgn st.s), [], st.l, st.c⟩) st.take)) := by
  have hz := hf.size; have hlt := hr.lt; obtain ⟨W0, HW0, hr0, hs0⟩ := one_start hW hr; have k1 := fun o => cell_alloc' o hr.c1; have k2 := fun o => cell_alloc' o hr.c2; have hir1 := (index_range braces (sgn st.s)).1; have hir2 : Lib.index braces (sgn st.s) ≤ 3 := (index_range braces (sgn st.s)).2; (go_enter Tryd.func10, Tryd.ntmps10; go_wp2_with fail; rw [← show W0 = (w.alloc (.cells #[.int .i64 0, .string ⟨#[]⟩, .int .i64 0, .int .i64 0] 30)).alloc (.cells #[.int .i64 0, .string ⟨#[]⟩, .int .i64 st.l, .int .i64 st.c] 30) from HW0.out]); go_wp2_with (first | ((go_at_call 18; (with_reducible refine (next_any g st _ hr0 (by omega)).mono ?_); rintro e w' ⟨rfl, hb'⟩; have hr1 := hr0.below hb'; have hb1 := hb'; clear hb'); have hs1 := hs0.step hlt hr0 (Fx.of_below hb1)) | (go_at_call 19; refine (contains_any blanks (sgn st.s) _ hs1.ok (by decide)).mono ?_; rintro e w' ⟨rfl, rfl⟩) | (go_at_call 21; refine (index_any braces (sgn st.s) _ hs2.ok (by decide)).mono ?_; rintro e w' ⟨rfl, rfl⟩) | ((go_at_call 20; (with_reducible refine (take_any g st n hn _ hr1 hne hf).mono ?_); rintro e w' ⟨rfl, hf', hr'⟩; have hr2 := hr'; have hf2 := hf'; clear hr' hf'); have hs2 := hs1.step hlt hr1 hf2; have t0 := hs2.t0; have t1 := hs2.t1; have t2 := hs2.t2; have t3 := hs2.t3; have s0 := hs2.s0; have s1 := hs2.s1; have s2 := hs2.s2; have s3 := hs2.s3; have fs := hs2.fs; have ft := hs2.ft)); exact one_end rfl (heap4 (heap_set hs2.res (by simp))) ⟨rfl, hs2.fx.then_below (by repeat (first | (with_reducible refine Below.setCell ?_ (by dsimp only; omega) _) | (with_reducible exact Below.refl _ _))), hr2.low hlt (by repeat (first | (with_reducible refine Below.setCell ?_ (by dsimp only; omega) _) | (with_reducible exact Below.refl _ _)))⟩
set_option maxHeartbeats 800000 in
theorem one_close (g : Nat) (st : St) (n : Nat) (hn : n ≤ 100000) (w : World) (hW : WOk w) (hr : rdr w g st) (hf : st.Fine n) (hne : st.s ≠ []) (hc : Lib.contains blanks (sgn st.s) = false) (q2 : (sgn st.s == [35]) = false) (q3 : (sgn st.s == [123]) = false) (q4 : (sgn st.s == [125]) = true) :
    Calls Tryd.prog 10 #[.pointer (some ⟨g, 0, none⟩)] w (RPost (oneV st.l st.c) g w (.ok (some ⟨3 + Lib.index braces (sgn st.s), [], st.l, st.c⟩) st.take)) := by
  have hz := hf.size; have hlt := hr.lt; obtain ⟨W0, HW0, hr0, hs0⟩ := one_start hW hr; have k1 := fun o => cell_alloc' o hr.c1; have k2 := fun o => cell_alloc' o hr.c2; have hir1 := (index_range braces (sgn st.s)).1; have hir2 : Lib.index braces (sgn st.s) ≤ 3 := (index_range braces (sgn st.s)).2; (go_enter Tryd.func10, Tryd.ntmps10; go_wp2_with fail; rw [← show W0 = (w.alloc (.cells #[.int .i64 0, .string ⟨#[]⟩, .int .i64 0, .int .i64 0] 30)).alloc (.cells #[.int .i64 0, .string ⟨#[]⟩, .int .i64 st.l, .int .i64 st.c] 30) from HW0.out]); go_wp2_with (first | ((go_at_call 18; (with_reducible refine (next_any g st _ hr0 (by omega)).mono ?_); rintro e w' ⟨rfl, hb'⟩; have hr1 := hr0.below hb'; have hb1 := hb'; clear hb'); have hs1 := hs0.step hlt hr0 (Fx.of_below hb1)) | (go_at_call 19; refine (contains_any blanks (sgn st.s) _ hs1.ok (by decide)).mono ?_; rintro e w' ⟨rfl, rfl⟩) | (go_at_call 21; refine (index_any braces (sgn st.s) _ hs2.ok (by decide)).mono ?_; rintro e w' ⟨rfl, rfl⟩) | ((go_at_call 20; (with_reducible refine (take_any g st n hn _ hr1 hne hf).mono ?_); rintro e w' ⟨rfl, hf', hr'⟩; have hr2 := hr'; have hf2 := hf'; clear hr' hf'); have hs2 := hs1.step hlt hr1 hf2; have t0 := hs2.t0; have t1 := hs2.t1; have t2 := hs2.t2; have t3 := hs2.t3; have s0 := hs2.s0; have s1 := hs2.s1; have s2 := hs2.s2; have s3 := hs2.s3; have fs := hs2.fs; have ft := hs2.ft)); exact one_end rfl (heap4 (heap_set hs2.res (by simp))) ⟨rfl, hs2.fx.then_below (by repeat (first | (with_reducible refine Below.setCell ?_ (by dsimp only; omega) _) | (with_reducible exact Below.refl _ _))), hr2.low hlt (by repeat (first | (with_reducible refine Below.setCell ?_ (by dsimp only; omega) _) | (with_reducible exact Below.refl _ _)))⟩
set_option maxHeartbeats 800000 in
theorem one_semi (g : Nat) (st : St) (n : Nat) (hn : n ≤ 100000) (w : World) (hW : WOk w) (hr : rdr w g st) (hf : st.Fine n) (hne : st.s ≠ []) (hc : Lib.contains blanks (sgn st.s) = false) (q2 : (sgn st.s == [35]) = false) (q3 : (sgn st.s == [123]) = false) (q4 : (sgn st.s == [125]) = false) (q5 : (sgn st.s == [59]) = true) :
    Calls Tryd.prog 10 #[.pointer (some ⟨g, 0, none⟩)] w (RPost (oneV st.l st.c) g w (.ok (some ⟨3 + Lib.index braces (sgn st.s), [], st.l, st.c⟩) st.take)) := by
  have hz := hf.size; have hlt := hr.lt; obtain ⟨W0, HW0, hr0, hs0⟩ := one_start hW hr; have k1 := fun o => cell_alloc' o hr.c1; have k2 := fun o => cell_alloc' o hr.c2; have hir1 := (index_range braces (sgn st.s)).1; have hir2 : Lib.index braces (sgn st.s) ≤ 3 := (index_range braces (sgn st.s)).2; (go_enter Tryd.func10, Tryd.ntmps10; go_wp2_with fail; rw [← show W0 = (w.alloc (.cells #[.int .i64 0, .string ⟨#[]⟩, .int .i64 0, .int .i64 0] 30)).alloc (.cells #[.int .i64 0, .string ⟨#[]⟩, .int .i64 st.l, .int .i64 st.c] 30) from HW0.out]); go_wp2_with (first | ((go_at_call 18; (with_reducible refine (next_any g st _ hr0 (by omega)).mono ?_); rintro e w' ⟨rfl, hb'⟩; have hr1 := hr0.below hb'; have hb1 := hb'; clear hb'); have hs1 := hs0.step hlt hr0 (Fx.of_below hb1)) | (go_at_call 19; refine (contains_any blanks (sgn st.s) _ hs1.ok (by decide)).mono ?_; rintro e w' ⟨rfl, rfl⟩) | (go_at_call 21; refine (index_any braces (sgn st.s) _ hs2.ok (by decide)).mono ?_; rintro e w' ⟨rfl, rfl⟩) | ((go_at_call 20; (with_reducible refine (take_any g st n hn _ hr1 hne hf).mono ?_); rintro e w' ⟨rfl, hf', hr'⟩; have hr2 := hr'; have hf2 := hf'; clear hr' hf'); have hs2 := hs1.step hlt hr1 hf2; have t0 := hs2.t0; have t1 := hs2.t1; have t2 := hs2.t2; have t3 := hs2.t3; have s0 := hs2.s0; have s1 := hs2.s1; have s2 := hs2.s2; have s3 := hs2.s3; have fs := hs2.fs; have ft := hs2.ft)); exact one_end rfl (heap4 (heap_set hs2.res (by simp))) ⟨rfl, hs2.fx.then_below (by repeat (first | (with_reducible refine Below.setCell ?_ (by dsimp only; omega) _) | (with_reducible exact Below.refl _ _))), hr2.low hlt (by repeat (first | (with_reducible refine Below.setCell ?_ (by dsimp only; omega) _) | (with_reducible exact Below.refl _ _)))⟩

set_option maxHeartbeats 800000 in
theorem one_text_bad (g : Nat) (st : St) (n : Nat) (hn : n ≤ 100000) (w : World) (hW : WOk w) (hr : rdr w g st) (hf : st.Fine n) (hne : st.s ≠ []) (hc : Lib.contains blanks (sgn st.s) = false) (q2 : (sgn st.s == [35]) = false) (q3 : (sgn st.s == [123]) = false) (q4 : (sgn st.s == [125]) = false) (q5 : (sgn st.s == [59]) = false) (q6 : (sgn st.s == [34]) = true) (l c : Int) (HR : Hid (textF (st.take.s.length + 1) [] st.take = .bad l c)) :
    Calls Tryd.prog 10 #[.pointer (some ⟨g, 0, none⟩)] w (RPost (oneV st.l st.c) g w (.bad l c)) := by
  have hz := hf.size; have hlt := hr.lt; obtain ⟨W0, HW0, hr0, hs0⟩ := one_start hW hr; have k1 := fun o => cell_alloc' o hr.c1; have k2 := fun o => cell_alloc' o hr.c2
  have ht := (St.take_fine hf hne).1
  go_enter Tryd.func10, Tryd.ntmps10; go_wp2_with fail; rw [← show W0 = (w.alloc (.cells #[.int .i64 0, .string ⟨#[]⟩, .int .i64 0, .int .i64 0] 30)).alloc (.cells #[.int .i64 0, .string ⟨#[]⟩, .int .i64 st.l, .int .i64 st.c] 30) from HW0.out]
  go_wp2_with (first | ((go_at_call 18; (with_reducible refine (next_any g st _ hr0 (by omega)).mono ?_); rintro e w' ⟨rfl, hb'⟩; have hr1 := hr0.below hb'; have hb1 := hb'; clear hb'); have hs1 := hs0.step hlt hr0 (Fx.of_below hb1)) | (go_at_call 19; refine (contains_any blanks (sgn st.s) _ hs1.ok (by decide)).mono ?_; rintro e w' ⟨rfl, rfl⟩) | ((go_at_call 20; (with_reducible refine (take_any g st n hn _ hr1 hne hf).mono ?_); rintro e w' ⟨rfl, hf', hr'⟩; have hr2 := hr'; have hf2 := hf'; clear hr' hf'); have hs2 := hs1.step hlt hr1 hf2) | (go_at_call 22; (with_reducible refine (text_any g st.take n hn _ hs2.ok hr2 ht).mono ?_); rw [HR.out]; rintro e w' ⟨rfl, hf'⟩; have hf3 := hf'; clear hf'))
  exact ⟨rfl, rfl, hs2.fx.trans hf3⟩
set_option maxHeartbeats 800000 in
theorem one_text_ok (g : Nat) (st : St) (n : Nat) (hn : n ≤ 100000) (w : World) (hW : WOk w) (hr : rdr w g st) (hf : st.Fine n) (hne : st.s ≠ []) (hc : Lib.contains blanks (sgn st.s) = false) (q2 : (sgn st.s == [35]) = false) (q3 : (sgn st.s == [123]) = false) (q4 : (sgn st.s == [125]) = false) (q5 : (sgn st.s == [59]) = false) (q6 : (sgn st.s == [34]) = true) (x : List UInt8) (st1 : St) (HR : Hid (textF (st.take.s.length + 1) [] st.take = .ok x st1)) :
    Calls Tryd.prog 10 #[.pointer (some ⟨g, 0, none⟩)] w (RPost (oneV st.l st.c) g w (.ok (some ⟨2, x, st.l, st.c⟩) st1)) := by
  have hz := hf.size; have hlt := hr.lt; obtain ⟨W0, HW0, hr0, hs0⟩ := one_start hW hr; have k1 := fun o => cell_alloc' o hr.c1; have k2 := fun o => cell_alloc' o hr.c2
  have ht := (St.take_fine hf hne).1
  go_enter Tryd.func10, Tryd.ntmps10; go_wp2_with fail; rw [← show W0 = (w.alloc (.cells #[.int .i64 0, .string ⟨#[]⟩, .int .i64 0, .int .i64 0] 30)).alloc (.cells #[.int .i64 0, .string ⟨#[]⟩, .int .i64 st.l, .int .i64 st.c] 30) from HW0.out]
  go_wp2_with (first | ((go_at_call 18; (with_reducible refine (next_any g st _ hr0 (by omega)).mono ?_); rintro e w' ⟨rfl, hb'⟩; have hr1 := hr0.below hb'; have hb1 := hb'; clear hb'); have hs1 := hs0.step hlt hr0 (Fx.of_below hb1)) | (go_at_call 19; refine (contains_any blanks (sgn st.s) _ hs1.ok (by decide)).mono ?_; rintro e w' ⟨rfl, rfl⟩) | ((go_at_call 20; (with_reducible refine (take_any g st n hn _ hr1 hne hf).mono ?_); rintro e w' ⟨rfl, hf', hr'⟩; have hr2 := hr'; have hf2 := hf'; clear hr' hf'); have hs2 := hs1.step hlt hr1 hf2) | ((go_at_call 22; (with_reducible refine (text_any g st.take n hn _ hs2.ok hr2 ht).mono ?_); rw [HR.out]; rintro e w' ⟨rfl, hf', hr3⟩; have hf3 := hf'; clear hf'); have hs3 := hs2.step hlt hr2 hf3; have t0 := hs3.t0; have t1 := hs3.t1; have t2 := hs3.t2; have t3 := hs3.t3; have s0 := hs3.s0; have s1 := hs3.s1; have s2 := hs3.s2; have s3 := hs3.s3; have fs := hs3.fs; have ft := hs3.ft))
  exact one_end rfl (heap4 (heap_set (heap_set hs3.res (by simp)) (by simp))) ⟨rfl, hs3.fx.then_below (by repeat (first | (with_reducible refine Below.setCell ?_ (by dsimp only; omega) _) | (with_reducible exact Below.refl _ _))), hr3.low hlt (by repeat (first | (with_reducible refine Below.setCell ?_ (by dsimp only; omega) _) | (with_reducible exact Below.refl _ _)))⟩
set_option maxHeartbeats 800000 in
theorem one_word (g : Nat) (st : St) (n : Nat) (hn : n ≤ 100000) (w : World) (hW : WOk w) (hr : rdr w g st) (hf : st.Fine n) (hne : st.s ≠ []) (hc : Lib.contains blanks (sgn st.s) = false) (q2 : (sgn st.s == [35]) = false) (q3 : (sgn st.s == [123]) = false) (q4 : (sgn st.s == [125]) = false) (q5 : (sgn st.s == [59]) = false) (q6 : (sgn st.s == [34]) = false) (q7 : ((((sgn st.s).length : Nat) : Int) == 1) = true) (q8 : Lib.contains letters (sgn st.s) = true) :
    Calls Tryd.prog 10 #[.pointer (some ⟨g, 0, none⟩)] w (RPost (oneV st.l st.c) g w (.ok (some ⟨1, (wordF st).1, st.l, st.c⟩) (wordF st).2)) := by
  have hz := hf.size; have hlt := hr.lt; obtain ⟨W0, HW0, hr0, hs0⟩ := one_start hW hr; have k1 := fun o => cell_alloc' o hr.c1; have k2 := fun o => cell_alloc' o hr.c2
  have hsl2 : (sgn st.s).length ≤ n := by have := sgn_le st.s; omega
  go_enter Tryd.func10, Tryd.ntmps10; go_wp2_with fail; rw [← show W0 = (w.alloc (.cells #[.int .i64 0, .string ⟨#[]⟩, .int .i64 0, .int .i64 0] 30)).alloc (.cells #[.int .i64 0, .string ⟨#[]⟩, .int .i64 st.l, .int .i64 st.c] 30) from HW0.out]
  go_wp2_with (first | ((go_at_call 18; (with_reducible refine (next_any g st _ hr0 (by omega)).mono ?_); rintro e w' ⟨rfl, hb'⟩; have hr1 := hr0.below hb'; have hb1 := hb'; clear hb'); have hs1 := hs0.step hlt hr0 (Fx.of_below hb1)) | (go_at_call 19; refine (contains_any blanks (sgn st.s) _ hs1.ok (by decide)).mono ?_; rintro e w' ⟨rfl, rfl⟩) | (go_at_call 19; refine (contains_any letters (sgn st.s) _ hs1.ok (by decide)).mono ?_; rintro e w' ⟨rfl, rfl⟩) | ((go_at_call 23; (with_reducible refine (word_any g st n hn _ hr1 hf).mono ?_); rintro e w' ⟨rfl, hf', hr'⟩; have hr2 := hr'; have hf2 := hf'; clear hr' hf'); have hs2 := hs1.step hlt hr1 hf2; have t0 := hs2.t0; have t1 := hs2.t1; have t2 := hs2.t2; have t3 := hs2.t3; have s0 := hs2.s0; have s1 := hs2.s1; have s2 := hs2.s2; have s3 := hs2.s3; have fs := hs2.fs; have ft := hs2.ft))
  exact one_end rfl (heap4 (heap_set (heap_set hs2.res (by simp)) (by simp))) ⟨rfl, hs2.fx.then_below (by repeat (first | (with_reducible refine Below.setCell ?_ (by dsimp only; omega) _) | (with_reducible exact Below.refl _ _))), hr2.low hlt (by repeat (first | (with_reducible refine Below.setCell ?_ (by dsimp only; omega) _) | (with_reducible exact Below.refl _ _)))⟩
set_option maxHeartbeats 800000 in
theorem one_bad1 (g : Nat) (st : St) (n : Nat) (hn : n ≤ 100000) (w : World) (hW : WOk w) (hr : rdr w g st) (hf : st.Fine n) (hne : st.s ≠ []) (hc : Lib.contains blanks (sgn st.s) = false) (q2 : (sgn st.s == [35]) = false) (q3 : (sgn st.s == [123]) = false) (q4 : (sgn st.s == [125]) = false) (q5 : (sgn st.s == [59]) = false) (q6 : (sgn st.s == [34]) = false) (q7 : ((((sgn st.s).length : Nat) : Int) == 1) = true) (q8 : Lib.contains letters (sgn st.s) = false) :
    Calls Tryd.prog 10 #[.pointer (some ⟨g, 0, none⟩)] w (RPost (oneV st.l st.c) g w (.bad st.l st.c)) := by
  have hz := hf.size; have hlt := hr.lt; obtain ⟨W0, HW0, hr0, hs0⟩ := one_start hW hr; have k1 := fun o => cell_alloc' o hr.c1; have k2 := fun o => cell_alloc' o hr.c2
  have hsl2 : (sgn st.s).length ≤ n := by have := sgn_le st.s; omega
  go_enter Tryd.func10, Tryd.ntmps10; go_wp2_with fail; rw [← show W0 = (w.alloc (.cells #[.int .i64 0, .string ⟨#[]⟩, .int .i64 0, .int .i64 0] 30)).alloc (.cells #[.int .i64 0, .string ⟨#[]⟩, .int .i64 st.l, .int .i64 st.c] 30) from HW0.out]
  go_wp2_with (first | ((go_at_call 18; (with_reducible refine (next_any g st _ hr0 (by omega)).mono ?_); rintro e w' ⟨rfl, hb'⟩; have hr1 := hr0.below hb'; have hb1 := hb'; clear hb'); have hs1 := hs0.step hlt hr0 (Fx.of_below hb1)) | (go_at_call 19; refine (contains_any blanks (sgn st.s) _ hs1.ok (by decide)).mono ?_; rintro e w' ⟨rfl, rfl⟩) | (go_at_call 19; refine (contains_any letters (sgn st.s) _ hs1.ok (by decide)).mono ?_; rintro e w' ⟨rfl, rfl⟩) | (go_at_call 24; (with_reducible refine (fail_any g st _ hr1).mono ?_); rintro e w' ⟨rfl, rfl⟩))
  exact ⟨rfl, rfl, hs1.fx⟩
set_option maxHeartbeats 800000 in
theorem one_bad2 (g : Nat) (st : St) (n : Nat) (hn : n ≤ 100000) (w : World) (hW : WOk w) (hr : rdr w g st) (hf : st.Fine n) (hne : st.s ≠ []) (hc : Lib.contains blanks (sgn st.s) = false) (q2 : (sgn st.s == [35]) = false) (q3 : (sgn st.s == [123]) = false) (q4 : (sgn st.s == [125]) = false) (q5 : (sgn st.s == [59]) = false) (q6 : (sgn st.s == [34]) = false) (q7 : ((((sgn st.s).length : Nat) : Int) == 1) = false) :
    Calls Tryd.prog 10 #[.pointer (some ⟨g, 0, none⟩)] w (RPost (oneV st.l st.c) g w (.bad st.l st.c)) := by
  have hz := hf.size; have hlt := hr.lt; obtain ⟨W0, HW0, hr0, hs0⟩ := one_start hW hr; have k1 := fun o => cell_alloc' o hr.c1; have k2 := fun o => cell_alloc' o hr.c2
  have hsl2 : (sgn st.s).length ≤ n := by have := sgn_le st.s; omega
  go_enter Tryd.func10, Tryd.ntmps10; go_wp2_with fail; rw [← show W0 = (w.alloc (.cells #[.int .i64 0, .string ⟨#[]⟩, .int .i64 0, .int .i64 0] 30)).alloc (.cells #[.int .i64 0, .string ⟨#[]⟩, .int .i64 st.l, .int .i64 st.c] 30) from HW0.out]
  go_wp2_with (first | ((go_at_call 18; (with_reducible refine (next_any g st _ hr0 (by omega)).mono ?_); rintro e w' ⟨rfl, hb'⟩; have hr1 := hr0.below hb'; have hb1 := hb'; clear hb'); have hs1 := hs0.step hlt hr0 (Fx.of_below hb1)) | (go_at_call 19; refine (contains_any blanks (sgn st.s) _ hs1.ok (by decide)).mono ?_; rintro e w' ⟨rfl, rfl⟩) | (go_at_call 24; (with_reducible refine (fail_any g st _ hr1).mono ?_); rintro e w' ⟨rfl, rfl⟩))
  exact ⟨rfl, rfl, hs1.fx⟩

theorem one_any (g : Nat) (st : St) (n : Nat) (hn : n ≤ 100000) (w : World) (hW : WOk w) (hr : rdr w g st) (hf : st.Fine n) (hne : st.s ≠ []) : Calls Tryd.prog 10 #[.pointer (some ⟨g, 0, none⟩)] w (RPost (oneV st.l st.c) g w (oneF st)) := by
  by_cases h1 : Lib.contains blanks (sgn st.s) = true
  · rw [show oneF st = .ok none st.take from if_pos h1]
    exact one_blank g st n hn w hW hr hf hne h1
  · have hc : Lib.contains blanks (sgn st.s) = false := by simpa using h1
    by_cases h2 : sgn st.s = [35]
    · rw [show oneF st = .ok none (skipF (st.s.length + 1) st) from (if_neg h1).trans (if_pos h2)]
      exact one_note g st n hn w hW hr hf hne hc (beq_iff_eq.2 h2)
    · have q2 : (sgn st.s == [35]) = false := beq_eq_false_iff_ne.2 h2
      by_cases h3 : sgn st.s = [123] ∨ sgn st.s = [125] ∨ sgn st.s = [59]
      · rw [show oneF st = .ok (some ⟨3 + Lib.index braces (sgn st.s), [], st.l, st.c⟩) st.take from (if_neg h1).trans ((if_neg h2).trans (if_pos h3))]
        by_cases e1 : sgn st.s = [123]
        · exact one_open g st n hn w hW hr hf hne hc q2 (beq_iff_eq.2 e1)
        · by_cases e2 : sgn st.s = [125]
          · exact one_close g st n hn w hW hr hf hne hc q2 (beq_eq_false_iff_ne.2 e1) (beq_iff_eq.2 e2)
          · refine one_semi g st n hn w hW hr hf hne hc q2 (beq_eq_false_iff_ne.2 e1) (beq_eq_false_iff_ne.2 e2) (beq_iff_eq.2 ?_)
            rcases h3 with h | h | h
            · exact absurd h e1
            · exact absurd h e2
            · exact h
      · have q3 : (sgn st.s == [123]) = false := beq_eq_false_iff_ne.2 fun h => h3 (.inl h)
        have q4 : (sgn st.s == [125]) = false := beq_eq_false_iff_ne.2 fun h => h3 (.inr (.inl h))
        have q5 : (sgn st.s == [59]) = false := beq_eq_false_iff_ne.2 fun h => h3 (.inr (.inr h))
        by_cases h4 : sgn st.s = [34]
        · have q6 : (sgn st.s == [34]) = true := beq_iff_eq.2 h4
          have ht := (St.take_fine hf hne).1
          have hd0 : oneF st = match textF (st.s.length + 1) [] st.take with
              | .bad l c => .bad l c
              | .ok x st1 => .ok (some ⟨2, x, st.l, st.c⟩) st1 := (if_neg h1).trans ((if_neg h2).trans ((if_neg h3).trans (if_pos h4)))
          rw [textF_fuel (st.s.length + 1) (st.take.s.length + 1) [] st.take (by have := (St.take_fine hf hne).2; omega) (Nat.lt_succ_self _) n ht] at hd0
          rw [hd0]
          cases hR : textF (st.take.s.length + 1) [] st.take with
          | bad l c => exact one_text_bad g st n hn w hW hr hf hne hc q2 q3 q4 q5 q6 l c hR
          | ok x st1 => exact one_text_ok g st n hn w hW hr hf hne hc q2 q3 q4 q5 q6 x st1 hR
        · have q6 : (sgn st.s == [34]) = false := beq_eq_false_iff_ne.2 h4
          by_cases h5 : (sgn st.s).length = 1 ∧ Lib.contains letters (sgn st.s) = true
          · rw [show oneF st = .ok (some ⟨1, (wordF st).1, st.l, st.c⟩) (wordF st).2 from (if_neg h1).trans ((if_neg h2).trans ((if_neg h3).trans ((if_neg h4).trans (if_pos h5))))]
            exact one_word g st n hn w hW hr hf hne hc q2 q3 q4 q5 q6 (beq_iff_eq.2 (by have := h5.1; omega)) h5.2
          · rw [show oneF st = .bad st.l st.c from (if_neg h1).trans ((if_neg h2).trans ((if_neg h3).trans ((if_neg h4).trans (if_neg h5))))]
            by_cases h6 : (sgn st.s).length = 1
            · refine one_bad1 g st n hn w hW hr hf hne hc q2 q3 q4 q5 q6 (beq_iff_eq.2 (by omega)) ?_
              cases hx : Lib.contains letters (sgn st.s) with
              | false => rfl
              | true => exact absurd ⟨h6, hx⟩ h5
            · exact one_bad2 g st n hn w hW hr hf hne hc q2 q3 q4 q5 q6 (beq_eq_false_iff_ne.2 (by omega))
end Go.Proofs.YtegbclolpppajaaDoor
