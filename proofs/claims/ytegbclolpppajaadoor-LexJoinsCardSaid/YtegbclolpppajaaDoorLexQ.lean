/- Plain laws of the reader of words: what stands behind a newline changes nothing ahead of it; further down is as above. -/
import Derived.Test.YtegbclolpppajaaDoorLexP
set_option linter.unusedVariables false
namespace Go.Proofs.YtegbclolpppajaaDoor

theorem decodeN_cut1 (n b0 b1 b2 b3 c1 c2 c3 : Nat) (h1 : b1 / 64 ≠ 2) : Lib.decodeN n b0 b1 b2 b3 = Lib.decodeN 1 b0 c1 c2 c3 := by
  unfold Lib.decodeN
  simp [h1]
theorem decodeN_cut2 (n b0 b1 b2 b3 c2 c3 : Nat) (hn : 1 < n) (h2 : b2 / 64 ≠ 2) : Lib.decodeN n b0 b1 b2 b3 = Lib.decodeN 2 b0 b1 c2 c3 := by
  unfold Lib.decodeN
  simp [h2, hn]
theorem decodeN_cut3 (n b0 b1 b2 b3 c3 : Nat) (hn : 2 < n) (h3 : b3 / 64 ≠ 2) : Lib.decodeN n b0 b1 b2 b3 = Lib.decodeN 3 b0 b1 b2 c3 := by
  unfold Lib.decodeN
  simp [h3, hn, show 1 < n from by omega]
theorem decodeN_four (n m b0 b1 b2 b3 : Nat) (hn : 3 < n) (hm : 3 < m) : Lib.decodeN n b0 b1 b2 b3 = Lib.decodeN m b0 b1 b2 b3 := by
  unfold Lib.decodeN
  simp [hn, hm, show 1 < n from by omega, show 2 < n from by omega, show 1 < m from by omega, show 2 < m from by omega]

/-- A newline behind a text that isn't empty changes nothing of its first sign. -/
theorem decodeL_nl (s t : List UInt8) (h : s ≠ []) : Lib.decodeL (s ++ 10 :: t) = Lib.decodeL s := by
  rw [Lib.decodeL_N, Lib.decodeL_N]
  match s, h with
  | [a], _ => exact decodeN_cut1 _ _ _ _ _ _ _ _ (show (10 : UInt8).toNat / 64 ≠ 2 by decide)
  | [a, b], _ => exact decodeN_cut2 _ _ _ _ _ _ _ (by simp) (show (10 : UInt8).toNat / 64 ≠ 2 by decide)
  | [a, b, c], _ => exact decodeN_cut3 _ _ _ _ _ _ (by simp) (show (10 : UInt8).toNat / 64 ≠ 2 by decide)
  | a :: b :: c :: d :: l, _ => exact decodeN_four _ _ _ _ _ _ (by simp) (by simp)

theorem sgn_nl (s t : List UInt8) (h : s ≠ []) : sgn (s ++ 10 :: t) = sgn s := by
  unfold sgn
  rw [decodeL_nl s t h, List.take_append_of_le_length (Lib.decodeL_le s h)]
theorem sgn_ascii (b : UInt8) (t : List UInt8) (h : b.toNat < 128) : sgn (b :: t) = [b] := by
  unfold sgn
  rw [Lib.decodeL_ascii b t h]
  rfl
theorem sgn_ten (t : List UInt8) : sgn (10 :: t) = [10] := sgn_ascii 10 t (by decide)

def St.app (u : List UInt8) (st : St) : St := ⟨st.s ++ u, st.l, st.c⟩
def Res.map {α β : Type} (f : α → β) (g : St → St) (p : Int → Int) : Res α → Res β
  | .ok a st => .ok (f a) (g st)
  | .bad l c => .bad (p l) c

theorem take_app (t : List UInt8) (st : St) (h : st.s ≠ []) : (st.app (10 :: t)).take = st.take.app (10 :: t) := by
  have hl := sgn_le st.s
  unfold St.take St.app
  dsimp only
  rw [sgn_nl st.s t h]
  split <;> simp only [List.drop_append_of_le_length hl]

theorem digit_app (t : List UInt8) (st : St) : digitF (st.app (10 :: t)) = (digitF st).map id (St.app (10 :: t)) id := by
  by_cases h : st.s = []
  · have h1 : digitF st = .bad st.l st.c := if_pos (.inl h)
    have h2 : digitF (st.app (10 :: t)) = .bad st.l st.c := by
      refine if_pos (.inr (.inr ?_))
      show Lib.index hexs (sgn (st.s ++ 10 :: t)) < 0
      rw [h, List.nil_append, sgn_ten]
      decide
    rw [h1, h2]
    rfl
  · unfold digitF
    rw [take_app t st h, show (st.app (10 :: t)).s = st.s ++ 10 :: t from rfl, sgn_nl st.s t h]
    by_cases hc : 1 < (sgn st.s).length ∨ Lib.index hexs (sgn st.s) < 0
    · rw [if_pos (.inr hc), if_pos (.inr hc)]; rfl
    · rw [if_neg (by simp [h]; simpa using hc), if_neg (by simp [h]; simpa using hc)]; rfl

theorem escape_app (t : List UInt8) (st : St) : escapeF (st.app (10 :: t)) = (escapeF st).map id (St.app (10 :: t)) id := by
  by_cases h : st.s = []
  · have h0 : sgn st.s = [] := by rw [h, sgn_nil]
    have h1 : escapeF st = .bad st.l st.c := by
      unfold escapeF
      rw [h0, if_neg (by simp), if_pos (.inl rfl)]
    have h2 : escapeF (st.app (10 :: t)) = .bad st.l st.c := by
      unfold escapeF
      rw [show (st.app (10 :: t)).s = 10 :: t from by unfold St.app; rw [h]; rfl, sgn_ten, if_neg (by decide), if_pos (.inr (by decide))]
      rfl
    rw [h1, h2]
    rfl
  · unfold escapeF
    rw [take_app t st h, show (st.app (10 :: t)).s = st.s ++ 10 :: t from rfl, sgn_nl st.s t h, digit_app]
    by_cases hx : sgn st.s = [120]
    · rw [if_pos hx, if_pos hx]
      cases digitF st.take with
      | bad l c => rfl
      | ok a st1 =>
        dsimp only [Res.map]
        rw [digit_app]
        cases digitF st1 with
        | bad l c => rfl
        | ok b st2 => rfl
    · rw [if_neg hx, if_neg hx]
      split <;> rfl

theorem text_app (t : List UInt8) : ∀ (f : Nat) (out : List UInt8) (st : St), textF f out (st.app (10 :: t)) = (textF f out st).map id (St.app (10 :: t)) id := by
  intro f
  induction f with
  | zero => intro out st; rfl
  | succ f ih =>
    intro out st
    by_cases h : st.s = []
    · have h0 : sgn st.s = [] := by rw [h, sgn_nil]
      have h1 : textF (f + 1) out st = .bad st.l st.c := if_pos (.inl h0)
      have h2 : textF (f + 1) out (st.app (10 :: t)) = .bad st.l st.c := by
        refine if_pos (.inr (.inl ?_))
        show sgn (st.s ++ 10 :: t) = [10]
        rw [h, List.nil_append, sgn_ten]
      rw [h1, h2]
      rfl
    · have hs : (st.app (10 :: t)).s = st.s ++ 10 :: t := rfl
      unfold textF
      rw [take_app t st h, hs, sgn_nl st.s t h]
      split
      · rfl
      · split
        · rfl
        · split
          · rw [escape_app]
            cases escapeF st.take with
            | bad l c => rfl
            | ok x st1 => exact ih _ _
          · exact ih _ _

theorem dropWhile_nl (p : UInt8 → Bool) (t : List UInt8) (h : p 10 = false) : ∀ s : List UInt8, (s ++ 10 :: t).dropWhile p = s.dropWhile p ++ 10 :: t := by
  intro s
  induction s with
  | nil => simp [List.dropWhile, h]
  | cons b s ih =>
    simp only [List.cons_append, List.dropWhile_cons]
    split
    · exact ih
    · rfl
theorem trim_nl (s t : List UInt8) : Lib.trimLeftS (s ++ 10 :: t) letters = Lib.trimLeftS s letters ++ 10 :: t := dropWhile_nl _ t (by decide) s
theorem trimS_le (s : List UInt8) : (Lib.trimLeftS s letters).length ≤ s.length := (List.dropWhile_sublist (p := (letters.contains ·)) (l := s)).length_le

theorem word_app (t : List UInt8) (st : St) : wordF (st.app (10 :: t)) = ((wordF st).1, (wordF st).2.app (10 :: t)) := by
  have hle := trimS_le st.s
  unfold wordF St.app
  dsimp only
  rw [trim_nl]
  have e : (st.s ++ 10 :: t).length - (Lib.trimLeftS st.s letters ++ 10 :: t).length = st.s.length - (Lib.trimLeftS st.s letters).length := by
    simp only [List.length_append]; omega
  have e2 : (((st.s ++ 10 :: t).length : Nat) : Int) - (((Lib.trimLeftS st.s letters ++ 10 :: t).length : Nat) : Int) = (st.s.length : Int) - ((Lib.trimLeftS st.s letters).length : Int) := by
    simp only [List.length_append]; omega
  rw [e, e2, List.take_append_of_le_length (by omega)]

theorem skip_app (t : List UInt8) : ∀ (f : Nat) (st : St), skipF f (st.app (10 :: t)) = (skipF f st).app (10 :: t) := by
  intro f
  induction f with
  | zero => intro st; rfl
  | succ f ih =>
    intro st
    by_cases h : st.s = []
    · have h1 : skipF (f + 1) st = st := if_pos (.inl h)
      have h2 : skipF (f + 1) (st.app (10 :: t)) = st.app (10 :: t) := by
        refine if_pos (.inr ?_)
        show sgn (st.s ++ 10 :: t) = [10]
        rw [h, List.nil_append, sgn_ten]
      rw [h1, h2]
    · unfold skipF
      rw [take_app t st h, show (st.app (10 :: t)).s = st.s ++ 10 :: t from rfl, sgn_nl st.s t h]
      by_cases hx : sgn st.s = [10]
      · rw [if_pos (.inr hx), if_pos (.inr hx)]
      · rw [if_neg (by simp [h, hx]), if_neg (by simp [h, hx])]
        exact ih _

/-! ### Each step takes something -/
theorem take_len (st : St) (h : st.s ≠ []) : st.take.s.length < st.s.length := by
  have := sgn_length st.s h
  unfold St.take
  split <;> simp only [List.length_drop] <;> omega
theorem digit_ok {st st' : St} {a : Int} (h : digitF st = .ok a st') : st' = st.take ∧ st.s ≠ [] := by
  unfold digitF at h
  split at h
  · cases h
  · rename_i hn
    simp only [not_or] at hn
    injection h with h1 h2
    exact ⟨h2.symm, hn.1⟩
theorem escape_len {st st' : St} {x : List UInt8} (h : escapeF st = .ok x st') : st'.s.length < st.s.length := by
  unfold escapeF at h
  split at h
  · rename_i hx
    have hne : st.s ≠ [] := by
      intro h'
      rw [h', sgn_nil] at hx
      cases hx
    have h1 := take_len st hne
    split at h
    · cases h
    · rename_i a st1 hd1
      obtain ⟨e1, hne1⟩ := digit_ok hd1
      have h2 := take_len st.take hne1
      rw [← e1] at h2
      split at h
      · cases h
      · rename_i b st2 hd2
        obtain ⟨e2, hne2⟩ := digit_ok hd2
        have h3 := take_len st1 hne2
        rw [← e2] at h3
        injection h with h4 h5
        rw [← h5]
        omega
  · split at h
    · cases h
    · rename_i hn
      injection h with h4 h5
      rw [← h5]
      exact take_len st (fun h' => hn (.inl ((sgn_eq_nil _).2 h')))
theorem text_fuel : ∀ (f f' : Nat) (out : List UInt8) (st : St), st.s.length < f → st.s.length < f' → textF f out st = textF f' out st := by
  intro f
  induction f with
  | zero => intro f' out st h; omega
  | succ f ih =>
    intro f' out st h h'
    obtain ⟨f', rfl⟩ : ∃ m, f' = m + 1 := ⟨f' - 1, by omega⟩
    unfold textF
    split
    · rfl
    · rename_i h1
      simp only [not_or] at h1
      have hne : st.s ≠ [] := fun e => h1.1 ((sgn_eq_nil _).2 e)
      have ht := take_len st hne
      split
      · rfl
      · split
        · cases hes : escapeF st.take with
          | bad l c => rfl
          | ok x st1 =>
            have := escape_len hes
            exact ih _ _ _ (by omega) (by omega)
        · exact ih _ _ _ (by omega) (by omega)
theorem skip_fuel : ∀ (f f' : Nat) (st : St), st.s.length < f → st.s.length < f' → skipF f st = skipF f' st := by
  intro f
  induction f with
  | zero => intro f' st h; omega
  | succ f ih =>
    intro f' st h h'
    obtain ⟨f', rfl⟩ : ∃ m, f' = m + 1 := ⟨f' - 1, by omega⟩
    unfold skipF
    split
    · rfl
    · rename_i h1
      have ht := take_len st (not_or.1 h1).1
      exact ih _ _ (by omega) (by omega)

theorem one_app (t : List UInt8) (st : St) (h : st.s ≠ []) : oneF (st.app (10 :: t)) = (oneF st).map id (St.app (10 :: t)) id := by
  have hs : (st.app (10 :: t)).s = st.s ++ 10 :: t := rfl
  have htl := take_len st h
  unfold oneF
  rw [take_app t st h, hs, sgn_nl st.s t h, word_app, text_app, skip_app,
    skip_fuel ((st.s ++ 10 :: t).length + 1) (st.s.length + 1) st (by simp; omega) (by omega),
    text_fuel ((st.s ++ 10 :: t).length + 1) (st.s.length + 1) [] st.take (by simp; omega) (by omega)]
  split
  · rfl
  split
  · rfl
  split
  · rfl
  split
  · cases textF (st.s.length + 1) [] st.take <;> rfl
  split
  · rfl
  · rfl

theorem skip_len : ∀ (f : Nat) (st : St), (skipF f st).s.length ≤ st.s.length := by
  intro f
  induction f with
  | zero => intro st; exact Nat.le_refl _
  | succ f ih =>
    intro st
    unfold skipF
    split
    · exact Nat.le_refl _
    · rename_i h
      have := take_len st (not_or.1 h).1
      have := ih st.take
      omega
theorem text_len : ∀ (f : Nat) (out : List UInt8) (st : St) (x : List UInt8) (st' : St), textF f out st = .ok x st' → st'.s.length ≤ st.s.length := by
  intro f
  induction f with
  | zero => intro out st x st' h; cases h
  | succ f ih =>
    intro out st x st' h
    unfold textF at h
    split at h
    · cases h
    · rename_i h1
      simp only [not_or] at h1
      have hne : st.s ≠ [] := fun e => h1.1 ((sgn_eq_nil _).2 e)
      have ht := take_len st hne
      split at h
      · injection h with e1 e2
        rw [← e2]
        omega
      · split at h
        · cases hes : escapeF st.take with
          | bad l c => rw [hes] at h; cases h
          | ok y st1 =>
            rw [hes] at h
            have h2 := escape_len hes
            have h3 := ih _ _ _ _ h
            omega
        · have h3 := ih _ _ _ _ h
          omega
theorem index_mem (x : UInt8) : ∀ l : List UInt8, 0 ≤ Lib.index l [x] → x ∈ l := by
  intro l
  induction l with
  | nil => intro h; simp [Lib.index] at h
  | cons b l ih =>
    intro h
    unfold Lib.index at h
    by_cases hb : b = x
    · rw [hb]; exact List.mem_cons_self
    · rw [if_neg (by simp [List.isPrefixOf]; exact fun e => hb e.symm)] at h
      split at h
      · simp at h
      · rename_i hne
        simp only [beq_iff_eq] at hne
        refine List.mem_cons_of_mem _ (ih ?_)
        have : ∀ a b : List UInt8, -1 ≤ Lib.index a b := by
          intro a b
          induction a with
          | nil => unfold Lib.index; split <;> decide
          | cons y a ih => unfold Lib.index; split; decide; split <;> omega
        have := this l [x]
        omega
/-- A text that begins with a letter. -/
theorem letter_first {st : St} (h : (sgn st.s).length = 1 ∧ Lib.contains letters (sgn st.s) = true) : ∃ x l, st.s = x :: l ∧ letters.contains x = true := by
  obtain ⟨h1, h2⟩ := h
  cases hs : st.s with
  | nil => rw [hs, sgn_nil] at h1; cases h1
  | cons x l =>
    refine ⟨x, l, rfl, ?_⟩
    have hx : sgn st.s = [x] := by
      rw [hs] at h1 ⊢
      unfold sgn at h1 ⊢
      have := Lib.decodeL_width (x :: l)
      obtain ⟨k, hk⟩ : ∃ k, (Lib.decodeL (x :: l)).2 = k + 1 := ⟨(Lib.decodeL (x :: l)).2 - 1, by omega⟩
      rw [hk] at h1 ⊢
      simp only [List.take_succ_cons, List.length_cons] at h1 ⊢
      rw [List.eq_nil_of_length_eq_zero (show (l.take k).length = 0 by omega)]
    rw [hx] at h2
    unfold Lib.contains at h2
    simpa using index_mem x letters (of_decide_eq_true h2)
theorem one_len {st st1 : St} {o : Option Tk} (h : oneF st = .ok o st1) (h0 : st.s ≠ []) : st1.s.length < st.s.length := by
  have ht := take_len st h0
  unfold oneF at h
  split at h
  · injection h with _ e; rw [← e]; exact ht
  split at h
  · rename_i h1
    injection h with _ e; rw [← e]
    unfold skipF
    rw [if_neg (by rw [h1]; simp [h0])]
    have := skip_len st.s.length st.take
    omega
  split at h
  · injection h with _ e; rw [← e]; exact ht
  split at h
  · split at h
    · cases h
    · rename_i x st2 hx
      injection h with _ e; rw [← e]
      have := text_len _ _ _ _ _ hx
      omega
  split at h
  · rename_i hw
    injection h with _ e; rw [← e]
    obtain ⟨x, l, hs, hx⟩ := letter_first hw
    have : Lib.trimLeftS (x :: l) letters = Lib.trimLeftS l letters := by
      unfold Lib.trimLeftS
      rw [List.dropWhile_cons, if_pos hx]
    have hle := trimS_le l
    show (Lib.trimLeftS st.s letters).length < _
    rw [hs, this]
    simp
    omega
  · cases h
theorem all_fuel : ∀ (f f' : Nat) (out : List Tk) (st : St), st.s.length < f → st.s.length < f' → allF f out st = allF f' out st := by
  intro f
  induction f with
  | zero => intro f' out st h; omega
  | succ f ih =>
    intro f' out st h h'
    obtain ⟨f', rfl⟩ : ∃ m, f' = m + 1 := ⟨f' - 1, by omega⟩
    unfold allF
    split
    · rfl
    · rename_i h0
      cases h1 : oneF st with
      | bad l c => rfl
      | ok o st1 =>
        have := one_len h1 h0
        cases o with
        | none => exact ih _ _ _ (by omega) (by omega)
        | some t => exact ih _ _ _ (by omega) (by omega)

/-- All tokens of a text behind which a newline and another one stand. -/
theorem all_app (t : List UInt8) : ∀ (f : Nat) (out : List Tk) (st : St), st.s.length < f →
    (∀ l c, allF f out st = .bad l c → ∀ f', st.s.length + t.length + 1 < f' → allF f' out (st.app (10 :: t)) = .bad l c) ∧
    (∀ ts st', allF f out st = .ok ts st' → ∃ out', ts = out' ++ [⟨0, [], st'.l, st'.c⟩] ∧ ∀ f', st.s.length + t.length + 1 < f' → allF f' out (st.app (10 :: t)) = allF f' out' ⟨t, st'.l + 1, 1⟩) := by
  intro f
  induction f with
  | zero => intro out st h; omega
  | succ f ih =>
    intro out st hf
    by_cases h : st.s = []
    · have h1 : allF (f + 1) out st = .ok (out ++ [⟨0, [], st.l, st.c⟩]) st := if_pos h
      rw [h1]
      refine ⟨fun l c h => (by cases h), fun ts st' h2 => ?_⟩
      injection h2 with e1 e2
      rw [← e1, ← e2]
      refine ⟨out, rfl, fun f' hf' => ?_⟩
      obtain ⟨f', rfl⟩ : ∃ m, f' = m + 1 := ⟨f' - 1, by omega⟩
      have ha : (st.app (10 :: t)).s = 10 :: t := by unfold St.app; rw [h]; rfl
      have hone : oneF (st.app (10 :: t)) = .ok none ⟨t, st.l + 1, 1⟩ := by
        unfold oneF
        rw [ha, sgn_ten, if_pos (by decide)]
        unfold St.take
        rw [ha, sgn_ten, if_pos rfl]
        rfl
      have h3 : allF (f' + 1) out (st.app (10 :: t)) = allF f' out ⟨t, st.l + 1, 1⟩ := by
        rw [allF, if_neg (by rw [ha]; simp), hone]
      rw [h3]
      exact all_fuel _ _ _ _ (by dsimp only; omega) (by dsimp only; omega)
    · have ho := one_app t st h
      have hgo : allF (f + 1) out st = match oneF st with
        | .bad l c => .bad l c
        | .ok none st1 => allF f out st1
        | .ok (some t) st1 => allF f (out ++ [t]) st1 := if_neg h
      have hgo2 : ∀ f', allF (f' + 1) out (st.app (10 :: t)) = match oneF (st.app (10 :: t)) with
        | .bad l c => .bad l c
        | .ok none st1 => allF f' out st1
        | .ok (some t) st1 => allF f' (out ++ [t]) st1 := fun f' => if_neg (by unfold St.app; simp)
      rw [hgo]
      cases h1 : oneF st with
      | bad l c =>
        rw [h1] at ho
        refine ⟨fun l' c' h => ?_, fun ts st' h => by cases h⟩
        intro f' hf'
        obtain ⟨f', rfl⟩ : ∃ m, f' = m + 1 := ⟨f' - 1, by omega⟩
        rw [hgo2, ho]
        exact h
      | ok o st1 =>
        rw [h1] at ho
        have hl := one_len h1 h
        have key : ∀ (out1 : List Tk), (∀ f', allF (f' + 1) out (st.app (10 :: t)) = allF f' out1 (st1.app (10 :: t))) →
            (∀ l c, allF f out1 st1 = .bad l c → ∀ f', st.s.length + t.length + 1 < f' → allF f' out (st.app (10 :: t)) = .bad l c) ∧
            (∀ ts st', allF f out1 st1 = .ok ts st' → ∃ out', ts = out' ++ [⟨0, [], st'.l, st'.c⟩] ∧ ∀ f', st.s.length + t.length + 1 < f' → allF f' out (st.app (10 :: t)) = allF f' out' ⟨t, st'.l + 1, 1⟩) := by
          intro out1 hstep
          obtain ⟨i1, i2⟩ := ih out1 st1 (by omega)
          refine ⟨fun l c h f' hf' => ?_, fun ts st' h => ?_⟩
          · obtain ⟨f', rfl⟩ : ∃ m, f' = m + 1 := ⟨f' - 1, by omega⟩
            rw [hstep]
            exact i1 l c h f' (by omega)
          · obtain ⟨out', e, h2⟩ := i2 ts st' h
            refine ⟨out', e, fun f' hf' => ?_⟩
            obtain ⟨f', rfl⟩ : ∃ m, f' = m + 1 := ⟨f' - 1, by omega⟩
            rw [hstep, h2 f' (by omega)]
            exact all_fuel _ _ _ _ (by dsimp only; omega) (by dsimp only; omega)
        cases o with
        | none => exact key out fun f' => by rw [hgo2, ho]; rfl
        | some tk => exact key (out ++ [tk]) fun f' => by rw [hgo2, ho]; rfl
end Go.Proofs.YtegbclolpppajaaDoor
