/- Where tokens stand: they rise, what is wrong lies within the text, and further down is further down. -/
import Derived.Test.YtegbclolpppajaaDoorLexQ
namespace Go.Proofs.YtegbclolpppajaaDoor

/-! ### Further down -/
def St.sh (d : Int) (st : St) : St := ⟨st.s, st.l + d, st.c⟩
def Tk.sh (d : Int) (t : Tk) : Tk := ⟨t.kind, t.text, t.l + d, t.c⟩
theorem take_sh (d : Int) (st : St) : (st.sh d).take = st.take.sh d := by
  unfold St.take St.sh
  dsimp only
  split
  · rw [show st.l + d + 1 = st.l + 1 + d from by omega]
  · rfl
theorem digit_sh (d : Int) (st : St) : digitF (st.sh d) = (digitF st).map id (St.sh d) (· + d) := by
  have e1 : (st.sh d).s = st.s := rfl
  unfold digitF
  rw [e1, take_sh]
  split <;> rfl
theorem escape_sh (d : Int) (st : St) : escapeF (st.sh d) = (escapeF st).map id (St.sh d) (· + d) := by
  have e1 : (st.sh d).s = st.s := rfl
  unfold escapeF
  rw [e1, take_sh]
  split
  · rw [digit_sh]
    cases digitF st.take with
    | bad l c => rfl
    | ok a st1 =>
      show (match digitF (st1.sh d) with | .bad l c => Res.bad l c | .ok b st2 => .ok [UInt8.ofNat (16 * a + b).toNat] st2) = _
      rw [digit_sh]
      show _ = Res.map id (St.sh d) (· + d) (match digitF st1 with | .bad l c => Res.bad l c | .ok b st2 => .ok [UInt8.ofNat (16 * a + b).toNat] st2)
      cases digitF st1 <;> rfl
  · split <;> rfl
theorem text_sh (d : Int) : ∀ (f : Nat) (out : List UInt8) (st : St), textF f out (st.sh d) = (textF f out st).map id (St.sh d) (· + d) := by
  intro f
  induction f with
  | zero => intro out st; rfl
  | succ f ih =>
    intro out st
    have e1 : (st.sh d).s = st.s := rfl
    unfold textF
    rw [e1, take_sh]
    split
    · rfl
    · split
      · rfl
      · split
        · rw [escape_sh]
          cases escapeF st.take with
          | bad l c => rfl
          | ok x st1 => exact ih _ _
        · exact ih _ _
theorem word_sh (d : Int) (st : St) : wordF (st.sh d) = ((wordF st).1, (wordF st).2.sh d) := rfl
theorem skip_sh (d : Int) : ∀ (f : Nat) (st : St), skipF f (st.sh d) = (skipF f st).sh d := by
  intro f
  induction f with
  | zero => intro st; rfl
  | succ f ih =>
    intro st
    have e1 : (st.sh d).s = st.s := rfl
    unfold skipF
    rw [e1, take_sh]
    split
    · rfl
    · exact ih _
theorem one_sh (d : Int) (st : St) : oneF (st.sh d) = (oneF st).map (Option.map (Tk.sh d)) (St.sh d) (· + d) := by
  have e1 : (st.sh d).s = st.s := rfl
  unfold oneF
  rw [e1, take_sh, word_sh, skip_sh, text_sh]
  split
  · rfl
  split
  · rfl
  split
  · rfl
  split
  · cases textF (st.s.length + 1) [] st.take <;> rfl
  split <;> rfl
theorem all_sh (d : Int) (pre : List Tk) : ∀ (f : Nat) (out : List Tk) (st : St), allF f (pre ++ out.map (Tk.sh d)) (st.sh d) = (allF f out st).map (fun ts => pre ++ ts.map (Tk.sh d)) (St.sh d) (· + d) := by
  intro f
  induction f with
  | zero => intro out st; rfl
  | succ f ih =>
    intro out st
    have e1 : (st.sh d).s = st.s := rfl
    unfold allF
    rw [e1]
    split
    · show _ = Res.ok (pre ++ (out ++ [_]).map (Tk.sh d)) _
      rw [List.map_append, ← List.append_assoc]
      rfl
    · rw [one_sh]
      cases oneF st with
      | bad l c => rfl
      | ok o st1 =>
        cases o with
        | none => exact ih _ _
        | some t =>
          have := ih (out ++ [t]) st1
          rw [List.map_append, ← List.append_assoc] at this
          exact this

/-! ### Lines -/
/-- How many newlines stand in a text. -/
def lns : Nat → List UInt8 → Int
  | 0, _ => 0
  | f + 1, s => if s = [] then 0 else (if sgn s = [10] then 1 else 0) + lns f (s.drop (sgn s).length)
theorem lns_fuel : ∀ (f f' : Nat) (s : List UInt8), s.length < f → s.length < f' → lns f s = lns f' s := by
  intro f
  induction f with
  | zero => intro f' s h; omega
  | succ f ih =>
    intro f' s h h'
    obtain ⟨f', rfl⟩ : ∃ m, f' = m + 1 := ⟨f' - 1, by omega⟩
    unfold lns
    split
    · rfl
    · rename_i hne
      have := sgn_length s hne
      rw [ih f' _ (by rw [List.length_drop]; omega) (by rw [List.length_drop]; omega)]
theorem lns_nonneg : ∀ (f : Nat) (s : List UInt8), 0 ≤ lns f s := by
  intro f
  induction f with
  | zero => intro s; exact Int.le_refl _
  | succ f ih =>
    intro s
    unfold lns
    have := ih (s.drop (sgn s).length)
    split
    · omega
    · split <;> omega
/-- The last line of a text, from a place on. -/
def St.lst (st : St) : Int := st.l + lns (st.s.length + 1) st.s
theorem lst_ge (st : St) : st.l ≤ st.lst := by
  have := lns_nonneg (st.s.length + 1) st.s
  unfold St.lst
  omega
theorem lst_take (st : St) (h : st.s ≠ []) : st.take.lst = st.lst := by
  have hl := sgn_length st.s h
  have e : lns (st.s.length + 1) st.s = (if sgn st.s = [10] then 1 else 0) + lns ((st.s.drop (sgn st.s).length).length + 1) (st.s.drop (sgn st.s).length) := by
    rw [lns, if_neg h, lns_fuel st.s.length _ _ (by rw [List.length_drop]; omega) (Nat.lt_succ_self _)]
  unfold St.lst
  rw [e]
  unfold St.take
  split
  · dsimp only
    omega
  · dsimp only
    omega

/-- From one place on to another one. -/
structure Fwd (a b : St) : Prop where
  ln : b.lst = a.lst
  le : a.l < b.l ∨ a.l = b.l ∧ a.c ≤ b.c
  c1 : 1 ≤ a.c → 1 ≤ b.c
def Bef (a b : St) : Prop := a.l < b.l ∨ a.l = b.l ∧ a.c < b.c
theorem Fwd.refl (a : St) : Fwd a a := ⟨rfl, .inr ⟨rfl, Int.le_refl _⟩, id⟩
theorem Fwd.trans {a b c : St} (h : Fwd a b) (k : Fwd b c) : Fwd a c :=
  ⟨k.ln.trans h.ln, by have := h.le; have := k.le; omega, fun x => k.c1 (h.c1 x)⟩
theorem Bef.fwd {a b c : St} (h : Bef a b) (k : Fwd b c) : Bef a c := by
  have := k.le
  unfold Bef at h ⊢
  omega
/-- A wrong place behind a place. -/
structure Off (a : St) (l c : Int) : Prop where
  lo : a.l ≤ l
  hi : l ≤ a.lst
  c1 : 1 ≤ a.c → 1 ≤ c
theorem Off.here (a : St) : Off a a.l a.c := ⟨Int.le_refl _, lst_ge a, id⟩
theorem Off.fwd {a b : St} {l c : Int} (h : Fwd a b) (k : Off b l c) : Off a l c :=
  ⟨by have := h.le; have := k.lo; omega, by have := h.ln; have := k.hi; omega, fun x => k.c1 (h.c1 x)⟩
theorem take_fwd (st : St) (h : st.s ≠ []) : Fwd st st.take ∧ Bef st st.take := by
  refine ⟨⟨lst_take st h, ?_, ?_⟩, ?_⟩
  · unfold St.take; split
    · left; dsimp only; omega
    · right; dsimp only; omega
  · intro h1; unfold St.take; split <;> dsimp only <;> omega
  · unfold St.take Bef; split
    · left; dsimp only; omega
    · right; dsimp only; omega
def Res.From {α : Type} (a : St) : Res α → Prop
  | .ok _ st' => Fwd a st'
  | .bad l c => Off a l c
theorem Res.From.on {α : Type} {a b : St} {r : Res α} (h : Fwd a b) (k : r.From b) : r.From a := by
  cases r with
  | ok x st => exact h.trans k
  | bad l c => exact Off.fwd h k
def Res.One (st : St) : Res (Option Tk) → Prop
  | .ok o st' => Fwd st st' ∧ Bef st st' ∧ (∀ t, o = some t → t.l = st.l ∧ t.c = st.c ∧ t.kind ≠ 0)
  | .bad l c => Off st l c
def TLt (a b : Tk) : Prop := a.l < b.l ∨ a.l = b.l ∧ a.c < b.c
def Res.Rise (st : St) : Res (List Tk) → Prop
  | .ok ts st' => ts.Pairwise TLt ∧ Fwd st st'
  | .bad l c => Off st l c
theorem Res.Rise.on {a b : St} {r : Res (List Tk)} (h : Fwd a b) (k : r.Rise b) : r.Rise a := by
  cases r with
  | ok x st => exact ⟨k.1, h.trans k.2⟩
  | bad l c => exact Off.fwd h k
theorem digit_fwd (st : St) : (digitF st).From st := by
  cases h : digitF st with
  | ok a st' =>
    obtain ⟨e, hne⟩ := digit_ok h
    rw [e]
    exact (take_fwd st hne).1
  | bad l c =>
    unfold digitF at h
    split at h
    · injection h with e1 e2
      rw [← e1, ← e2]
      exact .here st
    · cases h
theorem sgn_some {s : List UInt8} {x : UInt8} (h : sgn s = [x]) : s ≠ [] := by
  intro e
  rw [e, sgn_nil] at h
  cases h
theorem escape_fwd (st : St) : (escapeF st).From st := by
  unfold escapeF
  split
  · rename_i hx
    have h0 := take_fwd st (sgn_some hx)
    refine Res.From.on h0.1 ?_
    have h1 := digit_fwd st.take
    cases hd : digitF st.take with
    | bad l c =>
      rw [hd] at h1
      exact h1
    | ok a st1 =>
      rw [hd] at h1
      have h2 := digit_fwd st1
      refine Res.From.on (b := st1) h1 ?_
      dsimp only
      cases hd2 : digitF st1 with
      | bad l c => rw [hd2] at h2; exact h2
      | ok b st2 => rw [hd2] at h2; exact h2
  · split
    · exact Off.here st
    · rename_i h
      exact (take_fwd st fun e => h (.inl (by rw [e, sgn_nil]))).1
theorem text_fwd : ∀ (f : Nat) (out : List UInt8) (st : St), (textF f out st).From st := by
  intro f
  induction f with
  | zero => intro out st; exact Off.here st
  | succ f ih =>
    intro out st
    unfold textF
    split
    · exact Off.here st
    · rename_i h1
      have hne : st.s ≠ [] := fun e => h1 (.inl (by rw [e, sgn_nil]))
      have h0 := take_fwd st hne
      split
      · exact h0.1
      · split
        · refine Res.From.on h0.1 ?_
          have h2 := escape_fwd st.take
          cases he : escapeF st.take with
          | bad l c => rw [he] at h2; exact h2
          | ok x st1 =>
            rw [he] at h2
            exact Res.From.on (b := st1) h2 (ih (out ++ x) st1)
        · exact Res.From.on h0.1 (ih (out ++ sgn st.s) st.take)
theorem skip_fwd : ∀ (f : Nat) (st : St), Fwd st (skipF f st) := by
  intro f
  induction f with
  | zero => intro st; exact .refl st
  | succ f ih =>
    intro st
    unfold skipF
    split
    · exact .refl st
    · rename_i h
      exact (take_fwd st fun e => h (.inl e)).1.trans (ih _)
theorem letter_ascii (x : UInt8) (h : letters.contains x = true) : x.toNat < 128 ∧ x ≠ 10 := by
  have : ∀ x ∈ letters, x.toNat < 128 ∧ x ≠ 10 := by decide
  exact this x (by simpa using h)
/-- Letters hold no newline. -/
theorem lns_letters : ∀ s : List UInt8, lns (s.length + 1) s = lns ((Lib.trimLeftS s letters).length + 1) (Lib.trimLeftS s letters) := by
  intro s
  induction s with
  | nil => rfl
  | cons x s ih =>
    unfold Lib.trimLeftS at ih ⊢
    rw [List.dropWhile_cons]
    split
    · rename_i h
      have hx := letter_ascii x h
      rw [← ih]
      have hs := sgn_ascii x s hx.1
      rw [List.length_cons, lns, if_neg (by simp), hs, if_neg (by simpa using hx.2)]
      simp
    · rfl
theorem word_fwd {st : St} (h : (sgn st.s).length = 1 ∧ Lib.contains letters (sgn st.s) = true) : Fwd st (wordF st).2 ∧ Bef st (wordF st).2 := by
  obtain ⟨x, l, hs, hx⟩ := letter_first h
  have ht : Lib.trimLeftS (x :: l) letters = Lib.trimLeftS l letters := by
    unfold Lib.trimLeftS
    rw [List.dropWhile_cons, if_pos hx]
  have hle := trimS_le l
  have hlt : (Lib.trimLeftS st.s letters).length < st.s.length := by rw [hs, ht]; simp; omega
  have e := lns_letters st.s
  refine ⟨⟨?_, .inr ⟨rfl, ?_⟩, fun h => ?_⟩, .inr ⟨rfl, ?_⟩⟩
  · unfold St.lst wordF
    dsimp only
    rw [e]
  all_goals
    unfold wordF
    dsimp only
    omega
/-- A token: from its place on. -/
theorem one_fwd (st : St) (h : st.s ≠ []) : (oneF st).One st := by
  have h0 := take_fwd st h
  unfold oneF
  split
  · exact ⟨h0.1, h0.2, fun t h => by cases h⟩
  split
  · rename_i h1
    have e : skipF (st.s.length + 1) st = skipF st.s.length st.take := by
      rw [skipF, if_neg (by rw [h1]; simp [h])]
    rw [e]
    have h2 := skip_fwd st.s.length st.take
    exact ⟨h0.1.trans h2, h0.2.fwd h2, fun t h => by cases h⟩
  split
  · rename_i h1
    refine ⟨h0.1, h0.2, fun t h => ?_⟩
    cases h
    refine ⟨rfl, rfl, ?_⟩
    rcases h1 with h1 | h1 | h1 <;> rw [h1] <;> dsimp only <;> decide
  split
  · have h2 := text_fwd (st.s.length + 1) [] st.take
    cases ht : textF (st.s.length + 1) [] st.take with
    | bad l c => rw [ht] at h2; exact Off.fwd h0.1 h2
    | ok x st1 =>
      rw [ht] at h2
      refine ⟨h0.1.trans h2, h0.2.fwd h2, fun t h => ?_⟩
      cases h
      exact ⟨rfl, rfl, by show (2 : Int) ≠ 0; decide⟩
  split
  · rename_i hw
    have h2 := word_fwd hw
    refine ⟨h2.1, h2.2, fun t h => ?_⟩
    cases h
    exact ⟨rfl, rfl, by show (1 : Int) ≠ 0; decide⟩
  · exact Off.here st

/-- All tokens: they rise, and the last one is the end. -/
theorem all_fwd : ∀ (f : Nat) (out : List Tk) (st : St), st.s.length < f → out.Pairwise TLt → (∀ t ∈ out, t.l < st.l ∨ t.l = st.l ∧ t.c < st.c) → (allF f out st).Rise st := by
  intro f
  induction f with
  | zero => intro out st h; omega
  | succ f ih =>
    intro out st hf hp hb
    have snoc : ∀ t : Tk, t.l = st.l → t.c = st.c → (out ++ [t]).Pairwise TLt := fun t e1 e2 => by
      rw [List.pairwise_append]
      refine ⟨hp, List.pairwise_singleton _ _, fun a ha b hb' => ?_⟩
      rw [List.mem_singleton] at hb'
      rw [hb']
      have := hb a ha
      unfold TLt
      omega
    unfold allF
    split
    · exact ⟨snoc _ rfl rfl, .refl st⟩
    · rename_i hne
      have h1 := one_fwd st hne
      cases ho : oneF st with
      | bad l c => rw [ho] at h1; exact h1
      | ok o st1 =>
        rw [ho] at h1
        obtain ⟨g1, g2, g3⟩ := h1
        have hl := one_len ho hne
        have hb1 : ∀ t ∈ out, t.l < st1.l ∨ t.l = st1.l ∧ t.c < st1.c := fun t ht => by
          have := hb t ht
          have := g1.le
          omega
        refine Res.Rise.on g1 ?_
        cases o with
        | none => exact ih out st1 (by omega) hp hb1
        | some t =>
          obtain ⟨e1, e2, _⟩ := g3 t rfl
          refine ih (out ++ [t]) st1 (by omega) (snoc t e1 e2) fun u hu => ?_
          rcases List.mem_append.1 hu with hu | hu
          · exact hb1 u hu
          · rw [List.mem_singleton] at hu
            rw [hu]
            unfold Bef at g2
            omega

/-- Each token takes a sign. -/
theorem all_count : ∀ (f : Nat) (out : List Tk) (st : St) (ts : List Tk) (st' : St), allF f out st = .ok ts st' → ts.length ≤ out.length + st.s.length + 1 := by
  intro f
  induction f with
  | zero => intro out st ts st' h; cases h
  | succ f ih =>
    intro out st ts st' h
    unfold allF at h
    split at h
    · injection h with e1 e2
      rw [← e1]
      simp
    · rename_i hne
      cases ho : oneF st with
      | bad l c => rw [ho] at h; cases h
      | ok o st1 =>
        rw [ho] at h
        have hl := one_len ho hne
        cases o with
        | none =>
          have := ih out st1 ts st' h
          omega
        | some t =>
          have := ih (out ++ [t]) st1 ts st' h
          rw [List.length_append] at this
          simp at this
          omega

theorem decodeN_ten (n b0 b1 b2 b3 : Nat) (h : (Lib.decodeN n b0 b1 b2 b3).1 = 10) : b0 = 10 := by
  unfold Lib.decodeN at h
  repeat' split at h
  all_goals (try dsimp only at h)
  all_goals omega
/-- The sign 10 is the rune 10. -/
theorem rune_ten (s : List UInt8) (hne : s ≠ []) : (Lib.decodeL s).1 = 10 ↔ sgn s = [10] := by
  cases s with
  | nil => exact absurd rfl hne
  | cons b t =>
    constructor
    · intro h
      rw [Lib.decodeL_N] at h
      have hb : b.toNat = 10 := decodeN_ten _ _ _ _ _ h
      have : b = 10 := UInt8.toNat_inj.1 hb
      rw [this]
      exact sgn_ten t
    · intro h
      have h1 := Lib.decodeL_width (b :: t)
      obtain ⟨k, hk⟩ : ∃ k, (Lib.decodeL (b :: t)).2 = k + 1 := ⟨(Lib.decodeL (b :: t)).2 - 1, by omega⟩
      unfold sgn at h
      rw [hk, List.take_succ_cons] at h
      injection h with h2 _
      rw [h2, Lib.decodeL_ascii 10 t (by decide)]
      rfl
/-- One sign on, in the count of lines. -/
theorem lns_step (s : List UInt8) (p : Nat) (h : p < s.length) :
    lns ((s.drop p).length + 1) (s.drop p) = (if (Lib.decodeL (s.drop p)).1 = 10 then 1 else 0) + lns ((s.drop (p + (Lib.decodeL (s.drop p)).2)).length + 1) (s.drop (p + (Lib.decodeL (s.drop p)).2)) := by
  have hne : s.drop p ≠ [] := fun e => by have := congrArg List.length e; simp at this; omega
  have h1 := Lib.decodeL_le _ hne
  have h2 := Lib.decodeL_width (s.drop p)
  have h3 : (sgn (s.drop p)).length = (Lib.decodeL (s.drop p)).2 := by unfold sgn; rw [List.length_take]; omega
  rw [lns, if_neg hne, List.drop_drop, h3, lns_fuel (s.drop p).length ((s.drop (p + (Lib.decodeL (s.drop p)).2)).length + 1) _ (by simp at h1 ⊢; omega) (by simp)]
  congr 1
  simp only [rune_ten _ hne]

/-! ### The whole -/
theorem allR_rise (s : List UInt8) : (allF (s.length + 1) [] ⟨s, 1, 1⟩).Rise ⟨s, 1, 1⟩ := all_fwd _ _ _ (Nat.lt_succ_self _) .nil (fun t h => by cases h)
theorem lns_le : ∀ (f : Nat) (s : List UInt8), lns f s ≤ s.length := by
  intro f
  induction f with
  | zero => intro s; show (0 : Int) ≤ _; omega
  | succ f ih =>
    intro s
    unfold lns
    split
    · omega
    · rename_i hne
      have := ih (s.drop (sgn s).length)
      have h1 := sgn_length s hne
      rw [List.length_drop] at this
      split <;> omega
theorem lst_one (s : List UInt8) : St.lst ⟨s, 1, 1⟩ ≤ s.length + 1 := by
  have := lns_le (s.length + 1) s
  show (1 : Int) + lns (s.length + 1) s ≤ _
  omega
/-- What the two texts' tokens are, with a newline between. -/
theorem joins_ok (s t : List UInt8) (ts : List Tk) (st : St) (h : allF (s.length + 1) [] ⟨s, 1, 1⟩ = .ok ts st) : ∃ out, ts = out ++ [⟨0, [], st.l, st.c⟩] ∧ 1 ≤ st.l ∧ st.l ≤ s.length + 1 ∧ ts.length ≤ s.length + 1 ∧
    allF ((s ++ 10 :: t).length + 1) [] ⟨s ++ 10 :: t, 1, 1⟩ = (allF (t.length + 1) [] ⟨t, 1, 1⟩).map (fun us => out ++ us.map (Tk.sh st.l)) (St.sh st.l) (· + st.l) := by
  have hr := allR_rise s
  rw [h] at hr
  have hf : Fwd ⟨s, 1, 1⟩ st := hr.2
  obtain ⟨out, h1, h2⟩ := (all_app t _ [] ⟨s, 1, 1⟩ (show s.length < s.length + 1 by omega)).2 ts st h
  refine ⟨out, h1, ?_, ?_, by simpa using all_count _ _ _ _ _ h, ?_⟩
  · have := hf.le
    dsimp only at this
    omega
  · have e1 := hf.ln
    have e2 := lst_ge st
    have e3 := lst_one s
    omega
  · have h3 := h2 ((s ++ 10 :: t).length + 1) (by simp)
    have e : (⟨t, st.l + 1, 1⟩ : St) = St.sh st.l ⟨t, 1, 1⟩ := by unfold St.sh; rw [Int.add_comm]
    have h4 := all_sh st.l out (t.length + 1) [] ⟨t, 1, 1⟩
    rw [List.map_nil, List.append_nil] at h4
    rw [← h4, ← e]
    exact h3.trans (all_fuel _ _ _ _ (by simp; omega) (by simp))
theorem all_low : ∀ (f : Nat) (out : List Tk) (st : St) (ts : List Tk) (st' : St), allF f out st = .ok ts st' → (∀ t ∈ out, 1 ≤ t.l) → 1 ≤ st.l → ∀ t ∈ ts, 1 ≤ t.l := by
  intro f
  induction f with
  | zero => intro out st ts st' h; cases h
  | succ f ih =>
    intro out st ts st' h ho h1
    unfold allF at h
    split at h
    · injection h with e1 e2
      rw [← e1]
      intro t ht
      rcases List.mem_append.1 ht with ht | ht
      · exact ho t ht
      · rw [List.mem_singleton] at ht
        rw [ht]
        exact h1
    · rename_i hne
      have hw := one_fwd st hne
      cases hone : oneF st with
      | bad l c => rw [hone] at h; cases h
      | ok o st1 =>
        rw [hone] at h hw
        obtain ⟨g1, g2, g3⟩ := hw
        have h2 : 1 ≤ st1.l := by have := g1.le; omega
        cases o with
        | none => exact ih out st1 ts st' h ho h2
        | some t =>
          refine ih (out ++ [t]) st1 ts st' h (fun u hu => ?_) h2
          rcases List.mem_append.1 hu with hu | hu
          · exact ho u hu
          · rw [List.mem_singleton] at hu
            rw [hu, (g3 t rfl).1]
            exact h1
theorem tok_at (s : List UInt8) (ts : List Tk) (st : St) (h : allF (s.length + 1) [] ⟨s, 1, 1⟩ = .ok ts st) : 1 ≤ ts.length ∧ ts.length ≤ s.length + 1 ∧ ∀ t ∈ ts, 1 ≤ t.l ∧ t.l ≤ s.length + 1 := by
  have hr := allR_rise s
  rw [h] at hr
  obtain ⟨hp, hf⟩ := (show ts.Pairwise TLt ∧ Fwd ⟨s, 1, 1⟩ st from hr)
  obtain ⟨out, h1, h2, h3, h4, _⟩ := joins_ok s [] ts st h
  have hlow := all_low _ _ _ _ _ h (fun t ht => by cases ht) (show (1 : Int) ≤ 1 by omega)
  refine ⟨by rw [h1]; simp, h4, fun t ht => ⟨hlow t ht, ?_⟩⟩
  rw [h1] at hp ht
  rcases List.mem_append.1 ht with ht | ht
  · have := (List.pairwise_append.1 hp).2.2 t ht _ (List.mem_singleton_self _)
    unfold TLt at this
    dsimp only at this
    omega
  · rw [List.mem_singleton] at ht
    rw [ht]
    exact h3
theorem bad_at (s : List UInt8) (l c : Int) (h : allF (s.length + 1) [] ⟨s, 1, 1⟩ = .bad l c) : 1 ≤ l ∧ l ≤ s.length + 1 := by
  have hr := allR_rise s
  rw [h] at hr
  obtain ⟨q1, q2, _⟩ := show Off ⟨s, 1, 1⟩ l c from hr
  have := lst_one s
  dsimp only at q1
  omega
end Go.Proofs.YtegbclolpppajaaDoor
