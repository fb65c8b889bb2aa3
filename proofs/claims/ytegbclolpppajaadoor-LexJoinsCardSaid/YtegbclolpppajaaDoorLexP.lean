/- What the reader of words computes, in plain functions over lists of bytes. -/
import Derived.Lib.TrimUEq
import Derived.Lib.MapLaws
import Derived.Lib.ValidLaws
import Derived.Lib.SlTrimSet
import Derived.Lib.IndexMore
import Derived.Lib.Small
namespace Go.Proofs.YtegbclolpppajaaDoor

/-- The first sign of a text. -/
def sgn (s : List UInt8) : List UInt8 := s.take (Lib.decodeL s).2

/-- Where a reader is. -/
structure St where
  s : List UInt8
  l : Int
  c : Int

/-- What a part of the reader comes to: a value, and where it is then; or where it is wrong. -/
inductive Res (α : Type) where
  | ok (a : α) (st : St)
  | bad (l c : Int)

def St.take (st : St) : St :=
  if sgn st.s = [10] then ⟨st.s.drop (sgn st.s).length, st.l + 1, 1⟩ else ⟨st.s.drop (sgn st.s).length, st.l, st.c + 1⟩

def hexs : List UInt8 := [48, 49, 50, 51, 52, 53, 54, 55, 56, 57, 97, 98, 99, 100, 101, 102]
def escs : List UInt8 := [34, 92, 110, 116]
def means : List UInt8 := [34, 92, 10, 9]
def blanks : List UInt8 := [32, 9, 13, 10]
def braces : List UInt8 := [123, 125, 59]
def letters : List UInt8 := [97, 98, 99, 100, 101, 102, 103, 104, 105, 106, 107, 108, 109, 110, 111, 112, 113, 114, 115, 116, 117, 118, 119, 120, 121, 122, 65, 66, 67, 68, 69, 70, 71, 72, 73, 74, 75, 76, 77, 78, 79, 80, 81, 82, 83, 84, 85, 86, 87, 88, 89, 90, 48, 49, 50, 51, 52, 53, 54, 55, 56, 57, 95, 45, 46]

def digitF (st : St) : Res Int :=
  if st.s = [] ∨ 1 < (sgn st.s).length ∨ Lib.index hexs (sgn st.s) < 0 then .bad st.l st.c else .ok (Lib.index hexs (sgn st.s)) st.take

def escapeF (st : St) : Res (List UInt8) :=
  if sgn st.s = [120] then
    match digitF st.take with
    | .bad l c => .bad l c
    | .ok a st1 =>
      match digitF st1 with
      | .bad l c => .bad l c
      | .ok b st2 => .ok [UInt8.ofNat (16 * a + b).toNat] st2
  else if sgn st.s = [] ∨ Lib.index escs (sgn st.s) < 0 then .bad st.l st.c
  else .ok ((means.drop (Lib.index escs (sgn st.s)).toNat).take 1) st.take

def textF : Nat → List UInt8 → St → Res (List UInt8)
  | 0, _, st => .bad st.l st.c
  | f + 1, out, st =>
    if sgn st.s = [] ∨ sgn st.s = [10] ∨ Lib.validD (sgn st.s) = false then .bad st.l st.c
    else if sgn st.s = [34] then .ok out st.take
    else if sgn st.s = [92] then
      match escapeF st.take with
      | .bad l c => .bad l c
      | .ok x st1 => textF f (out ++ x) st1
    else textF f (out ++ sgn st.s) st.take

def wordF (st : St) : List UInt8 × St :=
  (st.s.take (st.s.length - (Lib.trimLeftS st.s letters).length), ⟨Lib.trimLeftS st.s letters, st.l, st.c + (st.s.length - (Lib.trimLeftS st.s letters).length)⟩)

def skipF : Nat → St → St
  | 0, st => st
  | f + 1, st => if st.s = [] ∨ sgn st.s = [10] then st else skipF f st.take

structure Tk where
  kind : Int
  text : List UInt8
  l : Int
  c : Int
  deriving DecidableEq

/-- One token, or none. -/
def oneF (st : St) : Res (Option Tk) :=
  if Lib.contains blanks (sgn st.s) then .ok none st.take
  else if sgn st.s = [35] then .ok none (skipF (st.s.length + 1) st)
  else if sgn st.s = [123] ∨ sgn st.s = [125] ∨ sgn st.s = [59] then .ok (some ⟨3 + Lib.index braces (sgn st.s), [], st.l, st.c⟩) st.take
  else if sgn st.s = [34] then
    match textF (st.s.length + 1) [] st.take with
    | .bad l c => .bad l c
    | .ok x st1 => .ok (some ⟨2, x, st.l, st.c⟩) st1
  else if (sgn st.s).length = 1 ∧ Lib.contains letters (sgn st.s) then .ok (some ⟨1, (wordF st).1, st.l, st.c⟩) (wordF st).2
  else .bad st.l st.c

def allF : Nat → List Tk → St → Res (List Tk)
  | 0, _, st => .bad st.l st.c
  | f + 1, out, st =>
    if st.s = [] then .ok (out ++ [⟨0, [], st.l, st.c⟩]) st
    else match oneF st with
      | .bad l c => .bad l c
      | .ok none st1 => allF f out st1
      | .ok (some t) st1 => allF f (out ++ [t]) st1

/-! ### Sizes -/
theorem sgn_nil : sgn [] = [] := by simp [sgn]
theorem sgn_length (s : List UInt8) (h : s ≠ []) : 1 ≤ (sgn s).length ∧ (sgn s).length ≤ s.length := by
  have h1 := Lib.decodeL_width s
  have h2 := Lib.decodeL_le s h
  unfold sgn
  rw [List.length_take]
  omega
theorem sgn_ne (s : List UInt8) (h : s ≠ []) : sgn s ≠ [] := by
  have := (sgn_length s h).1
  intro e
  rw [e] at this
  simp at this
theorem sgn_eq_nil (s : List UInt8) : sgn s = [] ↔ s = [] := by
  constructor
  · intro h
    apply Classical.byContradiction
    intro h2
    exact sgn_ne s h2 h
  · rintro rfl; exact sgn_nil
theorem sgn_le (s : List UInt8) : (sgn s).length ≤ s.length := by unfold sgn; rw [List.length_take]; omega

/-- Within bounds: lines and columns don't grow past what is left. -/
structure St.Fine (st : St) (n : Nat) : Prop where
  size : st.s.length ≤ n
  l0 : 0 ≤ st.l
  c0 : 0 ≤ st.c
  l1 : st.l + st.s.length ≤ n + 1
  c1 : st.c + st.s.length ≤ n + 1

theorem St.take_fine {st : St} {n : Nat} (h : st.Fine n) (hne : st.s ≠ []) : st.take.Fine n ∧ st.take.s.length < st.s.length := by
  have h1 := sgn_length st.s hne
  obtain ⟨a, b, c, d, e⟩ := h
  unfold St.take
  split
  · refine ⟨⟨?_, ?_, ?_, ?_, ?_⟩, ?_⟩ <;> simp only [List.length_drop] <;> omega
  · refine ⟨⟨?_, ?_, ?_, ?_, ?_⟩, ?_⟩ <;> simp only [List.length_drop] <;> omega
end Go.Proofs.YtegbclolpppajaaDoor
