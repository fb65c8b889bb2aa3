/- What the rows of the reader of words share: the world that is met, the witness. -/
import Derived.Test.YtegbclolpppajaaDoorCards
import Derived.Test.YtegbclolpppajaaDoorTie
import Derived.Test.YtegbclolpppajaaDoorLexF
import Derived.ProofKit
import Derived.OpenShut
import Derived.Deep.DeepHandedRow
import Derived.Lib.LaidU8
import Derived.SizedLaws
set_option linter.unusedVariables false
namespace Go.Proofs.YtegbclolpppajaaDoor
open Go.ChangeShapes Go.WideShapes Go.ChangeAt Go.RowKit

theorem lexOwn : ownKnob Tryd.prog.godebug = none := by kernel_rfl
theorem lexLaidOut : laidOutB Tryd.prog = true := by kernel_rfl
theorem lexFirst : (Rows.laid_unicode_utf8_first : DataW Unit) = Lib.firstData := by kernel_rfl
theorem lexAccept : (Rows.laid_unicode_utf8_acceptRanges : DataW Unit) = Lib.acceptData := by kernel_rfl
theorem lexExtra : U8Extra Tryd.prog Tryd.lays260_ren where
  n3 := by kernel_rfl
  n4 := by kernel_rfl
  y3 := by kernel_rfl
  y4 := by kernel_rfl
  c5 := by kernel_rfl
  c119 := by kernel_rfl
  c138 := by kernel_rfl
def lexLaid : List (String × DataW Unit) := [("unicode/utf8.acceptRanges", Rows.laid_unicode_utf8_acceptRanges), ("unicode/utf8.first", Rows.laid_unicode_utf8_first)]
/-- What the row's list and the world's shape give. -/
theorem wok_of_laid {W : World} (hL : laidMetH Tryd.prog lexLaid W) (hsh : W.ShapedOpen Tryd.prog) : WOk W := by
  refine ⟨?_, ?_, ?_⟩
  · exact Go.Proofs.cell_of_shapedOpen_int (zero := #[.int .i64 0]) (t := 3) hsh (of_decide_eq_true (by kernel_rfl)) (by kernel_rfl) rfl (by kernel_rfl) (by kernel_rfl) Tryd.underlying3
  · refine utf8Tabs_of_reads Tryd.lays260 lexExtra ?_ ?_
    · rw [← lexFirst]; exact Lib.laidMet.reads hL (by simp [lexLaid])
    · rw [← lexAccept]; exact Lib.laidMet.reads hL (by simp [lexLaid])
  · obtain ⟨cs, h, _⟩ := hsh.1 (3 - 1) _ _ (of_decide_eq_true (by kernel_rfl)) (show (((begin Tryd.prog (fun _ _ => 0) default).world.heap[3 - 1]?).bind Obj.row?) = some (#[.int .i64 0], 3) from by kernel_rfl)
    have := lt_of_heap h
    omega

/-- The settled world, the two tables holding what their initialisers lay. -/
def lexLay (cs : Array Value) : Obj → Obj
  | .cells _ t frozen => .cells cs t frozen
  | o => o
noncomputable def lexWorld (os : Os) : World :=
  { World.holding Tryd.prog os ⟨#[], #[], []⟩ with
    heap := ((World.holding Tryd.prog os ⟨#[], #[], []⟩).heap.modify 0 (lexLay (Lib.firstTab.map fun z => Value.int .u8 z).toArray)).modify 1 (lexLay ((List.range 16).flatMap fun i => [Value.int .u8 (Lib.accLo i), Value.int .u8 (Lib.accHi i)]).toArray) }
theorem lex_met (os : Os) (args : Array Value) : laidMet Tryd.prog lexLaid ((lexWorld os).forCall (fun _ _ => 0) ⟨#[], args, []⟩).memory :=
  laidMet_of_run' 8 (by kernel_rfl) (by kernel_rfl)
theorem str_list (s : ByteArray) : s = ⟨s.data.toList.toArray⟩ := by cases s; simp
end Go.Proofs.YtegbclolpppajaaDoor
