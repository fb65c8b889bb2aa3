/- LexFronts: the walk. -/
import Derived.Test.YtegbclolpppajaaDoorLexW7
import Derived.Test.YtegbclolpppajaaDoorLexR
set_option linter.unusedVariables false
namespace Go.Proofs.YtegbclolpppajaaDoor
open Go.RowKit

theorem wrap64_small (n : Int) (h : 0 ≤ n) (h2 : n < 1000000) : wrap64 n = n := by unfold wrap64; omega
theorem str_nl (s t : List UInt8) : (⟨s.toArray⟩ : ByteArray) ++ ⟨#[10]⟩ ++ ⟨t.toArray⟩ = ⟨(s ++ 10 :: t).toArray⟩ := by
  apply ByteArray.ext
  simp
/-- The tokens in block g. -/
def Toks (w : World) (g : Nat) (ts : List Tk) : Prop := ∀ j x, (tokCells ts)[j]? = some x → w.cell? ⟨g, j, none⟩ = some x
theorem tokCells_at : ∀ (ts : List Tk) (i : Nat) (t : Tk), ts[i]? = some t → (tokCells ts)[i * 4]? = some (.int .i64 t.kind) ∧ (tokCells ts)[i * 4 + 1]? = some (.string ⟨t.text.toArray⟩) ∧ (tokCells ts)[i * 4 + 2]? = some (.int .i64 t.l) ∧ (tokCells ts)[i * 4 + 3]? = some (.int .i64 t.c) := by
  intro ts
  induction ts with
  | nil => intro i t h; cases h
  | cons u ts ih =>
    intro i t h
    have hc : tokCells (u :: ts) = [.int .i64 u.kind, .string ⟨u.text.toArray⟩, .int .i64 u.l, .int .i64 u.c] ++ tokCells ts := rfl
    rw [hc]
    cases i with
    | zero =>
      have e : u = t := by simpa using h
      rw [← e]
      exact ⟨rfl, rfl, rfl, rfl⟩
    | succ i =>
      have := ih i t (by simpa using h)
      have e : ∀ k, ([Value.int .i64 u.kind, .string ⟨u.text.toArray⟩, .int .i64 u.l, .int .i64 u.c] ++ tokCells ts)[4 + k]? = (tokCells ts)[k]? := fun k => by
        rw [List.getElem?_append_right (by simp)]
        simp
      rw [show (i + 1) * 4 = 4 + i * 4 from by omega, show 4 + i * 4 + 1 = 4 + (i * 4 + 1) from by omega, show 4 + i * 4 + 2 = 4 + (i * 4 + 2) from by omega, show 4 + i * 4 + 3 = 4 + (i * 4 + 3) from by omega, e, e, e, e]
      exact this
theorem Toks.at {w : World} {g : Nat} {ts : List Tk} (h : Toks w g ts) {i : Nat} {t : Tk} (ht : ts[i]? = some t) :
    w.cell? ⟨g, i * 4, none⟩ = some (.int .i64 t.kind) ∧ w.cell? ⟨g, i * 4 + 1, none⟩ = some (.string ⟨t.text.toArray⟩) ∧ w.cell? ⟨g, i * 4 + 2, none⟩ = some (.int .i64 t.l) ∧ w.cell? ⟨g, i * 4 + 3, none⟩ = some (.int .i64 t.c) := by
  obtain ⟨h0, h1, h2, h3⟩ := tokCells_at ts i t ht
  exact ⟨h _ _ h0, h _ _ h1, h _ _ h2, h _ _ h3⟩
theorem Toks.below {w w' : World} {g B : Nat} {ts : List Tk} (h : Toks w g ts) (hb : Below B w w') (hg : g < B) : Toks w' g ts :=
  fun j x hx => (hb.cell (p := ⟨g, j, none⟩) hg).trans (h j x hx)
/-- What All leaves, plainly. -/
def AllQ (w : World) (r : Res (List Tk)) (e : Ending) (w' : World) : Prop :=
  match r with
  | .ok ts _ => ∃ g cap, e = .returned (.tuple #[.slice (some ⟨g, 0, none⟩) ts.length cap, .int .i64 0, .agg #[.int .i64 0, .int .i64 0]]) ∧ w.heap.size ≤ g ∧ g < w'.heap.size ∧ Toks w' g ts ∧ Below w.heap.size w w'
  | .bad l c => e = .returned (.tuple #[.slice none 0 0, .int .i64 20, .agg #[.int .i64 l, .int .i64 c]]) ∧ Below w.heap.size w w'
theorem allR_ne {s : List UInt8} {ts : List Tk} {st : St} (h : allR s = .ok ts st) : ∃ out, ts = out ++ [⟨0, [], st.l, st.c⟩] := by
  obtain ⟨out, h1, _⟩ := (all_app [] _ _ _ (show s.length < s.length + 1 by omega)).2 ts st h
  exact ⟨out, h1⟩
theorem allq_any (s : List UInt8) (w : World) (hW : WOk w) (hs : s.length ≤ 8192) :
    Calls Tryd.prog 6 #[.string ⟨s.toArray⟩] w (AllQ w (allR s)) := by
  refine (all_any s w hW hs).mono ?_
  cases h : allR s with
  | bad l c => exact fun e w' h => h
  | ok ts st =>
    rintro e w' ⟨v, he, hown, hb⟩
    obtain ⟨out, hts⟩ := allR_ne h
    obtain ⟨g, cap, rfl, h1, h2⟩ := hown.form (by rw [hts]; simp)
    refine ⟨g, cap, he, h1, h2, fun j x hx => ?_, hb⟩
    have := hown.cells (g := g) rfl j x hx
    rwa [show (⟨g, 0, none⟩ : Addr).add j = ⟨g, j, none⟩ from by unfold Addr.add; split <;> simp_all] at this

set_option maxRecDepth 20000 in
set_option maxHeartbeats 1600000 in
theorem fronts_any (s t : List UInt8) (w : World) (hW : WOk w) :
    Calls Tryd.prog 3 #[.string ⟨s.toArray⟩, .string ⟨t.toArray⟩] w fun e w' => e = .returned (.bool true) ∧ Below w.heap.size w w' := by
  go_enter Tryd.func3, Tryd.ntmps3
  go_wp2_with fail
  refine (awake_any w hW).mono ?_
  rintro e w0 ⟨rfl, hb0⟩
  have hW0 := hW.below hb0
  by_cases hs : s.length ≤ 1000
  case neg =>
    have hs' : 1000 < s.length := by omega
    go_wp2
    all_goals
      go_ret
      exact ⟨rfl, hb0⟩
  by_cases ht : t.length ≤ 1000
  case neg =>
    have ht' : 1000 < t.length := by omega
    go_wp2
    go_ret
    exact ⟨rfl, hb0⟩
  go_wp2_with fail
  refine (allq_any s w0 hW0 (by omega)).mono ?_
  have hrise := allR_rise s
  have happ := all_app t _ [] ⟨s, 1, 1⟩ (show s.length < s.length + 1 by omega)
  cases hr : allR s with
  | ok ts st =>
    rintro e w1 ⟨g, cap, rfl, hg, hlt, hT, hb1⟩
    obtain ⟨out, hts⟩ := allR_ne hr
    rw [show allF (s.length + 1) [] ⟨s, 1, 1⟩ = allR s from rfl, hr] at hrise
    have hp : ts.Pairwise TLt := hrise.1
    have hl : 0 < ts.length := by rw [hts]; simp
    have hn : ts.length ≤ 2000 := by have := all_count _ _ _ _ _ hr; simp at this; omega
    clear happ hrise hr
    have HT := Lib.hid hts
    clear hts
    go_wp2
    have hA : Below w1.heap.size w1 (w1.alloc (.cells #[.int .i64 0, .int .i64 0] 26)) := (Below.refl _ _).alloc (Nat.le_refl _) _
    have z : (w1.alloc (.cells #[.int .i64 0, .int .i64 0] 26)).heap.size = w1.heap.size + 1 := by simp
    have x0 : (w1.alloc (.cells #[.int .i64 0, .int .i64 0] 26)).cell? ⟨w1.heap.size, 0, none⟩ = some (.int .i64 0) := by rw [Lib.cell_of_heap (heap_alloc_new _ _)]; rfl
    have x1 : (w1.alloc (.cells #[.int .i64 0, .int .i64 0] 26)).cell? ⟨w1.heap.size, 1, none⟩ = some (.int .i64 0) := by rw [Lib.cell_of_heap (heap_alloc_new _ _)]; rfl
    have hT2 := hT.below hA hlt
    have hb2 := hb1.trans (hA.mono hb1.size)
    generalize w1.alloc (.cells #[.int .i64 0, .int .i64 0] 26) = w2 at hA z x0 x1 hT2 hb2 ⊢
    generalize w1.heap.size = B1 at *
    clear hA hT hb1
    go_loopg [9] (ts.length - 1) (fun k i W => ∃ j : Nat, i = .int .i64 j ∧ 1 ≤ j ∧ j + k = ts.length ∧ Below w2.heap.size w2 W)
    case atStart => exact ⟨1, rfl, Nat.le_refl _, by omega, Below.refl _ _⟩
    case round =>
      obtain ⟨j, rfl, hj1, hjk, hbr⟩ := hrel
      obtain ⟨i, rfl⟩ : ∃ i, j = i + 1 := ⟨j - 1, by omega⟩
      have hTr := hT2.below hbr (by omega)
      have y0 : wr.cell? ⟨B1, 0, none⟩ = some (.int .i64 0) := (hbr.cell (p := ⟨B1, 0, none⟩) (by dsimp only; omega)).trans x0
      have y1 : wr.cell? ⟨B1, 1, none⟩ = some (.int .i64 0) := (hbr.cell (p := ⟨B1, 1, none⟩) (by dsimp only; omega)).trans x1
      have zr := hbr.size
      by_cases hi : i + 1 < ts.length
      · obtain ⟨ta, hta⟩ : ∃ a, ts[i]? = some a := ⟨ts[i], List.getElem?_eq_getElem (by omega)⟩
        obtain ⟨tb, htb⟩ : ∃ a, ts[i + 1]? = some a := ⟨ts[i + 1], List.getElem?_eq_getElem hi⟩
        obtain ⟨_, _, a2, a3⟩ := hTr.at hta
        obtain ⟨_, _, b2, b3⟩ := hTr.at htb
        have hi' : (i : Int) + 1 < (ts.length : Int) := by omega
        have g2 := fun o => cell_alloc' o b2
        have g3 := fun o => cell_alloc' o b3
        have hlt' : TLt ta tb := by
          rw [List.pairwise_iff_getElem] at hp
          have := hp i (i + 1) (by omega) hi (by omega)
          rwa [(List.getElem?_eq_some_iff.1 hta).2, (List.getElem?_eq_some_iff.1 htb).2] at this
        have HK := Lib.hid hjk
        have HN := Lib.hid hn
        have wi := wrap64_small (i : Int) (by omega) (by omega)
        clear hjk z hi hta htb hn hl hp hT2 hTr
        rcases hlt' with e1 | ⟨e1, e2⟩
        · have n1 : ¬ (tb.l < ta.l) := by omega
          have n2 : ¬ (tb.l = ta.l) := by omega
          clear e1
          go_wp2
          clear wi
          have h1 := HK.out
          have h2 := HN.out
          go_roundg (gk - 1)
          case measure => omega
          case rel => exact ⟨i + 1 + 1, congrArg _ (wrap64_small _ (by omega) (by omega)), by omega, by omega, (hbr.alloc zr _).alloc (by simp; omega) _⟩
        · have n1 : ¬ (tb.c ≤ ta.c) := by omega
          have n2 : ¬ (tb.l < ta.l) := by omega
          clear e2
          go_wp2
          clear wi
          have h1 := HK.out
          have h2 := HN.out
          go_roundg (gk - 1)
          case measure => omega
          case rel => exact ⟨i + 1 + 1, congrArg _ (wrap64_small _ (by omega) (by omega)), by omega, by omega, (hbr.alloc zr _).alloc (by simp; omega) _⟩
      · obtain ⟨ta, hta, hk0⟩ : ∃ a, ts[i]? = some a ∧ a.kind = 0 := by
          refine ⟨⟨0, [], st.l, st.c⟩, ?_, rfl⟩
          have e := HT.out
          have : i = out.length := by rw [e] at hjk hi; simp at hjk hi; omega
          rw [e, this]
          simp
        obtain ⟨a0, _, _, _⟩ := hTr.at hta
        rw [hk0] at a0
        have hi' : ¬ ((i : Int) + 1 < (ts.length : Int)) := by omega
        have e1 : (ts.length : Int) = i + 1 := by omega
        have e2 : ts.length = i + 1 := by omega
        have wi := wrap64_small (i : Int) (by omega) (by omega)
        have HJ := Lib.hid hjk
        have HZ := Lib.hid z
        clear hjk z hta hi hl hn hp hT2 hTr
        rw [e2]
        rw [e1] at hi'
        clear e1 e2
        go_wp2
        go_ret
        exact ⟨rfl, hb0.trans ((hb2.trans (hbr.mono hb2.size)).mono hb0.size)⟩
  | bad l c =>
    rintro e w1 ⟨rfl, hb1⟩
    rw [show allF (s.length + 1) [] ⟨s, 1, 1⟩ = allR s from rfl, hr] at hrise
    obtain ⟨q1, q2, q3⟩ := show Off ⟨s, 1, 1⟩ l c from hrise
    have q4 := q3 (Int.le_refl 1)
    clear q3 hrise
    have hbad := happ.1 l c hr
    have hjn : allR (s ++ 10 :: t) = .bad l c := hbad _ (by simp)
    clear hbad happ
    have hA : Below w1.heap.size w1 (w1.alloc (.cells #[.int .i64 l, .int .i64 c] 26)) := (Below.refl _ _).alloc (Nat.le_refl _) _
    have x0 : (w1.alloc (.cells #[.int .i64 l, .int .i64 c] 26)).cell? ⟨w1.heap.size, 0, none⟩ = some (.int .i64 l) := by rw [Lib.cell_of_heap (heap_alloc_new _ _)]; rfl
    have x1 : (w1.alloc (.cells #[.int .i64 l, .int .i64 c] 26)).cell? ⟨w1.heap.size, 1, none⟩ = some (.int .i64 c) := by rw [Lib.cell_of_heap (heap_alloc_new _ _)]; rfl
    go_wp2
    have z : (w1.alloc (.cells #[.int .i64 l, .int .i64 c] 26)).heap.size = w1.heap.size + 1 := by simp
    have hb2 := hb1.trans (hA.mono hb1.size)
    have hI : Below (w1.heap.size + 1) (w1.alloc (.cells #[.int .i64 l, .int .i64 c] 26)) ((w1.alloc (.cells #[.int .i64 l, .int .i64 c] 26)).iter ⟨s.toArray⟩ 0) := (Below.refl _ _).alloc (Nat.le_of_eq z.symm) _
    have hit : ((w1.alloc (.cells #[.int .i64 l, .int .i64 c] 26)).iter ⟨s.toArray⟩ 0).heap[w1.heap.size + 1]? = some (.stringIter ⟨s.toArray⟩ 0) := by have := heap_alloc_new (w1.alloc (.cells #[.int .i64 l, .int .i64 c] 26)) (.stringIter ⟨s.toArray⟩ 0); rwa [z] at this
    generalize ((w1.alloc (.cells #[.int .i64 l, .int .i64 c] 26)).iter ⟨s.toArray⟩ 0) = w3 at hI hit ⊢
    generalize w1.alloc (.cells #[.int .i64 l, .int .i64 c] 26) = w2 at *
    generalize w1.heap.size = B1 at *
    have Q2 := Lib.hid q2
    have JN := Lib.hid hjn
    clear hr hA hb1 q2 hjn
    go_loopg [12, 13, 15] s.length (fun k u12 u13 u15 W => ∃ (p : Nat) (line col : Int), p + k = s.length ∧ u12 = .int .i64 line ∧ u13 = .int .i64 col ∧ W.heap[B1 + 1]? = some (.stringIter ⟨s.toArray⟩ p) ∧ Below (B1 + 1) w2 W ∧ (line + lns ((s.drop p).length + 1) (s.drop p) = St.lst ⟨s, 1, 1⟩ ∧ 0 ≤ line ∧ line ≤ p + 1 ∧ 0 ≤ col ∧ col ≤ p + 1))
    case atStart => exact ⟨0, 1, 1, by omega, rfl, rfl, hit, hI, rfl, by decide, by decide, by decide, by decide⟩
    case round =>
      obtain ⟨p, line, col, hpk, rfl, rfl, hip, hbr, hln, hl0, hl1, hc0, hc1⟩ := hrel
      have y0 : wr.cell? ⟨B1, 0, none⟩ = some (.int .i64 l) := (hbr.cell (p := ⟨B1, 0, none⟩) (by dsimp only; omega)).trans x0
      have y1 : wr.cell? ⟨B1, 1, none⟩ = some (.int .i64 c) := (hbr.cell (p := ⟨B1, 1, none⟩) (by dsimp only; omega)).trans x1
      have zr := hbr.size
      have HL := Lib.hid hln
      have HP := Lib.hid hpk
      have HC := Lib.hid (And.intro hl0 (And.intro hl1 (And.intro hc0 hc1)))
      have HS := Lib.hid hs
      by_cases hp : p < s.length
      · have hn := fun ty => Lib.run_next_any_at (P := Tryd.prog) wr (B1 + 1) ⟨s.toArray⟩ p ty hip hp
        have hst := Lib.hid (lns_step s p hp)
        have hit2 := fun q => Lib.iterAt_heap wr (B1 + 1) ⟨s.toArray⟩ p q hip
        have hb3 := fun q => Lib.below_iterAt hbr (Nat.le_refl (B1 + 1)) ⟨s.toArray⟩ q
        have hwd := Lib.hid (Lib.decodeL_width (s.drop p))
        have hle := Lib.hid (Lib.decodeL_le (s.drop p) (fun e => by have := congrArg List.length e; simp at this; omega))
        have hdr : Utf8.decode ⟨s.toArray⟩ p = Lib.decodeL (s.drop p) := (Lib.decodeL_drop ⟨s.toArray⟩ p).symm
        rw [hdr] at hn
        generalize Lib.decodeL (s.drop p) = dr at hn hst hwd hle
        obtain ⟨r, wd⟩ := dr
        dsimp only at hn hst hwd hle
        clear hdr hln hpk hl0 hl1 hc0 hc1 hs hp
        by_cases hr10 : r = 10
        · rw [hr10] at hn hst
          clear hr10
          go_wp2
          have h1 := HP.out
          have h2 := HC.out
          have h3 := hwd.out
          have h4 := hle.out
          rw [List.length_drop] at h4
          have h5 := HS.out
          have h6 := HL.out
          have h7 := hst.out
          rw [if_pos trivial] at h7
          go_roundg (s.length - (p + wd))
          case measure => omega
          case rel => exact ⟨p + wd, line + 1, 1, by omega, congrArg _ (wrap64_small _ (by omega) (by omega)), rfl, hit2 _, hb3 _, by omega, by omega, by omega, by decide, by omega⟩
        · have n1 : ¬ ((r : Int) = 10) := by omega
          go_wp2
          have h1 := HP.out
          have h2 := HC.out
          have h3 := hwd.out
          have h4 := hle.out
          rw [List.length_drop] at h4
          have h5 := HS.out
          have h6 := HL.out
          have h7 := hst.out
          rw [if_neg hr10] at h7
          go_roundg (s.length - (p + wd))
          case measure => omega
          case rel => exact ⟨p + wd, line, col + 1, by omega, rfl, congrArg _ (wrap64_small _ (by omega) (by omega)), hit2 _, hb3 _, by omega, by omega, by omega, by omega, by omega⟩
      · have hn := fun ty => Lib.run_next_end_at (P := Tryd.prog) wr (B1 + 1) ⟨s.toArray⟩ p ty hip hp
        have q5 : ¬ (line < l) := by
          have h1 : s.drop p = [] := List.drop_eq_nil_of_le (by omega)
          rw [h1] at hln
          have h2 : lns (([] : List UInt8).length + 1) [] = 0 := rfl
          have := Q2.out
          omega
        have q6 : ¬ (l < 1) := by omega
        have q7 : ¬ (c < 1) := by omega
        clear hln hpk hl0 hl1 hc0 hc1 hp hip q1 q4
        have hb3 : Below w.heap.size w wr := hb0.trans ((hb2.trans (hbr.mono (by have := hb2.size; omega))).mono hb0.size)
        have hW3 := hW.below hb3
        have hsl : (s ++ 10 :: t).length ≤ 8192 := by simp; omega
        have ye := Nat.lt_of_lt_of_le (show B1 < w2.heap.size by omega) zr
        go_wp2_with fail
        all_goals first
          | (go_ret; exact ⟨rfl, hb3⟩)
          | (rw [str_nl]
             refine (allq_any (s ++ 10 :: t) wr hW3 hsl).mono ?_
             rw [JN.out]
             rintro e w6 ⟨rfl, hb6⟩
             have u0 := fun o => cell_alloc' o ((hb6.cell (p := ⟨B1, 0, none⟩) ye).trans y0)
             have u1 := fun o => cell_alloc' o ((hb6.cell (p := ⟨B1, 1, none⟩) ye).trans y1)
             go_wp2
             go_ret
             exact ⟨rfl, (hb3.trans (hb6.mono hb3.size)).alloc (by have := hb3.size; have := hb6.size; omega) _⟩)
end Go.Proofs.YtegbclolpppajaaDoor
