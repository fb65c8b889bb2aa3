/- LexJoins: the walk. -/
import Derived.Test.YtegbclolpppajaaDoorLexF
set_option linter.unusedVariables false
namespace Go.Proofs.YtegbclolpppajaaDoor
open Go.RowKit

theorem below_drewN {B : Nat} {a w : World} (h : Below B a w) (n : Nat) : Below B a (w.drewN n) := ⟨h.os, h.tape, h.output, h.size, h.block⟩
set_option maxRecDepth 20000 in
set_option maxHeartbeats 1600000 in
theorem joins_any (s t : List UInt8) (w : World) (hW : WOk w) :
    Calls Tryd.prog 4 #[.string ⟨s.toArray⟩, .string ⟨t.toArray⟩] w fun e w' => e = .returned (.bool true) ∧ Below w.heap.size w w' := by
  go_enter Tryd.func4, Tryd.ntmps4
  go_wp2_with fail
  refine (awake_any w hW).mono ?_
  rintro e w0 ⟨rfl, hb0⟩
  have hW0 := hW.below hb0
  by_cases hs : s.length ≤ 1000
  case neg =>
    have hs' : 1000 < s.length := by omega
    go_wp2
    all_goals
      go_ret
      exact ⟨rfl, hb0⟩
  by_cases ht : t.length ≤ 1000
  case neg =>
    have ht' : 1000 < t.length := by omega
    go_wp2
    go_ret
    exact ⟨rfl, hb0⟩
  have hsl : (s ++ 10 :: t).length ≤ 8192 := by simp; omega
  have happ := all_app t _ [] ⟨s, 1, 1⟩ (show s.length < s.length + 1 by omega)
  go_wp2_with fail
  refine (allq_any s w0 hW0 (by omega)).mono ?_
  cases hr : allR s with
  | bad l c =>
    rintro e w1 ⟨rfl, hb1⟩
    have hjn : allR (s ++ 10 :: t) = .bad l c := happ.1 l c hr _ (by simp)
    clear happ hr
    have hb2 := hb1.alloc hb1.size (.cells #[.int .i64 l, .int .i64 c] 26)
    have hW2 := hW0.below hb2
    go_wp2_with fail
    refine (allq_any t _ hW2 (by omega)).mono ?_
    cases hr2 : allR t with
    | bad l2 c2 =>
      rintro e w3 ⟨rfl, hb3⟩
      have hb4 := (hb2.trans (hb3.mono hb2.size)).alloc (by have := hb2.size; have := hb3.size; omega) (.cells #[.int .i64 l2, .int .i64 c2] 26)
      have hW4 := hW0.below hb4
      go_wp2_with fail
      rw [str_nl]
      refine (allq_any _ _ hW4 hsl).mono ?_
      rw [hjn]
      rintro e w5 ⟨rfl, hb5⟩
      go_wp2
      go_ret
      exact ⟨rfl, hb0.trans (((hb4.trans (hb5.mono hb4.size)).alloc (by have := hb4.size; have := hb5.size; omega) _).mono hb0.size)⟩
    | ok ts2 st2 =>
      rintro e w3 ⟨g2, cap2, rfl, _, _, _, hb3⟩
      have hb4 := (hb2.trans (hb3.mono hb2.size)).alloc (by have := hb2.size; have := hb3.size; omega) (.cells #[.int .i64 0, .int .i64 0] 26)
      have hW4 := hW0.below hb4
      go_wp2_with fail
      rw [str_nl]
      refine (allq_any _ _ hW4 hsl).mono ?_
      rw [hjn]
      rintro e w5 ⟨rfl, hb5⟩
      go_wp2
      go_ret
      exact ⟨rfl, hb0.trans (((hb4.trans (hb5.mono hb4.size)).alloc (by have := hb4.size; have := hb5.size; omega) _).mono hb0.size)⟩
  | ok ts st =>
    rintro e w1 ⟨g, cap, rfl, hg, hlt, hT, hb1⟩
    obtain ⟨out, hts, hl1, hl2, hcn, hjn⟩ := joins_ok s t ts st hr
    clear happ hr
    have hb2 := hb1.alloc hb1.size (.cells #[.int .i64 0, .int .i64 0] 26)
    have hW2 := hW0.below hb2
    have hA2 := (Below.refl w1.heap.size w1).alloc (Nat.le_refl _) (.cells #[.int .i64 0, .int .i64 0] 26)
    have hT2 := hT.below hA2 hlt
    have hlt2 := Nat.lt_of_lt_of_le hlt hA2.size
    obtain ⟨n, hn⟩ : ∃ n, n = out.length := ⟨_, rfl⟩
    have hlen : ts.length = n + 1 := by rw [hts, hn]; simp
    have hlast : ts[n]? = some ⟨0, [], st.l, st.c⟩ := by rw [hts, hn]; simp
    have wn := wrap64_small (n : Int) (by omega) (by omega)
    have L2 := Lib.hid (And.intro hl1 hl2)
    have LN := Lib.hid hlen
    have HT := Lib.hid hts
    have HC := Lib.hid hcn
    rw [hlen]
    clear hts hlen hl1 hl2 hn hcn hT hA2 hlt
    go_wp2_with fail
    generalize w1.alloc (.cells #[.int .i64 0, .int .i64 0] 26) = w2 at hb2 hW2 hT2 hlt2 ⊢
    refine (allq_any t w2 hW2 (by omega)).mono ?_
    cases hr2 : allR t with
    | bad l2 c2 =>
      rintro e w3 ⟨rfl, hb3⟩
      have hjn' : allR (s ++ 10 :: t) = .bad (l2 + st.l) c2 := by
        refine hjn.trans ?_
        rw [show allF (t.length + 1) [] ⟨t, 1, 1⟩ = .bad l2 c2 from hr2]
        rfl
      have hq := bad_at t l2 c2 hr2
      clear hjn hr2
      have hb4 := (hb2.trans (hb3.mono hb2.size)).alloc (by have := hb2.size; have := hb3.size; omega) (.cells #[.int .i64 l2, .int .i64 c2] 26)
      have hW4 := hW0.below hb4
      have hA4 := (Below.refl w3.heap.size w3).alloc (Nat.le_refl _) (.cells #[.int .i64 l2, .int .i64 c2] 26)
      have hT4 := (hT2.below hb3 hlt2).below hA4 (Nat.lt_of_lt_of_le hlt2 hb3.size)
      have x0 : (w3.alloc (.cells #[.int .i64 l2, .int .i64 c2] 26)).cell? ⟨w3.heap.size, 0, none⟩ = some (.int .i64 l2) := by rw [Lib.cell_of_heap (heap_alloc_new _ _)]; rfl
      have x1 : (w3.alloc (.cells #[.int .i64 l2, .int .i64 c2] 26)).cell? ⟨w3.heap.size, 1, none⟩ = some (.int .i64 c2) := by rw [Lib.cell_of_heap (heap_alloc_new _ _)]; rfl
      have z4 : (w3.alloc (.cells #[.int .i64 l2, .int .i64 c2] 26)).heap.size = w3.heap.size + 1 := by simp
      have hlt4 := Nat.lt_of_lt_of_le (Nat.lt_of_lt_of_le hlt2 hb3.size) hA4.size
      go_wp2_with fail
      generalize w3.alloc (.cells #[.int .i64 l2, .int .i64 c2] 26) = w4 at hb4 hW4 hT4 x0 x1 z4 hlt4 ⊢
      generalize w3.heap.size = B3 at x0 x1 z4 ⊢
      rw [str_nl]
      refine (allq_any _ w4 hW4 hsl).mono ?_
      rw [hjn']
      rintro e w5 ⟨rfl, hb5⟩
      have u0 := fun o => cell_alloc' o ((hb5.cell (p := ⟨B3, 0, none⟩) (by dsimp only; omega)).trans x0)
      have u1 := fun o => cell_alloc' o ((hb5.cell (p := ⟨B3, 1, none⟩) (by dsimp only; omega)).trans x1)
      obtain ⟨_, _, a2, _⟩ := (hT4.below hb5 hlt4).at hlast
      have u2 := fun o => cell_alloc' o a2
      have wl : wrap64 (l2 + st.l) = l2 + st.l := wrap64_small _ (by have := L2.out; omega) (by have := L2.out; omega)
      have hb6 := hb0.trans (((hb4.trans (hb5.mono hb4.size)).alloc (by have := hb4.size; have := hb5.size; omega) (.cells #[.int .i64 (l2 + st.l), .int .i64 c2] 26)).mono hb0.size)
      clear hb0 hb1 hb2 hb3 hb4 hb5 hT2 hT4 hW hW0 hW2 hW4 hA4 hlast x0 x1 a2 hq z4
      go_wp2
      go_ret
      exact ⟨rfl, hb6⟩
    | ok ts2 st2 =>
      rintro e w3 ⟨g2, cap2, rfl, hg2, hl3, hT3, hb3⟩
      have hjn' : allR (s ++ 10 :: t) = .ok (out ++ ts2.map (Tk.sh st.l)) (St.sh st.l st2) := by
        refine hjn.trans ?_
        rw [show allF (t.length + 1) [] ⟨t, 1, 1⟩ = .ok ts2 st2 from hr2]
        rfl
      obtain ⟨m1, m2, hq⟩ := tok_at t ts2 st2 hr2
      clear hjn hr2
      have hb4 := (hb2.trans (hb3.mono hb2.size)).alloc (by have := hb2.size; have := hb3.size; omega) (.cells #[.int .i64 0, .int .i64 0] 26)
      have hW4 := hW0.below hb4
      have hA4 := (Below.refl w3.heap.size w3).alloc (Nat.le_refl _) (.cells #[.int .i64 0, .int .i64 0] 26)
      have hT4 := (hT2.below hb3 hlt2).below hA4 (Nat.lt_of_lt_of_le hlt2 hb3.size)
      have hU4 := hT3.below hA4 hl3
      have hlt4 := Nat.lt_of_lt_of_le (Nat.lt_of_lt_of_le hlt2 hb3.size) hA4.size
      have hl4 := Nat.lt_of_lt_of_le hl3 hA4.size
      go_wp2_with fail
      generalize w3.alloc (.cells #[.int .i64 0, .int .i64 0] 26) = w4 at hb4 hW4 hT4 hU4 hlt4 hl4 ⊢
      rw [str_nl]
      refine (allq_any _ w4 hW4 hsl).mono ?_
      rw [hjn']
      rintro e w5 ⟨g5, cap5, rfl, hg5, hl5, hV5, hb5⟩
      have hlen5 : (out ++ ts2.map (Tk.sh st.l)).length = n + ts2.length := by
        have := LN.out
        rw [HT.out] at this
        simp at this
        simp
        omega
      have hA6 := (Below.refl w5.heap.size w5).alloc (Nat.le_refl _) (.cells #[.int .i64 0, .int .i64 0] 26)
      have hT6 := (hT4.below hb5 hlt4).below hA6 (Nat.lt_of_lt_of_le hlt4 hb5.size)
      have hU6 := (hU4.below hb5 hl4).below hA6 (Nat.lt_of_lt_of_le hl4 hb5.size)
      have hV6 := hV5.below hA6 hl5
      have la := Nat.lt_of_lt_of_le (Nat.lt_of_lt_of_le hlt4 hb5.size) hA6.size
      have lb := Nat.lt_of_lt_of_le (Nat.lt_of_lt_of_le hl4 hb5.size) hA6.size
      have lc := Nat.lt_of_lt_of_le hl5 hA6.size
      obtain ⟨_, _, a2, _⟩ := hT6.at hlast
      have hb6 := hb0.trans (((hb4.trans (hb5.mono hb4.size)).alloc (by have := hb4.size; have := hb5.size; omega) (.cells #[.int .i64 0, .int .i64 0] 26)).mono hb0.size)
      have bn : n ≤ 1001 := by have := LN.out; have := HC.out; omega
      have bm : ts2.length ≤ 1001 := by omega
      rw [hlen5]
      have b16 : 1 ≤ st.l ∧ st.l ≤ 1001 := by have := L2.out; omega
      clear hlen5 hb0 hb1 hb2 hb3 hb4 hb5 hT2 hT3 hT4 hU4 hV5 hW hW0 hW2 hW4 hA4 hA6 hl3 hl4 hl5 hlt4 hlt2 hg hg2 hg5 hlast hsl
      clear wn m2
      go_wp2
      generalize w5.alloc (.cells #[.int .i64 0, .int .i64 0] 26) = w6 at hT6 hU6 hV6 la lb lc hb6 a2 ⊢
      clear a2
      go_loopg [16] (n + ts2.length) (fun k i W => ∃ j : Nat, i = .int .i64 j ∧ j + k = n + ts2.length ∧ Below w6.heap.size w6 W)
      case atStart => exact ⟨0, rfl, by omega, Below.refl _ _⟩
      case round =>
        obtain ⟨j, rfl, hjk, hbr⟩ := hrel
        have zr := hbr.size
        have la' := Nat.lt_of_lt_of_le la zr
        have lb' := Nat.lt_of_lt_of_le lb zr
        have lc' := Nat.lt_of_lt_of_le lc zr
        have hTr := hT6.below hbr la
        have hUr := hU6.below hbr lb
        have hVr := hV6.below hbr lc
        have HK := Lib.hid hjk
        by_cases hj : j < n + ts2.length
        · by_cases hjn : j < n
          · obtain ⟨ta, hta⟩ : ∃ a, out[j]? = some a := by
              have e1 := LN.out
              rw [HT.out] at e1
              simp at e1
              exact ⟨out[j], List.getElem?_eq_getElem (by omega)⟩
            have hjo : j < out.length := (List.getElem?_eq_some_iff.1 hta).1
            obtain ⟨a0, a1, a2, a3⟩ := hTr.at (show ts[j]? = some ta by rw [HT.out, List.getElem?_append_left hjo]; exact hta)
            obtain ⟨c0, c1, c2, c3⟩ := hVr.at (show (out ++ ts2.map (Tk.sh st.l))[j]? = some ta by rw [List.getElem?_append_left hjo]; exact hta)
            have k0 := fun o => cell_alloc' o a0
            have k1 := fun o => cell_alloc' o a1
            have k2 := fun o => cell_alloc' o a2
            have k3 := fun o => cell_alloc' o a3
            have l0 := fun o => cell_alloc' o c0
            have l1 := fun o => cell_alloc' o c1
            have l2 := fun o => cell_alloc' o c2
            have l3 := fun o => cell_alloc' o c3
            clear hTr hUr hVr hT6 hU6 hV6 hjk hta hjo a0 a1 a2 a3 c0 c1 c2 c3 hq
            go_wp2_with fail
            go_quiet (fail)
            go_wp2
            have h1 := HK.out
            go_roundg (gk - 1)
            case measure => omega
            case rel =>
              refine ⟨j + 1, by rw [Int.natCast_add]; rfl, by omega, ?_⟩
              exact below_drewN (hbr.alloc zr _) _
          · obtain ⟨q, rfl⟩ : ∃ q, j = n + q := ⟨j - n, by omega⟩
            obtain ⟨ta, hta⟩ : ∃ a, ts2[q]? = some a := ⟨ts2[q], List.getElem?_eq_getElem (by omega)⟩
            have hlo : out.length = n := by
              have e1 := LN.out
              rw [HT.out] at e1
              simp at e1
              exact e1
            obtain ⟨a0, a1, a2, a3⟩ := hUr.at hta
            obtain ⟨c0, c1, c2, c3⟩ := hVr.at (show (out ++ ts2.map (Tk.sh st.l))[n + q]? = some (Tk.sh st.l ta) by
              rw [List.getElem?_append_right (by omega), hlo, Nat.add_sub_cancel_left, List.getElem?_map, hta]; rfl)
            have hbt := hq ta (List.mem_of_getElem? hta)
            have b1 : 1 ≤ ta.l := hbt.1
            have b2 : ta.l ≤ 1001 := by omega
            have b3 : st.l ≤ 1001 := b16.2
            have b4 : 1 ≤ st.l := b16.1
            have k0 := fun o => cell_alloc' o a0
            have k1 := fun o => cell_alloc' o a1
            have k2 := fun o => cell_alloc' o a2
            have k3 := fun o => cell_alloc' o a3
            have l0 := fun o => cell_alloc' o (show wr.cell? ⟨g5, (n + q) * 4, none⟩ = some (.int .i64 ta.kind) from c0)
            have l1 := fun o => cell_alloc' o (show wr.cell? ⟨g5, (n + q) * 4 + 1, none⟩ = some (.string ⟨ta.text.toArray⟩) from c1)
            have l2 := fun o => cell_alloc' o (show wr.cell? ⟨g5, (n + q) * 4 + 2, none⟩ = some (.int .i64 (ta.l + st.l)) from c2)
            have l3 := fun o => cell_alloc' o (show wr.cell? ⟨g5, (n + q) * 4 + 3, none⟩ = some (.int .i64 ta.c) from c3)
            have hq1 : q < ts2.length := by omega
            have iq : ((n : Int) + q - (n + 1) + 1).toNat = q := by omega
            clear hTr hUr hVr hT6 hU6 hV6 hjk hta hlo a0 a1 a2 a3 c0 c1 c2 c3 hq hbt b16 hj hjn
            go_wp2_with fail
            go_quiet (fail)
            go_wp2
            have h1 := HK.out
            go_roundg (gk - 1)
            case measure => omega
            case rel =>
              refine ⟨n + q + 1, by rw [Int.natCast_add]; rfl, by omega, ?_⟩
              exact below_drewN (hbr.alloc zr _) _
        · have hjn2 : j = n + ts2.length := by omega
          clear hTr hUr hVr hT6 hU6 hV6 hjk hq hj
          subst hjn2
          go_wp2
          go_ret
          exact ⟨rfl, hb6.trans (hbr.mono hb6.size)⟩
end Go.Proofs.YtegbclolpppajaaDoor
