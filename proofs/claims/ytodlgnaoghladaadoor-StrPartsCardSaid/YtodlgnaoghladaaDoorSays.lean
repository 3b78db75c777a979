/- StrSays: the walk. -/
import Derived.Test.YtodlgnaoghladaaDoorRest
namespace Go.Proofs.YtodlgnaoghladaaDoor
open Go.ChangeShapes Go.WideShapes Go.ChangeAt Go.RowKit

theorem reflower_any (s : ByteArray) (w : World) (hs : s.size ≤ maxLen) :
    Calls Tryd.prog 19 #[.string s] w fun e w' => e = .returned (.string (loS s)) ∧ Below w.heap.size w w' := by
  go_enter Tryd.func19, Tryd.ntmps19
  go_wp2_with (go_at_call 28; refine (turn_any _ _ _ _ hs (by omega) (by omega) (by omega) (by omega)).mono ?_; rintro e w' ⟨rfl, hB⟩)
  go_ret
  exact ⟨rfl, hB⟩

theorem cutV_shape (s : ByteArray) (a b : Int) : ∃ x k, cutV s a b = .tuple #[.string x, .int .i64 k] := by
  unfold cutV; split
  · exact ⟨_, _, rfl⟩
  · split <;> exact ⟨_, _, rfl⟩

theorem both_cut (s : ByteArray) (a b : Int) (hs : s.size ≤ 1000) : ∃ x k, ∀ W, Calls Tryd.prog 10 #[.string s, .int .i64 a, .int .i64 b] W (fun e w' => e = .returned (.tuple #[.string x, .int .i64 k]) ∧ W = w') ∧
    Calls Tryd.prog 13 #[.string s, .int .i64 a, .int .i64 b] W (fun e w' => e = .returned (.tuple #[.string x, .int .i64 k]) ∧ W = w') := by
  obtain ⟨x, k, hv⟩ := cutV_shape s a b
  refine ⟨x, k, fun W => ⟨?_, ?_⟩⟩
  · have := cut_all s a b W hs; rwa [hv] at this
  · have := refcut_all s a b W hs; rwa [hv] at this

theorem wordsS_len (s : ByteArray) (hs : s.size ≤ 1000) : (wordsS s).length ≤ 1001 ∧ ∀ x ∈ wordsS s, x.size ≤ 1000 := by
  have hsl : s.data.toList.length = s.size := by rw [Array.length_toList]; rfl
  obtain ⟨h1, h2⟩ := words_len s.data.toList []
  unfold wordsS
  refine ⟨by rw [List.length_map]; omega, fun x hx => ?_⟩
  obtain ⟨y, hy, rfl⟩ := List.mem_map.1 hx
  have := h2 y hy
  rw [bs_size]
  simp only [List.length_nil] at this
  omega

set_option maxRecDepth 100000 in
theorem says_walk (s t : ByteArray) (a b : Int) (w : World) (hs : s.size ≤ maxLen) (ht : t.size ≤ maxLen) (hW : MaxHeld w) :
    Calls Tryd.prog 4 #[.string s, .string t, .int .i64 a, .int .i64 b] w (LawFine w) := by
  have hs0 := hs
  have HS0 := Lib.hid hs0
  unfold maxLen at hs ht
  by_cases b1 : 300 < s.size
  · go_enter Tryd.func4, Tryd.ntmps4
    go_wp2_with (go_at_call 5; refine (first_any _).mono ?_; rintro e w' ⟨rfl, rfl⟩)
    go_ret
    exact ⟨rfl, Below.refl _ _⟩
  replace b1 : s.size ≤ 300 := by omega
  by_cases b2 : 100 < t.size
  · go_enter Tryd.func4, Tryd.ntmps4
    go_wp2_with (go_at_call 5; refine (first_any _).mono ?_; rintro e w' ⟨rfl, rfl⟩)
    go_ret
    exact ⟨rfl, Below.refl _ _⟩
  replace b2 : t.size ≤ 100 := by omega
  clear hs ht hs0
  obtain ⟨x, k, hx⟩ := both_cut s a b (by omega)
  have HX := Lib.hid hx
  clear hx
  obtain ⟨hw1, hw2⟩ := wordsS_len s (by omega)
  have HWL : Hid ((wordsS s).length ≤ maxLen ∧ ∀ x ∈ wordsS s, x.size ≤ maxLen) := ⟨by unfold maxLen; omega, fun x hx => by have := hw2 x hx; unfold maxLen; omega⟩
  clear hw1 hw2
  go_enter Tryd.func4, Tryd.ntmps4
  go_wp2_with (go_at_call 5; refine (first_any _).mono ?_; rintro e w' ⟨rfl, rfl⟩)
  refine (HX.out _).1.mono ?_
  rintro e w' ⟨rfl, rfl⟩
  go_wp2_with fail
  refine (HX.out _).2.mono ?_
  rintro e w' ⟨rfl, rfl⟩
  go_wp2_with fail
  refine (index_any s t w (by omega) hW.1).mono ?_
  generalize hi : Lib.index s.data.toList t.data.toList + 1 = i
  have HI := Lib.hid hi
  clear hi
  rintro e w' ⟨rfl, rfl⟩
  go_wp2_with fail
  refine (refindex_any s t w (by omega) (by omega)).mono ?_
  rw [HI.out]
  rintro e w' ⟨rfl, rfl⟩
  go_wp2_with fail
  refine (last_any s t w (by omega)).mono ?_
  generalize hj : Lib.lastIndex s.data.toList t.data.toList + 1 = j
  have HJ := Lib.hid hj
  clear hj
  rintro e w' ⟨rfl, rfl⟩
  go_wp2_with fail
  refine (reflast_any s t w (by omega) (by omega)).mono ?_
  rw [HJ.out]
  rintro e w' ⟨rfl, rfl⟩
  go_wp2_with fail
  refine (upper_any s w HS0.out).mono ?_
  rintro e w1 ⟨rfl, hB1⟩
  go_wp2_with fail
  refine (refupper_any s w1 HS0.out).mono ?_
  rintro e w2 ⟨rfl, hB2⟩
  replace hB2 := hB1.trans (hB2.mono hB1.size)
  clear hB1
  go_wp2_with fail
  refine (lower_any s w2 HS0.out).mono ?_
  rintro e w3 ⟨rfl, hB3⟩
  replace hB3 := hB2.trans (hB3.mono hB2.size)
  clear hB2
  go_wp2_with fail
  refine (reflower_any s w3 HS0.out).mono ?_
  rintro e w4 ⟨rfl, hB4⟩
  replace hB4 := hB3.trans (hB4.mono hB3.size)
  clear hB3
  go_wp2_with fail
  refine (trim_any s w4 (by omega)).mono ?_
  generalize ht : bs (Lib.trimB s.data.toList 32) = tr
  have HT := Lib.hid ht
  clear ht
  rintro e w5 ⟨rfl, hw5⟩
  have hB5 : Below w.heap.size w w5 := by
    rcases hw5 with rfl | rfl
    · exact hB4
    · exact hB4.drew
  clear hB4 hw5
  go_wp2_with fail
  refine (reftrim_any s w5 (by omega)).mono ?_
  rw [HT.out]
  rintro e w' ⟨rfl, rfl⟩
  go_wp2_with fail
  refine (words_any s w5 (by omega) (hW.below hB5)).mono ?_
  rintro e w6 ⟨v6, rfl, hown6, hB6⟩
  obtain ⟨a6, c6, rfl, hS6⟩ := hown6.strs HWL.out.1 HWL.out.2
  replace hB6 := hB5.trans (hB6.mono hB5.size)
  clear hown6 hB5
  go_wp2_with fail
  refine (refwords_any s w6 (by omega)).mono ?_
  rintro e w7 ⟨v7, rfl, hown7, hB7⟩
  obtain ⟨a7, c7, rfl, hS7⟩ := hown7.strs HWL.out.1 HWL.out.2
  have hS67 := hS6.below hB7 (Nat.le_refl _)
  replace hB7 := hB6.trans (hB7.mono hB6.size)
  clear hown7 hB6 hS6
  generalize wordsS s = ws at hS67 hS7
  go_wp2_with fail
  refine (same_any a6 a7 c6 c7 ws w7 hS67 hS7).mono ?_
  rintro e w8 ⟨rfl, hB8⟩
  replace hB8 := hB7.trans (hB8.mono hB7.size)
  go_wp2
  go_ret
  exact ⟨rfl, hB8⟩
theorem maxHeld (W : World) (h : W.ShapedOpen Tryd.prog) : MaxHeld W := by
  obtain ⟨m, hm⟩ := Tryd.laysM143.s1_3 W h
  have hm' : W.cell? ⟨0, 0, none⟩ = some (.int .i64 m) := hm
  exact ⟨⟨m, hm'⟩, World.block_lt_of_cell? W ⟨0, 0, none⟩ hm'⟩

theorem says_row (s t : ByteArray) (a b : Int) (w : World) (hs : s.size ≤ maxLen) (ht : t.size ≤ maxLen) (_ : (Lit.int .i64 a).wf = true) (_ : (Lit.int .i64 b).wf = true) (hW : MaxHeld w) :
    Calls Tryd.prog 4 #[.string s, .string t, .int .i64 a, .int .i64 b] w (LawFine w) := says_walk s t a b w hs ht hW
end Go.Proofs.YtodlgnaoghladaaDoor
