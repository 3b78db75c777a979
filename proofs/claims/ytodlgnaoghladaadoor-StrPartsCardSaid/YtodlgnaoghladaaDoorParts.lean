/- StrParts: the walk. -/
import Derived.Test.YtodlgnaoghladaaDoorSays
namespace Go.Proofs.YtodlgnaoghladaaDoor
open Go.ChangeShapes Go.WideShapes Go.ChangeAt Go.RowKit

theorem cut_head (s : ByteArray) (k : Int) (w : World) (hs : s.size ≤ 1000) (h0 : 0 ≤ k) (h1 : k ≤ s.size) :
    Calls Tryd.prog 10 #[.string s, .int .i64 1, .int .i64 k] w fun e w' => e = .returned (.tuple #[.string (s.extract 0 k.toNat), .int .i64 0]) ∧ w = w' := by
  have h := cut_all s 1 k w hs
  have e : cutV s 1 k = .tuple #[.string (s.extract 0 k.toNat), .int .i64 0] := by
    unfold cutV
    by_cases hk : k < 1
    · rw [if_pos hk]
      have : k.toNat = 0 := by omega
      rw [this]
      have e2 : s.extract 0 0 = ⟨#[]⟩ := by
        apply ByteArray.ext
        apply Array.ext'
        rw [extract_list]
        simp
      rw [e2]
    · rw [if_neg hk, if_neg (by omega)]
      rfl
  rwa [e] at h

theorem cut_tail (s : ByteArray) (k a b : Int) (w : World) (hs : s.size ≤ 1000) (h0 : 0 ≤ k) (h1 : k ≤ s.size) (ha : a = k + 1) (hb : b = s.size) :
    Calls Tryd.prog 10 #[.string s, .int .i64 a, .int .i64 b] w fun e w' => e = .returned (.tuple #[.string (s.extract k.toNat s.size), .int .i64 0]) ∧ w = w' := by
  subst ha hb
  have h := cut_all s (k + 1) s.size w hs
  have e : cutV s (k + 1) s.size = .tuple #[.string (s.extract k.toNat s.size), .int .i64 0] := by
    unfold cutV
    by_cases hk : (s.size : Int) < k + 1
    · rw [if_pos hk]
      have : k.toNat = s.size := by omega
      rw [this]
      have e2 : s.extract s.size s.size = ⟨#[]⟩ := by
        apply ByteArray.ext
        apply Array.ext'
        rw [extract_list]
        simp
      rw [e2]
    · rw [if_neg hk, if_neg (by omega)]
      have e3 : (k + 1).toNat - 1 = k.toNat := by omega
      rw [e3, Int.toNat_natCast]
  rwa [e] at h

theorem cat_cut (s : ByteArray) (k : Nat) (hk : k ≤ s.size) : s.extract 0 k ++ s.extract k s.size = s := by
  have hl : s.data.toList.length = s.size := by rw [Array.length_toList]; rfl
  apply ByteArray.ext
  rw [ByteArray.data_append]
  apply Array.ext'
  rw [Array.toList_append, extract_list, extract_list, List.drop_zero, Nat.sub_zero, List.take_of_length_le (l := s.data.toList.drop k) (by rw [List.length_drop]; omega), List.take_append_drop]

/-- the words joined -/
def joinedS (s : ByteArray) : ByteArray := bs (joined (wordsL [] s.data.toList))

theorem isW (s : ByteArray) : ∀ x ∈ wordsL [] s.data.toList, isWord x := words_are _ _ (by simp)

theorem wordsS_joined (s : ByteArray) : wordsS (joinedS s) = wordsS s := by
  unfold wordsS joinedS
  rw [bs_data, words_joined _ (isW s)]

theorem trim_joined (s : ByteArray) : bs (Lib.trimB (joinedS s).data.toList 32) = joinedS s := by
  obtain ⟨h1, h2, _⟩ := joined_ends _ (isW s)
  unfold joinedS
  rw [bs_data, trim_same _ h1 h2]

theorem joinedS_size (s : ByteArray) : (joinedS s).size ≤ s.size := by
  have h := joined_len s.data.toList []
  have hsl : s.data.toList.length = s.size := by rw [Array.length_toList]; rfl
  unfold joinedS
  rw [bs_size]
  simp only [List.length_nil] at h
  omega

theorem join_words (s : ByteArray) (a : Option Addr) (cap : Nat) (w : World) (hs : s.size ≤ 300) (hS : StrsAt w a (wordsS s)) :
    Calls Tryd.prog 7 #[.string ⟨#[32]⟩, .slice a (wordsS s).length cap] w (Some4 w (.tuple #[.string (joinedS s), .int .i64 0])) := by
  obtain ⟨h1, h2⟩ := wordsS_len s (by omega)
  have h := join_any ⟨#[32]⟩ a cap (wordsS s) w hS (by decide) (by omega) (fun x hx => by have := h2 x hx; omega)
  have e : joinK (ByteArray.mk #[32]).data.toList (wordsS s) (wordsS s).length = joined (wordsL [] s.data.toList) := by
    have := joinK_joined (wordsL [] s.data.toList)
    unfold wordsS
    rw [List.length_map]
    exact this
  have hj := joinedS_size s
  unfold joinedS at hj
  rw [bs_size] at hj
  rw [e, replV_fine (by omega)] at h
  exact h

set_option maxRecDepth 100000 in
theorem parts_walk (s : ByteArray) (n : Int) (w : World) (hs : s.size ≤ maxLen) (hn : (Lit.int .i64 n).wf = true) (hW : MaxHeld w) :
    Calls Tryd.prog 3 #[.string s, .int .i64 n] w (LawFine w) := by
  have HS0 := Lib.hid hs
  unfold maxLen at hs
  by_cases b1 : 300 < s.size
  · go_enter Tryd.func3, Tryd.ntmps3
    go_wp2_with (go_at_call 5; refine (first_any _).mono ?_; rintro e w' ⟨rfl, rfl⟩)
    go_ret
    exact ⟨rfl, Below.refl _ _⟩
  replace b1 : s.size ≤ 300 := by omega
  clear hs
  obtain ⟨hw1, hw2⟩ := wordsS_len s (by omega)
  have HWL : Hid ((wordsS s).length ≤ maxLen ∧ ∀ x ∈ wordsS s, x.size ≤ maxLen) := ⟨by unfold maxLen; omega, fun x hx => by have := hw2 x hx; unfold maxLen; omega⟩
  clear hw1 hw2
  have hx : -9223372036854775808 ≤ n ∧ n ≤ 9223372036854775807 := by simpa [Lit.wf, IntKind.min, IntKind.max, IntKind.signed, IntKind.bits] using hn
  obtain ⟨hx1, hx2⟩ := hx
  have hjs := joinedS_size s
  go_enter Tryd.func3, Tryd.ntmps3
  go_wp2_with (go_at_call 5; refine (first_any _).mono ?_; rintro e w' ⟨rfl, rfl⟩)
  refine (words_any s w (by omega) hW).mono ?_
  rintro e w1 ⟨v1, rfl, hown1, hB1⟩
  obtain ⟨a1, c1, rfl, hS1⟩ := hown1.strs HWL.out.1 HWL.out.2
  clear hown1
  have HWS : Hid (Calls Tryd.prog 7 #[.string ⟨#[32]⟩, .slice a1 (wordsS s).length c1] w1 (Some4 w1 (.tuple #[.string (joinedS s), .int .i64 0]))) := join_words s a1 c1 w1 b1 hS1
  generalize hws : wordsS s = ws at hS1 HWS HWL
  have HWJ : Hid (wordsS (joinedS s) = ws) := by show _ = _; rw [wordsS_joined, hws]
  have HTJ : Hid (bs (Lib.trimB (joinedS s).data.toList 32) = joinedS s) := trim_joined s
  clear hws
  go_wp2_with fail
  refine HWS.out.mono ?_
  clear HWS
  generalize joinedS s = j at hjs HWJ HTJ
  rintro e w2 ⟨rfl, hB2⟩
  have hS2 := hS1.below hB2 (Nat.le_refl _)
  replace hB2 := hB1.trans (hB2.mono hB1.size)
  clear hB1 hS1
  go_wp2_with fail
  refine (words_any j w2 (by omega) (hW.below hB2)).mono ?_
  rw [HWJ.out]
  rintro e w3 ⟨v3, rfl, hown3, hB3⟩
  obtain ⟨a3, c3, rfl, hS3⟩ := hown3.strs HWL.out.1 HWL.out.2
  have hS23 := hS2.below hB3 (Nat.le_refl _)
  replace hB3 := hB2.trans (hB3.mono hB2.size)
  clear hown3 hB2 hS2
  go_wp2_with fail
  refine (same_any a3 a1 c3 c1 ws w3 hS3 hS23).mono ?_
  rintro e w4 ⟨rfl, hB4⟩
  replace hB4 := hB3.trans (hB4.mono hB3.size)
  clear hB3 hS3 hS23
  go_wp2_with fail
  refine (trim_any j w4 (by omega)).mono ?_
  rw [HTJ.out]
  rintro e w5 ⟨rfl, hw5⟩
  have hB5 : Below w.heap.size w w5 := by
    rcases hw5 with rfl | rfl
    · exact hB4
    · exact hB4.drew
  clear hB4 hw5
  have ht1 : n.tmod ((s.size : Int) + 1) < (s.size : Int) + 1 := Int.tmod_lt_of_pos n (by omega)
  have ht2 : -((s.size : Int) + 1) < n.tmod ((s.size : Int) + 1) := by
    have := Int.tmod_lt_of_pos (-n) (b := (s.size : Int) + 1) (by omega)
    rw [Int.neg_tmod] at this
    omega
  have hnz : ((s.size : Int) + 1 == 0) = false := by simp; omega
  generalize hq : n.tmod ((s.size : Int) + 1) = q at ht1 ht2
  go_wp2_with fail
  · have hqn : q < 0 := by assumption
    have hz0 : 0 ≤ q + s.size + 1 := by omega
    have hz1 : q + s.size + 1 ≤ s.size := by omega
    generalize q + s.size + 1 = z at hz0 hz1
    clear ht1 ht2 hqn
    obtain ⟨k, rfl⟩ := Int.eq_ofNat_of_zero_le hz0
    have hcat := cat_cut s k (by omega)
    refine (cut_head s k w5 (by omega) hz0 hz1).mono ?_
    rw [Int.toNat_natCast]
    rintro e w' ⟨rfl, rfl⟩
    go_wp2_with fail
    refine (cut_tail s k _ _ w5 (by omega) hz0 hz1 (by omega) rfl).mono ?_
    rw [Int.toNat_natCast]
    generalize s.extract 0 k = x at hcat
    generalize s.extract k s.size = y at hcat
    have hcs : x.size + y.size = s.size := by rw [← hcat, ByteArray.size_append]
    have hcs2 : x.size ≤ 300 := by omega
    have hcs3 : y.size ≤ 300 := by omega
    clear hcs
    rintro e w' ⟨rfl, rfl⟩
    go_wp2_with fail
    refine (cut_out s 0 1 w5 (by omega) (by omega) (.inl (by omega))).mono ?_
    rintro e w' ⟨rfl, rfl⟩
    go_wp2_with fail
    refine (cut_out s 1 _ w5 (by omega) (by omega) (.inr (by omega))).mono ?_
    rintro e w' ⟨rfl, rfl⟩
    go_wp2_with fail
    refine (upper_any s w5 HS0.out).mono ?_
    rintro e w6 ⟨rfl, hB6⟩
    go_wp2_with fail
    refine (lower_any (upS s) w6 (by rw [upS, size_mapS]; exact HS0.out)).mono ?_
    rw [loS_upS]
    rintro e w7 ⟨rfl, hB7⟩
    replace hB7 := hB6.trans (hB7.mono hB6.size)
    go_wp2_with fail
    refine (upper_any (loS s) w7 (by rw [loS, size_mapS]; exact HS0.out)).mono ?_
    rw [upS_loS]
    rintro e w8 ⟨rfl, hB8⟩
    replace hB8 := hB7.trans (hB8.mono hB7.size)
    go_wp2_with fail
    refine (upper_any s w8 HS0.out).mono ?_
    rintro e w9 ⟨rfl, hB9⟩
    replace hB9 := hB8.trans (hB9.mono hB8.size)
    clear hB6 hB7 hB8
    go_wp2
    go_ret
    exact ⟨rfl, hB5.trans (hB9.mono hB5.size)⟩
  · have hz0 : 0 ≤ q := by omega
    have hz1 : q ≤ s.size := by omega
    clear ht1 ht2
    generalize q = z at hz0 hz1
    obtain ⟨k, rfl⟩ := Int.eq_ofNat_of_zero_le hz0
    have hcat := cat_cut s k (by omega)
    refine (cut_head s k w5 (by omega) hz0 hz1).mono ?_
    rw [Int.toNat_natCast]
    rintro e w' ⟨rfl, rfl⟩
    go_wp2_with fail
    refine (cut_tail s k _ _ w5 (by omega) hz0 hz1 (by omega) rfl).mono ?_
    rw [Int.toNat_natCast]
    generalize s.extract 0 k = x at hcat
    generalize s.extract k s.size = y at hcat
    have hcs : x.size + y.size = s.size := by rw [← hcat, ByteArray.size_append]
    have hcs2 : x.size ≤ 300 := by omega
    have hcs3 : y.size ≤ 300 := by omega
    clear hcs
    rintro e w' ⟨rfl, rfl⟩
    go_wp2_with fail
    refine (cut_out s 0 1 w5 (by omega) (by omega) (.inl (by omega))).mono ?_
    rintro e w' ⟨rfl, rfl⟩
    go_wp2_with fail
    refine (cut_out s 1 _ w5 (by omega) (by omega) (.inr (by omega))).mono ?_
    rintro e w' ⟨rfl, rfl⟩
    go_wp2_with fail
    refine (upper_any s w5 HS0.out).mono ?_
    rintro e w6 ⟨rfl, hB6⟩
    go_wp2_with fail
    refine (lower_any (upS s) w6 (by rw [upS, size_mapS]; exact HS0.out)).mono ?_
    rw [loS_upS]
    rintro e w7 ⟨rfl, hB7⟩
    replace hB7 := hB6.trans (hB7.mono hB6.size)
    go_wp2_with fail
    refine (upper_any (loS s) w7 (by rw [loS, size_mapS]; exact HS0.out)).mono ?_
    rw [upS_loS]
    rintro e w8 ⟨rfl, hB8⟩
    replace hB8 := hB7.trans (hB8.mono hB7.size)
    go_wp2_with fail
    refine (upper_any s w8 HS0.out).mono ?_
    rintro e w9 ⟨rfl, hB9⟩
    replace hB9 := hB8.trans (hB9.mono hB8.size)
    clear hB6 hB7 hB8
    go_wp2
    go_ret
    exact ⟨rfl, hB5.trans (hB9.mono hB5.size)⟩
end Go.Proofs.YtodlgnaoghladaaDoor
