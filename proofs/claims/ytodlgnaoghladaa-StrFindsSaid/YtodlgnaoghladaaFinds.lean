/- StrFinds: where it is first, there it is; where it is last, nowhere behind. -/
import Derived.Test.YtodlgnaoghladaaReplaces
import Derived.Lib.LastIndexLaws
import Derived.Deep.QuietTactic
import Derived.BigQuiet
namespace Go.Proofs.Ytodlgnaoghladaa
open Go.ChangeShapes Go.WideShapes Go.ChangeAt Go.RowKit

/-! ### plain -/
theorem occ_lt {s t : List UInt8} {i : Nat} (h : Lib.occAt s t i = true) (hi : i ≤ s.length) : i + t.length ≤ s.length := by
  have := (List.isPrefixOf_iff_prefix.1 h).length_le
  rw [List.length_drop] at this
  omega

theorem first_at (all t : List UInt8) (k : Nat) (hk : k ≤ all.length) (h : Lib.occAt all t k = true) :
    ∃ i : Nat, Lib.index all t = i ∧ i ≤ k ∧ i + t.length ≤ all.length ∧ Lib.occAt all t i = true ∧ ∀ j, j < i → Lib.occAt all t j = false := by
  rcases Lib.index_spec all t with ⟨_, hn⟩ | ⟨i, hi, hl, ho, hno⟩
  · have := hn k hk
    rw [h] at this
    cases this
  · refine ⟨i, hi, ?_, occ_lt ho hl, ho, hno⟩
    rcases Nat.lt_or_ge k i with h2 | h2
    · have := hno k h2
      rw [h] at this
      cases this
    · exact h2

theorem last_at (all t : List UInt8) (k : Nat) (hk : k ≤ all.length) (h : Lib.occAt all t k = true) :
    ∃ j : Nat, Lib.lastIndex all t = j ∧ k ≤ j ∧ j + t.length ≤ all.length ∧ Lib.occAt all t j = true := by
  have hroom := occ_lt h hk
  unfold Lib.lastIndex
  rw [if_pos (by omega)]
  rcases Lib.lastOcc_spec all t (all.length - t.length + 1) with ⟨_, hn⟩ | ⟨j, hj, he, ho, hn⟩
  · have := hn k (by omega)
    rw [h] at this
    cases this
  · refine ⟨j, he, ?_, by omega, ho⟩
    rcases Nat.lt_or_ge j k with h2 | h2
    · have := hn k h2 (by omega)
      rw [h] at this
      cases this
    · exact h2

theorem none_ahead (all t : List UInt8) (i : Nat) (ht : 0 < t.length) (hn : ∀ j, j < i → Lib.occAt all t j = false) : Lib.index (all.take (i + t.length - 1)) t = -1 := by
  apply Lib.index_none
  intro j hj
  rw [List.length_take] at hj
  cases h : Lib.occAt (all.take (i + t.length - 1)) t j with
  | false => rfl
  | true =>
    have h1 := occ_lt h (by rw [List.length_take]; exact hj)
    rw [List.length_take] at h1
    have hji : j < i := by omega
    have h2 : Lib.occAt all t j = true := by
      unfold Lib.occAt at h ⊢
      rw [List.isPrefixOf_iff_prefix] at h ⊢
      rw [List.drop_take] at h
      exact h.trans (List.take_prefix _ _)
    rw [hn j hji] at h2
    cases h2

theorem occ_extract (s t : ByteArray) (i : Nat) (h : Lib.occAt s.data.toList t.data.toList i = true) (hi : i + t.size ≤ s.size) : s.extract i (i + t.size) = t := by
  have h1 := Lib.occ_of_piece s t i hi
  rw [h] at h1
  have h2 : (s.extract i (i + t.size)).toList = t.toList := by simpa using h1.symm
  rw [Lib.toList_data, Lib.toList_data] at h2
  apply ByteArray.ext
  exact Array.ext' h2

theorem occ_mid (s t : ByteArray) (k : Nat) (hk : k ≤ s.size) : Lib.occAt (s.extract 0 k ++ t ++ s.extract k s.size).data.toList t.data.toList k = true := by
  have hl : s.data.toList.length = s.size := by rw [Array.length_toList]; rfl
  unfold Lib.occAt
  rw [List.isPrefixOf_iff_prefix, ByteArray.data_append, ByteArray.data_append, Array.toList_append, Array.toList_append, extract_list, extract_list]
  have e : (List.take (k - 0) (List.drop 0 s.data.toList)).length = k := by simp; omega
  rw [List.append_assoc, List.drop_append_of_le_length (by omega), List.drop_eq_nil_of_le (by omega)]
  exact List.prefix_append _ _

/-! ### the calls -/
theorem last_any (s p : ByteArray) (w : World) (hs : s.size < 4294967281) :
    Calls Try.prog 18 #[.string s, .string p] w fun e w' => e = .returned (.int .i64 (Lib.lastIndex s.data.toList p.data.toList + 1)) ∧ w = w' := by
  have h1 : -1 ≤ Lib.lastIndex s.data.toList p.data.toList ∧ Lib.lastIndex s.data.toList p.data.toList ≤ 4294967281 := by
    unfold Lib.lastIndex
    have hl : s.data.toList.length = s.size := by rw [Array.length_toList]; rfl
    split
    · rcases Lib.lastOcc_spec s.data.toList p.data.toList (s.data.toList.length - p.data.toList.length + 1) with ⟨e, _⟩ | ⟨i, hi, e, _⟩
      · rw [e]; omega
      · rw [e]; omega
    · omega
  obtain ⟨h1, h2⟩ := h1
  go_enter Try.func18, Try.ntmps18
  go_wp2_with fail
  refine (Try.strings_LastIndex s p (by omega) w).mono ?_
  generalize hk : Lib.lastIndex s.data.toList p.data.toList = k at h1 h2
  have HK := Lib.hid hk
  clear hk
  rintro e w' ⟨rfl, rfl⟩
  go_wp2
  go_ret
  rw [HK.out]
  exact ⟨rfl, rfl⟩

theorem cut_any (s : ByteArray) (a b : Int) (w : World) (hs : s.size ≤ 4294967281) (h1 : 1 ≤ a) (h2 : a ≤ b) (h3 : b ≤ s.size) :
    Calls Try.prog 19 #[.string s, .int .i64 a, .int .i64 b] w fun e w' => e = .returned (.tuple #[.string (s.extract (a.toNat - 1) b.toNat), .int .i64 0]) ∧ w = w' := by
  have hsl := run_slice_string (P := Try.prog) (w := w) 9 s .i64 .i64 (a - 1) b Try.underlying9 (by omega) (by omega) (by omega)
  have h4 : b ≤ 4294967281 := by omega
  have h5 : a ≤ 4294967281 := by omega
  go_enter Try.func19, Try.ntmps19
  go_wp2
  go_ret2
  exact ⟨rfl, rfl⟩
theorem cut_empty (s : ByteArray) (a b : Int) (w : World) (h2 : b < a) :
    Calls Try.prog 19 #[.string s, .int .i64 a, .int .i64 b] w fun e w' => e = .returned (.tuple #[.string ⟨#[]⟩, .int .i64 0]) ∧ w = w' := by
  go_enter Try.func19, Try.ntmps19
  go_wp2
  go_ret2
  exact ⟨rfl, rfl⟩

theorem cut_occ (s t : ByteArray) (i : Nat) (a b : Int) (w : World) (hs : s.size ≤ 4294967281) (ha : a = i + 1) (hb : b = i + t.size) (hi : i + t.size ≤ s.size) (h : Lib.occAt s.data.toList t.data.toList i = true) :
    Calls Try.prog 19 #[.string s, .int .i64 a, .int .i64 b] w fun e w' => e = .returned (.tuple #[.string t, .int .i64 0]) ∧ w = w' := by
  by_cases h0 : t.size = 0
  · have := cut_empty s a b w (by omega)
    have e : t = ⟨#[]⟩ := by
      apply ByteArray.ext
      exact Array.eq_empty_of_size_eq_zero h0
    rw [e]
    exact this
  · have := cut_any s a b w hs (by omega) (by omega) (by omega)
    have e1 : a.toNat - 1 = i := by omega
    have e2 : b.toNat = i + t.size := by omega
    rw [e1, e2, occ_extract s t i h hi] at this
    exact this

def LawFine (W : World) (e : Ending) (w' : World) : Prop := e = .returned (.bool true) ∧ Below W.heap.size W w'

set_option maxRecDepth 100000 in
theorem finds_walk (s t : ByteArray) (n : Int) (w : World) (hs : s.size ≤ maxLen) (ht : t.size ≤ maxLen) (hn : (Lit.int .i64 n).wf = true) (hW : MaxHeld w) :
    Calls Try.prog 6 #[.string s, .string t, .int .i64 n] w (LawFine w) := by
  unfold maxLen at hs ht
  by_cases b1 : 200 < s.size
  · go_enter Try.func6, Try.ntmps6
    go_wp2_with (go_at_call 7; refine (first_any _).mono ?_; rintro e w' ⟨rfl, rfl⟩)
    go_ret
    exact ⟨rfl, Below.refl _ _⟩
  replace b1 : s.size ≤ 200 := by omega
  by_cases b2 : 20 < t.size
  · go_enter Try.func6, Try.ntmps6
    go_wp2_with (go_at_call 7; refine (first_any _).mono ?_; rintro e w' ⟨rfl, rfl⟩)
    go_ret
    exact ⟨rfl, Below.refl _ _⟩
  replace b2 : t.size ≤ 20 := by omega
  clear hs ht
  go_enter Try.func6, Try.ntmps6
  go_wp2_with (go_at_call 7; refine (first_any _).mono ?_; rintro e w' ⟨rfl, rfl⟩)
  refine (number_any n _ _ hn (by omega) (by omega)).mono ?_
  have hn1 : 0 ≤ n % ((s.size : Int) + 1) := Int.emod_nonneg _ (by omega)
  have hn2 : n % ((s.size : Int) + 1) < (s.size : Int) + 1 := Int.emod_lt_of_pos _ (by omega)
  generalize n % ((s.size : Int) + 1) = q at hn1 hn2
  obtain ⟨k, rfl⟩ := Int.eq_ofNat_of_zero_le hn1
  rintro e w' ⟨rfl, rfl⟩
  have hk : (k : Int) ≤ s.size := by omega
  go_wp2
  go_quiet (fail)
  have hlen : (s.extract 0 k ++ t ++ s.extract k s.size).size = s.size + t.size := by
    simp only [ByteArray.size_append, ByteArray.size_extract]; omega
  have hocc := occ_mid s t k (by omega)
  generalize s.extract 0 k ++ t ++ s.extract k s.size = al at hlen hocc
  have hla : al.data.toList.length = al.size := by rw [Array.length_toList]; rfl
  have hlt : t.data.toList.length = t.size := by rw [Array.length_toList]; rfl
  obtain ⟨i, hi, hik, hir, hio, hin⟩ := first_at al.data.toList t.data.toList k (by omega) hocc
  obtain ⟨j, hj, hkj, hjr, hjo⟩ := last_at al.data.toList t.data.toList k (by omega) hocc
  have hna := none_ahead al.data.toList t.data.toList i
  have hle : al.size ≤ 220 := by omega
  have hir2 : i + t.size ≤ al.size := by omega
  have hjr2 : j + t.size ≤ al.size := by omega
  have HI := Lib.hid hi
  have HJ := Lib.hid hj
  have HIO := Lib.hid hio
  have HJO := Lib.hid hjo
  have HIN := Lib.hid hin
  have HNA := Lib.hid hna
  have HLT := Lib.hid hlt
  clear hlen hocc hla hlt hi hio hin hj hjo hna hir hjr
  go_wp2_with fail
  have hM : ∃ m, (w.drewN nq).cell? ⟨0, 0, none⟩ = some (.int .i64 m) := hW.1
  have hBB : Below w.heap.size w (w.drewN nq) := below_drewN (Below.refl _ _) _
  generalize w.drewN nq = wd at hM hBB
  have HM := Lib.hid hM
  clear hM hW
  refine (index_any al t wd (by omega) HM.out).mono ?_
  rw [HI.out]
  rintro e w' ⟨rfl, rfl⟩
  go_wp2_with fail
  refine (last_any al t wd (by omega)).mono ?_
  rw [HJ.out]
  rintro e w' ⟨rfl, rfl⟩
  go_wp2_with fail
  refine (cut_occ al t i _ _ wd (by omega) (by omega) (by omega) (by omega) HIO.out).mono ?_
  rintro e w' ⟨rfl, rfl⟩
  go_wp2_with fail
  refine (cut_occ al t j _ _ wd (by omega) (by omega) (by omega) (by omega) HJO.out).mono ?_
  rintro e w' ⟨rfl, rfl⟩
  by_cases h0 : t.size = 0
  · replace h0 : ((t.size : Int) == 0) = true := by simp [h0]
    go_wp2
    go_ret
    exact ⟨rfl, hBB⟩
  · have h1 : ((t.size : Int) == 0) = false := by simp [h0]
    replace h0 : 0 < t.size := by omega
    have hpre : Lib.index (al.extract 0 (i + t.size - 1)).data.toList t.data.toList = -1 := by
      rw [extract_list, ← HLT.out]
      simpa using HNA.out (by rw [HLT.out]; exact h0) HIN.out
    have HP := Lib.hid hpre
    clear hpre
    go_wp2_with fail
    rw [show i + 1 + t.size - 2 = i + t.size - 1 by omega]
    refine (index_any (al.extract 0 (i + t.size - 1)) t wd (by rw [ByteArray.size_extract]; omega) HM.out).mono ?_
    rw [HP.out]
    rintro e w' ⟨rfl, rfl⟩
    go_wp2
    go_ret
    exact ⟨rfl, hBB⟩
end Go.Proofs.Ytodlgnaoghladaa
