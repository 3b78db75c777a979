/- What was read without an error: the bytes that were read are the value's own. -/
import Derived.Test.YtmkghfkikclodaaDoorDumpV
namespace Go.Proofs.YtmkghfkikclodaaDoor
open Go.RowKit

theorem leB_mod (n : Nat) : ∀ (m : Nat) (b : Nat), leB (n + b * 256 ^ m) m = leB n m := by
  have key : ∀ (m j b : Nat), j ≤ m → leB (n + b * 256 ^ m) j = leB n j := by
    intro m j
    induction j with
    | zero => intro b _; rfl
    | succ j ih =>
      intro b hj
      rw [leB, leB, ih b (by omega)]
      congr 2
      have h1 : (256 : Nat) ^ m = 256 ^ j * (256 * 256 ^ (m - (j + 1))) := by
        rw [show (256 : Nat) * 256 ^ (m - (j + 1)) = 256 ^ (m - j) by rw [show m - j = (m - (j + 1)) + 1 by omega, Nat.pow_succ, Nat.mul_comm], ← Nat.pow_add]
        congr 1; omega
      have h2 : (n + b * 256 ^ m) / 256 ^ j = n / 256 ^ j + 256 * (b * 256 ^ (m - (j + 1))) := by
        rw [h1, show b * (256 ^ j * (256 * 256 ^ (m - (j + 1)))) = 256 ^ j * (256 * (b * 256 ^ (m - (j + 1)))) by rw [Nat.mul_left_comm, Nat.mul_left_comm b 256], Nat.add_mul_div_left _ _ (Nat.pow_pos (by decide))]
      rw [h2]
      apply UInt8.toNat_inj.1
      simp
  intro m b
  exact key m m b (Nat.le_refl _)

theorem leB_leN (bs : List UInt8) (pos : Nat) : ∀ m, pos + m ≤ bs.length → leB (leN bs pos m) m = (bs.drop pos).take m
  | 0, _ => by simp [leB]
  | m + 1, h => by
    rw [leB, leN, leB_mod, leB_leN bs pos m (by omega), List.take_add_one]
    congr 1
    have h1 := leN_lt bs pos m
    rw [Nat.add_mul_div_right _ _ (Nat.pow_pos (by decide)), Nat.div_eq_of_lt h1, Nat.zero_add, List.getElem?_drop, List.getElem?_eq_getElem (by omega)]
    simp only [Option.toList_some, List.cons.injEq, and_true]
    apply UInt8.toNat_inj.1
    have h2 : byteAt bs (pos + m) = bs[pos + m].toNat := by unfold byteAt; simp [List.getD, show pos + m < bs.length by omega]
    rw [h2]
    simp

/-- from r to r' just the bytes L were read, without an error -/
def Read (bs : List UInt8) (r r' : Rd) (L : List UInt8) : Prop := r.2 = Option.none ∧ r'.2 = Option.none ∧ r'.1 ≤ bs.length ∧ bs.take r'.1 = bs.take r.1 ++ L
theorem Read.trans {bs : List UInt8} {r r' r'' : Rd} {L L' : List UInt8} (h : Read bs r r' L) (k : Read bs r' r'' L') : Read bs r r'' (L ++ L') :=
  ⟨h.1, k.2.1, k.2.2.1, by rw [k.2.2.2, h.2.2.2, List.append_assoc]⟩
theorem Read.refl {bs : List UInt8} {r : Rd} (h : r.2 = Option.none) (hl : r.1 ≤ bs.length) : Read bs r r [] := ⟨h, h, hl, by simp⟩

theorem take_add' (bs : List UInt8) (a m : Nat) : bs.take (a + m) = bs.take a ++ (bs.drop a).take m := by
  rw [List.take_add]

theorem numM_read (bs : List UInt8) (m : Nat) (r : Rd) (h : (numM bs m r).2.2 = Option.none) : Read bs r (numM bs m r).2 (leB (numM bs m r).1 m) ∧ (numM bs m r).1 < 256 ^ m := by
  unfold numM at h ⊢
  split
  · rename_i hc
    rw [if_pos hc] at h
    rcases hc with hc | hc
    · obtain ⟨pos, err⟩ := r
      cases err with
      | none => simp at hc
      | some g => simp [Rd.fail] at h
    · obtain ⟨pos, err⟩ := r
      cases err <;> simp [Rd.fail] at h
  · rename_i hc
    simp only [not_or] at hc
    have h1 : r.2 = Option.none := by simpa using hc.1
    refine ⟨⟨h1, rfl, by simp only; omega, ?_⟩, leN_lt _ _ _⟩
    simp only
    rw [take_add', leB_leN _ _ _ (by omega)]

theorem uns_sgn (n : Nat) (h : n < 18446744073709551616) : uns (sgn n) = n := by
  unfold uns sgn
  split <;> omega

theorem intM_read (bs : List UInt8) (r : Rd) (h : (intM bs r).2.2 = Option.none) : Read bs r (intM bs r).2 (leB (uns (intM bs r).1) 8) := by
  unfold intM at h ⊢
  obtain ⟨h1, h2⟩ := numM_read bs 8 r h
  rw [uns_sgn _ (by simpa using h2)]
  exact h1

theorem manyM_read (bs : List UInt8) (most : Nat) (r : Rd) (h : (manyM bs most r).2.2 = Option.none) : Read bs r (manyM bs most r).2 (leB (manyM bs most r).1 4) ∧ (manyM bs most r).1 ≤ most := by
  unfold manyM at h ⊢
  split
  · rename_i hc
    rw [if_pos hc] at h
    generalize (numM bs 4 r).2 = q at h
    obtain ⟨a, b⟩ := q
    cases b <;> simp [Rd.fail] at h
  · rename_i hc
    rw [if_neg hc] at h
    split
    · rename_i he
      rw [if_pos he] at h
      simp only at h
      rw [h] at he
      simp at he
    · rename_i he
      rw [if_neg he] at h
      exact ⟨(numM_read bs 4 r h).1, by omega⟩

theorem textM_read (bs : List UInt8) (most : Nat) (r : Rd) (hr : r.1 ≤ bs.length) (h : (textM bs most r).2.2 = Option.none) :
    Read bs r (textM bs most r).2 (leB (textM bs most r).1.size 4 ++ (textM bs most r).1.data.toList) ∧ (textM bs most r).1.size ≤ most := by
  have hp := manyM_pos bs most r hr
  unfold textM at h ⊢
  split
  · rename_i hc
    rw [if_pos hc] at h
    generalize (manyM bs most r).2 = q at h
    obtain ⟨a, b⟩ := q
    cases b <;> simp [Rd.fail] at h
  · rename_i hc
    rw [if_neg hc] at h
    split
    · rename_i he
      rw [if_pos he] at h
      simp only at h
      rw [h] at he
      simp at he
    · rename_i he
      have hn : (manyM bs most r).2.2 = Option.none := by simpa using he
      obtain ⟨h1, h2⟩ := manyM_read bs most r hn
      have hs : ByteArray.size ⟨((bs.drop (manyM bs most r).2.1).take (manyM bs most r).1).toArray⟩ = (manyM bs most r).1 := by
        show (List.toArray _).size = _
        simp; omega
      simp only
      rw [hs]
      refine ⟨h1.trans ⟨hn, rfl, by simp only; omega, ?_⟩, h2⟩
      simp only
      rw [take_add']

theorem readL_read (bs : List UInt8) (f : Rd → Val × Rd) (hfp : ∀ r, r.1 ≤ bs.length → (f r).2.1 ≤ bs.length) (hf : ∀ r, r.1 ≤ bs.length → (f r).2.2 = Option.none → Read bs r (f r).2 (bytesV (f r).1) ∧ SmallM (f r).1) :
    ∀ (n : Nat) (r : Rd), r.1 ≤ bs.length → (readL f n r).2.2 = Option.none → Read bs r (readL f n r).2 (bytesL (readL f n r).1) ∧ SmallL (readL f n r).1 ∧ (readL f n r).1.length = n
  | 0, r, hr, h => ⟨Read.refl h hr, trivial, rfl⟩
  | n + 1, r, hr, h => by
    unfold readL at h ⊢
    by_cases hs : r.2.isSome = true
    · rw [if_pos hs] at h
      simp only at h
      rw [h] at hs
      simp at hs
    · rw [if_neg hs] at h ⊢
      simp only at h ⊢
      obtain ⟨h1, h2, h3⟩ := readL_read bs f hfp hf n (f r).2 (hfp r hr) h
      obtain ⟨h4, h5⟩ := hf r hr h1.1
      exact ⟨h4.trans h1, ⟨h5, h2⟩, by simp [h3]⟩

theorem kind_byte (k : Nat) (h : k < 256) : [UInt8.ofNat (uns (k : Int))] = leB k 1 := by
  have : uns (k : Int) = k := by unfold uns; omega
  simp [leB, this]

theorem readV_read (bs : List UInt8) : ∀ (room : Nat) (r : Rd), r.1 ≤ bs.length → (readV bs room r).2.2 = Option.none → Read bs r (readV bs room r).2 (bytesV (readV bs room r).1) ∧ SmallM (readV bs room r).1
  | 0, r, hr, h => by
    obtain ⟨a, b⟩ := r
    cases b <;> simp [readV, Rd.fail] at h
  | room + 1, r, hr, h => by
    have hp := numM_pos bs 1 r hr
    have e0 : ByteArray.empty.size = 0 := rfl
    unfold readV at h ⊢
    by_cases h1 : (numM bs 1 r).1 = 0 ∨ (numM bs 1 r).1 = 1 ∨ (numM bs 1 r).1 = 3
    · rw [if_pos h1] at h ⊢
      have hi := intM_read bs _ h
      obtain ⟨hn, hlt⟩ := numM_read bs 1 r hi.1
      refine ⟨?_, ⟨by rw [e0]; decide, trivial⟩⟩
      simp only
      rw [bytesV, kind_byte _ (by simpa using hlt), if_neg (by omega), if_neg (by omega)]
      exact hn.trans hi
    · rw [if_neg h1] at h ⊢
      by_cases h2 : (numM bs 1 r).1 = 2
      · rw [if_pos h2] at h ⊢
        obtain ⟨hi, hm⟩ := textM_read bs 4096 _ hp h
        obtain ⟨hn, hlt⟩ := numM_read bs 1 r hi.1
        refine ⟨?_, ⟨by omega, trivial⟩⟩
        simp only
        rw [bytesV, show ((2 : Int)) = ((2 : Nat) : Int) from rfl, kind_byte 2 (by decide), if_pos rfl]
        rw [h2] at hn
        exact hn.trans hi
      · rw [if_neg h2] at h ⊢
        by_cases h4 : (numM bs 1 r).1 = 4
        · rw [if_pos h4] at h ⊢
          have hq := manyM_pos bs 4096 _ hp
          obtain ⟨hi, hsm, hlen⟩ := readL_read bs _ (readV_pos bs room) (fun r hr h => readV_read bs room r hr h) _ _ hq.1 h
          obtain ⟨hm, hle⟩ := manyM_read bs 4096 _ hi.1
          obtain ⟨hn, hlt⟩ := numM_read bs 1 r hm.1
          refine ⟨?_, ⟨by rw [e0]; decide, hsm⟩⟩
          simp only
          rw [bytesV, show ((4 : Int)) = ((4 : Nat) : Int) from rfl, kind_byte 4 (by decide), if_neg (by decide), if_pos rfl, hlen]
          rw [h4] at hn
          exact hn.trans (hm.trans hi)
        · rw [if_neg h4] at h
          generalize (numM bs 1 r).2 = q at h
          obtain ⟨a, b⟩ := q
          cases b <;> simp [Rd.fail] at h

/-- what ReadValue gives without an error -/
theorem readM_read (bs : List UInt8) (h : (readM bs).2.2 = Option.none) : validM (readM bs).1 = Option.none ∧ SmallM (readM bs).1 ∧ 1 ≤ (readM bs).2.1 ∧ (readM bs).2.1 ≤ bs.length ∧ bytesV (readM bs).1 = bs.take (readM bs).2.1 := by
  unfold readM at h ⊢
  by_cases hs : (rightM bs (0, Option.none)).2.2.isSome = true
  · rw [if_pos hs] at h
    simp only at h
    rw [h] at hs
    simp at hs
  · rw [if_neg hs]
    simp only
    have hn : (rightM bs (0, Option.none)).2.2 = Option.none := by simpa using hs
    unfold rightM at hn ⊢
    by_cases he : (readV bs 40 (0, Option.none)).2.2.isSome = true
    · rw [if_pos he] at hn
      rw [hn] at he
      simp at he
    · rw [if_neg he] at hn ⊢
      have hv : (readV bs 40 (0, Option.none)).2.2 = Option.none := by simpa using he
      cases hq : validM (readV bs 40 (0, Option.none)).1 with
      | some g =>
        rw [hq] at hn
        simp only [Rd.fail, hv] at hn
        simp at hn
      | none =>
        simp only
        obtain ⟨⟨_, _, h1, h2⟩, h3⟩ := readV_read bs 40 (0, Option.none) (Nat.zero_le _) hv
        have h2 : bs.take (readV bs 40 (0, Option.none)).2.1 = bytesV (readV bs 40 (0, Option.none)).1 := by simpa using h2
        have h4 := bytesV_pos (readV bs 40 (0, Option.none)).1
        rw [← h2, List.length_take] at h4
        exact ⟨hq, h3, by omega, h1, h2.symm⟩
end Go.Proofs.YtmkghfkikclodaaDoor
