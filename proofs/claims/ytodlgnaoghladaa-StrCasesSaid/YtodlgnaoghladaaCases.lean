/- StrCases: capitals and small letters. -/
import Derived.Test.YtodlgnaoghladaaLet
import Derived.Deep.QuietTactic
import Derived.BigQuiet
import Derived.WalkSmall
namespace Go.Proofs.Ytodlgnaoghladaa
open Go.ChangeShapes Go.WideShapes Go.ChangeAt Go.RowKit

def kindOf (c : UInt8) : Bool :=
  if c.toNat < 65 ∨ (90 < c.toNat ∧ c.toNat < 97) ∨ 122 < c.toNat then upB c == c && loB c == c
  else if 97 ≤ c.toNat then loB c == c && decide (((upB c).toNat : Int) = (c.toNat : Int) - 32) && decide (bits .or .u8 ((c.toNat : Int) - 32) 32 = c.toNat) && (((c.toNat : Int) - 32) == (c.toNat : Int)) == false
  else upB c == c && decide (((loB c).toNat : Int) = (c.toNat : Int) + 32) && decide (bits .or .u8 ((c.toNat : Int)) 32 = (c.toNat : Int) + 32) && ((c.toNat : Int) == (c.toNat : Int) + 32) == false

theorem kindOf_all (c : UInt8) : kindOf c = true := by
  have : ∀ n : Fin 256, kindOf (UInt8.ofNat n.val) = true := by decide +kernel
  have h := this ⟨c.toNat, c.toNat_lt⟩
  simpa using h

theorem byteKind (c : UInt8) : (c.toNat < 65 ∧ upB c = c ∧ loB c = c) ∨ (90 < c.toNat ∧ c.toNat < 97 ∧ upB c = c ∧ loB c = c) ∨ (122 < c.toNat ∧ upB c = c ∧ loB c = c) ∨
    (97 ≤ c.toNat ∧ c.toNat ≤ 122 ∧ loB c = c ∧ ((upB c).toNat : Int) = (c.toNat : Int) - 32 ∧ bits .or .u8 ((c.toNat : Int) - 32) 32 = c.toNat ∧ (((c.toNat : Int) - 32) == (c.toNat : Int)) = false) ∨
    (65 ≤ c.toNat ∧ c.toNat ≤ 90 ∧ upB c = c ∧ ((loB c).toNat : Int) = (c.toNat : Int) + 32 ∧ bits .or .u8 ((c.toNat : Int)) 32 = (c.toNat : Int) + 32 ∧ ((c.toNat : Int) == (c.toNat : Int) + 32) = false) := by
  have h := kindOf_all c
  unfold kindOf at h
  split at h
  · simp only [Bool.and_eq_true, beq_iff_eq] at h
    rename_i hc
    rcases hc with hc | hc | hc
    · exact .inl ⟨hc, h.1, h.2⟩
    · exact .inr (.inl ⟨hc.1, hc.2, h.1, h.2⟩)
    · exact .inr (.inr (.inl ⟨hc, h.1, h.2⟩))
  · split at h
    · simp only [Bool.and_eq_true, beq_iff_eq, decide_eq_true_eq] at h
      refine .inr (.inr (.inr (.inl ⟨by omega, by omega, h.1.1.1, h.1.1.2, h.1.2, h.2⟩)))
    · simp only [Bool.and_eq_true, beq_iff_eq, decide_eq_true_eq] at h
      refine .inr (.inr (.inr (.inr ⟨by omega, by omega, h.1.1.1, h.1.1.2, h.1.2, h.2⟩)))

def IsTrue (W : World) (e : Ending) (w' : World) : Prop := e = .returned (.bool true) ∧ Below W.heap.size W w'

set_option maxRecDepth 100000 in
set_option maxHeartbeats 400000 in
theorem cases_walk (s : ByteArray) (w : World) (hs : s.size ≤ maxLen) : Calls Try.prog 3 #[.string s] w (IsTrue w) := by
  by_cases hbig : 200 < s.size
  · unfold maxLen at hs
    go_enter Try.func3, Try.ntmps3
    go_wp2_with (go_at_call 7; refine (first_any _).mono ?_; rintro e w' ⟨rfl, rfl⟩)
    go_ret
    exact ⟨rfl, Below.refl _ _⟩
  · have hsm : s.size ≤ 200 := by omega
    have hu : (upS s).size = s.size := size_mapS _ _
    have hl : (loS s).size = s.size := size_mapS _ _
    have hus : (upS s).size ≤ maxLen := by rw [hu]; exact hs
    have hls : (loS s).size ≤ maxLen := by rw [hl]; exact hs
    go_enter Try.func3, Try.ntmps3
    go_wp2_with (go_at_call 7; refine (first_any _).mono ?_; rintro e w' ⟨rfl, rfl⟩)
    refine (upper_any s _ hs).mono ?_
    rintro e w1 ⟨rfl, hB1⟩
    go_wp2_with fail
    refine (lower_any s _ hs).mono ?_
    rintro e w2 ⟨rfl, hB2⟩
    go_wp2_with fail
    refine (lower_any _ _ hus).mono ?_
    rw [loS_upS]
    rintro e w3 ⟨rfl, hB3⟩
    go_wp2_with fail
    refine (upper_any _ _ hls).mono ?_
    rw [upS_loS]
    rintro e w4 ⟨rfl, hB4⟩
    go_wp2_with fail
    have hBw : Below w.heap.size w w4 := ((hB1.trans (hB2.mono hB1.size)).trans (hB3.mono (Nat.le_trans hB1.size hB2.size))).trans (hB4.mono (Nat.le_trans hB1.size (Nat.le_trans hB2.size hB3.size)))
    clear hB1 hB2 hB3 hB4
    go_loopw [6] (fun i wr => ∃ k : Nat, k ≤ s.size ∧ i = .int .i64 k ∧ Below w.heap.size w wr) (fun i _ => s.size - (intOf i).toNat)
    case atStart => exact ⟨0, Nat.zero_le _, rfl, hBw⟩
    case round =>
      obtain ⟨k, hk, rfl, hB⟩ := hrel
      clear hBw
      by_cases hlt : k < s.size
      · have hku : k < (upS s).size := by rw [hu]; exact hlt
        have hkl : k < (loS s).size := by rw [hl]; exact hlt
        have gu : (upS s)[k] = upB s[k] := get_mapS _ _ _ _ _
        have gl : (loS s)[k] = loB s[k] := get_mapS _ _ _ _ _
        generalize hc : s[k] = c at gu gl
        clear hu hl hs hus hls
        rcases byteKind c with ⟨k1, e1, e2⟩ | ⟨k1, k2, e1, e2⟩ | ⟨k1, e1, e2⟩ | ⟨k1, k2, e1, e2, e3, e4⟩ | ⟨k1, k2, e1, e2, e3, e4⟩
        · have d1 : decide ((c.toNat : Int) ≤ 90) = true := by simp; omega
          have d2 : decide ((c.toNat : Int) ≤ 122) = true := by simp; omega
          rw [e1] at gu
          rw [e2] at gl
          clear e1 e2
          go_wp2
          go_quiet (fail)
          go_wp2
          go_roundw
          case rel => exact ⟨k + 1, by omega, by go_num, below_drewN hB _⟩
          case measure => simp [intOf]; omega
        · have d1 : decide ((c.toNat : Int) ≤ 90) = false := by simp; omega
          have d2 : decide ((c.toNat : Int) ≤ 122) = true := by simp; omega
          rw [e1] at gu
          rw [e2] at gl
          clear e1 e2
          go_wp2
          go_quiet (fail)
          go_wp2
          go_roundw
          case rel => exact ⟨k + 1, by omega, by go_num, below_drewN hB _⟩
          case measure => simp [intOf]; omega
        · have d1 : decide ((c.toNat : Int) ≤ 90) = false := by simp; omega
          have d2 : decide ((c.toNat : Int) ≤ 122) = false := by simp; omega
          rw [e1] at gu
          rw [e2] at gl
          clear e1 e2
          go_wp2
          go_quiet (fail)
          go_wp2
          go_roundw
          case rel => exact ⟨k + 1, by omega, by go_num, below_drewN hB _⟩
          case measure => simp [intOf]; omega
        · have d1 : decide ((c.toNat : Int) ≤ 90) = false := by simp; omega
          have d2 : decide ((c.toNat : Int) ≤ 122) = true := by simp; omega
          rw [e1] at gl
          clear e1
          go_wp2
          go_quiet (fail)
          go_wp2
          go_roundw
          case rel => exact ⟨k + 1, by omega, by go_num, below_drewN hB _⟩
          case measure => simp [intOf]; omega
        · have d1 : decide ((c.toNat : Int) ≤ 90) = true := by simp; omega
          have d2 : decide ((c.toNat : Int) ≤ 122) = true := by simp; omega
          rw [e1] at gu
          clear e1
          go_wp2
          go_quiet (fail)
          go_wp2
          go_roundw
          case rel => exact ⟨k + 1, by omega, by go_num, below_drewN hB _⟩
          case measure => simp [intOf]; omega
      · go_wp2_with fail
        refine (refupper_any _ _ (by decide)).mono ?_
        rintro e w5 ⟨rfl, hB5⟩
        go_wp2_with fail
        refine (upper_any _ _ (by decide)).mono ?_
        rintro e w6 ⟨rfl, hB6⟩
        go_wp2
        go_ret
        exact ⟨rfl, hB.trans ((hB5.trans (hB6.mono hB5.size)).mono hB.size)⟩
end Go.Proofs.Ytodlgnaoghladaa
