/- What is amiss with a value: the program's word and the document's. -/
import Derived.Test.YtmkghfkikclodaaDoorReadA
namespace Go.Proofs.YtmkghfkikclodaaDoor
open Go.RowKit

def okByte (b : UInt8) : Bool := decide (32 ≤ (b.toNat : Int)) && decide ((b.toNat : Int) ≤ 126)
/-- bytes from 32 to 126 alone -/
def printed (s : ByteArray) : Bool := s.data.toList.all okByte

def BoolOut (W : World) (z : Bool) (e : Ending) (w' : World) : Prop := e = .returned (.bool z) ∧ Below W.heap.size W w'

theorem size_list (s : ByteArray) : s.data.toList.length = s.size := by simp

theorem printed_drop (s : ByteArray) (k : Nat) (h : k < s.size) : (s.data.toList.drop k).all okByte = (okByte s[k] && (s.data.toList.drop (k + 1)).all okByte) := by
  have : s.data.toList.drop k = s[k] :: s.data.toList.drop (k + 1) := by
    have h' : k < s.data.toList.length := by simpa using h
    rw [List.drop_eq_getElem_cons h']
    rfl
  rw [this, List.all_cons]

theorem printable_any (s : ByteArray) (w : World) (hs : s.size ≤ 9223372036854775807) : Calls Tryd.prog 72 #[.string s] w (BoolOut w (printed s)) := by
  go_enter Tryd.func72, Tryd.ntmps72
  go_wp2
  go_loopw [6] (fun i wr => ∃ k : Nat, k ≤ s.size ∧ i = .int .i64 k ∧ Below w.heap.size w wr ∧ Hid (printed s = (s.data.toList.drop k).all okByte)) (fun i _ => s.size - (intOf i).toNat)
  case atStart => exact ⟨0, Nat.zero_le _, rfl, Below.refl _ _, rfl⟩
  case round =>
    obtain ⟨k, hk, rfl, hB, hP⟩ := hrel
    by_cases hlt : k < s.size
    · have hP2 := hP.out
      rw [printed_drop s k hlt] at hP2
      generalize hc : s[k] = c at hP2
      by_cases h1 : (c.toNat : Int) < 32
      · have e1 : okByte c = false := by simp [okByte]; omega
        rw [e1, Bool.false_and] at hP2
        have HP := Lib.hid hP2
        clear hP2 hP e1
        have hc' := hc
        go_wp2
        go_ret
        rw [HP.out]
        exact ⟨rfl, hB⟩
      · by_cases h2 : 126 < (c.toNat : Int)
        · have e1 : okByte c = false := by simp [okByte]; omega
          rw [e1, Bool.false_and] at hP2
          have HP := Lib.hid hP2
          clear hP2 hP e1
          go_wp2
          go_ret
          rw [HP.out]
          exact ⟨rfl, hB⟩
        · have e1 : okByte c = true := by simp [okByte]; omega
          rw [e1, Bool.true_and] at hP2
          have HP := Lib.hid hP2
          clear hP2 hP e1
          go_wp2
          go_roundw
          case rel => exact ⟨k + 1, by omega, by go_num, hB, HP⟩
          case measure => simp [intOf]; omega
    · have hP2 := hP.out
      have he : s.data.toList.drop k = [] := List.drop_eq_nil_of_le (by rw [size_list]; omega)
      rw [he, List.all_nil] at hP2
      have HP := Lib.hid hP2
      clear hP2 hP he
      go_wp2
      go_ret
      rw [HP.out]
      exact ⟨rfl, hB⟩

theorem printed_any (s : ByteArray) (w : World) (hs : s.size ≤ 9223358036854775807) : Calls Tryd.prog 58 #[.string s] w (BoolOut w (printed s)) := by
  go_enter Tryd.func58, Tryd.ntmps58
  go_wp2
  go_loopw [3] (fun i wr => ∃ k : Nat, k ≤ s.size ∧ i = .int .i64 k ∧ Below w.heap.size w wr ∧ Hid (printed s = (s.data.toList.drop k).all okByte)) (fun i _ => s.size - (intOf i).toNat)
  case atStart => exact ⟨0, Nat.zero_le _, rfl, Below.refl _ _, rfl⟩
  case round =>
    obtain ⟨k, hk, rfl, hB, hP⟩ := hrel
    by_cases hlt : k < s.size
    · have hP2 := hP.out
      rw [printed_drop s k hlt] at hP2
      generalize hc : s[k] = c at hP2
      by_cases h1 : (c.toNat : Int) < 32
      · have e1 : okByte c = false := by simp [okByte]; omega
        rw [e1, Bool.false_and] at hP2
        have HP := Lib.hid hP2
        clear hP2 hP e1
        have hc' := hc
        go_wp2
        go_ret
        rw [HP.out]
        exact ⟨rfl, hB⟩
      · by_cases h2 : 126 < (c.toNat : Int)
        · have e1 : okByte c = false := by simp [okByte]; omega
          rw [e1, Bool.false_and] at hP2
          have HP := Lib.hid hP2
          clear hP2 hP e1
          go_wp2
          go_ret
          rw [HP.out]
          exact ⟨rfl, hB⟩
        · have e1 : okByte c = true := by simp [okByte]; omega
          rw [e1, Bool.true_and] at hP2
          have HP := Lib.hid hP2
          clear hP2 hP e1
          go_wp2
          go_roundw
          case rel => exact ⟨k + 1, by omega, by go_num, hB, HP⟩
          case measure => simp [intOf]; omega
    · have hP2 := hP.out
      have he : s.data.toList.drop k = [] := List.drop_eq_nil_of_le (by rw [size_list]; omega)
      rw [he, List.all_nil] at hP2
      have HP := Lib.hid hP2
      clear hP2 hP he
      go_wp2
      go_ret
      rw [HP.out]
      exact ⟨rfl, hB⟩

/-- what is amiss with what a value itself has: the number of the error's variable -/
def ownG (k n : Int) (s : ByteArray) (len : Nat) : Option Nat :=
  if k < 0 ∨ 4 < k then some 3
  else if (k = 1 ∧ (n < -2147483648 ∨ 2147483647 < n)) ∨ (k = 3 ∧ (n < 0 ∨ 14 < n)) then some 3
  else if ((k = 2 ∨ k = 4) ∧ n ≠ 0) ∨ (k ≠ 2 ∧ s.size ≠ 0) ∨ (k ≠ 4 ∧ len ≠ 0) then some 2
  else if printed s = true then Option.none else some 2

theorem toList_nil (s : ByteArray) : s.toList = [] ↔ s.size = 0 := by
  rw [Lib.toList_data, ← size_list]
  exact List.length_eq_zero_iff.symm

def ErrOut (p : Nat → Addr) (W : World) (g : Option Nat) (e : Ending) (w' : World) : Prop := e = .returned (errO p g) ∧ Below W.heap.size W w'

set_option maxRecDepth 100000 in
set_option maxHeartbeats 2000000 in
theorem own_any (p : Nat → Addr) (k n : Int) (s : ByteArray) (a : Option Addr) (len c : Nat) (w : World) (hE : Errs 5 p w) (hf : Fits k n s len) (hw : 5 ≤ w.heap.size) :
    Calls Tryd.prog 57 #[.agg #[.int .i64 k, .int .i64 n, .string s, .slice a len c]] w (ErrOut p w (ownG k n s len)) := by
  obtain ⟨f1, f2, f3, f4, f5, f6⟩ := hf
  have hP := Lib.hid fun (w' : World) => printable_any s w' f5
  by_cases hl : len = 0
  · subst hl
    have HE := Lib.hid hE
    have hb := bal w (.cells #[.int .i64 k, .int .i64 n, .string s, .slice a 0 c] 24)
    have e2 := hE.below hb hw 2 (by decide)
    have e3 := hE.below hb hw 3 (by decide)
    unfold errV at e2 e3
    clear hE hb
    have hk : k < 0 ∨ 4 < k ∨ k = 0 ∨ k = 1 ∨ (k = 2 ∧ n = 0) ∨ (k = 2 ∧ ¬ n = 0) ∨ k = 3 ∨ (k = 4 ∧ n = 0) ∨ (k = 4 ∧ ¬ n = 0) := by omega
    rcases hk with hk | hk | rfl | rfl | ⟨rfl, rfl⟩ | ⟨rfl, hn⟩ | rfl | ⟨rfl, rfl⟩ | ⟨rfl, hn⟩
    · go_enter Tryd.func57, Tryd.ntmps57
      go_wp2_with fail
      all_goals first
        | (go_ret
           try have hz := (toList_nil s).1 (by assumption)
           try have hz := mt (toList_nil s).2 (by assumption)
           refine ⟨?_, bal w _⟩
           first
             | (have hq : ownG k n s 0 = some 2 := by (unfold ownG; (repeat' split); all_goals (first | rfl | (exfalso; omega)))
                rw [hq]; rfl)
             | (have hq : ownG k n s 0 = some 3 := by (unfold ownG; (repeat' split); all_goals (first | rfl | (exfalso; omega)))
                rw [hq]; rfl))
    · go_enter Tryd.func57, Tryd.ntmps57
      go_wp2_with fail
      all_goals first
        | (go_ret
           try have hz := (toList_nil s).1 (by assumption)
           try have hz := mt (toList_nil s).2 (by assumption)
           refine ⟨?_, bal w _⟩
           first
             | (have hq : ownG k n s 0 = some 2 := by (unfold ownG; (repeat' split); all_goals (first | rfl | (exfalso; omega)))
                rw [hq]; rfl)
             | (have hq : ownG k n s 0 = some 3 := by (unfold ownG; (repeat' split); all_goals (first | rfl | (exfalso; omega)))
                rw [hq]; rfl))
    · go_enter Tryd.func57, Tryd.ntmps57
      go_wp2_with fail
      all_goals first
        | (go_ret
           try have hz := (toList_nil s).1 (by assumption)
           try have hz := mt (toList_nil s).2 (by assumption)
           refine ⟨?_, bal w _⟩
           first
             | (have hq : ownG 0 n s 0 = some 2 := by (unfold ownG; (repeat' split); all_goals (first | rfl | (exfalso; omega)))
                rw [hq]; rfl)
             | (have hq : ownG 0 n s 0 = some 3 := by (unfold ownG; (repeat' split); all_goals (first | rfl | (exfalso; omega)))
                rw [hq]; rfl))
        | (refine (hP.out _).mono ?_
           rintro e w1 ⟨rfl, hB1⟩
           have e2' := (Errs.below (HE.out.below (bal w _) hw) hB1 (by simp; omega)) 2 (by decide)
           unfold errV at e2'
           have HB1 := Lib.hid hB1
           try have hz := (toList_nil s).1 (by assumption)
           try have hz := mt (toList_nil s).2 (by assumption)
           have hq : ownG 0 n s 0 = if printed s = true then Option.none else some 2 := by (unfold ownG; rw [if_neg (by omega), if_neg (by omega), if_neg (by omega)])
           have HQ := Lib.hid hq
           clear hB1 hq
           cases hpr : printed s
           all_goals rw [hpr] at HQ
           all_goals go_wp2
           all_goals go_ret
           all_goals rw [HQ.out]
           all_goals exact ⟨rfl, (bal w _).trans (HB1.out.mono (by simp))⟩)
    · go_enter Tryd.func57, Tryd.ntmps57
      go_wp2_with fail
      all_goals first
        | (go_ret
           try have hz := (toList_nil s).1 (by assumption)
           try have hz := mt (toList_nil s).2 (by assumption)
           refine ⟨?_, bal w _⟩
           first
             | (have hq : ownG 1 n s 0 = some 2 := by (unfold ownG; (repeat' split); all_goals (first | rfl | (exfalso; omega)))
                rw [hq]; rfl)
             | (have hq : ownG 1 n s 0 = some 3 := by (unfold ownG; (repeat' split); all_goals (first | rfl | (exfalso; omega)))
                rw [hq]; rfl))
        | (refine (hP.out _).mono ?_
           rintro e w1 ⟨rfl, hB1⟩
           have e2' := (Errs.below (HE.out.below (bal w _) hw) hB1 (by simp; omega)) 2 (by decide)
           unfold errV at e2'
           have HB1 := Lib.hid hB1
           try have hz := (toList_nil s).1 (by assumption)
           try have hz := mt (toList_nil s).2 (by assumption)
           have hq : ownG 1 n s 0 = if printed s = true then Option.none else some 2 := by (unfold ownG; rw [if_neg (by omega), if_neg (by omega), if_neg (by omega)])
           have HQ := Lib.hid hq
           clear hB1 hq
           cases hpr : printed s
           all_goals rw [hpr] at HQ
           all_goals go_wp2
           all_goals go_ret
           all_goals rw [HQ.out]
           all_goals exact ⟨rfl, (bal w _).trans (HB1.out.mono (by simp))⟩)
    · go_enter Tryd.func57, Tryd.ntmps57
      go_wp2_with fail
      all_goals first
        | (go_ret
           try have hz := (toList_nil s).1 (by assumption)
           try have hz := mt (toList_nil s).2 (by assumption)
           refine ⟨?_, bal w _⟩
           first
             | (have hq : ownG 2 0 s 0 = some 2 := by (unfold ownG; (repeat' split); all_goals (first | rfl | (exfalso; omega)))
                rw [hq]; rfl)
             | (have hq : ownG 2 0 s 0 = some 3 := by (unfold ownG; (repeat' split); all_goals (first | rfl | (exfalso; omega)))
                rw [hq]; rfl))
        | (refine (hP.out _).mono ?_
           rintro e w1 ⟨rfl, hB1⟩
           have e2' := (Errs.below (HE.out.below (bal w _) hw) hB1 (by simp; omega)) 2 (by decide)
           unfold errV at e2'
           have HB1 := Lib.hid hB1
           try have hz := (toList_nil s).1 (by assumption)
           try have hz := mt (toList_nil s).2 (by assumption)
           have hq : ownG 2 0 s 0 = if printed s = true then Option.none else some 2 := by (unfold ownG; rw [if_neg (by omega), if_neg (by omega), if_neg (by omega)])
           have HQ := Lib.hid hq
           clear hB1 hq
           cases hpr : printed s
           all_goals rw [hpr] at HQ
           all_goals go_wp2
           all_goals go_ret
           all_goals rw [HQ.out]
           all_goals exact ⟨rfl, (bal w _).trans (HB1.out.mono (by simp))⟩)
    · have hnb : (n != 0) = true := by simp [hn]
      go_enter Tryd.func57, Tryd.ntmps57
      go_wp2_with fail
      all_goals first
        | (go_ret
           try have hz := (toList_nil s).1 (by assumption)
           try have hz := mt (toList_nil s).2 (by assumption)
           refine ⟨?_, bal w _⟩
           first
             | (have hq : ownG 2 n s 0 = some 2 := by (unfold ownG; (repeat' split); all_goals (first | rfl | (exfalso; omega)))
                rw [hq]; rfl)
             | (have hq : ownG 2 n s 0 = some 3 := by (unfold ownG; (repeat' split); all_goals (first | rfl | (exfalso; omega)))
                rw [hq]; rfl))
        | (refine (hP.out _).mono ?_
           rintro e w1 ⟨rfl, hB1⟩
           have e2' := (Errs.below (HE.out.below (bal w _) hw) hB1 (by simp; omega)) 2 (by decide)
           unfold errV at e2'
           have HB1 := Lib.hid hB1
           try have hz := (toList_nil s).1 (by assumption)
           try have hz := mt (toList_nil s).2 (by assumption)
           have hq : ownG 2 n s 0 = if printed s = true then Option.none else some 2 := by (unfold ownG; rw [if_neg (by omega), if_neg (by omega), if_neg (by omega)])
           have HQ := Lib.hid hq
           clear hB1 hq
           cases hpr : printed s
           all_goals rw [hpr] at HQ
           all_goals go_wp2
           all_goals go_ret
           all_goals rw [HQ.out]
           all_goals exact ⟨rfl, (bal w _).trans (HB1.out.mono (by simp))⟩)
    · go_enter Tryd.func57, Tryd.ntmps57
      go_wp2_with fail
      all_goals first
        | (go_ret
           try have hz := (toList_nil s).1 (by assumption)
           try have hz := mt (toList_nil s).2 (by assumption)
           refine ⟨?_, bal w _⟩
           first
             | (have hq : ownG 3 n s 0 = some 2 := by (unfold ownG; (repeat' split); all_goals (first | rfl | (exfalso; omega)))
                rw [hq]; rfl)
             | (have hq : ownG 3 n s 0 = some 3 := by (unfold ownG; (repeat' split); all_goals (first | rfl | (exfalso; omega)))
                rw [hq]; rfl))
        | (refine (hP.out _).mono ?_
           rintro e w1 ⟨rfl, hB1⟩
           have e2' := (Errs.below (HE.out.below (bal w _) hw) hB1 (by simp; omega)) 2 (by decide)
           unfold errV at e2'
           have HB1 := Lib.hid hB1
           try have hz := (toList_nil s).1 (by assumption)
           try have hz := mt (toList_nil s).2 (by assumption)
           have hq : ownG 3 n s 0 = if printed s = true then Option.none else some 2 := by (unfold ownG; rw [if_neg (by omega), if_neg (by omega), if_neg (by omega)])
           have HQ := Lib.hid hq
           clear hB1 hq
           cases hpr : printed s
           all_goals rw [hpr] at HQ
           all_goals go_wp2
           all_goals go_ret
           all_goals rw [HQ.out]
           all_goals exact ⟨rfl, (bal w _).trans (HB1.out.mono (by simp))⟩)
    · go_enter Tryd.func57, Tryd.ntmps57
      go_wp2_with fail
      all_goals first
        | (go_ret
           try have hz := (toList_nil s).1 (by assumption)
           try have hz := mt (toList_nil s).2 (by assumption)
           refine ⟨?_, bal w _⟩
           first
             | (have hq : ownG 4 0 s 0 = some 2 := by (unfold ownG; (repeat' split); all_goals (first | rfl | (exfalso; omega)))
                rw [hq]; rfl)
             | (have hq : ownG 4 0 s 0 = some 3 := by (unfold ownG; (repeat' split); all_goals (first | rfl | (exfalso; omega)))
                rw [hq]; rfl))
        | (refine (hP.out _).mono ?_
           rintro e w1 ⟨rfl, hB1⟩
           have e2' := (Errs.below (HE.out.below (bal w _) hw) hB1 (by simp; omega)) 2 (by decide)
           unfold errV at e2'
           have HB1 := Lib.hid hB1
           try have hz := (toList_nil s).1 (by assumption)
           try have hz := mt (toList_nil s).2 (by assumption)
           have hq : ownG 4 0 s 0 = if printed s = true then Option.none else some 2 := by (unfold ownG; rw [if_neg (by omega), if_neg (by omega), if_neg (by omega)])
           have HQ := Lib.hid hq
           clear hB1 hq
           cases hpr : printed s
           all_goals rw [hpr] at HQ
           all_goals go_wp2
           all_goals go_ret
           all_goals rw [HQ.out]
           all_goals exact ⟨rfl, (bal w _).trans (HB1.out.mono (by simp))⟩)
    · have hnb : (n != 0) = true := by simp [hn]
      go_enter Tryd.func57, Tryd.ntmps57
      go_wp2_with fail
      all_goals first
        | (go_ret
           try have hz := (toList_nil s).1 (by assumption)
           try have hz := mt (toList_nil s).2 (by assumption)
           refine ⟨?_, bal w _⟩
           first
             | (have hq : ownG 4 n s 0 = some 2 := by (unfold ownG; (repeat' split); all_goals (first | rfl | (exfalso; omega)))
                rw [hq]; rfl)
             | (have hq : ownG 4 n s 0 = some 3 := by (unfold ownG; (repeat' split); all_goals (first | rfl | (exfalso; omega)))
                rw [hq]; rfl))
        | (refine (hP.out _).mono ?_
           rintro e w1 ⟨rfl, hB1⟩
           have e2' := (Errs.below (HE.out.below (bal w _) hw) hB1 (by simp; omega)) 2 (by decide)
           unfold errV at e2'
           have HB1 := Lib.hid hB1
           try have hz := (toList_nil s).1 (by assumption)
           try have hz := mt (toList_nil s).2 (by assumption)
           have hq : ownG 4 n s 0 = if printed s = true then Option.none else some 2 := by (unfold ownG; rw [if_neg (by omega), if_neg (by omega), if_neg (by omega)])
           have HQ := Lib.hid hq
           clear hB1 hq
           cases hpr : printed s
           all_goals rw [hpr] at HQ
           all_goals go_wp2
           all_goals go_ret
           all_goals rw [HQ.out]
           all_goals exact ⟨rfl, (bal w _).trans (HB1.out.mono (by simp))⟩)
  · have HE := Lib.hid hE
    have hb := bal w (.cells #[.int .i64 k, .int .i64 n, .string s, .slice a len c] 24)
    have e2 := hE.below hb hw 2 (by decide)
    have e3 := hE.below hb hw 3 (by decide)
    unfold errV at e2 e3
    clear hE hb
    have hk : k < 0 ∨ 4 < k ∨ k = 0 ∨ k = 1 ∨ (k = 2 ∧ n = 0) ∨ (k = 2 ∧ ¬ n = 0) ∨ k = 3 ∨ (k = 4 ∧ n = 0) ∨ (k = 4 ∧ ¬ n = 0) := by omega
    rcases hk with hk | hk | rfl | rfl | ⟨rfl, rfl⟩ | ⟨rfl, hn⟩ | rfl | ⟨rfl, rfl⟩ | ⟨rfl, hn⟩
    · go_enter Tryd.func57, Tryd.ntmps57
      go_wp2_with fail
      all_goals first
        | (go_ret
           try have hz := (toList_nil s).1 (by assumption)
           try have hz := mt (toList_nil s).2 (by assumption)
           refine ⟨?_, bal w _⟩
           first
             | (have hq : ownG k n s len = some 2 := by (unfold ownG; (repeat' split); all_goals (first | rfl | (exfalso; omega)))
                rw [hq]; rfl)
             | (have hq : ownG k n s len = some 3 := by (unfold ownG; (repeat' split); all_goals (first | rfl | (exfalso; omega)))
                rw [hq]; rfl))
    · go_enter Tryd.func57, Tryd.ntmps57
      go_wp2_with fail
      all_goals first
        | (go_ret
           try have hz := (toList_nil s).1 (by assumption)
           try have hz := mt (toList_nil s).2 (by assumption)
           refine ⟨?_, bal w _⟩
           first
             | (have hq : ownG k n s len = some 2 := by (unfold ownG; (repeat' split); all_goals (first | rfl | (exfalso; omega)))
                rw [hq]; rfl)
             | (have hq : ownG k n s len = some 3 := by (unfold ownG; (repeat' split); all_goals (first | rfl | (exfalso; omega)))
                rw [hq]; rfl))
    · go_enter Tryd.func57, Tryd.ntmps57
      go_wp2_with fail
      all_goals first
        | (go_ret
           try have hz := (toList_nil s).1 (by assumption)
           try have hz := mt (toList_nil s).2 (by assumption)
           refine ⟨?_, bal w _⟩
           first
             | (have hq : ownG 0 n s len = some 2 := by (unfold ownG; (repeat' split); all_goals (first | rfl | (exfalso; omega)))
                rw [hq]; rfl)
             | (have hq : ownG 0 n s len = some 3 := by (unfold ownG; (repeat' split); all_goals (first | rfl | (exfalso; omega)))
                rw [hq]; rfl))
        | (refine (hP.out _).mono ?_
           rintro e w1 ⟨rfl, hB1⟩
           have e2' := (Errs.below (HE.out.below (bal w _) hw) hB1 (by simp; omega)) 2 (by decide)
           unfold errV at e2'
           have HB1 := Lib.hid hB1
           try have hz := (toList_nil s).1 (by assumption)
           try have hz := mt (toList_nil s).2 (by assumption)
           have hq : ownG 0 n s len = if printed s = true then Option.none else some 2 := by (unfold ownG; rw [if_neg (by omega), if_neg (by omega), if_neg (by omega)])
           have HQ := Lib.hid hq
           clear hB1 hq
           cases hpr : printed s
           all_goals rw [hpr] at HQ
           all_goals go_wp2
           all_goals go_ret
           all_goals rw [HQ.out]
           all_goals exact ⟨rfl, (bal w _).trans (HB1.out.mono (by simp))⟩)
    · go_enter Tryd.func57, Tryd.ntmps57
      go_wp2_with fail
      all_goals first
        | (go_ret
           try have hz := (toList_nil s).1 (by assumption)
           try have hz := mt (toList_nil s).2 (by assumption)
           refine ⟨?_, bal w _⟩
           first
             | (have hq : ownG 1 n s len = some 2 := by (unfold ownG; (repeat' split); all_goals (first | rfl | (exfalso; omega)))
                rw [hq]; rfl)
             | (have hq : ownG 1 n s len = some 3 := by (unfold ownG; (repeat' split); all_goals (first | rfl | (exfalso; omega)))
                rw [hq]; rfl))
        | (refine (hP.out _).mono ?_
           rintro e w1 ⟨rfl, hB1⟩
           have e2' := (Errs.below (HE.out.below (bal w _) hw) hB1 (by simp; omega)) 2 (by decide)
           unfold errV at e2'
           have HB1 := Lib.hid hB1
           try have hz := (toList_nil s).1 (by assumption)
           try have hz := mt (toList_nil s).2 (by assumption)
           have hq : ownG 1 n s len = if printed s = true then Option.none else some 2 := by (unfold ownG; rw [if_neg (by omega), if_neg (by omega), if_neg (by omega)])
           have HQ := Lib.hid hq
           clear hB1 hq
           cases hpr : printed s
           all_goals rw [hpr] at HQ
           all_goals go_wp2
           all_goals go_ret
           all_goals rw [HQ.out]
           all_goals exact ⟨rfl, (bal w _).trans (HB1.out.mono (by simp))⟩)
    · go_enter Tryd.func57, Tryd.ntmps57
      go_wp2_with fail
      all_goals first
        | (go_ret
           try have hz := (toList_nil s).1 (by assumption)
           try have hz := mt (toList_nil s).2 (by assumption)
           refine ⟨?_, bal w _⟩
           first
             | (have hq : ownG 2 0 s len = some 2 := by (unfold ownG; (repeat' split); all_goals (first | rfl | (exfalso; omega)))
                rw [hq]; rfl)
             | (have hq : ownG 2 0 s len = some 3 := by (unfold ownG; (repeat' split); all_goals (first | rfl | (exfalso; omega)))
                rw [hq]; rfl))
        | (refine (hP.out _).mono ?_
           rintro e w1 ⟨rfl, hB1⟩
           have e2' := (Errs.below (HE.out.below (bal w _) hw) hB1 (by simp; omega)) 2 (by decide)
           unfold errV at e2'
           have HB1 := Lib.hid hB1
           try have hz := (toList_nil s).1 (by assumption)
           try have hz := mt (toList_nil s).2 (by assumption)
           have hq : ownG 2 0 s len = if printed s = true then Option.none else some 2 := by (unfold ownG; rw [if_neg (by omega), if_neg (by omega), if_neg (by omega)])
           have HQ := Lib.hid hq
           clear hB1 hq
           cases hpr : printed s
           all_goals rw [hpr] at HQ
           all_goals go_wp2
           all_goals go_ret
           all_goals rw [HQ.out]
           all_goals exact ⟨rfl, (bal w _).trans (HB1.out.mono (by simp))⟩)
    · have hnb : (n != 0) = true := by simp [hn]
      go_enter Tryd.func57, Tryd.ntmps57
      go_wp2_with fail
      all_goals first
        | (go_ret
           try have hz := (toList_nil s).1 (by assumption)
           try have hz := mt (toList_nil s).2 (by assumption)
           refine ⟨?_, bal w _⟩
           first
             | (have hq : ownG 2 n s len = some 2 := by (unfold ownG; (repeat' split); all_goals (first | rfl | (exfalso; omega)))
                rw [hq]; rfl)
             | (have hq : ownG 2 n s len = some 3 := by (unfold ownG; (repeat' split); all_goals (first | rfl | (exfalso; omega)))
                rw [hq]; rfl))
        | (refine (hP.out _).mono ?_
           rintro e w1 ⟨rfl, hB1⟩
           have e2' := (Errs.below (HE.out.below (bal w _) hw) hB1 (by simp; omega)) 2 (by decide)
           unfold errV at e2'
           have HB1 := Lib.hid hB1
           try have hz := (toList_nil s).1 (by assumption)
           try have hz := mt (toList_nil s).2 (by assumption)
           have hq : ownG 2 n s len = if printed s = true then Option.none else some 2 := by (unfold ownG; rw [if_neg (by omega), if_neg (by omega), if_neg (by omega)])
           have HQ := Lib.hid hq
           clear hB1 hq
           cases hpr : printed s
           all_goals rw [hpr] at HQ
           all_goals go_wp2
           all_goals go_ret
           all_goals rw [HQ.out]
           all_goals exact ⟨rfl, (bal w _).trans (HB1.out.mono (by simp))⟩)
    · go_enter Tryd.func57, Tryd.ntmps57
      go_wp2_with fail
      all_goals first
        | (go_ret
           try have hz := (toList_nil s).1 (by assumption)
           try have hz := mt (toList_nil s).2 (by assumption)
           refine ⟨?_, bal w _⟩
           first
             | (have hq : ownG 3 n s len = some 2 := by (unfold ownG; (repeat' split); all_goals (first | rfl | (exfalso; omega)))
                rw [hq]; rfl)
             | (have hq : ownG 3 n s len = some 3 := by (unfold ownG; (repeat' split); all_goals (first | rfl | (exfalso; omega)))
                rw [hq]; rfl))
        | (refine (hP.out _).mono ?_
           rintro e w1 ⟨rfl, hB1⟩
           have e2' := (Errs.below (HE.out.below (bal w _) hw) hB1 (by simp; omega)) 2 (by decide)
           unfold errV at e2'
           have HB1 := Lib.hid hB1
           try have hz := (toList_nil s).1 (by assumption)
           try have hz := mt (toList_nil s).2 (by assumption)
           have hq : ownG 3 n s len = if printed s = true then Option.none else some 2 := by (unfold ownG; rw [if_neg (by omega), if_neg (by omega), if_neg (by omega)])
           have HQ := Lib.hid hq
           clear hB1 hq
           cases hpr : printed s
           all_goals rw [hpr] at HQ
           all_goals go_wp2
           all_goals go_ret
           all_goals rw [HQ.out]
           all_goals exact ⟨rfl, (bal w _).trans (HB1.out.mono (by simp))⟩)
    · go_enter Tryd.func57, Tryd.ntmps57
      go_wp2_with fail
      all_goals first
        | (go_ret
           try have hz := (toList_nil s).1 (by assumption)
           try have hz := mt (toList_nil s).2 (by assumption)
           refine ⟨?_, bal w _⟩
           first
             | (have hq : ownG 4 0 s len = some 2 := by (unfold ownG; (repeat' split); all_goals (first | rfl | (exfalso; omega)))
                rw [hq]; rfl)
             | (have hq : ownG 4 0 s len = some 3 := by (unfold ownG; (repeat' split); all_goals (first | rfl | (exfalso; omega)))
                rw [hq]; rfl))
        | (refine (hP.out _).mono ?_
           rintro e w1 ⟨rfl, hB1⟩
           have e2' := (Errs.below (HE.out.below (bal w _) hw) hB1 (by simp; omega)) 2 (by decide)
           unfold errV at e2'
           have HB1 := Lib.hid hB1
           try have hz := (toList_nil s).1 (by assumption)
           try have hz := mt (toList_nil s).2 (by assumption)
           have hq : ownG 4 0 s len = if printed s = true then Option.none else some 2 := by (unfold ownG; rw [if_neg (by omega), if_neg (by omega), if_neg (by omega)])
           have HQ := Lib.hid hq
           clear hB1 hq
           cases hpr : printed s
           all_goals rw [hpr] at HQ
           all_goals go_wp2
           all_goals go_ret
           all_goals rw [HQ.out]
           all_goals exact ⟨rfl, (bal w _).trans (HB1.out.mono (by simp))⟩)
    · have hnb : (n != 0) = true := by simp [hn]
      go_enter Tryd.func57, Tryd.ntmps57
      go_wp2_with fail
      all_goals first
        | (go_ret
           try have hz := (toList_nil s).1 (by assumption)
           try have hz := mt (toList_nil s).2 (by assumption)
           refine ⟨?_, bal w _⟩
           first
             | (have hq : ownG 4 n s len = some 2 := by (unfold ownG; (repeat' split); all_goals (first | rfl | (exfalso; omega)))
                rw [hq]; rfl)
             | (have hq : ownG 4 n s len = some 3 := by (unfold ownG; (repeat' split); all_goals (first | rfl | (exfalso; omega)))
                rw [hq]; rfl))
        | (refine (hP.out _).mono ?_
           rintro e w1 ⟨rfl, hB1⟩
           have e2' := (Errs.below (HE.out.below (bal w _) hw) hB1 (by simp; omega)) 2 (by decide)
           unfold errV at e2'
           have HB1 := Lib.hid hB1
           try have hz := (toList_nil s).1 (by assumption)
           try have hz := mt (toList_nil s).2 (by assumption)
           have hq : ownG 4 n s len = if printed s = true then Option.none else some 2 := by (unfold ownG; rw [if_neg (by omega), if_neg (by omega), if_neg (by omega)])
           have HQ := Lib.hid hq
           clear hB1 hq
           cases hpr : printed s
           all_goals rw [hpr] at HQ
           all_goals go_wp2
           all_goals go_ret
           all_goals rw [HQ.out]
           all_goals exact ⟨rfl, (bal w _).trans (HB1.out.mono (by simp))⟩)
end Go.Proofs.YtmkghfkikclodaaDoor
