/- What stands where. Names. Names: which may be. The reference's words, each once. -/
import Derived.Test.YtmkghfkikclodaaDoorM07
import Derived.BigQuiet
set_option linter.unusedVariables false
set_option linter.unusedSimpArgs false
namespace Go.Proofs.YtmkghfkikclodaaDoor
open Go.RowKit

theorem ret_bool {a b : Bool} (h : a = b) : Ending.returned (.bool a) = .returned (.bool b) := by rw [h]

def isExprB (op : Int) : Bool := decide (1 ≤ op) && (decide (op ≤ 29) && !(op == 26))
def standsB (op role : Int) : Bool :=
  if role = 0 then isExprB op
  else if role = 1 then isExprB op || op == 26
  else if role = 2 then op == 2 || (op == 22 || op == 20)
  else if role = 3 then op == 2
  else if role = 4 then op == 2 || op == 26
  else if role = 5 then op == 25
  else if role = 6 then op == 52
  else if role = 8 then op == 50
  else decide (40 ≤ op) && (decide (op ≤ 51) && !(op == 50))

set_option maxRecDepth 100000 in
set_option maxHeartbeats 1000000 in
theorem stands_any (op role : Int) (x1 x2 x3 x4 x5 x6 x7 : Value) (hr0 : 0 ≤ role) (hr1 : role ≤ 8) (w : World) (ho1 : -9223372036854775808 ≤ op) (ho2 : op ≤ 9223372036854775807) :
    Calls Tryd.prog 83 #[.agg #[.int .i64 op, x1, x2, x3, x4, x5, x6, x7], .int .i64 role] w (BoolOut w (standsB op role)) := by
  have hr : role = 0 ∨ role = 1 ∨ role = 2 ∨ role = 3 ∨ role = 4 ∨ role = 5 ∨ role = 6 ∨ role = 7 ∨ role = 8 := by omega
  clear hr0 hr1
  have hv := NV.new w (.int .i64 op) x1 x2 x3 x4 x5 x6 x7
  obtain ⟨d0, -⟩ := hv.all
  clear hv
  rcases hr with rfl | rfl | rfl | rfl | rfl | rfl | rfl | rfl | rfl
  all_goals
    go_enter Tryd.func83, Tryd.ntmps83
    go_wp2_with fail
    all_goals
      go_ret
      exact ⟨ret_bool (by rw [Bool.eq_iff_iff]; simp [standsB, isExprB]; try omega), bal w _⟩
end Go.Proofs.YtmkghfkikclodaaDoor
namespace Go.Proofs.YtmkghfkikclodaaDoor
open Go.RowKit

def namedB (op : Int) : Bool := op == 2 || (op == 24 || (op == 42 || (op == 43 || op == 50)))
def loopsB (op : Int) : Bool := op == 42 || (op == 43 || op == 44)

def PairOut (a b : Bool) (W : World) (e : Ending) (w' : World) : Prop := e = .returned (.tuple #[.bool a, .bool b]) ∧ Below W.heap.size W w'

theorem named_any (op : Int) (w : World) (ho1 : -9223372036854775808 ≤ op) (ho2 : op ≤ 9223372036854775807) : Calls Tryd.prog 84 #[.int .i64 op] w (PairOut (namedB op) (op == 50) w) := by
  have hc : op = 2 ∨ op = 24 ∨ op = 42 ∨ op = 43 ∨ op = 50 ∨ (op ≠ 2 ∧ op ≠ 24 ∧ op ≠ 42 ∧ op ≠ 43 ∧ op ≠ 50) := by omega
  rcases hc with rfl | rfl | rfl | rfl | rfl | ⟨h1, h2, h3, h4, h5⟩
  case inr.inr.inr.inr.inr =>
    have e1 : (op == 2) = false := by simp [h1]
    have e2 : (op == 24) = false := by simp [h2]
    have e3 : (op == 42) = false := by simp [h3]
    have e4 : (op == 43) = false := by simp [h4]
    have e5 : (op == 50) = false := by simp [h5]
    have e6 : namedB op = false := by simp [namedB, e1, e2, e3, e4, e5]
    rw [e6]
    clear e6 h1 h2 h3 h4 h5
    go_enter Tryd.func84, Tryd.ntmps84
    go_wp2_with fail
    go_ret2
    exact ⟨by first | rfl | (rw [e5]; rfl), Below.refl _ _⟩
  all_goals
    go_enter Tryd.func84, Tryd.ntmps84
    go_wp2_with fail
    go_ret2
    exact ⟨rfl, Below.refl _ _⟩

theorem loops_any (op : Int) (w : World) (ho1 : -9223372036854775808 ≤ op) (ho2 : op ≤ 9223372036854775807) : Calls Tryd.prog 77 #[.int .i64 op] w (BoolOut w (loopsB op)) := by
  have hc : op = 42 ∨ op = 43 ∨ op = 44 ∨ (op ≠ 42 ∧ op ≠ 43 ∧ op ≠ 44) := by omega
  rcases hc with rfl | rfl | rfl | ⟨h1, h2, h3⟩
  case inr.inr.inr =>
    have e1 : (op == 42) = false := by simp [h1]
    have e2 : (op == 43) = false := by simp [h2]
    have e3 : (op == 44) = false := by simp [h3]
    have e6 : loopsB op = false := by simp [loopsB, e1, e2, e3]
    rw [e6]
    clear e6 h1 h2 h3
    go_enter Tryd.func77, Tryd.ntmps77
    go_wp2_with fail
    go_ret
    exact ⟨by first | rfl | (rw [e3]; rfl), Below.refl _ _⟩
  all_goals
    go_enter Tryd.func77, Tryd.ntmps77
    go_wp2_with fail
    go_ret
    exact ⟨rfl, Below.refl _ _⟩

def smallB (c : UInt8) : Bool := (decide (97 ≤ (c.toNat : Int)) && decide ((c.toNat : Int) ≤ 122)) || ((c.toNat : Int) == 95)
def digitB (c : UInt8) : Bool := decide (48 ≤ (c.toNat : Int)) && decide ((c.toNat : Int) ≤ 57)

theorem small_byte (c : UInt8) (w : World) : Calls Tryd.prog 78 #[.int .u8 c.toNat] w (BoolOut w (smallB c)) := by
  have hlt := UInt8.toNat_lt c
  go_enter Tryd.func78, Tryd.ntmps78
  go_wp2_with fail
  all_goals
    go_ret
    exact ⟨ret_bool (by rw [Bool.eq_iff_iff]; simp [smallB]; try omega), Below.refl _ _⟩

theorem digit_byte (c : UInt8) (w : World) : Calls Tryd.prog 79 #[.int .u8 c.toNat] w (BoolOut w (digitB c)) := by
  have hlt := UInt8.toNat_lt c
  go_enter Tryd.func79, Tryd.ntmps79
  go_wp2_with fail
  all_goals
    go_ret
    exact ⟨ret_bool (by rw [Bool.eq_iff_iff]; simp [digitB]; try omega), Below.refl _ _⟩

/-! ### texts in a row -/
/-- the slice v holds these texts, in a block below B -/
def Texts (B : Nat) (w : World) (v : Value) (ss : List ByteArray) : Prop :=
  ∃ a c, v = .slice a ss.length c ∧ (ss = [] ∨ ∃ ad, a = some ad ∧ ad.block < B ∧ ∀ j (h : j < ss.length), w.cell? (ad.add j) = some (.string ss[j]))
theorem Texts.below {B : Nat} {w w' : World} {v : Value} {ss : List ByteArray} (h : Texts B w v ss) (hb : Below B w w') : Texts B w' v ss := by
  obtain ⟨a, c, he, h1⟩ := h
  refine ⟨a, c, he, ?_⟩
  rcases h1 with h1 | ⟨ad, rfl, h2, h3⟩
  · exact .inl h1
  · exact .inr ⟨ad, rfl, h2, fun j hj => (hb.cell (by rw [add_block]; exact h2)).trans (h3 j hj)⟩
theorem Texts.more {B B' : Nat} {w : World} {v : Value} {ss : List ByteArray} (h : Texts B w v ss) (hB : B ≤ B') : Texts B' w v ss := by
  obtain ⟨a, c, he, h1⟩ := h
  refine ⟨a, c, he, ?_⟩
  rcases h1 with h1 | ⟨ad, rfl, h2, h3⟩
  · exact .inl h1
  · exact .inr ⟨ad, rfl, by omega, h3⟩

/-- is the text among these? -/
def amongB (ss : List ByteArray) (s : ByteArray) : Bool := ss.any fun x => x.toList == s.toList

theorem amongB_drop (ss : List ByteArray) (s : ByteArray) (k : Nat) (h : k < ss.length) : amongB (ss.drop k) s = (ss[k].toList == s.toList || amongB (ss.drop (k + 1)) s) := by
  unfold amongB
  rw [List.drop_eq_getElem_cons h, List.any_cons]

theorem holds_any (v : Value) (ss : List ByteArray) (s : ByteArray) (w : World) (h : Texts w.heap.size w v ss) (hl : ss.length ≤ 1000000) : Calls Tryd.prog 68 #[v, .string s] w (BoolOut w (amongB ss s)) := by
  obtain ⟨a, c, rfl, hc⟩ := h
  have HC := Lib.hid hc
  generalize hz : amongB ss s = z
  have HZ := Lib.hid hz
  clear hz hc
  go_enter Tryd.func68, Tryd.ntmps68
  go_wp2_with fail
  go_loopw [5] (fun i wr => ∃ k : Nat, k ≤ ss.length ∧ i = .int .i64 k ∧ wr = w ∧ Hid (amongB (ss.drop k) s = z)) (fun i _ => ss.length - (intOf i).toNat)
  case atStart => exact ⟨0, Nat.zero_le _, rfl, rfl, HZ⟩
  case round =>
    obtain ⟨k, hk, rfl, rfl, hF⟩ := hrel
    have hF2 := hF.out
    clear hF
    by_cases hlt : k < ss.length
    · rcases HC.out with rfl | ⟨ad, rfl, -, hcc⟩
      · simp at hlt
      have g0 := hcc k hlt
      rw [amongB_drop ss s k hlt] at hF2
      generalize ss[k] = y at g0 hF2
      clear hcc
      cases he : y.toList == s.toList with
      | true =>
        rw [he, Bool.true_or] at hF2
        subst hF2
        go_wp2_with fail
        go_ret
        exact ⟨rfl, Below.refl _ _⟩
      | false =>
        rw [he, Bool.false_or] at hF2
        have HF2 := Lib.hid hF2
        clear hF2
        go_wp2_with fail
        go_roundw
        case rel => exact ⟨k + 1, by omega, by go_num, by first | rfl | trivial, HF2⟩
        case measure => simp [intOf]; omega
    · rw [List.drop_eq_nil_of_le (by omega)] at hF2
      subst hF2
      go_wp2_with fail
      go_ret
      exact ⟨rfl, Below.refl _ _⟩

theorem contains_any (v : Value) (ss : List ByteArray) (s : ByteArray) (w : World) (h : Texts w.heap.size w v ss) (hl : ss.length ≤ 1000000) : Calls Tryd.prog 88 #[v, .string s] w (BoolOut w (amongB ss s)) := by
  obtain ⟨a, c, rfl, hc⟩ := h
  have HI : Hid (Calls Tryd.prog 90 #[.slice a ss.length c, .string s] w (fun e w' => ∃ n : Int, e = .returned (.int .i64 n) ∧ decide (0 ≤ n) = amongB ss s ∧ Below w.heap.size w w')) := by
    show Calls _ _ _ _ _
    have HC := Lib.hid hc
    generalize hz : amongB ss s = z
    have HZ := Lib.hid hz
    clear hz hc
    go_enter Tryd.func90, Tryd.ntmps90
    go_wp2_with fail
    go_loopw [8] (fun i wr => ∃ k : Nat, k ≤ ss.length ∧ i = .int .i64 k ∧ wr = w ∧ Hid (amongB (ss.drop k) s = z)) (fun i _ => ss.length - (intOf i).toNat)
    case atStart => exact ⟨0, Nat.zero_le _, rfl, rfl, HZ⟩
    case round =>
      obtain ⟨k, hk, rfl, rfl, hF⟩ := hrel
      have hF2 := hF.out
      clear hF
      by_cases hlt : k < ss.length
      · rcases HC.out with rfl | ⟨ad, rfl, -, hcc⟩
        · simp at hlt
        have g0 := hcc k hlt
        rw [amongB_drop ss s k hlt] at hF2
        generalize ss[k] = y at g0 hF2
        clear hcc
        cases he : y.toList == s.toList with
        | true =>
          have he2 : (s.toList == y.toList) = true := by rw [beq_iff_eq] at he ⊢; exact he.symm
          rw [he, Bool.true_or] at hF2
          subst hF2
          go_wp2_with fail
          go_ret
          refine ⟨k, rfl, ?_, Below.refl _ _⟩
          simp
        | false =>
          have he2 : (s.toList == y.toList) = false := by rw [beq_eq_false_iff_ne] at he ⊢; exact fun e => he e.symm
          rw [he, Bool.false_or] at hF2
          have HF2 := Lib.hid hF2
          clear hF2
          go_wp2_with fail
          go_roundw
          case rel => exact ⟨k + 1, by omega, by go_num, by first | rfl | trivial, HF2⟩
          case measure => simp [intOf]; omega
      · rw [List.drop_eq_nil_of_le (by omega)] at hF2
        subst hF2
        go_wp2_with fail
        go_ret
        exact ⟨-1, rfl, by simp [amongB], Below.refl _ _⟩
  generalize amongB ss s = z at HI ⊢
  clear hc
  go_enter Tryd.func88, Tryd.ntmps88
  go_wp2_with fail
  refine HI.out.mono ?_
  rintro e w1 ⟨n, rfl, hn, hB⟩
  have HN := Lib.hid hn
  clear hn
  go_wp2_with fail
  go_ret
  exact ⟨ret_bool HN.out, hB⟩
end Go.Proofs.YtmkghfkikclodaaDoor
namespace Go.Proofs.YtmkghfkikclodaaDoor
open Go.RowKit

/-- the language's words -/
def keysL : List ByteArray := [⟨#[105, 102]⟩, ⟨#[101, 108, 115, 101, 105, 102]⟩, ⟨#[101, 108, 115, 101]⟩, ⟨#[101, 110, 100, 105, 102]⟩, ⟨#[102, 111, 114]⟩, ⟨#[105, 110]⟩, ⟨#[101, 110, 100, 102, 111, 114]⟩, ⟨#[119, 104, 105, 108, 101]⟩, ⟨#[101, 110, 100, 119, 104, 105, 108, 101]⟩, ⟨#[98, 114, 101, 97, 107]⟩, ⟨#[99, 111, 110, 116, 105, 110, 117, 101]⟩, ⟨#[114, 101, 116, 117, 114, 110]⟩, ⟨#[102, 111, 114, 107]⟩, ⟨#[101, 110, 100, 102, 111, 114, 107]⟩, ⟨#[116, 114, 121]⟩, ⟨#[101, 120, 99, 101, 112, 116]⟩, ⟨#[102, 105, 110, 97, 108, 108, 121]⟩, ⟨#[101, 110, 100, 116, 114, 121]⟩, ⟨#[97, 110, 121]⟩]

def isNameB (s : ByteArray) : Bool := decide (1 ≤ s.size) && (decide (s.size ≤ 32) && (smallB (s.data.toList.headD 0) && s.data.toList.all fun c => smallB c || digitB c))

theorem keys_any (w : World) : Calls Tryd.prog 89 #[] w (fun e w' => ∃ v, e = .returned v ∧ Texts w'.heap.size w' v keysL ∧ Below w.heap.size w w') := by
  go_enter Tryd.func89, Tryd.ntmps89
  go_wp2_with fail
  go_ret
  refine ⟨_, rfl, ⟨_, _, rfl, .inr ⟨⟨w.heap.size, 0, none⟩, rfl, by simp, fun j hj => ?_⟩⟩, bal w _⟩
  have hj' : j < 19 := hj
  rw [show (⟨w.heap.size, 0, none⟩ : Addr).add j = ⟨w.heap.size, j, none⟩ by unfold Addr.add; split <;> simp_all, World.cell?_alloc_mark]
  have hc : j = 0 ∨ j = 1 ∨ j = 2 ∨ j = 3 ∨ j = 4 ∨ j = 5 ∨ j = 6 ∨ j = 7 ∨ j = 8 ∨ j = 9 ∨ j = 10 ∨ j = 11 ∨ j = 12 ∨ j = 13 ∨ j = 14 ∨ j = 15 ∨ j = 16 ∨ j = 17 ∨ j = 18 := by omega
  rcases hc with rfl | rfl | rfl | rfl | rfl | rfl | rfl | rfl | rfl | rfl | rfl | rfl | rfl | rfl | rfl | rfl | rfl | rfl | rfl <;> rfl

theorem all_drop (s : ByteArray) (f : UInt8 → Bool) (k : Nat) (h : k < s.size) : (s.data.toList.drop k).all f = (f s[k] && (s.data.toList.drop (k + 1)).all f) := by
  have : s.data.toList.drop k = s[k] :: s.data.toList.drop (k + 1) := by
    have h' : k < s.data.toList.length := by simpa using h
    rw [List.drop_eq_getElem_cons h']
    rfl
  rw [this, List.all_cons]

theorem head_zero (s : ByteArray) (h : 0 < s.size) : s.data.toList.headD 0 = s[0] := by
  have : s.data.toList.drop 0 = s[0] :: s.data.toList.drop 1 := by
    have h' : 0 < s.data.toList.length := by simpa using h
    rw [List.drop_eq_getElem_cons h']
    rfl
  rw [List.drop_zero] at this
  rw [this]
  rfl

set_option maxHeartbeats 1000000 in
theorem isName_any (s : ByteArray) (w : World) (hs : s.size ≤ 9223372036854775807) : Calls Tryd.prog 67 #[.string s] w (BoolOut w (isNameB s)) := by
  have HS := Lib.hid fun (c : UInt8) (w' : World) => small_byte c w'
  have HD := Lib.hid fun (c : UInt8) (w' : World) => digit_byte c w'
  by_cases h0 : s.size < 1
  · have e : isNameB s = false := by unfold isNameB; rw [decide_eq_false (by omega : ¬ 1 ≤ s.size)]; rfl
    rw [e]
    clear e
    go_enter Tryd.func67, Tryd.ntmps67
    go_wp2_with fail
    go_ret
    exact ⟨rfl, Below.refl _ _⟩
  by_cases h1 : 32 < s.size
  · have e : isNameB s = false := by unfold isNameB; rw [decide_eq_false (by omega : ¬ s.size ≤ 32)]; simp
    rw [e]
    clear e
    go_enter Tryd.func67, Tryd.ntmps67
    go_wp2_with fail
    go_ret
    exact ⟨rfl, Below.refl _ _⟩
  have hpos : 0 < s.size := by omega
  have hq : Hid (isNameB s = (smallB s[0] && (s.data.toList.drop 0).all fun c => smallB c || digitB c)) := by
    show _ = _
    unfold isNameB
    rw [decide_eq_true (by omega : 1 ≤ s.size), decide_eq_true (by omega : s.size ≤ 32), head_zero s hpos]
    rfl
  generalize isNameB s = z at hq ⊢
  generalize hc : s[0] = c0 at hq
  cases hsm : smallB c0 with
  | false =>
    rw [hsm, Bool.false_and] at hq
    have hz := hq.out
    subst hz
    have HC := Lib.hid (HS.out c0)
    rw [hsm] at HC
    clear hsm hq
    go_enter Tryd.func67, Tryd.ntmps67
    go_wp2_with fail
    refine (HC.out _).mono ?_
    rintro e w1 ⟨rfl, hB⟩
    go_wp2_with fail
    go_ret
    exact ⟨rfl, hB⟩
  | true =>
    rw [hsm, Bool.true_and] at hq
    have HC := Lib.hid (HS.out c0)
    rw [hsm] at HC
    clear hsm
    go_enter Tryd.func67, Tryd.ntmps67
    go_wp2_with fail
    refine (HC.out _).mono ?_
    rintro e w1 ⟨rfl, hB⟩
    clear hc
    go_wp2_with fail
    go_loopw [3] (fun i wr => ∃ k : Nat, k ≤ s.size ∧ i = .int .i64 k ∧ Below w.heap.size w wr ∧ Hid (z = (s.data.toList.drop k).all fun c => smallB c || digitB c)) (fun i _ => s.size - (intOf i).toNat)
    case atStart => exact ⟨0, Nat.zero_le _, rfl, hB, hq⟩
    case round =>
      clear hB hq
      obtain ⟨k, hk, rfl, hB, hP⟩ := hrel
      have hsz := hB.size
      by_cases hlt : k < s.size
      · have hP2 := hP.out
        rw [all_drop s _ k hlt] at hP2
        generalize hc : s[k] = c at hP2
        have hc' := hc
        cases hs1 : smallB c with
        | true =>
          rw [hs1, Bool.true_or, Bool.true_and] at hP2
          have HP := Lib.hid hP2
          have HC2 := Lib.hid (HS.out c)
          rw [hs1] at HC2
          clear hP2 hP hs1
          go_wp2_with fail
          refine (HC2.out _).mono ?_
          rintro e w2 ⟨rfl, hB2⟩
          go_wp2_with fail
          go_roundw
          case rel => exact ⟨k + 1, by omega, by go_num, hB.trans (hB2.mono hsz), HP⟩
          case measure => simp [intOf]; omega
        | false =>
          rw [hs1, Bool.false_or] at hP2
          have HC2 := Lib.hid (HS.out c)
          rw [hs1] at HC2
          cases hs2 : digitB c with
          | true =>
            rw [hs2, Bool.true_and] at hP2
            have HP := Lib.hid hP2
            have HC3 := Lib.hid (HD.out c)
            rw [hs2] at HC3
            clear hP2 hP hs1 hs2
            go_wp2_with fail
            refine (HC2.out _).mono ?_
            rintro e w2 ⟨rfl, hB2⟩
            go_wp2_with fail
            refine (HC3.out _).mono ?_
            rintro e w3 ⟨rfl, hB3⟩
            go_wp2_with fail
            go_roundw
            case rel => exact ⟨k + 1, by omega, by go_num, hB.trans ((hB2.mono hsz).trans (hB3.mono (by have := hB2.size; omega))), HP⟩
            case measure => simp [intOf]; omega
          | false =>
            rw [hs2, Bool.false_and] at hP2
            subst hP2
            have HC3 := Lib.hid (HD.out c)
            rw [hs2] at HC3
            clear hP hs1 hs2
            go_wp2_with fail
            refine (HC2.out _).mono ?_
            rintro e w2 ⟨rfl, hB2⟩
            go_wp2_with fail
            refine (HC3.out _).mono ?_
            rintro e w3 ⟨rfl, hB3⟩
            go_wp2_with fail
            go_ret
            exact ⟨rfl, hB.trans ((hB2.mono hsz).trans (hB3.mono (by have := hB2.size; omega)))⟩
      · have hP2 := hP.out
        have he : s.data.toList.drop k = [] := List.drop_eq_nil_of_le (by rw [size_list]; omega)
        rw [he, List.all_nil] at hP2
        subst hP2
        clear hP he
        go_wp2_with fail
        go_ret
        exact ⟨rfl, hB⟩

set_option maxHeartbeats 2000000 in
theorem name_any (s : ByteArray) (w : World) (hs : s.size ≤ 9223372036854775807) : Calls Tryd.prog 85 #[.string s] w (BoolOut w (isNameB s && !amongB keysL s)) := by
  have HK := Lib.hid fun (w' : World) => keys_any w'
  have HCN := Lib.hid fun (v : Value) (w' : World) (h : Texts w'.heap.size w' v keysL) => contains_any v keysL s w' h (by decide)
  by_cases h0 : s.size < 1
  · have e : isNameB s = false := by unfold isNameB; rw [decide_eq_false (by omega : ¬ 1 ≤ s.size)]; rfl
    rw [e, Bool.false_and]
    clear e
    go_enter Tryd.func85, Tryd.ntmps85
    go_wp2_with fail
    go_ret
    exact ⟨rfl, Below.refl _ _⟩
  by_cases h1 : 32 < s.size
  · have e : isNameB s = false := by unfold isNameB; rw [decide_eq_false (by omega : ¬ s.size ≤ 32)]; simp
    rw [e, Bool.false_and]
    clear e
    go_enter Tryd.func85, Tryd.ntmps85
    go_wp2_with fail
    go_ret
    exact ⟨rfl, Below.refl _ _⟩
  have hpos : 0 < s.size := by omega
  have hlt0 := UInt8.toNat_lt s[0]
  by_cases hd : 48 ≤ (s[0].toNat : Int) ∧ (s[0].toNat : Int) ≤ 57
  · have hq : isNameB s = false := by
      unfold isNameB
      rw [head_zero s hpos]
      have : smallB s[0] = false := by simp [smallB]; omega
      rw [this]
      simp
    rw [hq, Bool.false_and]
    obtain ⟨hd1, hd2⟩ := hd
    generalize hc : s[0] = c0 at hd1 hd2 hlt0
    clear hq
    go_enter Tryd.func85, Tryd.ntmps85
    go_wp2_with fail
    go_ret
    exact ⟨rfl, Below.refl _ _⟩
  · have hq : Hid (isNameB s = (s.data.toList.drop 0).all fun c => smallB c || digitB c) := by
      show _ = _
      unfold isNameB
      rw [decide_eq_true (by omega : 1 ≤ s.size), decide_eq_true (by omega : s.size ≤ 32), head_zero s hpos]
      rw [List.drop_zero, Bool.true_and, Bool.true_and]
      cases hsm : smallB s[0] with
      | true => rfl
      | false =>
        have h2 := all_drop s (fun c => smallB c || digitB c) 0 hpos
        rw [List.drop_zero] at h2
        rw [h2]
        have hdg : digitB s[0] = false := by
          simp [digitB] at hd ⊢
          omega
        simp only [hsm, hdg, Bool.or_self, Bool.false_and]
    generalize hz1 : isNameB s = z1 at hq ⊢
    have HZ1 := Lib.hid hz1
    generalize hz : (z1 && !amongB keysL s) = z
    have HZ := Lib.hid hz
    clear hz1 hz
    have hd2 : (s[0].toNat : Int) < 48 ∨ 57 < (s[0].toNat : Int) := by omega
    have hloop : ∀ (P : Prop), P → P := fun _ h => h
    clear hd hloop
    rcases hd2 with hd2 | hd2
    all_goals
      go_enter Tryd.func85, Tryd.ntmps85
      go_wp2_with fail
      clear hd2
      go_loopw [25] (fun i wr => ∃ k : Nat, k ≤ s.size ∧ i = .int .i64 k ∧ Below w.heap.size w wr ∧ Hid (z1 = (s.data.toList.drop k).all fun c => smallB c || digitB c)) (fun i _ => s.size - (intOf i).toNat)
      case atStart => exact ⟨0, Nat.zero_le _, rfl, Below.refl _ _, hq⟩
      case round =>
        clear hq
        obtain ⟨k, hk, rfl, hB, hP⟩ := hrel
        have hsz := hB.size
        by_cases hlt : k < s.size
        · have hP2 := hP.out
          rw [all_drop s _ k hlt] at hP2
          generalize hc : s[k] = c at hP2
          have hc' := hc
          have hcl := UInt8.toNat_lt c
          by_cases hgood : (97 ≤ (c.toNat : Int) ∧ (c.toNat : Int) ≤ 122) ∨ (48 ≤ (c.toNat : Int) ∧ (c.toNat : Int) ≤ 57) ∨ (c.toNat : Int) = 95
          · have hg : (smallB c || digitB c) = true := by simp [smallB, digitB]; omega
            rw [hg, Bool.true_and] at hP2
            have HP := Lib.hid hP2
            clear hP2 hP hg
            have hgood2 : (97 ≤ (c.toNat : Int) ∧ (c.toNat : Int) ≤ 122) ∨ (48 ≤ (c.toNat : Int) ∧ (c.toNat : Int) ≤ 57 ∧ (c.toNat : Int) < 97) ∨ (((c.toNat : Int) != 95) = false ∧ (c.toNat : Int) < 97 ∧ 57 < (c.toNat : Int)) := by
              rcases hgood with h | h | h
              · exact .inl h
              · exact .inr (.inl ⟨h.1, h.2, by omega⟩)
              · exact .inr (.inr ⟨by simp [h], by omega, by omega⟩)
            clear hgood
            rcases hgood2 with ⟨q1, q2⟩ | ⟨q1, q2, q3⟩ | ⟨q1, q2, q3⟩
            all_goals
              go_wp2_with fail
              go_roundw
              case rel => exact ⟨k + 1, by omega, by go_num, hB, HP⟩
              case measure => simp [intOf]; omega
          · have hg : (smallB c || digitB c) = false := by simp [smallB, digitB]; omega
            rw [hg, Bool.false_and] at hP2
            subst hP2
            have hz2 := HZ.out
            rw [Bool.false_and] at hz2
            subst hz2
            have q3 : ((c.toNat : Int) != 95) = true := by simp; omega
            clear hP hg
            have hw : ((c.toNat : Int) < 48) ∨ (57 < (c.toNat : Int) ∧ (c.toNat : Int) < 97) ∨ 122 < (c.toNat : Int) := by omega
            clear hgood
            rcases hw with q1 | ⟨q1, q2⟩ | q1
            all_goals
              go_wp2_with fail
              go_ret
              exact ⟨rfl, hB⟩
        · have hP2 := hP.out
          have he : s.data.toList.drop k = [] := List.drop_eq_nil_of_le (by rw [size_list]; omega)
          rw [he, List.all_nil] at hP2
          subst hP2
          have hz2 := HZ.out
          rw [Bool.true_and] at hz2
          have HZ2 := Lib.hid hz2
          clear hP he hz2
          go_wp2_with fail
          refine (HK.out _).mono ?_
          rintro e w1 ⟨v, rfl, ht, hB1⟩
          have HC := Lib.hid (HCN.out v w1 ht)
          obtain ⟨a, c, rfl, -⟩ := ht
          generalize amongB keysL s = y at HC HZ2
          go_wp2_with fail
          refine HC.out.mono ?_
          rintro e w2 ⟨rfl, hB2⟩
          go_wp2_with fail
          go_ret
          exact ⟨ret_bool HZ2.out, hB.trans ((hB1.mono hsz).trans (hB2.mono (by have := hB1.size; omega)))⟩
end Go.Proofs.YtmkghfkikclodaaDoor
namespace Go.Proofs.YtmkghfkikclodaaDoor
open Go.RowKit

/-- does a text stand ahead of another one? -/
def befL : List UInt8 → List UInt8 → Bool
  | _, [] => false
  | [], _ :: _ => true
  | x :: xs, y :: ys => if x = y then befL xs ys else decide (x.toNat < y.toNat)
def beforeB (a b : ByteArray) : Bool := befL a.data.toList b.data.toList
theorem byte_drop (s : ByteArray) (k : Nat) (h : k < s.size) : s.data.toList.drop k = s[k] :: s.data.toList.drop (k + 1) := by
  rw [List.drop_eq_getElem_cons (by rw [size_list]; exact h)]
  rfl
theorem byte_none (s : ByteArray) (k : Nat) (h : ¬ k < s.size) : s.data.toList.drop k = [] := List.drop_eq_nil_of_le (by rw [size_list]; omega)

/-- it draws, no more -/
def DrewB (z : Bool) (W : World) (e : Ending) (w' : World) : Prop := e = .returned (.bool z) ∧ ∃ m, w' = W.drewN m
theorem drewB_ret {x z : Bool} {W w' : World} {m : Nat} (h : x = z) (hw : w' = W.drewN m) : DrewB z W (.returned (.bool x)) w' := ⟨by rw [h], m, hw⟩

set_option maxHeartbeats 1000000 in
theorem before_any (a b : ByteArray) (w : World) (ha : a.size ≤ 9223372036854775807) (hb : b.size ≤ 9223372036854775807) : Calls Tryd.prog 87 #[.string a, .string b] w (DrewB (beforeB a b) w) := by
  have hz : Hid (befL (a.data.toList.drop 0) (b.data.toList.drop 0) = beforeB a b) := by show _ = _; rfl
  generalize beforeB a b = z at hz ⊢
  go_enter Tryd.func87, Tryd.ntmps87
  go_wp2_with fail
  go_loopw [5] (fun i wr => ∃ k : Nat, k ≤ a.size ∧ i = .int .i64 k ∧ (∃ m, wr = w.drewN m) ∧ Hid (befL (a.data.toList.drop k) (b.data.toList.drop k) = z)) (fun i _ => a.size - (intOf i).toNat)
  case atStart => exact ⟨0, Nat.zero_le _, rfl, ⟨0, rfl⟩, hz⟩
  case round =>
    obtain ⟨k, hk, rfl, ⟨m, rfl⟩, hF⟩ := hrel
    have hF2 := hF.out
    clear hz hF
    by_cases h1 : k < a.size
    · by_cases h2 : k < b.size
      · have h1i : (k : Int) < (a.size : Int) := by omega
        have h2i : (k : Int) < (b.size : Int) := by omega
        rw [byte_drop a k h1, byte_drop b k h2, befL] at hF2
        by_cases he : a[k] = b[k]
        · have he' : ((a[k].toNat : Int) != (b[k].toNat : Int)) = false := by rw [he]; simp
          rw [if_pos he] at hF2
          have HF2 := Lib.hid hF2
          clear hF2
          go_wp2
          go_quiet (fail)
          go_wp2
          go_roundw
          case rel => exact ⟨k + 1, by omega, by go_num, ⟨_, rfl⟩, HF2⟩
          case measure => simp [intOf]; omega
        · have he' : ((a[k].toNat : Int) != (b[k].toNat : Int)) = true := by simp only [bne_iff_ne, ne_eq]; exact fun e => he (UInt8.toNat_inj.1 (by exact_mod_cast e))
          rw [if_neg he] at hF2
          have HF2 := Lib.hid hF2
          clear hF2
          go_wp2
          go_quiet (fail)
          go_wp2
          go_quiet (fail)
          go_wp2
          go_ret
          exact drewB_ret (by rw [← HF2.out]) ((World.drewN_drewN _ _ _).trans (World.drewN_drewN _ _ _))
      · have h2i : ¬ (k : Int) < (b.size : Int) := by omega
        have h1i : (k : Int) < (a.size : Int) := by omega
        rw [byte_drop a k h1, byte_none b k h2, befL] at hF2
        have HF2 := Lib.hid hF2
        clear hF2
        go_wp2
        go_ret
        exact drewB_ret (by rw [← HF2.out]; simp; omega) rfl
    · have h1i : ¬ (k : Int) < (a.size : Int) := by omega
      rw [byte_none a k h1] at hF2
      have hF3 : decide (a.size < b.size) = z := by
        rw [← hF2]
        by_cases h2 : k < b.size
        · rw [byte_drop b k h2]; simp [befL]; omega
        · rw [byte_none b k h2]; simp [befL]; omega
      have HF2 := Lib.hid hF3
      clear hF2 hF3
      go_wp2
      go_ret
      exact drewB_ret (by rw [← HF2.out]; first | done | simp) rfl
end Go.Proofs.YtmkghfkikclodaaDoor
