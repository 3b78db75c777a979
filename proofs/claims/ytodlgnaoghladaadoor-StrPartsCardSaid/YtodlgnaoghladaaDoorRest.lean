/- SameTexts, Trim, the reference's Trim, Index, Last, Cut: what they come to. -/
import Derived.Test.YtodlgnaoghladaaDoorWords
namespace Go.Proofs.YtodlgnaoghladaaDoor
open Go.ChangeShapes Go.WideShapes Go.ChangeAt Go.RowKit

def TrueDrew (W : World) (e : Ending) (w' : World) : Prop := e = .returned (.bool true) ∧ Below W.heap.size W w'

set_option maxRecDepth 100000 in
theorem same_any (a b : Option Addr) (c d : Nat) (ss : List ByteArray) (w : World) (h1 : StrsAt w a ss) (h2 : StrsAt w b ss) :
    Calls Tryd.prog 8 #[.slice a ss.length c, .slice b ss.length d] w (TrueDrew w) := by
  have hl := h1.len
  unfold maxLen at hl
  go_enter Tryd.func8, Tryd.ntmps8
  go_wp2
  go_loopw [5] (fun i wr => ∃ k : Nat, k ≤ ss.length ∧ i = .int .i64 k ∧ Below w.heap.size w wr) (fun i _ => ss.length - (intOf i).toNat)
  case atStart => exact ⟨0, Nat.zero_le _, rfl, Below.refl _ _⟩
  case round =>
    obtain ⟨k, hk, rfl, hB⟩ := hrel
    by_cases hlt : k < ss.length
    · obtain ⟨b1, o1, rfl, hb1, hc1⟩ := h1.at_ (by omega)
      obtain ⟨b2, o2, rfl, hb2, hc2⟩ := h2.at_ (by omega)
      have hk1 := (hB.cell (p := ⟨b1, o1 + k, none⟩) hb1).trans (hc1 k hlt)
      have hk2 := (hB.cell (p := ⟨b2, o2 + k, none⟩) hb2).trans (hc2 k hlt)
      generalize ss[k] = x at hk1 hk2
      clear hc1 hc2
      have hltI : (k : Int) < ss.length := by omega
      go_wp2
      go_quiet (fail)
      go_wp2
      go_roundw
      case rel => exact ⟨k + 1, by omega, by go_num, below_drewN hB _⟩
      case measure => simp [intOf]; omega
    · go_wp2
      go_ret
      exact ⟨rfl, hB⟩

theorem trim_any (s : ByteArray) (w : World) (hs : s.size ≤ 1000) :
    Calls Tryd.prog 9 #[.string s] w fun e w' => e = .returned (.string (bs (Lib.trimB s.data.toList 32))) ∧ (w' = w ∨ w' = w.drew) := by
  have h := Tryd.strings_Trim_one s 32 (by decide) w (by omega)
  have H := Lib.hid h
  clear h
  go_enter Tryd.func9, Tryd.ntmps9
  go_wp2_with fail
  refine H.out.mono ?_
  rintro e w' ⟨rfl, hw⟩
  have HW := Lib.hid hw
  clear hw
  go_wp2
  go_ret
  exact ⟨rfl, HW.out⟩

/-! ### the reference's Trim -/
theorem trim_eq (s : ByteArray) (i j : Nat) (hij : i ≤ j) (hj : j ≤ s.size) (h1 : ∀ x (h : x < s.size), x < i → s[x] = 32) (h2 : ∀ x (h : x < s.size), j ≤ x → s[x] = 32)
    (h3 : ∀ (h : i < s.size), s[i] ≠ 32) (h4 : i < s.size → ∃ _ : i < j, ∀ (h : j - 1 < s.size), s[j - 1] ≠ 32) : s.extract i j = bs (Lib.trimB s.data.toList 32) := by
  have hsl : s.data.toList.length = s.size := by rw [Array.length_toList]; rfl
  have hget : ∀ x b, s.data.toList[x]? = some b → ∃ h : x < s.size, s[x] = b := by
    intro x b hb
    obtain ⟨hx, rfl⟩ := List.getElem?_eq_some_iff.1 hb
    exact ⟨by omega, rfl⟩
  rw [bs_extract]
  congr 1
  by_cases hi : i < s.size
  · obtain ⟨hij2, h5⟩ := h4 hi
    unfold Lib.trimB
    rw [Lib.trimRightB_take s.data.toList 32 j (by omega) (fun x b hx hb => by obtain ⟨hxs, rfl⟩ := hget x b hb; exact h2 x hxs hx)
      (fun b _ hb => by obtain ⟨hxs, rfl⟩ := hget _ b hb; exact h5 hxs)]
    rw [Lib.trimLeftB_drop (s.data.toList.take j) 32 i (by rw [List.length_take]; omega)]
    · rw [List.drop_take]
    · intro x b hx hb
      rw [List.getElem?_take] at hb
      split at hb
      · obtain ⟨hxs, rfl⟩ := hget x b hb; exact h1 x hxs hx
      · cases hb
    · intro b hb
      rw [List.getElem?_take, if_pos hij2] at hb
      obtain ⟨hxs, rfl⟩ := hget i b hb
      exact h3 hxs
  · have hi2 : i = s.size := by omega
    have hall : ∀ x (h : x < s.size), s[x] = 32 := fun x h => h1 x h (by omega)
    unfold Lib.trimB
    rw [Lib.trimRightB_take s.data.toList 32 0 (Nat.zero_le _) (fun x b _ hb => by obtain ⟨hxs, rfl⟩ := hget x b hb; exact hall x hxs) (fun b h => absurd h (Nat.lt_irrefl _))]
    have : j - i = 0 := by omega
    rw [this]
    rfl

theorem byte32 (c : UInt8) : ((c.toNat : Int) == 32) = (c == 32) := by
  rw [Bool.eq_iff_iff, beq_iff_eq, beq_iff_eq]
  constructor
  · intro h
    apply UInt8.toNat_inj.1
    show c.toNat = 32
    omega
  · intro h; subst h; rfl

set_option maxRecDepth 100000 in
theorem reftrim_any (s : ByteArray) (w : World) (hs : s.size ≤ 1000) :
    Calls Tryd.prog 20 #[.string s] w fun e w' => e = .returned (.string (bs (Lib.trimB s.data.toList 32))) ∧ w = w' := by
  go_enter Tryd.func20, Tryd.ntmps20
  go_wp2
  go_loop [3] (fun i => ∃ k : Nat, k ≤ s.size ∧ i = .int .i64 k ∧ Hid (∀ x (h : x < s.size), x < k → s[x] = 32)) (fun i => s.size - (intOf i).toNat)
  case atStart => exact ⟨0, Nat.zero_le _, rfl, fun x _ h => absurd h (Nat.not_lt_zero _)⟩
  case round =>
    obtain ⟨k, hk, rfl, hall⟩ := hrel
    by_cases hsp : ∃ h : k < s.size, s[k] = 32
    · obtain ⟨hlt, hsp⟩ := hsp
      have hall2 : Hid (∀ x (h : x < s.size), x < k + 1 → s[x] = 32) := by
        intro x h hx
        by_cases e : x = k
        · subst e; exact hsp
        · exact hall.out x h (by omega)
      clear hall
      go_wp2
      go_round
      case rel => exact ⟨k + 1, by omega, by go_num, hall2⟩
      case measure => simp [intOf]; omega
    · have h3 : Hid (∀ h : k < s.size, s[k] ≠ 32) := fun h e => hsp ⟨h, e⟩
      have hgo : Hid (∀ h : k < s.size, ((s[k].toNat : Int) == 32) = false) := fun h => by rw [byte32]; simpa using h3.out h
      clear hsp
      by_cases hlt : k < s.size
      · have hne := hgo.out hlt
        go_wp2_with fail
        go_loop [4] (fun j' => ∃ m : Nat, k ≤ m ∧ m < s.size ∧ j' = .int .i64 ((m : Int) + 1) ∧ Hid (∀ x (h : x < s.size), m + 1 ≤ x → s[x] = 32)) (fun j' => (intOf j').toNat)
        case atStart => exact ⟨s.size - 1, by omega, by omega, by rw [show ((s.size - 1 : Nat) : Int) + 1 = s.size by omega], fun x h hx => by omega⟩
        case round =>
          obtain ⟨m, hkm, hms, rfl, hall3⟩ := hrel
          by_cases hm : s[m] = 32
          · have hkm2 : k < m := by
              rcases Nat.lt_or_ge k m with h | h
              · exact h
              · have e : m = k := by omega
                subst e
                exact absurd hm (h3.out hlt)
            have hall4 : Hid (∀ x (h : x < s.size), m ≤ x → s[x] = 32) := by
              intro x h hx
              by_cases e : x = m
              · subst e; exact hm
              · exact hall3.out x h (by omega)
            clear hall3
            obtain ⟨q, rfl⟩ : ∃ q, m = q + 1 := ⟨m - 1, by omega⟩
            go_wp2
            go_round
            case rel => exact ⟨q, by omega, by omega, by go_num, hall4⟩
            case measure => simp [intOf]; omega
          · have hb : ((s[m].toNat : Int) == 32) = false := by rw [byte32]; simpa using hm
            have HF : Hid (s.extract k (m + 1) = bs (Lib.trimB s.data.toList 32)) :=
              trim_eq s k (m + 1) (by omega) (by omega) (fun x h hx => hall.out x h hx) (fun x h hx => hall3.out x h hx) (fun h => h3.out h) (fun _ => ⟨by omega, fun h => hm⟩)
            have hslc : ∀ wx : World, (Instr.slice 9 (.string s) (some (.int .i64 k)) (some (.int .i64 ((m : Int) + 1))) none).run Tryd.prog wx = .ok (.string (bs (Lib.trimB s.data.toList 32))) wx := by
              intro wx
              rw [run_slice_string (P := Tryd.prog) (w := wx) 9 s .i64 .i64 k ((m : Int) + 1) Tryd.underlying9 (by omega) (by omega) (by omega), ← HF.out]
              rfl
            clear hm hall3
            go_wp2
            go_ret
            exact ⟨rfl, rfl⟩
      · obtain rfl : k = s.size := by omega
        have HF : Hid (s.extract s.size s.size = bs (Lib.trimB s.data.toList 32)) :=
          trim_eq s s.size s.size (by omega) (by omega) (fun x h hx => hall.out x h hx) (fun x h hx => by omega) (fun h => by omega) (fun h => by omega)
        have hslc : ∀ wx : World, (Instr.slice 9 (.string s) (some (.int .i64 (s.size : Int))) (some (.int .i64 (s.size : Int))) none).run Tryd.prog wx = .ok (.string (bs (Lib.trimB s.data.toList 32))) wx := by
          intro wx
          rw [run_slice_string (P := Tryd.prog) (w := wx) 9 s .i64 .i64 s.size s.size Tryd.underlying9 (by omega) (by omega) (by omega), ← HF.out]
          rfl
        clear hgo h3
        go_wp2_with fail
        go_loop [4] (fun j' => j' = .int .i64 (s.size : Int)) (fun _ => 0)
        case atStart => rfl
        case round =>
          obtain rfl := hrel
          go_wp2
          go_ret
          exact ⟨rfl, rfl⟩

/-! ### the reference's Index and Last -/
set_option maxRecDepth 100000 in
theorem refindex_any (s p : ByteArray) (w : World) (hs : s.size ≤ 1000) (hp : p.size ≤ 1000) :
    Calls Tryd.prog 15 #[.string s, .string p] w fun e w' => e = .returned (.int .i64 (Lib.index s.data.toList p.data.toList + 1)) ∧ w = w' := by
  have hsl : s.data.toList.length = s.size := by rw [Array.length_toList]; rfl
  have hpl : p.data.toList.length = p.size := by rw [Array.length_toList]; rfl
  have HS := Lib.hid hsl
  have HP := Lib.hid hpl
  clear hsl hpl
  go_enter Tryd.func15, Tryd.ntmps15
  go_wp2
  go_loop [5] (fun i => ∃ k : Nat, k ≤ s.size + 1 ∧ i = .int .i64 k ∧ Lib.NoOcc s.data.toList p.data.toList k) (fun i => s.size + 1 - (intOf i).toNat)
  case atStart => exact ⟨0, Nat.zero_le _, rfl, Lib.NoOcc.zero _ _⟩
  case round =>
    obtain ⟨k, hk, rfl, hno⟩ := hrel
    have HN := Lib.hid hno
    clear hno
    by_cases hroom : k + p.size ≤ s.size
    · have hsl2 := slice_mid s k p.size hroom
      have hoc := Lib.occ_of_piece s p k hroom
      by_cases hb : ((s.extract k (k + p.size)).toList == p.toList) = true
      · rw [hb] at hoc
        have HF : Hid (Lib.index s.data.toList p.data.toList = k) := Lib.index_hit HN.out (by rw [HS.out]; omega) hoc
        clear hoc
        go_wp2
        go_ret
        rw [HF.out]
        exact ⟨rfl, rfl⟩
      · replace hb : ((s.extract k (k + p.size)).toList == p.toList) = false := by simpa using hb
        rw [hb] at hoc
        have HN2 := Lib.hid (Lib.NoOcc.succ HN.out hoc)
        clear hoc
        go_wp2
        go_round
        case rel => exact ⟨k + 1, by omega, by go_num, HN2.out⟩
        case measure => simp [intOf]; omega
    · replace hroom : s.size < k + p.size := by omega
      have HF : Hid (Lib.index s.data.toList p.data.toList = -1) := by
        show _ = _
        apply Lib.index_none
        intro j hj
        rcases Nat.lt_or_ge j k with h | h
        · exact HN.out j h
        · cases ho : Lib.occAt s.data.toList p.data.toList j with
          | false => rfl
          | true =>
            have := occ_lt ho hj
            rw [HS.out, HP.out] at this
            omega
      clear HN
      go_wp2
      go_ret
      rw [HF.out]
      exact ⟨rfl, rfl⟩
set_option maxRecDepth 100000 in
theorem reflast_any (s p : ByteArray) (w : World) (hs : s.size ≤ 1000) (hp : p.size ≤ 1000) :
    Calls Tryd.prog 17 #[.string s, .string p] w fun e w' => e = .returned (.int .i64 (Lib.lastIndex s.data.toList p.data.toList + 1)) ∧ w = w' := by
  have hsl : s.data.toList.length = s.size := by rw [Array.length_toList]; rfl
  have hpl : p.data.toList.length = p.size := by rw [Array.length_toList]; rfl
  by_cases hle : p.size ≤ s.size
  · have hF : Lib.lastIndex s.data.toList p.data.toList = Lib.lastOcc s.data.toList p.data.toList (s.size - p.size + 1) := by
      unfold Lib.lastIndex; rw [hsl, hpl, if_pos hle]
    have HF := Lib.hid hF
    clear hF hsl hpl
    go_enter Tryd.func17, Tryd.ntmps17
    go_wp2
    go_loop [5] (fun i => (∃ q : Nat, q + p.size ≤ s.size ∧ i = .int .i64 q ∧ Hid (Lib.lastIndex s.data.toList p.data.toList = Lib.lastOcc s.data.toList p.data.toList (q + 1))) ∨ (i = .int .i64 (-1) ∧ Hid (Lib.lastIndex s.data.toList p.data.toList = -1)))
      (fun i => (intOf i + 1).toNat)
    case atStart =>
      refine .inl ⟨s.size - p.size, by omega, ?_, HF⟩
      rw [show ((s.size - p.size : Nat) : Int) = (s.size : Int) - p.size by omega]
    case round =>
      rcases hrel with ⟨q, hq, rfl, hL⟩ | ⟨rfl, hL⟩
      · have hsl2 := slice_mid s q p.size hq
        have hoc := Lib.occ_of_piece s p q hq
        by_cases hb : ((s.extract q (q + p.size)).toList == p.toList) = true
        · rw [hb] at hoc
          have HF2 : Hid (Lib.lastIndex s.data.toList p.data.toList = q) := by
            show _ = _; rw [hL.out, Lib.lastOcc_hit _ _ _ hoc]
          clear hoc
          go_wp2
          go_ret
          rw [HF2.out]
          exact ⟨rfl, rfl⟩
        · replace hb : ((s.extract q (q + p.size)).toList == p.toList) = false := by simpa using hb
          rw [hb] at hoc
          have HF2 : Hid (Lib.lastIndex s.data.toList p.data.toList = Lib.lastOcc s.data.toList p.data.toList q) := by
            show _ = _; rw [hL.out, Lib.lastOcc_miss _ _ _ hoc]
          clear hoc hL
          go_wp2
          go_round
          case rel =>
            cases q with
            | zero => exact .inr ⟨rfl, HF2⟩
            | succ q => exact .inl ⟨q, by omega, by rw [show ((q + 1 : Nat) : Int) - 1 = q by omega], HF2⟩
          case measure => simp [intOf]
      · go_wp2
        go_ret
        rw [hL.out]
        exact ⟨rfl, rfl⟩
  · have hF : Lib.lastIndex s.data.toList p.data.toList = -1 := by
      unfold Lib.lastIndex; rw [hsl, hpl, if_neg hle]
    have HF := Lib.hid hF
    replace hle : s.size < p.size := by omega
    clear hF hsl hpl
    go_enter Tryd.func17, Tryd.ntmps17
    go_wp2
    go_loop [5] (fun i => i = .int .i64 ((s.size : Int) - p.size)) (fun _ => 0)
    case atStart => rfl
    case round =>
      obtain rfl := hrel
      go_wp2
      go_ret
      rw [HF.out]
      exact ⟨rfl, rfl⟩

/-! ### Cut, both -/
def cutV (s : ByteArray) (a b : Int) : Value :=
  if b < a then .tuple #[.string ⟨#[]⟩, .int .i64 0] else if a < 1 ∨ (s.size : Int) < b then .tuple #[.string ⟨#[]⟩, .int .i64 10] else .tuple #[.string (s.extract (a.toNat - 1) b.toNat), .int .i64 0]

theorem cut_out (s : ByteArray) (a b : Int) (w : World) (hs : s.size ≤ 1000) (h2 : a ≤ b) (h : a < 1 ∨ (s.size : Int) < b) :
    Calls Tryd.prog 10 #[.string s, .int .i64 a, .int .i64 b] w fun e w' => e = .returned (.tuple #[.string ⟨#[]⟩, .int .i64 10]) ∧ w = w' := by
  by_cases h1 : a < 1
  · clear h
    go_enter Tryd.func10, Tryd.ntmps10
    go_wp2
    go_ret2
    exact ⟨rfl, rfl⟩
  · have h3 : (s.size : Int) < b := by omega
    clear h
    go_enter Tryd.func10, Tryd.ntmps10
    go_wp2
    go_ret2
    exact ⟨rfl, rfl⟩

theorem cut_all (s : ByteArray) (a b : Int) (w : World) (hs : s.size ≤ 1000) :
    Calls Tryd.prog 10 #[.string s, .int .i64 a, .int .i64 b] w fun e w' => e = .returned (cutV s a b) ∧ w = w' := by
  unfold cutV
  by_cases h1 : b < a
  · rw [if_pos h1]; exact cut_empty s a b w h1
  · rw [if_neg h1]
    by_cases h2 : a < 1 ∨ (s.size : Int) < b
    · rw [if_pos h2]; exact cut_out s a b w hs (by omega) h2
    · rw [if_neg h2]; exact cut_any s a b w (by omega) (by omega) (by omega) (by omega)

theorem refcut_all (s : ByteArray) (a b : Int) (w : World) (hs : s.size ≤ 1000) :
    Calls Tryd.prog 13 #[.string s, .int .i64 a, .int .i64 b] w fun e w' => e = .returned (cutV s a b) ∧ w = w' := by
  unfold cutV
  by_cases h1 : b < a
  · rw [if_pos h1]
    go_enter Tryd.func13, Tryd.ntmps13
    go_wp2
    go_ret2
    exact ⟨rfl, rfl⟩
  · rw [if_neg h1]
    by_cases h2 : a < 1
    · rw [if_pos (.inl h2)]
      go_enter Tryd.func13, Tryd.ntmps13
      go_wp2
      go_ret2
      exact ⟨rfl, rfl⟩
    · by_cases h3 : (s.size : Int) < b
      · rw [if_pos (.inr h3)]
        go_enter Tryd.func13, Tryd.ntmps13
        go_wp2
        go_ret2
        exact ⟨rfl, rfl⟩
      · rw [if_neg (by omega)]
        have hsl := run_slice_string (P := Tryd.prog) (w := w) 9 s .i64 .i64 (a - 1) b Tryd.underlying9 (by omega) (by omega) (by omega)
        have h4 : b ≤ 4294967281 := by omega
        have h5 : a ≤ 4294967281 := by omega
        go_enter Tryd.func13, Tryd.ntmps13
        go_wp2
        go_ret2
        exact ⟨rfl, rfl⟩
end Go.Proofs.YtodlgnaoghladaaDoor
