/- StrReplaces: behind replacing there is nothing left of what was replaced. -/
import Derived.Test.YtodlgnaoghladaaRepl
import Derived.Test.YtodlgnaoghladaaLet
namespace Go.Proofs.Ytodlgnaoghladaa
open Go.ChangeShapes Go.WideShapes Go.ChangeAt Go.RowKit

theorem repl_nil (p w : List UInt8) (hp : p ≠ []) : repl p w [] = [] := rfl

theorem repl_cons (p w : List UInt8) (hp : p ≠ []) (b : UInt8) (l : List UInt8) :
    repl p w (b :: l) = if p.isPrefixOf (b :: l) then w ++ repl p w ((b :: l).drop p.length) else b :: repl p w l := by
  by_cases h : p.isPrefixOf (b :: l) = true
  · rw [if_pos h]
    have hi : Lib.index (b :: l) p = (0 : Nat) := by unfold Lib.index; rw [if_pos h]; rfl
    rw [repl_some p w _ 0 hp hi]
    simp
  · rw [if_neg h]
    by_cases hn : Lib.index l p = -1
    · have hi : Lib.index (b :: l) p = -1 := by unfold Lib.index; rw [if_neg h, hn]; rfl
      rw [repl_none _ _ _ hi, repl_none _ _ _ hn]
    · have hge := Lib.index_ge l p
      obtain ⟨k, hk⟩ : ∃ k : Nat, Lib.index l p = k := ⟨(Lib.index l p).toNat, by omega⟩
      have hi : Lib.index (b :: l) p = (k + 1 : Nat) := by
        unfold Lib.index; rw [if_neg h, hk]
        have : ((k : Int) == -1) = false := by simp
        rw [this]; rfl
      rw [repl_some p w _ (k + 1) hp hi, repl_some p w _ k hp hk]
      have e : k + 1 + p.length = (k + p.length) + 1 := by omega
      rw [e]
      rfl

theorem repl_one (a : UInt8) (w : List UInt8) : ∀ s : List UInt8, repl [a] w s = s.flatMap (fun c => if c = a then w else [c])
  | [] => rfl
  | b :: l => by
    rw [repl_cons [a] w (by simp), List.flatMap_cons]
    by_cases h : b = a
    · subst h
      simp [List.isPrefixOf, repl_one b w l]
    · have h2 : ¬ a = b := fun e => h e.symm
      simp [List.isPrefixOf, repl_one a w l, h, h2]

theorem one_same (s : List UInt8) : repl [97] [97] s = s := by
  rw [repl_one]
  induction s with
  | nil => rfl
  | cons b l ih => rw [List.flatMap_cons, ih]; by_cases h : b = 97 <;> simp [h]

theorem index_absent (a : UInt8) : ∀ l : List UInt8, a ∉ l → Lib.index l [a] = -1
  | [], _ => rfl
  | b :: l, h => by
    have h1 : ¬ a = b := by intro e; exact h (by simp [e])
    have h2 : a ∉ l := by intro e; exact h (by simp [e])
    unfold Lib.index
    rw [index_absent a l h2]
    simp [List.isPrefixOf, h1]

theorem absent (w : List UInt8) (hw : (97 : UInt8) ∉ w) (s : List UInt8) : Lib.index (repl [97] w s) [97] = -1 := by
  apply index_absent
  rw [repl_one]
  intro h
  rw [List.mem_flatMap] at h
  obtain ⟨c, _, hc⟩ := h
  by_cases e : c = 97
  · rw [if_pos e] at hc; exact hw hc
  · rw [if_neg e] at hc; simp at hc; exact e hc.symm

theorem lens (s : List UInt8) : (repl [97] [98, 99, 98] s).length + 2 * (repl [97] [] s).length = 3 * s.length ∧ (repl [97] [] s).length ≤ s.length := by
  rw [repl_one, repl_one]
  induction s with
  | nil => exact ⟨rfl, Nat.le_refl _⟩
  | cons b l ih =>
    simp only [List.flatMap_cons, List.length_append, List.length_cons]
    obtain ⟨h1, h2⟩ := ih
    by_cases h : b = 97
    · simp only [if_pos h, List.length_cons, List.length_nil]; omega
    · simp only [if_neg h, List.length_cons, List.length_nil]; omega

theorem many (w : List UInt8) : ∀ n : Nat, (repl [97] w (List.replicate n 97)).length = n * w.length := by
  intro n
  rw [repl_one]
  induction n with
  | zero => simp
  | succ n ih => rw [List.replicate_succ, List.flatMap_cons, List.length_append, ih, Nat.succ_mul]; simp; omega

def aS : ByteArray := ⟨#[97]⟩

theorem bs_data (l : List UInt8) : (bs l).data.toList = l := by simp [bs]
theorem bs_size (l : List UInt8) : (bs l).size = l.length := by show l.toArray.size = l.length; simp

def MaxHeld (W : World) : Prop := (∃ m, W.cell? ⟨0, 0, none⟩ = some (.int .i64 m)) ∧ 0 < W.heap.size
theorem maxHeld (W : World) (h : W.ShapedOpen Try.prog) : MaxHeld W := by
  obtain ⟨m, hm⟩ := Try.laysM143.s1_3 W h
  have hm' : W.cell? ⟨0, 0, none⟩ = some (.int .i64 m) := hm
  exact ⟨⟨m, hm'⟩, World.block_lt_of_cell? W ⟨0, 0, none⟩ hm'⟩
theorem MaxHeld.below {W W' : World} (h : MaxHeld W) (hb : Below W.heap.size W W') : MaxHeld W' := by
  obtain ⟨⟨m, hm⟩, h0⟩ := h
  exact ⟨⟨m, (hb.cell (p := ⟨0, 0, none⟩) h0).trans hm⟩, Nat.lt_of_lt_of_le h0 hb.size⟩

theorem three (s : ByteArray) (hs : s.size ≤ 200) : ∃ t u : ByteArray, (u.size : Int) - s.size = 2 * ((s.size : Int) - t.size) ∧ t.size ≤ s.size ∧ u.size ≤ 600 ∧
    (∀ W, MaxHeld W → Calls Try.prog 11 #[.string s, .string ⟨#[97]⟩, .string ⟨#[]⟩] W (Some4 W (.tuple #[.string t, .int .i64 0]))) ∧
    (∀ W, MaxHeld W → Calls Try.prog 11 #[.string s, .string ⟨#[97]⟩, .string ⟨#[98, 99, 98]⟩] W (Some4 W (.tuple #[.string u, .int .i64 0]))) ∧
    (∀ W, MaxHeld W → Calls Try.prog 11 #[.string s, .string ⟨#[97]⟩, .string ⟨#[97]⟩] W (Some4 W (.tuple #[.string s, .int .i64 0]))) ∧
    (∀ W, MaxHeld W → Calls Try.prog 12 #[.string t, .string ⟨#[97]⟩] W (fun e w' => e = .returned (.int .i64 0) ∧ W = w')) ∧
    (∀ W, MaxHeld W → Calls Try.prog 12 #[.string u, .string ⟨#[97]⟩] W (fun e w' => e = .returned (.int .i64 0) ∧ W = w')) := by
  have hl : s.data.toList.length = s.size := by rw [Array.length_toList]; rfl
  obtain ⟨l1, l2⟩ := lens s.data.toList
  rw [hl] at l1 l2
  refine ⟨bs (repl [97] [] s.data.toList), bs (repl [97] [98, 99, 98] s.data.toList), ?_, ?_, ?_, ?_, ?_, ?_, ?_, ?_⟩
  · rw [bs_size, bs_size]; omega
  · rw [bs_size]; omega
  · rw [bs_size]; omega
  · intro W hW
    have := replace_any s ⟨#[97]⟩ ⟨#[]⟩ W (by omega) (by decide) (by simp) hW.1 hW.2
    rwa [replV_fine (by show (repl [97] [] s.data.toList).length < 4096; omega)] at this
  · intro W hW
    have := replace_any s ⟨#[97]⟩ ⟨#[98, 99, 98]⟩ W (by omega) (by decide) (by simp) hW.1 hW.2
    rwa [replV_fine (by show (repl [97] [98, 99, 98] s.data.toList).length < 4096; omega)] at this
  · intro W hW
    have := replace_any s ⟨#[97]⟩ ⟨#[97]⟩ W (by omega) (by decide) (by simp) hW.1 hW.2
    have e : repl (ByteArray.mk #[97]).data.toList (ByteArray.mk #[97]).data.toList s.data.toList = s.data.toList := one_same _
    rw [e, replV_fine (by omega)] at this
    exact this
  · intro W hW
    have := index_any (bs (repl [97] [] s.data.toList)) ⟨#[97]⟩ W (by rw [bs_size]; omega) hW.1
    rw [bs_data, show Lib.index (repl [97] [] s.data.toList) (ByteArray.mk #[97]).data.toList = -1 from absent [] (by simp) _] at this
    exact this
  · intro W hW
    have := index_any (bs (repl [97] [98, 99, 98] s.data.toList)) ⟨#[97]⟩ W (by rw [bs_size]; omega) hW.1
    rw [bs_data, show Lib.index (repl [97] [98, 99, 98] s.data.toList) (ByteArray.mk #[97]).data.toList = -1 from absent _ (by decide) _] at this
    exact this

/-- the last call: forty letters, each in place of a text -/
theorem fourth (k : Nat) (hk : k ≤ 300) : (40 * k < 4096 → ∃ x : ByteArray, x.size = 40 * k ∧ ∀ W, MaxHeld W → Calls Try.prog 11 #[.string (bs (List.replicate 40 97)), .string ⟨#[97]⟩, .string (bs (List.replicate k 120))] W (Some4 W (.tuple #[.string x, .int .i64 0]))) ∧
    (4096 ≤ 40 * k → ∀ W, MaxHeld W → Calls Try.prog 11 #[.string (bs (List.replicate 40 97)), .string ⟨#[97]⟩, .string (bs (List.replicate k 120))] W (Some4 W (.tuple #[.string ⟨#[]⟩, .int .i64 14]))) := by
  have hm := many (List.replicate k 120) 40
  rw [List.length_replicate] at hm
  have ha : ∀ W, MaxHeld W → Calls Try.prog 11 #[.string (bs (List.replicate 40 97)), .string ⟨#[97]⟩, .string (bs (List.replicate k 120))] W (Some4 W (replV (repl [97] (List.replicate k 120) (List.replicate 40 97)))) := by
    intro W hW
    have := replace_any (bs (List.replicate 40 97)) ⟨#[97]⟩ (bs (List.replicate k 120)) W (by rw [bs_size]; simp) (by rw [bs_size]; simp; omega) (by simp) hW.1 hW.2
    rw [bs_data, bs_data] at this
    exact this
  constructor
  · intro h
    refine ⟨bs (repl [97] (List.replicate k 120) (List.replicate 40 97)), by rw [bs_size]; exact hm, fun W hW => ?_⟩
    have := ha W hW
    rwa [replV_fine (by omega)] at this
  · intro h W hW
    have := ha W hW
    rwa [replV_big (by omega)] at this

theorem bs_more (k : Nat) (c : UInt8) : bs (List.replicate k c) ++ ByteArray.mk #[c] = bs (List.replicate (k + 1) c) := by
  rw [List.replicate_succ']
  apply ByteArray.ext
  rw [ByteArray.data_append]
  show (List.replicate k c).toArray ++ #[c] = (List.replicate k c ++ [c]).toArray
  apply Array.ext'
  simp [-List.toArray_replicate]

set_option maxRecDepth 100000 in
set_option maxHeartbeats 400000 in
theorem replaces_walk (s : ByteArray) (n : Int) (w : World) (hs : s.size ≤ maxLen) (hn : (Lit.int .i64 n).wf = true) (hW : MaxHeld w) :
    Calls Try.prog 4 #[.string s, .int .i64 n] w fun e w' => e = .returned (.bool true) ∧ Below w.heap.size w w' := by
  by_cases hbig : 200 < s.size
  · unfold maxLen at hs
    go_enter Try.func4, Try.ntmps4
    go_wp2_with (go_at_call 7; refine (first_any _).mono ?_; rintro e w' ⟨rfl, rfl⟩)
    go_ret
    exact ⟨rfl, Below.refl _ _⟩
  · replace hbig : s.size ≤ 200 := by omega
    clear hs
    obtain ⟨t, u, hlen, htl, hul, c1, c2, c3, d1, d2⟩ := three s hbig
    have C1 := Lib.hid c1
    have C2 := Lib.hid c2
    have C3 := Lib.hid c3
    have D1 := Lib.hid d1
    have D2 := Lib.hid d2
    have hne : ((u.size : Int) - s.size != 2 * ((s.size : Int) - t.size)) = false := by rw [hlen]; simp
    clear c1 c2 c3 d1 d2 hlen
    go_enter Try.func4, Try.ntmps4
    go_wp2_with (go_at_call 7; refine (first_any _).mono ?_; rintro e w' ⟨rfl, rfl⟩)
    refine (C1.out _ hW).mono ?_
    rintro e w1 ⟨rfl, hB1⟩
    have hW1 := hW.below hB1
    go_wp2_with fail
    refine (C2.out _ hW1).mono ?_
    rintro e w2 ⟨rfl, hB2⟩
    have hW2 := hW1.below hB2
    go_wp2_with fail
    refine (C3.out _ hW2).mono ?_
    rintro e w3 ⟨rfl, hB3⟩
    have hW3 := hW2.below hB3
    go_wp2_with fail
    refine (D1.out _ hW3).mono ?_
    rintro e w' ⟨rfl, rfl⟩
    go_wp2_with fail
    refine (D2.out _ hW3).mono ?_
    rintro e w' ⟨rfl, rfl⟩
    go_wp2_with fail
    have hB : Below w.heap.size w w3 := (hB1.trans (hB2.mono hB1.size)).trans (hB3.mono (Nat.le_trans hB1.size hB2.size))
    clear hB1 hB2 hB3 hW hW1 hW2 hne htl hul
    refine (number_any n 3000 _ hn (by decide) (by decide)).mono ?_
    have hn1 : 0 ≤ n % 3000 := by omega
    have hn2 : n % 3000 < 3000 := by omega
    generalize n % 3000 = q at hn1 hn2
    rintro e w' ⟨rfl, rfl⟩
    go_wp2_with fail
    go_loop [12, 13] (fun l i => ∃ k : Nat, k ≤ 40 ∧ i = .int .i64 k ∧ l = .string (bs (List.replicate k 97))) (fun _ i => 40 - (intOf i).toNat)
    case atStart => exact ⟨0, by omega, rfl, rfl⟩
    case round =>
      obtain ⟨k, hk, rfl, rfl⟩ := hrel
      have hbz : (bs (List.replicate k 97)).size ≤ 40 := by rw [bs_size, List.length_replicate]; exact hk
      by_cases hlt : k < 40
      · go_wp2
        go_round
        case rel => exact ⟨k + 1, by omega, by go_num, by rw [bs_more]⟩
        case measure => simp [intOf]; omega
      · obtain rfl : k = 40 := by omega
        go_wp2_with fail
        go_loop [14, 15] (fun l i => ∃ k : Nat, (k : Int) ≤ q / 10 ∧ i = .int .i64 k ∧ l = .string (bs (List.replicate k 120))) (fun _ i => (q / 10 - intOf i).toNat)
        case atStart => exact ⟨0, by omega, rfl, rfl⟩
        case round =>
          obtain ⟨j, hj, rfl, rfl⟩ := hrel
          have hbj : (bs (List.replicate j 120)).size ≤ 300 := by rw [bs_size, List.length_replicate]; omega
          by_cases hlj : (j : Int) < q / 10
          · go_wp2
            go_round
            case rel => exact ⟨j + 1, by omega, by go_num, by rw [bs_more]⟩
            case measure => simp [intOf]; omega
          · obtain ⟨f1, f2⟩ := fourth j (by omega)
            have hsj : (bs (List.replicate j 120)).size = j := by rw [bs_size, List.length_replicate]
            by_cases hbg : 40 * j < 4096
            · obtain ⟨x, hx, f⟩ := f1 hbg
              have F := Lib.hid f
              clear f f1 f2
              go_wp2_with fail
              refine (F.out _ hW3).mono ?_
              rintro e w4 ⟨rfl, hB4⟩
              go_wp2_with fail
              go_ret
              exact ⟨rfl, hB.trans (hB4.mono hB.size)⟩
            · have F := Lib.hid (f2 (by omega))
              clear f1 f2
              go_wp2_with fail
              refine (F.out _ hW3).mono ?_
              rintro e w4 ⟨rfl, hB4⟩
              go_wp2_with fail
              go_ret
              exact ⟨rfl, hB.trans (hB4.mono hB.size)⟩
end Go.Proofs.Ytodlgnaoghladaa
