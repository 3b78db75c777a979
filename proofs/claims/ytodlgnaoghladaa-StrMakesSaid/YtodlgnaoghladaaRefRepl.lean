/- The reference's Replace comes to the same. -/
import Derived.Test.YtodlgnaoghladaaReplaces
namespace Go.Proofs.Ytodlgnaoghladaa
open Go.ChangeShapes Go.WideShapes Go.ChangeAt Go.RowKit

theorem drop_cons (s : ByteArray) (k : Nat) (h : k < s.size) : s.data.toList.drop k = s[k] :: s.data.toList.drop (k + 1) := by
  have hl : k < s.data.toList.length := by rw [Array.length_toList]; exact h
  rw [List.drop_eq_getElem_cons hl]
  rfl

theorem prefix_iff (s p : ByteArray) (k : Nat) (h : k + p.size ≤ s.size) : p.data.toList.isPrefixOf (s.data.toList.drop k) = ((s.extract k (k + p.size)).toList == p.toList) :=
  Lib.occ_of_piece s p k h

theorem prefix_long (s p : ByteArray) (k : Nat) (h0 : 0 < p.size) (h : s.size < k + p.size) : p.data.toList.isPrefixOf (s.data.toList.drop k) = false := by
  have hl : s.data.toList.length = s.size := by rw [Array.length_toList]; rfl
  have hlp : p.data.toList.length = p.size := by rw [Array.length_toList]; rfl
  cases hb : p.data.toList.isPrefixOf (s.data.toList.drop k) with
  | false => rfl
  | true =>
    have := (List.isPrefixOf_iff_prefix.1 hb).length_le
    rw [List.length_drop] at this
    omega

theorem one_cell (W : World) (v : Value) (t : TypeId) (j : Nat) (m : List UInt8) (c : UInt8) (hv : v = byteV c) (hm : m = [c]) (hj : j < m.length) : (W.alloc (.cells #[v] t)).cell? ((⟨W.heap.size, 0, none⟩ : Addr).add j) = some (byteV m[j]) := by
  subst hm hv
  have : j = 0 := by simpa using hj
  subst this
  have e : (⟨W.heap.size, 0, none⟩ : Addr).add 0 = ⟨W.heap.size, 0, none⟩ := rfl
  rw [e]
  have := World.cell?_alloc_mark W #[byteV c] t (0, 0) 0
  rw [this]
  rfl

theorem slice_mid (s : ByteArray) (k n : Nat) (h : k + n ≤ s.size) (wx : World) :
    (Instr.slice 9 (.string s) (some (.int .i64 k)) (some (.int .i64 ((k : Int) + n))) none).run Try.prog wx = .ok (.string (s.extract k (k + n))) wx := by
  have := run_slice_string (P := Try.prog) (w := wx) 9 s .i64 .i64 k ((k : Int) + n) Try.underlying9 (by omega) (by omega) (by omega)
  rw [this]
  congr 2

set_option maxRecDepth 100000 in
theorem refreplace_any (s p r : ByteArray) (w : World) (hs : s.size ≤ 300) (hr : r.size ≤ 100) (hp : p.data.toList ≠ []) (hp2 : p.size ≤ 20) :
    Calls Try.prog 15 #[.string s, .string p, .string r] w (Some4 w (replV (repl p.data.toList r.data.toList s.data.toList))) := by
  have hpe2 : p.toList.isEmpty = false := by
    rw [Lib.toList_data]
    cases hh : p.data.toList with
    | nil => exact (hp hh).elim
    | cons a b => rfl
  have hpl : 0 < p.size := by
    have := List.length_pos_iff.2 hp
    rw [Array.length_toList] at this
    exact this
  go_enter Try.func15, Try.ntmps15
  go_wp2
  go_loopw [8, 9] (fun v i wr => ∃ (k : Nat) (acc : List UInt8), k ≤ s.size ∧ i = .int .i64 k ∧ OwnB wr w.heap.size 5 v acc ∧ acc.length ≤ 101 * k ∧ Below w.heap.size w wr ∧
      Hid (repl p.data.toList r.data.toList s.data.toList = acc ++ repl p.data.toList r.data.toList (s.data.toList.drop k)))
    (fun _ i _ => s.size - (intOf i).toNat)
  case atStart => exact ⟨0, [], Nat.zero_le _, rfl, OwnB.nil _ _ _, by decide, Below.refl _ _, rfl⟩
  case round =>
    obtain ⟨k, acc, hk, rfl, hown, hacc, hB, hR⟩ := hrel
    have hsz := hB.size
    obtain ⟨va, vc, hv⟩ := hown.shape
    subst hv
    have hlp : p.data.toList.length = p.size := by rw [Array.length_toList]; rfl
    have hlr : r.data.toList.length = r.size := by rw [Array.length_toList]; rfl
    by_cases hlt : k < s.size
    · have hR2 := hR.out
      rw [drop_cons s k hlt, repl_cons _ _ hp, ← drop_cons s k hlt] at hR2
      clear hR
      by_cases hroom : k + p.size ≤ s.size
      · have hpi := prefix_iff s p k hroom
        have hsl := slice_mid s k p.size hroom
        by_cases hb : ((s.extract k (k + p.size)).toList == p.toList) = true
        · rw [hpi, if_pos hb, List.drop_drop, ← List.append_assoc, hlp] at hR2
          have HR := Lib.hid hR2
          clear hR2 hpi hlp
          go_wp2_with (at_builtin; refine append_string _ rfl (.tmp 34) (.tmp 35) 39 9 rfl w.heap.size 5 Try.underlying39 Try.underlying9 Try.info5 _ acc rfl hown _ rfl ?c1 ?c2 ?_)
          case c1 => omega
          case c2 => omega
          intro v' w1 hown1 hg1
          have hB1 := below_grown hB hown hg1 (Nat.le_refl _) hsz
          have el : (acc ++ r.data.toList).length = acc.length + r.size := by rw [List.length_append, hlr]
          generalize acc ++ r.data.toList = acc1 at hown1 HR el
          have el1 : acc1.length ≤ 101 * (k + p.size) := by omega
          clear hown hg1 hB el hlr
          go_wp2
          go_roundw
          case rel => exact ⟨k + p.size, acc1, hroom, by go_num, hown1, el1, hB1, HR⟩
          case measure => simp [intOf]; omega
        · replace hb : ((s.extract k (k + p.size)).toList == p.toList) = false := by simpa using hb
          have hne : p.data.toList.isPrefixOf (s.data.toList.drop k) = false := by rw [hpi]; exact hb
          rw [hne, if_neg (by decide)] at hR2
          rw [show s[k] :: repl p.data.toList r.data.toList (s.data.toList.drop (k + 1)) = [s[k]] ++ repl p.data.toList r.data.toList (s.data.toList.drop (k + 1)) from rfl, ← List.append_assoc] at hR2
          have HR := Lib.hid hR2
          clear hR2 hne hpi hlp
          go_wp2_with (at_builtin; refine append_bytes _ rfl (.tmp 41) (.tmp 45) 39 rfl w.heap.size 5 Try.underlying39 Try.info5 _ acc rfl (hown.alloc _) ⟨wr.heap.size, 0, none⟩ 1 [s[k]] 1 rfl rfl ?d1 ?d2 ?d3 ?_)
          case d1 => first | rfl | (simp [byteV]; done) | (intro j hj; exact one_cell wr _ _ j _ s[k] rfl rfl hj)
          case d2 => first | omega | (simp; omega)
          case d3 => first | omega | (simp; omega)
          intro v' w1 hown1 hg1
          have hB1 := below_grown (hB.alloc hsz _) (hown.alloc _) hg1 (Nat.le_refl _) (by simp; omega)
          have el : (acc ++ [s[k]]).length = acc.length + 1 := by rw [List.length_append]; rfl
          generalize acc ++ [s[k]] = acc1 at hown1 HR el
          have el1 : acc1.length ≤ 101 * (k + 1) := by omega
          clear hown hg1 hB el hlr
          go_wp2
          go_roundw
          case rel => exact ⟨k + 1, acc1, by omega, by go_num, hown1, el1, hB1, HR⟩
          case measure => simp [intOf]; omega
      · replace hroom : s.size < k + p.size := by omega
        have hne : p.data.toList.isPrefixOf (s.data.toList.drop k) = false := by exact prefix_long s p k hpl hroom
        rw [hne, if_neg (by decide)] at hR2
        rw [show s[k] :: repl p.data.toList r.data.toList (s.data.toList.drop (k + 1)) = [s[k]] ++ repl p.data.toList r.data.toList (s.data.toList.drop (k + 1)) from rfl, ← List.append_assoc] at hR2
        have HR := Lib.hid hR2
        clear hR2 hne hlp
        go_wp2_with (at_builtin; refine append_bytes _ rfl (.tmp 41) (.tmp 45) 39 rfl w.heap.size 5 Try.underlying39 Try.info5 _ acc rfl (hown.alloc _) ⟨wr.heap.size, 0, none⟩ 1 [s[k]] 1 rfl rfl ?d4 ?d5 ?d6 ?_)
        case d4 => simp [byteV]
        case d5 => first | omega | (simp; omega)
        case d6 => first | omega | (simp; omega)
        intro v' w1 hown1 hg1
        have hB1 := below_grown (hB.alloc hsz _) (hown.alloc _) hg1 (Nat.le_refl _) (by simp; omega)
        have el : (acc ++ [s[k]]).length = acc.length + 1 := by rw [List.length_append]; rfl
        generalize acc ++ [s[k]] = acc1 at hown1 HR el
        have el1 : acc1.length ≤ 101 * (k + 1) := by omega
        clear hown hg1 hB el hlr
        go_wp2
        go_roundw
        case rel => exact ⟨k + 1, acc1, by omega, by go_num, hown1, el1, hB1, HR⟩
        case measure => simp [intOf]; omega
    · obtain rfl : k = s.size := by omega
      have hR2 := hR.out
      rw [List.drop_eq_nil_of_le (by rw [Array.length_toList]; exact Nat.le_refl _), repl_nil _ _ hp, List.append_nil] at hR2
      have hback := run_string (P := Try.prog) wr 39 9 5 Try.underlying39 Try.underlying5 Try.underlying9 _ _ _ hown
      by_cases hq : acc.length < 4096
      · have HF : Hid (replV (repl p.data.toList r.data.toList s.data.toList) = .tuple #[.string (bs acc), .int .i64 0]) := by
          rw [hR2]; exact replV_fine hq
        clear hR2 hR
        go_wp2
        go_ret2
        refine ⟨?_, hB⟩
        rw [HF.out]
        rfl
      · replace hq : 4096 ≤ acc.length := by omega
        have HF : Hid (replV (repl p.data.toList r.data.toList s.data.toList) = .tuple #[.string ⟨#[]⟩, .int .i64 14]) := by
          rw [hR2]; exact replV_big hq
        clear hR2 hR
        go_wp2
        go_ret2
        refine ⟨?_, hB⟩
        rw [HF.out]
        rfl
end Go.Proofs.Ytodlgnaoghladaa
