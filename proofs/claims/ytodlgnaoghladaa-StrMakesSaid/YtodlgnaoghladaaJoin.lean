/- Texts, Join and the reference's Join over a slice of strings that came in. -/
import Derived.Test.YtodlgnaoghladaaRefRepl
import Derived.SliceStrings
namespace Go.Proofs.Ytodlgnaoghladaa
open Go.ChangeShapes Go.WideShapes Go.ChangeAt Go.RowKit

/-- the slice value (a, length of ss, cap) leads to the strings ss -/
structure StrsAt (w : World) (a : Option Addr) (ss : List ByteArray) : Prop where
  at_ : 0 < ss.length → ∃ b off, a = some ⟨b, off, none⟩ ∧ b < w.heap.size ∧ ∀ i (h : i < ss.length), w.cell? ⟨b, off + i, none⟩ = some (.string ss[i])
  len : ss.length ≤ maxLen
  each : ∀ s ∈ ss, s.size ≤ maxLen

theorem StrsAt.below {w w' : World} {a : Option Addr} {ss : List ByteArray} (h : StrsAt w a ss) {B : Nat} (hb : Below B w w') (hB : w.heap.size ≤ B) : StrsAt w' a ss := by
  refine ⟨fun h0 => ?_, h.len, h.each⟩
  obtain ⟨b, off, rfl, hlt, hc⟩ := h.at_ h0
  refine ⟨b, off, rfl, Nat.lt_of_lt_of_le hlt hb.size, fun i hi => ?_⟩
  rw [hb.cell (p := ⟨b, off + i, none⟩) (by show b < B; omega)]
  exact hc i hi

def allShort (long : Nat) (ss : List ByteArray) : Bool := ss.all fun s => decide (s.size ≤ long)

theorem texts_yes (a : Option Addr) (cap : Nat) (ss : List ByteArray) (w : World) (hS : StrsAt w a ss) (h1 : ss.length ≤ 40) (h2 : ∀ s ∈ ss, s.size ≤ 200) :
    Calls Try.prog 14 #[.slice a ss.length cap, .int .i64 40, .int .i64 200] w fun e w' => e = .returned (.bool true) ∧ w = w' := by
  go_enter Try.func14, Try.ntmps14
  go_wp2
  go_loop [7] (fun i => ∃ k : Nat, k ≤ ss.length ∧ i = .int .i64 k) (fun i => ss.length - (intOf i).toNat)
  case atStart => exact ⟨0, Nat.zero_le _, rfl⟩
  case round =>
    obtain ⟨k, hk, rfl⟩ := hrel
    by_cases hlt : k < ss.length
    · obtain ⟨b, off, rfl, hb, hc⟩ := hS.at_ (by omega)
      have hck := hc k hlt
      have hsk := h2 ss[k] (List.getElem_mem hlt)
      generalize ss[k] = x at hck hsk
      clear hc h2
      go_wp2
      go_round
      case rel => exact ⟨k + 1, by omega, by go_num⟩
      case measure => simp [intOf]; omega
    · clear h2
      go_wp2
      go_ret
      exact ⟨rfl, rfl⟩

def SomeFalse (w : World) (e : Ending) (w' : World) : Prop := e = .returned (.bool false) ∧ w = w'

theorem texts_no (a : Option Addr) (cap : Nat) (ss : List ByteArray) (w : World) (hS : StrsAt w a ss) (h : ¬ (ss.length ≤ 40 ∧ ∀ s ∈ ss, s.size ≤ 200)) :
    Calls Try.prog 14 #[.slice a ss.length cap, .int .i64 40, .int .i64 200] w (SomeFalse w) := by
  have hl := hS.len
  unfold maxLen at hl
  by_cases h1 : 40 < ss.length
  · clear h
    go_enter Try.func14, Try.ntmps14
    go_wp2
    go_ret
    exact ⟨rfl, rfl⟩
  · replace h1 : ss.length ≤ 40 := by omega
    have H2 : Hid (¬ ∀ s ∈ ss, s.size ≤ 200) := fun h2 => h ⟨h1, h2⟩
    clear h
    go_enter Try.func14, Try.ntmps14
    go_wp2
    go_loop [7] (fun i => ∃ k : Nat, k ≤ ss.length ∧ i = .int .i64 k ∧ Hid (∀ j (hj : j < k) (hj2 : j < ss.length), ss[j].size ≤ 200)) (fun i => ss.length - (intOf i).toNat)
    case atStart => exact ⟨0, Nat.zero_le _, rfl, fun j hj => absurd hj (Nat.not_lt_zero _)⟩
    case round =>
      obtain ⟨k, hk, rfl, hall⟩ := hrel
      by_cases hlt : k < ss.length
      · obtain ⟨b, off, rfl, hb, hc⟩ := hS.at_ (by omega)
        have hck := hc k hlt
        have hsk := hS.each ss[k] (List.getElem_mem hlt)
        unfold maxLen at hsk
        by_cases hbig : 200 < ss[k].size
        · generalize ss[k] = x at hck hsk hbig
          clear hc
          go_wp2
          go_ret
          exact ⟨rfl, rfl⟩
        · have hall2 : Hid (∀ j (hj : j < k + 1) (hj2 : j < ss.length), ss[j].size ≤ 200) := by
            intro j hj hj2
            by_cases e : j = k
            · subst e; omega
            · exact hall.out j (by omega) hj2
          replace hbig : ss[k].size ≤ 200 := by omega
          generalize ss[k] = x at hck hsk hbig
          clear hc hall
          go_wp2
          go_round
          case rel => exact ⟨k + 1, by omega, by go_num, hall2⟩
          case measure => simp [intOf]; omega
      · exfalso
        apply H2.out
        intro s hs
        obtain ⟨j, hj, rfl⟩ := List.getElem_of_mem hs
        exact hall.out j (by omega) hj

/-! ### Join -/
def joinK (sep : List UInt8) (ss : List ByteArray) : Nat → List UInt8
  | 0 => []
  | k + 1 => joinK sep ss k ++ (if k = 0 then [] else sep) ++ (ss.getD k ByteArray.empty).data.toList

theorem joinK_mono (sep : List UInt8) (ss : List ByteArray) : ∀ (k n : Nat), k ≤ n → (joinK sep ss k).length ≤ (joinK sep ss n).length := by
  intro k n h
  induction n with
  | zero =>
    have : k = 0 := by omega
    subst this
    exact Nat.le_refl _
  | succ n ih =>
    by_cases e : k = n + 1
    · subst e; exact Nat.le_refl _
    · have := ih (by omega)
      simp only [joinK, List.length_append]
      omega

set_option maxRecDepth 100000 in
theorem join_any (sep : ByteArray) (a : Option Addr) (cap : Nat) (ss : List ByteArray) (w : World) (hS : StrsAt w a ss) (h0 : sep.size ≤ 50) (h1 : ss.length ≤ 40) (h2 : ∀ s ∈ ss, s.size ≤ 200) :
    Calls Try.prog 16 #[.string sep, .slice a ss.length cap] w (Some4 w (replV (joinK sep.data.toList ss ss.length))) := by
  have H2 := Lib.hid h2
  clear h2
  go_enter Try.func16, Try.ntmps16
  go_wp2
  go_loopw [6, 11] (fun v i wr => ∃ k : Nat, k ≤ ss.length ∧ i = .int .i64 k ∧ OwnB wr w.heap.size 5 v (joinK sep.data.toList ss k) ∧ (joinK sep.data.toList ss k).length < 4096 ∧ Below w.heap.size w wr)
    (fun _ i _ => ss.length - (intOf i).toNat)
  case atStart => exact ⟨0, Nat.zero_le _, rfl, OwnB.nil _ _ _, by simp [joinK], Below.refl _ _⟩
  case round =>
    obtain ⟨k, hk, rfl, hown, hacc, hB⟩ := hrel
    have hsz := hB.size
    have hS' := hS.below hB (Nat.le_refl _)
    by_cases hlt : k < ss.length
    · obtain ⟨b, off, rfl, hb, hc⟩ := hS'.at_ (by omega)
      have hck := hc k hlt
      have hsk := H2.out ss[k] (List.getElem_mem hlt)
      have hgd : ss.getD k ByteArray.empty = ss[k] := by simp [List.getD, hlt]
      have hJ : joinK sep.data.toList ss (k + 1) = joinK sep.data.toList ss k ++ (if k = 0 then [] else sep.data.toList) ++ ss[k].data.toList := by rw [joinK, hgd]
      have hJle := joinK_mono sep.data.toList ss (k + 1) ss.length (by omega)
      have hls : sep.data.toList.length = sep.size := by rw [Array.length_toList]; rfl
      have hlx : ss[k].data.toList.length = ss[k].size := by rw [Array.length_toList]; rfl
      generalize ss[k] = x at hck hsk hJ hlx
      clear hc hgd
      generalize joinK sep.data.toList ss k = acc at hown hacc hJ
      obtain ⟨va, vc, hv⟩ := hown.shape
      subst hv
      by_cases hk0 : k = 0
      · rw [if_pos hk0, List.append_nil] at hJ
        replace hk0 : (k : Int) ≤ 0 := by omega
        by_cases hq : acc.length + x.size < 4096
        · have HJ := Lib.hid hJ
          clear hJ hls
          go_wp2_with (at_builtin; refine append_string _ rfl (.tmp 33) (.tmp 34) 39 9 rfl w.heap.size 5 Try.underlying39 Try.underlying9 Try.info5 _ acc rfl hown _ rfl ?a1 ?a2 ?_)
          case a1 => omega
          case a2 => omega
          intro v' w9 hown9 hg9
          have hB9 := below_grown hB hown hg9 (Nat.le_refl _) (by first | exact hsz | exact hsz1)
          have el : (acc ++ x.data.toList).length = acc.length + x.size := by rw [List.length_append, hlx]
          generalize acc ++ x.data.toList = acc9 at hown9 HJ el
          have el1 : acc9.length < 4096 := by omega
          clear hown hg9 hB el hlx
          go_wp2
          go_roundw
          case rel => exact ⟨k + 1, by omega, by go_num, by rw [HJ.out]; exact hown9, by rw [HJ.out]; exact el1, hB9⟩
          case measure => simp [intOf]; omega
        · replace hq : 4096 ≤ acc.length + x.size := by omega
          have HF : Hid (replV (joinK sep.data.toList ss ss.length) = .tuple #[.string ⟨#[]⟩, .int .i64 14]) := replV_big (by
            rw [hJ] at hJle; simp only [List.length_append] at hJle; omega)
          clear hJ hls hJle
          go_wp2
          go_ret2
          refine ⟨?_, hB⟩
          rw [HF.out]
          rfl
      · rw [if_neg hk0] at hJ
        replace hk0 : 0 < k := by omega
        by_cases hqs : acc.length + sep.size < 4096
        · go_wp2_with (at_builtin; refine append_string _ rfl (.tmp 24) (.tmp 25) 39 9 rfl w.heap.size 5 Try.underlying39 Try.underlying9 Try.info5 _ acc rfl hown _ rfl ?b1 ?b2 ?_)
          case b1 => omega
          case b2 => omega
          intro v1 w1 hown1 hg1
          have hB1 := below_grown hB hown hg1 (Nat.le_refl _) hsz
          have el : (acc ++ sep.data.toList).length = acc.length + sep.size := by rw [List.length_append, hls]
          generalize acc ++ sep.data.toList = acc1 at hown1 hJ el
          have el0 : acc1.length < 4096 := by omega
          obtain ⟨va1, vc1, hv1⟩ := hown1.shape
          subst hv1
          clear hown hg1 hB el
          have hsz1 := hB1.size
          by_cases hq : acc1.length + x.size < 4096
          · have HJ := Lib.hid hJ
            clear hJ hls
            go_wp2_with (at_builtin; refine append_string _ rfl (.tmp 33) (.tmp 34) 39 9 rfl w.heap.size 5 Try.underlying39 Try.underlying9 Try.info5 _ acc1 rfl hown1 _ rfl ?b3 ?b4 ?_)
            case b3 => omega
            case b4 => omega
            intro v' w9 hown9 hg9
            have hB9 := below_grown hB1 hown1 hg9 (Nat.le_refl _) (by first | exact hsz | exact hsz1)
            have el : (acc1 ++ x.data.toList).length = acc1.length + x.size := by rw [List.length_append, hlx]
            generalize acc1 ++ x.data.toList = acc9 at hown9 HJ el
            have el1 : acc9.length < 4096 := by omega
            clear hown1 hg9 hB1 el hlx
            go_wp2
            go_roundw
            case rel => exact ⟨k + 1, by omega, by go_num, by rw [HJ.out]; exact hown9, by rw [HJ.out]; exact el1, hB9⟩
            case measure => simp [intOf]; omega
          · replace hq : 4096 ≤ acc1.length + x.size := by omega
            have HF : Hid (replV (joinK sep.data.toList ss ss.length) = .tuple #[.string ⟨#[]⟩, .int .i64 14]) := replV_big (by
              rw [hJ] at hJle; simp only [List.length_append] at hJle; omega)
            clear hJ hls hJle
            go_wp2
            go_ret2
            refine ⟨?_, hB1⟩
            rw [HF.out]
            rfl
        · replace hqs : 4096 ≤ acc.length + sep.size := by omega
          have HF : Hid (replV (joinK sep.data.toList ss ss.length) = .tuple #[.string ⟨#[]⟩, .int .i64 14]) := replV_big (by
            rw [hJ] at hJle; simp only [List.length_append] at hJle; omega)
          clear hJ hls hJle hlx
          go_wp2
          go_ret2
          refine ⟨?_, hB⟩
          rw [HF.out]
          rfl
    · obtain rfl : k = ss.length := by omega
      have hback := run_string (P := Try.prog) wr 39 9 5 Try.underlying39 Try.underlying5 Try.underlying9 _ _ _ hown
      obtain ⟨va, vc, hv⟩ := hown.shape
      subst hv
      generalize hjj : joinK sep.data.toList ss ss.length = acc at hown hacc hback
      have HF : Hid (replV (joinK sep.data.toList ss ss.length) = .tuple #[.string (bs acc), .int .i64 0]) := by rw [hjj]; exact replV_fine hacc
      clear hjj
      go_wp2
      go_ret2
      refine ⟨?_, hB⟩
      rw [HF.out]
      rfl
set_option maxRecDepth 100000 in
theorem refjoin_any (sep : ByteArray) (a : Option Addr) (cap : Nat) (ss : List ByteArray) (w : World) (hS : StrsAt w a ss) (h0 : sep.size ≤ 50) (h1 : ss.length ≤ 40) (h2 : ∀ s ∈ ss, s.size ≤ 200) :
    Calls Try.prog 17 #[.string sep, .slice a ss.length cap] w (Some4 w (replV (joinK sep.data.toList ss ss.length))) := by
  have H2 := Lib.hid h2
  clear h2
  go_enter Try.func17, Try.ntmps17
  go_wp2
  go_loopw [6, 7] (fun v i wr => ∃ k : Nat, k ≤ ss.length ∧ i = .int .i64 k ∧ OwnB wr w.heap.size 5 v (joinK sep.data.toList ss k) ∧ (joinK sep.data.toList ss k).length < 4096 ∧ Below w.heap.size w wr)
    (fun _ i _ => ss.length - (intOf i).toNat)
  case atStart => exact ⟨0, Nat.zero_le _, rfl, OwnB.nil _ _ _, by simp [joinK], Below.refl _ _⟩
  case round =>
    obtain ⟨k, hk, rfl, hown, hacc, hB⟩ := hrel
    have hsz := hB.size
    have hS' := hS.below hB (Nat.le_refl _)
    by_cases hlt : k < ss.length
    · obtain ⟨b, off, rfl, hb, hc⟩ := hS'.at_ (by omega)
      have hck := hc k hlt
      have hsk := H2.out ss[k] (List.getElem_mem hlt)
      have hgd : ss.getD k ByteArray.empty = ss[k] := by simp [List.getD, hlt]
      have hJ : joinK sep.data.toList ss (k + 1) = joinK sep.data.toList ss k ++ (if k = 0 then [] else sep.data.toList) ++ ss[k].data.toList := by rw [joinK, hgd]
      have hJle := joinK_mono sep.data.toList ss (k + 1) ss.length (by omega)
      have hls : sep.data.toList.length = sep.size := by rw [Array.length_toList]; rfl
      have hlx : ss[k].data.toList.length = ss[k].size := by rw [Array.length_toList]; rfl
      generalize ss[k] = x at hck hsk hJ hlx
      generalize joinK sep.data.toList ss k = acc at hown hacc hJ
      obtain ⟨va, vc, hv⟩ := hown.shape
      subst hv
      by_cases hk0 : k = 0
      · rw [if_pos hk0, List.append_nil] at hJ
        replace hk0 : (k : Int) ≤ 0 := by omega
        clear hc hgd
        go_wp2_with (at_builtin; refine append_string _ rfl (.tmp 19) (.tmp 23) 39 9 rfl w.heap.size 5 Try.underlying39 Try.underlying9 Try.info5 _ acc rfl hown _ rfl ?a1 ?a2 ?_)
        case a1 => omega
        case a2 => omega
        intro v' w9 hown9 hg9
        have hB9 := below_grown hB hown hg9 (Nat.le_refl _) (by first | exact hsz | exact hsz1)
        have el : (acc ++ x.data.toList).length = acc.length + x.size := by rw [List.length_append, hlx]
        have hJ2 := hJ
        generalize acc ++ x.data.toList = acc9 at hown9 hJ2 el
        obtain ⟨va9, vc9, hv9⟩ := hown9.shape
        subst hv9
        by_cases hq : acc9.length < 4096
        · have HJ := Lib.hid hJ2
          clear hJ2 hown hg9 hB el hlx hJ hls
          go_wp2
          go_roundw
          case rel => exact ⟨k + 1, by omega, by go_num, by rw [HJ.out]; exact hown9, by rw [HJ.out]; exact hq, hB9⟩
          case measure => simp [intOf]; omega
        · replace hq : 4096 ≤ acc9.length := by omega
          have HF : Hid (replV (joinK sep.data.toList ss ss.length) = .tuple #[.string ⟨#[]⟩, .int .i64 14]) := replV_big (by
            rw [hJ2] at hJle; omega)
          clear hJ2 hown hg9 hB el hlx hJ hls hJle
          go_wp2
          go_ret2
          refine ⟨?_, hB9⟩
          rw [HF.out]
          rfl
      · rw [if_neg hk0] at hJ
        replace hk0 : 0 < k := by omega
        go_wp2_with (at_builtin; refine append_string _ rfl (.tmp 16) (.tmp 17) 39 9 rfl w.heap.size 5 Try.underlying39 Try.underlying9 Try.info5 _ acc rfl hown _ rfl ?b1 ?b2 ?_)
        case b1 => omega
        case b2 => omega
        intro v1 w1 hown1 hg1
        have hB1 := below_grown hB hown hg1 (Nat.le_refl _) hsz
        have hck1 : w1.cell? ⟨b, off + k, none⟩ = some (.string x) := (hg1.cell hck (by
          intro e
          obtain ⟨h5, _⟩ := hown.lt b e.symm
          have hB2 : b < w.heap.size := by
            obtain ⟨b', off', e', hb', _⟩ := hS.at_ (by omega)
            injection e' with e'
            injection e' with e1
            omega
          omega))
        have el : (acc ++ sep.data.toList).length = acc.length + sep.size := by rw [List.length_append, hls]
        generalize acc ++ sep.data.toList = acc1 at hown1 hJ el
        obtain ⟨va1, vc1, hv1⟩ := hown1.shape
        subst hv1
        have el2 : acc1.length ≤ acc.length + 50 := by omega
        clear hown hg1 hB el hck hc hgd
        have hsz1 := hB1.size
        go_wp2_with (at_builtin; refine append_string _ rfl (.tmp 19) (.tmp 23) 39 9 rfl w.heap.size 5 Try.underlying39 Try.underlying9 Try.info5 _ acc1 rfl hown1 _ rfl ?b3 ?b4 ?_)
        case b3 => omega
        case b4 => omega
        intro v' w9 hown9 hg9
        have hB9 := below_grown hB1 hown1 hg9 (Nat.le_refl _) (by first | exact hsz | exact hsz1)
        have el : (acc1 ++ x.data.toList).length = acc1.length + x.size := by rw [List.length_append, hlx]
        have hJ2 := hJ
        generalize acc1 ++ x.data.toList = acc9 at hown9 hJ2 el
        obtain ⟨va9, vc9, hv9⟩ := hown9.shape
        subst hv9
        by_cases hq : acc9.length < 4096
        · have HJ := Lib.hid hJ2
          clear hJ2 hown1 hg9 hB1 el hlx hJ hls
          go_wp2
          go_roundw
          case rel => exact ⟨k + 1, by omega, by go_num, by rw [HJ.out]; exact hown9, by rw [HJ.out]; exact hq, hB9⟩
          case measure => simp [intOf]; omega
        · replace hq : 4096 ≤ acc9.length := by omega
          have HF : Hid (replV (joinK sep.data.toList ss ss.length) = .tuple #[.string ⟨#[]⟩, .int .i64 14]) := replV_big (by
            rw [hJ2] at hJle; omega)
          clear hJ2 hown1 hg9 hB1 el hlx hJ hls hJle
          go_wp2
          go_ret2
          refine ⟨?_, hB9⟩
          rw [HF.out]
          rfl
    · obtain rfl : k = ss.length := by omega
      have hback := run_string (P := Try.prog) wr 39 9 5 Try.underlying39 Try.underlying5 Try.underlying9 _ _ _ hown
      obtain ⟨va, vc, hv⟩ := hown.shape
      subst hv
      generalize hjj : joinK sep.data.toList ss ss.length = acc at hown hacc hback
      have HF : Hid (replV (joinK sep.data.toList ss ss.length) = .tuple #[.string (bs acc), .int .i64 0]) := by rw [hjj]; exact replV_fine hacc
      clear hjj
      go_wp2
      go_ret2
      refine ⟨?_, hB⟩
      rw [HF.out]
      rfl
end Go.Proofs.Ytodlgnaoghladaa
