/- The callees that the other seat's statements share: letters, Index, Last, Cut, Join. -/
import Derived.Test.YtodlgnaoghladaaDoorLet
import Derived.Test.YtodlgnaoghladaaDoorOwn
import Derived.Test.YtodlgnaoghladaaDoorShelf
import Derived.Lib.IndexMore
import Derived.Lib.IndexBytes
import Derived.Lib.LastIndexLaws
namespace Go.Proofs.YtodlgnaoghladaaDoor
open Go.ChangeShapes Go.WideShapes Go.ChangeAt Go.RowKit

def bs (l : List UInt8) : ByteArray := ⟨l.toArray⟩
/-- what 'Replace' answers -/
def replV (l : List UInt8) : Value := if l.length < 4096 then .tuple #[.string (bs l), .int .i64 0] else .tuple #[.string (bs []), .int .i64 14]

theorem replV_big {l : List UInt8} (h : 4096 ≤ l.length) : replV l = .tuple #[.string ⟨#[]⟩, .int .i64 14] := by
  unfold replV; rw [if_neg (by omega)]; rfl
theorem replV_fine {l : List UInt8} (h : l.length < 4096) : replV l = .tuple #[.string (bs l), .int .i64 0] := by
  unfold replV; rw [if_pos h]

theorem Tryd.info5 : (Tryd.prog.info? 5).map (fun i => (i.zero, i.size, i.bytes)) = some (some (.int .u8 0), 1, 1) := by kernel_rfl

theorem extract_list (s : ByteArray) (a b : Nat) : (s.extract a b).data.toList = (s.data.toList.drop a).take (b - a) := by
  rw [Lib.extract_data]

def Some4 (W : World) (v : Value) (e : Ending) (w' : World) : Prop := e = .returned v ∧ Below W.heap.size W w'

theorem index_any (s p : ByteArray) (w : World) (hs : s.size < 4294967281) (hm : ∃ m, w.cell? ⟨0, 0, none⟩ = some (.int .i64 m)) :
    Calls Tryd.prog 14 #[.string s, .string p] w fun e w' => e = .returned (.int .i64 (Lib.index s.data.toList p.data.toList + 1)) ∧ w = w' := by
  obtain ⟨m, hm⟩ := hm
  have h1 := Lib.index_ge s.data.toList p.data.toList
  have hsl : s.size ≤ 4294967281 := by omega
  have h2 := Lib.index_le s.data.toList p.data.toList
  have h3 : s.data.toList.length = s.size := by rw [Array.length_toList]; rfl
  rw [h3] at h2
  clear h3
  go_enter Tryd.func14, Tryd.ntmps14
  go_wp2_with fail
  refine (Tryd.strings_Index s p m w hs hm).mono ?_
  generalize hk : Lib.index s.data.toList p.data.toList = k at h1 h2
  have HK := Lib.hid hk
  clear hk
  rintro e w' ⟨rfl, rfl⟩
  go_wp2
  go_ret
  rw [HK.out]
  exact ⟨rfl, rfl⟩


theorem index_absent (a : UInt8) : ∀ l : List UInt8, a ∉ l → Lib.index l [a] = -1
  | [], _ => rfl
  | b :: l, h => by
    have h1 : ¬ a = b := by intro e; exact h (by simp [e])
    have h2 : a ∉ l := by intro e; exact h (by simp [e])
    unfold Lib.index
    rw [index_absent a l h2]
    simp [List.isPrefixOf, h1]

theorem bs_data (l : List UInt8) : (bs l).data.toList = l := by simp [bs]
theorem bs_size (l : List UInt8) : (bs l).size = l.length := by show l.toArray.size = l.length; simp

def MaxHeld (W : World) : Prop := (∃ m, W.cell? ⟨0, 0, none⟩ = some (.int .i64 m)) ∧ 0 < W.heap.size
theorem MaxHeld.below {W W' : World} (h : MaxHeld W) (hb : Below W.heap.size W W') : MaxHeld W' := by
  obtain ⟨⟨m, hm⟩, h0⟩ := h
  exact ⟨⟨m, (hb.cell (p := ⟨0, 0, none⟩) h0).trans hm⟩, Nat.lt_of_lt_of_le h0 hb.size⟩

/-! ### plain -/
theorem occ_lt {s t : List UInt8} {i : Nat} (h : Lib.occAt s t i = true) (hi : i ≤ s.length) : i + t.length ≤ s.length := by
  have := (List.isPrefixOf_iff_prefix.1 h).length_le
  rw [List.length_drop] at this
  omega

theorem first_at (all t : List UInt8) (k : Nat) (hk : k ≤ all.length) (h : Lib.occAt all t k = true) :
    ∃ i : Nat, Lib.index all t = i ∧ i ≤ k ∧ i + t.length ≤ all.length ∧ Lib.occAt all t i = true ∧ ∀ j, j < i → Lib.occAt all t j = false := by
  rcases Lib.index_spec all t with ⟨_, hn⟩ | ⟨i, hi, hl, ho, hno⟩
  · have := hn k hk
    rw [h] at this
    cases this
  · refine ⟨i, hi, ?_, occ_lt ho hl, ho, hno⟩
    rcases Nat.lt_or_ge k i with h2 | h2
    · have := hno k h2
      rw [h] at this
      cases this
    · exact h2

theorem last_at (all t : List UInt8) (k : Nat) (hk : k ≤ all.length) (h : Lib.occAt all t k = true) :
    ∃ j : Nat, Lib.lastIndex all t = j ∧ k ≤ j ∧ j + t.length ≤ all.length ∧ Lib.occAt all t j = true := by
  have hroom := occ_lt h hk
  unfold Lib.lastIndex
  rw [if_pos (by omega)]
  rcases Lib.lastOcc_spec all t (all.length - t.length + 1) with ⟨_, hn⟩ | ⟨j, hj, he, ho, hn⟩
  · have := hn k (by omega)
    rw [h] at this
    cases this
  · refine ⟨j, he, ?_, by omega, ho⟩
    rcases Nat.lt_or_ge j k with h2 | h2
    · have := hn k h2 (by omega)
      rw [h] at this
      cases this
    · exact h2

theorem occ_extract (s t : ByteArray) (i : Nat) (h : Lib.occAt s.data.toList t.data.toList i = true) (hi : i + t.size ≤ s.size) : s.extract i (i + t.size) = t := by
  have h1 := Lib.occ_of_piece s t i hi
  rw [h] at h1
  have h2 : (s.extract i (i + t.size)).toList = t.toList := by simpa using h1.symm
  rw [Lib.toList_data, Lib.toList_data] at h2
  apply ByteArray.ext
  exact Array.ext' h2

/-! ### the calls -/
theorem last_any (s p : ByteArray) (w : World) (hs : s.size < 4294967281) :
    Calls Tryd.prog 16 #[.string s, .string p] w fun e w' => e = .returned (.int .i64 (Lib.lastIndex s.data.toList p.data.toList + 1)) ∧ w = w' := by
  have h1 : -1 ≤ Lib.lastIndex s.data.toList p.data.toList ∧ Lib.lastIndex s.data.toList p.data.toList ≤ 4294967281 := by
    unfold Lib.lastIndex
    have hl : s.data.toList.length = s.size := by rw [Array.length_toList]; rfl
    split
    · rcases Lib.lastOcc_spec s.data.toList p.data.toList (s.data.toList.length - p.data.toList.length + 1) with ⟨e, _⟩ | ⟨i, hi, e, _⟩
      · rw [e]; omega
      · rw [e]; omega
    · omega
  obtain ⟨h1, h2⟩ := h1
  go_enter Tryd.func16, Tryd.ntmps16
  go_wp2_with fail
  refine (Tryd.strings_LastIndex s p (by omega) w).mono ?_
  generalize hk : Lib.lastIndex s.data.toList p.data.toList = k at h1 h2
  have HK := Lib.hid hk
  clear hk
  rintro e w' ⟨rfl, rfl⟩
  go_wp2
  go_ret
  rw [HK.out]
  exact ⟨rfl, rfl⟩

theorem cut_any (s : ByteArray) (a b : Int) (w : World) (hs : s.size ≤ 4294967281) (h1 : 1 ≤ a) (h2 : a ≤ b) (h3 : b ≤ s.size) :
    Calls Tryd.prog 10 #[.string s, .int .i64 a, .int .i64 b] w fun e w' => e = .returned (.tuple #[.string (s.extract (a.toNat - 1) b.toNat), .int .i64 0]) ∧ w = w' := by
  have hsl := run_slice_string (P := Tryd.prog) (w := w) 9 s .i64 .i64 (a - 1) b Tryd.underlying9 (by omega) (by omega) (by omega)
  have h4 : b ≤ 4294967281 := by omega
  have h5 : a ≤ 4294967281 := by omega
  go_enter Tryd.func10, Tryd.ntmps10
  go_wp2
  go_ret2
  exact ⟨rfl, rfl⟩
theorem cut_empty (s : ByteArray) (a b : Int) (w : World) (h2 : b < a) :
    Calls Tryd.prog 10 #[.string s, .int .i64 a, .int .i64 b] w fun e w' => e = .returned (.tuple #[.string ⟨#[]⟩, .int .i64 0]) ∧ w = w' := by
  go_enter Tryd.func10, Tryd.ntmps10
  go_wp2
  go_ret2
  exact ⟨rfl, rfl⟩

def LawFine (W : World) (e : Ending) (w' : World) : Prop := e = .returned (.bool true) ∧ Below W.heap.size W w'

/-- the slice value (a, length of ss, cap) leads to the strings ss -/
structure StrsAt (w : World) (a : Option Addr) (ss : List ByteArray) : Prop where
  at_ : 0 < ss.length → ∃ b off, a = some ⟨b, off, none⟩ ∧ b < w.heap.size ∧ ∀ i (h : i < ss.length), w.cell? ⟨b, off + i, none⟩ = some (.string ss[i])
  len : ss.length ≤ maxLen
  each : ∀ s ∈ ss, s.size ≤ maxLen

theorem StrsAt.below {w w' : World} {a : Option Addr} {ss : List ByteArray} (h : StrsAt w a ss) {B : Nat} (hb : Below B w w') (hB : w.heap.size ≤ B) : StrsAt w' a ss := by
  refine ⟨fun h0 => ?_, h.len, h.each⟩
  obtain ⟨b, off, rfl, hlt, hc⟩ := h.at_ h0
  refine ⟨b, off, rfl, Nat.lt_of_lt_of_le hlt hb.size, fun i hi => ?_⟩
  rw [hb.cell (p := ⟨b, off + i, none⟩) (by show b < B; omega)]
  exact hc i hi

/-! ### Join -/
def joinK (sep : List UInt8) (ss : List ByteArray) : Nat → List UInt8
  | 0 => []
  | k + 1 => joinK sep ss k ++ (if k = 0 then [] else sep) ++ (ss.getD k ByteArray.empty).data.toList

theorem joinK_mono (sep : List UInt8) (ss : List ByteArray) : ∀ (k n : Nat), k ≤ n → (joinK sep ss k).length ≤ (joinK sep ss n).length := by
  intro k n h
  induction n with
  | zero =>
    have : k = 0 := by omega
    subst this
    exact Nat.le_refl _
  | succ n ih =>
    by_cases e : k = n + 1
    · subst e; exact Nat.le_refl _
    · have := ih (by omega)
      simp only [joinK, List.length_append]
      omega

set_option maxRecDepth 100000 in
theorem join_any (sep : ByteArray) (a : Option Addr) (cap : Nat) (ss : List ByteArray) (w : World) (hS : StrsAt w a ss) (h0 : sep.size ≤ 4096) (h1 : ss.length ≤ 4096) (h2 : ∀ s ∈ ss, s.size ≤ 4096) :
    Calls Tryd.prog 7 #[.string sep, .slice a ss.length cap] w (Some4 w (replV (joinK sep.data.toList ss ss.length))) := by
  have H2 := Lib.hid h2
  clear h2
  go_enter Tryd.func7, Tryd.ntmps7
  go_wp2
  go_loopw [6, 11] (fun v i wr => ∃ k : Nat, k ≤ ss.length ∧ i = .int .i64 k ∧ OwnB wr w.heap.size 5 v (joinK sep.data.toList ss k) ∧ (joinK sep.data.toList ss k).length < 4096 ∧ Below w.heap.size w wr)
    (fun _ i _ => ss.length - (intOf i).toNat)
  case atStart => exact ⟨0, Nat.zero_le _, rfl, OwnB.nil _ _ _, by simp [joinK], Below.refl _ _⟩
  case round =>
    obtain ⟨k, hk, rfl, hown, hacc, hB⟩ := hrel
    have hsz := hB.size
    have hS' := hS.below hB (Nat.le_refl _)
    by_cases hlt : k < ss.length
    · obtain ⟨b, off, rfl, hb, hc⟩ := hS'.at_ (by omega)
      have hck := hc k hlt
      have hsk := H2.out ss[k] (List.getElem_mem hlt)
      have hgd : ss.getD k ByteArray.empty = ss[k] := by simp [List.getD, hlt]
      have hJ : joinK sep.data.toList ss (k + 1) = joinK sep.data.toList ss k ++ (if k = 0 then [] else sep.data.toList) ++ ss[k].data.toList := by rw [joinK, hgd]
      have hJle := joinK_mono sep.data.toList ss (k + 1) ss.length (by omega)
      have hls : sep.data.toList.length = sep.size := by rw [Array.length_toList]; rfl
      have hlx : ss[k].data.toList.length = ss[k].size := by rw [Array.length_toList]; rfl
      generalize ss[k] = x at hck hsk hJ hlx
      clear hc hgd
      generalize joinK sep.data.toList ss k = acc at hown hacc hJ
      obtain ⟨va, vc, hv⟩ := hown.shape
      subst hv
      by_cases hk0 : k = 0
      · rw [if_pos hk0, List.append_nil] at hJ
        replace hk0 : (k : Int) ≤ 0 := by omega
        by_cases hq : acc.length + x.size < 4096
        · have HJ := Lib.hid hJ
          clear hJ hls
          go_wp2_with (at_builtin; refine append_string _ rfl (.tmp 33) (.tmp 34) 34 9 rfl w.heap.size 5 Tryd.underlying34 Tryd.underlying9 Tryd.info5 _ acc rfl hown _ rfl ?a1 ?a2 ?_)
          case a1 => omega
          case a2 => omega
          intro v' w9 hown9 hg9
          have hB9 := below_grown hB hown hg9 (Nat.le_refl _) (by first | exact hsz | exact hsz1)
          have el : (acc ++ x.data.toList).length = acc.length + x.size := by rw [List.length_append, hlx]
          generalize acc ++ x.data.toList = acc9 at hown9 HJ el
          have el1 : acc9.length < 4096 := by omega
          clear hown hg9 hB el hlx
          go_wp2
          go_roundw
          case rel => exact ⟨k + 1, by omega, by go_num, by rw [HJ.out]; exact hown9, by rw [HJ.out]; exact el1, hB9⟩
          case measure => simp [intOf]; omega
        · replace hq : 4096 ≤ acc.length + x.size := by omega
          have HF : Hid (replV (joinK sep.data.toList ss ss.length) = .tuple #[.string ⟨#[]⟩, .int .i64 14]) := replV_big (by
            rw [hJ] at hJle; simp only [List.length_append] at hJle; omega)
          clear hJ hls hJle
          go_wp2
          go_ret2
          refine ⟨?_, hB⟩
          rw [HF.out]
          rfl
      · rw [if_neg hk0] at hJ
        replace hk0 : 0 < k := by omega
        by_cases hqs : acc.length + sep.size < 4096
        · go_wp2_with (at_builtin; refine append_string _ rfl (.tmp 24) (.tmp 25) 34 9 rfl w.heap.size 5 Tryd.underlying34 Tryd.underlying9 Tryd.info5 _ acc rfl hown _ rfl ?b1 ?b2 ?_)
          case b1 => omega
          case b2 => omega
          intro v1 w1 hown1 hg1
          have hB1 := below_grown hB hown hg1 (Nat.le_refl _) hsz
          have el : (acc ++ sep.data.toList).length = acc.length + sep.size := by rw [List.length_append, hls]
          generalize acc ++ sep.data.toList = acc1 at hown1 hJ el
          have el0 : acc1.length < 4096 := by omega
          obtain ⟨va1, vc1, hv1⟩ := hown1.shape
          subst hv1
          clear hown hg1 hB el
          have hsz1 := hB1.size
          by_cases hq : acc1.length + x.size < 4096
          · have HJ := Lib.hid hJ
            clear hJ hls
            go_wp2_with (at_builtin; refine append_string _ rfl (.tmp 33) (.tmp 34) 34 9 rfl w.heap.size 5 Tryd.underlying34 Tryd.underlying9 Tryd.info5 _ acc1 rfl hown1 _ rfl ?b3 ?b4 ?_)
            case b3 => omega
            case b4 => omega
            intro v' w9 hown9 hg9
            have hB9 := below_grown hB1 hown1 hg9 (Nat.le_refl _) (by first | exact hsz | exact hsz1)
            have el : (acc1 ++ x.data.toList).length = acc1.length + x.size := by rw [List.length_append, hlx]
            generalize acc1 ++ x.data.toList = acc9 at hown9 HJ el
            have el1 : acc9.length < 4096 := by omega
            clear hown1 hg9 hB1 el hlx
            go_wp2
            go_roundw
            case rel => exact ⟨k + 1, by omega, by go_num, by rw [HJ.out]; exact hown9, by rw [HJ.out]; exact el1, hB9⟩
            case measure => simp [intOf]; omega
          · replace hq : 4096 ≤ acc1.length + x.size := by omega
            have HF : Hid (replV (joinK sep.data.toList ss ss.length) = .tuple #[.string ⟨#[]⟩, .int .i64 14]) := replV_big (by
              rw [hJ] at hJle; simp only [List.length_append] at hJle; omega)
            clear hJ hls hJle
            go_wp2
            go_ret2
            refine ⟨?_, hB1⟩
            rw [HF.out]
            rfl
        · replace hqs : 4096 ≤ acc.length + sep.size := by omega
          have HF : Hid (replV (joinK sep.data.toList ss ss.length) = .tuple #[.string ⟨#[]⟩, .int .i64 14]) := replV_big (by
            rw [hJ] at hJle; simp only [List.length_append] at hJle; omega)
          clear hJ hls hJle hlx
          go_wp2
          go_ret2
          refine ⟨?_, hB⟩
          rw [HF.out]
          rfl
    · obtain rfl : k = ss.length := by omega
      have hback := run_string (P := Tryd.prog) wr 34 9 5 Tryd.underlying34 Tryd.underlying5 Tryd.underlying9 _ _ _ hown
      obtain ⟨va, vc, hv⟩ := hown.shape
      subst hv
      generalize hjj : joinK sep.data.toList ss ss.length = acc at hown hacc hback
      have HF : Hid (replV (joinK sep.data.toList ss ss.length) = .tuple #[.string (bs acc), .int .i64 0]) := by rw [hjj]; exact replV_fine hacc
      clear hjj
      go_wp2
      go_ret2
      refine ⟨?_, hB⟩
      rw [HF.out]
      rfl
theorem drop_cons (s : ByteArray) (k : Nat) (h : k < s.size) : s.data.toList.drop k = s[k] :: s.data.toList.drop (k + 1) := by
  have hl : k < s.data.toList.length := by rw [Array.length_toList]; exact h
  rw [List.drop_eq_getElem_cons hl]
  rfl

theorem prefix_iff (s p : ByteArray) (k : Nat) (h : k + p.size ≤ s.size) : p.data.toList.isPrefixOf (s.data.toList.drop k) = ((s.extract k (k + p.size)).toList == p.toList) :=
  Lib.occ_of_piece s p k h

theorem slice_mid (s : ByteArray) (k n : Nat) (h : k + n ≤ s.size) (wx : World) :
    (Instr.slice 9 (.string s) (some (.int .i64 k)) (some (.int .i64 ((k : Int) + n))) none).run Tryd.prog wx = .ok (.string (s.extract k (k + n))) wx := by
  have := run_slice_string (P := Tryd.prog) (w := wx) 9 s .i64 .i64 k ((k : Int) + n) Tryd.underlying9 (by omega) (by omega) (by omega)
  rw [this]
  congr 2

end Go.Proofs.YtodlgnaoghladaaDoor
