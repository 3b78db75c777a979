/- The function 'letters': bytes of a string turned one by one. -/
import Derived.Test.YtodlgnaoghladaaDoorRows
import Derived.WalkKit
import Derived.ProofKit
import Derived.OpenShut
import Derived.Lib.ConvBytes
import Derived.Lib.SlBytesRow
import Derived.Deep.DeepFit
import Derived.Lib.Hide
import Derived.Outline
import Derived.Laws.IdiomStrings
namespace Go.Proofs.YtodlgnaoghladaaDoor
open Go.ChangeShapes Go.WideShapes Go.ChangeAt Go.RowKit

/-- one byte turned -/
def turnByte (f t : Int) (by_ : Int) (c : UInt8) : UInt8 :=
  if f ≤ (c.toNat : Int) ∧ (c.toNat : Int) ≤ t then UInt8.ofNat (((c.toNat : Int) + by_) % 256).toNat else c

theorem turnByte_yes {f t b : Int} {c : UInt8} (h1 : f ≤ (c.toNat : Int)) (h2 : (c.toNat : Int) ≤ t) : ((turnByte f t b c).toNat : Int) = ((c.toNat : Int) + b) % 256 := by
  unfold turnByte
  rw [if_pos ⟨h1, h2⟩]
  have : (((c.toNat : Int) + b) % 256).toNat < 256 := by omega
  rw [UInt8.toNat_ofNat_of_lt' (by simpa using this)]
  omega
theorem turnByte_no {f t b : Int} {c : UInt8} (h : ¬ (f ≤ (c.toNat : Int) ∧ (c.toNat : Int) ≤ t)) : turnByte f t b c = c := by
  unfold turnByte
  rw [if_neg h]

/-- The block b holds the bytes l, open to be written. -/
structure Holds (w : World) (b : Nat) (l : List UInt8) : Prop where
  cell : ∀ j, j < l.length → w.cell? ⟨b, j, none⟩ = some (.int .u8 ((l.getD j 0).toNat : Int))
  free : ∀ j, j < l.length → w.frozen? ⟨b, j, none⟩ = false

theorem Holds.set {w : World} {b : Nat} {l : List UInt8} (h : Holds w b l) {k : Nat} (hk : k < l.length) (c : UInt8) {z : Int} (hz : z = (c.toNat : Int)) :
    Holds (w.setCell ⟨b, k, none⟩ (.int .u8 z)) b (l.set k c) := by
  subst hz
  constructor
  · intro j hj
    simp only [List.length_set] at hj
    by_cases e : j = k
    · subst e
      rw [World.cell?_setCell_same _ _ _ (h.cell j hj)]
      simp [List.getD, hj]
    · rw [World.cell?_setCell_other _ _ _ _ (by intro e2; injection e2; omega), h.cell j hj]
      simp [List.getD, Ne.symm e]
  · intro j hj
    simp only [List.length_set] at hj
    rw [World.frozen?_setCell]
    exact h.free j hj

theorem Holds.start (w : World) (e : TypeId) (s : ByteArray) : Holds (Lib.bytesWorld w e s) w.heap.size s.data.toList := by
  have hsz : s.size = s.data.size := rfl
  constructor
  · intro j hj
    rw [Lib.bytesWorld_cell w e s j (by rw [hsz]; simpa using hj)]
  · intro j hj
    have hj' : j < s.data.size := by simpa using hj
    simp only [World.frozen?, Lib.bytesWorld_at_new]
    have : ¬ (Lib.bytesCells w e s).size ≤ j := by
      simp [Lib.bytesCells]; omega
    simp [this]

theorem below_bytesWorld (w : World) (e : TypeId) (s : ByteArray) : Below w.heap.size w (Lib.bytesWorld w e s) := by
  refine ⟨rfl, rfl, rfl, by rw [Lib.bytesWorld_size]; omega, fun k hk => Lib.bytesWorld_at_old w e s k hk⟩

theorem step_list (l : List UInt8) (g : UInt8 → UInt8) (k : Nat) (hk : k < l.length) :
    (l.take (k + 1)).map g ++ l.drop (k + 1) = ((l.take k).map g ++ l.drop k).set k (g l[k]) := by
  rw [List.set_append_right _ _ (by simp; omega)]
  rw [List.take_succ_eq_append_getElem hk]
  have e : k - (List.map g (List.take k l)).length = 0 := by simp; omega
  rw [e, List.drop_eq_getElem_cons hk, List.map_append, List.append_assoc]
  rfl

theorem step_same (l : List UInt8) (g : UInt8 → UInt8) (k : Nat) (hk : k < l.length) (h : g l[k] = l[k]) :
    (l.take (k + 1)).map g ++ l.drop (k + 1) = (l.take k).map g ++ l.drop k := by
  rw [List.take_succ_eq_append_getElem hk, List.drop_eq_getElem_cons hk]
  rw [List.map_append, List.append_assoc]
  show _ ++ (g l[k] :: _) = _
  rw [h]
  rfl

theorem back_run {P : Program} (src dst e : TypeId) (hs : P.underlying src = some (.slice e)) (he : P.underlying e = some (.int .u8)) (hd : P.underlying dst = some .string)
    (w : World) (b n cap : Nat) (l : List UInt8) (hn : n = l.length) (h : Holds w b l) :
    (convert src dst (.slice (some ⟨b, 0, none⟩) n cap)).run P w = .ok (.string ⟨l.toArray⟩) w := by
  subst hn
  refine run_convert_bytes_back w src dst e ⟨b, 0, none⟩ cap l hs he hd ?_
  intro j hj
  have := h.cell j hj
  have e : (Addr.mk b 0 none).add j = ⟨b, j, none⟩ := by
    unfold Addr.add
    split
    · simp [*]
    · simp
  rw [e, this]
  simp [List.getD, hj]

set_option maxHeartbeats 400000 in
theorem letters_any (s : ByteArray) (f t b : Int) (w : World) (hs : s.size ≤ maxLen) (hb : -100 ≤ b) (hb2 : b ≤ 100) :
    Calls Tryd.prog 24 #[.string s, .int .u8 f, .int .u8 t, .int .i64 b] w fun e w' => e = .returned (.string ⟨(s.data.toList.map (turnByte f t b)).toArray⟩) ∧ Below w.heap.size w w' := by
  unfold maxLen at hs
  have hconv := Lib.run_convert_string_bytes (P := Tryd.prog) w 9 34 5 s Tryd.underlying9 Tryd.underlying34 Tryd.underlying5
  go_enter Tryd.func24, Tryd.ntmps24
  go_wp2
  go_loopw [16] (fun i wr => ∃ k : Nat, k ≤ s.size ∧ i = .int .i64 k ∧ Below w.heap.size w wr ∧ Holds wr w.heap.size ((s.data.toList.take k).map (turnByte f t b) ++ s.data.toList.drop k))
    (fun i _ => s.size - (intOf i).toNat)
  case atStart =>
    refine ⟨0, Nat.zero_le _, rfl, below_bytesWorld _ _ _, ?_⟩
    simpa using Holds.start w 5 s
  case round =>
    obtain ⟨k, hk, rfl, hB, hH⟩ := hrel
    clear hconv
    by_cases hlt : k < s.size
    · have hlt' : k < s.data.toList.length := by simpa using hlt
      have hc := hH.cell k (by simp; omega)
      have hf := hH.free k (by simp; omega)
      have hget : ((s.data.toList.take k).map (turnByte f t b) ++ s.data.toList.drop k).getD k 0 = s.data.toList[k] := by
        rw [List.drop_eq_getElem_cons hlt']
        simp [List.getD, List.getElem?_append, Nat.min_eq_left (Nat.le_of_lt (by simpa using hlt'))]
      rw [hget] at hc
      have hb0 : (s.data.toList[k]).toNat < 256 := (s.data.toList[k]).toNat_lt
      generalize hcc : s.data.toList[k] = c at hc hb0
      have HC := Lib.hid hcc
      clear hget hcc
      go_wp2
      all_goals
        go_roundw
        case measure => simp [intOf]; omega
      · refine ⟨k + 1, by omega, by go_num, hB.setCell (Nat.le_refl _) _, ?_⟩
        rw [step_list _ _ k hlt', HC.out]
        refine hH.set (by simp; omega) _ ?_
        rw [turnByte_yes (by assumption) (by assumption)]
      · refine ⟨k + 1, by omega, by go_num, hB, ?_⟩
        rw [step_same _ _ k hlt' (by rw [HC.out]; exact turnByte_no (by omega))]
        exact hH
      · refine ⟨k + 1, by omega, by go_num, hB, ?_⟩
        rw [step_same _ _ k hlt' (by rw [HC.out]; exact turnByte_no (by omega))]
        exact hH
    · obtain rfl : k = s.size := by omega
      have e1 : s.data.toList.length ≤ s.size := by simp
      rw [List.take_of_length_le e1, List.drop_eq_nil_of_le e1, List.append_nil] at hH
      have hback := back_run (P := Tryd.prog) 34 9 5 Tryd.underlying34 Tryd.underlying5 Tryd.underlying9 wr w.heap.size s.size (grownCap w s.size 0 5) _ (by simp) hH
      clear e1
      go_wp2
      go_ret
      exact ⟨rfl, hB⟩
set_option maxHeartbeats 400000 in
theorem turn_any (s : ByteArray) (f t : Int) (w : World) (hs : s.size ≤ maxLen) (hf0 : 0 ≤ f) (hf1 : f ≤ 200) (ht0 : 0 ≤ t) (ht1 : t ≤ 255) :
    Calls Tryd.prog 28 #[.string s, .int .u8 f, .int .u8 t] w fun e w' => e = .returned (.string ⟨(s.data.toList.map (turnByte f (f + 25) (t - f))).toArray⟩) ∧ Below w.heap.size w w' := by
  unfold maxLen at hs
  have hconv := Lib.run_convert_string_bytes (P := Tryd.prog) w 9 34 5 s Tryd.underlying9 Tryd.underlying34 Tryd.underlying5
  go_enter Tryd.func28, Tryd.ntmps28
  go_wp2
  go_loopw [8] (fun i wr => ∃ k : Nat, k ≤ s.size ∧ i = .int .i64 k ∧ Below w.heap.size w wr ∧ Holds wr w.heap.size ((s.data.toList.take k).map (turnByte f (f + 25) (t - f)) ++ s.data.toList.drop k))
    (fun i _ => s.size - (intOf i).toNat)
  case atStart =>
    refine ⟨0, Nat.zero_le _, rfl, below_bytesWorld _ _ _, ?_⟩
    simpa using Holds.start w 5 s
  case round =>
    obtain ⟨k, hk, rfl, hB, hH⟩ := hrel
    clear hconv
    by_cases hlt : k < s.size
    · have hlt' : k < s.data.toList.length := by simpa using hlt
      have hc := hH.cell k (by simp; omega)
      have hf := hH.free k (by simp; omega)
      have hget : ((s.data.toList.take k).map (turnByte f (f + 25) (t - f)) ++ s.data.toList.drop k).getD k 0 = s.data.toList[k] := by
        rw [List.drop_eq_getElem_cons hlt']
        simp [List.getD, Nat.min_eq_left (Nat.le_of_lt (by simpa using hlt'))]
      rw [hget] at hc
      have hb0 : (s.data.toList[k]).toNat < 256 := (s.data.toList[k]).toNat_lt
      generalize hcc : s.data.toList[k] = c at hc hb0
      have HC := Lib.hid hcc
      clear hget hcc
      go_wp2
      all_goals
        go_roundw
        case measure => simp [intOf]; omega
      · refine ⟨k + 1, by omega, by go_num, hB.setCell (Nat.le_refl _) _, ?_⟩
        rw [step_list _ _ k hlt', HC.out]
        refine hH.set (by simp; omega) _ ?_
        rw [turnByte_yes (by assumption) (by assumption)]
        congr 1
        omega
      · refine ⟨k + 1, by omega, by go_num, hB, ?_⟩
        rw [step_same _ _ k hlt' (by rw [HC.out]; exact turnByte_no (by omega))]
        exact hH
      · refine ⟨k + 1, by omega, by go_num, hB, ?_⟩
        rw [step_same _ _ k hlt' (by rw [HC.out]; exact turnByte_no (by omega))]
        exact hH
    · obtain rfl : k = s.size := by omega
      have e1 : s.data.toList.length ≤ s.size := by simp
      rw [List.take_of_length_le e1, List.drop_eq_nil_of_le e1, List.append_nil] at hH
      have hback := back_run (P := Tryd.prog) 34 9 5 Tryd.underlying34 Tryd.underlying5 Tryd.underlying9 wr w.heap.size s.size (grownCap w s.size 0 5) _ (by simp) hH
      clear e1
      go_wp2
      go_ret
      exact ⟨rfl, hB⟩
def mapS (g : UInt8 → UInt8) (s : ByteArray) : ByteArray := ⟨(s.data.toList.map g).toArray⟩
def upB : UInt8 → UInt8 := turnByte 97 122 (-32)
def loB : UInt8 → UInt8 := turnByte 65 90 32
def upS (s : ByteArray) : ByteArray := mapS upB s
def loS (s : ByteArray) : ByteArray := mapS loB s

theorem size_mapS (g : UInt8 → UInt8) (s : ByteArray) : (mapS g s).size = s.size := by
  show (List.map g s.data.toList).toArray.size = s.data.size
  simp

theorem mapS_mapS (g h : UInt8 → UInt8) (s : ByteArray) : mapS g (mapS h s) = mapS (fun c => g (h c)) s := by
  simp [mapS, Function.comp_def]

theorem get_mapS (g : UInt8 → UInt8) (s : ByteArray) (k : Nat) (h : k < s.data.size) (h' : k < (mapS g s).data.size) : (mapS g s).data[k] = g s.data[k] := by
  simp [mapS]

set_option maxRecDepth 10000 in
theorem lo_up : ∀ c : UInt8, loB (upB c) = loB c := by
  intro c
  have : ∀ n : Fin 256, loB (upB (UInt8.ofNat n.val)) = loB (UInt8.ofNat n.val) := by decide +kernel
  have h := this ⟨c.toNat, c.toNat_lt⟩
  simpa using h
theorem up_lo : ∀ c : UInt8, upB (loB c) = upB c := by
  intro c
  have : ∀ n : Fin 256, upB (loB (UInt8.ofNat n.val)) = upB (UInt8.ofNat n.val) := by decide +kernel
  have h := this ⟨c.toNat, c.toNat_lt⟩
  simpa using h

theorem loS_upS (s : ByteArray) : loS (upS s) = loS s := by
  unfold loS upS; rw [mapS_mapS]; congr 1; funext c; exact lo_up c
theorem upS_loS (s : ByteArray) : upS (loS s) = upS s := by
  unfold loS upS; rw [mapS_mapS]; congr 1; funext c; exact up_lo c

theorem upper_any (s : ByteArray) (w : World) (hs : s.size ≤ maxLen) :
    Calls Tryd.prog 11 #[.string s] w fun e w' => e = .returned (.string (upS s)) ∧ Below w.heap.size w w' := by
  go_enter Tryd.func11, Tryd.ntmps11
  go_wp2_with (go_at_call 24; refine (letters_any _ _ _ _ _ hs (by omega) (by omega)).mono ?_; rintro e w' ⟨rfl, hB⟩)
  go_ret
  exact ⟨rfl, hB⟩
theorem lower_any (s : ByteArray) (w : World) (hs : s.size ≤ maxLen) :
    Calls Tryd.prog 12 #[.string s] w fun e w' => e = .returned (.string (loS s)) ∧ Below w.heap.size w w' := by
  go_enter Tryd.func12, Tryd.ntmps12
  go_wp2_with (go_at_call 24; refine (letters_any _ _ _ _ _ hs (by omega) (by omega)).mono ?_; rintro e w' ⟨rfl, hB⟩)
  go_ret
  exact ⟨rfl, hB⟩
theorem refupper_any (s : ByteArray) (w : World) (hs : s.size ≤ maxLen) :
    Calls Tryd.prog 18 #[.string s] w fun e w' => e = .returned (.string (upS s)) ∧ Below w.heap.size w w' := by
  go_enter Tryd.func18, Tryd.ntmps18
  go_wp2_with (go_at_call 28; refine (turn_any _ _ _ _ hs (by omega) (by omega) (by omega) (by omega)).mono ?_; rintro e w' ⟨rfl, hB⟩)
  go_ret
  exact ⟨rfl, hB⟩

theorem first_any (w : World) : Calls Tryd.prog 5 #[] w fun e w' => e = .returned (.bool true) ∧ w = w' := by
  have h1 : ((ByteArray.mk #[97, 98, 99]).extract 1 3).toList = [98, 99] := by decide +kernel
  go_enter Tryd.func5, Tryd.ntmps5
  go_wp2
  go_ret
  exact ⟨rfl, rfl⟩
end Go.Proofs.YtodlgnaoghladaaDoor
