/- Two values that are the same; a number below another one; a copy of bytes; few. -/
import Derived.Test.YtmkghfkikclodaaDoorAnyW
namespace Go.Proofs.YtmkghfkikclodaaDoor
open Go.RowKit

def NumOut (z : Int) (W : World) (e : Ending) (w' : World) : Prop := e = .returned (.int .i64 z) ∧ W = w'

theorem number_any (n b : Int) (w : World) (hb : 0 < b) (hb2 : b ≤ 9223372036854775807) (hn1 : -9223372036854775808 ≤ n) (hn2 : n ≤ 9223372036854775807) : Calls Tryd.prog 12 #[.int .i64 n, .int .i64 b] w (NumOut (n % b) w) := by
  have h2 := Int.emod_nonneg n (show b ≠ 0 by omega)
  have h3 := Int.emod_lt_of_pos n hb
  by_cases h0 : 0 ≤ n
  · have hbz : (b == 0) = false := by simp; omega
    go_enter Tryd.func12, Tryd.ntmps12
    go_wp2_with fail
    go_ret
    exact ⟨rfl, rfl⟩
  · have hbz : (b == 0) = false := by simp; omega
    have hbm : (b == -1) = false := by simp; omega
    have h4 := Int.tmod_eq_emod (a := n) (b := b)
    by_cases h1 : n.tmod b < 0
    · have e1 : Hid (n % b = n.tmod b + b) := by
        show _ = _
        split at h4 <;> omega
      have h5 := Int.lt_tmod_of_pos n hb
      clear h4 h2 h3
      go_enter Tryd.func12, Tryd.ntmps12
      go_wp2_with fail
      go_ret
      exact ⟨by rw [e1.out]; rfl, rfl⟩
    · have e1 : Hid (n % b = n.tmod b) := by
        show _ = _
        split at h4 <;> omega
      clear h4 h2 h3
      go_enter Tryd.func12, Tryd.ntmps12
      go_wp2_with fail
      go_ret
      exact ⟨by rw [e1.out]; rfl, rfl⟩

theorem small_any (x : Val) (a : Option Addr) (c : Nat) (w : World) (hf : Fits x.kind x.n x.s x.l.length) (hR : RepSl (Lo w.heap.size) w a x.l) :
    Calls Tryd.prog 7 #[.agg #[.int .i64 x.kind, .int .i64 x.n, .string x.s, .slice a x.l.length c]] w (BoolOut w (decide (0 ≤ fewM x 6000 0))) := by
  have HC := Lib.hid fun (o : Obj) => few_any (SizeOf.sizeOf x) x 6000 0 a c (w.alloc o) (Nat.le_refl _) (by decide) (by decide) (by decide) (by decide) hf ((hR.below (bal w o)).keep (fun _ _ => rfl) (fun k hk => by have : k < w.heap.size := hk; show k < _; simp; omega))
  have hv := VB.new w (.int .i64 x.kind) (.int .i64 x.n) (.string x.s) (.slice a x.l.length c)
  obtain ⟨d0, d1, d2, d3, -⟩ := hv.all
  clear hR hv
  generalize fewM x 6000 0 = z at HC ⊢
  by_cases hz : 0 ≤ z
  · rw [decide_eq_true hz]
    go_enter Tryd.func7, Tryd.ntmps7
    go_wp2_with fail
    refine (HC.out _).mono ?_
    rintro e w1 ⟨rfl, hB⟩
    go_wp2
    go_ret
    exact ⟨by simp [hz], (bal w _).trans (hB.mono (by simp))⟩
  · rw [decide_eq_false hz]
    go_enter Tryd.func7, Tryd.ntmps7
    go_wp2_with fail
    refine (HC.out _).mono ?_
    rintro e w1 ⟨rfl, hB⟩
    go_wp2
    go_ret
    exact ⟨by simp [hz], (bal w _).trans (hB.mono (by simp))⟩

set_option maxRecDepth 100000 in
theorem bytes_any (w : World) (v : Value) (l : List UInt8) (h : Cells w v l) (hl : l.length ≤ 100000000) : Calls Tryd.prog 11 #[v] w (Laid w.heap.size w l) := by
  obtain ⟨a, c, rfl, hc⟩ := h
  have HC := Lib.hid hc
  clear hc
  obtain ⟨i, hi, hz0, hz1, hz2⟩ := info_parts info5
  obtain ⟨w1, hr, ho, hg⟩ := run_make_own (P := Tryd.prog) w w.heap.size 25 5 i _ 1 Tryd.underlying25 hi hz0 hz1 .i64 .i64 l.length (by rw [hz2]; omega) (by unfold maxLen; omega) (Nat.le_refl _)
  have hk : Kept w.heap.size w w1 := ⟨hg.os, hg.tape, hg.output, hg.size, fun k hk _ => hg.block k hk (by simp)⟩
  have HO := Lib.hid (And.intro ho hk)
  clear hi hz0 hz1 hz2 ho hk hg
  go_enter Tryd.func11, Tryd.ntmps11
  go_wp2_with fail
  clear hr
  go_loopw [3, 4] (fun b i wr => ∃ k : Nat, k ≤ l.length ∧ i = .int .i64 k ∧ Kept w.heap.size w wr ∧ OwnB wr w.heap.size 5 b (l.take k)) (fun _ i _ => l.length - (intOf i).toNat)
  case atStart => exact ⟨0, Nat.zero_le _, rfl, HO.out.2, HO.out.1⟩
  case round =>
    obtain ⟨k, hk, rfl, hK, hO⟩ := hrel
    have hsz := hK.size
    by_cases hlt : k < l.length
    · rcases HC.out with rfl | ⟨ad, rfl, hcc⟩
      · simp at hlt
      have g0 := ((hK.below (Nat.le_refl _)).cell (cell_lt (hcc k hlt))).trans (hcc k hlt)
      have e1 : l.take (k + 1) = l.take k ++ [l[k]] := by rw [List.take_add_one, List.getElem?_eq_getElem hlt]; rfl
      have HE1 := Lib.hid e1
      have el : (l.take k).length ≤ l.length := by rw [List.length_take]; omega
      generalize l.take k = acc at hO el HE1
      generalize l[k] = y at g0 HE1
      obtain ⟨a1, c1, rfl⟩ := hO.shape
      unfold byteV at g0
      clear hcc e1
      go_wp2_with (at_builtin; go_loud (refine append_bytes _ rfl (.tmp 14) (.tmp 19) 25 rfl w.heap.size 5 Tryd.underlying25 info5 _ acc rfl (hO.alloc _) ⟨wr.heap.size, 0, none⟩ 1 [y] 1 rfl rfl ?d1 ?d2 ?d3 ?_))
      case d1 => exact one_new' _ _ _ _ rfl rfl
      case d2 => first | omega | (simp; omega)
      case d3 => first | omega | (simp; omega)
      intro v' w2 hown2 hg2
      have hK2 : Kept w.heap.size w w2 := (hK.alloc _).trans (Kept.grown (hO.alloc _) hg2)
      rw [← HE1.out] at hown2
      have HO2 := Lib.hid hown2
      clear hown2 hg2 hO hK g0
      go_wp2
      go_roundw
      case rel => exact ⟨k + 1, by omega, by go_num, hK2, HO2.out⟩
      case measure => simp [intOf]; omega
    · have e1 : l.take k = l := List.take_of_length_le (by omega)
      rw [e1] at hO
      obtain ⟨a1, c1, rfl⟩ := hO.shape
      clear e1
      go_wp2
      go_ret
      exact ⟨_, rfl, hO, hK⟩

/-! ### the same value twice -/
def TrueOut (W : World) (e : Ending) (w' : World) : Prop := e = .returned (.bool true) ∧ Below W.heap.size W w'

set_option maxRecDepth 100000 in
set_option maxHeartbeats 1000000 in
theorem sameValue_same (m : Nat) : (∀ (x : Val) (a a' : Option Addr) (c c' : Nat) (w : World), SizeOf.sizeOf x ≤ m → Fits x.kind x.n x.s x.l.length → RepSl (Lo w.heap.size) w a x.l → RepSl (Lo w.heap.size) w a' x.l →
    Calls Tryd.prog 13 #[.agg #[.int .i64 x.kind, .int .i64 x.n, .string x.s, .slice a x.l.length c], .agg #[.int .i64 x.kind, .int .i64 x.n, .string x.s, .slice a' x.l.length c']] w (TrueOut w)) := by
  induction m with
  | zero => intro x a a' c c' w h; cases x; simp at h
  | succ m ih =>
    intro x a a' c c' w hm hf hR hR'
    have IH := Lib.hid ih
    clear ih
    obtain ⟨f1, f2, f3, f4, f5, f6⟩ := hf
    -- the items
    have HL : Hid (∀ (w : World), RepSl (Lo w.heap.size) w a x.l → RepSl (Lo w.heap.size) w a' x.l → Calls Tryd.prog 27 #[.slice a x.l.length c, .slice a' x.l.length c'] w (TrueOut w)) := by
      show ∀ _, _
      intro w hR hR'
      have HR := Lib.hid (And.intro hR hR')
      clear hR hR'
      go_enter Tryd.func27, Tryd.ntmps27
      go_wp2_with fail
      go_loopw [5] (fun i wr => ∃ k : Nat, k ≤ x.l.length ∧ i = .int .i64 k ∧ Below w.heap.size w wr) (fun i _ => x.l.length - (intOf i).toNat)
      case atStart => exact ⟨0, Nat.zero_le _, rfl, Below.refl _ _⟩
      case round =>
        obtain ⟨k, hk, rfl, hB⟩ := hrel
        by_cases hlt : k < x.l.length
        · obtain ⟨b, o, rfl, hs, hat⟩ := (HR.out.1.below hB).item k hlt
          obtain ⟨b', o', rfl, hs', hat'⟩ := (HR.out.2.below hB).item k hlt
          obtain ⟨ff, p1, q1, g0, g1, g2, g3, hsub⟩ := repAt_iff.1 hat
          obtain ⟨-, p2, q2, g0', g1', g2', g3', hsub'⟩ := repAt_iff.1 hat'
          have hsize := sizeOf_item x k hlt
          have hszr := hB.size
          generalize x.l[k] = y at ff g0 g1 g2 g3 g0' g1' g2' g3' hsub hsub' hsize
          have HC := Lib.hid fun (w' : World) (h : Since wr w') => IH.out y p1 p2 q1 q2 w' (by omega) ff (h.rep hszr hsub) (h.rep hszr hsub')
          clear hat hat' hsub hsub' ff
          go_wp2_with fail
          go_region_law (go_simp; go_at_call 13; go_loud (refine (HC.out _ (by exact ⟨Nat.le_refl _, fun _ _ => rfl⟩)).mono ?_; rintro e w4 ⟨rfl, hB4⟩))
          all_goals go_wp2
          all_goals
            go_roundw
            case rel => exact ⟨k + 1, by omega, by go_num, hB.trans (Below.mono ⟨hB4.os, hB4.tape, hB4.output, hB4.size, hB4.block⟩ hszr)⟩
            case measure => simp [intOf]; omega
        · go_wp2
          go_ret
          exact ⟨rfl, hB⟩
    have hv := VB.new w (.int .i64 x.kind) (.int .i64 x.n) (.string x.s) (.slice a x.l.length c)
    have hv' := VB.new (w.alloc (.cells #[.int .i64 x.kind, .int .i64 x.n, .string x.s, .slice a x.l.length c] 24)) (.int .i64 x.kind) (.int .i64 x.n) (.string x.s) (.slice a' x.l.length c')
    have hal := (bal w (.cells #[.int .i64 x.kind, .int .i64 x.n, .string x.s, .slice a x.l.length c] 24)).trans ((bal (w.alloc (.cells #[.int .i64 x.kind, .int .i64 x.n, .string x.s, .slice a x.l.length c] 24)) (.cells #[.int .i64 x.kind, .int .i64 x.n, .string x.s, .slice a' x.l.length c'] 24)).mono (by simp))
    have hv := hv.below (bal _ (.cells #[.int .i64 x.kind, .int .i64 x.n, .string x.s, .slice a' x.l.length c'] 24)) (by simp)
    have HC := Lib.hid (HL.out _ (Since.rep ⟨hal.size, hal.block⟩ (Nat.le_refl _) hR) (Since.rep ⟨hal.size, hal.block⟩ (Nat.le_refl _) hR'))
    have HV := Lib.hid (And.intro hv (And.intro hv' hal))
    obtain ⟨d0, d1, d2, d3, -⟩ := hv.all
    obtain ⟨d0', d1', d2', d3', -⟩ := hv'.all
    simp only [World.size_alloc] at d0' d1' d2' d3'
    clear hR hR' hv hv' hal HL
    go_enter Tryd.func13, Tryd.ntmps13
    go_wp2_with fail
    refine HC.out.mono ?_
    rintro e w1 ⟨rfl, hB⟩
    obtain ⟨e0, e1, e2, e3, -⟩ := (HV.out.1.below hB HV.out.1.lt).all
    obtain ⟨e0', e1', e2', e3', -⟩ := (HV.out.2.1.below hB HV.out.2.1.lt).all
    simp only [World.size_alloc] at e0' e1' e2' e3'
    clear d0 d1 d2 d3 d0' d1' d2' d3'
    go_wp2
    go_ret
    exact ⟨rfl, HV.out.2.2.trans (hB.mono (by simp; omega))⟩
end Go.Proofs.YtmkghfkikclodaaDoor
