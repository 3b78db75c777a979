/- What is amiss with a program. -/
import Derived.Test.YtmkghfkikclodaaDoorWalkN
set_option linter.unusedVariables false
set_option linter.unusedSimpArgs false
namespace Go.Proofs.YtmkghfkikclodaaDoor
open Go.RowKit

mutual
theorem countM_cnt : ∀ (x : Nd) (n : Int), 0 ≤ n → n ≤ 4096 → countM x n ≤ 4096 → countM x n = n + cntM x
  | .mk op line s v l, n, h0, h1, h => by
    rw [countM_eq] at h ⊢
    rw [cntM_eq]
    split at h
    · omega
    · rename_i h2
      rw [if_neg h2]
      have := countL_cnt l (n + 1) (by omega) (by omega) h
      show countL l (n + 1) = _
      rw [this]
      show _ = n + ((1 + cntL l : Nat) : Int)
      omega
theorem countL_cnt : ∀ (l : List Nd) (n : Int), 0 ≤ n → n ≤ 4096 → countL l n ≤ 4096 → countL l n = n + cntL l
  | [], n, h0, h1, h => by simp [countL, cntL]
  | x :: xs, n, h0, h1, h => by
    have hb := countM_bd x n h0 h1
    rw [countL] at h ⊢
    rw [cntL]
    split at h
    · omega
    · rename_i h2
      rw [if_neg h2]
      have hm := countM_cnt x n h0 h1 (by omega)
      have hl := countL_cnt xs (countM x n) (by omega) (by omega) h
      rw [hl, hm]
      omega
end

def validB (l : List Nd) : Bool := decide (countL l 0 ≤ 4096) && (decide (deepNL 0 l ≤ 40) && l.all fun x => walkB x 7 false)

theorem cntL_at (l : List Nd) (k : Nat) (h : k < l.length) : cntM l[k] ≤ cntL l := by
  have := cntL_item l k h
  have := cntM_eq l[k]
  omega

set_option maxRecDepth 100000 in
set_option maxHeartbeats 4000000 in
theorem valid_nodes (p : Nat → Addr) (l : List Nd) (a : Option Addr) (c : Nat) (w : World) (hl : l.length ≤ 9223372036854775807) (hw : 6 ≤ w.heap.size) (hE : Errs 6 p w) (hR : RepNSl (Lo w.heap.size) w a l) :
    Calls Tryd.prog 49 #[.slice a l.length c, .int .i64 7] w (OkOut (validB l) w) := by
  have HCO := Lib.hid (count_any (SizeOf.sizeOf l) l 0 a c w (Nat.le_refl _) (by decide) (by decide) hl hR)
  have hbd := countL_bd l 0 (by decide) (by decide)
  have hcn := countL_cnt l 0 (by decide) (by decide)
  have hz : validB l = (decide (countL l 0 ≤ 4096) && (decide (deepNL 0 l ≤ 40) && l.all fun x => walkB x 7 false)) := rfl
  have HD := Lib.hid fun (hc : countL l 0 ≤ 4096) (w' : World) (h : Since w w') => deep_nodes (SizeOf.sizeOf l) l a c w' (Nat.le_refl _) (by have := hcn hc; omega) (h.repN (Nat.le_refl _) hR)
  generalize validB l = z at hz ⊢
  generalize countL l 0 = q at HCO hbd hcn hz HD
  generalize deepNL 0 l = dq at HD hz
  have HN := Lib.hid fun (w' : World) (h : Since w w') => h.repN (Nat.le_refl _) hR
  have HE := Lib.hid fun (w' : World) (h : Since w w') => h.errs hw hE
  clear hR hE
  by_cases hq : q ≤ 4096
  · have hcnt := hcn hq
    have HD := Lib.hid (HD.out hq)
    rw [decide_eq_true hq, Bool.true_and] at hz
    by_cases hd : dq ≤ 40
    · rw [decide_eq_true hd, Bool.true_and] at hz
      have HZ := Lib.hid hz
      clear hz hcn
      go_enter Tryd.func49, Tryd.ntmps49
      go_wp2_with fail
      refine HCO.out.mono ?_
      rintro e w1 ⟨rfl, hB1⟩
      go_wp2_with fail
      refine (HD.out _ (Since.of hB1)).mono ?_
      rintro e w2 ⟨rfl, hB2⟩
      have hB02 := hB1.trans (hB2.mono hB1.size)
      have HB2 := Lib.hid hB02
      clear hB1 hB2 hB02
      go_wp2_with fail
      go_loopw [18] (fun i wr => ∃ k : Nat, k ≤ l.length ∧ i = .int .i64 k ∧ Below w.heap.size w wr ∧ Hid (((l.drop k).all fun x => walkB x 7 false) = z)) (fun i _ => l.length - (intOf i).toNat)
      case atStart => exact ⟨0, Nat.zero_le _, rfl, HB2.out, Lib.hid HZ.out.symm⟩
      case round =>
        obtain ⟨k, hk, rfl, hBr, hF⟩ := hrel
        have hF2 := hF.out
        clear hF
        have hszr := hBr.size
        by_cases hlt : k < l.length
        · obtain ⟨b, o, rfl, hs, hat⟩ := (HN.out wr (Since.of hBr)).item k hlt
          obtain ⟨ff, ffv, a1, c1, a2, c2, g0, g1, g2, g3, g4, g5, g6, g7, gv, gs⟩ := repNAt_iff.1 hat
          rw [List.drop_eq_getElem_cons hlt, List.all_cons] at hF2
          have hsize := sizeOf_ndl l k hlt
          have hcy := cntL_at l k hlt
          generalize l[k] = y at ff ffv g0 g1 g2 g3 g4 g5 g6 g7 gv gs hF2 hsize hcy
          have HY := Lib.hid fun (w' : World) (h : Since wr w') => walk_node p (SizeOf.sizeOf y) y 7 false a1 a2 c1 c2 w' (Nat.le_refl _) (by decide) (by decide) (by omega) (by have := h.1; omega) (h.errs (by omega) (HE.out wr (Since.of hBr))) ff ffv (h.rep (Nat.le_refl _) gv) (h.repN (Nat.le_refl _) gs)
          have hv := NV.new wr (.int .i64 y.op) (.int .i64 y.line) (.string y.s) (.int .i64 y.v.kind) (.int .i64 y.v.n) (.string y.v.s) (.slice a1 y.v.l.length c1) (.slice a2 y.l.length c2)
          obtain ⟨e0, e1, e2, e3, e4, e5, e6, e7⟩ := hv.all
          have HBY := Lib.hid (bal wr (.cells #[.int .i64 y.op, .int .i64 y.line, .string y.s, .int .i64 y.v.kind, .int .i64 y.v.n, .string y.v.s, .slice a1 y.v.l.length c1, .slice a2 y.l.length c2] 63))
          have HBR := Lib.hid hBr
          clear hat hv ff ffv gv gs hBr hsize hcy hs
          go_wp2_with fail
          refine (HY.out _ (Since.of HBY.out)).mono ?_
          rintro e w4 h4
          obtain ⟨h4, hB4⟩ := h4.elim
          have hB5 := HBY.out.trans (hB4.mono HBY.out.size)
          have HB5 := Lib.hid hB5
          clear hB4 hB5 e0 e1 e2 e3 e4 e5 e6 e7 g0 g1 g2 g3 g4 g5 g6 g7
          rcases h4 with ⟨hok, rfl⟩ | ⟨hok, tt, uu, rfl⟩
          · rw [hok, Bool.true_and] at hF2
            have HF2 := Lib.hid hF2
            clear hF2
            go_wp2_with fail
            go_roundw
            case rel => exact ⟨k + 1, by omega, by go_num, HBR.out.trans (HB5.out.mono hszr), HF2⟩
            case measure => simp [intOf]; omega
          · rw [hok, Bool.false_and] at hF2
            subst hF2
            go_wp2_with fail
            go_ret
            exact OkOut.no (HBR.out.trans (HB5.out.mono HBR.out.size)) _ _
        · rw [List.drop_eq_nil_of_le (by omega), List.all_nil] at hF2
          subst hF2
          have HBR := Lib.hid hBr
          clear hBr
          go_wp2_with fail
          go_ret
          exact OkOut.yes HBR.out
    · rw [decide_eq_false hd, Bool.false_and] at hz
      subst hz
      go_enter Tryd.func49, Tryd.ntmps49
      go_wp2_with fail
      refine HCO.out.mono ?_
      rintro e w1 ⟨rfl, hB1⟩
      go_wp2_with fail
      refine (HD.out _ (Since.of hB1)).mono ?_
      rintro e w2 ⟨rfl, hB2⟩
      have hB02 := hB1.trans (hB2.mono hB1.size)
      have d0 := HE.out w2 (Since.of hB02) 0 (by decide)
      unfold errV at d0
      clear hB1 hB2
      go_wp2_with fail
      go_ret
      exact OkOut.no hB02 _ _
  · rw [decide_eq_false hq, Bool.false_and] at hz
    subst hz
    go_enter Tryd.func49, Tryd.ntmps49
    go_wp2_with fail
    refine HCO.out.mono ?_
    rintro e w1 ⟨rfl, hB1⟩
    have d0 := HE.out w1 (Since.of hB1) 1 (by decide)
    unfold errV at d0
    go_wp2_with fail
    go_ret
    exact OkOut.no hB1 _ _

theorem valid_program (p : Nat → Addr) (l : List Nd) (a : Option Addr) (c : Nat) (w : World) (hl : l.length ≤ 9223372036854775807) (hw : 6 ≤ w.heap.size) (hE : Errs 6 p w) (hR : RepNSl (Lo w.heap.size) w a l) :
    Calls Tryd.prog 31 #[.slice a l.length c] w (OkOut (validB l) w) := by
  have HV := Lib.hid (valid_nodes p l a c w hl hw hE hR)
  clear hR hE
  generalize validB l = z at HV ⊢
  go_enter Tryd.func31, Tryd.ntmps31
  go_wp2_with fail
  refine HV.out.mono ?_
  rintro e w1 h1
  obtain ⟨h1, hB⟩ := h1.elim
  rcases h1 with ⟨rfl, rfl⟩ | ⟨rfl, t, u, rfl⟩
  · go_wp2_with fail
    go_ret
    exact OkOut.yes hB
  · go_wp2_with fail
    go_ret
    exact OkOut.no hB _ _
end Go.Proofs.YtmkghfkikclodaaDoor
