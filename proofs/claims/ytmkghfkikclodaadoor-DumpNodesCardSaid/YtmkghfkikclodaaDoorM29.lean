/- The document's word on a program. Is it a program, of few nodes? -/
import Derived.Test.YtmkghfkikclodaaDoorM25
import Derived.Test.YtmkghfkikclodaaDoorPlainN
import Derived.Test.YtmkghfkikclodaaDoorM07
import Derived.Test.YtmkghfkikclodaaDoorM19
set_option linter.unusedVariables false
set_option linter.unusedSimpArgs false
namespace Go.Proofs.YtmkghfkikclodaaDoor
open Go.RowKit

/-- a fault; none, if all is right -/
def FineOut (ok : Bool) (W : World) (e : Ending) (w' : World) : Prop := (∃ (z : Int) (pl : Bool) (pos : Int), e = .returned (.agg #[.int .i64 z, .bool pl, .int .i64 pos, .int .i64 0, .int .i64 0, .string ⟨#[]⟩, .slice none 0 0]) ∧ ((ok = true ∧ z = 0) ∨ (ok = false ∧ ¬ z = 0))) ∧ Below W.heap.size W w'
theorem ret21 {w : World} {g : Nat} {x0 x1 x2 x3 x4 x5 x6 : Value} {tmps : Array Value} (ht : tmps.getD 2 undef = .pointer (some ⟨g, 0, none⟩)) (hv : FB w g x0 x1 x2 x3 x4 x5 x6) : (results Tryd.f21 tmps).run Tryd.prog w = .ok (.agg #[x0, x1, x2, x3, x4, x5, x6]) w :=
  results_cell_row (P := Tryd.prog) Tryd.results21 tmps w g 48 #[x0, x1, x2, x3, x4, x5, x6] (0, 0) _ ht hv Tryd.underlying48 rfl info48

set_option maxRecDepth 100000 in
set_option maxHeartbeats 10000000 in
theorem validRef_any (l : List Nd) (a : Option Addr) (c : Nat) (w : World) (hl : l.length ≤ 9223372036854775807) (hsm : SmallNL l) (hR : RepNSl (Lo w.heap.size) w a l) :
    Calls Tryd.prog 21 #[.slice a l.length c] w (FineOut (fineB l) w) := by
  have HB0 := Lib.hid (bal w (.cells #[.int .i64 0, .bool false, .int .i64 0, .int .i64 0, .int .i64 0, .string ⟨#[]⟩, .slice none 0 0] 48))
  have HF0 := Lib.hid (FB.new w (.int .i64 0) (.bool false) (.int .i64 0) (.int .i64 0) (.int .i64 0) (.string ⟨#[]⟩) (.slice none 0 0))
  have HTM := Lib.hid fun (w' : World) (h : Since w w') => tooMany_ref l a c w' hl (h.repN (Nat.le_refl _) hR)
  have HDP := Lib.hid fun (hc : cntL l ≤ 4096) (w' : World) (h : Since w w') => refDeep_nodes (SizeOf.sizeOf l) l a c w' (Nat.le_refl _) (by omega) (h.repN (Nat.le_refl _) hR)
  have HN := Lib.hid fun (w' : World) (h : Since w w') => h.repN (Nat.le_refl _) hR
  have HNO := Lib.hid fun (w' : World) => none_any w'
  have hz : fineB l = (!decide (manyNL l 4096 < 0) && (!decide (40 < deepNL 0 l) && l.all fun x => oddB x 9 false)) := rfl
  have hcn : ¬ manyNL l 4096 < 0 → cntL l ≤ 4096 := by
    rw [manyNL_cnt l 4096 (by decide)]
    intro h
    by_cases h2 : (cntL l : Int) ≤ 4096
    · omega
    · rw [if_neg h2] at h; exact absurd (by decide) h
  have HSM := Lib.hid hsm
  generalize fineB l = z at hz ⊢
  generalize manyNL l 4096 = mq at HTM hz hcn
  generalize deepNL 0 l = dq at HDP hz
  clear hR hsm
  by_cases hm : mq < 0
  · rw [decide_eq_true hm] at hz HTM
    obtain rfl : z = false := by rw [hz]; rfl
    clear hz hcn hm
    go_enter Tryd.func21, Tryd.ntmps21
    go_wp2_with fail
    refine (HTM.out _ (Since.of HB0.out)).mono ?_
    rintro e w1 ⟨rfl, hB⟩
    have hsz1 := hB.size
    have HF1 := Lib.hid (HF0.out.below hB HF0.out.lt)
    have HB1 := Lib.hid (HB0.out.trans (hB.mono HB0.out.size))
    clear hB
    go_wp2_with fail
    refine (bare_any 104 _).mono ?_
    rintro e w2 ⟨rfl, hB⟩
    have hv2 := HF1.out.below hB HF1.out.lt
    have HV2 := Lib.hid hv2
    have HB3 := Lib.hid (HB1.out.trans (hB.mono HB1.out.size))
    obtain ⟨c0, c1, c2, c3, c4, c5, c6, f0, f1, f2, f3, f4, f5, f6⟩ := hv2.all
    clear hv2 hB
    unfold faultV
    go_wp2_with fail
    have hset := HV2.out.set (.int .i64 104) (.bool false) (.int .i64 0) (.int .i64 0) (.int .i64 0) (.string ⟨#[]⟩) (.slice none 0 0)
    have hbs := below_set7 (g := w.heap.size) HB3.out (Nat.le_refl _) (.int .i64 104) (.bool false) (.int .i64 0) (.int .i64 0) (.int .i64 0) (.string ⟨#[]⟩) (.slice none 0 0)
    generalize (((((((w2.setCell ⟨w.heap.size, 0, none⟩ (.int .i64 104)).setCell ⟨w.heap.size, 1, none⟩ (.bool false)).setCell ⟨w.heap.size, 2, none⟩ (.int .i64 0)).setCell ⟨w.heap.size, 3, none⟩ (.int .i64 0)).setCell ⟨w.heap.size, 4, none⟩ (.int .i64 0)).setCell ⟨w.heap.size, 5, none⟩ (.string ⟨#[]⟩)).setCell ⟨w.heap.size, 6, none⟩ (.slice none 0 0)) = w6 at hset hbs ⊢
    exact bodyPost_ret (ret21 rfl hset) rfl ⟨⟨104, false, 0, rfl, .inr ⟨rfl, by decide⟩⟩, hbs⟩
  · have hcnt := hcn hm
    have hlen := cntL_len l
    have HDP2 := Lib.hid (HDP.out hcnt)
    rw [decide_eq_false hm] at hz HTM
    rw [Bool.not_false, Bool.true_and] at hz
    clear hcn hm
    by_cases hd : 40 < dq
    · rw [decide_eq_true hd] at hz
      obtain rfl : z = false := by rw [hz]; rfl
      clear hz
      go_enter Tryd.func21, Tryd.ntmps21
      go_wp2_with fail
      refine (HTM.out _ (Since.of HB0.out)).mono ?_
      rintro e w1 ⟨rfl, hB⟩
      have hsz1 := hB.size
      have HF1 := Lib.hid (HF0.out.below hB HF0.out.lt)
      have HB1 := Lib.hid (HB0.out.trans (hB.mono HB0.out.size))
      clear hB
      go_wp2_with fail
      refine (HDP2.out _ (Since.of HB1.out)).mono ?_
      rintro e w2 ⟨rfl, hB⟩
      have hsz2 := hB.size
      have HF2 := Lib.hid (HF1.out.below hB HF1.out.lt)
      have HB2 := Lib.hid (HB1.out.trans (hB.mono HB1.out.size))
      clear hB
      go_wp2_with fail
      refine (bare_any 112 _).mono ?_
      rintro e w3 ⟨rfl, hB⟩
      have hv2 := HF2.out.below hB HF2.out.lt
      have HV2 := Lib.hid hv2
      have HB3 := Lib.hid (HB2.out.trans (hB.mono HB2.out.size))
      obtain ⟨c0, c1, c2, c3, c4, c5, c6, f0, f1, f2, f3, f4, f5, f6⟩ := hv2.all
      clear hv2 hB
      unfold faultV
      go_wp2_with fail
      have hset := HV2.out.set (.int .i64 112) (.bool false) (.int .i64 0) (.int .i64 0) (.int .i64 0) (.string ⟨#[]⟩) (.slice none 0 0)
      have hbs := below_set7 (g := w.heap.size) HB3.out (Nat.le_refl _) (.int .i64 112) (.bool false) (.int .i64 0) (.int .i64 0) (.int .i64 0) (.string ⟨#[]⟩) (.slice none 0 0)
      generalize (((((((w3.setCell ⟨w.heap.size, 0, none⟩ (.int .i64 112)).setCell ⟨w.heap.size, 1, none⟩ (.bool false)).setCell ⟨w.heap.size, 2, none⟩ (.int .i64 0)).setCell ⟨w.heap.size, 3, none⟩ (.int .i64 0)).setCell ⟨w.heap.size, 4, none⟩ (.int .i64 0)).setCell ⟨w.heap.size, 5, none⟩ (.string ⟨#[]⟩)).setCell ⟨w.heap.size, 6, none⟩ (.slice none 0 0)) = w6 at hset hbs ⊢
      exact bodyPost_ret (ret21 rfl hset) rfl ⟨⟨112, false, 0, rfl, .inr ⟨rfl, by decide⟩⟩, hbs⟩
    · rw [decide_eq_false hd, Bool.not_false, Bool.true_and] at hz
      have HZ := Lib.hid hz.symm
      clear hz
      go_enter Tryd.func21, Tryd.ntmps21
      go_wp2_with fail
      refine (HTM.out _ (Since.of HB0.out)).mono ?_
      rintro e w1 ⟨rfl, hB⟩
      have hsz1 := hB.size
      have HF1 := Lib.hid (HF0.out.below hB HF0.out.lt)
      have HB1 := Lib.hid (HB0.out.trans (hB.mono HB0.out.size))
      clear hB
      go_wp2_with fail
      refine (HDP2.out _ (Since.of HB1.out)).mono ?_
      rintro e w2 ⟨rfl, hB⟩
      have hsz2 := hB.size
      have HF2 := Lib.hid (HF1.out.below hB HF1.out.lt)
      have HB2 := Lib.hid (HB1.out.trans (hB.mono HB1.out.size))
      clear hB
      go_wp2_with fail
      go_loopw [3] (fun i wr => ∃ k : Nat, k ≤ l.length ∧ i = .int .i64 k ∧ Below w2.heap.size w2 wr ∧ Hid (((l.drop k).all fun x => oddB x 9 false) = z)) (fun i _ => l.length - (intOf i).toNat)
      case atStart => exact ⟨0, Nat.zero_le _, rfl, Below.refl _ _, HZ⟩
      case round =>
        obtain ⟨k, hk, rfl, hBr, hF⟩ := hrel
        have hF2 := hF.out
        clear hF
        have hszr := hBr.size
        have HFr := Lib.hid (HF2.out.below hBr HF2.out.lt)
        have hB0 := HB2.out.trans (hBr.mono HB2.out.size)
        have HBR := Lib.hid hB0
        have HBr := Lib.hid hBr
        by_cases hlt : k < l.length
        · obtain ⟨b, o, rfl, hs, hat⟩ := (HN.out wr (Since.of hB0)).item k hlt
          obtain ⟨ff, ffv, a1, c1, a2, c2, g0, g1, g2, g3, g4, g5, g6, g7, gv, gs⟩ := repNAt_iff.1 hat
          rw [List.drop_eq_getElem_cons hlt, List.all_cons] at hF2
          have hcy := cntL_at l k hlt
          have hsy := smallN_get HSM.out k hlt
          generalize l[k] = y at ff ffv g0 g1 g2 g3 g4 g5 g6 g7 gv gs hF2 hcy hsy
          have hsr : w.heap.size ≤ wr.heap.size := hB0.size
          have HY := Lib.hid (odd_ref (SizeOf.sizeOf y) y 9 false a1 a2 c1 c2 wr (Nat.le_refl _) (by decide) (by decide) (by omega) hsy ff ffv gv gs)
          generalize oddB y 9 false = ok at HY hF2
          have HF3 := Lib.hid hF2
          clear hat ff ffv gv gs hB0 hBr hcy hs hsy hF2
          go_wp2_with fail
          refine HY.out.mono ?_
          rintro e w3 ⟨⟨fz, fpl, fpos, rfl, hok⟩, hB3⟩
          have hsz3 := hB3.size
          have hX : Below wr.heap.size wr (w3.alloc (.cells #[.int .i64 fz, .bool fpl, .int .i64 fpos, .int .i64 0, .int .i64 0, .string ⟨#[]⟩, .slice none 0 0] 48)) := hB3.alloc hB3.size _
          have HX := Lib.hid hX
          rcases hok with ⟨rfl, rfl⟩ | ⟨rfl, hfz⟩
          · have HF4 : Hid (((l.drop (k + 1)).all fun x => oddB x 9 false) = z) := by show _ = _; rw [← HF3.out, Bool.true_and]
            clear hX hB3 g0 g1 g2 g3 g4 g5 g6 g7
            go_wp2_with fail
            go_roundw
            case rel => exact ⟨k + 1, by omega, by go_num, HBr.out.trans (HX.out.mono hszr), HF4⟩
            case measure => simp [intOf]; omega
          · obtain rfl : z = false := by rw [← HF3.out, Bool.false_and]
            have hv2 := HFr.out.below hX HFr.out.lt
            have HV2 := Lib.hid hv2
            have HB3 := Lib.hid (HBR.out.trans (hX.mono HBR.out.size))
            obtain ⟨c0, c1, c2, c3, c4, c5, c6, f0, f1, f2, f3, f4, f5, f6⟩ := hv2.all
            have hfz1 : (fz != 0) = true := by rcases hfz with rfl | rfl <;> rfl
            have hfz2 : ¬ fz = 0 := by rcases hfz with rfl | rfl <;> decide
            clear hv2 hfz hX hB3 g0 g1 g2 g3 g4 g5 g6 g7
            go_wp2_with fail
            have hset := HV2.out.set (.int .i64 fz) (.bool fpl) (.int .i64 fpos) (.int .i64 0) (.int .i64 0) (.string ⟨#[]⟩) (.slice none 0 0)
            have hbs := below_set7 (g := w.heap.size) HB3.out (Nat.le_refl _) (.int .i64 fz) (.bool fpl) (.int .i64 fpos) (.int .i64 0) (.int .i64 0) (.string ⟨#[]⟩) (.slice none 0 0)
            generalize ((((((((w3.alloc (.cells #[.int .i64 fz, .bool fpl, .int .i64 fpos, .int .i64 0, .int .i64 0, .string ⟨#[]⟩, .slice none 0 0] 48)).setCell ⟨w.heap.size, 0, none⟩ (.int .i64 fz)).setCell ⟨w.heap.size, 1, none⟩ (.bool fpl)).setCell ⟨w.heap.size, 2, none⟩ (.int .i64 fpos)).setCell ⟨w.heap.size, 3, none⟩ (.int .i64 0)).setCell ⟨w.heap.size, 4, none⟩ (.int .i64 0)).setCell ⟨w.heap.size, 5, none⟩ (.string ⟨#[]⟩)).setCell ⟨w.heap.size, 6, none⟩ (.slice none 0 0)) = w6 at hset hbs ⊢
            exact bodyPost_ret (ret21 rfl hset) rfl ⟨⟨fz, fpl, fpos, rfl, .inr ⟨rfl, hfz2⟩⟩, hbs⟩
        · rw [List.drop_eq_nil_of_le (by omega), List.all_nil] at hF2
          subst hF2
          have HF3 := HFr
          have HB3' := HBR
          go_wp2_with fail
          refine (HNO.out _).mono ?_
          rintro e w4 ⟨rfl, hB⟩
          have hv2 := HFr.out.below hB HFr.out.lt
          have HV2 := Lib.hid hv2
          have HB3 := Lib.hid (HBR.out.trans (hB.mono HBR.out.size))
          obtain ⟨c0, c1, c2, c3, c4, c5, c6, f0, f1, f2, f3, f4, f5, f6⟩ := hv2.all
          clear hv2 hB
          unfold faultV
          go_wp2_with fail
          have hset := HV2.out.set (.int .i64 0) (.bool false) (.int .i64 0) (.int .i64 0) (.int .i64 0) (.string ⟨#[]⟩) (.slice none 0 0)
          have hbs := below_set7 (g := w.heap.size) HB3.out (Nat.le_refl _) (.int .i64 0) (.bool false) (.int .i64 0) (.int .i64 0) (.int .i64 0) (.string ⟨#[]⟩) (.slice none 0 0)
          generalize (((((((w4.setCell ⟨w.heap.size, 0, none⟩ (.int .i64 0)).setCell ⟨w.heap.size, 1, none⟩ (.bool false)).setCell ⟨w.heap.size, 2, none⟩ (.int .i64 0)).setCell ⟨w.heap.size, 3, none⟩ (.int .i64 0)).setCell ⟨w.heap.size, 4, none⟩ (.int .i64 0)).setCell ⟨w.heap.size, 5, none⟩ (.string ⟨#[]⟩)).setCell ⟨w.heap.size, 6, none⟩ (.slice none 0 0)) = w6 at hset hbs ⊢
          exact bodyPost_ret (ret21 rfl hset) rfl ⟨⟨0, false, 0, rfl, .inl ⟨rfl, rfl⟩⟩, hbs⟩

end Go.Proofs.YtmkghfkikclodaaDoor
namespace Go.Proofs.YtmkghfkikclodaaDoor
open Go.RowKit

set_option maxRecDepth 100000 in
theorem field48 (z : Int) (pl : Bool) (pos : Int) (w : World) : Sem.run Tryd.prog (Instr.field 48 (.agg #[.int .i64 z, .bool pl, .int .i64 pos, .int .i64 0, .int .i64 0, .string ⟨#[]⟩, .slice none 0 0]) 0) w = .ok (.int .i64 z) w := by
  first
    | (rfl; done)
    | (kernel_rfl; done)

theorem fewNodes_any (l : List Nd) (a : Option Addr) (c : Nat) (w : World) (hl : l.length ≤ 9223372036854775807) (hR : RepNSl (Lo w.heap.size) w a l) :
    Calls Tryd.prog 30 #[.slice a l.length c, .int .i64 300] w (BoolOut w (decide (0 ≤ fewNL l 300 0))) := by
  have HC := Lib.hid (few_nodes (SizeOf.sizeOf l) l 300 0 a c w (Nat.le_refl _) (by decide) (by decide) (by decide) (by decide) hl hR)
  have hb := fewNL_bd l 300 0 (by decide)
  clear hR
  generalize fewNL l 300 0 = z at HC hb ⊢
  go_enter Tryd.func30, Tryd.ntmps30
  go_wp2_with fail
  refine HC.out.mono ?_
  rintro e w1 ⟨rfl, hB⟩
  go_wp2
  all_goals
    go_ret
    exact ⟨ret_bool (by first | rfl | simp [*] | (rw [Bool.eq_iff_iff]; simp; omega)), hB⟩

set_option maxRecDepth 100000 in
theorem program_any (l : List Nd) (a : Option Addr) (c : Nat) (w : World) (hl : l.length ≤ 9223372036854775807) (hR : RepNSl (Lo w.heap.size) w a l) :
    Calls Tryd.prog 16 #[.slice a l.length c, .int .i64 300] w (BoolOut w (decide (0 ≤ fewNL l 300 0) && fineB l)) := by
  have HF := Lib.hid (fewNodes_any l a c w hl hR)
  by_cases hf : 0 ≤ fewNL l 300 0
  · have hsm := fewNL_small l 300 0 (by decide) (by decide) hf
    have HV := Lib.hid fun (w' : World) (h : Since w w') => validRef_any l a c w' hl hsm (h.repN (Nat.le_refl _) hR)
    rw [decide_eq_true hf] at HF ⊢
    rw [Bool.true_and]
    generalize fineB l = z at HV ⊢
    clear hR hsm hf
    go_enter Tryd.func16, Tryd.ntmps16
    go_wp2_with fail
    refine HF.out.mono ?_
    rintro e w1 ⟨rfl, hB⟩
    have HB := Lib.hid hB
    clear hB
    go_wp2_with fail
    refine (HV.out _ (Since.of HB.out)).mono ?_
    rintro e w2 ⟨⟨fz, pl, pos, rfl, hok⟩, hB2⟩
    have HB2 := Lib.hid (HB.out.trans (hB2.mono HB.out.size))
    clear hB2
    rcases hok with ⟨rfl, rfl⟩ | ⟨rfl, hfz⟩
    · have hfd := field48 0 pl pos w2
      go_wp2
      go_ret
      exact ⟨rfl, HB2.out⟩
    · have hfz1 : (fz == 0) = false := by simp [hfz]
      have hfd := field48 fz pl pos w2
      go_wp2
      go_ret
      exact ⟨ret_bool (by first | rfl | exact hfz1), HB2.out⟩
  · rw [decide_eq_false hf] at HF ⊢
    rw [Bool.false_and]
    clear hR hf
    go_enter Tryd.func16, Tryd.ntmps16
    go_wp2_with fail
    refine HF.out.mono ?_
    rintro e w1 ⟨rfl, hB⟩
    have HB := Lib.hid hB
    clear hB
    go_wp2
    go_ret
    exact ⟨rfl, HB.out⟩
end Go.Proofs.YtmkghfkikclodaaDoor
