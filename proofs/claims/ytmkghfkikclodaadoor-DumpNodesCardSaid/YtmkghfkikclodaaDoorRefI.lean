/- The document's word on loops. -/
import Derived.Test.YtmkghfkikclodaaDoorRefF
set_option linter.unusedVariables false
set_option linter.unusedSimpArgs false
namespace Go.Proofs.YtmkghfkikclodaaDoor
open Go.RowKit

set_option maxRecDepth 100000 in
set_option maxHeartbeats 40000000 in
theorem odd_forIn (m : Nat) (ih : OddIH m) (x : Nd) (own : Int) (loop : Bool) (a a' : Option Addr) (c c' : Nat) (w : World) (hm : SizeOf.sizeOf x ≤ m + 1) (hr0 : 1 ≤ own) (hr1 : own ≤ 9) (hcnt : cntM x ≤ 4097) (hsm : SmallN x)
    (hf : Fits x.op x.line x.s x.l.length) (hfv : Fits x.v.kind x.v.n x.v.s x.v.l.length) (hR : RepSl (Lo w.heap.size) w a x.v.l) (hN : RepNSl (Lo w.heap.size) w a' x.l) (hcl : x.op = 42) (hp : PassO x own) :
    Calls Tryd.prog 37 #[.agg #[.int .i64 x.op, .int .i64 x.line, .string x.s, .int .i64 x.v.kind, .int .i64 x.v.n, .string x.v.s, .slice a x.v.l.length c, .slice a' x.l.length c'], .int .i64 own, .bool loop] w (NodeOut (oddB x own loop) w) := by
  obtain ⟨op, line, s, ⟨vk, vn, vs, vl⟩, l⟩ := x
  have hsx := sizeOf_nd (.mk op line s (.mk vk vn vs vl) l)
  have hcx := cntM_eq (.mk op line s (.mk vk vn vs vl) l)
  have hz : oddB (.mk op line s (.mk vk vn vs vl) l) own loop = ((shapeO op own loop s (.mk vk vn vs vl) l.length && !(badI op s == 1)) && kidsO op own (loopR op loop) l.length 0 l) := by rw [oddB]
  have hsmv := hsm.2.1
  have hsml := hsm.2.2
  generalize oddB (.mk op line s (.mk vk vn vs vl) l) own loop = z at hz ⊢
  have hlen := cntL_len l
  have hsv := fun (w' : World) => zero_ref (.mk vk vn vs vl) a c w' hfv
  have hrt := fun (w' : World) (h : Since w w') => right_ref (.mk vk vn vs vl) a c w' hfv hsmv (h.rep (Nat.le_refl _) hR)
  have hvb : valB op (.mk vk vn vs vl) = if op = 1 then litB (.mk vk vn vs vl) else zeroB (.mk vk vn vs vl) := rfl
  unfold litB at hvb
  unfold shapeO at hz
  unfold PassO at hp
  dsimp only [Nd.op, Nd.s, Nd.v, Nd.l] at hp
  generalize zeroB (.mk vk vn vs vl) = zb at hsv hvb hp
  generalize (validM (.mk vk vn vs vl)).isNone = vi at hrt hvb
  generalize valB op (.mk vk vn vs vl) = vb at hvb hz
  dsimp only [Nd.op, Nd.line, Nd.s, Nd.v, Nd.l, Val.kind, Val.n, Val.s, Val.l] at hcnt hf hfv hR hN hsx hcx hsv hrt hvb hcl ⊢
  have IH := Lib.hid ih
  clear ih
  have hv := NV.new w (.int .i64 op) (.int .i64 line) (.string s) (.int .i64 vk) (.int .i64 vn) (.string vs) (.slice a vl.length c) (.slice a' l.length c')
  have hal := bal w (.cells #[.int .i64 op, .int .i64 line, .string s, .int .i64 vk, .int .i64 vn, .string vs, .slice a vl.length c, .slice a' l.length c'] 63)
  have hfb := FB.new (w.alloc (.cells #[.int .i64 op, .int .i64 line, .string s, .int .i64 vk, .int .i64 vn, .string vs, .slice a vl.length c, .slice a' l.length c'] 63)) (.int .i64 0) (.bool false) (.int .i64 0) (.int .i64 0) (.int .i64 0) (.string ⟨#[]⟩) (.slice none 0 0)
  rw [show (w.alloc (.cells #[.int .i64 op, .int .i64 line, .string s, .int .i64 vk, .int .i64 vn, .string vs, .slice a vl.length c, .slice a' l.length c'] 63)).heap.size = w.heap.size + 1 by simp] at hfb
  have hal := hal.trans ((bal (w.alloc (.cells #[.int .i64 op, .int .i64 line, .string s, .int .i64 vk, .int .i64 vn, .string vs, .slice a vl.length c, .slice a' l.length c'] 63)) (.cells #[.int .i64 0, .bool false, .int .i64 0, .int .i64 0, .int .i64 0, .string ⟨#[]⟩, .slice none 0 0] 48)).mono (by simp))
  have hv := hv.below (bal _ (.cells #[.int .i64 0, .bool false, .int .i64 0, .int .i64 0, .int .i64 0, .string ⟨#[]⟩, .slice none 0 0] 48)) hv.lt
  have HSV := Lib.hid hsv
  have HRT := Lib.hid hrt
  have HNA := Lib.hid fun (w' : World) => named_ref op s (.int .i64 line) (.int .i64 vk) (.int .i64 vn) (.string vs) (.slice a vl.length c) (.slice a' l.length c') w' hf.1 hf.2.1 hf.2.2.2.2.1
  have HST := Lib.hid fun (w' : World) => stands_ref op own hr0 hr1 w' hf.1 hf.2.1
  have HCO := Lib.hid fun (w' : World) => counts_ref op l.length (by omega) w' hf.1 hf.2.1
  have HPS := Lib.hid fun (w' : World) => placed_shape line w'
  have HPN := Lib.hid fun (w' : World) => placed_name line w'
  have HNO := Lib.hid fun (w' : World) => none_any w'
  have HPL := Lib.hid fun (i : Nat) (hi : i < l.length) (w' : World) => place_ref op own i l.length hi (by omega) (.int .i64 line) (.string s) (.int .i64 vk) (.int .i64 vn) (.string vs) (.slice a vl.length c) a' c' w' hf.1 hf.2.1
  have HN := Lib.hid fun (w' : World) (h : Since w w') => h.repN (Nat.le_refl _) hN
  have HB0 := Lib.hid hal
  obtain ⟨d0, d1, d2, d3, d4, d5, d6, d7⟩ := hv.all
  have hlt0 := hv.lt
  have HV0 := Lib.hid hv
  have HF0 := Lib.hid hfb
  have HSM := Lib.hid hsml
  have HNK := Lib.hid fun (h : op = 1 ∨ op = 45 ∨ op = 46) => @no_kids op l.length h
  generalize hst : standsR op own = st at HST hz hp
  generalize hct : countsB op l.length = ct at HCO hz HNK hp
  generalize hbd : badI op s = bd at HNA hz hp
  have HZ := Lib.hid hz
  clear hv hal hfb hR hN hf hfv hsm hsmv hsml hz hsv hrt hst hct hbd
  obtain rfl : op = 42 := hcl
  rw [if_neg (by decide)] at hvb
  obtain ⟨rfl, rfl, rfl, hb2, hb1⟩ := hp
  subst hvb
  have hb1' : (bd == 1) = false := by simp [hb1]
  have hb2' : (bd == 2) = false := by simp [hb2]
  have hz : z = kidsO 42 own true l.length 0 l := by rw [HZ.out]; simp [loopR, awayB, *]
  have HZK := Lib.hid hz.symm
  clear HZ hz
  go_enter Tryd.func37, Tryd.ntmps37
  go_wp2_with fail
  refine (HSV.out _).mono ?_
  rintro e w1 ⟨rfl, hB⟩
  have hsz1 := hB.size
  have hv := HV0.out.below hB hlt0
  have HF1 := Lib.hid (HF0.out.below hB HF0.out.lt)
  have HB1 := Lib.hid (HB0.out.trans (hB.mono HB0.out.size))
  have hlt1 := hv.lt
  clear d0 d1 d2 d3 d4 d5 d6 d7
  obtain ⟨d0, d1, d2, d3, d4, d5, d6, d7⟩ := hv.all
  have HV1 := Lib.hid hv
  clear hv hB
  go_wp2_with fail
  refine (HNA.out _).mono ?_
  rintro e w2 ⟨rfl, hB⟩
  have hsz2 := hB.size
  have hv := HV1.out.below hB hlt1
  have HF2 := Lib.hid (HF1.out.below hB HF1.out.lt)
  have HB2 := Lib.hid (HB1.out.trans (hB.mono HB1.out.size))
  have hlt2 := hv.lt
  clear d0 d1 d2 d3 d4 d5 d6 d7
  obtain ⟨d0, d1, d2, d3, d4, d5, d6, d7⟩ := hv.all
  have HV2 := Lib.hid hv
  clear hv hB
  go_wp2_with fail
  refine (HST.out _).mono ?_
  rintro e w3 ⟨rfl, hB⟩
  have hsz3 := hB.size
  have hv := HV2.out.below hB hlt2
  have HF3 := Lib.hid (HF2.out.below hB HF2.out.lt)
  have HB3 := Lib.hid (HB2.out.trans (hB.mono HB2.out.size))
  have hlt3 := hv.lt
  clear d0 d1 d2 d3 d4 d5 d6 d7
  obtain ⟨d0, d1, d2, d3, d4, d5, d6, d7⟩ := hv.all
  have HV3 := Lib.hid hv
  clear hv hB
  go_wp2_with fail
  refine (HCO.out _).mono ?_
  rintro e w4 ⟨rfl, hB⟩
  have hsz4 := hB.size
  have hv := HV3.out.below hB hlt3
  have HF4 := Lib.hid (HF3.out.below hB HF3.out.lt)
  have HB4 := Lib.hid (HB3.out.trans (hB.mono HB3.out.size))
  have hlt4 := hv.lt
  clear d0 d1 d2 d3 d4 d5 d6 d7
  obtain ⟨d0, d1, d2, d3, d4, d5, d6, d7⟩ := hv.all
  have HV4 := Lib.hid hv
  clear hv hB
  go_wp2_with fail
  clear d0 d1 d2 d3 d4 d5 d6 d7
  go_loopw [10] (fun i wr => ∃ k : Nat, k ≤ l.length ∧ i = .int .i64 k ∧ Below w4.heap.size w4 wr ∧ Hid (kidsO 42 own true l.length k (l.drop k) = z)) (fun i _ => l.length - (intOf i).toNat)
  case atStart => exact ⟨0, Nat.zero_le _, rfl, Below.refl _ _, HZK⟩
  case round =>
    obtain ⟨k, hk, rfl, hBr, hF⟩ := hrel
    have hF2 := hF.out
    clear hF
    have hszr := hBr.size
    obtain ⟨d0, d1, d2, d3, d4, d5, d6, d7⟩ := (HV4.out.below hBr hlt4).all
    have HFr := Lib.hid (HF4.out.below hBr HF4.out.lt)
    have hB0 := HB4.out.trans (hBr.mono HB4.out.size)
    have HBR := Lib.hid hB0
    have HBr := Lib.hid hBr
    by_cases hlt : k < l.length
    · obtain ⟨b, o, rfl, hs, hat⟩ := (HN.out wr (Since.of hB0)).item k hlt
      obtain ⟨ff, ffv, a1, c1, a2, c2, g0, g1, g2, g3, g4, g5, g6, g7, gv, gs⟩ := repNAt_iff.1 hat
      rw [List.drop_eq_getElem_cons hlt, kidsO_eq] at hF2
      have hsize := sizeOf_ndl l k hlt
      have hci := cntL_item l k hlt
      have hcy := cntM_eq l[k]
      have hsy := smallN_get HSM.out k hlt
      generalize l[k] = y at ff ffv g0 g1 g2 g3 g4 g5 g6 g7 gv gs hF2 hsize hci hcy hsy
      have HP := Lib.hid (HPL.out k hlt)
      have hpb := placeI_bd 42 own k l.length
      generalize placeI 42 own k l.length = R at HP hpb hF2
      have HY := Lib.hid fun (w' : World) (h : Since wr w') => IH.out y R true a1 a2 c1 c2 w' (by omega) hpb.1 hpb.2 (by omega) hsy ff ffv (h.rep (Nat.le_refl _) gv) (h.repN (Nat.le_refl _) gs)
      have SS := Lib.hid fun (w' : World) (h : Below wr.heap.size wr w') => (⟨(h.cell (cell_lt d0)).trans d0, (h.cell (cell_lt d1)).trans d1, (h.cell (cell_lt d2)).trans d2, (h.cell (cell_lt d3)).trans d3, (h.cell (cell_lt d4)).trans d4, (h.cell (cell_lt d5)).trans d5, (h.cell (cell_lt d6)).trans d6, (h.cell (cell_lt d7)).trans d7, (h.cell (cell_lt g0)).trans g0, (h.cell (cell_lt g1)).trans g1, (h.cell (cell_lt g2)).trans g2, (h.cell (cell_lt g3)).trans g3, (h.cell (cell_lt g4)).trans g4, (h.cell (cell_lt g5)).trans g5, (h.cell (cell_lt g6)).trans g6, (h.cell (cell_lt g7)).trans g7⟩ : w'.cell? ⟨w.heap.size, 0, none⟩ = some (.int .i64 42) ∧ w'.cell? ⟨w.heap.size, 1, none⟩ = some (.int .i64 line) ∧ w'.cell? ⟨w.heap.size, 2, none⟩ = some (.string s) ∧ w'.cell? ⟨w.heap.size, 3, none⟩ = some (.int .i64 vk) ∧ w'.cell? ⟨w.heap.size, 4, none⟩ = some (.int .i64 vn) ∧ w'.cell? ⟨w.heap.size, 5, none⟩ = some (.string vs) ∧ w'.cell? ⟨w.heap.size, 6, none⟩ = some (.slice a vl.length c) ∧ w'.cell? ⟨w.heap.size, 7, none⟩ = some (.slice (some ⟨b, o, none⟩) l.length c') ∧ w'.cell? ⟨b, o + k * 8, none⟩ = some (.int .i64 y.op) ∧ w'.cell? ⟨b, o + k * 8 + 1, none⟩ = some (.int .i64 y.line) ∧ w'.cell? ⟨b, o + k * 8 + 2, none⟩ = some (.string y.s) ∧ w'.cell? ⟨b, o + k * 8 + 3, none⟩ = some (.int .i64 y.v.kind) ∧ w'.cell? ⟨b, o + k * 8 + 4, none⟩ = some (.int .i64 y.v.n) ∧ w'.cell? ⟨b, o + k * 8 + 5, none⟩ = some (.string y.v.s) ∧ w'.cell? ⟨b, o + k * 8 + 6, none⟩ = some (.slice a1 y.v.l.length c1) ∧ w'.cell? ⟨b, o + k * 8 + 7, none⟩ = some (.slice a2 y.l.length c2))
      generalize oddB y R true = ok at HY hF2
      have HF2 := Lib.hid hF2
      clear hat ff ffv gv gs hB0 hBr hsize hci hcy hs hsy hpb hF2
      go_upto_region 20 with fail
      have hdw : Below wr.heap.size wr wr.drew := (Below.refl _ _).drew
      have hda : Below wr.heap.size wr (wr.alloc (.cells #[.int .i64 0, .bool false, .int .i64 0, .int .i64 0, .int .i64 0, .string ⟨#[]⟩, .slice none 0 0] 48)).drew := (bal wr _).drew
      have hdl : wr.heap.size < (wr.alloc (.cells #[.int .i64 0, .bool false, .int .i64 0, .int .i64 0, .int .i64 0, .string ⟨#[]⟩, .slice none 0 0] 48)).drew.heap.size := by show wr.heap.size < (wr.alloc (.cells #[.int .i64 0, .bool false, .int .i64 0, .int .i64 0, .int .i64 0, .string ⟨#[]⟩, .slice none 0 0] 48)).heap.size; simp
      have hdf : FB (wr.alloc (.cells #[.int .i64 0, .bool false, .int .i64 0, .int .i64 0, .int .i64 0, .string ⟨#[]⟩, .slice none 0 0] 48)).drew wr.heap.size (.int .i64 0) (.bool false) (.int .i64 0) (.int .i64 0) (.int .i64 0) (.string ⟨#[]⟩) (.slice none 0 0) := FB.new wr (.int .i64 0) (.bool false) (.int .i64 0) (.int .i64 0) (.int .i64 0) (.string ⟨#[]⟩) (.slice none 0 0)
      go_cut [11] (fun fp wx => Hid (∃ (g5 : Nat) (fz : Int) (fpl : Bool) (fpos : Int), fp = .pointer (some ⟨g5, 0, none⟩) ∧ FB wx g5 (.int .i64 fz) (.bool fpl) (.int .i64 fpos) (.int .i64 0) (.int .i64 0) (.string ⟨#[]⟩) (.slice none 0 0) ∧ Below wr.heap.size wr wx ∧ ((ok = true ∧ fz = 0) ∨ (ok = false ∧ (fz = 103 ∨ fz = 106)))))
      case first =>
        go_region_held3 (fun w' => w'.cell? ⟨w.heap.size, 0, none⟩ = some (.int .i64 42) ∧ w'.cell? ⟨w.heap.size, 1, none⟩ = some (.int .i64 line) ∧ w'.cell? ⟨w.heap.size, 2, none⟩ = some (.string s) ∧ w'.cell? ⟨w.heap.size, 3, none⟩ = some (.int .i64 vk) ∧ w'.cell? ⟨w.heap.size, 4, none⟩ = some (.int .i64 vn) ∧ w'.cell? ⟨w.heap.size, 5, none⟩ = some (.string vs) ∧ w'.cell? ⟨w.heap.size, 6, none⟩ = some (.slice a vl.length c) ∧ w'.cell? ⟨w.heap.size, 7, none⟩ = some (.slice (some ⟨b, o, none⟩) l.length c') ∧ w'.cell? ⟨b, o + k * 8, none⟩ = some (.int .i64 y.op) ∧ w'.cell? ⟨b, o + k * 8 + 1, none⟩ = some (.int .i64 y.line) ∧ w'.cell? ⟨b, o + k * 8 + 2, none⟩ = some (.string y.s) ∧ w'.cell? ⟨b, o + k * 8 + 3, none⟩ = some (.int .i64 y.v.kind) ∧ w'.cell? ⟨b, o + k * 8 + 4, none⟩ = some (.int .i64 y.v.n) ∧ w'.cell? ⟨b, o + k * 8 + 5, none⟩ = some (.string y.v.s) ∧ w'.cell? ⟨b, o + k * 8 + 6, none⟩ = some (.slice a1 y.v.l.length c1) ∧ w'.cell? ⟨b, o + k * 8 + 7, none⟩ = some (.slice a2 y.l.length c2))
          ((refine SS.out _ ?_; first
            | with_reducible exact hdw
            | with_reducible exact hW4
            | with_reducible exact hW3
            | with_reducible exact below_set7 hW4 hge _ _ _ _ _ _ _
            | with_reducible exact below_set7 (hW4.alloc hW4.size _) hW4.size _ _ _ _ _ _ _
            | with_reducible exact hW4.alloc hW4.size _
            | with_reducible exact hW3.alloc hW3.size _
            | with_reducible exact hda))
          (first
            | (go_at_call 56; refine (HP.out _).mono ?_; rintro e w3 ⟨rfl, hB3⟩; have hW3 : Below wr.heap.size wr w3 := (by first | exact ⟨hB3.os, hB3.tape, hB3.output, hB3.size, hB3.block⟩ | exact hda.trans (hB3.mono (Nat.le_of_lt hdl))))
            | (go_at_call 37; refine (HY.out _ (by first | exact Since.of hW3 | exact Since.of (hW3.alloc hW3.size _))).mono ?_; rintro e w4 ⟨⟨fz, fpl, fpos, rfl, hok⟩, hB4⟩; have hW4 : Below wr.heap.size wr w4 := (by first | exact hW3.trans (hB4.mono hW3.size) | exact (hW3.alloc hW3.size _).trans (hB4.mono (by have := hW3.size; simp; omega)));
                (try (have hfb := (FB.new w3 (.int .i64 0) (.bool false) (.int .i64 0) (.int .i64 0) (.int .i64 0) (.string ⟨#[]⟩) (.slice none 0 0)).below hB4 (by simp); have hge := hW3.size; have HFB := Lib.hid hfb; obtain ⟨q0, q1, q2, q3, q4, q5, q6, r0, r1, r2, r3, r4, r5, r6⟩ := hfb.all));
                (try (have hfb := (hdf.below hB3 hdl).below hB4 (Nat.lt_of_lt_of_le hdl hB3.size); have hge := Nat.le_refl wr.heap.size; have HFB := Lib.hid hfb; obtain ⟨q0, q1, q2, q3, q4, q5, q6, r0, r1, r2, r3, r4, r5, r6⟩ := hfb.all))))
        · go_wp2_with fail
          go_meet
          exact ⟨_, fz, fpl, fpos, rfl, FB.new w4 (.int .i64 fz) (.bool fpl) (.int .i64 fpos) (.int .i64 0) (.int .i64 0) (.string ⟨#[]⟩) (.slice none 0 0), hW4.alloc hW4.size _, hok⟩
        · go_wp2_with fail
          go_meet
          exact ⟨_, fz, fpl, fpos, rfl, HFB.out.set _ _ _ _ _ _ _, below_set7 hW4 hge _ _ _ _ _ _ _, hok⟩
        · go_wp2_with fail
          go_meet
          exact ⟨_, fz, fpl, fpos, rfl, HFB.out.set _ _ _ _ _ _ _, below_set7 hW4 hge _ _ _ _ _ _ _, hok⟩
      case rest =>
        clear d0 d1 d2 d3 d4 d5 d6 d7 g0 g1 g2 g3 g4 g5 g6 g7 HP HY SS hdw hda hdl hdf
        obtain ⟨g5, fz, fpl, fpos, rfl, hfx, hbx, hok⟩ := hcut.out
        have HX := Lib.hid (And.intro hfx hbx)
        clear hfx hbx hcut
        obtain ⟨q0, q1, q2, q3, q4, q5, q6, r0, r1, r2, r3, r4, r5, r6⟩ := HX.out.1.all
        rcases hok with ⟨rfl, rfl⟩ | ⟨rfl, hfz⟩
        · have HF3 : Hid (kidsO 42 own true l.length (k + 1) (l.drop (k + 1)) = z) := by show _ = _; rw [← HF2.out, Bool.true_and]
          go_wp2_with fail
          go_roundw
          case rel => exact ⟨k + 1, by omega, by go_num, HBr.out.trans (HX.out.2.mono hszr), HF3⟩
          case measure => simp [intOf]; omega
        · obtain rfl : z = false := by rw [← HF2.out, Bool.false_and]
          have hv2 := HFr.out.below HX.out.2 HFr.out.lt
          have HV2 := Lib.hid hv2
          have HB3 := Lib.hid (HBR.out.trans (HX.out.2.mono HBR.out.size))
          obtain ⟨c0, c1, c2, c3, c4, c5, c6, f0, f1, f2, f3, f4, f5, f6⟩ := hv2.all
          have hfz1 : (fz != 0) = true := by rcases hfz with rfl | rfl <;> rfl
          have hfz2 : ¬ fz = 0 := by rcases hfz with rfl | rfl <;> decide
          have HFZ := Lib.hid hfz
          clear hv2 hfz
          go_wp2_with fail
          have hset := HV2.out.set (.int .i64 fz) (.bool fpl) (.int .i64 fpos) (.int .i64 0) (.int .i64 0) (.string ⟨#[]⟩) (.slice none 0 0)
          have hbs := below_set7 (g := w.heap.size + 1) HB3.out (Nat.le_succ _) (.int .i64 fz) (.bool fpl) (.int .i64 fpos) (.int .i64 0) (.int .i64 0) (.string ⟨#[]⟩) (.slice none 0 0)
          generalize (((((((wc.setCell ⟨w.heap.size + 1, 0, none⟩ (.int .i64 fz)).setCell ⟨w.heap.size + 1, 1, none⟩ (.bool fpl)).setCell ⟨w.heap.size + 1, 2, none⟩ (.int .i64 fpos)).setCell ⟨w.heap.size + 1, 3, none⟩ (.int .i64 0)).setCell ⟨w.heap.size + 1, 4, none⟩ (.int .i64 0)).setCell ⟨w.heap.size + 1, 5, none⟩ (.string ⟨#[]⟩)).setCell ⟨w.heap.size + 1, 6, none⟩ (.slice none 0 0)) = w6 at hset hbs ⊢
          exact bodyPost_ret (ret37 rfl hset) rfl ⟨⟨fz, fpl, fpos, rfl, .inr ⟨rfl, HFZ.out⟩⟩, hbs⟩
    · rw [List.drop_eq_nil_of_le (by omega), kidsO] at hF2
      subst hF2
      go_wp2_with fail
      refine (HNO.out _).mono ?_
      rintro e w4 ⟨rfl, hB⟩
      have hv2 := HFr.out.below hB HFr.out.lt
      have HV2 := Lib.hid hv2
      have HB3 := Lib.hid (HBR.out.trans (hB.mono HBR.out.size))
      clear d0 d1 d2 d3 d4 d5 d6 d7
      obtain ⟨c0, c1, c2, c3, c4, c5, c6, f0, f1, f2, f3, f4, f5, f6⟩ := hv2.all
      clear hv2 hB
      unfold faultV
      go_wp2_with fail
      have hset := HV2.out.set (.int .i64 0) (.bool false) (.int .i64 0) (.int .i64 0) (.int .i64 0) (.string ⟨#[]⟩) (.slice none 0 0)
      have hbs := below_set7 (g := w.heap.size + 1) HB3.out (Nat.le_succ _) (.int .i64 0) (.bool false) (.int .i64 0) (.int .i64 0) (.int .i64 0) (.string ⟨#[]⟩) (.slice none 0 0)
      generalize (((((((w4.setCell ⟨w.heap.size + 1, 0, none⟩ (.int .i64 0)).setCell ⟨w.heap.size + 1, 1, none⟩ (.bool false)).setCell ⟨w.heap.size + 1, 2, none⟩ (.int .i64 0)).setCell ⟨w.heap.size + 1, 3, none⟩ (.int .i64 0)).setCell ⟨w.heap.size + 1, 4, none⟩ (.int .i64 0)).setCell ⟨w.heap.size + 1, 5, none⟩ (.string ⟨#[]⟩)).setCell ⟨w.heap.size + 1, 6, none⟩ (.slice none 0 0)) = w6 at hset hbs ⊢
      exact bodyPost_ret (ret37 rfl hset) rfl ⟨⟨0, false, 0, rfl, .inl ⟨rfl, rfl⟩⟩, hbs⟩

set_option maxRecDepth 100000 in
set_option maxHeartbeats 40000000 in
theorem odd_forTo (m : Nat) (ih : OddIH m) (x : Nd) (own : Int) (loop : Bool) (a a' : Option Addr) (c c' : Nat) (w : World) (hm : SizeOf.sizeOf x ≤ m + 1) (hr0 : 1 ≤ own) (hr1 : own ≤ 9) (hcnt : cntM x ≤ 4097) (hsm : SmallN x)
    (hf : Fits x.op x.line x.s x.l.length) (hfv : Fits x.v.kind x.v.n x.v.s x.v.l.length) (hR : RepSl (Lo w.heap.size) w a x.v.l) (hN : RepNSl (Lo w.heap.size) w a' x.l) (hcl : x.op = 43) (hp : PassO x own) :
    Calls Tryd.prog 37 #[.agg #[.int .i64 x.op, .int .i64 x.line, .string x.s, .int .i64 x.v.kind, .int .i64 x.v.n, .string x.v.s, .slice a x.v.l.length c, .slice a' x.l.length c'], .int .i64 own, .bool loop] w (NodeOut (oddB x own loop) w) := by
  obtain ⟨op, line, s, ⟨vk, vn, vs, vl⟩, l⟩ := x
  have hsx := sizeOf_nd (.mk op line s (.mk vk vn vs vl) l)
  have hcx := cntM_eq (.mk op line s (.mk vk vn vs vl) l)
  have hz : oddB (.mk op line s (.mk vk vn vs vl) l) own loop = ((shapeO op own loop s (.mk vk vn vs vl) l.length && !(badI op s == 1)) && kidsO op own (loopR op loop) l.length 0 l) := by rw [oddB]
  have hsmv := hsm.2.1
  have hsml := hsm.2.2
  generalize oddB (.mk op line s (.mk vk vn vs vl) l) own loop = z at hz ⊢
  have hlen := cntL_len l
  have hsv := fun (w' : World) => zero_ref (.mk vk vn vs vl) a c w' hfv
  have hrt := fun (w' : World) (h : Since w w') => right_ref (.mk vk vn vs vl) a c w' hfv hsmv (h.rep (Nat.le_refl _) hR)
  have hvb : valB op (.mk vk vn vs vl) = if op = 1 then litB (.mk vk vn vs vl) else zeroB (.mk vk vn vs vl) := rfl
  unfold litB at hvb
  unfold shapeO at hz
  unfold PassO at hp
  dsimp only [Nd.op, Nd.s, Nd.v, Nd.l] at hp
  generalize zeroB (.mk vk vn vs vl) = zb at hsv hvb hp
  generalize (validM (.mk vk vn vs vl)).isNone = vi at hrt hvb
  generalize valB op (.mk vk vn vs vl) = vb at hvb hz
  dsimp only [Nd.op, Nd.line, Nd.s, Nd.v, Nd.l, Val.kind, Val.n, Val.s, Val.l] at hcnt hf hfv hR hN hsx hcx hsv hrt hvb hcl ⊢
  have IH := Lib.hid ih
  clear ih
  have hv := NV.new w (.int .i64 op) (.int .i64 line) (.string s) (.int .i64 vk) (.int .i64 vn) (.string vs) (.slice a vl.length c) (.slice a' l.length c')
  have hal := bal w (.cells #[.int .i64 op, .int .i64 line, .string s, .int .i64 vk, .int .i64 vn, .string vs, .slice a vl.length c, .slice a' l.length c'] 63)
  have hfb := FB.new (w.alloc (.cells #[.int .i64 op, .int .i64 line, .string s, .int .i64 vk, .int .i64 vn, .string vs, .slice a vl.length c, .slice a' l.length c'] 63)) (.int .i64 0) (.bool false) (.int .i64 0) (.int .i64 0) (.int .i64 0) (.string ⟨#[]⟩) (.slice none 0 0)
  rw [show (w.alloc (.cells #[.int .i64 op, .int .i64 line, .string s, .int .i64 vk, .int .i64 vn, .string vs, .slice a vl.length c, .slice a' l.length c'] 63)).heap.size = w.heap.size + 1 by simp] at hfb
  have hal := hal.trans ((bal (w.alloc (.cells #[.int .i64 op, .int .i64 line, .string s, .int .i64 vk, .int .i64 vn, .string vs, .slice a vl.length c, .slice a' l.length c'] 63)) (.cells #[.int .i64 0, .bool false, .int .i64 0, .int .i64 0, .int .i64 0, .string ⟨#[]⟩, .slice none 0 0] 48)).mono (by simp))
  have hv := hv.below (bal _ (.cells #[.int .i64 0, .bool false, .int .i64 0, .int .i64 0, .int .i64 0, .string ⟨#[]⟩, .slice none 0 0] 48)) hv.lt
  have HSV := Lib.hid hsv
  have HRT := Lib.hid hrt
  have HNA := Lib.hid fun (w' : World) => named_ref op s (.int .i64 line) (.int .i64 vk) (.int .i64 vn) (.string vs) (.slice a vl.length c) (.slice a' l.length c') w' hf.1 hf.2.1 hf.2.2.2.2.1
  have HST := Lib.hid fun (w' : World) => stands_ref op own hr0 hr1 w' hf.1 hf.2.1
  have HCO := Lib.hid fun (w' : World) => counts_ref op l.length (by omega) w' hf.1 hf.2.1
  have HPS := Lib.hid fun (w' : World) => placed_shape line w'
  have HPN := Lib.hid fun (w' : World) => placed_name line w'
  have HNO := Lib.hid fun (w' : World) => none_any w'
  have HPL := Lib.hid fun (i : Nat) (hi : i < l.length) (w' : World) => place_ref op own i l.length hi (by omega) (.int .i64 line) (.string s) (.int .i64 vk) (.int .i64 vn) (.string vs) (.slice a vl.length c) a' c' w' hf.1 hf.2.1
  have HN := Lib.hid fun (w' : World) (h : Since w w') => h.repN (Nat.le_refl _) hN
  have HB0 := Lib.hid hal
  obtain ⟨d0, d1, d2, d3, d4, d5, d6, d7⟩ := hv.all
  have hlt0 := hv.lt
  have HV0 := Lib.hid hv
  have HF0 := Lib.hid hfb
  have HSM := Lib.hid hsml
  have HNK := Lib.hid fun (h : op = 1 ∨ op = 45 ∨ op = 46) => @no_kids op l.length h
  generalize hst : standsR op own = st at HST hz hp
  generalize hct : countsB op l.length = ct at HCO hz HNK hp
  generalize hbd : badI op s = bd at HNA hz hp
  have HZ := Lib.hid hz
  clear hv hal hfb hR hN hf hfv hsm hsmv hsml hz hsv hrt hst hct hbd
  obtain rfl : op = 43 := hcl
  rw [if_neg (by decide)] at hvb
  obtain ⟨rfl, rfl, rfl, hb2, hb1⟩ := hp
  subst hvb
  have hb1' : (bd == 1) = false := by simp [hb1]
  have hb2' : (bd == 2) = false := by simp [hb2]
  have hz : z = kidsO 43 own true l.length 0 l := by rw [HZ.out]; simp [loopR, awayB, *]
  have HZK := Lib.hid hz.symm
  clear HZ hz
  go_enter Tryd.func37, Tryd.ntmps37
  go_wp2_with fail
  refine (HSV.out _).mono ?_
  rintro e w1 ⟨rfl, hB⟩
  have hsz1 := hB.size
  have hv := HV0.out.below hB hlt0
  have HF1 := Lib.hid (HF0.out.below hB HF0.out.lt)
  have HB1 := Lib.hid (HB0.out.trans (hB.mono HB0.out.size))
  have hlt1 := hv.lt
  clear d0 d1 d2 d3 d4 d5 d6 d7
  obtain ⟨d0, d1, d2, d3, d4, d5, d6, d7⟩ := hv.all
  have HV1 := Lib.hid hv
  clear hv hB
  go_wp2_with fail
  refine (HNA.out _).mono ?_
  rintro e w2 ⟨rfl, hB⟩
  have hsz2 := hB.size
  have hv := HV1.out.below hB hlt1
  have HF2 := Lib.hid (HF1.out.below hB HF1.out.lt)
  have HB2 := Lib.hid (HB1.out.trans (hB.mono HB1.out.size))
  have hlt2 := hv.lt
  clear d0 d1 d2 d3 d4 d5 d6 d7
  obtain ⟨d0, d1, d2, d3, d4, d5, d6, d7⟩ := hv.all
  have HV2 := Lib.hid hv
  clear hv hB
  go_wp2_with fail
  refine (HST.out _).mono ?_
  rintro e w3 ⟨rfl, hB⟩
  have hsz3 := hB.size
  have hv := HV2.out.below hB hlt2
  have HF3 := Lib.hid (HF2.out.below hB HF2.out.lt)
  have HB3 := Lib.hid (HB2.out.trans (hB.mono HB2.out.size))
  have hlt3 := hv.lt
  clear d0 d1 d2 d3 d4 d5 d6 d7
  obtain ⟨d0, d1, d2, d3, d4, d5, d6, d7⟩ := hv.all
  have HV3 := Lib.hid hv
  clear hv hB
  go_wp2_with fail
  refine (HCO.out _).mono ?_
  rintro e w4 ⟨rfl, hB⟩
  have hsz4 := hB.size
  have hv := HV3.out.below hB hlt3
  have HF4 := Lib.hid (HF3.out.below hB HF3.out.lt)
  have HB4 := Lib.hid (HB3.out.trans (hB.mono HB3.out.size))
  have hlt4 := hv.lt
  clear d0 d1 d2 d3 d4 d5 d6 d7
  obtain ⟨d0, d1, d2, d3, d4, d5, d6, d7⟩ := hv.all
  have HV4 := Lib.hid hv
  clear hv hB
  go_wp2_with fail
  clear d0 d1 d2 d3 d4 d5 d6 d7
  go_loopw [10] (fun i wr => ∃ k : Nat, k ≤ l.length ∧ i = .int .i64 k ∧ Below w4.heap.size w4 wr ∧ Hid (kidsO 43 own true l.length k (l.drop k) = z)) (fun i _ => l.length - (intOf i).toNat)
  case atStart => exact ⟨0, Nat.zero_le _, rfl, Below.refl _ _, HZK⟩
  case round =>
    obtain ⟨k, hk, rfl, hBr, hF⟩ := hrel
    have hF2 := hF.out
    clear hF
    have hszr := hBr.size
    obtain ⟨d0, d1, d2, d3, d4, d5, d6, d7⟩ := (HV4.out.below hBr hlt4).all
    have HFr := Lib.hid (HF4.out.below hBr HF4.out.lt)
    have hB0 := HB4.out.trans (hBr.mono HB4.out.size)
    have HBR := Lib.hid hB0
    have HBr := Lib.hid hBr
    by_cases hlt : k < l.length
    · obtain ⟨b, o, rfl, hs, hat⟩ := (HN.out wr (Since.of hB0)).item k hlt
      obtain ⟨ff, ffv, a1, c1, a2, c2, g0, g1, g2, g3, g4, g5, g6, g7, gv, gs⟩ := repNAt_iff.1 hat
      rw [List.drop_eq_getElem_cons hlt, kidsO_eq] at hF2
      have hsize := sizeOf_ndl l k hlt
      have hci := cntL_item l k hlt
      have hcy := cntM_eq l[k]
      have hsy := smallN_get HSM.out k hlt
      generalize l[k] = y at ff ffv g0 g1 g2 g3 g4 g5 g6 g7 gv gs hF2 hsize hci hcy hsy
      have HP := Lib.hid (HPL.out k hlt)
      have hpb := placeI_bd 43 own k l.length
      generalize placeI 43 own k l.length = R at HP hpb hF2
      have HY := Lib.hid fun (w' : World) (h : Since wr w') => IH.out y R true a1 a2 c1 c2 w' (by omega) hpb.1 hpb.2 (by omega) hsy ff ffv (h.rep (Nat.le_refl _) gv) (h.repN (Nat.le_refl _) gs)
      have SS := Lib.hid fun (w' : World) (h : Below wr.heap.size wr w') => (⟨(h.cell (cell_lt d0)).trans d0, (h.cell (cell_lt d1)).trans d1, (h.cell (cell_lt d2)).trans d2, (h.cell (cell_lt d3)).trans d3, (h.cell (cell_lt d4)).trans d4, (h.cell (cell_lt d5)).trans d5, (h.cell (cell_lt d6)).trans d6, (h.cell (cell_lt d7)).trans d7, (h.cell (cell_lt g0)).trans g0, (h.cell (cell_lt g1)).trans g1, (h.cell (cell_lt g2)).trans g2, (h.cell (cell_lt g3)).trans g3, (h.cell (cell_lt g4)).trans g4, (h.cell (cell_lt g5)).trans g5, (h.cell (cell_lt g6)).trans g6, (h.cell (cell_lt g7)).trans g7⟩ : w'.cell? ⟨w.heap.size, 0, none⟩ = some (.int .i64 43) ∧ w'.cell? ⟨w.heap.size, 1, none⟩ = some (.int .i64 line) ∧ w'.cell? ⟨w.heap.size, 2, none⟩ = some (.string s) ∧ w'.cell? ⟨w.heap.size, 3, none⟩ = some (.int .i64 vk) ∧ w'.cell? ⟨w.heap.size, 4, none⟩ = some (.int .i64 vn) ∧ w'.cell? ⟨w.heap.size, 5, none⟩ = some (.string vs) ∧ w'.cell? ⟨w.heap.size, 6, none⟩ = some (.slice a vl.length c) ∧ w'.cell? ⟨w.heap.size, 7, none⟩ = some (.slice (some ⟨b, o, none⟩) l.length c') ∧ w'.cell? ⟨b, o + k * 8, none⟩ = some (.int .i64 y.op) ∧ w'.cell? ⟨b, o + k * 8 + 1, none⟩ = some (.int .i64 y.line) ∧ w'.cell? ⟨b, o + k * 8 + 2, none⟩ = some (.string y.s) ∧ w'.cell? ⟨b, o + k * 8 + 3, none⟩ = some (.int .i64 y.v.kind) ∧ w'.cell? ⟨b, o + k * 8 + 4, none⟩ = some (.int .i64 y.v.n) ∧ w'.cell? ⟨b, o + k * 8 + 5, none⟩ = some (.string y.v.s) ∧ w'.cell? ⟨b, o + k * 8 + 6, none⟩ = some (.slice a1 y.v.l.length c1) ∧ w'.cell? ⟨b, o + k * 8 + 7, none⟩ = some (.slice a2 y.l.length c2))
      generalize oddB y R true = ok at HY hF2
      have HF2 := Lib.hid hF2
      clear hat ff ffv gv gs hB0 hBr hsize hci hcy hs hsy hpb hF2
      go_upto_region 20 with fail
      have hdw : Below wr.heap.size wr wr.drew := (Below.refl _ _).drew
      have hda : Below wr.heap.size wr (wr.alloc (.cells #[.int .i64 0, .bool false, .int .i64 0, .int .i64 0, .int .i64 0, .string ⟨#[]⟩, .slice none 0 0] 48)).drew := (bal wr _).drew
      have hdl : wr.heap.size < (wr.alloc (.cells #[.int .i64 0, .bool false, .int .i64 0, .int .i64 0, .int .i64 0, .string ⟨#[]⟩, .slice none 0 0] 48)).drew.heap.size := by show wr.heap.size < (wr.alloc (.cells #[.int .i64 0, .bool false, .int .i64 0, .int .i64 0, .int .i64 0, .string ⟨#[]⟩, .slice none 0 0] 48)).heap.size; simp
      have hdf : FB (wr.alloc (.cells #[.int .i64 0, .bool false, .int .i64 0, .int .i64 0, .int .i64 0, .string ⟨#[]⟩, .slice none 0 0] 48)).drew wr.heap.size (.int .i64 0) (.bool false) (.int .i64 0) (.int .i64 0) (.int .i64 0) (.string ⟨#[]⟩) (.slice none 0 0) := FB.new wr (.int .i64 0) (.bool false) (.int .i64 0) (.int .i64 0) (.int .i64 0) (.string ⟨#[]⟩) (.slice none 0 0)
      go_cut [11] (fun fp wx => Hid (∃ (g5 : Nat) (fz : Int) (fpl : Bool) (fpos : Int), fp = .pointer (some ⟨g5, 0, none⟩) ∧ FB wx g5 (.int .i64 fz) (.bool fpl) (.int .i64 fpos) (.int .i64 0) (.int .i64 0) (.string ⟨#[]⟩) (.slice none 0 0) ∧ Below wr.heap.size wr wx ∧ ((ok = true ∧ fz = 0) ∨ (ok = false ∧ (fz = 103 ∨ fz = 106)))))
      case first =>
        go_region_held3 (fun w' => w'.cell? ⟨w.heap.size, 0, none⟩ = some (.int .i64 43) ∧ w'.cell? ⟨w.heap.size, 1, none⟩ = some (.int .i64 line) ∧ w'.cell? ⟨w.heap.size, 2, none⟩ = some (.string s) ∧ w'.cell? ⟨w.heap.size, 3, none⟩ = some (.int .i64 vk) ∧ w'.cell? ⟨w.heap.size, 4, none⟩ = some (.int .i64 vn) ∧ w'.cell? ⟨w.heap.size, 5, none⟩ = some (.string vs) ∧ w'.cell? ⟨w.heap.size, 6, none⟩ = some (.slice a vl.length c) ∧ w'.cell? ⟨w.heap.size, 7, none⟩ = some (.slice (some ⟨b, o, none⟩) l.length c') ∧ w'.cell? ⟨b, o + k * 8, none⟩ = some (.int .i64 y.op) ∧ w'.cell? ⟨b, o + k * 8 + 1, none⟩ = some (.int .i64 y.line) ∧ w'.cell? ⟨b, o + k * 8 + 2, none⟩ = some (.string y.s) ∧ w'.cell? ⟨b, o + k * 8 + 3, none⟩ = some (.int .i64 y.v.kind) ∧ w'.cell? ⟨b, o + k * 8 + 4, none⟩ = some (.int .i64 y.v.n) ∧ w'.cell? ⟨b, o + k * 8 + 5, none⟩ = some (.string y.v.s) ∧ w'.cell? ⟨b, o + k * 8 + 6, none⟩ = some (.slice a1 y.v.l.length c1) ∧ w'.cell? ⟨b, o + k * 8 + 7, none⟩ = some (.slice a2 y.l.length c2))
          ((refine SS.out _ ?_; first
            | with_reducible exact hdw
            | with_reducible exact hW4
            | with_reducible exact hW3
            | with_reducible exact below_set7 hW4 hge _ _ _ _ _ _ _
            | with_reducible exact below_set7 (hW4.alloc hW4.size _) hW4.size _ _ _ _ _ _ _
            | with_reducible exact hW4.alloc hW4.size _
            | with_reducible exact hW3.alloc hW3.size _
            | with_reducible exact hda))
          (first
            | (go_at_call 56; refine (HP.out _).mono ?_; rintro e w3 ⟨rfl, hB3⟩; have hW3 : Below wr.heap.size wr w3 := (by first | exact ⟨hB3.os, hB3.tape, hB3.output, hB3.size, hB3.block⟩ | exact hda.trans (hB3.mono (Nat.le_of_lt hdl))))
            | (go_at_call 37; refine (HY.out _ (by first | exact Since.of hW3 | exact Since.of (hW3.alloc hW3.size _))).mono ?_; rintro e w4 ⟨⟨fz, fpl, fpos, rfl, hok⟩, hB4⟩; have hW4 : Below wr.heap.size wr w4 := (by first | exact hW3.trans (hB4.mono hW3.size) | exact (hW3.alloc hW3.size _).trans (hB4.mono (by have := hW3.size; simp; omega)));
                (try (have hfb := (FB.new w3 (.int .i64 0) (.bool false) (.int .i64 0) (.int .i64 0) (.int .i64 0) (.string ⟨#[]⟩) (.slice none 0 0)).below hB4 (by simp); have hge := hW3.size; have HFB := Lib.hid hfb; obtain ⟨q0, q1, q2, q3, q4, q5, q6, r0, r1, r2, r3, r4, r5, r6⟩ := hfb.all));
                (try (have hfb := (hdf.below hB3 hdl).below hB4 (Nat.lt_of_lt_of_le hdl hB3.size); have hge := Nat.le_refl wr.heap.size; have HFB := Lib.hid hfb; obtain ⟨q0, q1, q2, q3, q4, q5, q6, r0, r1, r2, r3, r4, r5, r6⟩ := hfb.all))))
        · go_wp2_with fail
          go_meet
          exact ⟨_, fz, fpl, fpos, rfl, FB.new w4 (.int .i64 fz) (.bool fpl) (.int .i64 fpos) (.int .i64 0) (.int .i64 0) (.string ⟨#[]⟩) (.slice none 0 0), hW4.alloc hW4.size _, hok⟩
        · go_wp2_with fail
          go_meet
          exact ⟨_, fz, fpl, fpos, rfl, HFB.out.set _ _ _ _ _ _ _, below_set7 hW4 hge _ _ _ _ _ _ _, hok⟩
        · go_wp2_with fail
          go_meet
          exact ⟨_, fz, fpl, fpos, rfl, HFB.out.set _ _ _ _ _ _ _, below_set7 hW4 hge _ _ _ _ _ _ _, hok⟩
      case rest =>
        clear d0 d1 d2 d3 d4 d5 d6 d7 g0 g1 g2 g3 g4 g5 g6 g7 HP HY SS hdw hda hdl hdf
        obtain ⟨g5, fz, fpl, fpos, rfl, hfx, hbx, hok⟩ := hcut.out
        have HX := Lib.hid (And.intro hfx hbx)
        clear hfx hbx hcut
        obtain ⟨q0, q1, q2, q3, q4, q5, q6, r0, r1, r2, r3, r4, r5, r6⟩ := HX.out.1.all
        rcases hok with ⟨rfl, rfl⟩ | ⟨rfl, hfz⟩
        · have HF3 : Hid (kidsO 43 own true l.length (k + 1) (l.drop (k + 1)) = z) := by show _ = _; rw [← HF2.out, Bool.true_and]
          go_wp2_with fail
          go_roundw
          case rel => exact ⟨k + 1, by omega, by go_num, HBr.out.trans (HX.out.2.mono hszr), HF3⟩
          case measure => simp [intOf]; omega
        · obtain rfl : z = false := by rw [← HF2.out, Bool.false_and]
          have hv2 := HFr.out.below HX.out.2 HFr.out.lt
          have HV2 := Lib.hid hv2
          have HB3 := Lib.hid (HBR.out.trans (HX.out.2.mono HBR.out.size))
          obtain ⟨c0, c1, c2, c3, c4, c5, c6, f0, f1, f2, f3, f4, f5, f6⟩ := hv2.all
          have hfz1 : (fz != 0) = true := by rcases hfz with rfl | rfl <;> rfl
          have hfz2 : ¬ fz = 0 := by rcases hfz with rfl | rfl <;> decide
          have HFZ := Lib.hid hfz
          clear hv2 hfz
          go_wp2_with fail
          have hset := HV2.out.set (.int .i64 fz) (.bool fpl) (.int .i64 fpos) (.int .i64 0) (.int .i64 0) (.string ⟨#[]⟩) (.slice none 0 0)
          have hbs := below_set7 (g := w.heap.size + 1) HB3.out (Nat.le_succ _) (.int .i64 fz) (.bool fpl) (.int .i64 fpos) (.int .i64 0) (.int .i64 0) (.string ⟨#[]⟩) (.slice none 0 0)
          generalize (((((((wc.setCell ⟨w.heap.size + 1, 0, none⟩ (.int .i64 fz)).setCell ⟨w.heap.size + 1, 1, none⟩ (.bool fpl)).setCell ⟨w.heap.size + 1, 2, none⟩ (.int .i64 fpos)).setCell ⟨w.heap.size + 1, 3, none⟩ (.int .i64 0)).setCell ⟨w.heap.size + 1, 4, none⟩ (.int .i64 0)).setCell ⟨w.heap.size + 1, 5, none⟩ (.string ⟨#[]⟩)).setCell ⟨w.heap.size + 1, 6, none⟩ (.slice none 0 0)) = w6 at hset hbs ⊢
          exact bodyPost_ret (ret37 rfl hset) rfl ⟨⟨fz, fpl, fpos, rfl, .inr ⟨rfl, HFZ.out⟩⟩, hbs⟩
    · rw [List.drop_eq_nil_of_le (by omega), kidsO] at hF2
      subst hF2
      go_wp2_with fail
      refine (HNO.out _).mono ?_
      rintro e w4 ⟨rfl, hB⟩
      have hv2 := HFr.out.below hB HFr.out.lt
      have HV2 := Lib.hid hv2
      have HB3 := Lib.hid (HBR.out.trans (hB.mono HBR.out.size))
      clear d0 d1 d2 d3 d4 d5 d6 d7
      obtain ⟨c0, c1, c2, c3, c4, c5, c6, f0, f1, f2, f3, f4, f5, f6⟩ := hv2.all
      clear hv2 hB
      unfold faultV
      go_wp2_with fail
      have hset := HV2.out.set (.int .i64 0) (.bool false) (.int .i64 0) (.int .i64 0) (.int .i64 0) (.string ⟨#[]⟩) (.slice none 0 0)
      have hbs := below_set7 (g := w.heap.size + 1) HB3.out (Nat.le_succ _) (.int .i64 0) (.bool false) (.int .i64 0) (.int .i64 0) (.int .i64 0) (.string ⟨#[]⟩) (.slice none 0 0)
      generalize (((((((w4.setCell ⟨w.heap.size + 1, 0, none⟩ (.int .i64 0)).setCell ⟨w.heap.size + 1, 1, none⟩ (.bool false)).setCell ⟨w.heap.size + 1, 2, none⟩ (.int .i64 0)).setCell ⟨w.heap.size + 1, 3, none⟩ (.int .i64 0)).setCell ⟨w.heap.size + 1, 4, none⟩ (.int .i64 0)).setCell ⟨w.heap.size + 1, 5, none⟩ (.string ⟨#[]⟩)).setCell ⟨w.heap.size + 1, 6, none⟩ (.slice none 0 0)) = w6 at hset hbs ⊢
      exact bodyPost_ret (ret37 rfl hset) rfl ⟨⟨0, false, 0, rfl, .inl ⟨rfl, rfl⟩⟩, hbs⟩
end Go.Proofs.YtmkghfkikclodaaDoor
