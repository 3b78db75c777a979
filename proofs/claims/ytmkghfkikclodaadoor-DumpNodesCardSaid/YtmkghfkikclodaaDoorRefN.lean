/- The document's word on a literal. -/
import Derived.Test.YtmkghfkikclodaaDoorRefF
set_option linter.unusedVariables false
set_option linter.unusedSimpArgs false
namespace Go.Proofs.YtmkghfkikclodaaDoor
open Go.RowKit

set_option maxRecDepth 100000 in
set_option maxHeartbeats 40000000 in
theorem odd_lit_yes (m : Nat) (ih : OddIH m) (x : Nd) (own : Int) (loop : Bool) (a a' : Option Addr) (c c' : Nat) (w : World) (hm : SizeOf.sizeOf x ≤ m + 1) (hr0 : 1 ≤ own) (hr1 : own ≤ 9) (hcnt : cntM x ≤ 4097) (hsm : SmallN x)
    (hf : Fits x.op x.line x.s x.l.length) (hfv : Fits x.v.kind x.v.n x.v.s x.v.l.length) (hR : RepSl (Lo w.heap.size) w a x.v.l) (hN : RepNSl (Lo w.heap.size) w a' x.l) (hcl : x.op = 1) (hx : litB x.v = true) :
    Calls Tryd.prog 37 #[.agg #[.int .i64 x.op, .int .i64 x.line, .string x.s, .int .i64 x.v.kind, .int .i64 x.v.n, .string x.v.s, .slice a x.v.l.length c, .slice a' x.l.length c'], .int .i64 own, .bool loop] w (NodeOut (oddB x own loop) w) := by
  obtain ⟨op, line, s, ⟨vk, vn, vs, vl⟩, l⟩ := x
  have hsx := sizeOf_nd (.mk op line s (.mk vk vn vs vl) l)
  have hcx := cntM_eq (.mk op line s (.mk vk vn vs vl) l)
  have hz : oddB (.mk op line s (.mk vk vn vs vl) l) own loop = ((shapeO op own loop s (.mk vk vn vs vl) l.length && !(badI op s == 1)) && kidsO op own (loopR op loop) l.length 0 l) := by rw [oddB]
  have hsmv := hsm.2.1
  have hsml := hsm.2.2
  generalize oddB (.mk op line s (.mk vk vn vs vl) l) own loop = z at hz ⊢
  have hlen := cntL_len l
  have hsv := fun (w' : World) => zero_ref (.mk vk vn vs vl) a c w' hfv
  have hrt := fun (w' : World) (h : Since w w') => right_ref (.mk vk vn vs vl) a c w' hfv hsmv (h.rep (Nat.le_refl _) hR)
  have hvb : valB op (.mk vk vn vs vl) = if op = 1 then litB (.mk vk vn vs vl) else zeroB (.mk vk vn vs vl) := rfl
  unfold litB at hvb
  unfold shapeO at hz
  generalize zeroB (.mk vk vn vs vl) = zb at hsv hvb 
  dsimp only [Nd.v] at hx
  unfold litB at hx
  generalize (validM (.mk vk vn vs vl)).isNone = vi at hrt hvb hx
  generalize valB op (.mk vk vn vs vl) = vb at hvb hz
  dsimp only [Nd.op, Nd.line, Nd.s, Nd.v, Nd.l, Val.kind, Val.n, Val.s, Val.l] at hcnt hf hfv hR hN hsx hcx hsv hrt hvb hcl hx ⊢
  have IH := Lib.hid ih
  clear ih
  have hv := NV.new w (.int .i64 op) (.int .i64 line) (.string s) (.int .i64 vk) (.int .i64 vn) (.string vs) (.slice a vl.length c) (.slice a' l.length c')
  have hal := bal w (.cells #[.int .i64 op, .int .i64 line, .string s, .int .i64 vk, .int .i64 vn, .string vs, .slice a vl.length c, .slice a' l.length c'] 63)
  have hfb := FB.new (w.alloc (.cells #[.int .i64 op, .int .i64 line, .string s, .int .i64 vk, .int .i64 vn, .string vs, .slice a vl.length c, .slice a' l.length c'] 63)) (.int .i64 0) (.bool false) (.int .i64 0) (.int .i64 0) (.int .i64 0) (.string ⟨#[]⟩) (.slice none 0 0)
  rw [show (w.alloc (.cells #[.int .i64 op, .int .i64 line, .string s, .int .i64 vk, .int .i64 vn, .string vs, .slice a vl.length c, .slice a' l.length c'] 63)).heap.size = w.heap.size + 1 by simp] at hfb
  have hal := hal.trans ((bal (w.alloc (.cells #[.int .i64 op, .int .i64 line, .string s, .int .i64 vk, .int .i64 vn, .string vs, .slice a vl.length c, .slice a' l.length c'] 63)) (.cells #[.int .i64 0, .bool false, .int .i64 0, .int .i64 0, .int .i64 0, .string ⟨#[]⟩, .slice none 0 0] 48)).mono (by simp))
  have hv := hv.below (bal _ (.cells #[.int .i64 0, .bool false, .int .i64 0, .int .i64 0, .int .i64 0, .string ⟨#[]⟩, .slice none 0 0] 48)) hv.lt
  have HSV := Lib.hid hsv
  have HRT := Lib.hid hrt
  have HNA := Lib.hid fun (w' : World) => named_ref op s (.int .i64 line) (.int .i64 vk) (.int .i64 vn) (.string vs) (.slice a vl.length c) (.slice a' l.length c') w' hf.1 hf.2.1 hf.2.2.2.2.1
  have HST := Lib.hid fun (w' : World) => stands_ref op own hr0 hr1 w' hf.1 hf.2.1
  have HCO := Lib.hid fun (w' : World) => counts_ref op l.length (by omega) w' hf.1 hf.2.1
  have HPS := Lib.hid fun (w' : World) => placed_shape line w'
  have HPN := Lib.hid fun (w' : World) => placed_name line w'
  have HNO := Lib.hid fun (w' : World) => none_any w'
  have HPL := Lib.hid fun (i : Nat) (hi : i < l.length) (w' : World) => place_ref op own i l.length hi (by omega) (.int .i64 line) (.string s) (.int .i64 vk) (.int .i64 vn) (.string vs) (.slice a vl.length c) a' c' w' hf.1 hf.2.1
  have HN := Lib.hid fun (w' : World) (h : Since w w') => h.repN (Nat.le_refl _) hN
  have HB0 := Lib.hid hal
  obtain ⟨d0, d1, d2, d3, d4, d5, d6, d7⟩ := hv.all
  have hlt0 := hv.lt
  have HV0 := Lib.hid hv
  have HF0 := Lib.hid hfb
  have HSM := Lib.hid hsml
  have HNK := Lib.hid fun (h : op = 1 ∨ op = 45 ∨ op = 46) => @no_kids op l.length h
  generalize hst : standsR op own = st at HST hz 
  generalize hct : countsB op l.length = ct at HCO hz HNK 
  generalize hbd : badI op s = bd at HNA hz 
  have HZ := Lib.hid hz
  clear hv hal hfb hR hN hf hfv hsm hsmv hsml hz hsv hrt hst hct hbd
  obtain rfl : op = 1 := hcl
  cases vi
  · replace hvb : vb = false := by rw [hvb]; simp
    exact absurd hx (by simp [])
  · by_cases hk4 : vk = 4
    · subst hk4
      replace hvb : vb = false := by rw [hvb]; simp
      exact absurd hx (by simp [])
    · have hk4' : (vk == 4) = false := by simp [hk4]
      have hk42 : (vk != 4) = true := by simp [hk4]
      by_cases hk0 : vk = 0
      · subst hk0
        by_cases hn : vn = -9223372036854775808
        · subst hn
          replace hvb : vb = false := by rw [hvb]; simp
          exact absurd hx (by simp [])
        · have hn' : (vn == -9223372036854775808) = false := by simp [hn]
          have hn2 : (vn != -9223372036854775808) = true := by simp [hn]
          replace hvb : vb = true := by rw [hvb]; simp [*]
          cases st
          · skip
            obtain rfl : z = false := by rw [HZ.out]; simp [awayB, *]
            clear HZ
            go_enter Tryd.func37, Tryd.ntmps37
            go_wp2_with fail
            refine (HSV.out _).mono ?_
            rintro e w1 ⟨rfl, hB⟩
            have hsz1 := hB.size
            have hv := HV0.out.below hB hlt0
            have HF1 := Lib.hid (HF0.out.below hB HF0.out.lt)
            have HB1 := Lib.hid (HB0.out.trans (hB.mono HB0.out.size))
            have hlt1 := hv.lt
            clear d0 d1 d2 d3 d4 d5 d6 d7
            obtain ⟨d0, d1, d2, d3, d4, d5, d6, d7⟩ := hv.all
            have HV1 := Lib.hid hv
            clear hv hB
            go_wp2_with fail
            refine (HRT.out _ (Since.of HB1.out)).mono ?_
            rintro e w2 ⟨rfl, hB⟩
            have hsz2 := hB.size
            have hv := HV1.out.below hB hlt1
            have HF2 := Lib.hid (HF1.out.below hB HF1.out.lt)
            have HB2 := Lib.hid (HB1.out.trans (hB.mono HB1.out.size))
            have hlt2 := hv.lt
            clear d0 d1 d2 d3 d4 d5 d6 d7
            obtain ⟨d0, d1, d2, d3, d4, d5, d6, d7⟩ := hv.all
            have HV2 := Lib.hid hv
            clear hv hB
            go_wp2_with fail
            refine (HNA.out _).mono ?_
            rintro e w3 ⟨rfl, hB⟩
            have hsz3 := hB.size
            have hv := HV2.out.below hB hlt2
            have HF3 := Lib.hid (HF2.out.below hB HF2.out.lt)
            have HB3 := Lib.hid (HB2.out.trans (hB.mono HB2.out.size))
            have hlt3 := hv.lt
            clear d0 d1 d2 d3 d4 d5 d6 d7
            obtain ⟨d0, d1, d2, d3, d4, d5, d6, d7⟩ := hv.all
            have HV3 := Lib.hid hv
            clear hv hB
            go_wp2_with fail
            refine (HST.out _).mono ?_
            rintro e w4 ⟨rfl, hB⟩
            have hsz4 := hB.size
            have hv := HV3.out.below hB hlt3
            have HF4 := Lib.hid (HF3.out.below hB HF3.out.lt)
            have HB4 := Lib.hid (HB3.out.trans (hB.mono HB3.out.size))
            have hlt4 := hv.lt
            clear d0 d1 d2 d3 d4 d5 d6 d7
            obtain ⟨d0, d1, d2, d3, d4, d5, d6, d7⟩ := hv.all
            have HV4 := Lib.hid hv
            clear hv hB
            go_wp2_with fail
            refine (HPS.out _).mono ?_
            rintro e w5 ⟨pl, pos, rfl, hB⟩
            have hv2 := HF4.out.below hB HF4.out.lt
            have HV2 := Lib.hid hv2
            have HB3 := Lib.hid (HB4.out.trans (hB.mono HB4.out.size))
            clear d0 d1 d2 d3 d4 d5 d6 d7
            obtain ⟨c0, c1, c2, c3, c4, c5, c6, f0, f1, f2, f3, f4, f5, f6⟩ := hv2.all
            clear hv2 hB
            go_wp2_with fail
            have hset := HV2.out.set (.int .i64 103) (.bool pl) (.int .i64 pos) (.int .i64 0) (.int .i64 0) (.string ⟨#[]⟩) (.slice none 0 0)
            have hbs := below_set7 (g := w.heap.size + 1) HB3.out (Nat.le_succ _) (.int .i64 103) (.bool pl) (.int .i64 pos) (.int .i64 0) (.int .i64 0) (.string ⟨#[]⟩) (.slice none 0 0)
            generalize (((((((w5.setCell ⟨w.heap.size + 1, 0, none⟩ (.int .i64 103)).setCell ⟨w.heap.size + 1, 1, none⟩ (.bool pl)).setCell ⟨w.heap.size + 1, 2, none⟩ (.int .i64 pos)).setCell ⟨w.heap.size + 1, 3, none⟩ (.int .i64 0)).setCell ⟨w.heap.size + 1, 4, none⟩ (.int .i64 0)).setCell ⟨w.heap.size + 1, 5, none⟩ (.string ⟨#[]⟩)).setCell ⟨w.heap.size + 1, 6, none⟩ (.slice none 0 0)) = w6 at hset hbs ⊢
            exact bodyPost_ret (ret37 rfl hset) rfl ⟨⟨103, pl, pos, rfl, .inr ⟨rfl, .inl rfl⟩⟩, hbs⟩
          · cases ct
            · skip
              obtain rfl : z = false := by rw [HZ.out]; simp [awayB, *]
              clear HZ
              go_enter Tryd.func37, Tryd.ntmps37
              go_wp2_with fail
              refine (HSV.out _).mono ?_
              rintro e w1 ⟨rfl, hB⟩
              have hsz1 := hB.size
              have hv := HV0.out.below hB hlt0
              have HF1 := Lib.hid (HF0.out.below hB HF0.out.lt)
              have HB1 := Lib.hid (HB0.out.trans (hB.mono HB0.out.size))
              have hlt1 := hv.lt
              clear d0 d1 d2 d3 d4 d5 d6 d7
              obtain ⟨d0, d1, d2, d3, d4, d5, d6, d7⟩ := hv.all
              have HV1 := Lib.hid hv
              clear hv hB
              go_wp2_with fail
              refine (HRT.out _ (Since.of HB1.out)).mono ?_
              rintro e w2 ⟨rfl, hB⟩
              have hsz2 := hB.size
              have hv := HV1.out.below hB hlt1
              have HF2 := Lib.hid (HF1.out.below hB HF1.out.lt)
              have HB2 := Lib.hid (HB1.out.trans (hB.mono HB1.out.size))
              have hlt2 := hv.lt
              clear d0 d1 d2 d3 d4 d5 d6 d7
              obtain ⟨d0, d1, d2, d3, d4, d5, d6, d7⟩ := hv.all
              have HV2 := Lib.hid hv
              clear hv hB
              go_wp2_with fail
              refine (HNA.out _).mono ?_
              rintro e w3 ⟨rfl, hB⟩
              have hsz3 := hB.size
              have hv := HV2.out.below hB hlt2
              have HF3 := Lib.hid (HF2.out.below hB HF2.out.lt)
              have HB3 := Lib.hid (HB2.out.trans (hB.mono HB2.out.size))
              have hlt3 := hv.lt
              clear d0 d1 d2 d3 d4 d5 d6 d7
              obtain ⟨d0, d1, d2, d3, d4, d5, d6, d7⟩ := hv.all
              have HV3 := Lib.hid hv
              clear hv hB
              go_wp2_with fail
              refine (HST.out _).mono ?_
              rintro e w4 ⟨rfl, hB⟩
              have hsz4 := hB.size
              have hv := HV3.out.below hB hlt3
              have HF4 := Lib.hid (HF3.out.below hB HF3.out.lt)
              have HB4 := Lib.hid (HB3.out.trans (hB.mono HB3.out.size))
              have hlt4 := hv.lt
              clear d0 d1 d2 d3 d4 d5 d6 d7
              obtain ⟨d0, d1, d2, d3, d4, d5, d6, d7⟩ := hv.all
              have HV4 := Lib.hid hv
              clear hv hB
              go_wp2_with fail
              refine (HCO.out _).mono ?_
              rintro e w5 ⟨rfl, hB⟩
              have hsz5 := hB.size
              have hv := HV4.out.below hB hlt4
              have HF5 := Lib.hid (HF4.out.below hB HF4.out.lt)
              have HB5 := Lib.hid (HB4.out.trans (hB.mono HB4.out.size))
              have hlt5 := hv.lt
              clear d0 d1 d2 d3 d4 d5 d6 d7
              obtain ⟨d0, d1, d2, d3, d4, d5, d6, d7⟩ := hv.all
              have HV5 := Lib.hid hv
              clear hv hB
              go_wp2_with fail
              refine (HPS.out _).mono ?_
              rintro e w6 ⟨pl, pos, rfl, hB⟩
              have hv2 := HF5.out.below hB HF5.out.lt
              have HV2 := Lib.hid hv2
              have HB3 := Lib.hid (HB5.out.trans (hB.mono HB5.out.size))
              clear d0 d1 d2 d3 d4 d5 d6 d7
              obtain ⟨c0, c1, c2, c3, c4, c5, c6, f0, f1, f2, f3, f4, f5, f6⟩ := hv2.all
              clear hv2 hB
              go_wp2_with fail
              have hset := HV2.out.set (.int .i64 103) (.bool pl) (.int .i64 pos) (.int .i64 0) (.int .i64 0) (.string ⟨#[]⟩) (.slice none 0 0)
              have hbs := below_set7 (g := w.heap.size + 1) HB3.out (Nat.le_succ _) (.int .i64 103) (.bool pl) (.int .i64 pos) (.int .i64 0) (.int .i64 0) (.string ⟨#[]⟩) (.slice none 0 0)
              generalize (((((((w6.setCell ⟨w.heap.size + 1, 0, none⟩ (.int .i64 103)).setCell ⟨w.heap.size + 1, 1, none⟩ (.bool pl)).setCell ⟨w.heap.size + 1, 2, none⟩ (.int .i64 pos)).setCell ⟨w.heap.size + 1, 3, none⟩ (.int .i64 0)).setCell ⟨w.heap.size + 1, 4, none⟩ (.int .i64 0)).setCell ⟨w.heap.size + 1, 5, none⟩ (.string ⟨#[]⟩)).setCell ⟨w.heap.size + 1, 6, none⟩ (.slice none 0 0)) = w6 at hset hbs ⊢
              exact bodyPost_ret (ret37 rfl hset) rfl ⟨⟨103, pl, pos, rfl, .inr ⟨rfl, .inl rfl⟩⟩, hbs⟩
            · skip
              subst hvb
              by_cases hb2 : bd = 2
              · subst hb2
                obtain rfl : z = false := by rw [HZ.out]; simp [awayB, *]
                clear HZ
                go_enter Tryd.func37, Tryd.ntmps37
                go_wp2_with fail
                refine (HSV.out _).mono ?_
                rintro e w1 ⟨rfl, hB⟩
                have hsz1 := hB.size
                have hv := HV0.out.below hB hlt0
                have HF1 := Lib.hid (HF0.out.below hB HF0.out.lt)
                have HB1 := Lib.hid (HB0.out.trans (hB.mono HB0.out.size))
                have hlt1 := hv.lt
                clear d0 d1 d2 d3 d4 d5 d6 d7
                obtain ⟨d0, d1, d2, d3, d4, d5, d6, d7⟩ := hv.all
                have HV1 := Lib.hid hv
                clear hv hB
                go_wp2_with fail
                refine (HRT.out _ (Since.of HB1.out)).mono ?_
                rintro e w2 ⟨rfl, hB⟩
                have hsz2 := hB.size
                have hv := HV1.out.below hB hlt1
                have HF2 := Lib.hid (HF1.out.below hB HF1.out.lt)
                have HB2 := Lib.hid (HB1.out.trans (hB.mono HB1.out.size))
                have hlt2 := hv.lt
                clear d0 d1 d2 d3 d4 d5 d6 d7
                obtain ⟨d0, d1, d2, d3, d4, d5, d6, d7⟩ := hv.all
                have HV2 := Lib.hid hv
                clear hv hB
                go_wp2_with fail
                refine (HNA.out _).mono ?_
                rintro e w3 ⟨rfl, hB⟩
                have hsz3 := hB.size
                have hv := HV2.out.below hB hlt2
                have HF3 := Lib.hid (HF2.out.below hB HF2.out.lt)
                have HB3 := Lib.hid (HB2.out.trans (hB.mono HB2.out.size))
                have hlt3 := hv.lt
                clear d0 d1 d2 d3 d4 d5 d6 d7
                obtain ⟨d0, d1, d2, d3, d4, d5, d6, d7⟩ := hv.all
                have HV3 := Lib.hid hv
                clear hv hB
                go_wp2_with fail
                refine (HST.out _).mono ?_
                rintro e w4 ⟨rfl, hB⟩
                have hsz4 := hB.size
                have hv := HV3.out.below hB hlt3
                have HF4 := Lib.hid (HF3.out.below hB HF3.out.lt)
                have HB4 := Lib.hid (HB3.out.trans (hB.mono HB3.out.size))
                have hlt4 := hv.lt
                clear d0 d1 d2 d3 d4 d5 d6 d7
                obtain ⟨d0, d1, d2, d3, d4, d5, d6, d7⟩ := hv.all
                have HV4 := Lib.hid hv
                clear hv hB
                go_wp2_with fail
                refine (HCO.out _).mono ?_
                rintro e w5 ⟨rfl, hB⟩
                have hsz5 := hB.size
                have hv := HV4.out.below hB hlt4
                have HF5 := Lib.hid (HF4.out.below hB HF4.out.lt)
                have HB5 := Lib.hid (HB4.out.trans (hB.mono HB4.out.size))
                have hlt5 := hv.lt
                clear d0 d1 d2 d3 d4 d5 d6 d7
                obtain ⟨d0, d1, d2, d3, d4, d5, d6, d7⟩ := hv.all
                have HV5 := Lib.hid hv
                clear hv hB
                go_wp2_with fail
                refine (HPS.out _).mono ?_
                rintro e w6 ⟨pl, pos, rfl, hB⟩
                have hv2 := HF5.out.below hB HF5.out.lt
                have HV2 := Lib.hid hv2
                have HB3 := Lib.hid (HB5.out.trans (hB.mono HB5.out.size))
                clear d0 d1 d2 d3 d4 d5 d6 d7
                obtain ⟨c0, c1, c2, c3, c4, c5, c6, f0, f1, f2, f3, f4, f5, f6⟩ := hv2.all
                clear hv2 hB
                go_wp2_with fail
                have hset := HV2.out.set (.int .i64 103) (.bool pl) (.int .i64 pos) (.int .i64 0) (.int .i64 0) (.string ⟨#[]⟩) (.slice none 0 0)
                have hbs := below_set7 (g := w.heap.size + 1) HB3.out (Nat.le_succ _) (.int .i64 103) (.bool pl) (.int .i64 pos) (.int .i64 0) (.int .i64 0) (.string ⟨#[]⟩) (.slice none 0 0)
                generalize (((((((w6.setCell ⟨w.heap.size + 1, 0, none⟩ (.int .i64 103)).setCell ⟨w.heap.size + 1, 1, none⟩ (.bool pl)).setCell ⟨w.heap.size + 1, 2, none⟩ (.int .i64 pos)).setCell ⟨w.heap.size + 1, 3, none⟩ (.int .i64 0)).setCell ⟨w.heap.size + 1, 4, none⟩ (.int .i64 0)).setCell ⟨w.heap.size + 1, 5, none⟩ (.string ⟨#[]⟩)).setCell ⟨w.heap.size + 1, 6, none⟩ (.slice none 0 0)) = w6 at hset hbs ⊢
                exact bodyPost_ret (ret37 rfl hset) rfl ⟨⟨103, pl, pos, rfl, .inr ⟨rfl, .inl rfl⟩⟩, hbs⟩
              · have hb2' : (bd == 2) = false := by simp [hb2]
                by_cases hb1 : bd = 1
                · subst hb1
                  obtain rfl : z = false := by rw [HZ.out]; simp [awayB, *]
                  clear HZ
                  go_enter Tryd.func37, Tryd.ntmps37
                  go_wp2_with fail
                  refine (HSV.out _).mono ?_
                  rintro e w1 ⟨rfl, hB⟩
                  have hsz1 := hB.size
                  have hv := HV0.out.below hB hlt0
                  have HF1 := Lib.hid (HF0.out.below hB HF0.out.lt)
                  have HB1 := Lib.hid (HB0.out.trans (hB.mono HB0.out.size))
                  have hlt1 := hv.lt
                  clear d0 d1 d2 d3 d4 d5 d6 d7
                  obtain ⟨d0, d1, d2, d3, d4, d5, d6, d7⟩ := hv.all
                  have HV1 := Lib.hid hv
                  clear hv hB
                  go_wp2_with fail
                  refine (HRT.out _ (Since.of HB1.out)).mono ?_
                  rintro e w2 ⟨rfl, hB⟩
                  have hsz2 := hB.size
                  have hv := HV1.out.below hB hlt1
                  have HF2 := Lib.hid (HF1.out.below hB HF1.out.lt)
                  have HB2 := Lib.hid (HB1.out.trans (hB.mono HB1.out.size))
                  have hlt2 := hv.lt
                  clear d0 d1 d2 d3 d4 d5 d6 d7
                  obtain ⟨d0, d1, d2, d3, d4, d5, d6, d7⟩ := hv.all
                  have HV2 := Lib.hid hv
                  clear hv hB
                  go_wp2_with fail
                  refine (HNA.out _).mono ?_
                  rintro e w3 ⟨rfl, hB⟩
                  have hsz3 := hB.size
                  have hv := HV2.out.below hB hlt2
                  have HF3 := Lib.hid (HF2.out.below hB HF2.out.lt)
                  have HB3 := Lib.hid (HB2.out.trans (hB.mono HB2.out.size))
                  have hlt3 := hv.lt
                  clear d0 d1 d2 d3 d4 d5 d6 d7
                  obtain ⟨d0, d1, d2, d3, d4, d5, d6, d7⟩ := hv.all
                  have HV3 := Lib.hid hv
                  clear hv hB
                  go_wp2_with fail
                  refine (HST.out _).mono ?_
                  rintro e w4 ⟨rfl, hB⟩
                  have hsz4 := hB.size
                  have hv := HV3.out.below hB hlt3
                  have HF4 := Lib.hid (HF3.out.below hB HF3.out.lt)
                  have HB4 := Lib.hid (HB3.out.trans (hB.mono HB3.out.size))
                  have hlt4 := hv.lt
                  clear d0 d1 d2 d3 d4 d5 d6 d7
                  obtain ⟨d0, d1, d2, d3, d4, d5, d6, d7⟩ := hv.all
                  have HV4 := Lib.hid hv
                  clear hv hB
                  go_wp2_with fail
                  refine (HCO.out _).mono ?_
                  rintro e w5 ⟨rfl, hB⟩
                  have hsz5 := hB.size
                  have hv := HV4.out.below hB hlt4
                  have HF5 := Lib.hid (HF4.out.below hB HF4.out.lt)
                  have HB5 := Lib.hid (HB4.out.trans (hB.mono HB4.out.size))
                  have hlt5 := hv.lt
                  clear d0 d1 d2 d3 d4 d5 d6 d7
                  obtain ⟨d0, d1, d2, d3, d4, d5, d6, d7⟩ := hv.all
                  have HV5 := Lib.hid hv
                  clear hv hB
                  go_wp2_with fail
                  refine (HPN.out _).mono ?_
                  rintro e w6 ⟨pl, pos, rfl, hB⟩
                  have hv2 := HF5.out.below hB HF5.out.lt
                  have HV2 := Lib.hid hv2
                  have HB3 := Lib.hid (HB5.out.trans (hB.mono HB5.out.size))
                  clear d0 d1 d2 d3 d4 d5 d6 d7
                  obtain ⟨c0, c1, c2, c3, c4, c5, c6, f0, f1, f2, f3, f4, f5, f6⟩ := hv2.all
                  clear hv2 hB
                  go_wp2_with fail
                  have hset := HV2.out.set (.int .i64 106) (.bool pl) (.int .i64 pos) (.int .i64 0) (.int .i64 0) (.string ⟨#[]⟩) (.slice none 0 0)
                  have hbs := below_set7 (g := w.heap.size + 1) HB3.out (Nat.le_succ _) (.int .i64 106) (.bool pl) (.int .i64 pos) (.int .i64 0) (.int .i64 0) (.string ⟨#[]⟩) (.slice none 0 0)
                  generalize (((((((w6.setCell ⟨w.heap.size + 1, 0, none⟩ (.int .i64 106)).setCell ⟨w.heap.size + 1, 1, none⟩ (.bool pl)).setCell ⟨w.heap.size + 1, 2, none⟩ (.int .i64 pos)).setCell ⟨w.heap.size + 1, 3, none⟩ (.int .i64 0)).setCell ⟨w.heap.size + 1, 4, none⟩ (.int .i64 0)).setCell ⟨w.heap.size + 1, 5, none⟩ (.string ⟨#[]⟩)).setCell ⟨w.heap.size + 1, 6, none⟩ (.slice none 0 0)) = w6 at hset hbs ⊢
                  exact bodyPost_ret (ret37 rfl hset) rfl ⟨⟨106, pl, pos, rfl, .inr ⟨rfl, .inr rfl⟩⟩, hbs⟩
                · have hb1' : (bd == 1) = false := by simp [hb1]
                  have hz : z = kidsO 1 own loop l.length 0 l := by rw [HZ.out]; simp [loopR, awayB, *]
                  have HZK := Lib.hid hz.symm
                  clear HZ hz
                  go_enter Tryd.func37, Tryd.ntmps37
                  go_wp2_with fail
                  refine (HSV.out _).mono ?_
                  rintro e w1 ⟨rfl, hB⟩
                  have hsz1 := hB.size
                  have hv := HV0.out.below hB hlt0
                  have HF1 := Lib.hid (HF0.out.below hB HF0.out.lt)
                  have HB1 := Lib.hid (HB0.out.trans (hB.mono HB0.out.size))
                  have hlt1 := hv.lt
                  clear d0 d1 d2 d3 d4 d5 d6 d7
                  obtain ⟨d0, d1, d2, d3, d4, d5, d6, d7⟩ := hv.all
                  have HV1 := Lib.hid hv
                  clear hv hB
                  go_wp2_with fail
                  refine (HRT.out _ (Since.of HB1.out)).mono ?_
                  rintro e w2 ⟨rfl, hB⟩
                  have hsz2 := hB.size
                  have hv := HV1.out.below hB hlt1
                  have HF2 := Lib.hid (HF1.out.below hB HF1.out.lt)
                  have HB2 := Lib.hid (HB1.out.trans (hB.mono HB1.out.size))
                  have hlt2 := hv.lt
                  clear d0 d1 d2 d3 d4 d5 d6 d7
                  obtain ⟨d0, d1, d2, d3, d4, d5, d6, d7⟩ := hv.all
                  have HV2 := Lib.hid hv
                  clear hv hB
                  go_wp2_with fail
                  refine (HNA.out _).mono ?_
                  rintro e w3 ⟨rfl, hB⟩
                  have hsz3 := hB.size
                  have hv := HV2.out.below hB hlt2
                  have HF3 := Lib.hid (HF2.out.below hB HF2.out.lt)
                  have HB3 := Lib.hid (HB2.out.trans (hB.mono HB2.out.size))
                  have hlt3 := hv.lt
                  clear d0 d1 d2 d3 d4 d5 d6 d7
                  obtain ⟨d0, d1, d2, d3, d4, d5, d6, d7⟩ := hv.all
                  have HV3 := Lib.hid hv
                  clear hv hB
                  go_wp2_with fail
                  refine (HST.out _).mono ?_
                  rintro e w4 ⟨rfl, hB⟩
                  have hsz4 := hB.size
                  have hv := HV3.out.below hB hlt3
                  have HF4 := Lib.hid (HF3.out.below hB HF3.out.lt)
                  have HB4 := Lib.hid (HB3.out.trans (hB.mono HB3.out.size))
                  have hlt4 := hv.lt
                  clear d0 d1 d2 d3 d4 d5 d6 d7
                  obtain ⟨d0, d1, d2, d3, d4, d5, d6, d7⟩ := hv.all
                  have HV4 := Lib.hid hv
                  clear hv hB
                  go_wp2_with fail
                  refine (HCO.out _).mono ?_
                  rintro e w5 ⟨rfl, hB⟩
                  have hsz5 := hB.size
                  have hv := HV4.out.below hB hlt4
                  have HF5 := Lib.hid (HF4.out.below hB HF4.out.lt)
                  have HB5 := Lib.hid (HB4.out.trans (hB.mono HB4.out.size))
                  have hlt5 := hv.lt
                  clear d0 d1 d2 d3 d4 d5 d6 d7
                  obtain ⟨d0, d1, d2, d3, d4, d5, d6, d7⟩ := hv.all
                  have HV5 := Lib.hid hv
                  clear hv hB
                  go_wp2_with fail
                  clear d0 d1 d2 d3 d4 d5 d6 d7
                  go_loopw [10] (fun i wr => ∃ k : Nat, k ≤ l.length ∧ i = .int .i64 k ∧ Below w5.heap.size w5 wr ∧ Hid (kidsO 1 own loop l.length k (l.drop k) = z)) (fun i _ => l.length - (intOf i).toNat)
                  case atStart => exact ⟨0, Nat.zero_le _, rfl, Below.refl _ _, HZK⟩
                  case round =>
                    obtain ⟨k, hk, rfl, hBr, hF⟩ := hrel
                    have hF2 := hF.out
                    clear hF
                    have hszr := hBr.size
                    obtain ⟨d0, d1, d2, d3, d4, d5, d6, d7⟩ := (HV5.out.below hBr hlt5).all
                    have HFr := Lib.hid (HF5.out.below hBr HF5.out.lt)
                    have hB0 := HB5.out.trans (hBr.mono HB5.out.size)
                    have HBR := Lib.hid hB0
                    have HBr := Lib.hid hBr
                    by_cases hlt : k < l.length
                    · exact absurd hlt (by have := HNK.out (by simp) (by trivial); omega)
                    · rw [List.drop_eq_nil_of_le (by omega), kidsO] at hF2
                      subst hF2
                      go_wp2_with fail
                      refine (HNO.out _).mono ?_
                      rintro e w4 ⟨rfl, hB⟩
                      have hv2 := HFr.out.below hB HFr.out.lt
                      have HV2 := Lib.hid hv2
                      have HB3 := Lib.hid (HBR.out.trans (hB.mono HBR.out.size))
                      clear d0 d1 d2 d3 d4 d5 d6 d7
                      obtain ⟨c0, c1, c2, c3, c4, c5, c6, f0, f1, f2, f3, f4, f5, f6⟩ := hv2.all
                      clear hv2 hB
                      unfold faultV
                      go_wp2_with fail
                      have hset := HV2.out.set (.int .i64 0) (.bool false) (.int .i64 0) (.int .i64 0) (.int .i64 0) (.string ⟨#[]⟩) (.slice none 0 0)
                      have hbs := below_set7 (g := w.heap.size + 1) HB3.out (Nat.le_succ _) (.int .i64 0) (.bool false) (.int .i64 0) (.int .i64 0) (.int .i64 0) (.string ⟨#[]⟩) (.slice none 0 0)
                      generalize (((((((w4.setCell ⟨w.heap.size + 1, 0, none⟩ (.int .i64 0)).setCell ⟨w.heap.size + 1, 1, none⟩ (.bool false)).setCell ⟨w.heap.size + 1, 2, none⟩ (.int .i64 0)).setCell ⟨w.heap.size + 1, 3, none⟩ (.int .i64 0)).setCell ⟨w.heap.size + 1, 4, none⟩ (.int .i64 0)).setCell ⟨w.heap.size + 1, 5, none⟩ (.string ⟨#[]⟩)).setCell ⟨w.heap.size + 1, 6, none⟩ (.slice none 0 0)) = w6 at hset hbs ⊢
                      exact bodyPost_ret (ret37 rfl hset) rfl ⟨⟨0, false, 0, rfl, .inl ⟨rfl, rfl⟩⟩, hbs⟩
      · have hk0' : (vk == 0) = false := by simp [hk0]
        have hk02 : (vk != 0) = true := by simp [hk0]
        replace hvb : vb = true := by rw [hvb]; simp [*]
        cases st
        · skip
          obtain rfl : z = false := by rw [HZ.out]; simp [awayB, *]
          clear HZ
          go_enter Tryd.func37, Tryd.ntmps37
          go_wp2_with fail
          refine (HSV.out _).mono ?_
          rintro e w1 ⟨rfl, hB⟩
          have hsz1 := hB.size
          have hv := HV0.out.below hB hlt0
          have HF1 := Lib.hid (HF0.out.below hB HF0.out.lt)
          have HB1 := Lib.hid (HB0.out.trans (hB.mono HB0.out.size))
          have hlt1 := hv.lt
          clear d0 d1 d2 d3 d4 d5 d6 d7
          obtain ⟨d0, d1, d2, d3, d4, d5, d6, d7⟩ := hv.all
          have HV1 := Lib.hid hv
          clear hv hB
          go_wp2_with fail
          refine (HRT.out _ (Since.of HB1.out)).mono ?_
          rintro e w2 ⟨rfl, hB⟩
          have hsz2 := hB.size
          have hv := HV1.out.below hB hlt1
          have HF2 := Lib.hid (HF1.out.below hB HF1.out.lt)
          have HB2 := Lib.hid (HB1.out.trans (hB.mono HB1.out.size))
          have hlt2 := hv.lt
          clear d0 d1 d2 d3 d4 d5 d6 d7
          obtain ⟨d0, d1, d2, d3, d4, d5, d6, d7⟩ := hv.all
          have HV2 := Lib.hid hv
          clear hv hB
          go_wp2_with fail
          refine (HNA.out _).mono ?_
          rintro e w3 ⟨rfl, hB⟩
          have hsz3 := hB.size
          have hv := HV2.out.below hB hlt2
          have HF3 := Lib.hid (HF2.out.below hB HF2.out.lt)
          have HB3 := Lib.hid (HB2.out.trans (hB.mono HB2.out.size))
          have hlt3 := hv.lt
          clear d0 d1 d2 d3 d4 d5 d6 d7
          obtain ⟨d0, d1, d2, d3, d4, d5, d6, d7⟩ := hv.all
          have HV3 := Lib.hid hv
          clear hv hB
          go_wp2_with fail
          refine (HST.out _).mono ?_
          rintro e w4 ⟨rfl, hB⟩
          have hsz4 := hB.size
          have hv := HV3.out.below hB hlt3
          have HF4 := Lib.hid (HF3.out.below hB HF3.out.lt)
          have HB4 := Lib.hid (HB3.out.trans (hB.mono HB3.out.size))
          have hlt4 := hv.lt
          clear d0 d1 d2 d3 d4 d5 d6 d7
          obtain ⟨d0, d1, d2, d3, d4, d5, d6, d7⟩ := hv.all
          have HV4 := Lib.hid hv
          clear hv hB
          go_wp2_with fail
          refine (HPS.out _).mono ?_
          rintro e w5 ⟨pl, pos, rfl, hB⟩
          have hv2 := HF4.out.below hB HF4.out.lt
          have HV2 := Lib.hid hv2
          have HB3 := Lib.hid (HB4.out.trans (hB.mono HB4.out.size))
          clear d0 d1 d2 d3 d4 d5 d6 d7
          obtain ⟨c0, c1, c2, c3, c4, c5, c6, f0, f1, f2, f3, f4, f5, f6⟩ := hv2.all
          clear hv2 hB
          go_wp2_with fail
          have hset := HV2.out.set (.int .i64 103) (.bool pl) (.int .i64 pos) (.int .i64 0) (.int .i64 0) (.string ⟨#[]⟩) (.slice none 0 0)
          have hbs := below_set7 (g := w.heap.size + 1) HB3.out (Nat.le_succ _) (.int .i64 103) (.bool pl) (.int .i64 pos) (.int .i64 0) (.int .i64 0) (.string ⟨#[]⟩) (.slice none 0 0)
          generalize (((((((w5.setCell ⟨w.heap.size + 1, 0, none⟩ (.int .i64 103)).setCell ⟨w.heap.size + 1, 1, none⟩ (.bool pl)).setCell ⟨w.heap.size + 1, 2, none⟩ (.int .i64 pos)).setCell ⟨w.heap.size + 1, 3, none⟩ (.int .i64 0)).setCell ⟨w.heap.size + 1, 4, none⟩ (.int .i64 0)).setCell ⟨w.heap.size + 1, 5, none⟩ (.string ⟨#[]⟩)).setCell ⟨w.heap.size + 1, 6, none⟩ (.slice none 0 0)) = w6 at hset hbs ⊢
          exact bodyPost_ret (ret37 rfl hset) rfl ⟨⟨103, pl, pos, rfl, .inr ⟨rfl, .inl rfl⟩⟩, hbs⟩
        · cases ct
          · skip
            obtain rfl : z = false := by rw [HZ.out]; simp [awayB, *]
            clear HZ
            go_enter Tryd.func37, Tryd.ntmps37
            go_wp2_with fail
            refine (HSV.out _).mono ?_
            rintro e w1 ⟨rfl, hB⟩
            have hsz1 := hB.size
            have hv := HV0.out.below hB hlt0
            have HF1 := Lib.hid (HF0.out.below hB HF0.out.lt)
            have HB1 := Lib.hid (HB0.out.trans (hB.mono HB0.out.size))
            have hlt1 := hv.lt
            clear d0 d1 d2 d3 d4 d5 d6 d7
            obtain ⟨d0, d1, d2, d3, d4, d5, d6, d7⟩ := hv.all
            have HV1 := Lib.hid hv
            clear hv hB
            go_wp2_with fail
            refine (HRT.out _ (Since.of HB1.out)).mono ?_
            rintro e w2 ⟨rfl, hB⟩
            have hsz2 := hB.size
            have hv := HV1.out.below hB hlt1
            have HF2 := Lib.hid (HF1.out.below hB HF1.out.lt)
            have HB2 := Lib.hid (HB1.out.trans (hB.mono HB1.out.size))
            have hlt2 := hv.lt
            clear d0 d1 d2 d3 d4 d5 d6 d7
            obtain ⟨d0, d1, d2, d3, d4, d5, d6, d7⟩ := hv.all
            have HV2 := Lib.hid hv
            clear hv hB
            go_wp2_with fail
            refine (HNA.out _).mono ?_
            rintro e w3 ⟨rfl, hB⟩
            have hsz3 := hB.size
            have hv := HV2.out.below hB hlt2
            have HF3 := Lib.hid (HF2.out.below hB HF2.out.lt)
            have HB3 := Lib.hid (HB2.out.trans (hB.mono HB2.out.size))
            have hlt3 := hv.lt
            clear d0 d1 d2 d3 d4 d5 d6 d7
            obtain ⟨d0, d1, d2, d3, d4, d5, d6, d7⟩ := hv.all
            have HV3 := Lib.hid hv
            clear hv hB
            go_wp2_with fail
            refine (HST.out _).mono ?_
            rintro e w4 ⟨rfl, hB⟩
            have hsz4 := hB.size
            have hv := HV3.out.below hB hlt3
            have HF4 := Lib.hid (HF3.out.below hB HF3.out.lt)
            have HB4 := Lib.hid (HB3.out.trans (hB.mono HB3.out.size))
            have hlt4 := hv.lt
            clear d0 d1 d2 d3 d4 d5 d6 d7
            obtain ⟨d0, d1, d2, d3, d4, d5, d6, d7⟩ := hv.all
            have HV4 := Lib.hid hv
            clear hv hB
            go_wp2_with fail
            refine (HCO.out _).mono ?_
            rintro e w5 ⟨rfl, hB⟩
            have hsz5 := hB.size
            have hv := HV4.out.below hB hlt4
            have HF5 := Lib.hid (HF4.out.below hB HF4.out.lt)
            have HB5 := Lib.hid (HB4.out.trans (hB.mono HB4.out.size))
            have hlt5 := hv.lt
            clear d0 d1 d2 d3 d4 d5 d6 d7
            obtain ⟨d0, d1, d2, d3, d4, d5, d6, d7⟩ := hv.all
            have HV5 := Lib.hid hv
            clear hv hB
            go_wp2_with fail
            refine (HPS.out _).mono ?_
            rintro e w6 ⟨pl, pos, rfl, hB⟩
            have hv2 := HF5.out.below hB HF5.out.lt
            have HV2 := Lib.hid hv2
            have HB3 := Lib.hid (HB5.out.trans (hB.mono HB5.out.size))
            clear d0 d1 d2 d3 d4 d5 d6 d7
            obtain ⟨c0, c1, c2, c3, c4, c5, c6, f0, f1, f2, f3, f4, f5, f6⟩ := hv2.all
            clear hv2 hB
            go_wp2_with fail
            have hset := HV2.out.set (.int .i64 103) (.bool pl) (.int .i64 pos) (.int .i64 0) (.int .i64 0) (.string ⟨#[]⟩) (.slice none 0 0)
            have hbs := below_set7 (g := w.heap.size + 1) HB3.out (Nat.le_succ _) (.int .i64 103) (.bool pl) (.int .i64 pos) (.int .i64 0) (.int .i64 0) (.string ⟨#[]⟩) (.slice none 0 0)
            generalize (((((((w6.setCell ⟨w.heap.size + 1, 0, none⟩ (.int .i64 103)).setCell ⟨w.heap.size + 1, 1, none⟩ (.bool pl)).setCell ⟨w.heap.size + 1, 2, none⟩ (.int .i64 pos)).setCell ⟨w.heap.size + 1, 3, none⟩ (.int .i64 0)).setCell ⟨w.heap.size + 1, 4, none⟩ (.int .i64 0)).setCell ⟨w.heap.size + 1, 5, none⟩ (.string ⟨#[]⟩)).setCell ⟨w.heap.size + 1, 6, none⟩ (.slice none 0 0)) = w6 at hset hbs ⊢
            exact bodyPost_ret (ret37 rfl hset) rfl ⟨⟨103, pl, pos, rfl, .inr ⟨rfl, .inl rfl⟩⟩, hbs⟩
          · skip
            subst hvb
            by_cases hb2 : bd = 2
            · subst hb2
              obtain rfl : z = false := by rw [HZ.out]; simp [awayB, *]
              clear HZ
              go_enter Tryd.func37, Tryd.ntmps37
              go_wp2_with fail
              refine (HSV.out _).mono ?_
              rintro e w1 ⟨rfl, hB⟩
              have hsz1 := hB.size
              have hv := HV0.out.below hB hlt0
              have HF1 := Lib.hid (HF0.out.below hB HF0.out.lt)
              have HB1 := Lib.hid (HB0.out.trans (hB.mono HB0.out.size))
              have hlt1 := hv.lt
              clear d0 d1 d2 d3 d4 d5 d6 d7
              obtain ⟨d0, d1, d2, d3, d4, d5, d6, d7⟩ := hv.all
              have HV1 := Lib.hid hv
              clear hv hB
              go_wp2_with fail
              refine (HRT.out _ (Since.of HB1.out)).mono ?_
              rintro e w2 ⟨rfl, hB⟩
              have hsz2 := hB.size
              have hv := HV1.out.below hB hlt1
              have HF2 := Lib.hid (HF1.out.below hB HF1.out.lt)
              have HB2 := Lib.hid (HB1.out.trans (hB.mono HB1.out.size))
              have hlt2 := hv.lt
              clear d0 d1 d2 d3 d4 d5 d6 d7
              obtain ⟨d0, d1, d2, d3, d4, d5, d6, d7⟩ := hv.all
              have HV2 := Lib.hid hv
              clear hv hB
              go_wp2_with fail
              refine (HNA.out _).mono ?_
              rintro e w3 ⟨rfl, hB⟩
              have hsz3 := hB.size
              have hv := HV2.out.below hB hlt2
              have HF3 := Lib.hid (HF2.out.below hB HF2.out.lt)
              have HB3 := Lib.hid (HB2.out.trans (hB.mono HB2.out.size))
              have hlt3 := hv.lt
              clear d0 d1 d2 d3 d4 d5 d6 d7
              obtain ⟨d0, d1, d2, d3, d4, d5, d6, d7⟩ := hv.all
              have HV3 := Lib.hid hv
              clear hv hB
              go_wp2_with fail
              refine (HST.out _).mono ?_
              rintro e w4 ⟨rfl, hB⟩
              have hsz4 := hB.size
              have hv := HV3.out.below hB hlt3
              have HF4 := Lib.hid (HF3.out.below hB HF3.out.lt)
              have HB4 := Lib.hid (HB3.out.trans (hB.mono HB3.out.size))
              have hlt4 := hv.lt
              clear d0 d1 d2 d3 d4 d5 d6 d7
              obtain ⟨d0, d1, d2, d3, d4, d5, d6, d7⟩ := hv.all
              have HV4 := Lib.hid hv
              clear hv hB
              go_wp2_with fail
              refine (HCO.out _).mono ?_
              rintro e w5 ⟨rfl, hB⟩
              have hsz5 := hB.size
              have hv := HV4.out.below hB hlt4
              have HF5 := Lib.hid (HF4.out.below hB HF4.out.lt)
              have HB5 := Lib.hid (HB4.out.trans (hB.mono HB4.out.size))
              have hlt5 := hv.lt
              clear d0 d1 d2 d3 d4 d5 d6 d7
              obtain ⟨d0, d1, d2, d3, d4, d5, d6, d7⟩ := hv.all
              have HV5 := Lib.hid hv
              clear hv hB
              go_wp2_with fail
              refine (HPS.out _).mono ?_
              rintro e w6 ⟨pl, pos, rfl, hB⟩
              have hv2 := HF5.out.below hB HF5.out.lt
              have HV2 := Lib.hid hv2
              have HB3 := Lib.hid (HB5.out.trans (hB.mono HB5.out.size))
              clear d0 d1 d2 d3 d4 d5 d6 d7
              obtain ⟨c0, c1, c2, c3, c4, c5, c6, f0, f1, f2, f3, f4, f5, f6⟩ := hv2.all
              clear hv2 hB
              go_wp2_with fail
              have hset := HV2.out.set (.int .i64 103) (.bool pl) (.int .i64 pos) (.int .i64 0) (.int .i64 0) (.string ⟨#[]⟩) (.slice none 0 0)
              have hbs := below_set7 (g := w.heap.size + 1) HB3.out (Nat.le_succ _) (.int .i64 103) (.bool pl) (.int .i64 pos) (.int .i64 0) (.int .i64 0) (.string ⟨#[]⟩) (.slice none 0 0)
              generalize (((((((w6.setCell ⟨w.heap.size + 1, 0, none⟩ (.int .i64 103)).setCell ⟨w.heap.size + 1, 1, none⟩ (.bool pl)).setCell ⟨w.heap.size + 1, 2, none⟩ (.int .i64 pos)).setCell ⟨w.heap.size + 1, 3, none⟩ (.int .i64 0)).setCell ⟨w.heap.size + 1, 4, none⟩ (.int .i64 0)).setCell ⟨w.heap.size + 1, 5, none⟩ (.string ⟨#[]⟩)).setCell ⟨w.heap.size + 1, 6, none⟩ (.slice none 0 0)) = w6 at hset hbs ⊢
              exact bodyPost_ret (ret37 rfl hset) rfl ⟨⟨103, pl, pos, rfl, .inr ⟨rfl, .inl rfl⟩⟩, hbs⟩
            · have hb2' : (bd == 2) = false := by simp [hb2]
              by_cases hb1 : bd = 1
              · subst hb1
                obtain rfl : z = false := by rw [HZ.out]; simp [awayB, *]
                clear HZ
                go_enter Tryd.func37, Tryd.ntmps37
                go_wp2_with fail
                refine (HSV.out _).mono ?_
                rintro e w1 ⟨rfl, hB⟩
                have hsz1 := hB.size
                have hv := HV0.out.below hB hlt0
                have HF1 := Lib.hid (HF0.out.below hB HF0.out.lt)
                have HB1 := Lib.hid (HB0.out.trans (hB.mono HB0.out.size))
                have hlt1 := hv.lt
                clear d0 d1 d2 d3 d4 d5 d6 d7
                obtain ⟨d0, d1, d2, d3, d4, d5, d6, d7⟩ := hv.all
                have HV1 := Lib.hid hv
                clear hv hB
                go_wp2_with fail
                refine (HRT.out _ (Since.of HB1.out)).mono ?_
                rintro e w2 ⟨rfl, hB⟩
                have hsz2 := hB.size
                have hv := HV1.out.below hB hlt1
                have HF2 := Lib.hid (HF1.out.below hB HF1.out.lt)
                have HB2 := Lib.hid (HB1.out.trans (hB.mono HB1.out.size))
                have hlt2 := hv.lt
                clear d0 d1 d2 d3 d4 d5 d6 d7
                obtain ⟨d0, d1, d2, d3, d4, d5, d6, d7⟩ := hv.all
                have HV2 := Lib.hid hv
                clear hv hB
                go_wp2_with fail
                refine (HNA.out _).mono ?_
                rintro e w3 ⟨rfl, hB⟩
                have hsz3 := hB.size
                have hv := HV2.out.below hB hlt2
                have HF3 := Lib.hid (HF2.out.below hB HF2.out.lt)
                have HB3 := Lib.hid (HB2.out.trans (hB.mono HB2.out.size))
                have hlt3 := hv.lt
                clear d0 d1 d2 d3 d4 d5 d6 d7
                obtain ⟨d0, d1, d2, d3, d4, d5, d6, d7⟩ := hv.all
                have HV3 := Lib.hid hv
                clear hv hB
                go_wp2_with fail
                refine (HST.out _).mono ?_
                rintro e w4 ⟨rfl, hB⟩
                have hsz4 := hB.size
                have hv := HV3.out.below hB hlt3
                have HF4 := Lib.hid (HF3.out.below hB HF3.out.lt)
                have HB4 := Lib.hid (HB3.out.trans (hB.mono HB3.out.size))
                have hlt4 := hv.lt
                clear d0 d1 d2 d3 d4 d5 d6 d7
                obtain ⟨d0, d1, d2, d3, d4, d5, d6, d7⟩ := hv.all
                have HV4 := Lib.hid hv
                clear hv hB
                go_wp2_with fail
                refine (HCO.out _).mono ?_
                rintro e w5 ⟨rfl, hB⟩
                have hsz5 := hB.size
                have hv := HV4.out.below hB hlt4
                have HF5 := Lib.hid (HF4.out.below hB HF4.out.lt)
                have HB5 := Lib.hid (HB4.out.trans (hB.mono HB4.out.size))
                have hlt5 := hv.lt
                clear d0 d1 d2 d3 d4 d5 d6 d7
                obtain ⟨d0, d1, d2, d3, d4, d5, d6, d7⟩ := hv.all
                have HV5 := Lib.hid hv
                clear hv hB
                go_wp2_with fail
                refine (HPN.out _).mono ?_
                rintro e w6 ⟨pl, pos, rfl, hB⟩
                have hv2 := HF5.out.below hB HF5.out.lt
                have HV2 := Lib.hid hv2
                have HB3 := Lib.hid (HB5.out.trans (hB.mono HB5.out.size))
                clear d0 d1 d2 d3 d4 d5 d6 d7
                obtain ⟨c0, c1, c2, c3, c4, c5, c6, f0, f1, f2, f3, f4, f5, f6⟩ := hv2.all
                clear hv2 hB
                go_wp2_with fail
                have hset := HV2.out.set (.int .i64 106) (.bool pl) (.int .i64 pos) (.int .i64 0) (.int .i64 0) (.string ⟨#[]⟩) (.slice none 0 0)
                have hbs := below_set7 (g := w.heap.size + 1) HB3.out (Nat.le_succ _) (.int .i64 106) (.bool pl) (.int .i64 pos) (.int .i64 0) (.int .i64 0) (.string ⟨#[]⟩) (.slice none 0 0)
                generalize (((((((w6.setCell ⟨w.heap.size + 1, 0, none⟩ (.int .i64 106)).setCell ⟨w.heap.size + 1, 1, none⟩ (.bool pl)).setCell ⟨w.heap.size + 1, 2, none⟩ (.int .i64 pos)).setCell ⟨w.heap.size + 1, 3, none⟩ (.int .i64 0)).setCell ⟨w.heap.size + 1, 4, none⟩ (.int .i64 0)).setCell ⟨w.heap.size + 1, 5, none⟩ (.string ⟨#[]⟩)).setCell ⟨w.heap.size + 1, 6, none⟩ (.slice none 0 0)) = w6 at hset hbs ⊢
                exact bodyPost_ret (ret37 rfl hset) rfl ⟨⟨106, pl, pos, rfl, .inr ⟨rfl, .inr rfl⟩⟩, hbs⟩
              · have hb1' : (bd == 1) = false := by simp [hb1]
                have hz : z = kidsO 1 own loop l.length 0 l := by rw [HZ.out]; simp [loopR, awayB, *]
                have HZK := Lib.hid hz.symm
                clear HZ hz
                go_enter Tryd.func37, Tryd.ntmps37
                go_wp2_with fail
                refine (HSV.out _).mono ?_
                rintro e w1 ⟨rfl, hB⟩
                have hsz1 := hB.size
                have hv := HV0.out.below hB hlt0
                have HF1 := Lib.hid (HF0.out.below hB HF0.out.lt)
                have HB1 := Lib.hid (HB0.out.trans (hB.mono HB0.out.size))
                have hlt1 := hv.lt
                clear d0 d1 d2 d3 d4 d5 d6 d7
                obtain ⟨d0, d1, d2, d3, d4, d5, d6, d7⟩ := hv.all
                have HV1 := Lib.hid hv
                clear hv hB
                go_wp2_with fail
                refine (HRT.out _ (Since.of HB1.out)).mono ?_
                rintro e w2 ⟨rfl, hB⟩
                have hsz2 := hB.size
                have hv := HV1.out.below hB hlt1
                have HF2 := Lib.hid (HF1.out.below hB HF1.out.lt)
                have HB2 := Lib.hid (HB1.out.trans (hB.mono HB1.out.size))
                have hlt2 := hv.lt
                clear d0 d1 d2 d3 d4 d5 d6 d7
                obtain ⟨d0, d1, d2, d3, d4, d5, d6, d7⟩ := hv.all
                have HV2 := Lib.hid hv
                clear hv hB
                go_wp2_with fail
                refine (HNA.out _).mono ?_
                rintro e w3 ⟨rfl, hB⟩
                have hsz3 := hB.size
                have hv := HV2.out.below hB hlt2
                have HF3 := Lib.hid (HF2.out.below hB HF2.out.lt)
                have HB3 := Lib.hid (HB2.out.trans (hB.mono HB2.out.size))
                have hlt3 := hv.lt
                clear d0 d1 d2 d3 d4 d5 d6 d7
                obtain ⟨d0, d1, d2, d3, d4, d5, d6, d7⟩ := hv.all
                have HV3 := Lib.hid hv
                clear hv hB
                go_wp2_with fail
                refine (HST.out _).mono ?_
                rintro e w4 ⟨rfl, hB⟩
                have hsz4 := hB.size
                have hv := HV3.out.below hB hlt3
                have HF4 := Lib.hid (HF3.out.below hB HF3.out.lt)
                have HB4 := Lib.hid (HB3.out.trans (hB.mono HB3.out.size))
                have hlt4 := hv.lt
                clear d0 d1 d2 d3 d4 d5 d6 d7
                obtain ⟨d0, d1, d2, d3, d4, d5, d6, d7⟩ := hv.all
                have HV4 := Lib.hid hv
                clear hv hB
                go_wp2_with fail
                refine (HCO.out _).mono ?_
                rintro e w5 ⟨rfl, hB⟩
                have hsz5 := hB.size
                have hv := HV4.out.below hB hlt4
                have HF5 := Lib.hid (HF4.out.below hB HF4.out.lt)
                have HB5 := Lib.hid (HB4.out.trans (hB.mono HB4.out.size))
                have hlt5 := hv.lt
                clear d0 d1 d2 d3 d4 d5 d6 d7
                obtain ⟨d0, d1, d2, d3, d4, d5, d6, d7⟩ := hv.all
                have HV5 := Lib.hid hv
                clear hv hB
                go_wp2_with fail
                clear d0 d1 d2 d3 d4 d5 d6 d7
                go_loopw [10] (fun i wr => ∃ k : Nat, k ≤ l.length ∧ i = .int .i64 k ∧ Below w5.heap.size w5 wr ∧ Hid (kidsO 1 own loop l.length k (l.drop k) = z)) (fun i _ => l.length - (intOf i).toNat)
                case atStart => exact ⟨0, Nat.zero_le _, rfl, Below.refl _ _, HZK⟩
                case round =>
                  obtain ⟨k, hk, rfl, hBr, hF⟩ := hrel
                  have hF2 := hF.out
                  clear hF
                  have hszr := hBr.size
                  obtain ⟨d0, d1, d2, d3, d4, d5, d6, d7⟩ := (HV5.out.below hBr hlt5).all
                  have HFr := Lib.hid (HF5.out.below hBr HF5.out.lt)
                  have hB0 := HB5.out.trans (hBr.mono HB5.out.size)
                  have HBR := Lib.hid hB0
                  have HBr := Lib.hid hBr
                  by_cases hlt : k < l.length
                  · exact absurd hlt (by have := HNK.out (by simp) (by trivial); omega)
                  · rw [List.drop_eq_nil_of_le (by omega), kidsO] at hF2
                    subst hF2
                    go_wp2_with fail
                    refine (HNO.out _).mono ?_
                    rintro e w4 ⟨rfl, hB⟩
                    have hv2 := HFr.out.below hB HFr.out.lt
                    have HV2 := Lib.hid hv2
                    have HB3 := Lib.hid (HBR.out.trans (hB.mono HBR.out.size))
                    clear d0 d1 d2 d3 d4 d5 d6 d7
                    obtain ⟨c0, c1, c2, c3, c4, c5, c6, f0, f1, f2, f3, f4, f5, f6⟩ := hv2.all
                    clear hv2 hB
                    unfold faultV
                    go_wp2_with fail
                    have hset := HV2.out.set (.int .i64 0) (.bool false) (.int .i64 0) (.int .i64 0) (.int .i64 0) (.string ⟨#[]⟩) (.slice none 0 0)
                    have hbs := below_set7 (g := w.heap.size + 1) HB3.out (Nat.le_succ _) (.int .i64 0) (.bool false) (.int .i64 0) (.int .i64 0) (.int .i64 0) (.string ⟨#[]⟩) (.slice none 0 0)
                    generalize (((((((w4.setCell ⟨w.heap.size + 1, 0, none⟩ (.int .i64 0)).setCell ⟨w.heap.size + 1, 1, none⟩ (.bool false)).setCell ⟨w.heap.size + 1, 2, none⟩ (.int .i64 0)).setCell ⟨w.heap.size + 1, 3, none⟩ (.int .i64 0)).setCell ⟨w.heap.size + 1, 4, none⟩ (.int .i64 0)).setCell ⟨w.heap.size + 1, 5, none⟩ (.string ⟨#[]⟩)).setCell ⟨w.heap.size + 1, 6, none⟩ (.slice none 0 0)) = w6 at hset hbs ⊢
                    exact bodyPost_ret (ret37 rfl hset) rfl ⟨⟨0, false, 0, rfl, .inl ⟨rfl, rfl⟩⟩, hbs⟩
end Go.Proofs.YtmkghfkikclodaaDoor
