/- The document's word on a node: what is amiss with it. -/
import Derived.Test.YtmkghfkikclodaaDoorM13
import Derived.Deep.RegionHeld3
import Derived.Deep.DeepCutAuto
import Derived.Test.YtmkghfkikclodaaDoorM06
import Derived.Test.YtmkghfkikclodaaDoorPlainO
import Derived.Test.YtmkghfkikclodaaDoorM19
set_option linter.unusedVariables false
set_option linter.unusedSimpArgs false
namespace Go.Proofs.YtmkghfkikclodaaDoor
open Go.RowKit

/-- a fault; none, if all is right -/
def NodeOut (ok : Bool) (W : World) (e : Ending) (w' : World) : Prop := (∃ (z : Int) (pl : Bool) (pos : Int), e = .returned (.agg #[.int .i64 z, .bool pl, .int .i64 pos, .int .i64 0, .int .i64 0, .string ⟨#[]⟩, .slice none 0 0]) ∧ ((ok = true ∧ z = 0) ∨ (ok = false ∧ (z = 103 ∨ z = 106)))) ∧ Below W.heap.size W w'
theorem ret37 {w : World} {g : Nat} {x0 x1 x2 x3 x4 x5 x6 : Value} {tmps : Array Value} (ht : tmps.getD 6 undef = .pointer (some ⟨g, 0, none⟩)) (hv : FB w g x0 x1 x2 x3 x4 x5 x6) : (results Tryd.f37 tmps).run Tryd.prog w = .ok (.agg #[x0, x1, x2, x3, x4, x5, x6]) w :=
  results_cell_row (P := Tryd.prog) Tryd.results37 tmps w g 48 #[x0, x1, x2, x3, x4, x5, x6] (0, 0) _ ht hv Tryd.underlying48 rfl info48
theorem placeI_bd (op own : Int) (i k : Nat) : 1 ≤ placeI op own i k ∧ placeI op own i k ≤ 9 := by
  unfold placeI
  refine ⟨?_, ?_⟩ <;> (repeat' split) <;> omega
theorem no_kids {op : Int} {n : Nat} (h : op = 1 ∨ op = 45 ∨ op = 46) (hc : countsB op n = true) : n = 0 := by
  rcases h with rfl | rfl | rfl <;> simpa [countsB] using hc
theorem kidsO_eq (op own : Int) (loop : Bool) (n k : Nat) (y : Nd) (ys : List Nd) : kidsO op own loop n k (y :: ys) = (oddB y (placeI op own k n) loop && kidsO op own loop n (k + 1) ys) := by rw [kidsO]

def OddIH (m : Nat) : Prop := ∀ (x : Nd) (own : Int) (loop : Bool) (a a' : Option Addr) (c c' : Nat) (w : World), SizeOf.sizeOf x ≤ m → 1 ≤ own → own ≤ 9 → cntM x ≤ 4097 → SmallN x →
    Fits x.op x.line x.s x.l.length → Fits x.v.kind x.v.n x.v.s x.v.l.length → RepSl (Lo w.heap.size) w a x.v.l → RepNSl (Lo w.heap.size) w a' x.l →
    Calls Tryd.prog 37 #[.agg #[.int .i64 x.op, .int .i64 x.line, .string x.s, .int .i64 x.v.kind, .int .i64 x.v.n, .string x.v.s, .slice a x.v.l.length c, .slice a' x.l.length c'], .int .i64 own, .bool loop] w (NodeOut (oddB x own loop) w)
/-- it has what it has to have -/
def PassO (x : Nd) (own : Int) : Prop := standsR x.op own = true ∧ countsB x.op x.l.length = true ∧ zeroB x.v = true ∧ ¬ badI x.op x.s = 2 ∧ ¬ badI x.op x.s = 1

set_option maxRecDepth 100000 in
set_option maxHeartbeats 40000000 in
theorem odd_fail (m : Nat) (ih : OddIH m) (x : Nd) (own : Int) (loop : Bool) (a a' : Option Addr) (c c' : Nat) (w : World) (hm : SizeOf.sizeOf x ≤ m + 1) (hr0 : 1 ≤ own) (hr1 : own ≤ 9) (hcnt : cntM x ≤ 4097) (hsm : SmallN x)
    (hf : Fits x.op x.line x.s x.l.length) (hfv : Fits x.v.kind x.v.n x.v.s x.v.l.length) (hR : RepSl (Lo w.heap.size) w a x.v.l) (hN : RepNSl (Lo w.heap.size) w a' x.l) (hcl : ¬ x.op = 1 ∧ ¬ x.op = 45 ∧ ¬ x.op = 46) (hp : ¬ PassO x own) :
    Calls Tryd.prog 37 #[.agg #[.int .i64 x.op, .int .i64 x.line, .string x.s, .int .i64 x.v.kind, .int .i64 x.v.n, .string x.v.s, .slice a x.v.l.length c, .slice a' x.l.length c'], .int .i64 own, .bool loop] w (NodeOut (oddB x own loop) w) := by
  obtain ⟨op, line, s, ⟨vk, vn, vs, vl⟩, l⟩ := x
  have hsx := sizeOf_nd (.mk op line s (.mk vk vn vs vl) l)
  have hcx := cntM_eq (.mk op line s (.mk vk vn vs vl) l)
  have hz : oddB (.mk op line s (.mk vk vn vs vl) l) own loop = ((shapeO op own loop s (.mk vk vn vs vl) l.length && !(badI op s == 1)) && kidsO op own (loopR op loop) l.length 0 l) := by rw [oddB]
  have hsmv := hsm.2.1
  have hsml := hsm.2.2
  generalize oddB (.mk op line s (.mk vk vn vs vl) l) own loop = z at hz ⊢
  have hlen := cntL_len l
  have hsv := fun (w' : World) => zero_ref (.mk vk vn vs vl) a c w' hfv
  have hrt := fun (w' : World) (h : Since w w') => right_ref (.mk vk vn vs vl) a c w' hfv hsmv (h.rep (Nat.le_refl _) hR)
  have hvb : valB op (.mk vk vn vs vl) = if op = 1 then litB (.mk vk vn vs vl) else zeroB (.mk vk vn vs vl) := rfl
  unfold litB at hvb
  unfold shapeO at hz
  unfold PassO at hp
  dsimp only [Nd.op, Nd.s, Nd.v, Nd.l] at hp
  generalize zeroB (.mk vk vn vs vl) = zb at hsv hvb hp
  generalize (validM (.mk vk vn vs vl)).isNone = vi at hrt hvb
  generalize valB op (.mk vk vn vs vl) = vb at hvb hz
  dsimp only [Nd.op, Nd.line, Nd.s, Nd.v, Nd.l, Val.kind, Val.n, Val.s, Val.l] at hcnt hf hfv hR hN hsx hcx hsv hrt hvb hcl ⊢
  have IH := Lib.hid ih
  clear ih
  have hv := NV.new w (.int .i64 op) (.int .i64 line) (.string s) (.int .i64 vk) (.int .i64 vn) (.string vs) (.slice a vl.length c) (.slice a' l.length c')
  have hal := bal w (.cells #[.int .i64 op, .int .i64 line, .string s, .int .i64 vk, .int .i64 vn, .string vs, .slice a vl.length c, .slice a' l.length c'] 63)
  have hfb := FB.new (w.alloc (.cells #[.int .i64 op, .int .i64 line, .string s, .int .i64 vk, .int .i64 vn, .string vs, .slice a vl.length c, .slice a' l.length c'] 63)) (.int .i64 0) (.bool false) (.int .i64 0) (.int .i64 0) (.int .i64 0) (.string ⟨#[]⟩) (.slice none 0 0)
  rw [show (w.alloc (.cells #[.int .i64 op, .int .i64 line, .string s, .int .i64 vk, .int .i64 vn, .string vs, .slice a vl.length c, .slice a' l.length c'] 63)).heap.size = w.heap.size + 1 by simp] at hfb
  have hal := hal.trans ((bal (w.alloc (.cells #[.int .i64 op, .int .i64 line, .string s, .int .i64 vk, .int .i64 vn, .string vs, .slice a vl.length c, .slice a' l.length c'] 63)) (.cells #[.int .i64 0, .bool false, .int .i64 0, .int .i64 0, .int .i64 0, .string ⟨#[]⟩, .slice none 0 0] 48)).mono (by simp))
  have hv := hv.below (bal _ (.cells #[.int .i64 0, .bool false, .int .i64 0, .int .i64 0, .int .i64 0, .string ⟨#[]⟩, .slice none 0 0] 48)) hv.lt
  have HSV := Lib.hid hsv
  have HRT := Lib.hid hrt
  have HNA := Lib.hid fun (w' : World) => named_ref op s (.int .i64 line) (.int .i64 vk) (.int .i64 vn) (.string vs) (.slice a vl.length c) (.slice a' l.length c') w' hf.1 hf.2.1 hf.2.2.2.2.1
  have HST := Lib.hid fun (w' : World) => stands_ref op own hr0 hr1 w' hf.1 hf.2.1
  have HCO := Lib.hid fun (w' : World) => counts_ref op l.length (by omega) w' hf.1 hf.2.1
  have HPS := Lib.hid fun (w' : World) => placed_shape line w'
  have HPN := Lib.hid fun (w' : World) => placed_name line w'
  have HNO := Lib.hid fun (w' : World) => none_any w'
  have HPL := Lib.hid fun (i : Nat) (hi : i < l.length) (w' : World) => place_ref op own i l.length hi (by omega) (.int .i64 line) (.string s) (.int .i64 vk) (.int .i64 vn) (.string vs) (.slice a vl.length c) a' c' w' hf.1 hf.2.1
  have HN := Lib.hid fun (w' : World) (h : Since w w') => h.repN (Nat.le_refl _) hN
  have HB0 := Lib.hid hal
  obtain ⟨d0, d1, d2, d3, d4, d5, d6, d7⟩ := hv.all
  have hlt0 := hv.lt
  have HV0 := Lib.hid hv
  have HF0 := Lib.hid hfb
  have HSM := Lib.hid hsml
  have HNK := Lib.hid fun (h : op = 1 ∨ op = 45 ∨ op = 46) => @no_kids op l.length h
  generalize hst : standsR op own = st at HST hz hp
  generalize hct : countsB op l.length = ct at HCO hz HNK hp
  generalize hbd : badI op s = bd at HNA hz hp
  have HZ := Lib.hid hz
  clear hv hal hfb hR hN hf hfv hsm hsmv hsml hz hsv hrt hst hct hbd
  have h1 : ¬ op = 1 := hcl.1
  have h45 : ¬ op = 45 := hcl.2.1
  have h46 : ¬ op = 46 := hcl.2.2
  rw [if_neg h1] at hvb
  have h1' : (op == 1) = false := by simp [h1]
  have h45' : (op == 45) = false := by simp [h45]
  have h46' : (op == 46) = false := by simp [h46]
  cases st
  · skip
    obtain rfl : z = false := by rw [HZ.out]; simp [awayB, *]
    clear HZ
    go_enter Tryd.func37, Tryd.ntmps37
    go_wp2_with fail
    refine (HSV.out _).mono ?_
    rintro e w1 ⟨rfl, hB⟩
    have hsz1 := hB.size
    have hv := HV0.out.below hB hlt0
    have HF1 := Lib.hid (HF0.out.below hB HF0.out.lt)
    have HB1 := Lib.hid (HB0.out.trans (hB.mono HB0.out.size))
    have hlt1 := hv.lt
    clear d0 d1 d2 d3 d4 d5 d6 d7
    obtain ⟨d0, d1, d2, d3, d4, d5, d6, d7⟩ := hv.all
    have HV1 := Lib.hid hv
    clear hv hB
    go_wp2_with fail
    refine (HNA.out _).mono ?_
    rintro e w2 ⟨rfl, hB⟩
    have hsz2 := hB.size
    have hv := HV1.out.below hB hlt1
    have HF2 := Lib.hid (HF1.out.below hB HF1.out.lt)
    have HB2 := Lib.hid (HB1.out.trans (hB.mono HB1.out.size))
    have hlt2 := hv.lt
    clear d0 d1 d2 d3 d4 d5 d6 d7
    obtain ⟨d0, d1, d2, d3, d4, d5, d6, d7⟩ := hv.all
    have HV2 := Lib.hid hv
    clear hv hB
    go_wp2_with fail
    refine (HST.out _).mono ?_
    rintro e w3 ⟨rfl, hB⟩
    have hsz3 := hB.size
    have hv := HV2.out.below hB hlt2
    have HF3 := Lib.hid (HF2.out.below hB HF2.out.lt)
    have HB3 := Lib.hid (HB2.out.trans (hB.mono HB2.out.size))
    have hlt3 := hv.lt
    clear d0 d1 d2 d3 d4 d5 d6 d7
    obtain ⟨d0, d1, d2, d3, d4, d5, d6, d7⟩ := hv.all
    have HV3 := Lib.hid hv
    clear hv hB
    go_wp2_with fail
    refine (HPS.out _).mono ?_
    rintro e w4 ⟨pl, pos, rfl, hB⟩
    have hv2 := HF3.out.below hB HF3.out.lt
    have HV2 := Lib.hid hv2
    have HB3 := Lib.hid (HB3.out.trans (hB.mono HB3.out.size))
    clear d0 d1 d2 d3 d4 d5 d6 d7
    obtain ⟨c0, c1, c2, c3, c4, c5, c6, f0, f1, f2, f3, f4, f5, f6⟩ := hv2.all
    clear hv2 hB
    go_wp2_with fail
    have hset := HV2.out.set (.int .i64 103) (.bool pl) (.int .i64 pos) (.int .i64 0) (.int .i64 0) (.string ⟨#[]⟩) (.slice none 0 0)
    have hbs := below_set7 (g := w.heap.size + 1) HB3.out (Nat.le_succ _) (.int .i64 103) (.bool pl) (.int .i64 pos) (.int .i64 0) (.int .i64 0) (.string ⟨#[]⟩) (.slice none 0 0)
    generalize (((((((w4.setCell ⟨w.heap.size + 1, 0, none⟩ (.int .i64 103)).setCell ⟨w.heap.size + 1, 1, none⟩ (.bool pl)).setCell ⟨w.heap.size + 1, 2, none⟩ (.int .i64 pos)).setCell ⟨w.heap.size + 1, 3, none⟩ (.int .i64 0)).setCell ⟨w.heap.size + 1, 4, none⟩ (.int .i64 0)).setCell ⟨w.heap.size + 1, 5, none⟩ (.string ⟨#[]⟩)).setCell ⟨w.heap.size + 1, 6, none⟩ (.slice none 0 0)) = w6 at hset hbs ⊢
    exact bodyPost_ret (ret37 rfl hset) rfl ⟨⟨103, pl, pos, rfl, .inr ⟨rfl, .inl rfl⟩⟩, hbs⟩
  · cases ct
    · skip
      obtain rfl : z = false := by rw [HZ.out]; simp [awayB, *]
      clear HZ
      go_enter Tryd.func37, Tryd.ntmps37
      go_wp2_with fail
      refine (HSV.out _).mono ?_
      rintro e w1 ⟨rfl, hB⟩
      have hsz1 := hB.size
      have hv := HV0.out.below hB hlt0
      have HF1 := Lib.hid (HF0.out.below hB HF0.out.lt)
      have HB1 := Lib.hid (HB0.out.trans (hB.mono HB0.out.size))
      have hlt1 := hv.lt
      clear d0 d1 d2 d3 d4 d5 d6 d7
      obtain ⟨d0, d1, d2, d3, d4, d5, d6, d7⟩ := hv.all
      have HV1 := Lib.hid hv
      clear hv hB
      go_wp2_with fail
      refine (HNA.out _).mono ?_
      rintro e w2 ⟨rfl, hB⟩
      have hsz2 := hB.size
      have hv := HV1.out.below hB hlt1
      have HF2 := Lib.hid (HF1.out.below hB HF1.out.lt)
      have HB2 := Lib.hid (HB1.out.trans (hB.mono HB1.out.size))
      have hlt2 := hv.lt
      clear d0 d1 d2 d3 d4 d5 d6 d7
      obtain ⟨d0, d1, d2, d3, d4, d5, d6, d7⟩ := hv.all
      have HV2 := Lib.hid hv
      clear hv hB
      go_wp2_with fail
      refine (HST.out _).mono ?_
      rintro e w3 ⟨rfl, hB⟩
      have hsz3 := hB.size
      have hv := HV2.out.below hB hlt2
      have HF3 := Lib.hid (HF2.out.below hB HF2.out.lt)
      have HB3 := Lib.hid (HB2.out.trans (hB.mono HB2.out.size))
      have hlt3 := hv.lt
      clear d0 d1 d2 d3 d4 d5 d6 d7
      obtain ⟨d0, d1, d2, d3, d4, d5, d6, d7⟩ := hv.all
      have HV3 := Lib.hid hv
      clear hv hB
      go_wp2_with fail
      refine (HCO.out _).mono ?_
      rintro e w4 ⟨rfl, hB⟩
      have hsz4 := hB.size
      have hv := HV3.out.below hB hlt3
      have HF4 := Lib.hid (HF3.out.below hB HF3.out.lt)
      have HB4 := Lib.hid (HB3.out.trans (hB.mono HB3.out.size))
      have hlt4 := hv.lt
      clear d0 d1 d2 d3 d4 d5 d6 d7
      obtain ⟨d0, d1, d2, d3, d4, d5, d6, d7⟩ := hv.all
      have HV4 := Lib.hid hv
      clear hv hB
      go_wp2_with fail
      refine (HPS.out _).mono ?_
      rintro e w5 ⟨pl, pos, rfl, hB⟩
      have hv2 := HF4.out.below hB HF4.out.lt
      have HV2 := Lib.hid hv2
      have HB3 := Lib.hid (HB4.out.trans (hB.mono HB4.out.size))
      clear d0 d1 d2 d3 d4 d5 d6 d7
      obtain ⟨c0, c1, c2, c3, c4, c5, c6, f0, f1, f2, f3, f4, f5, f6⟩ := hv2.all
      clear hv2 hB
      go_wp2_with fail
      have hset := HV2.out.set (.int .i64 103) (.bool pl) (.int .i64 pos) (.int .i64 0) (.int .i64 0) (.string ⟨#[]⟩) (.slice none 0 0)
      have hbs := below_set7 (g := w.heap.size + 1) HB3.out (Nat.le_succ _) (.int .i64 103) (.bool pl) (.int .i64 pos) (.int .i64 0) (.int .i64 0) (.string ⟨#[]⟩) (.slice none 0 0)
      generalize (((((((w5.setCell ⟨w.heap.size + 1, 0, none⟩ (.int .i64 103)).setCell ⟨w.heap.size + 1, 1, none⟩ (.bool pl)).setCell ⟨w.heap.size + 1, 2, none⟩ (.int .i64 pos)).setCell ⟨w.heap.size + 1, 3, none⟩ (.int .i64 0)).setCell ⟨w.heap.size + 1, 4, none⟩ (.int .i64 0)).setCell ⟨w.heap.size + 1, 5, none⟩ (.string ⟨#[]⟩)).setCell ⟨w.heap.size + 1, 6, none⟩ (.slice none 0 0)) = w6 at hset hbs ⊢
      exact bodyPost_ret (ret37 rfl hset) rfl ⟨⟨103, pl, pos, rfl, .inr ⟨rfl, .inl rfl⟩⟩, hbs⟩
    · skip
      cases zb
      · subst hvb
        obtain rfl : z = false := by rw [HZ.out]; simp [awayB, *]
        clear HZ
        go_enter Tryd.func37, Tryd.ntmps37
        go_wp2_with fail
        refine (HSV.out _).mono ?_
        rintro e w1 ⟨rfl, hB⟩
        have hsz1 := hB.size
        have hv := HV0.out.below hB hlt0
        have HF1 := Lib.hid (HF0.out.below hB HF0.out.lt)
        have HB1 := Lib.hid (HB0.out.trans (hB.mono HB0.out.size))
        have hlt1 := hv.lt
        clear d0 d1 d2 d3 d4 d5 d6 d7
        obtain ⟨d0, d1, d2, d3, d4, d5, d6, d7⟩ := hv.all
        have HV1 := Lib.hid hv
        clear hv hB
        go_wp2_with fail
        refine (HNA.out _).mono ?_
        rintro e w2 ⟨rfl, hB⟩
        have hsz2 := hB.size
        have hv := HV1.out.below hB hlt1
        have HF2 := Lib.hid (HF1.out.below hB HF1.out.lt)
        have HB2 := Lib.hid (HB1.out.trans (hB.mono HB1.out.size))
        have hlt2 := hv.lt
        clear d0 d1 d2 d3 d4 d5 d6 d7
        obtain ⟨d0, d1, d2, d3, d4, d5, d6, d7⟩ := hv.all
        have HV2 := Lib.hid hv
        clear hv hB
        go_wp2_with fail
        refine (HST.out _).mono ?_
        rintro e w3 ⟨rfl, hB⟩
        have hsz3 := hB.size
        have hv := HV2.out.below hB hlt2
        have HF3 := Lib.hid (HF2.out.below hB HF2.out.lt)
        have HB3 := Lib.hid (HB2.out.trans (hB.mono HB2.out.size))
        have hlt3 := hv.lt
        clear d0 d1 d2 d3 d4 d5 d6 d7
        obtain ⟨d0, d1, d2, d3, d4, d5, d6, d7⟩ := hv.all
        have HV3 := Lib.hid hv
        clear hv hB
        go_wp2_with fail
        refine (HCO.out _).mono ?_
        rintro e w4 ⟨rfl, hB⟩
        have hsz4 := hB.size
        have hv := HV3.out.below hB hlt3
        have HF4 := Lib.hid (HF3.out.below hB HF3.out.lt)
        have HB4 := Lib.hid (HB3.out.trans (hB.mono HB3.out.size))
        have hlt4 := hv.lt
        clear d0 d1 d2 d3 d4 d5 d6 d7
        obtain ⟨d0, d1, d2, d3, d4, d5, d6, d7⟩ := hv.all
        have HV4 := Lib.hid hv
        clear hv hB
        go_wp2_with fail
        refine (HPS.out _).mono ?_
        rintro e w5 ⟨pl, pos, rfl, hB⟩
        have hv2 := HF4.out.below hB HF4.out.lt
        have HV2 := Lib.hid hv2
        have HB3 := Lib.hid (HB4.out.trans (hB.mono HB4.out.size))
        clear d0 d1 d2 d3 d4 d5 d6 d7
        obtain ⟨c0, c1, c2, c3, c4, c5, c6, f0, f1, f2, f3, f4, f5, f6⟩ := hv2.all
        clear hv2 hB
        go_wp2_with fail
        have hset := HV2.out.set (.int .i64 103) (.bool pl) (.int .i64 pos) (.int .i64 0) (.int .i64 0) (.string ⟨#[]⟩) (.slice none 0 0)
        have hbs := below_set7 (g := w.heap.size + 1) HB3.out (Nat.le_succ _) (.int .i64 103) (.bool pl) (.int .i64 pos) (.int .i64 0) (.int .i64 0) (.string ⟨#[]⟩) (.slice none 0 0)
        generalize (((((((w5.setCell ⟨w.heap.size + 1, 0, none⟩ (.int .i64 103)).setCell ⟨w.heap.size + 1, 1, none⟩ (.bool pl)).setCell ⟨w.heap.size + 1, 2, none⟩ (.int .i64 pos)).setCell ⟨w.heap.size + 1, 3, none⟩ (.int .i64 0)).setCell ⟨w.heap.size + 1, 4, none⟩ (.int .i64 0)).setCell ⟨w.heap.size + 1, 5, none⟩ (.string ⟨#[]⟩)).setCell ⟨w.heap.size + 1, 6, none⟩ (.slice none 0 0)) = w6 at hset hbs ⊢
        exact bodyPost_ret (ret37 rfl hset) rfl ⟨⟨103, pl, pos, rfl, .inr ⟨rfl, .inl rfl⟩⟩, hbs⟩
      · subst hvb
        by_cases hb2 : bd = 2
        · subst hb2
          obtain rfl : z = false := by rw [HZ.out]; simp [awayB, *]
          clear HZ
          go_enter Tryd.func37, Tryd.ntmps37
          go_wp2_with fail
          refine (HSV.out _).mono ?_
          rintro e w1 ⟨rfl, hB⟩
          have hsz1 := hB.size
          have hv := HV0.out.below hB hlt0
          have HF1 := Lib.hid (HF0.out.below hB HF0.out.lt)
          have HB1 := Lib.hid (HB0.out.trans (hB.mono HB0.out.size))
          have hlt1 := hv.lt
          clear d0 d1 d2 d3 d4 d5 d6 d7
          obtain ⟨d0, d1, d2, d3, d4, d5, d6, d7⟩ := hv.all
          have HV1 := Lib.hid hv
          clear hv hB
          go_wp2_with fail
          refine (HNA.out _).mono ?_
          rintro e w2 ⟨rfl, hB⟩
          have hsz2 := hB.size
          have hv := HV1.out.below hB hlt1
          have HF2 := Lib.hid (HF1.out.below hB HF1.out.lt)
          have HB2 := Lib.hid (HB1.out.trans (hB.mono HB1.out.size))
          have hlt2 := hv.lt
          clear d0 d1 d2 d3 d4 d5 d6 d7
          obtain ⟨d0, d1, d2, d3, d4, d5, d6, d7⟩ := hv.all
          have HV2 := Lib.hid hv
          clear hv hB
          go_wp2_with fail
          refine (HST.out _).mono ?_
          rintro e w3 ⟨rfl, hB⟩
          have hsz3 := hB.size
          have hv := HV2.out.below hB hlt2
          have HF3 := Lib.hid (HF2.out.below hB HF2.out.lt)
          have HB3 := Lib.hid (HB2.out.trans (hB.mono HB2.out.size))
          have hlt3 := hv.lt
          clear d0 d1 d2 d3 d4 d5 d6 d7
          obtain ⟨d0, d1, d2, d3, d4, d5, d6, d7⟩ := hv.all
          have HV3 := Lib.hid hv
          clear hv hB
          go_wp2_with fail
          refine (HCO.out _).mono ?_
          rintro e w4 ⟨rfl, hB⟩
          have hsz4 := hB.size
          have hv := HV3.out.below hB hlt3
          have HF4 := Lib.hid (HF3.out.below hB HF3.out.lt)
          have HB4 := Lib.hid (HB3.out.trans (hB.mono HB3.out.size))
          have hlt4 := hv.lt
          clear d0 d1 d2 d3 d4 d5 d6 d7
          obtain ⟨d0, d1, d2, d3, d4, d5, d6, d7⟩ := hv.all
          have HV4 := Lib.hid hv
          clear hv hB
          go_wp2_with fail
          refine (HPS.out _).mono ?_
          rintro e w5 ⟨pl, pos, rfl, hB⟩
          have hv2 := HF4.out.below hB HF4.out.lt
          have HV2 := Lib.hid hv2
          have HB3 := Lib.hid (HB4.out.trans (hB.mono HB4.out.size))
          clear d0 d1 d2 d3 d4 d5 d6 d7
          obtain ⟨c0, c1, c2, c3, c4, c5, c6, f0, f1, f2, f3, f4, f5, f6⟩ := hv2.all
          clear hv2 hB
          go_wp2_with fail
          have hset := HV2.out.set (.int .i64 103) (.bool pl) (.int .i64 pos) (.int .i64 0) (.int .i64 0) (.string ⟨#[]⟩) (.slice none 0 0)
          have hbs := below_set7 (g := w.heap.size + 1) HB3.out (Nat.le_succ _) (.int .i64 103) (.bool pl) (.int .i64 pos) (.int .i64 0) (.int .i64 0) (.string ⟨#[]⟩) (.slice none 0 0)
          generalize (((((((w5.setCell ⟨w.heap.size + 1, 0, none⟩ (.int .i64 103)).setCell ⟨w.heap.size + 1, 1, none⟩ (.bool pl)).setCell ⟨w.heap.size + 1, 2, none⟩ (.int .i64 pos)).setCell ⟨w.heap.size + 1, 3, none⟩ (.int .i64 0)).setCell ⟨w.heap.size + 1, 4, none⟩ (.int .i64 0)).setCell ⟨w.heap.size + 1, 5, none⟩ (.string ⟨#[]⟩)).setCell ⟨w.heap.size + 1, 6, none⟩ (.slice none 0 0)) = w6 at hset hbs ⊢
          exact bodyPost_ret (ret37 rfl hset) rfl ⟨⟨103, pl, pos, rfl, .inr ⟨rfl, .inl rfl⟩⟩, hbs⟩
        · have hb2' : (bd == 2) = false := by simp [hb2]
          by_cases hb1 : bd = 1
          · subst hb1
            obtain rfl : z = false := by rw [HZ.out]; simp [awayB, *]
            clear HZ
            go_enter Tryd.func37, Tryd.ntmps37
            go_wp2_with fail
            refine (HSV.out _).mono ?_
            rintro e w1 ⟨rfl, hB⟩
            have hsz1 := hB.size
            have hv := HV0.out.below hB hlt0
            have HF1 := Lib.hid (HF0.out.below hB HF0.out.lt)
            have HB1 := Lib.hid (HB0.out.trans (hB.mono HB0.out.size))
            have hlt1 := hv.lt
            clear d0 d1 d2 d3 d4 d5 d6 d7
            obtain ⟨d0, d1, d2, d3, d4, d5, d6, d7⟩ := hv.all
            have HV1 := Lib.hid hv
            clear hv hB
            go_wp2_with fail
            refine (HNA.out _).mono ?_
            rintro e w2 ⟨rfl, hB⟩
            have hsz2 := hB.size
            have hv := HV1.out.below hB hlt1
            have HF2 := Lib.hid (HF1.out.below hB HF1.out.lt)
            have HB2 := Lib.hid (HB1.out.trans (hB.mono HB1.out.size))
            have hlt2 := hv.lt
            clear d0 d1 d2 d3 d4 d5 d6 d7
            obtain ⟨d0, d1, d2, d3, d4, d5, d6, d7⟩ := hv.all
            have HV2 := Lib.hid hv
            clear hv hB
            go_wp2_with fail
            refine (HST.out _).mono ?_
            rintro e w3 ⟨rfl, hB⟩
            have hsz3 := hB.size
            have hv := HV2.out.below hB hlt2
            have HF3 := Lib.hid (HF2.out.below hB HF2.out.lt)
            have HB3 := Lib.hid (HB2.out.trans (hB.mono HB2.out.size))
            have hlt3 := hv.lt
            clear d0 d1 d2 d3 d4 d5 d6 d7
            obtain ⟨d0, d1, d2, d3, d4, d5, d6, d7⟩ := hv.all
            have HV3 := Lib.hid hv
            clear hv hB
            go_wp2_with fail
            refine (HCO.out _).mono ?_
            rintro e w4 ⟨rfl, hB⟩
            have hsz4 := hB.size
            have hv := HV3.out.below hB hlt3
            have HF4 := Lib.hid (HF3.out.below hB HF3.out.lt)
            have HB4 := Lib.hid (HB3.out.trans (hB.mono HB3.out.size))
            have hlt4 := hv.lt
            clear d0 d1 d2 d3 d4 d5 d6 d7
            obtain ⟨d0, d1, d2, d3, d4, d5, d6, d7⟩ := hv.all
            have HV4 := Lib.hid hv
            clear hv hB
            go_wp2_with fail
            refine (HPN.out _).mono ?_
            rintro e w5 ⟨pl, pos, rfl, hB⟩
            have hv2 := HF4.out.below hB HF4.out.lt
            have HV2 := Lib.hid hv2
            have HB3 := Lib.hid (HB4.out.trans (hB.mono HB4.out.size))
            clear d0 d1 d2 d3 d4 d5 d6 d7
            obtain ⟨c0, c1, c2, c3, c4, c5, c6, f0, f1, f2, f3, f4, f5, f6⟩ := hv2.all
            clear hv2 hB
            go_wp2_with fail
            have hset := HV2.out.set (.int .i64 106) (.bool pl) (.int .i64 pos) (.int .i64 0) (.int .i64 0) (.string ⟨#[]⟩) (.slice none 0 0)
            have hbs := below_set7 (g := w.heap.size + 1) HB3.out (Nat.le_succ _) (.int .i64 106) (.bool pl) (.int .i64 pos) (.int .i64 0) (.int .i64 0) (.string ⟨#[]⟩) (.slice none 0 0)
            generalize (((((((w5.setCell ⟨w.heap.size + 1, 0, none⟩ (.int .i64 106)).setCell ⟨w.heap.size + 1, 1, none⟩ (.bool pl)).setCell ⟨w.heap.size + 1, 2, none⟩ (.int .i64 pos)).setCell ⟨w.heap.size + 1, 3, none⟩ (.int .i64 0)).setCell ⟨w.heap.size + 1, 4, none⟩ (.int .i64 0)).setCell ⟨w.heap.size + 1, 5, none⟩ (.string ⟨#[]⟩)).setCell ⟨w.heap.size + 1, 6, none⟩ (.slice none 0 0)) = w6 at hset hbs ⊢
            exact bodyPost_ret (ret37 rfl hset) rfl ⟨⟨106, pl, pos, rfl, .inr ⟨rfl, .inr rfl⟩⟩, hbs⟩
          · have hb1' : (bd == 1) = false := by simp [hb1]
            exact absurd ⟨rfl, rfl, rfl, hb2, hb1⟩ hp
end Go.Proofs.YtmkghfkikclodaaDoor
