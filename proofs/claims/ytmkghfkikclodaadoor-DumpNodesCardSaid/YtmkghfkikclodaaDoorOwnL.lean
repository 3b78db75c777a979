/- What is amiss with what a node itself has: all nodes. -/
import Derived.Test.YtmkghfkikclodaaDoorOwnP
import Derived.Test.YtmkghfkikclodaaDoorNdD
set_option linter.unusedVariables false
set_option linter.unusedSimpArgs false
namespace Go.Proofs.YtmkghfkikclodaaDoor
open Go.RowKit

theorem Errs.less {N M : Nat} {p : Nat → Addr} {w : World} (h : Errs N p w) (hM : M ≤ N) : Errs M p w := fun g hg => h g (by omega)
set_option maxRecDepth 100000 in
set_option maxHeartbeats 4000000 in
theorem own_lit (p : Nat → Addr) (op line role : Int) (loop : Bool) (s : ByteArray) (v : Val) (n : Nat) (a a' : Option Addr) (c c' : Nat) (w : World) (hw : 6 ≤ w.heap.size) (hr0 : 0 ≤ role) (hr1 : role ≤ 8) (hn : n ≤ 4096) (ho1 : -9223372036854775808 ≤ op) (ho2 : op ≤ 9223372036854775807)
    (hss : s.size ≤ 9223372036854775807) (hE : Errs 6 p w) (hf : fairB op role loop = true) (ho : op = 1) (hfv : Fits v.kind v.n v.s v.l.length) (hR : RepSl (Lo w.heap.size) w a v.l) :
    Calls Tryd.prog 75 #[.agg #[.int .i64 op, .int .i64 line, .string s, .int .i64 v.kind, .int .i64 v.n, .string v.s, .slice a v.l.length c, .slice a' n c'], .int .i64 role, .bool loop] w (ErrOut p w (ownM op role loop s v n)) := by
  have hv := NV.new w (.int .i64 op) (.int .i64 line) (.string s) (.int .i64 v.kind) (.int .i64 v.n) (.string v.s) (.slice a v.l.length c) (.slice a' n c')
  have hal := bal w (.cells #[.int .i64 op, .int .i64 line, .string s, .int .i64 v.kind, .int .i64 v.n, .string v.s, .slice a v.l.length c, .slice a' n c'] 63)
  have HAL := Lib.hid hal
  obtain ⟨d0, d1, d2, d3, d4, d5, d6, d7⟩ := hv.all
  have hlt := hv.lt
  have HV := Lib.hid hv
  have HE := Lib.hid hE
  clear hv hal hE
  have HST := Lib.hid fun (w' : World) => stands_any op role (.int .i64 line) (.string s) (.int .i64 v.kind) (.int .i64 v.n) (.string v.s) (.slice a v.l.length c) (.slice a' n c') hr0 hr1 w' ho1 ho2
  have HRO := Lib.hid fun (w' : World) => roles_any op (.int .i64 line) (.string s) (.int .i64 v.kind) (.int .i64 v.n) (.string v.s) (.slice a v.l.length c) a' n c' hn w'
  have HNA := Lib.hid fun (w' : World) => named_any op w' ho1 ho2
  subst ho
  have HRO := Lib.hid fun (w' : World) => show Calls Tryd.prog 76 _ w' (FullOut (fullB 1 n) w') from (HRO.out w').mono fun e w1 h => by obtain ⟨rv, he, -, hB⟩ := h; exact ⟨rv, he, trivial, hB⟩
  have HVA := Lib.hid fun (w' : World) (h : Since w w') => valid_any p v a c w' (by have := h.1; omega) hfv (h.rep (Nat.le_refl _) hR) (fun g hg => by rw [World.cell?_of_block (h.2 g (by omega))]; exact HE.out g (by omega))
  have hexp := own_eq 1 role loop s v n hf
  generalize ownM 1 role loop s v n = exp at hexp ⊢
  rw [show valB 1 v = litB v from if_pos rfl, show namedB 1 = false from rfl] at hexp
  have hz : litB v = (!(v.kind == 4) && ((validM v).isNone && (!(v.kind == 0) || !(v.n == -9223372036854775808)))) := rfl
  rw [hz] at hexp
  rw [show namedB 1 = false from rfl, show ((1 : Int) == 50) = false from rfl] at HNA
  generalize hfb : fullB 1 n = fb at HRO hexp
  generalize validM v = vm at HVA hexp
  clear hR hfv
  generalize v.kind = vk at *
  generalize v.n = vn at *
  generalize v.s = vs at *
  generalize v.l.length = vl at *
  clear hz hfb
  rcases fair_split 1 role loop with ⟨h1, -⟩ | ⟨h1, -⟩ | ⟨h1, -⟩ | ⟨-, h, h2⟩ | ⟨-, h, h2, h3, h4⟩
  · rw [hf] at h1; cases h1
  · rw [hf] at h1; cases h1
  · rw [hf] at h1; cases h1
  · rw [h] at HST
    subst h2
    cases q1 : (vk == 4)
    · have q1' : vk ≠ 4 := by simpa using q1
      have q1'' : (vk != 4) = true := by simpa using q1'
      cases vm with
      | some ge =>
        obtain rfl : exp = some 2 := hexp.trans (by simp [*])
        clear hexp
        go_enter Tryd.func75, Tryd.ntmps75
        go_wp2_with fail
        refine (HST.out _).mono ?_
        rintro e w1 ⟨rfl, hB⟩
        have hsz1 := hB.size
        have hv := HV.out.below hB hlt
        have hB0 := HAL.out.trans (hB.mono HAL.out.size)
        have HB1 := Lib.hid hB0
        have hlt1 := hv.lt
        clear d0 d1 d2 d3 d4 d5 d6 d7
        obtain ⟨d0, d1, d2, d3, d4, d5, d6, d7⟩ := hv.all
        have HV1 := Lib.hid hv
        clear hv hB hB0
        go_wp2_with fail
        refine (HVA.out _ (Since.of HB1.out)).mono ?_
        rintro e w2 ⟨rfl, hB⟩
        have hsz2 := hB.size
        have hv := HV1.out.below hB hlt1
        have hB0 := HB1.out.trans (hB.mono HB1.out.size)
        have HB2 := Lib.hid hB0
        have hlt2 := hv.lt
        clear d0 d1 d2 d3 d4 d5 d6 d7
        obtain ⟨d0, d1, d2, d3, d4, d5, d6, d7⟩ := hv.all
        have HV2 := Lib.hid hv
        clear hv hB hB0
        try unfold errO
        try unfold errV
        go_wp2_with fail
        refine (HRO.out _).mono ?_
        rintro e w3 ⟨rv, rfl, -, hB⟩
        have hsz3 := hB.size
        have hv := HV2.out.below hB hlt2
        have hB0 := HB2.out.trans (hB.mono HB2.out.size)
        have HB3 := Lib.hid hB0
        have hlt3 := hv.lt
        clear d0 d1 d2 d3 d4 d5 d6 d7
        obtain ⟨d0, d1, d2, d3, d4, d5, d6, d7⟩ := hv.all
        have HV3 := Lib.hid hv
        clear hv hB hB0
        go_wp2_with fail
        refine (HNA.out _).mono ?_
        rintro e w4 ⟨rfl, hB⟩
        have hsz4 := hB.size
        have hv := HV3.out.below hB hlt3
        have hB0 := HB3.out.trans (hB.mono HB3.out.size)
        have HB4 := Lib.hid hB0
        have hlt4 := hv.lt
        clear d0 d1 d2 d3 d4 d5 d6 d7
        obtain ⟨d0, d1, d2, d3, d4, d5, d6, d7⟩ := hv.all
        have HV4 := Lib.hid hv
        clear hv hB hB0
        have d8 := HE.out.below HB4.out hw 2 (by decide)
        have d9 := HE.out.below HB4.out hw 5 (by decide)
        unfold errV at d8 d9
        go_wp2_with fail
        all_goals
          go_ret
          exact ⟨rfl, HB4.out⟩
      | none =>
        cases q2 : (vk == 0)
        · have q2' : vk ≠ 0 := by simpa using q2
          have q2'' : (vk != 0) = true := by simpa using q2'
          cases fb
          · skip
            obtain rfl : exp = some 2 := hexp.trans (by simp [*])
            clear hexp
            go_enter Tryd.func75, Tryd.ntmps75
            go_wp2_with fail
            refine (HST.out _).mono ?_
            rintro e w1 ⟨rfl, hB⟩
            have hsz1 := hB.size
            have hv := HV.out.below hB hlt
            have hB0 := HAL.out.trans (hB.mono HAL.out.size)
            have HB1 := Lib.hid hB0
            have hlt1 := hv.lt
            clear d0 d1 d2 d3 d4 d5 d6 d7
            obtain ⟨d0, d1, d2, d3, d4, d5, d6, d7⟩ := hv.all
            have HV1 := Lib.hid hv
            clear hv hB hB0
            go_wp2_with fail
            refine (HVA.out _ (Since.of HB1.out)).mono ?_
            rintro e w2 ⟨rfl, hB⟩
            have hsz2 := hB.size
            have hv := HV1.out.below hB hlt1
            have hB0 := HB1.out.trans (hB.mono HB1.out.size)
            have HB2 := Lib.hid hB0
            have hlt2 := hv.lt
            clear d0 d1 d2 d3 d4 d5 d6 d7
            obtain ⟨d0, d1, d2, d3, d4, d5, d6, d7⟩ := hv.all
            have HV2 := Lib.hid hv
            clear hv hB hB0
            try unfold errO
            try unfold errV
            go_wp2_with fail
            refine (HRO.out _).mono ?_
            rintro e w3 ⟨rv, rfl, -, hB⟩
            have hsz3 := hB.size
            have hv := HV2.out.below hB hlt2
            have hB0 := HB2.out.trans (hB.mono HB2.out.size)
            have HB3 := Lib.hid hB0
            have hlt3 := hv.lt
            clear d0 d1 d2 d3 d4 d5 d6 d7
            obtain ⟨d0, d1, d2, d3, d4, d5, d6, d7⟩ := hv.all
            have HV3 := Lib.hid hv
            clear hv hB hB0
            go_wp2_with fail
            refine (HNA.out _).mono ?_
            rintro e w4 ⟨rfl, hB⟩
            have hsz4 := hB.size
            have hv := HV3.out.below hB hlt3
            have hB0 := HB3.out.trans (hB.mono HB3.out.size)
            have HB4 := Lib.hid hB0
            have hlt4 := hv.lt
            clear d0 d1 d2 d3 d4 d5 d6 d7
            obtain ⟨d0, d1, d2, d3, d4, d5, d6, d7⟩ := hv.all
            have HV4 := Lib.hid hv
            clear hv hB hB0
            have d8 := HE.out.below HB4.out hw 2 (by decide)
            have d9 := HE.out.below HB4.out hw 5 (by decide)
            unfold errV at d8 d9
            go_wp2_with fail
            all_goals
              go_ret
              exact ⟨rfl, HB4.out⟩
          · skip
            cases q5 : emptyB s
            · have q5' : s.toList.isEmpty = false := q5
              have q52 : ¬ s.toList = [] := by intro h0; rw [h0] at q5'; cases q5'
              obtain rfl : exp = some 2 := hexp.trans (by simp [*])
              clear hexp
              go_enter Tryd.func75, Tryd.ntmps75
              go_wp2_with fail
              refine (HST.out _).mono ?_
              rintro e w1 ⟨rfl, hB⟩
              have hsz1 := hB.size
              have hv := HV.out.below hB hlt
              have hB0 := HAL.out.trans (hB.mono HAL.out.size)
              have HB1 := Lib.hid hB0
              have hlt1 := hv.lt
              clear d0 d1 d2 d3 d4 d5 d6 d7
              obtain ⟨d0, d1, d2, d3, d4, d5, d6, d7⟩ := hv.all
              have HV1 := Lib.hid hv
              clear hv hB hB0
              go_wp2_with fail
              refine (HVA.out _ (Since.of HB1.out)).mono ?_
              rintro e w2 ⟨rfl, hB⟩
              have hsz2 := hB.size
              have hv := HV1.out.below hB hlt1
              have hB0 := HB1.out.trans (hB.mono HB1.out.size)
              have HB2 := Lib.hid hB0
              have hlt2 := hv.lt
              clear d0 d1 d2 d3 d4 d5 d6 d7
              obtain ⟨d0, d1, d2, d3, d4, d5, d6, d7⟩ := hv.all
              have HV2 := Lib.hid hv
              clear hv hB hB0
              try unfold errO
              try unfold errV
              go_wp2_with fail
              refine (HRO.out _).mono ?_
              rintro e w3 ⟨rv, rfl, -, hB⟩
              have hsz3 := hB.size
              have hv := HV2.out.below hB hlt2
              have hB0 := HB2.out.trans (hB.mono HB2.out.size)
              have HB3 := Lib.hid hB0
              have hlt3 := hv.lt
              clear d0 d1 d2 d3 d4 d5 d6 d7
              obtain ⟨d0, d1, d2, d3, d4, d5, d6, d7⟩ := hv.all
              have HV3 := Lib.hid hv
              clear hv hB hB0
              go_wp2_with fail
              refine (HNA.out _).mono ?_
              rintro e w4 ⟨rfl, hB⟩
              have hsz4 := hB.size
              have hv := HV3.out.below hB hlt3
              have hB0 := HB3.out.trans (hB.mono HB3.out.size)
              have HB4 := Lib.hid hB0
              have hlt4 := hv.lt
              clear d0 d1 d2 d3 d4 d5 d6 d7
              obtain ⟨d0, d1, d2, d3, d4, d5, d6, d7⟩ := hv.all
              have HV4 := Lib.hid hv
              clear hv hB hB0
              have d8 := HE.out.below HB4.out hw 2 (by decide)
              have d9 := HE.out.below HB4.out hw 5 (by decide)
              unfold errV at d8 d9
              go_wp2_with fail
              all_goals
                go_ret
                exact ⟨rfl, HB4.out⟩
            · have q5' : s.toList.isEmpty = true := q5
              have q52 : s.toList = [] := by simpa using q5'
              obtain rfl : exp = Option.none := hexp.trans (by simp [*])
              clear hexp
              go_enter Tryd.func75, Tryd.ntmps75
              go_wp2_with fail
              refine (HST.out _).mono ?_
              rintro e w1 ⟨rfl, hB⟩
              have hsz1 := hB.size
              have hv := HV.out.below hB hlt
              have hB0 := HAL.out.trans (hB.mono HAL.out.size)
              have HB1 := Lib.hid hB0
              have hlt1 := hv.lt
              clear d0 d1 d2 d3 d4 d5 d6 d7
              obtain ⟨d0, d1, d2, d3, d4, d5, d6, d7⟩ := hv.all
              have HV1 := Lib.hid hv
              clear hv hB hB0
              go_wp2_with fail
              refine (HVA.out _ (Since.of HB1.out)).mono ?_
              rintro e w2 ⟨rfl, hB⟩
              have hsz2 := hB.size
              have hv := HV1.out.below hB hlt1
              have hB0 := HB1.out.trans (hB.mono HB1.out.size)
              have HB2 := Lib.hid hB0
              have hlt2 := hv.lt
              clear d0 d1 d2 d3 d4 d5 d6 d7
              obtain ⟨d0, d1, d2, d3, d4, d5, d6, d7⟩ := hv.all
              have HV2 := Lib.hid hv
              clear hv hB hB0
              try unfold errO
              try unfold errV
              go_wp2_with fail
              refine (HRO.out _).mono ?_
              rintro e w3 ⟨rv, rfl, -, hB⟩
              have hsz3 := hB.size
              have hv := HV2.out.below hB hlt2
              have hB0 := HB2.out.trans (hB.mono HB2.out.size)
              have HB3 := Lib.hid hB0
              have hlt3 := hv.lt
              clear d0 d1 d2 d3 d4 d5 d6 d7
              obtain ⟨d0, d1, d2, d3, d4, d5, d6, d7⟩ := hv.all
              have HV3 := Lib.hid hv
              clear hv hB hB0
              go_wp2_with fail
              refine (HNA.out _).mono ?_
              rintro e w4 ⟨rfl, hB⟩
              have hsz4 := hB.size
              have hv := HV3.out.below hB hlt3
              have hB0 := HB3.out.trans (hB.mono HB3.out.size)
              have HB4 := Lib.hid hB0
              have hlt4 := hv.lt
              clear d0 d1 d2 d3 d4 d5 d6 d7
              obtain ⟨d0, d1, d2, d3, d4, d5, d6, d7⟩ := hv.all
              have HV4 := Lib.hid hv
              clear hv hB hB0
              have d8 := HE.out.below HB4.out hw 2 (by decide)
              have d9 := HE.out.below HB4.out hw 5 (by decide)
              unfold errV at d8 d9
              go_wp2_with fail
              all_goals
                go_ret
                exact ⟨rfl, HB4.out⟩
        · obtain rfl : vk = 0 := by simpa using q2
          cases q3 : (vn == -9223372036854775808)
          · have q3' : vn ≠ -9223372036854775808 := by simpa using q3
            have q3'' : (vn != -9223372036854775808) = true := by simpa using q3'
            cases fb
            · skip
              obtain rfl : exp = some 2 := hexp.trans (by simp [*])
              clear hexp
              go_enter Tryd.func75, Tryd.ntmps75
              go_wp2_with fail
              refine (HST.out _).mono ?_
              rintro e w1 ⟨rfl, hB⟩
              have hsz1 := hB.size
              have hv := HV.out.below hB hlt
              have hB0 := HAL.out.trans (hB.mono HAL.out.size)
              have HB1 := Lib.hid hB0
              have hlt1 := hv.lt
              clear d0 d1 d2 d3 d4 d5 d6 d7
              obtain ⟨d0, d1, d2, d3, d4, d5, d6, d7⟩ := hv.all
              have HV1 := Lib.hid hv
              clear hv hB hB0
              go_wp2_with fail
              refine (HVA.out _ (Since.of HB1.out)).mono ?_
              rintro e w2 ⟨rfl, hB⟩
              have hsz2 := hB.size
              have hv := HV1.out.below hB hlt1
              have hB0 := HB1.out.trans (hB.mono HB1.out.size)
              have HB2 := Lib.hid hB0
              have hlt2 := hv.lt
              clear d0 d1 d2 d3 d4 d5 d6 d7
              obtain ⟨d0, d1, d2, d3, d4, d5, d6, d7⟩ := hv.all
              have HV2 := Lib.hid hv
              clear hv hB hB0
              try unfold errO
              try unfold errV
              go_wp2_with fail
              refine (HRO.out _).mono ?_
              rintro e w3 ⟨rv, rfl, -, hB⟩
              have hsz3 := hB.size
              have hv := HV2.out.below hB hlt2
              have hB0 := HB2.out.trans (hB.mono HB2.out.size)
              have HB3 := Lib.hid hB0
              have hlt3 := hv.lt
              clear d0 d1 d2 d3 d4 d5 d6 d7
              obtain ⟨d0, d1, d2, d3, d4, d5, d6, d7⟩ := hv.all
              have HV3 := Lib.hid hv
              clear hv hB hB0
              go_wp2_with fail
              refine (HNA.out _).mono ?_
              rintro e w4 ⟨rfl, hB⟩
              have hsz4 := hB.size
              have hv := HV3.out.below hB hlt3
              have hB0 := HB3.out.trans (hB.mono HB3.out.size)
              have HB4 := Lib.hid hB0
              have hlt4 := hv.lt
              clear d0 d1 d2 d3 d4 d5 d6 d7
              obtain ⟨d0, d1, d2, d3, d4, d5, d6, d7⟩ := hv.all
              have HV4 := Lib.hid hv
              clear hv hB hB0
              have d8 := HE.out.below HB4.out hw 2 (by decide)
              have d9 := HE.out.below HB4.out hw 5 (by decide)
              unfold errV at d8 d9
              go_wp2_with fail
              all_goals
                go_ret
                exact ⟨rfl, HB4.out⟩
            · skip
              cases q5 : emptyB s
              · have q5' : s.toList.isEmpty = false := q5
                have q52 : ¬ s.toList = [] := by intro h0; rw [h0] at q5'; cases q5'
                obtain rfl : exp = some 2 := hexp.trans (by simp [*])
                clear hexp
                go_enter Tryd.func75, Tryd.ntmps75
                go_wp2_with fail
                refine (HST.out _).mono ?_
                rintro e w1 ⟨rfl, hB⟩
                have hsz1 := hB.size
                have hv := HV.out.below hB hlt
                have hB0 := HAL.out.trans (hB.mono HAL.out.size)
                have HB1 := Lib.hid hB0
                have hlt1 := hv.lt
                clear d0 d1 d2 d3 d4 d5 d6 d7
                obtain ⟨d0, d1, d2, d3, d4, d5, d6, d7⟩ := hv.all
                have HV1 := Lib.hid hv
                clear hv hB hB0
                go_wp2_with fail
                refine (HVA.out _ (Since.of HB1.out)).mono ?_
                rintro e w2 ⟨rfl, hB⟩
                have hsz2 := hB.size
                have hv := HV1.out.below hB hlt1
                have hB0 := HB1.out.trans (hB.mono HB1.out.size)
                have HB2 := Lib.hid hB0
                have hlt2 := hv.lt
                clear d0 d1 d2 d3 d4 d5 d6 d7
                obtain ⟨d0, d1, d2, d3, d4, d5, d6, d7⟩ := hv.all
                have HV2 := Lib.hid hv
                clear hv hB hB0
                try unfold errO
                try unfold errV
                go_wp2_with fail
                refine (HRO.out _).mono ?_
                rintro e w3 ⟨rv, rfl, -, hB⟩
                have hsz3 := hB.size
                have hv := HV2.out.below hB hlt2
                have hB0 := HB2.out.trans (hB.mono HB2.out.size)
                have HB3 := Lib.hid hB0
                have hlt3 := hv.lt
                clear d0 d1 d2 d3 d4 d5 d6 d7
                obtain ⟨d0, d1, d2, d3, d4, d5, d6, d7⟩ := hv.all
                have HV3 := Lib.hid hv
                clear hv hB hB0
                go_wp2_with fail
                refine (HNA.out _).mono ?_
                rintro e w4 ⟨rfl, hB⟩
                have hsz4 := hB.size
                have hv := HV3.out.below hB hlt3
                have hB0 := HB3.out.trans (hB.mono HB3.out.size)
                have HB4 := Lib.hid hB0
                have hlt4 := hv.lt
                clear d0 d1 d2 d3 d4 d5 d6 d7
                obtain ⟨d0, d1, d2, d3, d4, d5, d6, d7⟩ := hv.all
                have HV4 := Lib.hid hv
                clear hv hB hB0
                have d8 := HE.out.below HB4.out hw 2 (by decide)
                have d9 := HE.out.below HB4.out hw 5 (by decide)
                unfold errV at d8 d9
                go_wp2_with fail
                all_goals
                  go_ret
                  exact ⟨rfl, HB4.out⟩
              · have q5' : s.toList.isEmpty = true := q5
                have q52 : s.toList = [] := by simpa using q5'
                obtain rfl : exp = Option.none := hexp.trans (by simp [*])
                clear hexp
                go_enter Tryd.func75, Tryd.ntmps75
                go_wp2_with fail
                refine (HST.out _).mono ?_
                rintro e w1 ⟨rfl, hB⟩
                have hsz1 := hB.size
                have hv := HV.out.below hB hlt
                have hB0 := HAL.out.trans (hB.mono HAL.out.size)
                have HB1 := Lib.hid hB0
                have hlt1 := hv.lt
                clear d0 d1 d2 d3 d4 d5 d6 d7
                obtain ⟨d0, d1, d2, d3, d4, d5, d6, d7⟩ := hv.all
                have HV1 := Lib.hid hv
                clear hv hB hB0
                go_wp2_with fail
                refine (HVA.out _ (Since.of HB1.out)).mono ?_
                rintro e w2 ⟨rfl, hB⟩
                have hsz2 := hB.size
                have hv := HV1.out.below hB hlt1
                have hB0 := HB1.out.trans (hB.mono HB1.out.size)
                have HB2 := Lib.hid hB0
                have hlt2 := hv.lt
                clear d0 d1 d2 d3 d4 d5 d6 d7
                obtain ⟨d0, d1, d2, d3, d4, d5, d6, d7⟩ := hv.all
                have HV2 := Lib.hid hv
                clear hv hB hB0
                try unfold errO
                try unfold errV
                go_wp2_with fail
                refine (HRO.out _).mono ?_
                rintro e w3 ⟨rv, rfl, -, hB⟩
                have hsz3 := hB.size
                have hv := HV2.out.below hB hlt2
                have hB0 := HB2.out.trans (hB.mono HB2.out.size)
                have HB3 := Lib.hid hB0
                have hlt3 := hv.lt
                clear d0 d1 d2 d3 d4 d5 d6 d7
                obtain ⟨d0, d1, d2, d3, d4, d5, d6, d7⟩ := hv.all
                have HV3 := Lib.hid hv
                clear hv hB hB0
                go_wp2_with fail
                refine (HNA.out _).mono ?_
                rintro e w4 ⟨rfl, hB⟩
                have hsz4 := hB.size
                have hv := HV3.out.below hB hlt3
                have hB0 := HB3.out.trans (hB.mono HB3.out.size)
                have HB4 := Lib.hid hB0
                have hlt4 := hv.lt
                clear d0 d1 d2 d3 d4 d5 d6 d7
                obtain ⟨d0, d1, d2, d3, d4, d5, d6, d7⟩ := hv.all
                have HV4 := Lib.hid hv
                clear hv hB hB0
                have d8 := HE.out.below HB4.out hw 2 (by decide)
                have d9 := HE.out.below HB4.out hw 5 (by decide)
                unfold errV at d8 d9
                go_wp2_with fail
                all_goals
                  go_ret
                  exact ⟨rfl, HB4.out⟩
          · obtain rfl : vn = -9223372036854775808 := by simpa using q3
            obtain rfl : exp = some 2 := hexp.trans (by simp [*])
            clear hexp
            go_enter Tryd.func75, Tryd.ntmps75
            go_wp2_with fail
            refine (HST.out _).mono ?_
            rintro e w1 ⟨rfl, hB⟩
            have hsz1 := hB.size
            have hv := HV.out.below hB hlt
            have hB0 := HAL.out.trans (hB.mono HAL.out.size)
            have HB1 := Lib.hid hB0
            have hlt1 := hv.lt
            clear d0 d1 d2 d3 d4 d5 d6 d7
            obtain ⟨d0, d1, d2, d3, d4, d5, d6, d7⟩ := hv.all
            have HV1 := Lib.hid hv
            clear hv hB hB0
            go_wp2_with fail
            refine (HVA.out _ (Since.of HB1.out)).mono ?_
            rintro e w2 ⟨rfl, hB⟩
            have hsz2 := hB.size
            have hv := HV1.out.below hB hlt1
            have hB0 := HB1.out.trans (hB.mono HB1.out.size)
            have HB2 := Lib.hid hB0
            have hlt2 := hv.lt
            clear d0 d1 d2 d3 d4 d5 d6 d7
            obtain ⟨d0, d1, d2, d3, d4, d5, d6, d7⟩ := hv.all
            have HV2 := Lib.hid hv
            clear hv hB hB0
            try unfold errO
            try unfold errV
            go_wp2_with fail
            refine (HRO.out _).mono ?_
            rintro e w3 ⟨rv, rfl, -, hB⟩
            have hsz3 := hB.size
            have hv := HV2.out.below hB hlt2
            have hB0 := HB2.out.trans (hB.mono HB2.out.size)
            have HB3 := Lib.hid hB0
            have hlt3 := hv.lt
            clear d0 d1 d2 d3 d4 d5 d6 d7
            obtain ⟨d0, d1, d2, d3, d4, d5, d6, d7⟩ := hv.all
            have HV3 := Lib.hid hv
            clear hv hB hB0
            go_wp2_with fail
            refine (HNA.out _).mono ?_
            rintro e w4 ⟨rfl, hB⟩
            have hsz4 := hB.size
            have hv := HV3.out.below hB hlt3
            have hB0 := HB3.out.trans (hB.mono HB3.out.size)
            have HB4 := Lib.hid hB0
            have hlt4 := hv.lt
            clear d0 d1 d2 d3 d4 d5 d6 d7
            obtain ⟨d0, d1, d2, d3, d4, d5, d6, d7⟩ := hv.all
            have HV4 := Lib.hid hv
            clear hv hB hB0
            have d8 := HE.out.below HB4.out hw 2 (by decide)
            have d9 := HE.out.below HB4.out hw 5 (by decide)
            unfold errV at d8 d9
            go_wp2_with fail
            all_goals
              go_ret
              exact ⟨rfl, HB4.out⟩
    · obtain rfl : vk = 4 := by simpa using q1
      obtain rfl : exp = some 2 := hexp.trans (by simp [*])
      clear hexp
      go_enter Tryd.func75, Tryd.ntmps75
      go_wp2_with fail
      refine (HST.out _).mono ?_
      rintro e w1 ⟨rfl, hB⟩
      have hsz1 := hB.size
      have hv := HV.out.below hB hlt
      have hB0 := HAL.out.trans (hB.mono HAL.out.size)
      have HB1 := Lib.hid hB0
      have hlt1 := hv.lt
      clear d0 d1 d2 d3 d4 d5 d6 d7
      obtain ⟨d0, d1, d2, d3, d4, d5, d6, d7⟩ := hv.all
      have HV1 := Lib.hid hv
      clear hv hB hB0
      go_wp2_with fail
      refine (HRO.out _).mono ?_
      rintro e w2 ⟨rv, rfl, -, hB⟩
      have hsz2 := hB.size
      have hv := HV1.out.below hB hlt1
      have hB0 := HB1.out.trans (hB.mono HB1.out.size)
      have HB2 := Lib.hid hB0
      have hlt2 := hv.lt
      clear d0 d1 d2 d3 d4 d5 d6 d7
      obtain ⟨d0, d1, d2, d3, d4, d5, d6, d7⟩ := hv.all
      have HV2 := Lib.hid hv
      clear hv hB hB0
      go_wp2_with fail
      refine (HNA.out _).mono ?_
      rintro e w3 ⟨rfl, hB⟩
      have hsz3 := hB.size
      have hv := HV2.out.below hB hlt2
      have hB0 := HB2.out.trans (hB.mono HB2.out.size)
      have HB3 := Lib.hid hB0
      have hlt3 := hv.lt
      clear d0 d1 d2 d3 d4 d5 d6 d7
      obtain ⟨d0, d1, d2, d3, d4, d5, d6, d7⟩ := hv.all
      have HV3 := Lib.hid hv
      clear hv hB hB0
      have d8 := HE.out.below HB3.out hw 2 (by decide)
      have d9 := HE.out.below HB3.out hw 5 (by decide)
      unfold errV at d8 d9
      go_wp2_with fail
      all_goals
        go_ret
        exact ⟨rfl, HB3.out⟩
  · rw [h] at HST
    subst h2
    cases q1 : (vk == 4)
    · have q1' : vk ≠ 4 := by simpa using q1
      have q1'' : (vk != 4) = true := by simpa using q1'
      cases vm with
      | some ge =>
        obtain rfl : exp = some 2 := hexp.trans (by simp [*])
        clear hexp
        go_enter Tryd.func75, Tryd.ntmps75
        go_wp2_with fail
        refine (HST.out _).mono ?_
        rintro e w1 ⟨rfl, hB⟩
        have hsz1 := hB.size
        have hv := HV.out.below hB hlt
        have hB0 := HAL.out.trans (hB.mono HAL.out.size)
        have HB1 := Lib.hid hB0
        have hlt1 := hv.lt
        clear d0 d1 d2 d3 d4 d5 d6 d7
        obtain ⟨d0, d1, d2, d3, d4, d5, d6, d7⟩ := hv.all
        have HV1 := Lib.hid hv
        clear hv hB hB0
        go_wp2_with fail
        refine (HVA.out _ (Since.of HB1.out)).mono ?_
        rintro e w2 ⟨rfl, hB⟩
        have hsz2 := hB.size
        have hv := HV1.out.below hB hlt1
        have hB0 := HB1.out.trans (hB.mono HB1.out.size)
        have HB2 := Lib.hid hB0
        have hlt2 := hv.lt
        clear d0 d1 d2 d3 d4 d5 d6 d7
        obtain ⟨d0, d1, d2, d3, d4, d5, d6, d7⟩ := hv.all
        have HV2 := Lib.hid hv
        clear hv hB hB0
        try unfold errO
        try unfold errV
        go_wp2_with fail
        refine (HRO.out _).mono ?_
        rintro e w3 ⟨rv, rfl, -, hB⟩
        have hsz3 := hB.size
        have hv := HV2.out.below hB hlt2
        have hB0 := HB2.out.trans (hB.mono HB2.out.size)
        have HB3 := Lib.hid hB0
        have hlt3 := hv.lt
        clear d0 d1 d2 d3 d4 d5 d6 d7
        obtain ⟨d0, d1, d2, d3, d4, d5, d6, d7⟩ := hv.all
        have HV3 := Lib.hid hv
        clear hv hB hB0
        go_wp2_with fail
        refine (HNA.out _).mono ?_
        rintro e w4 ⟨rfl, hB⟩
        have hsz4 := hB.size
        have hv := HV3.out.below hB hlt3
        have hB0 := HB3.out.trans (hB.mono HB3.out.size)
        have HB4 := Lib.hid hB0
        have hlt4 := hv.lt
        clear d0 d1 d2 d3 d4 d5 d6 d7
        obtain ⟨d0, d1, d2, d3, d4, d5, d6, d7⟩ := hv.all
        have HV4 := Lib.hid hv
        clear hv hB hB0
        have d8 := HE.out.below HB4.out hw 2 (by decide)
        have d9 := HE.out.below HB4.out hw 5 (by decide)
        unfold errV at d8 d9
        go_wp2_with fail
        all_goals
          go_ret
          exact ⟨rfl, HB4.out⟩
      | none =>
        cases q2 : (vk == 0)
        · have q2' : vk ≠ 0 := by simpa using q2
          have q2'' : (vk != 0) = true := by simpa using q2'
          cases fb
          · skip
            obtain rfl : exp = some 2 := hexp.trans (by simp [*])
            clear hexp
            go_enter Tryd.func75, Tryd.ntmps75
            go_wp2_with fail
            refine (HST.out _).mono ?_
            rintro e w1 ⟨rfl, hB⟩
            have hsz1 := hB.size
            have hv := HV.out.below hB hlt
            have hB0 := HAL.out.trans (hB.mono HAL.out.size)
            have HB1 := Lib.hid hB0
            have hlt1 := hv.lt
            clear d0 d1 d2 d3 d4 d5 d6 d7
            obtain ⟨d0, d1, d2, d3, d4, d5, d6, d7⟩ := hv.all
            have HV1 := Lib.hid hv
            clear hv hB hB0
            go_wp2_with fail
            refine (HVA.out _ (Since.of HB1.out)).mono ?_
            rintro e w2 ⟨rfl, hB⟩
            have hsz2 := hB.size
            have hv := HV1.out.below hB hlt1
            have hB0 := HB1.out.trans (hB.mono HB1.out.size)
            have HB2 := Lib.hid hB0
            have hlt2 := hv.lt
            clear d0 d1 d2 d3 d4 d5 d6 d7
            obtain ⟨d0, d1, d2, d3, d4, d5, d6, d7⟩ := hv.all
            have HV2 := Lib.hid hv
            clear hv hB hB0
            try unfold errO
            try unfold errV
            go_wp2_with fail
            refine (HRO.out _).mono ?_
            rintro e w3 ⟨rv, rfl, -, hB⟩
            have hsz3 := hB.size
            have hv := HV2.out.below hB hlt2
            have hB0 := HB2.out.trans (hB.mono HB2.out.size)
            have HB3 := Lib.hid hB0
            have hlt3 := hv.lt
            clear d0 d1 d2 d3 d4 d5 d6 d7
            obtain ⟨d0, d1, d2, d3, d4, d5, d6, d7⟩ := hv.all
            have HV3 := Lib.hid hv
            clear hv hB hB0
            go_wp2_with fail
            refine (HNA.out _).mono ?_
            rintro e w4 ⟨rfl, hB⟩
            have hsz4 := hB.size
            have hv := HV3.out.below hB hlt3
            have hB0 := HB3.out.trans (hB.mono HB3.out.size)
            have HB4 := Lib.hid hB0
            have hlt4 := hv.lt
            clear d0 d1 d2 d3 d4 d5 d6 d7
            obtain ⟨d0, d1, d2, d3, d4, d5, d6, d7⟩ := hv.all
            have HV4 := Lib.hid hv
            clear hv hB hB0
            have d8 := HE.out.below HB4.out hw 2 (by decide)
            have d9 := HE.out.below HB4.out hw 5 (by decide)
            unfold errV at d8 d9
            go_wp2_with fail
            all_goals
              go_ret
              exact ⟨rfl, HB4.out⟩
          · skip
            cases q5 : emptyB s
            · have q5' : s.toList.isEmpty = false := q5
              have q52 : ¬ s.toList = [] := by intro h0; rw [h0] at q5'; cases q5'
              obtain rfl : exp = some 2 := hexp.trans (by simp [*])
              clear hexp
              go_enter Tryd.func75, Tryd.ntmps75
              go_wp2_with fail
              refine (HST.out _).mono ?_
              rintro e w1 ⟨rfl, hB⟩
              have hsz1 := hB.size
              have hv := HV.out.below hB hlt
              have hB0 := HAL.out.trans (hB.mono HAL.out.size)
              have HB1 := Lib.hid hB0
              have hlt1 := hv.lt
              clear d0 d1 d2 d3 d4 d5 d6 d7
              obtain ⟨d0, d1, d2, d3, d4, d5, d6, d7⟩ := hv.all
              have HV1 := Lib.hid hv
              clear hv hB hB0
              go_wp2_with fail
              refine (HVA.out _ (Since.of HB1.out)).mono ?_
              rintro e w2 ⟨rfl, hB⟩
              have hsz2 := hB.size
              have hv := HV1.out.below hB hlt1
              have hB0 := HB1.out.trans (hB.mono HB1.out.size)
              have HB2 := Lib.hid hB0
              have hlt2 := hv.lt
              clear d0 d1 d2 d3 d4 d5 d6 d7
              obtain ⟨d0, d1, d2, d3, d4, d5, d6, d7⟩ := hv.all
              have HV2 := Lib.hid hv
              clear hv hB hB0
              try unfold errO
              try unfold errV
              go_wp2_with fail
              refine (HRO.out _).mono ?_
              rintro e w3 ⟨rv, rfl, -, hB⟩
              have hsz3 := hB.size
              have hv := HV2.out.below hB hlt2
              have hB0 := HB2.out.trans (hB.mono HB2.out.size)
              have HB3 := Lib.hid hB0
              have hlt3 := hv.lt
              clear d0 d1 d2 d3 d4 d5 d6 d7
              obtain ⟨d0, d1, d2, d3, d4, d5, d6, d7⟩ := hv.all
              have HV3 := Lib.hid hv
              clear hv hB hB0
              go_wp2_with fail
              refine (HNA.out _).mono ?_
              rintro e w4 ⟨rfl, hB⟩
              have hsz4 := hB.size
              have hv := HV3.out.below hB hlt3
              have hB0 := HB3.out.trans (hB.mono HB3.out.size)
              have HB4 := Lib.hid hB0
              have hlt4 := hv.lt
              clear d0 d1 d2 d3 d4 d5 d6 d7
              obtain ⟨d0, d1, d2, d3, d4, d5, d6, d7⟩ := hv.all
              have HV4 := Lib.hid hv
              clear hv hB hB0
              have d8 := HE.out.below HB4.out hw 2 (by decide)
              have d9 := HE.out.below HB4.out hw 5 (by decide)
              unfold errV at d8 d9
              go_wp2_with fail
              all_goals
                go_ret
                exact ⟨rfl, HB4.out⟩
            · have q5' : s.toList.isEmpty = true := q5
              have q52 : s.toList = [] := by simpa using q5'
              obtain rfl : exp = Option.none := hexp.trans (by simp [*])
              clear hexp
              go_enter Tryd.func75, Tryd.ntmps75
              go_wp2_with fail
              refine (HST.out _).mono ?_
              rintro e w1 ⟨rfl, hB⟩
              have hsz1 := hB.size
              have hv := HV.out.below hB hlt
              have hB0 := HAL.out.trans (hB.mono HAL.out.size)
              have HB1 := Lib.hid hB0
              have hlt1 := hv.lt
              clear d0 d1 d2 d3 d4 d5 d6 d7
              obtain ⟨d0, d1, d2, d3, d4, d5, d6, d7⟩ := hv.all
              have HV1 := Lib.hid hv
              clear hv hB hB0
              go_wp2_with fail
              refine (HVA.out _ (Since.of HB1.out)).mono ?_
              rintro e w2 ⟨rfl, hB⟩
              have hsz2 := hB.size
              have hv := HV1.out.below hB hlt1
              have hB0 := HB1.out.trans (hB.mono HB1.out.size)
              have HB2 := Lib.hid hB0
              have hlt2 := hv.lt
              clear d0 d1 d2 d3 d4 d5 d6 d7
              obtain ⟨d0, d1, d2, d3, d4, d5, d6, d7⟩ := hv.all
              have HV2 := Lib.hid hv
              clear hv hB hB0
              try unfold errO
              try unfold errV
              go_wp2_with fail
              refine (HRO.out _).mono ?_
              rintro e w3 ⟨rv, rfl, -, hB⟩
              have hsz3 := hB.size
              have hv := HV2.out.below hB hlt2
              have hB0 := HB2.out.trans (hB.mono HB2.out.size)
              have HB3 := Lib.hid hB0
              have hlt3 := hv.lt
              clear d0 d1 d2 d3 d4 d5 d6 d7
              obtain ⟨d0, d1, d2, d3, d4, d5, d6, d7⟩ := hv.all
              have HV3 := Lib.hid hv
              clear hv hB hB0
              go_wp2_with fail
              refine (HNA.out _).mono ?_
              rintro e w4 ⟨rfl, hB⟩
              have hsz4 := hB.size
              have hv := HV3.out.below hB hlt3
              have hB0 := HB3.out.trans (hB.mono HB3.out.size)
              have HB4 := Lib.hid hB0
              have hlt4 := hv.lt
              clear d0 d1 d2 d3 d4 d5 d6 d7
              obtain ⟨d0, d1, d2, d3, d4, d5, d6, d7⟩ := hv.all
              have HV4 := Lib.hid hv
              clear hv hB hB0
              have d8 := HE.out.below HB4.out hw 2 (by decide)
              have d9 := HE.out.below HB4.out hw 5 (by decide)
              unfold errV at d8 d9
              go_wp2_with fail
              all_goals
                go_ret
                exact ⟨rfl, HB4.out⟩
        · obtain rfl : vk = 0 := by simpa using q2
          cases q3 : (vn == -9223372036854775808)
          · have q3' : vn ≠ -9223372036854775808 := by simpa using q3
            have q3'' : (vn != -9223372036854775808) = true := by simpa using q3'
            cases fb
            · skip
              obtain rfl : exp = some 2 := hexp.trans (by simp [*])
              clear hexp
              go_enter Tryd.func75, Tryd.ntmps75
              go_wp2_with fail
              refine (HST.out _).mono ?_
              rintro e w1 ⟨rfl, hB⟩
              have hsz1 := hB.size
              have hv := HV.out.below hB hlt
              have hB0 := HAL.out.trans (hB.mono HAL.out.size)
              have HB1 := Lib.hid hB0
              have hlt1 := hv.lt
              clear d0 d1 d2 d3 d4 d5 d6 d7
              obtain ⟨d0, d1, d2, d3, d4, d5, d6, d7⟩ := hv.all
              have HV1 := Lib.hid hv
              clear hv hB hB0
              go_wp2_with fail
              refine (HVA.out _ (Since.of HB1.out)).mono ?_
              rintro e w2 ⟨rfl, hB⟩
              have hsz2 := hB.size
              have hv := HV1.out.below hB hlt1
              have hB0 := HB1.out.trans (hB.mono HB1.out.size)
              have HB2 := Lib.hid hB0
              have hlt2 := hv.lt
              clear d0 d1 d2 d3 d4 d5 d6 d7
              obtain ⟨d0, d1, d2, d3, d4, d5, d6, d7⟩ := hv.all
              have HV2 := Lib.hid hv
              clear hv hB hB0
              try unfold errO
              try unfold errV
              go_wp2_with fail
              refine (HRO.out _).mono ?_
              rintro e w3 ⟨rv, rfl, -, hB⟩
              have hsz3 := hB.size
              have hv := HV2.out.below hB hlt2
              have hB0 := HB2.out.trans (hB.mono HB2.out.size)
              have HB3 := Lib.hid hB0
              have hlt3 := hv.lt
              clear d0 d1 d2 d3 d4 d5 d6 d7
              obtain ⟨d0, d1, d2, d3, d4, d5, d6, d7⟩ := hv.all
              have HV3 := Lib.hid hv
              clear hv hB hB0
              go_wp2_with fail
              refine (HNA.out _).mono ?_
              rintro e w4 ⟨rfl, hB⟩
              have hsz4 := hB.size
              have hv := HV3.out.below hB hlt3
              have hB0 := HB3.out.trans (hB.mono HB3.out.size)
              have HB4 := Lib.hid hB0
              have hlt4 := hv.lt
              clear d0 d1 d2 d3 d4 d5 d6 d7
              obtain ⟨d0, d1, d2, d3, d4, d5, d6, d7⟩ := hv.all
              have HV4 := Lib.hid hv
              clear hv hB hB0
              have d8 := HE.out.below HB4.out hw 2 (by decide)
              have d9 := HE.out.below HB4.out hw 5 (by decide)
              unfold errV at d8 d9
              go_wp2_with fail
              all_goals
                go_ret
                exact ⟨rfl, HB4.out⟩
            · skip
              cases q5 : emptyB s
              · have q5' : s.toList.isEmpty = false := q5
                have q52 : ¬ s.toList = [] := by intro h0; rw [h0] at q5'; cases q5'
                obtain rfl : exp = some 2 := hexp.trans (by simp [*])
                clear hexp
                go_enter Tryd.func75, Tryd.ntmps75
                go_wp2_with fail
                refine (HST.out _).mono ?_
                rintro e w1 ⟨rfl, hB⟩
                have hsz1 := hB.size
                have hv := HV.out.below hB hlt
                have hB0 := HAL.out.trans (hB.mono HAL.out.size)
                have HB1 := Lib.hid hB0
                have hlt1 := hv.lt
                clear d0 d1 d2 d3 d4 d5 d6 d7
                obtain ⟨d0, d1, d2, d3, d4, d5, d6, d7⟩ := hv.all
                have HV1 := Lib.hid hv
                clear hv hB hB0
                go_wp2_with fail
                refine (HVA.out _ (Since.of HB1.out)).mono ?_
                rintro e w2 ⟨rfl, hB⟩
                have hsz2 := hB.size
                have hv := HV1.out.below hB hlt1
                have hB0 := HB1.out.trans (hB.mono HB1.out.size)
                have HB2 := Lib.hid hB0
                have hlt2 := hv.lt
                clear d0 d1 d2 d3 d4 d5 d6 d7
                obtain ⟨d0, d1, d2, d3, d4, d5, d6, d7⟩ := hv.all
                have HV2 := Lib.hid hv
                clear hv hB hB0
                try unfold errO
                try unfold errV
                go_wp2_with fail
                refine (HRO.out _).mono ?_
                rintro e w3 ⟨rv, rfl, -, hB⟩
                have hsz3 := hB.size
                have hv := HV2.out.below hB hlt2
                have hB0 := HB2.out.trans (hB.mono HB2.out.size)
                have HB3 := Lib.hid hB0
                have hlt3 := hv.lt
                clear d0 d1 d2 d3 d4 d5 d6 d7
                obtain ⟨d0, d1, d2, d3, d4, d5, d6, d7⟩ := hv.all
                have HV3 := Lib.hid hv
                clear hv hB hB0
                go_wp2_with fail
                refine (HNA.out _).mono ?_
                rintro e w4 ⟨rfl, hB⟩
                have hsz4 := hB.size
                have hv := HV3.out.below hB hlt3
                have hB0 := HB3.out.trans (hB.mono HB3.out.size)
                have HB4 := Lib.hid hB0
                have hlt4 := hv.lt
                clear d0 d1 d2 d3 d4 d5 d6 d7
                obtain ⟨d0, d1, d2, d3, d4, d5, d6, d7⟩ := hv.all
                have HV4 := Lib.hid hv
                clear hv hB hB0
                have d8 := HE.out.below HB4.out hw 2 (by decide)
                have d9 := HE.out.below HB4.out hw 5 (by decide)
                unfold errV at d8 d9
                go_wp2_with fail
                all_goals
                  go_ret
                  exact ⟨rfl, HB4.out⟩
              · have q5' : s.toList.isEmpty = true := q5
                have q52 : s.toList = [] := by simpa using q5'
                obtain rfl : exp = Option.none := hexp.trans (by simp [*])
                clear hexp
                go_enter Tryd.func75, Tryd.ntmps75
                go_wp2_with fail
                refine (HST.out _).mono ?_
                rintro e w1 ⟨rfl, hB⟩
                have hsz1 := hB.size
                have hv := HV.out.below hB hlt
                have hB0 := HAL.out.trans (hB.mono HAL.out.size)
                have HB1 := Lib.hid hB0
                have hlt1 := hv.lt
                clear d0 d1 d2 d3 d4 d5 d6 d7
                obtain ⟨d0, d1, d2, d3, d4, d5, d6, d7⟩ := hv.all
                have HV1 := Lib.hid hv
                clear hv hB hB0
                go_wp2_with fail
                refine (HVA.out _ (Since.of HB1.out)).mono ?_
                rintro e w2 ⟨rfl, hB⟩
                have hsz2 := hB.size
                have hv := HV1.out.below hB hlt1
                have hB0 := HB1.out.trans (hB.mono HB1.out.size)
                have HB2 := Lib.hid hB0
                have hlt2 := hv.lt
                clear d0 d1 d2 d3 d4 d5 d6 d7
                obtain ⟨d0, d1, d2, d3, d4, d5, d6, d7⟩ := hv.all
                have HV2 := Lib.hid hv
                clear hv hB hB0
                try unfold errO
                try unfold errV
                go_wp2_with fail
                refine (HRO.out _).mono ?_
                rintro e w3 ⟨rv, rfl, -, hB⟩
                have hsz3 := hB.size
                have hv := HV2.out.below hB hlt2
                have hB0 := HB2.out.trans (hB.mono HB2.out.size)
                have HB3 := Lib.hid hB0
                have hlt3 := hv.lt
                clear d0 d1 d2 d3 d4 d5 d6 d7
                obtain ⟨d0, d1, d2, d3, d4, d5, d6, d7⟩ := hv.all
                have HV3 := Lib.hid hv
                clear hv hB hB0
                go_wp2_with fail
                refine (HNA.out _).mono ?_
                rintro e w4 ⟨rfl, hB⟩
                have hsz4 := hB.size
                have hv := HV3.out.below hB hlt3
                have hB0 := HB3.out.trans (hB.mono HB3.out.size)
                have HB4 := Lib.hid hB0
                have hlt4 := hv.lt
                clear d0 d1 d2 d3 d4 d5 d6 d7
                obtain ⟨d0, d1, d2, d3, d4, d5, d6, d7⟩ := hv.all
                have HV4 := Lib.hid hv
                clear hv hB hB0
                have d8 := HE.out.below HB4.out hw 2 (by decide)
                have d9 := HE.out.below HB4.out hw 5 (by decide)
                unfold errV at d8 d9
                go_wp2_with fail
                all_goals
                  go_ret
                  exact ⟨rfl, HB4.out⟩
          · obtain rfl : vn = -9223372036854775808 := by simpa using q3
            obtain rfl : exp = some 2 := hexp.trans (by simp [*])
            clear hexp
            go_enter Tryd.func75, Tryd.ntmps75
            go_wp2_with fail
            refine (HST.out _).mono ?_
            rintro e w1 ⟨rfl, hB⟩
            have hsz1 := hB.size
            have hv := HV.out.below hB hlt
            have hB0 := HAL.out.trans (hB.mono HAL.out.size)
            have HB1 := Lib.hid hB0
            have hlt1 := hv.lt
            clear d0 d1 d2 d3 d4 d5 d6 d7
            obtain ⟨d0, d1, d2, d3, d4, d5, d6, d7⟩ := hv.all
            have HV1 := Lib.hid hv
            clear hv hB hB0
            go_wp2_with fail
            refine (HVA.out _ (Since.of HB1.out)).mono ?_
            rintro e w2 ⟨rfl, hB⟩
            have hsz2 := hB.size
            have hv := HV1.out.below hB hlt1
            have hB0 := HB1.out.trans (hB.mono HB1.out.size)
            have HB2 := Lib.hid hB0
            have hlt2 := hv.lt
            clear d0 d1 d2 d3 d4 d5 d6 d7
            obtain ⟨d0, d1, d2, d3, d4, d5, d6, d7⟩ := hv.all
            have HV2 := Lib.hid hv
            clear hv hB hB0
            try unfold errO
            try unfold errV
            go_wp2_with fail
            refine (HRO.out _).mono ?_
            rintro e w3 ⟨rv, rfl, -, hB⟩
            have hsz3 := hB.size
            have hv := HV2.out.below hB hlt2
            have hB0 := HB2.out.trans (hB.mono HB2.out.size)
            have HB3 := Lib.hid hB0
            have hlt3 := hv.lt
            clear d0 d1 d2 d3 d4 d5 d6 d7
            obtain ⟨d0, d1, d2, d3, d4, d5, d6, d7⟩ := hv.all
            have HV3 := Lib.hid hv
            clear hv hB hB0
            go_wp2_with fail
            refine (HNA.out _).mono ?_
            rintro e w4 ⟨rfl, hB⟩
            have hsz4 := hB.size
            have hv := HV3.out.below hB hlt3
            have hB0 := HB3.out.trans (hB.mono HB3.out.size)
            have HB4 := Lib.hid hB0
            have hlt4 := hv.lt
            clear d0 d1 d2 d3 d4 d5 d6 d7
            obtain ⟨d0, d1, d2, d3, d4, d5, d6, d7⟩ := hv.all
            have HV4 := Lib.hid hv
            clear hv hB hB0
            have d8 := HE.out.below HB4.out hw 2 (by decide)
            have d9 := HE.out.below HB4.out hw 5 (by decide)
            unfold errV at d8 d9
            go_wp2_with fail
            all_goals
              go_ret
              exact ⟨rfl, HB4.out⟩
    · obtain rfl : vk = 4 := by simpa using q1
      obtain rfl : exp = some 2 := hexp.trans (by simp [*])
      clear hexp
      go_enter Tryd.func75, Tryd.ntmps75
      go_wp2_with fail
      refine (HST.out _).mono ?_
      rintro e w1 ⟨rfl, hB⟩
      have hsz1 := hB.size
      have hv := HV.out.below hB hlt
      have hB0 := HAL.out.trans (hB.mono HAL.out.size)
      have HB1 := Lib.hid hB0
      have hlt1 := hv.lt
      clear d0 d1 d2 d3 d4 d5 d6 d7
      obtain ⟨d0, d1, d2, d3, d4, d5, d6, d7⟩ := hv.all
      have HV1 := Lib.hid hv
      clear hv hB hB0
      go_wp2_with fail
      refine (HRO.out _).mono ?_
      rintro e w2 ⟨rv, rfl, -, hB⟩
      have hsz2 := hB.size
      have hv := HV1.out.below hB hlt1
      have hB0 := HB1.out.trans (hB.mono HB1.out.size)
      have HB2 := Lib.hid hB0
      have hlt2 := hv.lt
      clear d0 d1 d2 d3 d4 d5 d6 d7
      obtain ⟨d0, d1, d2, d3, d4, d5, d6, d7⟩ := hv.all
      have HV2 := Lib.hid hv
      clear hv hB hB0
      go_wp2_with fail
      refine (HNA.out _).mono ?_
      rintro e w3 ⟨rfl, hB⟩
      have hsz3 := hB.size
      have hv := HV2.out.below hB hlt2
      have hB0 := HB2.out.trans (hB.mono HB2.out.size)
      have HB3 := Lib.hid hB0
      have hlt3 := hv.lt
      clear d0 d1 d2 d3 d4 d5 d6 d7
      obtain ⟨d0, d1, d2, d3, d4, d5, d6, d7⟩ := hv.all
      have HV3 := Lib.hid hv
      clear hv hB hB0
      have d8 := HE.out.below HB3.out hw 2 (by decide)
      have d9 := HE.out.below HB3.out hw 5 (by decide)
      unfold errV at d8 d9
      go_wp2_with fail
      all_goals
        go_ret
        exact ⟨rfl, HB3.out⟩

theorem own_node (p : Nat → Addr) (op line role : Int) (loop : Bool) (s : ByteArray) (v : Val) (n : Nat) (a a' : Option Addr) (c c' : Nat) (w : World) (hw : 6 ≤ w.heap.size) (hr0 : 0 ≤ role) (hr1 : role ≤ 8) (hn : n ≤ 4096) (ho1 : -9223372036854775808 ≤ op) (ho2 : op ≤ 9223372036854775807)
    (hss : s.size ≤ 9223372036854775807) (hE : Errs 6 p w) (hfv : Fits v.kind v.n v.s v.l.length) (hR : RepSl (Lo w.heap.size) w a v.l) :
    Calls Tryd.prog 75 #[.agg #[.int .i64 op, .int .i64 line, .string s, .int .i64 v.kind, .int .i64 v.n, .string v.s, .slice a v.l.length c, .slice a' n c'], .int .i64 role, .bool loop] w (ErrOut p w (ownM op role loop s v n)) := by
  cases hf : fairB op role loop
  · rw [show ownM op role loop s v n = some 2 by unfold ownM shapeB; rw [hf]; rfl]
    exact own_unfair p op line role loop s v n a a' c c' w hw hr0 hr1 hn ho1 ho2 hss hE hf
  · by_cases ho : op = 1
    · exact own_lit p op line role loop s v n a a' c c' w hw hr0 hr1 hn ho1 ho2 hss hE hf ho hfv hR
    · exact own_plain p op line role loop s v n a a' c c' w hw hr0 hr1 hn ho1 ho2 hss hE hf ho
end Go.Proofs.YtmkghfkikclodaaDoor
