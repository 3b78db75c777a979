/- What is amiss with what a node itself has: it stands where it may. -/
import Derived.Test.YtmkghfkikclodaaDoorM11
set_option linter.unusedVariables false
set_option linter.unusedSimpArgs false
namespace Go.Proofs.YtmkghfkikclodaaDoor
open Go.RowKit

def FullOut (b : Bool) (W : World) (e : Ending) (w' : World) : Prop := ∃ v, e = .returned (.tuple #[v, .bool b]) ∧ True ∧ Below W.heap.size W w'

theorem own_eq (op role : Int) (loop : Bool) (s : ByteArray) (v : Val) (n : Nat) (hf : fairB op role loop = true) :
    ownM op role loop s v n = if (valB op v && (fullB op n && (namedB op || emptyB s))) = true then (if (!namedB op || (nameB s || (op == 50 && emptyB s))) = true then Option.none else some 5) else some 2 := by
  unfold ownM shapeB calledB
  rw [hf, Bool.true_and]

set_option maxRecDepth 100000 in
set_option maxHeartbeats 4000000 in
theorem own_plain (p : Nat → Addr) (op line role : Int) (loop : Bool) (s : ByteArray) (v : Val) (n : Nat) (a a' : Option Addr) (c c' : Nat) (w : World) (hw : 6 ≤ w.heap.size) (hr0 : 0 ≤ role) (hr1 : role ≤ 8) (hn : n ≤ 4096) (ho1 : -9223372036854775808 ≤ op) (ho2 : op ≤ 9223372036854775807)
    (hss : s.size ≤ 9223372036854775807) (hE : Errs 6 p w) (hf : fairB op role loop = true) (ho : ¬ op = 1) :
    Calls Tryd.prog 75 #[.agg #[.int .i64 op, .int .i64 line, .string s, .int .i64 v.kind, .int .i64 v.n, .string v.s, .slice a v.l.length c, .slice a' n c'], .int .i64 role, .bool loop] w (ErrOut p w (ownM op role loop s v n)) := by
  have hv := NV.new w (.int .i64 op) (.int .i64 line) (.string s) (.int .i64 v.kind) (.int .i64 v.n) (.string v.s) (.slice a v.l.length c) (.slice a' n c')
  have hal := bal w (.cells #[.int .i64 op, .int .i64 line, .string s, .int .i64 v.kind, .int .i64 v.n, .string v.s, .slice a v.l.length c, .slice a' n c'] 63)
  have HAL := Lib.hid hal
  obtain ⟨d0, d1, d2, d3, d4, d5, d6, d7⟩ := hv.all
  have hlt := hv.lt
  have HV := Lib.hid hv
  have HE := Lib.hid hE
  clear hv hal hE
  have HST := Lib.hid fun (w' : World) => stands_any op role (.int .i64 line) (.string s) (.int .i64 v.kind) (.int .i64 v.n) (.string v.s) (.slice a v.l.length c) (.slice a' n c') hr0 hr1 w' ho1 ho2
  have HRO := Lib.hid fun (w' : World) => roles_any op (.int .i64 line) (.string s) (.int .i64 v.kind) (.int .i64 v.n) (.string v.s) (.slice a v.l.length c) a' n c' hn w'
  have HNA := Lib.hid fun (w' : World) => named_any op w' ho1 ho2
  have HRO := Lib.hid fun (w' : World) => show Calls Tryd.prog 76 _ w' (FullOut (fullB op n) w') from (HRO.out w').mono fun e w1 h => by obtain ⟨rv, he, -, hB⟩ := h; exact ⟨rv, he, trivial, hB⟩
  have HNM := Lib.hid fun (w' : World) => show Calls Tryd.prog 85 #[.string s] w' (BoolOut w' (nameB s)) from name_any s w' hss
  have hexp := own_eq op role loop s v n hf
  generalize ownM op role loop s v n = exp at hexp ⊢
  rw [show valB op v = zeroB v from if_neg ho] at hexp
  have hz : zeroB v = (v.kind == 0 && (v.n == 0 && (emptyB v.s && ((v.l.length : Int) == 0)))) := rfl
  rw [hz] at hexp
  generalize hnb : namedB op = nb at HNA hexp
  generalize hn5 : (op == 50) = n5 at HNA hexp
  generalize hfb : fullB op n = fb at HRO hexp
  generalize hnm : nameB s = nm at HNM hexp
  generalize v.kind = vk at *
  generalize v.n = vn at *
  generalize v.s = vs at *
  generalize v.l.length = vl at *
  clear hz hnb hn5 hfb hnm
  rcases fair_split op role loop with ⟨h1, -⟩ | ⟨h1, -⟩ | ⟨h1, -⟩ | ⟨-, h, h2⟩ | ⟨-, h, h2, h3, h4⟩
  · rw [hf] at h1; cases h1
  · rw [hf] at h1; cases h1
  · rw [hf] at h1; cases h1
  · rw [h] at HST
    subst h2
    cases q1 : (vk == 0)
    · have q1' : vk ≠ 0 := by simpa using q1
      obtain rfl : exp = some 2 := hexp.trans (by simp [*])
      clear hexp
      go_enter Tryd.func75, Tryd.ntmps75
      go_wp2_with fail
      refine (HST.out _).mono ?_
      rintro e w1 ⟨rfl, hB⟩
      have hsz1 := hB.size
      have hv := HV.out.below hB hlt
      have hB0 := HAL.out.trans (hB.mono HAL.out.size)
      have HB1 := Lib.hid hB0
      have hlt1 := hv.lt
      clear d0 d1 d2 d3 d4 d5 d6 d7
      obtain ⟨d0, d1, d2, d3, d4, d5, d6, d7⟩ := hv.all
      have HV1 := Lib.hid hv
      clear hv hB hB0
      go_wp2_with fail
      refine (HRO.out _).mono ?_
      rintro e w2 ⟨rv, rfl, -, hB⟩
      have hsz2 := hB.size
      have hv := HV1.out.below hB hlt1
      have hB0 := HB1.out.trans (hB.mono HB1.out.size)
      have HB2 := Lib.hid hB0
      have hlt2 := hv.lt
      clear d0 d1 d2 d3 d4 d5 d6 d7
      obtain ⟨d0, d1, d2, d3, d4, d5, d6, d7⟩ := hv.all
      have HV2 := Lib.hid hv
      clear hv hB hB0
      go_wp2_with fail
      refine (HNA.out _).mono ?_
      rintro e w3 ⟨rfl, hB⟩
      have hsz3 := hB.size
      have hv := HV2.out.below hB hlt2
      have hB0 := HB2.out.trans (hB.mono HB2.out.size)
      have HB3 := Lib.hid hB0
      have hlt3 := hv.lt
      clear d0 d1 d2 d3 d4 d5 d6 d7
      obtain ⟨d0, d1, d2, d3, d4, d5, d6, d7⟩ := hv.all
      have HV3 := Lib.hid hv
      clear hv hB hB0
      have d8 := HE.out.below HB3.out hw 2 (by decide)
      have d9 := HE.out.below HB3.out hw 5 (by decide)
      unfold errV at d8 d9
      go_wp2_with fail
      all_goals
        go_ret
        exact ⟨rfl, HB3.out⟩
    · obtain rfl : vk = 0 := by simpa using q1
      cases q2 : (vn == 0)
      · have q2' : vn ≠ 0 := by simpa using q2
        obtain rfl : exp = some 2 := hexp.trans (by simp [*])
        clear hexp
        go_enter Tryd.func75, Tryd.ntmps75
        go_wp2_with fail
        refine (HST.out _).mono ?_
        rintro e w1 ⟨rfl, hB⟩
        have hsz1 := hB.size
        have hv := HV.out.below hB hlt
        have hB0 := HAL.out.trans (hB.mono HAL.out.size)
        have HB1 := Lib.hid hB0
        have hlt1 := hv.lt
        clear d0 d1 d2 d3 d4 d5 d6 d7
        obtain ⟨d0, d1, d2, d3, d4, d5, d6, d7⟩ := hv.all
        have HV1 := Lib.hid hv
        clear hv hB hB0
        go_wp2_with fail
        refine (HRO.out _).mono ?_
        rintro e w2 ⟨rv, rfl, -, hB⟩
        have hsz2 := hB.size
        have hv := HV1.out.below hB hlt1
        have hB0 := HB1.out.trans (hB.mono HB1.out.size)
        have HB2 := Lib.hid hB0
        have hlt2 := hv.lt
        clear d0 d1 d2 d3 d4 d5 d6 d7
        obtain ⟨d0, d1, d2, d3, d4, d5, d6, d7⟩ := hv.all
        have HV2 := Lib.hid hv
        clear hv hB hB0
        go_wp2_with fail
        refine (HNA.out _).mono ?_
        rintro e w3 ⟨rfl, hB⟩
        have hsz3 := hB.size
        have hv := HV2.out.below hB hlt2
        have hB0 := HB2.out.trans (hB.mono HB2.out.size)
        have HB3 := Lib.hid hB0
        have hlt3 := hv.lt
        clear d0 d1 d2 d3 d4 d5 d6 d7
        obtain ⟨d0, d1, d2, d3, d4, d5, d6, d7⟩ := hv.all
        have HV3 := Lib.hid hv
        clear hv hB hB0
        have d8 := HE.out.below HB3.out hw 2 (by decide)
        have d9 := HE.out.below HB3.out hw 5 (by decide)
        unfold errV at d8 d9
        go_wp2_with fail
        all_goals
          go_ret
          exact ⟨rfl, HB3.out⟩
      · obtain rfl : vn = 0 := by simpa using q2
        cases q3 : emptyB vs
        · have q3' : vs.toList.isEmpty = false := q3
          have q32 : ¬ vs.toList = [] := by intro h0; rw [h0] at q3'; cases q3'
          obtain rfl : exp = some 2 := hexp.trans (by simp [*])
          clear hexp
          go_enter Tryd.func75, Tryd.ntmps75
          go_wp2_with fail
          refine (HST.out _).mono ?_
          rintro e w1 ⟨rfl, hB⟩
          have hsz1 := hB.size
          have hv := HV.out.below hB hlt
          have hB0 := HAL.out.trans (hB.mono HAL.out.size)
          have HB1 := Lib.hid hB0
          have hlt1 := hv.lt
          clear d0 d1 d2 d3 d4 d5 d6 d7
          obtain ⟨d0, d1, d2, d3, d4, d5, d6, d7⟩ := hv.all
          have HV1 := Lib.hid hv
          clear hv hB hB0
          go_wp2_with fail
          refine (HRO.out _).mono ?_
          rintro e w2 ⟨rv, rfl, -, hB⟩
          have hsz2 := hB.size
          have hv := HV1.out.below hB hlt1
          have hB0 := HB1.out.trans (hB.mono HB1.out.size)
          have HB2 := Lib.hid hB0
          have hlt2 := hv.lt
          clear d0 d1 d2 d3 d4 d5 d6 d7
          obtain ⟨d0, d1, d2, d3, d4, d5, d6, d7⟩ := hv.all
          have HV2 := Lib.hid hv
          clear hv hB hB0
          go_wp2_with fail
          refine (HNA.out _).mono ?_
          rintro e w3 ⟨rfl, hB⟩
          have hsz3 := hB.size
          have hv := HV2.out.below hB hlt2
          have hB0 := HB2.out.trans (hB.mono HB2.out.size)
          have HB3 := Lib.hid hB0
          have hlt3 := hv.lt
          clear d0 d1 d2 d3 d4 d5 d6 d7
          obtain ⟨d0, d1, d2, d3, d4, d5, d6, d7⟩ := hv.all
          have HV3 := Lib.hid hv
          clear hv hB hB0
          have d8 := HE.out.below HB3.out hw 2 (by decide)
          have d9 := HE.out.below HB3.out hw 5 (by decide)
          unfold errV at d8 d9
          go_wp2_with fail
          all_goals
            go_ret
            exact ⟨rfl, HB3.out⟩
        · have q3' : vs.toList.isEmpty = true := q3
          have q32 : vs.toList = [] := by simpa using q3'
          cases q4 : ((vl : Int) == 0)
          · have q4' : vl ≠ 0 := by simpa using q4
            obtain rfl : exp = some 2 := hexp.trans (by simp [*])
            clear hexp
            go_enter Tryd.func75, Tryd.ntmps75
            go_wp2_with fail
            refine (HST.out _).mono ?_
            rintro e w1 ⟨rfl, hB⟩
            have hsz1 := hB.size
            have hv := HV.out.below hB hlt
            have hB0 := HAL.out.trans (hB.mono HAL.out.size)
            have HB1 := Lib.hid hB0
            have hlt1 := hv.lt
            clear d0 d1 d2 d3 d4 d5 d6 d7
            obtain ⟨d0, d1, d2, d3, d4, d5, d6, d7⟩ := hv.all
            have HV1 := Lib.hid hv
            clear hv hB hB0
            go_wp2_with fail
            refine (HRO.out _).mono ?_
            rintro e w2 ⟨rv, rfl, -, hB⟩
            have hsz2 := hB.size
            have hv := HV1.out.below hB hlt1
            have hB0 := HB1.out.trans (hB.mono HB1.out.size)
            have HB2 := Lib.hid hB0
            have hlt2 := hv.lt
            clear d0 d1 d2 d3 d4 d5 d6 d7
            obtain ⟨d0, d1, d2, d3, d4, d5, d6, d7⟩ := hv.all
            have HV2 := Lib.hid hv
            clear hv hB hB0
            go_wp2_with fail
            refine (HNA.out _).mono ?_
            rintro e w3 ⟨rfl, hB⟩
            have hsz3 := hB.size
            have hv := HV2.out.below hB hlt2
            have hB0 := HB2.out.trans (hB.mono HB2.out.size)
            have HB3 := Lib.hid hB0
            have hlt3 := hv.lt
            clear d0 d1 d2 d3 d4 d5 d6 d7
            obtain ⟨d0, d1, d2, d3, d4, d5, d6, d7⟩ := hv.all
            have HV3 := Lib.hid hv
            clear hv hB hB0
            have d8 := HE.out.below HB3.out hw 2 (by decide)
            have d9 := HE.out.below HB3.out hw 5 (by decide)
            unfold errV at d8 d9
            go_wp2_with fail
            all_goals
              go_ret
              exact ⟨rfl, HB3.out⟩
          · obtain rfl : vl = 0 := by simpa using q4
            cases fb
            · skip
              obtain rfl : exp = some 2 := hexp.trans (by simp [*])
              clear hexp
              go_enter Tryd.func75, Tryd.ntmps75
              go_wp2_with fail
              refine (HST.out _).mono ?_
              rintro e w1 ⟨rfl, hB⟩
              have hsz1 := hB.size
              have hv := HV.out.below hB hlt
              have hB0 := HAL.out.trans (hB.mono HAL.out.size)
              have HB1 := Lib.hid hB0
              have hlt1 := hv.lt
              clear d0 d1 d2 d3 d4 d5 d6 d7
              obtain ⟨d0, d1, d2, d3, d4, d5, d6, d7⟩ := hv.all
              have HV1 := Lib.hid hv
              clear hv hB hB0
              go_wp2_with fail
              refine (HRO.out _).mono ?_
              rintro e w2 ⟨rv, rfl, -, hB⟩
              have hsz2 := hB.size
              have hv := HV1.out.below hB hlt1
              have hB0 := HB1.out.trans (hB.mono HB1.out.size)
              have HB2 := Lib.hid hB0
              have hlt2 := hv.lt
              clear d0 d1 d2 d3 d4 d5 d6 d7
              obtain ⟨d0, d1, d2, d3, d4, d5, d6, d7⟩ := hv.all
              have HV2 := Lib.hid hv
              clear hv hB hB0
              go_wp2_with fail
              refine (HNA.out _).mono ?_
              rintro e w3 ⟨rfl, hB⟩
              have hsz3 := hB.size
              have hv := HV2.out.below hB hlt2
              have hB0 := HB2.out.trans (hB.mono HB2.out.size)
              have HB3 := Lib.hid hB0
              have hlt3 := hv.lt
              clear d0 d1 d2 d3 d4 d5 d6 d7
              obtain ⟨d0, d1, d2, d3, d4, d5, d6, d7⟩ := hv.all
              have HV3 := Lib.hid hv
              clear hv hB hB0
              have d8 := HE.out.below HB3.out hw 2 (by decide)
              have d9 := HE.out.below HB3.out hw 5 (by decide)
              unfold errV at d8 d9
              go_wp2_with fail
              all_goals
                go_ret
                exact ⟨rfl, HB3.out⟩
            · skip
              cases nb
              · skip
                cases q5 : emptyB s
                · have q5' : s.toList.isEmpty = false := q5
                  have q52 : ¬ s.toList = [] := by intro h0; rw [h0] at q5'; cases q5'
                  obtain rfl : exp = some 2 := hexp.trans (by simp [*])
                  clear hexp
                  go_enter Tryd.func75, Tryd.ntmps75
                  go_wp2_with fail
                  refine (HST.out _).mono ?_
                  rintro e w1 ⟨rfl, hB⟩
                  have hsz1 := hB.size
                  have hv := HV.out.below hB hlt
                  have hB0 := HAL.out.trans (hB.mono HAL.out.size)
                  have HB1 := Lib.hid hB0
                  have hlt1 := hv.lt
                  clear d0 d1 d2 d3 d4 d5 d6 d7
                  obtain ⟨d0, d1, d2, d3, d4, d5, d6, d7⟩ := hv.all
                  have HV1 := Lib.hid hv
                  clear hv hB hB0
                  go_wp2_with fail
                  refine (HRO.out _).mono ?_
                  rintro e w2 ⟨rv, rfl, -, hB⟩
                  have hsz2 := hB.size
                  have hv := HV1.out.below hB hlt1
                  have hB0 := HB1.out.trans (hB.mono HB1.out.size)
                  have HB2 := Lib.hid hB0
                  have hlt2 := hv.lt
                  clear d0 d1 d2 d3 d4 d5 d6 d7
                  obtain ⟨d0, d1, d2, d3, d4, d5, d6, d7⟩ := hv.all
                  have HV2 := Lib.hid hv
                  clear hv hB hB0
                  go_wp2_with fail
                  refine (HNA.out _).mono ?_
                  rintro e w3 ⟨rfl, hB⟩
                  have hsz3 := hB.size
                  have hv := HV2.out.below hB hlt2
                  have hB0 := HB2.out.trans (hB.mono HB2.out.size)
                  have HB3 := Lib.hid hB0
                  have hlt3 := hv.lt
                  clear d0 d1 d2 d3 d4 d5 d6 d7
                  obtain ⟨d0, d1, d2, d3, d4, d5, d6, d7⟩ := hv.all
                  have HV3 := Lib.hid hv
                  clear hv hB hB0
                  have d8 := HE.out.below HB3.out hw 2 (by decide)
                  have d9 := HE.out.below HB3.out hw 5 (by decide)
                  unfold errV at d8 d9
                  go_wp2_with fail
                  all_goals
                    go_ret
                    exact ⟨rfl, HB3.out⟩
                · have q5' : s.toList.isEmpty = true := q5
                  have q52 : s.toList = [] := by simpa using q5'
                  obtain rfl : exp = Option.none := hexp.trans (by simp [*])
                  clear hexp
                  go_enter Tryd.func75, Tryd.ntmps75
                  go_wp2_with fail
                  refine (HST.out _).mono ?_
                  rintro e w1 ⟨rfl, hB⟩
                  have hsz1 := hB.size
                  have hv := HV.out.below hB hlt
                  have hB0 := HAL.out.trans (hB.mono HAL.out.size)
                  have HB1 := Lib.hid hB0
                  have hlt1 := hv.lt
                  clear d0 d1 d2 d3 d4 d5 d6 d7
                  obtain ⟨d0, d1, d2, d3, d4, d5, d6, d7⟩ := hv.all
                  have HV1 := Lib.hid hv
                  clear hv hB hB0
                  go_wp2_with fail
                  refine (HRO.out _).mono ?_
                  rintro e w2 ⟨rv, rfl, -, hB⟩
                  have hsz2 := hB.size
                  have hv := HV1.out.below hB hlt1
                  have hB0 := HB1.out.trans (hB.mono HB1.out.size)
                  have HB2 := Lib.hid hB0
                  have hlt2 := hv.lt
                  clear d0 d1 d2 d3 d4 d5 d6 d7
                  obtain ⟨d0, d1, d2, d3, d4, d5, d6, d7⟩ := hv.all
                  have HV2 := Lib.hid hv
                  clear hv hB hB0
                  go_wp2_with fail
                  refine (HNA.out _).mono ?_
                  rintro e w3 ⟨rfl, hB⟩
                  have hsz3 := hB.size
                  have hv := HV2.out.below hB hlt2
                  have hB0 := HB2.out.trans (hB.mono HB2.out.size)
                  have HB3 := Lib.hid hB0
                  have hlt3 := hv.lt
                  clear d0 d1 d2 d3 d4 d5 d6 d7
                  obtain ⟨d0, d1, d2, d3, d4, d5, d6, d7⟩ := hv.all
                  have HV3 := Lib.hid hv
                  clear hv hB hB0
                  have d8 := HE.out.below HB3.out hw 2 (by decide)
                  have d9 := HE.out.below HB3.out hw 5 (by decide)
                  unfold errV at d8 d9
                  go_wp2_with fail
                  all_goals
                    go_ret
                    exact ⟨rfl, HB3.out⟩
              · skip
                cases q5 : emptyB s
                · have q5' : s.toList.isEmpty = false := q5
                  have q52 : ¬ s.toList = [] := by intro h0; rw [h0] at q5'; cases q5'
                  cases nm
                  · skip
                    obtain rfl : exp = some 5 := hexp.trans (by simp [*])
                    clear hexp
                    go_enter Tryd.func75, Tryd.ntmps75
                    go_wp2_with fail
                    refine (HST.out _).mono ?_
                    rintro e w1 ⟨rfl, hB⟩
                    have hsz1 := hB.size
                    have hv := HV.out.below hB hlt
                    have hB0 := HAL.out.trans (hB.mono HAL.out.size)
                    have HB1 := Lib.hid hB0
                    have hlt1 := hv.lt
                    clear d0 d1 d2 d3 d4 d5 d6 d7
                    obtain ⟨d0, d1, d2, d3, d4, d5, d6, d7⟩ := hv.all
                    have HV1 := Lib.hid hv
                    clear hv hB hB0
                    go_wp2_with fail
                    refine (HRO.out _).mono ?_
                    rintro e w2 ⟨rv, rfl, -, hB⟩
                    have hsz2 := hB.size
                    have hv := HV1.out.below hB hlt1
                    have hB0 := HB1.out.trans (hB.mono HB1.out.size)
                    have HB2 := Lib.hid hB0
                    have hlt2 := hv.lt
                    clear d0 d1 d2 d3 d4 d5 d6 d7
                    obtain ⟨d0, d1, d2, d3, d4, d5, d6, d7⟩ := hv.all
                    have HV2 := Lib.hid hv
                    clear hv hB hB0
                    go_wp2_with fail
                    refine (HNA.out _).mono ?_
                    rintro e w3 ⟨rfl, hB⟩
                    have hsz3 := hB.size
                    have hv := HV2.out.below hB hlt2
                    have hB0 := HB2.out.trans (hB.mono HB2.out.size)
                    have HB3 := Lib.hid hB0
                    have hlt3 := hv.lt
                    clear d0 d1 d2 d3 d4 d5 d6 d7
                    obtain ⟨d0, d1, d2, d3, d4, d5, d6, d7⟩ := hv.all
                    have HV3 := Lib.hid hv
                    clear hv hB hB0
                    have d8 := HE.out.below HB3.out hw 2 (by decide)
                    have d9 := HE.out.below HB3.out hw 5 (by decide)
                    unfold errV at d8 d9
                    go_wp2_with fail
                    refine (HNM.out _).mono ?_
                    rintro e w4 ⟨rfl, hB⟩
                    have hsz4 := hB.size
                    have hv := HV3.out.below hB hlt3
                    have hB0 := HB3.out.trans (hB.mono HB3.out.size)
                    have HB4 := Lib.hid hB0
                    have hlt4 := hv.lt
                    clear d0 d1 d2 d3 d4 d5 d6 d7
                    obtain ⟨d0, d1, d2, d3, d4, d5, d6, d7⟩ := hv.all
                    have HV4 := Lib.hid hv
                    clear hv hB hB0
                    have d8 := HE.out.below HB4.out hw 2 (by decide)
                    have d9 := HE.out.below HB4.out hw 5 (by decide)
                    unfold errV at d8 d9
                    go_wp2_with fail
                    all_goals
                      go_ret
                      exact ⟨rfl, HB4.out⟩
                  · skip
                    obtain rfl : exp = Option.none := hexp.trans (by simp [*])
                    clear hexp
                    go_enter Tryd.func75, Tryd.ntmps75
                    go_wp2_with fail
                    refine (HST.out _).mono ?_
                    rintro e w1 ⟨rfl, hB⟩
                    have hsz1 := hB.size
                    have hv := HV.out.below hB hlt
                    have hB0 := HAL.out.trans (hB.mono HAL.out.size)
                    have HB1 := Lib.hid hB0
                    have hlt1 := hv.lt
                    clear d0 d1 d2 d3 d4 d5 d6 d7
                    obtain ⟨d0, d1, d2, d3, d4, d5, d6, d7⟩ := hv.all
                    have HV1 := Lib.hid hv
                    clear hv hB hB0
                    go_wp2_with fail
                    refine (HRO.out _).mono ?_
                    rintro e w2 ⟨rv, rfl, -, hB⟩
                    have hsz2 := hB.size
                    have hv := HV1.out.below hB hlt1
                    have hB0 := HB1.out.trans (hB.mono HB1.out.size)
                    have HB2 := Lib.hid hB0
                    have hlt2 := hv.lt
                    clear d0 d1 d2 d3 d4 d5 d6 d7
                    obtain ⟨d0, d1, d2, d3, d4, d5, d6, d7⟩ := hv.all
                    have HV2 := Lib.hid hv
                    clear hv hB hB0
                    go_wp2_with fail
                    refine (HNA.out _).mono ?_
                    rintro e w3 ⟨rfl, hB⟩
                    have hsz3 := hB.size
                    have hv := HV2.out.below hB hlt2
                    have hB0 := HB2.out.trans (hB.mono HB2.out.size)
                    have HB3 := Lib.hid hB0
                    have hlt3 := hv.lt
                    clear d0 d1 d2 d3 d4 d5 d6 d7
                    obtain ⟨d0, d1, d2, d3, d4, d5, d6, d7⟩ := hv.all
                    have HV3 := Lib.hid hv
                    clear hv hB hB0
                    have d8 := HE.out.below HB3.out hw 2 (by decide)
                    have d9 := HE.out.below HB3.out hw 5 (by decide)
                    unfold errV at d8 d9
                    go_wp2_with fail
                    refine (HNM.out _).mono ?_
                    rintro e w4 ⟨rfl, hB⟩
                    have hsz4 := hB.size
                    have hv := HV3.out.below hB hlt3
                    have hB0 := HB3.out.trans (hB.mono HB3.out.size)
                    have HB4 := Lib.hid hB0
                    have hlt4 := hv.lt
                    clear d0 d1 d2 d3 d4 d5 d6 d7
                    obtain ⟨d0, d1, d2, d3, d4, d5, d6, d7⟩ := hv.all
                    have HV4 := Lib.hid hv
                    clear hv hB hB0
                    have d8 := HE.out.below HB4.out hw 2 (by decide)
                    have d9 := HE.out.below HB4.out hw 5 (by decide)
                    unfold errV at d8 d9
                    go_wp2_with fail
                    all_goals
                      go_ret
                      exact ⟨rfl, HB4.out⟩
                · have q5' : s.toList.isEmpty = true := q5
                  have q52 : s.toList = [] := by simpa using q5'
                  cases nm
                  · skip
                    cases n5
                    · skip
                      obtain rfl : exp = some 5 := hexp.trans (by simp [*])
                      clear hexp
                      go_enter Tryd.func75, Tryd.ntmps75
                      go_wp2_with fail
                      refine (HST.out _).mono ?_
                      rintro e w1 ⟨rfl, hB⟩
                      have hsz1 := hB.size
                      have hv := HV.out.below hB hlt
                      have hB0 := HAL.out.trans (hB.mono HAL.out.size)
                      have HB1 := Lib.hid hB0
                      have hlt1 := hv.lt
                      clear d0 d1 d2 d3 d4 d5 d6 d7
                      obtain ⟨d0, d1, d2, d3, d4, d5, d6, d7⟩ := hv.all
                      have HV1 := Lib.hid hv
                      clear hv hB hB0
                      go_wp2_with fail
                      refine (HRO.out _).mono ?_
                      rintro e w2 ⟨rv, rfl, -, hB⟩
                      have hsz2 := hB.size
                      have hv := HV1.out.below hB hlt1
                      have hB0 := HB1.out.trans (hB.mono HB1.out.size)
                      have HB2 := Lib.hid hB0
                      have hlt2 := hv.lt
                      clear d0 d1 d2 d3 d4 d5 d6 d7
                      obtain ⟨d0, d1, d2, d3, d4, d5, d6, d7⟩ := hv.all
                      have HV2 := Lib.hid hv
                      clear hv hB hB0
                      go_wp2_with fail
                      refine (HNA.out _).mono ?_
                      rintro e w3 ⟨rfl, hB⟩
                      have hsz3 := hB.size
                      have hv := HV2.out.below hB hlt2
                      have hB0 := HB2.out.trans (hB.mono HB2.out.size)
                      have HB3 := Lib.hid hB0
                      have hlt3 := hv.lt
                      clear d0 d1 d2 d3 d4 d5 d6 d7
                      obtain ⟨d0, d1, d2, d3, d4, d5, d6, d7⟩ := hv.all
                      have HV3 := Lib.hid hv
                      clear hv hB hB0
                      have d8 := HE.out.below HB3.out hw 2 (by decide)
                      have d9 := HE.out.below HB3.out hw 5 (by decide)
                      unfold errV at d8 d9
                      go_wp2_with fail
                      refine (HNM.out _).mono ?_
                      rintro e w4 ⟨rfl, hB⟩
                      have hsz4 := hB.size
                      have hv := HV3.out.below hB hlt3
                      have hB0 := HB3.out.trans (hB.mono HB3.out.size)
                      have HB4 := Lib.hid hB0
                      have hlt4 := hv.lt
                      clear d0 d1 d2 d3 d4 d5 d6 d7
                      obtain ⟨d0, d1, d2, d3, d4, d5, d6, d7⟩ := hv.all
                      have HV4 := Lib.hid hv
                      clear hv hB hB0
                      have d8 := HE.out.below HB4.out hw 2 (by decide)
                      have d9 := HE.out.below HB4.out hw 5 (by decide)
                      unfold errV at d8 d9
                      go_wp2_with fail
                      all_goals
                        go_ret
                        exact ⟨rfl, HB4.out⟩
                    · skip
                      obtain rfl : exp = Option.none := hexp.trans (by simp [*])
                      clear hexp
                      go_enter Tryd.func75, Tryd.ntmps75
                      go_wp2_with fail
                      refine (HST.out _).mono ?_
                      rintro e w1 ⟨rfl, hB⟩
                      have hsz1 := hB.size
                      have hv := HV.out.below hB hlt
                      have hB0 := HAL.out.trans (hB.mono HAL.out.size)
                      have HB1 := Lib.hid hB0
                      have hlt1 := hv.lt
                      clear d0 d1 d2 d3 d4 d5 d6 d7
                      obtain ⟨d0, d1, d2, d3, d4, d5, d6, d7⟩ := hv.all
                      have HV1 := Lib.hid hv
                      clear hv hB hB0
                      go_wp2_with fail
                      refine (HRO.out _).mono ?_
                      rintro e w2 ⟨rv, rfl, -, hB⟩
                      have hsz2 := hB.size
                      have hv := HV1.out.below hB hlt1
                      have hB0 := HB1.out.trans (hB.mono HB1.out.size)
                      have HB2 := Lib.hid hB0
                      have hlt2 := hv.lt
                      clear d0 d1 d2 d3 d4 d5 d6 d7
                      obtain ⟨d0, d1, d2, d3, d4, d5, d6, d7⟩ := hv.all
                      have HV2 := Lib.hid hv
                      clear hv hB hB0
                      go_wp2_with fail
                      refine (HNA.out _).mono ?_
                      rintro e w3 ⟨rfl, hB⟩
                      have hsz3 := hB.size
                      have hv := HV2.out.below hB hlt2
                      have hB0 := HB2.out.trans (hB.mono HB2.out.size)
                      have HB3 := Lib.hid hB0
                      have hlt3 := hv.lt
                      clear d0 d1 d2 d3 d4 d5 d6 d7
                      obtain ⟨d0, d1, d2, d3, d4, d5, d6, d7⟩ := hv.all
                      have HV3 := Lib.hid hv
                      clear hv hB hB0
                      have d8 := HE.out.below HB3.out hw 2 (by decide)
                      have d9 := HE.out.below HB3.out hw 5 (by decide)
                      unfold errV at d8 d9
                      go_wp2_with fail
                      refine (HNM.out _).mono ?_
                      rintro e w4 ⟨rfl, hB⟩
                      have hsz4 := hB.size
                      have hv := HV3.out.below hB hlt3
                      have hB0 := HB3.out.trans (hB.mono HB3.out.size)
                      have HB4 := Lib.hid hB0
                      have hlt4 := hv.lt
                      clear d0 d1 d2 d3 d4 d5 d6 d7
                      obtain ⟨d0, d1, d2, d3, d4, d5, d6, d7⟩ := hv.all
                      have HV4 := Lib.hid hv
                      clear hv hB hB0
                      have d8 := HE.out.below HB4.out hw 2 (by decide)
                      have d9 := HE.out.below HB4.out hw 5 (by decide)
                      unfold errV at d8 d9
                      go_wp2_with fail
                      all_goals
                        go_ret
                        exact ⟨rfl, HB4.out⟩
                  · skip
                    obtain rfl : exp = Option.none := hexp.trans (by simp [*])
                    clear hexp
                    go_enter Tryd.func75, Tryd.ntmps75
                    go_wp2_with fail
                    refine (HST.out _).mono ?_
                    rintro e w1 ⟨rfl, hB⟩
                    have hsz1 := hB.size
                    have hv := HV.out.below hB hlt
                    have hB0 := HAL.out.trans (hB.mono HAL.out.size)
                    have HB1 := Lib.hid hB0
                    have hlt1 := hv.lt
                    clear d0 d1 d2 d3 d4 d5 d6 d7
                    obtain ⟨d0, d1, d2, d3, d4, d5, d6, d7⟩ := hv.all
                    have HV1 := Lib.hid hv
                    clear hv hB hB0
                    go_wp2_with fail
                    refine (HRO.out _).mono ?_
                    rintro e w2 ⟨rv, rfl, -, hB⟩
                    have hsz2 := hB.size
                    have hv := HV1.out.below hB hlt1
                    have hB0 := HB1.out.trans (hB.mono HB1.out.size)
                    have HB2 := Lib.hid hB0
                    have hlt2 := hv.lt
                    clear d0 d1 d2 d3 d4 d5 d6 d7
                    obtain ⟨d0, d1, d2, d3, d4, d5, d6, d7⟩ := hv.all
                    have HV2 := Lib.hid hv
                    clear hv hB hB0
                    go_wp2_with fail
                    refine (HNA.out _).mono ?_
                    rintro e w3 ⟨rfl, hB⟩
                    have hsz3 := hB.size
                    have hv := HV2.out.below hB hlt2
                    have hB0 := HB2.out.trans (hB.mono HB2.out.size)
                    have HB3 := Lib.hid hB0
                    have hlt3 := hv.lt
                    clear d0 d1 d2 d3 d4 d5 d6 d7
                    obtain ⟨d0, d1, d2, d3, d4, d5, d6, d7⟩ := hv.all
                    have HV3 := Lib.hid hv
                    clear hv hB hB0
                    have d8 := HE.out.below HB3.out hw 2 (by decide)
                    have d9 := HE.out.below HB3.out hw 5 (by decide)
                    unfold errV at d8 d9
                    go_wp2_with fail
                    refine (HNM.out _).mono ?_
                    rintro e w4 ⟨rfl, hB⟩
                    have hsz4 := hB.size
                    have hv := HV3.out.below hB hlt3
                    have hB0 := HB3.out.trans (hB.mono HB3.out.size)
                    have HB4 := Lib.hid hB0
                    have hlt4 := hv.lt
                    clear d0 d1 d2 d3 d4 d5 d6 d7
                    obtain ⟨d0, d1, d2, d3, d4, d5, d6, d7⟩ := hv.all
                    have HV4 := Lib.hid hv
                    clear hv hB hB0
                    have d8 := HE.out.below HB4.out hw 2 (by decide)
                    have d9 := HE.out.below HB4.out hw 5 (by decide)
                    unfold errV at d8 d9
                    go_wp2_with fail
                    all_goals
                      go_ret
                      exact ⟨rfl, HB4.out⟩
  · rw [h] at HST
    subst h2
    have h3' : (op != 45) = true := by simpa using h3
    have h4' : (op != 46) = true := by simpa using h4
    cases q1 : (vk == 0)
    · have q1' : vk ≠ 0 := by simpa using q1
      obtain rfl : exp = some 2 := hexp.trans (by simp [*])
      clear hexp
      go_enter Tryd.func75, Tryd.ntmps75
      go_wp2_with fail
      refine (HST.out _).mono ?_
      rintro e w1 ⟨rfl, hB⟩
      have hsz1 := hB.size
      have hv := HV.out.below hB hlt
      have hB0 := HAL.out.trans (hB.mono HAL.out.size)
      have HB1 := Lib.hid hB0
      have hlt1 := hv.lt
      clear d0 d1 d2 d3 d4 d5 d6 d7
      obtain ⟨d0, d1, d2, d3, d4, d5, d6, d7⟩ := hv.all
      have HV1 := Lib.hid hv
      clear hv hB hB0
      go_wp2_with fail
      refine (HRO.out _).mono ?_
      rintro e w2 ⟨rv, rfl, -, hB⟩
      have hsz2 := hB.size
      have hv := HV1.out.below hB hlt1
      have hB0 := HB1.out.trans (hB.mono HB1.out.size)
      have HB2 := Lib.hid hB0
      have hlt2 := hv.lt
      clear d0 d1 d2 d3 d4 d5 d6 d7
      obtain ⟨d0, d1, d2, d3, d4, d5, d6, d7⟩ := hv.all
      have HV2 := Lib.hid hv
      clear hv hB hB0
      go_wp2_with fail
      refine (HNA.out _).mono ?_
      rintro e w3 ⟨rfl, hB⟩
      have hsz3 := hB.size
      have hv := HV2.out.below hB hlt2
      have hB0 := HB2.out.trans (hB.mono HB2.out.size)
      have HB3 := Lib.hid hB0
      have hlt3 := hv.lt
      clear d0 d1 d2 d3 d4 d5 d6 d7
      obtain ⟨d0, d1, d2, d3, d4, d5, d6, d7⟩ := hv.all
      have HV3 := Lib.hid hv
      clear hv hB hB0
      have d8 := HE.out.below HB3.out hw 2 (by decide)
      have d9 := HE.out.below HB3.out hw 5 (by decide)
      unfold errV at d8 d9
      go_wp2_with fail
      all_goals
        go_ret
        exact ⟨rfl, HB3.out⟩
    · obtain rfl : vk = 0 := by simpa using q1
      cases q2 : (vn == 0)
      · have q2' : vn ≠ 0 := by simpa using q2
        obtain rfl : exp = some 2 := hexp.trans (by simp [*])
        clear hexp
        go_enter Tryd.func75, Tryd.ntmps75
        go_wp2_with fail
        refine (HST.out _).mono ?_
        rintro e w1 ⟨rfl, hB⟩
        have hsz1 := hB.size
        have hv := HV.out.below hB hlt
        have hB0 := HAL.out.trans (hB.mono HAL.out.size)
        have HB1 := Lib.hid hB0
        have hlt1 := hv.lt
        clear d0 d1 d2 d3 d4 d5 d6 d7
        obtain ⟨d0, d1, d2, d3, d4, d5, d6, d7⟩ := hv.all
        have HV1 := Lib.hid hv
        clear hv hB hB0
        go_wp2_with fail
        refine (HRO.out _).mono ?_
        rintro e w2 ⟨rv, rfl, -, hB⟩
        have hsz2 := hB.size
        have hv := HV1.out.below hB hlt1
        have hB0 := HB1.out.trans (hB.mono HB1.out.size)
        have HB2 := Lib.hid hB0
        have hlt2 := hv.lt
        clear d0 d1 d2 d3 d4 d5 d6 d7
        obtain ⟨d0, d1, d2, d3, d4, d5, d6, d7⟩ := hv.all
        have HV2 := Lib.hid hv
        clear hv hB hB0
        go_wp2_with fail
        refine (HNA.out _).mono ?_
        rintro e w3 ⟨rfl, hB⟩
        have hsz3 := hB.size
        have hv := HV2.out.below hB hlt2
        have hB0 := HB2.out.trans (hB.mono HB2.out.size)
        have HB3 := Lib.hid hB0
        have hlt3 := hv.lt
        clear d0 d1 d2 d3 d4 d5 d6 d7
        obtain ⟨d0, d1, d2, d3, d4, d5, d6, d7⟩ := hv.all
        have HV3 := Lib.hid hv
        clear hv hB hB0
        have d8 := HE.out.below HB3.out hw 2 (by decide)
        have d9 := HE.out.below HB3.out hw 5 (by decide)
        unfold errV at d8 d9
        go_wp2_with fail
        all_goals
          go_ret
          exact ⟨rfl, HB3.out⟩
      · obtain rfl : vn = 0 := by simpa using q2
        cases q3 : emptyB vs
        · have q3' : vs.toList.isEmpty = false := q3
          have q32 : ¬ vs.toList = [] := by intro h0; rw [h0] at q3'; cases q3'
          obtain rfl : exp = some 2 := hexp.trans (by simp [*])
          clear hexp
          go_enter Tryd.func75, Tryd.ntmps75
          go_wp2_with fail
          refine (HST.out _).mono ?_
          rintro e w1 ⟨rfl, hB⟩
          have hsz1 := hB.size
          have hv := HV.out.below hB hlt
          have hB0 := HAL.out.trans (hB.mono HAL.out.size)
          have HB1 := Lib.hid hB0
          have hlt1 := hv.lt
          clear d0 d1 d2 d3 d4 d5 d6 d7
          obtain ⟨d0, d1, d2, d3, d4, d5, d6, d7⟩ := hv.all
          have HV1 := Lib.hid hv
          clear hv hB hB0
          go_wp2_with fail
          refine (HRO.out _).mono ?_
          rintro e w2 ⟨rv, rfl, -, hB⟩
          have hsz2 := hB.size
          have hv := HV1.out.below hB hlt1
          have hB0 := HB1.out.trans (hB.mono HB1.out.size)
          have HB2 := Lib.hid hB0
          have hlt2 := hv.lt
          clear d0 d1 d2 d3 d4 d5 d6 d7
          obtain ⟨d0, d1, d2, d3, d4, d5, d6, d7⟩ := hv.all
          have HV2 := Lib.hid hv
          clear hv hB hB0
          go_wp2_with fail
          refine (HNA.out _).mono ?_
          rintro e w3 ⟨rfl, hB⟩
          have hsz3 := hB.size
          have hv := HV2.out.below hB hlt2
          have hB0 := HB2.out.trans (hB.mono HB2.out.size)
          have HB3 := Lib.hid hB0
          have hlt3 := hv.lt
          clear d0 d1 d2 d3 d4 d5 d6 d7
          obtain ⟨d0, d1, d2, d3, d4, d5, d6, d7⟩ := hv.all
          have HV3 := Lib.hid hv
          clear hv hB hB0
          have d8 := HE.out.below HB3.out hw 2 (by decide)
          have d9 := HE.out.below HB3.out hw 5 (by decide)
          unfold errV at d8 d9
          go_wp2_with fail
          all_goals
            go_ret
            exact ⟨rfl, HB3.out⟩
        · have q3' : vs.toList.isEmpty = true := q3
          have q32 : vs.toList = [] := by simpa using q3'
          cases q4 : ((vl : Int) == 0)
          · have q4' : vl ≠ 0 := by simpa using q4
            obtain rfl : exp = some 2 := hexp.trans (by simp [*])
            clear hexp
            go_enter Tryd.func75, Tryd.ntmps75
            go_wp2_with fail
            refine (HST.out _).mono ?_
            rintro e w1 ⟨rfl, hB⟩
            have hsz1 := hB.size
            have hv := HV.out.below hB hlt
            have hB0 := HAL.out.trans (hB.mono HAL.out.size)
            have HB1 := Lib.hid hB0
            have hlt1 := hv.lt
            clear d0 d1 d2 d3 d4 d5 d6 d7
            obtain ⟨d0, d1, d2, d3, d4, d5, d6, d7⟩ := hv.all
            have HV1 := Lib.hid hv
            clear hv hB hB0
            go_wp2_with fail
            refine (HRO.out _).mono ?_
            rintro e w2 ⟨rv, rfl, -, hB⟩
            have hsz2 := hB.size
            have hv := HV1.out.below hB hlt1
            have hB0 := HB1.out.trans (hB.mono HB1.out.size)
            have HB2 := Lib.hid hB0
            have hlt2 := hv.lt
            clear d0 d1 d2 d3 d4 d5 d6 d7
            obtain ⟨d0, d1, d2, d3, d4, d5, d6, d7⟩ := hv.all
            have HV2 := Lib.hid hv
            clear hv hB hB0
            go_wp2_with fail
            refine (HNA.out _).mono ?_
            rintro e w3 ⟨rfl, hB⟩
            have hsz3 := hB.size
            have hv := HV2.out.below hB hlt2
            have hB0 := HB2.out.trans (hB.mono HB2.out.size)
            have HB3 := Lib.hid hB0
            have hlt3 := hv.lt
            clear d0 d1 d2 d3 d4 d5 d6 d7
            obtain ⟨d0, d1, d2, d3, d4, d5, d6, d7⟩ := hv.all
            have HV3 := Lib.hid hv
            clear hv hB hB0
            have d8 := HE.out.below HB3.out hw 2 (by decide)
            have d9 := HE.out.below HB3.out hw 5 (by decide)
            unfold errV at d8 d9
            go_wp2_with fail
            all_goals
              go_ret
              exact ⟨rfl, HB3.out⟩
          · obtain rfl : vl = 0 := by simpa using q4
            cases fb
            · skip
              obtain rfl : exp = some 2 := hexp.trans (by simp [*])
              clear hexp
              go_enter Tryd.func75, Tryd.ntmps75
              go_wp2_with fail
              refine (HST.out _).mono ?_
              rintro e w1 ⟨rfl, hB⟩
              have hsz1 := hB.size
              have hv := HV.out.below hB hlt
              have hB0 := HAL.out.trans (hB.mono HAL.out.size)
              have HB1 := Lib.hid hB0
              have hlt1 := hv.lt
              clear d0 d1 d2 d3 d4 d5 d6 d7
              obtain ⟨d0, d1, d2, d3, d4, d5, d6, d7⟩ := hv.all
              have HV1 := Lib.hid hv
              clear hv hB hB0
              go_wp2_with fail
              refine (HRO.out _).mono ?_
              rintro e w2 ⟨rv, rfl, -, hB⟩
              have hsz2 := hB.size
              have hv := HV1.out.below hB hlt1
              have hB0 := HB1.out.trans (hB.mono HB1.out.size)
              have HB2 := Lib.hid hB0
              have hlt2 := hv.lt
              clear d0 d1 d2 d3 d4 d5 d6 d7
              obtain ⟨d0, d1, d2, d3, d4, d5, d6, d7⟩ := hv.all
              have HV2 := Lib.hid hv
              clear hv hB hB0
              go_wp2_with fail
              refine (HNA.out _).mono ?_
              rintro e w3 ⟨rfl, hB⟩
              have hsz3 := hB.size
              have hv := HV2.out.below hB hlt2
              have hB0 := HB2.out.trans (hB.mono HB2.out.size)
              have HB3 := Lib.hid hB0
              have hlt3 := hv.lt
              clear d0 d1 d2 d3 d4 d5 d6 d7
              obtain ⟨d0, d1, d2, d3, d4, d5, d6, d7⟩ := hv.all
              have HV3 := Lib.hid hv
              clear hv hB hB0
              have d8 := HE.out.below HB3.out hw 2 (by decide)
              have d9 := HE.out.below HB3.out hw 5 (by decide)
              unfold errV at d8 d9
              go_wp2_with fail
              all_goals
                go_ret
                exact ⟨rfl, HB3.out⟩
            · skip
              cases nb
              · skip
                cases q5 : emptyB s
                · have q5' : s.toList.isEmpty = false := q5
                  have q52 : ¬ s.toList = [] := by intro h0; rw [h0] at q5'; cases q5'
                  obtain rfl : exp = some 2 := hexp.trans (by simp [*])
                  clear hexp
                  go_enter Tryd.func75, Tryd.ntmps75
                  go_wp2_with fail
                  refine (HST.out _).mono ?_
                  rintro e w1 ⟨rfl, hB⟩
                  have hsz1 := hB.size
                  have hv := HV.out.below hB hlt
                  have hB0 := HAL.out.trans (hB.mono HAL.out.size)
                  have HB1 := Lib.hid hB0
                  have hlt1 := hv.lt
                  clear d0 d1 d2 d3 d4 d5 d6 d7
                  obtain ⟨d0, d1, d2, d3, d4, d5, d6, d7⟩ := hv.all
                  have HV1 := Lib.hid hv
                  clear hv hB hB0
                  go_wp2_with fail
                  refine (HRO.out _).mono ?_
                  rintro e w2 ⟨rv, rfl, -, hB⟩
                  have hsz2 := hB.size
                  have hv := HV1.out.below hB hlt1
                  have hB0 := HB1.out.trans (hB.mono HB1.out.size)
                  have HB2 := Lib.hid hB0
                  have hlt2 := hv.lt
                  clear d0 d1 d2 d3 d4 d5 d6 d7
                  obtain ⟨d0, d1, d2, d3, d4, d5, d6, d7⟩ := hv.all
                  have HV2 := Lib.hid hv
                  clear hv hB hB0
                  go_wp2_with fail
                  refine (HNA.out _).mono ?_
                  rintro e w3 ⟨rfl, hB⟩
                  have hsz3 := hB.size
                  have hv := HV2.out.below hB hlt2
                  have hB0 := HB2.out.trans (hB.mono HB2.out.size)
                  have HB3 := Lib.hid hB0
                  have hlt3 := hv.lt
                  clear d0 d1 d2 d3 d4 d5 d6 d7
                  obtain ⟨d0, d1, d2, d3, d4, d5, d6, d7⟩ := hv.all
                  have HV3 := Lib.hid hv
                  clear hv hB hB0
                  have d8 := HE.out.below HB3.out hw 2 (by decide)
                  have d9 := HE.out.below HB3.out hw 5 (by decide)
                  unfold errV at d8 d9
                  go_wp2_with fail
                  all_goals
                    go_ret
                    exact ⟨rfl, HB3.out⟩
                · have q5' : s.toList.isEmpty = true := q5
                  have q52 : s.toList = [] := by simpa using q5'
                  obtain rfl : exp = Option.none := hexp.trans (by simp [*])
                  clear hexp
                  go_enter Tryd.func75, Tryd.ntmps75
                  go_wp2_with fail
                  refine (HST.out _).mono ?_
                  rintro e w1 ⟨rfl, hB⟩
                  have hsz1 := hB.size
                  have hv := HV.out.below hB hlt
                  have hB0 := HAL.out.trans (hB.mono HAL.out.size)
                  have HB1 := Lib.hid hB0
                  have hlt1 := hv.lt
                  clear d0 d1 d2 d3 d4 d5 d6 d7
                  obtain ⟨d0, d1, d2, d3, d4, d5, d6, d7⟩ := hv.all
                  have HV1 := Lib.hid hv
                  clear hv hB hB0
                  go_wp2_with fail
                  refine (HRO.out _).mono ?_
                  rintro e w2 ⟨rv, rfl, -, hB⟩
                  have hsz2 := hB.size
                  have hv := HV1.out.below hB hlt1
                  have hB0 := HB1.out.trans (hB.mono HB1.out.size)
                  have HB2 := Lib.hid hB0
                  have hlt2 := hv.lt
                  clear d0 d1 d2 d3 d4 d5 d6 d7
                  obtain ⟨d0, d1, d2, d3, d4, d5, d6, d7⟩ := hv.all
                  have HV2 := Lib.hid hv
                  clear hv hB hB0
                  go_wp2_with fail
                  refine (HNA.out _).mono ?_
                  rintro e w3 ⟨rfl, hB⟩
                  have hsz3 := hB.size
                  have hv := HV2.out.below hB hlt2
                  have hB0 := HB2.out.trans (hB.mono HB2.out.size)
                  have HB3 := Lib.hid hB0
                  have hlt3 := hv.lt
                  clear d0 d1 d2 d3 d4 d5 d6 d7
                  obtain ⟨d0, d1, d2, d3, d4, d5, d6, d7⟩ := hv.all
                  have HV3 := Lib.hid hv
                  clear hv hB hB0
                  have d8 := HE.out.below HB3.out hw 2 (by decide)
                  have d9 := HE.out.below HB3.out hw 5 (by decide)
                  unfold errV at d8 d9
                  go_wp2_with fail
                  all_goals
                    go_ret
                    exact ⟨rfl, HB3.out⟩
              · skip
                cases q5 : emptyB s
                · have q5' : s.toList.isEmpty = false := q5
                  have q52 : ¬ s.toList = [] := by intro h0; rw [h0] at q5'; cases q5'
                  cases nm
                  · skip
                    obtain rfl : exp = some 5 := hexp.trans (by simp [*])
                    clear hexp
                    go_enter Tryd.func75, Tryd.ntmps75
                    go_wp2_with fail
                    refine (HST.out _).mono ?_
                    rintro e w1 ⟨rfl, hB⟩
                    have hsz1 := hB.size
                    have hv := HV.out.below hB hlt
                    have hB0 := HAL.out.trans (hB.mono HAL.out.size)
                    have HB1 := Lib.hid hB0
                    have hlt1 := hv.lt
                    clear d0 d1 d2 d3 d4 d5 d6 d7
                    obtain ⟨d0, d1, d2, d3, d4, d5, d6, d7⟩ := hv.all
                    have HV1 := Lib.hid hv
                    clear hv hB hB0
                    go_wp2_with fail
                    refine (HRO.out _).mono ?_
                    rintro e w2 ⟨rv, rfl, -, hB⟩
                    have hsz2 := hB.size
                    have hv := HV1.out.below hB hlt1
                    have hB0 := HB1.out.trans (hB.mono HB1.out.size)
                    have HB2 := Lib.hid hB0
                    have hlt2 := hv.lt
                    clear d0 d1 d2 d3 d4 d5 d6 d7
                    obtain ⟨d0, d1, d2, d3, d4, d5, d6, d7⟩ := hv.all
                    have HV2 := Lib.hid hv
                    clear hv hB hB0
                    go_wp2_with fail
                    refine (HNA.out _).mono ?_
                    rintro e w3 ⟨rfl, hB⟩
                    have hsz3 := hB.size
                    have hv := HV2.out.below hB hlt2
                    have hB0 := HB2.out.trans (hB.mono HB2.out.size)
                    have HB3 := Lib.hid hB0
                    have hlt3 := hv.lt
                    clear d0 d1 d2 d3 d4 d5 d6 d7
                    obtain ⟨d0, d1, d2, d3, d4, d5, d6, d7⟩ := hv.all
                    have HV3 := Lib.hid hv
                    clear hv hB hB0
                    have d8 := HE.out.below HB3.out hw 2 (by decide)
                    have d9 := HE.out.below HB3.out hw 5 (by decide)
                    unfold errV at d8 d9
                    go_wp2_with fail
                    refine (HNM.out _).mono ?_
                    rintro e w4 ⟨rfl, hB⟩
                    have hsz4 := hB.size
                    have hv := HV3.out.below hB hlt3
                    have hB0 := HB3.out.trans (hB.mono HB3.out.size)
                    have HB4 := Lib.hid hB0
                    have hlt4 := hv.lt
                    clear d0 d1 d2 d3 d4 d5 d6 d7
                    obtain ⟨d0, d1, d2, d3, d4, d5, d6, d7⟩ := hv.all
                    have HV4 := Lib.hid hv
                    clear hv hB hB0
                    have d8 := HE.out.below HB4.out hw 2 (by decide)
                    have d9 := HE.out.below HB4.out hw 5 (by decide)
                    unfold errV at d8 d9
                    go_wp2_with fail
                    all_goals
                      go_ret
                      exact ⟨rfl, HB4.out⟩
                  · skip
                    obtain rfl : exp = Option.none := hexp.trans (by simp [*])
                    clear hexp
                    go_enter Tryd.func75, Tryd.ntmps75
                    go_wp2_with fail
                    refine (HST.out _).mono ?_
                    rintro e w1 ⟨rfl, hB⟩
                    have hsz1 := hB.size
                    have hv := HV.out.below hB hlt
                    have hB0 := HAL.out.trans (hB.mono HAL.out.size)
                    have HB1 := Lib.hid hB0
                    have hlt1 := hv.lt
                    clear d0 d1 d2 d3 d4 d5 d6 d7
                    obtain ⟨d0, d1, d2, d3, d4, d5, d6, d7⟩ := hv.all
                    have HV1 := Lib.hid hv
                    clear hv hB hB0
                    go_wp2_with fail
                    refine (HRO.out _).mono ?_
                    rintro e w2 ⟨rv, rfl, -, hB⟩
                    have hsz2 := hB.size
                    have hv := HV1.out.below hB hlt1
                    have hB0 := HB1.out.trans (hB.mono HB1.out.size)
                    have HB2 := Lib.hid hB0
                    have hlt2 := hv.lt
                    clear d0 d1 d2 d3 d4 d5 d6 d7
                    obtain ⟨d0, d1, d2, d3, d4, d5, d6, d7⟩ := hv.all
                    have HV2 := Lib.hid hv
                    clear hv hB hB0
                    go_wp2_with fail
                    refine (HNA.out _).mono ?_
                    rintro e w3 ⟨rfl, hB⟩
                    have hsz3 := hB.size
                    have hv := HV2.out.below hB hlt2
                    have hB0 := HB2.out.trans (hB.mono HB2.out.size)
                    have HB3 := Lib.hid hB0
                    have hlt3 := hv.lt
                    clear d0 d1 d2 d3 d4 d5 d6 d7
                    obtain ⟨d0, d1, d2, d3, d4, d5, d6, d7⟩ := hv.all
                    have HV3 := Lib.hid hv
                    clear hv hB hB0
                    have d8 := HE.out.below HB3.out hw 2 (by decide)
                    have d9 := HE.out.below HB3.out hw 5 (by decide)
                    unfold errV at d8 d9
                    go_wp2_with fail
                    refine (HNM.out _).mono ?_
                    rintro e w4 ⟨rfl, hB⟩
                    have hsz4 := hB.size
                    have hv := HV3.out.below hB hlt3
                    have hB0 := HB3.out.trans (hB.mono HB3.out.size)
                    have HB4 := Lib.hid hB0
                    have hlt4 := hv.lt
                    clear d0 d1 d2 d3 d4 d5 d6 d7
                    obtain ⟨d0, d1, d2, d3, d4, d5, d6, d7⟩ := hv.all
                    have HV4 := Lib.hid hv
                    clear hv hB hB0
                    have d8 := HE.out.below HB4.out hw 2 (by decide)
                    have d9 := HE.out.below HB4.out hw 5 (by decide)
                    unfold errV at d8 d9
                    go_wp2_with fail
                    all_goals
                      go_ret
                      exact ⟨rfl, HB4.out⟩
                · have q5' : s.toList.isEmpty = true := q5
                  have q52 : s.toList = [] := by simpa using q5'
                  cases nm
                  · skip
                    cases n5
                    · skip
                      obtain rfl : exp = some 5 := hexp.trans (by simp [*])
                      clear hexp
                      go_enter Tryd.func75, Tryd.ntmps75
                      go_wp2_with fail
                      refine (HST.out _).mono ?_
                      rintro e w1 ⟨rfl, hB⟩
                      have hsz1 := hB.size
                      have hv := HV.out.below hB hlt
                      have hB0 := HAL.out.trans (hB.mono HAL.out.size)
                      have HB1 := Lib.hid hB0
                      have hlt1 := hv.lt
                      clear d0 d1 d2 d3 d4 d5 d6 d7
                      obtain ⟨d0, d1, d2, d3, d4, d5, d6, d7⟩ := hv.all
                      have HV1 := Lib.hid hv
                      clear hv hB hB0
                      go_wp2_with fail
                      refine (HRO.out _).mono ?_
                      rintro e w2 ⟨rv, rfl, -, hB⟩
                      have hsz2 := hB.size
                      have hv := HV1.out.below hB hlt1
                      have hB0 := HB1.out.trans (hB.mono HB1.out.size)
                      have HB2 := Lib.hid hB0
                      have hlt2 := hv.lt
                      clear d0 d1 d2 d3 d4 d5 d6 d7
                      obtain ⟨d0, d1, d2, d3, d4, d5, d6, d7⟩ := hv.all
                      have HV2 := Lib.hid hv
                      clear hv hB hB0
                      go_wp2_with fail
                      refine (HNA.out _).mono ?_
                      rintro e w3 ⟨rfl, hB⟩
                      have hsz3 := hB.size
                      have hv := HV2.out.below hB hlt2
                      have hB0 := HB2.out.trans (hB.mono HB2.out.size)
                      have HB3 := Lib.hid hB0
                      have hlt3 := hv.lt
                      clear d0 d1 d2 d3 d4 d5 d6 d7
                      obtain ⟨d0, d1, d2, d3, d4, d5, d6, d7⟩ := hv.all
                      have HV3 := Lib.hid hv
                      clear hv hB hB0
                      have d8 := HE.out.below HB3.out hw 2 (by decide)
                      have d9 := HE.out.below HB3.out hw 5 (by decide)
                      unfold errV at d8 d9
                      go_wp2_with fail
                      refine (HNM.out _).mono ?_
                      rintro e w4 ⟨rfl, hB⟩
                      have hsz4 := hB.size
                      have hv := HV3.out.below hB hlt3
                      have hB0 := HB3.out.trans (hB.mono HB3.out.size)
                      have HB4 := Lib.hid hB0
                      have hlt4 := hv.lt
                      clear d0 d1 d2 d3 d4 d5 d6 d7
                      obtain ⟨d0, d1, d2, d3, d4, d5, d6, d7⟩ := hv.all
                      have HV4 := Lib.hid hv
                      clear hv hB hB0
                      have d8 := HE.out.below HB4.out hw 2 (by decide)
                      have d9 := HE.out.below HB4.out hw 5 (by decide)
                      unfold errV at d8 d9
                      go_wp2_with fail
                      all_goals
                        go_ret
                        exact ⟨rfl, HB4.out⟩
                    · skip
                      obtain rfl : exp = Option.none := hexp.trans (by simp [*])
                      clear hexp
                      go_enter Tryd.func75, Tryd.ntmps75
                      go_wp2_with fail
                      refine (HST.out _).mono ?_
                      rintro e w1 ⟨rfl, hB⟩
                      have hsz1 := hB.size
                      have hv := HV.out.below hB hlt
                      have hB0 := HAL.out.trans (hB.mono HAL.out.size)
                      have HB1 := Lib.hid hB0
                      have hlt1 := hv.lt
                      clear d0 d1 d2 d3 d4 d5 d6 d7
                      obtain ⟨d0, d1, d2, d3, d4, d5, d6, d7⟩ := hv.all
                      have HV1 := Lib.hid hv
                      clear hv hB hB0
                      go_wp2_with fail
                      refine (HRO.out _).mono ?_
                      rintro e w2 ⟨rv, rfl, -, hB⟩
                      have hsz2 := hB.size
                      have hv := HV1.out.below hB hlt1
                      have hB0 := HB1.out.trans (hB.mono HB1.out.size)
                      have HB2 := Lib.hid hB0
                      have hlt2 := hv.lt
                      clear d0 d1 d2 d3 d4 d5 d6 d7
                      obtain ⟨d0, d1, d2, d3, d4, d5, d6, d7⟩ := hv.all
                      have HV2 := Lib.hid hv
                      clear hv hB hB0
                      go_wp2_with fail
                      refine (HNA.out _).mono ?_
                      rintro e w3 ⟨rfl, hB⟩
                      have hsz3 := hB.size
                      have hv := HV2.out.below hB hlt2
                      have hB0 := HB2.out.trans (hB.mono HB2.out.size)
                      have HB3 := Lib.hid hB0
                      have hlt3 := hv.lt
                      clear d0 d1 d2 d3 d4 d5 d6 d7
                      obtain ⟨d0, d1, d2, d3, d4, d5, d6, d7⟩ := hv.all
                      have HV3 := Lib.hid hv
                      clear hv hB hB0
                      have d8 := HE.out.below HB3.out hw 2 (by decide)
                      have d9 := HE.out.below HB3.out hw 5 (by decide)
                      unfold errV at d8 d9
                      go_wp2_with fail
                      refine (HNM.out _).mono ?_
                      rintro e w4 ⟨rfl, hB⟩
                      have hsz4 := hB.size
                      have hv := HV3.out.below hB hlt3
                      have hB0 := HB3.out.trans (hB.mono HB3.out.size)
                      have HB4 := Lib.hid hB0
                      have hlt4 := hv.lt
                      clear d0 d1 d2 d3 d4 d5 d6 d7
                      obtain ⟨d0, d1, d2, d3, d4, d5, d6, d7⟩ := hv.all
                      have HV4 := Lib.hid hv
                      clear hv hB hB0
                      have d8 := HE.out.below HB4.out hw 2 (by decide)
                      have d9 := HE.out.below HB4.out hw 5 (by decide)
                      unfold errV at d8 d9
                      go_wp2_with fail
                      all_goals
                        go_ret
                        exact ⟨rfl, HB4.out⟩
                  · skip
                    obtain rfl : exp = Option.none := hexp.trans (by simp [*])
                    clear hexp
                    go_enter Tryd.func75, Tryd.ntmps75
                    go_wp2_with fail
                    refine (HST.out _).mono ?_
                    rintro e w1 ⟨rfl, hB⟩
                    have hsz1 := hB.size
                    have hv := HV.out.below hB hlt
                    have hB0 := HAL.out.trans (hB.mono HAL.out.size)
                    have HB1 := Lib.hid hB0
                    have hlt1 := hv.lt
                    clear d0 d1 d2 d3 d4 d5 d6 d7
                    obtain ⟨d0, d1, d2, d3, d4, d5, d6, d7⟩ := hv.all
                    have HV1 := Lib.hid hv
                    clear hv hB hB0
                    go_wp2_with fail
                    refine (HRO.out _).mono ?_
                    rintro e w2 ⟨rv, rfl, -, hB⟩
                    have hsz2 := hB.size
                    have hv := HV1.out.below hB hlt1
                    have hB0 := HB1.out.trans (hB.mono HB1.out.size)
                    have HB2 := Lib.hid hB0
                    have hlt2 := hv.lt
                    clear d0 d1 d2 d3 d4 d5 d6 d7
                    obtain ⟨d0, d1, d2, d3, d4, d5, d6, d7⟩ := hv.all
                    have HV2 := Lib.hid hv
                    clear hv hB hB0
                    go_wp2_with fail
                    refine (HNA.out _).mono ?_
                    rintro e w3 ⟨rfl, hB⟩
                    have hsz3 := hB.size
                    have hv := HV2.out.below hB hlt2
                    have hB0 := HB2.out.trans (hB.mono HB2.out.size)
                    have HB3 := Lib.hid hB0
                    have hlt3 := hv.lt
                    clear d0 d1 d2 d3 d4 d5 d6 d7
                    obtain ⟨d0, d1, d2, d3, d4, d5, d6, d7⟩ := hv.all
                    have HV3 := Lib.hid hv
                    clear hv hB hB0
                    have d8 := HE.out.below HB3.out hw 2 (by decide)
                    have d9 := HE.out.below HB3.out hw 5 (by decide)
                    unfold errV at d8 d9
                    go_wp2_with fail
                    refine (HNM.out _).mono ?_
                    rintro e w4 ⟨rfl, hB⟩
                    have hsz4 := hB.size
                    have hv := HV3.out.below hB hlt3
                    have hB0 := HB3.out.trans (hB.mono HB3.out.size)
                    have HB4 := Lib.hid hB0
                    have hlt4 := hv.lt
                    clear d0 d1 d2 d3 d4 d5 d6 d7
                    obtain ⟨d0, d1, d2, d3, d4, d5, d6, d7⟩ := hv.all
                    have HV4 := Lib.hid hv
                    clear hv hB hB0
                    have d8 := HE.out.below HB4.out hw 2 (by decide)
                    have d9 := HE.out.below HB4.out hw 5 (by decide)
                    unfold errV at d8 d9
                    go_wp2_with fail
                    all_goals
                      go_ret
                      exact ⟨rfl, HB4.out⟩
end Go.Proofs.YtmkghfkikclodaaDoor
