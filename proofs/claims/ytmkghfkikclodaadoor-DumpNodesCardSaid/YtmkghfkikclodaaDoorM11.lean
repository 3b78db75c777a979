/- What has to stand in a node: the longer sorts. What has to stand in a Scatter, in an If. What has to stand in an If. What has to stand in a node: all sorts. What is amiss with what a node itself has. -/
import Derived.Test.YtmkghfkikclodaaDoorM10
import Derived.Test.YtmkghfkikclodaaDoorM08
set_option linter.unusedVariables false
set_option linter.unusedSimpArgs false
namespace Go.Proofs.YtmkghfkikclodaaDoor
open Go.RowKit

set_option maxRecDepth 100000 in
set_option maxHeartbeats 1000000 in
theorem roles_23 (x1 x2 x3 x4 x5 x6 : Value) (a : Option Addr) (n c : Nat) (hn : n ≤ 4096) (w : World) :
    Calls Tryd.prog 76 #[.agg #[.int .i64 23, x1, x2, x3, x4, x5, x6, .slice a n c]] w (RolesOut 23 n w) := by
  have hv := NV.new w (.int .i64 23) x1 x2 x3 x4 x5 x6 (.slice a n c)
  have hal := bal w (.cells #[.int .i64 23, x1, x2, x3, x4, x5, x6, .slice a n c] 63)
  have HAL := Lib.hid hal
  obtain ⟨d0, -, -, -, -, -, -, d7⟩ := hv.all
  have HV := Lib.hid hv
  clear hv hal
  have HA := Lib.hid fun (role : Int) (k : Nat) (hk : k ≤ 5000) (w' : World) => all_any role k hk w'
  have hlt : (n : Int) ≤ 4096 := by omega
  go_enter Tryd.func76, Tryd.ntmps76
  go_wp2_with fail
  refine (HA.out 0 2 (by decide) _).mono ?_
  rintro e w1 ⟨v, rfl, ho, hB⟩
  have hB1 := HAL.out.trans (hB.mono HAL.out.size)
  have hi := ho.ints
  obtain ⟨a1, c1, rfl⟩ := ho.shape
  have ho := OwnI.mono ho (show w.heap.size ≤ _ by simp)
  generalize hM : List.replicate 2 (0 : Int) = M at ho hi
  have HM := Lib.hid hM
  have hlm : M.length ≤ 5000 := by rw [← hM]; simp; try omega
  have d7' := (hB.cell (cell_lt d7)).trans d7
  have hsz1 := hB1.size
  have HB1 := Lib.hid hB1
  have HO := Lib.hid ho
  clear d0 d7 hB1 ho hB hi hM
  go_wp2_with fail
  all_goals
    refine (all_int 1 _ (n - 2) (by omega) (by omega) _).mono ?_
    rintro e w2 ⟨v2, rfl, ho2, hB2⟩
    have hsz2 := hB2.size
    have ho1 := HO.out.below hB2
    have hB12 := HB1.out.trans (hB2.mono hsz1)
    obtain ⟨a2, c2, rfl⟩ := ho2.shape
    have hll : (List.replicate (n - 2) (1 : Int)).length ≤ 5000 := by rw [List.length_replicate]; omega
    generalize hL : List.replicate (n - 2) (1 : Int) = L at ho2 hll
    have HL := Lib.hid hL
    have d7'' := (hB2.cell (cell_lt d7')).trans d7'
    clear hL d7' hB2
    go_wp2_with (at_builtin; go_loud (refine append_own rfl (.tmp 61) (.tmp 66) rfl w.heap.size _ _ rfl ho1 _ _ L rfl ho2 ?q1 ?q2 ?_))
    case q1 => omega
    case q2 => omega
    intro v3 w3 ho3 hg3
    have hB3 := below_grownI hB12 ho1 hg3 (Nat.le_refl _) (by omega)
    obtain ⟨a3, c3, rfl⟩ := ho3.shape
    have hi3 := ho3.ints
    have HI := Lib.hid (And.intro hi3 hB3)
    clear ho3 hg3 hi3 hB3 hB12 ho1 ho2 d7''
    go_wp2_with fail
    go_ret2
    exact rolesOut_of (by show decide (2 ≤ n) = _; rw [Bool.eq_iff_iff]; simp; try omega) (l := M ++ L) (by rw [← HL.out, ← HM.out]; rfl) HI.out.1 HI.out.2

set_option maxRecDepth 100000 in
set_option maxHeartbeats 1000000 in
theorem roles_29lt (x1 x2 x3 x4 x5 x6 : Value) (a : Option Addr) (n c : Nat) (hn : n ≤ 4096) (w : World) (hq0 : (n : Int) ≤ 3) :
    Calls Tryd.prog 76 #[.agg #[.int .i64 29, x1, x2, x3, x4, x5, x6, .slice a n c]] w (RolesOut 29 n w) := by
  have hv := NV.new w (.int .i64 29) x1 x2 x3 x4 x5 x6 (.slice a n c)
  have hal := bal w (.cells #[.int .i64 29, x1, x2, x3, x4, x5, x6, .slice a n c] 63)
  have HAL := Lib.hid hal
  obtain ⟨d0, -, -, -, -, -, -, d7⟩ := hv.all
  have HV := Lib.hid hv
  clear hv hal
  have HA := Lib.hid fun (role : Int) (k : Nat) (hk : k ≤ 5000) (w' : World) => all_any role k hk w'
  have hlt : (n : Int) ≤ 4096 := by omega
  have hq : (n : Int) ≤ 3 := hq0
  go_enter Tryd.func76, Tryd.ntmps76
  go_wp2_with fail
  all_goals
    go_ret2
    exact rolesOut_of (op := 29) (n := n) (v := .slice (some ⟨w.heap.size + 1, 0, none⟩) n 3) (by show (n == 2 || n == 3) = _; refine Bool.eq_iff_iff.2 ?_; simp; try omega) (l := [0, 5, 0].take n) (by show [0, 5, 0].take (min n 3) = _; rw [Nat.min_eq_left (by omega)]) (ints_new _ _ _ _ _ _ _ (by simp) (by simp; omega) (by rw [List.map_take]; rfl)) (HAL.out.alloc HAL.out.size _)

set_option maxRecDepth 100000 in
set_option maxHeartbeats 1000000 in
theorem roles_29ge (x1 x2 x3 x4 x5 x6 : Value) (a : Option Addr) (n c : Nat) (hn : n ≤ 4096) (w : World) (hq0 : 3 < (n : Int)) :
    Calls Tryd.prog 76 #[.agg #[.int .i64 29, x1, x2, x3, x4, x5, x6, .slice a n c]] w (RolesOut 29 n w) := by
  have hv := NV.new w (.int .i64 29) x1 x2 x3 x4 x5 x6 (.slice a n c)
  have hal := bal w (.cells #[.int .i64 29, x1, x2, x3, x4, x5, x6, .slice a n c] 63)
  have HAL := Lib.hid hal
  obtain ⟨d0, -, -, -, -, -, -, d7⟩ := hv.all
  have HV := Lib.hid hv
  clear hv hal
  have HA := Lib.hid fun (role : Int) (k : Nat) (hk : k ≤ 5000) (w' : World) => all_any role k hk w'
  have hlt : (n : Int) ≤ 4096 := by omega
  have hq : 3 < (n : Int) := hq0
  go_enter Tryd.func76, Tryd.ntmps76
  go_wp2_with fail
  all_goals
    go_ret2
    exact rolesOut_of (op := 29) (n := n) (v := .slice (some ⟨w.heap.size + 1, 0, none⟩) 3 3) (by show (n == 2 || n == 3) = _; refine Bool.eq_iff_iff.2 ?_; simp; try omega) (l := [0, 5, 0]) (by show [0, 5, 0].take (min n 3) = _; rw [Nat.min_eq_right (by omega)]; rfl) (ints_new _ #[.int .i64 0, .int .i64 5, .int .i64 0] 3 _ _ _ _ (by simp) (by decide) rfl) (HAL.out.alloc HAL.out.size _)

set_option maxRecDepth 100000 in
set_option maxHeartbeats 1000000 in
theorem roles_49 (x1 x2 x3 x4 x5 x6 : Value) (a : Option Addr) (n c : Nat) (hn : n ≤ 4096) (w : World) :
    Calls Tryd.prog 76 #[.agg #[.int .i64 49, x1, x2, x3, x4, x5, x6, .slice a n c]] w (RolesOut 49 n w) := by
  have hv := NV.new w (.int .i64 49) x1 x2 x3 x4 x5 x6 (.slice a n c)
  have hal := bal w (.cells #[.int .i64 49, x1, x2, x3, x4, x5, x6, .slice a n c] 63)
  have HAL := Lib.hid hal
  obtain ⟨d0, -, -, -, -, -, -, d7⟩ := hv.all
  have HV := Lib.hid hv
  clear hv hal
  have HA := Lib.hid fun (role : Int) (k : Nat) (hk : k ≤ 5000) (w' : World) => all_any role k hk w'
  have hlt : (n : Int) ≤ 4096 := by omega
  go_enter Tryd.func76, Tryd.ntmps76
  go_wp2_with fail
  all_goals
    refine (all_int 8 _ (n - 1) (by omega) (by omega) _).mono ?_
    rintro e w2 ⟨v2, rfl, ho2, hB2⟩
    have ho1 : OwnI ((w.alloc (.cells #[.int .i64 49, x1, x2, x3, x4, x5, x6, .slice a n c] 63)).alloc (.cells #[.int .i64 6] 3)) w.heap.size (.slice (some ⟨w.heap.size + 1, 0, none⟩) 1 1) [6] := by
      have := World.ownsRow_lit (base := w.heap.size) (e := 3) (size := 1) (w.alloc (.cells #[.int .i64 49, x1, x2, x3, x4, x5, x6, .slice a n c] 63)) #[.int .i64 6] 1 (by simp) (by unfold maxLen; omega) rfl
      simpa [OwnI, i64V] using this
    have ho1 := ho1.below hB2
    have hB12 := (HAL.out.alloc HAL.out.size (.cells #[.int .i64 6] 3)).trans (hB2.mono (by simp; omega))
    have hsz2 := hB12.size
    obtain ⟨a2, c2, rfl⟩ := ho2.shape
    have hll : (List.replicate (n - 1) (8 : Int)).length ≤ 5000 := by rw [List.length_replicate]; omega
    generalize hL : List.replicate (n - 1) (8 : Int) = L at ho2 hll
    have HL := Lib.hid hL
    clear hL hB2 d0 d7
    go_wp2_with (at_builtin; go_loud (refine append_own rfl (.tmp 161) (.tmp 166) rfl w.heap.size _ [6] rfl ho1 _ _ L rfl ho2 ?q1 ?q2 ?_))
    case q1 => simp; omega
    case q2 => omega
    intro v3 w3 ho3 hg3
    have hB3 := below_grownI hB12 ho1 hg3 (Nat.le_refl _) (by omega)
    generalize hM : (6 : Int) :: L = M at ho3
    obtain ⟨a3, c3, rfl⟩ := ho3.shape
    have hi3 := ho3.ints
    have HI := Lib.hid (And.intro hi3 (And.intro hB3 hM))
    clear ho3 hg3 hi3 hB3 hB12 ho1 ho2 hM
    go_wp2_with fail
    go_ret2
    exact rolesOut_of (by show decide (2 ≤ n) = _; rw [Bool.eq_iff_iff]; simp; try omega) (l := M) (by rw [← HI.out.2.2, ← HL.out]; rfl) HI.out.1 HI.out.2.1

set_option maxRecDepth 100000 in
set_option maxHeartbeats 2000000 in
theorem roles_none (op : Int) (x1 x2 x3 x4 x5 x6 : Value) (a : Option Addr) (n c : Nat) (hn : n ≤ 4096) (w : World) (hne : op ≠ 1 ∧ op ≠ 2 ∧ op ≠ 3 ∧ op ≠ 4 ∧ op ≠ 5 ∧ op ≠ 6 ∧ op ≠ 7 ∧ op ≠ 8 ∧ op ≠ 9 ∧ op ≠ 10 ∧ op ≠ 11 ∧ op ≠ 12 ∧ op ≠ 13 ∧ op ≠ 14 ∧ op ≠ 15 ∧ op ≠ 16 ∧ op ≠ 17 ∧ op ≠ 18 ∧ op ≠ 19 ∧ op ≠ 20 ∧ op ≠ 21 ∧ op ≠ 22 ∧ op ≠ 23 ∧ op ≠ 24 ∧ op ≠ 25 ∧ op ≠ 26 ∧ op ≠ 27 ∧ op ≠ 28 ∧ op ≠ 29 ∧ op ≠ 40 ∧ op ≠ 41 ∧ op ≠ 42 ∧ op ≠ 43 ∧ op ≠ 44 ∧ op ≠ 45 ∧ op ≠ 46 ∧ op ≠ 47 ∧ op ≠ 48 ∧ op ≠ 49 ∧ op ≠ 50 ∧ op ≠ 51 ∧ op ≠ 52) :
    Calls Tryd.prog 76 #[.agg #[.int .i64 op, x1, x2, x3, x4, x5, x6, .slice a n c]] w (RolesOut op n w) := by
  have hv := NV.new w (.int .i64 op) x1 x2 x3 x4 x5 x6 (.slice a n c)
  have hal := bal w (.cells #[.int .i64 op, x1, x2, x3, x4, x5, x6, .slice a n c] 63)
  obtain ⟨d0, -, -, -, -, -, -, d7⟩ := hv.all
  clear hv
  obtain ⟨q1, q2, q3, q4, q5, q6, q7, q8, q9, q10, q11, q12, q13, q14, q15, q16, q17, q18, q19, q20, q21, q22, q23, q24, q25, q26, q27, q28, q29, q40, q41, q42, q43, q44, q45, q46, q47, q48, q49, q50, q51, q52⟩ := hne
  have e1 : (op == 1) = false := by simp [q1]
  have e2 : (op == 2) = false := by simp [q2]
  have e3 : (op == 3) = false := by simp [q3]
  have e4 : (op == 4) = false := by simp [q4]
  have e5 : (op == 5) = false := by simp [q5]
  have e6 : (op == 6) = false := by simp [q6]
  have e7 : (op == 7) = false := by simp [q7]
  have e8 : (op == 8) = false := by simp [q8]
  have e9 : (op == 9) = false := by simp [q9]
  have e10 : (op == 10) = false := by simp [q10]
  have e11 : (op == 11) = false := by simp [q11]
  have e12 : (op == 12) = false := by simp [q12]
  have e13 : (op == 13) = false := by simp [q13]
  have e14 : (op == 14) = false := by simp [q14]
  have e15 : (op == 15) = false := by simp [q15]
  have e16 : (op == 16) = false := by simp [q16]
  have e17 : (op == 17) = false := by simp [q17]
  have e18 : (op == 18) = false := by simp [q18]
  have e19 : (op == 19) = false := by simp [q19]
  have e20 : (op == 20) = false := by simp [q20]
  have e21 : (op == 21) = false := by simp [q21]
  have e22 : (op == 22) = false := by simp [q22]
  have e23 : (op == 23) = false := by simp [q23]
  have e24 : (op == 24) = false := by simp [q24]
  have e25 : (op == 25) = false := by simp [q25]
  have e26 : (op == 26) = false := by simp [q26]
  have e27 : (op == 27) = false := by simp [q27]
  have e28 : (op == 28) = false := by simp [q28]
  have e29 : (op == 29) = false := by simp [q29]
  have e40 : (op == 40) = false := by simp [q40]
  have e41 : (op == 41) = false := by simp [q41]
  have e42 : (op == 42) = false := by simp [q42]
  have e43 : (op == 43) = false := by simp [q43]
  have e44 : (op == 44) = false := by simp [q44]
  have e45 : (op == 45) = false := by simp [q45]
  have e46 : (op == 46) = false := by simp [q46]
  have e47 : (op == 47) = false := by simp [q47]
  have e48 : (op == 48) = false := by simp [q48]
  have e49 : (op == 49) = false := by simp [q49]
  have e50 : (op == 50) = false := by simp [q50]
  have e51 : (op == 51) = false := by simp [q51]
  have e52 : (op == 52) = false := by simp [q52]
  have h1 : rolesL op n = [] := by simp [rolesL, mem, q1, q2, q3, q4, q5, q6, q7, q8, q9, q10, q11, q12, q13, q14, q15, q16, q17, q18, q19, q20, q21, q22, q23, q24, q25, q26, q27, q28, q29, q40, q41, q42, q43, q44, q45, q46, q47, q48, q49, q50, q51, q52]
  have h2 : fullB op n = false := by simp [fullB, mem, q1, q2, q3, q4, q5, q6, q7, q8, q9, q10, q11, q12, q13, q14, q15, q16, q17, q18, q19, q20, q21, q22, q23, q24, q25, q26, q27, q28, q29, q40, q41, q42, q43, q44, q45, q46, q47, q48, q49, q50, q51, q52]
  have HAL := Lib.hid (And.intro h1 (And.intro h2 hal))
  clear q1 q2 q3 q4 q5 q6 q7 q8 q9 q10 q11 q12 q13 q14 q15 q16 q17 q18 q19 q20 q21 q22 q23 q24 q25 q26 q27 q28 q29 q40 q41 q42 q43 q44 q45 q46 q47 q48 q49 q50 q51 q52 h1 h2 hal
  go_enter Tryd.func76, Tryd.ntmps76
  go_wp2_with fail
  go_ret2
  exact rolesOut_of HAL.out.2.1 HAL.out.1 ⟨none, 0, rfl, .inl rfl⟩ HAL.out.2.2
end Go.Proofs.YtmkghfkikclodaaDoor
namespace Go.Proofs.YtmkghfkikclodaaDoor
open Go.RowKit

theorem own_set {w : World} {base g cap : Nat} {l : List Int} (h : OwnI w base (.slice (some ⟨g, 0, none⟩) l.length cap) l) (j : Nat) (z : Int) :
    OwnI (w.setCell ⟨g, j, none⟩ (.int .i64 z)) base (.slice (some ⟨g, 0, none⟩) l.length cap) (l.set j z) := by
  have := (World.ownsRow.stored h j (.int .i64 z)).1
  unfold OwnI
  rw [List.length_set, List.map_set]
  exact this

set_option maxRecDepth 100000 in
set_option maxHeartbeats 1000000 in
theorem roles_28le (x1 x2 x3 x4 x5 x6 : Value) (a : Option Addr) (n c : Nat) (hn : n ≤ 4096) (w : World) (hq0 : (n : Int) ≤ 1) :
    Calls Tryd.prog 76 #[.agg #[.int .i64 28, x1, x2, x3, x4, x5, x6, .slice a n c]] w (RolesOut 28 n w) := by
  have hv := NV.new w (.int .i64 28) x1 x2 x3 x4 x5 x6 (.slice a n c)
  have hal := bal w (.cells #[.int .i64 28, x1, x2, x3, x4, x5, x6, .slice a n c] 63)
  have HAL := Lib.hid hal
  obtain ⟨d0, -, -, -, -, -, -, d7⟩ := hv.all
  have HV := Lib.hid hv
  clear hv hal
  have hlt : (n : Int) ≤ 4096 := by omega
  go_enter Tryd.func76, Tryd.ntmps76
  go_wp2_with fail
  all_goals
    refine (all_int 3 _ (n - 1) (by omega) (by omega) _).mono ?_
    rintro e w1 ⟨v, rfl, ho, hB⟩
    have hB1 := HAL.out.trans (hB.mono HAL.out.size)
    have ho := OwnI.mono ho (show w.heap.size ≤ _ by simp)
    have hsz1 := hB1.size
    have hll : (List.replicate (n - 1) (3 : Int)).length ≤ 5000 := by rw [List.length_replicate]; omega
    generalize hL : List.replicate (n - 1) (3 : Int) = L at ho hll
    obtain ⟨a1, c1, rfl⟩ := ho.shape
    have HL := Lib.hid hL
    have HO2 := Lib.hid ho
    have HB2 := Lib.hid hB1
    clear hL ho hB1 hB d0 d7
    go_wp2_with (at_builtin; go_loud (refine append_ints rfl (.tmp 94) (.tmp 95) rfl w.heap.size _ L rfl (World.ownsRow.alloc HO2.out _) _ 1 [0] 1 rfl rfl ?q0 ?q1 ?q2 ?_))
    case q0 => exact one_int _ _ _ _ (by first | rfl | simp [World.setCell])
    case q1 => simp; omega
    case q2 => simp; try omega
    intro v3 w3 ho3 hg3
    have hB3 := below_grownI (HB2.out.alloc HB2.out.size _) (World.ownsRow.alloc HO2.out _) hg3 (Nat.le_refl _) (by simp; try omega)
    generalize hM : L ++ [(0 : Int)] = M at ho3
    obtain ⟨a3, c3, rfl⟩ := ho3.shape
    have hi3 := ho3.ints
    have HI := Lib.hid (And.intro hi3 (And.intro hB3 hM))
    clear ho3 hg3 hi3 hB3 hM
    go_wp2_with fail
    go_ret2
    exact rolesOut_of (by show decide (2 ≤ n) = _; rw [Bool.eq_iff_iff]; simp; try omega) (l := M) (by rw [← HI.out.2.2, ← HL.out]; show (if 1 < n then _ else _) ++ _ = _; rw [if_neg (by omega)]) HI.out.1 HI.out.2.1

set_option maxRecDepth 100000 in
set_option maxHeartbeats 1000000 in
theorem roles_28gt (x1 x2 x3 x4 x5 x6 : Value) (a : Option Addr) (n c : Nat) (hn : n ≤ 4096) (w : World) (hq0 : 1 < (n : Int)) :
    Calls Tryd.prog 76 #[.agg #[.int .i64 28, x1, x2, x3, x4, x5, x6, .slice a n c]] w (RolesOut 28 n w) := by
  have hv := NV.new w (.int .i64 28) x1 x2 x3 x4 x5 x6 (.slice a n c)
  have hal := bal w (.cells #[.int .i64 28, x1, x2, x3, x4, x5, x6, .slice a n c] 63)
  have HAL := Lib.hid hal
  obtain ⟨d0, -, -, -, -, -, -, d7⟩ := hv.all
  have HV := Lib.hid hv
  clear hv hal
  have hlt : (n : Int) ≤ 4096 := by omega
  go_enter Tryd.func76, Tryd.ntmps76
  go_wp2_with fail
  all_goals
    try omega
    refine (all_int 3 _ (n - 1) (by omega) (by omega) _).mono ?_
    rintro e w1 ⟨v, rfl, ho, hB⟩
    have hB1 := HAL.out.trans (hB.mono HAL.out.size)
    have ho := OwnI.mono ho (show w.heap.size ≤ _ by simp)
    have hsz1 := hB1.size
    have hll : (List.replicate (n - 1) (3 : Int)).length = n - 1 := List.length_replicate
    generalize hL : List.replicate (n - 1) (3 : Int) = L0 at ho hll
    obtain ⟨g, cap, rfl, hg1, hg2⟩ := World.ownsRow.form ho (by omega)
    have hc0 := World.ownsRow.cellAt ho (n - 2) (by omega)
    have hf0 := World.ownsRow.frozenAt ho (n - 2)
    obtain ⟨y, hy⟩ : ∃ y, (L0.map i64V)[n - 2]? = some y := ⟨_, List.getElem?_eq_getElem (by simp; omega)⟩
    rw [hy] at hc0
    have hix : ((n : Int) - 2).toNat = n - 2 := by omega
    have h0i : 0 ≤ (n : Int) - 2 := by omega
    have hil : (n : Int) - 2 < (L0.length : Int) := by omega
    have hs2 := own_set ho (n - 2) 4
    have hlen2 : (L0.set (n - 2) 4).length = L0.length := List.length_set
    have hfin : rolesL 28 n = L0.set (n - 2) 4 ++ [0] := by rw [← hL]; show (if 1 < n then _ else _) ++ _ = _; rw [if_pos (by omega)]
    have hB2 := hB1.setCell (p := ⟨g, n - 2, none⟩) hg1 (.int .i64 4)
    generalize hL2 : L0.set (n - 2) 4 = L at hs2 hlen2 hfin
    have hlenL : L.length ≤ 5000 := by omega
    have HX := Lib.hid hs2
    have HL := Lib.hid hfin
    have HB2 := Lib.hid hB2
    clear hL hL2 hy ho hB hs2 hfin hll
    have e7 := d7
    clear d7 d0
    go_wp2_with (at_builtin; go_loud (refine append_ints rfl (.tmp 94) (.tmp 95) rfl w.heap.size _ L rfl (World.ownsRow.alloc HX.out _) _ 1 [0] 1 rfl rfl ?q0 ?q1 ?q2 ?_))
    case q0 => exact one_int _ _ _ _ (by first | rfl | simp [World.setCell])
    case q1 => simp; omega
    case q2 => simp; try omega
    intro v3 w3 ho3 hg3
    have hB3 := below_grownI (HB2.out.alloc HB2.out.size _) (World.ownsRow.alloc HX.out _) hg3 (Nat.le_refl _) (by simp; try omega)
    generalize hM : L ++ [(0 : Int)] = M at ho3
    obtain ⟨a3, c3, rfl⟩ := ho3.shape
    have hi3 := ho3.ints
    have HI := Lib.hid (And.intro hi3 (And.intro hB3 hM))
    clear ho3 hg3 hi3 hB3 hM
    go_wp2_with fail
    go_ret2
    exact rolesOut_of (by show decide (2 ≤ n) = _; rw [Bool.eq_iff_iff]; simp; try omega) (l := M) (by rw [← HI.out.2.2]; exact HL.out) HI.out.1 HI.out.2.1

end Go.Proofs.YtmkghfkikclodaaDoor
namespace Go.Proofs.YtmkghfkikclodaaDoor
open Go.RowKit

def ifs (j : Nat) : List Int := (List.range j).map fun i => if i % 2 = 1 then (6 : Int) else 0
theorem ifs_len (j : Nat) : (ifs j).length = j := by simp [ifs]
theorem ifs_succ (j : Nat) : ifs (j + 1) = ifs j ++ [if j % 2 = 1 then (6 : Int) else 0] := by simp [ifs, List.range_succ]

set_option maxRecDepth 100000 in
set_option maxHeartbeats 1000000 in
theorem roles_41 (x1 x2 x3 x4 x5 x6 : Value) (a : Option Addr) (n c : Nat) (hn : n ≤ 4096) (w : World) :
    Calls Tryd.prog 76 #[.agg #[.int .i64 41, x1, x2, x3, x4, x5, x6, .slice a n c]] w (RolesOut 41 n w) := by
  have hv := NV.new w (.int .i64 41) x1 x2 x3 x4 x5 x6 (.slice a n c)
  have hal := bal w (.cells #[.int .i64 41, x1, x2, x3, x4, x5, x6, .slice a n c] 63)
  have HAL := Lib.hid hal
  obtain ⟨d0, -, -, -, -, -, -, d7⟩ := hv.all
  have HV := Lib.hid hv
  clear hv hal
  have hlt : (n : Int) ≤ 4096 := by omega
  go_enter Tryd.func76, Tryd.ntmps76
  go_wp2_with fail
  go_loopw [7, 114] (fun b i wr => ∃ j : Nat, j ≤ n ∧ i = .int .i64 j ∧ Below w.heap.size w wr ∧ OwnI wr w.heap.size b (ifs j)) (fun _ i _ => n - (intOf i).toNat)
  case atStart => exact ⟨0, Nat.zero_le _, rfl, HAL.out, World.ownsRow_nil _ _ _ _⟩
  case round =>
    obtain ⟨j, hj, rfl, hB, hO⟩ := hrel
    have hsz := hB.size
    by_cases hlt : j < n
    · have el : (ifs j).length ≤ 5000 := by rw [ifs_len]; omega
      have hacc := ifs_succ j
      have HA := Lib.hid hacc
      clear hacc d0 d7
      generalize ifs j = acc at hO el HA
      obtain ⟨a1, c1, rfl⟩ := hO.shape
      rcases (by omega : j % 2 = 0 ∨ j % 2 = 1) with hp | hp
      · have hr : (j : Int).tmod 2 = 0 := by rw [Int.tmod_eq_emod_of_nonneg (by omega)]; omega
        rw [show (if j % 2 = 1 then (6 : Int) else 0) = 0 by rw [if_neg (by omega)]] at HA
        go_wp2_with (at_builtin; go_loud (refine append_ints rfl (.tmp 117) (.tmp 123) rfl w.heap.size _ acc rfl (World.ownsRow.alloc (World.ownsRow.alloc hO _) _) _ 1 [0] 1 rfl rfl ?d1 ?d2 ?d3 ?_))
        case d1 => exact one_int _ _ _ _ (by simp)
        case d2 => simp; omega
        case d3 => simp; omega
        intro v' w1 ho1 hg1
        have hB1 := below_grownI ((hB.alloc hsz _).alloc (by simp; omega) _) (World.ownsRow.alloc (World.ownsRow.alloc hO _) _) hg1 (Nat.le_refl _) (by simp; omega)
        rw [← HA.out] at ho1
        have HO1 := Lib.hid ho1
        clear ho1 hg1 hO hB
        go_wp2_with fail
        go_roundw
        case rel => exact ⟨j + 1, by omega, by go_num, hB1, HO1.out⟩
        case measure => simp [intOf]; omega
      · have hr : (j : Int).tmod 2 = 1 := by rw [Int.tmod_eq_emod_of_nonneg (by omega)]; omega
        rw [show (if j % 2 = 1 then (6 : Int) else 0) = 6 by rw [if_pos hp]] at HA
        go_wp2_with (at_builtin; go_loud (refine append_ints rfl (.tmp 117) (.tmp 123) rfl w.heap.size _ acc rfl (World.ownsRow.alloc (World.ownsRow.alloc hO _) _) _ 1 [6] 1 rfl rfl ?d1 ?d2 ?d3 ?_))
        case d1 => exact one_int _ _ _ _ (by simp)
        case d2 => simp; omega
        case d3 => simp; omega
        intro v' w1 ho1 hg1
        have hB1 := below_grownI ((hB.alloc hsz _).alloc (by simp; omega) _) (World.ownsRow.alloc (World.ownsRow.alloc hO _) _) hg1 (Nat.le_refl _) (by simp; omega)
        rw [← HA.out] at ho1
        have HO1 := Lib.hid ho1
        clear ho1 hg1 hO hB
        go_wp2_with fail
        go_roundw
        case rel => exact ⟨j + 1, by omega, by go_num, hB1, HO1.out⟩
        case measure => simp [intOf]; omega
    · obtain rfl : j = n := by omega
      clear d0
      have hll := ifs_len j
      have HS := Lib.hid hsz
      rcases (by omega : j % 2 = 0 ∨ j % 2 = 1) with hp | hp
      · have hr : (j : Int).tmod 2 = 0 := by rw [Int.tmod_eq_emod_of_nonneg (by omega)]; omega
        have hfin : rolesL 41 j = ifs j := by show (if j % 2 = 1 then _ else _) = _; rw [if_neg (by omega)]; rfl
        generalize ifs j = L at hO hll hfin
        obtain ⟨a3, c3, rfl⟩ := hO.shape
        have hi3 := hO.ints
        have HI := Lib.hid (And.intro hi3 (And.intro hB hfin))
        clear hO hi3 hB hfin d7
        go_wp2_with fail
        go_ret2
        exact rolesOut_of (by show decide (2 ≤ j) = _; rw [Bool.eq_iff_iff]; simp; try omega) HI.out.2.2 HI.out.1 HI.out.2.1
      · have hr : (j : Int).tmod 2 = 1 := by rw [Int.tmod_eq_emod_of_nonneg (by omega)]; omega
        have hfin : rolesL 41 j = (ifs j).set (j - 1) 6 := by show (if j % 2 = 1 then _ else _) = _; rw [if_pos (by omega)]; rfl
        generalize ifs j = L0 at hO hll hfin
        obtain ⟨g, cap, rfl, hg1, hg2⟩ := World.ownsRow.form hO (by omega)
        have hc0 := World.ownsRow.cellAt hO (j - 1) (by omega)
        have hf0 := World.ownsRow.frozenAt hO (j - 1)
        obtain ⟨y, hy⟩ : ∃ y, (L0.map i64V)[j - 1]? = some y := ⟨_, List.getElem?_eq_getElem (by simp; omega)⟩
        rw [hy] at hc0
        have hix : ((j : Int) - 1).toNat = j - 1 := by omega
        have h0i : 0 ≤ (j : Int) - 1 := by omega
        have hil : (j : Int) - 1 < (L0.length : Int) := by omega
        have h0 : (0 : Int) < (j : Int) := by omega
        have hs2 := own_set hO (j - 1) 6
        have hlen2 : (L0.set (j - 1) 6).length = L0.length := List.length_set
        have hB2 := hB.setCell (p := ⟨g, j - 1, none⟩) hg1 (.int .i64 6)
        generalize hL2 : L0.set (j - 1) 6 = L at hs2 hlen2 hfin
        have hi3 := hs2.ints
        have HI := Lib.hid (And.intro hi3 (And.intro hB2 hfin))
        clear hy hO hB hs2 hi3 hB2 hfin hL2 d7
        go_wp2_with fail
        go_ret2
        exact rolesOut_of (by show decide (2 ≤ j) = _; rw [Bool.eq_iff_iff]; simp; try omega) HI.out.2.2 HI.out.1 HI.out.2.1
end Go.Proofs.YtmkghfkikclodaaDoor
namespace Go.Proofs.YtmkghfkikclodaaDoor
open Go.RowKit

theorem roles_28 (x1 x2 x3 x4 x5 x6 : Value) (a : Option Addr) (n c : Nat) (hn : n ≤ 4096) (w : World) :
    Calls Tryd.prog 76 #[.agg #[.int .i64 28, x1, x2, x3, x4, x5, x6, .slice a n c]] w (RolesOut 28 n w) := by
  by_cases h : (n : Int) ≤ 1
  · exact roles_28le x1 x2 x3 x4 x5 x6 a n c hn w h
  · exact roles_28gt x1 x2 x3 x4 x5 x6 a n c hn w (by omega)
theorem roles_29 (x1 x2 x3 x4 x5 x6 : Value) (a : Option Addr) (n c : Nat) (hn : n ≤ 4096) (w : World) :
    Calls Tryd.prog 76 #[.agg #[.int .i64 29, x1, x2, x3, x4, x5, x6, .slice a n c]] w (RolesOut 29 n w) := by
  by_cases h : (n : Int) ≤ 3
  · exact roles_29lt x1 x2 x3 x4 x5 x6 a n c hn w h
  · exact roles_29ge x1 x2 x3 x4 x5 x6 a n c hn w (by omega)

set_option maxRecDepth 100000 in
theorem roles_any (op : Int) (x1 x2 x3 x4 x5 x6 : Value) (a : Option Addr) (n c : Nat) (hn : n ≤ 4096) (w : World) :
    Calls Tryd.prog 76 #[.agg #[.int .i64 op, x1, x2, x3, x4, x5, x6, .slice a n c]] w (RolesOut op n w) := by
  by_cases hc : (1 ≤ op ∧ op ≤ 29) ∨ (40 ≤ op ∧ op ≤ 52)
  · rcases hc with ⟨h1, h2⟩ | ⟨h1, h2⟩
    · rcases (by omega : op = 1 ∨ op = 2 ∨ op = 3 ∨ op = 4 ∨ op = 5 ∨ op = 6 ∨ op = 7 ∨ op = 8 ∨ op = 9 ∨ op = 10 ∨ op = 11 ∨ op = 12 ∨ op = 13 ∨ op = 14 ∨ op = 15 ∨ op = 16 ∨ op = 17 ∨ op = 18 ∨ op = 19 ∨ op = 20 ∨ op = 21 ∨ op = 22 ∨ op = 23 ∨ op = 24 ∨ op = 25 ∨ op = 26 ∨ op = 27 ∨ op = 28 ∨ op = 29) with rfl | rfl | rfl | rfl | rfl | rfl | rfl | rfl | rfl | rfl | rfl | rfl | rfl | rfl | rfl | rfl | rfl | rfl | rfl | rfl | rfl | rfl | rfl | rfl | rfl | rfl | rfl | rfl | rfl
      · exact roles_1 x1 x2 x3 x4 x5 x6 a n c hn w
      · exact roles_2 x1 x2 x3 x4 x5 x6 a n c hn w
      · exact roles_3 x1 x2 x3 x4 x5 x6 a n c hn w
      · exact roles_4 x1 x2 x3 x4 x5 x6 a n c hn w
      · exact roles_5 x1 x2 x3 x4 x5 x6 a n c hn w
      · exact roles_6 x1 x2 x3 x4 x5 x6 a n c hn w
      · exact roles_7 x1 x2 x3 x4 x5 x6 a n c hn w
      · exact roles_8 x1 x2 x3 x4 x5 x6 a n c hn w
      · exact roles_9 x1 x2 x3 x4 x5 x6 a n c hn w
      · exact roles_10 x1 x2 x3 x4 x5 x6 a n c hn w
      · exact roles_11 x1 x2 x3 x4 x5 x6 a n c hn w
      · exact roles_12 x1 x2 x3 x4 x5 x6 a n c hn w
      · exact roles_13 x1 x2 x3 x4 x5 x6 a n c hn w
      · exact roles_14 x1 x2 x3 x4 x5 x6 a n c hn w
      · exact roles_15 x1 x2 x3 x4 x5 x6 a n c hn w
      · exact roles_16 x1 x2 x3 x4 x5 x6 a n c hn w
      · exact roles_17 x1 x2 x3 x4 x5 x6 a n c hn w
      · exact roles_18 x1 x2 x3 x4 x5 x6 a n c hn w
      · exact roles_19 x1 x2 x3 x4 x5 x6 a n c hn w
      · exact roles_20 x1 x2 x3 x4 x5 x6 a n c hn w
      · exact roles_21 x1 x2 x3 x4 x5 x6 a n c hn w
      · exact roles_22 x1 x2 x3 x4 x5 x6 a n c hn w
      · exact roles_23 x1 x2 x3 x4 x5 x6 a n c hn w
      · exact roles_24 x1 x2 x3 x4 x5 x6 a n c hn w
      · exact roles_25 x1 x2 x3 x4 x5 x6 a n c hn w
      · exact roles_26 x1 x2 x3 x4 x5 x6 a n c hn w
      · exact roles_27 x1 x2 x3 x4 x5 x6 a n c hn w
      · exact roles_28 x1 x2 x3 x4 x5 x6 a n c hn w
      · exact roles_29 x1 x2 x3 x4 x5 x6 a n c hn w
    · rcases (by omega : op = 40 ∨ op = 41 ∨ op = 42 ∨ op = 43 ∨ op = 44 ∨ op = 45 ∨ op = 46 ∨ op = 47 ∨ op = 48 ∨ op = 49 ∨ op = 50 ∨ op = 51 ∨ op = 52) with rfl | rfl | rfl | rfl | rfl | rfl | rfl | rfl | rfl | rfl | rfl | rfl | rfl
      · exact roles_40 x1 x2 x3 x4 x5 x6 a n c hn w
      · exact roles_41 x1 x2 x3 x4 x5 x6 a n c hn w
      · exact roles_42 x1 x2 x3 x4 x5 x6 a n c hn w
      · exact roles_43 x1 x2 x3 x4 x5 x6 a n c hn w
      · exact roles_44 x1 x2 x3 x4 x5 x6 a n c hn w
      · exact roles_45 x1 x2 x3 x4 x5 x6 a n c hn w
      · exact roles_46 x1 x2 x3 x4 x5 x6 a n c hn w
      · exact roles_47 x1 x2 x3 x4 x5 x6 a n c hn w
      · exact roles_48 x1 x2 x3 x4 x5 x6 a n c hn w
      · exact roles_49 x1 x2 x3 x4 x5 x6 a n c hn w
      · exact roles_50 x1 x2 x3 x4 x5 x6 a n c hn w
      · exact roles_51 x1 x2 x3 x4 x5 x6 a n c hn w
      · exact roles_52 x1 x2 x3 x4 x5 x6 a n c hn w
  · exact roles_none op x1 x2 x3 x4 x5 x6 a n c hn w (by omega)
end Go.Proofs.YtmkghfkikclodaaDoor
namespace Go.Proofs.YtmkghfkikclodaaDoor
open Go.RowKit

def emptyB (s : ByteArray) : Bool := s.toList.isEmpty
def nameB (s : ByteArray) : Bool := isNameB s && !amongB keysL s
def litB (v : Val) : Bool := !(v.kind == 4) && ((validM v).isNone && (!(v.kind == 0) || !(v.n == -9223372036854775808)))
def zeroB (v : Val) : Bool := v.kind == 0 && (v.n == 0 && (emptyB v.s && ((v.l.length : Int) == 0)))
def fairB (op role : Int) (loop : Bool) : Bool := standsB op role && (loop || (!(op == 45) && !(op == 46)))
def valB (op : Int) (v : Val) : Bool := if op = 1 then litB v else zeroB v
def shapeB (op role : Int) (loop : Bool) (s : ByteArray) (v : Val) (n : Nat) : Bool := fairB op role loop && (valB op v && (fullB op n && (namedB op || emptyB s)))
def calledB (op : Int) (s : ByteArray) : Bool := !namedB op || (nameB s || (op == 50 && emptyB s))
/-- the error: 2 shape, 5 name -/
def ownM (op role : Int) (loop : Bool) (s : ByteArray) (v : Val) (n : Nat) : Option Nat :=
  if shapeB op role loop s v n = true then (if calledB op s = true then Option.none else some 5) else some 2

theorem fair_split (op role : Int) (loop : Bool) :
    (fairB op role loop = false ∧ standsB op role = false) ∨ (fairB op role loop = false ∧ standsB op role = true ∧ loop = false ∧ op = 45) ∨ (fairB op role loop = false ∧ standsB op role = true ∧ loop = false ∧ op = 46) ∨
    (fairB op role loop = true ∧ standsB op role = true ∧ loop = true) ∨ (fairB op role loop = true ∧ standsB op role = true ∧ loop = false ∧ op ≠ 45 ∧ op ≠ 46) := by
  unfold fairB
  cases hs : standsB op role <;> cases loop <;> by_cases h1 : op = 45 <;> by_cases h2 : op = 46 <;> simp_all

set_option maxRecDepth 100000 in
set_option maxHeartbeats 4000000 in
theorem own_unfair (p : Nat → Addr) (op line role : Int) (loop : Bool) (s : ByteArray) (v : Val) (n : Nat) (a a' : Option Addr) (c c' : Nat) (w : World) (hw : 6 ≤ w.heap.size) (hr0 : 0 ≤ role) (hr1 : role ≤ 8) (hn : n ≤ 4096) (ho1 : -9223372036854775808 ≤ op) (ho2 : op ≤ 9223372036854775807)
    (hss : s.size ≤ 9223372036854775807) (hE : Errs 6 p w) (hf : fairB op role loop = false) :
    Calls Tryd.prog 75 #[.agg #[.int .i64 op, .int .i64 line, .string s, .int .i64 v.kind, .int .i64 v.n, .string v.s, .slice a v.l.length c, .slice a' n c'], .int .i64 role, .bool loop] w (ErrOut p w (some 2)) := by
  have hv := NV.new w (.int .i64 op) (.int .i64 line) (.string s) (.int .i64 v.kind) (.int .i64 v.n) (.string v.s) (.slice a v.l.length c) (.slice a' n c')
  have hal := bal w (.cells #[.int .i64 op, .int .i64 line, .string s, .int .i64 v.kind, .int .i64 v.n, .string v.s, .slice a v.l.length c, .slice a' n c'] 63)
  have HAL := Lib.hid hal
  obtain ⟨d0, d1, d2, d3, d4, d5, d6, d7⟩ := hv.all
  have hlt := hv.lt
  have HV := Lib.hid hv
  have HE := Lib.hid hE
  clear hv hal hE
  have HST := Lib.hid fun (w' : World) => stands_any op role (.int .i64 line) (.string s) (.int .i64 v.kind) (.int .i64 v.n) (.string v.s) (.slice a v.l.length c) (.slice a' n c') hr0 hr1 w' ho1 ho2
  have HRO := Lib.hid fun (w' : World) => roles_any op (.int .i64 line) (.string s) (.int .i64 v.kind) (.int .i64 v.n) (.string v.s) (.slice a v.l.length c) a' n c' hn w'
  have HNA := Lib.hid fun (w' : World) => named_any op w' ho1 ho2
  rcases fair_split op role loop with ⟨-, h⟩ | ⟨-, h, h2, h3⟩ | ⟨-, h, h2, h3⟩ | ⟨h1, -⟩ | ⟨h1, -⟩
  · rw [h] at HST
    generalize namedB op = nb at HNA
    generalize (op == 50) = n5 at HNA
    generalize fullB op n = fb at HRO
    go_enter Tryd.func75, Tryd.ntmps75
    go_wp2_with fail
    refine (HST.out _).mono ?_
    rintro e w1 ⟨rfl, hB⟩
    have hsz1 := hB.size
    have hv := HV.out.below hB hlt
    have hB0 := HAL.out.trans (hB.mono HAL.out.size)
    have HB1 := Lib.hid hB0
    have hlt1 := hv.lt
    clear d0 d1 d2 d3 d4 d5 d6 d7
    obtain ⟨d0, d1, d2, d3, d4, d5, d6, d7⟩ := hv.all
    have HV1 := Lib.hid hv
    clear hv hB hB0
    go_wp2_with fail
    all_goals
      refine (HRO.out _).mono ?_
      rintro e w2 ⟨rv, rfl, -, hB⟩
      have hsz2 := hB.size
      have hv := HV1.out.below hB hlt1
      have hB0 := HB1.out.trans (hB.mono HB1.out.size)
      have HB2 := Lib.hid hB0
      have hlt2 := hv.lt
      clear d0 d1 d2 d3 d4 d5 d6 d7
      obtain ⟨d0, d1, d2, d3, d4, d5, d6, d7⟩ := hv.all
      have HV2 := Lib.hid hv
      clear hv hB hB0
      go_wp2_with fail
      refine (HNA.out _).mono ?_
      rintro e w3 ⟨rfl, hB⟩
      have hsz3 := hB.size
      have hv := HV2.out.below hB hlt2
      have hB0 := HB2.out.trans (hB.mono HB2.out.size)
      have HB3 := Lib.hid hB0
      have hlt3 := hv.lt
      clear d0 d1 d2 d3 d4 d5 d6 d7
      obtain ⟨d0, d1, d2, d3, d4, d5, d6, d7⟩ := hv.all
      have HV3 := Lib.hid hv
      clear hv hB hB0
      have d8 := HE.out.below HB3.out hw 2 (by decide)
      unfold errV at d8
      go_wp2_with fail
      go_ret
      exact ⟨by rfl, HB3.out⟩
  · rw [h] at HST
    subst h2 h3
    clear h hf
    go_enter Tryd.func75, Tryd.ntmps75
    go_wp2_with fail
    refine (HST.out _).mono ?_
    rintro e w1 ⟨rfl, hB⟩
    have hsz1 := hB.size
    have hv := HV.out.below hB hlt
    have hB0 := HAL.out.trans (hB.mono HAL.out.size)
    have HB1 := Lib.hid hB0
    have hlt1 := hv.lt
    clear d0 d1 d2 d3 d4 d5 d6 d7
    obtain ⟨d0, d1, d2, d3, d4, d5, d6, d7⟩ := hv.all
    have HV1 := Lib.hid hv
    clear hv hB hB0
    go_wp2_with fail
    all_goals
      refine (HRO.out _).mono ?_
      rintro e w2 ⟨rv, rfl, -, hB⟩
      have hsz2 := hB.size
      have hv := HV1.out.below hB hlt1
      have hB0 := HB1.out.trans (hB.mono HB1.out.size)
      have HB2 := Lib.hid hB0
      have hlt2 := hv.lt
      clear d0 d1 d2 d3 d4 d5 d6 d7
      obtain ⟨d0, d1, d2, d3, d4, d5, d6, d7⟩ := hv.all
      have HV2 := Lib.hid hv
      clear hv hB hB0
      go_wp2_with fail
      refine (HNA.out _).mono ?_
      rintro e w3 ⟨rfl, hB⟩
      have hsz3 := hB.size
      have hv := HV2.out.below hB hlt2
      have hB0 := HB2.out.trans (hB.mono HB2.out.size)
      have HB3 := Lib.hid hB0
      have hlt3 := hv.lt
      clear d0 d1 d2 d3 d4 d5 d6 d7
      obtain ⟨d0, d1, d2, d3, d4, d5, d6, d7⟩ := hv.all
      have HV3 := Lib.hid hv
      clear hv hB hB0
      have d8 := HE.out.below HB3.out hw 2 (by decide)
      unfold errV at d8
      go_wp2_with fail
      go_ret
      exact ⟨by rfl, HB3.out⟩
  · rw [h] at HST
    subst h2 h3
    clear h hf
    go_enter Tryd.func75, Tryd.ntmps75
    go_wp2_with fail
    refine (HST.out _).mono ?_
    rintro e w1 ⟨rfl, hB⟩
    have hsz1 := hB.size
    have hv := HV.out.below hB hlt
    have hB0 := HAL.out.trans (hB.mono HAL.out.size)
    have HB1 := Lib.hid hB0
    have hlt1 := hv.lt
    clear d0 d1 d2 d3 d4 d5 d6 d7
    obtain ⟨d0, d1, d2, d3, d4, d5, d6, d7⟩ := hv.all
    have HV1 := Lib.hid hv
    clear hv hB hB0
    go_wp2_with fail
    all_goals
      refine (HRO.out _).mono ?_
      rintro e w2 ⟨rv, rfl, -, hB⟩
      have hsz2 := hB.size
      have hv := HV1.out.below hB hlt1
      have hB0 := HB1.out.trans (hB.mono HB1.out.size)
      have HB2 := Lib.hid hB0
      have hlt2 := hv.lt
      clear d0 d1 d2 d3 d4 d5 d6 d7
      obtain ⟨d0, d1, d2, d3, d4, d5, d6, d7⟩ := hv.all
      have HV2 := Lib.hid hv
      clear hv hB hB0
      go_wp2_with fail
      refine (HNA.out _).mono ?_
      rintro e w3 ⟨rfl, hB⟩
      have hsz3 := hB.size
      have hv := HV2.out.below hB hlt2
      have hB0 := HB2.out.trans (hB.mono HB2.out.size)
      have HB3 := Lib.hid hB0
      have hlt3 := hv.lt
      clear d0 d1 d2 d3 d4 d5 d6 d7
      obtain ⟨d0, d1, d2, d3, d4, d5, d6, d7⟩ := hv.all
      have HV3 := Lib.hid hv
      clear hv hB hB0
      have d8 := HE.out.below HB3.out hw 2 (by decide)
      unfold errV at d8
      go_wp2_with fail
      go_ret
      exact ⟨by rfl, HB3.out⟩
  · rw [hf] at h1; cases h1
  · rw [hf] at h1; cases h1
end Go.Proofs.YtmkghfkikclodaaDoor
