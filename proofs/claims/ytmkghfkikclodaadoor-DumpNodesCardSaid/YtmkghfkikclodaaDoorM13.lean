/- What the document says of a node's own text and value; its faults. The reference's words and names. The document's word on a value that is not there; too many nodes. -/
import Derived.Test.YtmkghfkikclodaaDoorM10
import Derived.Test.YtmkghfkikclodaaDoorM11
import Derived.Test.YtmkghfkikclodaaDoorM12
import Derived.Test.YtmkghfkikclodaaDoorM09
import Derived.Test.YtmkghfkikclodaaDoorM07
set_option linter.unusedVariables false
set_option linter.unusedSimpArgs false
namespace Go.Proofs.YtmkghfkikclodaaDoor
open Go.RowKit

theorem ret38 {w : World} {g : Nat} {x0 x1 x2 x3 x4 x5 x6 : Value} {tmps : Array Value} (ht : tmps.getD 0 undef = .pointer (some ⟨g, 0, none⟩)) (hv : FB w g x0 x1 x2 x3 x4 x5 x6) : (results Tryd.f38 tmps).run Tryd.prog w = .ok (.agg #[x0, x1, x2, x3, x4, x5, x6]) w :=
  results_cell_row (P := Tryd.prog) Tryd.results38 tmps w g 48 #[x0, x1, x2, x3, x4, x5, x6] (0, 0) _ ht hv Tryd.underlying48 rfl info48
theorem none_any (w : World) : Calls Tryd.prog 38 #[] w (FaultOut 0 w) := by
  go_enter Tryd.func38, Tryd.ntmps38
  go_wp2_with fail
  refine bodyPost_ret (ret38 rfl (heap_alloc_new w _)) rfl ⟨rfl, bal w _⟩

theorem ret55 {w : World} {g : Nat} {x0 x1 x2 x3 x4 x5 x6 : Value} {tmps : Array Value} (ht : tmps.getD 4 undef = .pointer (some ⟨g, 0, none⟩)) (hv : FB w g x0 x1 x2 x3 x4 x5 x6) : (results Tryd.f55 tmps).run Tryd.prog w = .ok (.agg #[x0, x1, x2, x3, x4, x5, x6]) w :=
  results_cell_row (P := Tryd.prog) Tryd.results55 tmps w g 48 #[x0, x1, x2, x3, x4, x5, x6] (0, 0) _ ht hv Tryd.underlying48 rfl info48
/-- a fault of this number, wherever -/
def FaultP (z : Int) (W : World) (e : Ending) (w' : World) : Prop := ∃ (pl : Bool) (pos : Int), e = .returned (.agg #[.int .i64 z, .bool pl, .int .i64 pos, .int .i64 0, .int .i64 0, .string ⟨#[]⟩, .slice none 0 0]) ∧ Below W.heap.size W w'
theorem placed_shape (pos : Int) (w : World) : Calls Tryd.prog 55 #[.int .i64 103, .int .i64 pos] w (FaultP 103 w) := by
  go_enter Tryd.func55, Tryd.ntmps55
  go_wp2_with fail
  refine bodyPost_ret (ret55 rfl (heap_alloc_new w _)) rfl ⟨true, pos, rfl, bal w _⟩
theorem placed_name (pos : Int) (w : World) : Calls Tryd.prog 55 #[.int .i64 106, .int .i64 pos] w (FaultP 106 w) := by
  go_enter Tryd.func55, Tryd.ntmps55
  go_wp2_with fail
  refine bodyPost_ret (ret55 rfl (heap_alloc_new w _)) rfl ⟨true, pos, rfl, bal w _⟩
/-- 1: a name that is none; 2: one that is not to be there -/
def badI (op : Int) (s : ByteArray) : Int :=
  if namedB op = true then (if calledB op s = true then 0 else 1) else (if emptyB s = true then 0 else 2)
end Go.Proofs.YtmkghfkikclodaaDoor
namespace Go.Proofs.YtmkghfkikclodaaDoor
open Go.RowKit

def KeysOut (W : World) (e : Ending) (w' : World) : Prop := ∃ v ts, e = .returned v ∧ Texts w'.heap.size w' v ts ∧ (∀ s, amongB ts s = amongB keysL s) ∧ ts.length ≤ 19 ∧ Below W.heap.size W w'
theorem keysL_size : ∀ x ∈ keysL, x.size ≤ 9223372036854775807 := by
  have h : keysL.all (fun x => decide (x.size ≤ 9223372036854775807)) = true := by decide
  intro x hx
  exact of_decide_eq_true (List.all_eq_true.1 h x hx)
set_option maxRecDepth 100000 in
theorem keysRef_any (w : World) : Calls Tryd.prog 69 #[] w (KeysOut w) := by
  have HR := Lib.hid fun (v : Value) (w' : World) (h : Texts w'.heap.size w' v keysL) => rising_any v keysL w' h (by decide) keysL_size
  go_enter Tryd.func69, Tryd.ntmps69
  go_wp2_with fail
  refine (HR.out _ _ ⟨_, _, rfl, .inr ⟨⟨w.heap.size, 0, none⟩, rfl, by simp, fun j hj => ?_⟩⟩).mono ?_
  · have hj' : j < 19 := hj
    rw [show (⟨w.heap.size, 0, none⟩ : Addr).add j = ⟨w.heap.size, j, none⟩ by unfold Addr.add; split <;> simp_all, World.cell?_alloc_mark]
    have hc : j = 0 ∨ j = 1 ∨ j = 2 ∨ j = 3 ∨ j = 4 ∨ j = 5 ∨ j = 6 ∨ j = 7 ∨ j = 8 ∨ j = 9 ∨ j = 10 ∨ j = 11 ∨ j = 12 ∨ j = 13 ∨ j = 14 ∨ j = 15 ∨ j = 16 ∨ j = 17 ∨ j = 18 := by omega
    rcases hc with rfl | rfl | rfl | rfl | rfl | rfl | rfl | rfl | rfl | rfl | rfl | rfl | rfl | rfl | rfl | rfl | rfl | rfl | rfl <;> rfl
  · rintro e w1 ⟨v, ts, rfl, ht, ha, hl, hB⟩
    have HB := Lib.hid ((bal w _).trans (hB.mono (by simp)))
    obtain ⟨a, c, rfl, hc⟩ := ht
    have HC := Lib.hid hc
    clear hB hc
    go_wp2_with fail
    go_ret
    exact ⟨_, ts, rfl, ⟨a, c, rfl, HC.out⟩, ha, hl, HB.out⟩

set_option maxRecDepth 100000 in
set_option maxHeartbeats 4000000 in
theorem named_ref (op : Int) (s : ByteArray) (x1 x3 x4 x5 x6 x7 : Value) (w : World) (ho1 : -9223372036854775808 ≤ op) (ho2 : op ≤ 9223372036854775807) (hs : s.size ≤ 9223372036854775807) :
    Calls Tryd.prog 52 #[.agg #[.int .i64 op, x1, .string s, x3, x4, x5, x6, x7]] w (IntOut w (badI op s)) := by
  have hv := NV.new w (.int .i64 op) x1 (.string s) x3 x4 x5 x6 x7
  have hal := bal w (.cells #[.int .i64 op, x1, .string s, x3, x4, x5, x6, x7] 63)
  obtain ⟨d0, -, d2, -⟩ := hv.all
  have HV := Lib.hid hv
  have HAL := Lib.hid hal
  have hlt := hv.lt
  have HIN := Lib.hid fun (w' : World) => isName_any s w' hs
  have HKE := Lib.hid fun (w' : World) => keysRef_any w'
  have HHO := Lib.hid fun (v : Value) (ss : List ByteArray) (w' : World) (h : Texts w'.heap.size w' v ss) (hl : ss.length ≤ 1000000) => holds_any v ss s w' h hl
  have hop : op = 2 ∨ op = 24 ∨ op = 42 ∨ op = 43 ∨ op = 50 ∨ (op ≠ 2 ∧ op ≠ 24 ∧ op ≠ 42 ∧ op ≠ 43 ∧ op ≠ 50) := by omega
  clear hv hal
  rcases hop with rfl | rfl | rfl | rfl | rfl | ⟨h1, h2, h3, h4, h5⟩
  · have hq : badI 2 s = (if isNameB s && !amongB keysL s then 0 else 1) := by unfold badI calledB nameB namedB; simp
    generalize badI 2 s = z at hq ⊢
    generalize isNameB s = nm at HIN hq
    cases nm with
    | false =>
      obtain rfl : z = 1 := by rw [hq]; rfl
      clear hq
      go_enter Tryd.func52, Tryd.ntmps52
      go_wp2_with fail
      first | (go_region_law (go_simp; go_at_call 67; go_loud (refine (HIN.out _).mono ?_; rintro e w1 ⟨rfl, hB⟩; have hB1 : Below (w.alloc (.cells #[.int .i64 2, x1, .string s, x3, x4, x5, x6, x7] 63)).heap.size (w.alloc (.cells #[.int .i64 2, x1, .string s, x3, x4, x5, x6, x7] 63)) w1 := ⟨hB.os, hB.tape, hB.output, hB.size, hB.block⟩))) | fail
      all_goals
        have HB := Lib.hid (HAL.out.trans (hB1.mono HAL.out.size))
        clear hB hB1
        go_wp2_with fail
        go_ret
        exact ⟨rfl, HB.out⟩
    | true =>
      rw [Bool.true_and] at hq
      have HQ := Lib.hid hq
      clear hq
      go_enter Tryd.func52, Tryd.ntmps52
      go_wp2_with fail
      go_region_law (first
        | (go_simp; go_at_call 67; go_loud (refine (HIN.out _).mono ?_; rintro e w1 ⟨rfl, hB⟩; have hB1 : Below (w.alloc (.cells #[.int .i64 2, x1, .string s, x3, x4, x5, x6, x7] 63)).heap.size (w.alloc (.cells #[.int .i64 2, x1, .string s, x3, x4, x5, x6, x7] 63)) w1 := ⟨hB.os, hB.tape, hB.output, hB.size, hB.block⟩; have HB1 := Lib.hid (And.intro (HV.out.below hB1 hlt) (HAL.out.trans (hB1.mono HAL.out.size))); have hlt1 := HB1.out.1.lt; have d2' := HB1.out.1.all.2.2.1; clear hB hB1))
        | (go_simp; go_at_call 69; go_loud (refine (HKE.out _).mono ?_; rintro e w2 ⟨v, ts, rfl, ht, ha, hl, hB⟩; have hv2 := HB1.out.1.below hB hlt1; have d2s := hv2.all.2.2.1; have HB2 := Lib.hid (HB1.out.2.trans (hB.mono HB1.out.2.size)); have hq3 := HQ.out; rw [← ha s] at hq3; have HQ2 := Lib.hid (And.intro hq3 (And.intro ht hl)); obtain ⟨av, cv, hve, hc⟩ := ht; subst hve; clear hB hv2 hq3 ha hc))
        | (go_simp; go_at_call 68; go_loud (refine (HHO.out _ ts _ (by exact HQ2.out.2.1) (by have := HQ2.out.2.2; omega)).mono ?_; rintro e w3 ⟨rfl, hB⟩; have HB3 := Lib.hid (HB2.out.trans (hB.mono HB2.out.size)); clear hB)))
      all_goals
        generalize amongB ts s = am at HQ2
        cases am with
        | false =>
          obtain rfl : z = 0 := HQ2.out.1
          clear HQ2
          go_wp2
          go_ret
          exact ⟨rfl, HB3.out⟩
        | true =>
          obtain rfl : z = 1 := HQ2.out.1
          clear HQ2
          go_wp2
          go_ret
          exact ⟨rfl, HB3.out⟩
  · have hq : badI 24 s = (if isNameB s && !amongB keysL s then 0 else 1) := by unfold badI calledB nameB namedB; simp
    generalize badI 24 s = z at hq ⊢
    generalize isNameB s = nm at HIN hq
    cases nm with
    | false =>
      obtain rfl : z = 1 := by rw [hq]; rfl
      clear hq
      go_enter Tryd.func52, Tryd.ntmps52
      go_wp2_with fail
      first | (go_region_law (go_simp; go_at_call 67; go_loud (refine (HIN.out _).mono ?_; rintro e w1 ⟨rfl, hB⟩; have hB1 : Below (w.alloc (.cells #[.int .i64 24, x1, .string s, x3, x4, x5, x6, x7] 63)).heap.size (w.alloc (.cells #[.int .i64 24, x1, .string s, x3, x4, x5, x6, x7] 63)) w1 := ⟨hB.os, hB.tape, hB.output, hB.size, hB.block⟩))) | fail
      all_goals
        have HB := Lib.hid (HAL.out.trans (hB1.mono HAL.out.size))
        clear hB hB1
        go_wp2_with fail
        go_ret
        exact ⟨rfl, HB.out⟩
    | true =>
      rw [Bool.true_and] at hq
      have HQ := Lib.hid hq
      clear hq
      go_enter Tryd.func52, Tryd.ntmps52
      go_wp2_with fail
      go_region_law (first
        | (go_simp; go_at_call 67; go_loud (refine (HIN.out _).mono ?_; rintro e w1 ⟨rfl, hB⟩; have hB1 : Below (w.alloc (.cells #[.int .i64 24, x1, .string s, x3, x4, x5, x6, x7] 63)).heap.size (w.alloc (.cells #[.int .i64 24, x1, .string s, x3, x4, x5, x6, x7] 63)) w1 := ⟨hB.os, hB.tape, hB.output, hB.size, hB.block⟩; have HB1 := Lib.hid (And.intro (HV.out.below hB1 hlt) (HAL.out.trans (hB1.mono HAL.out.size))); have hlt1 := HB1.out.1.lt; have d2' := HB1.out.1.all.2.2.1; clear hB hB1))
        | (go_simp; go_at_call 69; go_loud (refine (HKE.out _).mono ?_; rintro e w2 ⟨v, ts, rfl, ht, ha, hl, hB⟩; have hv2 := HB1.out.1.below hB hlt1; have d2s := hv2.all.2.2.1; have HB2 := Lib.hid (HB1.out.2.trans (hB.mono HB1.out.2.size)); have hq3 := HQ.out; rw [← ha s] at hq3; have HQ2 := Lib.hid (And.intro hq3 (And.intro ht hl)); obtain ⟨av, cv, hve, hc⟩ := ht; subst hve; clear hB hv2 hq3 ha hc))
        | (go_simp; go_at_call 68; go_loud (refine (HHO.out _ ts _ (by exact HQ2.out.2.1) (by have := HQ2.out.2.2; omega)).mono ?_; rintro e w3 ⟨rfl, hB⟩; have HB3 := Lib.hid (HB2.out.trans (hB.mono HB2.out.size)); clear hB)))
      all_goals
        generalize amongB ts s = am at HQ2
        cases am with
        | false =>
          obtain rfl : z = 0 := HQ2.out.1
          clear HQ2
          go_wp2
          go_ret
          exact ⟨rfl, HB3.out⟩
        | true =>
          obtain rfl : z = 1 := HQ2.out.1
          clear HQ2
          go_wp2
          go_ret
          exact ⟨rfl, HB3.out⟩
  · have hq : badI 42 s = (if isNameB s && !amongB keysL s then 0 else 1) := by unfold badI calledB nameB namedB; simp
    generalize badI 42 s = z at hq ⊢
    generalize isNameB s = nm at HIN hq
    cases nm with
    | false =>
      obtain rfl : z = 1 := by rw [hq]; rfl
      clear hq
      go_enter Tryd.func52, Tryd.ntmps52
      go_wp2_with fail
      first | (go_region_law (go_simp; go_at_call 67; go_loud (refine (HIN.out _).mono ?_; rintro e w1 ⟨rfl, hB⟩; have hB1 : Below (w.alloc (.cells #[.int .i64 42, x1, .string s, x3, x4, x5, x6, x7] 63)).heap.size (w.alloc (.cells #[.int .i64 42, x1, .string s, x3, x4, x5, x6, x7] 63)) w1 := ⟨hB.os, hB.tape, hB.output, hB.size, hB.block⟩))) | fail
      all_goals
        have HB := Lib.hid (HAL.out.trans (hB1.mono HAL.out.size))
        clear hB hB1
        go_wp2_with fail
        go_ret
        exact ⟨rfl, HB.out⟩
    | true =>
      rw [Bool.true_and] at hq
      have HQ := Lib.hid hq
      clear hq
      go_enter Tryd.func52, Tryd.ntmps52
      go_wp2_with fail
      go_region_law (first
        | (go_simp; go_at_call 67; go_loud (refine (HIN.out _).mono ?_; rintro e w1 ⟨rfl, hB⟩; have hB1 : Below (w.alloc (.cells #[.int .i64 42, x1, .string s, x3, x4, x5, x6, x7] 63)).heap.size (w.alloc (.cells #[.int .i64 42, x1, .string s, x3, x4, x5, x6, x7] 63)) w1 := ⟨hB.os, hB.tape, hB.output, hB.size, hB.block⟩; have HB1 := Lib.hid (And.intro (HV.out.below hB1 hlt) (HAL.out.trans (hB1.mono HAL.out.size))); have hlt1 := HB1.out.1.lt; have d2' := HB1.out.1.all.2.2.1; clear hB hB1))
        | (go_simp; go_at_call 69; go_loud (refine (HKE.out _).mono ?_; rintro e w2 ⟨v, ts, rfl, ht, ha, hl, hB⟩; have hv2 := HB1.out.1.below hB hlt1; have d2s := hv2.all.2.2.1; have HB2 := Lib.hid (HB1.out.2.trans (hB.mono HB1.out.2.size)); have hq3 := HQ.out; rw [← ha s] at hq3; have HQ2 := Lib.hid (And.intro hq3 (And.intro ht hl)); obtain ⟨av, cv, hve, hc⟩ := ht; subst hve; clear hB hv2 hq3 ha hc))
        | (go_simp; go_at_call 68; go_loud (refine (HHO.out _ ts _ (by exact HQ2.out.2.1) (by have := HQ2.out.2.2; omega)).mono ?_; rintro e w3 ⟨rfl, hB⟩; have HB3 := Lib.hid (HB2.out.trans (hB.mono HB2.out.size)); clear hB)))
      all_goals
        generalize amongB ts s = am at HQ2
        cases am with
        | false =>
          obtain rfl : z = 0 := HQ2.out.1
          clear HQ2
          go_wp2
          go_ret
          exact ⟨rfl, HB3.out⟩
        | true =>
          obtain rfl : z = 1 := HQ2.out.1
          clear HQ2
          go_wp2
          go_ret
          exact ⟨rfl, HB3.out⟩
  · have hq : badI 43 s = (if isNameB s && !amongB keysL s then 0 else 1) := by unfold badI calledB nameB namedB; simp
    generalize badI 43 s = z at hq ⊢
    generalize isNameB s = nm at HIN hq
    cases nm with
    | false =>
      obtain rfl : z = 1 := by rw [hq]; rfl
      clear hq
      go_enter Tryd.func52, Tryd.ntmps52
      go_wp2_with fail
      first | (go_region_law (go_simp; go_at_call 67; go_loud (refine (HIN.out _).mono ?_; rintro e w1 ⟨rfl, hB⟩; have hB1 : Below (w.alloc (.cells #[.int .i64 43, x1, .string s, x3, x4, x5, x6, x7] 63)).heap.size (w.alloc (.cells #[.int .i64 43, x1, .string s, x3, x4, x5, x6, x7] 63)) w1 := ⟨hB.os, hB.tape, hB.output, hB.size, hB.block⟩))) | fail
      all_goals
        have HB := Lib.hid (HAL.out.trans (hB1.mono HAL.out.size))
        clear hB hB1
        go_wp2_with fail
        go_ret
        exact ⟨rfl, HB.out⟩
    | true =>
      rw [Bool.true_and] at hq
      have HQ := Lib.hid hq
      clear hq
      go_enter Tryd.func52, Tryd.ntmps52
      go_wp2_with fail
      go_region_law (first
        | (go_simp; go_at_call 67; go_loud (refine (HIN.out _).mono ?_; rintro e w1 ⟨rfl, hB⟩; have hB1 : Below (w.alloc (.cells #[.int .i64 43, x1, .string s, x3, x4, x5, x6, x7] 63)).heap.size (w.alloc (.cells #[.int .i64 43, x1, .string s, x3, x4, x5, x6, x7] 63)) w1 := ⟨hB.os, hB.tape, hB.output, hB.size, hB.block⟩; have HB1 := Lib.hid (And.intro (HV.out.below hB1 hlt) (HAL.out.trans (hB1.mono HAL.out.size))); have hlt1 := HB1.out.1.lt; have d2' := HB1.out.1.all.2.2.1; clear hB hB1))
        | (go_simp; go_at_call 69; go_loud (refine (HKE.out _).mono ?_; rintro e w2 ⟨v, ts, rfl, ht, ha, hl, hB⟩; have hv2 := HB1.out.1.below hB hlt1; have d2s := hv2.all.2.2.1; have HB2 := Lib.hid (HB1.out.2.trans (hB.mono HB1.out.2.size)); have hq3 := HQ.out; rw [← ha s] at hq3; have HQ2 := Lib.hid (And.intro hq3 (And.intro ht hl)); obtain ⟨av, cv, hve, hc⟩ := ht; subst hve; clear hB hv2 hq3 ha hc))
        | (go_simp; go_at_call 68; go_loud (refine (HHO.out _ ts _ (by exact HQ2.out.2.1) (by have := HQ2.out.2.2; omega)).mono ?_; rintro e w3 ⟨rfl, hB⟩; have HB3 := Lib.hid (HB2.out.trans (hB.mono HB2.out.size)); clear hB)))
      all_goals
        generalize amongB ts s = am at HQ2
        cases am with
        | false =>
          obtain rfl : z = 0 := HQ2.out.1
          clear HQ2
          go_wp2
          go_ret
          exact ⟨rfl, HB3.out⟩
        | true =>
          obtain rfl : z = 1 := HQ2.out.1
          clear HQ2
          go_wp2
          go_ret
          exact ⟨rfl, HB3.out⟩
  · cases q5 : emptyB s
    · have q5' : s.toList.isEmpty = false := q5
      have q52 : ¬ s.toList = [] := by intro h0; rw [h0] at q5'; cases q5'
      have hq : badI 50 s = (if isNameB s && !amongB keysL s then 0 else 1) := by unfold badI calledB nameB namedB; simp [q5]
      generalize badI 50 s = z at hq ⊢
      generalize isNameB s = nm at HIN hq
      cases nm with
      | false =>
        obtain rfl : z = 1 := by rw [hq]; rfl
        clear hq
        go_enter Tryd.func52, Tryd.ntmps52
        go_wp2_with fail
        first | (go_region_law (go_simp; go_at_call 67; go_loud (refine (HIN.out _).mono ?_; rintro e w1 ⟨rfl, hB⟩; have hB1 : Below (w.alloc (.cells #[.int .i64 50, x1, .string s, x3, x4, x5, x6, x7] 63)).heap.size (w.alloc (.cells #[.int .i64 50, x1, .string s, x3, x4, x5, x6, x7] 63)) w1 := ⟨hB.os, hB.tape, hB.output, hB.size, hB.block⟩))) | fail
        all_goals
          have HB := Lib.hid (HAL.out.trans (hB1.mono HAL.out.size))
          clear hB hB1
          go_wp2_with fail
          go_ret
          exact ⟨rfl, HB.out⟩
      | true =>
        rw [Bool.true_and] at hq
        have HQ := Lib.hid hq
        clear hq
        go_enter Tryd.func52, Tryd.ntmps52
        go_wp2_with fail
        go_region_law (first
          | (go_simp; go_at_call 67; go_loud (refine (HIN.out _).mono ?_; rintro e w1 ⟨rfl, hB⟩; have hB1 : Below (w.alloc (.cells #[.int .i64 50, x1, .string s, x3, x4, x5, x6, x7] 63)).heap.size (w.alloc (.cells #[.int .i64 50, x1, .string s, x3, x4, x5, x6, x7] 63)) w1 := ⟨hB.os, hB.tape, hB.output, hB.size, hB.block⟩; have HB1 := Lib.hid (And.intro (HV.out.below hB1 hlt) (HAL.out.trans (hB1.mono HAL.out.size))); have hlt1 := HB1.out.1.lt; have d2' := HB1.out.1.all.2.2.1; clear hB hB1))
          | (go_simp; go_at_call 69; go_loud (refine (HKE.out _).mono ?_; rintro e w2 ⟨v, ts, rfl, ht, ha, hl, hB⟩; have hv2 := HB1.out.1.below hB hlt1; have d2s := hv2.all.2.2.1; have HB2 := Lib.hid (HB1.out.2.trans (hB.mono HB1.out.2.size)); have hq3 := HQ.out; rw [← ha s] at hq3; have HQ2 := Lib.hid (And.intro hq3 (And.intro ht hl)); obtain ⟨av, cv, hve, hc⟩ := ht; subst hve; clear hB hv2 hq3 ha hc))
          | (go_simp; go_at_call 68; go_loud (refine (HHO.out _ ts _ (by exact HQ2.out.2.1) (by have := HQ2.out.2.2; omega)).mono ?_; rintro e w3 ⟨rfl, hB⟩; have HB3 := Lib.hid (HB2.out.trans (hB.mono HB2.out.size)); clear hB)))
        all_goals
          generalize amongB ts s = am at HQ2
          cases am with
          | false =>
            obtain rfl : z = 0 := HQ2.out.1
            clear HQ2
            go_wp2
            go_ret
            exact ⟨rfl, HB3.out⟩
          | true =>
            obtain rfl : z = 1 := HQ2.out.1
            clear HQ2
            go_wp2
            go_ret
            exact ⟨rfl, HB3.out⟩
    · have q5' : s.toList.isEmpty = true := q5
      have q52 : s.toList = [] := by simpa using q5'
      have hq : badI 50 s = 0 := by unfold badI calledB namedB; simp [q5]
      rw [hq]
      clear hq
      go_enter Tryd.func52, Tryd.ntmps52
      go_wp2_with fail
      first | go_region | fail
      all_goals
        go_wp2
        go_ret
        exact ⟨rfl, ⟨HAL.out.os, HAL.out.tape, HAL.out.output, HAL.out.size, HAL.out.block⟩⟩
  · have hn : namedB op = false := by unfold namedB; simp [h1, h2, h3, h4, h5]
    have e1 : (op == 2) = false := by simp [h1]
    have e2 : (op == 24) = false := by simp [h2]
    have e3 : (op == 42) = false := by simp [h3]
    have e4 : (op == 43) = false := by simp [h4]
    have e5 : (op == 50) = false := by simp [h5]
    cases q5 : emptyB s
    · have q5' : s.toList.isEmpty = false := q5
      have q52 : ¬ s.toList = [] := by intro h0; rw [h0] at q5'; cases q5'
      have hq : badI op s = 2 := by unfold badI; simp [q5, hn]
      rw [hq]
      clear hq hn h1 h2 h3 h4 h5
      go_enter Tryd.func52, Tryd.ntmps52
      go_wp2_with fail
      go_ret
      exact ⟨rfl, HAL.out⟩
    · have q5' : s.toList.isEmpty = true := q5
      have q52 : s.toList = [] := by simpa using q5'
      have hq : badI op s = 0 := by unfold badI; simp [q5, hn]
      rw [hq]
      clear hq hn h1 h2 h3 h4 h5
      go_enter Tryd.func52, Tryd.ntmps52
      go_wp2_with fail
      go_ret
      exact ⟨rfl, HAL.out⟩
end Go.Proofs.YtmkghfkikclodaaDoor
namespace Go.Proofs.YtmkghfkikclodaaDoor
open Go.RowKit

theorem items_zero (n c : Nat) (a : Option Addr) (w : World) (hn : n ≤ 9223372036854775807) : Calls Tryd.prog 27 #[.slice a n c, .slice none 0 0] w (BoolOut w ((n : Int) == 0)) := by
  by_cases h : n = 0
  · subst h
    go_enter Tryd.func27, Tryd.ntmps27
    go_wp2_with fail
    go_loopw [5] (fun i wr => i = .int .i64 0 ∧ wr = w) (fun _ _ => 0)
    case atStart => exact ⟨rfl, rfl⟩
    case round =>
      obtain ⟨rfl, rfl⟩ := hrel
      go_wp2
      go_ret
      exact ⟨rfl, Below.refl _ _⟩
  · have e : ((n : Int) == 0) = false := by simp; omega
    have hi : ¬ (n : Int) = 0 := by omega
    rw [e]
    go_enter Tryd.func27, Tryd.ntmps27
    go_wp2_with fail
    go_ret
    exact ⟨rfl, Below.refl _ _⟩

set_option maxRecDepth 100000 in
set_option maxHeartbeats 2000000 in
theorem sameValue_zero (k n : Int) (s : ByteArray) (m c : Nat) (a : Option Addr) (w : World) (hk1 : -9223372036854775808 ≤ k) (hk2 : k ≤ 9223372036854775807) (hn1 : -9223372036854775808 ≤ n) (hn2 : n ≤ 9223372036854775807) (hm : m ≤ 9223372036854775807) :
    Calls Tryd.prog 13 #[.agg #[.int .i64 k, .int .i64 n, .string s, .slice a m c], .agg #[.int .i64 0, .int .i64 0, .string ⟨#[]⟩, .slice none 0 0]] w (BoolOut w (k == 0 && (n == 0 && (emptyB s && ((m : Int) == 0))))) := by
  have hv := VB.new w (.int .i64 k) (.int .i64 n) (.string s) (.slice a m c)
  have hv' := VB.new (w.alloc (.cells #[.int .i64 k, .int .i64 n, .string s, .slice a m c] 24)) (.int .i64 0) (.int .i64 0) (.string ⟨#[]⟩) (.slice none 0 0)
  have hal := (bal w (.cells #[.int .i64 k, .int .i64 n, .string s, .slice a m c] 24)).trans ((bal (w.alloc (.cells #[.int .i64 k, .int .i64 n, .string s, .slice a m c] 24)) (.cells #[.int .i64 0, .int .i64 0, .string ⟨#[]⟩, .slice none 0 0] 24)).mono (by simp))
  have hv := hv.below (bal _ (.cells #[.int .i64 0, .int .i64 0, .string ⟨#[]⟩, .slice none 0 0] 24)) (by simp)
  have HC := Lib.hid fun (w' : World) => items_zero m c a w' hm
  have HV := Lib.hid (And.intro hv (And.intro hv' hal))
  obtain ⟨d0, d1, d2, d3, -⟩ := hv.all
  obtain ⟨d0', d1', d2', d3', -⟩ := hv'.all
  simp only [World.size_alloc] at d0' d1' d2' d3'
  clear hv hv' hal
  generalize hexp : (k == 0 && (n == 0 && (emptyB s && ((m : Int) == 0)))) = exp
  replace hexp := hexp.symm
  cases q1 : ((m : Int) == 0)
  · rw [q1] at HC
    obtain rfl : exp = false := hexp.trans (by simp [*])
    clear hexp
    go_enter Tryd.func13, Tryd.ntmps13
    go_wp2_with fail
    refine (HC.out _).mono ?_
    rintro e w1 ⟨rfl, hB⟩
    obtain ⟨e0, e1, e2, e3, -⟩ := (HV.out.1.below hB HV.out.1.lt).all
    obtain ⟨e0', e1', e2', e3', -⟩ := (HV.out.2.1.below hB HV.out.2.1.lt).all
    simp only [World.size_alloc] at e0' e1' e2' e3'
    have HB := Lib.hid (HV.out.2.2.trans (hB.mono (by simp; omega)))
    clear d0 d1 d2 d3 d0' d1' d2' d3' hB
    go_wp2
    go_ret
    exact ⟨rfl, HB.out⟩
  · rw [q1] at HC
    cases q2 : (k == 0)
    · have q2' : ¬ k = 0 := by simpa using q2
      obtain rfl : exp = false := hexp.trans (by simp [*])
      clear hexp
      go_enter Tryd.func13, Tryd.ntmps13
      go_wp2_with fail
      refine (HC.out _).mono ?_
      rintro e w1 ⟨rfl, hB⟩
      obtain ⟨e0, e1, e2, e3, -⟩ := (HV.out.1.below hB HV.out.1.lt).all
      obtain ⟨e0', e1', e2', e3', -⟩ := (HV.out.2.1.below hB HV.out.2.1.lt).all
      simp only [World.size_alloc] at e0' e1' e2' e3'
      have HB := Lib.hid (HV.out.2.2.trans (hB.mono (by simp; omega)))
      clear d0 d1 d2 d3 d0' d1' d2' d3' hB
      go_wp2
      go_ret
      exact ⟨rfl, HB.out⟩
    · obtain rfl : k = 0 := by simpa using q2
      cases q3 : (n == 0)
      · have q3' : ¬ n = 0 := by simpa using q3
        obtain rfl : exp = false := hexp.trans (by simp [*])
        clear hexp
        go_enter Tryd.func13, Tryd.ntmps13
        go_wp2_with fail
        refine (HC.out _).mono ?_
        rintro e w1 ⟨rfl, hB⟩
        obtain ⟨e0, e1, e2, e3, -⟩ := (HV.out.1.below hB HV.out.1.lt).all
        obtain ⟨e0', e1', e2', e3', -⟩ := (HV.out.2.1.below hB HV.out.2.1.lt).all
        simp only [World.size_alloc] at e0' e1' e2' e3'
        have HB := Lib.hid (HV.out.2.2.trans (hB.mono (by simp; omega)))
        clear d0 d1 d2 d3 d0' d1' d2' d3' hB
        go_wp2
        go_ret
        exact ⟨rfl, HB.out⟩
      · obtain rfl : n = 0 := by simpa using q3
        cases q4 : emptyB s
        · have q4' : s.toList.isEmpty = false := q4
          have q42 : ¬ s.toList = [] := by intro h0; rw [h0] at q4'; cases q4'
          obtain rfl : exp = false := hexp.trans (by simp [*])
          clear hexp
          go_enter Tryd.func13, Tryd.ntmps13
          go_wp2_with fail
          refine (HC.out _).mono ?_
          rintro e w1 ⟨rfl, hB⟩
          obtain ⟨e0, e1, e2, e3, -⟩ := (HV.out.1.below hB HV.out.1.lt).all
          obtain ⟨e0', e1', e2', e3', -⟩ := (HV.out.2.1.below hB HV.out.2.1.lt).all
          simp only [World.size_alloc] at e0' e1' e2' e3'
          have HB := Lib.hid (HV.out.2.2.trans (hB.mono (by simp; omega)))
          clear d0 d1 d2 d3 d0' d1' d2' d3' hB
          go_wp2
          go_ret
          exact ⟨rfl, HB.out⟩
        · have q4' : s.toList.isEmpty = true := q4
          have q42 : s.toList = [] := by simpa using q4'
          obtain rfl : exp = true := hexp.trans (by simp [*])
          clear hexp
          go_enter Tryd.func13, Tryd.ntmps13
          go_wp2_with fail
          refine (HC.out _).mono ?_
          rintro e w1 ⟨rfl, hB⟩
          obtain ⟨e0, e1, e2, e3, -⟩ := (HV.out.1.below hB HV.out.1.lt).all
          obtain ⟨e0', e1', e2', e3', -⟩ := (HV.out.2.1.below hB HV.out.2.1.lt).all
          simp only [World.size_alloc] at e0' e1' e2' e3'
          have HB := Lib.hid (HV.out.2.2.trans (hB.mono (by simp; omega)))
          clear d0 d1 d2 d3 d0' d1' d2' d3' hB
          go_wp2
          go_ret
          exact ⟨rfl, HB.out⟩

theorem zero_ref (v : Val) (a : Option Addr) (c : Nat) (w : World) (hf : Fits v.kind v.n v.s v.l.length) :
    Calls Tryd.prog 13 #[.agg #[.int .i64 v.kind, .int .i64 v.n, .string v.s, .slice a v.l.length c], .agg #[.int .i64 0, .int .i64 0, .string ⟨#[]⟩, .slice none 0 0]] w (BoolOut w (zeroB v)) :=
  sameValue_zero v.kind v.n v.s v.l.length c a w hf.1 hf.2.1 hf.2.2.1 hf.2.2.2.1 hf.2.2.2.2.2

theorem tooMany_ref (l : List Nd) (a : Option Addr) (c : Nat) (w : World) (hl : l.length ≤ 9223372036854775807) (hR : RepNSl (Lo w.heap.size) w a l) :
    Calls Tryd.prog 35 #[.slice a l.length c] w (BoolOut w (decide (manyNL l 4096 < 0))) := by
  have HC := Lib.hid (many_nodes (SizeOf.sizeOf l) l 4096 a c w (Nat.le_refl _) (by decide) (by decide) hl hR)
  have hb := manyNL_bd l 4096 (by decide)
  clear hR
  generalize manyNL l 4096 = z at HC hb ⊢
  go_enter Tryd.func35, Tryd.ntmps35
  go_wp2_with fail
  refine HC.out.mono ?_
  rintro e w1 ⟨rfl, hB⟩
  go_wp2
  all_goals
    go_ret
    exact ⟨ret_bool (by first | rfl | simp [*] | (rw [Bool.eq_iff_iff]; simp; omega)), hB⟩
end Go.Proofs.YtmkghfkikclodaaDoor
