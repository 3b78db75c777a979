/- What a row gives: bytes that came in, the listed error variables. Which error it is: the one that tells that bytes end too early. -/
import Derived.Test.YtmkghfkikclodaaDoorM07
import Derived.ChangeOld
import Derived.ShutString
import Derived.Below
import Derived.LaidMore
import Derived.Stop.LaidErr
import Derived.Stop.Joined
import Derived.LaidEql
set_option linter.unusedVariables false
set_option linter.unusedSimpArgs false
namespace Go.Proofs.YtmkghfkikclodaaDoor
open Go.ChangeShapes Go.WideShapes Go.ChangeAt Go.RowKit
set_option linter.unusedVariables false

theorem cells145 : Tryd.prog.cellsOf 145 = 1 := by kernel_rfl
theorem cells9 : Tryd.prog.cellsOf 9 = 1 := by kernel_rfl
theorem cells5 : Tryd.prog.cellsOf 5 = 1 := by kernel_rfl
theorem star : "*" ++ "errors.errorString" = "*errors.errorString" := by decide
theorem row128 (u : TypeId) (h : Tryd.prog.typeName? 3 u = some "*errors.errorString") : u = 128 :=
  typeName_ptr_named (nm := "errors.errorString") (by rw [star]; kernel_rfl) (by kernel_rfl) (by decide) u (by rw [star]; exact h)

theorem sent {n : String} {text : List UInt8} {r : List (String × DataW Unit)} {W : World} {g : Nat} (h : laidMet Tryd.prog ((n, .iface "*errors.errorString" (.ptr (.agg [.lit (.string text)]))) :: r) W)
    (hg : Tryd.prog.globalNamed n = some g) (ht : (Tryd.prog.globals[g]?).map (·.type) = some 30) : ∃ a : Addr, W.cell? ⟨g, 0, none⟩ = some (.iface 128 (.pointer (some a))) := by
  obtain ⟨a0, s0, hv0, -, -, -⟩ := laid_sentinel h hg ht Tryd.underlying30 row128 Tryd.underlying128 Tryd.underlying145 rfl rfl Tryd.underlying9 cells145 cells9
  exact ⟨a0, by have h0 := World.var?_cell hg hv0 0; simpa using h0⟩

theorem errs5 {W : World} {a0 a1 a2 a3 a4 : Addr} (h0 : W.cell? ⟨0, 0, none⟩ = some (.iface 128 (.pointer (some a0)))) (h1 : W.cell? ⟨1, 0, none⟩ = some (.iface 128 (.pointer (some a1))))
    (h2 : W.cell? ⟨2, 0, none⟩ = some (.iface 128 (.pointer (some a2)))) (h3 : W.cell? ⟨3, 0, none⟩ = some (.iface 128 (.pointer (some a3)))) (h4 : W.cell? ⟨4, 0, none⟩ = some (.iface 128 (.pointer (some a4)))) :
    Errs 5 (fun g => if g = 0 then a0 else if g = 1 then a1 else if g = 2 then a2 else if g = 3 then a3 else a4) W := by
  intro g hg
  rcases (show g = 0 ∨ g = 1 ∨ g = 2 ∨ g = 3 ∨ g = 4 by omega) with rfl | rfl | rfl | rfl | rfl <;> assumption

theorem errs_any {W : World} (h : laidMetH Tryd.prog Rows.dumpAnyRow.laid W) : 5 ≤ W.heap.size ∧ ∃ p, Errs 5 p W := by
  rw [MakeChecks.laidMetH_plain _ _ _ (by kernel_rfl)] at h
  obtain ⟨a4, h4⟩ := sent (g := 4) h (by kernel_rfl) (by kernel_rfl)
  obtain ⟨a2, h2⟩ := sent (g := 2) h.tail (by kernel_rfl) (by kernel_rfl)
  obtain ⟨a1, h1⟩ := sent (g := 1) h.tail.tail (by kernel_rfl) (by kernel_rfl)
  obtain ⟨a3, h3⟩ := sent (g := 3) h.tail.tail.tail (by kernel_rfl) (by kernel_rfl)
  obtain ⟨a0, h0⟩ := sent (g := 0) h.tail.tail.tail.tail (by kernel_rfl) (by kernel_rfl)
  exact ⟨cell_lt h4, _, errs5 h0 h1 h2 h3 h4⟩

set_option maxRecDepth 100000 in
/-- a slice of bytes that came in -/
theorem open_bytes {H : Type} {enc : TypeId × Value → H} {W : World} {base : Nat} {v : Value} {d : DataW H} {q : List MemPlace} (hok : Value.okWide Tryd.prog W .any base 25 v)
    (h : DataW.Trod enc Tryd.prog W 0 (fun _ => true) true 25 v d q) : ∃ a bs c, v = .slice a (List.length bs) c ∧ bs.length ≤ maxLen ∧ Bs W.heap.size W v bs := by
  obtain ⟨a0, len, cap, rfl⟩ := okWide_slice Tryd.underlying25 hok
  obtain ⟨fuel, h⟩ := h
  rcases open_ints Tryd.underlying25 Tryd.underlying5 cells5 h with ⟨h1, _⟩ | ⟨a, len', cap', zs, h1, _, h2, h3, h4, _, h5, h6⟩
  · simp [Value.cells] at h1
    obtain ⟨rfl, rfl, rfl⟩ := h1
    exact ⟨none, [], 0, rfl, Nat.zero_le _, none, 0, rfl, Nat.le_refl _, .inl rfl⟩
  · simp [Value.cells] at h1
    obtain ⟨rfl, rfl, rfl⟩ := h1
    have h4 : zs.length = cap := by simpa using h4
    have hlen : ((zs.take len).map fun z => UInt8.ofNat z.toNat).length = len := by simp; omega
    refine ⟨some a, (zs.take len).map fun z => UInt8.ofNat z.toNat, cap, by rw [hlen], by rw [hlen]; omega, some a, cap, by rw [hlen], by omega, ?_⟩
    by_cases h0 : len = 0
    · left; subst h0; rfl
    · right
      refine ⟨a, rfl, ?_, fun j hj => ?_⟩
      · have := cell_lt (h5 0 (by omega))
        rwa [add_block] at this
      · have hj' : j < len := by omega
        have e : zs.getD j 0 = zs[j] := by simp [List.getD, show j < zs.length by omega]
        rw [h5 j (by omega), e]
        have hz := h6 zs[j] (List.getElem_mem _)
        simp only [List.getElem_map, List.getElem_take]
        simp [Lit.wf, IntKind.min, IntKind.max, IntKind.signed, IntKind.bits] at hz
        unfold byteV
        simp
        omega

set_option maxRecDepth 100000 in
theorem dumpAny_row {H : Type} {enc : TypeId × Value → H} {base : Nat} (v : Value) (d : DataW H) (q : List MemPlace) (w : World) (hok : Value.okWide Tryd.prog w .any base 25 v)
    (hk : DataW.Trod enc Tryd.prog w 0 (fun _ => true) true 25 v d q) (hL : laidMetH Tryd.prog Rows.dumpAnyRow.laid w) : Calls Tryd.prog 4 #[v] w (BoolOut w true) := by
  obtain ⟨a, bs, c, rfl, hlen, hbs⟩ := open_bytes hok hk
  obtain ⟨hw, p, hE⟩ := errs_any hL
  exact dumpAny_walk p w a c bs hw hE (by unfold maxLen at hlen; exact hlen) hbs
end Go.Proofs.YtmkghfkikclodaaDoor
namespace Go.Proofs.YtmkghfkikclodaaDoor
open Go.RowKit

@[go_sem] theorem no98 (v : Value) (w : World) : (Instr.typeAssert (.iface 128 v) 30 98 true).run Tryd.prog w = .ok (.tuple #[.pointer none, .bool false]) w := by kernel_rfl
@[go_sem] theorem no109 (v : Value) (w : World) : (Instr.typeAssert (.iface 128 v) 30 109 true).run Tryd.prog w = .ok (.tuple #[.pointer none, .bool false]) w := by kernel_rfl

theorem eql_same (a : Addr) (w : World) : (binOp .eql 30 (.iface 128 (.pointer (some a))) (.iface 128 (.pointer (some a)))).run Tryd.prog w = .ok (.bool true) w := by
  have h1 : (Tryd.prog.info? 128).map (·.comparable) = some true := by kernel_rfl
  have h2 : (Tryd.prog.info? 145).isSome = true := by kernel_rfl
  obtain ⟨i, hi, hc⟩ := Option.map_eq_some_iff.1 h1
  obtain ⟨j, hj⟩ := Option.isSome_iff_exists.1 h2
  exact run_eql_iface_ptr_same w a Tryd.underlying30 Tryd.underlying128 hi hc hj

set_option maxRecDepth 100000 in
theorem alike_same (a : Addr) (w : World) : Calls Tryd.prog 82 #[.iface 128 (.pointer (some a)), .iface 128 (.pointer (some a))] w (BoolOut w true) := by
  have he := eql_same a w
  go_enter Tryd.func82, Tryd.ntmps82
  go_wp2_with fail
  go_ret
  exact ⟨rfl, Below.refl _ _⟩

/-- block g holds the 17 errors -/
def sentV (p : Nat → Addr) : Array Value := #[errV p 4, errV p 6, errV p 2, errV p 1, errV p 3, errV p 5, errV p 7, errV p 8, errV p 9, errV p 10, errV p 11, errV p 0, errV p 12, errV p 13, errV p 14, errV p 15, errV p 16]

def SentOut (p : Nat → Addr) (W : World) (e : Ending) (w' : World) : Prop := e = .returned (.slice (some ⟨W.heap.size, 0, none⟩) 17 17) ∧ w'.cell? ⟨W.heap.size, 0, none⟩ = some (errV p 4) ∧ Below W.heap.size W w'

set_option maxRecDepth 100000 in
set_option maxHeartbeats 2000000 in
theorem sentinels_any (p : Nat → Addr) (w : World) (hE : Errs 17 p w) : Calls Tryd.prog 81 #[] w (SentOut p w) := by
  have e0 := hE 0 (by decide)
  have e1 := hE 1 (by decide)
  have e2 := hE 2 (by decide)
  have e3 := hE 3 (by decide)
  have e4 := hE 4 (by decide)
  have e5 := hE 5 (by decide)
  have e6 := hE 6 (by decide)
  have e7 := hE 7 (by decide)
  have e8 := hE 8 (by decide)
  have e9 := hE 9 (by decide)
  have e10 := hE 10 (by decide)
  have e11 := hE 11 (by decide)
  have e12 := hE 12 (by decide)
  have e13 := hE 13 (by decide)
  have e14 := hE 14 (by decide)
  have e15 := hE 15 (by decide)
  have e16 := hE 16 (by decide)
  clear hE
  unfold errV at e0 e1 e2 e3 e4 e5 e6 e7 e8 e9 e10 e11 e12 e13 e14 e15 e16
  go_enter Tryd.func81, Tryd.ntmps81
  go_wp2_with fail
  go_ret
  refine ⟨rfl, by rw [World.cell?_alloc_mark]; rfl, bal w _⟩

theorem sentinel_end (p : Nat → Addr) (w : World) (hE : Errs 17 p w) (hw : 17 ≤ w.heap.size) : Calls Tryd.prog 74 #[errV p 4] w (IntOut w 101) := by
  have HS := Lib.hid (sentinels_any p w hE)
  have HA := Lib.hid fun (w' : World) => alike_same (p 4) w'
  unfold errV
  clear hE
  go_enter Tryd.func74, Tryd.ntmps74
  go_wp2_with fail
  refine HS.out.mono ?_
  rintro e w1 ⟨rfl, hc, hB⟩
  unfold errV at hc
  go_wp2_with fail
  go_loopw [4] (fun i wr => i = .int .i64 0 ∧ wr = w1) (fun i _ => 1 - (intOf i).toNat)
  case atStart => exact ⟨rfl, rfl⟩
  case round =>
    obtain ⟨rfl, rfl⟩ := hrel
    go_wp2_with fail
    refine (HA.out _).mono ?_
    rintro e w2 ⟨rfl, hB2⟩
    go_wp2_with fail
    go_ret
    exact ⟨rfl, hB.trans (hB2.mono hB.size)⟩

def faultV (z : Int) : Value := .agg #[.int .i64 z, .bool false, .int .i64 0, .int .i64 0, .int .i64 0, .string ⟨#[]⟩, .slice none 0 0]
def FaultOut (z : Int) (W : World) (e : Ending) (w' : World) : Prop := e = .returned (faultV z) ∧ Below W.heap.size W w'

theorem info48 : (Tryd.prog.info? 48).map (·.size) = some 7 := by kernel_rfl
section
variable {w w' : World} {g : Nat} {x0 x1 x2 x3 x4 x5 x6 : Value} {tmps : Array Value}
/-- block g holds a fault's seven cells -/
def FB (w : World) (g : Nat) (x0 x1 x2 x3 x4 x5 x6 : Value) : Prop := w.heap[g]? = some (.cells #[x0, x1, x2, x3, x4, x5, x6] 48 (0, 0))
theorem ret29 (ht : tmps.getD 2 undef = .pointer (some ⟨g, 0, none⟩)) (hv : FB w g x0 x1 x2 x3 x4 x5 x6) : (results Tryd.f29 tmps).run Tryd.prog w = .ok (.agg #[x0, x1, x2, x3, x4, x5, x6]) w :=
  results_cell_row (P := Tryd.prog) Tryd.results29 tmps w g 48 #[x0, x1, x2, x3, x4, x5, x6] (0, 0) _ ht hv Tryd.underlying48 rfl info48
theorem ret63 (ht : tmps.getD 2 undef = .pointer (some ⟨g, 0, none⟩)) (hv : FB w g x0 x1 x2 x3 x4 x5 x6) : (results Tryd.f63 tmps).run Tryd.prog w = .ok (.agg #[x0, x1, x2, x3, x4, x5, x6]) w :=
  results_cell_row (P := Tryd.prog) Tryd.results63 tmps w g 48 #[x0, x1, x2, x3, x4, x5, x6] (0, 0) _ ht hv Tryd.underlying48 rfl info48
theorem ret47 (ht : tmps.getD 2 undef = .pointer (some ⟨g, 0, none⟩)) (hv : FB w g x0 x1 x2 x3 x4 x5 x6) : (results Tryd.f47 tmps).run Tryd.prog w = .ok (.agg #[x0, x1, x2, x3, x4, x5, x6]) w :=
  results_cell_row (P := Tryd.prog) Tryd.results47 tmps w g 48 #[x0, x1, x2, x3, x4, x5, x6] (0, 0) _ ht hv Tryd.underlying48 rfl info48
theorem FB.all (h : FB w g x0 x1 x2 x3 x4 x5 x6) : w.cell? ⟨g, 0, none⟩ = some x0 ∧ w.cell? ⟨g, 1, none⟩ = some x1 ∧ w.cell? ⟨g, 2, none⟩ = some x2 ∧ w.cell? ⟨g, 3, none⟩ = some x3 ∧ w.cell? ⟨g, 4, none⟩ = some x4 ∧ w.cell? ⟨g, 5, none⟩ = some x5 ∧ w.cell? ⟨g, 6, none⟩ = some x6 ∧
    w.frozen? ⟨g, 0, none⟩ = false ∧ w.frozen? ⟨g, 1, none⟩ = false ∧ w.frozen? ⟨g, 2, none⟩ = false ∧ w.frozen? ⟨g, 3, none⟩ = false ∧ w.frozen? ⟨g, 4, none⟩ = false ∧ w.frozen? ⟨g, 5, none⟩ = false ∧ w.frozen? ⟨g, 6, none⟩ = false := by
  refine ⟨?_, ?_, ?_, ?_, ?_, ?_, ?_, ?_, ?_, ?_, ?_, ?_, ?_, ?_⟩ <;> first | (rw [Joins.cell_of_block h]; rfl) | exact Joins.unfrozen_of_block h _
theorem FB.lt (h : FB w g x0 x1 x2 x3 x4 x5 x6) : g < w.heap.size := (Array.getElem?_eq_some_iff.1 h).1
theorem FB.below {B : Nat} (h : FB w g x0 x1 x2 x3 x4 x5 x6) (hb : Below B w w') (hB : g < B) : FB w' g x0 x1 x2 x3 x4 x5 x6 := (hb.block g hB).trans h
theorem FB.new (w : World) (x0 x1 x2 x3 x4 x5 x6 : Value) : FB (w.alloc (.cells #[x0, x1, x2, x3, x4, x5, x6] 48)) w.heap.size x0 x1 x2 x3 x4 x5 x6 := heap_alloc_new w _
theorem FB.set_0 {y0 : Value} (h : FB w g x0 x1 x2 x3 x4 x5 x6) : FB (w.setCell ⟨g, 0, none⟩ y0) g y0 x1 x2 x3 x4 x5 x6 := by unfold FB; rw [Joins.block_setCell h]; rfl
theorem FB.set_1 {y0 y1 : Value} (h : FB w g y0 x1 x2 x3 x4 x5 x6) : FB (w.setCell ⟨g, 1, none⟩ y1) g y0 y1 x2 x3 x4 x5 x6 := by unfold FB; rw [Joins.block_setCell h]; rfl
theorem FB.set_2 {y0 y1 y2 : Value} (h : FB w g y0 y1 x2 x3 x4 x5 x6) : FB (w.setCell ⟨g, 2, none⟩ y2) g y0 y1 y2 x3 x4 x5 x6 := by unfold FB; rw [Joins.block_setCell h]; rfl
theorem FB.set_3 {y0 y1 y2 y3 : Value} (h : FB w g y0 y1 y2 x3 x4 x5 x6) : FB (w.setCell ⟨g, 3, none⟩ y3) g y0 y1 y2 y3 x4 x5 x6 := by unfold FB; rw [Joins.block_setCell h]; rfl
theorem FB.set_4 {y0 y1 y2 y3 y4 : Value} (h : FB w g y0 y1 y2 y3 x4 x5 x6) : FB (w.setCell ⟨g, 4, none⟩ y4) g y0 y1 y2 y3 y4 x5 x6 := by unfold FB; rw [Joins.block_setCell h]; rfl
theorem FB.set_5 {y0 y1 y2 y3 y4 y5 : Value} (h : FB w g y0 y1 y2 y3 y4 x5 x6) : FB (w.setCell ⟨g, 5, none⟩ y5) g y0 y1 y2 y3 y4 y5 x6 := by unfold FB; rw [Joins.block_setCell h]; rfl
theorem FB.set_6 {y0 y1 y2 y3 y4 y5 y6 : Value} (h : FB w g y0 y1 y2 y3 y4 y5 x6) : FB (w.setCell ⟨g, 6, none⟩ y6) g y0 y1 y2 y3 y4 y5 y6 := by unfold FB; rw [Joins.block_setCell h]; rfl
theorem FB.set (h : FB w g x0 x1 x2 x3 x4 x5 x6) (y0 y1 y2 y3 y4 y5 y6 : Value) :
    FB (((((((w.setCell ⟨g, 0, none⟩ y0).setCell ⟨g, 1, none⟩ y1).setCell ⟨g, 2, none⟩ y2).setCell ⟨g, 3, none⟩ y3).setCell ⟨g, 4, none⟩ y4).setCell ⟨g, 5, none⟩ y5).setCell ⟨g, 6, none⟩ y6) g y0 y1 y2 y3 y4 y5 y6 := h.set_0.set_1.set_2.set_3.set_4.set_5.set_6
theorem below_set7 {B : Nat} {w0 : World} (h : Below B w0 w) (hp : B ≤ g) (y0 y1 y2 y3 y4 y5 y6 : Value) :
    Below B w0 (((((((w.setCell ⟨g, 0, none⟩ y0).setCell ⟨g, 1, none⟩ y1).setCell ⟨g, 2, none⟩ y2).setCell ⟨g, 3, none⟩ y3).setCell ⟨g, 4, none⟩ y4).setCell ⟨g, 5, none⟩ y5).setCell ⟨g, 6, none⟩ y6) :=
  ((((((h.setCell (p := ⟨g, 0, none⟩) hp y0).setCell (p := ⟨g, 1, none⟩) hp y1).setCell (p := ⟨g, 2, none⟩) hp y2).setCell (p := ⟨g, 3, none⟩) hp y3).setCell (p := ⟨g, 4, none⟩) hp y4).setCell (p := ⟨g, 5, none⟩) hp y5).setCell (p := ⟨g, 6, none⟩) hp y6
end

theorem bare_any (z : Int) (w : World) : Calls Tryd.prog 29 #[.int .i64 z] w (FaultOut z w) := by
  go_enter Tryd.func29, Tryd.ntmps29
  go_wp2_with fail
  refine bodyPost_ret (ret29 rfl (heap_alloc_new w _)) rfl ⟨rfl, bal w _⟩

set_option maxRecDepth 100000 in
theorem inner_end (p : Nat → Addr) (w : World) (hE : Errs 17 p w) (hw : 17 ≤ w.heap.size) : Calls Tryd.prog 63 #[errV p 4] w (FaultOut 101 w) := by
  have HS := Lib.hid (sentinel_end p _ (hE.below (bal w (.cells #[.int .i64 0, .bool false, .int .i64 0, .int .i64 0, .int .i64 0, .string ⟨#[]⟩, .slice none 0 0] 48)) hw) (by simp; omega))
  have hv := FB.new w (.int .i64 0) (.bool false) (.int .i64 0) (.int .i64 0) (.int .i64 0) (.string ⟨#[]⟩) (.slice none 0 0)
  have HV := Lib.hid hv
  unfold errV at HS ⊢
  clear hE hv
  go_enter Tryd.func63, Tryd.ntmps63
  go_wp2_with fail
  refine HS.out.mono ?_
  rintro e w1 ⟨rfl, hB⟩
  go_wp2_with fail
  refine (bare_any 101 _).mono ?_
  rintro e w2 ⟨rfl, hB2⟩
  have hsz := hB.size
  simp only [World.size_alloc] at hsz hB
  have hv2 := (HV.out.below hB (by simp)).below hB2 (by omega)
  have hB3 : Below w.heap.size w w2 := (bal w _).trans ((hB.mono (by simp)).trans (hB2.mono (by omega)))
  have HV2 := Lib.hid hv2
  obtain ⟨c0, c1, c2, c3, c4, c5, c6, f0, f1, f2, f3, f4, f5, f6⟩ := hv2.all
  unfold faultV
  clear hv2 hB hB2
  go_wp2_with fail
  refine bodyPost_ret (ret63 rfl (HV2.out.set _ _ _ _ _ _ _)) rfl ⟨rfl, below_set7 hB3 (Nat.le_refl _) _ _ _ _ _ _ _⟩

set_option maxRecDepth 100000 in
theorem fault_end (p : Nat → Addr) (w : World) (hE : Errs 17 p w) (hw : 17 ≤ w.heap.size) : Calls Tryd.prog 47 #[errV p 4] w (FaultOut 101 w) := by
  have HS := Lib.hid (inner_end p _ (hE.below (bal w (.cells #[.int .i64 0, .bool false, .int .i64 0, .int .i64 0, .int .i64 0, .string ⟨#[]⟩, .slice none 0 0] 48)) hw) (by simp; omega))
  have hv := FB.new w (.int .i64 0) (.bool false) (.int .i64 0) (.int .i64 0) (.int .i64 0) (.string ⟨#[]⟩) (.slice none 0 0)
  have HV := Lib.hid hv
  unfold errV at HS ⊢
  clear hE hv
  go_enter Tryd.func47, Tryd.ntmps47
  go_wp2_with fail
  refine HS.out.mono ?_
  rintro e w2 ⟨rfl, hB⟩
  simp only [World.size_alloc] at hB
  have hv2 := HV.out.below hB (by simp)
  have hB3 : Below w.heap.size w w2 := (bal w _).trans (hB.mono (by simp))
  have HV2 := Lib.hid hv2
  obtain ⟨c0, c1, c2, c3, c4, c5, c6, f0, f1, f2, f3, f4, f5, f6⟩ := hv2.all
  unfold faultV
  clear hv2 hB
  go_wp2_with fail
  refine bodyPost_ret (ret47 rfl (HV2.out.set _ _ _ _ _ _ _)) rfl ⟨rfl, below_set7 hB3 (Nat.le_refl _) _ _ _ _ _ _ _⟩

set_option maxRecDepth 100000 in
theorem sameFault_same (z : Int) (hz1 : -9223372036854775808 ≤ z) (hz2 : z ≤ 9223372036854775807) (w : World) : Calls Tryd.prog 46 #[faultV z, faultV z] w (TrueOut w) := by
  have hv := (FB.new w (.int .i64 z) (.bool false) (.int .i64 0) (.int .i64 0) (.int .i64 0) (.string ⟨#[]⟩) (.slice none 0 0)).below (bal _ (.cells #[.int .i64 z, .bool false, .int .i64 0, .int .i64 0, .int .i64 0, .string ⟨#[]⟩, .slice none 0 0] 48)) (by simp)
  have hv' := FB.new (w.alloc (.cells #[.int .i64 z, .bool false, .int .i64 0, .int .i64 0, .int .i64 0, .string ⟨#[]⟩, .slice none 0 0] 48)) (.int .i64 z) (.bool false) (.int .i64 0) (.int .i64 0) (.int .i64 0) (.string ⟨#[]⟩) (.slice none 0 0)
  have HV := Lib.hid (And.intro hv hv')
  have HC := Lib.hid fun (w' : World) => (sameValue_same (SizeOf.sizeOf zeroVal)) zeroVal none none 0 0 w' (Nat.le_refl _) fits_zero (.inl rfl) (.inl rfl)
  simp only [World.size_alloc] at hv'
  obtain ⟨c0, c1, c2, c3, c4, c5, c6, -⟩ := hv.all
  obtain ⟨d0, d1, d2, d3, d4, d5, d6, -⟩ := hv'.all
  unfold faultV
  clear hv hv'
  go_enter Tryd.func46, Tryd.ntmps46
  go_wp2_with fail
  refine (HC.out _).mono ?_
  rintro e w2 ⟨rfl, hB⟩
  simp only [World.size_alloc] at hB
  have hv := HV.out.1.below hB (by first | omega | (simp; done) | (simp; omega))
  have hv' := HV.out.2.below hB (by simp)
  simp only [World.size_alloc] at hv'
  clear c0 c1 c2 c3 c4 c5 c6 d0 d1 d2 d3 d4 d5 d6
  obtain ⟨c0, c1, c2, c3, c4, c5, c6, -⟩ := hv.all
  obtain ⟨d0, d1, d2, d3, d4, d5, d6, -⟩ := hv'.all
  clear hv hv'
  go_wp2_with fail
  go_ret
  exact ⟨rfl, (bal w _).trans (((bal (w.alloc _) _).mono (by simp)).trans (hB.mono (by first | omega | (simp; done) | (simp; omega))))⟩

set_option maxRecDepth 100000 in
set_option maxHeartbeats 1000000 in
theorem is_end (p : Nat → Addr) (w : World) (hE : Errs 17 p w) (hw : 17 ≤ w.heap.size) : Calls Tryd.prog 14 #[errV p 4, .int .i64 101] w (TrueOut w) := by
  have HB := Lib.hid (bare_any 101 w)
  have HE := Lib.hid hE
  unfold errV
  clear hE
  go_enter Tryd.func14, Tryd.ntmps14
  go_wp2_with fail
  refine HB.out.mono ?_
  rintro e w1 ⟨rfl, hB⟩
  have hE1 := HE.out.below hB hw
  have hsz := hB.size
  have HC : Hid (Calls Tryd.prog 28 #[errV p 4, faultV 101] w1 (TrueOut w1)) := by
    show Calls _ _ _ _ _
    have hv := FB.new w1 (.int .i64 101) (.bool false) (.int .i64 0) (.int .i64 0) (.int .i64 0) (.string ⟨#[]⟩) (.slice none 0 0)
    have HF := Lib.hid fun (w' : World) (h : Since w1 w') => fault_end p w' (h.errs (by omega) hE1) (by have := h.1; omega)
    have HS := Lib.hid fun (w' : World) => sameFault_same 101 (by decide) (by decide) w'
    have HV := Lib.hid hv
    obtain ⟨c0, c1, c2, c3, c4, c5, c6, -⟩ := hv.all
    unfold errV at HF ⊢
    unfold faultV at HS ⊢
    clear hE1 hB HB HE hv
    go_enter Tryd.func28, Tryd.ntmps28
    go_wp2_with fail
    have hal := bal w1 (.cells #[.int .i64 101, .bool false, .int .i64 0, .int .i64 0, .int .i64 0, .string ⟨#[]⟩, .slice none 0 0] 48)
    have hgl : w1.heap.size < (w1.alloc (.cells #[.int .i64 101, .bool false, .int .i64 0, .int .i64 0, .int .i64 0, .string ⟨#[]⟩, .slice none 0 0] 48)).heap.size := by simp
    generalize w1.alloc (.cells #[.int .i64 101, .bool false, .int .i64 0, .int .i64 0, .int .i64 0, .string ⟨#[]⟩, .slice none 0 0] 48) = w3 at hal hgl HV c0 c1 c2 c3 c4 c5 c6
    have HAL := Lib.hid hal
    clear hal
    go_region_law (first
      | (go_simp; go_at_call 47; go_loud (refine (HF.out _ (by exact ⟨HAL.out.size, HAL.out.block⟩)).mono ?_; rintro e w4 ⟨rfl, hB4⟩; have t4 : Below w3.heap.size w3 w4 := ⟨hB4.os, hB4.tape, hB4.output, hB4.size, hB4.block⟩; obtain ⟨k0, k1, k2, k3, k4, k5, k6, -⟩ := (HV.out.below t4 hgl).all; unfold faultV))
      | (go_simp; go_at_call 46; go_loud (refine (HS.out _).mono ?_; rintro e w5 ⟨rfl, hB5⟩)))
    all_goals go_wp2
    all_goals go_ret
    all_goals
      have hf := HAL.out.trans ((t4.mono (by omega)).trans (Below.mono ⟨hB5.os, hB5.tape, hB5.output, hB5.size, hB5.block⟩ (by have := t4.size; omega)))
      exact ⟨rfl, ⟨hf.os, hf.tape, hf.output, hf.size, hf.block⟩⟩
  unfold errV at HC
  unfold faultV at HC ⊢
  clear hE1
  go_wp2_with fail
  refine HC.out.mono ?_
  rintro e w2 ⟨rfl, hB2⟩
  go_wp2
  go_ret
  exact ⟨rfl, hB.trans (hB2.mono hsz)⟩
end Go.Proofs.YtmkghfkikclodaaDoor
