/- What a row gives: bytes that came in, the listed error variables. -/
import Derived.Test.YtmkghfkikclodaaDoorAnyW
import Derived.ChangeOld
import Derived.ShutString
import Derived.Below
import Derived.LaidMore
import Derived.Stop.LaidErr
import Derived.Stop.Joined
namespace Go.Proofs.YtmkghfkikclodaaDoor
open Go.ChangeShapes Go.WideShapes Go.ChangeAt Go.RowKit
set_option linter.unusedVariables false

theorem cells145 : Tryd.prog.cellsOf 145 = 1 := by kernel_rfl
theorem cells9 : Tryd.prog.cellsOf 9 = 1 := by kernel_rfl
theorem cells5 : Tryd.prog.cellsOf 5 = 1 := by kernel_rfl
theorem star : "*" ++ "errors.errorString" = "*errors.errorString" := by decide
theorem row128 (u : TypeId) (h : Tryd.prog.typeName? 3 u = some "*errors.errorString") : u = 128 :=
  typeName_ptr_named (nm := "errors.errorString") (by rw [star]; kernel_rfl) (by kernel_rfl) (by decide) u (by rw [star]; exact h)

theorem sent {n : String} {text : List UInt8} {r : List (String × DataW Unit)} {W : World} {g : Nat} (h : laidMet Tryd.prog ((n, .iface "*errors.errorString" (.ptr (.agg [.lit (.string text)]))) :: r) W)
    (hg : Tryd.prog.globalNamed n = some g) (ht : (Tryd.prog.globals[g]?).map (·.type) = some 30) : ∃ a : Addr, W.cell? ⟨g, 0, none⟩ = some (.iface 128 (.pointer (some a))) := by
  obtain ⟨a0, s0, hv0, -, -, -⟩ := laid_sentinel h hg ht Tryd.underlying30 row128 Tryd.underlying128 Tryd.underlying145 rfl rfl Tryd.underlying9 cells145 cells9
  exact ⟨a0, by have h0 := World.var?_cell hg hv0 0; simpa using h0⟩

theorem errs5 {W : World} {a0 a1 a2 a3 a4 : Addr} (h0 : W.cell? ⟨0, 0, none⟩ = some (.iface 128 (.pointer (some a0)))) (h1 : W.cell? ⟨1, 0, none⟩ = some (.iface 128 (.pointer (some a1))))
    (h2 : W.cell? ⟨2, 0, none⟩ = some (.iface 128 (.pointer (some a2)))) (h3 : W.cell? ⟨3, 0, none⟩ = some (.iface 128 (.pointer (some a3)))) (h4 : W.cell? ⟨4, 0, none⟩ = some (.iface 128 (.pointer (some a4)))) :
    Errs 5 (fun g => if g = 0 then a0 else if g = 1 then a1 else if g = 2 then a2 else if g = 3 then a3 else a4) W := by
  intro g hg
  rcases (show g = 0 ∨ g = 1 ∨ g = 2 ∨ g = 3 ∨ g = 4 by omega) with rfl | rfl | rfl | rfl | rfl <;> assumption

theorem errs_any {W : World} (h : laidMetH Tryd.prog Rows.dumpAnyRow.laid W) : 5 ≤ W.heap.size ∧ ∃ p, Errs 5 p W := by
  rw [MakeChecks.laidMetH_plain _ _ _ (by kernel_rfl)] at h
  obtain ⟨a4, h4⟩ := sent (g := 4) h (by kernel_rfl) (by kernel_rfl)
  obtain ⟨a2, h2⟩ := sent (g := 2) h.tail (by kernel_rfl) (by kernel_rfl)
  obtain ⟨a1, h1⟩ := sent (g := 1) h.tail.tail (by kernel_rfl) (by kernel_rfl)
  obtain ⟨a3, h3⟩ := sent (g := 3) h.tail.tail.tail (by kernel_rfl) (by kernel_rfl)
  obtain ⟨a0, h0⟩ := sent (g := 0) h.tail.tail.tail.tail (by kernel_rfl) (by kernel_rfl)
  exact ⟨cell_lt h4, _, errs5 h0 h1 h2 h3 h4⟩

set_option maxRecDepth 100000 in
/-- a slice of bytes that came in -/
theorem open_bytes {H : Type} {enc : TypeId × Value → H} {W : World} {base : Nat} {v : Value} {d : DataW H} {q : List MemPlace} (hok : Value.okWide Tryd.prog W .any base 25 v)
    (h : DataW.Trod enc Tryd.prog W 0 (fun _ => true) true 25 v d q) : ∃ a bs c, v = .slice a (List.length bs) c ∧ bs.length ≤ maxLen ∧ Bs W.heap.size W v bs := by
  obtain ⟨a0, len, cap, rfl⟩ := okWide_slice Tryd.underlying25 hok
  obtain ⟨fuel, h⟩ := h
  rcases open_ints Tryd.underlying25 Tryd.underlying5 cells5 h with ⟨h1, _⟩ | ⟨a, len', cap', zs, h1, _, h2, h3, h4, _, h5, h6⟩
  · simp [Value.cells] at h1
    obtain ⟨rfl, rfl, rfl⟩ := h1
    exact ⟨none, [], 0, rfl, Nat.zero_le _, none, 0, rfl, Nat.le_refl _, .inl rfl⟩
  · simp [Value.cells] at h1
    obtain ⟨rfl, rfl, rfl⟩ := h1
    have h4 : zs.length = cap := by simpa using h4
    have hlen : ((zs.take len).map fun z => UInt8.ofNat z.toNat).length = len := by simp; omega
    refine ⟨some a, (zs.take len).map fun z => UInt8.ofNat z.toNat, cap, by rw [hlen], by rw [hlen]; omega, some a, cap, by rw [hlen], by omega, ?_⟩
    by_cases h0 : len = 0
    · left; subst h0; rfl
    · right
      refine ⟨a, rfl, ?_, fun j hj => ?_⟩
      · have := cell_lt (h5 0 (by omega))
        rwa [add_block] at this
      · have hj' : j < len := by omega
        have e : zs.getD j 0 = zs[j] := by simp [List.getD, show j < zs.length by omega]
        rw [h5 j (by omega), e]
        have hz := h6 zs[j] (List.getElem_mem _)
        simp only [List.getElem_map, List.getElem_take]
        simp [Lit.wf, IntKind.min, IntKind.max, IntKind.signed, IntKind.bits] at hz
        unfold byteV
        simp
        omega

set_option maxRecDepth 100000 in
theorem dumpAny_row {H : Type} {enc : TypeId × Value → H} {base : Nat} (v : Value) (d : DataW H) (q : List MemPlace) (w : World) (hok : Value.okWide Tryd.prog w .any base 25 v)
    (hk : DataW.Trod enc Tryd.prog w 0 (fun _ => true) true 25 v d q) (hL : laidMetH Tryd.prog Rows.dumpAnyRow.laid w) : Calls Tryd.prog 4 #[v] w (BoolOut w true) := by
  obtain ⟨a, bs, c, rfl, hlen, hbs⟩ := open_bytes hok hk
  obtain ⟨hw, p, hE⟩ := errs_any hL
  exact dumpAny_walk p w a c bs hw hE (by unfold maxLen at hlen; exact hlen) hbs
end Go.Proofs.YtmkghfkikclodaaDoor
