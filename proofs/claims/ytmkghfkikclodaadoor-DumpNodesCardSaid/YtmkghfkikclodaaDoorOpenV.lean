/- A value that came in; DumpValues with what its row gives. -/
import Derived.Test.YtmkghfkikclodaaDoorM30
set_option linter.unusedVariables false
set_option linter.unusedSimpArgs false
namespace Go.Proofs.YtmkghfkikclodaaDoor
open Go.ChangeShapes Go.WideShapes Go.ChangeAt Go.RowKit
set_option linter.unusedVariables false

theorem choose_list {α : Type} {P : Nat → α → Prop} : ∀ (n : Nat), (∀ i, i < n → ∃ y, P i y) → ∃ l : List α, l.length = n ∧ ∀ (i : Nat) (h : i < l.length), P i l[i]
  | 0, _ => ⟨[], rfl, fun i h => by simp at h⟩
  | n + 1, h => by
    obtain ⟨l, hl, hp⟩ := choose_list n (fun i hi => h i (by omega))
    obtain ⟨y, hy⟩ := h n (by omega)
    refine ⟨l ++ [y], by simp [hl], fun i hi => ?_⟩
    by_cases hin : i < l.length
    · rw [List.getElem_append_left hin]; exact hp i hin
    · have : i = l.length := by simp at hi; omega
      subst this
      rw [List.getElem_append_right (Nat.le_refl _)]
      simpa [hl] using hy

theorem fits_of (k m : Int) (s : ByteArray) (len : Nat) (h0 : -9223372036854775808 ≤ k ∧ k ≤ 9223372036854775807) (h1 : -9223372036854775808 ≤ m ∧ m ≤ 9223372036854775807) (h2 : s.size ≤ 9223372036854775807) (h3 : len ≤ 9223372036854775807) : Fits k m s len :=
  ⟨h0.1, h0.2, h1.1, h1.2, h2, h3⟩
theorem cells24 : Tryd.prog.cellsOf 24 = 4 := by kernel_rfl
theorem cells3 : Tryd.prog.cellsOf 3 = 1 := by kernel_rfl
theorem cells2 : Tryd.prog.cellsOf 2 = 1 := by kernel_rfl
theorem cells22 : Tryd.prog.cellsOf 22 = 1 := by kernel_rfl

set_option maxRecDepth 100000 in
theorem open_val {H : Type} {enc : TypeId × Value → H} {W : World} : ∀ (fuel : Nat) (cs : List Value) (x : DataW H × List MemPlace), DataW.trod enc Tryd.prog W 0 (fun _ => true) true fuel 24 cs = some x →
    ∃ (y : Val) (a : Option Addr) (c : Nat), cs = [.int .i64 y.kind, .int .i64 y.n, .string y.s, .slice a y.l.length c] ∧ Fits y.kind y.n y.s y.l.length ∧ RepSl (Lo W.heap.size) W a y.l := by
  intro fuel
  induction fuel using Nat.strongRecOn with
  | _ fuel ih =>
    intro cs x h
    obtain ⟨xs, n, hn, hx, hl, hxl, hf⟩ := DataW.trod_struct Tryd.underlying24 h
    rw [cells24] at hl
    match cs, hl with
    | [v0, v1, v2, v3], _ =>
      match xs, hxl with
      | [y0, y1, y2, y3], _ =>
        have g0 := hf 0 _ rfl
        have g1 := hf 1 _ rfl
        have g2 := hf 2 _ rfl
        have g3 := hf 3 _ rfl
        simp [cells3, cells2, cells9, cells22] at g0 g1 g2 g3
        obtain ⟨k, e0, -, k0⟩ := DataW.trod_int Tryd.underlying3 g0
        obtain ⟨m, e1, -, k1⟩ := DataW.trod_int Tryd.underlying2 g1
        obtain ⟨s, e2, -, k2⟩ := DataW.trod_string Tryd.underlying9 g2
        simp only [List.cons.injEq, and_true] at e0 e1 e2
        subst e0 e1 e2
        simp [Lit.wf, IntKind.min, IntKind.max, IntKind.signed, IntKind.bits] at k0 k1
        unfold maxLen at k2
        rcases DataW.trod_slice Tryd.underlying22 g3 with ⟨e3, -⟩ | ⟨a, len, cap, elems, rest, n', hn', e3, -, -, hlc, hm, hlen, hel, -, -⟩
        · simp only [List.cons.injEq, and_true] at e3
          subst e3
          exact ⟨.mk k m s [], none, 0, rfl, fits_of k m s _ k0 k1 k2 (Nat.zero_le _), .inl rfl⟩
        · simp only [List.cons.injEq, and_true] at e3
          subst e3
          unfold maxLen at hm
          have hsp0 : 0 < len → a.spot = none := by
            intro h0
            have h1 := hel 0 h0
            rw [cells24, List.getElem?_eq_getElem (by omega)] at h1
            obtain ⟨cs', h2, h3⟩ := Option.bind_eq_some_iff.1 h1
            obtain ⟨_, hl', hcell⟩ := World.cells?_some h2
            have c0 := hcell 0 (by omega)
            rw [List.getElem?_eq_getElem (by omega)] at c0
            simpa [Addr.add] using World.cell?_spot c0
          have each : ∀ i, i < len → ∃ y : Val, RepAt (Lo W.heap.size) W a.block (a.off + i * 4) y ∧ a.block < W.heap.size := by
            intro i hi
            have h1 := hel i hi
            rw [cells24, List.getElem?_eq_getElem (by omega)] at h1
            obtain ⟨cs', h2, h3⟩ := Option.bind_eq_some_iff.1 h1
            obtain ⟨y, a', c', rfl, hfy, hr⟩ := ih n' (by omega) cs' _ h3
            obtain ⟨_, _, hcell⟩ := World.cells?_some h2
            have c0 := hcell 0 (by omega)
            have c1 := hcell 1 (by omega)
            have c2 := hcell 2 (by omega)
            have c3 := hcell 3 (by omega)
            simp only [List.getElem?_cons_zero, List.getElem?_cons_succ, Addr.add_add] at c0 c1 c2 c3
            obtain ⟨b, off, spot⟩ := a
            have hspot : spot = none := hsp0 (by omega)
            subst hspot
            simp only [add_plain] at c0 c1 c2 c3
            exact ⟨y, repAt_iff.2 ⟨hfy, a', c', c0, c1, c2, c3, hr⟩, by have := cell_lt c0; exact this⟩
          obtain ⟨l, hll, hlp⟩ := choose_list len each
          refine ⟨.mk k m s l, some a, cap, by rw [← hll]; rfl, fits_of k m s l.length k0 k1 k2 (by omega), ?_⟩
          by_cases h0 : len = 0
          · left; show l = []; exact List.eq_nil_of_length_eq_zero (by omega)
          · right
            obtain ⟨_, hb⟩ := hlp 0 (by omega)
            have hsp := hsp0 (by omega)
            obtain ⟨b, off, spot⟩ := a
            simp only at hsp
            subst hsp
            exact ⟨b, off, rfl, hb, repRow_of fun i hi => (hlp i hi).1⟩

set_option maxRecDepth 100000 in
/-- a slice without an array is nil -/
theorem open_nil {H : Type} {enc : TypeId × Value → H} {W : World} {base : Nat} {v : Value} {d : DataW H} {q : List MemPlace} (hok : Value.okWide Tryd.prog W .any base 25 v)
    (h : DataW.Trod enc Tryd.prog W 0 (fun _ => true) true 25 v d q) : ∀ n c, v = .slice none n c → v = .slice none 0 0 := by
  obtain ⟨a0, len, cap, rfl⟩ := okWide_slice Tryd.underlying25 hok
  obtain ⟨fuel, h⟩ := h
  intro n c he
  rcases open_ints Tryd.underlying25 Tryd.underlying5 cells5 h with ⟨h1, _⟩ | ⟨a, len', cap', zs, h1, _⟩
  · simpa [Value.cells] using h1
  · simp [Value.cells] at h1
    rw [h1.1] at he
    simp at he

theorem errs_values {W : World} (h : laidMetH Tryd.prog Rows.dumpValuesRow.laid W) : 17 ≤ W.heap.size ∧ ∃ p, Errs 17 p W := by
  rw [MakeChecks.laidMetH_plain _ _ _ (by kernel_rfl)] at h
  obtain ⟨a4, h4⟩ := sent (g := 4) h (by kernel_rfl) (by kernel_rfl)
  obtain ⟨a6, h6⟩ := sent (g := 6) h.tail (by kernel_rfl) (by kernel_rfl)
  obtain ⟨a2, h2⟩ := sent (g := 2) h.tail.tail (by kernel_rfl) (by kernel_rfl)
  obtain ⟨a1, h1⟩ := sent (g := 1) h.tail.tail.tail (by kernel_rfl) (by kernel_rfl)
  obtain ⟨a3, h3⟩ := sent (g := 3) h.tail.tail.tail.tail (by kernel_rfl) (by kernel_rfl)
  obtain ⟨a5, h5⟩ := sent (g := 5) h.tail.tail.tail.tail.tail (by kernel_rfl) (by kernel_rfl)
  obtain ⟨a7, h7⟩ := sent (g := 7) h.tail.tail.tail.tail.tail.tail (by kernel_rfl) (by kernel_rfl)
  obtain ⟨a8, h8⟩ := sent (g := 8) h.tail.tail.tail.tail.tail.tail.tail (by kernel_rfl) (by kernel_rfl)
  obtain ⟨a9, h9⟩ := sent (g := 9) h.tail.tail.tail.tail.tail.tail.tail.tail (by kernel_rfl) (by kernel_rfl)
  obtain ⟨a10, h10⟩ := sent (g := 10) h.tail.tail.tail.tail.tail.tail.tail.tail.tail (by kernel_rfl) (by kernel_rfl)
  obtain ⟨a11, h11⟩ := sent (g := 11) h.tail.tail.tail.tail.tail.tail.tail.tail.tail.tail (by kernel_rfl) (by kernel_rfl)
  obtain ⟨a0, h0⟩ := sent (g := 0) h.tail.tail.tail.tail.tail.tail.tail.tail.tail.tail.tail (by kernel_rfl) (by kernel_rfl)
  obtain ⟨a12, h12⟩ := sent (g := 12) h.tail.tail.tail.tail.tail.tail.tail.tail.tail.tail.tail.tail (by kernel_rfl) (by kernel_rfl)
  obtain ⟨a13, h13⟩ := sent (g := 13) h.tail.tail.tail.tail.tail.tail.tail.tail.tail.tail.tail.tail.tail (by kernel_rfl) (by kernel_rfl)
  obtain ⟨a14, h14⟩ := sent (g := 14) h.tail.tail.tail.tail.tail.tail.tail.tail.tail.tail.tail.tail.tail.tail (by kernel_rfl) (by kernel_rfl)
  obtain ⟨a15, h15⟩ := sent (g := 15) h.tail.tail.tail.tail.tail.tail.tail.tail.tail.tail.tail.tail.tail.tail.tail (by kernel_rfl) (by kernel_rfl)
  obtain ⟨a16, h16⟩ := sent (g := 16) h.tail.tail.tail.tail.tail.tail.tail.tail.tail.tail.tail.tail.tail.tail.tail.tail (by kernel_rfl) (by kernel_rfl)
  refine ⟨cell_lt h16, fun g => [a0, a1, a2, a3, a4, a5, a6, a7, a8, a9, a10, a11, a12, a13, a14, a15, a16].getD g a0, fun g hg => ?_⟩
  have hc : g = 0 ∨ g = 1 ∨ g = 2 ∨ g = 3 ∨ g = 4 ∨ g = 5 ∨ g = 6 ∨ g = 7 ∨ g = 8 ∨ g = 9 ∨ g = 10 ∨ g = 11 ∨ g = 12 ∨ g = 13 ∨ g = 14 ∨ g = 15 ∨ g = 16 := by omega
  rcases hc with rfl | rfl | rfl | rfl | rfl | rfl | rfl | rfl | rfl | rfl | rfl | rfl | rfl | rfl | rfl | rfl | rfl <;> assumption

set_option maxRecDepth 100000 in
theorem open_val24 {H : Type} {enc : TypeId × Value → H} {W : World} {base : Nat} {v : Value} {d : DataW H} {q : List MemPlace} (hok : Value.okWide Tryd.prog W .any base 24 v) (h : DataW.Trod enc Tryd.prog W 0 (fun _ => true) true 24 v d q) :
    ∃ (y : Val) (a : Option Addr) (c : Nat), v = .agg #[.int .i64 y.kind, .int .i64 y.n, .string y.s, .slice a y.l.length c] ∧ Fits y.kind y.n y.s y.l.length ∧ RepSl (Lo W.heap.size) W a y.l := by
  obtain ⟨cs, rfl, hsz⟩ := okWide_struct Tryd.underlying24 hok
  obtain ⟨fuel, hf⟩ := h
  obtain ⟨y, a, c, he, h1, h2⟩ := open_val fuel _ _ hf
  have hlen : cs.size = 4 := hsz.trans cells24
  refine ⟨y, a, c, ?_, h1, h2⟩
  have he' : cs.toList = [.int .i64 y.kind, .int .i64 y.n, .string y.s, .slice a y.l.length c] := by simpa [Value.cells] using he
  congr 1
  exact Array.toList_inj.1 he'

set_option maxRecDepth 100000 in
theorem dumpValues_row {H : Type} {enc : TypeId × Value → H} {base : Nat} (v : Value) (d : DataW H) (q : List MemPlace) (v' : Value) (d' : DataW H) (q' : List MemPlace) (cut : Int) (w : World) (hok : Value.okWide Tryd.prog w .any base 24 v)
    (hk : DataW.Trod enc Tryd.prog w 0 (fun _ => true) true 24 v d q) (hok' : Value.okWide Tryd.prog w .any base 25 v') (hk' : DataW.Trod enc Tryd.prog w 0 (fun _ => true) true 25 v' d' q') (hc : (Lit.int .i64 cut).wf = true)
    (hL : laidMetH Tryd.prog Rows.dumpValuesRow.laid w) : Calls Tryd.prog 3 #[v, v', .int .i64 cut] w (BoolOut w true) := by
  obtain ⟨x, a, c, rfl, hf, hr⟩ := open_val24 hok hk
  have hn := open_nil hok' hk'
  obtain ⟨a', bs, c', rfl, hlen, hbs⟩ := open_bytes hok' hk'
  obtain ⟨hw, p, hE⟩ := errs_values hL
  simp [Lit.wf, IntKind.min, IntKind.max, IntKind.signed, IntKind.bits] at hc
  exact dumpValues_walk p w x a c _ bs cut hw hE hf hr hbs hn (by unfold maxLen at hlen; exact hlen) hc.1 hc.2
end Go.Proofs.YtmkghfkikclodaaDoor
