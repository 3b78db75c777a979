/- A program that came in; DumpNodes with what its row gives. -/
import Derived.Test.YtmkghfkikclodaaDoorNodesW
import Derived.Test.YtmkghfkikclodaaDoorOpenV
set_option linter.unusedVariables false
set_option linter.unusedSimpArgs false
namespace Go.Proofs.YtmkghfkikclodaaDoor
open Go.ChangeShapes Go.WideShapes Go.ChangeAt Go.RowKit
set_option linter.unusedVariables false

theorem cells63 : Tryd.prog.cellsOf 63 = 8 := by kernel_rfl
theorem cells40 : Tryd.prog.cellsOf 40 = 1 := by kernel_rfl

/-- the cells of a node -/
def NodeC (W : World) (cs : List Value) : Prop := ∃ (y : Nd) (a : Option Addr) (c : Nat) (a' : Option Addr) (c' : Nat),
  cs = [.int .i64 y.op, .int .i64 y.line, .string y.s, .int .i64 y.v.kind, .int .i64 y.v.n, .string y.v.s, .slice a y.v.l.length c, .slice a' y.l.length c'] ∧ Fits y.op y.line y.s y.l.length ∧ Fits y.v.kind y.v.n y.v.s y.v.l.length ∧ RepSl (Lo W.heap.size) W a y.v.l ∧ RepNSl (Lo W.heap.size) W a' y.l
/-- the cell of a row of nodes -/
def NodesC (W : World) (cs : List Value) : Prop := ∃ (l : List Nd) (a : Option Addr) (c : Nat), cs = [.slice a l.length c] ∧ l.length ≤ 9223372036854775807 ∧ RepNSl (Lo W.heap.size) W a l

set_option maxRecDepth 100000 in
set_option maxHeartbeats 1000000 in
theorem open_node {H : Type} {enc : TypeId × Value → H} {W : World} : ∀ (fuel : Nat),
    (∀ (cs : List Value) (x : DataW H × List MemPlace), DataW.trod enc Tryd.prog W 0 (fun _ => true) true fuel 63 cs = some x → NodeC W cs) ∧
    (∀ (cs : List Value) (x : DataW H × List MemPlace), DataW.trod enc Tryd.prog W 0 (fun _ => true) true fuel 40 cs = some x → NodesC W cs) := by
  intro fuel
  induction fuel using Nat.strongRecOn with
  | _ fuel ih =>
    refine ⟨?_, ?_⟩
    · intro cs x h
      obtain ⟨xs, n, hn, hx, hl, hxl, hf⟩ := DataW.trod_struct Tryd.underlying63 h
      rw [cells63] at hl
      match cs, hl with
      | [v0, v1, v2, v3, v4, v5, v6, v7], _ =>
        match xs, hxl with
        | [y0, y1, y2, y3, y4], _ =>
          have g0 := hf 0 _ rfl
          have g1 := hf 1 _ rfl
          have g2 := hf 2 _ rfl
          have g3 := hf 3 _ rfl
          have g4 := hf 4 _ rfl
          simp [cells3, cells9, cells24, cells40] at g0 g1 g2 g3 g4
          obtain ⟨k, e0, -, k0⟩ := DataW.trod_int Tryd.underlying3 g0
          obtain ⟨m, e1, -, k1⟩ := DataW.trod_int Tryd.underlying3 g1
          obtain ⟨s, e2, -, k2⟩ := DataW.trod_string Tryd.underlying9 g2
          obtain ⟨y, a, c, e3, hfy, hry⟩ := open_val _ _ _ g3
          obtain ⟨l, a', c', e4, hll, hrl⟩ := (ih n (by omega)).2 _ _ g4
          simp only [List.cons.injEq, and_true] at e0 e1 e2 e3 e4
          obtain ⟨e3, e5, e6, e7⟩ := e3
          subst e0 e1 e2 e3 e4 e5 e6 e7
          simp [Lit.wf, IntKind.min, IntKind.max, IntKind.signed, IntKind.bits] at k0 k1
          unfold maxLen at k2
          exact ⟨.mk k m s y l, a, c, a', c', rfl, fits_of k m s l.length k0 k1 k2 hll, hfy, hry, hrl⟩
    · intro cs x h
      rcases DataW.trod_slice Tryd.underlying40 h with ⟨e3, -⟩ | ⟨a, len, cap, elems, rest, n', hn', e3, -, -, hlc, hm, hlen, hel, -, -⟩
      · exact ⟨[], none, 0, e3, Nat.zero_le _, .inl rfl⟩
      · unfold maxLen at hm
        have hsp0 : 0 < len → a.spot = none := by
          intro h0
          have h1 := hel 0 h0
          rw [cells63, List.getElem?_eq_getElem (by omega)] at h1
          obtain ⟨cs', h2, h3⟩ := Option.bind_eq_some_iff.1 h1
          obtain ⟨_, hl', hcell⟩ := World.cells?_some h2
          have c0 := hcell 0 (by omega)
          rw [List.getElem?_eq_getElem (by omega)] at c0
          simpa [Addr.add] using World.cell?_spot c0
        have each : ∀ i, i < len → ∃ y : Nd, RepNAt (Lo W.heap.size) W a.block (a.off + i * 8) y ∧ a.block < W.heap.size := by
          intro i hi
          have h1 := hel i hi
          rw [cells63, List.getElem?_eq_getElem (by omega)] at h1
          obtain ⟨cs', h2, h3⟩ := Option.bind_eq_some_iff.1 h1
          obtain ⟨y, a1, c1, a2, c2, rfl, hfy, hfv, hr, hrn⟩ := (ih n' (by omega)).1 cs' _ h3
          obtain ⟨_, _, hcell⟩ := World.cells?_some h2
          have q0 := hcell 0 (by omega)
          have q1 := hcell 1 (by omega)
          have q2 := hcell 2 (by omega)
          have q3 := hcell 3 (by omega)
          have q4 := hcell 4 (by omega)
          have q5 := hcell 5 (by omega)
          have q6 := hcell 6 (by omega)
          have q7 := hcell 7 (by omega)
          simp only [List.getElem?_cons_zero, List.getElem?_cons_succ, Addr.add_add] at q0 q1 q2 q3 q4 q5 q6 q7
          obtain ⟨b, off, spot⟩ := a
          have hspot : spot = none := hsp0 (by omega)
          subst hspot
          simp only [add_plain] at q0 q1 q2 q3 q4 q5 q6 q7
          exact ⟨y, repNAt_iff.2 ⟨hfy, hfv, a1, c1, a2, c2, q0, q1, q2, q3, q4, q5, q6, q7, hr, hrn⟩, by have := cell_lt q0; exact this⟩
        obtain ⟨l, hll, hlp⟩ := choose_list len each
        refine ⟨l, some a, cap, by rw [hll]; exact e3, by omega, ?_⟩
        by_cases h0 : len = 0
        · left; exact List.eq_nil_of_length_eq_zero (by omega)
        · right
          obtain ⟨_, hb⟩ := hlp 0 (by omega)
          have hsp := hsp0 (by omega)
          obtain ⟨b, off, spot⟩ := a
          simp only at hsp
          subst hsp
          exact ⟨b, off, rfl, hb, repNRow_of fun i hi => (hlp i hi).1⟩

set_option maxRecDepth 100000 in
theorem open_nodes {H : Type} {enc : TypeId × Value → H} {W : World} {base : Nat} {v : Value} {d : DataW H} {q : List MemPlace} (hok : Value.okWide Tryd.prog W .any base 40 v) (h : DataW.Trod enc Tryd.prog W 0 (fun _ => true) true 40 v d q) :
    ∃ (l : List Nd) (a : Option Addr) (c : Nat), v = .slice a l.length c ∧ l.length ≤ 9223372036854775807 ∧ RepNSl (Lo W.heap.size) W a l := by
  obtain ⟨a0, len, cap, rfl⟩ := okWide_slice Tryd.underlying40 hok
  obtain ⟨fuel, h⟩ := h
  obtain ⟨l, a, c, he, hl, hr⟩ := (open_node fuel).2 _ _ h
  refine ⟨l, a, c, ?_, hl, hr⟩
  simpa [Value.cells] using he

theorem errs_nodes {W : World} (h : laidMetH Tryd.prog Rows.dumpNodesRow.laid W) : 6 ≤ W.heap.size ∧ ∃ p, Errs 6 p W := by
  rw [MakeChecks.laidMetH_plain _ _ _ (by kernel_rfl)] at h
  obtain ⟨a4, h4⟩ := sent (g := 4) h (by kernel_rfl) (by kernel_rfl)
  obtain ⟨a2, h2⟩ := sent (g := 2) h.tail (by kernel_rfl) (by kernel_rfl)
  obtain ⟨a1, h1⟩ := sent (g := 1) h.tail.tail (by kernel_rfl) (by kernel_rfl)
  obtain ⟨a3, h3⟩ := sent (g := 3) h.tail.tail.tail (by kernel_rfl) (by kernel_rfl)
  obtain ⟨a5, h5⟩ := sent (g := 5) h.tail.tail.tail.tail (by kernel_rfl) (by kernel_rfl)
  obtain ⟨a0, h0⟩ := sent (g := 0) h.tail.tail.tail.tail.tail (by kernel_rfl) (by kernel_rfl)
  refine ⟨cell_lt h5, fun g => [a0, a1, a2, a3, a4, a5].getD g a0, fun g hg => ?_⟩
  have hc : g = 0 ∨ g = 1 ∨ g = 2 ∨ g = 3 ∨ g = 4 ∨ g = 5 := by omega
  rcases hc with rfl | rfl | rfl | rfl | rfl | rfl <;> assumption

set_option maxRecDepth 100000 in
theorem dumpNodes_row {H : Type} {enc : TypeId × Value → H} {base : Nat} (v : Value) (d : DataW H) (q : List MemPlace) (v' : Value) (d' : DataW H) (q' : List MemPlace) (v'' : Value) (d'' : DataW H) (q'' : List MemPlace) (cut : Int) (w : World)
    (hok : Value.okWide Tryd.prog w .any base 40 v) (hk : DataW.Trod enc Tryd.prog w 0 (fun _ => true) true 40 v d q) (hok' : Value.okWide Tryd.prog w .any base 25 v') (hk' : DataW.Trod enc Tryd.prog w 0 (fun _ => true) true 25 v' d' q')
    (hok'' : Value.okWide Tryd.prog w .any base 25 v'') (hk'' : DataW.Trod enc Tryd.prog w 0 (fun _ => true) true 25 v'' d'' q'') (hc : (Lit.int .i64 cut).wf = true)
    (hL : laidMetH Tryd.prog Rows.dumpNodesRow.laid w) : Calls Tryd.prog 5 #[v, v', v'', .int .i64 cut] w (BoolOut w true) := by
  obtain ⟨l, a, c, rfl, hl, hr⟩ := open_nodes hok hk
  have hn := open_nil hok' hk'
  obtain ⟨a', bs, c', rfl, hlen, hbs⟩ := open_bytes hok' hk'
  obtain ⟨a2, bs2, c2, rfl, hlen2, hbs2⟩ := open_bytes hok'' hk''
  obtain ⟨hw, p, hE⟩ := errs_nodes hL
  simp [Lit.wf, IntKind.min, IntKind.max, IntKind.signed, IntKind.bits] at hc
  exact dumpNodes_walk p w l a c _ _ bs bs2 cut hw hE hl hr hbs hn (by unfold maxLen at hlen; omega) hbs2 (by unfold maxLen at hlen2; omega) hc.1 hc.2
end Go.Proofs.YtmkghfkikclodaaDoor
