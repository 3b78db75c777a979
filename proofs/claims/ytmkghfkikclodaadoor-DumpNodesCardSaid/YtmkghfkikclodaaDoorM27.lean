/- The reader reads nodes: the model; how nodes that are being read lie in memory. The reader reads nodes: the walk. -/
import Derived.Test.YtmkghfkikclodaaDoorM06
import Derived.Test.YtmkghfkikclodaaDoorM19
import Derived.Deep.AppendLies
set_option linter.unusedVariables false
set_option linter.unusedSimpArgs false
namespace Go.Proofs.YtmkghfkikclodaaDoor
open Go.RowKit

/-- so many nodes, one by one; f reads what a node has -/
def nloop (bs : List UInt8) (f : Nat → Rd → List Nd × Nat × Rd) : Nat → Nat → Rd → List Nd × Nat × Rd
  | 0, left, r => ([], left, r)
  | n + 1, left, r =>
    if r.2.isSome then ([], left, r)
    else match numM bs 1 r with
      | (op, r1) => match intM bs r1 with
        | (line, r2) => match textM bs 32 r2 with
          | (s, r3) => match readV bs 40 r3 with
            | (v, r4) => match f (left - 1) r4 with
              | (l, left', r5) => match nloop bs f n left' r5 with
                | (xs, left'', r6) => (.mk op line s v l :: xs, left'', r6)

def nread (bs : List UInt8) : Nat → Nat → Rd → List Nd × Nat × Rd
  | 0, left, r => ([], left, r.fail 0)
  | room + 1, left, r => nloop bs (nread bs room) (manyM bs left r).1 left (manyM bs left r).2

/-- Below block B the world is as it was, but for the blocks b and c. -/
structure Bel2 (b c B : Nat) (w w' : World) : Prop where
  os : w'.os = w.os
  tape : w'.tape = w.tape
  output : w'.output = w.output
  size : w.heap.size ≤ w'.heap.size
  block : ∀ k, k < B → k ≠ b → k ≠ c → w'.heap[k]? = w.heap[k]?

section
variable {b c B : Nat} {u v w w' : World}
theorem Bel2.refl (b c B : Nat) (w : World) : Bel2 b c B w w := ⟨rfl, rfl, rfl, Nat.le_refl _, fun _ _ _ _ => rfl⟩
theorem Bel2.trans (h : Bel2 b c B u v) (k : Bel2 b c B v w) : Bel2 b c B u w :=
  ⟨k.os.trans h.os, k.tape.trans h.tape, k.output.trans h.output, Nat.le_trans h.size k.size, fun i hi hb hc => (k.block i hi hb hc).trans (h.block i hi hb hc)⟩
theorem Bel2.mono {B' : Nat} (h : Bel2 b c B w w') (hb : B' ≤ B) : Bel2 b c B' w w' := ⟨h.os, h.tape, h.output, h.size, fun k hk hn hm => h.block k (by omega) hn hm⟩
theorem Bel2.of (h : Bel b B w w') : Bel2 b c B w w' := ⟨h.os, h.tape, h.output, h.size, fun k hk hn _ => h.block k hk hn⟩
theorem Bel2.ofB (h : Below B w w') : Bel2 b c B w w' := ⟨h.os, h.tape, h.output, h.size, fun k hk _ _ => h.block k hk⟩
theorem Bel2.setc (h : Bel2 b c B w w') (j : Nat) (x : Value) : Bel2 b c B w (w'.setCell ⟨c, j, none⟩ x) :=
  h.trans ⟨rfl, rfl, rfl, by simp [World.setCell], fun k _ _ hn => Go.Deep.blk_setCell_other _ _ _ _ hn⟩
theorem Bel2.above (h : Bel2 b c B w w') {g j : Nat} (hg : B ≤ g) (x : Value) : Bel2 b c B w (w'.setCell ⟨g, j, none⟩ x) :=
  h.trans (Bel2.ofB ((Below.refl _ _).setCell (p := ⟨g, j, none⟩) hg x))
theorem Bel2.alloc (h : Bel2 b c B w w') (hB : B ≤ w'.heap.size) (o : Obj) : Bel2 b c B w (w'.alloc o) := h.trans (Bel2.ofB ((Below.refl _ _).alloc hB o))
theorem Bel2.below {B' : Nat} (h : Bel2 b c B w w') (hb : B' ≤ b) (hc : B' ≤ c) (hB : B' ≤ B) : Below B' w w' := ⟨h.os, h.tape, h.output, h.size, fun k hk => h.block k (by omega) (by omega) (by omega)⟩
theorem Errs.bel2 {N : Nat} {p : Nat → Addr} (h : Errs N p w) (hb : Bel2 b c B w w') (hB : N ≤ B) (h1 : N ≤ b) (h2 : N ≤ c) : Errs N p w' := h.below (hb.below h1 h2 hB) (Nat.le_refl _)
theorem Bs.bel2 {B0 : Nat} {bv : Value} {bs : List UInt8} (h : Bs B0 w bv bs) (hb : Bel2 b c B w w') (hB : B0 ≤ B) (h1 : B0 ≤ b) (h2 : B0 ≤ c) : Bs B0 w' bv bs :=
  h.bel (b := B0) (B := B0) (Bel.of (hb.below h1 h2 hB)) (Nat.le_refl _) (Nat.le_refl _)
theorem RdAt.bel2 {p : Nat → Addr} {g pos : Nat} {bv : Value} {err : Option Nat} (h : RdAt p w g bv pos err) (hb : Bel2 b c B w w') (hB : g < B) (h1 : g ≠ b) (h2 : g ≠ c) : RdAt p w' g bv pos err := (hb.block g hB h1 h2).trans h
theorem NB.bel {z : Int} {g : Nat} (h : NB w g z) (hb : Bel b B w w') (hB : g < B) (h1 : g ≠ b) : NB w' g z := (hb.block g hB h1).trans h
theorem NB.other {z : Int} {g g' j : Nat} (h : NB w g z) (hn : g ≠ g') (x : Value) : NB (w.setCell ⟨g', j, none⟩ x) g z := (Go.Deep.blk_setCell_other _ _ _ _ hn).trans h
theorem setSize (g j : Nat) (x : Value) : (w.setCell ⟨g, j, none⟩ x).heap.size = w.heap.size := by simp [World.setCell]
end

section
variable {w w' : World} {g b B : Nat} {x0 x1 x2 x3 x4 x5 x6 x7 : Value}
theorem NV.bel (h : NV w g x0 x1 x2 x3 x4 x5 x6 x7) (hb : Bel b B w w') (hB : g < B) (hn : g ≠ b) : NV w' g x0 x1 x2 x3 x4 x5 x6 x7 := (hb.block g hB hn).trans h
theorem NV.bel2 {c : Nat} (h : NV w g x0 x1 x2 x3 x4 x5 x6 x7) (hb : Bel2 b c B w w') (hB : g < B) (hn : g ≠ b) (hm : g ≠ c) : NV w' g x0 x1 x2 x3 x4 x5 x6 x7 := (hb.block g hB hn hm).trans h
theorem NV.set1 (h : NV w g x0 x1 x2 x3 x4 x5 x6 x7) (y : Value) : NV (w.setCell ⟨g, 1, none⟩ y) g x0 y x2 x3 x4 x5 x6 x7 := by unfold NV; rw [Joins.block_setCell h]; rfl
theorem NV.set2 (h : NV w g x0 x1 x2 x3 x4 x5 x6 x7) (y : Value) : NV (w.setCell ⟨g, 2, none⟩ y) g x0 x1 y x3 x4 x5 x6 x7 := by unfold NV; rw [Joins.block_setCell h]; rfl
theorem NV.set3 (h : NV w g x0 x1 x2 x3 x4 x5 x6 x7) (y : Value) : NV (w.setCell ⟨g, 3, none⟩ y) g x0 x1 x2 y x4 x5 x6 x7 := by unfold NV; rw [Joins.block_setCell h]; rfl
theorem NV.set4 (h : NV w g x0 x1 x2 x3 x4 x5 x6 x7) (y : Value) : NV (w.setCell ⟨g, 4, none⟩ y) g x0 x1 x2 x3 y x5 x6 x7 := by unfold NV; rw [Joins.block_setCell h]; rfl
theorem NV.set5 (h : NV w g x0 x1 x2 x3 x4 x5 x6 x7) (y : Value) : NV (w.setCell ⟨g, 5, none⟩ y) g x0 x1 x2 x3 x4 y x6 x7 := by unfold NV; rw [Joins.block_setCell h]; rfl
theorem NV.set6 (h : NV w g x0 x1 x2 x3 x4 x5 x6 x7) (y : Value) : NV (w.setCell ⟨g, 6, none⟩ y) g x0 x1 x2 x3 x4 x5 y x7 := by unfold NV; rw [Joins.block_setCell h]; rfl
theorem NV.set7 (h : NV w g x0 x1 x2 x3 x4 x5 x6 x7) (y : Value) : NV (w.setCell ⟨g, 7, none⟩ y) g x0 x1 x2 x3 x4 x5 x6 y := by unfold NV; rw [Joins.block_setCell h]; rfl
end

/-! ### a row of nodes that grows -/
/-- the cells cs are the nodes xs, one behind the other -/
def ItemsN (S : Nat → Prop) (w : World) : List Nd → List Value → Prop
  | [], cs => cs = []
  | x :: xs, cs => ∃ a c a' c' rest, cs = [Value.int .i64 x.op, .int .i64 x.line, .string x.s, .int .i64 x.v.kind, .int .i64 x.v.n, .string x.v.s, .slice a x.v.l.length c, .slice a' x.l.length c'] ++ rest ∧
      Fits x.op x.line x.s x.l.length ∧ Fits x.v.kind x.v.n x.v.s x.v.l.length ∧ RepSl S w a x.v.l ∧ RepNSl S w a' x.l ∧ ItemsN S w xs rest

theorem ItemsN.keep {S T : Nat → Prop} {w w' : World} (hw : ∀ k, S k → w'.heap[k]? = w.heap[k]?) (hT : ∀ k, S k → T k) : ∀ {xs : List Nd} {cs : List Value}, ItemsN S w xs cs → ItemsN T w' xs cs
  | [], _, h => h
  | x :: xs, cs, h => by
    obtain ⟨a, c, a', c', rest, rfl, hf, hfv, hs, hsn, hr⟩ := h
    exact ⟨a, c, a', c', rest, rfl, hf, hfv, hs.keep hw hT, hsn.keep hw hT, ItemsN.keep hw hT hr⟩

theorem ItemsN.snoc {S : Nat → Prop} {w : World} {x : Nd} {a a' : Option Addr} {c c' : Nat} (hf : Fits x.op x.line x.s x.l.length) (hfv : Fits x.v.kind x.v.n x.v.s x.v.l.length) (hs : RepSl S w a x.v.l) (hsn : RepNSl S w a' x.l) :
    ∀ {xs : List Nd} {cs : List Value}, ItemsN S w xs cs →
    ItemsN S w (xs ++ [x]) (cs ++ [Value.int .i64 x.op, .int .i64 x.line, .string x.s, .int .i64 x.v.kind, .int .i64 x.v.n, .string x.v.s, .slice a x.v.l.length c, .slice a' x.l.length c'])
  | [], _, h => by
    cases h
    exact ⟨a, c, a', c', [], rfl, hf, hfv, hs, hsn, rfl⟩
  | y :: xs, cs, h => by
    obtain ⟨q1, q2, q3, q4, rest, rfl, hf', hfv', hs', hsn', hr⟩ := h
    exact ⟨q1, q2, q3, q4, _, rfl, hf', hfv', hs', hsn', ItemsN.snoc hf hfv hs hsn hr⟩

theorem ItemsN.row {S : Nat → Prop} {w : World} {g : Nat} : ∀ {xs : List Nd} {cs : List Value} (o : Nat), ItemsN S w xs cs → (∀ (j : Nat) (u : Value), cs[j]? = some u → w.cell? ⟨g, o + j, none⟩ = some u) → RepNRow S w g o xs
  | [], _, _, _, _ => trivial
  | x :: xs, cs, o, h, hc => by
    obtain ⟨a, c, a', c', rest, rfl, hf, hfv, hs, hsn, hr⟩ := h
    refine ⟨repNAt_iff.2 ⟨hf, hfv, a, c, a', c', hc 0 _ rfl, hc 1 _ rfl, hc 2 _ rfl, hc 3 _ rfl, hc 4 _ rfl, hc 5 _ rfl, hc 6 _ rfl, hc 7 _ rfl, hs, hsn⟩, ItemsN.row (o + 8) hr fun j u hu => ?_⟩
    have := hc (8 + j) u (by rw [List.getElem?_append_right (by simp)]; simpa using hu)
    rw [show o + (8 + j) = o + 8 + j by omega] at this
    exact this

/-- blocks from W on, made so far, but for the row's own -/
def NestN (W : Nat) (w : World) (sv : Value) (k : Nat) : Prop := W ≤ k ∧ k < w.heap.size ∧ sv.ownBlock ≠ some k

/-- where nodes' reading stands: the nodes xs are in the row sv -/
def LStN (p : Nat → Addr) (b bl : Nat) (bv : Value) (W : World) (sv : Value) (xs : List Nd) (left : Nat) (r : Rd) (wr : World) : Prop :=
  RdAt p wr b bv r.1 r.2 ∧ NB wr bl left ∧ Bel2 b bl W.heap.size W wr ∧ ∃ cells, wr.ownsRow W.heap.size 63 8 sv xs.length cells ∧ ItemsN (NestN W.heap.size wr sv) wr xs cells

theorem lstN_step {p : Nat → Addr} {b bl : Nat} {bv : Value} {W wr w6 w7 : World} {xs : List Nd} {left' : Nat} {r' : Rd} {x : Nd} {a a' : Option Addr} {c c' g cap : Nat} {sv : Value} {cells : List Value}
    (hb : b < W.heap.size) (hbl : bl < W.heap.size) (hB : Bel2 b bl W.heap.size W wr) (hrow : wr.ownsRow W.heap.size 63 8 sv xs.length cells) (hit : ItemsN (NestN W.heap.size wr sv) wr xs cells)
    (hf : Fits x.op x.line x.s x.l.length) (hfv : Fits x.v.kind x.v.n x.v.s x.v.l.length) (hx : RepSl (New wr.heap.size w6.heap.size) w6 a x.v.l) (hxn : RepNSl (New wr.heap.size w6.heap.size) w6 a' x.l)
    (hr : RdAt p w6 b bv r'.1 r'.2) (hl : NB w6 bl left') (hB2 : Bel2 b bl wr.heap.size wr w6)
    (o : Obj) (hown : w7.ownsRow W.heap.size 63 8 (.slice (some ⟨g, 0, none⟩) (xs.length + 1) cap) (xs.length + 1) (cells ++ [Value.int .i64 x.op, .int .i64 x.line, .string x.s, .int .i64 x.v.kind, .int .i64 x.v.n, .string x.v.s, .slice a x.v.l.length c, .slice a' x.l.length c']))
    (hg : (w6.alloc o).grownBy w7 sv.ownBlock) (hat : sv.ownBlock = some g ∨ g = w6.heap.size + 1) (hlt : g < w7.heap.size) :
    LStN p b bl bv W (.slice (some ⟨g, 0, none⟩) (xs.length + 1) cap) (xs ++ [x]) left' r' w7 := by
  have hsz := hB.size
  have hsz2 := hB2.size
  have hsz3 : (w6.alloc o).heap.size = w6.heap.size + 1 := by simp
  have hsz4 := hg.size
  have hsvb : ∀ k, sv.ownBlock = some k → W.heap.size ≤ k ∧ k < wr.heap.size := fun k hk => World.ownsRow.lt hrow k hk
  have keep2 : ∀ k, k < w6.heap.size → sv.ownBlock ≠ some k → w7.heap[k]? = w6.heap[k]? := fun k h1 h3 => by
    rw [hg.block k (by omega) (fun e => h3 e.symm), (bal w6 o).block k (by omega)]
  have keep : ∀ k, k < wr.heap.size → k ≠ b → k ≠ bl → sv.ownBlock ≠ some k → w7.heap[k]? = wr.heap[k]? := fun k h1 h2 h2' h3 => by
    rw [keep2 k (by omega) h3, hB2.block k h1 h2 h2']
  have hsv_b : ∀ k, k < W.heap.size → sv.ownBlock ≠ some k := fun k hk e => by have := hsvb k e; omega
  refine ⟨?_, ?_, ?_, _, (by rw [List.length_append]; exact hown), ?_⟩
  · show _ = _
    rw [keep2 b (by omega) (hsv_b b hb)]
    exact hr
  · show _ = _
    rw [keep2 bl (by omega) (hsv_b bl hbl)]
    exact hl
  · refine ⟨hg.os.trans (hB2.os.trans hB.os), hg.tape.trans (hB2.tape.trans hB.tape), hg.output.trans (hB2.output.trans hB.output), by omega, fun k hk h1 h2 => ?_⟩
    rw [keep k (by omega) h1 h2 (hsv_b k hk), hB.block k hk h1 h2]
  · have hnest : ∀ k, NestN W.heap.size wr sv k → NestN W.heap.size w7 (.slice (some ⟨g, 0, none⟩) (xs.length + 1) cap) k := fun k ⟨h1, h2, h3⟩ => by
      refine ⟨h1, by omega, fun e => ?_⟩
      have e : g = k := by simpa [Value.ownBlock] using e
      subst e
      rcases hat with h | h
      · exact h3 h
      · omega
    have hn2 : ∀ k, New wr.heap.size w6.heap.size k → w7.heap[k]? = w6.heap[k]? ∧ NestN W.heap.size w7 (.slice (some ⟨g, 0, none⟩) (xs.length + 1) cap) k := fun k ⟨h1, h2⟩ => by
      refine ⟨keep2 k h2 (fun e => by have := hsvb k e; omega), by omega, by omega, fun e => ?_⟩
      have e : g = k := by simpa [Value.ownBlock] using e
      subst e
      rcases hat with h | h
      · have := hsvb g h; omega
      · omega
    refine ItemsN.snoc hf hfv (hx.keep (fun k hk => (hn2 k hk).1) (fun k hk => (hn2 k hk).2)) (hxn.keep (fun k hk => (hn2 k hk).1) (fun k hk => (hn2 k hk).2)) (hit.keep ?_ hnest)
    rintro k ⟨h1, h2, h3⟩
    exact keep k h2 (by omega) (by omega) h3

theorem lstN_done {W : Nat} {wr : World} {xs : List Nd} {sv : Value} {cells : List Value} (hrow : wr.ownsRow W 63 8 sv xs.length cells) (hit : ItemsN (NestN W wr sv) wr xs cells) :
    ∃ a c, sv = .slice a xs.length c ∧ RepNSl (New W wr.heap.size) wr a xs := by
  by_cases hn : xs.length = 0
  · obtain ⟨a, c, rfl⟩ := hrow.shape
    exact ⟨a, c, rfl, .inl (List.eq_nil_of_length_eq_zero hn)⟩
  · obtain ⟨g, cap, rfl, hg1, hg2⟩ := hrow.form (by omega)
    refine ⟨_, _, rfl, .inr ⟨g, 0, rfl, ⟨hg1, hg2⟩, ItemsN.row 0 (hit.keep (fun _ _ => rfl) (fun k h => ⟨h.1, h.2.1⟩)) fun j u hu => ?_⟩⟩
    have := hrow.cells (g := g) rfl j u hu
    rw [show (⟨g, 0 + j, none⟩ : Addr) = (⟨g, 0, none⟩ : Addr).add j by unfold Addr.add; split <;> simp_all]
    exact this

theorem info63 : (Tryd.prog.info? 63).map (fun i => (i.zero, i.size, i.bytes)) = some (some (.agg #[.int .i64 0, .int .i64 0, .string ⟨#[]⟩, .int .i64 0, .int .i64 0, .string ⟨#[]⟩, .slice none 0 0, .slice none 0 0]), 8, 112) := by kernel_rfl

/-! ### how far it goes -/
theorem Read.pos {bs : List UInt8} {r r' : Rd} {L : List UInt8} (h : Read bs r r' L) (hr : r.1 ≤ bs.length) : r'.1 = r.1 + L.length := by
  have h1 := congrArg List.length h.2.2.2
  rw [List.length_append, List.length_take, List.length_take, Nat.min_eq_left h.2.2.1, Nat.min_eq_left hr] at h1
  exact h1

def InvN (bs : List UInt8) (left : Nat) (r : Rd) : Prop := left ≤ 4096 ∧ r.1 ≤ bs.length ∧ (r.2 = Option.none → 57344 ≤ r.1 + 14 * left)

/-- a node's own fields -/
theorem node_inv (bs : List UInt8) (left : Nat) (r : Rd) (hlen : bs.length ≤ 50000) (h : InvN bs left r) (hn : r.2 = Option.none) : 1 ≤ left ∧
    InvN bs (left - 1) (readV bs 40 (textM bs 32 (intM bs (numM bs 1 r).2).2).2).2 := by
  obtain ⟨h1, h2, h3⟩ := h
  have h4 := h3 hn
  have p1 := numM_pos bs 1 r h2
  have p2 : (intM bs (numM bs 1 r).2).2.1 ≤ bs.length := numM_pos bs 8 _ p1
  have p3 := (textM_pos bs 32 _ p2).1
  have p4 := readV_pos bs 40 _ p3
  refine ⟨by omega, by omega, p4, fun hz => ?_⟩
  obtain ⟨r4, _⟩ := readV_read bs 40 _ p3 hz
  obtain ⟨r3, _⟩ := textM_read bs 32 _ p2 r4.1
  have r2 := intM_read bs _ r3.1
  obtain ⟨r1, _⟩ := numM_read bs 1 r r2.1
  have q1 := r1.pos h2
  have q2 := r2.pos p1
  have q3 := r3.pos p2
  have q4 := r4.pos p3
  have hb := bytesV_pos (readV bs 40 (textM bs 32 (intM bs (numM bs 1 r).2).2).2).1
  rw [leB_length] at q1 q2
  rw [List.length_append, leB_length] at q3
  omega

theorem nloop_inv (bs : List UInt8) (hlen : bs.length ≤ 50000) (f : Nat → Rd → List Nd × Nat × Rd) (hf : ∀ left r, InvN bs left r → InvN bs (f left r).2.1 (f left r).2.2) :
    ∀ (n left : Nat) (r : Rd), InvN bs left r → InvN bs (nloop bs f n left r).2.1 (nloop bs f n left r).2.2 ∧ (nloop bs f n left r).1.length ≤ n
  | 0, left, r, h => ⟨h, Nat.le_refl _⟩
  | n + 1, left, r, h => by
    unfold nloop
    by_cases hs : r.2.isSome = true
    · rw [if_pos hs]; exact ⟨h, Nat.zero_le _⟩
    · rw [if_neg hs]
      have hn : r.2 = Option.none := by simpa using hs
      obtain ⟨_, hi⟩ := node_inv bs left r hlen h hn
      simp only
      have h5 := hf _ _ hi
      have h6 := nloop_inv bs hlen f hf n _ _ h5
      exact ⟨h6.1, by simp; exact h6.2⟩

theorem manyM_inv (bs : List UInt8) (most left : Nat) (r : Rd) (h : InvN bs left r) : InvN bs left (manyM bs most r).2 := by
  obtain ⟨h1, h2, h3⟩ := h
  have p1 := (manyM_pos bs most r h2).1
  refine ⟨h1, p1, fun hz => ?_⟩
  obtain ⟨r1, _⟩ := manyM_read bs most r hz
  have q1 := r1.pos h2
  have := h3 r1.1
  rw [leB_length] at q1
  omega

theorem nread_inv (bs : List UInt8) (hlen : bs.length ≤ 50000) : ∀ (room left : Nat) (r : Rd), InvN bs left r → InvN bs (nread bs room left r).2.1 (nread bs room left r).2.2 ∧ (nread bs room left r).1.length ≤ left
  | 0, left, r, h => by
    obtain ⟨h1, h2, h3⟩ := h
    refine ⟨⟨h1, h2, fun hz => ?_⟩, Nat.zero_le _⟩
    obtain ⟨a, b⟩ := r
    cases b <;> simp [nread, Rd.fail] at hz
  | room + 1, left, r, h => by
    have hp := (manyM_pos bs left r h.2.1).2
    have := nloop_inv bs hlen (nread bs room) (fun left r h => (nread_inv bs hlen room left r h).1) (manyM bs left r).1 left (manyM bs left r).2 (manyM_inv bs left left r h)
    exact ⟨this.1, Nat.le_trans this.2 hp⟩
end Go.Proofs.YtmkghfkikclodaaDoor
namespace Go.Proofs.YtmkghfkikclodaaDoor
open Go.RowKit

/-- within a round: the node's block g, the reader, what is left -/
structure NSt (p : Nat → Addr) (b bl : Nat) (bv : Value) (wr : World) (g z : Nat) (x0 x1 x2 x3 x4 x5 x6 x7 : Value) (r : Rd) (w : World) : Prop where
  rd : RdAt p w b bv r.1 r.2
  nb : NB w bl z
  bel : Bel2 b bl wr.heap.size wr w
  nv : NV w g x0 x1 x2 x3 x4 x5 x6 x7
  lo : wr.heap.size ≤ g
  hb : b < wr.heap.size
  hbl : bl < wr.heap.size
  ne : b ≠ bl

section
variable {p : Nat → Addr} {b bl g z : Nat} {bv : Value} {wr w w' : World} {x0 x1 x2 x3 x4 x5 x6 x7 : Value} {r r' : Rd}
theorem NSt.call (h : NSt p b bl bv wr g z x0 x1 x2 x3 x4 x5 x6 x7 r w) (hr : RdAt p w' b bv r'.1 r'.2) (hB : Bel b w.heap.size w w') : NSt p b bl bv wr g z x0 x1 x2 x3 x4 x5 x6 x7 r' w' :=
  have h1 := h.hb
  have h2 := h.hbl
  have h3 := h.lo
  have h4 := h.bel.size
  ⟨hr, h.nb.bel hB (by omega) (fun e => h.ne e.symm), h.bel.trans (Bel2.of (hB.mono h4)), h.nv.bel hB h.nv.lt (by omega), h.lo, h.hb, h.hbl, h.ne⟩
theorem NSt.call2 {z' : Nat} (h : NSt p b bl bv wr g z x0 x1 x2 x3 x4 x5 x6 x7 r w) (hr : RdAt p w' b bv r'.1 r'.2) (hn : NB w' bl z') (hB : Bel2 b bl w.heap.size w w') : NSt p b bl bv wr g z' x0 x1 x2 x3 x4 x5 x6 x7 r' w' :=
  have h1 := h.hb
  have h2 := h.hbl
  have h3 := h.lo
  have h4 := h.bel.size
  ⟨hr, hn, h.bel.trans (hB.mono h4), h.nv.bel2 hB h.nv.lt (by omega) (by omega), h.lo, h.hb, h.hbl, h.ne⟩
theorem NSt.set {j : Nat} {y : Value} (h : NSt p b bl bv wr g z x0 x1 x2 x3 x4 x5 x6 x7 r w) {y0 y1 y2 y3 y4 y5 y6 y7 : Value} (hv : NV (w.setCell ⟨g, j, none⟩ y) g y0 y1 y2 y3 y4 y5 y6 y7) : NSt p b bl bv wr g z y0 y1 y2 y3 y4 y5 y6 y7 r (w.setCell ⟨g, j, none⟩ y) :=
  have h1 := h.hb
  have h2 := h.hbl
  have h3 := h.lo
  ⟨h.rd.other (by omega) _, h.nb.other (by omega) _, h.bel.above h3 _, hv, h.lo, h.hb, h.hbl, h.ne⟩
end

def NPost (p : Nat → Addr) (b bl : Nat) (bv : Value) (W : World) (q : List Nd × Nat × Rd) (e : Ending) (w' : World) : Prop :=
  ∃ a c, e = .returned (.slice a q.1.length c) ∧ RepNSl (New W.heap.size w'.heap.size) w' a q.1 ∧ RdAt p w' b bv q.2.2.1 q.2.2.2 ∧ NB w' bl q.2.1 ∧ Bel2 b bl W.heap.size W w'

theorem numM_lt1 (bs : List UInt8) (r : Rd) : (numM bs 1 r).1 < 256 := by
  unfold numM
  split
  · show (0 : Nat) < _; decide
  · exact leN_lt bs r.1 1

/-- one more node at the end of a row of nodes -/
theorem append_node {ops : Array Oper} {rest : List Oper} {o : Oper} {a : Act} {w : World} {Q : Exit → Act → World → Prop} (hgd : o.guard = none) (s x : Tmp)
    (ho : o.op = .call { callee := .builtin .append, args := #[.tmp s, .tmp x], argTypes := #[40, 40] }) (base : Nat) (v : Value) (n : Nat) (xs : List Value) (hs : a.eval (.tmp s) = v) (hown : w.ownsRow base 63 8 v n xs)
    (B : Nat) (hx : a.eval (.tmp x) = .slice (some ⟨B, 0, none⟩) 1 1) (y0 y1 : Int) (y2 : ByteArray) (y3 y4 : Int) (y5 : ByteArray) (ya : Option Addr) (yl yc : Nat) (za : Option Addr) (zl zc : Nat) (t : TypeId)
    (hb : w.heap[B]? = some (.cells #[.int .i64 y0, .int .i64 y1, .string y2, .int .i64 y3, .int .i64 y4, .string y5, .slice ya yl yc, .slice za zl zc] t (0, 0)))
    (hn : n ≤ 1000000) (hbase : base ≤ w.heap.size) (H : Nat) (hH : w.heap.size = H)
    (h : ∀ g cap w', w'.ownsRow base 63 8 (.slice (some ⟨g, 0, none⟩) (n + 1) cap) (n + 1) (xs ++ [.int .i64 y0, .int .i64 y1, .string y2, .int .i64 y3, .int .i64 y4, .string y5, .slice ya yl yc, .slice za zl zc]) → w.grownBy w' v.ownBlock →
      (v.ownBlock = some g ∨ g = H) → g < w'.heap.size → wpList Tryd.prog ops Q rest (a.put o.dst (.slice (some ⟨g, 0, none⟩) (n + 1) cap)) w') : wpList Tryd.prog ops Q (o :: rest) a w := by
  obtain ⟨i, hi, hz0, hz1, hz2⟩ := info_parts info63
  refine wpList_append_lies (P := Tryd.prog) w hgd (.tmp s) (.tmp x) 40 ho base 63 i _ 8 112 Tryd.underlying40 hi hz0 hz1 hz2 rfl (by decide) v n xs hs hown ⟨B, 0, none⟩ 1 1
    [.int .i64 y0, .int .i64 y1, .string y2, .int .i64 y3, .int .i64 y4, .string y5, .slice ya yl yc, .slice za zl zc] hx rfl ?_ ?_ (by decide) (by simp only [maxLen]; omega) (by omega) hbase H hH h
  · intro j u hu
    exact World.news_of_block hb j u hu
  · intro u hu
    simp only [List.mem_cons, List.not_mem_nil, or_false] at hu
    rcases hu with rfl | rfl | rfl | rfl | rfl | rfl | rfl | rfl <;> rfl

set_option maxRecDepth 100000 in
set_option maxHeartbeats 4000000 in
theorem nread_any (p : Nat → Addr) (B0 b bl : Nat) (bs : List UInt8) (bv : Value) (hB0 : B0 ≤ b) (hB1 : B0 ≤ bl) (hb5 : 5 ≤ b) (hbl5 : 5 ≤ bl) (hne : b ≠ bl) (hlen : bs.length ≤ 50000) (room : Nat) :
    ∀ (w : World) (r : Rd) (left deep : Nat), deep + room = 42 → RdAt p w b bv r.1 r.2 → NB w bl left → Bs B0 w bv bs → Errs 5 p w → InvN bs left r →
    Calls Tryd.prog 50 #[.pointer (some ⟨b, 0, none⟩), .int .i64 deep, .pointer (some ⟨bl, 0, none⟩)] w (NPost p b bl bv w (nread bs room left r)) := by
  induction room with
  | zero =>
    intro w r left deep hd h hnb hbs hE hinv
    have hdeep : (41 : Int) < (deep : Int) := by omega
    have HF := Lib.hid (fail_any p w b bv r.1 r.2 0 h)
    have hq : nread bs 0 left r = ([], left, r.fail 0) := rfl
    rw [hq]
    have HNB := Lib.hid hnb
    have hb := hnb.lt
    have e0 := hE 0 (by decide)
    simp only [errV] at e0 HF
    clear h hbs hE hinv hnb hq
    go_enter Tryd.func50, Tryd.ntmps50
    go_wp2_with fail
    refine HF.out.mono ?_
    rintro e w1 ⟨rfl, hr, hB⟩
    have HR := Lib.hid hr
    clear hr
    go_wp2
    go_ret
    exact ⟨none, 0, rfl, .inl rfl, HR.out, HNB.out.bel hB hb (by omega), Bel2.of hB⟩
  | succ room ih =>
    intro w r left deep hd h hnb hbs hE hinv
    have hdeep : (deep : Int) ≤ 41 := by omega
    have hdeep0 : (0 : Int) ≤ (deep : Int) := by omega
    have hb := h.lt
    have hbl := hnb.lt
    have IH := Lib.hid ih
    clear ih
    have hleft : left ≤ 4096 := hinv.1
    have HM := Lib.hid (many_any p B0 w b bv bs r left (by omega) h hbs hB0 hE hb5 hinv.2.1 (by omega))
    have hmp := manyM_pos bs left r hinv.2.1
    have hmi := manyM_inv bs left left r hinv
    have cn := hnb.c
    generalize hQ : nread bs (room + 1) left r = Q
    rw [nread] at hQ
    generalize manyM bs left r = q0 at HM hmp hmi hQ
    obtain ⟨n0, r0⟩ := q0
    simp only at HM hmp hmi hQ
    have HQ := Lib.hid hQ
    have HFI := Lib.hid fun (left : Nat) (r : Rd) (h : InvN bs left r) => nread_inv bs hlen room left r h
    have IH2 := Lib.hid fun (w' : World) (r' : Rd) (left : Nat) (hr : RdAt p w' b bv r'.1 r'.2) (hn : NB w' bl left) (hbs : Bs B0 w' bv bs) (hE : Errs 5 p w') (hi : InvN bs left r') => IH.out w' r' left (deep + 1) (by omega) hr hn hbs hE hi
    have hds : ((deep + 1 : Nat) : Int) = (deep : Int) + 1 := by omega
    rw [hds] at IH2
    generalize nread bs room = f at HQ HFI IH2
    have HA := Lib.hid (And.intro hnb (And.intro hbs hE))
    have HMP := Lib.hid hmp.2
    have HMI := Lib.hid hmi
    clear hds hQ h hnb hbs hE hinv hmp hmi IH
    go_enter Tryd.func50, Tryd.ntmps50
    go_wp2_with fail
    refine HM.out.mono ?_
    rintro e w1 ⟨rfl, hr1, hB1⟩
    have hst1 : LStN p b bl bv w (.slice none 0 0) [] left r0 w1 := ⟨hr1, HA.out.1.bel hB1 hbl (fun e => hne e.symm), Bel2.of hB1, [], World.ownsRow_nil _ _ _ _, rfl⟩
    have HST1 := Lib.hid hst1
    clear cn hr1 hst1 HM hB1
    go_wp2_with fail
    go_loopw [7, 8] (fun s7 n8 wr => ∃ (xs : List Nd) (m left' : Nat) (r' : Rd), n8 = .int .i64 m ∧ m ≤ 4096 ∧ xs.length + m ≤ 4096 ∧ InvN bs left' r' ∧ LStN p b bl bv w s7 xs left' r' wr ∧ Hid ((xs ++ (nloop bs f m left' r').1, (nloop bs f m left' r').2) = Q))
      (fun _ n8 _ => (intOf n8).toNat)
    case atStart => exact ⟨[], n0, left, r0, rfl, by have := HMP.out; omega, by have := HMP.out; simp; omega, HMI.out, HST1.out, by show _ = _; rw [← HQ.out]; rfl⟩
    case round =>
      obtain ⟨xs, m, left', r', rfl, hm, hxm, hinv, hst, hF⟩ := hrel
      obtain ⟨hr, hnb, hBW, cells, hrow, hit⟩ := hst
      have c2 := hr.c2
      obtain ⟨sa, sc, rfl⟩ := hrow.shape
      by_cases hm0 : m = 0
      · subst hm0
        have hF2 := hF.out
        simp only [nloop, List.append_nil] at hF2
        subst hF2
        obtain ⟨a, c, he, hrep⟩ := lstN_done hrow hit
        simp only [Value.slice.injEq] at he
        obtain ⟨rfl, _, rfl⟩ := he
        have HH := Lib.hid (And.intro hrep (And.intro hr (And.intro hnb hBW)))
        clear hr hnb hBW hrow hit hrep hinv
        go_wp2_with fail
        go_ret
        exact ⟨sa, sc, rfl, HH.out.1, HH.out.2.1, HH.out.2.2.1, HH.out.2.2.2⟩
      · cases hr3e : r'.2 with
        | some g' =>
          rw [hr3e] at c2
          simp only [errO, errV] at c2
          have hF2 := hF.out
          rw [show m = (m - 1) + 1 by omega] at hF2
          simp only [nloop, hr3e, Option.isSome_some, if_true, List.append_nil] at hF2
          subst hF2
          obtain ⟨a, c, he, hrep⟩ := lstN_done hrow hit
          simp only [Value.slice.injEq] at he
          obtain ⟨rfl, _, rfl⟩ := he
          have HH := Lib.hid (And.intro hrep (And.intro hr (And.intro hnb hBW)))
          clear hr hnb hBW hrow hit hrep hinv hr3e hF
          go_wp2_with fail
          go_ret
          exact ⟨sa, sc, rfl, HH.out.1, HH.out.2.1, HH.out.2.2.1, HH.out.2.2.2⟩
        | none =>
          rw [hr3e] at c2
          simp only [errO] at c2
          have hF2 := hF.out
          rw [show m = (m - 1) + 1 by omega] at hF2
          simp only [nloop, hr3e, Option.isSome_none, Bool.false_eq_true, if_false] at hF2
          obtain ⟨hl1, hinv2⟩ := node_inv bs left' r' hlen hinv hr3e
          have hpos := hinv.2.1
          have p1 := numM_pos bs 1 r' hpos
          have p2 : (intM bs (numM bs 1 r').2).2.1 ≤ bs.length := numM_pos bs 8 _ p1
          have p3 := textM_pos bs 32 _ p2
          have k1 := numM_lt1 bs r'
          have k2 := intM_in bs (numM bs 1 r').2
          have C1 := Lib.hid fun (w' : World) (hr : RdAt p w' b bv r'.1 r'.2) (hbs : Bs B0 w' bv bs) (hE : Errs 5 p w') => num_any p B0 w' b bv bs r' 1 (by decide) (by decide) hr hbs hB0 hE hb5 hpos (by omega)
          have C2 := Lib.hid fun (w' : World) (hr : RdAt p w' b bv (numM bs 1 r').2.1 (numM bs 1 r').2.2) (hbs : Bs B0 w' bv bs) (hE : Errs 5 p w') => int_any p B0 w' b bv bs (numM bs 1 r').2 hr hbs hB0 hE hb5 p1 (by omega)
          have C3 := Lib.hid fun (w' : World) (hr : RdAt p w' b bv (intM bs (numM bs 1 r').2).2.1 (intM bs (numM bs 1 r').2).2.2) (hbs : Bs B0 w' bv bs) (hE : Errs 5 p w') => text_any p B0 w' b bv bs (intM bs (numM bs 1 r').2).2 32 (by decide) hr hbs hB0 hE hb5 p2 (by omega)
          have C4 := Lib.hid fun (w' : World) (hr : RdAt p w' b bv (textM bs 32 (intM bs (numM bs 1 r').2).2).2.1 (textM bs 32 (intM bs (numM bs 1 r').2).2).2.2) (hbs : Bs B0 w' bv bs) (hE : Errs 5 p w') => readV_any p B0 b bs bv hB0 hb5 (by omega) 40 w' (textM bs 32 (intM bs (numM bs 1 r').2).2).2 1 rfl hr hbs hE p3.1
          generalize numM bs 1 r' = q1 at hF2 hinv2 p1 p2 p3 k1 k2 C1 C2 C3 C4
          obtain ⟨op, r1⟩ := q1
          simp only at hF2 hinv2 p1 p2 p3 k1 k2 C1 C2 C3 C4
          generalize intM bs r1 = q2 at hF2 hinv2 p2 p3 k2 C2 C3 C4
          obtain ⟨line, r2⟩ := q2
          simp only at hF2 hinv2 p2 p3 k2 C2 C3 C4
          generalize textM bs 32 r2 = q3 at hF2 hinv2 p3 C3 C4
          obtain ⟨s, r3⟩ := q3
          simp only at hF2 hinv2 p3 C3 C4
          generalize readV bs 40 r3 = q4 at hF2 hinv2 C4
          obtain ⟨v, r4⟩ := q4
          simp only at hF2 hinv2 C4
          have C5 := Lib.hid fun (w' : World) (hr : RdAt p w' b bv r4.1 r4.2) (hn : NB w' bl ((left' - 1 : Nat) : Int)) (hbs : Bs B0 w' bv bs) (hE : Errs 5 p w') => IH2.out w' r4 (left' - 1) hr hn hbs hE hinv2
          have hinv5 := HFI.out (left' - 1) r4 hinv2
          generalize f (left' - 1) r4 = q5 at hF2 hinv5 C5
          obtain ⟨l5, left5, r5⟩ := q5
          simp only at hF2 hinv5 C5
          have hz : ((left' - 1 : Nat) : Int) = (left' : Int) - 1 := by omega
          rw [hz] at C5
          have hl41 : (left' : Int) ≤ 4096 := by have := hinv.1; omega
          have hl10 : 1 ≤ (left' : Int) := by omega
          have HF2 := Lib.hid hF2
          have HI5 := Lib.hid hinv5.1
          have hl5 : l5.length ≤ 4096 := by have := hinv5.2; have := hinv.1; omega
          have hbW : b < w.heap.size := hb
          have hszW := hBW.size
          have HBSr := Lib.hid fun (w' : World) (hB : Bel2 b bl wr.heap.size wr w') => HA.out.2.1.bel2 (hBW.trans (hB.mono hszW)) (show B0 ≤ w.heap.size by omega) hB0 hB1
          have HESr := Lib.hid fun (w' : World) (hB : Bel2 b bl wr.heap.size wr w') => HA.out.2.2.bel2 (hBW.trans (hB.mono hszW)) (show 5 ≤ w.heap.size by omega) hb5 hbl5
          have cn := hnb.c
          have fn := hnb.fr
          have hra : RdAt p (wr.setCell ⟨bl, 0, none⟩ (.int .i64 ((left' : Int) - 1))) b bv r'.1 r'.2 := hr.other hne _
          have hna : NB (wr.setCell ⟨bl, 0, none⟩ (.int .i64 ((left' : Int) - 1))) bl ((left' : Int) - 1) := hnb.set _
          have hBa : Bel2 b bl wr.heap.size wr (wr.setCell ⟨bl, 0, none⟩ (.int .i64 ((left' : Int) - 1))) := (Bel2.refl _ _ _ _).setc 0 _
          have hsa : (wr.setCell ⟨bl, 0, none⟩ (.int .i64 ((left' : Int) - 1))).heap.size = wr.heap.size := setSize _ _ _
          have HRA := Lib.hid (And.intro hra (And.intro hna (And.intro hBa hsa)))
          have HROW := Lib.hid (And.intro hrow (And.intro hit (And.intro hBW hr3e)))
          clear hF2 hz hinv hinv2 hinv5 hr hnb hBW hrow hit hra hna hBa hsa hF hr3e
          go_wp2_with fail
          obtain ⟨hra, hna, hBa, hsa⟩ := HRA.out
          refine (C1.out _ hra (HBSr.out _ hBa) (HESr.out _ hBa)).mono ?_
          rintro e w1 ⟨rfl, hr1, hB1⟩
          rw [hsa] at hB1
          have hB1' : Bel2 b bl wr.heap.size wr w1 := hBa.trans (Bel2.of hB1)
          have hn1 := hna.bel hB1 (by omega) (fun e => hne e.symm)
          have hs1 := hB1'.size
          have hbl1 : bl < w1.heap.size := hn1.lt
          -- the node's block
          have S0 : NSt p b bl bv wr w1.heap.size ((left' - 1 : Nat)) (.int .i64 op) (.int .i64 0) (.string ⟨#[]⟩) (.int .i64 0) (.int .i64 0) (.string ⟨#[]⟩) (.slice none 0 0) (.slice none 0 0) r1
              (w1.alloc (.cells #[.int .i64 op, .int .i64 0, .string ⟨#[]⟩, .int .i64 0, .int .i64 0, .string ⟨#[]⟩, .slice none 0 0, .slice none 0 0] 63)) :=
            ⟨hr1.below (bal w1 _) hr1.lt, by have := hn1.below (bal w1 (.cells #[.int .i64 op, .int .i64 0, .string ⟨#[]⟩, .int .i64 0, .int .i64 0, .string ⟨#[]⟩, .slice none 0 0, .slice none 0 0] 63)) hbl1; rwa [show ((left' - 1 : Nat) : Int) = (left' : Int) - 1 by omega],
              hB1'.alloc hs1 _, NV.new w1 _ _ _ _ _ _ _ _, hs1, by omega, by omega, hne⟩
          have H0 := Lib.hid S0
          have hk1 : (op : Int) < 256 := by omega
          clear S0 hr1 hB1 hB1' hn1 hra hna hBa hsa cn fn
          go_wp2_with fail
          refine (C2.out _ H0.out.rd (HBSr.out _ H0.out.bel) (HESr.out _ H0.out.bel)).mono ?_
          rintro e w2 ⟨rfl, hr2, hB2⟩
          have S1 := H0.out.call (r' := r2) hr2 hB2
          obtain ⟨-, d1, -⟩ := S1.nv.all
          have f1 := S1.nv.fr 1
          have H1 := Lib.hid (S1.set (y := .int .i64 line) (S1.nv.set1 _))
          clear S1 hr2 hB2
          go_wp2_with fail
          refine (C3.out _ H1.out.rd (HBSr.out _ H1.out.bel) (HESr.out _ H1.out.bel)).mono ?_
          rintro e w3 ⟨rfl, hr3, hB3⟩
          have S2 := H1.out.call (r' := r3) hr3 hB3
          obtain ⟨-, -, d2, -⟩ := S2.nv.all
          have f2 := S2.nv.fr 2
          have H2 := Lib.hid (S2.set (y := .string s) (S2.nv.set2 _))
          have hs3 := S2.bel.size
          have hg3 := S2.nv.lt
          clear S2 hr3 hB3 f1 d1
          go_wp2_with fail
          refine (C4.out _ H2.out.rd (HBSr.out _ H2.out.bel) (HESr.out _ H2.out.bel)).mono ?_
          rintro e w4 ⟨vv, rfl, ⟨av, cv, rfl, hfv, hrv⟩, hr4, hB4⟩
          have S3 := H2.out.call (r' := r4) hr4 hB4
          rw [setSize] at hrv
          have hs34 : w3.heap.size ≤ w4.heap.size := by have := hB4.size; rwa [setSize] at this
          obtain ⟨-, -, -, d3, d4, d5, d6, -⟩ := S3.nv.all
          have f3 := S3.nv.fr 3
          have f4 := S3.nv.fr 4
          have f5 := S3.nv.fr 5
          have f6 := S3.nv.fr 6
          have S4 := S3.set (y := .int .i64 v.kind) (S3.nv.set3 _)
          have S4 := S4.set (y := .int .i64 v.n) (S4.nv.set4 _)
          have S4 := S4.set (y := .string v.s) (S4.nv.set5 _)
          have S4 := S4.set (y := .slice av v.l.length cv) (S4.nv.set6 _)
          have H4 := Lib.hid S4
          have HV4 := Lib.hid (And.intro hrv hfv)
          clear S3 S4 hr4 hB4 hrv hfv f2 d2
          go_wp2_with fail
          refine (C5.out _ H4.out.rd (by have := H4.out.nb; rwa [show ((left' - 1 : Nat) : Int) = (left' : Int) - 1 by omega] at this) (HBSr.out _ H4.out.bel) (HESr.out _ H4.out.bel)).mono ?_
          rintro e w5 ⟨a5, c5, rfl, hrn, hr5, hn5, hB5⟩
          simp only at hrn hr5 hn5
          have S5 := H4.out.call2 (r' := r5) hr5 hn5 hB5
          simp only [setSize] at hrn
          have hs45 : w4.heap.size ≤ w5.heap.size := by have := hB5.size; simpa only [setSize] using this
          have hB5' : Bel2 b bl w4.heap.size ((((w4.setCell ⟨w1.heap.size, 3, none⟩ (.int .i64 v.kind)).setCell ⟨w1.heap.size, 4, none⟩ (.int .i64 v.n)).setCell ⟨w1.heap.size, 5, none⟩ (.string v.s)).setCell ⟨w1.heap.size, 6, none⟩ (.slice av v.l.length cv)) w5 := by simpa only [setSize] using hB5
          obtain ⟨-, -, -, -, -, -, -, d7⟩ := S5.nv.all
          have f7 := S5.nv.fr 7
          have S6 := S5.set (y := .slice a5 l5.length c5) (S5.nv.set7 _)
          obtain ⟨e0, e1, e2, e3, e4, e5, e6, e7⟩ := S6.nv.all
          -- what the node has
          have hbw1 : b < w1.heap.size := by omega
          have hrv5 : RepSl (New wr.heap.size (w5.setCell ⟨w1.heap.size, 7, none⟩ (.slice a5 l5.length c5)).heap.size) (w5.setCell ⟨w1.heap.size, 7, none⟩ (.slice a5 l5.length c5)) av v.l := by
            rw [setSize]
            refine HV4.out.1.keep (fun k hk => ?_) (fun k hk => ⟨by have := hk.1; omega, by have := hk.2; omega⟩)
            have hk1 := hk.1
            have hk2 := hk.2
            rw [Go.Deep.blk_setCell_other _ _ _ _ (show k ≠ w1.heap.size by omega), hB5'.block k hk2 (by omega) (by omega), Go.Deep.blk_setCell_other _ _ _ _ (show k ≠ w1.heap.size by omega), Go.Deep.blk_setCell_other _ _ _ _ (show k ≠ w1.heap.size by omega),
              Go.Deep.blk_setCell_other _ _ _ _ (show k ≠ w1.heap.size by omega), Go.Deep.blk_setCell_other _ _ _ _ (show k ≠ w1.heap.size by omega)]
          have hrn5 : RepNSl (New wr.heap.size (w5.setCell ⟨w1.heap.size, 7, none⟩ (.slice a5 l5.length c5)).heap.size) (w5.setCell ⟨w1.heap.size, 7, none⟩ (.slice a5 l5.length c5)) a5 l5 := by
            rw [setSize]
            refine hrn.keep (fun k hk => ?_) (fun k hk => ⟨by have := hk.1; omega, hk.2⟩)
            have hk1 := hk.1
            exact Go.Deep.blk_setCell_other _ _ _ _ (show k ≠ w1.heap.size by omega)
          have H6 := Lib.hid (And.intro S6 (And.intro hrv5 hrn5))
          clear S5 S6 hr5 hn5 hB5 hB5' hrn hrv5 hrn5 f3 f4 f5 f6 d3 d4 d5 d6
          have hrow6 : (w5.setCell ⟨w1.heap.size, 7, none⟩ (.slice a5 l5.length c5)).ownsRow w.heap.size 63 8 (.slice sa xs.length sc) xs.length cells := by
            have hr0 := HROW.out.1
            refine ⟨hr0.1, ?_⟩
            rcases hr0.2 with h0 | ⟨g, cap, cur, he, hg, hgg, rest⟩
            · exact .inl h0
            · have hgl := (Array.getElem?_eq_some_iff.1 hgg).1
              exact .inr ⟨g, cap, cur, he, hg, by rw [H6.out.1.bel.block g hgl (by omega) (by omega)]; exact hgg, rest⟩
          have hs6 := H6.out.1.bel.size
          have HROW6 := Lib.hid hrow6
          clear hrow6
          go_wp2_with (at_builtin; go_loud (refine append_node rfl 55 57 rfl w.heap.size (.slice sa xs.length sc) xs.length cells (by simp [Act.eval, Act.put]) (World.ownsRow.alloc HROW6.out _) _ (by simp [Act.eval, Act.put]) _ _ _ _ _ _ _ _ _ _ _ _ _ (heap_alloc_new _ _) (by omega) ?d1 _ rfl ?_))
          case d1 => simp only [World.size_alloc]; omega
          intro g cap w7 hown7 hg7 hat7 hlt7
          have hL := lstN_step (x := .mk op line s v l5) (left' := left5) (r' := r5) hbW hbl HROW.out.2.2.1 HROW.out.1 HROW.out.2.1 (fitsN op (by omega) line k2.1 k2.2 s (by omega) l5.length (by omega)) HV4.out.2 H6.out.2.1 H6.out.2.2 H6.out.1.rd H6.out.1.nb H6.out.1.bel _ hown7 hg7 (hat7.imp id (fun h => h.trans (by simp))) hlt7
          have HL := Lib.hid hL
          clear hL hown7 hg7 hat7 hlt7
          go_wp2_with fail
          go_roundw
          case rel => exact ⟨xs ++ [.mk op line s v l5], m - 1, left5, r5, by go_num, by omega, by simp; omega, HI5.out, HL.out, by have h := HF2.out; show _ = _; rw [List.append_assoc]; exact h⟩
          case measure => simp [intOf]; omega
end Go.Proofs.YtmkghfkikclodaaDoor
