/- What the reader makes of a value's bytes; how a value that is being read lies in memory. What is amiss with a value: the program's word and the document's. -/
import Derived.Test.YtmkghfkikclodaaDoorM02
import Derived.Deep.AppendLies
set_option linter.unusedVariables false
set_option linter.unusedSimpArgs false
namespace Go.Proofs.YtmkghfkikclodaaDoor
open Go.RowKit

def readL (f : Rd → Val × Rd) : Nat → Rd → List Val × Rd
  | 0, r => ([], r)
  | n + 1, r => if r.2.isSome then ([], r) else ((f r).1 :: (readL f n (f r).2).1, (readL f n (f r).2).2)

def readV (bs : List UInt8) : Nat → Rd → Val × Rd
  | 0, r => (.mk 0 0 .empty [], r.fail 0)
  | room + 1, r =>
    if (numM bs 1 r).1 = 0 ∨ (numM bs 1 r).1 = 1 ∨ (numM bs 1 r).1 = 3 then (.mk (numM bs 1 r).1 (intM bs (numM bs 1 r).2).1 .empty [], (intM bs (numM bs 1 r).2).2)
    else if (numM bs 1 r).1 = 2 then (.mk 2 0 (textM bs 4096 (numM bs 1 r).2).1 [], (textM bs 4096 (numM bs 1 r).2).2)
    else if (numM bs 1 r).1 = 4 then
      (.mk 4 0 .empty (readL (readV bs room) (manyM bs 4096 (numM bs 1 r).2).1 (manyM bs 4096 (numM bs 1 r).2).2).1, (readL (readV bs room) (manyM bs 4096 (numM bs 1 r).2).1 (manyM bs 4096 (numM bs 1 r).2).2).2)
    else (.mk (numM bs 1 r).1 0 .empty [], (numM bs 1 r).2.fail 2)

/-- block g holds a value's four cells -/
def VB (w : World) (g : Nat) (x0 x1 x2 x3 : Value) : Prop := w.heap[g]? = some (.cells #[x0, x1, x2, x3] 24 (0, 0))
section
variable {w w' : World} {g : Nat} {x0 x1 x2 x3 : Value}
theorem VB.c0 (h : VB w g x0 x1 x2 x3) : w.cell? ⟨g, 0, none⟩ = some x0 := by rw [Joins.cell_of_block h]; rfl
theorem VB.c1 (h : VB w g x0 x1 x2 x3) : w.cell? ⟨g, 1, none⟩ = some x1 := by rw [Joins.cell_of_block h]; rfl
theorem VB.c2 (h : VB w g x0 x1 x2 x3) : w.cell? ⟨g, 2, none⟩ = some x2 := by rw [Joins.cell_of_block h]; rfl
theorem VB.c3 (h : VB w g x0 x1 x2 x3) : w.cell? ⟨g, 3, none⟩ = some x3 := by rw [Joins.cell_of_block h]; rfl
theorem VB.fr (h : VB w g x0 x1 x2 x3) (i : Nat) : w.frozen? ⟨g, i, none⟩ = false := Joins.unfrozen_of_block h i
theorem VB.lt (h : VB w g x0 x1 x2 x3) : g < w.heap.size := (Array.getElem?_eq_some_iff.1 h).1
theorem VB.set0 (h : VB w g x0 x1 x2 x3) (v : Value) : VB (w.setCell ⟨g, 0, none⟩ v) g v x1 x2 x3 := by unfold VB; rw [Joins.block_setCell h]; rfl
theorem VB.set1 (h : VB w g x0 x1 x2 x3) (v : Value) : VB (w.setCell ⟨g, 1, none⟩ v) g x0 v x2 x3 := by unfold VB; rw [Joins.block_setCell h]; rfl
theorem VB.set2 (h : VB w g x0 x1 x2 x3) (v : Value) : VB (w.setCell ⟨g, 2, none⟩ v) g x0 x1 v x3 := by unfold VB; rw [Joins.block_setCell h]; rfl
theorem VB.set3 (h : VB w g x0 x1 x2 x3) (v : Value) : VB (w.setCell ⟨g, 3, none⟩ v) g x0 x1 x2 v := by unfold VB; rw [Joins.block_setCell h]; rfl
theorem VB.bel {b B : Nat} (h : VB w g x0 x1 x2 x3) (hb : Bel b B w w') (hB : g < B) (hn : g ≠ b) : VB w' g x0 x1 x2 x3 := (hb.block g hB hn).trans h
theorem VB.below {B : Nat} (h : VB w g x0 x1 x2 x3) (hb : Below B w w') (hB : g < B) : VB w' g x0 x1 x2 x3 := (hb.block g hB).trans h
theorem VB.new (w : World) (x0 x1 x2 x3 : Value) : VB (w.alloc (.cells #[x0, x1, x2, x3] 24)) w.heap.size x0 x1 x2 x3 := by unfold VB; exact heap_alloc_new w _
end

section
variable {w w' : World} {g : Nat} {x0 x1 x2 x3 : Value}
theorem VB.all (h : VB w g x0 x1 x2 x3) : w.cell? ⟨g, 0, none⟩ = some x0 ∧ w.cell? ⟨g, 1, none⟩ = some x1 ∧ w.cell? ⟨g, 2, none⟩ = some x2 ∧ w.cell? ⟨g, 3, none⟩ = some x3 ∧
    w.frozen? ⟨g, 0, none⟩ = false ∧ w.frozen? ⟨g, 1, none⟩ = false ∧ w.frozen? ⟨g, 2, none⟩ = false ∧ w.frozen? ⟨g, 3, none⟩ = false := ⟨h.c0, h.c1, h.c2, h.c3, h.fr 0, h.fr 1, h.fr 2, h.fr 3⟩
theorem VB.other (h : VB w g x0 x1 x2 x3) {g' j : Nat} (hn : g ≠ g') (v : Value) : VB (w.setCell ⟨g', j, none⟩ v) g x0 x1 x2 x3 := (Go.Deep.blk_setCell_other _ _ _ _ hn).trans h
theorem VB.set (h : VB w g x0 x1 x2 x3) (y0 y1 y2 y3 : Value) : VB ((((w.setCell ⟨g, 0, none⟩ y0).setCell ⟨g, 1, none⟩ y1).setCell ⟨g, 2, none⟩ y2).setCell ⟨g, 3, none⟩ y3) g y0 y1 y2 y3 := (((h.set0 y0).set1 y1).set2 y2).set3 y3
theorem RdAt.other {p : Nat → Addr} {b pos : Nat} {bv : Value} {err : Option Nat} (h : RdAt p w b bv pos err) {g' j : Nat} (hn : b ≠ g') (v : Value) : RdAt p (w.setCell ⟨g', j, none⟩ v) b bv pos err := (Go.Deep.blk_setCell_other _ _ _ _ hn).trans h
theorem RdAt.set {p : Nat → Addr} {b pos : Nat} {bv : Value} {err : Option Nat} (h : RdAt p w b bv pos err) (hn : b ≠ g) (y0 y1 y2 y3 : Value) :
    RdAt p ((((w.setCell ⟨g, 0, none⟩ y0).setCell ⟨g, 1, none⟩ y1).setCell ⟨g, 2, none⟩ y2).setCell ⟨g, 3, none⟩ y3) b bv pos err := (((h.other hn y0).other hn y1).other hn y2).other hn y3
theorem Bel.above {b B : Nat} {w0 : World} (h : Bel b B w0 w) {g j : Nat} (hp : B ≤ g) (v : Value) : Bel b B w0 (w.setCell ⟨g, j, none⟩ v) := h.trans (Bel.of ((Below.refl _ _).setCell (p := ⟨g, j, none⟩) hp v))
theorem Bel.set4 {b B : Nat} {w0 : World} (h : Bel b B w0 w) {g : Nat} (hp : B ≤ g) (y0 y1 y2 y3 : Value) :
    Bel b B w0 ((((w.setCell ⟨g, 0, none⟩ y0).setCell ⟨g, 1, none⟩ y1).setCell ⟨g, 2, none⟩ y2).setCell ⟨g, 3, none⟩ y3) := (((h.above hp y0).above hp y1).above hp y2).above hp y3
theorem info24 : (Tryd.prog.info? 24).map (·.size) = some 4 := by kernel_rfl
theorem ret44 {tmps : Array Value} (ht : tmps.getD 4 undef = .pointer (some ⟨g, 0, none⟩)) (hv : VB w g x0 x1 x2 x3) : (results Tryd.f44 tmps).run Tryd.prog w = .ok (.agg #[x0, x1, x2, x3]) w :=
  results_cell_row (P := Tryd.prog) Tryd.results44 tmps w g 24 #[x0, x1, x2, x3] (0, 0) _ ht hv Tryd.underlying24 rfl info24
end

theorem intM_in (bs : List UInt8) (r : Rd) : -9223372036854775808 ≤ (intM bs r).1 ∧ (intM bs r).1 ≤ 9223372036854775807 := by
  have h : (numM bs 8 r).1 < 18446744073709551616 := by
    unfold numM
    split
    · show (0 : Nat) < _; decide
    · exact leN_lt bs r.1 8
  unfold intM sgn
  simp only
  split <;> omega

theorem fits_zero : Fits 0 0 ByteArray.empty 0 := by unfold Fits; decide

theorem bal (w : World) (o : Obj) : Below w.heap.size w (w.alloc o) := (Below.refl _ _).alloc (Nat.le_refl _) o

/-- blocks made between the two numbers -/
def New (lo hi k : Nat) : Prop := lo ≤ k ∧ k < hi

def VPost (p : Nat → Addr) (b : Nat) (bv : Value) (W : World) (x : Val) (pos : Nat) (err : Option Nat) (e : Ending) (w' : World) : Prop :=
  ∃ v, e = .returned v ∧ RepV (New W.heap.size w'.heap.size) w' v x ∧ RdAt p w' b bv pos err ∧ Bel b W.heap.size W w'


theorem fitsN (k : Nat) (hk : k < 256) (z : Int) (h1 : -9223372036854775808 ≤ z) (h2 : z ≤ 9223372036854775807) (s : ByteArray) (hs : s.size ≤ 140737488355328) (n : Nat) (hn : n ≤ 140737488355328) : Fits k z s n :=
  ⟨by omega, by omega, h1, h2, by omega, by omega⟩

theorem textM_pos (bs : List UInt8) (most : Nat) (r : Rd) (h : r.1 ≤ bs.length) : (textM bs most r).2.1 ≤ bs.length ∧ (textM bs most r).1.size ≤ bs.length := by
  obtain ⟨h1, h2⟩ := manyM_pos bs most r h
  unfold textM Rd.fail
  split
  · exact ⟨h1, Nat.zero_le _⟩
  · split
    · exact ⟨h1, Nat.zero_le _⟩
    · refine ⟨by simp only; omega, ?_⟩
      show (List.toArray _).size ≤ _
      simp
      omega

theorem readL_pos (bs : List UInt8) (f : Rd → Val × Rd) (hf : ∀ r, r.1 ≤ bs.length → (f r).2.1 ≤ bs.length) : ∀ (n : Nat) (r : Rd), r.1 ≤ bs.length → (readL f n r).2.1 ≤ bs.length
  | 0, r, h => h
  | n + 1, r, h => by
    unfold readL
    split
    · exact h
    · exact readL_pos bs f hf n _ (hf r h)

theorem readV_pos (bs : List UInt8) : ∀ (room : Nat) (r : Rd), r.1 ≤ bs.length → (readV bs room r).2.1 ≤ bs.length
  | 0, r, h => h
  | room + 1, r, h => by
    have h1 := numM_pos bs 1 r h
    unfold readV
    split
    · exact numM_pos bs 8 _ h1
    · split
      · exact (textM_pos bs 4096 _ h1).1
      · split
        · exact readL_pos bs _ (readV_pos bs room) _ _ (manyM_pos bs 4096 _ h1).1
        · exact h1

/-! ### a row of values that grows -/
/-- the cells cs are the values xs, one behind the other -/
def Items (S : Nat → Prop) (w : World) : List Val → List Value → Prop
  | [], cs => cs = []
  | x :: xs, cs => ∃ a c rest, cs = [Value.int .i64 x.kind, .int .i64 x.n, .string x.s, .slice a x.l.length c] ++ rest ∧ Fits x.kind x.n x.s x.l.length ∧ RepSl S w a x.l ∧ Items S w xs rest

theorem Items.keep {S T : Nat → Prop} {w w' : World} (hw : ∀ k, S k → w'.heap[k]? = w.heap[k]?) (hT : ∀ k, S k → T k) : ∀ {xs : List Val} {cs : List Value}, Items S w xs cs → Items T w' xs cs
  | [], _, h => h
  | x :: xs, cs, h => by
    obtain ⟨a, c, rest, rfl, hf, hs, hr⟩ := h
    exact ⟨a, c, rest, rfl, hf, hs.keep hw hT, Items.keep hw hT hr⟩

theorem Items.snoc {S : Nat → Prop} {w : World} {x : Val} {a : Option Addr} {c : Nat} (hf : Fits x.kind x.n x.s x.l.length) (hs : RepSl S w a x.l) : ∀ {xs : List Val} {cs : List Value}, Items S w xs cs →
    Items S w (xs ++ [x]) (cs ++ [Value.int .i64 x.kind, .int .i64 x.n, .string x.s, .slice a x.l.length c])
  | [], _, h => by
    cases h
    exact ⟨a, c, [], rfl, hf, hs, rfl⟩
  | y :: xs, cs, h => by
    obtain ⟨a', c', rest, rfl, hf', hs', hr⟩ := h
    exact ⟨a', c', _, rfl, hf', hs', Items.snoc hf hs hr⟩

theorem Items.row {S : Nat → Prop} {w : World} {g : Nat} : ∀ {xs : List Val} {cs : List Value} (o : Nat), Items S w xs cs → (∀ (j : Nat) (u : Value), cs[j]? = some u → w.cell? ⟨g, o + j, none⟩ = some u) → RepRow S w g o xs
  | [], _, _, _, _ => trivial
  | x :: xs, cs, o, h, hc => by
    obtain ⟨a, c, rest, rfl, hf, hs, hr⟩ := h
    refine ⟨repAt_iff.2 ⟨hf, a, c, hc 0 _ rfl, hc 1 _ rfl, hc 2 _ rfl, hc 3 _ rfl, hs⟩, Items.row (o + 4) hr fun j u hu => ?_⟩
    have := hc (4 + j) u (by rw [List.getElem?_append_right (by simp)]; simpa using hu)
    rw [show o + (4 + j) = o + 4 + j by omega] at this
    exact this

theorem _root_.Go.World.ownsRow.shape {w : World} {base : Nat} {e : TypeId} {size n : Nat} {v : Value} {xs : List Value} (h : w.ownsRow base e size v n xs) : ∃ a c, v = .slice a n c := by
  rcases h.2 with ⟨rfl, h0⟩ | ⟨g, cap, cur, rfl, _⟩
  · rw [h0]; exact ⟨_, _, rfl⟩
  · exact ⟨_, _, rfl⟩

/-- blocks behind g, made so far, but for the row's own -/
def Nested (g : Nat) (w : World) (sv : Value) (k : Nat) : Prop := g < k ∧ k < w.heap.size ∧ sv.ownBlock ≠ some k

/-- where a list's reading stands: the items xs are in the row that v.L is -/
def LSt (p : Nat → Addr) (b : Nat) (bv : Value) (W : World) (g4 g5 : Nat) (xs : List Val) (r : Rd) (wr : World) : Prop :=
  RdAt p wr b bv r.1 r.2 ∧ VB wr g4 (.int .i64 0) (.int .i64 0) (.string ⟨#[]⟩) (.slice none 0 0) ∧ Bel b W.heap.size W wr ∧
  ∃ sv cells, VB wr g5 (.int .i64 4) (.int .i64 0) (.string ⟨#[]⟩) sv ∧ wr.ownsRow (g5 + 1) 24 4 sv xs.length cells ∧ Items (Nested g5 wr sv) wr xs cells

theorem lst_step {p : Nat → Addr} {b : Nat} {bv : Value} {W wr w2 w4 : World} {g4 g5 : Nat} {xs : List Val} {r2 : Rd} {x : Val} {a : Option Addr} {c g cap : Nat} {sv : Value} {cells : List Value}
    (hb4 : b < g4) (h45 : g4 < g5) (hW : W.heap.size ≤ g4) (h4 : VB wr g4 (.int .i64 0) (.int .i64 0) (.string ⟨#[]⟩) (.slice none 0 0)) (hB : Bel b W.heap.size W wr)
    (h5 : VB wr g5 (.int .i64 4) (.int .i64 0) (.string ⟨#[]⟩) sv) (hrow : wr.ownsRow (g5 + 1) 24 4 sv xs.length cells) (hit : Items (Nested g5 wr sv) wr xs cells)
    (hf : Fits x.kind x.n x.s x.l.length) (hx : RepSl (New wr.heap.size w2.heap.size) w2 a x.l) (hr2 : RdAt p w2 b bv r2.1 r2.2) (hB2 : Bel b wr.heap.size wr w2)
    (o : Obj) (hown : w4.ownsRow (g5 + 1) 24 4 (.slice (some ⟨g, 0, none⟩) (xs.length + 1) cap) (xs.length + 1) (cells ++ [Value.int .i64 x.kind, .int .i64 x.n, .string x.s, .slice a x.l.length c]))
    (hg : (w2.alloc o).grownBy w4 sv.ownBlock) (hat : sv.ownBlock = some g ∨ g = w2.heap.size + 1) (hlt : g < w4.heap.size) :
    LSt p b bv W g4 g5 (xs ++ [x]) r2 (w4.setCell ⟨g5, 3, none⟩ (.slice (some ⟨g, 0, none⟩) (xs.length + 1) cap)) := by
  have hg5 := h5.lt
  have hsz2 := hB2.size
  have hsz3 : (w2.alloc o).heap.size = w2.heap.size + 1 := by simp
  have hsz4 := hg.size
  have hgg : g5 + 1 ≤ g := by
    rcases hat with h | h
    · exact (World.ownsRow.lt hrow g h).1
    · omega
  have hsvb : ∀ k, sv.ownBlock = some k → g5 < k ∧ k < wr.heap.size := fun k hk => World.ownsRow.lt hrow k hk
  -- a block that is neither b's, nor g5's, nor the row's, stays
  have keep : ∀ k, k < wr.heap.size → k ≠ b → sv.ownBlock ≠ some k → w4.heap[k]? = wr.heap[k]? := fun k h1 h2 h3 => by
    rw [hg.block k (by omega) (fun e => h3 e.symm), (bal w2 o).block k (by omega), hB2.block k h1 h2]
  have keep2 : ∀ k, k < w2.heap.size → sv.ownBlock ≠ some k → w4.heap[k]? = w2.heap[k]? := fun k h1 h3 => by
    rw [hg.block k (by omega) (fun e => h3 e.symm), (bal w2 o).block k (by omega)]
  have hsv_b : ∀ k, k ≤ g5 → sv.ownBlock ≠ some k := fun k hk e => by have := hsvb k e; omega
  have set5 : ∀ k, k ≠ g5 → (w4.setCell ⟨g5, 3, none⟩ (.slice (some ⟨g, 0, none⟩) (xs.length + 1) cap)).heap[k]? = w4.heap[k]? := fun k hk => Go.Deep.blk_setCell_other _ _ _ _ hk
  have hszf : (w4.setCell ⟨g5, 3, none⟩ (.slice (some ⟨g, 0, none⟩) (xs.length + 1) cap)).heap.size = w4.heap.size := by simp [World.setCell]
  have h54 : VB w4 g5 (.int .i64 4) (.int .i64 0) (.string ⟨#[]⟩) sv := (keep g5 hg5 (by omega) (hsv_b g5 (Nat.le_refl _))).trans h5
  refine ⟨?_, ?_, ?_, .slice (some ⟨g, 0, none⟩) (xs.length + 1) cap, cells ++ [Value.int .i64 x.kind, .int .i64 x.n, .string x.s, .slice a x.l.length c], h54.set3 _, ?_, ?_⟩
  · show _ = _
    rw [set5 b (by omega), keep2 b (by omega) (hsv_b b (by omega))]
    exact hr2
  · show _ = _
    rw [set5 g4 (by omega), keep g4 (by omega) (by omega) (hsv_b g4 (by omega))]
    exact h4
  · refine hB.trans ⟨?_, ?_, ?_, ?_, ?_⟩
    · exact hg.os.trans hB2.os
    · exact hg.tape.trans hB2.tape
    · exact hg.output.trans hB2.output
    · rw [hszf]; omega
    · intro k hk hkb
      rw [set5 k (by omega)]
      exact keep k (by have := hB.size; omega) hkb (hsv_b k (by omega))
  · rw [List.length_append]
    refine ⟨hown.1, ?_⟩
    rcases hown.2 with ⟨h, _⟩ | ⟨g', cap', cur, he, h1, h2, h3⟩
    · cases h
    · refine .inr ⟨g', cap', cur, he, h1, ?_, h3⟩
      rw [set5 g' (by omega)]
      exact h2
  · have hnest : ∀ k, Nested g5 wr sv k → Nested g5 (w4.setCell ⟨g5, 3, none⟩ (.slice (some ⟨g, 0, none⟩) (xs.length + 1) cap)) (.slice (some ⟨g, 0, none⟩) (xs.length + 1) cap) k := fun k ⟨h1, h2, h3⟩ => by
      refine ⟨h1, by rw [hszf]; omega, fun e => ?_⟩
      have e : g = k := by simpa [Value.ownBlock] using e
      subst e
      rcases hat with h | h
      · exact h3 h
      · omega
    refine Items.snoc hf (hx.keep ?_ ?_) (hit.keep ?_ hnest)
    · rintro k ⟨h1, h2⟩
      rw [set5 k (by omega), keep2 k h2 (fun e => by have := hsvb k e; omega)]
    · rintro k ⟨h1, h2⟩
      refine ⟨by omega, by rw [hszf]; omega, fun e => ?_⟩
      have e : g = k := by simpa [Value.ownBlock] using e
      subst e
      rcases hat with h | h
      · have := hsvb g h; omega
      · omega
    · rintro k ⟨h1, h2, h3⟩
      rw [set5 k (by omega)]
      by_cases hkb : k = b
      · omega
      · exact keep k h2 hkb h3

theorem lst_done {wr : World} {g4 g5 : Nat} {xs : List Val} {sa : Option Addr} {sc : Nat} {cells : List Value} {W : Nat} (h45 : g4 < g5) (hW : W ≤ g4)
    (hrow : wr.ownsRow (g5 + 1) 24 4 (.slice sa xs.length sc) xs.length cells) (hit : Items (Nested g5 wr (.slice sa xs.length sc)) wr xs cells) (y0 y1 y2 y3 : Value) :
    RepSl (New W ((((wr.setCell ⟨g4, 0, none⟩ y0).setCell ⟨g4, 1, none⟩ y1).setCell ⟨g4, 2, none⟩ y2).setCell ⟨g4, 3, none⟩ y3).heap.size)
      ((((wr.setCell ⟨g4, 0, none⟩ y0).setCell ⟨g4, 1, none⟩ y1).setCell ⟨g4, 2, none⟩ y2).setCell ⟨g4, 3, none⟩ y3) sa xs := by
  have hsz : ((((wr.setCell ⟨g4, 0, none⟩ y0).setCell ⟨g4, 1, none⟩ y1).setCell ⟨g4, 2, none⟩ y2).setCell ⟨g4, 3, none⟩ y3).heap.size = wr.heap.size := by simp [World.setCell]
  have hB : ∀ k, k ≠ g4 → ((((wr.setCell ⟨g4, 0, none⟩ y0).setCell ⟨g4, 1, none⟩ y1).setCell ⟨g4, 2, none⟩ y2).setCell ⟨g4, 3, none⟩ y3).heap[k]? = wr.heap[k]? := fun k hk => by
    rw [Go.Deep.blk_setCell_other _ _ _ _ hk, Go.Deep.blk_setCell_other _ _ _ _ hk, Go.Deep.blk_setCell_other _ _ _ _ hk, Go.Deep.blk_setCell_other _ _ _ _ hk]
  by_cases hn : xs.length = 0
  · exact .inl (List.eq_nil_of_length_eq_zero hn)
  · obtain ⟨g, cap, he, hg1, hg2⟩ := hrow.form (by omega)
    have he : sa = some ⟨g, 0, none⟩ := by simp only [Value.slice.injEq] at he; exact he.1
    subst he
    have hS : RepSl (New (g5 + 1) wr.heap.size) wr (some ⟨g, 0, none⟩) xs := by
      refine .inr ⟨g, 0, rfl, ⟨hg1, hg2⟩, Items.row 0 (hit.keep (fun _ _ => rfl) (fun k h => ⟨h.1, h.2.1⟩)) fun j u hu => ?_⟩
      have := hrow.cells (g := g) rfl j u hu
      rw [show (⟨g, 0 + j, none⟩ : Addr) = (⟨g, 0, none⟩ : Addr).add j by unfold Addr.add; split <;> simp_all]
      exact this
    refine hS.keep (fun k hk => hB k (by have := hk.1; omega)) (fun k hk => ⟨by have := hk.1; omega, by rw [hsz]; exact hk.2⟩)

theorem info24r : (Tryd.prog.info? 24).map (fun i => (i.zero, i.size, i.bytes)) = some (some (.agg #[.int .i64 0, .int .i64 0, .string ⟨#[]⟩, .slice none 0 0]), 4, 56) := by kernel_rfl

theorem ownsRow_bel {w w' : World} {base b B n : Nat} {e : TypeId} {v : Value} {xs : List Value} (h : w.ownsRow base e 4 v n xs) (hb : Bel b B w w') (hB : w.heap.size ≤ B) (hn : b < base) : w'.ownsRow base e 4 v n xs := by
  refine ⟨h.1, ?_⟩
  rcases h.2 with h0 | ⟨g, cap, cur, he, hg, hgg, rest⟩
  · exact .inl h0
  · exact .inr ⟨g, cap, cur, he, hg, by rw [hb.block g (by have := (Array.getElem?_eq_some_iff.1 hgg).1; omega) (by omega)]; exact hgg, rest⟩

/-- one more value at the end of a row of values, as a step of a region that draws -/
theorem step_item {ops : Array Oper} {o : Oper} {a : Act} {w : World} {K : Act → World → Prop} {Q : Exit → Act → World → Prop} {E : Prop} (s x : Tmp) (hgd : o.guard = none)
    (ho : o.op = .call { callee := .builtin .append, args := #[.tmp s, .tmp x], argTypes := #[22, 22] }) (base : Nat) (v : Value) (n : Nat) (xs : List Value) (hs : a.eval (.tmp s) = v) (hown : w.ownsRow base 24 4 v n xs)
    (B : Nat) (hx : a.eval (.tmp x) = .slice (some ⟨B, 0, none⟩) 1 1) (y0 y1 : Int) (y2 : ByteArray) (ya : Option Addr) (yl yc : Nat) (t : TypeId) (hb : w.heap[B]? = some (.cells #[.int .i64 y0, .int .i64 y1, .string y2, .slice ya yl yc] t (0, 0)))
    (hn : n ≤ 1000000) (hbase : base ≤ w.heap.size) (H : Nat) (hH : w.heap.size = H)
    (h : ∀ g cap w', w'.ownsRow base 24 4 (.slice (some ⟨g, 0, none⟩) (n + 1) cap) (n + 1) (xs ++ [.int .i64 y0, .int .i64 y1, .string y2, .slice ya yl yc]) → w.grownBy w' v.ownBlock → (v.ownBlock = some g ∨ g = H) → g < w'.heap.size →
      K (a.put o.dst (.slice (some ⟨g, 0, none⟩) (n + 1) cap)) w') :
    if Region.wanted o (yielded ops a.tmps) = true then Oper.wp Tryd.prog o a w K Q else E := by
  obtain ⟨i, hi, hz0, hz1, hz2⟩ := info_parts info24r
  refine step_append_lies (P := Tryd.prog) w hgd (.tmp s) (.tmp x) 22 ho base 24 i _ 4 56 Tryd.underlying22 hi hz0 hz1 hz2 rfl (by decide) v n xs hs hown ⟨B, 0, none⟩ 1 1 [.int .i64 y0, .int .i64 y1, .string y2, .slice ya yl yc] hx rfl ?_ ?_ (by decide)
    (by simp only [maxLen]; omega) (by omega) hbase H hH h
  · intro j u hu
    exact World.news_of_block hb j u hu
  · intro u hu
    simp only [List.mem_cons, List.not_mem_nil, or_false] at hu
    rcases hu with rfl | rfl | rfl | rfl <;> rfl

theorem vb_step {wr w2 w4 : World} {b g5 n : Nat} {x0 x1 x2 sv y : Value} {cells : List Value} {o : Obj} (h5 : VB wr g5 x0 x1 x2 y) (hrow : wr.ownsRow (g5 + 1) 24 4 sv n cells) (hb : b < g5) (hB2 : Bel b wr.heap.size wr w2)
    (hg : (w2.alloc o).grownBy w4 sv.ownBlock) : VB w4 g5 x0 x1 x2 y := by
  have h1 := h5.lt
  have h2 := hB2.size
  refine Eq.trans ?_ h5
  rw [hg.block g5 (by simp; omega) (fun e => by have := (World.ownsRow.lt hrow g5 e.symm).1; omega), (bal w2 o).block g5 (by omega), hB2.block g5 h1 (by omega)]

theorem LSt.drew {p : Nat → Addr} {b : Nat} {bv : Value} {W wr : World} {g4 g5 : Nat} {xs : List Val} {r : Rd} (h : LSt p b bv W g4 g5 xs r wr) : LSt p b bv W g4 g5 xs r wr.drew := by
  obtain ⟨h1, h2, h3, sv, cells, h4, h5, h6⟩ := h
  exact ⟨h1, h2, ⟨h3.os, h3.tape, h3.output, h3.size, h3.block⟩, sv, cells, h4, h5, Items.keep (w := wr) (w' := wr.drew) (fun _ _ => rfl) (fun _ h => h) h6⟩
end Go.Proofs.YtmkghfkikclodaaDoor
namespace Go.Proofs.YtmkghfkikclodaaDoor
open Go.RowKit

def okByte (b : UInt8) : Bool := decide (32 ≤ (b.toNat : Int)) && decide ((b.toNat : Int) ≤ 126)
/-- bytes from 32 to 126 alone -/
def printed (s : ByteArray) : Bool := s.data.toList.all okByte

def BoolOut (W : World) (z : Bool) (e : Ending) (w' : World) : Prop := e = .returned (.bool z) ∧ Below W.heap.size W w'

theorem size_list (s : ByteArray) : s.data.toList.length = s.size := by simp

theorem printed_drop (s : ByteArray) (k : Nat) (h : k < s.size) : (s.data.toList.drop k).all okByte = (okByte s[k] && (s.data.toList.drop (k + 1)).all okByte) := by
  have : s.data.toList.drop k = s[k] :: s.data.toList.drop (k + 1) := by
    have h' : k < s.data.toList.length := by simpa using h
    rw [List.drop_eq_getElem_cons h']
    rfl
  rw [this, List.all_cons]

theorem printable_any (s : ByteArray) (w : World) (hs : s.size ≤ 9223372036854775807) : Calls Tryd.prog 72 #[.string s] w (BoolOut w (printed s)) := by
  go_enter Tryd.func72, Tryd.ntmps72
  go_wp2
  go_loopw [6] (fun i wr => ∃ k : Nat, k ≤ s.size ∧ i = .int .i64 k ∧ Below w.heap.size w wr ∧ Hid (printed s = (s.data.toList.drop k).all okByte)) (fun i _ => s.size - (intOf i).toNat)
  case atStart => exact ⟨0, Nat.zero_le _, rfl, Below.refl _ _, rfl⟩
  case round =>
    obtain ⟨k, hk, rfl, hB, hP⟩ := hrel
    by_cases hlt : k < s.size
    · have hP2 := hP.out
      rw [printed_drop s k hlt] at hP2
      generalize hc : s[k] = c at hP2
      by_cases h1 : (c.toNat : Int) < 32
      · have e1 : okByte c = false := by simp [okByte]; omega
        rw [e1, Bool.false_and] at hP2
        have HP := Lib.hid hP2
        clear hP2 hP e1
        have hc' := hc
        go_wp2
        go_ret
        rw [HP.out]
        exact ⟨rfl, hB⟩
      · by_cases h2 : 126 < (c.toNat : Int)
        · have e1 : okByte c = false := by simp [okByte]; omega
          rw [e1, Bool.false_and] at hP2
          have HP := Lib.hid hP2
          clear hP2 hP e1
          go_wp2
          go_ret
          rw [HP.out]
          exact ⟨rfl, hB⟩
        · have e1 : okByte c = true := by simp [okByte]; omega
          rw [e1, Bool.true_and] at hP2
          have HP := Lib.hid hP2
          clear hP2 hP e1
          go_wp2
          go_roundw
          case rel => exact ⟨k + 1, by omega, by go_num, hB, HP⟩
          case measure => simp [intOf]; omega
    · have hP2 := hP.out
      have he : s.data.toList.drop k = [] := List.drop_eq_nil_of_le (by rw [size_list]; omega)
      rw [he, List.all_nil] at hP2
      have HP := Lib.hid hP2
      clear hP2 hP he
      go_wp2
      go_ret
      rw [HP.out]
      exact ⟨rfl, hB⟩

theorem printed_any (s : ByteArray) (w : World) (hs : s.size ≤ 9223358036854775807) : Calls Tryd.prog 58 #[.string s] w (BoolOut w (printed s)) := by
  go_enter Tryd.func58, Tryd.ntmps58
  go_wp2
  go_loopw [3] (fun i wr => ∃ k : Nat, k ≤ s.size ∧ i = .int .i64 k ∧ Below w.heap.size w wr ∧ Hid (printed s = (s.data.toList.drop k).all okByte)) (fun i _ => s.size - (intOf i).toNat)
  case atStart => exact ⟨0, Nat.zero_le _, rfl, Below.refl _ _, rfl⟩
  case round =>
    obtain ⟨k, hk, rfl, hB, hP⟩ := hrel
    by_cases hlt : k < s.size
    · have hP2 := hP.out
      rw [printed_drop s k hlt] at hP2
      generalize hc : s[k] = c at hP2
      by_cases h1 : (c.toNat : Int) < 32
      · have e1 : okByte c = false := by simp [okByte]; omega
        rw [e1, Bool.false_and] at hP2
        have HP := Lib.hid hP2
        clear hP2 hP e1
        have hc' := hc
        go_wp2
        go_ret
        rw [HP.out]
        exact ⟨rfl, hB⟩
      · by_cases h2 : 126 < (c.toNat : Int)
        · have e1 : okByte c = false := by simp [okByte]; omega
          rw [e1, Bool.false_and] at hP2
          have HP := Lib.hid hP2
          clear hP2 hP e1
          go_wp2
          go_ret
          rw [HP.out]
          exact ⟨rfl, hB⟩
        · have e1 : okByte c = true := by simp [okByte]; omega
          rw [e1, Bool.true_and] at hP2
          have HP := Lib.hid hP2
          clear hP2 hP e1
          go_wp2
          go_roundw
          case rel => exact ⟨k + 1, by omega, by go_num, hB, HP⟩
          case measure => simp [intOf]; omega
    · have hP2 := hP.out
      have he : s.data.toList.drop k = [] := List.drop_eq_nil_of_le (by rw [size_list]; omega)
      rw [he, List.all_nil] at hP2
      have HP := Lib.hid hP2
      clear hP2 hP he
      go_wp2
      go_ret
      rw [HP.out]
      exact ⟨rfl, hB⟩

/-- what is amiss with what a value itself has: the number of the error's variable -/
def ownG (k n : Int) (s : ByteArray) (len : Nat) : Option Nat :=
  if k < 0 ∨ 4 < k then some 3
  else if (k = 1 ∧ (n < -2147483648 ∨ 2147483647 < n)) ∨ (k = 3 ∧ (n < 0 ∨ 14 < n)) then some 3
  else if ((k = 2 ∨ k = 4) ∧ n ≠ 0) ∨ (k ≠ 2 ∧ s.size ≠ 0) ∨ (k ≠ 4 ∧ len ≠ 0) then some 2
  else if printed s = true then Option.none else some 2

theorem toList_nil (s : ByteArray) : s.toList = [] ↔ s.size = 0 := by
  rw [Lib.toList_data, ← size_list]
  exact List.length_eq_zero_iff.symm

def ErrOut (p : Nat → Addr) (W : World) (g : Option Nat) (e : Ending) (w' : World) : Prop := e = .returned (errO p g) ∧ Below W.heap.size W w'

set_option maxRecDepth 100000 in
set_option maxHeartbeats 2000000 in
theorem own_any (p : Nat → Addr) (k n : Int) (s : ByteArray) (a : Option Addr) (len c : Nat) (w : World) (hE : Errs 5 p w) (hf : Fits k n s len) (hw : 5 ≤ w.heap.size) :
    Calls Tryd.prog 57 #[.agg #[.int .i64 k, .int .i64 n, .string s, .slice a len c]] w (ErrOut p w (ownG k n s len)) := by
  obtain ⟨f1, f2, f3, f4, f5, f6⟩ := hf
  have hP := Lib.hid fun (w' : World) => printable_any s w' f5
  by_cases hl : len = 0
  · subst hl
    have HE := Lib.hid hE
    have hb := bal w (.cells #[.int .i64 k, .int .i64 n, .string s, .slice a 0 c] 24)
    have e2 := hE.below hb hw 2 (by decide)
    have e3 := hE.below hb hw 3 (by decide)
    unfold errV at e2 e3
    clear hE hb
    have hk : k < 0 ∨ 4 < k ∨ k = 0 ∨ k = 1 ∨ (k = 2 ∧ n = 0) ∨ (k = 2 ∧ ¬ n = 0) ∨ k = 3 ∨ (k = 4 ∧ n = 0) ∨ (k = 4 ∧ ¬ n = 0) := by omega
    rcases hk with hk | hk | rfl | rfl | ⟨rfl, rfl⟩ | ⟨rfl, hn⟩ | rfl | ⟨rfl, rfl⟩ | ⟨rfl, hn⟩
    · go_enter Tryd.func57, Tryd.ntmps57
      go_wp2_with fail
      all_goals first
        | (go_ret
           try have hz := (toList_nil s).1 (by assumption)
           try have hz := mt (toList_nil s).2 (by assumption)
           refine ⟨?_, bal w _⟩
           first
             | (have hq : ownG k n s 0 = some 2 := by (unfold ownG; (repeat' split); all_goals (first | rfl | (exfalso; omega)))
                rw [hq]; rfl)
             | (have hq : ownG k n s 0 = some 3 := by (unfold ownG; (repeat' split); all_goals (first | rfl | (exfalso; omega)))
                rw [hq]; rfl))
    · go_enter Tryd.func57, Tryd.ntmps57
      go_wp2_with fail
      all_goals first
        | (go_ret
           try have hz := (toList_nil s).1 (by assumption)
           try have hz := mt (toList_nil s).2 (by assumption)
           refine ⟨?_, bal w _⟩
           first
             | (have hq : ownG k n s 0 = some 2 := by (unfold ownG; (repeat' split); all_goals (first | rfl | (exfalso; omega)))
                rw [hq]; rfl)
             | (have hq : ownG k n s 0 = some 3 := by (unfold ownG; (repeat' split); all_goals (first | rfl | (exfalso; omega)))
                rw [hq]; rfl))
    · go_enter Tryd.func57, Tryd.ntmps57
      go_wp2_with fail
      all_goals first
        | (go_ret
           try have hz := (toList_nil s).1 (by assumption)
           try have hz := mt (toList_nil s).2 (by assumption)
           refine ⟨?_, bal w _⟩
           first
             | (have hq : ownG 0 n s 0 = some 2 := by (unfold ownG; (repeat' split); all_goals (first | rfl | (exfalso; omega)))
                rw [hq]; rfl)
             | (have hq : ownG 0 n s 0 = some 3 := by (unfold ownG; (repeat' split); all_goals (first | rfl | (exfalso; omega)))
                rw [hq]; rfl))
        | (refine (hP.out _).mono ?_
           rintro e w1 ⟨rfl, hB1⟩
           have e2' := (Errs.below (HE.out.below (bal w _) hw) hB1 (by simp; omega)) 2 (by decide)
           unfold errV at e2'
           have HB1 := Lib.hid hB1
           try have hz := (toList_nil s).1 (by assumption)
           try have hz := mt (toList_nil s).2 (by assumption)
           have hq : ownG 0 n s 0 = if printed s = true then Option.none else some 2 := by (unfold ownG; rw [if_neg (by omega), if_neg (by omega), if_neg (by omega)])
           have HQ := Lib.hid hq
           clear hB1 hq
           cases hpr : printed s
           all_goals rw [hpr] at HQ
           all_goals go_wp2
           all_goals go_ret
           all_goals rw [HQ.out]
           all_goals exact ⟨rfl, (bal w _).trans (HB1.out.mono (by simp))⟩)
    · go_enter Tryd.func57, Tryd.ntmps57
      go_wp2_with fail
      all_goals first
        | (go_ret
           try have hz := (toList_nil s).1 (by assumption)
           try have hz := mt (toList_nil s).2 (by assumption)
           refine ⟨?_, bal w _⟩
           first
             | (have hq : ownG 1 n s 0 = some 2 := by (unfold ownG; (repeat' split); all_goals (first | rfl | (exfalso; omega)))
                rw [hq]; rfl)
             | (have hq : ownG 1 n s 0 = some 3 := by (unfold ownG; (repeat' split); all_goals (first | rfl | (exfalso; omega)))
                rw [hq]; rfl))
        | (refine (hP.out _).mono ?_
           rintro e w1 ⟨rfl, hB1⟩
           have e2' := (Errs.below (HE.out.below (bal w _) hw) hB1 (by simp; omega)) 2 (by decide)
           unfold errV at e2'
           have HB1 := Lib.hid hB1
           try have hz := (toList_nil s).1 (by assumption)
           try have hz := mt (toList_nil s).2 (by assumption)
           have hq : ownG 1 n s 0 = if printed s = true then Option.none else some 2 := by (unfold ownG; rw [if_neg (by omega), if_neg (by omega), if_neg (by omega)])
           have HQ := Lib.hid hq
           clear hB1 hq
           cases hpr : printed s
           all_goals rw [hpr] at HQ
           all_goals go_wp2
           all_goals go_ret
           all_goals rw [HQ.out]
           all_goals exact ⟨rfl, (bal w _).trans (HB1.out.mono (by simp))⟩)
    · go_enter Tryd.func57, Tryd.ntmps57
      go_wp2_with fail
      all_goals first
        | (go_ret
           try have hz := (toList_nil s).1 (by assumption)
           try have hz := mt (toList_nil s).2 (by assumption)
           refine ⟨?_, bal w _⟩
           first
             | (have hq : ownG 2 0 s 0 = some 2 := by (unfold ownG; (repeat' split); all_goals (first | rfl | (exfalso; omega)))
                rw [hq]; rfl)
             | (have hq : ownG 2 0 s 0 = some 3 := by (unfold ownG; (repeat' split); all_goals (first | rfl | (exfalso; omega)))
                rw [hq]; rfl))
        | (refine (hP.out _).mono ?_
           rintro e w1 ⟨rfl, hB1⟩
           have e2' := (Errs.below (HE.out.below (bal w _) hw) hB1 (by simp; omega)) 2 (by decide)
           unfold errV at e2'
           have HB1 := Lib.hid hB1
           try have hz := (toList_nil s).1 (by assumption)
           try have hz := mt (toList_nil s).2 (by assumption)
           have hq : ownG 2 0 s 0 = if printed s = true then Option.none else some 2 := by (unfold ownG; rw [if_neg (by omega), if_neg (by omega), if_neg (by omega)])
           have HQ := Lib.hid hq
           clear hB1 hq
           cases hpr : printed s
           all_goals rw [hpr] at HQ
           all_goals go_wp2
           all_goals go_ret
           all_goals rw [HQ.out]
           all_goals exact ⟨rfl, (bal w _).trans (HB1.out.mono (by simp))⟩)
    · have hnb : (n != 0) = true := by simp [hn]
      go_enter Tryd.func57, Tryd.ntmps57
      go_wp2_with fail
      all_goals first
        | (go_ret
           try have hz := (toList_nil s).1 (by assumption)
           try have hz := mt (toList_nil s).2 (by assumption)
           refine ⟨?_, bal w _⟩
           first
             | (have hq : ownG 2 n s 0 = some 2 := by (unfold ownG; (repeat' split); all_goals (first | rfl | (exfalso; omega)))
                rw [hq]; rfl)
             | (have hq : ownG 2 n s 0 = some 3 := by (unfold ownG; (repeat' split); all_goals (first | rfl | (exfalso; omega)))
                rw [hq]; rfl))
        | (refine (hP.out _).mono ?_
           rintro e w1 ⟨rfl, hB1⟩
           have e2' := (Errs.below (HE.out.below (bal w _) hw) hB1 (by simp; omega)) 2 (by decide)
           unfold errV at e2'
           have HB1 := Lib.hid hB1
           try have hz := (toList_nil s).1 (by assumption)
           try have hz := mt (toList_nil s).2 (by assumption)
           have hq : ownG 2 n s 0 = if printed s = true then Option.none else some 2 := by (unfold ownG; rw [if_neg (by omega), if_neg (by omega), if_neg (by omega)])
           have HQ := Lib.hid hq
           clear hB1 hq
           cases hpr : printed s
           all_goals rw [hpr] at HQ
           all_goals go_wp2
           all_goals go_ret
           all_goals rw [HQ.out]
           all_goals exact ⟨rfl, (bal w _).trans (HB1.out.mono (by simp))⟩)
    · go_enter Tryd.func57, Tryd.ntmps57
      go_wp2_with fail
      all_goals first
        | (go_ret
           try have hz := (toList_nil s).1 (by assumption)
           try have hz := mt (toList_nil s).2 (by assumption)
           refine ⟨?_, bal w _⟩
           first
             | (have hq : ownG 3 n s 0 = some 2 := by (unfold ownG; (repeat' split); all_goals (first | rfl | (exfalso; omega)))
                rw [hq]; rfl)
             | (have hq : ownG 3 n s 0 = some 3 := by (unfold ownG; (repeat' split); all_goals (first | rfl | (exfalso; omega)))
                rw [hq]; rfl))
        | (refine (hP.out _).mono ?_
           rintro e w1 ⟨rfl, hB1⟩
           have e2' := (Errs.below (HE.out.below (bal w _) hw) hB1 (by simp; omega)) 2 (by decide)
           unfold errV at e2'
           have HB1 := Lib.hid hB1
           try have hz := (toList_nil s).1 (by assumption)
           try have hz := mt (toList_nil s).2 (by assumption)
           have hq : ownG 3 n s 0 = if printed s = true then Option.none else some 2 := by (unfold ownG; rw [if_neg (by omega), if_neg (by omega), if_neg (by omega)])
           have HQ := Lib.hid hq
           clear hB1 hq
           cases hpr : printed s
           all_goals rw [hpr] at HQ
           all_goals go_wp2
           all_goals go_ret
           all_goals rw [HQ.out]
           all_goals exact ⟨rfl, (bal w _).trans (HB1.out.mono (by simp))⟩)
    · go_enter Tryd.func57, Tryd.ntmps57
      go_wp2_with fail
      all_goals first
        | (go_ret
           try have hz := (toList_nil s).1 (by assumption)
           try have hz := mt (toList_nil s).2 (by assumption)
           refine ⟨?_, bal w _⟩
           first
             | (have hq : ownG 4 0 s 0 = some 2 := by (unfold ownG; (repeat' split); all_goals (first | rfl | (exfalso; omega)))
                rw [hq]; rfl)
             | (have hq : ownG 4 0 s 0 = some 3 := by (unfold ownG; (repeat' split); all_goals (first | rfl | (exfalso; omega)))
                rw [hq]; rfl))
        | (refine (hP.out _).mono ?_
           rintro e w1 ⟨rfl, hB1⟩
           have e2' := (Errs.below (HE.out.below (bal w _) hw) hB1 (by simp; omega)) 2 (by decide)
           unfold errV at e2'
           have HB1 := Lib.hid hB1
           try have hz := (toList_nil s).1 (by assumption)
           try have hz := mt (toList_nil s).2 (by assumption)
           have hq : ownG 4 0 s 0 = if printed s = true then Option.none else some 2 := by (unfold ownG; rw [if_neg (by omega), if_neg (by omega), if_neg (by omega)])
           have HQ := Lib.hid hq
           clear hB1 hq
           cases hpr : printed s
           all_goals rw [hpr] at HQ
           all_goals go_wp2
           all_goals go_ret
           all_goals rw [HQ.out]
           all_goals exact ⟨rfl, (bal w _).trans (HB1.out.mono (by simp))⟩)
    · have hnb : (n != 0) = true := by simp [hn]
      go_enter Tryd.func57, Tryd.ntmps57
      go_wp2_with fail
      all_goals first
        | (go_ret
           try have hz := (toList_nil s).1 (by assumption)
           try have hz := mt (toList_nil s).2 (by assumption)
           refine ⟨?_, bal w _⟩
           first
             | (have hq : ownG 4 n s 0 = some 2 := by (unfold ownG; (repeat' split); all_goals (first | rfl | (exfalso; omega)))
                rw [hq]; rfl)
             | (have hq : ownG 4 n s 0 = some 3 := by (unfold ownG; (repeat' split); all_goals (first | rfl | (exfalso; omega)))
                rw [hq]; rfl))
        | (refine (hP.out _).mono ?_
           rintro e w1 ⟨rfl, hB1⟩
           have e2' := (Errs.below (HE.out.below (bal w _) hw) hB1 (by simp; omega)) 2 (by decide)
           unfold errV at e2'
           have HB1 := Lib.hid hB1
           try have hz := (toList_nil s).1 (by assumption)
           try have hz := mt (toList_nil s).2 (by assumption)
           have hq : ownG 4 n s 0 = if printed s = true then Option.none else some 2 := by (unfold ownG; rw [if_neg (by omega), if_neg (by omega), if_neg (by omega)])
           have HQ := Lib.hid hq
           clear hB1 hq
           cases hpr : printed s
           all_goals rw [hpr] at HQ
           all_goals go_wp2
           all_goals go_ret
           all_goals rw [HQ.out]
           all_goals exact ⟨rfl, (bal w _).trans (HB1.out.mono (by simp))⟩)
  · have HE := Lib.hid hE
    have hb := bal w (.cells #[.int .i64 k, .int .i64 n, .string s, .slice a len c] 24)
    have e2 := hE.below hb hw 2 (by decide)
    have e3 := hE.below hb hw 3 (by decide)
    unfold errV at e2 e3
    clear hE hb
    have hk : k < 0 ∨ 4 < k ∨ k = 0 ∨ k = 1 ∨ (k = 2 ∧ n = 0) ∨ (k = 2 ∧ ¬ n = 0) ∨ k = 3 ∨ (k = 4 ∧ n = 0) ∨ (k = 4 ∧ ¬ n = 0) := by omega
    rcases hk with hk | hk | rfl | rfl | ⟨rfl, rfl⟩ | ⟨rfl, hn⟩ | rfl | ⟨rfl, rfl⟩ | ⟨rfl, hn⟩
    · go_enter Tryd.func57, Tryd.ntmps57
      go_wp2_with fail
      all_goals first
        | (go_ret
           try have hz := (toList_nil s).1 (by assumption)
           try have hz := mt (toList_nil s).2 (by assumption)
           refine ⟨?_, bal w _⟩
           first
             | (have hq : ownG k n s len = some 2 := by (unfold ownG; (repeat' split); all_goals (first | rfl | (exfalso; omega)))
                rw [hq]; rfl)
             | (have hq : ownG k n s len = some 3 := by (unfold ownG; (repeat' split); all_goals (first | rfl | (exfalso; omega)))
                rw [hq]; rfl))
    · go_enter Tryd.func57, Tryd.ntmps57
      go_wp2_with fail
      all_goals first
        | (go_ret
           try have hz := (toList_nil s).1 (by assumption)
           try have hz := mt (toList_nil s).2 (by assumption)
           refine ⟨?_, bal w _⟩
           first
             | (have hq : ownG k n s len = some 2 := by (unfold ownG; (repeat' split); all_goals (first | rfl | (exfalso; omega)))
                rw [hq]; rfl)
             | (have hq : ownG k n s len = some 3 := by (unfold ownG; (repeat' split); all_goals (first | rfl | (exfalso; omega)))
                rw [hq]; rfl))
    · go_enter Tryd.func57, Tryd.ntmps57
      go_wp2_with fail
      all_goals first
        | (go_ret
           try have hz := (toList_nil s).1 (by assumption)
           try have hz := mt (toList_nil s).2 (by assumption)
           refine ⟨?_, bal w _⟩
           first
             | (have hq : ownG 0 n s len = some 2 := by (unfold ownG; (repeat' split); all_goals (first | rfl | (exfalso; omega)))
                rw [hq]; rfl)
             | (have hq : ownG 0 n s len = some 3 := by (unfold ownG; (repeat' split); all_goals (first | rfl | (exfalso; omega)))
                rw [hq]; rfl))
        | (refine (hP.out _).mono ?_
           rintro e w1 ⟨rfl, hB1⟩
           have e2' := (Errs.below (HE.out.below (bal w _) hw) hB1 (by simp; omega)) 2 (by decide)
           unfold errV at e2'
           have HB1 := Lib.hid hB1
           try have hz := (toList_nil s).1 (by assumption)
           try have hz := mt (toList_nil s).2 (by assumption)
           have hq : ownG 0 n s len = if printed s = true then Option.none else some 2 := by (unfold ownG; rw [if_neg (by omega), if_neg (by omega), if_neg (by omega)])
           have HQ := Lib.hid hq
           clear hB1 hq
           cases hpr : printed s
           all_goals rw [hpr] at HQ
           all_goals go_wp2
           all_goals go_ret
           all_goals rw [HQ.out]
           all_goals exact ⟨rfl, (bal w _).trans (HB1.out.mono (by simp))⟩)
    · go_enter Tryd.func57, Tryd.ntmps57
      go_wp2_with fail
      all_goals first
        | (go_ret
           try have hz := (toList_nil s).1 (by assumption)
           try have hz := mt (toList_nil s).2 (by assumption)
           refine ⟨?_, bal w _⟩
           first
             | (have hq : ownG 1 n s len = some 2 := by (unfold ownG; (repeat' split); all_goals (first | rfl | (exfalso; omega)))
                rw [hq]; rfl)
             | (have hq : ownG 1 n s len = some 3 := by (unfold ownG; (repeat' split); all_goals (first | rfl | (exfalso; omega)))
                rw [hq]; rfl))
        | (refine (hP.out _).mono ?_
           rintro e w1 ⟨rfl, hB1⟩
           have e2' := (Errs.below (HE.out.below (bal w _) hw) hB1 (by simp; omega)) 2 (by decide)
           unfold errV at e2'
           have HB1 := Lib.hid hB1
           try have hz := (toList_nil s).1 (by assumption)
           try have hz := mt (toList_nil s).2 (by assumption)
           have hq : ownG 1 n s len = if printed s = true then Option.none else some 2 := by (unfold ownG; rw [if_neg (by omega), if_neg (by omega), if_neg (by omega)])
           have HQ := Lib.hid hq
           clear hB1 hq
           cases hpr : printed s
           all_goals rw [hpr] at HQ
           all_goals go_wp2
           all_goals go_ret
           all_goals rw [HQ.out]
           all_goals exact ⟨rfl, (bal w _).trans (HB1.out.mono (by simp))⟩)
    · go_enter Tryd.func57, Tryd.ntmps57
      go_wp2_with fail
      all_goals first
        | (go_ret
           try have hz := (toList_nil s).1 (by assumption)
           try have hz := mt (toList_nil s).2 (by assumption)
           refine ⟨?_, bal w _⟩
           first
             | (have hq : ownG 2 0 s len = some 2 := by (unfold ownG; (repeat' split); all_goals (first | rfl | (exfalso; omega)))
                rw [hq]; rfl)
             | (have hq : ownG 2 0 s len = some 3 := by (unfold ownG; (repeat' split); all_goals (first | rfl | (exfalso; omega)))
                rw [hq]; rfl))
        | (refine (hP.out _).mono ?_
           rintro e w1 ⟨rfl, hB1⟩
           have e2' := (Errs.below (HE.out.below (bal w _) hw) hB1 (by simp; omega)) 2 (by decide)
           unfold errV at e2'
           have HB1 := Lib.hid hB1
           try have hz := (toList_nil s).1 (by assumption)
           try have hz := mt (toList_nil s).2 (by assumption)
           have hq : ownG 2 0 s len = if printed s = true then Option.none else some 2 := by (unfold ownG; rw [if_neg (by omega), if_neg (by omega), if_neg (by omega)])
           have HQ := Lib.hid hq
           clear hB1 hq
           cases hpr : printed s
           all_goals rw [hpr] at HQ
           all_goals go_wp2
           all_goals go_ret
           all_goals rw [HQ.out]
           all_goals exact ⟨rfl, (bal w _).trans (HB1.out.mono (by simp))⟩)
    · have hnb : (n != 0) = true := by simp [hn]
      go_enter Tryd.func57, Tryd.ntmps57
      go_wp2_with fail
      all_goals first
        | (go_ret
           try have hz := (toList_nil s).1 (by assumption)
           try have hz := mt (toList_nil s).2 (by assumption)
           refine ⟨?_, bal w _⟩
           first
             | (have hq : ownG 2 n s len = some 2 := by (unfold ownG; (repeat' split); all_goals (first | rfl | (exfalso; omega)))
                rw [hq]; rfl)
             | (have hq : ownG 2 n s len = some 3 := by (unfold ownG; (repeat' split); all_goals (first | rfl | (exfalso; omega)))
                rw [hq]; rfl))
        | (refine (hP.out _).mono ?_
           rintro e w1 ⟨rfl, hB1⟩
           have e2' := (Errs.below (HE.out.below (bal w _) hw) hB1 (by simp; omega)) 2 (by decide)
           unfold errV at e2'
           have HB1 := Lib.hid hB1
           try have hz := (toList_nil s).1 (by assumption)
           try have hz := mt (toList_nil s).2 (by assumption)
           have hq : ownG 2 n s len = if printed s = true then Option.none else some 2 := by (unfold ownG; rw [if_neg (by omega), if_neg (by omega), if_neg (by omega)])
           have HQ := Lib.hid hq
           clear hB1 hq
           cases hpr : printed s
           all_goals rw [hpr] at HQ
           all_goals go_wp2
           all_goals go_ret
           all_goals rw [HQ.out]
           all_goals exact ⟨rfl, (bal w _).trans (HB1.out.mono (by simp))⟩)
    · go_enter Tryd.func57, Tryd.ntmps57
      go_wp2_with fail
      all_goals first
        | (go_ret
           try have hz := (toList_nil s).1 (by assumption)
           try have hz := mt (toList_nil s).2 (by assumption)
           refine ⟨?_, bal w _⟩
           first
             | (have hq : ownG 3 n s len = some 2 := by (unfold ownG; (repeat' split); all_goals (first | rfl | (exfalso; omega)))
                rw [hq]; rfl)
             | (have hq : ownG 3 n s len = some 3 := by (unfold ownG; (repeat' split); all_goals (first | rfl | (exfalso; omega)))
                rw [hq]; rfl))
        | (refine (hP.out _).mono ?_
           rintro e w1 ⟨rfl, hB1⟩
           have e2' := (Errs.below (HE.out.below (bal w _) hw) hB1 (by simp; omega)) 2 (by decide)
           unfold errV at e2'
           have HB1 := Lib.hid hB1
           try have hz := (toList_nil s).1 (by assumption)
           try have hz := mt (toList_nil s).2 (by assumption)
           have hq : ownG 3 n s len = if printed s = true then Option.none else some 2 := by (unfold ownG; rw [if_neg (by omega), if_neg (by omega), if_neg (by omega)])
           have HQ := Lib.hid hq
           clear hB1 hq
           cases hpr : printed s
           all_goals rw [hpr] at HQ
           all_goals go_wp2
           all_goals go_ret
           all_goals rw [HQ.out]
           all_goals exact ⟨rfl, (bal w _).trans (HB1.out.mono (by simp))⟩)
    · go_enter Tryd.func57, Tryd.ntmps57
      go_wp2_with fail
      all_goals first
        | (go_ret
           try have hz := (toList_nil s).1 (by assumption)
           try have hz := mt (toList_nil s).2 (by assumption)
           refine ⟨?_, bal w _⟩
           first
             | (have hq : ownG 4 0 s len = some 2 := by (unfold ownG; (repeat' split); all_goals (first | rfl | (exfalso; omega)))
                rw [hq]; rfl)
             | (have hq : ownG 4 0 s len = some 3 := by (unfold ownG; (repeat' split); all_goals (first | rfl | (exfalso; omega)))
                rw [hq]; rfl))
        | (refine (hP.out _).mono ?_
           rintro e w1 ⟨rfl, hB1⟩
           have e2' := (Errs.below (HE.out.below (bal w _) hw) hB1 (by simp; omega)) 2 (by decide)
           unfold errV at e2'
           have HB1 := Lib.hid hB1
           try have hz := (toList_nil s).1 (by assumption)
           try have hz := mt (toList_nil s).2 (by assumption)
           have hq : ownG 4 0 s len = if printed s = true then Option.none else some 2 := by (unfold ownG; rw [if_neg (by omega), if_neg (by omega), if_neg (by omega)])
           have HQ := Lib.hid hq
           clear hB1 hq
           cases hpr : printed s
           all_goals rw [hpr] at HQ
           all_goals go_wp2
           all_goals go_ret
           all_goals rw [HQ.out]
           all_goals exact ⟨rfl, (bal w _).trans (HB1.out.mono (by simp))⟩)
    · have hnb : (n != 0) = true := by simp [hn]
      go_enter Tryd.func57, Tryd.ntmps57
      go_wp2_with fail
      all_goals first
        | (go_ret
           try have hz := (toList_nil s).1 (by assumption)
           try have hz := mt (toList_nil s).2 (by assumption)
           refine ⟨?_, bal w _⟩
           first
             | (have hq : ownG 4 n s len = some 2 := by (unfold ownG; (repeat' split); all_goals (first | rfl | (exfalso; omega)))
                rw [hq]; rfl)
             | (have hq : ownG 4 n s len = some 3 := by (unfold ownG; (repeat' split); all_goals (first | rfl | (exfalso; omega)))
                rw [hq]; rfl))
        | (refine (hP.out _).mono ?_
           rintro e w1 ⟨rfl, hB1⟩
           have e2' := (Errs.below (HE.out.below (bal w _) hw) hB1 (by simp; omega)) 2 (by decide)
           unfold errV at e2'
           have HB1 := Lib.hid hB1
           try have hz := (toList_nil s).1 (by assumption)
           try have hz := mt (toList_nil s).2 (by assumption)
           have hq : ownG 4 n s len = if printed s = true then Option.none else some 2 := by (unfold ownG; rw [if_neg (by omega), if_neg (by omega), if_neg (by omega)])
           have HQ := Lib.hid hq
           clear hB1 hq
           cases hpr : printed s
           all_goals rw [hpr] at HQ
           all_goals go_wp2
           all_goals go_ret
           all_goals rw [HQ.out]
           all_goals exact ⟨rfl, (bal w _).trans (HB1.out.mono (by simp))⟩)
end Go.Proofs.YtmkghfkikclodaaDoor
