/- The reader of bytes: where it stands, what it met; errors as they lie in the package's variables. -/
import Derived.Test.YtmkghfkikclodaaDoorVal
import Derived.Test.YtmkghfkikclodaaDoorOwn
import Derived.Deep.QuietTactic
import Derived.BigQuiet
import Derived.Lib.SmallJoins
import Derived.Deep.Heap
import Derived.Handy
namespace Go.Proofs.YtmkghfkikclodaaDoor
open Go.RowKit

/-- Below block B the world is as it was, but for block b. -/
structure Bel (b B : Nat) (w w' : World) : Prop where
  os : w'.os = w.os
  tape : w'.tape = w.tape
  output : w'.output = w.output
  size : w.heap.size ≤ w'.heap.size
  block : ∀ k, k < B → k ≠ b → w'.heap[k]? = w.heap[k]?

theorem Bel.refl (b B : Nat) (w : World) : Bel b B w w := ⟨rfl, rfl, rfl, Nat.le_refl _, fun _ _ _ => rfl⟩
theorem Bel.trans {b B : Nat} {u v w : World} (h : Bel b B u v) (k : Bel b B v w) : Bel b B u w :=
  ⟨k.os.trans h.os, k.tape.trans h.tape, k.output.trans h.output, Nat.le_trans h.size k.size, fun i hi hb => (k.block i hi hb).trans (h.block i hi hb)⟩
theorem Bel.mono {b B B' : Nat} {w w' : World} (h : Bel b B w w') (hb : B' ≤ B) : Bel b B' w w' := ⟨h.os, h.tape, h.output, h.size, fun k hk hn => h.block k (by omega) hn⟩
theorem Bel.of {b B : Nat} {w w' : World} (h : Below B w w') : Bel b B w w' := ⟨h.os, h.tape, h.output, h.size, fun k hk _ => h.block k hk⟩
theorem Bel.below {b B B' : Nat} {w w' : World} (h : Bel b B w w') (hb : B' ≤ b) (hB : B' ≤ B) : Below B' w w' := ⟨h.os, h.tape, h.output, h.size, fun k hk => h.block k (by omega) (by omega)⟩
theorem Bel.cell {b B : Nat} {w w' : World} (h : Bel b B w w') {p : Addr} (hp : p.block < B) (hn : p.block ≠ b) : w'.cell? p = w.cell? p := World.cell?_of_block (w := w) (h.block p.block hp hn)
theorem Bel.set {b B : Nat} {w w' : World} (h : Bel b B w w') (j : Nat) (v : Value) : Bel b B w (w'.setCell ⟨b, j, none⟩ v) :=
  h.trans ⟨rfl, rfl, rfl, by simp [World.setCell], fun k _ hn => Go.Deep.blk_setCell_other _ _ _ _ hn⟩
theorem Bel.alloc {b B : Nat} {w w' : World} (h : Bel b B w w') (hB : B ≤ w'.heap.size) (o : Obj) : Bel b B w (w'.alloc o) :=
  h.trans (Bel.of ((Below.refl _ _).alloc hB o))
theorem Bel.drewN {b B : Nat} {w w' : World} (h : Bel b B w w') (n : Nat) : Bel b B w (w'.drewN n) := ⟨h.os, h.tape, h.output, h.size, h.block⟩

/-- the error variable g, as an interface value -/
def errV (p : Nat → Addr) (g : Nat) : Value := .iface 128 (.pointer (some (p g)))
def errO (p : Nat → Addr) : Option Nat → Value
  | Option.none => .nilIface
  | some g => errV p g
/-- the first N error variables hold their errors -/
def Errs (N : Nat) (p : Nat → Addr) (w : World) : Prop := ∀ g, g < N → w.cell? ⟨g, 0, none⟩ = some (errV p g)

theorem cell_lt {w : World} {a : Addr} {v : Value} (h : w.cell? a = some v) : a.block < w.heap.size := by
  rcases Nat.lt_or_ge a.block w.heap.size with hl | hl
  · exact hl
  · simp [World.cell?, Array.getElem?_eq_none hl] at h

theorem Errs.bel {N b B : Nat} {p : Nat → Addr} {w w' : World} (h : Errs N p w) (hb : Bel b B w w') (hB : N ≤ B) (hN : N ≤ b) : Errs N p w' :=
  fun g hg => (hb.cell (p := ⟨g, 0, none⟩) (by show g < B; omega) (by show g ≠ b; omega)).trans (h g hg)
theorem Errs.below {N B : Nat} {p : Nat → Addr} {w w' : World} (h : Errs N p w) (hb : Below B w w') (hB : N ≤ B) : Errs N p w' :=
  fun g hg => (hb.cell (p := ⟨g, 0, none⟩) (by show g < B; omega)).trans (h g hg)

/-- block b is a reader: the bytes' slice, where it stands, what it met -/
def RdAt (p : Nat → Addr) (w : World) (b : Nat) (bv : Value) (pos : Nat) (err : Option Nat) : Prop := w.heap[b]? = some (.cells #[bv, .int .i64 pos, errO p err] 57 (0, 0))

section
variable {p : Nat → Addr} {w : World} {b : Nat} {bv : Value} {pos : Nat} {err : Option Nat}
theorem RdAt.c0 (h : RdAt p w b bv pos err) : w.cell? ⟨b, 0, none⟩ = some bv := by rw [Joins.cell_of_block h]; rfl
theorem RdAt.c1 (h : RdAt p w b bv pos err) : w.cell? ⟨b, 1, none⟩ = some (.int .i64 pos) := by rw [Joins.cell_of_block h]; rfl
theorem RdAt.c2 (h : RdAt p w b bv pos err) : w.cell? ⟨b, 2, none⟩ = some (errO p err) := by rw [Joins.cell_of_block h]; rfl
theorem RdAt.fr (h : RdAt p w b bv pos err) (i : Nat) : w.frozen? ⟨b, i, none⟩ = false := Joins.unfrozen_of_block h i
theorem RdAt.lt (h : RdAt p w b bv pos err) : b < w.heap.size := (Array.getElem?_eq_some_iff.1 h).1
theorem RdAt.set1 (h : RdAt p w b bv pos err) (n : Nat) : RdAt p (w.setCell ⟨b, 1, none⟩ (.int .i64 n)) b bv n err := by unfold RdAt; rw [Joins.block_setCell h]; rfl
theorem RdAt.set2 (h : RdAt p w b bv pos err) (g : Nat) : RdAt p (w.setCell ⟨b, 2, none⟩ (errV p g)) b bv pos (some g) := by unfold RdAt; rw [Joins.block_setCell h]; rfl
theorem RdAt.below {w' : World} {B : Nat} (h : RdAt p w b bv pos err) (hb : Below B w w') (hB : b < B) : RdAt p w' b bv pos err := (hb.block b hB).trans h
theorem RdAt.bel {w' : World} {B b' : Nat} (h : RdAt p w b bv pos err) (hb : Bel b' B w w') (hB : b < B) (hn : b ≠ b') : RdAt p w' b bv pos err := (hb.block b hB hn).trans h
end

/-- behind 'r.Fail(err)' -/
def RdPost (p : Nat → Addr) (b : Nat) (bv : Value) (W : World) (v : Value) (pos : Nat) (err : Option Nat) (e : Ending) (w' : World) : Prop := e = .returned v ∧ RdAt p w' b bv pos err ∧ Bel b W.heap.size W w'

theorem fail_any (p : Nat → Addr) (w : World) (b : Nat) (bv : Value) (pos : Nat) (err : Option Nat) (g : Nat) (h : RdAt p w b bv pos err) :
    Calls Tryd.prog 45 #[.pointer (some ⟨b, 0, none⟩), errV p g] w (RdPost p b bv w (.tuple #[]) pos (err.or (some g))) := by
  have c2 := h.c2
  have f2 := h.fr 2
  cases err with
  | none =>
    have hs := h.set2 g
    have HS := Lib.hid hs
    have hB : Hid (Bel b w.heap.size w (w.setCell ⟨b, 2, none⟩ (errV p g))) := (Bel.refl _ _ _).set _ _
    unfold errV at *
    simp only [errO] at c2
    clear hs h
    go_enter Tryd.func45, Tryd.ntmps45
    go_wp2
    go_returns
    exact ⟨rfl, HS.out, hB.out⟩
  | some g' =>
    have H := Lib.hid h
    simp only [errO, errV] at c2
    unfold errV
    clear h
    go_enter Tryd.func45, Tryd.ntmps45
    go_wp2
    go_returns
    exact ⟨rfl, H.out, Bel.refl _ _ _⟩

/-- 'r.Left()' -/
theorem left_any (p : Nat → Addr) (w : World) (b : Nat) (a : Option Addr) (len c : Nat) (pos : Nat) (err : Option Nat) (h : RdAt p w b (.slice a len c) pos err) (hl : len ≤ 9223372036854775807) (hp : pos ≤ 9223372036854775807) :
    Calls Tryd.prog 73 #[.pointer (some ⟨b, 0, none⟩)] w (RdPost p b (.slice a len c) w (.int .i64 ((len : Int) - pos)) pos err) := by
  have c0 := h.c0
  have c1 := h.c1
  have H := Lib.hid h
  clear h
  go_enter Tryd.func73, Tryd.ntmps73
  go_wp2
  go_quiet (fail)
  go_wp2
  go_ret
  exact ⟨by go_num, H.out, (Bel.refl _ _ _).drewN _⟩
end Go.Proofs.YtmkghfkikclodaaDoor
