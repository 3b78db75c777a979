/- The reader of bytes: where it stands, what it met; errors as they lie in the package's variables. The reader reads a number of so many bytes. The reader reads a text. -/
import Derived.Test.YtmkghfkikclodaaDoorVal
import Derived.Test.YtmkghfkikclodaaDoorOwn
import Derived.Deep.QuietTactic
import Derived.BigQuiet
import Derived.Lib.SmallJoins
import Derived.Deep.Heap
import Derived.Handy
import Derived.Laws.BitsAllLaws
set_option linter.unusedVariables false
set_option linter.unusedSimpArgs false
namespace Go.Proofs.YtmkghfkikclodaaDoor
open Go.RowKit

/-- Below block B the world is as it was, but for block b. -/
structure Bel (b B : Nat) (w w' : World) : Prop where
  os : w'.os = w.os
  tape : w'.tape = w.tape
  output : w'.output = w.output
  size : w.heap.size ≤ w'.heap.size
  block : ∀ k, k < B → k ≠ b → w'.heap[k]? = w.heap[k]?

theorem Bel.refl (b B : Nat) (w : World) : Bel b B w w := ⟨rfl, rfl, rfl, Nat.le_refl _, fun _ _ _ => rfl⟩
theorem Bel.trans {b B : Nat} {u v w : World} (h : Bel b B u v) (k : Bel b B v w) : Bel b B u w :=
  ⟨k.os.trans h.os, k.tape.trans h.tape, k.output.trans h.output, Nat.le_trans h.size k.size, fun i hi hb => (k.block i hi hb).trans (h.block i hi hb)⟩
theorem Bel.mono {b B B' : Nat} {w w' : World} (h : Bel b B w w') (hb : B' ≤ B) : Bel b B' w w' := ⟨h.os, h.tape, h.output, h.size, fun k hk hn => h.block k (by omega) hn⟩
theorem Bel.of {b B : Nat} {w w' : World} (h : Below B w w') : Bel b B w w' := ⟨h.os, h.tape, h.output, h.size, fun k hk _ => h.block k hk⟩
theorem Bel.below {b B B' : Nat} {w w' : World} (h : Bel b B w w') (hb : B' ≤ b) (hB : B' ≤ B) : Below B' w w' := ⟨h.os, h.tape, h.output, h.size, fun k hk => h.block k (by omega) (by omega)⟩
theorem Bel.cell {b B : Nat} {w w' : World} (h : Bel b B w w') {p : Addr} (hp : p.block < B) (hn : p.block ≠ b) : w'.cell? p = w.cell? p := World.cell?_of_block (w := w) (h.block p.block hp hn)
theorem Bel.set {b B : Nat} {w w' : World} (h : Bel b B w w') (j : Nat) (v : Value) : Bel b B w (w'.setCell ⟨b, j, none⟩ v) :=
  h.trans ⟨rfl, rfl, rfl, by simp [World.setCell], fun k _ hn => Go.Deep.blk_setCell_other _ _ _ _ hn⟩
theorem Bel.alloc {b B : Nat} {w w' : World} (h : Bel b B w w') (hB : B ≤ w'.heap.size) (o : Obj) : Bel b B w (w'.alloc o) :=
  h.trans (Bel.of ((Below.refl _ _).alloc hB o))
theorem Bel.drewN {b B : Nat} {w w' : World} (h : Bel b B w w') (n : Nat) : Bel b B w (w'.drewN n) := ⟨h.os, h.tape, h.output, h.size, h.block⟩

/-- the error variable g, as an interface value -/
def errV (p : Nat → Addr) (g : Nat) : Value := .iface 128 (.pointer (some (p g)))
def errO (p : Nat → Addr) : Option Nat → Value
  | Option.none => .nilIface
  | some g => errV p g
/-- the first N error variables hold their errors -/
def Errs (N : Nat) (p : Nat → Addr) (w : World) : Prop := ∀ g, g < N → w.cell? ⟨g, 0, none⟩ = some (errV p g)

theorem cell_lt {w : World} {a : Addr} {v : Value} (h : w.cell? a = some v) : a.block < w.heap.size := by
  rcases Nat.lt_or_ge a.block w.heap.size with hl | hl
  · exact hl
  · simp [World.cell?, Array.getElem?_eq_none hl] at h

theorem Errs.bel {N b B : Nat} {p : Nat → Addr} {w w' : World} (h : Errs N p w) (hb : Bel b B w w') (hB : N ≤ B) (hN : N ≤ b) : Errs N p w' :=
  fun g hg => (hb.cell (p := ⟨g, 0, none⟩) (by show g < B; omega) (by show g ≠ b; omega)).trans (h g hg)
theorem Errs.below {N B : Nat} {p : Nat → Addr} {w w' : World} (h : Errs N p w) (hb : Below B w w') (hB : N ≤ B) : Errs N p w' :=
  fun g hg => (hb.cell (p := ⟨g, 0, none⟩) (by show g < B; omega)).trans (h g hg)

/-- block b is a reader: the bytes' slice, where it stands, what it met -/
def RdAt (p : Nat → Addr) (w : World) (b : Nat) (bv : Value) (pos : Nat) (err : Option Nat) : Prop := w.heap[b]? = some (.cells #[bv, .int .i64 pos, errO p err] 57 (0, 0))

section
variable {p : Nat → Addr} {w : World} {b : Nat} {bv : Value} {pos : Nat} {err : Option Nat}
theorem RdAt.c0 (h : RdAt p w b bv pos err) : w.cell? ⟨b, 0, none⟩ = some bv := by rw [Joins.cell_of_block h]; rfl
theorem RdAt.c1 (h : RdAt p w b bv pos err) : w.cell? ⟨b, 1, none⟩ = some (.int .i64 pos) := by rw [Joins.cell_of_block h]; rfl
theorem RdAt.c2 (h : RdAt p w b bv pos err) : w.cell? ⟨b, 2, none⟩ = some (errO p err) := by rw [Joins.cell_of_block h]; rfl
theorem RdAt.fr (h : RdAt p w b bv pos err) (i : Nat) : w.frozen? ⟨b, i, none⟩ = false := Joins.unfrozen_of_block h i
theorem RdAt.lt (h : RdAt p w b bv pos err) : b < w.heap.size := (Array.getElem?_eq_some_iff.1 h).1
theorem RdAt.set1 (h : RdAt p w b bv pos err) (n : Nat) : RdAt p (w.setCell ⟨b, 1, none⟩ (.int .i64 n)) b bv n err := by unfold RdAt; rw [Joins.block_setCell h]; rfl
theorem RdAt.set2 (h : RdAt p w b bv pos err) (g : Nat) : RdAt p (w.setCell ⟨b, 2, none⟩ (errV p g)) b bv pos (some g) := by unfold RdAt; rw [Joins.block_setCell h]; rfl
theorem RdAt.below {w' : World} {B : Nat} (h : RdAt p w b bv pos err) (hb : Below B w w') (hB : b < B) : RdAt p w' b bv pos err := (hb.block b hB).trans h
theorem RdAt.bel {w' : World} {B b' : Nat} (h : RdAt p w b bv pos err) (hb : Bel b' B w w') (hB : b < B) (hn : b ≠ b') : RdAt p w' b bv pos err := (hb.block b hB hn).trans h
end

/-- behind 'r.Fail(err)' -/
def RdPost (p : Nat → Addr) (b : Nat) (bv : Value) (W : World) (v : Value) (pos : Nat) (err : Option Nat) (e : Ending) (w' : World) : Prop := e = .returned v ∧ RdAt p w' b bv pos err ∧ Bel b W.heap.size W w'

theorem fail_any (p : Nat → Addr) (w : World) (b : Nat) (bv : Value) (pos : Nat) (err : Option Nat) (g : Nat) (h : RdAt p w b bv pos err) :
    Calls Tryd.prog 45 #[.pointer (some ⟨b, 0, none⟩), errV p g] w (RdPost p b bv w (.tuple #[]) pos (err.or (some g))) := by
  have c2 := h.c2
  have f2 := h.fr 2
  cases err with
  | none =>
    have hs := h.set2 g
    have HS := Lib.hid hs
    have hB : Hid (Bel b w.heap.size w (w.setCell ⟨b, 2, none⟩ (errV p g))) := (Bel.refl _ _ _).set _ _
    unfold errV at *
    simp only [errO] at c2
    clear hs h
    go_enter Tryd.func45, Tryd.ntmps45
    go_wp2
    go_returns
    exact ⟨rfl, HS.out, hB.out⟩
  | some g' =>
    have H := Lib.hid h
    simp only [errO, errV] at c2
    unfold errV
    clear h
    go_enter Tryd.func45, Tryd.ntmps45
    go_wp2
    go_returns
    exact ⟨rfl, H.out, Bel.refl _ _ _⟩

/-- 'r.Left()' -/
theorem left_any (p : Nat → Addr) (w : World) (b : Nat) (a : Option Addr) (len c : Nat) (pos : Nat) (err : Option Nat) (h : RdAt p w b (.slice a len c) pos err) (hl : len ≤ 9223372036854775807) (hp : pos ≤ 9223372036854775807) :
    Calls Tryd.prog 73 #[.pointer (some ⟨b, 0, none⟩)] w (RdPost p b (.slice a len c) w (.int .i64 ((len : Int) - pos)) pos err) := by
  have c0 := h.c0
  have c1 := h.c1
  have H := Lib.hid h
  clear h
  go_enter Tryd.func73, Tryd.ntmps73
  go_wp2
  go_quiet (fail)
  go_wp2
  go_ret
  exact ⟨by go_num, H.out, (Bel.refl _ _ _).drewN _⟩
end Go.Proofs.YtmkghfkikclodaaDoor
namespace Go.Proofs.YtmkghfkikclodaaDoor
open Go.RowKit

/-- where a reader stands, and what it met -/
abbrev Rd := Nat × Option Nat
def Rd.fail (r : Rd) (g : Nat) : Rd := (r.1, r.2.or (some g))

def byteAt (bs : List UInt8) (i : Nat) : Nat := (bs.getD i 0).toNat
theorem byteAt_lt (bs : List UInt8) (i : Nat) : byteAt bs i < 256 := UInt8.toNat_lt _
/-- so many bytes from a place on, as a number, the lowest first -/
def leN (bs : List UInt8) (pos : Nat) : Nat → Nat
  | 0 => 0
  | i + 1 => leN bs pos i + byteAt bs (pos + i) * 256 ^ i
theorem leN_lt (bs : List UInt8) (pos : Nat) : ∀ m, leN bs pos m < 256 ^ m
  | 0 => by simp [leN]
  | m + 1 => by
    have h1 := leN_lt bs pos m
    have h2 := byteAt_lt bs (pos + m)
    have h3 : byteAt bs (pos + m) * 256 ^ m ≤ 255 * 256 ^ m := Nat.mul_le_mul_right _ (by omega)
    rw [leN, Nat.pow_succ]
    omega

def numM (bs : List UInt8) (m : Nat) (r : Rd) : Nat × Rd :=
  if r.2.isSome ∨ bs.length < r.1 + m then (0, r.fail 4) else (leN bs r.1 m, (r.1 + m, Option.none))

/-- the slice bv holds the bytes bs, in a block below B0 -/
def Bs (B0 : Nat) (w : World) (bv : Value) (bs : List UInt8) : Prop :=
  ∃ a c, bv = .slice a bs.length c ∧ bs.length ≤ c ∧ (bs = [] ∨ ∃ ad, a = some ad ∧ ad.block < B0 ∧ ∀ j (h : j < bs.length), w.cell? (ad.add j) = some (byteV bs[j]))

theorem add_block (ad : Addr) (j : Nat) : (ad.add j).block = ad.block := by unfold Addr.add; split <;> rfl

theorem Bs.bel {B0 b B : Nat} {w w' : World} {bv : Value} {bs : List UInt8} (h : Bs B0 w bv bs) (hb : Bel b B w w') (h1 : B0 ≤ b) (h2 : B0 ≤ B) : Bs B0 w' bv bs := by
  obtain ⟨a, c, rfl, hcap, h3⟩ := h
  refine ⟨a, c, rfl, hcap, ?_⟩
  rcases h3 with h3 | ⟨ad, rfl, hl, hc⟩
  · exact .inl h3
  · exact .inr ⟨ad, rfl, hl, fun j hj => (hb.cell (p := ad.add j) (by rw [add_block]; omega) (by rw [add_block]; omega)).trans (hc j hj)⟩

theorem or_step (n b k : Nat) (hn : n < 256 ^ k) (hb : b < 256) (hk : k < 8) : bits .or .u64 (n : Int) (IntKind.u64.wrap (IntKind.u64.wrap (b : Int) * 2 ^ (8 * k))) = ((n + b * 256 ^ k : Nat) : Int) := by
  have hp : (256 : Nat) ^ k = 2 ^ (8 * k) := by rw [Nat.pow_mul]
  have hp2 : (2 : Nat) ^ (8 * k) ≤ 2 ^ 56 := Nat.pow_le_pow_right (by decide) (by omega)
  rw [hp] at hn ⊢
  have h1 : b * 2 ^ (8 * k) ≤ 255 * 2 ^ (8 * k) := Nat.mul_le_mul_right _ (by omega)
  have e1 : IntKind.u64.wrap (b : Int) = b := IntWalk.u64_in _ ⟨by omega, by omega⟩
  have e2 : ((b : Int) * 2 ^ (8 * k)) = ((b * 2 ^ (8 * k) : Nat) : Int) := by simp
  have e3 : IntKind.u64.wrap ((b * 2 ^ (8 * k) : Nat) : Int) = (b * 2 ^ (8 * k) : Nat) := IntWalk.u64_in _ ⟨by omega, by omega⟩
  rw [e1, e2, e3, u64_or_nat n (b * 2 ^ (8 * k)) (by omega) (by omega)]
  congr 1
  have := Nat.two_pow_add_eq_or_of_lt hn b
  rw [Nat.or_comm, Nat.mul_comm, ← this, Nat.add_comm]

theorem num_any (p : Nat → Addr) (B0 : Nat) (w : World) (b : Nat) (bv : Value) (bs : List UInt8) (r : Rd) (m : Nat) (hm : 0 < m) (hm8 : m ≤ 8) (h : RdAt p w b bv r.1 r.2) (hbs : Bs B0 w bv bs) (hB0 : B0 ≤ b)
    (hE : Errs 5 p w) (hb5 : 5 ≤ b) (hpos : r.1 ≤ bs.length) (hlen : bs.length ≤ 140737488355328) :
    Calls Tryd.prog 59 #[.pointer (some ⟨b, 0, none⟩), .int .i64 m] w (RdPost p b bv w (.int .u64 (numM bs m r).1) (numM bs m r).2.1 (numM bs m r).2.2) := by
  obtain ⟨pos, err⟩ := r
  simp only at h hpos
  have c2 := h.c2
  have hb := h.lt
  obtain ⟨a, c, rfl, -, hcs⟩ := hbs
  have HL := Lib.hid fun (w' : World) (hw : RdAt p w' b (.slice a bs.length c) pos err) => left_any p w' b a bs.length c pos err hw (by omega) (by omega)
  cases err with
  | some g' =>
    have e1 : Hid (numM bs m (pos, some g') = (0, (pos, some g'))) := by show _ = _; simp [numM, Rd.fail]
    have e4 := (hE 4 (by decide))
    have HF := Lib.hid (fail_any p w b (.slice a bs.length c) pos (some g') 4 h)
    simp only [errO, errV] at c2 HF
    simp only [errV] at e4
    clear h hcs HL hE
    go_enter Tryd.func59, Tryd.ntmps59
    go_wp2_with fail
    refine HF.out.mono ?_
    rintro e w1 ⟨rfl, hr, hB⟩
    have HR := Lib.hid hr
    clear hr
    go_wp2
    go_ret
    rw [e1.out]
    exact ⟨rfl, HR.out, hB⟩
  | none =>
    simp only [errO] at c2
    have H := Lib.hid h
    have HL2 := Lib.hid (HL.out w h)
    clear h HL
    by_cases hshort : bs.length < pos + m
    · have e1 : Hid (numM bs m (pos, Option.none) = (0, (pos, some 4))) := by show _ = _; simp [numM, Rd.fail, hshort]
      have HE := Lib.hid hE
      clear hcs hE
      go_enter Tryd.func59, Tryd.ntmps59
      go_wp2_with fail
      refine HL2.out.mono ?_
      rintro e w1 ⟨rfl, hr, hB⟩
      have e4 := (Errs.bel HE.out hB (by omega) (by omega)) 4 (by decide)
      have HF := Lib.hid (fail_any p w1 b (.slice a bs.length c) pos Option.none 4 hr)
      simp only [errV] at e4 HF
      clear hr
      go_wp2_with fail
      refine HF.out.mono ?_
      rintro e w2 ⟨rfl, hr2, hB2⟩
      have HR := Lib.hid hr2
      clear hr2
      go_wp2
      go_ret
      rw [e1.out]
      exact ⟨rfl, HR.out, hB.trans (hB2.mono hB.size)⟩
    · rcases hcs with rfl | ⟨ad, rfl, hlt, hc⟩
      · simp at hshort; omega
      have e1 : Hid (numM bs m (pos, Option.none) = (leN bs pos m, (pos + m, Option.none))) := by show _ = _; simp [numM, hshort]
      have HC := Lib.hid hc
      clear hc hE
      go_enter Tryd.func59, Tryd.ntmps59
      go_wp2_with fail
      refine HL2.out.mono ?_
      rintro e w1 ⟨rfl, hr, hB⟩
      have HR := Lib.hid hr
      clear hr
      go_wp2
      go_loopw [5, 22] (fun n i wr => ∃ k : Nat, k ≤ m ∧ i = .int .i64 k ∧ n = .int .u64 (leN bs pos k) ∧ RdAt p wr b (.slice (some ad) bs.length c) pos Option.none ∧ Bel b w.heap.size w wr)
        (fun _ i _ => m - (intOf i).toNat)
      case atStart => exact ⟨0, Nat.zero_le _, rfl, rfl, HR.out, hB⟩
      case round =>
        clear hB HR
        obtain ⟨k, hk, rfl, rfl, hr, hB⟩ := hrel
        have c0 := hr.c0
        have c1 := hr.c1
        have HR := Lib.hid hr
        clear hr
        by_cases hlt2 : k < m
        · have hby : wr.cell? (ad.add (pos + k)) = some (byteV bs[pos + k]) := by
            rw [hB.cell (p := ad.add (pos + k)) (by rw [add_block]; omega) (by rw [add_block]; omega)]
            exact HC.out (pos + k) (by omega)
          unfold byteV at hby
          go_wp2
          go_quiet (fail)
          go_wp2
          refine ⟨⟨k + 1, by omega, by go_num, ?_, HR.out, hB.drewN _⟩, by simp [intOf]; omega⟩
          rw [or_step _ _ _ (leN_lt _ _ _) (UInt8.toNat_lt _) (by omega), leN]
          have : byteAt bs (pos + k) = bs[pos + k].toNat := by unfold byteAt; simp [List.getD, show pos + k < bs.length by omega]
          rw [this]
        · have hkm : k = m := by omega
          subst hkm
          have hs1 : RdAt p (wr.setCell ⟨b, 1, none⟩ (.int .i64 ((pos : Int) + k))) b (.slice (some ad) bs.length c) (pos + k) Option.none := by have := HR.out.set1 (pos + k); simpa using this
          have HS := Lib.hid hs1
          have HB2 := Lib.hid (hB.set 1 (.int .i64 ((pos : Int) + k)))
          have f1 := HR.out.fr 1
          clear hs1
          go_wp2
          go_ret
          rw [e1.out]
          exact ⟨rfl, HS.out, HB2.out⟩

/-- as an int64 -/
def sgn (n : Nat) : Int := if n < 9223372036854775808 then n else (n : Int) - 18446744073709551616

def intM (bs : List UInt8) (r : Rd) : Int × Rd := (sgn (numM bs 8 r).1, (numM bs 8 r).2)

theorem int_any (p : Nat → Addr) (B0 : Nat) (w : World) (b : Nat) (bv : Value) (bs : List UInt8) (r : Rd) (h : RdAt p w b bv r.1 r.2) (hbs : Bs B0 w bv bs) (hB0 : B0 ≤ b)
    (hE : Errs 5 p w) (hb5 : 5 ≤ b) (hpos : r.1 ≤ bs.length) (hlen : bs.length ≤ 140737488355328) :
    Calls Tryd.prog 60 #[.pointer (some ⟨b, 0, none⟩)] w (RdPost p b bv w (.int .i64 (intM bs r).1) (intM bs r).2.1 (intM bs r).2.2) := by
  have HN := Lib.hid (num_any p B0 w b bv bs r 8 (by decide) (by decide) h hbs hB0 hE hb5 hpos hlen)
  have hlt : (numM bs 8 r).1 < 18446744073709551616 := by
    unfold numM
    split
    · show (0 : Nat) < _; decide
    · exact leN_lt bs r.1 8
  unfold intM
  clear h hbs hE
  generalize numM bs 8 r = q at HN hlt
  obtain ⟨n, r'⟩ := q
  have e1 : Hid (sgn n = wrap64 n) := by
    show _ = _
    unfold sgn wrap64
    split <;> omega
  simp only at HN hlt ⊢
  go_enter Tryd.func60, Tryd.ntmps60
  go_wp2_with fail
  refine HN.out.mono ?_
  rintro e w1 ⟨rfl, hr, hB⟩
  have HR := Lib.hid hr
  clear hr
  go_wp2
  go_ret
  exact ⟨by rw [e1.out]; rfl, HR.out, hB⟩

def manyM (bs : List UInt8) (most : Nat) (r : Rd) : Nat × Rd :=
  if most < (numM bs 4 r).1 then (0, (numM bs 4 r).2.fail 1) else if (numM bs 4 r).2.2.isSome then (0, (numM bs 4 r).2) else numM bs 4 r

theorem many_any (p : Nat → Addr) (B0 : Nat) (w : World) (b : Nat) (bv : Value) (bs : List UInt8) (r : Rd) (most : Nat) (hmost : most ≤ 140737488355328) (h : RdAt p w b bv r.1 r.2) (hbs : Bs B0 w bv bs) (hB0 : B0 ≤ b)
    (hE : Errs 5 p w) (hb5 : 5 ≤ b) (hpos : r.1 ≤ bs.length) (hlen : bs.length ≤ 140737488355328) :
    Calls Tryd.prog 62 #[.pointer (some ⟨b, 0, none⟩), .int .i64 most] w (RdPost p b bv w (.int .i64 (manyM bs most r).1) (manyM bs most r).2.1 (manyM bs most r).2.2) := by
  have HN := Lib.hid (num_any p B0 w b bv bs r 4 (by decide) (by decide) h hbs hB0 hE hb5 hpos hlen)
  have hlt : (numM bs 4 r).1 < 4294967296 := by
    unfold numM
    split
    · show (0 : Nat) < _; decide
    · exact leN_lt bs r.1 4
  have hb := h.lt
  unfold manyM
  clear h hbs
  generalize numM bs 4 r = q at HN hlt
  obtain ⟨n, pos', err'⟩ := q
  simp only at HN hlt ⊢
  have HE := Lib.hid hE
  clear hE hpos
  by_cases hgt : most < n
  · have e1 : Hid ((if most < n then (0, Rd.fail (pos', err') 1) else if err'.isSome = true then (0, pos', err') else (n, pos', err')) = ((0 : Nat), pos', err'.or (some 1))) := by show _ = _; rw [if_pos hgt]; rfl
    generalize (if most < n then (0, Rd.fail (pos', err') 1) else if err'.isSome = true then (0, pos', err') else (n, pos', err')) = q2 at e1
    go_enter Tryd.func62, Tryd.ntmps62
    go_wp2_with fail
    refine HN.out.mono ?_
    rintro e w1 ⟨rfl, hr, hB⟩
    have e0 := (Errs.bel HE.out hB (by omega) (by omega)) 1 (by decide)
    have HF := Lib.hid (fail_any p w1 b bv pos' err' 1 hr)
    simp only [errV] at e0 HF
    clear hr
    go_wp2_with fail
    refine HF.out.mono ?_
    rintro e w2 ⟨rfl, hr2, hB2⟩
    obtain ⟨g, hg⟩ : ∃ g, err'.or (some 1) = some g := by cases err' <;> exact ⟨_, rfl⟩
    have c2 := hr2.c2
    rw [hg] at c2
    simp only [errO, errV] at c2
    have HR := Lib.hid hr2
    have HG := Lib.hid hg
    clear hr2 hg
    go_wp2
    go_ret
    rw [e1.out]
    exact ⟨rfl, HR.out, hB.trans (hB2.mono hB.size)⟩
  · cases err' with
    | some g =>
      have e1 : Hid ((if most < n then (0, Rd.fail (pos', some g) 1) else if (some g).isSome = true then (0, pos', some g) else (n, pos', some g)) = ((0 : Nat), pos', some g)) := by show _ = _; rw [if_neg hgt]; rfl
      generalize (if most < n then (0, Rd.fail (pos', some g) 1) else if (some g).isSome = true then (0, pos', some g) else (n, pos', some g)) = q2 at e1
      go_enter Tryd.func62, Tryd.ntmps62
      go_wp2_with fail
      refine HN.out.mono ?_
      rintro e w1 ⟨rfl, hr, hB⟩
      have c2 := hr.c2
      simp only [errO, errV] at c2
      have HR := Lib.hid hr
      clear hr
      go_wp2
      go_ret
      rw [e1.out]
      exact ⟨rfl, HR.out, hB⟩
    | none =>
      have e1 : Hid ((if most < n then (0, Rd.fail (pos', Option.none) 1) else if (Option.none : Option Nat).isSome = true then (0, pos', Option.none) else (n, pos', Option.none)) = (n, pos', Option.none)) := by show _ = _; rw [if_neg hgt]; rfl
      generalize (if most < n then (0, Rd.fail (pos', Option.none) 1) else if (Option.none : Option Nat).isSome = true then (0, pos', Option.none) else (n, pos', Option.none)) = q2 at e1
      go_enter Tryd.func62, Tryd.ntmps62
      go_wp2_with fail
      refine HN.out.mono ?_
      rintro e w1 ⟨rfl, hr, hB⟩
      have c2 := hr.c2
      simp only [errO] at c2
      have HR := Lib.hid hr
      clear hr
      go_wp2
      go_ret
      rw [e1.out]
      exact ⟨by go_num, HR.out, hB⟩
end Go.Proofs.YtmkghfkikclodaaDoor
namespace Go.Proofs.YtmkghfkikclodaaDoor
open Go.RowKit

def textM (bs : List UInt8) (most : Nat) (r : Rd) : ByteArray × Rd :=
  if bs.length < (manyM bs most r).2.1 + (manyM bs most r).1 then (.empty, (manyM bs most r).2.fail 4)
  else if (manyM bs most r).2.2.isSome then (.empty, (manyM bs most r).2)
  else (⟨((bs.drop (manyM bs most r).2.1).take (manyM bs most r).1).toArray⟩, ((manyM bs most r).2.1 + (manyM bs most r).1, Option.none))

theorem numM_pos (bs : List UInt8) (m : Nat) (r : Rd) (h : r.1 ≤ bs.length) : (numM bs m r).2.1 ≤ bs.length := by
  unfold numM
  split
  · exact h
  · simp only; omega

theorem manyM_pos (bs : List UInt8) (most : Nat) (r : Rd) (h : r.1 ≤ bs.length) : (manyM bs most r).2.1 ≤ bs.length ∧ (manyM bs most r).1 ≤ most := by
  have := numM_pos bs 4 r h
  unfold manyM Rd.fail
  split
  · exact ⟨this, Nat.zero_le _⟩
  · split
    · exact ⟨this, Nat.zero_le _⟩
    · exact ⟨this, by omega⟩

theorem elem25 : Tryd.prog.elem 25 = 5 := by kernel_rfl
theorem slice25 : Tryd.prog.underlying 25 = some (.slice (Tryd.prog.elem 25)) := by rw [elem25]; exact Tryd.underlying25

/-- a piece of a slice of bytes, as a string -/
theorem slice_piece (bs : List UInt8) (a : Option Addr) (c pos n : Nat) (h : pos + n ≤ bs.length) (hc : bs.length ≤ c) (wx : World) :
    (Instr.slice 25 (.slice a bs.length c) (some (.int .i64 pos)) (some (.int .i64 ((pos : Int) + n))) none).run Tryd.prog wx = .ok (.slice (if c = pos then a else a.map (·.add pos)) n (c - pos)) wx := by
  have := run_slice_lh (P := Tryd.prog) (w := wx) 25 a bs.length c slice25 .i64 .i64 pos ((pos : Int) + n) (by omega) (by omega) (by omega)
  rw [this]
  have e1 : ((pos : Int) + n).toNat = pos + n := by omega
  have e2 : ((pos : Int)).toNat = pos := by omega
  rw [elem25, Tryd.sizeOf5, e1, e2]
  simp only [Result.andThen_ok, sliced, Nat.mul_one, Nat.add_sub_cancel_left]

theorem piece_string (B0 : Nat) (bs : List UInt8) (a : Option Addr) (c pos n : Nat) (h : pos + n ≤ bs.length) (wx : World) (hb : Bs B0 wx (.slice a bs.length c) bs) :
    (convert 25 9 (.slice (if c = pos then a else a.map (·.add pos)) n (c - pos))).run Tryd.prog wx = .ok (.string ⟨((bs.drop pos).take n).toArray⟩) wx := by
  have hln : ((bs.drop pos).take n).length = n := by simp; omega
  have h0 : ∀ (a' : Option Addr) (c' : Nat), n = 0 → (convert 25 9 (.slice a' n c')).run Tryd.prog wx = .ok (.string ⟨((bs.drop pos).take n).toArray⟩) wx := by
    intro a' c' hn
    subst hn
    cases a' with
    | none => simpa using Lib.run_convert_nil_bytes (P := Tryd.prog) wx 25 9 5 c' Tryd.underlying25 Tryd.underlying5 Tryd.underlying9
    | some ad => simpa using run_convert_bytes_back (P := Tryd.prog) wx 25 9 5 ad c' [] Tryd.underlying25 Tryd.underlying5 Tryd.underlying9 (by simp)
  obtain ⟨a', c', he, hcap, hcs⟩ := hb
  obtain ⟨rfl, rfl⟩ : a = a' ∧ c = c' := by
    simp only [Value.slice.injEq] at he
    exact ⟨he.1, he.2.2⟩
  rcases hcs with rfl | ⟨ad, rfl, _, hc⟩
  · exact h0 _ _ (by simp at h; omega)
  · by_cases hn : n = 0
    · exact h0 _ _ hn
    · have hne : ¬ c = pos := by omega
      rw [if_neg hne]
      have := run_convert_bytes_back (P := Tryd.prog) wx 25 9 5 (ad.add pos) (c - pos) ((bs.drop pos).take n) Tryd.underlying25 Tryd.underlying5 Tryd.underlying9 (fun j hj => by
        rw [Addr.add_add]
        have := hc (pos + j) (by omega)
        rw [this]
        simp [byteV])
      rw [hln] at this
      exact this

theorem text_any (p : Nat → Addr) (B0 : Nat) (w : World) (b : Nat) (bv : Value) (bs : List UInt8) (r : Rd) (most : Nat) (hmost : most ≤ 140737488355328) (h : RdAt p w b bv r.1 r.2) (hbs : Bs B0 w bv bs) (hB0 : B0 ≤ b)
    (hE : Errs 5 p w) (hb5 : 5 ≤ b) (hpos : r.1 ≤ bs.length) (hlen : bs.length ≤ 140737488355328) :
    Calls Tryd.prog 61 #[.pointer (some ⟨b, 0, none⟩), .int .i64 most] w (RdPost p b bv w (.string (textM bs most r).1) (textM bs most r).2.1 (textM bs most r).2.2) := by
  have HM := Lib.hid (many_any p B0 w b bv bs r most hmost h hbs hB0 hE hb5 hpos hlen)
  obtain ⟨hp1, hp2⟩ := manyM_pos bs most r hpos
  have hb := h.lt
  unfold textM
  clear h
  generalize manyM bs most r = q at HM hp1 hp2
  obtain ⟨n, pos', err'⟩ := q
  simp only at HM hp1 hp2 ⊢
  have HE := Lib.hid hE
  have HBS := Lib.hid hbs
  obtain ⟨a, c, rfl, hcap, hcs⟩ := hbs
  have HL := Lib.hid fun (w' : World) (hw : RdAt p w' b (.slice a bs.length c) pos' err') => left_any p w' b a bs.length c pos' err' hw (by omega) (by omega)
  clear hE hpos
  generalize hQ : (if bs.length < pos' + n then (ByteArray.empty, Rd.fail (pos', err') 4) else if err'.isSome = true then (ByteArray.empty, pos', err') else (⟨((bs.drop pos').take n).toArray⟩, pos' + n, Option.none)) = Q
  have HQ := Lib.hid hQ
  clear hQ
  by_cases hshort : bs.length < pos' + n
  · have e1 : Hid (Q = (ByteArray.empty, pos', err'.or (some 4))) := by show _ = _; rw [← HQ.out, if_pos hshort]; rfl
    clear hcs
    go_enter Tryd.func61, Tryd.ntmps61
    go_wp2_with fail
    refine HM.out.mono ?_
    rintro e w1 ⟨rfl, hr, hB⟩
    have HL2 := Lib.hid (HL.out w1 hr)
    clear hr
    go_wp2_with fail
    refine HL2.out.mono ?_
    rintro e w2 ⟨rfl, hr2, hB2⟩
    have hB3 := hB.trans (hB2.mono hB.size)
    have e0 := (Errs.bel HE.out hB3 (by omega) (by omega)) 4 (by decide)
    have HF := Lib.hid (fail_any p w2 b (.slice a bs.length c) pos' err' 4 hr2)
    simp only [errV] at e0 HF
    clear hr2
    go_wp2_with fail
    refine HF.out.mono ?_
    rintro e w3 ⟨rfl, hr3, hB4⟩
    obtain ⟨g, hg⟩ : ∃ g, err'.or (some 4) = some g := by cases err' <;> exact ⟨_, rfl⟩
    have c2 := hr3.c2
    rw [hg] at c2
    simp only [errO, errV] at c2
    have HR := Lib.hid hr3
    have HG := Lib.hid hg
    clear hr3 hg
    go_wp2
    go_ret
    rw [e1.out]
    exact ⟨rfl, HR.out, hB3.trans (hB4.mono hB3.size)⟩
  · cases err' with
    | some g =>
      have e1 : Hid (Q = (ByteArray.empty, pos', some g)) := by show _ = _; rw [← HQ.out, if_neg hshort]; rfl
      clear hcs
      go_enter Tryd.func61, Tryd.ntmps61
      go_wp2_with fail
      refine HM.out.mono ?_
      rintro e w1 ⟨rfl, hr, hB⟩
      have HL2 := Lib.hid (HL.out w1 hr)
      clear hr
      go_wp2_with fail
      refine HL2.out.mono ?_
      rintro e w2 ⟨rfl, hr2, hB2⟩
      have hB3 := hB.trans (hB2.mono hB.size)
      have c2 := hr2.c2
      simp only [errO, errV] at c2
      have HR := Lib.hid hr2
      clear hr2
      go_wp2
      go_ret
      rw [e1.out]
      exact ⟨rfl, HR.out, hB3⟩
    | none =>
      have e1 : Hid (Q = (⟨((bs.drop pos').take n).toArray⟩, pos' + n, Option.none)) := by show _ = _; rw [← HQ.out, if_neg hshort]; rfl
      have HC := Lib.hid hcs
      clear hcs
      go_enter Tryd.func61, Tryd.ntmps61
      go_wp2_with fail
      refine HM.out.mono ?_
      rintro e w1 ⟨rfl, hr, hB⟩
      have HL2 := Lib.hid (HL.out w1 hr)
      clear hr
      go_wp2_with fail
      refine HL2.out.mono ?_
      rintro e w2 ⟨rfl, hr2, hB2⟩
      have hB3 := hB.trans (hB2.mono hB.size)
      have c1 := hr2.c1
      have c2 := hr2.c2
      have f1 := hr2.fr 1
      simp only [errO, errV] at c2
      have hs1 : RdAt p (w2.setCell ⟨b, 1, none⟩ (.int .i64 ((pos' : Int) + n))) b (.slice a bs.length c) (pos' + n) Option.none := by have := hr2.set1 (pos' + n); simpa using this
      have hB4 := hB3.set 1 (.int .i64 ((pos' : Int) + n))
      have hbs2 := HBS.out.bel hB4 hB0 (by omega)
      have g0 := hs1.c0
      have g1 := hs1.c1
      have HR := Lib.hid hs1
      have HB4 := Lib.hid hB4
      have HBS2 := Lib.hid hbs2
      clear hr2 hs1 hB4 hbs2
      have hwr : IntKind.i64.wrap (pos' : Int) = pos' := IntWalk.i64_in _ ⟨by omega, by omega⟩
      have hsl := slice_piece bs a c pos' n (by omega) hcap
      have hcv := fun k => piece_string B0 bs a c pos' n (by omega) ((w2.setCell ⟨b, 1, none⟩ (.int .i64 ((pos' : Int) + n))).drewN k) HBS2.out
      generalize Value.slice (if c = pos' then a else a.map (·.add pos')) n (c - pos') = sv at hsl hcv
      go_wp2
      go_quiet (fail)
      go_wp2
      go_ret
      rw [e1.out]
      exact ⟨rfl, HR.out, HB4.out.drewN _⟩
end Go.Proofs.YtmkghfkikclodaaDoor
