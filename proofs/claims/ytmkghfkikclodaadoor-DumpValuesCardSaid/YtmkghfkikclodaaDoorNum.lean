/- The reader reads a number of so many bytes. -/
import Derived.Test.YtmkghfkikclodaaDoorRd
import Derived.Laws.BitsAllLaws
namespace Go.Proofs.YtmkghfkikclodaaDoor
open Go.RowKit

/-- where a reader stands, and what it met -/
abbrev Rd := Nat × Option Nat
def Rd.fail (r : Rd) (g : Nat) : Rd := (r.1, r.2.or (some g))

def byteAt (bs : List UInt8) (i : Nat) : Nat := (bs.getD i 0).toNat
theorem byteAt_lt (bs : List UInt8) (i : Nat) : byteAt bs i < 256 := UInt8.toNat_lt _
/-- so many bytes from a place on, as a number, the lowest first -/
def leN (bs : List UInt8) (pos : Nat) : Nat → Nat
  | 0 => 0
  | i + 1 => leN bs pos i + byteAt bs (pos + i) * 256 ^ i
theorem leN_lt (bs : List UInt8) (pos : Nat) : ∀ m, leN bs pos m < 256 ^ m
  | 0 => by simp [leN]
  | m + 1 => by
    have h1 := leN_lt bs pos m
    have h2 := byteAt_lt bs (pos + m)
    have h3 : byteAt bs (pos + m) * 256 ^ m ≤ 255 * 256 ^ m := Nat.mul_le_mul_right _ (by omega)
    rw [leN, Nat.pow_succ]
    omega

def numM (bs : List UInt8) (m : Nat) (r : Rd) : Nat × Rd :=
  if r.2.isSome ∨ bs.length < r.1 + m then (0, r.fail 4) else (leN bs r.1 m, (r.1 + m, Option.none))

/-- the slice bv holds the bytes bs, in a block below B0 -/
def Bs (B0 : Nat) (w : World) (bv : Value) (bs : List UInt8) : Prop :=
  ∃ a c, bv = .slice a bs.length c ∧ bs.length ≤ c ∧ (bs = [] ∨ ∃ ad, a = some ad ∧ ad.block < B0 ∧ ∀ j (h : j < bs.length), w.cell? (ad.add j) = some (byteV bs[j]))

theorem add_block (ad : Addr) (j : Nat) : (ad.add j).block = ad.block := by unfold Addr.add; split <;> rfl

theorem Bs.bel {B0 b B : Nat} {w w' : World} {bv : Value} {bs : List UInt8} (h : Bs B0 w bv bs) (hb : Bel b B w w') (h1 : B0 ≤ b) (h2 : B0 ≤ B) : Bs B0 w' bv bs := by
  obtain ⟨a, c, rfl, hcap, h3⟩ := h
  refine ⟨a, c, rfl, hcap, ?_⟩
  rcases h3 with h3 | ⟨ad, rfl, hl, hc⟩
  · exact .inl h3
  · exact .inr ⟨ad, rfl, hl, fun j hj => (hb.cell (p := ad.add j) (by rw [add_block]; omega) (by rw [add_block]; omega)).trans (hc j hj)⟩

theorem or_step (n b k : Nat) (hn : n < 256 ^ k) (hb : b < 256) (hk : k < 8) : bits .or .u64 (n : Int) (IntKind.u64.wrap (IntKind.u64.wrap (b : Int) * 2 ^ (8 * k))) = ((n + b * 256 ^ k : Nat) : Int) := by
  have hp : (256 : Nat) ^ k = 2 ^ (8 * k) := by rw [Nat.pow_mul]
  have hp2 : (2 : Nat) ^ (8 * k) ≤ 2 ^ 56 := Nat.pow_le_pow_right (by decide) (by omega)
  rw [hp] at hn ⊢
  have h1 : b * 2 ^ (8 * k) ≤ 255 * 2 ^ (8 * k) := Nat.mul_le_mul_right _ (by omega)
  have e1 : IntKind.u64.wrap (b : Int) = b := IntWalk.u64_in _ ⟨by omega, by omega⟩
  have e2 : ((b : Int) * 2 ^ (8 * k)) = ((b * 2 ^ (8 * k) : Nat) : Int) := by simp
  have e3 : IntKind.u64.wrap ((b * 2 ^ (8 * k) : Nat) : Int) = (b * 2 ^ (8 * k) : Nat) := IntWalk.u64_in _ ⟨by omega, by omega⟩
  rw [e1, e2, e3, u64_or_nat n (b * 2 ^ (8 * k)) (by omega) (by omega)]
  congr 1
  have := Nat.two_pow_add_eq_or_of_lt hn b
  rw [Nat.or_comm, Nat.mul_comm, ← this, Nat.add_comm]

theorem num_any (p : Nat → Addr) (B0 : Nat) (w : World) (b : Nat) (bv : Value) (bs : List UInt8) (r : Rd) (m : Nat) (hm : 0 < m) (hm8 : m ≤ 8) (h : RdAt p w b bv r.1 r.2) (hbs : Bs B0 w bv bs) (hB0 : B0 ≤ b)
    (hE : Errs 5 p w) (hb5 : 5 ≤ b) (hpos : r.1 ≤ bs.length) (hlen : bs.length ≤ 140737488355328) :
    Calls Tryd.prog 59 #[.pointer (some ⟨b, 0, none⟩), .int .i64 m] w (RdPost p b bv w (.int .u64 (numM bs m r).1) (numM bs m r).2.1 (numM bs m r).2.2) := by
  obtain ⟨pos, err⟩ := r
  simp only at h hpos
  have c2 := h.c2
  have hb := h.lt
  obtain ⟨a, c, rfl, -, hcs⟩ := hbs
  have HL := Lib.hid fun (w' : World) (hw : RdAt p w' b (.slice a bs.length c) pos err) => left_any p w' b a bs.length c pos err hw (by omega) (by omega)
  cases err with
  | some g' =>
    have e1 : Hid (numM bs m (pos, some g') = (0, (pos, some g'))) := by show _ = _; simp [numM, Rd.fail]
    have e4 := (hE 4 (by decide))
    have HF := Lib.hid (fail_any p w b (.slice a bs.length c) pos (some g') 4 h)
    simp only [errO, errV] at c2 HF
    simp only [errV] at e4
    clear h hcs HL hE
    go_enter Tryd.func59, Tryd.ntmps59
    go_wp2_with fail
    refine HF.out.mono ?_
    rintro e w1 ⟨rfl, hr, hB⟩
    have HR := Lib.hid hr
    clear hr
    go_wp2
    go_ret
    rw [e1.out]
    exact ⟨rfl, HR.out, hB⟩
  | none =>
    simp only [errO] at c2
    have H := Lib.hid h
    have HL2 := Lib.hid (HL.out w h)
    clear h HL
    by_cases hshort : bs.length < pos + m
    · have e1 : Hid (numM bs m (pos, Option.none) = (0, (pos, some 4))) := by show _ = _; simp [numM, Rd.fail, hshort]
      have HE := Lib.hid hE
      clear hcs hE
      go_enter Tryd.func59, Tryd.ntmps59
      go_wp2_with fail
      refine HL2.out.mono ?_
      rintro e w1 ⟨rfl, hr, hB⟩
      have e4 := (Errs.bel HE.out hB (by omega) (by omega)) 4 (by decide)
      have HF := Lib.hid (fail_any p w1 b (.slice a bs.length c) pos Option.none 4 hr)
      simp only [errV] at e4 HF
      clear hr
      go_wp2_with fail
      refine HF.out.mono ?_
      rintro e w2 ⟨rfl, hr2, hB2⟩
      have HR := Lib.hid hr2
      clear hr2
      go_wp2
      go_ret
      rw [e1.out]
      exact ⟨rfl, HR.out, hB.trans (hB2.mono hB.size)⟩
    · rcases hcs with rfl | ⟨ad, rfl, hlt, hc⟩
      · simp at hshort; omega
      have e1 : Hid (numM bs m (pos, Option.none) = (leN bs pos m, (pos + m, Option.none))) := by show _ = _; simp [numM, hshort]
      have HC := Lib.hid hc
      clear hc hE
      go_enter Tryd.func59, Tryd.ntmps59
      go_wp2_with fail
      refine HL2.out.mono ?_
      rintro e w1 ⟨rfl, hr, hB⟩
      have HR := Lib.hid hr
      clear hr
      go_wp2
      go_loopw [5, 22] (fun n i wr => ∃ k : Nat, k ≤ m ∧ i = .int .i64 k ∧ n = .int .u64 (leN bs pos k) ∧ RdAt p wr b (.slice (some ad) bs.length c) pos Option.none ∧ Bel b w.heap.size w wr)
        (fun _ i _ => m - (intOf i).toNat)
      case atStart => exact ⟨0, Nat.zero_le _, rfl, rfl, HR.out, hB⟩
      case round =>
        clear hB HR
        obtain ⟨k, hk, rfl, rfl, hr, hB⟩ := hrel
        have c0 := hr.c0
        have c1 := hr.c1
        have HR := Lib.hid hr
        clear hr
        by_cases hlt2 : k < m
        · have hby : wr.cell? (ad.add (pos + k)) = some (byteV bs[pos + k]) := by
            rw [hB.cell (p := ad.add (pos + k)) (by rw [add_block]; omega) (by rw [add_block]; omega)]
            exact HC.out (pos + k) (by omega)
          unfold byteV at hby
          go_wp2
          go_quiet (fail)
          go_wp2
          refine ⟨⟨k + 1, by omega, by go_num, ?_, HR.out, hB.drewN _⟩, by simp [intOf]; omega⟩
          rw [or_step _ _ _ (leN_lt _ _ _) (UInt8.toNat_lt _) (by omega), leN]
          have : byteAt bs (pos + k) = bs[pos + k].toNat := by unfold byteAt; simp [List.getD, show pos + k < bs.length by omega]
          rw [this]
        · have hkm : k = m := by omega
          subst hkm
          have hs1 : RdAt p (wr.setCell ⟨b, 1, none⟩ (.int .i64 ((pos : Int) + k))) b (.slice (some ad) bs.length c) (pos + k) Option.none := by have := HR.out.set1 (pos + k); simpa using this
          have HS := Lib.hid hs1
          have HB2 := Lib.hid (hB.set 1 (.int .i64 ((pos : Int) + k)))
          have f1 := HR.out.fr 1
          clear hs1
          go_wp2
          go_ret
          rw [e1.out]
          exact ⟨rfl, HS.out, HB2.out⟩

/-- as an int64 -/
def sgn (n : Nat) : Int := if n < 9223372036854775808 then n else (n : Int) - 18446744073709551616

def intM (bs : List UInt8) (r : Rd) : Int × Rd := (sgn (numM bs 8 r).1, (numM bs 8 r).2)

theorem int_any (p : Nat → Addr) (B0 : Nat) (w : World) (b : Nat) (bv : Value) (bs : List UInt8) (r : Rd) (h : RdAt p w b bv r.1 r.2) (hbs : Bs B0 w bv bs) (hB0 : B0 ≤ b)
    (hE : Errs 5 p w) (hb5 : 5 ≤ b) (hpos : r.1 ≤ bs.length) (hlen : bs.length ≤ 140737488355328) :
    Calls Tryd.prog 60 #[.pointer (some ⟨b, 0, none⟩)] w (RdPost p b bv w (.int .i64 (intM bs r).1) (intM bs r).2.1 (intM bs r).2.2) := by
  have HN := Lib.hid (num_any p B0 w b bv bs r 8 (by decide) (by decide) h hbs hB0 hE hb5 hpos hlen)
  have hlt : (numM bs 8 r).1 < 18446744073709551616 := by
    unfold numM
    split
    · show (0 : Nat) < _; decide
    · exact leN_lt bs r.1 8
  unfold intM
  clear h hbs hE
  generalize numM bs 8 r = q at HN hlt
  obtain ⟨n, r'⟩ := q
  have e1 : Hid (sgn n = wrap64 n) := by
    show _ = _
    unfold sgn wrap64
    split <;> omega
  simp only at HN hlt ⊢
  go_enter Tryd.func60, Tryd.ntmps60
  go_wp2_with fail
  refine HN.out.mono ?_
  rintro e w1 ⟨rfl, hr, hB⟩
  have HR := Lib.hid hr
  clear hr
  go_wp2
  go_ret
  exact ⟨by rw [e1.out]; rfl, HR.out, hB⟩

def manyM (bs : List UInt8) (most : Nat) (r : Rd) : Nat × Rd :=
  if most < (numM bs 4 r).1 then (0, (numM bs 4 r).2.fail 1) else if (numM bs 4 r).2.2.isSome then (0, (numM bs 4 r).2) else numM bs 4 r

theorem many_any (p : Nat → Addr) (B0 : Nat) (w : World) (b : Nat) (bv : Value) (bs : List UInt8) (r : Rd) (most : Nat) (hmost : most ≤ 140737488355328) (h : RdAt p w b bv r.1 r.2) (hbs : Bs B0 w bv bs) (hB0 : B0 ≤ b)
    (hE : Errs 5 p w) (hb5 : 5 ≤ b) (hpos : r.1 ≤ bs.length) (hlen : bs.length ≤ 140737488355328) :
    Calls Tryd.prog 62 #[.pointer (some ⟨b, 0, none⟩), .int .i64 most] w (RdPost p b bv w (.int .i64 (manyM bs most r).1) (manyM bs most r).2.1 (manyM bs most r).2.2) := by
  have HN := Lib.hid (num_any p B0 w b bv bs r 4 (by decide) (by decide) h hbs hB0 hE hb5 hpos hlen)
  have hlt : (numM bs 4 r).1 < 4294967296 := by
    unfold numM
    split
    · show (0 : Nat) < _; decide
    · exact leN_lt bs r.1 4
  have hb := h.lt
  unfold manyM
  clear h hbs
  generalize numM bs 4 r = q at HN hlt
  obtain ⟨n, pos', err'⟩ := q
  simp only at HN hlt ⊢
  have HE := Lib.hid hE
  clear hE hpos
  by_cases hgt : most < n
  · have e1 : Hid ((if most < n then (0, Rd.fail (pos', err') 1) else if err'.isSome = true then (0, pos', err') else (n, pos', err')) = ((0 : Nat), pos', err'.or (some 1))) := by show _ = _; rw [if_pos hgt]; rfl
    generalize (if most < n then (0, Rd.fail (pos', err') 1) else if err'.isSome = true then (0, pos', err') else (n, pos', err')) = q2 at e1
    go_enter Tryd.func62, Tryd.ntmps62
    go_wp2_with fail
    refine HN.out.mono ?_
    rintro e w1 ⟨rfl, hr, hB⟩
    have e0 := (Errs.bel HE.out hB (by omega) (by omega)) 1 (by decide)
    have HF := Lib.hid (fail_any p w1 b bv pos' err' 1 hr)
    simp only [errV] at e0 HF
    clear hr
    go_wp2_with fail
    refine HF.out.mono ?_
    rintro e w2 ⟨rfl, hr2, hB2⟩
    obtain ⟨g, hg⟩ : ∃ g, err'.or (some 1) = some g := by cases err' <;> exact ⟨_, rfl⟩
    have c2 := hr2.c2
    rw [hg] at c2
    simp only [errO, errV] at c2
    have HR := Lib.hid hr2
    have HG := Lib.hid hg
    clear hr2 hg
    go_wp2
    go_ret
    rw [e1.out]
    exact ⟨rfl, HR.out, hB.trans (hB2.mono hB.size)⟩
  · cases err' with
    | some g =>
      have e1 : Hid ((if most < n then (0, Rd.fail (pos', some g) 1) else if (some g).isSome = true then (0, pos', some g) else (n, pos', some g)) = ((0 : Nat), pos', some g)) := by show _ = _; rw [if_neg hgt]; rfl
      generalize (if most < n then (0, Rd.fail (pos', some g) 1) else if (some g).isSome = true then (0, pos', some g) else (n, pos', some g)) = q2 at e1
      go_enter Tryd.func62, Tryd.ntmps62
      go_wp2_with fail
      refine HN.out.mono ?_
      rintro e w1 ⟨rfl, hr, hB⟩
      have c2 := hr.c2
      simp only [errO, errV] at c2
      have HR := Lib.hid hr
      clear hr
      go_wp2
      go_ret
      rw [e1.out]
      exact ⟨rfl, HR.out, hB⟩
    | none =>
      have e1 : Hid ((if most < n then (0, Rd.fail (pos', Option.none) 1) else if (Option.none : Option Nat).isSome = true then (0, pos', Option.none) else (n, pos', Option.none)) = (n, pos', Option.none)) := by show _ = _; rw [if_neg hgt]; rfl
      generalize (if most < n then (0, Rd.fail (pos', Option.none) 1) else if (Option.none : Option Nat).isSome = true then (0, pos', Option.none) else (n, pos', Option.none)) = q2 at e1
      go_enter Tryd.func62, Tryd.ntmps62
      go_wp2_with fail
      refine HN.out.mono ?_
      rintro e w1 ⟨rfl, hr, hB⟩
      have c2 := hr.c2
      simp only [errO] at c2
      have HR := Lib.hid hr
      clear hr
      go_wp2
      go_ret
      rw [e1.out]
      exact ⟨by go_num, HR.out, hB⟩
end Go.Proofs.YtmkghfkikclodaaDoor
