/- Programs: their bytes are read as them; cut off they are none; what the document says of them. -/
import Derived.Test.YtmkghfkikclodaaDoorPlainO
import Derived.Test.YtmkghfkikclodaaDoorValidN
import Derived.Test.YtmkghfkikclodaaDoorM27
import Derived.Test.YtmkghfkikclodaaDoorM19
set_option linter.unusedVariables false
set_option linter.unusedSimpArgs false
namespace Go.Proofs.YtmkghfkikclodaaDoor
open Go.RowKit

theorem intM_rd (bs : List UInt8) (r : Rd) : (intM bs r).2 = (numM bs 8 r).2 := rfl
theorem readV_room0 (bs : List UInt8) (r : Rd) : readV bs 0 r = (.mk 0 0 .empty [], r.fail 0) := rfl
theorem readV_suc (bs : List UInt8) (room : Nat) (r : Rd) (h : (numM bs 1 r).1 = 0) : readV bs (room + 1) r = (.mk (numM bs 1 r).1 (intM bs (numM bs 1 r).2).1 .empty [], (intM bs (numM bs 1 r).2).2) := by
  rw [readV, if_pos (Or.inl h)]
theorem nameB_size {s : ByteArray} (h : nameB s = true) : s.size ≤ 32 := by
  simp only [nameB, isNameB, Bool.and_eq_true, decide_eq_true_eq] at h
  exact h.1.2.1
theorem zero_ok {v : Val} (h : zeroB v = true) : ∃ l', walkM v 1 4096 = .ok l' := by
  cases v with
  | mk k n s l =>
    simp only [zeroB, Val.kind, Val.n, Val.s, Val.l, Bool.and_eq_true, beq_iff_eq] at h
    obtain ⟨rfl, rfl, hs, hl⟩ := h
    have hs0 : s.size = 0 := (toList_nil s).1 (List.isEmpty_iff.1 hs)
    obtain rfl := empty_of_size hs0
    obtain rfl := List.eq_nil_of_length_eq_zero (show l.length = 0 by omega)
    exact ⟨4095, rfl⟩
theorem childR_all (op role : Int) (n i : Nat) : 0 ≤ childR op role i ((rolesL op n).getD i 0) ∧ childR op role i ((rolesL op n).getD i 0) ≤ 8 := by
  have h := roleAt_all op n i
  unfold RoleP at h
  exact childR_bd (r := roleAt op n i) ⟨h.1, by omega⟩

/-! ### what is amiss -/
mutual
theorem deepNM_le : ∀ (x : Nd), 0 ≤ deepNM x
  | .mk _ _ _ _ l => by rw [deepNM]; have := deepNL_ge l 0; omega
theorem deepNL_ge : ∀ (l : List Nd) (n : Int), n ≤ deepNL n l
  | [], n => by rw [deepNL]; exact Int.le_refl _
  | x :: xs, n => by rw [deepNL]; have := deepNL_ge xs (max n (deepNM x)); omega
end
theorem deepNL_mono : ∀ (l : List Nd) (n m : Int), n ≤ m → deepNL n l ≤ deepNL m l
  | [], n, m, h => by rw [deepNL, deepNL]; exact h
  | x :: xs, n, m, h => by rw [deepNL, deepNL]; exact deepNL_mono xs _ _ (by omega)
theorem deepNL_cons {x : Nd} {xs : List Nd} {d : Int} (h : deepNL 0 (x :: xs) ≤ d) : deepNM x ≤ d ∧ deepNL 0 xs ≤ d := by
  rw [deepNL] at h
  have h1 := deepNL_ge xs (max 0 (deepNM x))
  have h2 := deepNL_mono xs 0 (max 0 (deepNM x)) (by omega)
  omega

mutual
/-- what a reader can read again -/
def FitN : Nd → Prop
  | .mk op line s v l => (0 ≤ op ∧ op < 256) ∧ (-9223372036854775808 ≤ line ∧ line ≤ 9223372036854775807) ∧ s.size ≤ 32 ∧ AllFits v ∧ (∃ l', walkM v 1 4096 = .ok l') ∧ FitNL l
def FitNL : List Nd → Prop
  | [] => True
  | x :: xs => FitN x ∧ FitNL xs
end

/-! ### whole -/
mutual
theorem nread_at (bs : List UInt8) : ∀ (l : List Nd) (room left pos : Nat), FitNL l → cntL l ≤ left → left ≤ 4096 → deepNL 0 l < (room : Int) → At bs pos (bytesNs l) →
    nread bs room left (pos, Option.none) = (l, left - cntL l, (pos + (bytesNs l).length, Option.none))
  | l, room, left, pos, hf, hc, hl, hd, hat => by
    obtain ⟨room', rfl⟩ : ∃ r, room = r + 1 := ⟨room - 1, by have := deepNL_ge l 0; omega⟩
    have hlen := cntL_len l
    unfold bytesNs at hat ⊢
    rw [nread, manyM_at hat.left (by omega) (by omega)]
    simp only
    have hR := hat.right
    rw [leB_length] at hR
    rw [nloop_at bs l room' left (pos + 4) hf hc hl (by omega) hR, List.length_append, leB_length, Nat.add_assoc]
  termination_by l => (SizeOf.sizeOf l, 1)
theorem nloop_at (bs : List UInt8) : ∀ (l : List Nd) (room left pos : Nat), FitNL l → cntL l ≤ left → left ≤ 4096 → deepNL 0 l ≤ (room : Int) → At bs pos (bytesNR l) →
    nloop bs (nread bs room) l.length left (pos, Option.none) = (l, left - cntL l, (pos + (bytesNR l).length, Option.none))
  | [], room, left, pos, hf, hc, hl, hd, hat => by simp [nloop, bytesNR, cntL]
  | .mk op line s v l :: xs, room, left, pos, hf, hc, hl, hd, hat => by
    obtain ⟨⟨⟨ho1, ho2⟩, ⟨hl1, hl2⟩, hs, hav, ⟨lv, hw⟩, hfl⟩, hfx⟩ := hf
    rw [cntL, cntM] at hc
    obtain ⟨hdx, hdxs⟩ := deepNL_cons hd
    rw [deepNM] at hdx
    rw [bytesNR, bytesN1, kindByte op ho1 ho2] at hat ⊢
    have hA := hat.left
    have hB := hA.right
    have hC := hB.right
    have hD := hC.right
    have hE := hD.right
    have hF := hat.right
    rw [leB_length] at hB hC hD hE
    rw [leB_length] at hC hD hE
    rw [List.length_append, leB_length, size_list] at hD hE
    rw [List.length_cons, nloop, if_neg (by simp), numM_at hA.left (by have : op.toNat < 256 := by omega
                                                                       have e : (256 : Nat) ^ 1 = 256 := rfl
                                                                       omega)]
    simp only
    rw [intM_at hB.left hl1 hl2]
    simp only
    rw [textM_at hC.left hs (by decide)]
    simp only
    rw [readV_at bs v 40 (pos + 1 + 8 + (4 + s.size)) 1 4096 lv hav hw (by decide) (by decide) hD.left]
    simp only
    have hN := nread_at bs l room (left - 1) (pos + 1 + 8 + (4 + s.size) + (bytesV v).length) hfl (by omega) (by omega) (by omega) hE
    unfold bytesNs at hN
    rw [hN]
    simp only [List.length_append, leB_length, size_list] at hF ⊢
    have e1 : pos + 1 + 8 + (4 + s.size) + (bytesV v).length + (4 + (bytesNR l).length) = pos + (1 + (8 + (4 + s.size + ((bytesV v).length + (4 + (bytesNR l).length))))) := by omega
    rw [e1, nloop_at bs xs room (left - 1 - cntL l) _ hfx (by omega) (by omega) hdxs hF]
    simp only
    rw [Int.toNat_of_nonneg ho1, cntL, cntM]
    have e2 : left - 1 - cntL l - cntL xs = left - (1 + cntL l + cntL xs) := by omega
    rw [e2]
    simp only [Nat.add_assoc]
  termination_by l => (SizeOf.sizeOf l, 0)
end

/-! ### cut off -/
theorem readV_err (bs : List UInt8) (room pos g : Nat) : ∃ v, readV bs room (pos, some g) = (v, (pos, some g)) := by
  cases room with
  | zero => exact ⟨_, readV_room0 bs _⟩
  | succ room =>
    have h := readV_suc bs room (pos, some g) (by rw [numM_err])
    rw [numM_err] at h
    simp only at h
    rw [intM_err] at h
    exact ⟨_, h⟩
theorem nread_err (bs : List UInt8) (room left pos g : Nat) : nread bs room left (pos, some g) = ([], left, (pos, some g)) := by
  cases room with
  | zero => rfl
  | succ room => rw [nread, manyM_err]; rfl
theorem nloop_err (bs : List UInt8) (f : Nat → Rd → List Nd × Nat × Rd) (n left pos g : Nat) : nloop bs f n left (pos, some g) = ([], left, (pos, some g)) := by
  cases n with
  | zero => rfl
  | succ n => rw [nloop, if_pos (show (some g : Option Nat).isSome = true from rfl)]
theorem some_of {r : Rd} {g : Nat} (h : r.2 = some g) : r = (r.1, some g) := by rw [← h]

mutual
theorem nread_cut (bs : List UInt8) : ∀ (l : List Nd) (room left pos : Nat), FitNL l → cntL l ≤ left → left ≤ 4096 → deepNL 0 l < (room : Int) → pos ≤ bs.length → Cut bs pos (bytesNs l) →
    (nread bs room left (pos, Option.none)).2.2.2 = some 4
  | l, room, left, pos, hf, hc, hl, hd, hp, hat => by
    obtain ⟨room', rfl⟩ : ∃ r, room = r + 1 := ⟨room - 1, by have := deepNL_ge l 0; omega⟩
    have hlen := cntL_len l
    unfold bytesNs at hat
    rw [nread]
    rcases hat.split with hat | ⟨ha, hR⟩
    · rw [manyM_cut hat]; rfl
    · rw [manyM_at ha (by omega) (by omega)]
      simp only
      have hpl := ha.len
      rw [leB_length] at hR hpl
      exact nloop_cut bs l room' left (pos + 4) hf hc hl (by omega) hpl hR
  termination_by l => (SizeOf.sizeOf l, 1)
theorem nloop_cut (bs : List UInt8) : ∀ (l : List Nd) (room left pos : Nat), FitNL l → cntL l ≤ left → left ≤ 4096 → deepNL 0 l ≤ (room : Int) → pos ≤ bs.length → Cut bs pos (bytesNR l) →
    (nloop bs (nread bs room) l.length left (pos, Option.none)).2.2.2 = some 4
  | [], room, left, pos, hf, hc, hl, hd, hp, hat => by
    obtain ⟨k, h1, _⟩ := hat
    simp [bytesNR] at h1
  | .mk op line s v l :: xs, room, left, pos, hf, hc, hl, hd, hp, hat => by
    obtain ⟨⟨⟨ho1, ho2⟩, ⟨hl1, hl2⟩, hs, hav, ⟨lv, hw⟩, hfl⟩, hfx⟩ := hf
    rw [cntL, cntM] at hc
    obtain ⟨hdx, hdxs⟩ := deepNL_cons hd
    rw [deepNM] at hdx
    rw [bytesNR, bytesN1, kindByte op ho1 ho2] at hat
    rw [List.length_cons, nloop, if_neg (by simp)]
    have hop : op.toNat < 256 ^ 1 := by
      have : op.toNat < 256 := by omega
      have e : (256 : Nat) ^ 1 = 256 := rfl
      omega
    have hall := hat.split
    rcases hall with hN1 | ⟨hA0, hX⟩
    · rcases hN1.split with h | ⟨hA, h⟩
      · rw [numM_cut h]
        simp only
        rw [intM_err]
        simp only
        rw [textM_err bs pos 32 4 hp]
        simp only
        obtain ⟨v', hv'⟩ := readV_err bs 40 pos 4
        rw [hv']
        simp only
        rw [nread_err]
        rw [nloop_err]
      have hp1 := hA.len
      rw [leB_length] at h hp1
      rw [numM_at hA hop]
      simp only
      rcases h.split with h | ⟨hB, h⟩
      · have h4 := intM_cut h
        have hpos : (intM bs (pos + 1, Option.none)).2.1 ≤ bs.length := by
          rw [intM_rd]
          exact numM_pos bs 8 _ hp1
        generalize intM bs (pos + 1, Option.none) = q at h4 hpos
        obtain ⟨z, r⟩ := q
        simp only at h4 hpos ⊢
        rw [some_of h4, textM_err bs r.1 32 4 hpos]
        simp only
        obtain ⟨v', hv'⟩ := readV_err bs 40 r.1 4
        rw [hv']
        simp only
        rw [nread_err]
        rw [nloop_err]
      have hp2 := hB.len
      rw [leB_length] at h hp2
      rw [intM_at hB hl1 hl2]
      simp only
      rcases h.split with h | ⟨hC, h⟩
      · have h4 := textM_cut hp2 h hs (by decide : (32 : Nat) ≤ 65536)
        generalize textM bs 32 (pos + 1 + 8, Option.none) = q at h4
        obtain ⟨z, r⟩ := q
        simp only at h4 ⊢
        rw [some_of h4]
        obtain ⟨v', hv'⟩ := readV_err bs 40 r.1 4
        rw [hv']
        simp only
        rw [nread_err]
        rw [nloop_err]
      have hp3 := hC.len
      rw [List.length_append, leB_length, size_list] at h hp3
      rw [textM_at hC hs (by decide)]
      simp only
      rcases h.split with h | ⟨hD, h⟩
      · have h4 := readV_cut bs v 40 (pos + 1 + 8 + (4 + s.size)) 1 4096 lv hav hw (by decide) (by decide) hp3 h
        generalize readV bs 40 (pos + 1 + 8 + (4 + s.size), Option.none) = q at h4
        obtain ⟨z, r⟩ := q
        simp only at h4 ⊢
        rw [some_of h4, nread_err]
        rw [nloop_err]
      have hp4 := hD.len
      rw [readV_at bs v 40 (pos + 1 + 8 + (4 + s.size)) 1 4096 lv hav hw (by decide) (by decide) hD]
      simp only
      have h4 := nread_cut bs l room (left - 1) _ hfl (by omega) (by omega) (by omega) hp4 h
      generalize nread bs room (left - 1) (pos + 1 + 8 + (4 + s.size) + (bytesV v).length, Option.none) = q at h4
      obtain ⟨z, lf, r⟩ := q
      simp only at h4 ⊢
      rw [some_of h4]
      rw [nloop_err]
    · have hA := hA0
      have hB := hA.right
      have hC := hB.right
      have hD := hC.right
      have hE := hD.right
      have hpl := hA0.len
      rw [leB_length] at hB hC hD hE
      rw [leB_length] at hC hD hE
      rw [List.length_append, leB_length, size_list] at hD hE
      rw [numM_at hA.left hop]
      simp only
      rw [intM_at hB.left hl1 hl2]
      simp only
      rw [textM_at hC.left hs (by decide)]
      simp only
      rw [readV_at bs v 40 (pos + 1 + 8 + (4 + s.size)) 1 4096 lv hav hw (by decide) (by decide) hD.left]
      simp only
      have hN := nread_at bs l room (left - 1) (pos + 1 + 8 + (4 + s.size) + (bytesV v).length) hfl (by omega) (by omega) (by omega) hE
      unfold bytesNs at hN
      rw [hN]
      simp only [List.length_append, leB_length, size_list] at hX hpl ⊢
      have e1 : pos + 1 + 8 + (4 + s.size) + (bytesV v).length + (4 + (bytesNR l).length) = pos + (1 + (8 + (4 + s.size + ((bytesV v).length + (4 + (bytesNR l).length))))) := by omega
      rw [e1]
      exact nloop_cut bs xs room (left - 1 - cntL l) _ hfx (by omega) (by omega) hdxs hpl hX
  termination_by l => (SizeOf.sizeOf l, 0)
end
/-! ### the two counts are alike -/
mutual
theorem manyNM_cnt : ∀ (x : Nd) (left : Int), 0 ≤ left → manyNM x left = if (cntM x : Int) ≤ left then left - cntM x else -1
  | .mk op line s v l, left, h => by
    rw [manyNM, cntM]
    by_cases h1 : left < 1
    · rw [if_pos h1, if_neg (by omega)]
    · rw [if_neg h1, manyNL_cnt l (left - 1) (by omega)]
      by_cases h2 : (cntL l : Int) ≤ left - 1
      · rw [if_pos h2, if_pos (by omega)]; omega
      · rw [if_neg h2, if_neg (by omega)]
theorem manyNL_cnt : ∀ (l : List Nd) (left : Int), 0 ≤ left → manyNL l left = if (cntL l : Int) ≤ left then left - cntL l else -1
  | [], left, h => by rw [manyNL, cntL, if_pos (by omega)]; omega
  | x :: xs, left, h => by
    rw [manyNL, cntL, manyNM_cnt x left h]
    by_cases h1 : (cntM x : Int) ≤ left
    · rw [if_pos h1, if_neg (by omega), manyNL_cnt xs (left - cntM x) (by omega)]
      by_cases h2 : (cntL xs : Int) ≤ left - cntM x
      · rw [if_pos h2, if_pos (by omega)]; omega
      · rw [if_neg h2, if_neg (by omega)]
    · rw [if_neg h1, if_pos (by omega), if_neg (by omega)]
end
mutual
theorem countM_small : ∀ (x : Nd) (n : Int), 0 ≤ n → n + cntM x ≤ 4096 → countM x n = n + cntM x
  | .mk op line s v l, n, h0, h => by
    rw [cntM] at h ⊢
    rw [countM, if_neg (by omega), countL_small l (n + 1) (by omega) (by omega)]
    omega
theorem countL_small : ∀ (l : List Nd) (n : Int), 0 ≤ n → n + cntL l ≤ 4096 → countL l n = n + cntL l
  | [], n, h0, h => by rw [countL, cntL]; omega
  | x :: xs, n, h0, h => by
    rw [cntL] at h ⊢
    rw [countL, countM_small x n h0 (by omega), if_neg (by omega), countL_small xs (n + cntM x) (by omega) (by omega)]
    omega
end
theorem count_many (l : List Nd) : (countL l 0 ≤ 4096) ↔ ¬ manyNL l 4096 < 0 := by
  rw [manyNL_cnt l 4096 (by decide)]
  constructor
  · intro h
    have := countL_cnt l 0 (by decide) (by decide) h
    rw [if_pos (by omega)]; omega
  · intro h
    by_cases h2 : (cntL l : Int) ≤ 4096
    · rw [countL_small l 0 (by decide) (by omega)]; omega
    · rw [if_neg h2] at h; exact absurd (by decide) h

/-- the document's own word on a program -/
def fineB (l : List Nd) : Bool := !decide (manyNL l 4096 < 0) && (!decide (40 < deepNL 0 l) && l.all fun x => oddB x 9 false)
theorem fine_valid (l : List Nd) : fineB l = validB l := by
  unfold fineB validB
  have e1 : (!decide (manyNL l 4096 < 0)) = decide (countL l 0 ≤ 4096) := by
    have := count_many l
    by_cases h : manyNL l 4096 < 0
    · rw [decide_eq_true h, decide_eq_false (fun h' => (this.1 h') h)]; rfl
    · rw [decide_eq_false h, decide_eq_true (this.2 h)]; rfl
  have e2 : (!decide (40 < deepNL 0 l)) = decide (deepNL 0 l ≤ 40) := by
    by_cases h : 40 < deepNL 0 l
    · rw [decide_eq_true h, decide_eq_false (by omega)]; rfl
    · rw [decide_eq_false h, decide_eq_true (by omega)]; rfl
  have e3 : (fun x : Nd => oddB x 9 false) = fun x => walkB x 7 false := funext fun x => odd_walk x 7 false (by decide) (by decide)
  rw [e1, e2, e3]

/-! ### a right program can be read again -/
mutual
/-- all numbers fit -/
def RawN : Nd → Prop
  | .mk _ line _ v l => (-9223372036854775808 ≤ line ∧ line ≤ 9223372036854775807) ∧ AllFits v ∧ RawNL l
def RawNL : List Nd → Prop
  | [] => True
  | x :: xs => RawN x ∧ RawNL xs
end
theorem empty_size {s : ByteArray} (h : emptyB s = true) : s.size = 0 := by
  unfold emptyB at h
  exact (toList_nil s).1 (List.isEmpty_iff.1 h)
theorem own_text {op role : Int} {loop : Bool} {s : ByteArray} {v : Val} {n : Nat} (h : (ownM op role loop s v n).isNone = true) : s.size ≤ 32 := by
  unfold ownM at h
  by_cases hs : shapeB op role loop s v n = true
  · rw [if_pos hs] at h
    by_cases hc : calledB op s = true
    · simp only [shapeB, Bool.and_eq_true, Bool.or_eq_true] at hs
      rcases hs.2.2.2 with hn | he
      · simp only [calledB, hn, Bool.not_true, Bool.false_or, Bool.or_eq_true, Bool.and_eq_true] at hc
        rcases hc with hc | ⟨_, he⟩
        · exact nameB_size hc
        · rw [empty_size he]; omega
      · rw [empty_size he]; omega
    · rw [if_neg hc] at h; cases h
  · rw [if_neg hs] at h; cases h
theorem own_val {op role : Int} {loop : Bool} {s : ByteArray} {v : Val} {n : Nat} (h : (ownM op role loop s v n).isNone = true) : ∃ l', walkM v 1 4096 = .ok l' := by
  unfold ownM at h
  by_cases hs : shapeB op role loop s v n = true
  · simp only [shapeB, Bool.and_eq_true] at hs
    have hv := hs.2.1
    unfold valB at hv
    by_cases h1 : op = 1
    · rw [if_pos h1] at hv
      simp only [litB, Bool.and_eq_true] at hv
      have h2 := hv.2.1
      exact valid_ok (Option.isNone_iff_eq_none.1 h2)
    · rw [if_neg h1] at hv
      exact zero_ok hv
  · rw [if_neg hs] at h; cases h
mutual
theorem walk_fit : ∀ (x : Nd) (role : Int) (loop : Bool), 0 ≤ role → role ≤ 8 → RawN x → walkB x role loop = true → FitN x
  | .mk op line s v l, role, loop, h0, h1, hr, h => by
    rw [walkB, Bool.and_eq_true] at h
    obtain ⟨hl, hv, hk⟩ := hr
    have hs := own_stands h.1
    have hc := stands_cases h0 h1 hs.1
    exact ⟨⟨by omega, by omega⟩, hl, own_text h.1, hv, own_val h.1, kids_fit l op role loop l.length 0 hk h.2⟩
theorem kids_fit : ∀ (ks : List Nd) (op role : Int) (loop : Bool) (n i : Nat), RawNL ks → kidsB op role loop n i ks = true → FitNL ks
  | [], _, _, _, _, _, _, _ => trivial
  | y :: ys, op, role, loop, n, i, hr, h => by
    rw [kidsB, Bool.and_eq_true] at h
    have hb := childR_all op role n i
    exact ⟨walk_fit y _ _ hb.1 hb.2 hr.1 h.1, kids_fit ys op role loop n (i + 1) hr.2 h.2⟩
end
theorem valid_fit : ∀ (l : List Nd), RawNL l → (l.all fun x => walkB x 7 false) = true → FitNL l
  | [], _, _ => trivial
  | x :: xs, hr, h => by
    rw [List.all_cons, Bool.and_eq_true] at h
    exact ⟨walk_fit x 7 false (by decide) (by decide) hr.1 h.1, valid_fit xs hr.2 h.2⟩
theorem valid_parts {l : List Nd} (h : validB l = true) : countL l 0 ≤ 4096 ∧ deepNL 0 l ≤ 40 ∧ (l.all fun x => walkB x 7 false) = true := by
  unfold validB at h
  simpa only [Bool.and_eq_true, decide_eq_true_eq] using h

/-! ### a program's reading -/
/-- the program, how many bytes; nothing: none -/
def readP (bs : List UInt8) : Option (List Nd × Nat) :=
  if (nread bs 41 4096 (0, Option.none)).2.2.2.isSome then Option.none
  else if validB (nread bs 41 4096 (0, Option.none)).1 then some ((nread bs 41 4096 (0, Option.none)).1, (nread bs 41 4096 (0, Option.none)).2.2.1)
  else Option.none
theorem readP_at {l : List Nd} {post : List UInt8} (hv : validB l = true) (hr : RawNL l) : readP (bytesNs l ++ post) = some (l, (bytesNs l).length) := by
  obtain ⟨h1, h2, h3⟩ := valid_parts hv
  have hc := countL_cnt l 0 (by decide) (by decide) h1
  have h := nread_at (bytesNs l ++ post) l 41 4096 0 (valid_fit l hr h3) (by omega) (by decide) (by omega) ⟨post, by simp, Nat.zero_le _⟩
  unfold readP
  rw [h]
  simp only [Option.isSome_none, Bool.false_eq_true, if_false, hv, if_true, Nat.zero_add]
theorem readP_cut {l : List Nd} {k : Nat} (hv : validB l = true) (hr : RawNL l) (hk : k < (bytesNs l).length) : readP ((bytesNs l).take k) = Option.none := by
  obtain ⟨h1, h2, h3⟩ := valid_parts hv
  have hc := countL_cnt l 0 (by decide) (by decide) h1
  have h := nread_cut ((bytesNs l).take k) l 41 4096 0 (valid_fit l hr h3) (by omega) (by decide) (by omega) (Nat.zero_le _) ⟨k, hk, by simp, Nat.zero_le _⟩
  unfold readP
  rw [h, if_pos (show (some 4 : Option Nat).isSome = true from rfl)]
theorem readP_valid {bs : List UInt8} {q : List Nd × Nat} (h : readP bs = some q) : validB q.1 = true := by
  unfold readP at h
  split at h
  · cases h
  · split at h
    · rename_i hv
      cases h
      exact hv
    · cases h

/-! ### in memory all numbers fit -/
mutual
theorem RepNAt.raw {S : Nat → Prop} {w : World} : ∀ (x : Nd) (b o : Nat), RepNAt S w b o x → RawN x
  | .mk op line s v l, b, o, h => by
    obtain ⟨hf, hfv, a, c, a', c', _, _, _, _, _, _, _, _, h9, h10⟩ := h
    refine ⟨⟨hf.2.2.1, hf.2.2.2.1⟩, ?_, ?_⟩
    · cases v with
      | mk k n t ll => exact ⟨hfv, h9.fits⟩
    · rcases h10 with rfl | ⟨b', o', rfl, _, hr⟩
      · trivial
      · exact RepNRow.raw l b' o' hr
theorem RepNRow.raw {S : Nat → Prop} {w : World} : ∀ (l : List Nd) (b o : Nat), RepNRow S w b o l → RawNL l
  | [], _, _, _ => trivial
  | x :: xs, b, o, h => ⟨RepNAt.raw x b o h.1, RepNRow.raw xs b (o + 8) h.2⟩
end
theorem RepNSl.raw {S : Nat → Prop} {w : World} {a : Option Addr} {l : List Nd} (h : RepNSl S w a l) : RawNL l := by
  rcases h with rfl | ⟨b, o, rfl, _, hr⟩
  · trivial
  · exact RepNRow.raw l b o hr
end Go.Proofs.YtmkghfkikclodaaDoor
