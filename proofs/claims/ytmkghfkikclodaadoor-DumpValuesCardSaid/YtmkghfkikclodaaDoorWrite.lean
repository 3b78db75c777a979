/- The writer lays numbers, texts, values. -/
import Derived.Test.YtmkghfkikclodaaDoorOdd
namespace Go.Proofs.YtmkghfkikclodaaDoor
open Go.RowKit

/-- What lies below 'base', and each block that is not a row of bytes, is as it was. -/
structure Kept (base : Nat) (w w' : World) : Prop where
  os : w'.os = w.os
  tape : w'.tape = w.tape
  output : w'.output = w.output
  size : w.heap.size ≤ w'.heap.size
  block : ∀ k, k < w.heap.size → (k < base ∨ ∀ cs f, w.heap[k]? ≠ some (.cells cs 5 f)) → w'.heap[k]? = w.heap[k]?

theorem Kept.refl (base : Nat) (w : World) : Kept base w w := ⟨rfl, rfl, rfl, Nat.le_refl _, fun _ _ _ => rfl⟩
theorem Kept.trans {base : Nat} {u v w : World} (h : Kept base u v) (k : Kept base v w) : Kept base u w :=
  ⟨k.os.trans h.os, k.tape.trans h.tape, k.output.trans h.output, Nat.le_trans h.size k.size, fun i hi hb => by
    have h1 := h.block i hi hb
    rw [k.block i (Nat.lt_of_lt_of_le hi h.size) (by rw [h1]; exact hb), h1]⟩
theorem Kept.alloc {base : Nat} {w w' : World} (h : Kept base w w') (o : Obj) : Kept base w (w'.alloc o) :=
  h.trans ⟨rfl, rfl, rfl, by simp, fun k hk _ => (bal w' o).block k hk⟩
theorem Kept.drewN {base : Nat} {w w' : World} (h : Kept base w w') (n : Nat) : Kept base w (w'.drewN n) := ⟨h.os, h.tape, h.output, h.size, h.block⟩
theorem Kept.drew {base : Nat} {w w' : World} (h : Kept base w w') : Kept base w w'.drew := ⟨h.os, h.tape, h.output, h.size, h.block⟩
theorem Kept.below {base : Nat} {w w' : World} (h : Kept base w w') (hb : base ≤ w.heap.size) : Below base w w' := ⟨h.os, h.tape, h.output, h.size, fun k hk => h.block k (by omega) (.inl hk)⟩
theorem Kept.grown {base : Nat} {w w' : World} {v : Value} {l : List UInt8} (ho : OwnB w base 5 v l) (hg : w.grownBy w' v.ownBlock) : Kept base w w' :=
  ⟨hg.os, hg.tape, hg.output, hg.size, fun k hk h => hg.block k hk fun e => by
    rcases h with h | h
    · have := (ho.lt k e.symm).1; omega
    · rcases ho.2 with ⟨rfl, _⟩ | ⟨g, cap, cur, rfl, _, hgg, _⟩
      · cases e
      · have : k = g := by simpa [Value.ownBlock] using e
        subst this
        exact h _ _ hgg⟩
theorem VB.kept {base : Nat} {w w' : World} {g : Nat} {x0 x1 x2 x3 : Value} (h : VB w g x0 x1 x2 x3) (hk : Kept base w w') : VB w' g x0 x1 x2 x3 :=
  (hk.block g h.lt (.inr fun cs f e => by have h' := h.symm.trans e; simp at h')).trans h

/-- the lowest so many bytes of a number, the lowest first -/
def leB (n : Nat) : Nat → List UInt8
  | 0 => []
  | m + 1 => leB n m ++ [UInt8.ofNat (n / 256 ^ m)]
theorem leB_length (n : Nat) : ∀ m, (leB n m).length = m
  | 0 => rfl
  | m + 1 => by rw [leB, List.length_append, leB_length n m]; rfl

/-- behind a call that lays bytes behind a slice of the call's own -/
def Laid (base : Nat) (W : World) (l : List UInt8) (e : Ending) (w' : World) : Prop := ∃ v, e = .returned v ∧ OwnB w' base 5 v l ∧ Kept base W w'

theorem info5 : (Tryd.prog.info? 5).map (fun i => (i.zero, i.size, i.bytes)) = some (some (.int .u8 0), 1, 1) := by kernel_rfl

theorem one_new (w : World) (v : Value) (b : UInt8) (hv : v = byteV b) : ∀ j (hj : j < [b].length), (w.alloc (.cells #[v] 5)).cell? ((⟨w.heap.size, 0, none⟩ : Addr).add j) = some (byteV [b][j]) := by
  intro j hj
  obtain rfl : j = 0 := by simpa using hj
  rw [show (⟨w.heap.size, 0, none⟩ : Addr).add 0 = ⟨w.heap.size, 0, none⟩ from rfl, World.cell?_alloc_mark, hv]
  rfl

theorem one_new' (w : World) (v : Value) (b : UInt8) (g : Nat) (hg : g = w.heap.size) (hv : v = byteV b) : ∀ j (hj : j < [b].length), (w.alloc (.cells #[v] 5)).cell? ((⟨g, 0, none⟩ : Addr).add j) = some (byteV [b][j]) := by
  subst hg
  exact one_new w v b hv

theorem byte_kind (k : Int) : Value.int .u8 (k % 256) = byteV (UInt8.ofNat (k % 18446744073709551616).toNat) := by
  unfold byteV
  simp
  omega

theorem byte_pow (n k : Nat) : Value.int .u8 ((n : Int) / 2 ^ (8 * k) % 256) = byteV (UInt8.ofNat (n / 256 ^ k)) := by
  have h1 : (256 : Nat) ^ k = 2 ^ (8 * k) := by rw [Nat.pow_mul]
  unfold byteV
  rw [h1]
  simp

theorem num_lays (base : Nat) (v : Value) (l : List UInt8) (n m : Nat) (w : World) (hn : n < 18446744073709551616) (hm : m ≤ 8) (hown : OwnB w base 5 v l) (hb : base ≤ w.heap.size) (hl : l.length ≤ 100000000) :
    Calls Tryd.prog 41 #[v, .int .u64 n, .int .i64 m] w (Laid base w (l ++ leB n m)) := by
  obtain ⟨a0, c0, rfl⟩ := hown.shape
  have HO := Lib.hid hown
  clear hown
  go_enter Tryd.func41, Tryd.ntmps41
  go_wp2
  go_loopw [0, 9] (fun b i wr => ∃ k : Nat, k ≤ m ∧ i = .int .i64 k ∧ Kept base w wr ∧ OwnB wr base 5 b (l ++ leB n k)) (fun _ i _ => m - (intOf i).toNat)
  case atStart => exact ⟨0, Nat.zero_le _, rfl, Kept.refl _ _, by simpa [leB] using HO.out⟩
  case round =>
    obtain ⟨k, hk, rfl, hK, hO⟩ := hrel
    have el : (l ++ leB n k).length ≤ 100000010 := by rw [List.length_append, leB_length]; omega
    generalize hacc : l ++ leB n k = acc at hO el
    have HA := Lib.hid hacc
    clear hacc
    obtain ⟨a1, c1, rfl⟩ := hO.shape
    have hszK := hK.size
    by_cases hlt : k < m
    · go_wp2_with (at_builtin; go_loud (refine append_bytes _ rfl (.tmp 12) (.tmp 18) 25 rfl base 5 Tryd.underlying25 info5 _ acc rfl (hO.alloc _) ⟨wr.heap.size, 0, none⟩ 1 [UInt8.ofNat (n / 256 ^ k)] 1 rfl rfl ?d1 ?d2 ?d3 ?_))
      case d1 => exact one_new wr _ _ (byte_pow n k)
      case d2 => first | omega | (simp; omega)
      case d3 => first | omega | (simp; omega)
      intro v' w1 hown1 hg1
      have hK1 : Kept base w w1 := hK.trans (((Kept.refl base wr).alloc _).trans (Kept.grown (hO.alloc _) hg1))
      have hacc1 : acc ++ [UInt8.ofNat (n / 256 ^ k)] = l ++ leB n (k + 1) := by rw [← HA.out, leB, List.append_assoc]
      rw [hacc1] at hown1
      have HO1 := Lib.hid hown1
      clear hown1 hg1 hO hacc1 hK
      go_wp2
      go_roundw
      case rel => exact ⟨k + 1, by omega, by go_num, hK1, HO1.out⟩
      case measure => simp [intOf]; omega
    · obtain rfl : k = m := by omega
      go_wp2
      go_ret
      exact ⟨_, rfl, by rw [HA.out]; exact hO, hK⟩

theorem Laid.mono {base : Nat} {W W' : World} {l : List UInt8} {e : Ending} {w' : World} (h : Laid base W' l e w') (hk : Kept base W W') : Laid base W l e w' := by
  obtain ⟨v, he, ho, hk2⟩ := h
  exact ⟨v, he, ho, hk.trans hk2⟩

/-- an int64 as a uint64 -/
def uns (z : Int) : Nat := (z % 18446744073709551616).toNat
theorem uns_lt (z : Int) : uns z < 18446744073709551616 := by unfold uns; omega

theorem int_lays (base : Nat) (v : Value) (l : List UInt8) (z : Int) (w : World) (hown : OwnB w base 5 v l) (hb : base ≤ w.heap.size) (hl : l.length ≤ 100000000) :
    Calls Tryd.prog 42 #[v, .int .i64 z] w (Laid base w (l ++ leB (uns z) 8)) := by
  have HN := Lib.hid (num_lays base v l (uns z) 8 w (uns_lt z) (by decide) hown hb hl)
  have hz : IntKind.u64.wrap z = (uns z : Int) := by
    have : (uns z : Int) = z % 18446744073709551616 := by unfold uns; omega
    rw [this]; rfl
  obtain ⟨a0, c0, rfl⟩ := hown.shape
  clear hown
  generalize l ++ leB (uns z) 8 = acc at HN ⊢
  go_enter Tryd.func42, Tryd.ntmps42
  go_wp2_with fail
  first | (rw [hz]; done) | skip
  refine HN.out.mono ?_
  rintro e w1 ⟨v1, rfl, ho, hk⟩
  obtain ⟨a1, c1, rfl⟩ := ho.shape
  have HO := Lib.hid ho
  clear ho hz
  go_wp2
  go_ret
  exact ⟨_, rfl, HO.out, hk⟩

theorem text_lays (base : Nat) (v : Value) (l : List UInt8) (s : ByteArray) (w : World) (hown : OwnB w base 5 v l) (hb : base ≤ w.heap.size) (hl : l.length + s.size ≤ 90000000) :
    Calls Tryd.prog 40 #[v, .string s] w (Laid base w (l ++ (leB s.size 4 ++ s.data.toList))) := by
  have HN := Lib.hid (num_lays base v l s.size 4 w (by omega) (by decide) hown hb (by omega))
  have hls : (s.size : Int) ≤ 90000000 := by omega
  obtain ⟨a0, c0, rfl⟩ := hown.shape
  clear hown
  go_enter Tryd.func40, Tryd.ntmps40
  go_wp2_with fail
  refine HN.out.mono ?_
  rintro e w1 ⟨v1, rfl, ho, hk⟩
  have hsz := hk.size
  have el : (l ++ leB s.size 4).length ≤ 90000010 - s.size := by rw [List.length_append, leB_length]; omega
  generalize hacc : l ++ leB s.size 4 = acc at ho el
  have HA := Lib.hid hacc
  clear hacc
  obtain ⟨a1, c1, rfl⟩ := ho.shape
  go_wp2_with (at_builtin; refine append_string _ rfl (.tmp 9) (.tmp 10) 25 9 rfl base 5 Tryd.underlying25 Tryd.underlying9 info5 _ acc rfl ho _ rfl ?c1 ?c2 ?_)
  case c1 => omega
  case c2 => omega
  intro v' w2 hown2 hg2
  have hk2 : Kept base w w2 := hk.trans (Kept.grown ho hg2)
  obtain ⟨a2, c2, rfl⟩ := hown2.shape
  have HO := Lib.hid hown2
  clear hown2 hg2 ho hk
  go_wp2
  go_ret
  exact ⟨_, rfl, by rw [← List.append_assoc, HA.out]; exact HO.out, hk2⟩

/-! ### a value's bytes -/
mutual
def bytesV : Val → List UInt8
  | .mk k n s l => [UInt8.ofNat (uns k)] ++ (if k = 2 then leB s.size 4 ++ s.data.toList else if k = 4 then leB l.length 4 ++ bytesL l else leB (uns n) 8)
def bytesL : List Val → List UInt8
  | [] => []
  | x :: xs => bytesV x ++ bytesL xs
end

theorem bytesV_eq (x : Val) : bytesV x = [UInt8.ofNat (uns x.kind)] ++ (if x.kind = 2 then leB x.s.size 4 ++ x.s.data.toList else if x.kind = 4 then leB x.l.length 4 ++ bytesL x.l else leB (uns x.n) 8) := by
  cases x; rfl

theorem bytesV_pos (x : Val) : 1 ≤ (bytesV x).length := by
  rw [bytesV_eq, List.length_append]
  simp only [List.length_singleton]
  omega

theorem bytesL_len : ∀ (l : List Val), l.length ≤ (bytesL l).length
  | [] => Nat.le_refl _
  | x :: xs => by
    have h1 := bytesV_pos x
    have h2 := bytesL_len xs
    rw [bytesL, List.length_append, List.length_cons]
    omega

theorem bytesL_split : ∀ (l : List Val) (i : Nat) (h : i < l.length), (bytesV l[i]).length + (bytesL (l.drop (i + 1))).length = (bytesL (l.drop i)).length
  | x :: xs, 0, _ => by simp [bytesL]
  | x :: xs, i + 1, h => by
    have := bytesL_split xs i (by simpa using h)
    simpa using this

set_option maxRecDepth 100000 in
set_option maxHeartbeats 1000000 in
theorem value_lays (base : Nat) (m : Nat) : ∀ (x : Val) (a : Option Addr) (c : Nat) (v : Value) (l : List UInt8) (w : World), SizeOf.sizeOf x ≤ m → Fits x.kind x.n x.s x.l.length → RepSl (Lo base) w a x.l →
    OwnB w base 5 v l → base ≤ w.heap.size → l.length + (bytesV x).length ≤ 80000000 →
    Calls Tryd.prog 24 #[v, .agg #[.int .i64 x.kind, .int .i64 x.n, .string x.s, .slice a x.l.length c]] w (Laid base w (l ++ bytesV x)) := by
  induction m with
  | zero => intro x a c v l w h; cases x; simp at h
  | succ m ih =>
    intro x a c v l w hm hf hR hown hb hl
    obtain ⟨k, n, s, xs⟩ := x
    simp only [Val.kind, Val.n, Val.s, Val.l] at hf hR ⊢
    obtain ⟨f1, f2, f3, f4, f5, f6⟩ := hf
    have IH := Lib.hid ih
    clear ih
    rw [← List.length_append] at hl
    generalize hRB : l ++ bytesV (.mk k n s xs) = RB at hl ⊢
    have HB := Lib.hid hRB
    rw [bytesV, ← List.append_assoc] at HB
    clear hRB
    obtain ⟨a0, c0, rfl⟩ := hown.shape
    have hl0 : l.length + 1 ≤ 80000000 := by have := HB.out; rw [← this, List.length_append, List.length_append] at hl; simp only [List.length_singleton] at hl; omega
    have hv := VB.new w (.int .i64 k) (.int .i64 n) (.string s) (.slice a xs.length c)
    have HV := Lib.hid hv
    have HR := Lib.hid hR
    have el : (l ++ [UInt8.ofNat (uns k)]).length = l.length + 1 := by simp
    have HEL := Lib.hid el
    clear hv hR el
    by_cases hk : k = 2
    · subst hk
      rw [if_pos rfl] at HB
      have hls : l.length + 1 + s.size ≤ 80000000 := by have := HB.out; rw [← this] at hl; simp only [List.length_append, List.length_singleton, leB_length, Array.length_toList] at hl; show l.length + 1 + s.data.size ≤ _; omega
      go_enter Tryd.func24, Tryd.ntmps24
      go_wp2_with (at_builtin; go_loud (refine append_bytes _ rfl (.tmp 7) (.tmp 11) 25 rfl base 5 Tryd.underlying25 info5 _ l rfl ((hown.alloc _).alloc _) ⟨w.heap.size + 1, 0, none⟩ 1 [UInt8.ofNat (uns 2)] 1 rfl rfl ?d1 ?d2 ?d3 ?_))
      case d1 => exact one_new' _ _ _ _ (by simp) (by rfl)
      case d2 => first | omega | (simp; omega)
      case d3 => first | omega | (simp; omega)
      intro v' w1 ho1 hg1
      have hk1 : Kept base w w1 := (((Kept.refl base w).alloc _).alloc _).trans (Kept.grown ((hown.alloc _).alloc _) hg1)
      have hv1 := (HV.out.below (bal (w.alloc _) _) (by simp)).kept (Kept.grown ((hown.alloc _).alloc _) hg1)
      obtain ⟨d0, d1, d2, d3, -⟩ := hv1.all
      have hsz := hk1.size
      have el : (l ++ [UInt8.ofNat (uns 2)]).length ≤ l.length + 1 := by rw [HEL.out]; exact Nat.le_refl _
      generalize l ++ [UInt8.ofNat (uns 2)] = l1 at ho1 el HB
      have HT := Lib.hid (text_lays base v' l1 s w1 ho1 (by omega) (by omega))
      rw [HB.out] at HT
      obtain ⟨a1, c1, rfl⟩ := ho1.shape
      clear ho1 hg1 hv1 hown HEL
      go_wp2_with fail
      refine HT.out.mono ?_
      rintro e w2 ⟨v2, rfl, ho2, hk2⟩
      obtain ⟨a2, c2, rfl⟩ := ho2.shape
      have HO := Lib.hid ho2
      clear ho2 d0 d1 d2 d3
      go_wp2
      go_ret
      exact ⟨_, rfl, HO.out, hk1.trans hk2⟩
    · by_cases hk4 : k = 4
      · subst hk4
        rw [if_neg (by decide), if_pos rfl, ← List.append_assoc] at HB
        have hlx : xs.length ≤ 80000000 := by
          have h1 := bytesL_len xs
          have := HB.out
          rw [← this, List.length_append] at hl
          omega
        have hlx0 : (xs.length : Int) ≤ 80000000 := by omega
        go_enter Tryd.func24, Tryd.ntmps24
        go_wp2_with (at_builtin; go_loud (refine append_bytes _ rfl (.tmp 7) (.tmp 11) 25 rfl base 5 Tryd.underlying25 info5 _ l rfl ((hown.alloc _).alloc _) ⟨w.heap.size + 1, 0, none⟩ 1 [UInt8.ofNat (uns 4)] 1 rfl rfl ?d1 ?d2 ?d3 ?_))
        case d1 => exact one_new' _ _ _ _ (by simp) (by rfl)
        case d2 => first | omega | (simp; omega)
        case d3 => first | omega | (simp; omega)
        intro v' w1 ho1 hg1
        have hk1 : Kept base w w1 := (((Kept.refl base w).alloc _).alloc _).trans (Kept.grown ((hown.alloc _).alloc _) hg1)
        have hv1 := (HV.out.below (bal (w.alloc _) _) (by simp)).kept (Kept.grown ((hown.alloc _).alloc _) hg1)
        obtain ⟨d0, d1, d2, d3, -⟩ := hv1.all
        have HV1 := Lib.hid hv1
        have hsz := hk1.size
        have el : (l ++ [UInt8.ofNat (uns 4)]).length ≤ l.length + 1 := by rw [HEL.out]; exact Nat.le_refl _
        generalize l ++ [UInt8.ofNat (uns 4)] = l1 at ho1 el HB
        have HT := Lib.hid (num_lays base v' l1 xs.length 4 w1 (by omega) (by decide) ho1 (by omega) (by omega))
        obtain ⟨a1, c1, rfl⟩ := ho1.shape
        clear ho1 hg1 hv1 hown HEL
        go_wp2_with fail
        refine HT.out.mono ?_
        rintro e w2 ⟨v2, rfl, ho2, hk2⟩
        have hk12 := hk1.trans hk2
        have hv2 := HV1.out.kept hk2
        have d3 := hv2.c3
        have HV2 := Lib.hid hv2
        generalize l1 ++ leB xs.length 4 = l2 at ho2 HB
        obtain ⟨a2, c2, rfl⟩ := ho2.shape
        clear hv2 hk1 hk2 d0 d1 d2 HV1 HT
        go_wp2
        have HO2 := Lib.hid ho2
        clear ho2 d3
        go_loopw [0, 32] (fun b i wr => ∃ (j : Nat) (acc : List UInt8), j ≤ xs.length ∧ i = .int .i64 j ∧ Kept base w wr ∧ OwnB wr base 5 b acc ∧ Hid (acc ++ bytesL (xs.drop j) = RB)) (fun _ i _ => xs.length - (intOf i).toNat)
        case atStart => exact ⟨0, l2, Nat.zero_le _, rfl, hk12, HO2.out, HB⟩
        case round =>
          obtain ⟨j, acc, hj, rfl, hkr, hor, hF⟩ := hrel
          obtain ⟨a3, c3, rfl⟩ := hor.shape
          by_cases hlt : j < xs.length
          · have hRr := HR.out.below (hkr.below hb)
            obtain ⟨b, o, rfl, hs, hat⟩ := hRr.item j hlt
            obtain ⟨ff, a', c', g0, g1, g2, g3, hsub⟩ := repAt_iff.1 hat
            have hF2 := hF.out
            rw [List.drop_eq_getElem_cons hlt, bytesL, ← List.append_assoc] at hF2
            have hsize : SizeOf.sizeOf xs[j] < SizeOf.sizeOf (Val.mk 4 n s xs) := sizeOf_item (Val.mk 4 n s xs) j hlt
            generalize xs[j] = y at ff g0 g1 g2 g3 hsub hF2 hsize
            have hszr := hkr.size
            have hroom : acc.length + (bytesV y).length ≤ 80000000 := by rw [← hF2] at hl; simp only [List.length_append] at hl; omega
            have HC := Lib.hid fun (o1 : Obj) => IH.out y a' c' (.slice a3 acc.length c3) acc ((wr.alloc o1)) (by omega) ff (hsub.below ((bal wr o1).mono (by omega))) (hor.alloc o1) (by simp; omega) hroom
            generalize acc ++ bytesV y = acc2 at HC hF2
            have HF2 := Lib.hid hF2
            have HOR := Lib.hid hor
            clear hF2 hF hsub hat hRr ff hor
            go_wp2_with fail
            refine (HC.out _).mono ?_
            rintro e w3 ⟨v3, rfl, ho3, hk3⟩
            obtain ⟨a4, c4, rfl⟩ := ho3.shape
            have HO3 := Lib.hid ho3
            have hkf := (hkr.alloc _).trans hk3
            clear ho3 hk3
            go_wp2
            go_roundw
            case rel => exact ⟨j + 1, acc2, by omega, by go_num, hkf, HO3.out, HF2⟩
            case measure => simp [intOf]; omega
          · have hF2 := hF.out
            rw [List.drop_eq_nil_of_le (by omega), bytesL, List.append_nil] at hF2
            subst hF2
            have HOR := Lib.hid hor
            clear hor hF
            go_wp2
            go_ret
            exact ⟨_, rfl, HOR.out, hkr⟩
      · rw [if_neg hk, if_neg hk4] at HB
        have hkb : (k == 2) = false := by simp [hk]
        have hkb4 : (k == 4) = false := by simp [hk4]
        go_enter Tryd.func24, Tryd.ntmps24
        go_wp2_with (at_builtin; go_loud (refine append_bytes _ rfl (.tmp 7) (.tmp 11) 25 rfl base 5 Tryd.underlying25 info5 _ l rfl ((hown.alloc _).alloc _) ⟨w.heap.size + 1, 0, none⟩ 1 [UInt8.ofNat (uns k)] 1 rfl rfl ?d1 ?d2 ?d3 ?_))
        case d1 => exact one_new' _ _ _ _ (by simp) (byte_kind k)
        case d2 => first | omega | (simp; omega)
        case d3 => first | omega | (simp; omega)
        intro v' w1 ho1 hg1
        have hk1 : Kept base w w1 := (((Kept.refl base w).alloc _).alloc _).trans (Kept.grown ((hown.alloc _).alloc _) hg1)
        have hv1 := (HV.out.below (bal (w.alloc _) _) (by simp)).kept (Kept.grown ((hown.alloc _).alloc _) hg1)
        obtain ⟨d0, d1, d2, d3, -⟩ := hv1.all
        have hsz := hk1.size
        have el : (l ++ [UInt8.ofNat (uns k)]).length ≤ l.length + 1 := by rw [HEL.out]; exact Nat.le_refl _
        generalize l ++ [UInt8.ofNat (uns k)] = l1 at ho1 el HB
        have HT := Lib.hid (int_lays base v' l1 n w1 ho1 (by omega) (by omega))
        rw [HB.out] at HT
        obtain ⟨a1, c1, rfl⟩ := ho1.shape
        clear ho1 hg1 hv1 hown HEL
        go_wp2_with fail
        refine HT.out.mono ?_
        rintro e w2 ⟨v2, rfl, ho2, hk2⟩
        obtain ⟨a2, c2, rfl⟩ := ho2.shape
        have HO := Lib.hid ho2
        clear ho2 d0 d1 d2 d3
        go_wp2
        go_ret
        exact ⟨_, rfl, HO.out, hk1.trans hk2⟩

end Go.Proofs.YtmkghfkikclodaaDoor
