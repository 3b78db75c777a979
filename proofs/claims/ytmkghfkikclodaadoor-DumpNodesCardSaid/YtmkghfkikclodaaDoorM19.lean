/- A program's bytes. A right value's bytes are read as it; cut off they end too early. Few nodes: few bytes, no great strings; right values are small. -/
import Derived.Test.YtmkghfkikclodaaDoorNdD
import Derived.Test.YtmkghfkikclodaaDoorM06
import Derived.Test.YtmkghfkikclodaaDoorM07
set_option linter.unusedVariables false
set_option linter.unusedSimpArgs false
namespace Go.Proofs.YtmkghfkikclodaaDoor
open Go.RowKit

mutual
def bytesN1 : Nd → List UInt8
  | .mk op line s v l => [UInt8.ofNat (uns op)] ++ (leB (uns line) 8 ++ ((leB s.size 4 ++ s.data.toList) ++ (bytesV v ++ (leB l.length 4 ++ bytesNR l))))
def bytesNR : List Nd → List UInt8
  | [] => []
  | x :: xs => bytesN1 x ++ bytesNR xs
end
def bytesNs (l : List Nd) : List UInt8 := leB l.length 4 ++ bytesNR l

theorem bytesN1_eq (x : Nd) : bytesN1 x = [UInt8.ofNat (uns x.op)] ++ (leB (uns x.line) 8 ++ ((leB x.s.size 4 ++ x.s.data.toList) ++ (bytesV x.v ++ bytesNs x.l))) := by cases x; rfl
theorem bytesN1_pos (x : Nd) : 1 ≤ (bytesN1 x).length := by
  rw [bytesN1_eq, List.length_append]
  simp only [List.length_singleton]
  omega
theorem bytesNR_len : ∀ (l : List Nd), l.length ≤ (bytesNR l).length
  | [] => Nat.le_refl _
  | x :: xs => by
    have h1 := bytesN1_pos x
    have h2 := bytesNR_len xs
    rw [bytesNR, List.length_append, List.length_cons]
    omega

theorem NV.kept {base : Nat} {w w' : World} {g : Nat} {x0 x1 x2 x3 x4 x5 x6 x7 : Value} (h : NV w g x0 x1 x2 x3 x4 x5 x6 x7) (hk : Kept base w w') : NV w' g x0 x1 x2 x3 x4 x5 x6 x7 :=
  (hk.block g h.lt (.inr fun cs f e => by have h' := h.symm.trans e; simp at h')).trans h
theorem Kept.undrew {base : Nat} {w w' : World} (h : Kept base w.drew w') : Kept base w w' := ⟨h.os, h.tape, h.output, h.size, h.block⟩

set_option maxRecDepth 100000 in
set_option maxHeartbeats 2000000 in
theorem nodes_lay (base : Nat) (m : Nat) : ∀ (l : List Nd) (a : Option Addr) (c : Nat) (v : Value) (acc : List UInt8) (w : World), SizeOf.sizeOf l ≤ m → RepNSl (Lo base) w a l → OwnB w base 5 v acc → base ≤ w.heap.size → acc.length + (bytesNs l).length ≤ 70000000 →
    Calls Tryd.prog 32 #[v, .slice a l.length c] w (Laid base w (acc ++ bytesNs l)) := by
  induction m with
  | zero => intro l a c v acc w h; cases l <;> simp at h
  | succ m ih =>
    intro l a c v acc w hm hR hown hb hl
    have IH := Lib.hid ih
    clear ih
    unfold bytesNs at hl ⊢
    rw [← List.length_append, ← List.append_assoc] at hl
    rw [← List.append_assoc]
    generalize hRB : acc ++ leB l.length 4 ++ bytesNR l = RB at hl ⊢
    have HB := Lib.hid hRB
    have hll : l.length ≤ 70000000 := by
      have := bytesNR_len l
      rw [← hRB, List.length_append] at hl
      omega
    have hacc : acc.length ≤ 70000000 := by
      rw [← hRB, List.length_append, List.length_append] at hl
      omega
    clear hRB
    have hlx0 : (l.length : Int) ≤ 70000000 := by omega
    have HT := Lib.hid (num_lays base v acc l.length 4 w (by omega) (by decide) hown hb (by omega))
    obtain ⟨a0, c0, rfl⟩ := hown.shape
    have HR := Lib.hid hR
    clear hR hown
    generalize acc ++ leB l.length 4 = l2 at HT HB
    go_enter Tryd.func32, Tryd.ntmps32
    go_wp2_with fail
    refine HT.out.mono ?_
    rintro e w1 ⟨v1, rfl, ho1, hk1⟩
    obtain ⟨a1, c1, rfl⟩ := ho1.shape
    go_wp2_with fail
    have HO1 := Lib.hid ho1
    clear ho1 HT
    go_loopw [0, 14] (fun b i wr => ∃ (j : Nat) (acc : List UInt8), j ≤ l.length ∧ i = .int .i64 j ∧ Kept base w wr ∧ OwnB wr base 5 b acc ∧ Hid (acc ++ bytesNR (l.drop j) = RB)) (fun _ i _ => l.length - (intOf i).toNat)
    case atStart => exact ⟨0, l2, Nat.zero_le _, rfl, hk1, HO1.out, HB⟩
    case round =>
      clear hk1
      obtain ⟨j, acc, hj, rfl, hkr, hor, hF⟩ := hrel
      obtain ⟨a3, c3, rfl⟩ := hor.shape
      by_cases hlt : j < l.length
      · have hRr := HR.out.below (hkr.below hb)
        obtain ⟨b, o, rfl, hs, hat⟩ := hRr.item j hlt
        obtain ⟨ff, fv, q1, p1, q2, p2, g0, g1, g2, g3, g4, g5, g6, g7, hsv, hsub⟩ := repNAt_iff.1 hat
        have hF2 := hF.out
        rw [List.drop_eq_getElem_cons hlt, bytesNR, bytesN1_eq] at hF2
        simp only [← List.append_assoc] at hF2
        have hsize := sizeOf_ndl l j hlt
        have hsize2 := sizeOf_nd l[j]
        generalize l[j] = y at ff fv g0 g1 g2 g3 g4 g5 g6 g7 hsv hsub hF2 hsize hsize2
        have hszr := hkr.size
        have hB0 : base ≤ wr.heap.size := by omega
        -- sizes
        have hz1 : acc.length + 1 + 8 + 4 + y.s.size + (bytesV y.v).length + (bytesNs y.l).length ≤ 70000000 := by
          rw [← hF2] at hl
          simp only [List.length_append, List.length_singleton, leB_length, size_list] at hl
          omega
        have hv := NV.new wr (.int .i64 y.op) (.int .i64 y.line) (.string y.s) (.int .i64 y.v.kind) (.int .i64 y.v.n) (.string y.v.s) (.slice q1 y.v.l.length p1) (.slice q2 y.l.length p2)
        have HV := Lib.hid hv
        obtain ⟨d0, d1, d2, d3, d4, d5, d6, d7⟩ := hv.all
        have el0 : (acc ++ [UInt8.ofNat (uns y.op)]).length = acc.length + 1 := by simp
        have HEL := Lib.hid el0
        have HS := Lib.hid (And.intro hsv (And.intro hsub fv))
        clear hat hsv hsub hv el0 ff fv hF hRr
        go_wp2_with (at_builtin; go_loud (refine append_bytes _ rfl (.tmp 18) (.tmp 22) 25 rfl base 5 Tryd.underlying25 info5 _ acc rfl ((hor.alloc _).alloc _) ⟨wr.heap.size + 1, 0, none⟩ 1 [UInt8.ofNat (uns y.op)] 1 rfl rfl ?d1 ?d2 ?d3 ?_))
        case d1 => exact one_new' _ _ _ _ (by simp) (by first | rfl | exact byte_kind y.op)
        case d2 => first | omega | (simp; omega)
        case d3 => first | omega | (simp; omega)
        intro v2 w2 ho2 hg2
        have K2 : Kept base wr w2 := (((Kept.refl base wr).alloc _).alloc _).trans (Kept.grown ((hor.alloc _).alloc _) hg2)
        have hv2 := (HV.out.below (bal (wr.alloc _) _) (by simp)).kept (Kept.grown ((hor.alloc _).alloc _) hg2)
        have hsz2 := K2.size
        have el : (acc ++ [UInt8.ofNat (uns y.op)]).length ≤ acc.length + 1 := by rw [HEL.out]; exact Nat.le_refl _
        generalize acc ++ [UInt8.ofNat (uns y.op)] = b1 at ho2 el hF2
        have HT2 := Lib.hid (int_lays base v2 b1 y.line w2 ho2 (by omega) (by omega))
        have el2 : (b1 ++ leB (uns y.line) 8).length ≤ acc.length + 9 := by rw [List.length_append, leB_length]; omega
        generalize b1 ++ leB (uns y.line) 8 = b2 at HT2 el2 hF2
        obtain ⟨a4, c4, rfl⟩ := ho2.shape
        clear ho2 hg2 hor d0 d1 d2 d3 d4 d5 d6 d7 g0 g1 g2 g3 g4 g5 g6 g7 HEL
        obtain ⟨d0, d1, d2, d3, d4, d5, d6, d7⟩ := hv2.all
        have HV2 := Lib.hid hv2
        clear hv2
        go_wp2_with fail
        refine HT2.out.mono ?_
        rintro e w3 ⟨v3, rfl, ho3, hk3⟩
        have K3 := K2.trans hk3
        have hv3 := HV2.out.kept hk3
        have hsz3 := K3.size
        obtain ⟨a5, c5, rfl⟩ := ho3.shape
        clear d0 d1 d2 d3 d4 d5 d6 d7 HT2 hk3
        obtain ⟨d0, d1, d2, d3, d4, d5, d6, d7⟩ := hv3.all
        have HV3 := Lib.hid hv3
        have el3 : (b2 ++ (leB y.s.size 4 ++ y.s.data.toList)).length ≤ acc.length + 13 + y.s.size := by rw [List.length_append, List.length_append, leB_length, size_list]; omega
        have HT3 := Lib.hid fun (w' : World) (h : OwnB w' base 5 (.slice a5 b2.length c5) b2) (hb' : base ≤ w'.heap.size) => text_lays base (.slice a5 b2.length c5) b2 y.s w' h hb' (by omega)
        have HO3 := Lib.hid ho3
        rw [List.append_assoc b2] at hF2
        generalize b2 ++ (leB y.s.size 4 ++ y.s.data.toList) = b3 at HT3 el3 hF2
        have el4 : (b3 ++ bytesV y.v).length ≤ acc.length + 13 + y.s.size + (bytesV y.v).length := by rw [List.length_append]; omega
        have HSB := Lib.hid (And.intro (RepSl.below HS.out.1 ((K3.below hB0))) (And.intro (RepNSl.below HS.out.2.1 (K3.below hB0)) HS.out.2.2))
        have HT4 := Lib.hid fun (w' : World) (v' : Value) (h : OwnB w' base 5 v' b3) (hb' : base ≤ w'.heap.size) (hr : RepSl (Lo base) w' q1 y.v.l) => value_lays base (SizeOf.sizeOf y.v) y.v q1 p1 v' b3 w' (Nat.le_refl _) HS.out.2.2 hr h hb' (by omega)
        generalize b3 ++ bytesV y.v = b4 at HT4 el4 hF2
        have HT5 := Lib.hid fun (w' : World) (v' : Value) (h : OwnB w' base 5 v' b4) (hb' : base ≤ w'.heap.size) (hr : RepNSl (Lo base) w' q2 y.l) => IH.out y.l q2 p2 v' b4 w' (by omega) hr h hb' (by omega)
        generalize b4 ++ bytesNs y.l = b5 at HT5 hF2
        have HF2 := Lib.hid hF2
        clear hF2 hv3 ho3 HS
        go_wp2_with fail
        go_region_law (first
          | (go_simp; go_at_call 40; go_loud (refine (HT3.out _ (by exact HO3.out) (by show base ≤ w3.heap.size; omega)).mono ?_; rintro e w4 ⟨v4, rfl, ho4, hk4⟩; have k4 : Kept base w3 w4 := ⟨hk4.os, hk4.tape, hk4.output, hk4.size, hk4.block⟩; obtain ⟨e0, e1, e2, e3, e4, e5, e6, e7⟩ := (HV3.out.kept k4).all; obtain ⟨a6, c6, hsh⟩ := ho4.shape; subst hsh))
          | (go_simp; go_at_call 24; go_loud (refine (HT4.out _ _ (by exact ho4) (by have := k4.size; exact (by omega)) (by exact HSB.out.1.below (k4.below (by omega)))).mono ?_; rintro e w5 ⟨v5, rfl, ho5, hk5⟩; have k5 : Kept base w3 w5 := k4.trans ⟨hk5.os, hk5.tape, hk5.output, hk5.size, hk5.block⟩; obtain ⟨a7, c7, hsh⟩ := ho5.shape; subst hsh; obtain ⟨f0, f1, f2, f3, f4, f5, f6, f7⟩ := (HV3.out.kept k5).all)))
        all_goals
          have hb5 : base ≤ w5.heap.size := by have := k5.size; omega
          have HC5 := Lib.hid (HT5.out w5 _ ho5 hb5 (HSB.out.2.1.below (k5.below (by omega))))
          have K5 := K3.trans k5
          clear ho5 ho4 hk4 hk5 k4 k5 K3 K2
          go_wp2_with fail
          refine HC5.out.mono ?_
          rintro e w6 ⟨v6, rfl, ho6, hk6⟩
          obtain ⟨a8, c8, rfl⟩ := ho6.shape
          have HO6 := Lib.hid ho6
          have K6 := hkr.trans (K5.trans hk6)
          clear ho6 hk6 K5 d0 d1 d2 d3 d4 d5 d6 d7 e0 e1 e2 e3 e4 e5 e6 e7 f0 f1 f2 f3 f4 f5 f6 f7
          go_wp2
          go_roundw
          case rel => exact ⟨j + 1, b5, by omega, by go_num, K6, HO6.out, HF2⟩
          case measure => simp [intOf]; omega
      · have hF2 := hF.out
        rw [List.drop_eq_nil_of_le (by omega), bytesNR, List.append_nil] at hF2
        subst hF2
        have HOR := Lib.hid hor
        clear hor hF
        go_wp2
        go_ret
        exact ⟨_, rfl, HOR.out, hkr⟩
end Go.Proofs.YtmkghfkikclodaaDoor
namespace Go.Proofs.YtmkghfkikclodaaDoor
open Go.RowKit

mutual
/-- all numbers fit -/
def AllFits : Val → Prop
  | .mk k n s l => Fits k n s l.length ∧ AllFitsL l
def AllFitsL : List Val → Prop
  | [] => True
  | x :: xs => AllFits x ∧ AllFitsL xs
end

mutual
theorem RepAt.fits {S : Nat → Prop} {w : World} : ∀ (x : Val) (b o : Nat), RepAt S w b o x → AllFits x
  | .mk k n s l, b, o, h => by
    obtain ⟨hf, a, c, _, _, _, _, h5⟩ := h
    refine ⟨hf, ?_⟩
    rcases h5 with rfl | ⟨b', o', rfl, _, hr⟩
    · trivial
    · exact RepRow.fits l b' o' hr
theorem RepRow.fits {S : Nat → Prop} {w : World} : ∀ (l : List Val) (b o : Nat), RepRow S w b o l → AllFitsL l
  | [], _, _, _ => trivial
  | x :: xs, b, o, h => ⟨RepAt.fits x b o h.1, RepRow.fits xs b (o + 4) h.2⟩
end
theorem RepSl.fits {S : Nat → Prop} {w : World} {a : Option Addr} {l : List Val} (h : RepSl S w a l) : AllFitsL l := by
  rcases h with rfl | ⟨b, o, rfl, _, hr⟩
  · trivial
  · exact RepRow.fits l b o hr

/-! ### sizes -/
mutual
theorem walkM_bytes : ∀ (x : Val) (deep left left' : Int), walkM x deep left = .ok left' → ((bytesV x).length : Int) ≤ 9 * (left - left')
  | .mk k n s l, deep, left, left', h => by
    unfold walkM at h
    split at h
    · cases h
    · split at h
      · cases h
      · cases ho : ownG k n s l.length with
        | some g => rw [ho] at h; cases h
        | none =>
          rw [ho] at h
          have h0 := cost_nonneg k s
          have h1 := walkL_bytes l (deep + 1) (left - (1 + cost k s)) left' (by omega) h
          have h3 := (walkL_le l (deep + 1) (left - (1 + cost k s)) left' (by omega) h).1
          rw [bytesV, List.length_append]
          simp only [List.length_singleton]
          by_cases hk : k = 2
          · have h2 : cost k s = s.size := by unfold cost; rw [if_pos hk]
            rw [if_pos hk, List.length_append, leB_length, size_list]
            omega
          · have h2 : cost k s = 0 := by unfold cost; rw [if_neg hk]
            rw [if_neg hk]
            split
            · rw [List.length_append, leB_length]; omega
            · rw [leB_length]; omega
theorem walkL_bytes : ∀ (l : List Val) (deep left left' : Int), 0 ≤ left → walkL l deep left = .ok left' → ((bytesL l).length : Int) ≤ 9 * (left - left')
  | [], _, left, left', _, h => by unfold walkL at h; cases h; simp [bytesL]
  | x :: xs, deep, left, left', h0, h => by
    unfold walkL at h
    cases hx : walkM x deep left with
    | error g => rw [hx] at h; cases h
    | ok l1 =>
      rw [hx] at h
      have h1 := walkM_bytes x deep left l1 hx
      have h2 := walkL_bytes xs deep l1 left' (walkM_le x deep left l1 hx).2 h
      rw [bytesL, List.length_append]
      omega
end

theorem walkL_len : ∀ (l : List Val) (deep left left' : Int), 0 ≤ left → walkL l deep left = .ok left' → (l.length : Int) ≤ left - left'
  | [], _, left, left', _, h => by unfold walkL at h; cases h; simp
  | x :: xs, deep, left, left', h0, h => by
    unfold walkL at h
    cases hx : walkM x deep left with
    | error g => rw [hx] at h; cases h
    | ok l1 =>
      rw [hx] at h
      have h1 : l1 ≤ left - 1 := by
        rw [walkM_eq] at hx
        split at hx
        · cases hx
        · split at hx
          · cases hx
          · split at hx
            · cases hx
            · have h0 := cost_nonneg x.kind x.s
              have := (walkL_le x.l (deep + 1) (left - (1 + cost x.kind x.s)) l1 (by omega) hx).1
              omega
      have h2 := walkL_len xs deep l1 left' (walkM_le x deep left l1 hx).2 h
      simp only [List.length_cons]
      omega

theorem dumpM_len (x : Val) : (dumpM x).length ≤ 36864 := by
  unfold dumpM
  split
  · simp
  · rename_i h
    unfold validM at h
    cases hw : walkM x 1 4096 with
    | error g => rw [hw] at h; simp at h
    | ok l1 =>
      have := walkM_bytes x 1 4096 l1 hw
      have := (walkM_le x 1 4096 l1 hw).2
      omega

mutual
theorem fewM_small : ∀ (x : Val) (left deep : Int), left ≤ 6000 → -1 ≤ left → 0 ≤ fewM x left deep → SmallM x
  | .mk k n s l, left, deep, hl, hl1, h => by
    unfold fewM at h
    split at h
    · omega
    · have h1 := (fewL_le l (left - 1 - s.size / 16) (deep + 1) (by omega)).2
      exact ⟨by omega, fewL_small l (left - 1 - s.size / 16) (deep + 1) (by omega) (by omega) h⟩
theorem fewL_small : ∀ (l : List Val) (left deep : Int), left ≤ 6000 → -1 ≤ left → 0 ≤ fewL l left deep → SmallL l
  | [], _, _, _, _, _ => trivial
  | x :: xs, left, deep, hl, hl1, h => by
    unfold fewL at h
    split at h
    · omega
    · have h1 := fewM_le x left deep hl1
      exact ⟨fewM_small x left deep hl hl1 (by omega), fewL_small xs (fewM x left deep) deep (by omega) (by omega) h⟩
end

/-! ### whole -/
/-- from pos on the bytes begin with L -/
def At (bs : List UInt8) (pos : Nat) (L : List UInt8) : Prop := ∃ T, bs.drop pos = L ++ T ∧ pos ≤ bs.length
theorem At.left {bs : List UInt8} {pos : Nat} {L M : List UInt8} (h : At bs pos (L ++ M)) : At bs pos L := by
  obtain ⟨T, h1, h2⟩ := h
  exact ⟨M ++ T, by rw [h1, List.append_assoc], h2⟩
theorem At.right {bs : List UInt8} {pos : Nat} {L M : List UInt8} (h : At bs pos (L ++ M)) : At bs (pos + L.length) M := by
  obtain ⟨T, h1, h2⟩ := h
  have h3 : bs.length - pos = L.length + M.length + T.length := by
    have := congrArg List.length h1
    simp only [List.length_drop, List.length_append] at this
    omega
  refine ⟨T, ?_, by omega⟩
  rw [← List.drop_drop, h1, List.append_assoc, List.drop_left]
theorem At.len {bs : List UInt8} {pos : Nat} {L : List UInt8} (h : At bs pos L) : pos + L.length ≤ bs.length := by
  obtain ⟨T, h1, h2⟩ := h
  have := congrArg List.length h1
  simp only [List.length_drop, List.length_append] at this
  omega
theorem At.take {bs : List UInt8} {pos : Nat} {L : List UInt8} (h : At bs pos L) : (bs.drop pos).take L.length = L := by
  obtain ⟨T, h1, h2⟩ := h
  rw [h1, List.take_left]

theorem leB_inj : ∀ (m a b : Nat), a < 256 ^ m → b < 256 ^ m → leB a m = leB b m → a = b
  | 0, a, b, ha, hb, _ => by simp at ha hb; omega
  | m + 1, a, b, ha, hb, h => by
    rw [leB, leB] at h
    have h1 := List.append_inj h (by rw [leB_length, leB_length])
    obtain ⟨h2, h3⟩ := h1
    have hp : 0 < 256 ^ m := Nat.pow_pos (by decide)
    rw [Nat.pow_succ] at ha hb
    have ea : a / 256 ^ m < 256 := by rw [Nat.div_lt_iff_lt_mul hp]; rw [Nat.mul_comm]; exact ha
    have eb : b / 256 ^ m < 256 := by rw [Nat.div_lt_iff_lt_mul hp]; rw [Nat.mul_comm]; exact hb
    have h4 : a / 256 ^ m = b / 256 ^ m := by
      simp only [List.cons.injEq, and_true] at h3
      generalize a / 256 ^ m = u at ea h3 ⊢
      generalize b / 256 ^ m = v at eb h3 ⊢
      have := congrArg UInt8.toNat h3
      simp at this
      omega
    have h5 : a % 256 ^ m = b % 256 ^ m := by
      refine leB_inj m _ _ (Nat.mod_lt _ hp) (Nat.mod_lt _ hp) ?_
      have e := fun z : Nat => (leB_mod (z % 256 ^ m) m (z / 256 ^ m)).symm
      rw [e a, e b, Nat.mod_add_div', Nat.mod_add_div']
      exact h2
    rw [← Nat.mod_add_div' a (256 ^ m), ← Nat.mod_add_div' b (256 ^ m), h4, h5]

theorem numM_at {bs : List UInt8} {pos n m : Nat} (h : At bs pos (leB n m)) (hn : n < 256 ^ m) : numM bs m (pos, Option.none) = (n, (pos + m, Option.none)) := by
  have hl := h.len
  rw [leB_length] at hl
  unfold numM
  rw [if_neg (by simp only [Option.isSome_none, Bool.false_eq_true, false_or]; omega)]
  have h1 := h.take
  rw [leB_length, ← leB_leN bs pos m hl] at h1
  rw [leB_inj m _ _ (leN_lt bs pos m) hn h1]

theorem sgn_uns (z : Int) (h1 : -9223372036854775808 ≤ z) (h2 : z ≤ 9223372036854775807) : sgn (uns z) = z := by
  unfold sgn uns
  split <;> omega

theorem intM_at {bs : List UInt8} {pos : Nat} {z : Int} (h : At bs pos (leB (uns z) 8)) (h1 : -9223372036854775808 ≤ z) (h2 : z ≤ 9223372036854775807) : intM bs (pos, Option.none) = (z, (pos + 8, Option.none)) := by
  unfold intM
  rw [numM_at h (by have := uns_lt z; simpa using this)]
  simp only
  rw [sgn_uns z h1 h2]

theorem manyM_at {bs : List UInt8} {pos n most : Nat} (h : At bs pos (leB n 4)) (hn : n ≤ most) (hm : most ≤ 65536) : manyM bs most (pos, Option.none) = (n, (pos + 4, Option.none)) := by
  unfold manyM
  rw [numM_at h (by omega)]
  simp only
  rw [if_neg (by omega), if_neg (by simp)]

theorem textM_at {bs : List UInt8} {pos most : Nat} {s : ByteArray} (h : At bs pos (leB s.size 4 ++ s.data.toList)) (hn : s.size ≤ most) (hm : most ≤ 65536) : textM bs most (pos, Option.none) = (s, (pos + (4 + s.size), Option.none)) := by
  have h2 := h.right
  have hl := h.len
  rw [leB_length] at h2
  rw [List.length_append, leB_length, size_list] at hl
  unfold textM
  rw [manyM_at h.left hn hm]
  simp only
  rw [if_neg (by omega), if_neg (by simp)]
  have h3 := h2.take
  rw [size_list] at h3
  rw [h3, Nat.add_assoc]

theorem kindByte (k : Int) (h0 : 0 ≤ k) (h1 : k < 256) : [UInt8.ofNat (uns k)] = leB k.toNat 1 := by
  obtain ⟨n, rfl⟩ := Int.eq_ofNat_of_zero_le h0
  rw [kind_byte n (by omega), Int.toNat_natCast]

theorem ownG_none {k n : Int} {s : ByteArray} {len : Nat} (h : ownG k n s len = Option.none) :
    (k = 0 ∧ s.size = 0 ∧ len = 0) ∨ (k = 1 ∧ s.size = 0 ∧ len = 0) ∨ (k = 2 ∧ n = 0 ∧ len = 0) ∨ (k = 3 ∧ s.size = 0 ∧ len = 0) ∨ (k = 4 ∧ n = 0 ∧ s.size = 0) := by
  unfold ownG at h
  split at h
  · cases h
  · split at h
    · cases h
    · split at h
      · cases h
      · omega

theorem empty_of_size {s : ByteArray} (h : s.size = 0) : s = ByteArray.empty := by
  rcases s with ⟨⟨l⟩⟩
  cases l with
  | nil => rfl
  | cons a l => simp [ByteArray.size] at h

mutual
theorem readV_at (bs : List UInt8) : ∀ (x : Val) (room : Nat) (pos : Nat) (deep left left' : Int), AllFits x → walkM x deep left = .ok left' → left ≤ 4096 → (room : Int) + deep = 41 → At bs pos (bytesV x) →
    readV bs room (pos, Option.none) = (x, (pos + (bytesV x).length, Option.none))
  | .mk k n s l, room, pos, deep, left, left', hf, h, hl, hr, hat => by
    rw [walkM] at h
    split at h
    · cases h
    · rename_i hd
      split at h
      · cases h
      · rename_i hc
        cases ho : ownG k n s l.length with
        | some g => rw [ho] at h; cases h
        | none =>
          rw [ho] at h
          simp only at h
          obtain ⟨⟨-, -, hn1, hn2, -, -⟩, hfl⟩ := hf
          obtain ⟨room', rfl⟩ : ∃ r, room = r + 1 := ⟨room - 1, by omega⟩
          have hc0 := cost_nonneg k s
          have hk0 := ownG_none ho
          rw [bytesV, kindByte k (by omega) (by omega)] at hat ⊢
          have hN := numM_at hat.left (by have : k.toNat ≤ 4 := by omega
                                          have e : (256 : Nat) ^ 1 = 256 := rfl
                                          omega)
          have hR := hat.right
          rw [leB_length] at hR
          unfold readV
          rw [hN]
          simp only
          rcases hk0 with ⟨rfl, hs, hll⟩ | ⟨rfl, hs, hll⟩ | ⟨rfl, rfl, hll⟩ | ⟨rfl, hs, hll⟩ | ⟨rfl, rfl, hs⟩
          · obtain rfl := empty_of_size hs
            obtain rfl := List.eq_nil_of_length_eq_zero hll
            rw [if_pos (by decide)]
            simp only [show ¬((0 : Int) = 2) by decide, show ¬((0 : Int) = 4) by decide, if_false] at hR ⊢
            rw [intM_at hR hn1 hn2, List.length_append, leB_length, leB_length]
            rfl
          · obtain rfl := empty_of_size hs
            obtain rfl := List.eq_nil_of_length_eq_zero hll
            rw [if_pos (by decide)]
            simp only [show ¬((1 : Int) = 2) by decide, show ¬((1 : Int) = 4) by decide, if_false] at hR ⊢
            rw [intM_at hR hn1 hn2, List.length_append, leB_length, leB_length]
            rfl
          · obtain rfl := List.eq_nil_of_length_eq_zero hll
            rw [if_neg (by decide), if_pos (by decide)]
            have hcs : cost 2 s = s.size := by unfold cost; rw [if_pos rfl]
            simp only [if_true] at hR ⊢
            rw [textM_at hR (by omega) (by decide), List.length_append, List.length_append, leB_length, leB_length, size_list]
            simp only [Nat.add_assoc]
          · obtain rfl := empty_of_size hs
            obtain rfl := List.eq_nil_of_length_eq_zero hll
            rw [if_pos (by decide)]
            simp only [show ¬((3 : Int) = 2) by decide, show ¬((3 : Int) = 4) by decide, if_false] at hR ⊢
            rw [intM_at hR hn1 hn2, List.length_append, leB_length, leB_length]
            rfl
          · obtain rfl := empty_of_size hs
            rw [if_neg (by decide), if_neg (by decide), if_pos (by decide)]
            simp only [show ¬((4 : Int) = 2) by decide, if_false, if_true] at hR ⊢
            have hlen := walkL_len l (deep + 1) _ left' (by omega) h
            have hle := (walkL_le l (deep + 1) _ left' (by omega) h).2
            rw [manyM_at hR.left (by omega) (by decide)]
            simp only
            have hR2 := hR.right
            rw [leB_length] at hR2
            rw [readL_at bs l room' (pos + 1 + 4) (deep + 1) _ left' hfl h (by omega) (by omega) (by omega) hR2]
            simp only [List.length_append, leB_length, Nat.add_assoc]
theorem readL_at (bs : List UInt8) : ∀ (l : List Val) (room : Nat) (pos : Nat) (deep left left' : Int), AllFitsL l → walkL l deep left = .ok left' → 0 ≤ left → left ≤ 4096 → (room : Int) + deep = 41 → At bs pos (bytesL l) →
    readL (readV bs room) l.length (pos, Option.none) = (l, (pos + (bytesL l).length, Option.none))
  | [], _, _, _, _, _, _, _, _, _, _, _ => by simp [readL, bytesL]
  | x :: xs, room, pos, deep, left, left', hf, h, h0, hl, hr, hat => by
    rw [walkL] at h
    cases hx : walkM x deep left with
    | error g => rw [hx] at h; cases h
    | ok l1 =>
      rw [hx] at h
      simp only at h
      rw [bytesL] at hat ⊢
      have h1 := walkM_le x deep left l1 hx
      rw [List.length_cons, readL, if_neg (by simp), readV_at bs x room pos deep left l1 hf.1 hx hl hr hat.left]
      simp only
      rw [readL_at bs xs room (pos + (bytesV x).length) deep l1 left' hf.2 h h1.2 (by omega) hr hat.right]
      simp only [List.length_append, Nat.add_assoc]
end

/-! ### cut off -/
/-- from pos on there is just a part of L, not all of it -/
def Cut (bs : List UInt8) (pos : Nat) (L : List UInt8) : Prop := ∃ k, k < L.length ∧ bs.drop pos = L.take k ∧ pos ≤ bs.length
theorem Cut.split {bs : List UInt8} {pos : Nat} {L M : List UInt8} (h : Cut bs pos (L ++ M)) : Cut bs pos L ∨ (At bs pos L ∧ Cut bs (pos + L.length) M) := by
  obtain ⟨k, h1, h2, h3⟩ := h
  rw [List.length_append] at h1
  by_cases hk : k < L.length
  · exact .inl ⟨k, hk, by rw [h2, List.take_append_of_le_length (by omega)], h3⟩
  · right
    have e : (L ++ M).take k = L ++ M.take (k - L.length) := by rw [List.take_append, List.take_of_length_le (by omega)]
    rw [e] at h2
    have h4 : bs.length - pos = L.length + (M.take (k - L.length)).length := by
      have := congrArg List.length h2
      simp only [List.length_drop, List.length_append] at this
      omega
    exact ⟨⟨_, h2, h3⟩, k - L.length, by omega, by rw [← List.drop_drop, h2, List.drop_left], by omega⟩
theorem Cut.short {bs : List UInt8} {pos : Nat} {L : List UInt8} (h : Cut bs pos L) : bs.length < pos + L.length := by
  obtain ⟨k, h1, h2, h3⟩ := h
  have := congrArg List.length h2
  simp only [List.length_drop, List.length_take] at this
  omega

theorem numM_cut {bs : List UInt8} {pos n m : Nat} (h : Cut bs pos (leB n m)) : numM bs m (pos, Option.none) = (0, (pos, some 4)) := by
  have hl := h.short
  rw [leB_length] at hl
  unfold numM
  rw [if_pos (.inr hl)]
  rfl
theorem numM_err (bs : List UInt8) (pos m g : Nat) : numM bs m (pos, some g) = (0, (pos, some g)) := by
  unfold numM
  rw [if_pos (.inl rfl)]
  rfl
theorem intM_err (bs : List UInt8) (pos g : Nat) : intM bs (pos, some g) = (0, (pos, some g)) := by
  unfold intM
  rw [numM_err]
  rfl
theorem manyM_err (bs : List UInt8) (pos most g : Nat) : manyM bs most (pos, some g) = (0, (pos, some g)) := by
  unfold manyM
  rw [numM_err]
  simp
theorem textM_err (bs : List UInt8) (pos most g : Nat) (h : pos ≤ bs.length) : textM bs most (pos, some g) = (.empty, (pos, some g)) := by
  unfold textM
  rw [manyM_err]
  simp only
  rw [if_neg (by omega)]
  simp
theorem intM_cut {bs : List UInt8} {pos n : Nat} (h : Cut bs pos (leB n 8)) : (intM bs (pos, Option.none)).2.2 = some 4 := by
  unfold intM
  rw [numM_cut h]
theorem manyM_cut {bs : List UInt8} {pos n most : Nat} (h : Cut bs pos (leB n 4)) : manyM bs most (pos, Option.none) = (0, (pos, some 4)) := by
  unfold manyM
  rw [numM_cut h]
  simp
theorem textM_cut {bs : List UInt8} {pos most : Nat} {s : ByteArray} (hp : pos ≤ bs.length) (h : Cut bs pos (leB s.size 4 ++ s.data.toList)) (hn : s.size ≤ most) (hm : most ≤ 65536) : (textM bs most (pos, Option.none)).2.2 = some 4 := by
  unfold textM
  rcases h.split with h | ⟨h1, h2⟩
  · rw [manyM_cut h]
    simp only
    rw [if_neg (by omega), if_pos (show (some 4 : Option Nat).isSome = true from rfl)]
  · rw [manyM_at h1 hn hm]
    simp only
    have := h2.short
    rw [leB_length, size_list] at this
    rw [if_pos this]
    rfl

theorem readL_err (f : Rd → Val × Rd) : ∀ (n : Nat) (pos g : Nat), (readL f n (pos, some g)).2.2 = some g
  | 0, _, _ => rfl
  | _ + 1, _, _ => rfl

mutual
theorem readV_cut (bs : List UInt8) : ∀ (x : Val) (room : Nat) (pos : Nat) (deep left left' : Int), AllFits x → walkM x deep left = .ok left' → left ≤ 4096 → (room : Int) + deep = 41 → pos ≤ bs.length → Cut bs pos (bytesV x) →
    (readV bs room (pos, Option.none)).2.2 = some 4
  | .mk k n s l, room, pos, deep, left, left', hf, h, hl, hr, hp, hat => by
    rw [walkM] at h
    split at h
    · cases h
    · rename_i hd
      split at h
      · cases h
      · rename_i hc
        cases ho : ownG k n s l.length with
        | some g => rw [ho] at h; cases h
        | none =>
          rw [ho] at h
          simp only at h
          obtain ⟨⟨-, -, hn1, hn2, -, -⟩, hfl⟩ := hf
          obtain ⟨room', rfl⟩ : ∃ r, room = r + 1 := ⟨room - 1, by omega⟩
          have hc0 := cost_nonneg k s
          have hk0 := ownG_none ho
          rw [bytesV, kindByte k (by omega) (by omega)] at hat
          unfold readV
          rcases hat.split with hat | ⟨ha, hR⟩
          · rw [numM_cut hat]
            simp only
            rw [if_pos (by decide), intM_err]
          have hpl := ha.len
          rw [leB_length] at hR hpl
          rw [numM_at ha (by have : k.toNat ≤ 4 := by omega
                             have e : (256 : Nat) ^ 1 = 256 := rfl
                             omega)]
          simp only
          rcases hk0 with ⟨rfl, hs, hll⟩ | ⟨rfl, hs, hll⟩ | ⟨rfl, rfl, hll⟩ | ⟨rfl, hs, hll⟩ | ⟨rfl, rfl, hs⟩
          · rw [if_pos (by decide)]
            simp only [show ¬((0 : Int) = 2) by decide, show ¬((0 : Int) = 4) by decide, if_false] at hR
            exact intM_cut hR
          · rw [if_pos (by decide)]
            simp only [show ¬((1 : Int) = 2) by decide, show ¬((1 : Int) = 4) by decide, if_false] at hR
            exact intM_cut hR
          · rw [if_neg (by decide), if_pos (by decide)]
            have hcs : cost 2 s = s.size := by unfold cost; rw [if_pos rfl]
            simp only [if_true] at hR
            exact textM_cut hpl hR (by omega) (by decide)
          · rw [if_pos (by decide)]
            simp only [show ¬((3 : Int) = 2) by decide, show ¬((3 : Int) = 4) by decide, if_false] at hR
            exact intM_cut hR
          · rw [if_neg (by decide), if_neg (by decide), if_pos (by decide)]
            simp only [show ¬((4 : Int) = 2) by decide, if_false, if_true] at hR
            have hlen := walkL_len l (deep + 1) _ left' (by omega) h
            have hle := (walkL_le l (deep + 1) _ left' (by omega) h).2
            rcases hR.split with hR | ⟨ha2, hR2⟩
            · rw [manyM_cut hR]
              rfl
            · rw [manyM_at ha2 (by omega) (by decide)]
              simp only
              have hpl2 := ha2.len
              rw [leB_length] at hR2 hpl2
              exact readL_cut bs l room' (pos + 1 + 4) (deep + 1) _ left' hfl h (by omega) (by omega) (by omega) hpl2 hR2
theorem readL_cut (bs : List UInt8) : ∀ (l : List Val) (room : Nat) (pos : Nat) (deep left left' : Int), AllFitsL l → walkL l deep left = .ok left' → 0 ≤ left → left ≤ 4096 → (room : Int) + deep = 41 → pos ≤ bs.length → Cut bs pos (bytesL l) →
    (readL (readV bs room) l.length (pos, Option.none)).2.2 = some 4
  | [], _, _, _, _, _, _, _, _, _, _, _, hat => by
    obtain ⟨k, h1, _⟩ := hat
    simp [bytesL] at h1
  | x :: xs, room, pos, deep, left, left', hf, h, h0, hl, hr, hp, hat => by
    rw [walkL] at h
    cases hx : walkM x deep left with
    | error g => rw [hx] at h; cases h
    | ok l1 =>
      rw [hx] at h
      simp only at h
      rw [bytesL] at hat
      have h1 := walkM_le x deep left l1 hx
      rw [List.length_cons, readL, if_neg (by simp)]
      simp only
      rcases hat.split with hat | ⟨ha, hR⟩
      · have h2 := readV_cut bs x room pos deep left l1 hf.1 hx hl hr hp hat
        generalize (readV bs room (pos, Option.none)).2 = q at h2
        obtain ⟨a, b⟩ := q
        simp only at h2
        subst h2
        exact readL_err _ _ _ _
      · rw [readV_at bs x room pos deep left l1 hf.1 hx hl hr ha]
        simp only
        exact readL_cut bs xs room (pos + (bytesV x).length) deep l1 left' hf.2 h h1.2 (by omega) hr ha.len hR
end

theorem valid_ok {x : Val} (h : validM x = Option.none) : ∃ l, walkM x 1 4096 = .ok l := by
  unfold validM at h
  cases hw : walkM x 1 4096 with
  | error g => rw [hw] at h; cases h
  | ok l => exact ⟨l, rfl⟩

theorem readM_at {x : Val} {post : List UInt8} (hv : validM x = Option.none) (hf : AllFits x) : readM (bytesV x ++ post) = (x, (bytesV x).length, Option.none) := by
  obtain ⟨l, hw⟩ := valid_ok hv
  have h := readV_at (bytesV x ++ post) x 40 0 1 4096 l hf hw (by decide) (by decide) ⟨post, by simp, Nat.zero_le _⟩
  rw [Nat.zero_add] at h
  have hr : rightM (bytesV x ++ post) (0, Option.none) = (x, ((bytesV x).length, Option.none)) := by
    unfold rightM
    rw [h]
    simp only [Option.isSome_none, Bool.false_eq_true, if_false]
    rw [hv]
  unfold readM
  rw [hr]
  simp

theorem readM_cut {x : Val} {k : Nat} (hv : validM x = Option.none) (hf : AllFits x) (hk : k < (bytesV x).length) : readM ((bytesV x).take k) = (zeroVal, 0, some 4) := by
  obtain ⟨l, hw⟩ := valid_ok hv
  have h := readV_cut ((bytesV x).take k) x 40 0 1 4096 l hf hw (by decide) (by decide) (Nat.zero_le _) ⟨k, hk, by simp, Nat.zero_le _⟩
  have hr : (rightM ((bytesV x).take k) (0, Option.none)).2.2 = some 4 := by
    unfold rightM
    rw [if_pos (by rw [h]; rfl)]
    exact h
  unfold readM
  rw [if_pos (by rw [hr]; rfl), hr]
end Go.Proofs.YtmkghfkikclodaaDoor
namespace Go.Proofs.YtmkghfkikclodaaDoor
open Go.RowKit

mutual
theorem bytesV_few : ∀ (x : Val) (left deep : Int), -1 ≤ left → 0 ≤ fewM x left deep → ((bytesV x).length : Int) ≤ 24 * (left - fewM x left deep)
  | .mk k n s l, left, deep, hl, h => by
    unfold fewM at h ⊢
    split at h
    · omega
    · rename_i hc
      rw [if_neg hc]
      have h1 := bytesL_few l (left - 1 - s.size / 16) (deep + 1) (by omega) h
      have h2 := (fewL_le l (left - 1 - s.size / 16) (deep + 1) (by omega)).2
      have hn : (0 : Int) ≤ ((bytesL l).length : Int) := Int.natCast_nonneg _
      generalize fewL l (left - 1 - s.size / 16) (deep + 1) = z at h h1 h2 ⊢
      rw [bytesV, List.length_append]
      simp only [List.length_singleton]
      split
      · rw [List.length_append, leB_length, size_list]; omega
      · split
        · rw [List.length_append, leB_length]; omega
        · rw [leB_length]; omega
theorem bytesL_few : ∀ (l : List Val) (left deep : Int), -1 ≤ left → 0 ≤ fewL l left deep → ((bytesL l).length : Int) ≤ 24 * (left - fewL l left deep)
  | [], left, deep, hl, h => by unfold fewL bytesL; simp
  | x :: xs, left, deep, hl, h => by
    unfold fewL at h ⊢
    split at h
    · omega
    · rename_i hc
      rw [if_neg hc]
      have h1 := fewM_le x left deep hl
      have h2 := bytesV_few x left deep hl (by omega)
      have h3 := bytesL_few xs (fewM x left deep) deep (by omega) h
      rw [bytesL, List.length_append]
      omega
end

mutual
theorem bytesN1_few : ∀ (x : Nd) (left deep : Int), -1 ≤ left → 0 ≤ fewNM x left deep → ((bytesN1 x).length : Int) ≤ 32 * (left - fewNM x left deep)
  | .mk op line s v l, left, deep, hl, h => by
    unfold fewNM at h ⊢
    split at h
    · omega
    · rename_i hc
      rw [if_neg hc]
      have h1 := fewM_le v (left - 1 - s.size / 16) 0 (by omega)
      split at h
      · omega
      · rename_i hv
        rw [if_neg hv]
        have h2 := bytesV_few v (left - 1 - s.size / 16) 0 (by omega) (by omega)
        have h3 := bytesNR_few l (fewM v (left - 1 - s.size / 16) 0) (deep + 1) (by omega) h
        have h4 := (fewNL_bd l (fewM v (left - 1 - s.size / 16) 0) (deep + 1) (by omega)).2
        generalize fewNL l (fewM v (left - 1 - s.size / 16) 0) (deep + 1) = z at h h3 h4 ⊢
        have h5 : fewM v (left - 1 - s.size / 16) 0 ≤ left - 1 - s.size / 16 - 1 := by
          rw [fewM_eq]
          split
          · omega
          · have := (fewL_le v.l (left - 1 - s.size / 16 - 1 - v.s.size / 16) (0 + 1) (by omega)).2
            omega
        generalize fewM v (left - 1 - s.size / 16) 0 = y at h1 h2 h3 h4 h5 hv
        rw [bytesN1]
        simp only [List.length_append, List.length_singleton, leB_length, size_list]
        omega
theorem bytesNR_few : ∀ (l : List Nd) (left deep : Int), -1 ≤ left → 0 ≤ fewNL l left deep → ((bytesNR l).length : Int) ≤ 32 * (left - fewNL l left deep)
  | [], left, deep, hl, h => by unfold fewNL bytesNR; simp
  | x :: xs, left, deep, hl, h => by
    unfold fewNL at h ⊢
    split at h
    · omega
    · rename_i hc
      rw [if_neg hc]
      have h1 := fewNM_bd x left deep hl
      have h2 := bytesN1_few x left deep hl (by omega)
      have h3 := bytesNR_few xs (fewNM x left deep) deep (by omega) h
      rw [bytesNR, List.length_append]
      omega
end
theorem bytesNs_few {l : List Nd} (h : 0 ≤ fewNL l 300 0) : (bytesNs l).length ≤ 9604 := by
  have := bytesNR_few l 300 0 (by decide) h
  unfold bytesNs
  rw [List.length_append, leB_length]
  omega

mutual
/-- no value has great strings -/
def SmallN : Nd → Prop
  | .mk _ _ s v l => s.size ≤ 1000000 ∧ SmallM v ∧ SmallNL l
def SmallNL : List Nd → Prop
  | [] => True
  | x :: xs => SmallN x ∧ SmallNL xs
end
theorem SmallN.iff (x : Nd) : SmallN x ↔ x.s.size ≤ 1000000 ∧ SmallM x.v ∧ SmallNL x.l := by cases x; rfl
theorem smallN_get : ∀ {l : List Nd}, SmallNL l → ∀ (i : Nat) (h : i < l.length), SmallN l[i]
  | _ :: _, h, 0, _ => h.1
  | _ :: _, h, i + 1, hi => smallN_get h.2 i (by simpa using hi)
mutual
theorem fewNM_small : ∀ (x : Nd) (left deep : Int), left ≤ 6000 → -1 ≤ left → 0 ≤ fewNM x left deep → SmallN x
  | .mk op line s v l, left, deep, hl, hl1, h => by
    unfold fewNM at h
    split at h
    · omega
    · have h1 := fewM_le v (left - 1 - s.size / 16) 0 (by omega)
      split at h
      · omega
      · exact ⟨by omega, fewM_small v (left - 1 - s.size / 16) 0 (by omega) (by omega) (by omega), fewNL_small l (fewM v (left - 1 - s.size / 16) 0) (deep + 1) (by omega) (by omega) h⟩
theorem fewNL_small : ∀ (l : List Nd) (left deep : Int), left ≤ 6000 → -1 ≤ left → 0 ≤ fewNL l left deep → SmallNL l
  | [], _, _, _, _, _ => trivial
  | x :: xs, left, deep, hl, hl1, h => by
    unfold fewNL at h
    split at h
    · omega
    · have h1 := fewNM_bd x left deep hl1
      exact ⟨fewNM_small x left deep hl hl1 (by omega), fewNL_small xs (fewNM x left deep) deep (by omega) (by omega) h⟩
end

mutual
theorem walkM_small : ∀ (x : Val) (deep left left' : Int), left ≤ 4096 → walkM x deep left = .ok left' → SmallM x
  | .mk k n s l, deep, left, left', hl, h => by
    unfold walkM at h
    split at h
    · cases h
    · split at h
      · cases h
      · rename_i hc
        cases ho : ownG k n s l.length with
        | some g => rw [ho] at h; cases h
        | none =>
          rw [ho] at h
          simp only at h
          have h0 := cost_nonneg k s
          have hk := ownG_none ho
          refine ⟨?_, walkL_small l (deep + 1) (left - (1 + cost k s)) left' (by omega) h⟩
          by_cases h2 : k = 2
          · have : cost k s = s.size := by unfold cost; rw [if_pos h2]
            omega
          · omega
theorem walkL_small : ∀ (l : List Val) (deep left left' : Int), left ≤ 4096 → walkL l deep left = .ok left' → SmallL l
  | [], _, _, _, _, _ => trivial
  | x :: xs, deep, left, left', hl, h => by
    unfold walkL at h
    cases hx : walkM x deep left with
    | error g => rw [hx] at h; cases h
    | ok l1 =>
      rw [hx] at h
      have := (walkM_le x deep left l1 hx).1
      exact ⟨walkM_small x deep left l1 hl hx, walkL_small xs deep l1 left' (by omega) h⟩
end
end Go.Proofs.YtmkghfkikclodaaDoor
