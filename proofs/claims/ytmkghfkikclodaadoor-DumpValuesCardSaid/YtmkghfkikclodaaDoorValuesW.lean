/- DumpValues' walk. -/
import Derived.Test.YtmkghfkikclodaaDoorSee
import Derived.Test.YtmkghfkikclodaaDoorPlainB
import Derived.Laws.AppendOwnNone
namespace Go.Proofs.YtmkghfkikclodaaDoor
open Go.RowKit

theorem OwnB.bs {w : World} {base : Nat} {v : Value} {l : List UInt8} (h : OwnB w base 5 v l) : Bs w.heap.size w v l := by
  rcases h.2 with ⟨rfl, h0⟩ | ⟨g, cap, cur, rfl, hb, hg, hcap, hrest⟩
  · obtain rfl : l = [] := List.eq_nil_of_length_eq_zero h0
    exact ⟨none, 0, rfl, Nat.le_refl _, .inl rfl⟩
  · refine ⟨_, _, rfl, hcap, .inr ⟨_, rfl, (Array.getElem?_eq_some_iff.1 hg).1, fun j hj => ?_⟩⟩
    exact World.ownsRow.cells h (g := g) rfl j (byteV l[j]) (by simp [hj])

theorem Bs.mono {w : World} {B B' : Nat} {v : Value} {l : List UInt8} (h : Bs B w v l) (hB : B ≤ B') : Bs B' w v l := by
  obtain ⟨a, c, he, h1, h2⟩ := h
  refine ⟨a, c, he, h1, ?_⟩
  rcases h2 with h2 | ⟨ad, rfl, h3, h4⟩
  · exact .inl h2
  · exact .inr ⟨ad, rfl, by omega, h4⟩

theorem Bs.below {w w' : World} {B : Nat} {v : Value} {l : List UInt8} (h : Bs B w v l) (hb : Below B w w') : Bs B w' v l := by
  obtain ⟨a, c, he, h1, h2⟩ := h
  refine ⟨a, c, he, h1, ?_⟩
  rcases h2 with h2 | ⟨ad, rfl, h3, h4⟩
  · exact .inl h2
  · exact .inr ⟨ad, rfl, h3, fun j hj => (hb.cell (by rw [add_block]; exact h3)).trans (h4 j hj)⟩

/-- the first k of them -/
theorem Bs.first {w : World} {B : Nat} {a : Option Addr} {c : Nat} {bs : List UInt8} (h : Bs B w (.slice a bs.length c) bs) (k : Nat) (hk : k ≤ bs.length) : Bs B w (.slice a (bs.take k).length c) (bs.take k) := by
  obtain ⟨a', c', he, h1, h2⟩ := h
  obtain ⟨rfl, rfl⟩ : a = a' ∧ c = c' := by
    simp only [Value.slice.injEq] at he
    exact ⟨he.1, he.2.2⟩
  refine ⟨a, c, rfl, by rw [List.length_take]; omega, ?_⟩
  rcases h2 with rfl | ⟨ad, rfl, h3, h4⟩
  · left; simp
  · refine .inr ⟨ad, rfl, h3, fun j hj => ?_⟩
    rw [List.length_take] at hj
    rw [h4 j (by omega)]
    simp

/-- append of what lies in such a slice, nil too -/
theorem append_bs {w : World} {ops : Array Oper} {rest : List Oper} {o : Oper} {a : Act} {Q : Exit → Act → World → Prop} (hgd : o.guard = none) (sl x : Operand)
    (ho : o.op = .call { callee := .builtin .append, args := #[sl, x], argTypes := #[25, 25] })
    (base : Nat) (v : Value) (l : List UInt8) (hs : a.eval sl = v) (hown : OwnB w base 5 v l) (B : Nat) (u : Value) (m : List UInt8) (hx : a.eval x = u) (hm : Bs B w u m) (hnil : ∀ n c, u = .slice none n c → u = .slice none 0 0)
    (hlen : l.length + m.length ≤ 140737488355328) (hbase : base ≤ w.heap.size)
    (h : ∀ v' w', OwnB w' base 5 v' (l ++ m) → w.grownBy w' v.ownBlock → wpList Tryd.prog ops Q rest (a.put o.dst v') w') : wpList Tryd.prog ops Q (o :: rest) a w := by
  obtain ⟨a', c', rfl, h1, h2⟩ := hm
  obtain ⟨i, hi, hz0, hz1, hz2⟩ := info_parts info5
  cases a' with
  | none =>
    have e := hnil _ _ rfl
    simp only [Value.slice.injEq, true_and] at e
    obtain rfl : m = [] := List.eq_nil_of_length_eq_zero e.1
    refine wpList_append_own_none hgd sl x 25 ho base 5 i 1 Tryd.underlying25 hi v l.length _ hs hown (by rw [hx]; rw [e.2]; rfl) (h v w ?_ ?_)
    · rw [List.append_nil]; exact hown
    · exact ⟨rfl, rfl, rfl, Nat.le_refl _, fun _ _ _ => rfl⟩
  | some ad =>
    refine append_bytes w hgd sl x 25 ho base 5 Tryd.underlying25 info5 v l hs hown ad c' m m.length rfl hx ?_ hlen hbase h
    intro j hj
    rcases h2 with rfl | ⟨ad', he, h3, h4⟩
    · simp at hj
    · obtain rfl := Option.some.inj he
      exact h4 j hj

set_option maxRecDepth 100000 in
set_option maxHeartbeats 4000000 in
theorem dumpValues_walk (p : Nat → Addr) (w : World) (x : Val) (a : Option Addr) (c : Nat) (u : Value) (post : List UInt8) (cut : Int) (hw : 17 ≤ w.heap.size) (hE : Errs 17 p w) (hf : Fits x.kind x.n x.s x.l.length)
    (hR : RepSl (Lo w.heap.size) w a x.l) (hbs : Bs w.heap.size w u post) (hnil : ∀ n c, u = .slice none n c → u = .slice none 0 0) (hpl : post.length ≤ 9223372036854775807) (hc1 : -9223372036854775808 ≤ cut) (hc2 : cut ≤ 9223372036854775807) :
    Calls Tryd.prog 3 #[.agg #[.int .i64 x.kind, .int .i64 x.n, .string x.s, .slice a x.l.length c], u, .int .i64 cut] w (BoolOut w true) := by
  have hall : AllFits x := by
    have h1 := hR.fits
    cases x
    exact ⟨hf, h1⟩
  have hv := VB.new w (.int .i64 x.kind) (.int .i64 x.n) (.string x.s) (.slice a x.l.length c)
  have hal := bal w (.cells #[.int .i64 x.kind, .int .i64 x.n, .string x.s, .slice a x.l.length c] 24)
  have HV := Lib.hid hv
  have HAL := Lib.hid hal
  have hsz : w.heap.size + 1 = (w.alloc (.cells #[.int .i64 x.kind, .int .i64 x.n, .string x.s, .slice a x.l.length c] 24)).heap.size := by simp
  have HSZ := Lib.hid hsz
  have hE0 := hE.below hal hw
  have hR0 := hR.below hal
  have hbs0 := hbs.below hal
  obtain ⟨a', c', rfl⟩ : ∃ a' c', u = .slice a' post.length c' := by obtain ⟨a', c', h, _⟩ := hbs; exact ⟨a', c', h⟩
  obtain ⟨d0, d1, d2, d3, -⟩ := hv.all
  have hgl := hv.lt
  clear hv hal hE hR hbs hsz
  go_enter Tryd.func3, Tryd.ntmps3
  go_wp2_with fail
  generalize w.alloc (.cells #[.int .i64 x.kind, .int .i64 x.n, .string x.s, .slice a x.l.length c] 24) = w0 at HV HAL HSZ hE0 hR0 hbs0 d0 d1 d2 d3 hgl
  have hw0 : 17 ≤ w0.heap.size := by omega
  have HF := Lib.hid fun (w' : World) (h : Since w0 w') => first_any p w' (by have := h.1; omega) (fun g hg => (h.errs (by omega) hE0) g (by omega))
  have HSM := Lib.hid fun (w' : World) (h : Since w0 w') => small_any x a c w' hf (h.rep (by omega) hR0)
  have HDV := Lib.hid fun (w' : World) (h : Since w0 w') => dumpValue_any p x a c w' (by have := h.1; omega) hf (h.rep (by omega) hR0) (fun g hg => (h.errs (by omega) hE0) g (by omega)) (by have := dumpM_len x; omega)
  have HRT := Lib.hid fun (w' : World) (h : Since w0 w') (hs : SmallM x) => right_ref x a c w' hf hs (h.rep (by omega) hR0)
  have HRV := Lib.hid fun (w' : World) (h : Since w0 w') (v : Value) (l : List UInt8) (hl : l.length ≤ 1000000) (hb : Bs w'.heap.size w' v l) => readValue_any p w' v l (by omega) hb (fun g hg => (h.errs (by omega) hE0) g (by omega)) (by have := h.1; omega)
  have HSV := Lib.hid fun (w' : World) (h : Since w0 w') (a2 : Option Addr) (c2 : Nat) (h2 : RepSl (Lo w'.heap.size) w' a2 x.l) => sameValue_same (SizeOf.sizeOf x) x a a2 c c2 w' (Nat.le_refl _) hf (h.rep (by omega) hR0) h2
  have HIS := Lib.hid fun (w' : World) (h : Since w0 w') => is_end p w' (h.errs (by omega) hE0) (by have := h.1; omega)
  have HBS := Lib.hid fun (w' : World) (h : Since w0 w') => h.bs (by omega) hbs0
  have HSMALL : Hid (0 ≤ fewM x 6000 0 → SmallM x) := by show _ → _; exact fewM_small x 6000 0 (by decide) (by decide)
  have HDL := Lib.hid (dumpM_len x)
  have HALL := Lib.hid hall
  clear hE0 hR0 hbs0 hf hall
  refine (HF.out _ ⟨Nat.le_refl _, fun _ _ => rfl⟩).mono ?_
  rintro e w1 ⟨rfl, T1⟩
  clear d0 d1 d2 d3
  obtain ⟨d0, d1, d2, d3, -⟩ := (HV.out.below T1 hgl).all
  go_wp2_with fail
  refine (HSM.out _ ⟨T1.size, T1.block⟩).mono ?_
  rintro e w2 ⟨rfl, T⟩
  have T2 := T1.trans (T.mono T1.size)
  clear d0 d1 d2 d3 T
  obtain ⟨d0, d1, d2, d3, -⟩ := (HV.out.below T2 hgl).all
  by_cases hsm : ¬ 0 ≤ fewM x 6000 0
  · rw [decide_eq_false hsm]
    go_wp2_with fail
    go_ret
    exact ⟨rfl, HAL.out.trans (T2.mono (by omega))⟩
  have hsm := Classical.not_not.1 hsm
  rw [decide_eq_true hsm]
  have hsmall := HSMALL.out hsm
  by_cases h50 : 50 < post.length
  · go_wp2_with fail
    go_ret
    exact ⟨rfl, HAL.out.trans (T2.mono (by omega))⟩
  clear hsm hpl
  have HS2 := Lib.hid hsmall
  clear hsmall
  go_wp2_with fail
  refine (HDV.out _ ⟨T2.size, T2.block⟩).mono ?_
  rintro e w3 ⟨vb, rfl, hob, hkb⟩
  have T := hkb.below (Nat.le_refl _)
  have T3 := T2.trans (T.mono T2.size)
  clear d0 d1 d2 d3 T hkb
  obtain ⟨d0, d1, d2, d3, -⟩ := (HV.out.below T3 hgl).all
  have hbb := hob.bs
  obtain ⟨ab, cb, rfl⟩ := hob.shape
  clear hob
  go_wp2_with fail
  refine (HRT.out _ ⟨T3.size, T3.block⟩ HS2.out).mono ?_
  rintro e w4 ⟨rfl, T⟩
  have T4 := T3.trans (T.mono T3.size)
  have hbb4 := (hbb.below T).mono T.size
  clear d0 d1 d2 d3 T hbb
  obtain ⟨d0, d1, d2, d3, -⟩ := (HV.out.below T4 hgl).all
  cases hval : validM x with
  | some g =>
    have hL : dumpM x = [] := by unfold dumpM; rw [hval]; rfl
    rw [hL] at hbb4 ⊢
    clear hval hL hbb4
    simp only [Option.isNone_some]
    go_wp2_with fail
    go_ret
    exact ⟨rfl, HAL.out.trans (T4.mono (by omega))⟩
  | none =>
    have hL : dumpM x = bytesV x := by unfold dumpM; rw [hval]; rfl
    have HDL2 := HDL.out
    rw [hL] at hbb4 HDL2 ⊢
    have HAT : Hid (readM (bytesV x ++ post) = (x, (bytesV x).length, Option.none)) := by show _ = _; exact readM_at hval HALL.out
    have HCUT : Hid (∀ k, k < (bytesV x).length → readM ((bytesV x).take k) = (zeroVal, 0, some 4)) := by show ∀ _, _; exact fun k hk => readM_cut hval HALL.out hk
    have hpos := bytesV_pos x
    clear hval hL
    generalize bytesV x = L at hbb4 HDL2 HAT HCUT hpos ⊢
    have HB4 := Lib.hid hbb4
    clear hbb4
    simp only [Option.isNone_none]
    go_wp2_with fail
    refine (bytes_any _ _ L ?_ (by omega)).mono ?_
    · have := HB4.out.take L.length (Nat.le_refl _)
      rwa [List.take_length] at this
    rintro e w5 ⟨vc, rfl, hoc, hkc⟩
    have T := hkc.below (Nat.le_refl _)
    have T5 := T4.trans (T.mono T4.size)
    have hbb5 := (HB4.out.below T).mono T.size
    have hsz4 := T4.size
    have hsz5 := T5.size
    have hbs5 := HBS.out w5 ⟨T5.size, T5.block⟩
    obtain ⟨ac, cc, rfl⟩ := hoc.shape
    have hlp : (L ++ post).length ≤ 100000 := by rw [List.length_append]; omega
    generalize hLP : L ++ post = LP at HAT hlp
    have HLP := Lib.hid hLP
    clear hLP d0 d1 d2 d3
    go_wp2_with (at_builtin; go_loud (refine append_bs rfl (.tmp 41) (.tmp 42) rfl w4.heap.size _ L rfl hoc w5.heap.size (.slice a' post.length c') post rfl hbs5 hnil ?c1 ?c2 ?_))
    case c1 => omega
    case c2 => have := T.size; omega
    intro v6 w6 ho6 hg6
    rw [HLP.out] at ho6
    have U6 := (Kept.grown hoc hg6).below T.size
    have T6 := T5.trans (U6.mono T4.size)
    have hbb6 := ((HB4.out.below T).below U6)
    have HRV6 := HRV.out w6 ⟨T6.size, T6.block⟩ v6 LP (by omega) ho6.bs
    rw [HAT.out] at HRV6
    have HR6 := Lib.hid HRV6
    have hsz6 := T6.size
    have h46 := T.size
    have h56 := U6.size
    obtain ⟨a6, c6, rfl⟩ := ho6.shape
    clear HRV6 ho6 hg6 hoc hbs5 hbb5 U6 T hkc
    go_wp2_with fail
    refine HR6.out.mono ?_
    rintro e w7 ⟨v7, rfl, ⟨a7, c7, rfl, hf7, hs7⟩, T⟩
    simp only [errO]
    simp only at hs7
    have T7 := T6.trans (T.mono T6.size)
    have hbb7 := hbb6.below (T.mono (by omega))
    have h67 := T.size
    clear T hbb6 hf7 HR6
    obtain ⟨kk, hkk⟩ := Int.eq_ofNat_of_zero_le (Int.emod_nonneg cut (show (L.length : Int) ≠ 0 by omega))
    have hkl : kk < L.length := by have := Int.emod_lt_of_pos cut (show 0 < (L.length : Int) by omega); omega
    have hcap : L.length ≤ cb := by
      obtain ⟨q1, q2, he, h1, _⟩ := HB4.out
      simp only [Value.slice.injEq, true_and] at he
      omega
    have HN := Lib.hid fun (w' : World) => number_any cut L.length w' (by omega) (by omega) hc1 hc2
    rw [hkk] at HN
    have hkc : kk ≤ cb := by omega
    have HS7 := Lib.hid (And.intro hs7 hbb7)
    have hlk : (L.take kk).length = kk := by rw [List.length_take]; omega
    have HLK := Lib.hid hlk
    clear hkk hs7 hbb7 hlk
    go_wp2_with fail
    refine (HN.out _).mono ?_
    rintro e w' ⟨rfl, rfl⟩
    have T8 := T7.trans ((bal w7 (.cells #[.int .i64 x.kind, .int .i64 x.n, .string x.s, .slice a7 x.l.length c7] 24)).mono T7.size)
    have U8 := bal w7 (.cells #[.int .i64 x.kind, .int .i64 x.n, .string x.s, .slice a7 x.l.length c7] 24)
    have hv8 := VB.new w7 (.int .i64 x.kind) (.int .i64 x.n) (.string x.s) (.slice a7 x.l.length c7)
    have hsz8 : (w7.alloc (.cells #[.int .i64 x.kind, .int .i64 x.n, .string x.s, .slice a7 x.l.length c7] 24)).heap.size = w7.heap.size + 1 := by simp
    generalize w7.alloc (.cells #[.int .i64 x.kind, .int .i64 x.n, .string x.s, .slice a7 x.l.length c7] 24) = w8 at T8 U8 hv8 hsz8 ⊢
    have HRV8 := HRV.out w8 ⟨T8.size, T8.block⟩ (.slice ab kk cb) (L.take kk) (by rw [HLK.out]; omega) (by
      have := ((HS7.out.2.below (U8.mono (by omega))).first kk (by omega)).mono (show w4.heap.size ≤ w8.heap.size by omega)
      rwa [HLK.out] at this)
    rw [HCUT.out kk hkl] at HRV8
    have HR8 := Lib.hid HRV8
    have HA8 := Lib.hid (And.intro T8 (And.intro U8 hv8))
    have h78 : w7.heap.size < w8.heap.size := by omega
    clear HRV8 T8 U8 hv8 hsz8
    go_wp2_with fail
    refine HR8.out.mono ?_
    rintro e w9 ⟨v9, rfl, ⟨a9, c9, rfl, hf9, hs9⟩, T⟩
    simp only [errO, show zeroVal.kind = 0 from rfl, show zeroVal.n = 0 from rfl, show zeroVal.s = ByteArray.empty from rfl, show zeroVal.l = [] from rfl, List.length_nil]
    obtain ⟨T8, U8, hv8⟩ := HA8.out
    have T9 := T8.trans (T.mono T8.size)
    have U9 := U8.trans (T.mono U8.size)
    have hv9 := hv8.below T h78
    have h89 := T.size
    obtain ⟨k0, k1, k2, k3, -⟩ := (hv9.below (bal w9 (.cells #[.int .i64 0, .int .i64 0, .string ByteArray.empty, .slice a9 0 c9] 24)) hv9.lt).all
    obtain ⟨d0, d1, d2, d3, -⟩ := ((HV.out.below T9 hgl).below (bal w9 (.cells #[.int .i64 0, .int .i64 0, .string ByteArray.empty, .slice a9 0 c9] 24)) (by omega)).all
    have HA9 := Lib.hid (And.intro T9 U9)
    clear T8 U8 hv8 T T9 U9 hv9 hf9 hs9
    unfold errV
    go_wp2_with fail
    obtain ⟨T9, U9⟩ := HA9.out
    have hal := bal w9 (.cells #[.int .i64 0, .int .i64 0, .string ByteArray.empty, .slice a9 0 c9] 24)
    have T10 := T9.trans (hal.mono T9.size)
    have U10 := U9.trans (hal.mono U9.size)
    generalize w9.alloc (.cells #[.int .i64 0, .int .i64 0, .string ByteArray.empty, .slice a9 0 c9] 24) = w10 at T10 U10 d0 d1 d2 d3 k0 k1 k2 k3 ⊢
    have HC := HSV.out w10 ⟨T10.size, T10.block⟩ a7 c7 (HS7.out.1.keep (fun k hk => U10.block k hk.2) (fun k hk => Nat.lt_of_lt_of_le hk.2 U10.size))
    clear hal T9 U9 U10 d0 d1 d2 d3 k0 k1 k2 k3
    refine HC.mono ?_
    rintro e w11 ⟨rfl, T⟩
    have T11 := T10.trans (T.mono T10.size)
    have HI := HIS.out w11 ⟨T11.size, T11.block⟩
    unfold errV at HI
    have HI2 := Lib.hid HI
    clear T HC HI
    go_wp2_with fail
    refine HI2.out.mono ?_
    rintro e w12 ⟨rfl, T⟩
    have T12 := T11.trans (T.mono T11.size)
    clear T
    go_wp2
    go_ret
    exact ⟨rfl, HAL.out.trans (T12.mono (by omega))⟩
end Go.Proofs.YtmkghfkikclodaaDoor
