/- DumpNodes' walk. -/
import Derived.Test.YtmkghfkikclodaaDoorM29
import Derived.Test.YtmkghfkikclodaaDoorM30
set_option linter.unusedVariables false
set_option linter.unusedSimpArgs false
namespace Go.Proofs.YtmkghfkikclodaaDoor
open Go.RowKit

/-! ### a right program's values are small -/
mutual
theorem walk_small : ∀ (x : Nd) (role : Int) (loop : Bool), walkB x role loop = true → SmallN x
  | .mk op line s v l, role, loop, h => by
    rw [walkB, Bool.and_eq_true] at h
    have hs := own_text h.1
    obtain ⟨lv, hv⟩ := own_val h.1
    exact ⟨by omega, walkM_small v 1 4096 lv (by decide) hv, kids_small l op role loop l.length 0 h.2⟩
theorem kids_small : ∀ (ks : List Nd) (op role : Int) (loop : Bool) (n i : Nat), kidsB op role loop n i ks = true → SmallNL ks
  | [], _, _, _, _, _, _ => trivial
  | y :: ys, op, role, loop, n, i, h => by
    rw [kidsB, Bool.and_eq_true] at h
    exact ⟨walk_small y _ _ h.1, kids_small ys op role loop n (i + 1) h.2⟩
end
theorem all_small : ∀ (l : List Nd), (l.all fun x => walkB x 7 false) = true → SmallNL l
  | [], _ => trivial
  | x :: xs, h => by
    rw [List.all_cons, Bool.and_eq_true] at h
    exact ⟨walk_small x 7 false h.1, all_small xs h.2⟩
theorem valid_small {l : List Nd} (h : validB l = true) : SmallNL l := all_small l (valid_parts h).2.2

def GotN (l : List Nd) (n : Nat) (W : World) (e : Ending) (w' : World) : Prop := (∃ (a : Option Addr) (c : Nat), e = .returned (.tuple #[.slice a l.length c, .int .i64 n, .nilIface]) ∧ RepNSl (New W.heap.size w'.heap.size) w' a l) ∧ Below W.heap.size W w'
def NoneN (W : World) (e : Ending) (w' : World) : Prop := (∃ t u, e = .returned (.tuple #[.slice none 0 0, .int .i64 0, .iface t u])) ∧ Below W.heap.size W w'
theorem readNodes_some (p : Nat → Addr) (w : World) (bv : Value) (bs : List UInt8) (l : List Nd) (n : Nat) (hq : readP bs = some (l, n)) (hlen : bs.length ≤ 50000) (hbs : Bs w.heap.size w bv bs) (hE : Errs 6 p w) (hw : 6 ≤ w.heap.size) :
    Calls Tryd.prog 19 #[bv] w (GotN l n w) := by
  refine (readNodes_any p w bv bs hlen hbs hE hw).mono ?_
  rintro e w' ⟨⟨h, _⟩ | ⟨l', n', a, c, he, rfl, hr⟩, hB⟩
  · rw [hq] at h; cases h
  · rw [hq] at he
    injection he with he
    injection he with h1 h2
    subst h1 h2
    exact ⟨⟨a, c, rfl, hr⟩, hB⟩
theorem readNodes_none (p : Nat → Addr) (w : World) (bv : Value) (bs : List UInt8) (hq : readP bs = Option.none) (hlen : bs.length ≤ 50000) (hbs : Bs w.heap.size w bv bs) (hE : Errs 6 p w) (hw : 6 ≤ w.heap.size) :
    Calls Tryd.prog 19 #[bv] w (NoneN w) := by
  refine (readNodes_any p w bv bs hlen hbs hE hw).mono ?_
  rintro e w' ⟨⟨_, h⟩ | ⟨l', n', a, c, he, _⟩, hB⟩
  · exact ⟨h, hB⟩
  · rw [hq] at he; cases he

set_option maxRecDepth 100000 in
set_option maxHeartbeats 8000000 in
theorem dumpNodes_walk (p : Nat → Addr) (w : World) (l : List Nd) (a : Option Addr) (c : Nat) (u u2 : Value) (post bs : List UInt8) (cut : Int) (hw : 6 ≤ w.heap.size) (hE : Errs 6 p w) (hl : l.length ≤ 9223372036854775807)
    (hR : RepNSl (Lo w.heap.size) w a l) (hbs : Bs w.heap.size w u post) (hnil : ∀ n c, u = .slice none n c → u = .slice none 0 0) (hpl : post.length ≤ 9223372036854775807) (hbs2 : Bs w.heap.size w u2 bs) (hpl2 : bs.length ≤ 9223372036854775807)
    (hc1 : -9223372036854775808 ≤ cut) (hc2 : cut ≤ 9223372036854775807) :
    Calls Tryd.prog 5 #[.slice a l.length c, u, u2, .int .i64 cut] w (BoolOut w true) := by
  have hraw := hR.raw
  obtain ⟨a', c', rfl⟩ : ∃ a' c', u = .slice a' post.length c' := by obtain ⟨a', c', h, _⟩ := hbs; exact ⟨a', c', h⟩
  obtain ⟨a'', c'', rfl⟩ : ∃ a'' c'', u2 = .slice a'' bs.length c'' := by obtain ⟨a'', c'', h, _⟩ := hbs2; exact ⟨a'', c'', h⟩
  have HF := Lib.hid fun (w' : World) (h : Since w w') => first_any p w' (by have := h.1; omega) (fun g hg => (h.errs hw hE) g (by omega))
  have HP := Lib.hid fun (w' : World) (h : Since w w') => program_any l a c w' hl (h.repN (Nat.le_refl _) hR)
  have HLI := Lib.hid fun (w' : World) (h : Since w w') => lines_any (SizeOf.sizeOf l) l a c w' (Nat.le_refl _) hl (h.repN (Nat.le_refl _) hR)
  have HDN := Lib.hid fun (w' : World) (h : Since w w') (hn : (dumpN l).length ≤ 70000000) => dumpNodes_any p l a c w' hl (by have := h.1; omega) (h.errs hw hE) (h.repN (Nat.le_refl _) hR) hn
  have HRS := Lib.hid fun (w' : World) (h : Since w w') (v : Value) (b : List UInt8) (q : List Nd) (n : Nat) (hq : readP b = some (q, n)) (hb : b.length ≤ 50000) (hv : Bs w'.heap.size w' v b) => readNodes_some p w' v b q n hq hb hv (h.errs hw hE) (by have := h.1; omega)
  have HRN := Lib.hid fun (w' : World) (h : Since w w') (v : Value) (b : List UInt8) (hq : readP b = Option.none) (hb : b.length ≤ 50000) (hv : Bs w'.heap.size w' v b) => readNodes_none p w' v b hq hb hv (h.errs hw hE) (by have := h.1; omega)
  have HSN := Lib.hid fun (w' : World) (h : Since w w') (a2 : Option Addr) (c2 : Nat) (h2 : RepNSl (Lo w'.heap.size) w' a2 l) => sameNodes_same (SizeOf.sizeOf l) l a2 a c2 c w' (Nat.le_refl _) hl h2 (h.repN (Nat.le_refl _) hR)
  have HBS := Lib.hid fun (w' : World) (h : Since w w') => h.bs (Nat.le_refl _) hbs
  have HBS2 := Lib.hid fun (w' : World) (h : Since w w') => (h.bs (Nat.le_refl _) hbs2)
  have HFV : Hid (fineB l = validB l) := fine_valid l
  have HBF : Hid (0 ≤ fewNL l 300 0 → (bytesNs l).length ≤ 9604) := by show _ → _; exact bytesNs_few
  have HAT : Hid (validB l = true → readP (bytesNs l ++ post) = some (l, (bytesNs l).length)) := by show _ → _; exact fun h => readP_at h hraw
  have HCUT : Hid (validB l = true → ∀ k, k < (bytesNs l).length → readP ((bytesNs l).take k) = Option.none) := by show _ → _; exact fun h k hk => readP_cut h hraw hk
  have hdn : dumpN l = if validB l = true then bytesNs l else [] := rfl
  have HPOS : Hid (4 ≤ (bytesNs l).length) := by show _ ≤ _; unfold bytesNs; rw [List.length_append, leB_length]; omega
  have HDN2 := Lib.hid hdn
  clear hE hR hbs hbs2 hraw hdn
  generalize hpg : (decide (0 ≤ fewNL l 300 0) && fineB l) = pg at HP
  have HPG := Lib.hid hpg
  clear hpg
  go_enter Tryd.func5, Tryd.ntmps5
  go_wp2_with fail
  refine (HF.out _ (Since.refl _)).mono ?_
  rintro e w1 ⟨rfl, T1⟩
  go_wp2_with fail
  refine (HP.out _ (Since.of T1)).mono ?_
  rintro e w2 ⟨rfl, T⟩
  have T2 := T1.trans (T.mono T1.size)
  clear T T1
  cases pg with
  | false =>
    go_wp2_with fail
    go_ret
    exact ⟨rfl, T2⟩
  | true =>
  by_cases h50 : 50 < post.length
  · go_wp2_with fail
    go_ret
    exact ⟨rfl, T2⟩
  by_cases h300 : 300 < bs.length
  · go_wp2_with fail
    go_ret
    exact ⟨rfl, T2⟩
  have hpg := HPG.out
  rw [Bool.and_eq_true, decide_eq_true_eq] at hpg
  have hval : validB l = true := by rw [← HFV.out]; exact hpg.2
  have hlen := HBF.out hpg.1
  have hat := HAT.out hval
  have hcutp := HCUT.out hval
  have hpos := HPOS.out
  have hd := HDN2.out
  rw [if_pos hval] at hd
  rw [hd] at HDN
  generalize bytesNs l = L at hlen hat hcutp hpos HDN
  have HAT2 := Lib.hid hat
  have HCUT2 := Lib.hid hcutp
  have HDL := Lib.hid hlen
  have HT2 := Lib.hid T2
  clear hpg hval hat hcutp hd HBF HAT HCUT HPOS HDN2 HFV HPG hpl hpl2 T2
  go_wp2_with fail
  go_loopw [10] (fun i wr => ∃ k : Nat, k ≤ l.length ∧ i = .int .i64 k ∧ Below w2.heap.size w2 wr) (fun i _ => l.length - (intOf i).toNat)
  case atStart => exact ⟨0, Nat.zero_le _, rfl, Below.refl _ _⟩
  case round =>
    obtain ⟨k, hk, rfl, hBr⟩ := hrel
    have T3 := HT2.out.trans (hBr.mono HT2.out.size)
    have HT3 := Lib.hid T3
    have HBr := Lib.hid hBr
    clear T3 hBr
    by_cases hlt : k < l.length
    · have HL := Lib.hid (HLI.out wr (Since.of HT3.out))
      generalize linesL l = ln at HL
      cases ln with
      | false =>
        go_wp2_with fail
        refine HL.out.mono ?_
        rintro e w4 ⟨rfl, T⟩
        have HT4 := Lib.hid (HT3.out.trans (T.mono HT3.out.size))
        clear T
        go_wp2_with fail
        go_ret
        exact ⟨rfl, HT4.out⟩
      | true =>
        go_wp2_with fail
        refine HL.out.mono ?_
        rintro e w4 ⟨rfl, T⟩
        have HT4 := Lib.hid (HBr.out.trans (T.mono HBr.out.size))
        clear T
        go_wp2_with fail
        go_roundw
        case rel => exact ⟨k + 1, by omega, by go_num, HT4.out⟩
        case measure => simp [intOf]; omega
    · go_wp2_with fail
      refine (HDN.out _ (Since.of HT3.out) (by have := HDL.out; omega)).mono ?_
      rintro e w4 ⟨vb, rfl, hob, hkb⟩
      have T := hkb.below (Nat.le_refl _)
      have T4 := HT3.out.trans (T.mono HT3.out.size)
      have hbb4 := hob.bs
      obtain ⟨ab, cb, rfl⟩ := hob.shape
      have HB4 := Lib.hid hbb4
      have HT4 := Lib.hid T4
      clear hob hkb T T4 hbb4
      have hdl := HDL.out
      go_wp2_with fail
      refine (bytes_any _ _ L ?_ (by omega)).mono ?_
      · have := HB4.out.take L.length (Nat.le_refl _)
        rwa [List.take_length] at this
      rintro e w5 ⟨vc, rfl, hoc, hkc⟩
      have T := hkc.below (Nat.le_refl _)
      have T5 := HT4.out.trans (T.mono HT4.out.size)
      have hsz4 := HT4.out.size
      have hsz5 := T5.size
      have hbs5 := HBS.out w5 (Since.of T5)
      obtain ⟨ac, cc, rfl⟩ := hoc.shape
      have hlp : (L ++ post).length ≤ 50000 := by rw [List.length_append]; omega
      generalize hLP : L ++ post = LP at HAT2 hlp
      have HLP := Lib.hid hLP
      clear hLP
      go_wp2_with (at_builtin; go_loud (refine append_bs rfl (.tmp 55) (.tmp 56) rfl w4.heap.size _ L rfl hoc w5.heap.size (.slice a' post.length c') post rfl hbs5 hnil ?c1 ?c2 ?_))
      case c1 => omega
      case c2 => have := T.size; omega
      intro v6 w6 ho6 hg6
      rw [HLP.out] at ho6
      have U6 := (Kept.grown hoc hg6).below T.size
      have T6 := T5.trans (U6.mono HT4.out.size)
      have hbb6 := (HB4.out.below T).below U6
      have HR6 := Lib.hid (HRS.out w6 (Since.of T6) v6 LP l L.length HAT2.out hlp ho6.bs)
      have h46 := T.size
      have h56 := U6.size
      obtain ⟨a6, c6, rfl⟩ := ho6.shape
      have HT6 := Lib.hid (And.intro T6 hbb6)
      clear ho6 hg6 hoc hbs5 U6 T hkc T5 T6 hbb6
      go_wp2_with fail
      refine HR6.out.mono ?_
      rintro e w7 ⟨⟨a7, c7, rfl, hs7⟩, T⟩
      have T7 := HT6.out.1.trans (T.mono HT6.out.1.size)
      have hbb7 := HT6.out.2.below (T.mono (by omega))
      have h67 := T.size
      have HS7 := Lib.hid (HSN.out w7 (Since.of T7) a7 c7 (hs7.keep (fun _ _ => rfl) (fun k hk => hk.2)))
      have HT7 := Lib.hid (And.intro T7 hbb7)
      have hne : ((L.length : Int) == 0) = false := beq_eq_false_iff_ne.2 (by omega)
      have hne2 : ¬ (L.length : Int) = 0 := by omega
      clear T hs7 T7 hbb7 HR6
      go_wp2_with fail
      refine HS7.out.mono ?_
      rintro e w8 ⟨rfl, T⟩
      have T8 := HT7.out.1.trans (T.mono HT7.out.1.size)
      have hbb8 := HT7.out.2.below (T.mono (by omega))
      have h78 := T.size
      obtain ⟨kk, hkk⟩ := Int.eq_ofNat_of_zero_le (Int.emod_nonneg cut (show (L.length : Int) ≠ 0 by omega))
      have hkl : kk < L.length := by have := Int.emod_lt_of_pos cut (show 0 < (L.length : Int) by omega); omega
      have hcap : L.length ≤ cb := by
        obtain ⟨q1, q2, he, h1, _⟩ := HB4.out
        simp only [Value.slice.injEq, true_and] at he
        omega
      have HNU := Lib.hid fun (w' : World) => number_any cut L.length w' (by omega) (by omega) hc1 hc2
      rw [hkk] at HNU
      have hkc : kk ≤ cb := by omega
      have hlk : (L.take kk).length = kk := by rw [List.length_take]; omega
      have HR8 := Lib.hid (HRN.out w8 (Since.of T8) (.slice ab kk cb) (L.take kk) (HCUT2.out kk hkl) (by rw [hlk]; omega) (by
        have := (hbb8.first kk (by omega)).mono (show w4.heap.size ≤ w8.heap.size by omega)
        rwa [hlk] at this))
      have HT8 := Lib.hid T8
      clear T T8 hbb8 hkk hlk hcap
      go_wp2_with fail
      refine (HNU.out _).mono ?_
      rintro e w' ⟨rfl, rfl⟩
      go_wp2_with fail
      refine HR8.out.mono ?_
      rintro e w9 ⟨⟨t9, u9, rfl⟩, T⟩
      have T9 := HT8.out.trans (T.mono HT8.out.size)
      have HT9 := Lib.hid T9
      have hb9 := HBS2.out w9 (Since.of T9)
      cases hq : readP bs with
      | none =>
        have HR9 := Lib.hid (HRN.out w9 (Since.of T9) _ bs hq (by omega) hb9)
        clear T T9 hb9 hq
        go_wp2_with fail
        refine HR9.out.mono ?_
        rintro e w10 ⟨⟨t10, u10, rfl⟩, T⟩
        have HT10 := Lib.hid (HT9.out.trans (T.mono HT9.out.size))
        clear T
        go_wp2_with fail
        go_ret
        exact ⟨rfl, HT10.out⟩
      | some q =>
        obtain ⟨lq, nq⟩ := q
        have hv := readP_valid hq
        have hn := readP_len (by omega) hq
        have HR9 := Lib.hid (HRS.out w9 (Since.of T9) _ bs lq nq hq (by omega) hb9)
        have hsm := valid_small hv
        have hfine : fineB lq = true := by rw [fine_valid]; exact hv
        have HN9 := Lib.hid hn
        have hnle : (nq : Int) ≤ (bs.length : Int) := by omega
        clear T T9 hb9 hq hv hn
        go_wp2_with fail
        refine HR9.out.mono ?_
        rintro e w10 ⟨⟨a10, c10, rfl, hs10⟩, T⟩
        have HT10 := Lib.hid (HT9.out.trans (T.mono HT9.out.size))
        have HV10 := Lib.hid (validRef_any lq a10 c10 w10 (by have := HN9.out.2; omega) hsm (hs10.keep (fun _ _ => rfl) (fun k hk => hk.2)))
        rw [hfine] at HV10
        clear T hs10 hsm hfine
        go_wp2_with fail
        refine HV10.out.mono ?_
        rintro e w11 ⟨⟨fz, fpl, fpos, rfl, hok⟩, T⟩
        have HT11 := Lib.hid (HT10.out.trans (T.mono HT10.out.size))
        obtain rfl : fz = 0 := by
          rcases hok with ⟨_, h⟩ | ⟨h, _⟩
          · exact h
          · cases h
        have hfd := field48 0 fpl fpos w11
        clear T hok
        go_wp2_with fail
        go_ret
        exact ⟨rfl, HT11.out⟩
end Go.Proofs.YtmkghfkikclodaaDoor
