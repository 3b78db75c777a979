/- The reader reads a value, so deep. -/
import Derived.Test.YtmkghfkikclodaaDoorReadA
import Derived.Deep.RegionLaw
import Derived.Deep.CutRange
namespace Go.Proofs.YtmkghfkikclodaaDoor
open Go.RowKit

set_option maxRecDepth 100000 in
set_option maxHeartbeats 1000000 in
theorem readV_any (p : Nat → Addr) (B0 b : Nat) (bs : List UInt8) (bv : Value) (hB0 : B0 ≤ b) (hb5 : 5 ≤ b) (hlen : bs.length ≤ 140737488355328) (room : Nat) :
    ∀ (w : World) (r : Rd) (deep : Nat), deep + room = 41 → RdAt p w b bv r.1 r.2 → Bs B0 w bv bs → Errs 5 p w → r.1 ≤ bs.length →
    Calls Tryd.prog 44 #[.pointer (some ⟨b, 0, none⟩), .int .i64 deep] w (VPost p b bv w (readV bs room r).1 (readV bs room r).2.1 (readV bs room r).2.2) := by
  induction room with
  | zero =>
    intro w r deep hd h hbs hE hpos
    have hdeep : (40 : Int) < (deep : Int) := by omega
    have HF := Lib.hid fun (w' : World) (hw : RdAt p w' b bv r.1 r.2) => fail_any p w' b bv r.1 r.2 0 hw
    have H := Lib.hid h
    have e0 := hE 0 (by decide)
    have hb := h.lt
    simp only [errV] at e0 HF
    clear h hbs hE
    have hal := (Below.refl w.heap.size w).alloc (Nat.le_refl _) (.cells #[.int .i64 0, .int .i64 0, .string ⟨#[]⟩, .slice none 0 0] 24)
    have e0 := (hal.cell (p := ⟨0, 0, none⟩) (by show 0 < w.heap.size; omega)).trans e0
    go_enter Tryd.func44, Tryd.ntmps44
    go_wp2_with fail
    refine (HF.out _ (H.out.below hal hb)).mono ?_
    rintro e w1 ⟨rfl, hr, hB⟩
    have hv := (VB.new w (.int .i64 0) (.int .i64 0) (.string ⟨#[]⟩) (.slice none 0 0)).bel hB (by simp) (by omega)
    obtain ⟨c0, c1, c2, c3, f0, f1, f2, f3⟩ := hv.all
    have HR := Lib.hid hr
    have HV := Lib.hid hv
    clear hr hv
    go_wp2
    refine bodyPost_ret (ret44 rfl (HV.out.set _ _ _ _)) rfl ?_
    exact ⟨_, rfl, ⟨none, 0, rfl, fits_zero, .inl rfl⟩, HR.out.set (by omega) _ _ _ _, (((Bel.of hal).trans (hB.mono (by simp))).set4 (Nat.le_refl _) _ _ _ _)⟩
  | succ room ih =>
    intro w r deep hd h hbs hE hpos
    have hdeep : (deep : Int) ≤ 40 := by omega
    have hb := h.lt
    have IH := Lib.hid ih
    clear ih
    have hal := (Below.refl w.heap.size w).alloc (Nat.le_refl _) (.cells #[.int .i64 0, .int .i64 0, .string ⟨#[]⟩, .slice none 0 0] 24)
    have hv4 := VB.new w (.int .i64 0) (.int .i64 0) (.string ⟨#[]⟩) (.slice none 0 0)
    have hsz0 : (w.alloc (.cells #[.int .i64 0, .int .i64 0, .string ⟨#[]⟩, .slice none 0 0] 24)).heap.size = w.heap.size + 1 := by simp
    have HN := Lib.hid (num_any p B0 _ b bv bs r 1 (by decide) (by decide) (h.below hal hb) (hbs.bel (Bel.of hal) hB0 (by omega)) hB0 (hE.below hal (by omega)) hb5 hpos hlen)
    have HA := Lib.hid (And.intro hal (And.intro hv4 (And.intro hbs hE)))
    have hnum : (numM bs 1 r).1 < 256 := by
      unfold numM
      split
      · show (0 : Nat) < _; decide
      · exact leN_lt bs r.1 1
    have hnp := numM_pos bs 1 r hpos
    generalize hQ : readV bs (room + 1) r = Q
    have HQ := Lib.hid hQ
    simp only [readV] at HQ
    clear h hbs hE hQ hal hv4
    generalize numM bs 1 r = q at HN hnum hnp HQ
    obtain ⟨k, r1⟩ := q
    simp only at HN hnum hnp HQ
    obtain ⟨kz, hkz⟩ : ∃ z : Int, z = k := ⟨_, rfl⟩
    rw [← hkz] at HN
    have hsz0 := Lib.hid hsz0
    have hc : (kz = 0 ∨ kz = 1 ∨ kz = 3) ∨ kz = 2 ∨ kz = 4 ∨ kz = -1 ∨ 4 < kz := by omega
    have HK := Lib.hid hkz
    rcases hc with hc | hc | hc | hc | hc
    · have e1 : Hid (Q = (.mk k (intM bs r1).1 .empty [], (intM bs r1).2)) := by
        show _ = _
        rw [← HQ.out, if_pos (by omega)]
      clear HQ
      have HI := Lib.hid fun (w' : World) (hr : RdAt p w' b bv r1.1 r1.2) (hbs : Bs B0 w' bv bs) (hE : Errs 5 p w') => int_any p B0 w' b bv bs r1 hr hbs hB0 hE hb5 hnp hlen
      have hin : -9223372036854775808 ≤ (intM bs r1).1 ∧ (intM bs r1).1 ≤ 9223372036854775807 := intM_in bs r1
      generalize intM bs r1 = q2 at HI e1 hin
      obtain ⟨z, r2⟩ := q2
      simp only at HI e1 hin
      have hx : Hid (Val.mk k z ByteArray.empty [] = Val.mk k z ByteArray.empty []) := Lib.hid rfl
      clear hkz
      rcases hc with rfl | rfl | rfl
      all_goals
        go_enter Tryd.func44, Tryd.ntmps44
        go_wp2_with fail
        refine HN.out.mono ?_
        rintro e w1 ⟨rfl, hr, hB⟩
        obtain ⟨hal, hv4, hbs, hE⟩ := HA.out
        have hsz := hB.size
        rw [hsz0.out] at hsz
        have hB1 : Bel b w.heap.size w w1 := (Bel.of hal).trans (hB.mono (by rw [hsz0.out]; omega))
        have h4 := hv4.bel hB (by simp) (by omega)
        have hbl := hr.lt
        have FA := Lib.hid (And.intro hr (And.intro h4 (And.intro (hbs.bel hB1 hB0 (by omega)) (And.intro (hE.bel hB1 (by omega) (by omega)) hB1))))
        clear hr hal hv4 hbs hE h4
        go_wp2_with fail
        obtain ⟨hr, h4, hbs, hE, -⟩ := FA.out
        refine (HI.out _ (hr.below (bal w1 _) hbl) (hbs.bel (Bel.of (bal w1 _)) hB0 (by omega)) (hE.below (bal w1 _) (by omega))).mono ?_
        rintro e w2 ⟨rfl, hr2, hB2⟩
        have h5 := (VB.new w1 _ _ _ _).bel hB2 (by simp) (by omega)
        have h4 := (h4.below (bal w1 _) (by omega)).bel hB2 (by simp; omega) (by omega)
        have hsz2 := hB2.size
        simp only [World.size_alloc] at hsz2
        obtain ⟨c0, c1, c2, c3, f0, f1, f2, f3⟩ := h4.all
        obtain ⟨d0, d1, d2, d3, g0, g1, g2, g3⟩ := h5.all
        have HV := Lib.hid h4
        have HV5 := Lib.hid h5
        have HR := Lib.hid hr2
        clear hr h4 hbs hE h5 hr2
        go_wp2
        refine bodyPost_ret (ret44 rfl ((HV.out.other (by omega) _).set _ _ _ _)) rfl ?_
        rw [e1.out]
        refine ⟨_, rfl, ⟨none, 0, by rw [← HK.out]; rfl, ?_, .inl rfl⟩, (HR.out.other (by omega) _).set (by omega) _ _ _ _, (((hB1.trans ((Bel.of (bal w1 _)).mono (by omega))).trans (hB2.mono (by simp; omega))).above (by omega) _).set4 (Nat.le_refl _) _ _ _ _⟩
        have := HK.out
        exact fitsN k hnum z hin.1 hin.2 ByteArray.empty (by decide) 0 (by decide)
    · have e1 : Hid (Q = (.mk 2 0 (textM bs 4096 r1).1 [], (textM bs 4096 r1).2)) := by
        show _ = _
        rw [← HQ.out, if_neg (by omega), if_pos (by omega)]
      clear HQ
      have HI := Lib.hid fun (w' : World) (hr : RdAt p w' b bv r1.1 r1.2) (hbs : Bs B0 w' bv bs) (hE : Errs 5 p w') => text_any p B0 w' b bv bs r1 4096 (by decide) hr hbs hB0 hE hb5 hnp hlen
      have hin := (textM_pos bs 4096 r1 hnp).2
      generalize textM bs 4096 r1 = q2 at HI e1 hin
      obtain ⟨z, r2⟩ := q2
      simp only at HI e1 hin
      clear hkz
      subst hc
      go_enter Tryd.func44, Tryd.ntmps44
      go_wp2_with fail
      refine HN.out.mono ?_
      rintro e w1 ⟨rfl, hr, hB⟩
      obtain ⟨hal, hv4, hbs, hE⟩ := HA.out
      have hsz := hB.size
      rw [hsz0.out] at hsz
      have hB1 : Bel b w.heap.size w w1 := (Bel.of hal).trans (hB.mono (by rw [hsz0.out]; omega))
      have h4 := hv4.bel hB (by simp) (by omega)
      have hbl := hr.lt
      have FA := Lib.hid (And.intro hr (And.intro h4 (And.intro (hbs.bel hB1 hB0 (by omega)) (And.intro (hE.bel hB1 (by omega) (by omega)) hB1))))
      clear hr hal hv4 hbs hE h4
      go_wp2_with fail
      obtain ⟨hr, h4, hbs, hE, -⟩ := FA.out
      refine (HI.out _ (hr.below (bal w1 _) hbl) (hbs.bel (Bel.of (bal w1 _)) hB0 (by omega)) (hE.below (bal w1 _) (by omega))).mono ?_
      rintro e w2 ⟨rfl, hr2, hB2⟩
      have h5 := (VB.new w1 _ _ _ _).bel hB2 (by simp) (by omega)
      have h4 := (h4.below (bal w1 _) (by omega)).bel hB2 (by simp; omega) (by omega)
      have hsz2 := hB2.size
      simp only [World.size_alloc] at hsz2
      obtain ⟨c0, c1, c2, c3, f0, f1, f2, f3⟩ := h4.all
      obtain ⟨d0, d1, d2, d3, g0, g1, g2, g3⟩ := h5.all
      have HV := Lib.hid h4
      have HV5 := Lib.hid h5
      have HR := Lib.hid hr2
      clear hr h4 hbs hE h5 hr2
      go_wp2
      refine bodyPost_ret (ret44 rfl ((HV.out.other (by omega) _).set _ _ _ _)) rfl ?_
      rw [e1.out]
      refine ⟨_, rfl, ⟨none, 0, rfl, ?_, .inl rfl⟩, (HR.out.other (by omega) _).set (by omega) _ _ _ _, (((hB1.trans ((Bel.of (bal w1 _)).mono (by omega))).trans (hB2.mono (by simp; omega))).above (by omega) _).set4 (Nat.le_refl _) _ _ _ _⟩
      exact fitsN 2 (by decide) 0 (by decide) (by decide) z (by omega) 0 (by decide)
    · have e1 : Hid (Q = (.mk 4 0 .empty (readL (readV bs room) (manyM bs 4096 r1).1 (manyM bs 4096 r1).2).1, (readL (readV bs room) (manyM bs 4096 r1).1 (manyM bs 4096 r1).2).2)) := by
        show _ = _
        rw [← HQ.out, if_neg (by omega), if_neg (by omega), if_pos (by omega)]
      clear HQ
      have HI := Lib.hid fun (w' : World) (hr : RdAt p w' b bv r1.1 r1.2) (hbs : Bs B0 w' bv bs) (hE : Errs 5 p w') => many_any p B0 w' b bv bs r1 4096 (by decide) hr hbs hB0 hE hb5 hnp hlen
      obtain ⟨hin1, hin2⟩ := manyM_pos bs 4096 r1 hnp
      generalize manyM bs 4096 r1 = q2 at HI e1 hin1 hin2
      obtain ⟨n0, r2⟩ := q2
      simp only at HI e1 hin1 hin2
      have hf := readV_pos bs room
      have IH2 := Lib.hid fun (w' : World) (r' : Rd) (hr : RdAt p w' b bv r'.1 r'.2) (hbs : Bs B0 w' bv bs) (hE : Errs 5 p w') (hp : r'.1 ≤ bs.length) => IH.out w' r' (deep + 1) (by omega) hr hbs hE hp
      generalize readV bs room = f at e1 hf IH2
      have HF := Lib.hid hf
      have hds : ((deep + 1 : Nat) : Int) = IntKind.i64.wrap ((deep : Int) + 1) := by rw [IntWalk.i64_in _ ⟨by omega, by omega⟩]; omega
      rw [hds] at IH2
      have HDS := Lib.hid hds
      clear hkz hf hds
      subst hc
      go_enter Tryd.func44, Tryd.ntmps44
      go_wp2_with fail
      refine HN.out.mono ?_
      rintro e w1 ⟨rfl, hr, hB⟩
      obtain ⟨hal, hv4, hbs, hE⟩ := HA.out
      have hsz := hB.size
      rw [hsz0.out] at hsz
      have hB1 : Bel b w.heap.size w w1 := (Bel.of hal).trans (hB.mono (by rw [hsz0.out]; omega))
      have h4 := hv4.bel hB (by simp) (by omega)
      have hbl := hr.lt
      have FA := Lib.hid (And.intro hr (And.intro h4 (And.intro (hbs.bel hB1 hB0 (by omega)) (And.intro (hE.bel hB1 (by omega) (by omega)) hB1))))
      clear hr hal hv4 hbs hE h4
      go_wp2_with fail
      obtain ⟨hr, h4, hbs, hE, -⟩ := FA.out
      refine (HI.out _ (hr.below (bal w1 _) hbl) (hbs.bel (Bel.of (bal w1 _)) hB0 (by omega)) (hE.below (bal w1 _) (by omega))).mono ?_
      rintro e w2 ⟨rfl, hr2, hB2⟩
      have h5 := (VB.new w1 _ _ _ _).bel hB2 (by simp) (by omega)
      have h4 := (h4.below (bal w1 _) (by omega)).bel hB2 (by simp; omega) (by omega)
      have hsz2 := hB2.size
      simp only [World.size_alloc] at hsz2
      have hl0 : LSt p b bv w w.heap.size w1.heap.size [] r2 w2 := ⟨hr2, h4, (hB1.trans ((Bel.of (bal w1 _)).mono (by omega))).trans (hB2.mono (by simp; omega)), _, [], h5, World.ownsRow_nil _ _ _ _, rfl⟩
      have FB := Lib.hid (And.intro hl0 (And.intro hbs hE))
      clear hr h4 hbs hE h5 hr2 hl0 HI
      go_wp2
      go_loopw [6] (fun n6 wr => ∃ (xs : List Val) (m : Nat) (r3 : Rd), n6 = .int .i64 m ∧ m ≤ 4096 ∧ xs.length + m ≤ 4096 ∧ r3.1 ≤ bs.length ∧ LSt p b bv w w.heap.size w1.heap.size xs r3 wr ∧ Hid (xs ++ (readL f m r3).1 = (readL f n0 r2).1 ∧ (readL f m r3).2 = (readL f n0 r2).2))
        (fun n6 _ => (intOf n6).toNat)
      case atStart => exact ⟨[], n0, r2, rfl, hin2, by simpa using hin2, hin1, FB.out.1, ⟨rfl, rfl⟩⟩
      case round =>
        obtain ⟨xs, m, r3, rfl, hm, hxm, hp3, hst, hE3⟩ := hrel
        have HST := Lib.hid hst
        obtain ⟨hr3, h43, hB3, sv, cells, h53, hrow, hit⟩ := hst
        have c2 := hr3.c2
        obtain ⟨sa, sc, rfl⟩ := hrow.shape
        have hrow' := Lib.hid hrow
        have hit' := Lib.hid hit
        have HR3 := Lib.hid hr3
        have HV4 := Lib.hid h43
        have HV5 := Lib.hid h53
        obtain ⟨c0, c1, c2', c3, f0, f1, f2, f3⟩ := h43.all
        obtain ⟨d0, d1, d2, d3, g0, g1, g2, g3⟩ := h53.all
        clear hr3 h43 h53 hrow hit
        by_cases hm0 : m = 0
        · subst hm0
          go_wp2
          refine bodyPost_ret (ret44 rfl (HV4.out.set _ _ _ _)) rfl ?_
          have EE := hE3.out
          simp only [readL] at EE
          rw [e1.out, ← EE.1, ← EE.2, List.append_nil]
          have hl := lst_done (g4 := w.heap.size) (W := w.heap.size) (by omega) (Nat.le_refl _) hrow'.out hit'.out (.int .i64 4) (.int .i64 0) (.string ⟨#[]⟩) (.slice sa xs.length sc)
          exact ⟨_, rfl, ⟨sa, sc, rfl, fitsN 4 (by decide) 0 (by decide) (by decide) ByteArray.empty (by decide) _ (by show xs.length ≤ _; omega), hl⟩, HR3.out.set (by omega) _ _ _ _, hB3.set4 (Nat.le_refl _) _ _ _ _⟩
        · cases hr3e : r3.2 with
          | some g' =>
            rw [hr3e] at c2
            simp only [errO, errV] at c2
            have EE := hE3.out
            rw [show m = (m - 1) + 1 by omega] at EE
            simp only [readL, hr3e, Option.isSome_some, if_true] at EE
            have HEE := Lib.hid EE
            clear hr3e EE
            go_wp2
            refine bodyPost_ret (ret44 rfl (HV4.out.set _ _ _ _)) rfl ?_
            have EE := HEE.out
            rw [e1.out, ← EE.1, ← EE.2, List.append_nil]
            have hl := lst_done (g4 := w.heap.size) (W := w.heap.size) (by omega) (Nat.le_refl _) hrow'.out hit'.out (.int .i64 4) (.int .i64 0) (.string ⟨#[]⟩) (.slice sa xs.length sc)
            exact ⟨_, rfl, ⟨sa, sc, rfl, fitsN 4 (by decide) 0 (by decide) (by decide) ByteArray.empty (by decide) _ (by show xs.length ≤ _; omega), hl⟩, HR3.out.set (by omega) _ _ _ _, hB3.set4 (Nat.le_refl _) _ _ _ _⟩
          | none =>
            rw [hr3e] at c2
            simp only [errO] at c2
            have EE := hE3.out
            rw [show m = (m - 1) + 1 by omega] at EE
            simp only [readL, hr3e, Option.isSome_none, if_false, Bool.false_eq_true] at EE
            have HEE := Lib.hid EE
            clear hr3e EE
            go_wp2
            have HBS := Lib.hid (HA.out.2.2.1.bel hB3 hB0 (by omega))
            have HES := Lib.hid (HA.out.2.2.2.bel hB3 (by omega) (by omega))
            have hsz3 := hB3.size
            have h5lt := HV5.out.lt
            go_region_law (first
              | (refine step_item 50 55 rfl rfl (w1.heap.size + 1) (.slice sa xs.length sc) xs.length cells (by simp [Act.eval, Act.put]) (World.ownsRow.alloc (by assumption) _) _ (by simp [Act.eval, Act.put]) _ _ _ _ _ _ _ (heap_alloc_new _ _) (by omega) (by simp; omega) _ rfl ?_
                 intro g cap w4 hown4 hg4 hat4 hlt4
                 have hvs := vb_step HV5.out hrow'.out (by omega) (by assumption) hg4
                 have d3' := hvs.c3
                 have g3' := hvs.fr 3)
              | (go_simp; go_at_call 44; refine (IH2.out _ r3 (by exact HR3.out) (by exact HBS.out) (by exact HES.out) hp3).mono ?_; rintro e w2 ⟨v2, rfl, ⟨a2, cc2, rfl, hf2, hs2⟩, hr2, hB2⟩; have hrow2 : w2.ownsRow (w1.heap.size + 1) 24 4 (.slice sa xs.length sc) xs.length cells := ownsRow_bel (by exact hrow'.out) hB2 (Nat.le_refl _) (by omega); have hB2 : Bel b wr.heap.size wr w2 := ⟨hB2.os, hB2.tape, hB2.output, hB2.size, hB2.block⟩; have hsz5 := hB2.size; have d3w := (HV5.out.bel hB2 h5lt (by omega)).c3; have d3x := fun (o : Obj) => ((HV5.out.bel hB2 h5lt (by omega)).below (bal w2 o) (by omega)).c3; have d3x := d3x (.cells #[.int .i64 (f r3).1.kind, .int .i64 (f r3).1.n, .string (f r3).1.s, .slice a2 (f r3).1.l.length cc2] 24)))
            all_goals go_wp2
            all_goals refine ⟨⟨xs ++ [(f r3).1], m - 1, (f r3).2, by go_num, by omega, by simp; omega, HF.out r3 hp3, ?_, ?_⟩, by simp [intOf]; omega⟩
            all_goals first | (have EE := HEE.out; exact ⟨by rw [List.append_assoc]; exact EE.1, EE.2⟩) | skip
            all_goals
              have hL := lst_step (o := .cells #[.int .i64 (f r3).1.kind, .int .i64 (f r3).1.n, .string (f r3).1.s, .slice a2 (f r3).1.l.length cc2] 24) (by omega) (by omega) (Nat.le_refl _) HV4.out hB3 HV5.out hrow'.out hit'.out hf2 hs2 hr2 hB2 hown4 ⟨hg4.os, hg4.tape, hg4.output, hg4.size, hg4.block⟩ (hat4.imp id (fun h => h.trans (by simp))) hlt4
              first | exact hL | exact hL.drew
    · omega
    · have e1 : Hid (Q = (.mk k 0 .empty [], r1.fail 2)) := by
        show _ = _
        rw [← HQ.out, if_neg (by omega), if_neg (by omega), if_neg (by omega)]
      clear HQ
      have HI := Lib.hid fun (w' : World) (hr : RdAt p w' b bv r1.1 r1.2) => fail_any p w' b bv r1.1 r1.2 2 hr
      have t0 : (kz == 0) = false := by simp; omega
      have t1 : (kz == 1) = false := by simp; omega
      have t2 : (kz == 2) = false := by simp; omega
      have t3 : (kz == 3) = false := by simp; omega
      have t4 : (kz == 4) = false := by simp; omega
      have hkr : -9223372036854775808 ≤ kz ∧ kz ≤ 9223372036854775807 := by omega
      obtain ⟨hkr1, hkr2⟩ := hkr
      clear hkz
      go_enter Tryd.func44, Tryd.ntmps44
      go_wp2_with fail
      refine HN.out.mono ?_
      rintro e w1 ⟨rfl, hr, hB⟩
      obtain ⟨hal, hv4, hbs, hE⟩ := HA.out
      have hsz := hB.size
      rw [hsz0.out] at hsz
      have hB1 : Bel b w.heap.size w w1 := (Bel.of hal).trans (hB.mono (by rw [hsz0.out]; omega))
      have h4 := hv4.bel hB (by simp) (by omega)
      have hbl := hr.lt
      have FA := Lib.hid (And.intro hr (And.intro h4 (And.intro (hbs.bel hB1 hB0 (by omega)) (And.intro (hE.bel hB1 (by omega) (by omega)) hB1))))
      clear hr hal hv4 hbs hE h4
      have e2 := fun (K : Value) => (((FA.out.2.2.2.1).below (bal w1 (.cells #[K, .int .i64 0, .string ⟨#[]⟩, .slice none 0 0] 24)) (by omega)) 2 (by decide))
      have e2 := e2 (.int .i64 kz)
      unfold errV at e2 HI
      go_wp2_with fail
      obtain ⟨hr, h4, hbs, hE, -⟩ := FA.out
      refine (HI.out _ (hr.below (bal w1 _) hbl)).mono ?_
      rintro e w2 ⟨rfl, hr2, hB2⟩
      have h5 := (VB.new w1 _ _ _ _).bel hB2 (by simp) (by omega)
      have h4 := (h4.below (bal w1 _) (by omega)).bel hB2 (by simp; omega) (by omega)
      have hsz2 := hB2.size
      simp only [World.size_alloc] at hsz2
      obtain ⟨c0, c1, c2, c3, f0, f1, f2, f3⟩ := h4.all
      obtain ⟨d0, d1, d2, d3, g0, g1, g2, g3⟩ := h5.all
      have HV := Lib.hid h4
      have HV5 := Lib.hid h5
      have HR := Lib.hid hr2
      clear hr h4 hbs hE h5 hr2
      go_wp2
      refine bodyPost_ret (ret44 rfl (HV.out.set _ _ _ _)) rfl ?_
      rw [e1.out]
      exact ⟨_, rfl, ⟨none, 0, by rw [HK.out]; rfl, fitsN k hnum 0 (by decide) (by decide) ByteArray.empty (by decide) 0 (by decide), .inl rfl⟩, HR.out.set (by omega) _ _ _ _, ((hB1.trans ((Bel.of (bal w1 _)).mono (by omega))).trans (hB2.mono (by simp; omega))).set4 (Nat.le_refl _) _ _ _ _⟩
end Go.Proofs.YtmkghfkikclodaaDoor
