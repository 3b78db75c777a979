/- The reader reads a value, so deep. val.Valid; what a reader reads that is right; ReadValue. dump.ReadValue: the value at the beginning of bytes. dump.Value; the document's word on a value; the chapter's example. What was read without an error: the bytes that were read are the value's own. -/
import Derived.Test.YtmkghfkikclodaaDoorM03
import Derived.Deep.RegionLaw
import Derived.Deep.CutRange
import Derived.Test.YtmkghfkikclodaaDoorWalkV
import Derived.Test.YtmkghfkikclodaaDoorM05
set_option linter.unusedVariables false
set_option linter.unusedSimpArgs false
namespace Go.Proofs.YtmkghfkikclodaaDoor
open Go.RowKit

set_option maxRecDepth 100000 in
set_option maxHeartbeats 1000000 in
theorem readV_any (p : Nat → Addr) (B0 b : Nat) (bs : List UInt8) (bv : Value) (hB0 : B0 ≤ b) (hb5 : 5 ≤ b) (hlen : bs.length ≤ 140737488355328) (room : Nat) :
    ∀ (w : World) (r : Rd) (deep : Nat), deep + room = 41 → RdAt p w b bv r.1 r.2 → Bs B0 w bv bs → Errs 5 p w → r.1 ≤ bs.length →
    Calls Tryd.prog 44 #[.pointer (some ⟨b, 0, none⟩), .int .i64 deep] w (VPost p b bv w (readV bs room r).1 (readV bs room r).2.1 (readV bs room r).2.2) := by
  induction room with
  | zero =>
    intro w r deep hd h hbs hE hpos
    have hdeep : (40 : Int) < (deep : Int) := by omega
    have HF := Lib.hid fun (w' : World) (hw : RdAt p w' b bv r.1 r.2) => fail_any p w' b bv r.1 r.2 0 hw
    have H := Lib.hid h
    have e0 := hE 0 (by decide)
    have hb := h.lt
    simp only [errV] at e0 HF
    clear h hbs hE
    have hal := (Below.refl w.heap.size w).alloc (Nat.le_refl _) (.cells #[.int .i64 0, .int .i64 0, .string ⟨#[]⟩, .slice none 0 0] 24)
    have e0 := (hal.cell (p := ⟨0, 0, none⟩) (by show 0 < w.heap.size; omega)).trans e0
    go_enter Tryd.func44, Tryd.ntmps44
    go_wp2_with fail
    refine (HF.out _ (H.out.below hal hb)).mono ?_
    rintro e w1 ⟨rfl, hr, hB⟩
    have hv := (VB.new w (.int .i64 0) (.int .i64 0) (.string ⟨#[]⟩) (.slice none 0 0)).bel hB (by simp) (by omega)
    obtain ⟨c0, c1, c2, c3, f0, f1, f2, f3⟩ := hv.all
    have HR := Lib.hid hr
    have HV := Lib.hid hv
    clear hr hv
    go_wp2
    refine bodyPost_ret (ret44 rfl (HV.out.set _ _ _ _)) rfl ?_
    exact ⟨_, rfl, ⟨none, 0, rfl, fits_zero, .inl rfl⟩, HR.out.set (by omega) _ _ _ _, (((Bel.of hal).trans (hB.mono (by simp))).set4 (Nat.le_refl _) _ _ _ _)⟩
  | succ room ih =>
    intro w r deep hd h hbs hE hpos
    have hdeep : (deep : Int) ≤ 40 := by omega
    have hb := h.lt
    have IH := Lib.hid ih
    clear ih
    have hal := (Below.refl w.heap.size w).alloc (Nat.le_refl _) (.cells #[.int .i64 0, .int .i64 0, .string ⟨#[]⟩, .slice none 0 0] 24)
    have hv4 := VB.new w (.int .i64 0) (.int .i64 0) (.string ⟨#[]⟩) (.slice none 0 0)
    have hsz0 : (w.alloc (.cells #[.int .i64 0, .int .i64 0, .string ⟨#[]⟩, .slice none 0 0] 24)).heap.size = w.heap.size + 1 := by simp
    have HN := Lib.hid (num_any p B0 _ b bv bs r 1 (by decide) (by decide) (h.below hal hb) (hbs.bel (Bel.of hal) hB0 (by omega)) hB0 (hE.below hal (by omega)) hb5 hpos hlen)
    have HA := Lib.hid (And.intro hal (And.intro hv4 (And.intro hbs hE)))
    have hnum : (numM bs 1 r).1 < 256 := by
      unfold numM
      split
      · show (0 : Nat) < _; decide
      · exact leN_lt bs r.1 1
    have hnp := numM_pos bs 1 r hpos
    generalize hQ : readV bs (room + 1) r = Q
    have HQ := Lib.hid hQ
    simp only [readV] at HQ
    clear h hbs hE hQ hal hv4
    generalize numM bs 1 r = q at HN hnum hnp HQ
    obtain ⟨k, r1⟩ := q
    simp only at HN hnum hnp HQ
    obtain ⟨kz, hkz⟩ : ∃ z : Int, z = k := ⟨_, rfl⟩
    rw [← hkz] at HN
    have hsz0 := Lib.hid hsz0
    have hc : (kz = 0 ∨ kz = 1 ∨ kz = 3) ∨ kz = 2 ∨ kz = 4 ∨ kz = -1 ∨ 4 < kz := by omega
    have HK := Lib.hid hkz
    rcases hc with hc | hc | hc | hc | hc
    · have e1 : Hid (Q = (.mk k (intM bs r1).1 .empty [], (intM bs r1).2)) := by
        show _ = _
        rw [← HQ.out, if_pos (by omega)]
      clear HQ
      have HI := Lib.hid fun (w' : World) (hr : RdAt p w' b bv r1.1 r1.2) (hbs : Bs B0 w' bv bs) (hE : Errs 5 p w') => int_any p B0 w' b bv bs r1 hr hbs hB0 hE hb5 hnp hlen
      have hin : -9223372036854775808 ≤ (intM bs r1).1 ∧ (intM bs r1).1 ≤ 9223372036854775807 := intM_in bs r1
      generalize intM bs r1 = q2 at HI e1 hin
      obtain ⟨z, r2⟩ := q2
      simp only at HI e1 hin
      have hx : Hid (Val.mk k z ByteArray.empty [] = Val.mk k z ByteArray.empty []) := Lib.hid rfl
      clear hkz
      rcases hc with rfl | rfl | rfl
      all_goals
        go_enter Tryd.func44, Tryd.ntmps44
        go_wp2_with fail
        refine HN.out.mono ?_
        rintro e w1 ⟨rfl, hr, hB⟩
        obtain ⟨hal, hv4, hbs, hE⟩ := HA.out
        have hsz := hB.size
        rw [hsz0.out] at hsz
        have hB1 : Bel b w.heap.size w w1 := (Bel.of hal).trans (hB.mono (by rw [hsz0.out]; omega))
        have h4 := hv4.bel hB (by simp) (by omega)
        have hbl := hr.lt
        have FA := Lib.hid (And.intro hr (And.intro h4 (And.intro (hbs.bel hB1 hB0 (by omega)) (And.intro (hE.bel hB1 (by omega) (by omega)) hB1))))
        clear hr hal hv4 hbs hE h4
        go_wp2_with fail
        obtain ⟨hr, h4, hbs, hE, -⟩ := FA.out
        refine (HI.out _ (hr.below (bal w1 _) hbl) (hbs.bel (Bel.of (bal w1 _)) hB0 (by omega)) (hE.below (bal w1 _) (by omega))).mono ?_
        rintro e w2 ⟨rfl, hr2, hB2⟩
        have h5 := (VB.new w1 _ _ _ _).bel hB2 (by simp) (by omega)
        have h4 := (h4.below (bal w1 _) (by omega)).bel hB2 (by simp; omega) (by omega)
        have hsz2 := hB2.size
        simp only [World.size_alloc] at hsz2
        obtain ⟨c0, c1, c2, c3, f0, f1, f2, f3⟩ := h4.all
        obtain ⟨d0, d1, d2, d3, g0, g1, g2, g3⟩ := h5.all
        have HV := Lib.hid h4
        have HV5 := Lib.hid h5
        have HR := Lib.hid hr2
        clear hr h4 hbs hE h5 hr2
        go_wp2
        refine bodyPost_ret (ret44 rfl ((HV.out.other (by omega) _).set _ _ _ _)) rfl ?_
        rw [e1.out]
        refine ⟨_, rfl, ⟨none, 0, by rw [← HK.out]; rfl, ?_, .inl rfl⟩, (HR.out.other (by omega) _).set (by omega) _ _ _ _, (((hB1.trans ((Bel.of (bal w1 _)).mono (by omega))).trans (hB2.mono (by simp; omega))).above (by omega) _).set4 (Nat.le_refl _) _ _ _ _⟩
        have := HK.out
        exact fitsN k hnum z hin.1 hin.2 ByteArray.empty (by decide) 0 (by decide)
    · have e1 : Hid (Q = (.mk 2 0 (textM bs 4096 r1).1 [], (textM bs 4096 r1).2)) := by
        show _ = _
        rw [← HQ.out, if_neg (by omega), if_pos (by omega)]
      clear HQ
      have HI := Lib.hid fun (w' : World) (hr : RdAt p w' b bv r1.1 r1.2) (hbs : Bs B0 w' bv bs) (hE : Errs 5 p w') => text_any p B0 w' b bv bs r1 4096 (by decide) hr hbs hB0 hE hb5 hnp hlen
      have hin := (textM_pos bs 4096 r1 hnp).2
      generalize textM bs 4096 r1 = q2 at HI e1 hin
      obtain ⟨z, r2⟩ := q2
      simp only at HI e1 hin
      clear hkz
      subst hc
      go_enter Tryd.func44, Tryd.ntmps44
      go_wp2_with fail
      refine HN.out.mono ?_
      rintro e w1 ⟨rfl, hr, hB⟩
      obtain ⟨hal, hv4, hbs, hE⟩ := HA.out
      have hsz := hB.size
      rw [hsz0.out] at hsz
      have hB1 : Bel b w.heap.size w w1 := (Bel.of hal).trans (hB.mono (by rw [hsz0.out]; omega))
      have h4 := hv4.bel hB (by simp) (by omega)
      have hbl := hr.lt
      have FA := Lib.hid (And.intro hr (And.intro h4 (And.intro (hbs.bel hB1 hB0 (by omega)) (And.intro (hE.bel hB1 (by omega) (by omega)) hB1))))
      clear hr hal hv4 hbs hE h4
      go_wp2_with fail
      obtain ⟨hr, h4, hbs, hE, -⟩ := FA.out
      refine (HI.out _ (hr.below (bal w1 _) hbl) (hbs.bel (Bel.of (bal w1 _)) hB0 (by omega)) (hE.below (bal w1 _) (by omega))).mono ?_
      rintro e w2 ⟨rfl, hr2, hB2⟩
      have h5 := (VB.new w1 _ _ _ _).bel hB2 (by simp) (by omega)
      have h4 := (h4.below (bal w1 _) (by omega)).bel hB2 (by simp; omega) (by omega)
      have hsz2 := hB2.size
      simp only [World.size_alloc] at hsz2
      obtain ⟨c0, c1, c2, c3, f0, f1, f2, f3⟩ := h4.all
      obtain ⟨d0, d1, d2, d3, g0, g1, g2, g3⟩ := h5.all
      have HV := Lib.hid h4
      have HV5 := Lib.hid h5
      have HR := Lib.hid hr2
      clear hr h4 hbs hE h5 hr2
      go_wp2
      refine bodyPost_ret (ret44 rfl ((HV.out.other (by omega) _).set _ _ _ _)) rfl ?_
      rw [e1.out]
      refine ⟨_, rfl, ⟨none, 0, rfl, ?_, .inl rfl⟩, (HR.out.other (by omega) _).set (by omega) _ _ _ _, (((hB1.trans ((Bel.of (bal w1 _)).mono (by omega))).trans (hB2.mono (by simp; omega))).above (by omega) _).set4 (Nat.le_refl _) _ _ _ _⟩
      exact fitsN 2 (by decide) 0 (by decide) (by decide) z (by omega) 0 (by decide)
    · have e1 : Hid (Q = (.mk 4 0 .empty (readL (readV bs room) (manyM bs 4096 r1).1 (manyM bs 4096 r1).2).1, (readL (readV bs room) (manyM bs 4096 r1).1 (manyM bs 4096 r1).2).2)) := by
        show _ = _
        rw [← HQ.out, if_neg (by omega), if_neg (by omega), if_pos (by omega)]
      clear HQ
      have HI := Lib.hid fun (w' : World) (hr : RdAt p w' b bv r1.1 r1.2) (hbs : Bs B0 w' bv bs) (hE : Errs 5 p w') => many_any p B0 w' b bv bs r1 4096 (by decide) hr hbs hB0 hE hb5 hnp hlen
      obtain ⟨hin1, hin2⟩ := manyM_pos bs 4096 r1 hnp
      generalize manyM bs 4096 r1 = q2 at HI e1 hin1 hin2
      obtain ⟨n0, r2⟩ := q2
      simp only at HI e1 hin1 hin2
      have hf := readV_pos bs room
      have IH2 := Lib.hid fun (w' : World) (r' : Rd) (hr : RdAt p w' b bv r'.1 r'.2) (hbs : Bs B0 w' bv bs) (hE : Errs 5 p w') (hp : r'.1 ≤ bs.length) => IH.out w' r' (deep + 1) (by omega) hr hbs hE hp
      generalize readV bs room = f at e1 hf IH2
      have HF := Lib.hid hf
      have hds : ((deep + 1 : Nat) : Int) = IntKind.i64.wrap ((deep : Int) + 1) := by rw [IntWalk.i64_in _ ⟨by omega, by omega⟩]; omega
      rw [hds] at IH2
      have HDS := Lib.hid hds
      clear hkz hf hds
      subst hc
      go_enter Tryd.func44, Tryd.ntmps44
      go_wp2_with fail
      refine HN.out.mono ?_
      rintro e w1 ⟨rfl, hr, hB⟩
      obtain ⟨hal, hv4, hbs, hE⟩ := HA.out
      have hsz := hB.size
      rw [hsz0.out] at hsz
      have hB1 : Bel b w.heap.size w w1 := (Bel.of hal).trans (hB.mono (by rw [hsz0.out]; omega))
      have h4 := hv4.bel hB (by simp) (by omega)
      have hbl := hr.lt
      have FA := Lib.hid (And.intro hr (And.intro h4 (And.intro (hbs.bel hB1 hB0 (by omega)) (And.intro (hE.bel hB1 (by omega) (by omega)) hB1))))
      clear hr hal hv4 hbs hE h4
      go_wp2_with fail
      obtain ⟨hr, h4, hbs, hE, -⟩ := FA.out
      refine (HI.out _ (hr.below (bal w1 _) hbl) (hbs.bel (Bel.of (bal w1 _)) hB0 (by omega)) (hE.below (bal w1 _) (by omega))).mono ?_
      rintro e w2 ⟨rfl, hr2, hB2⟩
      have h5 := (VB.new w1 _ _ _ _).bel hB2 (by simp) (by omega)
      have h4 := (h4.below (bal w1 _) (by omega)).bel hB2 (by simp; omega) (by omega)
      have hsz2 := hB2.size
      simp only [World.size_alloc] at hsz2
      have hl0 : LSt p b bv w w.heap.size w1.heap.size [] r2 w2 := ⟨hr2, h4, (hB1.trans ((Bel.of (bal w1 _)).mono (by omega))).trans (hB2.mono (by simp; omega)), _, [], h5, World.ownsRow_nil _ _ _ _, rfl⟩
      have FB := Lib.hid (And.intro hl0 (And.intro hbs hE))
      clear hr h4 hbs hE h5 hr2 hl0 HI
      go_wp2
      go_loopw [6] (fun n6 wr => ∃ (xs : List Val) (m : Nat) (r3 : Rd), n6 = .int .i64 m ∧ m ≤ 4096 ∧ xs.length + m ≤ 4096 ∧ r3.1 ≤ bs.length ∧ LSt p b bv w w.heap.size w1.heap.size xs r3 wr ∧ Hid (xs ++ (readL f m r3).1 = (readL f n0 r2).1 ∧ (readL f m r3).2 = (readL f n0 r2).2))
        (fun n6 _ => (intOf n6).toNat)
      case atStart => exact ⟨[], n0, r2, rfl, hin2, by simpa using hin2, hin1, FB.out.1, ⟨rfl, rfl⟩⟩
      case round =>
        obtain ⟨xs, m, r3, rfl, hm, hxm, hp3, hst, hE3⟩ := hrel
        have HST := Lib.hid hst
        obtain ⟨hr3, h43, hB3, sv, cells, h53, hrow, hit⟩ := hst
        have c2 := hr3.c2
        obtain ⟨sa, sc, rfl⟩ := hrow.shape
        have hrow' := Lib.hid hrow
        have hit' := Lib.hid hit
        have HR3 := Lib.hid hr3
        have HV4 := Lib.hid h43
        have HV5 := Lib.hid h53
        obtain ⟨c0, c1, c2', c3, f0, f1, f2, f3⟩ := h43.all
        obtain ⟨d0, d1, d2, d3, g0, g1, g2, g3⟩ := h53.all
        clear hr3 h43 h53 hrow hit
        by_cases hm0 : m = 0
        · subst hm0
          go_wp2
          refine bodyPost_ret (ret44 rfl (HV4.out.set _ _ _ _)) rfl ?_
          have EE := hE3.out
          simp only [readL] at EE
          rw [e1.out, ← EE.1, ← EE.2, List.append_nil]
          have hl := lst_done (g4 := w.heap.size) (W := w.heap.size) (by omega) (Nat.le_refl _) hrow'.out hit'.out (.int .i64 4) (.int .i64 0) (.string ⟨#[]⟩) (.slice sa xs.length sc)
          exact ⟨_, rfl, ⟨sa, sc, rfl, fitsN 4 (by decide) 0 (by decide) (by decide) ByteArray.empty (by decide) _ (by show xs.length ≤ _; omega), hl⟩, HR3.out.set (by omega) _ _ _ _, hB3.set4 (Nat.le_refl _) _ _ _ _⟩
        · cases hr3e : r3.2 with
          | some g' =>
            rw [hr3e] at c2
            simp only [errO, errV] at c2
            have EE := hE3.out
            rw [show m = (m - 1) + 1 by omega] at EE
            simp only [readL, hr3e, Option.isSome_some, if_true] at EE
            have HEE := Lib.hid EE
            clear hr3e EE
            go_wp2
            refine bodyPost_ret (ret44 rfl (HV4.out.set _ _ _ _)) rfl ?_
            have EE := HEE.out
            rw [e1.out, ← EE.1, ← EE.2, List.append_nil]
            have hl := lst_done (g4 := w.heap.size) (W := w.heap.size) (by omega) (Nat.le_refl _) hrow'.out hit'.out (.int .i64 4) (.int .i64 0) (.string ⟨#[]⟩) (.slice sa xs.length sc)
            exact ⟨_, rfl, ⟨sa, sc, rfl, fitsN 4 (by decide) 0 (by decide) (by decide) ByteArray.empty (by decide) _ (by show xs.length ≤ _; omega), hl⟩, HR3.out.set (by omega) _ _ _ _, hB3.set4 (Nat.le_refl _) _ _ _ _⟩
          | none =>
            rw [hr3e] at c2
            simp only [errO] at c2
            have EE := hE3.out
            rw [show m = (m - 1) + 1 by omega] at EE
            simp only [readL, hr3e, Option.isSome_none, if_false, Bool.false_eq_true] at EE
            have HEE := Lib.hid EE
            clear hr3e EE
            go_wp2
            have HBS := Lib.hid (HA.out.2.2.1.bel hB3 hB0 (by omega))
            have HES := Lib.hid (HA.out.2.2.2.bel hB3 (by omega) (by omega))
            have hsz3 := hB3.size
            have h5lt := HV5.out.lt
            go_region_law (first
              | (refine step_item 50 55 rfl rfl (w1.heap.size + 1) (.slice sa xs.length sc) xs.length cells (by simp [Act.eval, Act.put]) (World.ownsRow.alloc (by assumption) _) _ (by simp [Act.eval, Act.put]) _ _ _ _ _ _ _ (heap_alloc_new _ _) (by omega) (by simp; omega) _ rfl ?_
                 intro g cap w4 hown4 hg4 hat4 hlt4
                 have hvs := vb_step HV5.out hrow'.out (by omega) (by assumption) hg4
                 have d3' := hvs.c3
                 have g3' := hvs.fr 3)
              | (go_simp; go_at_call 44; refine (IH2.out _ r3 (by exact HR3.out) (by exact HBS.out) (by exact HES.out) hp3).mono ?_; rintro e w2 ⟨v2, rfl, ⟨a2, cc2, rfl, hf2, hs2⟩, hr2, hB2⟩; have hrow2 : w2.ownsRow (w1.heap.size + 1) 24 4 (.slice sa xs.length sc) xs.length cells := ownsRow_bel (by exact hrow'.out) hB2 (Nat.le_refl _) (by omega); have hB2 : Bel b wr.heap.size wr w2 := ⟨hB2.os, hB2.tape, hB2.output, hB2.size, hB2.block⟩; have hsz5 := hB2.size; have d3w := (HV5.out.bel hB2 h5lt (by omega)).c3; have d3x := fun (o : Obj) => ((HV5.out.bel hB2 h5lt (by omega)).below (bal w2 o) (by omega)).c3; have d3x := d3x (.cells #[.int .i64 (f r3).1.kind, .int .i64 (f r3).1.n, .string (f r3).1.s, .slice a2 (f r3).1.l.length cc2] 24)))
            all_goals go_wp2
            all_goals refine ⟨⟨xs ++ [(f r3).1], m - 1, (f r3).2, by go_num, by omega, by simp; omega, HF.out r3 hp3, ?_, ?_⟩, by simp [intOf]; omega⟩
            all_goals first | (have EE := HEE.out; exact ⟨by rw [List.append_assoc]; exact EE.1, EE.2⟩) | skip
            all_goals
              have hL := lst_step (o := .cells #[.int .i64 (f r3).1.kind, .int .i64 (f r3).1.n, .string (f r3).1.s, .slice a2 (f r3).1.l.length cc2] 24) (by omega) (by omega) (Nat.le_refl _) HV4.out hB3 HV5.out hrow'.out hit'.out hf2 hs2 hr2 hB2 hown4 ⟨hg4.os, hg4.tape, hg4.output, hg4.size, hg4.block⟩ (hat4.imp id (fun h => h.trans (by simp))) hlt4
              first | exact hL | exact hL.drew
    · omega
    · have e1 : Hid (Q = (.mk k 0 .empty [], r1.fail 2)) := by
        show _ = _
        rw [← HQ.out, if_neg (by omega), if_neg (by omega), if_neg (by omega)]
      clear HQ
      have HI := Lib.hid fun (w' : World) (hr : RdAt p w' b bv r1.1 r1.2) => fail_any p w' b bv r1.1 r1.2 2 hr
      have t0 : (kz == 0) = false := by simp; omega
      have t1 : (kz == 1) = false := by simp; omega
      have t2 : (kz == 2) = false := by simp; omega
      have t3 : (kz == 3) = false := by simp; omega
      have t4 : (kz == 4) = false := by simp; omega
      have hkr : -9223372036854775808 ≤ kz ∧ kz ≤ 9223372036854775807 := by omega
      obtain ⟨hkr1, hkr2⟩ := hkr
      clear hkz
      go_enter Tryd.func44, Tryd.ntmps44
      go_wp2_with fail
      refine HN.out.mono ?_
      rintro e w1 ⟨rfl, hr, hB⟩
      obtain ⟨hal, hv4, hbs, hE⟩ := HA.out
      have hsz := hB.size
      rw [hsz0.out] at hsz
      have hB1 : Bel b w.heap.size w w1 := (Bel.of hal).trans (hB.mono (by rw [hsz0.out]; omega))
      have h4 := hv4.bel hB (by simp) (by omega)
      have hbl := hr.lt
      have FA := Lib.hid (And.intro hr (And.intro h4 (And.intro (hbs.bel hB1 hB0 (by omega)) (And.intro (hE.bel hB1 (by omega) (by omega)) hB1))))
      clear hr hal hv4 hbs hE h4
      have e2 := fun (K : Value) => (((FA.out.2.2.2.1).below (bal w1 (.cells #[K, .int .i64 0, .string ⟨#[]⟩, .slice none 0 0] 24)) (by omega)) 2 (by decide))
      have e2 := e2 (.int .i64 kz)
      unfold errV at e2 HI
      go_wp2_with fail
      obtain ⟨hr, h4, hbs, hE, -⟩ := FA.out
      refine (HI.out _ (hr.below (bal w1 _) hbl)).mono ?_
      rintro e w2 ⟨rfl, hr2, hB2⟩
      have h5 := (VB.new w1 _ _ _ _).bel hB2 (by simp) (by omega)
      have h4 := (h4.below (bal w1 _) (by omega)).bel hB2 (by simp; omega) (by omega)
      have hsz2 := hB2.size
      simp only [World.size_alloc] at hsz2
      obtain ⟨c0, c1, c2, c3, f0, f1, f2, f3⟩ := h4.all
      obtain ⟨d0, d1, d2, d3, g0, g1, g2, g3⟩ := h5.all
      have HV := Lib.hid h4
      have HV5 := Lib.hid h5
      have HR := Lib.hid hr2
      clear hr h4 hbs hE h5 hr2
      go_wp2
      refine bodyPost_ret (ret44 rfl (HV.out.set _ _ _ _)) rfl ?_
      rw [e1.out]
      exact ⟨_, rfl, ⟨none, 0, by rw [HK.out]; rfl, fitsN k hnum 0 (by decide) (by decide) ByteArray.empty (by decide) 0 (by decide), .inl rfl⟩, HR.out.set (by omega) _ _ _ _, ((hB1.trans ((Bel.of (bal w1 _)).mono (by omega))).trans (hB2.mono (by simp; omega))).set4 (Nat.le_refl _) _ _ _ _⟩
end Go.Proofs.YtmkghfkikclodaaDoor
namespace Go.Proofs.YtmkghfkikclodaaDoor
open Go.RowKit

def validM (x : Val) : Option Nat := match walkM x 1 4096 with | .error g => some g | .ok _ => Option.none

theorem valid_any (p : Nat → Addr) (x : Val) (a : Option Addr) (c : Nat) (w : World) (hw : 5 ≤ w.heap.size) (hf : Fits x.kind x.n x.s x.l.length) (hR : RepSl (Lo w.heap.size) w a x.l) (hE : Errs 5 p w) :
    Calls Tryd.prog 23 #[.agg #[.int .i64 x.kind, .int .i64 x.n, .string x.s, .slice a x.l.length c]] w (ErrOut p w (validM x)) := by
  have HC := Lib.hid fun (o : Obj) => walk_any p (w.heap.size + 1) (by omega) (SizeOf.sizeOf x) x 1 4096 a c ((w.alloc o).alloc (.cells #[.int .i64 4096] 3)) (Nat.le_refl _) (by decide) (by decide) (by decide) (by decide) hf
    ((hR.below ((bal w o).trans ((bal (w.alloc o) _).mono (by simp)))).keep (fun _ _ => rfl) (fun k hk => Nat.lt_of_lt_of_le hk (Nat.le_succ _)))
    (by have := heap_alloc_new (w.alloc o) (.cells #[.int .i64 4096] 3); simpa [NB] using this)
    (hE.below ((bal w o).trans ((bal (w.alloc o) _).mono (by simp))) (by omega))
  unfold validM
  clear hR hE
  generalize walkM x 1 4096 = q at HC
  go_enter Tryd.func23, Tryd.ntmps23
  go_wp2_with fail
  refine (HC.out _).mono ?_
  rintro e w2 ⟨(⟨g, rfl, rfl⟩ | ⟨lv', rfl, rfl, hN2⟩), hB2⟩
  · go_wp2
    go_ret
    exact ⟨rfl, (bal w _).trans (((bal (w.alloc _) _).mono (by simp)).trans (hB2.below (by omega) (by simp; omega)))⟩
  · clear hN2
    go_wp2
    go_ret
    exact ⟨rfl, (bal w _).trans (((bal (w.alloc _) _).mono (by simp)).trans (hB2.below (by omega) (by simp; omega)))⟩

def rightM (bs : List UInt8) (r : Rd) : Val × Rd :=
  if (readV bs 40 r).2.2.isSome = true then readV bs 40 r
  else match validM (readV bs 40 r).1 with
    | Option.none => readV bs 40 r
    | some g => ((readV bs 40 r).1, (readV bs 40 r).2.fail g)

theorem ret26 {w : World} {g : Nat} {x0 x1 x2 x3 : Value} {tmps : Array Value} (ht : tmps.getD 2 undef = .pointer (some ⟨g, 0, none⟩)) (hv : VB w g x0 x1 x2 x3) : (results Tryd.f26 tmps).run Tryd.prog w = .ok (.agg #[x0, x1, x2, x3]) w :=
  results_cell_row (P := Tryd.prog) Tryd.results26 tmps w g 24 #[x0, x1, x2, x3] (0, 0) _ ht hv Tryd.underlying24 rfl info24

theorem fin26 {w2 : World} {g B : Nat} {a : Option Addr} {l : List Val} (hs : RepSl (New (g + 1) B) w2 a l) (hB : B ≤ w2.heap.size) (y0 y1 y2 y3 : Value) :
    RepSl (New g ((((w2.setCell ⟨g, 0, none⟩ y0).setCell ⟨g, 1, none⟩ y1).setCell ⟨g, 2, none⟩ y2).setCell ⟨g, 3, none⟩ y3).heap.size)
      ((((w2.setCell ⟨g, 0, none⟩ y0).setCell ⟨g, 1, none⟩ y1).setCell ⟨g, 2, none⟩ y2).setCell ⟨g, 3, none⟩ y3) a l := by
  have hsz : ((((w2.setCell ⟨g, 0, none⟩ y0).setCell ⟨g, 1, none⟩ y1).setCell ⟨g, 2, none⟩ y2).setCell ⟨g, 3, none⟩ y3).heap.size = w2.heap.size := by simp [World.setCell]
  refine hs.keep (fun k hk => ?_) (fun k hk => ⟨by have := hk.1; omega, by have := hk.2; omega⟩)
  have hk' : k ≠ g := by have := hk.1; omega
  rw [Go.Deep.blk_setCell_other _ _ _ _ hk', Go.Deep.blk_setCell_other _ _ _ _ hk', Go.Deep.blk_setCell_other _ _ _ _ hk', Go.Deep.blk_setCell_other _ _ _ _ hk']

theorem right_any (p : Nat → Addr) (B0 b : Nat) (bs : List UInt8) (bv : Value) (hB0 : B0 ≤ b) (hb5 : 5 ≤ b) (hlen : bs.length ≤ 140737488355328) (w : World) (r : Rd) (h : RdAt p w b bv r.1 r.2) (hbs : Bs B0 w bv bs) (hE : Errs 5 p w) (hpos : r.1 ≤ bs.length) :
    Calls Tryd.prog 26 #[.pointer (some ⟨b, 0, none⟩)] w (VPost p b bv w (rightM bs r).1 (rightM bs r).2.1 (rightM bs r).2.2) := by
  have hb := h.lt
  have hal := bal w (.cells #[.int .i64 0, .int .i64 0, .string ⟨#[]⟩, .slice none 0 0] 24)
  have HN := Lib.hid (readV_any p B0 b bs bv hB0 hb5 hlen 40 _ r 1 rfl (h.below hal hb) (hbs.bel (Bel.of hal) hB0 (by omega)) (hE.below hal (by omega)) hpos)
  have hv := VB.new w (.int .i64 0) (.int .i64 0) (.string ⟨#[]⟩) (.slice none 0 0)
  have HA := Lib.hid (And.intro hv hE)
  unfold rightM
  clear h hbs hE hv
  generalize readV bs 40 r = q at HN
  obtain ⟨x, r1⟩ := q
  simp only at HN ⊢
  generalize hQ : (if r1.2.isSome = true then (x, r1) else match validM x with | Option.none => (x, r1) | some g => (x, r1.fail g)) = Q
  have HQ := Lib.hid hQ
  clear hQ hal
  go_enter Tryd.func26, Tryd.ntmps26
  go_wp2_with fail
  refine HN.out.mono ?_
  rintro e w1 ⟨v, rfl, ⟨a, c, rfl, hf, hs⟩, hr, hB⟩
  obtain ⟨hv, hE⟩ := HA.out
  have hsz := hB.size
  simp only [World.size_alloc] at hsz hs
  have hB1 : Bel b w.heap.size w w1 := (Bel.of (bal w _)).trans (hB.mono (by simp))
  have hv1 := hv.bel hB (by simp) (by omega)
  have hal := bal w1 (.cells #[.int .i64 x.kind, .int .i64 x.n, .string x.s, .slice a x.l.length c] 24)
  have hv2 := hv1.below hal hv1.lt
  have h5 := VB.new w1 (.int .i64 x.kind) (.int .i64 x.n) (.string x.s) (.slice a x.l.length c)
  have hr2 := hr.below hal hr.lt
  have hE2 := (hE.bel hB1 (by omega) (by omega)).below hal (by omega)
  have hs2 := hs.keep (T := New (w.heap.size + 1) w1.heap.size) (fun k hk => hal.block k hk.2) (fun _ hk => hk)
  have hB2 := hB1.alloc hB1.size (.cells #[.int .i64 x.kind, .int .i64 x.n, .string x.s, .slice a x.l.length c] 24)
  have c2 := hr2.c2
  obtain ⟨d0, d1, d2, d3, -⟩ := h5.all
  obtain ⟨c0', c1', c2', c3', f0, f1, f2, f3⟩ := hv2.all
  have hbl := hr.lt
  have FA := Lib.hid (And.intro hr2 (And.intro hv2 (And.intro h5 (And.intro hE2 (And.intro hs2 hB2)))))
  have HF := Lib.hid hf
  clear hr hv hv1 hv2 hE hE2 hs hs2 hB hB1 hB2 h5 hr2 hal hf
  cases hre : r1.2 with
  | some g0 =>
    rw [hre] at c2
    simp only [errO, errV] at c2
    have e1 : Hid (Q = (x, r1)) := by show _ = _; rw [← HQ.out, hre]; rfl
    have HRE := Lib.hid hre
    clear hre HQ
    go_wp2
    obtain ⟨hr2, hv2, h5, hE2, hs2, hB2⟩ := FA.out
    refine bodyPost_ret (ret26 rfl (hv2.set _ _ _ _)) rfl ?_
    rw [e1.out]
    exact ⟨_, rfl, ⟨a, c, rfl, HF.out, fin26 hs2 (by simp) _ _ _ _⟩, hr2.set (by omega) _ _ _ _, hB2.set4 (Nat.le_refl _) _ _ _ _⟩
  | none =>
    rw [hre] at c2
    simp only [errO] at c2
    have HV := Lib.hid (valid_any p x a c _ (by simp; omega) HF.out (FA.out.2.2.2.2.1.keep (fun _ _ => rfl) (fun k hk => by have := hk.2; show k < _; simp; omega)) FA.out.2.2.2.1)
    have HQ2 : Hid (Q = match validM x with | Option.none => (x, r1) | some g => (x, r1.fail g)) := by show _ = _; rw [← HQ.out, hre]; rfl
    have HRE := Lib.hid hre
    clear hre HQ
    generalize validM x = og at HV HQ2
    go_wp2_with fail
    refine HV.out.mono ?_
    rintro e w3 ⟨rfl, hB3⟩
    obtain ⟨hr2, hv2, h5, hE2, hs2, hB2⟩ := FA.out
    have hsz3 := hB3.size
    simp only [World.size_alloc] at hsz3 hB3
    have hr3 := hr2.below hB3 (by omega)
    have hv3 := hv2.below hB3 (by omega)
    have h53 := h5.below hB3 (by omega)
    have hE3 := hE2.below hB3 (by omega)
    have hs3 := hs2.keep (w' := w3) (T := New (w.heap.size + 1) w1.heap.size) (fun k hk => hB3.block k (by have := hk.2; omega)) (fun _ hk => hk)
    have hB4 : Bel b w.heap.size w w3 := hB2.trans ((Bel.of hB3).mono (by omega))
    cases og with
    | none =>
      have e1 : Hid (Q = (x, r1)) := HQ2
      obtain ⟨c0', c1', c2', c3', f0, f1, f2, f3⟩ := hv3.all
      obtain ⟨d0, d1, d2, d3, -⟩ := h53.all
      have FB := Lib.hid (And.intro hr3 (And.intro hv3 (And.intro hs3 hB4)))
      simp only [errO]
      clear hr2 hv2 h5 hE2 hs2 hB2 hr3 hv3 h53 hE3 hs3 hB4 hB3 HQ2
      go_wp2
      obtain ⟨hr3, hv3, hs3, hB4⟩ := FB.out
      refine bodyPost_ret (ret26 rfl (hv3.set _ _ _ _)) rfl ?_
      rw [e1.out]
      exact ⟨_, rfl, ⟨a, c, rfl, HF.out, fin26 hs3 (by omega) _ _ _ _⟩, hr3.set (by omega) _ _ _ _, hB4.set4 (Nat.le_refl _) _ _ _ _⟩
    | some g =>
      have e1 : Hid (Q = (x, r1.fail g)) := HQ2
      have HFA := Lib.hid (fail_any p w3 b bv r1.1 r1.2 g hr3)
      have FB := Lib.hid (And.intro hv3 (And.intro h53 (And.intro hs3 hB4)))
      simp only [errO, errV] at HFA ⊢
      clear hr2 hv2 h5 hE2 hs2 hB2 hr3 hv3 h53 hE3 hs3 hB4 hB3 HQ2
      go_wp2_with fail
      refine HFA.out.mono ?_
      rintro e w4 ⟨rfl, hr4, hB5⟩
      obtain ⟨hv3, h53, hs3, hB4⟩ := FB.out
      have hv4 := hv3.bel hB5 hv3.lt (by omega)
      have h54 := h53.bel hB5 h53.lt (by omega)
      have hs4 := hs3.keep (w' := w4) (T := New (w.heap.size + 1) w1.heap.size) (fun k hk => hB5.block k (by have := hk.2; omega) (by have := hk.1; omega)) (fun _ hk => hk)
      have hB6 : Bel b w.heap.size w w4 := hB4.trans (hB5.mono (by omega))
      have hsz5 := hB5.size
      obtain ⟨c0', c1', c2', c3', f0, f1, f2, f3⟩ := hv4.all
      obtain ⟨d0, d1, d2, d3, -⟩ := h54.all
      have FC := Lib.hid (And.intro hr4 (And.intro hv4 (And.intro hs4 hB6)))
      clear hv3 h53 hs3 hB4 hr4 hv4 h54 hs4 hB6 hB5
      go_wp2
      obtain ⟨hr4, hv4, hs4, hB6⟩ := FC.out
      refine bodyPost_ret (ret26 rfl (hv4.set _ _ _ _)) rfl ?_
      rw [e1.out]
      exact ⟨_, rfl, ⟨a, c, rfl, HF.out, fin26 hs4 (by omega) _ _ _ _⟩, hr4.set (by omega) _ _ _ _, hB6.set4 (Nat.le_refl _) _ _ _ _⟩
end Go.Proofs.YtmkghfkikclodaaDoor
namespace Go.Proofs.YtmkghfkikclodaaDoor
open Go.RowKit

def zeroVal : Val := .mk 0 0 .empty []
/-- the value, how many bytes, the error -/
def readM (bs : List UInt8) : Val × Nat × Option Nat :=
  if (rightM bs (0, Option.none)).2.2.isSome = true then (zeroVal, 0, (rightM bs (0, Option.none)).2.2) else ((rightM bs (0, Option.none)).1, (rightM bs (0, Option.none)).2.1, Option.none)

def ReadOut (p : Nat → Addr) (W : World) (q : Val × Nat × Option Nat) (e : Ending) (w' : World) : Prop :=
  ∃ v, e = .returned (.tuple #[v, .int .i64 q.2.1, errO p q.2.2]) ∧ RepV (New W.heap.size w'.heap.size) w' v q.1 ∧ Below W.heap.size W w'

theorem ret10 {w : World} {g : Nat} {x0 x1 x2 x3 : Value} {tmps : Array Value} (ht : tmps.getD 2 undef = .pointer (some ⟨g, 0, none⟩)) (hv : VB w g x0 x1 x2 x3) :
    (results Tryd.f10 tmps).run Tryd.prog w = .ok (.tuple #[.agg #[x0, x1, x2, x3], tmps.getD 3 undef, tmps.getD 4 undef]) w := by
  have ht' : tmps[2]?.getD undef = .pointer (some ⟨g, 0, none⟩) := by simpa using ht
  have hl := run_loadVar_row (P := Tryd.prog) w g 24 24 #[x0, x1, x2, x3] (0, 0) _ hv Tryd.underlying24 rfl info24
  simp [results, Tryd.results10, ht', asAddr, hl]

set_option maxRecDepth 100000 in
set_option maxHeartbeats 1000000 in
theorem readValue_any (p : Nat → Addr) (w : World) (bv : Value) (bs : List UInt8) (hlen : bs.length ≤ 140737488355328) (hbs : Bs w.heap.size w bv bs) (hE : Errs 5 p w) (hw : 5 ≤ w.heap.size) :
    Calls Tryd.prog 10 #[bv] w (ReadOut p w (readM bs)) := by
  have hal := (bal w (.cells #[.int .i64 0, .int .i64 0, .string ⟨#[]⟩, .slice none 0 0] 24)).trans ((bal (w.alloc (.cells #[.int .i64 0, .int .i64 0, .string ⟨#[]⟩, .slice none 0 0] 24)) (.cells #[bv, .int .i64 0, .nilIface] 57)).mono (by simp))
  have hrd : RdAt p ((w.alloc (.cells #[.int .i64 0, .int .i64 0, .string ⟨#[]⟩, .slice none 0 0] 24)).alloc (.cells #[bv, .int .i64 0, .nilIface] 57)) (w.heap.size + 1) bv 0 Option.none := by
    have := heap_alloc_new (w.alloc (.cells #[.int .i64 0, .int .i64 0, .string ⟨#[]⟩, .slice none 0 0] 24)) (.cells #[bv, .int .i64 0, .nilIface] 57)
    simpa [RdAt, errO] using this
  have hv := (VB.new w (.int .i64 0) (.int .i64 0) (.string ⟨#[]⟩) (.slice none 0 0)).below (bal (w.alloc (.cells #[.int .i64 0, .int .i64 0, .string ⟨#[]⟩, .slice none 0 0] 24)) (.cells #[bv, .int .i64 0, .nilIface] 57)) (by simp)
  have HN := Lib.hid (right_any p w.heap.size (w.heap.size + 1) bs bv (by omega) (by omega) hlen _ (0, Option.none) hrd (hbs.bel (Bel.of (b := w.heap.size + 1) hal) (by omega) (Nat.le_refl _)) (hE.below hal hw) (Nat.zero_le _))
  have HA := Lib.hid (And.intro hv hal)
  have hbvs : ∃ a n c, bv = .slice a n c := by obtain ⟨a, c, h, _⟩ := hbs; exact ⟨a, _, c, h⟩
  obtain ⟨a0, n0, cc0, rfl⟩ := hbvs
  unfold readM
  clear hbs hE hv hrd hal
  generalize rightM bs (0, Option.none) = q at HN
  obtain ⟨x, pos, err⟩ := q
  simp only at HN ⊢
  generalize hQ : (if err.isSome = true then (zeroVal, 0, err) else (x, pos, Option.none)) = Q
  have HQ := Lib.hid hQ
  clear hQ
  go_enter Tryd.func10, Tryd.ntmps10
  go_wp2_with fail
  refine HN.out.mono ?_
  rintro e w1 ⟨v, rfl, ⟨a, c, rfl, hf, hs⟩, hr, hB⟩
  obtain ⟨hv, hal⟩ := HA.out
  have hsz := hB.size
  simp only [World.size_alloc] at hsz hs
  have hB1 : Below w.heap.size w w1 := hal.trans (hB.below (by omega) (by simp; omega))
  have hv1 := hv.bel hB (by simp; omega) (by omega)
  have hal := bal w1 (.cells #[.int .i64 x.kind, .int .i64 x.n, .string x.s, .slice a x.l.length c] 24)
  have hv2 := hv1.below hal hv1.lt
  have h5 := VB.new w1 (.int .i64 x.kind) (.int .i64 x.n) (.string x.s) (.slice a x.l.length c)
  have hr2 := hr.below hal hr.lt
  have hs2 := hs.keep (T := New (w.heap.size + 1) w1.heap.size) (fun k hk => hal.block k hk.2) (fun k hk => ⟨by have := hk.1; omega, hk.2⟩)
  have hB2 : Below w.heap.size w _ := hB1.alloc hB1.size (.cells #[.int .i64 x.kind, .int .i64 x.n, .string x.s, .slice a x.l.length c] 24)
  have c1 := hr2.c1
  have c2 := hr2.c2
  obtain ⟨d0, d1, d2, d3, -⟩ := h5.all
  obtain ⟨c0', c1', c2', c3', f0, f1, f2, f3⟩ := hv2.all
  have FA := Lib.hid (And.intro hv2 (And.intro hs2 hB2))
  have HF := Lib.hid hf
  clear hr hv hv1 hv2 hs hs2 hB hB1 hB2 h5 hr2 hal hf
  cases err with
  | some g =>
    have e1 : Hid (Q = (zeroVal, 0, some g)) := by show _ = _; rw [← HQ.out]; rfl
    simp only [errO, errV] at c2
    clear HQ
    go_wp2
    go_region
    all_goals go_wp2
    all_goals
      obtain ⟨hv2, hs2, hB2⟩ := FA.out
      have hvf := hv2.set (.int .i64 0) (.int .i64 0) (.string ⟨#[]⟩) (.slice none 0 0)
      refine bodyPost_ret (ret10 (x0 := .int .i64 0) (x1 := .int .i64 0) (x2 := .string ⟨#[]⟩) (x3 := .slice none 0 0) rfl hvf) rfl ?_
      rw [e1.out]
      have hB3 := ((((hB2.setCell (p := ⟨w.heap.size, 0, none⟩) (Nat.le_refl _) (.int .i64 0)).setCell (p := ⟨w.heap.size, 1, none⟩) (Nat.le_refl _) (.int .i64 0)).setCell (p := ⟨w.heap.size, 2, none⟩) (Nat.le_refl _) (.string ⟨#[]⟩)).setCell (p := ⟨w.heap.size, 3, none⟩) (Nat.le_refl _) (.slice none 0 0))
      exact ⟨_, rfl, ⟨none, 0, rfl, fits_zero, .inl rfl⟩, ⟨hB3.os, hB3.tape, hB3.output, hB3.size, hB3.block⟩⟩
  | none =>
    have e1 : Hid (Q = (x, pos, Option.none)) := by show _ = _; rw [← HQ.out]; rfl
    simp only [errO] at c2
    clear HQ
    go_wp2
    go_region
    all_goals go_wp2
    all_goals
      obtain ⟨hv2, hs2, hB2⟩ := FA.out
      have hvf := hv2.set (.int .i64 x.kind) (.int .i64 x.n) (.string x.s) (.slice a x.l.length c)
      refine bodyPost_ret (ret10 (x0 := .int .i64 x.kind) (x1 := .int .i64 x.n) (x2 := .string x.s) (x3 := .slice a x.l.length c) rfl hvf) rfl ?_
      rw [e1.out]
      have hl := fin26 hs2 (by simp) (.int .i64 x.kind) (.int .i64 x.n) (.string x.s) (.slice a x.l.length c)
      have hB3 := ((((hB2.setCell (p := ⟨w.heap.size, 0, none⟩) (Nat.le_refl _) (.int .i64 x.kind)).setCell (p := ⟨w.heap.size, 1, none⟩) (Nat.le_refl _) (.int .i64 x.n)).setCell (p := ⟨w.heap.size, 2, none⟩) (Nat.le_refl _) (.string x.s)).setCell (p := ⟨w.heap.size, 3, none⟩) (Nat.le_refl _) (.slice a x.l.length c))
      refine ⟨_, rfl, ⟨a, c, rfl, HF.out, ?_⟩, ⟨hB3.os, hB3.tape, hB3.output, hB3.size, hB3.block⟩⟩
      refine RepSl.keep (w := _) (w' := _) (S := _) (T := _) ?_ ?_ hl
      · exact fun _ _ => rfl
      · exact fun _ h => h
end Go.Proofs.YtmkghfkikclodaaDoor
namespace Go.Proofs.YtmkghfkikclodaaDoor
open Go.RowKit

/-- what made memory alone keeps all -/
theorem kept_of {base : Nat} {w w' : World} (h : Below w.heap.size w w') (hb : base ≤ w.heap.size) : Kept base w w' := ⟨h.os, h.tape, h.output, h.size, fun k hk _ => h.block k hk⟩

/-- dump.Value: a right value's bytes; of another one none -/
def dumpM (x : Val) : List UInt8 := if (validM x).isSome = true then [] else bytesV x

theorem dumpValue_any (p : Nat → Addr) (x : Val) (a : Option Addr) (c : Nat) (w : World) (hw : 5 ≤ w.heap.size) (hf : Fits x.kind x.n x.s x.l.length) (hR : RepSl (Lo w.heap.size) w a x.l) (hE : Errs 5 p w)
    (hl : (dumpM x).length ≤ 80000000) :
    Calls Tryd.prog 8 #[.agg #[.int .i64 x.kind, .int .i64 x.n, .string x.s, .slice a x.l.length c]] w (Laid w.heap.size w (dumpM x)) := by
  have HV := Lib.hid fun (o : Obj) => valid_any p x a c (w.alloc o) (by simp; omega) hf ((hR.below (bal w o)).keep (fun _ _ => rfl) (fun k hk => by have : k < w.heap.size := hk; show k < _; simp; omega)) (hE.below (bal w o) hw)
  have HC := Lib.hid fun (w' : World) (hb : Below w.heap.size w w') (hl : (bytesV x).length ≤ 80000000) => value_lays w.heap.size (SizeOf.sizeOf x) x a c (.slice none 0 0) [] w' (Nat.le_refl _) hf (hR.below hb) (OwnB.nil _ _ _) hb.size (by simpa using hl)
  have hv := VB.new w (.int .i64 x.kind) (.int .i64 x.n) (.string x.s) (.slice a x.l.length c)
  have HB := Lib.hid hv
  clear hR hE hv
  cases hq : validM x with
  | some g =>
    have hL : dumpM x = [] := by unfold dumpM; rw [hq]; rfl
    rw [hL]
    simp only [hq] at HV
    clear hl HC hL hq
    go_enter Tryd.func8, Tryd.ntmps8
    go_wp2_with fail
    refine (HV.out _).mono ?_
    rintro e w1 ⟨rfl, hB⟩
    simp only [errO, errV]
    go_wp2
    go_ret
    exact ⟨_, rfl, OwnB.nil _ _ _, kept_of ((bal w _).trans (hB.mono (by simp))) (Nat.le_refl _)⟩
  | none =>
    have hL : dumpM x = bytesV x := by unfold dumpM; rw [hq]; rfl
    rw [hL] at hl ⊢
    simp only [hq] at HV
    have HC2 := Lib.hid fun (w' : World) (hb : Below w.heap.size w w') => HC.out w' hb hl
    generalize bytesV x = L at HC2 ⊢
    clear hl HC hL hq
    go_enter Tryd.func8, Tryd.ntmps8
    go_wp2_with fail
    refine (HV.out _).mono ?_
    rintro e w1 ⟨rfl, hB⟩
    simp only [errO]
    have hB1 : Below w.heap.size w w1 := (bal w _).trans (hB.mono (by simp))
    have h1 := HB.out.below hB HB.out.lt
    obtain ⟨d0, d1, d2, d3, -⟩ := h1.all
    clear h1
    go_wp2_with fail
    refine (HC2.out _ hB1).mono ?_
    rintro e w2 ⟨v2, rfl, ho2, hk2⟩
    rw [List.nil_append] at ho2
    obtain ⟨a2, c2, rfl⟩ := ho2.shape
    have HO := Lib.hid ho2
    clear ho2 d0 d1 d2 d3
    go_wp2
    go_ret
    exact ⟨_, rfl, HO.out, (kept_of hB1 (Nat.le_refl _)).trans hk2⟩

/-! ### the document's word -/
theorem refValid_any (x : Val) (a : Option Addr) (c : Nat) (w : World) (hf : Fits x.kind x.n x.s x.l.length) (hs : SmallM x) (hR : RepSl (Lo w.heap.size) w a x.l) :
    Calls Tryd.prog 25 #[.agg #[.int .i64 x.kind, .int .i64 x.n, .string x.s, .slice a x.l.length c]] w (IntOut w (match validM x with | some g => codeOf g | Option.none => 0)) := by
  have HV := Lib.hid fun (o : Obj) => odd_any (w.heap.size + 1) (SizeOf.sizeOf x) x 1 4096 a c ((w.alloc o).alloc (.cells #[.int .i64 0] 79)) (Nat.le_refl _) (by decide) (by decide) (by decide) (by decide) hf hs
    ((hR.below ((bal w o).trans ((bal (w.alloc o) _).mono (by simp)))).keep (fun _ _ => rfl) (fun k hk => Nat.lt_of_lt_of_le hk (Nat.le_succ _)))
    (by have := heap_alloc_new (w.alloc o) (.cells #[.int .i64 0] 79); simpa [OB] using this)
  have hv := VB.new w (.int .i64 x.kind) (.int .i64 x.n) (.string x.s) (.slice a x.l.length c)
  have h1 := hv.below (bal (w.alloc _) (.cells #[.int .i64 0] 79)) hv.lt
  obtain ⟨d0, d1, d2, d3, -⟩ := h1.all
  unfold validM
  clear hR hv h1
  generalize walkM x 1 4096 = q at HV
  generalize hz : (match (match q with | .error g => some g | .ok _ => Option.none : Option Nat) with | some g => codeOf g | Option.none => 0) = z
  have HZ := Lib.hid hz
  clear hz
  go_enter Tryd.func25, Tryd.ntmps25
  go_wp2_with fail
  refine (HV.out _).mono ?_
  rintro e w1 ⟨(⟨g, rfl, rfl⟩ | ⟨lv, rfl, rfl, -⟩), hB⟩
  · have hz : z = codeOf g := by rw [← HZ.out]
    subst hz
    clear HZ
    go_wp2
    go_ret
    exact ⟨rfl, (bal w _).trans ((bal (w.alloc _) _).mono (by simp) |>.trans (hB.below (by omega) (by simp; omega)))⟩
  · have hz : z = 0 := by rw [← HZ.out]
    subst hz
    clear HZ
    go_wp2
    go_ret
    exact ⟨rfl, (bal w _).trans ((bal (w.alloc _) _).mono (by simp) |>.trans (hB.below (by omega) (by simp; omega)))⟩

theorem codeOf_ne (g : Nat) : (codeOf g == 0) = false := by unfold codeOf; split; rfl; split; rfl; split <;> rfl

theorem right_ref (x : Val) (a : Option Addr) (c : Nat) (w : World) (hf : Fits x.kind x.n x.s x.l.length) (hs : SmallM x) (hR : RepSl (Lo w.heap.size) w a x.l) :
    Calls Tryd.prog 9 #[.agg #[.int .i64 x.kind, .int .i64 x.n, .string x.s, .slice a x.l.length c]] w (BoolOut w (validM x).isNone) := by
  have HV := Lib.hid fun (o : Obj) => refValid_any x a c (w.alloc o) hf hs ((hR.below (bal w o)).keep (fun _ _ => rfl) (fun k hk => by have : k < w.heap.size := hk; show k < _; simp; omega))
  have hv := VB.new w (.int .i64 x.kind) (.int .i64 x.n) (.string x.s) (.slice a x.l.length c)
  obtain ⟨d0, d1, d2, d3, -⟩ := hv.all
  clear hR hv
  generalize validM x = q at HV ⊢
  cases q with
  | some g =>
    have hc := codeOf_ne g
    simp only [Option.isNone_some] at HV ⊢
    go_enter Tryd.func9, Tryd.ntmps9
    go_wp2_with fail
    refine (HV.out _).mono ?_
    rintro e w1 ⟨rfl, hB⟩
    go_wp2
    go_ret
    exact ⟨by simp [hc], (bal w _).trans (hB.mono (by simp))⟩
  | none =>
    simp only [Option.isNone_none] at HV ⊢
    go_enter Tryd.func9, Tryd.ntmps9
    go_wp2_with fail
    refine (HV.out _).mono ?_
    rintro e w1 ⟨rfl, hB⟩
    go_wp2
    go_ret
    exact ⟨rfl, (bal w _).trans (hB.mono (by simp))⟩
end Go.Proofs.YtmkghfkikclodaaDoor
namespace Go.Proofs.YtmkghfkikclodaaDoor
open Go.RowKit

theorem leB_mod (n : Nat) : ∀ (m : Nat) (b : Nat), leB (n + b * 256 ^ m) m = leB n m := by
  have key : ∀ (m j b : Nat), j ≤ m → leB (n + b * 256 ^ m) j = leB n j := by
    intro m j
    induction j with
    | zero => intro b _; rfl
    | succ j ih =>
      intro b hj
      rw [leB, leB, ih b (by omega)]
      congr 2
      have h1 : (256 : Nat) ^ m = 256 ^ j * (256 * 256 ^ (m - (j + 1))) := by
        rw [show (256 : Nat) * 256 ^ (m - (j + 1)) = 256 ^ (m - j) by rw [show m - j = (m - (j + 1)) + 1 by omega, Nat.pow_succ, Nat.mul_comm], ← Nat.pow_add]
        congr 1; omega
      have h2 : (n + b * 256 ^ m) / 256 ^ j = n / 256 ^ j + 256 * (b * 256 ^ (m - (j + 1))) := by
        rw [h1, show b * (256 ^ j * (256 * 256 ^ (m - (j + 1)))) = 256 ^ j * (256 * (b * 256 ^ (m - (j + 1)))) by rw [Nat.mul_left_comm, Nat.mul_left_comm b 256], Nat.add_mul_div_left _ _ (Nat.pow_pos (by decide))]
      rw [h2]
      apply UInt8.toNat_inj.1
      simp
  intro m b
  exact key m m b (Nat.le_refl _)

theorem leB_leN (bs : List UInt8) (pos : Nat) : ∀ m, pos + m ≤ bs.length → leB (leN bs pos m) m = (bs.drop pos).take m
  | 0, _ => by simp [leB]
  | m + 1, h => by
    rw [leB, leN, leB_mod, leB_leN bs pos m (by omega), List.take_add_one]
    congr 1
    have h1 := leN_lt bs pos m
    rw [Nat.add_mul_div_right _ _ (Nat.pow_pos (by decide)), Nat.div_eq_of_lt h1, Nat.zero_add, List.getElem?_drop, List.getElem?_eq_getElem (by omega)]
    simp only [Option.toList_some, List.cons.injEq, and_true]
    apply UInt8.toNat_inj.1
    have h2 : byteAt bs (pos + m) = bs[pos + m].toNat := by unfold byteAt; simp [List.getD, show pos + m < bs.length by omega]
    rw [h2]
    simp

/-- from r to r' just the bytes L were read, without an error -/
def Read (bs : List UInt8) (r r' : Rd) (L : List UInt8) : Prop := r.2 = Option.none ∧ r'.2 = Option.none ∧ r'.1 ≤ bs.length ∧ bs.take r'.1 = bs.take r.1 ++ L
theorem Read.trans {bs : List UInt8} {r r' r'' : Rd} {L L' : List UInt8} (h : Read bs r r' L) (k : Read bs r' r'' L') : Read bs r r'' (L ++ L') :=
  ⟨h.1, k.2.1, k.2.2.1, by rw [k.2.2.2, h.2.2.2, List.append_assoc]⟩
theorem Read.refl {bs : List UInt8} {r : Rd} (h : r.2 = Option.none) (hl : r.1 ≤ bs.length) : Read bs r r [] := ⟨h, h, hl, by simp⟩

theorem take_add' (bs : List UInt8) (a m : Nat) : bs.take (a + m) = bs.take a ++ (bs.drop a).take m := by
  rw [List.take_add]

theorem numM_read (bs : List UInt8) (m : Nat) (r : Rd) (h : (numM bs m r).2.2 = Option.none) : Read bs r (numM bs m r).2 (leB (numM bs m r).1 m) ∧ (numM bs m r).1 < 256 ^ m := by
  unfold numM at h ⊢
  split
  · rename_i hc
    rw [if_pos hc] at h
    rcases hc with hc | hc
    · obtain ⟨pos, err⟩ := r
      cases err with
      | none => simp at hc
      | some g => simp [Rd.fail] at h
    · obtain ⟨pos, err⟩ := r
      cases err <;> simp [Rd.fail] at h
  · rename_i hc
    simp only [not_or] at hc
    have h1 : r.2 = Option.none := by simpa using hc.1
    refine ⟨⟨h1, rfl, by simp only; omega, ?_⟩, leN_lt _ _ _⟩
    simp only
    rw [take_add', leB_leN _ _ _ (by omega)]

theorem uns_sgn (n : Nat) (h : n < 18446744073709551616) : uns (sgn n) = n := by
  unfold uns sgn
  split <;> omega

theorem intM_read (bs : List UInt8) (r : Rd) (h : (intM bs r).2.2 = Option.none) : Read bs r (intM bs r).2 (leB (uns (intM bs r).1) 8) := by
  unfold intM at h ⊢
  obtain ⟨h1, h2⟩ := numM_read bs 8 r h
  rw [uns_sgn _ (by simpa using h2)]
  exact h1

theorem manyM_read (bs : List UInt8) (most : Nat) (r : Rd) (h : (manyM bs most r).2.2 = Option.none) : Read bs r (manyM bs most r).2 (leB (manyM bs most r).1 4) ∧ (manyM bs most r).1 ≤ most := by
  unfold manyM at h ⊢
  split
  · rename_i hc
    rw [if_pos hc] at h
    generalize (numM bs 4 r).2 = q at h
    obtain ⟨a, b⟩ := q
    cases b <;> simp [Rd.fail] at h
  · rename_i hc
    rw [if_neg hc] at h
    split
    · rename_i he
      rw [if_pos he] at h
      simp only at h
      rw [h] at he
      simp at he
    · rename_i he
      rw [if_neg he] at h
      exact ⟨(numM_read bs 4 r h).1, by omega⟩

theorem textM_read (bs : List UInt8) (most : Nat) (r : Rd) (hr : r.1 ≤ bs.length) (h : (textM bs most r).2.2 = Option.none) :
    Read bs r (textM bs most r).2 (leB (textM bs most r).1.size 4 ++ (textM bs most r).1.data.toList) ∧ (textM bs most r).1.size ≤ most := by
  have hp := manyM_pos bs most r hr
  unfold textM at h ⊢
  split
  · rename_i hc
    rw [if_pos hc] at h
    generalize (manyM bs most r).2 = q at h
    obtain ⟨a, b⟩ := q
    cases b <;> simp [Rd.fail] at h
  · rename_i hc
    rw [if_neg hc] at h
    split
    · rename_i he
      rw [if_pos he] at h
      simp only at h
      rw [h] at he
      simp at he
    · rename_i he
      have hn : (manyM bs most r).2.2 = Option.none := by simpa using he
      obtain ⟨h1, h2⟩ := manyM_read bs most r hn
      have hs : ByteArray.size ⟨((bs.drop (manyM bs most r).2.1).take (manyM bs most r).1).toArray⟩ = (manyM bs most r).1 := by
        show (List.toArray _).size = _
        simp; omega
      simp only
      rw [hs]
      refine ⟨h1.trans ⟨hn, rfl, by simp only; omega, ?_⟩, h2⟩
      simp only
      rw [take_add']

theorem readL_read (bs : List UInt8) (f : Rd → Val × Rd) (hfp : ∀ r, r.1 ≤ bs.length → (f r).2.1 ≤ bs.length) (hf : ∀ r, r.1 ≤ bs.length → (f r).2.2 = Option.none → Read bs r (f r).2 (bytesV (f r).1) ∧ SmallM (f r).1) :
    ∀ (n : Nat) (r : Rd), r.1 ≤ bs.length → (readL f n r).2.2 = Option.none → Read bs r (readL f n r).2 (bytesL (readL f n r).1) ∧ SmallL (readL f n r).1 ∧ (readL f n r).1.length = n
  | 0, r, hr, h => ⟨Read.refl h hr, trivial, rfl⟩
  | n + 1, r, hr, h => by
    unfold readL at h ⊢
    by_cases hs : r.2.isSome = true
    · rw [if_pos hs] at h
      simp only at h
      rw [h] at hs
      simp at hs
    · rw [if_neg hs] at h ⊢
      simp only at h ⊢
      obtain ⟨h1, h2, h3⟩ := readL_read bs f hfp hf n (f r).2 (hfp r hr) h
      obtain ⟨h4, h5⟩ := hf r hr h1.1
      exact ⟨h4.trans h1, ⟨h5, h2⟩, by simp [h3]⟩

theorem kind_byte (k : Nat) (h : k < 256) : [UInt8.ofNat (uns (k : Int))] = leB k 1 := by
  have : uns (k : Int) = k := by unfold uns; omega
  simp [leB, this]

theorem readV_read (bs : List UInt8) : ∀ (room : Nat) (r : Rd), r.1 ≤ bs.length → (readV bs room r).2.2 = Option.none → Read bs r (readV bs room r).2 (bytesV (readV bs room r).1) ∧ SmallM (readV bs room r).1
  | 0, r, hr, h => by
    obtain ⟨a, b⟩ := r
    cases b <;> simp [readV, Rd.fail] at h
  | room + 1, r, hr, h => by
    have hp := numM_pos bs 1 r hr
    have e0 : ByteArray.empty.size = 0 := rfl
    unfold readV at h ⊢
    by_cases h1 : (numM bs 1 r).1 = 0 ∨ (numM bs 1 r).1 = 1 ∨ (numM bs 1 r).1 = 3
    · rw [if_pos h1] at h ⊢
      have hi := intM_read bs _ h
      obtain ⟨hn, hlt⟩ := numM_read bs 1 r hi.1
      refine ⟨?_, ⟨by rw [e0]; decide, trivial⟩⟩
      simp only
      rw [bytesV, kind_byte _ (by simpa using hlt), if_neg (by omega), if_neg (by omega)]
      exact hn.trans hi
    · rw [if_neg h1] at h ⊢
      by_cases h2 : (numM bs 1 r).1 = 2
      · rw [if_pos h2] at h ⊢
        obtain ⟨hi, hm⟩ := textM_read bs 4096 _ hp h
        obtain ⟨hn, hlt⟩ := numM_read bs 1 r hi.1
        refine ⟨?_, ⟨by omega, trivial⟩⟩
        simp only
        rw [bytesV, show ((2 : Int)) = ((2 : Nat) : Int) from rfl, kind_byte 2 (by decide), if_pos rfl]
        rw [h2] at hn
        exact hn.trans hi
      · rw [if_neg h2] at h ⊢
        by_cases h4 : (numM bs 1 r).1 = 4
        · rw [if_pos h4] at h ⊢
          have hq := manyM_pos bs 4096 _ hp
          obtain ⟨hi, hsm, hlen⟩ := readL_read bs _ (readV_pos bs room) (fun r hr h => readV_read bs room r hr h) _ _ hq.1 h
          obtain ⟨hm, hle⟩ := manyM_read bs 4096 _ hi.1
          obtain ⟨hn, hlt⟩ := numM_read bs 1 r hm.1
          refine ⟨?_, ⟨by rw [e0]; decide, hsm⟩⟩
          simp only
          rw [bytesV, show ((4 : Int)) = ((4 : Nat) : Int) from rfl, kind_byte 4 (by decide), if_neg (by decide), if_pos rfl, hlen]
          rw [h4] at hn
          exact hn.trans (hm.trans hi)
        · rw [if_neg h4] at h
          generalize (numM bs 1 r).2 = q at h
          obtain ⟨a, b⟩ := q
          cases b <;> simp [Rd.fail] at h

/-- what ReadValue gives without an error -/
theorem readM_read (bs : List UInt8) (h : (readM bs).2.2 = Option.none) : validM (readM bs).1 = Option.none ∧ SmallM (readM bs).1 ∧ 1 ≤ (readM bs).2.1 ∧ (readM bs).2.1 ≤ bs.length ∧ bytesV (readM bs).1 = bs.take (readM bs).2.1 := by
  unfold readM at h ⊢
  by_cases hs : (rightM bs (0, Option.none)).2.2.isSome = true
  · rw [if_pos hs] at h
    simp only at h
    rw [h] at hs
    simp at hs
  · rw [if_neg hs]
    simp only
    have hn : (rightM bs (0, Option.none)).2.2 = Option.none := by simpa using hs
    unfold rightM at hn ⊢
    by_cases he : (readV bs 40 (0, Option.none)).2.2.isSome = true
    · rw [if_pos he] at hn
      rw [hn] at he
      simp at he
    · rw [if_neg he] at hn ⊢
      have hv : (readV bs 40 (0, Option.none)).2.2 = Option.none := by simpa using he
      cases hq : validM (readV bs 40 (0, Option.none)).1 with
      | some g =>
        rw [hq] at hn
        simp only [Rd.fail, hv] at hn
        simp at hn
      | none =>
        simp only
        obtain ⟨⟨_, _, h1, h2⟩, h3⟩ := readV_read bs 40 (0, Option.none) (Nat.zero_le _) hv
        have h2 : bs.take (readV bs 40 (0, Option.none)).2.1 = bytesV (readV bs 40 (0, Option.none)).1 := by simpa using h2
        have h4 := bytesV_pos (readV bs 40 (0, Option.none)).1
        rw [← h2, List.length_take] at h4
        exact ⟨hq, h3, by omega, h1, h2.symm⟩
end Go.Proofs.YtmkghfkikclodaaDoor
