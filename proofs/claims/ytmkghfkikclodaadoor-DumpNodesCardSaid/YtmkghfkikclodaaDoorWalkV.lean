/- Is a value right? The program's walk. -/
import Derived.Test.YtmkghfkikclodaaDoorM03
set_option linter.unusedVariables false
set_option linter.unusedSimpArgs false
namespace Go.Proofs.YtmkghfkikclodaaDoor
open Go.RowKit

def cost (k : Int) (s : ByteArray) : Int := if k = 2 then s.size else 0

mutual
def walkM : Val → Int → Int → Except Nat Int
  | .mk k n s l, deep, left =>
    if 40 < deep then .error 0
    else if left ≤ cost k s then .error 1
    else match ownG k n s l.length with
      | some g => .error g
      | Option.none => walkL l (deep + 1) (left - (1 + cost k s))
def walkL : List Val → Int → Int → Except Nat Int
  | [], _, left => .ok left
  | x :: xs, deep, left => match walkM x deep left with
    | .error g => .error g
    | .ok left' => walkL xs deep left'
end

theorem walkM_eq (x : Val) (deep left : Int) : walkM x deep left = if 40 < deep then .error 0 else if left ≤ cost x.kind x.s then .error 1 else match ownG x.kind x.n x.s x.l.length with | some g => .error g | Option.none => walkL x.l (deep + 1) (left - (1 + cost x.kind x.s)) := by
  cases x; rfl

theorem cost_nonneg (k : Int) (s : ByteArray) : 0 ≤ cost k s := by unfold cost; split <;> omega

mutual
theorem walkM_le : ∀ (x : Val) (deep left left' : Int), walkM x deep left = .ok left' → left' ≤ left ∧ 0 ≤ left'
  | .mk k n s l, deep, left, left', h => by
    unfold walkM at h
    have hc := cost_nonneg k s
    split at h
    · cases h
    · split at h
      · cases h
      · cases ho : ownG k n s l.length with
        | some g => rw [ho] at h; cases h
        | none =>
          rw [ho] at h
          have := walkL_le l (deep + 1) (left - (1 + cost k s)) left' (by omega) h
          omega
theorem walkL_le : ∀ (l : List Val) (deep left left' : Int), 0 ≤ left → walkL l deep left = .ok left' → left' ≤ left ∧ 0 ≤ left'
  | [], _, left, left', h0, h => by unfold walkL at h; cases h; omega
  | x :: xs, deep, left, left', h0, h => by
    unfold walkL at h
    cases hx : walkM x deep left with
    | error g => rw [hx] at h; cases h
    | ok l1 =>
      rw [hx] at h
      have h1 := walkM_le x deep left l1 hx
      have h2 := walkL_le xs deep l1 left' h1.2 h
      omega
end

/-- block g holds one number -/
def NB (w : World) (g : Nat) (z : Int) : Prop := w.heap[g]? = some (.cells #[.int .i64 z] 3 (0, 0))
theorem NB.c {w : World} {g : Nat} {z : Int} (h : NB w g z) : w.cell? ⟨g, 0, none⟩ = some (.int .i64 z) := by rw [Joins.cell_of_block h]; rfl
theorem NB.fr {w : World} {g : Nat} {z : Int} (h : NB w g z) : w.frozen? ⟨g, 0, none⟩ = false := Joins.unfrozen_of_block h 0
theorem NB.lt {w : World} {g : Nat} {z : Int} (h : NB w g z) : g < w.heap.size := (Array.getElem?_eq_some_iff.1 h).1
theorem NB.set {w : World} {g : Nat} {z : Int} (h : NB w g z) (y : Int) : NB (w.setCell ⟨g, 0, none⟩ (.int .i64 y)) g y := by unfold NB; rw [Joins.block_setCell h]; rfl
theorem NB.below {w w' : World} {g B : Nat} {z : Int} (h : NB w g z) (hb : Below B w w') (hB : g < B) : NB w' g z := (hb.block g hB).trans h

def WalkOut (p : Nat → Addr) (bl : Nat) (W : World) (q : Except Nat Int) (e : Ending) (w' : World) : Prop :=
  ((∃ g, q = .error g ∧ e = .returned (errV p g)) ∨ (∃ left, q = .ok left ∧ e = .returned .nilIface ∧ NB w' bl left)) ∧ Bel bl W.heap.size W w'

set_option maxRecDepth 100000 in
set_option maxHeartbeats 2000000 in
theorem walk_any (p : Nat → Addr) (bl : Nat) (hbl : 5 ≤ bl) (m : Nat) : ∀ (x : Val) (deep left : Int) (a : Option Addr) (c : Nat) (w : World), SizeOf.sizeOf x ≤ m → 1 ≤ deep → deep ≤ 41 → 0 ≤ left → left ≤ 4096 → Fits x.kind x.n x.s x.l.length →
    RepSl (Lo bl) w a x.l → NB w bl left → Errs 5 p w →
    Calls Tryd.prog 39 #[.agg #[.int .i64 x.kind, .int .i64 x.n, .string x.s, .slice a x.l.length c], .int .i64 deep, .pointer (some ⟨bl, 0, none⟩)] w (WalkOut p bl w (walkM x deep left)) := by
  induction m with
  | zero => intro x deep left a c w h; cases x; simp at h
  | succ m ih =>
    intro x deep left a c w hm hd1 hd2 hl1 hl2 hf hR hN hE
    obtain ⟨k, n, s, l⟩ := x
    simp only [Val.kind, Val.n, Val.s, Val.l] at hf hR ⊢
    have HF := Lib.hid hf
    obtain ⟨f1, f2, f3, f4, f5, f6⟩ := hf
    have IH := Lib.hid ih
    clear ih
    have hb := hN.lt
    have hal := bal w (.cells #[.int .i64 k, .int .i64 n, .string s, .slice a l.length c] 24)
    have e0 := hE.below hal (by omega) 0 (by decide)
    have e1 := hE.below hal (by omega) 1 (by decide)
    have hn := (hN.below hal hb).c
    have hnf := (hN.below hal hb).fr
    have HA := Lib.hid (And.intro hR (And.intro hN hE))
    generalize hQ : walkM (.mk k n s l) deep left = Q
    have HW := Lib.hid hQ
    rw [walkM] at HW
    clear hQ hR hN hE hal
    by_cases hk : k = 2
    · subst hk

      have hC : cost 2 s = (s.size : Int) := by unfold cost; rw [if_pos rfl]
      rw [hC] at HW
      by_cases hd : 40 < deep
      · have HQ : Hid (Q = .error 0) := by show _ = _; rw [← HW.out, if_pos hd]
        clear HW
        unfold errV at e0
        go_enter Tryd.func39, Tryd.ntmps39
        go_wp2_with fail
        go_ret
        exact ⟨.inl ⟨0, HQ.out, rfl⟩, Bel.of (bal w _)⟩
      by_cases hl : left ≤ (s.size : Int)
      · have HQ : Hid (Q = .error 1) := by show _ = _; rw [← HW.out, if_neg hd, if_pos hl]
        clear HW
        unfold errV at e1
        go_enter Tryd.func39, Tryd.ntmps39
        go_wp2_with fail
        go_ret
        exact ⟨.inl ⟨1, HQ.out, rfl⟩, Bel.of (bal w _)⟩
      · rw [if_neg hd, if_neg hl] at HW
        have HO := Lib.hid fun (w' : World) (hE' : Errs 5 p w') (hw : 5 ≤ w'.heap.size) => own_any p 2 n s a l.length c w' hE' HF.out hw
        generalize ownG 2 n s l.length = og at HO HW
        have hD : left - (1 + (s.size : Int)) = (left - (1 + (s.size : Int))) := by omega
        rw [hD] at HW
        have hszD : (w.setCell ⟨bl, 0, none⟩ (.int .i64 (left - (1 + (s.size : Int))))).heap.size = w.heap.size := by simp [World.setCell]
        have HS := Lib.hid hszD
        clear hC hD hszD
        go_enter Tryd.func39, Tryd.ntmps39
        go_wp2_with fail
        obtain ⟨hR, hN, hE⟩ := HA.out
        have hB0 : Bel bl w.heap.size w (w.setCell ⟨bl, 0, none⟩ (.int .i64 (left - (1 + (s.size : Int))))) := (Bel.refl _ _ _).set 0 _
        have hB1 : Bel bl w.heap.size w ((w.setCell ⟨bl, 0, none⟩ (.int .i64 (left - (1 + (s.size : Int))))).alloc (.cells #[.int .i64 2, .int .i64 n, .string s, .slice a l.length c] 24)) := hB0.alloc (by rw [HS.out]; exact Nat.le_refl _) _
        have hN1 : NB ((w.setCell ⟨bl, 0, none⟩ (.int .i64 (left - (1 + (s.size : Int))))).alloc (.cells #[.int .i64 2, .int .i64 n, .string s, .slice a l.length c] 24)) bl (left - (1 + (s.size : Int))) := (hN.set (left - (1 + (s.size : Int)))).below (bal _ _) (by rw [HS.out]; exact hb)
        have hv : VB ((w.setCell ⟨bl, 0, none⟩ (.int .i64 (left - (1 + (s.size : Int))))).alloc (.cells #[.int .i64 2, .int .i64 n, .string s, .slice a l.length c] 24)) w.heap.size (.int .i64 2) (.int .i64 n) (.string s) (.slice a l.length c) := by
          have := VB.new (w.setCell ⟨bl, 0, none⟩ (.int .i64 (left - (1 + (s.size : Int))))) (.int .i64 2) (.int .i64 n) (.string s) (.slice a l.length c)
          rw [HS.out] at this
          exact this
        have hsz1 := hv.lt
        have hE1 := hE.bel hB1 (by omega) (by omega)
        refine (HO.out _ hE1 (by omega)).mono ?_
        rintro e w1 ⟨rfl, hB2⟩
        have hB3 : Bel bl w.heap.size w w1 := hB1.trans ((Bel.of hB2).mono (by omega))
        have hN3 := hN1.below hB2 (by omega)
        have hv3 := hv.below hB2 hsz1
        obtain ⟨c0, c1, c2, c3, -⟩ := hv3.all
        have HN3 := Lib.hid hN3
        have HB3 := Lib.hid hB3
        clear hR hN hE hB0 hB1 hN1 hv hE1 hB2 hN3 hv3 hsz1 hn hnf e0 e1
        cases og with
        | some g =>
          simp only [errO, errV]
          go_wp2_with fail
          go_ret
          exact ⟨.inl ⟨g, HW.out.symm, rfl⟩, hB3⟩
        | none =>
          simp only [errO]
          simp only at HW
          clear c0 c1 c2
          go_wp2_with fail
          clear c3
          go_loopw [42] (fun i wr => ∃ (kk : Nat) (lv : Int), kk ≤ l.length ∧ i = .int .i64 kk ∧ 0 ≤ lv ∧ lv ≤ 4096 ∧ NB wr bl lv ∧ Bel bl w.heap.size w wr ∧ Hid (Q = walkL (l.drop kk) (deep + 1) lv)) (fun i _ => l.length - (intOf i).toNat)
          case atStart => exact ⟨0, (left - (1 + (s.size : Int))), Nat.zero_le _, rfl, by omega, by omega, HN3.out, HB3.out, HW.out.symm⟩
          case round =>
            clear hB3
            obtain ⟨kk, lv, hkk, rfl, hlv1, hlv2, hNr, hBr, hQr⟩ := hrel
            by_cases hlt : kk < l.length
            · have hRr := HA.out.1.keep (fun k' hk' => hBr.block k' (by have : k' < bl := hk'; omega) (by have : k' < bl := hk'; omega)) (fun _ h => h)
              obtain ⟨b, o, rfl, hs, hat⟩ := hRr.item kk hlt
              obtain ⟨ff, a', c', g0, g1, g2, g3, hsub⟩ := repAt_iff.1 hat
              have hQ2 := hQr.out
              rw [List.drop_eq_getElem_cons hlt, walkL] at hQ2
              have hsize : SizeOf.sizeOf l[kk] < SizeOf.sizeOf (Val.mk 2 n s l) := sizeOf_item (Val.mk 2 n s l) kk hlt
              generalize l[kk] = y at ff g0 g1 g2 g3 hsub hQ2 hsize
              have hbr := hNr.lt
              have HC := Lib.hid fun (o : Obj) => IH.out y (deep + 1) lv a' c' (wr.alloc o) (by omega) (by omega) (by omega) hlv1 hlv2 ff (hsub.keep (fun k' hk' => (bal wr o).block k' (by have : k' < bl := hk'; omega)) (fun _ h => h)) (hNr.below (bal wr o) hbr) ((HA.out.2.2.bel hBr (by omega) (by omega)).below (bal wr o) (by omega))
              have hle := walkM_le y (deep + 1) lv
              generalize walkM y (deep + 1) lv = wy at HC hQ2 hle
              have HQ2 := Lib.hid hQ2
              have HLE := Lib.hid hle
              have hszr := hBr.size
              clear hQ2 hle hsub hat hRr ff hQr hNr
              go_wp2_with fail
              refine (HC.out _).mono ?_
              rintro e w2 ⟨(⟨g, hg, rfl⟩ | ⟨lv', hg, rfl, hN2⟩), hB2⟩
              · have HG := Lib.hid hg
                clear hg
                unfold errV
                go_wp2
                go_ret
                refine ⟨.inl ⟨g, ?_, rfl⟩, (hBr.alloc hszr _).trans (hB2.mono (by simp; omega))⟩
                rw [HQ2.out, HG.out]
              · have HG := Lib.hid hg
                have HN2 := Lib.hid hN2
                clear hg hN2
                go_wp2
                have h3 := HLE.out lv' HG.out
                go_roundw
                case rel => exact ⟨kk + 1, lv', by omega, by go_num, by omega, by omega, HN2.out, (hBr.alloc hszr _).trans (hB2.mono (by simp; omega)), by have h4 := HQ2.out; rw [HG.out] at h4; exact h4⟩
                case measure => simp [intOf]; omega
            · have hQ2 := hQr.out
              rw [List.drop_eq_nil_of_le (by omega), walkL] at hQ2
              have HQ2 := Lib.hid hQ2
              clear hQ2 hQr
              go_wp2
              go_ret
              exact ⟨.inr ⟨lv, HQ2.out, rfl, hNr⟩, hBr⟩
    · have hkb : (k == 2) = false := by simp [hk]

      have hC : cost k s = 0 := by unfold cost; rw [if_neg hk]
      rw [hC] at HW
      by_cases hd : 40 < deep
      · have HQ : Hid (Q = .error 0) := by show _ = _; rw [← HW.out, if_pos hd]
        clear HW
        unfold errV at e0
        go_enter Tryd.func39, Tryd.ntmps39
        go_wp2_with fail
        go_ret
        exact ⟨.inl ⟨0, HQ.out, rfl⟩, Bel.of (bal w _)⟩
      by_cases hl : left ≤ 0
      · have HQ : Hid (Q = .error 1) := by show _ = _; rw [← HW.out, if_neg hd, if_pos hl]
        clear HW
        unfold errV at e1
        go_enter Tryd.func39, Tryd.ntmps39
        go_wp2_with fail
        go_ret
        exact ⟨.inl ⟨1, HQ.out, rfl⟩, Bel.of (bal w _)⟩
      · rw [if_neg hd, if_neg hl] at HW
        have HO := Lib.hid fun (w' : World) (hE' : Errs 5 p w') (hw : 5 ≤ w'.heap.size) => own_any p k n s a l.length c w' hE' HF.out hw
        generalize ownG k n s l.length = og at HO HW
        have hD : left - (1 + 0) = (left - 1) := by omega
        rw [hD] at HW
        have hszD : (w.setCell ⟨bl, 0, none⟩ (.int .i64 (left - 1))).heap.size = w.heap.size := by simp [World.setCell]
        have HS := Lib.hid hszD
        clear hC hD hszD
        go_enter Tryd.func39, Tryd.ntmps39
        go_wp2_with fail
        obtain ⟨hR, hN, hE⟩ := HA.out
        have hB0 : Bel bl w.heap.size w (w.setCell ⟨bl, 0, none⟩ (.int .i64 (left - 1))) := (Bel.refl _ _ _).set 0 _
        have hB1 : Bel bl w.heap.size w ((w.setCell ⟨bl, 0, none⟩ (.int .i64 (left - 1))).alloc (.cells #[.int .i64 k, .int .i64 n, .string s, .slice a l.length c] 24)) := hB0.alloc (by rw [HS.out]; exact Nat.le_refl _) _
        have hN1 : NB ((w.setCell ⟨bl, 0, none⟩ (.int .i64 (left - 1))).alloc (.cells #[.int .i64 k, .int .i64 n, .string s, .slice a l.length c] 24)) bl (left - 1) := (hN.set (left - 1)).below (bal _ _) (by rw [HS.out]; exact hb)
        have hv : VB ((w.setCell ⟨bl, 0, none⟩ (.int .i64 (left - 1))).alloc (.cells #[.int .i64 k, .int .i64 n, .string s, .slice a l.length c] 24)) w.heap.size (.int .i64 k) (.int .i64 n) (.string s) (.slice a l.length c) := by
          have := VB.new (w.setCell ⟨bl, 0, none⟩ (.int .i64 (left - 1))) (.int .i64 k) (.int .i64 n) (.string s) (.slice a l.length c)
          rw [HS.out] at this
          exact this
        have hsz1 := hv.lt
        have hE1 := hE.bel hB1 (by omega) (by omega)
        refine (HO.out _ hE1 (by omega)).mono ?_
        rintro e w1 ⟨rfl, hB2⟩
        have hB3 : Bel bl w.heap.size w w1 := hB1.trans ((Bel.of hB2).mono (by omega))
        have hN3 := hN1.below hB2 (by omega)
        have hv3 := hv.below hB2 hsz1
        obtain ⟨c0, c1, c2, c3, -⟩ := hv3.all
        have HN3 := Lib.hid hN3
        have HB3 := Lib.hid hB3
        clear hR hN hE hB0 hB1 hN1 hv hE1 hB2 hN3 hv3 hsz1 hn hnf e0 e1
        cases og with
        | some g =>
          simp only [errO, errV]
          go_wp2_with fail
          go_ret
          exact ⟨.inl ⟨g, HW.out.symm, rfl⟩, hB3⟩
        | none =>
          simp only [errO]
          simp only at HW
          clear c0 c1 c2
          go_wp2_with fail
          clear c3
          go_loopw [42] (fun i wr => ∃ (kk : Nat) (lv : Int), kk ≤ l.length ∧ i = .int .i64 kk ∧ 0 ≤ lv ∧ lv ≤ 4096 ∧ NB wr bl lv ∧ Bel bl w.heap.size w wr ∧ Hid (Q = walkL (l.drop kk) (deep + 1) lv)) (fun i _ => l.length - (intOf i).toNat)
          case atStart => exact ⟨0, (left - 1), Nat.zero_le _, rfl, by omega, by omega, HN3.out, HB3.out, HW.out.symm⟩
          case round =>
            clear hB3
            obtain ⟨kk, lv, hkk, rfl, hlv1, hlv2, hNr, hBr, hQr⟩ := hrel
            by_cases hlt : kk < l.length
            · have hRr := HA.out.1.keep (fun k' hk' => hBr.block k' (by have : k' < bl := hk'; omega) (by have : k' < bl := hk'; omega)) (fun _ h => h)
              obtain ⟨b, o, rfl, hs, hat⟩ := hRr.item kk hlt
              obtain ⟨ff, a', c', g0, g1, g2, g3, hsub⟩ := repAt_iff.1 hat
              have hQ2 := hQr.out
              rw [List.drop_eq_getElem_cons hlt, walkL] at hQ2
              have hsize : SizeOf.sizeOf l[kk] < SizeOf.sizeOf (Val.mk k n s l) := sizeOf_item (Val.mk k n s l) kk hlt
              generalize l[kk] = y at ff g0 g1 g2 g3 hsub hQ2 hsize
              have hbr := hNr.lt
              have HC := Lib.hid fun (o : Obj) => IH.out y (deep + 1) lv a' c' (wr.alloc o) (by omega) (by omega) (by omega) hlv1 hlv2 ff (hsub.keep (fun k' hk' => (bal wr o).block k' (by have : k' < bl := hk'; omega)) (fun _ h => h)) (hNr.below (bal wr o) hbr) ((HA.out.2.2.bel hBr (by omega) (by omega)).below (bal wr o) (by omega))
              have hle := walkM_le y (deep + 1) lv
              generalize walkM y (deep + 1) lv = wy at HC hQ2 hle
              have HQ2 := Lib.hid hQ2
              have HLE := Lib.hid hle
              have hszr := hBr.size
              clear hQ2 hle hsub hat hRr ff hQr hNr
              go_wp2_with fail
              refine (HC.out _).mono ?_
              rintro e w2 ⟨(⟨g, hg, rfl⟩ | ⟨lv', hg, rfl, hN2⟩), hB2⟩
              · have HG := Lib.hid hg
                clear hg
                unfold errV
                go_wp2
                go_ret
                refine ⟨.inl ⟨g, ?_, rfl⟩, (hBr.alloc hszr _).trans (hB2.mono (by simp; omega))⟩
                rw [HQ2.out, HG.out]
              · have HG := Lib.hid hg
                have HN2 := Lib.hid hN2
                clear hg hN2
                go_wp2
                have h3 := HLE.out lv' HG.out
                go_roundw
                case rel => exact ⟨kk + 1, lv', by omega, by go_num, by omega, by omega, HN2.out, (hBr.alloc hszr _).trans (hB2.mono (by simp; omega)), by have h4 := HQ2.out; rw [HG.out] at h4; exact h4⟩
                case measure => simp [intOf]; omega
            · have hQ2 := hQr.out
              rw [List.drop_eq_nil_of_le (by omega), walkL] at hQ2
              have HQ2 := Lib.hid hQ2
              clear hQ2 hQr
              go_wp2
              go_ret
              exact ⟨.inr ⟨lv, HQ2.out, rfl, hNr⟩, hBr⟩
end Go.Proofs.YtmkghfkikclodaaDoor
