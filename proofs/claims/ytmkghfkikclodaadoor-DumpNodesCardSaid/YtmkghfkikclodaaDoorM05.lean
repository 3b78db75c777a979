/- What is amiss with a value: the document's walk. The writer lays numbers, texts, values. -/
import Derived.Test.YtmkghfkikclodaaDoorWalkV
import Derived.Deep.CutRange
set_option linter.unusedVariables false
set_option linter.unusedSimpArgs false
namespace Go.Proofs.YtmkghfkikclodaaDoor
open Go.RowKit

/-- the document's number of the error that variable g holds -/
def codeOf (g : Nat) : Int := if g = 0 then 112 else if g = 1 then 104 else if g = 3 then 105 else 103

/-- block g holds how much was counted -/
def OB (w : World) (g : Nat) (z : Int) : Prop := w.heap[g]? = some (.cells #[.int .i64 z] 79 (0, 0))
theorem OB.c {w : World} {g : Nat} {z : Int} (h : OB w g z) : w.cell? ⟨g, 0, none⟩ = some (.int .i64 z) := by rw [Joins.cell_of_block h]; rfl
theorem OB.fr {w : World} {g : Nat} {z : Int} (h : OB w g z) : w.frozen? ⟨g, 0, none⟩ = false := Joins.unfrozen_of_block h 0
theorem OB.lt {w : World} {g : Nat} {z : Int} (h : OB w g z) : g < w.heap.size := (Array.getElem?_eq_some_iff.1 h).1
theorem OB.set {w : World} {g : Nat} {z : Int} (h : OB w g z) (y : Int) : OB (w.setCell ⟨g, 0, none⟩ (.int .i64 y)) g y := by unfold OB; rw [Joins.block_setCell h]; rfl
theorem OB.below {w w' : World} {g B : Nat} {z : Int} (h : OB w g z) (hb : Below B w w') (hB : g < B) : OB w' g z := (hb.block g hB).trans h

def OddOut (bl : Nat) (W : World) (q : Except Nat Int) (e : Ending) (w' : World) : Prop :=
  ((∃ g, q = .error g ∧ e = .returned (.int .i64 (codeOf g))) ∨ (∃ left, q = .ok left ∧ e = .returned (.int .i64 0) ∧ OB w' bl (4096 - left))) ∧ Bel bl W.heap.size W w'

mutual
/-- strings that are not great -/
def SmallM : Val → Prop
  | .mk _ _ s l => s.size ≤ 1000000 ∧ SmallL l
def SmallL : List Val → Prop
  | [] => True
  | x :: xs => SmallM x ∧ SmallL xs
end
theorem smallL_get : ∀ {l : List Val}, SmallL l → ∀ (i : Nat) (h : i < l.length), SmallM l[i]
  | _ :: _, h, 0, _ => h.1
  | _ :: _, h, i + 1, hi => smallL_get h.2 i (by simpa using hi)

/-- within odd: what was counted, the value's own block -/
def OSt (bl : Nat) (W : World) (k n : Int) (s : ByteArray) (a : Option Addr) (len c : Nat) (size : Int) (wx : World) : Prop :=
  OB wx bl size ∧ VB wx W.heap.size (.int .i64 k) (.int .i64 n) (.string s) (.slice a len c) ∧ Bel bl W.heap.size W wx

theorem OSt.start {bl : Nat} {w : World} {k n : Int} {s : ByteArray} {a : Option Addr} {len c : Nat} {z : Int} (h : OB w bl z) (size : Int) :
    OSt bl w k n s a len c size ((w.setCell ⟨bl, 0, none⟩ (.int .i64 size)).alloc (.cells #[.int .i64 k, .int .i64 n, .string s, .slice a len c] 24)) := by
  have hsz : (w.setCell ⟨bl, 0, none⟩ (.int .i64 size)).heap.size = w.heap.size := by simp [World.setCell]
  refine ⟨(h.set size).below (bal _ _) (by rw [hsz]; exact h.lt), ?_, ((Bel.refl _ _ _).set 0 _).alloc (by rw [hsz]; exact Nat.le_refl _) _⟩
  have := VB.new (w.setCell ⟨bl, 0, none⟩ (.int .i64 size)) (.int .i64 k) (.int .i64 n) (.string s) (.slice a len c)
  rw [hsz] at this
  exact this

theorem OSt.drew {bl : Nat} {W wx : World} {k n : Int} {s : ByteArray} {a : Option Addr} {len c : Nat} {z : Int} (h : OSt bl W k n s a len c z wx) : OSt bl W k n s a len c z wx.drew :=
  ⟨h.1, h.2.1, ⟨h.2.2.os, h.2.2.tape, h.2.2.output, h.2.2.size, h.2.2.block⟩⟩

theorem OSt.again {bl : Nat} {w : World} {k n : Int} {s : ByteArray} {a : Option Addr} {len c : Nat} {z : Int} (h : OB w bl z) (y size : Int) :
    OSt bl w k n s a len c size (((w.setCell ⟨bl, 0, none⟩ (.int .i64 y)).setCell ⟨bl, 0, none⟩ (.int .i64 size)).alloc (.cells #[.int .i64 k, .int .i64 n, .string s, .slice a len c] 24)) := by
  have hsz : (w.setCell ⟨bl, 0, none⟩ (.int .i64 y)).heap.size = w.heap.size := by simp [World.setCell]
  have := OSt.start (k := k) (n := n) (s := s) (a := a) (len := len) (c := c) (h.set y) size
  obtain ⟨h1, h2, h3⟩ := this
  rw [hsz] at h2 h3
  exact ⟨h1, h2, ((Bel.refl _ _ _).set 0 _).trans h3⟩

theorem OSt.below {bl : Nat} {W wx w1 : World} {k n : Int} {s : ByteArray} {a : Option Addr} {len c : Nat} {z : Int} (h : OSt bl W k n s a len c z wx) (hb : Below wx.heap.size wx w1) : OSt bl W k n s a len c z w1 :=
  ⟨h.1.below hb h.1.lt, h.2.1.below hb h.2.1.lt, h.2.2.trans ((Bel.of hb).mono h.2.2.size)⟩
theorem OSt.bel {bl : Nat} {W wx w1 : World} {k n : Int} {s : ByteArray} {a : Option Addr} {len c : Nat} {z z' : Int} (h : OSt bl W k n s a len c z wx) (h' : OB w1 bl z') (hn : bl < W.heap.size) (hb : Bel bl wx.heap.size wx w1) : OSt bl W k n s a len c z' w1 :=
  ⟨h', h.2.1.bel hb h.2.1.lt (by omega), h.2.2.trans (hb.mono h.2.2.size)⟩

set_option maxRecDepth 100000 in
set_option maxHeartbeats 4000000 in
theorem odd_any (bl : Nat) (m : Nat) : ∀ (x : Val) (deep left : Int) (a : Option Addr) (c : Nat) (w : World), SizeOf.sizeOf x ≤ m → 1 ≤ deep → deep ≤ 41 → 0 ≤ left → left ≤ 4096 → Fits x.kind x.n x.s x.l.length → SmallM x →
    RepSl (Lo bl) w a x.l → OB w bl (4096 - left) →
    Calls Tryd.prog 43 #[.pointer (some ⟨bl, 0, none⟩), .agg #[.int .i64 x.kind, .int .i64 x.n, .string x.s, .slice a x.l.length c], .int .i64 deep] w (OddOut bl w (walkM x deep left)) := by
  induction m with
  | zero => intro x deep left a c w h; cases x; simp at h
  | succ m ih =>
    intro x deep left a c w hm hd1 hd2 hl1 hl2 hf hsm hR hN
    obtain ⟨k, n, s, l⟩ := x
    simp only [Val.kind, Val.n, Val.s, Val.l] at hf hR ⊢
    have hss : (s.size : Int) ≤ 1000000 := by have := hsm.1; omega
    have HSM := Lib.hid hsm.2
    clear hsm
    have HF := Lib.hid hf
    obtain ⟨f1, f2, f3, f4, f5, f6⟩ := hf
    have IH := Lib.hid ih
    clear ih
    have hb := hN.lt
    have hal := bal w (.cells #[.int .i64 k, .int .i64 n, .string s, .slice a l.length c] 24)
    have hn := (hN.below hal hb).c
    have hnf := (hN.below hal hb).fr
    have HA := Lib.hid (And.intro hR hN)
    have hn1 := (hN.set (4096 - left + 1)).c
    have hnf1 := (hN.set (4096 - left + 1)).fr
    generalize hQ : walkM (.mk k n s l) deep left = Q
    have HW := Lib.hid hQ
    rw [walkM] at HW
    clear hQ hR hN hal
    by_cases hd : 40 < deep
    · have HQ : Hid (Q = .error 0) := by show _ = _; rw [← HW.out, if_pos hd]
      clear HW
      go_enter Tryd.func43, Tryd.ntmps43
      go_wp2_with fail
      go_ret
      exact ⟨.inl ⟨0, HQ.out, rfl⟩, Bel.of (bal w _)⟩
    rw [if_neg hd] at HW
    go_enter Tryd.func43, Tryd.ntmps43
    go_upto_if 23 with fail
    go_cut [23] from 24 to 34 (fun t23 wx => t23 = .bool (k == 2) ∧ OSt bl w k n s a l.length c (4096 - left + 1 + cost k s) wx)
    case first =>
      by_cases hk : k = 2
      · subst hk
        go_wp2_with fail
        go_region
        all_goals go_wp2_with fail
        all_goals go_meet
        all_goals
          have h0 := OSt.again (k := 2) (n := n) (s := s) (a := a) (len := l.length) (c := c) HA.out.2 (4096 - left + 1) (4096 - left + 1 + s.size)
          rw [show cost 2 s = s.size by unfold cost; rw [if_pos rfl]]
          first | exact ⟨rfl, h0⟩ | exact ⟨rfl, h0.drew⟩
      · have hkb : (k == 2) = false := by simp [hk]
        go_wp2_with fail
        all_goals go_meet
        all_goals
          have h0 := OSt.start (k := k) (n := n) (s := s) (a := a) (len := l.length) (c := c) HA.out.2 (4096 - left + 1)
          rw [show cost k s = 0 by unfold cost; rw [if_neg hk], Int.add_zero]
          first | exact ⟨by rw [hkb], h0⟩ | exact ⟨by rw [hkb], h0.drew⟩
    case rest =>
      obtain ⟨rfl, hst⟩ := hcut
      have hb0 := hst.1.c
      obtain ⟨c0, c1, c2, c3, -⟩ := hst.2.1.all
      have hco : 0 ≤ cost k s ∧ cost k s ≤ 1000000 := ⟨cost_nonneg k s, by unfold cost; split <;> omega⟩
      generalize cost k s = co at hst hb0 HW hco
      obtain ⟨hco1, hco2⟩ := hco
      have HST := Lib.hid hst
      clear hst hn hnf hn1 hnf1
      by_cases hl : left ≤ co
      · have HQ : Hid (Q = .error 1) := by show _ = _; rw [← HW.out, if_pos hl]
        clear HW
        go_wp2_with fail
        go_ret
        exact ⟨.inl ⟨1, HQ.out, rfl⟩, HST.out.2.2⟩
      rw [if_neg hl] at HW
      have hcases : k < 0 ∨ 4 < k ∨ (k = 1 ∧ n < -2147483648) ∨ (k = 1 ∧ 2147483647 < n) ∨ (k = 3 ∧ n < 0) ∨ (k = 3 ∧ 14 < n) ∨ (k = 2 ∧ ¬ n = 0) ∨ (k = 4 ∧ ¬ n = 0) ∨ k = 0 ∨ (k = 1 ∧ -2147483648 ≤ n ∧ n ≤ 2147483647) ∨ (k = 2 ∧ n = 0) ∨ (k = 3 ∧ 0 ≤ n ∧ n ≤ 14) ∨ (k = 4 ∧ n = 0) := by omega
      have HP := Lib.hid fun (w' : World) => printed_any s w' (by omega)
      rcases hcases with hk | hk | ⟨rfl, hk⟩ | ⟨rfl, hk⟩ | ⟨rfl, hk⟩ | ⟨rfl, hk⟩ | ⟨rfl, hk⟩ | ⟨rfl, hk⟩ | hk
      · have hq : ownG k n s l.length = some 3 := by unfold ownG; rw [if_pos (by omega)]
        rw [hq] at HW
        clear hq c1 c2 c3
        go_wp2_with fail
        go_ret
        exact ⟨.inl ⟨3, HW.out.symm, rfl⟩, HST.out.2.2⟩
      · have hq : ownG k n s l.length = some 3 := by unfold ownG; rw [if_pos (by omega)]
        rw [hq] at HW
        clear hq c1 c2 c3
        go_wp2_with fail
        go_ret
        exact ⟨.inl ⟨3, HW.out.symm, rfl⟩, HST.out.2.2⟩
      · have hq : ownG 1 n s l.length = some 3 := by unfold ownG; rw [if_neg (by omega), if_pos (by omega)]
        rw [hq] at HW
        clear hq c2 c3
        go_wp2_with fail
        go_ret
        exact ⟨.inl ⟨3, HW.out.symm, rfl⟩, HST.out.2.2⟩
      · have hq : ownG 1 n s l.length = some 3 := by unfold ownG; rw [if_neg (by omega), if_pos (by omega)]
        rw [hq] at HW
        clear hq c2 c3
        go_wp2_with fail
        go_ret
        exact ⟨.inl ⟨3, HW.out.symm, rfl⟩, HST.out.2.2⟩
      · have hq : ownG 3 n s l.length = some 3 := by unfold ownG; rw [if_neg (by omega), if_pos (by omega)]
        rw [hq] at HW
        clear hq c2 c3
        go_wp2_with fail
        go_ret
        exact ⟨.inl ⟨3, HW.out.symm, rfl⟩, HST.out.2.2⟩
      · have hq : ownG 3 n s l.length = some 3 := by unfold ownG; rw [if_neg (by omega), if_pos (by omega)]
        rw [hq] at HW
        clear hq c2 c3
        go_wp2_with fail
        go_ret
        exact ⟨.inl ⟨3, HW.out.symm, rfl⟩, HST.out.2.2⟩
      · have hq : ownG 2 n s l.length = some 2 := by unfold ownG; rw [if_neg (by omega), if_neg (by omega), if_pos (by omega)]
        have hnb : (n != 0) = true := by simp [hk]
        rw [hq] at HW
        clear hq c2 c3
        go_wp2_with fail
        go_ret
        exact ⟨.inl ⟨2, HW.out.symm, rfl⟩, HST.out.2.2⟩
      · have hq : ownG 4 n s l.length = some 2 := by unfold ownG; rw [if_neg (by omega), if_neg (by omega), if_pos (by omega)]
        have hnb : (n != 0) = true := by simp [hk]
        rw [hq] at HW
        clear hq c2 c3
        go_wp2_with fail
        go_ret
        exact ⟨.inl ⟨2, HW.out.symm, rfl⟩, HST.out.2.2⟩
      rcases hk with rfl | ⟨rfl, hk1, hk2⟩ | ⟨rfl, rfl⟩ | ⟨rfl, hk1, hk2⟩ | ⟨rfl, rfl⟩
      · cases l with
        | cons y ys =>
          have hq : ownG 0 n s (y :: ys).length = some 2 := by (unfold ownG; rw [if_neg (by omega), if_neg (by omega), if_pos (by simp)])
          rw [hq] at HW
          clear hq
          go_wp2_with fail
          all_goals
            try go_wp2_with fail
            go_ret
            exact ⟨.inl ⟨2, HW.out.symm, rfl⟩, HST.out.2.2⟩
        | nil =>
          simp only [List.length_nil] at *
          go_wp2_with fail
          all_goals first
            | (go_ret
               try have hz := mt (toList_nil s).2 (by assumption)
               have hq : ownG 0 n s 0 = some 2 := by (unfold ownG; rw [if_neg (by omega), if_neg (by omega), if_pos (by omega)])
               rw [hq] at HW
               exact ⟨.inl ⟨2, HW.out.symm, rfl⟩, HST.out.2.2⟩)
            | (refine (HP.out _).mono ?_
               rintro e w1 ⟨rfl, hB1⟩
               try have hz := (toList_nil s).1 (by assumption)
               have hq : ownG 0 n s 0 = if printed s = true then Option.none else some 2 := by (unfold ownG; rw [if_neg (by omega), if_neg (by omega), if_neg (by omega)])
               rw [hq] at HW
               have HST1 := Lib.hid (HST.out.below hB1)
               have c3 := HST1.out.2.1.c3
               clear hB1 hq HST c1 c2
               cases hpr : printed s
               all_goals rw [hpr] at HW
               · go_wp2_with fail
                 go_ret
                 exact ⟨.inl ⟨2, HW.out.symm, rfl⟩, HST1.out.2.2⟩
               · clear hpr
                 simp only [if_true] at HW
                 go_wp2_with fail
                 clear c3
                 go_loopw [9] (fun i wr => ∃ (j : Nat) (lv : Int), j ≤ 0 ∧ i = .int .i64 j ∧ 0 ≤ lv ∧ lv ≤ 4096 ∧ OSt bl w 0 n s a 0 c (4096 - lv) wr ∧ Hid (Q = walkL (([] : List Val).drop j) (deep + 1) lv)) (fun i _ => 0)
                 case atStart => exact ⟨0, left - (1 + co), Nat.zero_le _, rfl, by omega, by omega, by have h0 := HST1.out; rw [show 4096 - left + 1 + co = 4096 - (left - (1 + co)) by omega] at h0; exact h0, HW.out.symm⟩
                 case round =>
                   obtain ⟨j, lv, hj, rfl, hlv1, hlv2, hst, hQr⟩ := hrel
                   have c3 := hst.2.1.c3
                   have HS2 := Lib.hid hst
                   clear HST1
                   by_cases hlt : j < ([] : List Val).length
                   · simp at hlt
                   · have hQ2 := hQr.out
                     rw [List.drop_eq_nil_of_le (by first | omega | (simp only [List.length_nil]; omega)), walkL] at hQ2
                     have HQ2 := Lib.hid hQ2
                     clear hQ2 hQr hst HW
                     go_wp2_with fail
                     go_ret
                     exact ⟨.inr ⟨lv, HQ2.out, rfl, HS2.out.1⟩, HS2.out.2.2⟩)
      · cases l with
        | cons y ys =>
          have hq : ownG 1 n s (y :: ys).length = some 2 := by (unfold ownG; rw [if_neg (by omega), if_neg (by omega), if_pos (by simp)])
          rw [hq] at HW
          clear hq
          go_wp2_with fail
          all_goals
            try go_wp2_with fail
            go_ret
            exact ⟨.inl ⟨2, HW.out.symm, rfl⟩, HST.out.2.2⟩
        | nil =>
          simp only [List.length_nil] at *
          go_wp2_with fail
          all_goals first
            | (go_ret
               try have hz := mt (toList_nil s).2 (by assumption)
               have hq : ownG 1 n s 0 = some 2 := by (unfold ownG; rw [if_neg (by omega), if_neg (by omega), if_pos (by omega)])
               rw [hq] at HW
               exact ⟨.inl ⟨2, HW.out.symm, rfl⟩, HST.out.2.2⟩)
            | (refine (HP.out _).mono ?_
               rintro e w1 ⟨rfl, hB1⟩
               try have hz := (toList_nil s).1 (by assumption)
               have hq : ownG 1 n s 0 = if printed s = true then Option.none else some 2 := by (unfold ownG; rw [if_neg (by omega), if_neg (by omega), if_neg (by omega)])
               rw [hq] at HW
               have HST1 := Lib.hid (HST.out.below hB1)
               have c3 := HST1.out.2.1.c3
               clear hB1 hq HST c1 c2
               cases hpr : printed s
               all_goals rw [hpr] at HW
               · go_wp2_with fail
                 go_ret
                 exact ⟨.inl ⟨2, HW.out.symm, rfl⟩, HST1.out.2.2⟩
               · clear hpr
                 simp only [if_true] at HW
                 go_wp2_with fail
                 clear c3
                 go_loopw [9] (fun i wr => ∃ (j : Nat) (lv : Int), j ≤ 0 ∧ i = .int .i64 j ∧ 0 ≤ lv ∧ lv ≤ 4096 ∧ OSt bl w 1 n s a 0 c (4096 - lv) wr ∧ Hid (Q = walkL (([] : List Val).drop j) (deep + 1) lv)) (fun i _ => 0)
                 case atStart => exact ⟨0, left - (1 + co), Nat.zero_le _, rfl, by omega, by omega, by have h0 := HST1.out; rw [show 4096 - left + 1 + co = 4096 - (left - (1 + co)) by omega] at h0; exact h0, HW.out.symm⟩
                 case round =>
                   obtain ⟨j, lv, hj, rfl, hlv1, hlv2, hst, hQr⟩ := hrel
                   have c3 := hst.2.1.c3
                   have HS2 := Lib.hid hst
                   clear HST1
                   by_cases hlt : j < ([] : List Val).length
                   · simp at hlt
                   · have hQ2 := hQr.out
                     rw [List.drop_eq_nil_of_le (by first | omega | (simp only [List.length_nil]; omega)), walkL] at hQ2
                     have HQ2 := Lib.hid hQ2
                     clear hQ2 hQr hst HW
                     go_wp2_with fail
                     go_ret
                     exact ⟨.inr ⟨lv, HQ2.out, rfl, HS2.out.1⟩, HS2.out.2.2⟩)
      · cases l with
        | cons y ys =>
          have hq : ownG 2 0 s (y :: ys).length = some 2 := by (unfold ownG; rw [if_neg (by omega), if_neg (by omega), if_pos (by simp)])
          rw [hq] at HW
          clear hq
          go_wp2_with fail
          all_goals
            try go_wp2_with fail
            go_ret
            exact ⟨.inl ⟨2, HW.out.symm, rfl⟩, HST.out.2.2⟩
        | nil =>
          simp only [List.length_nil] at *
          go_wp2_with fail
          all_goals first
            | (go_ret
               try have hz := mt (toList_nil s).2 (by assumption)
               have hq : ownG 2 0 s 0 = some 2 := by (unfold ownG; rw [if_neg (by omega), if_neg (by omega), if_pos (by omega)])
               rw [hq] at HW
               exact ⟨.inl ⟨2, HW.out.symm, rfl⟩, HST.out.2.2⟩)
            | (refine (HP.out _).mono ?_
               rintro e w1 ⟨rfl, hB1⟩
               try have hz := (toList_nil s).1 (by assumption)
               have hq : ownG 2 0 s 0 = if printed s = true then Option.none else some 2 := by (unfold ownG; rw [if_neg (by omega), if_neg (by omega), if_neg (by omega)])
               rw [hq] at HW
               have HST1 := Lib.hid (HST.out.below hB1)
               have c3 := HST1.out.2.1.c3
               clear hB1 hq HST c1 c2
               cases hpr : printed s
               all_goals rw [hpr] at HW
               · go_wp2_with fail
                 go_ret
                 exact ⟨.inl ⟨2, HW.out.symm, rfl⟩, HST1.out.2.2⟩
               · clear hpr
                 simp only [if_true] at HW
                 go_wp2_with fail
                 clear c3
                 go_loopw [9] (fun i wr => ∃ (j : Nat) (lv : Int), j ≤ 0 ∧ i = .int .i64 j ∧ 0 ≤ lv ∧ lv ≤ 4096 ∧ OSt bl w 2 0 s a 0 c (4096 - lv) wr ∧ Hid (Q = walkL (([] : List Val).drop j) (deep + 1) lv)) (fun i _ => 0)
                 case atStart => exact ⟨0, left - (1 + co), Nat.zero_le _, rfl, by omega, by omega, by have h0 := HST1.out; rw [show 4096 - left + 1 + co = 4096 - (left - (1 + co)) by omega] at h0; exact h0, HW.out.symm⟩
                 case round =>
                   obtain ⟨j, lv, hj, rfl, hlv1, hlv2, hst, hQr⟩ := hrel
                   have c3 := hst.2.1.c3
                   have HS2 := Lib.hid hst
                   clear HST1
                   by_cases hlt : j < ([] : List Val).length
                   · simp at hlt
                   · have hQ2 := hQr.out
                     rw [List.drop_eq_nil_of_le (by first | omega | (simp only [List.length_nil]; omega)), walkL] at hQ2
                     have HQ2 := Lib.hid hQ2
                     clear hQ2 hQr hst HW
                     go_wp2_with fail
                     go_ret
                     exact ⟨.inr ⟨lv, HQ2.out, rfl, HS2.out.1⟩, HS2.out.2.2⟩)
      · cases l with
        | cons y ys =>
          have hq : ownG 3 n s (y :: ys).length = some 2 := by (unfold ownG; rw [if_neg (by omega), if_neg (by omega), if_pos (by simp)])
          rw [hq] at HW
          clear hq
          go_wp2_with fail
          all_goals
            try go_wp2_with fail
            go_ret
            exact ⟨.inl ⟨2, HW.out.symm, rfl⟩, HST.out.2.2⟩
        | nil =>
          simp only [List.length_nil] at *
          go_wp2_with fail
          all_goals first
            | (go_ret
               try have hz := mt (toList_nil s).2 (by assumption)
               have hq : ownG 3 n s 0 = some 2 := by (unfold ownG; rw [if_neg (by omega), if_neg (by omega), if_pos (by omega)])
               rw [hq] at HW
               exact ⟨.inl ⟨2, HW.out.symm, rfl⟩, HST.out.2.2⟩)
            | (refine (HP.out _).mono ?_
               rintro e w1 ⟨rfl, hB1⟩
               try have hz := (toList_nil s).1 (by assumption)
               have hq : ownG 3 n s 0 = if printed s = true then Option.none else some 2 := by (unfold ownG; rw [if_neg (by omega), if_neg (by omega), if_neg (by omega)])
               rw [hq] at HW
               have HST1 := Lib.hid (HST.out.below hB1)
               have c3 := HST1.out.2.1.c3
               clear hB1 hq HST c1 c2
               cases hpr : printed s
               all_goals rw [hpr] at HW
               · go_wp2_with fail
                 go_ret
                 exact ⟨.inl ⟨2, HW.out.symm, rfl⟩, HST1.out.2.2⟩
               · clear hpr
                 simp only [if_true] at HW
                 go_wp2_with fail
                 clear c3
                 go_loopw [9] (fun i wr => ∃ (j : Nat) (lv : Int), j ≤ 0 ∧ i = .int .i64 j ∧ 0 ≤ lv ∧ lv ≤ 4096 ∧ OSt bl w 3 n s a 0 c (4096 - lv) wr ∧ Hid (Q = walkL (([] : List Val).drop j) (deep + 1) lv)) (fun i _ => 0)
                 case atStart => exact ⟨0, left - (1 + co), Nat.zero_le _, rfl, by omega, by omega, by have h0 := HST1.out; rw [show 4096 - left + 1 + co = 4096 - (left - (1 + co)) by omega] at h0; exact h0, HW.out.symm⟩
                 case round =>
                   obtain ⟨j, lv, hj, rfl, hlv1, hlv2, hst, hQr⟩ := hrel
                   have c3 := hst.2.1.c3
                   have HS2 := Lib.hid hst
                   clear HST1
                   by_cases hlt : j < ([] : List Val).length
                   · simp at hlt
                   · have hQ2 := hQr.out
                     rw [List.drop_eq_nil_of_le (by first | omega | (simp only [List.length_nil]; omega)), walkL] at hQ2
                     have HQ2 := Lib.hid hQ2
                     clear hQ2 hQr hst HW
                     go_wp2_with fail
                     go_ret
                     exact ⟨.inr ⟨lv, HQ2.out, rfl, HS2.out.1⟩, HS2.out.2.2⟩)
      · go_wp2_with fail
        all_goals first
          | (go_ret
             try have hz := mt (toList_nil s).2 (by assumption)
             have hq : ownG 4 0 s l.length = some 2 := by (unfold ownG; rw [if_neg (by omega), if_neg (by omega), if_pos (by omega)])
             rw [hq] at HW
             exact ⟨.inl ⟨2, HW.out.symm, rfl⟩, HST.out.2.2⟩)
          | (refine (HP.out _).mono ?_
             rintro e w1 ⟨rfl, hB1⟩
             try have hz := (toList_nil s).1 (by assumption)
             have hq : ownG 4 0 s l.length = if printed s = true then Option.none else some 2 := by (unfold ownG; rw [if_neg (by omega), if_neg (by omega), if_neg (by omega)])
             rw [hq] at HW
             have HST1 := Lib.hid (HST.out.below hB1)
             have c3 := HST1.out.2.1.c3
             clear hB1 hq HST c1 c2
             cases hpr : printed s
             all_goals rw [hpr] at HW
             · go_wp2_with fail
               go_ret
               exact ⟨.inl ⟨2, HW.out.symm, rfl⟩, HST1.out.2.2⟩
             · clear hpr
               simp only [if_true] at HW
               go_wp2_with fail
               clear c3
               go_loopw [9] (fun i wr => ∃ (j : Nat) (lv : Int), j ≤ l.length ∧ i = .int .i64 j ∧ 0 ≤ lv ∧ lv ≤ 4096 ∧ OSt bl w 4 0 s a l.length c (4096 - lv) wr ∧ Hid (Q = walkL (l.drop j) (deep + 1) lv)) (fun i _ => l.length - (intOf i).toNat)
               case atStart => exact ⟨0, left - (1 + co), Nat.zero_le _, rfl, by omega, by omega, by have h0 := HST1.out; rw [show 4096 - left + 1 + co = 4096 - (left - (1 + co)) by omega] at h0; exact h0, HW.out.symm⟩
               case round =>
                 obtain ⟨j, lv, hj, rfl, hlv1, hlv2, hst, hQr⟩ := hrel
                 have c3 := hst.2.1.c3
                 have HS2 := Lib.hid hst
                 clear HST1
                 by_cases hlt : j < l.length
                 · have hRr := HA.out.1.keep (fun k' hk' => hst.2.2.block k' (by have : k' < bl := hk'; omega) (by have : k' < bl := hk'; omega)) (fun _ h => h)
                   obtain ⟨b, o, rfl, hs, hat⟩ := hRr.item j hlt
                   obtain ⟨ff, a', c', g0, g1, g2, g3, hsub⟩ := repAt_iff.1 hat
                   have hQ2 := hQr.out
                   rw [List.drop_eq_getElem_cons hlt, walkL] at hQ2
                   have hsize : SizeOf.sizeOf l[j] < SizeOf.sizeOf (Val.mk 4 0 s l) := sizeOf_item (Val.mk 4 0 s l) j hlt
                   have hsm := smallL_get HSM.out j hlt
                   generalize l[j] = y at ff g0 g1 g2 g3 hsub hQ2 hsize hsm
                   have HC := Lib.hid (IH.out y (deep + 1) lv a' c' wr (by omega) (by omega) (by omega) hlv1 hlv2 ff hsm hsub hst.1)
                   have hle := walkM_le y (deep + 1) lv
                   generalize walkM y (deep + 1) lv = wy at HC hQ2 hle
                   have HQ2 := Lib.hid hQ2
                   have HLE := Lib.hid hle
                   clear hQ2 hle hsub hat hRr ff hQr hst hsm HW
                   go_wp2_with fail
                   refine HC.out.mono ?_
                   rintro e w2 ⟨(⟨g, hg, rfl⟩ | ⟨lv', hg, rfl, hN2⟩), hB2⟩
                   · have HG := Lib.hid hg
                     have hcg : (codeOf g != 0) = true := by unfold codeOf; split; rfl; split; rfl; split <;> rfl
                     clear hg
                     go_wp2_with fail
                     go_ret
                     refine ⟨.inl ⟨g, ?_, rfl⟩, HS2.out.2.2.trans (hB2.mono HS2.out.2.2.size)⟩
                     rw [HQ2.out, HG.out]
                   · have HG := Lib.hid hg
                     have hst2 := Lib.hid (HS2.out.bel hN2 hb hB2)
                     clear hg hN2 hB2
                     go_wp2_with fail
                     have h3 := HLE.out lv' HG.out
                     go_roundw
                     case rel => exact ⟨j + 1, lv', by omega, by go_num, by omega, by omega, hst2.out, by have h4 := HQ2.out; rw [HG.out] at h4; exact h4⟩
                     case measure => simp [intOf]; omega
                 · have hQ2 := hQr.out
                   rw [List.drop_eq_nil_of_le (by first | omega | (simp only [List.length_nil]; omega)), walkL] at hQ2
                   have HQ2 := Lib.hid hQ2
                   clear hQ2 hQr hst HW
                   go_wp2_with fail
                   go_ret
                   exact ⟨.inr ⟨lv, HQ2.out, rfl, HS2.out.1⟩, HS2.out.2.2⟩)
end Go.Proofs.YtmkghfkikclodaaDoor
namespace Go.Proofs.YtmkghfkikclodaaDoor
open Go.RowKit

/-- What lies below 'base', and each block that is not a row of bytes, is as it was. -/
structure Kept (base : Nat) (w w' : World) : Prop where
  os : w'.os = w.os
  tape : w'.tape = w.tape
  output : w'.output = w.output
  size : w.heap.size ≤ w'.heap.size
  block : ∀ k, k < w.heap.size → (k < base ∨ ∀ cs f, w.heap[k]? ≠ some (.cells cs 5 f)) → w'.heap[k]? = w.heap[k]?

theorem Kept.refl (base : Nat) (w : World) : Kept base w w := ⟨rfl, rfl, rfl, Nat.le_refl _, fun _ _ _ => rfl⟩
theorem Kept.trans {base : Nat} {u v w : World} (h : Kept base u v) (k : Kept base v w) : Kept base u w :=
  ⟨k.os.trans h.os, k.tape.trans h.tape, k.output.trans h.output, Nat.le_trans h.size k.size, fun i hi hb => by
    have h1 := h.block i hi hb
    rw [k.block i (Nat.lt_of_lt_of_le hi h.size) (by rw [h1]; exact hb), h1]⟩
theorem Kept.alloc {base : Nat} {w w' : World} (h : Kept base w w') (o : Obj) : Kept base w (w'.alloc o) :=
  h.trans ⟨rfl, rfl, rfl, by simp, fun k hk _ => (bal w' o).block k hk⟩
theorem Kept.drewN {base : Nat} {w w' : World} (h : Kept base w w') (n : Nat) : Kept base w (w'.drewN n) := ⟨h.os, h.tape, h.output, h.size, h.block⟩
theorem Kept.drew {base : Nat} {w w' : World} (h : Kept base w w') : Kept base w w'.drew := ⟨h.os, h.tape, h.output, h.size, h.block⟩
theorem Kept.below {base : Nat} {w w' : World} (h : Kept base w w') (hb : base ≤ w.heap.size) : Below base w w' := ⟨h.os, h.tape, h.output, h.size, fun k hk => h.block k (by omega) (.inl hk)⟩
theorem Kept.grown {base : Nat} {w w' : World} {v : Value} {l : List UInt8} (ho : OwnB w base 5 v l) (hg : w.grownBy w' v.ownBlock) : Kept base w w' :=
  ⟨hg.os, hg.tape, hg.output, hg.size, fun k hk h => hg.block k hk fun e => by
    rcases h with h | h
    · have := (ho.lt k e.symm).1; omega
    · rcases ho.2 with ⟨rfl, _⟩ | ⟨g, cap, cur, rfl, _, hgg, _⟩
      · cases e
      · have : k = g := by simpa [Value.ownBlock] using e
        subst this
        exact h _ _ hgg⟩
theorem VB.kept {base : Nat} {w w' : World} {g : Nat} {x0 x1 x2 x3 : Value} (h : VB w g x0 x1 x2 x3) (hk : Kept base w w') : VB w' g x0 x1 x2 x3 :=
  (hk.block g h.lt (.inr fun cs f e => by have h' := h.symm.trans e; simp at h')).trans h

/-- the lowest so many bytes of a number, the lowest first -/
def leB (n : Nat) : Nat → List UInt8
  | 0 => []
  | m + 1 => leB n m ++ [UInt8.ofNat (n / 256 ^ m)]
theorem leB_length (n : Nat) : ∀ m, (leB n m).length = m
  | 0 => rfl
  | m + 1 => by rw [leB, List.length_append, leB_length n m]; rfl

/-- behind a call that lays bytes behind a slice of the call's own -/
def Laid (base : Nat) (W : World) (l : List UInt8) (e : Ending) (w' : World) : Prop := ∃ v, e = .returned v ∧ OwnB w' base 5 v l ∧ Kept base W w'

theorem info5 : (Tryd.prog.info? 5).map (fun i => (i.zero, i.size, i.bytes)) = some (some (.int .u8 0), 1, 1) := by kernel_rfl

theorem one_new (w : World) (v : Value) (b : UInt8) (hv : v = byteV b) : ∀ j (hj : j < [b].length), (w.alloc (.cells #[v] 5)).cell? ((⟨w.heap.size, 0, none⟩ : Addr).add j) = some (byteV [b][j]) := by
  intro j hj
  obtain rfl : j = 0 := by simpa using hj
  rw [show (⟨w.heap.size, 0, none⟩ : Addr).add 0 = ⟨w.heap.size, 0, none⟩ from rfl, World.cell?_alloc_mark, hv]
  rfl

theorem one_new' (w : World) (v : Value) (b : UInt8) (g : Nat) (hg : g = w.heap.size) (hv : v = byteV b) : ∀ j (hj : j < [b].length), (w.alloc (.cells #[v] 5)).cell? ((⟨g, 0, none⟩ : Addr).add j) = some (byteV [b][j]) := by
  subst hg
  exact one_new w v b hv

theorem byte_kind (k : Int) : Value.int .u8 (k % 256) = byteV (UInt8.ofNat (k % 18446744073709551616).toNat) := by
  unfold byteV
  simp
  omega

theorem byte_pow (n k : Nat) : Value.int .u8 ((n : Int) / 2 ^ (8 * k) % 256) = byteV (UInt8.ofNat (n / 256 ^ k)) := by
  have h1 : (256 : Nat) ^ k = 2 ^ (8 * k) := by rw [Nat.pow_mul]
  unfold byteV
  rw [h1]
  simp

theorem num_lays (base : Nat) (v : Value) (l : List UInt8) (n m : Nat) (w : World) (hn : n < 18446744073709551616) (hm : m ≤ 8) (hown : OwnB w base 5 v l) (hb : base ≤ w.heap.size) (hl : l.length ≤ 100000000) :
    Calls Tryd.prog 41 #[v, .int .u64 n, .int .i64 m] w (Laid base w (l ++ leB n m)) := by
  obtain ⟨a0, c0, rfl⟩ := hown.shape
  have HO := Lib.hid hown
  clear hown
  go_enter Tryd.func41, Tryd.ntmps41
  go_wp2
  go_loopw [0, 9] (fun b i wr => ∃ k : Nat, k ≤ m ∧ i = .int .i64 k ∧ Kept base w wr ∧ OwnB wr base 5 b (l ++ leB n k)) (fun _ i _ => m - (intOf i).toNat)
  case atStart => exact ⟨0, Nat.zero_le _, rfl, Kept.refl _ _, by simpa [leB] using HO.out⟩
  case round =>
    obtain ⟨k, hk, rfl, hK, hO⟩ := hrel
    have el : (l ++ leB n k).length ≤ 100000010 := by rw [List.length_append, leB_length]; omega
    generalize hacc : l ++ leB n k = acc at hO el
    have HA := Lib.hid hacc
    clear hacc
    obtain ⟨a1, c1, rfl⟩ := hO.shape
    have hszK := hK.size
    by_cases hlt : k < m
    · go_wp2_with (at_builtin; go_loud (refine append_bytes _ rfl (.tmp 12) (.tmp 18) 25 rfl base 5 Tryd.underlying25 info5 _ acc rfl (hO.alloc _) ⟨wr.heap.size, 0, none⟩ 1 [UInt8.ofNat (n / 256 ^ k)] 1 rfl rfl ?d1 ?d2 ?d3 ?_))
      case d1 => exact one_new wr _ _ (byte_pow n k)
      case d2 => first | omega | (simp; omega)
      case d3 => first | omega | (simp; omega)
      intro v' w1 hown1 hg1
      have hK1 : Kept base w w1 := hK.trans (((Kept.refl base wr).alloc _).trans (Kept.grown (hO.alloc _) hg1))
      have hacc1 : acc ++ [UInt8.ofNat (n / 256 ^ k)] = l ++ leB n (k + 1) := by rw [← HA.out, leB, List.append_assoc]
      rw [hacc1] at hown1
      have HO1 := Lib.hid hown1
      clear hown1 hg1 hO hacc1 hK
      go_wp2
      go_roundw
      case rel => exact ⟨k + 1, by omega, by go_num, hK1, HO1.out⟩
      case measure => simp [intOf]; omega
    · obtain rfl : k = m := by omega
      go_wp2
      go_ret
      exact ⟨_, rfl, by rw [HA.out]; exact hO, hK⟩

theorem Laid.mono {base : Nat} {W W' : World} {l : List UInt8} {e : Ending} {w' : World} (h : Laid base W' l e w') (hk : Kept base W W') : Laid base W l e w' := by
  obtain ⟨v, he, ho, hk2⟩ := h
  exact ⟨v, he, ho, hk.trans hk2⟩

/-- an int64 as a uint64 -/
def uns (z : Int) : Nat := (z % 18446744073709551616).toNat
theorem uns_lt (z : Int) : uns z < 18446744073709551616 := by unfold uns; omega

theorem int_lays (base : Nat) (v : Value) (l : List UInt8) (z : Int) (w : World) (hown : OwnB w base 5 v l) (hb : base ≤ w.heap.size) (hl : l.length ≤ 100000000) :
    Calls Tryd.prog 42 #[v, .int .i64 z] w (Laid base w (l ++ leB (uns z) 8)) := by
  have HN := Lib.hid (num_lays base v l (uns z) 8 w (uns_lt z) (by decide) hown hb hl)
  have hz : IntKind.u64.wrap z = (uns z : Int) := by
    have : (uns z : Int) = z % 18446744073709551616 := by unfold uns; omega
    rw [this]; rfl
  obtain ⟨a0, c0, rfl⟩ := hown.shape
  clear hown
  generalize l ++ leB (uns z) 8 = acc at HN ⊢
  go_enter Tryd.func42, Tryd.ntmps42
  go_wp2_with fail
  first | (rw [hz]; done) | skip
  refine HN.out.mono ?_
  rintro e w1 ⟨v1, rfl, ho, hk⟩
  obtain ⟨a1, c1, rfl⟩ := ho.shape
  have HO := Lib.hid ho
  clear ho hz
  go_wp2
  go_ret
  exact ⟨_, rfl, HO.out, hk⟩

theorem text_lays (base : Nat) (v : Value) (l : List UInt8) (s : ByteArray) (w : World) (hown : OwnB w base 5 v l) (hb : base ≤ w.heap.size) (hl : l.length + s.size ≤ 90000000) :
    Calls Tryd.prog 40 #[v, .string s] w (Laid base w (l ++ (leB s.size 4 ++ s.data.toList))) := by
  have HN := Lib.hid (num_lays base v l s.size 4 w (by omega) (by decide) hown hb (by omega))
  have hls : (s.size : Int) ≤ 90000000 := by omega
  obtain ⟨a0, c0, rfl⟩ := hown.shape
  clear hown
  go_enter Tryd.func40, Tryd.ntmps40
  go_wp2_with fail
  refine HN.out.mono ?_
  rintro e w1 ⟨v1, rfl, ho, hk⟩
  have hsz := hk.size
  have el : (l ++ leB s.size 4).length ≤ 90000010 - s.size := by rw [List.length_append, leB_length]; omega
  generalize hacc : l ++ leB s.size 4 = acc at ho el
  have HA := Lib.hid hacc
  clear hacc
  obtain ⟨a1, c1, rfl⟩ := ho.shape
  go_wp2_with (at_builtin; refine append_string _ rfl (.tmp 9) (.tmp 10) 25 9 rfl base 5 Tryd.underlying25 Tryd.underlying9 info5 _ acc rfl ho _ rfl ?c1 ?c2 ?_)
  case c1 => omega
  case c2 => omega
  intro v' w2 hown2 hg2
  have hk2 : Kept base w w2 := hk.trans (Kept.grown ho hg2)
  obtain ⟨a2, c2, rfl⟩ := hown2.shape
  have HO := Lib.hid hown2
  clear hown2 hg2 ho hk
  go_wp2
  go_ret
  exact ⟨_, rfl, by rw [← List.append_assoc, HA.out]; exact HO.out, hk2⟩

/-! ### a value's bytes -/
mutual
def bytesV : Val → List UInt8
  | .mk k n s l => [UInt8.ofNat (uns k)] ++ (if k = 2 then leB s.size 4 ++ s.data.toList else if k = 4 then leB l.length 4 ++ bytesL l else leB (uns n) 8)
def bytesL : List Val → List UInt8
  | [] => []
  | x :: xs => bytesV x ++ bytesL xs
end

theorem bytesV_eq (x : Val) : bytesV x = [UInt8.ofNat (uns x.kind)] ++ (if x.kind = 2 then leB x.s.size 4 ++ x.s.data.toList else if x.kind = 4 then leB x.l.length 4 ++ bytesL x.l else leB (uns x.n) 8) := by
  cases x; rfl

theorem bytesV_pos (x : Val) : 1 ≤ (bytesV x).length := by
  rw [bytesV_eq, List.length_append]
  simp only [List.length_singleton]
  omega

theorem bytesL_len : ∀ (l : List Val), l.length ≤ (bytesL l).length
  | [] => Nat.le_refl _
  | x :: xs => by
    have h1 := bytesV_pos x
    have h2 := bytesL_len xs
    rw [bytesL, List.length_append, List.length_cons]
    omega

theorem bytesL_split : ∀ (l : List Val) (i : Nat) (h : i < l.length), (bytesV l[i]).length + (bytesL (l.drop (i + 1))).length = (bytesL (l.drop i)).length
  | x :: xs, 0, _ => by simp [bytesL]
  | x :: xs, i + 1, h => by
    have := bytesL_split xs i (by simpa using h)
    simpa using this

set_option maxRecDepth 100000 in
set_option maxHeartbeats 1000000 in
theorem value_lays (base : Nat) (m : Nat) : ∀ (x : Val) (a : Option Addr) (c : Nat) (v : Value) (l : List UInt8) (w : World), SizeOf.sizeOf x ≤ m → Fits x.kind x.n x.s x.l.length → RepSl (Lo base) w a x.l →
    OwnB w base 5 v l → base ≤ w.heap.size → l.length + (bytesV x).length ≤ 80000000 →
    Calls Tryd.prog 24 #[v, .agg #[.int .i64 x.kind, .int .i64 x.n, .string x.s, .slice a x.l.length c]] w (Laid base w (l ++ bytesV x)) := by
  induction m with
  | zero => intro x a c v l w h; cases x; simp at h
  | succ m ih =>
    intro x a c v l w hm hf hR hown hb hl
    obtain ⟨k, n, s, xs⟩ := x
    simp only [Val.kind, Val.n, Val.s, Val.l] at hf hR ⊢
    obtain ⟨f1, f2, f3, f4, f5, f6⟩ := hf
    have IH := Lib.hid ih
    clear ih
    rw [← List.length_append] at hl
    generalize hRB : l ++ bytesV (.mk k n s xs) = RB at hl ⊢
    have HB := Lib.hid hRB
    rw [bytesV, ← List.append_assoc] at HB
    clear hRB
    obtain ⟨a0, c0, rfl⟩ := hown.shape
    have hl0 : l.length + 1 ≤ 80000000 := by have := HB.out; rw [← this, List.length_append, List.length_append] at hl; simp only [List.length_singleton] at hl; omega
    have hv := VB.new w (.int .i64 k) (.int .i64 n) (.string s) (.slice a xs.length c)
    have HV := Lib.hid hv
    have HR := Lib.hid hR
    have el : (l ++ [UInt8.ofNat (uns k)]).length = l.length + 1 := by simp
    have HEL := Lib.hid el
    clear hv hR el
    by_cases hk : k = 2
    · subst hk
      rw [if_pos rfl] at HB
      have hls : l.length + 1 + s.size ≤ 80000000 := by have := HB.out; rw [← this] at hl; simp only [List.length_append, List.length_singleton, leB_length, Array.length_toList] at hl; show l.length + 1 + s.data.size ≤ _; omega
      go_enter Tryd.func24, Tryd.ntmps24
      go_wp2_with (at_builtin; go_loud (refine append_bytes _ rfl (.tmp 7) (.tmp 11) 25 rfl base 5 Tryd.underlying25 info5 _ l rfl ((hown.alloc _).alloc _) ⟨w.heap.size + 1, 0, none⟩ 1 [UInt8.ofNat (uns 2)] 1 rfl rfl ?d1 ?d2 ?d3 ?_))
      case d1 => exact one_new' _ _ _ _ (by simp) (by rfl)
      case d2 => first | omega | (simp; omega)
      case d3 => first | omega | (simp; omega)
      intro v' w1 ho1 hg1
      have hk1 : Kept base w w1 := (((Kept.refl base w).alloc _).alloc _).trans (Kept.grown ((hown.alloc _).alloc _) hg1)
      have hv1 := (HV.out.below (bal (w.alloc _) _) (by simp)).kept (Kept.grown ((hown.alloc _).alloc _) hg1)
      obtain ⟨d0, d1, d2, d3, -⟩ := hv1.all
      have hsz := hk1.size
      have el : (l ++ [UInt8.ofNat (uns 2)]).length ≤ l.length + 1 := by rw [HEL.out]; exact Nat.le_refl _
      generalize l ++ [UInt8.ofNat (uns 2)] = l1 at ho1 el HB
      have HT := Lib.hid (text_lays base v' l1 s w1 ho1 (by omega) (by omega))
      rw [HB.out] at HT
      obtain ⟨a1, c1, rfl⟩ := ho1.shape
      clear ho1 hg1 hv1 hown HEL
      go_wp2_with fail
      refine HT.out.mono ?_
      rintro e w2 ⟨v2, rfl, ho2, hk2⟩
      obtain ⟨a2, c2, rfl⟩ := ho2.shape
      have HO := Lib.hid ho2
      clear ho2 d0 d1 d2 d3
      go_wp2
      go_ret
      exact ⟨_, rfl, HO.out, hk1.trans hk2⟩
    · by_cases hk4 : k = 4
      · subst hk4
        rw [if_neg (by decide), if_pos rfl, ← List.append_assoc] at HB
        have hlx : xs.length ≤ 80000000 := by
          have h1 := bytesL_len xs
          have := HB.out
          rw [← this, List.length_append] at hl
          omega
        have hlx0 : (xs.length : Int) ≤ 80000000 := by omega
        go_enter Tryd.func24, Tryd.ntmps24
        go_wp2_with (at_builtin; go_loud (refine append_bytes _ rfl (.tmp 7) (.tmp 11) 25 rfl base 5 Tryd.underlying25 info5 _ l rfl ((hown.alloc _).alloc _) ⟨w.heap.size + 1, 0, none⟩ 1 [UInt8.ofNat (uns 4)] 1 rfl rfl ?d1 ?d2 ?d3 ?_))
        case d1 => exact one_new' _ _ _ _ (by simp) (by rfl)
        case d2 => first | omega | (simp; omega)
        case d3 => first | omega | (simp; omega)
        intro v' w1 ho1 hg1
        have hk1 : Kept base w w1 := (((Kept.refl base w).alloc _).alloc _).trans (Kept.grown ((hown.alloc _).alloc _) hg1)
        have hv1 := (HV.out.below (bal (w.alloc _) _) (by simp)).kept (Kept.grown ((hown.alloc _).alloc _) hg1)
        obtain ⟨d0, d1, d2, d3, -⟩ := hv1.all
        have HV1 := Lib.hid hv1
        have hsz := hk1.size
        have el : (l ++ [UInt8.ofNat (uns 4)]).length ≤ l.length + 1 := by rw [HEL.out]; exact Nat.le_refl _
        generalize l ++ [UInt8.ofNat (uns 4)] = l1 at ho1 el HB
        have HT := Lib.hid (num_lays base v' l1 xs.length 4 w1 (by omega) (by decide) ho1 (by omega) (by omega))
        obtain ⟨a1, c1, rfl⟩ := ho1.shape
        clear ho1 hg1 hv1 hown HEL
        go_wp2_with fail
        refine HT.out.mono ?_
        rintro e w2 ⟨v2, rfl, ho2, hk2⟩
        have hk12 := hk1.trans hk2
        have hv2 := HV1.out.kept hk2
        have d3 := hv2.c3
        have HV2 := Lib.hid hv2
        generalize l1 ++ leB xs.length 4 = l2 at ho2 HB
        obtain ⟨a2, c2, rfl⟩ := ho2.shape
        clear hv2 hk1 hk2 d0 d1 d2 HV1 HT
        go_wp2
        have HO2 := Lib.hid ho2
        clear ho2 d3
        go_loopw [0, 32] (fun b i wr => ∃ (j : Nat) (acc : List UInt8), j ≤ xs.length ∧ i = .int .i64 j ∧ Kept base w wr ∧ OwnB wr base 5 b acc ∧ Hid (acc ++ bytesL (xs.drop j) = RB)) (fun _ i _ => xs.length - (intOf i).toNat)
        case atStart => exact ⟨0, l2, Nat.zero_le _, rfl, hk12, HO2.out, HB⟩
        case round =>
          obtain ⟨j, acc, hj, rfl, hkr, hor, hF⟩ := hrel
          obtain ⟨a3, c3, rfl⟩ := hor.shape
          by_cases hlt : j < xs.length
          · have hRr := HR.out.below (hkr.below hb)
            obtain ⟨b, o, rfl, hs, hat⟩ := hRr.item j hlt
            obtain ⟨ff, a', c', g0, g1, g2, g3, hsub⟩ := repAt_iff.1 hat
            have hF2 := hF.out
            rw [List.drop_eq_getElem_cons hlt, bytesL, ← List.append_assoc] at hF2
            have hsize : SizeOf.sizeOf xs[j] < SizeOf.sizeOf (Val.mk 4 n s xs) := sizeOf_item (Val.mk 4 n s xs) j hlt
            generalize xs[j] = y at ff g0 g1 g2 g3 hsub hF2 hsize
            have hszr := hkr.size
            have hroom : acc.length + (bytesV y).length ≤ 80000000 := by rw [← hF2] at hl; simp only [List.length_append] at hl; omega
            have HC := Lib.hid fun (o1 : Obj) => IH.out y a' c' (.slice a3 acc.length c3) acc ((wr.alloc o1)) (by omega) ff (hsub.below ((bal wr o1).mono (by omega))) (hor.alloc o1) (by simp; omega) hroom
            generalize acc ++ bytesV y = acc2 at HC hF2
            have HF2 := Lib.hid hF2
            have HOR := Lib.hid hor
            clear hF2 hF hsub hat hRr ff hor
            go_wp2_with fail
            refine (HC.out _).mono ?_
            rintro e w3 ⟨v3, rfl, ho3, hk3⟩
            obtain ⟨a4, c4, rfl⟩ := ho3.shape
            have HO3 := Lib.hid ho3
            have hkf := (hkr.alloc _).trans hk3
            clear ho3 hk3
            go_wp2
            go_roundw
            case rel => exact ⟨j + 1, acc2, by omega, by go_num, hkf, HO3.out, HF2⟩
            case measure => simp [intOf]; omega
          · have hF2 := hF.out
            rw [List.drop_eq_nil_of_le (by omega), bytesL, List.append_nil] at hF2
            subst hF2
            have HOR := Lib.hid hor
            clear hor hF
            go_wp2
            go_ret
            exact ⟨_, rfl, HOR.out, hkr⟩
      · rw [if_neg hk, if_neg hk4] at HB
        have hkb : (k == 2) = false := by simp [hk]
        have hkb4 : (k == 4) = false := by simp [hk4]
        go_enter Tryd.func24, Tryd.ntmps24
        go_wp2_with (at_builtin; go_loud (refine append_bytes _ rfl (.tmp 7) (.tmp 11) 25 rfl base 5 Tryd.underlying25 info5 _ l rfl ((hown.alloc _).alloc _) ⟨w.heap.size + 1, 0, none⟩ 1 [UInt8.ofNat (uns k)] 1 rfl rfl ?d1 ?d2 ?d3 ?_))
        case d1 => exact one_new' _ _ _ _ (by simp) (byte_kind k)
        case d2 => first | omega | (simp; omega)
        case d3 => first | omega | (simp; omega)
        intro v' w1 ho1 hg1
        have hk1 : Kept base w w1 := (((Kept.refl base w).alloc _).alloc _).trans (Kept.grown ((hown.alloc _).alloc _) hg1)
        have hv1 := (HV.out.below (bal (w.alloc _) _) (by simp)).kept (Kept.grown ((hown.alloc _).alloc _) hg1)
        obtain ⟨d0, d1, d2, d3, -⟩ := hv1.all
        have hsz := hk1.size
        have el : (l ++ [UInt8.ofNat (uns k)]).length ≤ l.length + 1 := by rw [HEL.out]; exact Nat.le_refl _
        generalize l ++ [UInt8.ofNat (uns k)] = l1 at ho1 el HB
        have HT := Lib.hid (int_lays base v' l1 n w1 ho1 (by omega) (by omega))
        rw [HB.out] at HT
        obtain ⟨a1, c1, rfl⟩ := ho1.shape
        clear ho1 hg1 hv1 hown HEL
        go_wp2_with fail
        refine HT.out.mono ?_
        rintro e w2 ⟨v2, rfl, ho2, hk2⟩
        obtain ⟨a2, c2, rfl⟩ := ho2.shape
        have HO := Lib.hid ho2
        clear ho2 d0 d1 d2 d3
        go_wp2
        go_ret
        exact ⟨_, rfl, HO.out, hk1.trans hk2⟩

end Go.Proofs.YtmkghfkikclodaaDoor
