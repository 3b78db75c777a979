/- What is amiss with a value: the document's walk. -/
import Derived.Test.YtmkghfkikclodaaDoorWalkV
import Derived.Deep.CutRange
namespace Go.Proofs.YtmkghfkikclodaaDoor
open Go.RowKit

/-- the document's number of the error that variable g holds -/
def codeOf (g : Nat) : Int := if g = 0 then 112 else if g = 1 then 104 else if g = 3 then 105 else 103

/-- block g holds how much was counted -/
def OB (w : World) (g : Nat) (z : Int) : Prop := w.heap[g]? = some (.cells #[.int .i64 z] 79 (0, 0))
theorem OB.c {w : World} {g : Nat} {z : Int} (h : OB w g z) : w.cell? ⟨g, 0, none⟩ = some (.int .i64 z) := by rw [Joins.cell_of_block h]; rfl
theorem OB.fr {w : World} {g : Nat} {z : Int} (h : OB w g z) : w.frozen? ⟨g, 0, none⟩ = false := Joins.unfrozen_of_block h 0
theorem OB.lt {w : World} {g : Nat} {z : Int} (h : OB w g z) : g < w.heap.size := (Array.getElem?_eq_some_iff.1 h).1
theorem OB.set {w : World} {g : Nat} {z : Int} (h : OB w g z) (y : Int) : OB (w.setCell ⟨g, 0, none⟩ (.int .i64 y)) g y := by unfold OB; rw [Joins.block_setCell h]; rfl
theorem OB.below {w w' : World} {g B : Nat} {z : Int} (h : OB w g z) (hb : Below B w w') (hB : g < B) : OB w' g z := (hb.block g hB).trans h

def OddOut (bl : Nat) (W : World) (q : Except Nat Int) (e : Ending) (w' : World) : Prop :=
  ((∃ g, q = .error g ∧ e = .returned (.int .i64 (codeOf g))) ∨ (∃ left, q = .ok left ∧ e = .returned (.int .i64 0) ∧ OB w' bl (4096 - left))) ∧ Bel bl W.heap.size W w'

mutual
/-- strings that are not great -/
def SmallM : Val → Prop
  | .mk _ _ s l => s.size ≤ 1000000 ∧ SmallL l
def SmallL : List Val → Prop
  | [] => True
  | x :: xs => SmallM x ∧ SmallL xs
end
theorem smallL_get : ∀ {l : List Val}, SmallL l → ∀ (i : Nat) (h : i < l.length), SmallM l[i]
  | _ :: _, h, 0, _ => h.1
  | _ :: _, h, i + 1, hi => smallL_get h.2 i (by simpa using hi)

/-- within odd: what was counted, the value's own block -/
def OSt (bl : Nat) (W : World) (k n : Int) (s : ByteArray) (a : Option Addr) (len c : Nat) (size : Int) (wx : World) : Prop :=
  OB wx bl size ∧ VB wx W.heap.size (.int .i64 k) (.int .i64 n) (.string s) (.slice a len c) ∧ Bel bl W.heap.size W wx

theorem OSt.start {bl : Nat} {w : World} {k n : Int} {s : ByteArray} {a : Option Addr} {len c : Nat} {z : Int} (h : OB w bl z) (size : Int) :
    OSt bl w k n s a len c size ((w.setCell ⟨bl, 0, none⟩ (.int .i64 size)).alloc (.cells #[.int .i64 k, .int .i64 n, .string s, .slice a len c] 24)) := by
  have hsz : (w.setCell ⟨bl, 0, none⟩ (.int .i64 size)).heap.size = w.heap.size := by simp [World.setCell]
  refine ⟨(h.set size).below (bal _ _) (by rw [hsz]; exact h.lt), ?_, ((Bel.refl _ _ _).set 0 _).alloc (by rw [hsz]; exact Nat.le_refl _) _⟩
  have := VB.new (w.setCell ⟨bl, 0, none⟩ (.int .i64 size)) (.int .i64 k) (.int .i64 n) (.string s) (.slice a len c)
  rw [hsz] at this
  exact this

theorem OSt.drew {bl : Nat} {W wx : World} {k n : Int} {s : ByteArray} {a : Option Addr} {len c : Nat} {z : Int} (h : OSt bl W k n s a len c z wx) : OSt bl W k n s a len c z wx.drew :=
  ⟨h.1, h.2.1, ⟨h.2.2.os, h.2.2.tape, h.2.2.output, h.2.2.size, h.2.2.block⟩⟩

theorem OSt.again {bl : Nat} {w : World} {k n : Int} {s : ByteArray} {a : Option Addr} {len c : Nat} {z : Int} (h : OB w bl z) (y size : Int) :
    OSt bl w k n s a len c size (((w.setCell ⟨bl, 0, none⟩ (.int .i64 y)).setCell ⟨bl, 0, none⟩ (.int .i64 size)).alloc (.cells #[.int .i64 k, .int .i64 n, .string s, .slice a len c] 24)) := by
  have hsz : (w.setCell ⟨bl, 0, none⟩ (.int .i64 y)).heap.size = w.heap.size := by simp [World.setCell]
  have := OSt.start (k := k) (n := n) (s := s) (a := a) (len := len) (c := c) (h.set y) size
  obtain ⟨h1, h2, h3⟩ := this
  rw [hsz] at h2 h3
  exact ⟨h1, h2, ((Bel.refl _ _ _).set 0 _).trans h3⟩

theorem OSt.below {bl : Nat} {W wx w1 : World} {k n : Int} {s : ByteArray} {a : Option Addr} {len c : Nat} {z : Int} (h : OSt bl W k n s a len c z wx) (hb : Below wx.heap.size wx w1) : OSt bl W k n s a len c z w1 :=
  ⟨h.1.below hb h.1.lt, h.2.1.below hb h.2.1.lt, h.2.2.trans ((Bel.of hb).mono h.2.2.size)⟩
theorem OSt.bel {bl : Nat} {W wx w1 : World} {k n : Int} {s : ByteArray} {a : Option Addr} {len c : Nat} {z z' : Int} (h : OSt bl W k n s a len c z wx) (h' : OB w1 bl z') (hn : bl < W.heap.size) (hb : Bel bl wx.heap.size wx w1) : OSt bl W k n s a len c z' w1 :=
  ⟨h', h.2.1.bel hb h.2.1.lt (by omega), h.2.2.trans (hb.mono h.2.2.size)⟩

set_option maxRecDepth 100000 in
set_option maxHeartbeats 4000000 in
theorem odd_any (bl : Nat) (m : Nat) : ∀ (x : Val) (deep left : Int) (a : Option Addr) (c : Nat) (w : World), SizeOf.sizeOf x ≤ m → 1 ≤ deep → deep ≤ 41 → 0 ≤ left → left ≤ 4096 → Fits x.kind x.n x.s x.l.length → SmallM x →
    RepSl (Lo bl) w a x.l → OB w bl (4096 - left) →
    Calls Tryd.prog 43 #[.pointer (some ⟨bl, 0, none⟩), .agg #[.int .i64 x.kind, .int .i64 x.n, .string x.s, .slice a x.l.length c], .int .i64 deep] w (OddOut bl w (walkM x deep left)) := by
  induction m with
  | zero => intro x deep left a c w h; cases x; simp at h
  | succ m ih =>
    intro x deep left a c w hm hd1 hd2 hl1 hl2 hf hsm hR hN
    obtain ⟨k, n, s, l⟩ := x
    simp only [Val.kind, Val.n, Val.s, Val.l] at hf hR ⊢
    have hss : (s.size : Int) ≤ 1000000 := by have := hsm.1; omega
    have HSM := Lib.hid hsm.2
    clear hsm
    have HF := Lib.hid hf
    obtain ⟨f1, f2, f3, f4, f5, f6⟩ := hf
    have IH := Lib.hid ih
    clear ih
    have hb := hN.lt
    have hal := bal w (.cells #[.int .i64 k, .int .i64 n, .string s, .slice a l.length c] 24)
    have hn := (hN.below hal hb).c
    have hnf := (hN.below hal hb).fr
    have HA := Lib.hid (And.intro hR hN)
    have hn1 := (hN.set (4096 - left + 1)).c
    have hnf1 := (hN.set (4096 - left + 1)).fr
    generalize hQ : walkM (.mk k n s l) deep left = Q
    have HW := Lib.hid hQ
    rw [walkM] at HW
    clear hQ hR hN hal
    by_cases hd : 40 < deep
    · have HQ : Hid (Q = .error 0) := by show _ = _; rw [← HW.out, if_pos hd]
      clear HW
      go_enter Tryd.func43, Tryd.ntmps43
      go_wp2_with fail
      go_ret
      exact ⟨.inl ⟨0, HQ.out, rfl⟩, Bel.of (bal w _)⟩
    rw [if_neg hd] at HW
    go_enter Tryd.func43, Tryd.ntmps43
    go_upto_if 23 with fail
    go_cut [23] from 24 to 34 (fun t23 wx => t23 = .bool (k == 2) ∧ OSt bl w k n s a l.length c (4096 - left + 1 + cost k s) wx)
    case first =>
      by_cases hk : k = 2
      · subst hk
        go_wp2_with fail
        go_region
        all_goals go_wp2_with fail
        all_goals go_meet
        all_goals
          have h0 := OSt.again (k := 2) (n := n) (s := s) (a := a) (len := l.length) (c := c) HA.out.2 (4096 - left + 1) (4096 - left + 1 + s.size)
          rw [show cost 2 s = s.size by unfold cost; rw [if_pos rfl]]
          first | exact ⟨rfl, h0⟩ | exact ⟨rfl, h0.drew⟩
      · have hkb : (k == 2) = false := by simp [hk]
        go_wp2_with fail
        all_goals go_meet
        all_goals
          have h0 := OSt.start (k := k) (n := n) (s := s) (a := a) (len := l.length) (c := c) HA.out.2 (4096 - left + 1)
          rw [show cost k s = 0 by unfold cost; rw [if_neg hk], Int.add_zero]
          first | exact ⟨by rw [hkb], h0⟩ | exact ⟨by rw [hkb], h0.drew⟩
    case rest =>
      obtain ⟨rfl, hst⟩ := hcut
      have hb0 := hst.1.c
      obtain ⟨c0, c1, c2, c3, -⟩ := hst.2.1.all
      have hco : 0 ≤ cost k s ∧ cost k s ≤ 1000000 := ⟨cost_nonneg k s, by unfold cost; split <;> omega⟩
      generalize cost k s = co at hst hb0 HW hco
      obtain ⟨hco1, hco2⟩ := hco
      have HST := Lib.hid hst
      clear hst hn hnf hn1 hnf1
      by_cases hl : left ≤ co
      · have HQ : Hid (Q = .error 1) := by show _ = _; rw [← HW.out, if_pos hl]
        clear HW
        go_wp2_with fail
        go_ret
        exact ⟨.inl ⟨1, HQ.out, rfl⟩, HST.out.2.2⟩
      rw [if_neg hl] at HW
      have hcases : k < 0 ∨ 4 < k ∨ (k = 1 ∧ n < -2147483648) ∨ (k = 1 ∧ 2147483647 < n) ∨ (k = 3 ∧ n < 0) ∨ (k = 3 ∧ 14 < n) ∨ (k = 2 ∧ ¬ n = 0) ∨ (k = 4 ∧ ¬ n = 0) ∨ k = 0 ∨ (k = 1 ∧ -2147483648 ≤ n ∧ n ≤ 2147483647) ∨ (k = 2 ∧ n = 0) ∨ (k = 3 ∧ 0 ≤ n ∧ n ≤ 14) ∨ (k = 4 ∧ n = 0) := by omega
      have HP := Lib.hid fun (w' : World) => printed_any s w' (by omega)
      rcases hcases with hk | hk | ⟨rfl, hk⟩ | ⟨rfl, hk⟩ | ⟨rfl, hk⟩ | ⟨rfl, hk⟩ | ⟨rfl, hk⟩ | ⟨rfl, hk⟩ | hk
      · have hq : ownG k n s l.length = some 3 := by unfold ownG; rw [if_pos (by omega)]
        rw [hq] at HW
        clear hq c1 c2 c3
        go_wp2_with fail
        go_ret
        exact ⟨.inl ⟨3, HW.out.symm, rfl⟩, HST.out.2.2⟩
      · have hq : ownG k n s l.length = some 3 := by unfold ownG; rw [if_pos (by omega)]
        rw [hq] at HW
        clear hq c1 c2 c3
        go_wp2_with fail
        go_ret
        exact ⟨.inl ⟨3, HW.out.symm, rfl⟩, HST.out.2.2⟩
      · have hq : ownG 1 n s l.length = some 3 := by unfold ownG; rw [if_neg (by omega), if_pos (by omega)]
        rw [hq] at HW
        clear hq c2 c3
        go_wp2_with fail
        go_ret
        exact ⟨.inl ⟨3, HW.out.symm, rfl⟩, HST.out.2.2⟩
      · have hq : ownG 1 n s l.length = some 3 := by unfold ownG; rw [if_neg (by omega), if_pos (by omega)]
        rw [hq] at HW
        clear hq c2 c3
        go_wp2_with fail
        go_ret
        exact ⟨.inl ⟨3, HW.out.symm, rfl⟩, HST.out.2.2⟩
      · have hq : ownG 3 n s l.length = some 3 := by unfold ownG; rw [if_neg (by omega), if_pos (by omega)]
        rw [hq] at HW
        clear hq c2 c3
        go_wp2_with fail
        go_ret
        exact ⟨.inl ⟨3, HW.out.symm, rfl⟩, HST.out.2.2⟩
      · have hq : ownG 3 n s l.length = some 3 := by unfold ownG; rw [if_neg (by omega), if_pos (by omega)]
        rw [hq] at HW
        clear hq c2 c3
        go_wp2_with fail
        go_ret
        exact ⟨.inl ⟨3, HW.out.symm, rfl⟩, HST.out.2.2⟩
      · have hq : ownG 2 n s l.length = some 2 := by unfold ownG; rw [if_neg (by omega), if_neg (by omega), if_pos (by omega)]
        have hnb : (n != 0) = true := by simp [hk]
        rw [hq] at HW
        clear hq c2 c3
        go_wp2_with fail
        go_ret
        exact ⟨.inl ⟨2, HW.out.symm, rfl⟩, HST.out.2.2⟩
      · have hq : ownG 4 n s l.length = some 2 := by unfold ownG; rw [if_neg (by omega), if_neg (by omega), if_pos (by omega)]
        have hnb : (n != 0) = true := by simp [hk]
        rw [hq] at HW
        clear hq c2 c3
        go_wp2_with fail
        go_ret
        exact ⟨.inl ⟨2, HW.out.symm, rfl⟩, HST.out.2.2⟩
      rcases hk with rfl | ⟨rfl, hk1, hk2⟩ | ⟨rfl, rfl⟩ | ⟨rfl, hk1, hk2⟩ | ⟨rfl, rfl⟩
      · cases l with
        | cons y ys =>
          have hq : ownG 0 n s (y :: ys).length = some 2 := by (unfold ownG; rw [if_neg (by omega), if_neg (by omega), if_pos (by simp)])
          rw [hq] at HW
          clear hq
          go_wp2_with fail
          all_goals
            try go_wp2_with fail
            go_ret
            exact ⟨.inl ⟨2, HW.out.symm, rfl⟩, HST.out.2.2⟩
        | nil =>
          simp only [List.length_nil] at *
          go_wp2_with fail
          all_goals first
            | (go_ret
               try have hz := mt (toList_nil s).2 (by assumption)
               have hq : ownG 0 n s 0 = some 2 := by (unfold ownG; rw [if_neg (by omega), if_neg (by omega), if_pos (by omega)])
               rw [hq] at HW
               exact ⟨.inl ⟨2, HW.out.symm, rfl⟩, HST.out.2.2⟩)
            | (refine (HP.out _).mono ?_
               rintro e w1 ⟨rfl, hB1⟩
               try have hz := (toList_nil s).1 (by assumption)
               have hq : ownG 0 n s 0 = if printed s = true then Option.none else some 2 := by (unfold ownG; rw [if_neg (by omega), if_neg (by omega), if_neg (by omega)])
               rw [hq] at HW
               have HST1 := Lib.hid (HST.out.below hB1)
               have c3 := HST1.out.2.1.c3
               clear hB1 hq HST c1 c2
               cases hpr : printed s
               all_goals rw [hpr] at HW
               · go_wp2_with fail
                 go_ret
                 exact ⟨.inl ⟨2, HW.out.symm, rfl⟩, HST1.out.2.2⟩
               · clear hpr
                 simp only [if_true] at HW
                 go_wp2_with fail
                 clear c3
                 go_loopw [9] (fun i wr => ∃ (j : Nat) (lv : Int), j ≤ 0 ∧ i = .int .i64 j ∧ 0 ≤ lv ∧ lv ≤ 4096 ∧ OSt bl w 0 n s a 0 c (4096 - lv) wr ∧ Hid (Q = walkL (([] : List Val).drop j) (deep + 1) lv)) (fun i _ => 0)
                 case atStart => exact ⟨0, left - (1 + co), Nat.zero_le _, rfl, by omega, by omega, by have h0 := HST1.out; rw [show 4096 - left + 1 + co = 4096 - (left - (1 + co)) by omega] at h0; exact h0, HW.out.symm⟩
                 case round =>
                   obtain ⟨j, lv, hj, rfl, hlv1, hlv2, hst, hQr⟩ := hrel
                   have c3 := hst.2.1.c3
                   have HS2 := Lib.hid hst
                   clear HST1
                   by_cases hlt : j < ([] : List Val).length
                   · simp at hlt
                   · have hQ2 := hQr.out
                     rw [List.drop_eq_nil_of_le (by first | omega | (simp only [List.length_nil]; omega)), walkL] at hQ2
                     have HQ2 := Lib.hid hQ2
                     clear hQ2 hQr hst HW
                     go_wp2_with fail
                     go_ret
                     exact ⟨.inr ⟨lv, HQ2.out, rfl, HS2.out.1⟩, HS2.out.2.2⟩)
      · cases l with
        | cons y ys =>
          have hq : ownG 1 n s (y :: ys).length = some 2 := by (unfold ownG; rw [if_neg (by omega), if_neg (by omega), if_pos (by simp)])
          rw [hq] at HW
          clear hq
          go_wp2_with fail
          all_goals
            try go_wp2_with fail
            go_ret
            exact ⟨.inl ⟨2, HW.out.symm, rfl⟩, HST.out.2.2⟩
        | nil =>
          simp only [List.length_nil] at *
          go_wp2_with fail
          all_goals first
            | (go_ret
               try have hz := mt (toList_nil s).2 (by assumption)
               have hq : ownG 1 n s 0 = some 2 := by (unfold ownG; rw [if_neg (by omega), if_neg (by omega), if_pos (by omega)])
               rw [hq] at HW
               exact ⟨.inl ⟨2, HW.out.symm, rfl⟩, HST.out.2.2⟩)
            | (refine (HP.out _).mono ?_
               rintro e w1 ⟨rfl, hB1⟩
               try have hz := (toList_nil s).1 (by assumption)
               have hq : ownG 1 n s 0 = if printed s = true then Option.none else some 2 := by (unfold ownG; rw [if_neg (by omega), if_neg (by omega), if_neg (by omega)])
               rw [hq] at HW
               have HST1 := Lib.hid (HST.out.below hB1)
               have c3 := HST1.out.2.1.c3
               clear hB1 hq HST c1 c2
               cases hpr : printed s
               all_goals rw [hpr] at HW
               · go_wp2_with fail
                 go_ret
                 exact ⟨.inl ⟨2, HW.out.symm, rfl⟩, HST1.out.2.2⟩
               · clear hpr
                 simp only [if_true] at HW
                 go_wp2_with fail
                 clear c3
                 go_loopw [9] (fun i wr => ∃ (j : Nat) (lv : Int), j ≤ 0 ∧ i = .int .i64 j ∧ 0 ≤ lv ∧ lv ≤ 4096 ∧ OSt bl w 1 n s a 0 c (4096 - lv) wr ∧ Hid (Q = walkL (([] : List Val).drop j) (deep + 1) lv)) (fun i _ => 0)
                 case atStart => exact ⟨0, left - (1 + co), Nat.zero_le _, rfl, by omega, by omega, by have h0 := HST1.out; rw [show 4096 - left + 1 + co = 4096 - (left - (1 + co)) by omega] at h0; exact h0, HW.out.symm⟩
                 case round =>
                   obtain ⟨j, lv, hj, rfl, hlv1, hlv2, hst, hQr⟩ := hrel
                   have c3 := hst.2.1.c3
                   have HS2 := Lib.hid hst
                   clear HST1
                   by_cases hlt : j < ([] : List Val).length
                   · simp at hlt
                   · have hQ2 := hQr.out
                     rw [List.drop_eq_nil_of_le (by first | omega | (simp only [List.length_nil]; omega)), walkL] at hQ2
                     have HQ2 := Lib.hid hQ2
                     clear hQ2 hQr hst HW
                     go_wp2_with fail
                     go_ret
                     exact ⟨.inr ⟨lv, HQ2.out, rfl, HS2.out.1⟩, HS2.out.2.2⟩)
      · cases l with
        | cons y ys =>
          have hq : ownG 2 0 s (y :: ys).length = some 2 := by (unfold ownG; rw [if_neg (by omega), if_neg (by omega), if_pos (by simp)])
          rw [hq] at HW
          clear hq
          go_wp2_with fail
          all_goals
            try go_wp2_with fail
            go_ret
            exact ⟨.inl ⟨2, HW.out.symm, rfl⟩, HST.out.2.2⟩
        | nil =>
          simp only [List.length_nil] at *
          go_wp2_with fail
          all_goals first
            | (go_ret
               try have hz := mt (toList_nil s).2 (by assumption)
               have hq : ownG 2 0 s 0 = some 2 := by (unfold ownG; rw [if_neg (by omega), if_neg (by omega), if_pos (by omega)])
               rw [hq] at HW
               exact ⟨.inl ⟨2, HW.out.symm, rfl⟩, HST.out.2.2⟩)
            | (refine (HP.out _).mono ?_
               rintro e w1 ⟨rfl, hB1⟩
               try have hz := (toList_nil s).1 (by assumption)
               have hq : ownG 2 0 s 0 = if printed s = true then Option.none else some 2 := by (unfold ownG; rw [if_neg (by omega), if_neg (by omega), if_neg (by omega)])
               rw [hq] at HW
               have HST1 := Lib.hid (HST.out.below hB1)
               have c3 := HST1.out.2.1.c3
               clear hB1 hq HST c1 c2
               cases hpr : printed s
               all_goals rw [hpr] at HW
               · go_wp2_with fail
                 go_ret
                 exact ⟨.inl ⟨2, HW.out.symm, rfl⟩, HST1.out.2.2⟩
               · clear hpr
                 simp only [if_true] at HW
                 go_wp2_with fail
                 clear c3
                 go_loopw [9] (fun i wr => ∃ (j : Nat) (lv : Int), j ≤ 0 ∧ i = .int .i64 j ∧ 0 ≤ lv ∧ lv ≤ 4096 ∧ OSt bl w 2 0 s a 0 c (4096 - lv) wr ∧ Hid (Q = walkL (([] : List Val).drop j) (deep + 1) lv)) (fun i _ => 0)
                 case atStart => exact ⟨0, left - (1 + co), Nat.zero_le _, rfl, by omega, by omega, by have h0 := HST1.out; rw [show 4096 - left + 1 + co = 4096 - (left - (1 + co)) by omega] at h0; exact h0, HW.out.symm⟩
                 case round =>
                   obtain ⟨j, lv, hj, rfl, hlv1, hlv2, hst, hQr⟩ := hrel
                   have c3 := hst.2.1.c3
                   have HS2 := Lib.hid hst
                   clear HST1
                   by_cases hlt : j < ([] : List Val).length
                   · simp at hlt
                   · have hQ2 := hQr.out
                     rw [List.drop_eq_nil_of_le (by first | omega | (simp only [List.length_nil]; omega)), walkL] at hQ2
                     have HQ2 := Lib.hid hQ2
                     clear hQ2 hQr hst HW
                     go_wp2_with fail
                     go_ret
                     exact ⟨.inr ⟨lv, HQ2.out, rfl, HS2.out.1⟩, HS2.out.2.2⟩)
      · cases l with
        | cons y ys =>
          have hq : ownG 3 n s (y :: ys).length = some 2 := by (unfold ownG; rw [if_neg (by omega), if_neg (by omega), if_pos (by simp)])
          rw [hq] at HW
          clear hq
          go_wp2_with fail
          all_goals
            try go_wp2_with fail
            go_ret
            exact ⟨.inl ⟨2, HW.out.symm, rfl⟩, HST.out.2.2⟩
        | nil =>
          simp only [List.length_nil] at *
          go_wp2_with fail
          all_goals first
            | (go_ret
               try have hz := mt (toList_nil s).2 (by assumption)
               have hq : ownG 3 n s 0 = some 2 := by (unfold ownG; rw [if_neg (by omega), if_neg (by omega), if_pos (by omega)])
               rw [hq] at HW
               exact ⟨.inl ⟨2, HW.out.symm, rfl⟩, HST.out.2.2⟩)
            | (refine (HP.out _).mono ?_
               rintro e w1 ⟨rfl, hB1⟩
               try have hz := (toList_nil s).1 (by assumption)
               have hq : ownG 3 n s 0 = if printed s = true then Option.none else some 2 := by (unfold ownG; rw [if_neg (by omega), if_neg (by omega), if_neg (by omega)])
               rw [hq] at HW
               have HST1 := Lib.hid (HST.out.below hB1)
               have c3 := HST1.out.2.1.c3
               clear hB1 hq HST c1 c2
               cases hpr : printed s
               all_goals rw [hpr] at HW
               · go_wp2_with fail
                 go_ret
                 exact ⟨.inl ⟨2, HW.out.symm, rfl⟩, HST1.out.2.2⟩
               · clear hpr
                 simp only [if_true] at HW
                 go_wp2_with fail
                 clear c3
                 go_loopw [9] (fun i wr => ∃ (j : Nat) (lv : Int), j ≤ 0 ∧ i = .int .i64 j ∧ 0 ≤ lv ∧ lv ≤ 4096 ∧ OSt bl w 3 n s a 0 c (4096 - lv) wr ∧ Hid (Q = walkL (([] : List Val).drop j) (deep + 1) lv)) (fun i _ => 0)
                 case atStart => exact ⟨0, left - (1 + co), Nat.zero_le _, rfl, by omega, by omega, by have h0 := HST1.out; rw [show 4096 - left + 1 + co = 4096 - (left - (1 + co)) by omega] at h0; exact h0, HW.out.symm⟩
                 case round =>
                   obtain ⟨j, lv, hj, rfl, hlv1, hlv2, hst, hQr⟩ := hrel
                   have c3 := hst.2.1.c3
                   have HS2 := Lib.hid hst
                   clear HST1
                   by_cases hlt : j < ([] : List Val).length
                   · simp at hlt
                   · have hQ2 := hQr.out
                     rw [List.drop_eq_nil_of_le (by first | omega | (simp only [List.length_nil]; omega)), walkL] at hQ2
                     have HQ2 := Lib.hid hQ2
                     clear hQ2 hQr hst HW
                     go_wp2_with fail
                     go_ret
                     exact ⟨.inr ⟨lv, HQ2.out, rfl, HS2.out.1⟩, HS2.out.2.2⟩)
      · go_wp2_with fail
        all_goals first
          | (go_ret
             try have hz := mt (toList_nil s).2 (by assumption)
             have hq : ownG 4 0 s l.length = some 2 := by (unfold ownG; rw [if_neg (by omega), if_neg (by omega), if_pos (by omega)])
             rw [hq] at HW
             exact ⟨.inl ⟨2, HW.out.symm, rfl⟩, HST.out.2.2⟩)
          | (refine (HP.out _).mono ?_
             rintro e w1 ⟨rfl, hB1⟩
             try have hz := (toList_nil s).1 (by assumption)
             have hq : ownG 4 0 s l.length = if printed s = true then Option.none else some 2 := by (unfold ownG; rw [if_neg (by omega), if_neg (by omega), if_neg (by omega)])
             rw [hq] at HW
             have HST1 := Lib.hid (HST.out.below hB1)
             have c3 := HST1.out.2.1.c3
             clear hB1 hq HST c1 c2
             cases hpr : printed s
             all_goals rw [hpr] at HW
             · go_wp2_with fail
               go_ret
               exact ⟨.inl ⟨2, HW.out.symm, rfl⟩, HST1.out.2.2⟩
             · clear hpr
               simp only [if_true] at HW
               go_wp2_with fail
               clear c3
               go_loopw [9] (fun i wr => ∃ (j : Nat) (lv : Int), j ≤ l.length ∧ i = .int .i64 j ∧ 0 ≤ lv ∧ lv ≤ 4096 ∧ OSt bl w 4 0 s a l.length c (4096 - lv) wr ∧ Hid (Q = walkL (l.drop j) (deep + 1) lv)) (fun i _ => l.length - (intOf i).toNat)
               case atStart => exact ⟨0, left - (1 + co), Nat.zero_le _, rfl, by omega, by omega, by have h0 := HST1.out; rw [show 4096 - left + 1 + co = 4096 - (left - (1 + co)) by omega] at h0; exact h0, HW.out.symm⟩
               case round =>
                 obtain ⟨j, lv, hj, rfl, hlv1, hlv2, hst, hQr⟩ := hrel
                 have c3 := hst.2.1.c3
                 have HS2 := Lib.hid hst
                 clear HST1
                 by_cases hlt : j < l.length
                 · have hRr := HA.out.1.keep (fun k' hk' => hst.2.2.block k' (by have : k' < bl := hk'; omega) (by have : k' < bl := hk'; omega)) (fun _ h => h)
                   obtain ⟨b, o, rfl, hs, hat⟩ := hRr.item j hlt
                   obtain ⟨ff, a', c', g0, g1, g2, g3, hsub⟩ := repAt_iff.1 hat
                   have hQ2 := hQr.out
                   rw [List.drop_eq_getElem_cons hlt, walkL] at hQ2
                   have hsize : SizeOf.sizeOf l[j] < SizeOf.sizeOf (Val.mk 4 0 s l) := sizeOf_item (Val.mk 4 0 s l) j hlt
                   have hsm := smallL_get HSM.out j hlt
                   generalize l[j] = y at ff g0 g1 g2 g3 hsub hQ2 hsize hsm
                   have HC := Lib.hid (IH.out y (deep + 1) lv a' c' wr (by omega) (by omega) (by omega) hlv1 hlv2 ff hsm hsub hst.1)
                   have hle := walkM_le y (deep + 1) lv
                   generalize walkM y (deep + 1) lv = wy at HC hQ2 hle
                   have HQ2 := Lib.hid hQ2
                   have HLE := Lib.hid hle
                   clear hQ2 hle hsub hat hRr ff hQr hst hsm HW
                   go_wp2_with fail
                   refine HC.out.mono ?_
                   rintro e w2 ⟨(⟨g, hg, rfl⟩ | ⟨lv', hg, rfl, hN2⟩), hB2⟩
                   · have HG := Lib.hid hg
                     have hcg : (codeOf g != 0) = true := by unfold codeOf; split; rfl; split; rfl; split <;> rfl
                     clear hg
                     go_wp2_with fail
                     go_ret
                     refine ⟨.inl ⟨g, ?_, rfl⟩, HS2.out.2.2.trans (hB2.mono HS2.out.2.2.size)⟩
                     rw [HQ2.out, HG.out]
                   · have HG := Lib.hid hg
                     have hst2 := Lib.hid (HS2.out.bel hN2 hb hB2)
                     clear hg hN2 hB2
                     go_wp2_with fail
                     have h3 := HLE.out lv' HG.out
                     go_roundw
                     case rel => exact ⟨j + 1, lv', by omega, by go_num, by omega, by omega, hst2.out, by have h4 := HQ2.out; rw [HG.out] at h4; exact h4⟩
                     case measure => simp [intOf]; omega
                 · have hQ2 := hQr.out
                   rw [List.drop_eq_nil_of_le (by first | omega | (simp only [List.length_nil]; omega)), walkL] at hQ2
                   have HQ2 := Lib.hid hQ2
                   clear hQ2 hQr hst HW
                   go_wp2_with fail
                   go_ret
                   exact ⟨.inr ⟨lv, HQ2.out, rfl, HS2.out.1⟩, HS2.out.2.2⟩)
end Go.Proofs.YtmkghfkikclodaaDoor
