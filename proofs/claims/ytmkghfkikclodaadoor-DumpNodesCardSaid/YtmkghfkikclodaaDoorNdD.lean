/- Programs: the same twice; their bytes. -/
import Derived.Test.YtmkghfkikclodaaDoorM07
set_option linter.unusedVariables false
set_option linter.unusedSimpArgs false
namespace Go.Proofs.YtmkghfkikclodaaDoor
open Go.RowKit

theorem Since.refl (w : World) : Since w w := ⟨Nat.le_refl _, fun _ _ => rfl⟩
theorem Since.trans {u v w : World} (h : Since u v) (k : Since v w) : Since u w := ⟨Nat.le_trans h.1 k.1, fun i hi => (k.2 i (Nat.lt_of_lt_of_le hi h.1)).trans (h.2 i hi)⟩
theorem Since.of {w w' : World} (h : Below w.heap.size w w') : Since w w' := ⟨h.size, h.block⟩
theorem Since.nv {w w' : World} {g : Nat} {x0 x1 x2 x3 x4 x5 x6 x7 : Value} (h : Since w w') (hv : NV w g x0 x1 x2 x3 x4 x5 x6 x7) : NV w' g x0 x1 x2 x3 x4 x5 x6 x7 := (h.2 g hv.lt).trans hv

set_option maxRecDepth 100000 in
set_option maxHeartbeats 2000000 in
theorem sameNodes_same (m : Nat) : ∀ (l : List Nd) (a a' : Option Addr) (c c' : Nat) (w : World), SizeOf.sizeOf l ≤ m → l.length ≤ 9223372036854775807 → RepNSl (Lo w.heap.size) w a l → RepNSl (Lo w.heap.size) w a' l →
    Calls Tryd.prog 20 #[.slice a l.length c, .slice a' l.length c'] w (TrueOut w) := by
  induction m with
  | zero => intro l a a' c c' w h; cases l <;> simp at h
  | succ m ih =>
    intro l a a' c c' w hm hlen hR hR'
    have IH := Lib.hid ih
    clear ih
    have HR := Lib.hid (And.intro hR hR')
    clear hR hR'
    -- one node
    have HN : Hid (∀ (x : Nd) (w : World) (a1 a2 a1' a2' : Option Addr) (c1 c2 c1' c2' : Nat), SizeOf.sizeOf x < SizeOf.sizeOf l → Fits x.op x.line x.s x.l.length → Fits x.v.kind x.v.n x.v.s x.v.l.length →
        RepSl (Lo w.heap.size) w a1 x.v.l → RepNSl (Lo w.heap.size) w a2 x.l → RepSl (Lo w.heap.size) w a1' x.v.l → RepNSl (Lo w.heap.size) w a2' x.l →
        Calls Tryd.prog 34 #[.agg #[.int .i64 x.op, .int .i64 x.line, .string x.s, .int .i64 x.v.kind, .int .i64 x.v.n, .string x.v.s, .slice a1 x.v.l.length c1, .slice a2 x.l.length c2],
          .agg #[.int .i64 x.op, .int .i64 x.line, .string x.s, .int .i64 x.v.kind, .int .i64 x.v.n, .string x.v.s, .slice a1' x.v.l.length c1', .slice a2' x.l.length c2']] w (TrueOut w)) := by
      show ∀ _, _
      intro x w a1 a2 a1' a2' c1 c2 c1' c2' hs ff fv h1 h2 h1' h2'
      have hsz := sizeOf_nd x
      have fl := ff.2.2.2.2.2
      have hv := (NV.new w (.int .i64 x.op) (.int .i64 x.line) (.string x.s) (.int .i64 x.v.kind) (.int .i64 x.v.n) (.string x.v.s) (.slice a1 x.v.l.length c1) (.slice a2 x.l.length c2)).below
        (bal _ (.cells #[.int .i64 x.op, .int .i64 x.line, .string x.s, .int .i64 x.v.kind, .int .i64 x.v.n, .string x.v.s, .slice a1' x.v.l.length c1', .slice a2' x.l.length c2'] 63)) (by simp)
      have hv' := NV.new (w.alloc (.cells #[.int .i64 x.op, .int .i64 x.line, .string x.s, .int .i64 x.v.kind, .int .i64 x.v.n, .string x.v.s, .slice a1 x.v.l.length c1, .slice a2 x.l.length c2] 63))
        (.int .i64 x.op) (.int .i64 x.line) (.string x.s) (.int .i64 x.v.kind) (.int .i64 x.v.n) (.string x.v.s) (.slice a1' x.v.l.length c1') (.slice a2' x.l.length c2')
      have hal := (bal w (.cells #[.int .i64 x.op, .int .i64 x.line, .string x.s, .int .i64 x.v.kind, .int .i64 x.v.n, .string x.v.s, .slice a1 x.v.l.length c1, .slice a2 x.l.length c2] 63)).trans
        ((bal (w.alloc (.cells #[.int .i64 x.op, .int .i64 x.line, .string x.s, .int .i64 x.v.kind, .int .i64 x.v.n, .string x.v.s, .slice a1 x.v.l.length c1, .slice a2 x.l.length c2] 63))
          (.cells #[.int .i64 x.op, .int .i64 x.line, .string x.s, .int .i64 x.v.kind, .int .i64 x.v.n, .string x.v.s, .slice a1' x.v.l.length c1', .slice a2' x.l.length c2'] 63)).mono (by simp))
      simp only [World.size_alloc] at hv'
      obtain ⟨d0, d1, d2, d3, d4, d5, d6, d7⟩ := hv.all
      obtain ⟨e0, e1, e2, e3, e4, e5, e6, e7⟩ := hv'.all
      have HV := Lib.hid (And.intro hv (And.intro hv' hal))
      have HC := Lib.hid fun (w' : World) (h : Since w w') => IH.out x.l a2 a2' c2 c2' w' (by omega) fl (h.repN (Nat.le_refl _) h2) (h.repN (Nat.le_refl _) h2')
      have HD := Lib.hid fun (w' : World) (h : Since w w') => sameValue_same (SizeOf.sizeOf x.v) x.v a1 a1' c1 c1' w' (Nat.le_refl _) fv (h.rep (Nat.le_refl _) h1) (h.rep (Nat.le_refl _) h1')
      clear hv hv' hal h1 h2 h1' h2' ff fv
      go_enter Tryd.func34, Tryd.ntmps34
      go_wp2_with fail
      refine (HC.out _ (Since.of HV.out.2.2)).mono ?_
      rintro e w1 ⟨rfl, hB⟩
      obtain ⟨hv, hv', hal⟩ := HV.out
      have hv1 := hv.below hB hv.lt
      have hv1' := hv'.below hB hv'.lt
      have hal1 := hal.trans (hB.mono hal.size)
      clear d0 d1 d2 d3 d4 d5 d6 d7 e0 e1 e2 e3 e4 e5 e6 e7 hv hv' hal hB
      obtain ⟨d0, d1, d2, d3, d4, d5, d6, d7⟩ := hv1.all
      obtain ⟨e0, e1, e2, e3, e4, e5, e6, e7⟩ := hv1'.all
      have HV1 := Lib.hid (And.intro hv1 (And.intro hv1' hal1))
      clear hv1 hv1' hal1
      go_wp2_with fail
      refine (HD.out _ (Since.of HV1.out.2.2)).mono ?_
      rintro e w2 ⟨rfl, hB⟩
      obtain ⟨hv, hv', hal⟩ := HV1.out
      have hv1 := hv.below hB hv.lt
      have hv1' := hv'.below hB hv'.lt
      have hal1 := hal.trans (hB.mono hal.size)
      clear d0 d1 d2 d3 d4 d5 d6 d7 e0 e1 e2 e3 e4 e5 e6 e7 hv hv' hal hB
      obtain ⟨d0, d1, d2, d3, d4, d5, d6, d7⟩ := hv1.all
      obtain ⟨e0, e1, e2, e3, e4, e5, e6, e7⟩ := hv1'.all
      clear hv1 hv1'
      go_wp2
      go_ret
      exact ⟨rfl, hal1⟩
    go_enter Tryd.func20, Tryd.ntmps20
    go_wp2_with fail
    go_loopw [5] (fun i wr => ∃ k : Nat, k ≤ l.length ∧ i = .int .i64 k ∧ Below w.heap.size w wr) (fun i _ => l.length - (intOf i).toNat)
    case atStart => exact ⟨0, Nat.zero_le _, rfl, Below.refl _ _⟩
    case round =>
      obtain ⟨k, hk, rfl, hB⟩ := hrel
      by_cases hlt : k < l.length
      · obtain ⟨b, o, rfl, hs, hat⟩ := (HR.out.1.below hB).item k hlt
        obtain ⟨b', o', rfl, hs', hat'⟩ := (HR.out.2.below hB).item k hlt
        obtain ⟨ff, fv, a1, c1, a2, c2, g0, g1, g2, g3, g4, g5, g6, g7, hsv, hsub⟩ := repNAt_iff.1 hat
        obtain ⟨-, -, a1', c1', a2', c2', g0', g1', g2', g3', g4', g5', g6', g7', hsv', hsub'⟩ := repNAt_iff.1 hat'
        have hsize := sizeOf_ndl l k hlt
        have hszr := hB.size
        generalize l[k] = y at ff fv g0 g1 g2 g3 g4 g5 g6 g7 hsv hsub hsize g0' g1' g2' g3' g4' g5' g6' g7' hsv' hsub'
        have HC := Lib.hid fun (w' : World) (h : Since wr w') => HN.out y w' a1 a2 a1' a2' c1 c2 c1' c2' hsize ff fv (h.rep hszr hsv) (h.repN hszr hsub) (h.rep hszr hsv') (h.repN hszr hsub')
        clear hat hat' hsub hsub' ff fv hsv hsv'
        go_wp2_with fail
        go_region_law (go_simp; go_at_call 34; go_loud (refine (HC.out _ (by exact ⟨Nat.le_refl _, fun _ _ => rfl⟩)).mono ?_; rintro e w4 ⟨rfl, hB4⟩))
        all_goals go_wp2
        all_goals
          go_roundw
          case rel => exact ⟨k + 1, by omega, by go_num, hB.trans (Below.mono ⟨hB4.os, hB4.tape, hB4.output, hB4.size, hB4.block⟩ hszr)⟩
          case measure => simp [intOf]; omega
      · go_wp2
        go_ret
        exact ⟨rfl, hB⟩
end Go.Proofs.YtmkghfkikclodaaDoor
