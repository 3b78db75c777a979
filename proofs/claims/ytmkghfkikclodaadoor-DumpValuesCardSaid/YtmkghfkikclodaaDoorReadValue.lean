/- dump.ReadValue: the value at the beginning of bytes. -/
import Derived.Test.YtmkghfkikclodaaDoorValid
namespace Go.Proofs.YtmkghfkikclodaaDoor
open Go.RowKit

def zeroVal : Val := .mk 0 0 .empty []
/-- the value, how many bytes, the error -/
def readM (bs : List UInt8) : Val × Nat × Option Nat :=
  if (rightM bs (0, Option.none)).2.2.isSome = true then (zeroVal, 0, (rightM bs (0, Option.none)).2.2) else ((rightM bs (0, Option.none)).1, (rightM bs (0, Option.none)).2.1, Option.none)

def ReadOut (p : Nat → Addr) (W : World) (q : Val × Nat × Option Nat) (e : Ending) (w' : World) : Prop :=
  ∃ v, e = .returned (.tuple #[v, .int .i64 q.2.1, errO p q.2.2]) ∧ RepV (New W.heap.size w'.heap.size) w' v q.1 ∧ Below W.heap.size W w'

theorem ret10 {w : World} {g : Nat} {x0 x1 x2 x3 : Value} {tmps : Array Value} (ht : tmps.getD 2 undef = .pointer (some ⟨g, 0, none⟩)) (hv : VB w g x0 x1 x2 x3) :
    (results Tryd.f10 tmps).run Tryd.prog w = .ok (.tuple #[.agg #[x0, x1, x2, x3], tmps.getD 3 undef, tmps.getD 4 undef]) w := by
  have ht' : tmps[2]?.getD undef = .pointer (some ⟨g, 0, none⟩) := by simpa using ht
  have hl := run_loadVar_row (P := Tryd.prog) w g 24 24 #[x0, x1, x2, x3] (0, 0) _ hv Tryd.underlying24 rfl info24
  simp [results, Tryd.results10, ht', asAddr, hl]

set_option maxRecDepth 100000 in
set_option maxHeartbeats 1000000 in
theorem readValue_any (p : Nat → Addr) (w : World) (bv : Value) (bs : List UInt8) (hlen : bs.length ≤ 140737488355328) (hbs : Bs w.heap.size w bv bs) (hE : Errs 5 p w) (hw : 5 ≤ w.heap.size) :
    Calls Tryd.prog 10 #[bv] w (ReadOut p w (readM bs)) := by
  have hal := (bal w (.cells #[.int .i64 0, .int .i64 0, .string ⟨#[]⟩, .slice none 0 0] 24)).trans ((bal (w.alloc (.cells #[.int .i64 0, .int .i64 0, .string ⟨#[]⟩, .slice none 0 0] 24)) (.cells #[bv, .int .i64 0, .nilIface] 57)).mono (by simp))
  have hrd : RdAt p ((w.alloc (.cells #[.int .i64 0, .int .i64 0, .string ⟨#[]⟩, .slice none 0 0] 24)).alloc (.cells #[bv, .int .i64 0, .nilIface] 57)) (w.heap.size + 1) bv 0 Option.none := by
    have := heap_alloc_new (w.alloc (.cells #[.int .i64 0, .int .i64 0, .string ⟨#[]⟩, .slice none 0 0] 24)) (.cells #[bv, .int .i64 0, .nilIface] 57)
    simpa [RdAt, errO] using this
  have hv := (VB.new w (.int .i64 0) (.int .i64 0) (.string ⟨#[]⟩) (.slice none 0 0)).below (bal (w.alloc (.cells #[.int .i64 0, .int .i64 0, .string ⟨#[]⟩, .slice none 0 0] 24)) (.cells #[bv, .int .i64 0, .nilIface] 57)) (by simp)
  have HN := Lib.hid (right_any p w.heap.size (w.heap.size + 1) bs bv (by omega) (by omega) hlen _ (0, Option.none) hrd (hbs.bel (Bel.of (b := w.heap.size + 1) hal) (by omega) (Nat.le_refl _)) (hE.below hal hw) (Nat.zero_le _))
  have HA := Lib.hid (And.intro hv hal)
  have hbvs : ∃ a n c, bv = .slice a n c := by obtain ⟨a, c, h, _⟩ := hbs; exact ⟨a, _, c, h⟩
  obtain ⟨a0, n0, cc0, rfl⟩ := hbvs
  unfold readM
  clear hbs hE hv hrd hal
  generalize rightM bs (0, Option.none) = q at HN
  obtain ⟨x, pos, err⟩ := q
  simp only at HN ⊢
  generalize hQ : (if err.isSome = true then (zeroVal, 0, err) else (x, pos, Option.none)) = Q
  have HQ := Lib.hid hQ
  clear hQ
  go_enter Tryd.func10, Tryd.ntmps10
  go_wp2_with fail
  refine HN.out.mono ?_
  rintro e w1 ⟨v, rfl, ⟨a, c, rfl, hf, hs⟩, hr, hB⟩
  obtain ⟨hv, hal⟩ := HA.out
  have hsz := hB.size
  simp only [World.size_alloc] at hsz hs
  have hB1 : Below w.heap.size w w1 := hal.trans (hB.below (by omega) (by simp; omega))
  have hv1 := hv.bel hB (by simp; omega) (by omega)
  have hal := bal w1 (.cells #[.int .i64 x.kind, .int .i64 x.n, .string x.s, .slice a x.l.length c] 24)
  have hv2 := hv1.below hal hv1.lt
  have h5 := VB.new w1 (.int .i64 x.kind) (.int .i64 x.n) (.string x.s) (.slice a x.l.length c)
  have hr2 := hr.below hal hr.lt
  have hs2 := hs.keep (T := New (w.heap.size + 1) w1.heap.size) (fun k hk => hal.block k hk.2) (fun k hk => ⟨by have := hk.1; omega, hk.2⟩)
  have hB2 : Below w.heap.size w _ := hB1.alloc hB1.size (.cells #[.int .i64 x.kind, .int .i64 x.n, .string x.s, .slice a x.l.length c] 24)
  have c1 := hr2.c1
  have c2 := hr2.c2
  obtain ⟨d0, d1, d2, d3, -⟩ := h5.all
  obtain ⟨c0', c1', c2', c3', f0, f1, f2, f3⟩ := hv2.all
  have FA := Lib.hid (And.intro hv2 (And.intro hs2 hB2))
  have HF := Lib.hid hf
  clear hr hv hv1 hv2 hs hs2 hB hB1 hB2 h5 hr2 hal hf
  cases err with
  | some g =>
    have e1 : Hid (Q = (zeroVal, 0, some g)) := by show _ = _; rw [← HQ.out]; rfl
    simp only [errO, errV] at c2
    clear HQ
    go_wp2
    go_region
    all_goals go_wp2
    all_goals
      obtain ⟨hv2, hs2, hB2⟩ := FA.out
      have hvf := hv2.set (.int .i64 0) (.int .i64 0) (.string ⟨#[]⟩) (.slice none 0 0)
      refine bodyPost_ret (ret10 (x0 := .int .i64 0) (x1 := .int .i64 0) (x2 := .string ⟨#[]⟩) (x3 := .slice none 0 0) rfl hvf) rfl ?_
      rw [e1.out]
      have hB3 := ((((hB2.setCell (p := ⟨w.heap.size, 0, none⟩) (Nat.le_refl _) (.int .i64 0)).setCell (p := ⟨w.heap.size, 1, none⟩) (Nat.le_refl _) (.int .i64 0)).setCell (p := ⟨w.heap.size, 2, none⟩) (Nat.le_refl _) (.string ⟨#[]⟩)).setCell (p := ⟨w.heap.size, 3, none⟩) (Nat.le_refl _) (.slice none 0 0))
      exact ⟨_, rfl, ⟨none, 0, rfl, fits_zero, .inl rfl⟩, ⟨hB3.os, hB3.tape, hB3.output, hB3.size, hB3.block⟩⟩
  | none =>
    have e1 : Hid (Q = (x, pos, Option.none)) := by show _ = _; rw [← HQ.out]; rfl
    simp only [errO] at c2
    clear HQ
    go_wp2
    go_region
    all_goals go_wp2
    all_goals
      obtain ⟨hv2, hs2, hB2⟩ := FA.out
      have hvf := hv2.set (.int .i64 x.kind) (.int .i64 x.n) (.string x.s) (.slice a x.l.length c)
      refine bodyPost_ret (ret10 (x0 := .int .i64 x.kind) (x1 := .int .i64 x.n) (x2 := .string x.s) (x3 := .slice a x.l.length c) rfl hvf) rfl ?_
      rw [e1.out]
      have hl := fin26 hs2 (by simp) (.int .i64 x.kind) (.int .i64 x.n) (.string x.s) (.slice a x.l.length c)
      have hB3 := ((((hB2.setCell (p := ⟨w.heap.size, 0, none⟩) (Nat.le_refl _) (.int .i64 x.kind)).setCell (p := ⟨w.heap.size, 1, none⟩) (Nat.le_refl _) (.int .i64 x.n)).setCell (p := ⟨w.heap.size, 2, none⟩) (Nat.le_refl _) (.string x.s)).setCell (p := ⟨w.heap.size, 3, none⟩) (Nat.le_refl _) (.slice a x.l.length c))
      refine ⟨_, rfl, ⟨a, c, rfl, HF.out, ?_⟩, ⟨hB3.os, hB3.tape, hB3.output, hB3.size, hB3.block⟩⟩
      refine RepSl.keep (w := _) (w' := _) (S := _) (T := _) ?_ ?_ hl
      · exact fun _ _ => rfl
      · exact fun _ h => h
end Go.Proofs.YtmkghfkikclodaaDoor
