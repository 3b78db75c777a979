/- val.Valid; what a reader reads that is right; ReadValue. -/
import Derived.Test.YtmkghfkikclodaaDoorWalkV
import Derived.Test.YtmkghfkikclodaaDoorReadV
namespace Go.Proofs.YtmkghfkikclodaaDoor
open Go.RowKit

def validM (x : Val) : Option Nat := match walkM x 1 4096 with | .error g => some g | .ok _ => Option.none

theorem valid_any (p : Nat → Addr) (x : Val) (a : Option Addr) (c : Nat) (w : World) (hw : 5 ≤ w.heap.size) (hf : Fits x.kind x.n x.s x.l.length) (hR : RepSl (Lo w.heap.size) w a x.l) (hE : Errs 5 p w) :
    Calls Tryd.prog 23 #[.agg #[.int .i64 x.kind, .int .i64 x.n, .string x.s, .slice a x.l.length c]] w (ErrOut p w (validM x)) := by
  have HC := Lib.hid fun (o : Obj) => walk_any p (w.heap.size + 1) (by omega) (SizeOf.sizeOf x) x 1 4096 a c ((w.alloc o).alloc (.cells #[.int .i64 4096] 3)) (Nat.le_refl _) (by decide) (by decide) (by decide) (by decide) hf
    ((hR.below ((bal w o).trans ((bal (w.alloc o) _).mono (by simp)))).keep (fun _ _ => rfl) (fun k hk => Nat.lt_of_lt_of_le hk (Nat.le_succ _)))
    (by have := heap_alloc_new (w.alloc o) (.cells #[.int .i64 4096] 3); simpa [NB] using this)
    (hE.below ((bal w o).trans ((bal (w.alloc o) _).mono (by simp))) (by omega))
  unfold validM
  clear hR hE
  generalize walkM x 1 4096 = q at HC
  go_enter Tryd.func23, Tryd.ntmps23
  go_wp2_with fail
  refine (HC.out _).mono ?_
  rintro e w2 ⟨(⟨g, rfl, rfl⟩ | ⟨lv', rfl, rfl, hN2⟩), hB2⟩
  · go_wp2
    go_ret
    exact ⟨rfl, (bal w _).trans (((bal (w.alloc _) _).mono (by simp)).trans (hB2.below (by omega) (by simp; omega)))⟩
  · clear hN2
    go_wp2
    go_ret
    exact ⟨rfl, (bal w _).trans (((bal (w.alloc _) _).mono (by simp)).trans (hB2.below (by omega) (by simp; omega)))⟩

def rightM (bs : List UInt8) (r : Rd) : Val × Rd :=
  if (readV bs 40 r).2.2.isSome = true then readV bs 40 r
  else match validM (readV bs 40 r).1 with
    | Option.none => readV bs 40 r
    | some g => ((readV bs 40 r).1, (readV bs 40 r).2.fail g)

theorem ret26 {w : World} {g : Nat} {x0 x1 x2 x3 : Value} {tmps : Array Value} (ht : tmps.getD 2 undef = .pointer (some ⟨g, 0, none⟩)) (hv : VB w g x0 x1 x2 x3) : (results Tryd.f26 tmps).run Tryd.prog w = .ok (.agg #[x0, x1, x2, x3]) w :=
  results_cell_row (P := Tryd.prog) Tryd.results26 tmps w g 24 #[x0, x1, x2, x3] (0, 0) _ ht hv Tryd.underlying24 rfl info24

theorem fin26 {w2 : World} {g B : Nat} {a : Option Addr} {l : List Val} (hs : RepSl (New (g + 1) B) w2 a l) (hB : B ≤ w2.heap.size) (y0 y1 y2 y3 : Value) :
    RepSl (New g ((((w2.setCell ⟨g, 0, none⟩ y0).setCell ⟨g, 1, none⟩ y1).setCell ⟨g, 2, none⟩ y2).setCell ⟨g, 3, none⟩ y3).heap.size)
      ((((w2.setCell ⟨g, 0, none⟩ y0).setCell ⟨g, 1, none⟩ y1).setCell ⟨g, 2, none⟩ y2).setCell ⟨g, 3, none⟩ y3) a l := by
  have hsz : ((((w2.setCell ⟨g, 0, none⟩ y0).setCell ⟨g, 1, none⟩ y1).setCell ⟨g, 2, none⟩ y2).setCell ⟨g, 3, none⟩ y3).heap.size = w2.heap.size := by simp [World.setCell]
  refine hs.keep (fun k hk => ?_) (fun k hk => ⟨by have := hk.1; omega, by have := hk.2; omega⟩)
  have hk' : k ≠ g := by have := hk.1; omega
  rw [Go.Deep.blk_setCell_other _ _ _ _ hk', Go.Deep.blk_setCell_other _ _ _ _ hk', Go.Deep.blk_setCell_other _ _ _ _ hk', Go.Deep.blk_setCell_other _ _ _ _ hk']

theorem right_any (p : Nat → Addr) (B0 b : Nat) (bs : List UInt8) (bv : Value) (hB0 : B0 ≤ b) (hb5 : 5 ≤ b) (hlen : bs.length ≤ 140737488355328) (w : World) (r : Rd) (h : RdAt p w b bv r.1 r.2) (hbs : Bs B0 w bv bs) (hE : Errs 5 p w) (hpos : r.1 ≤ bs.length) :
    Calls Tryd.prog 26 #[.pointer (some ⟨b, 0, none⟩)] w (VPost p b bv w (rightM bs r).1 (rightM bs r).2.1 (rightM bs r).2.2) := by
  have hb := h.lt
  have hal := bal w (.cells #[.int .i64 0, .int .i64 0, .string ⟨#[]⟩, .slice none 0 0] 24)
  have HN := Lib.hid (readV_any p B0 b bs bv hB0 hb5 hlen 40 _ r 1 rfl (h.below hal hb) (hbs.bel (Bel.of hal) hB0 (by omega)) (hE.below hal (by omega)) hpos)
  have hv := VB.new w (.int .i64 0) (.int .i64 0) (.string ⟨#[]⟩) (.slice none 0 0)
  have HA := Lib.hid (And.intro hv hE)
  unfold rightM
  clear h hbs hE hv
  generalize readV bs 40 r = q at HN
  obtain ⟨x, r1⟩ := q
  simp only at HN ⊢
  generalize hQ : (if r1.2.isSome = true then (x, r1) else match validM x with | Option.none => (x, r1) | some g => (x, r1.fail g)) = Q
  have HQ := Lib.hid hQ
  clear hQ hal
  go_enter Tryd.func26, Tryd.ntmps26
  go_wp2_with fail
  refine HN.out.mono ?_
  rintro e w1 ⟨v, rfl, ⟨a, c, rfl, hf, hs⟩, hr, hB⟩
  obtain ⟨hv, hE⟩ := HA.out
  have hsz := hB.size
  simp only [World.size_alloc] at hsz hs
  have hB1 : Bel b w.heap.size w w1 := (Bel.of (bal w _)).trans (hB.mono (by simp))
  have hv1 := hv.bel hB (by simp) (by omega)
  have hal := bal w1 (.cells #[.int .i64 x.kind, .int .i64 x.n, .string x.s, .slice a x.l.length c] 24)
  have hv2 := hv1.below hal hv1.lt
  have h5 := VB.new w1 (.int .i64 x.kind) (.int .i64 x.n) (.string x.s) (.slice a x.l.length c)
  have hr2 := hr.below hal hr.lt
  have hE2 := (hE.bel hB1 (by omega) (by omega)).below hal (by omega)
  have hs2 := hs.keep (T := New (w.heap.size + 1) w1.heap.size) (fun k hk => hal.block k hk.2) (fun _ hk => hk)
  have hB2 := hB1.alloc hB1.size (.cells #[.int .i64 x.kind, .int .i64 x.n, .string x.s, .slice a x.l.length c] 24)
  have c2 := hr2.c2
  obtain ⟨d0, d1, d2, d3, -⟩ := h5.all
  obtain ⟨c0', c1', c2', c3', f0, f1, f2, f3⟩ := hv2.all
  have hbl := hr.lt
  have FA := Lib.hid (And.intro hr2 (And.intro hv2 (And.intro h5 (And.intro hE2 (And.intro hs2 hB2)))))
  have HF := Lib.hid hf
  clear hr hv hv1 hv2 hE hE2 hs hs2 hB hB1 hB2 h5 hr2 hal hf
  cases hre : r1.2 with
  | some g0 =>
    rw [hre] at c2
    simp only [errO, errV] at c2
    have e1 : Hid (Q = (x, r1)) := by show _ = _; rw [← HQ.out, hre]; rfl
    have HRE := Lib.hid hre
    clear hre HQ
    go_wp2
    obtain ⟨hr2, hv2, h5, hE2, hs2, hB2⟩ := FA.out
    refine bodyPost_ret (ret26 rfl (hv2.set _ _ _ _)) rfl ?_
    rw [e1.out]
    exact ⟨_, rfl, ⟨a, c, rfl, HF.out, fin26 hs2 (by simp) _ _ _ _⟩, hr2.set (by omega) _ _ _ _, hB2.set4 (Nat.le_refl _) _ _ _ _⟩
  | none =>
    rw [hre] at c2
    simp only [errO] at c2
    have HV := Lib.hid (valid_any p x a c _ (by simp; omega) HF.out (FA.out.2.2.2.2.1.keep (fun _ _ => rfl) (fun k hk => by have := hk.2; show k < _; simp; omega)) FA.out.2.2.2.1)
    have HQ2 : Hid (Q = match validM x with | Option.none => (x, r1) | some g => (x, r1.fail g)) := by show _ = _; rw [← HQ.out, hre]; rfl
    have HRE := Lib.hid hre
    clear hre HQ
    generalize validM x = og at HV HQ2
    go_wp2_with fail
    refine HV.out.mono ?_
    rintro e w3 ⟨rfl, hB3⟩
    obtain ⟨hr2, hv2, h5, hE2, hs2, hB2⟩ := FA.out
    have hsz3 := hB3.size
    simp only [World.size_alloc] at hsz3 hB3
    have hr3 := hr2.below hB3 (by omega)
    have hv3 := hv2.below hB3 (by omega)
    have h53 := h5.below hB3 (by omega)
    have hE3 := hE2.below hB3 (by omega)
    have hs3 := hs2.keep (w' := w3) (T := New (w.heap.size + 1) w1.heap.size) (fun k hk => hB3.block k (by have := hk.2; omega)) (fun _ hk => hk)
    have hB4 : Bel b w.heap.size w w3 := hB2.trans ((Bel.of hB3).mono (by omega))
    cases og with
    | none =>
      have e1 : Hid (Q = (x, r1)) := HQ2
      obtain ⟨c0', c1', c2', c3', f0, f1, f2, f3⟩ := hv3.all
      obtain ⟨d0, d1, d2, d3, -⟩ := h53.all
      have FB := Lib.hid (And.intro hr3 (And.intro hv3 (And.intro hs3 hB4)))
      simp only [errO]
      clear hr2 hv2 h5 hE2 hs2 hB2 hr3 hv3 h53 hE3 hs3 hB4 hB3 HQ2
      go_wp2
      obtain ⟨hr3, hv3, hs3, hB4⟩ := FB.out
      refine bodyPost_ret (ret26 rfl (hv3.set _ _ _ _)) rfl ?_
      rw [e1.out]
      exact ⟨_, rfl, ⟨a, c, rfl, HF.out, fin26 hs3 (by omega) _ _ _ _⟩, hr3.set (by omega) _ _ _ _, hB4.set4 (Nat.le_refl _) _ _ _ _⟩
    | some g =>
      have e1 : Hid (Q = (x, r1.fail g)) := HQ2
      have HFA := Lib.hid (fail_any p w3 b bv r1.1 r1.2 g hr3)
      have FB := Lib.hid (And.intro hv3 (And.intro h53 (And.intro hs3 hB4)))
      simp only [errO, errV] at HFA ⊢
      clear hr2 hv2 h5 hE2 hs2 hB2 hr3 hv3 h53 hE3 hs3 hB4 hB3 HQ2
      go_wp2_with fail
      refine HFA.out.mono ?_
      rintro e w4 ⟨rfl, hr4, hB5⟩
      obtain ⟨hv3, h53, hs3, hB4⟩ := FB.out
      have hv4 := hv3.bel hB5 hv3.lt (by omega)
      have h54 := h53.bel hB5 h53.lt (by omega)
      have hs4 := hs3.keep (w' := w4) (T := New (w.heap.size + 1) w1.heap.size) (fun k hk => hB5.block k (by have := hk.2; omega) (by have := hk.1; omega)) (fun _ hk => hk)
      have hB6 : Bel b w.heap.size w w4 := hB4.trans (hB5.mono (by omega))
      have hsz5 := hB5.size
      obtain ⟨c0', c1', c2', c3', f0, f1, f2, f3⟩ := hv4.all
      obtain ⟨d0, d1, d2, d3, -⟩ := h54.all
      have FC := Lib.hid (And.intro hr4 (And.intro hv4 (And.intro hs4 hB6)))
      clear hv3 h53 hs3 hB4 hr4 hv4 h54 hs4 hB6 hB5
      go_wp2
      obtain ⟨hr4, hv4, hs4, hB6⟩ := FC.out
      refine bodyPost_ret (ret26 rfl (hv4.set _ _ _ _)) rfl ?_
      rw [e1.out]
      exact ⟨_, rfl, ⟨a, c, rfl, HF.out, fin26 hs4 (by omega) _ _ _ _⟩, hr4.set (by omega) _ _ _ _, hB6.set4 (Nat.le_refl _) _ _ _ _⟩
end Go.Proofs.YtmkghfkikclodaaDoor
