/- dump.Value; the document's word on a value; the chapter's example. -/
import Derived.Test.YtmkghfkikclodaaDoorWrite
import Derived.Test.YtmkghfkikclodaaDoorReadValue
namespace Go.Proofs.YtmkghfkikclodaaDoor
open Go.RowKit

/-- what made memory alone keeps all -/
theorem kept_of {base : Nat} {w w' : World} (h : Below w.heap.size w w') (hb : base ≤ w.heap.size) : Kept base w w' := ⟨h.os, h.tape, h.output, h.size, fun k hk _ => h.block k hk⟩

/-- dump.Value: a right value's bytes; of another one none -/
def dumpM (x : Val) : List UInt8 := if (validM x).isSome = true then [] else bytesV x

theorem dumpValue_any (p : Nat → Addr) (x : Val) (a : Option Addr) (c : Nat) (w : World) (hw : 5 ≤ w.heap.size) (hf : Fits x.kind x.n x.s x.l.length) (hR : RepSl (Lo w.heap.size) w a x.l) (hE : Errs 5 p w)
    (hl : (dumpM x).length ≤ 80000000) :
    Calls Tryd.prog 8 #[.agg #[.int .i64 x.kind, .int .i64 x.n, .string x.s, .slice a x.l.length c]] w (Laid w.heap.size w (dumpM x)) := by
  have HV := Lib.hid fun (o : Obj) => valid_any p x a c (w.alloc o) (by simp; omega) hf ((hR.below (bal w o)).keep (fun _ _ => rfl) (fun k hk => by have : k < w.heap.size := hk; show k < _; simp; omega)) (hE.below (bal w o) hw)
  have HC := Lib.hid fun (w' : World) (hb : Below w.heap.size w w') (hl : (bytesV x).length ≤ 80000000) => value_lays w.heap.size (SizeOf.sizeOf x) x a c (.slice none 0 0) [] w' (Nat.le_refl _) hf (hR.below hb) (OwnB.nil _ _ _) hb.size (by simpa using hl)
  have hv := VB.new w (.int .i64 x.kind) (.int .i64 x.n) (.string x.s) (.slice a x.l.length c)
  have HB := Lib.hid hv
  clear hR hE hv
  cases hq : validM x with
  | some g =>
    have hL : dumpM x = [] := by unfold dumpM; rw [hq]; rfl
    rw [hL]
    simp only [hq] at HV
    clear hl HC hL hq
    go_enter Tryd.func8, Tryd.ntmps8
    go_wp2_with fail
    refine (HV.out _).mono ?_
    rintro e w1 ⟨rfl, hB⟩
    simp only [errO, errV]
    go_wp2
    go_ret
    exact ⟨_, rfl, OwnB.nil _ _ _, kept_of ((bal w _).trans (hB.mono (by simp))) (Nat.le_refl _)⟩
  | none =>
    have hL : dumpM x = bytesV x := by unfold dumpM; rw [hq]; rfl
    rw [hL] at hl ⊢
    simp only [hq] at HV
    have HC2 := Lib.hid fun (w' : World) (hb : Below w.heap.size w w') => HC.out w' hb hl
    generalize bytesV x = L at HC2 ⊢
    clear hl HC hL hq
    go_enter Tryd.func8, Tryd.ntmps8
    go_wp2_with fail
    refine (HV.out _).mono ?_
    rintro e w1 ⟨rfl, hB⟩
    simp only [errO]
    have hB1 : Below w.heap.size w w1 := (bal w _).trans (hB.mono (by simp))
    have h1 := HB.out.below hB HB.out.lt
    obtain ⟨d0, d1, d2, d3, -⟩ := h1.all
    clear h1
    go_wp2_with fail
    refine (HC2.out _ hB1).mono ?_
    rintro e w2 ⟨v2, rfl, ho2, hk2⟩
    rw [List.nil_append] at ho2
    obtain ⟨a2, c2, rfl⟩ := ho2.shape
    have HO := Lib.hid ho2
    clear ho2 d0 d1 d2 d3
    go_wp2
    go_ret
    exact ⟨_, rfl, HO.out, (kept_of hB1 (Nat.le_refl _)).trans hk2⟩

/-! ### the document's word -/
theorem refValid_any (x : Val) (a : Option Addr) (c : Nat) (w : World) (hf : Fits x.kind x.n x.s x.l.length) (hs : SmallM x) (hR : RepSl (Lo w.heap.size) w a x.l) :
    Calls Tryd.prog 25 #[.agg #[.int .i64 x.kind, .int .i64 x.n, .string x.s, .slice a x.l.length c]] w (IntOut w (match validM x with | some g => codeOf g | Option.none => 0)) := by
  have HV := Lib.hid fun (o : Obj) => odd_any (w.heap.size + 1) (SizeOf.sizeOf x) x 1 4096 a c ((w.alloc o).alloc (.cells #[.int .i64 0] 79)) (Nat.le_refl _) (by decide) (by decide) (by decide) (by decide) hf hs
    ((hR.below ((bal w o).trans ((bal (w.alloc o) _).mono (by simp)))).keep (fun _ _ => rfl) (fun k hk => Nat.lt_of_lt_of_le hk (Nat.le_succ _)))
    (by have := heap_alloc_new (w.alloc o) (.cells #[.int .i64 0] 79); simpa [OB] using this)
  have hv := VB.new w (.int .i64 x.kind) (.int .i64 x.n) (.string x.s) (.slice a x.l.length c)
  have h1 := hv.below (bal (w.alloc _) (.cells #[.int .i64 0] 79)) hv.lt
  obtain ⟨d0, d1, d2, d3, -⟩ := h1.all
  unfold validM
  clear hR hv h1
  generalize walkM x 1 4096 = q at HV
  generalize hz : (match (match q with | .error g => some g | .ok _ => Option.none : Option Nat) with | some g => codeOf g | Option.none => 0) = z
  have HZ := Lib.hid hz
  clear hz
  go_enter Tryd.func25, Tryd.ntmps25
  go_wp2_with fail
  refine (HV.out _).mono ?_
  rintro e w1 ⟨(⟨g, rfl, rfl⟩ | ⟨lv, rfl, rfl, -⟩), hB⟩
  · have hz : z = codeOf g := by rw [← HZ.out]
    subst hz
    clear HZ
    go_wp2
    go_ret
    exact ⟨rfl, (bal w _).trans ((bal (w.alloc _) _).mono (by simp) |>.trans (hB.below (by omega) (by simp; omega)))⟩
  · have hz : z = 0 := by rw [← HZ.out]
    subst hz
    clear HZ
    go_wp2
    go_ret
    exact ⟨rfl, (bal w _).trans ((bal (w.alloc _) _).mono (by simp) |>.trans (hB.below (by omega) (by simp; omega)))⟩

theorem codeOf_ne (g : Nat) : (codeOf g == 0) = false := by unfold codeOf; split; rfl; split; rfl; split <;> rfl

theorem right_ref (x : Val) (a : Option Addr) (c : Nat) (w : World) (hf : Fits x.kind x.n x.s x.l.length) (hs : SmallM x) (hR : RepSl (Lo w.heap.size) w a x.l) :
    Calls Tryd.prog 9 #[.agg #[.int .i64 x.kind, .int .i64 x.n, .string x.s, .slice a x.l.length c]] w (BoolOut w (validM x).isNone) := by
  have HV := Lib.hid fun (o : Obj) => refValid_any x a c (w.alloc o) hf hs ((hR.below (bal w o)).keep (fun _ _ => rfl) (fun k hk => by have : k < w.heap.size := hk; show k < _; simp; omega))
  have hv := VB.new w (.int .i64 x.kind) (.int .i64 x.n) (.string x.s) (.slice a x.l.length c)
  obtain ⟨d0, d1, d2, d3, -⟩ := hv.all
  clear hR hv
  generalize validM x = q at HV ⊢
  cases q with
  | some g =>
    have hc := codeOf_ne g
    simp only [Option.isNone_some] at HV ⊢
    go_enter Tryd.func9, Tryd.ntmps9
    go_wp2_with fail
    refine (HV.out _).mono ?_
    rintro e w1 ⟨rfl, hB⟩
    go_wp2
    go_ret
    exact ⟨by simp [hc], (bal w _).trans (hB.mono (by simp))⟩
  | none =>
    simp only [Option.isNone_none] at HV ⊢
    go_enter Tryd.func9, Tryd.ntmps9
    go_wp2_with fail
    refine (HV.out _).mono ?_
    rintro e w1 ⟨rfl, hB⟩
    go_wp2
    go_ret
    exact ⟨rfl, (bal w _).trans (hB.mono (by simp))⟩
end Go.Proofs.YtmkghfkikclodaaDoor
