/- Equal bytes; the chapter's example; DumpAny's walk. Two values that are the same; a number below another one; a copy of bytes; few. Programs as trees, and how they lie in memory. Programs: how many nodes, how deep, which lines. Programs: few; lines; the same twice. -/
import Derived.Test.YtmkghfkikclodaaDoorM06
set_option linter.unusedVariables false
set_option linter.unusedSimpArgs false
namespace Go.Proofs.YtmkghfkikclodaaDoor
open Go.RowKit

/-- the slice v holds the bytes l -/
def Cells (w : World) (v : Value) (l : List UInt8) : Prop := ∃ a c, v = .slice a l.length c ∧ (l = [] ∨ ∃ ad, a = some ad ∧ ∀ j (h : j < l.length), w.cell? (ad.add j) = some (byteV l[j]))

theorem OwnB.bytes {w : World} {base : Nat} {e : TypeId} {v : Value} {l : List UInt8} (h : OwnB w base e v l) : Cells w v l := by
  rcases h.2 with ⟨rfl, h0⟩ | ⟨g, cap, cur, rfl, hb, hg, hrest⟩
  · obtain rfl : l = [] := List.eq_nil_of_length_eq_zero h0
    exact ⟨none, 0, rfl, .inl rfl⟩
  · refine ⟨_, _, rfl, .inr ⟨_, rfl, fun j hj => ?_⟩⟩
    exact World.ownsRow.cells h (g := g) rfl j (byteV l[j]) (by simp [hj])

theorem _root_.Go.RowKit.Below.drewN {B : Nat} {w w' : World} (h : Below B w w') (n : Nat) : Below B w (w'.drewN n) := ⟨h.os, h.tape, h.output, h.size, h.block⟩

theorem Cells.drewN {w : World} {v : Value} {l : List UInt8} (h : Cells w v l) (n : Nat) : Cells (w.drewN n) v l := h

set_option maxHeartbeats 1000000 in
theorem sameBytes_any (w : World) (v v' : Value) (l l' : List UInt8) (h : Cells w v l) (h' : Cells w v' l') (hl : l.length ≤ 140737488355328) (hl' : l'.length ≤ 140737488355328) :
    Calls Tryd.prog 15 #[v, v'] w (BoolOut w (decide (l = l'))) := by
  obtain ⟨a, c, rfl, hc⟩ := h
  obtain ⟨a', c', rfl, hc'⟩ := h'
  by_cases hlen : l.length = l'.length
  · have HLEN := Lib.hid hlen
    have HC := Lib.hid hc
    have HC' := Lib.hid hc'
    rw [← hlen]
    generalize hz : decide (l = l') = z
    have HZ := Lib.hid hz
    clear hz hc hc' hlen hl'
    go_enter Tryd.func15, Tryd.ntmps15
    go_wp2
    go_loopw [5] (fun i wr => ∃ k : Nat, k ≤ l.length ∧ i = .int .i64 k ∧ Below w.heap.size w wr ∧ Hid (decide (l.drop k = l'.drop k) = z)) (fun i _ => l.length - (intOf i).toNat)
    case atStart => exact ⟨0, Nat.zero_le _, rfl, Below.refl _ _, by simpa using HZ⟩
    case round =>
      obtain ⟨k, hk, rfl, hB, hF⟩ := hrel
      by_cases hlt : k < l.length
      · rcases HC.out with rfl | ⟨ad, rfl, hcc⟩
        · simp at hlt
        rcases HC'.out with rfl | ⟨ad', rfl, hcc'⟩
        · have := HLEN.out; simp at this; rw [this] at hlt; simp at hlt
        have hlt' : k < l'.length := by rw [← HLEN.out]; exact hlt
        have g0 := (hB.cell (cell_lt (hcc k hlt))).trans (hcc k hlt)
        have g1 := (hB.cell (cell_lt (hcc' k hlt'))).trans (hcc' k hlt')
        have hF2 := hF.out
        rw [List.drop_eq_getElem_cons hlt, List.drop_eq_getElem_cons hlt'] at hF2
        unfold byteV at g0 g1
        by_cases he : l[k] = l'[k]
        · rw [he] at hF2 g0
          have hF3 : decide (l.drop (k + 1) = l'.drop (k + 1)) = z := by rw [← hF2]; simp only [List.cons.injEq, true_and]
          have HF3 := Lib.hid hF3
          clear hF hF2 hF3 he hcc hcc'
          go_wp2
          go_quiet (fail)
          go_wp2
          go_roundw
          case rel => exact ⟨k + 1, by omega, by go_num, (hB.drewN _), HF3⟩
          case measure => simp [intOf]; omega
        · have hF3 : z = false := by rw [← hF2]; simp only [List.cons.injEq, he, false_and, decide_false]
          have hne : (((l[k].toNat : Int)) == (l'[k].toNat : Int)) = false := by
            simp only [beq_eq_false_iff_ne, ne_eq, Int.natCast_inj]
            exact fun e => he (UInt8.toNat_inj.1 e)
          subst hF3
          clear hF hF2 hcc hcc'
          go_wp2
          go_quiet (fail)
          go_wp2
          go_ret
          exact ⟨rfl, hB.drewN _⟩
      · have hF2 := hF.out
        rw [List.drop_eq_nil_of_le (by omega), List.drop_eq_nil_of_le (by have := HLEN.out; omega)] at hF2
        have hF3 : z = true := by rw [← hF2]; simp
        subst hF3
        clear hF hF2
        go_wp2
        go_ret
        exact ⟨rfl, hB⟩
  · have hz : decide (l = l') = false := by simp only [decide_eq_false_iff_not]; exact fun e => hlen (by rw [e])
    rw [hz]
    have hb : (((l.length : Int)) != (l'.length : Int)) = true := by simp; omega
    clear hc hc' hz hlen
    go_enter Tryd.func15, Tryd.ntmps15
    go_wp2
    go_ret
    exact ⟨rfl, Below.refl _ _⟩

theorem sameBytes_same (w : World) (v v' : Value) (l : List UInt8) (h : Cells w v l) (h' : Cells w v' l) (hl : l.length ≤ 140737488355328) : Calls Tryd.prog 15 #[v, v'] w (BoolOut w true) := by
  have := sameBytes_any w v v' l l h h' hl hl
  rwa [decide_eq_true rfl] at this

theorem first_any (p : Nat → Addr) (w : World) (hw : 5 ≤ w.heap.size) (hE : Errs 5 p w) : Calls Tryd.prog 6 #[] w (BoolOut w true) := by
  have hf : Fits 0 1 (ByteArray.mk #[]) 0 := by unfold Fits; decide
  have hL : dumpM (.mk 0 1 (ByteArray.mk #[]) []) = [0, 1, 0, 0, 0, 0, 0, 0, 0] := by decide +kernel
  have HC := Lib.hid (dumpValue_any p (.mk 0 1 (ByteArray.mk #[]) []) none 0 w hw hf (.inl rfl) hE (by rw [hL]; decide))
  rw [hL] at HC
  clear hL hE
  go_enter Tryd.func6, Tryd.ntmps6
  go_wp2_with fail
  refine HC.out.mono ?_
  rintro e w1 ⟨v, rfl, ho, hk⟩
  obtain ⟨a, c, rfl⟩ := ho.shape
  have hB := hk.below (Nat.le_refl _)
  clear ho hk
  go_wp2
  go_ret
  exact ⟨rfl, hB⟩

theorem readM_bad (bs : List UInt8) (h : (readM bs).2.2.isSome = true) : (readM bs).1 = zeroVal ∧ (readM bs).2.1 = 0 := by
  unfold readM at h ⊢
  by_cases hs : (rightM bs (0, Option.none)).2.2.isSome = true
  · rw [if_pos hs]; exact ⟨rfl, rfl⟩
  · rw [if_neg hs] at h; cases h

/-- what lay in w lies in w' as it did -/
def Since (w w' : World) : Prop := w.heap.size ≤ w'.heap.size ∧ ∀ k, k < w.heap.size → w'.heap[k]? = w.heap[k]?
theorem Since.below {w w' w2 : World} (h : Since w w') (hb : Below w'.heap.size w' w2) : Since w w2 := ⟨Nat.le_trans h.1 hb.size, fun k hk => (hb.block k (Nat.lt_of_lt_of_le hk h.1)).trans (h.2 k hk)⟩
theorem Since.rep {w w' : World} {B : Nat} {a : Option Addr} {l : List Val} (h : Since w w') (hB : B ≤ w.heap.size) (hr : RepSl (Lo B) w a l) : RepSl (Lo w'.heap.size) w' a l :=
  hr.keep (fun k hk => h.2 k (Nat.lt_of_lt_of_le hk hB)) (fun k hk => by have h1 : k < B := hk; have := h.1; show k < _; omega)
theorem Since.errs {w w' : World} {N : Nat} {p : Nat → Addr} (h : Since w w') (hN : N ≤ w.heap.size) (hE : Errs N p w) : Errs N p w' :=
  fun g hg => (World.cell?_of_block (a := ⟨g, 0, none⟩) (h.2 g (by omega))).trans (hE g hg)
theorem Since.bs {w w' : World} {B : Nat} {v : Value} {bs : List UInt8} (h : Since w w') (hB : B ≤ w.heap.size) (hb : Bs B w v bs) : Bs w'.heap.size w' v bs := by
  obtain ⟨a', c', he, h1, h2⟩ := hb
  refine ⟨a', c', he, h1, ?_⟩
  rcases h2 with h2 | ⟨ad, rfl, h3, h4⟩
  · exact .inl h2
  · exact .inr ⟨ad, rfl, by have := h.1; omega, fun j hj => (World.cell?_of_block (h.2 _ (by rw [add_block]; omega))).trans (h4 j hj)⟩
theorem Since.vb {w w' : World} {g : Nat} {x0 x1 x2 x3 : Value} (h : Since w w') (hv : VB w g x0 x1 x2 x3) : VB w' g x0 x1 x2 x3 := (h.2 g hv.lt).trans hv

/-- the first n of these bytes -/
theorem Bs.take {w : World} {B : Nat} {a : Option Addr} {c : Nat} {bs : List UInt8} (h : Bs B w (.slice a bs.length c) bs) (n : Nat) (hn : n ≤ bs.length) : Cells w (.slice a n c) (bs.take n) := by
  obtain ⟨a', c', he, h1, h2⟩ := h
  obtain ⟨rfl, rfl⟩ : a = a' ∧ c = c' := by
    simp only [Value.slice.injEq] at he
    exact ⟨he.1, he.2.2⟩
  refine ⟨a, c, by rw [List.length_take, Nat.min_eq_left hn], ?_⟩
  rcases h2 with rfl | ⟨ad, rfl, h3, h4⟩
  · left; simp
  · refine .inr ⟨ad, rfl, fun j hj => ?_⟩
    rw [List.length_take] at hj
    rw [h4 j (by omega)]
    simp

theorem retD {w : World} {e : Ending} {w' : World} {b : Bool} (h : BoolOut w b e w') (hb : b = true) : BoolOut w true e w' := by rw [← hb]; exact h

set_option maxRecDepth 100000 in
set_option maxHeartbeats 2000000 in
theorem dumpAny_walk (p : Nat → Addr) (w : World) (a : Option Addr) (c : Nat) (bs : List UInt8) (hw : 5 ≤ w.heap.size) (hE : Errs 5 p w) (hlen : bs.length ≤ 9223372036854775807) (hbs : Bs w.heap.size w (.slice a bs.length c) bs) :
    Calls Tryd.prog 4 #[.slice a bs.length c] w (BoolOut w true) := by
  have HF := Lib.hid (first_any p w hw hE)
  by_cases h500 : 500 < bs.length
  · clear hE hbs
    go_enter Tryd.func4, Tryd.ntmps4
    go_wp2_with fail
    refine HF.out.mono ?_
    rintro e w1 ⟨rfl, hB⟩
    go_wp2_with fail
    go_ret
    exact ⟨rfl, hB⟩
  · have HA := Lib.hid (And.intro hE hbs)
    clear hE hbs
    have HP := Lib.hid (readM_read bs)
    have HZ := Lib.hid (readM_bad bs)
    go_enter Tryd.func4, Tryd.ntmps4
    go_wp2_with fail
    refine HF.out.mono ?_
    rintro e w1 ⟨rfl, hB⟩
    go_wp2_with fail
    have hsz := hB.size
    have hbs1 : Bs w1.heap.size w1 (.slice a bs.length c) bs := by
      obtain ⟨a', c', he, h1, h2⟩ := HA.out.2
      refine ⟨a', c', he, h1, ?_⟩
      rcases h2 with h2 | ⟨ad, rfl, h3, h4⟩
      · exact .inl h2
      · exact .inr ⟨ad, rfl, by omega, fun j hj => (hB.cell (by rw [add_block]; exact h3)).trans (h4 j hj)⟩
    have hE1 := HA.out.1.below hB hw
    refine (readValue_any p w1 _ bs (by omega) hbs1 hE1 (by omega)).mono ?_
    have HE1 := Lib.hid hE1
    have HBS1 := Lib.hid hbs1
    clear hE1 hbs1
    generalize readM bs = q at HP HZ
    obtain ⟨x, n, err⟩ := q
    rintro e w2 ⟨v, rfl, ⟨a2, c2, rfl, hf, hs⟩, hB2⟩
    have HS := Lib.hid hs
    have HFI := Lib.hid hf
    clear hs hf
    cases err with
    | some g =>
      obtain ⟨hx, hn⟩ := HZ.out rfl
      simp only at hx hn
      subst hx hn
      simp only [errO, errV]
      clear HZ HP HS HFI
      go_wp2_with fail
      go_ret
      exact ⟨rfl, hB.trans ((hB2.mono hsz).alloc (by have := hB2.size; omega) _)⟩
    | none =>
      obtain ⟨hv, hsm, hn1, hn2, hby⟩ := HP.out rfl
      simp only at hv hsm hn1 hn2 hby
      simp only [errO]
      clear HZ HP
      go_wp2_with fail
      have h5 := VB.new w2 (.int .i64 x.kind) (.int .i64 x.n) (.string x.s) (.slice a2 x.l.length c2)
      have hal := bal w2 (.cells #[.int .i64 x.kind, .int .i64 x.n, .string x.s, .slice a2 x.l.length c2] 24)
      have hB3 := hB.trans ((hB2.mono hsz).trans (hal.mono (by have := hB2.size; omega)))
      have hsz2 := hB2.size
      have hsz3 := hal.size
      have hE3 := (HE1.out.below hB2 (by omega)).below hal (by omega)
      have hbs3 := (HBS1.out.bel (b := w2.heap.size) (Bel.of hB2) (by omega) (Nat.le_refl _)).bel (b := (w2.alloc (.cells #[.int .i64 x.kind, .int .i64 x.n, .string x.s, .slice a2 x.l.length c2] 24)).heap.size) (Bel.of hal) (by omega) (by omega)
      have hs3 := HS.out.keep (w' := w2.alloc (.cells #[.int .i64 x.kind, .int .i64 x.n, .string x.s, .slice a2 x.l.length c2] 24)) (T := Lo w2.heap.size) (fun k hk => hal.block k hk.2) (fun k hk => hk.2)
      have hL : dumpM x = bs.take n := by unfold dumpM; rw [hv]; exact hby
      have hl2 : (bs.take n).length ≤ 500 := by rw [List.length_take]; omega
      have hsz4 : (w2.alloc (.cells #[.int .i64 x.kind, .int .i64 x.n, .string x.s, .slice a2 x.l.length c2] 24)).heap.size = w2.heap.size + 1 := by simp
      have HSZ := Lib.hid hsz4
      clear hal hsz4
      generalize w2.alloc (.cells #[.int .i64 x.kind, .int .i64 x.n, .string x.s, .slice a2 x.l.length c2] 24) = w3 at h5 hB3 hsz3 hE3 hbs3 hs3 HSZ
      have HR := Lib.hid fun (w' : World) (h : Since w3 w') => by
        have := right_ref x a2 c2 w' HFI.out hsm (h.rep hsz3 hs3)
        rw [hv] at this
        exact this
      have HV := Lib.hid fun (w' : World) (h : Since w3 w') => by
        have := dumpValue_any p x a2 c2 w' (by have := h.1; omega) HFI.out (h.rep hsz3 hs3) (h.errs (by omega) hE3) (by rw [hL]; omega)
        rw [hL] at this
        exact this
      have hnc : n ≤ c := by
        obtain ⟨a', c', he, h1, _⟩ := hbs3
        simp only [Value.slice.injEq, true_and] at he
        omega
      have hnle : (n : Int) ≤ bs.length := by omega
      have hn1' : 1 ≤ (n : Int) := by omega
      have HC3 := Lib.hid fun (w' : World) (h : Since w3 w') => (h.bs (by omega) hbs3).take n hn2
      obtain ⟨d0, d1, d2, d3, -⟩ := h5.all
      have HL2 := Lib.hid hl2
      have HB3 := Lib.hid hB3
      have H5 := Lib.hid h5
      clear hv hL hl2 hs3 hbs3 hE3 h5 hB3 hB2 hB HA HF HE1 HBS1 HS HFI hsm hby
      generalize bs.take n = T at HV HC3 HL2
      go_region_law (first
        | (go_simp; go_at_call 9; go_loud (refine (HR.out _ (by exact ⟨Nat.le_refl _, fun _ _ => rfl⟩)).mono ?_; rintro e w4 ⟨rfl, hB4⟩; have s4 : Since w3 w4 := Since.below (by exact ⟨Nat.le_refl _, fun _ _ => rfl⟩) hB4; have t4 : Below w3.heap.size w3 w4 := ⟨hB4.os, hB4.tape, hB4.output, hB4.size, hB4.block⟩; obtain ⟨k0, k1, k2, k3, -⟩ := (s4.vb H5.out).all))
        | (go_simp; go_at_call 8; go_loud (refine (HV.out _ (by exact s4)).mono ?_; rintro e w5 ⟨v5, rfl, ho5, hk5⟩; have hb5 := hk5.below (Nat.le_refl _); have t5 : Below w3.heap.size w3 w5 := t4.trans (Below.mono ⟨hb5.os, hb5.tape, hb5.output, hb5.size, hb5.block⟩ s4.1); have s5 : Since w3 w5 := ⟨t5.size, t5.block⟩; obtain ⟨va, vc, hsh⟩ := ho5.shape; subst hsh))
        | (go_simp; go_at_call 15; go_loud (refine (sameBytes_same _ _ _ T (by exact ho5.bytes) (by exact HC3.out _ s5) (by have := HL2.out; omega)).mono ?_; rintro e w6 ⟨rfl, hB6⟩)))
      all_goals go_wp2
      all_goals go_ret
      all_goals
        have hf := HB3.out.trans (t5.trans (Below.mono hB6 s5.1) |>.mono (by have := HSZ.out; omega))
        exact ⟨rfl, ⟨hf.os, hf.tape, hf.output, hf.size, hf.block⟩⟩
end Go.Proofs.YtmkghfkikclodaaDoor
namespace Go.Proofs.YtmkghfkikclodaaDoor
open Go.RowKit

def NumOut (z : Int) (W : World) (e : Ending) (w' : World) : Prop := e = .returned (.int .i64 z) ∧ W = w'

theorem number_any (n b : Int) (w : World) (hb : 0 < b) (hb2 : b ≤ 9223372036854775807) (hn1 : -9223372036854775808 ≤ n) (hn2 : n ≤ 9223372036854775807) : Calls Tryd.prog 12 #[.int .i64 n, .int .i64 b] w (NumOut (n % b) w) := by
  have h2 := Int.emod_nonneg n (show b ≠ 0 by omega)
  have h3 := Int.emod_lt_of_pos n hb
  by_cases h0 : 0 ≤ n
  · have hbz : (b == 0) = false := by simp; omega
    go_enter Tryd.func12, Tryd.ntmps12
    go_wp2_with fail
    go_ret
    exact ⟨rfl, rfl⟩
  · have hbz : (b == 0) = false := by simp; omega
    have hbm : (b == -1) = false := by simp; omega
    have h4 := Int.tmod_eq_emod (a := n) (b := b)
    by_cases h1 : n.tmod b < 0
    · have e1 : Hid (n % b = n.tmod b + b) := by
        show _ = _
        split at h4 <;> omega
      have h5 := Int.lt_tmod_of_pos n hb
      clear h4 h2 h3
      go_enter Tryd.func12, Tryd.ntmps12
      go_wp2_with fail
      go_ret
      exact ⟨by rw [e1.out]; rfl, rfl⟩
    · have e1 : Hid (n % b = n.tmod b) := by
        show _ = _
        split at h4 <;> omega
      clear h4 h2 h3
      go_enter Tryd.func12, Tryd.ntmps12
      go_wp2_with fail
      go_ret
      exact ⟨by rw [e1.out]; rfl, rfl⟩

theorem small_any (x : Val) (a : Option Addr) (c : Nat) (w : World) (hf : Fits x.kind x.n x.s x.l.length) (hR : RepSl (Lo w.heap.size) w a x.l) :
    Calls Tryd.prog 7 #[.agg #[.int .i64 x.kind, .int .i64 x.n, .string x.s, .slice a x.l.length c]] w (BoolOut w (decide (0 ≤ fewM x 6000 0))) := by
  have HC := Lib.hid fun (o : Obj) => few_any (SizeOf.sizeOf x) x 6000 0 a c (w.alloc o) (Nat.le_refl _) (by decide) (by decide) (by decide) (by decide) hf ((hR.below (bal w o)).keep (fun _ _ => rfl) (fun k hk => by have : k < w.heap.size := hk; show k < _; simp; omega))
  have hv := VB.new w (.int .i64 x.kind) (.int .i64 x.n) (.string x.s) (.slice a x.l.length c)
  obtain ⟨d0, d1, d2, d3, -⟩ := hv.all
  clear hR hv
  generalize fewM x 6000 0 = z at HC ⊢
  by_cases hz : 0 ≤ z
  · rw [decide_eq_true hz]
    go_enter Tryd.func7, Tryd.ntmps7
    go_wp2_with fail
    refine (HC.out _).mono ?_
    rintro e w1 ⟨rfl, hB⟩
    go_wp2
    go_ret
    exact ⟨by simp [hz], (bal w _).trans (hB.mono (by simp))⟩
  · rw [decide_eq_false hz]
    go_enter Tryd.func7, Tryd.ntmps7
    go_wp2_with fail
    refine (HC.out _).mono ?_
    rintro e w1 ⟨rfl, hB⟩
    go_wp2
    go_ret
    exact ⟨by simp [hz], (bal w _).trans (hB.mono (by simp))⟩

set_option maxRecDepth 100000 in
theorem bytes_any (w : World) (v : Value) (l : List UInt8) (h : Cells w v l) (hl : l.length ≤ 100000000) : Calls Tryd.prog 11 #[v] w (Laid w.heap.size w l) := by
  obtain ⟨a, c, rfl, hc⟩ := h
  have HC := Lib.hid hc
  clear hc
  obtain ⟨i, hi, hz0, hz1, hz2⟩ := info_parts info5
  obtain ⟨w1, hr, ho, hg⟩ := run_make_own (P := Tryd.prog) w w.heap.size 25 5 i _ 1 Tryd.underlying25 hi hz0 hz1 .i64 .i64 l.length (by rw [hz2]; omega) (by unfold maxLen; omega) (Nat.le_refl _)
  have hk : Kept w.heap.size w w1 := ⟨hg.os, hg.tape, hg.output, hg.size, fun k hk _ => hg.block k hk (by simp)⟩
  have HO := Lib.hid (And.intro ho hk)
  clear hi hz0 hz1 hz2 ho hk hg
  go_enter Tryd.func11, Tryd.ntmps11
  go_wp2_with fail
  clear hr
  go_loopw [3, 4] (fun b i wr => ∃ k : Nat, k ≤ l.length ∧ i = .int .i64 k ∧ Kept w.heap.size w wr ∧ OwnB wr w.heap.size 5 b (l.take k)) (fun _ i _ => l.length - (intOf i).toNat)
  case atStart => exact ⟨0, Nat.zero_le _, rfl, HO.out.2, HO.out.1⟩
  case round =>
    obtain ⟨k, hk, rfl, hK, hO⟩ := hrel
    have hsz := hK.size
    by_cases hlt : k < l.length
    · rcases HC.out with rfl | ⟨ad, rfl, hcc⟩
      · simp at hlt
      have g0 := ((hK.below (Nat.le_refl _)).cell (cell_lt (hcc k hlt))).trans (hcc k hlt)
      have e1 : l.take (k + 1) = l.take k ++ [l[k]] := by rw [List.take_add_one, List.getElem?_eq_getElem hlt]; rfl
      have HE1 := Lib.hid e1
      have el : (l.take k).length ≤ l.length := by rw [List.length_take]; omega
      generalize l.take k = acc at hO el HE1
      generalize l[k] = y at g0 HE1
      obtain ⟨a1, c1, rfl⟩ := hO.shape
      unfold byteV at g0
      clear hcc e1
      go_wp2_with (at_builtin; go_loud (refine append_bytes _ rfl (.tmp 14) (.tmp 19) 25 rfl w.heap.size 5 Tryd.underlying25 info5 _ acc rfl (hO.alloc _) ⟨wr.heap.size, 0, none⟩ 1 [y] 1 rfl rfl ?d1 ?d2 ?d3 ?_))
      case d1 => exact one_new' _ _ _ _ rfl rfl
      case d2 => first | omega | (simp; omega)
      case d3 => first | omega | (simp; omega)
      intro v' w2 hown2 hg2
      have hK2 : Kept w.heap.size w w2 := (hK.alloc _).trans (Kept.grown (hO.alloc _) hg2)
      rw [← HE1.out] at hown2
      have HO2 := Lib.hid hown2
      clear hown2 hg2 hO hK g0
      go_wp2
      go_roundw
      case rel => exact ⟨k + 1, by omega, by go_num, hK2, HO2.out⟩
      case measure => simp [intOf]; omega
    · have e1 : l.take k = l := List.take_of_length_le (by omega)
      rw [e1] at hO
      obtain ⟨a1, c1, rfl⟩ := hO.shape
      clear e1
      go_wp2
      go_ret
      exact ⟨_, rfl, hO, hK⟩

/-! ### the same value twice -/
def TrueOut (W : World) (e : Ending) (w' : World) : Prop := e = .returned (.bool true) ∧ Below W.heap.size W w'

set_option maxRecDepth 100000 in
set_option maxHeartbeats 1000000 in
theorem sameValue_same (m : Nat) : (∀ (x : Val) (a a' : Option Addr) (c c' : Nat) (w : World), SizeOf.sizeOf x ≤ m → Fits x.kind x.n x.s x.l.length → RepSl (Lo w.heap.size) w a x.l → RepSl (Lo w.heap.size) w a' x.l →
    Calls Tryd.prog 13 #[.agg #[.int .i64 x.kind, .int .i64 x.n, .string x.s, .slice a x.l.length c], .agg #[.int .i64 x.kind, .int .i64 x.n, .string x.s, .slice a' x.l.length c']] w (TrueOut w)) := by
  induction m with
  | zero => intro x a a' c c' w h; cases x; simp at h
  | succ m ih =>
    intro x a a' c c' w hm hf hR hR'
    have IH := Lib.hid ih
    clear ih
    obtain ⟨f1, f2, f3, f4, f5, f6⟩ := hf
    -- the items
    have HL : Hid (∀ (w : World), RepSl (Lo w.heap.size) w a x.l → RepSl (Lo w.heap.size) w a' x.l → Calls Tryd.prog 27 #[.slice a x.l.length c, .slice a' x.l.length c'] w (TrueOut w)) := by
      show ∀ _, _
      intro w hR hR'
      have HR := Lib.hid (And.intro hR hR')
      clear hR hR'
      go_enter Tryd.func27, Tryd.ntmps27
      go_wp2_with fail
      go_loopw [5] (fun i wr => ∃ k : Nat, k ≤ x.l.length ∧ i = .int .i64 k ∧ Below w.heap.size w wr) (fun i _ => x.l.length - (intOf i).toNat)
      case atStart => exact ⟨0, Nat.zero_le _, rfl, Below.refl _ _⟩
      case round =>
        obtain ⟨k, hk, rfl, hB⟩ := hrel
        by_cases hlt : k < x.l.length
        · obtain ⟨b, o, rfl, hs, hat⟩ := (HR.out.1.below hB).item k hlt
          obtain ⟨b', o', rfl, hs', hat'⟩ := (HR.out.2.below hB).item k hlt
          obtain ⟨ff, p1, q1, g0, g1, g2, g3, hsub⟩ := repAt_iff.1 hat
          obtain ⟨-, p2, q2, g0', g1', g2', g3', hsub'⟩ := repAt_iff.1 hat'
          have hsize := sizeOf_item x k hlt
          have hszr := hB.size
          generalize x.l[k] = y at ff g0 g1 g2 g3 g0' g1' g2' g3' hsub hsub' hsize
          have HC := Lib.hid fun (w' : World) (h : Since wr w') => IH.out y p1 p2 q1 q2 w' (by omega) ff (h.rep hszr hsub) (h.rep hszr hsub')
          clear hat hat' hsub hsub' ff
          go_wp2_with fail
          go_region_law (go_simp; go_at_call 13; go_loud (refine (HC.out _ (by exact ⟨Nat.le_refl _, fun _ _ => rfl⟩)).mono ?_; rintro e w4 ⟨rfl, hB4⟩))
          all_goals go_wp2
          all_goals
            go_roundw
            case rel => exact ⟨k + 1, by omega, by go_num, hB.trans (Below.mono ⟨hB4.os, hB4.tape, hB4.output, hB4.size, hB4.block⟩ hszr)⟩
            case measure => simp [intOf]; omega
        · go_wp2
          go_ret
          exact ⟨rfl, hB⟩
    have hv := VB.new w (.int .i64 x.kind) (.int .i64 x.n) (.string x.s) (.slice a x.l.length c)
    have hv' := VB.new (w.alloc (.cells #[.int .i64 x.kind, .int .i64 x.n, .string x.s, .slice a x.l.length c] 24)) (.int .i64 x.kind) (.int .i64 x.n) (.string x.s) (.slice a' x.l.length c')
    have hal := (bal w (.cells #[.int .i64 x.kind, .int .i64 x.n, .string x.s, .slice a x.l.length c] 24)).trans ((bal (w.alloc (.cells #[.int .i64 x.kind, .int .i64 x.n, .string x.s, .slice a x.l.length c] 24)) (.cells #[.int .i64 x.kind, .int .i64 x.n, .string x.s, .slice a' x.l.length c'] 24)).mono (by simp))
    have hv := hv.below (bal _ (.cells #[.int .i64 x.kind, .int .i64 x.n, .string x.s, .slice a' x.l.length c'] 24)) (by simp)
    have HC := Lib.hid (HL.out _ (Since.rep ⟨hal.size, hal.block⟩ (Nat.le_refl _) hR) (Since.rep ⟨hal.size, hal.block⟩ (Nat.le_refl _) hR'))
    have HV := Lib.hid (And.intro hv (And.intro hv' hal))
    obtain ⟨d0, d1, d2, d3, -⟩ := hv.all
    obtain ⟨d0', d1', d2', d3', -⟩ := hv'.all
    simp only [World.size_alloc] at d0' d1' d2' d3'
    clear hR hR' hv hv' hal HL
    go_enter Tryd.func13, Tryd.ntmps13
    go_wp2_with fail
    refine HC.out.mono ?_
    rintro e w1 ⟨rfl, hB⟩
    obtain ⟨e0, e1, e2, e3, -⟩ := (HV.out.1.below hB HV.out.1.lt).all
    obtain ⟨e0', e1', e2', e3', -⟩ := (HV.out.2.1.below hB HV.out.2.1.lt).all
    simp only [World.size_alloc] at e0' e1' e2' e3'
    clear d0 d1 d2 d3 d0' d1' d2' d3'
    go_wp2
    go_ret
    exact ⟨rfl, HV.out.2.2.trans (hB.mono (by simp; omega))⟩
end Go.Proofs.YtmkghfkikclodaaDoor
namespace Go.Proofs.YtmkghfkikclodaaDoor
open Go.RowKit

/-- a node of package api: what it does, its line, its text, its value, what it has -/
inductive Nd where
  | mk (op line : Int) (s : ByteArray) (v : Val) (l : List Nd)

def Nd.op : Nd → Int | .mk o _ _ _ _ => o
def Nd.line : Nd → Int | .mk _ n _ _ _ => n
def Nd.s : Nd → ByteArray | .mk _ _ s _ _ => s
def Nd.v : Nd → Val | .mk _ _ _ v _ => v
def Nd.l : Nd → List Nd | .mk _ _ _ _ l => l

mutual
/-- at place o of block b eight cells hold the node x; what it leads to lies in blocks of S -/
def RepNAt (S : Nat → Prop) (w : World) (b o : Nat) : Nd → Prop
  | .mk op line s v l => Fits op line s l.length ∧ Fits v.kind v.n v.s v.l.length ∧ ∃ (a : Option Addr) (c : Nat) (a' : Option Addr) (c' : Nat),
      w.cell? ⟨b, o, none⟩ = some (.int .i64 op) ∧ w.cell? ⟨b, o + 1, none⟩ = some (.int .i64 line) ∧ w.cell? ⟨b, o + 2, none⟩ = some (.string s) ∧
      w.cell? ⟨b, o + 3, none⟩ = some (.int .i64 v.kind) ∧ w.cell? ⟨b, o + 4, none⟩ = some (.int .i64 v.n) ∧ w.cell? ⟨b, o + 5, none⟩ = some (.string v.s) ∧ w.cell? ⟨b, o + 6, none⟩ = some (.slice a v.l.length c) ∧
      w.cell? ⟨b, o + 7, none⟩ = some (.slice a' l.length c') ∧ RepSl S w a v.l ∧ (l = [] ∨ ∃ b' o', a' = some ⟨b', o', none⟩ ∧ S b' ∧ RepNRow S w b' o' l)
/-- from place o on they lie one behind the other -/
def RepNRow (S : Nat → Prop) (w : World) (b : Nat) : Nat → List Nd → Prop
  | _, [] => True
  | o, x :: xs => RepNAt S w b o x ∧ RepNRow S w b (o + 8) xs
end

/-- the slice (a, length of l) leads to the nodes l -/
def RepNSl (S : Nat → Prop) (w : World) (a : Option Addr) (l : List Nd) : Prop := l = [] ∨ ∃ b o, a = some ⟨b, o, none⟩ ∧ S b ∧ RepNRow S w b o l

theorem repNAt_iff {S : Nat → Prop} {w : World} {b o : Nat} {x : Nd} : RepNAt S w b o x ↔ Fits x.op x.line x.s x.l.length ∧ Fits x.v.kind x.v.n x.v.s x.v.l.length ∧ ∃ (a : Option Addr) (c : Nat) (a' : Option Addr) (c' : Nat),
      w.cell? ⟨b, o, none⟩ = some (.int .i64 x.op) ∧ w.cell? ⟨b, o + 1, none⟩ = some (.int .i64 x.line) ∧ w.cell? ⟨b, o + 2, none⟩ = some (.string x.s) ∧
      w.cell? ⟨b, o + 3, none⟩ = some (.int .i64 x.v.kind) ∧ w.cell? ⟨b, o + 4, none⟩ = some (.int .i64 x.v.n) ∧ w.cell? ⟨b, o + 5, none⟩ = some (.string x.v.s) ∧ w.cell? ⟨b, o + 6, none⟩ = some (.slice a x.v.l.length c) ∧
      w.cell? ⟨b, o + 7, none⟩ = some (.slice a' x.l.length c') ∧ RepSl S w a x.v.l ∧ RepNSl S w a' x.l := by
  cases x with
  | mk op line s v l => rfl

theorem repNRow_at {S : Nat → Prop} {w : World} {b : Nat} : ∀ {o : Nat} {l : List Nd}, RepNRow S w b o l → ∀ (i : Nat) (h : i < l.length), RepNAt S w b (o + i * 8) l[i]
  | o, x :: xs, hr, 0, _ => by
    have := hr.1
    simpa using this
  | o, x :: xs, hr, i + 1, h => by
    have := repNRow_at hr.2 i (by simpa using h)
    rw [show o + (i + 1) * 8 = o + 8 + i * 8 by omega]
    exact this

theorem repNRow_of {S : Nat → Prop} {w : World} {b : Nat} : ∀ {o : Nat} {l : List Nd}, (∀ (i : Nat) (h : i < l.length), RepNAt S w b (o + i * 8) l[i]) → RepNRow S w b o l
  | _, [], _ => trivial
  | o, x :: xs, h => ⟨h 0 (by simp), repNRow_of (fun i hi => by
      have := h (i + 1) (by simpa using hi)
      rw [show o + (i + 1) * 8 = o + 8 + i * 8 by omega] at this
      exact this)⟩

mutual
theorem RepNAt.keep {S T : Nat → Prop} {w w' : World} (hw : ∀ k, S k → w'.heap[k]? = w.heap[k]?) (hT : ∀ k, S k → T k) : ∀ (x : Nd) (b o : Nat), w'.heap[b]? = w.heap[b]? → RepNAt S w b o x → RepNAt T w' b o x
  | .mk op line s v l, b, o, hb, h => by
    obtain ⟨hf, hfv, a, c, a', c', h1, h2, h3, h4, h5, h6, h7, h8, h9, h10⟩ := h
    have e : ∀ j, w'.cell? ⟨b, j, none⟩ = w.cell? ⟨b, j, none⟩ := fun j => World.cell?_of_block (a := ⟨b, j, none⟩) hb
    refine ⟨hf, hfv, a, c, a', c', by rw [e]; exact h1, by rw [e]; exact h2, by rw [e]; exact h3, by rw [e]; exact h4, by rw [e]; exact h5, by rw [e]; exact h6, by rw [e]; exact h7, by rw [e]; exact h8, h9.keep hw hT, ?_⟩
    rcases h10 with h5 | ⟨b', o', rfl, hs, hr⟩
    · exact .inl h5
    · exact .inr ⟨b', o', rfl, hT _ hs, RepNRow.keep hw hT l b' o' (hw _ hs) hr⟩
theorem RepNRow.keep {S T : Nat → Prop} {w w' : World} (hw : ∀ k, S k → w'.heap[k]? = w.heap[k]?) (hT : ∀ k, S k → T k) : ∀ (l : List Nd) (b o : Nat), w'.heap[b]? = w.heap[b]? → RepNRow S w b o l → RepNRow T w' b o l
  | [], _, _, _, _ => trivial
  | x :: xs, b, o, hb, h => ⟨RepNAt.keep hw hT x b o hb h.1, RepNRow.keep hw hT xs b (o + 8) hb h.2⟩
end

theorem RepNSl.keep {S T : Nat → Prop} {w w' : World} (hw : ∀ k, S k → w'.heap[k]? = w.heap[k]?) (hT : ∀ k, S k → T k) {a : Option Addr} {l : List Nd} (h : RepNSl S w a l) : RepNSl T w' a l := by
  rcases h with h | ⟨b, o, rfl, hs, hr⟩
  · exact .inl h
  · exact .inr ⟨b, o, rfl, hT _ hs, RepNRow.keep hw hT l b o (hw _ hs) hr⟩
theorem RepNSl.below {B : Nat} {w w' : World} {a : Option Addr} {l : List Nd} (h : RepNSl (Lo B) w a l) (hb : Below B w w') : RepNSl (Lo B) w' a l := h.keep (fun k hk => hb.block k hk) (fun _ h => h)
theorem RepNSl.more {B B' : Nat} {w : World} {a : Option Addr} {l : List Nd} (h : RepNSl (Lo B) w a l) (hB : B ≤ B') : RepNSl (Lo B') w a l := h.keep (fun _ _ => rfl) (fun k hk => Nat.lt_of_lt_of_le hk hB)
theorem RepSl.more {B B' : Nat} {w : World} {a : Option Addr} {l : List Val} (h : RepSl (Lo B) w a l) (hB : B ≤ B') : RepSl (Lo B') w a l := h.keep (fun _ _ => rfl) (fun k hk => Nat.lt_of_lt_of_le hk hB)
theorem Since.repN {w w' : World} {B : Nat} {a : Option Addr} {l : List Nd} (h : Since w w') (hB : B ≤ w.heap.size) (hr : RepNSl (Lo B) w a l) : RepNSl (Lo w'.heap.size) w' a l :=
  hr.keep (fun k hk => h.2 k (Nat.lt_of_lt_of_le hk hB)) (fun k hk => by have h1 : k < B := hk; have := h.1; show k < _; omega)

/-- an item's eight cells -/
theorem RepNSl.item {S : Nat → Prop} {w : World} {a : Option Addr} {l : List Nd} (h : RepNSl S w a l) (i : Nat) (hi : i < l.length) : ∃ b o, a = some ⟨b, o, none⟩ ∧ S b ∧ RepNAt S w b (o + i * 8) l[i] := by
  rcases h with rfl | ⟨b, o, rfl, hs, hr⟩
  · simp at hi
  · exact ⟨b, o, rfl, hs, repNRow_at hr i hi⟩

theorem sizeOf_nd (x : Nd) : SizeOf.sizeOf x.l < SizeOf.sizeOf x ∧ SizeOf.sizeOf x.v < SizeOf.sizeOf x := by
  cases x with
  | mk op line s v l => simp only [Nd.l, Nd.v, Nd.mk.sizeOf_spec]; omega
theorem sizeOf_ndl (l : List Nd) (i : Nat) (hi : i < l.length) : SizeOf.sizeOf l[i] < SizeOf.sizeOf l := List.sizeOf_lt_of_mem (List.getElem_mem hi)

theorem RepNSl.len {S : Nat → Prop} {w : World} {a : Option Addr} {l : List Nd} (_ : RepNSl S w a l) : True := trivial

/-- block g holds a node's eight cells -/
def NV (w : World) (g : Nat) (x0 x1 x2 x3 x4 x5 x6 x7 : Value) : Prop := w.heap[g]? = some (.cells #[x0, x1, x2, x3, x4, x5, x6, x7] 63 (0, 0))
section
variable {w w' : World} {g : Nat} {x0 x1 x2 x3 x4 x5 x6 x7 : Value}
theorem NV.all (h : NV w g x0 x1 x2 x3 x4 x5 x6 x7) : w.cell? ⟨g, 0, none⟩ = some x0 ∧ w.cell? ⟨g, 1, none⟩ = some x1 ∧ w.cell? ⟨g, 2, none⟩ = some x2 ∧ w.cell? ⟨g, 3, none⟩ = some x3 ∧ w.cell? ⟨g, 4, none⟩ = some x4 ∧
    w.cell? ⟨g, 5, none⟩ = some x5 ∧ w.cell? ⟨g, 6, none⟩ = some x6 ∧ w.cell? ⟨g, 7, none⟩ = some x7 := by
  refine ⟨?_, ?_, ?_, ?_, ?_, ?_, ?_, ?_⟩ <;> (rw [Joins.cell_of_block h]; rfl)
theorem NV.fr (h : NV w g x0 x1 x2 x3 x4 x5 x6 x7) (i : Nat) : w.frozen? ⟨g, i, none⟩ = false := Joins.unfrozen_of_block h i
theorem NV.lt (h : NV w g x0 x1 x2 x3 x4 x5 x6 x7) : g < w.heap.size := (Array.getElem?_eq_some_iff.1 h).1
theorem NV.below {B : Nat} (h : NV w g x0 x1 x2 x3 x4 x5 x6 x7) (hb : Below B w w') (hB : g < B) : NV w' g x0 x1 x2 x3 x4 x5 x6 x7 := (hb.block g hB).trans h
theorem NV.new (w : World) (x0 x1 x2 x3 x4 x5 x6 x7 : Value) : NV (w.alloc (.cells #[x0, x1, x2, x3, x4, x5, x6, x7] 63)) w.heap.size x0 x1 x2 x3 x4 x5 x6 x7 := heap_alloc_new w _
end

/-! ### how many -/
mutual
def countM : Nd → Int → Int
  | .mk _ _ _ _ l, n => if 4096 < n + 1 then n + 1 else countL l (n + 1)
def countL : List Nd → Int → Int
  | [], n => n
  | x :: xs, n => if 4096 < countM x n then countM x n else countL xs (countM x n)
end
theorem countM_eq (x : Nd) (n : Int) : countM x n = if 4096 < n + 1 then n + 1 else countL x.l (n + 1) := by cases x; rfl

mutual
theorem countM_bd : ∀ (x : Nd) (n : Int), 0 ≤ n → n ≤ 4096 → n < countM x n ∧ countM x n ≤ 4097
  | .mk _ _ _ _ l, n, h0, h1 => by
    unfold countM
    split
    · omega
    · have := countL_bd l (n + 1) (by omega) (by omega); omega
theorem countL_bd : ∀ (l : List Nd) (n : Int), 0 ≤ n → n ≤ 4096 → n ≤ countL l n ∧ countL l n ≤ 4097
  | [], n, h0, h1 => by unfold countL; omega
  | x :: xs, n, h0, h1 => by
    have h2 := countM_bd x n h0 h1
    unfold countL
    split
    · omega
    · have := countL_bd xs (countM x n) (by omega) (by omega); omega
end

set_option maxHeartbeats 1000000 in
theorem count_any (m : Nat) : ∀ (l : List Nd) (n : Int) (a : Option Addr) (c : Nat) (w : World), SizeOf.sizeOf l ≤ m → 0 ≤ n → n ≤ 4096 → l.length ≤ 9223372036854775807 → RepNSl (Lo w.heap.size) w a l →
    Calls Tryd.prog 64 #[.slice a l.length c, .int .i64 n] w (IntOut w (countL l n)) := by
  induction m with
  | zero => intro l n a c w h; cases l <;> simp at h
  | succ m ih =>
    intro l n a c w hm h0 h1 hlen hR
    have IH := Lib.hid ih
    clear ih
    have HR := Lib.hid hR
    generalize hz : countL l n = z
    have HZ := Lib.hid hz
    clear hz hR
    go_enter Tryd.func64, Tryd.ntmps64
    go_wp2_with fail
    go_loopw [1, 9] (fun q i wr => ∃ (k : Nat) (li : Int), k ≤ l.length ∧ i = .int .i64 k ∧ q = .int .i64 li ∧ 0 ≤ li ∧ li ≤ 4096 ∧ Below w.heap.size w wr ∧ Hid (countL (l.drop k) li = z)) (fun _ i _ => l.length - (intOf i).toNat)
    case atStart => exact ⟨0, n, Nat.zero_le _, rfl, rfl, h0, h1, Below.refl _ _, HZ⟩
    case round =>
      clear h0 h1
      obtain ⟨k, li, hk, rfl, rfl, hl0, hl1, hB, hF⟩ := hrel
      have hF2 := hF.out
      clear hF
      by_cases hlt : k < l.length
      · obtain ⟨b, o, rfl, hs, hat⟩ := (HR.out.below hB).item k hlt
        obtain ⟨ff, -, a1, c1, a2, c2, g0, g1, g2, g3, g4, g5, g6, g7, -, hsub⟩ := repNAt_iff.1 hat
        rw [List.drop_eq_getElem_cons hlt, countL] at hF2
        have hsize := sizeOf_ndl l k hlt
        have hsize2 := sizeOf_nd l[k]
        have hbd := countM_bd l[k] li hl0 hl1
        have he := countM_eq l[k] li
        generalize l[k] = y at ff g0 g1 g2 g3 g4 g5 g6 g7 hsub hF2 hsize hsize2 hbd he
        have hv := NV.new wr (.int .i64 y.op) (.int .i64 y.line) (.string y.s) (.int .i64 y.v.kind) (.int .i64 y.v.n) (.string y.v.s) (.slice a1 y.v.l.length c1) (.slice a2 y.l.length c2)
        obtain ⟨d0, d1, d2, d3, d4, d5, d6, d7⟩ := hv.all
        have hszr := hB.size
        have hfl := ff.2.2.2.2.2
        by_cases hbig : 4096 < li + 1
        · rw [if_pos hbig] at he
          rw [he, if_pos hbig] at hF2
          have HF2 := Lib.hid hF2
          clear hF2 he hv hat ff hsub
          go_wp2_with fail
          go_ret
          rw [← HF2.out]
          exact ⟨rfl, hB.alloc hszr _⟩
        · rw [if_neg hbig] at he
          have HC := Lib.hid fun (o : Obj) => IH.out y.l (li + 1) a2 c2 (wr.alloc o) (by omega) (by omega) (by omega) hfl ((hsub.keep (fun k hk => (bal wr o).block k (by have : k < w.heap.size := hk; omega)) (fun k hk => by have : k < w.heap.size := hk; show k < _; simp; omega)))
          rw [← he] at HC
          generalize countM y li = q at HC hF2 hbd
          by_cases hq : 4096 < q
          · rw [if_pos hq] at hF2
            have HF2 := Lib.hid hF2
            clear hF2 he hv hat ff hsub
            go_wp2_with fail
            refine (HC.out _).mono ?_
            rintro e w2 ⟨rfl, hB2⟩
            go_wp2_with fail
            go_ret
            rw [← HF2.out]
            exact ⟨rfl, (hB.alloc hszr _).trans (hB2.mono (by simp; omega))⟩
          · rw [if_neg hq] at hF2
            have HF2 := Lib.hid hF2
            clear hF2 he hv hat ff hsub
            go_wp2_with fail
            refine (HC.out _).mono ?_
            rintro e w2 ⟨rfl, hB2⟩
            go_wp2_with fail
            go_roundw
            case rel => exact ⟨k + 1, q, by omega, by go_num, rfl, by omega, by omega, (hB.alloc hszr _).trans (hB2.mono (by simp; omega)), HF2⟩
            case measure => simp [intOf]; omega
      · rw [List.drop_eq_nil_of_le (by omega), countL] at hF2
        have HF2 := Lib.hid hF2
        clear hF2
        go_wp2_with fail
        go_ret
        rw [HF2.out]
        exact ⟨rfl, hB⟩
end Go.Proofs.YtmkghfkikclodaaDoor
namespace Go.Proofs.YtmkghfkikclodaaDoor
open Go.RowKit

/-! ### the document's count -/
mutual
def manyNM : Nd → Int → Int
  | .mk _ _ _ _ l, left => if left < 1 then -1 else manyNL l (left - 1)
def manyNL : List Nd → Int → Int
  | [], left => left
  | x :: xs, left => if manyNM x left < 0 then -1 else manyNL xs (manyNM x left)
end
theorem manyNM_eq (x : Nd) (left : Int) : manyNM x left = if left < 1 then -1 else manyNL x.l (left - 1) := by cases x; rfl
mutual
theorem manyNM_bd : ∀ (x : Nd) (left : Int), -1 ≤ left → -1 ≤ manyNM x left ∧ manyNM x left ≤ left
  | .mk _ _ _ _ l, left, h => by
    unfold manyNM
    split
    · omega
    · have := manyNL_bd l (left - 1) (by omega); omega
theorem manyNL_bd : ∀ (l : List Nd) (left : Int), -1 ≤ left → -1 ≤ manyNL l left ∧ manyNL l left ≤ left
  | [], left, h => by unfold manyNL; omega
  | x :: xs, left, h => by
    have h1 := manyNM_bd x left h
    unfold manyNL
    split
    · omega
    · have := manyNL_bd xs (manyNM x left) (by omega); omega
end

set_option maxHeartbeats 1000000 in
theorem many_nodes (m : Nat) : ∀ (l : List Nd) (n : Int) (a : Option Addr) (c : Nat) (w : World), SizeOf.sizeOf l ≤ m → 0 ≤ n → n ≤ 4096 → l.length ≤ 9223372036854775807 → RepNSl (Lo w.heap.size) w a l →
    Calls Tryd.prog 51 #[.slice a l.length c, .int .i64 n] w (IntOut w (manyNL l n)) := by
  induction m with
  | zero => intro l n a c w h; cases l <;> simp at h
  | succ m ih =>
    intro l n a c w hm h0 h1 hlen hR
    have IH := Lib.hid ih
    clear ih
    have HR := Lib.hid hR
    generalize hz : manyNL l n = z
    have HZ := Lib.hid hz
    clear hz hR
    go_enter Tryd.func51, Tryd.ntmps51
    go_wp2_with fail
    go_loopw [1, 5] (fun q i wr => ∃ (k : Nat) (li : Int), k ≤ l.length ∧ i = .int .i64 k ∧ q = .int .i64 li ∧ 0 ≤ li ∧ li ≤ 4096 ∧ Below w.heap.size w wr ∧ Hid (manyNL (l.drop k) li = z)) (fun _ i _ => l.length - (intOf i).toNat)
    case atStart => exact ⟨0, n, Nat.zero_le _, rfl, rfl, h0, h1, Below.refl _ _, HZ⟩
    case round =>
      clear h0 h1
      obtain ⟨k, li, hk, rfl, rfl, hl0, hl1, hB, hF⟩ := hrel
      have hF2 := hF.out
      clear hF
      by_cases hlt : k < l.length
      · obtain ⟨b, o, rfl, hs, hat⟩ := (HR.out.below hB).item k hlt
        obtain ⟨ff, -, a1, c1, a2, c2, g0, g1, g2, g3, g4, g5, g6, g7, -, hsub⟩ := repNAt_iff.1 hat
        rw [List.drop_eq_getElem_cons hlt, manyNL] at hF2
        have hsize := sizeOf_ndl l k hlt
        have hsize2 := sizeOf_nd l[k]
        have hbd := manyNM_bd l[k] li (by omega)
        have he := manyNM_eq l[k] li
        generalize l[k] = y at ff g0 g1 g2 g3 g4 g5 g6 g7 hsub hF2 hsize hsize2 hbd he
        have hszr := hB.size
        have hfl := ff.2.2.2.2.2
        by_cases hbig : li < 1
        · rw [if_pos hbig] at he
          rw [he, if_pos (by decide)] at hF2
          have HF2 := Lib.hid hF2
          clear hF2 he hat ff hsub hbd
          go_wp2_with fail
          go_ret
          rw [← HF2.out]
          exact ⟨rfl, hB⟩
        · rw [if_neg hbig] at he
          have HC := Lib.hid (IH.out y.l (li - 1) a2 c2 wr (by omega) (by omega) (by omega) hfl (hsub.more hszr))
          rw [← he] at HC
          generalize manyNM y li = q at HC hF2 hbd
          by_cases hq : q < 0
          · rw [if_pos hq] at hF2
            have HF2 := Lib.hid hF2
            clear hF2 he hat ff hsub
            go_wp2_with fail
            refine HC.out.mono ?_
            rintro e w2 ⟨rfl, hB2⟩
            go_wp2_with fail
            go_ret
            rw [← HF2.out]
            exact ⟨rfl, hB.trans (hB2.mono hszr)⟩
          · rw [if_neg hq] at hF2
            have HF2 := Lib.hid hF2
            clear hF2 he hat ff hsub
            go_wp2_with fail
            refine HC.out.mono ?_
            rintro e w2 ⟨rfl, hB2⟩
            go_wp2_with fail
            go_roundw
            case rel => exact ⟨k + 1, q, by omega, by go_num, rfl, by omega, by omega, hB.trans (hB2.mono hszr), HF2⟩
            case measure => simp [intOf]; omega
      · rw [List.drop_eq_nil_of_le (by omega), manyNL] at hF2
        have HF2 := Lib.hid hF2
        clear hF2
        go_wp2_with fail
        go_ret
        rw [HF2.out]
        exact ⟨rfl, hB⟩

/-! ### depth -/
mutual
def cntM : Nd → Nat
  | .mk _ _ _ _ l => 1 + cntL l
def cntL : List Nd → Nat
  | [] => 0
  | x :: xs => cntM x + cntL xs
end
mutual
def deepNM : Nd → Int
  | .mk _ _ _ _ l => 1 + deepNL 0 l
def deepNL : Int → List Nd → Int
  | n, [] => n
  | n, x :: xs => deepNL (max n (deepNM x)) xs
end
theorem cntM_eq (x : Nd) : cntM x = 1 + cntL x.l := by cases x; rfl
theorem deepNM_eq (x : Nd) : deepNM x = 1 + deepNL 0 x.l := by cases x; rfl
mutual
theorem deepNM_bd : ∀ (x : Nd), 1 ≤ deepNM x ∧ deepNM x ≤ cntM x
  | .mk _ _ _ _ l => by
    have := deepNL_bd l 0 0 (by omega) (by omega)
    unfold deepNM cntM
    omega
theorem deepNL_bd : ∀ (l : List Nd) (n : Int) (c : Nat), 0 ≤ n → n ≤ c → n ≤ deepNL n l ∧ deepNL n l ≤ c + cntL l
  | [], n, c, h0, h1 => by unfold deepNL cntL; omega
  | x :: xs, n, c, h0, h1 => by
    have h2 := deepNM_bd x
    have h3 := deepNL_bd xs (max n (deepNM x)) (c + cntM x) (by omega) (by omega)
    unfold deepNL cntL
    omega
end
theorem cntL_drop : ∀ (l : List Nd) (k : Nat), cntL (l.drop k) ≤ cntL l
  | [], k => by simp
  | x :: xs, 0 => Nat.le_refl _
  | x :: xs, k + 1 => by have := cntL_drop xs k; rw [List.drop_succ_cons, cntL]; omega
theorem cntL_item (l : List Nd) (k : Nat) (h : k < l.length) : cntL l[k].l < cntL l := by
  have h1 := cntL_drop l k
  rw [List.drop_eq_getElem_cons h, cntL, cntM_eq] at h1
  omega
theorem cntL_len : ∀ (l : List Nd), l.length ≤ cntL l
  | [] => Nat.le_refl _
  | x :: xs => by have := cntL_len xs; rw [cntL, cntM_eq, List.length_cons]; omega

set_option maxHeartbeats 1000000 in
theorem deep_nodes (m : Nat) : ∀ (l : List Nd) (a : Option Addr) (c : Nat) (w : World), SizeOf.sizeOf l ≤ m → cntL l ≤ 100000 → RepNSl (Lo w.heap.size) w a l →
    Calls Tryd.prog 65 #[.slice a l.length c] w (IntOut w (deepNL 0 l)) := by
  induction m with
  | zero => intro l a c w h; cases l <;> simp at h
  | succ m ih =>
    intro l a c w hm hcnt hR
    have IH := Lib.hid ih
    clear ih
    have HR := Lib.hid hR
    have hlen : l.length ≤ 100000 := by have := cntL_len l; omega
    generalize hz : deepNL 0 l = z
    have HZ := Lib.hid hz
    clear hz hR
    go_enter Tryd.func65, Tryd.ntmps65
    go_wp2_with fail
    go_loopw [3, 8] (fun q i wr => ∃ (k : Nat) (li : Int), k ≤ l.length ∧ i = .int .i64 k ∧ q = .int .i64 li ∧ 0 ≤ li ∧ li ≤ 100000 ∧ Below w.heap.size w wr ∧ Hid (deepNL li (l.drop k) = z)) (fun _ i _ => l.length - (intOf i).toNat)
    case atStart => exact ⟨0, 0, Nat.zero_le _, rfl, rfl, by decide, by decide, Below.refl _ _, HZ⟩
    case round =>
      obtain ⟨k, li, hk, rfl, rfl, hl0, hl1, hB, hF⟩ := hrel
      have hF2 := hF.out
      clear hF
      by_cases hlt : k < l.length
      · obtain ⟨b, o, rfl, hs, hat⟩ := (HR.out.below hB).item k hlt
        obtain ⟨ff, -, a1, c1, a2, c2, g0, g1, g2, g3, g4, g5, g6, g7, -, hsub⟩ := repNAt_iff.1 hat
        rw [List.drop_eq_getElem_cons hlt, deepNL] at hF2
        have hsize := sizeOf_ndl l k hlt
        have hsize2 := sizeOf_nd l[k]
        have hci := cntL_item l k hlt
        have he := deepNM_eq l[k]
        generalize l[k] = y at ff g0 g1 g2 g3 g4 g5 g6 g7 hsub hF2 hsize hsize2 hci he
        have hbd := deepNL_bd y.l 0 0 (by decide) (by decide)
        have hszr := hB.size
        have hv := NV.new wr (.int .i64 y.op) (.int .i64 y.line) (.string y.s) (.int .i64 y.v.kind) (.int .i64 y.v.n) (.string y.v.s) (.slice a1 y.v.l.length c1) (.slice a2 y.l.length c2)
        obtain ⟨d0, d1, d2, d3, d4, d5, d6, d7⟩ := hv.all
        have HC := Lib.hid fun (o : Obj) => IH.out y.l a2 c2 (wr.alloc o) (by omega) (by omega) ((hsub.below ((bal wr o).mono hszr)).more (by simp; omega))
        clear hv
        rw [he] at hF2
        generalize deepNL 0 y.l = q at HC hF2 hbd
        by_cases hq : li ≤ 1 + q
        · rw [Int.max_eq_right hq] at hF2
          have HF2 := Lib.hid hF2
          have hmx : max li (1 + q) = 1 + q := Int.max_eq_right hq
          have HMX := Lib.hid hmx
          clear hF2 he hat ff hsub hmx
          go_wp2_with fail
          refine (HC.out _).mono ?_
          rintro e w2 ⟨rfl, hB2⟩
          go_wp2_with fail
          go_roundw
          case rel => exact ⟨k + 1, 1 + q, by omega, by go_num, by first | rfl | (congr 1; split <;> omega), by omega, by omega, (hB.alloc hszr _).trans (hB2.mono (by simp; omega)), HF2⟩
          case measure => simp [intOf]; omega
        · have hmx : max li (1 + q) = li := Int.max_eq_left (by omega)
          rw [hmx] at hF2
          have HF2 := Lib.hid hF2
          have HMX := Lib.hid hmx
          clear hF2 he hat ff hsub hmx
          go_wp2_with fail
          refine (HC.out _).mono ?_
          rintro e w2 ⟨rfl, hB2⟩
          go_wp2_with fail
          go_roundw
          case rel => exact ⟨k + 1, li, by omega, by go_num, by first | rfl | (congr 1; split <;> omega), by omega, by omega, (hB.alloc hszr _).trans (hB2.mono (by simp; omega)), HF2⟩
          case measure => simp [intOf]; omega
      · rw [List.drop_eq_nil_of_le (by omega), deepNL] at hF2
        have HF2 := Lib.hid hF2
        clear hF2
        go_wp2_with fail
        go_ret
        rw [HF2.out]
        exact ⟨rfl, hB⟩

set_option maxHeartbeats 1000000 in
theorem refDeep_nodes (m : Nat) : ∀ (l : List Nd) (a : Option Addr) (c : Nat) (w : World), SizeOf.sizeOf l ≤ m → cntL l ≤ 100000 → RepNSl (Lo w.heap.size) w a l →
    Calls Tryd.prog 36 #[.slice a l.length c] w (IntOut w (deepNL 0 l)) := by
  induction m with
  | zero => intro l a c w h; cases l <;> simp at h
  | succ m ih =>
    intro l a c w hm hcnt hR
    have IH := Lib.hid ih
    clear ih
    have HR := Lib.hid hR
    have hlen : l.length ≤ 100000 := by have := cntL_len l; omega
    generalize hz : deepNL 0 l = z
    have HZ := Lib.hid hz
    clear hz hR
    go_enter Tryd.func36, Tryd.ntmps36
    go_wp2_with fail
    go_loopw [3, 4] (fun q i wr => ∃ (k : Nat) (li : Int), k ≤ l.length ∧ i = .int .i64 k ∧ q = .int .i64 li ∧ 0 ≤ li ∧ li ≤ 100000 ∧ Below w.heap.size w wr ∧ Hid (deepNL li (l.drop k) = z)) (fun _ i _ => l.length - (intOf i).toNat)
    case atStart => exact ⟨0, 0, Nat.zero_le _, rfl, rfl, by decide, by decide, Below.refl _ _, HZ⟩
    case round =>
      obtain ⟨k, li, hk, rfl, rfl, hl0, hl1, hB, hF⟩ := hrel
      have hF2 := hF.out
      clear hF
      by_cases hlt : k < l.length
      · obtain ⟨b, o, rfl, hs, hat⟩ := (HR.out.below hB).item k hlt
        obtain ⟨ff, -, a1, c1, a2, c2, g0, g1, g2, g3, g4, g5, g6, g7, -, hsub⟩ := repNAt_iff.1 hat
        rw [List.drop_eq_getElem_cons hlt, deepNL] at hF2
        have hsize := sizeOf_ndl l k hlt
        have hsize2 := sizeOf_nd l[k]
        have hci := cntL_item l k hlt
        have he := deepNM_eq l[k]
        generalize l[k] = y at ff g0 g1 g2 g3 g4 g5 g6 g7 hsub hF2 hsize hsize2 hci he
        have hbd := deepNL_bd y.l 0 0 (by decide) (by decide)
        have hszr := hB.size
        have HC := Lib.hid (IH.out y.l a2 c2 wr (by omega) (by omega) (hsub.more hszr))
        rw [he] at hF2
        generalize deepNL 0 y.l = q at HC hF2 hbd
        by_cases hq : li ≤ 1 + q
        · rw [Int.max_eq_right hq] at hF2
          have HF2 := Lib.hid hF2
          have hmx : max li (1 + q) = 1 + q := Int.max_eq_right hq
          have HMX := Lib.hid hmx
          clear hF2 he hat ff hsub hmx
          go_wp2_with fail
          refine HC.out.mono ?_
          rintro e w2 ⟨rfl, hB2⟩
          go_wp2_with fail
          go_roundw
          case rel => exact ⟨k + 1, 1 + q, by omega, by go_num, by first | rfl | (congr 1; split <;> omega), by omega, by omega, hB.trans (hB2.mono hszr), HF2⟩
          case measure => simp [intOf]; omega
        · have hmx : max li (1 + q) = li := Int.max_eq_left (by omega)
          rw [hmx] at hF2
          have HF2 := Lib.hid hF2
          have HMX := Lib.hid hmx
          clear hF2 he hat ff hsub hmx
          go_wp2_with fail
          refine HC.out.mono ?_
          rintro e w2 ⟨rfl, hB2⟩
          go_wp2_with fail
          go_roundw
          case rel => exact ⟨k + 1, li, by omega, by go_num, by first | rfl | (congr 1; split <;> omega), by omega, by omega, hB.trans (hB2.mono hszr), HF2⟩
          case measure => simp [intOf]; omega
      · rw [List.drop_eq_nil_of_le (by omega), deepNL] at hF2
        have HF2 := Lib.hid hF2
        clear hF2
        go_wp2_with fail
        go_ret
        rw [HF2.out]
        exact ⟨rfl, hB⟩

end Go.Proofs.YtmkghfkikclodaaDoor
namespace Go.Proofs.YtmkghfkikclodaaDoor
open Go.RowKit

mutual
def fewNM : Nd → Int → Int → Int
  | .mk _ _ s v l, left, deep => if left - 1 - s.size / 16 < 0 ∨ 60 < deep then -1 else if fewM v (left - 1 - s.size / 16) 0 < 0 then -1 else fewNL l (fewM v (left - 1 - s.size / 16) 0) (deep + 1)
def fewNL : List Nd → Int → Int → Int
  | [], left, _ => left
  | x :: xs, left, deep => if fewNM x left deep < 0 then -1 else fewNL xs (fewNM x left deep) deep
end
theorem fewNM_eq (x : Nd) (left deep : Int) : fewNM x left deep = if left - 1 - x.s.size / 16 < 0 ∨ 60 < deep then -1 else if fewM x.v (left - 1 - x.s.size / 16) 0 < 0 then -1 else fewNL x.l (fewM x.v (left - 1 - x.s.size / 16) 0) (deep + 1) := by cases x; rfl
mutual
theorem fewNM_bd : ∀ (x : Nd) (left deep : Int), -1 ≤ left → -1 ≤ fewNM x left deep ∧ fewNM x left deep ≤ left
  | .mk _ _ s v l, left, deep, h => by
    unfold fewNM
    split
    · omega
    · have h1 := fewM_le v (left - 1 - s.size / 16) 0 (by omega)
      split
      · omega
      · have := fewNL_bd l (fewM v (left - 1 - s.size / 16) 0) (deep + 1) (by omega); omega
theorem fewNL_bd : ∀ (l : List Nd) (left deep : Int), -1 ≤ left → -1 ≤ fewNL l left deep ∧ fewNL l left deep ≤ left
  | [], left, deep, h => by unfold fewNL; omega
  | x :: xs, left, deep, h => by
    have h1 := fewNM_bd x left deep h
    unfold fewNL
    split
    · omega
    · have := fewNL_bd xs (fewNM x left deep) deep (by omega); omega
end

set_option maxHeartbeats 2000000 in
theorem few_nodes (m : Nat) : ∀ (l : List Nd) (n deep : Int) (a : Option Addr) (c : Nat) (w : World), SizeOf.sizeOf l ≤ m → 0 ≤ n → n ≤ 6000 → 0 ≤ deep → deep ≤ 61 → l.length ≤ 9223372036854775807 → RepNSl (Lo w.heap.size) w a l →
    Calls Tryd.prog 48 #[.slice a l.length c, .int .i64 n, .int .i64 deep] w (IntOut w (fewNL l n deep)) := by
  induction m with
  | zero => intro l n deep a c w h; cases l <;> simp at h
  | succ m ih =>
    intro l n deep a c w hm h0 h1 hd0 hd1 hlen hR
    have IH := Lib.hid ih
    clear ih
    have HR := Lib.hid hR
    generalize hz : fewNL l n deep = z
    have HZ := Lib.hid hz
    clear hz hR
    go_enter Tryd.func48, Tryd.ntmps48
    go_wp2_with fail
    go_loopw [1, 7] (fun q i wr => ∃ (k : Nat) (li : Int), k ≤ l.length ∧ i = .int .i64 k ∧ q = .int .i64 li ∧ 0 ≤ li ∧ li ≤ 6000 ∧ Below w.heap.size w wr ∧ Hid (fewNL (l.drop k) li deep = z)) (fun _ i _ => l.length - (intOf i).toNat)
    case atStart => exact ⟨0, n, Nat.zero_le _, rfl, rfl, h0, h1, Below.refl _ _, HZ⟩
    case round =>
      clear h0 h1
      obtain ⟨k, li, hk, rfl, rfl, hl0, hl1, hB, hF⟩ := hrel
      have hF2 := hF.out
      clear hF
      by_cases hlt : k < l.length
      · obtain ⟨b, o, rfl, hs, hat⟩ := (HR.out.below hB).item k hlt
        obtain ⟨ff, fv, a1, c1, a2, c2, g0, g1, g2, g3, g4, g5, g6, g7, hsv, hsub⟩ := repNAt_iff.1 hat
        rw [List.drop_eq_getElem_cons hlt, fewNL] at hF2
        have hsize := sizeOf_ndl l k hlt
        have hsize2 := sizeOf_nd l[k]
        have hbd := fewNM_bd l[k] li deep (by omega)
        have he := fewNM_eq l[k] li deep
        generalize l[k] = y at ff fv g0 g1 g2 g3 g4 g5 g6 g7 hsv hsub hF2 hsize hsize2 hbd he
        have hszr := hB.size
        have hfl := ff.2.2.2.2.2
        have hfs := ff.2.2.2.2.1
        have hdiv : (y.s.size : Int) / 16 ≤ 576460752303423487 := by omega
        have hdiv0 : 0 ≤ (y.s.size : Int) / 16 := by omega
        by_cases hbig : li - 1 - y.s.size / 16 < 0 ∨ 60 < deep
        · rw [if_pos hbig] at he
          rw [he, if_pos (by decide)] at hF2
          have HF2 := Lib.hid hF2
          clear hF2 he hat ff hsub hbd hsv fv
          by_cases hb1 : li - 1 - y.s.size / 16 < 0
          · clear hbig
            go_wp2_with fail
            go_ret
            rw [← HF2.out]
            exact ⟨rfl, hB⟩
          · have hb2 : 60 < deep := by omega
            clear hbig
            go_wp2_with fail
            go_ret
            rw [← HF2.out]
            exact ⟨rfl, hB⟩
        · rw [if_neg hbig] at he
          have hb1 : 0 ≤ li - 1 - y.s.size / 16 := by omega
          have hb2 : deep ≤ 60 := by omega
          have HV := Lib.hid (few_any (SizeOf.sizeOf y.v) y.v (li - 1 - y.s.size / 16) 0 a1 c1 wr (Nat.le_refl _) (by omega) (by omega) (by decide) (by decide) fv (hsv.more hszr))
          have hvb := fewM_le y.v (li - 1 - y.s.size / 16) 0 (by omega)
          generalize fewM y.v (li - 1 - y.s.size / 16) 0 = r at HV he hvb
          by_cases hr : r < 0
          · rw [if_pos hr] at he
            rw [he, if_pos (by decide)] at hF2
            have HF2 := Lib.hid hF2
            clear hF2 he hat ff hsub hbd hsv fv hbig
            go_wp2_with fail
            refine HV.out.mono ?_
            rintro e w2 ⟨rfl, hB2⟩
            go_wp2_with fail
            go_ret
            rw [← HF2.out]
            exact ⟨rfl, hB.trans (hB2.mono hszr)⟩
          · rw [if_neg hr] at he
            have HC := Lib.hid fun (w' : World) (hb : Below wr.heap.size wr w') => IH.out y.l r (deep + 1) a2 c2 w' (by omega) (by omega) (by omega) (by omega) (by omega) hfl ((hsub.below (hb.mono hszr)).more (by have := hb.size; omega))
            rw [← he] at HC
            generalize fewNM y li deep = q at HC hF2 hbd
            by_cases hq : q < 0
            · rw [if_pos hq] at hF2
              have HF2 := Lib.hid hF2
              clear hF2 he hat ff hsub hsv fv hbig
              go_wp2_with fail
              refine HV.out.mono ?_
              rintro e w2 ⟨rfl, hB2⟩
              have g7' := (hB2.cell (cell_lt g7)).trans g7
              clear g0 g1 g2 g3 g4 g5 g6 g7
              go_wp2_with fail
              refine (HC.out _ hB2).mono ?_
              rintro e w3 ⟨rfl, hB3⟩
              go_wp2_with fail
              go_ret
              rw [← HF2.out]
              exact ⟨rfl, hB.trans ((hB2.mono hszr).trans (hB3.mono (by have := hB2.size; omega)))⟩
            · rw [if_neg hq] at hF2
              have HF2 := Lib.hid hF2
              clear hF2 he hat ff hsub hsv fv hbig
              go_wp2_with fail
              refine HV.out.mono ?_
              rintro e w2 ⟨rfl, hB2⟩
              have g7' := (hB2.cell (cell_lt g7)).trans g7
              clear g0 g1 g2 g3 g4 g5 g6 g7
              go_wp2_with fail
              refine (HC.out _ hB2).mono ?_
              rintro e w3 ⟨rfl, hB3⟩
              go_wp2_with fail
              go_roundw
              case rel => exact ⟨k + 1, q, by omega, by go_num, rfl, by omega, by omega, hB.trans ((hB2.mono hszr).trans (hB3.mono (by have := hB2.size; omega))), HF2⟩
              case measure => simp [intOf]; omega
      · rw [List.drop_eq_nil_of_le (by omega), fewNL] at hF2
        have HF2 := Lib.hid hF2
        clear hF2
        go_wp2_with fail
        go_ret
        rw [HF2.out]
        exact ⟨rfl, hB⟩

/-! ### lines -/
mutual
def linesM : Nd → Bool
  | .mk _ line _ _ l => decide (-2147483648 ≤ line) && decide (line ≤ 2147483647) && linesL l
def linesL : List Nd → Bool
  | [] => true
  | x :: xs => linesM x && linesL xs
end
theorem linesM_eq (x : Nd) : linesM x = (decide (-2147483648 ≤ x.line) && decide (x.line ≤ 2147483647) && linesL x.l) := by cases x; rfl

set_option maxHeartbeats 2000000 in
theorem lines_any (m : Nat) : ∀ (l : List Nd) (a : Option Addr) (c : Nat) (w : World), SizeOf.sizeOf l ≤ m → l.length ≤ 9223372036854775807 → RepNSl (Lo w.heap.size) w a l →
    Calls Tryd.prog 17 #[.slice a l.length c] w (BoolOut w (linesL l)) := by
  induction m with
  | zero => intro l a c w h; cases l <;> simp at h
  | succ m ih =>
    intro l a c w hm hlen hR
    have IH := Lib.hid ih
    clear ih
    have HR := Lib.hid hR
    generalize hz : linesL l = z
    have HZ := Lib.hid hz
    clear hz hR
    go_enter Tryd.func17, Tryd.ntmps17
    go_wp2_with fail
    go_loopw [3] (fun i wr => ∃ (k : Nat), k ≤ l.length ∧ i = .int .i64 k ∧ Below w.heap.size w wr ∧ Hid (linesL (l.drop k) = z)) (fun i _ => l.length - (intOf i).toNat)
    case atStart => exact ⟨0, Nat.zero_le _, rfl, Below.refl _ _, HZ⟩
    case round =>
      obtain ⟨k, hk, rfl, hB, hF⟩ := hrel
      have hF2 := hF.out
      clear hF
      by_cases hlt : k < l.length
      · obtain ⟨b, o, rfl, hs, hat⟩ := (HR.out.below hB).item k hlt
        obtain ⟨ff, fv, a1, c1, a2, c2, g0, g1, g2, g3, g4, g5, g6, g7, hsv, hsub⟩ := repNAt_iff.1 hat
        rw [List.drop_eq_getElem_cons hlt, linesL, linesM_eq] at hF2
        have hsize := sizeOf_ndl l k hlt
        have hsize2 := sizeOf_nd l[k]
        generalize l[k] = y at ff fv g0 g1 g2 g3 g4 g5 g6 g7 hsv hsub hF2 hsize hsize2
        have hszr := hB.size
        have hfl := ff.2.2.2.2.2
        have HC := Lib.hid (IH.out y.l a2 c2 wr (by omega) hfl (hsub.more hszr))
        by_cases h1 : y.line < -2147483648
        · have hz : z = false := by rw [← hF2, decide_eq_false (by omega : ¬ -2147483648 ≤ y.line)]; rfl
          subst hz
          clear hF2 hat ff hsub hsv fv HC
          go_wp2_with fail
          go_ret
          exact ⟨rfl, hB⟩
        by_cases h2 : 2147483647 < y.line
        · have hz : z = false := by rw [← hF2, decide_eq_false (by omega : ¬ y.line ≤ 2147483647)]; simp
          subst hz
          clear hF2 hat ff hsub hsv fv HC
          go_wp2_with fail
          go_ret
          exact ⟨rfl, hB⟩
        rw [decide_eq_true (by omega : -2147483648 ≤ y.line), decide_eq_true (by omega : y.line ≤ 2147483647)] at hF2
        generalize linesL y.l = q at HC hF2
        cases q with
        | false =>
          have hz : z = false := by rw [← hF2]; rfl
          subst hz
          clear hF2 hat ff hsub hsv fv
          go_wp2_with fail
          refine HC.out.mono ?_
          rintro e w2 ⟨rfl, hB2⟩
          go_wp2_with fail
          go_ret
          exact ⟨rfl, hB.trans (hB2.mono hszr)⟩
        | true =>
          have HF2 : Hid (linesL (l.drop (k + 1)) = z) := by show _ = _; rw [← hF2]; simp
          clear hF2 hat ff hsub hsv fv
          go_wp2_with fail
          refine HC.out.mono ?_
          rintro e w2 ⟨rfl, hB2⟩
          go_wp2_with fail
          go_roundw
          case rel => exact ⟨k + 1, by omega, by go_num, hB.trans (hB2.mono hszr), HF2⟩
          case measure => simp [intOf]; omega
      · rw [List.drop_eq_nil_of_le (by omega), linesL] at hF2
        subst hF2
        go_wp2_with fail
        go_ret
        exact ⟨rfl, hB⟩
end Go.Proofs.YtmkghfkikclodaaDoor
