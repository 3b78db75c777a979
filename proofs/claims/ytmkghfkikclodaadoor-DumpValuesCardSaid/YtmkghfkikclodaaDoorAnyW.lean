/- Equal bytes; the chapter's example; DumpAny's walk. -/
import Derived.Test.YtmkghfkikclodaaDoorPlainA
namespace Go.Proofs.YtmkghfkikclodaaDoor
open Go.RowKit

/-- the slice v holds the bytes l -/
def Cells (w : World) (v : Value) (l : List UInt8) : Prop := ∃ a c, v = .slice a l.length c ∧ (l = [] ∨ ∃ ad, a = some ad ∧ ∀ j (h : j < l.length), w.cell? (ad.add j) = some (byteV l[j]))

theorem OwnB.bytes {w : World} {base : Nat} {e : TypeId} {v : Value} {l : List UInt8} (h : OwnB w base e v l) : Cells w v l := by
  rcases h.2 with ⟨rfl, h0⟩ | ⟨g, cap, cur, rfl, hb, hg, hrest⟩
  · obtain rfl : l = [] := List.eq_nil_of_length_eq_zero h0
    exact ⟨none, 0, rfl, .inl rfl⟩
  · refine ⟨_, _, rfl, .inr ⟨_, rfl, fun j hj => ?_⟩⟩
    exact World.ownsRow.cells h (g := g) rfl j (byteV l[j]) (by simp [hj])

theorem _root_.Go.RowKit.Below.drewN {B : Nat} {w w' : World} (h : Below B w w') (n : Nat) : Below B w (w'.drewN n) := ⟨h.os, h.tape, h.output, h.size, h.block⟩

theorem Cells.drewN {w : World} {v : Value} {l : List UInt8} (h : Cells w v l) (n : Nat) : Cells (w.drewN n) v l := h

set_option maxHeartbeats 1000000 in
theorem sameBytes_any (w : World) (v v' : Value) (l l' : List UInt8) (h : Cells w v l) (h' : Cells w v' l') (hl : l.length ≤ 140737488355328) (hl' : l'.length ≤ 140737488355328) :
    Calls Tryd.prog 15 #[v, v'] w (BoolOut w (decide (l = l'))) := by
  obtain ⟨a, c, rfl, hc⟩ := h
  obtain ⟨a', c', rfl, hc'⟩ := h'
  by_cases hlen : l.length = l'.length
  · have HLEN := Lib.hid hlen
    have HC := Lib.hid hc
    have HC' := Lib.hid hc'
    rw [← hlen]
    generalize hz : decide (l = l') = z
    have HZ := Lib.hid hz
    clear hz hc hc' hlen hl'
    go_enter Tryd.func15, Tryd.ntmps15
    go_wp2
    go_loopw [5] (fun i wr => ∃ k : Nat, k ≤ l.length ∧ i = .int .i64 k ∧ Below w.heap.size w wr ∧ Hid (decide (l.drop k = l'.drop k) = z)) (fun i _ => l.length - (intOf i).toNat)
    case atStart => exact ⟨0, Nat.zero_le _, rfl, Below.refl _ _, by simpa using HZ⟩
    case round =>
      obtain ⟨k, hk, rfl, hB, hF⟩ := hrel
      by_cases hlt : k < l.length
      · rcases HC.out with rfl | ⟨ad, rfl, hcc⟩
        · simp at hlt
        rcases HC'.out with rfl | ⟨ad', rfl, hcc'⟩
        · have := HLEN.out; simp at this; rw [this] at hlt; simp at hlt
        have hlt' : k < l'.length := by rw [← HLEN.out]; exact hlt
        have g0 := (hB.cell (cell_lt (hcc k hlt))).trans (hcc k hlt)
        have g1 := (hB.cell (cell_lt (hcc' k hlt'))).trans (hcc' k hlt')
        have hF2 := hF.out
        rw [List.drop_eq_getElem_cons hlt, List.drop_eq_getElem_cons hlt'] at hF2
        unfold byteV at g0 g1
        by_cases he : l[k] = l'[k]
        · rw [he] at hF2 g0
          have hF3 : decide (l.drop (k + 1) = l'.drop (k + 1)) = z := by rw [← hF2]; simp only [List.cons.injEq, true_and]
          have HF3 := Lib.hid hF3
          clear hF hF2 hF3 he hcc hcc'
          go_wp2
          go_quiet (fail)
          go_wp2
          go_roundw
          case rel => exact ⟨k + 1, by omega, by go_num, (hB.drewN _), HF3⟩
          case measure => simp [intOf]; omega
        · have hF3 : z = false := by rw [← hF2]; simp only [List.cons.injEq, he, false_and, decide_false]
          have hne : (((l[k].toNat : Int)) == (l'[k].toNat : Int)) = false := by
            simp only [beq_eq_false_iff_ne, ne_eq, Int.natCast_inj]
            exact fun e => he (UInt8.toNat_inj.1 e)
          subst hF3
          clear hF hF2 hcc hcc'
          go_wp2
          go_quiet (fail)
          go_wp2
          go_ret
          exact ⟨rfl, hB.drewN _⟩
      · have hF2 := hF.out
        rw [List.drop_eq_nil_of_le (by omega), List.drop_eq_nil_of_le (by have := HLEN.out; omega)] at hF2
        have hF3 : z = true := by rw [← hF2]; simp
        subst hF3
        clear hF hF2
        go_wp2
        go_ret
        exact ⟨rfl, hB⟩
  · have hz : decide (l = l') = false := by simp only [decide_eq_false_iff_not]; exact fun e => hlen (by rw [e])
    rw [hz]
    have hb : (((l.length : Int)) != (l'.length : Int)) = true := by simp; omega
    clear hc hc' hz hlen
    go_enter Tryd.func15, Tryd.ntmps15
    go_wp2
    go_ret
    exact ⟨rfl, Below.refl _ _⟩

theorem sameBytes_same (w : World) (v v' : Value) (l : List UInt8) (h : Cells w v l) (h' : Cells w v' l) (hl : l.length ≤ 140737488355328) : Calls Tryd.prog 15 #[v, v'] w (BoolOut w true) := by
  have := sameBytes_any w v v' l l h h' hl hl
  rwa [decide_eq_true rfl] at this

theorem first_any (p : Nat → Addr) (w : World) (hw : 5 ≤ w.heap.size) (hE : Errs 5 p w) : Calls Tryd.prog 6 #[] w (BoolOut w true) := by
  have hf : Fits 0 1 (ByteArray.mk #[]) 0 := by unfold Fits; decide
  have hL : dumpM (.mk 0 1 (ByteArray.mk #[]) []) = [0, 1, 0, 0, 0, 0, 0, 0, 0] := by decide +kernel
  have HC := Lib.hid (dumpValue_any p (.mk 0 1 (ByteArray.mk #[]) []) none 0 w hw hf (.inl rfl) hE (by rw [hL]; decide))
  rw [hL] at HC
  clear hL hE
  go_enter Tryd.func6, Tryd.ntmps6
  go_wp2_with fail
  refine HC.out.mono ?_
  rintro e w1 ⟨v, rfl, ho, hk⟩
  obtain ⟨a, c, rfl⟩ := ho.shape
  have hB := hk.below (Nat.le_refl _)
  clear ho hk
  go_wp2
  go_ret
  exact ⟨rfl, hB⟩

theorem readM_bad (bs : List UInt8) (h : (readM bs).2.2.isSome = true) : (readM bs).1 = zeroVal ∧ (readM bs).2.1 = 0 := by
  unfold readM at h ⊢
  by_cases hs : (rightM bs (0, Option.none)).2.2.isSome = true
  · rw [if_pos hs]; exact ⟨rfl, rfl⟩
  · rw [if_neg hs] at h; cases h

/-- what lay in w lies in w' as it did -/
def Since (w w' : World) : Prop := w.heap.size ≤ w'.heap.size ∧ ∀ k, k < w.heap.size → w'.heap[k]? = w.heap[k]?
theorem Since.below {w w' w2 : World} (h : Since w w') (hb : Below w'.heap.size w' w2) : Since w w2 := ⟨Nat.le_trans h.1 hb.size, fun k hk => (hb.block k (Nat.lt_of_lt_of_le hk h.1)).trans (h.2 k hk)⟩
theorem Since.rep {w w' : World} {B : Nat} {a : Option Addr} {l : List Val} (h : Since w w') (hB : B ≤ w.heap.size) (hr : RepSl (Lo B) w a l) : RepSl (Lo w'.heap.size) w' a l :=
  hr.keep (fun k hk => h.2 k (Nat.lt_of_lt_of_le hk hB)) (fun k hk => by have h1 : k < B := hk; have := h.1; show k < _; omega)
theorem Since.errs {w w' : World} {N : Nat} {p : Nat → Addr} (h : Since w w') (hN : N ≤ w.heap.size) (hE : Errs N p w) : Errs N p w' :=
  fun g hg => (World.cell?_of_block (a := ⟨g, 0, none⟩) (h.2 g (by omega))).trans (hE g hg)
theorem Since.bs {w w' : World} {B : Nat} {v : Value} {bs : List UInt8} (h : Since w w') (hB : B ≤ w.heap.size) (hb : Bs B w v bs) : Bs w'.heap.size w' v bs := by
  obtain ⟨a', c', he, h1, h2⟩ := hb
  refine ⟨a', c', he, h1, ?_⟩
  rcases h2 with h2 | ⟨ad, rfl, h3, h4⟩
  · exact .inl h2
  · exact .inr ⟨ad, rfl, by have := h.1; omega, fun j hj => (World.cell?_of_block (h.2 _ (by rw [add_block]; omega))).trans (h4 j hj)⟩
theorem Since.vb {w w' : World} {g : Nat} {x0 x1 x2 x3 : Value} (h : Since w w') (hv : VB w g x0 x1 x2 x3) : VB w' g x0 x1 x2 x3 := (h.2 g hv.lt).trans hv

/-- the first n of these bytes -/
theorem Bs.take {w : World} {B : Nat} {a : Option Addr} {c : Nat} {bs : List UInt8} (h : Bs B w (.slice a bs.length c) bs) (n : Nat) (hn : n ≤ bs.length) : Cells w (.slice a n c) (bs.take n) := by
  obtain ⟨a', c', he, h1, h2⟩ := h
  obtain ⟨rfl, rfl⟩ : a = a' ∧ c = c' := by
    simp only [Value.slice.injEq] at he
    exact ⟨he.1, he.2.2⟩
  refine ⟨a, c, by rw [List.length_take, Nat.min_eq_left hn], ?_⟩
  rcases h2 with rfl | ⟨ad, rfl, h3, h4⟩
  · left; simp
  · refine .inr ⟨ad, rfl, fun j hj => ?_⟩
    rw [List.length_take] at hj
    rw [h4 j (by omega)]
    simp

theorem retD {w : World} {e : Ending} {w' : World} {b : Bool} (h : BoolOut w b e w') (hb : b = true) : BoolOut w true e w' := by rw [← hb]; exact h

set_option maxRecDepth 100000 in
set_option maxHeartbeats 2000000 in
theorem dumpAny_walk (p : Nat → Addr) (w : World) (a : Option Addr) (c : Nat) (bs : List UInt8) (hw : 5 ≤ w.heap.size) (hE : Errs 5 p w) (hlen : bs.length ≤ 9223372036854775807) (hbs : Bs w.heap.size w (.slice a bs.length c) bs) :
    Calls Tryd.prog 4 #[.slice a bs.length c] w (BoolOut w true) := by
  have HF := Lib.hid (first_any p w hw hE)
  by_cases h500 : 500 < bs.length
  · clear hE hbs
    go_enter Tryd.func4, Tryd.ntmps4
    go_wp2_with fail
    refine HF.out.mono ?_
    rintro e w1 ⟨rfl, hB⟩
    go_wp2_with fail
    go_ret
    exact ⟨rfl, hB⟩
  · have HA := Lib.hid (And.intro hE hbs)
    clear hE hbs
    have HP := Lib.hid (readM_read bs)
    have HZ := Lib.hid (readM_bad bs)
    go_enter Tryd.func4, Tryd.ntmps4
    go_wp2_with fail
    refine HF.out.mono ?_
    rintro e w1 ⟨rfl, hB⟩
    go_wp2_with fail
    have hsz := hB.size
    have hbs1 : Bs w1.heap.size w1 (.slice a bs.length c) bs := by
      obtain ⟨a', c', he, h1, h2⟩ := HA.out.2
      refine ⟨a', c', he, h1, ?_⟩
      rcases h2 with h2 | ⟨ad, rfl, h3, h4⟩
      · exact .inl h2
      · exact .inr ⟨ad, rfl, by omega, fun j hj => (hB.cell (by rw [add_block]; exact h3)).trans (h4 j hj)⟩
    have hE1 := HA.out.1.below hB hw
    refine (readValue_any p w1 _ bs (by omega) hbs1 hE1 (by omega)).mono ?_
    have HE1 := Lib.hid hE1
    have HBS1 := Lib.hid hbs1
    clear hE1 hbs1
    generalize readM bs = q at HP HZ
    obtain ⟨x, n, err⟩ := q
    rintro e w2 ⟨v, rfl, ⟨a2, c2, rfl, hf, hs⟩, hB2⟩
    have HS := Lib.hid hs
    have HFI := Lib.hid hf
    clear hs hf
    cases err with
    | some g =>
      obtain ⟨hx, hn⟩ := HZ.out rfl
      simp only at hx hn
      subst hx hn
      simp only [errO, errV]
      clear HZ HP HS HFI
      go_wp2_with fail
      go_ret
      exact ⟨rfl, hB.trans ((hB2.mono hsz).alloc (by have := hB2.size; omega) _)⟩
    | none =>
      obtain ⟨hv, hsm, hn1, hn2, hby⟩ := HP.out rfl
      simp only at hv hsm hn1 hn2 hby
      simp only [errO]
      clear HZ HP
      go_wp2_with fail
      have h5 := VB.new w2 (.int .i64 x.kind) (.int .i64 x.n) (.string x.s) (.slice a2 x.l.length c2)
      have hal := bal w2 (.cells #[.int .i64 x.kind, .int .i64 x.n, .string x.s, .slice a2 x.l.length c2] 24)
      have hB3 := hB.trans ((hB2.mono hsz).trans (hal.mono (by have := hB2.size; omega)))
      have hsz2 := hB2.size
      have hsz3 := hal.size
      have hE3 := (HE1.out.below hB2 (by omega)).below hal (by omega)
      have hbs3 := (HBS1.out.bel (b := w2.heap.size) (Bel.of hB2) (by omega) (Nat.le_refl _)).bel (b := (w2.alloc (.cells #[.int .i64 x.kind, .int .i64 x.n, .string x.s, .slice a2 x.l.length c2] 24)).heap.size) (Bel.of hal) (by omega) (by omega)
      have hs3 := HS.out.keep (w' := w2.alloc (.cells #[.int .i64 x.kind, .int .i64 x.n, .string x.s, .slice a2 x.l.length c2] 24)) (T := Lo w2.heap.size) (fun k hk => hal.block k hk.2) (fun k hk => hk.2)
      have hL : dumpM x = bs.take n := by unfold dumpM; rw [hv]; exact hby
      have hl2 : (bs.take n).length ≤ 500 := by rw [List.length_take]; omega
      have hsz4 : (w2.alloc (.cells #[.int .i64 x.kind, .int .i64 x.n, .string x.s, .slice a2 x.l.length c2] 24)).heap.size = w2.heap.size + 1 := by simp
      have HSZ := Lib.hid hsz4
      clear hal hsz4
      generalize w2.alloc (.cells #[.int .i64 x.kind, .int .i64 x.n, .string x.s, .slice a2 x.l.length c2] 24) = w3 at h5 hB3 hsz3 hE3 hbs3 hs3 HSZ
      have HR := Lib.hid fun (w' : World) (h : Since w3 w') => by
        have := right_ref x a2 c2 w' HFI.out hsm (h.rep hsz3 hs3)
        rw [hv] at this
        exact this
      have HV := Lib.hid fun (w' : World) (h : Since w3 w') => by
        have := dumpValue_any p x a2 c2 w' (by have := h.1; omega) HFI.out (h.rep hsz3 hs3) (h.errs (by omega) hE3) (by rw [hL]; omega)
        rw [hL] at this
        exact this
      have hnc : n ≤ c := by
        obtain ⟨a', c', he, h1, _⟩ := hbs3
        simp only [Value.slice.injEq, true_and] at he
        omega
      have hnle : (n : Int) ≤ bs.length := by omega
      have hn1' : 1 ≤ (n : Int) := by omega
      have HC3 := Lib.hid fun (w' : World) (h : Since w3 w') => (h.bs (by omega) hbs3).take n hn2
      obtain ⟨d0, d1, d2, d3, -⟩ := h5.all
      have HL2 := Lib.hid hl2
      have HB3 := Lib.hid hB3
      have H5 := Lib.hid h5
      clear hv hL hl2 hs3 hbs3 hE3 h5 hB3 hB2 hB HA HF HE1 HBS1 HS HFI hsm hby
      generalize bs.take n = T at HV HC3 HL2
      go_region_law (first
        | (go_simp; go_at_call 9; go_loud (refine (HR.out _ (by exact ⟨Nat.le_refl _, fun _ _ => rfl⟩)).mono ?_; rintro e w4 ⟨rfl, hB4⟩; have s4 : Since w3 w4 := Since.below (by exact ⟨Nat.le_refl _, fun _ _ => rfl⟩) hB4; have t4 : Below w3.heap.size w3 w4 := ⟨hB4.os, hB4.tape, hB4.output, hB4.size, hB4.block⟩; obtain ⟨k0, k1, k2, k3, -⟩ := (s4.vb H5.out).all))
        | (go_simp; go_at_call 8; go_loud (refine (HV.out _ (by exact s4)).mono ?_; rintro e w5 ⟨v5, rfl, ho5, hk5⟩; have hb5 := hk5.below (Nat.le_refl _); have t5 : Below w3.heap.size w3 w5 := t4.trans (Below.mono ⟨hb5.os, hb5.tape, hb5.output, hb5.size, hb5.block⟩ s4.1); have s5 : Since w3 w5 := ⟨t5.size, t5.block⟩; obtain ⟨va, vc, hsh⟩ := ho5.shape; subst hsh))
        | (go_simp; go_at_call 15; go_loud (refine (sameBytes_same _ _ _ T (by exact ho5.bytes) (by exact HC3.out _ s5) (by have := HL2.out; omega)).mono ?_; rintro e w6 ⟨rfl, hB6⟩)))
      all_goals go_wp2
      all_goals go_ret
      all_goals
        have hf := HB3.out.trans (t5.trans (Below.mono hB6 s5.1) |>.mono (by have := HSZ.out; omega))
        exact ⟨rfl, ⟨hf.os, hf.tape, hf.output, hf.size, hf.block⟩⟩
end Go.Proofs.YtmkghfkikclodaaDoor
