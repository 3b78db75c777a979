/- The reader reads a text. -/
import Derived.Test.YtmkghfkikclodaaDoorNum
namespace Go.Proofs.YtmkghfkikclodaaDoor
open Go.RowKit

def textM (bs : List UInt8) (most : Nat) (r : Rd) : ByteArray × Rd :=
  if bs.length < (manyM bs most r).2.1 + (manyM bs most r).1 then (.empty, (manyM bs most r).2.fail 4)
  else if (manyM bs most r).2.2.isSome then (.empty, (manyM bs most r).2)
  else (⟨((bs.drop (manyM bs most r).2.1).take (manyM bs most r).1).toArray⟩, ((manyM bs most r).2.1 + (manyM bs most r).1, Option.none))

theorem numM_pos (bs : List UInt8) (m : Nat) (r : Rd) (h : r.1 ≤ bs.length) : (numM bs m r).2.1 ≤ bs.length := by
  unfold numM
  split
  · exact h
  · simp only; omega

theorem manyM_pos (bs : List UInt8) (most : Nat) (r : Rd) (h : r.1 ≤ bs.length) : (manyM bs most r).2.1 ≤ bs.length ∧ (manyM bs most r).1 ≤ most := by
  have := numM_pos bs 4 r h
  unfold manyM Rd.fail
  split
  · exact ⟨this, Nat.zero_le _⟩
  · split
    · exact ⟨this, Nat.zero_le _⟩
    · exact ⟨this, by omega⟩

theorem elem25 : Tryd.prog.elem 25 = 5 := by kernel_rfl
theorem slice25 : Tryd.prog.underlying 25 = some (.slice (Tryd.prog.elem 25)) := by rw [elem25]; exact Tryd.underlying25

/-- a piece of a slice of bytes, as a string -/
theorem slice_piece (bs : List UInt8) (a : Option Addr) (c pos n : Nat) (h : pos + n ≤ bs.length) (hc : bs.length ≤ c) (wx : World) :
    (Instr.slice 25 (.slice a bs.length c) (some (.int .i64 pos)) (some (.int .i64 ((pos : Int) + n))) none).run Tryd.prog wx = .ok (.slice (if c = pos then a else a.map (·.add pos)) n (c - pos)) wx := by
  have := run_slice_lh (P := Tryd.prog) (w := wx) 25 a bs.length c slice25 .i64 .i64 pos ((pos : Int) + n) (by omega) (by omega) (by omega)
  rw [this]
  have e1 : ((pos : Int) + n).toNat = pos + n := by omega
  have e2 : ((pos : Int)).toNat = pos := by omega
  rw [elem25, Tryd.sizeOf5, e1, e2]
  simp only [Result.andThen_ok, sliced, Nat.mul_one, Nat.add_sub_cancel_left]

theorem piece_string (B0 : Nat) (bs : List UInt8) (a : Option Addr) (c pos n : Nat) (h : pos + n ≤ bs.length) (wx : World) (hb : Bs B0 wx (.slice a bs.length c) bs) :
    (convert 25 9 (.slice (if c = pos then a else a.map (·.add pos)) n (c - pos))).run Tryd.prog wx = .ok (.string ⟨((bs.drop pos).take n).toArray⟩) wx := by
  have hln : ((bs.drop pos).take n).length = n := by simp; omega
  have h0 : ∀ (a' : Option Addr) (c' : Nat), n = 0 → (convert 25 9 (.slice a' n c')).run Tryd.prog wx = .ok (.string ⟨((bs.drop pos).take n).toArray⟩) wx := by
    intro a' c' hn
    subst hn
    cases a' with
    | none => simpa using Lib.run_convert_nil_bytes (P := Tryd.prog) wx 25 9 5 c' Tryd.underlying25 Tryd.underlying5 Tryd.underlying9
    | some ad => simpa using run_convert_bytes_back (P := Tryd.prog) wx 25 9 5 ad c' [] Tryd.underlying25 Tryd.underlying5 Tryd.underlying9 (by simp)
  obtain ⟨a', c', he, hcap, hcs⟩ := hb
  obtain ⟨rfl, rfl⟩ : a = a' ∧ c = c' := by
    simp only [Value.slice.injEq] at he
    exact ⟨he.1, he.2.2⟩
  rcases hcs with rfl | ⟨ad, rfl, _, hc⟩
  · exact h0 _ _ (by simp at h; omega)
  · by_cases hn : n = 0
    · exact h0 _ _ hn
    · have hne : ¬ c = pos := by omega
      rw [if_neg hne]
      have := run_convert_bytes_back (P := Tryd.prog) wx 25 9 5 (ad.add pos) (c - pos) ((bs.drop pos).take n) Tryd.underlying25 Tryd.underlying5 Tryd.underlying9 (fun j hj => by
        rw [Addr.add_add]
        have := hc (pos + j) (by omega)
        rw [this]
        simp [byteV])
      rw [hln] at this
      exact this

theorem text_any (p : Nat → Addr) (B0 : Nat) (w : World) (b : Nat) (bv : Value) (bs : List UInt8) (r : Rd) (most : Nat) (hmost : most ≤ 140737488355328) (h : RdAt p w b bv r.1 r.2) (hbs : Bs B0 w bv bs) (hB0 : B0 ≤ b)
    (hE : Errs 5 p w) (hb5 : 5 ≤ b) (hpos : r.1 ≤ bs.length) (hlen : bs.length ≤ 140737488355328) :
    Calls Tryd.prog 61 #[.pointer (some ⟨b, 0, none⟩), .int .i64 most] w (RdPost p b bv w (.string (textM bs most r).1) (textM bs most r).2.1 (textM bs most r).2.2) := by
  have HM := Lib.hid (many_any p B0 w b bv bs r most hmost h hbs hB0 hE hb5 hpos hlen)
  obtain ⟨hp1, hp2⟩ := manyM_pos bs most r hpos
  have hb := h.lt
  unfold textM
  clear h
  generalize manyM bs most r = q at HM hp1 hp2
  obtain ⟨n, pos', err'⟩ := q
  simp only at HM hp1 hp2 ⊢
  have HE := Lib.hid hE
  have HBS := Lib.hid hbs
  obtain ⟨a, c, rfl, hcap, hcs⟩ := hbs
  have HL := Lib.hid fun (w' : World) (hw : RdAt p w' b (.slice a bs.length c) pos' err') => left_any p w' b a bs.length c pos' err' hw (by omega) (by omega)
  clear hE hpos
  generalize hQ : (if bs.length < pos' + n then (ByteArray.empty, Rd.fail (pos', err') 4) else if err'.isSome = true then (ByteArray.empty, pos', err') else (⟨((bs.drop pos').take n).toArray⟩, pos' + n, Option.none)) = Q
  have HQ := Lib.hid hQ
  clear hQ
  by_cases hshort : bs.length < pos' + n
  · have e1 : Hid (Q = (ByteArray.empty, pos', err'.or (some 4))) := by show _ = _; rw [← HQ.out, if_pos hshort]; rfl
    clear hcs
    go_enter Tryd.func61, Tryd.ntmps61
    go_wp2_with fail
    refine HM.out.mono ?_
    rintro e w1 ⟨rfl, hr, hB⟩
    have HL2 := Lib.hid (HL.out w1 hr)
    clear hr
    go_wp2_with fail
    refine HL2.out.mono ?_
    rintro e w2 ⟨rfl, hr2, hB2⟩
    have hB3 := hB.trans (hB2.mono hB.size)
    have e0 := (Errs.bel HE.out hB3 (by omega) (by omega)) 4 (by decide)
    have HF := Lib.hid (fail_any p w2 b (.slice a bs.length c) pos' err' 4 hr2)
    simp only [errV] at e0 HF
    clear hr2
    go_wp2_with fail
    refine HF.out.mono ?_
    rintro e w3 ⟨rfl, hr3, hB4⟩
    obtain ⟨g, hg⟩ : ∃ g, err'.or (some 4) = some g := by cases err' <;> exact ⟨_, rfl⟩
    have c2 := hr3.c2
    rw [hg] at c2
    simp only [errO, errV] at c2
    have HR := Lib.hid hr3
    have HG := Lib.hid hg
    clear hr3 hg
    go_wp2
    go_ret
    rw [e1.out]
    exact ⟨rfl, HR.out, hB3.trans (hB4.mono hB3.size)⟩
  · cases err' with
    | some g =>
      have e1 : Hid (Q = (ByteArray.empty, pos', some g)) := by show _ = _; rw [← HQ.out, if_neg hshort]; rfl
      clear hcs
      go_enter Tryd.func61, Tryd.ntmps61
      go_wp2_with fail
      refine HM.out.mono ?_
      rintro e w1 ⟨rfl, hr, hB⟩
      have HL2 := Lib.hid (HL.out w1 hr)
      clear hr
      go_wp2_with fail
      refine HL2.out.mono ?_
      rintro e w2 ⟨rfl, hr2, hB2⟩
      have hB3 := hB.trans (hB2.mono hB.size)
      have c2 := hr2.c2
      simp only [errO, errV] at c2
      have HR := Lib.hid hr2
      clear hr2
      go_wp2
      go_ret
      rw [e1.out]
      exact ⟨rfl, HR.out, hB3⟩
    | none =>
      have e1 : Hid (Q = (⟨((bs.drop pos').take n).toArray⟩, pos' + n, Option.none)) := by show _ = _; rw [← HQ.out, if_neg hshort]; rfl
      have HC := Lib.hid hcs
      clear hcs
      go_enter Tryd.func61, Tryd.ntmps61
      go_wp2_with fail
      refine HM.out.mono ?_
      rintro e w1 ⟨rfl, hr, hB⟩
      have HL2 := Lib.hid (HL.out w1 hr)
      clear hr
      go_wp2_with fail
      refine HL2.out.mono ?_
      rintro e w2 ⟨rfl, hr2, hB2⟩
      have hB3 := hB.trans (hB2.mono hB.size)
      have c1 := hr2.c1
      have c2 := hr2.c2
      have f1 := hr2.fr 1
      simp only [errO, errV] at c2
      have hs1 : RdAt p (w2.setCell ⟨b, 1, none⟩ (.int .i64 ((pos' : Int) + n))) b (.slice a bs.length c) (pos' + n) Option.none := by have := hr2.set1 (pos' + n); simpa using this
      have hB4 := hB3.set 1 (.int .i64 ((pos' : Int) + n))
      have hbs2 := HBS.out.bel hB4 hB0 (by omega)
      have g0 := hs1.c0
      have g1 := hs1.c1
      have HR := Lib.hid hs1
      have HB4 := Lib.hid hB4
      have HBS2 := Lib.hid hbs2
      clear hr2 hs1 hB4 hbs2
      have hwr : IntKind.i64.wrap (pos' : Int) = pos' := IntWalk.i64_in _ ⟨by omega, by omega⟩
      have hsl := slice_piece bs a c pos' n (by omega) hcap
      have hcv := fun k => piece_string B0 bs a c pos' n (by omega) ((w2.setCell ⟨b, 1, none⟩ (.int .i64 ((pos' : Int) + n))).drewN k) HBS2.out
      generalize Value.slice (if c = pos' then a else a.map (·.add pos')) n (c - pos') = sv at hsl hcv
      go_wp2
      go_quiet (fail)
      go_wp2
      go_ret
      rw [e1.out]
      exact ⟨rfl, HR.out, HB4.out.drewN _⟩
end Go.Proofs.YtmkghfkikclodaaDoor
