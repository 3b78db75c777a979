/- Values as trees, and how they lie in memory. -/
import Derived.Test.YtmkghfkikclodaaDoorRows
import Derived.WalkKit
import Derived.ProofKit
import Derived.OpenShut
import Derived.Lib.Hide
import Derived.Outline
import Derived.Deep.DeepFit
import Derived.WalkSmall
import Derived.Laws.IdiomStrings
set_option linter.unusedVariables false
set_option linter.unusedSimpArgs false
namespace Go.Proofs.YtmkghfkikclodaaDoor
open Go.RowKit

/-- a value of package api: its kind, its number, its text, its items -/
inductive Val where
  | mk (kind n : Int) (s : ByteArray) (l : List Val)

def Val.kind : Val → Int | .mk k _ _ _ => k
def Val.n : Val → Int | .mk _ n _ _ => n
def Val.s : Val → ByteArray | .mk _ _ s _ => s
def Val.l : Val → List Val | .mk _ _ _ l => l

/-- numbers that fit, sizes that may be -/
def Fits (k n : Int) (s : ByteArray) (len : Nat) : Prop :=
  -9223372036854775808 ≤ k ∧ k ≤ 9223372036854775807 ∧ -9223372036854775808 ≤ n ∧ n ≤ 9223372036854775807 ∧ s.size ≤ 9223372036854775807 ∧ len ≤ 9223372036854775807

mutual
/-- at place o of block b four cells hold the value x; what it leads to lies in blocks of S -/
def RepAt (S : Nat → Prop) (w : World) (b o : Nat) : Val → Prop
  | .mk k n s l => Fits k n s l.length ∧ ∃ (a : Option Addr) (c : Nat), w.cell? ⟨b, o, none⟩ = some (.int .i64 k) ∧ w.cell? ⟨b, o + 1, none⟩ = some (.int .i64 n) ∧ w.cell? ⟨b, o + 2, none⟩ = some (.string s) ∧
      w.cell? ⟨b, o + 3, none⟩ = some (.slice a l.length c) ∧ (l = [] ∨ ∃ b' o', a = some ⟨b', o', none⟩ ∧ S b' ∧ RepRow S w b' o' l)
/-- from place o on they lie one behind the other -/
def RepRow (S : Nat → Prop) (w : World) (b : Nat) : Nat → List Val → Prop
  | _, [] => True
  | o, x :: xs => RepAt S w b o x ∧ RepRow S w b (o + 4) xs
end

/-- the slice (a, length of l) leads to the values l -/
def RepSl (S : Nat → Prop) (w : World) (a : Option Addr) (l : List Val) : Prop := l = [] ∨ ∃ b o, a = some ⟨b, o, none⟩ ∧ S b ∧ RepRow S w b o l

/-- the struct value v is the value x -/
def RepV (S : Nat → Prop) (w : World) (v : Value) (x : Val) : Prop :=
  ∃ a c, v = .agg #[.int .i64 x.kind, .int .i64 x.n, .string x.s, .slice a x.l.length c] ∧ Fits x.kind x.n x.s x.l.length ∧ RepSl S w a x.l

theorem repAt_iff {S : Nat → Prop} {w : World} {b o : Nat} {x : Val} : RepAt S w b o x ↔ Fits x.kind x.n x.s x.l.length ∧ ∃ (a : Option Addr) (c : Nat), w.cell? ⟨b, o, none⟩ = some (.int .i64 x.kind) ∧ w.cell? ⟨b, o + 1, none⟩ = some (.int .i64 x.n) ∧
    w.cell? ⟨b, o + 2, none⟩ = some (.string x.s) ∧ w.cell? ⟨b, o + 3, none⟩ = some (.slice a x.l.length c) ∧ RepSl S w a x.l := by
  cases x with
  | mk k n s l => rfl

theorem repRow_at {S : Nat → Prop} {w : World} {b : Nat} : ∀ {o : Nat} {l : List Val}, RepRow S w b o l → ∀ (i : Nat) (h : i < l.length), RepAt S w b (o + i * 4) l[i]
  | o, x :: xs, hr, 0, _ => by
    have := hr.1
    simpa using this
  | o, x :: xs, hr, i + 1, h => by
    have := repRow_at hr.2 i (by simpa using h)
    rw [show o + (i + 1) * 4 = o + 4 + i * 4 by omega]
    exact this

theorem repRow_of {S : Nat → Prop} {w : World} {b : Nat} : ∀ {o : Nat} {l : List Val}, (∀ (i : Nat) (h : i < l.length), RepAt S w b (o + i * 4) l[i]) → RepRow S w b o l
  | _, [], _ => trivial
  | o, x :: xs, h => ⟨h 0 (by simp), repRow_of (fun i hi => by
      have := h (i + 1) (by simpa using hi)
      rw [show o + (i + 1) * 4 = o + 4 + i * 4 by omega] at this
      exact this)⟩

mutual
theorem RepAt.keep {S T : Nat → Prop} {w w' : World} (hw : ∀ k, S k → w'.heap[k]? = w.heap[k]?) (hT : ∀ k, S k → T k) : ∀ (x : Val) (b o : Nat), w'.heap[b]? = w.heap[b]? → RepAt S w b o x → RepAt T w' b o x
  | .mk k n s l, b, o, hb, h => by
    obtain ⟨hf, a, c, h1, h2, h3, h4, h5⟩ := h
    have e : ∀ j, w'.cell? ⟨b, j, none⟩ = w.cell? ⟨b, j, none⟩ := fun j => World.cell?_of_block (a := ⟨b, j, none⟩) hb
    refine ⟨hf, a, c, by rw [e]; exact h1, by rw [e]; exact h2, by rw [e]; exact h3, by rw [e]; exact h4, ?_⟩
    rcases h5 with h5 | ⟨b', o', rfl, hs, hr⟩
    · exact .inl h5
    · exact .inr ⟨b', o', rfl, hT _ hs, RepRow.keep hw hT l b' o' (hw _ hs) hr⟩
theorem RepRow.keep {S T : Nat → Prop} {w w' : World} (hw : ∀ k, S k → w'.heap[k]? = w.heap[k]?) (hT : ∀ k, S k → T k) : ∀ (l : List Val) (b o : Nat), w'.heap[b]? = w.heap[b]? → RepRow S w b o l → RepRow T w' b o l
  | [], _, _, _, _ => trivial
  | x :: xs, b, o, hb, h => ⟨RepAt.keep hw hT x b o hb h.1, RepRow.keep hw hT xs b (o + 4) hb h.2⟩
end

theorem RepSl.keep {S T : Nat → Prop} {w w' : World} (hw : ∀ k, S k → w'.heap[k]? = w.heap[k]?) (hT : ∀ k, S k → T k) {a : Option Addr} {l : List Val} (h : RepSl S w a l) : RepSl T w' a l := by
  rcases h with h | ⟨b, o, rfl, hs, hr⟩
  · exact .inl h
  · exact .inr ⟨b, o, rfl, hT _ hs, RepRow.keep hw hT l b o (hw _ hs) hr⟩

theorem RepV.keep {S T : Nat → Prop} {w w' : World} (hw : ∀ k, S k → w'.heap[k]? = w.heap[k]?) (hT : ∀ k, S k → T k) {v : Value} {x : Val} (h : RepV S w v x) : RepV T w' v x := by
  obtain ⟨a, c, rfl, hf, hs⟩ := h
  exact ⟨a, c, rfl, hf, hs.keep hw hT⟩

/-- in blocks below B -/
def Lo (B : Nat) (k : Nat) : Prop := k < B

theorem RepSl.below {B : Nat} {w w' : World} {a : Option Addr} {l : List Val} (h : RepSl (Lo B) w a l) (hb : Below B w w') : RepSl (Lo B) w' a l := h.keep (fun k hk => hb.block k hk) (fun _ h => h)
theorem RepV.below {B : Nat} {w w' : World} {v : Value} {x : Val} (h : RepV (Lo B) w v x) (hb : Below B w w') : RepV (Lo B) w' v x := h.keep (fun k hk => hb.block k hk) (fun _ h => h)

/-- an item's four cells -/
theorem RepSl.item {S : Nat → Prop} {w : World} {a : Option Addr} {l : List Val} (h : RepSl S w a l) (i : Nat) (hi : i < l.length) : ∃ b o, a = some ⟨b, o, none⟩ ∧ S b ∧ RepAt S w b (o + i * 4) l[i] := by
  rcases h with rfl | ⟨b, o, rfl, hs, hr⟩
  · simp at hi
  · exact ⟨b, o, rfl, hs, repRow_at hr i hi⟩

theorem sizeOf_item (x : Val) (i : Nat) (hi : i < x.l.length) : SizeOf.sizeOf x.l[i] < SizeOf.sizeOf x := by
  cases x with
  | mk k n s l =>
    have := List.sizeOf_lt_of_mem (List.getElem_mem hi)
    simp only [Val.l] at this ⊢
    simp only [Val.mk.sizeOf_spec]
    omega

/-! ### few -/
mutual
def fewM : Val → Int → Int → Int
  | .mk _ _ s l, left, deep => if left - 1 - s.size / 16 < 0 ∨ 60 < deep then -1 else fewL l (left - 1 - s.size / 16) (deep + 1)
def fewL : List Val → Int → Int → Int
  | [], left, _ => left
  | x :: xs, left, deep => if fewM x left deep < 0 then -1 else fewL xs (fewM x left deep) deep
end

theorem fewM_eq (x : Val) (left deep : Int) : fewM x left deep = if left - 1 - x.s.size / 16 < 0 ∨ 60 < deep then -1 else fewL x.l (left - 1 - x.s.size / 16) (deep + 1) := by
  cases x; rfl

mutual
theorem fewM_le : ∀ (x : Val) (left deep : Int), -1 ≤ left → -1 ≤ fewM x left deep ∧ fewM x left deep ≤ left
  | .mk k n s l, left, deep, h => by
    unfold fewM
    split
    · omega
    · have := fewL_le l (left - 1 - s.size / 16) (deep + 1) (by omega)
      omega
theorem fewL_le : ∀ (l : List Val) (left deep : Int), -1 ≤ left → -1 ≤ fewL l left deep ∧ fewL l left deep ≤ left
  | [], left, deep, h => by unfold fewL; omega
  | x :: xs, left, deep, h => by
    have h1 := fewM_le x left deep h
    unfold fewL
    split
    · omega
    · have := fewL_le xs (fewM x left deep) deep (by omega)
      omega
end

def IntOut (W : World) (z : Int) (e : Ending) (w' : World) : Prop := e = .returned (.int .i64 z) ∧ Below W.heap.size W w'

theorem few_any (m : Nat) : ∀ (x : Val) (left deep : Int) (a : Option Addr) (c : Nat) (w : World), SizeOf.sizeOf x ≤ m → -1 ≤ left → left ≤ 6000 → 0 ≤ deep → deep ≤ 61 → Fits x.kind x.n x.s x.l.length → RepSl (Lo w.heap.size) w a x.l →
    Calls Tryd.prog 22 #[.agg #[.int .i64 x.kind, .int .i64 x.n, .string x.s, .slice a x.l.length c], .int .i64 left, .int .i64 deep] w (IntOut w (fewM x left deep)) := by
  induction m with
  | zero => intro x left deep a c w h; cases x; simp at h
  | succ m ih =>
    intro x left deep a c w hm hl1 hl2 hd1 hd2 hf hR
    obtain ⟨f1, f2, f3, f4, f5, f6⟩ := hf
    have IH := Lib.hid ih
    clear ih
    have hdiv : (x.s.size : Int) / 16 ≤ 576460752303423487 := by omega
    have hdiv0 : 0 ≤ (x.s.size : Int) / 16 := by omega
    by_cases hout : left - 1 - x.s.size / 16 < 0 ∨ 60 < deep
    · have HF : Hid (fewM x left deep = -1) := by show _ = _; rw [fewM_eq, if_pos hout]
      by_cases h1 : left - 1 - x.s.size / 16 < 0
      · clear hout
        go_enter Tryd.func22, Tryd.ntmps22
        go_wp2
        go_ret
        rw [HF.out]
        exact ⟨rfl, (Below.refl _ _).alloc (Nat.le_refl _) _⟩
      · have h2 : 60 < deep := by omega
        clear hout
        go_enter Tryd.func22, Tryd.ntmps22
        go_wp2
        go_ret
        rw [HF.out]
        exact ⟨rfl, (Below.refl _ _).alloc (Nat.le_refl _) _⟩
    · have h1 : 0 ≤ left - 1 - x.s.size / 16 := by omega
      have h2 : deep ≤ 60 := by omega
      have HF : Hid (fewM x left deep = fewL x.l (left - 1 - x.s.size / 16) (deep + 1)) := by show _ = _; rw [fewM_eq, if_neg hout]
      clear hout
      go_enter Tryd.func22, Tryd.ntmps22
      go_wp2
      have hB0 : Below w.heap.size w (w.alloc (.cells #[.int .i64 x.kind, .int .i64 x.n, .string x.s, .slice a x.l.length c] 24)) := (Below.refl _ _).alloc (Nat.le_refl _) _
      have hsz0 : (w.alloc (.cells #[.int .i64 x.kind, .int .i64 x.n, .string x.s, .slice a x.l.length c] 24)).heap.size = w.heap.size + 1 := by simp
      have hc3 : (w.alloc (.cells #[.int .i64 x.kind, .int .i64 x.n, .string x.s, .slice a x.l.length c] 24)).cell? ⟨w.heap.size, 3, none⟩ = some (.slice a x.l.length c) := by rw [World.cell?_alloc_mark]; rfl
      generalize w.alloc (.cells #[.int .i64 x.kind, .int .i64 x.n, .string x.s, .slice a x.l.length c] 24) = w0 at hB0 hsz0 hc3
      have hR0 := hR.below hB0
      have HSZ := Lib.hid hsz0
      clear hsz0
      go_loopw [1, 7] (fun q i wr => ∃ (k : Nat) (li : Int), k ≤ x.l.length ∧ i = .int .i64 k ∧ q = .int .i64 li ∧ 0 ≤ li ∧ li ≤ 6000 ∧ Below (w.heap.size + 1) w0 wr ∧ Hid (fewM x left deep = fewL (x.l.drop k) li (deep + 1)))
        (fun _ i _ => x.l.length - (intOf i).toNat)
      case atStart => exact ⟨0, _, Nat.zero_le _, rfl, rfl, h1, by omega, Below.refl _ _, HF⟩
      case round =>
        obtain ⟨k, li, hk, rfl, rfl, hli1, hli2, hB, hF⟩ := hrel
        have hcr : wr.cell? ⟨w.heap.size, 3, none⟩ = some (.slice a x.l.length c) := (hB.cell (p := ⟨w.heap.size, 3, none⟩) (by simp)).trans hc3
        have hBw : Below w.heap.size w wr := hB0.trans (hB.mono (by omega))
        have hsz := hBw.size
        by_cases hlt : k < x.l.length
        · have hRr := hR.below hBw
          obtain ⟨b, o, rfl, hs, hat⟩ := hRr.item k hlt
          obtain ⟨ff, a', c', g0, g1, g2, g3, hsub⟩ := repAt_iff.1 hat
          have hdrop : x.l.drop k = x.l[k] :: x.l.drop (k + 1) := List.drop_eq_getElem_cons hlt
          have hF2 := hF.out
          rw [hdrop, fewL] at hF2
          have hsize := sizeOf_item x k hlt
          have hle := fewM_le x.l[k] li (deep + 1) (by omega)
          generalize x.l[k] = y at ff g0 g1 g2 g3 hsub hF2 hsize hle
          have hcall := IH.out y li (deep + 1) a' c' wr (by omega) (by omega) hli2 (by omega) (by omega) ff (hsub.keep (fun _ _ => rfl) (fun _ h => Nat.lt_of_lt_of_le h hsz))
          have HC := Lib.hid hcall
          obtain ⟨hle1, hle2⟩ := hle
          clear hcall hF hdrop hat ff hsub hRr
          by_cases hneg : fewM y li (deep + 1) < 0
          · rw [if_pos hneg] at hF2
            have HF2 := Lib.hid hF2
            clear hF2
            go_wp2_with fail
            refine HC.out.mono ?_
            generalize fewM y li (deep + 1) = z at hle1 hle2 hneg
            rintro e w2 ⟨rfl, hB2⟩
            go_wp2
            go_ret
            rw [HF2.out]
            exact ⟨rfl, hBw.trans (hB2.mono hsz)⟩
          · rw [if_neg hneg] at hF2
            have HF2 := Lib.hid hF2
            clear hF2
            go_wp2_with fail
            refine HC.out.mono ?_
            generalize fewM y li (deep + 1) = z at hle1 hle2 hneg HF2
            rintro e w2 ⟨rfl, hB2⟩
            go_wp2
            go_roundw
            case rel => exact ⟨k + 1, z, by omega, by go_num, rfl, by omega, by omega, hB.trans (hB2.mono (by have := hB.size; have := HSZ.out; omega)), HF2⟩
            case measure => simp [intOf]; omega
        · have hF2 := hF.out
          rw [List.drop_eq_nil_of_le (by omega), fewL] at hF2
          have HF2 := Lib.hid hF2
          clear hF2 hF
          go_wp2
          go_ret
          rw [HF2.out]
          exact ⟨rfl, hBw⟩
end Go.Proofs.YtmkghfkikclodaaDoor
