/- Words of a text, as lists: what spaces part; and a text of words joined by a space. No program. -/
import Derived.Test.YtodlgnaoghladaaDoorBase
import Derived.Lib.SplitLaws
import Derived.Lib.Split
import Derived.Lib.TrimByte
namespace Go.Proofs.YtodlgnaoghladaaDoor
open Go.RowKit

/-- the words behind 'cur', a word that has begun -/
def wordsL : List UInt8 → List UInt8 → List (List UInt8)
  | cur, [] => if cur = [] then [] else [cur]
  | cur, c :: t => if c = 32 then (if cur = [] then wordsL [] t else cur :: wordsL [] t) else wordsL (cur ++ [c]) t

/-- a text cut at each space -/
def cuts : List UInt8 → List (List UInt8)
  | [] => [[]]
  | c :: t => if c = 32 then [] :: cuts t else match cuts t with
    | x :: xs => (c :: x) :: xs
    | [] => [[c]]

theorem cuts_ne (s : List UInt8) : cuts s ≠ [] := by
  cases s with
  | nil => simp [cuts]
  | cons c t =>
    unfold cuts
    split
    · simp
    · split <;> simp

theorem splitK_cuts : ∀ s : List UInt8, Lib.splitK [32] 0 (Lib.count s [32]) s = cuts s
  | [] => rfl
  | c :: t => by
    have ih := splitK_cuts t
    by_cases h : c = 32
    · subst h
      rw [Lib.count_cons_eq, Nat.add_comm]
      have hi : Lib.index ((32 : UInt8) :: t) [32] = 0 := by unfold Lib.index; simp [List.isPrefixOf]
      rw [Lib.splitK, hi]
      simp only [cuts, if_true]
      rw [← ih]
      rfl
    · rw [Lib.count_cons_ne c 32 t h]
      have hpre : ([32] : List UInt8).isPrefixOf (c :: t) = false := by
        simp only [List.isPrefixOf, Bool.and_true, beq_eq_false_iff_ne]
        exact fun e => h e.symm
      have hc : cuts (c :: t) = match cuts t with
        | x :: xs => (c :: x) :: xs
        | [] => [[c]] := by rw [cuts, if_neg h]
      rw [hc, ← ih]
      cases hn : Lib.count t [32] with
      | zero => rfl
      | succ m =>
        by_cases hi : Lib.index t [32] = -1
        · have hi2 : Lib.index (c :: t) [32] = -1 := by unfold Lib.index; rw [hpre, hi]; rfl
          rw [Lib.splitK, Lib.splitK, hi, hi2]
          rfl
        · have hge := Lib.index_ge t [32]
          obtain ⟨k, hk⟩ : ∃ k : Nat, Lib.index t [32] = k := ⟨(Lib.index t [32]).toNat, by omega⟩
          have hi2 : Lib.index (c :: t) [32] = (k + 1 : Nat) := by
            unfold Lib.index; rw [hpre, hk]
            have : ((k : Int) == -1) = false := by simp
            rw [this]; rfl
          rw [Lib.splitK, Lib.splitK, hk, hi2]
          have e1 : (((k + 1 : Nat) : Int) == -1) = false := by rw [beq_eq_false_iff_ne]; omega
          have e2 : ((k : Int) == -1) = false := by simp
          rw [e1, e2]
          simp only [Int.toNat_natCast]
          rfl

theorem words_cuts : ∀ (s cur : List UInt8) (x : List UInt8) (xs : List (List UInt8)), cuts s = x :: xs → wordsL cur s = ((cur ++ x) :: xs).filter (fun l => !l.isEmpty)
  | [], cur, x, xs, h => by
    simp only [cuts, List.cons.injEq] at h
    obtain ⟨rfl, rfl⟩ := h
    unfold wordsL
    cases cur <;> simp
  | c :: t, cur, x, xs, h => by
    obtain ⟨y, ys, hy⟩ : ∃ y ys, cuts t = y :: ys := by
      cases hc : cuts t with
      | nil => exact absurd hc (cuts_ne t)
      | cons y ys => exact ⟨y, ys, rfl⟩
    by_cases hs : c = 32
    · subst hs
      rw [cuts, if_pos rfl, hy, List.cons.injEq] at h
      obtain ⟨rfl, rfl⟩ := h
      rw [wordsL, if_pos rfl]
      have ih := words_cuts t [] y ys hy
      rw [ih, List.append_nil, List.nil_append]
      by_cases hcur : cur = []
      · rw [if_pos hcur, hcur]; rfl
      · rw [if_neg hcur]
        have : (!cur.isEmpty) = true := by cases cur with
          | nil => exact absurd rfl hcur
          | cons => rfl
        rw [List.filter_cons_of_pos (l := y :: ys) this]
    · rw [cuts, if_neg hs, hy] at h
      simp only [List.cons.injEq] at h
      obtain ⟨rfl, rfl⟩ := h
      rw [wordsL, if_neg hs]
      have ih := words_cuts t (cur ++ [c]) y ys hy
      rw [ih]
      simp

theorem words_filter (s : List UInt8) : wordsL [] s = (cuts s).filter (fun l => !l.isEmpty) := by
  obtain ⟨y, ys, hy⟩ : ∃ y ys, cuts s = y :: ys := by
    cases hc : cuts s with
    | nil => exact absurd hc (cuts_ne s)
    | cons y ys => exact ⟨y, ys, rfl⟩
  rw [words_cuts s [] y ys hy, hy]
  rfl

/-- a word: not empty, no space in it -/
def isWord (l : List UInt8) : Prop := l ≠ [] ∧ (32 : UInt8) ∉ l

theorem words_are : ∀ (s cur : List UInt8), (32 : UInt8) ∉ cur → ∀ x ∈ wordsL cur s, isWord x
  | [], cur, h, x, hx => by
    unfold wordsL at hx
    split at hx
    · cases hx
    · simp only [List.mem_singleton] at hx
      subst hx
      exact ⟨by assumption, h⟩
  | c :: t, cur, h, x, hx => by
    unfold wordsL at hx
    split at hx
    · split at hx
      · exact words_are t [] (by simp) x hx
      · rcases List.mem_cons.1 hx with rfl | hx
        · exact ⟨by assumption, h⟩
        · exact words_are t [] (by simp) x hx
    · refine words_are t (cur ++ [c]) ?_ x hx
      intro hm
      rcases List.mem_append.1 hm with hm | hm
      · exact h hm
      · simp only [List.mem_singleton] at hm
        exact absurd hm.symm (by assumption)

theorem words_run : ∀ (x cur t : List UInt8), (32 : UInt8) ∉ x → wordsL cur (x ++ t) = wordsL (cur ++ x) t
  | [], cur, t, _ => by simp
  | c :: x, cur, t, h => by
    have h1 : ¬ c = 32 := fun e => h (by simp [e])
    have h2 : (32 : UInt8) ∉ x := fun e => h (by simp [e])
    rw [List.cons_append, wordsL, if_neg h1, words_run x (cur ++ [c]) t h2]
    simp

/-- words joined by a space -/
def joined : List (List UInt8) → List UInt8
  | [] => []
  | [x] => x
  | x :: y :: r => x ++ (32 : UInt8) :: joined (y :: r)

theorem words_joined : ∀ l : List (List UInt8), (∀ x ∈ l, isWord x) → wordsL [] (joined l) = l
  | [], _ => rfl
  | [x], h => by
    have hx := h x (by simp)
    rw [joined, ← List.append_nil x, words_run x [] [] hx.2]
    simp only [List.nil_append, List.append_nil]
    unfold wordsL
    rw [if_neg hx.1]
  | x :: y :: r, h => by
    have hx := h x (by simp)
    rw [joined, words_run x [] _ hx.2, List.nil_append, wordsL, if_pos rfl, if_neg hx.1, words_joined (y :: r) (fun z hz => h z (by simp only [List.mem_cons] at hz ⊢; exact .inr hz))]

/-- its ends are no spaces -/
theorem joined_ends : ∀ l : List (List UInt8), (∀ x ∈ l, isWord x) → (∀ c, (joined l).head? = some c → c ≠ 32) ∧ (∀ c, (joined l).getLast? = some c → c ≠ 32) ∧ (l ≠ [] → joined l ≠ [])
  | [], _ => by simp [joined]
  | [x], h => by
    have hx := h x (by simp)
    refine ⟨fun c hc e => hx.2 ?_, fun c hc e => hx.2 ?_, fun _ => hx.1⟩
    · subst e; exact List.mem_of_mem_head? hc
    · subst e; exact List.mem_of_mem_getLast? hc
  | x :: y :: r, h => by
    have hx := h x (by simp)
    obtain ⟨_, i2, i3⟩ := joined_ends (y :: r) (fun z hz => h z (by simp only [List.mem_cons] at hz ⊢; exact .inr hz))
    have hne := i3 (by simp)
    rw [joined]
    refine ⟨fun c hc e => ?_, fun c hc => ?_, fun _ => by simp⟩
    · cases hxx : x with
      | nil => exact hx.1 hxx
      | cons a b =>
        rw [hxx] at hc
        simp only [List.cons_append, List.head?_cons, Option.some.injEq] at hc
        exact hx.2 (by rw [hxx, hc, e]; simp)
    · apply i2 c
      rw [List.getLast?_append, List.getLast?_cons] at hc
      cases hj : joined (y :: r) with
      | nil => exact absurd hj hne
      | cons a b =>
        rw [hj] at hc
        simp only [List.getLast?_cons] at hc ⊢
        simpa using hc

theorem trim_same (l : List UInt8) (h1 : ∀ c, l.head? = some c → c ≠ 32) (h2 : ∀ c, l.getLast? = some c → c ≠ 32) : Lib.trimB l 32 = l := by
  have e1 : Lib.trimRightB l 32 = l := by
    rw [Lib.trimRightB_take l 32 l.length (Nat.le_refl _) (fun j b hj hb => by rw [List.getElem?_eq_none hj] at hb; cases hb) (fun b _ hb => h2 b (by rw [List.getLast?_eq_getElem?]; exact hb))]
    simp
  unfold Lib.trimB
  rw [e1, Lib.trimLeftB_drop l 32 0 (Nat.zero_le _) (fun j b hj => absurd hj (Nat.not_lt_zero _)) (fun b hb => h1 b (by rw [List.head?_eq_getElem?]; exact hb))]
  rfl

/-- what the joining loop makes is 'joined' -/
theorem joinK_joined (ws : List (List UInt8)) : joinK [32] (ws.map bs) ws.length = joined ws := by
  have hj : ∀ (k : Nat), k ≤ ws.length → joinK [32] (ws.map bs) k = joined (ws.take k) := by
    intro k
    induction k with
    | zero => intro _; simp [joinK, joined]
    | succ k ih =>
      intro hk
      rw [joinK, ih (by omega)]
      have hget : ((ws.map bs).getD k ByteArray.empty).data.toList = ws[k] := by
        have : k < ws.length := by omega
        simp [List.getD, this, bs]
      rw [hget, List.take_succ_eq_append_getElem (by omega)]
      have hsnoc : ∀ (l : List (List UInt8)) (x : List UInt8), joined l ++ (if l.length = 0 then [] else [32]) ++ x = joined (l ++ [x]) := by
        intro l x
        induction l with
        | nil => simp [joined]
        | cons a l ih2 =>
          cases l with
          | nil => simp [joined]
          | cons b l =>
            have e1 : joined (a :: b :: l) = a ++ (32 : UInt8) :: joined (b :: l) := rfl
            have e2 : joined (a :: b :: l ++ [x]) = a ++ (32 : UInt8) :: joined (b :: l ++ [x]) := rfl
            rw [e1, e2, ← ih2]
            simp
      have e : (ws.take k).length = k := by rw [List.length_take]; omega
      have := hsnoc (ws.take k) ws[k]
      rw [e] at this
      exact this
  have := hj ws.length (Nat.le_refl _)
  rwa [List.take_length] at this

theorem joined_len : ∀ (s cur : List UInt8), (joined (wordsL cur s)).length ≤ cur.length + s.length
  | [], cur => by
    unfold wordsL
    split <;> simp [joined]
  | c :: t, cur => by
    unfold wordsL
    split
    · split
      · have := joined_len t []
        simp only [List.length_cons, List.length_nil] at this ⊢
        omega
      · have := joined_len t []
        cases hw : wordsL [] t with
        | nil => simp [joined]
        | cons y r =>
          rw [hw] at this
          simp only [joined, List.length_append, List.length_cons, List.length_nil] at this ⊢
          omega
    · have := joined_len t (cur ++ [c])
      simp only [List.length_append, List.length_cons, List.length_nil] at this ⊢
      omega

theorem words_len : ∀ (s cur : List UInt8), (wordsL cur s).length ≤ s.length + 1 ∧ ∀ x ∈ wordsL cur s, x.length ≤ cur.length + s.length
  | [], cur => by
    unfold wordsL
    split <;> simp
  | c :: t, cur => by
    unfold wordsL
    split
    · split
      · obtain ⟨h1, h2⟩ := words_len t []
        refine ⟨by simp only [List.length_cons]; omega, fun x hx => ?_⟩
        have := h2 x hx
        simp only [List.length_cons, List.length_nil] at this ⊢
        omega
      · obtain ⟨h1, h2⟩ := words_len t []
        refine ⟨by simp only [List.length_cons]; omega, fun x hx => ?_⟩
        rcases List.mem_cons.1 hx with rfl | hx
        · omega
        · have := h2 x hx
          simp only [List.length_cons, List.length_nil] at this ⊢
          omega
    · obtain ⟨h1, h2⟩ := words_len t (cur ++ [c])
      refine ⟨by simp only [List.length_cons]; omega, fun x hx => ?_⟩
      have := h2 x hx
      simp only [List.length_append, List.length_cons, List.length_nil] at this ⊢
      omega
end Go.Proofs.YtodlgnaoghladaaDoor
