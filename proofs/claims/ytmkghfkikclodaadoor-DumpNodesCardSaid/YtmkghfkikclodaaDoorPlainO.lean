/- The document's word on a node is the tree's own. -/
import Derived.Test.YtmkghfkikclodaaDoorM13
import Derived.Test.YtmkghfkikclodaaDoorWalkN
set_option linter.unusedVariables false
set_option linter.unusedSimpArgs false
namespace Go.Proofs.YtmkghfkikclodaaDoor
open Go.RowKit

/-- the reference's number of a place -/
def plc (role : Int) : Int := if role ≤ 6 then role + 1 else if role = 7 then 9 else 8
def loopR (op : Int) (loop : Bool) : Bool := if op = 42 ∨ op = 43 ∨ op = 44 then true else if op = 48 then false else loop
def awayB (op : Int) (loop : Bool) : Bool := (op == 45 || op == 46) && !loop
def shapeO (op own : Int) (loop : Bool) (s : ByteArray) (v : Val) (n : Nat) : Bool := standsR op own && (countsB op n && (valB op v && (!(badI op s == 2) && !awayB op loop)))
mutual
def oddB : Nd → Int → Bool → Bool
  | .mk op _ s v l, own, loop => (shapeO op own loop s v l.length && !(badI op s == 1)) && kidsO op own (loopR op loop) l.length 0 l
def kidsO (op own : Int) (loop : Bool) (n : Nat) : Nat → List Nd → Bool
  | _, [] => true
  | i, y :: ys => oddB y (placeI op own i n) loop && kidsO op own loop n (i + 1) ys
end
theorem stands_plc (op role : Int) (h0 : 0 ≤ role) (h1 : role ≤ 8) : standsR op (plc role) = standsB op role := by
  have hc : role = 0 ∨ role = 1 ∨ role = 2 ∨ role = 3 ∨ role = 4 ∨ role = 5 ∨ role = 6 ∨ role = 7 ∨ role = 8 := by omega
  rcases hc with rfl | rfl | rfl | rfl | rfl | rfl | rfl | rfl | rfl <;> rfl
theorem mem_iff' (l : List Int) (op : Int) : mem l op = true ↔ op ∈ l := by
  unfold mem; rw [List.any_eq_true]
  constructor
  · rintro ⟨x, hx, he⟩; rw [show op = x by simpa using he]; exact hx
  · intro h; exact ⟨op, h, by simp⟩
/-- the operations that stand anywhere -/
theorem stands_cases {op role : Int} (h0 : 0 ≤ role) (h1 : role ≤ 8) (h : standsB op role = true) : (1 ≤ op ∧ op ≤ 29) ∨ (40 ≤ op ∧ op ≤ 52) := by
  have hc : role = 0 ∨ role = 1 ∨ role = 2 ∨ role = 3 ∨ role = 4 ∨ role = 5 ∨ role = 6 ∨ role = 7 ∨ role = 8 := by omega
  rcases hc with rfl | rfl | rfl | rfl | rfl | rfl | rfl | rfl | rfl <;> simp [standsB, isExprB] at h <;> omega
theorem ops_cases {op : Int} (h : (1 ≤ op ∧ op ≤ 29) ∨ (40 ≤ op ∧ op ≤ 52)) : op ∈ ([1, 2, 3, 4, 5, 6, 7, 8, 9, 10, 11, 12, 13, 14, 15, 16, 17, 18, 19, 20, 21, 22, 23, 24, 25, 26, 27, 28, 29, 40, 41, 42, 43, 44, 45, 46, 47, 48, 49, 50, 51, 52] : List Int) := by
  simp only [List.mem_cons, List.not_mem_nil, or_false]; omega
theorem full_counts (op : Int) (n : Nat) (h : (1 ≤ op ∧ op ≤ 29) ∨ (40 ≤ op ∧ op ≤ 52)) : fullB op n = countsB op n := by
  have := ops_cases h
  simp only [List.mem_cons, List.not_mem_nil, or_false] at this
  rcases this with rfl | rfl | rfl | rfl | rfl | rfl | rfl | rfl | rfl | rfl | rfl | rfl | rfl | rfl | rfl | rfl | rfl | rfl | rfl | rfl | rfl | rfl | rfl | rfl | rfl | rfl | rfl | rfl | rfl | rfl | rfl | rfl | rfl | rfl | rfl | rfl | rfl | rfl | rfl | rfl | rfl | rfl <;> rfl
theorem own_shape (op role : Int) (loop : Bool) (s : ByteArray) (v : Val) (n : Nat) (h0 : 0 ≤ role) (h1 : role ≤ 8) :
    (ownM op role loop s v n).isNone = (shapeO op (plc role) loop s v n && !(badI op s == 1)) := by
  unfold ownM shapeO shapeB fairB
  rw [stands_plc op role h0 h1]
  by_cases hs : standsB op role = true
  · rw [full_counts op n (stands_cases h0 h1 hs), hs]
    unfold badI awayB
    cases hn : namedB op <;> cases hc : calledB op s <;> cases he : emptyB s <;> cases countsB op n <;> cases valB op v <;> cases loop <;> cases h45 : (op == 45) <;> cases h46 : (op == 46) <;> simp_all [calledB]
  · simp [hs]
theorem getD_repl (n i : Nat) (x d : Int) (h : i < n) : (List.replicate n x).getD i d = x := by simp [List.getD, h]
theorem getD_app (a b : List Int) (i : Nat) (d : Int) : (a ++ b).getD i d = if i < a.length then a.getD i d else b.getD (i - a.length) d := by
  simp only [List.getD_eq_getElem?_getD, List.getElem?_append]; split <;> rfl
theorem getD_set (l : List Int) (k i : Nat) (x d : Int) (h : i < l.length) : (l.set k x).getD i d = if k = i then x else l.getD i d := by
  simp only [List.getD_eq_getElem?_getD, List.getElem?_set]; split <;> simp_all
theorem getD_if (n i : Nat) (h : i < n) : ((List.range n).map fun i => if i % 2 = 1 then (6 : Int) else 0).getD i 0 = if i % 2 = 1 then 6 else 0 := by
  simp [List.getD, h]
/-- what stands in place i -/
def roleAt (op : Int) (n i : Nat) : Int := (rolesL op n).getD i 0
theorem roleAt_call (n i : Nat) (h : i < n) : roleAt 23 n i = if i < 2 then 0 else 1 := by
  show ([0, 0] ++ List.replicate (n - 2) 1 : List Int).getD i 0 = _
  rw [getD_app]
  by_cases hi : i < 2
  · have : i = 0 ∨ i = 1 := by omega
    rcases this with rfl | rfl <;> rfl
  · rw [if_neg (by simpa using hi), if_neg hi, getD_repl]; simp; omega
theorem roleAt_scat (n i : Nat) (h : i < n) (h2 : 2 ≤ n) : roleAt 28 n i = if i + 2 = n then 4 else if i + 2 < n then 3 else 0 := by
  show ((if 1 < n then (List.replicate (n - 1) (3 : Int)).set (n - 2) 4 else List.replicate (n - 1) 3) ++ [0] : List Int).getD i 0 = _
  rw [if_pos (by omega), getD_app]
  simp only [List.length_set, List.length_replicate]
  by_cases hi : i < n - 1
  · rw [if_pos hi, getD_set _ _ _ _ _ (by simpa using hi), getD_repl _ _ _ _ hi]
    (repeat' split) <;> first | rfl | omega
  · have : i = n - 1 := by omega
    subst this
    rw [if_neg hi]
    simp
    (repeat' split) <;> first | rfl | omega
theorem roleAt_if (n i : Nat) (h : i < n) : roleAt 41 n i = if i % 2 = 1 ∨ i + 1 = n then 6 else 0 := by
  show (if n % 2 = 1 then ((List.range n).map fun i => if i % 2 = 1 then (6 : Int) else 0).set (n - 1) 6 else (List.range n).map fun i => if i % 2 = 1 then (6 : Int) else 0).getD i 0 = _
  split
  · rw [getD_set _ _ _ _ _ (by simpa using h), getD_if n i h]
    (repeat' split) <;> first | rfl | omega
  · rw [getD_if n i h]
    (repeat' split) <;> first | rfl | omega
theorem roleAt_try (n i : Nat) (h : i < n) : roleAt 49 n i = if 0 < i then 8 else 6 := by
  show ([6] ++ List.replicate (n - 1) 8 : List Int).getD i 0 = _
  rw [getD_app]
  by_cases hi : 0 < i
  · rw [if_neg (by simp; omega), if_pos hi, getD_repl]; simp; omega
  · obtain rfl : i = 0 := by omega
    rfl
theorem roleAt_repl {op x : Int} {n i : Nat} (h : i < n) (hr : rolesL op n = List.replicate n x) : roleAt op n i = x := by
  unfold roleAt; rw [hr, getD_repl _ _ _ _ h]
set_option maxHeartbeats 2000000 in
theorem place_role (op role : Int) (n i : Nat) (h0 : 0 ≤ role) (h1 : role ≤ 8) (hs : standsB op role = true) (hf : countsB op n = true) (hi : i < n) :
    placeI op (plc role) i n = plc (childR op role i (roleAt op n i)) := by
  have ho := ops_cases (stands_cases h0 h1 hs)
  have hc : role = 0 ∨ role = 1 ∨ role = 2 ∨ role = 3 ∨ role = 4 ∨ role = 5 ∨ role = 6 ∨ role = 7 ∨ role = 8 := by omega
  simp only [List.mem_cons, List.not_mem_nil, or_false] at ho
  have hk1 : countsB op n = (n == 1) → n = 1 := fun h => by rw [h] at hf; simpa using hf
  have hk2 : countsB op n = (n == 2) → n = 2 := fun h => by rw [h] at hf; simpa using hf
  have hk3 : countsB op n = (n == 3) → n = 3 := fun h => by rw [h] at hf; simpa using hf
  have hk0 : countsB op n = (n == 0) → n = 0 := fun h => by rw [h] at hf; simpa using hf
  rcases ho with rfl | rfl | rfl | rfl | rfl | rfl | rfl | rfl | rfl | rfl | rfl | rfl | rfl | rfl | rfl | rfl | rfl | rfl | rfl | rfl | rfl | rfl | rfl | rfl | rfl | rfl | rfl | rfl | rfl | rfl | rfl | rfl | rfl | rfl | rfl | rfl | rfl | rfl | rfl | rfl | rfl | rfl
  all_goals first
    | (exfalso; have := hk0 rfl; omega)
    | (obtain rfl := hk1 rfl; obtain rfl : i = 0 := by omega
       rcases hc with rfl | rfl | rfl | rfl | rfl | rfl | rfl | rfl | rfl <;> first | rfl | (exfalso; revert hs; decide))
    | (obtain rfl := hk2 rfl
       have hi' : i = 0 ∨ i = 1 := by omega
       rcases hi' with rfl | rfl <;> rcases hc with rfl | rfl | rfl | rfl | rfl | rfl | rfl | rfl | rfl <;> first | rfl | (exfalso; revert hs; decide))
    | (obtain rfl := hk3 rfl
       have hi' : i = 0 ∨ i = 1 ∨ i = 2 := by omega
       rcases hi' with rfl | rfl | rfl <;> rcases hc with rfl | rfl | rfl | rfl | rfl | rfl | rfl | rfl | rfl <;> first | rfl | (exfalso; revert hs; decide))
    | skip
  · rw [roleAt_call n i hi]
    rcases hc with rfl | rfl | rfl | rfl | rfl | rfl | rfl | rfl | rfl <;> first | (exfalso; revert hs; decide) | skip
    all_goals
      show (if 2 ≤ i then (2 : Int) else 1) = plc (if i < 2 then 0 else 1)
      by_cases h2 : i < 2
      · rw [if_pos h2, if_neg (by omega)]; rfl
      · rw [if_neg h2, if_pos (by omega)]; rfl
  · rw [roleAt_repl hi (show rolesL 24 n = List.replicate n 1 from rfl)]
    rcases hc with rfl | rfl | rfl | rfl | rfl | rfl | rfl | rfl | rfl <;> first | rfl | (exfalso; revert hs; decide)
  · rw [roleAt_repl hi (show rolesL 25 n = List.replicate n 1 from rfl)]
    rcases hc with rfl | rfl | rfl | rfl | rfl | rfl | rfl | rfl | rfl <;> first | rfl | (exfalso; revert hs; decide)
  · have h2 : 2 ≤ n := by simpa [countsB] using hf
    rw [roleAt_scat n i hi h2]
    rcases hc with rfl | rfl | rfl | rfl | rfl | rfl | rfl | rfl | rfl <;> first | (exfalso; revert hs; decide) | skip
    all_goals
      show (if i + 2 = n then (5 : Int) else if i + 2 < n then 4 else 1) = plc (if i + 2 = n then 4 else if i + 2 < n then 3 else 0)
      by_cases h3 : i + 2 = n
      · rw [if_pos h3, if_pos h3]; rfl
      · rw [if_neg h3, if_neg h3]
        by_cases h4 : i + 2 < n
        · rw [if_pos h4, if_pos h4]; rfl
        · rw [if_neg h4, if_neg h4]; rfl
  · have h2 : n = 2 ∨ n = 3 := by simpa [countsB] using hf
    rcases h2 with rfl | rfl
    · have hi' : i = 0 ∨ i = 1 := by omega
      rcases hi' with rfl | rfl <;> rcases hc with rfl | rfl | rfl | rfl | rfl | rfl | rfl | rfl | rfl <;> first | rfl | (exfalso; revert hs; decide)
    · have hi' : i = 0 ∨ i = 1 ∨ i = 2 := by omega
      rcases hi' with rfl | rfl | rfl <;> rcases hc with rfl | rfl | rfl | rfl | rfl | rfl | rfl | rfl | rfl <;> first | rfl | (exfalso; revert hs; decide)
  · rw [roleAt_if n i hi]
    rcases hc with rfl | rfl | rfl | rfl | rfl | rfl | rfl | rfl | rfl <;> first | (exfalso; revert hs; decide) | skip
    all_goals
      show (if i % 2 = 1 ∨ i + 1 = n then (7 : Int) else 1) = plc (if i % 2 = 1 ∨ i + 1 = n then 6 else 0)
      by_cases h3 : i % 2 = 1 ∨ i + 1 = n
      · rw [if_pos h3, if_pos h3]; rfl
      · rw [if_neg h3, if_neg h3]; rfl
  · have h2 : n ≤ 1 := by simpa [countsB] using hf
    obtain rfl : n = 1 := by omega
    obtain rfl : i = 0 := by omega
    rcases hc with rfl | rfl | rfl | rfl | rfl | rfl | rfl | rfl | rfl <;> first | rfl | (exfalso; revert hs; decide)
  · rw [roleAt_try n i hi]
    rcases hc with rfl | rfl | rfl | rfl | rfl | rfl | rfl | rfl | rfl <;> first | (exfalso; revert hs; decide) | skip
    all_goals
      show (if 0 < i then (8 : Int) else 7) = plc (if 0 < i then 8 else 6)
      by_cases h3 : 0 < i
      · rw [if_pos h3, if_pos h3]; rfl
      · rw [if_neg h3, if_neg h3]; rfl
  · rw [roleAt_repl hi (show rolesL 52 n = List.replicate n 7 from rfl)]
    rcases hc with rfl | rfl | rfl | rfl | rfl | rfl | rfl | rfl | rfl <;> first | rfl | (exfalso; revert hs; decide)

theorem mem_le {l : List Int} {i : Nat} (h : i < l.length) : l.getD i 0 ∈ l := by
  rw [List.getD_eq_getElem?_getD, List.getElem?_eq_getElem h]; exact List.getElem_mem h
/-- what may stand in a place, by the operation above it -/
def RoleP (op r : Int) : Prop := 0 ≤ r ∧ (r ≤ 5 ∨ (r = 6 ∧ 40 ≤ op) ∨ (r = 7 ∧ op = 52) ∨ (r = 8 ∧ op = 49))
def AllP (op : Int) (l : List Int) : Prop := ∀ r ∈ l, RoleP op r
theorem allP_ite {op : Int} {c : Prop} [Decidable c] {a b : List Int} (ha : c → AllP op a) (hb : ¬ c → AllP op b) : AllP op (if c then a else b) := by
  by_cases h : c
  · rw [if_pos h]; exact ha h
  · rw [if_neg h]; exact hb h
theorem allP_rep {op : Int} (n : Nat) {x : Int} (hx : RoleP op x) : AllP op (List.replicate n x) := fun r hr => by rw [(List.mem_replicate.1 hr).2]; exact hx
theorem allP_app {op : Int} {a b : List Int} (ha : AllP op a) (hb : AllP op b) : AllP op (a ++ b) := fun r hr => by
  rcases List.mem_append.1 hr with h | h
  · exact ha r h
  · exact hb r h
theorem allP_set {op : Int} {a : List Int} (ha : AllP op a) (k : Nat) {x : Int} (hx : RoleP op x) : AllP op (a.set k x) := fun r hr => by
  rcases List.mem_or_eq_of_mem_set hr with h | rfl
  · exact ha r h
  · exact hx
theorem allP_ifs {op : Int} (n : Nat) (h6 : RoleP op 6) : AllP op ((List.range n).map fun i => if i % 2 = 1 then (6 : Int) else 0) := fun r hr => by
  simp only [List.mem_map] at hr
  obtain ⟨a, _, rfl⟩ := hr
  split
  · exact h6
  · exact ⟨by omega, Or.inl (by omega)⟩
theorem allP_low {op : Int} {l : List Int} (h : ∀ r ∈ l, 0 ≤ r ∧ r ≤ 5) : AllP op l := fun r hr => ⟨(h r hr).1, Or.inl (h r hr).2⟩
theorem allP_nil {op : Int} : AllP op [] := fun _ h => by cases h
theorem allP_cons {op x : Int} {l : List Int} (hx : RoleP op x) (hl : AllP op l) : AllP op (x :: l) := fun r hr => by
  rcases List.mem_cons.1 hr with rfl | h
  · exact hx
  · exact hl r h
theorem roleP_low {op r : Int} (h : 0 ≤ r ∧ r ≤ 5) : RoleP op r := ⟨h.1, Or.inl h.2⟩
theorem roleP_6 {op : Int} (h : 40 ≤ op) : RoleP op 6 := ⟨by omega, Or.inr (Or.inl ⟨rfl, h⟩)⟩
theorem roles_all (op : Int) (n : Nat) : AllP op (rolesL op n) := by
  unfold rolesL
  refine allP_ite (fun _ => allP_nil) fun _ => ?_
  refine allP_ite (fun _ => allP_low (by decide)) fun _ => ?_
  refine allP_ite (fun _ => allP_low (by decide)) fun _ => ?_
  refine allP_ite (fun _ => allP_low (by decide)) fun _ => ?_
  refine allP_ite (fun _ => allP_app (allP_low (by decide)) (allP_rep _ (roleP_low (by decide)))) fun _ => ?_
  refine allP_ite (fun _ => allP_rep _ (roleP_low (by decide))) fun _ => ?_
  refine allP_ite (fun _ => allP_low (by decide)) fun _ => ?_
  refine allP_ite (fun _ => allP_app (allP_ite (fun _ => allP_set (allP_rep _ (roleP_low (by decide))) _ (roleP_low (by decide))) fun _ => allP_rep _ (roleP_low (by decide))) (allP_low (by decide))) fun _ => ?_
  refine allP_ite (fun _ => fun r hr => (allP_low (by decide) : AllP op [0, 5, 0]) r (List.mem_of_mem_take hr)) fun _ => ?_
  refine allP_ite (fun h => allP_ite (fun _ => allP_set (allP_ifs n (roleP_6 (by omega))) _ (roleP_6 (by omega))) fun _ => allP_ifs n (roleP_6 (by omega))) fun _ => ?_
  refine allP_ite (fun h => ?_) fun _ => ?_
  · have hm : op ∈ ([42, 44, 48] : List Int) := (mem_iff' _ _).1 h
    have h40 : 40 ≤ op := by simp only [List.mem_cons, List.not_mem_nil, or_false] at hm; omega
    exact allP_cons (roleP_low (by decide)) (allP_cons (roleP_6 h40) allP_nil)
  refine allP_ite (fun h => allP_cons (roleP_low (by decide)) (allP_cons (roleP_low (by decide)) (allP_cons (roleP_6 (by omega)) allP_nil))) fun _ => ?_
  refine allP_ite (fun _ => allP_rep _ (roleP_low (by decide))) fun _ => ?_
  refine allP_ite (fun h => allP_app (allP_cons (roleP_6 (by omega)) allP_nil) (allP_rep _ ⟨by omega, Or.inr (Or.inr (Or.inr ⟨rfl, h⟩))⟩)) fun _ => ?_
  refine allP_ite (fun h => allP_cons (roleP_low (by decide)) (allP_cons (roleP_6 (by omega)) allP_nil)) fun _ => ?_
  refine allP_ite (fun h => allP_cons (roleP_6 (by omega)) (allP_cons (roleP_6 (by omega)) allP_nil)) fun _ => ?_
  refine allP_ite (fun h => allP_rep _ ⟨by omega, Or.inr (Or.inr (Or.inl ⟨rfl, h⟩))⟩) fun _ => ?_
  exact allP_nil
theorem roleAt_all (op : Int) (n i : Nat) : RoleP op (roleAt op n i) := by
  by_cases hi : i < (rolesL op n).length
  · exact roles_all op n _ (mem_le hi)
  · unfold roleAt
    rw [List.getD_eq_getElem?_getD, List.getElem?_eq_none (by omega)]
    exact roleP_low (by decide)
/-- where an expression stands expressions stand -/
theorem roleAt_low (op : Int) (n i : Nat) (h : 1 ≤ op ∧ op ≤ 29) : 0 ≤ roleAt op n i ∧ roleAt op n i ≤ 5 := by
  have := roleAt_all op n i
  unfold RoleP at this; omega

theorem childR_bd {op role r : Int} {i : Nat} (hr : 0 ≤ r ∧ r ≤ 8) : 0 ≤ childR op role i r ∧ childR op role i r ≤ 8 := by
  unfold childR; (repeat' split) <;> omega
theorem childR_low {op role r : Int} {i : Nat} (hr : 0 ≤ r ∧ r ≤ 5) : 0 ≤ childR op role i r ∧ childR op role i r ≤ 5 := by
  unfold childR; (repeat' split) <;> omega
theorem stands_low {op role : Int} (h0 : 0 ≤ role) (h1 : role ≤ 5) (h : standsB op role = true) : 1 ≤ op ∧ op ≤ 29 := by
  have hc : role = 0 ∨ role = 1 ∨ role = 2 ∨ role = 3 ∨ role = 4 ∨ role = 5 := by omega
  rcases hc with rfl | rfl | rfl | rfl | rfl | rfl <;> simp [standsB, isExprB] at h <;> omega
theorem own_low (op role : Int) (l l' : Bool) (s : ByteArray) (v : Val) (n : Nat) (h0 : 0 ≤ role) (h1 : role ≤ 5) : ownM op role l s v n = ownM op role l' s v n := by
  have hf : fairB op role l = fairB op role l' := by
    unfold fairB
    by_cases hs : standsB op role = true
    · have := stands_low h0 h1 hs
      have e1 : (op == 45) = false := by simp; omega
      have e2 : (op == 46) = false := by simp; omega
      simp [e1, e2]
    · simp [hs]
  unfold ownM shapeB
  rw [hf]
theorem own_stands {op role : Int} {l : Bool} {s : ByteArray} {v : Val} {n : Nat} (h : (ownM op role l s v n).isNone = true) : standsB op role = true ∧ fullB op n = true := by
  unfold ownM at h
  by_cases hs : shapeB op role l s v n = true
  · simp only [shapeB, fairB, Bool.and_eq_true] at hs; exact ⟨hs.1.1, hs.2.2.1⟩
  · rw [if_neg hs] at h; cases h
mutual
theorem walk_low : ∀ (x : Nd) (role : Int) (l l' : Bool), 0 ≤ role → role ≤ 5 → walkB x role l = walkB x role l'
  | .mk op line s v kids, role, l, l', h0, h1 => by
    rw [walkB, walkB, own_low op role l l' s v kids.length h0 h1]
    cases hn : (ownM op role l' s v kids.length).isNone with
    | false => rfl
    | true => rw [kids_low kids op role l l' kids.length 0 (stands_low h0 h1 (own_stands hn).1)]
theorem kids_low : ∀ (ks : List Nd) (op role : Int) (l l' : Bool) (n i : Nat), (1 ≤ op ∧ op ≤ 29) → kidsB op role l n i ks = kidsB op role l' n i ks
  | [], _, _, _, _, _, _, _ => by rw [kidsB, kidsB]
  | y :: ys, op, role, l, l', n, i, h => by
    have hr := childR_low (op := op) (role := role) (i := i) (roleAt_low op n i h)
    rw [kidsB, kidsB]
    change (walkB y (childR op role i (roleAt op n i)) _ && _) = (walkB y (childR op role i (roleAt op n i)) _ && _)
    rw [walk_low y _ _ (inB op l' (childR op role i ((rolesL op n).getD i 0))) hr.1 hr.2, kids_low ys op role l l' n (i + 1) h]
end
/-- a block, a statement, an Except stand in these alone -/
theorem roleAt_high (op : Int) (n i : Nat) (h : 6 ≤ roleAt op n i) : (roleAt op n i = 6) ∨ (roleAt op n i = 7 ∧ op = 52) ∨ (roleAt op n i = 8 ∧ op = 49) := by
  have := roleAt_all op n i
  unfold RoleP at this; omega
theorem roleAt_bd (op : Int) (n i : Nat) : 0 ≤ roleAt op n i := (roleAt_all op n i).1
theorem flag_eq (op role : Int) (n i : Nat) (loop : Bool) (h : 6 ≤ childR op role i (roleAt op n i)) : inB op loop (childR op role i (roleAt op n i)) = loopR op loop := by
  have hc : childR op role i (roleAt op n i) = roleAt op n i := by
    unfold childR at h ⊢
    (repeat' split at h) <;> first | omega | (repeat' split) <;> first | rfl | omega
  rw [hc] at h ⊢
  unfold inB loopsB loopR
  rcases roleAt_high op n i h with h6 | ⟨h7, rfl⟩ | ⟨h8, rfl⟩
  · rw [h6]
    by_cases h1 : op = 42
    · subst h1; simp
    · by_cases h2 : op = 43
      · subst h2; simp
      · by_cases h3 : op = 44
        · subst h3; simp
        · by_cases h4 : op = 48
          · subst h4; simp
          · have e1 : (op == 42) = false := by simpa using h1
            have e2 : (op == 43) = false := by simpa using h2
            have e3 : (op == 44) = false := by simpa using h3
            have e4 : (op == 48) = false := by simpa using h4
            simp [h1, h2, h3, h4, e1, e2, e3, e4]
  · rw [h7]; simp
  · rw [h8]; simp
mutual
theorem odd_walk : ∀ (x : Nd) (role : Int) (loop : Bool), 0 ≤ role → role ≤ 8 → oddB x (plc role) loop = walkB x role loop
  | .mk op line s v kids, role, loop, h0, h1 => by
    rw [walkB, oddB, own_shape op role loop s v kids.length h0 h1]
    cases hn : (shapeO op (plc role) loop s v kids.length && !(badI op s == 1)) with
    | false => rfl
    | true =>
      have hn' := own_shape op role loop s v kids.length h0 h1
      rw [hn] at hn'
      have hs := own_stands hn'
      rw [kids_walk kids op role loop kids.length 0 h0 h1 hs.1 (by rw [← full_counts op _ (stands_cases h0 h1 hs.1)]; exact hs.2) (by omega)]
theorem kids_walk : ∀ (ks : List Nd) (op role : Int) (loop : Bool) (n i : Nat), 0 ≤ role → role ≤ 8 → standsB op role = true → countsB op n = true → i + ks.length = n →
    kidsO op (plc role) (loopR op loop) n i ks = kidsB op role loop n i ks
  | [], _, _, _, _, _, _, _, _, _, _ => by rw [kidsO, kidsB]
  | y :: ys, op, role, loop, n, i, h0, h1, hs, hf, hi => by
    simp only [List.length_cons] at hi
    rw [kidsO, kidsB, place_role op role n i h0 h1 hs hf (by omega)]
    change (_ && _) = (walkB y (childR op role i (roleAt op n i)) (inB op loop (childR op role i (roleAt op n i))) && _)
    have hb : 0 ≤ childR op role i (roleAt op n i) ∧ childR op role i (roleAt op n i) ≤ 8 := by
      refine childR_bd ⟨roleAt_bd op n i, ?_⟩
      by_cases h6 : 6 ≤ roleAt op n i
      · rcases roleAt_high op n i h6 with h | ⟨h, _⟩ | ⟨h, _⟩ <;> omega
      · omega
    rw [odd_walk y _ _ hb.1 hb.2, kids_walk ys op role loop n (i + 1) h0 h1 hs hf (by omega)]
    congr 1
    by_cases h6 : 6 ≤ childR op role i (roleAt op n i)
    · rw [flag_eq op role n i loop h6]
    · exact walk_low y _ _ _ hb.1 (by omega)
end
end Go.Proofs.YtmkghfkikclodaaDoor
