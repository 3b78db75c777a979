/- What has to stand in a node. The reference's small functions of programs. The reference: what may stand in a place of a node. -/
import Derived.Test.YtmkghfkikclodaaDoorM08
import Derived.Laws.OwnMore
import Derived.Laws.AppendOwnNone
set_option linter.unusedVariables false
set_option linter.unusedSimpArgs false
namespace Go.Proofs.YtmkghfkikclodaaDoor
open Go.RowKit

def i64V (z : Int) : Value := .int .i64 z
/-- the slice value v, made by the call itself, holds the numbers l -/
def OwnI (w : World) (base : Nat) (v : Value) (l : List Int) : Prop := w.ownsRow base 3 1 v l.length (l.map i64V)
/-- the slice v holds the numbers l -/
def Ints (w : World) (v : Value) (l : List Int) : Prop := ∃ a c, v = .slice a l.length c ∧ (l = [] ∨ ∃ ad, a = some ad ∧ ∀ j (h : j < l.length), w.cell? (ad.add j) = some (i64V l[j]))
theorem OwnI.ints {w : World} {base : Nat} {v : Value} {l : List Int} (h : OwnI w base v l) : Ints w v l := by
  rcases h.2 with ⟨rfl, h0⟩ | ⟨g, cap, cur, rfl, hb, hg, hrest⟩
  · obtain rfl : l = [] := List.eq_nil_of_length_eq_zero h0
    exact ⟨none, 0, rfl, .inl rfl⟩
  · refine ⟨_, _, rfl, .inr ⟨_, rfl, fun j hj => ?_⟩⟩
    exact World.ownsRow.cells h (g := g) rfl j (i64V l[j]) (by simp [hj])
theorem OwnI.shape {w : World} {base : Nat} {v : Value} {l : List Int} (h : OwnI w base v l) : ∃ a c, v = .slice a l.length c := by
  rcases h.2 with ⟨rfl, h0⟩ | ⟨g, cap, cur, rfl, _⟩
  · rw [h0]; exact ⟨_, _, rfl⟩
  · exact ⟨_, _, rfl⟩
theorem Ints.below {w w' : World} {v : Value} {l : List Int} (h : Ints w v l) (hb : Below w.heap.size w w') : Ints w' v l := by
  obtain ⟨a, c, he, h1⟩ := h
  refine ⟨a, c, he, ?_⟩
  rcases h1 with h1 | ⟨ad, rfl, h2⟩
  · exact .inl h1
  · exact .inr ⟨ad, rfl, fun j hj => (hb.cell (cell_lt (h2 j hj))).trans (h2 j hj)⟩
theorem OwnI.below {w w' : World} {base : Nat} {v : Value} {l : List Int} (h : OwnI w base v l) (hb : Below w.heap.size w w') : OwnI w' base v l := by
  refine ⟨h.1, ?_⟩
  rcases h.2 with h0 | ⟨g, cap, cur, he, hg, hgg, rest⟩
  · exact .inl h0
  · exact .inr ⟨g, cap, cur, he, hg, by rw [hb.block g (Array.getElem?_eq_some_iff.1 hgg).1]; exact hgg, rest⟩
theorem below_grownI {B base : Nat} {a w w' : World} {v : Value} {l : List Int} (hb : Below B a w) (ho : OwnI w base v l) (hg : w.grownBy w' v.ownBlock) (hB : B ≤ base) (hB2 : B ≤ w.heap.size) : Below B a w' :=
  hb.grown hg hB2 (fun k hk => Nat.le_trans hB (World.ownsRow.lt ho k hk).1)

theorem info3 : (Tryd.prog.info? 3).map (fun i => (i.zero, i.size, i.bytes)) = some (some (.int .i64 0), 1, 8) := by kernel_rfl

/-- append of what such a slice holds -/
theorem append_ints {w : World} {ops : Array Oper} {rest : List Oper} {o : Oper} {a : Act} {Q : Exit → Act → World → Prop} (hgd : o.guard = none) (sl x : Operand)
    (ho : o.op = .call { callee := .builtin .append, args := #[sl, x], argTypes := #[114, 114] })
    (base : Nat) (v : Value) (l : List Int) (hs : a.eval sl = v) (hown : OwnI w base v l) (ad : Addr) (c : Nat) (m : List Int) (n : Nat) (hn : n = m.length) (hx : a.eval x = .slice (some ad) n c)
    (hc : ∀ j (hj : j < m.length), w.cell? (ad.add j) = some (i64V m[j])) (hlen : l.length + m.length ≤ 1000000) (hbase : base ≤ w.heap.size)
    (h : ∀ v' w', OwnI w' base v' (l ++ m) → w.grownBy w' v.ownBlock → wpList Tryd.prog ops Q rest (a.put o.dst v') w') : wpList Tryd.prog ops Q (o :: rest) a w := by
  subst hn
  obtain ⟨i, hi, hz0, hz1, hz2⟩ := info_parts info3
  refine wpList_append_own w hgd sl x 114 ho base 3 i (.int .i64 0) 1 8 Tryd.underlying114 hi hz0 hz1 hz2 rfl (by decide) v l.length _ hs hown ad m.length c (m.map i64V) hx (by simp) ?_ ?_ (by unfold maxLen; omega) (by omega) hbase ?_
  · intro j u hu
    simp only [List.getElem?_map, Option.map_eq_some_iff] at hu
    obtain ⟨b, hb, rfl⟩ := hu
    obtain ⟨hj, rfl⟩ := List.getElem?_eq_some_iff.1 hb
    exact hc j hj
  · intro u hu
    simp only [List.mem_map] at hu
    obtain ⟨b, _, rfl⟩ := hu
    rfl
  · intro v' w' h1 h2 _
    refine h v' w' ?_ h2
    unfold OwnI
    rw [List.length_append, List.map_append]
    exact h1

theorem one_int (w : World) (z : Int) (t : TypeId) (g : Nat) (hg : g = w.heap.size) : ∀ j (hj : j < [z].length), (w.alloc (.cells #[.int .i64 z] t)).cell? ((⟨g, 0, none⟩ : Addr).add j) = some (i64V [z][j]) := by
  subst hg
  intro j hj
  obtain rfl : j = 0 := by simpa using hj
  rw [show (⟨w.heap.size, 0, none⟩ : Addr).add 0 = ⟨w.heap.size, 0, none⟩ from rfl, World.cell?_alloc_mark]
  rfl

def OwnsI (W : World) (l : List Int) (e : Ending) (w' : World) : Prop := ∃ v, e = .returned v ∧ OwnI w' W.heap.size v l ∧ Below W.heap.size W w'

theorem all_any (role : Int) (k : Nat) (hk : k ≤ 5000) (w : World) : Calls Tryd.prog 86 #[.int .i64 role, .int .i64 k] w (OwnsI w (List.replicate k role)) := by
  go_enter Tryd.func86, Tryd.ntmps86
  go_wp2_with fail
  go_loopw [5, 7] (fun b i wr => ∃ j : Nat, j ≤ k ∧ i = .int .i64 j ∧ Below w.heap.size w wr ∧ OwnI wr w.heap.size b (List.replicate j role)) (fun _ i _ => k - (intOf i).toNat)
  case atStart => exact ⟨0, Nat.zero_le _, rfl, Below.refl _ _, World.ownsRow_nil _ _ _ _⟩
  case round =>
    obtain ⟨j, hj, rfl, hB, hO⟩ := hrel
    have hsz := hB.size
    by_cases hlt : j < k
    · have el : (List.replicate j role).length ≤ 5000 := by rw [List.length_replicate]; omega
      have hacc : List.replicate (j + 1) role = List.replicate j role ++ [role] := List.replicate_succ'
      have HA := Lib.hid hacc
      clear hacc
      generalize List.replicate j role = acc at hO el HA
      obtain ⟨a1, c1, rfl⟩ := hO.shape
      go_wp2_with (at_builtin; go_loud (refine append_ints rfl (.tmp 9) (.tmp 11) rfl w.heap.size _ acc rfl (World.ownsRow.alloc hO _) ⟨wr.heap.size, 0, none⟩ 1 [role] 1 rfl rfl ?d1 ?d2 ?d3 ?_))
      case d1 => exact one_int _ _ _ _ rfl
      case d2 => simp; omega
      case d3 => simp; omega
      intro v' w1 ho1 hg1
      have hB1 := below_grownI (hB.alloc hsz _) (World.ownsRow.alloc hO _) hg1 (Nat.le_refl _) (by simp; omega)
      rw [← HA.out] at ho1
      have HO1 := Lib.hid ho1
      clear ho1 hg1 hO hB
      go_wp2_with fail
      go_roundw
      case rel => exact ⟨j + 1, by omega, by go_num, hB1, HO1.out⟩
      case measure => simp [intOf]; omega
    · obtain rfl : j = k := by omega
      generalize hacc : List.replicate j role = acc at hO
      have HA := Lib.hid hacc
      clear hacc
      obtain ⟨a1, c1, rfl⟩ := hO.shape
      have HO := Lib.hid hO
      clear hO
      go_wp2_with fail
      go_ret
      exact ⟨_, rfl, by rw [HA.out]; exact HO.out, hB⟩

theorem all_int (role z : Int) (k : Nat) (hz : (k : Int) = z) (hk : k ≤ 5000) (w : World) : Calls Tryd.prog 86 #[.int .i64 role, .int .i64 z] w (OwnsI w (List.replicate k role)) := by
  subst hz
  exact all_any role k hk w

theorem OwnI.mono {w : World} {base b2 : Nat} {v : Value} {l : List Int} (h : OwnI w base v l) (hb : b2 ≤ base) : OwnI w b2 v l := by
  refine ⟨h.1, ?_⟩
  rcases h.2 with h0 | ⟨g, cap, cur, he, hg, rest⟩
  · exact .inl h0
  · exact .inr ⟨g, cap, cur, he, by omega, rest⟩

/-- append of another such slice, nil too -/
theorem append_own {w : World} {ops : Array Oper} {rest : List Oper} {o : Oper} {a : Act} {Q : Exit → Act → World → Prop} (hgd : o.guard = none) (sl x : Operand)
    (ho : o.op = .call { callee := .builtin .append, args := #[sl, x], argTypes := #[114, 114] })
    (base : Nat) (v : Value) (l : List Int) (hs : a.eval sl = v) (hown : OwnI w base v l) (b2 : Nat) (u : Value) (m : List Int) (hx : a.eval x = u) (hu : OwnI w b2 u m) (hlen : l.length + m.length ≤ 1000000) (hbase : base ≤ w.heap.size)
    (h : ∀ v' w', OwnI w' base v' (l ++ m) → w.grownBy w' v.ownBlock → wpList Tryd.prog ops Q rest (a.put o.dst v') w') : wpList Tryd.prog ops Q (o :: rest) a w := by
  obtain ⟨i, hi, hz0, hz1, hz2⟩ := info_parts info3
  rcases hu.2 with ⟨rfl, h0⟩ | ⟨g, cap, cur, rfl, _⟩
  · obtain rfl : m = [] := List.eq_nil_of_length_eq_zero h0
    refine wpList_append_own_none hgd sl x 114 ho base 3 i 1 Tryd.underlying114 hi v l.length _ hs hown hx (h v w ?_ ?_)
    · rw [List.append_nil]; exact hown
    · exact ⟨rfl, rfl, rfl, Nat.le_refl _, fun _ _ _ => rfl⟩
  · refine append_ints hgd sl x ho base v l hs hown ⟨g, 0, none⟩ cap m m.length rfl hx (fun j hj => ?_) hlen hbase h
    exact World.ownsRow.cells hu (g := g) rfl j (i64V m[j]) (by simp [hj])

def mem (l : List Int) (op : Int) : Bool := l.any fun x => op == x
/-- what has to stand in a node of this sort that has n nodes -/
def rolesL (op : Int) (n : Nat) : List Int :=
  if mem [1, 2, 45, 46] op then []
  else if mem [3, 4, 26, 40] op then [0]
  else if mem [5, 6, 7, 8, 9, 10, 11, 12, 13, 14, 15, 16, 17, 18, 20, 22] op then [0, 0]
  else if mem [19, 21] op then [0, 0, 0]
  else if op = 23 then [0, 0] ++ List.replicate (n - 2) 1
  else if mem [24, 25] op then List.replicate n 1
  else if op = 27 then [2, 0]
  else if op = 28 then (if 1 < n then (List.replicate (n - 1) 3).set (n - 2) 4 else List.replicate (n - 1) 3) ++ [0]
  else if op = 29 then [0, 5, 0].take (min n 3)
  else if op = 41 then (if n % 2 = 1 then ((List.range n).map fun i => if i % 2 = 1 then (6 : Int) else 0).set (n - 1) 6 else (List.range n).map fun i => if i % 2 = 1 then (6 : Int) else 0)
  else if mem [42, 44, 48] op then [0, 6]
  else if op = 43 then [0, 0, 6]
  else if op = 47 then List.replicate n 0
  else if op = 49 then [6] ++ List.replicate (n - 1) 8
  else if op = 50 then [5, 6]
  else if op = 51 then [6, 6]
  else if op = 52 then List.replicate n 7
  else []
def fullB (op : Int) (n : Nat) : Bool :=
  if mem [1, 2, 45, 46] op then n == 0
  else if mem [3, 4, 26, 40] op then n == 1
  else if mem [5, 6, 7, 8, 9, 10, 11, 12, 13, 14, 15, 16, 17, 18, 20, 22, 27, 42, 44, 48, 50, 51] op then n == 2
  else if mem [19, 21, 43] op then n == 3
  else if mem [23, 28, 41, 49] op then decide (2 ≤ n)
  else if mem [24, 25, 52] op then true
  else if op = 29 then n == 2 || n == 3
  else if op = 47 then decide (n ≤ 1)
  else false

def RolesOut (op : Int) (n : Nat) (W : World) (e : Ending) (w' : World) : Prop := ∃ v, e = .returned (.tuple #[v, .bool (fullB op n)]) ∧ Ints w' v (rolesL op n) ∧ Below W.heap.size W w'

theorem natBeq (n k : Nat) : ((n : Int) == (k : Int)) = (n == k) := by rw [Bool.eq_iff_iff]; simp; omega

/-- a new array -/
theorem ints_new (w : World) (cs : Array Value) (t : TypeId) (l : List Int) (n c g : Nat) (hg : g = w.heap.size) (hn : n ≤ cs.size) (h : (cs.toList.take n) = l.map i64V) : Ints (w.alloc (.cells cs t)) (.slice (some ⟨g, 0, none⟩) n c) l := by
  have hl : n = l.length := by have := congrArg List.length h; simp at this; omega
  subst hg hl
  refine ⟨_, _, rfl, .inr ⟨_, rfl, fun j hj => ?_⟩⟩
  rw [show (⟨w.heap.size, 0, none⟩ : Addr).add j = ⟨w.heap.size, j, none⟩ by unfold Addr.add; split <;> simp_all, World.cell?_alloc_mark]
  have : (cs.toList.take l.length)[j]? = some (i64V l[j]) := by rw [h]; simp [hj]
  rw [List.getElem?_take] at this
  simpa [hj] using this

theorem rolesOut_of {op : Int} {n : Nat} {W w' : World} {v : Value} {b : Bool} {l : List Int} (hb : fullB op n = b) (hl : rolesL op n = l) (hi : Ints w' v l) (hB : Below W.heap.size W w') : RolesOut op n W (.returned (.tuple #[v, .bool b])) w' :=
  ⟨v, by rw [hb], by rw [hl]; exact hi, hB⟩

set_option maxRecDepth 100000 in
set_option maxHeartbeats 1000000 in
theorem roles_1 (x1 x2 x3 x4 x5 x6 : Value) (a : Option Addr) (n c : Nat) (hn : n ≤ 4096) (w : World) :
    Calls Tryd.prog 76 #[.agg #[.int .i64 1, x1, x2, x3, x4, x5, x6, .slice a n c]] w (RolesOut 1 n w) := by
  have hv := NV.new w (.int .i64 1) x1 x2 x3 x4 x5 x6 (.slice a n c)
  have hal := bal w (.cells #[.int .i64 1, x1, x2, x3, x4, x5, x6, .slice a n c] 63)
  have HAL := Lib.hid hal
  obtain ⟨d0, -, -, -, -, -, -, d7⟩ := hv.all
  have HV := Lib.hid hv
  clear hv hal
  have HA := Lib.hid fun (role : Int) (k : Nat) (hk : k ≤ 5000) (w' : World) => all_any role k hk w'
  have hlt : (n : Int) ≤ 4096 := by omega
  go_enter Tryd.func76, Tryd.ntmps76
  go_wp2_with fail
  go_ret2
  exact rolesOut_of (by first | rfl | exact (natBeq n 0).symm) rfl ⟨none, 0, rfl, .inl rfl⟩ HAL.out

set_option maxRecDepth 100000 in
set_option maxHeartbeats 1000000 in
theorem roles_2 (x1 x2 x3 x4 x5 x6 : Value) (a : Option Addr) (n c : Nat) (hn : n ≤ 4096) (w : World) :
    Calls Tryd.prog 76 #[.agg #[.int .i64 2, x1, x2, x3, x4, x5, x6, .slice a n c]] w (RolesOut 2 n w) := by
  have hv := NV.new w (.int .i64 2) x1 x2 x3 x4 x5 x6 (.slice a n c)
  have hal := bal w (.cells #[.int .i64 2, x1, x2, x3, x4, x5, x6, .slice a n c] 63)
  have HAL := Lib.hid hal
  obtain ⟨d0, -, -, -, -, -, -, d7⟩ := hv.all
  have HV := Lib.hid hv
  clear hv hal
  have HA := Lib.hid fun (role : Int) (k : Nat) (hk : k ≤ 5000) (w' : World) => all_any role k hk w'
  have hlt : (n : Int) ≤ 4096 := by omega
  go_enter Tryd.func76, Tryd.ntmps76
  go_wp2_with fail
  go_ret2
  exact rolesOut_of (by first | rfl | exact (natBeq n 0).symm) rfl ⟨none, 0, rfl, .inl rfl⟩ HAL.out

set_option maxRecDepth 100000 in
set_option maxHeartbeats 1000000 in
theorem roles_45 (x1 x2 x3 x4 x5 x6 : Value) (a : Option Addr) (n c : Nat) (hn : n ≤ 4096) (w : World) :
    Calls Tryd.prog 76 #[.agg #[.int .i64 45, x1, x2, x3, x4, x5, x6, .slice a n c]] w (RolesOut 45 n w) := by
  have hv := NV.new w (.int .i64 45) x1 x2 x3 x4 x5 x6 (.slice a n c)
  have hal := bal w (.cells #[.int .i64 45, x1, x2, x3, x4, x5, x6, .slice a n c] 63)
  have HAL := Lib.hid hal
  obtain ⟨d0, -, -, -, -, -, -, d7⟩ := hv.all
  have HV := Lib.hid hv
  clear hv hal
  have HA := Lib.hid fun (role : Int) (k : Nat) (hk : k ≤ 5000) (w' : World) => all_any role k hk w'
  have hlt : (n : Int) ≤ 4096 := by omega
  go_enter Tryd.func76, Tryd.ntmps76
  go_wp2_with fail
  go_ret2
  exact rolesOut_of (by first | rfl | exact (natBeq n 0).symm) rfl ⟨none, 0, rfl, .inl rfl⟩ HAL.out

set_option maxRecDepth 100000 in
set_option maxHeartbeats 1000000 in
theorem roles_46 (x1 x2 x3 x4 x5 x6 : Value) (a : Option Addr) (n c : Nat) (hn : n ≤ 4096) (w : World) :
    Calls Tryd.prog 76 #[.agg #[.int .i64 46, x1, x2, x3, x4, x5, x6, .slice a n c]] w (RolesOut 46 n w) := by
  have hv := NV.new w (.int .i64 46) x1 x2 x3 x4 x5 x6 (.slice a n c)
  have hal := bal w (.cells #[.int .i64 46, x1, x2, x3, x4, x5, x6, .slice a n c] 63)
  have HAL := Lib.hid hal
  obtain ⟨d0, -, -, -, -, -, -, d7⟩ := hv.all
  have HV := Lib.hid hv
  clear hv hal
  have HA := Lib.hid fun (role : Int) (k : Nat) (hk : k ≤ 5000) (w' : World) => all_any role k hk w'
  have hlt : (n : Int) ≤ 4096 := by omega
  go_enter Tryd.func76, Tryd.ntmps76
  go_wp2_with fail
  go_ret2
  exact rolesOut_of (by first | rfl | exact (natBeq n 0).symm) rfl ⟨none, 0, rfl, .inl rfl⟩ HAL.out

set_option maxRecDepth 100000 in
set_option maxHeartbeats 1000000 in
theorem roles_27 (x1 x2 x3 x4 x5 x6 : Value) (a : Option Addr) (n c : Nat) (hn : n ≤ 4096) (w : World) :
    Calls Tryd.prog 76 #[.agg #[.int .i64 27, x1, x2, x3, x4, x5, x6, .slice a n c]] w (RolesOut 27 n w) := by
  have hv := NV.new w (.int .i64 27) x1 x2 x3 x4 x5 x6 (.slice a n c)
  have hal := bal w (.cells #[.int .i64 27, x1, x2, x3, x4, x5, x6, .slice a n c] 63)
  have HAL := Lib.hid hal
  obtain ⟨d0, -, -, -, -, -, -, d7⟩ := hv.all
  have HV := Lib.hid hv
  clear hv hal
  have HA := Lib.hid fun (role : Int) (k : Nat) (hk : k ≤ 5000) (w' : World) => all_any role k hk w'
  have hlt : (n : Int) ≤ 4096 := by omega
  go_enter Tryd.func76, Tryd.ntmps76
  go_wp2_with fail
  go_ret2
  exact rolesOut_of (v := .slice (some ⟨w.heap.size + 1, 0, none⟩) 2 2) (by first | rfl | exact (natBeq n 2).symm) rfl (ints_new _ _ _ [2, 0] _ _ _ (by simp) (by decide) rfl) (HAL.out.alloc HAL.out.size _)

set_option maxRecDepth 100000 in
set_option maxHeartbeats 1000000 in
theorem roles_42 (x1 x2 x3 x4 x5 x6 : Value) (a : Option Addr) (n c : Nat) (hn : n ≤ 4096) (w : World) :
    Calls Tryd.prog 76 #[.agg #[.int .i64 42, x1, x2, x3, x4, x5, x6, .slice a n c]] w (RolesOut 42 n w) := by
  have hv := NV.new w (.int .i64 42) x1 x2 x3 x4 x5 x6 (.slice a n c)
  have hal := bal w (.cells #[.int .i64 42, x1, x2, x3, x4, x5, x6, .slice a n c] 63)
  have HAL := Lib.hid hal
  obtain ⟨d0, -, -, -, -, -, -, d7⟩ := hv.all
  have HV := Lib.hid hv
  clear hv hal
  have HA := Lib.hid fun (role : Int) (k : Nat) (hk : k ≤ 5000) (w' : World) => all_any role k hk w'
  have hlt : (n : Int) ≤ 4096 := by omega
  go_enter Tryd.func76, Tryd.ntmps76
  go_wp2_with fail
  go_ret2
  exact rolesOut_of (v := .slice (some ⟨w.heap.size + 1, 0, none⟩) 2 2) (by first | rfl | exact (natBeq n 2).symm) rfl (ints_new _ _ _ [0, 6] _ _ _ (by simp) (by decide) rfl) (HAL.out.alloc HAL.out.size _)

set_option maxRecDepth 100000 in
set_option maxHeartbeats 1000000 in
theorem roles_44 (x1 x2 x3 x4 x5 x6 : Value) (a : Option Addr) (n c : Nat) (hn : n ≤ 4096) (w : World) :
    Calls Tryd.prog 76 #[.agg #[.int .i64 44, x1, x2, x3, x4, x5, x6, .slice a n c]] w (RolesOut 44 n w) := by
  have hv := NV.new w (.int .i64 44) x1 x2 x3 x4 x5 x6 (.slice a n c)
  have hal := bal w (.cells #[.int .i64 44, x1, x2, x3, x4, x5, x6, .slice a n c] 63)
  have HAL := Lib.hid hal
  obtain ⟨d0, -, -, -, -, -, -, d7⟩ := hv.all
  have HV := Lib.hid hv
  clear hv hal
  have HA := Lib.hid fun (role : Int) (k : Nat) (hk : k ≤ 5000) (w' : World) => all_any role k hk w'
  have hlt : (n : Int) ≤ 4096 := by omega
  go_enter Tryd.func76, Tryd.ntmps76
  go_wp2_with fail
  go_ret2
  exact rolesOut_of (v := .slice (some ⟨w.heap.size + 1, 0, none⟩) 2 2) (by first | rfl | exact (natBeq n 2).symm) rfl (ints_new _ _ _ [0, 6] _ _ _ (by simp) (by decide) rfl) (HAL.out.alloc HAL.out.size _)

set_option maxRecDepth 100000 in
set_option maxHeartbeats 1000000 in
theorem roles_48 (x1 x2 x3 x4 x5 x6 : Value) (a : Option Addr) (n c : Nat) (hn : n ≤ 4096) (w : World) :
    Calls Tryd.prog 76 #[.agg #[.int .i64 48, x1, x2, x3, x4, x5, x6, .slice a n c]] w (RolesOut 48 n w) := by
  have hv := NV.new w (.int .i64 48) x1 x2 x3 x4 x5 x6 (.slice a n c)
  have hal := bal w (.cells #[.int .i64 48, x1, x2, x3, x4, x5, x6, .slice a n c] 63)
  have HAL := Lib.hid hal
  obtain ⟨d0, -, -, -, -, -, -, d7⟩ := hv.all
  have HV := Lib.hid hv
  clear hv hal
  have HA := Lib.hid fun (role : Int) (k : Nat) (hk : k ≤ 5000) (w' : World) => all_any role k hk w'
  have hlt : (n : Int) ≤ 4096 := by omega
  go_enter Tryd.func76, Tryd.ntmps76
  go_wp2_with fail
  go_ret2
  exact rolesOut_of (v := .slice (some ⟨w.heap.size + 1, 0, none⟩) 2 2) (by first | rfl | exact (natBeq n 2).symm) rfl (ints_new _ _ _ [0, 6] _ _ _ (by simp) (by decide) rfl) (HAL.out.alloc HAL.out.size _)

set_option maxRecDepth 100000 in
set_option maxHeartbeats 1000000 in
theorem roles_50 (x1 x2 x3 x4 x5 x6 : Value) (a : Option Addr) (n c : Nat) (hn : n ≤ 4096) (w : World) :
    Calls Tryd.prog 76 #[.agg #[.int .i64 50, x1, x2, x3, x4, x5, x6, .slice a n c]] w (RolesOut 50 n w) := by
  have hv := NV.new w (.int .i64 50) x1 x2 x3 x4 x5 x6 (.slice a n c)
  have hal := bal w (.cells #[.int .i64 50, x1, x2, x3, x4, x5, x6, .slice a n c] 63)
  have HAL := Lib.hid hal
  obtain ⟨d0, -, -, -, -, -, -, d7⟩ := hv.all
  have HV := Lib.hid hv
  clear hv hal
  have HA := Lib.hid fun (role : Int) (k : Nat) (hk : k ≤ 5000) (w' : World) => all_any role k hk w'
  have hlt : (n : Int) ≤ 4096 := by omega
  go_enter Tryd.func76, Tryd.ntmps76
  go_wp2_with fail
  go_ret2
  exact rolesOut_of (v := .slice (some ⟨w.heap.size + 1, 0, none⟩) 2 2) (by first | rfl | exact (natBeq n 2).symm) rfl (ints_new _ _ _ [5, 6] _ _ _ (by simp) (by decide) rfl) (HAL.out.alloc HAL.out.size _)

set_option maxRecDepth 100000 in
set_option maxHeartbeats 1000000 in
theorem roles_51 (x1 x2 x3 x4 x5 x6 : Value) (a : Option Addr) (n c : Nat) (hn : n ≤ 4096) (w : World) :
    Calls Tryd.prog 76 #[.agg #[.int .i64 51, x1, x2, x3, x4, x5, x6, .slice a n c]] w (RolesOut 51 n w) := by
  have hv := NV.new w (.int .i64 51) x1 x2 x3 x4 x5 x6 (.slice a n c)
  have hal := bal w (.cells #[.int .i64 51, x1, x2, x3, x4, x5, x6, .slice a n c] 63)
  have HAL := Lib.hid hal
  obtain ⟨d0, -, -, -, -, -, -, d7⟩ := hv.all
  have HV := Lib.hid hv
  clear hv hal
  have HA := Lib.hid fun (role : Int) (k : Nat) (hk : k ≤ 5000) (w' : World) => all_any role k hk w'
  have hlt : (n : Int) ≤ 4096 := by omega
  go_enter Tryd.func76, Tryd.ntmps76
  go_wp2_with fail
  go_ret2
  exact rolesOut_of (v := .slice (some ⟨w.heap.size + 1, 0, none⟩) 2 2) (by first | rfl | exact (natBeq n 2).symm) rfl (ints_new _ _ _ [6, 6] _ _ _ (by simp) (by decide) rfl) (HAL.out.alloc HAL.out.size _)

set_option maxRecDepth 100000 in
set_option maxHeartbeats 1000000 in
theorem roles_43 (x1 x2 x3 x4 x5 x6 : Value) (a : Option Addr) (n c : Nat) (hn : n ≤ 4096) (w : World) :
    Calls Tryd.prog 76 #[.agg #[.int .i64 43, x1, x2, x3, x4, x5, x6, .slice a n c]] w (RolesOut 43 n w) := by
  have hv := NV.new w (.int .i64 43) x1 x2 x3 x4 x5 x6 (.slice a n c)
  have hal := bal w (.cells #[.int .i64 43, x1, x2, x3, x4, x5, x6, .slice a n c] 63)
  have HAL := Lib.hid hal
  obtain ⟨d0, -, -, -, -, -, -, d7⟩ := hv.all
  have HV := Lib.hid hv
  clear hv hal
  have HA := Lib.hid fun (role : Int) (k : Nat) (hk : k ≤ 5000) (w' : World) => all_any role k hk w'
  have hlt : (n : Int) ≤ 4096 := by omega
  go_enter Tryd.func76, Tryd.ntmps76
  go_wp2_with fail
  go_ret2
  exact rolesOut_of (v := .slice (some ⟨w.heap.size + 1, 0, none⟩) 3 3) (by first | rfl | exact (natBeq n 3).symm) rfl (ints_new _ _ _ [0, 0, 6] _ _ _ (by simp) (by decide) rfl) (HAL.out.alloc HAL.out.size _)

set_option maxRecDepth 100000 in
set_option maxHeartbeats 1000000 in
theorem roles_3 (x1 x2 x3 x4 x5 x6 : Value) (a : Option Addr) (n c : Nat) (hn : n ≤ 4096) (w : World) :
    Calls Tryd.prog 76 #[.agg #[.int .i64 3, x1, x2, x3, x4, x5, x6, .slice a n c]] w (RolesOut 3 n w) := by
  have hv := NV.new w (.int .i64 3) x1 x2 x3 x4 x5 x6 (.slice a n c)
  have hal := bal w (.cells #[.int .i64 3, x1, x2, x3, x4, x5, x6, .slice a n c] 63)
  have HAL := Lib.hid hal
  obtain ⟨d0, -, -, -, -, -, -, d7⟩ := hv.all
  have HV := Lib.hid hv
  clear hv hal
  have HA := Lib.hid fun (role : Int) (k : Nat) (hk : k ≤ 5000) (w' : World) => all_any role k hk w'
  have hlt : (n : Int) ≤ 4096 := by omega
  go_enter Tryd.func76, Tryd.ntmps76
  go_wp2_with fail
  refine (HA.out 0 1 (by decide) _).mono ?_
  rintro e w1 ⟨v, rfl, ho, hB⟩
  have hB1 := HAL.out.trans (hB.mono HAL.out.size)
  have hi := ho.ints
  obtain ⟨a1, c1, rfl⟩ := ho.shape
  have HI := Lib.hid (And.intro hi hB1)
  clear hi hB1 ho hB
  have e7 := d7
  clear d0 d7
  go_wp2_with fail
  go_ret2
  exact rolesOut_of (by first | rfl | exact (natBeq n 1).symm) rfl HI.out.1 HI.out.2

set_option maxRecDepth 100000 in
set_option maxHeartbeats 1000000 in
theorem roles_4 (x1 x2 x3 x4 x5 x6 : Value) (a : Option Addr) (n c : Nat) (hn : n ≤ 4096) (w : World) :
    Calls Tryd.prog 76 #[.agg #[.int .i64 4, x1, x2, x3, x4, x5, x6, .slice a n c]] w (RolesOut 4 n w) := by
  have hv := NV.new w (.int .i64 4) x1 x2 x3 x4 x5 x6 (.slice a n c)
  have hal := bal w (.cells #[.int .i64 4, x1, x2, x3, x4, x5, x6, .slice a n c] 63)
  have HAL := Lib.hid hal
  obtain ⟨d0, -, -, -, -, -, -, d7⟩ := hv.all
  have HV := Lib.hid hv
  clear hv hal
  have HA := Lib.hid fun (role : Int) (k : Nat) (hk : k ≤ 5000) (w' : World) => all_any role k hk w'
  have hlt : (n : Int) ≤ 4096 := by omega
  go_enter Tryd.func76, Tryd.ntmps76
  go_wp2_with fail
  refine (HA.out 0 1 (by decide) _).mono ?_
  rintro e w1 ⟨v, rfl, ho, hB⟩
  have hB1 := HAL.out.trans (hB.mono HAL.out.size)
  have hi := ho.ints
  obtain ⟨a1, c1, rfl⟩ := ho.shape
  have HI := Lib.hid (And.intro hi hB1)
  clear hi hB1 ho hB
  have e7 := d7
  clear d0 d7
  go_wp2_with fail
  go_ret2
  exact rolesOut_of (by first | rfl | exact (natBeq n 1).symm) rfl HI.out.1 HI.out.2

set_option maxRecDepth 100000 in
set_option maxHeartbeats 1000000 in
theorem roles_26 (x1 x2 x3 x4 x5 x6 : Value) (a : Option Addr) (n c : Nat) (hn : n ≤ 4096) (w : World) :
    Calls Tryd.prog 76 #[.agg #[.int .i64 26, x1, x2, x3, x4, x5, x6, .slice a n c]] w (RolesOut 26 n w) := by
  have hv := NV.new w (.int .i64 26) x1 x2 x3 x4 x5 x6 (.slice a n c)
  have hal := bal w (.cells #[.int .i64 26, x1, x2, x3, x4, x5, x6, .slice a n c] 63)
  have HAL := Lib.hid hal
  obtain ⟨d0, -, -, -, -, -, -, d7⟩ := hv.all
  have HV := Lib.hid hv
  clear hv hal
  have HA := Lib.hid fun (role : Int) (k : Nat) (hk : k ≤ 5000) (w' : World) => all_any role k hk w'
  have hlt : (n : Int) ≤ 4096 := by omega
  go_enter Tryd.func76, Tryd.ntmps76
  go_wp2_with fail
  refine (HA.out 0 1 (by decide) _).mono ?_
  rintro e w1 ⟨v, rfl, ho, hB⟩
  have hB1 := HAL.out.trans (hB.mono HAL.out.size)
  have hi := ho.ints
  obtain ⟨a1, c1, rfl⟩ := ho.shape
  have HI := Lib.hid (And.intro hi hB1)
  clear hi hB1 ho hB
  have e7 := d7
  clear d0 d7
  go_wp2_with fail
  go_ret2
  exact rolesOut_of (by first | rfl | exact (natBeq n 1).symm) rfl HI.out.1 HI.out.2

set_option maxRecDepth 100000 in
set_option maxHeartbeats 1000000 in
theorem roles_40 (x1 x2 x3 x4 x5 x6 : Value) (a : Option Addr) (n c : Nat) (hn : n ≤ 4096) (w : World) :
    Calls Tryd.prog 76 #[.agg #[.int .i64 40, x1, x2, x3, x4, x5, x6, .slice a n c]] w (RolesOut 40 n w) := by
  have hv := NV.new w (.int .i64 40) x1 x2 x3 x4 x5 x6 (.slice a n c)
  have hal := bal w (.cells #[.int .i64 40, x1, x2, x3, x4, x5, x6, .slice a n c] 63)
  have HAL := Lib.hid hal
  obtain ⟨d0, -, -, -, -, -, -, d7⟩ := hv.all
  have HV := Lib.hid hv
  clear hv hal
  have HA := Lib.hid fun (role : Int) (k : Nat) (hk : k ≤ 5000) (w' : World) => all_any role k hk w'
  have hlt : (n : Int) ≤ 4096 := by omega
  go_enter Tryd.func76, Tryd.ntmps76
  go_wp2_with fail
  refine (HA.out 0 1 (by decide) _).mono ?_
  rintro e w1 ⟨v, rfl, ho, hB⟩
  have hB1 := HAL.out.trans (hB.mono HAL.out.size)
  have hi := ho.ints
  obtain ⟨a1, c1, rfl⟩ := ho.shape
  have HI := Lib.hid (And.intro hi hB1)
  clear hi hB1 ho hB
  have e7 := d7
  clear d0 d7
  go_wp2_with fail
  go_ret2
  exact rolesOut_of (by first | rfl | exact (natBeq n 1).symm) rfl HI.out.1 HI.out.2

set_option maxRecDepth 100000 in
set_option maxHeartbeats 1000000 in
theorem roles_5 (x1 x2 x3 x4 x5 x6 : Value) (a : Option Addr) (n c : Nat) (hn : n ≤ 4096) (w : World) :
    Calls Tryd.prog 76 #[.agg #[.int .i64 5, x1, x2, x3, x4, x5, x6, .slice a n c]] w (RolesOut 5 n w) := by
  have hv := NV.new w (.int .i64 5) x1 x2 x3 x4 x5 x6 (.slice a n c)
  have hal := bal w (.cells #[.int .i64 5, x1, x2, x3, x4, x5, x6, .slice a n c] 63)
  have HAL := Lib.hid hal
  obtain ⟨d0, -, -, -, -, -, -, d7⟩ := hv.all
  have HV := Lib.hid hv
  clear hv hal
  have HA := Lib.hid fun (role : Int) (k : Nat) (hk : k ≤ 5000) (w' : World) => all_any role k hk w'
  have hlt : (n : Int) ≤ 4096 := by omega
  go_enter Tryd.func76, Tryd.ntmps76
  go_wp2_with fail
  refine (HA.out 0 2 (by decide) _).mono ?_
  rintro e w1 ⟨v, rfl, ho, hB⟩
  have hB1 := HAL.out.trans (hB.mono HAL.out.size)
  have hi := ho.ints
  obtain ⟨a1, c1, rfl⟩ := ho.shape
  have HI := Lib.hid (And.intro hi hB1)
  clear hi hB1 ho hB
  have e7 := d7
  clear d0 d7
  go_wp2_with fail
  go_ret2
  exact rolesOut_of (by first | rfl | exact (natBeq n 2).symm) rfl HI.out.1 HI.out.2

set_option maxRecDepth 100000 in
set_option maxHeartbeats 1000000 in
theorem roles_6 (x1 x2 x3 x4 x5 x6 : Value) (a : Option Addr) (n c : Nat) (hn : n ≤ 4096) (w : World) :
    Calls Tryd.prog 76 #[.agg #[.int .i64 6, x1, x2, x3, x4, x5, x6, .slice a n c]] w (RolesOut 6 n w) := by
  have hv := NV.new w (.int .i64 6) x1 x2 x3 x4 x5 x6 (.slice a n c)
  have hal := bal w (.cells #[.int .i64 6, x1, x2, x3, x4, x5, x6, .slice a n c] 63)
  have HAL := Lib.hid hal
  obtain ⟨d0, -, -, -, -, -, -, d7⟩ := hv.all
  have HV := Lib.hid hv
  clear hv hal
  have HA := Lib.hid fun (role : Int) (k : Nat) (hk : k ≤ 5000) (w' : World) => all_any role k hk w'
  have hlt : (n : Int) ≤ 4096 := by omega
  go_enter Tryd.func76, Tryd.ntmps76
  go_wp2_with fail
  refine (HA.out 0 2 (by decide) _).mono ?_
  rintro e w1 ⟨v, rfl, ho, hB⟩
  have hB1 := HAL.out.trans (hB.mono HAL.out.size)
  have hi := ho.ints
  obtain ⟨a1, c1, rfl⟩ := ho.shape
  have HI := Lib.hid (And.intro hi hB1)
  clear hi hB1 ho hB
  have e7 := d7
  clear d0 d7
  go_wp2_with fail
  go_ret2
  exact rolesOut_of (by first | rfl | exact (natBeq n 2).symm) rfl HI.out.1 HI.out.2

set_option maxRecDepth 100000 in
set_option maxHeartbeats 1000000 in
theorem roles_7 (x1 x2 x3 x4 x5 x6 : Value) (a : Option Addr) (n c : Nat) (hn : n ≤ 4096) (w : World) :
    Calls Tryd.prog 76 #[.agg #[.int .i64 7, x1, x2, x3, x4, x5, x6, .slice a n c]] w (RolesOut 7 n w) := by
  have hv := NV.new w (.int .i64 7) x1 x2 x3 x4 x5 x6 (.slice a n c)
  have hal := bal w (.cells #[.int .i64 7, x1, x2, x3, x4, x5, x6, .slice a n c] 63)
  have HAL := Lib.hid hal
  obtain ⟨d0, -, -, -, -, -, -, d7⟩ := hv.all
  have HV := Lib.hid hv
  clear hv hal
  have HA := Lib.hid fun (role : Int) (k : Nat) (hk : k ≤ 5000) (w' : World) => all_any role k hk w'
  have hlt : (n : Int) ≤ 4096 := by omega
  go_enter Tryd.func76, Tryd.ntmps76
  go_wp2_with fail
  refine (HA.out 0 2 (by decide) _).mono ?_
  rintro e w1 ⟨v, rfl, ho, hB⟩
  have hB1 := HAL.out.trans (hB.mono HAL.out.size)
  have hi := ho.ints
  obtain ⟨a1, c1, rfl⟩ := ho.shape
  have HI := Lib.hid (And.intro hi hB1)
  clear hi hB1 ho hB
  have e7 := d7
  clear d0 d7
  go_wp2_with fail
  go_ret2
  exact rolesOut_of (by first | rfl | exact (natBeq n 2).symm) rfl HI.out.1 HI.out.2

set_option maxRecDepth 100000 in
set_option maxHeartbeats 1000000 in
theorem roles_8 (x1 x2 x3 x4 x5 x6 : Value) (a : Option Addr) (n c : Nat) (hn : n ≤ 4096) (w : World) :
    Calls Tryd.prog 76 #[.agg #[.int .i64 8, x1, x2, x3, x4, x5, x6, .slice a n c]] w (RolesOut 8 n w) := by
  have hv := NV.new w (.int .i64 8) x1 x2 x3 x4 x5 x6 (.slice a n c)
  have hal := bal w (.cells #[.int .i64 8, x1, x2, x3, x4, x5, x6, .slice a n c] 63)
  have HAL := Lib.hid hal
  obtain ⟨d0, -, -, -, -, -, -, d7⟩ := hv.all
  have HV := Lib.hid hv
  clear hv hal
  have HA := Lib.hid fun (role : Int) (k : Nat) (hk : k ≤ 5000) (w' : World) => all_any role k hk w'
  have hlt : (n : Int) ≤ 4096 := by omega
  go_enter Tryd.func76, Tryd.ntmps76
  go_wp2_with fail
  refine (HA.out 0 2 (by decide) _).mono ?_
  rintro e w1 ⟨v, rfl, ho, hB⟩
  have hB1 := HAL.out.trans (hB.mono HAL.out.size)
  have hi := ho.ints
  obtain ⟨a1, c1, rfl⟩ := ho.shape
  have HI := Lib.hid (And.intro hi hB1)
  clear hi hB1 ho hB
  have e7 := d7
  clear d0 d7
  go_wp2_with fail
  go_ret2
  exact rolesOut_of (by first | rfl | exact (natBeq n 2).symm) rfl HI.out.1 HI.out.2

set_option maxRecDepth 100000 in
set_option maxHeartbeats 1000000 in
theorem roles_9 (x1 x2 x3 x4 x5 x6 : Value) (a : Option Addr) (n c : Nat) (hn : n ≤ 4096) (w : World) :
    Calls Tryd.prog 76 #[.agg #[.int .i64 9, x1, x2, x3, x4, x5, x6, .slice a n c]] w (RolesOut 9 n w) := by
  have hv := NV.new w (.int .i64 9) x1 x2 x3 x4 x5 x6 (.slice a n c)
  have hal := bal w (.cells #[.int .i64 9, x1, x2, x3, x4, x5, x6, .slice a n c] 63)
  have HAL := Lib.hid hal
  obtain ⟨d0, -, -, -, -, -, -, d7⟩ := hv.all
  have HV := Lib.hid hv
  clear hv hal
  have HA := Lib.hid fun (role : Int) (k : Nat) (hk : k ≤ 5000) (w' : World) => all_any role k hk w'
  have hlt : (n : Int) ≤ 4096 := by omega
  go_enter Tryd.func76, Tryd.ntmps76
  go_wp2_with fail
  refine (HA.out 0 2 (by decide) _).mono ?_
  rintro e w1 ⟨v, rfl, ho, hB⟩
  have hB1 := HAL.out.trans (hB.mono HAL.out.size)
  have hi := ho.ints
  obtain ⟨a1, c1, rfl⟩ := ho.shape
  have HI := Lib.hid (And.intro hi hB1)
  clear hi hB1 ho hB
  have e7 := d7
  clear d0 d7
  go_wp2_with fail
  go_ret2
  exact rolesOut_of (by first | rfl | exact (natBeq n 2).symm) rfl HI.out.1 HI.out.2

set_option maxRecDepth 100000 in
set_option maxHeartbeats 1000000 in
theorem roles_10 (x1 x2 x3 x4 x5 x6 : Value) (a : Option Addr) (n c : Nat) (hn : n ≤ 4096) (w : World) :
    Calls Tryd.prog 76 #[.agg #[.int .i64 10, x1, x2, x3, x4, x5, x6, .slice a n c]] w (RolesOut 10 n w) := by
  have hv := NV.new w (.int .i64 10) x1 x2 x3 x4 x5 x6 (.slice a n c)
  have hal := bal w (.cells #[.int .i64 10, x1, x2, x3, x4, x5, x6, .slice a n c] 63)
  have HAL := Lib.hid hal
  obtain ⟨d0, -, -, -, -, -, -, d7⟩ := hv.all
  have HV := Lib.hid hv
  clear hv hal
  have HA := Lib.hid fun (role : Int) (k : Nat) (hk : k ≤ 5000) (w' : World) => all_any role k hk w'
  have hlt : (n : Int) ≤ 4096 := by omega
  go_enter Tryd.func76, Tryd.ntmps76
  go_wp2_with fail
  refine (HA.out 0 2 (by decide) _).mono ?_
  rintro e w1 ⟨v, rfl, ho, hB⟩
  have hB1 := HAL.out.trans (hB.mono HAL.out.size)
  have hi := ho.ints
  obtain ⟨a1, c1, rfl⟩ := ho.shape
  have HI := Lib.hid (And.intro hi hB1)
  clear hi hB1 ho hB
  have e7 := d7
  clear d0 d7
  go_wp2_with fail
  go_ret2
  exact rolesOut_of (by first | rfl | exact (natBeq n 2).symm) rfl HI.out.1 HI.out.2

set_option maxRecDepth 100000 in
set_option maxHeartbeats 1000000 in
theorem roles_11 (x1 x2 x3 x4 x5 x6 : Value) (a : Option Addr) (n c : Nat) (hn : n ≤ 4096) (w : World) :
    Calls Tryd.prog 76 #[.agg #[.int .i64 11, x1, x2, x3, x4, x5, x6, .slice a n c]] w (RolesOut 11 n w) := by
  have hv := NV.new w (.int .i64 11) x1 x2 x3 x4 x5 x6 (.slice a n c)
  have hal := bal w (.cells #[.int .i64 11, x1, x2, x3, x4, x5, x6, .slice a n c] 63)
  have HAL := Lib.hid hal
  obtain ⟨d0, -, -, -, -, -, -, d7⟩ := hv.all
  have HV := Lib.hid hv
  clear hv hal
  have HA := Lib.hid fun (role : Int) (k : Nat) (hk : k ≤ 5000) (w' : World) => all_any role k hk w'
  have hlt : (n : Int) ≤ 4096 := by omega
  go_enter Tryd.func76, Tryd.ntmps76
  go_wp2_with fail
  refine (HA.out 0 2 (by decide) _).mono ?_
  rintro e w1 ⟨v, rfl, ho, hB⟩
  have hB1 := HAL.out.trans (hB.mono HAL.out.size)
  have hi := ho.ints
  obtain ⟨a1, c1, rfl⟩ := ho.shape
  have HI := Lib.hid (And.intro hi hB1)
  clear hi hB1 ho hB
  have e7 := d7
  clear d0 d7
  go_wp2_with fail
  go_ret2
  exact rolesOut_of (by first | rfl | exact (natBeq n 2).symm) rfl HI.out.1 HI.out.2

set_option maxRecDepth 100000 in
set_option maxHeartbeats 1000000 in
theorem roles_12 (x1 x2 x3 x4 x5 x6 : Value) (a : Option Addr) (n c : Nat) (hn : n ≤ 4096) (w : World) :
    Calls Tryd.prog 76 #[.agg #[.int .i64 12, x1, x2, x3, x4, x5, x6, .slice a n c]] w (RolesOut 12 n w) := by
  have hv := NV.new w (.int .i64 12) x1 x2 x3 x4 x5 x6 (.slice a n c)
  have hal := bal w (.cells #[.int .i64 12, x1, x2, x3, x4, x5, x6, .slice a n c] 63)
  have HAL := Lib.hid hal
  obtain ⟨d0, -, -, -, -, -, -, d7⟩ := hv.all
  have HV := Lib.hid hv
  clear hv hal
  have HA := Lib.hid fun (role : Int) (k : Nat) (hk : k ≤ 5000) (w' : World) => all_any role k hk w'
  have hlt : (n : Int) ≤ 4096 := by omega
  go_enter Tryd.func76, Tryd.ntmps76
  go_wp2_with fail
  refine (HA.out 0 2 (by decide) _).mono ?_
  rintro e w1 ⟨v, rfl, ho, hB⟩
  have hB1 := HAL.out.trans (hB.mono HAL.out.size)
  have hi := ho.ints
  obtain ⟨a1, c1, rfl⟩ := ho.shape
  have HI := Lib.hid (And.intro hi hB1)
  clear hi hB1 ho hB
  have e7 := d7
  clear d0 d7
  go_wp2_with fail
  go_ret2
  exact rolesOut_of (by first | rfl | exact (natBeq n 2).symm) rfl HI.out.1 HI.out.2

set_option maxRecDepth 100000 in
set_option maxHeartbeats 1000000 in
theorem roles_13 (x1 x2 x3 x4 x5 x6 : Value) (a : Option Addr) (n c : Nat) (hn : n ≤ 4096) (w : World) :
    Calls Tryd.prog 76 #[.agg #[.int .i64 13, x1, x2, x3, x4, x5, x6, .slice a n c]] w (RolesOut 13 n w) := by
  have hv := NV.new w (.int .i64 13) x1 x2 x3 x4 x5 x6 (.slice a n c)
  have hal := bal w (.cells #[.int .i64 13, x1, x2, x3, x4, x5, x6, .slice a n c] 63)
  have HAL := Lib.hid hal
  obtain ⟨d0, -, -, -, -, -, -, d7⟩ := hv.all
  have HV := Lib.hid hv
  clear hv hal
  have HA := Lib.hid fun (role : Int) (k : Nat) (hk : k ≤ 5000) (w' : World) => all_any role k hk w'
  have hlt : (n : Int) ≤ 4096 := by omega
  go_enter Tryd.func76, Tryd.ntmps76
  go_wp2_with fail
  refine (HA.out 0 2 (by decide) _).mono ?_
  rintro e w1 ⟨v, rfl, ho, hB⟩
  have hB1 := HAL.out.trans (hB.mono HAL.out.size)
  have hi := ho.ints
  obtain ⟨a1, c1, rfl⟩ := ho.shape
  have HI := Lib.hid (And.intro hi hB1)
  clear hi hB1 ho hB
  have e7 := d7
  clear d0 d7
  go_wp2_with fail
  go_ret2
  exact rolesOut_of (by first | rfl | exact (natBeq n 2).symm) rfl HI.out.1 HI.out.2

set_option maxRecDepth 100000 in
set_option maxHeartbeats 1000000 in
theorem roles_14 (x1 x2 x3 x4 x5 x6 : Value) (a : Option Addr) (n c : Nat) (hn : n ≤ 4096) (w : World) :
    Calls Tryd.prog 76 #[.agg #[.int .i64 14, x1, x2, x3, x4, x5, x6, .slice a n c]] w (RolesOut 14 n w) := by
  have hv := NV.new w (.int .i64 14) x1 x2 x3 x4 x5 x6 (.slice a n c)
  have hal := bal w (.cells #[.int .i64 14, x1, x2, x3, x4, x5, x6, .slice a n c] 63)
  have HAL := Lib.hid hal
  obtain ⟨d0, -, -, -, -, -, -, d7⟩ := hv.all
  have HV := Lib.hid hv
  clear hv hal
  have HA := Lib.hid fun (role : Int) (k : Nat) (hk : k ≤ 5000) (w' : World) => all_any role k hk w'
  have hlt : (n : Int) ≤ 4096 := by omega
  go_enter Tryd.func76, Tryd.ntmps76
  go_wp2_with fail
  refine (HA.out 0 2 (by decide) _).mono ?_
  rintro e w1 ⟨v, rfl, ho, hB⟩
  have hB1 := HAL.out.trans (hB.mono HAL.out.size)
  have hi := ho.ints
  obtain ⟨a1, c1, rfl⟩ := ho.shape
  have HI := Lib.hid (And.intro hi hB1)
  clear hi hB1 ho hB
  have e7 := d7
  clear d0 d7
  go_wp2_with fail
  go_ret2
  exact rolesOut_of (by first | rfl | exact (natBeq n 2).symm) rfl HI.out.1 HI.out.2

set_option maxRecDepth 100000 in
set_option maxHeartbeats 1000000 in
theorem roles_15 (x1 x2 x3 x4 x5 x6 : Value) (a : Option Addr) (n c : Nat) (hn : n ≤ 4096) (w : World) :
    Calls Tryd.prog 76 #[.agg #[.int .i64 15, x1, x2, x3, x4, x5, x6, .slice a n c]] w (RolesOut 15 n w) := by
  have hv := NV.new w (.int .i64 15) x1 x2 x3 x4 x5 x6 (.slice a n c)
  have hal := bal w (.cells #[.int .i64 15, x1, x2, x3, x4, x5, x6, .slice a n c] 63)
  have HAL := Lib.hid hal
  obtain ⟨d0, -, -, -, -, -, -, d7⟩ := hv.all
  have HV := Lib.hid hv
  clear hv hal
  have HA := Lib.hid fun (role : Int) (k : Nat) (hk : k ≤ 5000) (w' : World) => all_any role k hk w'
  have hlt : (n : Int) ≤ 4096 := by omega
  go_enter Tryd.func76, Tryd.ntmps76
  go_wp2_with fail
  refine (HA.out 0 2 (by decide) _).mono ?_
  rintro e w1 ⟨v, rfl, ho, hB⟩
  have hB1 := HAL.out.trans (hB.mono HAL.out.size)
  have hi := ho.ints
  obtain ⟨a1, c1, rfl⟩ := ho.shape
  have HI := Lib.hid (And.intro hi hB1)
  clear hi hB1 ho hB
  have e7 := d7
  clear d0 d7
  go_wp2_with fail
  go_ret2
  exact rolesOut_of (by first | rfl | exact (natBeq n 2).symm) rfl HI.out.1 HI.out.2

set_option maxRecDepth 100000 in
set_option maxHeartbeats 1000000 in
theorem roles_16 (x1 x2 x3 x4 x5 x6 : Value) (a : Option Addr) (n c : Nat) (hn : n ≤ 4096) (w : World) :
    Calls Tryd.prog 76 #[.agg #[.int .i64 16, x1, x2, x3, x4, x5, x6, .slice a n c]] w (RolesOut 16 n w) := by
  have hv := NV.new w (.int .i64 16) x1 x2 x3 x4 x5 x6 (.slice a n c)
  have hal := bal w (.cells #[.int .i64 16, x1, x2, x3, x4, x5, x6, .slice a n c] 63)
  have HAL := Lib.hid hal
  obtain ⟨d0, -, -, -, -, -, -, d7⟩ := hv.all
  have HV := Lib.hid hv
  clear hv hal
  have HA := Lib.hid fun (role : Int) (k : Nat) (hk : k ≤ 5000) (w' : World) => all_any role k hk w'
  have hlt : (n : Int) ≤ 4096 := by omega
  go_enter Tryd.func76, Tryd.ntmps76
  go_wp2_with fail
  refine (HA.out 0 2 (by decide) _).mono ?_
  rintro e w1 ⟨v, rfl, ho, hB⟩
  have hB1 := HAL.out.trans (hB.mono HAL.out.size)
  have hi := ho.ints
  obtain ⟨a1, c1, rfl⟩ := ho.shape
  have HI := Lib.hid (And.intro hi hB1)
  clear hi hB1 ho hB
  have e7 := d7
  clear d0 d7
  go_wp2_with fail
  go_ret2
  exact rolesOut_of (by first | rfl | exact (natBeq n 2).symm) rfl HI.out.1 HI.out.2

set_option maxRecDepth 100000 in
set_option maxHeartbeats 1000000 in
theorem roles_17 (x1 x2 x3 x4 x5 x6 : Value) (a : Option Addr) (n c : Nat) (hn : n ≤ 4096) (w : World) :
    Calls Tryd.prog 76 #[.agg #[.int .i64 17, x1, x2, x3, x4, x5, x6, .slice a n c]] w (RolesOut 17 n w) := by
  have hv := NV.new w (.int .i64 17) x1 x2 x3 x4 x5 x6 (.slice a n c)
  have hal := bal w (.cells #[.int .i64 17, x1, x2, x3, x4, x5, x6, .slice a n c] 63)
  have HAL := Lib.hid hal
  obtain ⟨d0, -, -, -, -, -, -, d7⟩ := hv.all
  have HV := Lib.hid hv
  clear hv hal
  have HA := Lib.hid fun (role : Int) (k : Nat) (hk : k ≤ 5000) (w' : World) => all_any role k hk w'
  have hlt : (n : Int) ≤ 4096 := by omega
  go_enter Tryd.func76, Tryd.ntmps76
  go_wp2_with fail
  refine (HA.out 0 2 (by decide) _).mono ?_
  rintro e w1 ⟨v, rfl, ho, hB⟩
  have hB1 := HAL.out.trans (hB.mono HAL.out.size)
  have hi := ho.ints
  obtain ⟨a1, c1, rfl⟩ := ho.shape
  have HI := Lib.hid (And.intro hi hB1)
  clear hi hB1 ho hB
  have e7 := d7
  clear d0 d7
  go_wp2_with fail
  go_ret2
  exact rolesOut_of (by first | rfl | exact (natBeq n 2).symm) rfl HI.out.1 HI.out.2

set_option maxRecDepth 100000 in
set_option maxHeartbeats 1000000 in
theorem roles_18 (x1 x2 x3 x4 x5 x6 : Value) (a : Option Addr) (n c : Nat) (hn : n ≤ 4096) (w : World) :
    Calls Tryd.prog 76 #[.agg #[.int .i64 18, x1, x2, x3, x4, x5, x6, .slice a n c]] w (RolesOut 18 n w) := by
  have hv := NV.new w (.int .i64 18) x1 x2 x3 x4 x5 x6 (.slice a n c)
  have hal := bal w (.cells #[.int .i64 18, x1, x2, x3, x4, x5, x6, .slice a n c] 63)
  have HAL := Lib.hid hal
  obtain ⟨d0, -, -, -, -, -, -, d7⟩ := hv.all
  have HV := Lib.hid hv
  clear hv hal
  have HA := Lib.hid fun (role : Int) (k : Nat) (hk : k ≤ 5000) (w' : World) => all_any role k hk w'
  have hlt : (n : Int) ≤ 4096 := by omega
  go_enter Tryd.func76, Tryd.ntmps76
  go_wp2_with fail
  refine (HA.out 0 2 (by decide) _).mono ?_
  rintro e w1 ⟨v, rfl, ho, hB⟩
  have hB1 := HAL.out.trans (hB.mono HAL.out.size)
  have hi := ho.ints
  obtain ⟨a1, c1, rfl⟩ := ho.shape
  have HI := Lib.hid (And.intro hi hB1)
  clear hi hB1 ho hB
  have e7 := d7
  clear d0 d7
  go_wp2_with fail
  go_ret2
  exact rolesOut_of (by first | rfl | exact (natBeq n 2).symm) rfl HI.out.1 HI.out.2

set_option maxRecDepth 100000 in
set_option maxHeartbeats 1000000 in
theorem roles_20 (x1 x2 x3 x4 x5 x6 : Value) (a : Option Addr) (n c : Nat) (hn : n ≤ 4096) (w : World) :
    Calls Tryd.prog 76 #[.agg #[.int .i64 20, x1, x2, x3, x4, x5, x6, .slice a n c]] w (RolesOut 20 n w) := by
  have hv := NV.new w (.int .i64 20) x1 x2 x3 x4 x5 x6 (.slice a n c)
  have hal := bal w (.cells #[.int .i64 20, x1, x2, x3, x4, x5, x6, .slice a n c] 63)
  have HAL := Lib.hid hal
  obtain ⟨d0, -, -, -, -, -, -, d7⟩ := hv.all
  have HV := Lib.hid hv
  clear hv hal
  have HA := Lib.hid fun (role : Int) (k : Nat) (hk : k ≤ 5000) (w' : World) => all_any role k hk w'
  have hlt : (n : Int) ≤ 4096 := by omega
  go_enter Tryd.func76, Tryd.ntmps76
  go_wp2_with fail
  refine (HA.out 0 2 (by decide) _).mono ?_
  rintro e w1 ⟨v, rfl, ho, hB⟩
  have hB1 := HAL.out.trans (hB.mono HAL.out.size)
  have hi := ho.ints
  obtain ⟨a1, c1, rfl⟩ := ho.shape
  have HI := Lib.hid (And.intro hi hB1)
  clear hi hB1 ho hB
  have e7 := d7
  clear d0 d7
  go_wp2_with fail
  go_ret2
  exact rolesOut_of (by first | rfl | exact (natBeq n 2).symm) rfl HI.out.1 HI.out.2

set_option maxRecDepth 100000 in
set_option maxHeartbeats 1000000 in
theorem roles_22 (x1 x2 x3 x4 x5 x6 : Value) (a : Option Addr) (n c : Nat) (hn : n ≤ 4096) (w : World) :
    Calls Tryd.prog 76 #[.agg #[.int .i64 22, x1, x2, x3, x4, x5, x6, .slice a n c]] w (RolesOut 22 n w) := by
  have hv := NV.new w (.int .i64 22) x1 x2 x3 x4 x5 x6 (.slice a n c)
  have hal := bal w (.cells #[.int .i64 22, x1, x2, x3, x4, x5, x6, .slice a n c] 63)
  have HAL := Lib.hid hal
  obtain ⟨d0, -, -, -, -, -, -, d7⟩ := hv.all
  have HV := Lib.hid hv
  clear hv hal
  have HA := Lib.hid fun (role : Int) (k : Nat) (hk : k ≤ 5000) (w' : World) => all_any role k hk w'
  have hlt : (n : Int) ≤ 4096 := by omega
  go_enter Tryd.func76, Tryd.ntmps76
  go_wp2_with fail
  refine (HA.out 0 2 (by decide) _).mono ?_
  rintro e w1 ⟨v, rfl, ho, hB⟩
  have hB1 := HAL.out.trans (hB.mono HAL.out.size)
  have hi := ho.ints
  obtain ⟨a1, c1, rfl⟩ := ho.shape
  have HI := Lib.hid (And.intro hi hB1)
  clear hi hB1 ho hB
  have e7 := d7
  clear d0 d7
  go_wp2_with fail
  go_ret2
  exact rolesOut_of (by first | rfl | exact (natBeq n 2).symm) rfl HI.out.1 HI.out.2

set_option maxRecDepth 100000 in
set_option maxHeartbeats 1000000 in
theorem roles_19 (x1 x2 x3 x4 x5 x6 : Value) (a : Option Addr) (n c : Nat) (hn : n ≤ 4096) (w : World) :
    Calls Tryd.prog 76 #[.agg #[.int .i64 19, x1, x2, x3, x4, x5, x6, .slice a n c]] w (RolesOut 19 n w) := by
  have hv := NV.new w (.int .i64 19) x1 x2 x3 x4 x5 x6 (.slice a n c)
  have hal := bal w (.cells #[.int .i64 19, x1, x2, x3, x4, x5, x6, .slice a n c] 63)
  have HAL := Lib.hid hal
  obtain ⟨d0, -, -, -, -, -, -, d7⟩ := hv.all
  have HV := Lib.hid hv
  clear hv hal
  have HA := Lib.hid fun (role : Int) (k : Nat) (hk : k ≤ 5000) (w' : World) => all_any role k hk w'
  have hlt : (n : Int) ≤ 4096 := by omega
  go_enter Tryd.func76, Tryd.ntmps76
  go_wp2_with fail
  refine (HA.out 0 3 (by decide) _).mono ?_
  rintro e w1 ⟨v, rfl, ho, hB⟩
  have hB1 := HAL.out.trans (hB.mono HAL.out.size)
  have hi := ho.ints
  obtain ⟨a1, c1, rfl⟩ := ho.shape
  have HI := Lib.hid (And.intro hi hB1)
  clear hi hB1 ho hB
  have e7 := d7
  clear d0 d7
  go_wp2_with fail
  go_ret2
  exact rolesOut_of (by first | rfl | exact (natBeq n 3).symm) rfl HI.out.1 HI.out.2

set_option maxRecDepth 100000 in
set_option maxHeartbeats 1000000 in
theorem roles_21 (x1 x2 x3 x4 x5 x6 : Value) (a : Option Addr) (n c : Nat) (hn : n ≤ 4096) (w : World) :
    Calls Tryd.prog 76 #[.agg #[.int .i64 21, x1, x2, x3, x4, x5, x6, .slice a n c]] w (RolesOut 21 n w) := by
  have hv := NV.new w (.int .i64 21) x1 x2 x3 x4 x5 x6 (.slice a n c)
  have hal := bal w (.cells #[.int .i64 21, x1, x2, x3, x4, x5, x6, .slice a n c] 63)
  have HAL := Lib.hid hal
  obtain ⟨d0, -, -, -, -, -, -, d7⟩ := hv.all
  have HV := Lib.hid hv
  clear hv hal
  have HA := Lib.hid fun (role : Int) (k : Nat) (hk : k ≤ 5000) (w' : World) => all_any role k hk w'
  have hlt : (n : Int) ≤ 4096 := by omega
  go_enter Tryd.func76, Tryd.ntmps76
  go_wp2_with fail
  refine (HA.out 0 3 (by decide) _).mono ?_
  rintro e w1 ⟨v, rfl, ho, hB⟩
  have hB1 := HAL.out.trans (hB.mono HAL.out.size)
  have hi := ho.ints
  obtain ⟨a1, c1, rfl⟩ := ho.shape
  have HI := Lib.hid (And.intro hi hB1)
  clear hi hB1 ho hB
  have e7 := d7
  clear d0 d7
  go_wp2_with fail
  go_ret2
  exact rolesOut_of (by first | rfl | exact (natBeq n 3).symm) rfl HI.out.1 HI.out.2

set_option maxRecDepth 100000 in
set_option maxHeartbeats 1000000 in
theorem roles_24 (x1 x2 x3 x4 x5 x6 : Value) (a : Option Addr) (n c : Nat) (hn : n ≤ 4096) (w : World) :
    Calls Tryd.prog 76 #[.agg #[.int .i64 24, x1, x2, x3, x4, x5, x6, .slice a n c]] w (RolesOut 24 n w) := by
  have hv := NV.new w (.int .i64 24) x1 x2 x3 x4 x5 x6 (.slice a n c)
  have hal := bal w (.cells #[.int .i64 24, x1, x2, x3, x4, x5, x6, .slice a n c] 63)
  have HAL := Lib.hid hal
  obtain ⟨d0, -, -, -, -, -, -, d7⟩ := hv.all
  have HV := Lib.hid hv
  clear hv hal
  have HA := Lib.hid fun (role : Int) (k : Nat) (hk : k ≤ 5000) (w' : World) => all_any role k hk w'
  have hlt : (n : Int) ≤ 4096 := by omega
  go_enter Tryd.func76, Tryd.ntmps76
  go_wp2_with fail
  refine (HA.out 1 n (by omega) _).mono ?_
  rintro e w1 ⟨v, rfl, ho, hB⟩
  have hB1 := HAL.out.trans (hB.mono HAL.out.size)
  have hi := ho.ints
  obtain ⟨a1, c1, rfl⟩ := ho.shape
  generalize hL : List.replicate n (1 : Int) = L at hi
  have HI := Lib.hid (And.intro hi (And.intro hB1 hL))
  clear hi hB1 ho hB hL
  clear d0
  go_wp2_with fail
  go_ret2
  exact rolesOut_of rfl (l := L) HI.out.2.2 HI.out.1 HI.out.2.1

set_option maxRecDepth 100000 in
set_option maxHeartbeats 1000000 in
theorem roles_25 (x1 x2 x3 x4 x5 x6 : Value) (a : Option Addr) (n c : Nat) (hn : n ≤ 4096) (w : World) :
    Calls Tryd.prog 76 #[.agg #[.int .i64 25, x1, x2, x3, x4, x5, x6, .slice a n c]] w (RolesOut 25 n w) := by
  have hv := NV.new w (.int .i64 25) x1 x2 x3 x4 x5 x6 (.slice a n c)
  have hal := bal w (.cells #[.int .i64 25, x1, x2, x3, x4, x5, x6, .slice a n c] 63)
  have HAL := Lib.hid hal
  obtain ⟨d0, -, -, -, -, -, -, d7⟩ := hv.all
  have HV := Lib.hid hv
  clear hv hal
  have HA := Lib.hid fun (role : Int) (k : Nat) (hk : k ≤ 5000) (w' : World) => all_any role k hk w'
  have hlt : (n : Int) ≤ 4096 := by omega
  go_enter Tryd.func76, Tryd.ntmps76
  go_wp2_with fail
  refine (HA.out 1 n (by omega) _).mono ?_
  rintro e w1 ⟨v, rfl, ho, hB⟩
  have hB1 := HAL.out.trans (hB.mono HAL.out.size)
  have hi := ho.ints
  obtain ⟨a1, c1, rfl⟩ := ho.shape
  generalize hL : List.replicate n (1 : Int) = L at hi
  have HI := Lib.hid (And.intro hi (And.intro hB1 hL))
  clear hi hB1 ho hB hL
  clear d0
  go_wp2_with fail
  go_ret2
  exact rolesOut_of rfl (l := L) HI.out.2.2 HI.out.1 HI.out.2.1

set_option maxRecDepth 100000 in
set_option maxHeartbeats 1000000 in
theorem roles_52 (x1 x2 x3 x4 x5 x6 : Value) (a : Option Addr) (n c : Nat) (hn : n ≤ 4096) (w : World) :
    Calls Tryd.prog 76 #[.agg #[.int .i64 52, x1, x2, x3, x4, x5, x6, .slice a n c]] w (RolesOut 52 n w) := by
  have hv := NV.new w (.int .i64 52) x1 x2 x3 x4 x5 x6 (.slice a n c)
  have hal := bal w (.cells #[.int .i64 52, x1, x2, x3, x4, x5, x6, .slice a n c] 63)
  have HAL := Lib.hid hal
  obtain ⟨d0, -, -, -, -, -, -, d7⟩ := hv.all
  have HV := Lib.hid hv
  clear hv hal
  have HA := Lib.hid fun (role : Int) (k : Nat) (hk : k ≤ 5000) (w' : World) => all_any role k hk w'
  have hlt : (n : Int) ≤ 4096 := by omega
  go_enter Tryd.func76, Tryd.ntmps76
  go_wp2_with fail
  refine (HA.out 7 n (by omega) _).mono ?_
  rintro e w1 ⟨v, rfl, ho, hB⟩
  have hB1 := HAL.out.trans (hB.mono HAL.out.size)
  have hi := ho.ints
  obtain ⟨a1, c1, rfl⟩ := ho.shape
  generalize hL : List.replicate n (7 : Int) = L at hi
  have HI := Lib.hid (And.intro hi (And.intro hB1 hL))
  clear hi hB1 ho hB hL
  clear d0
  go_wp2_with fail
  go_ret2
  exact rolesOut_of rfl (l := L) HI.out.2.2 HI.out.1 HI.out.2.1

set_option maxRecDepth 100000 in
set_option maxHeartbeats 1000000 in
theorem roles_47 (x1 x2 x3 x4 x5 x6 : Value) (a : Option Addr) (n c : Nat) (hn : n ≤ 4096) (w : World) :
    Calls Tryd.prog 76 #[.agg #[.int .i64 47, x1, x2, x3, x4, x5, x6, .slice a n c]] w (RolesOut 47 n w) := by
  have hv := NV.new w (.int .i64 47) x1 x2 x3 x4 x5 x6 (.slice a n c)
  have hal := bal w (.cells #[.int .i64 47, x1, x2, x3, x4, x5, x6, .slice a n c] 63)
  have HAL := Lib.hid hal
  obtain ⟨d0, -, -, -, -, -, -, d7⟩ := hv.all
  have HV := Lib.hid hv
  clear hv hal
  have HA := Lib.hid fun (role : Int) (k : Nat) (hk : k ≤ 5000) (w' : World) => all_any role k hk w'
  have hlt : (n : Int) ≤ 4096 := by omega
  go_enter Tryd.func76, Tryd.ntmps76
  go_wp2_with fail
  refine (HA.out 0 n (by omega) _).mono ?_
  rintro e w1 ⟨v, rfl, ho, hB⟩
  have hB1 := HAL.out.trans (hB.mono HAL.out.size)
  have hi := ho.ints
  obtain ⟨a1, c1, rfl⟩ := ho.shape
  generalize hL : List.replicate n (0 : Int) = L at hi
  have HI := Lib.hid (And.intro hi (And.intro hB1 hL))
  clear hi hB1 ho hB hL
  clear d0
  go_wp2_with fail
  go_ret2
  exact rolesOut_of (by show decide (n ≤ 1) = decide ((n : Int) ≤ 1); rw [Bool.eq_iff_iff]; simp; omega) (l := L) HI.out.2.2 HI.out.1 HI.out.2.1
end Go.Proofs.YtmkghfkikclodaaDoor
namespace Go.Proofs.YtmkghfkikclodaaDoor
open Go.RowKit

theorem expr_any (op : Int) (w : World) (ho1 : -9223372036854775808 ≤ op) (ho2 : op ≤ 9223372036854775807) : Calls Tryd.prog 70 #[.int .i64 op] w (BoolOut w (isExprB op)) := by
  go_enter Tryd.func70, Tryd.ntmps70
  go_wp2_with fail
  all_goals
    go_ret
    exact ⟨ret_bool (by rw [Bool.eq_iff_iff]; simp [isExprB]; try omega), Below.refl _ _⟩
def isStmtB (op : Int) : Bool := decide (40 ≤ op) && (decide (op ≤ 51) && !(op == 50))
theorem stmt_any (op : Int) (w : World) (ho1 : -9223372036854775808 ≤ op) (ho2 : op ≤ 9223372036854775807) : Calls Tryd.prog 71 #[.int .i64 op] w (BoolOut w (isStmtB op)) := by
  go_enter Tryd.func71, Tryd.ntmps71
  go_wp2_with fail
  all_goals
    go_ret
    exact ⟨ret_bool (by rw [Bool.eq_iff_iff]; simp [isStmtB]; try omega), Below.refl _ _⟩

def standsR (op pl : Int) : Bool :=
  if pl = 1 then isExprB op
  else if pl = 2 then isExprB op || op == 26
  else if pl = 3 then op == 2 || (op == 22 || op == 20)
  else if pl = 4 then op == 2
  else if pl = 5 then op == 2 || op == 26
  else if pl = 6 then op == 25
  else if pl = 7 then op == 52
  else if pl = 8 then op == 50
  else isStmtB op

set_option maxRecDepth 100000 in
set_option maxHeartbeats 1000000 in
theorem stands_ref (op pl : Int) (h0 : 1 ≤ pl) (h1 : pl ≤ 9) (w : World) (ho1 : -9223372036854775808 ≤ op) (ho2 : op ≤ 9223372036854775807) :
    Calls Tryd.prog 53 #[.int .i64 op, .int .i64 pl] w (BoolOut w (standsR op pl)) := by
  have HEX := Lib.hid fun (w' : World) => expr_any op w' ho1 ho2
  have HST := Lib.hid fun (w' : World) => stmt_any op w' ho1 ho2
  have hr : pl = 1 ∨ pl = 2 ∨ pl = 3 ∨ pl = 4 ∨ pl = 5 ∨ pl = 6 ∨ pl = 7 ∨ pl = 8 ∨ pl = 9 := by omega
  clear h0 h1
  rcases hr with rfl | rfl | rfl | rfl | rfl | rfl | rfl | rfl | rfl
  · rw [show standsR op 1 = isExprB op from rfl]
    generalize isExprB op = b at HEX ⊢
    go_enter Tryd.func53, Tryd.ntmps53
    go_wp2_with fail
    refine (HEX.out _).mono ?_
    rintro e w1 ⟨rfl, hB⟩
    go_wp2_with fail
    go_ret
    exact ⟨rfl, hB⟩
  · rw [show standsR op 2 = (isExprB op || op == 26) from rfl]
    generalize isExprB op = b at HEX ⊢
    cases b
    all_goals
      go_enter Tryd.func53, Tryd.ntmps53
      go_wp2_with fail
      refine (HEX.out _).mono ?_
      rintro e w1 ⟨rfl, hB⟩
      go_wp2_with fail
      go_ret
      exact ⟨rfl, hB⟩
  · go_enter Tryd.func53, Tryd.ntmps53
    go_wp2_with fail
    all_goals
      go_ret
      exact ⟨ret_bool (by rw [Bool.eq_iff_iff]; simp [standsR]; try omega), Below.refl _ _⟩
  · go_enter Tryd.func53, Tryd.ntmps53
    go_wp2_with fail
    all_goals
      go_ret
      exact ⟨ret_bool (by rw [Bool.eq_iff_iff]; simp [standsR]; try omega), Below.refl _ _⟩
  · go_enter Tryd.func53, Tryd.ntmps53
    go_wp2_with fail
    all_goals
      go_ret
      exact ⟨ret_bool (by rw [Bool.eq_iff_iff]; simp [standsR]; try omega), Below.refl _ _⟩
  · go_enter Tryd.func53, Tryd.ntmps53
    go_wp2_with fail
    all_goals
      go_ret
      exact ⟨ret_bool (by rw [Bool.eq_iff_iff]; simp [standsR]; try omega), Below.refl _ _⟩
  · go_enter Tryd.func53, Tryd.ntmps53
    go_wp2_with fail
    all_goals
      go_ret
      exact ⟨ret_bool (by rw [Bool.eq_iff_iff]; simp [standsR]; try omega), Below.refl _ _⟩
  · go_enter Tryd.func53, Tryd.ntmps53
    go_wp2_with fail
    all_goals
      go_ret
      exact ⟨ret_bool (by rw [Bool.eq_iff_iff]; simp [standsR]; try omega), Below.refl _ _⟩
  · rw [show standsR op 9 = isStmtB op from rfl]
    generalize isStmtB op = b at HST ⊢
    go_enter Tryd.func53, Tryd.ntmps53
    go_wp2_with fail
    refine (HST.out _).mono ?_
    rintro e w1 ⟨rfl, hB⟩
    go_wp2_with fail
    go_ret
    exact ⟨rfl, hB⟩

def countsB (op : Int) (k : Nat) : Bool :=
  if op = 1 ∨ op = 2 ∨ op = 45 ∨ op = 46 then k == 0
  else if op = 3 ∨ op = 4 ∨ op = 26 ∨ op = 40 then k == 1
  else if op = 19 ∨ op = 21 ∨ op = 43 then k == 3
  else if op = 23 ∨ op = 28 ∨ op = 41 ∨ op = 49 then decide (2 ≤ k)
  else if op = 24 ∨ op = 25 ∨ op = 52 then true
  else if op = 29 then k == 2 || k == 3
  else if op = 47 then decide (k ≤ 1)
  else k == 2

set_option maxRecDepth 100000 in
set_option maxHeartbeats 1000000 in
theorem counts_ref (op : Int) (k : Nat) (hk : k ≤ 4096) (w : World) (ho1 : -9223372036854775808 ≤ op) (ho2 : op ≤ 9223372036854775807) :
    Calls Tryd.prog 54 #[.int .i64 op, .int .i64 k] w (BoolOut w (countsB op k)) := by
  have hk' : (k : Int) ≤ 4096 := by omega
  have hk0 : (0 : Int) ≤ (k : Int) := by omega
  go_enter Tryd.func54, Tryd.ntmps54
  go_wp2_with fail
  all_goals
    go_ret
    try simp only [beq_iff_eq, bne_iff_ne, bne_eq_false_iff_eq, beq_eq_false_iff_ne, ne_eq, Bool.not_eq_true, decide_eq_true_eq, decide_eq_false_iff_not] at *
    exact ⟨ret_bool (by rw [Bool.eq_iff_iff]; unfold countsB; (repeat' split) <;> (try simp) <;> (try omega)), Below.refl _ _⟩
end Go.Proofs.YtmkghfkikclodaaDoor
namespace Go.Proofs.YtmkghfkikclodaaDoor
open Go.RowKit

/-- what may stand in place i of a node of k nodes that stands as own -/
def placeI (op own : Int) (i k : Nat) : Int :=
  if op = 23 then (if 2 ≤ i then 2 else 1)
  else if op = 24 then 2
  else if op = 25 then (if own = 6 then 1 else 2)
  else if op = 26 then (if own = 5 then 4 else 1)
  else if op = 20 then (if own = 3 ∧ i = 0 then 3 else 1)
  else if op = 27 then (if i = 0 then 3 else 1)
  else if op = 28 then (if i + 2 = k then 5 else if i + 2 < k then 4 else 1)
  else if op = 29 then (if i = 1 then 6 else 1)
  else if op = 50 then (if i = 0 then 6 else 7)
  else if op = 41 then (if i % 2 = 1 ∨ i + 1 = k then 7 else 1)
  else if op = 42 ∨ op = 43 ∨ op = 44 ∨ op = 48 then (if i + 1 = k then 7 else 1)
  else if op = 49 then (if 0 < i then 8 else 7)
  else if op = 51 then 7
  else if op = 52 then 9
  else 1

theorem ret_int {a b : Int} (h : a = b) : Ending.returned (.int .i64 a) = .returned (.int .i64 b) := by rw [h]

set_option maxRecDepth 100000 in
set_option maxHeartbeats 12000000 in
theorem place_ref (op own : Int) (i k : Nat) (hi : i < k) (hk : k ≤ 4096) (x1 x2 x3 x4 x5 x6 : Value) (a : Option Addr) (c : Nat) (w : World) (ho1 : -9223372036854775808 ≤ op) (ho2 : op ≤ 9223372036854775807) :
    Calls Tryd.prog 56 #[.agg #[.int .i64 op, x1, x2, x3, x4, x5, x6, .slice a k c], .int .i64 own, .int .i64 i] w (IntOut w (placeI op own i k)) := by
  have hk' : (k : Int) ≤ 4096 := by omega
  have hk0 : (0 : Int) ≤ (k : Int) := by omega
  have hi0 : (0 : Int) ≤ (i : Int) := by omega
  have hi1 : (i : Int) < (k : Int) := by omega
  have hr : (i : Int).tmod 2 = ((i % 2 : Nat) : Int) := by rw [Int.tmod_eq_emod_of_nonneg (by omega)]; omega
  have hv := NV.new w (.int .i64 op) x1 x2 x3 x4 x5 x6 (.slice a k c)
  have hal := bal w (.cells #[.int .i64 op, x1, x2, x3, x4, x5, x6, .slice a k c] 63)
  have HAL := Lib.hid hal
  obtain ⟨d0, -, -, -, -, -, -, d7⟩ := hv.all
  clear hv hal
  go_enter Tryd.func56, Tryd.ntmps56
  go_wp2_with fail
  all_goals
    go_ret
    try simp only [beq_iff_eq, bne_iff_ne, bne_eq_false_iff_eq, beq_eq_false_iff_ne, ne_eq, Bool.not_eq_true, decide_eq_true_eq, decide_eq_false_iff_not] at *
    exact ⟨ret_int (by unfold placeI; (repeat' split) <;> (try rfl) <;> (try omega)), HAL.out⟩
end Go.Proofs.YtmkghfkikclodaaDoor
