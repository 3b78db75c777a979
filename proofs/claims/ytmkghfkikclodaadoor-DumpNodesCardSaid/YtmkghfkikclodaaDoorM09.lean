/- Texts in a row that the call itself makes. Append where there is room, as a step of a region that draws; texts. Rising: texts, each once: the same texts. -/
import Derived.Test.YtmkghfkikclodaaDoorM08
import Derived.Laws.OwnMore
import Derived.Laws.AppendOwnNone
import Derived.OwnWalk
import Derived.Deep.AppendLies
import Derived.BigQuiet
set_option linter.unusedVariables false
set_option linter.unusedSimpArgs false
namespace Go.Proofs.YtmkghfkikclodaaDoor
open Go.RowKit

def strV (z : ByteArray) : Value := .string z
/-- the slice value v, made by the call itself, holds the texts l -/
def OwnT (w : World) (base : Nat) (v : Value) (l : List ByteArray) : Prop := w.ownsRow base 9 1 v l.length (l.map strV)
/-- the slice v holds the texts l -/
def TextsO (w : World) (v : Value) (l : List ByteArray) : Prop := ∃ a c, v = .slice a l.length c ∧ (l = [] ∨ ∃ ad, a = some ad ∧ ∀ j (h : j < l.length), w.cell? (ad.add j) = some (strV l[j]))
theorem OwnT.ints {w : World} {base : Nat} {v : Value} {l : List ByteArray} (h : OwnT w base v l) : TextsO w v l := by
  rcases h.2 with ⟨rfl, h0⟩ | ⟨g, cap, cur, rfl, hb, hg, hrest⟩
  · obtain rfl : l = [] := List.eq_nil_of_length_eq_zero h0
    exact ⟨none, 0, rfl, .inl rfl⟩
  · refine ⟨_, _, rfl, .inr ⟨_, rfl, fun j hj => ?_⟩⟩
    exact World.ownsRow.cells h (g := g) rfl j (strV l[j]) (by simp [hj])
theorem OwnT.shape {w : World} {base : Nat} {v : Value} {l : List ByteArray} (h : OwnT w base v l) : ∃ a c, v = .slice a l.length c := by
  rcases h.2 with ⟨rfl, h0⟩ | ⟨g, cap, cur, rfl, _⟩
  · rw [h0]; exact ⟨_, _, rfl⟩
  · exact ⟨_, _, rfl⟩
theorem TextsO.below {w w' : World} {v : Value} {l : List ByteArray} (h : TextsO w v l) (hb : Below w.heap.size w w') : TextsO w' v l := by
  obtain ⟨a, c, he, h1⟩ := h
  refine ⟨a, c, he, ?_⟩
  rcases h1 with h1 | ⟨ad, rfl, h2⟩
  · exact .inl h1
  · exact .inr ⟨ad, rfl, fun j hj => (hb.cell (cell_lt (h2 j hj))).trans (h2 j hj)⟩
theorem OwnT.below {w w' : World} {base : Nat} {v : Value} {l : List ByteArray} (h : OwnT w base v l) (hb : Below w.heap.size w w') : OwnT w' base v l := by
  refine ⟨h.1, ?_⟩
  rcases h.2 with h0 | ⟨g, cap, cur, he, hg, hgg, rest⟩
  · exact .inl h0
  · exact .inr ⟨g, cap, cur, he, hg, by rw [hb.block g (Array.getElem?_eq_some_iff.1 hgg).1]; exact hgg, rest⟩
theorem below_grownT {B base : Nat} {a w w' : World} {v : Value} {l : List ByteArray} (hb : Below B a w) (ho : OwnT w base v l) (hg : w.grownBy w' v.ownBlock) (hB : B ≤ base) (hB2 : B ≤ w.heap.size) : Below B a w' :=
  hb.grown hg hB2 (fun k hk => Nat.le_trans hB (World.ownsRow.lt ho k hk).1)

theorem info9 : (Tryd.prog.info? 9).map (fun i => (i.zero, i.size, i.bytes)) = some (some (.string ⟨#[]⟩), 1, 16) := by kernel_rfl

/-- append of what such a slice holds -/
theorem append_texts {w : World} {ops : Array Oper} {rest : List Oper} {o : Oper} {a : Act} {Q : Exit → Act → World → Prop} (hgd : o.guard = none) (sl x : Operand)
    (ho : o.op = .call { callee := .builtin .append, args := #[sl, x], argTypes := #[105, 105] })
    (base : Nat) (v : Value) (l : List ByteArray) (hs : a.eval sl = v) (hown : OwnT w base v l) (ad : Addr) (c : Nat) (m : List ByteArray) (n : Nat) (hn : n = m.length) (hx : a.eval x = .slice (some ad) n c)
    (hc : ∀ j (hj : j < m.length), w.cell? (ad.add j) = some (strV m[j])) (hlen : l.length + m.length ≤ 1000000) (hbase : base ≤ w.heap.size)
    (h : ∀ v' w', OwnT w' base v' (l ++ m) → w.grownBy w' v.ownBlock → wpList Tryd.prog ops Q rest (a.put o.dst v') w') : wpList Tryd.prog ops Q (o :: rest) a w := by
  subst hn
  obtain ⟨i, hi, hz0, hz1, hz2⟩ := info_parts info9
  refine wpList_append_own w hgd sl x 105 ho base 9 i (.string ⟨#[]⟩) 1 16 Tryd.underlying105 hi hz0 hz1 hz2 rfl (by decide) v l.length _ hs hown ad m.length c (m.map strV) hx (by simp) ?_ ?_ (by unfold maxLen; omega) (by omega) hbase ?_
  · intro j u hu
    simp only [List.getElem?_map, Option.map_eq_some_iff] at hu
    obtain ⟨b, hb, rfl⟩ := hu
    obtain ⟨hj, rfl⟩ := List.getElem?_eq_some_iff.1 hb
    exact hc j hj
  · intro u hu
    simp only [List.mem_map] at hu
    obtain ⟨b, _, rfl⟩ := hu
    rfl
  · intro v' w' h1 h2 _
    refine h v' w' ?_ h2
    unfold OwnT
    rw [List.length_append, List.map_append]
    exact h1


theorem one_text (w : World) (z : ByteArray) (t : TypeId) (g : Nat) (hg : g = w.heap.size) : ∀ j (hj : j < [z].length), (w.alloc (.cells #[.string z] t)).cell? ((⟨g, 0, none⟩ : Addr).add j) = some (strV [z][j]) := by
  subst hg
  intro j hj
  obtain rfl : j = 0 := by simpa using hj
  rw [show (⟨w.heap.size, 0, none⟩ : Addr).add 0 = ⟨w.heap.size, 0, none⟩ from rfl, World.cell?_alloc_mark]
  rfl

/-- append of texts that lie anywhere, none too -/
theorem append_textsO {w : World} {ops : Array Oper} {rest : List Oper} {o : Oper} {a : Act} {Q : Exit → Act → World → Prop} (hgd : o.guard = none) (sl x : Operand)
    (ho : o.op = .call { callee := .builtin .append, args := #[sl, x], argTypes := #[105, 105] })
    (base : Nat) (v : Value) (l : List ByteArray) (hs : a.eval sl = v) (hown : OwnT w base v l) (m : List ByteArray) (ao : Option Addr) (n c : Nat) (hn : n = m.length) (hx : a.eval x = .slice ao n c)
    (hc : m = [] ∧ ao = none ∧ c = 0 ∨ ∃ ad, ao = some ad ∧ ∀ j (hj : j < m.length), w.cell? (ad.add j) = some (strV m[j])) (hlen : l.length + m.length ≤ 1000000) (hbase : base ≤ w.heap.size)
    (h : ∀ v' w', OwnT w' base v' (l ++ m) → w.grownBy w' v.ownBlock → wpList Tryd.prog ops Q rest (a.put o.dst v') w') : wpList Tryd.prog ops Q (o :: rest) a w := by
  rcases hc with ⟨rfl, rfl, rfl⟩ | ⟨ad, rfl, hc⟩
  · subst hn
    obtain ⟨i, hi, hz0, hz1, hz2⟩ := info_parts info9
    refine wpList_append_own_none hgd sl x 105 ho base 9 i 1 Tryd.underlying105 hi v l.length _ hs hown hx (h v w ?_ ?_)
    · rw [List.append_nil]; exact hown
    · exact ⟨rfl, rfl, rfl, Nat.le_refl _, fun _ _ _ => rfl⟩
  · exact append_texts hgd sl x ho base v l hs hown ad c m n hn hx hc hlen hbase h
end Go.Proofs.YtmkghfkikclodaaDoor
namespace Go.Proofs.YtmkghfkikclodaaDoor
open Go.RowKit

theorem step_texts_fits {ops : Array Oper} {o : Oper} {a : Act} {w : World} {K : Act → World → Prop} {Q : Exit → Act → World → Prop} {E : Prop} (s x : Operand) (hgd : o.guard = none)
    (ho : o.op = .call { callee := .builtin .append, args := #[s, x], argTypes := #[105, 105] }) (base g cap : Nat) (l : List ByteArray) (hs : a.eval s = .slice (some ⟨g, 0, none⟩) l.length cap) (hown : OwnT w base (.slice (some ⟨g, 0, none⟩) l.length cap) l)
    (m : List ByteArray) (ad : Addr) (n c : Nat) (hn : n = m.length) (hx : a.eval x = .slice (some ad) n c) (hc : ∀ j (hj : j < m.length), w.cell? (ad.add j) = some (strV m[j])) (hcap : l.length + m.length ≤ cap)
    (h : ∀ w', OwnT w' base (.slice (some ⟨g, 0, none⟩) (l.length + m.length) cap) (l ++ m) → w.grownBy w' (some g) → K (a.put o.dst (.slice (some ⟨g, 0, none⟩) (l.length + m.length) cap)) w') :
    if Region.wanted o (yielded ops a.tmps) = true then Oper.wp Tryd.prog o a w K Q else E := by
  have hw : Region.wanted o (yielded ops a.tmps) = true := by simp [Region.wanted, hgd]
  rw [if_pos hw]
  subst hn
  obtain ⟨i, hi, hz0, hz1, hz2⟩ := info_parts info9
  obtain ⟨w', hrun, r1, r2⟩ := run_append_fits (P := Tryd.prog) w base 105 o.type 9 i 1 Tryd.underlying105 hi hz1 g l.length cap (l.map strV) hown ad m.length c (m.map strV) (by simp) (by
    intro j u hu
    simp only [List.getElem?_map, Option.map_eq_some_iff] at hu
    obtain ⟨b, hb, rfl⟩ := hu
    obtain ⟨hj, rfl⟩ := List.getElem?_eq_some_iff.1 hb
    exact hc j hj) (by
    intro u hu
    simp only [List.mem_map] at hu
    obtain ⟨b, _, rfl⟩ := hu
    rfl) hcap
  unfold Oper.wp
  simp [execOp, ho, resolve, invoke, builtin, hs, hx, hrun, Result.andThen]
  refine h w' ?_ r2
  unfold OwnT
  rw [List.length_append, List.map_append]
  exact r1
end Go.Proofs.YtmkghfkikclodaaDoor
namespace Go.Proofs.YtmkghfkikclodaaDoor
open Go.RowKit

def RiseOut (ss : List ByteArray) (W : World) (e : Ending) (w' : World) : Prop := ∃ v ts, e = .returned v ∧ Texts w'.heap.size w' v ts ∧ (∀ s, amongB ts s = amongB ss s) ∧ ts.length ≤ ss.length ∧ Below W.heap.size W w'

theorem among_ins (ts : List ByteArray) (j : Nat) (x s : ByteArray) : amongB (ts.take j ++ [x] ++ ts.drop j) s = (amongB ts s || (x.toList == s.toList)) := by
  have h : amongB ts s = (amongB (ts.take j) s || amongB (ts.drop j) s) := by
    unfold amongB
    rw [← List.any_append, List.take_append_drop]
  rw [h]
  unfold amongB
  simp only [List.any_append, List.any_cons, List.any_nil, Bool.or_false]
  cases (ts.take j).any fun x => x.toList == s.toList <;> cases (x.toList == s.toList) <;> cases (ts.drop j).any fun x => x.toList == s.toList <;> rfl
theorem among_take (ss : List ByteArray) (k : Nat) (h : k < ss.length) (s : ByteArray) : amongB (ss.take (k + 1)) s = (amongB (ss.take k) s || (ss[k].toList == s.toList)) := by
  unfold amongB
  rw [List.take_add_one, List.getElem?_eq_getElem h, Option.toList_some, List.any_append, List.any_cons, List.any_nil, Bool.or_false]
theorem among_has (ts : List ByteArray) (j : Nat) (h : j < ts.length) (x s : ByteArray) (he : ts[j].toList = x.toList) : (amongB ts s || (x.toList == s.toList)) = amongB ts s := by
  cases hx : (x.toList == s.toList) with
  | false => simp
  | true =>
    have : amongB ts s = true := by
      unfold amongB
      rw [List.any_eq_true]
      exact ⟨ts[j], List.getElem_mem h, by rw [he]; exact hx⟩
    rw [this]; rfl

theorem addr_plain (b o j : Nat) : (⟨b, o, none⟩ : Addr).add j = ⟨b, o + j, none⟩ := by
  unfold Addr.add
  split <;> simp_all
theorem rise_rel {w wr : World} {ss ts T : List ByteArray} {k j : Nat} {x : ByteArray} {o i : Value} (hlt : k < ss.length) (htk : ts.length ≤ k) (hxs : x.size ≤ 9223372036854775807) (hat : ∀ s, amongB (ss.take (k + 1)) s = (amongB (ss.take k) s || (x.toList == s.toList)))
    (hF : (∀ s, amongB ts s = amongB (ss.take k) s) ∧ (∀ x ∈ ts, x.size ≤ 9223372036854775807)) (hO : OwnT wr w.heap.size o T) (hB : Below w.heap.size w wr) (hT : T = ts.take j ++ [x] ++ ts.drop j) (hi : i = .int .i64 ((k + 1 : Nat) : Int)) :
    ∃ (k : Nat) (ts : List ByteArray), k ≤ ss.length ∧ i = .int .i64 k ∧ OwnT wr w.heap.size o ts ∧ ts.length ≤ k ∧ Hid ((∀ s, amongB ts s = amongB (ss.take k) s) ∧ (∀ x ∈ ts, x.size ≤ 9223372036854775807)) ∧ Below w.heap.size w wr := by
  refine ⟨k + 1, T, by omega, hi, hO, ?_, Lib.hid ⟨fun s => ?_, fun y hy => ?_⟩, hB⟩
  · rw [hT]; simp only [List.length_append, List.length_take, List.length_drop, List.length_singleton]; omega
  · rw [hT, among_ins, hat, hF.1]
  · rw [hT] at hy
    simp only [List.mem_append, List.mem_singleton] at hy
    rcases hy with (hy | rfl) | hy
    · exact hF.2 y (List.mem_of_mem_take hy)
    · exact hxs
    · exact hF.2 y (List.mem_of_mem_drop hy)

theorem OwnT.drewN {w : World} {base : Nat} {v : Value} {l : List ByteArray} (h : OwnT w base v l) (n : Nat) : OwnT (w.drewN n) base v l := h
theorem rise_same {w wr : World} {ss ts : List ByteArray} {k : Nat} {x : ByteArray} {o i : Value} (hlt : k < ss.length) (htk : ts.length ≤ k) (hat : ∀ s, amongB (ss.take (k + 1)) s = (amongB (ss.take k) s || (x.toList == s.toList)))
    (hF : (∀ s, amongB ts s = amongB (ss.take k) s) ∧ (∀ x ∈ ts, x.size ≤ 9223372036854775807)) (hO : OwnT wr w.heap.size o ts) (hB : Below w.heap.size w wr) (hh : ∀ s, (amongB ts s || (x.toList == s.toList)) = amongB ts s) (hi : i = .int .i64 ((k + 1 : Nat) : Int)) :
    ∃ (k : Nat) (ts : List ByteArray), k ≤ ss.length ∧ i = .int .i64 k ∧ OwnT wr w.heap.size o ts ∧ ts.length ≤ k ∧ Hid ((∀ s, amongB ts s = amongB (ss.take k) s) ∧ (∀ x ∈ ts, x.size ≤ 9223372036854775807)) ∧ Below w.heap.size w wr := by
  refine ⟨k + 1, ts, by omega, hi, hO, by omega, Lib.hid ⟨fun s => ?_, hF.2⟩, hB⟩
  rw [hat, ← hF.1, hh]

set_option maxRecDepth 100000 in
set_option maxHeartbeats 4000000 in
theorem rising_any (v : Value) (ss : List ByteArray) (w : World) (h : Texts w.heap.size w v ss) (hl : ss.length ≤ 1000) (hs : ∀ x ∈ ss, x.size ≤ 9223372036854775807) : Calls Tryd.prog 80 #[v] w (RiseOut ss w) := by
  obtain ⟨a, c, rfl, hc⟩ := h
  have HC := Lib.hid hc
  have HS := Lib.hid hs
  clear hc hs
  go_enter Tryd.func80, Tryd.ntmps80
  go_wp2_with fail
  go_loopw [3, 4] (fun o i wr => ∃ (k : Nat) (ts : List ByteArray), k ≤ ss.length ∧ i = .int .i64 k ∧ OwnT wr w.heap.size o ts ∧ ts.length ≤ k ∧ Hid ((∀ s, amongB ts s = amongB (ss.take k) s) ∧ (∀ x ∈ ts, x.size ≤ 9223372036854775807)) ∧ Below w.heap.size w wr) (fun _ i _ => ss.length - (intOf i).toNat)
  case atStart => exact ⟨0, [], Nat.zero_le _, rfl, World.ownsRow_nil _ _ _ _, Nat.zero_le _, Lib.hid ⟨fun s => rfl, by simp⟩, Below.refl _ _⟩
  case round =>
    obtain ⟨k, ts, hk, rfl, hO, htk, hF, hB⟩ := hrel
    have hszr := hB.size
    by_cases hlt : k < ss.length
    · rcases HC.out with rfl | ⟨ad, rfl, hab, hcc⟩
      · simp at hlt
      have g0 := (hB.cell (by rw [add_block]; exact hab)).trans (hcc k hlt)
      have hxs := HS.out _ (List.getElem_mem hlt)
      have hat := among_take ss k hlt
      have HAT := Lib.hid hat
      clear hcc hat
      generalize ss[k] = x at g0 hxs HAT
      obtain ⟨a1, c1, rfl⟩ := hO.shape
      have HO := Lib.hid hO
      have HB := Lib.hid hB
      clear hO hB
      go_wp2_with fail
      go_loopw [5] (fun jv w2 => ∃ (j : Nat), j ≤ ts.length ∧ jv = .int .i64 j ∧ Below wr.heap.size wr w2) (fun jv _ => ts.length - (intOf jv).toNat)
      case atStart => exact ⟨0, Nat.zero_le _, rfl, Below.refl _ _⟩
      case round =>
        obtain ⟨j, hj, rfl, hB2⟩ := hrel
        by_cases hjl : j < ts.length
        · have hsz2 := hB2.size
          have g1 := (hB2.cell (cell_lt g0)).trans g0
          have hjd : decide ((j : Int) < (ts.length : Int)) = true := by simp; omega
          have hB02 := HB.out.trans (hB2.mono HB.out.size)
          have hO2 := HO.out.below hB2
          have hyx := hF.out.2 ts[j] (List.getElem_mem hjl)
          have hBA := Lib.hid fun (w' : World) => before_any ts[j] x w' hyx hxs
          have HAH := Lib.hid fun (s : ByteArray) (he : ts[j].toList = x.toList) => among_has ts j hjl x s he
          rcases hO2.2 with ⟨he, h0⟩ | ⟨g, cap, cur, he, hg, hgg, hrest⟩
          · omega
          injection he with he1 he2 he3
          subst he1 he3
          have hcl := World.ownsRow.cells hO2 (g := g) rfl
          have hlc : ts.length ≤ c1 := hrest.1
          have hcm : c1 ≤ maxLen := hrest.2.1
          have gj : wr.cell? ((⟨g, 0, none⟩ : Addr).add j) = some (.string ts[j]) := hcl j (strV ts[j]) (by simp [hjl])
          rw [addr_plain, Nat.zero_add] at gj
          have hcm2 : (c1 : Int) ≤ 9223372036854775807 := by unfold maxLen at hcm; omega
          have hlci : (ts.length : Int) ≤ (c1 : Int) := by omega
          have HO2 := Lib.hid (And.intro hO2 (And.intro hlc (And.intro hcm hB02)))
          have hB2s := Lib.hid hB2
          clear hB2 hB02 hrest hgg he2 hcl hO2
          generalize ts[j] = y at gj hBA HAH hyx
          generalize beforeB y x = r at hBA
          cases r with
          | true =>
            go_wp2_with fail
            go_quiet (exact Calls.quiet_of (hBA.out _))
            go_wp2_with fail
            go_roundw
            case rel => exact ⟨j + 1, by omega, by go_num, hB2s.out.drewN _⟩
            case measure => simp [intOf]; omega
          | false =>
            go_wp2_with fail
            go_quiet (exact Calls.quiet_of (hBA.out _))
            cases hyq : (y.toList == x.toList) with
            | true =>
              have hyx2 : y.toList = x.toList := by simpa using hyq
              have HAH2 := Lib.hid fun (s : ByteArray) => HAH.out s hyx2
              go_wp2_with fail
              go_quiet (fail)
              go_wp2_with fail
              go_roundw
              case rel => exact rise_same hlt htk HAT.out hF.out (HO2.out.1.drewN _) (HO2.out.2.2.2.drewN _) HAH2.out (by go_num)
              case measure => simp [intOf]; omega
            | false =>
              go_wp2_with fail
              go_quiet (fail)
              go_wp2_with fail
              generalize hw4 : World.drewN (World.drewN _ _) _ = w4
              have hB4 : Below w.heap.size w w4 := by rw [← hw4]; first | exact (HO2.out.2.2.2.drewN _).drewN _ | exact ((HO2.out.2.2.2.drewN _).drewN _).drewN _
              have g4 : w4.cell? (ad.add k) = some (Value.string x) := by rw [← hw4]; exact g1
              have hO4 : OwnT w4 w.heap.size (.slice (some ⟨g, 0, none⟩) ts.length c1) ts := by rw [← hw4]; exact HO2.out.1
              have hcl := trivial
              have hO2 := trivial
              obtain ⟨i9, hi, hz0, hz1, hz2⟩ := info_parts info9
              have HI9 := Lib.hid (And.intro hi (And.intro hz0 (And.intro hz1 hz2)))
              clear hi hz0 hz1 hz2
              have hji : (j : Int) ≤ (c1 : Int) := by omega
              have hji2 : (j : Int) ≤ (ts.length : Int) := by omega
              clear hw4 g1 g0 gj
              obtain ⟨w5, hr, ho5, hg5⟩ := run_make_own (P := Tryd.prog) w4.drew w.heap.size 105 9 i9 _ 1 Tryd.underlying105 HI9.out.1 HI9.out.2.1 HI9.out.2.2.1 .i64 .i64 (ts.length + 1) (by rw [HI9.out.2.2.2]; omega) (by unfold maxLen; omega) (by exact hB4.size)
              have hwr : ((ts.length + 1 : Nat) : Int) = IntKind.i64.wrap ((ts.length : Int) + 1) := by simp [IntKind.wrap, IntKind.bits, IntKind.signed]; omega
              rw [hwr] at hr
              have hB5 : Below w.heap.size w w5 := (Below.drew hB4).grown hg5 hB4.size (fun k hk => by cases hk)
              have ho5' : OwnT w5 w.heap.size (.slice (some ⟨w4.heap.size, 0, none⟩) 0 (ts.length + 1)) [] := ho5
              have HO5 := Lib.hid (And.intro ho5' hB5)
              have hk45 : Below w4.heap.size w4 w5 := (Below.drew (Below.refl _ _)).grown hg5 (Nat.le_refl _) (fun k hk => by cases hk)
              have HC4 := Lib.hid (show ∀ jj (hjj : jj < ts.length), w4.cell? ((⟨g, 0, none⟩ : Addr).add jj) = some (strV ts[jj]) from fun jj hjj => World.ownsRow.cells hO4 (g := g) rfl jj (strV ts[jj]) (by simp [hjj]))
              have hc5 := Lib.hid (show ∀ jj (hjj : jj < (ts.take j).length), w5.cell? ((⟨g, 0, none⟩ : Addr).add jj) = some (strV (ts.take j)[jj]) from fun jj hjj => by
                have h0 := HC4.out jj (by simp at hjj; omega)
                rw [List.getElem_take]
                exact (hk45.cell (cell_lt h0)).trans h0)
              have HK45 := Lib.hid hk45
              have HG4 := Lib.hid g4
              have htl : (ts.take j).length = j := by rw [List.length_take]; omega
              clear hk45 hB4 g4 hO4 ho5 ho5' hg5 hB5 hcl hO2
              go_region_law (refine step_texts_fits (.tmp 48) (.tmp 51) rfl rfl w.heap.size w4.heap.size (ts.length + 1) [] (by simp [Act.eval, Act.put]) (by exact HO5.out.1) (ts.take j) ⟨g, 0, none⟩ j c1 (by exact htl.symm) (by simp [Act.eval, Act.put]) (by exact hc5.out) (by simp <;> omega) ?_; intro w6 ho6 hg6)
              have hk46 : Below w4.heap.size w4 w6 := HK45.out.grown hg6 HK45.out.size (fun k hk => by injection hk with hk; omega)
              have hB6 := below_grownT HO5.out.2 HO5.out.1 hg6 (Nat.le_refl _) HO5.out.2.size
              rw [List.nil_append] at ho6
              simp only [htl, List.length_nil, Nat.zero_add] at ho6
              generalize hA : ts.take j = A at ho6 htl
              have g6 := (hk46.cell (cell_lt HG4.out)).trans HG4.out
              have HO6 := Lib.hid (And.intro ho6 (And.intro hB6 (And.intro hk46 (And.intro htl hA))))
              clear ho6 hg6 hk46 hB6 htl hA
              go_wp2_with (at_builtin; go_loud (refine append_texts rfl (.tmp 53) (.tmp 58) rfl w.heap.size _ A (by simp [Act.eval, Act.put]) (World.ownsRow.alloc HO6.out.1 _) _ 1 [x] 1 rfl rfl ?d1 ?d2 ?d3 ?_))
              case d1 => exact one_text _ _ _ _ rfl
              case d2 => have := HO6.out.2.2.2.1; simp; omega
              case d3 => have := HO6.out.2.1.size; simp; omega
              intro v7 w7 ho7 hg7
              have hB7 := below_grownT (HO6.out.2.1.alloc HO6.out.2.1.size _) (show OwnT (w6.alloc _) w.heap.size _ A from World.ownsRow.alloc HO6.out.1 _) hg7 (Nat.le_refl _) (by have := HO6.out.2.1.size; simp; omega)
              have hk47 : Below w4.heap.size w4 w7 := (HO6.out.2.2.1.alloc HO6.out.2.2.1.size _).grown hg7 (by have := HO6.out.2.2.1.size; simp; omega) (fun k hk => Nat.le_of_eq (Option.some.inj hk))
              have hAl := HO6.out.2.2.2.1
              generalize hA2 : A ++ [x] = A2 at ho7
              have hA2l : A2.length = A.length + 1 := by rw [← hA2]; simp
              obtain ⟨a7, c7, rfl⟩ := ho7.shape
              have HO7 := Lib.hid (And.intro ho7 (And.intro hB7 (And.intro hk47 hA2)))
              clear ho7 hg7 hk47 hB7 g6 hA2
              have hAD : ∃ ad' : Addr, (some (⟨g, j, none⟩ : Addr)) = some ad' ∧ ∀ jj (hjj : jj < (ts.drop j).length), w7.cell? (ad'.add jj) = some (strV (ts.drop j)[jj]) := by
                refine ⟨_, rfl, fun jj hjj => ?_⟩
                have hj' : j + jj < ts.length := by rw [List.length_drop] at hjj; omega
                have h0 := HC4.out (j + jj) hj'
                rw [List.getElem_drop]
                have h1 := (HO7.out.2.2.1.cell (cell_lt h0)).trans h0
                rw [addr_plain] at h1 ⊢
                rw [Nat.zero_add] at h1
                exact h1
              obtain ⟨ad', had, hcd⟩ := hAD
              have HCD := Lib.hid (And.intro had hcd)
              clear had hcd
              go_wp2_with (at_builtin; go_loud (refine append_texts rfl (.tmp 60) (.tmp 63) rfl w.heap.size _ A2 rfl HO7.out.1 ad' _ (ts.drop j) _ ?e1 (congrArg (fun z => Value.slice z _ _) HCD.out.1) HCD.out.2 ?e2 ?e3 ?_))
              case e1 => simp
              case e2 => rw [List.length_drop]; omega
              case e3 => exact HO7.out.2.1.size
              all_goals
                intro v8 w8 ho8 hg8
                have hB8 := below_grownT HO7.out.2.1 HO7.out.1 (show w7.grownBy w8 (Value.slice a7 A2.length c7).ownBlock by rw [hA2l, hAl]; exact hg8) (Nat.le_refl _) HO7.out.2.1.size
                have hT : A2 ++ ts.drop j = ts.take j ++ [x] ++ ts.drop j := by rw [← HO7.out.2.2.2, ← HO6.out.2.2.2.2]
                have ho8 : OwnT w8 w.heap.size v8 (A2 ++ ts.drop j) := by first | exact ho8 | simpa using ho8
                obtain ⟨a8, c8, rfl⟩ := ho8.shape
                generalize A2 ++ ts.drop j = T8 at ho8 hT
                have HO8 := Lib.hid (And.intro ho8 (And.intro hB8 hT))
                clear ho8 hg8 hB8 hT
                go_wp2_with fail
                go_roundw
                case rel => exact rise_rel hlt htk hxs HAT.out hF.out HO8.out.1 HO8.out.2.1 HO8.out.2.2 (by go_num)
                case measure => simp [intOf]; omega
        · obtain rfl : j = ts.length := by omega
          have hsz2 := hB2.size
          have g1 := (hB2.cell (cell_lt g0)).trans g0
          have hjd : decide ((ts.length : Int) < (ts.length : Int)) = false := by simp
          have hB02 := HB.out.trans (hB2.mono HB.out.size)
          obtain ⟨i9, hi, hz0, hz1, hz2⟩ := info_parts info9
          have HI9 := Lib.hid (And.intro hi (And.intro hz0 (And.intro hz1 hz2)))
          clear hi hz0 hz1 hz2
          have hO2 := HO.out.below hB2
          rcases hO2.2 with ⟨he, h0⟩ | ⟨g, cap, cur, he, hg, hgg, hrest⟩
          · injection he with he1 he2 he3
            subst he1 he3
            obtain rfl : ts = [] := List.eq_nil_of_length_eq_zero h0
            have HO2 := Lib.hid hO2
            have HB02 := Lib.hid hB02
            clear hO2 hB2 hB02 he2 h0
            go_wp2_with fail
            go_quiet (fail)
            go_wp2_with fail
            go_quiet (fail)
            go_wp2_with fail
            generalize hw4 : World.drewN (World.drewN _ _) _ = w4
            have hB4 : Below w.heap.size w w4 := by rw [← hw4]; exact (HB02.out.drewN _).drewN _
            have g4 : w4.cell? (ad.add k) = some (Value.string x) := by rw [← hw4]; exact g1
            have hO4 : OwnT w4 w.heap.size (.slice none 0 0) [] := World.ownsRow_nil _ _ _ _
            obtain ⟨w5, hr, ho5, hg5⟩ := run_make_own (P := Tryd.prog) w4.drew w.heap.size 105 9 i9 _ 1 Tryd.underlying105 HI9.out.1 HI9.out.2.1 HI9.out.2.2.1 .i64 .i64 1 (by rw [HI9.out.2.2.2]; omega) (by unfold maxLen; omega) (by exact hB4.size)
            rw [show ((1 : Nat) : Int) = IntKind.i64.wrap 1 by decide] at hr
            have hB5 : Below w.heap.size w w5 := (Below.drew hB4).grown hg5 hB4.size (fun k hk => by cases hk)
            have ho5' : OwnT w5 w.heap.size (.slice (some ⟨w4.heap.size, 0, none⟩) 0 1) [] := ho5
            have HO5 := Lib.hid (And.intro ho5' hB5)
            have HG := Lib.hid (And.intro hB4 g4)
            clear hw4 hB4 g4 hO4 ho5 ho5' hg5 hB5 g1 g0
            go_region_law (at_builtin; go_loud (refine append_textsO rfl (.tmp 48) (.tmp 51) rfl w.heap.size _ [] rfl (by exact HO5.out.1) [] none 0 0 rfl rfl (.inl ⟨rfl, rfl, rfl⟩) (by simp) (by exact HO5.out.2.size) ?_))
            have g5 := (HO5.out.2.cell (by rw [add_block]; omega)).trans (((HG.out.1.cell (by rw [add_block]; omega)).symm.trans HG.out.2))
            go_wp2_with (at_builtin; go_loud (refine append_texts rfl (.tmp 53) (.tmp 58) rfl w.heap.size _ [] rfl (World.ownsRow.alloc HO5.out.1 _) _ 1 [x] 1 rfl rfl ?d1 ?d2 ?d3 ?_))
            case d1 => exact one_text _ _ _ _ rfl
            case d2 => simp
            case d3 => have := HO5.out.2.size; simp; omega
            intro v6 w6 ho6 hg6
            have hB6 := below_grownT (HO5.out.2.alloc HO5.out.2.size _) (show OwnT (w5.alloc _) w.heap.size _ [] from World.ownsRow.alloc HO5.out.1 _) hg6 (Nat.le_refl _) (by have := HO5.out.2.size; simp; omega)
            obtain ⟨a6, c6, rfl⟩ := ho6.shape
            have HO6 := Lib.hid (And.intro ho6 hB6)
            clear ho6 hg6 hB6 g5
            go_wp2_with (at_builtin; go_loud (refine append_textsO rfl (.tmp 60) (.tmp 63) rfl w.heap.size _ [x] rfl HO6.out.1 [] none 0 0 rfl rfl (.inl ⟨rfl, rfl, rfl⟩) (by simp) HO6.out.2.size ?_))
            intro v7 w7 ho7 hg7
            have hB7 := below_grownT HO6.out.2 HO6.out.1 hg7 (Nat.le_refl _) HO6.out.2.size
            obtain ⟨a7, c7, rfl⟩ := ho7.shape
            have HO7 := Lib.hid (And.intro ho7 hB7)
            clear ho7 hg7 hB7
            go_wp2_with fail
            go_roundw
            case rel => exact ⟨k + 1, [x] ++ [], by omega, by go_num, HO7.out.1, by simp, Lib.hid ⟨fun s => (among_ins [] 0 x s).trans ((congrArg (fun b => b || (x.toList == s.toList)) (hF.out.1 s)).trans (HAT.out s).symm), fun y hy => by rw [show y = x by simpa using hy]; exact hxs⟩, HO7.out.2⟩
            case measure => simp [intOf]; omega
          · injection he with he1 he2 he3
            subst he1 he3
            have hcl := World.ownsRow.cells hO2 (g := g) rfl
            have hlc : ts.length ≤ c1 := hrest.1
            have hcm : c1 ≤ maxLen := hrest.2.1
            have hcm2 : (c1 : Int) ≤ 9223372036854775807 := by unfold maxLen at hcm; omega
            have hlci : (ts.length : Int) ≤ (c1 : Int) := by omega
            have HB02 := Lib.hid hB02
            clear hB2 hB02 hrest hgg he2
            go_wp2_with fail
            go_quiet (fail)
            go_wp2_with fail
            go_quiet (fail)
            go_wp2_with fail
            generalize hw4 : World.drewN (World.drewN _ _) _ = w4
            have hB4 : Below w.heap.size w w4 := by rw [← hw4]; exact (HB02.out.drewN _).drewN _
            have g4 : w4.cell? (ad.add k) = some (Value.string x) := by rw [← hw4]; exact g1
            have hO4 : OwnT w4 w.heap.size (.slice (some ⟨g, 0, none⟩) ts.length c1) ts := by rw [← hw4]; exact hO2
            clear hw4 g1 g0
            obtain ⟨w5, hr, ho5, hg5⟩ := run_make_own (P := Tryd.prog) w4.drew w.heap.size 105 9 i9 _ 1 Tryd.underlying105 HI9.out.1 HI9.out.2.1 HI9.out.2.2.1 .i64 .i64 (ts.length + 1) (by rw [HI9.out.2.2.2]; omega) (by unfold maxLen; omega) (by exact hB4.size)
            have hwr : ((ts.length + 1 : Nat) : Int) = IntKind.i64.wrap ((ts.length : Int) + 1) := by simp [IntKind.wrap, IntKind.bits, IntKind.signed]; omega
            rw [hwr] at hr
            have hB5 : Below w.heap.size w w5 := (Below.drew hB4).grown hg5 hB4.size (fun k hk => by cases hk)
            have ho5' : OwnT w5 w.heap.size (.slice (some ⟨w4.heap.size, 0, none⟩) 0 (ts.length + 1)) [] := ho5
            have HO5 := Lib.hid (And.intro ho5' hB5)
            have hk45 : Below w4.heap.size w4 w5 := (Below.drew (Below.refl _ _)).grown hg5 (Nat.le_refl _) (fun k hk => by cases hk)
            have HC4 := Lib.hid (show ∀ jj (hjj : jj < ts.length), w4.cell? ((⟨g, 0, none⟩ : Addr).add jj) = some (strV ts[jj]) from fun jj hjj => World.ownsRow.cells hO4 (g := g) rfl jj (strV ts[jj]) (by simp [hjj]))
            have hc5 := Lib.hid (show ∀ jj (hjj : jj < (ts.take ts.length).length), w5.cell? ((⟨g, 0, none⟩ : Addr).add jj) = some (strV (ts.take ts.length)[jj]) from fun jj hjj => by
              have h0 := HC4.out jj (by simp at hjj; omega)
              rw [List.getElem_take]
              exact (hk45.cell (cell_lt h0)).trans h0)
            have HK45 := Lib.hid hk45
            have HG4 := Lib.hid g4
            have htl : (ts.take ts.length).length = ts.length := by rw [List.length_take]; omega
            clear hk45 hB4 g4 hO4 ho5 ho5' hg5 hB5 hcl hO2
            go_region_law (refine step_texts_fits (.tmp 48) (.tmp 51) rfl rfl w.heap.size w4.heap.size (ts.length + 1) [] (by simp [Act.eval, Act.put]) (by exact HO5.out.1) (ts.take ts.length) ⟨g, 0, none⟩ ts.length c1 (by exact htl.symm) (by simp [Act.eval, Act.put]) (by exact hc5.out) (by simp <;> omega) ?_; intro w6 ho6 hg6)
            have hk46 : Below w4.heap.size w4 w6 := HK45.out.grown hg6 HK45.out.size (fun k hk => by injection hk with hk; omega)
            have hB6 := below_grownT HO5.out.2 HO5.out.1 hg6 (Nat.le_refl _) HO5.out.2.size
            rw [List.nil_append] at ho6
            simp only [htl, List.length_nil, Nat.zero_add] at ho6
            generalize hA : ts.take ts.length = A at ho6 htl
            have g6 := (hk46.cell (cell_lt HG4.out)).trans HG4.out
            have HO6 := Lib.hid (And.intro ho6 (And.intro hB6 (And.intro hk46 (And.intro htl hA))))
            clear ho6 hg6 hk46 hB6 htl hA
            go_wp2_with (at_builtin; go_loud (refine append_texts rfl (.tmp 53) (.tmp 58) rfl w.heap.size _ A (by simp [Act.eval, Act.put]) (World.ownsRow.alloc HO6.out.1 _) _ 1 [x] 1 rfl rfl ?d1 ?d2 ?d3 ?_))
            case d1 => exact one_text _ _ _ _ rfl
            case d2 => have := HO6.out.2.2.2.1; simp; omega
            case d3 => have := HO6.out.2.1.size; simp; omega
            intro v7 w7 ho7 hg7
            have hB7 := below_grownT (HO6.out.2.1.alloc HO6.out.2.1.size _) (show OwnT (w6.alloc _) w.heap.size _ A from World.ownsRow.alloc HO6.out.1 _) hg7 (Nat.le_refl _) (by have := HO6.out.2.1.size; simp; omega)
            have hk47 : Below w4.heap.size w4 w7 := (HO6.out.2.2.1.alloc HO6.out.2.2.1.size _).grown hg7 (by have := HO6.out.2.2.1.size; simp; omega) (fun k hk => Nat.le_of_eq (Option.some.inj hk))
            have hAl := HO6.out.2.2.2.1
            generalize hA2 : A ++ [x] = A2 at ho7
            have hA2l : A2.length = A.length + 1 := by rw [← hA2]; simp
            obtain ⟨a7, c7, rfl⟩ := ho7.shape
            have HO7 := Lib.hid (And.intro ho7 (And.intro hB7 (And.intro hk47 hA2)))
            clear ho7 hg7 hk47 hB7 g6 hA2
            have hAD : ∃ ad' : Addr, (if c1 = ts.length then (some (⟨g, 0, none⟩ : Addr)) else some ⟨g, ts.length, none⟩) = some ad' ∧ ∀ jj (hjj : jj < (ts.drop ts.length).length), w7.cell? (ad'.add jj) = some (strV (ts.drop ts.length)[jj]) := by
              by_cases hc : c1 = ts.length
              · refine ⟨_, if_pos hc, fun jj hjj => ?_⟩
                rw [List.length_drop] at hjj; omega
              · refine ⟨_, if_neg hc, fun jj hjj => ?_⟩
                have hj' : ts.length + jj < ts.length := by rw [List.length_drop] at hjj; omega
                have h0 := HC4.out (ts.length + jj) hj'
                rw [List.getElem_drop]
                have h1 := (HO7.out.2.2.1.cell (cell_lt h0)).trans h0
                rw [addr_plain] at h1 ⊢
                rw [Nat.zero_add] at h1
                exact h1
            obtain ⟨ad', had, hcd⟩ := hAD
            have HCD := Lib.hid (And.intro had hcd)
            clear had hcd
            go_wp2_with (at_builtin; go_loud (refine append_texts rfl (.tmp 60) (.tmp 63) rfl w.heap.size _ A2 rfl HO7.out.1 ad' _ (ts.drop ts.length) _ ?e1 (congrArg (fun z => Value.slice z _ _) HCD.out.1) HCD.out.2 ?e2 ?e3 ?_))
            case e1 => simp
            case e2 => rw [List.length_drop]; omega
            case e3 => exact HO7.out.2.1.size
            all_goals
              intro v8 w8 ho8 hg8
              have hB8 := below_grownT HO7.out.2.1 HO7.out.1 (show w7.grownBy w8 (Value.slice a7 A2.length c7).ownBlock by rw [hA2l, hAl]; exact hg8) (Nat.le_refl _) HO7.out.2.1.size
              have hT : A2 ++ ts.drop ts.length = ts.take ts.length ++ [x] ++ ts.drop ts.length := by rw [← HO7.out.2.2.2, ← HO6.out.2.2.2.2]
              have ho8 : OwnT w8 w.heap.size v8 (A2 ++ ts.drop ts.length) := by first | exact ho8 | simpa using ho8
              obtain ⟨a8, c8, rfl⟩ := ho8.shape
              generalize A2 ++ ts.drop ts.length = T8 at ho8 hT
              have HO8 := Lib.hid (And.intro ho8 (And.intro hB8 hT))
              clear ho8 hg8 hB8 hT
              go_wp2_with fail
              go_roundw
              case rel => exact rise_rel hlt htk hxs HAT.out hF.out HO8.out.1 HO8.out.2.1 HO8.out.2.2 (by go_num)
              case measure => simp [intOf]; omega
    · obtain rfl : k = ss.length := by omega
      obtain ⟨a1, c1, rfl⟩ := hO.shape
      have HO := Lib.hid hO
      have HB := hB
      clear hO
      go_wp2
      go_ret
      refine ⟨_, ts, rfl, ?_, fun s => ?_, htk, HB⟩
      · obtain ⟨a, c, he, h1⟩ := HO.out.ints
        refine ⟨a, c, he, ?_⟩
        rcases h1 with h1 | ⟨ad, h0, h2⟩
        · exact .inl h1
        · by_cases hn : ts = []
          · exact .inl hn
          · have hp : 0 < ts.length := List.length_pos_iff.2 hn
            refine .inr ⟨ad, h0, ?_, h2⟩
            have := cell_lt (h2 0 hp)
            rwa [add_block] at this
      · have := hF.out.1 s
        rwa [List.take_length] at this
end Go.Proofs.YtmkghfkikclodaaDoor
