/- Slices of bytes that a call made itself: what they hold as a list of bytes; append of a string, of one byte, of another slice of bytes; and back to a string. Of no program. -/
import Derived.WalkKit
import Derived.ProofKit
import Derived.OpenShut
import Derived.Lib.AppendStr
import Derived.Laws.IdiomStrings
import Derived.Lib.BufferRead
import Derived.Lib.Hide
import Derived.Outline
import Derived.Deep.DeepFit
import Derived.WalkSmall
set_option linter.unusedVariables false
set_option linter.unusedSimpArgs false
namespace Go.Proofs.YtmkghfkikclodaaDoor
open Go.RowKit

def byteV (b : UInt8) : Value := .int .u8 (b.toNat : Int)

/-- the slice value v, made by the call itself (in blocks from 'base' on), holds the bytes l -/
def OwnB (w : World) (base : Nat) (e : TypeId) (v : Value) (l : List UInt8) : Prop := w.ownsRow base e 1 v l.length (l.map byteV)

theorem OwnB.nil (w : World) (base : Nat) (e : TypeId) : OwnB w base e (.slice none 0 0) [] := World.ownsRow_nil w base e 1

theorem OwnB.shape {w : World} {base : Nat} {e : TypeId} {v : Value} {l : List UInt8} (h : OwnB w base e v l) : ∃ a c, v = .slice a l.length c := by
  rcases h.2 with ⟨rfl, h0⟩ | ⟨g, cap, cur, rfl, _⟩
  · rw [h0]; exact ⟨_, _, rfl⟩
  · exact ⟨_, _, rfl⟩

theorem OwnB.lt {w : World} {base : Nat} {e : TypeId} {v : Value} {l : List UInt8} (h : OwnB w base e v l) : ∀ k, v.ownBlock = some k → base ≤ k ∧ k < w.heap.size := World.ownsRow.lt h

theorem OwnB.drew {w : World} {base : Nat} {e : TypeId} {v : Value} {l : List UInt8} (h : OwnB w base e v l) : OwnB w.drew base e v l := h
theorem OwnB.drewN {w : World} {base : Nat} {e : TypeId} {v : Value} {l : List UInt8} (h : OwnB w base e v l) (n : Nat) : OwnB (w.drewN n) base e v l := h
theorem OwnB.alloc {w : World} {base : Nat} {e : TypeId} {v : Value} {l : List UInt8} (h : OwnB w base e v l) (o : Obj) : OwnB (w.alloc o) base e v l := World.ownsRow.alloc h o

/-- what lies below a block number stays: a slice that lies there holds what it held -/
theorem OwnB.below {w w' : World} {base B : Nat} {e : TypeId} {v : Value} {l : List UInt8} (h : OwnB w base e v l) (hb : Below B w w') (hB : w.heap.size ≤ B) : OwnB w' base e v l := by
  refine ⟨h.1, ?_⟩
  rcases h.2 with hn | ⟨g, cap, cur, rfl, hg, hgg, rest⟩
  · exact .inl hn
  · refine .inr ⟨g, cap, cur, rfl, hg, ?_, rest⟩
    rw [hb.block g (by have := (Array.getElem?_eq_some_iff.1 hgg).1; omega)]
    exact hgg

theorem strCells_eq (s : ByteArray) : Lib.strCells s = s.data.toList.map byteV := rfl

section
variable {P : Program} (w : World)

theorem append_string {ops : Array Oper} {rest : List Oper} {o : Oper} {a : Act} {Q : Exit → Act → World → Prop} (hgd : o.guard = none) (sl x : Operand) (t u : TypeId)
    (ho : o.op = .call { callee := .builtin .append, args := #[sl, x], argTypes := #[t, u] })
    (base : Nat) (e : TypeId) (ht : P.underlying t = some (.slice e)) (hu : P.underlying u = some .string) (hi : (P.info? e).map (fun i => (i.zero, i.size, i.bytes)) = some (some (.int .u8 0), 1, 1))
    (v : Value) (l : List UInt8) (hs : a.eval sl = v) (hown : OwnB w base e v l) (s : ByteArray) (hx : a.eval x = .string s)
    (hlen : l.length + s.size ≤ 140737488355328) (hbase : base ≤ w.heap.size)
    (h : ∀ v' w', OwnB w' base e v' (l ++ s.data.toList) → w.grownBy w' v.ownBlock → wpList P ops Q rest (a.put o.dst v') w') : wpList P ops Q (o :: rest) a w := by
  obtain ⟨i, hi, hz0, hz1, hz2⟩ := info_parts hi
  refine Lib.wpList_append_own_string w hgd sl x t u ho base e i ht hu hi hz0 hz1 hz2 v l.length _ hs hown s hx (by unfold maxLen; omega) hlen hbase ?_
  intro v' w' h1 h2 _
  refine h v' w' ?_ h2
  have e1 : s.size = s.data.toList.length := by rw [Array.length_toList]; rfl
  unfold OwnB
  rw [List.length_append, List.map_append, ← e1]
  exact h1

/-- append of a slice that holds the bytes m (somewhere) -/
theorem append_bytes {ops : Array Oper} {rest : List Oper} {o : Oper} {a : Act} {Q : Exit → Act → World → Prop} (hgd : o.guard = none) (sl x : Operand) (t : TypeId)
    (ho : o.op = .call { callee := .builtin .append, args := #[sl, x], argTypes := #[t, t] })
    (base : Nat) (e : TypeId) (ht : P.underlying t = some (.slice e)) (hi : (P.info? e).map (fun i => (i.zero, i.size, i.bytes)) = some (some (.int .u8 0), 1, 1))
    (v : Value) (l : List UInt8) (hs : a.eval sl = v) (hown : OwnB w base e v l) (ad : Addr) (c : Nat) (m : List UInt8) (n : Nat) (hn : n = m.length) (hx : a.eval x = .slice (some ad) n c)
    (hc : ∀ j (hj : j < m.length), w.cell? (ad.add j) = some (byteV m[j]))
    (hlen : l.length + m.length ≤ 140737488355328) (hbase : base ≤ w.heap.size)
    (h : ∀ v' w', OwnB w' base e v' (l ++ m) → w.grownBy w' v.ownBlock → wpList P ops Q rest (a.put o.dst v') w') : wpList P ops Q (o :: rest) a w := by
  subst hn
  obtain ⟨i, hi, hz0, hz1, hz2⟩ := info_parts hi
  refine wpList_append_own w hgd sl x t ho base e i (.int .u8 0) 1 1 ht hi hz0 hz1 hz2 rfl (by decide) v l.length _ hs hown ad m.length c (m.map byteV) hx (by simp) ?_ ?_ (by unfold maxLen; omega) (by omega) hbase ?_
  · intro j u hu
    simp only [List.getElem?_map, Option.map_eq_some_iff] at hu
    obtain ⟨b, hb, rfl⟩ := hu
    obtain ⟨hj, rfl⟩ := List.getElem?_eq_some_iff.1 hb
    exact hc j hj
  · intro u hu
    simp only [List.mem_map] at hu
    obtain ⟨b, _, rfl⟩ := hu
    rfl
  · intro v' w' h1 h2 _
    refine h v' w' ?_ h2
    unfold OwnB
    rw [List.length_append, List.map_append]
    exact h1

/-- 'string(b)' -/
theorem run_string (src dst e : TypeId) (hs : P.underlying src = some (.slice e)) (he : P.underlying e = some (.int .u8)) (hd : P.underlying dst = some .string)
    (base : Nat) (v : Value) (l : List UInt8) (h : OwnB w base e v l) : (convert src dst v).run P w = .ok (.string ⟨l.toArray⟩) w := by
  rcases h.2 with ⟨rfl, h0⟩ | ⟨g, cap, cur, rfl, hb, hg, hrest⟩
  · obtain rfl : l = [] := List.eq_nil_of_length_eq_zero h0
    have := Lib.run_convert_nil_bytes (P := P) w src dst e 0 hs he hd
    simpa using this
  · have hc : ∀ j (hj : j < l.length), w.cell? ((⟨g, 0, none⟩ : Addr).add j) = some (.int .u8 (l[j].toNat : Int)) := by
      intro j hj
      have := World.ownsRow.cells h (g := g) rfl j (byteV l[j]) (by simp [hj])
      exact this
    exact run_convert_bytes_back w src dst e ⟨g, 0, none⟩ cap l hs he hd hc
end

theorem below_grown {B : Nat} {a w w' : World} {v : Value} {l : List UInt8} {base : Nat} {e : TypeId} (hb : Below B a w) (ho : OwnB w base e v l) (hg : w.grownBy w' v.ownBlock) (hB : B ≤ base) (hB2 : B ≤ w.heap.size) : Below B a w' :=
  hb.grown hg hB2 (fun k hk => Nat.le_trans hB (ho.lt k hk).1)

end Go.Proofs.YtmkghfkikclodaaDoor
