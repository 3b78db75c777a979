/- StrMakes: what is replaced, and joined, is what the chapter says. -/
import Derived.Test.YtodlgnaoghladaaJoin
namespace Go.Proofs.Ytodlgnaoghladaa
open Go.ChangeShapes Go.WideShapes Go.ChangeAt Go.RowKit

theorem open_strs {H : Type} {enc : TypeId × Value → H} {W : World} {base : Nat} {v : Value} {d : DataW H} {p : List MemPlace}
    (hok : Value.okWide Try.prog W .any base 30 v) (hk : DataW.Trod enc Try.prog W 0 (fun _ => true) true 30 v d p) : ∃ a ss cap, v = .slice a (List.length ss) cap ∧ StrsAt W a ss := by
  obtain ⟨a0, len, cap, rfl⟩ := okWide_slice Try.underlying30 hok
  obtain ⟨fuel, hf⟩ := hk
  have hf' := hf
  rcases open_strings Try.underlying30 Try.underlying9 (by kernel_rfl) hf with ⟨hcs, hx⟩ | ⟨a, len', cap', ss, hcs, _, hl, hm, hz, hx, hcell, hws⟩
  · simp [Value.cells] at hcs
    obtain ⟨rfl, rfl, rfl⟩ := hcs
    exact ⟨none, [], 0, rfl, ⟨fun h => absurd h (Nat.lt_irrefl _), by simp, by simp⟩⟩
  · simp [Value.cells] at hcs
    obtain ⟨rfl, rfl, rfl⟩ := hcs
    have hz' : ss.length = cap := by simpa using hz
    have hlen : (ss.take len).length = len := by rw [List.length_take]; omega
    refine ⟨some a, ss.take len, cap, by rw [hlen], ⟨fun h0 => ?_, by rw [hlen]; omega, fun s hs => hws s (List.mem_of_mem_take hs)⟩⟩
    rw [hlen] at h0
    obtain ⟨b, off, spot⟩ := a
    have hc0 := hcell 0 (by omega)
    have hspot : spot = none := by simpa [Addr.add] using World.cell?_spot hc0
    subst hspot
    refine ⟨b, off, rfl, World.block_lt_of_cell? W ⟨b, off, none⟩ hc0, fun i hi => ?_⟩
    rw [hlen] at hi
    have := hcell i (by omega)
    rw [Go.WideShapes.add_plain] at this
    rw [this]
    simp [List.getD, show i < ss.length by omega]

theorem replace_empty (s p r : ByteArray) (w : World) (hp : p.data.toList = []) :
    Calls Try.prog 11 #[.string s, .string p, .string r] w (Some4 w (.tuple #[.string ⟨#[]⟩, .int .i64 13])) := by
  have hpe : p.toList.isEmpty = true := by rw [Lib.toList_data, hp]; rfl
  clear hp
  go_enter Try.func11, Try.ntmps11
  go_wp2
  go_ret2
  exact ⟨rfl, Below.refl _ _⟩

theorem refreplace_empty (s p r : ByteArray) (w : World) (hp : p.data.toList = []) :
    Calls Try.prog 15 #[.string s, .string p, .string r] w (Some4 w (.tuple #[.string ⟨#[]⟩, .int .i64 13])) := by
  have hpe : p.toList.isEmpty = true := by rw [Lib.toList_data, hp]; rfl
  clear hp
  go_enter Try.func15, Try.ntmps15
  go_wp2
  go_ret2
  exact ⟨rfl, Below.refl _ _⟩

def SameTuple (W : World) (x : ByteArray) (k : Int) (e : Ending) (w' : World) : Prop := e = .returned (.tuple #[.string x, .int .i64 k]) ∧ Below W.heap.size W w'

theorem replV_shape (l : List UInt8) : ∃ x k, replV l = .tuple #[.string x, .int .i64 k] := by
  unfold replV; split <;> exact ⟨_, _, rfl⟩

/-- both Replace calls come to one and the same -/
theorem both_replace (s p r : ByteArray) (hs : s.size ≤ 300) (hp : p.size ≤ 20) (hr : r.size ≤ 100) : ∃ x k, ∀ W, MaxHeld W →
    Calls Try.prog 11 #[.string s, .string p, .string r] W (SameTuple W x k) ∧ Calls Try.prog 15 #[.string s, .string p, .string r] W (SameTuple W x k) := by
  by_cases h : p.data.toList = []
  · exact ⟨_, _, fun W _ => ⟨replace_empty s p r W h, refreplace_empty s p r W h⟩⟩
  · obtain ⟨x, k, hv⟩ := replV_shape (repl p.data.toList r.data.toList s.data.toList)
    refine ⟨x, k, fun W hW => ⟨?_, ?_⟩⟩
    · have := replace_any s p r W (by omega) (by omega) h hW.1 hW.2
      rw [hv] at this
      exact this
    · have := refreplace_any s p r W hs hr h hp
      rw [hv] at this
      exact this

theorem both_join (sep : ByteArray) (ss : List ByteArray) (h0 : sep.size ≤ 50) (h1 : ss.length ≤ 40) (h2 : ∀ s ∈ ss, s.size ≤ 200) : ∃ x k, ∀ (a : Option Addr) (cap : Nat) W, StrsAt W a ss →
    Calls Try.prog 16 #[.string sep, .slice a ss.length cap] W (SameTuple W x k) ∧ Calls Try.prog 17 #[.string sep, .slice a ss.length cap] W (SameTuple W x k) := by
  obtain ⟨x, k, hv⟩ := replV_shape (joinK sep.data.toList ss ss.length)
  refine ⟨x, k, fun a cap W hS => ⟨?_, ?_⟩⟩
  · have := join_any sep a cap ss W hS h0 h1 h2
    rw [hv] at this
    exact this
  · have := refjoin_any sep a cap ss W hS h0 h1 h2
    rw [hv] at this
    exact this

def LawTrue (W : World) (e : Ending) (w' : World) : Prop := e = .returned (.bool true) ∧ Below W.heap.size W w'

set_option maxRecDepth 100000 in
theorem makes_main (s p r sep : ByteArray) (a : Option Addr) (cap : Nat) (ss : List ByteArray) (w : World) (hs : s.size ≤ 300) (hp : p.size ≤ 20) (hr : r.size ≤ 100) (h0 : sep.size ≤ 50) (hS : StrsAt w a ss)
    (h1 : ss.length ≤ 40) (h2 : ∀ s ∈ ss, s.size ≤ 200) (hW : MaxHeld w) :
    Calls Try.prog 5 #[.string s, .string p, .string r, .string sep, .slice a ss.length cap] w (LawTrue w) := by
  obtain ⟨x, k, hx⟩ := both_replace s p r hs hp hr
  obtain ⟨y, j, hy⟩ := both_join sep ss h0 h1 h2
  have HX := Lib.hid hx
  have HY := Lib.hid hy
  have HT := Lib.hid (texts_yes a cap ss w hS h1 h2)
  clear hx hy h2
  go_enter Try.func5, Try.ntmps5
  go_wp2_with (go_at_call 7; refine (first_any _).mono ?_; rintro e w' ⟨rfl, rfl⟩)
  refine HT.out.mono ?_
  rintro e w' ⟨rfl, rfl⟩
  go_wp2_with fail
  refine (HX.out _ hW).1.mono ?_
  rintro e w1 ⟨rfl, hB1⟩
  have hW1 := hW.below hB1
  go_wp2_with fail
  refine (HX.out _ hW1).2.mono ?_
  rintro e w2 ⟨rfl, hB2⟩
  have hB12 : Below w.heap.size w w2 := hB1.trans (hB2.mono hB1.size)
  have hS2 := hS.below hB12 (Nat.le_refl _)
  go_wp2_with fail
  refine (HY.out _ _ _ hS2).1.mono ?_
  rintro e w3 ⟨rfl, hB3⟩
  have hB13 : Below w.heap.size w w3 := hB12.trans (hB3.mono hB12.size)
  have hS3 := hS.below hB13 (Nat.le_refl _)
  go_wp2_with fail
  refine (HY.out _ _ _ hS3).2.mono ?_
  rintro e w4 ⟨rfl, hB4⟩
  have hB14 : Below w.heap.size w w4 := hB13.trans (hB4.mono hB13.size)
  go_wp2_with fail
  go_ret
  exact ⟨rfl, hB14⟩

set_option maxRecDepth 100000 in
theorem makes_walk (s p r sep : ByteArray) (a : Option Addr) (cap : Nat) (ss : List ByteArray) (w : World) (hs : s.size ≤ maxLen) (hp : p.size ≤ maxLen) (hr : r.size ≤ maxLen) (h0 : sep.size ≤ maxLen) (hS : StrsAt w a ss) (hW : MaxHeld w) :
    Calls Try.prog 5 #[.string s, .string p, .string r, .string sep, .slice a ss.length cap] w (LawTrue w) := by
  unfold maxLen at hs hp hr h0
  by_cases b1 : 300 < s.size
  · go_enter Try.func5, Try.ntmps5
    go_wp2_with (go_at_call 7; refine (first_any _).mono ?_; rintro e w' ⟨rfl, rfl⟩)
    go_ret
    exact ⟨rfl, Below.refl _ _⟩
  replace b1 : s.size ≤ 300 := by omega
  by_cases b2 : 20 < p.size
  · go_enter Try.func5, Try.ntmps5
    go_wp2_with (go_at_call 7; refine (first_any _).mono ?_; rintro e w' ⟨rfl, rfl⟩)
    go_ret
    exact ⟨rfl, Below.refl _ _⟩
  replace b2 : p.size ≤ 20 := by omega
  by_cases b3 : 100 < r.size
  · go_enter Try.func5, Try.ntmps5
    go_wp2_with (go_at_call 7; refine (first_any _).mono ?_; rintro e w' ⟨rfl, rfl⟩)
    go_ret
    exact ⟨rfl, Below.refl _ _⟩
  replace b3 : r.size ≤ 100 := by omega
  by_cases b4 : 50 < sep.size
  · go_enter Try.func5, Try.ntmps5
    go_wp2_with (go_at_call 7; refine (first_any _).mono ?_; rintro e w' ⟨rfl, rfl⟩)
    go_ret
    exact ⟨rfl, Below.refl _ _⟩
  replace b4 : sep.size ≤ 50 := by omega
  by_cases b5 : ss.length ≤ 40 ∧ ∀ s ∈ ss, s.size ≤ 200
  · exact makes_main s p r sep a cap ss w b1 b2 b3 b4 hS b5.1 b5.2 hW
  · have HT := Lib.hid (texts_no a cap ss w hS b5)
    clear b5
    go_enter Try.func5, Try.ntmps5
    go_wp2_with (go_at_call 7; refine (first_any _).mono ?_; rintro e w' ⟨rfl, rfl⟩)
    refine HT.out.mono ?_
    rintro e w' ⟨rfl, rfl⟩
    go_wp2_with fail
    go_ret
    exact ⟨rfl, Below.refl _ _⟩

theorem makes_row {H : Type} {enc : TypeId × Value → H} {base : Nat} (s p r sep : ByteArray) (v : Value) (d : DataW H) (q : List MemPlace) (w : World) (hs : s.size ≤ maxLen) (hp : p.size ≤ maxLen) (hr : r.size ≤ maxLen) (h0 : sep.size ≤ maxLen)
    (hok : Value.okWide Try.prog w .any base 30 v) (hk : DataW.Trod enc Try.prog w 0 (fun _ => true) true 30 v d q) (hW : MaxHeld w) :
    Calls Try.prog 5 #[.string s, .string p, .string r, .string sep, v] w (LawTrue w) := by
  obtain ⟨a, ss, cap, rfl, hS⟩ := open_strs hok hk
  exact makes_walk s p r sep a cap ss w hs hp hr h0 hS hW
end Go.Proofs.Ytodlgnaoghladaa
