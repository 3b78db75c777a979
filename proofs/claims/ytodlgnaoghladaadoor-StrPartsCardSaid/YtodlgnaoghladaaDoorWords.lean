/- Words, the reference's Words, SameTexts: what they come to. -/
import Derived.Test.YtodlgnaoghladaaDoorPlain
import Derived.Deep.QuietTactic
import Derived.BigQuiet
namespace Go.Proofs.YtodlgnaoghladaaDoor
open Go.ChangeShapes Go.WideShapes Go.ChangeAt Go.RowKit

/-- a slice of strings that the call made itself -/
def OwnS (w : World) (base : Nat) (v : Value) (l : List ByteArray) : Prop := w.ownsRow base 9 1 v l.length (l.map Value.string)

theorem Tryd.info9 : (Tryd.prog.info? 9).map (fun i => (i.zero, i.size, i.bytes)) = some (some (.string ⟨#[]⟩), 1, 16) := by kernel_rfl

theorem OwnS.nil (w : World) (base : Nat) : OwnS w base (.slice none 0 0) [] := World.ownsRow_nil w base 9 1
theorem OwnS.lt {w : World} {base : Nat} {v : Value} {l : List ByteArray} (h : OwnS w base v l) : ∀ k, v.ownBlock = some k → base ≤ k ∧ k < w.heap.size := World.ownsRow.lt h
theorem OwnS.alloc {w : World} {base : Nat} {v : Value} {l : List ByteArray} (h : OwnS w base v l) (o : Obj) : OwnS (w.alloc o) base v l := World.ownsRow.alloc h o
theorem OwnS.shape {w : World} {base : Nat} {v : Value} {l : List ByteArray} (h : OwnS w base v l) : ∃ a c, v = .slice a l.length c := by
  rcases h.2 with ⟨rfl, h0⟩ | ⟨g, cap, cur, rfl, _⟩
  · rw [h0]; exact ⟨_, _, rfl⟩
  · exact ⟨_, _, rfl⟩
theorem OwnS.mono {w : World} {base b' : Nat} {v : Value} {l : List ByteArray} (h : OwnS w base v l) (hb : b' ≤ base) : OwnS w b' v l := by
  refine ⟨h.1, ?_⟩
  rcases h.2 with hn | ⟨g, cap, cur, rfl, hg, rest⟩
  · exact .inl hn
  · exact .inr ⟨g, cap, cur, rfl, Nat.le_trans hb hg, rest⟩

theorem OwnS.strs {w : World} {base : Nat} {v : Value} {l : List ByteArray} (h : OwnS w base v l) (hl : l.length ≤ maxLen) (he : ∀ s ∈ l, s.size ≤ maxLen) : ∃ a c, v = .slice a l.length c ∧ StrsAt w a l := by
  rcases h.2 with ⟨rfl, h0⟩ | ⟨g, cap, cur, rfl, hb, hg, hrest⟩
  · refine ⟨none, 0, by rw [h0], ⟨fun h1 => by omega, hl, he⟩⟩
  · refine ⟨some ⟨g, 0, none⟩, cap, rfl, ⟨fun _ => ⟨g, 0, rfl, (Array.getElem?_eq_some_iff.1 hg).1, fun i hi => ?_⟩, hl, he⟩⟩
    have := World.ownsRow.cells h (g := g) rfl i (.string l[i]) (by simp [hi])
    have e : (⟨g, 0, none⟩ : Addr).add i = ⟨g, 0 + i, none⟩ := by
      unfold Addr.add; split
      · simp [*]
      · rfl
    rw [e] at this
    exact this

section
variable (w : World)
theorem append_str {ops : Array Oper} {rest : List Oper} {o : Oper} {a : Act} {Q : Exit → Act → World → Prop} (hgd : o.guard = none) (sl x : Operand)
    (ho : o.op = .call { callee := .builtin .append, args := #[sl, x], argTypes := #[23, 23] })
    (base : Nat) (v : Value) (l : List ByteArray) (hs : a.eval sl = v) (hown : OwnS w base v l) (ad : Addr) (c : Nat) (s : ByteArray) (hx : a.eval x = .slice (some ad) 1 c)
    (hc : w.cell? ad = some (.string s)) (hlen : l.length ≤ 4096) (hbase : base ≤ w.heap.size)
    (h : ∀ v' w', OwnS w' base v' (l ++ [s]) → w.grownBy w' v.ownBlock → wpList Tryd.prog ops Q rest (a.put o.dst v') w') : wpList Tryd.prog ops Q (o :: rest) a w := by
  obtain ⟨i, hi, hz0, hz1, hz2⟩ := info_parts Tryd.info9
  refine wpList_append_own w hgd sl x 23 ho base 9 i (.string ⟨#[]⟩) 1 16 Tryd.underlying23 hi hz0 hz1 hz2 rfl (by decide) v l.length _ hs hown ad 1 c [.string s] hx (by simp) ?_ ?_ (by unfold maxLen; omega) (by omega) hbase ?_
  · intro j u hu
    match j, hu with
    | 0, hu =>
      simp at hu
      subst hu
      exact hc
  · intro u hu
    simp at hu
    subst hu
    rfl
  · intro v' w' h1 h2 _
    refine h v' w' ?_ h2
    unfold OwnS
    rw [List.length_append, List.map_append]
    exact h1
end

theorem belowS_grown {B : Nat} {a w w' : World} {v : Value} {l : List ByteArray} {base : Nat} (hb : Below B a w) (ho : OwnS w base v l) (hg : w.grownBy w' v.ownBlock) (hB : B ≤ base) (hB2 : B ≤ w.heap.size) : Below B a w' :=
  hb.grown hg hB2 (fun k hk => Nat.le_trans hB (ho.lt k hk).1)

def wordsS (s : ByteArray) : List ByteArray := (wordsL [] s.data.toList).map bs

theorem bs_of (s : ByteArray) : bs s.data.toList = s := by
  apply ByteArray.ext
  simp [bs]

/-- the pieces that strings.Split gives -/
theorem pieces (s : ByteArray) : Lib.splitB ⟨#[32]⟩ 0 (Lib.countB s ⟨#[32]⟩) s = (cuts s.data.toList).map bs := by
  have h := Lib.splitB_data ⟨#[32]⟩ 0 (Lib.countB s ⟨#[32]⟩) s
  have e : Lib.splitK (ByteArray.mk #[32]).data.toList 0 (Lib.countB s ⟨#[32]⟩) s.data.toList = cuts s.data.toList := splitK_cuts _
  rw [e] at h
  rw [← h, List.map_map]
  have : (bs ∘ fun x : ByteArray => x.data.toList) = id := by funext x; exact bs_of x
  rw [this, List.map_id]

theorem pieces_len (s : ByteArray) : (Lib.countB s ⟨#[32]⟩) + 1 = (cuts s.data.toList).length := by
  have := Lib.splitB_all ⟨#[32]⟩ (by decide) 0 (Lib.countB s ⟨#[32]⟩) s rfl
  rw [pieces, List.length_map] at this
  exact this.symm

theorem cuts_len : ∀ l : List UInt8, (cuts l).length ≤ l.length + 1 ∧ ∀ x ∈ cuts l, x.length ≤ l.length
  | [] => by simp [cuts]
  | c :: t => by
    obtain ⟨h1, h2⟩ := cuts_len t
    unfold cuts
    split
    · refine ⟨by simp only [List.length_cons]; omega, fun x hx => ?_⟩
      rcases List.mem_cons.1 hx with rfl | hx
      · simp
      · have := h2 x hx; simp only [List.length_cons]; omega
    · split
      · rename_i x xs hc
        rw [hc] at h1 h2
        refine ⟨by simp only [List.length_cons] at h1 ⊢; omega, fun z hz => ?_⟩
        rcases List.mem_cons.1 hz with rfl | hz
        · have := h2 x (by simp); simp only [List.length_cons]; omega
        · have := h2 z (by simp [hz]); simp only [List.length_cons]; omega
      · refine ⟨by simp, fun z hz => ?_⟩
        simp only [List.mem_singleton] at hz
        subst hz
        simp

/-- of the first k pieces those that are words -/
def kept (p : List (List UInt8)) (k : Nat) : List ByteArray := ((p.take k).filter (fun l => !l.isEmpty)).map bs

theorem kept_next (p : List (List UInt8)) (k : Nat) (h : k < p.length) : kept p (k + 1) = if (p[k]).isEmpty then kept p k else kept p k ++ [bs p[k]] := by
  unfold kept
  rw [List.take_succ_eq_append_getElem h, List.filter_append, List.map_append]
  cases he : (p[k]).isEmpty <;> simp [he]

theorem kept_len (p : List (List UInt8)) (k : Nat) (h : k ≤ p.length) : (kept p k).length ≤ k := by
  unfold kept
  rw [List.length_map]
  have := List.length_filter_le (fun l : List UInt8 => !l.isEmpty) (p.take k)
  rw [List.length_take] at this
  omega

def WordsOut (W : World) (ws : List ByteArray) (e : Ending) (w' : World) : Prop := ∃ v, e = .returned v ∧ OwnS w' W.heap.size v ws ∧ Below W.heap.size W w'

theorem words_any (s : ByteArray) (w : World) (hs : s.size ≤ 1000) (hW : MaxHeld w) : Calls Tryd.prog 6 #[.string s] w (WordsOut w (wordsS s)) := by
  obtain ⟨⟨m, hm⟩, h0⟩ := hW
  have hsl : s.data.toList.length = s.size := by rw [Array.length_toList]; rfl
  have hpl := pieces_len s
  obtain ⟨hc1, hc2⟩ := cuts_len s.data.toList
  have hsplit := Tryd.strings_Split s ⟨#[32]⟩ m w (by omega) hm (by decide)
  rw [hpl, pieces] at hsplit
  have hfin : wordsS s = kept (cuts s.data.toList) (cuts s.data.toList).length := by
    unfold wordsS kept
    rw [words_filter, List.take_length]
  generalize hp : cuts s.data.toList = p at hsplit hc1 hc2 hfin
  have HF := Lib.hid hfin
  have HS := Lib.hid hsplit
  have hple : p.length ≤ 1001 := by omega
  have HC : Hid (∀ x ∈ p, x.length ≤ 1000) := fun x hx => by have := hc2 x hx; omega
  clear hfin hsplit hp hpl hc1 hc2 hsl
  go_enter Tryd.func6, Tryd.ntmps6
  go_wp2_with fail
  refine HS.out.mono ?_
  rintro e w' ⟨rfl, rfl⟩
  have hB0 : Below w.heap.size w (w.alloc (.cells ((p.map bs).map Value.string).toArray 9)) := (Below.refl _ _).alloc (Nat.le_refl _) _
  have hcell : ∀ k (hk : k < p.length), (w.alloc (.cells ((p.map bs).map Value.string).toArray 9)).cell? ⟨w.heap.size, k, none⟩ = some (.string (bs p[k])) := by
    intro k hk
    rw [World.cell?_alloc_mark]
    simp [hk]
  have hsz0 : (w.alloc (.cells ((p.map bs).map Value.string).toArray 9)).heap.size = w.heap.size + 1 := by simp
  generalize w.alloc (.cells ((p.map bs).map Value.string).toArray 9) = w0 at hB0 hcell hsz0
  have HCELL := Lib.hid hcell
  have HSZ := Lib.hid hsz0
  clear hcell hsz0 hm
  go_wp2
  go_loopw [3, 9] (fun v i wr => ∃ k : Nat, k ≤ p.length ∧ i = .int .i64 k ∧ OwnS wr (w.heap.size + 1) v (kept p k) ∧ Below (w.heap.size + 1) w0 wr)
    (fun _ i _ => p.length - (intOf i).toNat)
  case atStart => exact ⟨0, Nat.zero_le _, rfl, OwnS.nil _ _, Below.refl _ _⟩
  case round =>
    obtain ⟨k, hk, rfl, hown, hB⟩ := hrel
    have hsz : w.heap.size + 1 ≤ wr.heap.size := by have := hB.size; have := HSZ.out; omega
    have hkl := kept_len p k hk
    obtain ⟨va, vc, hv⟩ := hown.shape
    subst hv
    by_cases hlt : k < p.length
    · have hck : wr.cell? ⟨w.heap.size, k, none⟩ = some (.string (bs p[k])) := (hB.cell (p := ⟨w.heap.size, k, none⟩) (by simp)).trans (HCELL.out k hlt)
      have hkn := kept_next p k hlt
      generalize hx : p[k] = x at hck hkn
      clear hx
      by_cases hemp : x = []
      · subst hemp
        have hke : kept p (k + 1) = kept p k := hkn
        have hck2 : wr.cell? ⟨w.heap.size, k, none⟩ = some (.string ⟨#[]⟩) := hck
        have HK := Lib.hid hke
        clear hkn hke hck
        go_wp2
        go_roundw
        case rel => exact ⟨k + 1, by omega, by go_num, by rw [HK.out]; exact hown, hB⟩
        case measure => simp [intOf]; omega
      · have hke : kept p (k + 1) = kept p k ++ [bs x] := by
          rw [hkn, if_neg]
          cases x with
          | nil => exact absurd rfl hemp
          | cons a b => simp
        have hne : (bs x).toList.isEmpty = false := by
          rw [Lib.toList_data, bs_data]
          cases x with
          | nil => exact absurd rfl hemp
          | cons a b => rfl
        have HK := Lib.hid hke
        clear hkn hke hemp
        generalize bs x = y at hck hne HK
        go_wp2_with (at_builtin; refine append_str _ rfl (.tmp 15) (.tmp 17) rfl (w.heap.size + 1) _ _ rfl (hown.alloc _) ⟨wr.heap.size, 0, none⟩ 1 y rfl ?c1 ?c2 ?c3 ?_)
        case c1 => rw [World.cell?_alloc_mark]; rfl
        case c2 => omega
        case c3 => simp; omega
        intro v' w9 hown9 hg9
        have hB9 := belowS_grown (hB.alloc hsz _) (hown.alloc _) hg9 (Nat.le_refl _) (by simp; omega)
        go_wp2
        go_roundw
        case rel => exact ⟨k + 1, by omega, by go_num, by rw [HK.out]; exact hown9, hB9⟩
        case measure => simp [intOf]; omega
    · obtain rfl : k = p.length := by omega
      go_wp2
      go_ret
      have hBw : Below w.heap.size w wr := hB0.trans (hB.mono (by omega))
      refine ⟨_, rfl, ?_, hBw⟩
      rw [HF.out]
      exact hown.mono (by omega)

theorem bs_extract (s : ByteArray) (i j : Nat) : s.extract i j = bs ((s.data.toList.drop i).take (j - i)) := by
  apply ByteArray.ext
  apply Array.ext'
  rw [extract_list]
  simp [bs]

theorem take_drop_snoc (l : List UInt8) (j k : Nat) (hj : j ≤ k) (hk : k < l.length) : (l.drop j).take (k + 1 - j) = (l.drop j).take (k - j) ++ [l[k]] := by
  have e : k + 1 - j = (k - j) + 1 := by omega
  rw [e, List.take_succ_eq_append_getElem (by rw [List.length_drop]; omega)]
  congr 2
  rw [List.getElem_drop]
  congr 1
  omega

set_option maxRecDepth 100000 in
theorem refwords_any (s : ByteArray) (w : World) (hs : s.size ≤ 1000) : Calls Tryd.prog 21 #[.string s] w (WordsOut w (wordsS s)) := by
  have hsl : s.data.toList.length = s.size := by rw [Array.length_toList]; rfl
  obtain ⟨hwl, _⟩ := words_len s.data.toList []
  rw [hsl] at hwl
  go_enter Tryd.func21, Tryd.ntmps21
  go_wp2
  go_loopw [3, 4, 5] (fun v f i wr => ∃ (k : Nat) (done : List (List UInt8)) (cur : List UInt8), k ≤ s.size + 1 ∧ i = .int .i64 k ∧ OwnS wr w.heap.size v (done.map bs) ∧ done.length ≤ 1001 ∧ Below w.heap.size w wr ∧
      ((cur = [] ∧ f = .int .i64 (-1)) ∨ (cur ≠ [] ∧ k ≤ s.size ∧ ∃ j : Nat, j < k ∧ f = .int .i64 j ∧ cur = (s.data.toList.drop j).take (k - j))) ∧
      Hid (wordsL [] s.data.toList = done ++ (if k ≤ s.size then wordsL cur (s.data.toList.drop k) else [])) ∧ (s.size < k → cur = []))
    (fun _ _ i _ => s.size + 1 - (intOf i).toNat)
  case atStart => exact ⟨0, [], [], Nat.zero_le _, rfl, OwnS.nil _ _, by decide, Below.refl _ _, .inl ⟨rfl, rfl⟩, by show _ = _; simp, fun _ => rfl⟩
  case round =>
    obtain ⟨k, done, cur, hk, rfl, hown, hdl, hB, hcur, hR, hke⟩ := hrel
    have hsz := hB.size
    obtain ⟨va, vc, hv⟩ := hown.shape
    rw [List.length_map] at hv
    subst hv
    by_cases hlt : k < s.size
    · have hR2 := hR.out
      rw [if_pos (by omega), drop_cons s k hlt] at hR2
      have hget : s.data.toList[k]'(by omega) = s[k] := rfl
      generalize hc : s[k] = c at hR2 hget
      by_cases hsp : c = 32
      · subst hsp
        rw [wordsL, if_pos rfl] at hR2
        rcases hcur with ⟨rfl, rfl⟩ | ⟨hcne, _, j, hjk, rfl, hcj⟩
        · rw [if_pos rfl] at hR2
          have HR : Hid (wordsL [] s.data.toList = done ++ (if k + 1 ≤ s.size then wordsL [] (s.data.toList.drop (k + 1)) else [])) := by
            show _ = _; rw [if_pos (by omega)]; exact hR2
          clear hR hR2 hget hsl hwl
          go_wp2
          go_roundw
          case rel => exact ⟨k + 1, done, [], by omega, by go_num, hown, hdl, hB, .inl ⟨rfl, rfl⟩, HR, fun _ => rfl⟩
          case measure => simp [intOf]; omega
        · rw [if_neg hcne] at hR2
          have HR : Hid (wordsL [] s.data.toList = (done ++ [cur]) ++ (if k + 1 ≤ s.size then wordsL [] (s.data.toList.drop (k + 1)) else [])) := by
            show _ = _; rw [if_pos (by omega), hR2, List.append_assoc]; rfl
          have hslc : ∀ wx : World, (Instr.slice 9 (.string s) (some (.int .i64 j)) (some (.int .i64 k)) none).run Tryd.prog wx = .ok (.string (bs cur)) wx := by
            intro wx
            rw [run_slice_string (P := Tryd.prog) (w := wx) 9 s .i64 .i64 j k Tryd.underlying9 (by omega) (by omega) (by omega), hcj, Int.toNat_natCast, Int.toNat_natCast, ← bs_extract]
          have hjk2 : (j : Int) < k := by omega
          clear hR hR2 hget hsl hcj hcne
          go_wp2_with (at_builtin; refine append_str _ rfl (.tmp 35) (.tmp 40) rfl w.heap.size _ _ rfl (hown.alloc _) ⟨wr.heap.size, 0, none⟩ 1 (bs cur) rfl ?b1 ?b2 ?b3 ?_)
          case b1 => rw [World.cell?_alloc_mark]; rfl
          case b2 => first | omega | (rw [List.length_map]; omega)
          case b3 => first | omega | (simp; omega)
          intro v' w9 hown9 hg9
          have hB9 := belowS_grown (hB.alloc hsz _) (hown.alloc _) hg9 (Nat.le_refl _) (by simp; omega)
          have hown8 : OwnS w9 w.heap.size v' ((done ++ [cur]).map bs) := by rw [List.map_append]; exact hown9
          have hdl8 : (done ++ [cur]).length ≤ 1001 := by
            have := congrArg List.length HR.out
            simp only [List.length_append, List.length_cons, List.length_nil] at this ⊢
            omega
          clear hown hown9 hg9 hB
          go_wp2
          go_roundw
          case rel => exact ⟨k + 1, done ++ [cur], [], by omega, by go_num, hown8, hdl8, hB9, .inl ⟨rfl, rfl⟩, HR, fun _ => rfl⟩
          case measure => simp [intOf]; omega
      · rw [wordsL, if_neg hsp] at hR2
        have hsp2 : ((c.toNat : Int) != 32) = true := by
          rw [bne_iff_ne]; intro e
          apply hsp
          apply UInt8.toNat_inj.1
          show c.toNat = 32
          omega
        rcases hcur with ⟨rfl, rfl⟩ | ⟨hcne, _, j, hjk, rfl, hcj⟩
        · have HR : Hid (wordsL [] s.data.toList = done ++ (if k + 1 ≤ s.size then wordsL [c] (s.data.toList.drop (k + 1)) else [])) := by
            show _ = _; rw [if_pos (by omega)]; exact hR2
          have hcj : [c] = (s.data.toList.drop k).take (k + 1 - k) := by
            rw [take_drop_snoc _ k k (Nat.le_refl _) (by omega), Nat.sub_self, hget]; rfl
          have HCJ := Lib.hid hcj
          clear hR hR2 hget hsl hcj hwl hsp
          go_wp2
          go_roundw
          case rel => exact ⟨k + 1, done, [c], by omega, by go_num, hown, hdl, hB, .inr ⟨by simp, by omega, k, by omega, rfl, HCJ.out⟩, HR, fun h => by omega⟩
          case measure => simp [intOf]; omega
        · have HR : Hid (wordsL [] s.data.toList = done ++ (if k + 1 ≤ s.size then wordsL (cur ++ [c]) (s.data.toList.drop (k + 1)) else [])) := by
            show _ = _; rw [if_pos (by omega)]; exact hR2
          have hcj2 : cur ++ [c] = (s.data.toList.drop j).take (k + 1 - j) := by
            rw [take_drop_snoc _ j k (by omega) (by omega), hget, ← hcj]
          have HCJ := Lib.hid hcj2
          have hjk2 : (j : Int) < k := by omega
          clear hR hR2 hget hsl hcj hcj2 hwl hsp hcne
          go_wp2
          go_roundw
          case rel => exact ⟨k + 1, done, cur ++ [c], by omega, by go_num, hown, hdl, hB, .inr ⟨by simp, by omega, j, by omega, rfl, HCJ.out⟩, HR, fun h => by omega⟩
          case measure => simp [intOf]; omega
    · by_cases hk1 : k = s.size
      · have hR2 := hR.out
        rw [if_pos (by omega), List.drop_eq_nil_of_le (by omega)] at hR2
        have hlt2 : ¬ (k : Int) < s.size := by omega
        have hle2 : (k : Int) ≤ s.size := by omega
        rcases hcur with ⟨rfl, rfl⟩ | ⟨hcne, _, j, hjk, rfl, hcj⟩
        · have HR : Hid (wordsL [] s.data.toList = done ++ (if k + 1 ≤ s.size then wordsL [] (s.data.toList.drop (k + 1)) else [])) := by
            show _ = _; rw [if_neg (by omega)]; exact hR2
          have HK1 := Lib.hid hk1
          clear hR hR2 hsl hwl hk1 hlt
          go_wp2
          go_roundw
          case rel => exact ⟨k + 1, done, [], by omega, by go_num, hown, hdl, hB, .inl ⟨rfl, rfl⟩, HR, fun _ => rfl⟩
          case measure => simp [intOf]; omega
        · rw [wordsL, if_neg hcne] at hR2
          have HR : Hid (wordsL [] s.data.toList = (done ++ [cur]) ++ (if k + 1 ≤ s.size then wordsL [] (s.data.toList.drop (k + 1)) else [])) := by
            show _ = _; rw [if_neg (by omega), List.append_nil]; exact hR2
          have HK1 := Lib.hid hk1
          have hslc : ∀ wx : World, (Instr.slice 9 (.string s) (some (.int .i64 j)) (some (.int .i64 k)) none).run Tryd.prog wx = .ok (.string (bs cur)) wx := by
            intro wx
            rw [run_slice_string (P := Tryd.prog) (w := wx) 9 s .i64 .i64 j k Tryd.underlying9 (by omega) (by omega) (by omega), hcj, Int.toNat_natCast, Int.toNat_natCast, ← bs_extract]
          have hjk2 : (j : Int) < k := by omega
          clear hR hR2 hsl hcj hcne hk1 hlt
          go_wp2_with (at_builtin; refine append_str _ rfl (.tmp 35) (.tmp 40) rfl w.heap.size _ _ rfl (hown.alloc _) ⟨wr.heap.size, 0, none⟩ 1 (bs cur) rfl (by rw [World.cell?_alloc_mark]; rfl) ?d2 ?d3 ?_)
          case d2 => first | omega | (rw [List.length_map]; omega)
          case d3 => first | omega | (simp; omega)
          intro v' w9 hown9 hg9
          have hB9 := belowS_grown (hB.alloc hsz _) (hown.alloc _) hg9 (Nat.le_refl _) (by simp; omega)
          have hown8 : OwnS w9 w.heap.size v' ((done ++ [cur]).map bs) := by rw [List.map_append]; exact hown9
          have hdl8 : (done ++ [cur]).length ≤ 1001 := by
            have := congrArg List.length HR.out
            simp only [List.length_append, List.length_cons, List.length_nil] at this ⊢
            omega
          clear hown hown9 hg9 hB
          go_wp2
          go_roundw
          case rel => exact ⟨k + 1, done ++ [cur], [], by omega, by go_num, hown8, hdl8, hB9, .inl ⟨rfl, rfl⟩, HR, fun _ => rfl⟩
          case measure => simp [intOf]; omega
      · have hk2 : k = s.size + 1 := by omega
        have hR2 := hR.out
        rw [if_neg (by omega), List.append_nil] at hR2
        have HF : Hid (wordsS s = done.map bs) := by show _ = _; unfold wordsS; rw [hR2]
        have hgt : ¬ (k : Int) ≤ s.size := by omega
        clear hR hR2 hsl hwl hk1 hlt hk2
        go_wp2
        go_ret
        refine ⟨_, rfl, ?_, hB⟩
        rw [HF.out]
        exact hown
end Go.Proofs.YtodlgnaoghladaaDoor
