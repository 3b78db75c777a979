/- str.Replace: what it comes to. -/
import Derived.Test.YtodlgnaoghladaaRows
import Derived.Test.YtodlgnaoghladaaOwn
import Derived.Test.YtodlgnaoghladaaShelf
import Derived.Lib.IndexMore
import Derived.Lib.IndexBytes
namespace Go.Proofs.Ytodlgnaoghladaa
open Go.ChangeShapes Go.WideShapes Go.ChangeAt Go.RowKit

/-! ### the plain law -/
def replN (p w : List UInt8) : Nat → List UInt8 → List UInt8
  | 0, s => s
  | n + 1, s => match Lib.index s p with
    | .ofNat k => s.take k ++ w ++ replN p w n (s.drop (k + p.length))
    | .negSucc _ => s

theorem replN_more (p w : List UInt8) (hp : p ≠ []) : ∀ (n m : Nat) (s : List UInt8), s.length ≤ n → s.length ≤ m → replN p w n s = replN p w m s
  | 0, m, s, h, _ => by
    obtain rfl : s = [] := List.eq_nil_of_length_eq_zero (by omega)
    have e : Lib.index [] p = .negSucc 0 := by cases p with
      | nil => exact (hp rfl).elim
      | cons a b => rfl
    cases m with
    | zero => rfl
    | succ m => unfold replN; rw [e]
  | n + 1, 0, s, _, h => by
    obtain rfl : s = [] := List.eq_nil_of_length_eq_zero (by omega)
    have e : Lib.index [] p = .negSucc 0 := by cases p with
      | nil => exact (hp rfl).elim
      | cons a b => rfl
    unfold replN
    rw [e]
  | n + 1, m + 1, s, h1, h2 => by
    unfold replN
    cases hi : Lib.index s p with
    | negSucc _ => rfl
    | ofNat k =>
      have hl : 0 < p.length := List.length_pos_iff.2 hp
      simp only
      rw [replN_more p w hp n m]
      · simp; omega
      · simp; omega

def repl (p w s : List UInt8) : List UInt8 := replN p w s.length s

theorem repl_none (p w s : List UInt8) (h : Lib.index s p = -1) : repl p w s = s := by
  unfold repl
  cases hs : s.length with
  | zero => rfl
  | succ n => unfold replN; rw [h]; rfl

theorem repl_some (p w s : List UInt8) (k : Nat) (hp : p ≠ []) (h : Lib.index s p = k) : repl p w s = s.take k ++ w ++ repl p w (s.drop (k + p.length)) := by
  have hroom := Lib.index_room s p (by omega)
  have hl : 0 < p.length := List.length_pos_iff.2 hp
  unfold repl
  cases hs : s.length with
  | zero => omega
  | succ n =>
    rw [replN, h]
    simp only [Int.ofNat_eq_natCast]
    rw [replN_more p w hp n (s.drop (k + p.length)).length]
    · simp; omega
    · exact Nat.le_refl _

def bs (l : List UInt8) : ByteArray := ⟨l.toArray⟩
/-- what 'Replace' answers -/
def replV (l : List UInt8) : Value := if l.length < 4096 then .tuple #[.string (bs l), .int .i64 0] else .tuple #[.string (bs []), .int .i64 14]

theorem replV_big {l : List UInt8} (h : 4096 ≤ l.length) : replV l = .tuple #[.string ⟨#[]⟩, .int .i64 14] := by
  unfold replV; rw [if_neg (by omega)]; rfl
theorem replV_fine {l : List UInt8} (h : l.length < 4096) : replV l = .tuple #[.string (bs l), .int .i64 0] := by
  unfold replV; rw [if_pos h]

theorem Try.info5 : (Try.prog.info? 5).map (fun i => (i.zero, i.size, i.bytes)) = some (some (.int .u8 0), 1, 1) := by kernel_rfl

theorem extract_list (s : ByteArray) (a b : Nat) : (s.extract a b).data.toList = (s.data.toList.drop a).take (b - a) := by
  rw [Lib.extract_data]

def Some4 (W : World) (v : Value) (e : Ending) (w' : World) : Prop := e = .returned v ∧ Below W.heap.size W w'

set_option maxHeartbeats 400000 in
set_option maxRecDepth 100000 in
theorem replace_any (s p r : ByteArray) (w : World) (hs : s.size < 4294967281) (hr : r.size < 4294967281) (hp : p.data.toList ≠ [])
    (hm : ∃ m, w.cell? ⟨0, 0, none⟩ = some (.int .i64 m)) (h0 : 0 < w.heap.size) :
    Calls Try.prog 11 #[.string s, .string p, .string r] w (Some4 w (replV (repl p.data.toList r.data.toList s.data.toList))) := by
  obtain ⟨m, hm⟩ := hm
  have hpe2 : p.toList.isEmpty = false := by
    rw [Lib.toList_data]
    cases hh : p.data.toList with
    | nil => exact (hp hh).elim
    | cons a b => rfl
  have hpl : 0 < p.size := by
    have := List.length_pos_iff.2 hp
    rw [Array.length_toList] at this
    exact this
  go_enter Try.func11, Try.ntmps11
  go_wp2
  go_loopw [0, 8] (fun c v wr => ∃ (cs : ByteArray) (acc : List UInt8), c = .string cs ∧ OwnB wr w.heap.size 5 v acc ∧ acc.length < 4096 ∧ cs.size ≤ s.size ∧ Below w.heap.size w wr ∧
      Hid (repl p.data.toList r.data.toList s.data.toList = acc ++ repl p.data.toList r.data.toList cs.data.toList))
    (fun c _ _ => match c with | .string cs => cs.size | _ => 0)
  case atStart => exact ⟨s, [], rfl, OwnB.nil _ _ _, by decide, Nat.le_refl _, Below.refl _ _, rfl⟩
  case round =>
    obtain ⟨cs, acc, rfl, hown, hacc, hcs, hB, hR⟩ := hrel
    have hmr : wr.cell? ⟨0, 0, none⟩ = some (.int .i64 m) := (hB.cell (p := ⟨0, 0, none⟩) h0).trans hm
    have hsz := hB.size
    obtain ⟨va, vc, hv⟩ := hown.shape
    subst hv
    have hlc : cs.data.toList.length = cs.size := by rw [Array.length_toList]; rfl
    have hlr : r.data.toList.length = r.size := by rw [Array.length_toList]; rfl
    have hlp : p.data.toList.length = p.size := by rw [Array.length_toList]; rfl
    rcases Lib.index_spec cs.data.toList p.data.toList with ⟨hix, -⟩ | ⟨k, hix, hk, -, -⟩
    · have hR2 : repl p.data.toList r.data.toList s.data.toList = acc ++ cs.data.toList := by
        have := hR.out; rw [repl_none _ _ _ hix] at this; exact this
      have HI := Lib.hid hix
      by_cases hq : acc.length + cs.size < 4096
      · have HF : Hid (replV (repl p.data.toList r.data.toList s.data.toList) = .tuple #[.string (bs (acc ++ cs.data.toList)), .int .i64 0]) := by
          rw [hR2]; exact replV_fine (by simp only [List.length_append]; omega)
        clear hR hix hR2 hlc hlr hlp
        go_wp2_with fail
        refine (Try.strings_Index cs p m wr (by omega) hmr).mono ?_
        rw [HI.out]
        rintro e w' ⟨rfl, rfl⟩
        go_wp2_with (at_builtin; refine append_string _ rfl (.tmp 24) (.tmp 27) 39 9 rfl w.heap.size 5 Try.underlying39 Try.underlying9 Try.info5 _ acc rfl hown _ rfl ?c1 ?c2 ?_)
        case c1 => first | omega | (simp; omega)
        case c2 => first | omega | (simp; omega)
        intro v' w1 hown1 hg1
        have hB1 := below_grown hB hown hg1 (Nat.le_refl _) hsz
        generalize acc ++ cs.data.toList = acc1 at hown1 HF
        obtain ⟨va1, vc1, hv1⟩ := hown1.shape
        subst hv1
        have hback := run_string (P := Try.prog) w1 39 9 5 Try.underlying39 Try.underlying5 Try.underlying9 _ _ _ hown1
        clear hown hg1 hB
        go_wp2
        go_ret2
        refine ⟨?_, hB1⟩
        rw [HF.out]
        rfl
      · replace hq : 4096 ≤ acc.length + cs.size := by omega
        have HF : Hid (replV (repl p.data.toList r.data.toList s.data.toList) = .tuple #[.string ⟨#[]⟩, .int .i64 14]) := by
          rw [hR2]; exact replV_big (by simp only [List.length_append]; omega)
        clear hR hix hR2 hlc hlr hlp
        go_wp2_with fail
        refine (Try.strings_Index cs p m wr (by omega) hmr).mono ?_
        rw [HI.out]
        rintro e w' ⟨rfl, rfl⟩
        go_wp2
        go_ret2
        refine ⟨?_, hB⟩
        rw [HF.out]
        rfl
    · have hroom := Lib.index_room cs.data.toList p.data.toList (by omega)
      have hR2 := hR.out
      rw [repl_some _ _ _ k hp hix] at hR2
      have hroom2 : k + p.size ≤ cs.size := by omega
      have HI := Lib.hid hix
      clear hR hix hk hroom
      by_cases hq : acc.length + k < 4096
      · by_cases hq2 : acc.length + k + r.size < 4096
        · have HR : Hid (repl p.data.toList r.data.toList s.data.toList = (acc ++ cs.data.toList.take k ++ r.data.toList) ++ repl p.data.toList r.data.toList (cs.data.toList.drop (k + p.data.toList.length))) := by
            show _ = _; rw [hR2]; simp only [List.append_assoc]
          clear hR2
          go_wp2_with fail
          refine (Try.strings_Index cs p m wr (by omega) hmr).mono ?_
          rw [HI.out]
          rintro e w' ⟨rfl, rfl⟩
          go_wp2_with (at_builtin; refine append_string _ rfl (.tmp 24) (.tmp 27) 39 9 rfl w.heap.size 5 Try.underlying39 Try.underlying9 Try.info5 _ acc rfl hown _ rfl ?c3 ?c4 ?_)
          case c3 => first | omega | (simp; omega)
          case c4 => first | omega | (simp; omega)
          intro v' w1 hown1 hg1
          have hB1 := below_grown hB hown hg1 (Nat.le_refl _) hsz
          have el : (acc ++ cs.data.toList.take k).length = acc.length + k := by first | (simp; done) | (simp; omega)
          generalize acc ++ cs.data.toList.take k = acc1 at hown1 HR el
          obtain ⟨va1, vc1, hv1⟩ := hown1.shape
          subst hv1
          have hl1 : acc1.length + r.size < 4096 := by omega
          have hl2 : acc1.length ≤ acc.length + k := by omega
          have hne : ((k : Int) == (cs.size : Int)) = false := by simp; omega
          clear hown hg1 hB el
          have hsz1 := hB1.size
          go_wp2_with (at_builtin; refine append_string _ rfl (.tmp 41) (.tmp 42) 39 9 rfl w.heap.size 5 Try.underlying39 Try.underlying9 Try.info5 _ acc1 rfl hown1 _ rfl ?c5 ?c6 ?_)
          case c5 => first | omega | (simp; omega)
          case c6 => first | omega | (simp; omega)
          intro v2 w2 hown2 hg2
          have hB2 := below_grown hB1 hown1 hg2 (Nat.le_refl _) hsz1
          have el : (acc1 ++ r.data.toList).length = acc1.length + r.size := by rw [List.length_append, hlr]
          generalize acc1 ++ r.data.toList = acc2 at hown2 HR el
          obtain ⟨va2, vc2, hv2⟩ := hown2.shape
          subst hv2
          have hl3 : acc2.length < 4096 := by omega
          clear hown1 hg2 hB1 el
          go_wp2
          go_roundw
          case rel =>
            refine ⟨_, acc2, rfl, hown2, hl3, ?_, hB2, ?_⟩
            · simp; omega
            · show _ = _
              rw [HR.out, extract_list, hlp, List.take_of_length_le (by first | (simp; done) | (simp; omega))]
          case measure => simp; omega
        · replace hq2 : 4096 ≤ acc.length + k + r.size := by omega
          have HF : Hid (replV (repl p.data.toList r.data.toList s.data.toList) = .tuple #[.string ⟨#[]⟩, .int .i64 14]) := by
            rw [hR2]; exact replV_big (by simp only [List.length_append, List.length_take]; omega)
          clear hR2
          go_wp2_with fail
          refine (Try.strings_Index cs p m wr (by omega) hmr).mono ?_
          rw [HI.out]
          rintro e w' ⟨rfl, rfl⟩
          go_wp2_with (at_builtin; refine append_string _ rfl (.tmp 24) (.tmp 27) 39 9 rfl w.heap.size 5 Try.underlying39 Try.underlying9 Try.info5 _ acc rfl hown _ rfl ?c7 ?c8 ?_)
          case c7 => first | omega | (simp; omega)
          case c8 => first | omega | (simp; omega)
          intro v' w1 hown1 hg1
          have hB1 := below_grown hB hown hg1 (Nat.le_refl _) hsz
          have el : (acc ++ cs.data.toList.take k).length = acc.length + k := by first | (simp; done) | (simp; omega)
          generalize acc ++ cs.data.toList.take k = acc1 at hown1 el
          obtain ⟨va1, vc1, hv1⟩ := hown1.shape
          subst hv1
          have hl1 : 4096 ≤ acc1.length + r.size := by omega
          have hl2 : acc1.length ≤ acc.length + k := by omega
          have hne : ((k : Int) == (cs.size : Int)) = false := by simp; omega
          clear hown hg1 hB el
          go_wp2
          go_ret2
          refine ⟨?_, hB1⟩
          rw [HF.out]
          rfl
      · replace hq : 4096 ≤ acc.length + k := by omega
        have HF : Hid (replV (repl p.data.toList r.data.toList s.data.toList) = .tuple #[.string ⟨#[]⟩, .int .i64 14]) := by
          rw [hR2]; exact replV_big (by simp only [List.length_append, List.length_take]; omega)
        clear hR2
        go_wp2_with fail
        refine (Try.strings_Index cs p m wr (by omega) hmr).mono ?_
        rw [HI.out]
        rintro e w' ⟨rfl, rfl⟩
        go_wp2
        go_ret2
        refine ⟨?_, hB⟩
        rw [HF.out]
        rfl
theorem index_any (s p : ByteArray) (w : World) (hs : s.size < 4294967281) (hm : ∃ m, w.cell? ⟨0, 0, none⟩ = some (.int .i64 m)) :
    Calls Try.prog 12 #[.string s, .string p] w fun e w' => e = .returned (.int .i64 (Lib.index s.data.toList p.data.toList + 1)) ∧ w = w' := by
  obtain ⟨m, hm⟩ := hm
  have h1 := Lib.index_ge s.data.toList p.data.toList
  have hsl : s.size ≤ 4294967281 := by omega
  have h2 := Lib.index_le s.data.toList p.data.toList
  have h3 : s.data.toList.length = s.size := by rw [Array.length_toList]; rfl
  rw [h3] at h2
  clear h3
  go_enter Try.func12, Try.ntmps12
  go_wp2_with fail
  refine (Try.strings_Index s p m w hs hm).mono ?_
  generalize hk : Lib.index s.data.toList p.data.toList = k at h1 h2
  have HK := Lib.hid hk
  clear hk
  rintro e w' ⟨rfl, rfl⟩
  go_wp2
  go_ret
  rw [HK.out]
  exact ⟨rfl, rfl⟩

theorem number_any (n b : Int) (w : World) (hn : (Lit.int .i64 n).wf = true) (hb : 0 < b) (hb2 : b ≤ 4611686018427387904) :
    Calls Try.prog 13 #[.int .i64 n, .int .i64 b] w fun e w' => e = .returned (.int .i64 (n % b)) ∧ w = w' := by
  have hx : -9223372036854775808 ≤ n ∧ n ≤ 9223372036854775807 := by simpa [Lit.wf, IntKind.min, IntKind.max, IntKind.signed, IntKind.bits] using hn
  obtain ⟨hx1, hx2⟩ := hx
  have hb0 : (b == 0) = false := by simp; omega
  have ht1 : n.tmod b < b := Int.tmod_lt_of_pos n hb
  have ht2 : -b < n.tmod b := by
    have := Int.tmod_lt_of_pos (-n) hb
    rw [Int.neg_tmod] at this
    omega
  have hemod : n % b = if n.tmod b < 0 then n.tmod b + b else n.tmod b := by
    have e := Int.tmod_add_mul_tdiv n b
    have e2 : n % b = n.tmod b % b := by
      conv => lhs; rw [← e]
      rw [Int.add_mul_emod_self_left]
    rw [e2]
    split
    · rw [← Int.add_emod_right, Int.emod_eq_of_lt (by omega) (by omega)]
    · exact Int.emod_eq_of_lt (by omega) ht1
  generalize hk : n.tmod b = k at ht1 ht2 hemod
  have HE := Lib.hid hemod
  clear hemod
  go_enter Try.func13, Try.ntmps13
  go_wp2
  · go_ret
    have hneg : k < 0 := by assumption
    rw [HE.out, if_pos hneg]
    exact ⟨rfl, rfl⟩
  · go_ret
    have hneg : ¬ k < 0 := by omega
    rw [HE.out, if_neg hneg]
    exact ⟨rfl, rfl⟩
end Go.Proofs.Ytodlgnaoghladaa
