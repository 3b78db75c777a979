/- The reader's program; dump.ReadNodes; dump.Nodes. DumpValues' walk. -/
import Derived.Test.YtmkghfkikclodaaDoorPlainN
import Derived.Test.YtmkghfkikclodaaDoorM06
import Derived.Test.YtmkghfkikclodaaDoorM27
import Derived.Test.YtmkghfkikclodaaDoorValidN
import Derived.Test.YtmkghfkikclodaaDoorM12
import Derived.Test.YtmkghfkikclodaaDoorM19
import Derived.Laws.AppendOwnNone
set_option linter.unusedVariables false
set_option linter.unusedSimpArgs false
namespace Go.Proofs.YtmkghfkikclodaaDoor
open Go.RowKit

/-- block b is a reader: the bytes, where it stands, what it met -/
def RdX (w : World) (b : Nat) (bv : Value) (pos : Nat) (ev : Value) : Prop := w.heap[b]? = some (.cells #[bv, .int .i64 pos, ev] 57 (0, 0))
section
variable {p : Nat → Addr} {w w' : World} {b : Nat} {bv ev : Value} {pos : Nat} {err : Option Nat}
theorem RdX.c1 (h : RdX w b bv pos ev) : w.cell? ⟨b, 1, none⟩ = some (.int .i64 pos) := by rw [Joins.cell_of_block h]; rfl
theorem RdX.c2 (h : RdX w b bv pos ev) : w.cell? ⟨b, 2, none⟩ = some ev := by rw [Joins.cell_of_block h]; rfl
theorem RdX.fr (h : RdX w b bv pos ev) (i : Nat) : w.frozen? ⟨b, i, none⟩ = false := Joins.unfrozen_of_block h i
theorem RdX.lt (h : RdX w b bv pos ev) : b < w.heap.size := (Array.getElem?_eq_some_iff.1 h).1
theorem RdX.set2 (h : RdX w b bv pos ev) (x : Value) : RdX (w.setCell ⟨b, 2, none⟩ x) b bv pos x := by unfold RdX; rw [Joins.block_setCell h]; rfl
theorem RdX.below {B : Nat} (h : RdX w b bv pos ev) (hb : Below B w w') (hB : b < B) : RdX w' b bv pos ev := (hb.block b hB).trans h
theorem RdAt.x (h : RdAt p w b bv pos err) : RdX w b bv pos (errO p err) := h
theorem Bel2.bel {c B B' : Nat} (h : Bel2 b c B w w') (hc : B' ≤ c) (hB : B' ≤ B) : Bel b B' w w' := ⟨h.os, h.tape, h.output, h.size, fun k hk hn => h.block k (by omega) hn (by omega)⟩
end

def XPost (b : Nat) (bv : Value) (pos : Nat) (ev : Value) (W : World) (e : Ending) (w' : World) : Prop := e = .returned (.tuple #[]) ∧ RdX w' b bv pos ev ∧ Bel b W.heap.size W w'
theorem fail_iface (w : World) (b : Nat) (bv : Value) (pos : Nat) (t : TypeId) (u : Value) (h : RdX w b bv pos .nilIface) :
    Calls Tryd.prog 45 #[.pointer (some ⟨b, 0, none⟩), .iface t u] w (XPost b bv pos (.iface t u) w) := by
  have c2 := h.c2
  have f2 := h.fr 2
  have hs := h.set2 (.iface t u)
  have HS := Lib.hid hs
  have hB : Hid (Bel b w.heap.size w (w.setCell ⟨b, 2, none⟩ (.iface t u))) := (Bel.refl _ _ _).set _ _
  clear hs h
  go_enter Tryd.func45, Tryd.ntmps45
  go_wp2
  go_returns
  exact ⟨rfl, HS.out, hB.out⟩

theorem readP_len {bs : List UInt8} {l : List Nd} {n : Nat} (hlen : bs.length ≤ 50000) (h : readP bs = some (l, n)) : n ≤ bs.length ∧ l.length ≤ 4096 := by
  have hi := nread_inv bs hlen 41 4096 (0, Option.none) ⟨by decide, Nat.zero_le _, fun _ => by decide⟩
  unfold readP at h
  split at h
  · cases h
  · split at h
    · injection h with h
      injection h with h1 h2
      subst h1 h2
      exact ⟨hi.1.2.1, hi.2⟩
    · cases h

def NodesPost (b : Nat) (bv : Value) (W : World) (q : Option (List Nd × Nat)) (e : Ending) (w' : World) : Prop :=
  (∃ a n c, e = .returned (.slice a n c) ∧ ((q = Option.none ∧ ∃ t u pos, RdX w' b bv pos (.iface t u)) ∨ (∃ l pos, q = some (l, pos) ∧ n = l.length ∧ RepNSl (New W.heap.size w'.heap.size) w' a l ∧ RdX w' b bv pos .nilIface))) ∧ Bel b W.heap.size W w'

set_option maxRecDepth 100000 in
set_option maxHeartbeats 1000000 in
theorem nodes_any (p : Nat → Addr) (B0 b : Nat) (bs : List UInt8) (bv : Value) (hB0 : B0 ≤ b) (hb6 : 6 ≤ b) (hlen : bs.length ≤ 50000) (w : World) (h : RdAt p w b bv 0 Option.none) (hbs : Bs B0 w bv bs) (hE : Errs 6 p w) :
    Calls Tryd.prog 33 #[.pointer (some ⟨b, 0, none⟩)] w (NodesPost b bv w (readP bs)) := by
  have hb := h.lt
  have hal := bal w (.cells #[.int .i64 4096] 3)
  have hinv : InvN bs 4096 (0, Option.none) := ⟨by decide, Nat.zero_le _, fun _ => by decide⟩
  have hnb : NB (w.alloc (.cells #[.int .i64 4096] 3)) w.heap.size (4096 : Nat) := heap_alloc_new w _
  have HN := Lib.hid (nread_any p B0 b w.heap.size bs bv hB0 (by omega) (by omega) (by omega) (by omega) hlen 41 (w.alloc (.cells #[.int .i64 4096] 3)) (0, Option.none) 4096 1 rfl (h.below hal hb) hnb
    (hbs.bel (Bel.of (b := b) hal) hB0 (by omega)) (fun g hg => hE.below hal (by omega) g (by omega)) hinv)
  have HI := Lib.hid (nread_inv bs hlen 41 4096 (0, Option.none) hinv).2
  have HE := Lib.hid fun (w' : World) (hb : Bel2 b w.heap.size (w.alloc (.cells #[.int .i64 4096] 3)).heap.size (w.alloc (.cells #[.int .i64 4096] 3)) w') => (hE.below hal (by omega)).bel2 hb (by simp; omega) hb6 (by omega)
  have hcell : (w.alloc (.cells #[.int .i64 4096] 3)).cell? ⟨w.heap.size, 0, none⟩ = some (.int .i64 4096) := hnb.c
  have HAL := Lib.hid hal
  have hc2 := (h.below hal hb).c2
  unfold readP
  clear h hbs hE hinv hnb hal hcell hc2
  generalize nread bs 41 4096 (0, Option.none) = q at HN HI
  obtain ⟨l, left, pos, err⟩ := q
  simp only at HN HI ⊢
  have hl := HI.out
  generalize hQ : (if err.isSome = true then Option.none else if validB l = true then some (l, pos) else Option.none) = Q
  have HQ := Lib.hid hQ
  clear hQ
  go_enter Tryd.func33, Tryd.ntmps33
  go_wp2_with fail
  refine HN.out.mono ?_
  rintro e w1 ⟨a, c, rfl, hrep, hr, hnb, hB⟩
  have hsz := hB.size
  simp only [World.size_alloc] at hsz hrep
  have hB1 : Bel b w.heap.size w w1 := (Bel.of HAL.out).trans (hB.bel (Nat.le_refl _) (by simp))
  have c2 := hr.c2
  simp only at hr c2
  have FA := Lib.hid (And.intro hr (And.intro hrep hB1))
  have hE1 := Lib.hid (HE.out w1 hB)
  clear hB hnb
  cases err with
  | some g =>
    have e1 : Hid (Q = Option.none) := by show _ = _; rw [← HQ.out]; rfl
    simp only [errO, errV] at c2
    have HX : Hid (RdX w1 b bv pos (.iface 128 (.pointer (some (p g))))) := hr.x
    clear HQ hr hrep hB1
    go_wp2_with fail
    go_ret
    exact ⟨⟨_, _, _, rfl, .inl ⟨e1.out, _, _, _, HX.out⟩⟩, FA.out.2.2⟩
  | none =>
    simp only [errO] at c2
    have hHV := Lib.hid (valid_program p l a c w1 (by omega) (by omega) hE1.out (hrep.keep (fun _ _ => rfl) (fun k hk => hk.2)))
    have HQ2 : Hid ((if validB l = true then some (l, pos) else Option.none) = Q) := by show _ = _; rw [← HQ.out]; rfl
    generalize validB l = vb at hHV HQ2
    clear HQ hr hrep hB1
    go_wp2_with fail
    refine hHV.out.mono ?_
    rintro e w2 h2
    obtain ⟨h2, hB2⟩ := h2.elim
    have hb1 : b < w1.heap.size := by omega
    have hr2 := (FA.out.1.x).below hB2 hb1
    have hsz2 := hB2.size
    have hrep2 : RepNSl (New w.heap.size w2.heap.size) w2 a l := FA.out.2.1.keep (fun k hk => hB2.block k hk.2) (fun k hk => ⟨by have := hk.1; omega, by have := hk.2; omega⟩)
    have hB02 : Bel b w.heap.size w w2 := FA.out.2.2.trans (Bel.of (hB2.mono (by omega)))
    have HR2 := Lib.hid (And.intro hr2 (And.intro hrep2 hB02))
    have c2' : w2.cell? ⟨b, 2, none⟩ = some .nilIface := hr2.c2
    clear c2 hrep2 hB02 hB2
    rcases h2 with ⟨rfl, rfl⟩ | ⟨rfl, t, u, rfl⟩
    · clear hr2
      go_wp2_with fail
      go_ret
      exact ⟨⟨_, _, _, rfl, .inr ⟨l, pos, HQ2.out.symm, rfl, HR2.out.2.1, HR2.out.1⟩⟩, HR2.out.2.2⟩
    · have HF := Lib.hid (fail_iface w2 b bv pos t u hr2)
      clear hr2
      go_wp2_with fail
      refine HF.out.mono ?_
      rintro e w3 ⟨rfl, hr3, hB3⟩
      have c3 := hr3.c2
      have HR3 := Lib.hid (And.intro hr3 (HR2.out.2.2.trans (hB3.mono (by omega))))
      clear hr3 hB3 c2'
      go_wp2_with fail
      go_ret
      exact ⟨⟨_, _, _, rfl, .inl ⟨HQ2.out.symm, t, u, pos, HR3.out.1⟩⟩, HR3.out.2⟩

def ReadNOut (W : World) (q : Option (List Nd × Nat)) (e : Ending) (w' : World) : Prop :=
  ((q = Option.none ∧ ∃ t u, e = .returned (.tuple #[.slice none 0 0, .int .i64 0, .iface t u])) ∨ (∃ (l : List Nd) (n : Nat) (a : Option Addr) (c : Nat), q = some (l, n) ∧ e = .returned (.tuple #[.slice a l.length c, .int .i64 n, .nilIface]) ∧ RepNSl (New W.heap.size w'.heap.size) w' a l)) ∧ Below W.heap.size W w'

set_option maxRecDepth 100000 in
set_option maxHeartbeats 1000000 in
theorem readNodes_any (p : Nat → Addr) (w : World) (bv : Value) (bs : List UInt8) (hlen : bs.length ≤ 50000) (hbs : Bs w.heap.size w bv bs) (hE : Errs 6 p w) (hw : 6 ≤ w.heap.size) :
    Calls Tryd.prog 19 #[bv] w (ReadNOut w (readP bs)) := by
  have hal := bal w (.cells #[bv, .int .i64 0, .nilIface] 57)
  have hrd : RdAt p (w.alloc (.cells #[bv, .int .i64 0, .nilIface] 57)) w.heap.size bv 0 Option.none := by
    have := heap_alloc_new w (.cells #[bv, .int .i64 0, .nilIface] 57)
    simpa [RdAt, errO] using this
  have HN := Lib.hid (nodes_any p w.heap.size w.heap.size bs bv (Nat.le_refl _) hw hlen _ hrd (hbs.bel (Bel.of (b := w.heap.size) hal) (Nat.le_refl _) (Nat.le_refl _)) (hE.below hal hw))
  have HAL := Lib.hid hal
  have hbvs : ∃ a n c, bv = .slice a n c := by obtain ⟨a, c, h, _⟩ := hbs; exact ⟨a, _, c, h⟩
  obtain ⟨a0, n0, cc0, rfl⟩ := hbvs
  clear hbs hE hrd hal
  generalize readP bs = q at HN ⊢
  go_enter Tryd.func19, Tryd.ntmps19
  go_wp2_with fail
  refine HN.out.mono ?_
  rintro e w1 ⟨⟨a, n, c, rfl, h1⟩, hB⟩
  have hsz := hB.size
  simp only [World.size_alloc] at hsz
  have hB1 : Below w.heap.size w w1 := HAL.out.trans (hB.below (Nat.le_refl _) (by simp))
  have HB1 := Lib.hid hB1
  clear hB hB1
  rcases h1 with ⟨rfl, t, u, pos, hr⟩ | ⟨l, pos, rfl, rfl, hrep, hr⟩
  · have c1 := hr.c1
    have c2 := hr.c2
    clear hr
    go_wp2
    go_region
    all_goals
      go_wp2
      go_returns
      exact ⟨.inl ⟨rfl, t, u, rfl⟩, ⟨HB1.out.os, HB1.out.tape, HB1.out.output, HB1.out.size, HB1.out.block⟩⟩
  · have c1 := hr.c1
    have c2 := hr.c2
    have HREP := Lib.hid hrep
    clear hr hrep
    go_wp2
    go_region
    all_goals
      go_wp2
      go_returns
      refine ⟨.inr ⟨l, pos, a, c, rfl, rfl, RepNSl.keep (w := w1) (w' := w1.drew) (S := New (w.alloc (.cells #[.slice a0 n0 cc0, .int .i64 0, .nilIface] 57)).heap.size w1.heap.size) (fun _ _ => rfl) (fun k hk => ⟨?_, hk.2⟩) HREP.out⟩, ⟨HB1.out.os, HB1.out.tape, HB1.out.output, HB1.out.size, HB1.out.block⟩⟩
      have := hk.1
      simp only [World.size_alloc] at this
      omega

/-- dump.Nodes: a right program's bytes; of another one none -/
def dumpN (l : List Nd) : List UInt8 := if validB l = true then bytesNs l else []
set_option maxRecDepth 100000 in
theorem dumpNodes_any (p : Nat → Addr) (l : List Nd) (a : Option Addr) (c : Nat) (w : World) (hl : l.length ≤ 9223372036854775807) (hw : 6 ≤ w.heap.size) (hE : Errs 6 p w) (hR : RepNSl (Lo w.heap.size) w a l) (hn : (dumpN l).length ≤ 70000000) :
    Calls Tryd.prog 18 #[.slice a l.length c] w (Laid w.heap.size w (dumpN l)) := by
  have HV := Lib.hid (valid_program p l a c w hl hw hE hR)
  have HC := Lib.hid fun (w' : World) (hb : Below w.heap.size w w') (h : (bytesNs l).length ≤ 70000000) => nodes_lay w.heap.size (SizeOf.sizeOf l) l a c (.slice none 0 0) [] w' (Nat.le_refl _) (hR.below hb) (OwnB.nil _ _ _) hb.size (by simpa using h)
  unfold dumpN at hn ⊢
  generalize bytesNs l = L at HC hn ⊢
  generalize validB l = vb at HV hn ⊢
  clear hR hE
  cases vb with
  | false =>
    clear HC hn
    go_enter Tryd.func18, Tryd.ntmps18
    go_wp2_with fail
    refine HV.out.mono ?_
    rintro e w1 h1
    obtain ⟨h1, hB⟩ := h1.elim
    rcases h1 with ⟨h1, _⟩ | ⟨_, t, u, rfl⟩
    · cases h1
    go_wp2_with fail
    go_ret
    exact ⟨_, rfl, OwnB.nil _ _ _, kept_of hB (Nat.le_refl _)⟩
  | true =>
    rw [if_pos rfl] at hn ⊢
    have HC2 := Lib.hid fun (w' : World) (hb : Below w.heap.size w w') => HC.out w' hb hn
    clear HC hn
    go_enter Tryd.func18, Tryd.ntmps18
    go_wp2_with fail
    refine HV.out.mono ?_
    rintro e w1 h1
    obtain ⟨h1, hB⟩ := h1.elim
    rcases h1 with ⟨_, rfl⟩ | ⟨h1, _⟩
    · go_wp2_with fail
      refine (HC2.out _ hB).mono ?_
      rintro e w2 ⟨v2, rfl, ho2, hk2⟩
      rw [List.nil_append] at ho2
      obtain ⟨a2, c2, rfl⟩ := ho2.shape
      have HO := Lib.hid ho2
      clear ho2
      go_wp2
      go_ret
      exact ⟨_, rfl, HO.out, (kept_of hB (Nat.le_refl _)).trans hk2⟩
    · cases h1
end Go.Proofs.YtmkghfkikclodaaDoor
namespace Go.Proofs.YtmkghfkikclodaaDoor
open Go.RowKit

theorem OwnB.bs {w : World} {base : Nat} {v : Value} {l : List UInt8} (h : OwnB w base 5 v l) : Bs w.heap.size w v l := by
  rcases h.2 with ⟨rfl, h0⟩ | ⟨g, cap, cur, rfl, hb, hg, hcap, hrest⟩
  · obtain rfl : l = [] := List.eq_nil_of_length_eq_zero h0
    exact ⟨none, 0, rfl, Nat.le_refl _, .inl rfl⟩
  · refine ⟨_, _, rfl, hcap, .inr ⟨_, rfl, (Array.getElem?_eq_some_iff.1 hg).1, fun j hj => ?_⟩⟩
    exact World.ownsRow.cells h (g := g) rfl j (byteV l[j]) (by simp [hj])

theorem Bs.mono {w : World} {B B' : Nat} {v : Value} {l : List UInt8} (h : Bs B w v l) (hB : B ≤ B') : Bs B' w v l := by
  obtain ⟨a, c, he, h1, h2⟩ := h
  refine ⟨a, c, he, h1, ?_⟩
  rcases h2 with h2 | ⟨ad, rfl, h3, h4⟩
  · exact .inl h2
  · exact .inr ⟨ad, rfl, by omega, h4⟩

theorem Bs.below {w w' : World} {B : Nat} {v : Value} {l : List UInt8} (h : Bs B w v l) (hb : Below B w w') : Bs B w' v l := by
  obtain ⟨a, c, he, h1, h2⟩ := h
  refine ⟨a, c, he, h1, ?_⟩
  rcases h2 with h2 | ⟨ad, rfl, h3, h4⟩
  · exact .inl h2
  · exact .inr ⟨ad, rfl, h3, fun j hj => (hb.cell (by rw [add_block]; exact h3)).trans (h4 j hj)⟩

/-- the first k of them -/
theorem Bs.first {w : World} {B : Nat} {a : Option Addr} {c : Nat} {bs : List UInt8} (h : Bs B w (.slice a bs.length c) bs) (k : Nat) (hk : k ≤ bs.length) : Bs B w (.slice a (bs.take k).length c) (bs.take k) := by
  obtain ⟨a', c', he, h1, h2⟩ := h
  obtain ⟨rfl, rfl⟩ : a = a' ∧ c = c' := by
    simp only [Value.slice.injEq] at he
    exact ⟨he.1, he.2.2⟩
  refine ⟨a, c, rfl, by rw [List.length_take]; omega, ?_⟩
  rcases h2 with rfl | ⟨ad, rfl, h3, h4⟩
  · left; simp
  · refine .inr ⟨ad, rfl, h3, fun j hj => ?_⟩
    rw [List.length_take] at hj
    rw [h4 j (by omega)]
    simp

/-- append of what lies in such a slice, nil too -/
theorem append_bs {w : World} {ops : Array Oper} {rest : List Oper} {o : Oper} {a : Act} {Q : Exit → Act → World → Prop} (hgd : o.guard = none) (sl x : Operand)
    (ho : o.op = .call { callee := .builtin .append, args := #[sl, x], argTypes := #[25, 25] })
    (base : Nat) (v : Value) (l : List UInt8) (hs : a.eval sl = v) (hown : OwnB w base 5 v l) (B : Nat) (u : Value) (m : List UInt8) (hx : a.eval x = u) (hm : Bs B w u m) (hnil : ∀ n c, u = .slice none n c → u = .slice none 0 0)
    (hlen : l.length + m.length ≤ 140737488355328) (hbase : base ≤ w.heap.size)
    (h : ∀ v' w', OwnB w' base 5 v' (l ++ m) → w.grownBy w' v.ownBlock → wpList Tryd.prog ops Q rest (a.put o.dst v') w') : wpList Tryd.prog ops Q (o :: rest) a w := by
  obtain ⟨a', c', rfl, h1, h2⟩ := hm
  obtain ⟨i, hi, hz0, hz1, hz2⟩ := info_parts info5
  cases a' with
  | none =>
    have e := hnil _ _ rfl
    simp only [Value.slice.injEq, true_and] at e
    obtain rfl : m = [] := List.eq_nil_of_length_eq_zero e.1
    refine wpList_append_own_none hgd sl x 25 ho base 5 i 1 Tryd.underlying25 hi v l.length _ hs hown (by rw [hx]; rw [e.2]; rfl) (h v w ?_ ?_)
    · rw [List.append_nil]; exact hown
    · exact ⟨rfl, rfl, rfl, Nat.le_refl _, fun _ _ _ => rfl⟩
  | some ad =>
    refine append_bytes w hgd sl x 25 ho base 5 Tryd.underlying25 info5 v l hs hown ad c' m m.length rfl hx ?_ hlen hbase h
    intro j hj
    rcases h2 with rfl | ⟨ad', he, h3, h4⟩
    · simp at hj
    · obtain rfl := Option.some.inj he
      exact h4 j hj

set_option maxRecDepth 100000 in
set_option maxHeartbeats 4000000 in
theorem dumpValues_walk (p : Nat → Addr) (w : World) (x : Val) (a : Option Addr) (c : Nat) (u : Value) (post : List UInt8) (cut : Int) (hw : 17 ≤ w.heap.size) (hE : Errs 17 p w) (hf : Fits x.kind x.n x.s x.l.length)
    (hR : RepSl (Lo w.heap.size) w a x.l) (hbs : Bs w.heap.size w u post) (hnil : ∀ n c, u = .slice none n c → u = .slice none 0 0) (hpl : post.length ≤ 9223372036854775807) (hc1 : -9223372036854775808 ≤ cut) (hc2 : cut ≤ 9223372036854775807) :
    Calls Tryd.prog 3 #[.agg #[.int .i64 x.kind, .int .i64 x.n, .string x.s, .slice a x.l.length c], u, .int .i64 cut] w (BoolOut w true) := by
  have hall : AllFits x := by
    have h1 := hR.fits
    cases x
    exact ⟨hf, h1⟩
  have hv := VB.new w (.int .i64 x.kind) (.int .i64 x.n) (.string x.s) (.slice a x.l.length c)
  have hal := bal w (.cells #[.int .i64 x.kind, .int .i64 x.n, .string x.s, .slice a x.l.length c] 24)
  have HV := Lib.hid hv
  have HAL := Lib.hid hal
  have hsz : w.heap.size + 1 = (w.alloc (.cells #[.int .i64 x.kind, .int .i64 x.n, .string x.s, .slice a x.l.length c] 24)).heap.size := by simp
  have HSZ := Lib.hid hsz
  have hE0 := hE.below hal hw
  have hR0 := hR.below hal
  have hbs0 := hbs.below hal
  obtain ⟨a', c', rfl⟩ : ∃ a' c', u = .slice a' post.length c' := by obtain ⟨a', c', h, _⟩ := hbs; exact ⟨a', c', h⟩
  obtain ⟨d0, d1, d2, d3, -⟩ := hv.all
  have hgl := hv.lt
  clear hv hal hE hR hbs hsz
  go_enter Tryd.func3, Tryd.ntmps3
  go_wp2_with fail
  generalize w.alloc (.cells #[.int .i64 x.kind, .int .i64 x.n, .string x.s, .slice a x.l.length c] 24) = w0 at HV HAL HSZ hE0 hR0 hbs0 d0 d1 d2 d3 hgl
  have hw0 : 17 ≤ w0.heap.size := by omega
  have HF := Lib.hid fun (w' : World) (h : Since w0 w') => first_any p w' (by have := h.1; omega) (fun g hg => (h.errs (by omega) hE0) g (by omega))
  have HSM := Lib.hid fun (w' : World) (h : Since w0 w') => small_any x a c w' hf (h.rep (by omega) hR0)
  have HDV := Lib.hid fun (w' : World) (h : Since w0 w') => dumpValue_any p x a c w' (by have := h.1; omega) hf (h.rep (by omega) hR0) (fun g hg => (h.errs (by omega) hE0) g (by omega)) (by have := dumpM_len x; omega)
  have HRT := Lib.hid fun (w' : World) (h : Since w0 w') (hs : SmallM x) => right_ref x a c w' hf hs (h.rep (by omega) hR0)
  have HRV := Lib.hid fun (w' : World) (h : Since w0 w') (v : Value) (l : List UInt8) (hl : l.length ≤ 1000000) (hb : Bs w'.heap.size w' v l) => readValue_any p w' v l (by omega) hb (fun g hg => (h.errs (by omega) hE0) g (by omega)) (by have := h.1; omega)
  have HSV := Lib.hid fun (w' : World) (h : Since w0 w') (a2 : Option Addr) (c2 : Nat) (h2 : RepSl (Lo w'.heap.size) w' a2 x.l) => sameValue_same (SizeOf.sizeOf x) x a a2 c c2 w' (Nat.le_refl _) hf (h.rep (by omega) hR0) h2
  have HIS := Lib.hid fun (w' : World) (h : Since w0 w') => is_end p w' (h.errs (by omega) hE0) (by have := h.1; omega)
  have HBS := Lib.hid fun (w' : World) (h : Since w0 w') => h.bs (by omega) hbs0
  have HSMALL : Hid (0 ≤ fewM x 6000 0 → SmallM x) := by show _ → _; exact fewM_small x 6000 0 (by decide) (by decide)
  have HDL := Lib.hid (dumpM_len x)
  have HALL := Lib.hid hall
  clear hE0 hR0 hbs0 hf hall
  refine (HF.out _ ⟨Nat.le_refl _, fun _ _ => rfl⟩).mono ?_
  rintro e w1 ⟨rfl, T1⟩
  clear d0 d1 d2 d3
  obtain ⟨d0, d1, d2, d3, -⟩ := (HV.out.below T1 hgl).all
  go_wp2_with fail
  refine (HSM.out _ ⟨T1.size, T1.block⟩).mono ?_
  rintro e w2 ⟨rfl, T⟩
  have T2 := T1.trans (T.mono T1.size)
  clear d0 d1 d2 d3 T
  obtain ⟨d0, d1, d2, d3, -⟩ := (HV.out.below T2 hgl).all
  by_cases hsm : ¬ 0 ≤ fewM x 6000 0
  · rw [decide_eq_false hsm]
    go_wp2_with fail
    go_ret
    exact ⟨rfl, HAL.out.trans (T2.mono (by omega))⟩
  have hsm := Classical.not_not.1 hsm
  rw [decide_eq_true hsm]
  have hsmall := HSMALL.out hsm
  by_cases h50 : 50 < post.length
  · go_wp2_with fail
    go_ret
    exact ⟨rfl, HAL.out.trans (T2.mono (by omega))⟩
  clear hsm hpl
  have HS2 := Lib.hid hsmall
  clear hsmall
  go_wp2_with fail
  refine (HDV.out _ ⟨T2.size, T2.block⟩).mono ?_
  rintro e w3 ⟨vb, rfl, hob, hkb⟩
  have T := hkb.below (Nat.le_refl _)
  have T3 := T2.trans (T.mono T2.size)
  clear d0 d1 d2 d3 T hkb
  obtain ⟨d0, d1, d2, d3, -⟩ := (HV.out.below T3 hgl).all
  have hbb := hob.bs
  obtain ⟨ab, cb, rfl⟩ := hob.shape
  clear hob
  go_wp2_with fail
  refine (HRT.out _ ⟨T3.size, T3.block⟩ HS2.out).mono ?_
  rintro e w4 ⟨rfl, T⟩
  have T4 := T3.trans (T.mono T3.size)
  have hbb4 := (hbb.below T).mono T.size
  clear d0 d1 d2 d3 T hbb
  obtain ⟨d0, d1, d2, d3, -⟩ := (HV.out.below T4 hgl).all
  cases hval : validM x with
  | some g =>
    have hL : dumpM x = [] := by unfold dumpM; rw [hval]; rfl
    rw [hL] at hbb4 ⊢
    clear hval hL hbb4
    simp only [Option.isNone_some]
    go_wp2_with fail
    go_ret
    exact ⟨rfl, HAL.out.trans (T4.mono (by omega))⟩
  | none =>
    have hL : dumpM x = bytesV x := by unfold dumpM; rw [hval]; rfl
    have HDL2 := HDL.out
    rw [hL] at hbb4 HDL2 ⊢
    have HAT : Hid (readM (bytesV x ++ post) = (x, (bytesV x).length, Option.none)) := by show _ = _; exact readM_at hval HALL.out
    have HCUT : Hid (∀ k, k < (bytesV x).length → readM ((bytesV x).take k) = (zeroVal, 0, some 4)) := by show ∀ _, _; exact fun k hk => readM_cut hval HALL.out hk
    have hpos := bytesV_pos x
    clear hval hL
    generalize bytesV x = L at hbb4 HDL2 HAT HCUT hpos ⊢
    have HB4 := Lib.hid hbb4
    clear hbb4
    simp only [Option.isNone_none]
    go_wp2_with fail
    refine (bytes_any _ _ L ?_ (by omega)).mono ?_
    · have := HB4.out.take L.length (Nat.le_refl _)
      rwa [List.take_length] at this
    rintro e w5 ⟨vc, rfl, hoc, hkc⟩
    have T := hkc.below (Nat.le_refl _)
    have T5 := T4.trans (T.mono T4.size)
    have hbb5 := (HB4.out.below T).mono T.size
    have hsz4 := T4.size
    have hsz5 := T5.size
    have hbs5 := HBS.out w5 ⟨T5.size, T5.block⟩
    obtain ⟨ac, cc, rfl⟩ := hoc.shape
    have hlp : (L ++ post).length ≤ 100000 := by rw [List.length_append]; omega
    generalize hLP : L ++ post = LP at HAT hlp
    have HLP := Lib.hid hLP
    clear hLP d0 d1 d2 d3
    go_wp2_with (at_builtin; go_loud (refine append_bs rfl (.tmp 41) (.tmp 42) rfl w4.heap.size _ L rfl hoc w5.heap.size (.slice a' post.length c') post rfl hbs5 hnil ?c1 ?c2 ?_))
    case c1 => omega
    case c2 => have := T.size; omega
    intro v6 w6 ho6 hg6
    rw [HLP.out] at ho6
    have U6 := (Kept.grown hoc hg6).below T.size
    have T6 := T5.trans (U6.mono T4.size)
    have hbb6 := ((HB4.out.below T).below U6)
    have HRV6 := HRV.out w6 ⟨T6.size, T6.block⟩ v6 LP (by omega) ho6.bs
    rw [HAT.out] at HRV6
    have HR6 := Lib.hid HRV6
    have hsz6 := T6.size
    have h46 := T.size
    have h56 := U6.size
    obtain ⟨a6, c6, rfl⟩ := ho6.shape
    clear HRV6 ho6 hg6 hoc hbs5 hbb5 U6 T hkc
    go_wp2_with fail
    refine HR6.out.mono ?_
    rintro e w7 ⟨v7, rfl, ⟨a7, c7, rfl, hf7, hs7⟩, T⟩
    simp only [errO]
    simp only at hs7
    have T7 := T6.trans (T.mono T6.size)
    have hbb7 := hbb6.below (T.mono (by omega))
    have h67 := T.size
    clear T hbb6 hf7 HR6
    obtain ⟨kk, hkk⟩ := Int.eq_ofNat_of_zero_le (Int.emod_nonneg cut (show (L.length : Int) ≠ 0 by omega))
    have hkl : kk < L.length := by have := Int.emod_lt_of_pos cut (show 0 < (L.length : Int) by omega); omega
    have hcap : L.length ≤ cb := by
      obtain ⟨q1, q2, he, h1, _⟩ := HB4.out
      simp only [Value.slice.injEq, true_and] at he
      omega
    have HN := Lib.hid fun (w' : World) => number_any cut L.length w' (by omega) (by omega) hc1 hc2
    rw [hkk] at HN
    have hkc : kk ≤ cb := by omega
    have HS7 := Lib.hid (And.intro hs7 hbb7)
    have hlk : (L.take kk).length = kk := by rw [List.length_take]; omega
    have HLK := Lib.hid hlk
    clear hkk hs7 hbb7 hlk
    go_wp2_with fail
    refine (HN.out _).mono ?_
    rintro e w' ⟨rfl, rfl⟩
    have T8 := T7.trans ((bal w7 (.cells #[.int .i64 x.kind, .int .i64 x.n, .string x.s, .slice a7 x.l.length c7] 24)).mono T7.size)
    have U8 := bal w7 (.cells #[.int .i64 x.kind, .int .i64 x.n, .string x.s, .slice a7 x.l.length c7] 24)
    have hv8 := VB.new w7 (.int .i64 x.kind) (.int .i64 x.n) (.string x.s) (.slice a7 x.l.length c7)
    have hsz8 : (w7.alloc (.cells #[.int .i64 x.kind, .int .i64 x.n, .string x.s, .slice a7 x.l.length c7] 24)).heap.size = w7.heap.size + 1 := by simp
    generalize w7.alloc (.cells #[.int .i64 x.kind, .int .i64 x.n, .string x.s, .slice a7 x.l.length c7] 24) = w8 at T8 U8 hv8 hsz8 ⊢
    have HRV8 := HRV.out w8 ⟨T8.size, T8.block⟩ (.slice ab kk cb) (L.take kk) (by rw [HLK.out]; omega) (by
      have := ((HS7.out.2.below (U8.mono (by omega))).first kk (by omega)).mono (show w4.heap.size ≤ w8.heap.size by omega)
      rwa [HLK.out] at this)
    rw [HCUT.out kk hkl] at HRV8
    have HR8 := Lib.hid HRV8
    have HA8 := Lib.hid (And.intro T8 (And.intro U8 hv8))
    have h78 : w7.heap.size < w8.heap.size := by omega
    clear HRV8 T8 U8 hv8 hsz8
    go_wp2_with fail
    refine HR8.out.mono ?_
    rintro e w9 ⟨v9, rfl, ⟨a9, c9, rfl, hf9, hs9⟩, T⟩
    simp only [errO, show zeroVal.kind = 0 from rfl, show zeroVal.n = 0 from rfl, show zeroVal.s = ByteArray.empty from rfl, show zeroVal.l = [] from rfl, List.length_nil]
    obtain ⟨T8, U8, hv8⟩ := HA8.out
    have T9 := T8.trans (T.mono T8.size)
    have U9 := U8.trans (T.mono U8.size)
    have hv9 := hv8.below T h78
    have h89 := T.size
    obtain ⟨k0, k1, k2, k3, -⟩ := (hv9.below (bal w9 (.cells #[.int .i64 0, .int .i64 0, .string ByteArray.empty, .slice a9 0 c9] 24)) hv9.lt).all
    obtain ⟨d0, d1, d2, d3, -⟩ := ((HV.out.below T9 hgl).below (bal w9 (.cells #[.int .i64 0, .int .i64 0, .string ByteArray.empty, .slice a9 0 c9] 24)) (by omega)).all
    have HA9 := Lib.hid (And.intro T9 U9)
    clear T8 U8 hv8 T T9 U9 hv9 hf9 hs9
    unfold errV
    go_wp2_with fail
    obtain ⟨T9, U9⟩ := HA9.out
    have hal := bal w9 (.cells #[.int .i64 0, .int .i64 0, .string ByteArray.empty, .slice a9 0 c9] 24)
    have T10 := T9.trans (hal.mono T9.size)
    have U10 := U9.trans (hal.mono U9.size)
    generalize w9.alloc (.cells #[.int .i64 0, .int .i64 0, .string ByteArray.empty, .slice a9 0 c9] 24) = w10 at T10 U10 d0 d1 d2 d3 k0 k1 k2 k3 ⊢
    have HC := HSV.out w10 ⟨T10.size, T10.block⟩ a7 c7 (HS7.out.1.keep (fun k hk => U10.block k hk.2) (fun k hk => Nat.lt_of_lt_of_le hk.2 U10.size))
    clear hal T9 U9 U10 d0 d1 d2 d3 k0 k1 k2 k3
    refine HC.mono ?_
    rintro e w11 ⟨rfl, T⟩
    have T11 := T10.trans (T.mono T10.size)
    have HI := HIS.out w11 ⟨T11.size, T11.block⟩
    unfold errV at HI
    have HI2 := Lib.hid HI
    clear T HC HI
    go_wp2_with fail
    refine HI2.out.mono ?_
    rintro e w12 ⟨rfl, T⟩
    have T12 := T11.trans (T.mono T11.size)
    clear T
    go_wp2
    go_ret
    exact ⟨rfl, HAL.out.trans (T12.mono (by omega))⟩
end Go.Proofs.YtmkghfkikclodaaDoor
