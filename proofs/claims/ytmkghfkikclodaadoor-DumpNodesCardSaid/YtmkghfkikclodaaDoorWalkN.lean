/- What is amiss with a node and what it has. -/
import Derived.Test.YtmkghfkikclodaaDoorOwnL
import Derived.Test.YtmkghfkikclodaaDoorNdD
set_option linter.unusedVariables false
set_option linter.unusedSimpArgs false
namespace Go.Proofs.YtmkghfkikclodaaDoor
open Go.RowKit

/-- what has to stand at the place, where the node itself stands as something -/
def childR (op role : Int) (i : Nat) (r : Int) : Int :=
  if role = 5 then 0 else if role = 2 ∧ op = 20 ∧ i = 0 then 2 else if role = 4 ∧ op = 26 then 3 else r
def inB (op : Int) (loop : Bool) (r : Int) : Bool := (loop && !(op == 48)) || (loopsB op && (r == 6))

mutual
def walkB : Nd → Int → Bool → Bool
  | .mk op _ s v l, role, loop => (ownM op role loop s v l.length).isNone && kidsB op role loop l.length 0 l
def kidsB (op role : Int) (loop : Bool) (n : Nat) : Nat → List Nd → Bool
  | _, [] => true
  | i, y :: ys => walkB y (childR op role i ((rolesL op n).getD i 0)) (inB op loop (childR op role i ((rolesL op n).getD i 0))) && kidsB op role loop n (i + 1) ys
end

theorem walkB_eq (x : Nd) (role : Int) (loop : Bool) : walkB x role loop = ((ownM x.op role loop x.s x.v x.l.length).isNone && kidsB x.op role loop x.l.length 0 x.l) := by
  cases x with
  | mk op line s v l => rw [walkB]; rfl

/-- an error or none -/
def OkOut (ok : Bool) (W : World) (e : Ending) (w' : World) : Prop := (∃ v, e = .returned v ∧ (ok = true → v = .nilIface) ∧ (ok = false → ∃ t u, v = .iface t u)) ∧ Below W.heap.size W w'

theorem OkOut.yes {W w' : World} (hB : Below W.heap.size W w') : OkOut true W (.returned .nilIface) w' := ⟨⟨.nilIface, rfl, fun _ => rfl, Bool.noConfusion⟩, hB⟩
theorem OkOut.no {W w' : World} (hB : Below W.heap.size W w') (t : TypeId) (u : Value) : OkOut false W (.returned (.iface t u)) w' := ⟨⟨.iface t u, rfl, Bool.noConfusion, fun _ => ⟨t, u, rfl⟩⟩, hB⟩
theorem OkOut.elim {W w' : World} {e : Ending} {ok : Bool} (h : OkOut ok W e w') : ((ok = true ∧ e = .returned .nilIface) ∨ (ok = false ∧ ∃ t u, e = .returned (.iface t u))) ∧ Below W.heap.size W w' := by
  obtain ⟨⟨v, rfl, h1, h2⟩, hB⟩ := h
  refine ⟨?_, hB⟩
  cases ok
  · obtain ⟨t, u, rfl⟩ := h2 rfl
    exact .inr ⟨rfl, t, u, rfl⟩
  · obtain rfl := h1 rfl
    exact .inl ⟨rfl, rfl⟩

theorem set_bd {l : List Int} {i : Nat} {z : Int} (hl : ∀ r ∈ l, 0 ≤ r ∧ r ≤ 8) (hz : 0 ≤ z ∧ z ≤ 8) : ∀ r ∈ l.set i z, 0 ≤ r ∧ r ≤ 8 := by
  intro r hr
  rcases List.mem_or_eq_of_mem_set hr with h | h
  · exact hl r h
  · rw [h]; exact hz
theorem ifs_bd (n : Nat) : ∀ r ∈ ((List.range n).map fun i => if i % 2 = 1 then (6 : Int) else 0), 0 ≤ r ∧ r ≤ 8 := by
  intro r hr
  simp only [List.mem_map] at hr
  obtain ⟨i, -, rfl⟩ := hr
  split <;> decide
theorem rep_bd (n : Nat) {z : Int} (hz : 0 ≤ z ∧ z ≤ 8) : ∀ r ∈ List.replicate n z, 0 ≤ r ∧ r ≤ 8 := by
  intro r hr
  rw [(List.mem_replicate.1 hr).2]; exact hz
theorem app_bd {a b : List Int} (ha : ∀ r ∈ a, 0 ≤ r ∧ r ≤ 8) (hb : ∀ r ∈ b, 0 ≤ r ∧ r ≤ 8) : ∀ r ∈ a ++ b, 0 ≤ r ∧ r ≤ 8 := by
  intro r hr
  rcases List.mem_append.1 hr with h | h
  · exact ha r h
  · exact hb r h
def BdL (l : List Int) : Prop := ∀ r ∈ l, 0 ≤ r ∧ r ≤ 8
theorem bd_ite {c : Prop} [Decidable c] {a b : List Int} (ha : BdL a) (hb : BdL b) : BdL (if c then a else b) := by split <;> assumption
theorem rolesL_bd (op : Int) (n : Nat) : ∀ r ∈ rolesL op n, 0 ≤ r ∧ r ≤ 8 := by
  show BdL (rolesL op n)
  unfold rolesL
  repeat' (refine bd_ite ?_ ?_)
  all_goals unfold BdL
  all_goals (try split)
  all_goals first
    | decide
    | exact rep_bd _ (by decide)
    | exact app_bd (by decide) (rep_bd _ (by decide))
    | exact app_bd (set_bd (rep_bd _ (by decide)) (by decide)) (by decide)
    | exact app_bd (bd_ite (set_bd (rep_bd _ (by decide)) (by decide)) (rep_bd _ (by decide))) (by decide)
    | exact app_bd (rep_bd _ (by decide)) (by decide)
    | exact set_bd (ifs_bd n) (by decide)
    | exact ifs_bd n
    | exact fun r hr => (by decide : ∀ r ∈ ([0, 5, 0] : List Int), 0 ≤ r ∧ r ≤ 8) r (List.mem_of_mem_take hr)
theorem mem_iff (l : List Int) (op : Int) : mem l op = true ↔ op ∈ l := by
  unfold mem
  simp [List.any_eq_true]
theorem rolesL_len (op : Int) (n : Nat) (h : fullB op n = true) : n ≤ (rolesL op n).length := by
  by_cases hc : (1 ≤ op ∧ op ≤ 29) ∨ (40 ≤ op ∧ op ≤ 52)
  · rcases hc with ⟨h1, h2⟩ | ⟨h1, h2⟩
    · rcases (by omega : op = 1 ∨ op = 2 ∨ op = 3 ∨ op = 4 ∨ op = 5 ∨ op = 6 ∨ op = 7 ∨ op = 8 ∨ op = 9 ∨ op = 10 ∨ op = 11 ∨ op = 12 ∨ op = 13 ∨ op = 14 ∨ op = 15 ∨ op = 16 ∨ op = 17 ∨ op = 18 ∨ op = 19 ∨ op = 20 ∨ op = 21 ∨ op = 22 ∨ op = 23 ∨ op = 24 ∨ op = 25 ∨ op = 26 ∨ op = 27 ∨ op = 28 ∨ op = 29) with rfl | rfl | rfl | rfl | rfl | rfl | rfl | rfl | rfl | rfl | rfl | rfl | rfl | rfl | rfl | rfl | rfl | rfl | rfl | rfl | rfl | rfl | rfl | rfl | rfl | rfl | rfl | rfl | rfl
      all_goals simp [fullB, mem] at h
      all_goals simp [rolesL, mem]
      all_goals try omega
      all_goals (try split) <;> simp <;> omega
    · rcases (by omega : op = 40 ∨ op = 41 ∨ op = 42 ∨ op = 43 ∨ op = 44 ∨ op = 45 ∨ op = 46 ∨ op = 47 ∨ op = 48 ∨ op = 49 ∨ op = 50 ∨ op = 51 ∨ op = 52) with rfl | rfl | rfl | rfl | rfl | rfl | rfl | rfl | rfl | rfl | rfl | rfl | rfl
      all_goals simp [fullB, mem] at h
      all_goals simp [rolesL, mem]
      all_goals try omega
      all_goals (try split) <;> simp <;> omega
  · exfalso
    have hm : ∀ L : List Int, (∀ x ∈ L, (1 ≤ x ∧ x ≤ 29) ∨ (40 ≤ x ∧ x ≤ 52)) → ¬ mem L op = true := fun L hL hx => hc (hL op ((mem_iff L op).1 hx))
    unfold fullB at h
    rw [if_neg (hm _ (by decide)), if_neg (hm _ (by decide)), if_neg (hm _ (by decide)), if_neg (hm _ (by decide)), if_neg (hm _ (by decide)), if_neg (hm _ (by decide)), if_neg (by omega), if_neg (by omega)] at h
    cases h

theorem own_none {op role : Int} {loop : Bool} {s : ByteArray} {v : Val} {n : Nat} (h : ownM op role loop s v n = Option.none) : fullB op n = true := by
  unfold ownM at h
  split at h
  · rename_i h1
    unfold shapeB at h1
    simp only [Bool.and_eq_true] at h1
    exact h1.2.2.1
  · cases h

set_option maxRecDepth 100000 in
set_option maxHeartbeats 4000000 in
theorem walk_node (p : Nat → Addr) (m : Nat) : ∀ (x : Nd) (role : Int) (loop : Bool) (a a' : Option Addr) (c c' : Nat) (w : World), SizeOf.sizeOf x ≤ m → 0 ≤ role → role ≤ 8 → cntM x ≤ 4097 → 6 ≤ w.heap.size → Errs 6 p w →
    Fits x.op x.line x.s x.l.length → Fits x.v.kind x.v.n x.v.s x.v.l.length → RepSl (Lo w.heap.size) w a x.v.l → RepNSl (Lo w.heap.size) w a' x.l →
    Calls Tryd.prog 66 #[.agg #[.int .i64 x.op, .int .i64 x.line, .string x.s, .int .i64 x.v.kind, .int .i64 x.v.n, .string x.v.s, .slice a x.v.l.length c, .slice a' x.l.length c'], .int .i64 role, .bool loop] w (OkOut (walkB x role loop) w) := by
  induction m with
  | zero => intro x role loop a a' c c' w h; cases x; simp at h
  | succ m ih =>
    rintro ⟨op, line, s, v, l⟩ role loop a a' c c' w hm hr0 hr1 hcnt hw hE hf hfv hR hN
    have hsx := sizeOf_nd (.mk op line s v l)
    have hcx := cntM_eq (.mk op line s v l)
    have hz := walkB_eq (.mk op line s v l) role loop
    generalize walkB (.mk op line s v l) role loop = z at hz ⊢
    dsimp only [Nd.op, Nd.line, Nd.s, Nd.v, Nd.l] at hcnt hf hfv hR hN hsx hcx hz ⊢
    have IH := Lib.hid ih
    clear ih
    have hlen := cntL_len l
    have hv := NV.new w (.int .i64 op) (.int .i64 line) (.string s) (.int .i64 v.kind) (.int .i64 v.n) (.string v.s) (.slice a v.l.length c) (.slice a' l.length c')
    have hal := bal w (.cells #[.int .i64 op, .int .i64 line, .string s, .int .i64 v.kind, .int .i64 v.n, .string v.s, .slice a v.l.length c, .slice a' l.length c'] 63)
    have HOW := Lib.hid fun (w' : World) (h : Since w w') => own_node p op line role loop s v l.length a a' c c' w' (by have := h.1; omega) hr0 hr1 (by omega) hf.1 hf.2.1 hf.2.2.2.2.1 (h.errs hw hE) hfv (h.rep (Nat.le_refl _) hR)
    have HRO := Lib.hid fun (w' : World) => roles_any op (.int .i64 line) (.string s) (.int .i64 v.kind) (.int .i64 v.n) (.string v.s) (.slice a v.l.length c) a' l.length c' (by omega) w'
    have HLO := Lib.hid fun (w' : World) => loops_any op w' hf.1 hf.2.1
    have HN := Lib.hid fun (w' : World) (h : Since w w') => h.repN (Nat.le_refl _) hN
    have HE := Lib.hid fun (w' : World) (h : Since w w') => h.errs hw hE
    have HAL := Lib.hid hal
    obtain ⟨d0, d1, d2, d3, d4, d5, d6, d7⟩ := hv.all
    have hlt0 := hv.lt
    have HV := Lib.hid hv
    have HNone := Lib.hid fun h => @own_none op role loop s v l.length h
    clear hv hal hE hR hN hf hfv
    generalize ownM op role loop s v l.length = om at HOW hz HNone
    have HZ := Lib.hid hz
    clear hz
    go_enter Tryd.func66, Tryd.ntmps66
    go_wp2_with fail
    refine (HOW.out _ (Since.of HAL.out)).mono ?_
    rintro e w1 ⟨rfl, hB⟩
    have hsz1 := hB.size
    have hv := HV.out.below hB hlt0
    have hB0 := HAL.out.trans (hB.mono HAL.out.size)
    have HB1 := Lib.hid hB0
    have hlt1 := hv.lt
    clear d0 d1 d2 d3 d4 d5 d6 d7
    obtain ⟨d0, d1, d2, d3, d4, d5, d6, d7⟩ := hv.all
    have HV1 := Lib.hid hv
    clear hv hB hB0
    cases om with
    | some g =>
      have hz := HZ.out
      obtain rfl : z = false := by rw [hz]; rfl
      unfold errO errV
      clear hz
      go_wp2_with fail
      go_ret
      exact OkOut.no ((HB1.out).alloc (HB1.out.size) _) _ _
    | none =>
      have hfull := HNone.out rfl
      unfold errO
      go_wp2_with fail
      refine (HRO.out _).mono ?_
      rintro e w2 ⟨rv, rfl, hi, hB⟩
      have hsz2 := hB.size
      have hv := HV1.out.below hB hlt1
      have hB0 := HB1.out.trans (hB.mono HB1.out.size)
      have HB2 := Lib.hid hB0
      have hlt2 := hv.lt
      clear d0 d1 d2 d3 d4 d5 d6 d7
      obtain ⟨d0, d1, d2, d3, d4, d5, d6, d7⟩ := hv.all
      have HV2 := Lib.hid hv
      have hrl := rolesL_len _ _ hfull
      have hrb := rolesL_bd op l.length
      have hz : z = kidsB op role loop l.length 0 l := by rw [HZ.out]; rfl
      generalize hL : rolesL op l.length = L at hi hrl hrb
      have HL := Lib.hid hL
      obtain ⟨ra, rc, rfl, hra⟩ := hi
      have HRA := Lib.hid hra
      have HZK := Lib.hid hz
      clear hv hB hB0 hra hz hL
      go_wp2_with fail
      clear d0 d1 d2 d3 d4 d5 d6 d7
      go_loopw [35] (fun i wr => ∃ k : Nat, k ≤ l.length ∧ i = .int .i64 k ∧ Below w2.heap.size w2 wr ∧ Hid (kidsB op role loop l.length k (l.drop k) = z)) (fun i _ => l.length - (intOf i).toNat)
      case atStart => exact ⟨0, Nat.zero_le _, rfl, Below.refl _ _, Lib.hid HZK.out.symm⟩
      case round =>
        obtain ⟨k, hk, rfl, hBr, hF⟩ := hrel
        have hF2 := hF.out
        clear hF
        have hszr := hBr.size
        obtain ⟨d0, d1, d2, d3, d4, d5, d6, d7⟩ := (HV2.out.below hBr hlt2).all
        have hB0 := HB2.out.trans (hBr.mono HB2.out.size)
        have HBR := Lib.hid hB0
        have HBr := Lib.hid hBr
        by_cases hlt : k < l.length
        · obtain ⟨b, o, rfl, hs, hat⟩ := (HN.out wr (Since.of hB0)).item k hlt
          obtain ⟨ff, ffv, a1, c1, a2, c2, g0, g1, g2, g3, g4, g5, g6, g7, gv, gs⟩ := repNAt_iff.1 hat
          rw [List.drop_eq_getElem_cons hlt, kidsB] at hF2
          have hkL : k < L.length := by omega
          obtain ⟨ad, rfl, hcc⟩ : ∃ ad, ra = some ad ∧ ∀ j (h : j < L.length), w2.cell? (ad.add j) = some (i64V L[j]) := by
            rcases HRA.out with h0 | h0
            · rw [h0] at hkL; simp at hkL
            · exact h0
          have g8 := hcc k hkL
          have g8 := (hBr.cell (cell_lt g8)).trans g8
          have hbd := hrb _ (List.getElem_mem hkL)
          rw [HL.out, show L.getD k 0 = L[k] by simp [hkL]] at hF2
          have hsize := sizeOf_ndl l k hlt
          have hci := cntL_item l k hlt
          have hcy := cntM_eq l[k]
          generalize L[k] = r at g8 hbd hF2
          change _ = some (Value.int .i64 r) at g8
          generalize l[k] = y at ff ffv g0 g1 g2 g3 g4 g5 g6 g7 gv gs hF2 hsize hci hcy
          have HY := Lib.hid fun (R : Int) (lo : Bool) (w' : World) (h : Since wr w') (h0 : 0 ≤ R) (h8 : R ≤ 8) => IH.out y R lo a1 a2 c1 c2 w' (by omega) h0 h8 (by omega) (by have := h.1; omega) (h.errs (by omega) (HE.out wr (Since.of hB0))) ff ffv (h.rep (Nat.le_refl _) gv) (h.repN (Nat.le_refl _) gs)
          have hv := NV.new wr (.int .i64 y.op) (.int .i64 y.line) (.string y.s) (.int .i64 y.v.kind) (.int .i64 y.v.n) (.string y.v.s) (.slice a1 y.v.l.length c1) (.slice a2 y.l.length c2)
          obtain ⟨e0, e1, e2, e3, e4, e5, e6, e7⟩ := hv.all
          have hltv := hv.lt
          have HVY := Lib.hid hv
          have d0' := ((bal wr (.cells #[.int .i64 y.op, .int .i64 y.line, .string y.s, .int .i64 y.v.kind, .int .i64 y.v.n, .string y.v.s, .slice a1 y.v.l.length c1, .slice a2 y.l.length c2] 63)).cell (cell_lt d0)).trans d0
          have g8' := ((bal wr (.cells #[.int .i64 y.op, .int .i64 y.line, .string y.s, .int .i64 y.v.kind, .int .i64 y.v.n, .string y.v.s, .slice a1 y.v.l.length c1, .slice a2 y.l.length c2] 63)).cell (cell_lt g8)).trans g8
          have HBY := Lib.hid (bal wr (.cells #[.int .i64 y.op, .int .i64 y.line, .string y.s, .int .i64 y.v.kind, .int .i64 y.v.n, .string y.v.s, .slice a1 y.v.l.length c1, .slice a2 y.l.length c2] 63))
          clear hat hv hcc ff ffv gv gs hB0 hBr d1 d2 d3 d4 d5 d6 d7 hsize hci hcy hrb hs
          generalize hlb : loopsB op = lb at HLO
          by_cases h5 : role = 5
          · subst h5
            rw [show childR op 5 k r = 0 from if_pos rfl] at hF2
            cases loop with
            | true =>
              by_cases h48 : op = 48
              · subst h48
                cases lb with
                | true =>
                  rw [show inB 48 true (0) = (false) by unfold inB; rw [hlb]; simp] at hF2
                  go_wp2_with fail
                  refine (HLO.out _).mono ?_
                  rintro e w3 ⟨rfl, hB3⟩
                  clear e0 e1 e2 e3 e4 e5 e6 e7
                  obtain ⟨e0, e1, e2, e3, e4, e5, e6, e7⟩ := (HVY.out.below hB3 hltv).all
                  have hB03 := HBY.out.trans (hB3.mono HBY.out.size)
                  have HB3 := Lib.hid hB03
                  clear hB03 hB3
                  go_wp2_with fail
                  refine (HY.out _ _ _ (Since.of HB3.out) (by omega) (by omega)).mono ?_
                  rintro e w4 h4
                  obtain ⟨h4, hB4⟩ := h4.elim
                  have hB5 := HB3.out.trans (hB4.mono HB3.out.size)
                  rcases h4 with ⟨hok, rfl⟩ | ⟨hok, tt, uu, rfl⟩
                  · rw [hok, Bool.true_and] at hF2
                    have HF2 := Lib.hid hF2
                    have HB5 := Lib.hid hB5
                    clear hF2 hB4 hB5 d0 d0' e0 e1 e2 e3 e4 e5 e6 e7 g0 g1 g2 g3 g4 g5 g6 g7 g8 g8'
                    go_wp2_with fail
                    go_roundw
                    case rel => exact ⟨k + 1, by omega, by go_num, HBr.out.trans (HB5.out.mono hszr), HF2⟩
                    case measure => simp [intOf]; omega
                  · rw [hok, Bool.false_and] at hF2
                    subst hF2
                    have HB5 := Lib.hid hB5
                    clear hB4 hB5 d0 d0' e0 e1 e2 e3 e4 e5 e6 e7 g0 g1 g2 g3 g4 g5 g6 g7 g8 g8'
                    go_wp2_with fail
                    go_ret
                    exact OkOut.no (HBR.out.trans (HB5.out.mono HBR.out.size)) _ _
                | false =>
                  rw [show inB 48 true (0) = false by unfold inB; rw [hlb]; simp] at hF2
                  go_wp2_with fail
                  refine (HLO.out _).mono ?_
                  rintro e w3 ⟨rfl, hB3⟩
                  clear e0 e1 e2 e3 e4 e5 e6 e7
                  obtain ⟨e0, e1, e2, e3, e4, e5, e6, e7⟩ := (HVY.out.below hB3 hltv).all
                  have hB03 := HBY.out.trans (hB3.mono HBY.out.size)
                  have HB3 := Lib.hid hB03
                  clear hB03 hB3
                  go_wp2_with fail
                  refine (HY.out _ _ _ (Since.of HB3.out) (by omega) (by omega)).mono ?_
                  rintro e w4 h4
                  obtain ⟨h4, hB4⟩ := h4.elim
                  have hB5 := HB3.out.trans (hB4.mono HB3.out.size)
                  rcases h4 with ⟨hok, rfl⟩ | ⟨hok, tt, uu, rfl⟩
                  · rw [hok, Bool.true_and] at hF2
                    have HF2 := Lib.hid hF2
                    have HB5 := Lib.hid hB5
                    clear hF2 hB4 hB5 d0 d0' e0 e1 e2 e3 e4 e5 e6 e7 g0 g1 g2 g3 g4 g5 g6 g7 g8 g8'
                    go_wp2_with fail
                    go_roundw
                    case rel => exact ⟨k + 1, by omega, by go_num, HBr.out.trans (HB5.out.mono hszr), HF2⟩
                    case measure => simp [intOf]; omega
                  · rw [hok, Bool.false_and] at hF2
                    subst hF2
                    have HB5 := Lib.hid hB5
                    clear hB4 hB5 d0 d0' e0 e1 e2 e3 e4 e5 e6 e7 g0 g1 g2 g3 g4 g5 g6 g7 g8 g8'
                    go_wp2_with fail
                    go_ret
                    exact OkOut.no (HBR.out.trans (HB5.out.mono HBR.out.size)) _ _
              · have h48' : (op == 48) = false := by simpa using h48
                have h48'' : (op != 48) = true := by simpa using h48
                rw [show inB op true (0) = true by unfold inB; rw [h48']; simp] at hF2
                go_wp2_with fail
                refine (HY.out _ _ _ (Since.of HBY.out) (by omega) (by omega)).mono ?_
                rintro e w4 h4
                obtain ⟨h4, hB4⟩ := h4.elim
                have hB5 := HBY.out.trans (hB4.mono HBY.out.size)
                rcases h4 with ⟨hok, rfl⟩ | ⟨hok, tt, uu, rfl⟩
                · rw [hok, Bool.true_and] at hF2
                  have HF2 := Lib.hid hF2
                  have HB5 := Lib.hid hB5
                  clear hF2 hB4 hB5 d0 d0' e0 e1 e2 e3 e4 e5 e6 e7 g0 g1 g2 g3 g4 g5 g6 g7 g8 g8'
                  go_wp2_with fail
                  go_roundw
                  case rel => exact ⟨k + 1, by omega, by go_num, HBr.out.trans (HB5.out.mono hszr), HF2⟩
                  case measure => simp [intOf]; omega
                · rw [hok, Bool.false_and] at hF2
                  subst hF2
                  have HB5 := Lib.hid hB5
                  clear hB4 hB5 d0 d0' e0 e1 e2 e3 e4 e5 e6 e7 g0 g1 g2 g3 g4 g5 g6 g7 g8 g8'
                  go_wp2_with fail
                  go_ret
                  exact OkOut.no (HBR.out.trans (HB5.out.mono HBR.out.size)) _ _
            | false =>
              cases lb with
              | true =>
                rw [show inB op false (0) = (false) by unfold inB; rw [hlb]; simp] at hF2
                go_wp2_with fail
                refine (HLO.out _).mono ?_
                rintro e w3 ⟨rfl, hB3⟩
                clear e0 e1 e2 e3 e4 e5 e6 e7
                obtain ⟨e0, e1, e2, e3, e4, e5, e6, e7⟩ := (HVY.out.below hB3 hltv).all
                have hB03 := HBY.out.trans (hB3.mono HBY.out.size)
                have HB3 := Lib.hid hB03
                clear hB03 hB3
                go_wp2_with fail
                refine (HY.out _ _ _ (Since.of HB3.out) (by omega) (by omega)).mono ?_
                rintro e w4 h4
                obtain ⟨h4, hB4⟩ := h4.elim
                have hB5 := HB3.out.trans (hB4.mono HB3.out.size)
                rcases h4 with ⟨hok, rfl⟩ | ⟨hok, tt, uu, rfl⟩
                · rw [hok, Bool.true_and] at hF2
                  have HF2 := Lib.hid hF2
                  have HB5 := Lib.hid hB5
                  clear hF2 hB4 hB5 d0 d0' e0 e1 e2 e3 e4 e5 e6 e7 g0 g1 g2 g3 g4 g5 g6 g7 g8 g8'
                  go_wp2_with fail
                  go_roundw
                  case rel => exact ⟨k + 1, by omega, by go_num, HBr.out.trans (HB5.out.mono hszr), HF2⟩
                  case measure => simp [intOf]; omega
                · rw [hok, Bool.false_and] at hF2
                  subst hF2
                  have HB5 := Lib.hid hB5
                  clear hB4 hB5 d0 d0' e0 e1 e2 e3 e4 e5 e6 e7 g0 g1 g2 g3 g4 g5 g6 g7 g8 g8'
                  go_wp2_with fail
                  go_ret
                  exact OkOut.no (HBR.out.trans (HB5.out.mono HBR.out.size)) _ _
              | false =>
                rw [show inB op false (0) = false by unfold inB; rw [hlb]; simp] at hF2
                go_wp2_with fail
                refine (HLO.out _).mono ?_
                rintro e w3 ⟨rfl, hB3⟩
                clear e0 e1 e2 e3 e4 e5 e6 e7
                obtain ⟨e0, e1, e2, e3, e4, e5, e6, e7⟩ := (HVY.out.below hB3 hltv).all
                have hB03 := HBY.out.trans (hB3.mono HBY.out.size)
                have HB3 := Lib.hid hB03
                clear hB03 hB3
                go_wp2_with fail
                refine (HY.out _ _ _ (Since.of HB3.out) (by omega) (by omega)).mono ?_
                rintro e w4 h4
                obtain ⟨h4, hB4⟩ := h4.elim
                have hB5 := HB3.out.trans (hB4.mono HB3.out.size)
                rcases h4 with ⟨hok, rfl⟩ | ⟨hok, tt, uu, rfl⟩
                · rw [hok, Bool.true_and] at hF2
                  have HF2 := Lib.hid hF2
                  have HB5 := Lib.hid hB5
                  clear hF2 hB4 hB5 d0 d0' e0 e1 e2 e3 e4 e5 e6 e7 g0 g1 g2 g3 g4 g5 g6 g7 g8 g8'
                  go_wp2_with fail
                  go_roundw
                  case rel => exact ⟨k + 1, by omega, by go_num, HBr.out.trans (HB5.out.mono hszr), HF2⟩
                  case measure => simp [intOf]; omega
                · rw [hok, Bool.false_and] at hF2
                  subst hF2
                  have HB5 := Lib.hid hB5
                  clear hB4 hB5 d0 d0' e0 e1 e2 e3 e4 e5 e6 e7 g0 g1 g2 g3 g4 g5 g6 g7 g8 g8'
                  go_wp2_with fail
                  go_ret
                  exact OkOut.no (HBR.out.trans (HB5.out.mono HBR.out.size)) _ _
          · have h5' : (role == 5) = false := by simpa using h5
            by_cases h2 : role = 2
            · subst h2
              by_cases h20 : op = 20
              · subst h20
                by_cases hk0 : k = 0
                · have hk0' : ((k : Int) == 0) = true := by simpa using hk0
                  rw [show childR 20 2 k r = 2 by unfold childR; simp [hk0]] at hF2
                  clear hk0
                  cases loop with
                  | true =>
                    rw [show inB 20 true (2) = true by unfold inB; simp] at hF2
                    go_wp2_with fail
                    refine (HY.out _ _ _ (Since.of HBY.out) (by omega) (by omega)).mono ?_
                    rintro e w4 h4
                    obtain ⟨h4, hB4⟩ := h4.elim
                    have hB5 := HBY.out.trans (hB4.mono HBY.out.size)
                    rcases h4 with ⟨hok, rfl⟩ | ⟨hok, tt, uu, rfl⟩
                    · rw [hok, Bool.true_and] at hF2
                      have HF2 := Lib.hid hF2
                      have HB5 := Lib.hid hB5
                      clear hF2 hB4 hB5 d0 d0' e0 e1 e2 e3 e4 e5 e6 e7 g0 g1 g2 g3 g4 g5 g6 g7 g8 g8'
                      go_wp2_with fail
                      go_roundw
                      case rel => exact ⟨k + 1, by omega, by go_num, HBr.out.trans (HB5.out.mono hszr), HF2⟩
                      case measure => simp [intOf]; omega
                    · rw [hok, Bool.false_and] at hF2
                      subst hF2
                      have HB5 := Lib.hid hB5
                      clear hB4 hB5 d0 d0' e0 e1 e2 e3 e4 e5 e6 e7 g0 g1 g2 g3 g4 g5 g6 g7 g8 g8'
                      go_wp2_with fail
                      go_ret
                      exact OkOut.no (HBR.out.trans (HB5.out.mono HBR.out.size)) _ _
                  | false =>
                    cases lb with
                    | true =>
                      rw [show inB 20 false (2) = (false) by unfold inB; rw [hlb]; simp] at hF2
                      go_wp2_with fail
                      refine (HLO.out _).mono ?_
                      rintro e w3 ⟨rfl, hB3⟩
                      clear e0 e1 e2 e3 e4 e5 e6 e7
                      obtain ⟨e0, e1, e2, e3, e4, e5, e6, e7⟩ := (HVY.out.below hB3 hltv).all
                      have hB03 := HBY.out.trans (hB3.mono HBY.out.size)
                      have HB3 := Lib.hid hB03
                      clear hB03 hB3
                      go_wp2_with fail
                      refine (HY.out _ _ _ (Since.of HB3.out) (by omega) (by omega)).mono ?_
                      rintro e w4 h4
                      obtain ⟨h4, hB4⟩ := h4.elim
                      have hB5 := HB3.out.trans (hB4.mono HB3.out.size)
                      rcases h4 with ⟨hok, rfl⟩ | ⟨hok, tt, uu, rfl⟩
                      · rw [hok, Bool.true_and] at hF2
                        have HF2 := Lib.hid hF2
                        have HB5 := Lib.hid hB5
                        clear hF2 hB4 hB5 d0 d0' e0 e1 e2 e3 e4 e5 e6 e7 g0 g1 g2 g3 g4 g5 g6 g7 g8 g8'
                        go_wp2_with fail
                        go_roundw
                        case rel => exact ⟨k + 1, by omega, by go_num, HBr.out.trans (HB5.out.mono hszr), HF2⟩
                        case measure => simp [intOf]; omega
                      · rw [hok, Bool.false_and] at hF2
                        subst hF2
                        have HB5 := Lib.hid hB5
                        clear hB4 hB5 d0 d0' e0 e1 e2 e3 e4 e5 e6 e7 g0 g1 g2 g3 g4 g5 g6 g7 g8 g8'
                        go_wp2_with fail
                        go_ret
                        exact OkOut.no (HBR.out.trans (HB5.out.mono HBR.out.size)) _ _
                    | false =>
                      rw [show inB 20 false (2) = false by unfold inB; rw [hlb]; simp] at hF2
                      go_wp2_with fail
                      refine (HLO.out _).mono ?_
                      rintro e w3 ⟨rfl, hB3⟩
                      clear e0 e1 e2 e3 e4 e5 e6 e7
                      obtain ⟨e0, e1, e2, e3, e4, e5, e6, e7⟩ := (HVY.out.below hB3 hltv).all
                      have hB03 := HBY.out.trans (hB3.mono HBY.out.size)
                      have HB3 := Lib.hid hB03
                      clear hB03 hB3
                      go_wp2_with fail
                      refine (HY.out _ _ _ (Since.of HB3.out) (by omega) (by omega)).mono ?_
                      rintro e w4 h4
                      obtain ⟨h4, hB4⟩ := h4.elim
                      have hB5 := HB3.out.trans (hB4.mono HB3.out.size)
                      rcases h4 with ⟨hok, rfl⟩ | ⟨hok, tt, uu, rfl⟩
                      · rw [hok, Bool.true_and] at hF2
                        have HF2 := Lib.hid hF2
                        have HB5 := Lib.hid hB5
                        clear hF2 hB4 hB5 d0 d0' e0 e1 e2 e3 e4 e5 e6 e7 g0 g1 g2 g3 g4 g5 g6 g7 g8 g8'
                        go_wp2_with fail
                        go_roundw
                        case rel => exact ⟨k + 1, by omega, by go_num, HBr.out.trans (HB5.out.mono hszr), HF2⟩
                        case measure => simp [intOf]; omega
                      · rw [hok, Bool.false_and] at hF2
                        subst hF2
                        have HB5 := Lib.hid hB5
                        clear hB4 hB5 d0 d0' e0 e1 e2 e3 e4 e5 e6 e7 g0 g1 g2 g3 g4 g5 g6 g7 g8 g8'
                        go_wp2_with fail
                        go_ret
                        exact OkOut.no (HBR.out.trans (HB5.out.mono HBR.out.size)) _ _
                · have hk0' : ((k : Int) == 0) = false := by simpa using hk0
                  have hk0'' : (k : Int) ≠ 0 := by omega
                  rw [show childR 20 2 k r = r by unfold childR; simp [hk0]] at hF2
                  cases loop with
                  | true =>
                    rw [show inB 20 true (r) = true by unfold inB; simp] at hF2
                    go_wp2_with fail
                    refine (HY.out _ _ _ (Since.of HBY.out) (by omega) (by omega)).mono ?_
                    rintro e w4 h4
                    obtain ⟨h4, hB4⟩ := h4.elim
                    have hB5 := HBY.out.trans (hB4.mono HBY.out.size)
                    rcases h4 with ⟨hok, rfl⟩ | ⟨hok, tt, uu, rfl⟩
                    · rw [hok, Bool.true_and] at hF2
                      have HF2 := Lib.hid hF2
                      have HB5 := Lib.hid hB5
                      clear hF2 hB4 hB5 d0 d0' e0 e1 e2 e3 e4 e5 e6 e7 g0 g1 g2 g3 g4 g5 g6 g7 g8 g8'
                      go_wp2_with fail
                      go_roundw
                      case rel => exact ⟨k + 1, by omega, by go_num, HBr.out.trans (HB5.out.mono hszr), HF2⟩
                      case measure => simp [intOf]; omega
                    · rw [hok, Bool.false_and] at hF2
                      subst hF2
                      have HB5 := Lib.hid hB5
                      clear hB4 hB5 d0 d0' e0 e1 e2 e3 e4 e5 e6 e7 g0 g1 g2 g3 g4 g5 g6 g7 g8 g8'
                      go_wp2_with fail
                      go_ret
                      exact OkOut.no (HBR.out.trans (HB5.out.mono HBR.out.size)) _ _
                  | false =>
                    cases lb with
                    | true =>
                      rw [show inB 20 false (r) = (r == 6) by unfold inB; rw [hlb]; simp] at hF2
                      go_wp2_with fail
                      refine (HLO.out _).mono ?_
                      rintro e w3 ⟨rfl, hB3⟩
                      clear e0 e1 e2 e3 e4 e5 e6 e7
                      obtain ⟨e0, e1, e2, e3, e4, e5, e6, e7⟩ := (HVY.out.below hB3 hltv).all
                      have hB03 := HBY.out.trans (hB3.mono HBY.out.size)
                      have HB3 := Lib.hid hB03
                      clear hB03 hB3
                      go_wp2_with fail
                      refine (HY.out _ _ _ (Since.of HB3.out) (by omega) (by omega)).mono ?_
                      rintro e w4 h4
                      obtain ⟨h4, hB4⟩ := h4.elim
                      have hB5 := HB3.out.trans (hB4.mono HB3.out.size)
                      rcases h4 with ⟨hok, rfl⟩ | ⟨hok, tt, uu, rfl⟩
                      · rw [hok, Bool.true_and] at hF2
                        have HF2 := Lib.hid hF2
                        have HB5 := Lib.hid hB5
                        clear hF2 hB4 hB5 d0 d0' e0 e1 e2 e3 e4 e5 e6 e7 g0 g1 g2 g3 g4 g5 g6 g7 g8 g8'
                        go_wp2_with fail
                        go_roundw
                        case rel => exact ⟨k + 1, by omega, by go_num, HBr.out.trans (HB5.out.mono hszr), HF2⟩
                        case measure => simp [intOf]; omega
                      · rw [hok, Bool.false_and] at hF2
                        subst hF2
                        have HB5 := Lib.hid hB5
                        clear hB4 hB5 d0 d0' e0 e1 e2 e3 e4 e5 e6 e7 g0 g1 g2 g3 g4 g5 g6 g7 g8 g8'
                        go_wp2_with fail
                        go_ret
                        exact OkOut.no (HBR.out.trans (HB5.out.mono HBR.out.size)) _ _
                    | false =>
                      rw [show inB 20 false (r) = false by unfold inB; rw [hlb]; simp] at hF2
                      go_wp2_with fail
                      refine (HLO.out _).mono ?_
                      rintro e w3 ⟨rfl, hB3⟩
                      clear e0 e1 e2 e3 e4 e5 e6 e7
                      obtain ⟨e0, e1, e2, e3, e4, e5, e6, e7⟩ := (HVY.out.below hB3 hltv).all
                      have hB03 := HBY.out.trans (hB3.mono HBY.out.size)
                      have HB3 := Lib.hid hB03
                      clear hB03 hB3
                      go_wp2_with fail
                      refine (HY.out _ _ _ (Since.of HB3.out) (by omega) (by omega)).mono ?_
                      rintro e w4 h4
                      obtain ⟨h4, hB4⟩ := h4.elim
                      have hB5 := HB3.out.trans (hB4.mono HB3.out.size)
                      rcases h4 with ⟨hok, rfl⟩ | ⟨hok, tt, uu, rfl⟩
                      · rw [hok, Bool.true_and] at hF2
                        have HF2 := Lib.hid hF2
                        have HB5 := Lib.hid hB5
                        clear hF2 hB4 hB5 d0 d0' e0 e1 e2 e3 e4 e5 e6 e7 g0 g1 g2 g3 g4 g5 g6 g7 g8 g8'
                        go_wp2_with fail
                        go_roundw
                        case rel => exact ⟨k + 1, by omega, by go_num, HBr.out.trans (HB5.out.mono hszr), HF2⟩
                        case measure => simp [intOf]; omega
                      · rw [hok, Bool.false_and] at hF2
                        subst hF2
                        have HB5 := Lib.hid hB5
                        clear hB4 hB5 d0 d0' e0 e1 e2 e3 e4 e5 e6 e7 g0 g1 g2 g3 g4 g5 g6 g7 g8 g8'
                        go_wp2_with fail
                        go_ret
                        exact OkOut.no (HBR.out.trans (HB5.out.mono HBR.out.size)) _ _
              · have h20' : (op == 20) = false := by simpa using h20
                rw [show childR op 2 k r = r by unfold childR; simp [h20]] at hF2
                cases loop with
                | true =>
                  by_cases h48 : op = 48
                  · subst h48
                    cases lb with
                    | true =>
                      rw [show inB 48 true (r) = (r == 6) by unfold inB; rw [hlb]; simp] at hF2
                      go_wp2_with fail
                      refine (HLO.out _).mono ?_
                      rintro e w3 ⟨rfl, hB3⟩
                      clear e0 e1 e2 e3 e4 e5 e6 e7
                      obtain ⟨e0, e1, e2, e3, e4, e5, e6, e7⟩ := (HVY.out.below hB3 hltv).all
                      have hB03 := HBY.out.trans (hB3.mono HBY.out.size)
                      have HB3 := Lib.hid hB03
                      clear hB03 hB3
                      go_wp2_with fail
                      refine (HY.out _ _ _ (Since.of HB3.out) (by omega) (by omega)).mono ?_
                      rintro e w4 h4
                      obtain ⟨h4, hB4⟩ := h4.elim
                      have hB5 := HB3.out.trans (hB4.mono HB3.out.size)
                      rcases h4 with ⟨hok, rfl⟩ | ⟨hok, tt, uu, rfl⟩
                      · rw [hok, Bool.true_and] at hF2
                        have HF2 := Lib.hid hF2
                        have HB5 := Lib.hid hB5
                        clear hF2 hB4 hB5 d0 d0' e0 e1 e2 e3 e4 e5 e6 e7 g0 g1 g2 g3 g4 g5 g6 g7 g8 g8'
                        go_wp2_with fail
                        go_roundw
                        case rel => exact ⟨k + 1, by omega, by go_num, HBr.out.trans (HB5.out.mono hszr), HF2⟩
                        case measure => simp [intOf]; omega
                      · rw [hok, Bool.false_and] at hF2
                        subst hF2
                        have HB5 := Lib.hid hB5
                        clear hB4 hB5 d0 d0' e0 e1 e2 e3 e4 e5 e6 e7 g0 g1 g2 g3 g4 g5 g6 g7 g8 g8'
                        go_wp2_with fail
                        go_ret
                        exact OkOut.no (HBR.out.trans (HB5.out.mono HBR.out.size)) _ _
                    | false =>
                      rw [show inB 48 true (r) = false by unfold inB; rw [hlb]; simp] at hF2
                      go_wp2_with fail
                      refine (HLO.out _).mono ?_
                      rintro e w3 ⟨rfl, hB3⟩
                      clear e0 e1 e2 e3 e4 e5 e6 e7
                      obtain ⟨e0, e1, e2, e3, e4, e5, e6, e7⟩ := (HVY.out.below hB3 hltv).all
                      have hB03 := HBY.out.trans (hB3.mono HBY.out.size)
                      have HB3 := Lib.hid hB03
                      clear hB03 hB3
                      go_wp2_with fail
                      refine (HY.out _ _ _ (Since.of HB3.out) (by omega) (by omega)).mono ?_
                      rintro e w4 h4
                      obtain ⟨h4, hB4⟩ := h4.elim
                      have hB5 := HB3.out.trans (hB4.mono HB3.out.size)
                      rcases h4 with ⟨hok, rfl⟩ | ⟨hok, tt, uu, rfl⟩
                      · rw [hok, Bool.true_and] at hF2
                        have HF2 := Lib.hid hF2
                        have HB5 := Lib.hid hB5
                        clear hF2 hB4 hB5 d0 d0' e0 e1 e2 e3 e4 e5 e6 e7 g0 g1 g2 g3 g4 g5 g6 g7 g8 g8'
                        go_wp2_with fail
                        go_roundw
                        case rel => exact ⟨k + 1, by omega, by go_num, HBr.out.trans (HB5.out.mono hszr), HF2⟩
                        case measure => simp [intOf]; omega
                      · rw [hok, Bool.false_and] at hF2
                        subst hF2
                        have HB5 := Lib.hid hB5
                        clear hB4 hB5 d0 d0' e0 e1 e2 e3 e4 e5 e6 e7 g0 g1 g2 g3 g4 g5 g6 g7 g8 g8'
                        go_wp2_with fail
                        go_ret
                        exact OkOut.no (HBR.out.trans (HB5.out.mono HBR.out.size)) _ _
                  · have h48' : (op == 48) = false := by simpa using h48
                    have h48'' : (op != 48) = true := by simpa using h48
                    rw [show inB op true (r) = true by unfold inB; rw [h48']; simp] at hF2
                    go_wp2_with fail
                    refine (HY.out _ _ _ (Since.of HBY.out) (by omega) (by omega)).mono ?_
                    rintro e w4 h4
                    obtain ⟨h4, hB4⟩ := h4.elim
                    have hB5 := HBY.out.trans (hB4.mono HBY.out.size)
                    rcases h4 with ⟨hok, rfl⟩ | ⟨hok, tt, uu, rfl⟩
                    · rw [hok, Bool.true_and] at hF2
                      have HF2 := Lib.hid hF2
                      have HB5 := Lib.hid hB5
                      clear hF2 hB4 hB5 d0 d0' e0 e1 e2 e3 e4 e5 e6 e7 g0 g1 g2 g3 g4 g5 g6 g7 g8 g8'
                      go_wp2_with fail
                      go_roundw
                      case rel => exact ⟨k + 1, by omega, by go_num, HBr.out.trans (HB5.out.mono hszr), HF2⟩
                      case measure => simp [intOf]; omega
                    · rw [hok, Bool.false_and] at hF2
                      subst hF2
                      have HB5 := Lib.hid hB5
                      clear hB4 hB5 d0 d0' e0 e1 e2 e3 e4 e5 e6 e7 g0 g1 g2 g3 g4 g5 g6 g7 g8 g8'
                      go_wp2_with fail
                      go_ret
                      exact OkOut.no (HBR.out.trans (HB5.out.mono HBR.out.size)) _ _
                | false =>
                  cases lb with
                  | true =>
                    rw [show inB op false (r) = (r == 6) by unfold inB; rw [hlb]; simp] at hF2
                    go_wp2_with fail
                    refine (HLO.out _).mono ?_
                    rintro e w3 ⟨rfl, hB3⟩
                    clear e0 e1 e2 e3 e4 e5 e6 e7
                    obtain ⟨e0, e1, e2, e3, e4, e5, e6, e7⟩ := (HVY.out.below hB3 hltv).all
                    have hB03 := HBY.out.trans (hB3.mono HBY.out.size)
                    have HB3 := Lib.hid hB03
                    clear hB03 hB3
                    go_wp2_with fail
                    refine (HY.out _ _ _ (Since.of HB3.out) (by omega) (by omega)).mono ?_
                    rintro e w4 h4
                    obtain ⟨h4, hB4⟩ := h4.elim
                    have hB5 := HB3.out.trans (hB4.mono HB3.out.size)
                    rcases h4 with ⟨hok, rfl⟩ | ⟨hok, tt, uu, rfl⟩
                    · rw [hok, Bool.true_and] at hF2
                      have HF2 := Lib.hid hF2
                      have HB5 := Lib.hid hB5
                      clear hF2 hB4 hB5 d0 d0' e0 e1 e2 e3 e4 e5 e6 e7 g0 g1 g2 g3 g4 g5 g6 g7 g8 g8'
                      go_wp2_with fail
                      go_roundw
                      case rel => exact ⟨k + 1, by omega, by go_num, HBr.out.trans (HB5.out.mono hszr), HF2⟩
                      case measure => simp [intOf]; omega
                    · rw [hok, Bool.false_and] at hF2
                      subst hF2
                      have HB5 := Lib.hid hB5
                      clear hB4 hB5 d0 d0' e0 e1 e2 e3 e4 e5 e6 e7 g0 g1 g2 g3 g4 g5 g6 g7 g8 g8'
                      go_wp2_with fail
                      go_ret
                      exact OkOut.no (HBR.out.trans (HB5.out.mono HBR.out.size)) _ _
                  | false =>
                    rw [show inB op false (r) = false by unfold inB; rw [hlb]; simp] at hF2
                    go_wp2_with fail
                    refine (HLO.out _).mono ?_
                    rintro e w3 ⟨rfl, hB3⟩
                    clear e0 e1 e2 e3 e4 e5 e6 e7
                    obtain ⟨e0, e1, e2, e3, e4, e5, e6, e7⟩ := (HVY.out.below hB3 hltv).all
                    have hB03 := HBY.out.trans (hB3.mono HBY.out.size)
                    have HB3 := Lib.hid hB03
                    clear hB03 hB3
                    go_wp2_with fail
                    refine (HY.out _ _ _ (Since.of HB3.out) (by omega) (by omega)).mono ?_
                    rintro e w4 h4
                    obtain ⟨h4, hB4⟩ := h4.elim
                    have hB5 := HB3.out.trans (hB4.mono HB3.out.size)
                    rcases h4 with ⟨hok, rfl⟩ | ⟨hok, tt, uu, rfl⟩
                    · rw [hok, Bool.true_and] at hF2
                      have HF2 := Lib.hid hF2
                      have HB5 := Lib.hid hB5
                      clear hF2 hB4 hB5 d0 d0' e0 e1 e2 e3 e4 e5 e6 e7 g0 g1 g2 g3 g4 g5 g6 g7 g8 g8'
                      go_wp2_with fail
                      go_roundw
                      case rel => exact ⟨k + 1, by omega, by go_num, HBr.out.trans (HB5.out.mono hszr), HF2⟩
                      case measure => simp [intOf]; omega
                    · rw [hok, Bool.false_and] at hF2
                      subst hF2
                      have HB5 := Lib.hid hB5
                      clear hB4 hB5 d0 d0' e0 e1 e2 e3 e4 e5 e6 e7 g0 g1 g2 g3 g4 g5 g6 g7 g8 g8'
                      go_wp2_with fail
                      go_ret
                      exact OkOut.no (HBR.out.trans (HB5.out.mono HBR.out.size)) _ _
            · have h2' : (role == 2) = false := by simpa using h2
              by_cases h4 : role = 4
              · subst h4
                by_cases h26 : op = 26
                · subst h26
                  rw [show childR 26 4 k r = 3 by unfold childR; simp] at hF2
                  cases loop with
                  | true =>
                    rw [show inB 26 true (3) = true by unfold inB; simp] at hF2
                    go_wp2_with fail
                    refine (HY.out _ _ _ (Since.of HBY.out) (by omega) (by omega)).mono ?_
                    rintro e w4 h4
                    obtain ⟨h4, hB4⟩ := h4.elim
                    have hB5 := HBY.out.trans (hB4.mono HBY.out.size)
                    rcases h4 with ⟨hok, rfl⟩ | ⟨hok, tt, uu, rfl⟩
                    · rw [hok, Bool.true_and] at hF2
                      have HF2 := Lib.hid hF2
                      have HB5 := Lib.hid hB5
                      clear hF2 hB4 hB5 d0 d0' e0 e1 e2 e3 e4 e5 e6 e7 g0 g1 g2 g3 g4 g5 g6 g7 g8 g8'
                      go_wp2_with fail
                      go_roundw
                      case rel => exact ⟨k + 1, by omega, by go_num, HBr.out.trans (HB5.out.mono hszr), HF2⟩
                      case measure => simp [intOf]; omega
                    · rw [hok, Bool.false_and] at hF2
                      subst hF2
                      have HB5 := Lib.hid hB5
                      clear hB4 hB5 d0 d0' e0 e1 e2 e3 e4 e5 e6 e7 g0 g1 g2 g3 g4 g5 g6 g7 g8 g8'
                      go_wp2_with fail
                      go_ret
                      exact OkOut.no (HBR.out.trans (HB5.out.mono HBR.out.size)) _ _
                  | false =>
                    cases lb with
                    | true =>
                      rw [show inB 26 false (3) = (false) by unfold inB; rw [hlb]; simp] at hF2
                      go_wp2_with fail
                      refine (HLO.out _).mono ?_
                      rintro e w3 ⟨rfl, hB3⟩
                      clear e0 e1 e2 e3 e4 e5 e6 e7
                      obtain ⟨e0, e1, e2, e3, e4, e5, e6, e7⟩ := (HVY.out.below hB3 hltv).all
                      have hB03 := HBY.out.trans (hB3.mono HBY.out.size)
                      have HB3 := Lib.hid hB03
                      clear hB03 hB3
                      go_wp2_with fail
                      refine (HY.out _ _ _ (Since.of HB3.out) (by omega) (by omega)).mono ?_
                      rintro e w4 h4
                      obtain ⟨h4, hB4⟩ := h4.elim
                      have hB5 := HB3.out.trans (hB4.mono HB3.out.size)
                      rcases h4 with ⟨hok, rfl⟩ | ⟨hok, tt, uu, rfl⟩
                      · rw [hok, Bool.true_and] at hF2
                        have HF2 := Lib.hid hF2
                        have HB5 := Lib.hid hB5
                        clear hF2 hB4 hB5 d0 d0' e0 e1 e2 e3 e4 e5 e6 e7 g0 g1 g2 g3 g4 g5 g6 g7 g8 g8'
                        go_wp2_with fail
                        go_roundw
                        case rel => exact ⟨k + 1, by omega, by go_num, HBr.out.trans (HB5.out.mono hszr), HF2⟩
                        case measure => simp [intOf]; omega
                      · rw [hok, Bool.false_and] at hF2
                        subst hF2
                        have HB5 := Lib.hid hB5
                        clear hB4 hB5 d0 d0' e0 e1 e2 e3 e4 e5 e6 e7 g0 g1 g2 g3 g4 g5 g6 g7 g8 g8'
                        go_wp2_with fail
                        go_ret
                        exact OkOut.no (HBR.out.trans (HB5.out.mono HBR.out.size)) _ _
                    | false =>
                      rw [show inB 26 false (3) = false by unfold inB; rw [hlb]; simp] at hF2
                      go_wp2_with fail
                      refine (HLO.out _).mono ?_
                      rintro e w3 ⟨rfl, hB3⟩
                      clear e0 e1 e2 e3 e4 e5 e6 e7
                      obtain ⟨e0, e1, e2, e3, e4, e5, e6, e7⟩ := (HVY.out.below hB3 hltv).all
                      have hB03 := HBY.out.trans (hB3.mono HBY.out.size)
                      have HB3 := Lib.hid hB03
                      clear hB03 hB3
                      go_wp2_with fail
                      refine (HY.out _ _ _ (Since.of HB3.out) (by omega) (by omega)).mono ?_
                      rintro e w4 h4
                      obtain ⟨h4, hB4⟩ := h4.elim
                      have hB5 := HB3.out.trans (hB4.mono HB3.out.size)
                      rcases h4 with ⟨hok, rfl⟩ | ⟨hok, tt, uu, rfl⟩
                      · rw [hok, Bool.true_and] at hF2
                        have HF2 := Lib.hid hF2
                        have HB5 := Lib.hid hB5
                        clear hF2 hB4 hB5 d0 d0' e0 e1 e2 e3 e4 e5 e6 e7 g0 g1 g2 g3 g4 g5 g6 g7 g8 g8'
                        go_wp2_with fail
                        go_roundw
                        case rel => exact ⟨k + 1, by omega, by go_num, HBr.out.trans (HB5.out.mono hszr), HF2⟩
                        case measure => simp [intOf]; omega
                      · rw [hok, Bool.false_and] at hF2
                        subst hF2
                        have HB5 := Lib.hid hB5
                        clear hB4 hB5 d0 d0' e0 e1 e2 e3 e4 e5 e6 e7 g0 g1 g2 g3 g4 g5 g6 g7 g8 g8'
                        go_wp2_with fail
                        go_ret
                        exact OkOut.no (HBR.out.trans (HB5.out.mono HBR.out.size)) _ _
                · have h26' : (op == 26) = false := by simpa using h26
                  rw [show childR op 4 k r = r by unfold childR; simp [h26]] at hF2
                  cases loop with
                  | true =>
                    by_cases h48 : op = 48
                    · subst h48
                      cases lb with
                      | true =>
                        rw [show inB 48 true (r) = (r == 6) by unfold inB; rw [hlb]; simp] at hF2
                        go_wp2_with fail
                        refine (HLO.out _).mono ?_
                        rintro e w3 ⟨rfl, hB3⟩
                        clear e0 e1 e2 e3 e4 e5 e6 e7
                        obtain ⟨e0, e1, e2, e3, e4, e5, e6, e7⟩ := (HVY.out.below hB3 hltv).all
                        have hB03 := HBY.out.trans (hB3.mono HBY.out.size)
                        have HB3 := Lib.hid hB03
                        clear hB03 hB3
                        go_wp2_with fail
                        refine (HY.out _ _ _ (Since.of HB3.out) (by omega) (by omega)).mono ?_
                        rintro e w4 h4
                        obtain ⟨h4, hB4⟩ := h4.elim
                        have hB5 := HB3.out.trans (hB4.mono HB3.out.size)
                        rcases h4 with ⟨hok, rfl⟩ | ⟨hok, tt, uu, rfl⟩
                        · rw [hok, Bool.true_and] at hF2
                          have HF2 := Lib.hid hF2
                          have HB5 := Lib.hid hB5
                          clear hF2 hB4 hB5 d0 d0' e0 e1 e2 e3 e4 e5 e6 e7 g0 g1 g2 g3 g4 g5 g6 g7 g8 g8'
                          go_wp2_with fail
                          go_roundw
                          case rel => exact ⟨k + 1, by omega, by go_num, HBr.out.trans (HB5.out.mono hszr), HF2⟩
                          case measure => simp [intOf]; omega
                        · rw [hok, Bool.false_and] at hF2
                          subst hF2
                          have HB5 := Lib.hid hB5
                          clear hB4 hB5 d0 d0' e0 e1 e2 e3 e4 e5 e6 e7 g0 g1 g2 g3 g4 g5 g6 g7 g8 g8'
                          go_wp2_with fail
                          go_ret
                          exact OkOut.no (HBR.out.trans (HB5.out.mono HBR.out.size)) _ _
                      | false =>
                        rw [show inB 48 true (r) = false by unfold inB; rw [hlb]; simp] at hF2
                        go_wp2_with fail
                        refine (HLO.out _).mono ?_
                        rintro e w3 ⟨rfl, hB3⟩
                        clear e0 e1 e2 e3 e4 e5 e6 e7
                        obtain ⟨e0, e1, e2, e3, e4, e5, e6, e7⟩ := (HVY.out.below hB3 hltv).all
                        have hB03 := HBY.out.trans (hB3.mono HBY.out.size)
                        have HB3 := Lib.hid hB03
                        clear hB03 hB3
                        go_wp2_with fail
                        refine (HY.out _ _ _ (Since.of HB3.out) (by omega) (by omega)).mono ?_
                        rintro e w4 h4
                        obtain ⟨h4, hB4⟩ := h4.elim
                        have hB5 := HB3.out.trans (hB4.mono HB3.out.size)
                        rcases h4 with ⟨hok, rfl⟩ | ⟨hok, tt, uu, rfl⟩
                        · rw [hok, Bool.true_and] at hF2
                          have HF2 := Lib.hid hF2
                          have HB5 := Lib.hid hB5
                          clear hF2 hB4 hB5 d0 d0' e0 e1 e2 e3 e4 e5 e6 e7 g0 g1 g2 g3 g4 g5 g6 g7 g8 g8'
                          go_wp2_with fail
                          go_roundw
                          case rel => exact ⟨k + 1, by omega, by go_num, HBr.out.trans (HB5.out.mono hszr), HF2⟩
                          case measure => simp [intOf]; omega
                        · rw [hok, Bool.false_and] at hF2
                          subst hF2
                          have HB5 := Lib.hid hB5
                          clear hB4 hB5 d0 d0' e0 e1 e2 e3 e4 e5 e6 e7 g0 g1 g2 g3 g4 g5 g6 g7 g8 g8'
                          go_wp2_with fail
                          go_ret
                          exact OkOut.no (HBR.out.trans (HB5.out.mono HBR.out.size)) _ _
                    · have h48' : (op == 48) = false := by simpa using h48
                      have h48'' : (op != 48) = true := by simpa using h48
                      rw [show inB op true (r) = true by unfold inB; rw [h48']; simp] at hF2
                      go_wp2_with fail
                      refine (HY.out _ _ _ (Since.of HBY.out) (by omega) (by omega)).mono ?_
                      rintro e w4 h4
                      obtain ⟨h4, hB4⟩ := h4.elim
                      have hB5 := HBY.out.trans (hB4.mono HBY.out.size)
                      rcases h4 with ⟨hok, rfl⟩ | ⟨hok, tt, uu, rfl⟩
                      · rw [hok, Bool.true_and] at hF2
                        have HF2 := Lib.hid hF2
                        have HB5 := Lib.hid hB5
                        clear hF2 hB4 hB5 d0 d0' e0 e1 e2 e3 e4 e5 e6 e7 g0 g1 g2 g3 g4 g5 g6 g7 g8 g8'
                        go_wp2_with fail
                        go_roundw
                        case rel => exact ⟨k + 1, by omega, by go_num, HBr.out.trans (HB5.out.mono hszr), HF2⟩
                        case measure => simp [intOf]; omega
                      · rw [hok, Bool.false_and] at hF2
                        subst hF2
                        have HB5 := Lib.hid hB5
                        clear hB4 hB5 d0 d0' e0 e1 e2 e3 e4 e5 e6 e7 g0 g1 g2 g3 g4 g5 g6 g7 g8 g8'
                        go_wp2_with fail
                        go_ret
                        exact OkOut.no (HBR.out.trans (HB5.out.mono HBR.out.size)) _ _
                  | false =>
                    cases lb with
                    | true =>
                      rw [show inB op false (r) = (r == 6) by unfold inB; rw [hlb]; simp] at hF2
                      go_wp2_with fail
                      refine (HLO.out _).mono ?_
                      rintro e w3 ⟨rfl, hB3⟩
                      clear e0 e1 e2 e3 e4 e5 e6 e7
                      obtain ⟨e0, e1, e2, e3, e4, e5, e6, e7⟩ := (HVY.out.below hB3 hltv).all
                      have hB03 := HBY.out.trans (hB3.mono HBY.out.size)
                      have HB3 := Lib.hid hB03
                      clear hB03 hB3
                      go_wp2_with fail
                      refine (HY.out _ _ _ (Since.of HB3.out) (by omega) (by omega)).mono ?_
                      rintro e w4 h4
                      obtain ⟨h4, hB4⟩ := h4.elim
                      have hB5 := HB3.out.trans (hB4.mono HB3.out.size)
                      rcases h4 with ⟨hok, rfl⟩ | ⟨hok, tt, uu, rfl⟩
                      · rw [hok, Bool.true_and] at hF2
                        have HF2 := Lib.hid hF2
                        have HB5 := Lib.hid hB5
                        clear hF2 hB4 hB5 d0 d0' e0 e1 e2 e3 e4 e5 e6 e7 g0 g1 g2 g3 g4 g5 g6 g7 g8 g8'
                        go_wp2_with fail
                        go_roundw
                        case rel => exact ⟨k + 1, by omega, by go_num, HBr.out.trans (HB5.out.mono hszr), HF2⟩
                        case measure => simp [intOf]; omega
                      · rw [hok, Bool.false_and] at hF2
                        subst hF2
                        have HB5 := Lib.hid hB5
                        clear hB4 hB5 d0 d0' e0 e1 e2 e3 e4 e5 e6 e7 g0 g1 g2 g3 g4 g5 g6 g7 g8 g8'
                        go_wp2_with fail
                        go_ret
                        exact OkOut.no (HBR.out.trans (HB5.out.mono HBR.out.size)) _ _
                    | false =>
                      rw [show inB op false (r) = false by unfold inB; rw [hlb]; simp] at hF2
                      go_wp2_with fail
                      refine (HLO.out _).mono ?_
                      rintro e w3 ⟨rfl, hB3⟩
                      clear e0 e1 e2 e3 e4 e5 e6 e7
                      obtain ⟨e0, e1, e2, e3, e4, e5, e6, e7⟩ := (HVY.out.below hB3 hltv).all
                      have hB03 := HBY.out.trans (hB3.mono HBY.out.size)
                      have HB3 := Lib.hid hB03
                      clear hB03 hB3
                      go_wp2_with fail
                      refine (HY.out _ _ _ (Since.of HB3.out) (by omega) (by omega)).mono ?_
                      rintro e w4 h4
                      obtain ⟨h4, hB4⟩ := h4.elim
                      have hB5 := HB3.out.trans (hB4.mono HB3.out.size)
                      rcases h4 with ⟨hok, rfl⟩ | ⟨hok, tt, uu, rfl⟩
                      · rw [hok, Bool.true_and] at hF2
                        have HF2 := Lib.hid hF2
                        have HB5 := Lib.hid hB5
                        clear hF2 hB4 hB5 d0 d0' e0 e1 e2 e3 e4 e5 e6 e7 g0 g1 g2 g3 g4 g5 g6 g7 g8 g8'
                        go_wp2_with fail
                        go_roundw
                        case rel => exact ⟨k + 1, by omega, by go_num, HBr.out.trans (HB5.out.mono hszr), HF2⟩
                        case measure => simp [intOf]; omega
                      · rw [hok, Bool.false_and] at hF2
                        subst hF2
                        have HB5 := Lib.hid hB5
                        clear hB4 hB5 d0 d0' e0 e1 e2 e3 e4 e5 e6 e7 g0 g1 g2 g3 g4 g5 g6 g7 g8 g8'
                        go_wp2_with fail
                        go_ret
                        exact OkOut.no (HBR.out.trans (HB5.out.mono HBR.out.size)) _ _
              · have h4' : (role == 4) = false := by simpa using h4
                rw [show childR op role k r = r by unfold childR; simp [h5, h2, h4]] at hF2
                cases loop with
                | true =>
                  by_cases h48 : op = 48
                  · subst h48
                    cases lb with
                    | true =>
                      rw [show inB 48 true (r) = (r == 6) by unfold inB; rw [hlb]; simp] at hF2
                      go_wp2_with fail
                      refine (HLO.out _).mono ?_
                      rintro e w3 ⟨rfl, hB3⟩
                      clear e0 e1 e2 e3 e4 e5 e6 e7
                      obtain ⟨e0, e1, e2, e3, e4, e5, e6, e7⟩ := (HVY.out.below hB3 hltv).all
                      have hB03 := HBY.out.trans (hB3.mono HBY.out.size)
                      have HB3 := Lib.hid hB03
                      clear hB03 hB3
                      go_wp2_with fail
                      refine (HY.out _ _ _ (Since.of HB3.out) (by omega) (by omega)).mono ?_
                      rintro e w4 h4
                      obtain ⟨h4, hB4⟩ := h4.elim
                      have hB5 := HB3.out.trans (hB4.mono HB3.out.size)
                      rcases h4 with ⟨hok, rfl⟩ | ⟨hok, tt, uu, rfl⟩
                      · rw [hok, Bool.true_and] at hF2
                        have HF2 := Lib.hid hF2
                        have HB5 := Lib.hid hB5
                        clear hF2 hB4 hB5 d0 d0' e0 e1 e2 e3 e4 e5 e6 e7 g0 g1 g2 g3 g4 g5 g6 g7 g8 g8'
                        go_wp2_with fail
                        go_roundw
                        case rel => exact ⟨k + 1, by omega, by go_num, HBr.out.trans (HB5.out.mono hszr), HF2⟩
                        case measure => simp [intOf]; omega
                      · rw [hok, Bool.false_and] at hF2
                        subst hF2
                        have HB5 := Lib.hid hB5
                        clear hB4 hB5 d0 d0' e0 e1 e2 e3 e4 e5 e6 e7 g0 g1 g2 g3 g4 g5 g6 g7 g8 g8'
                        go_wp2_with fail
                        go_ret
                        exact OkOut.no (HBR.out.trans (HB5.out.mono HBR.out.size)) _ _
                    | false =>
                      rw [show inB 48 true (r) = false by unfold inB; rw [hlb]; simp] at hF2
                      go_wp2_with fail
                      refine (HLO.out _).mono ?_
                      rintro e w3 ⟨rfl, hB3⟩
                      clear e0 e1 e2 e3 e4 e5 e6 e7
                      obtain ⟨e0, e1, e2, e3, e4, e5, e6, e7⟩ := (HVY.out.below hB3 hltv).all
                      have hB03 := HBY.out.trans (hB3.mono HBY.out.size)
                      have HB3 := Lib.hid hB03
                      clear hB03 hB3
                      go_wp2_with fail
                      refine (HY.out _ _ _ (Since.of HB3.out) (by omega) (by omega)).mono ?_
                      rintro e w4 h4
                      obtain ⟨h4, hB4⟩ := h4.elim
                      have hB5 := HB3.out.trans (hB4.mono HB3.out.size)
                      rcases h4 with ⟨hok, rfl⟩ | ⟨hok, tt, uu, rfl⟩
                      · rw [hok, Bool.true_and] at hF2
                        have HF2 := Lib.hid hF2
                        have HB5 := Lib.hid hB5
                        clear hF2 hB4 hB5 d0 d0' e0 e1 e2 e3 e4 e5 e6 e7 g0 g1 g2 g3 g4 g5 g6 g7 g8 g8'
                        go_wp2_with fail
                        go_roundw
                        case rel => exact ⟨k + 1, by omega, by go_num, HBr.out.trans (HB5.out.mono hszr), HF2⟩
                        case measure => simp [intOf]; omega
                      · rw [hok, Bool.false_and] at hF2
                        subst hF2
                        have HB5 := Lib.hid hB5
                        clear hB4 hB5 d0 d0' e0 e1 e2 e3 e4 e5 e6 e7 g0 g1 g2 g3 g4 g5 g6 g7 g8 g8'
                        go_wp2_with fail
                        go_ret
                        exact OkOut.no (HBR.out.trans (HB5.out.mono HBR.out.size)) _ _
                  · have h48' : (op == 48) = false := by simpa using h48
                    have h48'' : (op != 48) = true := by simpa using h48
                    rw [show inB op true (r) = true by unfold inB; rw [h48']; simp] at hF2
                    go_wp2_with fail
                    refine (HY.out _ _ _ (Since.of HBY.out) (by omega) (by omega)).mono ?_
                    rintro e w4 h4
                    obtain ⟨h4, hB4⟩ := h4.elim
                    have hB5 := HBY.out.trans (hB4.mono HBY.out.size)
                    rcases h4 with ⟨hok, rfl⟩ | ⟨hok, tt, uu, rfl⟩
                    · rw [hok, Bool.true_and] at hF2
                      have HF2 := Lib.hid hF2
                      have HB5 := Lib.hid hB5
                      clear hF2 hB4 hB5 d0 d0' e0 e1 e2 e3 e4 e5 e6 e7 g0 g1 g2 g3 g4 g5 g6 g7 g8 g8'
                      go_wp2_with fail
                      go_roundw
                      case rel => exact ⟨k + 1, by omega, by go_num, HBr.out.trans (HB5.out.mono hszr), HF2⟩
                      case measure => simp [intOf]; omega
                    · rw [hok, Bool.false_and] at hF2
                      subst hF2
                      have HB5 := Lib.hid hB5
                      clear hB4 hB5 d0 d0' e0 e1 e2 e3 e4 e5 e6 e7 g0 g1 g2 g3 g4 g5 g6 g7 g8 g8'
                      go_wp2_with fail
                      go_ret
                      exact OkOut.no (HBR.out.trans (HB5.out.mono HBR.out.size)) _ _
                | false =>
                  cases lb with
                  | true =>
                    rw [show inB op false (r) = (r == 6) by unfold inB; rw [hlb]; simp] at hF2
                    go_wp2_with fail
                    refine (HLO.out _).mono ?_
                    rintro e w3 ⟨rfl, hB3⟩
                    clear e0 e1 e2 e3 e4 e5 e6 e7
                    obtain ⟨e0, e1, e2, e3, e4, e5, e6, e7⟩ := (HVY.out.below hB3 hltv).all
                    have hB03 := HBY.out.trans (hB3.mono HBY.out.size)
                    have HB3 := Lib.hid hB03
                    clear hB03 hB3
                    go_wp2_with fail
                    refine (HY.out _ _ _ (Since.of HB3.out) (by omega) (by omega)).mono ?_
                    rintro e w4 h4
                    obtain ⟨h4, hB4⟩ := h4.elim
                    have hB5 := HB3.out.trans (hB4.mono HB3.out.size)
                    rcases h4 with ⟨hok, rfl⟩ | ⟨hok, tt, uu, rfl⟩
                    · rw [hok, Bool.true_and] at hF2
                      have HF2 := Lib.hid hF2
                      have HB5 := Lib.hid hB5
                      clear hF2 hB4 hB5 d0 d0' e0 e1 e2 e3 e4 e5 e6 e7 g0 g1 g2 g3 g4 g5 g6 g7 g8 g8'
                      go_wp2_with fail
                      go_roundw
                      case rel => exact ⟨k + 1, by omega, by go_num, HBr.out.trans (HB5.out.mono hszr), HF2⟩
                      case measure => simp [intOf]; omega
                    · rw [hok, Bool.false_and] at hF2
                      subst hF2
                      have HB5 := Lib.hid hB5
                      clear hB4 hB5 d0 d0' e0 e1 e2 e3 e4 e5 e6 e7 g0 g1 g2 g3 g4 g5 g6 g7 g8 g8'
                      go_wp2_with fail
                      go_ret
                      exact OkOut.no (HBR.out.trans (HB5.out.mono HBR.out.size)) _ _
                  | false =>
                    rw [show inB op false (r) = false by unfold inB; rw [hlb]; simp] at hF2
                    go_wp2_with fail
                    refine (HLO.out _).mono ?_
                    rintro e w3 ⟨rfl, hB3⟩
                    clear e0 e1 e2 e3 e4 e5 e6 e7
                    obtain ⟨e0, e1, e2, e3, e4, e5, e6, e7⟩ := (HVY.out.below hB3 hltv).all
                    have hB03 := HBY.out.trans (hB3.mono HBY.out.size)
                    have HB3 := Lib.hid hB03
                    clear hB03 hB3
                    go_wp2_with fail
                    refine (HY.out _ _ _ (Since.of HB3.out) (by omega) (by omega)).mono ?_
                    rintro e w4 h4
                    obtain ⟨h4, hB4⟩ := h4.elim
                    have hB5 := HB3.out.trans (hB4.mono HB3.out.size)
                    rcases h4 with ⟨hok, rfl⟩ | ⟨hok, tt, uu, rfl⟩
                    · rw [hok, Bool.true_and] at hF2
                      have HF2 := Lib.hid hF2
                      have HB5 := Lib.hid hB5
                      clear hF2 hB4 hB5 d0 d0' e0 e1 e2 e3 e4 e5 e6 e7 g0 g1 g2 g3 g4 g5 g6 g7 g8 g8'
                      go_wp2_with fail
                      go_roundw
                      case rel => exact ⟨k + 1, by omega, by go_num, HBr.out.trans (HB5.out.mono hszr), HF2⟩
                      case measure => simp [intOf]; omega
                    · rw [hok, Bool.false_and] at hF2
                      subst hF2
                      have HB5 := Lib.hid hB5
                      clear hB4 hB5 d0 d0' e0 e1 e2 e3 e4 e5 e6 e7 g0 g1 g2 g3 g4 g5 g6 g7 g8 g8'
                      go_wp2_with fail
                      go_ret
                      exact OkOut.no (HBR.out.trans (HB5.out.mono HBR.out.size)) _ _
        · rw [List.drop_eq_nil_of_le (by omega), kidsB] at hF2
          subst hF2
          clear d0 d1 d2 d3 d4 d5 d6 d7
          go_wp2_with fail
          go_ret
          exact OkOut.yes HBR.out
end Go.Proofs.YtmkghfkikclodaaDoor
