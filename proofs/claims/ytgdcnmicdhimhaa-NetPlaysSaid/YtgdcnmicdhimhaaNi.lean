/- The walk of NetOrder. -/
import Derived.Test.YtgdcnmicdhimhaaNh
import Derived.Deep.Matrix
namespace Go.Proofs.Ytgdcnmicdhimhaa
open Go.RowKit
set_option linter.unusedVariables false

def Rows2 (w : World) (B : Nat) (vs : List Value) (bs : List (List UInt8)) : Prop :=
  vs.length = bs.length ∧ ∀ i, i < bs.length → ∃ A c, vs[i]? = some (.slice A (bs.getD i []).length c) ∧ (bs.getD i []).length ≤ c ∧ c ≤ 9223372036854775807 ∧ Rd w B A (bv (bs.getD i []))
theorem Rows2.nil {w : World} {B : Nat} : Rows2 w B [] [] := ⟨rfl, fun i hi => by simp at hi⟩
theorem Rows2.below {w w' : World} {B : Nat} {vs : List Value} {bs : List (List UInt8)} (h : Rows2 w B vs bs) (hb : Below B w w') : Rows2 w' B vs bs :=
  ⟨h.1, fun i hi => by obtain ⟨A, c, h1, h2, h3, h4⟩ := h.2 i hi; exact ⟨A, c, h1, h2, h3, h4.below hb⟩⟩
/-- A slice of slices of bytes that came in, as rows. -/
theorem rows_of {W : World} {a : Addr} {len cap : Nat} {A : Nat → Option Addr} {L C : Nat → Nat} {Z : Nat → List Int} (hl : len ≤ cap)
    (hall : ∀ r, r < cap → W.cell? (a.add r) = some (.slice (A r) (L r) (C r)) ∧ L r ≤ C r ∧ C r ≤ maxLen ∧ (Z r).length = C r ∧ (∀ n ∈ Z r, (Lit.int .u8 n).wf = true) ∧ (A r = none → C r = 0) ∧
        ∀ a', A r = some a' → ∀ c, c < C r → W.cell? (a'.add c) = some (.int .u8 ((Z r).getD c 0))) :
    ∃ vs bs, bs.length = len ∧ Rd W W.heap.size (some a) vs ∧ Rows2 W W.heap.size vs bs := by
  have each : ∀ r, r < len → ∃ l : List UInt8, l.length = L r ∧ Rd W W.heap.size (A r) (bv l) ∧ L r ≤ C r ∧ C r ≤ 9223372036854775807 := by
    intro r hr
    obtain ⟨_, h2, h3, h4, h5, h6, h7⟩ := hall r (by omega)
    refine IsRow.bytes (zs := Z r) ?_
    cases hA : A r with
    | none => 
      have := h6 hA
      exact .inl ⟨rfl, by omega, this, List.eq_nil_of_length_eq_zero (by omega)⟩
    | some x => exact .inr ⟨x, rfl, h2, h3, h4, fun i hi => h7 x hA i (by omega), h5⟩
  obtain ⟨y, hy⟩ := Go.Deep.choose_lt each
  refine ⟨(List.range len).map fun r => .slice (A r) (L r) (C r), (List.range len).map y, by simp, ?_, by simp, ?_⟩
  · rcases Nat.eq_zero_or_pos len with h0 | h0
    · subst h0; exact .inl rfl
    · obtain ⟨b, off, spot⟩ := a
      have hc := (hall 0 (by omega)).1
      have hspot : spot = none := by simpa [Addr.add] using World.cell?_spot hc
      subst hspot
      refine .inr ⟨b, off, rfl, World.block_lt_of_cell? _ _ hc, fun j u hj => ?_⟩
      have hjl : j < len := by simpa using (List.getElem?_eq_some_iff.1 hj).1
      rw [List.getElem?_map, List.getElem?_range hjl] at hj
      injection hj with hj
      rw [← hj]
      have := (hall j (by omega)).1
      unfold Addr.add at this
      split at this
      · subst j; simpa using this
      · exact this
  · intro i hi
    have hil : i < len := by simpa using hi
    obtain ⟨e1, e2, e3, e4⟩ := hy i hil
    have eb : ((List.range len).map y).getD i [] = y i := by simp [List.getD_eq_getElem?_getD, hil]
    rw [eb]
    refine ⟨A i, C i, ?_, by omega, e4, e2⟩
    rw [List.getElem?_map, List.getElem?_range hil, e1]
    rfl


theorem info9 : (Try.prog.info? 9).map (fun i => (i.zero, i.size, i.bytes)) = some (some (.string ByteArray.empty), 1, 16) := by kernel_rfl
theorem own_at {w : World} {B k n size : Nat} {t : TypeId} {v : Value} {xs : List Value} (h : w.ownsRow B t size v n xs) (hk : v.ownBlock = some k) : ∃ cur, w.heap[k]? = some (Obj.cells cur t (0, 0)) := by
  rcases h.2 with ⟨e, _⟩ | ⟨g, cap, cur, e, _, hg, _⟩
  · rw [e] at hk; simp [Value.ownBlock] at hk
  · rw [e] at hk
    have : g = k := by simpa [Value.ownBlock] using hk
    subst this
    exact ⟨cur, hg⟩
/-- Another row (of strings, say) has grown. -/
theorem NetAt.aside {w w' : World} {B r mb : Nat} {v : Value} {nodes : Int} {ps : List Pkt} {n : Nat} {par : Int → Int → Bool} {row : Option Nat} (h : NetAt w B r v mb nodes ps n par) (hg : w.grownBy w' row)
    (hrow : ∀ k, row = some k → ∃ cur, w.heap[k]? = some (Obj.cells cur 9 (0, 0))) : NetAt w' B r v mb nodes ps n par := by
  have hne : ∀ (k : Nat) (cs : Array Value) (t : TypeId) (fr : Nat × Nat), w.heap[k]? = some (Obj.cells cs t fr) → t ≠ 9 → some k ≠ row := by
    intro k cs t fr hk ht e
    obtain ⟨cur, hc⟩ := hrow k e.symm
    rw [hk] at hc
    injection hc with hc
    injection hc with _ hc
    exact ht hc
  have hown : ∀ {u : Value} {m size : Nat} {t : TypeId} {xs : List Value}, w.ownsRow B t size u m xs → t ≠ 9 → w'.ownsRow B t size u m xs := by
    intro u m size t xs ho ht
    refine ho.kept hg ?_
    cases hu : u.ownBlock with
    | none => exact .inl rfl
    | some k =>
      obtain ⟨cur, hc⟩ := own_at ho hu
      exact .inr (hne k _ _ _ hc ht)
  refine ⟨by rw [hg.block r h.lt (hne r _ _ _ h.blk (by decide))]; exact h.blk, hown h.own (by decide), h.map.kept hg ?_, h.hr, h.hm, fun p hp => hown (h.bod p hp) (by decide)⟩
  intro e
  obtain ⟨cur, hc⟩ := hrow mb e.symm
  obtain ⟨es, c, hm⟩ := h.map.isMap
  rw [hm] at hc
  cases hc

set_option maxRecDepth 100000 in
theorem netOrder.big (A0 A1 : Option Addr) (n0 c0 n1 c1 : Nat) (w : World) (h : 60 < n0) :
    Calls Try.prog 5 #[.slice A0 n0 c0, .slice A1 n1 c1] w fun e w' => e = .returned (.bool true) ∧ Below w.heap.size w w' := by
  go_enter Try.func5, Try.ntmps5
  go_wp2_with (first
    | (go_at_call 7; refine (awake_true _).mono ?_; rintro e w1 ⟨rfl, hb1⟩; (have HB1 := Lib.hid hb1); clear hb1)
    | (go_at_call 8; refine (new_any 3 _ (by decide) (by decide)).mono ?_; rintro e w2 ⟨r, rfl, _, bel2⟩; (have BEL2 := Lib.hid bel2); clear bel2))
  go_returns
  exact ⟨rfl, HB1.out.trans (BEL2.out.mono HB1.out.size)⟩

theorem link10 (par : Int → Int → Bool) (o : Bool) : linkB 3 1 0 (upd par 0 1 o) = !o := by
  have e1 : bothB 3 1 0 = true := by decide
  have e2 : min (1 : Int) 0 = 0 := by decide
  have e3 : max (1 : Int) 0 = 1 := by decide
  unfold linkB
  rw [e1, e2, e3]
  simp [upd]
theorem link02 (par : Int → Int → Bool) (o : Bool) (h : par 0 2 = false) : linkB 3 0 2 (upd par 0 1 o) = true := by
  have e1 : bothB 3 0 2 = true := by decide
  have e2 : min (0 : Int) 2 = 0 := by decide
  have e3 : max (0 : Int) 2 = 2 := by decide
  unfold linkB
  rw [e1, e2, e3]
  simp [upd, h]

def strs9 (ps : List Pkt) : List Value := ps.map fun p => .string ⟨p.bytes.toArray⟩
def Fine (p : Pkt) : Prop := ((p.frm = 0 ∧ p.to = 1) ∨ (p.frm = 1 ∧ p.to = 0)) ∧ p.bytes.length ≤ 100

set_option maxRecDepth 100000 in
set_option maxHeartbeats 4000000 in
theorem netOrder.main (A0 A1 : Option Addr) (nb c0 np c1 : Nat) (vs : List Value) (bs : List (List UInt8)) (zs : List Int) (w : World) (hnb : bs.length = nb) (hb60 : nb ≤ 60) (hr0 : Rd w w.heap.size A0 vs) (hr1 : Rows2 w w.heap.size vs bs)
    (hnp : zs.length = np) (hr2 : Rd w w.heap.size A1 (zs.map (Value.int .i64))) (hnm : np ≤ 9223372036854775807) :
    Calls Try.prog 5 #[.slice A0 nb c0, .slice A1 np c1] w fun e w' => e = .returned (.bool true) ∧ Below w.heap.size w w' := by
  obtain ⟨i0, hi0, hz0, hz1, hz2⟩ := info_parts info9
  have HR0 := Lib.hid hr0
  have HR1 := Lib.hid hr1
  have HR2 := Lib.hid hr2
  have HNB := Lib.hid hnb
  have HNP := Lib.hid hnp
  clear hr0 hr1 hr2 hnb hnp
  go_enter Try.func5, Try.ntmps5
  go_wp2_with (first
    | (go_at_call 7; refine (awake_true _).mono ?_; rintro e w1 ⟨rfl, hb1⟩; (have HB1 := Lib.hid hb1); clear hb1)
    | (go_at_call 8; refine (new_any 3 _ (by decide) (by decide)).mono ?_; rintro e w2 ⟨r, rfl, ⟨v2, mb, N2⟩, bel2⟩; (have HN2 := Lib.hid N2); (have BEL2 := Lib.hid bel2); clear bel2 N2))
  obtain ⟨B, hB⟩ : ∃ B, B = w1.heap.size := ⟨_, rfl⟩
  have hwB : w.heap.size ≤ B := by rw [hB]; exact HB1.out.size
  have HB2 := Lib.hid (HB1.out.trans (BEL2.out.mono HB1.out.size))
  have hB2 : B ≤ w2.heap.size := by rw [hB]; exact BEL2.out.size
  rw [← hB] at HN2
  clear hB
  go_loopw [8, 9] (fun v x wr => ∃ (i : Nat) (v' : Value) (ps : List Pkt) (n : Nat) (par : Int → Int → Bool), x = .int .i64 i ∧ i ≤ nb ∧ Hid (wr.ownsRow w.heap.size 9 1 v ps.length (strs9 ps)) ∧ Hid (NetAt wr B r v' mb 3 ps n par) ∧ ps.length ≤ i ∧ n ≤ i ∧ Hid (par 0 2 = false) ∧ Hid (∀ p ∈ ps, Fine p) ∧ Hid (Below w.heap.size w wr) ∧ B ≤ wr.heap.size) (fun _ x _ => nb - (intOf x).toNat)
  case atStart => exact ⟨0, v2, [], 0, _, rfl, by omega, World.ownsRow_nil _ _ _ _, HN2.out, by simp, by simp, rfl, fun p hp => (by cases hp), HB2.out, hB2⟩
  obtain ⟨i, v', ps, n, par, rfl, hi, OWN, NT, hpl, hnl, PAR, FINE, HB, hBs⟩ := hrel
  obtain ⟨Av, cv, rfl, hcv, hcvm, _⟩ := own_sliceN OWN.out
  by_cases hend : i < nb
  · have hib : i < bs.length := by rw [HNB.out]; exact hend
    obtain ⟨Ab, cb, hvi, hcb1, hcb2, hrdb⟩ := (HR1.out.below HB.out).2 i hib
    obtain ⟨b0, o0, rfl, hb0, hc0⟩ := (HR0.out.below HB.out).at_ (fun e => by have := HR1.out.1; rw [e] at this; simp at this; omega)
    have hcell := hc0 i _ hvi
    obtain ⟨bl, hbl⟩ : ∃ bl, bl = bs.getD i [] := ⟨_, rfl⟩
    rw [← hbl] at hcell hrdb hcb1
    obtain ⟨kb, hkb⟩ : ∃ kb, kb = bl.length := ⟨_, rfl⟩
    rw [← hkb] at hcell hcb1
    have HRDB := Lib.hid hrdb
    have HKB := Lib.hid hkb
    have HC := Lib.hid hcell
    clear hvi hc0 hrdb hbl hkb
    by_cases hk : 100 < kb
    · go_wp2_with fail
      go_returns
      exact ⟨rfl, HB.out⟩
    · by_cases hip : i < np
      · have hiz : i < zs.length := by rw [HNP.out]; exact hip
        obtain ⟨b2, o2, rfl, hb2, hc2⟩ := (HR2.out.below HB.out).at_ (fun e => by have := congrArg List.length e; rw [List.length_map, List.length_nil] at this; omega)
        have hzc := hc2 i (.int .i64 (zs[i])) (by rw [List.getElem?_map, List.getElem?_eq_getElem hiz]; rfl)
        obtain ⟨z, hz⟩ : ∃ z, z = zs[i] := ⟨_, rfl⟩
        rw [← hz] at hzc
        clear hc2 hz hiz
        have a3 : (i : Int) < (np : Int) := by omega
        by_cases hz3 : Int.tmod z 3 = 0
        · have hz4 : (Int.tmod z 3 == 0) = true := by simp [hz3]
          clear hz3
          have hbb : bothB 3 ((i : Int) % 2) (1 - (i : Int) % 2) = true := by unfold bothB; simp; omega
          have hmn : min ((i : Int) % 2) (1 - (i : Int) % 2) = 0 := by omega
          have hmx : max ((i : Int) % 2) (1 - (i : Int) % 2) = 1 := by omega
          have HBBB := Lib.hid hbb
          have HMN := Lib.hid hmn
          have HMX := Lib.hid hmx
          have hk100 : kb ≤ 100 := by omega
          have a1 : (0 : Int) ≤ (i : Int) := by omega
          have a2 : (i : Int) < (nb : Int) := by omega
          clear hbb hmn hmx hk
          go_wp2_with fail
          refine (part_on B r mb v' 3 ps n par 0 1 true wr NT.out (by decide) hBs (by omega) (by decide)).mono ?_
          rintro e w3 ⟨rfl, N3, T3⟩
          have HN3 := Lib.hid (show NetAt w3 B r v' mb 3 ps (n + 1) (upd par 0 1 true) from N3)
          have hcell := (T3.below.cell (p := ⟨b0, o0 + i, none⟩) (Nat.lt_of_lt_of_le hb0 hwB)).trans HC.out
          have OWN3 := Lib.hid (own_quiet OWN.out T3.quiet (by decide) (by decide))
          have HB3 := Lib.hid (HB.out.trans (T3.below.mono hwB))
          have hB3 := Nat.le_trans hBs T3.below.size
          clear N3 T3
          go_wp2_with fail
          refine (send_off B r mb v' 3 ps (n + 1) (upd par 0 1 true) _ _ _ w3 HN3.out (by decide) HBBB.out (by rw [HMN.out, HMX.out]; simp [upd])).mono ?_
          rintro e w4 ⟨rfl, bel4⟩
          have N4 := HN3.out.below bel4
          have HN4 := Lib.hid N4
          have OWN4 := Lib.hid (own_keepN OWN3.out bel4)
          have HB4 := Lib.hid (HB3.out.trans (bel4.mono (Nat.le_trans hwB hB3)))
          have hB4 := Nat.le_trans hB3 bel4.size
          have l1 := linked_any B r mb v' 3 ps (n + 1) (upd par 0 1 true) 1 0 w4 N4 (by decide)
          rw [link10] at l1
          have L1 := Lib.hid l1
          clear N4 bel4 l1
          go_wp2_with fail
          refine L1.out.mono ?_
          rintro e w5 ⟨rfl, bel5⟩
          have N5 := HN4.out.below bel5
          have HN5 := Lib.hid N5
          have OWN5 := Lib.hid (own_keepN OWN4.out bel5)
          have HB5 := Lib.hid (HB4.out.trans (bel5.mono (Nat.le_trans hwB hB4)))
          have hB5 := Nat.le_trans hB4 bel5.size
          have l2 := linked_any B r mb v' 3 ps (n + 1) (upd par 0 1 true) 0 2 w5 N5 (by decide)
          rw [link02 _ _ PAR.out] at l2
          have L2 := Lib.hid l2
          clear N5 bel5 l2
          go_wp2_with fail
          refine L2.out.mono ?_
          rintro e w6 ⟨rfl, bel6⟩
          have HN6 := Lib.hid (HN5.out.below bel6)
          have OWN6 := Lib.hid (own_keepN OWN5.out bel6)
          have HB6 := Lib.hid (HB5.out.trans (bel6.mono (Nat.le_trans hwB hB5)))
          have hB6 := Nat.le_trans hB5 bel6.size
          clear bel6 hcell
          go_wp2_with fail
          go_roundw
          case rel => exact ⟨i + 1, v', ps, n + 1, _, by go_num, by omega, OWN6.out, HN6.out, by omega, by omega, by show upd par 0 1 true 0 2 = false; simp [upd, PAR.out], FINE.out, HB6.out, hB6⟩
          case measure => simp [intOf]; omega
        · have hz4 : (Int.tmod z 3 == 0) = false := by simp [hz3]
          clear hz3
          have hbb : bothB 3 ((i : Int) % 2) (1 - (i : Int) % 2) = true := by unfold bothB; simp; omega
          have hmn : min ((i : Int) % 2) (1 - (i : Int) % 2) = 0 := by omega
          have hmx : max ((i : Int) % 2) (1 - (i : Int) % 2) = 1 := by omega
          have hfn : ((i : Int) % 2 = 0 ∧ 1 - (i : Int) % 2 = 1) ∨ ((i : Int) % 2 = 1 ∧ 1 - (i : Int) % 2 = 0) := by omega
          have HBBB := Lib.hid hbb
          have HMN := Lib.hid hmn
          have HMX := Lib.hid hmx
          have HFN := Lib.hid hfn
          have hk100 : kb ≤ 100 := by omega
          have a1 : (0 : Int) ≤ (i : Int) := by omega
          have a2 : (i : Int) < (nb : Int) := by omega
          clear hbb hmn hmx hfn hk
          go_wp2_with fail
          refine (part_on B r mb v' 3 ps n par 0 1 false wr NT.out (by decide) hBs (by omega) (by decide)).mono ?_
          rintro e w3 ⟨rfl, N3, T3⟩
          have HN3 := Lib.hid (show NetAt w3 B r v' mb 3 ps (n + 1) (upd par 0 1 false) from N3)
          have hcell := (T3.below.cell (p := ⟨b0, o0 + i, none⟩) (Nat.lt_of_lt_of_le hb0 hwB)).trans HC.out
          have OWN3 := Lib.hid (own_quiet OWN.out T3.quiet (by decide) (by decide))
          have HB3 := Lib.hid (HB.out.trans (T3.below.mono hwB))
          have RB3 := Lib.hid (HRDB.out.below (T3.below.mono hwB))
          have hB3 := Nat.le_trans hBs T3.below.size
          clear N3
          go_wp2_with fail
          refine (send_on B r mb v' 3 ps (n + 1) (upd par 0 1 false) _ _ Ab bl kb cb w.heap.size w3 HN3.out (by decide) hB3 (by omega) HKB.out.symm (by omega) RB3.out HBBB.out (by rw [HMN.out, HMX.out]; simp [upd])).mono ?_
          rintro e w4 ⟨rfl, v4, A4, c4, N4, T4, _⟩
          have HN4 := Lib.hid N4
          have C4 := Lib.hid ((T4.below.cell (p := ⟨b0, o0 + i, none⟩) (Nat.lt_of_lt_of_le hb0 hwB)).trans hcell)
          have OWN4 := Lib.hid (own_quiet OWN3.out T4.quiet (by decide) (by decide))
          have HB4 := Lib.hid (HB3.out.trans (T4.below.mono hwB))
          have RB4 := Lib.hid (RB3.out.below (T4.below.mono hwB))
          have hB4 := Nat.le_trans hB3 T4.below.size
          have l1 := linked_any B r mb v4 3 _ (n + 1) (upd par 0 1 false) 1 0 w4 N4 (by decide)
          rw [link10] at l1
          have L1 := Lib.hid l1
          clear N4 T4 T3 l1 hcell
          go_wp2_with fail
          refine L1.out.mono ?_
          rintro e w5 ⟨rfl, bel5⟩
          have N5 := HN4.out.below bel5
          have HN5 := Lib.hid N5
          have bw5 : Below w.heap.size w4 w5 := bel5.mono (Nat.le_trans hwB hB4)
          have C5 := Lib.hid ((bw5.cell (p := ⟨b0, o0 + i, none⟩) hb0).trans C4.out)
          have OWN5 := Lib.hid (own_keepN OWN4.out bel5)
          have HB5 := Lib.hid (HB4.out.trans bw5)
          have RB5 := Lib.hid (RB4.out.below bw5)
          have hB5 := Nat.le_trans hB4 bel5.size
          have l2 := linked_any B r mb v4 3 _ (n + 1) (upd par 0 1 false) 0 2 w5 N5 (by decide)
          rw [link02 _ _ PAR.out] at l2
          have L2 := Lib.hid l2
          clear N5 bel5 bw5 l2
          go_wp2_with fail
          refine L2.out.mono ?_
          rintro e w6 ⟨rfl, bel6⟩
          have bw6 : Below w.heap.size w5 w6 := bel6.mono (Nat.le_trans hwB hB5)
          have HN6 := Lib.hid (HN5.out.below bel6)
          have C6 := (bw6.cell (p := ⟨b0, o0 + i, none⟩) hb0).trans C5.out
          have OWN6 := Lib.hid (own_keepN OWN5.out bel6)
          have HB6 := Lib.hid (HB5.out.trans bw6)
          have cv6 := conv_any kb cb HKB.out.symm (RB5.out.below bw6)
          have hB6 := Nat.le_trans hB5 bel6.size
          clear bel6 bw6
          go_wp2_with (at_builtin; refine wpList_appN _ rfl (.tmp 92) (.tmp 98) 59 rfl w.heap.size 9 i0 (.string ByteArray.empty) 1 16 Try.underlying59 hi0 hz0 hz1 hz2 rfl (by decide) (.slice Av ps.length cv) ps.length (strs9 ps) rfl (OWN6.out.alloc _) (w6.heap.size + 1) (some ⟨w6.heap.size, 0, none⟩) 1 1 [.string ⟨bl.toArray⟩] rfl rfl (new_cells w6 _ _ _ (by omega)) (by simp [Value.oneCell']) (by unfold maxLen; omega) (by omega) (by simp; omega) ?_; intro v7 w7 own7 gr7 at7)
          have bel7 : Below w6.heap.size w6 (w6.alloc (Obj.cells #[Value.string ⟨bl.toArray⟩] 9)) := (Below.refl _ _).alloc (Nat.le_refl _) _
          have HN7 := Lib.hid ((HN6.out.below bel7).aside gr7 (fun k hk => own_at (OWN6.out.alloc _) hk))
          have OWN7 := Lib.hid own7
          have HB7 := Lib.hid ((HB6.out.trans (bel7.mono (Nat.le_trans hwB hB6))).grown gr7 (by simp; omega) (fun k hk => own_geN OWN6.out k hk))
          have hB7 : B ≤ w7.heap.size := by have := gr7.size; simp at this; omega
          have FN := Lib.hid (show ∀ p ∈ ps ++ [(⟨(i : Int) % 2, 1 - (i : Int) % 2, A4, c4, bl⟩ : Pkt)], Fine p from fun p hp => by
            rcases List.mem_append.1 hp with h | h
            · exact FINE.out p h
            · have : p = ⟨(i : Int) % 2, 1 - (i : Int) % 2, A4, c4, bl⟩ := by simpa using h
              subst this
              exact ⟨HFN.out, by have := HKB.out; show bl.length ≤ 100; omega⟩)
          clear bel7 own7 gr7 at7 cv6 C6
          go_wp2_with fail
          go_roundw
          case rel => exact ⟨i + 1, v4, ps ++ [Pkt.mk ((i : Int) % 2) (1 - (i : Int) % 2) A4 c4 bl], n + 1, upd par 0 1 false, by go_num, by omega, by show w7.ownsRow _ _ _ _ _ _; rw [List.length_append]; unfold strs9; rw [List.map_append]; exact OWN7.out, HN7.out, by rw [List.length_append]; simp; omega, by omega, by show upd par 0 1 false 0 2 = false; simp [upd, PAR.out], FN.out, HB7.out, hB7⟩
          case measure => simp [intOf]; omega
      · have hip4 : decide ((i : Int) < (np : Int)) = false := by simp; omega
        have hbb : bothB 3 ((i : Int) % 2) (1 - (i : Int) % 2) = true := by unfold bothB; simp; omega
        have hmn : min ((i : Int) % 2) (1 - (i : Int) % 2) = 0 := by omega
        have hmx : max ((i : Int) % 2) (1 - (i : Int) % 2) = 1 := by omega
        have hfn : ((i : Int) % 2 = 0 ∧ 1 - (i : Int) % 2 = 1) ∨ ((i : Int) % 2 = 1 ∧ 1 - (i : Int) % 2 = 0) := by omega
        have HBBB := Lib.hid hbb
        have HMN := Lib.hid hmn
        have HMX := Lib.hid hmx
        have HFN := Lib.hid hfn
        have hk100 : kb ≤ 100 := by omega
        have a1 : (0 : Int) ≤ (i : Int) := by omega
        have a2 : (i : Int) < (nb : Int) := by omega
        clear hbb hmn hmx hfn hk
        go_wp2_with fail
        refine (part_on B r mb v' 3 ps n par 0 1 false wr NT.out (by decide) hBs (by omega) (by decide)).mono ?_
        rintro e w3 ⟨rfl, N3, T3⟩
        have HN3 := Lib.hid (show NetAt w3 B r v' mb 3 ps (n + 1) (upd par 0 1 false) from N3)
        have hcell := (T3.below.cell (p := ⟨b0, o0 + i, none⟩) (Nat.lt_of_lt_of_le hb0 hwB)).trans HC.out
        have OWN3 := Lib.hid (own_quiet OWN.out T3.quiet (by decide) (by decide))
        have HB3 := Lib.hid (HB.out.trans (T3.below.mono hwB))
        have RB3 := Lib.hid (HRDB.out.below (T3.below.mono hwB))
        have hB3 := Nat.le_trans hBs T3.below.size
        clear N3
        go_wp2_with fail
        refine (send_on B r mb v' 3 ps (n + 1) (upd par 0 1 false) _ _ Ab bl kb cb w.heap.size w3 HN3.out (by decide) hB3 (by omega) HKB.out.symm (by omega) RB3.out HBBB.out (by rw [HMN.out, HMX.out]; simp [upd])).mono ?_
        rintro e w4 ⟨rfl, v4, A4, c4, N4, T4, _⟩
        have HN4 := Lib.hid N4
        have C4 := Lib.hid ((T4.below.cell (p := ⟨b0, o0 + i, none⟩) (Nat.lt_of_lt_of_le hb0 hwB)).trans hcell)
        have OWN4 := Lib.hid (own_quiet OWN3.out T4.quiet (by decide) (by decide))
        have HB4 := Lib.hid (HB3.out.trans (T4.below.mono hwB))
        have RB4 := Lib.hid (RB3.out.below (T4.below.mono hwB))
        have hB4 := Nat.le_trans hB3 T4.below.size
        have l1 := linked_any B r mb v4 3 _ (n + 1) (upd par 0 1 false) 1 0 w4 N4 (by decide)
        rw [link10] at l1
        have L1 := Lib.hid l1
        clear N4 T4 T3 l1 hcell
        go_wp2_with fail
        refine L1.out.mono ?_
        rintro e w5 ⟨rfl, bel5⟩
        have N5 := HN4.out.below bel5
        have HN5 := Lib.hid N5
        have bw5 : Below w.heap.size w4 w5 := bel5.mono (Nat.le_trans hwB hB4)
        have C5 := Lib.hid ((bw5.cell (p := ⟨b0, o0 + i, none⟩) hb0).trans C4.out)
        have OWN5 := Lib.hid (own_keepN OWN4.out bel5)
        have HB5 := Lib.hid (HB4.out.trans bw5)
        have RB5 := Lib.hid (RB4.out.below bw5)
        have hB5 := Nat.le_trans hB4 bel5.size
        have l2 := linked_any B r mb v4 3 _ (n + 1) (upd par 0 1 false) 0 2 w5 N5 (by decide)
        rw [link02 _ _ PAR.out] at l2
        have L2 := Lib.hid l2
        clear N5 bel5 bw5 l2
        go_wp2_with fail
        refine L2.out.mono ?_
        rintro e w6 ⟨rfl, bel6⟩
        have bw6 : Below w.heap.size w5 w6 := bel6.mono (Nat.le_trans hwB hB5)
        have HN6 := Lib.hid (HN5.out.below bel6)
        have C6 := (bw6.cell (p := ⟨b0, o0 + i, none⟩) hb0).trans C5.out
        have OWN6 := Lib.hid (own_keepN OWN5.out bel6)
        have HB6 := Lib.hid (HB5.out.trans bw6)
        have cv6 := conv_any kb cb HKB.out.symm (RB5.out.below bw6)
        have hB6 := Nat.le_trans hB5 bel6.size
        clear bel6 bw6
        go_wp2_with (at_builtin; refine wpList_appN _ rfl (.tmp 92) (.tmp 98) 59 rfl w.heap.size 9 i0 (.string ByteArray.empty) 1 16 Try.underlying59 hi0 hz0 hz1 hz2 rfl (by decide) (.slice Av ps.length cv) ps.length (strs9 ps) rfl (OWN6.out.alloc _) (w6.heap.size + 1) (some ⟨w6.heap.size, 0, none⟩) 1 1 [.string ⟨bl.toArray⟩] rfl rfl (new_cells w6 _ _ _ (by omega)) (by simp [Value.oneCell']) (by unfold maxLen; omega) (by omega) (by simp; omega) ?_; intro v7 w7 own7 gr7 at7)
        have bel7 : Below w6.heap.size w6 (w6.alloc (Obj.cells #[Value.string ⟨bl.toArray⟩] 9)) := (Below.refl _ _).alloc (Nat.le_refl _) _
        have HN7 := Lib.hid ((HN6.out.below bel7).aside gr7 (fun k hk => own_at (OWN6.out.alloc _) hk))
        have OWN7 := Lib.hid own7
        have HB7 := Lib.hid ((HB6.out.trans (bel7.mono (Nat.le_trans hwB hB6))).grown gr7 (by simp; omega) (fun k hk => own_geN OWN6.out k hk))
        have hB7 : B ≤ w7.heap.size := by have := gr7.size; simp at this; omega
        have FN := Lib.hid (show ∀ p ∈ ps ++ [(⟨(i : Int) % 2, 1 - (i : Int) % 2, A4, c4, bl⟩ : Pkt)], Fine p from fun p hp => by
          rcases List.mem_append.1 hp with h | h
          · exact FINE.out p h
          · have : p = ⟨(i : Int) % 2, 1 - (i : Int) % 2, A4, c4, bl⟩ := by simpa using h
            subst this
            exact ⟨HFN.out, by have := HKB.out; show bl.length ≤ 100; omega⟩)
        clear bel7 own7 gr7 at7 cv6 C6
        go_wp2_with fail
        go_roundw
        case rel => exact ⟨i + 1, v4, ps ++ [Pkt.mk ((i : Int) % 2) (1 - (i : Int) % 2) A4 c4 bl], n + 1, upd par 0 1 false, by go_num, by omega, by show w7.ownsRow _ _ _ _ _ _; rw [List.length_append]; unfold strs9; rw [List.map_append]; exact OWN7.out, HN7.out, by rw [List.length_append]; simp; omega, by omega, by show upd par 0 1 false 0 2 = false; simp [upd, PAR.out], FN.out, HB7.out, hB7⟩
        case measure => simp [intOf]; omega
  · have hin : i = nb := by omega
    subst hin
    clear hi hend
    go_wp2_with fail
    obtain ⟨nw, hnw⟩ : ∃ nw, nw = ps.length := ⟨_, rfl⟩
    obtain ⟨ws, hws⟩ : ∃ ws, ws = ps.map Pkt.bytes := ⟨_, rfl⟩
    have hst : strs9 ps = ws.map (fun b => Value.string ⟨b.toArray⟩) := by rw [hws]; unfold strs9; rw [List.map_map]; rfl
    have hwl : ws.length = nw := by rw [hws, hnw, List.length_map]
    rw [← hnw] at OWN ⊢
    rw [hst] at OWN
    have HWL := Lib.hid hwl
    have HST := Lib.hid (show ps.map Pkt.bytes = ws.drop 0 by rw [hws]; rfl)
    have hpw : nw ≤ 60 := by omega
    clear hnw hws hst hwl
    go_loopw [13] (fun x wr => ∃ (k : Nat) (v' : Value) (ps : List Pkt), x = .int .i64 k ∧ k ≤ nw ∧ Hid (ps.map Pkt.bytes = ws.drop k) ∧ Hid (wr.ownsRow w.heap.size 9 1 (.slice Av nw cv) nw (ws.map (fun b => Value.string ⟨b.toArray⟩))) ∧ Hid (NetAt wr B r v' mb 3 ps n par) ∧ Hid (∀ p ∈ ps, Fine p) ∧ Hid (Below w.heap.size w wr) ∧ B ≤ wr.heap.size) (fun x _ => nw - (intOf x).toNat)
    case atStart => exact ⟨0, v', ps, rfl, by omega, HST.out, OWN.out, NT.out, FINE.out, HB.out, hBs⟩
    obtain ⟨k, v2, qs, rfl, hk, KEYS, OWNk, NTk, FINEk, HBk, hBk⟩ := hrel
    by_cases hend : k < nw
    · have hkw : k < ws.length := by rw [HWL.out]; exact hend
      obtain ⟨p, qs', rfl⟩ : ∃ p qs', qs = p :: qs' := by
        cases qs with
        | nil =>
          have := congrArg List.length KEYS.out
          rw [List.length_drop] at this
          simp at this
          omega
        | cons p qs' => exact ⟨p, qs', rfl⟩
      have hkeys := KEYS.out
      rw [List.drop_eq_getElem_cons hkw, List.map_cons] at hkeys
      injection hkeys with hkey hrest
      obtain ⟨hfine, hpl100⟩ := FINEk.out p (by simp)
      have FINE2 := Lib.hid (fun q (hq : q ∈ qs') => FINEk.out q (List.mem_cons_of_mem _ hq))
      have HREST := Lib.hid hrest
      have OP := NTk.out.bod p (by simp)
      obtain ⟨fa, fb, pA, pc, pl⟩ := p
      simp only at hkey hfine hpl100
      subst hkey
      have HTK := Lib.hid (take_on B r mb v2 3 (⟨fa, fb, pA, pc, ws[k]⟩ :: qs') n par 0 wr NTk.out hBk (by simp))
      simp only [Pkt.body] at OP
      obtain ⟨kp, hkp⟩ : ∃ kp, kp = (ws[k]).length := ⟨_, rfl⟩
      have hwc : ∀ W : World, W.ownsRow w.heap.size 9 1 (.slice Av nw cv) nw (ws.map (fun b => Value.string ⟨b.toArray⟩)) → ∃ gw, Av = some ⟨gw, 0, none⟩ ∧ W.cell? ⟨gw, k, none⟩ = some (.string ⟨(ws[k]).toArray⟩) := by
        intro W hW
        obtain ⟨gw, cw, hgw, _⟩ := hW.form (by omega)
        simp only [Value.slice.injEq] at hgw
        obtain ⟨rfl, _, rfl⟩ := hgw
        refine ⟨gw, rfl, ?_⟩
        rw [hW.cellAt k (by omega)]
        simp [hkw]
      have HWC := Lib.hid hwc
      obtain ⟨wk, hwk⟩ : ∃ wk, wk = ws[k] := ⟨_, rfl⟩
      rw [← hwk] at OP hkp HWC hpl100
      rw [← hkp] at OP
      have HOP := Lib.hid OP
      have HKP := Lib.hid hkp
      have hbd : ((⟨fa, fb, pA, pc, ws[k]⟩ :: qs') : List Pkt)[0].body = .slice pA kp pc := by show (Pkt.mk fa fb pA pc ws[k]).body = _; unfold Pkt.body; rw [hkp, hwk]
      clear hwc OP hkp hwk hrest
      go_wp2_with fail
      refine HTK.out.mono ?_
      rintro e w8 ⟨rfl, v8, N8, T8⟩
      have HN8 := Lib.hid (show NetAt w8 B r v8 mb 3 qs' n par from N8)
      have OW8 := own_quiet HOP.out T8.quiet (by decide) (by decide)
      have OWN8 := Lib.hid (own_quiet OWNk.out T8.quiet (by decide) (by decide))
      have HB8 := Lib.hid (HBk.out.trans (T8.below.mono hwB))
      have hB8 := Nat.le_trans hBk T8.below.size
      rw [hbd]
      obtain ⟨W9, hW9⟩ : ∃ W9, W9 = w8.alloc (Obj.cells #[Value.int IntKind.i64 fa, Value.int IntKind.i64 fb, Value.slice pA kp pc] 36) := ⟨_, rfl⟩
      have bel9 : Below w8.heap.size w8 W9 := by rw [hW9]; exact (Below.refl _ _).alloc (Nat.le_refl _) _
      have BX9 : W9.heap[w8.heap.size]? = some (Obj.cells #[Value.int IntKind.i64 fa, Value.int IntKind.i64 fb, Value.slice pA kp pc] 36 (0, 0)) := by rw [hW9]; exact heap_alloc_new w8 _
      have x0 := cell_of_row W9 w8.heap.size 0 _ _ _ BX9
      have x1 := cell_of_row W9 w8.heap.size 1 _ _ _ BX9
      have x2 := cell_of_row W9 w8.heap.size 2 _ _ _ BX9
      simp at x0 x1 x2
      have HN9 := Lib.hid ((HN8.out.below bel9).drew)
      have OWN9 := Lib.hid (own_keepN OWN8.out bel9).drew
      have HB9 := Lib.hid (HB8.out.trans (bel9.mono (Nat.le_trans hwB hB8))).drew
      have hB9 : B ≤ W9.heap.size := Nat.le_trans hB8 bel9.size
      obtain ⟨gw, rfl, y0⟩ := HWC.out _ (own_keepN OWN8.out bel9)
      have cv9 := conv_any (W := W9.drew) kp pc HKP.out.symm ((RdT.of_own (own_keepN OW8 bel9)).rd).drew
      have z0 : W9.drew.cell? ⟨w8.heap.size, 0, none⟩ = some (.int .i64 fa) := x0
      have z1 : W9.drew.cell? ⟨w8.heap.size, 1, none⟩ = some (.int .i64 fb) := x1
      have z2 : W9.drew.cell? ⟨w8.heap.size, 2, none⟩ = some (.slice pA kp pc) := x2
      have z3 : W9.drew.cell? ⟨gw, k, none⟩ = some (.string ⟨wk.toArray⟩) := y0
      have a1 : (0 : Int) ≤ (k : Int) := by omega
      have a2 : (k : Int) < (nw : Int) := by omega
      obtain ⟨bx, hbx⟩ : ∃ bx, bx = w8.heap.size := ⟨_, rfl⟩
      have HBX := Lib.hid hbx
      have HW9 := Lib.hid hW9
      rw [← hbx] at z0 z1 z2
      clear N8 T8 hbd bel9 BX9 x0 x1 x2 y0 OW8 HTK hbx hW9
      have e01 : ((⟨fa, fb, pA, pc, ws[k]⟩ :: qs') : List Pkt)[0].frm = fa := rfl
      have e02 : ((⟨fa, fb, pA, pc, ws[k]⟩ :: qs') : List Pkt)[0].to = fb := rfl
      rw [e01, e02]
      clear e01 e02
      rcases hfine with ⟨rfl, rfl⟩ | ⟨rfl, rfl⟩
      · go_wp2_with fail
        rw [← HW9.out, ← HBX.out]
        go_region_held3 (fun w' => w'.cell? ⟨bx, 0, none⟩ = some (.int .i64 0) ∧ w'.cell? ⟨bx, 1, none⟩ = some (.int .i64 1) ∧ w'.cell? ⟨bx, 2, none⟩ = some (.slice pA kp pc) ∧ w'.cell? ⟨gw, k, none⟩ = some (.string ⟨wk.toArray⟩) ∧ (convert 32 9 (.slice pA kp pc)).run Try.prog w' = .ok (.string ⟨wk.toArray⟩) w') (exact ⟨z0, z1, z2, z3, cv9⟩) (fail)
        go_wp2_with fail
        go_roundw
        case rel => exact ⟨k + 1, v8, qs', by go_num, by omega, HREST.out, OWN9.out, HN9.out, FINE2.out, HB9.out, hB9⟩
        case measure => simp [intOf]; omega
      · go_wp2_with fail
        rw [← HW9.out, ← HBX.out]
        go_region_held3 (fun w' => w'.cell? ⟨bx, 0, none⟩ = some (.int .i64 1) ∧ w'.cell? ⟨bx, 1, none⟩ = some (.int .i64 0) ∧ w'.cell? ⟨bx, 2, none⟩ = some (.slice pA kp pc) ∧ w'.cell? ⟨gw, k, none⟩ = some (.string ⟨wk.toArray⟩) ∧ (convert 32 9 (.slice pA kp pc)).run Try.prog w' = .ok (.string ⟨wk.toArray⟩) w') (exact ⟨z0, z1, z2, z3, cv9⟩) (fail)
        go_wp2_with fail
        go_roundw
        case rel => exact ⟨k + 1, v8, qs', by go_num, by omega, HREST.out, OWN9.out, HN9.out, FINE2.out, HB9.out, hB9⟩
        case measure => simp [intOf]; omega
    · have hkn : k = nw := by omega
      subst hkn
      have hq : qs = [] := by
        have := KEYS.out
        rw [List.drop_eq_nil_of_le (by rw [HWL.out]; omega)] at this
        exact List.map_eq_nil_iff.1 this
      subst hq
      clear hend hk
      have HTK := Lib.hid (take_no B r mb v2 3 [] n par 0 wr NTk.out (by simp))
      go_wp2_with fail
      refine HTK.out.mono ?_
      rintro e w8 ⟨rfl, bel8⟩
      have HN8 := Lib.hid (NTk.out.below bel8)
      have HB8 := Lib.hid (HBk.out.trans (bel8.mono (Nat.le_trans hwB hBk)))
      have hB8 := Nat.le_trans hBk bel8.size
      clear bel8
      go_wp2_with fail
      have bel9 : Below w8.heap.size w8 (w8.alloc (Obj.cells #[Value.int IntKind.i64 0, Value.int IntKind.i64 0, Value.slice none 0 0] 36)) := (Below.refl _ _).alloc (Nat.le_refl _) _
      refine (waiting_any B r mb v2 3 [] n par _ (HN8.out.below bel9) (by simp) (by simp)).mono ?_
      rintro e w9 ⟨v9, qs, rfl, hkeys, told, bel10⟩
      have hql : qs.length = 0 := by have := congrArg List.length hkeys; simpa using this
      obtain ⟨A9, c9, rfl, _⟩ := own_sliceN told.own
      rw [hql]
      have HB9 := Lib.hid ((HB8.out.trans (bel9.mono (Nat.le_trans hwB hB8))).trans (bel10.mono (by simp; omega)))
      clear told bel9 bel10 hkeys hql
      go_wp2_with fail
      go_returns
      exact ⟨rfl, HB9.out⟩

theorem IsRow.rd {k : IntKind} {w : World} {a : Option Addr} {len cap : Nat} {zs : List Int} (h : IsRow k w a len cap zs) :
    ∃ vs : List Int, vs.length = len ∧ Rd w w.heap.size a (vs.map (Value.int k)) ∧ len ≤ 9223372036854775807 ∧ ∀ n ∈ vs, (Lit.int k n).wf = true := by
  rcases h with ⟨rfl, rfl, rfl, rfl⟩ | ⟨x, rfl, hl, hm, hz, hcell, hwf⟩
  · exact ⟨[], rfl, .inl rfl, by omega, fun n h => by cases h⟩
  · unfold maxLen at hm
    refine ⟨zs.take len, by simp; omega, ?_, by omega, fun n hn => hwf n (List.mem_of_mem_take hn)⟩
    rcases Nat.eq_zero_or_pos len with h0 | h0
    · subst h0; exact .inl (by simp)
    · obtain ⟨b, off, spot⟩ := x
      have hc := hcell 0 (by omega)
      have hspot : spot = none := by simpa [Addr.add] using World.cell?_spot hc
      subst hspot
      refine .inr ⟨b, off, rfl, World.block_lt_of_cell? _ _ hc, fun j u hj => ?_⟩
      have hjl : j < len := by
        have := (List.getElem?_eq_some_iff.1 hj).1
        rw [List.length_map, List.length_take] at this
        omega
      have hjz : j < zs.length := by omega
      have hu : u = .int k (zs.getD j 0) := by
        simp only [List.getElem?_map, List.getElem?_take, if_pos hjl, List.getElem?_eq_getElem hjz, Option.map_some] at hj
        injection hj with hj
        rw [← hj]
        simp [List.getD_eq_getElem?_getD, hjz]
      rw [hu]
      have := hcell j hjz
      unfold Addr.add at this
      split at this
      · subst j; simpa using this
      · exact this

theorem netOrder.walk (a0 : Option Addr) (len0 cap0 : Nat) (vs : List Value) (bs : List (List UInt8)) (a1 : Option Addr) (len1 cap1 : Nat) (z1 : List Int) (w : World) (hbl : bs.length = len0) (hr0 : Rd w w.heap.size a0 vs) (hr1 : Rows2 w w.heap.size vs bs) (w1 : IsRow .i64 w a1 len1 cap1 z1) :
    Calls Try.prog 5 #[.slice a0 len0 cap0, .slice a1 len1 cap1] w fun e w' => e = .returned (.bool true) ∧ Below w.heap.size w w' := by
  obtain ⟨zs, hz, hr2, hm, _⟩ := w1.rd
  by_cases h : 60 < len0
  · exact netOrder.big a0 a1 len0 cap0 len1 cap1 w h
  · exact netOrder.main a0 a1 len0 cap0 len1 cap1 vs bs zs w hbl (by omega) hr0 hr1 hz hr2 hm
end Go.Proofs.Ytgdcnmicdhimhaa
