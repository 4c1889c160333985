/- The walk of NetOwn. -/
import Derived.Test.YtgdcnmicdhimhaaNf
import Derived.Deep.DeepCutAuto
import Derived.DataShut
namespace Go.Proofs.Ytgdcnmicdhimhaa
open Go.RowKit
set_option linter.unusedVariables false

set_option maxRecDepth 100000 in
set_option maxHeartbeats 1000000 in
theorem netOwn.big (A : Option Addr) (n cap : Nat) (i : Int) (w : World) (h : 1000 < n) :
    Calls Try.prog 4 #[.slice A n cap, .int .i64 i] w fun e w' => e = .returned (.bool true) ∧ Below w.heap.size w w' := by
  go_enter Try.func4, Try.ntmps4
  go_wp2_with (first
    | (go_at_call 7; refine (awake_true _).mono ?_; rintro e w1 ⟨rfl, hb1⟩; (have HB1 := Lib.hid hb1); clear hb1)
    | (go_at_call 9; refine (take_nil _ _).mono ?_; rintro e w2 ⟨rfl, hb2⟩; (have HB2 := Lib.hid hb2); clear hb2)
    | (go_at_call 15; refine (send_nil _ _ _ _).mono ?_; rintro e w3 ⟨rfl, rfl⟩)
    | (go_at_call 11; refine (twice_nil _ _).mono ?_; rintro e w3 ⟨rfl, rfl⟩)
    | (go_at_call 13; refine (part_nil _ _ _ _).mono ?_; rintro e w3 ⟨rfl, rfl⟩)
    | (go_at_call 18; refine (linked_nil _ _ _).mono ?_; rintro e w4 ⟨rfl, hb4⟩; (have HB4 := Lib.hid hb4); clear hb4)
    | (go_at_call 19; refine (waiting_nil _).mono ?_; rintro e w3 ⟨rfl, rfl⟩))
  go_returns
  have h1 := HB1.out.size
  have h2 := HB2.out.size
  exact ⟨rfl, (HB1.out.trans ((HB2.out.mono h1).alloc (by omega) _)).trans (HB4.out.mono (by simp; omega))⟩

/-- Cells that are bytes. -/
def Byts (n : Nat) (xs : List Value) : Prop := ∀ j, j < n → ∃ z, xs[j]? = some (.int .u8 z)
theorem Byts.of (l : List UInt8) : Byts l.length (bv l) := fun j hj => ⟨_, bv_get l j hj⟩
theorem Byts.set {n : Nat} {xs : List Value} (h : Byts n xs) (i : Nat) (z : Int) : Byts n (xs.set i (.int .u8 z)) := by
  intro j hj
  rw [List.getElem?_set]
  split
  · subst j
    split
    · exact ⟨z, rfl⟩
    · obtain ⟨z', h'⟩ := h i hj
      rw [List.getElem?_eq_none (by omega)] at h'
      cases h'
  · exact h j hj
theorem NetAt.far_low {w : World} {B r mb : Nat} {v : Value} {nodes : Int} {ps : List Pkt} {n : Nat} {par : Int → Int → Bool} (h : NetAt w B r v mb nodes ps n par) (k o : Nat) (u : Value) (hk : k < B) : NetAt (w.setCell ⟨k, o, none⟩ u) B r v mb nodes ps n par :=
  h.set_far k o u (by have := h.hr; omega) (by have := h.hm; omega) (fun j hj => by have := own_geN h.own j hj; omega) (fun q hq j hj => by have := own_geN (h.bod q hq) j hj; omega)

/-- A body that may be written into, in a block from S on. -/
def Room (w : World) (S : Nat) (q : Pkt) : Prop :=
  q.bytes.length = 0 ∨ ∃ (g : Nat) (cur : Array Value), q.A = some ⟨g, 0, none⟩ ∧ S ≤ g ∧ w.heap[g]? = some (Obj.cells cur 5 (0, 0)) ∧ q.bytes.length ≤ cur.size
theorem Room.of {w : World} {S : Nat} {q : Pkt} {xs : List Value} (h : w.ownsRow S 5 1 q.body q.bytes.length xs) : Room w S q := by
  rcases h.2 with ⟨_, h0⟩ | ⟨g, cap, cur, e, hB, hg, hnc, _, hsz, _⟩
  · exact .inl h0
  · unfold Pkt.body at e
    simp only [Value.slice.injEq] at e
    exact .inr ⟨g, cur, e.1, hB, hg, by omega⟩
theorem heap_set {w : World} {g : Nat} {cur : Array Value} {t : TypeId} {fr : Nat × Nat} (h : w.heap[g]? = some (Obj.cells cur t fr)) (k o : Nat) (u : Value) :
    ∃ cur', (w.setCell ⟨k, o, none⟩ u).heap[g]? = some (Obj.cells cur' t fr) ∧ cur'.size = cur.size := by
  by_cases e : g = k
  · subst e
    exact ⟨cur.setIfInBounds o u, by simp [World.setCell, Array.getElem?_modify, h], by simp⟩
  · exact ⟨cur, (Below.heap_setCell w ⟨k, o, none⟩ u g e).trans h, rfl⟩
theorem Room.set {w : World} {S : Nat} {q : Pkt} (h : Room w S q) (k o : Nat) (u : Value) : Room (w.setCell ⟨k, o, none⟩ u) S q := by
  rcases h with h | ⟨g, cur, h1, h2, h3, h4⟩
  · exact .inl h
  · obtain ⟨cur', e1, e2⟩ := heap_set h3 k o u
    exact .inr ⟨g, cur', h1, h2, e1, by omega⟩
/-- All of a network's blocks are below S. -/
def NetUp (r mb : Nat) (v : Value) (ps : List Pkt) (S : Nat) : Prop := r < S ∧ mb < S ∧ (∀ j, v.ownBlock = some j → j < S) ∧ ∀ q ∈ ps, ∀ j, q.body.ownBlock = some j → j < S
theorem NetAt.up {w : World} {B r mb : Nat} {v : Value} {nodes : Int} {ps : List Pkt} {n : Nat} {par : Int → Int → Bool} (h : NetAt w B r v mb nodes ps n par) : NetUp r mb v ps w.heap.size :=
  ⟨h.lt, h.map.lt, fun j hj => (h.own.lt j hj).2, fun q hq j hj => ((h.bod q hq).lt j hj).2⟩
theorem NetAt.far_high {w : World} {B r mb S : Nat} {v : Value} {nodes : Int} {ps : List Pkt} {n : Nat} {par : Int → Int → Bool} (h : NetAt w B r v mb nodes ps n par) (hu : NetUp r mb v ps S) (k o : Nat) (u : Value) (hk : S ≤ k) :
    NetAt (w.setCell ⟨k, o, none⟩ u) B r v mb nodes ps n par :=
  h.set_far k o u (by have := hu.1; omega) (by have := hu.2.1; omega) (fun j hj => by have := hu.2.2.1 j hj; omega) (fun q hq j hj => by have := hu.2.2.2 q hq j hj; omega)
theorem own_type_ne {w : World} {B k n size : Nat} {t t' : TypeId} {A : Option Addr} {c : Nat} {xs : List Value} {cur : Array Value} {fr : Nat × Nat} (h : w.ownsRow B t size (.slice A n c) n xs) (hg : w.heap[k]? = some (Obj.cells cur t' fr)) (hne : t ≠ t') :
    ∀ j, (Value.slice A n c).ownBlock = some j → j ≠ k := by
  intro j hj e
  subst e
  rcases h.2 with ⟨e, _⟩ | ⟨g', cap, cur', e, _, hgg, _⟩
  · rw [e] at hj; simp [Value.ownBlock] at hj
  · rw [e] at hj
    have : g' = j := by simpa [Value.ownBlock] using hj
    subst this
    rw [hg] at hgg
    injection hgg with hgg
    injection hgg with _ hgg
    exact hne hgg.symm
theorem NetAt.far_type {w : World} {B r mb : Nat} {v : Value} {nodes : Int} {ps : List Pkt} {n k : Nat} {par : Int → Int → Bool} {cur : Array Value} {fr : Nat × Nat} (h : NetAt w B r v mb nodes ps n par) (hg : w.heap[k]? = some (Obj.cells cur 5 fr)) (o : Nat) (u : Value)
    (hb : ∀ q ∈ ps, ∀ j, q.body.ownBlock = some j → j ≠ k) : NetAt (w.setCell ⟨k, o, none⟩ u) B r v mb nodes ps n par := by
  obtain ⟨A, c, hv, _⟩ := own_sliceN h.own
  refine h.set_far k o u ?_ ?_ (fun j hj => ?_) hb
  · intro e
    subst e
    rw [h.blk] at hg
    injection hg with hg
    injection hg with _ hg
    exact absurd hg (by decide)
  · intro e
    subst e
    obtain ⟨es, c, hm⟩ := h.map.isMap
    rw [hm] at hg
    cases hg
  · have ho := h.own
    rw [hv] at ho hj
    exact own_type_ne ho hg (by decide) j hj
theorem two_keys {qs : List Pkt} {l : List UInt8} (h : qs.map Pkt.key = [(0, 1, l), (0, 1, l)]) : ∃ q0 q1, qs = [q0, q1] ∧ q0.bytes = l ∧ q1.bytes = l := by
  have hl : qs.length = 2 := by have := congrArg List.length h; simpa using this
  obtain ⟨q0, q1, rfl⟩ : ∃ q0 q1, qs = [q0, q1] := match qs, hl with
    | [q0, q1], _ => ⟨q0, q1, rfl⟩
  simp [Pkt.key] at h
  exact ⟨q0, q1, rfl, h.1.2.2, h.2.2.2⟩

set_option maxRecDepth 100000 in
set_option maxHeartbeats 4000000 in
theorem netOwn.main (A : Option Addr) (l : List UInt8) (n cap : Nat) (i : Int) (w : World) (hl : l.length = n) (hn : n ≤ 1000) (hrd : Rd w w.heap.size A (bv l)) :
    Calls Try.prog 4 #[.slice A n cap, .int .i64 i] w fun e w' => e = .returned (.bool true) ∧ Below w.heap.size w w' := by
  obtain ⟨i0, hi0, hz0, hz1, hz2⟩ := info_parts info5
  have HR := Lib.hid hrd
  have HL := Lib.hid hl
  clear hrd hl
  go_enter Try.func4, Try.ntmps4
  go_upto_region 8 with (first
    | (go_at_call 7; refine (awake_true _).mono ?_; rintro e w1 ⟨rfl, hb1⟩; (have HB1 := Lib.hid hb1); clear hb1)
    | (go_at_call 9; refine (take_nil _ _).mono ?_; rintro e w2 ⟨rfl, hb2⟩; (have HB2 := Lib.hid hb2); clear hb2)
    | (go_at_call 15; refine (send_nil _ _ _ _).mono ?_; rintro e w3 ⟨rfl, rfl⟩)
    | (go_at_call 11; refine (twice_nil _ _).mono ?_; rintro e w3 ⟨rfl, rfl⟩)
    | (go_at_call 13; refine (part_nil _ _ _ _).mono ?_; rintro e w3 ⟨rfl, rfl⟩)
    | (go_at_call 18; refine (linked_nil _ _ _).mono ?_; rintro e w4 ⟨rfl, hb4⟩; (have HB4 := Lib.hid hb4); clear hb4)
    | (go_at_call 19; refine (waiting_nil _).mono ?_; rintro e w3 ⟨rfl, rfl⟩))
  have h1 := HB1.out.size
  have h2 := HB2.out.size
  have HB := Lib.hid ((HB1.out.trans ((HB2.out.mono h1).alloc (by omega) _)).trans (HB4.out.mono (by simp; omega)))
  have h4 := HB.out.size
  have HR4 := Lib.hid (HR.out.below HB.out)
  clear HB1 HB2 HB4 h1 h2
  go_wp2_with (at_builtin; refine wpList_appN _ rfl (.tmp 65) (.tmp 66) 32 rfl w.heap.size 5 i0 (.int .u8 0) 1 1 Try.underlying32 hi0 hz0 hz1 hz2 rfl (by decide) (.slice none 0 0) 0 [] rfl (World.ownsRow_nil _ _ _ _) w.heap.size A n cap (bv l) (by rw [bv_length, HL.out, Nat.mul_one]) rfl HR4.out (bv_one l) (by unfold maxLen; omega) (by omega) h4 ?_; intro v5 w5 own5 gr5 at5)
  rw [Nat.zero_add, List.nil_append] at own5
  obtain ⟨Am, cm, rfl, hcm, hcmm, hrdm⟩ := own_sliceN own5
  have OWN5 := Lib.hid own5
  have HB5 := Lib.hid (HB.out.grown gr5 h4 (fun k hk => by cases hk))
  have hs5 := HB5.out.size
  have HLM := Lib.hid own5.lt
  clear own5 gr5 at5 hrdm
  go_wp2_with fail
  refine (new_any 3 w5 (by decide) (by decide)).mono ?_
  rintro e w6 ⟨r, rfl, ⟨v6, mb, N6⟩, bel6⟩
  have HN6 := Lib.hid N6
  have OWN6 := Lib.hid (own_keepN OWN5.out bel6)
  have HB6 := Lib.hid (HB5.out.trans (bel6.mono hs5))
  have hs6 := bel6.size
  clear N6 bel6
  go_wp2_with fail
  refine (send_on w5.heap.size r mb v6 3 [] 0 (fun _ _ => false) 0 1 Am l n cm w6.heap.size w6 HN6.out (by decide) hs6 (by decide) HL.out (by omega) (RdT.of_own OWN6.out).rd (by decide) rfl).mono ?_
  rintro e w7 ⟨rfl, v7, A7, c7, N7, T7, own7⟩
  have HN7 := Lib.hid (show NetAt w7 w5.heap.size r v7 mb 3 [⟨0, 1, A7, c7, l⟩] 0 (fun _ _ => false) from N7)
  have OWN7 := Lib.hid (own_quiet OWN6.out T7.quiet (by decide) (by decide))
  have HB7 := Lib.hid (HB6.out.trans (T7.below.mono hs5))
  have hs7 := Nat.le_trans hs6 T7.below.size
  have HP0 := Lib.hid own7.lt
  clear N7 T7 own7
  go_wp2_with fail
  refine (twice_on w5.heap.size r mb v7 3 _ 0 (fun _ _ => false) 0 w7 HN7.out hs7 (by simp) (by simp) (by simp [HL.out]; omega)).mono ?_
  rintro e w8 ⟨rfl, v8, A8, c8, N8, T8, own8⟩
  have HN8 := Lib.hid (show NetAt w8 w5.heap.size r v8 mb 3 [⟨0, 1, A7, c7, l⟩, ⟨0, 1, A8, c8, l⟩] 0 (fun _ _ => false) from N8)
  have OWN8 := Lib.hid (own_quiet OWN7.out T8.quiet (by decide) (by decide))
  have HB8 := Lib.hid (HB7.out.trans (T8.below.mono hs5))
  have hs8 := Nat.le_trans hs7 T8.below.size
  have HP1 := Lib.hid (fun k (hk : (Value.slice A8 n c8).ownBlock = some k) => own8.lt k (by cases A8 with | none => cases hk | some a => exact hk))
  clear N8 T8 own8
  go_wp2_with fail
  go_loopw [12] (fun x wr => ∃ (j : Nat) (xs : List Value), x = .int .i64 j ∧ j ≤ n ∧ Hid (wr.ownsRow w.heap.size 5 1 (.slice Am n cm) n xs) ∧ Hid (Byts n xs) ∧ Hid (NetAt wr w5.heap.size r v8 mb 3 [⟨0, 1, A7, c7, l⟩, ⟨0, 1, A8, c8, l⟩] 0 (fun _ _ => false)) ∧ Hid (Below w.heap.size w wr) ∧ w5.heap.size ≤ wr.heap.size) (fun x _ => n - (intOf x).toNat)
  case atStart => exact ⟨0, _, rfl, by omega, OWN8.out, by have := Byts.of l; rw [HL.out] at this; exact this, HN8.out, HB8.out, hs8⟩
  obtain ⟨j, xs, rfl, hj, OWN, YS, NT, HBL, hsz⟩ := hrel
  by_cases hend : j < n
  · obtain ⟨z, hz⟩ := YS.out j hend
    obtain ⟨g, cg, hg, hgg, hgl⟩ := OWN.out.form (by omega)
    simp only [Value.slice.injEq] at hg
    obtain ⟨rfl, _, rfl⟩ := hg
    have hlow := (HLM.out g rfl).2
    have hcl := OWN.out.cellAt j (by omega)
    rw [hz] at hcl
    have hfr := OWN.out.frozenAt j
    have HST := Lib.hid (OWN.out.stored j (.int .u8 (bits .xor .u8 z 255)))
    have YS2 := Lib.hid (YS.out.set j (bits .xor .u8 z 255))
    have HB' := Lib.hid (HBL.out.setCell (p := ⟨g, j, none⟩) hgg (.int .u8 (bits .xor .u8 z 255)))
    have NT2 := Lib.hid (NT.out.far_low g j (.int .u8 (bits .xor .u8 z 255)) hlow)
    clear hz
    go_wp2_with fail
    go_roundw
    case rel => exact ⟨j + 1, _, by go_num, by omega, HST.out.1, YS2.out, NT2.out, HB'.out, by show _ ≤ (wr.setCell _ _).heap.size; simp [World.setCell]; omega⟩
    case measure => simp [intOf]; omega
  · have hjn : j = n := by omega
    subst hjn
    clear OWN YS hend hj
    have HWT := Lib.hid (waiting_any w5.heap.size r mb v8 3 _ 0 _ wr NT.out (by simp) (by simp [HL.out]; omega))
    go_wp2_with fail
    refine HWT.out.mono ?_
    rintro e w9 ⟨v9, qs, rfl, hkeys, told, bel9⟩
    have HN9 := Lib.hid (NT.out.below bel9)
    have HB9 := Lib.hid (HBL.out.trans (bel9.mono (Nat.le_trans hs5 hsz)))
    have hs9 := Nat.le_trans hsz bel9.size
    obtain ⟨S9, hS9⟩ : ∃ S9, S9 = wr.heap.size := ⟨_, rfl⟩
    rw [← hS9] at told
    obtain ⟨q0, q1, rfl, hq0, hq1⟩ := two_keys hkeys
    have UP := Lib.hid (hS9 ▸ NT.out.up)
    obtain ⟨g9, c9, hv9, hg9l, hg9, hc9, hc9m, _⟩ := told.packet 0 (by simp)
    simp only [List.length_cons, List.length_nil, Nat.zero_add, Nat.reduceAdd] at hv9 hc9
    subst hv9
    have hrow := told.own
    have ROW := Lib.hid (show w9.ownsRow S9 36 3 (.slice (some ⟨g9, 0, none⟩) 2 c9) 2 (pcells [q0, q1]) from hrow)
    have RM := Lib.hid (show ∀ q ∈ [q0, q1], Room w9 S9 q from fun q hq => Room.of (told.bod q hq))
    have HBY := Lib.hid (show ∀ q ∈ [q0, q1], q.bytes.length = j from fun q hq => by
      have hlj := HL.out
      simp at hq
      rcases hq with rfl | rfl
      · rw [hq0]; exact hlj
      · rw [hq1]; exact hlj)
    have hS9w : w.heap.size ≤ S9 := by rw [hS9]; omega
    clear hrow told hkeys hq0 hq1 bel9 hS9
    go_wp2_with fail
    go_loopw [14] (fun x wr => ∃ k : Nat, x = .int .i64 k ∧ k ≤ 2 ∧ Hid (wr.ownsRow S9 36 3 (.slice (some ⟨g9, 0, none⟩) 2 c9) 2 (pcells [q0, q1])) ∧ Hid (∀ q ∈ [q0, q1], Room wr S9 q) ∧ Hid (NetAt wr w5.heap.size r v8 mb 3 [⟨0, 1, A7, c7, l⟩, ⟨0, 1, A8, c8, l⟩] 0 (fun _ _ => false)) ∧ Hid (Below w.heap.size w wr) ∧ w5.heap.size ≤ wr.heap.size) (fun x _ => 2 - (intOf x).toNat)
    case atStart => exact ⟨0, rfl, by omega, ROW.out, RM.out, HN9.out, HB9.out, hs9⟩
    obtain ⟨k, rfl, hk, ROWk, RMk, NTk, HBk, hszk⟩ := hrel
    by_cases hend2 : k < 2
    · obtain ⟨q, hq⟩ : ∃ q, q = [q0, q1][k]'(by simpa using hend2) := ⟨_, rfl⟩
      have hmem : q ∈ [q0, q1] := by rw [hq]; exact List.getElem_mem _
      have hcell : ∀ W : World, W.ownsRow S9 36 3 (.slice (some ⟨g9, 0, none⟩) 2 c9) 2 (pcells [q0, q1]) → W.cell? ⟨g9, k * 3 + 2, none⟩ = some (.slice q.A j q.c) := by
        intro W hW
        rw [hW.cellAt (k * 3 + 2) (by omega), pcells_get [q0, q1] k (by simpa using hend2) 2 (by omega), ← hq]
        show some q.body = _
        unfold Pkt.body
        rw [HBY.out q hmem]
      have HCELL := Lib.hid hcell
      have HMEM := Lib.hid hmem
      have b1 : (0 : Int) ≤ (k : Int) := by omega
      have b2 : (k : Int) < 2 := by omega
      obtain ⟨wo, rfl⟩ : ∃ wo : World, wo = wr := ⟨_, rfl⟩
      clear hcell hmem hq
      go_wp2_with fail
      go_loopw [15] (fun x wr => ∃ t : Nat, x = .int .i64 t ∧ t ≤ j ∧ Hid (wr.ownsRow S9 36 3 (.slice (some ⟨g9, 0, none⟩) 2 c9) 2 (pcells [q0, q1])) ∧ Hid (∀ q ∈ [q0, q1], Room wr S9 q) ∧ Hid (NetAt wr w5.heap.size r v8 mb 3 [⟨0, 1, A7, c7, l⟩, ⟨0, 1, A8, c8, l⟩] 0 (fun _ _ => false)) ∧ Hid (Below w.heap.size w wr) ∧ w5.heap.size ≤ wr.heap.size) (fun x _ => j - (intOf x).toNat)
      case atStart => exact ⟨0, rfl, by omega, ROWk.out, RMk.out, NTk.out, HBk.out, hszk⟩
      obtain ⟨t, rfl, ht, ROWt, RMt, NTt, HBt, hszt⟩ := hrel
      have hcl := HCELL.out _ ROWt.out
      by_cases hend3 : t < j
      · obtain ⟨g, cur, hA, hgS, hgg, hgn⟩ := (RMt.out q HMEM.out).resolve_left (by rw [HBY.out q HMEM.out]; omega)
        rw [HBY.out q HMEM.out] at hgn
        rw [hA] at hcl
        have hc3 : wr.cell? ⟨g, t, none⟩ = some (cur[t]'(by omega)) := by
          rw [cell_of_row wr g t _ _ _ hgg]
          simp
        have hf3 := free_at hgg t
        have hgg9 : g9 ≠ g := own_type_ne ROWt.out hgg (by decide) g9 rfl
        have ROW2 := Lib.hid (own_set ROWt.out ⟨g, t, none⟩ (.int .u8 7) (fun j' hj' => own_type_ne ROWt.out hgg (by decide) j' hj'))
        have RM2 := Lib.hid (fun q' hq' => (RMt.out q' hq').set g t (.int .u8 7))
        have NT2 := Lib.hid (NTt.out.far_high UP.out g t (.int .u8 7) hgS)
        have HB2 := Lib.hid (HBt.out.setCell (p := ⟨g, t, none⟩) (by show w.heap.size ≤ g; omega) (.int .u8 7))
        obtain ⟨old, hold⟩ : ∃ old, old = cur[t]'(by omega) := ⟨_, rfl⟩
        rw [← hold] at hc3
        clear hA hgg hold
        go_wp2_with fail
        go_roundw
        case rel => exact ⟨t + 1, by go_num, by omega, ROW2.out, RM2.out, NT2.out, HB2.out, by show _ ≤ (wr.setCell _ _).heap.size; simp [World.setCell]; omega⟩
        case measure => simp [intOf]; omega
      · go_wp2_with fail
        go_roundw
        case rel => exact ⟨k + 1, by go_num, by omega, ROWt.out, RMt.out, NTt.out, HBt.out, hszt⟩
        case measure => simp [intOf]; omega
    · have hk2 : k = 2 := by omega
      subst hk2
      clear hend2 hk ROWk RMk ROW RM HN8 OWN8 HN9 HB9 HBY UP HWT
      have HTK := Lib.hid (take_on w5.heap.size r mb v8 3 _ 0 _ 0 wr NTk.out hszk (by simp))
      have OP0 := NTk.out.bod ⟨0, 1, A7, c7, l⟩ (by simp)
      have hlj := HL.out
      simp only [Pkt.body, hlj] at OP0
      have HOP0 := Lib.hid OP0
      clear OP0 hlj
      go_wp2_with fail
      refine HTK.out.mono ?_
      rintro e w10 ⟨rfl, v10, N10, T10⟩
      have HN10 := Lib.hid (show NetAt w10 w5.heap.size r v10 mb 3 [⟨0, 1, A8, c8, l⟩] 0 (fun _ _ => false) from N10)
      have OW10 := Lib.hid (own_quiet HOP0.out T10.quiet (by decide) (by decide))
      have HB10 := Lib.hid (HBk.out.trans (T10.below.mono hs5))
      have hs10 := Nat.le_trans hszk T10.below.size
      have hbd : ([⟨0, 1, A7, c7, l⟩, ⟨0, 1, A8, c8, l⟩] : List Pkt)[0].body = .slice A7 j c7 := by show (Pkt.mk 0 1 A7 c7 l).body = _; unfold Pkt.body; rw [HL.out]
      rw [hbd]
      clear N10 T10 HTK hbd HOP0 NTk
      go_wp2_with fail
      obtain ⟨W11, hW11⟩ : ∃ W11, W11 = w10.alloc (Obj.cells #[Value.int IntKind.i64 0, Value.int IntKind.i64 1, Value.slice A7 j c7] 36) := ⟨_, rfl⟩
      rw [← hW11]
      have bel11 : Below w10.heap.size w10 W11 := by rw [hW11]; exact (Below.refl _ _).alloc (Nat.le_refl _) _
      have BX11 := Lib.hid (show W11.heap[w10.heap.size]? = some (Obj.cells #[Value.int IntKind.i64 0, Value.int IntKind.i64 1, Value.slice A7 j c7] 36 (0, 0)) by rw [hW11]; exact heap_alloc_new w10 _)
      have HN11 := Lib.hid (HN10.out.below bel11)
      have OW11 := Lib.hid (own_keepN OW10.out bel11)
      have HB11 := Lib.hid (HB10.out.trans (bel11.mono (Nat.le_trans hs5 hs10)))
      have hs11 := Nat.le_trans hs10 bel11.size
      obtain ⟨bx, hbx⟩ : ∃ bx, bx = w10.heap.size := ⟨_, rfl⟩
      rw [← hbx] at BX11 ⊢
      have hlb : (bv l).length = j := by rw [bv_length]; exact HL.out
      have HLB := Lib.hid hlb
      clear hlb hbx hW11 bel11 HN10 OW10 HB10 hs10
      go_loopw [18] (fun x wr => ∃ (t : Nat) (xs : List Value), x = .int .i64 t ∧ t ≤ j ∧ Hid (wr.ownsRow w5.heap.size 5 1 (.slice A7 j c7) j xs) ∧ Hid (∀ u, t ≤ u → u < j → xs[u]? = (bv l)[u]?) ∧ Hid (wr.heap[bx]? = some (Obj.cells #[Value.int IntKind.i64 0, Value.int IntKind.i64 1, Value.slice A7 j c7] 36 (0, 0))) ∧ Hid (NetAt wr w5.heap.size r v10 mb 3 [⟨0, 1, A8, c8, l⟩] 0 (fun _ _ => false)) ∧ Hid (Below w.heap.size w wr) ∧ w5.heap.size ≤ wr.heap.size) (fun x _ => j - (intOf x).toNat)
      case atStart => exact ⟨0, bv l, rfl, by omega, OW11.out, fun u _ _ => rfl, BX11.out, HN11.out, HB11.out, hs11⟩
      obtain ⟨t, xs, rfl, ht, OWt, XS, BXt, NTt, HBt, hszt⟩ := hrel
      have cb2 := cell_of_row wr bx 2 _ _ _ BXt.out
      simp at cb2
      by_cases hend4 : t < j
      · have hx := XS.out t (Nat.le_refl _) hend4
        rw [bv_get l t (by rw [HL.out]; exact hend4)] at hx
        obtain ⟨g, cg, hg, hgg, hgl⟩ := OWt.out.form (by omega)
        simp only [Value.slice.injEq] at hg
        obtain ⟨rfl, hjj, rfl⟩ := hg
        clear hjj
        have hcl := OWt.out.cellAt t (by omega)
        rw [hx] at hcl
        have hfr := OWt.out.frozenAt t
        obtain ⟨b, off, rfl, hb, hcA⟩ := (HR.out.below HBt.out).at_ (fun e => by have := congrArg List.length e; rw [HLB.out] at this; simp at this; omega)
        have hca := hcA t _ (bv_get l t (by rw [HL.out]; exact hend4))
        obtain ⟨z, hz⟩ : ∃ z : Int, z = ((l.getD t 0).toNat : Int) := ⟨_, rfl⟩
        rw [← hz] at hcl hca
        have hgrow : ∃ cur, wr.heap[g]? = some (Obj.cells cur 5 (0, 0)) := by
          rcases OWt.out.2 with ⟨e, _⟩ | ⟨g', cap', cur, e, _, hh, _⟩
          · cases e
          · simp only [Value.slice.injEq, Option.some.injEq, Addr.mk.injEq, and_true, true_and] at e
            obtain ⟨rfl, _⟩ := e
            exact ⟨cur, hh⟩
        obtain ⟨cur, hcur⟩ := hgrow
        have hbg : bx ≠ g := by
          intro e
          subst e
          have := BXt.out
          rw [hcur] at this
          injection this with this
          injection this with _ this
          exact absurd this (by decide)
        have hbg' : ¬ g = bx := fun e => hbg e.symm
        have OW2 := Lib.hid (OWt.out.stored t (.int .u8 9)).1
        have XS2 := Lib.hid (show ∀ u, t + 1 ≤ u → u < j → (xs.set t (.int .u8 9))[u]? = (bv l)[u]? from fun u h1 h2 => by
          rw [List.getElem?_set, if_neg (by omega)]
          exact XS.out u (by omega) h2)
        have BX2 := Lib.hid ((Below.heap_setCell wr.drew ⟨g, t, none⟩ (.int .u8 9) bx hbg).trans BXt.out)
        have NT2 := Lib.hid (NTt.out.drew.far_type (k := g) hcur t (.int .u8 9) (fun q hq j' hj' => by
          have hq : q = ⟨0, 1, A8, c8, l⟩ := by simpa using hq
          subst hq
          have h1 := (HP1.out j' (by cases A8 with | none => cases hj' | some a => exact hj')).1
          have h0 := (HP0.out g rfl).2
          omega))
        have HB2 := Lib.hid ((HBt.out.drew).setCell (p := ⟨g, t, none⟩) (by show w.heap.size ≤ g; omega) (.int .u8 9))
        have k1 : wr.drew.cell? ⟨bx, 2, none⟩ = some (.slice (some ⟨g, 0, none⟩) j c7) := cb2
        have k2 : wr.drew.cell? ⟨g, t, none⟩ = some (.int .u8 z) := hcl
        have k3 : wr.drew.cell? ⟨b, off + t, none⟩ = some (.int .u8 z) := hca
        have k4 : wr.drew.frozen? ⟨g, t, none⟩ = false := hfr
        have a1 : (0 : Int) ≤ (t : Int) := by omega
        have a2 : (t : Int) < (j : Int) := by omega
        clear hx hz hcA hcur OWt
        go_wp2_with fail
        go_region_held3 (fun w' => w'.cell? ⟨bx, 2, none⟩ = some (.slice (some ⟨g, 0, none⟩) j c7) ∧ w'.cell? ⟨g, t, none⟩ = some (.int .u8 z) ∧ w'.cell? ⟨b, off + t, none⟩ = some (.int .u8 z)) (exact ⟨k1, k2, k3⟩) (fail)
        go_wp2_with fail
        go_roundw
        case rel => exact ⟨t + 1, _, by go_num, by omega, OW2.out, XS2.out, BX2.out, NT2.out, HB2.out, by show _ ≤ (wr.drew.setCell _ _).heap.size; simp [World.setCell]; omega⟩
        case measure => simp [intOf]; omega
      · have htj : t = j := by omega
        subst htj
        clear OWt XS OW11 HN11 BX11 HB11 hs11 hend4 ht
        have HTK := Lib.hid (take_on w5.heap.size r mb v10 3 _ 0 _ 0 wr NTt.out hszt (by simp))
        have OP1 := NTt.out.bod ⟨0, 1, A8, c8, l⟩ (by simp)
        have hlj := HL.out
        simp only [Pkt.body, hlj] at OP1
        have HOP1 := Lib.hid OP1
        clear OP1 hlj
        go_wp2_with fail
        refine HTK.out.mono ?_
        rintro e w12 ⟨rfl, v12, N12, T12⟩
        have HN12 := Lib.hid (show NetAt w12 w5.heap.size r v12 mb 3 [] 0 (fun _ _ => false) from N12)
        have OW12 := Lib.hid (own_quiet HOP1.out T12.quiet (by decide) (by decide))
        have HB12 := Lib.hid (HBt.out.trans (T12.below.mono hs5))
        have hs12 := Nat.le_trans hszt T12.below.size
        have hbd : ([⟨0, 1, A8, c8, l⟩] : List Pkt)[0].body = .slice A8 t c8 := by show (Pkt.mk 0 1 A8 c8 l).body = _; unfold Pkt.body; rw [HL.out]
        rw [hbd]
        clear N12 T12 HTK hbd HOP1 NTt
        have bel13 : Below w12.heap.size w12 (w12.alloc (Obj.cells #[Value.int IntKind.i64 0, Value.int IntKind.i64 1, Value.slice A8 t c8] 36)) := (Below.refl _ _).alloc (Nat.le_refl _) _
        have HB13 := Lib.hid (HB12.out.trans (bel13.mono (Nat.le_trans hs5 hs12)))
        have cvq := conv_any t c8 HL.out (RdT.of_own (own_keepN OW12.out bel13)).rd
        have cva := conv_any t cap HL.out (HR.out.below HB13.out)
        have HWT := Lib.hid (waiting_any w5.heap.size r mb v12 3 _ 0 _ _ (HN12.out.below bel13) (by simp) (by simp))
        have hs13 := Nat.le_trans hs12 bel13.size
        clear bel13
        go_wp2_with fail
        refine HWT.out.mono ?_
        rintro e w14 ⟨v14, qs, rfl, hkeys, told, bel14⟩
        have hql : qs.length = 0 := by have := congrArg List.length hkeys; simpa using this
        obtain ⟨A14, c14, rfl, _⟩ := own_sliceN told.own
        rw [hql]
        have HB14 := Lib.hid (HB13.out.trans (bel14.mono (Nat.le_trans hs5 hs13)))
        clear told bel14 hkeys hql
        go_wp2_with fail
        go_returns
        exact ⟨rfl, HB14.out⟩

/-- A slice of integers that came in: nil, or a row of 'cap' cells. -/
def IsRow (k : IntKind) (w : World) (a : Option Addr) (len cap : Nat) (zs : List Int) : Prop :=
  (a = none ∧ len = 0 ∧ cap = 0 ∧ zs = []) ∨
  ∃ x, a = some x ∧ len ≤ cap ∧ cap ≤ maxLen ∧ zs.length = cap ∧ (∀ i, i < zs.length → w.cell? (x.add i) = some (.int k (zs.getD i 0))) ∧ ∀ n ∈ zs, (Lit.int k n).wf = true
theorem IsRow.bytes {w : World} {a : Option Addr} {len cap : Nat} {zs : List Int} (h : IsRow .u8 w a len cap zs) :
    ∃ l : List UInt8, l.length = len ∧ Rd w w.heap.size a (bv l) ∧ len ≤ cap ∧ cap ≤ 9223372036854775807 := by
  rcases h with ⟨rfl, rfl, rfl, rfl⟩ | ⟨x, rfl, hl, hm, hz, hcell, hwf⟩
  · exact ⟨[], rfl, .inl rfl, Nat.le_refl _, by omega⟩
  · unfold maxLen at hm
    refine ⟨(zs.take len).map fun n => UInt8.ofNat n.toNat, by simp; omega, ?_, hl, hm⟩
    rcases Nat.eq_zero_or_pos len with h0 | h0
    · subst h0; exact .inl (by simp [bv])
    · obtain ⟨b, off, spot⟩ := x
      have hc := hcell 0 (by omega)
      have hspot : spot = none := by simpa [Addr.add] using World.cell?_spot hc
      subst hspot
      refine .inr ⟨b, off, rfl, World.block_lt_of_cell? _ _ hc, fun j u hj => ?_⟩
      have hjl : j < len := by
        have := (List.getElem?_eq_some_iff.1 hj).1
        rw [bv_length, List.length_map, List.length_take] at this
        omega
      have hjz : j < zs.length := by omega
      have hu : u = .int .u8 (zs.getD j 0) := by
        have hw := hwf (zs[j]) (List.getElem_mem hjz)
        rw [Go.Lit.wf_int_iff] at hw
        have hw1 : 0 ≤ zs[j] ∧ zs[j] ≤ 255 := by simpa [IntKind.min, IntKind.max, IntKind.bits, IntKind.signed] using hw
        have hv : ((UInt8.ofNat (zs[j]).toNat).toNat : Int) = zs[j] := by
          rw [UInt8.toNat_ofNat']
          omega
        simp only [bv, List.map_map, List.getElem?_map, List.getElem?_take, if_pos hjl, List.getElem?_eq_getElem hjz, Option.map_some, Function.comp] at hj
        rw [hv] at hj
        injection hj with hj
        rw [← hj]
        simp [List.getD_eq_getElem?_getD, hjz]
      rw [hu]
      have := hcell j hjz
      unfold Addr.add at this
      split at this
      · subst j; simpa using this
      · exact this

theorem netOwn.walk (a0 : Option Addr) (len0 cap0 : Nat) (z0 : List Int) (a1 : Int) (w : World) (w0 : IsRow .u8 w a0 len0 cap0 z0) (w1 : (Lit.int .i64 a1).wf = true) :
    Calls Try.prog 4 #[.slice a0 len0 cap0, .int .i64 a1] w fun e w' => e = .returned (.bool true) ∧ Below w.heap.size w w' := by
  obtain ⟨l, hl, hrd, _, _⟩ := w0.bytes
  by_cases h : 1000 < len0
  · exact netOwn.big a0 len0 cap0 a1 w h
  · exact netOwn.main a0 l len0 cap0 a1 w hl (by omega) hrd
end Go.Proofs.Ytgdcnmicdhimhaa
