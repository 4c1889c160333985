/- A network in memory; contracts of New, both, pair, Clone, own. -/
import Derived.Test.YtgdcnmicdhimhaaMq
import Derived.StillTailTactics
import Derived.Deep.RegionHeld3
import Derived.LoopTactic
import Derived.WalkSpells
namespace Go.Proofs.Ytgdcnmicdhimhaa
open Go.RowKit
set_option linter.unusedVariables false

theorem info36 : (Try.prog.info? 36).map (fun i => (i.zero, i.size, i.bytes)) = some (some (.agg #[.int .i64 0, .int .i64 0, .slice none 0 0]), 3, 40) := by kernel_rfl
theorem info5 : (Try.prog.info? 5).map (fun i => (i.zero, i.size, i.bytes)) = some (some (.int .u8 0), 1, 1) := by kernel_rfl

theorem own_set {w : World} {base n size : Nat} {e : TypeId} {v : Value} {xs : List Value} (h : w.ownsRow base e size v n xs) (p : Addr) (u : Value) (hne : ∀ k, v.ownBlock = some k → k ≠ p.block) : (w.setCell p u).ownsRow base e size v n xs := by
  refine ⟨h.1, ?_⟩
  rcases h.2 with hn | ⟨g, cap, cur, rfl, hb, hgg, rest⟩
  · exact .inl hn
  · exact .inr ⟨g, cap, cur, rfl, hb, (Below.heap_setCell w p u g (hne g rfl)).trans hgg, rest⟩

/-- A packet as it lies. -/
structure Pkt where
  frm : Int
  to : Int
  A : Option Addr
  c : Nat
  bytes : List UInt8
def Pkt.body (p : Pkt) : Value := .slice p.A p.bytes.length p.c
def Pkt.cells (p : Pkt) : List Value := [.int .i64 p.frm, .int .i64 p.to, p.body]
def pcells (ps : List Pkt) : List Value := ps.flatMap Pkt.cells
theorem pcells_length (ps : List Pkt) : (pcells ps).length = ps.length * 3 := by
  unfold pcells
  induction ps with
  | nil => rfl
  | cons p ps ih => rw [List.flatMap_cons, List.length_append, ih, List.length_cons]; simp [Pkt.cells]; omega
theorem pcells_append (ps qs : List Pkt) : pcells (ps ++ qs) = pcells ps ++ pcells qs := List.flatMap_append

/-- A network at block r, all its own from block B on: its row of packets is v, its map block mb. -/
structure NetAt (w : World) (B r : Nat) (v : Value) (mb : Nat) (nodes : Int) (ps : List Pkt) (n : Nat) (par : Int → Int → Bool) : Prop where
  blk : w.heap[r]? = some (Obj.cells #[.int .i64 nodes, v, .map (some mb)] 64 (0, 0))
  own : w.ownsRow B 36 3 v ps.length (pcells ps)
  map : MapIs w mb n par
  hr : B ≤ r
  hm : B ≤ mb
  bod : ∀ p ∈ ps, w.ownsRow B 5 1 p.body p.bytes.length (bv p.bytes)
def NetIs (w : World) (B r : Nat) (nodes : Int) (ps : List Pkt) (n : Nat) (par : Int → Int → Bool) : Prop := ∃ v mb, NetAt w B r v mb nodes ps n par
section
variable {w w' : World} {B r mb : Nat} {v : Value} {nodes : Int} {ps : List Pkt} {n : Nat} {par : Int → Int → Bool}
theorem NetAt.below (h : NetAt w B r v mb nodes ps n par) (hb : Below w.heap.size w w') : NetAt w' B r v mb nodes ps n par :=
  ⟨by rw [hb.block r (lt_of_heap h.blk)]; exact h.blk, own_keepN h.own hb, h.map.kept (row := none) ⟨hb.os, hb.tape, hb.output, hb.size, fun k hk _ => hb.block k hk⟩ (by simp), h.hr, h.hm, fun p hp => own_keepN (h.bod p hp) hb⟩
theorem NetAt.drew (h : NetAt w B r v mb nodes ps n par) : NetAt w.drew B r v mb nodes ps n par := ⟨h.blk, h.own, h.map, h.hr, h.hm, h.bod⟩
theorem NetAt.c0 (h : NetAt w B r v mb nodes ps n par) : w.cell? ⟨r, 0, none⟩ = some (.int .i64 nodes) := by rw [cell_of_row w r 0 _ _ _ h.blk]; rfl
theorem NetAt.c1 (h : NetAt w B r v mb nodes ps n par) : w.cell? ⟨r, 1, none⟩ = some v := by rw [cell_of_row w r 1 _ _ _ h.blk]; rfl
theorem NetAt.c2 (h : NetAt w B r v mb nodes ps n par) : w.cell? ⟨r, 2, none⟩ = some (.map (some mb)) := by rw [cell_of_row w r 2 _ _ _ h.blk]; rfl
theorem NetAt.lt (h : NetAt w B r v mb nodes ps n par) : r < w.heap.size := lt_of_heap h.blk
theorem NetAt.fr (h : NetAt w B r v mb nodes ps n par) (i : Nat) : w.frozen? ⟨r, i, none⟩ = false := by simp [World.frozen?, h.blk]
theorem NetAt.row_ne (h : NetAt w B r v mb nodes ps n par) : v.ownBlock ≠ some r ∧ v.ownBlock ≠ some mb ∧ r ≠ mb := by
  obtain ⟨es, c, hmb⟩ := h.map.isMap
  refine ⟨?_, ?_, ?_⟩
  · rcases h.own.2 with ⟨e, _⟩ | ⟨g, cap, cur, e, _, hg, _⟩
    · rw [e]; simp [Value.ownBlock]
    · rw [e]
      intro k
      have k : g = r := by simpa [Value.ownBlock] using k
      subst k
      rw [h.blk] at hg
      injection hg with hg
      injection hg with _ hg
      exact absurd hg (by decide)
  · rcases h.own.2 with ⟨e, _⟩ | ⟨g, cap, cur, e, _, hg, _⟩
    · rw [e]; simp [Value.ownBlock]
    · rw [e]
      intro k
      have k : g = mb := by simpa [Value.ownBlock] using k
      subst k
      rw [hmb] at hg
      cases hg
  · intro k
    subst k
    rw [h.blk] at hmb
    cases hmb
end

/-- How a network's call turns the world: nothing below B; no block of bytes, of the reference's. -/
structure Turn (B : Nat) (w w' : World) : Prop where
  below : Below B w w'
  quiet : Quiet w w'
theorem Turn.refl (B : Nat) (w : World) : Turn B w w := ⟨Below.refl _ _, Quiet.refl _⟩
theorem Turn.trans {B : Nat} {a b c : World} (h : Turn B a b) (h' : Turn B b c) : Turn B a c := ⟨h.below.trans h'.below, h.quiet.trans h'.quiet⟩
theorem Turn.of_below {B : Nat} {w w' : World} (h : Below w.heap.size w w') (hB : B ≤ w.heap.size) : Turn B w w' := ⟨h.mono hB, Quiet.below h⟩

theorem Quiet.setCell {w : World} {g : Nat} {cs : Array Value} {t : TypeId} {fr : Nat × Nat} (hg : w.heap[g]? = some (Obj.cells cs t fr)) (ht : t = 36 ∨ t = 64) (o : Nat) (u : Value) : Quiet w (w.setCell ⟨g, o, none⟩ u) := by
  intro k cs' t' fr' hk h1 h2
  rw [Below.heap_setCell w ⟨g, o, none⟩ u k (fun e => ?_)]
  · exact hk
  · have e : k = g := e
    subst e
    rw [hk] at hg
    injection hg with hg
    injection hg with _ hg
    rcases ht with rfl | rfl
    · exact h1 hg
    · exact h2 hg
theorem map_set {w : World} {mb n : Nat} {par : Int → Int → Bool} (h : MapIs w mb n par) (p : Addr) (u : Value) (hne : mb ≠ p.block) : MapIs (w.setCell p u) mb n par := by
  obtain ⟨D, hown, hat⟩ := h
  exact ⟨D, hown.setCell hne u, hat⟩

/-- The row of packets has been turned (in place, or it is a new one) and laid into the network. -/
theorem NetAt.turned {w w3 : World} {B r mb : Nat} {v v' : Value} {nodes : Int} {ps ps' : List Pkt} {n : Nat} {par : Int → Int → Bool} (h : NetAt w B r v mb nodes ps n par) (hg : w.grownBy w3 v.ownBlock)
    (hown : w3.ownsRow B 36 3 v' ps'.length (pcells ps')) (hbod : ∀ p ∈ ps', w.ownsRow B 5 1 p.body p.bytes.length (bv p.bytes)) :
    NetAt (w3.setCell ⟨r, 1, none⟩ v') B r v' mb nodes ps' n par ∧ (B ≤ w.heap.size → Turn B w (w3.setCell ⟨r, 1, none⟩ v')) := by
  obtain ⟨n1, n2, n3⟩ := h.row_ne
  have hq : Quiet w w3 := by
    rcases h.own.2 with ⟨e, _⟩ | ⟨g, cap, cur, e, _, hgg, _⟩
    · rw [e] at hg; exact Quiet.grownNone hg
    · rw [e] at hg; exact Quiet.grown hg hgg (.inl rfl)
  have hblk : w3.heap[r]? = some (Obj.cells #[.int .i64 nodes, v, .map (some mb)] 64 (0, 0)) := by rw [hg.block r h.lt (Ne.symm n1)]; exact h.blk
  have hne : ∀ k, v'.ownBlock = some k → k ≠ r := by
    intro k hk e
    subst e
    rcases hown.2 with ⟨e, _⟩ | ⟨g, cap, cur, e, _, hgg, _⟩
    · rw [e] at hk; simp [Value.ownBlock] at hk
    · rw [e] at hk
      have : g = k := by simpa [Value.ownBlock] using hk
      subst this
      rw [hblk] at hgg
      injection hgg with hgg
      injection hgg with _ hgg
      exact absurd hgg (by decide)
  have hq2 := Quiet.setCell hblk (.inr rfl) 1 v'
  refine ⟨⟨?_, own_set hown _ _ hne, map_set (h.map.kept hg (Ne.symm n2)) _ _ (Ne.symm n3), h.hr, h.hm, fun p hp => own_quiet (own_quiet (hbod p hp) hq (by decide) (by decide)) hq2 (by decide) (by decide)⟩, fun hB => ⟨?_, hq.trans hq2⟩⟩
  · simp [World.setCell, Array.getElem?_modify, hblk]
  · exact ((Below.refl _ _).grown hg hB (fun k hk => own_geN h.own k hk)).setCell h.hr _

theorem new_any (nodes : Int) (w : World) (h1 : 1 ≤ nodes) (h2 : nodes ≤ 65536) :
    Calls Try.prog 8 #[.int .i64 nodes] w fun e w' => ∃ r, e = .returned (.tuple #[.pointer (some ⟨r, 0, none⟩), .int .i64 0]) ∧ NetIs w' w.heap.size r nodes [] 0 (fun _ _ => false) ∧ Below w.heap.size w w' := by
  have hmm := @run_makeMap Try.prog
  go_enter Try.func8, Try.ntmps8
  go_wp2_with fail
  go_returns
  refine ⟨_, rfl, ?_, ((Below.refl _ _).alloc (Nat.le_refl _) _).alloc (by simp) _⟩
  refine ⟨.slice none 0 0, w.heap.size, ?_, World.ownsRow_nil _ _ _ _, (MapIs.made w).kept (World.grownBy_alloc _ _ none) (by simp), by omega, Nat.le_refl _, fun p hp => by cases hp⟩
  have := heap_alloc_new (w.alloc (.map #[] 0)) (.cells #[Value.int IntKind.i64 nodes, Value.slice none 0 0, Value.map (some w.heap.size)] 64)
  simpa using this
theorem new_no (nodes : Int) (w : World) (h : nodes < 1 ∨ 65536 < nodes) :
    Calls Try.prog 8 #[.int .i64 nodes] w fun e w' => e = .returned (.tuple #[.pointer none, .int .i64 1]) ∧ w = w' := by
  by_cases h1 : nodes < 1
  · go_enter Try.func8, Try.ntmps8
    go_wp2_with fail
    go_returns
    exact ⟨rfl, rfl⟩
  · have h2 : 65536 < nodes := by omega
    clear h
    go_enter Try.func8, Try.ntmps8
    go_wp2_with fail
    go_returns
    exact ⟨rfl, rfl⟩
def bothB (nodes a b : Int) : Bool := decide (0 ≤ a ∧ a < nodes ∧ 0 ≤ b ∧ b < nodes ∧ a ≠ b)
theorem both_any (r : Nat) (nodes a b : Int) (w : World) (hc : w.cell? ⟨r, 0, none⟩ = some (.int .i64 nodes)) :
    Calls Try.prog 23 #[.pointer (some ⟨r, 0, none⟩), .int .i64 a, .int .i64 b] w fun e w' => e = .returned (.bool (bothB nodes a b)) ∧ w = w' := by
  by_cases h1 : 0 ≤ a
  · by_cases h2 : a < nodes
    · by_cases h3 : 0 ≤ b
      · by_cases h4 : b < nodes
        · by_cases h5 : a = b
          · have hr : bothB nodes a b = false := by unfold bothB; simp; omega
            rw [hr]
            subst h5
            clear hr
            go_enter Try.func23, Try.ntmps23
            go_wp2_with fail
            go_returns
            exact ⟨rfl, rfl⟩
          · have hr : bothB nodes a b = true := by unfold bothB; simp; omega
            rw [hr]
            have h6 : (a != b) = true := by simp; omega
            clear hr h5
            go_enter Try.func23, Try.ntmps23
            go_wp2_with fail
            go_returns
            exact ⟨rfl, rfl⟩
        · have hr : bothB nodes a b = false := by unfold bothB; simp; omega
          rw [hr]
          clear hr
          go_enter Try.func23, Try.ntmps23
          go_wp2_with fail
          go_returns
          exact ⟨rfl, rfl⟩
      · have hr : bothB nodes a b = false := by unfold bothB; simp; omega
        rw [hr]
        clear hr
        go_enter Try.func23, Try.ntmps23
        go_wp2_with fail
        go_returns
        exact ⟨rfl, rfl⟩
    · have hr : bothB nodes a b = false := by unfold bothB; simp; omega
      rw [hr]
      clear hr
      go_enter Try.func23, Try.ntmps23
      go_wp2_with fail
      go_returns
      exact ⟨rfl, rfl⟩
  · have hr : bothB nodes a b = false := by unfold bothB; simp; omega
    rw [hr]
    clear hr
    go_enter Try.func23, Try.ntmps23
    go_wp2_with fail
    go_returns
    exact ⟨rfl, rfl⟩
theorem pair_any (a b : Int) (w : World) :
    Calls Try.prog 24 #[.int .i64 a, .int .i64 b] w fun e w' => e = .returned (kv (min a b) (max a b)) ∧ Below w.heap.size w w' := by
  go_enter Try.func24, Try.ntmps24
  go_wp2_with fail
  all_goals
    refine bodyPost_ret (v := kv (min a b) (max a b)) ?_ rfl ⟨rfl, (Below.refl _ _).alloc (Nat.le_refl _) _⟩
    simp [results, Try.results24, go_sem, kv]
    omega

/-- What a clone answers. -/
def Cloned (l : List UInt8) (n : Nat) (w : World) (e : Ending) (w' : World) : Prop :=
  ∃ A c, e = .returned (.slice A n c) ∧ w'.ownsRow w.heap.size 5 1 (.slice A n c) n (bv l) ∧ Below w.heap.size w w'
theorem clone_any (A : Option Addr) (l : List UInt8) (n cap : Nat) (B : Nat) (w : World) (h : Rd w B A (bv l)) (hn : l.length = n) (hlen : n ≤ 140737488355328) :
    Calls Try.prog 27 #[.slice A n cap] w (Cloned l n w) := by
  subst hn
  cases A with
  | none =>
    have hl : l = [] := by
      rcases h with h | ⟨b, off, h, _⟩
      · exact List.eq_nil_of_length_eq_zero (by have := congrArg List.length h; rwa [bv_length] at this)
      · cases h
    subst hl
    have hq := fun (w : World) => Lib.run_eql_slice_nil (P := Try.prog) w 32 5 none 0 cap 0 0 Try.underlying32
    simp only [List.length_nil]
    go_enter Try.func27, Try.ntmps27
    go_wp2_with fail
    go_returns
    exact ⟨none, 0, rfl, World.ownsRow_nil _ _ _ _, Below.refl _ _⟩
  | some x =>
    obtain ⟨i0, hi, hz0, hz1, hz2⟩ := info_parts info5
    have hq := fun (w : World) => Lib.run_eql_slice_nil (P := Try.prog) w 32 5 (some x) l.length cap 0 0 Try.underlying32
    go_enter Try.func27, Try.ntmps27
    go_wp2_with (at_builtin; refine wpList_app _ rfl (.tmp 5) (.tmp 6) 32 rfl w.heap.size 5 i0 (.int .u8 0) 1 Try.underlying32 hi hz0 hz1 hz2 rfl (.slice (some ⟨w.heap.size, 0, none⟩) 0 0) 0 [] rfl (World.ownsRow_made w #[] 0 (Nat.le_refl _) (by unfold maxLen; omega) rfl) B (some x) l.length cap (bv l) rfl (bv_length l) (h.alloc _) (bv_one l) (by unfold maxLen; omega) (by omega) (by simp) ?_; intro v' w1 hown hg hat hne)
    go_returns
    rw [Nat.zero_add, List.nil_append] at hown
    obtain ⟨A', c', rfl, _⟩ := own_sliceN hown
    exact ⟨A', c', rfl, hown, ((Below.refl _ _).alloc (Nat.le_refl _) _).grown hg (by simp) (fun k hk => by have : w.heap.size = k := by { simpa [Value.ownBlock] using hk }; omega)⟩

theorem bcell {W w1 : World} (hb : Below W.heap.size W w1) : (∀ b o, b < W.heap.size → w1.cell? ⟨b, o, none⟩ = W.cell? ⟨b, o, none⟩) ∧ (∀ b o, b < W.heap.size → w1.frozen? ⟨b, o, none⟩ = W.frozen? ⟨b, o, none⟩) :=
  ⟨fun b o h => hb.cell (p := ⟨b, o, none⟩) h, fun b o h => hb.frozen (p := ⟨b, o, none⟩) h⟩

theorem free_at {w : World} {g : Nat} {cs : Array Value} {t : TypeId} (h : w.heap[g]? = some (Obj.cells cs t (0, 0))) (i : Nat) : w.frozen? ⟨g, i, none⟩ = false := by
  simp [World.frozen?, h]

/-- What 'own' answers: the packet with a body of its own. -/
def Owned (a b : Int) (l : List UInt8) (n : Nat) (w : World) (e : Ending) (w' : World) : Prop :=
  ∃ A c, e = .returned (.agg #[.int .i64 a, .int .i64 b, .slice A n c]) ∧ w'.ownsRow w.heap.size 5 1 (.slice A n c) n (bv l) ∧ Below w.heap.size w w'
theorem own_any (a b : Int) (A : Option Addr) (l : List UInt8) (n cap : Nat) (B : Nat) (w : World) (h : Rd w B A (bv l)) (hn : l.length = n) (hlen : n ≤ 140737488355328) :
    Calls Try.prog 22 #[.agg #[.int .i64 a, .int .i64 b, .slice A n cap]] w (Owned a b l n w) := by
  have HC := Lib.hid (fun W (h : Rd W B A (bv l)) => clone_any A l n cap B W h hn hlen)
  have HR := Lib.hid h
  clear h hn
  unfold Cloned at HC
  go_enter Try.func22, Try.ntmps22
  go_wp2_with fail
  refine (HC.out _ ((HR.out.alloc _).alloc _)).mono ?_
  rintro e w1 ⟨A', c', rfl, own, bel⟩
  have OWN := Lib.hid own
  have BEL := Lib.hid bel
  have hz := bel.size
  have hz : w.heap.size + 1 < w1.heap.size := by simp at hz; omega
  have B0 : w1.heap[w.heap.size]? = some (Obj.cells #[.int .i64 a, .int .i64 b, .slice A n cap] 36 (0, 0)) := by
    rw [bel.block w.heap.size (by simp; omega), Below.heap_alloc _ _ _ (by simp)]
    exact heap_alloc_new w _
  have B1 : w1.heap[w.heap.size + 1]? = some (Obj.cells #[.int .i64 0, .int .i64 0, .slice none 0 0] 36 (0, 0)) := by
    have := bel.block (w.heap.size + 1) (by simp)
    rw [this]
    have := heap_alloc_new (w.alloc (Obj.cells #[.int .i64 a, .int .i64 b, .slice A n cap] 36)) (Obj.cells #[.int .i64 0, .int .i64 0, .slice none 0 0] 36)
    simpa using this
  have c00 := cell_of_row w1 w.heap.size 0 _ _ _ B0
  have c01 := cell_of_row w1 w.heap.size 1 _ _ _ B0
  have c02 := cell_of_row w1 w.heap.size 2 _ _ _ B0
  have c10 := cell_of_row w1 (w.heap.size + 1) 0 _ _ _ B1
  have c11 := cell_of_row w1 (w.heap.size + 1) 1 _ _ _ B1
  have c12 := cell_of_row w1 (w.heap.size + 1) 2 _ _ _ B1
  have f0 := fun i => free_at B0 i
  have f1 := fun i => free_at B1 i
  simp at c00 c01 c02 c10 c11 c12
  clear own bel B0 B1
  go_wp2_with fail
  refine bodyPost_ret (v := .agg #[.int .i64 a, .int .i64 b, .slice A' n c']) ?_ rfl ⟨A', c', rfl, ?_, ?_⟩
  · simp [results, Try.results22, go_sem, c10, c11, c12]
  · have h2 : ∀ k, (Value.slice A' n c').ownBlock = some k → w.heap.size + 2 ≤ k := fun k hk => by have := own_geN OWN.out k hk; simp at this; omega
    exact own_baseN (own_set (own_set (own_set (own_set OWN.out _ _ (fun k hk => by have := h2 k hk; simp; omega)) _ _ (fun k hk => by have := h2 k hk; simp; omega)) _ _ (fun k hk => by have := h2 k hk; simp; omega)) _ _ (fun k hk => by have := h2 k hk; simp; omega)) (by simp; omega)
  · exact ((((((Below.refl _ _).alloc (Nat.le_refl _) _).alloc (by simp) _).trans (BEL.out.mono (by simp; omega))).setCell (by simp) _).setCell (by simp) _).setCell (by simp) _ |>.setCell (by simp) _

theorem there_any (r : Nat) (v : Value) (k : Nat) (i : Int) (A : Option Addr) (c : Nat) (w : World) (hv : v = .slice A k c) (hc : w.cell? ⟨r, 1, none⟩ = some v) :
    Calls Try.prog 20 #[.pointer (some ⟨r, 0, none⟩), .int .i64 i] w fun e w' => e = .returned (.bool (decide (0 ≤ i ∧ i < k))) ∧ w = w' := by
  subst hv
  by_cases h1 : 0 ≤ i
  · by_cases h2 : i < (k : Int)
    · have hr : decide (0 ≤ i ∧ i < (k : Int)) = true := by simp; omega
      rw [hr]
      clear hr
      go_enter Try.func20, Try.ntmps20
      go_wp2_with fail
      go_returns
      exact ⟨rfl, rfl⟩
    · have hr : decide (0 ≤ i ∧ i < (k : Int)) = false := by simp; omega
      rw [hr]
      clear hr
      go_enter Try.func20, Try.ntmps20
      go_wp2_with fail
      go_returns
      exact ⟨rfl, rfl⟩
  · have hr : decide (0 ≤ i ∧ i < (k : Int)) = false := by simp; omega
    rw [hr]
    clear hr
    go_enter Try.func20, Try.ntmps20
    go_wp2_with fail
    go_returns
    exact ⟨rfl, rfl⟩
theorem there_nil (i : Int) (w : World) : Calls Try.prog 20 #[.pointer none, .int .i64 i] w fun e w' => e = .returned (.bool false) ∧ w = w' := by
  go_enter Try.func20, Try.ntmps20
  go_wp2_with fail
  go_returns
  exact ⟨rfl, rfl⟩
end Go.Proofs.Ytgdcnmicdhimhaa
