/- Contracts of the reference: both, Linked. -/
import Derived.Test.YtgdcnmicdhimhaaNi
namespace Go.Proofs.Ytgdcnmicdhimhaa
open Go.RowKit
set_option linter.unusedVariables false

def lcell (p : Int × Int × List UInt8) : List Value := [.int .i64 p.1, .int .i64 p.2.1, .string ⟨p.2.2.toArray⟩]
def lcells (L : List (Int × Int × List UInt8)) : List Value := L.flatMap lcell
def qcell (p : Int × Int) : List Value := [.int .i64 p.1, .int .i64 p.2]
def qcells (P : List (Int × Int)) : List Value := P.flatMap qcell
theorem flat_len {α : Type} (f : α → List Value) (k : Nat) (hf : ∀ x, (f x).length = k) : ∀ l : List α, (l.flatMap f).length = l.length * k
  | [] => by simp
  | x :: l => by rw [List.flatMap_cons, List.length_append, flat_len f k hf l, hf, List.length_cons, Nat.add_mul]; omega
theorem flat_get {α : Type} (f : α → List Value) (k : Nat) (hf : ∀ x, (f x).length = k) : ∀ (l : List α) (i : Nat) (h : i < l.length) (j : Nat), j < k → (l.flatMap f)[i * k + j]? = (f l[i])[j]?
  | x :: l, 0, _, j, hj => by
    rw [List.flatMap_cons, List.getElem?_append_left (by rw [hf]; omega)]
    simp
  | x :: l, i + 1, h, j, hj => by
    have ih := flat_get f k hf l i (by simpa using h) j hj
    rw [List.flatMap_cons, List.getElem?_append_right (by rw [hf, Nat.add_mul]; omega), hf]
    have : (i + 1) * k + j - k = i * k + j := by rw [Nat.add_mul]; omega
    rw [this, ih]
    rfl
theorem lcells_length (L : List (Int × Int × List UInt8)) : (lcells L).length = L.length * 3 := flat_len lcell 3 (fun _ => rfl) L
theorem qcells_length (P : List (Int × Int)) : (qcells P).length = P.length * 2 := flat_len qcell 2 (fun _ => rfl) P

/-- The reference's network in memory: what its two slices read as. -/
structure RefAt (w : World) (AL : Option Addr) (cL : Nat) (AP : Option Addr) (cP : Nat) (L : List (Int × Int × List UInt8)) (P : List (Int × Int)) : Prop where
  l : RdT w 40 AL (lcells L)
  p : RdT w 67 AP (qcells P)
  hl : L.length ≤ cL
  hl2 : cL ≤ 9223372036854775807
  hp : P.length ≤ cP
  hp2 : cP ≤ 9223372036854775807
section
variable {w w' : World} {AL AP : Option Addr} {cL cP : Nat} {L : List (Int × Int × List UInt8)} {P : List (Int × Int)}
theorem RefAt.quiet (h : RefAt w AL cL AP cP L P) (hq : Quiet w w') : RefAt w' AL cL AP cP L P := ⟨h.l.quiet hq (by decide) (by decide), h.p.quiet hq (by decide) (by decide), h.hl, h.hl2, h.hp, h.hp2⟩
theorem RefAt.below (h : RefAt w AL cL AP cP L P) (hb : Below w.heap.size w w') : RefAt w' AL cL AP cP L P := h.quiet (Quiet.below hb)
theorem RefAt.pair (h : RefAt w AL cL AP cP L P) (i : Nat) (hi : i < P.length) : ∃ b off, AP = some ⟨b, off, none⟩ ∧ b < w.heap.size ∧ w.cell? ⟨b, off + i * 2, none⟩ = some (.int .i64 (P[i]).1) ∧ w.cell? ⟨b, off + i * 2 + 1, none⟩ = some (.int .i64 (P[i]).2) := by
  obtain ⟨b, off, hA, hb, hc⟩ := h.p.at_ (fun e => by have := congrArg List.length e; rw [qcells_length] at this; simp at this; omega)
  refine ⟨b, off, hA, hb, ?_, ?_⟩
  · exact hc (i * 2) _ (by have := flat_get qcell 2 (fun _ => rfl) P i hi 0 (by omega); simpa [qcell, qcells] using this)
  · exact hc (i * 2 + 1) _ (by have := flat_get qcell 2 (fun _ => rfl) P i hi 1 (by omega); simpa [qcell, qcells] using this)
theorem RefAt.packet (h : RefAt w AL cL AP cP L P) (i : Nat) (hi : i < L.length) : ∃ b off, AL = some ⟨b, off, none⟩ ∧ b < w.heap.size ∧ w.cell? ⟨b, off + i * 3, none⟩ = some (.int .i64 (L[i]).1) ∧ w.cell? ⟨b, off + i * 3 + 1, none⟩ = some (.int .i64 (L[i]).2.1) ∧ w.cell? ⟨b, off + i * 3 + 2, none⟩ = some (.string ⟨(L[i]).2.2.toArray⟩) := by
  obtain ⟨b, off, hA, hb, hc⟩ := h.l.at_ (fun e => by have := congrArg List.length e; rw [lcells_length] at this; simp at this; omega)
  refine ⟨b, off, hA, hb, ?_, ?_, ?_⟩
  · exact hc (i * 3) _ (by have := flat_get lcell 3 (fun _ => rfl) L i hi 0 (by omega); simpa [lcell, lcells] using this)
  · exact hc (i * 3 + 1) _ (by have := flat_get lcell 3 (fun _ => rfl) L i hi 1 (by omega); simpa [lcell, lcells] using this)
  · exact hc (i * 3 + 2) _ (by have := flat_get lcell 3 (fun _ => rfl) L i hi 2 (by omega); simpa [lcell, lcells] using this)
end

theorem rboth_any (nodes a b : Int) (x y : Value) (w : World) :
    Calls Try.prog 25 #[.agg #[.int .i64 nodes, x, y], .int .i64 a, .int .i64 b] w fun e w' => e = .returned (.bool (bothB nodes a b)) ∧ Below w.heap.size w w' := by
  by_cases h1 : 0 ≤ a
  · by_cases h2 : a < nodes
    · by_cases h3 : 0 ≤ b
      · by_cases h4 : b < nodes
        · by_cases h5 : a = b
          · have hr : bothB nodes a b = false := by unfold bothB; simp; omega
            rw [hr]
            subst h5
            clear hr
            go_enter Try.func25, Try.ntmps25
            go_wp2_with fail
            go_returns
            exact ⟨rfl, (Below.refl _ _).alloc (Nat.le_refl _) _⟩
          · have hr : bothB nodes a b = true := by unfold bothB; simp; omega
            rw [hr]
            have h6 : (a != b) = true := by simp; omega
            clear hr h5
            go_enter Try.func25, Try.ntmps25
            go_wp2_with fail
            go_returns
            exact ⟨rfl, (Below.refl _ _).alloc (Nat.le_refl _) _⟩
        · have hr : bothB nodes a b = false := by unfold bothB; simp; omega
          rw [hr]
          clear hr
          go_enter Try.func25, Try.ntmps25
          go_wp2_with fail
          go_returns
          exact ⟨rfl, (Below.refl _ _).alloc (Nat.le_refl _) _⟩
      · have hr : bothB nodes a b = false := by unfold bothB; simp; omega
        rw [hr]
        clear hr
        go_enter Try.func25, Try.ntmps25
        go_wp2_with fail
        go_returns
        exact ⟨rfl, (Below.refl _ _).alloc (Nat.le_refl _) _⟩
    · have hr : bothB nodes a b = false := by unfold bothB; simp; omega
      rw [hr]
      clear hr
      go_enter Try.func25, Try.ntmps25
      go_wp2_with fail
      go_returns
      exact ⟨rfl, (Below.refl _ _).alloc (Nat.le_refl _) _⟩
  · have hr : bothB nodes a b = false := by unfold bothB; simp; omega
    rw [hr]
    clear hr
    go_enter Try.func25, Try.ntmps25
    go_wp2_with fail
    go_returns
    exact ⟨rfl, (Below.refl _ _).alloc (Nat.le_refl _) _⟩

/-- Is the pair among them, either way round? -/
def hit (a b : Int) (p : Int × Int) : Bool := decide (p = (a, b) ∨ p = (b, a))
theorem run_eq67 (a b c d : Int) (w : World) : (Op.equal 67 (.agg #[.int .i64 a, .int .i64 b]) (.agg #[.int .i64 c, .int .i64 d])).run Try.prog w = .ok (decide (a = c ∧ b = d)) w := by
  have h67 : Try.prog.underlying 67 = some (.array 2 3) := Try.underlying67
  have h3 : Try.prog.underlying 3 = some (.int .i64) := Try.underlying3
  have hagg : ∀ w, (isAgg 3).run Try.prog w = .ok false w := fun w => by kernel_rfl
  have hr : List.range' 0 2 = [0, 1] := rfl
  unfold Op.equal Op.maxDepth
  rw [show (10000 : Nat) = 9999 + 1 from rfl]
  unfold Op.equalIn
  have hint := fun (x y : Int) (w : World) => run_equalIn_int (P := Try.prog) (w := w) 9998 3 .i64 .i64 x y h3
  by_cases h1 : a = c
  · by_cases h2 : b = d
    · simp [run_underlying h67, go_sem, h1, h2, hr, hagg, hint, List.forIn_cons]
    · simp [run_underlying h67, go_sem, h1, h2, hr, hagg, hint, List.forIn_cons]
  · simp [run_underlying h67, go_sem, h1, hr, hagg, hint, List.forIn_cons]
theorem run_eq67' (a b c d : Int) (w : World) : (Op.equalIn 10000 67 (.agg #[.int .i64 a, .int .i64 b]) (.agg #[.int .i64 c, .int .i64 d])).run Try.prog w = .ok (decide (a = c ∧ b = d)) w := run_eq67 a b c d w
theorem hit_eq (a b : Int) (p : Int × Int) : hit a b p = (decide (p.1 = a ∧ p.2 = b) || decide (p.1 = b ∧ p.2 = a)) := by
  obtain ⟨x, y⟩ := p
  unfold hit
  simp
theorem any_snoc (f : Int × Int → Bool) (P : List (Int × Int)) (i : Nat) (h : i < P.length) : (P.take (i + 1)).any f = ((P.take i).any f || f P[i]) := by
  rw [List.take_succ_eq_append_getElem h, List.any_append]
  simp

set_option maxRecDepth 100000 in
set_option maxHeartbeats 1000000 in
theorem rlinked_any (nodes a b : Int) (AL AP : Option Addr) (nL cL nP cP : Nat) (L : List (Int × Int × List UInt8)) (P : List (Int × Int)) (w : World) (h : RefAt w AL cL AP cP L P) (hn : P.length = nP) :
    Calls Try.prog 26 #[.agg #[.int .i64 nodes, .slice AL nL cL, .slice AP nP cP], .int .i64 a, .int .i64 b] w fun e w' => e = .returned (.bool (bothB nodes a b && !P.any (hit a b))) ∧ Below w.heap.size w w' := by
  have H := Lib.hid h
  have HN := Lib.hid hn
  have HB := Lib.hid (fun W => rboth_any nodes a b (.slice AL nL cL) (.slice AP nP cP) W)
  have hnm : nP ≤ 9223372036854775807 := by have := h.hp; have := h.hp2; omega
  clear h hn
  obtain ⟨bo, hbo⟩ : ∃ bo, bo = bothB nodes a b := ⟨_, rfl⟩
  simp only [← hbo] at HB ⊢
  clear hbo
  go_enter Try.func26, Try.ntmps26
  go_wp2_with fail
  refine (HB.out _).mono ?_
  rintro e w1 ⟨rfl, bel⟩
  have hz := bel.size
  have hz : w.heap.size < w1.heap.size := by simp at hz; omega
  have B0 : w1.heap[w.heap.size]? = some (Obj.cells #[.int .i64 nodes, .slice AL nL cL, .slice AP nP cP] 31 (0, 0)) := by
    rw [bel.block w.heap.size (by simp)]
    exact heap_alloc_new w _
  have x0 := cell_of_row w1 w.heap.size 0 _ _ _ B0
  have x1 := cell_of_row w1 w.heap.size 1 _ _ _ B0
  have x2 := cell_of_row w1 w.heap.size 2 _ _ _ B0
  simp at x0 x1 x2
  have HB1 := Lib.hid (((Below.refl w.heap.size w).alloc (Nat.le_refl _) _).trans (bel.mono (by simp)))
  have HR := Lib.hid (H.out.below HB1.out)
  clear bel B0
  go_wp2_with fail
  go_loop [7, 8] (fun o x => ∃ i : Nat, x = .int .i64 i ∧ i ≤ nP ∧ ∃ ob : Bool, o = .bool ob ∧ Hid (ob = (bo && !(P.take i).any (hit a b)))) (fun _ x => nP - (intOf x).toNat)
  case atStart => exact ⟨0, rfl, by omega, bo, rfl, by show bo = _; simp⟩
  obtain ⟨i, rfl, hi, ob, rfl, HO⟩ := hrel
  by_cases hend : i < nP
  · have hil : i < P.length := by rw [HN.out]; exact hend
    obtain ⟨b2, o2, rfl, hb2, y1, y2⟩ := HR.out.pair i hil
    have hsn := any_snoc (hit a b) P i hil
    rw [hit_eq] at hsn
    obtain ⟨p1, hp1⟩ : ∃ p1, p1 = (P[i]).1 := ⟨_, rfl⟩
    obtain ⟨p2, hp2⟩ : ∃ p2, p2 = (P[i]).2 := ⟨_, rfl⟩
    rw [← hp1] at y1 hsn
    rw [← hp2] at y2 hsn
    have HSN := Lib.hid hsn
    have e1 := run_eq67' p1 p2 a b w1
    have e2 := run_eq67' p1 p2 b a w1
    have a1 : (0 : Int) ≤ (i : Int) := by omega
    have a2 : (i : Int) < (nP : Int) := by omega
    clear hsn hp1 hp2
    by_cases h1 : p1 = a ∧ p2 = b
    · have hd1 : decide (p1 = a ∧ p2 = b) = true := by simp [h1]
      rw [hd1] at e1 HSN
      have HO2 := Lib.hid (show false = (bo && !(P.take (i + 1)).any (hit a b)) by rw [HSN.out]; simp)
      clear h1 hd1 e2
      go_wp2_with fail
      go_round
      case rel => exact ⟨i + 1, by go_num, by omega, false, rfl, HO2.out⟩
      case measure => simp [intOf]; omega
    · have hd1 : decide (p1 = a ∧ p2 = b) = false := by simpa using h1
      rw [hd1] at e1 HSN
      clear h1 hd1
      by_cases h2 : p1 = b ∧ p2 = a
      · have hd2 : decide (p1 = b ∧ p2 = a) = true := by simp [h2]
        rw [hd2] at e2 HSN
        have HO2 := Lib.hid (show false = (bo && !(P.take (i + 1)).any (hit a b)) by rw [HSN.out]; simp)
        clear h2 hd2
        go_wp2_with fail
        go_round
        case rel => exact ⟨i + 1, by go_num, by omega, false, rfl, HO2.out⟩
        case measure => simp [intOf]; omega
      · have hd2 : decide (p1 = b ∧ p2 = a) = false := by simpa using h2
        rw [hd2] at e2 HSN
        have HO2 := Lib.hid (show ob = (bo && !(P.take (i + 1)).any (hit a b)) by rw [HSN.out, HO.out]; simp)
        clear h2 hd2
        go_wp2_with fail
        go_round
        case rel => exact ⟨i + 1, by go_num, by omega, ob, rfl, HO2.out⟩
        case measure => simp [intOf]; omega
  · have hin : i = nP := by omega
    subst hin
    have ho := HO.out
    rw [List.take_of_length_le (by rw [HN.out]; exact Nat.le_refl _)] at ho
    have HO2 := Lib.hid ho
    clear ho hend hi
    go_wp2_with fail
    go_returns
    exact ⟨congrArg (fun x => Ending.returned (.bool x)) HO2.out, HB1.out⟩
end Go.Proofs.Ytgdcnmicdhimhaa
