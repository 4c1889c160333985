/- NetPlays: the script that comes in, opened to its cells; the walk's two cases in one. -/
import Derived.Test.YtgdcnmicdhimhaaNr
import Derived.Deep.Slices
import Derived.Deep.Fields
import Derived.ChangeSame
namespace Go.Proofs.Ytgdcnmicdhimhaa
open Go.RowKit Go.ChangeShapes Go.WideShapes
set_option linter.unusedVariables false

theorem cells34 : Try.prog.cellsOf 34 = 4 := by kernel_rfl
theorem cells3 : Try.prog.cellsOf 3 = 1 := by kernel_rfl
theorem cells32 : Try.prog.cellsOf 32 = 1 := by kernel_rfl
/-- A script that came in, as deeds. -/
theorem acts_of {H : Type} {enc : TypeId × Value → H} {W : World} {base : Nat} {held : Bool} {fuel : Nat} {A : Option Addr} {len cap : Nat} {x : DataW H × List MemPlace}
    (h : DataW.trod enc Try.prog W base (fun _ => true) held fuel 22 [.slice A len cap] = some x) : Acts W A len ∧ len ≤ 9223372036854775807 := by
  rcases Go.Deep.open_slice Try.underlying22 h with ⟨hcs, _⟩ | ⟨a, l, c, m, n, D, Pl, hcs, _, hl, hm, hmm, _, hi⟩
  · simp at hcs
    obtain ⟨rfl, rfl, rfl⟩ := hcs
    exact ⟨fun i hi => by omega, by omega⟩
  · simp at hcs
    obtain ⟨rfl, rfl, rfl⟩ := hcs
    unfold maxLen at hm
    refine ⟨fun i hil => ?_, by omega⟩
    have him : i < m := by rw [hmm]; simp; omega
    obtain ⟨b, off, spot⟩ := a
    have hspot : spot = none := by
      obtain ⟨ds, hd, ht0⟩ := hi 0 (by omega)
      rw [cells34] at hd
      obtain ⟨_, hdl, hda⟩ := World.cells?_some hd
      match ds, hdl with
      | [d0, d1, d2, d3], _ =>
        have g := hda 0 (by omega)
        simpa [Addr.add] using World.cell?_spot (g.trans rfl)
    obtain ⟨cs', hc, ht⟩ := hi i him
    rw [cells34] at hc
    obtain ⟨_, hcl, hat⟩ := World.cells?_some hc
    match cs', hcl with
    | [e0, e1, e2, e3], _ =>
      obtain ⟨ys, n', _, _, _, hyl, hf⟩ := DataW.trod_struct Try.underlying34 ht
      match ys, hyl with
      | [y0, y1, y2, y3], _ =>
        have f0 := hf 0 _ rfl
        have f1 := hf 1 _ rfl
        have f2 := hf 2 _ rfl
        have f3 := hf 3 _ rfl
        simp [cells3, cells32] at f0 f1 f2 f3
        obtain ⟨kd, k0, _, kw⟩ := DataW.trod_int Try.underlying3 f0
        obtain ⟨aa, k1, _, _⟩ := DataW.trod_int Try.underlying3 f1
        obtain ⟨bb, k2, _, _⟩ := DataW.trod_int Try.underlying3 f2
        simp at k0 k1 k2
        subst k0 k1 k2
        obtain ⟨Ab, nb, cb, zs, rfl, hrow⟩ : ∃ (Ab : Option Addr) (nb cb : Nat) (zs : List Int), e3 = .slice Ab nb cb ∧ IsRow .u8 W Ab nb cb zs := by
          rcases open_ints Try.underlying32 Try.underlying5 (by kernel_rfl) f3 with ⟨hcs, _⟩ | ⟨x, l2, c2, zs, hcs, _, hl2, hm2, hz, _, hcell, hwz⟩
          · simp at hcs
            exact ⟨none, 0, 0, [], hcs, .inl ⟨rfl, rfl, rfl, rfl⟩⟩
          · simp at hcs
            exact ⟨some x, l2, c2, zs, hcs, .inr ⟨x, rfl, hl2, hm2, by simpa using hz, hcell, hwz⟩⟩
        obtain ⟨bl, hbl, hrd, hle, hcm⟩ := hrow.bytes
        have g0 := hat 0 (by omega)
        have g1 := hat 1 (by omega)
        have g2 := hat 2 (by omega)
        have g3 := hat 3 (by omega)
        rw [Go.Deep.add_add] at g0 g1 g2 g3
        simp only [Nat.add_zero, List.getElem?_cons_zero, List.getElem?_cons_succ] at g0 g1 g2 g3
        subst hspot
        have hadd : ∀ j, (Addr.mk b off none).add j = ⟨b, off + j, none⟩ := by
          intro j
          unfold Addr.add
          split
          · subst j; rfl
          · rfl
        rw [hadd] at g0 g1 g2 g3
        exact ⟨b, off, kd, aa, bb, Ab, nb, cb, bl, rfl, World.block_lt_of_cell? _ _ g0, g0, by simpa [Nat.add_assoc] using g1, by simpa [Nat.add_assoc] using g2, by simpa [Nat.add_assoc] using g3, hbl, by omega, hrd, kw⟩

theorem netPlays.walk (nodes : Int) (A : Option Addr) (len cap : Nat) (w : World) (hA : Acts w A len) (hlen : len ≤ 9223372036854775807) :
    Calls Try.prog 3 #[.int .i64 nodes, .slice A len cap] w fun e w' => e = .returned (.bool true) ∧ Below w.heap.size w w' := by
  by_cases h : nodes < 1 ∨ 65536 < nodes
  · exact netPlays.bad nodes A len cap w h
  · exact netPlays.good nodes A len cap w (by omega) (by omega) hA hlen
end Go.Proofs.Ytgdcnmicdhimhaa
