/- The walk of FrameSums. -/
import Derived.Test.YtihioccpnadieaaAw
import Derived.LoopTactic
import Derived.DataShut
namespace Go.Proofs.Ytihioccpnadieaa
open Go.RowKit
set_option linter.unusedVariables false

/-- A slice of integers that came in: nil, or a row of 'cap' cells. -/
def IsRow (k : IntKind) (w : World) (a : Option Addr) (len cap : Nat) (zs : List Int) : Prop :=
  (a = none ∧ len = 0 ∧ cap = 0 ∧ zs = []) ∨
  ∃ x, a = some x ∧ len ≤ cap ∧ cap ≤ maxLen ∧ zs.length = cap ∧ (∀ i, i < zs.length → w.cell? (x.add i) = some (.int k (zs.getD i 0))) ∧ ∀ n ∈ zs, (Lit.int k n).wf = true

theorem IsRow.bytes {w : World} {a : Option Addr} {len cap : Nat} {zs : List Int} (h : IsRow .u8 w a len cap zs) :
    ∃ l : List UInt8, l.length = len ∧ Rd w w.heap.size a (bv l) ∧ len ≤ cap ∧ cap ≤ 9223372036854775807 := by
  rcases h with ⟨rfl, rfl, rfl, rfl⟩ | ⟨x, rfl, hl, hm, hz, hcell, hwf⟩
  · exact ⟨[], rfl, .inl rfl, Nat.le_refl _, by omega⟩
  · unfold maxLen at hm
    refine ⟨(zs.take len).map fun n => UInt8.ofNat n.toNat, by simp; omega, ?_, hl, hm⟩
    rcases Nat.eq_zero_or_pos len with h0 | h0
    · subst h0; exact .inl (by simp [bv])
    · obtain ⟨b, off, spot⟩ := x
      have hc := hcell 0 (by omega)
      have hspot : spot = none := by simpa [Addr.add] using World.cell?_spot hc
      subst hspot
      refine .inr ⟨b, off, rfl, World.block_lt_of_cell? _ _ hc, fun j u hj => ?_⟩
      have hjl : j < len := by
        have := (List.getElem?_eq_some_iff.1 hj).1
        rw [bv_length, List.length_map, List.length_take] at this
        omega
      have hjz : j < zs.length := by omega
      have hu : u = .int .u8 (zs.getD j 0) := by
        have hw := hwf (zs[j]) (List.getElem_mem hjz)
        rw [Go.Lit.wf_int_iff] at hw
        have hw1 : 0 ≤ zs[j] ∧ zs[j] ≤ 255 := by simpa [IntKind.min, IntKind.max, IntKind.bits, IntKind.signed] using hw
        have hv : ((UInt8.ofNat (zs[j]).toNat).toNat : Int) = zs[j] := by
          rw [UInt8.toNat_ofNat']
          omega
        simp only [bv, List.map_map, List.getElem?_map, List.getElem?_take, if_pos hjl, List.getElem?_eq_getElem hjz, Option.map_some, Function.comp] at hj
        rw [hv] at hj
        injection hj with hj
        rw [← hj]
        simp [List.getD_eq_getElem?_getD, hjz]
      rw [hu]
      have := hcell j hjz
      unfold Addr.add at this
      split at this
      · subst j; simpa using this
      · exact this

theorem frameSums.walk (a0 : Option Addr) (len0 cap0 : Nat) (z0 : List Int) (w : World) (w0 : IsRow .u8 w a0 len0 cap0 z0) :
    Calls Try.prog 3 #[.slice a0 len0 cap0] w fun e w' => e = .returned (.bool true) ∧ Below w.heap.size w w' := by
  obtain ⟨l, rfl, hrd, hl, hm⟩ := w0.bytes
  have HR := Lib.hid hrd
  clear w0 hrd
  by_cases h5 : 5000 < l.length
  · go_enter Try.func3, Try.ntmps3
    go_wp2_with (go_at_call 10; refine (awake_true _).mono ?_; rintro e w1 ⟨rfl, hb1⟩)
    go_returns
    exact ⟨rfl, hb1⟩
  · go_enter Try.func3, Try.ntmps3
    go_wp2_with (first
      | (go_at_call 10; refine (awake_true _).mono ?_; rintro e w1 ⟨rfl, hb1⟩)
      | (go_at_call 11; refine (sum_any a0 w.heap.size l cap0 _ (HR.out.size hb1) (by omega)).mono ?_; rintro e w2 ⟨rfl, rfl⟩)
      | (go_at_call 12; refine (rsum_any a0 w.heap.size l cap0 _ (HR.out.size hb1) (by omega)).mono ?_; rintro e w2 ⟨rfl, rfl⟩))
    go_returns
    exact ⟨ret_int (by simp), hb1⟩

end Go.Proofs.Ytihioccpnadieaa
