/- Words for memory: the map of the parted, rows of whatever width, readings that say of what type the block is; how a network's calls turn the world. -/
import Derived.Test.YtgdcnmicdhimhaaMm
import Derived.Maps.OwnOps
import Derived.Maps.OwnSet
import Derived.Maps.Views
import Derived.WideKeyArr2
import Derived.Laws.OwnMore
namespace Go.Proofs.Ytgdcnmicdhimhaa
open Go.RowKit Go.Maps Go.WideMaps
set_option linter.unusedVariables false

/-- A pair of numbers as a key. -/
def kv (a b : Int) : Value := .agg #[.int .i64 a, .int .i64 b]
def Wf (a : Int) : Prop := (Lit.int .i64 a).wf = true
theorem pairKey : ArrKey Try.prog 67 3 2 := ⟨Try.underlying67, by kernel_rfl, by kernel_rfl, by kernel_rfl⟩
theorem pairLaw : Keyed Try.prog 67 := Keyed.of_law pairKey.law
theorem formed67 {c0 c1 : Value} : (Value.agg #[c0, c1]).formed Try.prog 67 = true := by
  have : Try.prog.cellsOf 67 = 2 := by kernel_rfl
  simp [Value.formed, Try.underlying67, this]
theorem keyType67 : Try.prog.keyType 67 = true := by kernel_rfl
theorem types_size : ∃ m, Try.prog.types.size = m + 1 := ⟨Try.prog.types.size - 1, by
  have : 0 < Try.prog.types.size := of_decide_eq_true (by kernel_rfl)
  omega⟩
theorem key_of (a b : Int) (ha : Wf a) (hb : Wf b) : keyOf Try.prog 67 (kv a b) = some (.string (keyBytes [.int .i64 a, .int .i64 b])) := by
  have c67 : Try.prog.cellsOf 67 = 2 := by kernel_rfl
  have c3 : Try.prog.cellsOf 3 = 1 := by kernel_rfl
  obtain ⟨m, hm⟩ := types_size
  unfold keyOf
  rw [Try.underlying67]
  unfold Wf at ha hb
  unfold kv
  simp only [keyType67, formed67, Bool.and_self, if_true, hm]
  simp [Program.keyLits, Try.underlying67, Try.underlying3, c67, c3, ha, hb, Value.cells, List.range_succ]

/-- Block mb is a map of at most n entries that tells which pairs are parted. -/
def MapIs (w : World) (mb n : Nat) (par : Int → Int → Bool) : Prop :=
  ∃ D : DataW Unit, w.ownsMap Try.prog 67 (plainElem Try.prog 4) mb n D ∧ ∀ a b kl, keyOf Try.prog 67 (kv a b) = some kl → D.atKey kl (.lit (.bool false)) = .lit (.bool (par a b))
theorem zero4 (w : World) : (zeroValue 4).run Try.prog w = .ok (.bool false) w := by kernel_rfl
theorem plainElem_bool_inv {H : Type} {v : Value} {z : DataW H × List MemPlace} (h : plainElem Try.prog 4 v = some z) : ∃ x, v = .bool x ∧ z = (.lit (.bool x), []) := by
  unfold plainElem at h
  rw [Try.underlying4] at h
  split at h
  · cases h; exact ⟨_, rfl, rfl⟩
  · rename_i heq; cases heq
  · rename_i heq; cases heq
  · cases h
theorem MapIs.lookup {w : World} {mb n : Nat} {par : Int → Int → Bool} (h : MapIs w mb n par) (a b : Int) (ha : Wf a) (hb : Wf b) :
    (Instr.lookup 62 (.map (some mb)) (kv a b) false).run Try.prog w = .ok (.bool (par a b)) w := by
  obtain ⟨D, hown, hat⟩ := h
  have hk := key_of a b ha hb
  obtain ⟨v, ps, hrun, hv⟩ := hown.lookup pairLaw Try.underlying62 (zero4 w) (plainElem_bool Try.underlying4 false) hk
  obtain ⟨x, rfl, hz⟩ := plainElem_bool_inv hv
  simp only [Prod.mk.injEq] at hz
  rw [hat a b _ hk] at hz
  rw [hrun]
  obtain ⟨hz1, _⟩ := hz
  injection hz1 with hz1
  injection hz1 with hz1
  rw [hz1]
def upd (par : Int → Int → Bool) (a b : Int) (v : Bool) : Int → Int → Bool := fun x y => if x = a ∧ y = b then v else par x y
theorem MapIs.update {w : World} {mb n : Nat} {par : Int → Int → Bool} (h : MapIs w mb n par) (hn : n < 1000000) (a b : Int) (v : Bool) (ha : Wf a) (hb : Wf b) :
    ∃ w', (Instr.mapUpdate 62 (.map (some mb)) (kv a b) (.bool v)).run Try.prog w = .ok () w' ∧ MapIs w' mb (n + 1) (upd par a b v) ∧ w.grownBy w' (some mb) := by
  obtain ⟨D, hown, hat⟩ := h
  have hk := key_of a b ha hb
  obtain ⟨w', hrun, hown', hgr⟩ := hown.update pairLaw Try.underlying62 (by unfold maxLen; omega) hk (plainElem_bool Try.underlying4 v)
  refine ⟨w', hrun, ⟨_, hown', fun x y kl hxy => ?_⟩, hgr⟩
  unfold upd
  by_cases e : x = a ∧ y = b
  · obtain ⟨rfl, rfl⟩ := e
    rw [hk] at hxy
    cases hxy
    rw [if_pos ⟨rfl, rfl⟩, atKey_put_same hown.isMap (pairLaw.key hk)]
  · rw [if_neg e, atKey_put_other, hat x y kl hxy]
    intro hkl
    rw [hkl] at hxy
    have := pairLaw.inj hxy hk
    unfold kv at this
    simp at this
    exact e this
theorem MapIs.lt {w : World} {mb n : Nat} {par : Int → Int → Bool} (h : MapIs w mb n par) : mb < w.heap.size := by
  obtain ⟨D, hown, _⟩ := h
  exact hown.lt
theorem MapIs.kept {w w' : World} {mb n : Nat} {par : Int → Int → Bool} {row : Option Nat} (h : MapIs w mb n par) (hg : w.grownBy w' row) (hne : some mb ≠ row) : MapIs w' mb n par := by
  obtain ⟨D, hown, hat⟩ := h
  exact ⟨D, hown.kept hg hne, hat⟩
theorem MapIs.isMap {w : World} {mb n : Nat} {par : Int → Int → Bool} (h : MapIs w mb n par) : ∃ es clock, w.heap[mb]? = some (.map es clock) := by
  obtain ⟨D, ⟨es, clock, hb, _⟩, _⟩ := h
  exact ⟨es, clock, hb⟩
theorem MapIs.made (w : World) : MapIs (w.alloc (.map #[] 0)) w.heap.size 0 (fun _ _ => false) :=
  ⟨_, World.ownsMap_made _ _ _ _, fun a b kl _ => rfl⟩
end Go.Proofs.Ytgdcnmicdhimhaa
