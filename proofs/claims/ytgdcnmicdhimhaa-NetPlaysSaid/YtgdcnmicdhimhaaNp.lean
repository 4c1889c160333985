/- The plain relation between a network and the reference's; the system of both in memory. -/
import Derived.Test.YtgdcnmicdhimhaaNn
namespace Go.Proofs.Ytgdcnmicdhimhaa
open Go.RowKit
set_option linter.unusedVariables false

/-- Who is parted, told by the reference's list. -/
def Agree (par : Int → Int → Bool) (P : List (Int × Int)) : Prop := ∀ c d, par (min c d) (max c d) = P.any (hit c d)
theorem same_pair (a b c d : Int) : (min c d = min a b ∧ max c d = max a b) ↔ ((c = a ∧ d = b) ∨ (c = b ∧ d = a)) := by
  constructor
  · intro h; omega
  · intro h; omega
theorem hit_comm (a b : Int) (p : Int × Int) : hit a b p = hit b a p := by
  unfold hit
  exact decide_eq_decide.2 (Or.comm)
theorem agree_part {par : Int → Int → Bool} {P : List (Int × Int)} (h : Agree par P) (a b : Int) (off : Bool) : Agree (upd par (min a b) (max a b) off) (kept a b P ++ if off then [(a, b)] else []) := by
  intro c d
  unfold upd
  have hk : (kept a b P ++ if off then [(a, b)] else []).any (hit c d) = ((kept a b P).any (hit c d) || (off && hit c d (a, b))) := by
    rw [List.any_append]
    cases off <;> simp
  rw [hk]
  by_cases hs : (c = a ∧ d = b) ∨ (c = b ∧ d = a)
  · rw [if_pos ((same_pair a b c d).2 hs)]
    have hf : hit c d = hit a b := by
      funext p
      rcases hs with ⟨rfl, rfl⟩ | ⟨rfl, rfl⟩
      · rfl
      · exact hit_comm _ _ p
    rw [hf]
    have h1 : (kept a b P).any (hit a b) = false := by
      rw [List.any_eq_false]
      intro p hp
      unfold kept at hp
      have := (List.mem_filter.1 hp).2
      simpa using this
    have h2 : hit a b (a, b) = true := by unfold hit; simp
    rw [h1, h2]
    simp
  · rw [if_neg (fun hh => hs ((same_pair a b c d).1 hh)), h c d]
    have h2 : hit c d (a, b) = false := by
      unfold hit
      rw [decide_eq_false_iff_not]
      simp only [Prod.mk.injEq]
      omega
    rw [h2, Bool.and_false, Bool.or_false]
    rw [Bool.eq_iff_iff, List.any_eq_true, List.any_eq_true]
    constructor
    · rintro ⟨p, hp, hh⟩
      refine ⟨p, ?_, hh⟩
      unfold kept
      refine List.mem_filter.2 ⟨hp, ?_⟩
      unfold hit at hh ⊢
      obtain ⟨x, y⟩ := p
      simp only [Prod.mk.injEq, decide_eq_true_eq, Bool.not_eq_true', decide_eq_false_iff_not] at hh ⊢
      omega
    · rintro ⟨p, hp, hh⟩
      exact ⟨p, (List.mem_filter.1 hp).1, hh⟩
theorem agree_nil : Agree (fun _ _ => false) [] := fun _ _ => rfl
theorem agree_link {par : Int → Int → Bool} {P : List (Int × Int)} (h : Agree par P) (nodes a b : Int) : linkB nodes a b par = (bothB nodes a b && !P.any (hit a b)) := by unfold linkB; rw [h a b]
theorem kept_full (a b : Int) (P : List (Int × Int)) (off : Bool) : (kept a b P ++ if off then [(a, b)] else []).length ≤ P.length + 1 := by
  have := kept_len a b P
  rw [List.length_append]
  cases off <;> simp <;> omega
theorem key_erase (ps : List Pkt) (i : Nat) : (ps.eraseIdx i).map Pkt.key = (ps.map Pkt.key).eraseIdx i := by
  rw [List.eraseIdx_eq_take_drop_succ, List.eraseIdx_eq_take_drop_succ, List.map_append, List.map_take, List.map_drop]

/-- A store into a block of the reference's does not touch the network. -/
theorem NetAt.set31 {w : World} {B r mb kb : Nat} {v : Value} {nodes : Int} {ps : List Pkt} {n : Nat} {par : Int → Int → Bool} {c : Array Value} {fr : Nat × Nat} (h : NetAt w B r v mb nodes ps n par) (hk : w.heap[kb]? = some (Obj.cells c 31 fr)) (o : Nat) (u : Value) :
    NetAt (w.setCell ⟨kb, o, none⟩ u) B r v mb nodes ps n par := by
  have other : ∀ (t : TypeId) (base size m : Nat) (x : Value) (xs : List Value), t ≠ 31 → w.ownsRow base t size x m xs → ∀ j, x.ownBlock = some j → j ≠ kb := by
    intro t base size m x xs ht ho j hj e
    obtain ⟨cur, hcur⟩ := own_at ho hj
    rw [e, hk] at hcur
    injection hcur with hcur
    injection hcur with _ hcur
    exact ht hcur.symm
  refine h.set_far kb o u ?_ ?_ (other 36 _ _ _ _ _ (by decide) h.own) (fun q hq => other 5 _ _ _ _ _ (by decide) (h.bod q hq))
  · intro e
    have := h.blk
    rw [e, hk] at this
    injection this with this
    injection this with _ this
    exact absurd this (by decide)
  · intro e
    obtain ⟨es, c2, hm⟩ := h.map.isMap
    rw [e, hk] at hm
    cases hm

/-- Both networks in memory, and that they agree. -/
structure Sys (w W : World) (B r mb kb : Nat) (nodes : Int) (i : Nat) (v : Value) (ps : List Pkt) (n : Nat) (par : Int → Int → Bool) (AL : Option Addr) (cL : Nat) (AP : Option Addr) (cP : Nat) (L : List (Int × Int × List UInt8)) (P : List (Int × Int)) : Prop where
  net : NetAt W B r v mb nodes ps n par
  ref : RefAt W AL cL AP cP L P
  box : ∃ x y z, W.heap[kb]? = some (Obj.cells #[x, y, z] 31 (0, 0))
  key : ps.map Pkt.key = L
  agree : Agree par P
  h1 : ps.length ≤ i
  h2 : P.length ≤ i
  h3 : n ≤ i
  hb : ∀ p ∈ ps, p.bytes.length ≤ 1000
  bel : Below w.heap.size w W
  hB : B ≤ W.heap.size
  hwB : w.heap.size ≤ B
  hkb : w.heap.size ≤ kb
section
variable {w W : World} {B r mb kb : Nat} {nodes : Int} {i : Nat} {v : Value} {ps : List Pkt} {n : Nat} {par : Int → Int → Bool} {AL : Option Addr} {cL : Nat} {AP : Option Addr} {cP : Nat} {L : List (Int × Int × List UInt8)} {P : List (Int × Int)}
theorem Sys.below {W' : World} (h : Sys w W B r mb kb nodes i v ps n par AL cL AP cP L P) (hb : Below W.heap.size W W') : Sys w W' B r mb kb nodes i v ps n par AL cL AP cP L P := by
  obtain ⟨x, y, z, hx⟩ := h.box
  exact ⟨h.net.below hb, h.ref.below hb, ⟨x, y, z, by rw [hb.block kb (lt_of_heap hx)]; exact hx⟩, h.key, h.agree, h.h1, h.h2, h.h3, h.hb, h.bel.trans (hb.mono h.bel.size), Nat.le_trans h.hB hb.size, h.hwB, h.hkb⟩
theorem Sys.drew (h : Sys w W B r mb kb nodes i v ps n par AL cL AP cP L P) : Sys w W.drew B r mb kb nodes i v ps n par AL cL AP cP L P := h.below ((Below.refl _ _).drewN 1)
theorem Sys.set (h : Sys w W B r mb kb nodes i v ps n par AL cL AP cP L P) (o : Nat) (u : Value) (ho : o < 3) : Sys w (W.setCell ⟨kb, o, none⟩ u) B r mb kb nodes i v ps n par AL cL AP cP L P := by
  obtain ⟨x, y, z, hx⟩ := h.box
  have hsz : (W.setCell ⟨kb, o, none⟩ u).heap.size = W.heap.size := by simp [World.setCell]
  refine ⟨h.net.set31 hx o u, ⟨h.ref.l.set hx (by decide) o u, h.ref.p.set hx (by decide) o u, h.ref.hl, h.ref.hl2, h.ref.hp, h.ref.hp2⟩, ?_, h.key, h.agree, h.h1, h.h2, h.h3, h.hb, h.bel.setCell (by exact h.hkb) _, by rw [hsz]; exact h.hB, h.hwB, h.hkb⟩
  match o, ho with
  | 0, _ => exact ⟨u, y, z, by simp [World.setCell, Array.getElem?_modify, hx]⟩
  | 1, _ => exact ⟨x, u, z, by simp [World.setCell, Array.getElem?_modify, hx]⟩
  | 2, _ => exact ⟨x, y, u, by simp [World.setCell, Array.getElem?_modify, hx]⟩
theorem box_put {W : World} {kb : Nat} {x y z : Value} (h : W.heap[kb]? = some (Obj.cells #[x, y, z] 31 (0, 0))) (a b d : Value) :
    (((W.setCell ⟨kb, 0, none⟩ a).setCell ⟨kb, 1, none⟩ b).setCell ⟨kb, 2, none⟩ d).heap[kb]? = some (Obj.cells #[a, b, d] 31 (0, 0)) := by
  simp [World.setCell, Array.getElem?_modify, h]
theorem far_put {W : World} {kb k : Nat} {o : Obj} (h : W.heap[k]? = some o) (hk : k ≠ kb) (a b d : Value) :
    (((W.setCell ⟨kb, 0, none⟩ a).setCell ⟨kb, 1, none⟩ b).setCell ⟨kb, 2, none⟩ d).heap[k]? = some o := by
  rw [Below.heap_setCell _ _ _ _ (by show k ≠ kb; exact hk), Below.heap_setCell _ _ _ _ (by show k ≠ kb; exact hk), Below.heap_setCell _ _ _ _ (by show k ≠ kb; exact hk)]
  exact h
theorem Sys.put (h : Sys w W B r mb kb nodes i v ps n par AL cL AP cP L P) (a b d : Value) : Sys w (((W.setCell ⟨kb, 0, none⟩ a).setCell ⟨kb, 1, none⟩ b).setCell ⟨kb, 2, none⟩ d) B r mb kb nodes i v ps n par AL cL AP cP L P :=
  ((h.set 0 a (by decide)).set 1 b (by decide)).set 2 d (by decide)
end
end Go.Proofs.Ytgdcnmicdhimhaa
