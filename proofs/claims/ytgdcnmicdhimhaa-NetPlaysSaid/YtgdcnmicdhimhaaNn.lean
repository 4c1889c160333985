/- Does the network tell what the reference tells? -/
import Derived.Test.YtgdcnmicdhimhaaNm
namespace Go.Proofs.Ytgdcnmicdhimhaa
open Go.RowKit
set_option linter.unusedVariables false

theorem Told.below {w w' : World} {B : Nat} {v : Value} {qs : List Pkt} (h : Told w B v qs) (hb : Below w.heap.size w w') : Told w' B v qs := ⟨own_keepN h.own hb, fun q hq => own_keepN (h.bod q hq) hb⟩

set_option maxRecDepth 100000 in
set_option maxHeartbeats 2000000 in
theorem is_any (B r mb : Nat) (v : Value) (nodes : Int) (ps : List Pkt) (n : Nat) (par : Int → Int → Bool) (a b : Int) (AL AP : Option Addr) (np cL nP cP : Nat) (L : List (Int × Int × List UInt8)) (P : List (Int × Int)) (w : World)
    (h : NetAt w B r v mb nodes ps n par) (hn : nodes ≤ 65536) (hR : RefAt w AL cL AP cP L P) (hL : ps.map Pkt.key = L) (hnL : L.length = np) (hnP : P.length = nP) (hlk : linkB nodes a b par = (bothB nodes a b && !P.any (hit a b)))
    (hps : ps.length ≤ 1000000) (hbd : ∀ p ∈ ps, p.bytes.length ≤ 1000000) :
    Calls Try.prog 17 #[.pointer (some ⟨r, 0, none⟩), .agg #[.int .i64 nodes, .slice AL np cL, .slice AP nP cP], .int .i64 a, .int .i64 b] w fun e w' => e = .returned (.bool true) ∧ Below w.heap.size w w' := by
  have hnp : np = ps.length := by rw [← hnL, ← hL, List.length_map]
  obtain ⟨kb, hkb0⟩ : ∃ kb, kb = w.heap.size := ⟨_, rfl⟩
  obtain ⟨W0, hW0⟩ : ∃ W0, W0 = w.alloc (Obj.cells #[.int .i64 nodes, .slice AL np cL, .slice AP nP cP] 31) := ⟨_, rfl⟩
  have bel0 : Below w.heap.size w W0 := by rw [hW0]; exact (Below.refl _ _).alloc (Nat.le_refl _) _
  have X0 : W0.heap[kb]? = some (Obj.cells #[.int .i64 nodes, .slice AL np cL, .slice AP nP cP] 31 (0, 0)) := by rw [hW0, hkb0]; exact heap_alloc_new w _
  have HW := Lib.hid (waiting_any B r mb v nodes ps n par W0 (h.below bel0) hps hbd)
  have HLK := Lib.hid (fun W (h : NetAt W B r v mb nodes ps n par) => linked_any B r mb v nodes ps n par a b W h hn)
  have HRL := Lib.hid (fun W (h : RefAt W AL cL AP cP L P) => rlinked_any nodes a b AL AP np cL nP cP L P W h hnP)
  rw [hlk] at HLK
  obtain ⟨bb, hbb⟩ : ∃ bb, bb = (bothB nodes a b && !P.any (hit a b)) := ⟨_, rfl⟩
  rw [← hbb] at HLK
  simp only [← hbb] at HRL
  have hbN := h.below bel0
  have N0 := Lib.hid (h.below bel0)
  have R0 := Lib.hid (hR.below bel0)
  have HX0 := Lib.hid X0
  have HB0 := Lib.hid bel0
  have HL := Lib.hid hL
  have HNP := Lib.hid hnp
  have HKB := Lib.hid hkb0
  have HW0 := Lib.hid hW0
  have HBD := Lib.hid hbd
  clear h hR hlk hbb hbN X0 bel0 hL hnL hnp hkb0 hW0 hps hbd hnP hn
  go_enter Try.func17, Try.ntmps17
  go_wp2_with fail
  rw [← HKB.out, ← HW0.out]
  refine HW.out.mono ?_
  rintro e w1 ⟨vq, qs, rfl, hkeys, told, bel1⟩
  have hql : qs.length = np := by have := congrArg List.length hkeys; rw [List.length_map, List.length_map] at this; rw [this, HNP.out]
  obtain ⟨Aq, cq, hvq, _⟩ := own_sliceN told.own
  rw [hql] at hvq
  subst hvq
  have HX1 := Lib.hid ((bel1.block kb (lt_of_heap HX0.out)).trans HX0.out)
  have x0 := cell_of_row w1 kb 0 _ _ _ HX1.out
  have x1 := cell_of_row w1 kb 1 _ _ _ HX1.out
  have x2 := cell_of_row w1 kb 2 _ _ _ HX1.out
  simp at x0 x1 x2
  have hkb := lt_of_heap HX1.out
  have N1 := Lib.hid (N0.out.below bel1)
  have R1 := Lib.hid (R0.out.below bel1)
  have HB1 := Lib.hid (HB0.out.trans (bel1.mono HB0.out.size))
  have HKEY := Lib.hid (hkeys.trans HL.out)
  have TOLD := Lib.hid told
  have HQL := Lib.hid hql
  clear hkeys told bel1 hql
  go_wp2_with fail
  refine wp_region_held_drew (S := fun w' => w'.cell? ⟨kb, 0, none⟩ = some (.int .i64 nodes) ∧ w'.cell? ⟨kb, 1, none⟩ = some (.slice AL np cL) ∧ w'.cell? ⟨kb, 2, none⟩ = some (.slice AP nP cP)) (by kernel_rfl) (⟨x0, x1, x2⟩) (fun hHeld => ?_)
  refine wpAnyH_take (i := 0) (v := ?_) (by simp only [List.getElem?_toArray, List.getElem?_cons_zero]; rfl) (by kernel_rfl) (by kernel_rfl) (by kernel_rfl) (by intro _ _ _ h; exact h) (Or.inl ⟨by rfl, ?_⟩) (by assumption) ?_
  rotate_left
  · intro w hSw
    try dsimp only at hSw
    (go_simp <;> with_reducible rfl)
  try simp only [Act.put, List.setIfInBounds_toArray, List.set_cons_zero, List.set_cons_succ]
  refine wpAnyH_take (i := 1) (v := ?_) (by simp only [List.getElem?_toArray, List.getElem?_cons_zero, List.getElem?_cons_succ]; rfl) (by kernel_rfl) (by kernel_rfl) (by kernel_rfl) (by intro _ _ _ h; exact h) (Or.inl ⟨by rfl, ?_⟩) (by assumption) ?_
  rotate_left
  · intro w hSw
    try dsimp only at hSw
    (go_simp <;> with_reducible rfl)
  try simp only [Act.put, List.setIfInBounds_toArray, List.set_cons_zero, List.set_cons_succ]
  refine wpAnyH_take (i := 2) (v := ?_) (by simp only [List.getElem?_toArray, List.getElem?_cons_zero, List.getElem?_cons_succ]; rfl) (by kernel_rfl) (by kernel_rfl) (by kernel_rfl) (by intro _ _ _ h; exact h) (Or.inl ⟨by rfl, ?_⟩) (by assumption) ?_
  rotate_left
  · intro w hSw
    try dsimp only at hSw
    (go_simp <;> with_reducible rfl)
  try simp only [Act.put, List.setIfInBounds_toArray, List.set_cons_zero, List.set_cons_succ]
  refine wpAnyH_take (i := 3) (v := ?_) (by simp only [List.getElem?_toArray, List.getElem?_cons_zero, List.getElem?_cons_succ]; rfl) (by kernel_rfl) (by kernel_rfl) (by kernel_rfl) (by intro _ _ _ h; exact h) (Or.inl ⟨by rfl, ?_⟩) (by assumption) ?_
  rotate_left
  · intro w hSw
    try dsimp only at hSw
    (go_simp <;> with_reducible rfl)
  try simp only [Act.put, List.setIfInBounds_toArray, List.set_cons_zero, List.set_cons_succ]
  refine wpAnyH_take (i := 4) (v := ?_) (by simp only [List.getElem?_toArray, List.getElem?_cons_zero, List.getElem?_cons_succ]; rfl) (by kernel_rfl) (by kernel_rfl) (by kernel_rfl) (by intro _ _ _ h; exact h) (Or.inl ⟨by rfl, ?_⟩) (by assumption) ?_
  rotate_left
  · intro w hSw
    try dsimp only at hSw
    (go_simp <;> with_reducible rfl)
  try simp only [Act.put, List.setIfInBounds_toArray, List.set_cons_zero, List.set_cons_succ]
  refine wpAnyH_take (i := 5) (v := ?_) (by simp only [List.getElem?_toArray, List.getElem?_cons_zero, List.getElem?_cons_succ]; rfl) (by kernel_rfl) (by kernel_rfl) (by kernel_rfl) (by intro _ _ _ h; exact h) (Or.inl ⟨by rfl, ?_⟩) (by assumption) ?_
  rotate_left
  · intro w hSw
    try dsimp only at hSw
    (go_simp <;> with_reducible rfl)
  try simp only [Act.put, List.setIfInBounds_toArray, List.set_cons_zero, List.set_cons_succ]
  refine wpAnyH_take (i := 6) (v := ?_) (by simp only [List.getElem?_toArray, List.getElem?_cons_zero, List.getElem?_cons_succ]; rfl) (by kernel_rfl) (by kernel_rfl) (by kernel_rfl) (by intro _ _ _ h; exact h) (Or.inl ⟨by rfl, ?_⟩) (by assumption) ?_
  rotate_left
  · intro w hSw
    try dsimp only at hSw
    (go_simp <;> with_reducible rfl)
  try simp only [Act.put, List.setIfInBounds_toArray, List.set_cons_zero, List.set_cons_succ]
  refine wpAnyH_take (i := 7) (v := ?_) (by simp only [List.getElem?_toArray, List.getElem?_cons_zero, List.getElem?_cons_succ]; rfl) (by kernel_rfl) (by kernel_rfl) (by kernel_rfl) (by intro _ _ _ h; exact h) (Or.inl ⟨by rfl, ?_⟩) (by assumption) ?_
  rotate_left
  · intro w hSw
    try dsimp only at hSw
    (go_simp <;> with_reducible rfl)
  try simp only [Act.put, List.setIfInBounds_toArray, List.set_cons_zero, List.set_cons_succ]
  refine wpAnyH_take (i := 8) (v := ?_) (by simp only [List.getElem?_toArray, List.getElem?_cons_zero, List.getElem?_cons_succ]; rfl) (by kernel_rfl) (by kernel_rfl) (by kernel_rfl) (by intro _ _ _ h; exact h) (Or.inl ⟨by rfl, ?_⟩) (by assumption) ?_
  rotate_left
  · intro w hSw
    try dsimp only at hSw
    (go_simp <;> with_reducible rfl)
  try simp only [Act.put, List.setIfInBounds_toArray, List.set_cons_zero, List.set_cons_succ]
  refine wpAnyH_take (i := 9) (v := ?_) (by simp only [List.getElem?_toArray, List.getElem?_cons_zero, List.getElem?_cons_succ]; rfl) (by kernel_rfl) (by kernel_rfl) (by kernel_rfl) (by intro _ _ _ h; exact h) (Or.inl ⟨by rfl, ?_⟩) (by assumption) ?_
  rotate_left
  · intro w hSw
    try dsimp only at hSw
    (go_simp <;> with_reducible rfl)
  try simp only [Act.put, List.setIfInBounds_toArray, List.set_cons_zero, List.set_cons_succ]
  refine wpAnyH_take (i := 11) (v := ?_) (by simp only [List.getElem?_toArray, List.getElem?_cons_zero, List.getElem?_cons_succ]; rfl) (by kernel_rfl) (by kernel_rfl) (by kernel_rfl) (by intro _ _ _ h; exact h) (Or.inl ⟨by rfl, ?_⟩) (by assumption) ?_
  rotate_left
  · intro w hSw
    try dsimp only at hSw
    (go_simp <;> with_reducible rfl)
  try simp only [Act.put, List.setIfInBounds_toArray, List.set_cons_zero, List.set_cons_succ]
  refine wpAnyH_take (i := 12) (v := ?_) (by simp only [List.getElem?_toArray, List.getElem?_cons_zero, List.getElem?_cons_succ]; rfl) (by kernel_rfl) (by kernel_rfl) (by kernel_rfl) (by intro _ _ _ h; exact h) (Or.inl ⟨by rfl, ?_⟩) (by assumption) ?_
  rotate_left
  · intro w hSw
    try dsimp only at hSw
    (go_simp <;> with_reducible rfl)
  try simp only [Act.put, List.setIfInBounds_toArray, List.set_cons_zero, List.set_cons_succ]
  refine wpAnyH_take (i := 13) (v := ?_) (by simp only [List.getElem?_toArray, List.getElem?_cons_zero, List.getElem?_cons_succ]; rfl) (by kernel_rfl) (by kernel_rfl) (by kernel_rfl) (by intro _ _ _ h; exact h) (Or.inl ⟨by rfl, ?_⟩) (by assumption) ?_
  rotate_left
  · intro w hSw
    try dsimp only at hSw
    (go_simp <;> with_reducible rfl)
  try simp only [Act.put, List.setIfInBounds_toArray, List.set_cons_zero, List.set_cons_succ]
  refine wpAnyH_ready (rs := [10]) (by kernel_rfl) (by simp) ?_
  refine AllReadyH.cons (by simp only [List.getElem?_toArray, List.getElem?_cons_zero, List.getElem?_cons_succ]; rfl) (fun K hK => ?_) AllReadyH.nil
  go_simp
  clear hHeld
  go_at_call 18
  refine (HLK.out _ (N1.out.drew)).mono ?_
  rintro e w2 ⟨rfl, bel2⟩
  have HB2 := Lib.hid (show Below w1.heap.size w1 w2 from ((Below.refl _ _).drew).trans bel2)
  clear bel2
  have k0 := (HB2.out.cell hkb).trans x0
  have k1 := (HB2.out.cell hkb).trans x1
  have k2 := (HB2.out.cell hkb).trans x2
  refine hK.out _ _ (⟨k0, k1, k2⟩) (fun hHeld => ?_)
  clear hK K
  try simp only [Act.put, List.setIfInBounds_toArray, List.set_cons_zero, List.set_cons_succ]
  refine wpAnyH_ready (rs := [14]) (by kernel_rfl) (by simp) ?_
  refine AllReadyH.cons (by simp only [List.getElem?_toArray, List.getElem?_cons_zero, List.getElem?_cons_succ]; rfl) (fun K hK => ?_) AllReadyH.nil
  go_simp
  clear hHeld
  go_at_call 26
  refine (HRL.out _ (R1.out.below HB2.out)).mono ?_
  rintro e w3 ⟨rfl, bel3⟩
  have HB3 := Lib.hid (show Below w1.heap.size w1 w3 from HB2.out.trans (bel3.mono HB2.out.size))
  clear bel3 k0 k1 k2
  have k0 := (HB3.out.cell hkb).trans x0
  have k1 := (HB3.out.cell hkb).trans x1
  have k2 := (HB3.out.cell hkb).trans x2
  refine hK.out _ _ (⟨k0, k1, k2⟩) (fun hHeld => ?_)
  clear hK K
  try simp only [Act.put, List.setIfInBounds_toArray, List.set_cons_zero, List.set_cons_succ]
  refine wpAnyH_take (i := 15) (v := ?_) (by simp only [List.getElem?_toArray, List.getElem?_cons_zero, List.getElem?_cons_succ]; rfl) (by kernel_rfl) (by kernel_rfl) (by kernel_rfl) (by intro _ _ _ h; exact h) (Or.inl ⟨by rfl, ?_⟩) (by assumption) ?_
  rotate_left
  · intro w hSw
    try dsimp only at hSw
    (go_simp <;> with_reducible rfl)
  try simp only [Act.put, List.setIfInBounds_toArray, List.set_cons_zero, List.set_cons_succ]
  refine wpAnyH_take (i := 16) (v := ?_) (by simp only [List.getElem?_toArray, List.getElem?_cons_zero, List.getElem?_cons_succ]; rfl) (by kernel_rfl) (by kernel_rfl) (by kernel_rfl) (by intro _ _ _ h; exact h) (Or.inl ⟨by rfl, ?_⟩) (by assumption) ?_
  rotate_left
  · intro w hSw
    try dsimp only at hSw
    (go_simp <;> with_reducible rfl)
  try simp only [Act.put, List.setIfInBounds_toArray, List.set_cons_zero, List.set_cons_succ]
  refine wpAnyH_done (by kernel_rfl) ?_ _
  go_wp2_with fail
  have T3 := Lib.hid (TOLD.out.below HB3.out)
  have R3 := Lib.hid (R1.out.below HB3.out)
  have HX3 := Lib.hid ((HB3.out.block kb hkb).trans HX1.out)
  have HBW3 := Lib.hid (HB1.out.trans (HB3.out.mono HB1.out.size))
  clear x0 x1 x2 k0 k1 k2 hHeld
  go_loopw [10] (fun x wr => ∃ i : Nat, x = .int .i64 i ∧ i ≤ np ∧ Hid (Told wr W0.heap.size (.slice Aq np cq) qs) ∧ Hid (RefAt wr AL cL AP cP L P) ∧ Hid (wr.heap[kb]? = some (Obj.cells #[.int .i64 nodes, .slice AL np cL, .slice AP nP cP] 31 (0, 0))) ∧ Hid (Below w.heap.size w wr)) (fun x _ => np - (intOf x).toNat)
  case atStart => exact ⟨0, rfl, by omega, T3.out, R3.out, HX3.out, HBW3.out⟩
  obtain ⟨i, rfl, hi, TR, RR, HXR, HBR⟩ := hrel
  by_cases hend : i < np
  · have hiq : i < qs.length := by rw [HQL.out]; exact hend
    have hlen : L.length = np := by rw [← HKEY.out, List.length_map, HQL.out]
    have hiL : i < L.length := by rw [hlen]; exact hend
    have hLi : L[i] = (qs[i]).key := by
      have := congrArg (fun l : List (Int × Int × List UInt8) => l[i]?) HKEY.out
      rw [List.getElem?_eq_getElem hiL, List.getElem?_map, List.getElem?_eq_getElem hiq] at this
      simpa using this.symm
    obtain ⟨g7, c7, hv7, hg7l, hg7, hc7, hc7m, d0, d1, d2⟩ := TR.out.packet i hiq
    simp only [Value.slice.injEq] at hv7
    obtain ⟨rfl, hnn, rfl⟩ := hv7
    obtain ⟨bL, oL, rfl, hbL, y0, y1, y2⟩ := RR.out.packet i hiL
    rw [hLi] at y0 y1 y2
    have hbod := (RdT.of_own (TR.out.bod _ (List.getElem_mem hiq))).rd
    obtain ⟨p, hp⟩ : ∃ p, p = qs[i] := ⟨_, rfl⟩
    rw [← hp] at y0 y1 y2 d0 d1 d2 hbod
    obtain ⟨fa, fb, fA, fc, l⟩ := p
    simp only [Pkt.body, Pkt.key] at y0 y1 y2 d0 d1 d2 hbod
    obtain ⟨k, hkl⟩ : ∃ k, k = l.length := ⟨_, rfl⟩
    rw [← hkl] at d2
    have cv := conv_any (W := wr) k fc hkl.symm hbod
    have x0 := cell_of_row wr kb 0 _ _ _ HXR.out
    have x1 := cell_of_row wr kb 1 _ _ _ HXR.out
    have x2 := cell_of_row wr kb 2 _ _ _ HXR.out
    simp at x0 x1 x2
    have a1 : (0 : Int) ≤ (i : Int) := by omega
    have a2 : (i : Int) < (np : Int) := by omega
    have cvd : (convert 32 9 (.slice fA k fc)).run Try.prog wr.drew = .ok (.string ⟨l.toArray⟩) wr.drew := conv_any (W := wr.drew) k fc hkl.symm hbod.drew
    clear hbod hp hLi hlen hnn hkl cv
    go_wp2_with fail
    go_region_held3 (fun w' => w'.cell? ⟨kb, 1, none⟩ = some (.slice (some ⟨bL, oL, none⟩) np cL) ∧ w'.cell? ⟨g7, i * 3, none⟩ = some (.int .i64 fa) ∧ w'.cell? ⟨g7, i * 3 + 1, none⟩ = some (.int .i64 fb) ∧ w'.cell? ⟨g7, i * 3 + 2, none⟩ = some (.slice fA k fc) ∧ w'.cell? ⟨bL, oL + i * 3, none⟩ = some (.int .i64 fa) ∧ w'.cell? ⟨bL, oL + i * 3 + 1, none⟩ = some (.int .i64 fb) ∧ w'.cell? ⟨bL, oL + i * 3 + 2, none⟩ = some (.string ⟨l.toArray⟩) ∧ (convert 32 9 (.slice fA k fc)).run Try.prog w' = .ok (.string ⟨l.toArray⟩) w') (exact ⟨x1, d0, d1, d2, y0, y1, y2, cvd⟩) (fail)
    go_wp2_with fail
    go_roundw
    case rel => exact ⟨i + 1, by go_num, by omega, ⟨TR.out.own, TR.out.bod⟩, ⟨RR.out.l, RR.out.p, RR.out.hl, RR.out.hl2, RR.out.hp, RR.out.hp2⟩, HXR.out, HBR.out.drewN 1⟩
    case measure => simp [intOf]; omega
  · have hin : i = np := by omega
    subst hin
    clear hend hi
    go_wp2_with fail
    go_returns
    exact ⟨rfl, HBR.out⟩
end Go.Proofs.Ytgdcnmicdhimhaa
