/- The walk of NumWrites. -/
import Derived.Test.YtmhhppolhciigaaRn
import Derived.Deep.RegionHeld3
namespace Go.Proofs.Ytmhhppolhciigaa
open Go.RowKit
set_option linter.unusedVariables false

/-- Cells that are bytes. -/
def Byts (n : Nat) (xs : List Value) : Prop := ∀ j, j < n → ∃ z, xs[j]? = some (.int .u8 z)
theorem Byts.of (l : List UInt8) : Byts l.length (bv l) := fun j hj => ⟨_, bv_get l j hj⟩
theorem Byts.set {n : Nat} {xs : List Value} (h : Byts n xs) (i : Nat) (z : Int) : Byts n (xs.set i (.int .u8 z)) := by
  intro j hj
  rw [List.getElem?_set]
  split
  · subst j
    split
    · exact ⟨z, rfl⟩
    · obtain ⟨z', h'⟩ := h i hj
      rw [List.getElem?_eq_none (by omega)] at h'
      cases h'
  · exact h j hj

theorem conv_own {W : World} {B : Nat} {g c n : Nat} {l : List UInt8} (h : W.ownsRow B 5 1 (.slice (some ⟨g, 0, none⟩) n c) n (bv l)) :
    ∀ j, (convert 22 9 (.slice (some ⟨g, 0, none⟩) n c)).run Try.prog (W.drewN j) = .ok (.string ⟨l.toArray⟩) (W.drewN j) := by
  intro j
  have hn : l.length = n := by have := h.1; rw [bv_length] at this; omega
  exact conv_any n c hn ((Rd.of_own h).drewN j)

set_option maxRecDepth 100000 in
set_option maxHeartbeats 2000000 in
theorem numWrites.main (A : Option Addr) (l : List UInt8) (cap n : Nat) (m : Int) (s : ByteArray) (w : World) (hl : l.length ≤ 1000) (hs : s.size ≤ 1000) (hrd : Rd w w.heap.size A (bv l))
    (hn : n < 18446744073709551616) (h0 : -9223372036854775808 ≤ m) (h1 : m ≤ 9223372036854775807) :
    Calls Try.prog 6 #[.slice A l.length cap, .int .u64 (n : Int), .int .i64 m, .string s] w fun e w' => e = .returned (.bool true) ∧ Below w.heap.size w w' := by
  have HR := Lib.hid hrd
  have HX := Lib.hid (fun W (h : Rd W w.heap.size A (bv l)) => uint_any A w.heap.size l cap n W h hn (by omega))
  have HY := Lib.hid (fun W (h : Rd W w.heap.size A (bv l)) => int_any A w.heap.size l cap m W h h0 h1 (by omega))
  have HZ := Lib.hid (fun W (h : Rd W w.heap.size A (bv l)) => text_any A w.heap.size l cap s W h hs (by omega))
  have HU := Lib.hid (fun W => ruint_ref n W hn)
  have HI := Lib.hid (fun W => rint_ref m W h0 h1)
  have HT := Lib.hid (fun W => rtext_ref s W hs)
  clear hrd hn h0 h1
  unfold Wrote at HX HY HZ HU HI HT
  obtain ⟨nx, hnx⟩ : ∃ nx, nx = (l ++ enc n).length := ⟨_, rfl⟩
  obtain ⟨ny, hny⟩ : ∃ nx, nx = (l ++ enc (zig m)).length := ⟨_, rfl⟩
  obtain ⟨nz, hnz⟩ : ∃ nx, nx = (l ++ enc s.size ++ s.data.toList).length := ⟨_, rfl⟩
  have bx : nx ≤ 1009 := by have := sizeN_le n; rw [hnx, List.length_append, enc_length]; omega
  have bY : ny ≤ 1009 := by have := sizeN_le (zig m); rw [hny, List.length_append, enc_length]; omega
  have bz : nz ≤ 2009 := by
    have := sizeN_le s.size
    have hsz : s.data.toList.length = s.size := by rw [Array.length_toList]; rfl
    rw [hnz, List.length_append, List.length_append, enc_length, hsz]; omega
  simp only [← hnx, ← hny, ← hnz] at HX HY HZ
  have NX := Lib.hid hnx
  have NY := Lib.hid hny
  have NZ := Lib.hid hnz
  clear hnx hny hnz
  go_enter Try.func6, Try.ntmps6
  go_wp2_with (go_at_call 9; refine (awake_true _).mono ?_; rintro e w1 ⟨rfl, hb1⟩; (have HB1 := Lib.hid hb1); (have cvb := conv_any (W := w1) l.length cap rfl (HR.out.below HB1.out)); clear hb1)
  clear cvb
  refine (HX.out _ (HR.out.below HB1.out)).mono ?_
  rintro e w2 ⟨g1, c1, rfl, own, bel⟩
  have OX2 := Lib.hid (own_base own HB1.out.size)
  have HB2 := Lib.hid (HB1.out.trans (bel.mono HB1.out.size))
  obtain ⟨_, _, hv1, hg1, hg1l⟩ := own.form (by rw [NX.out, List.length_append, enc_length]; have := sizeN_le n; omega)
  cases hv1
  clear own bel
  go_wp2_with fail
  refine (HY.out _ (HR.out.below HB2.out)).mono ?_
  rintro e w3 ⟨g2, c2, rfl, own, bel⟩
  have OX3 := Lib.hid (own_keep OX2.out bel)
  have OY3 := Lib.hid (own_base own HB2.out.size)
  have HB3 := Lib.hid (HB2.out.trans (bel.mono HB2.out.size))
  obtain ⟨_, _, hv1, hg2, hg2l⟩ := own.form (by rw [NY.out, List.length_append, enc_length]; have := sizeN_le (zig m); omega)
  cases hv1
  clear own bel
  go_wp2_with fail
  refine (HZ.out _ (HR.out.below HB3.out)).mono ?_
  rintro e w4 ⟨g3, c3, rfl, own, bel⟩
  have OX4 := Lib.hid (own_keep OX3.out bel)
  have OY4 := Lib.hid (own_keep OY3.out bel)
  have OZ4 := Lib.hid (own_base own HB3.out.size)
  have HB4 := Lib.hid (HB3.out.trans (bel.mono HB3.out.size))
  obtain ⟨_, _, hv1, hg3, hg3l⟩ := own.form (by rw [NZ.out, List.length_append, List.length_append, enc_length]; have := sizeN_le s.size; omega)
  cases hv1
  clear own bel
  go_wp2_with fail
  have cx := conv_own OX4.out 1
  change (convert 22 9 (.slice (some ⟨g1, 0, none⟩) nx c1)).run Try.prog w4.drew = .ok (.string ⟨(l ++ enc n).toArray⟩) w4.drew at cx
  have a1 : ∀ W, (Op.stringOp .add ⟨l.toArray⟩ ⟨(enc n).toArray⟩).run Try.prog W = .ok (.string ⟨(l ++ enc n).toArray⟩) W := fun W => run_string_add_lists W l _ (by omega) (by have := (sizeN_le n).2; rw [enc_length]; omega)
  have a2 : ∀ W, (Op.stringOp .add ⟨l.toArray⟩ ⟨(enc (zig m)).toArray⟩).run Try.prog W = .ok (.string ⟨(l ++ enc (zig m)).toArray⟩) W := fun W => run_string_add_lists W l _ (by omega) (by have := (sizeN_le (zig m)).2; rw [enc_length]; omega)
  have a3 : ∀ W, (Op.stringOp .add ⟨l.toArray⟩ ⟨(enc s.size ++ s.data.toList).toArray⟩).run Try.prog W = .ok (.string ⟨(l ++ enc s.size ++ s.data.toList).toArray⟩) W := fun W => by
    rw [List.append_assoc]
    exact run_string_add_lists W l _ (by omega) (by
      have := (sizeN_le s.size).2
      have hsz : s.data.toList.length = s.size := by rw [Array.length_toList]; rfl
      rw [List.length_append, enc_length, hsz]; omega)
  obtain ⟨ex, hex⟩ : ∃ x, x = enc n := ⟨_, rfl⟩
  obtain ⟨ey, hey⟩ : ∃ x, x = enc (zig m) := ⟨_, rfl⟩
  obtain ⟨ez, hez⟩ : ∃ x, x = enc s.size ++ s.data.toList := ⟨_, rfl⟩
  obtain ⟨lx, hlx⟩ : ∃ x, x = l ++ ex := ⟨_, rfl⟩
  obtain ⟨ly, hly⟩ : ∃ x, x = l ++ ey := ⟨_, rfl⟩
  obtain ⟨lz, hlz⟩ : ∃ x, x = l ++ ez := ⟨_, rfl⟩
  rw [List.append_assoc] at OZ4 NZ
  rw [List.append_assoc, ← hez] at a3
  rw [← hez] at OZ4 HT NZ
  simp only [← hex, ← hey] at OX4 OY4 HU HI a1 a2 NX NY cx
  rw [← hlx] at OX4 a1 NX cx
  rw [← hly] at OY4 a2 NY
  rw [← hlz] at OZ4 a3 NZ
  clear hex hey hez hlx hly hlz
  have cy := conv_own OY4.out 1
  change (convert 22 9 (.slice (some ⟨g2, 0, none⟩) ny c2)).run Try.prog w4.drew = .ok (.string ⟨ly.toArray⟩) w4.drew at cy
  have cz := conv_own OZ4.out 1
  change (convert 22 9 (.slice (some ⟨g3, 0, none⟩) nz c3)).run Try.prog w4.drew = .ok (.string ⟨lz.toArray⟩) w4.drew at cz
  refine wp_region_held_drew (S := fun w' => (convert 22 9 (.slice (some ⟨g1, 0, none⟩) nx c1)).run Try.prog w' = .ok (.string ⟨lx.toArray⟩) w' ∧ (convert 22 9 (.slice (some ⟨g2, 0, none⟩) ny c2)).run Try.prog w' = .ok (.string ⟨ly.toArray⟩) w' ∧ (convert 22 9 (.slice (some ⟨g3, 0, none⟩) nz c3)).run Try.prog w' = .ok (.string ⟨lz.toArray⟩) w') (by kernel_rfl) (⟨cx, cy, cz⟩) (fun hHeld => ?_)
  refine wpAnyH_take (i := 0) (v := ?_) (by simp only [List.getElem?_toArray, List.getElem?_cons_zero, List.getElem?_cons_succ]; rfl) (by kernel_rfl) (by kernel_rfl) (by kernel_rfl) (by intro _ _ _ h; exact h) (Or.inl ⟨by rfl, ?_⟩) (by assumption) ?_
  rotate_left
  · intro w hSw
    try dsimp only at hSw
    (go_simp <;> with_reducible rfl)
  try simp only [Act.put, List.setIfInBounds_toArray, List.set_cons_zero, List.set_cons_succ]
  refine wpAnyH_take (i := 2) (v := ?_) (by simp only [List.getElem?_toArray, List.getElem?_cons_zero, List.getElem?_cons_succ]; rfl) (by kernel_rfl) (by kernel_rfl) (by kernel_rfl) (by intro _ _ _ h; exact h) (Or.inl ⟨by rfl, ?_⟩) (by assumption) ?_
  rotate_left
  · intro w hSw
    try dsimp only at hSw
    (go_simp <;> with_reducible rfl)
  try simp only [Act.put, List.setIfInBounds_toArray, List.set_cons_zero, List.set_cons_succ]
  refine wpAnyH_take (i := 3) (v := ?_) (by simp only [List.getElem?_toArray, List.getElem?_cons_zero, List.getElem?_cons_succ]; rfl) (by kernel_rfl) (by kernel_rfl) (by kernel_rfl) (by intro _ _ _ h; exact h) (Or.inl ⟨by rfl, ?_⟩) (by assumption) ?_
  rotate_left
  · intro w hSw
    try dsimp only at hSw
    (go_simp <;> with_reducible rfl)
  try simp only [Act.put, List.setIfInBounds_toArray, List.set_cons_zero, List.set_cons_succ]
  refine wpAnyH_take (i := 1) (v := ?_) (by simp only [List.getElem?_toArray, List.getElem?_cons_zero, List.getElem?_cons_succ]; rfl) (by kernel_rfl) (by kernel_rfl) (by kernel_rfl) (by intro _ _ _ h; exact h) (Or.inl ⟨by rfl, ?_⟩) (by assumption) ?_
  rotate_left
  · intro w hSw
    try dsimp only at hSw
    (go_simp <;> with_reducible rfl)
  try simp only [Act.put, List.setIfInBounds_toArray, List.set_cons_zero, List.set_cons_succ]
  refine wpAnyH_ready (rs := [4]) (by kernel_rfl) (by simp) ?_
  refine AllReadyH.cons (by simp only [List.getElem?_toArray, List.getElem?_cons_zero, List.getElem?_cons_succ]; rfl) (fun K hK => ?_) AllReadyH.nil
  clear hHeld
  go_simp
  refine (HU.out _).mono ?_
  rintro e w5 ⟨gu5, cu5, rfl, own, bel⟩
  have BEL5 := Lib.hid (show Below w4.heap.size w4 w5 from ⟨bel.os, bel.tape, bel.output, bel.size, bel.block⟩)
  have c5 := conv_own own 0
  have cx5 := conv_own (own_keep OX4.out BEL5.out) 0
  have cy5 := conv_own (own_keep OY4.out BEL5.out) 0
  have cz5 := conv_own (own_keep OZ4.out BEL5.out) 0
  simp only [World.drewN_zero] at c5 cx5 cy5 cz5
  clear own bel cx cy cz
  go_wp2_with fail
  refine hK.out _ _ (⟨cx5, cy5, cz5⟩) (fun hHeld => ?_)
  clear hK K
  try simp only [Act.put, List.setIfInBounds_toArray, List.set_cons_zero, List.set_cons_succ]
  refine wpAnyH_ready (rs := [5]) (by kernel_rfl) (by simp) ?_
  refine AllReadyH.cons (by simp only [List.getElem?_toArray, List.getElem?_cons_zero, List.getElem?_cons_succ]; rfl) (fun K hK => ?_) AllReadyH.nil
  clear hHeld
  go_simp
  refine hK.out _ _ (⟨cx5, cy5, cz5⟩) (fun hHeld => ?_)
  clear hK K
  try simp only [Act.put, List.setIfInBounds_toArray, List.set_cons_zero, List.set_cons_succ]
  refine wpAnyH_take (i := 6) (v := ?_) (by simp only [List.getElem?_toArray, List.getElem?_cons_zero, List.getElem?_cons_succ]; rfl) (by kernel_rfl) (by kernel_rfl) (by kernel_rfl) (by intro _ _ _ h; exact h) (Or.inl ⟨by rfl, ?_⟩) (by assumption) ?_
  rotate_left
  · intro w hSw
    try dsimp only at hSw
    (go_simp <;> with_reducible rfl)
  try simp only [Act.put, List.setIfInBounds_toArray, List.set_cons_zero, List.set_cons_succ]
  refine wpAnyH_take (i := 7) (v := ?_) (by simp only [List.getElem?_toArray, List.getElem?_cons_zero, List.getElem?_cons_succ]; rfl) (by kernel_rfl) (by kernel_rfl) (by kernel_rfl) (by intro _ _ _ h; exact h) (Or.inl ⟨by rfl, ?_⟩) (by assumption) ?_
  rotate_left
  · intro w hSw
    try dsimp only at hSw
    (go_simp <;> with_reducible rfl)
  try simp only [Act.put, List.setIfInBounds_toArray, List.set_cons_zero, List.set_cons_succ]
  refine wpAnyH_take (i := 8) (v := ?_) (by simp only [List.getElem?_toArray, List.getElem?_cons_zero, List.getElem?_cons_succ]; rfl) (by kernel_rfl) (by kernel_rfl) (by kernel_rfl) (by intro _ _ _ h; exact h) (Or.inl ⟨by rfl, ?_⟩) (by assumption) ?_
  rotate_left
  · intro w hSw
    try dsimp only at hSw
    (go_simp <;> with_reducible rfl)
  try simp only [Act.put, List.setIfInBounds_toArray, List.set_cons_zero, List.set_cons_succ]
  refine wpAnyH_take (i := 9) (v := ?_) (by simp only [List.getElem?_toArray, List.getElem?_cons_zero, List.getElem?_cons_succ]; rfl) (by kernel_rfl) (by kernel_rfl) (by kernel_rfl) (by intro _ _ _ h; exact h) (Or.inl ⟨by rfl, ?_⟩) (by assumption) ?_
  rotate_left
  · intro w hSw
    try dsimp only at hSw
    (go_simp <;> with_reducible rfl)
  try simp only [Act.put, List.setIfInBounds_toArray, List.set_cons_zero, List.set_cons_succ]
  refine wpAnyH_take (i := 11) (v := ?_) (by simp only [List.getElem?_toArray, List.getElem?_cons_zero, List.getElem?_cons_succ]; rfl) (by kernel_rfl) (by kernel_rfl) (by kernel_rfl) (by intro _ _ _ h; exact h) (Or.inl ⟨by rfl, ?_⟩) (by assumption) ?_
  rotate_left
  · intro w hSw
    try dsimp only at hSw
    (go_simp <;> with_reducible rfl)
  try simp only [Act.put, List.setIfInBounds_toArray, List.set_cons_zero, List.set_cons_succ]
  refine wpAnyH_take (i := 12) (v := ?_) (by simp only [List.getElem?_toArray, List.getElem?_cons_zero, List.getElem?_cons_succ]; rfl) (by kernel_rfl) (by kernel_rfl) (by kernel_rfl) (by intro _ _ _ h; exact h) (Or.inl ⟨by rfl, ?_⟩) (by assumption) ?_
  rotate_left
  · intro w hSw
    try dsimp only at hSw
    (go_simp <;> with_reducible rfl)
  try simp only [Act.put, List.setIfInBounds_toArray, List.set_cons_zero, List.set_cons_succ]
  refine wpAnyH_take (i := 10) (v := ?_) (by simp only [List.getElem?_toArray, List.getElem?_cons_zero, List.getElem?_cons_succ]; rfl) (by kernel_rfl) (by kernel_rfl) (by kernel_rfl) (by intro _ _ _ h; exact h) (Or.inl ⟨by rfl, ?_⟩) (by assumption) ?_
  rotate_left
  · intro w hSw
    try dsimp only at hSw
    (go_simp <;> with_reducible rfl)
  try simp only [Act.put, List.setIfInBounds_toArray, List.set_cons_zero, List.set_cons_succ]
  refine wpAnyH_ready (rs := [13]) (by kernel_rfl) (by simp) ?_
  refine AllReadyH.cons (by simp only [List.getElem?_toArray, List.getElem?_cons_zero, List.getElem?_cons_succ]; rfl) (fun K hK => ?_) AllReadyH.nil
  clear hHeld
  go_simp
  refine (HI.out _).mono ?_
  rintro e w6 ⟨gu6, cu6, rfl, own, bel⟩
  have BEL6 := Lib.hid (BEL5.out.trans (bel.mono BEL5.out.size))
  have c6 := conv_own own 0
  have cx6 := conv_own (own_keep OX4.out BEL6.out) 0
  have cy6 := conv_own (own_keep OY4.out BEL6.out) 0
  have cz6 := conv_own (own_keep OZ4.out BEL6.out) 0
  simp only [World.drewN_zero] at c6 cx6 cy6 cz6
  clear own bel c5 cx5 cy5 cz5
  go_wp2_with fail
  refine hK.out _ _ (⟨cx6, cy6, cz6⟩) (fun hHeld => ?_)
  clear hK K
  try simp only [Act.put, List.setIfInBounds_toArray, List.set_cons_zero, List.set_cons_succ]
  refine wpAnyH_ready (rs := [14]) (by kernel_rfl) (by simp) ?_
  refine AllReadyH.cons (by simp only [List.getElem?_toArray, List.getElem?_cons_zero, List.getElem?_cons_succ]; rfl) (fun K hK => ?_) AllReadyH.nil
  clear hHeld
  go_simp
  refine hK.out _ _ (⟨cx6, cy6, cz6⟩) (fun hHeld => ?_)
  clear hK K
  try simp only [Act.put, List.setIfInBounds_toArray, List.set_cons_zero, List.set_cons_succ]
  refine wpAnyH_take (i := 15) (v := ?_) (by simp only [List.getElem?_toArray, List.getElem?_cons_zero, List.getElem?_cons_succ]; rfl) (by kernel_rfl) (by kernel_rfl) (by kernel_rfl) (by intro _ _ _ h; exact h) (Or.inl ⟨by rfl, ?_⟩) (by assumption) ?_
  rotate_left
  · intro w hSw
    try dsimp only at hSw
    (go_simp <;> with_reducible rfl)
  try simp only [Act.put, List.setIfInBounds_toArray, List.set_cons_zero, List.set_cons_succ]
  refine wpAnyH_take (i := 16) (v := ?_) (by simp only [List.getElem?_toArray, List.getElem?_cons_zero, List.getElem?_cons_succ]; rfl) (by kernel_rfl) (by kernel_rfl) (by kernel_rfl) (by intro _ _ _ h; exact h) (Or.inl ⟨by rfl, ?_⟩) (by assumption) ?_
  rotate_left
  · intro w hSw
    try dsimp only at hSw
    (go_simp <;> with_reducible rfl)
  try simp only [Act.put, List.setIfInBounds_toArray, List.set_cons_zero, List.set_cons_succ]
  refine wpAnyH_take (i := 17) (v := ?_) (by simp only [List.getElem?_toArray, List.getElem?_cons_zero, List.getElem?_cons_succ]; rfl) (by kernel_rfl) (by kernel_rfl) (by kernel_rfl) (by intro _ _ _ h; exact h) (Or.inl ⟨by rfl, ?_⟩) (by assumption) ?_
  rotate_left
  · intro w hSw
    try dsimp only at hSw
    (go_simp <;> with_reducible rfl)
  try simp only [Act.put, List.setIfInBounds_toArray, List.set_cons_zero, List.set_cons_succ]
  refine wpAnyH_take (i := 18) (v := ?_) (by simp only [List.getElem?_toArray, List.getElem?_cons_zero, List.getElem?_cons_succ]; rfl) (by kernel_rfl) (by kernel_rfl) (by kernel_rfl) (by intro _ _ _ h; exact h) (Or.inl ⟨by rfl, ?_⟩) (by assumption) ?_
  rotate_left
  · intro w hSw
    try dsimp only at hSw
    (go_simp <;> with_reducible rfl)
  try simp only [Act.put, List.setIfInBounds_toArray, List.set_cons_zero, List.set_cons_succ]
  refine wpAnyH_take (i := 19) (v := ?_) (by simp only [List.getElem?_toArray, List.getElem?_cons_zero, List.getElem?_cons_succ]; rfl) (by kernel_rfl) (by kernel_rfl) (by kernel_rfl) (by intro _ _ _ h; exact h) (Or.inl ⟨by rfl, ?_⟩) (by assumption) ?_
  rotate_left
  · intro w hSw
    try dsimp only at hSw
    (go_simp <;> with_reducible rfl)
  try simp only [Act.put, List.setIfInBounds_toArray, List.set_cons_zero, List.set_cons_succ]
  refine wpAnyH_take (i := 21) (v := ?_) (by simp only [List.getElem?_toArray, List.getElem?_cons_zero, List.getElem?_cons_succ]; rfl) (by kernel_rfl) (by kernel_rfl) (by kernel_rfl) (by intro _ _ _ h; exact h) (Or.inl ⟨by rfl, ?_⟩) (by assumption) ?_
  rotate_left
  · intro w hSw
    try dsimp only at hSw
    (go_simp <;> with_reducible rfl)
  try simp only [Act.put, List.setIfInBounds_toArray, List.set_cons_zero, List.set_cons_succ]
  refine wpAnyH_take (i := 22) (v := ?_) (by simp only [List.getElem?_toArray, List.getElem?_cons_zero, List.getElem?_cons_succ]; rfl) (by kernel_rfl) (by kernel_rfl) (by kernel_rfl) (by intro _ _ _ h; exact h) (Or.inl ⟨by rfl, ?_⟩) (by assumption) ?_
  rotate_left
  · intro w hSw
    try dsimp only at hSw
    (go_simp <;> with_reducible rfl)
  try simp only [Act.put, List.setIfInBounds_toArray, List.set_cons_zero, List.set_cons_succ]
  refine wpAnyH_take (i := 20) (v := ?_) (by simp only [List.getElem?_toArray, List.getElem?_cons_zero, List.getElem?_cons_succ]; rfl) (by kernel_rfl) (by kernel_rfl) (by kernel_rfl) (by intro _ _ _ h; exact h) (Or.inl ⟨by rfl, ?_⟩) (by assumption) ?_
  rotate_left
  · intro w hSw
    try dsimp only at hSw
    (go_simp <;> with_reducible rfl)
  try simp only [Act.put, List.setIfInBounds_toArray, List.set_cons_zero, List.set_cons_succ]
  refine wpAnyH_ready (rs := [23]) (by kernel_rfl) (by simp) ?_
  refine AllReadyH.cons (by simp only [List.getElem?_toArray, List.getElem?_cons_zero, List.getElem?_cons_succ]; rfl) (fun K hK => ?_) AllReadyH.nil
  clear hHeld
  go_simp
  refine (HT.out _).mono ?_
  rintro e w7 ⟨gu7, cu7, rfl, own, bel⟩
  have BEL7 := Lib.hid (BEL6.out.trans (bel.mono BEL6.out.size))
  have c7 := conv_own own 0
  have cx7 := conv_own (own_keep OX4.out BEL7.out) 0
  have cy7 := conv_own (own_keep OY4.out BEL7.out) 0
  have cz7 := conv_own (own_keep OZ4.out BEL7.out) 0
  simp only [World.drewN_zero] at c7 cx7 cy7 cz7
  clear own bel c6 cx6 cy6 cz6
  go_wp2_with fail
  refine hK.out _ _ (⟨cx7, cy7, cz7⟩) (fun hHeld => ?_)
  clear hK K
  try simp only [Act.put, List.setIfInBounds_toArray, List.set_cons_zero, List.set_cons_succ]
  refine wpAnyH_ready (rs := [24]) (by kernel_rfl) (by simp) ?_
  refine AllReadyH.cons (by simp only [List.getElem?_toArray, List.getElem?_cons_zero, List.getElem?_cons_succ]; rfl) (fun K hK => ?_) AllReadyH.nil
  clear hHeld
  go_simp
  refine hK.out _ _ (⟨cx7, cy7, cz7⟩) (fun hHeld => ?_)
  clear hK K
  try simp only [Act.put, List.setIfInBounds_toArray, List.set_cons_zero, List.set_cons_succ]
  refine wpAnyH_take (i := 25) (v := ?_) (by simp only [List.getElem?_toArray, List.getElem?_cons_zero, List.getElem?_cons_succ]; rfl) (by kernel_rfl) (by kernel_rfl) (by kernel_rfl) (by intro _ _ _ h; exact h) (Or.inl ⟨by rfl, ?_⟩) (by assumption) ?_
  rotate_left
  · intro w hSw
    try dsimp only at hSw
    (go_simp <;> with_reducible rfl)
  try simp only [Act.put, List.setIfInBounds_toArray, List.set_cons_zero, List.set_cons_succ]
  refine wpAnyH_take (i := 26) (v := ?_) (by simp only [List.getElem?_toArray, List.getElem?_cons_zero, List.getElem?_cons_succ]; rfl) (by kernel_rfl) (by kernel_rfl) (by kernel_rfl) (by intro _ _ _ h; exact h) (Or.inl ⟨by rfl, ?_⟩) (by assumption) ?_
  rotate_left
  · intro w hSw
    try dsimp only at hSw
    (go_simp <;> with_reducible rfl)
  try simp only [Act.put, List.setIfInBounds_toArray, List.set_cons_zero, List.set_cons_succ]
  refine wpAnyH_take (i := 27) (v := ?_) (by simp only [List.getElem?_toArray, List.getElem?_cons_zero, List.getElem?_cons_succ]; rfl) (by kernel_rfl) (by kernel_rfl) (by kernel_rfl) (by intro _ _ _ h; exact h) (Or.inl ⟨by rfl, ?_⟩) (by assumption) ?_
  rotate_left
  · intro w hSw
    try dsimp only at hSw
    (go_simp <;> with_reducible rfl)
  try simp only [Act.put, List.setIfInBounds_toArray, List.set_cons_zero, List.set_cons_succ]
  refine wpAnyH_take (i := 28) (v := ?_) (by simp only [List.getElem?_toArray, List.getElem?_cons_zero, List.getElem?_cons_succ]; rfl) (by kernel_rfl) (by kernel_rfl) (by kernel_rfl) (by intro _ _ _ h; exact h) (Or.inl ⟨by rfl, ?_⟩) (by assumption) ?_
  rotate_left
  · intro w hSw
    try dsimp only at hSw
    (go_simp <;> with_reducible rfl)
  try simp only [Act.put, List.setIfInBounds_toArray, List.set_cons_zero, List.set_cons_succ]
  refine wpAnyH_done (by kernel_rfl) ?_ _
  clear c7 cx7 cy7 cz7 a1 a2 a3 hHeld
  have hsz7 := BEL7.out.size
  have OX7 := Lib.hid (own_keep OX4.out BEL7.out)
  have OY7 := Lib.hid (own_keep OY4.out BEL7.out)
  have OZ7 := Lib.hid (own_keep OZ4.out BEL7.out)
  have HB7 := Lib.hid (HB4.out.trans (BEL7.out.mono HB4.out.size))
  have YX := Lib.hid (Byts.of lx)
  have YY := Lib.hid (Byts.of ly)
  have YZ := Lib.hid (Byts.of lz)
  rw [← NX.out] at YX
  rw [← NY.out] at YY
  rw [← NZ.out] at YZ
  have hwg1 : w.heap.size ≤ g1 := by have := HB1.out.size; omega
  have hwg2 : w.heap.size ≤ g2 := by have := HB2.out.size; omega
  have hwg3 : w.heap.size ≤ g3 := by have := HB3.out.size; omega
  clear OX2 OX3 OY3 OX4 OY4 OZ4 HB2 HB3 HB4 HU HI HT HX HY HZ BEL5 BEL6
  go_wp2_with fail
  go_loopw [15] (fun x wr => ∃ (i : Nat) (xs : List Value), x = .int .i64 i ∧ i ≤ nx ∧ Hid (wr.ownsRow w.heap.size 5 1 (.slice (some ⟨g1, 0, none⟩) nx c1) nx xs) ∧ Hid (Byts nx xs) ∧ Hid (Below w.heap.size w wr) ∧ Hid (wr.ownsRow w.heap.size 5 1 (.slice (some ⟨g2, 0, none⟩) ny c2) ny (bv ly)) ∧ Hid (wr.ownsRow w.heap.size 5 1 (.slice (some ⟨g3, 0, none⟩) nz c3) nz (bv lz))) (fun x _ => nx - (intOf x).toNat)
  case atStart => exact ⟨0, _, rfl, by omega, OX7.out, YX.out, HB7.out, OY7.out, OZ7.out⟩
  obtain ⟨i, xs, rfl, hi, OWN, YS, HB, CAg2, CAg3⟩ := hrel
  by_cases hend : i < nx
  · obtain ⟨z, hz⟩ := YS.out i hend
    have hcl := OWN.out.cellAt i (by omega)
    rw [hz] at hcl
    have hfr := OWN.out.frozenAt i
    have HST := Lib.hid (OWN.out.stored i (.int .u8 (bits .xor .u8 z 255)))
    have YS2 := Lib.hid (YS.out.set i (bits .xor .u8 z 255))
    have HB' := Lib.hid (HB.out.setCell (p := ⟨g1, i, none⟩) hwg1 (.int .u8 (bits .xor .u8 z 255)))
    clear hz
    go_wp2_with fail
    go_roundw
    case rel => exact ⟨i + 1, _, by go_num, by omega, HST.out.1, YS2.out, HB'.out, CAg2.out.kept HST.out.2 (.inr (by simp [Value.ownBlock]; omega)), CAg3.out.kept HST.out.2 (.inr (by simp [Value.ownBlock]; omega))⟩
    case measure => simp [intOf]; omega
  · have hin : i = nx := by omega
    subst hin
    have HB8 := Lib.hid HB.out
    have CBg2 := Lib.hid CAg2.out
    have CBg3 := Lib.hid CAg3.out
    clear OWN YS hend hi
    go_wp2_with fail
    go_loopw [16] (fun x wr => ∃ (i : Nat) (xs : List Value), x = .int .i64 i ∧ i ≤ ny ∧ Hid (wr.ownsRow w.heap.size 5 1 (.slice (some ⟨g2, 0, none⟩) ny c2) ny xs) ∧ Hid (Byts ny xs) ∧ Hid (Below w.heap.size w wr) ∧ Hid (wr.ownsRow w.heap.size 5 1 (.slice (some ⟨g3, 0, none⟩) nz c3) nz (bv lz))) (fun x _ => ny - (intOf x).toNat)
    case atStart => exact ⟨0, _, rfl, by omega, CBg2.out, YY.out, HB8.out, CBg3.out⟩
    obtain ⟨i, xs, rfl, hi, OWN, YS, HB, CAg3⟩ := hrel
    by_cases hend : i < ny
    · obtain ⟨z, hz⟩ := YS.out i hend
      have hcl := OWN.out.cellAt i (by omega)
      rw [hz] at hcl
      have hfr := OWN.out.frozenAt i
      have HST := Lib.hid (OWN.out.stored i (.int .u8 (bits .xor .u8 z 255)))
      have YS2 := Lib.hid (YS.out.set i (bits .xor .u8 z 255))
      have HB' := Lib.hid (HB.out.setCell (p := ⟨g2, i, none⟩) hwg2 (.int .u8 (bits .xor .u8 z 255)))
      clear hz
      go_wp2_with fail
      go_roundw
      case rel => exact ⟨i + 1, _, by go_num, by omega, HST.out.1, YS2.out, HB'.out, CAg3.out.kept HST.out.2 (.inr (by simp [Value.ownBlock]; omega))⟩
      case measure => simp [intOf]; omega
    · have hin : i = ny := by omega
      subst hin
      have HB9 := Lib.hid HB.out
      have CCg3 := Lib.hid CAg3.out
      clear OWN YS hend hi
      go_wp2_with fail
      go_loopw [17] (fun x wr => ∃ (i : Nat) (xs : List Value), x = .int .i64 i ∧ i ≤ nz ∧ Hid (wr.ownsRow w.heap.size 5 1 (.slice (some ⟨g3, 0, none⟩) nz c3) nz xs) ∧ Hid (Byts nz xs) ∧ Hid (Below w.heap.size w wr)) (fun x _ => nz - (intOf x).toNat)
      case atStart => exact ⟨0, _, rfl, by omega, CCg3.out, YZ.out, HB9.out⟩
      obtain ⟨i, xs, rfl, hi, OWN, YS, HB⟩ := hrel
      by_cases hend : i < nz
      · obtain ⟨z, hz⟩ := YS.out i hend
        have hcl := OWN.out.cellAt i (by omega)
        rw [hz] at hcl
        have hfr := OWN.out.frozenAt i
        have HST := Lib.hid (OWN.out.stored i (.int .u8 (bits .xor .u8 z 255)))
        have YS2 := Lib.hid (YS.out.set i (bits .xor .u8 z 255))
        have HB' := Lib.hid (HB.out.setCell (p := ⟨g3, i, none⟩) hwg3 (.int .u8 (bits .xor .u8 z 255)))
        clear hz
        go_wp2_with fail
        go_roundw
        case rel => exact ⟨i + 1, _, by go_num, by omega, HST.out.1, YS2.out, HB'.out⟩
        case measure => simp [intOf]; omega
      · have hin : i = nz := by omega
        subst hin
        have HB10 := Lib.hid HB.out
        clear OWN YS hend hi
        have cvb := conv_any (W := wr) l.length cap rfl (HR.out.below HB10.out)
        go_wp2_with fail
        go_returns
        exact ⟨rfl, HB10.out⟩

theorem numWrites.big (A : Option Addr) (k cap : Nat) (n m : Int) (s : ByteArray) (w : World) (h : 1000 < k ∨ 1000 < s.size) :
    Calls Try.prog 6 #[.slice A k cap, .int .u64 n, .int .i64 m, .string s] w fun e w' => e = .returned (.bool true) ∧ Below w.heap.size w w' := by
  by_cases h0 : 1000 < k
  · go_enter Try.func6, Try.ntmps6
    go_wp2_with (go_at_call 9; refine (awake_true _).mono ?_; rintro e w1 ⟨rfl, hb1⟩)
    go_returns
    exact ⟨rfl, hb1⟩
  · have h1 : 1000 < s.size := by omega
    clear h
    go_enter Try.func6, Try.ntmps6
    go_wp2_with (go_at_call 9; refine (awake_true _).mono ?_; rintro e w1 ⟨rfl, hb1⟩)
    go_returns
    exact ⟨rfl, hb1⟩

theorem numWrites.walk (a0 : Option Addr) (len0 cap0 : Nat) (z0 : List Int) (a1 : Int) (a2 : Int) (a3 : ByteArray) (w : World) (w0 : IsRow .u8 w a0 len0 cap0 z0) (w1 : (Lit.int .u64 a1).wf = true) (w2 : (Lit.int .i64 a2).wf = true) (w3 : a3.size ≤ maxLen) :
    Calls Try.prog 6 #[.slice a0 len0 cap0, .int .u64 a1, .int .i64 a2, .string a3] w fun e w' => e = .returned (.bool true) ∧ Below w.heap.size w w' := by
  obtain ⟨l, rfl, hrd, hl, hm⟩ := w0.bytes
  rw [Go.Lit.wf_int_iff] at w1 w2
  have g1 : 0 ≤ a1 ∧ a1 ≤ 18446744073709551615 := by simpa [IntKind.min, IntKind.max, IntKind.bits, IntKind.signed] using w1
  have g2 : -9223372036854775808 ≤ a2 ∧ a2 ≤ 9223372036854775807 := by simpa [IntKind.min, IntKind.max, IntKind.bits, IntKind.signed] using w2
  obtain ⟨n, rfl⟩ := Int.eq_ofNat_of_zero_le g1.1
  by_cases hb : 1000 < l.length ∨ 1000 < a3.size
  · exact numWrites.big a0 l.length cap0 n a2 a3 w hb
  · exact numWrites.main a0 l cap0 n a2 a3 w (by omega) (by omega) hrd (by omega) g2.1 g2.2
end Go.Proofs.Ytmhhppolhciigaa
