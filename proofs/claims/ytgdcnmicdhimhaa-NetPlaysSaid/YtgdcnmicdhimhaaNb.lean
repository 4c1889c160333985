/- Contracts of Linked, Send, Part. -/
import Derived.Test.YtgdcnmicdhimhaaNa
import Derived.Deep.RegionLaw
namespace Go.Proofs.Ytgdcnmicdhimhaa
open Go.RowKit
set_option linter.unusedVariables false

theorem wf_small {a n : Int} (h0 : 0 ≤ a) (h1 : a < n) (hn : n ≤ 65536) : Wf a := by
  unfold Wf
  exact WalkArith.wf_i64 (by omega)
theorem bothB_true {n a b : Int} (h : bothB n a b = true) : 0 ≤ a ∧ a < n ∧ 0 ≤ b ∧ b < n ∧ a ≠ b := by simpa [bothB] using h

/-- Are two nodes joined? -/
def linkB (nodes a b : Int) (par : Int → Int → Bool) : Bool := bothB nodes a b && !par (min a b) (max a b)

set_option maxRecDepth 100000 in
set_option maxHeartbeats 1000000 in
theorem linked_any (B r mb : Nat) (v : Value) (nodes : Int) (ps : List Pkt) (n : Nat) (par : Int → Int → Bool) (a b : Int) (w : World) (h : NetAt w B r v mb nodes ps n par) (hn : nodes ≤ 65536) :
    Calls Try.prog 18 #[.pointer (some ⟨r, 0, none⟩), .int .i64 a, .int .i64 b] w fun e w' => e = .returned (.bool (linkB nodes a b par)) ∧ Below w.heap.size w w' := by
  have k0 : w.drew.cell? ⟨r, 0, none⟩ = some (.int .i64 nodes) := h.c0
  cases hb : bothB nodes a b with
  | false =>
    have hl : linkB nodes a b par = false := by unfold linkB; rw [hb]; rfl
    rw [hl]
    clear hl h
    go_enter Try.func18, Try.ntmps18
    go_wp2_with fail
    refine wp_region_held_drew (S := fun w' => w'.cell? ⟨r, 0, none⟩ = some (.int .i64 nodes)) (by kernel_rfl) (k0) (fun hHeld => ?_)
    refine wpAnyH_take (i := 0) (v := ?_) (by simp only [List.getElem?_toArray, List.getElem?_cons_zero]; rfl) (by kernel_rfl) (by kernel_rfl) (by kernel_rfl) (by intro _ _ _ h; exact h) (Or.inl ⟨by rfl, ?_⟩) (by assumption) ?_
    rotate_left
    · intro w hSw
      try dsimp only at hSw
      (go_simp <;> with_reducible rfl)
    try simp only [Act.put, List.setIfInBounds_toArray, List.set_cons_zero, List.set_cons_succ]
    refine wpAnyH_take (i := 1) (v := ?_) (by simp only [List.getElem?_toArray, List.getElem?_cons_zero, List.getElem?_cons_succ]; rfl) (by kernel_rfl) (by kernel_rfl) (by kernel_rfl) (by intro _ _ _ h; exact h) (Or.inl ⟨by rfl, ?_⟩) (by assumption) ?_
    rotate_left
    · intro w hSw
      try dsimp only at hSw
      (go_simp <;> with_reducible rfl)
    try simp only [Act.put, List.setIfInBounds_toArray, List.set_cons_zero, List.set_cons_succ]
    refine wpAnyH_take (i := 2) (v := ?_) (by simp only [List.getElem?_toArray, List.getElem?_cons_zero, List.getElem?_cons_succ]; rfl) (by kernel_rfl) (by kernel_rfl) (by kernel_rfl) (by intro _ _ _ h; exact h) (Or.inl ⟨by rfl, ?_⟩) (by assumption) ?_
    rotate_left
    · intro w hSw
      try dsimp only at hSw
      (go_simp <;> with_reducible rfl)
    try simp only [Act.put, List.setIfInBounds_toArray, List.set_cons_zero, List.set_cons_succ]
    refine wpAnyH_take (i := 3) (v := ?_) (by simp only [List.getElem?_toArray, List.getElem?_cons_zero, List.getElem?_cons_succ]; rfl) (by kernel_rfl) (by kernel_rfl) (by kernel_rfl) (by intro _ _ _ h; exact h) (Or.inl ⟨by rfl, ?_⟩) (by assumption) ?_
    rotate_left
    · intro w hSw
      try dsimp only at hSw
      (go_simp <;> with_reducible rfl)
    try simp only [Act.put, List.setIfInBounds_toArray, List.set_cons_zero, List.set_cons_succ]
    refine wpAnyH_take (i := 4) (v := ?_) (by simp only [List.getElem?_toArray, List.getElem?_cons_zero, List.getElem?_cons_succ]; rfl) (by kernel_rfl) (by kernel_rfl) (by kernel_rfl) (by intro _ _ _ h; exact h) (Or.inl ⟨by rfl, ?_⟩) (by assumption) ?_
    rotate_left
    · intro w hSw
      try dsimp only at hSw
      (go_simp <;> with_reducible rfl)
    try simp only [Act.put, List.setIfInBounds_toArray, List.set_cons_zero, List.set_cons_succ]
    refine wpAnyH_take (i := 5) (v := ?_) (by simp only [List.getElem?_toArray, List.getElem?_cons_zero, List.getElem?_cons_succ]; rfl) (by kernel_rfl) (by kernel_rfl) (by kernel_rfl) (by intro _ _ _ h; exact h) (Or.inl ⟨by rfl, ?_⟩) (by assumption) ?_
    rotate_left
    · intro w hSw
      try dsimp only at hSw
      (go_simp <;> with_reducible rfl)
    try simp only [Act.put, List.setIfInBounds_toArray, List.set_cons_zero, List.set_cons_succ]
    refine wpAnyH_ready (rs := [6]) (by kernel_rfl) (by simp) ?_
    refine AllReadyH.cons (by simp only [List.getElem?_toArray, List.getElem?_cons_zero, List.getElem?_cons_succ]; rfl) (fun K hK => ?_) AllReadyH.nil
    clear hHeld
    go_simp
    refine (both_any r nodes a b _ (by assumption)).mono ?_
    rintro e w' ⟨rfl, rfl⟩
    rw [hb]
    go_wp2_with fail
    refine hK.out _ _ (k0) (fun hHeld => ?_)
    clear hK K
    try simp only [Act.put, List.setIfInBounds_toArray, List.set_cons_zero, List.set_cons_succ]
    refine wpAnyH_take (i := 7) (v := ?_) (by simp only [List.getElem?_toArray, List.getElem?_cons_zero, List.getElem?_cons_succ]; rfl) (by kernel_rfl) (by kernel_rfl) (by kernel_rfl) (by intro _ _ _ h; exact h) (Or.inl ⟨by rfl, ?_⟩) (by assumption) ?_
    rotate_left
    · intro w hSw
      try dsimp only at hSw
      (go_simp <;> with_reducible rfl)
    try simp only [Act.put, List.setIfInBounds_toArray, List.set_cons_zero, List.set_cons_succ]
    refine wpAnyH_take (i := 8) (v := ?_) (by simp only [List.getElem?_toArray, List.getElem?_cons_zero, List.getElem?_cons_succ]; rfl) (by kernel_rfl) (by kernel_rfl) (by kernel_rfl) (by intro _ _ _ h; exact h) (Or.inl ⟨by rfl, ?_⟩) (by assumption) ?_
    rotate_left
    · intro w hSw
      try dsimp only at hSw
      (go_simp <;> with_reducible rfl)
    try simp only [Act.put, List.setIfInBounds_toArray, List.set_cons_zero, List.set_cons_succ]
    refine wpAnyH_take (i := 9) (v := undef) (by simp only [List.getElem?_toArray, List.getElem?_cons_zero, List.getElem?_cons_succ]; rfl) (by kernel_rfl) (by kernel_rfl) (by kernel_rfl) (by intro _ _ _ h; exact h) (Or.inr ⟨by rfl, rfl⟩) (by assumption) ?_
    try simp only [Act.put, List.setIfInBounds_toArray, List.set_cons_zero, List.set_cons_succ]
    refine wpAnyH_take (i := 10) (v := undef) (by simp only [List.getElem?_toArray, List.getElem?_cons_zero, List.getElem?_cons_succ]; rfl) (by kernel_rfl) (by kernel_rfl) (by kernel_rfl) (by intro _ _ _ h; exact h) (Or.inr ⟨by rfl, rfl⟩) (by assumption) ?_
    try simp only [Act.put, List.setIfInBounds_toArray, List.set_cons_zero, List.set_cons_succ]
    refine wpAnyH_take (i := 11) (v := undef) (by simp only [List.getElem?_toArray, List.getElem?_cons_zero, List.getElem?_cons_succ]; rfl) (by kernel_rfl) (by kernel_rfl) (by kernel_rfl) (by intro _ _ _ h; exact h) (Or.inr ⟨by rfl, rfl⟩) (by assumption) ?_
    try simp only [Act.put, List.setIfInBounds_toArray, List.set_cons_zero, List.set_cons_succ]
    refine wpAnyH_take (i := 12) (v := undef) (by simp only [List.getElem?_toArray, List.getElem?_cons_zero, List.getElem?_cons_succ]; rfl) (by kernel_rfl) (by kernel_rfl) (by kernel_rfl) (by intro _ _ _ h; exact h) (Or.inr ⟨by rfl, rfl⟩) (by assumption) ?_
    try simp only [Act.put, List.setIfInBounds_toArray, List.set_cons_zero, List.set_cons_succ]
    refine wpAnyH_take (i := 13) (v := undef) (by simp only [List.getElem?_toArray, List.getElem?_cons_zero, List.getElem?_cons_succ]; rfl) (by kernel_rfl) (by kernel_rfl) (by kernel_rfl) (by intro _ _ _ h; exact h) (Or.inr ⟨by rfl, rfl⟩) (by assumption) ?_
    try simp only [Act.put, List.setIfInBounds_toArray, List.set_cons_zero, List.set_cons_succ]
    refine wpAnyH_take (i := 14) (v := undef) (by simp only [List.getElem?_toArray, List.getElem?_cons_zero, List.getElem?_cons_succ]; rfl) (by kernel_rfl) (by kernel_rfl) (by kernel_rfl) (by intro _ _ _ h; exact h) (Or.inr ⟨by rfl, rfl⟩) (by assumption) ?_
    try simp only [Act.put, List.setIfInBounds_toArray, List.set_cons_zero, List.set_cons_succ]
    refine wpAnyH_take (i := 15) (v := undef) (by simp only [List.getElem?_toArray, List.getElem?_cons_zero, List.getElem?_cons_succ]; rfl) (by kernel_rfl) (by kernel_rfl) (by kernel_rfl) (by intro _ _ _ h; exact h) (Or.inr ⟨by rfl, rfl⟩) (by assumption) ?_
    try simp only [Act.put, List.setIfInBounds_toArray, List.set_cons_zero, List.set_cons_succ]
    refine wpAnyH_take (i := 16) (v := undef) (by simp only [List.getElem?_toArray, List.getElem?_cons_zero, List.getElem?_cons_succ]; rfl) (by kernel_rfl) (by kernel_rfl) (by kernel_rfl) (by intro _ _ _ h; exact h) (Or.inr ⟨by rfl, rfl⟩) (by assumption) ?_
    try simp only [Act.put, List.setIfInBounds_toArray, List.set_cons_zero, List.set_cons_succ]
    refine wpAnyH_take (i := 17) (v := undef) (by simp only [List.getElem?_toArray, List.getElem?_cons_zero, List.getElem?_cons_succ]; rfl) (by kernel_rfl) (by kernel_rfl) (by kernel_rfl) (by intro _ _ _ h; exact h) (Or.inr ⟨by rfl, rfl⟩) (by assumption) ?_
    try simp only [Act.put, List.setIfInBounds_toArray, List.set_cons_zero, List.set_cons_succ]
    refine wpAnyH_take (i := 18) (v := ?_) (by simp only [List.getElem?_toArray, List.getElem?_cons_zero, List.getElem?_cons_succ]; rfl) (by kernel_rfl) (by kernel_rfl) (by kernel_rfl) (by intro _ _ _ h; exact h) (Or.inl ⟨by rfl, ?_⟩) (by assumption) ?_
    rotate_left
    · intro w hSw
      try dsimp only at hSw
      (go_simp <;> with_reducible rfl)
    try simp only [Act.put, List.setIfInBounds_toArray, List.set_cons_zero, List.set_cons_succ]
    refine wpAnyH_take (i := 19) (v := ?_) (by simp only [List.getElem?_toArray, List.getElem?_cons_zero, List.getElem?_cons_succ]; rfl) (by kernel_rfl) (by kernel_rfl) (by kernel_rfl) (by intro _ _ _ h; exact h) (Or.inl ⟨by rfl, ?_⟩) (by assumption) ?_
    rotate_left
    · intro w hSw
      try dsimp only at hSw
      (go_simp <;> with_reducible rfl)
    try simp only [Act.put, List.setIfInBounds_toArray, List.set_cons_zero, List.set_cons_succ]
    refine wpAnyH_done (by kernel_rfl) ?_ _
    go_wp2_with fail
    go_returns
    exact ⟨rfl, (Below.refl _ _).drew⟩
  | true =>
    have hl : linkB nodes a b par = !par (min a b) (max a b) := by unfold linkB; rw [hb]; rfl
    rw [hl]
    obtain ⟨ha0, ha1, hb0, hb1, hne⟩ := bothB_true hb
    have hwa : Wf (min a b) := wf_small (n := nodes) (by omega) (by omega) hn
    have hwb : Wf (max a b) := wf_small (n := nodes) (by omega) (by omega) hn
    obtain ⟨m, hm⟩ : ∃ m, m = min a b := ⟨_, rfl⟩
    obtain ⟨M, hM⟩ : ∃ M, M = max a b := ⟨_, rfl⟩
    have hp := fun W => pair_any a b W
    rw [← hm] at hwa
    rw [← hM] at hwb
    simp only [← hm, ← hM] at hp ⊢
    have HP := Lib.hid hp
    have H := Lib.hid h
    have k2 : w.drew.cell? ⟨r, 2, none⟩ = some (.map (some mb)) := h.c2
    have l0 := (show MapIs w.drew mb n par from h.map).lookup m M hwa hwb
    obtain ⟨x, hx⟩ : ∃ x, x = par m M := ⟨_, rfl⟩
    rw [← hx] at l0 ⊢
    have HX := Lib.hid hx
    clear hl h ha0 ha1 hb0 hb1 hne hm hM hx hp
    go_enter Try.func18, Try.ntmps18
    go_wp2_with fail
    go_region_held3 (fun w' => w'.cell? ⟨r, 0, none⟩ = some (.int .i64 nodes) ∧ w'.cell? ⟨r, 2, none⟩ = some (.map (some mb)) ∧ (Instr.lookup 62 (.map (some mb)) (kv m M) false).run Try.prog w' = .ok (.bool x) w')
      (first | exact ⟨j0, j2, l1⟩ | exact ⟨k0, k2, l0⟩)
      (first
        | (go_at_call 23; refine (both_any r nodes a b _ (by assumption)).mono ?_; rintro e w' ⟨rfl, rfl⟩; rw [hb])
        | (go_at_call 24; refine (HP.out _).mono ?_; rintro e w1 ⟨rfl, bel⟩; (have N1 := H.out.drew.below bel); (have j0 := N1.c0); (have j2 := N1.c2); (have l1 := N1.map.lookup m M hwa hwb); (rw [← HX.out] at l1); (have BEL := Lib.hid bel); clear N1 bel))
    go_wp2_with fail
    go_returns
    exact ⟨rfl, (((Below.refl _ _).drew).trans BEL.out)⟩
theorem linked_nil (a b : Int) (w : World) :
    Calls Try.prog 18 #[.pointer none, .int .i64 a, .int .i64 b] w fun e w' => e = .returned (.bool false) ∧ Below w.heap.size w w' := by
  go_enter Try.func18, Try.ntmps18
  go_wp2_with fail
  refine wp_region_held_drew (S := fun _ => True) (by kernel_rfl) (trivial) (fun hHeld => ?_)
  refine wpAnyH_take (i := 0) (v := ?_) (by simp only [List.getElem?_toArray, List.getElem?_cons_zero]; rfl) (by kernel_rfl) (by kernel_rfl) (by kernel_rfl) (by intro _ _ _ h; exact h) (Or.inl ⟨by rfl, ?_⟩) (by assumption) ?_
  rotate_left
  · intro w hSw
    try dsimp only at hSw
    (go_simp <;> with_reducible rfl)
  try simp only [Act.put, List.setIfInBounds_toArray, List.set_cons_zero, List.set_cons_succ]
  refine wpAnyH_take (i := 1) (v := ?_) (by simp only [List.getElem?_toArray, List.getElem?_cons_zero, List.getElem?_cons_succ]; rfl) (by kernel_rfl) (by kernel_rfl) (by kernel_rfl) (by intro _ _ _ h; exact h) (Or.inl ⟨by rfl, ?_⟩) (by assumption) ?_
  rotate_left
  · intro w hSw
    try dsimp only at hSw
    (go_simp <;> with_reducible rfl)
  try simp only [Act.put, List.setIfInBounds_toArray, List.set_cons_zero, List.set_cons_succ]
  refine wpAnyH_take (i := 2) (v := ?_) (by simp only [List.getElem?_toArray, List.getElem?_cons_zero, List.getElem?_cons_succ]; rfl) (by kernel_rfl) (by kernel_rfl) (by kernel_rfl) (by intro _ _ _ h; exact h) (Or.inl ⟨by rfl, ?_⟩) (by assumption) ?_
  rotate_left
  · intro w hSw
    try dsimp only at hSw
    (go_simp <;> with_reducible rfl)
  try simp only [Act.put, List.setIfInBounds_toArray, List.set_cons_zero, List.set_cons_succ]
  refine wpAnyH_take (i := 3) (v := undef) (by simp only [List.getElem?_toArray, List.getElem?_cons_zero, List.getElem?_cons_succ]; rfl) (by kernel_rfl) (by kernel_rfl) (by kernel_rfl) (by intro _ _ _ h; exact h) (Or.inr ⟨by rfl, rfl⟩) (by assumption) ?_
  try simp only [Act.put, List.setIfInBounds_toArray, List.set_cons_zero, List.set_cons_succ]
  refine wpAnyH_take (i := 4) (v := undef) (by simp only [List.getElem?_toArray, List.getElem?_cons_zero, List.getElem?_cons_succ]; rfl) (by kernel_rfl) (by kernel_rfl) (by kernel_rfl) (by intro _ _ _ h; exact h) (Or.inr ⟨by rfl, rfl⟩) (by assumption) ?_
  try simp only [Act.put, List.setIfInBounds_toArray, List.set_cons_zero, List.set_cons_succ]
  refine wpAnyH_take (i := 5) (v := undef) (by simp only [List.getElem?_toArray, List.getElem?_cons_zero, List.getElem?_cons_succ]; rfl) (by kernel_rfl) (by kernel_rfl) (by kernel_rfl) (by intro _ _ _ h; exact h) (Or.inr ⟨by rfl, rfl⟩) (by assumption) ?_
  try simp only [Act.put, List.setIfInBounds_toArray, List.set_cons_zero, List.set_cons_succ]
  refine wpAnyH_take (i := 6) (v := undef) (by simp only [List.getElem?_toArray, List.getElem?_cons_zero, List.getElem?_cons_succ]; rfl) (by kernel_rfl) (by kernel_rfl) (by kernel_rfl) (by intro _ _ _ h; exact h) (Or.inr ⟨by rfl, rfl⟩) (by assumption) ?_
  try simp only [Act.put, List.setIfInBounds_toArray, List.set_cons_zero, List.set_cons_succ]
  refine wpAnyH_take (i := 7) (v := ?_) (by simp only [List.getElem?_toArray, List.getElem?_cons_zero, List.getElem?_cons_succ]; rfl) (by kernel_rfl) (by kernel_rfl) (by kernel_rfl) (by intro _ _ _ h; exact h) (Or.inl ⟨by rfl, ?_⟩) (by assumption) ?_
  rotate_left
  · intro w hSw
    try dsimp only at hSw
    (go_simp <;> with_reducible rfl)
  try simp only [Act.put, List.setIfInBounds_toArray, List.set_cons_zero, List.set_cons_succ]
  refine wpAnyH_take (i := 8) (v := ?_) (by simp only [List.getElem?_toArray, List.getElem?_cons_zero, List.getElem?_cons_succ]; rfl) (by kernel_rfl) (by kernel_rfl) (by kernel_rfl) (by intro _ _ _ h; exact h) (Or.inl ⟨by rfl, ?_⟩) (by assumption) ?_
  rotate_left
  · intro w hSw
    try dsimp only at hSw
    (go_simp <;> with_reducible rfl)
  try simp only [Act.put, List.setIfInBounds_toArray, List.set_cons_zero, List.set_cons_succ]
  refine wpAnyH_take (i := 9) (v := undef) (by simp only [List.getElem?_toArray, List.getElem?_cons_zero, List.getElem?_cons_succ]; rfl) (by kernel_rfl) (by kernel_rfl) (by kernel_rfl) (by intro _ _ _ h; exact h) (Or.inr ⟨by rfl, rfl⟩) (by assumption) ?_
  try simp only [Act.put, List.setIfInBounds_toArray, List.set_cons_zero, List.set_cons_succ]
  refine wpAnyH_take (i := 10) (v := undef) (by simp only [List.getElem?_toArray, List.getElem?_cons_zero, List.getElem?_cons_succ]; rfl) (by kernel_rfl) (by kernel_rfl) (by kernel_rfl) (by intro _ _ _ h; exact h) (Or.inr ⟨by rfl, rfl⟩) (by assumption) ?_
  try simp only [Act.put, List.setIfInBounds_toArray, List.set_cons_zero, List.set_cons_succ]
  refine wpAnyH_take (i := 11) (v := undef) (by simp only [List.getElem?_toArray, List.getElem?_cons_zero, List.getElem?_cons_succ]; rfl) (by kernel_rfl) (by kernel_rfl) (by kernel_rfl) (by intro _ _ _ h; exact h) (Or.inr ⟨by rfl, rfl⟩) (by assumption) ?_
  try simp only [Act.put, List.setIfInBounds_toArray, List.set_cons_zero, List.set_cons_succ]
  refine wpAnyH_take (i := 12) (v := undef) (by simp only [List.getElem?_toArray, List.getElem?_cons_zero, List.getElem?_cons_succ]; rfl) (by kernel_rfl) (by kernel_rfl) (by kernel_rfl) (by intro _ _ _ h; exact h) (Or.inr ⟨by rfl, rfl⟩) (by assumption) ?_
  try simp only [Act.put, List.setIfInBounds_toArray, List.set_cons_zero, List.set_cons_succ]
  refine wpAnyH_take (i := 13) (v := undef) (by simp only [List.getElem?_toArray, List.getElem?_cons_zero, List.getElem?_cons_succ]; rfl) (by kernel_rfl) (by kernel_rfl) (by kernel_rfl) (by intro _ _ _ h; exact h) (Or.inr ⟨by rfl, rfl⟩) (by assumption) ?_
  try simp only [Act.put, List.setIfInBounds_toArray, List.set_cons_zero, List.set_cons_succ]
  refine wpAnyH_take (i := 14) (v := undef) (by simp only [List.getElem?_toArray, List.getElem?_cons_zero, List.getElem?_cons_succ]; rfl) (by kernel_rfl) (by kernel_rfl) (by kernel_rfl) (by intro _ _ _ h; exact h) (Or.inr ⟨by rfl, rfl⟩) (by assumption) ?_
  try simp only [Act.put, List.setIfInBounds_toArray, List.set_cons_zero, List.set_cons_succ]
  refine wpAnyH_take (i := 15) (v := undef) (by simp only [List.getElem?_toArray, List.getElem?_cons_zero, List.getElem?_cons_succ]; rfl) (by kernel_rfl) (by kernel_rfl) (by kernel_rfl) (by intro _ _ _ h; exact h) (Or.inr ⟨by rfl, rfl⟩) (by assumption) ?_
  try simp only [Act.put, List.setIfInBounds_toArray, List.set_cons_zero, List.set_cons_succ]
  refine wpAnyH_take (i := 16) (v := undef) (by simp only [List.getElem?_toArray, List.getElem?_cons_zero, List.getElem?_cons_succ]; rfl) (by kernel_rfl) (by kernel_rfl) (by kernel_rfl) (by intro _ _ _ h; exact h) (Or.inr ⟨by rfl, rfl⟩) (by assumption) ?_
  try simp only [Act.put, List.setIfInBounds_toArray, List.set_cons_zero, List.set_cons_succ]
  refine wpAnyH_take (i := 17) (v := undef) (by simp only [List.getElem?_toArray, List.getElem?_cons_zero, List.getElem?_cons_succ]; rfl) (by kernel_rfl) (by kernel_rfl) (by kernel_rfl) (by intro _ _ _ h; exact h) (Or.inr ⟨by rfl, rfl⟩) (by assumption) ?_
  try simp only [Act.put, List.setIfInBounds_toArray, List.set_cons_zero, List.set_cons_succ]
  refine wpAnyH_take (i := 18) (v := ?_) (by simp only [List.getElem?_toArray, List.getElem?_cons_zero, List.getElem?_cons_succ]; rfl) (by kernel_rfl) (by kernel_rfl) (by kernel_rfl) (by intro _ _ _ h; exact h) (Or.inl ⟨by rfl, ?_⟩) (by assumption) ?_
  rotate_left
  · intro w hSw
    try dsimp only at hSw
    (go_simp <;> with_reducible rfl)
  try simp only [Act.put, List.setIfInBounds_toArray, List.set_cons_zero, List.set_cons_succ]
  refine wpAnyH_take (i := 19) (v := ?_) (by simp only [List.getElem?_toArray, List.getElem?_cons_zero, List.getElem?_cons_succ]; rfl) (by kernel_rfl) (by kernel_rfl) (by kernel_rfl) (by intro _ _ _ h; exact h) (Or.inl ⟨by rfl, ?_⟩) (by assumption) ?_
  rotate_left
  · intro w hSw
    try dsimp only at hSw
    (go_simp <;> with_reducible rfl)
  try simp only [Act.put, List.setIfInBounds_toArray, List.set_cons_zero, List.set_cons_succ]
  refine wpAnyH_done (by kernel_rfl) ?_ _
  go_wp2_with fail
  go_returns
  exact ⟨rfl, (Below.refl _ _).drew⟩

theorem send_nil (a b : Int) (x : Value) (w : World) : Calls Try.prog 15 #[.pointer none, .int .i64 a, .int .i64 b, x] w fun e w' => e = .returned (.int .i64 1) ∧ w = w' := by
  go_enter Try.func15, Try.ntmps15
  go_wp2_with fail
  go_returns
  exact ⟨rfl, rfl⟩
theorem send_no (r : Nat) (nodes a b : Int) (x : Value) (w : World) (hc : w.cell? ⟨r, 0, none⟩ = some (.int .i64 nodes)) (hb : bothB nodes a b = false) :
    Calls Try.prog 15 #[.pointer (some ⟨r, 0, none⟩), .int .i64 a, .int .i64 b, x] w fun e w' => e = .returned (.int .i64 90) ∧ w = w' := by
  have HB := Lib.hid (both_any r nodes a b w hc)
  rw [hb] at HB
  clear hc hb
  go_enter Try.func15, Try.ntmps15
  go_wp2_with (go_at_call 23; refine HB.out.mono ?_; rintro e w' ⟨rfl, rfl⟩)
  go_returns
  exact ⟨rfl, rfl⟩

set_option maxRecDepth 100000 in
set_option maxHeartbeats 1000000 in
theorem send_off (B r mb : Nat) (v : Value) (nodes : Int) (ps : List Pkt) (n : Nat) (par : Int → Int → Bool) (a b : Int) (x : Value) (w : World) (h : NetAt w B r v mb nodes ps n par) (hn : nodes ≤ 65536)
    (hb : bothB nodes a b = true) (hp : par (min a b) (max a b) = true) :
    Calls Try.prog 15 #[.pointer (some ⟨r, 0, none⟩), .int .i64 a, .int .i64 b, x] w fun e w' => e = .returned (.int .i64 0) ∧ Below w.heap.size w w' := by
  have HB := Lib.hid (both_any r nodes a b w h.c0)
  rw [hb] at HB
  obtain ⟨ha0, ha1, hb0, hb1, hne⟩ := bothB_true hb
  have hwa : Wf (min a b) := wf_small (n := nodes) (by omega) (by omega) hn
  have hwb : Wf (max a b) := wf_small (n := nodes) (by omega) (by omega) hn
  obtain ⟨m, hm⟩ : ∃ m, m = min a b := ⟨_, rfl⟩
  obtain ⟨M, hM⟩ : ∃ M, M = max a b := ⟨_, rfl⟩
  have hpr := fun W => pair_any a b W
  rw [← hm] at hwa
  rw [← hM] at hwb
  simp only [← hm, ← hM] at hpr hp
  have HP := Lib.hid hpr
  have H := Lib.hid h
  have k2 : w.drew.cell? ⟨r, 2, none⟩ = some (.map (some mb)) := h.c2
  have l0 := (show MapIs w.drew mb n par from h.map).lookup m M hwa hwb
  have HPP := Lib.hid hp
  rw [hp] at l0
  clear hb h ha0 ha1 hb0 hb1 hne hm hM hpr hp
  go_enter Try.func15, Try.ntmps15
  go_wp2_with (go_at_call 23; refine HB.out.mono ?_; rintro e w' ⟨rfl, rfl⟩)
  go_region_held3 (fun w' => w'.cell? ⟨r, 2, none⟩ = some (.map (some mb)) ∧ (Instr.lookup 62 (.map (some mb)) (kv m M) false).run Try.prog w' = .ok (.bool true) w')
    (first | exact ⟨j2, l1⟩ | exact ⟨k2, l0⟩)
    (first
      | (go_at_call 24; refine (HP.out _).mono ?_; rintro e w1 ⟨rfl, bel⟩; (have N1 := H.out.drew.below bel); (have j2 := N1.c2); (have l1 := N1.map.lookup m M hwa hwb); (rw [HPP.out] at l1); (have BEL := Lib.hid bel); clear N1 bel))
  go_wp2_with fail
  go_returns
  exact ⟨rfl, (((Below.refl _ _).drew).trans BEL.out)⟩

theorem NetAt.grown_cell {w w3 : World} {B r mb : Nat} {v : Value} {nodes : Int} {ps : List Pkt} {n : Nat} {par : Int → Int → Bool} (h : NetAt w B r v mb nodes ps n par) (hg : w.grownBy w3 v.ownBlock) :
    w3.cell? ⟨r, 1, none⟩ = some v ∧ w3.frozen? ⟨r, 1, none⟩ = false := by
  obtain ⟨n1, n2, n3⟩ := h.row_ne
  have hblk : w3.heap[r]? = some (Obj.cells #[.int .i64 nodes, v, .map (some mb)] 64 (0, 0)) := by rw [hg.block r h.lt (Ne.symm n1)]; exact h.blk
  exact ⟨by rw [cell_of_row w3 r 1 _ _ _ hblk]; rfl, free_at hblk 1⟩
theorem pcells_snoc (ps : List Pkt) (p : Pkt) : pcells (ps ++ [p]) = pcells ps ++ p.cells := by rw [pcells_append]; simp [pcells]
theorem new_cells (W : World) (cs : Array Value) (t : TypeId) (B : Nat) (hB : W.heap.size < B) : Rd (W.alloc (.cells cs t)) B (some ⟨W.heap.size, 0, none⟩) cs.toList := by
  refine .inr ⟨_, 0, rfl, hB, fun j x hj => ?_⟩
  rw [cell_of_row _ _ _ _ t (0, 0) (heap_alloc_new W _), Nat.zero_add]
  simpa using hj

theorem sent_fin {w w1 w2 w3 : World} {B r mb : Nat} {v : Value} {nodes : Int} {ps : List Pkt} {n : Nat} {par : Int → Int → Bool} {a b : Int} {A' A3 : Option Addr} {k c' c3 : Nat} {l : List UInt8} (hB : B ≤ w.heap.size)
    (bel : Below w.heap.size w w1) (N1 : NetAt w1 B r v mb nodes ps n par) (bel2 : Below w1.heap.size w1 w2) (own : w2.ownsRow w1.heap.size 5 1 (.slice A' k c') k (bv l))
    (own3 : w3.ownsRow B 36 3 (.slice A3 (ps.length + 1) c3) (ps.length + 1) (pcells ps ++ [.int .i64 a, .int .i64 b, .slice A' k c']))
    (gr3 : (w2.alloc (Obj.cells #[.int .i64 a, .int .i64 b, .slice A' k c'] 36)).grownBy w3 v.ownBlock) (hl : l.length = k) :
    NetAt (w3.setCell ⟨r, 1, none⟩ (.slice A3 (ps.length + 1) c3)) B r (.slice A3 (ps.length + 1) c3) mb nodes (ps ++ [⟨a, b, A', c', l⟩]) n par ∧ Turn B w (w3.setCell ⟨r, 1, none⟩ (.slice A3 (ps.length + 1) c3)) ∧
      (w3.setCell ⟨r, 1, none⟩ (.slice A3 (ps.length + 1) c3)).ownsRow w.heap.size 5 1 (.slice A' k c') k (bv l) := by
  subst hl
  have hs1 := bel.size
  have hs2 := bel2.size
  have bel3 : Below w2.heap.size w2 (w2.alloc (Obj.cells #[.int .i64 a, .int .i64 b, .slice A' l.length c'] 36)) := (Below.refl _ _).alloc (Nat.le_refl _) _
  have N2 := (N1.below bel2).below bel3
  have own2 := own_keepN own bel3
  obtain ⟨h1, h2⟩ := N2.turned (ps' := ps ++ [⟨a, b, A', c', l⟩]) gr3 (by
    rw [List.length_append, pcells_snoc]
    exact own3) (fun p hp => by
      rcases List.mem_append.1 hp with hp | hp
      · exact N2.bod p hp
      · have : p = ⟨a, b, A', c', l⟩ := by simpa using hp
        subst this
        exact own_baseN own2 (by omega))
  have h2 := h2 (by simp; omega)
  refine ⟨h1, ?_, own_quiet (own_baseN own2 hs1) h2.quiet (by decide) (by decide)⟩
  exact ((Turn.of_below bel hB).trans (Turn.of_below bel2 (by omega))).trans ((Turn.of_below bel3 (by omega)).trans h2)

set_option maxRecDepth 100000 in
set_option maxHeartbeats 1000000 in
theorem send_on (B r mb : Nat) (v : Value) (nodes : Int) (ps : List Pkt) (n : Nat) (par : Int → Int → Bool) (a b : Int) (A : Option Addr) (l : List UInt8) (k cap Bb : Nat) (w : World) (h : NetAt w B r v mb nodes ps n par) (hn : nodes ≤ 65536)
    (hB : B ≤ w.heap.size) (hps : ps.length ≤ 1000000) (hl : l.length = k) (hk : k ≤ 1000000) (hrd : Rd w Bb A (bv l)) (hb : bothB nodes a b = true) (hp : par (min a b) (max a b) = false) :
    Calls Try.prog 15 #[.pointer (some ⟨r, 0, none⟩), .int .i64 a, .int .i64 b, .slice A k cap] w fun e w' => e = .returned (.int .i64 0) ∧
      ∃ v' A' c', NetAt w' B r v' mb nodes (ps ++ [⟨a, b, A', c', l⟩]) n par ∧ Turn B w w' ∧ w'.ownsRow w.heap.size 5 1 (.slice A' k c') k (bv l) := by
  obtain ⟨i0, hi, hz0, hz1, hz2⟩ := info_parts info36
  have HB := Lib.hid (both_any r nodes a b w h.c0)
  rw [hb] at HB
  obtain ⟨ha0, ha1, hb0, hb1, hne⟩ := bothB_true hb
  have hwa : Wf (min a b) := wf_small (n := nodes) (by omega) (by omega) hn
  have hwb : Wf (max a b) := wf_small (n := nodes) (by omega) (by omega) hn
  obtain ⟨m, hm⟩ : ∃ m, m = min a b := ⟨_, rfl⟩
  obtain ⟨M, hM⟩ : ∃ M, M = max a b := ⟨_, rfl⟩
  have hpr := fun W => pair_any a b W
  rw [← hm] at hwa
  rw [← hM] at hwb
  simp only [← hm, ← hM] at hpr hp
  have HP := Lib.hid hpr
  have H := Lib.hid h
  have HRD := Lib.hid hrd
  have HO := Lib.hid (fun W (h : Rd W Bb A (bv l)) => own_any a b A l k cap Bb W h hl (by omega))
  unfold Owned at HO
  have k2 : w.drew.cell? ⟨r, 2, none⟩ = some (.map (some mb)) := h.c2
  have l0 := (show MapIs w.drew mb n par from h.map).lookup m M hwa hwb
  have HPP := Lib.hid hp
  have HL := Lib.hid hl
  rw [hp] at l0
  clear hb h ha0 ha1 hb0 hb1 hne hm hM hpr hp hrd hl
  go_enter Try.func15, Try.ntmps15
  go_wp2_with (go_at_call 23; refine HB.out.mono ?_; rintro e w' ⟨rfl, rfl⟩)
  go_region_held3 (fun w' => w'.cell? ⟨r, 2, none⟩ = some (.map (some mb)) ∧ (Instr.lookup 62 (.map (some mb)) (kv m M) false).run Try.prog w' = .ok (.bool false) w')
    (first | exact ⟨j2, l1⟩ | exact ⟨k2, l0⟩)
    (first
      | (go_at_call 24; refine (HP.out _).mono ?_; rintro e w1 ⟨rfl, bel⟩; (have N1 := H.out.drew.below bel); (have j2 := N1.c2); (have l1 := N1.map.lookup m M hwa hwb); (rw [HPP.out] at l1); (have BEL := Lib.hid bel); (have HN1 := Lib.hid N1); clear N1 bel))
  go_wp2_with fail
  clear k2 l0 j2 l1
  have j1 : w1.drew.cell? ⟨r, 1, none⟩ = some v := HN1.out.c1
  have hrow := HN1.out.own
  have hsz : w.heap.size ≤ w1.heap.size := BEL.out.size
  have HRD1 := Lib.hid ((HRD.out.drew.size BEL.out).drew)
  have HROW := Lib.hid hrow
  clear hrow
  go_region_law (first
    | (go_simp; go_at_call 22; refine (HO.out _ HRD1.out).mono ?_; rintro e w2 ⟨A', c', rfl, own, bel⟩; (have N2 := HN1.out.drew.below bel); (have j1' := N2.c1); (have j1n : (w2.alloc (Obj.cells #[Value.int IntKind.i64 a, Value.int IntKind.i64 b, Value.slice A' k c'] 36)).cell? ⟨r, 1, none⟩ = some v := (N2.below ((Below.refl _ _).alloc (Nat.le_refl _) _)).c1); (have f1' := N2.fr 1); (have HN2 := Lib.hid N2); (have OWN := Lib.hid own); (have BEL2 := Lib.hid bel); clear N2 own bel; go_wp2_with fail)
    | ((refine stepH_appN _ rfl (.tmp 31) (.tmp 37) 54 rfl B 36 i0 _ 3 40 Try.underlying54 hi hz0 hz1 hz2 rfl (by decide) v ps.length (pcells ps) rfl (HN2.out.own.alloc _) (w2.heap.size + 1) (some ⟨w2.heap.size, 0, none⟩) 1 1 [.int .i64 a, .int .i64 b, .slice A' k c'] rfl rfl (new_cells w2 _ _ _ (by omega)) (by simp [Value.oneCell']) (by unfold maxLen; omega) (by omega) (by have := HN2.out.hr; have := HN2.out.lt; simp; omega) ?_); intro v' w3 own3 gr3 at3; obtain ⟨A3, c3, rfl, hc3, hc3m, _⟩ := own_sliceN own3; (have j3 := (HN2.out.below ((Below.refl _ _).alloc (Nat.le_refl _) _)).grown_cell gr3); (have j3c := j3.1); (have j3f := j3.2); (have OWN3 := Lib.hid own3); (have GR3 := Lib.hid gr3); clear j3 own3 gr3 at3))
  all_goals go_wp2_with fail
  all_goals go_returns
  all_goals exact ⟨rfl, _, A', c', sent_fin hB (((Below.refl _ _).drew).trans BEL.out) HN1.out (((Below.refl _ _).drew).trans BEL2.out) OWN.out OWN3.out GR3.out HL.out⟩
end Go.Proofs.Ytgdcnmicdhimhaa
