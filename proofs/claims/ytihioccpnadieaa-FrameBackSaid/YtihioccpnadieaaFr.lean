/- Contracts of package frame and of its reference, but for Split. -/
import Derived.Test.YtihioccpnadieaaSu
import Derived.Test.YtihioccpnadieaaPq
import Derived.Deep.QuietTactic
import Derived.BigQuiet
import Derived.Lib.SliceRun
namespace Go.Proofs.Ytihioccpnadieaa
open Go.RowKit
set_option linter.unusedVariables false

theorem or_up (i a x : Nat) (ha : a < 2 ^ i) (hx : x % 2 ^ i = 0) (h2 : 2 ^ i ≤ 4294967296) (hl : x < 4294967296) : bits .or .u32 (a : Int) (x : Int) = ((a + x : Nat) : Int) := by
  rw [u32_or_nat _ _ (by omega) hl, Nat.or_comm, nat_join i x a hx ha, Nat.add_comm]

theorem or4 (x0 x1 x2 x3 : Nat) (h0 : x0 < 2 ^ 8) (h1 : x1 < 2 ^ 8) (h2 : x2 < 2 ^ 8) (h3 : x3 < 2 ^ 8) :
    bits .or .u32 (bits .or .u32 (bits .or .u32 (x0 : Int) ((x1 : Int) * 256)) ((x2 : Int) * 65536)) ((x3 : Int) * 16777216) = ((x0 + 256 * x1 + 65536 * x2 + 16777216 * x3 : Nat) : Int) := by
  rw [show ((x1 : Int) * 256) = ((256 * x1 : Nat) : Int) from by omega, show ((x2 : Int) * 65536) = ((65536 * x2 : Nat) : Int) from by omega, show ((x3 : Int) * 16777216) = ((16777216 * x3 : Nat) : Int) from by omega]
  rw [or_up 8 _ _ (by omega) (by omega) (by decide) (by omega), or_up 16 _ _ (by omega) (by omega) (by decide) (by omega), or_up 24 _ _ (by omega) (by omega) (by decide) (by omega)]

theorem number_any (b off cap : Nat) (l : List UInt8) (w : World) (h4 : 4 ≤ l.length) (hc : ∀ j, j < l.length → w.cell? ⟨b, off + j, none⟩ = some (.int .u8 ((l.getD j 0).toNat : Int))) :
    Calls Try.prog 26 #[.slice (some ⟨b, off, none⟩) l.length cap] w fun e w' => e = .returned (.int .u32 (num4 l : Nat)) ∧ ∃ n, w' = w.drewN n := by
  have c0 := hc 0 (by omega)
  have c1 := hc 1 (by omega)
  have c2 := hc 2 (by omega)
  have c3 := hc 3 (by omega)
  rw [Nat.add_zero] at c0
  have l0 : (0 : Int) < (l.length : Int) := by omega
  have l1 : (1 : Int) < (l.length : Int) := by omega
  have l2 : (2 : Int) < (l.length : Int) := by omega
  have l3 : (3 : Int) < (l.length : Int) := by omega
  have hb0 := (l.getD 0 0).toNat_lt
  have hb1 := (l.getD 1 0).toNat_lt
  have hb2 := (l.getD 2 0).toNat_lt
  have hb3 := (l.getD 3 0).toNat_lt
  have hn : num4 l = (l.getD 0 0).toNat + 256 * (l.getD 1 0).toNat + 65536 * (l.getD 2 0).toNat + 16777216 * (l.getD 3 0).toNat := rfl
  have HN := Lib.hid hn
  clear hn hc
  generalize (l.getD 0 0).toNat = x0 at *
  generalize (l.getD 1 0).toNat = x1 at *
  generalize (l.getD 2 0).toNat = x2 at *
  generalize (l.getD 3 0).toNat = x3 at *
  go_enter Try.func26, Try.ntmps26
  go_wp2
  go_quiet (fail)
  go_wp2
  go_returns
  refine ⟨ret_int (v := .int .u32 (bits .or .u32 (bits .or .u32 (bits .or .u32 (x0 : Int) ((x1 : Int) * 256)) ((x2 : Int) * 65536)) ((x3 : Int) * 16777216))) ?_, _, rfl⟩
  rw [or4 _ _ _ _ hb0 hb1 hb2 hb3, HN.out]

theorem rnumber_any (b off cap : Nat) (l : List UInt8) (w : World) (h4 : 4 ≤ l.length) (hc : ∀ j, j < l.length → w.cell? ⟨b, off + j, none⟩ = some (.int .u8 ((l.getD j 0).toNat : Int))) :
    Calls Try.prog 24 #[.slice (some ⟨b, off, none⟩) l.length cap] w fun e w' => e = .returned (.int .i64 (num4 l : Nat)) ∧ ∃ n, w' = w.drewN n := by
  have c0 := hc 0 (by omega)
  have c1 := hc 1 (by omega)
  have c2 := hc 2 (by omega)
  have c3 := hc 3 (by omega)
  rw [Nat.add_zero] at c0
  have l0 : (0 : Int) < (l.length : Int) := by omega
  have l1 : (1 : Int) < (l.length : Int) := by omega
  have l2 : (2 : Int) < (l.length : Int) := by omega
  have l3 : (3 : Int) < (l.length : Int) := by omega
  have hb0 := (l.getD 0 0).toNat_lt
  have hb1 := (l.getD 1 0).toNat_lt
  have hb2 := (l.getD 2 0).toNat_lt
  have hb3 := (l.getD 3 0).toNat_lt
  have hn : num4 l = (l.getD 0 0).toNat + 256 * (l.getD 1 0).toNat + 65536 * (l.getD 2 0).toNat + 16777216 * (l.getD 3 0).toNat := rfl
  have HN := Lib.hid hn
  clear hn hc
  generalize (l.getD 0 0).toNat = x0 at *
  generalize (l.getD 1 0).toNat = x1 at *
  generalize (l.getD 2 0).toNat = x2 at *
  generalize (l.getD 3 0).toNat = x3 at *
  go_enter Try.func24, Try.ntmps24
  go_wp2
  go_quiet (fail)
  go_wp2
  go_returns
  exact ⟨ret_int (v := .int .i64 ((x0 : Int) + 256 * (x1 : Int) + 65536 * (x2 : Int) + 16777216 * (x3 : Int))) (by rw [HN.out]; go_num), _, rfl⟩

theorem four_cells (n : Nat) (hn : n < 4294967296) : bv (le4 n) = [.int .u8 ((n : Int) % 256), .int .u8 ((n : Int) / 256 % 256), .int .u8 ((n : Int) / 65536 % 256), .int .u8 ((n : Int) / 16777216)] := by
  simp only [bv, le4, List.map_cons, List.map_nil, ofNat_byte]
  refine congr (congrArg List.cons (by go_num)) (congr (congrArg List.cons (by go_num)) (congr (congrArg List.cons (by go_num)) (congr (congrArg List.cons (by go_num)) rfl)))

theorem four_any (n : Nat) (hn : n < 4294967296) (w : World) :
    Calls Try.prog 20 #[.int .u32 (n : Int)] w fun e w' => e = .returned (.slice (some ⟨w.heap.size, 0, none⟩) 4 4) ∧ w' = w.alloc (.cells (bv (le4 n)).toArray 5) := by
  rw [four_cells n hn]
  go_enter Try.func20, Try.ntmps20
  go_wp2
  go_returns
  exact ⟨rfl, rfl⟩

theorem rfour_any (n : Nat) (hn : n < 4294967296) (w : World) :
    Calls Try.prog 21 #[.int .u32 (n : Int)] w fun e w' => e = .returned (.slice (some ⟨w.heap.size, 0, none⟩) 4 4) ∧ w' = w.alloc (.cells (bv (le4 n)).toArray 5) := by
  rw [four_cells n hn]
  go_enter Try.func21, Try.ntmps21
  go_wp2
  go_returns
  exact ⟨rfl, rfl⟩

theorem info5 : (Try.prog.info? 5).map (fun i => (i.zero, i.size, i.bytes)) = some (some (.int .u8 0), 1, 1) := by kernel_rfl

theorem clone_nil (w : World) : Calls Try.prog 23 #[.slice none 0 0] w fun e w' => e = .returned (.slice none 0 0) ∧ w = w' := by
  have hq := fun (w : World) => Lib.run_eql_slice_nil (P := Try.prog) w 22 5 none 0 0 0 0 Try.underlying22
  go_enter Try.func23, Try.ntmps23
  go_wp2
  go_returns
  exact ⟨rfl, rfl⟩

/-- The clone of a slice that is not nil: a row of its own. -/
theorem clone_some (x : Addr) (l : List UInt8) (cap : Nat) (B : Nat) (w : World) (h : Rd w B (some x) (bv l)) (hlen : l.length ≤ 140737488355328) :
    Calls Try.prog 23 #[.slice (some x) l.length cap] w fun e w' => ∃ v, e = .returned v ∧ w'.ownsRow w.heap.size 5 1 v l.length (bv l) ∧ Below w.heap.size w w' := by
  obtain ⟨i0, hi, hz0, hz1, hz2⟩ := info_parts info5
  have hq := fun (w : World) => Lib.run_eql_slice_nil (P := Try.prog) w 22 5 (some x) l.length cap 0 0 Try.underlying22
  go_enter Try.func23, Try.ntmps23
  go_wp2_with (at_builtin; refine wpList_app _ rfl (.tmp 5) (.tmp 6) 22 rfl w.heap.size 5 i0 (.int .u8 0) 1 Try.underlying22 hi hz0 hz1 hz2 rfl (.slice (some ⟨w.heap.size, 0, none⟩) 0 0) 0 [] rfl (World.ownsRow_made w #[] 0 (Nat.le_refl _) (by unfold maxLen; omega) rfl) B (some x) l.length cap (bv l) rfl (bv_length l) (h.alloc _) (bv_one l) (by unfold maxLen; omega) (by omega) (by simp) ?_; intro v' w1 hown hg hat hne)
  go_returns
  refine ⟨v', rfl, by simpa using hown, ?_⟩
  exact ((Below.refl _ _).alloc (Nat.le_refl _) _).grown hg (by simp) (fun k hk => by have : w.heap.size = k := by { simpa [Value.ownBlock] using hk }; omega)

theorem ret2 {v v' u u' : Value} (h : v = v') (h' : u = u') : Ending.returned (.tuple #[v, u]) = .returned (.tuple #[v', u']) := by rw [h, h']

/-- What 'first' answers, whatever it drew. -/
def First (b : List UInt8) (w : World) (e : Ending) (w' : World) : Prop := e = .returned (.tuple #[.int .i64 ((firstOf b).1 : Nat), .int .i64 ((firstOf b).2 : Nat)]) ∧ ∃ n, w' = w.drewN n

theorem first_short (A : Option Addr) (l : List UInt8) (cap : Nat) (w : World) (h : l.length < 4) : Calls Try.prog 22 #[.slice A l.length cap] w (First l w) := by
  have hf : firstOf l = (0, 10) := by unfold firstOf; rw [if_pos h]
  have HF := Lib.hid hf
  clear hf
  go_enter Try.func22, Try.ntmps22
  go_wp2
  go_returns
  exact ⟨by rw [HF.out]; rfl, 0, rfl⟩

theorem first_long (b off : Nat) (l : List UInt8) (cap : Nat) (w : World) (h : 4 ≤ l.length) (hlen : l.length ≤ cap) (hcap : cap ≤ 9223372036854775807)
    (hc : ∀ j, j < l.length → w.cell? ⟨b, off + j, none⟩ = some (.int .u8 ((l.getD j 0).toNat : Int))) : Calls Try.prog 22 #[.slice (some ⟨b, off, none⟩) l.length cap] w (First l w) := by
  have HC := Lib.hid hc
  have hN := number_any b off cap l w h hc
  have HN := Lib.hid hN
  have hnl := num4_lt l
  clear hc hN
  by_cases h1 : 4194304 < num4 l
  · have hf : firstOf l = (0, 11) := by unfold firstOf; rw [if_neg (by omega), if_pos h1]
    have HF := Lib.hid hf
    clear hf
    go_enter Try.func22, Try.ntmps22
    go_wp2_with (go_at_call 26; refine HN.out.mono ?_; rintro e w' ⟨rfl, n, rfl⟩)
    go_returns
    exact ⟨by rw [HF.out]; rfl, n, rfl⟩
  · by_cases h2 : l.length < num4 l + 8
    · have hf : firstOf l = (0, 10) := by unfold firstOf; rw [if_neg (by omega), if_neg h1, if_pos h2]
      have HF := Lib.hid hf
      clear hf
      go_enter Try.func22, Try.ntmps22
      go_wp2_with (go_at_call 26; refine HN.out.mono ?_; rintro e w' ⟨rfl, n, rfl⟩)
      go_returns
      exact ⟨by rw [HF.out]; rfl, n, rfl⟩
    · obtain ⟨m, hm⟩ : ∃ m, m = num4 l := ⟨_, rfl⟩
      have HM := Lib.hid hm
      rw [← hm] at h1 h2 hnl HN
      clear hm
      go_enter Try.func22, Try.ntmps22
      go_wp2_with (go_at_call 26; refine HN.out.mono ?_; rintro e w' ⟨rfl, n, rfl⟩)
      have k1 : (0 : Int) ≤ (m : Int) + 4 := by omega
      have k2 : (m : Int) + 4 ≤ (l.length : Int) := by omega
      have k3 : (m : Int) + 4 ≤ (cap : Int) := by omega
      have k4 : ((m : Int) + 4).toNat = m + 4 := by omega
      have k5 : ¬ cap = m + 4 := by omega
      generalize hW : w.drewN n = W
      have hcW : ∀ j, j < l.length → W.cell? ⟨b, off + j, none⟩ = some (.int .u8 ((l.getD j 0).toNat : Int)) := fun j hj => by rw [← hW]; exact HC.out j hj
      have HCW := Lib.hid hcW
      have HW := Lib.hid hW
      have n1 : (l.drop (m + 4)).length = l.length - (m + 4) := by simp
      have n2 : (l.take (m + 4)).length = m + 4 := by simp; omega
      have hA : ∀ k, Calls Try.prog 26 #[.slice (some ⟨b, off + (m + 4), none⟩) (l.length - (m + 4)) (cap - (m + 4))] (W.drewN k) fun e w' => e = .returned (.int .u32 (num4 (l.drop (m + 4)) : Nat)) ∧ ∃ n, w' = (W.drewN k).drewN n := by
        intro k
        rw [← n1]
        refine number_any b (off + (m + 4)) _ (l.drop (m + 4)) _ (by rw [n1]; omega) fun j hj => ?_
        rw [Nat.add_assoc, List.getD_eq_getElem?_getD, List.getElem?_drop, ← List.getD_eq_getElem?_getD]
        exact HCW.out (m + 4 + j) (by omega)
      have hB : ∀ k, Calls Try.prog 11 #[.slice (some ⟨b, off, none⟩) (m + 4) cap] (W.drewN k) fun e w' => e = .returned (.int .u32 (sumOf (l.take (m + 4)) : Nat)) ∧ w' = W.drewN k := by
        intro k
        have := sum_some b off (l.take (m + 4)) cap (W.drewN k) (by omega) (fun j hj => by
          rw [n2] at hj
          rw [List.getD_eq_getElem?_getD, List.getElem?_take, if_pos hj, ← List.getD_eq_getElem?_getD]
          exact HCW.out j (by omega))
        rw [n2] at this
        exact this.mono fun _ _ h => ⟨h.1, h.2.symm⟩
      have HA := Lib.hid hA
      have HB := Lib.hid hB
      clear hA hB n1 n2 hW hcW
      obtain ⟨x, hx⟩ : ∃ x, x = num4 (l.drop (m + 4)) := ⟨_, rfl⟩
      obtain ⟨y, hy⟩ : ∃ y, y = sumOf (l.take (m + 4)) := ⟨_, rfl⟩
      rw [← hx] at HA
      rw [← hy] at HB
      have HX := Lib.hid hx
      have HY := Lib.hid hy
      clear hx hy
      by_cases hxy : x = y
      · have hf : firstOf l = (m + 8, 0) := by
          have h2' := h2
          have h1' := h1
          unfold firstOf
          rw [HM.out] at h1' h2' ⊢
          rw [if_neg (by omega), if_neg h1', if_neg h2', ← HM.out, ← HX.out, ← HY.out, if_pos hxy]
        have HF := Lib.hid hf
        have e1 : ((x : Int) != (y : Int)) = false := by simp; omega
        clear hf hxy
        go_quiet ((first | (go_at_call 26; exact Calls.quiet_of (HA.out _)) | (go_at_call 11; exact Calls.quiet_of_same (HB.out _))))
        go_wp2
        go_returns
        refine ⟨ret2 (v := .int .i64 ((m : Int) + 4 + 4)) (u := .int .i64 0) ?_ ?_, n + nq, by rw [← HW.out, World.drewN_drewN]⟩
        · rw [HF.out]; go_num
        · rw [HF.out]; rfl
      · have hf : firstOf l = (0, 12) := by
          have h2' := h2
          have h1' := h1
          unfold firstOf
          rw [HM.out] at h1' h2'
          rw [if_neg (by omega), if_neg h1', if_neg h2', ← HM.out, ← HX.out, ← HY.out, if_neg hxy]
        have HF := Lib.hid hf
        have e1 : ((x : Int) != (y : Int)) = true := by simp; omega
        clear hf hxy
        go_quiet ((first | (go_at_call 26; exact Calls.quiet_of (HA.out _)) | (go_at_call 11; exact Calls.quiet_of_same (HB.out _))))
        go_wp2
        go_returns
        refine ⟨ret2 (v := .int .i64 0) (u := .int .i64 12) ?_ ?_, n + nq, by rw [← HW.out, World.drewN_drewN]⟩
        · rw [HF.out]; rfl
        · rw [HF.out]; rfl

theorem first_any (A : Option Addr) (B : Nat) (l : List UInt8) (cap : Nat) (w : World) (h : Rd w B A (bv l)) (hlen : l.length ≤ cap) (hcap : cap ≤ 9223372036854775807) : Calls Try.prog 22 #[.slice A l.length cap] w (First l w) := by
  by_cases h4 : l.length < 4
  · exact first_short A l cap w h4
  · obtain ⟨b, off, rfl, _, hc⟩ := h.at_ (fun e => by have := congrArg List.length e; rw [bv_length] at this; simp only [List.length_nil] at this; omega)
    exact first_long b off l cap w (by omega) hlen hcap fun j hj => hc j _ (bv_get _ j hj)

/-- What a frame's maker answers: a row of its own that holds the frame. -/
def Made (l : List UInt8) (w : World) (e : Ending) (w' : World) : Prop :=
  ∃ g cap, e = .returned (.tuple #[.slice (some ⟨g, 0, none⟩) (l.length + 8) cap, .int .i64 0]) ∧ w'.ownsRow w.heap.size 5 1 (.slice (some ⟨g, 0, none⟩) (l.length + 8) cap) (l.length + 8) (bv (frameOf l)) ∧ Below w.heap.size w w'

theorem frame_big (A : Option Addr) (n cap : Nat) (w : World) (h : 4194304 < n) : Calls Try.prog 13 #[.slice A n cap] w fun e w' => e = .returned (.tuple #[.slice none 0 0, .int .i64 81]) ∧ w = w' := by
  go_enter Try.func13, Try.ntmps13
  go_wp2
  go_returns
  exact ⟨rfl, rfl⟩

set_option maxHeartbeats 400000 in
theorem frame_any (A : Option Addr) (B : Nat) (l : List UInt8) (cap : Nat) (w : World) (h : Rd w B A (bv l)) (hl : l.length ≤ 4194304) : Calls Try.prog 13 #[.slice A l.length cap] w (Made l w) := by
  obtain ⟨i0, hi, hz0, hz1, hz2⟩ := info_parts info5
  have hS : ∀ (W : World) (g c B : Nat), Rd W B (some ⟨g, 0, none⟩) (bv (le4 l.length) ++ bv l) → Calls Try.prog 11 #[.slice (some ⟨g, 0, none⟩) (4 + l.length) c] W fun e w' => e = .returned (.int .u32 (sumOf (le4 l.length ++ l) : Nat)) ∧ W = w' := by
    intro W g c B hr
    have := sum_any (some ⟨g, 0, none⟩) B (le4 l.length ++ l) c W (by rw [bv_append]; exact hr) (by simp [le4_length]; omega)
    rwa [List.length_append, le4_length] at this
  have HS := Lib.hid hS
  have hF : ∀ W, Calls Try.prog 20 #[.int .u32 (sumOf (le4 l.length ++ l) : Nat)] W fun e w' => e = .returned (.slice (some ⟨W.heap.size, 0, none⟩) 4 4) ∧ w' = W.alloc (.cells (bv (le4 (sumOf (le4 l.length ++ l)))).toArray 5) := fun W => four_any _ (by have := sumOf_le (le4 l.length ++ l); omega) W
  have HF := Lib.hid hF
  clear hS hF
  go_enter Try.func13, Try.ntmps13
  go_wp2_with fail
  refine (four_any l.length (by omega) _).mono ?_
  rintro e w1 ⟨rfl, hw1⟩
  have own1 : w1.ownsRow w.heap.size 5 1 (.slice (some ⟨w.heap.size, 0, none⟩) 4 4) 4 (bv (le4 l.length)) := by
    rw [hw1]
    exact World.ownsRow_lit w (bv (le4 l.length)).toArray 4 (Nat.le_refl _) (by unfold maxLen; omega) rfl
  have bel1 : Below w.heap.size w w1 := by rw [hw1]; exact (Below.refl _ _).alloc (Nat.le_refl _) _
  have rd1 : Rd w1 B A (bv l) := by rw [hw1]; exact h.alloc _
  clear hw1 h
  go_wp2_with (at_builtin; refine wpList_app _ rfl (.tmp 11) (.tmp 12) 22 rfl w.heap.size 5 i0 (.int .u8 0) 1 Try.underlying22 hi hz0 hz1 hz2 rfl (.slice (some ⟨w.heap.size, 0, none⟩) 4 4) 4 (bv (le4 l.length)) rfl own1 B A l.length cap (bv l) rfl (bv_length l) rd1 (bv_one l) (by unfold maxLen; omega) (by omega) bel1.size ?_; intro v2 w2 own2 gr2 at2 ne2; obtain ⟨b2, c2, rfl, hb2, hl2⟩ := own2.form (by omega))
  have bel2 : Below w.heap.size w w2 := bel1.grown gr2 bel1.size (fun k hk => by have : w.heap.size = k := by { simpa [Value.ownBlock] using hk }; omega)
  clear gr2 at2 ne2
  refine (HS.out _ b2 c2 _ (Rd.of_own own2)).mono ?_
  rintro e w3 ⟨rfl, rfl⟩
  go_wp2_with fail
  refine (HF.out _).mono ?_
  rintro e w3 ⟨rfl, hw3⟩
  have own3 : w3.ownsRow w.heap.size 5 1 (.slice (some ⟨b2, 0, none⟩) (4 + l.length) c2) (4 + l.length) (bv (le4 l.length) ++ bv l) := by rw [hw3]; exact own2.alloc _
  have bel3 : Below w.heap.size w w3 := by rw [hw3]; exact bel2.alloc bel2.size _
  have rd3 : Rd w3 w3.heap.size (some ⟨w2.heap.size, 0, none⟩) (bv (le4 (sumOf (le4 l.length ++ l)))) := by
    rw [hw3]
    exact Rd.of_own (World.ownsRow_lit w2 (bv (le4 (sumOf (le4 l.length ++ l)))).toArray 4 (Nat.le_refl _) (by unfold maxLen; omega) rfl)
  clear hw3
  go_wp2_with (at_builtin; refine wpList_app _ rfl (.tmp 14) (.tmp 17) 22 rfl w.heap.size 5 i0 (.int .u8 0) 1 Try.underlying22 hi hz0 hz1 hz2 rfl (.slice (some ⟨b2, 0, none⟩) (4 + l.length) c2) (4 + l.length) (bv (le4 l.length) ++ bv l) rfl own3 w3.heap.size (some ⟨w2.heap.size, 0, none⟩) 4 4 (bv (le4 (sumOf (le4 l.length ++ l)))) rfl rfl rd3 (bv_one _) (by unfold maxLen; omega) (by omega) bel3.size ?_; intro v4 w4 own4 gr4 at4 ne4; obtain ⟨b4, c4, rfl, hb4, hl4⟩ := own4.form (by omega))
  go_returns
  have e8 : 4 + l.length + 4 = l.length + 8 := by omega
  refine ⟨b4, c4, ret2 (v := .slice (some ⟨b4, 0, none⟩) (4 + l.length + 4) c4) (u := .int .i64 0) (by rw [e8]) rfl, ?_, bel3.grown gr4 bel3.size (fun k hk => by have : b2 = k := by { simpa [Value.ownBlock] using hk }; omega)⟩
  rw [e8] at own4
  simpa [frameOf, bv_append] using own4

theorem rframe_big (A : Option Addr) (n cap : Nat) (w : World) (h : 4194304 < n) : Calls Try.prog 14 #[.slice A n cap] w fun e w' => e = .returned (.tuple #[.slice none 0 0, .int .i64 81]) ∧ w = w' := by
  go_enter Try.func14, Try.ntmps14
  go_wp2
  go_returns
  exact ⟨rfl, rfl⟩

set_option maxHeartbeats 400000 in
theorem rframe_any (A : Option Addr) (B : Nat) (l : List UInt8) (cap : Nat) (w : World) (h : Rd w B A (bv l)) (hl : l.length ≤ 4194304) : Calls Try.prog 14 #[.slice A l.length cap] w (Made l w) := by
  obtain ⟨i0, hi, hz0, hz1, hz2⟩ := info_parts info5
  have hS : ∀ (W : World) (g c B : Nat), Rd W B (some ⟨g, 0, none⟩) (bv (le4 l.length) ++ bv l) → Calls Try.prog 12 #[.slice (some ⟨g, 0, none⟩) (4 + l.length) c] W fun e w' => e = .returned (.int .u32 (sumOf (le4 l.length ++ l) : Nat)) ∧ W = w' := by
    intro W g c B hr
    have := rsum_any (some ⟨g, 0, none⟩) B (le4 l.length ++ l) c W (by rw [bv_append]; exact hr) (by simp [le4_length]; omega)
    rwa [List.length_append, le4_length] at this
  have HS := Lib.hid hS
  have hF : ∀ W, Calls Try.prog 21 #[.int .u32 (sumOf (le4 l.length ++ l) : Nat)] W fun e w' => e = .returned (.slice (some ⟨W.heap.size, 0, none⟩) 4 4) ∧ w' = W.alloc (.cells (bv (le4 (sumOf (le4 l.length ++ l)))).toArray 5) := fun W => rfour_any _ (by have := sumOf_le (le4 l.length ++ l); omega) W
  have HF := Lib.hid hF
  clear hS hF
  go_enter Try.func14, Try.ntmps14
  go_wp2_with fail
  refine (rfour_any l.length (by omega) _).mono ?_
  rintro e w1 ⟨rfl, hw1⟩
  have own1 : w1.ownsRow w.heap.size 5 1 (.slice (some ⟨w.heap.size, 0, none⟩) 4 4) 4 (bv (le4 l.length)) := by
    rw [hw1]
    exact World.ownsRow_lit w (bv (le4 l.length)).toArray 4 (Nat.le_refl _) (by unfold maxLen; omega) rfl
  have bel1 : Below w.heap.size w w1 := by rw [hw1]; exact (Below.refl _ _).alloc (Nat.le_refl _) _
  have rd1 : Rd w1 B A (bv l) := by rw [hw1]; exact h.alloc _
  clear hw1 h
  go_wp2_with (at_builtin; refine wpList_app _ rfl (.tmp 11) (.tmp 12) 22 rfl w.heap.size 5 i0 (.int .u8 0) 1 Try.underlying22 hi hz0 hz1 hz2 rfl (.slice (some ⟨w.heap.size, 0, none⟩) 4 4) 4 (bv (le4 l.length)) rfl own1 B A l.length cap (bv l) rfl (bv_length l) rd1 (bv_one l) (by unfold maxLen; omega) (by omega) bel1.size ?_; intro v2 w2 own2 gr2 at2 ne2; obtain ⟨b2, c2, rfl, hb2, hl2⟩ := own2.form (by omega))
  have bel2 : Below w.heap.size w w2 := bel1.grown gr2 bel1.size (fun k hk => by have : w.heap.size = k := by { simpa [Value.ownBlock] using hk }; omega)
  clear gr2 at2 ne2
  refine (HS.out _ b2 c2 _ (Rd.of_own own2)).mono ?_
  rintro e w3 ⟨rfl, rfl⟩
  go_wp2_with fail
  refine (HF.out _).mono ?_
  rintro e w3 ⟨rfl, hw3⟩
  have own3 : w3.ownsRow w.heap.size 5 1 (.slice (some ⟨b2, 0, none⟩) (4 + l.length) c2) (4 + l.length) (bv (le4 l.length) ++ bv l) := by rw [hw3]; exact own2.alloc _
  have bel3 : Below w.heap.size w w3 := by rw [hw3]; exact bel2.alloc bel2.size _
  have rd3 : Rd w3 w3.heap.size (some ⟨w2.heap.size, 0, none⟩) (bv (le4 (sumOf (le4 l.length ++ l)))) := by
    rw [hw3]
    exact Rd.of_own (World.ownsRow_lit w2 (bv (le4 (sumOf (le4 l.length ++ l)))).toArray 4 (Nat.le_refl _) (by unfold maxLen; omega) rfl)
  clear hw3
  go_wp2_with (at_builtin; refine wpList_app _ rfl (.tmp 14) (.tmp 17) 22 rfl w.heap.size 5 i0 (.int .u8 0) 1 Try.underlying22 hi hz0 hz1 hz2 rfl (.slice (some ⟨b2, 0, none⟩) (4 + l.length) c2) (4 + l.length) (bv (le4 l.length) ++ bv l) rfl own3 w3.heap.size (some ⟨w2.heap.size, 0, none⟩) 4 4 (bv (le4 (sumOf (le4 l.length ++ l)))) rfl rfl rd3 (bv_one _) (by unfold maxLen; omega) (by omega) bel3.size ?_; intro v4 w4 own4 gr4 at4 ne4; obtain ⟨b4, c4, rfl, hb4, hl4⟩ := own4.form (by omega))
  go_returns
  have e8 : 4 + l.length + 4 = l.length + 8 := by omega
  refine ⟨b4, c4, ret2 (v := .slice (some ⟨b4, 0, none⟩) (4 + l.length + 4) c4) (u := .int .i64 0) (by rw [e8]) rfl, ?_, bel3.grown gr4 bel3.size (fun k hk => by have : b2 = k := by { simpa [Value.ownBlock] using hk }; omega)⟩
  rw [e8] at own4
  simpa [frameOf, bv_append] using own4

end Go.Proofs.Ytihioccpnadieaa
