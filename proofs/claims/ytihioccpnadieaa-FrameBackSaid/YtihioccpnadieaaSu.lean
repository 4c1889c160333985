/- The walks of frame.Sum and of the reference's Sum. -/
import Derived.Test.YtihioccpnadieaaMm
import Derived.Test.YtihioccpnadieaaPl
import Derived.LoopTactic
namespace Go.Proofs.Ytihioccpnadieaa
open Go.RowKit
set_option linter.unusedVariables false

theorem ret_int {v v' : Value} (h : v = v') : Ending.returned v = .returned v' := by rw [h]

theorem not_u32 (r : Nat) (h : r < 4294967296) : bits BinOp.xor IntKind.u32 IntKind.u32.max (r : Int) = ((4294967295 - r : Nat) : Int) := by
  have e : IntKind.u32.max = ((4294967295 : Nat) : Int) := by decide
  rw [e, u32_xor_nat _ _ (by decide) h]
  congr 1
  apply Nat.eq_of_testBit_eq
  intro i
  have h1 := Nat.testBit_two_pow_sub_succ (x := r) (n := 32) (by omega) i
  have e1 : 2 ^ 32 - (r + 1) = 4294967295 - r := by omega
  rw [e1] at h1
  rw [h1, Nat.testBit_xor]
  have h2 := Nat.testBit_two_pow_sub_one 32 i
  rw [show 2 ^ 32 - 1 = 4294967295 from rfl] at h2
  rw [h2]
  by_cases hi : i < 32
  · simp [hi]
  · have : r.testBit i = false := Nat.testBit_lt_two_pow (Nat.lt_of_lt_of_le h (by exact Nat.pow_le_pow_right (n := 2) (by decide) (show 32 ≤ i by omega)))
    simp [hi, this]

theorem step_bits' (r : Nat) (h : r < 4294967296) : bits .xor .u32 ((r : Int) / 2) (bits .and .u32 2197175160 (-(bits .and .u32 (r : Int) 1) % 4294967296)) = ((crcBit r : Nat) : Int) := by
  have := step_bits r h
  rwa [IntKind.wrap_u32] at this

theorem sum_none (A : Option Addr) (cap : Nat) (w : World) :
    Calls Try.prog 11 #[.slice A 0 cap] w fun e w' => e = .returned (.int .u32 0) ∧ w = w' := by
  go_enter Try.func11, Try.ntmps11
  go_wp2
  go_rounds 1
  go_returns
  have e0 : bits BinOp.xor IntKind.u32 IntKind.u32.max 4294967295 = 0 := by decide
  exact ⟨ret_int (v := .int .u32 (bits BinOp.xor IntKind.u32 IntKind.u32.max 4294967295)) (by rw [e0]), rfl⟩

theorem take_snoc (l : List UInt8) (k : Nat) (h : k < l.length) : l.take (k + 1) = l.take k ++ [l.getD k 0] := by
  rw [List.take_succ_eq_append_getElem h]; simp [h]

theorem sum_some (b off : Nat) (l : List UInt8) (cap : Nat) (w : World) (hlen : l.length ≤ 9223372036854775807) (hc : ∀ j, j < l.length → w.cell? ⟨b, off + j, none⟩ = some (.int .u8 ((l.getD j 0).toNat : Int))) :
    Calls Try.prog 11 #[.slice (some ⟨b, off, none⟩) l.length cap] w fun e w' => e = .returned (.int .u32 (sumOf l : Nat)) ∧ w = w' := by
  have HC := Lib.hid hc
  clear hc
  go_enter Try.func11, Try.ntmps11
  go_wp2
  go_loop [3, 8] (fun s i => ∃ k : Nat, k ≤ l.length ∧ i = .int .i64 k ∧ s = .int .u32 (crcFrom 4294967295 (l.take k) : Nat)) (fun _ i => l.length - (intOf i).toNat)
  case atStart => exact ⟨0, by omega, rfl, rfl⟩
  case round =>
    obtain ⟨k, hk, rfl, rfl⟩ := hrel
    obtain ⟨r, hr⟩ : ∃ r, r = crcFrom 4294967295 (l.take k) := ⟨_, rfl⟩
    have hrl : r < 4294967296 := by rw [hr]; exact crcFrom_lt (by decide) _
    rw [← hr]
    have HR := Lib.hid hr
    clear hr
    by_cases hlt : k < l.length
    · have h0 := HC.out k hlt
      obtain ⟨c, hcc⟩ : ∃ c, c = l.getD k 0 := ⟨_, rfl⟩
      rw [← hcc] at h0
      have HCC := Lib.hid hcc
      have hb := c.toNat_lt
      clear hcc
      go_wp2
      rw [u32_xor_nat r c.toNat hrl (by omega)]
      go_loop [3, 16] (fun s i => ∃ j : Nat, j ≤ 8 ∧ i = .int .i64 j ∧ s = .int .u32 (crcN j (r ^^^ c.toNat) : Nat)) (fun _ i => 8 - (intOf i).toNat)
      case atStart => exact ⟨0, by omega, rfl, rfl⟩
      case round =>
        obtain ⟨j, hj, rfl, rfl⟩ := hrel
        obtain ⟨s, hs⟩ : ∃ s, s = crcN j (r ^^^ c.toNat) := ⟨_, rfl⟩
        have hsl : s < 4294967296 := by rw [hs]; exact crcN_lt j (Nat.xor_lt_two_pow (n := 32) hrl (byte_lt c))
        rw [← hs]
        have HS := Lib.hid hs
        clear hs
        by_cases hjl : j < 8
        · go_wp2
          go_round
          case rel => exact ⟨j + 1, by omega, by go_num, by rw [step_bits' s hsl, HS.out]; rfl⟩
          case measure => simp [intOf]; omega
        · obtain rfl : j = 8 := by omega
          go_wp2
          go_round
          case rel => exact ⟨k + 1, by omega, by go_num, by rw [HS.out, HR.out, take_snoc l k hlt, crcFrom_snoc, HCC.out]; rfl⟩
          case measure => simp [intOf]; omega
    · obtain rfl : k = l.length := by omega
      go_wp2
      go_returns
      refine ⟨ret_int (v := .int .u32 (bits BinOp.xor IntKind.u32 IntKind.u32.max (r : Int))) ?_, rfl⟩
      rw [not_u32 r hrl, HR.out, List.take_length]
      rfl

theorem sum_any (A : Option Addr) (B : Nat) (l : List UInt8) (cap : Nat) (w : World) (h : Rd w B A (bv l)) (hlen : l.length ≤ 9223372036854775807) :
    Calls Try.prog 11 #[.slice A l.length cap] w fun e w' => e = .returned (.int .u32 (sumOf l : Nat)) ∧ w = w' := by
  cases l with
  | nil => exact sum_none A cap w
  | cons c l =>
    obtain ⟨b, off, rfl, _, hc⟩ := h.at_ (by simp [bv])
    exact sum_some b off _ cap w hlen fun j hj => hc j _ (bv_get _ j hj)

theorem rsum_none (A : Option Addr) (cap : Nat) (w : World) :
    Calls Try.prog 12 #[.slice A 0 cap] w fun e w' => e = .returned (.int .u32 0) ∧ w = w' := by
  go_enter Try.func12, Try.ntmps12
  go_wp2
  go_rounds 1
  go_returns
  exact ⟨rfl, rfl⟩

theorem rsum_some (b off : Nat) (l : List UInt8) (cap : Nat) (w : World) (hlen : l.length ≤ 9223372036854775807) (hc : ∀ j, j < l.length → w.cell? ⟨b, off + j, none⟩ = some (.int .u8 ((l.getD j 0).toNat : Int))) :
    Calls Try.prog 12 #[.slice (some ⟨b, off, none⟩) l.length cap] w fun e w' => e = .returned (.int .u32 (sumOf l : Nat)) ∧ w = w' := by
  have HC := Lib.hid hc
  clear hc
  go_enter Try.func12, Try.ntmps12
  go_wp2
  go_loop [3, 4] (fun s i => ∃ k : Nat, k ≤ l.length ∧ i = .int .i64 k ∧ s = .int .u32 (crcFrom 4294967295 (l.take k) : Nat)) (fun _ i => l.length - (intOf i).toNat)
  case atStart => exact ⟨0, by omega, rfl, rfl⟩
  case round =>
    obtain ⟨k, hk, rfl, rfl⟩ := hrel
    obtain ⟨r, hr⟩ : ∃ r, r = crcFrom 4294967295 (l.take k) := ⟨_, rfl⟩
    have hrl : r < 4294967296 := by rw [hr]; exact crcFrom_lt (by decide) _
    rw [← hr]
    have HR := Lib.hid hr
    clear hr
    by_cases hlt : k < l.length
    · have h0 := HC.out k hlt
      obtain ⟨c, hcc⟩ : ∃ c, c = l.getD k 0 := ⟨_, rfl⟩
      rw [← hcc] at h0
      have HCC := Lib.hid hcc
      have hb := c.toNat_lt
      clear hcc
      go_wp2
      go_loop [3, 5, 6] (fun s c' i => ∃ j : Nat, j ≤ 8 ∧ i = .int .i64 j ∧ s = .int .u32 ((refN j (r, c.toNat)).1 : Nat) ∧ c' = .int .u8 ((refN j (r, c.toNat)).2 : Nat)) (fun _ _ i => 8 - (intOf i).toNat)
      case atStart => exact ⟨0, by omega, rfl, rfl, rfl⟩
      case round =>
        obtain ⟨j, hj, rfl, rfl, rfl⟩ := hrel
        have hlts := refN_lt j (p := (r, c.toNat)) hrl (by simpa using hb)
        by_cases hjl : j < 8
        · have hst : refN (j + 1) (r, c.toNat) = refBit (refN j (r, c.toNat)) := rfl
          obtain ⟨⟨s, d⟩, hs⟩ : ∃ s, s = refN j (r, c.toNat) := ⟨_, rfl⟩
          rw [← hs] at hst hlts ⊢
          obtain ⟨hs1, hs2⟩ := hlts
          have HST := Lib.hid hst
          clear hst hs
          simp only at hs1 hs2
          by_cases he : s % 2 = d % 2
          · have e1 : (((s : Nat) : Int) % 2 != ((d : Nat) : Int) % 2) = false := by simp; omega
            go_wp2
            go_round
            case rel => exact ⟨j + 1, by omega, by go_num, by rw [HST.out]; simp only [refBit, if_pos he]; go_num, by rw [HST.out]; simp only [refBit]; go_num⟩
            case measure => simp [intOf]; omega
          · have e1 : (((s : Nat) : Int) % 2 != ((d : Nat) : Int) % 2) = true := by simp; omega
            have e2 : bits .xor .u32 ((s : Int) / 2) 2197175160 = ((s / 2 ^^^ poly : Nat) : Int) := by
              rw [show ((s : Int) / 2) = ((s / 2 : Nat) : Int) from by omega]
              exact u32_xor_nat _ _ (by omega) (by decide)
            have E2 := Lib.hid e2
            clear e2
            go_wp2
            go_round
            case rel => exact ⟨j + 1, by omega, by go_num, by rw [HST.out, E2.out]; simp only [refBit, if_neg he], by rw [HST.out]; simp only [refBit]; go_num⟩
            case measure => simp [intOf]; omega
        · obtain rfl : j = 8 := by omega
          have h8 : (refN 8 (r, c.toNat)).1 = crcByte r c := refN_eq r c
          rw [h8]
          clear hlts
          go_wp2
          go_round
          case rel => exact ⟨k + 1, by omega, by go_num, by rw [HR.out, take_snoc l k hlt, crcFrom_snoc, HCC.out]⟩
          case measure => simp [intOf]; omega
    · obtain rfl : k = l.length := by omega
      have e1 : (4294967295 : Int) - (r : Int) = ((4294967295 - r : Nat) : Int) := by omega
      have E1 := Lib.hid e1
      clear e1
      go_wp2
      go_returns
      refine ⟨ret_int (v := .int .u32 ((4294967295 : Int) - (r : Int))) ?_, rfl⟩
      rw [E1.out, HR.out, List.take_length]
      rfl

theorem rsum_any (A : Option Addr) (B : Nat) (l : List UInt8) (cap : Nat) (w : World) (h : Rd w B A (bv l)) (hlen : l.length ≤ 9223372036854775807) :
    Calls Try.prog 12 #[.slice A l.length cap] w fun e w' => e = .returned (.int .u32 (sumOf l : Nat)) ∧ w = w' := by
  cases l with
  | nil => exact rsum_none A cap w
  | cons c l =>
    obtain ⟨b, off, rfl, _, hc⟩ := h.at_ (by simp [bv])
    exact rsum_some b off _ cap w hlen fun j hj => hc j _ (bv_get _ j hj)
end Go.Proofs.Ytihioccpnadieaa
