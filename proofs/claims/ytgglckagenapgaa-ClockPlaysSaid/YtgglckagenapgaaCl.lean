/- Contracts of package clock. -/
import Derived.Test.YtgglckagenapgaaRows
import Derived.WalkKit
import Derived.ProofKit
import Derived.OpenShut
import Derived.Outline
import Derived.RegionTactic
import Derived.ChangeAlike
import Derived.Below
import Derived.Laws.BitsLemmas
import Derived.Laws.Bits64
import Derived.Laws.Rows
import Derived.Handy
import Derived.Lib.Hide
namespace Go.Proofs.Ytgglckagenapgaa
open Go.RowKit

/-- The clock at block b: number, time, actor. -/
def Ck (w : World) (b : Nat) (s t a : Int) : Prop := w.heap[b]? = some (.cells #[.int .i64 s, .int .i64 t, .int .i64 a] 53 (0, 0))

theorem Ck.c0 {w : World} {b : Nat} {s t a : Int} (h : Ck w b s t a) : w.cell? ⟨b, 0, none⟩ = some (.int .i64 s) := cell_of_row w b 0 _ 53 (0, 0) h
theorem Ck.c1 {w : World} {b : Nat} {s t a : Int} (h : Ck w b s t a) : w.cell? ⟨b, 1, none⟩ = some (.int .i64 t) := cell_of_row w b 1 _ 53 (0, 0) h
theorem Ck.c2 {w : World} {b : Nat} {s t a : Int} (h : Ck w b s t a) : w.cell? ⟨b, 2, none⟩ = some (.int .i64 a) := cell_of_row w b 2 _ 53 (0, 0) h
theorem Ck.fz {w : World} {b : Nat} {s t a : Int} (h : Ck w b s t a) (i : Nat) : w.frozen? ⟨b, i, none⟩ = false := by
  unfold Ck at h
  simp [World.frozen?, h]

theorem Ck.lt {w : World} {b : Nat} {s t a : Int} (h : Ck w b s t a) : b < w.heap.size := by
  rcases Nat.lt_or_ge b w.heap.size with hlt | hge
  · exact hlt
  · unfold Ck at h; rw [Array.getElem?_eq_none hge] at h; cases h
theorem Ck.alloc {w : World} {b : Nat} {s t a : Int} (h : Ck w b s t a) (o : Obj) : Ck (w.alloc o) b s t a := (Below.heap_alloc w o b h.lt).trans h
theorem Ck.drew {w : World} {b : Nat} {s t a : Int} (h : Ck w b s t a) : Ck w.drew b s t a := h
theorem Ck.far {w : World} {b : Nat} {s t a : Int} (h : Ck w b s t a) {p : Addr} (hp : b ≠ p.block) (u : Value) : Ck (w.setCell p u) b s t a := (Below.heap_setCell w p u b hp).trans h
theorem Ck.set0 {w : World} {b : Nat} {s t a : Int} (h : Ck w b s t a) (n : Int) : Ck (w.setCell ⟨b, 0, none⟩ (.int .i64 n)) b n t a := by
  unfold Ck at h ⊢
  simp [World.setCell, Array.getElem?_modify, h]
theorem Ck.set1 {w : World} {b : Nat} {s t a : Int} (h : Ck w b s t a) (n : Int) : Ck (w.setCell ⟨b, 1, none⟩ (.int .i64 n)) b s n a := by
  unfold Ck at h ⊢
  simp [World.setCell, Array.getElem?_modify, h]
theorem Ck.below {w w' : World} {B b : Nat} {s t a : Int} (h : Ck w b s t a) (hb : Below B w w') (hB : b < B) : Ck w' b s t a := (hb.block b hB).trans h
theorem Ck.new (w : World) (s t a : Int) : Ck (w.alloc (.cells #[.int .i64 s, .int .i64 t, .int .i64 a] 53)) w.heap.size s t a := heap_alloc_new w _

theorem or_split (r b : Int) (h0 : 0 ≤ r) (h1 : r < 65536) (h2 : 0 ≤ b) (h3 : b < 256) : bits .or .u32 (r * 256) b = r * 256 + b := by
  obtain ⟨r, rfl⟩ := Int.eq_ofNat_of_zero_le h0
  obtain ⟨b, rfl⟩ := Int.eq_ofNat_of_zero_le h2
  have e := Nat.two_pow_add_eq_or_of_lt (i := 8) (b := b) (by omega) r
  have e1 : BitVec.ofInt 32 ((r : Int) * 256) = BitVec.ofNat 32 (2 ^ 8 * r) := by
    rw [show ((r : Int) * 256) = ((2 ^ 8 * r : Nat) : Int) from by omega, BitVec.ofInt_natCast]
  show IntKind.u32.wrap ((BitVec.ofInt 32 ((r : Int) * 256) ||| BitVec.ofInt 32 (b : Int)).toNat : Int) = _
  rw [e1, BitVec.ofInt_natCast, BitVec.toNat_or, BitVec.toNat_ofNat, BitVec.toNat_ofNat, Nat.mod_eq_of_lt (by omega), Nat.mod_eq_of_lt (by omega), ← e, IntKind.wrap_u32]
  omega

theorem actor_no (r b : Int) (w : World) (h : r < 0 ∨ (0 ≤ r ∧ 65536 ≤ r) ∨ (0 ≤ r ∧ r < 65536 ∧ b < 0) ∨ (0 ≤ r ∧ r < 65536 ∧ 0 ≤ b ∧ 256 ≤ b)) :
    Calls Try.prog 9 #[.int .i64 r, .int .i64 b] w fun e w' => e = .returned (.tuple #[.int .i64 0, .int .i64 1]) ∧ w = w' := by
  rcases h with h | ⟨h, h1⟩ | ⟨h, h1, h2⟩ | ⟨h, h1, h2, h3⟩
  all_goals
    go_enter Try.func9, Try.ntmps9
    go_wp2
    go_ret2
    exact ⟨rfl, rfl⟩

theorem ret2 {v v' u u' : Value} (h : v = v') (h' : u = u') : Ending.returned (.tuple #[v, u]) = .returned (.tuple #[v', u']) := by rw [h, h']

theorem actor_yes (r b : Int) (w : World) (h0 : 0 ≤ r) (h1 : r < 65536) (h2 : 0 ≤ b) (h3 : b < 256) :
    Calls Try.prog 9 #[.int .i64 r, .int .i64 b] w fun e w' => e = .returned (.tuple #[.int .i64 (r * 256 + b), .int .i64 0]) ∧ w = w' := by
  go_enter Try.func9, Try.ntmps9
  go_wp2
  go_ret2
  refine ⟨ret2 (v := .int .i64 (wrap64 (bits BinOp.or IntKind.u32 (r * 256) b))) (u := .int .i64 0) ?_ rfl, rfl⟩
  rw [or_split r b h0 h1 h2 h3, IntWalk.wrap64_in _ ⟨by omega, by omega⟩]

theorem split_no (a : Int) (w : World) (h : a < 0 ∨ (0 ≤ a ∧ 16777216 ≤ a)) :
    Calls Try.prog 10 #[.int .i64 a] w fun e w' => e = .returned (.tuple #[.int .i64 (-1), .int .i64 (-1)]) ∧ w = w' := by
  rcases h with h | ⟨h, h1⟩
  all_goals
    go_enter Try.func10, Try.ntmps10
    go_wp2
    go_ret2
    exact ⟨rfl, rfl⟩

theorem split_yes (a : Int) (w : World) (h0 : 0 ≤ a) (h1 : a < 16777216) :
    Calls Try.prog 10 #[.int .i64 a] w fun e w' => e = .returned (.tuple #[.int .i64 (a / 256), .int .i64 (a % 256)]) ∧ w = w' := by
  go_enter Try.func10, Try.ntmps10
  go_wp2
  go_ret2
  refine ⟨ret2 (v := .int .i64 (a / 256)) (u := .int .i64 (a % 256)) rfl rfl, rfl⟩

theorem new_no (a s t : Int) (w : World) (h : a < 0 ∨ (0 ≤ a ∧ 16777216 ≤ a) ∨ (0 ≤ a ∧ a < 16777216 ∧ s < 0) ∨ (0 ≤ a ∧ a < 16777216 ∧ 0 ≤ s ∧ 1073741824 < s) ∨
      (0 ≤ a ∧ a < 16777216 ∧ 0 ≤ s ∧ s ≤ 1073741824 ∧ t < 0) ∨ (0 ≤ a ∧ a < 16777216 ∧ 0 ≤ s ∧ s ≤ 1073741824 ∧ 0 ≤ t ∧ 1099511627776 < t)) :
    Calls Try.prog 11 #[.int .i64 a, .int .i64 s, .int .i64 t] w fun e w' => e = .returned (.tuple #[.pointer none, .int .i64 1]) ∧ w = w' := by
  rcases h with h | ⟨h, h1⟩ | ⟨h, h1, h2⟩ | ⟨h, h1, h2, h3⟩ | ⟨h, h1, h2, h3, h4⟩ | ⟨h, h1, h2, h3, h4, h5⟩
  all_goals
    go_enter Try.func11, Try.ntmps11
    go_wp2
    go_ret2
    exact ⟨rfl, rfl⟩

theorem new_yes (a s t : Int) (w : World) (h0 : 0 ≤ a) (h1 : a < 16777216) (h2 : 0 ≤ s) (h3 : s ≤ 1073741824) (h4 : 0 ≤ t) (h5 : t ≤ 1099511627776) :
    Calls Try.prog 11 #[.int .i64 a, .int .i64 s, .int .i64 t] w fun e w' => e = .returned (.tuple #[.pointer (some ⟨w.heap.size, 0, none⟩), .int .i64 0]) ∧
      w' = w.alloc (.cells #[.int .i64 s, .int .i64 t, .int .i64 a] 53) := by
  go_enter Try.func11, Try.ntmps11
  go_wp2
  go_ret2
  exact ⟨rfl, rfl⟩

theorem spent_yes (b : Nat) (s t a : Int) (w : World) (h : Ck w b s t a) (hs : s = 1073741824 ∨ t = 1099511627776) :
    Calls Try.prog 20 #[.pointer (some ⟨b, 0, none⟩)] w fun e w' => e = .returned (.bool true) ∧ w = w' := by
  have c0 := h.c0
  have c1 := h.c1
  clear h
  rcases hs with rfl | rfl
  · go_enter Try.func20, Try.ntmps20
    go_wp2
    go_ret
    exact ⟨rfl, rfl⟩
  · by_cases hs : s = 1073741824
    · subst hs
      go_enter Try.func20, Try.ntmps20
      go_wp2
      go_ret
      exact ⟨rfl, rfl⟩
    · have e1 : (s == 1073741824) = false := by simpa using hs
      clear hs
      go_enter Try.func20, Try.ntmps20
      go_wp2
      go_ret
      exact ⟨rfl, rfl⟩

theorem spent_no (b : Nat) (s t a : Int) (w : World) (h : Ck w b s t a) (hs : s < 1073741824) (ht : t < 1099511627776) :
    Calls Try.prog 20 #[.pointer (some ⟨b, 0, none⟩)] w fun e w' => e = .returned (.bool false) ∧ w = w' := by
  have c0 := h.c0
  have c1 := h.c1
  have e1 : (s == 1073741824) = false := by simp; omega
  have e2 : (t == 1099511627776) = false := by simp; omega
  clear h
  go_enter Try.func20, Try.ntmps20
  go_wp2
  go_ret
  exact ⟨rfl, rfl⟩

theorem see_more (b : Nat) (s t a n : Int) (w : World) (h : Ck w b s t a) (hn : t < n) (hm : n ≤ 1099511627776) :
    Calls Try.prog 19 #[.pointer (some ⟨b, 0, none⟩), .int .i64 n] w fun e w' => e = .returned (.tuple #[]) ∧ w' = w.setCell ⟨b, 1, none⟩ (.int .i64 n) := by
  have c1 := h.c1
  have f1 := h.fz 1
  clear h
  go_enter Try.func19, Try.ntmps19
  go_wp2
  go_end0
  exact ⟨rfl, rfl⟩

theorem see_less (b : Nat) (s t a n : Int) (w : World) (h : Ck w b s t a) (hn : n ≤ t ∨ (t < n ∧ 1099511627776 < n)) :
    Calls Try.prog 19 #[.pointer (some ⟨b, 0, none⟩), .int .i64 n] w fun e w' => e = .returned (.tuple #[]) ∧ w = w' := by
  have c1 := h.c1
  clear h
  rcases hn with hn | ⟨hn, hm⟩
  all_goals
    go_enter Try.func19, Try.ntmps19
    go_wp2
    go_end0
    exact ⟨rfl, rfl⟩

theorem next_nil (w : World) :
    Calls Try.prog 13 #[.pointer none] w fun e w' => e = .returned (.tuple #[.agg #[.int .i64 0, .int .i64 0], .int .i64 0, .int .i64 1]) ∧ ∃ c, w' = w.alloc (.cells c 36) := by
  go_enter Try.func13, Try.ntmps13
  go_wp2
  go_returns
  exact ⟨rfl, _, rfl⟩

theorem next_spent (b : Nat) (s t a : Int) (w : World) (h : Ck w b s t a) (hs : s = 1073741824 ∨ t = 1099511627776) :
    Calls Try.prog 13 #[.pointer (some ⟨b, 0, none⟩)] w fun e w' => e = .returned (.tuple #[.agg #[.int .i64 0, .int .i64 0], .int .i64 0, .int .i64 20]) ∧ Ck w' b s t a ∧ Below w.heap.size w w' := by
  have hb := h.lt
  have H := Lib.hid h
  clear h
  go_enter Try.func13, Try.ntmps13
  go_wp2_with (go_at_call 20; refine (spent_yes b s t a _ (H.out.alloc _) hs).mono ?_; rintro e w' ⟨rfl, rfl⟩)
  go_returns
  exact ⟨rfl, H.out.alloc _, (Below.refl _ _).alloc (Nat.le_refl _) _⟩

theorem next_ok (b : Nat) (s t a : Int) (w : World) (h : Ck w b s t a) (h0 : 0 ≤ s) (hs : s < 1073741824) (h1 : 0 ≤ t) (ht : t < 1099511627776) (B : Nat) (hB : B ≤ b) :
    Calls Try.prog 13 #[.pointer (some ⟨b, 0, none⟩)] w fun e w' => e = .returned (.tuple #[.agg #[.int .i64 a, .int .i64 (s + 1)], .int .i64 (t + 1), .int .i64 0]) ∧ Ck w' b (s + 1) (t + 1) a ∧ Below B w w' := by
  have hb := h.lt
  have H := Lib.hid h
  have c0 := h.c0
  have c1 := h.c1
  have c2 := h.c2
  have f0 := h.fz 0
  have f1 := h.fz 1
  have n0 : b ≠ w.heap.size := by omega
  clear h
  go_enter Try.func13, Try.ntmps13
  go_wp2_with (go_at_call 20; refine (spent_no b s t a _ (H.out.alloc _) hs ht).mono ?_; rintro e w' ⟨rfl, rfl⟩)
  go_region
  all_goals
    go_wp2
    go_returns
    refine ⟨rfl, ?_, ?_⟩
    · have h := H.out
      exact (((h.set0 _).set1 _).alloc _)
    · have hB' : B ≤ w.heap.size := by omega
      go_grown

theorem see_any (b : Nat) (s t a n : Int) (w : World) (h : Ck w b s t a) (B : Nat) (hB : B ≤ b) :
    Calls Try.prog 12 #[.pointer (some ⟨b, 0, none⟩), .int .i64 n] w fun e w' => e = .returned (.tuple #[]) ∧ Ck w' b s (if t < n ∧ n ≤ 1099511627776 then n else t) a ∧ Below B w w' := by
  have H := Lib.hid h
  clear h
  by_cases h1 : t < n
  · by_cases h2 : n ≤ 1099511627776
    · rw [if_pos ⟨h1, h2⟩]
      go_enter Try.func12, Try.ntmps12
      go_wp2_with (go_at_call 19; refine (see_more b s t a n _ H.out h1 h2).mono ?_; rintro e w' ⟨rfl, rfl⟩)
      go_returns
      exact ⟨rfl, H.out.set1 n, (Below.refl _ _).setCell hB _⟩
    · rw [if_neg (by omega)]
      go_enter Try.func12, Try.ntmps12
      go_wp2_with (go_at_call 19; refine (see_less b s t a n _ H.out (.inr ⟨h1, by omega⟩)).mono ?_; rintro e w' ⟨rfl, rfl⟩)
      go_returns
      exact ⟨rfl, H.out, Below.refl _ _⟩
  · rw [if_neg (by omega)]
    go_enter Try.func12, Try.ntmps12
    go_wp2_with (go_at_call 19; refine (see_less b s t a n _ H.out (.inl (by omega))).mono ?_; rintro e w' ⟨rfl, rfl⟩)
    go_returns
    exact ⟨rfl, H.out, Below.refl _ _⟩

theorem see_nil (n : Int) (w : World) : Calls Try.prog 12 #[.pointer none, .int .i64 n] w fun e w' => e = .returned (.tuple #[]) ∧ w = w' := by
  go_enter Try.func12, Try.ntmps12
  go_wp2
  go_returns
  exact ⟨rfl, rfl⟩

theorem actor_of (b : Nat) (s t a : Int) (w : World) (h : Ck w b s t a) : Calls Try.prog 16 #[.pointer (some ⟨b, 0, none⟩)] w fun e w' => e = .returned (.int .i64 a) ∧ w = w' := by
  have c0 := h.c2
  clear h
  go_enter Try.func16, Try.ntmps16
  go_wp2
  go_returns
  exact ⟨rfl, rfl⟩
theorem seq_of (b : Nat) (s t a : Int) (w : World) (h : Ck w b s t a) : Calls Try.prog 17 #[.pointer (some ⟨b, 0, none⟩)] w fun e w' => e = .returned (.int .i64 s) ∧ w = w' := by
  have c0 := h.c0
  clear h
  go_enter Try.func17, Try.ntmps17
  go_wp2
  go_returns
  exact ⟨rfl, rfl⟩
theorem time_of (b : Nat) (s t a : Int) (w : World) (h : Ck w b s t a) : Calls Try.prog 18 #[.pointer (some ⟨b, 0, none⟩)] w fun e w' => e = .returned (.int .i64 t) ∧ w = w' := by
  have c0 := h.c1
  clear h
  go_enter Try.func18, Try.ntmps18
  go_wp2
  go_returns
  exact ⟨rfl, rfl⟩
theorem actor_nil (w : World) : Calls Try.prog 16 #[.pointer none] w fun e w' => e = .returned (.int .i64 0) ∧ w = w' := by
  go_enter Try.func16, Try.ntmps16
  go_wp2
  go_returns
  exact ⟨rfl, rfl⟩
theorem seq_nil (w : World) : Calls Try.prog 17 #[.pointer none] w fun e w' => e = .returned (.int .i64 0) ∧ w = w' := by
  go_enter Try.func17, Try.ntmps17
  go_wp2
  go_returns
  exact ⟨rfl, rfl⟩
theorem time_nil (w : World) : Calls Try.prog 18 #[.pointer none] w fun e w' => e = .returned (.int .i64 0) ∧ w = w' := by
  go_enter Try.func18, Try.ntmps18
  go_wp2
  go_returns
  exact ⟨rfl, rfl⟩

theorem awake_true (w : World) : Calls Try.prog 8 #[] w fun e w' => e = .returned (.bool true) ∧ Below w.heap.size w w' := by
  go_enter Try.func8, Try.ntmps8
  go_wp2_with (first
    | (go_at_call 9; refine (actor_yes 3 2 _ (by omega) (by omega) (by omega) (by omega)).mono ?_; rintro e w' ⟨rfl, rfl⟩)
    | (go_at_call 10; refine (split_yes _ _ (by omega) (by omega)).mono ?_; rintro e w' ⟨rfl, rfl⟩)
    | (go_at_call 11; refine (new_yes _ _ _ _ (by omega) (by omega) (by omega) (by omega) (by omega) (by omega)).mono ?_; rintro e w' ⟨rfl, rfl⟩)
    | (go_at_call 13; refine (next_ok w.heap.size 0 5 770 _ (Ck.new _ _ _ _) (by omega) (by omega) (by omega) (by omega) w.heap.size (Nat.le_refl _)).mono ?_; rintro e w' ⟨rfl, hck, hbl⟩))
  go_returns
  exact ⟨rfl, (((Below.refl _ _).alloc (Nat.le_refl _) _).trans hbl).alloc (by have := hbl.size; simp at this; omega) _⟩
end Go.Proofs.Ytgglckagenapgaa
