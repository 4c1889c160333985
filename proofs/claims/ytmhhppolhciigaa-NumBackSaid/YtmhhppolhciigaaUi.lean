/- Contract of Uint. -/
import Derived.Test.YtmhhppolhciigaaSz
import Derived.LoopTactic
import Derived.Laws.CopyOwn
import Derived.StillTailTactics
namespace Go.Proofs.Ytmhhppolhciigaa
open Go.RowKit
set_option linter.unusedVariables false

theorem info5 : (Try.prog.info? 5).map (fun i => (i.zero, i.size, i.bytes)) = some (some (.int .u8 0), 1, 1) := by kernel_rfl

theorem own_ge {w : World} {base n : Nat} {e : TypeId} {v : Value} {xs : List Value} (h : w.ownsRow base e 1 v n xs) : ∀ k, v.ownBlock = some k → base ≤ k := by
  intro k hk
  rcases h.2 with ⟨rfl, _⟩ | ⟨g, cap, cur, rfl, hg, _⟩
  · simp [Value.ownBlock] at hk
  · have : g = k := by simpa [Value.ownBlock] using hk
    omega

theorem new_row (W : World) (u : Value) (t : TypeId) (B : Nat) (hB : W.heap.size < B) : Rd (W.alloc (.cells #[u] t)) B (some ⟨W.heap.size, 0, none⟩) [u] := by
  refine .inr ⟨_, 0, rfl, hB, fun j x hj => ?_⟩
  have hj0 : j = 0 := by
    rcases Nat.eq_zero_or_pos j with h | h
    · exact h
    · rw [List.getElem?_eq_none (by simp; omega)] at hj; cases hj
  subst hj0
  rw [cell_of_row _ _ _ _ t (0, 0) (heap_alloc_new W _)]
  simpa using hj

theorem be_get : ∀ (K n i : Nat), i < K → (be K n)[i]? = some (UInt8.ofNat (n / 256 ^ (K - 1 - i) % 256))
  | 0, _, i, h => by omega
  | K + 1, n, 0, _ => by simp [be]
  | K + 1, n, i + 1, h => by
    rw [be, List.getElem?_cons_succ, be_get K n i (by omega)]
    have : K + 1 - 1 - (i + 1) = K - 1 - i := by omega
    rw [this]
theorem be_byte (K n i : Nat) (h : i < K) : [Value.int .u8 ((n : Int) / 2 ^ (8 * (K - 1 - i)) % 256)] = bv (((be K n).drop i).take 1) := by
  have h1 := be_get K n i h
  have hl : i < (be K n).length := by rw [be_length]; exact h
  rw [List.getElem?_eq_getElem hl, Option.some.injEq] at h1
  rw [List.drop_eq_getElem_cons hl, h1]
  show [Value.int .u8 ((n : Int) / 2 ^ (8 * (K - 1 - i)) % 256)] = [Value.int .u8 (((UInt8.ofNat (n / 256 ^ (K - 1 - i) % 256)).toNat : Nat) : Int)]
  have e : (256 : Nat) ^ (K - 1 - i) = 2 ^ (8 * (K - 1 - i)) := by rw [Nat.pow_mul]
  rw [UInt8.toNat_ofNat', e]
  have e2 : n / 2 ^ (8 * (K - 1 - i)) % 256 % 2 ^ 8 = n / 2 ^ (8 * (K - 1 - i)) % 256 := Nat.mod_mod _ _
  rw [e2, Int.natCast_emod, Int.natCast_ediv, Int.natCast_pow]
  rfl

/-- What the writer of a number answers: a row of its own that holds what was there and the number's bytes. -/
def Wrote (l : List UInt8) (w : World) (e : Ending) (w' : World) : Prop :=
  ∃ g c, e = .returned (.slice (some ⟨g, 0, none⟩) l.length c) ∧ w'.ownsRow w.heap.size 5 1 (.slice (some ⟨g, 0, none⟩) l.length c) l.length (bv l) ∧ Below w.heap.size w w'

set_option maxRecDepth 100000 in
set_option maxHeartbeats 1000000 in
theorem uint_any (A : Option Addr) (B : Nat) (l : List UInt8) (cap n : Nat) (w : World) (h : Rd w B A (bv l)) (hn : n < 18446744073709551616) (hl : l.length ≤ 1099511627776) :
    Calls Try.prog 14 #[.slice A l.length cap, .int .u64 (n : Int)] w (Wrote (l ++ enc n) w) := by
  have HR := Lib.hid h
  clear h
  obtain ⟨i0, hi, hz0, hz1, hz2⟩ := info_parts info5
  go_enter Try.func14, Try.ntmps14
  go_wp2_with fail
  refine (size_any n _ hn).mono ?_
  rintro e w1 ⟨rfl, rfl⟩
  obtain ⟨hK1, hK9⟩ := sizeN_le n
  obtain ⟨K, hK⟩ : ∃ K, K = sizeN n := ⟨_, rfl⟩
  rw [← hK] at hK1 hK9 ⊢
  have HK := Lib.hid hK
  clear hK
  have hmk := run_make (P := Try.prog) w1 22 5 i0 (.int .u8 0) Try.underlying22 hi hz0 .i64 .i64 (l.length : Int) ((l.length : Int) + 9) (by omega) (by omega) (by rw [hz2]; omega) (by omega)
  have t1 : ((l.length : Int)).toNat = l.length := by omega
  have t2 : ((l.length : Int) + 9).toNat = l.length + 9 := by omega
  rw [t1, t2, hz1, Nat.mul_one] at hmk
  obtain ⟨w2, hw2⟩ : ∃ w2, w2 = w1.alloc (.cells (madeCells (Value.int .u8 0).cells (l.length + 9)) 5) := ⟨_, rfl⟩
  rw [← hw2] at hmk
  have hg2 : w2.heap[w1.heap.size]? = some (.cells (List.replicate (l.length + 9) (Value.int .u8 0)).toArray 5 (0, 0)) := by
    rw [hw2, heap_alloc_new, show (Value.int .u8 0).cells = #[.int .u8 0] from rfl, ← toList_madeCells_one, Array.toArray_toList]
  have hb2 : Below w1.heap.size w1 w2 := by rw [hw2]; exact (Below.refl _ _).alloc (Nat.le_refl _) _
  have rd2 : Rd w2 B A (bv l) := by rw [hw2]; exact HR.out.alloc _
  have RD2 := Lib.hid rd2
  have HG2 := Lib.hid hg2
  have HB2 := Lib.hid hb2
  obtain ⟨g, hg⟩ : ∃ g, g = w1.heap.size := ⟨_, rfl⟩
  have hgs : w1.heap.size ≤ g := by omega
  rw [← hg] at hmk HG2
  clear hw2 hg2 hb2 rd2 t1 t2 hg
  have hn1 : (bv l).length = Nat.min l.length l.length := by rw [bv_length]; exact (Nat.min_self _).symm
  have hfit1 : 0 + (bv l).length ≤ (List.replicate (l.length + 9) (Value.int .u8 0)).length := by rw [bv_length, List.length_replicate]; omega
  have hsrc : 0 < (bv l).length → ∃ ad, A = some ad ∧ ∀ j v, (bv l)[j]? = some v → w2.cell? (ad.add j) = some v := by
    intro hpos
    obtain ⟨b, off, hA, _, hc⟩ := RD2.out.at_ (fun e => by rw [e] at hpos; simp at hpos)
    refine ⟨_, hA, fun j v hj => ?_⟩
    have := hc j v hj
    unfold Addr.add
    split
    · subst j; simpa using this
    · exact this
  have HN1 := Lib.hid hn1
  have HFIT1 := Lib.hid hfit1
  have HSRC := Lib.hid hsrc
  clear hn1 hfit1 hsrc
  go_wp2_with (refine wpList_copy_splice rfl (.tmp 16) (.tmp 17) 22 22 rfl 5 Try.underlying22 (by kernel_rfl) (some ⟨g, 0, none⟩) A l.length (l.length + 9) l.length cap rfl rfl g 0 (List.replicate (l.length + 9) (Value.int .u8 0)) 5 HG2.out (bv l) HN1.out (fun hp => ⟨rfl, HSRC.out hp⟩) HFIT1.out (bv_one _) w1.heap.size w1 HB2.out hgs ?_; intro w3 HG3 hb3; (have HB3 := Lib.hid hb3); clear hb3)
  have own3 : w3.ownsRow w1.heap.size 5 1 (.slice (some ⟨g, 0, none⟩) l.length (l.length + 9)) l.length (bv l) := by
    refine ⟨by rw [bv_length, Nat.mul_one], .inr ⟨g, l.length + 9, _, rfl, hgs, HG3.out, by omega, by unfold maxLen; omega, ?_, ?_⟩⟩
    · rw [List.size_toArray, length_splice _ _ _ HFIT1.out, List.length_replicate, Nat.mul_one]
    · simp [splice, Nat.mul_one, bv_length]
  have OWN3 := Lib.hid own3
  clear own3
  go_loopw [6, 20] (fun v x wr => ∃ (i c g' : Nat), x = .int .i64 i ∧ i ≤ K ∧ v = .slice (some ⟨g', 0, none⟩) (l.length + i) c ∧ Hid (wr.ownsRow w1.heap.size 5 1 (.slice (some ⟨g', 0, none⟩) (l.length + i) c) (l.length + i) (bv (l ++ (be K n).take i))) ∧ Hid (Below w1.heap.size w1 wr)) (fun _ x _ => K - (intOf x).toNat)
  case atStart => exact ⟨0, l.length + 9, g, rfl, by omega, rfl, by have := OWN3.out; show w3.ownsRow _ _ _ _ _ _; simpa using this, HB3.out⟩
  obtain ⟨i, c, g', rfl, hi9, rfl, OWN, HB⟩ := hrel
  by_cases hend : i < K
  · have hnews := be_byte K n i hend
    have HNEWS := Lib.hid hnews
    clear hnews
    go_wp2_with (at_builtin; refine wpList_app _ rfl (.tmp 23) (.tmp 33) 22 rfl w1.heap.size 5 i0 (.int .u8 0) 1 Try.underlying22 hi hz0 hz1 hz2 rfl (.slice (some ⟨g', 0, none⟩) (l.length + i) c) (l.length + i) (bv (l ++ (be K n).take i)) rfl (OWN.out.alloc _) (wr.heap.size + 1) (some ⟨wr.heap.size, 0, none⟩) 1 1 [.int .u8 ((n : Int) / 2 ^ (8 * (K - 1 - i)) % 256)] rfl rfl (new_row wr _ _ _ (by omega)) (by simp [Value.oneCell']) (by unfold maxLen; omega) (by omega) (by simp; exact Nat.le_succ_of_le HB.out.size) ?_; intro v4 w4 own4 gr4 at4 ne4; obtain ⟨g4, c4, rfl, hg4, _⟩ := own4.form (by omega))
    have HB4 := Lib.hid ((HB.out.alloc HB.out.size _).grown gr4 (by simp; exact Nat.le_succ_of_le HB.out.size) (fun k hk => own_ge OWN.out k hk))
    rw [HNEWS.out, ← bv_append, List.append_assoc, ← List.take_add] at own4
    have OWN4 := Lib.hid own4
    clear own4 gr4 at4 ne4
    go_wp2_with fail
    go_roundw
    case rel => exact ⟨i + 1, c4, g4, by go_num, by omega, rfl, OWN4.out, HB4.out⟩
    case measure => simp [intOf]; omega
  · have hiK : i = K := by omega
    subst hiK
    have hbl := be_length i n
    rw [List.take_of_length_le (by omega)] at OWN
    have hge : w1.heap.size ≤ g' := own_ge OWN.out g' rfl
    have hcl := OWN.out.cellAt l.length (by omega)
    have hgd : (l ++ be i n).getD l.length 0 = (be i n).getD 0 0 := by
      rw [List.getD_eq_getElem?_getD, List.getElem?_append_right (Nat.le_refl _), Nat.sub_self, ← List.getD_eq_getElem?_getD]
    rw [bv_get _ _ (by rw [List.length_append]; omega), hgd] at hcl
    have hfr := OWN.out.frozenAt l.length
    have hor : bits .or .u8 (((be i n).getD 0 0).toNat : Int) (headN i : Nat) = (((be i n).getD 0 0 ||| UInt8.ofNat (headN i)).toNat : Int) := by
      have hh : headN i < 256 := by have := Nat.two_pow_pos (9 - i); unfold headN; split <;> omega
      rw [u8_or_nat _ _ (UInt8.toNat_lt _) hh, UInt8.toNat_or, UInt8.toNat_ofNat', Nat.mod_eq_of_lt hh]
    have hst := (OWN.out.stored l.length (.int .u8 (bits .or .u8 (((be i n).getD 0 0).toNat : Int) (headN i : Nat)))).1
    have hset : (bv (l ++ be i n)).set l.length (.int .u8 (bits .or .u8 (((be i n).getD 0 0).toNat : Int) (headN i : Nat))) = bv (l ++ enc n) := by
      rw [hor]
      unfold enc
      rw [← HK.out, bv_set, List.set_append_right _ _ (Nat.le_refl _), Nat.sub_self]
    rw [hset] at hst
    have hbt := HB.out.setCell (p := ⟨g', l.length, none⟩) hge (.int .u8 (bits .or .u8 (((be i n).getD 0 0).toNat : Int) (headN i : Nat)))
    obtain ⟨x, hx⟩ : ∃ x : Int, x = (((be i n).getD 0 0).toNat : Int) := ⟨_, rfl⟩
    obtain ⟨y, hy⟩ : ∃ y : Int, y = ((headN i : Nat) : Int) := ⟨_, rfl⟩
    have hhd := fun W => head_any i W hK1 hK9
    rw [← hx] at hcl hst hbt
    rw [← hy] at hst hbt hhd
    have HST := Lib.hid hst
    have HBT := Lib.hid hbt
    have HHD := Lib.hid hhd
    clear hst hbt hset hor hgd hx hy hhd hi
    go_wp2_with fail
    have q1 : (l.length : Int) < (l.length : Int) + (i : Int) := by omega
    go_still_tail 9, (by kernel_rfl)
    still_call (HHD.out _)
    repeat still_step
    refine wpStill_nil ?_
    change wpList _ _ _ _ _ wr.drew
    go_wp2_with fail
    go_returns
    have hlen : (l ++ enc n).length = l.length + i := by rw [List.length_append, enc_length, ← HK.out]
    unfold Wrote
    rw [hlen]
    exact ⟨g', c, rfl, HST.out, HBT.out.drew⟩
end Go.Proofs.Ytmhhppolhciigaa
