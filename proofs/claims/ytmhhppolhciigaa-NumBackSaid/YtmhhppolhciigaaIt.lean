/- Contracts of Int and Text, written; the reader's Text. -/
import Derived.Test.YtmhhppolhciigaaOn
import Derived.Lib.AppendStr
namespace Go.Proofs.Ytmhhppolhciigaa
open Go.RowKit
set_option linter.unusedVariables false

/-- A number of either sign as one of none. -/
def zig (m : Int) : Nat := if 0 ≤ m then (2 * m).toNat else (-2 * m - 1).toNat
theorem zig_lt (m : Int) (h0 : -9223372036854775808 ≤ m) (h1 : m ≤ 9223372036854775807) : zig m < 18446744073709551616 := by
  unfold zig
  split <;> omega
theorem sgn_zig (m : Int) : sgn (zig m) = m := by
  unfold sgn zig
  split <;> split <;> omega

theorem zig_bits (m : Int) (h0 : -9223372036854775808 ≤ m) (h1 : m ≤ 9223372036854775807) :
    bits .xor .u64 (IntKind.u64.wrap (IntKind.u64.wrap m * 2)) (IntKind.u64.wrap (m / 9223372036854775808)) = ((zig m : Nat) : Int) := by
  by_cases hm : 0 ≤ m
  · have e1 : IntKind.u64.wrap (IntKind.u64.wrap m * 2) = ((zig m : Nat) : Int) := by
      unfold zig
      rw [if_pos hm, IntKind.wrap_u64, IntKind.wrap_u64]
      omega
    have e2 : IntKind.u64.wrap (m / 9223372036854775808) = ((0 : Nat) : Int) := by
      rw [show m / 9223372036854775808 = 0 from by omega]; decide
    rw [e1, e2, u64_xor_nat _ _ (zig_lt m h0 h1) (by decide), Nat.xor_zero]
  · have h := Lib.zigzag_neg h0 (show m < 0 by omega)
    have e2 : IntKind.u64.wrap (m / 9223372036854775808) = IntKind.u64.max := by
      rw [show m / 9223372036854775808 = -1 from by omega]; decide
    have e3 : IntKind.u64.max = ((18446744073709551615 : Nat) : Int) := by decide
    have e1 : IntKind.u64.wrap (IntKind.u64.wrap m * 2) = (((2 * m + 18446744073709551616).toNat : Nat) : Int) := by
      rw [IntKind.wrap_u64, IntKind.wrap_u64]
      omega
    rw [e2, e3, e1, u64_xor_nat _ _ (by omega) (by decide), Nat.xor_comm]
    rw [e3, e1, u64_xor_nat _ _ (by decide) (by omega)] at h
    exact h

set_option maxHeartbeats 1000000 in
theorem int_any (A : Option Addr) (B : Nat) (l : List UInt8) (cap : Nat) (m : Int) (w : World) (h : Rd w B A (bv l)) (h0 : -9223372036854775808 ≤ m) (h1 : m ≤ 9223372036854775807) (hl : l.length ≤ 1099511627776) :
    Calls Try.prog 16 #[.slice A l.length cap, .int .i64 m] w (Wrote (l ++ enc (zig m)) w) := by
  have HU := Lib.hid (uint_any A B l cap (zig m) w h (zig_lt m h0 h1) hl)
  have hz := zig_bits m h0 h1
  clear h h0 h1
  go_enter Try.func16, Try.ntmps16
  go_wp2_with fail
  refine HU.out.mono ?_
  rintro e w1 ⟨g, c, rfl, own1, bel1⟩
  have HB1 := Lib.hid bel1
  have OWN1 := Lib.hid own1
  clear own1 bel1
  go_wp2_with fail
  go_returns
  have h := OWN1.out
  have e : (l ++ enc (zig m)).length = l.length + (enc (zig m)).length := List.length_append
  unfold Wrote
  rw [e] at h ⊢
  exact ⟨g, c, rfl, h, HB1.out⟩

theorem wpList_app_str {P : Program} {w : World} {ops : Array Oper} {rest : List Oper} {o : Oper} {a : Act} {Q : Exit → Act → World → Prop} (hgd : o.guard = none) (s x : Operand) (t u : TypeId)
    (ho : o.op = .call { callee := .builtin .append, args := #[s, x], argTypes := #[t, u] })
    (base e : Nat) (i : TypeInfo) (ht : P.underlying t = some (.slice e)) (hu : P.underlying u = some .string) (hi : P.info? e = some i) (hz : i.zero = some (.int .u8 0))
    (hsize : i.size = 1) (hby : i.bytes = 1) (v : Value) (n : Nat) (xs : List Value) (hs : a.eval s = v) (hown : w.ownsRow base e 1 v n xs)
    (str : ByteArray) (hx : a.eval x = .string str)
    (h63 : n + str.size ≤ maxLen) (hbytes : n + str.size ≤ 140737488355328) (hbase : base ≤ w.heap.size)
    (h : ∀ v' w', w'.ownsRow base e 1 v' (n + str.size) (xs ++ Lib.strCells str) → w.grownBy w' v.ownBlock → (v' = .slice none 0 0 ↔ v = .slice none 0 0 ∧ str.size = 0) → wpList P ops Q rest (a.put o.dst v') w') : wpList P ops Q (o :: rest) a w := by
  refine wpList_plain hgd fun K hK => ?_
  obtain ⟨v', w', hrun, h2, h3, h4⟩ := Lib.run_append_own_string (P := P) w base t u o.type e i ht hu hi hz hsize hby v n xs hown str h63 hbytes hbase
  unfold Oper.wp execOp
  simp only [ho, resolve, invoke, builtin, Sem.run_bind, Sem.run_pure, Result.andThen_ok, List.map_toArray, List.map_cons, List.map_nil, hs, hx, hrun]
  exact hK _ _ (h v' w' h2 h3 h4)

set_option maxHeartbeats 1000000 in
theorem text_any (A : Option Addr) (B : Nat) (l : List UInt8) (cap : Nat) (s : ByteArray) (w : World) (h : Rd w B A (bv l)) (hs : s.size ≤ 1000) (hl : l.length ≤ 1099511627776) :
    Calls Try.prog 17 #[.slice A l.length cap, .string s] w (Wrote (l ++ enc s.size ++ s.data.toList) w) := by
  obtain ⟨i0, hi, hz0, hz1, hz2⟩ := info_parts info5
  have HU := Lib.hid (uint_any A B l cap s.size w h (by omega) hl)
  obtain ⟨hel, hsl⟩ : 1 ≤ (enc s.size).length ∧ (enc s.size).length ≤ 9 := by rw [enc_length]; exact sizeN_le _
  clear h
  go_enter Try.func17, Try.ntmps17
  go_wp2_with fail
  refine HU.out.mono ?_
  rintro e w1 ⟨g, c, rfl, own1, bel1⟩
  have HB1 := Lib.hid bel1
  have OWN1 := Lib.hid own1
  have e8 : (l ++ enc s.size).length = l.length + (enc s.size).length := List.length_append
  have hb8 : (l ++ enc s.size).length ≤ 1099511627800 := by omega
  clear own1 bel1
  rw [e8] at OWN1 hb8 ⊢
  go_wp2_with (at_builtin; refine wpList_app_str rfl (.tmp 9) (.tmp 10) 22 9 rfl w.heap.size 5 i0 Try.underlying22 Try.underlying9 hi hz0 hz1 hz2 (.slice (some ⟨g, 0, none⟩) (l.length + (enc s.size).length) c) (l.length + (enc s.size).length) (bv (l ++ enc s.size)) rfl OWN1.out s rfl (by unfold maxLen; omega) (by omega) HB1.out.size ?_; intro v2 w2 own2 gr2 at2; obtain ⟨g2, c2, rfl, hg2, _⟩ := own2.form (by omega))
  go_returns
  have hsz : s.data.toList.length = s.size := by rw [Array.length_toList]; rfl
  have hfin : (l ++ enc s.size ++ s.data.toList).length = l.length + (enc s.size).length + s.size := by rw [List.length_append, List.length_append, hsz]
  unfold Wrote
  rw [hfin]
  refine ⟨g2, c2, rfl, ?_, HB1.out.grown gr2 HB1.out.size (fun k hk => own_ge OWN1.out k hk)⟩
  have : bv (l ++ enc s.size ++ s.data.toList) = bv (l ++ enc s.size) ++ Lib.strCells s := by rw [bv_append]; rfl
  rw [this]
  exact own2
end Go.Proofs.Ytmhhppolhciigaa
