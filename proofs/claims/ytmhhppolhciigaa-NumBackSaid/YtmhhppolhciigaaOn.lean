/- The walk of NumOne. -/
import Derived.Test.YtmhhppolhciigaaPd
import Derived.Test.YtmhhppolhciigaaSs
namespace Go.Proofs.Ytmhhppolhciigaa
open Go.RowKit
set_option linter.unusedVariables false

theorem own_slice {w : World} {base : Nat} {e : TypeId} {v : Value} {n : Nat} {xs : List Value} (h : w.ownsRow base e 1 v n xs) :
    ∃ A c, v = .slice A n c ∧ n ≤ c ∧ c ≤ 9223372036854775807 ∧ Rd w w.heap.size A xs := by
  rcases h.2 with ⟨rfl, rfl⟩ | ⟨g, cap, cur, rfl, _, _, hn, hc, _⟩
  · exact ⟨none, 0, rfl, Nat.le_refl _, by omega, Rd.of_own h⟩
  · exact ⟨_, cap, rfl, hn, by unfold maxLen at hc; exact hc, Rd.of_own h⟩

set_option maxRecDepth 100000 in
set_option maxHeartbeats 1000000 in
theorem numOne.main (A : Option Addr) (l : List UInt8) (cap : Nat) (w : World) (hlen : l.length ≤ cap) (hcap : cap ≤ 9223372036854775807) (hrd : Rd w w.heap.size A (bv l)) :
    Calls Try.prog 3 #[.slice A l.length cap] w fun e w' => e = .returned (.bool true) ∧ Below w.heap.size w w' := by
  have HR := Lib.hid hrd
  clear hrd
  go_enter Try.func3, Try.ntmps3
  go_wp2_with (go_at_call 9; refine (awake_true _).mono ?_; rintro e w1 ⟨rfl, hb1⟩; (have HB1 := Lib.hid hb1); clear hb1)
  refine (read_st A l cap w1 ((HR.out.size HB1.out).more HB1.out.size) hlen hcap).mono ?_
  rintro e w2 ⟨r, rfl, hr, st2, gr2⟩
  have HB2 := Lib.hid (HB1.out.grown gr2 HB1.out.size (fun k e => by cases e))
  have S2 := Lib.hid st2
  have hrw : w.heap.size ≤ r := by rw [hr]; exact HB1.out.size
  clear st2 gr2 hr
  go_wp2_with fail
  go_loopw [5, 6] (fun v x wr => ∃ (i : Nat) (F rest : List UInt8), x = .int .i64 i ∧ i ≤ 200 ∧ F.length ≤ 9 * i ∧ Hid (l = F ++ rest) ∧ Hid (St wr r rest 0) ∧ Hid (wr.ownsRow (r + 1) 5 1 v F.length (bv F)) ∧ Hid (Below w.heap.size w wr)) (fun _ x _ => 200 - (intOf x).toNat)
  case atStart => exact ⟨0, [], l, rfl, by omega, by simp, rfl, S2.out, ⟨rfl, .inl ⟨rfl, rfl⟩⟩, HB2.out⟩
  obtain ⟨i, F, rest, rfl, hi, hF, HL, ST, OWN, HB⟩ := hrel
  obtain ⟨Av, cv, rfl, hcv, hcvx, _⟩ := own_slice OWN.out
  have hrlt : r < wr.heap.size := by
    obtain ⟨_, _, h1, _⟩ := ST.out
    exact h1.lt
  have HLF := fun W (h : St W r rest 0) => left_st r rest 0 W h
  obtain ⟨m, hm⟩ : ∃ m, m = rest.length := ⟨_, rfl⟩
  simp only [← hm] at HLF
  have HLF := Lib.hid HLF
  have HM := Lib.hid hm
  clear hm
  by_cases hend : i < 200 ∧ 0 < m
  · obtain ⟨hi2, hm0⟩ := hend
    have hu := ruint_st r rest wr ST.out
    have hE := rdU_enc rest
    have hE2 := rdU_err rest
    have hn := dec_lt rest
    obtain ⟨n, hnn⟩ : ∃ n, n = (rdU rest).1 := ⟨_, rfl⟩
    obtain ⟨rest', hrr⟩ : ∃ x, x = (rdU rest).2.1 := ⟨_, rfl⟩
    obtain ⟨er, her⟩ : ∃ x, x = (rdU rest).2.2 := ⟨_, rfl⟩
    rw [← hnn, ← hrr, ← her] at hu
    rw [← her, ← hnn, ← hrr] at hE hE2
    rw [← hnn] at hn
    have HU := Lib.hid hu
    have HE1 := Lib.hid hE
    clear hu hnn hrr her hE
    by_cases he : er = 0
    · subst he
      have HEQ := Lib.hid (HE1.out rfl)
      clear hE2 HE1
      go_wp2_with (go_at_call 11; refine (HLF.out _ ST.out).mono ?_; rintro e w' ⟨rfl, rfl⟩)
      refine HU.out.mono ?_
      rintro e w3 ⟨rfl, st3, gr3⟩
      have HB3 := Lib.hid (HB.out.grown gr3 HB.out.size (fun k hk => by cases hk; exact hrw))
      have OWN3 := Lib.hid (OWN.out.kept gr3 (.inr (fun e => by have := own_ge OWN.out r e; omega)))
      have S3 := Lib.hid st3
      have hsz3 := gr3.size
      clear st3 gr3
      have rd3 := Rd.of_own OWN3.out
      have hw4 := uint_any Av w3.heap.size F cv n w3 rd3 hn (by omega)
      unfold Wrote at hw4
      have HW4 := Lib.hid hw4
      clear rd3 hw4
      go_wp2_with (first
        | (go_at_call 13; refine (err_st r rest' 0 _ S3.out).mono ?_; rintro e w' ⟨rfl, rfl⟩))
      refine HW4.out.mono ?_
      rintro e w4 ⟨g4, c4, rfl, own4, bel4⟩
      have hl4 : (F ++ enc n).length ≤ 9 * (i + 1) := by
        have := (sizeN_le n).2
        rw [List.length_append, enc_length]
        omega
      have HB4 := Lib.hid (HB3.out.trans (bel4.mono HB3.out.size))
      have OWN4 := Lib.hid (own_base own4 (base' := r + 1) (by omega))
      have S4 := Lib.hid (S3.out.below bel4)
      clear own4 bel4
      go_wp2_with fail
      go_roundw
      case rel => 
        refine ⟨i + 1, F ++ enc n, rest', by go_num, by omega, hl4, ?_, S4.out, ?_, HB4.out⟩
        · show l = F ++ enc n ++ rest'
          rw [HL.out, HEQ.out, List.append_assoc]
        · have h := OWN4.out
          rw [List.length_append] at h
          show w4.ownsRow _ _ _ _ _ _
          rw [List.length_append]
          exact h
      case measure => simp [intOf]; omega
    · obtain ⟨hn0, hr0⟩ := hE2 he
      subst hn0
      subst hr0
      have hen : ((er : Int) != 0) = true := by simp; omega
      clear HE1 hE2
      have hlf0 : ∀ W, St W r [] er → Calls Try.prog 11 #[.pointer (some ⟨r, 0, none⟩)] W fun en w' => en = .returned (.int .i64 0) ∧ W = w' := fun W h => left_st r [] er W h
      have HLF0 := Lib.hid hlf0
      clear hlf0
      go_wp2_with (go_at_call 11; refine (HLF.out _ ST.out).mono ?_; rintro e w' ⟨rfl, rfl⟩)
      refine HU.out.mono ?_
      rintro e w3 ⟨rfl, st3, gr3⟩
      have HB3 := Lib.hid (HB.out.grown gr3 HB.out.size (fun k hk => by cases hk; exact hrw))
      have S3 := Lib.hid st3
      clear st3 gr3
      go_wp2_with (first
        | (go_at_call 13; refine (err_st r [] er _ S3.out).mono ?_; rintro e w' ⟨rfl, rfl⟩)
        | (go_at_call 11; refine (HLF0.out _ S3.out).mono ?_; rintro e w' ⟨rfl, rfl⟩))
      go_returns
      exact ⟨rfl, HB3.out⟩
  · by_cases hm0 : 0 < m
    · have hi2 : i = 200 := by omega
      subst hi2
      go_wp2_with (go_at_call 11; refine (HLF.out _ ST.out).mono ?_; rintro e w' ⟨rfl, rfl⟩)
      go_returns
      exact ⟨rfl, HB.out⟩
    · have hm00 : m = 0 := by omega
      have hre : rest = [] := List.eq_nil_of_length_eq_zero (by rw [← HM.out]; exact hm00)
      subst hre
      subst hm00
      have hFl : F = l := by rw [HL.out, List.append_nil]
      subst hFl
      have hend2 : ∀ W, St W r [] 0 → Calls Try.prog 15 #[.pointer (some ⟨r, 0, none⟩)] W fun en w' => en = .returned (.int .i64 0) ∧ W.grownBy w' (some r) := by
        intro W h
        refine (end_st r [] 0 W h).mono fun en w' h => ⟨?_, h.2.2⟩
        rw [h.1, if_neg (fun k => k.2 rfl)]
        rfl
      have HE := Lib.hid hend2
      have cvs : ∀ W, wr.grownBy W (some r) → (convert 22 9 (.slice Av F.length cv)).run Try.prog W = .ok (.string ⟨F.toArray⟩) W ∧ (convert 22 9 (.slice A F.length cap)).run Try.prog W = .ok (.string ⟨F.toArray⟩) W := by
        intro W hg
        refine ⟨conv_any F.length cv rfl (Rd.of_own (OWN.out.kept hg (.inr (fun e => by have := own_ge OWN.out r e; omega)))), conv_any (B := w.heap.size) F.length cap rfl ?_⟩
        exact (HR.out.below HB.out).grown hg (fun g e => by cases e; exact hrw)
      have HCV := Lib.hid cvs
      clear hend2 cvs hend hm0
      by_cases hi2 : i < 200
      · go_wp2_with (go_at_call 11; refine (HLF.out _ ST.out).mono ?_; rintro e w' ⟨rfl, rfl⟩)
        refine (HE.out _ ST.out).mono ?_
        rintro e w3 ⟨rfl, gr3⟩
        obtain ⟨cv1, cv2⟩ := HCV.out w3 gr3
        have HB3 := Lib.hid (HB.out.grown gr3 HB.out.size (fun k hk => by cases hk; exact hrw))
        clear gr3
        go_wp2_with fail
        go_returns
        exact ⟨rfl, HB3.out⟩
      · go_wp2_with (go_at_call 11; refine (HLF.out _ ST.out).mono ?_; rintro e w' ⟨rfl, rfl⟩)
        refine (HE.out _ ST.out).mono ?_
        rintro e w3 ⟨rfl, gr3⟩
        obtain ⟨cv1, cv2⟩ := HCV.out w3 gr3
        have HB3 := Lib.hid (HB.out.grown gr3 HB.out.size (fun k hk => by cases hk; exact hrw))
        clear gr3
        go_wp2_with fail
        go_returns
        exact ⟨rfl, HB3.out⟩

/-- A slice of integers that came in: nil, or a row of 'cap' cells. -/
def IsRow (k : IntKind) (w : World) (a : Option Addr) (len cap : Nat) (zs : List Int) : Prop :=
  (a = none ∧ len = 0 ∧ cap = 0 ∧ zs = []) ∨
  ∃ x, a = some x ∧ len ≤ cap ∧ cap ≤ maxLen ∧ zs.length = cap ∧ (∀ i, i < zs.length → w.cell? (x.add i) = some (.int k (zs.getD i 0))) ∧ ∀ n ∈ zs, (Lit.int k n).wf = true

theorem IsRow.bytes {w : World} {a : Option Addr} {len cap : Nat} {zs : List Int} (h : IsRow .u8 w a len cap zs) :
    ∃ l : List UInt8, l.length = len ∧ Rd w w.heap.size a (bv l) ∧ len ≤ cap ∧ cap ≤ 9223372036854775807 := by
  rcases h with ⟨rfl, rfl, rfl, rfl⟩ | ⟨x, rfl, hl, hm, hz, hcell, hwf⟩
  · exact ⟨[], rfl, .inl rfl, Nat.le_refl _, by omega⟩
  · unfold maxLen at hm
    refine ⟨(zs.take len).map fun n => UInt8.ofNat n.toNat, by simp; omega, ?_, hl, hm⟩
    rcases Nat.eq_zero_or_pos len with h0 | h0
    · subst h0; exact .inl (by simp [bv])
    · obtain ⟨b, off, spot⟩ := x
      have hc := hcell 0 (by omega)
      have hspot : spot = none := by simpa [Addr.add] using World.cell?_spot hc
      subst hspot
      refine .inr ⟨b, off, rfl, World.block_lt_of_cell? _ _ hc, fun j u hj => ?_⟩
      have hjl : j < len := by
        have := (List.getElem?_eq_some_iff.1 hj).1
        rw [bv_length, List.length_map, List.length_take] at this
        omega
      have hjz : j < zs.length := by omega
      have hu : u = .int .u8 (zs.getD j 0) := by
        have hw := hwf (zs[j]) (List.getElem_mem hjz)
        rw [Go.Lit.wf_int_iff] at hw
        have hw1 : 0 ≤ zs[j] ∧ zs[j] ≤ 255 := by simpa [IntKind.min, IntKind.max, IntKind.bits, IntKind.signed] using hw
        have hv : ((UInt8.ofNat (zs[j]).toNat).toNat : Int) = zs[j] := by
          rw [UInt8.toNat_ofNat']
          omega
        simp only [bv, List.map_map, List.getElem?_map, List.getElem?_take, if_pos hjl, List.getElem?_eq_getElem hjz, Option.map_some, Function.comp] at hj
        rw [hv] at hj
        injection hj with hj
        rw [← hj]
        simp [List.getD_eq_getElem?_getD, hjz]
      rw [hu]
      have := hcell j hjz
      unfold Addr.add at this
      split at this
      · subst j; simpa using this
      · exact this

theorem numOne.walk (a0 : Option Addr) (len0 cap0 : Nat) (z0 : List Int) (w : World) (w0 : IsRow .u8 w a0 len0 cap0 z0) :
    Calls Try.prog 3 #[.slice a0 len0 cap0] w fun e w' => e = .returned (.bool true) ∧ Below w.heap.size w w' := by
  obtain ⟨l, rfl, hrd, hl, hm⟩ := w0.bytes
  exact numOne.main a0 l cap0 w hl hm hrd
end Go.Proofs.Ytmhhppolhciigaa
