/- Each deed's contract in one: in range or not. -/
import Derived.Test.YtgdcnmicdhimhaaNp
namespace Go.Proofs.Ytgdcnmicdhimhaa
open Go.RowKit
set_option linter.unusedVariables false

abbrev Pk := Int × Int × List UInt8
def takeL (L : List Pk) (i : Int) : Pk × Bool × List Pk := if 0 ≤ i ∧ i < L.length then (L.getD i.toNat (0, 0, []), true, L.eraseIdx i.toNat) else ((0, 0, []), false, L)
def twiceL (L : List Pk) (i : Int) : Bool × List Pk := if 0 ≤ i ∧ i < L.length then (true, L ++ [L.getD i.toNat (0, 0, [])]) else (false, L)
def partL (nodes a b : Int) (off : Bool) (P : List (Int × Int)) : List (Int × Int) := if bothB nodes a b then kept a b P ++ (if off then [(a, b)] else []) else P
def errB (nodes a b : Int) : Int := if bothB nodes a b then 0 else 90
def sendL (x : Bool) (a b : Int) (l : List UInt8) (L : List Pk) : List Pk := if x then L ++ [(a, b, l)] else L

theorem take_u (B r mb : Nat) (v : Value) (nodes : Int) (ps : List Pkt) (n : Nat) (par : Int → Int → Bool) (i : Int) (w : World) (h : NetAt w B r v mb nodes ps n par) (hB : B ≤ w.heap.size) :
    Calls Try.prog 9 #[.pointer (some ⟨r, 0, none⟩), .int .i64 i] w fun e w' => ∃ fa fb A k c l y v' ps', e = .returned (.tuple #[.agg #[.int .i64 fa, .int .i64 fb, .slice A k c], .bool y]) ∧
      NetAt w' B r v' mb nodes ps' n par ∧ Turn B w w' ∧ RdT w' 5 A (bv l) ∧ l.length = k ∧ takeL (ps.map Pkt.key) i = ((fa, fb, l), y, ps'.map Pkt.key) ∧ ps'.length ≤ ps.length ∧ ∀ p ∈ ps', p ∈ ps := by
  by_cases hi : 0 ≤ i ∧ i < ps.length
  · obtain ⟨j, rfl⟩ := Int.eq_ofNat_of_zero_le hi.1
    have hj : j < ps.length := by omega
    refine (take_on B r mb v nodes ps n par j w h hB hj).mono ?_
    rintro e w' ⟨rfl, v', N, T⟩
    have ho := own_quiet (h.bod _ (List.getElem_mem hj)) T.quiet (by decide) (by decide)
    refine ⟨(ps[j]).frm, (ps[j]).to, (ps[j]).A, (ps[j]).bytes.length, (ps[j]).c, (ps[j]).bytes, true, v', ps.eraseIdx j, rfl, N, T, RdT.of_own ho, rfl, ?_, ?_, fun p hp => List.mem_of_mem_eraseIdx hp⟩
    · unfold takeL
      rw [if_pos (by rw [List.length_map]; exact hi), key_erase, Int.toNat_natCast]
      rw [List.getD_eq_getElem?_getD, List.getElem?_map, List.getElem?_eq_getElem hj]
      rfl
    · rw [List.length_eraseIdx_of_lt hj]; omega
  · refine (take_no B r mb v nodes ps n par i w h hi).mono ?_
    rintro e w' ⟨rfl, bel⟩
    refine ⟨0, 0, none, 0, 0, [], false, v, ps, rfl, h.below bel, Turn.of_below bel hB, .inl rfl, rfl, ?_, Nat.le_refl _, fun p hp => hp⟩
    unfold takeL
    rw [if_neg (by rw [List.length_map]; exact hi)]
theorem rtake_u (nodes : Int) (AL AP : Option Addr) (nL cL nP cP : Nat) (i : Int) (L : List Pk) (P : List (Int × Int)) (w : World) (h : RefAt w AL cL AP cP L P) (hn : L.length = nL) (hL : L.length ≤ 1000000) :
    Calls Try.prog 10 #[.agg #[.int .i64 nodes, .slice AL nL cL, .slice AP nP cP], .int .i64 i] w fun e w' => ∃ A' n' c' L' q y, e = .returned (.tuple #[.agg #[.int .i64 nodes, .slice A' n' c', .slice AP nP cP], .agg #[.int .i64 q.1, .int .i64 q.2.1, .string ⟨q.2.2.toArray⟩], .bool y]) ∧
      RefAt w' A' c' AP cP L' P ∧ L'.length = n' ∧ takeL L i = (q, y, L') ∧ Below w.heap.size w w' := by
  by_cases hi : 0 ≤ i ∧ i < L.length
  · obtain ⟨j, rfl⟩ := Int.eq_ofNat_of_zero_le hi.1
    have hj : j < L.length := by omega
    refine (rtake_on nodes AL AP nL cL nP cP j L P w h hn hj hL).mono ?_
    rintro e w' ⟨A', c', rfl, R, bel⟩
    refine ⟨A', nL - 1, c', L.eraseIdx j, L[j], true, rfl, R, by rw [List.length_eraseIdx_of_lt hj, hn], ?_, bel⟩
    unfold takeL
    rw [if_pos hi, Int.toNat_natCast, List.getD_eq_getElem?_getD, List.getElem?_eq_getElem hj]
    rfl
  · refine (rtake_no nodes i AL AP nL cL nP cP w (by rw [← hn]; exact hi)).mono ?_
    rintro e w' ⟨rfl, bel⟩
    refine ⟨AL, nL, cL, L, (0, 0, []), false, rfl, h.below bel, hn, ?_, bel⟩
    unfold takeL
    rw [if_neg hi]

theorem twice_u (B r mb : Nat) (v : Value) (nodes : Int) (ps : List Pkt) (n : Nat) (par : Int → Int → Bool) (i : Int) (w : World) (h : NetAt w B r v mb nodes ps n par) (hB : B ≤ w.heap.size) (hps : ps.length ≤ 1000000) (hb : ∀ p ∈ ps, p.bytes.length ≤ 1000) :
    Calls Try.prog 11 #[.pointer (some ⟨r, 0, none⟩), .int .i64 i] w fun e w' => ∃ y v' ps', e = .returned (.bool y) ∧
      NetAt w' B r v' mb nodes ps' n par ∧ Turn B w w' ∧ twiceL (ps.map Pkt.key) i = (y, ps'.map Pkt.key) ∧ ps'.length ≤ ps.length + 1 ∧ ∀ p ∈ ps', p.bytes.length ≤ 1000 := by
  by_cases hi : 0 ≤ i ∧ i < ps.length
  · obtain ⟨j, rfl⟩ := Int.eq_ofNat_of_zero_le hi.1
    have hj : j < ps.length := by omega
    have hbj := hb _ (List.getElem_mem hj)
    refine (twice_on B r mb v nodes ps n par j w h hB hps hj (by omega)).mono ?_
    rintro e w' ⟨rfl, v', A', c', N, T, _⟩
    refine ⟨true, v', _, rfl, N, T, ?_, by simp, fun p hp => ?_⟩
    · unfold twiceL
      rw [if_pos (by rw [List.length_map]; exact hi), Int.toNat_natCast, List.getD_eq_getElem?_getD, List.getElem?_map, List.getElem?_eq_getElem hj, List.map_append]
      rfl
    · rcases List.mem_append.1 hp with hp | hp
      · exact hb p hp
      · rw [List.mem_singleton] at hp
        rw [hp]
        exact hbj
  · refine (twice_no B r mb v nodes ps n par i w h hi).mono ?_
    rintro e w' ⟨rfl, rfl⟩
    refine ⟨false, v, ps, rfl, h, Turn.refl _ _, ?_, by omega, hb⟩
    unfold twiceL
    rw [if_neg (by rw [List.length_map]; exact hi)]
theorem rtwice_u (nodes : Int) (AL AP : Option Addr) (nL cL nP cP : Nat) (i : Int) (L : List Pk) (P : List (Int × Int)) (w : World) (h : RefAt w AL cL AP cP L P) (hn : L.length = nL) (hL : L.length ≤ 1000000) :
    Calls Try.prog 12 #[.agg #[.int .i64 nodes, .slice AL nL cL, .slice AP nP cP], .int .i64 i] w fun e w' => ∃ A' n' c' L' y, e = .returned (.tuple #[.agg #[.int .i64 nodes, .slice A' n' c', .slice AP nP cP], .bool y]) ∧
      RefAt w' A' c' AP cP L' P ∧ L'.length = n' ∧ twiceL L i = (y, L') ∧ Below w.heap.size w w' := by
  by_cases hi : 0 ≤ i ∧ i < L.length
  · obtain ⟨j, rfl⟩ := Int.eq_ofNat_of_zero_le hi.1
    have hj : j < L.length := by omega
    refine (rtwice_on nodes AL AP nL cL nP cP j L P w h hn hj hL).mono ?_
    rintro e w' ⟨A', c', rfl, R, bel⟩
    refine ⟨A', nL + 1, c', _, true, rfl, R, by rw [List.length_append, hn]; rfl, ?_, bel⟩
    unfold twiceL
    rw [if_pos hi, Int.toNat_natCast, List.getD_eq_getElem?_getD, List.getElem?_eq_getElem hj]
    rfl
  · refine (rtwice_no nodes i AL AP nL cL nP cP w (by rw [← hn]; exact hi)).mono ?_
    rintro e w' ⟨rfl, bel⟩
    refine ⟨AL, nL, cL, L, false, rfl, h.below bel, hn, ?_, bel⟩
    unfold twiceL
    rw [if_neg hi]

theorem part_u (B r mb : Nat) (v : Value) (nodes : Int) (ps : List Pkt) (n : Nat) (par : Int → Int → Bool) (a b : Int) (off : Bool) (P : List (Int × Int)) (w : World) (h : NetAt w B r v mb nodes ps n par) (hn : nodes ≤ 65536)
    (hB : B ≤ w.heap.size) (hnn : n < 1000000) (ha : Agree par P) :
    Calls Try.prog 13 #[.pointer (some ⟨r, 0, none⟩), .int .i64 a, .int .i64 b, .bool off] w fun e w' => ∃ n' par', e = .returned (.int .i64 (errB nodes a b)) ∧ NetAt w' B r v mb nodes ps n' par' ∧ Turn B w w' ∧ n' ≤ n + 1 ∧ Agree par' (partL nodes a b off P) := by
  cases hb : bothB nodes a b with
  | true =>
    refine (part_on B r mb v nodes ps n par a b off w h hn hB hnn hb).mono ?_
    rintro e w' ⟨rfl, N, T⟩
    refine ⟨n + 1, _, by unfold errB; rw [hb]; rfl, N, T, Nat.le_refl _, ?_⟩
    unfold partL
    rw [hb, if_pos rfl]
    exact agree_part ha a b off
  | false =>
    refine (part_no r nodes a b _ w h.c0 hb).mono ?_
    rintro e w' ⟨rfl, rfl⟩
    refine ⟨n, par, by unfold errB; rw [hb]; rfl, h, Turn.refl _ _, by omega, ?_⟩
    unfold partL
    rw [hb]
    exact ha
theorem rpart_u (nodes a b : Int) (AL AP : Option Addr) (nL cL nP cP : Nat) (pt : Bool) (L : List Pk) (P : List (Int × Int)) (w : World) (h : RefAt w AL cL AP cP L P) (hnp : P.length = nP) (hP : P.length ≤ 1000000) :
    Calls Try.prog 14 #[.agg #[.int .i64 nodes, .slice AL nL cL, .slice AP nP cP], .int .i64 a, .int .i64 b, .bool pt] w fun e w' => ∃ A' n' c', e = .returned (.tuple #[.agg #[.int .i64 nodes, .slice AL nL cL, .slice A' n' c'], .int .i64 (errB nodes a b)]) ∧
      RefAt w' AL cL A' c' L (partL nodes a b pt P) ∧ (partL nodes a b pt P).length = n' ∧ Below w.heap.size w w' := by
  cases hb : bothB nodes a b with
  | true =>
    refine (rpart_on nodes a b AL AP nL cL nP cP pt L P w h hnp hP hb).mono ?_
    rintro e w' ⟨A', n', c', rfl, R, hl, bel⟩
    have : partL nodes a b pt P = kept a b P ++ (if pt then [(a, b)] else []) := by unfold partL; rw [hb, if_pos rfl]
    rw [this]
    exact ⟨A', n', c', by unfold errB; rw [hb]; rfl, R, hl, bel⟩
  | false =>
    refine (rpart_no nodes a b AL AP nL cL nP cP pt w hb).mono ?_
    rintro e w' ⟨rfl, bel⟩
    have : partL nodes a b pt P = P := by unfold partL; rw [hb]; rfl
    rw [this]
    exact ⟨AP, nP, cP, by unfold errB; rw [hb]; rfl, h.below bel, hnp, bel⟩
theorem partL_len (nodes a b : Int) (off : Bool) (P : List (Int × Int)) : (partL nodes a b off P).length ≤ P.length + 1 := by
  unfold partL
  split
  · exact kept_full a b P off
  · omega

theorem send_u (B r mb : Nat) (v : Value) (nodes : Int) (ps : List Pkt) (n : Nat) (par : Int → Int → Bool) (a b : Int) (A : Option Addr) (l : List UInt8) (k cap Bb : Nat) (w : World) (h : NetAt w B r v mb nodes ps n par) (hn : nodes ≤ 65536)
    (hB : B ≤ w.heap.size) (hps : ps.length ≤ 1000000) (hl : l.length = k) (hk : k ≤ 1000) (hrd : Rd w Bb A (bv l)) (hb : ∀ p ∈ ps, p.bytes.length ≤ 1000) :
    Calls Try.prog 15 #[.pointer (some ⟨r, 0, none⟩), .int .i64 a, .int .i64 b, .slice A k cap] w fun e w' => ∃ v' ps', e = .returned (.int .i64 (errB nodes a b)) ∧
      NetAt w' B r v' mb nodes ps' n par ∧ Turn B w w' ∧ ps'.map Pkt.key = sendL (linkB nodes a b par) a b l (ps.map Pkt.key) ∧ ps'.length ≤ ps.length + 1 ∧ ∀ p ∈ ps', p.bytes.length ≤ 1000 := by
  cases hbo : bothB nodes a b with
  | false =>
    refine (send_no r nodes a b _ w h.c0 hbo).mono ?_
    rintro e w' ⟨rfl, rfl⟩
    refine ⟨v, ps, by unfold errB; rw [hbo]; rfl, h, Turn.refl _ _, ?_, by omega, hb⟩
    unfold sendL linkB
    rw [hbo]
    rfl
  | true =>
    cases hp : par (min a b) (max a b) with
    | true =>
      refine (send_off B r mb v nodes ps n par a b _ w h hn hbo hp).mono ?_
      rintro e w' ⟨rfl, bel⟩
      refine ⟨v, ps, by unfold errB; rw [hbo]; rfl, h.below bel, Turn.of_below bel hB, ?_, by omega, hb⟩
      unfold sendL linkB
      rw [hbo, hp]
      rfl
    | false =>
      refine (send_on B r mb v nodes ps n par a b A l k cap Bb w h hn hB hps hl (by omega) hrd hbo hp).mono ?_
      rintro e w' ⟨rfl, v', A', c', N, T, _⟩
      refine ⟨v', _, by unfold errB; rw [hbo]; rfl, N, T, ?_, by simp, fun p hpp => ?_⟩
      · unfold sendL linkB
        rw [hbo, hp, List.map_append]
        rfl
      · rcases List.mem_append.1 hpp with hpp | hpp
        · exact hb p hpp
        · rw [List.mem_singleton] at hpp
          rw [hpp]
          show l.length ≤ 1000
          omega
theorem rsend_u (nodes a b : Int) (AL AP : Option Addr) (nL cL nP cP : Nat) (bl : List UInt8) (L : List Pk) (P : List (Int × Int)) (w : World) (h : RefAt w AL cL AP cP L P) (hn : L.length = nL) (hnp : P.length = nP) (hL : L.length ≤ 1000000) :
    Calls Try.prog 16 #[.agg #[.int .i64 nodes, .slice AL nL cL, .slice AP nP cP], .int .i64 a, .int .i64 b, .string ⟨bl.toArray⟩] w fun e w' => ∃ A' n' c' L', e = .returned (.tuple #[.agg #[.int .i64 nodes, .slice A' n' c', .slice AP nP cP], .int .i64 (errB nodes a b)]) ∧
      RefAt w' A' c' AP cP L' P ∧ L'.length = n' ∧ L' = sendL (bothB nodes a b && !P.any (hit a b)) a b bl L ∧ Below w.heap.size w w' := by
  cases hbo : bothB nodes a b with
  | false =>
    refine (rsend_no nodes a b AL AP nL cL nP cP _ w hbo).mono ?_
    rintro e w' ⟨rfl, bel⟩
    exact ⟨AL, nL, cL, L, by unfold errB; rw [hbo]; rfl, h.below bel, hn, rfl, bel⟩
  | true =>
    cases hp : P.any (hit a b) with
    | true =>
      refine (rsend_off nodes a b AL AP nL cL nP cP bl L P w h hn hnp hbo hp).mono ?_
      rintro e w' ⟨rfl, bel⟩
      exact ⟨AL, nL, cL, L, by unfold errB; rw [hbo]; rfl, h.below bel, hn, rfl, bel⟩
    | false =>
      refine (rsend_on nodes a b AL AP nL cL nP cP bl L P w h hn hnp hL hbo hp).mono ?_
      rintro e w' ⟨A', c', rfl, R, bel⟩
      exact ⟨A', nL + 1, c', _, by unfold errB; rw [hbo]; rfl, R, by rw [List.length_append, hn]; rfl, rfl, bel⟩
end Go.Proofs.Ytgdcnmicdhimhaa
