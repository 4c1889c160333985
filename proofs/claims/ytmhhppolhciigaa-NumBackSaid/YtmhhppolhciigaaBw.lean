/- NumBack: plain words; the loops that write. -/
import Derived.Test.YtmhhppolhciigaaRt
import Derived.Deep.RegionHeld3
import Derived.SliceStrings
import Derived.Deep.DeepCutAuto
import Derived.Deep.CutBlock
namespace Go.Proofs.Ytmhhppolhciigaa
open Go.RowKit
set_option linter.unusedVariables false

def encL (l : List Nat) : List UInt8 := l.flatMap enc
def encM (l : List Int) : List UInt8 := l.flatMap fun x => enc (zig x)
def encT (x : ByteArray) : List UInt8 := if x.size ≤ 1000 then enc x.size ++ x.data.toList else []
def encS (l : List ByteArray) : List UInt8 := l.flatMap encT

theorem flat_snoc {α : Type} (f : α → List UInt8) (l : List α) (i : Nat) (d : α) (h : i < l.length) : (l.take (i + 1)).flatMap f = (l.take i).flatMap f ++ f (l.getD i d) := by
  rw [List.take_succ_eq_append_getElem h, List.flatMap_append]
  simp [List.getD_eq_getElem?_getD, h]
theorem flat_drop {α : Type} (f : α → List UInt8) (l : List α) (i : Nat) (d : α) (h : i < l.length) : (l.drop i).flatMap f = f (l.getD i d) ++ (l.drop (i + 1)).flatMap f := by
  rw [List.drop_eq_getElem_cons h, List.flatMap_cons]
  simp [List.getD_eq_getElem?_getD, h]
theorem map_get {α : Type} (f : α → Value) (l : List α) (i : Nat) (d : α) (h : i < l.length) : (l.map f)[i]? = some (f (l.getD i d)) := by
  simp [List.getD_eq_getElem?_getD, h]
theorem getD_mem {α : Type} (l : List α) (i : Nat) (d : α) (h : i < l.length) : l.getD i d ∈ l := by
  simp [List.getD_eq_getElem?_getD, h]
theorem take_all {α : Type} (l : List α) (i : Nat) (h1 : i ≤ 50) (h2 : ¬ (i < l.length ∧ i < 50)) : l.take i = l.take 50 := by
  by_cases h : i = 50
  · subst h; rfl
  · rw [List.take_of_length_le (by omega), List.take_of_length_le (by omega)]
theorem encT_le (x : ByteArray) : (encT x).length ≤ 1009 := by
  unfold encT
  split
  · have := (sizeN_le x.size).2
    have hsz : x.data.toList.length = x.size := by rw [Array.length_toList]; rfl
    rw [List.length_append, enc_length, hsz]; omega
  · simp

/-- The numbers, texts that came in, as they lie. -/
structure Came (w : World) (B : Nat) (A0 A1 A2 : Option Addr) (ls : List Nat) (ms : List Int) (ss : List ByteArray) : Prop where
  l : Rd w B A0 (ls.map fun n : Nat => Value.int .u64 (n : Int))
  m : Rd w B A1 (ms.map fun n => Value.int .i64 n)
  s : Rd w B A2 (ss.map Value.string)
  lb : ∀ n ∈ ls, n < 18446744073709551616
  mb : ∀ n ∈ ms, -9223372036854775808 ≤ n ∧ n ≤ 9223372036854775807
theorem Came.below {w w' : World} {B : Nat} {A0 A1 A2 : Option Addr} {ls : List Nat} {ms : List Int} {ss : List ByteArray} (h : Came w B A0 A1 A2 ls ms ss) (hb : Below B w w') : Came w' B A0 A1 A2 ls ms ss :=
  ⟨h.l.below hb, h.m.below hb, h.s.below hb, h.lb, h.mb⟩
theorem Came.nat {w : World} {B : Nat} {A0 A1 A2 : Option Addr} {ls : List Nat} {ms : List Int} {ss : List ByteArray} (h : Came w B A0 A1 A2 ls ms ss) (i : Nat) (hi : i < ls.length) :
    ∃ b off, A0 = some ⟨b, off, none⟩ ∧ b < B ∧ w.cell? ⟨b, off + i, none⟩ = some (.int .u64 ((ls.getD i 0 : Nat) : Int)) ∧ ls.getD i 0 < 18446744073709551616 := by
  obtain ⟨b, off, hA, hb, hc⟩ := h.l.at_ (fun e => by have := congrArg List.length e; rw [List.length_map, List.length_nil] at this; omega)
  exact ⟨b, off, hA, hb, hc i _ (map_get _ ls i 0 hi), h.lb _ (getD_mem ls i 0 hi)⟩
theorem Came.int {w : World} {B : Nat} {A0 A1 A2 : Option Addr} {ls : List Nat} {ms : List Int} {ss : List ByteArray} (h : Came w B A0 A1 A2 ls ms ss) (i : Nat) (hi : i < ms.length) :
    ∃ b off, A1 = some ⟨b, off, none⟩ ∧ b < B ∧ w.cell? ⟨b, off + i, none⟩ = some (.int .i64 (ms.getD i 0)) ∧ -9223372036854775808 ≤ ms.getD i 0 ∧ ms.getD i 0 ≤ 9223372036854775807 := by
  obtain ⟨b, off, hA, hb, hc⟩ := h.m.at_ (fun e => by have := congrArg List.length e; rw [List.length_map, List.length_nil] at this; omega)
  exact ⟨b, off, hA, hb, hc i _ (map_get _ ms i 0 hi), h.mb _ (getD_mem ms i 0 hi)⟩
theorem Came.str {w : World} {B : Nat} {A0 A1 A2 : Option Addr} {ls : List Nat} {ms : List Int} {ss : List ByteArray} (h : Came w B A0 A1 A2 ls ms ss) (i : Nat) (hi : i < ss.length) :
    ∃ b off, A2 = some ⟨b, off, none⟩ ∧ b < B ∧ w.cell? ⟨b, off + i, none⟩ = some (.string (ss.getD i ByteArray.empty)) := by
  obtain ⟨b, off, hA, hb, hc⟩ := h.s.at_ (fun e => by have := congrArg List.length e; rw [List.length_map, List.length_nil] at this; omega)
  exact ⟨b, off, hA, hb, hc i _ (map_get _ ss i ByteArray.empty hi)⟩

theorem take_getD {α : Type} (l : List α) (i : Nat) (d : α) (h1 : i < l.length) (h2 : i < 50) : (l.take 50).getD i d = l.getD i d ∧ i < (l.take 50).length := by
  refine ⟨?_, by rw [List.length_take]; omega⟩
  simp [List.getD_eq_getElem?_getD, List.getElem?_take, h2]
theorem take_done {α : Type} (l : List α) (i : Nat) (h1 : i ≤ 50) (h2 : ¬ (i < l.length ∧ i < 50)) : (l.take 50).drop i = [] := by
  apply List.drop_eq_nil_of_le
  rw [List.length_take]
  omega
theorem St.drew {w : World} {r e : Nat} {l : List UInt8} (h : St w r l e) : St w.drew r l e := h
theorem runat (r n : Nat) (t : List UInt8) (w : World) (h : St w r (enc n ++ t) 0) (hn : n < 18446744073709551616) :
    Calls Try.prog 12 #[.pointer (some ⟨r, 0, none⟩)] w fun en w' => en = .returned (.int .u64 (n : Int)) ∧ St w' r t 0 ∧ w.grownBy w' (some r) := by
  have := ruint_st r _ w h
  rw [rdU_of_enc n t hn] at this
  exact this
theorem rintat (r : Nat) (m : Int) (t : List UInt8) (w : World) (h : St w r (enc (zig m) ++ t) 0) (h0 : -9223372036854775808 ≤ m) (h1 : m ≤ 9223372036854775807) :
    Calls Try.prog 21 #[.pointer (some ⟨r, 0, none⟩)] w fun en w' => en = .returned (.int .i64 m) ∧ St w' r t 0 ∧ w.grownBy w' (some r) := by
  have := rint_st r _ w h
  rw [rdU_of_enc (zig m) t (zig_lt m h0 h1)] at this
  simp only [sgn_zig] at this
  exact this
theorem rtextat (r : Nat) (x : ByteArray) (t : List UInt8) (w : World) (h : St w r (encT x ++ t) 0) (hx : x.size ≤ 1000) :
    Calls Try.prog 22 #[.pointer (some ⟨r, 0, none⟩)] w fun en w' => en = .returned (.string x) ∧ St w' r t 0 ∧ w.grownBy w' (some r) := by
  have hsz : x.data.toList.length = x.size := by rw [Array.length_toList]; rfl
  have he : encT x = enc x.data.toList.length ++ x.data.toList := by unfold encT; rw [if_pos hx, hsz]
  rw [he] at h
  have := rtext_ok r x.data.toList t w h (by omega)
  simp only [Array.toArray_toList] at this
  exact this
theorem cell_kept {w w' : World} {r b o B : Nat} {u : Value} (h : w.cell? ⟨b, o, none⟩ = some u) (hg : w.grownBy w' (some r)) (hb : b < B) (hr : B ≤ r) : w'.cell? ⟨b, o, none⟩ = some u :=
  World.grownBy.cell hg h (by simp; omega)

set_option maxRecDepth 100000 in
set_option maxHeartbeats 2000000 in
theorem numBack.main (A0 A1 A2 : Option Addr) (nl nm ns c0 c1 c2 : Nat) (ls : List Nat) (ms : List Int) (ss : List ByteArray) (w : World) (hl : ls.length = nl) (hm : ms.length = nm) (hs : ss.length = ns)
    (hc : Came w w.heap.size A0 A1 A2 ls ms ss) (b0 : nl ≤ 9223372036854775807) (b1 : nm ≤ 9223372036854775807) (b2 : ns ≤ 9223372036854775807) :
    Calls Try.prog 7 #[.slice A0 nl c0, .slice A1 nm c1, .slice A2 ns c2] w fun e w' => e = .returned (.bool true) ∧ Below w.heap.size w w' := by
  have HC := Lib.hid hc
  have NL := Lib.hid hl
  have NM := Lib.hid hm
  have NS := Lib.hid hs
  clear hc hl hm hs
  go_enter Try.func7, Try.ntmps7
  go_upto_block 0 with (go_at_call 9; refine (awake_true _).mono ?_; rintro e w1 ⟨rfl, hb1⟩; (have HB1 := Lib.hid hb1); clear hb1)
  go_cut [8, 9] (fun v x wx => ∃ F : List UInt8, Hid (F = encL (ls.take 50)) ∧ F.length ≤ 0 + 9 * 50 ∧ Hid (wx.ownsRow w.heap.size 5 1 v F.length (bv F)) ∧ Hid (Below w.heap.size w wx))
  case first =>
    go_wp2_with fail
    go_loopw [8, 9] (fun v x wr => ∃ (i : Nat) (F : List UInt8), x = .int .i64 i ∧ i ≤ nl ∧ i ≤ 50 ∧ F.length ≤ 0 + 9 * i ∧ Hid (F = encL (ls.take i)) ∧ Hid (wr.ownsRow w.heap.size 5 1 v F.length (bv F)) ∧ Hid (Below w.heap.size w wr)) (fun _ x _ => 50 - (intOf x).toNat)
    case atStart => exact ⟨0, [], rfl, by omega, by omega, by simp, rfl, ⟨rfl, .inl ⟨rfl, rfl⟩⟩, HB1.out⟩
    obtain ⟨i, F, rfl, hi1, hi2, hF, HF, OWN, HB⟩ := hrel
    obtain ⟨Av, cv, rfl, hcv, hcvx, _⟩ := own_slice OWN.out
    by_cases hend : i < nl ∧ i < 50
    · obtain ⟨he1, he2⟩ := hend
      have hil : i < ls.length := by rw [NL.out]; exact he1
      obtain ⟨b, off, rfl, hb, hcl, hn⟩ := (HC.out.below HB.out).nat i hil
      have hF2 : F ++ enc (ls.getD i 0) = encL (ls.take (i + 1)) := by rw [HF.out]; exact (flat_snoc enc ls i 0 hil).symm
      obtain ⟨n, hnn⟩ : ∃ n, n = ls.getD i 0 := ⟨_, rfl⟩
      rw [← hnn] at hcl hn hF2
      have hw := uint_any Av wr.heap.size F cv n wr (Rd.of_own OWN.out) hn (by omega)
      unfold Wrote at hw
      have HW := Lib.hid hw
      have HF2 := Lib.hid hF2
      clear hw hF2 hnn hil
      go_wp2_with fail
      refine HW.out.mono ?_
      rintro e w4 ⟨g4, c4, rfl, own4, bel4⟩
      have hl4 : (F ++ enc n).length ≤ 0 + 9 * (i + 1) := by
        have := (sizeN_le n).2
        rw [List.length_append, enc_length]
        omega
      have HB4 := Lib.hid (HB.out.trans (bel4.mono HB.out.size))
      have OWN4 := Lib.hid (own_base own4 HB.out.size)
      clear own4 bel4
      go_wp2_with fail
      go_roundw
      case rel =>
        refine ⟨i + 1, _, by go_num, by omega, by omega, hl4, HF2.out, ?_, HB4.out⟩
        have h := OWN4.out
        simp only [List.length_append] at h
        show w4.ownsRow _ _ _ _ _ _
        simp only [List.length_append]
        exact h
      case measure => simp [intOf]; omega
    · have hfin := HF.out
      rw [take_all ls i hi2 (by rw [NL.out]; exact hend)] at hfin
      have HFIN := Lib.hid hfin
      clear hfin
      by_cases hni : i < nl
      all_goals
        go_wp2_with fail
        go_meet
        exact ⟨F, HFIN.out, by omega, OWN.out, HB.out⟩
  case rest =>
    obtain ⟨F1, HF1, hF1, OWN0, HB0⟩ := hcut
    obtain ⟨Av, cv, rfl, hcv, hcvx, _⟩ := own_slice OWN0.out
    go_upto_block 2 with fail
    go_cut [8, 10] (fun v x wx => ∃ F : List UInt8, Hid (F = F1 ++ encM (ms.take 50)) ∧ F.length ≤ 450 + 9 * 50 ∧ Hid (wx.ownsRow w.heap.size 5 1 v F.length (bv F)) ∧ Hid (Below w.heap.size w wx))
    case first =>
      go_wp2_with fail
      go_loopw [8, 10] (fun v x wr => ∃ (i : Nat) (F : List UInt8), x = .int .i64 i ∧ i ≤ nm ∧ i ≤ 50 ∧ F.length ≤ 450 + 9 * i ∧ Hid (F = F1 ++ encM (ms.take i)) ∧ Hid (wr.ownsRow w.heap.size 5 1 v F.length (bv F)) ∧ Hid (Below w.heap.size w wr)) (fun _ x _ => 50 - (intOf x).toNat)
      case atStart => exact ⟨0, F1, rfl, by omega, by omega, by omega, by show F1 = F1 ++ _; simp [encM], OWN0.out, HB0.out⟩
      obtain ⟨i, F, rfl, hi1, hi2, hF, HF, OWN, HB⟩ := hrel
      obtain ⟨Av, cv, rfl, hcv, hcvx, _⟩ := own_slice OWN.out
      by_cases hend : i < nm ∧ i < 50
      · obtain ⟨he1, he2⟩ := hend
        have hil : i < ms.length := by rw [NM.out]; exact he1
        obtain ⟨b, off, rfl, hb, hcl, hn0, hn1⟩ := (HC.out.below HB.out).int i hil
        have hF2 : F ++ enc (zig (ms.getD i 0)) = F1 ++ encM (ms.take (i + 1)) := by rw [HF.out, List.append_assoc]; exact congrArg (F1 ++ ·) (flat_snoc (fun x => enc (zig x)) ms i 0 hil).symm
        obtain ⟨m, hnn⟩ : ∃ n, n = ms.getD i 0 := ⟨_, rfl⟩
        rw [← hnn] at hcl hn0 hn1 hF2
        have hw := int_any Av wr.heap.size F cv m wr (Rd.of_own OWN.out) hn0 hn1 (by omega)
        unfold Wrote at hw
        have HW := Lib.hid hw
        have HF2 := Lib.hid hF2
        clear hw hF2 hnn hil hn0 hn1
        go_wp2_with fail
        refine HW.out.mono ?_
        rintro e w4 ⟨g4, c4, rfl, own4, bel4⟩
        have hl4 : (F ++ enc (zig m)).length ≤ 450 + 9 * (i + 1) := by
          have := (sizeN_le (zig m)).2
          rw [List.length_append, enc_length]
          omega
        have HB4 := Lib.hid (HB.out.trans (bel4.mono HB.out.size))
        have OWN4 := Lib.hid (own_base own4 HB.out.size)
        clear own4 bel4
        go_wp2_with fail
        go_roundw
        case rel =>
          refine ⟨i + 1, _, by go_num, by omega, by omega, hl4, HF2.out, ?_, HB4.out⟩
          have h := OWN4.out
          simp only [List.length_append] at h
          show w4.ownsRow _ _ _ _ _ _
          simp only [List.length_append]
          exact h
        case measure => simp [intOf]; omega
      · have hfin := HF.out
        rw [take_all ms i hi2 (by rw [NM.out]; exact hend)] at hfin
        have HFIN := Lib.hid hfin
        clear hfin
        by_cases hni : i < nm
        all_goals
          go_wp2_with fail
          go_meet
          exact ⟨F, HFIN.out, by omega, OWN.out, HB.out⟩
    case rest =>
      obtain ⟨F2, HF2, hF2, OWN0, HB0⟩ := hcut
      obtain ⟨Av, cv, rfl, hcv, hcvx, _⟩ := own_slice OWN0.out
      go_upto_block 4 with fail
      go_cut [8, 11] (fun v x wx => ∃ F : List UInt8, Hid (F = F2 ++ encS (ss.take 50)) ∧ F.length ≤ 900 + 1009 * 50 ∧ Hid (wx.ownsRow w.heap.size 5 1 v F.length (bv F)) ∧ Hid (Below w.heap.size w wx))
      case first =>
        go_wp2_with fail
        go_loopw [8, 11] (fun v x wr => ∃ (i : Nat) (F : List UInt8), x = .int .i64 i ∧ i ≤ ns ∧ i ≤ 50 ∧ F.length ≤ 900 + 1009 * i ∧ Hid (F = F2 ++ encS (ss.take i)) ∧ Hid (wr.ownsRow w.heap.size 5 1 v F.length (bv F)) ∧ Hid (Below w.heap.size w wr)) (fun _ x _ => 50 - (intOf x).toNat)
        case atStart => exact ⟨0, F2, rfl, by omega, by omega, by omega, by show F2 = F2 ++ _; simp [encS], OWN0.out, HB0.out⟩
        obtain ⟨i, F, rfl, hi1, hi2, hF, HF, OWN, HB⟩ := hrel
        obtain ⟨Av, cv, rfl, hcv, hcvx, _⟩ := own_slice OWN.out
        by_cases hend : i < ns ∧ i < 50
        · obtain ⟨he1, he2⟩ := hend
          have hil : i < ss.length := by rw [NS.out]; exact he1
          obtain ⟨b, off, rfl, hb, hcl⟩ := (HC.out.below HB.out).str i hil
          have hF2 : F ++ encT (ss.getD i ByteArray.empty) = F2 ++ encS (ss.take (i + 1)) := by rw [HF.out, List.append_assoc]; exact congrArg (F2 ++ ·) (flat_snoc encT ss i ByteArray.empty hil).symm
          obtain ⟨x, hxx⟩ : ∃ n, n = ss.getD i ByteArray.empty := ⟨_, rfl⟩
          rw [← hxx] at hcl hF2
          clear hil hxx
          by_cases hx : x.size ≤ 1000
          · have hw := text_any Av wr.heap.size F cv x wr (Rd.of_own OWN.out) hx (by omega)
            have he : encT x = enc x.size ++ x.data.toList := by unfold encT; rw [if_pos hx]
            have hle := encT_le x
            rw [he] at hF2 hle
            rw [List.append_assoc] at hw
            obtain ⟨ex, hex⟩ : ∃ ex, ex = enc x.size ++ x.data.toList := ⟨_, rfl⟩
            rw [← hex] at hw hF2 hle
            unfold Wrote at hw
            have HW := Lib.hid hw
            have HF2' := Lib.hid hF2
            clear hw hF2 he hex
            go_wp2_with fail
            refine HW.out.mono ?_
            rintro e w4 ⟨g4, c4, rfl, own4, bel4⟩
            have hl4 : (F ++ ex).length ≤ 900 + 1009 * (i + 1) := by
              rw [List.length_append]
              omega
            have HB4 := Lib.hid (HB.out.trans (bel4.mono HB.out.size))
            have OWN4 := Lib.hid (own_base own4 HB.out.size)
            clear own4 bel4 hle
            go_wp2_with fail
            go_roundw
            case rel =>
              refine ⟨i + 1, _, by go_num, by omega, by omega, hl4, HF2'.out, ?_, HB4.out⟩
              have h := OWN4.out
              simp only [List.length_append] at h
              show w4.ownsRow _ _ _ _ _ _
              simp only [List.length_append]
              exact h
            case measure => simp [intOf]; omega
          · have he : encT x = [] := by unfold encT; rw [if_neg hx]
            rw [he, List.append_nil] at hF2
            have HF2' := Lib.hid hF2
            clear hF2 he
            go_wp2_with fail
            go_roundw
            case rel => exact ⟨i + 1, F, by go_num, by omega, by omega, by omega, HF2'.out, OWN.out, HB.out⟩
            case measure => simp [intOf]; omega
        · have hfin := HF.out
          rw [take_all ss i hi2 (by rw [NS.out]; exact hend)] at hfin
          have HFIN := Lib.hid hfin
          clear hfin
          by_cases hni : i < ns
          all_goals
            go_wp2_with fail
            go_meet
            exact ⟨F, HFIN.out, by omega, OWN.out, HB.out⟩
      case rest =>
        obtain ⟨F3, HF3, hF3, OWN0, HB0⟩ := hcut
        obtain ⟨Av, cv, rfl, hcv, hcvx, hrd⟩ := own_slice OWN0.out
        have hst := read_st Av F3 cv wc hrd hcv hcvx
        have HST := Lib.hid hst
        clear hrd hst
        go_wp2_with fail
        refine HST.out.mono ?_
        rintro e wr ⟨r, rfl, hr, st, gr⟩
        have hwr : w.heap.size ≤ r := by have := HB0.out.size; omega
        have HBR := Lib.hid (HB0.out.grown gr HB0.out.size (fun k e => by cases e))
        have hall : F3 = encL (ls.take 50) ++ (encM (ms.take 50) ++ encS (ss.take 50)) := by rw [HF3.out, HF2.out, HF1.out, List.append_assoc]
        rw [hall] at st
        have ST := Lib.hid st
        clear st gr hr hall OWN0 HB0
        go_upto_block 6 with fail
        go_cut [13] (fun x wx => Hid (St wx r (encM (ms.take 50) ++ encS (ss.take 50)) 0) ∧ Hid (Below w.heap.size w wx))
        case first =>
          go_wp2_with fail
          go_loopw [13] (fun x wr => ∃ i : Nat, x = .int .i64 i ∧ i ≤ nl ∧ i ≤ 50 ∧ Hid (St wr r (encL ((ls.take 50).drop i) ++ (encM (ms.take 50) ++ encS (ss.take 50))) 0) ∧ Hid (Below w.heap.size w wr)) (fun x _ => 50 - (intOf x).toNat)
          case atStart => exact ⟨0, rfl, by omega, by omega, ST.out, HBR.out⟩
          obtain ⟨i, rfl, hi1, hi2, ST, HB⟩ := hrel
          by_cases hend : i < nl ∧ i < 50
          · obtain ⟨he1, he2⟩ := hend
            have hil : i < ls.length := by rw [NL.out]; exact he1
            obtain ⟨htd, htl⟩ := take_getD ls i 0 hil he2
            have hsp := flat_drop enc (ls.take 50) i 0 htl
            rw [htd] at hsp
            obtain ⟨b, off, rfl, hb, hcl, hn⟩ := (HC.out.below HB.out).nat i hil
            obtain ⟨n, hnn⟩ : ∃ n, n = ls.getD i 0 := ⟨_, rfl⟩
            rw [← hnn] at hcl hn hsp
            clear hnn
            have h1 := ST.out
            rw [show encL ((ls.take 50).drop i) = enc n ++ encL ((ls.take 50).drop (i + 1)) from hsp, List.append_assoc] at h1
            have S1 := Lib.hid (St.drew h1)
            clear h1 hsp htd htl hil ST
            have hi0 : (0 : Int) ≤ (i : Int) := by omega
            have hin : (i : Int) < (nl : Int) := by omega
            have hcd : wr.drew.cell? ⟨b, off + i, none⟩ = some (.int .u64 (n : Int)) := hcl
            go_wp2_with fail
            go_region_held3 (fun w' => w'.cell? ⟨b, off + i, none⟩ = some (.int .u64 (n : Int))) (first | exact hc2 | exact hcd)
              (first
                | (go_at_call 12; refine (runat r n _ _ S1.out hn).mono ?_; rintro en w2 ⟨rfl, st2, gr2⟩; (have S2 := Lib.hid st2); (have HB2 := Lib.hid ((HB.out.drew).grown gr2 HB.out.size (fun k hk => by cases hk; exact hwr))); (have hc2 := cell_kept hcd gr2 hb hwr); clear st2 gr2))
            go_wp2_with fail
            go_roundw
            case rel => exact ⟨i + 1, by go_num, by omega, by omega, S2.out, HB2.out⟩
            case measure => simp [intOf]; omega

          · have hdn := take_done ls i hi2 (by rw [NL.out]; exact hend)
            have st2 := ST.out
            rw [hdn] at st2
            have S2 := Lib.hid (show St wr r (encM (ms.take 50) ++ encS (ss.take 50)) 0 from st2)
            clear hdn st2 ST
            by_cases hni : i < nl
            all_goals
              go_wp2_with fail
              go_meet
              exact ⟨S2.out, HB.out⟩
        case rest =>
          obtain ⟨STN, HBN⟩ := hcut
          go_upto_block 8 with fail
          go_cut [14] (fun x wx => Hid (St wx r (encS (ss.take 50)) 0) ∧ Hid (Below w.heap.size w wx))
          case first =>
            go_wp2_with fail
            go_loopw [14] (fun x wr => ∃ i : Nat, x = .int .i64 i ∧ i ≤ nm ∧ i ≤ 50 ∧ Hid (St wr r (encM ((ms.take 50).drop i) ++ (encS (ss.take 50))) 0) ∧ Hid (Below w.heap.size w wr)) (fun x _ => 50 - (intOf x).toNat)
            case atStart => exact ⟨0, rfl, by omega, by omega, STN.out, HBN.out⟩
            obtain ⟨i, rfl, hi1, hi2, ST, HB⟩ := hrel
            by_cases hend : i < nm ∧ i < 50
            · obtain ⟨he1, he2⟩ := hend
              have hil : i < ms.length := by rw [NM.out]; exact he1
              obtain ⟨htd, htl⟩ := take_getD ms i 0 hil he2
              have hsp := flat_drop (fun x => enc (zig x)) (ms.take 50) i 0 htl
              rw [htd] at hsp
              obtain ⟨b, off, rfl, hb, hcl, hn0, hn1⟩ := (HC.out.below HB.out).int i hil
              obtain ⟨m, hnn⟩ : ∃ n, n = ms.getD i 0 := ⟨_, rfl⟩
              rw [← hnn] at hcl hn0 hn1 hsp
              clear hnn
              have h1 := ST.out
              rw [show encM ((ms.take 50).drop i) = enc (zig m) ++ encM ((ms.take 50).drop (i + 1)) from hsp, List.append_assoc] at h1
              have S1 := Lib.hid (St.drew h1)
              clear h1 hsp htd htl hil ST
              have hi0 : (0 : Int) ≤ (i : Int) := by omega
              have hin : (i : Int) < (nm : Int) := by omega
              have hcd : wr.drew.cell? ⟨b, off + i, none⟩ = some (.int .i64 m) := hcl
              go_wp2_with fail
              go_region_held3 (fun w' => w'.cell? ⟨b, off + i, none⟩ = some (.int .i64 m)) (first | exact hc2 | exact hcd)
                (first
                  | (go_at_call 21; refine (rintat r m _ _ S1.out hn0 hn1).mono ?_; rintro en w2 ⟨rfl, st2, gr2⟩; (have S2 := Lib.hid st2); (have HB2 := Lib.hid ((HB.out.drew).grown gr2 HB.out.size (fun k hk => by cases hk; exact hwr))); (have hc2 := cell_kept hcd gr2 hb hwr); clear st2 gr2))
              go_wp2_with fail
              go_roundw
              case rel => exact ⟨i + 1, by go_num, by omega, by omega, S2.out, HB2.out⟩
              case measure => simp [intOf]; omega

            · have hdn := take_done ms i hi2 (by rw [NM.out]; exact hend)
              have st2 := ST.out
              rw [hdn] at st2
              have S2 := Lib.hid (show St wr r (encS (ss.take 50)) 0 from st2)
              clear hdn st2 ST
              by_cases hni : i < nm
              all_goals
                go_wp2_with fail
                go_meet
                exact ⟨S2.out, HB.out⟩
          case rest =>
            obtain ⟨STN, HBN⟩ := hcut
            go_wp2_with fail
            go_loopw [15] (fun x wr => ∃ i : Nat, x = .int .i64 i ∧ i ≤ ns ∧ i ≤ 50 ∧ Hid (St wr r (encS ((ss.take 50).drop i)) 0) ∧ Hid (Below w.heap.size w wr)) (fun x _ => 50 - (intOf x).toNat)
            case atStart => exact ⟨0, rfl, by omega, by omega, STN.out, HBN.out⟩
            obtain ⟨i, rfl, hi1, hi2, ST, HB⟩ := hrel
            by_cases hend : i < ns ∧ i < 50
            · obtain ⟨he1, he2⟩ := hend
              have hil : i < ss.length := by rw [NS.out]; exact he1
              obtain ⟨htd, htl⟩ := take_getD ss i ByteArray.empty hil he2
              have hsp := flat_drop encT (ss.take 50) i ByteArray.empty htl
              rw [htd] at hsp
              obtain ⟨b, off, rfl, hb, hcl⟩ := (HC.out.below HB.out).str i hil
              obtain ⟨x, hxx⟩ : ∃ n, n = ss.getD i ByteArray.empty := ⟨_, rfl⟩
              rw [← hxx] at hcl hsp
              clear hxx
              have h1 := ST.out
              rw [show encS ((ss.take 50).drop i) = encT x ++ encS ((ss.take 50).drop (i + 1)) from hsp] at h1
              have hi0 : (0 : Int) ≤ (i : Int) := by omega
              have hin : (i : Int) < (ns : Int) := by omega
              have hcd : wr.drew.cell? ⟨b, off + i, none⟩ = some (.string x) := hcl
              by_cases hx : x.size ≤ 1000
              · have S1 := Lib.hid (St.drew h1)
                have hd : decide ((x.size : Int) ≤ 1000) = true := by simp; omega
                clear h1 hsp htd htl hil ST
                go_wp2_with fail
                go_region_held3 (fun w' => w'.cell? ⟨b, off + i, none⟩ = some (.string x)) (first | exact hc2 | exact hcd)
                  (first
                    | (go_at_call 22; refine (rtextat r x _ _ S1.out hx).mono ?_; rintro en w2 ⟨rfl, st2, gr2⟩; (have S2 := Lib.hid st2); (have HB2 := Lib.hid ((HB.out.drew).grown gr2 HB.out.size (fun k hk => by cases hk; exact hwr))); (have hc2 := cell_kept hcd gr2 hb hwr); clear st2 gr2))
                go_wp2_with fail
                go_roundw
                case rel => exact ⟨i + 1, by go_num, by omega, by omega, S2.out, HB2.out⟩
                case measure => simp [intOf]; omega
              · have he : encT x = [] := by unfold encT; rw [if_neg hx]
                rw [he, List.nil_append] at h1
                have S2 := Lib.hid (St.drew h1)
                have HB2 := Lib.hid (HB.out.drew)
                have hd : decide ((x.size : Int) ≤ 1000) = false := by simp; omega
                clear h1 hsp htd htl hil ST he
                go_wp2_with fail
                refine wp_region_held_drew (S := fun w' => w'.cell? ⟨b, off + i, none⟩ = some (.string x)) (by kernel_rfl) (hcd) (fun hHeld => ?_)
                refine wpAnyH_take (i := 0) (v := ?_) (by simp only [List.getElem?_toArray, List.getElem?_cons_zero]; rfl) (by kernel_rfl) (by kernel_rfl) (by kernel_rfl) (by intro _ _ _ h; exact h) (Or.inl ⟨by rfl, ?_⟩) (by assumption) ?_
                rotate_left
                · intro w hSw
                  try dsimp only at hSw
                  (go_simp <;> with_reducible rfl)
                try simp only [Act.put, List.setIfInBounds_toArray, List.set_cons_zero, List.set_cons_succ]
                refine wpAnyH_take (i := 1) (v := ?_) (by simp only [List.getElem?_toArray, List.getElem?_cons_zero, List.getElem?_cons_succ]; rfl) (by kernel_rfl) (by kernel_rfl) (by kernel_rfl) (by intro _ _ _ h; exact h) (Or.inl ⟨by rfl, ?_⟩) (by assumption) ?_
                rotate_left
                · intro w hSw
                  try dsimp only at hSw
                  (go_simp <;> with_reducible rfl)
                try simp only [Act.put, List.setIfInBounds_toArray, List.set_cons_zero, List.set_cons_succ]
                refine wpAnyH_take (i := 2) (v := ?_) (by simp only [List.getElem?_toArray, List.getElem?_cons_zero, List.getElem?_cons_succ]; rfl) (by kernel_rfl) (by kernel_rfl) (by kernel_rfl) (by intro _ _ _ h; exact h) (Or.inl ⟨by rfl, ?_⟩) (by assumption) ?_
                rotate_left
                · intro w hSw
                  try dsimp only at hSw
                  (go_simp <;> with_reducible rfl)
                try simp only [Act.put, List.setIfInBounds_toArray, List.set_cons_zero, List.set_cons_succ]
                refine wpAnyH_take (i := 3) (v := ?_) (by simp only [List.getElem?_toArray, List.getElem?_cons_zero, List.getElem?_cons_succ]; rfl) (by kernel_rfl) (by kernel_rfl) (by kernel_rfl) (by intro _ _ _ h; exact h) (Or.inl ⟨by rfl, ?_⟩) (by assumption) ?_
                rotate_left
                · intro w hSw
                  try dsimp only at hSw
                  (go_simp <;> with_reducible rfl)
                try simp only [Act.put, List.setIfInBounds_toArray, List.set_cons_zero, List.set_cons_succ]
                refine wpAnyH_take (i := 4) (v := ?_) (by simp only [List.getElem?_toArray, List.getElem?_cons_zero, List.getElem?_cons_succ]; rfl) (by kernel_rfl) (by kernel_rfl) (by kernel_rfl) (by intro _ _ _ h; exact h) (Or.inl ⟨by rfl, ?_⟩) (by assumption) ?_
                rotate_left
                · intro w hSw
                  try dsimp only at hSw
                  (go_simp <;> with_reducible rfl)
                try simp only [Act.put, List.setIfInBounds_toArray, List.set_cons_zero, List.set_cons_succ]
                refine wpAnyH_take (i := 5) (v := ?_) (by simp only [List.getElem?_toArray, List.getElem?_cons_zero, List.getElem?_cons_succ]; rfl) (by kernel_rfl) (by kernel_rfl) (by kernel_rfl) (by intro _ _ _ h; exact h) (Or.inl ⟨by rfl, ?_⟩) (by assumption) ?_
                rotate_left
                · intro w hSw
                  try dsimp only at hSw
                  (go_simp <;> with_reducible rfl)
                try simp only [Act.put, List.setIfInBounds_toArray, List.set_cons_zero, List.set_cons_succ]
                refine wpAnyH_take (i := 6) (v := ?_) (by simp only [List.getElem?_toArray, List.getElem?_cons_zero, List.getElem?_cons_succ]; rfl) (by kernel_rfl) (by kernel_rfl) (by kernel_rfl) (by intro _ _ _ h; exact h) (Or.inl ⟨by rfl, ?_⟩) (by assumption) ?_
                rotate_left
                · intro w hSw
                  try dsimp only at hSw
                  (go_simp <;> with_reducible rfl)
                try simp only [Act.put, List.setIfInBounds_toArray, List.set_cons_zero, List.set_cons_succ]
                refine wpAnyH_take (i := 7) (v := undef) (by simp only [List.getElem?_toArray, List.getElem?_cons_zero, List.getElem?_cons_succ]; rfl) (by kernel_rfl) (by kernel_rfl) (by kernel_rfl) (by intro _ _ _ h; exact h) (Or.inr ⟨by rfl, rfl⟩) (by assumption) ?_
                try simp only [Act.put, List.setIfInBounds_toArray, List.set_cons_zero, List.set_cons_succ]
                refine wpAnyH_take (i := 8) (v := undef) (by simp only [List.getElem?_toArray, List.getElem?_cons_zero, List.getElem?_cons_succ]; rfl) (by kernel_rfl) (by kernel_rfl) (by kernel_rfl) (by intro _ _ _ h; exact h) (Or.inr ⟨by rfl, rfl⟩) (by assumption) ?_
                try simp only [Act.put, List.setIfInBounds_toArray, List.set_cons_zero, List.set_cons_succ]
                refine wpAnyH_take (i := 9) (v := undef) (by simp only [List.getElem?_toArray, List.getElem?_cons_zero, List.getElem?_cons_succ]; rfl) (by kernel_rfl) (by kernel_rfl) (by kernel_rfl) (by intro _ _ _ h; exact h) (Or.inr ⟨by rfl, rfl⟩) (by assumption) ?_
                try simp only [Act.put, List.setIfInBounds_toArray, List.set_cons_zero, List.set_cons_succ]
                refine wpAnyH_take (i := 10) (v := undef) (by simp only [List.getElem?_toArray, List.getElem?_cons_zero, List.getElem?_cons_succ]; rfl) (by kernel_rfl) (by kernel_rfl) (by kernel_rfl) (by intro _ _ _ h; exact h) (Or.inr ⟨by rfl, rfl⟩) (by assumption) ?_
                try simp only [Act.put, List.setIfInBounds_toArray, List.set_cons_zero, List.set_cons_succ]
                refine wpAnyH_take (i := 11) (v := undef) (by simp only [List.getElem?_toArray, List.getElem?_cons_zero, List.getElem?_cons_succ]; rfl) (by kernel_rfl) (by kernel_rfl) (by kernel_rfl) (by intro _ _ _ h; exact h) (Or.inr ⟨by rfl, rfl⟩) (by assumption) ?_
                try simp only [Act.put, List.setIfInBounds_toArray, List.set_cons_zero, List.set_cons_succ]
                refine wpAnyH_take (i := 12) (v := undef) (by simp only [List.getElem?_toArray, List.getElem?_cons_zero, List.getElem?_cons_succ]; rfl) (by kernel_rfl) (by kernel_rfl) (by kernel_rfl) (by intro _ _ _ h; exact h) (Or.inr ⟨by rfl, rfl⟩) (by assumption) ?_
                try simp only [Act.put, List.setIfInBounds_toArray, List.set_cons_zero, List.set_cons_succ]
                refine wpAnyH_take (i := 13) (v := undef) (by simp only [List.getElem?_toArray, List.getElem?_cons_zero, List.getElem?_cons_succ]; rfl) (by kernel_rfl) (by kernel_rfl) (by kernel_rfl) (by intro _ _ _ h; exact h) (Or.inr ⟨by rfl, rfl⟩) (by assumption) ?_
                try simp only [Act.put, List.setIfInBounds_toArray, List.set_cons_zero, List.set_cons_succ]
                refine wpAnyH_take (i := 14) (v := ?_) (by simp only [List.getElem?_toArray, List.getElem?_cons_zero, List.getElem?_cons_succ]; rfl) (by kernel_rfl) (by kernel_rfl) (by kernel_rfl) (by intro _ _ _ h; exact h) (Or.inl ⟨by rfl, ?_⟩) (by assumption) ?_
                rotate_left
                · intro w hSw
                  try dsimp only at hSw
                  (go_simp <;> with_reducible rfl)
                try simp only [Act.put, List.setIfInBounds_toArray, List.set_cons_zero, List.set_cons_succ]
                refine wpAnyH_done (by kernel_rfl) ?_ _
                go_wp2_with fail
                go_roundw
                case rel => exact ⟨i + 1, by go_num, by omega, by omega, S2.out, HB2.out⟩
                case measure => simp [intOf]; omega
            · have hdn := take_done ss i hi2 (by rw [NS.out]; exact hend)
              have st2 := ST.out
              rw [hdn] at st2
              have S2 := Lib.hid (show St wr r [] 0 from st2)
              have hend2 : Calls Try.prog 15 #[.pointer (some ⟨r, 0, none⟩)] wr fun en w' => en = .returned (.int .i64 0) ∧ St w' r [] 0 ∧ wr.grownBy w' (some r) := by
                refine (end_st r [] 0 wr S2.out).mono fun en w' h => ?_
                rw [if_neg (fun k => k.2 rfl)] at h
                exact h
              have HE := Lib.hid hend2
              clear hdn st2 ST hend2
              by_cases hni : i < ns
              all_goals
                go_wp2_with fail
                refine HE.out.mono ?_
                rintro en w3 ⟨rfl, st3, gr3⟩
                have HB3 := Lib.hid (HB.out.grown gr3 HB.out.size (fun k hk => by cases hk; exact hwr))
                have S3 := Lib.hid (left_st r [] 0 w3 st3)
                clear st3 gr3
                go_wp2_with fail
                refine S3.out.mono ?_
                rintro en w4 ⟨rfl, rfl⟩
                go_wp2_with fail
                go_returns
                exact ⟨rfl, HB3.out⟩

theorem IsRow.rd {k : IntKind} {w : World} {a : Option Addr} {len cap : Nat} {zs : List Int} (h : IsRow k w a len cap zs) :
    ∃ vs : List Int, vs.length = len ∧ Rd w w.heap.size a (vs.map (Value.int k)) ∧ len ≤ 9223372036854775807 ∧ ∀ n ∈ vs, (Lit.int k n).wf = true := by
  rcases h with ⟨rfl, rfl, rfl, rfl⟩ | ⟨x, rfl, hl, hm, hz, hcell, hwf⟩
  · exact ⟨[], rfl, .inl rfl, by omega, fun n h => by cases h⟩
  · unfold maxLen at hm
    refine ⟨zs.take len, by simp; omega, ?_, by omega, fun n hn => hwf n (List.mem_of_mem_take hn)⟩
    rcases Nat.eq_zero_or_pos len with h0 | h0
    · subst h0; exact .inl (by simp)
    · obtain ⟨b, off, spot⟩ := x
      have hc := hcell 0 (by omega)
      have hspot : spot = none := by simpa [Addr.add] using World.cell?_spot hc
      subst hspot
      refine .inr ⟨b, off, rfl, World.block_lt_of_cell? _ _ hc, fun j u hj => ?_⟩
      have hjl : j < len := by
        have := (List.getElem?_eq_some_iff.1 hj).1
        rw [List.length_map, List.length_take] at this
        omega
      have hjz : j < zs.length := by omega
      have hu : u = .int k (zs.getD j 0) := by
        simp only [List.getElem?_map, List.getElem?_take, if_pos hjl, List.getElem?_eq_getElem hjz, Option.map_some] at hj
        injection hj with hj
        rw [← hj]
        simp [List.getD_eq_getElem?_getD, hjz]
      rw [hu]
      have := hcell j hjz
      unfold Addr.add at this
      split at this
      · subst j; simpa using this
      · exact this

/-- A slice of strings that came in. -/
def IsStrs (w : World) (a : Option Addr) (len cap : Nat) (ss : List ByteArray) : Prop :=
  (a = none ∧ len = 0 ∧ cap = 0 ∧ ss = []) ∨
  ∃ x, a = some x ∧ len ≤ cap ∧ cap ≤ maxLen ∧ ss.length = cap ∧ (∀ i, i < ss.length → w.cell? (x.add i) = some (.string (ss.getD i ByteArray.empty)))
theorem IsStrs.rd {w : World} {a : Option Addr} {len cap : Nat} {zs : List ByteArray} (h : IsStrs w a len cap zs) :
    ∃ vs : List ByteArray, vs.length = len ∧ Rd w w.heap.size a (vs.map Value.string) ∧ len ≤ 9223372036854775807 := by
  rcases h with ⟨rfl, rfl, rfl, rfl⟩ | ⟨x, rfl, hl, hm, hz, hcell⟩
  · exact ⟨[], rfl, .inl rfl, by omega⟩
  · unfold maxLen at hm
    refine ⟨zs.take len, by simp; omega, ?_, by omega⟩
    rcases Nat.eq_zero_or_pos len with h0 | h0
    · subst h0; exact .inl (by simp)
    · obtain ⟨b, off, spot⟩ := x
      have hc := hcell 0 (by omega)
      have hspot : spot = none := by simpa [Addr.add] using World.cell?_spot hc
      subst hspot
      refine .inr ⟨b, off, rfl, World.block_lt_of_cell? _ _ hc, fun j u hj => ?_⟩
      have hjl : j < len := by
        have := (List.getElem?_eq_some_iff.1 hj).1
        rw [List.length_map, List.length_take] at this
        omega
      have hjz : j < zs.length := by omega
      have hu : u = .string (zs.getD j ByteArray.empty) := by
        simp only [List.getElem?_map, List.getElem?_take, if_pos hjl, List.getElem?_eq_getElem hjz, Option.map_some] at hj
        injection hj with hj
        rw [← hj]
        simp [List.getD_eq_getElem?_getD, hjz]
      rw [hu]
      have := hcell j hjz
      unfold Addr.add at this
      split at this
      · subst j; simpa using this
      · exact this

theorem numBack.walk (a0 a1 a2 : Option Addr) (len0 cap0 len1 cap1 len2 cap2 : Nat) (z0 z1 : List Int) (z2 : List ByteArray) (w : World)
    (w0 : IsRow .u64 w a0 len0 cap0 z0) (w1 : IsRow .i64 w a1 len1 cap1 z1) (w2 : IsStrs w a2 len2 cap2 z2) :
    Calls Try.prog 7 #[.slice a0 len0 cap0, .slice a1 len1 cap1, .slice a2 len2 cap2] w fun e w' => e = .returned (.bool true) ∧ Below w.heap.size w w' := by
  obtain ⟨v0, n0, r0, m0, k0⟩ := w0.rd
  obtain ⟨v1, n1, r1, m1, k1⟩ := w1.rd
  obtain ⟨v2, n2, r2, m2⟩ := w2.rd
  have k0' : ∀ n ∈ v0, 0 ≤ n ∧ n ≤ 18446744073709551615 := fun n hn => by
    have := k0 n hn
    rw [Go.Lit.wf_int_iff] at this
    simpa [IntKind.min, IntKind.max, IntKind.bits, IntKind.signed] using this
  have k1' : ∀ n ∈ v1, -9223372036854775808 ≤ n ∧ n ≤ 9223372036854775807 := fun n hn => by
    have := k1 n hn
    rw [Go.Lit.wf_int_iff] at this
    simpa [IntKind.min, IntKind.max, IntKind.bits, IntKind.signed] using this
  refine numBack.main a0 a1 a2 len0 len1 len2 cap0 cap1 cap2 (v0.map Int.toNat) v1 v2 w (by rw [List.length_map]; exact n0) n1 n2 ⟨?_, r1, r2, ?_, k1'⟩ m0 m1 m2
  · have e : (v0.map Int.toNat).map (fun n : Nat => Value.int .u64 (n : Int)) = v0.map (Value.int .u64) := by
      rw [List.map_map]
      refine List.map_congr_left fun n hn => ?_
      show Value.int .u64 ((n.toNat : Nat) : Int) = _
      rw [Int.toNat_of_nonneg (k0' n hn).1]
    rw [e]
    exact r0
  · intro n hn
    rw [List.mem_map] at hn
    obtain ⟨x, hx, rfl⟩ := hn
    have := k0' x hx
    omega
end Go.Proofs.Ytmhhppolhciigaa
