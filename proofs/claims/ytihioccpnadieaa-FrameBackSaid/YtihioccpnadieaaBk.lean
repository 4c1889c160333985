/- The walk of FrameBack. -/
import Derived.Test.YtihioccpnadieaaBd
import Derived.Deep.Matrix
namespace Go.Proofs.Ytihioccpnadieaa
open Go.RowKit
set_option linter.unusedVariables false

theorem Chain.further {l : List UInt8} : ∀ {p : Nat} {xs ys : List Nat} {q r : Nat}, Chain l p xs q → okAt l q → Chain l p ys r → ¬ okAt l r → q < r
  | p, [], [], q, r, h, hq, k, hr => by have h : p = q := h; have k : p = r := k; subst h; subst k; exact absurd hq hr
  | p, [], y :: ys, q, r, h, hq, ⟨_, hp, k⟩, hr => by
    have h : p = q := h
    subst h
    have := k.bound.1
    unfold nextAt at this
    omega
  | p, x :: xs, [], q, r, ⟨_, hp, _⟩, hq, k, hr => by have k : p = r := k; subst k; exact absurd hp hr
  | p, x :: xs, y :: ys, q, r, ⟨_, _, h⟩, hq, ⟨_, _, k⟩, hr => Chain.further h hq k hr

theorem flatten_len (bs : List (List UInt8)) (h : ∀ b ∈ bs, b.length ≤ 1000) : (bs.map frameOf).flatten.length ≤ 1008 * bs.length := by
  induction bs with
  | nil => simp
  | cons b bs ih =>
    have := ih fun c hc => h c (by simp [hc])
    have hb := h b (by simp)
    rw [List.map_cons, List.flatten_cons, List.length_append, frameOf_length, List.length_cons]
    omega

theorem frameBack.big (A0 A : Option Addr) (n0 c0 n cap : Nat) (w : World) (h : 20 < n0 ∨ 1000 < n) :
    Calls Try.prog 6 #[.slice A0 n0 c0, .slice A n cap] w fun e w' => e = .returned (.bool true) ∧ Below w.heap.size w w' := by
  by_cases h0 : 20 < n0
  · clear h
    go_enter Try.func6, Try.ntmps6
    go_wp2_with (go_at_call 10; refine (awake_true _).mono ?_; rintro e w1 ⟨rfl, hb1⟩)
    go_returns
    exact ⟨rfl, hb1⟩
  · have h : 1000 < n := by omega
    go_enter Try.func6, Try.ntmps6
    go_wp2_with (go_at_call 10; refine (awake_true _).mono ?_; rintro e w1 ⟨rfl, hb1⟩)
    go_returns
    exact ⟨rfl, hb1⟩

set_option maxRecDepth 100000 in
set_option maxHeartbeats 2000000 in
theorem frameBack.small (A0 A : Option Addr) (c0 cap : Nat) (vs : List Value) (bs : List (List UInt8)) (l : List UInt8) (w : World) (hr0 : Rd w w.heap.size A0 vs) (hr1 : Rows2 w w.heap.size vs bs)
    (hlen : l.length ≤ cap) (hcap : cap ≤ 9223372036854775807) (hrd : Rd w w.heap.size A (bv l)) (h20 : bs.length ≤ 20) (h5 : l.length ≤ 1000) :
    Calls Try.prog 6 #[.slice A0 bs.length c0, .slice A l.length cap] w fun e w' => e = .returned (.bool true) ∧ Below w.heap.size w w' := by
  have HR := Lib.hid hrd
  have HR0 := Lib.hid hr0
  have HR1 := Lib.hid hr1
  clear hrd hr0 hr1
  go_enter Try.func6, Try.ntmps6
  go_wp2_with (go_at_call 10; refine (awake_true _).mono ?_; rintro e w1 ⟨rfl, hb1⟩; (have HB1 := Lib.hid hb1); clear hb1)
  obtain ⟨i0, hi, hz0, hz1, hz2⟩ := info_parts info5
  have hvl := HR1.out.1
  go_loopw [6, 7] (fun v i wr => ∃ (k : Nat) (F : List UInt8), i = .int .i64 k ∧ k ≤ bs.length ∧ Hid (∀ b ∈ bs.take k, b.length ≤ 1000) ∧ Hid (F = ((bs.take k).map frameOf).flatten) ∧ Hid (wr.ownsRow w.heap.size 5 1 v F.length (bv F)) ∧ Hid (Below w.heap.size w wr)) (fun _ i _ => bs.length - (intOf i).toNat)
  case atStart => exact ⟨0, [], rfl, by omega, fun b hb => by simp at hb, rfl, ⟨rfl, .inl ⟨rfl, rfl⟩⟩, HB1.out⟩
  obtain ⟨k, F, rfl, hk, HL, HF, OWN, HB⟩ := hrel
  have hFl : F.length ≤ 20160 := by
    have := flatten_len (bs.take k) HL.out
    rw [← HF.out, List.length_take] at this
    omega
  by_cases hend : k < bs.length
  · obtain ⟨Ak, ck, hvk, hck, hck2, hrk⟩ := HR1.out.2 k hend
    obtain ⟨y, hy⟩ : ∃ y, y = bs.getD k [] := ⟨_, rfl⟩
    rw [← hy] at hvk hck hrk
    obtain ⟨b0, o0, rfl, hb0, hc0⟩ := HR0.out.at_ (fun e => by rw [e] at hvk; simp at hvk)
    have hcell := hc0 k _ hvk
    rw [← HB.out.cell hb0] at hcell
    have HRK := Lib.hid hrk
    have HY := Lib.hid hy
    clear hc0 hvk hrk hy
    by_cases hyl : 1000 < y.length
    · go_wp2_with fail
      go_returns
      exact ⟨rfl, HB.out⟩
    · go_wp2_with fail
      refine (frame_any Ak w.heap.size y ck wr (HRK.out.below HB.out) (by omega)).mono ?_
      rintro e w2 ⟨g, c2, rfl, own2, bel2⟩
      have rd2 := Rd.of_own own2
      have own3 := own_keep OWN.out bel2
      have hfl := frameOf_length y
      have BEL2 := Lib.hid bel2
      have HB2 := Lib.hid (HB.out.trans (bel2.mono HB.out.size))
      have OWN3 := Lib.hid own3
      have RD2 := Lib.hid rd2
      clear own2 bel2 own3 rd2
      go_wp2_with (at_builtin; refine wpList_app _ rfl (.tmp 49) (.tmp 50) 22 rfl w.heap.size 5 i0 (.int .u8 0) 1 Try.underlying22 hi hz0 hz1 hz2 rfl u6 F.length (bv F) rfl OWN3.out w2.heap.size (some ⟨g, 0, none⟩) (y.length + 8) c2 (bv (frameOf y)) rfl (by rw [bv_length, hfl]) RD2.out (bv_one _) (by unfold maxLen; omega) (by omega) HB2.out.size ?_; intro v4 w4 own4 gr4 at4 ne4)
      have HB4 := Lib.hid (HB2.out.grown gr4 HB2.out.size (fun g hg => own_ge OWN3.out g hg))
      have OWN4 := Lib.hid own4
      clear own4 gr4 at4 ne4
      go_wp2_with fail
      go_roundw
      case rel =>
        have htk : bs.take (k + 1) = bs.take k ++ [y] := by
          rw [List.take_add_one, HY.out, List.getD_eq_getElem?_getD, List.getElem?_eq_getElem hend]
          rfl
        refine ⟨k + 1, F ++ frameOf y, by go_num, by omega, ?_, ?_, ?_, HB4.out⟩
        · rw [htk]
          intro b hb
          rcases List.mem_append.1 hb with h | h
          · exact HL.out b h
          · have : b = y := by simpa using h
            subst this; omega
        · show F ++ frameOf y = _
          rw [htk, HF.out]
          simp
        · have := OWN4.out
          rw [← bv_append] at this
          rw [List.length_append, hfl]
          exact this
      case measure => simp [intOf]; omega
  · have hke : k = bs.length := by omega
    subst hke
    rw [List.take_length] at HF HL
    have rdm := (HR.out.below HB.out).more HB.out.size
    obtain ⟨Av, cv, rfl, _, _, _⟩ := own_slice OWN.out
    go_wp2_with (at_builtin; refine wpList_app _ rfl (.tmp 54) (.tmp 55) 22 rfl w.heap.size 5 i0 (.int .u8 0) 1 Try.underlying22 hi hz0 hz1 hz2 rfl (.slice Av F.length cv) F.length (bv F) rfl OWN.out wr.heap.size A l.length cap (bv l) rfl (by rw [bv_length]) rdm (bv_one _) (by unfold maxLen; omega) (by omega) HB.out.size ?_; intro v4 w4 own4 gr4 at4 ne4)
    have HB4 := Lib.hid (HB.out.grown gr4 HB.out.size (fun g hg => own_ge OWN.out g hg))
    rw [← bv_append, ← List.length_append] at own4
    obtain ⟨A4, c4, rfl, hc4, hc4x, _⟩ := own_slice own4
    have OWN4 := Lib.hid own4
    have HLA : (F ++ l).length = F.length + l.length := List.length_append
    have RDM := Lib.hid ((HR.out.below HB4.out).more HB4.out.size)
    obtain ⟨zs, hch, hbz⟩ := Chain.frames l bs [] (fun b hb => by have := HL.out b hb; omega)
    simp only [List.nil_append, List.length_nil, Nat.zero_add] at hch hbz
    rw [← HF.out] at hch hbz
    have HCH := Lib.hid hch
    have HBZ := Lib.hid hbz
    have hdl : (F ++ l).drop F.length = l := List.drop_left
    have HDL := Lib.hid hdl
    clear own4 gr4 at4 ne4 rdm hch hbz hdl hi
    go_wp2_with fail
    by_cases hok : (firstOf l).2 = 0
    · refine (next_ok A w4.heap.size l cap w4 RDM.out hlen (by omega) hcap hok).mono ?_
      rintro e w5 ⟨A1, c1, A2, c2, rfl, _, _, _, _, bel5⟩
      have HB5 := Lib.hid (HB4.out.trans (bel5.mono HB4.out.size))
      have own5 := own_keep OWN4.out bel5
      have OWN5 := Lib.hid own5
      have HOK := Lib.hid hok
      clear bel5 own5 hok
      go_wp2_with fail
      have hsp := split_any A4 (F ++ l) c4 w5 (by omega) hc4x (by omega) (Rd.of_own OWN5.out)
      rw [HLA] at hsp
      refine hsp.mono ?_
      rintro e w6 ⟨v6, xs, q, ws, rfl, ch1, no1, own6, rows6, bel6⟩
      have hq := HCH.out.further (by unfold okAt; rw [HDL.out]; exact HOK.out) ch1 no1
      have HB6 := Lib.hid (HB5.out.trans (bel6.mono HB5.out.size))
      have hq2 : (F.length : Int) < (q : Int) := by omega
      clear hsp ch1 no1 own6 rows6 bel6 hq
      go_wp2_with fail
      go_returns
      exact ⟨rfl, HB6.out⟩
    · obtain ⟨z, hz⟩ : ∃ z, z = (firstOf l).2 := ⟨_, rfl⟩
      have hnb := next_bad A w4.heap.size l cap w4 RDM.out hlen hcap hok
      rw [← hz] at hnb hok
      have HOK := Lib.hid (show ¬ okAt (F ++ l) F.length from by unfold okAt; rw [HDL.out, ← hz]; exact hok)
      have e1 : ((z : Int) == 0) = false := by simp; omega
      refine hnb.mono ?_
      rintro e w5 ⟨rfl, n5, hw5⟩
      have HB5 := Lib.hid (hw5 ▸ HB4.out.drewN n5 : Below w.heap.size w w5)
      have OWN5 := Lib.hid (hw5 ▸ OWN4.out : w5.ownsRow w.heap.size 5 1 (.slice A4 (F ++ l).length c4) (F ++ l).length (bv (F ++ l)))
      clear hnb hok hz hw5
      go_wp2_with fail
      have hsp := split_any A4 (F ++ l) c4 w5 (by omega) hc4x (by omega) (Rd.of_own OWN5.out)
      rw [HLA] at hsp
      refine hsp.mono ?_
      rintro e w6 ⟨v6, xs, q, ws, rfl, ch1, no1, own6, rows6, bel6⟩
      obtain ⟨hxz, hq⟩ := ch1.unique no1 HCH.out HOK.out
      subst hq
      rw [hxz, HBZ.out] at rows6
      have hxl : xs.length = bs.length := by rw [hxz, ← HBZ.out, List.length_map]
      have HB6 := HB5.out.trans (bel6.mono HB5.out.size)
      have l1 := own6.1
      obtain ⟨A6, c6, rfl, _, _, rd6⟩ := own_slice own6
      have hsame := same_any A6 A0 ws vs bs bs c6 c0 w6.heap.size w.heap.size w6.heap.size w.heap.size w6 rd6 (HR0.out.below HB6) rows6 (HR1.out.map fun A ys h => h.below HB6) (by omega)
      rw [l1, hvl, Nat.mul_one, hxl] at hsame
      have hsame2 : Calls Try.prog 19 #[.slice A6 bs.length c6, .slice A0 bs.length c0] w6 fun e w' => e = .returned (.bool true) ∧ ∃ n, w' = w6.drewN n := hsame.mono fun e w' h => ⟨by rw [h.1, decide_eq_true rfl], h.2⟩
      have HSAME := Lib.hid hsame2
      have HB6 := Lib.hid HB6
      clear hsp ch1 no1 own6 rows6 bel6 l1 rd6 hsame hsame2 hxz 
      go_wp2_with fail
      refine HSAME.out.mono ?_
      rintro e w7 ⟨rfl, n7, hw7⟩
      have HB7 := Lib.hid (hw7 ▸ HB6.out.drewN n7 : Below w.heap.size w w7)
      clear hw7
      go_wp2_with fail
      go_returns
      exact ⟨rfl, HB7.out⟩

/-- A slice of slices of bytes that came in, as rows. -/
theorem rows_of {W : World} {a : Addr} {len cap : Nat} {A : Nat → Option Addr} {L C : Nat → Nat} {Z : Nat → List Int} (hl : len ≤ cap)
    (hall : ∀ r, r < cap → W.cell? (a.add r) = some (.slice (A r) (L r) (C r)) ∧ L r ≤ C r ∧ C r ≤ maxLen ∧ (Z r).length = C r ∧ (∀ n ∈ Z r, (Lit.int .u8 n).wf = true) ∧ (A r = none → C r = 0) ∧
        ∀ a', A r = some a' → ∀ c, c < C r → W.cell? (a'.add c) = some (.int .u8 ((Z r).getD c 0))) :
    ∃ vs bs, bs.length = len ∧ Rd W W.heap.size (some a) vs ∧ Rows2 W W.heap.size vs bs := by
  have each : ∀ r, r < len → ∃ l : List UInt8, l.length = L r ∧ Rd W W.heap.size (A r) (bv l) ∧ L r ≤ C r ∧ C r ≤ 9223372036854775807 := by
    intro r hr
    obtain ⟨_, h2, h3, h4, h5, h6, h7⟩ := hall r (by omega)
    refine IsRow.bytes (zs := Z r) ?_
    cases hA : A r with
    | none => 
      have := h6 hA
      exact .inl ⟨rfl, by omega, this, List.eq_nil_of_length_eq_zero (by omega)⟩
    | some x => exact .inr ⟨x, rfl, h2, h3, h4, fun i hi => h7 x hA i (by omega), h5⟩
  obtain ⟨y, hy⟩ := Go.Deep.choose_lt each
  refine ⟨(List.range len).map fun r => .slice (A r) (L r) (C r), (List.range len).map y, by simp, ?_, by simp, ?_⟩
  · rcases Nat.eq_zero_or_pos len with h0 | h0
    · subst h0; exact .inl rfl
    · obtain ⟨b, off, spot⟩ := a
      have hc := (hall 0 (by omega)).1
      have hspot : spot = none := by simpa [Addr.add] using World.cell?_spot hc
      subst hspot
      refine .inr ⟨b, off, rfl, World.block_lt_of_cell? _ _ hc, fun j u hj => ?_⟩
      have hjl : j < len := by simpa using (List.getElem?_eq_some_iff.1 hj).1
      rw [List.getElem?_map, List.getElem?_range hjl] at hj
      injection hj with hj
      rw [← hj]
      have := (hall j (by omega)).1
      unfold Addr.add at this
      split at this
      · subst j; simpa using this
      · exact this
  · intro i hi
    have hil : i < len := by simpa using hi
    obtain ⟨e1, e2, e3, e4⟩ := hy i hil
    have eb : ((List.range len).map y).getD i [] = y i := by simp [List.getD_eq_getElem?_getD, hil]
    rw [eb]
    refine ⟨A i, C i, ?_, by omega, e4, e2⟩
    rw [List.getElem?_map, List.getElem?_range hil, e1]
    rfl

theorem frameBack.walk (a0 : Option Addr) (len0 cap0 : Nat) (vs : List Value) (bs : List (List UInt8)) (a1 : Option Addr) (len1 cap1 : Nat) (z1 : List Int) (w : World) (hbl : bs.length = len0) (hr0 : Rd w w.heap.size a0 vs) (hr1 : Rows2 w w.heap.size vs bs) (w1 : IsRow .u8 w a1 len1 cap1 z1) :
    Calls Try.prog 6 #[.slice a0 len0 cap0, .slice a1 len1 cap1] w fun e w' => e = .returned (.bool true) ∧ Below w.heap.size w w' := by
  obtain ⟨l, rfl, hrd, hl, hm⟩ := w1.bytes
  subst hbl
  by_cases h : 20 < bs.length ∨ 1000 < l.length
  · exact frameBack.big a0 a1 _ cap0 _ cap1 w h
  · exact frameBack.small a0 a1 cap0 cap1 vs bs l w hr0 hr1 hl hm hrd (by omega) (by omega)
end Go.Proofs.Ytihioccpnadieaa
