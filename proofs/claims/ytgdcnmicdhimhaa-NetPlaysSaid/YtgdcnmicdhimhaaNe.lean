/- Contract of Waiting. -/
import Derived.Test.YtgdcnmicdhimhaaNd
namespace Go.Proofs.Ytgdcnmicdhimhaa
open Go.RowKit
set_option linter.unusedVariables false

/-- A packet as the document has it. -/
def Pkt.key (p : Pkt) : Int × Int × List UInt8 := (p.frm, p.to, p.bytes)
/-- Packets told: a row of the call's own, each body of its own too. -/
structure Told (w : World) (B : Nat) (v : Value) (qs : List Pkt) : Prop where
  own : w.ownsRow B 36 3 v qs.length (pcells qs)
  bod : ∀ q ∈ qs, w.ownsRow B 5 1 q.body q.bytes.length (bv q.bytes)

theorem Told.snoc {wr w2 w3 : World} {B i co k c' Bx : Nat} {Ao A' : Option Addr} {qs : List Pkt} {fa fb : Int} {l : List UInt8} {v' : Value} (T : Told wr B (.slice Ao i co) qs) (hl : qs.length = i) (bel : Below wr.heap.size wr w2)
    (own : w2.ownsRow Bx 5 1 (.slice A' k c') k (bv l)) (hBx : B ≤ Bx) (hk : l.length = k)
    (own3 : w3.ownsRow B 36 3 v' (i + 1) (pcells qs ++ [.int .i64 fa, .int .i64 fb, .slice A' k c']))
    (gr3 : (w2.alloc (Obj.cells #[.int .i64 fa, .int .i64 fb, .slice A' k c'] 36)).grownBy w3 (Value.slice Ao i co).ownBlock) : Told w3 B v' (qs ++ [⟨fa, fb, A', c', l⟩]) := by
  subst hl
  subst hk
  have bel3 : Below w2.heap.size w2 (w2.alloc (Obj.cells #[.int .i64 fa, .int .i64 fb, .slice A' l.length c'] 36)) := (Below.refl _ _).alloc (Nat.le_refl _) _
  have hrow := own_keepN (own_keepN T.own bel) bel3
  have hq : Quiet (w2.alloc (Obj.cells #[.int .i64 fa, .int .i64 fb, .slice A' l.length c'] 36)) w3 := by
    rcases hrow.2 with ⟨e, _⟩ | ⟨g, cap, cur, e, _, hgg, _⟩
    · rw [e] at gr3; exact Quiet.grownNone gr3
    · rw [e] at gr3; exact Quiet.grown gr3 hgg (.inl rfl)
  refine ⟨by rw [List.length_append, pcells_snoc]; exact own3, fun q hq' => ?_⟩
  rcases List.mem_append.1 hq' with h | h
  · exact own_quiet (own_keepN (own_keepN (T.bod q h) bel) bel3) hq (by decide) (by decide)
  · have : q = ⟨fa, fb, A', c', l⟩ := by simpa using h
    subst this
    exact own_quiet (own_baseN (own_keepN own bel3) hBx) hq (by decide) (by decide)

theorem waiting_nil (w : World) : Calls Try.prog 19 #[.pointer none] w fun e w' => e = .returned (.slice none 0 0) ∧ w = w' := by
  go_enter Try.func19, Try.ntmps19
  go_wp2_with fail
  go_returns
  exact ⟨rfl, rfl⟩

set_option maxRecDepth 100000 in
set_option maxHeartbeats 1000000 in
theorem waiting_any (B r mb : Nat) (v : Value) (nodes : Int) (ps : List Pkt) (n : Nat) (par : Int → Int → Bool) (w : World) (h : NetAt w B r v mb nodes ps n par) (hps : ps.length ≤ 1000000) (hb : ∀ p ∈ ps, p.bytes.length ≤ 1000000) :
    Calls Try.prog 19 #[.pointer (some ⟨r, 0, none⟩)] w fun e w' => ∃ v' qs, e = .returned v' ∧ qs.map Pkt.key = ps.map Pkt.key ∧ Told w' w.heap.size v' qs ∧ Below w.heap.size w w' := by
  obtain ⟨i0, hi0, hz0, hz1, hz2⟩ := info_parts info36
  obtain ⟨Av, cv, hv, _⟩ := own_sliceN h.own
  have H := Lib.hid h
  have HBD := Lib.hid hb
  obtain ⟨np, hnp⟩ : ∃ np, np = ps.length := ⟨_, rfl⟩
  rw [← hnp] at hv hps
  have HNP := Lib.hid hnp
  subst hv
  have c1 := h.c1
  clear h hb hnp
  go_enter Try.func19, Try.ntmps19
  go_wp2_with fail
  go_loopw [3, 13] (fun v x wr => ∃ (i : Nat) (qs : List Pkt), x = .int .i64 i ∧ i ≤ np ∧ Hid (qs.map Pkt.key = (ps.take i).map Pkt.key) ∧ Hid (Told wr w.heap.size v qs) ∧ Hid (qs.length = i) ∧ Hid (Below w.heap.size w wr)) (fun _ x _ => np - (intOf x).toNat)
  case atStart => exact ⟨0, [], rfl, by omega, by show [] = _; simp, ⟨World.ownsRow_nil _ _ _ _, fun q hq => by cases hq⟩, rfl, Below.refl _ _⟩
  obtain ⟨i, qs, rfl, hi, HK, TD, QL, HB⟩ := hrel
  by_cases hend : i < np
  · have hil : i < ps.length := by rw [← HNP.out]; exact hend
    have hN := H.out.below HB.out
    obtain ⟨g, c, hv, hgl, hgB, hgr, hcl, hcm, p0, p1, p2⟩ := hN.packet i hil
    simp only [Value.slice.injEq] at hv
    obtain ⟨rfl, hnn, rfl⟩ := hv
    clear hnn
    have hbod := (RdT.of_own (hN.bod _ (List.getElem_mem hil))).rd
    have hk := HBD.out _ (List.getElem_mem hil)
    have hkey : (ps.take (i + 1)).map Pkt.key = (ps.take i).map Pkt.key ++ [(ps[i]).key] := by
      rw [List.take_succ_eq_append_getElem hil, List.map_append]; rfl
    obtain ⟨p, hp⟩ : ∃ p, p = ps[i] := ⟨_, rfl⟩
    rw [← hp] at p0 p1 p2 hk hbod hkey
    obtain ⟨fa, fb, fA, fc, l⟩ := p
    simp only [Pkt.body] at p0 p1 p2 hbod hk
    obtain ⟨k, hkl⟩ : ∃ k, k = l.length := ⟨_, rfl⟩
    rw [← hkl] at p2 hk
    have HO := Lib.hid (fun W (h : Rd W wr.heap.size fA (bv l)) => own_any fa fb fA l k fc wr.heap.size W h hkl.symm (by omega))
    unfold Owned at HO
    have HKEY := Lib.hid hkey
    have HKL := Lib.hid hkl
    have HRD := Lib.hid hbod
    have a1 : (0 : Int) ≤ (i : Int) := by omega
    have a2 : (i : Int) < (np : Int) := by omega
    obtain ⟨Ao, co, ho, _⟩ := own_sliceN TD.out.own
    have QL2 := QL.out
    rw [QL2] at ho
    subst ho
    clear hN hp hkl hkey hbod QL2
    go_wp2_with fail
    refine (HO.out _ (HRD.out.alloc _)).mono ?_
    rintro e w2 ⟨A', c', rfl, own, bel⟩
    have hsw : wr.heap.size + 1 ≤ w2.heap.size := by have := bel.size; simpa using this
    have bel2 : Below wr.heap.size wr w2 := ((Below.refl _ _).alloc (Nat.le_refl _) _).trans (bel.mono (by simp))
    have OWN := Lib.hid own
    have BEL := Lib.hid bel2
    clear own bel bel2
    go_wp2_with (at_builtin; refine wpList_appN _ rfl (.tmp 17) (.tmp 20) 54 rfl w.heap.size 36 i0 _ 3 40 Try.underlying54 hi0 hz0 hz1 hz2 rfl (by decide) (.slice Ao i co) i (pcells qs) rfl (by have := own_keepN TD.out.own BEL.out; rw [QL.out] at this; exact this.alloc _) (w2.heap.size + 1) (some ⟨w2.heap.size, 0, none⟩) 1 1 [.int .i64 fa, .int .i64 fb, .slice A' k c'] rfl rfl (new_cells w2 _ _ _ (by omega)) (by simp [Value.oneCell']) (by unfold maxLen; omega) (by omega) (by have := HB.out.size; simp; omega) ?_; intro v' w3 own3 gr3 at3)
    have hsz := HB.out.size
    have HT := Lib.hid (TD.out.snoc QL.out BEL.out OWN.out (by simp; omega) HKL.out.symm own3 gr3)
    have HB3 := Lib.hid ((HB.out.trans (BEL.out.mono hsz)).trans ((((Below.refl w2.heap.size w2).alloc (Nat.le_refl _) _).mono (by omega)).grown gr3 (by simp; omega) (fun k hk => own_geN TD.out.own k hk)))
    clear own3 gr3 at3
    go_roundw
    case rel => exact ⟨i + 1, _, by go_num, by omega, by show (qs ++ [_]).map Pkt.key = _; rw [List.map_append, HK.out, HKEY.out]; rfl, HT.out, by show (qs ++ [_]).length = _; rw [List.length_append, QL.out]; rfl, HB3.out⟩
    case measure => simp [intOf]; omega
  · have hin : i = np := by omega
    subst hin
    have hk := HK.out
    rw [HNP.out, List.take_length] at hk
    have HK2 := Lib.hid hk
    clear hk hend hi
    go_wp2_with fail
    go_returns
    exact ⟨_, qs, rfl, HK2.out, TD.out, HB.out⟩
end Go.Proofs.Ytgdcnmicdhimhaa
