/- Contracts of Part, Twice. -/
import Derived.Test.YtgdcnmicdhimhaaNb
namespace Go.Proofs.Ytgdcnmicdhimhaa
open Go.RowKit
set_option linter.unusedVariables false

theorem part_nil (a b : Int) (x : Value) (w : World) : Calls Try.prog 13 #[.pointer none, .int .i64 a, .int .i64 b, x] w fun e w' => e = .returned (.int .i64 1) ∧ w = w' := by
  go_enter Try.func13, Try.ntmps13
  go_wp2_with fail
  go_returns
  exact ⟨rfl, rfl⟩
theorem part_no (r : Nat) (nodes a b : Int) (x : Value) (w : World) (hc : w.cell? ⟨r, 0, none⟩ = some (.int .i64 nodes)) (hb : bothB nodes a b = false) :
    Calls Try.prog 13 #[.pointer (some ⟨r, 0, none⟩), .int .i64 a, .int .i64 b, x] w fun e w' => e = .returned (.int .i64 90) ∧ w = w' := by
  have HB := Lib.hid (both_any r nodes a b w hc)
  rw [hb] at HB
  clear hc hb
  go_enter Try.func13, Try.ntmps13
  go_wp2_with (go_at_call 23; refine HB.out.mono ?_; rintro e w' ⟨rfl, rfl⟩)
  go_returns
  exact ⟨rfl, rfl⟩

theorem NetAt.mapped {w w2 : World} {B r mb : Nat} {v : Value} {nodes : Int} {ps : List Pkt} {n n' : Nat} {par par' : Int → Int → Bool} (h : NetAt w B r v mb nodes ps n par) (hm : MapIs w2 mb n' par') (hg : w.grownBy w2 (some mb)) :
    NetAt w2 B r v mb nodes ps n' par' ∧ (B ≤ w.heap.size → Turn B w w2) := by
  obtain ⟨n1, n2, n3⟩ := h.row_ne
  obtain ⟨es, c, hmb⟩ := h.map.isMap
  have hq := Quiet.grownMap hg hmb
  refine ⟨⟨by rw [hg.block r h.lt (by simpa using n3)]; exact h.blk, h.own.kept hg (.inr n2), hm, h.hr, h.hm, fun p hp => own_quiet (h.bod p hp) hq (by decide) (by decide)⟩, fun hB => ⟨(Below.refl _ _).grown hg hB (fun k hk => by cases hk; exact h.hm), hq⟩⟩

set_option maxRecDepth 100000 in
set_option maxHeartbeats 1000000 in
theorem part_on (B r mb : Nat) (v : Value) (nodes : Int) (ps : List Pkt) (n : Nat) (par : Int → Int → Bool) (a b : Int) (off : Bool) (w : World) (h : NetAt w B r v mb nodes ps n par) (hn : nodes ≤ 65536)
    (hB : B ≤ w.heap.size) (hnn : n < 1000000) (hb : bothB nodes a b = true) :
    Calls Try.prog 13 #[.pointer (some ⟨r, 0, none⟩), .int .i64 a, .int .i64 b, .bool off] w fun e w' => e = .returned (.int .i64 0) ∧ NetAt w' B r v mb nodes ps (n + 1) (upd par (min a b) (max a b) off) ∧ Turn B w w' := by
  have HB := Lib.hid (both_any r nodes a b w h.c0)
  rw [hb] at HB
  obtain ⟨ha0, ha1, hb0, hb1, hne⟩ := bothB_true hb
  have hwa : Wf (min a b) := wf_small (n := nodes) (by omega) (by omega) hn
  have hwb : Wf (max a b) := wf_small (n := nodes) (by omega) (by omega) hn
  obtain ⟨m, hm⟩ : ∃ m, m = min a b := ⟨_, rfl⟩
  obtain ⟨M, hM⟩ : ∃ M, M = max a b := ⟨_, rfl⟩
  have hpr := fun W => pair_any a b W
  rw [← hm] at hwa
  rw [← hM] at hwb
  simp only [← hm, ← hM] at hpr ⊢
  have HP := Lib.hid hpr
  have H := Lib.hid h
  have k2 : w.drew.cell? ⟨r, 2, none⟩ = some (.map (some mb)) := h.c2
  clear hb h ha0 ha1 hb0 hb1 hne hm hM hpr
  go_enter Try.func13, Try.ntmps13
  go_wp2_with (go_at_call 23; refine HB.out.mono ?_; rintro e w' ⟨rfl, rfl⟩)
  go_region_held3 (fun w' => w'.cell? ⟨r, 2, none⟩ = some (.map (some mb)))
    (first | exact k2 | exact j2 | exact j3)
    (first
      | (go_at_call 24; refine (HP.out _).mono ?_; rintro e w1 ⟨rfl, bel⟩; (have N1 := H.out.drew.below bel); (have j2 := N1.c2); (obtain ⟨w2, hrun, map2, gr2⟩ := N1.map.update hnn m M off hwa hwb); (have N2 := N1.mapped map2 gr2); (have j3 := N2.1.c2); (have HN2 := Lib.hid N2); (have BEL := Lib.hid bel); clear N1 N2 bel map2 gr2))
  go_wp2_with fail
  go_returns
  have hs := BEL.out.size
  exact ⟨rfl, HN2.out.1, (Turn.of_below (((Below.refl _ _).drew).trans BEL.out) hB).trans (HN2.out.2 (Nat.le_trans hB hs))⟩

theorem pcells_get : ∀ (ps : List Pkt) (i : Nat) (h : i < ps.length) (j : Nat), j < 3 → (pcells ps)[i * 3 + j]? = (ps[i]).cells[j]?
  | p :: ps, 0, _, j, hj => by
    unfold pcells
    rw [List.flatMap_cons, List.getElem?_append_left (by simp [Pkt.cells]; omega)]
    simp
  | p :: ps, i + 1, h, j, hj => by
    have ih := pcells_get ps i (by simpa using h) j hj
    unfold pcells at ih ⊢
    rw [List.flatMap_cons, List.getElem?_append_right (by simp [Pkt.cells]; omega)]
    have : (i + 1) * 3 + j - p.cells.length = i * 3 + j := by simp [Pkt.cells]; omega
    rw [this, ih]
    rfl
theorem NetAt.packet {w : World} {B r mb : Nat} {v : Value} {nodes : Int} {ps : List Pkt} {n : Nat} {par : Int → Int → Bool} (h : NetAt w B r v mb nodes ps n par) (i : Nat) (hi : i < ps.length) :
    ∃ g c, v = .slice (some ⟨g, 0, none⟩) ps.length c ∧ g < w.heap.size ∧ B ≤ g ∧ g ≠ r ∧ ps.length ≤ c ∧ c ≤ 9223372036854775807 ∧ w.cell? ⟨g, i * 3, none⟩ = some (.int .i64 (ps[i]).frm) ∧ w.cell? ⟨g, i * 3 + 1, none⟩ = some (.int .i64 (ps[i]).to) ∧ w.cell? ⟨g, i * 3 + 2, none⟩ = some (ps[i]).body := by
  obtain ⟨g, c, hv, hg, hgl⟩ := h.own.form (by omega)
  have hrow := h.row_ne.1
  have ho := h.own
  rw [hv] at ho hrow
  obtain ⟨_, _, hs, hc1, hc2, _⟩ := own_sliceN ho
  simp only [Value.slice.injEq] at hs
  obtain ⟨_, _, rfl⟩ := hs
  refine ⟨g, c, hv, hgl, hg, by simpa [Value.ownBlock] using hrow, hc1, hc2, ?_, ?_, ?_⟩
  · rw [ho.cellAt (i * 3) (by omega), show i * 3 = i * 3 + 0 from rfl, pcells_get ps i hi 0 (by omega)]; rfl
  · rw [ho.cellAt (i * 3 + 1) (by omega), pcells_get ps i hi 1 (by omega)]; rfl
  · rw [ho.cellAt (i * 3 + 2) (by omega), pcells_get ps i hi 2 (by omega)]; rfl

theorem twice_nil (i : Int) (w : World) : Calls Try.prog 11 #[.pointer none, .int .i64 i] w fun e w' => e = .returned (.bool false) ∧ w = w' := by
  go_enter Try.func11, Try.ntmps11
  go_wp2_with (go_at_call 20; refine (there_nil _ _).mono ?_; rintro e w' ⟨rfl, rfl⟩)
  go_returns
  exact ⟨rfl, rfl⟩
theorem twice_no (B r mb : Nat) (v : Value) (nodes : Int) (ps : List Pkt) (n : Nat) (par : Int → Int → Bool) (i : Int) (w : World) (h : NetAt w B r v mb nodes ps n par) (hi : ¬ (0 ≤ i ∧ i < ps.length)) :
    Calls Try.prog 11 #[.pointer (some ⟨r, 0, none⟩), .int .i64 i] w fun e w' => e = .returned (.bool false) ∧ w = w' := by
  obtain ⟨A, c, hv, _⟩ := own_sliceN h.own
  have HT := Lib.hid (there_any r v ps.length i A c w hv h.c1)
  have hd : decide (0 ≤ i ∧ i < (ps.length : Int)) = false := by simpa using hi
  rw [hd] at HT
  clear h hv hi hd
  go_enter Try.func11, Try.ntmps11
  go_wp2_with (go_at_call 20; refine HT.out.mono ?_; rintro e w' ⟨rfl, rfl⟩)
  go_returns
  exact ⟨rfl, rfl⟩

set_option maxRecDepth 100000 in
set_option maxHeartbeats 2000000 in
theorem twice_on (B r mb : Nat) (v : Value) (nodes : Int) (ps : List Pkt) (n : Nat) (par : Int → Int → Bool) (i : Nat) (w : World) (h : NetAt w B r v mb nodes ps n par)
    (hB : B ≤ w.heap.size) (hps : ps.length ≤ 1000000) (hi : i < ps.length) (hk : (ps[i]).bytes.length ≤ 1000000) :
    Calls Try.prog 11 #[.pointer (some ⟨r, 0, none⟩), .int .i64 (i : Int)] w fun e w' => e = .returned (.bool true) ∧
      ∃ v' A' c', NetAt w' B r v' mb nodes (ps ++ [⟨(ps[i]).frm, (ps[i]).to, A', c', (ps[i]).bytes⟩]) n par ∧ Turn B w w' ∧ w'.ownsRow w.heap.size 5 1 (.slice A' (ps[i]).bytes.length c') (ps[i]).bytes.length (bv (ps[i]).bytes) := by
  obtain ⟨i0, hi0, hz0, hz1, hz2⟩ := info_parts info36
  obtain ⟨g, c, hv, hgl, hgB, hgr, hcl, hcm, p0, p1, p2⟩ := h.packet i hi
  have hT := there_any r v ps.length (i : Int) _ c w hv h.c1
  have hd : decide (0 ≤ (i : Int) ∧ (i : Int) < (ps.length : Int)) = true := by simp; omega
  rw [hd] at hT
  have HT := Lib.hid hT
  have hbod := (RdT.of_own (h.bod _ (List.getElem_mem hi))).rd
  obtain ⟨p, hp⟩ : ∃ p, p = ps[i] := ⟨_, rfl⟩
  rw [← hp] at p0 p1 p2 hk hbod ⊢
  obtain ⟨fa, fb, fA, fc, l⟩ := p
  simp only [Pkt.body] at p0 p1 p2 hbod hk ⊢
  have H := Lib.hid h
  have HO := Lib.hid (fun W (h : Rd W w.heap.size fA (bv l)) => own_any fa fb fA l l.length fc w.heap.size W h rfl (by omega))
  unfold Owned at HO
  have HRD := Lib.hid hbod.drew
  have j1 : w.drew.cell? ⟨r, 1, none⟩ = some v := h.c1
  have q0 : w.drew.cell? ⟨g, i * 3, none⟩ = some (.int .i64 fa) := p0
  have q1 : w.drew.cell? ⟨g, i * 3 + 1, none⟩ = some (.int .i64 fb) := p1
  have q2 : w.drew.cell? ⟨g, i * 3 + 2, none⟩ = some (.slice fA l.length fc) := p2
  obtain ⟨k, hkl⟩ : ∃ k, k = l.length := ⟨_, rfl⟩
  rw [← hkl] at HO q2 hk ⊢
  have HK := Lib.hid hkl
  obtain ⟨np, hnp⟩ : ∃ np, np = ps.length := ⟨_, rfl⟩
  rw [← hnp] at hv hps hcl hi
  have HNP := Lib.hid hnp
  have HV := Lib.hid hv
  rw [hv] at j1
  have a1 : (0 : Int) ≤ (i : Int) := by omega
  have a2 : (i : Int) < (np : Int) := by omega
  clear hd hT hv h p0 p1 p2 hbod hp hkl hnp
  go_enter Try.func11, Try.ntmps11
  go_wp2_with (go_at_call 20; refine HT.out.mono ?_; rintro e w' ⟨rfl, rfl⟩)
  go_region_law (first
    | (go_simp; go_at_call 22; refine (HO.out _ HRD.out).mono ?_; rintro e w2 ⟨A', c', rfl, own, bel⟩; (have N2 := H.out.drew.below bel); (have j1' := N2.c1); (rw [HV.out] at j1'); (have j1n : (w2.alloc (Obj.cells #[Value.int IntKind.i64 fa, Value.int IntKind.i64 fb, Value.slice A' k c'] 36)).cell? ⟨r, 1, none⟩ = some v := (N2.below ((Below.refl _ _).alloc (Nat.le_refl _) _)).c1); (rw [HV.out] at j1n); (have f1' := N2.fr 1); (have HN2 := Lib.hid N2); (have OWN := Lib.hid own); (have BEL2 := Lib.hid bel); clear N2 own bel; go_wp2_with fail)
    | ((refine stepH_appN _ rfl (.tmp 13) (.tmp 22) 54 rfl B 36 i0 _ 3 40 Try.underlying54 hi0 hz0 hz1 hz2 rfl (by decide) (.slice (some ⟨g, 0, none⟩) np c) np (pcells ps) rfl (by have := (HN2.out.own).alloc (Obj.cells #[Value.int IntKind.i64 fa, Value.int IntKind.i64 fb, Value.slice A' k c'] 36); rw [← HNP.out, HV.out] at this; exact this) (w2.heap.size + 1) (some ⟨w2.heap.size, 0, none⟩) 1 1 [.int .i64 fa, .int .i64 fb, .slice A' k c'] rfl rfl (new_cells w2 _ _ _ (by omega)) (by simp [Value.oneCell']) (by unfold maxLen; omega) (by omega) (by have := HN2.out.hr; have := HN2.out.lt; simp; omega) ?_); intro v' w3 own3 gr3 at3; obtain ⟨A3, c3, rfl, hc3, hc3m, _⟩ := own_sliceN own3; (rw [← HV.out] at gr3); (have j3 := (HN2.out.below ((Below.refl _ _).alloc (Nat.le_refl _) _)).grown_cell gr3); (have j3c := j3.1); (rw [HV.out] at j3c); (have j3f := j3.2); (have OWN3 := Lib.hid own3); (have GR3 := Lib.hid gr3); clear j3 own3 gr3 at3))
  all_goals go_wp2_with fail
  all_goals go_returns
  all_goals
    have OWN3' := OWN3.out
    have OWN' := OWN.out
    rw [HNP.out] at OWN3' ⊢
    refine ⟨rfl, _, A', c', sent_fin (w := w) (w1 := w) hB (Below.refl _ _) H.out (((Below.refl _ _).drew).trans BEL2.out) OWN' OWN3' GR3.out HK.out.symm⟩
end Go.Proofs.Ytgdcnmicdhimhaa
