/- The reference's Split, Same; bytes to a string; the law's awake. -/
import Derived.Test.YtihioccpnadieaaSp
import Derived.Laws.BytesArg
import Derived.Laws.IdiomStrings
import Derived.Lib.SlBytesConst
namespace Go.Proofs.Ytihioccpnadieaa
open Go.RowKit
set_option linter.unusedVariables false

theorem conv_any {W : World} {B : Nat} {A : Option Addr} {l : List UInt8} (n cap : Nat) (hn : l.length = n) (h : Rd W B A (bv l)) : (convert 22 9 (.slice A n cap)).run Try.prog W = .ok (.string ⟨l.toArray⟩) W := by
  subst hn
  cases A with
  | none =>
    have hl : l = [] := by
      rcases h with h | ⟨b, off, h, _⟩
      · exact List.eq_nil_of_length_eq_zero (by have := congrArg List.length h; rwa [bv_length] at this)
      · cases h
    subst hl
    exact run_convert_bytes_nil W 22 5 Try.underlying22 Try.underlying5 0 cap 9 Try.underlying9
  | some a =>
    refine run_convert_bytes_back W 22 9 5 a cap l Try.underlying22 Try.underlying5 Try.underlying9 fun j hj => ?_
    rcases h with h | ⟨b, off, h, _, hc⟩
    · have := congrArg List.length h
      rw [bv_length, List.length_nil] at this
      omega
    · simp only [Option.some.injEq] at h
      subst h
      have e := hc j _ (bv_get l j hj)
      have eg : l.getD j 0 = l[j] := by simp [hj]
      rw [eg] at e
      unfold Addr.add
      split
      · subst j; simpa using e
      · exact e

/-- Behind an append the old slice reads as it did. -/
theorem app_reads {P : Program} (w : World) (base : Nat) (t ty e : TypeId) (i : TypeInfo) (z : Value) (bytes : Nat) (ht : P.underlying t = some (.slice e)) (hi : P.info? e = some i) (hz : i.zero = some z)
    (hsize : i.size = 1) (hby : i.bytes = bytes) (g n cap : Nat) (xs : List Value) (hown : w.ownsRow base e 1 (.slice (some ⟨g, 0, none⟩) n cap) n xs)
    (a : Addr) (m c : Nat) (news : List Value) (hm : news.length = m) (hc : ∀ j u, news[j]? = some u → w.cell? (a.add j) = some u) (h1 : ∀ u ∈ news, u.oneCell' = true)
    (h63 : n + m ≤ maxLen) (hbytes : (n + m) * bytes ≤ 140737488355328) {v' : Value} {w' : World} (hrun : (Builtin.append_ #[t, t] ty #[.slice (some ⟨g, 0, none⟩) n cap, .slice (some a) m c]).run P w = .ok v' w') :
    Rd w' w'.heap.size (some ⟨g, 0, none⟩) xs := by
  rcases hown.2 with ⟨h, _⟩ | ⟨g', cap', cur, h, _, hg, hnc, hcm, hcs, htake⟩
  · simp at h
  · simp only [Value.slice.injEq, Option.some.injEq, Addr.mk.injEq, and_true, true_and] at h
    obtain ⟨rfl, rfl⟩ := h
    have hlt := (Array.getElem?_eq_some_iff.1 hg).1
    have holds : ∀ j u, xs[j]? = some u → w.cell? ((⟨g, 0, none⟩ : Addr).add j) = some u := hown.cells (g := g) rfl
    by_cases hroom : n + m ≤ cap
    · have hr := run_append_room (P := P) w t ty e i ht hi g n cap cur hg a m c news (by rw [hm, hsize, Nat.mul_one]) hc h1 hroom (by rw [hsize, Nat.mul_one, hm]; omega)
      rw [hr] at hrun
      injection hrun with h1 h2
      subst h2
      refine .inr ⟨g, 0, rfl, by simpa using hlt, fun j u hu => ?_⟩
      have hj : j < n := by have := (List.getElem?_eq_some_iff.1 hu).1; rw [hown.1] at this; omega
      rw [cell_of_row _ g (0 + j) _ e (0, 0) (setRow_heap w g cur _ e _ hg), Nat.zero_add]
      rw [← htake, Nat.mul_one] at hu
      rw [hsize, Nat.mul_one]
      simp only [List.getElem?_toArray]
      rw [List.append_assoc, List.getElem?_append_left (by simp; omega)]
      exact hu
    · have hr := run_append_grow (P := P) w t ty e i z ht hi hz ⟨g, 0, none⟩ n cap xs (by rw [hown.1, hsize]) holds a m c news (by rw [hm, hsize, Nat.mul_one]) hc (by omega) (by unfold maxLen at h63; omega) (by rw [hby]; exact growslice_fits (by omega) hbytes)
      rw [hr] at hrun
      injection hrun with h1 h2
      subst h2
      refine .inr ⟨g, 0, rfl, by simp; omega, fun j u hu => ?_⟩
      have e1 := holds j u hu
      have hadd : (⟨g, 0, none⟩ : Addr).add j = ⟨g, 0 + j, none⟩ := by unfold Addr.add; split <;> simp_all
      rw [hadd] at e1
      exact (World.cell?_alloc_lt w.drew _ _ (by simpa using hlt)).trans e1

/-- append onto a row of the call's own that has elements, what lies at an address being appended; the old slice reads on. -/
theorem wpList_app_old {P : Program} (w : World) {ops : Array Oper} {rest : List Oper} {o : Oper} {a : Act} {Q : Exit → Act → World → Prop} (hgd : o.guard = none) (s x : Operand) (t : TypeId)
    (ho : o.op = .call { callee := .builtin .append, args := #[s, x], argTypes := #[t, t] })
    (base e : Nat) (i : TypeInfo) (z : Value) (bytes : Nat) (ht : P.underlying t = some (.slice e)) (hi : P.info? e = some i) (hz : i.zero = some z)
    (hsize : i.size = 1) (hby : i.bytes = bytes) (hzs : z.cells.size = 1) (g n cap : Nat) (xs : List Value) (hs : a.eval s = .slice (some ⟨g, 0, none⟩) n cap) (hown : w.ownsRow base e 1 (.slice (some ⟨g, 0, none⟩) n cap) n xs)
    (ad : Addr) (m c : Nat) (news : List Value) (hx : a.eval x = .slice (some ad) m c) (hm : news.length = m) (hc : ∀ j u, news[j]? = some u → w.cell? (ad.add j) = some u) (h1 : ∀ u ∈ news, u.oneCell' = true)
    (h63 : n + m ≤ maxLen) (hbytes : (n + m) * bytes ≤ 140737488355328) (hbase : base ≤ w.heap.size)
    (h : ∀ v' w', w'.ownsRow base e 1 v' (n + m) (xs ++ news) → w.grownBy w' (some g) → Rd w' w'.heap.size (some ⟨g, 0, none⟩) xs → wpList P ops Q rest (a.put o.dst v') w') : wpList P ops Q (o :: rest) a w := by
  refine wpList_plain hgd fun K hK => ?_
  obtain ⟨v', w', hrun, h2, h3, h4⟩ := run_append_own (P := P) w base t o.type e i z 1 bytes ht hi hz hsize hby hzs (by decide) _ n xs hown ad m c news (by rw [hm, Nat.mul_one]) hc h1 h63 hbytes hbase
  have h5 := app_reads w base t o.type e i z bytes ht hi hz hsize hby g n cap xs hown ad m c news hm hc h1 h63 hbytes hrun
  unfold Oper.wp execOp
  simp only [ho, resolve, invoke, builtin, Sem.run_bind, Sem.run_pure, Result.andThen_ok, List.map_toArray, List.map_cons, List.map_nil, hs, hx, hrun]
  exact hK _ _ (h v' w' h2 h3 h5)

theorem ab_frame : (firstOf (frameOf [97, 98] ++ [7])).2 = 0 ∧ num4 (frameOf [97, 98] ++ [7]) = 2 ∧ (frameOf [97, 98] ++ [7]).length = 11 ∧ ((frameOf [97, 98] ++ [7]).drop 4).take 2 = [97, 98] := by decide +kernel
theorem ab_length : (frameOf [97, 98]).length = 10 := by decide +kernel
theorem check_sum : sumOf [49, 50, 51, 52, 53, 54, 55, 56, 57] = 3808858755 := by decide +kernel

theorem split_ab : ∀ xs q, Chain (frameOf [97, 98]) 0 xs q → ¬ okAt (frameOf [97, 98]) q → xs.length = 1 ∧ q = 10 := by
  intro xs q h hq
  obtain ⟨ys, hc, hm⟩ := Chain.frames [] [[97, 98]] [] (by simp)
  have e : ([] : List UInt8) ++ (([[97, 98]].map frameOf).flatten ++ []) = frameOf [97, 98] := by simp
  rw [e] at hc hm
  have e2 : ([] : List UInt8).length + ([[97, 98]].map frameOf).flatten.length = 10 := by simp [ab_length]
  rw [e2] at hc
  have hno : ¬ okAt (frameOf [97, 98]) 10 := by
    unfold okAt
    rw [← ab_length, List.drop_length]
    decide
  obtain ⟨h1, h2⟩ := Chain.unique h hq hc hno
  refine ⟨?_, h2⟩
  have := congrArg List.length hm
  rw [List.length_map] at this
  rw [h1, this]
  rfl

set_option maxHeartbeats 1000000 in
theorem awake_true (w : World) : Calls Try.prog 10 #[] w fun e w' => e = .returned (.bool true) ∧ Below w.heap.size w w' := by
  obtain ⟨i0, hi, hz0, hz1, hz2⟩ := info_parts info5
  have kc := fun (w : World) (C : Array Value) (n c : Nat) => Lib.run_convert_bytes_const (P := Try.prog) w 22 5 C n c Try.underlying22 Try.underlying5
  go_enter Try.func10, Try.ntmps10
  go_wp2_with fail
  refine (frame_any (some ⟨w.heap.size, 0, none⟩) (w.heap.size + 1) [97, 98] 2 _ ?_ (by decide)).mono ?_
  · refine .inr ⟨_, 0, rfl, by omega, fun j u hj => ?_⟩
    rw [cell_of_row _ _ _ _ 5 _ (heap_alloc_new w _), Nat.zero_add]
    simpa [bv] using hj
  rintro e w1 ⟨g, cap, rfl, own1, bel1⟩
  have bel1' : Below w.heap.size w w1 := ((Below.refl _ _).alloc (Nat.le_refl _) _).trans (bel1.mono (by simp))
  have own1' : w1.ownsRow w.heap.size 5 1 (.slice (some ⟨g, 0, none⟩) 10 cap) 10 (bv (frameOf [97, 98])) := own_base (base' := w.heap.size) own1 (by simp)
  have OWN1 := Lib.hid own1'
  have BEL1 := Lib.hid bel1'
  have hsz1 := bel1'.size
  have new7 : ∀ j u, (bv [7])[j]? = some u → (w1.alloc (.cells #[.int .u8 7] 5)).cell? ((⟨w1.heap.size, 0, none⟩ : Addr).add j) = some u := (World.ownsRow_lit (e := 5) (size := 1) w1 (bv [7]).toArray 1 (Nat.le_refl _) (by unfold maxLen; omega) rfl).cells (g := w1.heap.size) rfl
  have NEW7 := Lib.hid new7
  clear own1 own1' bel1 bel1' new7
  go_wp2_with (at_builtin; refine wpList_app_old _ rfl (.tmp 15) (.tmp 16) 22 rfl w.heap.size 5 i0 (.int .u8 0) 1 Try.underlying22 hi hz0 hz1 hz2 rfl g 10 cap (bv (frameOf [97, 98])) rfl (OWN1.out.alloc _) ⟨w1.heap.size, 0, none⟩ 1 1 (bv [7]) rfl rfl NEW7.out (bv_one _) (by unfold maxLen; omega) (by omega) (by simp; omega) ?_; intro v2 w2 own2 gr2 rd2; obtain ⟨g2, c2, rfl, hg2, hl2⟩ := own2.form (by omega); (have OWN2 := Lib.hid own2); (have GR2 := Lib.hid gr2); (have RD2 := Lib.hid rd2); clear own2 gr2 rd2)
  obtain ⟨q1, q2, q3, q4⟩ := ab_frame
  have hcap2 := own_slice OWN2.out
  have hN : Calls Try.prog 15 #[.slice (some ⟨g2, 0, none⟩) 11 c2] w2 (Nexted (frameOf [97, 98] ++ [7]) w2) := by
    obtain ⟨A', c', hv, h1, h2, _⟩ := hcap2
    simp only [Value.slice.injEq] at hv
    have := next_ok (some ⟨g2, 0, none⟩) w2.heap.size (frameOf [97, 98] ++ [7]) c2 w2 (by rw [bv_append]; exact Rd.of_own OWN2.out) (by rw [q3]; omega) (by rw [q3]; omega) (by omega) q1
    rwa [q3] at this
  unfold Nexted at hN
  rw [q2, q3, q4] at hN
  refine hN.mono ?_
  clear hN
  rintro e w3 ⟨A1, c1, A2, c3, rfl, hc1, hc3, own3, own4, bel3⟩
  have RD3 := Lib.hid (Rd.of_own own3)
  have BEL3 := Lib.hid bel3
  have rdb := RD2.out.size bel3
  have hS : Calls Try.prog 17 #[.slice (some ⟨g, 0, none⟩) 10 cap] w3 (Splitted (frameOf [97, 98]) w3) := by
    obtain ⟨A', c', hv, h1, h2, _⟩ := own_slice OWN1.out
    simp only [Value.slice.injEq] at hv
    have := split_any (some ⟨g, 0, none⟩) (frameOf [97, 98]) cap w3 (by rw [ab_length]; omega) (by omega) (by rw [ab_length]; omega) (rdb.more bel3.size)
    rwa [ab_length] at this
  have HS := Lib.hid hS
  clear own3 own4 bel3 rdb hS hcap2 q1 q2 q3 q4
  go_wp2_with fail
  refine HS.out.mono ?_
  rintro e w4 ⟨v, xs, q, vs, rfl, hch, hno, own5, rows5, bel4⟩
  obtain ⟨hx1, rfl⟩ := split_ab xs q hch hno
  rw [hx1] at own5
  obtain ⟨A5, c5, rfl, _, _, _⟩ := own_slice own5
  have BEL4 := Lib.hid bel4
  have rd4 := (RD3.out.size bel4)
  have hcs : ∀ o, (convert 22 9 (.slice A1 2 c1)).run Try.prog (w4.alloc o) = .ok (.string ⟨([97, 98] : List UInt8).toArray⟩) (w4.alloc o) := fun o => conv_any (l := [97, 98]) 2 c1 rfl (rd4.alloc o)
  have HCS := Lib.hid hcs
  clear hch hno own5 rows5 bel4 rd4 hcs hx1 HS
  go_wp2_with fail
  refine (sum_any (some ⟨w4.heap.size, 0, none⟩) (w4.heap.size + 1) [49, 50, 51, 52, 53, 54, 55, 56, 57] 9 _ ?_ (by decide)).mono ?_
  · refine .inr ⟨_, 0, rfl, by omega, fun j u hj => ?_⟩
    rw [cell_of_row _ _ _ _ 5 _ (heap_alloc_new w4 _), Nat.zero_add]
    simpa [bv] using hj
  rintro e w5 ⟨rfl, rfl⟩
  rw [check_sum]
  have hcs := HCS.out
  go_wp2
  go_returns
  have hg := OWN1.out.lt g rfl
  have b2 : Below w.heap.size w w2 := (BEL1.out.alloc hsz1 _).grown GR2.out (by simp; omega) (fun k e => by cases e; exact hg.1)
  have b3 := b2.trans (BEL3.out.mono b2.size)
  have b4 := b3.trans (BEL4.out.mono b3.size)
  exact ⟨rfl, b4.alloc b4.size _⟩
end Go.Proofs.Ytihioccpnadieaa
