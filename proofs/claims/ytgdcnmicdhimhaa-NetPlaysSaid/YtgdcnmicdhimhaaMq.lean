/- Words for memory: rows of whatever width; readings that tell the block's type; how a call turns the world. -/
import Derived.Test.YtgdcnmicdhimhaaMp
namespace Go.Proofs.Ytgdcnmicdhimhaa
open Go.RowKit
set_option linter.unusedVariables false

/-- The slice that begins at A reads as the cells xs, which lie in a block of type t. -/
def RdT (w : World) (t : TypeId) (A : Option Addr) (xs : List Value) : Prop :=
  xs = [] ∨ ∃ (b off : Nat) (cs : Array Value) (fr : Nat × Nat), A = some ⟨b, off, none⟩ ∧ w.heap[b]? = some (Obj.cells cs t fr) ∧ ∀ j u, xs[j]? = some u → cs[off + j]? = some u

/-- A block of cells of no type that a network writes stays as it is. -/
def Quiet (w w' : World) : Prop := ∀ (k : Nat) (cs : Array Value) (t : TypeId) (fr : Nat × Nat), w.heap[k]? = some (Obj.cells cs t fr) → t ≠ 36 → t ≠ 64 → w'.heap[k]? = some (Obj.cells cs t fr)
theorem Quiet.refl (w : World) : Quiet w w := fun _ _ _ _ h _ _ => h
theorem Quiet.trans {a b c : World} (h : Quiet a b) (h' : Quiet b c) : Quiet a c := fun k cs t fr hk h1 h2 => h' k cs t fr (h k cs t fr hk h1 h2) h1 h2
theorem lt_of_heap {w : World} {k : Nat} {o : Obj} (h : w.heap[k]? = some o) : k < w.heap.size := by
  rcases Nat.lt_or_ge k w.heap.size with h1 | h1
  · exact h1
  · rw [Array.getElem?_eq_none h1] at h; cases h
theorem Quiet.below {w w' : World} (h : Below w.heap.size w w') : Quiet w w' := fun k cs t fr hk _ _ => by rw [h.block k (lt_of_heap hk)]; exact hk
theorem Quiet.grown {w w' : World} {g : Nat} {cs : Array Value} {t : TypeId} {fr : Nat × Nat} (h : w.grownBy w' (some g)) (hg : w.heap[g]? = some (.cells cs t fr)) (ht : t = 36 ∨ t = 64) : Quiet w w' := by
  intro k cs' t' fr' hk h1 h2
  rw [h.block k (lt_of_heap hk) (fun e => ?_)]
  · exact hk
  · have e : k = g := by simpa using e
    subst e
    rw [hk] at hg
    injection hg with hg
    injection hg with _ hg
    rcases ht with rfl | rfl
    · exact h1 hg
    · exact h2 hg
theorem Quiet.grownMap {w w' : World} {g : Nat} {es : Array MapEntry} {c : Nat} (h : w.grownBy w' (some g)) (hg : w.heap[g]? = some (.map es c)) : Quiet w w' := by
  intro k cs' t' fr' hk h1 h2
  rw [h.block k (lt_of_heap hk) (fun e => ?_)]
  · exact hk
  · have e : k = g := by simpa using e
    subst e
    rw [hk] at hg
    cases hg
theorem Quiet.grownNone {w w' : World} (h : w.grownBy w' none) : Quiet w w' := fun k cs t fr hk _ _ => by rw [h.block k (lt_of_heap hk) (by simp)]; exact hk
theorem Quiet.drewN (w : World) (n : Nat) : Quiet w (w.drewN n) := fun _ _ _ _ h _ _ => h

section
variable {w w' : World} {t : TypeId} {A : Option Addr} {xs : List Value}
theorem RdT.quiet (h : RdT w t A xs) (hq : Quiet w w') (h1 : t ≠ 36) (h2 : t ≠ 64) : RdT w' t A xs := by
  rcases h with h | ⟨b, off, cs, fr, hA, hb, hc⟩
  · exact .inl h
  · exact .inr ⟨b, off, cs, fr, hA, hq b cs t fr hb h1 h2, hc⟩
theorem RdT.below (h : RdT w t A xs) (hb : Below w.heap.size w w') : RdT w' t A xs := by
  rcases h with h | ⟨b, off, cs, fr, hA, hg, hc⟩
  · exact .inl h
  · exact .inr ⟨b, off, cs, fr, hA, by rw [hb.block b (lt_of_heap hg)]; exact hg, hc⟩
theorem RdT.rd (h : RdT w t A xs) : Rd w w.heap.size A xs := by
  rcases h with h | ⟨b, off, cs, fr, hA, hg, hc⟩
  · exact .inl h
  · refine .inr ⟨b, off, hA, lt_of_heap hg, fun j u hj => ?_⟩
    have := hc j u hj
    simp [World.cell?, hg, this]
theorem RdT.take (h : RdT w t A xs) (k : Nat) : RdT w t A (xs.take k) := by
  rcases h with h | ⟨b, off, cs, fr, hA, hg, hc⟩
  · subst h; exact .inl (by simp)
  · refine .inr ⟨b, off, cs, fr, hA, hg, fun j u hj => hc j u ?_⟩
    rw [List.getElem?_take] at hj
    split at hj
    · exact hj
    · cases hj
theorem RdT.drop {b off : Nat} (h : RdT w t (some ⟨b, off, none⟩) xs) (k : Nat) : RdT w t (some ⟨b, off + k, none⟩) (xs.drop k) := by
  rcases h with h | ⟨b', off', cs, fr, hA, hg, hc⟩
  · subst h; exact .inl (by simp)
  · simp only [Option.some.injEq, Addr.mk.injEq, and_true] at hA
    obtain ⟨rfl, rfl⟩ := hA
    refine .inr ⟨b, off + k, cs, fr, rfl, hg, fun j u hj => ?_⟩
    rw [List.getElem?_drop] at hj
    rw [Nat.add_assoc]
    exact hc _ u hj
theorem RdT.of_own {base n size : Nat} {c m : Nat} (h : w.ownsRow base t size (.slice A m c) n xs) : RdT w t A xs := by
  rcases h.2 with ⟨he, h0⟩ | ⟨g, cap, cur, hv, _, hg, _, _, _, ht⟩
  · have := h.1
    rw [h0, Nat.zero_mul] at this
    exact .inl (List.eq_nil_of_length_eq_zero this)
  · simp only [Value.slice.injEq] at hv
    obtain ⟨rfl, rfl, rfl⟩ := hv
    refine .inr ⟨g, 0, cur, _, rfl, hg, fun j u hj => ?_⟩
    rw [← ht, List.getElem?_take] at hj
    split at hj
    · rw [Nat.zero_add]; simpa using hj
    · cases hj
theorem RdT.at_ (h : RdT w t A xs) (hne : xs ≠ []) : ∃ b off, A = some ⟨b, off, none⟩ ∧ b < w.heap.size ∧ ∀ j u, xs[j]? = some u → w.cell? ⟨b, off + j, none⟩ = some u := h.rd.at_ hne
end

theorem own_keepN {w w' : World} {base n size : Nat} {e : TypeId} {v : Value} {xs : List Value} (h : w.ownsRow base e size v n xs) (hb : Below w.heap.size w w') : w'.ownsRow base e size v n xs :=
  h.kept (row := none) ⟨hb.os, hb.tape, hb.output, hb.size, fun k hk _ => hb.block k hk⟩ (by cases hv : v.ownBlock <;> simp)
theorem own_quiet {w w' : World} {base n size : Nat} {e : TypeId} {v : Value} {xs : List Value} (h : w.ownsRow base e size v n xs) (hq : Quiet w w') (h1 : e ≠ 36) (h2 : e ≠ 64) : w'.ownsRow base e size v n xs := by
  refine ⟨h.1, ?_⟩
  rcases h.2 with hn | ⟨g, cap, cur, rfl, hb, hgg, rest⟩
  · exact .inl hn
  · exact .inr ⟨g, cap, cur, rfl, hb, hq g cur e _ hgg h1 h2, rest⟩
theorem own_baseN {w : World} {base base' n size : Nat} {e : TypeId} {v : Value} {xs : List Value} (h : w.ownsRow base e size v n xs) (hb : base' ≤ base) : w.ownsRow base' e size v n xs := by
  refine ⟨h.1, ?_⟩
  rcases h.2 with h0 | ⟨g, cap, cur, hv, hg, rest⟩
  · exact .inl h0
  · exact .inr ⟨g, cap, cur, hv, by omega, rest⟩
theorem own_geN {w : World} {base n size : Nat} {e : TypeId} {v : Value} {xs : List Value} (h : w.ownsRow base e size v n xs) : ∀ k, v.ownBlock = some k → base ≤ k := fun k hk => (h.lt k hk).1
theorem own_sliceN {w : World} {base size : Nat} {e : TypeId} {v : Value} {n : Nat} {xs : List Value} (h : w.ownsRow base e size v n xs) :
    ∃ A c, v = .slice A n c ∧ n ≤ c ∧ c ≤ 9223372036854775807 ∧ RdT w e A xs := by
  rcases h.2 with ⟨rfl, rfl⟩ | ⟨g, cap, cur, rfl, _, _, hn, hc, _⟩
  · exact ⟨none, 0, rfl, Nat.le_refl _, by omega, RdT.of_own h⟩
  · exact ⟨_, cap, rfl, hn, by unfold maxLen at hc; exact hc, RdT.of_own h⟩

section
variable {P : Program} (w : World)
/-- append onto a row of the call's own, of elements of 'size' cells. -/
theorem run_appN (base : Nat) (t ty e : TypeId) (i : TypeInfo) (z : Value) (size bytes : Nat) (ht : P.underlying t = some (.slice e)) (hi : P.info? e = some i) (hz : i.zero = some z)
    (hsize : i.size = size) (hby : i.bytes = bytes) (hzs : z.cells.size = size) (hsz : 0 < size) (v : Value) (n : Nat) (xs : List Value) (hown : w.ownsRow base e size v n xs)
    (B : Nat) (A : Option Addr) (m c : Nat) (news : List Value) (hm : news.length = m * size) (hr : Rd w B A news) (h1 : ∀ u ∈ news, u.oneCell' = true)
    (h63 : n + m ≤ maxLen) (hbytes : (n + m) * bytes ≤ 140737488355328) (hbase : base ≤ w.heap.size) :
    ∃ v' w', (Builtin.append_ #[t, t] ty #[v, .slice A m c]).run P w = .ok v' w' ∧ w'.ownsRow base e size v' (n + m) (xs ++ news) ∧ w.grownBy w' v.ownBlock ∧
      (v'.ownBlock = v.ownBlock ∨ v'.ownBlock = some w.heap.size) := by
  cases A with
  | none =>
    have hn : news = [] := by
      rcases hr with h | ⟨b, off, h, _⟩
      · exact h
      · cases h
    subst hn
    obtain rfl : m = 0 := by
      rcases Nat.eq_zero_or_pos m with h | h
      · exact h
      · have := Nat.mul_pos h hsz
        simp at hm
        omega
    refine ⟨v, w, ?_, by simpa using hown, World.grownBy.refl w _, .inl rfl⟩
    · rcases hown.2 with ⟨rfl, rfl⟩ | ⟨g, cap, cur, rfl, _, _, hnc, _⟩
      · simp [Builtin.append_, run_underlying ht, sizeOf, typeInfo, hi, Builtin.lenOf, Builtin.firstCells]
      · simp [Builtin.append_, run_underlying ht, sizeOf, typeInfo, hi, Builtin.lenOf, Builtin.firstCells, hnc, storeCells]
  | some ad =>
    have hc : ∀ j u, news[j]? = some u → w.cell? (ad.add j) = some u := by
      rcases hr with h | ⟨b, off, h, _, hc⟩
      · subst h; intro j u hu; simp at hu
      · simp only [Option.some.injEq] at h
        subst h
        intro j u hu
        have := hc j u hu
        unfold Addr.add
        split
        · subst j; simpa using this
        · exact this
    obtain ⟨v', w', hrun, h2, h3, h4, h5⟩ := run_append_own_at (P := P) w base t ty e i z size bytes ht hi hz hsize hby hzs hsz v n xs hown ad m c news hm hc h1 h63 hbytes hbase
    exact ⟨v', w', hrun, h2, h3, h5⟩

theorem wp_appN {o : Oper} {a : Act} {K : Act → World → Prop} {Q : Exit → Act → World → Prop} (s x : Operand) (t : TypeId)
    (ho : o.op = .call { callee := .builtin .append, args := #[s, x], argTypes := #[t, t] })
    (base e : Nat) (i : TypeInfo) (z : Value) (size bytes : Nat) (ht : P.underlying t = some (.slice e)) (hi : P.info? e = some i) (hz : i.zero = some z)
    (hsize : i.size = size) (hby : i.bytes = bytes) (hzs : z.cells.size = size) (hsz : 0 < size) (v : Value) (n : Nat) (xs : List Value) (hs : a.eval s = v) (hown : w.ownsRow base e size v n xs)
    (B : Nat) (A : Option Addr) (m c : Nat) (news : List Value) (hm : news.length = m * size) (hx : a.eval x = .slice A m c) (hr : Rd w B A news) (h1 : ∀ u ∈ news, u.oneCell' = true)
    (h63 : n + m ≤ maxLen) (hbytes : (n + m) * bytes ≤ 140737488355328) (hbase : base ≤ w.heap.size)
    (h : ∀ v' w', w'.ownsRow base e size v' (n + m) (xs ++ news) → w.grownBy w' v.ownBlock → (v'.ownBlock = v.ownBlock ∨ v'.ownBlock = some w.heap.size) → K (a.put o.dst v') w') : o.wp P a w K Q := by
  obtain ⟨v', w', hrun, h2, h3, h4⟩ := run_appN (P := P) w base t o.type e i z size bytes ht hi hz hsize hby hzs hsz v n xs hown B A m c news hm hr h1 h63 hbytes hbase
  unfold Oper.wp execOp
  simp only [ho, resolve, invoke, builtin, Sem.run_bind, Sem.run_pure, Result.andThen_ok, List.map_toArray, List.map_cons, List.map_nil, hs, hx, hrun]
  exact h v' w' h2 h3 h4
theorem wpList_appN {ops : Array Oper} {rest : List Oper} {o : Oper} {a : Act} {Q : Exit → Act → World → Prop} (hgd : o.guard = none) (s x : Operand) (t : TypeId)
    (ho : o.op = .call { callee := .builtin .append, args := #[s, x], argTypes := #[t, t] })
    (base e : Nat) (i : TypeInfo) (z : Value) (size bytes : Nat) (ht : P.underlying t = some (.slice e)) (hi : P.info? e = some i) (hz : i.zero = some z)
    (hsize : i.size = size) (hby : i.bytes = bytes) (hzs : z.cells.size = size) (hsz : 0 < size) (v : Value) (n : Nat) (xs : List Value) (hs : a.eval s = v) (hown : w.ownsRow base e size v n xs)
    (B : Nat) (A : Option Addr) (m c : Nat) (news : List Value) (hm : news.length = m * size) (hx : a.eval x = .slice A m c) (hr : Rd w B A news) (h1 : ∀ u ∈ news, u.oneCell' = true)
    (h63 : n + m ≤ maxLen) (hbytes : (n + m) * bytes ≤ 140737488355328) (hbase : base ≤ w.heap.size)
    (h : ∀ v' w', w'.ownsRow base e size v' (n + m) (xs ++ news) → w.grownBy w' v.ownBlock → (v'.ownBlock = v.ownBlock ∨ v'.ownBlock = some w.heap.size) → wpList P ops Q rest (a.put o.dst v') w') : wpList P ops Q (o :: rest) a w :=
  wpList_plain hgd fun _ hK => wp_appN w s x t ho base e i z size bytes ht hi hz hsize hby hzs hsz v n xs hs hown B A m c news hm hx hr h1 h63 hbytes hbase fun v' w' h2 h3 h4 => hK _ _ (h v' w' h2 h3 h4)
theorem stepH_appN {ops : Array Oper} {o : Oper} {a : Act} {K : Act → World → Prop} {Q : Exit → Act → World → Prop} {E : Prop} (hgd : o.guard = none) (s x : Operand) (t : TypeId)
    (ho : o.op = .call { callee := .builtin .append, args := #[s, x], argTypes := #[t, t] })
    (base e : Nat) (i : TypeInfo) (z : Value) (size bytes : Nat) (ht : P.underlying t = some (.slice e)) (hi : P.info? e = some i) (hz : i.zero = some z)
    (hsize : i.size = size) (hby : i.bytes = bytes) (hzs : z.cells.size = size) (hsz : 0 < size) (v : Value) (n : Nat) (xs : List Value) (hs : a.eval s = v) (hown : w.ownsRow base e size v n xs)
    (B : Nat) (A : Option Addr) (m c : Nat) (news : List Value) (hm : news.length = m * size) (hx : a.eval x = .slice A m c) (hr : Rd w B A news) (h1 : ∀ u ∈ news, u.oneCell' = true)
    (h63 : n + m ≤ maxLen) (hbytes : (n + m) * bytes ≤ 140737488355328) (hbase : base ≤ w.heap.size)
    (h : ∀ v' w', w'.ownsRow base e size v' (n + m) (xs ++ news) → w.grownBy w' v.ownBlock → (v'.ownBlock = v.ownBlock ∨ v'.ownBlock = some w.heap.size) → K (a.put o.dst v') w') :
    if Region.wanted o (yielded ops a.tmps) = true then Oper.wp P o a w K Q else E := by
  have hw : Region.wanted o (yielded ops a.tmps) = true := by simp [Region.wanted, hgd]
  rw [if_pos hw]
  exact wp_appN w s x t ho base e i z size bytes ht hi hz hsize hby hzs hsz v n xs hs hown B A m c news hm hx hr h1 h63 hbytes hbase h
end
end Go.Proofs.Ytgdcnmicdhimhaa
