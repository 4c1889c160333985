/- frame.Split: all frames' bodies, and where they end. -/
import Derived.Test.YtihioccpnadieaaIt
import Derived.Maps.AppendAt
import Derived.BigRegionIn
namespace Go.Proofs.Ytihioccpnadieaa
open Go.RowKit Go.Shelf
set_option linter.unusedVariables false
attribute [local go_sem] Oper.semAt_some

/-- The slices vs read as the byte strings bs: each its own length, its row below block B. -/
def Rows2 (w : World) (B : Nat) (vs : List Value) (bs : List (List UInt8)) : Prop :=
  vs.length = bs.length ∧ ∀ i, i < bs.length → ∃ A c, vs[i]? = some (.slice A (bs.getD i []).length c) ∧ (bs.getD i []).length ≤ c ∧ c ≤ 9223372036854775807 ∧ Rd w B A (bv (bs.getD i []))
section
variable {w w' : World} {B B' : Nat} {vs : List Value} {bs : List (List UInt8)}
theorem Rows2.nil : Rows2 w B [] [] := ⟨rfl, fun i hi => by simp at hi⟩
theorem Rows2.map (h : Rows2 w B vs bs) (hk : ∀ A xs, Rd w B A xs → Rd w' B' A xs) : Rows2 w' B' vs bs :=
  ⟨h.1, fun i hi => by obtain ⟨A, c, h1, h2, h3, h4⟩ := h.2 i hi; exact ⟨A, c, h1, h2, h3, hk _ _ h4⟩⟩
theorem Rows2.one (h : Rows2 w B vs bs) : ∀ u ∈ vs, u.oneCell' = true := by
  intro u hu
  obtain ⟨i, hi, rfl⟩ := List.getElem_of_mem hu
  obtain ⟨A, c, h1, _⟩ := h.2 i (by rw [← h.1]; exact hi)
  rw [List.getElem?_eq_getElem hi] at h1
  injection h1 with h1
  rw [h1]
  rfl
theorem Rows2.snoc (h : Rows2 w B vs bs) {A : Option Addr} {c : Nat} {b : List UInt8} (h1 : b.length ≤ c) (h2 : c ≤ 9223372036854775807) (h3 : Rd w B A (bv b)) : Rows2 w B (vs ++ [.slice A b.length c]) (bs ++ [b]) := by
  refine ⟨by simp [h.1], fun i hi => ?_⟩
  rcases Nat.lt_or_ge i bs.length with hl | hl
  · obtain ⟨A', c', e1, e2, e3, e4⟩ := h.2 i hl
    have eb : (bs ++ [b]).getD i [] = bs.getD i [] := by simp [List.getD_eq_getElem?_getD, List.getElem?_append_left hl]
    rw [eb]
    exact ⟨A', c', by rw [List.getElem?_append_left (by rw [h.1]; exact hl)]; exact e1, e2, e3, e4⟩
  · obtain rfl : i = bs.length := by simp at hi; omega
    have eb : (bs ++ [b]).getD bs.length [] = b := by simp [List.getD_eq_getElem?_getD]
    rw [eb]
    exact ⟨A, c, by rw [← h.1]; simp, h1, h2, h3⟩
end

section
variable {P : Program} {F : Fence} {n0 : Nat} (w : World)
/-- append, as one step of a region that draws its order, in a round. -/
theorem stepIn_app {ops : Array Oper} {o : Oper} {a : Act} {K : Act → World → Prop} {Q : Exit → Act → World → Prop} {E : Prop} (hF : ∀ f, F.fn f) (hgd : o.guard = none) (s x : Operand) (t : TypeId)
    (ho : o.op = .call { callee := .builtin .append, args := #[s, x], argTypes := #[t, t] })
    (base e : Nat) (i : TypeInfo) (z : Value) (bytes : Nat) (ht : P.underlying t = some (.slice e)) (hi : P.info? e = some i) (hz : i.zero = some z)
    (hsize : i.size = 1) (hby : i.bytes = bytes) (hzs : z.cells.size = 1) (v : Value) (n : Nat) (xs : List Value) (hs : a.eval s = v) (hown : w.ownsRow base e 1 v n xs)
    (B : Nat) (A : Option Addr) (m c : Nat) (news : List Value) (hx : a.eval x = .slice A m c) (hm : news.length = m) (hr : Rd w B A news) (h1 : ∀ u ∈ news, u.oneCell' = true)
    (h63 : n + m ≤ maxLen) (hbytes : (n + m) * bytes ≤ 140737488355328) (hbase : base ≤ w.heap.size)
    (h : ∀ v' w', w'.ownsRow base e 1 v' (n + m) (xs ++ news) → w.grownBy w' v.ownBlock → (v'.ownBlock = v.ownBlock ∨ v'.ownBlock = some w.heap.size) → K (a.put o.dst v') w') :
    if Region.wanted o (yielded ops a.tmps) = true then Oper.wpIn F n0 P o a w K Q else E := by
  have hw : Region.wanted o (yielded ops a.tmps) = true := by simp [Region.wanted, hgd]
  rw [if_pos hw]
  obtain ⟨v', w', hrun, h2, h3, h4, h5⟩ := run_app (P := P) w base t o.type e i z bytes ht hi hz hsize hby hzs v n xs hown B A m c news hm hr h1 h63 hbytes hbase
  unfold Oper.wpIn
  refine ⟨fun f _ => hF f, ?_⟩
  rw [Oper.semAt_eq _ _ _ (fun c e => by rw [ho] at e; cases e)]
  unfold execOp
  simp only [ho, resolve, invoke, builtin, Sem.run_bind, Sem.run_pure, Result.andThen_ok, List.map_toArray, List.map_cons, List.map_nil, hs, hx, hrun]
  exact h v' w' h2 h3 h4
end

theorem own_kept_cells {W W' : World} {base : Nat} {e : TypeId} {v : Value} {n : Nat} {xs : List Value} {row : Option Nat} (h : W.ownsRow base e 1 v n xs) (hg : W.grownBy W' row)
    (hrow : ∀ r, row = some r → ∃ o : Obj, W.heap[r]? = some o ∧ o.isCells = false) : W'.ownsRow base e 1 v n xs := by
  refine h.kept hg ?_
  rcases h.2 with ⟨rfl, _⟩ | ⟨g, cap, cur, rfl, _, hgb, _⟩
  · exact .inl rfl
  · refine .inr fun e' => ?_
    obtain ⟨o, ho, hc⟩ := hrow g (by simpa [Value.ownBlock] using e'.symm)
    rw [hgb] at ho; cases ho; cases hc
theorem rd_kept_cells {W W' : World} {B : Nat} {A : Option Addr} {xs : List Value} {row : Option Nat} (h : Rd W B A xs) (hg : W.grownBy W' row)
    (hrow : ∀ r, row = some r → ∃ o : Obj, W.heap[r]? = some o ∧ o.isCells = false) : Rd W' B A xs := by
  rcases h with h | ⟨b, off, hA, hb, hc⟩
  · exact .inl h
  · exact .inr ⟨b, off, hA, hb, fun j u hu => cell_kept (hc j u hu) hg hrow⟩
theorem boxed_kept_cells {W W' : World} {B : Nat} {t : TypeId} {v : Value} {row : Option Nat} (h : Boxed W B t v) (hg : W.grownBy W' row)
    (hrow : ∀ r, row = some r → ∃ o : Obj, W.heap[r]? = some o ∧ o.isCells = false) : Boxed W' B t v :=
  h.kept hg (fun e' => by
    obtain ⟨o, ho, hc⟩ := hrow B e'.symm
    rw [show W.heap[B]? = _ from h] at ho; cases ho; cases hc)

/-- The rows that the slices vs begin in hold bytes. -/
def Typs (w : World) (vs : List Value) : Prop := ∀ (i : Nat) (a : Addr) (n c : Nat), vs[i]? = some (Value.slice (some a) n c) → ∃ cs fr, w.heap[a.block]? = some (Obj.cells cs 5 fr)
theorem Typs.nil (w : World) : Typs w [] := fun i a n c h => by simp at h
theorem Typs.snoc {w : World} {vs : List Value} {A : Option Addr} {n c : Nat} (h : Typs w vs) (h1 : ∀ a, A = some a → ∃ cs fr, w.heap[a.block]? = some (.cells cs 5 fr)) : Typs w (vs ++ [.slice A n c]) := by
  intro i a n' c' hi
  rcases Nat.lt_or_ge i vs.length with hl | hl
  · rw [List.getElem?_append_left hl] at hi
    exact h i a n' c' hi
  · rw [List.getElem?_append_right hl] at hi
    have hi0 : i - vs.length = 0 := by
      rcases Nat.eq_zero_or_pos (i - vs.length) with h0 | h0
      · exact h0
      · rw [List.getElem?_eq_none (by simp; omega)] at hi; cases hi
    rw [hi0] at hi
    simp at hi
    exact h1 a hi.1
theorem typ_own {w : World} {base n c : Nat} {A : Option Addr} {xs : List Value} (h : w.ownsRow base 5 1 (.slice A n c) n xs) : ∀ a, A = some a → ∃ cs fr, w.heap[a.block]? = some (.cells cs 5 fr) := by
  rintro a rfl
  rcases h.2 with ⟨h0, _⟩ | ⟨g, cap, cur, hv, _, hg, _⟩
  · simp at h0
  · simp only [Value.slice.injEq, Option.some.injEq] at hv
    obtain ⟨rfl, _, rfl⟩ := hv
    exact ⟨cur, (0, 0), hg⟩

theorem info22 : (Try.prog.info? 22).map (fun i => (i.zero, i.size, i.bytes)) = some (some (.slice none 0 0), 1, 24) := by kernel_rfl

/-- What Split answers: the bodies in rows of its own, and where the frames end. -/
def Splitted (l : List UInt8) (w : World) (e : Ending) (w' : World) : Prop :=
  ∃ v xs q vs, e = .returned (.tuple #[v, .int .i64 (q : Nat)]) ∧ Chain l 0 xs q ∧ ¬ okAt l q ∧ w'.ownsRow w.heap.size 22 1 v xs.length vs ∧ Rows2 w' w'.heap.size vs (xs.map (bodyAt l)) ∧ Below w.heap.size w w'

theorem new_row (W : World) (u : Value) (t : TypeId) (B : Nat) (hB : W.heap.size < B) : Rd (W.alloc (.cells #[u] t)) B (some ⟨W.heap.size, 0, none⟩) [u] := by
  refine .inr ⟨_, 0, rfl, hB, fun j x hj => ?_⟩
  have hj0 : j = 0 := by
    rcases Nat.eq_zero_or_pos j with h | h
    · exact h
    · rw [List.getElem?_eq_none (by simp; omega)] at hj; cases hj
  subst hj0
  rw [cell_of_row _ _ _ _ t (0, 0) (heap_alloc_new W _)]
  simpa using hj

/-- What a round of Split's loop does to memory. -/
theorem body_rel {w W W1 w2 : World} {v v' : Value} {vs : List Value} {bs : List (List UInt8)} {k m c1 : Nat} {A1 : Option Addr} {e0 : Int} {bx : Value} {bd : List UInt8}
    (g1 : Boxed W w.heap.size 34 v) (g2 : W.ownsRow (w.heap.size + 3) 22 1 v k vs) (g3 : Rows2 W W.heap.size vs bs) (g4 : Boxed W (w.heap.size + 1) 3 (.int .i64 e0)) (g5 : Boxed W (w.heap.size + 2) 22 bx) (g6 : Below w.heap.size w W) (g7 : w.heap.size + 3 ≤ W.heap.size) (g8 : Typs W vs)
    (bel : Below W.heap.size W W1) (own1 : W1.ownsRow W.heap.size 5 1 (.slice A1 m c1) m (bv bd)) (hm : bd.length = m) (hc1 : m ≤ c1)
    (own2 : w2.ownsRow (w.heap.size + 3) 22 1 v' (k + 1) (vs ++ [.slice A1 m c1])) (gr : (W1.alloc (.cells #[.slice A1 m c1] 22)).grownBy w2 v.ownBlock) (e1 : Int) :
    Boxed w2 w.heap.size 34 v ∧ Boxed w2 (w.heap.size + 1) 3 (.int .i64 e0) ∧
    (KeepsOthers W ((w2.setCell ⟨w.heap.size, 0, none⟩ v').setCell ⟨w.heap.size + 1, 0, none⟩ (.int .i64 e1)) ∧ Kept w.heap.size (w.heap.size + 2) W ((w2.setCell ⟨w.heap.size, 0, none⟩ v').setCell ⟨w.heap.size + 1, 0, none⟩ (.int .i64 e1)) ∧
      ∃ v vs', Boxed ((w2.setCell ⟨w.heap.size, 0, none⟩ v').setCell ⟨w.heap.size + 1, 0, none⟩ (.int .i64 e1)) w.heap.size 34 v ∧ ((w2.setCell ⟨w.heap.size, 0, none⟩ v').setCell ⟨w.heap.size + 1, 0, none⟩ (.int .i64 e1)).ownsRow (w.heap.size + 3) 22 1 v (k + 1) vs' ∧
        Rows2 ((w2.setCell ⟨w.heap.size, 0, none⟩ v').setCell ⟨w.heap.size + 1, 0, none⟩ (.int .i64 e1)) ((w2.setCell ⟨w.heap.size, 0, none⟩ v').setCell ⟨w.heap.size + 1, 0, none⟩ (.int .i64 e1)).heap.size vs' (bs ++ [bd]) ∧
        Boxed ((w2.setCell ⟨w.heap.size, 0, none⟩ v').setCell ⟨w.heap.size + 1, 0, none⟩ (.int .i64 e1)) (w.heap.size + 1) 3 (.int .i64 e1) ∧ Boxed ((w2.setCell ⟨w.heap.size, 0, none⟩ v').setCell ⟨w.heap.size + 1, 0, none⟩ (.int .i64 e1)) (w.heap.size + 2) 22 bx ∧
        Below w.heap.size w ((w2.setCell ⟨w.heap.size, 0, none⟩ v').setCell ⟨w.heap.size + 1, 0, none⟩ (.int .i64 e1)) ∧ w.heap.size + 3 ≤ ((w2.setCell ⟨w.heap.size, 0, none⟩ v').setCell ⟨w.heap.size + 1, 0, none⟩ (.int .i64 e1)).heap.size ∧ Typs ((w2.setCell ⟨w.heap.size, 0, none⟩ v').setCell ⟨w.heap.size + 1, 0, none⟩ (.int .i64 e1)) vs') := by
  have hrow : ∀ j, v.ownBlock = some j → w.heap.size + 3 ≤ j ∧ j < W.heap.size := fun j hj => g2.lt j hj
  have hsz1 := bel.size
  have hsz2 := gr.size
  simp only [World.size_alloc] at hsz2
  -- what lay in a block of W that is not the row of out lies in w2
  have keep : ∀ j, j < W.heap.size → v.ownBlock ≠ some j → w2.heap[j]? = W.heap[j]? := fun j hj hne =>
    (gr.block j (by simp; omega) (fun e => hne e.symm)).trans ((Below.heap_alloc _ _ _ (by omega)).trans (bel.block j hj))
  have k0 : Boxed w2 w.heap.size 34 v := (keep _ g1.lt (fun e => by have := hrow _ e; omega)).trans g1
  have k1 : Boxed w2 (w.heap.size + 1) 3 (.int .i64 e0) := (keep _ g4.lt (fun e => by have := hrow _ e; omega)).trans g4
  have k2 : Boxed w2 (w.heap.size + 2) 22 bx := (keep _ g5.lt (fun e => by have := hrow _ e; omega)).trans g5
  refine ⟨k0, k1, ?_⟩
  -- the two stores
  have s0 := k0.set v'
  have s1 : Boxed (w2.setCell ⟨w.heap.size, 0, none⟩ v') (w.heap.size + 1) 3 (.int .i64 e0) := (Below.heap_setCell _ _ _ _ (by simp)).trans k1
  have t0 : Boxed ((w2.setCell ⟨w.heap.size, 0, none⟩ v').setCell ⟨w.heap.size + 1, 0, none⟩ (.int .i64 e1)) w.heap.size 34 v' := (Below.heap_setCell _ _ _ _ (by simp)).trans s0
  have t1 := s1.set (.int .i64 e1)
  have t2 : Boxed ((w2.setCell ⟨w.heap.size, 0, none⟩ v').setCell ⟨w.heap.size + 1, 0, none⟩ (.int .i64 e1)) (w.heap.size + 2) 22 bx :=
    (Below.heap_setCell _ _ _ _ (by simp)).trans ((Below.heap_setCell _ _ _ _ (by simp)).trans k2)
  have cellsOf : ∀ (j : Nat) (o : Obj), v.ownBlock = some j → (W1.alloc (.cells #[.slice A1 m c1] 22)).heap[j]? = some o → o.isCells = true := by
    intro j o hj ho
    have hj2 := hrow j hj
    rcases g2.2 with ⟨rfl, _⟩ | ⟨g, cap, cur, rfl, _, hg, _⟩
    · simp [Value.ownBlock] at hj
    · have : g = j := by simpa [Value.ownBlock] using hj
      subst this
      rw [Below.heap_alloc _ _ _ (by omega), bel.block g hj2.2, hg] at ho
      cases ho
      rfl
  have ko : KeepsOthers W w2 := ((KeepsOthers.of_grownBy (row := none) ⟨bel.os, bel.tape, bel.output, bel.size, fun k hk _ => bel.block k hk⟩ (fun j o e => by cases e)).trans (KeepsOthers.alloc _ _)).trans (KeepsOthers.of_grownBy gr cellsOf)
  -- a block of bytes lies as it lay, through all
  have far : ∀ (j : Nat) cs fr, w2.heap[j]? = some (.cells cs 5 fr) → ((w2.setCell ⟨w.heap.size, 0, none⟩ v').setCell ⟨w.heap.size + 1, 0, none⟩ (.int .i64 e1)).heap[j]? = w2.heap[j]? := by
    intro j cs fr hj
    have n0 : j ≠ w.heap.size := by
      rintro rfl
      rw [show w2.heap[w.heap.size]? = _ from k0] at hj
      cases hj
    have n1 : j ≠ w.heap.size + 1 := by
      rintro rfl
      rw [show w2.heap[w.heap.size + 1]? = _ from k1] at hj
      cases hj
    exact (Below.heap_setCell _ _ _ _ n1).trans (Below.heap_setCell _ _ _ _ n0)
  have near : ∀ (j : Nat) cs fr, W.heap[j]? = some (.cells cs 5 fr) → w2.heap[j]? = W.heap[j]? := by
    intro j cs fr hj
    have hl := (Array.getElem?_eq_some_iff.1 hj).1
    refine keep j hl fun e => ?_
    rcases g2.2 with ⟨rfl, _⟩ | ⟨g, cap, cur, rfl, _, hg, _⟩
    · simp [Value.ownBlock] at e
    · have : g = j := by simpa [Value.ownBlock] using e
      subst this
      rw [hg] at hj
      cases hj
  have near1 : ∀ (j : Nat) cs fr, W1.heap[j]? = some (.cells cs 5 fr) → W.heap.size ≤ j → w2.heap[j]? = W1.heap[j]? := by
    intro j cs fr hj hge
    have hl := (Array.getElem?_eq_some_iff.1 hj).1
    exact (gr.block j (by simp; omega) (fun e => by have := hrow j e.symm; omega)).trans (Below.heap_alloc _ _ _ hl)
  have hzf : ((w2.setCell ⟨w.heap.size, 0, none⟩ v').setCell ⟨w.heap.size + 1, 0, none⟩ (.int .i64 e1)).heap.size = w2.heap.size := by simp [World.setCell]
  -- the new body's row
  have tn := typ_own own1
  have rdn : Rd ((w2.setCell ⟨w.heap.size, 0, none⟩ v').setCell ⟨w.heap.size + 1, 0, none⟩ (.int .i64 e1)) w2.heap.size A1 (bv bd) ∧
      ∀ a, A1 = some a → ∃ cs fr, ((w2.setCell ⟨w.heap.size, 0, none⟩ v').setCell ⟨w.heap.size + 1, 0, none⟩ (.int .i64 e1)).heap[a.block]? = some (.cells cs 5 fr) := by
    have hge : ∀ a, A1 = some a → W.heap.size ≤ a.block := by
      rintro a rfl
      exact (own1.lt a.block rfl).1
    constructor
    · rcases Rd.of_own own1 with h | ⟨b, off, rfl, hb, hc⟩
      · exact .inl h
      · obtain ⟨cs, fr, hcs⟩ := tn _ rfl
        have e1 := near1 _ cs fr hcs (hge _ rfl)
        have e2 := far _ cs fr (e1.trans hcs)
        refine .inr ⟨b, off, rfl, by omega, fun j u hu => (World.cell?_of_block (a := ⟨b, off + j, none⟩) (e2.trans e1)).trans (hc j u hu)⟩
    · rintro a rfl
      obtain ⟨cs, fr, hcs⟩ := tn _ rfl
      have e1 := near1 _ cs fr hcs (hge _ rfl)
      exact ⟨cs, fr, (far _ cs fr (e1.trans hcs)).trans (e1.trans hcs)⟩
  have rold : Rows2 ((w2.setCell ⟨w.heap.size, 0, none⟩ v').setCell ⟨w.heap.size + 1, 0, none⟩ (.int .i64 e1)) w2.heap.size vs bs := by
    refine ⟨g3.1, fun i hi => ?_⟩
    obtain ⟨A', c', h1, h2, h3, h4⟩ := g3.2 i hi
    refine ⟨A', c', h1, h2, h3, ?_⟩
    rcases h4 with h | ⟨b, off, rfl, hb, hc⟩
    · exact .inl h
    · obtain ⟨cs, fr, hcs⟩ := g8 i _ _ _ h1
      have e1 := near _ cs fr hcs
      have e2 := far _ cs fr (e1.trans hcs)
      exact .inr ⟨b, off, rfl, by omega, fun j u hu => (World.cell?_of_block (a := ⟨b, off + j, none⟩) (e2.trans e1)).trans (hc j u hu)⟩
  have told : Typs ((w2.setCell ⟨w.heap.size, 0, none⟩ v').setCell ⟨w.heap.size + 1, 0, none⟩ (.int .i64 e1)) vs := by
    intro i a n c h
    obtain ⟨cs, fr, hcs⟩ := g8 i a n c h
    have e1 := near _ cs fr hcs
    exact ⟨cs, fr, (far _ cs fr (e1.trans hcs)).trans (e1.trans hcs)⟩
  have hb2 : Below w.heap.size w w2 := by
    have h1 := (g6.trans (bel.mono (by omega))).alloc (by omega) (.cells #[.slice A1 m c1] 22)
    exact h1.grown gr (by simp; omega) (fun j e => by have := hrow j e; omega)
  have hbf : Below w.heap.size w ((w2.setCell ⟨w.heap.size, 0, none⟩ v').setCell ⟨w.heap.size + 1, 0, none⟩ (.int .i64 e1)) := (hb2.setCell (p := ⟨w.heap.size, 0, none⟩) (Nat.le_refl _) _).setCell (p := ⟨w.heap.size + 1, 0, none⟩) (by simp) _
  have ownf : ((w2.setCell ⟨w.heap.size, 0, none⟩ v').setCell ⟨w.heap.size + 1, 0, none⟩ (.int .i64 e1)).ownsRow (w.heap.size + 3) 22 1 v' (k + 1) (vs ++ [.slice A1 m c1]) :=
    RowKit.ownsRow_setCell_below (RowKit.ownsRow_setCell_below own2 (a := ⟨w.heap.size, 0, none⟩) (by simp) _) (a := ⟨w.heap.size + 1, 0, none⟩) (by simp) _
  refine ⟨(ko.trans (KeepsOthers.setCell _ _ _)).trans (KeepsOthers.setCell _ _ _), ⟨?_, t2.trans g5.symm⟩, v', vs ++ [.slice A1 m c1], t0, ownf, ?_, t1, t2, hbf, by rw [hzf]; omega, told.snoc rdn.2⟩
  · have hx : Below w.heap.size W w2 := (((Below.refl _ W).trans (bel.mono (by omega))).alloc (by omega) (.cells #[.slice A1 m c1] 22)).grown gr (by simp; omega) (fun j e => by have := hrow j e; omega)
    exact (hx.setCell (p := ⟨w.heap.size, 0, none⟩) (Nat.le_refl _) _).setCell (p := ⟨w.heap.size + 1, 0, none⟩) (by simp) _
  · rw [hzf]
    have hcm : c1 ≤ 9223372036854775807 := by
      obtain ⟨A', c', hv, _, hc, _⟩ := own_slice own1
      simp only [Value.slice.injEq] at hv
      omega
    subst hm
    exact rold.snoc hc1 hcm rdn.1

theorem body_post (l : List UInt8) (_u : Unit) {w W Wf : World} {bx : Value} {Ix : Code → List (At l) → World → Prop} {a : Act} (pre : List (At l)) (p : Nat) (hok : okAt l p)
    (h : KeepsOthers W Wf ∧ Kept w.heap.size (w.heap.size + 2) W Wf ∧ ∃ v vs', Boxed Wf w.heap.size 34 v ∧ Wf.ownsRow (w.heap.size + 3) 22 1 v (pre.length + 1) vs' ∧ Rows2 Wf Wf.heap.size vs' ((pre.map (·.1)).map (bodyAt l) ++ [bodyAt l p]) ∧
      Boxed Wf (w.heap.size + 1) 3 (.int .i64 (nextAt l p : Nat)) ∧ Boxed Wf (w.heap.size + 2) 22 bx ∧ Below w.heap.size w Wf ∧ w.heap.size + 3 ≤ Wf.heap.size ∧ Typs Wf vs') :
    ownPostK (Kept w.heap.size (w.heap.size + 2)) (fun pre W => ∃ v vs, Boxed W w.heap.size 34 v ∧ W.ownsRow (w.heap.size + 3) 22 1 v pre.length vs ∧ Rows2 W W.heap.size vs ((pre.map (·.1)).map (bodyAt l)) ∧
      Boxed W (w.heap.size + 1) 3 (.int .i64 (lastEnd l (pre.map (·.1)) : Nat)) ∧ Boxed W (w.heap.size + 2) 22 bx ∧ Below w.heap.size w W ∧ w.heap.size + 3 ≤ W.heap.size ∧ Typs W vs) Ix (pre ++ [⟨p, hok⟩]) W .normal a Wf := by
  have e1 : (pre ++ [(⟨p, hok⟩ : At l)]).length = pre.length + 1 := by simp
  have e2 : ((pre ++ [(⟨p, hok⟩ : At l)]).map (·.1)).map (bodyAt l) = (pre.map (·.1)).map (bodyAt l) ++ [bodyAt l p] := by simp
  have e3 : lastEnd l ((pre ++ [(⟨p, hok⟩ : At l)]).map (·.1)) = nextAt l p := by rw [List.map_append]; exact lastEnd_snoc l _ p
  obtain ⟨h1, h2, v, vs', h3⟩ := h
  refine ⟨h1, h2, v, vs', ?_⟩
  rw [e1, e2, e3]
  exact h3

set_option maxRecDepth 100000 in
set_option maxHeartbeats 2000000 in
theorem split_in (n : Nat) (hn : 4 ≤ n) (A : Option Addr) (b off cap : Nat) (l : List UInt8) (hlen : l.length ≤ cap) (hcap : cap ≤ 9223372036854775807) (hl : l.length ≤ 1099511627776) (w : World) (hb : l.length < 4 ∨ (A = some ⟨b, off, none⟩ ∧ b < w.heap.size)) (hc : Rd w w.heap.size A (bv l)) :
    CallsIn Fence.wide n Try.prog 17 #[.slice A l.length cap] w (Splitted l w) := by
  have h1 : 1 ≤ n := by omega
  have HC := Lib.hid hc
  have HB := Lib.hid hb
  clear hc hb
  refine callsIn_of_wp_marks Try.func17 rfl trivial ?_ rfl
  simp only [Try.ntmps17, List.size_toArray, List.length_cons, List.length_nil, Nat.reduceAdd, Nat.reduceSub, Array.replicate_succ, Array.replicate_zero, List.push_toArray, List.append_toArray, List.nil_append, List.cons_append]
  gi_wp2_with (refine ⟨trivial, ?_⟩; gi_at_call 25; refine (callsIn_wide.2 (frames_any _ _ _ _)).mono ?_; rintro e w' ⟨rfl, rfl⟩)
  obtain ⟨i0, hi, hz0, hz1, hz2⟩ := info_parts info22
  have hmx : Try.prog.follows .mixedOrders = true := by kernel_rfl
  have bO := Boxed.new w 34 (.slice none 0 0)
  have bA := Boxed.new (w.alloc (.cells #[.slice none 0 0] 34)) 3 (.int .i64 0)
  have bB := Boxed.new ((w.alloc (.cells #[.slice none 0 0] 34)).alloc (.cells #[.int .i64 0] 3)) 22 (.slice A l.length cap)
  have hB0 : Below w.heap.size w (((w.alloc (.cells #[.slice none 0 0] 34)).alloc (.cells #[.int .i64 0] 3)).alloc (.cells #[.slice A l.length cap] 22)) :=
    (((Below.refl _ w).alloc (Nat.le_refl _) _).alloc (by simp) _).alloc (by simp; omega) _
  have bO2 := (bO.alloc (.cells #[.int .i64 0] 3)).alloc (.cells #[.slice A l.length cap] 22)
  have bA2 := bA.alloc (.cells #[.slice A l.length cap] 22)
  have rd2 := HC.out.below hB0
  simp only [World.size_alloc] at bA2 bB
  obtain ⟨W0, hW0⟩ : ∃ W0, W0 = ((w.alloc (.cells #[.slice none 0 0] 34)).alloc (.cells #[.int .i64 0] 3)).alloc (.cells #[.slice A l.length cap] 22) := ⟨_, rfl⟩
  have hs0 : W0.heap.size = w.heap.size + 3 := by rw [hW0]; simp
  rw [← hW0] at bO2 bA2 bB hB0 rd2 ⊢
  clear hW0 bO bA
  refine wpIn_rangeFunc_ownF (n := n) rfl h1 (gf := 27) (lb := #[.pointer (some ⟨w.heap.size + 2, 0, none⟩)]) rfl trivial (enters_of Try.func27 (by kernel_rfl) rfl)
    (frames_stops (n - 1) (by omega) (w.heap.size + 2) w.heap.size b off cap A l hlen (by omega) HB.out W0 (by omega) (by omega) bB rd2)
    (fun h k => ⟨h.1.trans k.1, k.2.trans h.2⟩)
    (fun W l' o o' hl h hc hw => ⟨belowK_b (w := W0) (by omega) W l' o o' hl h hc hw, World.putObj_heap_other (by omega)⟩)
    (Below.refl _ _) (fun _ => rfl)
    (fun pre W => ∃ v vs, Boxed W w.heap.size 34 v ∧ W.ownsRow (w.heap.size + 3) 22 1 v pre.length vs ∧ Rows2 W W.heap.size vs ((pre.map (·.1)).map (bodyAt l)) ∧
      Boxed W (w.heap.size + 1) 3 (.int .i64 (lastEnd l (pre.map (·.1)) : Nat)) ∧ Boxed W (w.heap.size + 2) 22 (.slice A l.length cap) ∧ Below w.heap.size w W ∧ w.heap.size + 3 ≤ W.heap.size ∧ Typs W vs)
    (fun _ _ _ => False) ?own (fun _ _ _ _ _ hs _ _ => hs)
    ⟨_, [], bO2, World.ownsRow_nil _ _ _ _, Rows2.nil, bA2, bB, hB0, by omega, Typs.nil _⟩
    (fun x => { tmps := #[.slice A l.length cap, undef, .slice none 0 0, .int .i64 0, .pointer (some ⟨w.heap.size, 0, none⟩), .pointer (some ⟨w.heap.size + 1, 0, none⟩), .int .i64 (nextAt l x.1 : Nat),
      .slice (some ⟨b, off + (x.1 + 4), none⟩) (num4 (l.drop x.1)) (cap - (x.1 + 4)), .slice A l.length cap, .func (.func 27) #[] #[.pointer (some ⟨w.heap.size + 2, 0, none⟩)], .int .i64 (nextAt l x.1 : Nat),
      .slice (some ⟨b, off + (x.1 + 4), none⟩) (num4 (l.drop x.1)) (cap - (x.1 + 4)), undef, undef, undef, undef, undef, undef, undef, undef], defers := [] }) ?assign ?body ?done ?stop
  case own =>
    rintro pre W W' row ⟨v, vs, g1, g2, g3, g4, g5, g6, g7, g8⟩ hg hrow
    have hrow' : ∀ r, row = some r → ∃ o : Obj, W.heap[r]? = some o ∧ o.isCells = false := fun r e => (hrow r e).2
    refine ⟨v, vs, boxed_kept_cells g1 hg hrow', own_kept_cells g2 hg hrow', g3.map (fun A xs h => (rd_kept_cells h hg hrow').more hg.size), boxed_kept_cells g4 hg hrow', boxed_kept_cells g5 hg hrow', ?_, Nat.le_trans g7 hg.size, ?_⟩
    · exact g6.grown hg (by omega) (fun k e => by have := (hrow k e).1; omega)
    · intro i a n c h
      obtain ⟨cs, fr, hcs⟩ := g8 i a n c h
      refine ⟨cs, fr, (hg.block _ (Array.getElem?_eq_some_iff.1 hcs).1 (fun e => ?_)).trans hcs⟩
      obtain ⟨o, ho, hc⟩ := hrow' _ e.symm
      rw [hcs] at ho; cases ho; cases hc
  case assign =>
    intro l' x W K hK
    unfold encAt
    gi_wp2
    exact hK
  case body =>
    rintro lp pre ⟨p, hok⟩ W ⟨v, vs, g1, g2, g3, g4, g5, g6, g7, g8⟩ hlt
    have hfit := okAt_fits hok
    have hd : 1 ≤ n - 1 - 1 := by omega
    have hA : ∃ A', A = some ⟨b, off, none⟩ ∧ A' = A := by
      rcases HB.out with h4 | ⟨hA, _⟩
      · exfalso
        unfold nextAt at hfit
        omega
      · exact ⟨_, hA, rfl⟩
    obtain ⟨_, hA, _⟩ := hA
    have hbody : Rd W w.heap.size (some ⟨b, off + (p + 4), none⟩) (bv (bodyAt l p)) := by
      have := HC.out.below g6
      rw [hA] at this
      unfold bodyAt
      rw [bv_take, bv_drop, bv_drop, ← Nat.add_assoc]
      exact ((this.drop p).drop 4).take _
    have hbl : (bodyAt l p).length = num4 (l.drop p) := bodyAt_length hok
    have c1 := g1.cell
    have c4 := g4.cell
    have f1 := g1.frozen
    have f4 := g4.frozen
    have z1 := g1.lt
    have z4 := g4.lt
    have H1 := Lib.hid g1
    have H2 := Lib.hid g2
    have H3 := Lib.hid g3
    have H4 := Lib.hid g4
    have H5 := Lib.hid g5
    have H6 := Lib.hid g6
    have H8 := Lib.hid g8
    have HBD := Lib.hid hbody
    have HBL := Lib.hid hbl
    clear g1 g2 g3 g4 g5 g6 g8 hbody hbl hA
    dsimp only
    gi_wp2
    refine wpIn_region_any hmx ?_
    change wpAnyIn _ _ _ _ _ _ _ _ _ (World.drew _)
    refine wpAnyIn_ready (rs := [0, 1]) (by kernel_rfl) (by simp) ?_
    refine AllReadyIn.cons rfl (fun K hK => ?_) (AllReadyIn.cons rfl (fun K hK => ?_) AllReadyIn.nil)
    · go_simp
      refine hK _ _ ?_
      clear hK K
      refine wpAnyIn_ready (rs := [1]) (by kernel_rfl) (by simp) ?_
      refine AllReadyIn.cons rfl (fun K hK => ?_) AllReadyIn.nil
      go_simp
      refine hK _ _ ?_
      clear hK K
      refine wpAnyIn_ready (rs := [2]) (by kernel_rfl) (by simp) ?_
      refine AllReadyIn.cons rfl (fun K hK => ?_) AllReadyIn.nil
      go_simp
      refine ⟨trivial, ?_⟩
      refine (CallsIn.inRound lp (callsIn_wide.2 (clone_any _ (bodyAt l p) (num4 (l.drop p)) _ w.heap.size _ HBD.out.drew HBL.out (by omega)))).mono ?_
      rintro e W1 ⟨A1, c9, rfl, hc1, own1, bel1⟩
      have BEL := Lib.hid (show Below W.heap.size W W1 from ⟨bel1.os, bel1.tape, bel1.output, bel1.size, bel1.block⟩)
      have OWN1 := Lib.hid (show W1.ownsRow W.heap.size 5 1 (.slice A1 (num4 (l.drop p)) c9) (num4 (l.drop p)) (bv (bodyAt l p)) from own1)
      have OWN2 := Lib.hid (own_keep H2.out BEL.out)
      have d1 : W1.cell? ⟨w.heap.size, 0, none⟩ = some v := (BEL.out.cell (p := ⟨w.heap.size, 0, none⟩) z1).trans c1
      have NEW := Lib.hid (new_row W1 (.slice A1 (num4 (l.drop p)) c9) 22)
      have hsz1 := BEL.out.size
      have zz1 : w.heap.size < W1.heap.size := by omega
      clear own1 bel1
      dsimp only
      refine hK _ _ ?_
      clear hK K
      refine wpAnyIn_ready (rs := [3]) (by kernel_rfl) (by simp) ?_
      refine AllReadyIn.cons rfl (fun K hK => ?_) AllReadyIn.nil
      go_simp
      refine hK _ _ ?_
      clear hK K
      refine wpAnyIn_ready (rs := [4]) (by kernel_rfl) (by simp) ?_
      refine AllReadyIn.cons rfl (fun K hK => ?_) AllReadyIn.nil
      refine stepIn_app _ (fun _ => trivial) rfl (.tmp 12) (.tmp 15) 34 rfl (w.heap.size + 3) 22 i0 (.slice none 0 0) 24 Try.underlying34 hi hz0 hz1 hz2 rfl v pre.length vs rfl (OWN2.out.alloc _) (W1.heap.size + 1) (some ⟨W1.heap.size, 0, none⟩) 1 1 [.slice A1 (num4 (l.drop p)) c9] rfl rfl (NEW.out _ (by omega)) (by simp [Value.oneCell']) (by unfold maxLen; omega) (by omega) (by simp; omega) ?_
      intro v' w2 own2 gr2 _
      obtain ⟨g', c', rfl, _, _⟩ := own2.form (by omega)
      have R := body_rel H1.out H2.out H3.out H4.out H5.out H6.out g7 H8.out BEL.out OWN1.out HBL.out hc1 own2 gr2 (nextAt l p : Nat)
      have c1' := R.1.cell
      have f1' := R.1.frozen
      have z1' := R.1.lt
      have c4' := R.2.1.cell
      have f4' := R.2.1.frozen
      have RR := Lib.hid R.2.2
      clear R own2 gr2
      refine hK _ _ ?_
      clear hK K
      refine wpAnyIn_ready (rs := [5]) (by kernel_rfl) (by simp) ?_
      refine AllReadyIn.cons rfl (fun K hK => ?_) AllReadyIn.nil
      go_simp
      refine hK _ _ ?_
      clear hK K
      refine wpAnyIn_done (by kernel_rfl) ?_ _
      gi_wp2
      exact body_post l () pre p hok RR.out
    · go_simp
      refine hK _ _ ?_
      clear hK K
      refine wpAnyIn_ready (rs := [0, 2]) (by kernel_rfl) (by simp) ?_
      refine AllReadyIn.cons rfl (fun K hK => ?_) (AllReadyIn.cons rfl (fun K hK => ?_) AllReadyIn.nil)
      · go_simp
        refine hK _ _ ?_
        clear hK K
        refine wpAnyIn_ready (rs := [2]) (by kernel_rfl) (by simp) ?_
        refine AllReadyIn.cons rfl (fun K hK => ?_) AllReadyIn.nil
        go_simp
        refine ⟨trivial, ?_⟩
        refine (CallsIn.inRound lp (callsIn_wide.2 (clone_any _ (bodyAt l p) (num4 (l.drop p)) _ w.heap.size _ HBD.out.drew HBL.out (by omega)))).mono ?_
        rintro e W1 ⟨A1, c9, rfl, hc1, own1, bel1⟩
        have BEL := Lib.hid (show Below W.heap.size W W1 from ⟨bel1.os, bel1.tape, bel1.output, bel1.size, bel1.block⟩)
        have OWN1 := Lib.hid (show W1.ownsRow W.heap.size 5 1 (.slice A1 (num4 (l.drop p)) c9) (num4 (l.drop p)) (bv (bodyAt l p)) from own1)
        have OWN2 := Lib.hid (own_keep H2.out BEL.out)
        have d1 : W1.cell? ⟨w.heap.size, 0, none⟩ = some v := (BEL.out.cell (p := ⟨w.heap.size, 0, none⟩) z1).trans c1
        have NEW := Lib.hid (new_row W1 (.slice A1 (num4 (l.drop p)) c9) 22)
        have hsz1 := BEL.out.size
        have zz1 : w.heap.size < W1.heap.size := by omega
        clear own1 bel1
        dsimp only
        refine hK _ _ ?_
        clear hK K
        refine wpAnyIn_ready (rs := [3]) (by kernel_rfl) (by simp) ?_
        refine AllReadyIn.cons rfl (fun K hK => ?_) AllReadyIn.nil
        go_simp
        refine hK _ _ ?_
        clear hK K
        refine wpAnyIn_ready (rs := [4]) (by kernel_rfl) (by simp) ?_
        refine AllReadyIn.cons rfl (fun K hK => ?_) AllReadyIn.nil
        refine stepIn_app _ (fun _ => trivial) rfl (.tmp 12) (.tmp 15) 34 rfl (w.heap.size + 3) 22 i0 (.slice none 0 0) 24 Try.underlying34 hi hz0 hz1 hz2 rfl v pre.length vs rfl (OWN2.out.alloc _) (W1.heap.size + 1) (some ⟨W1.heap.size, 0, none⟩) 1 1 [.slice A1 (num4 (l.drop p)) c9] rfl rfl (NEW.out _ (by omega)) (by simp [Value.oneCell']) (by unfold maxLen; omega) (by omega) (by simp; omega) ?_
        intro v' w2 own2 gr2 _
        obtain ⟨g', c', rfl, _, _⟩ := own2.form (by omega)
        have R := body_rel H1.out H2.out H3.out H4.out H5.out H6.out g7 H8.out BEL.out OWN1.out HBL.out hc1 own2 gr2 (nextAt l p : Nat)
        have c1' := R.1.cell
        have f1' := R.1.frozen
        have z1' := R.1.lt
        have c4' := R.2.1.cell
        have f4' := R.2.1.frozen
        have RR := Lib.hid R.2.2
        clear R own2 gr2
        refine hK _ _ ?_
        clear hK K
        refine wpAnyIn_ready (rs := [5]) (by kernel_rfl) (by simp) ?_
        refine AllReadyIn.cons rfl (fun K hK => ?_) AllReadyIn.nil
        go_simp
        refine hK _ _ ?_
        clear hK K
        refine wpAnyIn_done (by kernel_rfl) ?_ _
        gi_wp2
        exact body_post l () pre p hok RR.out
      · go_simp
        refine ⟨trivial, ?_⟩
        refine (CallsIn.inRound lp (callsIn_wide.2 (clone_any _ (bodyAt l p) (num4 (l.drop p)) _ w.heap.size _ HBD.out.drew HBL.out (by omega)))).mono ?_
        rintro e W1 ⟨A1, c9, rfl, hc1, own1, bel1⟩
        have BEL := Lib.hid (show Below W.heap.size W W1 from ⟨bel1.os, bel1.tape, bel1.output, bel1.size, bel1.block⟩)
        have OWN1 := Lib.hid (show W1.ownsRow W.heap.size 5 1 (.slice A1 (num4 (l.drop p)) c9) (num4 (l.drop p)) (bv (bodyAt l p)) from own1)
        have OWN2 := Lib.hid (own_keep H2.out BEL.out)
        have d1 : W1.cell? ⟨w.heap.size, 0, none⟩ = some v := (BEL.out.cell (p := ⟨w.heap.size, 0, none⟩) z1).trans c1
        have NEW := Lib.hid (new_row W1 (.slice A1 (num4 (l.drop p)) c9) 22)
        have hsz1 := BEL.out.size
        have zz1 : w.heap.size < W1.heap.size := by omega
        clear own1 bel1
        dsimp only
        refine hK _ _ ?_
        clear hK K
        refine wpAnyIn_ready (rs := [0, 3]) (by kernel_rfl) (by simp) ?_
        refine AllReadyIn.cons rfl (fun K hK => ?_) (AllReadyIn.cons rfl (fun K hK => ?_) AllReadyIn.nil)
        · go_simp
          refine hK _ _ ?_
          clear hK K
          refine wpAnyIn_ready (rs := [3]) (by kernel_rfl) (by simp) ?_
          refine AllReadyIn.cons rfl (fun K hK => ?_) AllReadyIn.nil
          go_simp
          refine hK _ _ ?_
          clear hK K
          refine wpAnyIn_ready (rs := [4]) (by kernel_rfl) (by simp) ?_
          refine AllReadyIn.cons rfl (fun K hK => ?_) AllReadyIn.nil
          refine stepIn_app _ (fun _ => trivial) rfl (.tmp 12) (.tmp 15) 34 rfl (w.heap.size + 3) 22 i0 (.slice none 0 0) 24 Try.underlying34 hi hz0 hz1 hz2 rfl v pre.length vs rfl (OWN2.out.alloc _) (W1.heap.size + 1) (some ⟨W1.heap.size, 0, none⟩) 1 1 [.slice A1 (num4 (l.drop p)) c9] rfl rfl (NEW.out _ (by omega)) (by simp [Value.oneCell']) (by unfold maxLen; omega) (by omega) (by simp; omega) ?_
          intro v' w2 own2 gr2 _
          obtain ⟨g', c', rfl, _, _⟩ := own2.form (by omega)
          have R := body_rel H1.out H2.out H3.out H4.out H5.out H6.out g7 H8.out BEL.out OWN1.out HBL.out hc1 own2 gr2 (nextAt l p : Nat)
          have c1' := R.1.cell
          have f1' := R.1.frozen
          have z1' := R.1.lt
          have c4' := R.2.1.cell
          have f4' := R.2.1.frozen
          have RR := Lib.hid R.2.2
          clear R own2 gr2
          refine hK _ _ ?_
          clear hK K
          refine wpAnyIn_ready (rs := [5]) (by kernel_rfl) (by simp) ?_
          refine AllReadyIn.cons rfl (fun K hK => ?_) AllReadyIn.nil
          go_simp
          refine hK _ _ ?_
          clear hK K
          refine wpAnyIn_done (by kernel_rfl) ?_ _
          gi_wp2
          exact body_post l () pre p hok RR.out
        · go_simp
          refine hK _ _ ?_
          clear hK K
          refine wpAnyIn_ready (rs := [0]) (by kernel_rfl) (by simp) ?_
          refine AllReadyIn.cons rfl (fun K hK => ?_) AllReadyIn.nil
          go_simp
          refine hK _ _ ?_
          clear hK K
          refine wpAnyIn_ready (rs := [4]) (by kernel_rfl) (by simp) ?_
          refine AllReadyIn.cons rfl (fun K hK => ?_) AllReadyIn.nil
          refine stepIn_app _ (fun _ => trivial) rfl (.tmp 12) (.tmp 15) 34 rfl (w.heap.size + 3) 22 i0 (.slice none 0 0) 24 Try.underlying34 hi hz0 hz1 hz2 rfl v pre.length vs rfl (OWN2.out.alloc _) (W1.heap.size + 1) (some ⟨W1.heap.size, 0, none⟩) 1 1 [.slice A1 (num4 (l.drop p)) c9] rfl rfl (NEW.out _ (by omega)) (by simp [Value.oneCell']) (by unfold maxLen; omega) (by omega) (by simp; omega) ?_
          intro v' w2 own2 gr2 _
          obtain ⟨g', c', rfl, _, _⟩ := own2.form (by omega)
          have R := body_rel H1.out H2.out H3.out H4.out H5.out H6.out g7 H8.out BEL.out OWN1.out HBL.out hc1 own2 gr2 (nextAt l p : Nat)
          have c1' := R.1.cell
          have f1' := R.1.frozen
          have z1' := R.1.lt
          have c4' := R.2.1.cell
          have f4' := R.2.1.frozen
          have RR := Lib.hid R.2.2
          clear R own2 gr2
          refine hK _ _ ?_
          clear hK K
          refine wpAnyIn_ready (rs := [5]) (by kernel_rfl) (by simp) ?_
          refine AllReadyIn.cons rfl (fun K hK => ?_) AllReadyIn.nil
          go_simp
          refine hK _ _ ?_
          clear hK K
          refine wpAnyIn_done (by kernel_rfl) ?_ _
          gi_wp2
          exact body_post l () pre p hok RR.out
  case done =>
    rintro D ys W hD ⟨q, hch, hno⟩ ⟨v, vs, g1, g2, g3, g4, g5, g6, g7, g8⟩ hK
    have hq := hch.end_
    rw [← hq] at g4
    have c1 := g1.cell
    have c4 := g4.cell
    have H2 := Lib.hid g2
    have H3 := Lib.hid g3
    have H6 := Lib.hid g6
    have HQ := Lib.hid hch
    have HN := Lib.hid hno
    have HK := Lib.hid hK
    clear g1 g2 g3 g4 g5 g6 g8 hq hch hno hK
    gi_wp2
    gi_region
    all_goals
      gi_wp2
      have hKd : (W.drew).heap[D]? = some (.deferred (some [])) := HK.out
      refine ⟨by simp, .inl ⟨_, _, rfl, run_takeDeferred hKd, ?_⟩⟩
      have hn : ∀ r, some D = some r → ∃ o : Obj, W.drew.heap[r]? = some o ∧ o.isCells = false := fun r e => by cases e; exact ⟨_, hKd, rfl⟩
      have hg := grownBy_putObj' W.drew D (.deferred none)
      have own : W.drew.ownsRow (w.heap.size + 3) 22 1 v ys.length vs := H2.out
      have rws : Rows2 W.drew W.drew.heap.size vs ((ys.map (·.1)).map (bodyAt l)) := H3.out
      refine ⟨_, results_tmp2 rfl _ _ _, v, ys.map (·.1), q, vs, rfl, HQ.out, HN.out, ?_, rws.map (fun A xs h => (rd_kept_cells h hg hn).more hg.size), ?_⟩
      · rw [List.length_map]
        exact own_base (own_kept_cells own hg hn) (by omega)
      · exact H6.out.drew.trans (belowK_b (w := w) (Nat.le_refl _) W.drew D _ _ (by omega) hKd rfl rfl)
  case stop =>
    rintro D c pre W _ _ h _
    exact h.elim

theorem split_any (A : Option Addr) (l : List UInt8) (cap : Nat) (w : World) (hlen : l.length ≤ cap) (hcap : cap ≤ 9223372036854775807) (hl : l.length ≤ 1099511627776) (hc : Rd w w.heap.size A (bv l)) :
    Calls Try.prog 17 #[.slice A l.length cap] w (Splitted l w) := by
  refine (callsIn_wide (n := 4)).1 ?_
  by_cases h4 : l.length < 4
  · exact split_in 4 (Nat.le_refl _) A 0 0 cap l hlen hcap hl w (.inl h4) hc
  · obtain ⟨b, off, hA, hb, _⟩ := hc.at_ (fun e => by have := congrArg List.length e; rw [bv_length] at this; simp only [List.length_nil] at this; omega)
    exact split_in 4 (Nat.le_refl _) A b off cap l hlen hcap hl w (.inr ⟨hA, hb⟩) hc
end Go.Proofs.Ytihioccpnadieaa
