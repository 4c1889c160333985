/- Plain: four bytes as a number and back; the frame; the first frame. -/
import Derived.Test.YtihioccpnadieaaPl
namespace Go.Proofs.Ytihioccpnadieaa

def num4 (l : List UInt8) : Nat := (l.getD 0 0).toNat + 256 * (l.getD 1 0).toNat + 65536 * (l.getD 2 0).toNat + 16777216 * (l.getD 3 0).toNat
def le4 (n : Nat) : List UInt8 := [UInt8.ofNat (n % 256), UInt8.ofNat (n / 256 % 256), UInt8.ofNat (n / 65536 % 256), UInt8.ofNat (n / 16777216 % 256)]
theorem num4_lt (l : List UInt8) : num4 l < 4294967296 := by
  unfold num4
  have h0 := (l.getD 0 0).toNat_lt
  have h1 := (l.getD 1 0).toNat_lt
  have h2 := (l.getD 2 0).toNat_lt
  have h3 := (l.getD 3 0).toNat_lt
  omega
theorem ofNat_byte (n : Nat) : (UInt8.ofNat (n % 256)).toNat = n % 256 := by simp
theorem num4_le4 (n : Nat) (h : n < 4294967296) (t : List UInt8) : num4 (le4 n ++ t) = n := by
  have e0 : ((le4 n ++ t).getD 0 0).toNat = n % 256 := ofNat_byte n
  have e1 : ((le4 n ++ t).getD 1 0).toNat = n / 256 % 256 := ofNat_byte _
  have e2 : ((le4 n ++ t).getD 2 0).toNat = n / 65536 % 256 := ofNat_byte _
  have e3 : ((le4 n ++ t).getD 3 0).toNat = n / 16777216 % 256 := ofNat_byte _
  unfold num4
  rw [e0, e1, e2, e3]
  omega
theorem le4_length (n : Nat) : (le4 n).length = 4 := rfl

/-- The frame of a body. -/
def frameOf (body : List UInt8) : List UInt8 := (le4 body.length ++ body) ++ le4 (sumOf (le4 body.length ++ body))
theorem frameOf_length (body : List UInt8) : (frameOf body).length = body.length + 8 := by simp [frameOf, le4_length]; omega

/-- Where the first frame ends, and the error (0: none). -/
def firstOf (b : List UInt8) : Nat × Nat :=
  if b.length < 4 then (0, 10)
  else if 4194304 < num4 b then (0, 11)
  else if b.length < num4 b + 8 then (0, 10)
  else if num4 (b.drop (num4 b + 4)) = sumOf (b.take (num4 b + 4)) then (num4 b + 8, 0) else (0, 12)

theorem firstOf_ok {b : List UInt8} (h : (firstOf b).2 = 0) : (firstOf b).1 = num4 b + 8 ∧ num4 b ≤ 4194304 ∧ num4 b + 8 ≤ b.length := by
  unfold firstOf at h ⊢
  split
  · rename_i h1; rw [if_pos h1] at h; cases h
  · rename_i h1
    rw [if_neg h1] at h
    split
    · rename_i h2; rw [if_pos h2] at h; cases h
    · rename_i h2
      rw [if_neg h2] at h
      split
      · rename_i h3; rw [if_pos h3] at h; cases h
      · rename_i h3
        rw [if_neg h3] at h
        split
        · exact ⟨rfl, by omega, by omega⟩
        · rename_i h4; rw [if_neg h4] at h; cases h
theorem firstOf_err_lt (b : List UInt8) : (firstOf b).2 ≤ 12 := by
  unfold firstOf
  repeat' split
  all_goals simp

/-- A frame, whatever lies behind it, is read. -/
theorem firstOf_frame (body t : List UInt8) (h : body.length ≤ 4194304) : firstOf (frameOf body ++ t) = (body.length + 8, 0) := by
  have hn : num4 (frameOf body ++ t) = body.length := by
    unfold frameOf
    rw [List.append_assoc, List.append_assoc]
    exact num4_le4 _ (by omega) _
  have hl : (frameOf body ++ t).length = body.length + 8 + t.length := by rw [List.length_append, frameOf_length]
  have hhead : (le4 body.length ++ body).length = body.length + 4 := by simp [le4_length]; omega
  have htake : (frameOf body ++ t).take (body.length + 4) = le4 body.length ++ body := by
    unfold frameOf
    rw [List.append_assoc, ← hhead, List.take_left]
  have hdrop : (frameOf body ++ t).drop (body.length + 4) = le4 (sumOf (le4 body.length ++ body)) ++ t := by
    unfold frameOf
    rw [List.append_assoc, ← hhead, List.drop_left]
  unfold firstOf
  rw [hn, hl, if_neg (by omega), if_neg (by omega), if_neg (by omega), hdrop, htake, num4_le4 _ (by have := sumOf_le (le4 body.length ++ body); omega), if_pos rfl]
theorem body_of_frame (body t : List UInt8) : ((frameOf body ++ t).drop 4).take body.length = body := by
  unfold frameOf
  rw [List.append_assoc, List.append_assoc, show 4 = (le4 body.length).length from rfl, List.drop_left, List.take_left]
theorem rest_of_frame (body t : List UInt8) : (frameOf body ++ t).drop (body.length + 8) = t := by
  rw [← frameOf_length, List.drop_left]

/-! The frames one behind the other. -/
def okAt (l : List UInt8) (p : Nat) : Prop := (firstOf (l.drop p)).2 = 0
def nextAt (l : List UInt8) (p : Nat) : Nat := p + (num4 (l.drop p) + 8)
def bodyAt (l : List UInt8) (p : Nat) : List UInt8 := ((l.drop p).drop 4).take (num4 (l.drop p))
theorem okAt_fits {l : List UInt8} {p : Nat} (h : okAt l p) : nextAt l p ≤ l.length ∧ num4 (l.drop p) ≤ 4194304 := by
  obtain ⟨_, h2, h3⟩ := firstOf_ok h
  rw [List.length_drop] at h3
  unfold nextAt
  omega
theorem okAt_first {l : List UInt8} {p : Nat} (h : okAt l p) : firstOf (l.drop p) = (num4 (l.drop p) + 8, 0) := by
  have h1 := firstOf_ok h
  have h2 : (firstOf (l.drop p)).2 = 0 := h
  rw [← h1.1, ← h2]
theorem bodyAt_length {l : List UInt8} {p : Nat} (h : okAt l p) : (bodyAt l p).length = num4 (l.drop p) := by
  have := (firstOf_ok h).2.2
  unfold bodyAt
  rw [List.length_take, List.length_drop]
  omega

/-- From p on the frames begin at xs, and end at q. -/
def Chain (l : List UInt8) : Nat → List Nat → Nat → Prop
  | p, [], q => p = q
  | p, x :: xs, q => x = p ∧ okAt l p ∧ Chain l (nextAt l p) xs q
theorem Chain.snoc {l : List UInt8} : ∀ {p : Nat} {xs : List Nat} {q : Nat}, Chain l p xs q → okAt l q → Chain l p (xs ++ [q]) (nextAt l q)
  | _, [], _, rfl, hq => ⟨rfl, hq, rfl⟩
  | _, _ :: _, _, ⟨hx, hp, hr⟩, hq => ⟨hx, hp, Chain.snoc hr hq⟩
theorem Chain.bound {l : List UInt8} : ∀ {p : Nat} {xs : List Nat} {q : Nat}, Chain l p xs q → p + 8 * xs.length ≤ q ∧ (p ≤ l.length → q ≤ l.length)
  | p, [], q, h => by have h : p = q := h; subst h; simp
  | p, x :: xs, q, ⟨_, hp, hr⟩ => by
    have := hr.bound
    have h2 := okAt_fits hp
    have h3 : p + 8 ≤ nextAt l p := by unfold nextAt; omega
    refine ⟨?_, fun _ => this.2 h2.1⟩
    rw [List.length_cons]
    omega
theorem Chain.unique {l : List UInt8} : ∀ {p : Nat} {xs ys : List Nat} {q r : Nat}, Chain l p xs q → ¬ okAt l q → Chain l p ys r → ¬ okAt l r → xs = ys ∧ q = r
  | _, [], [], _, _, h, _, k, _ => ⟨rfl, h.symm.trans k⟩
  | p, [], y :: ys, q, _, h, hq, ⟨_, hp, _⟩, _ => by have h : p = q := h; subst h; exact absurd hp hq
  | p, x :: xs, [], _, r, ⟨_, hp, _⟩, _, k, hr => by have k : p = r := k; subst k; exact absurd hp hr
  | p, x :: xs, y :: ys, q, r, ⟨hx, hp, h⟩, hq, ⟨hy, _, k⟩, hr => by
    obtain ⟨h1, h2⟩ := Chain.unique h hq k hr
    exact ⟨by rw [hx, hy, h1], h2⟩
/-- Where the last of the frames that begin at xs ends. -/
def lastEnd (l : List UInt8) (xs : List Nat) : Nat := match xs.getLast? with | none => 0 | some x => nextAt l x
theorem lastEnd_snoc (l : List UInt8) (xs : List Nat) (x : Nat) : lastEnd l (xs ++ [x]) = nextAt l x := by simp [lastEnd]
theorem Chain.last {l : List UInt8} : ∀ {p : Nat} {xs : List Nat} {q : Nat}, Chain l p xs q → xs ≠ [] → q = lastEnd l xs
  | _, [], _, _, hne => absurd rfl hne
  | p, [x], q, ⟨hx, _, hr⟩, _ => by
    have hr : nextAt l p = q := hr
    simp [lastEnd, hx, hr]
  | _, x :: y :: xs, q, ⟨_, _, hr⟩, _ => by
    have := hr.last (by simp)
    rw [this]
    simp [lastEnd]
theorem Chain.end_ {l : List UInt8} {xs : List Nat} {q : Nat} (h : Chain l 0 xs q) : q = lastEnd l xs := by
  cases xs with
  | nil => exact (show 0 = q from h).symm
  | cons x xs => exact h.last (by simp)
/-- Frames written one behind the other, and behind them what is none. -/
theorem Chain.frames (t : List UInt8) : ∀ (bodies : List (List UInt8)) (pre : List UInt8), (∀ b ∈ bodies, b.length ≤ 4194304) →
    ∃ xs, Chain (pre ++ ((bodies.map frameOf).flatten ++ t)) pre.length xs (pre.length + (bodies.map frameOf).flatten.length) ∧ xs.map (bodyAt (pre ++ ((bodies.map frameOf).flatten ++ t))) = bodies
  | [], pre, _ => ⟨[], by simp [Chain], rfl⟩
  | b :: bs, pre, h => by
    have hb := h b (by simp)
    obtain ⟨xs, hc, hm⟩ := Chain.frames t bs (pre ++ frameOf b) (fun c hc => h c (by simp [hc]))
    have e : (pre ++ frameOf b) ++ ((bs.map frameOf).flatten ++ t) = pre ++ (((b :: bs).map frameOf).flatten ++ t) := by simp [List.append_assoc]
    rw [e] at hc hm
    have hd : (pre ++ (((b :: bs).map frameOf).flatten ++ t)).drop pre.length = frameOf b ++ ((bs.map frameOf).flatten ++ t) := by
      rw [List.drop_left]; simp [List.append_assoc]
    have hf := firstOf_frame b ((bs.map frameOf).flatten ++ t) hb
    have hn : num4 (frameOf b ++ ((bs.map frameOf).flatten ++ t)) = b.length := by
      have h1 := firstOf_ok (b := frameOf b ++ ((bs.map frameOf).flatten ++ t)) (by rw [hf])
      rw [hf] at h1
      have := h1.1
      simp only at this
      omega
    have hna : nextAt (pre ++ (((b :: bs).map frameOf).flatten ++ t)) pre.length = (pre ++ frameOf b).length := by
      unfold nextAt
      rw [hd, hn, List.length_append, frameOf_length]
    refine ⟨pre.length :: xs, ⟨rfl, ?_, ?_⟩, ?_⟩
    · unfold okAt
      rw [hd, hf]
    · rw [hna]
      have : (pre ++ frameOf b).length + (bs.map frameOf).flatten.length = pre.length + (((b :: bs).map frameOf).flatten).length := by simp; omega
      rw [← this]
      exact hc
    · rw [List.map_cons, hm]
      congr 1
      unfold bodyAt
      rw [hd, hn]
      exact body_of_frame b _
end Go.Proofs.Ytihioccpnadieaa
