/- Plain: a frame cut short, and a frame of which one byte is another one, are refused. -/
import Derived.Test.YtihioccpnadieaaPq
namespace Go.Proofs.Ytihioccpnadieaa

theorem num4_frame (l : List UInt8) (h : l.length ≤ 4194304) : num4 (frameOf l) = l.length := by
  unfold frameOf
  rw [List.append_assoc]
  exact num4_le4 _ (by omega) _
theorem num4_congr {a b : List UInt8} (h : ∀ i, i < 4 → a.getD i 0 = b.getD i 0) : num4 a = num4 b := by
  unfold num4
  rw [h 0 (by decide), h 1 (by decide), h 2 (by decide), h 3 (by decide)]

theorem firstOf_cut (l : List UInt8) (r : Nat) (hr : r < l.length + 8) (h : l.length ≤ 4194304) : firstOf ((frameOf l).take r) = (0, 10) := by
  have hL := frameOf_length l
  have hlen : ((frameOf l).take r).length = r := by rw [List.length_take]; omega
  unfold firstOf
  rw [hlen]
  by_cases h4 : r < 4
  · rw [if_pos h4]
  · have hn : num4 ((frameOf l).take r) = l.length := by
      rw [← num4_frame l h]
      refine num4_congr fun i hi => ?_
      rw [List.getD_eq_getElem?_getD, List.getD_eq_getElem?_getD, List.getElem?_take, if_pos (by omega)]
    rw [if_neg h4, hn, if_neg (by omega), if_pos hr]

theorem num4_set (a : List UInt8) (j : Nat) (x : UInt8) (h4 : 4 ≤ a.length) (hj : j < 4) (hx : x ≠ a.getD j 0) : num4 (a.set j x) ≠ num4 a := by
  have hx' : x.toNat ≠ (a.getD j 0).toNat := fun e => hx (UInt8.toNat_inj.1 e)
  have hg : ∀ i, i < 4 → i ≠ j → ((a.set j x).getD i 0).toNat = (a.getD i 0).toNat := by
    intro i hi hij
    rw [List.getD_eq_getElem?_getD, List.getElem?_set, List.getD_eq_getElem?_getD, if_neg (fun e => hij e.symm)]
  have hs : ((a.set j x).getD j 0).toNat = x.toNat := by
    rw [List.getD_eq_getElem?_getD, List.getElem?_set, if_pos rfl, if_pos (by omega)]
    rfl
  unfold num4
  have h0 := (a.getD 0 0).toNat_lt
  have h1 := (a.getD 1 0).toNat_lt
  have h2 := (a.getD 2 0).toNat_lt
  have h3 := (a.getD 3 0).toNat_lt
  have hxx := x.toNat_lt
  have g0 := hg 0 (by decide)
  have g1 := hg 1 (by decide)
  have g2 := hg 2 (by decide)
  have g3 := hg 3 (by decide)
  have hj' : j = 0 ∨ j = 1 ∨ j = 2 ∨ j = 3 := by omega
  rcases hj' with rfl | rfl | rfl | rfl
  · rw [hs, g1 (by decide), g2 (by decide), g3 (by decide)]; omega
  · rw [hs, g0 (by decide), g2 (by decide), g3 (by decide)]; omega
  · rw [hs, g0 (by decide), g1 (by decide), g3 (by decide)]; omega
  · rw [hs, g0 (by decide), g1 (by decide), g2 (by decide)]; omega

theorem firstOf_turned (l : List UInt8) (k : Nat) (x : UInt8) (h : l.length ≤ 4194304) (h4 : 4 ≤ k) (hk : k < l.length + 8) (hx : x ≠ (frameOf l).getD k 0) : firstOf ((frameOf l).set k x) = (0, 12) := by
  have hL := frameOf_length l
  have hn : num4 ((frameOf l).set k x) = l.length := by
    rw [← num4_frame l h]
    refine num4_congr fun i hi => ?_
    rw [List.getD_eq_getElem?_getD, List.getD_eq_getElem?_getD, List.getElem?_set, if_neg (by omega)]
  have hhead : (le4 l.length ++ l).length = l.length + 4 := by simp [le4_length]; omega
  have htake : (frameOf l).take (l.length + 4) = le4 l.length ++ l := by
    unfold frameOf
    rw [← hhead, List.take_left]
  have hdrop : (frameOf l).drop (l.length + 4) = le4 (sumOf (le4 l.length ++ l)) := by
    unfold frameOf
    rw [← hhead, List.drop_left]
  have hsum : num4 (le4 (sumOf (le4 l.length ++ l))) = sumOf (le4 l.length ++ l) := by
    have := num4_le4 (sumOf (le4 l.length ++ l)) (by have := sumOf_le (le4 l.length ++ l); omega) []
    simpa using this
  have hne : ¬ num4 (((frameOf l).set k x).drop (l.length + 4)) = sumOf (((frameOf l).set k x).take (l.length + 4)) := by
    by_cases hk4 : k < l.length + 4
    · rw [List.drop_set_of_lt hk4, hdrop, hsum, List.take_set, htake]
      have hg : (frameOf l).getD k 0 = (le4 l.length ++ l).getD k 0 := by
        rw [← htake, List.getD_eq_getElem?_getD, List.getD_eq_getElem?_getD, List.getElem?_take, if_pos hk4]
      rw [hg] at hx
      generalize le4 l.length ++ l = M at *
      have hkM : k < M.length := by omega
      have e1 : M = M.take k ++ M.getD k 0 :: M.drop (k + 1) := by
        rw [List.getD_eq_getElem?_getD, List.getElem?_eq_getElem hkM, Option.getD_some, List.getElem_cons_drop, List.take_append_drop]
      have e2 : M.set k x = M.take k ++ x :: M.drop (k + 1) := List.set_eq_take_append_cons_drop .. |>.trans (if_pos hkM)
      rw [e2]
      exact fun e => sumOf_turned (M.take k) (M.drop (k + 1)) x (M.getD k 0) hx (by rw [← e1]; exact e.symm)
    · have e1 : ((frameOf l).set k x).take (l.length + 4) = le4 l.length ++ l := by
        rw [List.take_set_of_le (by omega), htake]
      have e2 : ((frameOf l).set k x).drop (l.length + 4) = (le4 (sumOf (le4 l.length ++ l))).set (k - (l.length + 4)) x := by
        rw [List.drop_set, if_neg hk4, hdrop]
      have hg : (frameOf l).getD k 0 = (le4 (sumOf (le4 l.length ++ l))).getD (k - (l.length + 4)) 0 := by
        rw [← hdrop, List.getD_eq_getElem?_getD, List.getD_eq_getElem?_getD, List.getElem?_drop, Nat.add_sub_cancel' (by omega)]
      rw [e1, e2]
      rw [hg] at hx
      exact fun e => num4_set _ _ _ (by simp [le4_length]) (by omega) hx (e.trans hsum.symm)
  unfold firstOf
  rw [List.length_set, hL, hn, if_neg (by omega), if_neg (by omega), if_neg (by omega), if_neg hne]
end Go.Proofs.Ytihioccpnadieaa
