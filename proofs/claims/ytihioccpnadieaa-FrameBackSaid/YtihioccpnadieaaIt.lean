/- The iterator behind frame.Split: which frames it hands out, whatever the loop's body does to memory of its own. -/
import Derived.Test.YtihioccpnadieaaNx
import Derived.RangeFuncNested
import Derived.RangeFuncBound
import Derived.RangeFuncCalls
import Derived.RangeFuncLeaves
import Derived.RangeFuncBox
import Derived.Shelf.Abstract
import Derived.Shelf.RegionOpen
import Derived.OwnWalkIn
import Derived.TacticsInMore
import Derived.LoopNIn
import Derived.LoopIn
namespace Go.Proofs.Ytihioccpnadieaa
open Go.RowKit Go.Shelf
set_option linter.unusedVariables false
attribute [local go_sem] Oper.semAt_some

/-- What a round is handed: where a frame begins. -/
abbrev At (l : List UInt8) := { p : Nat // okAt l p }
/-- The bytes l lie at ⟨b, off⟩ of a slice of capacity cap: what yield is called with for the frame at p: where it ends; its body. -/
def encAt (l : List UInt8) (b off cap : Nat) (x : At l) : Array Value :=
  #[.int .i64 ((nextAt l x.1 : Nat) : Int), .slice (some ⟨b, off + (x.1 + 4), none⟩) (num4 (l.drop x.1)) (cap - (x.1 + 4))]

/-- What a round keeps: what lay below n₀, and the box that holds b. -/
def Kept (n₀ Bs : Nat) (W W' : World) : Prop := Below n₀ W W' ∧ W'.heap[Bs]? = W.heap[Bs]?

set_option maxRecDepth 100000 in
set_option maxHeartbeats 2000000 in
theorem frames1_in (n : Nat) (hn : 1 ≤ n) (lp Bs n₀ b off cap : Nat) (l : List UInt8) (h4 : 4 ≤ l.length) (hlen : l.length ≤ cap) (hcap : cap ≤ 9223372036854775807) (hb : b < n₀) (J Jx : List (At l) → World → Prop)
    (hY : ∀ pre x W, J pre W → pre.length < l.length → YieldAt Fence.wide (n - 1) Try.prog lp (encAt l b off cap x) W fun e W' =>
      (e = .returned (.bool true) ∧ J (pre ++ [x]) W' ∧ Kept n₀ Bs W W') ∨ (e = .returned (.bool false) ∧ Jx (pre ++ [x]) W'))
    (hJd : ∀ pre W k, J pre W → J pre (W.drewN k))
    (W : World) (hBs : W.heap[Bs]? = some (.cells #[.slice (some ⟨b, off, none⟩) l.length cap] 22 (0, 0))) (hc : Rd W n₀ (some ⟨b, off, none⟩) (bv l)) (h0 : J [] W) :
    CallsIn Fence.wide n Try.prog 27 #[.func (.yield lp) #[] #[], .pointer (some ⟨Bs, 0, none⟩)] W fun e W' => (∃ v, e = .returned v) ∧
      ((∃ ys, (∃ q, Chain l 0 (ys.map (·.1)) q ∧ ¬ okAt l q) ∧ J ys W') ∨ (∃ pre, True ∧ Jx pre W')) := by
  have HC := Lib.hid hc
  have HBS := Lib.hid hBs
  have HY := Lib.hid hY
  have HJD := Lib.hid hJd
  clear hc hBs hY hJd
  refine callsIn_of_wp Try.func27 rfl trivial ?_ rfl
  simp only [Try.ntmps27, List.size_toArray, List.length_cons, List.length_nil, Nat.reduceAdd, Nat.reduceSub, Array.replicate_succ, Array.replicate_zero, List.push_toArray, List.append_toArray, List.nil_append, List.cons_append]
  gi_wp2
  gi_loopw [3] (fun i wr => ∃ (p : Nat) (pre : List (At l)), i = .int .i64 p ∧ p ≤ l.length ∧ Chain l 0 (pre.map (·.1)) p ∧ J pre wr ∧ Rd wr n₀ (some ⟨b, off, none⟩) (bv l) ∧ wr.heap[Bs]? = some (.cells #[.slice (some ⟨b, off, none⟩) l.length cap] 22 (0, 0)))
    (fun i _ => l.length - (intOf i).toNat)
  case atStart => exact ⟨0, [], rfl, by omega, rfl, h0, HC.out, HBS.out⟩
  case round =>
    obtain ⟨p, pre, rfl, hp, hch, hJs, hrd, hbs⟩ := hrel
    have HCH := Lib.hid hch
    have HJS := Lib.hid hJs
    have HRD := Lib.hid hrd
    have HBR := Lib.hid hbs
    have c1 : wr.cell? ⟨Bs, 0, none⟩ = some (.slice (some ⟨b, off, none⟩) l.length cap) := cell_of_one hbs
    clear hch hJs hrd hbs
    have hF : ∀ (a : Option Addr) (c : Nat), l.length - p ≤ c → c ≤ cap → Rd wr n₀ a (bv (l.drop p)) → Calls Try.prog 22 #[.slice a (l.length - p) c] wr (First (l.drop p) wr) := by
      intro a c h1 h2 h3
      have := first_any a n₀ (l.drop p) c wr h3 (by rw [List.length_drop]; exact h1) (by omega)
      rwa [List.length_drop] at this
    by_cases hcp : cap = p
    · -- the capacity is used up: no bytes are left
      obtain rfl : p = l.length := by omega
      have hno : ¬ okAt l l.length := by unfold okAt firstOf; rw [List.drop_length]; simp
      have hF0 := hF (some ⟨b, off, none⟩) 0 (by omega) (by omega) (by rw [List.drop_length]; exact .inl rfl)
      have hfe : firstOf (l.drop l.length) = (0, 10) := by unfold firstOf; rw [List.drop_length]; simp
      unfold First at hF0
      rw [hfe, Nat.sub_self] at hF0
      have HF0 := Lib.hid hF0
      clear hF hF0 hfe
      have k2 : (l.length : Int) ≤ (cap : Int) := by omega
      gi_wp2_with (refine ⟨trivial, ?_⟩; gi_at_call 22; refine (callsIn_wide.2 HF0.out).mono ?_; rintro e w2 ⟨rfl, k, rfl⟩)
      refine ⟨fun _ h => (by cases h), ?_⟩
      gi_wp2
      go_returns
      exact ⟨⟨_, rfl⟩, .inl ⟨pre, ⟨_, HCH.out, hno⟩, HJD.out _ _ k HJS.out⟩⟩
    · have k1 : (0 : Int) ≤ (p : Int) := by omega
      have k2 : (p : Int) ≤ (l.length : Int) := by omega
      have k3 : (p : Int) ≤ (cap : Int) := by omega
      have hF1 := hF (some ⟨b, off + p, none⟩) (cap - p) (by omega) (by omega) (by rw [bv_drop]; exact HRD.out.drop p)
      by_cases hok : okAt l p
      · have hfe := okAt_first hok
        have hfit := okAt_fits hok
        unfold First at hF1
        rw [hfe] at hF1
        have hargs : encAt l b off cap ⟨p, hok⟩ = #[.int .i64 ((p : Int) + ((num4 (l.drop p) : Nat) + 8 : Int)), .slice (some ⟨b, off + (p + 4), none⟩) (num4 (l.drop p)) (cap - (p + 4))] := by
          unfold encAt nextAt
          simp only
          congr 3
        have hnx : nextAt l p = p + (num4 (l.drop p) + 8) := rfl
        have hle : pre.length < l.length := by
          have := HCH.out.bound.1
          rw [List.length_map] at this
          unfold nextAt at hfit
          omega
        obtain ⟨m, hm⟩ : ∃ m, m = num4 (l.drop p) := ⟨_, rfl⟩
        rw [← hm] at hF1 hargs hfit hnx
        have hfit1 : p + (m + 8) ≤ l.length := by rw [← hnx]; exact hfit.1
        have hfit2 := hfit.2
        have HF1 := Lib.hid hF1
        have HARGS := Lib.hid hargs
        have HNX := Lib.hid hnx
        have HFE := Lib.hid hfe
        clear hF hF1 hargs hnx hfe hm hfit
        have q1 : (0 : Int) ≤ (p : Int) + 4 := by omega
        have q2 : (p : Int) + 4 ≤ (p : Int) + ((m : Int) + 8) - 4 := by omega
        have q3 : (p : Int) + ((m : Int) + 8) - 4 ≤ (cap : Int) := by omega
        have q4 : ((p : Int) + ((m : Int) + 8) - 4).toNat = p + m + 4 := by omega
        have q5 : ((p : Int) + 4).toNat = p + 4 := by omega
        have q6 : ¬ cap = p + 4 := by omega
        gi_wp2_with (refine ⟨trivial, ?_⟩; gi_at_call 22; refine (callsIn_wide.2 HF1.out).mono ?_; rintro e w2 ⟨rfl, k, rfl⟩; (have c2 : (wr.drewN k).cell? ⟨Bs, 0, none⟩ = some (.slice (some ⟨b, off, none⟩) l.length cap) := c1); obtain ⟨fn, tmps, assign, body, hy, hR⟩ := HY.out pre ⟨p, hok⟩ _ (HJD.out _ _ k HJS.out) hle; rw [HARGS.out] at hy)
        refine hR.mono ?_
        rintro e W3 (⟨rfl, hJ3, hk3⟩ | ⟨rfl, hx3⟩)
        · have HJ3 := Lib.hid hJ3
          have HK3 := Lib.hid hk3
          clear hJ3 hk3
          gi_wp2
          go_roundw
          case rel =>
            refine ⟨p + (m + 8), pre ++ [⟨p, hok⟩], by go_num, hfit1, ?_, HJ3.out, (HRD.out.drewN k).below HK3.out.1, HK3.out.2.trans HBR.out⟩
            have := HCH.out.snoc hok
            rw [HNX.out] at this
            simpa using this
          case measure => simp [intOf]; omega
        · gi_wp2
          go_returns
          exact ⟨⟨_, rfl⟩, .inr ⟨_, trivial, hx3⟩⟩
      · have hno : (firstOf (l.drop p)).2 ≠ 0 := hok
        have e1 : (((firstOf (l.drop p)).2 : Int) != 0) = true := by simp; exact hno
        unfold First at hF1
        have HF1 := Lib.hid hF1
        clear hF hF1 hno
        generalize (firstOf (l.drop p)).2 = er at *
        generalize (firstOf (l.drop p)).1 = en at *
        gi_wp2_with (refine ⟨trivial, ?_⟩; gi_at_call 22; refine (callsIn_wide.2 HF1.out).mono ?_; rintro e w2 ⟨rfl, k, rfl⟩)
        refine ⟨fun _ h => (by cases h), ?_⟩
        gi_wp2
        go_returns
        exact ⟨⟨_, rfl⟩, .inl ⟨pre, ⟨_, HCH.out, hok⟩, HJD.out _ _ k HJS.out⟩⟩

theorem not_ok_short {l : List UInt8} (h : l.length < 4) : ¬ okAt l 0 := by unfold okAt firstOf; rw [List.drop_zero, if_pos h]; simp

set_option maxRecDepth 100000 in
theorem frames1_short (n : Nat) (hn : 1 ≤ n) (lp Bs cap : Nat) (A : Option Addr) (l : List UInt8) (h4 : l.length < 4) (hlen : l.length ≤ cap) (hcap : cap ≤ 9223372036854775807) (W : World)
    (hBs : W.heap[Bs]? = some (.cells #[.slice A l.length cap] 22 (0, 0))) :
    CallsIn Fence.wide n Try.prog 27 #[.func (.yield lp) #[] #[], .pointer (some ⟨Bs, 0, none⟩)] W fun e W' => (∃ v, e = .returned v) ∧ ∃ k, W' = W.drewN k := by
  have c1 : W.cell? ⟨Bs, 0, none⟩ = some (.slice A l.length cap) := cell_of_one hBs
  have hF : ∀ a c, Calls Try.prog 22 #[.slice a l.length c] W (First l W) := fun a c => first_short a l c W h4
  have hfe : firstOf l = (0, 10) := by unfold firstOf; rw [if_pos h4]
  unfold First at hF
  rw [hfe] at hF
  have HF := Lib.hid hF
  clear hBs hF hfe
  refine callsIn_of_wp Try.func27 rfl trivial ?_ rfl
  simp only [Try.ntmps27, List.size_toArray, List.length_cons, List.length_nil, Nat.reduceAdd, Nat.reduceSub, Array.replicate_succ, Array.replicate_zero, List.push_toArray, List.append_toArray, List.nil_append, List.cons_append]
  gi_wp2
  gi_loopw [3] (fun i wr => i = .int .i64 0 ∧ wr = W) (fun i _ => 0)
  case atStart => exact ⟨rfl, rfl⟩
  case round =>
    obtain ⟨rfl, rfl⟩ := hrel
    by_cases hc0 : cap = 0
    · subst hc0
      obtain rfl : l = [] := List.eq_nil_of_length_eq_zero (by omega)
      have hf0 := HF.out A 0
      rw [List.length_nil] at hf0 c1
      have HF0 := Lib.hid hf0
      clear hf0 hlen h4
      gi_wp2_with (refine ⟨trivial, ?_⟩; gi_at_call 22; refine (callsIn_wide.2 HF0.out).mono ?_; rintro e w2 ⟨rfl, k, rfl⟩)
      refine ⟨fun _ h => (by cases h), ?_⟩
      gi_wp2
      go_returns
      exact ⟨⟨_, rfl⟩, k, rfl⟩
    · gi_wp2_with (refine ⟨trivial, ?_⟩; gi_at_call 22; refine (callsIn_wide.2 (HF.out _ _)).mono ?_; rintro e w2 ⟨rfl, k, rfl⟩)
      refine ⟨fun _ h => (by cases h), ?_⟩
      gi_wp2
      go_returns
      exact ⟨⟨_, rfl⟩, k, rfl⟩

theorem frames_any (A : Option Addr) (len cap : Nat) (w : World) :
    Calls Try.prog 25 #[.slice A len cap] w fun e w' => e = .returned (.func (.func 27) #[] #[.pointer (some ⟨w.heap.size, 0, none⟩)]) ∧ w' = w.alloc (.cells #[.slice A len cap] 22) := by
  go_enter Try.func25, Try.ntmps25
  go_wp2
  go_returns
  exact ⟨rfl, rfl⟩

theorem abides_drewN {β : Type} {B : Nat} {J : β → World → Prop} (h : AbidesFrom B J) (s : β) (W : World) (k : Nat) (hs : J s W) : J s (W.drewN k) :=
  h s W (W.drewN k) none hs ⟨rfl, rfl, rfl, Nat.le_refl _, fun _ _ _ => rfl⟩ (fun r e => by cases e)

/-- The value that 'frames' hands back: all frames, in order, whatever the body does to memory of its own. -/
theorem frames_stops (n : Nat) (hn : 1 ≤ n) (Bs n₀ b off cap : Nat) (A : Option Addr) (l : List UInt8) (hlen : l.length ≤ cap) (hcap : cap ≤ 9223372036854775807) (hb : l.length < 4 ∨ (A = some ⟨b, off, none⟩ ∧ b < n₀))
    (w : World) (hBl : Bs < w.heap.size) (hn₀ : n₀ ≤ w.heap.size) (hBs : w.heap[Bs]? = some (.cells #[.slice A l.length cap] 22 (0, 0))) (hc : Rd w n₀ A (bv l)) :
    SeqStopsK Fence.wide n Try.prog 27 #[.pointer (some ⟨Bs, 0, none⟩)] (encAt l b off cap) (Kept n₀ Bs) (fun ys => ∃ q, Chain l 0 (ys.map (·.1)) q ∧ ¬ okAt l q) (fun _ => True) l.length w := fun lp J Jx W hW hJ _ hY h0 => by
  have hBs' : W.heap[Bs]? = some (.cells #[.slice A l.length cap] 22 (0, 0)) := (hW.block Bs hBl).trans hBs
  by_cases h4 : l.length < 4
  · refine (frames1_short n hn lp Bs cap A l h4 hlen hcap W hBs').mono ?_
    rintro e W' ⟨he, k, rfl⟩
    exact ⟨he, .inl ⟨[], ⟨0, rfl, not_ok_short h4⟩, abides_drewN hJ _ _ _ h0⟩⟩
  · obtain ⟨rfl, hbn⟩ := hb.resolve_left h4
    refine (frames1_in n hn lp Bs n₀ b off cap l (by omega) hlen hcap hbn J Jx hY (fun pre W1 k h => ?_) W hBs' (hc.below (hW.mono hn₀)) h0)
    exact abides_drewN hJ _ _ _ h
end Go.Proofs.Ytihioccpnadieaa
