/- The reader's Text, of what was written. -/
import Derived.Test.YtmhhppolhciigaaIt
import Derived.Test.YtmhhppolhciigaaPb
namespace Go.Proofs.Ytmhhppolhciigaa
open Go.RowKit
set_option linter.unusedVariables false

theorem rtext_ok (r : Nat) (s t : List UInt8) (w : World) (h : St w r (enc s.length ++ s ++ t) 0) (hs : s.length ≤ 1000) :
    Calls Try.prog 22 #[.pointer (some ⟨r, 0, none⟩)] w fun en w' => en = .returned (.string ⟨s.toArray⟩) ∧ St w' r t 0 ∧ w.grownBy w' (some r) := by
  have hu := ruint_st r _ w h
  rw [List.append_assoc, rdU_of_enc s.length (s ++ t) (by omega)] at hu
  have HU := Lib.hid hu
  obtain ⟨n, hn⟩ : ∃ n, n = s.length := ⟨_, rfl⟩
  simp only [← hn] at HU
  have htk : ∀ W, St W r (s ++ t) 0 → Calls Try.prog 26 #[.pointer (some ⟨r, 0, none⟩), .int .u64 (n : Int)] W fun en w' => (∃ A c, en = .returned (.slice A n c) ∧ n ≤ c ∧ c ≤ 9223372036854775807 ∧ Rd w' r A (bv s)) ∧ St w' r t 0 ∧ W.grownBy w' (some r) := by
    intro W hW
    have := take_ok r (s ++ t) n W hW (by rw [List.length_append]; omega)
    rw [hn, List.take_left, List.drop_left] at this
    rw [hn]
    exact this
  have HT := Lib.hid htk
  have HN := Lib.hid hn.symm
  clear hu h htk hn
  go_enter Try.func22, Try.ntmps22
  go_wp2_with fail
  refine HU.out.mono ?_
  rintro en w2 ⟨rfl, st2, gr2⟩
  have S2 := Lib.hid st2
  have G2 := Lib.hid gr2
  clear st2 gr2
  go_wp2_with fail
  refine (HT.out w2 S2.out).mono ?_
  rintro en w3 ⟨⟨A, c, rfl, _, _, rd3⟩, st3, gr3⟩
  have cv := conv_any (W := w3) n c HN.out rd3
  have S3 := Lib.hid st3
  have G3 := Lib.hid (G2.out.trans gr3)
  clear st3 gr3 rd3
  go_wp2_with fail
  go_returns
  exact ⟨rfl, S3.out, G3.out⟩
end Go.Proofs.Ytmhhppolhciigaa
