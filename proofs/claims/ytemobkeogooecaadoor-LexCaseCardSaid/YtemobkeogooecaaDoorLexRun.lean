/-
  The contract of lex.run: how many bytes of a set a text begins with.
-/
import Derived.Test.YtemobkeogooecaaDoorLexState
import Derived.Test.YtemobkeogooecaaDoorShelf
namespace Go.Proofs.YtemobkeogooecaaDoor.Lx
open Go.RowKit

theorem indexByte_has (l : Bytes) (c : UInt8) : (0 ≤ Lib.indexByte l c) ↔ l.contains c = true := by
  induction l with
  | nil => simp [Lib.indexByte]
  | cons b l ih =>
    have hge := Lib.indexByte_ge l c
    unfold Lib.indexByte
    by_cases h : b = c
    · subst h; simp
    · have h1 : (b == c) = false := by simp [h]
      have h2 : (c == b) = false := by simp [Ne.symm h]
      rw [h1, List.contains_cons, h2, Bool.false_or, ← ih]
      simp only [Bool.false_eq_true, if_false, beq_iff_eq]
      split <;> omega

theorem takeWhile_step (p : UInt8 → Bool) : ∀ (l : Bytes) (k : Nat) (_ : k ≤ (l.takeWhile p).length) (h : k < l.length), (p l[k] = true → k + 1 ≤ (l.takeWhile p).length) ∧ (p l[k] = false → (l.takeWhile p).length = k)
  | [], _, _, h => by simp at h
  | a :: l, k, hk, h => by
    by_cases ha : p a = true
    · simp only [List.takeWhile_cons, ha, if_true, List.length_cons] at hk ⊢
      cases k with
      | zero => exact ⟨fun _ => by omega, fun h' => by simp [ha] at h'⟩
      | succ k =>
        have ih := takeWhile_step p l k (by omega) (by simpa using h)
        exact ⟨fun h' => by have := ih.1 (by simpa using h'); omega, fun h' => by have := ih.2 (by simpa using h'); omega⟩
    · have ha' : p a = false := by simpa using ha
      simp only [List.takeWhile_cons, ha', Bool.false_eq_true, if_false, List.length_nil] at hk ⊢
      have : k = 0 := by omega
      subst this
      exact ⟨fun h' => by simp [ha'] at h', fun _ => rfl⟩

theorem run_le (s set : Bytes) : (runOf s set).length ≤ s.length := by
  unfold runOf
  exact (List.takeWhile_sublist _).length_le

theorem run_step {s set : ByteArray} {k : Nat} (hk : k ≤ (runOf s.data.toList set.data.toList).length) (h : k < s.size) :
    (0 ≤ Lib.indexByte set.data.toList s[k] → k + 1 ≤ (runOf s.data.toList set.data.toList).length) ∧ (Lib.indexByte set.data.toList s[k] < 0 → (runOf s.data.toList set.data.toList).length = k) := by
  have hl : k < s.data.toList.length := by simpa using h
  have hs := takeWhile_step (set.data.toList.contains ·) s.data.toList k hk hl
  have e : s[k] = s.data.toList[k] := rfl
  refine ⟨fun h' => hs.1 ?_, fun h' => hs.2 ?_⟩
  · rw [← e]; exact (indexByte_has _ _).1 h'
  · rw [← e]
    cases hc : set.data.toList.contains s[k] with
    | false => rfl
    | true => have := (indexByte_has _ _).2 hc; omega

theorem ret_i64 {a b : Int} (h : a = b) : Ending.returned (.int .i64 a) = .returned (.int .i64 b) := by rw [h]

set_option maxHeartbeats 800000 in
set_option maxRecDepth 1000000 in
theorem run_any (s set : ByteArray) (w : World) (hs : s.size ≤ maxLen) :
    Calls Tryd.prog 29 #[.string s, .string set] w fun e w' => e = .returned (.int .i64 (runOf s.data.toList set.data.toList).length) ∧ w = w' := by
  unfold maxLen at hs
  go_enter Tryd.func29, Tryd.ntmps29
  go_wp2
  go_loop [5] (fun n => ∃ k : Nat, k ≤ s.size ∧ n = .int .i64 k ∧ k ≤ (runOf s.data.toList set.data.toList).length) (fun n => s.size - (intOf n).toNat)
  case atStart => exact ⟨0, Nat.zero_le _, rfl, Nat.zero_le _⟩
  case round =>
    obtain ⟨k, hk, rfl, hrun⟩ := hrel
    by_cases hlt : k < s.size
    · have H := Lib.hid (run_step hrun hlt)
      go_wp2_with (go_at_call 10; refine (Tryd.strings_IndexByte _ _ _).mono ?_; rintro e w' ⟨rfl, rfl⟩)
      · have h1 : 0 ≤ Lib.indexByte set.data.toList s[k] := by assumption
        go_round
        case rel => exact ⟨k + 1, by omega, by go_num, H.out.1 h1⟩
        case measure => simp [intOf]; omega
      · have h1 : Lib.indexByte set.data.toList s[k] < 0 := by assumption
        go_ret
        exact ⟨ret_i64 (by rw [H.out.2 h1]), rfl⟩
    · have hle := run_le s.data.toList set.data.toList
      have hsz : s.data.toList.length = s.size := by simp
      have H := Lib.hid hsz
      clear hsz
      go_wp2
      go_ret
      exact ⟨ret_i64 (by have := H.out; omega), rfl⟩
end Go.Proofs.YtemobkeogooecaaDoor.Lx
