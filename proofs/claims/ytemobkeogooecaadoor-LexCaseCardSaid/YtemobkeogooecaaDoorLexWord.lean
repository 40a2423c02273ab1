/-
  The contract of (*lexer).word.
-/
import Derived.Test.YtemobkeogooecaaDoorLexEnv
namespace Go.Proofs.YtemobkeogooecaaDoor.Lx
open Go.RowKit Go.Lib

def isWord (sub : ByteArray) : Bool := Lib.contains cWords sub.data.toList
theorem contains_words (S sub : ByteArray) (w : World) (hS : S = ⟨cWords.toArray⟩) (hF : Facts w) :
    Calls Tryd.prog 33 #[.string S, .string sub] w fun e w' => e = .returned (.bool (isWord sub)) ∧ w = w' := by
  obtain ⟨m, hm⟩ := hF.max
  subst hS
  refine (Tryd.strings_Contains ⟨cWords.toArray⟩ sub m w (by decide +kernel) hm).mono ?_
  rintro e w' ⟨rfl, rfl⟩
  exact ⟨rfl, rfl⟩

/-- How many bytes of letters, digits and underscores a text begins with. -/
def innerLen (s : ByteArray) : Nat := (runOf s.data.toList cInner).length
theorem innerLen_le (s : ByteArray) : innerLen s ≤ s.size := by
  have := run_le s.data.toList cInner
  unfold innerLen
  rw [Lib.size_eq]; exact this
theorem run_inner (s S : ByteArray) (w : World) (hs : s.size ≤ 20000) (hS : S = ⟨cInner.toArray⟩) :
    Calls Tryd.prog 29 #[.string s, .string S] w fun e w' => e = .returned (.int .i64 (innerLen s)) ∧ w = w' := by
  subst hS
  exact run_any s ⟨cInner.toArray⟩ w (by unfold maxLen; omega)

theorem takeWhile_take (p : UInt8 → Bool) (l : Bytes) : l.take (l.takeWhile p).length = l.takeWhile p := by
  induction l with
  | nil => rfl
  | cons a l ih => by_cases h : p a <;> simp [h, ih]
theorem inner_take (s : ByteArray) : (s.extract 0 (innerLen s)).data.toList = runOf s.data.toList cInner := by
  rw [Lib.extract_data]
  simp only [List.drop_zero, Nat.sub_zero]
  exact takeWhile_take _ _
theorem inner_ascii_all : cInner.all (fun b => decide (b.toNat < 128)) = true := by decide
theorem mem_takeWhile {p : UInt8 → Bool} {l : Bytes} {x : UInt8} (h : x ∈ l.takeWhile p) : p x = true := by
  induction l with
  | nil => simp at h
  | cons a l ih =>
    by_cases ha : p a = true
    · simp only [List.takeWhile_cons, ha, if_true, List.mem_cons] at h
      rcases h with rfl | h
      · exact ha
      · exact ih h
    · simp [ha] at h
theorem run_mem {s : Bytes} {x : UInt8} (h : x ∈ runOf s cInner) : cInner.contains x = true := mem_takeWhile (p := (cInner.contains ·)) h
theorem inner_lt {x : UInt8} (h : cInner.contains x = true) : x.toNat < 128 := of_decide_eq_true (List.all_eq_true.1 inner_ascii_all x (by simpa using h))
theorem upperB_lt (x : UInt8) (h : x.toNat < 128) : (upperB x).toNat < 128 := by
  unfold upperB isLowerB
  split
  · rename_i h1
    simp only [Bool.and_eq_true, decide_eq_true_eq, UInt8.le_iff_toNat_le] at h1
    have e1 : (97 : UInt8).toNat = 97 := rfl
    have e2 : (122 : UInt8).toNat = 122 := rfl
    rw [UInt8.toNat_sub_of_le _ _ (by rw [UInt8.le_iff_toNat_le]; have : (32 : UInt8).toNat = 32 := rfl; omega)]
    have : (32 : UInt8).toNat = 32 := rfl
    omega
  · exact h

theorem rest_eq (s : ByteArray) (n : Nat) : (s.extract n s.size).data.toList = s.data.toList.drop n := Lib.extract_to_end s n
theorem word_yes {s U : ByteArray} {n : Nat} (hn : innerLen s = n) (hU : (⟨(toUpperA (runOf s.data.toList cInner)).toArray⟩ : ByteArray) = U) (hW : isWord (⟨#[32]⟩ ++ U ++ ⟨#[32]⟩) = true) :
    wordTok s.data.toList = some (some ⟨kWord, U.data.toList, 0⟩, (s.extract n s.size).data.toList) := by
  subst hn; subst hU
  have e : (((⟨#[32]⟩ : ByteArray) ++ ⟨(toUpperA (runOf s.data.toList cInner)).toArray⟩ ++ ⟨#[32]⟩).data.toList) = 32 :: (toUpperA (runOf s.data.toList cInner) ++ [32]) := by simp
  unfold isWord at hW
  rw [e] at hW
  unfold wordTok
  rw [if_pos hW, rest_eq]
  rfl
theorem word_long {s U : ByteArray} {n : Nat} (hn : innerLen s = n) (hU : (⟨(toUpperA (runOf s.data.toList cInner)).toArray⟩ : ByteArray) = U) (hW : isWord (⟨#[32]⟩ ++ U ++ ⟨#[32]⟩) = false) (h40 : 40 < n) :
    wordTok s.data.toList = none := by
  subst hn; subst hU
  have e : (((⟨#[32]⟩ : ByteArray) ++ ⟨(toUpperA (runOf s.data.toList cInner)).toArray⟩ ++ ⟨#[32]⟩).data.toList) = 32 :: (toUpperA (runOf s.data.toList cInner) ++ [32]) := by simp
  unfold isWord at hW
  rw [e] at hW
  unfold innerLen at h40
  unfold wordTok
  simp only [hW, Bool.false_eq_true, if_false]
  rw [if_neg (by omega)]
theorem word_name {s U : ByteArray} {n : Nat} (hn : innerLen s = n) (hU : (⟨(toUpperA (runOf s.data.toList cInner)).toArray⟩ : ByteArray) = U) (hW : isWord (⟨#[32]⟩ ++ U ++ ⟨#[32]⟩) = false) (h40 : ¬ 40 < n) :
    wordTok s.data.toList = some (some ⟨kName, toLowerA U.data.toList, 0⟩, (s.extract n s.size).data.toList) := by
  subst hn; subst hU
  have e : (((⟨#[32]⟩ : ByteArray) ++ ⟨(toUpperA (runOf s.data.toList cInner)).toArray⟩ ++ ⟨#[32]⟩).data.toList) = 32 :: (toUpperA (runOf s.data.toList cInner) ++ [32]) := by simp
  unfold isWord at hW
  rw [e] at hW
  unfold innerLen at h40
  unfold wordTok
  simp only [hW, Bool.false_eq_true, if_false]
  rw [if_pos (by omega), rest_eq]
  rfl
theorem upper_ascii {s U : ByteArray} (hU : (⟨(toUpperA (runOf s.data.toList cInner)).toArray⟩ : ByteArray) = U) : ∀ (j : Nat) (x : UInt8), U.data.toList[j]? = some x → x.toNat < 128 := by
  subst hU
  intro j x hx
  have hm := List.mem_of_getElem? hx
  simp only [toUpperA, List.mem_map] at hm
  obtain ⟨y, hy, rfl⟩ := hm
  exact upperB_lt y (inner_lt (run_mem hy))

set_option maxHeartbeats 1600000 in
set_option maxRecDepth 1000000 in
theorem word_any (b : Nat) (s : ByteArray) (ts : List Tok) (w : World) (h : St b w s ts) (hE : Env b w) (hone : 1 ≤ innerLen s) :
    Calls Tryd.prog 16 #[.pointer (some ⟨b, 0, none⟩)] w (Did b w ts (wordTok s.data.toList)) := by
  obtain ⟨c0, f0⟩ := h.cells
  have hsz := h.size
  have hit := Lib.hid (inner_take s)
  have hle := innerLen_le s
  go_enter Tryd.func16, Tryd.ntmps16
  go_wp2_with fail
  refine (run_inner s _ _ (by omega) (by decide +kernel)).mono ?_
  rintro e w' ⟨rfl, rfl⟩
  generalize hn : innerLen s = n at hle hit hone ⊢
  have Hn := Lib.hid hn
  clear hn
  go_wp2_with fail
  have hasc : ∀ (j : Nat) (x : UInt8), (s.extract 0 n).data.toList[j]? = some x → x.toNat < 128 := fun j x hx => by
    have hm := List.mem_of_getElem? hx
    rw [hit.out] at hm
    exact inner_lt (run_mem hm)
  have hexs : (s.extract 0 n).size ≤ 20000 := by rw [Lib.size_eq, hit.out]; have := run_le s.data.toList cInner; rw [← Lib.size_eq] at this; omega
  refine (Tryd.strings_ToUpper_ascii _ _ (by omega) hasc).mono ?_
  rintro e w1 ⟨rfl, hb1⟩
  rw [hit.out]
  have h1 := h.below hb1
  have hE1 := hE.below hb1 (by have := h.lt; omega)
  have hUs : (⟨(toUpperA (runOf s.data.toList cInner)).toArray⟩ : ByteArray).size ≤ 20000 := by
    rw [Lib.size_eq]; simp only [toUpperA, List.length_map]; have := run_le s.data.toList cInner; rw [← Lib.size_eq] at this; omega
  generalize hU : (⟨(toUpperA (runOf s.data.toList cInner)).toArray⟩ : ByteArray) = U at hUs ⊢
  have HU := Lib.hid hU
  clear hU c0 f0 hasc
  obtain ⟨c0, f0⟩ := h1.cells
  go_wp2_with fail
  refine (contains_words _ _ _ ?hS hE1.facts).mono ?_
  case hS => decide +kernel
  rintro e w' ⟨rfl, rfl⟩
  by_cases hW : isWord (⟨#[32]⟩ ++ U ++ ⟨#[32]⟩) = true
  · go_wp2_with fail
    refine (put_any b s _ _ 0 n ts _ h1 hone hle).mono ?_
    rintro e w2 ⟨rfl, hs2, hb2⟩
    go_wp2
    go_ret
    exact did_yes (t := some ⟨kWord, U.data.toList, 0⟩) (word_yes Hn.out HU.out hW) ((hb1.mono (by have := h.lt; omega)).trans hb2) hs2 rfl
  · have hW' : isWord (⟨#[32]⟩ ++ U ++ ⟨#[32]⟩) = false := by simpa using hW
    clear hW
    by_cases h40 : 40 < n
    · go_wp2_with fail
      go_ret
      exact did_no (word_long Hn.out HU.out hW' h40) (hb1.mono (by have := h.lt; omega)) rfl
    · go_wp2_with fail
      refine (Tryd.strings_ToLower_ascii U _ (by omega) (upper_ascii HU.out)).mono ?_
      rintro e w2 ⟨rfl, hb2⟩
      have h2 := h1.below hb2
      have hb12 : Below b w w2 := (hb1.mono (by have := h.lt; omega)).trans (hb2.mono (by have := h1.lt; omega))
      generalize hL : (⟨(toLowerA U.data.toList).toArray⟩ : ByteArray) = V
      have HL := Lib.hid hL
      clear hL c0 f0
      go_wp2_with fail
      refine (put_any b s _ _ 0 n ts _ h2 hone hle).mono ?_
      rintro e w3 ⟨rfl, hs3, hb3⟩
      go_wp2
      go_ret
      have hV : V.data.toList = toLowerA U.data.toList := by rw [← HL.out]
      exact did_yes (t := some ⟨kName, V.data.toList, 0⟩) (by rw [hV]; exact word_name Hn.out HU.out hW' h40) (hb12.trans hb3) hs3 rfl
end Go.Proofs.YtemobkeogooecaaDoor.Lx
