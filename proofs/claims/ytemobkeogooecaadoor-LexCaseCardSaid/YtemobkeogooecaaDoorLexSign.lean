/-
  The contract of (*lexer).sign.
-/
import Derived.Test.YtemobkeogooecaaDoorLexWord
namespace Go.Proofs.YtemobkeogooecaaDoor.Lx
open Go.RowKit Go.Lib

def signIdx (x : UInt8) : Int := Lib.indexByte cSigns x
theorem sign_index (S : ByteArray) (x : UInt8) (w : World) (hS : S = ⟨cSigns.toArray⟩) :
    Calls Tryd.prog 10 #[.string S, .int .u8 x.toNat] w fun e w' => e = .returned (.int .i64 (signIdx x)) ∧ w = w' := by
  subst hS
  refine (Tryd.strings_IndexByte _ _ _).mono ?_
  rintro e w' ⟨rfl, rfl⟩
  exact ⟨by simp [signIdx], rfl⟩

theorem head_of {s : ByteArray} (h : 0 < s.size) : s.data.toList = s[0] :: s.data.toList.drop 1 := by
  have hl : 0 < s.data.toList.length := by simpa using h
  rw [← List.drop_zero (l := s.data.toList), List.drop_eq_getElem_cons hl]
  simp
  rfl
theorem cons_of_data {s : ByteArray} {x : UInt8} {r : Bytes} (h : s.data.toList = x :: r) : ∃ h0 : 0 < s.size, s[0] = x := by
  have h0 : 0 < s.size := by rw [Lib.size_eq, h]; simp
  refine ⟨h0, ?_⟩
  have := head_of h0
  rw [h] at this
  injection this with h1 _
  exact h1.symm
/-- Two bytes at the beginning. -/
theorem two_of {s : ByteArray} (h : 1 < s.size) : ∃ x y r, s.data.toList = x :: y :: r := by
  have hl : 1 < s.data.toList.length := by simpa using h
  match hd : s.data.toList, hl with
  | x :: y :: r, _ => exact ⟨x, y, r, rfl⟩
theorem extract_two {s : ByteArray} {x y : UInt8} {r : Bytes} (h : s.data.toList = x :: y :: r) : (s.extract 0 2).toList = [x, y] := by
  rw [Lib.toList_data, Lib.extract_data, h]; rfl
theorem extract_one {s : ByteArray} {x : UInt8} {r : Bytes} (h : s.data.toList = x :: r) : (s.extract 0 1).data.toList = [x] := by
  rw [Lib.extract_data, h]; rfl

theorem signTok_two (a b : UInt8) (r : Bytes) : signTok (a :: b :: r) = if a = 33 ∧ b = 61 then some (some ⟨kSign, [60, 62], 0⟩, r) else if (a = 60 ∧ b = 62) ∨ (a = 60 ∧ b = 61) ∨ (a = 62 ∧ b = 61) then some (some ⟨kSign, [a, b], 0⟩, r) else oneSign (a :: b :: r) := rfl
theorem oneSign_cons (c : UInt8) (r : Bytes) : oneSign (c :: r) = if cSigns.contains c = true then some (some ⟨kSign, [c], 0⟩, r) else none := rfl
theorem sign_ne {s : ByteArray} (r : Bytes) (h : s.data.toList = 33 :: 61 :: r) : signTok s.data.toList = some (some ⟨kSign, [60, 62], 0⟩, (s.extract 2 s.size).data.toList) := by
  rw [rest_eq, h]; rfl
theorem sign_two {s : ByteArray} {x y : UInt8} (r : Bytes) (h : s.data.toList = x :: y :: r) (hxy : (x = 60 ∧ y = 62) ∨ (x = 60 ∧ y = 61) ∨ (x = 62 ∧ y = 61)) :
    signTok s.data.toList = some (some ⟨kSign, (s.extract 0 2).data.toList, 0⟩, (s.extract 2 s.size).data.toList) := by
  rw [rest_eq, ← Lib.toList_data (s.extract 0 2), extract_two h, h]
  rw [signTok_two, if_neg (by rcases hxy with ⟨rfl, rfl⟩ | ⟨rfl, rfl⟩ | ⟨rfl, rfl⟩ <;> decide), if_pos hxy]
  rfl
theorem sign_tail_two {x y : UInt8} {r : Bytes} (h1 : ([x, y] == [33, 61]) = false) (h2 : ([x, y] == [60, 62]) = false) (h3 : ([x, y] == [60, 61]) = false) (h4 : ([x, y] == [62, 61]) = false) :
    signTok (x :: y :: r) = oneSign (x :: y :: r) := by
  have e : ∀ (a b c d : UInt8), ([a, b] == [c, d]) = false → ¬ (a = c ∧ b = d) := fun a b c d h ⟨h1, h2⟩ => by subst h1; subst h2; simp at h
  rw [signTok_two, if_neg (e _ _ _ _ h1), if_neg (by rintro (h | h | h); exact e _ _ _ _ h2 h; exact e _ _ _ _ h3 h; exact e _ _ _ _ h4 h)]
theorem sign_one {s : ByteArray} {x : UInt8} {r : Bytes} (h : s.data.toList = x :: r) (hi : 0 ≤ signIdx x) : oneSign s.data.toList = some (some ⟨kSign, (s.extract 0 1).data.toList, 0⟩, (s.extract 1 s.size).data.toList) := by
  rw [rest_eq, extract_one h, h]
  rw [oneSign_cons, if_pos ((indexByte_has cSigns x).1 hi)]
  rfl
theorem sign_none {s : ByteArray} {x : UInt8} {r : Bytes} (h : s.data.toList = x :: r) (hi : signIdx x < 0) : oneSign s.data.toList = none := by
  rw [h]
  rw [oneSign_cons, if_neg (fun h => by have := (indexByte_has cSigns x).2 h; unfold signIdx at hi; omega)]
theorem beq_two {x y c d : UInt8} (h : ([x, y] == [c, d]) = true) : x = c ∧ y = d := by simpa using h

set_option maxHeartbeats 1600000 in
set_option maxRecDepth 1000000 in
theorem sign_long (b : Nat) (s : ByteArray) (ts : List Tok) (w : World) (h : St b w s ts) (x y : UInt8) (r : Bytes) (hd : s.data.toList = x :: y :: r) :
    Calls Tryd.prog 18 #[.pointer (some ⟨b, 0, none⟩)] w (Did b w ts (signTok s.data.toList)) := by
  obtain ⟨c0, f0⟩ := h.cells
  have hsz := h.size
  have h2 : 1 < s.size := by rw [Lib.size_eq, hd]; simp
  obtain ⟨_, hx0⟩ := cons_of_data hd
  have het := extract_two hd
  have Hd := Lib.hid hd
  clear hd
  cases e1 : [x, y] == [33, 61] with
  | true =>
    obtain ⟨rfl, rfl⟩ := beq_two e1
    have k1 : ((s.extract 0 2).toList == [33, 61]) = true := by rw [het]; rfl
    clear het e1 hx0
    go_enter Tryd.func18, Tryd.ntmps18
    go_wp2_with fail
    refine (put_any b s _ _ 0 2 ts _ h (by omega) (by omega)).mono ?_
    rintro e w3 ⟨rfl, hs3, hb3⟩
    go_wp2
    go_ret
    exact did_yes (t := some ⟨kSign, [60, 62], 0⟩) (sign_ne r Hd.out) hb3 hs3 rfl
  | false =>
    have k1 : ((s.extract 0 2).toList == [33, 61]) = false := by rw [het]; exact e1
    cases e2 : [x, y] == [60, 62] with
    | true =>
      have k2 : ((s.extract 0 2).toList == [60, 62]) = true := by rw [het]; exact e2
      have E := Lib.hid (beq_two e2)
      clear het e1 e2 hx0
      go_enter Tryd.func18, Tryd.ntmps18
      go_wp2_with fail
      refine (put_any b s _ _ 0 2 ts _ h (by omega) (by omega)).mono ?_
      rintro e w3 ⟨rfl, hs3, hb3⟩
      go_wp2
      go_ret
      exact did_yes (t := some ⟨kSign, (s.extract 0 2).data.toList, 0⟩) (sign_two r Hd.out (Or.inl E.out)) hb3 hs3 rfl
    | false =>
      have k2 : ((s.extract 0 2).toList == [60, 62]) = false := by rw [het]; exact e2
      cases e3 : [x, y] == [60, 61] with
      | true =>
        have k3 : ((s.extract 0 2).toList == [60, 61]) = true := by rw [het]; exact e3
        have E := Lib.hid (beq_two e3)
        clear het e1 e2 e3 hx0
        go_enter Tryd.func18, Tryd.ntmps18
        go_wp2_with fail
        refine (put_any b s _ _ 0 2 ts _ h (by omega) (by omega)).mono ?_
        rintro e w3 ⟨rfl, hs3, hb3⟩
        go_wp2
        go_ret
        exact did_yes (t := some ⟨kSign, (s.extract 0 2).data.toList, 0⟩) (sign_two r Hd.out (Or.inr (Or.inl E.out))) hb3 hs3 rfl
      | false =>
        have k3 : ((s.extract 0 2).toList == [60, 61]) = false := by rw [het]; exact e3
        cases e4 : [x, y] == [62, 61] with
        | true =>
          have k4 : ((s.extract 0 2).toList == [62, 61]) = true := by rw [het]; exact e4
          have E := Lib.hid (beq_two e4)
          clear het e1 e2 e3 e4 hx0
          go_enter Tryd.func18, Tryd.ntmps18
          go_wp2_with fail
          refine (put_any b s _ _ 0 2 ts _ h (by omega) (by omega)).mono ?_
          rintro e w3 ⟨rfl, hs3, hb3⟩
          go_wp2
          go_ret
          exact did_yes (t := some ⟨kSign, (s.extract 0 2).data.toList, 0⟩) (sign_two r Hd.out (Or.inr (Or.inr E.out))) hb3 hs3 rfl
        | false =>
          have k4 : ((s.extract 0 2).toList == [62, 61]) = false := by rw [het]; exact e4
          have HT := Lib.hid (sign_tail_two (r := r) e1 e2 e3 e4)
          clear het e1 e2 e3 e4
          go_enter Tryd.func18, Tryd.ntmps18
          go_wp2_with fail
          refine (sign_index _ x _ (by decide +kernel)).mono ?_
          rintro e w' ⟨rfl, rfl⟩
          by_cases hi : signIdx x < 0
          · go_wp2_with fail
            go_ret
            exact did_no (by rw [Hd.out, HT.out, ← Hd.out]; exact sign_none Hd.out hi) (Below.refl _ _) rfl
          · go_wp2_with fail
            refine (put_any b s _ _ 0 1 ts _ h (by omega) (by omega)).mono ?_
            rintro e w3 ⟨rfl, hs3, hb3⟩
            go_wp2
            go_ret
            exact did_yes (t := some ⟨kSign, (s.extract 0 1).data.toList, 0⟩) (by rw [Hd.out, HT.out, ← Hd.out]; exact sign_one Hd.out (by omega)) hb3 hs3 rfl

set_option maxHeartbeats 1600000 in
set_option maxRecDepth 1000000 in
theorem sign_short (b : Nat) (s : ByteArray) (ts : List Tok) (w : World) (h : St b w s ts) (x : UInt8) (hd : s.data.toList = [x]) :
    Calls Tryd.prog 18 #[.pointer (some ⟨b, 0, none⟩)] w (Did b w ts (signTok s.data.toList)) := by
  obtain ⟨c0, f0⟩ := h.cells
  have h1 : s.size ≤ 1 := by rw [Lib.size_eq, hd]; simp
  obtain ⟨h0, hx0⟩ := cons_of_data hd
  have HT : Hid (signTok s.data.toList = oneSign s.data.toList) := by rw [hd]; exact (rfl : signTok [x] = oneSign [x])
  have Hd := Lib.hid hd
  clear hd
  go_enter Tryd.func18, Tryd.ntmps18
  go_wp2_with fail
  refine (sign_index _ x _ (by decide +kernel)).mono ?_
  rintro e w' ⟨rfl, rfl⟩
  by_cases hi : signIdx x < 0
  · go_wp2_with fail
    go_ret
    exact did_no (by rw [HT.out]; exact sign_none Hd.out hi) (Below.refl _ _) rfl
  · go_wp2_with fail
    refine (put_any b s _ _ 0 1 ts _ h (by omega) (by omega)).mono ?_
    rintro e w3 ⟨rfl, hs3, hb3⟩
    go_wp2
    go_ret
    exact did_yes (t := some ⟨kSign, (s.extract 0 1).data.toList, 0⟩) (by rw [HT.out]; exact sign_one Hd.out (by omega)) hb3 hs3 rfl

theorem sign_any (b : Nat) (s : ByteArray) (ts : List Tok) (w : World) (h : St b w s ts) (hone : 0 < s.size) :
    Calls Tryd.prog 18 #[.pointer (some ⟨b, 0, none⟩)] w (Did b w ts (signTok s.data.toList)) := by
  by_cases h2 : 1 < s.size
  · obtain ⟨x, y, r, hd⟩ := two_of h2
    exact sign_long b s ts w h x y r hd
  · have hd := head_of hone
    have hn : s.data.toList.drop 1 = [] := List.drop_eq_nil_of_le (by rw [← Lib.size_eq]; omega)
    rw [hn] at hd
    exact sign_short b s ts w h s[0] hd
end Go.Proofs.YtemobkeogooecaaDoor.Lx
