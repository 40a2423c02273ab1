/-
  The walk of pleachlaw18.LexTexts.
-/
import Derived.Test.YtemobkeogooecaaDoorLexAwake
namespace Go.Proofs.YtemobkeogooecaaDoor.Lx
open Go.RowKit Go.Lib

/-- Each quote twice. -/
def dbl (l : Bytes) : Bytes := l.flatMap fun c => if c = 39 then [39, 39] else [c]
def cHexU : Bytes := [48, 49, 50, 51, 52, 53, 54, 55, 56, 57, 65, 66, 67, 68, 69, 70]
/-- Two digits a byte, a small one and a great one. -/
def mix (l : Bytes) : Bytes := l.flatMap fun c => [cHex.getD (c.toNat / 16) 0, cHexU.getD (c.toNat % 16) 0]
def strL : Value → Bytes | .string s => s.data.toList | _ => []

theorem wrap_u8 {x : Int} {n : Nat} (h : x = n) (hn : n < 256) : IntKind.u8.wrap x = (n : Int) := by
  subst h
  rw [IntKind.wrap_u8]
  omega

theorem extract_byte {s : ByteArray} {k : Nat} (h : k < s.size) : (s.extract k (k + 1)).data.toList = [s[k]] := by
  have hl : k < s.data.toList.length := by simpa using h
  rw [Lib.extract_data, show k + 1 - k = 1 by omega, List.drop_eq_getElem_cons hl]
  rfl
theorem take_byte {s : ByteArray} {k : Nat} (h : k < s.size) : s.data.toList.take (k + 1) = s.data.toList.take k ++ [s[k]] := by
  have hl : k < s.data.toList.length := by simpa using h
  rw [List.take_succ_eq_append_getElem hl]
  rfl
theorem app_data (a b : ByteArray) : (a ++ b).data.toList = a.data.toList ++ b.data.toList := by simp
theorem dbl_yes {s Q : ByteArray} {k : Nat} (h : k < s.size) (h39 : s[k] = 39) (hQ : Q.data.toList = dbl (s.data.toList.take k)) :
    (Q ++ s.extract k (k + 1) ++ ⟨#[39]⟩).data.toList = dbl (s.data.toList.take (k + 1)) := by
  rw [app_data, app_data, extract_byte h, hQ, take_byte h]
  unfold dbl
  rw [List.flatMap_append]
  simp [h39]
theorem dbl_no {s Q : ByteArray} {k : Nat} (h : k < s.size) (h39 : ¬ s[k] = 39) (hQ : Q.data.toList = dbl (s.data.toList.take k)) :
    (Q ++ s.extract k (k + 1)).data.toList = dbl (s.data.toList.take (k + 1)) := by
  rw [app_data, extract_byte h, hQ, take_byte h]
  unfold dbl
  rw [List.flatMap_append]
  simp [h39]
theorem hexd_small : ∀ d, d < 16 → (((⟨#[48, 49, 50, 51, 52, 53, 54, 55, 56, 57, 97, 98, 99, 100, 101, 102]⟩ : ByteArray).extract d 16).extract 0 1).data.toList = [cHex.getD d 0] := by decide +kernel
theorem hexd_great : ∀ d, d < 16 → (((⟨#[48, 49, 50, 51, 52, 53, 54, 55, 56, 57, 65, 66, 67, 68, 69, 70]⟩ : ByteArray).extract d 16).extract 0 1).data.toList = [cHexU.getD d 0] := by decide +kernel
theorem mix_step {s H : ByteArray} {k : Nat} (h : k < s.size) (hH : H.data.toList = mix (s.data.toList.take k)) (h1 : s[k].toNat / 16 < 16) (h2 : s[k].toNat % 16 < 16) :
    (H ++ ((((⟨#[48, 49, 50, 51, 52, 53, 54, 55, 56, 57, 97, 98, 99, 100, 101, 102]⟩ : ByteArray).extract (s[k].toNat / 16) 16).extract 0 1) ++ (((⟨#[48, 49, 50, 51, 52, 53, 54, 55, 56, 57, 65, 66, 67, 68, 69, 70]⟩ : ByteArray).extract (s[k].toNat % 16) 16).extract 0 1))).data.toList = mix (s.data.toList.take (k + 1)) := by
  rw [app_data, app_data, hexd_small _ h1, hexd_great _ h2, hH, take_byte h]
  unfold mix
  rw [List.flatMap_append]
  simp

theorem dbl_cons (a : UInt8) (l : Bytes) : dbl (a :: l) = (if a = 39 then [39, 39] else [a]) ++ dbl l := by simp [dbl]
theorem mix_cons (a : UInt8) (l : Bytes) : mix (a :: l) = [cHex.getD (a.toNat / 16) 0, cHexU.getD (a.toNat % 16) 0] ++ mix l := by simp [mix]
theorem dbl_len (l : Bytes) : (dbl l).length ≤ 2 * l.length := by
  induction l with
  | nil => simp [dbl]
  | cons a l ih =>
    rw [dbl_cons, List.length_append, List.length_cons]
    split <;> simp <;> omega
theorem mix_len (l : Bytes) : (mix l).length ≤ 2 * l.length := by
  induction l with
  | nil => simp [mix]
  | cons a l ih =>
    rw [mix_cons, List.length_append, List.length_cons]
    simp; omega
theorem quoted_dbl (l : Bytes) : quoted (dbl l ++ [39]) = some (l, []) := by
  induction l with
  | nil => rfl
  | cons a l ih =>
    rw [dbl_cons]
    by_cases h : a = 39
    · subst h
      rw [if_pos rfl]
      show quoted (39 :: 39 :: (dbl l ++ [39])) = _
      rw [quoted_cons, if_pos rfl]
      simp [ih]
    · rw [if_neg h]
      show quoted (a :: (dbl l ++ [39])) = _
      rw [quoted_cons, if_neg h, ih]
      rfl
theorem lex_dbl (l : Bytes) (h : l.length ≤ 1000) : lex ([39] ++ dbl l ++ [39]) = some [⟨kText, l, 0⟩] := by
  have hl := dbl_len l
  rw [lex_short (by simp; omega)]
  have hd : [39] ++ dbl l ++ [39] = 39 :: (dbl l ++ [39]) := rfl
  have ht : textTok (39 :: (dbl l ++ [39])) = some (some ⟨kText, l, 0⟩, []) := by
    have e1 : (39 :: (dbl l ++ [39])).drop 1 = dbl l ++ [39] := rfl
    unfold textTok
    rw [e1, quoted_dbl]
    dsimp only
    rw [if_pos h]
  rw [toks_step hd, hd, step_cons, if_neg (by decide), if_neg (by rintro ⟨h, _⟩; cases h), if_neg (by rintro ⟨h | h, _⟩ <;> cases h), if_neg (by decide), if_neg (by decide), if_pos rfl, ht]
  rfl
theorem hex_at : ∀ d, d < 16 → (cHex.getD d 0 ∈ cHex ∧ cHex.idxOf (cHex.getD d 0) = d ∧ (cHex.getD d 0).toNat < 128 ∧ (cHexU.getD d 0).toNat < 128 ∧ Lib.lowerB (cHex.getD d 0) = cHex.getD d 0 ∧ Lib.lowerB (cHexU.getD d 0) = cHex.getD d 0 ∧ cHex.getD d 0 ≠ 39 ∧ cHexU.getD d 0 ≠ 39) := by decide +kernel
theorem mix_all (l : Bytes) : ∀ x ∈ mix l, x.toNat < 128 ∧ x ≠ 39 := by
  intro x hx
  unfold mix at hx
  obtain ⟨c, _, hc⟩ := List.mem_flatMap.1 hx
  have h1 := hex_at (c.toNat / 16) (by have := UInt8.toNat_lt c; omega)
  have h2 := hex_at (c.toNat % 16) (by omega)
  rcases List.mem_cons.1 hc with rfl | hc
  · exact ⟨h1.2.2.1, h1.2.2.2.2.2.2.1⟩
  · rcases List.mem_cons.1 hc with rfl | hc
    · exact ⟨h2.2.2.2.1, h2.2.2.2.2.2.2.2⟩
    · cases hc
theorem raw_mix (l : Bytes) : raw (Lib.toLowerA (mix l)) = some l := by
  have h1 : (Lib.toLowerA (mix l)).length % 2 = 0 ∧ (Lib.toLowerA (mix l)).all (cHex.contains ·) = true ∧ pairs (Lib.toLowerA (mix l)) = l := by
    induction l with
    | nil => exact ⟨rfl, rfl, rfl⟩
    | cons c l ih =>
      obtain ⟨i1, i2, i3⟩ := ih
      have h1 := hex_at (c.toNat / 16) (by have := UInt8.toNat_lt c; omega)
      have h2 := hex_at (c.toNat % 16) (by omega)
      have e : Lib.toLowerA (mix (c :: l)) = cHex.getD (c.toNat / 16) 0 :: cHex.getD (c.toNat % 16) 0 :: Lib.toLowerA (mix l) := by
        rw [mix_cons]
        unfold Lib.toLowerA
        rw [List.map_append]
        simp only [List.map_cons, List.map_nil, h1.2.2.2.2.1, h2.2.2.2.2.2.1]
        rfl
      rw [e]
      refine ⟨by simp only [List.length_cons]; omega, ?_, ?_⟩
      · simp only [List.all_cons, Bool.and_eq_true]
        exact ⟨by simpa using h1.1, by simpa using h2.1, i2⟩
      · show UInt8.ofNat ((cHex.idxOf _ * 16 + cHex.idxOf _) % 256) :: pairs _ = _
        rw [h1.2.1, h2.2.1, i3]
        congr 1
        have e2 : (c.toNat / 16 * 16 + c.toNat % 16) % 256 = c.toNat := by have := UInt8.toNat_lt c; omega
        rw [e2]; simp
  unfold raw
  rw [if_pos ⟨h1.1, h1.2.1⟩, h1.2.2]
theorem upTo_mix (l : Bytes) : upToQuote (mix l ++ [39]) = mix l := by
  have h := mix_all l
  unfold upToQuote
  generalize mix l = m at h
  induction m with
  | nil => rfl
  | cons a m ih =>
    have ha := (h a List.mem_cons_self).2
    rw [List.cons_append, List.takeWhile_cons, if_pos (by simpa using ha), ih (fun x hx => h x (List.mem_cons_of_mem _ hx))]
theorem lex_mix (l : Bytes) (h : l.length ≤ 1000) : lex ([120, 39] ++ mix l ++ [39]) = some [⟨kBytes, l, 0⟩] := by
  have hl := mix_len l
  rw [lex_short (by simp; omega)]
  have hd : [120, 39] ++ mix l ++ [39] = 120 :: 39 :: (mix l ++ [39]) := rfl
  have ht : bytesTok (120 :: 39 :: (mix l ++ [39])) = some (some ⟨kBytes, l, 0⟩, []) := by
    unfold bytesTok
    have e1 : (120 :: 39 :: (mix l ++ [39])).drop 2 = mix l ++ [39] := rfl
    have e2 : (mix l ++ [39]).contains 39 = true := by simp
    dsimp only
    rw [e1, if_pos e2, upTo_mix, Lib.toLowerD_ascii _ (fun b hb => (mix_all l b hb).1), raw_mix]
    dsimp only
    rw [if_pos h]
    have e3 : (120 :: 39 :: (mix l ++ [39])).drop ((mix l).length + 3) = [] := List.drop_eq_nil_of_le (by simp)
    rw [e3]
  rw [toks_step hd, hd, step_cons, if_neg (by decide), if_neg (by rintro ⟨h, _⟩; cases h), if_pos ⟨Or.inl rfl, rfl⟩, ht]
  rfl

set_option maxHeartbeats 3200000 in
set_option maxRecDepth 1000000 in
theorem texts_loop (s : ByteArray) (w : World) (hF : Facts w) (hs : s.size ≤ 1000) :
    Calls Tryd.prog 3 #[.string s] w fun e w' => e = .returned (.bool true) ∧ Below w.heap.size w w' := by
  go_enter Tryd.func3, Tryd.ntmps3
  go_wp2_with fail
  refine (awake_any _ hF).mono ?_
  rintro e w1 ⟨rfl, hb1⟩
  have hF1 := hF.below hb1
  go_wp2_with fail
  go_loopw [3, 4, 5] (fun q h i wr => ∃ (k n : Nat) (Q H : ByteArray), k ≤ s.size ∧ i = .int .i64 k ∧ q = .string Q ∧ h = .string H ∧ Q.data.toList = dbl (s.data.toList.take k) ∧ H.data.toList = mix (s.data.toList.take k) ∧ wr = w1.drewN n) (fun _ _ i _ => s.size - (intOf i).toNat)
  case atStart => exact ⟨0, 0, _, _, Nat.zero_le _, rfl, rfl, rfl, rfl, rfl, rfl⟩
  case round =>
    obtain ⟨k, n, Q, H, hk, rfl, rfl, rfl, hQ, hH, rfl⟩ := hrel
    have hQs : Q.size ≤ 2 * k := by
      have h1 := dbl_len (s.data.toList.take k)
      have h2 := List.length_take_le k s.data.toList
      rw [Lib.size_eq, hQ]; omega
    have hHs : H.size ≤ 2 * k := by
      have h1 := mix_len (s.data.toList.take k)
      have h2 := List.length_take_le k s.data.toList
      rw [Lib.size_eq, hH]; omega
    have HQ := Lib.hid (And.intro hQ hH)
    clear hQ hH
    by_cases hlt : k < s.size
    · have hby : s[k].toNat < 256 := UInt8.toNat_lt _
      have hq1 : IntKind.u8.wrap ((s[k].toNat : Int) / 16) = ((s[k].toNat / 16 : Nat) : Int) := wrap_u8 (by omega) (by omega)
      have hq2 : IntKind.u8.wrap ((s[k].toNat : Int) % 16) = ((s[k].toNat % 16 : Nat) : Int) := wrap_u8 (by omega) (by omega)
      have hd1 : s[k].toNat / 16 < 16 := by omega
      have hd2 : s[k].toNat % 16 < 16 := by omega
      by_cases h39 : s[k] = 39
      · have t1 : ((s[k].toNat : Int) == 39) = true := by rw [h39]; rfl
        have H39 := Lib.hid h39
        clear h39
        go_wp2_with fail
        go_quiet (fail)
        go_wp2
        go_roundw
        case rel => exact ⟨k + 1, n + nq, _, _, by omega, by go_num, rfl, rfl, dbl_yes hlt H39.out HQ.out.1, mix_step hlt HQ.out.2 hd1 hd2, rfl⟩
        case measure => simp [intOf]; omega
      · have t1 : ((s[k].toNat : Int) == 39) = false := by
          rw [beq_eq_false_iff_ne]; intro h'; exact h39 (UInt8.toNat_inj.1 (by have : (39 : UInt8).toNat = 39 := rfl; omega))
        have H39 := Lib.hid h39
        clear h39
        go_wp2_with fail
        go_quiet (fail)
        go_wp2
        go_roundw
        case rel => exact ⟨k + 1, n + nq, _, _, by omega, by go_num, rfl, rfl, dbl_no hlt H39.out HQ.out.1, mix_step hlt HQ.out.2 hd1 hd2, rfl⟩
        case measure => simp [intOf]; omega
    · have hkk : s.data.toList.take k = s.data.toList := List.take_of_length_le (by rw [← Lib.size_eq]; omega)
      rw [hkk] at HQ
      have HK := Lib.hid hkk
      clear hkk
      have hl : s.data.toList.length ≤ 1000 := by rw [← Lib.size_eq]; exact hs
      have L1 : Hid (lex ((⟨#[39]⟩ : ByteArray) ++ Q ++ ⟨#[39]⟩).data.toList = some [⟨kText, s.data.toList, 0⟩]) := by
        rw [app_data, app_data, HQ.out.1]; exact lex_dbl _ hl
      have L2 : Hid (lex ((⟨#[120, 39]⟩ : ByteArray) ++ H ++ ⟨#[39]⟩).data.toList = some [⟨kBytes, s.data.toList, 0⟩]) := by
        rw [app_data, app_data, HQ.out.2]; exact lex_mix _ hl
      have hq3 : ((⟨#[39]⟩ : ByteArray) ++ Q ++ ⟨#[39]⟩).size ≤ maxLen := by
        have e1 : (⟨#[39]⟩ : ByteArray).size = 1 := rfl
        unfold maxLen; rw [ByteArray.size_append, ByteArray.size_append, e1]; omega
      have hq4 : ((⟨#[120, 39]⟩ : ByteArray) ++ H ++ ⟨#[39]⟩).size ≤ maxLen := by
        have e1 : (⟨#[39]⟩ : ByteArray).size = 1 := rfl
        have e2 : (⟨#[120, 39]⟩ : ByteArray).size = 2 := rfl
        unfold maxLen; rw [ByteArray.size_append, ByteArray.size_append, e1, e2]; omega
      have hF2 : Facts (w1.drewN n) := hF1.below (below_drewN (Below.refl _ _) n)
      have hm := tokGuard
      have heq := run_tok_eq
      have t1 : tokBeq ⟨kText.toArray⟩ ⟨s.data⟩ 0 ⟨#[116, 101, 120, 116]⟩ s 0 = true := decide_eq_true ⟨rfl, rfl, rfl⟩
      have t2 : tokBeq ⟨kBytes.toArray⟩ ⟨s.data⟩ 0 ⟨#[98, 121, 116, 101, 115]⟩ s 0 = true := decide_eq_true ⟨rfl, rfl, rfl⟩
      go_wp2_with fail
      refine (lex_some _ _ _ hF2 hq3 L1.out).mono ?_
      rintro e w2 ⟨v2, rfl, ⟨A2, c2, rfl, hs2⟩, _, hb2⟩
      obtain ⟨g2, rfl, hc2⟩ := hs2 (by simp)
      have hF3 := hF2.below hb2
      go_wp2_with fail
      refine (lex_some _ _ _ hF3 hq4 L2.out).mono ?_
      rintro e w3 ⟨v3, rfl, ⟨A3, c3, rfl, hs3⟩, _, hb3⟩
      obtain ⟨g3, rfl, hc3⟩ := hs3 (by simp)
      have k2 : ∀ j u, (tokRow [⟨kText, s.data.toList, 0⟩])[j]? = some u → w3.cell? ⟨g2, j, none⟩ = some u := fun j u hu => (hb3.cell (World.block_lt_of_cell? w2 _ (hc2 j u hu))).trans (hc2 j u hu)
      have x0 := k2 0 _ rfl
      have x1 := k2 1 _ rfl
      have x2 := k2 2 _ rfl
      have y0 := hc3 0 _ rfl
      have y1 := hc3 1 _ rfl
      have y2 := hc3 2 _ rfl
      clear k2 hc2 hc3 hs2 hs3
      have hbel : Below w.heap.size w w3 := hb1.trans (((below_drewN (Below.refl _ _) n).trans (hb2.trans (hb3.mono (by have := hb2.size; simpa using this)))).mono hb1.size)
      go_wp2_with fail
      go_ret
      exact ⟨rfl, hbel⟩

set_option maxHeartbeats 1600000 in
set_option maxRecDepth 1000000 in
theorem texts_long (s : ByteArray) (w : World) (hF : Facts w) (hs : 1000 < s.size) (hm : s.size ≤ maxLen) :
    Calls Tryd.prog 3 #[.string s] w fun e w' => e = .returned (.bool true) ∧ Below w.heap.size w w' := by
  unfold maxLen at hm
  go_enter Tryd.func3, Tryd.ntmps3
  go_wp2_with fail
  refine (awake_any _ hF).mono ?_
  rintro e w1 ⟨rfl, hb1⟩
  go_wp2_with fail
  go_ret
  exact ⟨rfl, hb1⟩

theorem texts_any (s : ByteArray) (w : World) (hF : Facts w) (hm : s.size ≤ maxLen) :
    Calls Tryd.prog 3 #[.string s] w fun e w' => e = .returned (.bool true) ∧ Below w.heap.size w w' := by
  by_cases hs : s.size ≤ 1000
  · exact texts_loop s w hF hs
  · exact texts_long s w hF (by omega) hm
end Go.Proofs.YtemobkeogooecaaDoor.Lx
