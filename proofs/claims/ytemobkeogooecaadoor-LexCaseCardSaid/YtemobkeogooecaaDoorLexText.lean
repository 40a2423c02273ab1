/-
  The contract of (*lexer).text.
-/
import Derived.Test.YtemobkeogooecaaDoorLexBytes
import Derived.Test.YtemobkeogooecaaDoorLexSign
import Derived.Deep.RegionHeld3
import Derived.Deep.RegionWith
import Derived.BigRegion
namespace Go.Proofs.YtemobkeogooecaaDoor.Lx
open Go.RowKit Go.Lib

theorem hasPrefix_any (S C : ByteArray) (l : Bytes) (w : World) (hC : C = ⟨l.toArray⟩) :
    Calls Tryd.prog 12 #[.string S, .string C] w fun e w' => e = .returned (.bool (Lib.hasPrefix S.data.toList l)) ∧ w = w' := by
  subst hC
  refine (Tryd.strings_HasPrefix S ⟨l.toArray⟩ w).mono ?_
  rintro e w' ⟨rfl, rfl⟩
  exact ⟨rfl, rfl⟩

/-- What the loop of text holds: the builder's bytes and what is left give the whole. -/
def TextRel (B : Nat) (s : ByteArray) (w : World) (S : ByteArray) (wr : World) : Prop :=
  ∃ acc : Bytes, quoted (s.data.toList.drop 1) = (quoted S.data.toList).map (fun x => (acc ++ x.1, x.2)) ∧ acc.length + S.size + 1 ≤ s.size ∧
    Lib.IsBuilder 57 5 B B (Lib.byteCells acc) wr ∧ Below B w wr

theorem text_start {s : ByteArray} {w : World} (h1 : 1 ≤ s.size) :
    TextRel w.heap.size s w (s.extract 1 s.size) (w.alloc (.cells #[.pointer none, .slice none 0 0] 57)) := by
  refine ⟨[], ?_, by simp; omega, Or.inl ⟨Nat.le_refl _, .slice none 0 0, heap_alloc_new _ _, World.ownsRow_nil _ _ _ _, by simp [Value.ownBlock]⟩, (Below.refl _ _).alloc (Nat.le_refl _) _⟩
  rw [rest_eq]
  cases quoted (s.data.toList.drop 1) <;> simp

theorem quoted_open : ∀ (l : Bytes), l.contains 39 = false → quoted l = none
  | [], _ => rfl
  | a :: l, h => by
    rw [List.contains_cons, Bool.or_eq_false_iff] at h
    have ha : ¬ a = 39 := by rintro rfl; simp at h
    unfold quoted
    rw [if_neg ha, quoted_open l h.2]
    rfl
theorem text_open {s S : ByteArray} {acc : Bytes} (hq : quoted (s.data.toList.drop 1) = (quoted S.data.toList).map (fun x => (acc ++ x.1, x.2))) (hc : S.data.toList.contains 39 = false) : textTok s.data.toList = none := by
  unfold textTok
  rw [hq, quoted_open _ hc]
  rfl
theorem text_sizes {S P R : ByteArray} (hP : P.data.toList = S.data.toList.takeWhile (· != 39)) (hR : R.data.toList = (S.data.toList.dropWhile (· != 39)).drop 1) (hc : S.data.toList.contains 39 = true) : P.size + 1 + R.size = S.size := by
  have h1 := takeWhile_lt hc
  have h2 := drop_takeWhile (· != 39) S.data.toList
  have h3 : R.data.toList.length = (S.data.toList.drop (S.data.toList.takeWhile (· != 39)).length).length - 1 := by rw [hR, h2, List.length_drop]
  rw [List.length_drop] at h3
  rw [Lib.size_eq P, Lib.size_eq R, Lib.size_eq S, hP]
  omega

theorem pre_size {R : ByteArray} (h : Lib.hasPrefix R.data.toList [39] = true) : 1 ≤ R.size := by
  rw [Lib.size_eq]
  cases hd : R.data.toList with
  | nil => rw [hd] at h; simp [Lib.hasPrefix] at h
  | cons a l => simp
theorem quoted_cons (c : UInt8) (r : Bytes) : quoted (c :: r) = if c = 39 then (match r with | [] => some ([], []) | d :: r' => if d = 39 then (quoted r').map fun x => (39 :: x.1, x.2) else some ([], d :: r')) else (quoted r).map fun x => (c :: x.1, x.2) := by
  cases r <;> rfl
theorem quoted_head : ∀ (l : Bytes), l.contains 39 = true → quoted l = (quoted (39 :: (l.dropWhile (· != 39)).drop 1)).map fun x => (l.takeWhile (· != 39) ++ x.1, x.2)
  | [], h => by simp at h
  | a :: l, h => by
    by_cases ha : a = 39
    · subst ha
      have e1 : (39 :: l).takeWhile (· != 39) = [] := by simp
      have e2 : (39 :: l).dropWhile (· != 39) = 39 :: l := by simp
      rw [e1, e2]
      simp
    · have h3 : (39 == a) = false := by simp [Ne.symm ha]
      rw [List.contains_cons, h3, Bool.false_or] at h
      have h2 : (a != 39) = true := by simp [ha]
      have ih := quoted_head l h
      rw [quoted_cons a l, if_neg ha, ih, List.takeWhile_cons, if_pos h2, List.dropWhile_cons, if_pos h2]
      simp [Function.comp_def]
theorem text_step {s S P R : ByteArray} {acc : Bytes} {w w3 : World} {B : Nat} (hq : quoted (s.data.toList.drop 1) = (quoted S.data.toList).map (fun x => (acc ++ x.1, x.2)))
    (hP : P.data.toList = S.data.toList.takeWhile (· != 39)) (hR : R.data.toList = (S.data.toList.dropWhile (· != 39)).drop 1) (hc : S.data.toList.contains 39 = true) (hpre : Lib.hasPrefix R.data.toList [39] = true)
    (hle : acc.length + P.size + 1 + R.size + 1 ≤ s.size)
    (hA : Lib.BuilderAt 57 5 B B (.pointer (some ⟨B, 0, none⟩)) (byteCells (acc ++ P.data.toList) ++ [.int .u8 39]) w3) (hb : Below B w w3) : TextRel B s w (R.extract 1 R.size) w3 := by
  obtain ⟨r, hr⟩ : ∃ r, R.data.toList = 39 :: r := by
    cases hd : R.data.toList with
    | nil => rw [hd] at hpre; simp [Lib.hasPrefix] at hpre
    | cons a l => rw [hd] at hpre; simp [Lib.hasPrefix] at hpre; exact ⟨l, by rw [hpre]⟩
  refine ⟨acc ++ P.data.toList ++ [39], ?_, ?_, Or.inr ?_, hb⟩
  · rw [hq, quoted_head _ hc, ← hR, ← hP, rest_eq, hr]
    rw [quoted_cons 39, if_pos rfl]
    simp [Function.comp_def]
  · have h1 := pre_size hpre
    simp only [List.length_append, List.length_cons, List.length_nil]
    rw [← Lib.size_eq]
    simp; omega
  · have e1 : byteCells (acc ++ P.data.toList ++ [39]) = byteCells (acc ++ P.data.toList) ++ [.int .u8 39] := by simp [byteCells]
    rw [e1]; exact hA
theorem text_close {s S P R : ByteArray} {acc : Bytes} (hq : quoted (s.data.toList.drop 1) = (quoted S.data.toList).map (fun x => (acc ++ x.1, x.2)))
    (hP : P.data.toList = S.data.toList.takeWhile (· != 39)) (hR : R.data.toList = (S.data.toList.dropWhile (· != 39)).drop 1) (hc : S.data.toList.contains 39 = true) (hpre : Lib.hasPrefix R.data.toList [39] = false) :
    quoted (s.data.toList.drop 1) = some (acc ++ P.data.toList, R.data.toList) := by
  rw [hq, quoted_head _ hc, ← hR, ← hP, quoted_cons 39, if_pos rfl]
  cases hd : R.data.toList with
  | nil => simp
  | cons a l =>
    rw [hd] at hpre
    have ha : ¬ a = 39 := by rintro rfl; simp [Lib.hasPrefix] at hpre
    simp [ha]
theorem textTok_no {s : ByteArray} {A R : Bytes} (h : quoted (s.data.toList.drop 1) = some (A, R)) (h1000 : 1000 < A.length) : textTok s.data.toList = none := by
  unfold textTok
  rw [h]
  dsimp only
  rw [if_neg (by omega)]
theorem textTok_yes {s : ByteArray} {A R : Bytes} (h : quoted (s.data.toList.drop 1) = some (A, R)) (h1000 : ¬ 1000 < A.length) : textTok s.data.toList = some (some ⟨kText, A, 0⟩, R) := by
  unfold textTok
  rw [h]
  dsimp only
  rw [if_pos (by omega)]

theorem quoted_suffix : ∀ (n : Nat) (l A r : Bytes), l.length ≤ n → quoted l = some (A, r) → ∃ t, l = t ++ r
  | _, [], A, r, _, h => by simp [quoted] at h
  | 0, a :: l, A, r, hn, h => by simp at hn
  | n + 1, a :: l, A, r, hn, h => by
    rw [quoted_cons] at h
    by_cases ha : a = 39
    · rw [if_pos ha] at h
      match l, h with
      | [], h => simp at h; exact ⟨[a], by simp [h.2]⟩
      | d :: l', h =>
        by_cases hd : d = 39
        · simp only [hd, if_true] at h
          obtain ⟨⟨A', r'⟩, h1, h2⟩ := Option.map_eq_some_iff.1 h
          simp at h2
          obtain ⟨t, ht⟩ := quoted_suffix n l' A' r' (by simp at hn; omega) h1
          exact ⟨a :: d :: t, by rw [ht, ← h2.2]; simp⟩
        · simp only [hd, if_false] at h
          simp at h
          exact ⟨[a], by rw [← h.2]; simp⟩
    · rw [if_neg ha] at h
      obtain ⟨⟨A', r'⟩, h1, h2⟩ := Option.map_eq_some_iff.1 h
      simp at h2
      obtain ⟨t, ht⟩ := quoted_suffix n l A' r' (by simp at hn; omega) h1
      exact ⟨a :: t, by rw [ht, ← h2.2]; simp⟩
theorem text_rest {s R : ByteArray} {A : Bytes} (h : quoted (s.data.toList.drop 1) = some (A, R.data.toList)) (h1 : 1 ≤ s.size) : (s.extract (s.size - R.size) s.size).data.toList = R.data.toList := by
  obtain ⟨t, ht⟩ := quoted_suffix _ _ _ _ (Nat.le_refl _) h
  have hs := head_of (s := s) (by omega)
  rw [rest_eq]
  have e : s.data.toList = (s[0] :: t) ++ R.data.toList := by rw [hs, ht]; simp
  have hl : s.size - R.size = (s[0] :: t).length := by rw [Lib.size_eq s, Lib.size_eq R, e]; simp; omega
  rw [hl, e, List.drop_left]

set_option maxHeartbeats 1600000 in
set_option maxRecDepth 1000000 in
theorem text_any (b : Nat) (s : ByteArray) (ts : List Tok) (w : World) (h : St b w s ts) (hE : Env b w) (h1 : 1 ≤ s.size) :
    Calls Tryd.prog 17 #[.pointer (some ⟨b, 0, none⟩)] w (Did b w ts (textTok s.data.toList)) := by
  have hsz := h.size
  have hst := text_start (w := w) h1
  have h0 : St b (w.alloc (.cells #[.pointer none, .slice none 0 0] 57)) s ts := h.below ((Below.refl _ _).alloc (Nat.le_refl _) _)
  obtain ⟨c0, f0⟩ := h0.cells
  go_enter Tryd.func17, Tryd.ntmps17
  go_wp2
  go_loopw [4, 5, 6, 7] (fun x y z u wr => ∃ S : ByteArray, x = .string S ∧ TextRel w.heap.size s w S wr) (fun x _ _ _ _ => strLen x)
  case atStart => exact ⟨_, rfl, hst⟩
  case round =>
    obtain ⟨S, rfl, hR⟩ := hrel
    obtain ⟨acc, hq, hlen, hI, hbl⟩ := hR
    have Hq := Lib.hid hq
    have hbB := h.lt
    have hE1 := hE.below hbl (by omega)
    clear hq c0 f0
    go_wp2_with fail
    refine (cut_any S _ 39 b wr ?hC ?hs hE1).mono ?_
    case hC => rfl
    case hs => omega
    rintro e w1 ⟨P, R, rfl, hP, hR, q, rfl⟩
    generalize hok : S.data.toList.contains 39 = ok
    cases ok with
    | false =>
      have HN := Lib.hid (text_open Hq.out hok)
      clear hP hR hok
      go_wp2_with fail
      go_ret
      exact did_no HN.out (((hbl.mono (by omega))).trans (below_drewN (Below.refl _ _) q)) rfl
    | true =>
      have hPR := text_sizes hP hR hok
      have HP := Lib.hid (And.intro hP (And.intro hR hok))
      clear hP hR hok
      have hI' : Lib.IsBuilder 57 5 w.heap.size w.heap.size (Lib.byteCells acc) (wr.drewN q) := hI
      have hPl := Lib.hid hPR
      have hle1 : acc.length + P.size + 1 + R.size + 1 ≤ s.size := by omega
      clear hPR
      go_wp2_with fail
      refine (Tryd.Builder_WriteString w.heap.size w.heap.size (byteCells acc) P (wr.drewN q) hI' ?h1 ?h2).mono ?_
      case h1 => simp [byteCells]; omega
      case h2 => have := hbl.size; simpa using this
      rintro e w2 ⟨rfl, hA2, hb2⟩
      have hbl2 : Below w.heap.size w w2 := (below_drewN hbl q).trans hb2
      have hI2 : Lib.IsBuilder 57 5 w.heap.size w.heap.size (byteCells (acc ++ P.data.toList)) w2 := by
        refine Or.inr ?_
        have e1 : byteCells (acc ++ P.data.toList) = byteCells acc ++ strCells P := by simp [byteCells, strCells]
        rw [e1]; exact hA2
      clear hA2 hI hI' hb2 hbl
      go_wp2_with fail
      refine (hasPrefix_any R _ [39] w2 ?hC2).mono ?_
      case hC2 => rfl
      rintro e w' ⟨rfl, rfl⟩
      generalize hpre : Lib.hasPrefix R.data.toList [39] = pre
      cases pre with
      | true =>
        have hR1 := pre_size hpre
        have Hpre := Lib.hid hpre
        clear hpre
        go_wp2_with fail
        refine (Tryd.Builder_WriteByte w.heap.size w.heap.size (byteCells (acc ++ P.data.toList)) 39 w2 hI2 ?h3 ?h4).mono ?_
        case h3 => rw [byteCells_length, List.length_append, ← Lib.size_eq]; omega
        case h4 => have := hbl2.size; simpa using this
        rintro e w3 ⟨rfl, hA3, hb3⟩
        have hR3 : TextRel w.heap.size s w (R.extract 1 R.size) w3 := text_step Hq.out HP.out.1 HP.out.2.1 HP.out.2.2 Hpre.out hle1 hA3 (hbl2.trans hb3)
        clear hI2 hA3 hb3 hbl2
        go_wp2
        go_roundw
        case rel => exact ⟨_, rfl, hR3⟩
        case measure => have := hPl.out; simp [strLen]; omega
      | false =>
        have HF := Lib.hid (text_close Hq.out HP.out.1 HP.out.2.1 HP.out.2.2 hpre)
        clear hpre
        go_wp2_with fail
        refine (Tryd.Builder_Len w.heap.size w.heap.size (byteCells (acc ++ P.data.toList)) w2 hI2).mono ?_
        rintro e w' ⟨rfl, rfl⟩
        rw [byteCells_length]
        generalize hA : acc ++ P.data.toList = A at HF hI2 ⊢
        by_cases h1000 : 1000 < A.length
        · go_wp2_with fail
          go_ret
          exact did_no (textTok_no HF.out h1000) (hbl2.mono (by omega)) rfl
        · have hs2 := h.below hbl2
          obtain ⟨c2, f2⟩ := hs2.cells
          have hw : w.heap.size ≤ w'.heap.size := by have := hbl2.size; simpa using this
          have hsub : IntKind.i64.wrap ((s.size : Int) - (R.size : Int)) = ((s.size - R.size : Nat) : Int) := by rw [IntKind.wrap_i64]; omega
          go_wp2_with fail
          go_region_with (first | (go_at_call 37; refine (Tryd.Builder_String_any w.heap.size w.heap.size A _ ?_ ?_).mono ?_; (exact hI2); (exact hw); rintro e w4 ⟨rfl, hb4⟩; have hb5 : Below w.heap.size w w4 := (by first | exact hbl2.trans hb4 | exact hbl2.drew.trans hb4); have c4 : w4.cell? ⟨b, 0, none⟩ = some (.string s) := ((h.below hb5).cells).1) | (go_at_call 28; refine (put_any b s _ _ 0 (s.size - R.size) ts _ (by exact h.below hb5) (by omega) (by omega)).mono ?_; rintro e w5 ⟨rfl, hs5, hb6⟩))
          all_goals
            go_wp2
            go_ret
            exact did_yes (t := some ⟨kText, A, 0⟩) (by rw [text_rest HF.out h1]; exact textTok_yes HF.out h1000) ((hb5.mono (by omega)).trans hb6) hs5 rfl
end Go.Proofs.YtemobkeogooecaaDoor.Lx
