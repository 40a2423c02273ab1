/-
  The contracts of (*lexer).next and of Lex.
-/
import Derived.Test.YtemobkeogooecaaDoorLexText
namespace Go.Proofs.YtemobkeogooecaaDoor.Lx
open Go.RowKit Go.Lib

def blankIdx (x : UInt8) : Int := Lib.indexByte cBlanks x
def digitIdx (x : UInt8) : Int := Lib.indexByte cDigits x
def innerIdx (x : UInt8) : Int := Lib.indexByte cInner x
theorem set_index (S : ByteArray) (cs : Bytes) (x : UInt8) (w : World) (hS : S = ⟨cs.toArray⟩) :
    Calls Tryd.prog 10 #[.string S, .int .u8 x.toNat] w fun e w' => e = .returned (.int .i64 (Lib.indexByte cs x)) ∧ w = w' := by
  subst hS
  refine (Tryd.strings_IndexByte _ _ _).mono ?_
  rintro e w' ⟨rfl, rfl⟩
  exact ⟨by simp, rfl⟩
theorem blank_index (S : ByteArray) (x : UInt8) (w : World) (hS : S = ⟨cBlanks.toArray⟩) :
    Calls Tryd.prog 10 #[.string S, .int .u8 x.toNat] w fun e w' => e = .returned (.int .i64 (blankIdx x)) ∧ w = w' := set_index S cBlanks x w hS
theorem digit_index (S : ByteArray) (x : UInt8) (w : World) (hS : S = ⟨cDigits.toArray⟩) :
    Calls Tryd.prog 10 #[.string S, .int .u8 x.toNat] w fun e w' => e = .returned (.int .i64 (digitIdx x)) ∧ w = w' := set_index S cDigits x w hS
theorem inner_index (S : ByteArray) (x : UInt8) (w : World) (hS : S = ⟨cInner.toArray⟩) :
    Calls Tryd.prog 10 #[.string S, .int .u8 x.toNat] w fun e w' => e = .returned (.int .i64 (innerIdx x)) ∧ w = w' := set_index S cInner x w hS
theorem trimLeft_any (S D : ByteArray) (w : World) (hD : D = ⟨cBlanks.toArray⟩) :
    Calls Tryd.prog 11 #[.string S, .string D] w fun e w' => ∃ V : ByteArray, e = .returned (.string V) ∧ V.data.toList = S.data.toList.dropWhile (cBlanks.contains ·) ∧ Below w.heap.size w w' := by
  subst hD
  refine (Tryd.strings_TrimLeft_laid S ⟨cBlanks.toArray⟩ w (by decide +kernel) (ascii_of_all (by decide))).mono ?_
  rintro e w' ⟨rfl, hb⟩
  exact ⟨_, rfl, by simp [Lib.trimLeftS], hb⟩

def preOf (s : ByteArray) (a b : UInt8) : Bool := Lib.hasPrefix s.data.toList [a, b]
theorem pre_any (S C : ByteArray) (a b : UInt8) (w : World) (hC : C = ⟨#[a, b]⟩) :
    Calls Tryd.prog 12 #[.string S, .string C] w fun e w' => e = .returned (.bool (preOf S a b)) ∧ w = w' := hasPrefix_any S C [a, b] w (by rw [hC])

theorem step_cons (c : UInt8) (r : Bytes) : step (c :: r) = if cBlanks.contains c = true then some (none, (c :: r).dropWhile (cBlanks.contains ·))
    else if c = 45 ∧ r.head? = some 45 then some (none, afterLine (c :: r))
    else if (c = 120 ∨ c = 88) ∧ r.head? = some 39 then bytesTok (c :: r)
    else if cDigits.contains c = true then numberTok (c :: r)
    else if cInner.contains c = true then wordTok (c :: r)
    else if c = 39 then textTok (c :: r)
    else signTok (c :: r) := rfl
theorem pre_iff {s : ByteArray} {c : UInt8} {r : Bytes} (hd : s.data.toList = c :: r) (a b : UInt8) : preOf s a b = true ↔ (c = a ∧ r.head? = some b) := by
  unfold preOf Lib.hasPrefix
  rw [hd]
  cases r with
  | nil => simp
  | cons d r =>
    simp only [List.isPrefixOf, Bool.and_true, Bool.and_eq_true, beq_iff_eq, List.head?_cons, Option.some.injEq]
    exact ⟨fun ⟨h1, h2⟩ => ⟨h1.symm, h2.symm⟩, fun ⟨h1, h2⟩ => ⟨h1.symm, h2.symm⟩⟩
theorem pre_false {s : ByteArray} {c : UInt8} {r : Bytes} (hd : s.data.toList = c :: r) {a b : UInt8} (h : preOf s a b = false) : ¬ (c = a ∧ r.head? = some b) := fun h' => by rw [(pre_iff hd a b).2 h'] at h; cases h
theorem idx_iff (cs : Bytes) (c : UInt8) : 0 ≤ Lib.indexByte cs c ↔ cs.contains c = true := indexByte_has cs c
theorem not_in {cs : Bytes} {c : UInt8} (h : Lib.indexByte cs c < 0) : ¬ cs.contains c = true := fun h' => by have := (idx_iff cs c).2 h'; omega
theorem step_blank {s : ByteArray} {c : UInt8} {r : Bytes} (hd : s.data.toList = c :: r) (h : 0 ≤ blankIdx c) : step s.data.toList = some (none, s.data.toList.dropWhile (cBlanks.contains ·)) := by
  rw [hd, step_cons, if_pos ((idx_iff _ _).1 h)]
theorem step_line {s : ByteArray} {c : UInt8} {r : Bytes} (hd : s.data.toList = c :: r) (h : blankIdx c < 0) (h2 : preOf s 45 45 = true) : step s.data.toList = some (none, (s.data.toList.dropWhile (· != 10)).drop 1) := by
  have h2' := (pre_iff hd 45 45).1 h2
  rw [hd, step_cons, if_neg (not_in h), if_pos h2']
  rfl
theorem step_bytes {s : ByteArray} {c : UInt8} {r : Bytes} (hd : s.data.toList = c :: r) (h : blankIdx c < 0) (h2 : preOf s 45 45 = false) (h3 : preOf s 120 39 = true ∨ preOf s 88 39 = true) : step s.data.toList = bytesTok s.data.toList ∧ 2 ≤ s.size := by
  have h3' : (c = 120 ∨ c = 88) ∧ r.head? = some 39 := by
    rcases h3 with h3 | h3
    · have := (pre_iff hd 120 39).1 h3; exact ⟨Or.inl this.1, this.2⟩
    · have := (pre_iff hd 88 39).1 h3; exact ⟨Or.inr this.1, this.2⟩
  refine ⟨?_, ?_⟩
  · rw [hd, step_cons, if_neg (not_in h), if_neg (pre_false hd h2), if_pos h3']
  · rw [Lib.size_eq, hd]
    cases r with
    | nil => simp at h3'
    | cons d r => simp
theorem step_rest {s : ByteArray} {c : UInt8} {r : Bytes} (hd : s.data.toList = c :: r) (h : blankIdx c < 0) (h2 : preOf s 45 45 = false) (h3 : preOf s 120 39 = false) (h4 : preOf s 88 39 = false) :
    step s.data.toList = if cDigits.contains c = true then numberTok s.data.toList else if cInner.contains c = true then wordTok s.data.toList else if c = 39 then textTok s.data.toList else signTok s.data.toList := by
  rw [hd, step_cons, if_neg (not_in h), if_neg (pre_false hd h2), if_neg (fun h' => by
    rcases h'.1 with e | e
    · exact pre_false hd h3 ⟨e, h'.2⟩
    · exact pre_false hd h4 ⟨e, h'.2⟩)]
theorem step_number {s : ByteArray} {c : UInt8} {r : Bytes} (hd : s.data.toList = c :: r) (h : blankIdx c < 0) (h2 : preOf s 45 45 = false) (h3 : preOf s 120 39 = false) (h4 : preOf s 88 39 = false) (h5 : 0 ≤ digitIdx c) : step s.data.toList = numberTok s.data.toList := by
  rw [step_rest hd h h2 h3 h4, if_pos ((idx_iff _ _).1 h5)]
theorem step_word {s : ByteArray} {c : UInt8} {r : Bytes} (hd : s.data.toList = c :: r) (h : blankIdx c < 0) (h2 : preOf s 45 45 = false) (h3 : preOf s 120 39 = false) (h4 : preOf s 88 39 = false) (h5 : digitIdx c < 0) (h6 : 0 ≤ innerIdx c) : step s.data.toList = wordTok s.data.toList := by
  rw [step_rest hd h h2 h3 h4, if_neg (not_in h5), if_pos ((idx_iff _ _).1 h6)]
theorem step_text {s : ByteArray} {r : Bytes} (hd : s.data.toList = 39 :: r) (h : blankIdx 39 < 0) (h2 : preOf s 45 45 = false) (h3 : preOf s 120 39 = false) (h4 : preOf s 88 39 = false) (h5 : digitIdx 39 < 0) (h6 : innerIdx 39 < 0) : step s.data.toList = textTok s.data.toList := by
  rw [step_rest hd h h2 h3 h4, if_neg (not_in h5), if_neg (not_in h6), if_pos rfl]
theorem step_sign {s : ByteArray} {c : UInt8} {r : Bytes} (hd : s.data.toList = c :: r) (h : blankIdx c < 0) (h2 : preOf s 45 45 = false) (h3 : preOf s 120 39 = false) (h4 : preOf s 88 39 = false) (h5 : digitIdx c < 0) (h6 : innerIdx c < 0) (h7 : ¬ c = 39) : step s.data.toList = signTok s.data.toList := by
  rw [step_rest hd h h2 h3 h4, if_neg (not_in h5), if_neg (not_in h6), if_neg h7]
theorem inner_of_digit : cDigits.all (cInner.contains ·) = true := by decide
theorem innerLen_pos {s : ByteArray} {c : UInt8} {r : Bytes} (hd : s.data.toList = c :: r) (h : cInner.contains c = true) : 1 ≤ innerLen s := by
  unfold innerLen runOf
  rw [hd, List.takeWhile_cons, if_pos h]
  simp
theorem innerLen_digit {s : ByteArray} {c : UInt8} {r : Bytes} (hd : s.data.toList = c :: r) (h : 0 ≤ digitIdx c) : 1 ≤ innerLen s := by
  have h1 : cDigits.contains c = true := (idx_iff _ _).1 h
  exact innerLen_pos hd (List.all_eq_true.1 inner_of_digit c (by simpa using h1))
theorem dropWhile_le (p : UInt8 → Bool) (l : Bytes) : (l.dropWhile p).length ≤ l.length := (List.dropWhile_sublist _).length_le
theorem did_bool {b : Nat} {w : World} {ts : List Tok} {r : Option (Option Tok × Bytes)} {e : Ending} {w' : World} (h : Did b w ts r e w') : ∃ q : Bool, e = .returned (.bool q) := by
  obtain ⟨_, h⟩ := h
  cases r with
  | none => exact ⟨false, h⟩
  | some x => exact ⟨true, h.1⟩
theorem did_skip {b : Nat} {w w1 : World} {s V : ByteArray} {ts : List Tok} (h1 : St b w1 s ts) (hb : Below b w w1) (hV : V.size ≤ s.size) (hr : step s.data.toList = some (none, V.data.toList)) :
    Did b w ts (step s.data.toList) (.returned (.bool true)) (w1.setCell ⟨b, 0, none⟩ (.string V)) :=
  did_yes (t := none) hr (hb.setCell (Nat.le_refl _) _) (by simpa using h1.set_ V hV) rfl

set_option maxHeartbeats 1600000 in
set_option maxRecDepth 1000000 in
theorem next_any (b : Nat) (s : ByteArray) (ts : List Tok) (w : World) (h : St b w s ts) (hE : Env b w) (c : UInt8) (r : Bytes) (hd : s.data.toList = c :: r) :
    Calls Tryd.prog 9 #[.pointer (some ⟨b, 0, none⟩)] w (Did b w ts (step s.data.toList)) := by
  obtain ⟨c0, f0⟩ := h.cells
  have hsz := h.size
  obtain ⟨h0, hc0⟩ := cons_of_data hd
  have Hd := Lib.hid hd
  clear hd
  go_enter Tryd.func9, Tryd.ntmps9
  go_wp2_with fail
  refine (blank_index _ c _ ?hS).mono ?_
  case hS => decide +kernel
  rintro e w' ⟨rfl, rfl⟩
  by_cases hbl : 0 ≤ blankIdx c
  · have Hbl := Lib.hid hbl
    go_wp2_with fail
    refine (trimLeft_any s _ _ ?hD).mono ?_
    case hD => decide +kernel
    rintro e w1 ⟨V, rfl, hV, hb1⟩
    have h1 := h.below hb1
    have HV := Lib.hid hV
    clear hV c0 f0
    obtain ⟨c0, f0⟩ := h1.cells
    go_wp2
    go_ret
    exact did_skip h1 (hb1.mono (by have := h.lt; omega)) (by rw [Lib.size_eq, Lib.size_eq s, HV.out]; exact dropWhile_le _ _) (by rw [HV.out]; exact step_blank Hd.out Hbl.out)
  · have hbl : blankIdx c < 0 := by omega
    go_wp2_with fail
    refine (pre_any s _ 45 45 _ ?hC).mono ?_
    case hC => rfl
    rintro e w' ⟨rfl, rfl⟩
    cases hpc : preOf s 45 45 with
    | true =>
      have HS := Lib.hid (step_line Hd.out hbl hpc)
      go_wp2_with fail
      refine (cut_any s _ 10 b _ ?hC ?hs hE).mono ?_
      case hC => rfl
      case hs => omega
      rintro e w1 ⟨P, R, rfl, hP, hR, q, rfl⟩
      generalize hok : s.data.toList.contains 10 = ok
      have h1 := st_drew h q
      have HR := Lib.hid hR
      clear hP hR hok
      go_wp2
      go_ret
      exact did_skip h1 (below_drewN (Below.refl _ _) q) (by rw [Lib.size_eq, Lib.size_eq s, HR.out, List.length_drop]; have := dropWhile_le (· != 10) s.data.toList; omega) (by rw [HR.out]; exact HS.out)
    | false =>
      have Hpc := Lib.hid hpc
      clear hpc
      go_wp2_with fail
      refine (pre_any s _ 120 39 _ ?hC3).mono ?_
      case hC3 => rfl
      rintro e w' ⟨rfl, rfl⟩
      cases hx : preOf s 120 39 with
      | true =>
        obtain ⟨e1, e2⟩ := step_bytes Hd.out hbl Hpc.out (Or.inl hx)
        have HS := Lib.hid e1
        clear e1 hx
        go_wp2_with fail
        refine (bytes_any b s ts _ h hE e2).mono ?_
        rintro e w1 hdid
        obtain ⟨q, rfl⟩ := did_bool hdid
        go_wp2
        go_ret
        rw [HS.out]; exact hdid
      | false =>
        have Hx := Lib.hid hx
        clear hx
        go_wp2_with fail
        refine (pre_any s _ 88 39 _ ?hC4).mono ?_
        case hC4 => rfl
        rintro e w' ⟨rfl, rfl⟩
        cases hX : preOf s 88 39 with
        | true =>
          obtain ⟨e1, e2⟩ := step_bytes Hd.out hbl Hpc.out (Or.inr hX)
          have HS := Lib.hid e1
          clear e1 hX
          go_wp2_with fail
          refine (bytes_any b s ts _ h hE e2).mono ?_
          rintro e w1 hdid
          obtain ⟨q, rfl⟩ := did_bool hdid
          go_wp2
          go_ret
          rw [HS.out]; exact hdid
        | false =>
          have HX := Lib.hid hX
          clear hX
          go_wp2_with fail
          refine (digit_index _ c _ ?hS5).mono ?_
          case hS5 => decide +kernel
          rintro e w' ⟨rfl, rfl⟩
          by_cases hdg : 0 ≤ digitIdx c
          · have HS := Lib.hid (step_number Hd.out hbl Hpc.out Hx.out HX.out hdg)
            go_wp2_with fail
            refine (number_any b s ts _ h hE (innerLen_digit Hd.out hdg)).mono ?_
            rintro e w1 hdid
            obtain ⟨q, rfl⟩ := did_bool hdid
            go_wp2
            go_ret
            rw [HS.out]; exact hdid
          · have hdg : digitIdx c < 0 := by omega
            go_wp2_with fail
            refine (inner_index _ c _ ?hS6).mono ?_
            case hS6 => decide +kernel
            rintro e w' ⟨rfl, rfl⟩
            by_cases hin : 0 ≤ innerIdx c
            · have HS := Lib.hid (step_word Hd.out hbl Hpc.out Hx.out HX.out hdg hin)
              go_wp2_with fail
              refine (word_any b s ts _ h hE (innerLen_pos Hd.out ((idx_iff _ _).1 hin))).mono ?_
              rintro e w1 hdid
              obtain ⟨q, rfl⟩ := did_bool hdid
              go_wp2
              go_ret
              rw [HS.out]; exact hdid
            · by_cases h39 : c = 39
              · subst h39
                have hin : innerIdx 39 < 0 := by omega
                have HS := Lib.hid (step_text Hd.out hbl Hpc.out Hx.out HX.out hdg hin)
                go_wp2_with fail
                refine (text_any b s ts _ h hE (by omega)).mono ?_
                rintro e w1 hdid
                obtain ⟨q, rfl⟩ := did_bool hdid
                go_wp2
                go_ret
                rw [HS.out]; exact hdid
              · have hin : innerIdx c < 0 := by omega
                have hn39 : ((c.toNat : Int) == 39) = false := by
                  simp only [beq_eq_false_iff_ne, ne_eq]
                  intro h'
                  exact h39 (UInt8.toNat_inj.1 (by have : (39 : UInt8).toNat = 39 := rfl; omega))
                have HS := Lib.hid (step_sign Hd.out hbl Hpc.out Hx.out HX.out hdg hin h39)
                go_wp2_with fail
                refine (sign_any b s ts _ h (by omega)).mono ?_
                rintro e w1 hdid
                obtain ⟨q, rfl⟩ := did_bool hdid
                go_wp2
                go_ret
                rw [HS.out]; exact hdid
end Go.Proofs.YtemobkeogooecaaDoor.Lx
