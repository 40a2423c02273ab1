/-
  A plain law of the lexer: a text without quotes, in small letters and in great ones, has the same tokens.
-/
import Derived.Test.YtemobkeogooecaaDoorLexLex
namespace Go.Proofs.YtemobkeogooecaaDoor.Lx
open Go.Lib

/-- What a change of letters is: each byte keeps its place among blanks, digits, letters and signs. -/
structure CaseMap (f : UInt8 → UInt8) : Prop where
  blank : ∀ c, cBlanks.contains (f c) = cBlanks.contains c
  digit : ∀ c, cDigits.contains (f c) = cDigits.contains c
  inner : ∀ c, cInner.contains (f c) = cInner.contains c
  sign : ∀ c, cSigns.contains (f c) = cSigns.contains c
  fixSign : ∀ c, cSigns.contains c = true → f c = c
  fixDigit : ∀ c, cDigits.contains c = true → f c = c
  upper : ∀ c, upperB (f c) = upperB c
  eq10 : ∀ c, (f c = 10 ↔ c = 10)
  eq33 : ∀ c, (f c = 33 ↔ c = 33)
  eq39 : ∀ c, (f c = 39 ↔ c = 39)
  eq45 : ∀ c, (f c = 45 ↔ c = 45)
  eq60 : ∀ c, (f c = 60 ↔ c = 60)
  eq61 : ∀ c, (f c = 61 ↔ c = 61)
  eq62 : ∀ c, (f c = 62 ↔ c = 62)

theorem all_bytes {p : UInt8 → Prop} [DecidablePred p] (h : ∀ n, n < 256 → p (UInt8.ofNat n)) (c : UInt8) : p c := by
  have := h c.toNat (UInt8.toNat_lt c)
  simpa using this
theorem lower_map : CaseMap lowerB where
  blank := all_bytes (by decide +kernel)
  digit := all_bytes (by decide +kernel)
  inner := all_bytes (by decide +kernel)
  sign := all_bytes (by decide +kernel)
  fixSign := all_bytes (by decide +kernel)
  fixDigit := all_bytes (by decide +kernel)
  upper := all_bytes (by decide +kernel)
  eq10 := all_bytes (by decide +kernel)
  eq33 := all_bytes (by decide +kernel)
  eq39 := all_bytes (by decide +kernel)
  eq45 := all_bytes (by decide +kernel)
  eq60 := all_bytes (by decide +kernel)
  eq61 := all_bytes (by decide +kernel)
  eq62 := all_bytes (by decide +kernel)
theorem upper_map : CaseMap upperB where
  blank := all_bytes (by decide +kernel)
  digit := all_bytes (by decide +kernel)
  inner := all_bytes (by decide +kernel)
  sign := all_bytes (by decide +kernel)
  fixSign := all_bytes (by decide +kernel)
  fixDigit := all_bytes (by decide +kernel)
  upper := all_bytes (by decide +kernel)
  eq10 := all_bytes (by decide +kernel)
  eq33 := all_bytes (by decide +kernel)
  eq39 := all_bytes (by decide +kernel)
  eq45 := all_bytes (by decide +kernel)
  eq60 := all_bytes (by decide +kernel)
  eq61 := all_bytes (by decide +kernel)
  eq62 := all_bytes (by decide +kernel)

section
variable {f : UInt8 → UInt8}
theorem dropWhile_case {p : UInt8 → Bool} (hp : ∀ c, p (f c) = p c) (s : Bytes) : (s.map f).dropWhile p = (s.dropWhile p).map f := by
  induction s with
  | nil => rfl
  | cons a s ih =>
    by_cases h : p a = true
    · have h' : p (f a) = true := by rw [hp]; exact h
      simp only [List.map_cons, List.dropWhile_cons, h, h', if_true]; exact ih
    · have h' : ¬ p (f a) = true := by rw [hp]; exact h
      rw [List.map_cons, List.dropWhile_cons, if_neg h', List.dropWhile_cons, if_neg h, List.map_cons]
theorem takeWhile_case {p : UInt8 → Bool} (hp : ∀ c, p (f c) = p c) (s : Bytes) : (s.map f).takeWhile p = (s.takeWhile p).map f := by
  induction s with
  | nil => rfl
  | cons a s ih =>
    by_cases h : p a = true
    · have h' : p (f a) = true := by rw [hp]; exact h
      rw [List.map_cons, List.takeWhile_cons, if_pos h', List.takeWhile_cons, if_pos h, List.map_cons, ih]
    · have h' : ¬ p (f a) = true := by rw [hp]; exact h
      rw [List.map_cons, List.takeWhile_cons, if_neg h', List.takeWhile_cons, if_neg h, List.map_nil]
theorem head_case {r : Bytes} {x : UInt8} (hx : ∀ c, (f c = x ↔ c = x)) : (r.map f).head? = some x ↔ r.head? = some x := by
  cases r with
  | nil => simp
  | cons a r => simp [hx]
theorem ne10_case (F : CaseMap f) (c : UInt8) : (f c != 10) = (c != 10) := by
  by_cases h : c = 10
  · have := (F.eq10 c).2 h; rw [this, h]
  · have h2 : ¬ f c = 10 := fun h' => h ((F.eq10 c).1 h')
    have e1 : (c != 10) = true := by simpa using h
    have e2 : (f c != 10) = true := by simpa using h2
    rw [e1, e2]
theorem toUpper_case (F : CaseMap f) (t : Bytes) : toUpperA (t.map f) = toUpperA t := by
  unfold toUpperA
  rw [List.map_map]
  apply List.map_congr_left
  intro c _
  exact F.upper c
theorem all_case {p : UInt8 → Bool} (hp : ∀ c, p (f c) = p c) (t : Bytes) : (t.map f).all p = t.all p := by
  rw [List.all_map]
  congr 1
  funext c
  exact hp c
theorem fix_case {p : UInt8 → Bool} (hp : ∀ c, p c = true → f c = c) {t : Bytes} (h : t.all p = true) : t.map f = t := by
  induction t with
  | nil => rfl
  | cons a t ih =>
    simp only [List.all_cons, Bool.and_eq_true] at h
    rw [List.map_cons, hp a h.1, ih h.2]

/-- A step of a text without quotes, whatever its letters: the step of the text in great letters, but for what is left. -/
def stepC (s : Bytes) : Option (Option Tok × Bytes) :=
  match s with
  | [] => none
  | c :: r =>
    if cBlanks.contains c = true then some (none, (c :: r).dropWhile (cBlanks.contains ·))
    else if c = 45 ∧ r.head? = some 45 then some (none, afterLine (c :: r))
    else if cDigits.contains c = true then numberTok (c :: r)
    else if cInner.contains c = true then wordTok (c :: r)
    else signTok (c :: r)
theorem stepC_cons (c : UInt8) (r : Bytes) : stepC (c :: r) = if cBlanks.contains c = true then some (none, (c :: r).dropWhile (cBlanks.contains ·))
    else if c = 45 ∧ r.head? = some 45 then some (none, afterLine (c :: r))
    else if cDigits.contains c = true then numberTok (c :: r)
    else if cInner.contains c = true then wordTok (c :: r)
    else signTok (c :: r) := rfl
theorem step_noquote {c : UInt8} {r : Bytes} (h : 39 ∉ c :: r) : step (c :: r) = stepC (c :: r) := by
  have h1 : ¬ c = 39 := fun e => h (by simp [e])
  have h2 : ¬ r.head? = some 39 := fun e => h (by
    cases r with
    | nil => simp at e
    | cons a r => simp at e; simp [e])
  rw [step_cons, stepC_cons]
  rw [if_neg (fun e : (c = 120 ∨ c = 88) ∧ r.head? = some 39 => h2 e.2), if_neg h1]

theorem number_notdigits {s : Bytes} (h : ¬ (runOf s cInner).all (cDigits.contains ·) = true) : numberTok s = none := by
  unfold numberTok
  dsimp only
  rcases Lib.parseIntB 64 (runOf s cInner) with v | _ | _
  · dsimp only; rw [if_neg h]
  · rfl
  · rfl
theorem stepC_case (F : CaseMap f) (c : UInt8) (r : Bytes) : stepC ((c :: r).map f) = (stepC (c :: r)).map fun x => (x.1, x.2.map f) := by
  have hrun : runOf ((c :: r).map f) cInner = (runOf (c :: r) cInner).map f := takeWhile_case (p := (cInner.contains ·)) F.inner (c :: r)
  rw [List.map_cons, stepC_cons, stepC_cons, F.blank]
  rw [← List.map_cons]
  by_cases h1 : cBlanks.contains c = true
  · rw [if_pos h1, if_pos h1, dropWhile_case (p := (cBlanks.contains ·)) F.blank]; rfl
  rw [if_neg h1, if_neg h1]
  have e45 : (f c = 45 ∧ (r.map f).head? = some 45) ↔ (c = 45 ∧ r.head? = some 45) := by rw [F.eq45, head_case F.eq45]
  by_cases h2 : c = 45 ∧ r.head? = some 45
  · rw [if_pos (e45.2 h2), if_pos h2]
    unfold afterLine
    rw [dropWhile_case (p := (· != 10)) (ne10_case F), ← List.map_drop]; rfl
  rw [if_neg (fun h => h2 (e45.1 h)), if_neg h2, F.digit, F.inner]
  by_cases h4 : cDigits.contains c = true
  · rw [if_pos h4, if_pos h4]
    by_cases hall : (runOf (c :: r) cInner).all (cDigits.contains ·) = true
    · unfold numberTok
      dsimp only
      rw [hrun, fix_case (p := (cDigits.contains ·)) F.fixDigit hall]
      rcases Lib.parseIntB 64 (runOf (c :: r) cInner) with v | _ | _
      · dsimp only; rw [if_pos hall, if_pos hall, ← List.map_drop]; rfl
      · rfl
      · rfl
    · rw [number_notdigits hall, number_notdigits (by rw [hrun, all_case (p := (cDigits.contains ·)) F.digit]; exact hall)]
      rfl
  rw [if_neg h4, if_neg h4]
  by_cases h5 : cInner.contains c = true
  · rw [if_pos h5, if_pos h5]
    unfold wordTok
    dsimp only
    rw [hrun, toUpper_case F, List.length_map, ← List.map_drop]
    split
    · rfl
    · split <;> rfl
  rw [if_neg h5, if_neg h5]
  have hone : ∀ u : Bytes, oneSign ((c :: u).map f) = (oneSign (c :: u)).map fun x => (x.1, x.2.map f) := fun u => by
    rw [List.map_cons, oneSign_cons, oneSign_cons, F.sign]
    split
    · rename_i hs; rw [F.fixSign c hs]; rfl
    · rfl
  cases r with
  | nil => exact hone []
  | cons d r =>
    rw [List.map_cons, List.map_cons, signTok_two, signTok_two]
    have e1 : (f c = 33 ∧ f d = 61) ↔ (c = 33 ∧ d = 61) := by rw [F.eq33, F.eq61]
    have e2 : ((f c = 60 ∧ f d = 62) ∨ (f c = 60 ∧ f d = 61) ∨ (f c = 62 ∧ f d = 61)) ↔ ((c = 60 ∧ d = 62) ∨ (c = 60 ∧ d = 61) ∨ (c = 62 ∧ d = 61)) := by rw [F.eq60, F.eq62, F.eq61, F.eq62]
    by_cases hs : c = 33 ∧ d = 61
    · rw [if_pos (e1.2 hs), if_pos hs]; rfl
    · rw [if_neg (fun h => hs (e1.1 h)), if_neg hs]
      by_cases hs2 : (c = 60 ∧ d = 62) ∨ (c = 60 ∧ d = 61) ∨ (c = 62 ∧ d = 61)
      · rw [if_pos (e2.2 hs2), if_pos hs2]
        have ec : f c = c := by rcases hs2 with ⟨h, _⟩ | ⟨h, _⟩ | ⟨h, _⟩ <;> (rw [h]; first | exact (F.eq60 60).2 rfl | exact (F.eq62 62).2 rfl)
        have ed : f d = d := by rcases hs2 with ⟨_, h⟩ | ⟨_, h⟩ | ⟨_, h⟩ <;> (rw [h]; first | exact (F.eq62 62).2 rfl | exact (F.eq61 61).2 rfl)
        rw [ec, ed]; rfl
      · rw [if_neg (fun h => hs2 (e2.1 h)), if_neg hs2, ← List.map_cons, ← List.map_cons]
        exact hone (d :: r)
end

theorem stepC_sub {s : Bytes} {t : Option Tok} {rest : Bytes} (h : stepC s = some (t, rest)) : ∀ x ∈ rest, x ∈ s := by
  cases s with
  | nil => simp [stepC] at h
  | cons c r =>
    rw [stepC_cons] at h
    have hdrop : ∀ n, ∀ x ∈ (c :: r).drop n, x ∈ c :: r := fun n x hx => List.mem_of_mem_drop hx
    have hdw : ∀ p : UInt8 → Bool, ∀ x ∈ (c :: r).dropWhile p, x ∈ c :: r := fun p x hx => (List.dropWhile_sublist p).mem hx
    split at h
    · simp only [Option.some.injEq, Prod.mk.injEq] at h
      rw [← h.2]; exact hdw _
    · split at h
      · simp only [Option.some.injEq, Prod.mk.injEq] at h
        rw [← h.2]
        intro x hx
        exact hdw _ x (List.mem_of_mem_drop hx)
      · split at h
        · unfold numberTok at h
          dsimp only at h
          split at h
          · split at h
            · simp only [Option.some.injEq, Prod.mk.injEq] at h
              rw [← h.2]; exact hdrop _
            · cases h
          · cases h
        · split at h
          · unfold wordTok at h
            dsimp only at h
            split at h
            · simp only [Option.some.injEq, Prod.mk.injEq] at h
              rw [← h.2]; exact hdrop _
            · split at h
              · simp only [Option.some.injEq, Prod.mk.injEq] at h
                rw [← h.2]; exact hdrop _
              · cases h
          · have hone : oneSign (c :: r) = some (t, rest) → ∀ x ∈ rest, x ∈ c :: r := fun h => by
              rw [oneSign_cons] at h
              split at h
              · simp only [Option.some.injEq, Prod.mk.injEq] at h
                rw [← h.2]; exact fun x hx => List.mem_cons_of_mem _ hx
              · cases h
            cases r with
            | nil => exact hone h
            | cons d r =>
              rw [signTok_two] at h
              split at h
              · simp only [Option.some.injEq, Prod.mk.injEq] at h
                rw [← h.2]; exact fun x hx => List.mem_cons_of_mem _ (List.mem_cons_of_mem _ hx)
              · split at h
                · simp only [Option.some.injEq, Prod.mk.injEq] at h
                  rw [← h.2]; exact fun x hx => List.mem_cons_of_mem _ (List.mem_cons_of_mem _ hx)
                · exact hone h

theorem toks_case {f : UInt8 → UInt8} (F : CaseMap f) : ∀ (n : Nat) (s : Bytes), s.length ≤ n → 39 ∉ s → toks (s.map f) = toks s
  | _, [], _, _ => rfl
  | 0, _ :: _, h, _ => by simp at h
  | n + 1, c :: r, hn, hq => by
    have hq' : 39 ∉ (c :: r).map f := fun h => by
      obtain ⟨x, hx, he⟩ := List.mem_map.1 h
      rw [F.eq39] at he
      exact hq (he ▸ hx)
    have hs := step_noquote hq
    have hsf : step ((c :: r).map f) = stepC ((c :: r).map f) := by rw [List.map_cons] at hq' ⊢; exact step_noquote hq'
    rw [toks_step (s := (c :: r).map f) (c := f c) (r := r.map f) rfl, toks_step (s := c :: r) rfl, hsf, stepC_case F, ← hs]
    cases hx : step (c :: r) with
    | none => rfl
    | some x =>
      obtain ⟨t, rest⟩ := x
      have hlt := step_lt hx
      simp only [Option.map_some]
      have hsub := stepC_sub (hs ▸ hx)
      rw [toks_case F n rest (by simp only [List.length_cons] at hn hlt; omega) (fun h => hq (hsub 39 h))]
end Go.Proofs.YtemobkeogooecaaDoor.Lx
