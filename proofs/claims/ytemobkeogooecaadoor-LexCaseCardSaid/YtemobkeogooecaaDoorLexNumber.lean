/-
  The contract of (*lexer).number.
-/
import Derived.Test.YtemobkeogooecaaDoorLexWord
namespace Go.Proofs.YtemobkeogooecaaDoor.Lx
open Go.RowKit Go.Lib

/-- Behind strings.Trim of the digits: is there nothing left? -/
theorem dropWhile_nil (p : UInt8 → Bool) (l : Bytes) : l.dropWhile p = [] ↔ l.all p = true := by
  induction l with
  | nil => simp
  | cons a l ih => by_cases h : p a = true <;> simp [h, ih]
theorem dropWhile_head (p : UInt8 → Bool) (l : Bytes) (h : (l.dropWhile p).all p = true) : l.dropWhile p = [] := by
  induction l with
  | nil => rfl
  | cons a l ih =>
    by_cases ha : p a = true
    · simp only [List.dropWhile_cons, ha, if_true] at h ⊢; exact ih h
    · have ha' : p a = false := by simpa using ha
      simp [ha'] at h
theorem trimS_nil (l cs : Bytes) : (Lib.trimS l cs = []) ↔ l.all (cs.contains ·) = true := by
  unfold Lib.trimS Lib.trimLeftS Lib.trimRightS
  rw [dropWhile_nil, List.all_reverse]
  constructor
  · intro h
    have := (dropWhile_nil _ _).1 (dropWhile_head (cs.contains ·) l.reverse h)
    rwa [List.all_reverse] at this
  · intro h
    have h2 : l.reverse.all (cs.contains ·) = true := by rwa [List.all_reverse]
    rw [(dropWhile_nil (cs.contains ·) l.reverse).2 h2]
    rfl

theorem trim_any (S D : ByteArray) (cs : Bytes) (w : World) (hS : S.size ≤ 100000) (hD : D = ⟨cs.toArray⟩) (hl : cs.length < 1000) (hasc : cs.all (fun b => decide (b.toNat < 128)) = true) :
    Calls Tryd.prog 31 #[.string S, .string D] w fun e w' => ∃ V : ByteArray, e = .returned (.string V) ∧ (V.data.toList = [] ↔ S.data.toList.all (cs.contains ·) = true) ∧ Below w.heap.size w w' := by
  subst hD
  refine (Tryd.strings_Trim_laid S ⟨cs.toArray⟩ w (by omega) (by rw [Lib.size_eq]; simp; omega) (ascii_of_all hasc)).mono ?_
  rintro e w' ⟨rfl, hb⟩
  exact ⟨_, rfl, by simpa using trimS_nil S.data.toList cs, hb⟩

theorem number_yes {s : ByteArray} {n : Nat} {v : Int} (hn : innerLen s = n) (hv : Lib.parseIntB 64 (runOf s.data.toList cInner) = .ok v) (hall : (runOf s.data.toList cInner).all (cDigits.contains ·) = true) :
    numberTok s.data.toList = some (some ⟨kInt, [], v⟩, (s.extract n s.size).data.toList) := by
  subst hn
  unfold numberTok
  simp only [hv]
  rw [if_pos hall, rest_eq]
  rfl
theorem number_no {s : ByteArray} {v : Int} (hv : Lib.parseIntB 64 (runOf s.data.toList cInner) = .ok v) (hall : ¬ (runOf s.data.toList cInner).all (cDigits.contains ·) = true) :
    numberTok s.data.toList = none := by
  unfold numberTok
  simp only [hv]
  rw [if_neg hall]

set_option maxHeartbeats 1600000 in
set_option maxRecDepth 1000000 in
theorem number_ok (b : Nat) (s : ByteArray) (ts : List Tok) (w : World) (h : St b w s ts) (hone : 1 ≤ innerLen s) (v : Int) (hv : Lib.parseIntB 64 (runOf s.data.toList cInner) = .ok v) :
    Calls Tryd.prog 15 #[.pointer (some ⟨b, 0, none⟩)] w (Did b w ts (numberTok s.data.toList)) := by
  obtain ⟨c0, f0⟩ := h.cells
  have hsz := h.size
  have hit := Lib.hid (inner_take s)
  have hle := innerLen_le s
  have Hv := Lib.hid hv
  clear hv
  go_enter Tryd.func15, Tryd.ntmps15
  go_wp2_with fail
  refine (run_inner s _ _ (by omega) (by decide +kernel)).mono ?_
  rintro e w' ⟨rfl, rfl⟩
  generalize hn : innerLen s = n at hle hit hone ⊢
  have Hn := Lib.hid hn
  clear hn
  go_wp2_with fail
  have hexs : (s.extract 0 n).size ≤ 20000 := by rw [Lib.size_eq, hit.out]; have := run_le s.data.toList cInner; rw [← Lib.size_eq] at this; omega
  refine (Tryd.strconv_ParseInt_10_at64_ok (s.extract 0 n) (by omega) v (by rw [hit.out]; exact Hv.out) _).mono ?_
  rintro e w1 ⟨rfl, hw1⟩
  have hb1 : Below w.heap.size w w1 := by
    rcases hw1 with rfl | ⟨t, rfl⟩
    · exact Below.refl _ _
    · exact Lib.bytesWorld_below _ _ _
  clear hw1 c0 f0
  have h1 := h.below hb1
  obtain ⟨c0, f0⟩ := h1.cells
  go_wp2_with fail
  refine (trim_any (s.extract 0 n) _ cDigits _ (by omega) ?hD (by decide) (by decide)).mono ?_
  case hD => decide +kernel
  rintro e w2 ⟨V, rfl, hV, hb2⟩
  have HV := Lib.hid hV
  have h2 := h1.below hb2
  have hb12 : Below b w w2 := (hb1.mono (by have := h.lt; omega)).trans (hb2.mono (by have := h1.lt; omega))
  clear hV c0 f0
  cases hVe : V.toList.isEmpty with
  | true =>
    have hall : (runOf s.data.toList cInner).all (cDigits.contains ·) = true := by
      have hVn : V.data.toList = [] := by rw [Lib.toList_data] at hVe; simpa using hVe
      rw [← hit.out]; exact HV.out.1 hVn
    have Hall := Lib.hid hall
    clear hall
    go_wp2_with fail
    refine (put_any b s _ _ v n ts _ h2 hone hle).mono ?_
    rintro e w3 ⟨rfl, hs3, hb3⟩
    go_wp2
    go_ret
    exact did_yes (t := some ⟨kInt, [], v⟩) (number_yes Hn.out Hv.out Hall.out) (hb12.trans hb3) hs3 rfl
  | false =>
    have hall : ¬ (runOf s.data.toList cInner).all (cDigits.contains ·) = true := fun hall => by
      have := HV.out.2 (by rw [hit.out]; exact hall)
      rw [Lib.toList_data, this] at hVe
      simp at hVe
    have Hall := Lib.hid hall
    clear hall
    go_wp2_with fail
    go_ret
    exact did_no (number_no Hv.out Hall.out) hb12 rfl

theorem number_err {s : ByteArray} (h : ∀ v, Lib.parseIntB 64 (runOf s.data.toList cInner) ≠ .ok v) : numberTok s.data.toList = none := by
  unfold numberTok
  rcases hp : Lib.parseIntB 64 (runOf s.data.toList cInner) with v | _ | _
  · exact absurd hp (h v)
  · simp only [hp]
  · simp only [hp]

set_option maxHeartbeats 1600000 in
set_option maxRecDepth 1000000 in
theorem number_bad (b : Nat) (s : ByteArray) (ts : List Tok) (w : World) (h : St b w s ts) (hE : Env b w) (hv : ∀ v, Lib.parseIntB 64 (runOf s.data.toList cInner) ≠ .ok v) :
    Calls Tryd.prog 15 #[.pointer (some ⟨b, 0, none⟩)] w (Did b w ts (numberTok s.data.toList)) := by
  obtain ⟨c0, f0⟩ := h.cells
  have hsz := h.size
  have hit := Lib.hid (inner_take s)
  have hle := innerLen_le s
  have Hv := Lib.hid hv
  clear hv
  go_enter Tryd.func15, Tryd.ntmps15
  go_wp2_with fail
  refine (run_inner s _ _ (by omega) (by decide +kernel)).mono ?_
  rintro e w' ⟨rfl, rfl⟩
  generalize hn : innerLen s = n at hle hit ⊢
  have Hn := Lib.hid hn
  clear hn
  go_wp2_with fail
  have hexs : (s.extract 0 n).size ≤ 20000 := by rw [Lib.size_eq, hit.out]; have := run_le s.data.toList cInner; rw [← Lib.size_eq] at this; omega
  have hcall : Calls Tryd.prog 30 #[.string (s.extract 0 n), .int .i64 10, .int .i64 64] w fun e w' => ∃ (u : Int) (T N : Nat), e = .returned (.tuple #[.int .i64 u, .iface T (.pointer (some ⟨N, 0, none⟩))]) ∧ Below w.heap.size w w' := by
    have hF := hE.facts
    obtain ⟨ev, h1, h2⟩ := hF.errSyntax
    obtain ⟨ev', h3, h4⟩ := hF.errRange
    exact Tryd.strconv_ParseInt_bad (s.extract 0 n) (by omega) (by rw [hit.out]; exact Hv.out) ev ev' w h1 h2 h3 h4
  have Hcall := Lib.hid hcall
  clear hcall
  refine Hcall.out.mono ?_
  rintro e w1 ⟨u, T, N, rfl, hb1⟩
  clear c0 f0
  go_wp2_with fail
  go_ret
  exact did_no (number_err Hv.out) (hb1.mono (by have := h.lt; omega)) rfl

theorem number_any (b : Nat) (s : ByteArray) (ts : List Tok) (w : World) (h : St b w s ts) (hE : Env b w) (hone : 1 ≤ innerLen s) :
    Calls Tryd.prog 15 #[.pointer (some ⟨b, 0, none⟩)] w (Did b w ts (numberTok s.data.toList)) := by
  rcases hp : Lib.parseIntB 64 (runOf s.data.toList cInner) with v | _ | _
  · exact number_ok b s ts w h hone v hp
  · exact number_bad b s ts w h hE (fun v hv => by rw [hp] at hv; cases hv)
  · exact number_bad b s ts w h hE (fun v hv => by rw [hp] at hv; cases hv)
end Go.Proofs.YtemobkeogooecaaDoor.Lx
