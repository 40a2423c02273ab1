/-
  The contract of (*lexer).bytes.
-/
import Derived.Test.YtemobkeogooecaaDoorLexRaw
import Derived.WalkSmall
namespace Go.Proofs.YtemobkeogooecaaDoor.Lx
open Go.RowKit Go.Lib

theorem contains_eq_any (l : Bytes) (c : UInt8) : l.contains c = true ↔ 0 ≤ Lib.indexByte l c := (indexByte_has l c).symm
theorem indexByte_at (c : UInt8) : ∀ (l : Bytes), l.contains c = true → Lib.indexByte l c = ((l.takeWhile (· != c)).length : Int)
  | [], h => by simp at h
  | a :: l, h => by
    unfold Lib.indexByte
    by_cases ha : a = c
    · subst ha; simp
    · have h1 : (a == c) = false := by simp [ha]
      have h2 : (a != c) = true := by simp [ha]
      have h3 : (c == a) = false := by simp [Ne.symm ha]
      rw [List.contains_cons, h3, Bool.false_or] at h
      have ih := indexByte_at c l h
      have hn : ¬ ((Lib.indexByte l c == -1) = true) := by rw [ih]; simp
      rw [h1, if_neg (by simp), if_neg hn, List.takeWhile_cons, if_pos h2, ih]
      simp
theorem drop_takeWhile (p : UInt8 → Bool) (l : Bytes) : l.drop (l.takeWhile p).length = l.dropWhile p := by
  induction l with
  | nil => rfl
  | cons a l ih => by_cases h : p a = true <;> simp [h, ih]
theorem takeWhile_all (p : UInt8 → Bool) : ∀ (l : Bytes), (∀ x ∈ l, p x = true) → l.takeWhile p = l
  | [], _ => rfl
  | a :: l, h => by rw [List.takeWhile_cons, if_pos (h a List.mem_cons_self), takeWhile_all p l (fun x hx => h x (List.mem_cons_of_mem _ hx))]
/-- strings.Cut at one byte. -/
theorem cut_one (l : Bytes) (c : UInt8) : Lib.cut l [c] = (l.takeWhile (· != c), (l.dropWhile (· != c)).drop 1, l.contains c) := by
  unfold Lib.cut
  rw [Lib.index_one]
  cases h : l.contains c with
  | true =>
    rw [if_pos ((contains_eq_any l c).1 h), indexByte_at c l h]
    simp only [Int.toNat_natCast, List.length_cons, List.length_nil, Nat.zero_add]
    rw [takeWhile_take, ← List.drop_drop, drop_takeWhile]
  | false =>
    rw [if_neg (fun h' => by rw [(contains_eq_any l c).2 h'] at h; cases h)]
    have hall : ∀ x ∈ l, (x != c) = true := fun x hx => by
      simp only [bne_iff_ne, ne_eq]
      rintro rfl
      have : l.contains x = true := by simpa using hx
      rw [this] at h; cases h
    have e1 : l.takeWhile (· != c) = l := takeWhile_all _ l hall
    have e2 : l.dropWhile (· != c) = [] := by rw [dropWhile_nil]; exact List.all_eq_true.2 hall
    rw [e1, e2]
    rfl
theorem env_drew {B : Nat} {w : World} (h : Env B w) (q : Nat) : Env B (w.drewN q) := by
  obtain ⟨W0, h0, h1, h2⟩ := h
  exact ⟨W0, h0, h1, h2.trans (below_drewN (Below.refl _ _) q)⟩
theorem st_drew {b : Nat} {w : World} {s : ByteArray} {ts : List Tok} (h : St b w s ts) (q : Nat) : St b (w.drewN q) s ts := h.below (below_drewN (Below.refl _ _) q)
theorem cut_any (S C : ByteArray) (c : UInt8) (B : Nat) (w : World) (hC : C = ⟨#[c]⟩) (hs : S.size ≤ 20000) (hE : Env B w) :
    Calls Tryd.prog 13 #[.string S, .string C] w fun e w' => ∃ P R : ByteArray, e = .returned (.tuple #[.string P, .string R, .bool (S.data.toList.contains c)]) ∧
      P.data.toList = S.data.toList.takeWhile (· != c) ∧ R.data.toList = (S.data.toList.dropWhile (· != c)).drop 1 ∧ ∃ q, w' = w.drewN q := by
  subst hC
  obtain ⟨m, hm⟩ := hE.facts.max
  refine (Tryd.strings_Cut S ⟨#[c]⟩ m w (by omega) hm).mono ?_
  rintro e w' ⟨rfl, q, rfl⟩
  have e1 : Lib.cut S.data.toList (⟨#[c]⟩ : ByteArray).data.toList = Lib.cut S.data.toList [c] := rfl
  rw [e1, cut_one]
  exact ⟨_, _, rfl, by simp, by simp, q, rfl⟩

theorem encode_len (r : Int) : (Lib.encodeRune r).length ≤ 4 := by
  have := Lib.encodeRuneZ_length r
  unfold Lib.encodeRune
  simp; omega
theorem mapGo_len (f : Int → Int) : ∀ (n : Nat) (l : Bytes), (Lib.mapGoD f n l).length ≤ 4 * n
  | 0, _ => by simp [Lib.mapGoD]
  | n + 1, l => by
    unfold Lib.mapGoD
    split
    · simp
    · rw [List.length_append]
      have ih := mapGo_len f n (l.drop (Lib.decodeL l).2)
      have h4 : (if 0 ≤ f (Lib.decodeL l).1 then Lib.encodeRune (f (Lib.decodeL l).1) else []).length ≤ 4 := by
        split
        · exact encode_len _
        · simp
      omega
theorem lower_len (l : Bytes) : (Lib.toLowerD l).length ≤ 4 * l.length := mapGo_len _ _ _

/-- strings.ToLower, then sums.Raw. -/
theorem lower_any (S : ByteArray) (B : Nat) (w : World) (hs : S.size ≤ 20000) (hE : Env B w) :
    Calls Tryd.prog 27 #[.string S] w fun e w' => ∃ V : ByteArray, e = .returned (.string V) ∧ V.data.toList = Lib.toLowerD S.data.toList ∧ V.size ≤ 100000 ∧ Below w.heap.size w w' := by
  refine (Tryd.strings_ToLower_any S w (by omega) hE.facts.cases hE.facts.tabs).mono ?_
  rintro e w' ⟨rfl, hb⟩
  refine ⟨_, rfl, by simp, ?_, hb⟩
  have := lower_len S.data.toList
  rw [← Lib.size_eq] at this
  rw [Lib.size_eq]
  simp
  omega

theorem rawEnd_cases {t : Bytes} {e : Ending} (h : e = rawEnd t) : ∃ (D : ByteArray) (fine : Bool), e = .returned (.tuple #[.string D, .bool fine]) ∧ raw t = if fine = true then some D.data.toList else none := by
  unfold rawEnd at h
  cases hr : raw t with
  | none => rw [hr] at h; exact ⟨_, false, h, by simp⟩
  | some l => rw [hr] at h; exact ⟨_, true, h, by simp⟩
theorem bytes_model (s P V D : ByteArray) {ok fine : Bool} (hP : P.data.toList = (s.data.toList.drop 2).takeWhile (· != 39)) (hV : V.data.toList = Lib.toLowerD P.data.toList) (hok : (s.data.toList.drop 2).contains 39 = ok)
    (hD : raw V.data.toList = if fine = true then some D.data.toList else none) :
    ((ok = false ∨ fine = false ∨ 1000 < D.size) → bytesTok s.data.toList = none) ∧
    (ok = true → fine = true → ¬ 1000 < D.size → bytesTok s.data.toList = some (some ⟨kBytes, D.data.toList, 0⟩, (s.extract (P.size + 3) s.size).data.toList)) := by
  have e1 : bytesTok s.data.toList = if ok = true then (match (if fine = true then some D.data.toList else none) with | some b => if b.length ≤ 1000 then some (some ⟨kBytes, b, 0⟩, s.data.toList.drop (P.data.toList.length + 3)) else none | none => none) else none := by
    unfold bytesTok upToQuote
    dsimp only
    rw [← hP, hok, ← hV, hD]
    rfl
  rw [e1]
  have hDl := Lib.size_eq D
  refine ⟨?_, ?_⟩
  · rintro (h | h | h)
    · subst h; rfl
    · subst h; split <;> rfl
    · cases ok
      · rfl
      · cases fine
        · rfl
        · simp only [if_true]
          rw [if_neg (by omega)]
  · intro h1 h2 h3
    subst h1; subst h2
    simp only [if_true]
    rw [if_pos (by omega), rest_eq, Lib.size_eq P]
theorem takeWhile_lt {l : Bytes} {c : UInt8} (h : l.contains c = true) : (l.takeWhile (· != c)).length + 1 ≤ l.length := by
  induction l with
  | nil => simp at h
  | cons a l ih =>
    by_cases ha : a = c
    · subst ha; simp
    · have h3 : (c == a) = false := by simp [Ne.symm ha]
      rw [List.contains_cons, h3, Bool.false_or] at h
      have h2 : (a != c) = true := by simp [ha]
      rw [List.takeWhile_cons, if_pos h2]
      simp only [List.length_cons]
      have := ih h
      omega
theorem bytes_room (s P : ByteArray) (hP : P.data.toList = (s.data.toList.drop 2).takeWhile (· != 39)) (hok : (s.data.toList.drop 2).contains 39 = true) : P.size + 3 ≤ s.size := by
  have h := takeWhile_lt hok
  rw [← hP, List.length_drop, ← Lib.size_eq, ← Lib.size_eq] at h
  omega

set_option maxHeartbeats 1600000 in
set_option maxRecDepth 1000000 in
theorem bytes_any (b : Nat) (s : ByteArray) (ts : List Tok) (w : World) (h : St b w s ts) (hE : Env b w) (h2 : 2 ≤ s.size) :
    Calls Tryd.prog 14 #[.pointer (some ⟨b, 0, none⟩)] w (Did b w ts (bytesTok s.data.toList)) := by
  obtain ⟨c0, f0⟩ := h.cells
  have hsz := h.size
  go_enter Tryd.func14, Tryd.ntmps14
  go_wp2_with fail
  refine (cut_any _ _ 39 b _ ?hC ?hs hE).mono ?_
  case hC => rfl
  case hs => simp; omega
  rintro e w' ⟨P, R, rfl, hP, hR, q, rfl⟩
  rw [rest_eq] at hP hR
  rw [rest_eq]
  generalize hq : (List.drop 2 s.data.toList).contains 39 = ok
  have HP := Lib.hid (And.intro hP (And.intro hR hq))
  have hPs : P.size ≤ 20000 := by
    rw [Lib.size_eq, hP]
    have h1 : (List.takeWhile (fun x => x != 39) (List.drop 2 s.data.toList)).length ≤ (List.drop 2 s.data.toList).length := (List.takeWhile_sublist _).length_le
    rw [List.length_drop, ← Lib.size_eq] at h1
    omega
  clear hP hR hq
  have hE1 := env_drew hE q
  have h1 := st_drew h q
  go_wp2_with fail
  refine (lower_any P b _ hPs hE1).mono ?_
  rintro e w2 ⟨V, rfl, hV, hVs, hb2⟩
  have HV := Lib.hid hV
  clear hV
  go_wp2_with fail
  refine (raw_any V _ hVs).mono ?_
  rintro e w3 ⟨he, hb3⟩
  have h3 : St b w3 s ts := (h1.below hb2).below hb3
  have hb : Below b w w3 := ((below_drewN (Below.refl _ _) q).trans (hb2.mono (by have := h1.lt; omega))).trans (hb3.mono (by have := (h1.below hb2).lt; omega))
  obtain ⟨D, fine, rfl, hD⟩ := rawEnd_cases he
  clear hb2 hb3 h1 hE1 c0 f0
  have HD := Lib.hid hD
  clear hD
  have hPR := Lib.hid (bytes_model s P V D HP.out.1 HV.out HP.out.2.2 HD.out)
  cases ok with
  | false =>
    go_wp2_with fail
    go_ret
    exact did_no (hPR.out.1 (Or.inl (by first | trivial | rfl))) hb rfl
  | true =>
    cases fine with
    | false =>
      go_wp2_with fail
      go_ret
      exact did_no (hPR.out.1 (Or.inr (Or.inl (by first | trivial | rfl)))) hb rfl
    | true =>
      by_cases h1000 : 1000 < D.size
      · go_wp2_with fail
        go_ret
        exact did_no (hPR.out.1 (Or.inr (Or.inr h1000))) hb rfl
      · have hroom : P.size + 3 ≤ s.size := bytes_room s P HP.out.1 HP.out.2.2
        go_wp2_with fail
        refine (put_any b s _ _ 0 (P.size + 3) ts _ h3 (by omega) hroom).mono ?_
        rintro e w4 ⟨rfl, hs4, hb4⟩
        go_wp2
        go_ret
        exact did_yes (t := some ⟨kBytes, D.data.toList, 0⟩) (hPR.out.2 (by first | trivial | rfl) (by first | trivial | rfl) h1000) (hb.trans hb4) hs4 rfl
end Go.Proofs.YtemobkeogooecaaDoor.Lx
