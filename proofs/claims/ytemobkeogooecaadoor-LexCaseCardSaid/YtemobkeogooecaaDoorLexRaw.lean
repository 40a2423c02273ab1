/-
  The contract of sums.Raw.
-/
import Derived.Test.YtemobkeogooecaaDoorLexNumber
import Derived.StillTailTactics
import Derived.Deep.RegionWith
import Derived.BigQuiet
import Derived.BigRegion
namespace Go.Proofs.YtemobkeogooecaaDoor.Lx
open Go.RowKit Go.Lib

def strLen : Value → Nat | .string s => s.size | _ => 0
def hexIdx (x : UInt8) : Int := Lib.indexByte cHex x
theorem hex_index (S : ByteArray) (x : UInt8) (w : World) (hS : S = ⟨cHex.toArray⟩) :
    Calls Tryd.prog 10 #[.string S, .int .u8 x.toNat] w fun e w' => e = .returned (.int .i64 (hexIdx x)) ∧ w' = w := by
  subst hS
  refine (Tryd.strings_IndexByte _ _ _).mono ?_
  rintro e w' ⟨rfl, rfl⟩
  exact ⟨by simp [hexIdx], rfl⟩

/-- What the loop holds: the builder's bytes and what is left give the whole. -/
def RawRel (B : Nat) (t : Bytes) (w : World) (S : ByteArray) (wr : World) : Prop :=
  ∃ acc : Bytes, acc ++ pairs S.data.toList = pairs t ∧ S.size % 2 = 0 ∧ S.data.toList.all (cHex.contains ·) = true ∧ acc.length + S.size ≤ 100000 ∧
    Lib.IsBuilder 57 5 B B (Lib.byteCells acc) wr ∧ Below B w wr

theorem raw_start {w1 : World} {s : ByteArray} (hall : s.data.toList.all (cHex.contains ·) = true) (heven : s.size % 2 = 0) (hs : s.size ≤ 100000) :
    RawRel w1.heap.size s.data.toList w1 s (w1.alloc (.cells #[.pointer none, .slice none 0 0] 57)) := by
  refine ⟨[], by simp, heven, hall, by simpa using hs, Or.inl ⟨Nat.le_refl _, .slice none 0 0, heap_alloc_new _ _, World.ownsRow_nil _ _ _ _, by simp [Value.ownBlock]⟩, (Below.refl _ _).alloc (Nat.le_refl _) _⟩

theorem hexIdx_bounds (x : UInt8) : -1 ≤ hexIdx x ∧ hexIdx x < 16 := by
  have h1 := Lib.indexByte_ge cHex x
  refine ⟨h1, ?_⟩
  unfold hexIdx
  have : ∀ (l : Bytes), Lib.indexByte l x < l.length ∨ Lib.indexByte l x = -1 := fun l => by
    induction l with
    | nil => exact Or.inr rfl
    | cons a l ih =>
      unfold Lib.indexByte
      simp only [List.length_cons]
      split
      · left; omega
      · split
        · exact Or.inr rfl
        · left; rename_i h; simp at h; omega
  rcases this cHex with h | h
  · have e : cHex.length = 16 := rfl
    omega
  · omega
theorem hex_word : ∀ x ∈ cHex, ∀ y ∈ cHex, IntKind.u8.wrap (bits BinOp.or IntKind.i64 (hexIdx x * 16) (hexIdx y)) = ((UInt8.ofNat ((cHex.idxOf x * 16 + cHex.idxOf y) % 256)).toNat : Int) := by decide +kernel
theorem raw_end {acc t : Bytes} {S : ByteArray} (h : acc ++ pairs S.data.toList = pairs t) (he : S.toList.isEmpty = true) : acc = pairs t := by
  rw [Lib.toList_data] at he
  have : S.data.toList = [] := by simpa using he
  rw [this] at h
  simpa [pairs] using h
theorem raw_step {B : Nat} {t : Bytes} {w w2 : World} {S : ByteArray} {x y : UInt8} {r acc : Bytes} (hd : S.data.toList = x :: y :: r) (hacc : acc ++ pairs S.data.toList = pairs t) (hev : S.size % 2 = 0)
    (hall : S.data.toList.all (cHex.contains ·) = true) (hlen : acc.length + S.size ≤ 100000)
    (hA : Lib.BuilderAt 57 5 B B (.pointer (some ⟨B, 0, none⟩)) (byteCells acc ++ [.int .u8 (IntKind.u8.wrap (bits BinOp.or IntKind.i64 (hexIdx x * 16) (hexIdx y)))]) w2) (hb : Below B w w2) :
    RawRel B t w (S.extract 2 S.size) w2 := by
  have hsz : S.size = r.length + 2 := by rw [Lib.size_eq, hd]; rfl
  have he : (S.extract 2 S.size).data.toList = r := by rw [rest_eq, hd]; rfl
  have hs2 : (S.extract 2 S.size).size = r.length := by rw [Lib.size_eq, he]
  rw [hd] at hall hacc
  simp only [List.all_cons, Bool.and_eq_true] at hall
  obtain ⟨hx, hy, hr⟩ := hall
  refine ⟨acc ++ [UInt8.ofNat ((cHex.idxOf x * 16 + cHex.idxOf y) % 256)], ?_, by omega, by rw [he]; exact hr, by simp; omega, Or.inr ?_, hb⟩
  · rw [he, ← hacc, List.append_assoc]; rfl
  · rw [hex_word x (by simpa using hx) y (by simpa using hy)] at hA
    simpa [byteCells] using hA
theorem two_left {B : Nat} {t : Bytes} {w wr : World} {S : ByteArray} (h : RawRel B t w S wr) (he : S.toList.isEmpty = false) :
    ∃ (x y : UInt8) (r : Bytes) (h0 : 0 < S.size) (h1 : 1 < S.size), S.data.toList = x :: y :: r ∧ S[0] = x ∧ S[1] = y := by
  obtain ⟨_, _, hev, _⟩ := h
  rw [Lib.toList_data] at he
  match hd : S.data.toList with
  | [] => rw [hd] at he; simp at he
  | [x] => rw [Lib.size_eq, hd] at hev; simp at hev
  | x :: y :: r =>
    have hsz : S.size = r.length + 2 := by rw [Lib.size_eq, hd]; rfl
    refine ⟨x, y, r, by omega, by omega, rfl, ?_, ?_⟩
    · have h1 := Lib.data_getElem? S 0 (by omega)
      rw [hd] at h1
      simpa using h1.symm
    · have h1 := Lib.data_getElem? S 1 (by omega)
      rw [hd] at h1
      simpa using h1.symm

set_option maxHeartbeats 1600000 in
set_option maxRecDepth 1000000 in
theorem raw_yes (s : ByteArray) (w : World) (hs : s.size ≤ 100000) (heven : s.size % 2 = 0) (hall : s.data.toList.all (cHex.contains ·) = true) :
    Calls Tryd.prog 26 #[.string s] w fun e w' => e = .returned (.tuple #[.string ⟨(pairs s.data.toList).toArray⟩, .bool true]) ∧ Below w.heap.size w w' := by
  have Hall := Lib.hid hall
  have Heven := Lib.hid heven
  have h1 : ((s.size : Int) % 2 == 0) = true := by rw [beq_iff_eq]; omega
  have h1' : ((s.size : Int) % 2 != 0) = false := by simp; omega
  clear hall heven
  go_enter Tryd.func26, Tryd.ntmps26
  go_wp2_with fail
  refine (trim_any s _ cHex _ hs ?hD (by decide) (by decide)).mono ?_
  case hD => decide +kernel
  rintro e w1 ⟨V, rfl, hV, hb1⟩
  have hVe : V.toList.isEmpty = true := by rw [Lib.toList_data, hV.2 Hall.out]; rfl
  clear hV
  go_wp2
  go_loopw [0] (fun x wr => ∃ S : ByteArray, x = .string S ∧ RawRel w1.heap.size s.data.toList w1 S wr) (fun x _ => strLen x)
  case atStart => exact ⟨s, rfl, raw_start Hall.out Heven.out hs⟩
  case round =>
    obtain ⟨S, rfl, hR⟩ := hrel
    cases hSe : S.toList.isEmpty with
    | true =>
      have hRt := hR
      obtain ⟨acc, hacc, _, _, hlen, hI, hbl⟩ := hR
      have HR := Lib.hid hacc
      have hbw : w1.heap.size ≤ wr.heap.size := by have := hbl.size; simpa using this
      clear hacc
      go_wp2_with fail
      refine (Tryd.Builder_String_any w1.heap.size w1.heap.size acc wr hI hbw).mono ?_
      rintro e w2 ⟨rfl, hb2⟩
      go_wp2
      go_ret2
      exact ⟨by rw [raw_end HR.out hSe]; rfl, hb1.trans ((hbl.trans hb2).mono hb1.size)⟩
    | false =>
      obtain ⟨x, y, r, h0s, h1s, hd, hx, hy⟩ := two_left hR hSe
      have Hd := Lib.hid hd
      obtain ⟨hix0, hix1⟩ := hexIdx_bounds x
      obtain ⟨hiy0, hiy1⟩ := hexIdx_bounds y
      clear hd
      have hi1 : (1 : Int) < (S.size : Int) := by omega
      have hw : IntKind.i64.wrap (hexIdx x * 16) = hexIdx x * 16 := by rw [IntKind.wrap_i64]; omega
      go_wp2_with fail
      refine wp_region_still_tail 9 (by kernel_rfl) (by kernel_rfl) ?_
      simp only [List.take_succ_cons, List.take_zero, List.drop_succ_cons, List.drop_zero]
      still_step
      still_step
      still_call (hex_index _ x _ (by decide +kernel))
      repeat still_step
      still_call (hex_index _ y _ (by decide +kernel))
      repeat still_step
      refine wpStill_nil ?_
      change wpList _ _ _ _ _ wr.drew
      obtain ⟨acc, hacc, hev, hall, hlen, hI, hbl⟩ := hR
      have HR := Lib.hid (And.intro hacc (And.intro hev hall))
      clear hacc hev hall
      go_wp2_with fail
      refine (Tryd.Builder_WriteByte w1.heap.size w1.heap.size (byteCells acc) _ wr.drew hI (by simp [byteCells]; omega) (by have := hbl.size; simpa using this)).mono ?_
      rintro e w2 ⟨rfl, hA2, hb2⟩
      have hR2 := raw_step Hd.out HR.out.1 HR.out.2.1 HR.out.2.2 hlen hA2 (hbl.drew.trans hb2)
      clear hI hA2 hb2 hbl hw hi1
      go_wp2
      go_roundw
      case rel => exact ⟨_, rfl, hR2⟩
      case measure => simp [strLen]; omega

set_option maxHeartbeats 1600000 in
set_option maxRecDepth 1000000 in
theorem raw_odd (s : ByteArray) (w : World) (hs : s.size ≤ 100000) (hodd : s.size % 2 = 1) :
    Calls Tryd.prog 26 #[.string s] w fun e w' => e = .returned (.tuple #[.string ⟨#[]⟩, .bool false]) ∧ Below w.heap.size w w' := by
  have h1 : ((s.size : Int) % 2 == 0) = false := by simp; omega
  have h1' : ((s.size : Int) % 2 != 0) = true := by simp; omega
  clear hodd
  go_enter Tryd.func26, Tryd.ntmps26
  go_wp2_with fail
  go_ret2
  exact ⟨rfl, Below.refl _ _⟩

set_option maxHeartbeats 1600000 in
set_option maxRecDepth 1000000 in
theorem raw_not (s : ByteArray) (w : World) (hs : s.size ≤ 100000) (heven : s.size % 2 = 0) (hall : ¬ s.data.toList.all (cHex.contains ·) = true) :
    Calls Tryd.prog 26 #[.string s] w fun e w' => e = .returned (.tuple #[.string ⟨#[]⟩, .bool false]) ∧ Below w.heap.size w w' := by
  have Hall := Lib.hid hall
  have h1 : ((s.size : Int) % 2 == 0) = true := by rw [beq_iff_eq]; omega
  have h1' : ((s.size : Int) % 2 != 0) = false := by simp; omega
  clear hall heven
  go_enter Tryd.func26, Tryd.ntmps26
  go_wp2_with fail
  refine (trim_any s _ cHex _ hs ?hD (by decide) (by decide)).mono ?_
  case hD => decide +kernel
  rintro e w1 ⟨V, rfl, hV, hb1⟩
  have hVe : V.toList.isEmpty = false := by
    cases h : V.toList.isEmpty with
    | false => rfl
    | true => rw [Lib.toList_data] at h; exact absurd (hV.1 (by simpa using h)) Hall.out
  clear hV
  go_wp2_with fail
  go_ret2
  exact ⟨rfl, hb1⟩

/-- What sums.Raw hands back. -/
def rawEnd (t : Bytes) : Ending :=
  match raw t with
  | some b => .returned (.tuple #[.string ⟨b.toArray⟩, .bool true])
  | none => .returned (.tuple #[.string ⟨#[]⟩, .bool false])
theorem raw_any (s : ByteArray) (w : World) (hs : s.size ≤ 100000) :
    Calls Tryd.prog 26 #[.string s] w fun e w' => e = rawEnd s.data.toList ∧ Below w.heap.size w w' := by
  have hl := Lib.size_eq s
  by_cases h0 : s.size % 2 = 0
  · by_cases hall : s.data.toList.all (cHex.contains ·) = true
    · have e : rawEnd s.data.toList = .returned (.tuple #[.string ⟨(pairs s.data.toList).toArray⟩, .bool true]) := by
        unfold rawEnd raw; rw [if_pos ⟨by rw [← hl]; exact h0, hall⟩]
      rw [e]; exact raw_yes s w hs h0 hall
    · have e : rawEnd s.data.toList = .returned (.tuple #[.string ⟨#[]⟩, .bool false]) := by
        unfold rawEnd raw; rw [if_neg (fun h => hall h.2)]
      rw [e]; exact raw_not s w hs h0 hall
  · have e : rawEnd s.data.toList = .returned (.tuple #[.string ⟨#[]⟩, .bool false]) := by
      unfold rawEnd raw; rw [if_neg (fun h => h0 (by rw [hl]; exact h.1))]
    rw [e]; exact raw_odd s w hs (by omega)
end Go.Proofs.YtemobkeogooecaaDoor.Lx
