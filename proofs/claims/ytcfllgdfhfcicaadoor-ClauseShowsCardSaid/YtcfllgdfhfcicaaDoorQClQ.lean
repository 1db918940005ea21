/- The words of a text of clauses, in plain Lean: by runes, by lines, by bytes. -/
import Derived.Lib.FieldsP
import Derived.Lib.MapLaws
import Derived.Lib.SpaceUEq
import Derived.Test.YtcfllgdfhfcicaaDoorQSplP
set_option linter.unusedSimpArgs false
set_option linter.unusedVariables false
namespace Go.Sp
open Go Go.Lib

/-- The pieces of a text between bytes of a kind. -/
def fldB (q : UInt8 → Bool) : List UInt8 → List UInt8 → List (List UInt8)
  | cur, [] => if cur = [] then [] else [cur]
  | cur, b :: l => if q b then (if cur = [] then fldB q [] l else cur :: fldB q [] l) else fldB q (cur ++ [b]) l

theorem fldB_skip (q : UInt8 → Bool) : ∀ (k : Nat) (cur l : List UInt8), k ≤ l.length → (∀ j, j < k → q (l.getD j 0) = false) → fldB q cur l = fldB q (cur ++ l.take k) (l.drop k)
  | 0, cur, l, _, _ => by simp
  | k + 1, cur, [], h, _ => by simp at h
  | k + 1, cur, b :: l, h, hq => by
    have h0 : q b = false := hq 0 (by omega)
    rw [show fldB q cur (b :: l) = fldB q (cur ++ [b]) l by simp [fldB, h0], fldB_skip q k (cur ++ [b]) l (by simp at h; omega) (fun j hj => by have := hq (j + 1) (by omega); simpa using this)]
    simp

/-- A rune is its byte, or all its bytes are great. -/
theorem dec_shape (s : ByteArray) (pos : Nat) :
    ((s.data.toList.getD pos 0).toNat < 128 ∧ Utf8.decode s pos = ((s.data.toList.getD pos 0).toNat, 1)) ∨
    (128 ≤ (Utf8.decode s pos).1 ∧ ∀ j, j < (Utf8.decode s pos).2 → 128 ≤ (s.data.toList.getD (pos + j) 0).toNat) := by
  rw [Lib.decode_N]
  generalize s.data.toList.length - pos = n
  have e1 : ∀ j, 4 ≤ j → ¬ j < 4 := fun j h => by omega
  by_cases h : (s.data.toList.getD pos 0).toNat < 128
  · exact .inl ⟨h, Lib.decodeN_ascii _ _ _ _ _ h⟩
  · right
    obtain ⟨c1, c2, c3, c4⟩ := Lib.decodeN_conts n (s.data.toList.getD pos 0).toNat (s.data.toList.getD (pos + 1) 0).toNat (s.data.toList.getD (pos + 2) 0).toNat (s.data.toList.getD (pos + 3) 0).toNat
    have hs := Lib.decodeN_shape n (s.data.toList.getD pos 0).toNat (s.data.toList.getD (pos + 1) 0).toNat (s.data.toList.getD (pos + 2) 0).toNat (s.data.toList.getD (pos + 3) 0).toNat
    refine ⟨?_, fun j hj => ?_⟩
    · rcases hs with ⟨hs, _⟩ | ⟨_, _, _, hs, e⟩ | ⟨_, _, _, _, hs, _, e⟩ | ⟨_, _, _, _, _, hs, _, e⟩ | e
      · exact absurd hs h
      · rw [e]; exact hs
      · rw [e]; show 128 ≤ _; omega
      · rw [e]; show 128 ≤ _; omega
      · rw [e]; decide
    · match j, hj with
      | 0, _ => rw [Nat.add_zero]; omega
      | 1, hj => have := c1 (by omega); omega
      | 2, hj => have := c2 (by omega); omega
      | 3, hj => have := c3 (by omega); omega
      | j + 4, hj => omega

theorem spansP_eq {q : UInt8 → Bool} {p : Nat → Bool} (hq : ∀ b : UInt8, b.toNat < 128 → p b.toNat = q b) (hp : ∀ r, 128 ≤ r → p r = false) (hh : ∀ b : UInt8, 128 ≤ b.toNat → q b = false) (s : ByteArray) :
    ∀ (f pos : Nat) (st : Option Nat) (acc : List (Nat × Nat)), s.size ≤ pos + f → pos ≤ s.size → (∀ a, st = some a → a < pos) →
    acc.map (fun p => pieceU s.data.toList p.1 p.2) ++ fldB q (openPiece s.data.toList st pos) (s.data.toList.drop pos) = (closeSpans s (spansFromP p s f pos st acc)).map (fun p => pieceU s.data.toList p.1 p.2) := by
  have hend : ∀ (f : Nat) (st : Option Nat) (acc : List (Nat × Nat)), (∀ a, st = some a → a < s.size) →
      acc.map (fun p => pieceU s.data.toList p.1 p.2) ++ fldB q (openPiece s.data.toList st s.size) (s.data.toList.drop s.size) = (closeSpans s (spansFromP p s f s.size st acc)).map (fun p => pieceU s.data.toList p.1 p.2) := by
    intro f st acc hst
    have hd : s.data.toList.drop s.size = [] := List.drop_eq_nil_of_le (by rw [← size_eq]; exact Nat.le_refl _)
    rw [hd, spansFromP_end p s _ _ _ _ (Nat.lt_irrefl _)]
    cases st with
    | none => simp [closeSpans, openPiece, fldB]
    | some a =>
      have := pieceU_ne s.data.toList a s.size (hst a rfl) (by rw [← size_eq]; exact Nat.le_refl _)
      simp [closeSpans, openPiece, fldB, this]
  intro f
  induction f with
  | zero =>
    intro pos st acc h hps hst
    obtain rfl : pos = s.size := by omega
    exact hend 0 st acc hst
  | succ f ih =>
    intro pos st acc h hps hst
    by_cases hlt : pos < s.size
    · have hl : pos < s.data.toList.length := by rw [← size_eq]; exact hlt
      have hw := width_pos s pos
      have hwn : pos + (Utf8.decode s pos).2 ≤ s.size := by
        have := decodeN_le_n' (s.size - pos) (s.get! pos).toNat (s.get! (pos + 1)).toNat (s.get! (pos + 2)).toNat (s.get! (pos + 3)).toNat (by omega)
        rw [← decode_at] at this
        omega
      have hdr : s.data.toList.drop pos = s.data.toList.getD pos 0 :: s.data.toList.drop (pos + 1) := by
        rw [List.drop_eq_getElem_cons hl, List.getD_eq_getElem?_getD, List.getElem?_eq_getElem hl]; rfl
      simp only [spansFromP, if_pos hlt]
      cases hsp : p (Utf8.decode s pos).1 with
      | true =>
        rcases dec_shape s pos with ⟨h1, h2⟩ | ⟨h1, _⟩
        · rw [h2] at hsp hw hwn
          rw [h2, hdr]
          have hqb : q (s.data.toList.getD pos 0) = true := by rw [← hq _ h1]; exact hsp
          simp only [if_true]
          cases st with
          | none =>
            have ih := ih (pos + 1) none acc (by omega) hwn (fun a h => by cases h)
            simpa only [openPiece, fldB, hqb, if_true] using ih
          | some a =>
            have hpn := pieceU_ne s.data.toList a pos (hst a rfl) (by omega)
            have ih := ih (pos + 1) none (acc ++ [(a, pos)]) (by omega) hwn (fun a h => by cases h)
            simp only [openPiece, fldB, hqb, hpn, if_true, if_false]
            simpa [openPiece, -List.getD_eq_getElem?_getD] using ih
        · rw [hp _ h1] at hsp; cases hsp
      | false =>
        simp only [Bool.false_eq_true, if_false]
        have hqs : ∀ j, j < (Utf8.decode s pos).2 → q ((s.data.toList.drop pos).getD j 0) = false := fun j hj => by
          rw [getD_dropU]
          rcases dec_shape s pos with ⟨h1, h2⟩ | ⟨_, h2⟩
          · rw [h2] at hj hsp
            obtain rfl : j = 0 := by simp only at hj; omega
            rw [Nat.add_zero, ← hq _ h1]; exact hsp
          · exact hh _ (h2 j hj)
        rw [fldB_skip q (Utf8.decode s pos).2 _ _ (by rw [List.length_drop, ← size_eq]; omega) hqs, List.drop_drop]
        cases st with
        | none =>
          have ih := ih (pos + (Utf8.decode s pos).2) (some pos) acc (by omega) hwn (fun a h => by cases h; omega)
          have e : ([] : List UInt8) ++ (s.data.toList.drop pos).take (Utf8.decode s pos).2 = pieceU s.data.toList pos (pos + (Utf8.decode s pos).2) := by
            unfold pieceU
            rw [List.nil_append, Nat.add_sub_cancel_left]
          simp only [openPiece] at ih ⊢
          rw [e]
          exact ih
        | some a =>
          have ih := ih (pos + (Utf8.decode s pos).2) (some a) acc (by omega) hwn (fun b h => by cases h; have := hst a rfl; omega)
          simp only [openPiece] at ih ⊢
          rw [pieceU_grow _ _ _ _ (Nat.le_of_lt (hst a rfl))]
          exact ih
    · obtain rfl : pos = s.size := by omega
      exact hend (f + 1) st acc hst

theorem goFieldsP_bytes {q : UInt8 → Bool} {p : Nat → Bool} (hq : ∀ b : UInt8, b.toNat < 128 → p b.toNat = q b) (hp : ∀ r, 128 ≤ r → p r = false) (hh : ∀ b : UInt8, 128 ≤ b.toNat → q b = false) (s : ByteArray) :
    (goFieldsP p s).map (·.data.toList) = fldB q [] s.data.toList := by
  have h := spansP_eq hq hp hh s s.size 0 none [] (by omega) (Nat.zero_le _) (fun a h => by cases h)
  simp only [List.map_nil, List.nil_append, List.drop_zero, openPiece] at h
  rw [h]
  unfold goFieldsP spansOfP
  rw [List.map_map]
  refine List.map_congr_left fun x _ => ?_
  show (s.extract x.1 x.2).data.toList = _
  rw [extract_data]
  rfl

/-- Blanks in a line. -/
def blB (b : UInt8) : Bool := b == 32 || b == 9 || b == 13
/-- A line's words: none if it begins with c. -/
def lineW (l : List UInt8) : List (List UInt8) := if l.head? = some 99 then [] else fldB blB [] l
def wordsF (s : List UInt8) : List (List UInt8) := (spL 10 s).flatMap lineW

/-- The words that are still to come, byte by byte. -/
def restW : Bool → Bool → List UInt8 → List UInt8 → List (List UInt8)
  | _, _, cur, [] => if cur = [] then [] else [cur]
  | bg, sk, cur, b :: l =>
    if blB b || b == 10 then (if cur = [] then restW (b == 10) (if bg then b == 99 else sk) [] l else cur :: restW (b == 10) (if bg then b == 99 else sk) [] l)
    else if (if bg then b == 99 else sk) then restW false (if bg then b == 99 else sk) cur l
    else restW false (if bg then b == 99 else sk) (cur ++ [b]) l

theorem spL_line (l : List UInt8) : spL 10 (10 :: l) = [] :: spL 10 l := by simp [spL]
theorem spL_byte {b : UInt8} (h : b ≠ 10) (l : List UInt8) {w : List UInt8} {ws : List (List UInt8)} (e : spL 10 l = w :: ws) : spL 10 (b :: l) = (b :: w) :: ws := by
  simp [spL, h, e]

theorem rest_all : ∀ (l : List UInt8),
    (∀ w ws, spL 10 l = w :: ws → (∀ cur, restW false false cur l = fldB blB cur w ++ ws.flatMap lineW) ∧ restW false true [] l = ws.flatMap lineW) ∧
    (∀ sk, restW true sk [] l = (spL 10 l).flatMap lineW)
  | [] => by
    refine ⟨fun w ws h => ?_, fun sk => rfl⟩
    cases h
    exact ⟨fun cur => by simp [restW, fldB], rfl⟩
  | b :: l => by
    obtain ⟨ih1, ih2⟩ := rest_all l
    have hne := spL_ne 10 l
    obtain ⟨w', ws', e⟩ : ∃ w ws, spL 10 l = w :: ws := by
      cases h : spL 10 l with
      | nil => exact absurd h hne
      | cons w ws => exact ⟨w, ws, rfl⟩
    obtain ⟨i1, i2⟩ := ih1 w' ws' e
    by_cases hb : b = 10
    · subst hb
      rw [spL_line]
      refine ⟨fun w ws h => ?_, fun sk => ?_⟩
      · obtain ⟨rfl, rfl⟩ := List.cons.inj h
        refine ⟨fun cur => ?_, ?_⟩
        · have := ih2 false
          by_cases hc : cur = []
          · subst hc; simpa [restW, fldB, blB] using this
          · simpa [restW, fldB, blB, hc] using this
        · have := ih2 true
          simpa [restW, blB] using this
      · have := ih2 false
        simpa [restW, blB, lineW, fldB] using this
    · rw [spL_byte hb l e]
      have hb' : (b == 10) = false := by rw [beq_eq_false_iff_ne]; exact hb
      have key : ∀ cur, restW false false cur (b :: l) = fldB blB cur (b :: w') ++ ws'.flatMap lineW := fun cur => by
        by_cases hs : blB b = true
        · by_cases hc : cur = []
          · subst hc; simpa [restW, fldB, hs, hb'] using i1 []
          · simpa [restW, fldB, hs, hb', hc] using i1 []
        · simpa [restW, fldB, hs, hb', hb] using i1 (cur ++ [b])
      refine ⟨fun w ws h => ?_, fun sk => ?_⟩
      · obtain ⟨rfl, rfl⟩ := List.cons.inj h
        refine ⟨key, ?_⟩
        by_cases hs : blB b = true
        · simpa [restW, hs, hb'] using i2
        · simpa [restW, hs, hb', hb] using i2
      · by_cases h99 : b = 99
        · subst h99
          simpa [restW, blB, lineW] using i2
        · have h99' : (b == 99) = false := by rw [beq_eq_false_iff_ne]; exact h99
          have hl : lineW (b :: w') = fldB blB [] (b :: w') := by
            unfold lineW
            rw [if_neg (by simpa using h99)]
          rw [List.flatMap_cons, hl, ← key []]
          by_cases hs : blB b = true
          · simp [restW, hs, hb', h99']
          · simp [restW, hs, hb', hb, h99']

theorem words_rest (s : List UInt8) : wordsF s = restW true false [] s := ((rest_all s).2 false).symm

end Go.Sp
