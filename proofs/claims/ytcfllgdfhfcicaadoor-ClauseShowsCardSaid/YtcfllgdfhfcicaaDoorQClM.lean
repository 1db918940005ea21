/- The text of clauses is read as them, in plain Lean. -/
import Derived.Test.YtcfllgdfhfcicaaDoorQClN
import Derived.Test.YtcfllgdfhfcicaaDoorQCn5
set_option linter.unusedSimpArgs false
set_option linter.unusedVariables false
namespace Go.Proofs.YtcfllgdfhfcicaaDoor
open Go Go.Sp Go.Cl
set_option maxRecDepth 100000

/-- A word: neither empty nor with a blank or a line's end. -/
def Wd (w : List UInt8) : Prop := w ≠ [] ∧ ∀ b ∈ w, blB b = false ∧ b ≠ 10

theorem fldB_word {w : List UInt8} (h : Wd w) (l : List UInt8) : fldB blB [] (w ++ 32 :: l) = w :: fldB blB [] l := by
  rw [fldB_skip blB w.length [] _ (by simp) (fun j hj => by
    rw [List.getD_eq_getElem?_getD, List.getElem?_append_left hj, List.getElem?_eq_getElem hj]
    exact (h.2 _ (List.getElem_mem hj)).1)]
  rw [List.take_left, List.drop_left, List.nil_append]
  have : blB 32 = true := by decide
  simp [fldB, this, h.1]

theorem fldB_last {w : List UInt8} (h : Wd w) : fldB blB [] w = [w] := by
  have := fldB_skip blB w.length [] w (Nat.le_refl _) (fun j hj => by
    rw [List.getD_eq_getElem?_getD, List.getElem?_eq_getElem hj]
    exact (h.2 _ (List.getElem_mem hj)).1)
  rw [this, List.take_length, List.drop_length, List.nil_append]
  simp [fldB, h.1]

theorem fldB_words : ∀ (ws : List (List UInt8)) {z : List UInt8}, (∀ w ∈ ws, Wd w) → Wd z → fldB blB [] ((ws.flatMap fun w => w ++ [32]) ++ z) = ws ++ [z]
  | [], z, _, hz => fldB_last hz
  | w :: ws, z, h, hz => by
    rw [List.flatMap_cons, List.append_assoc, List.append_assoc, List.singleton_append, fldB_word (h w (List.mem_cons_self ..)), fldB_words ws (fun x hx => h x (List.mem_cons_of_mem _ hx)) hz]
    rfl

theorem wd_digits (u : Nat) : Wd (Lib.decDigits u) ∧ ∀ b ∈ Lib.decDigits u, b.toNat < 58 := by
  have hp := decDigits_props u
  have hb : ∀ b ∈ Lib.decDigits u, 48 ≤ b.toNat ∧ b.toNat ≤ 57 := fun b h => of_decide_eq_true (List.all_eq_true.1 hp.1 b h)
  refine ⟨⟨fun e => by rw [e] at hp; exact absurd hp.2.2 (by simp), fun b h => ?_⟩, fun b h => by have := hb b h; omega⟩
  have h1 := hb b h
  have key : ∀ c : UInt8, c.toNat < 48 → b ≠ c := fun c hc e => by rw [e] at h1; omega
  refine ⟨?_, key 10 (by decide)⟩
  unfold blB
  rw [beq_eq_false_iff_ne.2 (key 32 (by decide)), beq_eq_false_iff_ne.2 (key 9 (by decide)), beq_eq_false_iff_ne.2 (key 13 (by decide))]
  rfl

theorem wd_itoa (n : Int) : Wd (Lib.itoa n) ∧ ∀ b ∈ Lib.itoa n, b.toNat < 58 := by
  unfold Lib.itoa
  split
  · have h := wd_digits n.natAbs
    refine ⟨⟨by simp, fun b hb => ?_⟩, fun b hb => ?_⟩
    · rcases List.mem_cons.1 hb with rfl | hb
      · exact ⟨by decide, by decide⟩
      · exact h.1.2 b hb
    · rcases List.mem_cons.1 hb with rfl | hb
      · decide
      · exact h.2 b hb
  · exact wd_digits n.toNat

theorem wd_zero : Wd [48] := ⟨by simp, fun b hb => by rw [List.mem_singleton.1 hb]; decide⟩

theorem flat_no10 {ws : List (List UInt8)} {z : List UInt8} (h : ∀ w ∈ ws, Wd w) (hz : Wd z) : ∀ b ∈ (ws.flatMap fun w => w ++ [32]) ++ z, b ≠ 10 := by
  intro b hb
  rcases List.mem_append.1 hb with hb | hb
  · obtain ⟨w, hw, hb⟩ := List.mem_flatMap.1 hb
    rcases List.mem_append.1 hb with hb | hb
    · exact ((h w hw).2 b hb).2
    · rw [List.mem_singleton.1 hb]; decide
  · exact (hz.2 b hb).2

theorem line_flat (c : List Int) : lineT c ++ [48] = ((c.map Lib.itoa).flatMap fun w => w ++ [32]) ++ [48] := by
  unfold lineT
  rw [List.flatMap_map]

theorem line_words (c : List Int) : lineW (lineT c ++ [48]) = c.map Lib.itoa ++ [[48]] := by
  unfold lineW
  rw [if_neg, line_flat, fldB_words _ (fun w hw => ?_) wd_zero]
  · obtain ⟨l, _, rfl⟩ := List.mem_map.1 hw
    exact (wd_itoa l).1
  · intro h
    have hm : (99 : UInt8) ∈ lineT c ++ [48] := List.mem_of_mem_head? h
    rcases List.mem_append.1 hm with hm | hm
    · obtain ⟨l, _, hm⟩ := List.mem_flatMap.1 hm
      rcases List.mem_append.1 hm with hm | hm
      · exact absurd ((wd_itoa l).2 _ hm) (by decide)
      · simp at hm
    · simp at hm

theorem body_words : ∀ cs : List (List Int), (spL 10 (bodyC cs)).flatMap lineW = cs.flatMap fun c => c.map Lib.itoa ++ [[48]]
  | [] => rfl
  | c :: cs => by
    have e : bodyC (c :: cs) = (lineT c ++ [48]) ++ 10 :: bodyC cs := by
      unfold bodyC
      rw [List.flatMap_cons]
      simp
    have hn : ∀ b ∈ lineT c ++ [48], b ≠ 10 := by
      rw [line_flat]
      refine flat_no10 (fun w hw => ?_) wd_zero
      obtain ⟨l, _, rfl⟩ := List.mem_map.1 hw
      exact (wd_itoa l).1
    rw [e, spL_app _ hn, List.flatMap_cons, body_words cs, line_words, List.flatMap_cons]

def headW (cs : List (List Int)) : List (List UInt8) := [[112], [99, 110, 102], Lib.itoa (greatL cs), Lib.itoa cs.length]

theorem show_words (cs : List (List Int)) : wordsF (headT cs ++ bodyC cs) = headW cs ++ cs.flatMap fun c => c.map Lib.itoa ++ [[48]] := by
  have e : headT cs = (([[112], [99, 110, 102], Lib.itoa (greatL cs)] : List (List UInt8)).flatMap fun w => w ++ [32]) ++ Lib.itoa cs.length ++ [10] := by
    unfold headT
    simp
  have hw : ∀ w ∈ ([[112], [99, 110, 102], Lib.itoa (greatL cs)] : List (List UInt8)), Wd w := by
    intro w hw
    simp only [List.mem_cons, List.not_mem_nil, or_false] at hw
    rcases hw with rfl | rfl | rfl
    · exact ⟨by simp, fun b hb => by rw [List.mem_singleton.1 hb]; decide⟩
    · exact ⟨by simp, by decide⟩
    · exact (wd_itoa _).1
  unfold wordsF
  rw [e, List.append_assoc, List.singleton_append, spL_app _ (flat_no10 hw (wd_itoa _).1), List.flatMap_cons, body_words]
  congr 1
  unfold lineW
  rw [if_neg (by simp), fldB_words _ hw (wd_itoa _).1]
  rfl

theorem numP_digits {u : Nat} (h : u ≤ 999999) : numP (Lib.decDigits u) = ((u : Int), true) := by
  have hp := decDigits_props u
  have hl := decDigits_six 5 u (by omega)
  unfold numP
  rw [if_pos ⟨hp.2.2, hl, hp.1⟩, hp.2.1]

theorem numP_itoa {n : Int} (h0 : 0 ≤ n) (h : n ≤ 999999) : numP (Lib.itoa n) = (n, true) := by
  unfold Lib.itoa
  rw [if_neg (by omega), numP_digits (by omega), Int.toNat_of_nonneg h0]

theorem numR_itoa {n : Int} (h0 : -999999 ≤ n) (h : n ≤ 999999) : numR (Lib.itoa n) = (n, true) := by
  by_cases hn : n < 0
  · have e : Lib.itoa n = 45 :: Lib.decDigits n.natAbs := by unfold Lib.itoa; rw [if_pos hn]
    have hp := numP_digits (u := n.natAbs) (by omega)
    unfold numR
    rw [e, if_pos (show (45 :: Lib.decDigits n.natAbs).head? = some 45 from rfl), show (45 :: Lib.decDigits n.natAbs).drop 1 = Lib.decDigits n.natAbs from rfl, hp, if_pos ⟨rfl, by show ((n.natAbs : Nat) : Int) ≠ 0; omega⟩, show -((n.natAbs : Nat) : Int) = n by omega]
  · have := numP_itoa (n := n) (by omega) h
    rw [num_same (by rw [this]), this]

theorem lit_itoa {v l : Int} (h : litB l = true) (hv : absI l ≤ v) : litF v (Lib.itoa l) = some l := by
  have h1 := (lit_iff l).1 h
  unfold litF
  rw [numR_itoa (by omega) (by omega), if_pos ⟨rfl, .inr ⟨h, hv⟩⟩]

theorem lit_zero (v : Int) : litF v [48] = some 0 := by
  unfold litF
  rw [show numR [48] = (0, true) by decide, if_pos ⟨rfl, .inl rfl⟩]

theorem goP_clause (v : Int) (ws : List (List UInt8)) (out : List (List Int)) : ∀ (c now : List Int), (∀ l ∈ c, litB l = true ∧ absI l ≤ v) → goP v (c.map Lib.itoa ++ [48] :: ws) out now = goP v ws (out ++ [now ++ c]) []
  | [], now, _ => by
    show (match litF v [48] with | none => none | some l => if l = 0 then goP v ws (out ++ [now]) [] else goP v ws out (now ++ [l])) = _
    rw [lit_zero, List.append_nil]
    rfl
  | l :: c, now, h => by
    have hl := h l (List.mem_cons_self ..)
    show (match litF v (Lib.itoa l) with | none => none | some x => if x = 0 then goP v (c.map Lib.itoa ++ [48] :: ws) (out ++ [now]) [] else goP v (c.map Lib.itoa ++ [48] :: ws) out (now ++ [x])) = _
    rw [lit_itoa hl.1 hl.2]
    show (if l = 0 then _ else _) = _
    rw [if_neg ((lit_iff l).1 hl.1).1, goP_clause v ws out c (now ++ [l]) (fun x hx => h x (List.mem_cons_of_mem _ hx)), List.append_assoc]
    rfl

theorem goP_all (v : Int) : ∀ (cs out : List (List Int)), (∀ c ∈ cs, ∀ l ∈ c, litB l = true ∧ absI l ≤ v) → goP v (cs.flatMap fun c => c.map Lib.itoa ++ [[48]]) out [] = some (out ++ cs, [])
  | [], out, _ => by simp [goP]
  | c :: cs, out, h => by
    rw [List.flatMap_cons, List.append_assoc, List.singleton_append, goP_clause v _ out c [] (h c (List.mem_cons_self ..)), goP_all v cs _ (fun x hx => h x (List.mem_cons_of_mem _ hx))]
    simp

theorem great1_mem : ∀ (c : List Int) (n : Int), n ≤ great1 n c ∧ ∀ l ∈ c, litB l = true → absI l ≤ great1 n c
  | [], n => ⟨Int.le_refl _, fun l h => absurd h List.not_mem_nil⟩
  | x :: c, n => by
    have ih := great1_mem c (if litB x = true ∧ n < absI x then absI x else n)
    have e : great1 n (x :: c) = great1 (if litB x = true ∧ n < absI x then absI x else n) c := rfl
    rw [e]
    have h1 : n ≤ (if litB x = true ∧ n < absI x then absI x else n) := by split <;> omega
    refine ⟨by omega, fun l hl hb => ?_⟩
    rcases List.mem_cons.1 hl with rfl | hl
    · have h2 : absI l ≤ (if litB l = true ∧ n < absI l then absI l else n) := by
        split
        · omega
        · rename_i h; have : ¬ n < absI l := fun h' => h ⟨hb, h'⟩; omega
      omega
    · exact ih.2 l hl hb

theorem greatL_mem (cs : List (List Int)) : ∀ c ∈ cs, ∀ l ∈ c, litB l = true → absI l ≤ greatL cs := by
  have key : ∀ (cs : List (List Int)) (n : Int), n ≤ cs.foldl great1 n ∧ ∀ c ∈ cs, ∀ l ∈ c, litB l = true → absI l ≤ cs.foldl great1 n := by
    intro cs
    induction cs with
    | nil => intro n; exact ⟨Int.le_refl _, fun c h => absurd h List.not_mem_nil⟩
    | cons x cs ih =>
      intro n
      have h1 := great1_mem x n
      have h2 := ih (great1 n x)
      refine ⟨Int.le_trans h1.1 h2.1, fun c hc l hl hb => ?_⟩
      rcases List.mem_cons.1 hc with rfl | hc
      · exact Int.le_trans (h1.2 l hl hb) h2.1
      · exact h2.2 c hc l hl hb
  exact (key cs 0).2

theorem parse_shown {cs : List (List Int)} (hr : cs.all rightB = true) (hl : cs.length ≤ 100000) (hs : (showT cs).length ≤ 100000) : parseC (showT cs) = (cs, 0) := by
  have hg := greatL_le cs
  have hm : ∀ c ∈ cs, ∀ l ∈ c, litB l = true ∧ absI l ≤ greatL cs := fun c hc l hl => by
    have := List.all_eq_true.1 (List.all_eq_true.1 hr c hc) l hl
    exact ⟨this, greatL_mem cs c hc l hl this⟩
  unfold parseC
  rw [if_neg (by omega)]
  have e : showT cs = headT cs ++ bodyC cs := by unfold showT; rw [hr]; rfl
  rw [e, show_words]
  have hW : ∀ R : List (List UInt8), HeadOk (headW cs ++ R) := fun R => by
    refine ⟨by simp [headW], rfl, rfl, ?_, ?_⟩
    · show (numP (Lib.itoa (greatL cs))).2 = true
      rw [numP_itoa hg.1 (by omega)]
    · show (numP (Lib.itoa cs.length)).2 = true
      rw [numP_itoa (by omega) (by omega)]
  unfold parseW
  rw [if_pos (hW _)]
  show endP (numP (Lib.itoa cs.length)).1 (goP (numP (Lib.itoa (greatL cs))).1 (cs.flatMap fun c => c.map Lib.itoa ++ [[48]]) [] []) = _
  rw [numP_itoa hg.1 (by omega), numP_itoa (by omega) (by omega), goP_all _ cs [] hm]
  show (if ([] : List Int) = [] ∧ ((([] : List (List Int)) ++ cs).length : Int) = cs.length then _ else _) = _
  rw [if_pos ⟨rfl, rfl⟩]
  rfl

end Go.Proofs.YtcfllgdfhfcicaaDoor
