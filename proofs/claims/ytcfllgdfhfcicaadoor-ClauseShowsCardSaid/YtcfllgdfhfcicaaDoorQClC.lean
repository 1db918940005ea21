/- Contracts: the words of a text of clauses, numbers. -/
import Derived.Test.YtcfllgdfhfcicaaDoorQNumC
import Derived.Test.YtcfllgdfhfcicaaDoorQFfC
import Derived.Test.YtcfllgdfhfcicaaDoorQCn5
import Derived.Test.YtcfllgdfhfcicaaDoorQClS
import Derived.Test.YtcfllgdfhfcicaaDoorQ3
set_option linter.unusedSimpArgs false
set_option linter.unusedVariables false
namespace Go.Proofs.YtcfllgdfhfcicaaDoor
open Go Go.Sx Go.RowKit Go.St Go.Cl
set_option maxRecDepth 100000
set_option maxHeartbeats 4000000

theorem number_con01 (s : List UInt8) : Con Tryd.prog 47 [.str s] (.tup [iv (numP s).1, .bool (numP s).2]) := by
  refine con_flat Tryd.func47 rfl (by kernel_rfl) [.str s] _ fun rd w vs hm ha => ?_
  obtain ⟨a, rfl, h1⟩ := relL_one ha
  obtain rfl := rel_str_eq h1
  refine (number_raw ⟨s.toArray⟩ w).mono fun x w' ⟨he, hw⟩ => ⟨_, he, ?_, ?_⟩
  · refine .tup _ _ _ rfl fun j x v hx hv => ?_
    match j, hx, hv with
    | 0, hx, hv => cases hx; cases hv; exact .int _ _ _
    | 1, hx, hv => cases hx; cases hv; exact .bool _ _
  · rcases hw with rfl | ⟨pos, rfl⟩
    · exact Below.refl _ _
    · exact (Below.refl _ _).alloc (Nat.le_refl _) _

theorem cutP_con (s p : List UInt8) : Con Tryd.prog 48 [.str s, .str p] (.tup [.str (Lib.trimPrefix s p), .bool (Lib.hasPrefix s p)]) := by
  refine con_flat Tryd.func48 rfl (by kernel_rfl) [.str s, .str p] _ fun rd w vs hm ha => ?_
  obtain ⟨a, b, rfl, h1, h2⟩ := relL_two ha
  obtain rfl := rel_str_eq h1
  obtain rfl := rel_str_eq h2
  refine (Any.strings_CutPrefix Tryd.lays103 ⟨s.toArray⟩ ⟨p.toArray⟩ w).mono fun x w' ⟨he, hw⟩ => ⟨_, he, ?_, by rw [hw]; exact Below.refl _ _⟩
  refine .tup _ _ _ rfl fun j x v hx hv => ?_
  match j, hx, hv with
  | 0, hx, hv => cases hx; cases hv; exact .str _ _
  | 1, hx, hv => cases hx; cases hv; exact .bool _ _

theorem hasP_c (s : List UInt8) : Lib.hasPrefix s [99] = decide (s.head? = some 99) := by
  cases s with
  | nil => rfl
  | cons b r =>
    unfold Lib.hasPrefix
    show (99 == b && true) = decide (some b = some 99)
    by_cases h : b = 99
    · subst h; rfl
    · rw [decide_eq_false (fun e => h (Option.some.inj e)), Bool.and_true, beq_eq_false_iff_ne]
      exact fun e => h e.symm

theorem flat_next {α β : Type} (f : α → List β) (l : List α) (d : α) (i : Nat) (hi : i < l.length) : (l.take (i + 1)).flatMap f = (l.take i).flatMap f ++ f (l.getD i d) := by
  rw [List.take_add_one, List.getElem?_eq_getElem hi, List.flatMap_append, List.getD_eq_getElem?_getD, List.getElem?_eq_getElem hi]
  simp

theorem spL_lenC (c : UInt8) : ∀ (l : List UInt8), ∀ x ∈ Sp.spL c l, x.length ≤ l.length
  | [], x, hx => by simp [Sp.spL] at hx; subst hx; exact Nat.le_refl _
  | b :: r, x, hx => by
    have ih := spL_lenC c r
    unfold Sp.spL at hx
    split at hx
    · rcases List.mem_cons.1 hx with rfl | hx
      · exact Nat.zero_le _
      · exact Nat.le_succ_of_le (ih x hx)
    · split at hx
      · rename_i h; exact absurd h (Sp.spL_ne c r)
      · rename_i w ws h
        rw [h] at ih
        rcases List.mem_cons.1 hx with rfl | hx
        · exact Nat.succ_le_succ (ih w (List.mem_cons_self ..))
        · exact Nat.le_succ_of_le (ih x (List.mem_cons_of_mem _ hx))

theorem spL_getC (c : UInt8) (l : List UInt8) (k : Nat) : ((Sp.spL c l).getD k []).length ≤ l.length := by
  by_cases h : k < (Sp.spL c l).length
  · exact spL_lenC c l _ (getD_mem _ _ _ h)
  · rw [List.getD_eq_getElem?_getD, List.getElem?_eq_none (by omega)]; exact Nat.zero_le _

theorem spL_countC (c : UInt8) : ∀ (l : List UInt8), (Sp.spL c l).length ≤ l.length + 1
  | [] => by simp [Sp.spL]
  | b :: r => by
    have ih := spL_countC c r
    unfold Sp.spL
    split
    · simp; omega
    · split
      · simp
      · rename_i w ws h; rw [h] at ih; simp at ih ⊢; omega

theorem fldB_len (q : UInt8 → Bool) : ∀ (l cur : List UInt8), (Sp.fldB q cur l).length ≤ l.length + (if cur = [] then 0 else 1)
  | [], cur => by unfold Sp.fldB; split <;> simp [*]
  | b :: l, cur => by
    have h1 := fldB_len q l []
    have h2 := fldB_len q l (cur ++ [b])
    rw [if_pos rfl] at h1
    rw [if_neg (by simp)] at h2
    unfold Sp.fldB
    split
    · split
      · rename_i h; simp; omega
      · rename_i h; simp; omega
    · have : (b :: l).length = l.length + 1 := rfl
      split <;> omega

theorem lineW_len (l : List UInt8) : (Sp.lineW l).length ≤ l.length := by
  unfold Sp.lineW
  split
  · simp
  · exact fldB_len _ _ _

theorem flatW_sum : ∀ (W : List (List UInt8)), (W.flatMap Sp.lineW).length ≤ (W.map List.length).sum
  | [] => Nat.le_refl _
  | w :: W => by
    have := flatW_sum W
    have h := lineW_len w
    rw [List.flatMap_cons, List.length_append, List.map_cons, List.sum_cons]
    omega

theorem sum_take : ∀ (l : List Nat) (i : Nat), (l.take i).sum ≤ l.sum
  | [], i => by simp
  | x :: l, 0 => by simp
  | x :: l, i + 1 => by
    have := sum_take l i
    rw [List.take_succ_cons, List.sum_cons, List.sum_cons]
    omega

theorem spL_sum (c : UInt8) : ∀ (l : List UInt8), ((Sp.spL c l).map List.length).sum ≤ l.length
  | [] => by simp [Sp.spL]
  | b :: r => by
    have ih := spL_sum c r
    unfold Sp.spL
    split
    · simp; omega
    · split
      · simp
      · rename_i w ws h; rw [h] at ih; simp at ih ⊢; omega

theorem flatW_len (s : List UInt8) (i : Nat) : (((Sp.spL 10 s).take i).flatMap Sp.lineW).length ≤ s.length := by
  refine Nat.le_trans (flatW_sum _) (Nat.le_trans ?_ (spL_sum 10 s))
  rw [List.map_take]
  exact sum_take _ _

theorem words_len (s : List UInt8) : (Sp.wordsF s).length ≤ s.length := Nat.le_trans (flatW_sum _) (spL_sum 10 s)

theorem words_con (s : List UInt8) (hs : s.length ≤ 1000000) : Con Tryd.prog 46 [.str s] (strs (Sp.wordsF s)) := by
  have hsp := split_con s 10 hs
  have hwl := spL_getC 10 s
  have hwc := spL_countC 10 s
  have hfl := flatW_len s
  unfold Sp.wordsF
  generalize Sp.spL 10 s = W at hsp hwl hwc hfl ⊢
  refine con_of_exec (T := tab Tryd.prog) (C := {owns := [(3, (9, 1))]}) 300 (fun _ => rfl) Tryd.func46 rfl (by kernel_rfl) (by kernel_rfl) (fun c0 rdb => ?_)
  (repeat' ((conv => whnf); first | (refine AltG.none (by kernel_rfl) (EndG.go ?_)) | (refine Ob.intro (OrdG.intro (by kernel_rfl)) ?_) | (refine Ob.auto ?_) | (refine call_eq (fun _ => rfl) 300 (hsp) (by rfl) (by kernel_rfl) ?_) | (refine gcall_eq (fun _ => rfl) 300 (fun hg => hsp) (by rfl) rflsA (by kernel_rfl) ?_) | (refine CallY.con (hsp) (by rfl) leA ?_) | (refine CallZ.con (fun hg => hsp) rflsA (by rfl) ?_) | (refine call_lend (fun _ => rfl) 300 (hsp) holdA (by repeat' (first | exact trivial | exact Le.refl _ | (refine And.intro ?_ ?_))) (by rfl) (by kernel_rfl) ?_) | (refine gcall_lend (fun _ => rfl) 300 (fun hg => hsp) (fun hg => holdA) (fun hg => (by repeat' (first | exact trivial | exact Le.refl _ | exact Le.cnd hg | (refine And.intro ?_ ?_)))) (by rfl) (by kernel_rfl) ?_) | (refine draw3n (fun _ => rfl) (by kernel_rfl) 300 (by rfl) ?_) | (refine Br.intro (fun hb => ?_) (fun hb => ?_) <;> (try simp [-List.getD_eq_getElem?_getD] at hb) <;> (try (exfalso; omega))) | (refine Ob.intro ?_ ?_)))
  ((conv => whnf); refine loop_auto (fun _ => rfl) 300 1 (fun i : Nat => [(3, .own 0 0 0 ((W.take i).flatMap Sp.lineW).length), (9, iv i)]) (fun i => [(0, .row [] 9 1 0 ((W.take i).flatMap Sp.lineW).length (encL (fun s => [.str s]) [] ((W.take i).flatMap Sp.lineW)))]) (fun i => i ≤ W.length) (fun i => W.length - i) (0) (Nat.zero_le _) subtA subtA (fun _ => rfl) (by kernel_rfl) ?_; (conv => whnf))
  intro i hi
  by_cases hil : i < W.length
  · have hnx := flat_next Sp.lineW W [] i hil
    have hp := hasP_con (W.getD i []) [99]
    rw [hasP_c] at hp
    by_cases h99 : (W.getD i []).head? = some 99
    · rw [show Sp.lineW (W.getD i []) = [] from if_pos h99, List.append_nil] at hnx
      rw [decide_eq_true h99] at hp
      (repeat' ((conv => whnf); first | (refine AltG.none (by kernel_rfl) (EndG.go ?_)) | (refine Ob.intro (OrdG.intro (by kernel_rfl)) ?_) | (refine Ob.auto ?_) | (refine Ob.intro (by (exact ⟨by omega, by omega⟩)) ?_) | (refine call_eq (fun _ => rfl) 300 (hp) (by rfl) (by kernel_rfl) ?_) | (refine gcall_eq (fun _ => rfl) 300 (fun hg => hp) (by rfl) rflsA (by kernel_rfl) ?_) | (refine CallY.con (hp) (by rfl) leA ?_) | (refine CallZ.con (fun hg => hp) rflsA (by rfl) ?_) | (refine call_lend (fun _ => rfl) 300 (hp) holdA (by repeat' (first | exact trivial | exact Le.refl _ | (refine And.intro ?_ ?_))) (by rfl) (by kernel_rfl) ?_) | (refine gcall_lend (fun _ => rfl) 300 (fun hg => hp) (fun hg => holdA) (fun hg => (by repeat' (first | exact trivial | exact Le.refl _ | exact Le.cnd hg | (refine And.intro ?_ ?_)))) (by rfl) (by kernel_rfl) ?_) | (refine draw3n (fun _ => rfl) (by kernel_rfl) 300 (by rfl) ?_) | (refine Br.intro (fun hb => ?_) (fun hb => ?_) <;> (try simp [-List.getD_eq_getElem?_getD] at hb) <;> (try (exfalso; omega))) | (refine Ob.intro ?_ ?_)))
      ((conv => whnf); refine ⟨i + 1, by omega, ⟨⟨Le.of_eq (congrArg (AV.own 0 0 0) (congrArg List.length hnx.symm)), Le.refl _, trivial⟩, ⟨⟨⟨rfl, rfl, rfl⟩, rfl, congrArg List.length hnx.symm, fun k hk => LeL.of_eq (by rw [hnx])⟩, trivial⟩⟩, ⟨subtA, subtA⟩, ?_⟩; (first | omega | (dsimp only; omega) | skip))
    · have hlw : Sp.lineW (W.getD i []) = Sp.fldB Sp.blB [] (W.getD i []) := if_neg h99
      rw [hlw] at hnx
      rw [decide_eq_false h99] at hp
      have hle := hfl (i + 1)
      rw [hnx, List.length_append] at hle
      have hwi := hwl i
      have hfc := fields_con (W.getD i []) (by omega)
      generalize Sp.fldB Sp.blB [] (W.getD i []) = F at hnx hle hfc
      generalize (W.take i).flatMap Sp.lineW = G at hle hnx ⊢
      (repeat' ((conv => whnf); first | (refine AltG.none (by kernel_rfl) (EndG.go ?_)) | (refine Ob.intro (OrdG.intro (by kernel_rfl)) ?_) | (refine Ob.auto ?_) | (refine Ob.intro (by (first | exact ⟨by omega, by omega⟩ | (refine ⟨by omega, by omega, by omega, ?_⟩; dsimp only; refine Int.le_trans (Int.mul_le_mul_of_nonneg_right (?_ : _ ≤ (4000001 : Int)) (Int.natCast_nonneg _)) (by decide +kernel); omega))) ?_) | (refine call_eq (fun _ => rfl) 300 (hp) (by rfl) (by kernel_rfl) ?_) | (refine gcall_eq (fun _ => rfl) 300 (fun hg => hp) (by rfl) rflsA (by kernel_rfl) ?_) | (refine CallY.con (hp) (by rfl) leA ?_) | (refine CallZ.con (fun hg => hp) rflsA (by rfl) ?_) | (refine call_eq (fun _ => rfl) 300 (hfc) (by rfl) (by kernel_rfl) ?_) | (refine gcall_eq (fun _ => rfl) 300 (fun hg => hfc) (by rfl) rflsA (by kernel_rfl) ?_) | (refine CallY.con (hfc) (by rfl) leA ?_) | (refine CallZ.con (fun hg => hfc) rflsA (by rfl) ?_) | (refine call_lend (fun _ => rfl) 300 (hp) holdA (by repeat' (first | exact trivial | exact Le.refl _ | (refine And.intro ?_ ?_))) (by rfl) (by kernel_rfl) ?_) | (refine gcall_lend (fun _ => rfl) 300 (fun hg => hp) (fun hg => holdA) (fun hg => (by repeat' (first | exact trivial | exact Le.refl _ | exact Le.cnd hg | (refine And.intro ?_ ?_)))) (by rfl) (by kernel_rfl) ?_) | (refine call_lend (fun _ => rfl) 300 (hfc) holdA (by repeat' (first | exact trivial | exact Le.refl _ | (refine And.intro ?_ ?_))) (by rfl) (by kernel_rfl) ?_) | (refine gcall_lend (fun _ => rfl) 300 (fun hg => hfc) (fun hg => holdA) (fun hg => (by repeat' (first | exact trivial | exact Le.refl _ | exact Le.cnd hg | (refine And.intro ?_ ?_)))) (by rfl) (by kernel_rfl) ?_) | (refine draw3n (fun _ => rfl) (by kernel_rfl) 300 (by rfl) ?_) | (refine Br.intro (fun hb => ?_) (fun hb => ?_) <;> (try simp [-List.getD_eq_getElem?_getD] at hb) <;> (try (exfalso; omega))) | (refine Ob.intro ?_ ?_)))
      ((conv => whnf); refine ⟨i + 1, by omega, ⟨⟨Le.of_eq (congrArg (AV.own 0 0 0) (by rw [hnx, List.length_append])), Le.refl _, trivial⟩, ⟨⟨⟨rfl, rfl, rfl⟩, rfl, by rw [hnx, List.length_append], fun k hk => LeL.of_eq (by rw [hnx, ← appF_append])⟩, trivial⟩⟩, ⟨subtA, subtA⟩, ?_⟩; (first | omega | (dsimp only; omega) | skip))
  · obtain rfl : i = W.length := by omega
    rw [List.take_length]
    (repeat' ((conv => whnf); first | (refine AltG.none (by kernel_rfl) (EndG.go ?_)) | (refine Ob.intro (OrdG.intro (by kernel_rfl)) ?_) | (refine Ob.auto ?_) | (refine draw3n (fun _ => rfl) (by kernel_rfl) 300 (by rfl) ?_) | (refine Br.intro (fun hb => ?_) (fun hb => ?_) <;> (try simp [-List.getD_eq_getElem?_getD] at hb) <;> (try (exfalso; omega))) | (refine Ob.intro ?_ ?_)))
    exact Le.refl _

theorem trim_minus {w : List UInt8} (h : w.head? = some 45) : Lib.trimPrefix w [45] = w.drop 1 ∧ Lib.hasPrefix w [45] = true := by
  cases w with
  | nil => cases h
  | cons b w =>
    obtain rfl : b = 45 := by simpa using h
    exact ⟨rfl, rfl⟩
theorem trim_plain {w : List UInt8} (h : ¬ w.head? = some 45) : Lib.trimPrefix w [45] = w ∧ Lib.hasPrefix w [45] = false := by
  have e : Lib.hasPrefix w [45] = false := by
    cases w with
    | nil => rfl
    | cons b w =>
      show (45 == b && true) = false
      rw [Bool.and_true, beq_eq_false_iff_ne]
      exact fun e => h (by rw [← e]; rfl)
  refine ⟨?_, e⟩
  unfold Lib.trimPrefix
  rw [e]; rfl

theorem parse_con01 (s : List UInt8) : Con Tryd.prog 25 [.str s] (.tup [listsV (parseC s).1, iv (parseC s).2]) := by
  by_cases hs : s.length ≤ 100000
  · have hw := words_con s (by omega)
    have hW := words_len s
    unfold parseC
    rw [if_neg (by omega)]
    generalize Sp.wordsF s = W at hw hW ⊢
    have n2 := number_con01 (W.getD 2 [])
    have n3 := number_con01 (W.getD 3 [])
    have l2 := numP_le (W.getD 2 [])
    have l3 := numP_le (W.getD 3 [])
    have hno : ¬ HeadOk W → parseW W = ([], 11) := fun h => if_neg h
    have hyes : HeadOk W → parseW W = endP (numP (W.getD 3 [])).1 (goP (numP (W.getD 2 [])).1 (W.drop 4) [] []) := fun h => if_pos h
    have hH : HeadOk W → 4 ≤ W.length ∧ W.getD 0 [] = [112] ∧ W.getD 1 [] = [99, 110, 102] ∧ (numP (W.getD 2 [])).2 = true ∧ (numP (W.getD 3 [])).2 = true := id
    have hH2 : (4 ≤ W.length ∧ W.getD 0 [] = [112] ∧ W.getD 1 [] = [99, 110, 102] ∧ (numP (W.getD 2 [])).2 = true ∧ (numP (W.getD 3 [])).2 = true) → HeadOk W := id
    generalize numP (W.getD 2 []) = V at n2 l2 hyes hH hH2
    generalize numP (W.getD 3 []) = N at n3 l3 hyes hH hH2
    generalize HeadOk W = HO at hno hyes hH hH2
    refine con_of_exec (T := tab Tryd.prog) (C := {lit := true, owns := [(10, (3, 1))]}) 300 (fun _ => rfl) Tryd.func25 rfl (by kernel_rfl) (by kernel_rfl) (fun c0 rdb => ?_)
    (repeat' ((conv => whnf); first | (refine AltG.none (by kernel_rfl) (EndG.go ?_)) | (refine Ob.intro (OrdG.intro (by kernel_rfl)) ?_) | (refine Ob.auto ?_) | (refine Ob.intro (by (exact ⟨by omega, by omega⟩)) ?_) | (refine call_eq (fun _ => rfl) 300 (hw) (by rfl) (by kernel_rfl) ?_) | (refine gcall_eq (fun _ => rfl) 300 (fun hg => hw) (by rfl) rflsA (by kernel_rfl) ?_) | (refine CallY.con (hw) (by rfl) leA ?_) | (refine CallZ.con (fun hg => hw) rflsA (by rfl) ?_) | (refine call_eq (fun _ => rfl) 300 (n2) (by rfl) (by kernel_rfl) ?_) | (refine gcall_eq (fun _ => rfl) 300 (fun hg => n2) (by rfl) rflsA (by kernel_rfl) ?_) | (refine CallY.con (n2) (by rfl) leA ?_) | (refine CallZ.con (fun hg => n2) rflsA (by rfl) ?_) | (refine call_eq (fun _ => rfl) 300 (n3) (by rfl) (by kernel_rfl) ?_) | (refine gcall_eq (fun _ => rfl) 300 (fun hg => n3) (by rfl) rflsA (by kernel_rfl) ?_) | (refine CallY.con (n3) (by rfl) leA ?_) | (refine CallZ.con (fun hg => n3) rflsA (by rfl) ?_) | (refine call_lend (fun _ => rfl) 300 (hw) holdA (by repeat' (first | exact trivial | exact Le.refl _ | (refine And.intro ?_ ?_))) (by rfl) (by kernel_rfl) ?_) | (refine gcall_lend (fun _ => rfl) 300 (fun hg => hw) (fun hg => holdA) (fun hg => (by repeat' (first | exact trivial | exact Le.refl _ | exact Le.cnd hg | (refine And.intro ?_ ?_)))) (by rfl) (by kernel_rfl) ?_) | (refine call_lend (fun _ => rfl) 300 (n2) holdA (by repeat' (first | exact trivial | exact Le.refl _ | (refine And.intro ?_ ?_))) (by rfl) (by kernel_rfl) ?_) | (refine gcall_lend (fun _ => rfl) 300 (fun hg => n2) (fun hg => holdA) (fun hg => (by repeat' (first | exact trivial | exact Le.refl _ | exact Le.cnd hg | (refine And.intro ?_ ?_)))) (by rfl) (by kernel_rfl) ?_) | (refine call_lend (fun _ => rfl) 300 (n3) holdA (by repeat' (first | exact trivial | exact Le.refl _ | (refine And.intro ?_ ?_))) (by rfl) (by kernel_rfl) ?_) | (refine gcall_lend (fun _ => rfl) 300 (fun hg => n3) (fun hg => holdA) (fun hg => (by repeat' (first | exact trivial | exact Le.refl _ | exact Le.cnd hg | (refine And.intro ?_ ?_)))) (by rfl) (by kernel_rfl) ?_) | (refine draw3n (fun _ => rfl) (by kernel_rfl) 300 (by rfl) ?_) | (refine Br.intro (fun hb => ?_) (fun hb => ?_) <;> (try simp [-List.getD_eq_getElem?_getD] at hb) <;> (try (exfalso; omega))) | (refine Ob.intro ?_ ?_)))
    · rw [hno fun h => ?_]
      · exact Le.tup ⟨Le.nils _ _, Le.refl _, trivial⟩
      · have h := hH h
        rcases hb with (hb | hb) | hb
        · omega
        · exact hb h.2.1
        · exact hb h.2.2.1
    · rw [hno fun h => ?_]
      · exact Le.tup ⟨Le.nils _ _, Le.refl _, trivial⟩
      · have h := hH h
        rcases hb with hb | hb
        · rw [hb] at h; cases h.2.2.2.1
        · rw [hb] at h; cases h.2.2.2.2
    rename_i hb0
    rw [hyes (hH2 ⟨by omega, hb0.1.2, hb0.2, hb.1, hb.2⟩)]
    clear hno hyes hH hH2 hb0 hb n2 n3 hw
    ((conv => whnf); refine loop_autoR (fun _ => rfl) 300 1 (fun g : Nat × List (List Int) × List Int => [(9, .own 0 0 0 g.2.1.length), (10, .own 1 0 0 g.2.2.length), (61, iv g.1)]) (fun g => [(0, .row [] 22 1 0 g.2.1.length (encL (fun c => [ints c]) [] g.2.1)), (1, .row [] 3 1 0 g.2.2.length (encL (fun n => [iv n]) 0 g.2.2))]) (fun g => g.1 ≤ W.length - 4 ∧ g.2.1.length ≤ g.1 ∧ g.2.2.length ≤ g.1 ∧ goP V.1 (W.drop (4 + g.1)) g.2.1 g.2.2 = goP V.1 (W.drop 4) [] []) (fun g => W.length - 4 - g.1) ((0, [], [])) (⟨Nat.zero_le _, Nat.zero_le _, Nat.zero_le _, rfl⟩) subtA ⟨⟨⟨rfl, rfl, rfl⟩, rfl, rfl, fun k hk => absurd hk (Nat.not_lt_zero k)⟩, ⟨⟨rfl, rfl, rfl⟩, rfl, rfl, fun k hk => absurd hk (Nat.not_lt_zero k)⟩, trivial⟩ (fun _ => rfl) (by kernel_rfl) ?_; (conv => whnf))
    intro g hg
    obtain ⟨i, out, now⟩ := g
    obtain ⟨hi, ho, hn, hgo⟩ := hg
    dsimp only at hi ho hn hgo
    by_cases hil : i < W.length - 4
    · rw [goP_step V.1 W (4 + i) (by omega)] at hgo
      have hc := cutP_con (W.getD (4 + i) []) [45]
      by_cases hm : (W.getD (4 + i) []).head? = some 45
      · rw [lit_minus hm] at hgo
        rw [(trim_minus hm).1, (trim_minus hm).2] at hc
        have hnc := number_con01 ((W.getD (4 + i) []).drop 1)
        have hnl := numP_le ((W.getD (4 + i) []).drop 1)
        generalize (W.getD (4 + i) []).drop 1 = d at hc hnc hgo hnl
        generalize numP d = D at hnc hgo hnl
        (repeat' ((conv => whnf); first | (refine AltG.none (by kernel_rfl) (EndG.go ?_)) | (refine Ob.intro (OrdG.intro (by kernel_rfl)) ?_) | (refine Ob.auto ?_) | (refine Ob.intro (by (first | exact ⟨by omega, by omega⟩ | (refine ⟨by omega, by omega, by omega, ?_⟩; dsimp only; refine Int.le_trans (Int.mul_le_mul_of_nonneg_right (?_ : _ ≤ (4000001 : Int)) (Int.natCast_nonneg _)) (by decide +kernel); omega))) ?_) | (refine call_eq (fun _ => rfl) 300 (hc) (by rfl) (by kernel_rfl) ?_) | (refine gcall_eq (fun _ => rfl) 300 (fun hg => hc) (by rfl) rflsA (by kernel_rfl) ?_) | (refine CallY.con (hc) (by rfl) leA ?_) | (refine CallZ.con (fun hg => hc) rflsA (by rfl) ?_) | (refine call_eq (fun _ => rfl) 300 (hnc) (by rfl) (by kernel_rfl) ?_) | (refine gcall_eq (fun _ => rfl) 300 (fun hg => hnc) (by rfl) rflsA (by kernel_rfl) ?_) | (refine CallY.con (hnc) (by rfl) leA ?_) | (refine CallZ.con (fun hg => hnc) rflsA (by rfl) ?_) | (refine call_lend (fun _ => rfl) 300 (hc) holdA (by repeat' (first | exact trivial | exact Le.refl _ | (refine And.intro ?_ ?_))) (by rfl) (by kernel_rfl) ?_) | (refine gcall_lend (fun _ => rfl) 300 (fun hg => hc) (fun hg => holdA) (fun hg => (by repeat' (first | exact trivial | exact Le.refl _ | exact Le.cnd hg | (refine And.intro ?_ ?_)))) (by rfl) (by kernel_rfl) ?_) | (refine call_lend (fun _ => rfl) 300 (hnc) holdA (by repeat' (first | exact trivial | exact Le.refl _ | (refine And.intro ?_ ?_))) (by rfl) (by kernel_rfl) ?_) | (refine gcall_lend (fun _ => rfl) 300 (fun hg => hnc) (fun hg => holdA) (fun hg => (by repeat' (first | exact trivial | exact Le.refl _ | exact Le.cnd hg | (refine And.intro ?_ ?_)))) (by rfl) (by kernel_rfl) ?_) | (refine draw3n (fun _ => rfl) (by kernel_rfl) 300 (by rfl) ?_) | (refine Br.intro (fun hb => ?_) (fun hb => ?_) <;> (try simp [-List.getD_eq_getElem?_getD] at hb) <;> (try (exfalso; omega))) | (refine Ob.intro ?_ ?_)))
        · rw [if_neg fun h => ?_] at hgo
          · rw [← hgo]
            exact Le.tup ⟨Le.nils _ _, Le.refl _, trivial⟩
          · rcases hb with ((hb | hb) | hb) | hb
            · rw [hb] at h; cases h.1
            · exact h.2.1 hb
            · omega
            · omega
        · rename_i h1 h2
          rw [if_pos ⟨h1.1.1.1, h1.1.1.2, h1.1.2, h1.2⟩] at hgo
          have hgo : (if -D.1 = 0 then goP V.1 (W.drop (4 + i + 1)) (out ++ [now]) [] else goP V.1 (W.drop (4 + i + 1)) out (now ++ [-D.1])) = goP V.1 (W.drop 4) [] [] := hgo
          rw [if_neg (by omega), ← Int.zero_sub] at hgo
          ((conv => whnf); refine ⟨(i + 1, out, now ++ [0 - D.1]), ⟨by omega, by dsimp only; omega, by simp; omega, hgo⟩, ⟨_, turnR_refl, ⟨⟨Le.refl _, ownL_snoc rfl 1, Le.refl _, trivial⟩, ⟨SoLe.refl _, rowL_snoc (fun n => [iv n]) 0 rfl rfl, trivial⟩⟩, ⟨subtA, subtA⟩⟩, ?_⟩; (first | omega | (dsimp only; omega) | skip))
      · rw [lit_plain l2.1 hm] at hgo
        rw [(trim_plain hm).1, (trim_plain hm).2] at hc
        have hnc := number_con01 (W.getD (4 + i) [])
        have hnl := numP_le (W.getD (4 + i) [])
        generalize numP (W.getD (4 + i) []) = D at hnc hgo hnl
        (repeat' ((conv => whnf); first | (refine AltG.none (by kernel_rfl) (EndG.go ?_)) | (refine Ob.intro (OrdG.intro (by kernel_rfl)) ?_) | (refine Ob.auto ?_) | (refine Ob.intro (by (first | exact ⟨by omega, by omega⟩ | (refine ⟨by omega, by omega, by omega, ?_⟩; dsimp only; refine Int.le_trans (Int.mul_le_mul_of_nonneg_right (?_ : _ ≤ (4000001 : Int)) (Int.natCast_nonneg _)) (by decide +kernel); omega))) ?_) | (refine call_eq (fun _ => rfl) 300 (hc) (by rfl) (by kernel_rfl) ?_) | (refine gcall_eq (fun _ => rfl) 300 (fun hg => hc) (by rfl) rflsA (by kernel_rfl) ?_) | (refine CallY.con (hc) (by rfl) leA ?_) | (refine CallZ.con (fun hg => hc) rflsA (by rfl) ?_) | (refine call_eq (fun _ => rfl) 300 (hnc) (by rfl) (by kernel_rfl) ?_) | (refine gcall_eq (fun _ => rfl) 300 (fun hg => hnc) (by rfl) rflsA (by kernel_rfl) ?_) | (refine CallY.con (hnc) (by rfl) leA ?_) | (refine CallZ.con (fun hg => hnc) rflsA (by rfl) ?_) | (refine call_lend (fun _ => rfl) 300 (hc) holdA (by repeat' (first | exact trivial | exact Le.refl _ | (refine And.intro ?_ ?_))) (by rfl) (by kernel_rfl) ?_) | (refine gcall_lend (fun _ => rfl) 300 (fun hg => hc) (fun hg => holdA) (fun hg => (by repeat' (first | exact trivial | exact Le.refl _ | exact Le.cnd hg | (refine And.intro ?_ ?_)))) (by rfl) (by kernel_rfl) ?_) | (refine call_lend (fun _ => rfl) 300 (hnc) holdA (by repeat' (first | exact trivial | exact Le.refl _ | (refine And.intro ?_ ?_))) (by rfl) (by kernel_rfl) ?_) | (refine gcall_lend (fun _ => rfl) 300 (fun hg => hnc) (fun hg => holdA) (fun hg => (by repeat' (first | exact trivial | exact Le.refl _ | exact Le.cnd hg | (refine And.intro ?_ ?_)))) (by rfl) (by kernel_rfl) ?_) | (refine draw3n (fun _ => rfl) (by kernel_rfl) 300 (by rfl) ?_) | (refine Br.intro (fun hb => ?_) (fun hb => ?_) <;> (try simp [-List.getD_eq_getElem?_getD] at hb) <;> (try (exfalso; omega))) | (refine Ob.intro ?_ ?_)))
        · rw [if_neg fun h => ?_] at hgo
          · rw [← hgo]
            exact Le.tup ⟨Le.nils _ _, Le.refl _, trivial⟩
          · rcases hb with (hb | hb) | hb
            · rw [hb] at h; cases h.1
            · omega
            · omega
        · rename_i h1
          rw [if_pos ⟨h1.1.1, h1.1.2, h1.2⟩] at hgo
          have hgo : (if D.1 = 0 then goP V.1 (W.drop (4 + i + 1)) (out ++ [now]) [] else goP V.1 (W.drop (4 + i + 1)) out (now ++ [D.1])) = goP V.1 (W.drop 4) [] [] := hgo
          rw [if_pos hb] at hgo
          ((conv => whnf); refine ⟨(i + 1, out ++ [now], []), ⟨by omega, by simp; omega, Nat.zero_le _, hgo⟩, ⟨⟨[(9, .own 0 0 0 (out ++ [now]).length), (10, .own 1 0 0 0), (61, iv (i + 1)), (60, .int .i64 ((W.length - Int.toNat 4 : Nat) : Int)), (59, .slc 1 (W.length - Int.toNat 4) fun i => encL (fun s => [AV.str s]) [] W (Int.toNat 4 + i)), (7, .int .i64 N.1), (5, .int .i64 V.1)],
            [(0, .row [] 22 1 0 (out ++ [now]).length (encL (fun c => [ints c]) [] (out ++ [now]))), (1, .row [] 3 1 0 0 (encL (fun n => [iv n]) 0 []))], 2⟩, (TurnR.melt [0, 3] 0 rfl (fun k hk => ?_)).trans (TurnR.ren 1 3 (by kernel_rfl) ?_ ?_), ⟨subtA, subtA⟩, ⟨subtA, subtA⟩⟩, ?_⟩)
          · show allP _ (if k < out.length then _ else _)
            by_cases h : k < out.length
            · rw [if_pos h]; exact ⟨trivial, trivial⟩
            · have hk : k < out.length + 1 := hk
              obtain rfl : k = out.length := by omega
              rw [if_neg h, if_pos hk, Nat.sub_self]
              exact ⟨⟨trivial, ⟨rfl, rfl⟩, trivial⟩, trivial⟩
          · exact ⟨⟨ownL_snoc rfl 0, rfl⟩, ⟨Le.refl _, rfl⟩, ⟨Le.refl _, rfl⟩, ⟨Le.refl _, rfl⟩, ⟨Le.refl _, rfl⟩, ⟨Le.refl _, rfl⟩, ⟨Le.refl _, rfl⟩, trivial⟩
          · refine ⟨⟨⟨⟨rfl, rfl, rfl⟩, rfl, (by rw [List.length_append]; rfl), fun k hk => ?_⟩, rfl⟩, ⟨⟨⟨rfl, rfl, rfl⟩, rfl, rfl, fun k hk => absurd hk (Nat.not_lt_zero k)⟩, rfl⟩, trivial⟩
            show LeL (List.map _ (if k < out.length then _ else _)) [ints ((out ++ [now]).getD k [])]
            by_cases h : k < out.length
            · rw [if_pos h, List.getD_eq_getElem?_getD, List.getElem?_append_left h, ← List.getD_eq_getElem?_getD]
              exact LeL.refl _
            · have hk : k < out.length + 1 := hk
              obtain rfl : k = out.length := by omega
              rw [if_neg h, if_pos hk, Nat.sub_self, List.getD_eq_getElem?_getD, List.getElem?_append_right (Nat.le_refl _), Nat.sub_self]
              exact LeL.refl _
          · show W.length - 4 - (i + 1) < W.length - 4 - i
            omega
        · rename_i h1 h2
          rw [if_pos ⟨h1.1.1, h1.1.2, h1.2⟩] at hgo
          have hgo : (if D.1 = 0 then goP V.1 (W.drop (4 + i + 1)) (out ++ [now]) [] else goP V.1 (W.drop (4 + i + 1)) out (now ++ [D.1])) = goP V.1 (W.drop 4) [] [] := hgo
          rw [if_neg h2] at hgo
          ((conv => whnf); refine ⟨(i + 1, out, now ++ [D.1]), ⟨by omega, by dsimp only; omega, by simp; omega, hgo⟩, ⟨_, turnR_refl, ⟨⟨Le.refl _, ownL_snoc rfl 1, Le.refl _, trivial⟩, ⟨SoLe.refl _, rowL_snoc (fun n => [iv n]) 0 rfl rfl, trivial⟩⟩, ⟨subtA, subtA⟩⟩, ?_⟩; (first | omega | (dsimp only; omega) | skip))
    · obtain rfl : i = W.length - 4 := by omega
      rw [List.drop_eq_nil_of_le (by omega)] at hgo
      have hgo : some (out, now) = goP V.1 (W.drop 4) [] [] := hgo
      rw [← hgo]
      (repeat' ((conv => whnf); first | (refine AltG.none (by kernel_rfl) (EndG.go ?_)) | (refine Ob.intro (OrdG.intro (by kernel_rfl)) ?_) | (refine Ob.auto ?_) | (refine Ob.intro (by (exact ⟨by omega, by omega⟩)) ?_) | (refine draw3n (fun _ => rfl) (by kernel_rfl) 300 (by rfl) ?_) | (refine Br.intro (fun hb => ?_) (fun hb => ?_) <;> (try simp [-List.getD_eq_getElem?_getD] at hb) <;> (try (exfalso; omega))) | (refine Ob.intro ?_ ?_)))
      · rw [show endP N.1 (some (out, now)) = ([], 11) from if_neg fun h => ?_]
        · exact Le.tup ⟨Le.nils _ _, Le.refl _, trivial⟩
        · rcases hb with hb | hb
          · rw [show now = [] from h.1] at hb; exact absurd hb (Nat.lt_irrefl 0)
          · exact hb h.2
      · rw [show endP N.1 (some (out, now)) = (out, 0) from if_pos hb]
        exact Le.refl _
  · unfold parseC
    rw [if_pos (by omega)]
    refine con_of_exec (T := tab Tryd.prog) (C := {}) 300 (fun _ => rfl) Tryd.func25 rfl (by kernel_rfl) (by kernel_rfl) (fun c0 rdb => ?_)
    (repeat' ((conv => whnf); first | (refine AltG.none (by kernel_rfl) (EndG.go ?_)) | (refine Ob.intro (OrdG.intro (by kernel_rfl)) ?_) | (refine Ob.auto ?_) | (refine draw3n (fun _ => rfl) (by kernel_rfl) 300 (by rfl) ?_) | (refine Br.intro (fun hb => ?_) (fun hb => ?_) <;> (try simp [-List.getD_eq_getElem?_getD] at hb) <;> (try (exfalso; omega))) | (refine Ob.intro ?_ ?_)))
    exact Le.tup ⟨Le.nils _ _, Le.refl _, trivial⟩

end Go.Proofs.YtcfllgdfhfcicaaDoor
