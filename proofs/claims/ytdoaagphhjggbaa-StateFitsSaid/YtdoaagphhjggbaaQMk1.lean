/- Contracts: names, by the document's answer. -/
import Derived.Test.YtdoaagphhjggbaaQ6
import Derived.Test.YtdoaagphhjggbaaQ2
import Derived.Test.YtdoaagphhjggbaaQMkP
namespace Go.Proofs.Ytdoaagphhjggbaa
open Go Go.Sx Go.RowKit Go.St
set_option maxRecDepth 100000
set_option maxHeartbeats 4000000

theorem in11_con (L : List (List UInt8)) (hL : L.length ≤ 1000000) (s : List UInt8) : Con Try.prog 114 [strs L, .str s] (.bool (inF L s)) := by
  refine con_of_exec (T := tab Try.prog) (C := {}) 300 (fun _ => rfl) Try.func114 rfl (by kernel_rfl) (by kernel_rfl) (fun c0 rdb => ?_)
  (repeat' ((conv => whnf); first | refine zO ?_ | refine Ob.auto ?_ | (refine draw_x (fun _ => rfl) (by kernel_rfl) 300 ?_) | (refine Br.intro (fun hb => ?_) (fun hb => ?_) <;> (try simp [-List.getD_eq_getElem?_getD] at hb) <;> (try (exfalso; omega))) | refine Ob.intro ?_ ?_))
  ((conv => whnf); refine loop_auto (fun _ => rfl) 300 1 (fun i : Nat => [(5, iv i)]) (fun _ => []) (fun i => i ≤ L.length ∧ ∀ j, j < i → (L.getD j [] == s) = false) (fun i => L.length - i) (0) (⟨by omega, fun j hj => absurd hj (Nat.not_lt_zero j)⟩) subtA subtA (fun _ => rfl) (by kernel_rfl) ?_; (conv => whnf))
  intro i hi
  (repeat' ((conv => whnf); first | refine zO ?_ | refine Ob.auto ?_ | (refine Ob.intro (by (exact ⟨by omega, by omega⟩)) ?_) | (refine draw_x (fun _ => rfl) (by kernel_rfl) 300 ?_) | (refine Br.intro (fun hb => ?_) (fun hb => ?_) <;> (try simp [-List.getD_eq_getElem?_getD] at hb) <;> (try (exfalso; omega))) | refine Ob.intro ?_ ?_))
  · refine Le.of_eq (congrArg AV.bool ?_)
    exact (List.any_eq_true.2 ⟨L.getD i [], getD_mem L i [] (by omega), by simpa using hb⟩).symm
  · ((conv => whnf); refine ⟨i + 1, ⟨by omega, upto_succ hi.2 (beq_eq_false_iff_ne.2 hb)⟩, ⟨subtA, subtA⟩, ⟨subtA, subtA⟩, ?_⟩; (first | omega | (dsimp only; omega) | skip))
  · refine Le.of_eq (congrArg AV.bool ?_)
    unfold inF
    rw [eq_comm, Bool.eq_false_iff]
    intro h
    obtain ⟨x, hx, he⟩ := List.any_eq_true.1 h
    obtain ⟨j, hj, rfl⟩ := List.mem_iff_getElem.1 hx
    have := hi.2 j (by omega)
    rw [List.getD_eq_getElem?_getD, List.getElem?_eq_getElem hj] at this
    simp only [Option.getD_some] at this
    rw [this] at he; cases he

theorem item_con (l : List Nd) (h0 : 1 ≤ l.length) (hk : (l.getD 0 Nd.none).kids.length ≤ 1000000) (a : Int) : Con Try.prog 118 [treeV l, iv a] (iv (itemF l a)) := by
  refine con_of_exec (T := tab Try.prog) (C := {}) 300 (fun _ => rfl) Try.func118 rfl (by kernel_rfl) (by kernel_rfl) (fun c0 rdb => ?_)
  (repeat' ((conv => whnf); first | refine zO ?_ | refine Ob.auto ?_ | (refine Ob.intro (by (exact ⟨by omega, by omega⟩)) ?_) | (refine draw_x (fun _ => rfl) (by kernel_rfl) 300 ?_) | (refine Br.intro (fun hb => ?_) (fun hb => ?_) <;> (try simp [-List.getD_eq_getElem?_getD] at hb) <;> (try (exfalso; omega))) | refine Ob.intro ?_ ?_))
  ((conv => whnf); refine loop_auto (fun _ => rfl) 300 1 (fun g : Nat × Int => [(6, iv g.1), (5, iv g.2)]) (fun _ => []) (fun g => g.1 ≤ (l.getD 0 Nd.none).kids.length ∧ itemF l a = itemL a ((l.getD 0 Nd.none).kids.drop g.1) g.2) (fun g => (l.getD 0 Nd.none).kids.length - g.1) ((0, 0)) (⟨by simp, rfl⟩) subtA subtA (fun _ => rfl) (by kernel_rfl) ?_; (conv => whnf))
  rintro ⟨i, o⟩ ⟨hi, hs⟩
  simp only at hi hs
  (repeat' ((conv => whnf); first | refine zO ?_ | refine Ob.auto ?_ | (refine Ob.intro (by (exact ⟨by omega, by omega⟩)) ?_) | (refine draw_x (fun _ => rfl) (by kernel_rfl) 300 ?_) | (refine Br.intro (fun hb => ?_) (fun hb => ?_) <;> (try simp [-List.getD_eq_getElem?_getD] at hb) <;> (try (exfalso; omega))) | refine Ob.intro ?_ ?_))
  · rw [drop_getD _ i 0 (by omega), itemL, if_pos (by omega)] at hs
    ((conv => whnf); refine ⟨(i + 1, (l.getD 0 Nd.none).kids.getD i 0), ⟨by simp only; omega, hs⟩, ⟨subtA, subtA⟩, ⟨subtA, subtA⟩, ?_⟩; (first | omega | (dsimp only; omega) | skip))
  · rw [drop_getD _ i 0 (by omega), itemL, if_neg (by omega)] at hs
    ((conv => whnf); refine ⟨(i + 1, o), ⟨by simp only; omega, hs⟩, ⟨subtA, subtA⟩, ⟨subtA, subtA⟩, ?_⟩; (first | omega | (dsimp only; omega) | skip))
  · refine Le.of_eq (congrArg (AV.int _) ?_)
    obtain rfl : i = (l.getD 0 Nd.none).kids.length := by omega
    rw [hs, List.drop_length, itemL]

theorem names_con (l : List Nd) (ht : Tree l) (a : Int) (h0 : 0 ≤ a) (h1 : a < l.length) (kind : Int) (hk : kind = 1 ∨ kind = 2 ∨ kind = 3) : Con Try.prog 113 [treeV l, iv a, iv kind] (strs (namesF l a kind)) := by
  have hlen := ht.len
  have hk0 := (ht.kidsLen (j := 0) (by omega)).1
  refine con_of_exec (T := tab Try.prog) (C := {owns := [(7, (9, 1))]}) 300 (fun _ => rfl) Try.func113 rfl (by kernel_rfl) (by kernel_rfl) (fun c0 rdb => ?_)
  (repeat' ((conv => whnf); first | refine zO ?_ | refine Ob.auto ?_ | (refine Ob.intro (by (exact ⟨by omega, by omega⟩)) ?_) | refine zC 300 (item_con l (by omega) (by omega) _) ?_ | refine zG 300 (fun hg => item_con l (by omega) (by omega) _) ?_ | refine zX (item_con l (by omega) (by omega) _) ?_ | refine zY (fun hg => item_con l (by omega) (by omega) _) ?_ | refine zE 300 (item_con l (by omega) (by omega) _) ?_ | refine zF 300 (fun hg => item_con l (by omega) (by omega) _) ?_ | (refine draw_x (fun _ => rfl) (by kernel_rfl) 300 ?_) | (refine Br.intro (fun hb => ?_) (fun hb => ?_) <;> (try simp [-List.getD_eq_getElem?_getD] at hb) <;> (try (exfalso; omega))) | refine Ob.intro ?_ ?_))
  ((conv => whnf); refine loop_auto (fun _ => rfl) 300 1 (fun g : Nat × List (List UInt8) => [(9, iv g.1), (7, .own 0 0 0 g.2.length)]) (fun g => [(0, .row [] 9 1 0 g.2.length (encL (fun s => [.str s]) [] g.2))]) (fun g => (g.1 : Int) ≤ a ∧ g.2 = namesUp l (itemF l a) kind g.1) (fun g => a.toNat - g.1) ((0, [])) (⟨by simp; omega, rfl⟩) subtA ⟨row_le (fun k hk => absurd hk (Nat.not_lt_zero k)), trivial⟩ (fun _ => rfl) (by kernel_rfl) ?_; (conv => whnf))
  rintro ⟨i, L⟩ ⟨hi, hL⟩
  simp only at hi hL
  have hle := namesUp_len l (itemF l a) kind i
  have hln : i < l.length → LenOk (l.getD i Nd.none) := fun h => ht.lens i h
  have hw : i < l.length → (l.getD i Nd.none).kind = kind → 0 < ((l.getD i Nd.none).words.length : Int) := fun h e => by have := (hln h).w1; omega
  have hsu := namesUp_succ l (itemF l a) kind i
  unfold nameStep at hsu
  rw [← hL] at hle hsu
  have hin := in11_con L (by omega) ((l.getD i Nd.none).words.getD 0 [])
  (repeat' ((conv => whnf); first | refine zO ?_ | refine Ob.auto ?_ | (refine Ob.intro (by (exact ⟨by omega, by first | omega | exact hw (by omega) (by assumption)⟩)) ?_) | refine zC 300 (item_con l (by omega) (by omega) _) ?_ | refine zG 300 (fun hg => item_con l (by omega) (by omega) _) ?_ | refine zX (item_con l (by omega) (by omega) _) ?_ | refine zY (fun hg => item_con l (by omega) (by omega) _) ?_ | refine zC 300 (hin) ?_ | refine zG 300 (fun hg => hin) ?_ | refine zX (hin) ?_ | refine zY (fun hg => hin) ?_ | refine zE 300 (item_con l (by omega) (by omega) _) ?_ | refine zF 300 (fun hg => item_con l (by omega) (by omega) _) ?_ | refine zE 300 (hin) ?_ | refine zF 300 (fun hg => hin) ?_ | (refine draw3_x (fun _ => rfl) (by kernel_rfl) 300 ?_) | (refine Br.intro (fun hb => ?_) (fun hb => ?_) <;> (try simp [-List.getD_eq_getElem?_getD] at hb) <;> (try (exfalso; omega))) | refine Ob.intro ?_ ?_))
  · ((conv => whnf); refine ⟨(i + 1, L), ⟨by simp only; omega, by rw [hsu, if_neg hb]⟩, ⟨subtA, subtA⟩, ⟨subtA, subtA⟩, ?_⟩; (first | omega | (dsimp only; omega) | skip))
  · rename_i hkd hor
    ((conv => whnf); refine ⟨(i + 1, L ++ [word0 (l.getD i Nd.none)]), ⟨by simp only; omega, by rw [hsu, if_pos hkd, if_pos (by simpa using hor), if_neg (by unfold word0; rw [hb]; decide)]⟩, ⟨subtA, subtA⟩, ⟨subtA, subtA⟩, ?_⟩; (first | omega | (dsimp only; omega) | skip))
  · rename_i hkd hor
    ((conv => whnf); refine ⟨(i + 1, L), ⟨by simp only; omega, by rw [hsu, if_pos hkd, if_pos (by simpa using hor), if_pos (by unfold word0; exact hb)]⟩, ⟨subtA, subtA⟩, ⟨subtA, subtA⟩, ?_⟩; (first | omega | (dsimp only; omega) | skip))
  · rename_i hkd
    ((conv => whnf); refine ⟨(i + 1, L), ⟨by simp only; omega, by rw [hsu, if_pos hkd, if_neg (by simpa using hb)]⟩, ⟨subtA, subtA⟩, ⟨subtA, subtA⟩, ?_⟩; (first | omega | (dsimp only; omega) | skip))
  · refine Le.of_eq ?_
    rw [namesF, show a.toNat = i by omega, ← hL]; rfl

theorem bad_con (l : List Nd) (ht : Tree l) (i : Nat) (h1 : i < l.length) : Con Try.prog 99 [treeV l, iv i] (.bool (badF l i)) := by
  have hlen := ht.len
  have hln := ht.lens i h1
  have hw1 := hln.w1
  have hw2 := hln.w2
  have n1 := namesUp_len l (itemF l i) 1 i
  have n2 := namesUp_len l (itemF l i) 2 i
  have n3 := namesUp_len l (itemF l i) 3 i
  have e : ∀ k, namesF l i k = namesUp l (itemF l i) k i := fun k => rfl
  rw [← e] at n1 n2 n3
  refine con_of_exec (T := tab Try.prog) (C := {}) 600 (fun _ => rfl) Try.func99 rfl (by kernel_rfl) (by kernel_rfl) (fun c0 rdb => ?_)
  (repeat' ((conv => whnf); first | refine zO ?_ | refine Ob.auto ?_ | (refine Ob.intro (by (first | exact ⟨by omega, by omega⟩ | (intro _; exact ⟨by omega, by omega⟩))) ?_) | refine zC 600 (names_con l ht i (by omega) (by omega) 1 (by decide)) ?_ | refine zG 600 (fun hg => names_con l ht i (by omega) (by omega) 1 (by decide)) ?_ | refine zX (names_con l ht i (by omega) (by omega) 1 (by decide)) ?_ | refine zY (fun hg => names_con l ht i (by omega) (by omega) 1 (by decide)) ?_ | refine zC 600 (names_con l ht i (by omega) (by omega) 2 (by decide)) ?_ | refine zG 600 (fun hg => names_con l ht i (by omega) (by omega) 2 (by decide)) ?_ | refine zX (names_con l ht i (by omega) (by omega) 2 (by decide)) ?_ | refine zY (fun hg => names_con l ht i (by omega) (by omega) 2 (by decide)) ?_ | refine zC 600 (names_con l ht i (by omega) (by omega) 3 (by decide)) ?_ | refine zG 600 (fun hg => names_con l ht i (by omega) (by omega) 3 (by decide)) ?_ | refine zX (names_con l ht i (by omega) (by omega) 3 (by decide)) ?_ | refine zY (fun hg => names_con l ht i (by omega) (by omega) 3 (by decide)) ?_ | refine zC 600 (in11_con (namesF l i 1) (by omega) _) ?_ | refine zG 600 (fun hg => in11_con (namesF l i 1) (by omega) _) ?_ | refine zX (in11_con (namesF l i 1) (by omega) _) ?_ | refine zY (fun hg => in11_con (namesF l i 1) (by omega) _) ?_ | refine zC 600 (in11_con (namesF l i 2) (by omega) _) ?_ | refine zG 600 (fun hg => in11_con (namesF l i 2) (by omega) _) ?_ | refine zX (in11_con (namesF l i 2) (by omega) _) ?_ | refine zY (fun hg => in11_con (namesF l i 2) (by omega) _) ?_ | refine zC 600 (in11_con (namesF l i 3) (by omega) _) ?_ | refine zG 600 (fun hg => in11_con (namesF l i 3) (by omega) _) ?_ | refine zX (in11_con (namesF l i 3) (by omega) _) ?_ | refine zY (fun hg => in11_con (namesF l i 3) (by omega) _) ?_ | refine zE 600 (names_con l ht i (by omega) (by omega) 1 (by decide)) ?_ | refine zF 600 (fun hg => names_con l ht i (by omega) (by omega) 1 (by decide)) ?_ | refine zE 600 (names_con l ht i (by omega) (by omega) 2 (by decide)) ?_ | refine zF 600 (fun hg => names_con l ht i (by omega) (by omega) 2 (by decide)) ?_ | refine zE 600 (names_con l ht i (by omega) (by omega) 3 (by decide)) ?_ | refine zF 600 (fun hg => names_con l ht i (by omega) (by omega) 3 (by decide)) ?_ | refine zE 600 (in11_con (namesF l i 1) (by omega) _) ?_ | refine zF 600 (fun hg => in11_con (namesF l i 1) (by omega) _) ?_ | refine zE 600 (in11_con (namesF l i 2) (by omega) _) ?_ | refine zF 600 (fun hg => in11_con (namesF l i 2) (by omega) _) ?_ | refine zE 600 (in11_con (namesF l i 3) (by omega) _) ?_ | refine zF 600 (fun hg => in11_con (namesF l i 3) (by omega) _) ?_ | (refine draw_x (fun _ => rfl) (by kernel_rfl) 600 ?_) | (refine Br.intro (fun hb => ?_) (fun hb => ?_) <;> (try simp [-List.getD_eq_getElem?_getD] at hb) <;> (try (exfalso; omega))) | refine Ob.intro ?_ ?_))
  all_goals
    refine Le.of_eq (congrArg AV.bool ?_)
    rw [badF]
    ((repeat (first | rw [if_pos (by omega)] | rw [if_neg (by omega)])) <;> rfl)

theorem check11_con (l : List Nd) (ht : Tree l) : Con Try.prog 73 [treeV l] (flt (check11 l).1 (check11 l).2) := by
  have hlen := ht.len
  refine con_of_exec (T := tab Try.prog) (C := {}) 300 (fun _ => rfl) Try.func73 rfl (by kernel_rfl) (by kernel_rfl) (fun c0 rdb => ?_)
  (repeat' ((conv => whnf); first | refine zO ?_ | refine Ob.auto ?_ | (refine draw_x (fun _ => rfl) (by kernel_rfl) 300 ?_) | (refine Br.intro (fun hb => ?_) (fun hb => ?_) <;> (try simp [-List.getD_eq_getElem?_getD] at hb) <;> (try (exfalso; omega))) | refine Ob.intro ?_ ?_))
  ((conv => whnf); refine loop_auto (fun _ => rfl) 300 1 (fun i : Nat => [(3, iv i)]) (fun _ => []) (fun i => i ≤ l.length ∧ ∀ j, j < i → badF l j = false) (fun i => l.length - i) (0) (⟨by omega, fun j hj => absurd hj (Nat.not_lt_zero j)⟩) subtA subtA (fun _ => rfl) (by kernel_rfl) ?_; (conv => whnf))
  intro i hi
  have hr : ∀ j, j < (List.range l.length).length → j < l.length := fun j hj => by simpa using hj
  (repeat' ((conv => whnf); first | refine zO ?_ | refine Ob.auto ?_ | (refine Ob.intro (by (exact ⟨by omega, by omega⟩)) ?_) | refine zC 300 (bad_con l ht i (by omega)) ?_ | refine zG 300 (fun hg => bad_con l ht i (by omega)) ?_ | refine zX (bad_con l ht i (by omega)) ?_ | refine zY (fun hg => bad_con l ht i (by omega)) ?_ | refine zE 300 (bad_con l ht i (by omega)) ?_ | refine zF 300 (fun hg => bad_con l ht i (by omega)) ?_ | (refine draw_x (fun _ => rfl) (by kernel_rfl) 300 ?_) | (refine Br.intro (fun hb => ?_) (fun hb => ?_) <;> (try simp [-List.getD_eq_getElem?_getD] at hb) <;> (try (exfalso; omega))) | refine Ob.intro ?_ ?_))
  · have h1 : i < l.length := by omega
    have := idx_at (badF l) (List.range l.length) 0 i (by simpa using h1) (by rw [getD_range' _ _ _ (by omega)]; exact hb) (fun j hj => by rw [getD_range' _ _ _ (by omega)]; exact hi.2 j hj)
    refine Le.of_eq ?_
    rw [check11, this, if_neg (by omega)]; rfl
  · ((conv => whnf); refine ⟨i + 1, ⟨by omega, upto_succ hi.2 hb⟩, ⟨subtA, subtA⟩, ⟨subtA, subtA⟩, ?_⟩; (first | omega | (dsimp only; omega) | skip))
  · have := idx_none (badF l) (List.range l.length) 0 (fun j hj => by have hj' := hr j hj; rw [getD_range' _ _ _ hj']; exact hi.2 j (by omega))
    refine Le.of_eq ?_
    rw [check11, this, if_pos (by omega)]; rfl

end Go.Proofs.Ytdoaagphhjggbaa
