/- Some texts of the library, one behind the other. -/
import Derived.Test.YtdoaagphhjggbaaGreatQ18
import Derived.Test.YtdoaagphhjggbaaGreatQ2
import Derived.Test.YtdoaagphhjggbaaGreatQMkP
import Derived.Test.YtdoaagphhjggbaaGreatQ3
import Derived.Test.YtdoaagphhjggbaaGreatQ1
import Derived.Test.YtdoaagphhjggbaaGreatProg
import Derived.KernelRfl
section
namespace Go.Proofs.YtdoaagphhjggbaaGreat
open List renaming getD_eq_getElem?_getD → zd
open Go Go.Sx Go.RowKit Go.St
set_option maxRecDepth 100000
set_option maxHeartbeats 4000000
theorem qod (L : List (List UInt8)) (hL : L.length ≤ 1000000) (s : List UInt8) : Con Tryz.prog 143 [strs L, .str s] (.bool (inF L s)) := by
 refine zK {} 300 Tryz.func143 (fun c0 rdb => ?_)
 ((conv => whnf); refine qo (fun _ => rfl) 300 1 (fun i : Nat => [(5, iv i)]) (fun _ => []) (fun i => i ≤ L.length ∧ ∀ j, j < i → (L.getD j [] == s) = false) (fun i => L.length - i) (0) (⟨by omega, fun j hj => absurd hj (Nat.not_lt_zero j)⟩) qa qa (fun _ => rfl) (by kernel_rfl) ?_; (conv => whnf))
 intro i hi
 (repeat' ((conv => whnf); first | refine Ob.auto ?_ | (apply zB <;> intro hb <;> (try simp [-zd] at hb) <;> try (exfalso; omega))))
 ·refine Le.of_eq (congrArg AV.bool ?_)
  exact (List.any_eq_true.2 ⟨L.getD i [], ql L i [] (by omega), by simpa using hb⟩).symm
 ·((conv => whnf); refine ⟨i + 1, ⟨by omega, jz hi.2 (beq_eq_false_iff_ne.2 hb)⟩, ⟨qa, qa⟩, ⟨qa, qa⟩, ?_⟩; (first | omega | (dsimp only; omega) | skip))
 ·refine Le.of_eq (congrArg AV.bool ?_)
  unfold inF
  rw [eq_comm, Bool.eq_false_iff]
  intro h
  obtain ⟨x, hx, he⟩ := List.any_eq_true.1 h
  obtain ⟨j, hj, rfl⟩ := List.mem_iff_getElem.1 hx
  have := hi.2 j (by omega)
  rw [zd, List.getElem?_eq_getElem hj] at this
  simp only [Option.getD_some] at this
  rw [this] at he; cases he
theorem qrh (l : List Nd) (h0 : 1 ≤ l.length) (hk : (l.getD 0 nd0).kids.length ≤ 1000000) (a : Int) : Con Tryz.prog 147 [jq l, iv a] (iv (itemF l a)) := by
 refine zK {} 300 Tryz.func147 (fun c0 rdb => ?_)
 ((conv => whnf); refine qo (fun _ => rfl) 300 1 (fun g : Nat × Int => [(6, iv g.1), (5, iv g.2)]) (fun _ => []) (fun g => g.1 ≤ (l.getD 0 nd0).kids.length ∧ itemF l a = qaw a ((l.getD 0 nd0).kids.drop g.1) g.2) (fun g => (l.getD 0 nd0).kids.length - g.1) ((0, 0)) (⟨by simp, rfl⟩) qa qa (fun _ => rfl) (by kernel_rfl) ?_; (conv => whnf))
 rintro ⟨i, o⟩ ⟨hi, hs⟩
 simp only at hi hs
 (repeat' ((conv => whnf); first | refine Ob.auto ?_ | (apply zB <;> intro hb <;> (try simp [-zd] at hb) <;> try (exfalso; omega))))
 ·rw [qki _ i 0 (by omega), qaw, if_pos (by omega)] at hs
  ((conv => whnf); refine ⟨(i + 1, (l.getD 0 nd0).kids.getD i 0), ⟨by simp only; omega, hs⟩, ⟨qa, qa⟩, ⟨qa, qa⟩, ?_⟩; (first | omega | (dsimp only; omega) | skip))
 ·rw [qki _ i 0 (by omega), qaw, if_neg (by omega)] at hs
  ((conv => whnf); refine ⟨(i + 1, o), ⟨by simp only; omega, hs⟩, ⟨qa, qa⟩, ⟨qa, qa⟩, ?_⟩; (first | omega | (dsimp only; omega) | skip))
 ·refine Le.of_eq (congrArg (AV.int _) ?_)
  obtain rfl : i = (l.getD 0 nd0).kids.length := by omega
  rw [hs, List.drop_length, qaw]
theorem qvh (l : List Nd) (ht : Tree l) (a : Int) (h0 : 0 ≤ a) (h1 : a < l.length) (kind : Int) (hk : kind = 1 ∨ kind = 2 ∨ kind = 3) : Con Tryz.prog 142 [jq l, iv a, iv kind] (strs (qdd l a kind)) := by
 have hlen := ht.len
 have hk0 := (ht.kidsLen (j := 0) (by omega)).1
 refine zK {owns := [(7, (9, 1))]} 300 Tryz.func142 (fun c0 rdb => ?_)
 (repeat' ((conv => whnf); first | refine zC 300 (qrh l (by omega) (by omega) _) ?_ | fail))
 ((conv => whnf); refine qo (fun _ => rfl) 300 1 (fun g : Nat × List (List UInt8) => [(9, iv g.1), (7, .own 0 0 0 g.2.length)]) (fun g => [(0, .row [] 9 1 0 g.2.length (encL (fun s => [.str s]) [] g.2))]) (fun g => (g.1 : Int) ≤ a ∧ g.2 = qfu l (itemF l a) kind g.1) (fun g => a.toNat - g.1) ((0, [])) (⟨by simp; omega, rfl⟩) qa ⟨qba (fun k hk => absurd hk (Nat.not_lt_zero k)), trivial⟩ (fun _ => rfl) (by kernel_rfl) ?_; (conv => whnf))
 rintro ⟨i, L⟩ ⟨hi, hL⟩
 simp only at hi hL
 have hle := qoc l (itemF l a) kind i
 have hln : i < l.length → LenOk (l.getD i nd0) := fun h => ht.lens i h
 have hw : i < l.length → (l.getD i nd0).kind = kind → 0 < ((l.getD i nd0).words.length : Int) := fun h e => by have := (hln h).w1; omega
 have hsu := qvf l (itemF l a) kind i
 unfold qoa at hsu
 rw [← hL] at hle hsu
 have hin := qod L (by omega) ((l.getD i nd0).words.getD 0 [])
 (repeat' ((conv => whnf); first | refine Ob.auto ?_ | (refine Ob.intro (by (exact ⟨by omega, by first | omega | exact hw (by omega) (by assumption)⟩)) ?_) | refine zC 300 (qrh l (by omega) (by omega) _) ?_ | refine zG 300 (fun hg => qrh l (by omega) (by omega) _) ?_ | refine zE 300 (hin) ?_ | (apply zB <;> intro hb <;> (try simp [-zd] at hb) <;> try (exfalso; omega))))
 ·((conv => whnf); refine ⟨(i + 1, L), ⟨by simp only; omega, by rw [hsu, if_neg hb]⟩, ⟨qa, qa⟩, ⟨qa, qa⟩, ?_⟩; (first | omega | (dsimp only; omega) | skip))
 ·rename_i hkd hor
  ((conv => whnf); refine ⟨(i + 1, L ++ [qft (l.getD i nd0)]), ⟨by simp only; omega, by rw [hsu, if_pos hkd, if_pos (by simpa using hor), if_neg (by unfold qft; rw [hb]; decide)]⟩, ⟨qa, qa⟩, ⟨qa, qa⟩, ?_⟩; (first | omega | (dsimp only; omega) | skip))
 ·rename_i hkd hor
  ((conv => whnf); refine ⟨(i + 1, L), ⟨by simp only; omega, by rw [hsu, if_pos hkd, if_pos (by simpa using hor), if_pos (by unfold qft; exact hb)]⟩, ⟨qa, qa⟩, ⟨qa, qa⟩, ?_⟩; (first | omega | (dsimp only; omega) | skip))
 ·rename_i hkd
  ((conv => whnf); refine ⟨(i + 1, L), ⟨by simp only; omega, by rw [hsu, if_pos hkd, if_neg (by simpa using hb)]⟩, ⟨qa, qa⟩, ⟨qa, qa⟩, ?_⟩; (first | omega | (dsimp only; omega) | skip))
 ·refine Le.of_eq ?_
  rw [qdd, show a.toNat = i by omega, ← hL]; rfl
theorem jpj (l : List Nd) (ht : Tree l) (i : Nat) (h1 : i < l.length) : Con Tryz.prog 128 [jq l, iv i] (.bool (badF l i)) := by
 have hlen := ht.len
 have hln := ht.lens i h1
 have hw1 := hln.w1
 have hw2 := hln.w2
 have n1 := qoc l (itemF l i) 1 i
 have n2 := qoc l (itemF l i) 2 i
 have n3 := qoc l (itemF l i) 3 i
 have e : ∀ k, qdd l i k = qfu l (itemF l i) k i := fun k => rfl
 rw [← e] at n1 n2 n3
 refine zK {} 600 Tryz.func128 (fun c0 rdb => ?_)
 (repeat' ((conv => whnf); first | refine Ob.auto ?_ | refine zC 600 (qvh l ht i (by omega) (by omega) 1 (by decide)) ?_ | refine zC 600 (qvh l ht i (by omega) (by omega) 2 (by decide)) ?_ | refine zC 600 (qvh l ht i (by omega) (by omega) 3 (by decide)) ?_ | refine zC 600 (qod (qdd l i 1) (by omega) _) ?_ | refine zC 600 (qod (qdd l i 2) (by omega) _) ?_ | refine zG 600 (fun hg => qod (qdd l i 2) (by omega) _) ?_ | refine zG 600 (fun hg => qod (qdd l i 3) (by omega) _) ?_ | (apply zB <;> intro hb <;> (try simp [-zd] at hb) <;> try (exfalso; omega))))
 all_goals
  refine Le.of_eq (congrArg AV.bool ?_)
  rw [badF]
  ((repeat (first | rw [if_pos (by omega)] | rw [if_neg (by omega)])) <;> rfl)
theorem jpk (l : List Nd) (ht : Tree l) : Con Tryz.prog 97 [jq l] (flt (qhw l).1 (qhw l).2) := by
 have hlen := ht.len
 refine zK {} 300 Tryz.func97 (fun c0 rdb => ?_)
 ((conv => whnf); refine qo (fun _ => rfl) 300 1 (fun i : Nat => [(3, iv i)]) (fun _ => []) (fun i => i ≤ l.length ∧ ∀ j, j < i → badF l j = false) (fun i => l.length - i) (0) (⟨by omega, fun j hj => absurd hj (Nat.not_lt_zero j)⟩) qa qa (fun _ => rfl) (by kernel_rfl) ?_; (conv => whnf))
 intro i hi
 have hr : ∀ j, j < (List.range l.length).length → j < l.length := fun j hj => by simpa using hj
 (repeat' ((conv => whnf); first | refine Ob.auto ?_ | refine zC 300 (jpj l ht i (by omega)) ?_ | (apply zB <;> intro hb <;> (try simp [-zd] at hb) <;> try (exfalso; omega))))
 ·have h1 : i < l.length := by omega
  have := qeu (badF l) (List.range l.length) 0 i (by simpa using h1) (by rw [qhp _ _ _ (by omega)]; exact hb) (fun j hj => by rw [qhp _ _ _ (by omega)]; exact hi.2 j hj)
  refine Le.of_eq ?_
  rw [qhw, this, if_neg (by omega)]; rfl
 ·((conv => whnf); refine ⟨i + 1, ⟨by omega, jz hi.2 hb⟩, ⟨qa, qa⟩, ⟨qa, qa⟩, ?_⟩; (first | omega | (dsimp only; omega) | skip))
 ·have := qev (badF l) (List.range l.length) 0 (fun j hj => by have hj' := hr j hj; rw [qhp _ _ _ hj']; exact hi.2 j (by omega))
  refine Le.of_eq ?_
  rw [qhw, this, if_pos (by omega)]; rfl
theorem qiz (n w : Int) : Con Tryz.prog 42 [iv n, iv w] (iv (trim n w)) := by
 have hw : (wid w : Int) = min (max w 1) 16 := by unfold wid; omega
 have hwp := qgn w
 have hp := qgo (wid w) hwp.2
 refine zK {} 300 Tryz.func42 (fun c0 rdb => ?_)
 repeat' ((conv => whnf); first | (apply zB <;> intro hb <;> (try simp at hb) <;> try (exfalso; omega)))
 all_goals
  (conv => whnf); refine qjo (fun _ => rfl) 300 1 (fun i : Nat => ⟨[(0, iv n), (1, iv (wid w)), (5, iv (2 ^ i)), (6, iv i)], [], 0⟩)
   (fun i => i ≤ wid w) (fun i => wid w - i) 0 (by omega) ⟨⟨Le.refl _, Le.of_eq (congrArg iv (by omega)), Le.refl _, Le.refl _, trivial⟩, trivial⟩ (fun _ => rfl) (by kernel_rfl) ?_
  intro i hi
  have hpi := qgo i (by omega)
  have hm1 := Int.tmod_lt_of_pos n (show 0 < (2 : Int) ^ i by omega)
  have hm2 := Int.lt_tmod_of_pos n (show 0 < (2 : Int) ^ i by omega)
  have hd : ((2 : Int) ^ i).tdiv 2 = 2 ^ i / 2 := Int.tdiv_eq_ediv_of_nonneg (by omega)
  have ht := jlz n w
  (repeat' ((conv => whnf); first | refine Ob.auto ?_ | (refine Ob.intro (by (exact ⟨by omega, qdu (by omega) (by omega)⟩)) ?_) | (apply zB <;> intro hb <;> (try simp at hb) <;> try (exfalso; omega))))
  ·(conv => whnf); refine Exists.intro (i + 1) ⟨by omega, ⟨⟨Le.refl _, Le.refl _, Le.of_eq (congrArg iv (Int.pow_succ 2 i).symm), Le.refl _, trivial⟩, trivial⟩, by omega⟩
  all_goals
   obtain rfl : i = wid w := by omega
   refine Le.of_eq (congrArg (AV.int _) ?_)
   rw [ht]
   (repeat' split) <;> omega
theorem jpl (w : Int) : Con Tryz.prog 118 [iv w] (iv (wid w)) := by
 refine zK {} 300 Tryz.func118 (fun c0 rdb => ?_)
 repeat' ((conv => whnf); first | refine Ob.auto ?_ | fail)
 refine Le.of_eq (congrArg iv ?_)
 unfold wid
 show min (max w 1) 16 = _
 omega
theorem qlu (n w : Int) : Con Tryz.prog 82 [iv n, iv w] (iv (trim n w)) := by
 refine zK {} 300 Tryz.func82 (fun c0 rdb => ?_)
 have hw := qgn w
 have hp := qgo (wid w) hw.2
 have hq := qgo (wid w - 1) (by omega)
 have hh := qqo (wid w) hw.1
 have hs1 : shlI .i64 1 (wid w) = 2 ^ wid w := by
  unfold shlI; rw [Int.toNat_natCast, Nat.min_eq_left (by show _ ≤ 64; omega), Int.one_mul]
 have hs2 : shlI .i64 1 ((wid w : Int) - 1) = 2 ^ (wid w - 1) := by
  unfold shlI; rw [show ((wid w : Int) - 1).toNat = wid w - 1 by omega, Nat.min_eq_left (by show _ ≤ 64; omega), Int.one_mul]
 have hbt : bitI .and .i64 n (shlI .i64 1 (wid w) - 1) = n % 2 ^ wid w := by rw [hs1]; exact mask _ hw.2 n
 have h1 := Int.emod_nonneg n (b := 2 ^ wid w) (by omega)
 have h2 := Int.emod_lt_of_pos n (b := 2 ^ wid w) (by omega)
 (repeat' ((conv => whnf); first | refine Ob.auto ?_ | (refine Ob.intro (by (first | exact ⟨by omega, qdu (by omega) (by omega)⟩ | exact qdu (by omega) (by omega))) ?_) | refine zC 300 (jpl _) ?_ | (apply zB <;> intro hb <;> (try simp [-zd] at hb) <;> try (exfalso; omega))))
 all_goals
  refine Le.of_eq (congrArg (AV.int _) ?_)
  unfold trim
  split <;> omega
theorem jcg (b : Bool) : Con Tryz.prog 79 [.bool b] (iv (if b then 1 else 0)) := by
 refine zK {} 300 Tryz.func79 (fun c0 rdb => ?_)
 repeat' ((conv => whnf); first | refine Ob.auto ?_ | (refine Br.intro (fun hb => ?_) (fun hb => ?_)))
 all_goals subst hb; exact Le.refl _
theorem jch (b : Bool) : Con Tryz.prog 116 [.bool b] (iv (if b then 1 else 0)) := by
 refine zK {} 300 Tryz.func116 (fun c0 rdb => ?_)
 repeat' ((conv => whnf); first | refine Ob.auto ?_ | (refine Br.intro (fun hb => ?_) (fun hb => ?_)))
 all_goals subst hb; exact Le.refl _
theorem jci (n w : Int) : Con Tryz.prog 72 [iv n, iv w] (.bool (trim n w == n)) := by
 refine zK {} 300 Tryz.func72 (fun c0 rdb => ?_)
 (repeat' ((conv => whnf); first | refine Ob.auto ?_ | refine zC 300 (qlu _ _) ?_ | fail))
 exact Le.refl _
theorem jpm (op a b : Int) (h : -32768 ≤ a ∧ a ≤ 32768) (h' : -32768 ≤ b ∧ b ≤ 32768) : Con Tryz.prog 80 [iv op, iv a, iv b, iv 8] (iv (doF op a b)) := by
 have hm := qzv h h'
 refine zK {} 300 Tryz.func80 (fun c0 rdb => ?_)
 (repeat' ((conv => whnf); first | refine Ob.auto ?_ | refine zC 300 (qiz _ _) ?_ | (apply zB <;> intro hb <;> (try simp [-zd] at hb) <;> try (exfalso; omega))))
 ·refine Le.of_eq (congrArg (AV.int _) ?_)
  simp only [doF]; rw [if_pos (by assumption)]
 ·refine Le.of_eq (congrArg (AV.int _) ?_)
  simp only [doF]; rw [if_neg (by assumption), if_pos (by assumption)]
 ·refine Le.of_eq (congrArg (AV.int _) ?_)
  simp only [doF]; rw [if_neg (by assumption), if_neg (by assumption), if_pos (by assumption)]
 ·refine Le.of_eq (congrArg (AV.int _) ?_)
  simp only [doF]; rw [if_neg (by assumption), if_neg (by assumption), if_neg (by assumption), if_pos (by assumption)]
 all_goals
  (conv => whnf); refine qjo (fun _ => rfl) 300 1 (fun q : Nat => ⟨[(0, iv op), (1, iv a), (2, iv b), (3, iv 8), (10, iv b.natAbs), (11, iv q), (12, iv (a.natAbs - q * b.natAbs))], [], 0⟩)
   (fun q => q * b.natAbs ≤ a.natAbs ∧ q ≤ 32768) (fun q => a.natAbs - q * b.natAbs) 0 (by omega) ⟨⟨Le.refl _, Le.refl _, Le.refl _, Le.refl _, Le.of_eq (congrArg iv (by omega)), Le.refl _, Le.of_eq (congrArg iv (by omega)), trivial⟩, trivial⟩ (fun _ => rfl) (by kernel_rfl) ?_
  intro q hq
  have hbp : 1 ≤ b.natAbs := by omega
  have hqb : ((q * b.natAbs : Nat) : Int) = (q : Int) * (b.natAbs : Int) := by push_cast; rfl
  (repeat' ((conv => whnf); first | refine Ob.auto ?_ | refine zC 300 (qiz _ _) ?_ | (apply zB <;> intro hb <;> (try simp [-zd] at hb) <;> try (exfalso; omega))))
  ·have hs : (q + 1) * b.natAbs = q * b.natAbs + b.natAbs := Nat.succ_mul ..
   have hs' : ((q + 1 : Nat) : Int) * (b.natAbs : Int) = (q : Int) * b.natAbs + b.natAbs := by push_cast; rw [Int.add_mul, Int.one_mul]
   have hqn : q + 1 ≤ (q + 1) * b.natAbs := Nat.le_mul_of_pos_right _ hbp
   (conv => whnf); refine Exists.intro (q + 1) ⟨⟨by omega, by omega⟩, ⟨⟨Le.refl _, Le.refl _, Le.refl _, Le.refl _, Le.refl _, Le.refl _, Le.of_eq (congrArg iv (by omega)), trivial⟩, trivial⟩, by omega⟩
  all_goals
   have hdv := jmc a b q (by omega) (by omega) (by omega)
   refine Le.of_eq (congrArg (AV.int _) ?_)
   simp only [doF]; rw [if_neg (by assumption), if_neg (by assumption), if_neg (by assumption), if_neg (by assumption)]
   first
    | (rw [if_pos (by assumption), hdv.1]; congr 1; (repeat' split) <;> omega)
    | (rw [if_neg (by assumption), hdv.2]; congr 1; (repeat' split) <;> omega)
theorem jpn (op a b : Int) (h : -32768 ≤ a ∧ a ≤ 32768) (h' : -32768 ≤ b ∧ b ≤ 32768) : Con Tryz.prog 117 [iv op, iv a, iv b] (qzu op a b) := by
 have hm := qzv h h'
 have hd := jma a b h
 refine zK {} 300 Tryz.func117 (fun c0 rdb => ?_)
 (repeat' ((conv => whnf); first | refine Ob.auto ?_ | (refine Ob.intro (by (first | exact qdu (by omega) (by omega) | exact ⟨by assumption, qdu (by omega) (by omega)⟩)) ?_) | refine zC 300 (qlu _ _) ?_ | refine zC 300 (jch _) ?_ | (apply zB <;> intro hb <;> (try simp [-zd] at hb) <;> try (exfalso; omega))))
 all_goals
  refine Le.of_eq ?_
  simp [qzu, qet, qjy, *]
end Go.Proofs.YtdoaagphhjggbaaGreat
end
