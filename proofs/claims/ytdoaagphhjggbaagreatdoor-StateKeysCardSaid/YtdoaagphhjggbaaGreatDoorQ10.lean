/- Some texts of the library, one behind the other. -/
import Derived.Test.YtdoaagphhjggbaaGreatDoorQ7
import Derived.Test.YtdoaagphhjggbaaGreatDoorQ2
import Derived.Test.YtdoaagphhjggbaaGreatDoorQMkP
import Derived.Test.YtdoaagphhjggbaaGreatDoorQ3
import Derived.Test.YtdoaagphhjggbaaGreatDoorQ1
import Derived.Test.YtdoaagphhjggbaaGreatDoorProg
import Derived.KernelRfl
section
namespace Go.Proofs.YtdoaagphhjggbaaGreatDoor
open List renaming getD_eq_getElem?_getD → zd
open Go Go.Sx Go.RowKit Go.St
set_option maxRecDepth 100000
set_option maxHeartbeats 4000000
theorem qls (L : List (List UInt8)) (hL : L.length ≤ 1000000) (s : List UInt8) : Con Tryz.prog 98 [strs L, .str s] (.bool (inF L s)) := by
 refine zK {} 300 Tryz.func98 (fun c0 rdb => ?_)
 ((conv => whnf); refine qo (fun _ => rfl) 300 1 (fun i : Nat => [(5, iv i)]) (fun _ => []) (fun i => i ≤ L.length ∧ ∀ j, j < i → (L.getD j [] == s) = false) (fun i => L.length - i) (0) (⟨by omega, fun j hj => absurd hj (Nat.not_lt_zero j)⟩) qa qa (fun _ => rfl) (by kernel_rfl) ?_; (conv => whnf))
 intro i hi
 (repeat' ((conv => whnf); first | refine Ob.auto ?_ | (apply zB <;> intro hb <;> (try simp [-zd] at hb) <;> try (exfalso; omega))))
 ·refine Le.of_eq (congrArg AV.bool ?_)
  exact (List.any_eq_true.2 ⟨L.getD i [], qu L i [] (by omega), by simpa using hb⟩).symm
 ·((conv => whnf); refine ⟨i + 1, ⟨by omega, qaq hi.2 (beq_eq_false_iff_ne.2 hb)⟩, ⟨qa, qa⟩, ⟨qa, qa⟩, ?_⟩; (first | omega | (dsimp only; omega) | skip))
 ·refine Le.of_eq (congrArg AV.bool ?_)
  unfold inF
  rw [eq_comm, Bool.eq_false_iff]
  intro h
  obtain ⟨x, hx, he⟩ := List.any_eq_true.1 h
  obtain ⟨j, hj, rfl⟩ := List.mem_iff_getElem.1 hx
  have := hi.2 j (by omega)
  rw [zd, List.getElem?_eq_getElem hj] at this
  simp only [Option.getD_some] at this
  rw [this] at he; cases he
theorem qoz (l : List Nd) (h0 : 1 ≤ l.length) (hk : (l.getD 0 nd0).kids.length ≤ 1000000) (a : Int) : Con Tryz.prog 107 [ji l, iv a] (iv (itemF l a)) := by
 refine zK {} 300 Tryz.func107 (fun c0 rdb => ?_)
 ((conv => whnf); refine qo (fun _ => rfl) 300 1 (fun g : Nat × Int => [(6, iv g.1), (5, iv g.2)]) (fun _ => []) (fun g => g.1 ≤ (l.getD 0 nd0).kids.length ∧ itemF l a = qai a ((l.getD 0 nd0).kids.drop g.1) g.2) (fun g => (l.getD 0 nd0).kids.length - g.1) ((0, 0)) (⟨by simp, rfl⟩) qa qa (fun _ => rfl) (by kernel_rfl) ?_; (conv => whnf))
 rintro ⟨i, o⟩ ⟨hi, hs⟩
 simp only at hi hs
 (repeat' ((conv => whnf); first | refine Ob.auto ?_ | (apply zB <;> intro hb <;> (try simp [-zd] at hb) <;> try (exfalso; omega))))
 ·rw [qie _ i 0 (by omega), qai, if_pos (by omega)] at hs
  ((conv => whnf); refine ⟨(i + 1, (l.getD 0 nd0).kids.getD i 0), ⟨by simp only; omega, hs⟩, ⟨qa, qa⟩, ⟨qa, qa⟩, ?_⟩; (first | omega | (dsimp only; omega) | skip))
 ·rw [qie _ i 0 (by omega), qai, if_neg (by omega)] at hs
  ((conv => whnf); refine ⟨(i + 1, o), ⟨by simp only; omega, hs⟩, ⟨qa, qa⟩, ⟨qa, qa⟩, ?_⟩; (first | omega | (dsimp only; omega) | skip))
 ·refine Le.of_eq (congrArg (AV.int _) ?_)
  obtain rfl : i = (l.getD 0 nd0).kids.length := by omega
  rw [hs, List.drop_length, qai]
theorem qsg (l : List Nd) (ht : Tree l) (a : Int) (h0 : 0 ≤ a) (h1 : a < l.length) (kind : Int) (hk : kind = 1 ∨ kind = 2 ∨ kind = 3) : Con Tryz.prog 97 [ji l, iv a, iv kind] (strs (qcj l a kind)) := by
 have hlen := ht.len
 have hk0 := (ht.kidsLen (j := 0) (by omega)).1
 refine zK {owns := [(7, (9, 1))]} 300 Tryz.func97 (fun c0 rdb => ?_)
 (repeat' ((conv => whnf); first | refine zC 300 (qoz l (by omega) (by omega) _) ?_ | fail))
 ((conv => whnf); refine qo (fun _ => rfl) 300 1 (fun g : Nat × List (List UInt8) => [(9, iv g.1), (7, .own 0 0 0 g.2.length)]) (fun g => [(0, .row [] 9 1 0 g.2.length (encL (fun s => [.str s]) [] g.2))]) (fun g => (g.1 : Int) ≤ a ∧ g.2 = qei l (itemF l a) kind g.1) (fun g => a.toNat - g.1) ((0, [])) (⟨by simp; omega, rfl⟩) qa ⟨qdq (fun k hk => absurd hk (Nat.not_lt_zero k)), trivial⟩ (fun _ => rfl) (by kernel_rfl) ?_; (conv => whnf))
 rintro ⟨i, L⟩ ⟨hi, hL⟩
 simp only at hi hL
 have hle := qlr l (itemF l a) kind i
 have hln : i < l.length → LenOk (l.getD i nd0) := fun h => ht.lens i h
 have hw : i < l.length → (l.getD i nd0).kind = kind → 0 < ((l.getD i nd0).words.length : Int) := fun h e => by have := (hln h).w1; omega
 have hsu := qse l (itemF l a) kind i
 unfold qlp at hsu
 rw [← hL] at hle hsu
 have hin := qls L (by omega) ((l.getD i nd0).words.getD 0 [])
 (repeat' ((conv => whnf); first | refine Ob.auto ?_ | (refine Ob.intro (by (exact ⟨by omega, by first | omega | exact hw (by omega) (by assumption)⟩)) ?_) | refine zC 300 (qoz l (by omega) (by omega) _) ?_ | refine zG 300 (fun hg => qoz l (by omega) (by omega) _) ?_ | refine zE 300 (hin) ?_ | (apply zB <;> intro hb <;> (try simp [-zd] at hb) <;> try (exfalso; omega))))
 ·((conv => whnf); refine ⟨(i + 1, L), ⟨by simp only; omega, by rw [hsu, if_neg hb]⟩, ⟨qa, qa⟩, ⟨qa, qa⟩, ?_⟩; (first | omega | (dsimp only; omega) | skip))
 ·rename_i hkd hor
  ((conv => whnf); refine ⟨(i + 1, L ++ [qeh (l.getD i nd0)]), ⟨by simp only; omega, by rw [hsu, if_pos hkd, if_pos (by simpa using hor), if_neg (by unfold qeh; rw [hb]; decide)]⟩, ⟨qa, qa⟩, ⟨qa, qa⟩, ?_⟩; (first | omega | (dsimp only; omega) | skip))
 ·rename_i hkd hor
  ((conv => whnf); refine ⟨(i + 1, L), ⟨by simp only; omega, by rw [hsu, if_pos hkd, if_pos (by simpa using hor), if_pos (by unfold qeh; exact hb)]⟩, ⟨qa, qa⟩, ⟨qa, qa⟩, ?_⟩; (first | omega | (dsimp only; omega) | skip))
 ·rename_i hkd
  ((conv => whnf); refine ⟨(i + 1, L), ⟨by simp only; omega, by rw [hsu, if_pos hkd, if_neg (by simpa using hb)]⟩, ⟨qa, qa⟩, ⟨qa, qa⟩, ?_⟩; (first | omega | (dsimp only; omega) | skip))
 ·refine Le.of_eq ?_
  rw [qcj, show a.toNat = i by omega, ← hL]; rfl
theorem jjq (l : List Nd) (ht : Tree l) (i : Nat) (h1 : i < l.length) : Con Tryz.prog 78 [ji l, iv i] (.bool (badF l i)) := by
 have hlen := ht.len
 have hln := ht.lens i h1
 have hw1 := hln.w1
 have hw2 := hln.w2
 have n1 := qlr l (itemF l i) 1 i
 have n2 := qlr l (itemF l i) 2 i
 have n3 := qlr l (itemF l i) 3 i
 have e : ∀ k, qcj l i k = qei l (itemF l i) k i := fun k => rfl
 rw [← e] at n1 n2 n3
 refine zK {} 600 Tryz.func78 (fun c0 rdb => ?_)
 (repeat' ((conv => whnf); first | refine Ob.auto ?_ | refine zC 600 (qsg l ht i (by omega) (by omega) 1 (by decide)) ?_ | refine zC 600 (qsg l ht i (by omega) (by omega) 2 (by decide)) ?_ | refine zC 600 (qsg l ht i (by omega) (by omega) 3 (by decide)) ?_ | refine zC 600 (qls (qcj l i 1) (by omega) _) ?_ | refine zC 600 (qls (qcj l i 2) (by omega) _) ?_ | refine zG 600 (fun hg => qls (qcj l i 2) (by omega) _) ?_ | refine zG 600 (fun hg => qls (qcj l i 3) (by omega) _) ?_ | (apply zB <;> intro hb <;> (try simp [-zd] at hb) <;> try (exfalso; omega))))
 all_goals
  refine Le.of_eq (congrArg AV.bool ?_)
  rw [badF]
  ((repeat (first | rw [if_pos (by omega)] | rw [if_neg (by omega)])) <;> rfl)
theorem jjr (l : List Nd) (ht : Tree l) : Con Tryz.prog 46 [ji l] (flt (qgf l).1 (qgf l).2) := by
 have hlen := ht.len
 refine zK {} 300 Tryz.func46 (fun c0 rdb => ?_)
 ((conv => whnf); refine qo (fun _ => rfl) 300 1 (fun i : Nat => [(3, iv i)]) (fun _ => []) (fun i => i ≤ l.length ∧ ∀ j, j < i → badF l j = false) (fun i => l.length - i) (0) (⟨by omega, fun j hj => absurd hj (Nat.not_lt_zero j)⟩) qa qa (fun _ => rfl) (by kernel_rfl) ?_; (conv => whnf))
 intro i hi
 have hr : ∀ j, j < (List.range l.length).length → j < l.length := fun j hj => by simpa using hj
 (repeat' ((conv => whnf); first | refine Ob.auto ?_ | refine zC 300 (jjq l ht i (by omega)) ?_ | (apply zB <;> intro hb <;> (try simp [-zd] at hb) <;> try (exfalso; omega))))
 ·have h1 : i < l.length := by omega
  have := qgb (badF l) (List.range l.length) 0 i (by simpa using h1) (by rw [qge _ _ _ (by omega)]; exact hb) (fun j hj => by rw [qge _ _ _ (by omega)]; exact hi.2 j hj)
  refine Le.of_eq ?_
  rw [qgf, this, if_neg (by omega)]; rfl
 ·((conv => whnf); refine ⟨i + 1, ⟨by omega, qaq hi.2 hb⟩, ⟨qa, qa⟩, ⟨qa, qa⟩, ?_⟩; (first | omega | (dsimp only; omega) | skip))
 ·have := qgc (badF l) (List.range l.length) 0 (fun j hj => by have hj' := hr j hj; rw [qge _ _ _ hj']; exact hi.2 j (by omega))
  refine Le.of_eq ?_
  rw [qgf, this, if_pos (by omega)]; rfl
theorem qsh (n w : Int) : Con Tryz.prog 19 [iv n, iv w] (iv (trim n w)) := by
 have hw : (wid w : Int) = min (max w 1) 16 := by unfold wid; omega
 have hwp := qfa w
 have hp := qfb (wid w) hwp.2
 refine zK {} 300 Tryz.func19 (fun c0 rdb => ?_)
 repeat' ((conv => whnf); first | refine Ob.auto ?_ | (apply zB <;> intro hb <;> (try simp at hb) <;> try (exfalso; omega)) | refine Ob.intro ?_ ?_)
 all_goals
  (conv => whnf); refine qja (fun _ => rfl) 300 1 (fun i : Nat => ⟨[(0, iv n), (1, iv (wid w)), (5, iv (2 ^ i)), (6, iv i)], [], 0⟩)
   (fun i => i ≤ wid w) (fun i => wid w - i) 0 (by omega) ⟨⟨Le.refl _, Le.of_eq (congrArg iv (by omega)), Le.refl _, Le.refl _, trivial⟩, trivial⟩ (fun _ => rfl) (by kernel_rfl) ?_
  intro i hi
  have hpi := qfb i (by omega)
  have hm1 := Int.tmod_lt_of_pos n (show 0 < (2 : Int) ^ i by omega)
  have hm2 := Int.lt_tmod_of_pos n (show 0 < (2 : Int) ^ i by omega)
  have hd : ((2 : Int) ^ i).tdiv 2 = 2 ^ i / 2 := Int.tdiv_eq_ediv_of_nonneg (by omega)
  have ht := jiv n w
  (repeat' ((conv => whnf); first | refine Ob.auto ?_ | (refine Ob.intro (by (exact ⟨by omega, qcn (by omega) (by omega)⟩)) ?_) | (apply zB <;> intro hb <;> (try simp at hb) <;> try (exfalso; omega)) | refine Ob.intro ?_ ?_))
  ·(conv => whnf); refine Exists.intro (i + 1) ⟨by omega, ⟨⟨Le.refl _, Le.refl _, Le.of_eq (congrArg iv (Int.pow_succ 2 i).symm), Le.refl _, trivial⟩, trivial⟩, by omega⟩
  all_goals
   obtain rfl : i = wid w := by omega
   refine Le.of_eq (congrArg (AV.int _) ?_)
   rw [ht]
   (repeat' split) <;> omega
theorem qyr (w : Int) : Con Tryz.prog 85 [iv w] (iv (wid w)) := by
 refine zK {} 300 Tryz.func85 (fun c0 rdb => ?_)
 repeat' ((conv => whnf); first | refine Ob.auto ?_ | (apply zB <;> intro hb <;> (try simp at hb) <;> try (exfalso; omega)) | refine Ob.intro ?_ ?_)
 refine Le.of_eq (congrArg iv ?_)
 unfold wid
 show min (max w 1) 16 = _
 omega
theorem qlt (n w : Int) : Con Tryz.prog 58 [iv n, iv w] (iv (trim n w)) := by
 refine zK {} 300 Tryz.func58 (fun c0 rdb => ?_)
 have hw := qfa w
 have hp := qfb (wid w) hw.2
 have hq := qfb (wid w - 1) (by omega)
 have hh := qop (wid w) hw.1
 have hs1 : shlI .i64 1 (wid w) = 2 ^ wid w := by
  unfold shlI; rw [Int.toNat_natCast, Nat.min_eq_left (by show _ ≤ 64; omega), Int.one_mul]
 have hs2 : shlI .i64 1 ((wid w : Int) - 1) = 2 ^ (wid w - 1) := by
  unfold shlI; rw [show ((wid w : Int) - 1).toNat = wid w - 1 by omega, Nat.min_eq_left (by show _ ≤ 64; omega), Int.one_mul]
 have hbt : bitI .and .i64 n (shlI .i64 1 (wid w) - 1) = n % 2 ^ wid w := by rw [hs1]; exact mask _ hw.2 n
 have h1 := Int.emod_nonneg n (b := 2 ^ wid w) (by omega)
 have h2 := Int.emod_lt_of_pos n (b := 2 ^ wid w) (by omega)
 (repeat' ((conv => whnf); first | refine Ob.auto ?_ | (refine Ob.intro (by (first | exact ⟨by omega, qcn (by omega) (by omega)⟩ | exact qcn (by omega) (by omega))) ?_) | refine zC 300 (qyr _) ?_ | refine zG 300 (fun hg => qyr _) ?_ | (refine zN 300 ?_) | (apply zB <;> intro hb <;> (try simp [-zd] at hb) <;> try (exfalso; omega)) | refine Ob.intro ?_ ?_))
 all_goals
  refine Le.of_eq (congrArg (AV.int _) ?_)
  unfold trim
  split <;> omega
theorem qsi (b : Bool) : Con Tryz.prog 59 [.bool b] (iv (if b then 1 else 0)) := by
 refine zK {} 300 Tryz.func59 (fun c0 rdb => ?_)
 repeat' ((conv => whnf); first | refine Ob.auto ?_ | (refine Br.intro (fun hb => ?_) (fun hb => ?_)) | refine Ob.intro ?_ ?_)
 all_goals subst hb; exact Le.refl _
theorem qys (n w : Int) : Con Tryz.prog 31 [iv n, iv w] (.bool (trim n w == n)) := by
 refine zK {} 300 Tryz.func31 (fun c0 rdb => ?_)
 (repeat' ((conv => whnf); first | refine Ob.auto ?_ | refine zC 300 (qlt _ _) ?_ | refine zG 300 (fun hg => qlt _ _) ?_ | (refine zN 300 ?_) | (apply zB <;> intro hb <;> (try simp [-zd] at hb) <;> try (exfalso; omega)) | refine Ob.intro ?_ ?_))
 exact Le.refl _
theorem jjs (op a b : Int) (h : -32768 ≤ a ∧ a ≤ 32768) (h' : -32768 ≤ b ∧ b ≤ 32768) : Con Tryz.prog 60 [iv op, iv a, iv b] (qxr op a b) := by
 have hm := jiw h h'
 have hd := jix a b h
 refine zK {} 300 Tryz.func60 (fun c0 rdb => ?_)
 (repeat' ((conv => whnf); first | refine Ob.auto ?_ | (refine Ob.intro (by (first | exact qcn (by omega) (by omega) | exact ⟨by assumption, qcn (by omega) (by omega)⟩)) ?_) | refine zC 300 (qlt _ _) ?_ | refine zG 300 (fun hg => qlt _ _) ?_ | refine zC 300 (qsi _) ?_ | refine zG 300 (fun hg => qsi _) ?_ | (refine zN 300 ?_) | (apply zB <;> intro hb <;> (try simp [-zd] at hb) <;> try (exfalso; omega)) | refine Ob.intro ?_ ?_))
 all_goals
  refine Le.of_eq ?_
  simp [qxr, qic, qjn, *]
theorem qpa (l : List Int) (k n : Int) (hk : 0 ≤ k) (hn : 1 ≤ n ∧ n ≤ 1000001) : Con Tryz.prog 18 [ints l, iv k, iv n] (iv (qax l k n)) := by
 refine zK {} 300 Tryz.func18 (fun c0 rdb => ?_)
 have hpt := jiu l k n hk (by omega)
 by_cases hl : l = []
 ·subst hl
  repeat' ((conv => whnf); first | refine Ob.auto ?_ | (apply zB <;> intro hb <;> (try simp at hb) <;> try (exfalso; omega)) | refine Ob.intro ?_ ?_)
  exact Le.refl _
 ·have hl' : 0 < l.length := List.length_pos_iff.2 hl
  have hkm : k.tmod l.length = k % l.length := Int.tmod_eq_emod_of_nonneg hk
  have h1 := Int.emod_nonneg k (b := l.length) (by omega)
  have h2 := Int.emod_lt_of_pos k (b := l.length) (by omega)
  have h3 := Int.tmod_lt_of_pos (l.getD (k.tmod l.length).toNat 0) (show 0 < n by omega)
  have h4 := Int.lt_tmod_of_pos (l.getD (k.tmod l.length).toNat 0) (show 0 < n by omega)
  repeat' ((conv => whnf); first | refine Ob.auto ?_ | refine Ob.intro ?_ ?_)
  (conv => whnf); refine Br.intro (fun hb => ?_) (fun hb => ?_)
  ·exfalso; simp at hb; exact hl hb
  have h5 := h3
  have h6 := h4
  simp only [zd] at hpt h5 h6
  (repeat' ((conv => whnf); first | refine Ob.auto ?_ | refine zI ?_ | (apply zB <;> intro hb <;> (try simp at hb) <;> try (exfalso; omega)) | refine Ob.intro ?_ ?_))
  ·refine Le.of_eq (congrArg (AV.int _) ?_)
   rw [hpt, if_neg (by omega), if_pos (by assumption), zd]
  ·refine Le.of_eq (congrArg (AV.int _) ?_)
   rw [hpt, if_neg (by omega), if_neg (Int.not_lt.2 (by assumption)), zd]
end Go.Proofs.YtdoaagphhjggbaaGreatDoor
end
