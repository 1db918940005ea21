/- Some texts of the library, one behind the other. -/
import Derived.Test.YtdoaagphhjggbaaGreatDoorQ40
import Derived.Test.YtdoaagphhjggbaaGreatDoorQ2
import Derived.Test.YtdoaagphhjggbaaGreatDoorQ41
import Derived.Test.YtdoaagphhjggbaaGreatDoorQ39
import Derived.Lib.ItoaLen
section
namespace Go.Proofs.YtdoaagphhjggbaaGreatDoor
open List renaming getD_eq_getElem?_getD → zd
open Go Go.Sx Go.RowKit
set_option maxRecDepth 100000
set_option maxHeartbeats 4000000
def digF (l : List UInt8) : Nat → List AV := fun i => [.int .u8 (((l.getD i 0).toNat : Nat) : Int)]
theorem jbu (ep n : Nat) (F : Nat → List AV) (u : Nat) (hu : u < 18446744073709551616) (hn : n + 20 ≤ 140737488355328) :
  Trip Tryz.prog 68 [.own 0 0 ep n, .int .u64 u, .int .i64 10] [.row [] 5 1 ep n F] (.own 0 0 ep (n + (Lib.decDigits u).length)) [(0, .row [] 5 1 ep (n + (Lib.decDigits u).length) (appF n F (Lib.decDigits u).length (digF (Lib.decDigits u))))] 1 := by
 have hlen : 0 < (Lib.decDigits u).length := by
  rw [Lib.decDigits_length]
  by_cases h10 : u < 10
  ·rw [Lib.nDigits_small h10]; omega
  ·rw [Lib.nDigits_big h10]; omega
 refine jnz Tryz.func68 rfl (by kernel_rfl) [.int .u64 u, .int .i64 10] [.int .u64 u, .int .i64 10] (fun rd mp vs h => ?_) hlen (digF (Lib.decDigits u)) (Lib.byteCells (Lib.decDigits u)) (by rw [Lib.byteCells_length]) (fun k _ => rfl) (fun k j x hk hx => ?_) (fun w sv xs hown ht => ?_)
 ·obtain ⟨h1, h2⟩ := h
  have h3 : vs.toList.length = 2 := by rw [Array.length_toList, h1]; rfl
  obtain ⟨x, y, hv⟩ : ∃ x y, vs = #[x, y] := by
   rcases hv : vs.toList with _ | ⟨x, _ | ⟨y, _ | ⟨z, l⟩⟩⟩ <;> rw [hv] at h3 <;> simp at h3
   exact ⟨x, y, by apply Array.ext'; simpa using hv⟩
  subst hv
  have a1 := h2 0 _ x rfl rfl
  have a2 := h2 1 _ y rfl rfl
  cases a1
  cases a2
  rfl
 ·have hj : j = 0 := by
   have := (List.getElem?_eq_some_iff.1 hx).1
   simp [digF] at this; exact this
  subst hj
  simp only [digF, List.getElem?_cons_zero, Option.some.injEq] at hx
  subst hx
  refine ⟨_, ?_, rfl, .int _ _ _⟩
  simp [Lib.byteCells, List.getElem?_map, List.getElem?_eq_getElem hk, zd]
 ·by_cases h100 : u < 100
  ·exact AnySb.appendUint_small Tryz.laysM288 n u h100 sv xs w hown hn
  ·exact AnySb.appendUint_big Tryz.laysM288 n u (by omega) hu sv xs w hown hn (fun w' h' hb => Any.internal_strconv_numDigits Tryz.laysM284 u (by omega) hu w' (TabIs.on h' hb)) (joa (g := 0) (by kernel_rfl) (ht (_, _) (by unfold tbs; exact List.mem_singleton.2 rfl)))
theorem job (ep n : Nat) (F : Nat → List AV) (i : Int) (h0 : -9223372036854775808 ≤ i) (h1 : i ≤ 9223372036854775807) (hn : n + 21 ≤ 140737488355328) :
  Trip Tryz.prog 36 [.own 0 0 ep n, .int .i64 i, .int .i64 10] [.row [] 5 1 ep n F] (.own 0 0 ep (n + (Lib.itoa i).length)) [(0, .row [] 5 1 ep (n + (Lib.itoa i).length) (appF n F (Lib.itoa i).length (digF (Lib.itoa i))))] 1 := by
 refine zL {wraps := [3, 4, 5, 6, 7, 8, 9, 10, 11, 12, 13, 14, 15, 16]} 300 Tryz.func36 (fun c0 rdb mpb => ?_)
 (repeat' ((conv => whnf); first | refine zA ?_ | refine zO ?_ | refine Ob.auto ?_ | refine zD 300 ?_ | (apply zB <;> intro hb <;> (try simp [-zd] at hb) <;> try (exfalso; omega)) | refine Ob.intro ?_ ?_))
 ·exact ⟨⟨rfl, rfl⟩, by omega, show (n + 1) * 1 ≤ 140737488355328 by omega⟩
 ·have hw : IntKind.u64.wrap (0 - IntKind.u64.wrap i) = ((i.natAbs : Nat) : Int) := by rw [IntKind.wrap_u64, IntKind.wrap_u64]; omega
  ((conv => whnf); refine qji (fun _ => rfl) 300 [0] (jbu ep (n + 1) (appF n F 1 (chop 1 [.int .u8 45])) i.natAbs (by omega) (by omega)) (by kernel_rfl) ⟨Le.refl _, Le.of_eq (congrArg (AV.int _) hw), Le.refl _, trivial⟩ qa (by exact qb rfl) (by exact qb rfl) (by kernel_rfl) ?_)
  (repeat' ((conv => whnf); first | refine zA ?_ | refine zO ?_ | refine Ob.auto ?_ | refine zD 300 ?_ | (apply zB <;> intro hb <;> (try simp [-zd] at hb) <;> try (exfalso; omega)) | refine Ob.intro ?_ ?_))
  have hi : Lib.itoa i = 45 :: Lib.decDigits i.natAbs := by unfold Lib.itoa; rw [if_pos (by omega)]
  have hl : n + 1 + (Lib.decDigits i.natAbs).length = n + (Lib.itoa i).length := by rw [hi, List.length_cons]; omega
  refine ⟨Le.of_eq (congrArg (AV.own 0 0 ep) hl), ⟨⟨rfl, rfl, rfl⟩, rfl, hl, fun k hk => LeL.of_eq ?_⟩, trivial⟩
  have hk : k < n + 1 + (Lib.decDigits i.natAbs).length := hk
  rw [hi]
  show appF (n + 1) (appF n F 1 (chop 1 [.int .u8 45])) (Lib.decDigits i.natAbs).length (digF (Lib.decDigits i.natAbs)) k = appF n F (45 :: Lib.decDigits i.natAbs).length (digF (45 :: Lib.decDigits i.natAbs)) k
  unfold appF
  by_cases h1 : k < n
  ·rw [if_pos (by omega), if_pos h1, if_pos h1]
  ·by_cases h2 : k < n + 1
   ·rw [if_pos h2, if_neg h1, if_pos h2, if_neg h1, if_pos (by simp; omega), show k - n = 0 by omega]
    rfl
   ·rw [if_neg h2, if_pos hk, if_neg h1, if_pos (by simp; omega), show k - n = (k - (n + 1)) + 1 by omega]
    rfl
 ·have hw : IntKind.u64.wrap i = ((i.toNat : Nat) : Int) := by rw [IntKind.wrap_u64]; omega
  have hi : Lib.itoa i = Lib.decDigits i.toNat := by unfold Lib.itoa; rw [if_neg (by omega)]
  rw [hi]
  ((conv => whnf); refine qji (fun _ => rfl) 300 [0] (jbu ep n F i.toNat (by omega) (by omega)) (by kernel_rfl) ⟨Le.refl _, Le.of_eq (congrArg (AV.int _) hw), Le.refl _, trivial⟩ qa (by exact qb rfl) (by exact qb rfl) (by kernel_rfl) ?_)
  (repeat' ((conv => whnf); first | refine zA ?_ | refine zO ?_ | refine Ob.auto ?_ | refine zD 300 ?_ | (apply zB <;> intro hb <;> (try simp [-zd] at hb) <;> try (exfalso; omega)) | refine Ob.intro ?_ ?_))
  exact ⟨Le.refl _, SoLe.refl _, trivial⟩
theorem qtx (ep n : Nat) (F : Nat → List AV) (i : Int) (h0 : -9223372036854775808 ≤ i) (h1 : i ≤ 9223372036854775807) (hn : n + 21 ≤ 140737488355328) :
  Trip Tryz.prog 21 [.own 0 0 ep n, .int .i64 i, .int .i64 10] [.row [] 5 1 ep n F] (.own 0 0 ep (n + (Lib.itoa i).length)) [(0, .row [] 5 1 ep (n + (Lib.itoa i).length) (appF n F (Lib.itoa i).length (digF (Lib.itoa i))))] 1 := by
 refine zL {} 300 Tryz.func21 (fun c0 rdb mpb => ?_)
 (repeat' ((conv => whnf); first | refine zA ?_ | refine zO ?_ | refine Ob.auto ?_ | refine zD 300 ?_ | (apply zB <;> intro hb <;> (try simp [-zd] at hb) <;> try (exfalso; omega)) | refine Ob.intro ?_ ?_))
 ((conv => whnf); refine zT 300 [0] (job ep n F i h0 h1 hn) qa ?_)
 (repeat' ((conv => whnf); first | refine zA ?_ | refine zO ?_ | refine Ob.auto ?_ | refine zD 300 ?_ | (apply zB <;> intro hb <;> (try simp [-zd] at hb) <;> try (exfalso; omega)) | refine Ob.intro ?_ ?_))
 exact ⟨Le.refl _, SoLe.refl _, trivial⟩
end Go.Proofs.YtdoaagphhjggbaaGreatDoor
end
section
namespace Go.Proofs.YtdoaagphhjggbaaGreatDoor
open List renaming getD_eq_getElem?_getD → zd
open Go Go.Sx Go.RowKit Go.St
set_option maxRecDepth 100000
set_option maxHeartbeats 4000000
def qbd (l : List Int) : List UInt8 := Lib.itoa l.length ++ (l.flatMap fun n => 32 :: Lib.itoa n) ++ [59]
def keyT (s : Stt) : List UInt8 := qbd s.at_ ++ qbd s.vars ++ (s.chans.flatMap qbd) ++ Lib.itoa s.holder
def qty (l : List UInt8) : SO := .row [] 5 1 0 l.length (digF l)
theorem qpo (a b : List UInt8) (k : Nat) : appF a.length (digF a) b.length (digF b) k = digF (a ++ b) k ∨ a.length + b.length ≤ k := by
 unfold appF
 by_cases h : k < a.length
 ·left
  rw [if_pos h]; unfold digF
  rw [zd (l := a ++ b), List.getElem?_append_left h, ← zd]
 ·by_cases h2 : k < a.length + b.length
  ·left
   rw [if_neg h, if_pos h2]; unfold digF
   rw [zd (l := a ++ b), List.getElem?_append_right (by omega), ← zd]
  ·right; omega
theorem joc (a b : List UInt8) {c : List UInt8} (hc : a ++ b = c) {ids : List Nat} {e : TypeId} {ep : Nat} {f : Nat → List AV} (hf : ∀ k, k < a.length + b.length → f k = appF a.length (digF a) b.length (digF b) k) : SoLe (.row ids e 1 ep (a.length + b.length) f) (.row ids e 1 ep c.length (digF c)) := by
 subst hc
 refine ⟨⟨rfl, rfl, rfl⟩, rfl, by simp, fun k hk => LeL.of_eq ?_⟩
 rw [hf k hk]
 rcases qpo a b k with h | h
 ·exact h
 ·omega
theorem jbv (a : List UInt8) (x : UInt8) (k : Nat) (h : k < a.length + 1) : appF a.length (digF a) 1 (chop 1 [.int .u8 ((x.toNat : Nat) : Int)]) k = digF (a ++ [x]) k := by
 have h1 := qpo a [x] k
 rcases h1 with h1 | h1
 ·rw [← h1]
  unfold appF
  by_cases h2 : k < a.length
  ·rw [if_pos h2, if_pos h2]
  ·rw [if_neg h2, if_neg h2, if_pos h, if_pos (by simpa using h), show k - a.length = 0 by omega]
   rfl
 ·simp only [List.length_cons, List.length_nil] at h1; omega
theorem jod (a : List UInt8) (x : UInt8) {c : List UInt8} (hc : a ++ [x] = c) {ids : List Nat} {e : TypeId} {ep : Nat} : SoLe (.row ids e 1 ep (a.length + 1) (appF a.length (digF a) 1 (chop 1 [.int .u8 ((x.toNat : Nat) : Int)]))) (.row ids e 1 ep c.length (digF c)) := by
 subst hc
 exact ⟨⟨rfl, rfl, rfl⟩, rfl, by simp, fun k hk => LeL.of_eq (jbv a x k hk)⟩
theorem joe (a : List UInt8) (x : UInt8) (b : List UInt8) {c : List UInt8} (hc : a ++ [x] ++ b = c) {ids : List Nat} {e : TypeId} {ep : Nat} : SoLe (.row ids e 1 ep (a.length + 1 + b.length) (appF (a.length + 1) (appF a.length (digF a) 1 (chop 1 [.int .u8 ((x.toNat : Nat) : Int)])) b.length (digF b))) (.row ids e 1 ep c.length (digF c)) := by
 subst hc
 refine ⟨⟨rfl, rfl, rfl⟩, rfl, by simp; omega, fun k hk => LeL.of_eq ?_⟩
 have h1 := qpo (a ++ [x]) b k
 rw [List.length_append, List.length_singleton] at h1
 rcases h1 with h1 | h1
 ·rw [← h1]
  by_cases h2 : k < a.length + 1
  ·exact (if_pos h2).trans ((jbv a x k h2).trans (if_pos h2).symm)
  ·have hk' : k < a.length + 1 + b.length := hk
   exact ((if_neg h2).trans (if_pos hk')).trans ((if_neg h2).trans (if_pos hk')).symm
 ·omega
def qca (t : List UInt8) (l : List Int) (i : Nat) : List UInt8 := t ++ Lib.itoa l.length ++ (l.take i).flatMap fun n => 32 :: Lib.itoa n
theorem jbw {n : Int} (h : -9223372036854775808 ≤ n ∧ n ≤ 9223372036854775807) : (Lib.itoa n).length ≤ 21 := Lib.itoa_length_le n h.1 h.2
theorem jbx (t : List UInt8) (l : List Int) (hl : l.length ≤ 1000000) (hr : ∀ n ∈ l, -9223372036854775808 ≤ n ∧ n ≤ 9223372036854775807) (i : Nat) : (qca t l i).length ≤ t.length + 21 + 22 * i := by
 have key : ∀ (m : List Int) (i : Nat), (∀ n ∈ m, -9223372036854775808 ≤ n ∧ n ≤ 9223372036854775807) → ((m.take i).flatMap fun n => 32 :: Lib.itoa n).length ≤ 22 * i := by
  intro m
  induction m with
  | nil => intro i _; simp
  | cons x m ih =>
   intro i h
   cases i with
   | zero => simp
   | succ i =>
    rw [List.take_succ_cons, List.flatMap_cons, List.length_append, List.length_cons]
    have h1 := ih i (fun n hn => h n (List.mem_cons_of_mem _ hn))
    have h2 := jbw (h x (List.mem_cons_self ..))
    omega
 have h1 := key l i hr
 have h2 := jbw (n := (l.length : Int)) ⟨by omega, by omega⟩
 unfold qca
 simp only [List.length_append]
 omega
theorem jof (t : List UInt8) (l : List Int) (i : Nat) (hi : i < l.length) : qca t l i ++ [32] ++ Lib.itoa (l.getD i 0) = qca t l (i + 1) := by
 have h : l.take (i + 1) = l.take i ++ [l.getD i 0] := by
  rw [List.take_add_one, zd, List.getElem?_eq_getElem hi]; rfl
 unfold qca
 rw [h, List.flatMap_append]
 simp
theorem jby (t : List UInt8) (l : List Int) : qca t l l.length ++ [59] = t ++ qbd l := by
 unfold qca qbd
 rw [List.take_length]
 simp
theorem qtz (t : List UInt8) (l : List Int) (hl : l.length ≤ 1000000) (hr : ∀ n ∈ l, -9223372036854775808 ≤ n ∧ n ≤ 9223372036854775807) (ht : t.length ≤ 100000000000000) :
  Trip Tryz.prog 20 [ints l, .ptr 0 0] [.box 60 [.own 1 0 0 t.length], qty t] (.tup []) [(0, .box 60 [.own 1 0 0 (t ++ qbd l).length]), (1, qty (t ++ qbd l))] 2 := by
 unfold qty
 refine zL {} 300 Tryz.func20 (fun c0 rdb mpb => ?_)
 (repeat' ((conv => whnf); first | refine zA ?_ | refine zO ?_ | refine Ob.auto ?_ | refine zD 300 ?_ | (apply zB <;> intro hb <;> (try simp [-zd] at hb) <;> try (exfalso; omega)) | refine Ob.intro ?_ ?_))
 ((conv => whnf); refine zT 300 [1] (qtx 0 t.length (digF t) l.length (by omega) (by omega) (by omega)) qa ?_)
 (repeat' ((conv => whnf); first | refine zA ?_ | refine zO ?_ | refine Ob.auto ?_ | refine zD 300 ?_ | (apply zB <;> intro hb <;> (try simp [-zd] at hb) <;> try (exfalso; omega)) | refine Ob.intro ?_ ?_))
 ((conv => whnf); refine qo (fun _ => rfl) 300 1 (fun i : Nat => [(11, iv i)]) (fun i => [(0, .box 60 [.own 1 0 0 (qca t l i).length]), (1, .row [] 5 1 0 (qca t l i).length (digF (qca t l i)))]) (fun i => i ≤ l.length) (fun i => l.length - i) (0) (Nat.zero_le _) qa ⟨⟨rfl, Le.of_eq (congrArg (AV.own 1 0 0) (by simp [qca])), trivial⟩, joc t (Lib.itoa l.length) (by simp [qca]) (fun k _ => rfl), trivial⟩ (fun _ => rfl) (by kernel_rfl) ?_; (conv => whnf))
 intro i hi
 have hle := jbx t l hl hr i
 have hg := fun h : i < l.length => hr _ (qu l i 0 h)
 (repeat' ((conv => whnf); first | refine zA ?_ | refine zO ?_ | refine Ob.auto ?_ | (refine Ob.intro (by (first | exact ⟨by omega, by omega⟩)) ?_) | refine zD 300 ?_ | (apply zB <;> intro hb <;> (try simp [-zd] at hb) <;> try (exfalso; omega)) | refine Ob.intro ?_ ?_))
 ·exact ⟨⟨rfl, rfl⟩, by omega, show (_ + 1) * 1 ≤ 140737488355328 by omega⟩
 ·have hg := hg hb
  ((conv => whnf); refine zT 300 [1] (qtx 0 ((qca t l i).length + 1) (appF (qca t l i).length (digF (qca t l i)) 1 (chop 1 [.int .u8 32])) (l.getD i 0) hg.1 hg.2 (by omega)) qa ?_)
  (repeat' ((conv => whnf); first | refine zA ?_ | refine zO ?_ | refine Ob.auto ?_ | refine zD 300 ?_ | (apply zB <;> intro hb <;> (try simp [-zd] at hb) <;> try (exfalso; omega)) | refine Ob.intro ?_ ?_))
  have hnx := jof t l i hb
  ((conv => whnf); refine ⟨i + 1, by omega, ⟨qa, ⟨⟨rfl, Le.of_eq (congrArg (AV.own 1 0 0) (by rw [← hnx]; simp; omega)), trivial⟩, joe (qca t l i) 32 (Lib.itoa (l.getD i 0)) hnx, trivial⟩⟩, ⟨qa, qa⟩, ?_⟩; (first | omega | (dsimp only; omega) | skip))
 ·exact ⟨⟨rfl, rfl⟩, by omega, show (_ + 1) * 1 ≤ 140737488355328 by omega⟩
 ·obtain rfl : i = l.length := by omega
  have he := jby t l
  exact ⟨Le.refl _, ⟨rfl, Le.of_eq (congrArg (AV.own 1 0 0) (by rw [← he]; simp)), trivial⟩, jod (qca t l l.length) 59 he, trivial⟩
end Go.Proofs.YtdoaagphhjggbaaGreatDoor
end
