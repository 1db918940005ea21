/- The law StepQueue: messages are received in the order in which they were sent. -/
import Derived.Test.YtdoaagphhjggbaaQ37
import Derived.Test.YtdoaagphhjggbaaQ38
import Derived.Test.YtdoaagphhjggbaaQ2
namespace Go.Proofs.Ytdoaagphhjggbaa
open List renaming getD_eq_getElem?_getD → zd
open Go Go.Sx Go.RowKit Go.St Pa
set_option maxRecDepth 100000
set_option maxHeartbeats 4000000
def i8L (l : List Int) : AV := slcL (fun n => [AV.int .i8 n]) 0 1 l
def sQ (a b v w : Int) (ms : List Int) : Stt := ⟨[a, b], [v, w], [ms], -1⟩
section
variable {k : Nat} {v w : Int} {ms : List Int}
theorem qne (hv : trim v 8 = v) (hw : trim w 8 = w) (hm : ∀ x ∈ ms, trim x 8 = x) (hl : ms.length ≤ k + 1) : qq (qbc (k + 1)) (sQ 2 2 v w ms) = true := by
 refine (qaf _ _).2 ⟨⟨rfl, rfl, rfl, show (-1 : Int) ≤ -1 by decide, show (-1 : Int) < 2 by decide⟩, fun i hi => ?_, fun i hi => ?_, fun i hi => ⟨?_, fun j hj => ?_⟩⟩
 ·have hi : i < 2 := hi
  match i, hi with
  | 0, _ => exact ⟨show (0 : Int) ≤ 2 by decide, show (2 : Int) < 3 by decide⟩
  | 1, _ => exact ⟨show (0 : Int) ≤ 2 by decide, show (2 : Int) < 3 by decide⟩
 ·have hi : i < 2 := hi
  match i, hi with
  | 0, _ => exact hv
  | 1, _ => exact hw
 ·have hi : i < 1 := hi
  match i, hi with
  | 0, _ => exact (show (ms.length : Int) ≤ ((k + 1 : Nat) : Int) by omega)
 ·have hi : i < 1 := hi
  match i, hi with
  | 0, _ => exact hm _ (qo ms j 0 hj)
theorem joy : qbl (qbc (k + 1)) (sQ 2 2 v w ms) ⟨0, 0, 2, 0⟩ = decide ((ms.length : Int) < ((k + 1 : Nat) : Int)) := by kernel_rfl
theorem sendQ : qdv (qbc (k + 1)) (sQ 2 2 v w ms) ⟨0, 0, 2, 0⟩ = sQ 0 2 v w (ms ++ [trim v 8]) := by kernel_rfl
theorem joz : qbl (qbc (k + 1)) (sQ 2 2 v w ms) ⟨0, 1, 2, 0⟩ = decide ((0 : Int) < (ms.length : Int)) := by kernel_rfl
theorem recvQ : qdv (qbc (k + 1)) (sQ 2 2 v w ms) ⟨0, 1, 2, 0⟩ = sQ 2 0 v (trim (ms.getD 0 0) 8) (ms.drop 1) := by kernel_rfl
theorem canR : canB (qbc (k + 1)) (sQ 2 2 v w []) 1 ((qp (qbc (k + 1)) 1).getD 2 ed0) = false := by kernel_rfl
theorem sends (hv : trim v 8 = v) (hw : trim w 8 = w) (hm : ∀ x ∈ ms, trim x 8 = x) (hl : ms.length ≤ k + 1) : doB (qbc (k + 1)) (sQ 2 2 v w ms) ⟨0, 0, 2, 0⟩ = decide (ms.length < k + 1) := by
 unfold doB
 rw [qne hv hw hm hl, joy, Bool.true_and]
 exact decide_eq_decide.2 (by omega)
theorem recvs (hv : trim v 8 = v) (hw : trim w 8 = w) (hm : ∀ x ∈ ms, trim x 8 = x) (hl : ms.length ≤ k + 1) : doB (qbc (k + 1)) (sQ 2 2 v w ms) ⟨0, 1, 2, 0⟩ = decide (0 < ms.length) := by
 unfold doB
 rw [qne hv hw hm hl, joz, Bool.true_and]
 exact decide_eq_decide.2 (by omega)
end
theorem quu {n : Int} (h : -128 ≤ n ∧ n < 128) : trim n 8 = n := by
 rw [trim8]; split <;> omega
theorem jpa (ns : List Int) (r : Int) (hn : ∀ n ∈ ns, -128 ≤ n ∧ n < 128) (hr : 0 ≤ r ∧ r < 256) : Con Try.prog 6 [i8L ns, .int .u8 r] (.bool true) := by
 have hK : 0 ≤ r.tmod 3 ∧ r.tmod 3 < 3 := ⟨Int.tmod_nonneg _ hr.1, Int.tmod_lt_of_pos _ (by decide)⟩
 obtain ⟨k, hk⟩ := Int.eq_ofNat_of_zero_le hK.1
 have hk3 : k < 3 := by omega
 unfold i8L
 refine zK {lit := true} 300 Try.func6 (fun c0 rdb => ?_)
 (repeat' ((conv => whnf); first | refine Ob.auto ?_ | (refine Ob.intro (by (first | exact ⟨by omega, by omega⟩ | exact ⟨show (0:Int) ≤ _ by omega, show _ ≤ (255:Int) by omega⟩ | exact Nat.le_of_ble_eq_true (by kernel_rfl) | exact ⟨rfl, rfl⟩ | decide)) ?_) | refine zC 300 (jop) ?_ | (apply zB <;> intro hb <;> (try simp [-zd] at hb) <;> try (exfalso; omega)) | refine Ob.intro ?_ ?_ | fail))
 ·exact Le.refl _
 ·exact ⟨⟨rfl, rfl⟩, fun i hi => by match i, hi with | 0, _ => exact quy (decide_eq_true ⟨by omega, by omega⟩)⟩
 have e1 : (48 + (1 + r.tmod 3)).toNat.toUInt8 = UInt8.ofNat (48 + (k + 1)) := by rw [hk, show (48 + (1 + (k : Int))).toNat = 48 + (k + 1) by omega]
 ((conv => whnf); refine qdd (fun _ => rfl) 300 (jot hk3) (by rfl) ⟨Le.of_eq (congrArg AV.str (by unfold qnd; rw [← e1]; rfl)), trivial⟩ (by kernel_rfl) ?_)
 (repeat' ((conv => whnf); first | refine Ob.auto ?_ | refine zC 300 (makeQ hk3) ?_ | (apply zB <;> intro hb <;> (try simp [-zd] at hb) <;> try (exfalso; omega))))
 ((conv => whnf); refine zT 300 [] (jnd (qbc (k + 1)) (qqb hk3).ok) qa ?_)
 (repeat' ((conv => whnf); first | refine Ob.auto ?_ | fail))
 refine qkb [2, 7, 9] 9 rfl (by repeat' (first | exact trivial | exact ⟨rfl, rfl⟩ | exact ⟨rfl, rfl, rfl⟩ | assumption | (refine And.intro ?_ ?_) | (intro _))) ?_
 (conv => whnf)
 refine qsf (fun _ => rfl) 300 1 (fun g : Nat × List Int × Int => ⟨[(11, iv g.1), (10, .ptr 9 0), (8, .ptr 2 0), (5, .int .i64 (1 + r.tmod 3)), (4, .bool false), (0, i8L ns)], [(9, .box 34 [ints g.2.1, .own 7 0 0 2, slcL (fun l => [ints l]) [] 1 [ns.take (min g.1 (k + 1))], iv (-1)]), (7, rowI [g.2.2, 0]), (2, .box 29 (qbc (k + 1)).cells)], 10⟩) (fun g => g.1 ≤ ns.length ∧ trim g.2.2 8 = g.2.2) (fun g => ns.length - g.1) (0, [0, 0], 0) ⟨Nat.zero_le _, by decide⟩ (TurnR.of_sub ⟨?_, ?_⟩ (by kernel_rfl)) (by kernel_rfl) ?_
 ·exact qa
 ·refine ⟨⟨rfl, Le.slc rfl (fun j hj => ?_), Le.refl _, Le.slcL rfl (fun j hj => ?_), Le.refl _, trivial⟩, ⟨⟨rfl, rfl, rfl⟩, rfl, rfl, fun j hj => ?_⟩, SoLe.refl _, trivial⟩
  ·have hj : j < 2 := hj
   match j, hj with
   | 0, _ => rfl
   | 1, _ => rfl
  ·have hj : j < 1 := hj
   match j, hj with
   | 0, _ => exact ⟨Le.nils _ _, trivial⟩
  ·have hj : j < 2 := hj
   match j, hj with
   | 0, _ => exact LeL.refl _
   | 1, _ => exact LeL.refl _
 rintro ⟨i, a, v⟩ ⟨hi, htv⟩
 dsimp only at hi htv
 have hw : ∀ n ∈ ns, trim n 8 = n := fun n h => quu (hn n h)
 have hni : i < ns.length → (-128 : Int) ≤ ns.getD i 0 ∧ ns.getD i 0 < 128 := fun h => hn _ (qo ns i 0 h)
 unfold i8L rowI
 (repeat' ((conv => whnf); first | refine zO ?_ | refine Ob.auto ?_ | refine zD 300 ?_ | (apply zB <;> intro hb <;> (try simp [-zd] at hb) <;> try (exfalso; omega)) | refine Ob.intro ?_ ?_ | fail))
 ·obtain ⟨h1, h2⟩ := hni hb
  exact ⟨Int.le_trans (show (-9223372036854775808 : Int) ≤ -128 by decide) h1, Int.le_trans (Int.le_of_lt h2) (show (128 : Int) ≤ 9223372036854775807 by decide)⟩
 ·have hmem := qo ns i 0 hb
  have hM := qqb hk3
  have hwm : ∀ x ∈ ns.take (min i (k + 1)), trim x 8 = x := fun x hx => hw x (List.mem_of_mem_take hx)
  have hlm : (ns.take (min i (k + 1))).length ≤ k + 1 := by rw [List.length_take]; omega
  have hfit := qne (v := ns.getD i 0) (w := 0) (hw _ hmem) (by decide) hwm hlm
  have hsd := sends (v := ns.getD i 0) (w := 0) (hw _ hmem) (by decide) hwm hlm
  refine qul [2, 7, 9] 9 rfl (by repeat' (first | exact trivial | exact ⟨rfl, rfl⟩ | exact ⟨rfl, rfl, rfl⟩ | assumption | (refine And.intro ?_ ?_) | (intro _))) (by repeat' (first | exact trivial | exact ⟨rfl, rfl⟩ | exact ⟨rfl, rfl, rfl⟩ | assumption | (refine And.intro ?_ ?_) | (intro _))) ?_
  by_cases hik : i < k + 1
  ·rw [show (ns.take (min i (k + 1))).length = i by rw [List.length_take]; omega, decide_eq_true hik] at hsd
   unfold doB at hsd
   rw [Bool.and_eq_true] at hsd
   have htr := jox (qbc (k + 1)) hM (sQ 2 2 (ns.getD i 0) 0 (ns.take (min i (k + 1)))) 0 2 hfit hsd.2 rfl rfl
   have hstp := sendQ (k := k) (v := ns.getD i 0) (w := 0) (ms := ns.take (min i (k + 1)))
   rw [hw _ hmem] at hstp
   rw [show qdv (qbc (k + 1)) (sQ 2 2 (ns.getD i 0) 0 (ns.take (min i (k + 1)))) ⟨0, (0 : Nat), (2 : Nat), 0⟩ = _ from hstp] at htr
   ((conv => whnf); refine qhe (fun _ => rfl) 300 [7] htr (by kernel_rfl) ⟨Le.refl _, Le.agg ⟨Le.slc rfl (fun j hj => ?_), Le.refl _, Le.refl _, Le.refl _, trivial⟩, Le.refl _, trivial⟩ ⟨⟨⟨rfl, rfl, rfl⟩, rfl, rfl, fun j hj => ?_⟩, trivial⟩ (by exact qb rfl) (by exact qb rfl) (by kernel_rfl) ?_)
   ·exact match j, hj with
     | 0, _ => rfl
     | 1, _ => rfl
   ·exact match j, hj with
     | 0, _ => LeL.refl _
     | 1, _ => LeL.refl _
   ·have htk : ns.take (min (i + 1) (k + 1)) = ns.take (min i (k + 1)) ++ [ns.getD i 0] := by
     rw [show min (i + 1) (k + 1) = i + 1 by omega, show min i (k + 1) = i by omega, List.take_add_one, zd, List.getElem?_eq_getElem hb]
     rfl
    (repeat' ((conv => whnf); first | refine Ob.auto ?_ | (apply zB <;> intro hb <;> (try simp [-zd] at hb) <;> try (exfalso; omega))))
    (conv => whnf)
    refine ⟨(i + 1, [0, 2], ns.getD i 0), ⟨by dsimp only; omega, hw _ hmem⟩, TurnR.ren 7 32 (by kernel_rfl) renA ⟨⟨⟨rfl, Le.refl _, Le.refl _, Le.of_eq ?_, Le.refl _, trivial⟩, rfl⟩, ⟨⟨⟨rfl, rfl, rfl⟩, rfl, rfl, fun j hj => ?_⟩, rfl⟩, ⟨SoLe.refl _, rfl⟩, trivial⟩, by dsimp only; omega⟩
    ·show slcL (fun l => [ints l]) [] 1 [ns.take (min i (k + 1)) ++ [ns.getD i 0]] = slcL (fun l => [ints l]) [] 1 [ns.take (min (i + 1) (k + 1))]
     rw [htk]
    ·exact LeL.refl _
  ·refine qwi (fun _ => rfl) 300 (jbz (qbc (k + 1)) hM (sQ 2 2 (ns.getD i 0) 0 (ns.take (min i (k + 1)))) (qbu hM hfit) ⟨0, 0, 2, 0⟩ ?_) qsh ⟨Le.refl _, Le.agg ⟨Le.slc rfl (fun j hj => ?_), Le.slc rfl (fun j hj => ?_), Le.refl _, Le.refl _, trivial⟩, Le.refl _, trivial⟩ (by rfl) (by kernel_rfl) ?_
   ·rw [hsd, List.length_take]
    exact decide_eq_false (by omega)
   ·exact match j, hj with
     | 0, _ => rfl
     | 1, _ => rfl
   ·exact match j, hj with
     | 0, _ => rfl
     | 1, _ => rfl
   ·(repeat' ((conv => whnf); first | refine Ob.auto ?_ | (apply zB <;> intro hb <;> (try simp [-zd] at hb) <;> try (exfalso; omega))))
    (conv => whnf)
    refine ⟨(i + 1, [2, 2], ns.getD i 0), ⟨by dsimp only; omega, hw _ hmem⟩, TurnR.of_sub ⟨qa, ⟨⟨rfl, Le.slc rfl (fun j hj => ?_), Le.refl _, Le.of_eq ?_, Le.refl _, trivial⟩, ⟨⟨rfl, rfl, rfl⟩, rfl, rfl, fun j hj => ?_⟩, SoLe.refl _, trivial⟩⟩ (by kernel_rfl), by dsimp only; omega⟩
    ·exact match j, hj with
      | 0, _ => rfl
      | 1, _ => rfl
    ·show slcL (fun l => [ints l]) [] 1 [ns.take (min i (k + 1))] = slcL (fun l => [ints l]) [] 1 [ns.take (min (i + 1) (k + 1))]
     rw [show min (i + 1) (k + 1) = min i (k + 1) by omega]
    ·exact match j, hj with
      | 0, _ => LeL.refl _
      | 1, _ => LeL.refl _
 ·obtain rfl : i = ns.length := by omega
  refine qkb [2, 9] 9 rfl (by repeat' (first | exact trivial | exact ⟨rfl, rfl⟩ | exact ⟨rfl, rfl, rfl⟩ | assumption | (refine And.intro ?_ ?_) | (intro _))) ?_
  (conv => whnf)
  refine qsf (fun _ => rfl) 300 1 (fun g : Nat × List Int × Int × Int => ⟨[(14, iv g.1), (10, .ptr 9 0), (8, .ptr 2 0), (5, .int .i64 (1 + r.tmod 3)), (4, .bool false), (0, i8L ns)], [(9, .box 34 [ints g.2.1, ints [g.2.2.1, g.2.2.2], slcL (fun l => [ints l]) [] 1 [(ns.take (k + 1)).drop g.1], iv (-1)]), (2, .box 29 (qbc (k + 1)).cells)], 10⟩) (fun g => (g.1 ≤ ns.length ∧ g.1 ≤ k + 1) ∧ trim g.2.2.1 8 = g.2.2.1 ∧ trim g.2.2.2 8 = g.2.2.2) (fun g => ns.length - g.1) (0, a, v, 0) ⟨⟨Nat.zero_le _, Nat.zero_le _⟩, htv, by show trim 0 8 = 0; decide⟩ (TurnR.of_sub ⟨qa, ⟨⟨rfl, Le.refl _, Le.slc rfl (fun j hj => ?_), Le.of_eq ?_, Le.refl _, trivial⟩, SoLe.refl _, trivial⟩⟩ (by kernel_rfl)) (by kernel_rfl) ?_
  ·exact match j, hj with
    | 0, _ => rfl
    | 1, _ => rfl
  ·show slcL (fun l => [ints l]) [] 1 [ns.take (min ns.length (k + 1))] = slcL (fun l => [ints l]) [] 1 [(ns.take (k + 1)).drop 0]
   rw [List.drop_zero]
   by_cases h : ns.length ≤ k + 1
   ·rw [Nat.min_eq_left h, List.take_of_length_le (Nat.le_refl _), List.take_of_length_le h]
   ·rw [Nat.min_eq_right (by omega)]
  clear htv
  rintro ⟨j, b, u, w⟩ ⟨⟨hj1, hj2⟩, htu, htw⟩
  dsimp only at hj1 hj2 htu htw
  unfold i8L
  (repeat' ((conv => whnf); first | refine Ob.auto ?_ | (apply zB <;> intro hb <;> (try simp [-zd] at hb) <;> try (exfalso; omega))))
  ·have hM := qqb hk3
   have hdm : ∀ x ∈ (ns.take (k + 1)).drop j, trim x 8 = x := fun x hx => hw x (List.mem_of_mem_take (List.mem_of_mem_drop hx))
   have hdl : ((ns.take (k + 1)).drop j).length ≤ k + 1 := by rw [List.length_drop, List.length_take]; omega
   have hfit := qne (v := u) (w := w) htu htw hdm hdl
   have hrc := recvs (v := u) (w := w) htu htw hdm hdl
   have hj : j < ns.length ∧ j < k + 1 := by omega
   have hhd : ((ns.take (k + 1)).drop j).getD 0 0 = ns.getD j 0 := by
    rw [zd, List.getElem?_drop, List.getElem?_take, if_pos (by omega), Nat.add_zero, ← zd]
   have hdd : ((ns.take (k + 1)).drop j).drop 1 = (ns.take (k + 1)).drop (j + 1) := by rw [List.drop_drop]
   have hnj := hn _ (qo ns j 0 hj.1)
   have hdo := jcb (qbc (k + 1)) hM (sQ 2 2 u w ((ns.take (k + 1)).drop j)) (qbu hM hfit) ⟨0, 1, 2, 0⟩
   unfold qpw at hdo
   rw [hrc, decide_eq_true (show 0 < ((ns.take (k + 1)).drop j).length by rw [List.length_drop, List.length_take]; omega), if_pos rfl, recvQ, hhd, hdd, quu hnj] at hdo
   refine qul [2, 9] 9 rfl (by repeat' (first | exact trivial | exact ⟨rfl, rfl⟩ | exact ⟨rfl, rfl, rfl⟩ | assumption | (refine And.intro ?_ ?_) | (intro _))) (by repeat' (first | exact trivial | exact ⟨rfl, rfl⟩ | exact ⟨rfl, rfl, rfl⟩ | assumption | (refine And.intro ?_ ?_) | (intro _))) ?_
   ((conv => whnf); refine qdd (fun _ => rfl) 300 hdo (by rfl) ⟨Le.refl _, Le.agg ⟨Le.slc rfl (fun j hj => ?_), Le.refl _, Le.refl _, Le.refl _, trivial⟩, Le.refl _, trivial⟩ (by kernel_rfl) ?_)
   ·exact match j, hj with
     | 0, _ => rfl
     | 1, _ => rfl
   ·(repeat' ((conv => whnf); first | refine zO ?_ | refine Ob.auto ?_ | refine zD 300 ?_ | (apply zB <;> intro hb <;> (try simp [-zd] at hb) <;> try (exfalso; omega)) | refine Ob.intro ?_ ?_ | fail))
    ·exact fun _ => ⟨rfl, by decide, show (1 : Int) < 2 by decide⟩
    ·exact fun _ => ⟨rfl, Int.le_trans (show (-9223372036854775808 : Int) ≤ -128 by decide) hnj.1, Int.le_trans (Int.le_of_lt hnj.2) (show (128 : Int) ≤ 9223372036854775807 by decide)⟩
    ·exact absurd rfl hb
    ·(conv => whnf)
     exact ⟨(j + 1, [2, 0], u, ns.getD j 0), ⟨⟨by dsimp only; omega, by dsimp only; omega⟩, htu, quu hnj⟩, TurnR.of_sub ⟨qa, ⟨⟨rfl, Le.refl _, Le.refl _, Le.refl _, Le.refl _, trivial⟩, SoLe.refl _, trivial⟩⟩ (by kernel_rfl), by dsimp only; omega⟩
  ·have hM := qqb hk3
   have hnil : (ns.take (k + 1)).drop j = [] := by
    rw [List.drop_eq_nil_iff, List.length_take]; omega
   have hen := qug (qbc (k + 1)) hM.ok (sQ 2 2 u w []) (qbu hM (qne (k := k) htu htw (fun _ h => absurd h (by simp)) (by simp))) (fun q hq => (hM.pr q hq).ed) 1 2
   unfold qjf at hen
   rw [show canB (qbc (k + 1)) (sQ 2 2 u w []) (1 : Int).toNat ((qp (qbc (k + 1)) (1 : Int).toNat).getD (2 : Int).toNat ed0) = false from canR, Bool.and_false] at hen
   rw [show ((j, b, u, w).fst : Nat) = j from rfl, hnil]
   refine qul [2, 9] 9 rfl (by repeat' (first | exact trivial | exact ⟨rfl, rfl⟩ | exact ⟨rfl, rfl, rfl⟩ | assumption | (refine And.intro ?_ ?_) | (intro _))) (by repeat' (first | exact trivial | exact ⟨rfl, rfl⟩ | exact ⟨rfl, rfl, rfl⟩ | assumption | (refine And.intro ?_ ?_) | (intro _))) ?_
   ((conv => whnf); refine qdd (fun _ => rfl) 300 hen (by rfl) ⟨Le.refl _, Le.agg ⟨Le.slc rfl (fun j hj => ?_), Le.refl _, Le.refl _, Le.refl _, trivial⟩, Le.refl _, Le.refl _, trivial⟩ (by kernel_rfl) ?_)
   ·exact match j, hj with
     | 0, _ => rfl
     | 1, _ => rfl
   ·(repeat' ((conv => whnf); first | refine Ob.auto ?_ | fail))
    exact Le.refl _
end Go.Proofs.Ytdoaagphhjggbaa
