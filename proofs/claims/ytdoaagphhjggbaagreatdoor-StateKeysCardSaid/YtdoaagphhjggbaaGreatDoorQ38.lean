/- Some texts of the library, one behind the other. -/
import Derived.Test.YtdoaagphhjggbaaGreatDoorQ37
import Derived.Test.YtdoaagphhjggbaaGreatDoorQ2
section
namespace Go.Proofs.YtdoaagphhjggbaaGreatDoor
open List renaming getD_eq_getElem?_getD → zd
open Go Go.Sx Go.RowKit Go.St
set_option maxRecDepth 100000
set_option maxHeartbeats 2000000
theorem jnd (m : Md) (hm : MOk m) : Trip Tryz.prog 17 [m.av] []
  (.agg [.own 3 0 0 m.procs.length, .own 4 0 0 m.vars.length, .own 5 0 0 m.chans.length, iv (-1)])
  [(3, .row [] 3 1 0 m.procs.length (fun _ => [iv 0])), (4, .row [] 3 1 0 m.vars.length (fun i => [iv (m.vars.getD i vr0).value])), (5, .row [] 23 1 0 m.chans.length (fun _ => [.nils]))] 6 := by
 have hsz := hm.sz
 refine zL {} 300 Tryz.func17 (fun c0 rdb mpb => ?_)
 refine qda 2 0 3 1 rfl rfl ?_
 ((conv => whnf); refine qgz (fun _ => rfl) 300 1 [1, 2, 3] [0, 1] (fun i : Nat => [(4, iv i)]) (fun i => [(2, .box 34 [.own 3 0 0 i, .nils, .nils, iv (-1)]), (3, .row [] 3 1 0 i (fun _ => [iv 0]))]) (fun i => i ≤ m.procs.length) (fun i => m.procs.length - i) (0) (by omega) qa qa (fun _ => rfl) (by kernel_rfl) ?_; (conv => whnf))
 intro i hi
 (repeat' ((conv => whnf); first | refine Ob.auto ?_ | (apply zB <;> intro hb <;> (try simp [-zd] at hb) <;> try (exfalso; omega))))
 ·((conv => whnf); refine ⟨i + 1, by omega, ⟨qa, qa⟩, ⟨qa, qa⟩, ?_⟩; (first | omega | (dsimp only; omega) | skip))
 obtain rfl : i = m.procs.length := by omega
 clear hi hb
 refine qda 2 1 3 1 rfl rfl ?_
 ((conv => whnf); refine qgz (fun _ => rfl) 300 2 [1, 2, 3] [0, 1, 3] (fun i : Nat => [(5, iv i)]) (fun i => [(2, .box 34 [.own 3 0 0 m.procs.length, .own 4 0 0 i, .nils, iv (-1)]), (4, .row [] 3 1 0 i (fun i => [iv (m.vars.getD i vr0).value]))]) (fun i => i ≤ m.vars.length) (fun i => m.vars.length - i) (0) (by omega) qa qa (fun _ => rfl) (by kernel_rfl) ?_; (conv => whnf))
 intro i hi
 (repeat' ((conv => whnf); first | refine Ob.auto ?_ | (refine zN 300 ?_) | (apply zB <;> intro hb <;> (try simp [-zd] at hb) <;> try (exfalso; omega))))
 ·((conv => whnf); refine ⟨i + 1, by omega, ⟨qa, qa⟩, ⟨qa, qa⟩, ?_⟩; (first | omega | (dsimp only; omega) | skip))
 obtain rfl : i = m.vars.length := by omega
 clear hi hb
 refine qda 2 2 23 1 rfl rfl ?_
 ((conv => whnf); refine qgz (fun _ => rfl) 300 3 [1, 2, 3] [0, 1, 3, 4] (fun i : Nat => [(6, iv i)]) (fun i => [(2, .box 34 [.own 3 0 0 m.procs.length, .own 4 0 0 m.vars.length, .own 5 0 0 i, iv (-1)]), (5, .row [] 23 1 0 i (fun i => [.nils]))]) (fun i => i ≤ m.chans.length) (fun i => m.chans.length - i) (0) (by omega) qa qa (fun _ => rfl) (by kernel_rfl) ?_; (conv => whnf))
 intro i hi
 (repeat' ((conv => whnf); first | refine Ob.auto ?_ | (apply zB <;> intro hb <;> (try simp [-zd] at hb) <;> try (exfalso; omega))))
 ·((conv => whnf); refine ⟨i + 1, by omega, ⟨qa, qa⟩, ⟨qa, qa⟩, ?_⟩; (first | omega | (dsimp only; omega) | skip))
 obtain rfl : i = m.chans.length := by omega
 (conv => whnf)
 exact ⟨Le.refl _, qa⟩
theorem jbn (m : Md) (hm : MOk m) (l : List Int) : Con Tryz.prog 6 [m.av, ints l] (ja m l).av := by
 have hsz := hm.sz
 have hpl := hm.place
 have hch := hm.chan
 refine zK {} 300 Tryz.func6 (fun c0 rdb => ?_)
 ((conv => whnf); refine zT 300 [] (jnd m hm) qa ?_)
 (repeat' ((conv => whnf); first | refine Ob.auto ?_ | fail))
 ((conv => whnf); refine qgz (fun _ => rfl) 300 1 [1, 2, 4, 5] [0, 1, 6, 7, 8] (fun i : Nat => [(6, iv i), (7, iv i)]) (fun i => [(5, .row [] 3 1 0 m.procs.length (fun j => [if j < i then iv (qax l j (m.procs.getD j pr0).places) else iv 0]))]) (fun i => i ≤ m.procs.length) (fun i => m.procs.length - i) (0) (by omega) qa qa (fun _ => rfl) (by kernel_rfl) ?_; (conv => whnf))
 intro i hi
 (repeat' ((conv => whnf); first | refine Ob.auto ?_ | (apply zB <;> intro hb <;> (try simp [-zd] at hb) <;> try (exfalso; omega))))
 ·have hpi := hpl _ (qu m.procs i pr0 (by omega))
  ((conv => whnf); refine qno (fun _ => rfl) (by kernel_rfl) 300 [iv (qax l i (m.procs.getD i pr0).places)] (by kernel_rfl) ?_)
  (repeat' ((conv => whnf); first | refine Ob.auto ?_ | (refine Ob.intro (by (first | exact ⟨by omega, by omega⟩ | exact ⟨_, qpa l i (m.procs.getD i pr0).places (by omega) (by omega), by rfl, LeL.refl _⟩)) ?_) | fail))
  ((conv => whnf); refine ⟨i + 1, by omega, ⟨qa, qa⟩, ⟨qa, qa⟩, ?_⟩; (first | omega | (dsimp only; omega) | skip))
 obtain rfl : i = m.procs.length := by omega
 clear hi hb
 ((conv => whnf); refine qgz (fun _ => rfl) 300 2 [1, 2, 4, 5] [0, 1, 5, 7, 8] (fun i : Nat => [(6, iv (m.procs.length + i : Nat)), (8, iv i)]) (fun i => [(6, .row [] 3 1 0 m.vars.length (fun j => [if j < i then iv (trim (qax l (m.procs.length + j : Nat) 256) (m.vars.getD j vr0).width) else iv (m.vars.getD j vr0).value]))]) (fun i => i ≤ m.vars.length) (fun i => m.vars.length - i) (0) (by omega) qa qa (fun _ => rfl) (by kernel_rfl) ?_; (conv => whnf))
 intro i hi
 (repeat' ((conv => whnf); first | refine Ob.auto ?_ | (apply zB <;> intro hb <;> (try simp [-zd] at hb) <;> try (exfalso; omega))))
 ·((conv => whnf); refine qno (fun _ => rfl) (by kernel_rfl) 300 [iv (qax l (m.procs.length + i : Nat) 256), iv (trim (qax l (m.procs.length + i : Nat) 256) (m.vars.getD i vr0).width)] (by kernel_rfl) ?_)
  (repeat' ((conv => whnf); first | refine Ob.auto ?_ | (refine Ob.intro (by (first | exact ⟨by omega, by omega⟩ | exact ⟨_, qpa l (m.procs.length + i : Nat) 256 (by omega) (by omega), by rfl, LeL.refl _⟩ | exact ⟨_, qsh _ (m.vars.getD i vr0).width, by rfl, LeL.refl _⟩)) ?_) | fail))
  ((conv => whnf); refine ⟨i + 1, by omega, ⟨qa, qa⟩, ⟨qa, qa⟩, ?_⟩; (first | omega | (dsimp only; omega) | skip))
 obtain rfl : i = m.vars.length := by omega
 clear hi hb
 refine jhr 7 3 1 rfl (fun _ _ => rfl) ?_
 ((conv => whnf); refine qgz (fun _ => rfl) 300 3 [1, 2, 4, 5] [0, 1, 5, 6, 8] (fun i : Nat => [(6, iv (kAt m l i)), (9, iv i)]) (fun i => [(7, .row [9] 23 1 0 m.chans.length (fun k => [.own 9 k 0 (lenQ (nAt m l) i 0 k)])), (9, .fam 3 1 m.chans.length (fun _ => 0) (lenQ (nAt m l) i 0) (fun k q => [iv (qfc m l k q)]))]) (fun i => i ≤ m.chans.length) (fun i => m.chans.length - i) (0) (by omega) qa ⟨qdq (fun k _ => by rw [qxa]), qjl (fun _ _ => rfl) (fun k _ => (qxa _ k).symm) (fun k j _ hj => absurd hj (Nat.not_lt_zero _)), trivial⟩ (fun _ => rfl) (by kernel_rfl) ?_; (conv => whnf))
 intro i hi
 have hci : i < m.chans.length → 0 ≤ (m.chans.getD i ch0).room ∧ (m.chans.getD i ch0).room ≤ 3 := fun h => hch _ (qu m.chans i ch0 h)
 have hki := qxv m hch l i hi
 (repeat' ((conv => whnf); first | refine Ob.auto ?_ | (refine Ob.intro (by (exact qcn (by have := hci (by omega); simp at *; omega) (by have := hci (by omega); simp at *; omega))) ?_) | (apply zB <;> intro hb <;> (try simp [-zd] at hb) <;> try (exfalso; omega)) | refine Ob.intro ?_ ?_ | fail))
 ·have hci := hci (by omega)
  have hpb := qjp l (kAt m l i) ((m.chans.getD i ch0).room + 1) (by omega)
  have hni : (nAt m l i : Int) = qax l (kAt m l i) ((m.chans.getD i ch0).room + 1) := by unfold nAt; omega
  refine qvt (fun _ => rfl) 300 (res := iv (nAt m l i)) (by rw [hni]; exact qpa l (kAt m l i) ((m.chans.getD i ch0).room + 1) (by omega) (by omega)) (by rfl) (by kernel_rfl) ?_
  (repeat' ((conv => whnf); first | refine Ob.auto ?_ | fail))
  ((conv => whnf); refine qgz (fun _ => rfl) 300 4 [1, 2, 4, 5, 9, 10] [0, 1, 5, 6, 8] (fun q : Nat => [(6, iv (kAt m l i + 1 + q : Nat)), (11, iv q)]) (fun q => [(7, .row [9] 23 1 0 m.chans.length (fun k => [.own 9 k 0 (lenQ (nAt m l) i q k)])), (9, .fam 3 1 m.chans.length (fun _ => 0) (lenQ (nAt m l) i q) (fun k q => [iv (qfc m l k q)]))]) (fun q => q ≤ nAt m l i) (fun q => nAt m l i - q) (0) (by omega) qa qa (fun _ => rfl) (by kernel_rfl) ?_; (conv => whnf))
  intro q hq
  (repeat' ((conv => whnf); first | refine Ob.auto ?_ | (apply zB <;> intro hb <;> (try simp [-zd] at hb) <;> try (exfalso; omega))))
  ·((conv => whnf); refine qbk (fun _ => rfl) (by kernel_rfl) 300 [.con (iv (qax l (kAt m l i + 1 + q : Nat) 256)), .con (iv (qfc m l i q))] (by kernel_rfl) ?_)
   (repeat' ((conv => whnf); first | refine Ob.auto ?_ | (refine Ob.intro (by (first | exact ⟨by omega, by omega⟩ | exact qcn (by omega) (by omega) | exact ⟨_, qpa l (kAt m l i + 1 + q : Nat) 256 (by omega) (by omega), by rfl, LeL.refl _⟩ | exact ⟨_, qsh _ (m.chans.getD i ch0).width, by rfl, LeL.refl _⟩)) ?_) | refine Ob.intro ?_ ?_ | fail))
   ·have hlq : lenQ (nAt m l) i q (i : Int).toNat = q := qrk _ _ _
    refine ⟨by omega, ⟨rfl, rfl⟩, by omega, ?_⟩
    dsimp only
    refine Nat.le_trans (Nat.mul_le_mul_right _ (?_ : _ ≤ 4000001)) (by decide +kernel); omega
   ·exact ⟨⟨⟨rfl, rfl⟩, by omega⟩, by omega, by simp [upd], by simp [upd]⟩
   ·have hlq : lenQ (nAt m l) i q (i : Int).toNat = q := qrk _ _ _
    ((conv => whnf); refine ⟨q + 1, by omega, ⟨qa, ⟨⟨⟨rfl, rfl, rfl⟩, rfl, rfl, qwy (by simp [qab, qrk]; rfl) (fun j _ hne => by have hne' : j ≠ i := hne; simp [lenQ, hne'])⟩, qjl (fun k _ => by simp [upd]) (fun k _ => by rw [hlq]; exact jht _ _ _ _) (fun k j _ hj => by rw [hlq] at hj ⊢; exact jhv (g := fun k q => [iv (qfc m l k q)]) rfl (fun hk => by subst hk; simpa [upd] using hj)), trivial⟩⟩, ⟨qa, qa⟩, ?_⟩; (first | omega | (dsimp only; omega) | skip))
  ·obtain rfl : q = nAt m l i := by omega
   ((conv => whnf); refine ⟨i + 1, by omega, ⟨qa, ⟨qdq (fun k _ => by rw [qwz]), qjl (fun _ _ => rfl) (fun k _ => qwz _ _ _) (fun _ _ _ _ => rfl), trivial⟩⟩, ⟨qa, qa⟩, ?_⟩; (first | omega | (dsimp only; omega) | skip))
 ·exact ⟨⟨trivial, ⟨rfl, rfl⟩, trivial⟩, ⟨trivial, ⟨rfl, rfl⟩, trivial⟩, ⟨trivial, ⟨rfl, rfl⟩, fun k hk => ⟨⟨hk, ⟨rfl, rfl⟩, trivial⟩, trivial⟩⟩, trivial, trivial⟩
 ·obtain rfl : i = m.chans.length := by omega
  refine Le.agg ⟨Le.slc (by simp [ja]) (fun j hj => ?_), Le.slc (by simp [ja]) (fun j hj => ?_), Le.slcL (by simp [ja]) (fun j hj => ?_), Le.refl _, trivial⟩
  ·show [if j < m.procs.length then iv (qax l j (m.procs.getD j pr0).places) else iv 0] = [iv ((ja m l).at_.getD j 0)]
   rw [if_pos hj, ja, qhd _ _ _ _ hj]
  ·show [if j < m.vars.length then iv (trim (qax l (m.procs.length + j : Nat) 256) (m.vars.getD j vr0).width) else iv (m.vars.getD j vr0).value] = [iv ((ja m l).vars.getD j 0)]
   rw [if_pos hj, ja, qhd _ _ _ _ hj]
  ·show LeL [.slc 1 (lenQ (nAt m l) m.chans.length 0 j) (fun q => [iv (qfc m l j q)])] [ints ((ja m l).chans.getD j [])]
   rw [jhu _ hj, ja, qhd _ _ _ _ hj]
   refine ⟨Le.slc (by simp) (fun q hq => ?_), trivial⟩
   show [iv (qfc m l j q)] = [iv (((List.range (nAt m l j)).map fun q => qfc m l j q).getD q 0)]
   rw [qhd _ _ _ _ hq]
end Go.Proofs.YtdoaagphhjggbaaGreatDoor
end
section
namespace Go.Proofs.YtdoaagphhjggbaaGreatDoor
open Go Go.Sx Go.RowKit Go.St
set_option maxRecDepth 100000
set_option maxHeartbeats 2000000

end Go.Proofs.YtdoaagphhjggbaaGreatDoor
end
section
namespace Go.Proofs.YtdoaagphhjggbaaGreatDoor
open List renaming getD_eq_getElem?_getD → zd
open Go Go.Sx Go.RowKit Go.St
set_option maxRecDepth 100000
set_option maxHeartbeats 2000000
theorem jne (x : Int) (c : Ch) : Con Tryz.prog 32 [iv x, .rptr c.cells] (.bool (!(trim x c.width == x))) := by
 refine zK {} 300 Tryz.func32 (fun c0 rdb => ?_)
 (repeat' ((conv => whnf); first | refine Ob.auto ?_ | refine zC 300 (qys _ _) ?_ | fail))
 exact Le.refl _
theorem jnf (l : List Int) (c : Ch) (hl : l.length ≤ 1000000) : Con Tryz.prog 61 [ints l, .fn 32 [.rptr c.cells]] (iv (idx (fun x => !(trim x c.width == x)) l)) := by
 refine zK {} 300 Tryz.func61 (fun c0 rdb => ?_)
 ((conv => whnf); refine qo (fun _ => rfl) 300 1 (fun i : Nat => [(8, iv i)]) (fun _ => []) (fun i => i ≤ l.length ∧ ∀ j, j < i → (!(trim (l.getD j 0) c.width == l.getD j 0)) = false) (fun i => l.length - i) (0) (⟨by omega, fun j hj => absurd hj (Nat.not_lt_zero j)⟩) qa qa (fun _ => rfl) (by kernel_rfl) ?_; (conv => whnf))
 intro i hi
 (repeat' ((conv => whnf); first | refine Ob.auto ?_ | refine zC 300 (jne _ c) ?_ | (apply zB <;> intro hb <;> (try simp [-zd] at hb) <;> try (exfalso; omega))))
 ·refine Le.of_eq (congrArg (AV.int _) ?_)
  exact (qgb _ l 0 i (by omega) (by simp [-zd, hb]) hi.2).symm
 ·((conv => whnf); refine ⟨i + 1, ⟨by omega, qaq hi.2 (by simp [-zd, hb])⟩, ⟨qa, qa⟩, ⟨qa, qa⟩, ?_⟩; (first | omega | (dsimp only; omega) | skip))
 ·refine Le.of_eq (congrArg (AV.int _) ?_)
  exact (qgc _ l 0 (fun j hj => hi.2 j (by omega))).symm
theorem jng {α : Type} (q : α → Bool) (l : List α) : decide (0 ≤ Go.St.idx q l) = l.any q := by
 unfold Go.St.idx
 cases h : l.findIdx? q with
 | none =>
  rw [List.findIdx?_eq_none_iff] at h
  have : l.any q = false := by rw [Bool.eq_false_iff]; intro h'; rw [List.any_eq_true] at h'; obtain ⟨x, hx, hq⟩ := h'; rw [h x hx] at hq; cases hq
  rw [this]; rfl
 | some i =>
  rw [List.findIdx?_eq_some_iff_getElem] at h
  obtain ⟨h1, h2, _⟩ := h
  have : l.any q = true := by rw [List.any_eq_true]; exact ⟨_, List.getElem_mem h1, h2⟩
  rw [this]; exact decide_eq_true (by simp)
theorem jnh (l : List Int) (c : Ch) (hl : l.length ≤ 1000000) : Con Tryz.prog 33 [ints l, .fn 32 [.rptr c.cells]] (.bool (l.any fun x => !(trim x c.width == x))) := by
 refine zK {} 300 Tryz.func33 (fun c0 rdb => ?_)
 (repeat' ((conv => whnf); first | refine Ob.auto ?_ | refine zC 300 (jnf l c hl) ?_ | fail))
 refine Le.of_eq (congrArg AV.bool ?_)
 exact jng _ l
theorem qmn (m : Md) (s : Stt) (hs : SSz s) : Con Tryz.prog 13 [m.av, s.av] (.bool (qci m s)) := by
 have ha := hs.a
 have hv := hs.v
 have hc := hs.c
 refine zK {} 600 Tryz.func13 (fun c0 rdb => ?_)
 (repeat' ((conv => whnf); first | refine Ob.auto ?_ | (apply zB <;> intro hb <;> (try simp [-zd] at hb) <;> try (exfalso; omega))))
 ·refine Le.of_eq (congrArg AV.bool ?_)
  exact (qxx (by unfold qot; omega)).symm
 have h0 : s.at_.length = m.procs.length ∧ s.vars.length = m.vars.length ∧ s.chans.length = m.chans.length := by omega
 clear hb
 ((conv => whnf); refine qo (fun _ => rfl) 600 1 (fun i : Nat => [(41, iv i)]) (fun _ => []) (fun i => i ≤ s.at_.length ∧ ∀ j, j < i → qou m s j) (fun i => s.at_.length - i) (0) (⟨by omega, fun j hj => absurd hj (Nat.not_lt_zero j)⟩) qa qa (fun _ => rfl) (by kernel_rfl) ?_; (conv => whnf))
 intro i hi
 (repeat' ((conv => whnf); first | refine Ob.auto ?_ | (apply zB <;> intro hb <;> (try simp [-zd] at hb) <;> try (exfalso; omega))))
 ·refine Le.of_eq (congrArg AV.bool ?_)
  exact (jja i (by omega) (by omega)).symm
 ·((conv => whnf); refine ⟨i + 1, ⟨by omega, qaq hi.2 hb⟩, ⟨qa, qa⟩, ⟨qa, qa⟩, ?_⟩; (first | omega | (dsimp only; omega) | skip))
 obtain rfl : i = s.at_.length := by omega
 have hA := hi.2
 clear hi hb
 ((conv => whnf); refine qo (fun _ => rfl) 600 2 (fun i : Nat => [(62, iv i)]) (fun _ => []) (fun i => i ≤ s.vars.length ∧ ∀ j, j < i → qll m s j) (fun i => s.vars.length - i) (0) (⟨by omega, fun j hj => absurd hj (Nat.not_lt_zero j)⟩) qa qa (fun _ => rfl) (by kernel_rfl) ?_; (conv => whnf))
 intro i hi
 (repeat' ((conv => whnf); first | refine Ob.auto ?_ | refine zC 600 (qys _ _) ?_ | (apply zB <;> intro hb <;> (try simp [-zd] at hb) <;> try (exfalso; omega))))
 ·refine Le.of_eq (congrArg AV.bool ?_)
  exact (jjb i (by omega) hb).symm
 ·((conv => whnf); refine ⟨i + 1, ⟨by omega, qaq hi.2 hb⟩, ⟨qa, qa⟩, ⟨qa, qa⟩, ?_⟩; (first | omega | (dsimp only; omega) | skip))
 obtain rfl : i = s.vars.length := by omega
 have hV := hi.2
 clear hi hb
 ((conv => whnf); refine qo (fun _ => rfl) 600 3 (fun i : Nat => [(80, iv i)]) (fun _ => []) (fun i => i ≤ s.chans.length ∧ ∀ j, j < i → qid m s j ∧ ∀ k, k < (s.chans.getD j []).length → qlm m s j k) (fun i => s.chans.length - i) (0) (⟨by omega, fun j hj => absurd hj (Nat.not_lt_zero j)⟩) qa qa (fun _ => rfl) (by kernel_rfl) ?_; (conv => whnf))
 intro i hi
 have hlc : i < s.chans.length → _ := fun h => hs.l _ (qu s.chans i [] h)
 (repeat' ((conv => whnf); first | refine Ob.auto ?_ | refine zF 600 (fun hg => jnh (s.chans.getD i []) (m.chans.getD i ch0) (hlc (by omega))) ?_ | (apply zB <;> intro hb <;> (try simp [-zd] at hb) <;> try (exfalso; omega))))
 ·refine Le.of_eq (congrArg AV.bool ?_)
  rcases hb with hb | ⟨x, hx, hb⟩
  ·exact (jjc i (by omega) (by unfold qid; omega)).symm
  ·obtain ⟨k, hk, hx⟩ := List.mem_iff_getElem.1 hx
   refine (jjd i k (by omega) hk ?_).symm
   have : (s.chans.getD i []).getD k 0 = x := by rw [zd, List.getElem?_eq_getElem hk]; exact hx
   unfold qlm
   rw [this]; exact hb
 ·((conv => whnf); refine ⟨i + 1, ⟨by omega, qaq hi.2 ⟨by unfold qid; omega, fun k hk => hb.2 _ (qu _ k 0 hk)⟩⟩, ⟨qa, qa⟩, ⟨qa, qa⟩, ?_⟩; (first | omega | (dsimp only; omega) | skip))
 ·refine Le.of_eq (congrArg AV.bool ?_)
  by_cases hh : -1 ≤ s.holder ∧ s.holder < m.procs.length
  ·rw [(qhe m s).2 ⟨⟨h0.1, h0.2.1, h0.2.2, hh⟩, hA, hV, fun j hj => hi.2 j (by omega)⟩]
   simp [hh]
  ·rw [qxx (m := m) (s := s) (by unfold qot; omega)]
   simp; omega
end Go.Proofs.YtdoaagphhjggbaaGreatDoor
end
