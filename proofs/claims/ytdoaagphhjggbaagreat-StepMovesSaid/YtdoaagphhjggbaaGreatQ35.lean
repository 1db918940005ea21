/- Some texts of the library, one behind the other. -/
import Derived.Test.YtdoaagphhjggbaaGreatQ34
import Derived.Test.YtdoaagphhjggbaaGreatQ2
import Derived.Test.YtdoaagphhjggbaaGreatQ4
section
/- Contracts: states, by the document's answer. -/
namespace Go.Proofs.YtdoaagphhjggbaaGreat
open List renaming getD_eq_getElem?_getD → zd
open Go Go.Sx Go.RowKit Go.St
set_option maxRecDepth 100000
set_option maxHeartbeats 2000000
theorem jpj (m : Md) (hm : MOk m) : Trip Tryz.prog 38 [m.av] []
  (.agg [.own 3 0 0 m.procs.length, .own 4 0 0 m.vars.length, .own 5 0 0 m.chans.length, iv (-1)])
  [(3, .row [] 3 1 0 m.procs.length (fun _ => [iv 0])), (4, .row [] 3 1 0 m.vars.length (fun i => [iv (m.vars.getD i Vr.none).value])), (5, .row [] 23 1 0 m.chans.length (fun _ => [.nils]))] 6 := by
 have hsz := hm.sz
 refine qdo (T := tab Tryz.prog) (C := {}) 300 (fun _ => rfl) Tryz.func38 rfl (by kernel_rfl) (by kernel_rfl) (fun c0 rdb mpb => ?_)
 (repeat' ((conv => whnf); first | refine Ob.auto ?_ | (refine zN 300 ?_) | (apply zB <;> intro hb <;> (try simp [-zd] at hb) <;> try (exfalso; omega)) | refine Ob.intro ?_ ?_))
 refine qcw 2 0 3 1 rfl rfl ?_
 ((conv => whnf); refine qdp (fun _ => rfl) 300 1 [1, 2, 3] [0, 1] (fun i : Nat => [(4, iv i)]) (fun i => [(2, .box 34 [.own 3 0 0 i, .nils, .nils, iv (-1)]), (3, .row [] 3 1 0 i (fun _ => [iv 0]))]) (fun i => i ≤ m.procs.length) (fun i => m.procs.length - i) (0) (by omega) qa qa (fun _ => rfl) (by kernel_rfl) ?_; (conv => whnf))
 intro i hi
 (repeat' ((conv => whnf); first | refine Ob.auto ?_ | (refine zN 300 ?_) | (apply zB <;> intro hb <;> (try simp [-zd] at hb) <;> try (exfalso; omega)) | refine Ob.intro ?_ ?_))
 ·((conv => whnf); refine ⟨i + 1, by omega, ⟨qa, qa⟩, ⟨qa, qa⟩, ?_⟩; (first | omega | (dsimp only; omega) | skip))
 obtain rfl : i = m.procs.length := by omega
 clear hi hb
 refine qcw 2 1 3 1 rfl rfl ?_
 ((conv => whnf); refine qdp (fun _ => rfl) 300 2 [1, 2, 3] [0, 1, 3] (fun i : Nat => [(5, iv i)]) (fun i => [(2, .box 34 [.own 3 0 0 m.procs.length, .own 4 0 0 i, .nils, iv (-1)]), (4, .row [] 3 1 0 i (fun i => [iv (m.vars.getD i Vr.none).value]))]) (fun i => i ≤ m.vars.length) (fun i => m.vars.length - i) (0) (by omega) qa qa (fun _ => rfl) (by kernel_rfl) ?_; (conv => whnf))
 intro i hi
 (repeat' ((conv => whnf); first | refine Ob.auto ?_ | (refine zN 300 ?_) | (apply zB <;> intro hb <;> (try simp [-zd] at hb) <;> try (exfalso; omega)) | refine Ob.intro ?_ ?_))
 ·((conv => whnf); refine ⟨i + 1, by omega, ⟨qa, qa⟩, ⟨qa, qa⟩, ?_⟩; (first | omega | (dsimp only; omega) | skip))
 obtain rfl : i = m.vars.length := by omega
 clear hi hb
 refine qcw 2 2 23 1 rfl rfl ?_
 ((conv => whnf); refine qdp (fun _ => rfl) 300 3 [1, 2, 3] [0, 1, 3, 4] (fun i : Nat => [(6, iv i)]) (fun i => [(2, .box 34 [.own 3 0 0 m.procs.length, .own 4 0 0 m.vars.length, .own 5 0 0 i, iv (-1)]), (5, .row [] 23 1 0 i (fun i => [.nils]))]) (fun i => i ≤ m.chans.length) (fun i => m.chans.length - i) (0) (by omega) qa qa (fun _ => rfl) (by kernel_rfl) ?_; (conv => whnf))
 intro i hi
 (repeat' ((conv => whnf); first | refine Ob.auto ?_ | (refine zN 300 ?_) | (apply zB <;> intro hb <;> (try simp [-zd] at hb) <;> try (exfalso; omega)) | refine Ob.intro ?_ ?_))
 ·((conv => whnf); refine ⟨i + 1, by omega, ⟨qa, qa⟩, ⟨qa, qa⟩, ?_⟩; (first | omega | (dsimp only; omega) | skip))
 obtain rfl : i = m.chans.length := by omega
 (conv => whnf)
 exact ⟨Le.refl _, qa⟩
theorem jpk (m : Md) (hm : MOk m) (l : List Int) : Con Tryz.prog 12 [m.av, ints l] (qbe m l).av := by
 have hsz := hm.sz
 have hpl := hm.place
 have hch := hm.chan
 refine qd (T := tab Tryz.prog) (C := {}) 300 (fun _ => rfl) Tryz.func12 rfl (by kernel_rfl) (by kernel_rfl) (fun c0 rdb => ?_)
 (repeat' ((conv => whnf); first | refine Ob.auto ?_ | (refine zN 300 ?_) | (apply zB <;> intro hb <;> (try simp [-zd] at hb) <;> try (exfalso; omega)) | refine Ob.intro ?_ ?_))
 ((conv => whnf); refine zT 300 [] (jpj m hm) qa ?_)
 (repeat' ((conv => whnf); first | refine Ob.auto ?_ | (refine zN 300 ?_) | (apply zB <;> intro hb <;> (try simp [-zd] at hb) <;> try (exfalso; omega)) | refine Ob.intro ?_ ?_))
 ((conv => whnf); refine qdp (fun _ => rfl) 300 1 [1, 2, 4, 5] [0, 1, 6, 7, 8] (fun i : Nat => [(6, iv i), (7, iv i)]) (fun i => [(5, .row [] 3 1 0 m.procs.length (fun j => [if j < i then iv (qbx l j (m.procs.getD j Pr.none).places) else iv 0]))]) (fun i => i ≤ m.procs.length) (fun i => m.procs.length - i) (0) (by omega) qa qa (fun _ => rfl) (by kernel_rfl) ?_; (conv => whnf))
 intro i hi
 (repeat' ((conv => whnf); first | refine Ob.auto ?_ | (refine zN 300 ?_) | (apply zB <;> intro hb <;> (try simp [-zd] at hb) <;> try (exfalso; omega)) | refine Ob.intro ?_ ?_))
 ·have hpi := hpl _ (qj m.procs i Pr.none (by omega))
  ((conv => whnf); refine qhr (fun _ => rfl) (by kernel_rfl) 300 [iv (qbx l i (m.procs.getD i Pr.none).places)] (by kernel_rfl) ?_)
  (repeat' ((conv => whnf); first | refine Ob.auto ?_ | (refine Ob.intro (by (first | exact ⟨by omega, by omega⟩ | exact ⟨_, qsl l i (m.procs.getD i Pr.none).places (by omega) (by omega), by rfl, LeL.refl _⟩)) ?_) | (refine zN 300 ?_) | (apply zB <;> intro hb <;> (try simp [-zd] at hb) <;> try (exfalso; omega)) | refine Ob.intro ?_ ?_))
  ((conv => whnf); refine ⟨i + 1, by omega, ⟨qa, qa⟩, ⟨qa, qa⟩, ?_⟩; (first | omega | (dsimp only; omega) | skip))
 obtain rfl : i = m.procs.length := by omega
 clear hi hb
 ((conv => whnf); refine qdp (fun _ => rfl) 300 2 [1, 2, 4, 5] [0, 1, 5, 7, 8] (fun i : Nat => [(6, iv (m.procs.length + i : Nat)), (8, iv i)]) (fun i => [(6, .row [] 3 1 0 m.vars.length (fun j => [if j < i then iv (trim (qbx l (m.procs.length + j : Nat) 256) (m.vars.getD j Vr.none).width) else iv (m.vars.getD j Vr.none).value]))]) (fun i => i ≤ m.vars.length) (fun i => m.vars.length - i) (0) (by omega) qa qa (fun _ => rfl) (by kernel_rfl) ?_; (conv => whnf))
 intro i hi
 (repeat' ((conv => whnf); first | refine Ob.auto ?_ | (refine zN 300 ?_) | (apply zB <;> intro hb <;> (try simp [-zd] at hb) <;> try (exfalso; omega)) | refine Ob.intro ?_ ?_))
 ·((conv => whnf); refine qhr (fun _ => rfl) (by kernel_rfl) 300 [iv (qbx l (m.procs.length + i : Nat) 256), iv (trim (qbx l (m.procs.length + i : Nat) 256) (m.vars.getD i Vr.none).width)] (by kernel_rfl) ?_)
  (repeat' ((conv => whnf); first | refine Ob.auto ?_ | (refine Ob.intro (by (first | exact ⟨by omega, by omega⟩ | exact ⟨_, qsl l (m.procs.length + i : Nat) 256 (by omega) (by omega), by rfl, LeL.refl _⟩ | exact ⟨_, qdi _ (m.vars.getD i Vr.none).width, by rfl, LeL.refl _⟩)) ?_) | (refine zN 300 ?_) | (apply zB <;> intro hb <;> (try simp [-zd] at hb) <;> try (exfalso; omega)) | refine Ob.intro ?_ ?_))
  ((conv => whnf); refine ⟨i + 1, by omega, ⟨qa, qa⟩, ⟨qa, qa⟩, ?_⟩; (first | omega | (dsimp only; omega) | skip))
 obtain rfl : i = m.vars.length := by omega
 clear hi hb
 refine qzy 7 3 1 rfl (fun _ _ => rfl) ?_
 ((conv => whnf); refine qdp (fun _ => rfl) 300 3 [1, 2, 4, 5] [0, 1, 5, 6, 8] (fun i : Nat => [(6, iv (kAt m l i)), (9, iv i)]) (fun i => [(7, .row [9] 23 1 0 m.chans.length (fun k => [.own 9 k 0 (lenQ (nAt m l) i 0 k)])), (9, .fam 3 1 m.chans.length (fun _ => 0) (lenQ (nAt m l) i 0) (fun k q => [iv (qhz m l k q)]))]) (fun i => i ≤ m.chans.length) (fun i => m.chans.length - i) (0) (by omega) qa ⟨qch (fun k _ => by rw [jab]), qgu (fun _ _ => rfl) (fun k _ => (jab _ k).symm) (fun k j _ hj => absurd hj (Nat.not_lt_zero _)), trivial⟩ (fun _ => rfl) (by kernel_rfl) ?_; (conv => whnf))
 intro i hi
 have hci : i < m.chans.length → 0 ≤ (m.chans.getD i Ch.none).room ∧ (m.chans.getD i Ch.none).room ≤ 3 := fun h => hch _ (qj m.chans i Ch.none h)
 have hki := jav m hch l i hi
 (repeat' ((conv => whnf); first | refine Ob.auto ?_ | (refine Ob.intro (by (exact ja (by have := hci (by omega); simp at *; omega) (by have := hci (by omega); simp at *; omega))) ?_) | (refine zN 300 ?_) | (apply zB <;> intro hb <;> (try simp [-zd] at hb) <;> try (exfalso; omega)) | refine Ob.intro ?_ ?_))
 ·have hci := hci (by omega)
  have hpb := qru l (kAt m l i) ((m.chans.getD i Ch.none).room + 1) (by omega)
  have hni : (nAt m l i : Int) = qbx l (kAt m l i) ((m.chans.getD i Ch.none).room + 1) := by unfold nAt; omega
  refine qtz (fun _ => rfl) 300 (res := iv (nAt m l i)) (by rw [hni]; exact qsl l (kAt m l i) ((m.chans.getD i Ch.none).room + 1) (by omega) (by omega)) (by rfl) (by kernel_rfl) ?_
  (repeat' ((conv => whnf); first | refine Ob.auto ?_ | (refine Ob.intro (by (first | exact ⟨by omega, by omega⟩ | exact ja (by omega) (by omega))) ?_) | (refine zN 300 ?_) | (apply zB <;> intro hb <;> (try simp [-zd] at hb) <;> try (exfalso; omega)) | refine Ob.intro ?_ ?_))
  ((conv => whnf); refine qdp (fun _ => rfl) 300 4 [1, 2, 4, 5, 9, 10] [0, 1, 5, 6, 8] (fun q : Nat => [(6, iv (kAt m l i + 1 + q : Nat)), (11, iv q)]) (fun q => [(7, .row [9] 23 1 0 m.chans.length (fun k => [.own 9 k 0 (lenQ (nAt m l) i q k)])), (9, .fam 3 1 m.chans.length (fun _ => 0) (lenQ (nAt m l) i q) (fun k q => [iv (qhz m l k q)]))]) (fun q => q ≤ nAt m l i) (fun q => nAt m l i - q) (0) (by omega) qa qa (fun _ => rfl) (by kernel_rfl) ?_; (conv => whnf))
  intro q hq
  (repeat' ((conv => whnf); first | refine Ob.auto ?_ | (refine Ob.intro (by (first | exact ⟨by omega, by omega⟩ | exact ja (by omega) (by omega))) ?_) | (refine zN 300 ?_) | (apply zB <;> intro hb <;> (try simp [-zd] at hb) <;> try (exfalso; omega)) | refine Ob.intro ?_ ?_))
  ·((conv => whnf); refine qbh (fun _ => rfl) (by kernel_rfl) 300 [.con (iv (qbx l (kAt m l i + 1 + q : Nat) 256)), .con (iv (qhz m l i q))] (by kernel_rfl) ?_)
   (repeat' ((conv => whnf); first | refine Ob.auto ?_ | (refine Ob.intro (by (first | exact ⟨by omega, by omega⟩ | exact ja (by omega) (by omega) | exact ⟨_, qsl l (kAt m l i + 1 + q : Nat) 256 (by omega) (by omega), by rfl, LeL.refl _⟩ | exact ⟨_, qdi _ (m.chans.getD i Ch.none).width, by rfl, LeL.refl _⟩)) ?_) | (refine zN 300 ?_) | (apply zB <;> intro hb <;> (try simp [-zd] at hb) <;> try (exfalso; omega)) | refine Ob.intro ?_ ?_))
   ·have hlq : lenQ (nAt m l) i q (i : Int).toNat = q := qus _ _ _
    refine ⟨by omega, ⟨rfl, rfl⟩, by omega, ?_⟩
    dsimp only
    refine Nat.le_trans (Nat.mul_le_mul_right _ (?_ : _ ≤ 4000001)) (by decide +kernel); omega
   ·exact ⟨⟨⟨rfl, rfl⟩, by omega⟩, by omega, by simp [upd], by simp [upd]⟩
   ·have hlq : lenQ (nAt m l) i q (i : Int).toNat = q := qus _ _ _
    ((conv => whnf); refine ⟨q + 1, by omega, ⟨qa, ⟨⟨⟨rfl, rfl, rfl⟩, rfl, rfl, qzz (by simp [qar, qus]; rfl) (fun j _ hne => by have hne' : j ≠ i := hne; simp [lenQ, hne'])⟩, qgu (fun k _ => by simp [upd]) (fun k _ => by rw [hlq]; exact jkh _ _ _ _) (fun k j _ hj => by rw [hlq] at hj ⊢; exact jkj (g := fun k q => [iv (qhz m l k q)]) rfl (fun hk => by subst hk; simpa [upd] using hj)), trivial⟩⟩, ⟨qa, qa⟩, ?_⟩; (first | omega | (dsimp only; omega) | skip))
  ·obtain rfl : q = nAt m l i := by omega
   ((conv => whnf); refine ⟨i + 1, by omega, ⟨qa, ⟨qch (fun k _ => by rw [jaa]), qgu (fun _ _ => rfl) (fun k _ => jaa _ _ _) (fun _ _ _ _ => rfl), trivial⟩⟩, ⟨qa, qa⟩, ?_⟩; (first | omega | (dsimp only; omega) | skip))
 ·exact ⟨⟨trivial, ⟨rfl, rfl⟩, trivial⟩, ⟨trivial, ⟨rfl, rfl⟩, trivial⟩, ⟨trivial, ⟨rfl, rfl⟩, fun k hk => ⟨⟨hk, ⟨rfl, rfl⟩, trivial⟩, trivial⟩⟩, trivial, trivial⟩
 ·obtain rfl : i = m.chans.length := by omega
  refine Le.agg ⟨Le.slc (by simp [qbe]) (fun j hj => ?_), Le.slc (by simp [qbe]) (fun j hj => ?_), Le.slcL (by simp [qbe]) (fun j hj => ?_), Le.refl _, trivial⟩
  ·show [if j < m.procs.length then iv (qbx l j (m.procs.getD j Pr.none).places) else iv 0] = [iv ((qbe m l).at_.getD j 0)]
   rw [if_pos hj, qbe, qjb _ _ _ _ hj]
  ·show [if j < m.vars.length then iv (trim (qbx l (m.procs.length + j : Nat) 256) (m.vars.getD j Vr.none).width) else iv (m.vars.getD j Vr.none).value] = [iv ((qbe m l).vars.getD j 0)]
   rw [if_pos hj, qbe, qjb _ _ _ _ hj]
  ·show LeL [.slc 1 (lenQ (nAt m l) m.chans.length 0 j) (fun q => [iv (qhz m l j q)])] [ints ((qbe m l).chans.getD j [])]
   rw [jki _ hj, qbe, qjb _ _ _ _ hj]
   refine ⟨Le.slc (by simp) (fun q hq => ?_), trivial⟩
   show [iv (qhz m l j q)] = [iv (((List.range (nAt m l j)).map fun q => qhz m l j q).getD q 0)]
   rw [qjb _ _ _ _ hq]
end Go.Proofs.YtdoaagphhjggbaaGreat
end
section
/- States in plain Lean, more of them. -/
namespace Go.St
open Go Go.Sx
theorem jpl {n n' w : Int} (h : n % 2 ^ wid w = n' % 2 ^ wid w) : trim n w = trim n' w := by
 unfold trim; rw [h]
theorem qpq (n w : Int) : trim (trim n w) w = trim n w := by
 refine jpl ?_
 have h2 := qgy (wid w) (qgx w).2
 have h3 := Int.emod_nonneg n (b := 2 ^ wid w) (by omega)
 have h4 := Int.emod_lt_of_pos n (b := 2 ^ wid w) (by omega)
 unfold trim
 split
 ·rw [Int.sub_emod_right]; exact Int.emod_eq_of_lt h3 h4
 ·exact Int.emod_eq_of_lt h3 h4
theorem jpm {m : Md} (hm : MOk m) (l : List Int) : qw m (qbe m l) = true := by
 refine (qaa m _).2 ⟨⟨by simp [qbe], by simp [qbe], by simp [qbe], by simp [qbe], by simp only [qbe]; omega⟩, fun i hi => ?_, fun i hi => ?_, fun i hi => ?_⟩
 ·have hi' : i < m.procs.length := by simpa [qbe] using hi
  have hp := hm.place _ (qj m.procs i Pr.none hi')
  unfold qki
  rw [qbe, qjb _ _ _ _ hi']
  exact qru _ _ _ (by omega)
 ·have hi' : i < m.vars.length := by simpa [qbe] using hi
  unfold qlx
  rw [qbe, qjb _ _ _ _ hi']
  exact qpq _ _
 ·have hi' : i < m.chans.length := by simpa [qbe] using hi
  have hc := hm.chan _ (qj m.chans i Ch.none hi')
  have hb := qru l (kAt m l i) ((m.chans.getD i Ch.none).room + 1) (by omega)
  have hg : (qbe m l).chans.getD i [] = (List.range (nAt m l i)).map fun q => qhz m l i q := by rw [qbe, qjb _ _ _ _ hi']
  have hlen : ((qbe m l).chans.getD i []).length = nAt m l i := by rw [hg]; simp
  refine ⟨?_, fun k hk => ?_⟩
  ·unfold qjc
   rw [hlen]; unfold nAt; omega
  ·rw [hlen] at hk
   unfold qkj
   rw [hg, qjb _ _ _ _ hk]
   exact qpq _ _
end Go.St
end
section
/- Contract: the first state by the document's answer. -/
namespace Go.Proofs.YtdoaagphhjggbaaGreat
open List renaming getD_eq_getElem?_getD → zd
open Go Go.Sx Go.RowKit Go.St
set_option maxRecDepth 100000
set_option maxHeartbeats 2000000
theorem jpn (m : Md) (hm : MOk m) : Con Tryz.prog 38 [m.av] (qed m).av := by
 have hsz := hm.sz
 refine qd (T := tab Tryz.prog) (C := {}) 300 (fun _ => rfl) Tryz.func38 rfl (by kernel_rfl) (by kernel_rfl) (fun c0 rdb => ?_)
 (repeat' ((conv => whnf); first | refine Ob.auto ?_ | (refine zN 300 ?_) | (apply zB <;> intro hb <;> (try simp [-zd] at hb) <;> try (exfalso; omega)) | refine Ob.intro ?_ ?_))
 refine qcw 2 0 3 1 rfl rfl ?_
 ((conv => whnf); refine qdp (fun _ => rfl) 300 1 [1, 2, 3] [0, 1] (fun i : Nat => [(4, iv i)]) (fun i => [(2, .box 34 [.own 3 0 0 i, .nils, .nils, iv (-1)]), (3, .row [] 3 1 0 i (fun _ => [iv 0]))]) (fun i => i ≤ m.procs.length) (fun i => m.procs.length - i) (0) (by omega) qa qa (fun _ => rfl) (by kernel_rfl) ?_; (conv => whnf))
 intro i hi
 (repeat' ((conv => whnf); first | refine Ob.auto ?_ | (refine zN 300 ?_) | (apply zB <;> intro hb <;> (try simp [-zd] at hb) <;> try (exfalso; omega)) | refine Ob.intro ?_ ?_))
 ·((conv => whnf); refine ⟨i + 1, by omega, ⟨qa, qa⟩, ⟨qa, qa⟩, ?_⟩; (first | omega | (dsimp only; omega) | skip))
 obtain rfl : i = m.procs.length := by omega
 clear hi hb
 refine qcw 2 1 3 1 rfl rfl ?_
 ((conv => whnf); refine qdp (fun _ => rfl) 300 2 [1, 2, 3] [0, 1, 3] (fun i : Nat => [(5, iv i)]) (fun i => [(2, .box 34 [.own 3 0 0 m.procs.length, .own 4 0 0 i, .nils, iv (-1)]), (4, .row [] 3 1 0 i (fun i => [iv (m.vars.getD i Vr.none).value]))]) (fun i => i ≤ m.vars.length) (fun i => m.vars.length - i) (0) (by omega) qa qa (fun _ => rfl) (by kernel_rfl) ?_; (conv => whnf))
 intro i hi
 (repeat' ((conv => whnf); first | refine Ob.auto ?_ | (refine zN 300 ?_) | (apply zB <;> intro hb <;> (try simp [-zd] at hb) <;> try (exfalso; omega)) | refine Ob.intro ?_ ?_))
 ·((conv => whnf); refine ⟨i + 1, by omega, ⟨qa, qa⟩, ⟨qa, qa⟩, ?_⟩; (first | omega | (dsimp only; omega) | skip))
 obtain rfl : i = m.vars.length := by omega
 clear hi hb
 refine qcw 2 2 23 1 rfl rfl ?_
 ((conv => whnf); refine qdp (fun _ => rfl) 300 3 [1, 2, 3] [0, 1, 3, 4] (fun i : Nat => [(6, iv i)]) (fun i => [(2, .box 34 [.own 3 0 0 m.procs.length, .own 4 0 0 m.vars.length, .own 5 0 0 i, iv (-1)]), (5, .row [] 23 1 0 i (fun i => [.nils]))]) (fun i => i ≤ m.chans.length) (fun i => m.chans.length - i) (0) (by omega) qa qa (fun _ => rfl) (by kernel_rfl) ?_; (conv => whnf))
 intro i hi
 (repeat' ((conv => whnf); first | refine Ob.auto ?_ | (refine zN 300 ?_) | (apply zB <;> intro hb <;> (try simp [-zd] at hb) <;> try (exfalso; omega)) | refine Ob.intro ?_ ?_))
 ·((conv => whnf); refine ⟨i + 1, by omega, ⟨qa, qa⟩, ⟨qa, qa⟩, ?_⟩; (first | omega | (dsimp only; omega) | skip))
 obtain rfl : i = m.chans.length := by omega
 (conv => whnf)
 refine Le.agg ⟨Le.slc (by simp [qed]) (fun j hj => ?_), Le.slc (by simp [qed]) (fun j hj => ?_), Le.slcL (by simp [qed]) (fun j hj => ?_), Le.refl _, trivial⟩
 ·show [iv 0] = [iv ((qed m).at_.getD j 0)]
  rw [qed, jaw _ _ _ _ hj]
 ·show [iv (m.vars.getD j Vr.none).value] = [iv ((qed m).vars.getD j 0)]
  rw [qed, jls _ _ _ _ Vr.none hj]
 ·show LeL [.nils] [ints ((qed m).chans.getD j [])]
  rw [qed, jaw _ _ _ _ hj]
  exact ⟨Le.nils _ _, trivial⟩
end Go.Proofs.YtdoaagphhjggbaaGreat
end
section
/- Steps in plain Lean: which moves a state has, and what each does. Nothing of the program. -/
namespace Go.St
open Go Go.Sx
structure Mv where
 kind : Int := 0
 proc : Int := 0
 edge : Int := 0
 chn : Int := 0
deriving DecidableEq
def Mv.cells (v : Mv) : List AV := [iv v.kind, iv v.proc, iv v.edge, iv v.chn]
def Mv.av (v : Mv) : AV := .agg v.cells
def qpr (l : List Mv) : AV := slcL Mv.cells {} 4 l
def qlen (s : Stt) (c : Int) : Int := (s.chans.getD c.toNat []).length
def room (m : Md) (c : Int) : Int := (m.chans.getD c.toNat Ch.none).room
def canB (m : Md) (s : Stt) (p : Nat) (e : Ed) : Bool :=
  (s.at_.getD p 0 == e.frm) && (decide (e.expr < 0) || (val m p s e.expr).2) &&
  (if e.act = 2 then decide (qlen s e.chn < room m e.chn)
   else if e.act = 3 then decide (0 < qlen s e.chn)
   else if e.act = 4 then !((if e.expr < 0 then 0 else (val m p s e.expr).1) == 0)
   else if e.act = 5 then (if e.expr < 0 then 0 else (val m p s e.expr).1) == 0
   else true)
def qm (m : Md) (p : Nat) : List Ed := (m.procs.getD p Pr.none).edges
def qkv (m : Md) (s : Stt) (p : Nat) : List Mv := ((List.range (qm m p).length).filter fun i => canB m s p ((qm m p).getD i Ed.none)).map fun (i : Nat) => ⟨0, p, i, 0⟩
def qps (m : Md) (s : Stt) (c : Nat) : Bool := (m.chans.getD c Ch.none).lossy && decide (0 < qlen s c)
def qpt (m : Md) (s : Stt) (c : Nat) : Bool := (m.chans.getD c Ch.none).copying && decide (0 < qlen s c) && decide (qlen s c < room m c)
def qgj (m : Md) (s : Stt) (c : Nat) : List Mv := (if qps m s c = true then [⟨1, 0, 0, c⟩] else []) ++ (if qpt m s c = true then [⟨2, 0, 0, c⟩] else [])
def qcs (m : Md) (s : Stt) : List Mv :=
 (List.range m.procs.length).flatMap (fun (p : Nat) => if s.holder ≠ -1 ∧ s.holder ≠ p then [] else qkv m s p) ++
 (if s.holder = -1 then (List.range m.chans.length).flatMap (qgj m s) else [])
def qwz (m : Md) (s : Stt) (p : Nat) : Bool := (qm m p).any (canB m s p)
def qcg (m : Md) (s : Stt) (p : Nat) (e : Ed) : Stt :=
 let n := if e.expr < 0 then 0 else (val m p s e.expr).1
 let a := { s with at_ := s.at_.set p e.to, holder := -1 }
 if e.act = 1 then { a with vars := s.vars.set e.var.toNat (trim n (m.vars.getD e.var.toNat Vr.none).width) }
 else if e.act = 2 then { a with chans := s.chans.set e.chn.toNat (s.chans.getD e.chn.toNat [] ++ [trim n (m.chans.getD e.chn.toNat Ch.none).width]) }
 else if e.act = 3 then { a with vars := s.vars.set e.var.toNat (trim ((s.chans.getD e.chn.toNat []).getD 0 0) (m.vars.getD e.var.toNat Vr.none).width), chans := s.chans.set e.chn.toNat ((s.chans.getD e.chn.toNat []).drop 1) }
 else a
def qil (m : Md) (s : Stt) (p : Nat) (e : Ed) : Stt :=
 { qcg m s p e with holder := if e.keep = true ∧ qwz m (qcg m s p e) p = true then (p : Int) else -1 }
def qkw (m : Md) (s : Stt) (v : Mv) : Stt :=
 if v.kind = 1 then { s with chans := s.chans.set v.chn.toNat ((s.chans.getD v.chn.toNat []).drop 1), holder := -1 }
 else if v.kind = 2 then { s with chans := s.chans.set v.chn.toNat (s.chans.getD v.chn.toNat [] ++ [(s.chans.getD v.chn.toNat []).getD 0 0]), holder := -1 }
 else qil m s v.proc.toNat ((qm m v.proc.toNat).getD v.edge.toNat Ed.none)
def qxa (m : Md) (s : Stt) : Bool := (List.range m.procs.length).all fun p => (m.procs.getD p Pr.none).rest.getD (s.at_.getD p 0).toNat false
def qmv (m : Md) (s : Stt) : Bool := (qcs m s).isEmpty && !qxa m s
def badB (m : Md) (s : Stt) : Bool := !qlw m s || m.dead && qmv m s
end Go.St
end
section
/- Contracts: states, by the document's answer: what is safe, what fits, what is the same. -/
namespace Go.Proofs.YtdoaagphhjggbaaGreat
open List renaming getD_eq_getElem?_getD → zd
open Go Go.Sx Go.RowKit Go.St
set_option maxRecDepth 100000
set_option maxHeartbeats 2000000
theorem jpo (m : Md) (hm : MOk m) (s : Stt) (hs : SOk m s) : Con Tryz.prog 48 [m.av, s.av] (.bool (qlw m s)) := by
 have hsz := hm.sz
 have hsf := hm.safe
 refine qd (T := tab Tryz.prog) (C := {}) 300 (fun _ => rfl) Tryz.func48 rfl (by kernel_rfl) (by kernel_rfl) (fun c0 rdb => ?_)
 (repeat' ((conv => whnf); first | refine zO ?_ | refine Ob.auto ?_ | (refine zP 300 ?_) | (apply zB <;> intro hb <;> (try simp [-zd] at hb) <;> try (exfalso; omega)) | refine Ob.intro ?_ ?_))
 ((conv => whnf); refine qp (fun _ => rfl) 300 1 (fun i : Nat => [(5, iv i)]) (fun _ => []) (fun i => i ≤ m.safe.length ∧ ∀ j, j < i → qkg m s (m.safe.getD j 0) = true) (fun i => m.safe.length - i) (0) (⟨by omega, fun j hj => absurd hj (Nat.not_lt_zero j)⟩) qa qa (fun _ => rfl) (by kernel_rfl) ?_; (conv => whnf))
 intro i hi
 have hki : i < m.safe.length → _ := fun h => hsf _ (qj m.safe i 0 h)
 (repeat' ((conv => whnf); first | refine zO ?_ | refine Ob.auto ?_ | refine zC 300 (qfo m hm (-1) s hs m.tree.length (m.safe.getD i 0) (hki (by omega)).1 (hki (by omega)).2 (by omega)) ?_ | refine zG 300 (fun hg => qfo m hm (-1) s hs m.tree.length (m.safe.getD i 0) (hki (by omega)).1 (hki (by omega)).2 (by omega)) ?_ | refine zX (qfo m hm (-1) s hs m.tree.length (m.safe.getD i 0) (hki (by omega)).1 (hki (by omega)).2 (by omega)) ?_ | refine zY (fun hg => qfo m hm (-1) s hs m.tree.length (m.safe.getD i 0) (hki (by omega)).1 (hki (by omega)).2 (by omega)) ?_ | refine zE 300 (qfo m hm (-1) s hs m.tree.length (m.safe.getD i 0) (hki (by omega)).1 (hki (by omega)).2 (by omega)) ?_ | refine zF 300 (fun hg => qfo m hm (-1) s hs m.tree.length (m.safe.getD i 0) (hki (by omega)).1 (hki (by omega)).2 (by omega)) ?_ | (refine zP 300 ?_) | (apply zB <;> intro hb <;> (try simp [-zd] at hb) <;> try (exfalso; omega)) | refine Ob.intro ?_ ?_))
 ·refine Le.of_eq (congrArg AV.bool ?_)
  refine (qoq 0 (j := i) (by omega) ?_).symm
  simp only [qkg, val]
  rcases hb with hb | hb <;> simp [-zd, hb]
 ·((conv => whnf); refine ⟨i + 1, ⟨by omega, qao hi.2 (by simp only [qkg, val]; simp [-zd, hb])⟩, ⟨qa, qa⟩, ⟨qa, qa⟩, ?_⟩; (first | omega | (dsimp only; omega) | skip))
 ·refine Le.of_eq (congrArg AV.bool ?_)
  exact (qop 0 (fun j hj => hi.2 j (by omega))).symm
end Go.Proofs.YtdoaagphhjggbaaGreat
end
