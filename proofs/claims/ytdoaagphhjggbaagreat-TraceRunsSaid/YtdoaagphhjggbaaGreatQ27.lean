/- Some texts of the library, one behind the other. -/
import Derived.Test.YtdoaagphhjggbaaGreatQ24
import Derived.Test.YtdoaagphhjggbaaGreatQ26
import Derived.Test.YtdoaagphhjggbaaGreatQ18
import Derived.Test.YtdoaagphhjggbaaGreatQ25
import Derived.Test.YtdoaagphhjggbaaGreatQ2
section
namespace Go.Proofs.YtdoaagphhjggbaaGreat
open List renaming getD_eq_getElem?_getD → zd
open Go Go.Sx Go.RowKit Go.St
set_option maxRecDepth 100000
set_option maxHeartbeats 4000000
theorem qwn (m : Md) (hm : MOk m) (s : Stt) (hf : qg m s = true) (hs : SSz s) (p : Nat) (hp : p < m.procs.length) (e : Ed) {pl : Int} (he : EdOk m.tree.length m.vars.length m.chans.length pl e) :
  Con Tryz.prog 44 [m.av, s.av, iv p, .agg e.cells] (.bool (canB m s p e)) := by
 have hso := qkp hm hf
 have hat : s.at_.length = m.procs.length := ((jc m s).1 hf).1.1
 have hcl := hso.cl
 have hch := he.chn
 have hsv : e.act = 1 ∨ e.act = 2 ∨ e.act = 4 ∨ e.act = 5 → sval m p s e.expr = val m p s e.expr ∧ decide (e.expr < 0) = false := fun h => ⟨if_pos ⟨(he.ex h).1, (he.ex h).2, hf⟩, decide_eq_false (by have := he.ex h; omega)⟩
 have hnx : e.act = 0 ∨ e.act = 3 → decide (e.expr < 0) = true := fun h => decide_eq_true (by have := he.nex h; omega)
 have hac := he.act
 refine zK {} 300 Tryz.func44 (fun c0 rdb => ?_)
 (repeat' ((conv => whnf); first | refine zO ?_ | refine Ob.auto ?_ | refine zC 300 (qwm m hm p s hs e.expr) ?_ | refine zD 300 ?_ | (apply zB <;> intro hb <;> (try simp [-zd] at hb) <;> try (exfalso; omega))))
 all_goals refine Le.of_eq (congrArg AV.bool ?_)
 all_goals unfold canB qlen room
 ·have h : (s.at_.getD p 0 == e.frm) = false := by simpa [-zd] using hb
  rw [h]; rfl
 ·have h : (s.at_.getD p 0 == e.frm) = true := by simp [-zd, *]
  have h0 : e.act = 0 := by assumption
  rw [h, hnx (.inl h0), if_neg (by omega), if_neg (by omega), if_neg (by omega), if_neg (by omega)]; rfl
 ·have h : (s.at_.getD p 0 == e.frm) = true := by simp [-zd, *]
  have h0 : e.act = 3 := by assumption
  rw [h, hnx (.inr h0), if_neg (by omega), if_pos h0]; rfl
 ·have h0 : e.act = 2 := by assumption
  have h : decide (((s.chans.getD e.chn.toNat []).length : Int) < (m.chans.getD e.chn.toNat ch0).room) = false := decide_eq_false (by omega)
  rw [if_pos h0, h, Bool.and_false]
 ·have h : (s.at_.getD p 0 == e.frm) = true := by simp [-zd, *]
  have h0 : e.act = 2 := by assumption
  obtain ⟨h1, h2⟩ := hsv (by omega)
  have h3 : decide (((s.chans.getD e.chn.toNat []).length : Int) < (m.chans.getD e.chn.toNat ch0).room) = true := decide_eq_true (by omega)
  rw [h, h1, h2, if_pos h0, h3, Bool.and_true]; rfl
 ·have h : (s.at_.getD p 0 == e.frm) = true := by simp [-zd, *]
  have h0 : e.act = 4 := by assumption
  obtain ⟨h1, h2⟩ := hsv (by omega)
  rw [h, h1, h2, if_neg (by omega), if_neg (by omega), if_pos h0, if_neg (of_decide_eq_false h2)]; rfl
 ·have h : (s.at_.getD p 0 == e.frm) = true := by simp [-zd, *]
  have h0 : e.act = 5 := by assumption
  obtain ⟨h1, h2⟩ := hsv (by omega)
  rw [h, h1, h2, if_neg (by omega), if_neg (by omega), if_neg (by omega), if_pos h0, if_neg (of_decide_eq_false h2)]; rfl
 ·have h : (s.at_.getD p 0 == e.frm) = true := by simp [-zd, *]
  have h0 : e.act = 1 := by omega
  obtain ⟨h1, h2⟩ := hsv (by omega)
  rw [h, h1, h2, if_neg (by omega), if_neg (by omega), if_neg (by omega), if_neg (by omega), Bool.and_true]; rfl
theorem jej (m : Md) (hm : MOk m) (s : Stt) (hcl : s.chans.length = m.chans.length) (c : Nat) (hc : c < m.chans.length) : Con Tryz.prog 45 [m.av, s.av, iv c] (.bool (qje m s c)) := by
 refine zK {} 300 Tryz.func45 (fun c0 rdb => ?_)
 (repeat' ((conv => whnf); first | refine Ob.auto ?_ | fail))
 exact Le.refl _
theorem jek (m : Md) (hm : MOk m) (s : Stt) (hcl : s.chans.length = m.chans.length) (c : Nat) (hc : c < m.chans.length) : Con Tryz.prog 46 [m.av, s.av, iv c] (.bool (qid m s c)) := by
 refine zK {} 300 Tryz.func46 (fun c0 rdb => ?_)
 (repeat' ((conv => whnf); first | refine zO ?_ | refine Ob.auto ?_ | refine zD 300 ?_ | fail))
 exact Le.refl _
theorem jel (m : Md) (hm : MOk m) (s : Stt) (hf : qg m s = true) (hs : SSz s) (p : Nat) (hp : p < m.procs.length) {pl : Int} (he : ∀ e ∈ edgesOf m p, EdOk m.tree.length m.vars.length m.chans.length pl e) (hn : (edgesOf m p).length ≤ 40000) :
  Con Tryz.prog 83 [m.av, s.av, iv p] (.bool (qok m s p)) := by
 refine zK {} 300 Tryz.func83 (fun c0 rdb => ?_)
 (repeat' ((conv => whnf); first | refine Ob.auto ?_ | fail))
 ((conv => whnf); refine qj (fun _ => rfl) 300 1 (fun i : Nat => [(16, iv i), (6, .bool false)]) (fun _ => []) (fun i => i ≤ (edgesOf m p).length ∧ ∀ j, j < i → canB m s p ((edgesOf m p).getD j ed0) = false) (fun i => (edgesOf m p).length - i) (0) (⟨Nat.zero_le _, fun j hj => absurd hj (Nat.not_lt_zero j)⟩) qa qa (fun _ => rfl) (by kernel_rfl) ?_; (conv => whnf))
 intro i hi
 (repeat' ((conv => whnf); first | refine Ob.auto ?_ | (apply zB <;> intro hb <;> (try simp [-zd] at hb) <;> try (exfalso; omega))))
 ·have hil : i < (edgesOf m p).length := by assumption
  ((conv => whnf); refine qel (fun _ => rfl) 300 (qwn m hm s hf hs p hp ((edgesOf m p).getD i ed0) (he _ (qi _ _ _ hil))) (by rfl) leA (by kernel_rfl) ?_)
  (repeat' ((conv => whnf); first | refine Ob.auto ?_ | (apply zB <;> intro hb <;> (try simp [-zd] at hb) <;> try (exfalso; omega))))
  ·exact Le.of_eq (congrArg AV.bool (List.any_eq_true.2 ⟨_, qi _ _ _ hil, by assumption⟩).symm)
  ·((conv => whnf); refine ⟨i + 1, ⟨hil, jm hi.2 (by assumption)⟩, ⟨qa, qa⟩, ⟨qa, qa⟩, ?_⟩; (first | omega | (dsimp only; omega) | skip))
 ·have hil : (edgesOf m p).length ≤ i := by assumption
  refine Le.of_eq (congrArg AV.bool ?_)
  unfold qok
  rw [Eq.comm, List.any_eq_false]
  intro e hme
  obtain ⟨j, hj, rfl⟩ := List.mem_iff_getElem.1 hme
  have := hi.2 j (by omega)
  rw [zd, List.getElem?_eq_getElem hj] at this
  simp only [Option.getD_some] at this
  rw [this]; decide
def qor (m : Md) (s : Stt) (p e : Int) : Bool := qg m s && decide (0 ≤ p ∧ p < m.procs.length ∧ 0 ≤ e ∧ e < (edgesOf m p.toNat).length) && canB m s p.toNat ((edgesOf m p.toNat).getD e.toNat ed0)
theorem jrr (m : Md) (hm : MOk m) (s : Stt) (hs : SSz s) (he : ∀ q ∈ m.procs, ∀ e ∈ q.edges, EdOk m.tree.length m.vars.length m.chans.length q.places e) (p e : Int) :
  Con Tryz.prog 21 [m.av, s.av, iv p, iv e] (.bool (qor m s p e)) := by
 refine zK {} 300 Tryz.func21 (fun c0 rdb => ?_)
 (repeat' ((conv => whnf); first | refine Ob.auto ?_ | refine zC 300 (qed m s hs) ?_ | (apply zB <;> intro hb <;> (try simp [-zd] at hb) <;> try (exfalso; omega))))
 ·refine Le.of_eq (congrArg AV.bool ?_)
  have hb' : ¬ (qg m s = true ∧ 0 ≤ p ∧ p < m.procs.length ∧ 0 ≤ e ∧ e < (edgesOf m p.toNat).length) := fun ⟨h1, h2, h3, h4, h5⟩ => by
   have h5' : e < (m.procs.getD p.toNat pr0).edges.length := h5
   rcases hb with (((hb | hb) | hb) | hb) | hb
   ·rw [h1] at hb; cases hb
   all_goals omega
  unfold qor
  by_cases h1 : qg m s = true
  ·rw [decide_eq_false (fun h => hb' ⟨h1, h⟩), Bool.and_false]; rfl
  ·rw [Bool.not_eq_true] at h1
   rw [h1]; rfl
 ·obtain ⟨⟨⟨⟨hf, h0⟩, h1⟩, h2⟩, h3⟩ := hb
  obtain ⟨P, rfl⟩ := Int.eq_ofNat_of_zero_le h0
  obtain ⟨E, rfl⟩ := Int.eq_ofNat_of_zero_le h2
  have hP : P < m.procs.length := by omega
  have h3' : (E : Int) < (edgesOf m P).length := h3
  have hE : E < (edgesOf m P).length := by omega
  (repeat' ((conv => whnf); first | refine zA ?_ | refine Ob.auto ?_ | (refine CallY.con (qwn m hm s hf hs P hP ((edgesOf m P).getD E ed0) (he _ (qi _ _ _ hP) _ (qi _ _ _ hE))) (by rfl) leA ?_) | (refine zQ 300 ?_) | fail))
  refine Le.of_eq (congrArg AV.bool ?_)
  unfold qor
  rw [hf, Int.toNat_natCast, Int.toNat_natCast, decide_eq_true ⟨by omega, by omega, by omega, by omega⟩]
  rfl
end Go.Proofs.YtdoaagphhjggbaaGreat
end
section
namespace Go.Proofs.YtdoaagphhjggbaaGreat
open Go Go.Sx Go.RowKit Go.St
set_option maxRecDepth 100000
set_option maxHeartbeats 4000000
theorem qos (m : Md) (hM : ModOk m) (s : Stt) (hf : qg m s = true) (v : Mv) : Con Tryz.prog 50 [m.av, s.av, v.av] (.bool (ji m s v)) := by
 have hs := qbp hM hf
 have hcl := ((jc m s).1 hf).1.2.2.1
 have hen := jrr m hM.ok s hs (fun q hq => (hM.pr q hq).ed)
 obtain ⟨k, p, e, c⟩ := v
 by_cases hc : 0 ≤ c
 ·obtain ⟨c, rfl⟩ := Int.eq_ofNat_of_zero_le hc
  refine zK {} 300 Tryz.func50 (fun c0 rdb => ?_)
  (repeat' ((conv => whnf); first | refine Ob.auto ?_ | refine zG 300 (fun hg => hen p e) ?_ | refine zC 300 (jej m hM.ok s hcl c (by omega)) ?_ | refine zC 300 (jek m hM.ok s hcl c (by omega)) ?_ | (apply zB <;> intro hb <;> (try simp [-List.getD_eq_getElem?_getD] at hb) <;> try (exfalso; omega))))
  all_goals refine Le.of_eq (congrArg AV.bool ?_)
  ·subst hb
   rw [Bool.eq_iff_iff]; simp [ji, qor, hf, and_assoc]
  all_goals (rw [Bool.eq_iff_iff]; simp [ji, *])
  all_goals omega
 ·refine zK {} 300 Tryz.func50 (fun c0 rdb => ?_)
  (repeat' ((conv => whnf); first | refine Ob.auto ?_ | refine zG 300 (fun hg => hen p e) ?_ | (apply zB <;> intro hb <;> (try simp [-List.getD_eq_getElem?_getD] at hb) <;> try (exfalso; omega))))
  all_goals refine Le.of_eq (congrArg AV.bool ?_)
  ·subst hb
   rw [Bool.eq_iff_iff]; simp [ji, qor, hf, and_assoc]
  all_goals (rw [Bool.eq_iff_iff]; simp [ji, *])
  all_goals omega
end Go.Proofs.YtdoaagphhjggbaaGreat
end
section
namespace Go.Proofs.YtdoaagphhjggbaaGreat
open List renaming getD_eq_getElem?_getD → zd
open Go Go.Sx Go.RowKit Go.St
set_option maxRecDepth 100000
set_option maxHeartbeats 4000000
def qp (m : Md) (s : Stt) (i : Nat) : List Mv := (List.range i).flatMap (fun (p : Nat) => if s.holder ≠ -1 ∧ s.holder ≠ p then [] else qic m s p)
def qbq (m : Md) (s : Stt) (p j : Nat) : List Mv := ((List.range j).filter fun i => canB m s p ((edgesOf m p).getD i ed0)).map fun (i : Nat) => ⟨0, p, i, 0⟩
def qaw (m : Md) (s : Stt) (c : Nat) : List Mv := (List.range c).flatMap (qeq m s)
theorem qot (m : Md) (s : Stt) (i : Nat) : qp m s (i + 1) = qp m s i ++ (if s.holder ≠ -1 ∧ s.holder ≠ (i : Int) then [] else qic m s i) := by
 unfold qp
 rw [List.range_succ, List.flatMap_append]; simp
theorem qry (m : Md) (s : Stt) (p j : Nat) : qbq m s p (j + 1) = qbq m s p j ++ (if canB m s p ((edgesOf m p).getD j ed0) = true then [⟨0, p, j, 0⟩] else []) := by
 unfold qbq
 rw [List.range_succ, List.filter_append, List.map_append]
 congr 1
 by_cases h : canB m s p ((edgesOf m p).getD j ed0) = true
 ·rw [if_pos h, List.filter_cons, if_pos h]; rfl
 ·rw [if_neg h, List.filter_cons, if_neg h]; rfl
theorem qie (m : Md) (s : Stt) (c : Nat) : qaw m s (c + 1) = qaw m s c ++ qeq m s c := by
 unfold qaw
 rw [List.range_succ, List.flatMap_append]; simp
theorem jep (m : Md) (s : Stt) (p : Nat) : qbq m s p (edgesOf m p).length = qic m s p := rfl
theorem jrs (m : Md) (s : Stt) (c : Nat) : (qeq m s c).length ≤ 2 := by
 unfold qeq
 rw [List.length_append]
 split <;> split <;> simp
theorem qrz (m : Md) (s : Stt) : ∀ c, (qaw m s c).length ≤ 2 * c
 | 0 => by simp [qaw]
 | c + 1 => by rw [qie, List.length_append]; have := qrz m s c; have := jrs m s c; omega
theorem qwo (m : Md) (s : Stt) (p j : Nat) : (qbq m s p j).length ≤ j := by
 unfold qbq
 rw [List.length_map]
 exact Nat.le_trans (List.length_filter_le _ _) (by simp)
theorem qsa (m : Md) (hM : ModOk m) (s : Stt) : ∀ i, i ≤ m.procs.length → (qp m s i).length ≤ 40000 * i
 | 0, _ => by simp [qp]
 | i + 1, h => by
  have h1 := qsa m hM s i (by omega)
  have h2 := (hM.psz _ (qi m.procs i pr0 (by omega))).1
  have h3 : (qic m s i).length ≤ (edgesOf m i).length := qwo m s i _
  have h4 : (edgesOf m i).length ≤ 40000 := h2
  rw [qot, List.length_append]
  split
  ·simp; omega
  ·omega
theorem qee {α : Type} (enc : α → List AV) (d : α) {l l' : List α} (h : l = l') {ids : List Nat} {e : TypeId} {sz ep : Nat} : SoLe (.row ids e sz ep l.length (encL enc d l)) (.row ids e sz ep l'.length (encL enc d l')) := by
 subst h; exact SoLe.refl _
theorem qes {α : Type} (enc : α → List AV) (d : α) {l l' : List α} {x : α} (h : l ++ [x] = l') {ids : List Nat} {e : TypeId} {sz ep : Nat} {g : Nat → List AV} (hg : g 0 = enc x) : SoLe (.row ids e sz ep (l.length + 1) (appF l.length (encL enc d l) 1 g)) (.row ids e sz ep l'.length (encL enc d l')) := by
 subst h; exact ⟨⟨rfl, rfl, rfl⟩, rfl, by rw [List.length_append]; rfl, quc hg⟩
theorem jeq {α : Type} (enc : α → List AV) (d : α) {l l' : List α} {x y : α} (h : l ++ [x, y] = l') {ids : List Nat} {e : TypeId} {sz ep : Nat} {g g' : Nat → List AV} (hg : g 0 = enc x) (hg' : g' 0 = enc y) : SoLe (.row ids e sz ep (l.length + 1 + 1) (appF (l.length + 1) (appF l.length (encL enc d l) 1 g) 1 g')) (.row ids e sz ep l'.length (encL enc d l')) := by
 have h2 : l ++ [x] ++ [y] = l' := by rw [← h]; simp
 subst h2
 refine ⟨⟨rfl, rfl, rfl⟩, rfl, by rw [List.length_append, List.length_append]; rfl, fun j hj => ?_⟩
 have hlen : (l ++ [x]).length = l.length + 1 := by rw [List.length_append]; rfl
 by_cases hl : j < l.length + 1
 ·have h1 := quc (d := d) (L := l) hg j hl
  have e1 : appF (l.length + 1) (appF l.length (encL enc d l) 1 g) 1 g' j = appF l.length (encL enc d l) 1 g j := if_pos hl
  have e2 : encL enc d (l ++ [x] ++ [y]) j = encL enc d (l ++ [x]) j := by unfold encL; rw [qip, if_pos (by omega)]
  rw [e1, e2]; exact h1
 ·obtain rfl : j = l.length + 1 := by omega
  have e1 : appF (l.length + 1) (appF l.length (encL enc d l) 1 g) 1 g' (l.length + 1) = g' 0 := by unfold appF; rw [if_neg (by omega), if_pos (by omega), Nat.sub_self]
  have e2 : encL enc d (l ++ [x] ++ [y]) (l.length + 1) = enc y := by unfold encL; rw [qip, if_neg (by omega), if_pos hlen.symm]
  rw [e1, e2, hg']; exact LeL.refl _
theorem jer {α : Type} {l l' : List α} {x y : α} (h : l ++ [x, y] = l') (r : Nat) : Le (.own r 0 0 (l.length + 1 + 1)) (.own r 0 0 l'.length) := by
 subst h; exact Le.of_eq (by rw [List.length_append]; rfl)
theorem qge {α : Type} {l l' : List α} {x : α} (h : l ++ [x] = l') (r : Nat) : Le (.own r 0 0 (l.length + 1)) (.own r 0 0 l'.length) := by
 subst h; exact Le.of_eq (by rw [List.length_append]; rfl)
theorem qgf {α : Type} {l l' : List α} (h : l = l') (r : Nat) : Le (.own r 0 0 l.length) (.own r 0 0 l'.length) := by
 subst h; exact Le.refl _
theorem jrt (m : Md) (hM : ModOk m) (s : Stt) (hf : qg m s = true) : Con Tryz.prog 14 [m.av, s.av] (qcj (jo m s)) := by
 have hs := qbp hM hf
 have hft := qed m s hs
 rw [hf] at hft
 have h0 := ((jc m s).1 hf).1
 have hz := hM.sz
 have hpl := qsa m hM s
 have hcl := h0.2.2.1
 have hpz := hM.psz
 refine zK {owns := [(5, (51, 4))]} 300 Tryz.func14 (fun c0 rdb => ?_)
 (repeat' ((conv => whnf); first | refine zC 300 (hft) ?_ | (apply zB <;> intro hb <;> (try simp [-zd] at hb) <;> try (exfalso; omega))))
 ((conv => whnf); refine qj (fun _ => rfl) 300 1 (fun i : Nat => [(18, iv i), (5, .own 2 0 0 (qp m s i).length)]) (fun i => [(2, .row [] 51 4 0 (qp m s i).length (encL Mv.cells {} (qp m s i)))]) (fun i => i ≤ m.procs.length) (fun i => m.procs.length - i) (0) (Nat.zero_le _) qa ⟨qat (fun k hk => absurd hk (Nat.not_lt_zero k)), trivial⟩ (fun _ => rfl) (by kernel_rfl) ?_; (conv => whnf))
 intro i hi
 have hpi := hpl i hi
 (repeat' ((conv => whnf); first | refine Ob.auto ?_ | (apply zB <;> intro hb <;> (try simp [-zd] at hb) <;> try (exfalso; omega))))
 ·have hp1 : qp m s (i + 1) = qp m s i := by rw [qot, if_pos hb, List.append_nil]
  ((conv => whnf); refine ⟨i + 1, by omega, ⟨⟨Le.refl _, Le.of_eq (congrArg (fun l => AV.own 2 0 0 (List.length l)) hp1.symm), trivial⟩, ⟨qee Mv.cells {} hp1.symm, trivial⟩⟩, ⟨qa, qa⟩, ?_⟩; (first | omega | (dsimp only; omega) | skip))
 ·have hp1 : qp m s (i + 1) = qp m s i ++ qic m s i := by rw [qot, if_neg (fun h => h.2 (hb h.1))]
  have hil : i < m.procs.length := by assumption
  have hpe := (hpz _ (qi m.procs i pr0 hil)).1
  have hel : (edgesOf m i).length ≤ 40000 := hpe
  have he0 : qp m s i ++ qbq m s i 0 = qp m s i := List.append_nil _
  ((conv => whnf); refine qio (fun _ => rfl) 300 2 [2, 3, 4, 6, 18, 33, 34, 16, 17] [0, 1, 3] (fun j : Nat => [(35, iv j), (5, .own 2 0 0 (qp m s i ++ qbq m s i j).length)]) (fun j => [(2, .row [] 51 4 0 (qp m s i ++ qbq m s i j).length (encL Mv.cells {} (qp m s i ++ qbq m s i j)))]) (fun j => j ≤ (edgesOf m i).length) (fun j => (edgesOf m i).length - j) (0) (Nat.zero_le _) ⟨Le.refl _, Le.of_eq (congrArg (fun l => AV.own 2 0 0 (List.length l)) he0.symm), trivial⟩ ⟨qee Mv.cells {} he0.symm, trivial⟩ (fun _ => rfl) (by kernel_rfl) ?_; (conv => whnf))
  intro j hj
  have hen := qwo m s i j
  have hsum : (qp m s i ++ qbq m s i j).length ≤ 200000 := by rw [List.length_append]; omega
  generalize hL : qp m s i ++ qbq m s i j = L at hsum ⊢
  (repeat' ((conv => whnf); first | refine Ob.auto ?_ | refine zC 300 (qwn m hM.ok s hf hs i hil ((edgesOf m i).getD j ed0) (edOk hM hil (by exact hb))) ?_ | (apply zB <;> intro hb <;> (try simp [-zd] at hb) <;> try (exfalso; omega))))
  ·have hjl : j < (edgesOf m i).length := by assumption
   have hE : L ++ [⟨0, i, j, 0⟩] = qp m s i ++ qbq m s i (j + 1) := by rw [qry, if_pos hb, ← List.append_assoc, hL]
   ((conv => whnf); refine ⟨j + 1, hjl, ⟨⟨Le.refl _, qge hE 2, trivial⟩, ⟨qes Mv.cells {} hE rfl, trivial⟩⟩, ⟨qa, qa⟩, ?_⟩; (first | omega | (dsimp only; omega) | skip))
  ·have hjl : j < (edgesOf m i).length := by assumption
   have hE : L = qp m s i ++ qbq m s i (j + 1) := by rw [qry, if_neg (by rw [hb]; decide), List.append_nil, hL]
   ((conv => whnf); refine ⟨j + 1, hjl, ⟨⟨Le.refl _, qgf hE 2, trivial⟩, ⟨qee Mv.cells {} hE, trivial⟩⟩, ⟨qa, qa⟩, ?_⟩; (first | omega | (dsimp only; omega) | skip))
  ·have hjl : (edgesOf m i).length ≤ j := by assumption
   obtain rfl : j = (edgesOf m i).length := by omega
   rw [jep, ← hp1] at hL
   ((conv => whnf); refine ⟨i + 1, hil, ⟨⟨Le.refl _, qgf hL.symm 2, trivial⟩, ⟨qee Mv.cells {} hL.symm, trivial⟩⟩, ⟨qa, qa⟩, ?_⟩; (first | omega | (dsimp only; omega) | skip))
 ·have hmv : jo m s = qp m s i := by
   obtain rfl : i = m.procs.length := by omega
   unfold jo
   rw [if_neg (by assumption), List.append_nil]; rfl
  rw [hmv]
  exact Le.refl _
 ·obtain rfl : i = m.procs.length := by omega
  have hmv : jo m s = qp m s m.procs.length ++ qaw m s m.chans.length := by
   unfold jo
   rw [if_pos (by assumption)]; rfl
  have he0 : qp m s m.procs.length ++ qaw m s 0 = qp m s m.procs.length := List.append_nil _
  ((conv => whnf); refine qj (fun _ => rfl) 300 2 (fun c : Nat => [(60, iv c), (5, .own 2 0 0 (qp m s m.procs.length ++ qaw m s c).length)]) (fun c => [(2, .row [] 51 4 0 (qp m s m.procs.length ++ qaw m s c).length (encL Mv.cells {} (qp m s m.procs.length ++ qaw m s c)))]) (fun c => c ≤ m.chans.length) (fun c => m.chans.length - c) (0) (Nat.zero_le _) ⟨Le.refl _, qgf he0.symm 2, trivial⟩ ⟨qee Mv.cells {} he0.symm, trivial⟩ (fun _ => rfl) (by kernel_rfl) ?_; (conv => whnf))
  intro c hc
  have hcn := qrz m s c
  have hsum : (qp m s m.procs.length ++ qaw m s c).length ≤ 200000 := by rw [List.length_append]; omega
  generalize hL : qp m s m.procs.length ++ qaw m s c = L at hsum ⊢
  (repeat' ((conv => whnf); first | refine Ob.auto ?_ | refine zC 300 (jej m hM.ok s hcl c (by omega)) ?_ | refine zC 300 (jek m hM.ok s hcl c (by omega)) ?_ | (apply zB <;> intro hb <;> (try simp [-zd] at hb) <;> try (exfalso; omega))))
  ·have hE : L ++ [⟨1, 0, 0, c⟩, ⟨2, 0, 0, c⟩] = qp m s m.procs.length ++ qaw m s (c + 1) := by rw [qie, ← List.append_assoc, hL]; simp [qeq, *]
   ((conv => whnf); refine ⟨c + 1, by omega, ⟨⟨Le.refl _, jer hE 2, trivial⟩, ⟨jeq Mv.cells {} hE rfl rfl, trivial⟩⟩, ⟨qa, qa⟩, ?_⟩; (first | omega | (dsimp only; omega) | skip))
  ·have hE : L ++ [⟨1, 0, 0, c⟩] = qp m s m.procs.length ++ qaw m s (c + 1) := by rw [qie, ← List.append_assoc, hL]; simp [qeq, *]
   ((conv => whnf); refine ⟨c + 1, by omega, ⟨⟨Le.refl _, qge hE 2, trivial⟩, ⟨qes Mv.cells {} hE rfl, trivial⟩⟩, ⟨qa, qa⟩, ?_⟩; (first | omega | (dsimp only; omega) | skip))
  ·have hE : L ++ [⟨2, 0, 0, c⟩] = qp m s m.procs.length ++ qaw m s (c + 1) := by rw [qie, ← List.append_assoc, hL]; simp [qeq, *]
   ((conv => whnf); refine ⟨c + 1, by omega, ⟨⟨Le.refl _, qge hE 2, trivial⟩, ⟨qes Mv.cells {} hE rfl, trivial⟩⟩, ⟨qa, qa⟩, ?_⟩; (first | omega | (dsimp only; omega) | skip))
  ·have hE : L = qp m s m.procs.length ++ qaw m s (c + 1) := by rw [qie, ← List.append_assoc, hL]; simp [qeq, *]
   ((conv => whnf); refine ⟨c + 1, by omega, ⟨⟨Le.refl _, qgf hE 2, trivial⟩, ⟨qee Mv.cells {} hE, trivial⟩⟩, ⟨qa, qa⟩, ?_⟩; (first | omega | (dsimp only; omega) | skip))
  ·obtain rfl : c = m.chans.length := by omega
   rw [hmv, hL]
   exact Le.refl _
theorem qsb (m : Md) (s : Stt) (c : Nat) : qeq m s c = (if (m.chans.getD c ch0).lossy = true ∧ 0 < (s.chans.getD c []).length then [⟨1, 0, 0, c⟩] else []) ++ (if ((m.chans.getD c ch0).copying = true ∧ 0 < (s.chans.getD c []).length) ∧ ((s.chans.getD c []).length : Int) < (m.chans.getD c ch0).room then [⟨2, 0, 0, c⟩] else []) := by
 unfold qeq qje qid qlen room
 simp only [Int.toNat_natCast, Bool.and_eq_true, decide_eq_true_eq, Int.natCast_pos]
theorem qwp (m : Md) (hM : ModOk m) (s : Stt) (hf : qg m s = true) : Con Tryz.prog 15 [m.av, s.av] (qcj (jo m s)) := by
 have hs := qbp hM hf
 have h0 := ((jc m s).1 hf).1
 have hz := hM.sz
 have hpl := qsa m hM s
 have hcl := h0.2.2.1
 have hpz := hM.psz
 have hh := h0.2.2.2.1
 refine zK {owns := [(5, (51, 4))]} 300 Tryz.func15 (fun c0 rdb => ?_)
 ((conv => whnf); refine qj (fun _ => rfl) 300 1 (fun i : Nat => [(6, iv i), (5, .own 2 0 0 (qp m s i).length)]) (fun i => [(2, .row [] 51 4 0 (qp m s i).length (encL Mv.cells {} (qp m s i)))]) (fun i => i ≤ m.procs.length) (fun i => m.procs.length - i) (0) (Nat.zero_le _) qa ⟨qat (fun k hk => absurd hk (Nat.not_lt_zero k)), trivial⟩ (fun _ => rfl) (by kernel_rfl) ?_; (conv => whnf))
 intro i hi
 have hpi := hpl i hi
 (repeat' ((conv => whnf); first | refine Ob.auto ?_ | (apply zB <;> intro hb <;> (try simp [-zd] at hb) <;> try (exfalso; omega))))
 ·have hp1 : qp m s (i + 1) = qp m s i := by rw [qot, if_pos ⟨by omega, by omega⟩, List.append_nil]
  ((conv => whnf); refine ⟨i + 1, by omega, ⟨⟨Le.refl _, qgf hp1.symm 2, trivial⟩, ⟨qee Mv.cells {} hp1.symm, trivial⟩⟩, ⟨qa, qa⟩, ?_⟩; (first | omega | (dsimp only; omega) | skip))
 ·have hp1 : qp m s (i + 1) = qp m s i ++ qic m s i := by rw [qot, if_neg (fun h => by omega)]
  have hil : i < m.procs.length := by assumption
  have hpe := (hpz _ (qi m.procs i pr0 hil)).1
  have hel : (edgesOf m i).length ≤ 40000 := hpe
  have he0 : qp m s i ++ qbq m s i 0 = qp m s i := List.append_nil _
  ((conv => whnf); refine qj (fun _ => rfl) 300 2 (fun j : Nat => [(7, iv j), (5, .own 2 0 0 (qp m s i ++ qbq m s i j).length)]) (fun j => [(2, .row [] 51 4 0 (qp m s i ++ qbq m s i j).length (encL Mv.cells {} (qp m s i ++ qbq m s i j)))]) (fun j => j ≤ (edgesOf m i).length) (fun j => (edgesOf m i).length - j) (0) (Nat.zero_le _) ⟨Le.refl _, qgf he0.symm 2, trivial⟩ ⟨qee Mv.cells {} he0.symm, trivial⟩ (fun _ => rfl) (by kernel_rfl) ?_; (conv => whnf))
  intro j hj
  have hen := qwo m s i j
  have hsum : (qp m s i ++ qbq m s i j).length ≤ 200000 := by rw [List.length_append]; omega
  generalize hL : qp m s i ++ qbq m s i j = L at hsum ⊢
  (repeat' ((conv => whnf); first | refine Ob.auto ?_ | (apply zB <;> intro hb <;> (try simp [-zd] at hb) <;> try (exfalso; omega))))
  ·have hjl : j < (edgesOf m i).length := by assumption
   ((conv => whnf); refine zQ 300 ?_)
   (repeat' ((conv => whnf); first | refine zA ?_ | refine Ob.auto ?_ | (refine CallY.con (jei m hM.ok s hf i hil ((edgesOf m i).getD j ed0) (edOk hM hil hjl)) (by rfl) leA ?_) | (apply zB <;> intro hb <;> (try simp [-zd] at hb) <;> try (exfalso; omega))))
   ·have hE : L ++ [⟨0, i, j, 0⟩] = qp m s i ++ qbq m s i (j + 1) := by rw [qry, if_pos hb, ← List.append_assoc, hL]
    ((conv => whnf); refine ⟨j + 1, hjl, ⟨⟨Le.refl _, qge hE 2, trivial⟩, ⟨qes Mv.cells {} hE rfl, trivial⟩⟩, ⟨qa, qa⟩, ?_⟩; (first | omega | (dsimp only; omega) | skip))
   ·have hE : L = qp m s i ++ qbq m s i (j + 1) := by rw [qry, if_neg (by rw [hb]; decide), List.append_nil, hL]
    ((conv => whnf); refine ⟨j + 1, hjl, ⟨⟨Le.refl _, qgf hE 2, trivial⟩, ⟨qee Mv.cells {} hE, trivial⟩⟩, ⟨qa, qa⟩, ?_⟩; (first | omega | (dsimp only; omega) | skip))
  ·have hjl : (edgesOf m i).length ≤ j := by assumption
   obtain rfl : j = (edgesOf m i).length := by omega
   rw [jep, ← hp1] at hL
   ((conv => whnf); refine ⟨i + 1, hil, ⟨⟨Le.refl _, qgf hL.symm 2, trivial⟩, ⟨qee Mv.cells {} hL.symm, trivial⟩⟩, ⟨qa, qa⟩, ?_⟩; (first | omega | (dsimp only; omega) | skip))
 ·obtain rfl : i = m.procs.length := by omega
  have he0 : qp m s m.procs.length ++ qaw m s 0 = qp m s m.procs.length := List.append_nil _
  ((conv => whnf); refine qj (fun _ => rfl) 300 2 (fun c : Nat => [(8, iv c), (5, .own 2 0 0 (qp m s m.procs.length ++ qaw m s c).length)]) (fun c => [(2, .row [] 51 4 0 (qp m s m.procs.length ++ qaw m s c).length (encL Mv.cells {} (qp m s m.procs.length ++ qaw m s c)))]) (fun c => c ≤ m.chans.length ∧ (s.holder = -1 ∨ c = 0)) (fun c => m.chans.length - c) (0) (⟨Nat.zero_le _, .inr rfl⟩) ⟨Le.refl _, qgf he0.symm 2, trivial⟩ ⟨qee Mv.cells {} he0.symm, trivial⟩ (fun _ => rfl) (by kernel_rfl) ?_; (conv => whnf))
  rintro c ⟨hc, hc2⟩
  have hcn := qrz m s c
  have hsum : (qp m s m.procs.length ++ qaw m s c).length ≤ 200000 := by rw [List.length_append]; omega
  generalize hL : qp m s m.procs.length ++ qaw m s c = L at hsum ⊢
  (repeat' ((conv => whnf); first | refine Ob.auto ?_ | (apply zB <;> intro hb <;> (try simp [-zd] at hb) <;> try (exfalso; omega))))
  ·have hE : L ++ [⟨1, 0, 0, c⟩, ⟨2, 0, 0, c⟩] = qp m s m.procs.length ++ qaw m s (c + 1) := by rw [qie, ← List.append_assoc, hL]; rw [qsb, if_pos (by assumption), if_pos (by assumption)]; rfl
   ((conv => whnf); refine ⟨c + 1, ⟨by omega, .inl (by omega)⟩, ⟨⟨Le.refl _, jer hE 2, trivial⟩, ⟨jeq Mv.cells {} hE rfl rfl, trivial⟩⟩, ⟨qa, qa⟩, ?_⟩; (first | omega | (dsimp only; omega) | skip))
  ·have hE : L ++ [⟨1, 0, 0, c⟩] = qp m s m.procs.length ++ qaw m s (c + 1) := by rw [qie, ← List.append_assoc, hL]; rw [qsb, if_pos (by assumption), if_neg (fun h => by have := (by assumption : (m.chans.getD c ch0).copying = true → 0 < (s.chans.getD c []).length → (m.chans.getD c ch0).room ≤ ((s.chans.getD c []).length : Int)) h.1.1 h.1.2; omega)]; rfl
   ((conv => whnf); refine ⟨c + 1, ⟨by omega, .inl (by omega)⟩, ⟨⟨Le.refl _, qge hE 2, trivial⟩, ⟨qes Mv.cells {} hE rfl, trivial⟩⟩, ⟨qa, qa⟩, ?_⟩; (first | omega | (dsimp only; omega) | skip))
  ·have hE : L ++ [⟨2, 0, 0, c⟩] = qp m s m.procs.length ++ qaw m s (c + 1) := by rw [qie, ← List.append_assoc, hL]; rw [qsb, if_neg (fun h => by have e := (by assumption : (m.chans.getD c ch0).lossy = true → s.chans.getD c [] = []) h.1; rw [e] at h; exact absurd h.2 (Nat.lt_irrefl 0)), if_pos (by assumption)]; rfl
   ((conv => whnf); refine ⟨c + 1, ⟨by omega, .inl (by omega)⟩, ⟨⟨Le.refl _, qge hE 2, trivial⟩, ⟨qes Mv.cells {} hE rfl, trivial⟩⟩, ⟨qa, qa⟩, ?_⟩; (first | omega | (dsimp only; omega) | skip))
  ·have hE : L = qp m s m.procs.length ++ qaw m s (c + 1) := by rw [qie, ← List.append_assoc, hL]; rw [qsb, if_neg (fun h => by have e := (by assumption : (m.chans.getD c ch0).lossy = true → s.chans.getD c [] = []) h.1; rw [e] at h; exact absurd h.2 (Nat.lt_irrefl 0)), if_neg (fun h => by have := (by assumption : (m.chans.getD c ch0).copying = true → 0 < (s.chans.getD c []).length → (m.chans.getD c ch0).room ≤ ((s.chans.getD c []).length : Int)) h.1.1 h.1.2; omega)]; simp
   ((conv => whnf); refine ⟨c + 1, ⟨by omega, .inl (by omega)⟩, ⟨⟨Le.refl _, qgf hE 2, trivial⟩, ⟨qee Mv.cells {} hE, trivial⟩⟩, ⟨qa, qa⟩, ?_⟩; (first | omega | (dsimp only; omega) | skip))
  ·have hmv : jo m s = qp m s m.procs.length ++ qaw m s c := by
    unfold jo
    by_cases hho : s.holder = -1
    ·obtain rfl : c = m.chans.length := by omega
     rw [if_pos hho]; rfl
    ·obtain rfl : c = 0 := hc2.resolve_left hho
     rw [if_neg hho]; rfl
   rw [hmv, hL]
   exact Le.refl _
end Go.Proofs.YtdoaagphhjggbaaGreat
end
