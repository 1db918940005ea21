/- Some texts of the library, one behind the other. -/
import Derived.Test.YtdoaagphhjggbaaGreatQ33
import Derived.Test.YtdoaagphhjggbaaGreatQ31
import Derived.Test.YtdoaagphhjggbaaGreatQ32
import Derived.Test.YtdoaagphhjggbaaGreatQ26
import Derived.Test.YtdoaagphhjggbaaGreatQ2
section
namespace Go.Proofs.YtdoaagphhjggbaaGreat
open List renaming getD_eq_getElem?_getD → zd
open Go Go.Sx Go.RowKit Go.St
set_option maxRecDepth 100000
set_option maxHeartbeats 4000000
theorem jtq {m : Md} {s : Stt} {v : Mv} (h : ji m s v = true) : (v.kind = 1 ∧ (0 ≤ v.chn ∧ v.chn < m.chans.length) ∧ 0 < (s.chans.getD v.chn.toNat []).length) ∨ (v.kind = 2 ∧ (0 ≤ v.chn ∧ v.chn < m.chans.length) ∧ 0 < (s.chans.getD v.chn.toNat []).length) ∨ (v.kind = 0 ∧ (0 ≤ v.proc ∧ v.proc < m.procs.length) ∧ (0 ≤ v.edge ∧ v.edge < (m.procs.getD v.proc.toNat pr0).edges.length) ∧ canB m s v.proc.toNat ((m.procs.getD v.proc.toNat pr0).edges.getD v.edge.toNat ed0) = true) := by
 cases qoy h with
 | lose c hc hq => exact .inl ⟨rfl, ⟨Int.natCast_nonneg _, Int.ofNat_lt.2 hc⟩, hq⟩
 | copy c hc hq => exact .inr (.inl ⟨rfl, ⟨Int.natCast_nonneg _, Int.ofNat_lt.2 hc⟩, hq⟩)
 | edge P e hP he hcan => exact .inr (.inr ⟨rfl, ⟨Int.natCast_nonneg _, Int.ofNat_lt.2 hP⟩, ⟨Int.natCast_nonneg _, Int.ofNat_lt.2 he⟩, hcan⟩)
theorem jtr {m : Md} (hM : ModOk m) {s : Stt} {v : Mv} (h : ji m s v = true) (hk : v.kind = 0) (h2 : (edOf m v).act = 2) (hl : s.chans.length = m.chans.length) : 0 < ((qv m s v).chans.getD (edOf m v).chn.toNat []).length := by
 cases qoy h with
 | lose c hc hq => simp at hk
 | copy c hc hq => simp at hk
 | edge P e hP he hcan =>
  have hed := edOk hM hP he
  have hte : edOf m ⟨0, P, e, 0⟩ = (edgesOf m P).getD e ed0 := rfl
  rw [hte] at h2 ⊢
  rw [qwz]
  generalize (edgesOf m P).getD e ed0 = d at h2 hed ⊢
  have hch := hed.chn (.inl h2)
  unfold qbn qn
  simp only
  rw [if_neg (by omega), if_pos h2]
  simp only
  rw [qdf, if_pos ⟨rfl, by omega⟩, List.length_append]
  exact Nat.succ_pos _
theorem jts (m : Md) (hM : ModOk m) (h0 : qg m (qq m) = true) (l : List Mv) (hl : l.length ≤ 1000000) : Con Tryz.prog 63 [m.av, qcj l] (evsV (qbv m l)) := by
 have hst := qwu m hM h0 l hl
 have hn := qmb m l
 have hlen : (qbf m l).length = nF m l + 1 := by simp [qbf]
 have hget : ∀ i, i ≤ nF m l → (qbf m l).getD i st0z = stN m l i := fun i hi => by unfold qbf; rw [qqv _ _ _ _ (by omega)]
 generalize qbf m l = A at hst hlen hget
 have hEl := qow m l
 refine zK {lit := true, owns := [(6, (70, 6))]} 300 Tryz.func63 (fun c0 rdb => ?_)
 (repeat' ((conv => whnf); first | refine zC 300 (hst) ?_ | fail))
 ((conv => whnf); refine qj (fun _ => rfl) 300 1 (fun i : Nat => [(7, iv i), (6, .own 1 0 0 (evN m l i).length)]) (fun i => [(1, .row [] 70 6 0 (evN m l i).length (encL Ev.cells {} (evN m l i)))]) (fun i => i ≤ nF m l) (fun i => nF m l - i) (0) (Nat.zero_le _) qa ⟨qat (fun k hk => absurd hk (Nat.not_lt_zero k)), trivial⟩ (fun _ => rfl) (by kernel_rfl) ?_; (conv => whnf))
 intro i hi
 have hEi := hEl i
 by_cases hin : i < nF m l
 ·have hok : ji m (stN m l i) (l.getD i {}) = true := hn.2.1 i hin
  have hf := qer hM h0 (fun j hj => hn.2.1 j (by omega : j < nF m l)) (i := i)
  have hA := hget i (by omega)
  have hcl := ((jc m _).1 hf).1.2.2.1
  have hEn : evN m l (i + 1) = evN m l i ++ (evOf m (stN m l i) (stN m l (i + 1)) i (l.getD i {}) (evN m l i)).toList := rfl
  have hfr := fun c => jtn (evN m l i) (by omega) c
  generalize evN m l i = E at hEi hEn hfr ⊢
  rcases jtq hok with ⟨hk, hc, hq⟩ | ⟨hk, hc, hq⟩ | ⟨hk, hP, he, hcan⟩
  ·rw [← hA] at hq hcl
   have hk1 : inR .i64 ((l.getD i {}).kind + 1) := ⟨show (-9223372036854775808 : Int) ≤ (l.getD i {}).kind + 1 by omega, show (l.getD i {}).kind + 1 ≤ 9223372036854775807 by omega⟩
   have hfc := hfr (l.getD i {}).chn
   have hE1 : E ++ [⟨(l.getD i {}).kind + 1, i, -1, (l.getD i {}).chn, ((A.getD i st0z).chans.getD (l.getD i {}).chn.toNat []).getD 0 0, jy E (l.getD i {}).chn⟩] = evN m l (i + 1) := by
    rw [hEn, hA]
    unfold evOf jz
    rw [if_pos hk]
    rw [hk]; rfl
   (repeat' ((conv => whnf); first | refine zO ?_ | refine Ob.auto ?_ | refine zE 300 (hfc) ?_ | refine zD 300 ?_ | (apply zB <;> intro hb <;> (try simp [-zd] at hb) <;> try (exfalso; omega))))
   ((conv => whnf); refine ⟨i + 1, by omega, ⟨⟨Le.refl _, qge hE1 1, trivial⟩, ⟨qes Ev.cells {} hE1 rfl, trivial⟩⟩, ⟨qa, qa⟩, ?_⟩; (first | omega | (dsimp only; omega) | skip))
  ·rw [← hA] at hq hcl
   have hk1 : inR .i64 ((l.getD i {}).kind + 1) := ⟨show (-9223372036854775808 : Int) ≤ (l.getD i {}).kind + 1 by omega, show (l.getD i {}).kind + 1 ≤ 9223372036854775807 by omega⟩
   have hfc := hfr (l.getD i {}).chn
   have hE1 : E ++ [⟨(l.getD i {}).kind + 1, i, -1, (l.getD i {}).chn, ((A.getD i st0z).chans.getD (l.getD i {}).chn.toNat []).getD 0 0, jy E (l.getD i {}).chn⟩] = evN m l (i + 1) := by
    rw [hEn, hA]
    unfold evOf jz
    rw [if_neg (by omega), if_pos hk]
    rw [hk]; rfl
   (repeat' ((conv => whnf); first | refine zO ?_ | refine Ob.auto ?_ | refine zE 300 (hfc) ?_ | refine zD 300 ?_ | (apply zB <;> intro hb <;> (try simp [-zd] at hb) <;> try (exfalso; omega))))
   ((conv => whnf); refine ⟨i + 1, by omega, ⟨⟨Le.refl _, qge hE1 1, trivial⟩, ⟨qes Ev.cells {} hE1 rfl, trivial⟩⟩, ⟨qa, qa⟩, ?_⟩; (first | omega | (dsimp only; omega) | skip))
  ·have hed := edOk hM (p := (l.getD i {}).proc.toNat) (i := (l.getD i {}).edge.toNat) (by omega) (show (l.getD i {}).edge.toNat < (m.procs.getD (l.getD i {}).proc.toNat pr0).edges.length by omega)
   have hedd : EdOk m.tree.length m.vars.length m.chans.length (m.procs.getD (l.getD i {}).proc.toNat pr0).places ((m.procs.getD (l.getD i {}).proc.toNat pr0).edges.getD (l.getD i {}).edge.toNat ed0) := hed
   have hfc := hfr ((m.procs.getD (l.getD i {}).proc.toNat pr0).edges.getD (l.getD i {}).edge.toNat ed0).chn
   by_cases h2 : ((m.procs.getD (l.getD i {}).proc.toNat pr0).edges.getD (l.getD i {}).edge.toNat ed0).act = 2
   ·have hch := hedd.chn (.inl h2)
    have hB := hget (i + 1) (by omega)
    have hf1 := qer hM h0 (fun j hj => hn.2.1 j (by omega : j < nF m l)) (i := i + 1)
    have htl := ((jc m _).1 hf1).1.2.2.1
    have hpos := jtr hM hok hk h2 hcl
    have hb1 := (qbp hM hf1).l _ (qi _ ((m.procs.getD (l.getD i {}).proc.toNat pr0).edges.getD (l.getD i {}).edge.toNat ed0).chn.toNat [] (by omega))
    rw [show qv m (stN m l i) (l.getD i {}) = stN m l (i + 1) from rfl] at hpos
    have hpos : 0 < ((stN m l (i + 1)).chans.getD ((m.procs.getD (l.getD i {}).proc.toNat pr0).edges.getD (l.getD i {}).edge.toNat ed0).chn.toNat []).length := hpos
    rw [← hB] at htl hpos hb1
    have o1 : 0 ≤ ((m.procs.getD (l.getD i {}).proc.toNat pr0).edges.getD (l.getD i {}).edge.toNat ed0).chn ∧ ((m.procs.getD (l.getD i {}).proc.toNat pr0).edges.getD (l.getD i {}).edge.toNat ed0).chn < ((A.getD (i + 1) st0z).chans.length : Int) := by omega
    have o2 : inR .i64 ((((A.getD (i + 1) st0z).chans.getD ((m.procs.getD (l.getD i {}).proc.toNat pr0).edges.getD (l.getD i {}).edge.toNat ed0).chn.toNat []).length : Int) - 1) := ⟨show (-9223372036854775808 : Int) ≤ (((A.getD (i + 1) st0z).chans.getD ((m.procs.getD (l.getD i {}).proc.toNat pr0).edges.getD (l.getD i {}).edge.toNat ed0).chn.toNat []).length : Int) - 1 by omega, show (((A.getD (i + 1) st0z).chans.getD ((m.procs.getD (l.getD i {}).proc.toNat pr0).edges.getD (l.getD i {}).edge.toNat ed0).chn.toNat []).length : Int) - 1 ≤ 9223372036854775807 by omega⟩
    have o3 : 0 ≤ (((A.getD (i + 1) st0z).chans.getD ((m.procs.getD (l.getD i {}).proc.toNat pr0).edges.getD (l.getD i {}).edge.toNat ed0).chn.toNat []).length : Int) - 1 ∧ (((A.getD (i + 1) st0z).chans.getD ((m.procs.getD (l.getD i {}).proc.toNat pr0).edges.getD (l.getD i {}).edge.toNat ed0).chn.toNat []).length : Int) - 1 < (((A.getD (i + 1) st0z).chans.getD ((m.procs.getD (l.getD i {}).proc.toNat pr0).edges.getD (l.getD i {}).edge.toNat ed0).chn.toNat []).length : Int) := by omega
    have hE1 : E ++ [⟨0, i, (l.getD i {}).proc, ((m.procs.getD (l.getD i {}).proc.toNat pr0).edges.getD (l.getD i {}).edge.toNat ed0).chn, ((A.getD (i + 1) st0z).chans.getD ((m.procs.getD (l.getD i {}).proc.toNat pr0).edges.getD (l.getD i {}).edge.toNat ed0).chn.toNat []).getD ((((A.getD (i + 1) st0z).chans.getD ((m.procs.getD (l.getD i {}).proc.toNat pr0).edges.getD (l.getD i {}).edge.toNat ed0).chn.toNat []).length : Int) - 1).toNat 0, -1⟩] = evN m l (i + 1) := by
     rw [hEn, hB]
     unfold evOf qdg
     rw [if_neg (by omega), if_neg (by omega), if_pos (show (edOf m (l.getD i {})).act = 2 from h2), show ∀ n : Nat, ((n : Int) - 1).toNat = n - 1 from fun n => by omega]
     rfl
    (repeat' ((conv => whnf); first | refine zO ?_ | refine Ob.auto ?_ | refine zD 300 ?_ | (apply zB <;> intro hb <;> (try simp [-zd] at hb) <;> try (exfalso; omega))))
    ((conv => whnf); refine ⟨i + 1, by omega, ⟨⟨Le.refl _, qge hE1 1, trivial⟩, ⟨qes Ev.cells {} hE1 rfl, trivial⟩⟩, ⟨qa, qa⟩, ?_⟩; (first | omega | (dsimp only; omega) | skip))
   ·by_cases h3 : ((m.procs.getD (l.getD i {}).proc.toNat pr0).edges.getD (l.getD i {}).edge.toNat ed0).act = 3
    ·have hch := hedd.chn (.inr h3)
     have hq : 0 < ((stN m l i).chans.getD ((m.procs.getD (l.getD i {}).proc.toNat pr0).edges.getD (l.getD i {}).edge.toNat ed0).chn.toNat []).length := qsf hcan h3
     rw [← hA] at hq hcl
     have o1 : 0 ≤ ((m.procs.getD (l.getD i {}).proc.toNat pr0).edges.getD (l.getD i {}).edge.toNat ed0).chn ∧ ((m.procs.getD (l.getD i {}).proc.toNat pr0).edges.getD (l.getD i {}).edge.toNat ed0).chn < ((A.getD i st0z).chans.length : Int) := by omega
     have o2 : (0 : Int) ≤ 0 ∧ 0 < (((A.getD i st0z).chans.getD ((m.procs.getD (l.getD i {}).proc.toNat pr0).edges.getD (l.getD i {}).edge.toNat ed0).chn.toNat []).length : Int) := by omega
     have hE1 : E ++ [⟨1, i, (l.getD i {}).proc, ((m.procs.getD (l.getD i {}).proc.toNat pr0).edges.getD (l.getD i {}).edge.toNat ed0).chn, ((A.getD i st0z).chans.getD ((m.procs.getD (l.getD i {}).proc.toNat pr0).edges.getD (l.getD i {}).edge.toNat ed0).chn.toNat []).getD 0 0, jy E ((m.procs.getD (l.getD i {}).proc.toNat pr0).edges.getD (l.getD i {}).edge.toNat ed0).chn⟩] = evN m l (i + 1) := by
      rw [hEn, hA]
      unfold evOf jz
      rw [if_neg (by omega), if_neg (by omega), if_neg (show ¬ (edOf m (l.getD i {})).act = 2 from h2), if_pos (show (edOf m (l.getD i {})).act = 3 from h3)]
      rfl
     (repeat' ((conv => whnf); first | refine zO ?_ | refine Ob.auto ?_ | refine zE 300 (hfc) ?_ | refine zD 300 ?_ | (apply zB <;> intro hb <;> (try simp [-zd] at hb) <;> try (exfalso; omega))))
     ((conv => whnf); refine ⟨i + 1, by omega, ⟨⟨Le.refl _, qge hE1 1, trivial⟩, ⟨qes Ev.cells {} hE1 rfl, trivial⟩⟩, ⟨qa, qa⟩, ?_⟩; (first | omega | (dsimp only; omega) | skip))
    ·have hE1 : E = evN m l (i + 1) := by
      rw [hEn]
      unfold evOf
      rw [if_neg (by omega), if_neg (by omega), if_neg (show ¬ (edOf m (l.getD i {})).act = 2 from h2), if_neg (show ¬ (edOf m (l.getD i {})).act = 3 from h3)]
      exact (List.append_nil _).symm
     clear hEn
     (repeat' ((conv => whnf); first | refine zO ?_ | refine Ob.auto ?_ | refine zD 300 ?_ | (apply zB <;> intro hb <;> (try simp [-zd] at hb) <;> try (exfalso; omega))))
     ((conv => whnf); refine ⟨i + 1, by omega, ⟨⟨Le.refl _, qgf hE1 1, trivial⟩, ⟨qee Ev.cells {} hE1, trivial⟩⟩, ⟨qa, qa⟩, ?_⟩; (first | omega | (dsimp only; omega) | skip))
 ·obtain rfl : i = nF m l := by omega
  (repeat' ((conv => whnf); first | refine Ob.auto ?_ | (apply zB <;> intro hb <;> (try simp [-zd] at hb) <;> try (exfalso; omega))))
  exact Le.refl _
set_option maxHeartbeats 2000000
theorem qxd (a b : List Int) (ha : a.length ≤ 1000000) : Con Tryz.prog 53 [ints a, ints b] (.bool (a == b)) := by
 refine zK {} 300 Tryz.func53 (fun c0 rdb => ?_)
 (repeat' ((conv => whnf); first | refine Ob.auto ?_ | (apply zB <;> intro hb <;> (try simp [-zd] at hb) <;> try (exfalso; omega))))
 ·refine Le.of_eq (congrArg AV.bool ?_)
  exact (beq_eq_false_iff_ne.2 (fun h => by subst h; simp at hb)).symm
 ·((conv => whnf); refine qj (fun _ => rfl) 300 1 (fun i : Nat => [(5, iv i)]) (fun _ => []) (fun i => i ≤ a.length ∧ ∀ j, j < i → a.getD j 0 = b.getD j 0) (fun i => a.length - i) (0) (⟨by omega, fun j hj => absurd hj (Nat.not_lt_zero j)⟩) qa qa (fun _ => rfl) (by kernel_rfl) ?_; (conv => whnf))
  intro i hi
  (repeat' ((conv => whnf); first | refine zO ?_ | refine Ob.auto ?_ | refine zD 300 ?_ | (apply zB <;> intro hb <;> (try simp [-zd] at hb) <;> try (exfalso; omega))))
  ·refine Le.of_eq (congrArg AV.bool ?_)
   exact (beq_eq_false_iff_ne.2 (fun h => by subst h; simp at hb)).symm
  ·((conv => whnf); refine ⟨i + 1, ⟨by omega, jm hi.2 hb⟩, ⟨qa, qa⟩, ⟨qa, qa⟩, ?_⟩; (first | omega | (dsimp only; omega) | skip))
  ·refine Le.of_eq (congrArg AV.bool ?_)
   exact (beq_iff_eq.2 (qun 0 (by omega) (fun j hj => hi.2 j (by omega)))).symm
theorem jtt (a b : Stt) (ha : SSz a) : Con Tryz.prog 23 [a.av, b.av] (.bool (qlq a b)) := by
 have h1 := ha.a
 have h2 := ha.v
 have h3 := ha.c
 have h4 := ha.l
 refine zK {} 300 Tryz.func23 (fun c0 rdb => ?_)
 (repeat' ((conv => whnf); first | refine Ob.auto ?_ | refine zC 300 (qxd a.at_ b.at_ h1) ?_ | refine zG 300 (fun hg => qxd a.vars b.vars h2) ?_ | (apply zB <;> intro hb <;> (try simp [-zd] at hb) <;> try (exfalso; omega))))
 ·refine Le.of_eq (congrArg AV.bool ?_)
  refine Eq.symm ?_
  unfold qlq
  rw [Bool.eq_false_iff]
  intro h
  simp only [Bool.and_eq_true, beq_iff_eq] at h
  obtain ⟨⟨⟨e1, e2⟩, e3⟩, e4⟩ := h
  rw [e3] at hb
  simp [e1, e2, e4] at hb
 ·obtain ⟨⟨⟨e1, e2⟩, e3⟩, e4⟩ := hb
  ((conv => whnf); refine qj (fun _ => rfl) 300 1 (fun i : Nat => [(5, iv i)]) (fun _ => []) (fun i => i ≤ a.chans.length ∧ ∀ j, j < i → a.chans.getD j [] = b.chans.getD j []) (fun i => a.chans.length - i) (0) (⟨Nat.zero_le _, fun j hj => absurd hj (Nat.not_lt_zero j)⟩) qa qa (fun _ => rfl) (by kernel_rfl) ?_; (conv => whnf))
  intro i hi
  have hli : i < a.chans.length → _ := fun h => h4 _ (qi a.chans i [] h)
  (repeat' ((conv => whnf); first | refine zA ?_ | refine Ob.auto ?_ | (refine CallY.con (qxd (a.chans.getD i []) (b.chans.getD i []) (hli (by omega))) (by rfl) leA ?_) | (refine zQ 300 ?_) | (apply zB <;> intro hb <;> (try simp [-zd] at hb) <;> try (exfalso; omega))))
  ·refine Le.of_eq (congrArg AV.bool ?_)
   refine Eq.symm ?_
   unfold qlq
   rw [Bool.eq_false_iff]
   intro h
   simp only [Bool.and_eq_true, beq_iff_eq] at h
   rw [h.1.2] at hb
   exact hb rfl
  ·((conv => whnf); refine ⟨i + 1, ⟨by omega, jm hi.2 hb⟩, ⟨qa, qa⟩, ⟨qa, qa⟩, ?_⟩; (first | omega | (dsimp only; omega) | skip))
  ·refine Le.of_eq (congrArg AV.bool ?_)
   unfold qlq
   rw [e1, e2, e4, qun [] (by omega) (fun j hj => hi.2 j (by omega))]
   simp
set_option maxHeartbeats 4000000
theorem jtu (s : Stt) : qlq s s = true := by simp [qlq]
theorem jtv (m : Md) (hM : ModOk m) (h0 : qg m (qq m) = true) (l : List Mv) (hl : l.length ≤ 100000) : Con Tryz.prog 35 [m.av, qcj l] (.bool true) := by
 have c1 := qwu m hM h0 l (by omega)
 have c2 := jsv m hM h0 l (by omega)
 have c3 := jsq m hM h0 l (by omega)
 have c4 := jsr m hM h0 l (by omega)
 have c5 := jso m hM h0 l (by omega)
 have c6 := qxb m hM h0 l (by omega)
 have c7 := jts m hM h0 l (by omega)
 have hn := qmb m l
 have hlen : (qbf m l).length = nF m l + 1 := by simp [qbf]
 have hget : ∀ i, i ≤ nF m l → (qbf m l).getD i st0z = stN m l i := fun i hi => by unfold qbf; rw [qqv _ _ _ _ (by omega)]
 have hss : ∀ i, i ≤ nF m l → SSz (stN m l i) := fun i hi => qbp hM (qer hM h0 (fun j hj => hn.2.1 j (by omega)))
 have hE := qow m l (nF m l)
 have c8 := jtp (qbv m l) (qbv m l) (by unfold qbv; omega)
 rw [decide_eq_true rfl] at c8
 generalize qbf m l = A at c1 c2 hlen hget
 generalize qbv m l = F at c6 c7 c8
 have c9 : ∀ i, i ≤ nF m l → Con Tryz.prog 23 [(A.getD i st0z).av, (A.getD i st0z).av] (.bool true) := fun i hi => by
  have := jtt (stN m l i) (stN m l i) (hss i hi)
  rw [jtu] at this
  rw [hget i hi]; exact this
 have c10 : Con Tryz.prog 23 [(stN m l (nF m l)).av, (A.getD (nF m l) st0z).av] (.bool true) := by
  have := c9 (nF m l) (Nat.le_refl _)
  rw [hget _ (Nat.le_refl _)] at this ⊢
  exact this
 refine zK {} 300 Tryz.func35 (fun c0 rdb => ?_)
 (repeat' ((conv => whnf); first | refine zC 300 (c1) ?_ | refine zC 300 (c2) ?_ | refine zC 300 (c3) ?_ | fail))
 (repeat' ((conv => whnf); first | refine zA ?_ | refine Ob.auto ?_ | (refine CallZ.con (fun hg => c10) qeo (by rfl) ?_) | (refine CallZ.con (fun hg => c4) qeo (by rfl) ?_) | (refine CallZ.con (fun hg => c5) qeo (by rfl) ?_) | (refine zQ 300 ?_) | (apply zB <;> intro hb <;> (try simp [-zd] at hb) <;> try (exfalso; omega))))
 ((conv => whnf); refine qj (fun _ => rfl) 300 1 (fun i : Nat => [(9, iv i)]) (fun _ => []) (fun i => i ≤ A.length) (fun i => A.length - i) (0) (Nat.zero_le _) qa qa (fun _ => rfl) (by kernel_rfl) ?_; (conv => whnf))
 intro i hi
 (repeat' ((conv => whnf); first | (apply zB <;> intro hb <;> (try simp [-zd] at hb) <;> try (exfalso; omega))))
 ·(repeat' ((conv => whnf); first | refine zA ?_ | refine Ob.auto ?_ | (refine CallY.con (c9 i (by omega)) (by rfl) leA ?_) | (refine zQ 300 ?_) | (apply zB <;> intro hb <;> (try simp [-zd] at hb) <;> try (exfalso; omega))))
  ((conv => whnf); refine ⟨i + 1, by omega, ⟨qa, qa⟩, ⟨qa, qa⟩, ?_⟩; (first | omega | (dsimp only; omega) | skip))
 ·(repeat' ((conv => whnf); first | refine zA ?_ | refine Ob.auto ?_ | (refine CallY.con (c6) (by rfl) leA ?_) | (refine CallY.con (c7) (by rfl) leA ?_) | (refine CallY.con (c8) (by rfl) leA ?_) | (refine zQ 300 ?_) | fail))
  exact Le.refl _
end Go.Proofs.YtdoaagphhjggbaaGreat
end
section
namespace Go.St
open Go Go.Sx
def qeg (c : Int) (n : Nat) : Int := if c.tmod n < 0 then c.tmod n + n else c.tmod n
theorem jfq {c : Int} {n : Nat} (h : 0 < n) : 0 ≤ qeg c n ∧ qeg c n < n := by
 have h1 := Int.tmod_lt_of_pos c (show (0 : Int) < n by omega)
 have h2 := Int.lt_tmod_of_pos c (show (0 : Int) < n by omega)
 unfold qeg
 split <;> omega
def runL (m : Md) : Stt → List Int → List Mv
 | _, [] => []
 | s, c :: cs => if (jo m s).length = 0 then [] else (jo m s).getD (qeg c (jo m s).length).toNat {} :: runL m (qv m s ((jo m s).getD (qeg c (jo m s).length).toNat {})) cs
def goL (m : Md) (s : Stt) (l : List Mv) (i : Nat) : Stt := (l.take i).foldl (qv m) s
theorem qxe (m : Md) (l : List Mv) : ∀ i, i ≤ l.length → stN m l i = goL m (qq m) l i
 | 0, _ => rfl
 | i + 1, h => by
  unfold stN goL
  rw [qxe m l i (by omega), List.take_add_one, List.getElem?_eq_getElem (by omega), Option.toList, List.foldl_append, List.getD_eq_getElem?_getD, List.getElem?_eq_getElem (by omega)]
  rfl
theorem qsg (m : Md) : ∀ (cs : List Int) (s : Stt), (runL m s cs).length ≤ cs.length ∧
  (∀ i, i < (runL m s cs).length → 0 < (jo m (goL m s (runL m s cs) i)).length ∧ (runL m s cs).getD i {} = (jo m (goL m s (runL m s cs) i)).getD (qeg (cs.getD i 0) (jo m (goL m s (runL m s cs) i)).length).toNat {}) ∧
  ((runL m s cs).length < cs.length → (jo m (goL m s (runL m s cs) (runL m s cs).length)).length = 0)
 | [], s => ⟨Nat.le_refl _, fun i hi => absurd hi (Nat.not_lt_zero i), fun h => absurd h (Nat.lt_irrefl _)⟩
 | c :: cs, s => by
  by_cases h : (jo m s).length = 0
  ·have e : runL m s (c :: cs) = [] := if_pos h
   rw [e]
   exact ⟨Nat.zero_le _, fun i hi => absurd hi (Nat.not_lt_zero i), fun _ => h⟩
  ·have e : runL m s (c :: cs) = (jo m s).getD (qeg c (jo m s).length).toNat {} :: runL m (qv m s ((jo m s).getD (qeg c (jo m s).length).toNat {})) cs := if_neg h
   obtain ⟨h1, h2, h3⟩ := qsg m cs (qv m s ((jo m s).getD (qeg c (jo m s).length).toNat {}))
   rw [e]
   refine ⟨by simp only [List.length_cons]; omega, fun i hi => ?_, fun hl => ?_⟩
   ·cases i with
    | zero => exact ⟨Nat.pos_of_ne_zero h, rfl⟩
    | succ i =>
     simp only [List.length_cons] at hi
     exact h2 i (by omega)
   ·simp only [List.length_cons] at hl
    exact h3 (by omega)
def runF (m : Md) (cs : List Int) : List Mv := runL m (qq m) cs
theorem jfr (m : Md) (cs : List Int) : (runF m cs).length ≤ cs.length := (qsg m cs (qq m)).1
theorem jfs {m : Md} {cs : List Int} {i : Nat} (h : i < (runF m cs).length) : 0 < (jo m (stN m (runF m cs) i)).length ∧ (runF m cs).getD i {} = (jo m (stN m (runF m cs) i)).getD (qeg (cs.getD i 0) (jo m (stN m (runF m cs) i)).length).toNat {} := by
 rw [qxe m (runF m cs) i (by omega)]
 exact (qsg m cs (qq m)).2.1 i h
theorem jtw {m : Md} {cs : List Int} (h : (runF m cs).length < cs.length) : (jo m (stN m (runF m cs) (runF m cs).length)).length = 0 := by
 rw [qxe m (runF m cs) _ (Nat.le_refl _)]
 exact (qsg m cs (qq m)).2.2 h
theorem jtx {m : Md} {cs : List Int} {i : Nat} (h : i < (runF m cs).length) : okN m (runF m cs) i = true := by
 obtain ⟨h1, h2⟩ := jfs h
 unfold okN
 rw [h2]
 exact mem_movesF.1 (qi _ _ _ (by have := jfq (c := cs.getD i 0) h1; omega))
end Go.St
end
section
namespace Go.Proofs.YtdoaagphhjggbaaGreat
open List renaming getD_eq_getElem?_getD → zd
open Go Go.Sx Go.RowKit Go.St
set_option maxRecDepth 100000
set_option maxHeartbeats 4000000
theorem jty (m : Md) (hM : ModOk m) (h0 : qg m (qq m) = true) (cs : List Int) (hl : cs.length ≤ 1000000) : Con Tryz.prog 29 [m.av, ints cs] (qcj (runF m cs)) := by
 have hrl := jfr m cs
 have hat := fun {i} => jfs (m := m) (cs := cs) (i := i)
 have hen := jtw (m := m) (cs := cs)
 have hok := fun {i} => jtx (m := m) (cs := cs) (i := i)
 generalize runF m cs = L at hrl hat hen hok
 refine zK {lit := true, owns := [(6, (51, 4))]} 300 Tryz.func29 (fun c0 rdb => ?_)
 (repeat' ((conv => whnf); first | refine zC 300 (jfc m hM.ok) ?_ | fail))
 ((conv => whnf); refine qj (fun _ => rfl) 300 1 (fun i : Nat => [(7, iv i), (6, .own 2 0 0 i)]) (fun i => [(1, .box 34 (stN m L i).cells), (2, .row [] 51 4 0 i (encL Mv.cells {} L))]) (fun i => i ≤ L.length) (fun i => L.length - i) (0) (Nat.zero_le _) qa ⟨⟨rfl, Le.refl _, Le.refl _, Le.refl _, Le.refl _, trivial⟩, qat (fun k hk => absurd hk (Nat.not_lt_zero k)), trivial⟩ (fun _ => rfl) (by kernel_rfl) ?_; (conv => whnf))
 intro i hi
 have hf := qer hM h0 (fun j hj => hok (i := j) (by omega)) (i := i)
 have hmv := qwp m hM (stN m L i) hf
 have hVl := jfd hM (stN m L i)
 by_cases hiL : i < L.length
 ·obtain ⟨hVp, hsel⟩ := hat hiL
  have hK := jfq (c := cs.getD i 0) hVp
  generalize jo m (stN m L i) = V at hmv hVl hVp hsel hK
  have hlt := Int.tmod_lt_of_pos (cs.getD i 0) (show (0 : Int) < V.length by omega)
  have hgt := Int.lt_tmod_of_pos (cs.getD i 0) (show (0 : Int) < V.length by omega)
  have hr : inR .i64 ((cs.getD i 0).tmod V.length + V.length) := ⟨show (-9223372036854775808 : Int) ≤ (cs.getD i 0).tmod V.length + V.length by omega, show (cs.getD i 0).tmod V.length + V.length ≤ 9223372036854775807 by omega⟩
  have hne : ¬ V = [] := fun h => by rw [h] at hVp; exact absurd hVp (Nat.lt_irrefl 0)
  by_cases hneg : (cs.getD i 0).tmod V.length < 0
  ·have hpk : qeg (cs.getD i 0) V.length = ((cs.getD i 0).tmod V.length + V.length) := by unfold qeg; rw [if_pos hneg]
   rw [hpk] at hsel hK
   have hdo := qws m hM (stN m L i) (V.getD (((cs.getD i 0).tmod V.length + V.length)).toNat {}) hf (by rw [← hsel]; exact hok hiL)
   have hst : qv m (stN m L i) (V.getD (((cs.getD i 0).tmod V.length + V.length)).toNat {}) = stN m L (i + 1) := by rw [← hsel]; rfl
   rw [hst] at hdo
   (repeat' ((conv => whnf); first | refine Ob.auto ?_ | refine zC 300 (hmv) ?_ | (apply zB <;> intro hb <;> (try simp [-zd] at hb) <;> try (exfalso; omega))))
   ·exact absurd (by assumption) hne
   (repeat' ((conv => whnf); first | refine zA ?_ | refine Ob.auto ?_ | (refine CallY.con (hdo) (by rfl) leA ?_) | (refine zQ 300 ?_) | fail))
   ((conv => whnf); refine ⟨i + 1, by omega, ⟨qa, ⟨SoLe.refl _, ⟨⟨rfl, rfl, rfl⟩, rfl, rfl, qwt (fun _ _ => rfl) (congrArg Mv.cells hsel.symm)⟩, trivial⟩⟩, ⟨qa, qa⟩, ?_⟩; (first | omega | (dsimp only; omega) | skip))
  ·have hpk : qeg (cs.getD i 0) V.length = ((cs.getD i 0).tmod V.length) := by unfold qeg; rw [if_neg (by omega)]
   rw [hpk] at hsel hK
   have hdo := qws m hM (stN m L i) (V.getD (((cs.getD i 0).tmod V.length)).toNat {}) hf (by rw [← hsel]; exact hok hiL)
   have hst : qv m (stN m L i) (V.getD (((cs.getD i 0).tmod V.length)).toNat {}) = stN m L (i + 1) := by rw [← hsel]; rfl
   rw [hst] at hdo
   (repeat' ((conv => whnf); first | refine Ob.auto ?_ | refine zC 300 (hmv) ?_ | (apply zB <;> intro hb <;> (try simp [-zd] at hb) <;> try (exfalso; omega))))
   ·exact absurd (by assumption) hne
   (repeat' ((conv => whnf); first | refine zA ?_ | refine Ob.auto ?_ | (refine CallY.con (hdo) (by rfl) leA ?_) | (refine zQ 300 ?_) | fail))
   ((conv => whnf); refine ⟨i + 1, by omega, ⟨qa, ⟨SoLe.refl _, ⟨⟨rfl, rfl, rfl⟩, rfl, rfl, qwt (fun _ _ => rfl) (congrArg Mv.cells hsel.symm)⟩, trivial⟩⟩, ⟨qa, qa⟩, ?_⟩; (first | omega | (dsimp only; omega) | skip))
 ·obtain rfl : i = L.length := by omega
  by_cases hcs : L.length < cs.length
  ·rw [List.length_eq_zero_iff.1 (hen hcs)] at hmv
   (repeat' ((conv => whnf); first | refine Ob.auto ?_ | refine zC 300 (hmv) ?_ | (apply zB <;> intro hb <;> (try simp [-zd] at hb) <;> try (exfalso; omega))))
   exact Le.refl _
  ·(repeat' ((conv => whnf); first | refine Ob.auto ?_ | (apply zB <;> intro hb <;> (try simp [-zd] at hb) <;> try (exfalso; omega))))
   exact Le.refl _
end Go.Proofs.YtdoaagphhjggbaaGreat
end
