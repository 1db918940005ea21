/- The law TraceCuts: the first part of a trace plays as the whole one does, up to there. -/
import Derived.Test.YtdoaagphhjggbaaGreatQ41
import Derived.Test.YtdoaagphhjggbaaGreatQ2
namespace Go.Proofs.YtdoaagphhjggbaaGreat
open Go Go.Sx Go.RowKit Go.St
set_option maxRecDepth 100000
set_option maxHeartbeats 8000000
theorem qwi {P : Program} {f : FuncId} {args args' : List AV} {res : AV} (h : Con P f args' res) (hl : LeL args args') : Con P f args res := fun rd w vs h1 h2 => h rd w vs h1 (h2.le hl)
theorem jsy {m : Md} {cs : List Int} {k : Nat} (hk : k ≤ (runF m cs).length) : nF m ((runF m cs).take k) = k ∧ (∀ i, i ≤ k → stN m ((runF m cs).take k) i = stN m (runF m cs) i) ∧ ∃ r, qcf m (runF m cs) = qcf m ((runF m cs).take k) ++ r := by
 have hg : ∀ j, j < k → ((runF m cs).take k).getD j {} = (runF m cs).getD j {} := fun j hj => jet _ _ _ _ hj
 have hl : ((runF m cs).take k).length = k := by rw [List.length_take]; omega
 have hn : nF m ((runF m cs).take k) = k := qiy (by omega) (fun j hj => by rw [jsp (fun i hi => hg i (by omega))]; exact qrl (by omega)) (.inl hl.symm)
 refine ⟨hn, fun i hi => qoo (fun j hj => hg j (by omega)), ?_⟩
 unfold qcf
 rw [hn, jez, jeu (i := k) hg]
 obtain ⟨r, hr⟩ := jev m (runF m cs) k ((runF m cs).length - k)
 rw [show k + ((runF m cs).length - k) = (runF m cs).length by omega] at hr
 exact ⟨r, hr⟩
theorem jsz (l : List Nd) (hl : l.length ≤ 9223372036854775807) (hz : ∀ n ∈ l, NdSz n) (cs : List Int) (a : Int) (ha : 0 ≤ a ∧ a < 256) : Con Tryz.prog 6 [jp l, ints cs, .int .u8 a] (.bool true) := by
 refine zK {} 300 Tryz.func6 (fun c0 rdb => ?_)
 (repeat' ((conv => whnf); first | refine Ob.auto ?_ | refine zC 300 (jsk) ?_ | refine zC 300 (jsh l hl hz) ?_ | (apply zB <;> intro hb <;> (try simp [-List.getD_eq_getElem?_getD] at hb) <;> try (exfalso; omega))))
 ·exact Le.refl _
 ·exact Le.refl _
 have hmd : (qez l).2 = true := by assumption
 have hM := (qrd hmd).1
 have hvf : VFit (qez l).1.vars := by rw [(qrd hmd).2.1]; exact jsw (qrd hmd).2.2.1 (qoc (qrd hmd).2.2.2).2
 have hcl : ((cs.length : Int)) ≤ 40 := by assumption
 clear hmd
 generalize (qez l).1 = M at hM hvf ⊢
 have h0 := jsx hM.ok hvf
 have hrun := jsr M hM h0 cs (by omega)
 have hrl := jex M cs
 have hcut := fun {k} => jsy (m := M) (cs := cs) (k := k)
 have hall := jez M cs
 have hok := fun {i} => qrl (m := M) (cs := cs) (i := i)
 generalize runF M cs = L at hrun hrl hcut hall hok
 have hK1 := Int.tmod_nonneg ((L.length : Int) + 1) ha.1
 have hK2 := Int.tmod_lt_of_pos a (show (0 : Int) < (L.length : Int) + 1 by omega)
 obtain ⟨k, hk⟩ := Int.eq_ofNat_of_zero_le hK1
 rw [hk] at hK2
 have hkL : k ≤ L.length := by omega
 (repeat' ((conv => whnf); first | refine Ob.auto ?_ | refine zC 300 (hrun) ?_ | fail))
 obtain ⟨hnk, hsk, r, hev⟩ := hcut hkL
 have hkn : (a.tmod ((L.length : Int) + 1)).toNat = k := by rw [hk]; rfl
 have hcut4 : LeL [M.av, .slc 4 (a.tmod ((L.length : Int) + 1)).toNat (encL Mv.cells {} L)] [M.av, qgu (L.take k)] := ⟨Le.refl _, Le.slc (by rw [hkn, List.length_take]; omega) (fun j hj => by
  have hj : j < (a.tmod ((L.length : Int) + 1)).toNat := hj
  rw [hkn] at hj
  unfold encL
  rw [jet _ _ _ _ hj]), trivial⟩
 have c1 := jei M hM h0 L (by omega)
 have c2 := qwi (jei M hM h0 (L.take k) (by rw [List.length_take]; omega)) hcut4
 have c4 := qwf M hM h0 L (by omega)
 have c5 := qwi (qwf M hM h0 (L.take k) (by rw [List.length_take]; omega)) hcut4
 have hAl : (qdc M L).length = L.length + 1 := by simp [qdc, hall]
 have hBl : (qdc M (L.take k)).length = k + 1 := by simp [qdc, hnk]
 have hA : (qdc M L).getD k st0z = stN M L k := by unfold qdc; rw [qzr _ _ _ _ (by omega)]
 have hB : (qdc M (L.take k)).getD k st0z = stN M L k := by unfold qdc; rw [qzr _ _ _ _ (by omega), hsk k (Nat.le_refl _)]
 have hss : SSz (stN M L k) := qbz hM (qki hM h0 (fun j hj => hok (i := j) (by omega)))
 have hFl : (qcf M L).length ≤ 60 := by
  have := qwc M L (nF M L)
  unfold qcf
  omega
 generalize qdc M L = A at c1 hAl hA
 generalize qdc M (L.take k) = B at c2 hBl hB
 generalize qcf M L = F at c4 hev hFl
 generalize qcf M (L.take k) = G at c5 hev
 have hGl : G.length ≤ F.length := by rw [hev, List.length_append]; omega
 have c3 : Con Tryz.prog 23 [(A.getD (a.tmod ((L.length : Int) + 1)).toNat st0z).av, (B.getD (a.tmod ((L.length : Int) + 1)).toNat st0z).av] (.bool true) := by
  have := jsn (stN M L k) (stN M L k) hss
  rw [jso] at this
  rw [hkn, hA, hB]; exact this
 have c6 : Con Tryz.prog 32 [.slc 6 ((G.length : Int)).toNat (encL Ev.cells {} F), evsV G] (.bool true) := by
  have := jsm G G (by omega)
  rw [decide_eq_true rfl] at this
  refine qwi this ⟨Le.slc rfl (fun j hj => ?_), Le.refl _, trivial⟩
  have hj : j < G.length := hj
  unfold encL
  rw [hev, jdk _ _ _ hj]
 ((conv => whnf); refine zQ 300 ?_)
 ((conv => whnf); refine CallY.con (c1) (by rfl) leA ?_)
 (repeat' ((conv => whnf); first | refine Ob.auto ?_ | fail))
 ((conv => whnf); refine CallY.con (c2) (by rfl) leA ?_)
 (repeat' ((conv => whnf); first | refine zA ?_ | fail))
 (repeat' ((conv => whnf); first | refine zA ?_ | refine Ob.auto ?_ | (refine CallZ.con (fun hg => c3) qgj (by rfl) ?_) | (refine zQ 300 ?_) | (apply zB <;> intro hb <;> (try simp [-List.getD_eq_getElem?_getD] at hb) <;> try (exfalso; omega))))
 ((conv => whnf); refine CallY.con (c4) (by rfl) leA ?_)
 (repeat' ((conv => whnf); first | refine Ob.auto ?_ | fail))
 ((conv => whnf); refine CallY.con (c5) (by rfl) leA ?_)
 (repeat' ((conv => whnf); first | refine zA ?_ | refine Ob.auto ?_ | fail))
 (repeat' ((conv => whnf); first | refine Ob.auto ?_ | refine zG 300 (fun hg => c6) ?_ | fail))
 refine Le.of_eq (congrArg AV.bool ?_)
 rw [Bool.and_true, decide_eq_true_eq]
 omega
end Go.Proofs.YtdoaagphhjggbaaGreat
