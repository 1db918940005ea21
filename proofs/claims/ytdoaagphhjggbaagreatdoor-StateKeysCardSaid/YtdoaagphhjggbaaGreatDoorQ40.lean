/- Some texts of the library, one behind the other. -/
import Derived.Test.YtdoaagphhjggbaaGreatDoorQ37
import Derived.Test.YtdoaagphhjggbaaGreatDoorQ39
import Derived.Test.YtdoaagphhjggbaaGreatDoorQStP
import Derived.Test.YtdoaagphhjggbaaGreatDoorQ38
import Derived.Test.YtdoaagphhjggbaaGreatDoorQ2
section
namespace Go.Proofs.YtdoaagphhjggbaaGreatDoor
open Go Go.Sx Go.RowKit Go.St
set_option maxRecDepth 100000
set_option maxHeartbeats 2000000
theorem qtu : Go.St.MOk model14 := mod_14.ok
theorem qtv : SSz (qbo model14) := ⟨by decide, by decide, by decide, fun c hc => by cases hc⟩
theorem val14 : sval model14 (-1) (qbo model14) 2 = (-56, true) := by decide +kernel
theorem jns : qci model14 (qbo model14) = true := by decide +kernel
theorem jnt : (model14.safe.isEmpty || qci model14 (qbo model14) && qxw model14 (qbo model14)) = true := by decide +kernel
theorem qke : Con Tryz.prog 4 [] (.bool true) := by
 have h1 := jni model14 qtu
 have h2 := jnq model14 qtu (-1) (qbo model14) qtv 2
 have h3 := qmn model14 (qbo model14) qtv
 have h4 := jnr model14 qtu (qbo model14) qtv
 rw [val14] at h2
 rw [jns] at h3
 rw [jnt] at h4
 refine zK {} 300 Tryz.func4 (fun c0 rdb => ?_)
 (repeat' ((conv => whnf); first | refine zO ?_ | refine Ob.auto ?_ | refine zC 300 (qkc) ?_ | refine zG 300 (fun hg => qkc) ?_ | refine zX (qkc) ?_ | refine zY (fun hg => qkc) ?_ | refine zC 300 (qkd) ?_ | refine zG 300 (fun hg => qkd) ?_ | refine zX (qkd) ?_ | refine zY (fun hg => qkd) ?_ | refine zC 300 (h1) ?_ | refine zG 300 (fun hg => h1) ?_ | refine zX (h1) ?_ | refine zY (fun hg => h1) ?_ | refine zC 300 (h2) ?_ | refine zG 300 (fun hg => h2) ?_ | refine zX (h2) ?_ | refine zY (fun hg => h2) ?_ | refine zC 300 (h3) ?_ | refine zG 300 (fun hg => h3) ?_ | refine zX (h3) ?_ | refine zY (fun hg => h3) ?_ | refine zC 300 (h4) ?_ | refine zG 300 (fun hg => h4) ?_ | refine zX (h4) ?_ | refine zY (fun hg => h4) ?_ | refine zE 300 (qkc) ?_ | refine zF 300 (fun hg => qkc) ?_ | refine zE 300 (qkd) ?_ | refine zF 300 (fun hg => qkd) ?_ | refine zE 300 (h1) ?_ | refine zF 300 (fun hg => h1) ?_ | refine zE 300 (h2) ?_ | refine zF 300 (fun hg => h2) ?_ | refine zE 300 (h3) ?_ | refine zF 300 (fun hg => h3) ?_ | refine zE 300 (h4) ?_ | refine zF 300 (fun hg => h4) ?_ | (refine zP 300 ?_) | (apply zB <;> intro hb <;> (try simp [-List.getD_eq_getElem?_getD] at hb) <;> try (exfalso; omega)) | refine Ob.intro ?_ ?_))
 exact Le.refl _
end Go.Proofs.YtdoaagphhjggbaaGreatDoor
end
section
namespace Go.St
open Go Go.Sx
theorem jnu {n n' w : Int} (h : n % 2 ^ wid w = n' % 2 ^ wid w) : trim n w = trim n' w := by
 unfold trim; rw [h]
theorem jbs (n w : Int) : trim (trim n w) w = trim n w := by
 refine jnu ?_
 have h2 := qfb (wid w) (qfa w).2
 have h3 := Int.emod_nonneg n (b := 2 ^ wid w) (by omega)
 have h4 := Int.emod_lt_of_pos n (b := 2 ^ wid w) (by omega)
 unfold trim
 split
 ·rw [Int.sub_emod_right]; exact Int.emod_eq_of_lt h3 h4
 ·exact Int.emod_eq_of_lt h3 h4
theorem joq {m : Md} (hm : MOk m) (l : List Int) : qci m (ja m l) = true := by
 refine (qhe m _).2 ⟨⟨by simp [ja], by simp [ja], by simp [ja], by simp [ja], by simp only [ja]; omega⟩, fun i hi => ?_, fun i hi => ?_, fun i hi => ?_⟩
 ·have hi' : i < m.procs.length := by simpa [ja] using hi
  have hp := hm.place _ (qu m.procs i pr0 hi')
  unfold qou
  rw [ja, qhd _ _ _ _ hi']
  exact qjp _ _ _ (by omega)
 ·have hi' : i < m.vars.length := by simpa [ja] using hi
  unfold qll
  rw [ja, qhd _ _ _ _ hi']
  exact jbs _ _
 ·have hi' : i < m.chans.length := by simpa [ja] using hi
  have hc := hm.chan _ (qu m.chans i ch0 hi')
  have hb := qjp l (kAt m l i) ((m.chans.getD i ch0).room + 1) (by omega)
  have hg : (ja m l).chans.getD i [] = (List.range (nAt m l i)).map fun q => qfc m l i q := by rw [ja, qhd _ _ _ _ hi']
  have hlen : ((ja m l).chans.getD i []).length = nAt m l i := by rw [hg]; simp
  refine ⟨?_, fun k hk => ?_⟩
  ·unfold qid
   rw [hlen]; unfold nAt; omega
  ·rw [hlen] at hk
   unfold qlm
   rw [hg, qhd _ _ _ _ hk]
   exact jbs _ _
theorem jbt {m : Md} (hm : MOk m) (l : List Int) : SSz (ja m l) := by
 have h := hm.sz
 refine ⟨by simp [ja]; omega, by simp [ja]; omega, by simp [ja]; omega, fun c hc => ?_⟩
 obtain ⟨i, hi, rfl⟩ := List.mem_iff_getElem.1 hc
 have hi' : i < m.chans.length := by simpa [ja] using hi
 have hc := hm.chan _ (qu m.chans i ch0 hi')
 have hb := qjp l (kAt m l i) ((m.chans.getD i ch0).room + 1) (by omega)
 simp only [ja, List.getElem_map, List.getElem_range, List.length_map, List.length_range]
 unfold nAt; omega
end Go.St
end
section
namespace Go.Proofs.YtdoaagphhjggbaaGreatDoor
open List renaming getD_eq_getElem?_getD → zd
open Go Go.Sx Go.RowKit Go.St
set_option maxRecDepth 100000
set_option maxHeartbeats 2000000
theorem qtw (a b : List Int) (ha : a.length ≤ 1000000) : Con Tryz.prog 22 [ints a, ints b] (.bool (a == b)) := by
 refine zK {} 300 Tryz.func22 (fun c0 rdb => ?_)
 (repeat' ((conv => whnf); first | refine Ob.auto ?_ | (apply zB <;> intro hb <;> (try simp [-zd] at hb) <;> try (exfalso; omega))))
 ·refine Le.of_eq (congrArg AV.bool ?_)
  exact (beq_eq_false_iff_ne.2 (fun h => by subst h; simp at hb)).symm
 ·((conv => whnf); refine qo (fun _ => rfl) 300 1 (fun i : Nat => [(5, iv i)]) (fun _ => []) (fun i => i ≤ a.length ∧ ∀ j, j < i → a.getD j 0 = b.getD j 0) (fun i => a.length - i) (0) (⟨by omega, fun j hj => absurd hj (Nat.not_lt_zero j)⟩) qa qa (fun _ => rfl) (by kernel_rfl) ?_; (conv => whnf))
  intro i hi
  (repeat' ((conv => whnf); first | refine zO ?_ | refine Ob.auto ?_ | refine zD 300 ?_ | (apply zB <;> intro hb <;> (try simp [-zd] at hb) <;> try (exfalso; omega))))
  ·refine Le.of_eq (congrArg AV.bool ?_)
   exact (beq_eq_false_iff_ne.2 (fun h => by subst h; simp at hb)).symm
  ·((conv => whnf); refine ⟨i + 1, ⟨by omega, qaq hi.2 hb⟩, ⟨qa, qa⟩, ⟨qa, qa⟩, ?_⟩; (first | omega | (dsimp only; omega) | skip))
  ·refine Le.of_eq (congrArg AV.bool ?_)
   exact (beq_iff_eq.2 (qxz 0 (by omega) (fun j hj => hi.2 j (by omega)))).symm
theorem jnv (a b : Stt) (ha : SSz a) : Con Tryz.prog 8 [a.av, b.av] (.bool (qgd a b)) := by
 have h1 := ha.a
 have h2 := ha.v
 have h3 := ha.c
 have h4 := ha.l
 refine zK {} 300 Tryz.func8 (fun c0 rdb => ?_)
 (repeat' ((conv => whnf); first | refine Ob.auto ?_ | refine zC 300 (qtw a.at_ b.at_ h1) ?_ | refine zG 300 (fun hg => qtw a.vars b.vars h2) ?_ | (apply zB <;> intro hb <;> (try simp [-zd] at hb) <;> try (exfalso; omega))))
 ·refine Le.of_eq (congrArg AV.bool ?_)
  refine Eq.symm ?_
  unfold qgd
  rw [Bool.eq_false_iff]
  intro h
  simp only [Bool.and_eq_true, beq_iff_eq] at h
  obtain ⟨⟨⟨e1, e2⟩, e3⟩, e4⟩ := h
  rw [e3] at hb
  simp [e1, e2, e4] at hb
 ·obtain ⟨⟨⟨e1, e2⟩, e3⟩, e4⟩ := hb
  ((conv => whnf); refine qo (fun _ => rfl) 300 1 (fun i : Nat => [(5, iv i)]) (fun _ => []) (fun i => i ≤ a.chans.length ∧ ∀ j, j < i → a.chans.getD j [] = b.chans.getD j []) (fun i => a.chans.length - i) (0) (⟨Nat.zero_le _, fun j hj => absurd hj (Nat.not_lt_zero j)⟩) qa qa (fun _ => rfl) (by kernel_rfl) ?_; (conv => whnf))
  intro i hi
  have hli : i < a.chans.length → _ := fun h => h4 _ (qu a.chans i [] h)
  (repeat' ((conv => whnf); first | refine zA ?_ | refine Ob.auto ?_ | (refine CallY.con (qtw (a.chans.getD i []) (b.chans.getD i []) (hli (by omega))) (by rfl) leA ?_) | (refine zQ 300 ?_) | (apply zB <;> intro hb <;> (try simp [-zd] at hb) <;> try (exfalso; omega))))
  ·refine Le.of_eq (congrArg AV.bool ?_)
   refine Eq.symm ?_
   unfold qgd
   rw [Bool.eq_false_iff]
   intro h
   simp only [Bool.and_eq_true, beq_iff_eq] at h
   rw [h.1.2] at hb
   exact hb rfl
  ·((conv => whnf); refine ⟨i + 1, ⟨by omega, qaq hi.2 hb⟩, ⟨qa, qa⟩, ⟨qa, qa⟩, ?_⟩; (first | omega | (dsimp only; omega) | skip))
  ·refine Le.of_eq (congrArg AV.bool ?_)
   unfold qgd
   rw [e1, e2, e4, qxz [] (by omega) (fun j hj => hi.2 j (by omega))]
   simp
end Go.Proofs.YtdoaagphhjggbaaGreatDoor
end
section
namespace Go.Sx
open Go Go.RowKit
theorem jnz {P : Program} {f : FuncId} {fn : Func} {body : Code} (hf : P.funcs[f]? = some fn) (hb : fn.body = some body) (hname : (fn.name == "runtime.NumGoroutine") = false)
  {e : TypeId} {ep n : Nat} {F : Nat → List AV} (aS : List AV) (bs : List Value) (ha : ∀ rd mp vs, RelL rd mp aS vs → vs.toList = bs) {m : Nat} (hm0 : 0 < m) (g : Nat → List AV) (news : List Value) (hnl : news.length = m) (hgl : ∀ k, k < m → (g k).length = 1)
  (hgr : ∀ (k j : Nat) x, k < m → (g k)[j]? = some x → ∃ u, news[k * 1 + j]? = some u ∧ u.oneCell' = true ∧ Rel (fun _ _ => none) Mp.none x u)
  (h : ∀ (w : World) (sv : Value) (xs : List Value), Owns w e 1 sv n xs → (∀ t ∈ tbs, ∃ ty fz, w.heap[t.1]? = some (.cells t.2 ty fz)) →
   Calls P f (#[sv] ++ bs.toArray) w fun x w' => ∃ v', x = .returned v' ∧ Owns w' e 1 v' (n + m) (xs ++ news) ∧ w.grownBy w' sv.ownBlock ∧ (v'.ownBlock = sv.ownBlock ∨ ∃ g, v'.ownBlock = some g ∧ w.heap.size ≤ g)) :
  Trip P f (.own 0 0 ep n :: aS) [.row [] e 1 ep n F] (.own 0 0 ep (n + m)) [(0, .row [] e 1 ep (n + m) (appF n F m g))] 1 := by
 intro c rd mp w vs hw hrd0 hstd hm hargs
 have hname' : fn.name ≠ "runtime.NumGoroutine" := by simpa using hname
 refine .inl ⟨by simp [callFunc, hf, hname', hb, mark], ?_⟩
 have hmem : IsMem (idx 0 [SO.row [] e 1 ep n F]) 0 0 ⟨[], e, 1, ep, n, F⟩ := .row (by simp [idx, look])
 obtain ⟨v, xs, h1, h2, h3, h4, h5⟩ := hm.mb 0 0 _ hmem
 dsimp only at h1 h2 h3 h4
 -- the arguments
 obtain ⟨sv, us, rfl⟩ : ∃ sv us, vs = #[sv] ++ us := by
  have h0 : vs.toList.length = aS.length + 1 := by rw [Array.length_toList, hargs.1]; rfl
  rcases hv : vs.toList with _ | ⟨sv, us⟩
  ·rw [hv] at h0; simp at h0
  ·exact ⟨sv, us.toArray, by apply Array.ext'; simpa using hv⟩
 have hus : RelL rd mp aS us := ⟨by have := hargs.1; simp at this; omega, fun j x u hx hu => hargs.2 (j + 1) x u (by simpa using hx) (by rw [Array.getElem?_append_right (by simp)]; simpa using hu)⟩
 have hbs := ha rd mp us hus
 have hsv : sv = v := by
  have := hargs.2 0 (.own 0 0 ep n) sv rfl (by rw [Array.getElem?_append_left (by simp)]; rfl)
  cases this with
  | own _ _ _ _ _ _ vr er nr hr he hn hv hs => rw [h1] at hr; cases hr; exact hv rfl rfl
 subst hsv
 rw [show us = bs.toArray by rw [← hbs]] 
 refine (h w sv xs h2 (fun t ht => (hm.tabR t ht).2)).mono fun x w' ⟨v', he, hown', hgrow, hat⟩ => .inl ⟨v', he, rd, mp.setRow 0 0 v' ep (n + m), ?_, Rd.le.refl _, ?_⟩
 ·exact .own _ _ _ _ _ _ _ _ _ (by simp [Mp.setRow]) (Nat.le_refl _) (fun _ => Nat.le_refl _) (fun _ _ => rfl) hown'.sl
 ·have hcells := qvf (rd := rd) (mp1 := mp.sel []) (sz := 1) (n := n) (m := m) (f := F) (g := g) (xs := xs) (news := news) (by simpa using h2.1) h3 hgl (fun i j x hi hx => h4 i j x hi hx) (fun i j x hi hx => by
   obtain ⟨u, hu, h6, h7⟩ := hgr i j x hi hx
   exact ⟨u, hu, h6, h7.mono (fun _ _ _ h => by cases h) (Mp.none_le _)⟩)
  have := hm.turnRow (w' := w') (r := 0) (i := 0) (ep := ep) (n := n + m) (f := appF n F m g) (ob := none) (R := ⟨[], e, 1, ep, n, F⟩) (by simp [jg, idx, look]) trivial h1 h5 (.inr ⟨rfl, .inl (by dsimp only; omega)⟩) hgrow hown' hat hcells.1 hcells.2
  refine ⟨this.1, ?_⟩
  have h6 := this.2
  simpa [jm, idx, look, qj] using h6
end Go.Sx
end
