/- Some texts of the library, one behind the other. -/
import Derived.Test.YtikahnkkfkoglaaGreatDoorY2Mk5
import Derived.Test.YtikahnkkfkoglaaGreatDoorY237
import Derived.Test.YtikahnkkfkoglaaGreatDoorY233
import Derived.Test.YtikahnkkfkoglaaGreatDoorY219
import Derived.Test.YtikahnkkfkoglaaGreatDoorY214
import Derived.Test.YtikahnkkfkoglaaGreatDoorY217
import Derived.Test.YtikahnkkfkoglaaGreatDoorY22
import Derived.Test.YtikahnkkfkoglaaGreatDoorY220
import Derived.Test.YtikahnkkfkoglaaGreatDoorY222
import Derived.Test.YtikahnkkfkoglaaGreatDoorY223
import Derived.Test.YtikahnkkfkoglaaGreatDoorY232
set_option linter.unusedSimpArgs false
set_option linter.unusedVariables false
section
namespace Go.Proofs.YtikahnkkfkoglaaGreatDoor
open List renaming getD_eq_getElem?_getD → zd
open Go Go.Sx Go.RowKit Go.St
set_option maxRecDepth 100000
set_option maxHeartbeats 8000000
theorem jhr (l:List Nd) (ht:Tree l) (hc:(qcg l).1=0):Con Tryz.prog 16 [jx l] (.tup [(qfh l).av,.bool true]):=by
  have hlen:=ht.len
  have hroot:=ht.root
  have hk0:=(ht.kidsLen (j:=0) (by omega)).1
  have hkr:∀ i,i<(l.getD 0 nd0).kids.length→0≤(l.getD 0 nd0).kids.getD i 0∧(l.getD 0 nd0).kids.getD i 0<l.length:=fun i hi=>by
    have:=ht.kids 0 (by omega) _ (qk _ i 0 hi);omega
  refine zK {} 2000 Tryz.func16 (fun c0 rdb=>?_)
  (repeat' ((conv=>whnf);first|refine zC 2000 (jhk l ht) ?_|(apply zB <;> intro hb <;> (try simp [-zd] at hb) <;> try (exfalso;omega))))
  refine qdh 2 2 85 5 rfl rfl ?_
  refine qdh 2 3 90 3 rfl rfl ?_
  refine qdh 2 5 3 1 rfl rfl ?_
  have hwr:=(qpg hc).2
  have hMz:∀ i,i≤(l.getD 0 nd0).kids.length→∀ M,M=((l.getD 0 nd0).kids.take i).foldl (qha l) { tree:=l }→(M.chans.length≤800∧M.vars.length≤800)∧M.safe.length≤800:=fun i hi M hM=>by
    have:=qwv ht hwr ((l.getD 0 nd0).kids.take i) [] { tree:=l } (fun k hk=>by have:=ht.kids 0 (by omega) k (List.mem_of_mem_take hk);omega) ⟨⟨rfl,rfl,rfl⟩,rfl,rfl,fun c hc=>by simp at hc,fun k hk=>by simp at hk,zl _⟩
    rw [List.nil_append,← hM] at this
    have h1:=this.vars
    have h2:=this.chans
    have h3:=this.safe.2
    have h4:=zas (isK l 2) ((l.getD 0 nd0).kids.take i)
    have h5:=zas (isK l 1) ((l.getD 0 nd0).kids.take i)
    rw [xc] at h3 h4 h5
    omega
  ((conv=>whnf);refine qm (fun _=>rfl) 2000 1 (fun g:Nat × Md=>[(6,iv g.1)]) (fun g=>[(2,.box 29 [jx l,iv 0,.own 3 0 0 g.2.chans.length,.own 4 0 0 g.2.vars.length,.nils,.own 5 0 0 g.2.safe.length,.bool g.2.dead]),(3,.row [] 85 5 0 g.2.chans.length (encL Ch.cells ch0 g.2.chans)),(4,.row [] 90 3 0 g.2.vars.length (encL Vr.cells vr0 g.2.vars)),(5,.row [] 3 1 0 g.2.safe.length (encL (fun n=>[iv n]) 0 g.2.safe))]) (fun g=>g.1≤(l.getD 0 nd0).kids.length∧g.2=((l.getD 0 nd0).kids.take g.1).foldl (qha l) { tree:=l }) (fun g=>(l.getD 0 nd0).kids.length - g.1) ((0,{ tree:=l })) (⟨by simp,rfl⟩) qa ⟨⟨rfl,Le.refl _,Le.refl _,Le.refl _,Le.refl _,Le.refl _,Le.refl _,Le.refl _,trivial⟩,qcb (fun k hk=>absurd hk (zh k)),qcb (fun k hk=>absurd hk (zh k)),qcb (fun k hk=>absurd hk (zh k)),trivial⟩ (fun _=>rfl) (by kernel_rfl) ?_;(conv=>whnf))
  rintro ⟨i,M⟩ ⟨hi,hM⟩
  simp only at hi hM
  have hz:=hMz i hi M hM
  have hki:i<(l.getD 0 nd0).kids.length→_:=hkr i
  have hln:i<(l.getD 0 nd0).kids.length→LenOk (l.getD ((l.getD 0 nd0).kids.getD i 0).toNat nd0):=fun h=>ht.lens _ (by have:=hki h;omega)
  have hn4:=fun h=>(hln h).n4
  have hn2:=fun h=>(hln h).n2
  have hw1:=fun h=>(hln h).w1
  have hk1:=fun h=>(hln h).k1
  (repeat' ((conv=>whnf);first|refine zO ?_|refine Ob.auto ?_|refine zD 2000 ?_|(apply zB <;> intro hb <;> (try simp [-zd] at hb) <;> try (exfalso;omega))))
  all_goals first
    | (have hil : i < (l.getD 0 nd0).kids.length := by omega
       have hst:((l.getD 0 nd0).kids.take (i+1)).foldl (qha l) { tree:=l }=qha l M ((l.getD 0 nd0).kids.getD i 0):=by
         rw [qtv _ i 0 hil,xx,← hM];rfl
       unfold qha at hst
       simp only at hst)
    | skip
  · rw [zb hb] at hst
    ((conv=>whnf);refine ⟨(i+1,{ M with chans:=M.chans++[⟨(l.getD ((l.getD 0 nd0).kids.getD i 0).toNat nd0).words.getD 0 [],(l.getD ((l.getD 0 nd0).kids.getD i 0).toNat nd0).nums.getD 0 0,(l.getD ((l.getD 0 nd0).kids.getD i 0).toNat nd0).nums.getD 1 0,(l.getD ((l.getD 0 nd0).kids.getD i 0).toNat nd0).nums.getD 2 0 == 1,(l.getD ((l.getD 0 nd0).kids.getD i 0).toNat nd0).nums.getD 3 0 == 1⟩] }),⟨by simp only;omega,hst.symm⟩,⟨qa,qa⟩,⟨qa,qa⟩,?_⟩;(first|omega|(dsimp only;omega)|skip))
  · rename_i e1
    rw [za e1,zb hb] at hst
    ((conv=>whnf);refine ⟨(i+1,{ M with vars:=M.vars++[⟨(l.getD ((l.getD 0 nd0).kids.getD i 0).toNat nd0).words.getD 0 [],(l.getD ((l.getD 0 nd0).kids.getD i 0).toNat nd0).nums.getD 0 0,(l.getD ((l.getD 0 nd0).kids.getD i 0).toNat nd0).nums.getD 1 0⟩] }),⟨by simp only;omega,hst.symm⟩,⟨qa,qa⟩,⟨qa,qa⟩,?_⟩;(first|omega|(dsimp only;omega)|skip))
  · rename_i e2 e1
    rw [za (by assumption),za (by assumption),zb hb] at hst
    ((conv=>whnf);refine ⟨(i+1,{ M with safe:=M.safe++[(l.getD ((l.getD 0 nd0).kids.getD i 0).toNat nd0).kids.getD 0 0] }),⟨by simp only;omega,hst.symm⟩,⟨qa,qa⟩,⟨qa,qa⟩,?_⟩;(first|omega|(dsimp only;omega)|skip))
  · rw [za (by assumption),za (by assumption),za (by assumption),zb hb] at hst
    ((conv=>whnf);refine ⟨(i+1,{ M with dead:=true }),⟨by simp only;omega,hst.symm⟩,⟨qa,qa⟩,⟨qa,qa⟩,?_⟩;(first|omega|(dsimp only;omega)|skip))
  · rw [za (by assumption),za (by assumption),za (by assumption),za (by assumption)] at hst
    ((conv=>whnf);refine ⟨(i+1,M),⟨by simp only;omega,hst.symm⟩,⟨qa,qa⟩,⟨qa,qa⟩,?_⟩;(first|omega|(dsimp only;omega)|skip))
  obtain rfl:i=(l.getD 0 nd0).kids.length:=by omega
  rw [zay] at hM
  have hi0:=qwx ht hwr
  rw [show qcw l=M from hM.symm] at hi0
  clear hki hln hn4 hn2 hw1 hk1 hMz hi hb
  have hmk:qfh l={ M with globals:=M.vars.length,vars:=((l.getD 0 nd0).kids.foldl (qcv l M.chans) (0,M.vars,[])).2.1,procs:=((l.getD 0 nd0).kids.foldl (qcv l M.chans) (0,M.vars,[])).2.2 }:=by rw [hM];rfl
  have hbd:=(qpg hc).1
  have hPI:=qww ht hbd hwr (cs:=M.chans) (gl:=M.vars) hi0.chans hi0.vars
  clear hM
  ((conv=>whnf);refine qsk [0,1,2,4] 2 rfl frzA ?_)
  (conv=>whnf)
  refine qdh 2 4 80 8 rfl rfl ?_
  ((conv=>whnf);refine qm (fun _=>rfl) 2000 2 (fun g:Nat × Nat × List Vr × List Pr=>[(9,iv g.1),(8,iv g.2.1)]) (fun g=>[(2,.box 29 [jx l,iv M.vars.length,slcL Ch.cells ch0 5 M.chans,.own 4 0 0 g.2.2.1.length,.own 6 0 0 g.2.2.2.length,ints M.safe,.bool M.dead]),(4,.row [] 90 3 0 g.2.2.1.length (encL Vr.cells vr0 g.2.2.1)),(6,.row [] 80 8 0 g.2.2.2.length (encL Pr.cells pr0 g.2.2.2))]) (fun g=>g.1≤(l.getD 0 nd0).kids.length∧g.2=((l.getD 0 nd0).kids.take g.1).foldl (qcv l M.chans) (0,M.vars,[])) (fun g=>(l.getD 0 nd0).kids.length - g.1) ((0,0,M.vars,[])) (⟨by simp,rfl⟩) qa ⟨⟨rfl,Le.refl _,Le.refl _,Le.refl _,Le.refl _,Le.refl _,Le.refl _,Le.refl _,trivial⟩,SoLe.refl _,qcb (fun k hk=>absurd hk (zh k)),trivial⟩ (fun _=>rfl) (by kernel_rfl) ?_;(conv=>whnf))
  rintro ⟨i,seen,vs,ps⟩ ⟨hi,hx⟩
  simp only at hi hx
  have hki:i<(l.getD 0 nd0).kids.length→_:=hkr i
  have hp:=hPI i hi
  rw [← hx] at hp
  have hsn:=hp.seen
  have hsl:=zas (isK l 2) ((l.getD 0 nd0).kids.take i)
  rw [xc] at hsl
  simp only at hsn
  have hkn:=hsl
  have hkl0:=(ht.kidsLen (j:=0) (by omega)).1
  clear hsl
  (repeat' ((conv=>whnf);first|refine Ob.auto ?_|(refine Ob.intro (by (first|exact ⟨by omega,by omega⟩|exact qeb (by simp only;omega) (by simp only;omega))) ?_)|(apply zB <;> intro hb <;> (try simp [-zd] at hb) <;> try (exfalso;omega))))
  · ((conv=>whnf);refine qm (fun _=>rfl) 2000 3 (fun g:Nat × List Vr × List Pr=>[(11,iv g.1)]) (fun g=>[(2,.box 29 [jx l,iv M.vars.length,slcL Ch.cells ch0 5 M.chans,.own 4 0 0 g.2.1.length,.own 6 0 0 g.2.2.length,ints M.safe,.bool M.dead]),(4,.row [] 90 3 0 g.2.1.length (encL Vr.cells vr0 g.2.1)),(6,.row [] 80 8 0 g.2.2.length (encL Pr.cells pr0 g.2.2))]) (fun g=>g=(0,vs,ps)) (fun g=>0) ((0,vs,ps)) (rfl) qa qa (fun _=>rfl) (by kernel_rfl) ?_;(conv=>whnf))
    rintro _ rfl
    (repeat' ((conv=>whnf);first|refine Ob.auto ?_|(apply zB <;> intro hb <;> (try simp [-zd] at hb) <;> try (exfalso;omega))))
    · have hil:i<(l.getD 0 nd0).kids.length:=by omega
      have hst:((l.getD 0 nd0).kids.take (i+1)).foldl (qcv l M.chans) (0,M.vars,[])=(seen+1,vs,ps):=by
        rw [qtv _ i 0 hil,xx,← hx]
        show qcv l M.chans (seen,vs,ps) ((l.getD 0 nd0).kids.getD i 0)=_
        unfold qcv
        simp only
        rw [zb (by assumption),za (by omega)]
      ((conv=>whnf);refine ⟨(i+1,seen+1,vs,ps),⟨by simp only;omega,hst.symm⟩,⟨qa,qa⟩,⟨qa,qa⟩,?_⟩;(first|omega|(dsimp only;omega)|skip))
  · ((conv=>whnf);refine qm (fun _=>rfl) 2000 3 (fun g:Nat × List Vr × List Pr=>[(11,iv g.1)]) (fun g=>[(2,.box 29 [jx l,iv M.vars.length,slcL Ch.cells ch0 5 M.chans,.own 4 0 0 g.2.1.length,.own 6 0 0 g.2.2.length,ints M.safe,.bool M.dead]),(4,.row [] 90 3 0 g.2.1.length (encL Vr.cells vr0 g.2.1)),(6,.row [] 80 8 0 g.2.2.length (encL Pr.cells pr0 g.2.2))]) (fun g=>g.2=(List.range g.1).foldl (qdq l M.chans ((l.getD 0 nd0).kids.getD i 0) seen) (vs,ps)∧(g.1=0∨(qv l ((l.getD 0 nd0).kids.getD i 0)=3∧g.1≤((l.getD ((l.getD 0 nd0).kids.getD i 0).toNat nd0).nums.getD 0 0).toNat))) (fun g=>((l.getD ((l.getD 0 nd0).kids.getD i 0).toNat nd0).nums.getD 0 0).toNat - g.1) ((0,vs,ps)) (⟨rfl,.inl rfl⟩) qa qa (fun _=>rfl) (by kernel_rfl) ?_;(conv=>whnf))
    rintro ⟨c,us,qs⟩ ⟨hc1,hc2⟩
    simp only at hc1 hc2
    have hil:i<(l.getD 0 nd0).kids.length:=by omega
    have hlk:=ht.lens ((l.getD 0 nd0).kids.getD i 0).toNat (by have:=hki hil;omega)
    have hck:(l.getD ((l.getD 0 nd0).kids.getD i 0).toNat nd0).kind=3→c≤((l.getD ((l.getD 0 nd0).kids.getD i 0).toNat nd0).nums.getD 0 0).toNat→_:=fun h3 h4=>jvz ht hbd hwr hi0.chans hi0.vars hil hp h3 h4 hc1
    (repeat' ((conv=>whnf);first|refine Ob.auto ?_|(refine Ob.intro (by (first|exact ⟨by omega,by omega⟩|(intro h;exact ⟨h,xb _,Int.natCast_pos.2 (Nat.lt_of_lt_of_eq zbd (hlk.n1 (.inl (eq_of_beq h))).symm)⟩)|exact ⟨xb _,Int.natCast_pos.2 (Nat.lt_of_lt_of_eq zbd (hlk.w1 (.inr (.inr (.inl hb.1)))).symm)⟩)) ?_)|(apply zB <;> intro hb <;> (try simp [-zd] at hb) <;> try (exfalso;omega))))
    · have hb3:(l.getD ((l.getD 0 nd0).kids.getD i 0).toNat nd0).kind=3:=hb.1
      have hbc:(c:Int)<(l.getD ((l.getD 0 nd0).kids.getD i 0).toNat nd0).nums.getD 0 0:=hb.2
      have hca:=hck hb3 (by omega)
      have hc1':=hca.hk
      have hc2':=hca.hs
      have hc3':=hca.hq
      refine qdh 8 6 9 1 rfl rfl ?_
      refine qdh 8 7 3 1 rfl rfl ?_
      refine qdh 8 2 3 1 rfl rfl ?_
      have hre:Le (AV.slc 1 2 (chop 1 [AV.bool false,AV.bool true])) (qmb [false,true]):=Le.slc rfl (fun q hq=>by match q,hq with|0,_=>rfl|1,_=>rfl)
      ((conv=>whnf);refine qm (fun _=>rfl) 2000 4 (fun v:Nat=>[(13,iv v)]) (fun v=>[(8,.box 80 [.str ((l.getD ((l.getD 0 nd0).kids.getD i 0).toNat nd0).words.getD 0 []),iv c,.own 11 0 0 0,iv 2,qmb [false,true],.nils,.own 9 0 0 v,.own 10 0 0 v]),(9,.row [] 9 1 0 v (fun j=>[.str (us.getD j vr0).name])),(10,.row [] 3 1 0 v (fun j=>[iv j]))]) (fun v=>v≤seen) (fun v=>seen - v) (0) (zv _) qa ⟨⟨rfl,Le.refl _,Le.refl _,Le.refl _,Le.refl _,hre,Le.refl _,Le.refl _,Le.refl _,trivial⟩,qcb (fun k hk=>absurd hk (zh k)),qcb (fun k hk=>absurd hk (zh k)),trivial⟩ (fun _=>rfl) (by kernel_rfl) ?_;(conv=>whnf))
      intro v hv
      have hv0:v≤seen:=hv
      (repeat' ((conv=>whnf);first|refine zO ?_|refine Ob.auto ?_|refine zD 2000 ?_|(apply zB <;> intro hb <;> (try simp [-zd] at hb) <;> try (exfalso;omega))))
      · ((conv=>whnf);refine ⟨v+1,by omega,⟨qa,qa⟩,⟨qa,qa⟩,?_⟩;(first|omega|(dsimp only;omega)|skip))
      obtain rfl:seen=v:=by omega
      have hkk:=(ht.kidsLen (j:=((l.getD 0 nd0).kids.getD i 0).toNat) (by omega)).1
      have hkx:=ht.kids ((l.getD 0 nd0).kids.getD i 0).toNat (by omega)
      have hst0:seen≤us.length:=by omega
      have hla:=jhq (l:=l) (us:=us) (seen:=seen) (K:=(l.getD 0 nd0).kids.getD i 0) (c:=(c:Int)) hst0
      ((conv=>whnf);refine qm (fun _=>rfl) 2000 4 (fun g:Nat × Pr × List Vr=>[(14,iv g.1),(8,iv seen)]) (fun g=>[(2,.box 29 [jx l,iv M.vars.length,slcL Ch.cells ch0 5 M.chans,.own 4 0 0 g.2.2.length,.own 6 0 0 qs.length,ints M.safe,.bool M.dead]),(4,.row [] 90 3 0 g.2.2.length (encL Vr.cells vr0 g.2.2)),(8,.box 80 [.str ((l.getD ((l.getD 0 nd0).kids.getD i 0).toNat nd0).words.getD 0 []),iv c,.own 11 0 0 g.2.1.locals.length,iv 2,qmb [false,true],.nils,.own 9 0 0 g.2.1.names.length,.own 10 0 0 g.2.1.vars.length]),(9,.row [] 9 1 0 g.2.1.names.length (encL (fun s=>[.str s]) [] g.2.1.names)),(10,.row [] 3 1 0 g.2.1.vars.length (encL (fun n=>[iv n]) 0 g.2.1.vars)),(11,.row [] 3 1 0 g.2.1.locals.length (encL (fun n=>[iv n]) 0 g.2.1.locals))]) (fun g=>(g.2=locX l us seen ((l.getD 0 nd0).kids.getD i 0) c g.1∧g.1≤(l.getD ((l.getD 0 nd0).kids.getD i 0).toNat nd0).kids.length)∧∀ j,j<g.1→kidK l (l.getD ((l.getD 0 nd0).kids.getD i 0).toNat nd0) j=2) (fun g=>(l.getD ((l.getD 0 nd0).kids.getD i 0).toNat nd0).kids.length - g.1) ((0,locX l us seen ((l.getD 0 nd0).kids.getD i 0) c 0)) (⟨⟨rfl,zv _⟩,fun j hj=>absurd hj (zh j)⟩) qa ⟨⟨rfl,Le.refl _,Le.refl _,Le.refl _,Le.refl _,Le.refl _,Le.refl _,Le.refl _,trivial⟩,SoLe.refl _,⟨rfl,Le.refl _,Le.refl _,Le.refl _,Le.refl _,Le.refl _,Le.refl _,Le.of_eq (congrArg (AV.own _ _ _) (hla 0 (zv _)).nm.symm),Le.of_eq (congrArg (AV.own _ _ _) (hla 0 (zv _)).vr.symm),trivial⟩,⟨⟨rfl,rfl,rfl⟩,rfl,(hla 0 (zv _)).nm.symm,fun j hj=>LeL.of_eq (jwb hst0 hj)⟩,⟨⟨rfl,rfl,rfl⟩,rfl,(hla 0 (zv _)).vr.symm,fun j hj=>LeL.of_eq (vars0 hj)⟩,qcb (fun k hk=>absurd hk (zh k)),trivial⟩ (fun _=>rfl) (by kernel_rfl) ?_;(conv=>whnf))
      rintro ⟨k,X,ws⟩ ⟨⟨hX,hk1⟩,hk2⟩
      simp only at hX hk1 hk2
      have hl1:=hla k hk1
      rw [← hX] at hl1
      have hl2:=hl1.nm
      have hl3:=hl1.vr
      have hl4:=hl1.lc
      have hl5:=hl1.len
      have hkm:=fun h:k<(l.getD ((l.getD 0 nd0).kids.getD i 0).toNat nd0).kids.length=>hkx _ (qk _ k 0 h)
      simp only at hl2 hl3 hl4 hl5
      have hkm':k<(l.getD ((l.getD 0 nd0).kids.getD i 0).toNat nd0).kids.length→0≤(l.getD ((l.getD 0 nd0).kids.getD i 0).toNat nd0).kids.getD k 0∧(l.getD ((l.getD 0 nd0).kids.getD i 0).toNat nd0).kids.getD k 0<l.length:=fun h=>by have:=hkm h;omega
      have hlq:=fun h:k<(l.getD ((l.getD 0 nd0).kids.getD i 0).toNat nd0).kids.length=>ht.lens ((l.getD ((l.getD 0 nd0).kids.getD i 0).toNat nd0).kids.getD k 0).toNat (by have:=hkm h;omega)
      (repeat' ((conv=>whnf);first|refine zO ?_|refine Ob.auto ?_|(refine Ob.intro (by (first|exact ⟨by omega,by omega⟩|(intro h;exact ⟨h,h,hkm' (Int.ofNat_lt.1 (zm h))⟩)|exact hkm' hb.1|exact ⟨xb _,Int.natCast_pos.2 (Nat.lt_of_lt_of_eq zbd ((hlq hb.1).w1 (.inr (.inl hb.2))).symm)⟩|exact ⟨xb _,Int.natCast_pos.2 (Nat.lt_of_lt_of_eq Nat.zero_lt_two ((hlq hb.1).n2 hb.2).symm)⟩|exact ⟨by decide,Int.ofNat_lt.2 (Nat.lt_of_lt_of_eq Nat.one_lt_two ((hlq hb.1).n2 hb.2).symm)⟩)) ?_)|refine zD 2000 ?_|(apply zB <;> intro hb <;> (try simp [-zd] at hb) <;> try (exfalso;omega))))
      · have hkl:k<(l.getD ((l.getD 0 nd0).kids.getD i 0).toNat nd0).kids.length:=hb.1
        have hXs:qee l (X,ws) ((l.getD ((l.getD 0 nd0).kids.getD i 0).toNat nd0).kids.getD k 0)=locX l us seen ((l.getD 0 nd0).kids.getD i 0) c (k+1):=by rw [hX,jhp hkl]
        ((conv=>whnf);refine ⟨(k+1,{ X with locals:=X.locals++[(ws.length:Int)],names:=X.names++[(l.getD ((l.getD ((l.getD 0 nd0).kids.getD i 0).toNat nd0).kids.getD k 0).toNat nd0).words.getD 0 []],vars:=X.vars++[(ws.length:Int)] },ws++[(⟨(l.getD ((l.getD ((l.getD 0 nd0).kids.getD i 0).toNat nd0).kids.getD k 0).toNat nd0).words.getD 0 [],(l.getD ((l.getD ((l.getD 0 nd0).kids.getD i 0).toNat nd0).kids.getD k 0).toNat nd0).nums.getD 0 0,(l.getD ((l.getD ((l.getD 0 nd0).kids.getD i 0).toNat nd0).kids.getD k 0).toNat nd0).nums.getD 1 0⟩:Vr)]),⟨⟨hXs,hkl⟩,fun j hj=>by
          simp only at hj
          rcases Nat.lt_succ_iff_lt_or_eq.1 hj with h|rfl
          · exact hk2 j h
          · exact hb.2⟩,⟨qa,qa⟩,⟨qa,qa⟩,?_⟩;(first|omega|(dsimp only;omega)|skip))
      have hvN:varsN l (l.getD ((l.getD 0 nd0).kids.getD i 0).toNat nd0)=k:=jch l _ k hk1 hk2 (by
        by_cases h:k<(l.getD ((l.getD 0 nd0).kids.getD i 0).toNat nd0).kids.length
        · exact .inr (hb h)
        · exact .inl (by omega))
      obtain ⟨_,n,next,_,g',hg',hnn,hw,hks⟩:=jdu ht (k:=((l.getD 0 nd0).kids.getD i 0).toNat) (by omega) hb3
      rw [hvN] at hw hks
      rw [show ((((l.getD 0 nd0).kids.getD i 0).toNat:Nat):Int)=(l.getD 0 nd0).kids.getD i 0 by omega] at hks
      obtain ⟨Xn,Xc,Xl,Xp,Xr,Xe,Xs,Xv⟩:=X
      have hok:PrOk l.length ws.length M.chans.length ⟨Xn,Xc,Xl,Xp,Xr,Xe,Xs,Xv⟩:=by
        have:=jwc (l:=l) (us:=us) (seen:=seen) (K:=(l.getD 0 nd0).kids.getD i 0) (c:=(c:Int)) (T:=l.length) (nc:=M.chans.length) hst0 hk1 (by omega)
        rw [← hX] at this
        exact this
      have hac:=jwa (cs:=M.chans) (us:=us) (seen:=seen) (qs:=qs) (c:=c) hvN
      rw [← hX] at hac
      have hnd:=hca.hn
      rw [hvN,← hl3] at hnd
      obtain ⟨e1,e2,e3,e4,e5⟩:=hl1.st
      simp only at e1 e2 e3 e4 e5
      subst e1 e2 e3 e4 e5
      have hrow:=row_trip { M with tree:=l,globals:=(M.vars.length:Int) } ht ws.length ((l.getD 0 nd0).kids.getD i 0) ws.length (encL Vr.cells vr0 ws) qs.length (encL Pr.cells pr0 qs) 20 (stat_trip { M with tree:=l,globals:=(M.vars.length:Int) } ht ws.length ((l.getD 0 nd0).kids.getD i 0) ws.length (encL Vr.cells vr0 ws) qs.length (encL Pr.cells pr0 qs) (by simp only;omega) 20) g' hg' ((l.getD 0 nd0).kids.getD i 0) ((l.getD ((l.getD 0 nd0).kids.getD i 0).toNat nd0).kids.drop k) _ 0 1 next n ⟨hnn.1,hw,hks⟩ hok hnd ⟨xb _,(by show (0:Int)<2;decide)⟩ ⟨(by decide),(by show (1:Int)<2;decide)⟩ (by simp only [zap];omega) (by simp only;omega)
      ((conv=>whnf);refine qdp [0,1,2,4,6,7,8] 8 rfl frzA ?_)
      (repeat' ((conv=>whnf);first|refine Ob.auto ?_|(refine zQ 2000 ?_)|fail))
      ((conv=>whnf);refine CallY.trip [4,6] hrow (by kernel_rfl) ⟨Le.refl _,Le.agg ⟨Le.refl _,Le.refl _,Le.refl _,Le.refl _,Le.refl _,Le.nils _ _,Le.refl _,Le.refl _,trivial⟩,Le.slc (by simp) (fun j hj=>jwd),Le.refl _,Le.refl _,Le.refl _,trivial⟩ qa (by exact qb rfl) (by exact qb rfl) ?_)
      (repeat' ((conv=>whnf);first|refine Ob.auto ?_|fail))
      ((conv=>whnf);refine AltG.none (by kernel_rfl) (EndG.frz [0,1,2,4,6,7,8] 8 rfl frzA ?_))
      have hnm:=(hlk.num (.inl hb3)).2
      (repeat' ((conv=>whnf);first|refine Ob.auto ?_|fail))
      have hcr:(List.range (c+1)).foldl (qdq l M.chans ((l.getD 0 nd0).kids.getD i 0) seen) (vs,ps)=(ws,qs++[qbj (qe l M.chans 20) ((l.getD 0 nd0).kids.getD i 0) ⟨(l.getD ((l.getD 0 nd0).kids.getD i 0).toNat nd0).words.getD 0 [],c,Xl,2,[false,true],[],Xs,Xv⟩ ((l.getD ((l.getD 0 nd0).kids.getD i 0).toNat nd0).kids.drop k) 0 1]):=by
        rw [zbj,xx,← hc1]
        exact hac
      ((conv=>whnf);refine ⟨(c+1,ws,qs++[qbj (qe l M.chans 20) ((l.getD 0 nd0).kids.getD i 0) ⟨(l.getD ((l.getD 0 nd0).kids.getD i 0).toNat nd0).words.getD 0 [],c,Xl,2,[false,true],[],Xs,Xv⟩ ((l.getD ((l.getD 0 nd0).kids.getD i 0).toNat nd0).kids.drop k) 0 1]),⟨hcr.symm,.inr ⟨hb3,by simp only;omega⟩⟩,⟨qa,qa⟩,⟨qa,qa⟩,?_⟩;(first|omega|(dsimp only;omega)|skip))
    · have hst : ((l.getD 0 nd0).kids.take (i + 1)).foldl (qcv l M.chans) (0, M.vars, []) = (seen, us, qs) := by
        rw [qtv _ i 0 hil,xx,← hx]
        show qcv l M.chans (seen,vs,ps) ((l.getD 0 nd0).kids.getD i 0)=_
        unfold qcv
        simp only
        rw [za (by assumption)]
        by_cases e3:(l.getD ((l.getD 0 nd0).kids.getD i 0).toNat nd0).kind=3
        · have h6:=hb e3
          rw [zb e3,hc1,show ((l.getD ((l.getD 0 nd0).kids.getD i 0).toNat nd0).nums.getD 0 0).toNat=c by omega]
        · have h7:qv l ((l.getD 0 nd0).kids.getD i 0)≠3:=e3
          obtain rfl:c=0:=by omega
          rw [za e3,hc1];rfl
      ((conv=>whnf);refine ⟨(i+1,seen,us,qs),⟨by simp only;omega,hst.symm⟩,⟨qa,qa⟩,⟨qa,qa⟩,?_⟩;(first|omega|(dsimp only;omega)|skip))
  · obtain rfl:i=(l.getD 0 nd0).kids.length:=by omega
    rw [zay] at hx
    rw [hmk,← hx,hi0.tree.1]
    exact Le.tup ⟨Le.agg ⟨Le.refl _,Le.refl _,Le.refl _,Le.refl _,Le.refl _,Le.refl _,Le.refl _,trivial⟩,Le.refl _,trivial⟩
end Go.Proofs.YtikahnkkfkoglaaGreatDoor
end
section
namespace Go.Proofs.YtikahnkkfkoglaaGreatDoor
open Go Go.Sx Go.RowKit Go.St
set_option maxRecDepth 100000
set_option maxHeartbeats 8000000
def mdZ:Md:={ tree:=[] }
theorem jhs:Le (AV.agg [AV.nils,iv 0,AV.nils,AV.nils,AV.nils,AV.nils,AV.bool false]) mdZ.av:=
 Le.agg ⟨Le.nils _ _,Le.refl _,Le.nils _ _,Le.nils _ _,Le.nils _ _,Le.nils _ _,Le.refl _,trivial⟩
theorem jwe (l:List Nd) (ht:Tree l) (hc:(qcg l).1≠0):Con Tryz.prog 16 [jx l] (.tup [mdZ.av,.bool false]):=by
 refine zK {} 2000 Tryz.func16 (fun c0 rdb=>?_)
 (repeat' ((conv=>whnf);first|refine Ob.auto ?_|refine zC 2000 (jhk l ht) ?_|(apply zB <;> intro hb <;> (try simp [-List.getD_eq_getElem?_getD] at hb) <;> try (exfalso;omega))))
 exact Le.tup ⟨jhs,Le.refl _,trivial⟩
def qes (l:List Nd):Md × Bool:=if (qjr l l.length≤1500∧qfx l=true)∧(qcg l).1=0 then (qfh l,true) else (mdZ,false)
theorem qtw {l:List Nd} (h:(qes l).2=true):ModOk (qes l).1∧(qes l).1=qfh l∧Tree l∧(qcg l).1=0:=by
 unfold qes at h ⊢
 split
 ·rename_i e
  exact ⟨jdw (qpc e.1.2) e.2,rfl,qpc e.1.2,e.2⟩
 ·rename_i e
  rw [za e] at h;cases h
set_option maxHeartbeats 4000000

set_option maxHeartbeats 8000000

end Go.Proofs.YtikahnkkfkoglaaGreatDoor
end
section
namespace Go.Proofs.YtikahnkkfkoglaaGreatDoor
open Go Go.Sx Go.RowKit Go.St Pa
set_option maxRecDepth 100000
theorem qnd:Con Tryz.prog 15 [.str qxp] (.tup [jx qjo,flt 0 0]):=by
 have h:=jvm qxp (by decide)
 rw [jtf px16 (by decide)] at h
 exact h
theorem qne:Con Tryz.prog 16 [jx qjo] (.tup [model16.av,.bool true]):=by
 have h:=jhr qjo (qpc jfo) jfp
 rw [jfq] at h
 exact h
theorem mod16:ModOk model16:=jfq ▸ jdw (qpc jfo) jfp
theorem qnf:Con Tryz.prog 9 [model16.av,iv 10] (.agg [iv 2,.bool true,.bool false,.nils]):=by
 have e1:(qbv model16 10).1.length=2:=congrArg (fun r:Nat × (Bool × Bool)=>r.1) ex16
 have e2:(qbv model16 10).2=(true,false):=congrArg (fun r:Nat × (Bool × Bool)=>r.2) ex16
 have h:=jsi model16 mod16 jtg 10 (by rw [e2])
 rw [e1,e2] at h
 exact h
theorem qbp:Con Tryz.prog 6 [] (.bool true):=by
 refine zK {} 300 Tryz.func6 (fun c0 rdb=>?_)
 (repeat' ((conv=>whnf);first|refine zA ?_|refine zO ?_|refine Ob.auto ?_|(refine Ob.intro (by (first|exact ⟨by decide,by decide⟩|exact fun _=>⟨by decide,by decide⟩)) ?_)|refine zC 300 (qnd) ?_|refine zG 300 (fun hg=>qnd) ?_|(refine CallY.con (qnd) (by rfl) leA ?_)|(refine CallZ.con (fun hg=>qnd) qz (by rfl) ?_)|refine zC 300 (qne) ?_|refine zG 300 (fun hg=>qne) ?_|(refine CallY.con (qne) (by rfl) leA ?_)|(refine CallZ.con (fun hg=>qne) qz (by rfl) ?_)|refine zC 300 (qnf) ?_|refine zG 300 (fun hg=>qnf) ?_|(refine CallY.con (qnf) (by rfl) leA ?_)|(refine CallZ.con (fun hg=>qnf) qz (by rfl) ?_)|(refine qi (fun _=>rfl) 300 (qnd) qc (by (repeat' (first|exact trivial|exact Le.refl _|(refine And.intro ?_ ?_))) <;> fail) (by rfl) (by kernel_rfl) ?_)|(refine qq (fun _=>rfl) 300 (fun hg=>qnd) (fun hg=>qc) (fun hg=>(by (repeat' (first|exact trivial|exact Le.refl _|exact Le.cnd hg|(refine And.intro ?_ ?_))) <;> fail)) (by rfl) (by kernel_rfl) ?_)|(refine qi (fun _=>rfl) 300 (qne) qc (by (repeat' (first|exact trivial|exact Le.refl _|(refine And.intro ?_ ?_))) <;> fail) (by rfl) (by kernel_rfl) ?_)|(refine qq (fun _=>rfl) 300 (fun hg=>qne) (fun hg=>qc) (fun hg=>(by (repeat' (first|exact trivial|exact Le.refl _|exact Le.cnd hg|(refine And.intro ?_ ?_))) <;> fail)) (by rfl) (by kernel_rfl) ?_)|(refine qi (fun _=>rfl) 300 (qnf) qc (by (repeat' (first|exact trivial|exact Le.refl _|(refine And.intro ?_ ?_))) <;> fail) (by rfl) (by kernel_rfl) ?_)|(refine qq (fun _=>rfl) 300 (fun hg=>qnf) (fun hg=>qc) (fun hg=>(by (repeat' (first|exact trivial|exact Le.refl _|exact Le.cnd hg|(refine And.intro ?_ ?_))) <;> fail)) (by rfl) (by kernel_rfl) ?_)|refine zD 300 ?_|(apply zB <;> intro hb <;> (try simp [-List.getD_eq_getElem?_getD] at hb) <;> try (exfalso;omega))|refine Ob.intro ?_ ?_))
 exact Le.of_eq (congrArg AV.bool (by kernel_rfl))
end Go.Proofs.YtikahnkkfkoglaaGreatDoor
end
