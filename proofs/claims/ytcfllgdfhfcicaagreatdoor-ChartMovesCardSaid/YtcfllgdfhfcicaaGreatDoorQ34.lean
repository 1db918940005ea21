/- Some texts of the library, one behind the other. -/
import Derived.Test.YtcfllgdfhfcicaaGreatDoorQSr5
import Derived.Test.YtcfllgdfhfcicaaGreatDoorQ28
import Derived.Test.YtcfllgdfhfcicaaGreatDoorQ4
import Derived.Test.YtcfllgdfhfcicaaGreatDoorQ27
import Derived.Test.YtcfllgdfhfcicaaGreatDoorQ30
import Derived.Test.YtcfllgdfhfcicaaGreatDoorQ2
section
namespace Go.Proofs.YtcfllgdfhfcicaaGreatDoor
open List renaming getD_eq_getElem?_getD → zd
open Go Go.Sx Go.RowKit Go.St
set_option maxRecDepth 100000
set_option maxHeartbeats 4000000
theorem jta (m:Md) (hM:ModOk m) (s:Stt) (c:Nat) (hf:ql m s=true) (h:ji m s ⟨2,0,0,c⟩=true):Con Tryz.prog 32 [m.av,s.av,(⟨2,0,0,c⟩:Mv).av] (qx m s ⟨2,0,0,c⟩).av:=by
 have hs:=qck hM hf
 unfold ji at h
 rw [if_neg (by simp),if_pos (.inr rfl),Bool.and_eq_true] at h
 obtain ⟨h2,h3⟩:=h
 have h2:=of_decide_eq_true h2
 simp only at h2
 have hcl:=((jh m s).1 hf).1.2.2.1
 have hq:0<(s.chans.getD c []).length:=by
  unfold qhl qlen at h3
  simp only [Int.toNat_natCast] at h3
  rw [if_neg (by decide)] at h3
  simp only [Bool.and_eq_true,decide_eq_true_eq] at h3
  omega
 have hcc:c<s.chans.length:=by omega
 have hl:=hs.l _ (qh s.chans c [] hcc)
 refine zK {} 300 Tryz.func32 (fun c0 rdb=>?_)
 ((conv=>whnf);refine qcp (fun _=>rfl) 300 [] (jes s hs) (by kernel_rfl) leA qa (by exact qb rfl) (by exact qcl ⟨fun _ _=>rfl,trivial⟩) (by kernel_rfl) ?_)
 (repeat' ((conv=>whnf);first|refine zO ?_|refine Ob.auto ?_|refine zD 300 ?_|(apply zB <;> intro hb <;> (try simp [-zd] at hb) <;> try (exfalso;omega))|refine Ob.intro ?_ ?_|fail))
 ·refine ⟨hcc,⟨rfl,rfl⟩,show (s.chans.getD c []).length+1≤_ by omega,?_⟩
  refine Nat.le_trans (Nat.mul_le_mul_right _ (show (s.chans.getD c []).length+1≤4000001 by omega)) ?_
  dsimp only;decide +kernel
 ·exact ⟨⟨⟨rfl,rfl⟩,hcc⟩,hcc,by simp [upd],by simp [upd]⟩
 ·refine ⟨⟨trivial,⟨rfl,rfl⟩,trivial⟩,⟨trivial,⟨rfl,rfl⟩,trivial⟩,⟨trivial,⟨rfl,rfl⟩,fun k hk=>?_⟩,trivial,trivial⟩
  show allP _ (if k=c then _ else _)
  by_cases hkc:k=c
  ·rw [if_pos hkc]
   exact ⟨⟨hcc,⟨(if_pos rfl).symm,(if_pos rfl).symm⟩,trivial⟩,trivial⟩
  ·rw [if_neg hkc]
   exact ⟨⟨hk,⟨(if_neg hkc).symm,(if_neg hkc).symm⟩,trivial⟩,trivial⟩
 have hst:qx m s ⟨2,0,0,c⟩={ s with chans:=s.chans.set c (s.chans.getD c []++[(s.chans.getD c []).getD 0 0]),holder:=-1 }:=(if_neg (by simp)).trans (if_pos rfl)
 rw [hst]
 refine Le.agg ⟨Le.refl _,Le.refl _,Le.slcL (by simp) (fun j hj=>?_),Le.of_eq (congrArg (AV.int _) h2.1),trivial⟩
 rw [← qcc (fun c=>[ints c]) [] s.chans c _ hcc j]
 show LeL (List.map _ (if j=c then _ else _)) _
 by_cases hjc:j=c
 ·rw [if_pos hjc,if_pos hjc]
  refine ⟨Le.slc (show (s.chans.getD c []).length+1=_ by rw [List.length_append,List.length_singleton]) (fun q hq=>?_),trivial⟩
  have hq':q<(s.chans.getD c []).length+1:=hq
  refine (congrFun (if_pos rfl) q).trans ?_
  exact qly rfl hq'
 ·rw [if_neg hjc,if_neg hjc]
  refine ⟨Le.slc rfl (fun q hq=>congrFun (if_neg hjc) q),trivial⟩
theorem jtb (m:Md) (hM:ModOk m) (s:Stt) (P E:Nat) (hf:ql m s=true) (h:ji m s ⟨0,P,E,0⟩=true) (ha:((m.procs.getD P pr0).edges.getD E ed0).act=2):Con Tryz.prog 32 [m.av,s.av,(⟨0,P,E,0⟩:Mv).av] (qce m s P ((m.procs.getD P pr0).edges.getD E ed0)).av:=by
 have hs:=qck hM hf
 unfold ji at h
 rw [if_pos rfl,Bool.and_eq_true,Bool.and_eq_true] at h
 obtain ⟨h2,h3,h4⟩:=h
 have h3:=of_decide_eq_true h3
 simp only at h3
 have h5:P<m.procs.length:=by omega
 have h6:E<(m.procs.getD P pr0).edges.length:=by have:=h3.2.2.2;rw [Int.toNat_natCast] at this;exact Int.ofNat_lt.1 this
 have hed:EdOk m.tree.length m.vars.length m.chans.length (m.procs.getD P pr0).places ((m.procs.getD P pr0).edges.getD E ed0):=edOk hM h5 h6
 have h4:canB m s P ((m.procs.getD P pr0).edges.getD E ed0)=true:=h4
 have hso:=qop hM.ok hf
 have hat:s.at_.length=m.procs.length:=((jh m s).1 hf).1.1
 have hex:=hed.ex (.inr (.inl ha))
 have hch:=hed.chn (.inl ha)
 have hto:=hed.to
 have hcl:=((jh m s).1 hf).1.2.2.1
 have hT:=qom hM hf (p:=P) hto (qon h4)
 have hA:∀ j,(if j=P then [iv ((m.procs.getD P pr0).edges.getD E ed0).to] else encL (fun n=>[iv n]) 0 s.at_ j)=encL (fun n=>[iv n]) 0 (s.at_.set P ((m.procs.getD P pr0).edges.getD E ed0).to) j:=qcc (fun n=>[iv n]) 0 s.at_ P ((m.procs.getD P pr0).edges.getD E ed0).to (by omega)
 refine zK {} 300 Tryz.func32 (fun c0 rdb=>?_)
 ((conv=>whnf);refine qcp (fun _=>rfl) 300 [] (jes s hs) (by kernel_rfl) leA qa (by exact qb rfl) (by exact qcl ⟨fun _ _=>rfl,trivial⟩) (by kernel_rfl) ?_)
 (repeat' ((conv=>whnf);first|refine zO ?_|refine Ob.auto ?_|refine zC 300 (qwi m hM.ok P s hso m.tree.length ((m.procs.getD P pr0).edges.getD E ed0).expr (by omega) (by omega) (Nat.sub_le _ _)) ?_|refine zD 300 ?_|(apply zB <;> intro hb <;> (try simp [-zd] at hb) <;> try (exfalso;omega))))
 ((conv=>whnf);refine qbd (fun _=>rfl) (by kernel_rfl) 300 [.con (iv (trim (valN m P s m.tree.length ((m.procs.getD P pr0).edges.getD E ed0).expr).1 (m.chans.getD ((m.procs.getD P pr0).edges.getD E ed0).chn.toNat ch0).width))] (by kernel_rfl) ?_)
 have hcc:((m.procs.getD P pr0).edges.getD E ed0).chn.toNat<s.chans.length:=by omega
 have hl:=hs.l _ (qh s.chans ((m.procs.getD P pr0).edges.getD E ed0).chn.toNat [] hcc)
 (repeat' ((conv=>whnf);first|refine Ob.auto ?_|(refine Ob.intro (by (first|exact ⟨by omega,by omega⟩|exact ⟨_,qiy (valN m P s m.tree.length ((m.procs.getD P pr0).edges.getD E ed0).expr).1 (m.chans.getD ((m.procs.getD P pr0).edges.getD E ed0).chn.toNat ch0).width,by rfl,LeL.refl _⟩)) ?_)|refine Ob.intro ?_ ?_|fail))
 ·refine ⟨hcc,⟨rfl,rfl⟩,show (s.chans.getD ((m.procs.getD P pr0).edges.getD E ed0).chn.toNat []).length+1≤_ by omega,?_⟩
  refine Nat.le_trans (Nat.mul_le_mul_right _ (show (s.chans.getD ((m.procs.getD P pr0).edges.getD E ed0).chn.toNat []).length+1≤4000001 by omega)) ?_
  dsimp only;decide +kernel
 ·exact ⟨⟨⟨rfl,rfl⟩,hcc⟩,hcc,by simp [upd],by simp [upd]⟩
 have hTe:qm m s P ((m.procs.getD P pr0).edges.getD E ed0)=⟨s.at_.set P ((m.procs.getD P pr0).edges.getD E ed0).to,s.vars,s.chans.set ((m.procs.getD P pr0).edges.getD E ed0).chn.toNat (s.chans.getD ((m.procs.getD P pr0).edges.getD E ed0).chn.toNat []++[trim (valN m P s m.tree.length ((m.procs.getD P pr0).edges.getD E ed0).expr).1 (m.chans.getD ((m.procs.getD P pr0).edges.getD E ed0).chn.toNat ch0).width]),-1⟩:=by
  unfold qm val;simp only;rw [if_neg (by omega),if_pos ha,if_neg (by omega)]
 (conv=>whnf)
 refine qov (fun _=>rfl) 300 (fun hg=>qot m hM (qm m s P ((m.procs.getD P pr0).edges.getD E ed0)) hT P h5) (fun hg=>⟨fun _=>?_,fun _=>?_,fun _=>trivial,trivial⟩) (fun hg=>And.intro (by exact Le.cnd hg) (And.intro (Le.trans (by exact Le.cnd hg) ?_) (And.intro (by exact Le.cnd hg) trivial))) (by rfl) (by kernel_rfl) ?_
 ·exact qdn
 ·refine ⟨⟨trivial,⟨rfl,rfl⟩,trivial⟩,⟨trivial,⟨rfl,rfl⟩,trivial⟩,⟨trivial,⟨rfl,rfl⟩,fun k hk=>?_⟩,trivial,trivial⟩
  show allP _ (if k=((m.procs.getD P pr0).edges.getD E ed0).chn.toNat then _ else _)
  by_cases hkc:k=((m.procs.getD P pr0).edges.getD E ed0).chn.toNat
  ·rw [if_pos hkc]
   exact ⟨⟨hcc,⟨(if_pos rfl).symm,(if_pos rfl).symm⟩,trivial⟩,trivial⟩
  ·rw [if_neg hkc]
   exact ⟨⟨hk,⟨(if_neg hkc).symm,(if_neg hkc).symm⟩,trivial⟩,trivial⟩
 ·rw [hTe]
  exact Le.agg ⟨Le.slc (by simp) (fun j hj=>hA j),Le.refl _,Le.slcL (by simp) (fun j hj=>by
   rw [← qcc (fun c=>[ints c]) [] s.chans ((m.procs.getD P pr0).edges.getD E ed0).chn.toNat _ hcc j]
   show LeL (List.map _ (if j=((m.procs.getD P pr0).edges.getD E ed0).chn.toNat then _ else _)) _
   by_cases hjc:j=((m.procs.getD P pr0).edges.getD E ed0).chn.toNat
   ·rw [if_pos hjc,if_pos hjc]
    refine ⟨Le.slc (show (s.chans.getD ((m.procs.getD P pr0).edges.getD E ed0).chn.toNat []).length+1=_ by rw [List.length_append,List.length_singleton]) (fun q hq=>?_),trivial⟩
    have hq':q<(s.chans.getD ((m.procs.getD P pr0).edges.getD E ed0).chn.toNat []).length+1:=hq
    refine (congrFun (if_pos rfl) q).trans ?_
    exact qly rfl hq'
   ·rw [if_neg hjc,if_neg hjc]
    refine ⟨Le.slc rfl (fun q hq=>congrFun (if_neg hjc) q),trivial⟩),Le.refl _,trivial⟩
 (repeat' ((conv=>whnf);first|refine Ob.auto ?_|(apply zB <;> intro hb <;> (try simp [-zd] at hb) <;> try (exfalso;omega))|refine Ob.intro ?_ ?_|fail))
 ·refine ⟨⟨trivial,⟨rfl,rfl⟩,trivial⟩,⟨trivial,⟨rfl,rfl⟩,trivial⟩,⟨trivial,⟨rfl,rfl⟩,fun k hk=>?_⟩,trivial,trivial⟩
  show allP _ (if k=((m.procs.getD P pr0).edges.getD E ed0).chn.toNat then _ else _)
  by_cases hkc:k=((m.procs.getD P pr0).edges.getD E ed0).chn.toNat
  ·rw [if_pos hkc]
   exact ⟨⟨hcc,⟨(if_pos rfl).symm,(if_pos rfl).symm⟩,trivial⟩,trivial⟩
  ·rw [if_neg hkc]
   exact ⟨⟨hk,⟨(if_neg hkc).symm,(if_neg hkc).symm⟩,trivial⟩,trivial⟩
 ·refine Le.agg ⟨?_,?_,?_,Le.of_eq (congrArg (AV.int _) (if_pos hb).symm),trivial⟩
  ·show Le _ (ints (qm m s P ((m.procs.getD P pr0).edges.getD E ed0)).at_)
   rw [hTe];exact Le.slc (by simp) (fun j hj=>hA j)
  ·show Le _ (ints (qm m s P ((m.procs.getD P pr0).edges.getD E ed0)).vars)
   rw [hTe];exact Le.refl _
  ·show Le _ (slcL (fun l=>[ints l]) [] 1 (qm m s P ((m.procs.getD P pr0).edges.getD E ed0)).chans)
   rw [hTe]
   exact Le.slcL (by simp) (fun j hj=>by
    rw [← qcc (fun c=>[ints c]) [] s.chans ((m.procs.getD P pr0).edges.getD E ed0).chn.toNat _ hcc j]
    show LeL (List.map _ (if j=((m.procs.getD P pr0).edges.getD E ed0).chn.toNat then _ else _)) _
    by_cases hjc:j=((m.procs.getD P pr0).edges.getD E ed0).chn.toNat
    ·rw [if_pos hjc,if_pos hjc]
     refine ⟨Le.slc (show (s.chans.getD ((m.procs.getD P pr0).edges.getD E ed0).chn.toNat []).length+1=_ by rw [List.length_append,List.length_singleton]) (fun q hq=>?_),trivial⟩
     have hq':q<(s.chans.getD ((m.procs.getD P pr0).edges.getD E ed0).chn.toNat []).length+1:=hq
     refine (congrFun (if_pos rfl) q).trans ?_
     exact qly rfl hq'
    ·rw [if_neg hjc,if_neg hjc]
     refine ⟨Le.slc rfl (fun q hq=>congrFun (if_neg hjc) q),trivial⟩)
 ·refine ⟨⟨trivial,⟨rfl,rfl⟩,trivial⟩,⟨trivial,⟨rfl,rfl⟩,trivial⟩,⟨trivial,⟨rfl,rfl⟩,fun k hk=>?_⟩,trivial,trivial⟩
  show allP _ (if k=((m.procs.getD P pr0).edges.getD E ed0).chn.toNat then _ else _)
  by_cases hkc:k=((m.procs.getD P pr0).edges.getD E ed0).chn.toNat
  ·rw [if_pos hkc]
   exact ⟨⟨hcc,⟨(if_pos rfl).symm,(if_pos rfl).symm⟩,trivial⟩,trivial⟩
  ·rw [if_neg hkc]
   exact ⟨⟨hk,⟨(if_neg hkc).symm,(if_neg hkc).symm⟩,trivial⟩,trivial⟩
 ·refine Le.agg ⟨?_,?_,?_,Le.of_eq (congrArg (AV.int _) (if_neg (fun h=>by have:=hb h.1;rw [h.2] at this;cases this)).symm),trivial⟩
  ·show Le _ (ints (qm m s P ((m.procs.getD P pr0).edges.getD E ed0)).at_)
   rw [hTe];exact Le.slc (by simp) (fun j hj=>hA j)
  ·show Le _ (ints (qm m s P ((m.procs.getD P pr0).edges.getD E ed0)).vars)
   rw [hTe];exact Le.refl _
  ·show Le _ (slcL (fun l=>[ints l]) [] 1 (qm m s P ((m.procs.getD P pr0).edges.getD E ed0)).chans)
   rw [hTe]
   exact Le.slcL (by simp) (fun j hj=>by
    rw [← qcc (fun c=>[ints c]) [] s.chans ((m.procs.getD P pr0).edges.getD E ed0).chn.toNat _ hcc j]
    show LeL (List.map _ (if j=((m.procs.getD P pr0).edges.getD E ed0).chn.toNat then _ else _)) _
    by_cases hjc:j=((m.procs.getD P pr0).edges.getD E ed0).chn.toNat
    ·rw [if_pos hjc,if_pos hjc]
     refine ⟨Le.slc (show (s.chans.getD ((m.procs.getD P pr0).edges.getD E ed0).chn.toNat []).length+1=_ by rw [List.length_append,List.length_singleton]) (fun q hq=>?_),trivial⟩
     have hq':q<(s.chans.getD ((m.procs.getD P pr0).edges.getD E ed0).chn.toNat []).length+1:=hq
     refine (congrFun (if_pos rfl) q).trans ?_
     exact qly rfl hq'
    ·rw [if_neg hjc,if_neg hjc]
     refine ⟨Le.slc rfl (fun q hq=>congrFun (if_neg hjc) q),trivial⟩)
theorem jtc (m:Md) (hM:ModOk m) (s:Stt) (v:Mv) (hf:ql m s=true) (h:ji m s v=true):Con Tryz.prog 32 [m.av,s.av,v.av] (qx m s v).av:=by
 by_cases hk:v.kind=1
 ·exact jsy m hM s v hf h hk
 ·have h':=h
  unfold ji at h
  split at h
  ·rename_i h0
   rw [Bool.and_eq_true,Bool.and_eq_true] at h
   obtain ⟨ha,hb,_⟩:=h
   have h2:=of_decide_eq_true ha
   have h3:=of_decide_eq_true hb
   clear ha hb
   obtain ⟨k,p,e,c⟩:=v
   simp only at h0 h2 h3
   obtain ⟨P,rfl⟩:=Int.eq_ofNat_of_zero_le h3.1
   obtain ⟨E,rfl⟩:=Int.eq_ofNat_of_zero_le h3.2.2.1
   obtain ⟨h2,_⟩:=h2
   subst h0 h2
   have hst:qx m s ⟨0,P,E,0⟩=qce m s P ((m.procs.getD P pr0).edges.getD E ed0):=rfl
   rw [hst]
   by_cases ha:((m.procs.getD P pr0).edges.getD E ed0).act=2
   ·exact jtb m hM s P E hf h' ha
   ·exact jsz m hM s P E hf h' ha
  ·split at h
   ·rename_i h0
    rw [Bool.and_eq_true] at h
    obtain ⟨ha,_⟩:=h
    have h2:=of_decide_eq_true ha
    clear ha
    obtain ⟨k,p,e,c⟩:=v
    simp only at h0 h2 hk
    obtain ⟨C,rfl⟩:=Int.eq_ofNat_of_zero_le h2.2.2.2.1
    obtain rfl:k=2:=by omega
    obtain rfl:p=0:=h2.2.1
    obtain rfl:e=0:=h2.2.2.1
    exact jta m hM s C hf h'
   ·cases h
set_option maxHeartbeats 2000000
theorem jtd (m:Md) (hm:MOk m):Con Tryz.prog 30 [m.av] (qz m).av:=by
 have hsz:=hm.sz
 refine zK {} 300 Tryz.func30 (fun c0 rdb=>?_)
 refine qcd 2 0 3 1 rfl rfl ?_
 ((conv=>whnf);refine qjw (fun _=>rfl) 300 1 [1,2,3] [0,1] (fun i:Nat=>[(4,iv i)]) (fun i=>[(2,.box 76 [.own 3 0 0 i,.nils,.nils,iv (-1)]),(3,.row [] 3 1 0 i (fun _=>[iv 0]))]) (fun i=>i≤m.procs.length) (fun i=>m.procs.length - i) (0) (by omega) qa qa (fun _=>rfl) (by kernel_rfl) ?_;(conv=>whnf))
 intro i hi
 (repeat' ((conv=>whnf);first|refine Ob.auto ?_|(apply zB <;> intro hb <;> (try simp [-zd] at hb) <;> try (exfalso;omega))))
 ·((conv=>whnf);refine ⟨i+1,by omega,⟨qa,qa⟩,⟨qa,qa⟩,?_⟩;(first|omega|(dsimp only;omega)|skip))
 obtain rfl:i=m.procs.length:=by omega
 clear hi hb
 refine qcd 2 1 3 1 rfl rfl ?_
 ((conv=>whnf);refine qjw (fun _=>rfl) 300 2 [1,2,3] [0,1,3] (fun i:Nat=>[(5,iv i)]) (fun i=>[(2,.box 76 [.own 3 0 0 m.procs.length,.own 4 0 0 i,.nils,iv (-1)]),(4,.row [] 3 1 0 i (fun i=>[iv (m.vars.getD i vr0).value]))]) (fun i=>i≤m.vars.length) (fun i=>m.vars.length - i) (0) (by omega) qa qa (fun _=>rfl) (by kernel_rfl) ?_;(conv=>whnf))
 intro i hi
 (repeat' ((conv=>whnf);first|refine Ob.auto ?_|(refine zN 300 ?_)|(apply zB <;> intro hb <;> (try simp [-zd] at hb) <;> try (exfalso;omega))))
 ·((conv=>whnf);refine ⟨i+1,by omega,⟨qa,qa⟩,⟨qa,qa⟩,?_⟩;(first|omega|(dsimp only;omega)|skip))
 obtain rfl:i=m.vars.length:=by omega
 clear hi hb
 refine qcd 2 2 28 1 rfl rfl ?_
 ((conv=>whnf);refine qjw (fun _=>rfl) 300 3 [1,2,3] [0,1,3,4] (fun i:Nat=>[(6,iv i)]) (fun i=>[(2,.box 76 [.own 3 0 0 m.procs.length,.own 4 0 0 m.vars.length,.own 5 0 0 i,iv (-1)]),(5,.row [] 28 1 0 i (fun i=>[.nils]))]) (fun i=>i≤m.chans.length) (fun i=>m.chans.length - i) (0) (by omega) qa qa (fun _=>rfl) (by kernel_rfl) ?_;(conv=>whnf))
 intro i hi
 (repeat' ((conv=>whnf);first|refine Ob.auto ?_|(apply zB <;> intro hb <;> (try simp [-zd] at hb) <;> try (exfalso;omega))))
 ·((conv=>whnf);refine ⟨i+1,by omega,⟨qa,qa⟩,⟨qa,qa⟩,?_⟩;(first|omega|(dsimp only;omega)|skip))
 obtain rfl:i=m.chans.length:=by omega
 (conv=>whnf)
 refine Le.agg ⟨Le.slc (by simp [qz]) (fun j hj=>?_),Le.slc (by simp [qz]) (fun j hj=>?_),Le.slcL (by simp [qz]) (fun j hj=>?_),Le.refl _,trivial⟩
 ·show [iv 0]=[iv ((qz m).at_.getD j 0)]
  rw [qz,qka _ _ _ _ hj]
 ·show [iv (m.vars.getD j vr0).value]=[iv ((qz m).vars.getD j 0)]
  rw [qz,qui _ _ _ _ vr0 hj]
 ·show LeL [.nils] [ints ((qz m).chans.getD j [])]
  rw [qz,qka _ _ _ _ hj]
  exact ⟨Le.nils _ _,trivial⟩
set_option maxHeartbeats 4000000
theorem jte {m:Md} (hM:ModOk m) (s:Stt):(qhn m s).length≤1000000:=by
 have h1:=qwm m hM s m.procs.length (Nat.le_refl _)
 have h2:=qwl m s m.chans.length
 have hz:=hM.sz
 have e:qhn m s=ju m s m.procs.length++(if s.holder=-1 then qcx m s m.chans.length else []):=rfl
 rw [e,List.length_append]
 split
 ·omega
 ·simp;omega
theorem jtf (v:Mv) (l:List Mv) (hl:l.length≤1000000):Con Tryz.prog 59 [v.av,qcr l] (.bool (decide (v∈l))):=by
 refine zK {} 300 Tryz.func59 (fun c0 rdb=>?_)
 ((conv=>whnf);refine qp (fun _=>rfl) 300 1 (fun i:Nat=>[(5,iv i)]) (fun _=>[]) (fun i=>i≤l.length∧∀ j,j<i→l.getD j {}≠v) (fun i=>l.length - i) (0) (⟨Nat.zero_le _,fun j hj=>absurd hj (Nat.not_lt_zero j)⟩) qa qa (fun _=>rfl) (by kernel_rfl) ?_;(conv=>whnf))
 intro i hi
 (repeat' ((conv=>whnf);first|refine zO ?_|refine Ob.auto ?_|refine zD 300 ?_|(apply zB <;> intro hb <;> (try simp [-zd] at hb) <;> try (exfalso;omega))))
 ·refine Le.of_eq (congrArg AV.bool ?_)
  refine (decide_eq_true ?_).symm
  rw [← jsn hb]
  exact qh l i {} (by omega)
 ·((conv=>whnf);refine ⟨i+1,⟨by omega,qal hi.2 (fun e=>by rw [e] at hb;exact hb rfl rfl rfl rfl)⟩,⟨qa,qa⟩,⟨qa,qa⟩,?_⟩;(first|omega|(dsimp only;omega)|skip))
 ·refine Le.of_eq (congrArg AV.bool ?_)
  refine (decide_eq_false fun h=>?_).symm
  obtain ⟨j,hj,rfl⟩:=List.mem_iff_getElem.1 h
  refine hi.2 j (by omega) ?_
  rw [zd,List.getElem?_eq_getElem hj];rfl
theorem jey {m:Md} {l:List Mv} {i:Nat} (h:nF m l=i):Le (.slc 4 (i+1) fun j=>(stN m l j).cells) (jdz (qhy m l)):=by
 subst h
 refine Le.slc (by simp [qhy]) (fun j hj=>?_)
 unfold encL qhy
 rw [jag _ _ _ _ hj]
theorem jtg {n:Nat} {f g h:Nat→List AV} (h1:∀ k,k<n→f k=h k) (h2:g 0=h n):∀ k,k<n+1→LeL (appF n f 1 g k) (h k):=fun k hk=>by
 unfold appF
 by_cases hl:k<n
 ·rw [if_pos hl,h1 k hl];exact LeL.refl _
 ·obtain rfl:k=n:=by omega
  rw [if_neg hl,if_pos hk,Nat.sub_self,h2];exact LeL.refl _
theorem jth (m:Md) (hM:ModOk m) (h0:ql m (qz m)=true) (l:List Mv) (hl:l.length≤1000000):Con Tryz.prog 33 [m.av,qcr l] (jdz (qhy m l)):=by
 refine zK {lit:=true} 300 Tryz.func33 (fun c0 rdb=>?_)
 (repeat' ((conv=>whnf);first|refine zC 300 (jtd m hM.ok) ?_|fail))
 ((conv=>whnf);refine qp (fun _=>rfl) 300 1 (fun i:Nat=>[(7,iv i),(6,.own 2 0 0 (i+1))]) (fun i=>[(1,.box 76 (stN m l i).cells),(2,.row [] 76 4 0 (i+1) (fun j=>(stN m l j).cells))]) (fun i=>i≤l.length∧∀ j,j<i→okN m l j=true) (fun i=>l.length - i) (0) (⟨Nat.zero_le _,fun j hj=>absurd hj (Nat.not_lt_zero j)⟩) qa ⟨⟨rfl,Le.refl _,Le.refl _,Le.refl _,Le.refl _,trivial⟩,qba (fun k hk=>match k,hk with|0,_=>rfl|k+1,hk=>absurd hk (by omega)),trivial⟩ (fun _=>rfl) (by kernel_rfl) ?_;(conv=>whnf))
 rintro i ⟨hi,hp⟩
 have hf:=qjb hM h0 hp
 have hmv:=jsm m hM (stN m l i) hf
 have hin:=jtf (l.getD i {}) (qhn m (stN m l i)) (jte hM _)
 rw [decide_eq_decide.2 jrm] at hin
 have hde:decide (ji m (stN m l i) (l.getD i {})=true)=okN m l i:=by unfold okN;cases ji m (stN m l i) (l.getD i {}) <;> rfl
 rw [hde] at hin
 have hdo:=fun h:okN m l i=true=>jtc m hM (stN m l i) (l.getD i {}) hf h
 (repeat' ((conv=>whnf);first|refine Ob.auto ?_|(apply zB <;> intro hb <;> (try simp [-zd] at hb) <;> try (exfalso;omega))))
 ·(repeat' ((conv=>whnf);first|refine zA ?_|refine Ob.auto ?_|(refine CallY.con (hmv) (by rfl) leA ?_)|(refine CallY.con (hin) (by rfl) leA ?_)|(refine zQ 300 ?_)|(apply zB <;> intro hb <;> (try simp [-zd] at hb) <;> try (exfalso;omega))))
  ·exact jey (qlx hi hp (.inr hb))
  ·(repeat' ((conv=>whnf);first|refine zA ?_|refine Ob.auto ?_|(refine CallY.con (hdo hb) (by rfl) leA ?_)|fail))
   ((conv=>whnf);refine ⟨i+1,⟨by omega,qal hp hb⟩,⟨qa,⟨⟨rfl,Le.refl _,Le.refl _,Le.refl _,Le.refl _,trivial⟩,⟨⟨rfl,rfl,rfl⟩,rfl,rfl,jtg (fun _ _=>rfl) rfl⟩,trivial⟩⟩,⟨qa,qa⟩,?_⟩;(first|omega|(dsimp only;omega)|skip))
 ·obtain rfl:i=l.length:=by omega
  exact jey (qlx hi hp (.inl rfl))
end Go.Proofs.YtcfllgdfhfcicaaGreatDoor
end
