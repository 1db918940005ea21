/- Some texts of the library, one behind the other. -/
import Derived.Test.YtcfllgdfhfcicaaGreatDoorQ29
import Derived.Test.YtcfllgdfhfcicaaGreatDoorQ2
section
namespace Go.Proofs.YtcfllgdfhfcicaaGreatDoor
open List renaming getD_eq_getElem?_getD → zd
open Go Go.Sx Go.RowKit Go.St
set_option maxRecDepth 100000
set_option maxHeartbeats 4000000
def rowI (l:List Int):SO:=.row [] 3 1 0 l.length (encL (fun n=>[iv n]) 0 l)
def boxS (s:Stt):SO:=.box 76 [.own 1 0 0 s.at_.length,.own 2 0 0 s.vars.length,.own 3 0 0 s.chans.length,iv s.holder]
def rowC (l:List (List Int)):SO:=.row [] 28 1 0 l.length (encL (fun c=>[ints c]) [] l)
theorem jeh (m:Md) (p:Int) (s:Stt) (h k:Int):val m p { s with holder:=h } k=val m p s k:=by
 have key:∀ (n:Nat) (k:Int),valN m p { s with holder:=h } n k=valN m p s n k:=by
  intro n
  induction n with
  | zero=>intro k;rfl
  | succ n ih=>intro k;unfold valN;simp only [ih]
 exact key _ k
theorem jsg {m:Md} {s:Stt} {p:Nat} {e:Ed} (h:canB m s p e=true) (h3:e.act=3):0<(s.chans.getD e.chn.toNat []).length:=by
 unfold canB qlen at h
 rw [if_neg (by omega),if_pos h3,Bool.and_eq_true] at h
 have:=of_decide_eq_true h.2
 omega
theorem qiq {α:Type} (enc:α→List AV) (d:α) (l:List α) (i:Nat) (x:α) (hi:i<l.length) (j:Nat):(if j=i then enc x else encL enc d l j)=encL enc d (l.set i x) j:=by
 unfold encL
 rw [qgk]
 by_cases h:j=i
 ·rw [if_pos h,if_pos ⟨h,hi⟩]
 ·rw [if_neg h,if_neg (fun h'=>h h'.1)]
theorem jsh (m:Md) (hM:ModOk m) (s:Stt) (hf:qq m s=true) (hh:s.holder=-1) (p:Nat) (hp:p<m.procs.length) (e:Ed) (he:EdOk m.tree.length m.vars.length m.chans.length (m.procs.getD p pr0).places e) (hc:canB m s p e=true) (h2:e.act≠2) :
  Trip Tryz.prog 120 [m.av,.ptr 0 0,iv p,.agg e.cells] [boxS s,rowI s.at_,rowI s.vars,rowC s.chans] (.tup [])
   [(0,.box 76 (qdu m s p e).cells)] 4:=by
 have hs:=qfa hM hf
 have h0:=((qag m s).1 hf).1
 have hsv:=qvw m hM.ok p s hs e.expr
 have hex:=he.ex
 have hvr:=he.var
 have hch:=he.chn
 have hto:=he.to
 have hat:p<s.at_.length:=by omega
 have hvl:=h0.2.1
 have hcl:=h0.2.2.1
 have hq:=jsg hc
 have hT:=qvq hM hf (p:=p) hto (qvr hc)
 have hTs:=qfa hM hT
 have hmv:=jea m hM.ok (qbi m s p e) hT hTs p hp (pl:=(m.procs.getD p pr0).places) (fun e he=>(hM.pr _ (qj m.procs p pr0 hp)).ed e he) (hM.psz _ (qj m.procs p pr0 hp)).1
 unfold boxS rowI rowC
 refine zL {} 300 Tryz.func120 (fun c0 rdb mpb=>?_)
 have hA:∀ j,(if j=p then [iv e.to] else encL (fun n=>[iv n]) 0 s.at_ j)=encL (fun n=>[iv n]) 0 (s.at_.set p e.to) j:=qiq (fun n=>[iv n]) 0 s.at_ p e.to hat
 (repeat' ((conv=>whnf);first|refine zO ?_|refine Ob.auto ?_|refine zD 300 ?_|(apply zB <;> intro hb <;> (try simp [-zd] at hb) <;> try (exfalso;omega))))
 ·have h1:e.act=1:=by assumption
  ((conv=>whnf);refine zQ 300 ?_)
  ((conv=>whnf);refine CallY.lend (hsv) (by repeat' (first|exact trivial|exact ⟨rfl,rfl⟩|exact rfl|assumption|(refine And.intro ?_ ?_)|(intro _))) leA (by rfl) ?_)
  (repeat' ((conv=>whnf);first|refine zA ?_|fail))
  ((conv=>whnf);refine zQ 300 ?_)
  (repeat' ((conv=>whnf);first|refine zA ?_|refine zO ?_|refine Ob.auto ?_|(refine CallY.con (qlf (sval m p s e.expr).1 (m.vars.getD e.var.toNat vr0).width) (by rfl) leA ?_)|refine zD 300 ?_|fail))
  ((conv=>whnf);refine qde [0,4,5] 0 rfl frzA ?_)
  have hTe:qbi m s p e=⟨s.at_.set p e.to,s.vars.set e.var.toNat (trim (sval m p s e.expr).1 (m.vars.getD e.var.toNat vr0).width),s.chans,-1⟩:=by
   have h3:=hex (.inl h1)
   simp [qbi,h1,sval,h3,hf,if_neg (show ¬ e.expr<0 by omega)]
  refine qqw 0 (qbi m s p e).cells rfl (by
   rw [hTe]
   exact ⟨Le.slc (by simp) (fun j hj=>hA j),Le.slc (by simp) (fun j hj=>qiq (fun n=>[iv n]) 0 s.vars e.var.toNat _ (by omega) j),Le.refl _,Le.of_eq (congrArg (AV.int _) hh),trivial⟩) ?_
  (repeat' ((conv=>whnf);first|refine zA ?_|refine Ob.auto ?_|(refine CallZ.con (fun hg=>hmv) qhc (by rfl) ?_)|(refine zQ 300 ?_)|(apply zB <;> intro hb <;> (try simp [-zd] at hb) <;> try (exfalso;omega))))
  ·exact ⟨Le.refl _,⟨rfl,Le.refl _,Le.refl _,Le.refl _,Le.of_eq (congrArg (AV.int _) (if_pos hb).symm),trivial⟩,trivial⟩
  ·refine ⟨Le.refl _,⟨rfl,Le.refl _,Le.refl _,Le.refl _,Le.of_eq (congrArg (AV.int _) ?_),trivial⟩,trivial⟩
   refine Eq.trans (by rw [hTe]) (if_neg (fun h=>?_)).symm
   have:=hb h.1;rw [h.2] at this;cases this
 ·have h3:e.act=3:=by assumption
  ((conv=>whnf);refine zQ 300 ?_)
  (repeat' ((conv=>whnf);first|refine zA ?_|refine zO ?_|refine Ob.auto ?_|(refine CallY.con (qlf ((s.chans.getD e.chn.toNat []).getD 0 0) (m.vars.getD e.var.toNat vr0).width) (by rfl) leA ?_)|refine zD 300 ?_|fail))
  ((conv=>whnf);refine qde [0,4,5] 0 rfl frzA ?_)
  have hD:∀ j,LeL (if j=e.chn.toNat then [AV.slc 1 ((s.chans.getD e.chn.toNat []).length - 1) fun i=>encL (fun n=>[iv n]) 0 (s.chans.getD e.chn.toNat []) (1+i)] else encL (fun c=>[ints c]) [] s.chans j) (encL (fun c=>[ints c]) [] (s.chans.set e.chn.toNat ((s.chans.getD e.chn.toNat []).drop 1)) j):=fun j=>by
   rw [← qiq (fun c=>[ints c]) [] s.chans e.chn.toNat _ (by omega) j]
   by_cases hj:j=e.chn.toNat
   ·rw [if_pos hj,if_pos hj]
    refine ⟨Le.slc (by simp) (fun q _=>?_),trivial⟩
    unfold encL
    rw [zd (l:=List.drop 1 _),List.getElem?_drop,← zd]
   ·rw [if_neg hj,if_neg hj];exact LeL.refl _
  have hTe:qbi m s p e=⟨s.at_.set p e.to,s.vars.set e.var.toNat (trim ((s.chans.getD e.chn.toNat []).getD 0 0) (m.vars.getD e.var.toNat vr0).width),s.chans.set e.chn.toNat ((s.chans.getD e.chn.toNat []).drop 1),-1⟩:=by
   simp [qbi,h3]
  refine qqw 0 (qbi m s p e).cells rfl (by
   rw [hTe]
   refine ⟨Le.slc (by simp) (fun j hj=>hA j),Le.slc (by simp) (fun j hj=>qiq (fun n=>[iv n]) 0 s.vars e.var.toNat _ (by omega) j),Le.slcL (by simp) (fun j hj=>?_),Le.of_eq (congrArg (AV.int _) hh),trivial⟩
   exact hD j) ?_
  (repeat' ((conv=>whnf);first|refine zA ?_|refine Ob.auto ?_|(refine CallZ.con (fun hg=>hmv) qhc (by rfl) ?_)|(refine zQ 300 ?_)|(apply zB <;> intro hb <;> (try simp [-zd] at hb) <;> try (exfalso;omega))))
  ·exact ⟨Le.refl _,⟨rfl,Le.refl _,Le.refl _,Le.refl _,Le.of_eq (congrArg (AV.int _) (if_pos hb).symm),trivial⟩,trivial⟩
  ·refine ⟨Le.refl _,⟨rfl,Le.refl _,Le.refl _,Le.refl _,Le.of_eq (congrArg (AV.int _) ?_),trivial⟩,trivial⟩
   refine Eq.trans (by rw [hTe]) (if_neg (fun h=>?_)).symm
   have:=hb h.1;rw [h.2] at this;cases this
 ·((conv=>whnf);refine qde [0,4,5] 0 rfl frzA ?_)
  have hTe:qbi m s p e=⟨s.at_.set p e.to,s.vars,s.chans,-1⟩:=by simp [qbi,h2, *]
  refine qqw 0 (qbi m s p e).cells rfl (by
   rw [hTe]
   exact ⟨Le.slc (by simp) (fun j hj=>hA j),Le.refl _,Le.refl _,Le.of_eq (congrArg (AV.int _) hh),trivial⟩) ?_
  (repeat' ((conv=>whnf);first|refine zA ?_|refine Ob.auto ?_|(refine CallZ.con (fun hg=>hmv) qhc (by rfl) ?_)|(refine zQ 300 ?_)|(apply zB <;> intro hb <;> (try simp [-zd] at hb) <;> try (exfalso;omega))))
  ·exact ⟨Le.refl _,⟨rfl,Le.refl _,Le.refl _,Le.refl _,Le.of_eq (congrArg (AV.int _) (if_pos hb).symm),trivial⟩,trivial⟩
  ·refine ⟨Le.refl _,⟨rfl,Le.refl _,Le.refl _,Le.refl _,Le.of_eq (congrArg (AV.int _) ?_),trivial⟩,trivial⟩
   refine Eq.trans (by rw [hTe]) (if_neg (fun h=>?_)).symm
   have:=hb h.1;rw [h.2] at this;cases this
end Go.Proofs.YtcfllgdfhfcicaaGreatDoor
end
section
namespace Go.Proofs.YtcfllgdfhfcicaaGreatDoor
open Go Go.Sx Go.RowKit Go.St
set_option maxRecDepth 100000
set_option maxHeartbeats 4000000
def rowF (l:List (List Int)):SO:=.row [4] 28 1 0 l.length (fun k=>[.own 4 k 1 (l.getD k []).length])
def famF (l:List (List Int)):SO:=.fam 3 1 l.length (fun _=>1) (fun k=>(l.getD k []).length) (fun k=>encL (fun n=>[iv n]) 0 (l.getD k []))
theorem jei {L:List Int} {x:Int} {g:Nat→List AV} (hg:g 0=[iv x]) {j:Nat} (hj:j<L.length+1):appF L.length (encL (fun n=>[iv n]) 0 L) 1 g j=encL (fun n=>[iv n]) 0 (L++[x]) j:=by
 unfold appF encL
 rw [qks]
 by_cases hl:j<L.length
 ·rw [if_pos hl,if_pos hl]
 ·obtain rfl:j=L.length:=by omega
  rw [if_neg hl,if_neg hl,if_pos rfl,if_pos (by omega),Nat.sub_self,hg]
theorem jsi (m:Md) (hM:ModOk m) (s:Stt) (hf:qq m s=true) (hh:s.holder=-1) (p:Nat) (hp:p<m.procs.length) (e:Ed) (he:EdOk m.tree.length m.vars.length m.chans.length (m.procs.getD p pr0).places e) (hc:canB m s p e=true) (h2:e.act=2) :
  Trip Tryz.prog 120 [m.av,.ptr 0 0,iv p,.agg e.cells] [boxS s,rowI s.at_,rowI s.vars,rowF s.chans,famF s.chans] (.tup [])
   [(0,.box 76 (qdu m s p e).cells)] 5:=by
 have hs:=qfa hM hf
 have h0:=((qag m s).1 hf).1
 have hsv:=qvw m hM.ok p s hs e.expr
 have hex:=he.ex
 have hvr:=he.var
 have hch:=he.chn
 have hto:=he.to
 have hat:p<s.at_.length:=by omega
 have hvl:=h0.2.1
 have hcl:=h0.2.2.1
 have hT:=qvq hM hf (p:=p) hto (qvr hc)
 have hTs:=qfa hM hT
 have hmv:=jea m hM.ok (qbi m s p e) hT hTs p hp (pl:=(m.procs.getD p pr0).places) (fun e he=>(hM.pr _ (qj m.procs p pr0 hp)).ed e he) (hM.psz _ (qj m.procs p pr0 hp)).1
 have hA:∀ j,(if j=p then [iv e.to] else encL (fun n=>[iv n]) 0 s.at_ j)=encL (fun n=>[iv n]) 0 (s.at_.set p e.to) j:=qiq (fun n=>[iv n]) 0 s.at_ p e.to hat
 unfold boxS rowI rowF famF
 refine zL {} 300 Tryz.func120 (fun c0 rdb mpb=>?_)
 (repeat' ((conv=>whnf);first|(apply zB <;> intro hb <;> (try simp [-List.getD_eq_getElem?_getD] at hb) <;> try (exfalso;omega))))
 ((conv=>whnf);refine zQ 300 ?_)
 ((conv=>whnf);refine CallY.lend (hsv) (by repeat' (first|exact trivial|exact ⟨rfl,rfl⟩|exact rfl|assumption|(refine And.intro ?_ ?_)|(intro _))) leA (by rfl) ?_)
 (repeat' ((conv=>whnf);first|refine zA ?_|fail))
 ((conv=>whnf);refine qbe (fun _=>rfl) (by kernel_rfl) 300 [.con (iv (trim (sval m p s e.expr).1 (m.chans.getD e.chn.toNat ch0).width))] (by kernel_rfl) ?_)
 (repeat' ((conv=>whnf);first|refine zO ?_|refine Ob.auto ?_|(refine Ob.intro (by (first|exact ⟨by omega,by omega⟩|exact ⟨_,qlf (sval m p s e.expr).1 (m.chans.getD e.chn.toNat ch0).width,by rfl,LeL.refl _⟩)) ?_)|refine zD 300 ?_|refine Ob.intro ?_ ?_|fail))
 ·have hcl2:=hTs.l
  have hl:=hs.l _ (qj s.chans e.chn.toNat [] (by omega))
  refine ⟨by omega,⟨rfl,rfl⟩,by omega,?_⟩
  dsimp only
  refine Nat.le_trans (Nat.mul_le_mul_right _ (?_:_≤4000001)) (by decide +kernel);omega
 ·exact ⟨⟨⟨rfl,rfl⟩,by omega⟩,by omega,by simp [upd],by simp [upd]⟩
 have hTe:qbi m s p e=⟨s.at_.set p e.to,s.vars,s.chans.set e.chn.toNat (s.chans.getD e.chn.toNat []++[trim (sval m p s e.expr).1 (m.chans.getD e.chn.toNat ch0).width]),-1⟩:=by
  have h3:=hex (.inr (.inl h2))
  simp [qbi,h2,sval,h3,hf,if_neg (show ¬ e.expr<0 by omega)]
 generalize hmsg:trim (sval m p s e.expr).1 (m.chans.getD e.chn.toNat ch0).width=msg at hTe ⊢
 have hlen:∀ k,((s.chans.set e.chn.toNat (s.chans.getD e.chn.toNat []++[msg])).getD k []).length=if k=e.chn.toNat then (s.chans.getD e.chn.toNat []).length+1 else (s.chans.getD k []).length:=fun k=>by
  rw [qgk]
  by_cases h:k=e.chn.toNat
  ·rw [if_pos ⟨h,by omega⟩,if_pos h];simp
  ·rw [if_neg (fun h'=>h h'.1),if_neg h]
 refine jec 3 (.row [4] 28 1 0 s.chans.length (fun k=>[.own 4 k 1 ((s.chans.set e.chn.toNat (s.chans.getD e.chn.toNat []++[msg])).getD k []).length])) rfl ⟨⟨rfl,rfl,rfl⟩,rfl,rfl,fun k hk=>?_⟩ ?_
 ·show LeL (if k=e.chn.toNat then [AV.own 4 e.chn.toNat 1 ((s.chans.getD e.chn.toNat []).length+1)] else [AV.own 4 k 1 (s.chans.getD k []).length]) _
  dsimp only
  rw [hlen]
  by_cases h:k=e.chn.toNat
  ·rw [if_pos h,if_pos h,h];exact LeL.refl _
  ·rw [if_neg h,if_neg h];exact LeL.refl _
 refine jec 4 (.fam 3 1 s.chans.length (fun _=>1) (fun k=>((s.chans.set e.chn.toNat (s.chans.getD e.chn.toNat []++[msg])).getD k []).length) (fun k=>encL (fun n=>[iv n]) 0 ((s.chans.set e.chn.toNat (s.chans.getD e.chn.toNat []++[msg])).getD k []))) rfl (qfx (fun k hk=>?_) (fun k hk=>?_) (fun k j hk hj=>?_)) ?_
 ·show Go.Sx.upd _ _ _ k=1
  unfold Go.Sx.upd
  split <;> rfl
 ·exact (hlen k).symm
 ·show (Go.Sx.upd (α:=Nat→List AV) _ _ _ k) j=_
  unfold Go.Sx.upd
  rw [qgk]
  by_cases h:k=e.chn.toNat
  ·rw [if_pos h,if_pos ⟨h,by omega⟩]
   have hj2:j<(if k=e.chn.toNat then (s.chans.getD e.chn.toNat []).length+1 else (s.chans.getD k []).length):=hj
   rw [if_pos h] at hj2
   exact jei rfl hj2
  ·rw [if_neg h,if_neg (fun h'=>h h'.1)]
 ((conv=>whnf);refine qde [0,5,6] 0 rfl (by repeat' (first|exact trivial|exact ⟨rfl,rfl⟩|exact ⟨rfl,rfl,rfl⟩|assumption|(refine And.intro ?_ ?_)|(intro _))) ?_)
 refine qqw 0 (qbi m s p e).cells rfl (by
  rw [hTe]
  exact ⟨Le.slc (by simp) (fun j hj=>hA j),Le.refl _,Le.slc (by simp) (fun j hj=>rfl),Le.of_eq (congrArg (AV.int _) hh),trivial⟩) ?_
 (repeat' ((conv=>whnf);first|refine zA ?_|refine Ob.auto ?_|(refine CallZ.con (fun hg=>hmv) qhc (by rfl) ?_)|(refine zQ 300 ?_)|(apply zB <;> intro hb <;> (try simp [-List.getD_eq_getElem?_getD] at hb) <;> try (exfalso;omega))))
 ·exact ⟨Le.refl _,⟨rfl,Le.refl _,Le.refl _,Le.refl _,Le.of_eq (congrArg (AV.int _) (if_pos hb).symm),trivial⟩,trivial⟩
 ·refine ⟨Le.refl _,⟨rfl,Le.refl _,Le.refl _,Le.refl _,Le.of_eq (congrArg (AV.int _) ?_),trivial⟩,trivial⟩
  refine Eq.trans (by rw [hTe]) (if_neg (fun h=>?_)).symm
  have:=hb h.1;rw [h.2] at this;cases this
end Go.Proofs.YtcfllgdfhfcicaaGreatDoor
end
section
namespace Go.Proofs.YtcfllgdfhfcicaaGreatDoor
open List renaming getD_eq_getElem?_getD → zd
open Go Go.Sx Go.RowKit Go.St
set_option maxRecDepth 100000
set_option maxHeartbeats 4000000
theorem do_no (m:Md) (hM:ModOk m) (s:Stt) (hs:SSz s) (v:Mv) (h:doB m s v=false):Con Tryz.prog 88 [m.av,s.av,v.av] (.tup [.agg [.nils,.nils,.nils,iv 0],.bool false]):=by
 unfold doB at h
 by_cases hf:qq m s=true
 ·rw [hf,Bool.true_and] at h
  have hal:=qnt m hM s hf v
  have hft:=qhp m s hs
  rw [h] at hal
  rw [hf] at hft
  refine zK {} 300 Tryz.func88 (fun c0 rdb=>?_)
  (repeat' ((conv=>whnf);first|refine Ob.auto ?_|refine zC 300 (hft) ?_|refine zG 300 (fun hg=>hal) ?_|(apply zB <;> intro hb <;> (try simp [-zd] at hb) <;> try (exfalso;omega))))
  exact Le.refl _
 ·have hft:=qhp m s hs
  rw [Bool.not_eq_true] at hf
  rw [hf] at hft
  refine zK {} 300 Tryz.func88 (fun c0 rdb=>?_)
  (repeat' ((conv=>whnf);first|refine Ob.auto ?_|refine zC 300 (hft) ?_|refine zG 300 (fun hg=>(absurd hg (by decide):Con Tryz.prog 118 [m.av,s.av,v.av] (.bool false))) ?_|(apply zB <;> intro hb <;> (try simp [-zd] at hb) <;> try (exfalso;omega))))
  exact Le.refl _
theorem jsj {s:Stt} {c:Nat} (hc:c<s.chans.length) (j:Nat):LeL (if j=c then [AV.slc 1 ((s.chans.getD c []).length - 1) fun i=>encL (fun n=>[iv n]) 0 (s.chans.getD c []) (1+i)] else encL (fun c=>[ints c]) [] s.chans j) (encL (fun c=>[ints c]) [] (s.chans.set c ((s.chans.getD c []).drop 1)) j):=by
 rw [← qiq (fun c=>[ints c]) [] s.chans c _ hc j]
 by_cases hj:j=c
 ·rw [if_pos hj,if_pos hj]
  refine ⟨Le.slc (by simp) (fun q _=>?_),trivial⟩
  unfold encL
  rw [zd (l:=List.drop 1 _),List.getElem?_drop,← zd]
 ·rw [if_neg hj,if_neg hj];exact LeL.refl _
theorem jsk (m:Md) (hM:ModOk m) (s:Stt) (v:Mv) (hf:qq m s=true) (h:qan m s v=true) (hk:v.kind=1):Con Tryz.prog 88 [m.av,s.av,v.av] (.tup [(jf m s v).av,.bool true]):=by
 have hs:=qfa hM hf
 have hal:=qnt m hM s hf v
 have hft:=qhp m s hs
 rw [h] at hal
 rw [hf] at hft
 unfold qan at h
 rw [if_neg (by omega),if_pos (.inl hk),if_pos hk,Bool.and_eq_true] at h
 obtain ⟨h2,h3⟩:=h
 have h2:=of_decide_eq_true h2
 have hcl:=((qag m s).1 hf).1.2.2.1
 have hq:0<(s.chans.getD v.chn.toNat []).length:=by
  unfold qli qlen at h3
  simp only [Bool.and_eq_true,decide_eq_true_eq,Int.toNat_natCast] at h3
  omega
 have hst:jf m s v={ s with chans:=s.chans.set v.chn.toNat ((s.chans.getD v.chn.toNat []).drop 1),holder:=-1 }:=if_pos hk
 rw [hst]
 refine zK {} 300 Tryz.func88 (fun c0 rdb=>?_)
 (repeat' ((conv=>whnf);first|refine Ob.auto ?_|refine zC 300 (hft) ?_|refine zG 300 (fun hg=>hal) ?_|(apply zB <;> intro hb <;> (try simp [-zd] at hb) <;> try (exfalso;omega))))
 ((conv=>whnf);refine zT 300 [] (jef s hs) qa ?_)
 (repeat' ((conv=>whnf);first|refine zO ?_|refine Ob.auto ?_|refine zD 300 ?_|(apply zB <;> intro hb <;> (try simp [-zd] at hb) <;> try (exfalso;omega))))
 exact Le.tup ⟨Le.agg ⟨Le.refl _,Le.refl _,Le.slcL (by simp) (fun j hj=>jsj (by omega) j),Le.refl _,trivial⟩,Le.refl _,trivial⟩
theorem jej (m:Md) (s:Stt) (h:Int) (p:Nat) (e:Ed):canB m { s with holder:=h } p e=canB m s p e:=by
 unfold canB qlen
 simp only [jeh]
theorem jek (m:Md) (s:Stt) (h:Int) (p:Nat) (e:Ed):qdu m { s with holder:=h } p e=qdu m s p e:=by
 unfold qdu qbi
 simp only [jeh]
theorem jsl (m:Md) (hM:ModOk m) (s:Stt) (P E:Nat) (hf:qq m s=true) (h:qan m s ⟨0,P,E,0⟩=true) (ha:((edgesOf m P).getD E ed0).act≠2):Con Tryz.prog 88 [m.av,s.av,(⟨0,P,E,0⟩:Mv).av] (.tup [(qdu m s P ((edgesOf m P).getD E ed0)).av,.bool true]):=by
 have hs:=qfa hM hf
 have hal:=qnt m hM s hf ⟨0,P,E,0⟩
 have hft:=qhp m s hs
 rw [h] at hal
 rw [hf] at hft
 unfold qan at h
 rw [if_pos rfl,Bool.and_eq_true,Bool.and_eq_true] at h
 obtain ⟨h2,h3,h4⟩:=h
 have h3:=of_decide_eq_true h3
 simp only at h3
 have h5:P<m.procs.length:=by omega
 have h6:E<(edgesOf m P).length:=by have:=h3.2.2.2;rw [Int.toNat_natCast] at this;omega
 have h6':E<(m.procs.getD P pr0).edges.length:=h6
 have hed:=edOk hM h5 h6
 have hf0:=qlj hf (-1) ⟨Int.le_refl _,by omega⟩
 have hfo:=jsh m hM { s with holder:=-1 } hf0 rfl P h5 ((edgesOf m P).getD E ed0) hed (by rw [jej];exact h4) ha
 rw [jek] at hfo
 refine zK {} 300 Tryz.func88 (fun c0 rdb=>?_)
 (repeat' ((conv=>whnf);first|refine Ob.auto ?_|refine zC 300 (hft) ?_|refine zG 300 (fun hg=>hal) ?_|(apply zB <;> intro hb <;> (try simp [-zd] at hb) <;> try (exfalso;omega))))
 ((conv=>whnf);refine zT 300 [] (jef s hs) qa ?_)
 (repeat' ((conv=>whnf);first|refine Ob.auto ?_|(apply zB <;> intro hb <;> (try simp [-zd] at hb) <;> try (exfalso;omega))))
 ((conv=>whnf);refine zQ 300 ?_)
 (repeat' ((conv=>whnf);first|refine Ob.auto ?_|fail))
 ((conv=>whnf);refine CallY.trip [18,8,12,17] (hfo) (by kernel_rfl) leA qa (by exact qb rfl) (by exact qb rfl) ?_)
 (repeat' ((conv=>whnf);first|refine zA ?_|refine Ob.auto ?_|fail))
 exact Le.refl _
theorem jsm (m:Md) (hM:ModOk m) (s:Stt) (P E:Nat) (hf:qq m s=true) (h:qan m s ⟨0,P,E,0⟩=true) (ha:((edgesOf m P).getD E ed0).act=2):Con Tryz.prog 88 [m.av,s.av,(⟨0,P,E,0⟩:Mv).av] (.tup [(qdu m s P ((edgesOf m P).getD E ed0)).av,.bool true]):=by
 have hs:=qfa hM hf
 have hal:=qnt m hM s hf ⟨0,P,E,0⟩
 have hft:=qhp m s hs
 rw [h] at hal
 rw [hf] at hft
 unfold qan at h
 rw [if_pos rfl,Bool.and_eq_true,Bool.and_eq_true] at h
 obtain ⟨h2,h3,h4⟩:=h
 have h3:=of_decide_eq_true h3
 simp only at h3
 have h5:P<m.procs.length:=by omega
 have h6:E<(edgesOf m P).length:=by have:=h3.2.2.2;rw [Int.toNat_natCast] at this;omega
 have h6':E<(m.procs.getD P pr0).edges.length:=h6
 have hed:=edOk hM h5 h6
 have hf0:=qlj hf (-1) ⟨Int.le_refl _,by omega⟩
 have hfo:=jsi m hM { s with holder:=-1 } hf0 rfl P h5 ((edgesOf m P).getD E ed0) hed (by rw [jej];exact h4) ha
 rw [jek] at hfo
 refine zK {} 300 Tryz.func88 (fun c0 rdb=>?_)
 (repeat' ((conv=>whnf);first|refine Ob.auto ?_|refine zC 300 (hft) ?_|refine zG 300 (fun hg=>hal) ?_|(apply zB <;> intro hb <;> (try simp [-zd] at hb) <;> try (exfalso;omega))))
 ((conv=>whnf);refine qdd (fun _=>rfl) 300 [] (jeg s hs) (by kernel_rfl) leA qa (by exact qb rfl) (by exact qcz ⟨fun _ _=>rfl,trivial⟩) (by kernel_rfl) ?_)
 (repeat' ((conv=>whnf);first|refine Ob.auto ?_|(apply zB <;> intro hb <;> (try simp [-zd] at hb) <;> try (exfalso;omega))))
 ((conv=>whnf);refine zQ 300 ?_)
 (repeat' ((conv=>whnf);first|refine Ob.auto ?_|fail))
 ((conv=>whnf);refine CallY.trip [24,8,12,17,23] (hfo) (by kernel_rfl) leA qa (by exact qcz ⟨fun _ _=>rfl,trivial⟩) (by exact qb rfl) ?_)
 (repeat' ((conv=>whnf);first|refine zA ?_|refine Ob.auto ?_|fail))
 exact Le.refl _
theorem jsn (m:Md) (hM:ModOk m) (s:Stt) (c:Nat) (hf:qq m s=true) (h:qan m s ⟨2,0,0,c⟩=true):Con Tryz.prog 88 [m.av,s.av,(⟨2,0,0,c⟩:Mv).av] (.tup [(jf m s ⟨2,0,0,c⟩).av,.bool true]):=by
 have hs:=qfa hM hf
 have hal:=qnt m hM s hf ⟨2,0,0,c⟩
 have hft:=qhp m s hs
 rw [h] at hal
 rw [hf] at hft
 unfold qan at h
 rw [if_neg (by simp),if_pos (.inr rfl),Bool.and_eq_true] at h
 obtain ⟨h2,h3⟩:=h
 have h2:=of_decide_eq_true h2
 simp only at h2
 have hcl:=((qag m s).1 hf).1.2.2.1
 have hq:0<(s.chans.getD c []).length:=by
  unfold qjv qlen at h3
  simp only [Int.toNat_natCast] at h3
  rw [if_neg (by decide)] at h3
  simp only [Bool.and_eq_true,decide_eq_true_eq] at h3
  omega
 have hcc:c<s.chans.length:=by omega
 have hl:=hs.l _ (qj s.chans c [] hcc)
 refine zK {} 300 Tryz.func88 (fun c0 rdb=>?_)
 (repeat' ((conv=>whnf);first|refine Ob.auto ?_|refine zC 300 (hft) ?_|refine zG 300 (fun hg=>hal) ?_|(apply zB <;> intro hb <;> (try simp [-zd] at hb) <;> try (exfalso;omega))))
 ((conv=>whnf);refine qdd (fun _=>rfl) 300 [] (jeg s hs) (by kernel_rfl) leA qa (by exact qb rfl) (by exact qcz ⟨fun _ _=>rfl,trivial⟩) (by kernel_rfl) ?_)
 (repeat' ((conv=>whnf);first|refine zO ?_|refine Ob.auto ?_|refine zD 300 ?_|(apply zB <;> intro hb <;> (try simp [-zd] at hb) <;> try (exfalso;omega))|refine Ob.intro ?_ ?_|fail))
 ·refine ⟨hcc,⟨rfl,rfl⟩,show (s.chans.getD c []).length+1≤_ by omega,?_⟩
  refine Nat.le_trans (Nat.mul_le_mul_right _ (show (s.chans.getD c []).length+1≤4000001 by omega)) ?_
  dsimp only;decide +kernel
 ·exact ⟨⟨⟨rfl,rfl⟩,hcc⟩,hcc,by simp [upd],by simp [upd]⟩
 ·refine ⟨⟨⟨trivial,⟨rfl,rfl⟩,trivial⟩,⟨trivial,⟨rfl,rfl⟩,trivial⟩,⟨trivial,⟨rfl,rfl⟩,fun k hk=>?_⟩,trivial,trivial⟩,trivial,trivial⟩
  show allP _ (if k=c then _ else _)
  by_cases hkc:k=c
  ·rw [if_pos hkc]
   exact ⟨⟨hcc,⟨(if_pos rfl).symm,(if_pos rfl).symm⟩,trivial⟩,trivial⟩
  ·rw [if_neg hkc]
   exact ⟨⟨hk,⟨(if_neg hkc).symm,(if_neg hkc).symm⟩,trivial⟩,trivial⟩
 have hst:jf m s ⟨2,0,0,c⟩={ s with chans:=s.chans.set c (s.chans.getD c []++[(s.chans.getD c []).getD 0 0]),holder:=-1 }:=(if_neg (by simp)).trans (if_pos rfl)
 rw [hst]
 refine Le.tup ⟨Le.agg ⟨Le.refl _,Le.refl _,Le.slcL (by simp) (fun j hj=>?_),Le.refl _,trivial⟩,Le.refl _,trivial⟩
 rw [← qiq (fun c=>[ints c]) [] s.chans c _ hcc j]
 show LeL (List.map _ (if j=c then _ else _)) _
 by_cases hjc:j=c
 ·rw [if_pos hjc,if_pos hjc]
  refine ⟨Le.slc (show (s.chans.getD c []).length+1=_ by rw [List.length_append,List.length_singleton]) (fun q hq=>?_),trivial⟩
  have hq':q<(s.chans.getD c []).length+1:=hq
  refine (congrFun (if_pos rfl) q).trans ?_
  exact jei rfl hq'
 ·rw [if_neg hjc,if_neg hjc]
  refine ⟨Le.slc rfl (fun q hq=>congrFun (if_neg hjc) q),trivial⟩
theorem jso (m:Md) (hM:ModOk m) (s:Stt) (v:Mv) (hf:qq m s=true) (h:qan m s v=true):Con Tryz.prog 88 [m.av,s.av,v.av] (.tup [(jf m s v).av,.bool true]):=by
 by_cases hk:v.kind=1
 ·exact jsk m hM s v hf h hk
 ·have h':=h
  unfold qan at h
  split at h
  ·rename_i h0
   rw [Bool.and_eq_true,Bool.and_eq_true] at h
   obtain ⟨ha,hb,_⟩:=h
   have h2:=of_decide_eq_true ha
   have h3:=of_decide_eq_true hb
   clear ha hb
   obtain ⟨k,p,e,c⟩:=v
   simp only at h0 h2 h3
   obtain ⟨P,rfl⟩:=Int.eq_ofNat_of_zero_le h3.1
   obtain ⟨E,rfl⟩:=Int.eq_ofNat_of_zero_le h3.2.2.1
   obtain ⟨h2,_⟩:=h2
   subst h0 h2
   have hst:jf m s ⟨0,P,E,0⟩=qdu m s P ((edgesOf m P).getD E ed0):=rfl
   rw [hst]
   by_cases ha:((edgesOf m P).getD E ed0).act=2
   ·exact jsm m hM s P E hf h' ha
   ·exact jsl m hM s P E hf h' ha
  ·split at h
   ·rename_i h0
    rw [Bool.and_eq_true] at h
    obtain ⟨ha,_⟩:=h
    have h2:=of_decide_eq_true ha
    clear ha
    obtain ⟨k,p,e,c⟩:=v
    simp only at h0 h2 hk
    obtain ⟨C,rfl⟩:=Int.eq_ofNat_of_zero_le h2.2.2.2.1
    obtain rfl:k=2:=by omega
    obtain rfl:p=0:=h2.2.1
    obtain rfl:e=0:=h2.2.2.1
    exact jsn m hM s C hf h'
   ·cases h
theorem jel (m:Md) (hM:ModOk m) (s:Stt) (hs:SSz s) (v:Mv):Con Tryz.prog 88 [m.av,s.av,v.av] (.tup [(qqt m s v).av,.bool (doB m s v)]):=by
 unfold qqt
 by_cases h:doB m s v=true
 ·rw [if_pos h,h]
  unfold doB at h
  rw [Bool.and_eq_true] at h
  exact jso m hM s v h.1 h.2
 ·rw [if_neg h]
  rw [Bool.not_eq_true] at h
  rw [h]
  exact (do_no m hM s hs v h).res (Le.tup ⟨Le.agg ⟨Le.nils _ _,Le.nils _ _,Le.nils _ _,Le.refl _,trivial⟩,Le.refl _,trivial⟩)
end Go.Proofs.YtcfllgdfhfcicaaGreatDoor
end
section
namespace Go.Proofs.YtcfllgdfhfcicaaGreatDoor
open Go Go.Sx Go.RowKit Go.St
set_option maxRecDepth 100000
set_option maxHeartbeats 4000000

end Go.Proofs.YtcfllgdfhfcicaaGreatDoor
end
