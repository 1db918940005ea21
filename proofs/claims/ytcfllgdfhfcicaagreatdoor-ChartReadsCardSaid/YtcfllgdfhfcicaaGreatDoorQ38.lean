/- Some texts of the library, one behind the other. -/
import Derived.Test.YtcfllgdfhfcicaaGreatDoorQRf1
import Derived.Test.YtcfllgdfhfcicaaGreatDoorQ36
import Derived.Test.YtcfllgdfhfcicaaGreatDoorQ2
section
namespace Go.Proofs.YtcfllgdfhfcicaaGreatDoor
open List renaming getD_eq_getElem?_getD → zd
open Go Go.Sx Go.RowKit Go.St Go.Sp
set_option maxRecDepth 100000
set_option maxHeartbeats 8000000
theorem juv (m:Md) (p:Int) (hp:0≤p∧p<m.procs.length):whoT m p≠[45]:=by
 unfold whoT
 rw [if_pos hp]
 intro h
 have h1:=congrArg (List.contains · 46) h
 simp at h1
def Lo (p:Nat→Bool) (n c:Nat) (v:Int):Prop:=(v=-1∧∀ j,c≤j→j<n→p j=false)∨((c:Int)≤v∧v<n∧p v.toNat=true∧∀ j,c≤j→(j:Int)<v→p j=false)
theorem jgf {p:Nat→Bool} {n c:Nat} {v:Int} (h:Lo p n (c+1) v) (hc:c<n) (hp:p c=true):Lo p n c c:=
 .inr ⟨Int.le_refl _,by omega,hp,fun j h1 h2=>by omega⟩
theorem jgg {p:Nat→Bool} {n c:Nat} {v:Int} (h:Lo p n (c+1) v) (hp:p c=false):Lo p n c v:=by
  have key : ∀ j, c ≤ j → ¬ c + 1 ≤ j → p j = false := fun j h1 h2 => by obtain rfl : j = c := by omega
                                                                         exact hp
  rcases h with ⟨h1,h2⟩|⟨h1,h2,h3,h4⟩
  · exact .inl ⟨h1,fun j a b=>if h:c+1≤j then h2 j h b else key j a h⟩
  · exact .inr ⟨by omega,h2,h3,fun j a b=>if h:c+1≤j then h4 j h b else key j a h⟩
theorem juw {α:Type} {q:α→Bool} {l:List α} (d:α) {v:Int} (h:Lo (fun j=>q (l.getD j d)) l.length 0 v):Go.St.idx q l=v:=by
 rcases h with ⟨rfl,h2⟩|⟨h1,h2,h3,h4⟩
 ·exact qer q l d fun j hj=>h2 j (Nat.zero_le _) hj
 ·have:=qed q l d v.toNat (by omega) h3 (fun j hj=>h4 j (Nat.zero_le _) (by omega))
  rw [this];omega
theorem jux {q:Nat→Bool} {n:Nat} {v:Int} (h:Lo q n 0 v):Go.St.idx q (List.range n)=v:=by
 have hl:(List.range n).length=n:=List.length_range
 rcases h with ⟨rfl,h2⟩|⟨h1,h2,h3,h4⟩
 ·exact qer q _ 0 fun j hj=>by rw [qef _ _ (by omega)];exact h2 j (Nat.zero_le _) (by omega)
 ·have:=qed q (List.range n) 0 v.toNat (by omega) (by rw [qef _ _ (by omega)];exact h3) (fun j hj=>by rw [qef _ _ (by omega)];exact h4 j (Nat.zero_le _) (by omega))
  rw [this];omega
theorem juy (m:Md) (hM:ModOk m) (hn:NmOk m) (s:List UInt8) (hs:s.length≤100000) (es:List Ev) (hes:es.length≤999999) :
  ∃ r:Ev,Con Tryz.prog 37 [m.av,.str s,evsV es] (.tup [r.av,.bool (evR m (spL 32 s) es).2])∧((evR m (spL 32 s) es).2=true→r=(evR m (spL 32 s) es).1):=by
 have hsp:=juu s hs
 have hwl:=qwn 32 s
 have hwc:=qrh 32 s
 have hw0:=List.length_pos_iff.2 (spL_ne 32 s)
 generalize spL 32 s=w at hsp hwl hwc hw0 ⊢
 have hno:¬ EvIs m w es→evR m w es=({},false):=fun h=>if_neg h
 have n0:=qhs (es.length:Int) (by omega) (by omega)
 have n4:=jge (w.getD 4 []) (Nat.le_trans (hwl 4) (by omega))
 have n6:=jge (w.getD 6 []) (Nat.le_trans (hwl 6) (by omega))
 have hk3:=qob (w.getD 2 [])
 have hcl:=qee (fun c:Ch=>c.name == w.getD 3 []) m.chans
 have hcs:m.chans.length≤800:=hM.sz.2.2.1
 have hps:m.procs.length≤4:=hM.sz.2.1
 by_cases hAB:(w.length=5∨w.length=7)∧w.getD 0 []=Lib.itoa (es.length:Int)
 ·obtain ⟨R,hR⟩:∃ R:Ev,R=if EvIs m w es then evT m w else ⟨qy (w.getD 2 []),0,qas m (w.getD 1 []),qgn m (w.getD 3 []),(numT (w.getD 4 [])).1,-1⟩:=⟨_,rfl⟩
  refine ⟨R,?_,fun h=>?_⟩
  ·refine zK {} 300 Tryz.func37 (fun c0 rdb=>?_)
   (repeat' ((conv=>whnf);first|refine zC 300 (hsp) ?_|fail))
   ((conv=>whnf);refine zR 300 ?_)
   (repeat' ((conv=>whnf);first|refine zO ?_|refine Ob.auto ?_|refine zY (fun hg=>n0) ?_|(apply zB <;> intro hb <;> (try simp [-zd] at hb) <;> try (exfalso;omega))))
   ·exfalso
    rcases hb with hb|hb
    ·omega
    ·exact hb hAB.2
   obtain ⟨K,hK⟩:∃ K,K=qy (w.getD 2 []):=⟨_,rfl⟩
   have hk3':-1≤K∧K≤3:=by rw [hK];exact hk3
   ((conv=>whnf);refine qm (fun _=>rfl) 300 1 (fun i:Nat=>[(10,iv i)]) (fun i=>[(2,.box 40 [iv (if K<i then K else -1),iv 0,iv (-1),iv (-1),iv 0,iv (-1)])]) (fun i=>i≤4) (fun i=>4 - i) (0) (by decide) qa ⟨⟨rfl,Le.of_eq (congrArg (AV.int _) (by show (-1:Int)=if K<((0:Nat):Int) then K else -1;split <;> omega)),Le.refl _,Le.refl _,Le.refl _,Le.refl _,Le.refl _,trivial⟩,trivial⟩ (fun _=>rfl) (by kernel_rfl) ?_;(conv=>whnf))
   intro i hi
   by_cases hi4:i<4
   ·have hki:=jgb (s:=w.getD 2 []) (k:=i) (by omega) (by omega)
    rw [← hK] at hki
    (repeat' ((conv=>whnf);first|refine zO ?_|refine Ob.auto ?_|refine zX (jfg (i:Int) ⟨by omega,by omega⟩) ?_|(refine zR 300 ?_)|(apply zB <;> intro hb <;> (try simp [-zd] at hb) <;> try (exfalso;omega))))
    ·have hki:=hki.1 hb
     have e:(i:Int)=if K<((i+1:Nat):Int) then K else -1:=by rw [if_pos (by omega)];exact hki.symm
     ((conv=>whnf);refine ⟨i+1,by omega,⟨qa,⟨⟨rfl,Le.of_eq (congrArg (AV.int _) e),Le.refl _,Le.refl _,Le.refl _,Le.refl _,Le.refl _,trivial⟩,trivial⟩⟩,⟨qa,qa⟩,?_⟩;(first|omega|(dsimp only;omega)|skip))
    ·have hcn:K≠i:=fun e=>hb (hki.2 e)
     have e:(if K<(i:Int) then K else -1)=if K<((i+1:Nat):Int) then K else -1:=by split <;> split <;> omega
     ((conv=>whnf);refine ⟨i+1,by omega,⟨qa,⟨⟨rfl,Le.of_eq (congrArg (AV.int _) e),Le.refl _,Le.refl _,Le.refl _,Le.refl _,Le.refl _,trivial⟩,trivial⟩⟩,⟨qa,qa⟩,?_⟩;(first|omega|(dsimp only;omega)|skip))
   obtain rfl:i=4:=by omega
   rw [show (if K<((4:Nat):Int) then K else -1)=K from if_pos (by omega)]
   (repeat' ((conv=>whnf);first|refine Ob.auto ?_|(apply zB <;> intro hb <;> (try simp [-zd] at hb) <;> try (exfalso;omega))))
   ((conv=>whnf);refine qm (fun _=>rfl) 300 1 (fun g:Nat × Int=>[(11,iv ((g.1:Int) - 1))]) (fun g=>[(2,.box 40 [iv K,iv 0,iv (-1),iv g.2,iv 0,iv (-1)])]) (fun g=>g.1≤m.chans.length∧Lo (fun j=>(m.chans.getD j ch0).name == w.getD 3 []) m.chans.length g.1 g.2) (fun g=>g.1) ((m.chans.length,-1)) (⟨Nat.le_refl _,.inl ⟨rfl,fun j h1 h2=>absurd h2 (by omega)⟩⟩) qa qa (fun _=>rfl) (by kernel_rfl) ?_;(conv=>whnf))
   intro g hg
   obtain ⟨c,v⟩:=g
   obtain ⟨hc,hlo⟩:=hg
   dsimp only at hc hlo
   by_cases hc0:0<c
   ·obtain ⟨d,rfl⟩:∃ d,c=d+1:=⟨c - 1,by omega⟩
    have e0:((d+1:Nat):Int) - 1=d:=by omega
    rw [show ((((d+1,v):Nat × Int).1:Nat):Int) - 1=(d:Int) from e0]
    (repeat' ((conv=>whnf);first|refine zO ?_|refine Ob.auto ?_|(refine zR 300 ?_)|(apply zB <;> intro hb <;> (try simp [-zd] at hb) <;> try (exfalso;omega))))
    ·have hp:((m.chans.getD d ch0).name == w.getD 3 [])=true:=by rw [beq_iff_eq];exact hb
     ((conv=>whnf);refine ⟨(d,(d:Int)),⟨by omega,jgf hlo (by omega) hp⟩,⟨qa,qa⟩,⟨qa,qa⟩,?_⟩;(first|omega|(dsimp only;omega)|skip))
    ·have hp:((m.chans.getD d ch0).name == w.getD 3 [])=false:=by rw [beq_eq_false_iff_ne];exact hb
     ((conv=>whnf);refine ⟨(d,v),⟨by omega,jgg hlo hp⟩,⟨qa,qa⟩,⟨qa,qa⟩,?_⟩;(first|omega|(dsimp only;omega)|skip))
   obtain rfl:c=0:=by omega
   have hCv:qgn m (w.getD 3 [])=v:=juw (q:=fun c:Ch=>c.name == w.getD 3 []) ch0 hlo
   rw [show ((((0,v):Nat × Int).1:Nat):Int) - 1=-1 from rfl,show ((0,v):Nat × Int).2=v from rfl]
   (repeat' ((conv=>whnf);first|refine Ob.auto ?_|(apply zB <;> intro hb <;> (try simp [-zd] at hb) <;> try (exfalso;omega))))
   ((conv=>whnf);refine qm (fun _=>rfl) 300 1 (fun g:Nat × Int=>[(12,iv ((g.1:Int) - 1))]) (fun g=>[(2,.box 40 [iv K,iv 0,iv g.2,iv v,iv 0,iv (-1)])]) (fun g=>g.1≤m.procs.length∧Lo (fun j:Nat=>whoT m (j:Int) == w.getD 1 []) m.procs.length g.1 g.2) (fun g=>g.1) ((m.procs.length,-1)) (⟨Nat.le_refl _,.inl ⟨rfl,fun j h1 h2=>absurd h2 (by omega)⟩⟩) qa qa (fun _=>rfl) (by kernel_rfl) ?_;(conv=>whnf))
   intro g hg
   obtain ⟨c,u⟩:=g
   obtain ⟨hc,hlo⟩:=hg
   dsimp only at hc hlo
   by_cases hc0:0<c
   ·obtain ⟨d,rfl⟩:∃ d,c=d+1:=⟨c - 1,by omega⟩
    have e0:((d+1:Nat):Int) - 1=d:=by omega
    rw [show ((((d+1,u):Nat × Int).1:Nat):Int) - 1=(d:Int) from e0]
    (repeat' ((conv=>whnf);first|refine zO ?_|refine Ob.auto ?_|refine zX (jff m hM hn (d:Int)) ?_|(refine zR 300 ?_)|(apply zB <;> intro hb <;> (try simp [-zd] at hb) <;> try (exfalso;omega))))
    ·have hp:(whoT m (d:Int) == w.getD 1 [])=true:=by rw [beq_iff_eq];exact hb
     ((conv=>whnf);refine ⟨(d,(d:Int)),⟨by omega,jgf hlo (by omega) hp⟩,⟨qa,qa⟩,⟨qa,qa⟩,?_⟩;(first|omega|(dsimp only;omega)|skip))
    ·have hp:(whoT m (d:Int) == w.getD 1 [])=false:=by rw [beq_eq_false_iff_ne];exact hb
     ((conv=>whnf);refine ⟨(d,u),⟨by omega,jgg hlo hp⟩,⟨qa,qa⟩,⟨qa,qa⟩,?_⟩;(first|omega|(dsimp only;omega)|skip))
   obtain rfl:c=0:=by omega
   have hPu:qas m (w.getD 1 [])=u:=jux hlo
   have hPb:=qee (fun p:Nat=>whoT m p == w.getD 1 []) (List.range m.procs.length)
   rw [List.length_range] at hPb
   have hPb':-1≤u∧u<m.procs.length:=hPu ▸ hPb
   have hVb:-1≤v∧v<m.chans.length:=hCv ▸ hcl
   rw [show ((((0,u):Nat × Int).1:Nat):Int) - 1=-1 from rfl,show ((0,u):Nat × Int).2=u from rfl]
   rw [← hK,hPu,hCv] at hR
   have h75:(K == 0)=((w.length:Int) == 5)→¬ K=0→w.length=7:=fun e h=>by
    rcases hAB.1 with h5|h7
    ·rw [beq_eq_false_iff_ne.2 h,h5] at e;exact absurd e (by decide)
    ·exact h7
   have hwu:0≤u→whoT m u=w.getD 1 []:=fun h=>by
    rcases hlo with ⟨h1,_⟩|⟨_,_,h3,_⟩
    ·omega
    ·have:=eq_of_beq h3
     rw [show ((u.toNat:Nat):Int)=u by omega] at this
     exact this
   have hRno:¬ EvIs m w es→(evR m w es).2=false∧R=⟨K,0,u,v,(numT (w.getD 4 [])).1,-1⟩:=fun h=>⟨by rw [hno h],by rw [hR,if_neg h]⟩
   have hRyes:EvIs m w es→(evR m w es).2=true∧R=⟨K,0,if K≤1 then u else -1,v,(numT (w.getD 4 [])).1,if K=0 then -1 else (numT (w.getD 6 [])).1⟩:=fun h=>⟨by unfold evR;rw [if_pos h],by rw [hR,if_pos h];unfold evT;rw [← hK,hPu,hCv]⟩
   have hE:EvIs m w es→0≤K∧(K=0↔w.length=5)∧(if K≤1 then 0≤u else w.getD 1 []=[45])∧(numT (w.getD 4 [])).2=true∧0≤v∧(K=0∨(w.getD 5 []=[111,102]∧(numT (w.getD 6 [])).2=true∧0≤(numT (w.getD 6 [])).1∧(numT (w.getD 6 [])).1<es.length ∧
     (es.getD (numT (w.getD 6 [])).1.toNat {}).ch=v∧(es.getD (numT (w.getD 6 [])).1.toNat {}).kind≠1∧(es.getD (numT (w.getD 6 [])).1.toNat {}).kind≠2)):=fun h=>by
    have h:=h.2.2
    rw [← hK,hPu,hCv] at h
    exact h
   have hE2:(0≤K∧(K=0↔w.length=5)∧(if K≤1 then 0≤u else w.getD 1 []=[45])∧(numT (w.getD 4 [])).2=true∧0≤v∧(K=0∨(w.getD 5 []=[111,102]∧(numT (w.getD 6 [])).2=true∧0≤(numT (w.getD 6 [])).1∧(numT (w.getD 6 [])).1<es.length ∧
     (es.getD (numT (w.getD 6 [])).1.toNat {}).ch=v∧(es.getD (numT (w.getD 6 [])).1.toNat {}).kind≠1∧(es.getD (numT (w.getD 6 [])).1.toNat {}).kind≠2)))→EvIs m w es:=fun h=>by
    refine ⟨hAB.1,hAB.2,?_⟩
    rw [← hK,hPu,hCv]
    exact h
   have hcond:(((((numT (w.getD 4 [])).2=true∧0≤K)∧0≤v)∧(K == 0)=((w.length:Int) == 5))∧(K≤1↔0≤u))∧(1<K→w.getD 1 []=[45])→
     0≤K∧(K=0↔w.length=5)∧(if K≤1 then 0≤u else w.getD 1 []=[45])∧(numT (w.getD 4 [])).2=true∧0≤v:=fun h=>by
    refine ⟨h.1.1.1.1.2,⟨fun e=>?_,fun e=>?_⟩,?_,h.1.1.1.1.1,h.1.1.1.2⟩
    ·have:=h.1.1.2
     rw [e] at this
     have:=of_decide_eq_true (this.symm:decide ((w.length:Int)=5)=true)
     omega
    ·have:=h.1.1.2
     rw [e] at this
     exact of_decide_eq_true (this:decide (K=0)=true)
    ·split
     ·rename_i hk1;exact h.1.2.1 hk1
     ·rename_i hk1;exact h.2 (by omega)
   have hcond2:EvIs m w es→¬ ((((((numT (w.getD 4 [])).2=false∨K<0)∨v<0)∨¬ (K == 0)=((w.length:Int) == 5))∨¬ (K≤1↔0≤u))∨1<K∧¬ w.getD 1 []=[45]):=fun h hb=>by
    obtain ⟨a1,a2,a3,a4,a5,_⟩:=hE h
    rcases hb with ((((hb|hb)|hb)|hb)|hb)|hb
    ·rw [hb] at a4;cases a4
    ·omega
    ·omega
    ·apply hb
     by_cases h5:w.length=5
     ·rw [a2.2 h5,h5];rfl
     ·rw [beq_eq_false_iff_ne.2 (fun e=>h5 (a2.1 e)),beq_eq_false_iff_ne.2 (by omega)]
    ·apply hb
     by_cases hk1:K≤1
     ·rw [if_pos hk1] at a3;exact ⟨fun _=>a3,fun _=>hk1⟩
     ·rw [if_neg hk1] at a3
      exact ⟨fun h=>absurd h hk1,fun h=>absurd ((hwu h).trans a3) (juv m u ⟨h,hPb'.2⟩)⟩
    ·rw [if_neg (by omega)] at a3
     exact hb.2 a3
   have h6:(((((numT (w.getD 4 [])).2=true∧0≤K)∧0≤v)∧(K == 0)=((w.length:Int) == 5))∧(K≤1↔0≤u))∧(1<K→w.getD 1 []=[45])→¬ K=0→6<(w.length:Int):=fun h h0=>by
    have:=h75 h.1.1.2 h0;omega
   (repeat' ((conv=>whnf);first|refine zO ?_|refine Ob.auto ?_|refine zC 300 (n4) ?_|refine zC 300 (n6) ?_|(refine zR 300 ?_)|(apply zB <;> intro hb <;> (try simp [-zd] at hb) <;> try (exfalso;omega))))
   ·rw [(hRno fun h=>hcond2 h hb).1,(hRno fun h=>hcond2 h hb).2]
    exact Le.refl _
   ·rename_i hq
    have hq':=hcond hq
    have hy:=hRyes (hE2 ⟨hq'.1,hq'.2.1,hq'.2.2.1,hq'.2.2.2.1,hq'.2.2.2.2,.inl hb⟩)
    rw [hy.1,hy.2,if_pos (by omega),if_pos hb]
    exact Le.refl _
   ·rename_i hk0
    have hN:¬ EvIs m w es:=fun h=>by
     obtain ⟨_,_,_,_,_,a6⟩:=hE h
     rcases a6 with a6|⟨a,b,c,d,e,f,g⟩
     ·exact hk0 a6
     ·rcases hb with (((((hb|hb)|hb)|hb)|hb)|hb)|hb
      ·rw [hb] at b;cases b
      ·exact hb a
      ·omega
      ·omega
      ·exact hb e
      ·exact f hb
      ·exact g hb
    rw [(hRno hN).1,(hRno hN).2]
    exact Le.refl _
   ·rename_i hq hk0
    have hq':=hcond hq
    have hy:=hRyes (hE2 ⟨hq'.1,hq'.2.1,hq'.2.2.1,hq'.2.2.2.1,hq'.2.2.2.2,.inr ⟨hb.1.1.1.1.1.2,hb.1.1.1.1.1.1,hb.1.1.1.1.2,hb.1.1.1.2,hb.1.1.2,hb.1.2,hb.2⟩⟩)
    have hu:(if K≤1 then u else -1)=u:=by
     split
     ·rfl
     ·rename_i hk1
      have:¬ 0≤u:=fun h=>hk1 (hq.1.2.2 h)
      omega
    rw [hy.1,hy.2,hu,if_neg hk0]
    exact Le.refl _
  ·unfold evR at h ⊢
   by_cases he:EvIs m w es
   ·rw [hR,if_pos he,if_pos he]
   ·rw [if_neg he] at h;cases h
 ·have h0:¬ EvIs m w es:=fun h=>hAB ⟨h.1,h.2.1⟩
  rw [hno h0]
  refine ⟨⟨-1,0,-1,-1,0,-1⟩,?_,fun h=>by cases h⟩
  refine zK {} 300 Tryz.func37 (fun c0 rdb=>?_)
  (repeat' ((conv=>whnf);first|refine zC 300 (hsp) ?_|fail))
  ((conv=>whnf);refine zR 300 ?_)
  (repeat' ((conv=>whnf);first|refine zO ?_|refine Ob.auto ?_|refine zY (fun hg=>n0) ?_|(apply zB <;> intro hb <;> (try simp [-zd] at hb) <;> try (exfalso;omega))))
  ·exact Le.refl _
  ·exfalso
   exact hAB ⟨by omega,hb.2⟩
theorem juz (m:Md) (hM:ModOk m) (hn:NmOk m) (s:List UInt8) (hs:s.length≤100000) :
  Con Tryz.prog 17 [m.av,.str s] (.tup [evsV ((qir m s).getD []),.bool (qir m s).isSome]):=by
 refine zK {owns:=[(6,(40,6))]} 300 Tryz.func17 (fun c0 rdb=>?_)
 ((conv=>whnf);refine qm (fun _=>rfl) 300 1 (fun g:Nat × List UInt8 × List Ev=>[(6,.own 1 0 0 g.2.2.length),(7,.str g.2.1),(8,iv g.1)]) (fun g=>[(1,.row [] 40 6 0 g.2.2.length (encL Ev.cells {} g.2.2))]) (fun g=>g.1≤s.length∧(∀ b∈g.2.1,b≠10)∧g.2.1.length+g.2.2.length≤g.1∧goL m (spL 10 (g.2.1++s.drop g.1)) g.2.2=qir m s) (fun g=>s.length - g.1) ((0,[],[])) (⟨Nat.zero_le _,fun b hb=>absurd hb List.not_mem_nil,Nat.le_refl _,rfl⟩) qa qa (fun _=>rfl) (by kernel_rfl) ?_;(conv=>whnf))
 intro g hg
 obtain ⟨i,cur,es⟩:=g
 obtain ⟨hi,hcl,hlen,hgo⟩:=hg
 dsimp only at hi hcl hlen hgo
 by_cases hil:i<s.length
 ·have hdr:s.drop i=s.getD i 0::s.drop (i+1):=by
   rw [List.drop_eq_getElem_cons hil,zd,List.getElem?_eq_getElem hil];rfl
  have e2:List.drop (i:Int).toNat (List.take ((i:Int)+1).toNat s)=[s.getD i 0]:=by
   rw [show (i:Int).toNat=i by omega,show ((i:Int)+1).toNat=i+1 by omega,List.take_add_one,zd,List.getElem?_eq_getElem hil,List.drop_append_of_le_length (by rw [List.length_take];omega)]
   simp
  have hbt:jr s (i:Int)=((s.getD i 0).toNat:Int):=rfl
  rw [hdr] at hgo
  clear hdr
  by_cases h10:s.getD i 0=10
  ·have hb10:jr s (i:Int)=10:=by rw [hbt,h10];rfl
   rw [h10,qwl m _ es hcl] at hgo
   obtain ⟨r,he,hr⟩:=juy m hM hn cur (by omega) es (by omega)
   by_cases hev:EvIs m (spL 32 cur) es
   ·have hs1:evF m (spL 32 cur) es=some (evT m (spL 32 cur)):=if_pos hev
    rw [hs1] at hgo
    have hR:evR m (spL 32 cur) es=(evT m (spL 32 cur),true):=if_pos hev
    rw [hR] at he hr
    obtain rfl:=hr rfl
    generalize evT m (spL 32 cur)=e at *
    dsimp only at he
    (repeat' ((conv=>whnf);first|refine Ob.auto ?_|refine zE 300 (he) ?_|(apply zB <;> intro hb <;> (try simp [-zd] at hb) <;> try (exfalso;omega))))
    all_goals try (exfalso;omega)
    ((conv=>whnf);refine ⟨(i+1,[],es++[e]),⟨by omega,fun b hb=>absurd hb List.not_mem_nil,by simp;omega,hgo⟩,⟨⟨qvx rfl 1,Le.refl _,Le.refl _,trivial⟩,⟨qnu Ev.cells {} rfl rfl,trivial⟩⟩,⟨qa,qa⟩,?_⟩;(first|omega|(dsimp only;omega)|skip))
   ·have hs1:evF m (spL 32 cur) es=none:=if_neg hev
    rw [hs1] at hgo
    rw [show evR m (spL 32 cur) es=({},false) from if_neg hev] at he
    rw [← hgo]
    dsimp only at he
    (repeat' ((conv=>whnf);first|refine Ob.auto ?_|refine zE 300 (he) ?_|(apply zB <;> intro hb <;> (try simp [-zd] at hb) <;> try (exfalso;omega))))
    all_goals first|(exfalso;omega)|exact Le.tup ⟨Le.nils _ _,Le.refl _,trivial⟩
  ·have hb10:¬ jr s (i:Int)=10:=fun h=>h10 (UInt8.toNat_inj.1 (by rw [hbt] at h;show (s.getD i 0).toNat=10;omega))
   rw [← List.singleton_append,← List.append_assoc] at hgo
   (repeat' ((conv=>whnf);first|refine Ob.auto ?_|(refine Ob.intro (by (first|exact ⟨by omega,by omega⟩|(dsimp only;rw [e2,List.length_singleton];show _≤(9223372036854775807:Nat);omega))) ?_)|(apply zB <;> intro hb <;> (try simp [-zd] at hb) <;> try (exfalso;omega))))
   all_goals try (exfalso;omega)
   ((conv=>whnf);refine ⟨(i+1,cur++[s.getD i 0],es),⟨by omega,fun b hx=>?_,by simp;omega,hgo⟩,⟨⟨Le.refl _,Le.of_eq (congrArg AV.str (congrArg (cur++·) e2)),Le.refl _,trivial⟩,qa⟩,⟨qa,qa⟩,?_⟩;(first|omega|(dsimp only;omega)|skip))
   ·rcases List.mem_append.1 hx with hx|hx
    ·exact hcl b hx
    ·rw [List.mem_singleton.1 hx];exact h10
   ·show s.length - (i+1)<s.length - i
    omega
 ·obtain rfl:i=s.length:=by omega
  rw [List.drop_length,List.append_nil] at hgo
  by_cases h0:cur=[]
  ·subst h0
   rw [qwj] at hgo
   rw [← hgo]
   (repeat' ((conv=>whnf);first|refine Ob.auto ?_|(apply zB <;> intro hb <;> (try simp [-zd] at hb) <;> try (exfalso;omega))))
   all_goals first|(exfalso;omega)|exact Le.refl _
  ·rw [qwk m es hcl h0] at hgo
   rw [← hgo]
   (repeat' ((conv=>whnf);first|refine Ob.auto ?_|(apply zB <;> intro hb <;> (try simp [-zd] at hb) <;> try (exfalso;omega))))
   all_goals first|(exfalso;omega)|exact absurd hb h0|exact Le.tup ⟨Le.nils _ _,Le.refl _,trivial⟩
end Go.Proofs.YtcfllgdfhfcicaaGreatDoor
end
section
namespace Go.Proofs.YtcfllgdfhfcicaaGreatDoor
open Go Go.Sx Go.RowKit Go.St Go.Sp
set_option maxRecDepth 100000
def qht (c:UInt8):List (List UInt8)→List UInt8
 | []=>[]
 | [w]=>w
 | w::w'::r=>w++c::qht c (w'::r)
theorem jgh (c:UInt8):∀ (l:List UInt8),qht c (spL c l)=l
 | []=>rfl
 | b::r=>by
  have ih:=jgh c r
  have hne:=spL_ne c r
  unfold spL
  split
  ·rename_i h
   cases hr:spL c r with
   | nil=>exact absurd hr hne
   | cons w ws=>rw [hr] at ih;show []++c::qht c (w::ws)=_;rw [ih,h];rfl
  ·cases hr:spL c r with
   | nil=>exact absurd hr hne
   | cons w ws=>
    rw [hr] at ih
    show qht c ((b::w)::ws)=_
    cases ws with
    | nil=>show b::w=_;rw [show w=r from ih]
    | cons v vs=>show b::(w++c::qht c (v::vs))=_;rw [show w++c::qht c (v::vs)=r from ih]
theorem jgi (s:List UInt8):-999999≤(numT s).1∧(numT s).1≤999999:=by
 unfold numT
 split
 ·rename_i h
  have hv:=qrf _ h.2.2
  have hp:=qrg _ (by omega:(Lib.trimPrefix s [45]).length<7)
  dsimp only
  split <;> omega
 ·exact ⟨by decide,by decide⟩
theorem jva {m:Md} {w:List (List UInt8)} {es:List Ev} (h:EvIs m w es):EvOk m (evT m w):=by
 have hk:=qob (w.getD 2 [])
 have hp:=qee (fun p:Nat=>whoT m p == w.getD 1 []) (List.range m.procs.length)
 rw [List.length_range] at hp
 have hp':-1≤qas m (w.getD 1 [])∧qas m (w.getD 1 [])<m.procs.length:=hp
 have h6:=jgi (w.getD 6 [])
 refine ⟨⟨h.2.2.1,hk.2⟩,(jfv h).2,?_,jgi _,?_⟩
 ·show -1≤(if qy (w.getD 2 [])≤1 then qas m (w.getD 1 []) else -1)∧(if qy (w.getD 2 [])≤1 then qas m (w.getD 1 []) else -1) < _
  split <;> omega
 ·show -1≤(if qy (w.getD 2 [])=0 then -1 else (numT (w.getD 6 [])).1)∧(if qy (w.getD 2 [])=0 then -1 else (numT (w.getD 6 [])).1)≤_
  split
  ·omega
  ·rename_i h0
   rcases h.2.2.2.2.2.2.2 with h|⟨_,_,h,_⟩
   ·exact absurd h h0
   ·omega
theorem five {w:List (List UInt8)} (h:w.length=5):w=[w.getD 0 [],w.getD 1 [],w.getD 2 [],w.getD 3 [],w.getD 4 []]:=by
 match w,h with
 | [a,b,c,d,e],_=>rfl
theorem seven {w:List (List UInt8)} (h:w.length=7):w=[w.getD 0 [],w.getD 1 [],w.getD 2 [],w.getD 3 [],w.getD 4 [],w.getD 5 [],w.getD 6 []]:=by
 match w,h with
 | [a,b,c,d,e,f,g],_=>rfl
theorem jvb {m:Md} {w:List (List UInt8)} {es:List Ev} (h:EvIs m w es):qbb m es.length (evT m w)=qht 32 w++[10]:=by
 obtain ⟨h1,h2,h3,h4,h5,h6,h7,h8⟩:=h
 have hk:=qob (w.getD 2 [])
 have ek:qcd (qy (w.getD 2 []))=w.getD 2 []:=(jgb h3 hk.2).2 rfl
 have ep:whoT m (if qy (w.getD 2 [])≤1 then qas m (w.getD 1 []) else -1)=w.getD 1 []:=by
  by_cases hk1:qy (w.getD 2 [])≤1
  ·rw [if_pos hk1] at h5 ⊢
   have hs:=qwp (p:=fun p:Nat=>whoT m p == w.getD 1 []) (l:=List.range m.procs.length) 0 (i:=(qas m (w.getD 1 [])).toNat) (by rw [Int.toNat_of_nonneg h5];rfl)
   rw [List.length_range] at hs
   have h9:=eq_of_beq hs.2
   rw [qef _ _ hs.1,Int.toNat_of_nonneg h5] at h9
   exact h9
  ·rw [if_neg hk1] at h5 ⊢
   rw [h5];rfl
 have ec:(m.chans.getD (qgn m (w.getD 3 [])).toNat ch0).name=w.getD 3 []:=by
  have hs:=qwp (p:=fun c:Ch=>c.name == w.getD 3 []) (l:=m.chans) ch0 (i:=(qgn m (w.getD 3 [])).toNat) (by rw [Int.toNat_of_nonneg h7];rfl)
  exact eq_of_beq hs.2
 have e4:=qwo h6
 show Lib.itoa es.length++[32]++whoT m (if qy (w.getD 2 [])≤1 then qas m (w.getD 1 []) else -1)++[32]++qcd (qy (w.getD 2 []))++[32]++(m.chans.getD (qgn m (w.getD 3 [])).toNat ch0).name++[32]++Lib.itoa (numT (w.getD 4 [])).1 ++
  (if qy (w.getD 2 [])=0 then [] else [32,111,102,32]++Lib.itoa (if qy (w.getD 2 [])=0 then -1 else (numT (w.getD 6 [])).1))++[10]=_
 rw [ek,ep,ec,← e4,← h2]
 by_cases hk0:qy (w.getD 2 [])=0
 ·rw [if_pos hk0]
  have e:=five (h4.1 hk0)
  generalize w.getD 0 []=a0 at e ⊢
  generalize w.getD 1 []=a1 at e ⊢
  generalize w.getD 2 []=a2 at e ⊢
  generalize w.getD 3 []=a3 at e ⊢
  generalize w.getD 4 []=a4 at e ⊢
  rw [e]
  simp [qht]
 ·rw [if_neg hk0,if_neg hk0]
  rcases h8 with h8|⟨h8,h9,_⟩
  ·exact absurd h8 hk0
  rw [← qwo h9]
  have e:=seven (h1.resolve_left fun h=>hk0 (h4.2 h))
  rw [h8] at e
  generalize w.getD 0 []=a0 at e ⊢
  generalize w.getD 1 []=a1 at e ⊢
  generalize w.getD 2 []=a2 at e ⊢
  generalize w.getD 3 []=a3 at e ⊢
  generalize w.getD 4 []=a4 at e ⊢
  generalize w.getD 6 []=a6 at e ⊢
  rw [e]
  simp [qht]
theorem jvc (m:Md):∀ (n:Nat) (s:List UInt8) (es0 es:List Ev),s.length≤n→goL m (spL 10 s) es0=some es→
  ∃ r,es=es0++r∧qbk m es es.length=qbk m es es0.length++s∧es.length≤es0.length+s.length∧∀ e∈r,EvOk m e:=by
 intro n
 induction n with
 | zero=>
  intro s es0 es hn h
  obtain rfl:s=[]:=List.length_eq_zero_iff.1 (by omega)
  rw [qwj] at h
  cases h
  exact ⟨[],by simp,by simp,by simp,fun e he=>absurd he List.not_mem_nil⟩
 | succ n ih=>
  intro s es0 es hn h
  rcases jfu 10 s with hnl|⟨a,b,rfl,hnl⟩
  ·by_cases h0:s=[]
   ·subst h0
    rw [qwj] at h
    cases h
    exact ⟨[],by simp,by simp,by simp,fun e he=>absurd he List.not_mem_nil⟩
   ·rw [qwk m es0 hnl h0] at h;cases h
  ·rw [qwl m b es0 hnl] at h
   by_cases hev:EvIs m (spL 32 a) es0
   ·rw [show evF m (spL 32 a) es0=some (evT m (spL 32 a)) from if_pos hev] at h
    have h:goL m (spL 10 b) (es0++[evT m (spL 32 a)])=some es:=h
    obtain ⟨r,h1,h2,h3,h4⟩:=ih b _ es (by simp at hn;omega) h
    refine ⟨evT m (spL 32 a)::r,by rw [h1];simp,?_,by simp at h3 ⊢;omega,fun e he=>?_⟩
    ·rw [h2,List.length_append,List.length_singleton,qjw]
     have hg:es.getD es0.length {}=evT m (spL 32 a):=by
      rw [h1,List.getD_eq_getElem?_getD];simp
     rw [hg,jvb hev,jgh]
     simp
    ·rcases List.mem_cons.1 he with rfl|he
     ·exact jva hev
     ·exact h4 e he
   ·rw [show evF m (spL 32 a) es0=none from if_neg hev] at h
    cases h
theorem jvd {m:Md} {s:List UInt8} {es:List Ev} (h:qir m s=some es):qnx m es=s∧es.length≤s.length∧∀ e∈es,EvOk m e:=by
 obtain ⟨r,h1,h2,h3,h4⟩:=jvc m s.length s [] es (Nat.le_refl _) h
 rw [List.nil_append] at h1
 subst h1
 refine ⟨?_,by simpa using h3,h4⟩
 unfold qnx
 rw [h2]
 rfl
end Go.Proofs.YtcfllgdfhfcicaaGreatDoor
end
