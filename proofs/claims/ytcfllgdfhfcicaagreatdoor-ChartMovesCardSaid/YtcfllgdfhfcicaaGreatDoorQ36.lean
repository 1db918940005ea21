/- Some texts of the library, one behind the other. -/
import Derived.Test.YtcfllgdfhfcicaaGreatDoorQ24
import Derived.Test.YtcfllgdfhfcicaaGreatDoorQ26
import Derived.Test.YtcfllgdfhfcicaaGreatDoorQ35
import Derived.Lib.ItoaLen
import Derived.Lib.Join
import Derived.Test.YtcfllgdfhfcicaaGreatDoorQ3
import Derived.Test.YtcfllgdfhfcicaaGreatDoorQ2
import Derived.Lib.ItoaNum
import Derived.Test.YtcfllgdfhfcicaaGreatDoorChecked
import Derived.Shelf.Strings.Builder1
import Derived.Shelf.Strings.Builder2
import Derived.Shelf.Strings.OnBuilder
import Derived.Shelf.Strings.BuilderF
import Derived.Shelf.Utf8.RuneCount
import Derived.Shelf.Strconv.Itoa0
import Derived.Shelf.Strconv.Itoa1
import Derived.Shelf.LaysM
import Derived.Shelf.Strconv.Itoa2
import Derived.Shelf.Strconv.Itoa3
import Derived.Shelf.Strings.Search1
import Derived.Shelf.Strings.Search2
import Derived.Shelf.Strings.Search3
import Derived.Shelf.Strings.Cut
import Derived.Shelf.Strings.Count
import Derived.Shelf.Strings.Shaped
import Derived.Shelf.Strings.Prefix
import Derived.Shelf.Strings.Split
import Derived.Shelf.Strings.SplitShaped
import Derived.Shelf.Unicode.Decode
import Derived.Shelf.Strings.RuneCount
import Derived.Shelf.Strings.Explode
import Derived.Shelf.Unicode.DecodeSlow
import Derived.Shelf.Unicode.DecodeAny
import Derived.Lib.AppendIntMem
section
namespace Go.Proofs.YtcfllgdfhfcicaaGreatDoor
open List renaming getD_eq_getElem?_getD → zd
open Go Go.Sx Go.RowKit Go.St
set_option maxRecDepth 100000
structure NmOk (m:Md):Prop where
 chan:∀ c∈m.chans,c.name.length≤12
 proc:∀ q∈m.procs,q.name.length≤12∧0≤q.copy∧q.copy≤1000000
def NC (p q:Pr):Prop:=q.name=p.name∧q.copy=p.copy
theorem NC.refl (p:Pr):NC p p:=⟨rfl,rfl⟩
theorem NC.trans {p q r:Pr} (h:NC p q) (k:NC q r):NC p r:=⟨k.1.trans h.1,k.2.trans h.2⟩
theorem qwr (st:Pr→Int→Int→Int→Pr) (node:Int) (h:∀ p k a b,NC p (st p k a b)):∀ (l:List Int) (p:Pr) (a b:Int),NC p (qat st node p l a b)
 | [],p,a,b=>⟨rfl,rfl⟩
 | [k],p,a,b=>h p k a b
 | k::k'::r,p,a,b=>by
  have h1:NC p (qf p):=⟨rfl,rfl⟩
  exact (h1.trans (h _ k a p.places)).trans (qwr st node h (k'::r) _ _ _)
theorem jff {α:Type} (f:Pr→α→Pr) (h:∀ p x,NC p (f p x)):∀ (l:List α) (p:Pr),NC p (l.foldl f p)
 | [],p=>NC.refl p
 | x::l,p=>by rw [List.foldl_cons];exact (h p x).trans (jff f h l _)
theorem qep (p:Pr) (a b c d e f g:Int):NC p (putF p a b c d e f g):=⟨rfl,rfl⟩
theorem qox (p:Pr):NC p (qf p):=⟨rfl,rfl⟩
theorem qws (p:Pr) (a b:Int):NC p (jt p a b):=⟨rfl,rfl⟩
theorem jfg (l:List Nd) (cs:List Ch):∀ (f:Nat) (p:Pr) (a b c:Int),NC p (qc l cs f p a b c)
 | 0,p,a,b,c=>NC.refl p
 | f+1,p,a,b,c=>by
  have hb:∀ (p:Pr) (k x y:Int),NC p (qat (qc l cs f) k p (l.getD k.toNat nd0).kids x y):=fun p k x y=>qwr _ _ (jfg l cs f) _ _ _ _
  unfold qc
  simp only
  split
  ·exact qep ..
  split
  ·exact qep ..
  split
  ·exact (qws p _ _).trans (qep ..)
  split
  ·exact (qws p _ _).trans (qep ..)
  split
  ·refine (qws p _ _).trans (jff _ (fun q k=>?_) _ _)
   unfold qgu
   split
   ·exact ((qox q).trans (qep ..)).trans (hb _ _ _ _)
   ·exact hb _ _ _ _
  split
  ·split
   ·exact (((qox p).trans (qep ..)).trans (hb _ _ _ _)).trans (qep ..)
   ·exact ((((qox p).trans (qep ..)).trans (hb _ _ _ _)).trans ((qox _).trans (qep ..))).trans (hb _ _ _ _)
  split
  ·exact (((qox p).trans (qep ..)).trans (qep ..)).trans (hb _ _ _ _)
  split
  ·exact (hb p _ _ _).trans ⟨rfl,rfl⟩
  split
  ·exact qep ..
  ·exact qep ..
theorem jfh (l:List Nd):∀ (ks:List Int) (x:Pr × List Vr),NC x.1 (ks.foldl (qcu l) x).1
 | [],x=>NC.refl _
 | k::ks,x=>by rw [List.foldl_cons];exact NC.trans (q:=(qcu l x k).1) ⟨rfl,rfl⟩ (jfh l ks _)
theorem jfi (l:List Nd) (cs:List Ch) (k:Int) (seen:Nat):∀ (n:Nat) (x:List Vr × List Pr),∀ q∈((List.range n).foldl (qch l cs k seen) x).2,q∈x.2∨(q.name=(l.getD k.toNat nd0).words.getD 0 []∧0≤q.copy∧q.copy<n)
 | 0,x,q,hq=>.inl hq
 | n+1,x,q,hq=>by
  rw [List.range_succ,List.foldl_append,List.foldl_cons,List.foldl_nil] at hq
  have ih:=jfi l cs k seen n x q
  generalize (List.range n).foldl (qch l cs k seen) x=y at hq ih
  unfold qch at hq
  simp only [List.mem_append,List.mem_singleton] at hq
  rcases hq with hq|rfl
  ·rcases ih hq with h|h
   ·exact .inl h
   ·exact .inr ⟨h.1,h.2.1,by omega⟩
  ·right
   have h1:=qwr (qc l cs 20) k (jfg l cs 20) ((l.getD k.toNat nd0).kids.drop (varsN l (l.getD k.toNat nd0))) (((l.getD k.toNat nd0).kids.take (varsN l (l.getD k.toNat nd0))).foldl (qcu l) (qhw l y.1 seen k n,y.1)).1 0 1
   have h2:=jfh l ((l.getD k.toNat nd0).kids.take (varsN l (l.getD k.toNat nd0))) (qhw l y.1 seen k n,y.1)
   have h3:=h2.trans h1
   refine ⟨h3.1,?_,?_⟩
   ·rw [h3.2];exact Int.natCast_nonneg n
   ·rw [h3.2];show (n:Int)<((n+1:Nat):Int);omega
theorem jtm {s:List UInt8} (h:nameF s=true):s.length≤12:=by
 unfold nameF at h
 simp only [Bool.and_eq_true,Bool.not_eq_true',Bool.or_eq_false_iff,decide_eq_false_iff_not] at h
 omega
theorem jfj {l:List Nd} (h:Go.St.rightB l=true) {k:Int} (hk:qn l k=1∨qn l k=3):((l.getD k.toNat nd0).words.getD 0 []).length≤12∧(qn l k=3→(l.getD k.toNat nd0).nums.getD 0 0≤999999):=by
 have ht:=jck h
 have hkl:k.toNat<l.length:=by
  rcases Nat.lt_or_ge k.toNat l.length with h|h
  ·exact h
  ·unfold qn at hk
   rw [zd,List.getElem?_eq_none h] at hk
   rcases hk with hk|hk <;> exact absurd hk (by decide)
 have hn:=ht.node k.toNat hkl
 unfold qn at hk ⊢
 generalize l.getD k.toNat nd0=n at hn hk ⊢
 have key:wordsB n 1=true→(n.words.getD 0 []).length≤12:=fun hw=>by
  unfold wordsB at hw
  rw [Bool.and_eq_true,List.all_eq_true,beq_iff_eq] at hw
  exact jtm (hw.1 _ (qh n.words 0 [] (by omega)))
 rcases hk with hk|hk
 ·unfold nodeB at hn
  rw [if_neg (by omega),if_pos hk] at hn
  simp only [Bool.and_eq_true] at hn
  exact ⟨key hn.1.1.1.1,fun h=>by omega⟩
 ·unfold nodeB at hn
  rw [if_neg (by omega),if_neg (by omega),if_neg (by omega),if_pos hk] at hn
  simp only [Bool.and_eq_true] at hn
  refine ⟨key hn.1.1,fun _=>?_⟩
  have h2:=hn.1.2
  unfold numsB at h2
  rw [Bool.and_eq_true,List.all_eq_true,beq_iff_eq] at h2
  have:=h2.1 _ (qh n.nums 0 0 (by omega))
  rw [Bool.and_eq_true,decide_eq_true_eq,decide_eq_true_eq] at this
  exact this.2
theorem jfk {l:List Nd} (h:Go.St.rightB l=true) (cs:List Ch):∀ (ks:List Int) (x:Nat × List Vr × List Pr),(∀ q∈x.2.2,q.name.length≤12∧0≤q.copy∧q.copy≤1000000)→∀ q∈(ks.foldl (qcb l cs) x).2.2,q.name.length≤12∧0≤q.copy∧q.copy≤1000000
 | [],x,hx=>hx
 | k::ks,x,hx=>by
  rw [List.foldl_cons]
  refine jfk h cs ks _ ?_
  unfold qcb
  simp only
  split
  ·rename_i hk
   intro q hq
   have hn:=jfj h (k:=k) (.inr hk)
   rcases jfi l cs k _ _ _ q hq with hq|⟨h1,h2,h3⟩
   ·exact hx q hq
   ·have:=hn.2 hk
    exact ⟨by rw [h1];exact hn.1,h2,by omega⟩
  ·exact hx
theorem jfl {l:List Nd} (h:Go.St.rightB l=true):∀ (ks:List Int) (m:Md),(∀ c∈m.chans,c.name.length≤12)→∀ c∈(ks.foldl (qfd l) m).chans,c.name.length≤12
 | [],m,hm=>hm
 | k::ks,m,hm=>by
  rw [List.foldl_cons]
  refine jfl h ks _ ?_
  unfold qfd
  simp only
  split
  ·rename_i hk
   intro c hc
   simp only [List.mem_append,List.mem_singleton] at hc
   rcases hc with hc|rfl
   ·exact hm c hc
   ·exact (jfj h (k:=k) (.inl hk)).1
  split
  ·exact hm
  split
  ·exact hm
  split
  ·exact hm
  ·exact hm
theorem jfm {l:List Nd} (h:Go.St.rightB l=true):NmOk (qen l) where
 chan:=by
  show ∀ c∈(qci l).chans,_
  exact jfl h _ _ (fun c hc=>by simp at hc)
 proc:=jfk h _ _ _ (fun q hq=>by simp at hq)
structure EvOk (m:Md) (e:Ev):Prop where
 kind:0≤e.kind∧e.kind≤3
 chn:0≤e.ch∧e.ch<m.chans.length
 prc:-1≤e.prc∧e.prc<m.procs.length
 msg:-32768≤e.msg∧e.msg≤32768
 frm:-1≤e.frm∧e.frm≤1000000
theorem qrv {m:Md} {s:Stt} (h:ql m s=true) (c k:Nat):-32768≤(s.chans.getD c []).getD k 0∧(s.chans.getD c []).getD k 0≤32768:=by
 have hf:=(jh m s).1 h
 by_cases hc:c<s.chans.length
 ·by_cases hk:k<(s.chans.getD c []).length
  ·have:=(hf.2.2.2 c hc).2 k hk
   unfold qjz at this
   have ht:=qqu ((s.chans.getD c []).getD k 0) (m.chans.getD c ch0).width
   rw [this] at ht
   omega
  ·rw [zd (i:=k),List.getElem?_eq_none (by omega)]
   decide
 ·rw [zd (i:=c),List.getElem?_eq_none (by omega)]
  simp
theorem jtn (E:List Ev) (c:Int) (hE:E.length≤1000000):-1≤qab E c∧qab E c≤1000000:=by
 unfold qab
 split
 ·rename_i j hj
  have h1:=List.mem_of_getElem? hj
  unfold qaa at h1
  have:=List.mem_range.1 (List.mem_filter.1 h1).1
  omega
 ·omega
theorem jfn {m:Md} (hM:ModOk m) (h0:ql m (qz m)=true) {l:List Mv} (hl:l.length≤1000000):∀ (i:Nat),i≤l.length→(∀ j,j<i→okN m l j=true)→∀ e∈evN m l i,EvOk m e
 | 0,_,_,e,he=>by simp [evN] at he
 | i+1,hi,h,e,he=>by
  unfold evN at he
  rw [List.mem_append] at he
  rcases he with he|he
  ·exact jfn hM h0 hl i (by omega) (fun j hj=>h j (by omega)) e he
  ·have hok:ji m (stN m l i) (l.getD i {})=true:=h i (by omega)
   have hfi:=qjb hM h0 (l:=l) (i:=i) (fun j hj=>h j (by omega))
   have hfn:=qjb hM h0 (l:=l) (i:=i+1) (fun j hj=>h j (by omega))
   have hE:=qoo m l i
   have hfr:=fun c=>jtn (evN m l i) c (by omega)
   generalize evN m l i=E at he hfr hE
   have hv:=jfe hok
   generalize stN m l i=s at he hfi hv hok
   generalize stN m l (i+1)=t at he hfn
   generalize l.getD i {}=v at he hv hok
   unfold evOf at he
   split at he
   ·rename_i hk
    simp only [Option.toList_some,List.mem_singleton] at he
    subst he
    rcases hv with ⟨_,hc,_⟩|⟨hk',_⟩|⟨hk',_⟩
    ·exact ⟨by dsimp only;omega,hc,⟨by dsimp only;omega,by dsimp only;omega⟩,qrv hfi _ _,hfr _⟩
    ·omega
    ·omega
   split at he
   ·rename_i hk
    simp only [Option.toList_some,List.mem_singleton] at he
    subst he
    rcases hv with ⟨hk',_⟩|⟨_,hc,_⟩|⟨hk',_⟩
    ·omega
    ·exact ⟨by dsimp only;omega,hc,⟨by dsimp only;omega,by dsimp only;omega⟩,qrv hfi _ _,hfr _⟩
    ·omega
   rename_i hk1 hk2
   rcases hv with ⟨hk',_⟩|⟨hk',_⟩|⟨_,hP,hE',_⟩
   ·exact absurd hk' hk1
   ·exact absurd hk' hk2
   have hpr:=hM.pr _ (qh m.procs v.proc.toNat pr0 (by omega))
   have hed:=hpr.ed _ (qh (m.procs.getD v.proc.toNat pr0).edges v.edge.toNat ed0 (by omega))
   have hed:EdOk m.tree.length m.vars.length m.chans.length (m.procs.getD v.proc.toNat pr0).places (edOf m v):=hed
   split at he
   ·rename_i ha
    simp only [Option.toList_some,List.mem_singleton] at he
    subst he
    exact ⟨by dsimp only;omega,hed.chn (.inl ha),⟨by show (-1:Int)≤v.proc;omega,hP.2⟩,qrv hfn _ _,by dsimp only;omega⟩
   split at he
   ·rename_i ha
    simp only [Option.toList_some,List.mem_singleton] at he
    subst he
    exact ⟨by dsimp only;omega,hed.chn (.inr ha),⟨by show (-1:Int)≤v.proc;omega,hP.2⟩,qrv hfi _ _,hfr _⟩
   ·simp at he
theorem jfo {m:Md} (hM:ModOk m) (h0:ql m (qz m)=true) {l:List Mv} (hl:l.length≤1000000):(∀ e∈qbq m l,EvOk m e)∧(qbq m l).length≤l.length:=by
 have h:=jeb m l
 exact ⟨jfn hM h0 hl _ h.1 h.2.1,Nat.le_trans (qoo m l _) h.1⟩
def whoT (m:Md) (p:Int):List UInt8:=if 0≤p∧p<m.procs.length then (m.procs.getD p.toNat pr0).name++[46]++Lib.itoa (m.procs.getD p.toNat pr0).copy else [45]
def qjd (k:Int):List UInt8:=if k=0 then [115,101,110,100] else if k=1 then [114,101,99,118] else if k=2 then [108,111,115,101] else if k=3 then [99,111,112,121] else [63]
def qbl (m:Md) (i:Nat) (e:Ev):List UInt8:=
 Lib.itoa i++[32]++whoT m e.prc++[32]++qjd e.kind++[32]++(m.chans.getD e.ch.toNat ch0).name++[32]++Lib.itoa e.msg++(if e.kind=0 then [] else [32,111,102,32]++Lib.itoa e.frm)++[10]
def qbv (m:Md) (E:List Ev) (i:Nat):List UInt8:=(List.range i).flatMap fun j=>qbl m j (E.getD j {})
def qlz (m:Md) (E:List Ev):List UInt8:=qbv m E E.length
theorem qma (m:Md) (E:List Ev) (i:Nat):qbv m E (i+1)=qbv m E i++qbl m i (E.getD i {}):=by
 unfold qbv
 rw [List.range_succ,List.flatMap_append]
 simp
theorem jfp {m:Md} (h:NmOk m) (p:Int):(whoT m p).length≤34:=by
 unfold whoT
 split
 ·rename_i hp
  have hq:=h.proc _ (qh m.procs p.toNat pr0 (by omega))
  have:=Lib.itoa_length_le (m.procs.getD p.toNat pr0).copy (by omega) (by omega)
  simp only [List.length_append,List.length_singleton]
  omega
 ·decide
theorem jfq (k:Int):(qjd k).length≤4:=by
 unfold qjd
 repeat' split
 all_goals decide
theorem qrw {m:Md} (h:NmOk m) {e:Ev} (he:EvOk m e) (i:Nat) (hi:i≤1000000):(qbl m i e).length≤130:=by
 have h1:=Lib.itoa_length_le (i:Int) (by omega) (by omega)
 have h2:=jfp h e.prc
 have h3:=jfq e.kind
 have h4:=h.chan _ (qh m.chans e.ch.toNat ch0 (by have:=he.chn;omega))
 have h5:=Lib.itoa_length_le e.msg (by have:=he.msg;omega) (by have:=he.msg;omega)
 have h6:=Lib.itoa_length_le e.frm (by have:=he.frm;omega) (by have:=he.frm;omega)
 unfold qbl
 split
 ·simp only [List.length_append,List.length_cons,List.length_nil];omega
 ·simp only [List.length_append,List.length_cons,List.length_nil];omega
theorem qrx {m:Md} (h:NmOk m) {E:List Ev} (hE:∀ e∈E,EvOk m e) (hl:E.length≤1000000):∀ i,i≤E.length→(qbv m E i).length≤130 * i
 | 0,_=>by simp [qbv]
 | i+1,hi=>by
  have h1:=qrx h hE hl i (by omega)
  have h2:=qrw h (hE _ (qh E i {} (by omega))) i (by omega)
  rw [qma,List.length_append]
  omega
end Go.Proofs.YtcfllgdfhfcicaaGreatDoor
end
section
namespace Go.Proofs.YtcfllgdfhfcicaaGreatDoor
open Go Go.Sx Go.RowKit
set_option maxRecDepth 100000
set_option maxHeartbeats 4000000
theorem jto {n:Int} (h0:0≤n) (h1:n<10):Lib.itoa n=[UInt8.ofNat (48+n.toNat)]:=by
 unfold Lib.itoa
 rw [if_neg (by omega),Lib.decDigits,dif_pos (by omega)]
theorem jtp {n:Int} (h:10≤n):Lib.itoa n=Lib.itoa (n / 10)++Lib.itoa (n % 10):=by
 unfold Lib.itoa
 rw [if_neg (by omega),if_neg (by omega),if_neg (by omega),Lib.decDigits,dif_neg (by omega),show n.toNat / 10=(n / 10).toNat by omega]
 congr 1
 rw [Lib.decDigits,dif_pos (by omega)]
 congr 2
 omega
theorem jtq {n:Int} (h:n<0):Lib.itoa n=45::Lib.itoa (-n):=by
 unfold Lib.itoa
 rw [if_pos h,if_neg (by omega)]
 congr 2
 omega
theorem jfr:∀ (k:Nat) (n:Int),0≤n→n≤9223372036854775807→n.toNat≤k→Con Tryz.prog 53 [iv n] (.str (Lib.itoa n)):=by
 intro k
 induction k using Nat.strongRecOn with
 | _ k ih=>
  intro n h0 h1 hk
  refine zK {} 300 Tryz.func53 (fun c0 rdb=>?_)
  have hd:n.tdiv 10=n / 10:=Int.tdiv_eq_ediv_of_nonneg h0
  have hm:n.tmod 10=n % 10:=Int.tmod_eq_emod_of_nonneg h0
  (repeat' ((conv=>whnf);first|refine Ob.auto ?_|(apply zB <;> intro hb <;> (try simp [-List.getD_eq_getElem?_getD] at hb) <;> try (exfalso;omega))|refine Ob.intro ?_ ?_|fail))
  ·exact ⟨show (0:Int)≤48+n by omega,show 48+n≤(255:Int) by omega⟩
  ·refine fun i hi=>⟨UInt8.ofNat (48+n.toNat),?_⟩
   obtain rfl:i=0:=by omega
   show [AV.int IntKind.u8 (48+n)]=[AV.int IntKind.u8 _]
   rw [UInt8.toNat_ofNat']
   congr 2
   omega
  ·rw [jto h0 hb]
   refine Le.of_eq (congrArg AV.str ?_)
   show [(48+n).toNat.toUInt8]=[UInt8.ofNat (48+n.toNat)]
   rw [show (48+n).toNat=48+n.toNat by omega]
  ·exact ⟨by decide,by rw [hd];exact ⟨show (-9223372036854775808:Int)≤_ by omega,show _≤(9223372036854775807:Int) by omega⟩⟩
  ·have c1:=ih (k - 1) (by omega) (n / 10) (by omega) (by omega) (by omega)
   have c2:=ih (k - 1) (by omega) (n % 10) (by omega) (by omega) (by omega)
   have l1:=Lib.itoa_length_le (n / 10) (by omega) (by omega)
   have l2:=Lib.itoa_length_le (n % 10) (by omega) (by omega)
   rw [← hd] at c1 l1
   rw [← hm] at c2 l2
   (repeat' ((conv=>whnf);first|refine Ob.auto ?_|refine zC 300 (c1) ?_|refine zC 300 (c2) ?_|fail))
   rw [hd,hm,← jtp hb]
   exact Le.refl _
theorem jtr (n:Int) (h0:-9223372036854775807≤n) (h1:n≤9223372036854775807):Con Tryz.prog 53 [iv n] (.str (Lib.itoa n)):=by
 by_cases h:0≤n
 ·exact jfr n.toNat n h h1 (Nat.le_refl _)
 ·have c:=jfr (-n).toNat (-n) (by omega) (by omega) (Nat.le_refl _)
  have l1:=Lib.itoa_length_le (-n) (by omega) (by omega)
  rw [← Int.zero_sub] at c l1
  refine zK {} 300 Tryz.func53 (fun c0 rdb=>?_)
  (repeat' ((conv=>whnf);first|refine Ob.auto ?_|refine zC 300 (c) ?_|(apply zB <;> intro hb <;> (try simp [-List.getD_eq_getElem?_getD] at hb) <;> try (exfalso;omega))|refine Ob.intro ?_ ?_|fail))
  ·show 1 + _≤_
   omega
  ·have e:Lib.itoa n=[45]++Lib.itoa (0 - n):=by rw [jtq (by omega),Int.zero_sub];rfl
   rw [e]
   exact Le.refl _
end Go.Proofs.YtcfllgdfhfcicaaGreatDoor
end
section
namespace Go.Proofs
open Go.Shelf
def Tryz.lays169_ren:Go.Shelf.Ren:=⟨fun|169=>28|n=>n,fun|70=>56|9=>9|0=>0|72=>59|37=>57|127=>117|3=>3|5=>5|n=>n,fun|n=>n⟩
theorem Tryz.lays169:Go.Proofs.Lays.n169 Tryz.prog Tryz.lays169_ren:={
 mixed:=by kernel_rfl
 f169:=Tryz.func28.trans (congrArg some (by kernel_rfl))
 t0:=Tryz.underlying0
 a0:=Tryz.isAgg0
 z0:=Tryz.sizeOf0
 v0:=Tryz.zeroValue0
 t3:=Tryz.underlying3
 a3:=Tryz.isAgg3
 z3:=Tryz.sizeOf3
 v3:=Tryz.zeroValue3
 t9:=Tryz.underlying9
 a9:=Tryz.isAgg9
 z9:=Tryz.sizeOf9
 v9:=Tryz.zeroValue9
 t37:=Tryz.underlying57
 a37:=Tryz.isAgg57
 z37:=Tryz.sizeOf57
 v37:=Tryz.zeroValue57
 t70:=Tryz.underlying56
 a70:=Tryz.isAgg56
 z70:=Tryz.sizeOf56
 v70:=Tryz.zeroValue56
 t72:=Tryz.underlying59
 a72:=Tryz.isAgg59
 z72:=Tryz.sizeOf59
 v72:=Tryz.zeroValue59
 t127:=Tryz.underlying117
 a127:=Tryz.isAgg117
 z127:=Tryz.sizeOf117
 v127:=Tryz.zeroValue117 }
theorem Tryz.Builder_Extra_169:Builder.Extra Tryz.prog Tryz.lays169_ren:={
 sizeBuilder:=by kernel_rfl
 liesBuilder:=by kernel_rfl
 t5:=Tryz.underlying5
 a5:=Tryz.isAgg5
 z5:=Tryz.sizeOf5
 v5:=Tryz.zeroValue5
 infoByte:=by kernel_rfl
 cellsByte:=by kernel_rfl
 sizeByte:=by kernel_rfl
 neB5:=by decide }
def Tryz.lays156_ren:Go.Shelf.Ren:=⟨fun|156=>27|165=>52|166=>26|169=>28|240=>51|241=>93|276=>92|277=>125|n=>n,fun|31=>63|9=>9|3=>3|4=>4|0=>0|20=>20|72=>59|76=>66|70=>56|37=>57|75=>65|127=>117|164=>150|5=>5|80=>69|n=>n,fun|n=>n⟩
theorem Tryz.lays156:Go.Proofs.Lays.n156 Tryz.prog Tryz.lays156_ren:={
 mixed:=by kernel_rfl
 f156:=Tryz.func27.trans (congrArg some (by kernel_rfl))
 f165:=Tryz.func52.trans (congrArg some (by kernel_rfl))
 f166:=Tryz.func26.trans (congrArg some (by kernel_rfl))
 f169:=Tryz.func28.trans (congrArg some (by kernel_rfl))
 f240:=Tryz.func51.trans (congrArg some (by kernel_rfl))
 f241:=Tryz.func93.trans (congrArg some (by kernel_rfl))
 f276:=Tryz.func92.trans (congrArg some (by kernel_rfl))
 f277:=Tryz.func125.trans (congrArg some (by kernel_rfl))
 t0:=Tryz.underlying0
 a0:=Tryz.isAgg0
 z0:=Tryz.sizeOf0
 v0:=Tryz.zeroValue0
 t3:=Tryz.underlying3
 a3:=Tryz.isAgg3
 z3:=Tryz.sizeOf3
 v3:=Tryz.zeroValue3
 t4:=Tryz.underlying4
 a4:=Tryz.isAgg4
 z4:=Tryz.sizeOf4
 v4:=Tryz.zeroValue4
 t9:=Tryz.underlying9
 a9:=Tryz.isAgg9
 z9:=Tryz.sizeOf9
 v9:=Tryz.zeroValue9
 t20:=Tryz.underlying20
 a20:=Tryz.isAgg20
 z20:=Tryz.sizeOf20
 v20:=Tryz.zeroValue20
 t31:=Tryz.underlying63
 a31:=Tryz.isAgg63
 z31:=Tryz.sizeOf63
 v31:=Tryz.zeroValue63
 t37:=Tryz.underlying57
 a37:=Tryz.isAgg57
 z37:=Tryz.sizeOf57
 v37:=Tryz.zeroValue57
 t70:=Tryz.underlying56
 a70:=Tryz.isAgg56
 z70:=Tryz.sizeOf56
 v70:=Tryz.zeroValue56
 t72:=Tryz.underlying59
 a72:=Tryz.isAgg59
 z72:=Tryz.sizeOf59
 v72:=Tryz.zeroValue59
 t75:=Tryz.underlying65
 a75:=Tryz.isAgg65
 z75:=Tryz.sizeOf65
 v75:=Tryz.zeroValue65
 t76:=Tryz.underlying66
 a76:=Tryz.isAgg66
 z76:=Tryz.sizeOf66
 v76:=Tryz.zeroValue66
 t127:=Tryz.underlying117
 a127:=Tryz.isAgg117
 z127:=Tryz.sizeOf117
 v127:=Tryz.zeroValue117
 t164:=Tryz.underlying150
 a164:=Tryz.isAgg150
 z164:=Tryz.sizeOf150
 v164:=Tryz.zeroValue150 }
theorem Tryz.Builder_Extra_156:Builder.Extra Tryz.prog Tryz.lays156_ren:={
 sizeBuilder:=by kernel_rfl
 liesBuilder:=by kernel_rfl
 t5:=Tryz.underlying5
 a5:=Tryz.isAgg5
 z5:=Tryz.sizeOf5
 v5:=Tryz.zeroValue5
 infoByte:=by kernel_rfl
 cellsByte:=by kernel_rfl
 sizeByte:=by kernel_rfl
 neB5:=by decide }
def Tryz.laysM171_ren:Go.Shelf.Ren:=⟨fun|171=>24|243=>50|246=>91|283=>121|284=>122|285=>123|286=>124|129=>154|317=>153|318=>155|319=>156|320=>157|337=>172|338=>173|n=>n,fun|3=>3|9=>9|2=>2|4=>4|171=>172|0=>0|53=>173|37=>57|5=>5|173=>176|212=>195|51=>196|20=>20|213=>197|46=>181|232=>215|233=>216|n=>n,fun|17=>1|18=>2|19=>3|n=>n⟩
theorem Tryz.laysM171:Go.Proofs.LaysM.n171 Tryz.prog Tryz.laysM171_ren:={
 mixed:=by kernel_rfl
 f129:=Tryz.func154.trans (congrArg some (by kernel_rfl))
 f171:=Tryz.func24.trans (congrArg some (by kernel_rfl))
 f243:=Tryz.func50.trans (congrArg some (by kernel_rfl))
 f246:=Tryz.func91.trans (congrArg some (by kernel_rfl))
 f283:=Tryz.func121.trans (congrArg some (by kernel_rfl))
 f284:=Tryz.func122.trans (congrArg some (by kernel_rfl))
 f285:=Tryz.func123.trans (congrArg some (by kernel_rfl))
 f286:=Tryz.func124.trans (congrArg some (by kernel_rfl))
 f317:=Tryz.func153.trans (congrArg some (by kernel_rfl))
 f318:=Tryz.func155.trans (congrArg some (by kernel_rfl))
 f319:=Tryz.func156.trans (congrArg some (by kernel_rfl))
 f320:=Tryz.func157.trans (congrArg some (by kernel_rfl))
 f337:=Tryz.func172.trans (congrArg some (by kernel_rfl))
 f338:=Tryz.func173.trans (congrArg some (by kernel_rfl))
 t0:=Tryz.underlying0
 a0:=Tryz.isAgg0
 z0:=Tryz.sizeOf0
 v0:=Tryz.zeroValue0
 t2:=Tryz.underlying2
 a2:=Tryz.isAgg2
 z2:=Tryz.sizeOf2
 v2:=Tryz.zeroValue2
 t3:=Tryz.underlying3
 a3:=Tryz.isAgg3
 z3:=Tryz.sizeOf3
 v3:=Tryz.zeroValue3
 t4:=Tryz.underlying4
 a4:=Tryz.isAgg4
 z4:=Tryz.sizeOf4
 v4:=Tryz.zeroValue4
 t5:=Tryz.underlying5
 a5:=Tryz.isAgg5
 z5:=Tryz.sizeOf5
 v5:=Tryz.zeroValue5
 t9:=Tryz.underlying9
 a9:=Tryz.isAgg9
 z9:=Tryz.sizeOf9
 v9:=Tryz.zeroValue9
 t20:=Tryz.underlying20
 a20:=Tryz.isAgg20
 z20:=Tryz.sizeOf20
 v20:=Tryz.zeroValue20
 t37:=Tryz.underlying57
 a37:=Tryz.isAgg57
 z37:=Tryz.sizeOf57
 v37:=Tryz.zeroValue57
 t46:=Tryz.underlying181
 a46:=Tryz.isAgg181
 z46:=Tryz.sizeOf181
 v46:=Tryz.zeroValue181
 t51:=Tryz.underlying196
 a51:=Tryz.isAgg196
 z51:=Tryz.sizeOf196
 v51:=Tryz.zeroValue196
 t53:=Tryz.underlying173
 a53:=Tryz.isAgg173
 z53:=Tryz.sizeOf173
 v53:=Tryz.zeroValue173
 t171:=Tryz.underlying172
 a171:=Tryz.isAgg172
 z171:=Tryz.sizeOf172
 v171:=Tryz.zeroValue172
 t173:=Tryz.underlying176
 a173:=Tryz.isAgg176
 z173:=Tryz.sizeOf176
 v173:=Tryz.zeroValue176
 t212:=Tryz.underlying195
 a212:=Tryz.isAgg195
 z212:=Tryz.sizeOf195
 v212:=Tryz.zeroValue195
 t213:=Tryz.underlying197
 a213:=Tryz.isAgg197
 z213:=Tryz.sizeOf197
 t232:=Tryz.underlying215
 a232:=Tryz.isAgg215
 z232:=Tryz.sizeOf215
 v232:=Tryz.zeroValue215
 t233:=Tryz.underlying216
 a233:=Tryz.isAgg216
 z233:=Tryz.sizeOf216
 v233:=Tryz.zeroValue216
 g17:=by kernel_rfl
 g18:=by kernel_rfl
 g19:=by kernel_rfl
 i0:=by kernel_rfl
 i2:=by kernel_rfl
 i3:=by kernel_rfl
 i4:=by kernel_rfl
 i5:=by kernel_rfl
 i9:=by kernel_rfl
 i20:=by kernel_rfl
 i37:=by kernel_rfl
 i46:=by kernel_rfl
 i51:=by kernel_rfl
 i53:=by kernel_rfl
 i171:=by kernel_rfl
 i173:=by kernel_rfl
 i212:=by kernel_rfl
 i232:=by kernel_rfl
 i233:=by kernel_rfl
 m17:=by kernel_rfl
 m18:=by kernel_rfl
 m19:=by kernel_rfl }
end Go.Proofs
end
section
namespace Go.Proofs.YtcfllgdfhfcicaaGreatDoor
open Go Go.Sx Go.RowKit Go.Sort
set_option maxRecDepth 100000
theorem qkp (n:Int) (h0:-9223372036854775808≤n) (h1:n≤9223372036854775807):Con Tryz.prog 24 [iv n] (.str (Lib.itoa n)):=by
 refine jfv Tryz.func24 rfl (by kernel_rfl) [iv n] _ fun rd w vs hm ha=>?_
 obtain ⟨a,rfl,h⟩:=jfs ha
 obtain rfl:=jfu h
 refine (Any.strconv_Itoa Tryz.laysM171 n h0 h1 w (jtt (g:=1) (by kernel_rfl) (hm.tabs (_,_) (by unfold tbs;exact List.mem_singleton.2 rfl)))).mono fun x w' ⟨he,k,os,hw⟩=>⟨_,he,.str _ _,?_⟩
 subst hw
 exact Lib.below_grow w.heap.size w (Nat.le_refl _) k os
end Go.Proofs.YtcfllgdfhfcicaaGreatDoor
end
