/- Some texts of the library, one behind the other. -/
import Derived.Test.YthfaleaojlnnoaaY236
import Derived.Test.YthfaleaojlnnoaaY22
set_option linter.unusedSimpArgs false
set_option linter.unusedVariables false
section
namespace Go.Proofs.Ythfaleaojlnnoaa
open List renaming getD_eq_getElem?_getD → zd
namespace Pa
open List renaming getD_eq_getElem?_getD → zd
open Go Go.Sx Go.St
theorem jch {f g:Nat→Bool} {n:Nat} (h:∀ i,i<n→f i=g i):(List.range n).all f=(List.range n).all g:=by
 rw [xe]
 simp only [zt,zaw]
 exact ⟨fun H i hi=>by rw [← h i hi];exact H i hi,fun H i hi=>by rw [h i hi];exact H i hi⟩
theorem jci {f g:Nat→Bool}:∀ l:List Nat,(∀ x∈l,f x=g x)→l.findIdx? f=l.findIdx? g
 | [],_=>rfl
 | x::r,h=>by
  rw [List.findIdx?_cons,List.findIdx?_cons,h x (xy ..),jci r (fun y hy=>h y (xt _ hy))]
theorem jpa {L L':List Nd} {n n':Nd} (hk:n.kind=n'.kind) (hw:n.words=n'.words) (hn:n.nums=n'.nums) (hl:n.kids.length=n'.kids.length) (h:∀ i,i<n.kids.length→kidK L n i=kidK L' n' i):qbo L n=qbo L' n':=by
 have hA:∀ f a b,allB L n f a b=allB L' n' f a b:=fun f a b=>by
  unfold allB
  rw [← hl]
  exact jch (fun i hi=>by rw [h i hi])
 have hE:∀ f a b,qba L n f a b=qba L' n' f a b:=fun f a b=>by
  unfold qba
  rw [← hl]
  rw [jch (fun i hi=>by rw [h i hi])]
 have hV:qfp L n=qfp L' n':=by
  unfold qfp Go.St.idx
  rw [← hl,jci (f:=fun i=>kidK L n i != 2) (g:=fun i=>kidK L' n' i != 2) (List.range n.kids.length) (fun i hi=>by show (kidK L n i != 2)=(kidK L' n' i != 2);rw [h i (List.mem_range.1 hi)])]
 have hW:∀ c,qo n c=qo n' c:=fun c=>by unfold qo;rw [hw]
 have hN:∀ c m,ja n c m=ja n' c m:=fun c m=>by unfold ja;rw [hn]
 unfold qbo
 simp only [hk,hn,hl,hA,hE,hV,hW,hN]
def qjz (v:Tr):Nd:=⟨v.kind,[],[],[],0⟩
def jb (u:Tr):Nd:=⟨u.kind,u.words,u.nums,(List.range u.l.length).map Int.ofNat,0⟩
def qai (u:Tr):Bool:=qbo (u.l.map qjz) (jb u)
theorem qqz (u:Tr):(jb u).kids.length=u.l.length:=by simp [jb]
theorem qra (u:Tr) (i:Nat) (h:i<u.l.length):kidK (u.l.map qjz) (jb u) i=(u.l.getD i Tr.none).kind:=by
 unfold kidK jb
 simp only [zd,zg,List.getElem?_range h,xh,zat,Int.ofNat_eq_natCast,Int.toNat_natCast,zf h]
 rfl
theorem qvl (u:Tr) (f:Nat) (a b:Int) (h:∀ i,f≤i→i<u.l.length→inK (u.l.getD i Tr.none).kind a b=true):allB (u.l.map qjz) (jb u) f a b=true:=by
 unfold allB
 rw [qqz]
 simp only [zt,zaw,xx,zr]
 intro i hi
 by_cases hf:i<f
 ·exact .inl hf
 ·rw [qra u i hi];exact .inr (h i (by omega) hi)
theorem qij (u:Tr) (first least most:Int) (h:∀ i,i<u.l.length→((i:Int)<first→inK (u.l.getD i Tr.none).kind 17 22=true)∧(first≤(i:Int)→(u.l.getD i Tr.none).kind=16)) (h1:first+least≤u.l.length) (h2:(u.l.length:Int)≤first+most):qba (u.l.map qjz) (jb u) first least most=true:=by
 unfold qba
 rw [qqz]
 simp only [ze,zt,zaw,zr]
 refine ⟨fun i hi=>?_,h1,h2⟩
 rw [qra u i hi]
 by_cases hf:(i:Int)<first
 ·rw [(h i hi).1 hf,zao hf,zv (show ¬ first≤(i:Int) by omega)];rfl
 ·rw [(h i hi).2 (by omega),zv hf,Bool.false_and,xr];simp
section
variable {a:Int}
theorem q_num {n:Int} (h0:0≤n) (h1:n≤999999):qai (.mk 17 [] [n] a [])=true:=by
 simp [qai,qbo,jb,qo,ja,Tr.kind,Tr.words,Tr.nums,Tr.l,h0,h1]
theorem jpb {k:Int} {w:List UInt8} (hk:k=18∨k=19) (h:nameF w=true):qai (.mk k [w] [] a [])=true:=by
 rcases hk with rfl|rfl <;> simp [qai,qbo,jb,qo,ja,Tr.kind,Tr.words,Tr.nums,Tr.l,h]
theorem jcj {k:Int} {e:Tr} (hk:k=4∨k=20∨k=21) (he:inK e.kind 17 22=true):qai (.mk k [] [] a [e])=true:=by
 have hE:=qij (.mk k [] [] a [e]) 1 0 0 (fun i hi=>by
  obtain rfl:i=0:=by simpa [Tr.l] using hi
  exact ⟨fun _=>he,fun h=>by omega⟩) (by simp [Tr.l]) (by simp [Tr.l])
 have hW:qo (jb (.mk k [] [] a [e])) 0=true:=by simp [qo,jb,Tr.words]
 have hN:ja (jb (.mk k [] [] a [e])) 0 0=true:=by simp [ja,jb,Tr.nums]
 have hK:(jb (.mk k [] [] a [e])).kind=k:=rfl
 unfold qai qbo
 rw [hK]
 rcases hk with rfl|rfl|rfl <;> simp [hE,hW,hN]
theorem q_bin {sg:Int} {e f:Tr} (h0:0≤sg) (h8:sg≤8) (he:inK e.kind 17 22=true) (hf:inK f.kind 17 22=true):qai (.mk 22 [] [sg] a [e,f])=true:=by
 have hE:=qij (.mk 22 [] [sg] a [e,f]) 2 0 0 (fun i hi=>by
  have hi:i<2:=hi
  match i,hi with
  | 0,_=>exact ⟨fun _=>he,fun h=>by omega⟩
  | 1,_=>exact ⟨fun _=>hf,fun h=>by omega⟩) (by simp [Tr.l]) (by simp [Tr.l])
 have hW:qo (jb (.mk 22 [] [sg] a [e,f])) 0=true:=by simp [qo,jb,Tr.words]
 have hN:ja (jb (.mk 22 [] [sg] a [e,f])) 1 8=true:=by simp [ja,jb,Tr.nums,h0,h8]
 have hK:(jb (.mk 22 [] [sg] a [e,f])).kind=22:=rfl
 unfold qai qbo
 rw [hK]
 simp [hE,hW,hN]
theorem q_set {k:Int} {w:List UInt8} {e:Tr} (hk:k=6∨k=7) (hw:nameF w=true) (he:inK e.kind 17 22=true):qai (.mk k [w] [] a [e])=true:=by
 have hE:=qij (.mk k [w] [] a [e]) 1 0 0 (fun i hi=>by
  obtain rfl:i=0:=by simpa [Tr.l] using hi
  exact ⟨fun _=>he,fun h=>by omega⟩) (by simp [Tr.l]) (by simp [Tr.l])
 have hW:qo (jb (.mk k [w] [] a [e])) 1=true:=by simp [qo,jb,Tr.words,hw]
 have hN:ja (jb (.mk k [w] [] a [e])) 0 0=true:=by simp [ja,jb,Tr.nums]
 have hK:(jb (.mk k [w] [] a [e])).kind=k:=rfl
 unfold qai qbo
 rw [hK]
 rcases hk with rfl|rfl <;> simp [hE,hW,hN]
theorem jpc {d:Int} {w v:List UInt8} (hw:nameF w=true) (hv:nameF v=true) (h0:0≤d) (h1:d≤1):qai (.mk 8 [w,v] [d] a [])=true:=by
 simp [qai,qbo,jb,qo,ja,Tr.kind,Tr.words,Tr.nums,Tr.l,hw,hv,h0,h1]
theorem jpd {d:Int} {e:Tr} (h0:0≤d) (h1:d≤1) (he:inK e.kind 17 22=true):qai (.mk 9 [] [d] a [e])=true:=by
 have hE:=qij (.mk 9 [] [d] a [e]) 1 0 0 (fun i hi=>by
  obtain rfl:i=0:=by simpa [Tr.l] using hi
  exact ⟨fun _=>he,fun h=>by omega⟩) (by simp [Tr.l]) (by simp [Tr.l])
 have hW:qo (jb (.mk 9 [] [d] a [e])) 0=true:=by simp [qo,jb,Tr.words]
 have hN:ja (jb (.mk 9 [] [d] a [e])) 1 1=true:=by simp [ja,jb,Tr.nums,h0,h1]
 have hK:(jb (.mk 9 [] [d] a [e])).kind=9:=rfl
 unfold qai qbo
 rw [hK]
 simp [hE,hW,hN]
theorem jpe {d:Int} {l:List Tr} (h0:0≤d) (h1:d≤1) (hl:∀ i,i<l.length→(l.getD i Tr.none).kind=16) (hn:l≠[]) (h8:l.length≤800):qai (.mk 10 [] [d] a l)=true:=by
 have hp:=List.length_pos_iff.2 hn
 have hE:=qij (.mk 10 [] [d] a l) 0 1 800 (fun i hi=>⟨fun h=>by omega,fun _=>hl i hi⟩) (by show (0:Int)+1≤l.length;omega) (by show (l.length:Int)≤0+800;omega)
 have hW:qo (jb (.mk 10 [] [d] a l)) 0=true:=by simp [qo,jb,Tr.words]
 have hN:ja (jb (.mk 10 [] [d] a l)) 1 1=true:=by simp [ja,jb,Tr.nums,h0,h1]
 have hK:(jb (.mk 10 [] [d] a l)).kind=10:=rfl
 unfold qai qbo
 rw [hK]
 simp [hE,hW,hN]
theorem q_if {e b:Tr} (k:Int) (hk:k=11∨k=12) (he:inK e.kind 17 22=true) (hb:b.kind=16):qai (.mk k [] [] a [e,b])=true:=by
 have hE:∀ m,1≤m→qba ((Tr.mk k [] [] a [e,b]).l.map qjz) (jb (.mk k [] [] a [e,b])) 1 1 m=true:=fun m hm=>qij (.mk k [] [] a [e,b]) 1 1 m (fun i hi=>by
  have hi:i<2:=hi
  match i,hi with
  | 0,_=>exact ⟨fun _=>he,fun h=>by omega⟩
  | 1,_=>exact ⟨fun h=>by omega,fun _=>hb⟩) (by show (1:Int)+1≤2;decide) (by show (2:Int)≤1+m;omega)
 have hW:qo (jb (.mk k [] [] a [e,b])) 0=true:=by simp [qo,jb,Tr.words]
 have hN:ja (jb (.mk k [] [] a [e,b])) 0 0=true:=by simp [ja,jb,Tr.nums]
 have hK:(jb (.mk k [] [] a [e,b])).kind=k:=rfl
 unfold qai qbo
 rw [hK]
 rcases hk with rfl|rfl <;> simp [hE 1 (by decide),hE 2 (by decide),hW,hN]
theorem q_ife {e b c:Tr} (he:inK e.kind 17 22=true) (hb:b.kind=16) (hc:c.kind=16):qai (.mk 11 [] [] a [e,b,c])=true:=by
 have hE:=qij (.mk 11 [] [] a [e,b,c]) 1 1 2 (fun i hi=>by
  have hi:i<3:=hi
  match i,hi with
  | 0,_=>exact ⟨fun _=>he,fun h=>by omega⟩
  | 1,_=>exact ⟨fun h=>by omega,fun _=>hb⟩
  | 2,_=>exact ⟨fun h=>by omega,fun _=>hc⟩) (by show (1:Int)+1≤3;decide) (by show (3:Int)≤1+2;decide)
 have hW:qo (jb (.mk 11 [] [] a [e,b,c])) 0=true:=by simp [qo,jb,Tr.words]
 have hN:ja (jb (.mk 11 [] [] a [e,b,c])) 0 0=true:=by simp [ja,jb,Tr.nums]
 have hK:(jb (.mk 11 [] [] a [e,b,c])).kind=11:=rfl
 unfold qai qbo
 rw [hK]
 simp [hE,hW,hN]
theorem jpf {b:Tr} (hb:b.kind=16):qai (.mk 13 [] [] a [b])=true:=by
 have hE:=qij (.mk 13 [] [] a [b]) 0 1 1 (fun i hi=>by
  obtain rfl:i=0:=by simpa [Tr.l] using hi
  exact ⟨fun h=>by omega,fun _=>hb⟩) (by simp [Tr.l]) (by simp [Tr.l])
 have hW:qo (jb (.mk 13 [] [] a [b])) 0=true:=by simp [qo,jb,Tr.words]
 have hN:ja (jb (.mk 13 [] [] a [b])) 0 0=true:=by simp [ja,jb,Tr.nums]
 have hK:(jb (.mk 13 [] [] a [b])).kind=13:=rfl
 unfold qai qbo
 rw [hK]
 simp [hE,hW,hN]
theorem jck {k:Int} (hk:k=5∨k=14∨k=15):qai (.mk k [] [] a [])=true:=by
 rcases hk with rfl|rfl|rfl <;> simp [qai,qbo,jb,qo,ja,Tr.kind,Tr.words,Tr.nums,Tr.l]
theorem jcl {k:Int} {l:List Tr} (hk:(k=16∧∀ i,i<l.length→inK (l.getD i Tr.none).kind 6 15=true)∨(k=0∧∀ i,i<l.length→inK (l.getD i Tr.none).kind 1 5=true)):qai (.mk k [] [] a l)=true:=by
 have hW:qo (jb (.mk k [] [] a l)) 0=true:=by simp [qo,jb,Tr.words]
 have hN:ja (jb (.mk k [] [] a l)) 0 0=true:=by simp [ja,jb,Tr.nums]
 have hK:(jb (.mk k [] [] a l)).kind=k:=rfl
 unfold qai qbo
 rw [hK]
 rcases hk with ⟨rfl,h⟩|⟨rfl,h⟩
 ·have hA:=qvl (.mk 16 [] [] a l) 0 6 15 (fun i _ hi=>h i hi)
  simp [hA,hW,hN]
 ·have hA:=qvl (.mk 0 [] [] a l) 0 1 5 (fun i _ hi=>h i hi)
  simp [hA,hW,hN]
theorem q_var {n v:Int} {w:List UInt8} (hw:nameF w=true) (h0:0≤n) (h1:n≤999999) (h2:-999999≤v) (h3:v≤999999):qai (.mk 2 [w] [n,v] a [])=true:=by
 simp [qai,qbo,jb,qo,ja,inK,Tr.kind,Tr.words,Tr.nums,Tr.l,hw,h0,h1,h2,h3]
theorem jpg {n m b c:Int} {w:List UInt8} (hw:nameF w=true) (h0:0≤n) (h1:n≤999999) (h2:0≤m) (h3:m≤999999) (h4:0≤b) (h5:b≤1) (h6:0≤c) (h7:c≤1):qai (.mk 1 [w] [n,m,b,c] a [])=true:=by
 simp [qai,qbo,jb,qo,ja,Tr.kind,Tr.words,Tr.nums,Tr.l,hw,h0,h1,h2,h3,h4,h5,h6,h7]
 omega
theorem jph {c:Int} {w:List UInt8} {vs ss:List Tr} (hw:nameF w=true) (h0:0≤c) (h1:c≤999999) (hv:∀ i,i<vs.length→(vs.getD i Tr.none).kind=2) (hs:∀ i,i<ss.length→inK (ss.getD i Tr.none).kind 6 15=true):qai (.mk 3 [w] [c] a (vs++ss))=true:=by
 have hW:qo (jb (.mk 3 [w] [c] a (vs++ss))) 1=true:=by simp [qo,jb,Tr.words,hw]
 have hN:ja (jb (.mk 3 [w] [c] a (vs++ss))) 1 999999=true:=by simp [ja,jb,Tr.nums,h0,h1]
 have hK:(jb (.mk 3 [w] [c] a (vs++ss))).kind=3:=rfl
 have hlen:(jb (.mk 3 [w] [c] a (vs++ss))).kids.length=vs.length+ss.length:=by rw [qqz];simp [Tr.l]
 have hkid:∀ i,i<(vs++ss).length→kidK ((Tr.mk 3 [w] [c] a (vs++ss)).l.map qjz) (jb (.mk 3 [w] [c] a (vs++ss))) i=((vs++ss).getD i Tr.none).kind:=fun i hi=>qra _ i hi
 have hlo:∀ i,i<vs.length→(vs++ss).getD i Tr.none=vs.getD i Tr.none:=fun i hi=>by
  rw [zd,zq hi,← zd]
 have hhi:∀ i,vs.length≤i→(vs++ss).getD i Tr.none=ss.getD (i - vs.length) Tr.none:=fun i hi=>by
  rw [zd,zl hi,← zd]
 have hV:qfp ((Tr.mk 3 [w] [c] a (vs++ss)).l.map qjz) (jb (.mk 3 [w] [c] a (vs++ss)))=vs.length:=by
  refine qze _ _ _ (by omega) (fun j hj=>?_) ?_
  ·rw [hkid j (by simp;omega),hlo j hj];exact hv j hj
  ·by_cases h:ss.length=0
   ·exact .inl (by omega)
   ·refine .inr ?_
    rw [hkid vs.length (by simp;omega),hhi _ (zi _),xw]
    have:=hs 0 (by omega)
    unfold inK at this
    simp only [ze,zr] at this
    omega
 have hA:=qvl (.mk 3 [w] [c] a (vs++ss)) vs.length 6 15 (fun i hi hl=>by
  have hl:i<(vs++ss).length:=hl
  rw [xa] at hl
  show inK ((vs++ss).getD i Tr.none).kind 6 15=true
  rw [hhi i hi];exact hs _ (by omega))
 unfold qai qbo
 rw [hK]
 simp [hV,hA,hW,hN]
end
end Pa
end Go.Proofs.Ythfaleaojlnnoaa
end
section
namespace Go.Proofs.Ythfaleaojlnnoaa
namespace Pa
open Go Go.Sx Go.St
theorem qcg {Q:Tr→Prop} {k a:Int} {w:List (List UInt8)} {n:List Int} {l:List Tr} (h:Q (.mk k w n a l)) (hl:Tr.allL Q l):(Tr.mk k w n a l).allT Q:=by rw [Tr.allT];exact ⟨h,hl⟩
theorem qdd {Q:Tr→Prop}:Tr.allL Q []:=by rw [Tr.allL];trivial
theorem qdj {Q:Tr→Prop} {t:Tr} {r:List Tr} (h:t.allT Q) (hr:Tr.allL Q r):Tr.allL Q (t::r):=by rw [Tr.allL];exact ⟨h,hr⟩
theorem jcm {Q:Tr→Prop}:∀ l r:List Tr,Tr.allL Q l→Tr.allL Q r→Tr.allL Q (l++r)
 | [],_,_,h=>h
 | t::l,r,h,h'=>by
  rw [Tr.allL] at h
  exact qdj h.1 (jcm l r h.2 h')
theorem qlw {R:Int→Int→Tr→Prop} {Q:Tr→Prop} (hR:∀ a b t,R a b t→t.allT Q):∀ (l:List Tr) (i j:Int),Seq R i j l→Tr.allL Q l
 | [],_,_,_=>qdd
 | _::r,_,_,⟨_,_,_,h,h'⟩=>qdj (hR _ _ _ h) (qlw hR r _ _ h')
theorem qlx {R:Int→Int→Tr→Prop} {P:Tr→Prop} (hR:∀ a b t,R a b t→P t):∀ (l:List Tr) (i j:Int),Seq R i j l→∀ k,k<l.length→P (l.getD k Tr.none)
 | [],_,_,_,k,hk=>absurd hk (xb k)
 | _::_,_,_,⟨_,_,_,h,_⟩,0,_=>hR _ _ _ h
 | _::r,_,_,⟨_,_,_,_,h'⟩,k+1,hk=>qlx hR r _ _ h' k (by simpa using hk)
def qik (u:Tr):Prop:=u.l.length≤800→qai u=true
def jpi (ts:List Lx.Tok):Alg ts where
 E _ _ t:=inK t.kind 17 22=true∧t.allT qik
 S _ _ t:=inK t.kind 6 15=true∧t.allT qik
 B _ _ t:=t.kind=16∧t.allT qik
 V _ _ t:=t.kind=2∧t.allT qik
 I _ _ t:=inK t.kind 1 5=true∧t.allT qik
 rNum h0 h1 _:=⟨rfl,qcg (fun _=>q_num h0 h1) qdd⟩
 rName hk hw _:=⟨by rcases hk with rfl|rfl <;> rfl,qcg (fun _=>jpb hk hw) qdd⟩
 rUn hk _ ht _:=⟨by rcases hk with rfl|rfl <;> rfl,qcg (fun _=>jcj (.inr hk) ht.1) (qdj ht.2 qdd)⟩
 rPar _ ht _:=ht
 rBin h0 h8 ha _ hb:=⟨rfl,qcg (fun _=>q_bin h0 h8 ha.1 hb.1) (qdj ha.2 (qdj hb.2 qdd))⟩
 rSet hk hw _ ht _:=⟨by rcases hk with rfl|rfl <;> rfl,qcg (fun _=>q_set hk hw ht.1) (qdj ht.2 qdd)⟩
 rRecv hw hv h0 h1 _:=⟨rfl,qcg (fun _=>jpc hw hv h0 h1) qdd⟩
 rWhen h0 h1 _ ht _:=⟨rfl,qcg (fun _=>jpd h0 h1 ht.1) (qdj ht.2 qdd)⟩
 rChoose h0 h1 _ hl hn:=⟨rfl,qcg (fun h8=>jpe h0 h1 (qlx (fun _ _ _ h=>h.1) _ _ _ hl) hn h8) (qlw (fun _ _ _ h=>h.2) _ _ _ hl)⟩
 rIf _ he _ hb:=⟨rfl,qcg (fun _=>q_if 11 (.inl rfl) he.1 hb.1) (qdj he.2 (qdj hb.2 qdd))⟩
 rIfE _ he _ hb _ hc:=⟨rfl,qcg (fun _=>q_ife he.1 hb.1 hc.1) (qdj he.2 (qdj hb.2 (qdj hc.2 qdd)))⟩
 rWhile _ he _ hb:=⟨rfl,qcg (fun _=>q_if 12 (.inr rfl) he.1 hb.1) (qdj he.2 (qdj hb.2 qdd))⟩
 rAtom _ hb:=⟨rfl,qcg (fun _=>jpf hb.1) (qdj hb.2 qdd)⟩
 rBare hk _:=⟨by rcases hk with rfl|rfl <;> rfl,qcg (fun _=>jck (.inr hk)) qdd⟩
 rBlock _ hl _:=⟨rfl,qcg (fun _=>jcl (.inl ⟨rfl,qlx (fun _ _ _ h=>h.1) _ _ _ hl⟩)) (qlw (fun _ _ _ h=>h.2) _ _ _ hl)⟩
 rVar hw h0 h1 h2 h3 _:=⟨rfl,qcg (fun _=>q_var hw h0 h1 h2 h3) qdd⟩
 rIVar h:=⟨by rw [h.1];rfl,h.2⟩
 rChan hw h0 h1 h2 h3 h4 h5 h6 h7 _:=⟨rfl,qcg (fun _=>jpg hw h0 h1 h2 h3 h4 h5 h6 h7) qdd⟩
 rProc hw h0 h1 _ hv hs _:=⟨rfl,qcg (fun _=>jph hw h0 h1 (qlx (fun _ _ _ h=>h.1) _ _ _ hv) (qlx (fun _ _ _ h=>h.1) _ _ _ hs)) (jcm _ _ (qlw (fun _ _ _ h=>h.2) _ _ _ hv) (qlw (fun _ _ _ h=>h.2) _ _ _ hs))⟩
 rSafe _ ht _:=⟨rfl,qcg (fun _=>jcj (.inl rfl) ht.1) (qdj ht.2 qdd)⟩
 rDead _:=⟨rfl,qcg (fun _=>jck (.inl rfl)) qdd⟩
theorem jcn:∀ l:List Tr,l.length≤Tr.sizeL l
 | []=>xi _
 | t::r=>by
  have:=qoa t
  have:=jcn r
  rw [Tr.sizeL,zo];omega
mutual
theorem right_fix:∀ t:Tr,t.size≤800→t.allT qik→t.allT (fun u=>qai u=true)
 | .mk k w n a l,h,hq=>by
  rw [Tr.allT] at hq
  rw [Tr.size] at h
  have h1:=jcn l
  exact qcg (hq.1 (by show l.length≤800;omega)) (right_fixL l (by omega) hq.2)
theorem right_fixL:∀ l:List Tr,Tr.sizeL l≤800→Tr.allL qik l→Tr.allL (fun u=>qai u=true) l
 | [],_,_=>qdd
 | t::r,h,hq=>by
  rw [Tr.allL] at hq
  rw [Tr.sizeL] at h
  exact qdj (right_fix t (by omega) hq.1) (right_fixL r (by omega) hq.2)
end
theorem jpj {L:List Nd} {nd:Nd} {u:Tr} (h:NdOf L nd u):qbo L nd=qai u:=by
 have hl:nd.kids.length=u.l.length:=by
  have:=congrArg List.length h.kids
  rwa [zs,zs] at this
 refine jpa h.kind h.words h.nums (by rw [qqz,hl]) (fun i hi=>?_)
 rw [qra u i (by omega)]
 have hi':i<u.l.length:=by omega
 have:=congrArg (fun l=>l[i]?) h.kids
 simp only [zg,zf hi,zf hi',xh,Option.some.injEq,Prod.mk.injEq] at this
 unfold kidK
 rw [List.getD_eq_getElem?_getD (l:=nd.kids),zf hi,zat,this.1,List.getD_eq_getElem?_getD,zf hi']
 rfl
theorem jpk {s:List UInt8} (h:(qbb s).2.1=0):qun (qbb s).1=true:=by
 unfold qbb at h ⊢
 split at h
 ·rename_i hn
  exact absurd h hn
 rename_i hn
 rw [za hn]
 have he:(Lx.lexAll s).2.1=0:=Classical.byContradiction hn
 have hp:=qvk he
 obtain ⟨ht,h0⟩:=qnt he
 generalize (Lx.lexAll s).1=ts at hp ht h0 h ⊢
 have hA:AtOk ts ⟨0,0,0,0⟩:=⟨zn _,by simp only;omega⟩
 unfold qez at h ⊢
 simp only at h ⊢
 split at h
 ·rename_i hx
  exact absurd h hx
 rename_i hx
 rw [za hx]
 have hx:(jk ts ⟨0,0,0,0⟩).2.err=0:=Classical.byContradiction hx
 split at h
 ·simp at h
 rename_i h8
 rw [za h8]
 split at h
 ·simp at h
 rename_i hd
 rw [za hd]
 obtain ⟨l,j,e,hs,hj⟩:=qvj ht hA hx
 obtain ⟨l',e',hr⟩:=jcd ht (jpi ts) hA hx
 obtain rfl:l=l':=by rw [e] at e';injection e'
 have e:(jk ts ⟨0,0,0,0⟩).1=.mk 0 [] [] (posT ts 0) l:=e
 rw [e] at h8 hd ⊢
 rw [lay_lenT] at h8
 have hnn:(Tr.mk 0 [] [] (posT ts 0) l).allT (fun u=>0≤u.at_):=by
  refine qcg ?_ (spL_nonneg (fun t hm=>(hp.1 t hm).1) l _ j hs (zn _) (by omega))
  obtain ⟨t,hm,e2⟩:=qnz (ts:=ts) (i:=0) (zn _) (by omega)
  have:=(hp.1 t hm).1
  show 0≤posT ts 0
  omega
 have hw:=jow _ hnn hd
 have hq:(Tr.mk 0 [] [] (posT ts 0) l).allT qik:=qcg (fun _=>jcl (.inr ⟨rfl,qlx (fun _ _ _ h=>h.1) _ _ _ hr⟩)) (qlw (fun _ _ _ h=>h.2) _ _ _ hr)
 have hz:=right_fix _ (by omega) hq
 have hall:(layT 0 (Tr.mk 0 [] [] (posT ts 0) l)).all (qbo (layT 0 (Tr.mk 0 [] [] (posT ts 0) l)))=true:=by
  rw [zt]
  intro nd hm
  obtain ⟨u,hu,ho⟩:=layT_of (layT 0 (Tr.mk 0 [] [] (posT ts 0) l)) _ 0 [] [] (by simp) rfl hz nd hm
  rw [jpj ho];exact hu
 have hsz:=qoa (Tr.mk 0 [] [] (posT ts 0) l)
 have hk:((layT 0 (Tr.mk 0 [] [] (posT ts 0) l)).getD 0 nd0).kind=0:=by rw [layT];rfl
 unfold qun
 rw [hw,hk,hall,lay_lenT,zv (by omega),zv h8]
 simp
theorem jpl {s:List UInt8} (h:(qbb s).2.1≠0):(qbb s).1=[]:=by
 unfold qbb at h ⊢
 split
 ·rfl
 rename_i hn
 rw [za hn] at h
 unfold qez at h ⊢
 simp only at h ⊢
 split
 ·rfl
 rename_i hx
 rw [za hx] at h
 split
 ·rfl
 rename_i h8
 rw [za h8] at h
 split
 ·rfl
 rename_i hd
 rw [za hd] at h
 exact absurd rfl h
end Pa
end Go.Proofs.Ythfaleaojlnnoaa
end
