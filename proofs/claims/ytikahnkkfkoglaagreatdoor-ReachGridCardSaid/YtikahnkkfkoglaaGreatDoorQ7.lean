/- Some texts of the library, one behind the other. -/
import Derived.Test.YtikahnkkfkoglaaGreatDoorQ6
import Derived.Test.YtikahnkkfkoglaaGreatDoorQ2
import Derived.Shelf.Strconv.AppendUint10
set_option linter.unusedSimpArgs false
set_option linter.unusedVariables false
section
namespace Go.St
open Go Go.Sx
def qo (l:List Nd) (i:Int):Int:=(l.getD i.toNat nd0).kind
def qba (at_:Int):List Int→Int→Int
 | [],o=>o
 | k::r,o=>qba at_ r (if k≤at_ then k else o)
def itemF (l:List Nd) (at_:Int):Int:=qba at_ (l.getD 0 nd0).kids 0
def inF (l:List (List UInt8)) (s:List UInt8):Bool:=l.any (· == s)
def qfu (n:Nd):List UInt8:=n.words.getD 0 []
def qom (l:List Nd) (item kind:Int) (out:List (List UInt8)) (i:Nat):List (List UInt8):=
 if (l.getD i nd0).kind=kind then
  (if (itemF l i == (i:Int) || itemF l i == item)=true then (if inF out (qfu (l.getD i nd0))=true then out else out++[qfu (l.getD i nd0)]) else out)
 else out
def qfv (l:List Nd) (item kind:Int) (i:Nat):List (List UInt8):=(List.range i).foldl (qom l item kind) []
def qdd (l:List Nd) (at_:Int) (kind:Int):List (List UInt8):=qfv l (itemF l at_) kind at_.toNat
def badF (l:List Nd) (i:Nat):Bool:=
 if (l.getD i nd0).kind=1∨(l.getD i nd0).kind=2∨(l.getD i nd0).kind=3 then
  inF (qdd l i 1) (qfu (l.getD i nd0)) || inF (qdd l i 2) (qfu (l.getD i nd0)) || inF (qdd l i 3) (qfu (l.getD i nd0))
 else if (l.getD i nd0).kind=6∨(l.getD i nd0).kind=18 then !inF (qdd l i 2) (qfu (l.getD i nd0))
 else if (l.getD i nd0).kind=7∨(l.getD i nd0).kind=19 then !inF (qdd l i 1) (qfu (l.getD i nd0))
 else if (l.getD i nd0).kind=8 then !inF (qdd l i 1) (qfu (l.getD i nd0)) || !inF (qdd l i 2) ((l.getD i nd0).words.getD 1 [])
 else false
def qhp (l:List Nd):Int × Int:=if Go.St.idx (badF l) (List.range l.length)<0 then (0,0) else (20,(l.getD (Go.St.idx (badF l) (List.range l.length)).toNat nd0).at_)
def qfw (l:List Nd) (at_:Int):Int:=if qo l (itemF l at_)=3 then (l.getD (itemF l at_).toNat nd0).nums.getD 0 0 else 1
def qhq (l:List Nd) (kind:Int) (n:Int) (i:Nat):Int:=
 if n<100 then (if (l.getD i nd0).kind=kind then (if kind=1 then n+1 else n+min (qfw l i) 100) else n) else n
def sumF (l:List Nd) (kind:Int) (i:Nat):Int:=(List.range i).foldl (qhq l kind) 0
def qon (l:List Nd) (at_:Int):Nat→Int→Bool
 | 0,_=>false
 | f+1,a=>(l.getD a.toNat nd0).kids.any fun k=>k == at_ || qon l at_ f k
def qbn (l:List Nd) (i:Nat):Int:=
 if (l.getD i nd0).kind=1 then
  (if ((l.getD i nd0).nums.getD 0 0<1∨3<(l.getD i nd0).nums.getD 0 0)∨((l.getD i nd0).nums.getD 1 0<1∨8<(l.getD i nd0).nums.getD 1 0)∨3<sumF l 1 (i+1) then 22 else 0)
 else if (l.getD i nd0).kind=2 then
  (if ((l.getD i nd0).nums.getD 0 0<1∨8<(l.getD i nd0).nums.getD 0 0)∨trim ((l.getD i nd0).nums.getD 1 0) ((l.getD i nd0).nums.getD 0 0)≠(l.getD i nd0).nums.getD 1 0∨8<sumF l 2 (i+1) then 22 else 0)
 else if (l.getD i nd0).kind=3 then (if (l.getD i nd0).nums.getD 0 0<1∨4<sumF l 3 (i+1) then 22 else 0)
 else if (l.getD i nd0).kind=13 then (if ((List.range i).any fun j=>(l.getD j nd0).kind == 13 && qon l i l.length j)=true then 21 else 0)
 else if (l.getD i nd0).kind=17 then (if 127<(l.getD i nd0).nums.getD 0 0 then 22 else 0)
 else 0
def qbo (l:List Nd):Int × Int:=
 if (qhp l).1≠0 then qhp l
 else if Go.St.idx (fun i=>qbn l i != 0) (List.range l.length)<0 then (0,0)
 else (qbn l (Go.St.idx (fun i=>qbn l i != 0) (List.range l.length)).toNat,(l.getD (Go.St.idx (fun i=>qbn l i != 0) (List.range l.length)).toNat nd0).at_)
def qg (p:Pr):Pr:={ p with places:=p.places+1,rest:=p.rest++[false] }
def putF (p:Pr) (frm to act node expr v c:Int):Pr:={ p with edges:=p.edges++[⟨frm,to,act,expr,v,c,false,node⟩] }
def qch (l:List (List UInt8)) (s:List UInt8):Int:=if Go.St.idx (· == s) l<0 then 0 else Go.St.idx (· == s) l
def qaa (p:Pr) (at_ idle:Int):Pr:={ p with rest:=if idle=1 then p.rest.set at_.toNat true else p.rest }
def qfa (l:List Ch) (s:List UInt8):Int:=if Go.St.idx (fun c:Ch=>c.name == s) l<0 then 0 else Go.St.idx (fun c:Ch=>c.name == s) l
def qbf (st:Pr→Int→Int→Int→Pr) (node:Int):Pr→List Int→Int→Int→Pr
 | p,[],frm,to=>putF p frm to 0 node (-1) (-1) (-1)
 | p,[k],frm,to=>st p k frm to
 | p,k::k'::r,frm,to=>qbf st node (st (qg p) k frm p.places) (k'::r) p.places to
def qhr (l:List Nd) (blk:Pr→Int→Int→Int→Pr) (frm to:Int) (p:Pr) (k:Int):Pr:=
 if (l.getD k.toNat nd0).kids.length≠0∧qo l ((l.getD k.toNat nd0).kids.getD 0 0)=12 then
  blk (putF (qg p) frm p.places 0 k (-1) (-1) (-1)) k p.places to
 else blk p k frm to
def qei (to:Int) (e:Ed):Ed:={ e with keep:=e.to != to && e.to != 1 }
def qd (l:List Nd) (cs:List Ch):Nat→Pr→Int→Int→Int→Pr
  | 0,p,_,_,_=>p
  | f+1,p,a,frm,to=>
    let n:=l.getD a.toNat nd0
    let blk:=fun (p:Pr) (b frm to:Int)=>qbf (qd l cs f) b p (l.getD b.toNat nd0).kids frm to
    if n.kind=6 then putF p frm to 1 a (n.kids.getD 0 0) (p.vars.getD (qch p.names (n.words.getD 0 [])).toNat 0) (-1)
    else if n.kind=7 then putF p frm to 2 a (n.kids.getD 0 0) (-1) (qfa cs (n.words.getD 0 []))
    else if n.kind=8 then putF (qaa p frm (n.nums.getD 0 0)) frm to 3 a (-1) (p.vars.getD (qch p.names (n.words.getD 1 [])).toNat 0) (qfa cs (n.words.getD 0 []))
    else if n.kind=9 then putF (qaa p frm (n.nums.getD 0 0)) frm to 4 a (n.kids.getD 0 0) (-1) (-1)
    else if n.kind=10 then n.kids.foldl (qhr l blk frm to) (qaa p frm (n.nums.getD 0 0))
    else if n.kind=11 then
      (let q:=blk (putF (qg p) frm p.places 4 a (n.kids.getD 0 0) (-1) (-1)) (n.kids.getD 1 0) p.places to
       if n.kids.length=2 then putF q frm to 5 a (n.kids.getD 0 0) (-1) (-1)
       else blk (putF (qg q) frm q.places 5 a (n.kids.getD 0 0) (-1) (-1)) (n.kids.getD 2 0) q.places to)
    else if n.kind=12 then blk (putF (putF (qg p) frm p.places 4 a (n.kids.getD 0 0) (-1) (-1)) frm to 5 a (n.kids.getD 0 0) (-1) (-1)) (n.kids.getD 1 0) p.places frm
    else if n.kind=13 then
      (let q:=blk p (n.kids.getD 0 0) frm to
       { q with edges:=q.edges.take p.edges.length++(q.edges.drop p.edges.length).map (qei to) })
    else if n.kind=15 then putF p frm 1 0 a (-1) (-1) (-1)
    else putF p frm to 0 a (-1) (-1) (-1)
def qir (l:List Nd) (m:Md) (k:Int):Md:=
 let n:=l.getD k.toNat nd0
 if n.kind=1 then { m with chans:=m.chans++[⟨n.words.getD 0 [],n.nums.getD 0 0,n.nums.getD 1 0,n.nums.getD 2 0 == 1,n.nums.getD 3 0 == 1⟩] }
 else if n.kind=2 then { m with vars:=m.vars++[⟨n.words.getD 0 [],n.nums.getD 0 0,n.nums.getD 1 0⟩] }
 else if n.kind=4 then { m with safe:=m.safe++[n.kids.getD 0 0] }
 else if n.kind=5 then { m with dead:=true }
 else m
def qfb (l:List Nd) (x:Pr × List Vr) (k:Int):Pr × List Vr:=
 let n:=l.getD k.toNat nd0
 ({ x.1 with locals:=x.1.locals++[(x.2.length:Int)],names:=x.1.names++[n.words.getD 0 []],vars:=x.1.vars++[(x.2.length:Int)] },x.2++[⟨n.words.getD 0 [],n.nums.getD 0 0,n.nums.getD 1 0⟩])
def qkk (l:List Nd) (vs:List Vr) (seen:Nat) (k c:Int):Pr:=
 { name:=(l.getD k.toNat nd0).words.getD 0 [],copy:=c,places:=2,rest:=[false,true],names:=(vs.take seen).map (·.name),vars:=(List.range seen).map fun (i:Nat)=>(i:Int),edges:=[] }
def qej (l:List Nd) (cs:List Ch) (k:Int) (seen:Nat) (x:List Vr × List Pr) (c:Nat):List Vr × List Pr:=
 let n:=l.getD k.toNat nd0
 let y:=(n.kids.take (varsN l n)).foldl (qfb l) (qkk l x.1 seen k c,x.1)
 (y.2,x.2++[qbf (qd l cs 20) k y.1 (n.kids.drop (varsN l n)) 0 1])
def qdq (l:List Nd) (cs:List Ch) (x:Nat × List Vr × List Pr) (k:Int):Nat × List Vr × List Pr:=
 let n:=l.getD k.toNat nd0
 let seen:=if n.kind=2 then x.1+1 else x.1
 (seen,if n.kind=3 then (List.range (n.nums.getD 0 0).toNat).foldl (qej l cs k seen) x.2 else x.2)
def qde (l:List Nd):Md:=(l.getD 0 nd0).kids.foldl (qir l) { tree:=l }
def qci (l:List Nd):Md:=
 let m:=qde l
 let y:=(l.getD 0 nd0).kids.foldl (qdq l m.chans) (0,m.vars,[])
 { m with globals:=m.vars.length,vars:=y.2.1,procs:=y.2.2 }
end Go.St
end
section
namespace Go.Sx
open Go Go.RowKit
theorem jpy {P : Program} {f : FuncId} {fn : Func} {body : Code} (hf : P.funcs[f]? = some fn) (hb : fn.body = some body) (hname : (fn.name == "runtime.NumGoroutine") = false)
  {e:TypeId} {ep n:Nat} {F:Nat→List AV} (aS:List AV) (bs:List Value) (ha:∀ rd mp vs,RelL rd mp aS vs→vs.toList=bs) {m:Nat} (hm0:0<m) (g:Nat→List AV) (news:List Value) (hnl:news.length=m) (hgl:∀ k,k<m→(g k).length=1)
  (hgr:∀ (k j:Nat) x,k<m→(g k)[j]?=some x→∃ u,news[k * 1+j]?=some u∧u.oneCell'=true∧Rel (fun _ _=>none) Mp.none x u)
  (h:∀ (w:World) (sv:Value) (xs:List Value),Owns w e 1 sv n xs→(∀ t∈tbs,∃ ty fz,w.heap[t.1]?=some (.cells t.2 ty fz))→
   Calls P f (#[sv]++bs.toArray) w fun x w'=>∃ v',x=.returned v'∧Owns w' e 1 v' (n+m) (xs++news)∧w.grownBy w' sv.ownBlock∧(v'.ownBlock=sv.ownBlock∨∃ g,v'.ownBlock=some g∧w.heap.size≤g)) :
  Trip P f (.own 0 0 ep n::aS) [.row [] e 1 ep n F] (.own 0 0 ep (n+m)) [(0,.row [] e 1 ep (n+m) (appF n F m g))] 1:=by
 intro c rd mp w vs hw hrd0 hstd hm hargs
 have hname' : fn.name ≠ "runtime.NumGoroutine" := by simpa using hname
 refine .inl ⟨by simp [callFunc,hf,hname',hb,mark],?_⟩
 have hmem:IsMem (idx 0 [SO.row [] e 1 ep n F]) 0 0 ⟨[],e,1,ep,n,F⟩:=.row (by simp [idx,look])
 obtain ⟨v,xs,h1,h2,h3,h4,h5⟩:=hm.mb 0 0 _ hmem
 dsimp only at h1 h2 h3 h4
 -- the arguments
 obtain ⟨sv,us,rfl⟩:∃ sv us,vs=#[sv]++us:=by
  have h0:vs.toList.length=aS.length+1:=by rw [Array.length_toList,hargs.1];rfl
  rcases hv:vs.toList with _|⟨sv,us⟩
  ·rw [hv] at h0;simp at h0
  ·exact ⟨sv,us.toArray,by apply Array.ext';simpa using hv⟩
 have hus:RelL rd mp aS us:=⟨by have:=hargs.1;simp at this;omega,fun j x u hx hu=>hargs.2 (j+1) x u (by simpa using hx) (by rw [Array.getElem?_append_right (by simp)];simpa using hu)⟩
 have hbs:=ha rd mp us hus
 have hsv:sv=v:=by
  have:=hargs.2 0 (.own 0 0 ep n) sv rfl (by rw [Array.getElem?_append_left (by simp)];rfl)
  cases this with
  | own _ _ _ _ _ _ vr er nr hr he hn hv hs=>rw [h1] at hr;cases hr;exact hv rfl rfl
 subst hsv
 rw [show us=bs.toArray by rw [← hbs]] 
 refine (h w sv xs h2 (fun t ht=>(hm.tabR t ht).2)).mono fun x w' ⟨v',he,hown',hgrow,hat⟩=>.inl ⟨v',he,rd,mp.setRow 0 0 v' ep (n+m),?_,Rd.le.refl _,?_⟩
 ·exact .own _ _ _ _ _ _ _ _ _ (by simp [Mp.setRow]) (zl _) (fun _=>zl _) (fun _ _=>rfl) hown'.sl
 ·have hcells:=qzn (rd:=rd) (mp1:=mp.sel []) (sz:=1) (n:=n) (m:=m) (f:=F) (g:=g) (xs:=xs) (news:=news) (by simpa using h2.1) h3 hgl (fun i j x hi hx=>h4 i j x hi hx) (fun i j x hi hx=>by
   obtain ⟨u,hu,h6,h7⟩:=hgr i j x hi hx
   exact ⟨u,hu,h6,h7.mono (fun _ _ _ h=>by cases h) (Mp.none_le _)⟩)
  have:=hm.turnRow (w':=w') (r:=0) (i:=0) (ep:=ep) (n:=n+m) (f:=appF n F m g) (ob:=none) (R:=⟨[],e,1,ep,n,F⟩) (by simp [jq,idx,look]) trivial h1 h5 (.inr ⟨rfl,.inl (by dsimp only;omega)⟩) hgrow hown' hat hcells.1 hcells.2
  refine ⟨this.1,?_⟩
  have h6:=this.2
  simpa [jy,idx,look,qi] using h6
end Go.Sx
end
section
namespace Go.Proofs
open Go.Shelf Go.RowKit Go.Sort Go.Lib Go.Sx
variable {P:Program} {ρ:Ren}
set_option maxHeartbeats 6400000 in
set_option maxRecDepth 100000 in
theorem AnySb.appendUint_small (L:LaysM.n288 P ρ) (n u:Nat) (hu:u<100) (sv:Value) (xs:List Value) (w:World) (hown:Owns w (ρ.t 5) 1 sv n xs) (hlim:n+20≤140737488355328) :
  Calls P (ρ.f 288) #[sv,.int .u64 u,.int .i64 10] w fun e w'=>∃ v',e=.returned v'∧Owns w' (ρ.t 5) 1 v' (n+(Lib.decDigits u).length) (xs++Lib.byteCells (Lib.decDigits u))∧w.grownBy w' sv.ownBlock∧(v'.ownBlock=sv.ownBlock∨∃ g,v'.ownBlock=some g∧w.heap.size≤g):=by
 have mixed:=L.mixed
 have t5:=L.t5;have a5:=L.a5;have z5:=L.z5;have v5:=L.v5
 have t37:=L.t37;have u37:=run_underlying L.t37;have a37:=L.a37;have z37:=L.z37;have v37:=L.v37
 have t53:=L.t53;have a53:=L.a53;have z53:=L.z53;have v53:=L.v53
 have t3:=L.t3;have a3:=L.a3;have z3:=L.z3;have v3:=L.v3
 have t4:=L.t4;have a4:=L.a4;have z4:=L.z4;have v4:=L.v4
 have t9:=L.t9;have a9:=L.a9;have z9:=L.z9;have v9:=L.v9
 have t171:=L.t171;have a171:=L.a171;have z171:=L.z171;have v171:=L.v171
 have t0:=L.t0;have a0:=L.a0;have z0:=L.z0;have v0:=L.v0
 have t173:=L.t173;have a173:=L.a173;have z173:=L.z173;have v173:=L.v173
 have e283:∀ args w,(callFunc (ρ.f 283) args).run P w=.ok (.enter (ρ.f 283) args) w:=enters_of L.f283 (by kernel_rfl) rfl
 obtain ⟨i0,hi,hz0,hz1,hz2⟩:=info_parts L.i5
 have hlen:(Lib.decDigits u).length≤20:=by
  rw [Lib.decDigits_length]
  by_cases h10:u<10
  ·rw [Lib.nDigits_small h10];omega
  ·rw [Lib.nDigits_big h10,Lib.nDigits_small (show u / 10<10 by omega)];omega
 have hsz:(⟨(Lib.decDigits u).toArray⟩:ByteArray).size=(Lib.decDigits u).length:=by simp [ByteArray.size]
 go_enter L.f288,Body.n288_ntmps ρ
 go_wp2_with (first
  | (go_at_fn (ρ.f 283);refine (Any.internal_strconv_small { L with } u hu _).mono ?_;rintro e w' ⟨rfl,rfl⟩)
  | (at_builtin;refine jpw _ rfl _ _ (ρ.t 37) (ρ.t 9) rfl (ρ.t 5) i0 L.t37 L.t9 hi hz0 hz1 hz2 _ _ _ rfl hown ⟨(Lib.decDigits u).toArray⟩ rfl (by rw [hsz];unfold maxLen;omega) (by rw [hsz];omega) ?_))
 intro v' w1 hown' hgrow hat
 go_wp2
 go_ret
 refine ⟨v',rfl,?_,hgrow,hat⟩
 first|exact hown'|(rw [hsz] at hown';exact hown')
set_option maxHeartbeats 12800000 in
set_option maxRecDepth 100000 in
theorem AnySb.appendUint_big (L:LaysM.n288 P ρ) (n u:Nat) (hu:100≤u) (hu64:u<18446744073709551616) (sv:Value) (xs:List Value) (w:World) (hown:Owns w (ρ.t 5) 1 sv n xs) (hlim:n+20≤140737488355328)
  {nm:String} (hnum:∀ w',Lib.TabIs P w nm .u64 Lib.pow10Tab→(∀ k,k<w.heap.size→w'.heap[k]?=w.heap[k]?)→Calls P (ρ.f 284) #[.int .u64 u] w' fun e w''=>e=.returned (.int .i64 (Lib.nDigits u))∧w''=w') (htab:Lib.TabIs P w nm .u64 Lib.pow10Tab) :
  Calls P (ρ.f 288) #[sv,.int .u64 u,.int .i64 10] w fun e w'=>∃ v',e=.returned v'∧Owns w' (ρ.t 5) 1 v' (n+(Lib.decDigits u).length) (xs++Lib.byteCells (Lib.decDigits u))∧w.grownBy w' sv.ownBlock∧(v'.ownBlock=sv.ownBlock∨∃ g,v'.ownBlock=some g∧w.heap.size≤g):=by
 have mixed:=L.mixed
 have t5:=L.t5;have a5:=L.a5;have z5:=L.z5;have v5:=L.v5
 have t37:=L.t37;have u37:=run_underlying L.t37;have a37:=L.a37;have z37:=L.z37;have v37:=L.v37
 have t53:=L.t53;have a53:=L.a53;have z53:=L.z53;have v53:=L.v53
 have t3:=L.t3;have a3:=L.a3;have z3:=L.z3;have v3:=L.v3
 have t4:=L.t4;have a4:=L.a4;have z4:=L.z4;have v4:=L.v4
 have t9:=L.t9;have a9:=L.a9;have z9:=L.z9;have v9:=L.v9
 have t171:=L.t171;have a171:=L.a171;have z171:=L.z171;have v171:=L.v171
 have t0:=L.t0;have a0:=L.a0;have z0:=L.z0;have v0:=L.v0
 have t173:=L.t173;have a173:=L.a173;have z173:=L.z173;have v173:=L.v173
 have e284:∀ args w,(callFunc (ρ.f 284) args).run P w=.ok (.enter (ρ.f 284) args) w:=enters_of L.f284 (by kernel_rfl) rfl
 have e285:∀ args w,(callFunc (ρ.f 285) args).run P w=.ok (.enter (ρ.f 285) args) w:=enters_of L.f285 (by kernel_rfl) rfl
 obtain ⟨i0,hi,hz0,hz1,hz2⟩:=info_parts L.i5
 have hu1:1≤u:=by omega
 have hnd20:Lib.nDigits u≤20:=by have:=Lib.numDigits_eq u hu1 hu64;split at this <;> omega
 have hal:P.arrayLen (ρ.t 171)=24:=by simp [Program.arrayLen,L.t171]
 have hsl:∀ W,(Instr.sliceAt (ρ.t 171) (.pointer (some ⟨w.heap.size,0,none⟩)) none (some (.int .i64 (Lib.nDigits u:Int))) none).run P W=.ok (.slice (some ⟨w.heap.size,0,none⟩) (Lib.nDigits u) 24) W:=fun W=>by
  rw [run_sliceAt_array_h W (ρ.t 171) ⟨w.heap.size,0,none⟩ (by simp [Program.arrayLen,Program.elem,L.t171]) .i64 (Lib.nDigits u:Int) (by omega) (by rw [hal];omega)]
  go_simp
 have hH0:=Lib.holds_zero0 w (ρ.t 171) (Lib.nDigits u) (by omega)
 have hfmt:=Any.internal_strconv_formatBase10 { L with } w.heap.size 0 24 u (Array.replicate (Lib.nDigits u) 0) (w.alloc (.cells Lib.zeros24 (ρ.t 171))) hH0 (by rw [Array.size_replicate];exact Lib.lt_pow_nDigits u) hu64 (by rw [Array.size_replicate];omega)
 rw [Array.size_replicate] at hfmt
 have HH0:=Lib.hid hH0
 have iu:(100:Int)≤(u:Int):=by omega
 clear hH0 hal
 go_enter L.f288,Body.n288_ntmps ρ
 go_wp2_with (first
  | (go_at_fn (ρ.f 284);refine (hnum _ htab (fun k hk=>heap_alloc_old w _ hk)).mono ?_;rintro e w' ⟨rfl,rfl⟩))
 go_at_fn (ρ.f 285)
 refine hfmt.mono ?_
 rintro e w' ⟨rfl,k,v',dk,rfl,hF⟩
 have hcells:∀ j u',(Lib.byteCells (Lib.decDigits u))[j]?=some u'→((putRow (fun (b:UInt8)=>Value.int .u8 (b.toNat:Int)) (w.alloc (.cells Lib.zeros24 (ρ.t 171))) w.heap.size 0 dk).drewN k).cell? ((⟨w.heap.size,0,none⟩:Addr).add j)=some u':=by
  intro j u' hj
  have hjl:j<(Lib.decDigits u).length:=by
   have h5:=(List.getElem?_eq_some_iff.1 hj).1
   rwa [Lib.byteCells_length] at h5
  have e5:(Lib.byteCells (Lib.decDigits u))[j]?=some (Value.int .u8 ((Lib.decDigits u)[j].toNat:Int)):=by simp [Lib.byteCells,hjl]
  rw [e5] at hj
  cases hj
  rw [Lib.row_is_numeral hF j hjl,Lib.add_plain,World.cell?_drewN]
  exact cell?_putRow (fun (b:UInt8)=>Value.int .u8 (b.toNat:Int)) _ w.heap.size 0 _ dk HH0.out (by rw [hF.size,Array.size_replicate]) j (by rw [hF.size];rw [Lib.decDigits_length] at hjl;exact hjl)
 obtain ⟨os,eo⟩:=Lib.fin_at w (.cells Lib.zeros24 (ρ.t 171)) dk k 0
 have hnx2:Below w.heap.size w ((putRow (fun (b:UInt8)=>Value.int .u8 (b.toNat:Int)) (w.alloc (.cells Lib.zeros24 (ρ.t 171))) w.heap.size 0 dk).drewN k):=by rw [eo];exact Lib.below_grow w.heap.size w (zl _) k os
 have hown2:Owns ((putRow (fun (b:UInt8)=>Value.int .u8 (b.toNat:Int)) (w.alloc (.cells Lib.zeros24 (ρ.t 171))) w.heap.size 0 dk).drewN k) (ρ.t 5) 1 sv n xs:=hown.keep (fun g hg=>hnx2.block g (hown.lt hg))
 generalize (putRow (fun (b:UInt8)=>Value.int .u8 (b.toNat:Int)) (w.alloc (.cells Lib.zeros24 (ρ.t 171))) w.heap.size 0 dk).drewN k=W2 at hcells hown2 hnx2 ⊢
 clear eo HH0 hfmt
 go_wp2_with (at_builtin;refine jpx _ rfl _ _ (ρ.t 37) rfl (ρ.t 5) i0 (.int .u8 0) 1 1 L.t37 hi hz0 hz1 hz2 rfl (by decide) _ _ _ rfl hown2 (.slice (some ⟨w.heap.size,0,none⟩) (Lib.nDigits u) 24) (Lib.nDigits u) (Lib.byteCells (Lib.decDigits u)) rfl ⟨?c0,_,_,rfl,fun _=>⟨_,rfl,hcells,?c2⟩⟩ ?c3 ?c4 ?_)
 case c0=>rw [Lib.byteCells_length,Lib.decDigits_length,Nat.mul_one]
 case c2=>intro u' hu';simp only [Lib.byteCells,List.mem_map] at hu';obtain ⟨b,_,rfl⟩:=hu';rfl
 case c3=>unfold maxLen;omega
 case c4=>omega
 intro v2 w3 hown' hgrow hat
 go_wp2
 go_ret
 refine ⟨v2,rfl,?_,⟨hgrow.os.trans hnx2.os,hgrow.tape.trans hnx2.tape,hgrow.output.trans hnx2.output,zx hnx2.size hgrow.size,fun k hk hne=>(hgrow.block k (xu hk hnx2.size) hne).trans (hnx2.block k hk)⟩,hat.imp id fun ⟨g,h1,h2⟩=>⟨g,h1,zx hnx2.size h2⟩⟩
 rw [Lib.decDigits_length]
 exact hown'
end Go.Proofs
end
