/- Some texts of the library, one behind the other. -/
import Derived.Test.YtikahnkkfkoglaaGreatDoorY21
import Derived.KernelRfl
import Derived.Lib.AppendStr
import Derived.Lib.LaidTab
import Derived.Shelf.GgSortFunc.RowK
import Derived.Sort.WalkB12
import Derived.LaidMore
import Derived.LaidHandle
import Derived.Stop.Joined
import Derived.Stop.LaidErr
import Derived.SevenTiedAt
import Derived.MakeChecks
import Derived.Lay
import Derived.LaidOnce
import Derived.Test.YtikahnkkfkoglaaGreatDoorChecked
set_option linter.unusedSimpArgs false
set_option linter.unusedVariables false
section
namespace Go.Sx
open Go Go.RowKit
section
variable {c:Ctx} {rd:Rd} {mp:Mp} {st:List (Nat × SO)} {nx:Nat} {w:World}
def Mp.addFam (mp:Mp) (id n:Nat):Mp:=⟨mp.blk,fun r i=>if r=id then (if i<n then some (.slice Option.none 0 0,0,0) else Option.none) else mp.row r i⟩
theorem Mp.le_addFam {id n:Nat} (h:∀ j,mp.row id j=Option.none):Mp.le mp (mp.addFam id n):=
 ⟨fun _ _ h=>h,fun r i v e m hr=>by
  refine ⟨v,e,m,?_,.inr ⟨rfl,.inr ⟨rfl,rfl⟩⟩⟩
  simp only [Mp.addFam]
  by_cases hri:r=id
  ·subst hri;rw [h] at hr;cases hr
  ·rw [za hri];exact hr⟩
theorem Mem.newFam (h:Mem c rd mp st nx w) (hsup:Sup c nx) (e:TypeId) (sz n:Nat) :
  Mem c rd (mp.addFam nx n) ((nx,.fam e sz n (fun _=>0) (fun _=>0) (fun _ _=>[]))::st) (nx+1) w:=by
 have hle:Mp.le mp (mp.addFam nx n):=Mp.le_addFam (h.fresh nx hsup.here).2
 have hkeep:∀ r i,r≠nx→(mp.addFam nx n).row r i=mp.row r i:=fun r i hr=>by simp only [Mp.addFam];rw [za hr]
 have hth:∀ p,There ((nx,SO.fam e sz n (fun _=>0) (fun _=>0) (fun _ _=>[]))::st) p→∀ g,blkOf (mp.addFam nx n) p=some g→There st p∧blkOf mp p=some g:=by
  intro p hp g hg
  cases p with
  | bx b=>
   obtain ⟨ty,cs,hl⟩:=hp
   rw [ql] at hl
   split at hl
   ·cases hl
   ·exact ⟨⟨ty,cs,hl⟩,hg⟩
  | rw r i=>
   obtain ⟨R,hR⟩:=hp
   by_cases hr:nx=r
   ·subst hr
    exfalso
    simp only [blkOf,Mp.addFam,zb] at hg
    by_cases hi:i<n
    ·rw [zb hi] at hg;simp [Value.ownBlock] at hg
    ·rw [za hi] at hg;cases hg
   ·refine ⟨⟨R,qql hR hr⟩,?_⟩
    simp only [blkOf] at hg ⊢
    rwa [hkeep r i (Ne.symm hr)] at hg
 refine ⟨h.rdw,h.rd1,h.rdn,h.fr,fun b ty cs hl=>?_,fun r i R hR=>?_,fun p q g hp hq hgp hgq=>?_,fun i hi=>?_,fun i x hx=>?_,fun r e' sz' cnt ep len f hl i hi=>?_,fun r sz' ep n' f hl=>?_,h.tab⟩
 ·rw [ql] at hl
  split at hl
  ·cases hl
  ·exact (h.bx b ty cs hl).keep (Rd.le.refl _) hle (fun g hg=>⟨rfl,(h.home (p:=.bx b) ⟨ty,cs,hl⟩ hg).2.1⟩)
 ·by_cases hr:nx=r
  ·subst hr
   cases hR with
   | row hl=>rw [ql,zb rfl] at hl;cases hl
   | fam hl hi=>
    rw [ql,zb rfl] at hl
    cases hl
    refine ⟨.slice none 0 0,[],?_,⟨by simp,.inl ⟨rfl,rfl⟩⟩,fun k hk=>absurd hk (zh k),fun k j x hk=>absurd hk (zh k),fun g hg=>by simp [Value.ownBlock] at hg⟩
    simp only [Mp.addFam,zb,zb hi]
  ·have hR':=qql hR hr
   exact (h.mb r i R hR').keep (Rd.le.refl _) hle (hkeep r i (Ne.symm hr)) (fun g hg=>⟨rfl,(h.home (p:=.rw r i) ⟨R,hR'⟩ hg).2.1⟩)
 ·obtain ⟨hp',hg1⟩:=hth p hp g hgp
  obtain ⟨hq',hg2⟩:=hth q hq g hgq
  exact h.inj p q g hp' hq' hg1 hg2
 ·obtain ⟨h1,h2⟩:=hsup.next i hi
  have:=h.fresh i h1
  exact ⟨this.1,fun j=>by rw [hkeep i j h2];exact this.2 j⟩
 ·rw [ql] at hx
  by_cases hi:nx=i
  ·subst hi;exact fun hf=>(hsup.next _ hf).2 rfl
  ·rw [za hi] at hx;exact fun hf=>h.ids _ _ hx (hsup.next _ hf).1
 ·rw [ql] at hl
  by_cases hr:nx=r
  ·subst hr
   rw [zb rfl] at hl
   cases hl
   simp only [Mp.addFam,zb]
   rw [za (by omega)]
  ·rw [za hr] at hl
   rw [hkeep r i (Ne.symm hr)]
   exact h.out r e' sz' cnt ep len f hl i hi
 ·rw [ql] at hl
  by_cases hr:nx=r
  ·rw [zb hr] at hl;cases hl
  ·rw [za hr] at hl
   obtain ⟨v,h1,h2⟩:=h.ro r sz' ep n' f hl
   exact ⟨v,by rw [hkeep r 0 (Ne.symm hr)];exact h1,h2⟩
theorem qse {id:Nat} {o:SO} {r i:Nat} {R:RowV} (hr:r≠id) (h:IsMem (qj st id o) r i R):IsMem st r i R:=by
 cases h with
 | row hl=>rw [qd,za hr] at hl;exact .row hl
 | fam hl hi=>rw [qd,za hr] at hl;exact .fam hl hi
theorem Mem.rerow (h:Mem c rd mp st nx w) {id:Nat} {ids ids':List Nat} {e:TypeId} {sz ep n:Nat} {f f':Nat→List AV} (hl:look st id=some (.row ids e sz ep n f)) (hlen:∀ k,k<n→(f' k).length=sz)
  (hrel:∀ (k j:Nat) x y v,k<n→(f' k)[j]?=some x→(f k)[j]?=some y→Rel rd (mp.sel ids) y v→Rel rd (mp.sel ids') x v):Mem c rd mp (qj st id (.row ids' e sz ep n f')) nx w:=by
 obtain ⟨v,xs,h1,h2,h3,h4,h5⟩:=h.mb id 0 _ (.row hl)
 simp only at h1 h2 h3 h4 h5
 refine h.upd (some (.rw id 0)) (Rd.le.refl _) (Mp.le.refl _) h.fr h.rdw h.rd1 h.rdn (fun b' ty' cs' hl' hne'=>?_) (fun r i R hR hne=>?_)
  (fun p hp hp'=>⟨by cases p <;> rfl,fun g hg=>⟨rfl,(h.home hp hg).2.1⟩⟩) (fun b' ty' cs'' ht hl'=>by cases ht) (fun r i R ht hR=>?_)
  (fun p g ht hp hg q hq hq' hg'=>?_) h.fresh (fun i y hy=>?_) (fun r e' sz' cnt ep' len f'' hl'=>?_) (fun r sz' ep' n' f'' hl'=>?_)
 ·rw [qd] at hl'
  by_cases hb:b'=id
  ·rw [zb hb,hb,hl] at hl';cases hl'
  ·rw [za hb] at hl';exact hl'
 ·by_cases hr:r=id
  ·subst hr
   cases hR with
   | row hl'=>exact absurd rfl hne
   | fam hl' _=>rw [qd,zb rfl,hl] at hl';cases hl'
  ·exact qse hr hR
 ·simp only [Option.some.injEq,Pl.rw.injEq] at ht
  obtain ⟨rfl,rfl⟩:=ht
  cases hR with
  | row hl'=>
   rw [qd,zb rfl,hl] at hl'
   cases hl'
   refine ⟨v,xs,h1,h2,hlen,fun k j x hk hx=>?_,h5⟩
   simp only at hk hx ⊢
   have hj:j<(f k).length:=by rw [h3 k hk,← hlen k hk];exact (List.getElem?_eq_some_iff.1 hx).1
   obtain ⟨u,hu,h6,h7⟩:=h4 k j _ hk (ze hj)
   exact ⟨u,hu,h6,hrel k j x _ u hk hx (ze hj) h7⟩
  | fam hl' _=>rw [qd,zb rfl,hl] at hl';cases hl'
 ·cases ht
  exact absurd (congrArg some (h.inj q (.rw id 0) g hq ⟨_,.row hl⟩ hg' hg)) hq'
 ·rw [qd] at hy
  by_cases hid:i=id
  ·subst hid;exact h.ids i _ hl
  ·rw [za hid] at hy;exact h.ids i y hy
 ·rw [qd] at hl'
  by_cases hid:r=id
  ·subst hid;rw [zb rfl,hl] at hl';cases hl'
  ·rw [za hid] at hl';exact h.out r e' sz' cnt ep' len f'' hl'
 ·rw [qd] at hl'
  by_cases hid:r=id
  ·subst hid;rw [zb rfl,hl] at hl';cases hl'
  ·rw [za hid] at hl';exact ⟨hl',rfl⟩
def Turn (E:Env) (s s':ASt):Prop:=∀ rd mp a w,SR E.c rd mp s a w→Base E rd mp→∃ mp',SR E.c rd mp' s' a w∧Base E rd mp'
theorem Turn.trans {E:Env} {s s' s'':ASt} (h:Turn E s s') (k:Turn E s' s''):Turn E s s'':=fun rd mp a w h1 h2=>by
 obtain ⟨mp',h3,h4⟩:=h rd mp a w h1 h2
 exact k rd mp' a w h3 h4
theorem Turn.of_sub {E:Env} {s s':ASt} (h:Sub s s') (hc:s'.closed E.nxb=true):Turn E s s':=fun _ _ _ _ h1 h2=>⟨_,h1.sub h2.std h hc,h2.sub hc⟩
theorem qvh {E:Env} {B:Nat→ASt→Prop} {body:Code} {k:List Itm} {s s':ASt} (ht:Turn E s s') (h:qat E B body k s'):qat E B body k s:=by
 unfold qat at h ⊢
 intro rd mp a w hs hb hsz
 obtain ⟨mp',h1,h2⟩:=ht rd mp a w hs hb
 exact h rd mp' a w h1 h2 hsz
theorem Turn.nils {E:Env} {sl:List (Nat × AV)} (id:Nat) (e':TypeId) (sz':Nat) {e:TypeId} {ep n:Nat} {f:Nat→List AV} (hl:look st id=some (.row [] e 1 ep n f)) (hf:∀ k,k<n→f k=[.nils]) :
  Turn E ⟨sl,st,nx⟩ ⟨sl,(nx,.fam e' sz' n (fun _=>0) (fun _=>0) (fun _ _=>[]))::qj st id (.row [nx] e 1 ep n (fun k=>[.own nx k 0 0])),nx+1⟩:=by
 intro rd mp a w hs hb
 have hsup:Sup E.c nx:=Sup.std hb.std nx
 have hfr:=hs.mem.fresh nx hsup.here
 have hmem:=hs.mem.newFam hsup e' sz' n
 have hle:Mp.le mp (mp.addFam nx n):=Mp.le_addFam hfr.2
 have hbn:nx≠id:=by rintro rfl;exact hs.mem.ids _ _ hl hsup.here
 have hl2:look ((nx,SO.fam e' sz' n (fun _=>0) (fun _=>0) (fun _ _=>[]))::st) id=some (.row [] e 1 ep n f):=by rw [ql,za hbn];exact hl
 have hm2:=hmem.rerow (ids':=[nx]) (f':=fun k=>[.own nx k 0 0]) hl2 (fun _ _=>rfl) (fun k j x y v hk hx hy hr=>by
  rw [hf k hk] at hy
  cases j with
  | succ j=>simp at hy
  | zero=>
   simp only [zbf,Option.some.injEq] at hx hy
   subst hx hy
   cases hr
   exact .own _ _ _ _ _ _ (.slice none 0 0) 0 0 (by simp only [Mp.sel,zw,zb,Mp.addFam,zb hk]) (zl _) (fun _=>zl _) (fun _ _=>rfl) rfl)
 have hset:∀ o,qj ((nx,SO.fam e' sz' n (fun _=>0) (fun _=>0) (fun _ _=>[]))::st) id o=(nx,SO.fam e' sz' n (fun _=>0) (fun _=>0) (fun _ _=>[]))::qj st id o:=fun o=>by
  have:Nat.beq nx id=false:=by
   cases hb':Nat.beq nx id with
   | false=>rfl
   | true=>exact absurd (zj hb') hbn
  simp only [qj,this,cond_false]
 rw [hset] at hm2
 exact ⟨_,⟨fun t=>(hs.slots t).mono (Rd.le.refl _) hle,hs.defers,hm2⟩,hb.step (Rd.le.refl _) hle⟩
theorem jnm {E:Env} {B:Nat→ASt→Prop} {body:Code} {k:List Itm} {sl:List (Nat × AV)} (id:Nat) (e':TypeId) (sz':Nat) {e:TypeId} {ep n:Nat} {f:Nat→List AV} (hl:look st id=some (.row [] e 1 ep n f)) (hf:∀ k,k<n→f k=[.nils])
  (h:frcN (nx+1) fun nx'=>jt (qj st id (.row [nx] e 1 ep n (fun k=>[.own nx k 0 0]))) fun st'=>qat E B body k ⟨sl,(nx,.fam e' sz' n (fun _=>0) (fun _=>0) (fun _ _=>[]))::st',nx'⟩):qat E B body k ⟨sl,st,nx⟩:=by
 rw [jm,qac] at h
 exact qvh (Turn.nils id e' sz' hl hf) h
end
def qoi:List (Nat × SO)→Bool
 | []=>true
 | (_,.row ids _ _ _ _ _)::r=>ids.isEmpty && qoi r
 | _::r=>qoi r
theorem qb {n:Nat}:∀ {st:List (Nat × SO)},qoi st=true→rowsLt n st
 | [],_=>fun j ids e sz ep m f hl=>by simp [look] at hl
 | (i,o)::r,h=>fun j ids e sz ep m f hl hne=>by
  rw [ql] at hl
  by_cases hi:i=j
  ·rw [zb hi] at hl
   cases hl
   simp only [qoi,zf,List.isEmpty_iff] at h
   exact absurd h.1 hne
  ·rw [za hi] at hl
   refine qb (st:=r) ?_ j ids e sz ep m f hl hne
   cases o <;> simp only [qoi,zf] at h <;> first|exact h.2|exact h
theorem jnn {n k:Nat} {f f':Nat→List AV} {x:List AV} (hk:x=f' k) (h:∀ j,j<n→j≠k→f j=f' j):∀ j,j<n→LeL (if j=k then x else f j) (f' j):=by
 intro j hj
 refine LeL.of_eq ?_
 by_cases hjk:j=k
 ·rw [zb hjk,hjk];exact hk
 ·rw [za hjk];exact h j hj hjk
theorem jno {n:Nat} {g h:Nat→AV} {i k:Nat} {x:AV} (hk:k=i) (hx:x=g i):∀ j,j<n→LeL (if j=k then [x] else [if j<i then g j else h j]) [if j<i+1 then g j else h j]:=by
 subst hk
 refine jnn (f':=fun j=>[if j<k+1 then g j else h j]) (by simp [hx]) (fun j _ hne=>?_)
 have:(j<k)=(j<k+1):=by simp;omega
 simp only [this]
theorem qcb {ids:List Nat} {e:TypeId} {sz ep n:Nat} {f f':Nat→List AV} (h:∀ k,k<n→f k=f' k):SoLe (.row ids e sz ep n f) (.row ids e sz ep n f'):=
 ⟨⟨rfl,rfl,rfl⟩,rfl,rfl,fun k hk=>LeL.of_eq (h k hk)⟩
theorem qgs {e:TypeId} {sz cnt:Nat} {ep ep' len len':Nat→Nat} {f f':Nat→Nat→List AV} (he:∀ k,k<cnt→ep k=ep' k) (hl:∀ k,k<cnt→len k=len' k) (h:∀ k j,k<cnt→j<len k→f k j=f' k j):SoLe (.fam e sz cnt ep len f) (.fam e sz cnt ep' len' f'):=
 ⟨⟨rfl,rfl⟩,rfl,fun k hk=>⟨he k hk,hl k hk⟩,fun k j hk hj=>LeL.of_eq (h k j hk hj)⟩
def qvi:List Oper→List Nat
 | []=>[]
 | ⟨some d,_,_,_,_,_⟩::r=>d::qvi r
 | ⟨none,_,_,_,_,_⟩::r=>qvi r
def qdo:Code→List Nat
 | .region _ ops _=>qvi ops.toList
 | .seq a b=>qdo a++qdo b
 | .cond _ a b=>qdo a++qdo b
 | .block _ b=>qdo b
 | .loop b=>qdo b
 | .scope b=>qdo b
 | _=>[]
def qsf:List Operand→List Nat→List Nat
 | [],acc=>acc
 | .tmp t::r,acc=>t::qsf r acc
 | _::r,acc=>qsf r acc
def qvj:List Oper→List Nat→List Nat
 | [],acc=>acc
 | o::r,acc=>qsf o.op.operands.toList (qvj r acc)
def rdOf:Code→List Nat→List Nat
 | .region _ ops _,acc=>qvj ops.toList acc
 | .seq a b,acc=>rdOf a (rdOf b acc)
 | .cond o a b,acc=>qsf [o] (rdOf a (rdOf b acc))
 | .block _ b,acc=>rdOf b acc
 | .loop b,acc=>rdOf b acc
 | .scope b,acc=>rdOf b acc
 | _,acc=>acc
def qfv:List Itm→List Nat→List Nat
 | [],acc=>acc
 | .code c::k,acc=>rdOf c (qfv k acc)
 | .ops _ l::k,acc=>qvj l (qfv k acc)
 | _::k,acc=>qfv k acc
def qgt:List ResultVar→List Nat
 | []=>[]
 | .tmp t::r=>t::qgt r
 | .cell t _::r=>t::qgt r
def inB:List Nat→Nat→Bool
 | [],_=>false
 | x::r,t=>bif Nat.beq x t then true else inB r t
def qfw (asg live:List Nat):List (Nat × AV)→List Nat→List Nat
 | [],_=>[]
 | (t,_)::r,seen=>bif inB seen t then qfw asg live r seen else bif inB asg t || !inB live t then qfw asg live r (t::seen) else t::qfw asg live r (t::seen)
def qgu (turn:List (Nat × SO)):List (Nat × SO)→List Nat
 | []=>[]
 | (i,_)::r=>bif inB (turn.map (·.1)) i then qgu turn r else i::qgu turn r
theorem qm {sl:List (Nat × AV)} {st:List (Nat × SO)} {nx:Nat} {E:Env} {B:Nat→ASt→Prop} {body:Code} {k:List Itm} (hT:∀ t,E.T t=tab E.P t) (n lvl:Nat) {G:Type} (ov:G→List (Nat × AV)) (so:G→List (Nat × SO)) (φ:G→Prop) (μ:G→Nat)
  (g0:G) (h0:φ g0) (hs0:SubSl ⟨sl,st,nx⟩ (ov g0)) (ht0:SubSt st (so g0)) (hcl:∀ g,(ASt.mk (ov g++kept sl (qfw (qdo body++(ov g0).map (·.1)) (rdOf body (qfv k (qgt E.fn.results.toList))) sl [])) (so g++jf st (qgu (so g0) st)) nx).closed E.nxb=true) (hmk:qgp lvl k=true)
  (round:qkl sl (qfw (qdo body++(ov g0).map (·.1)) (rdOf body (qfv k (qgt E.fn.results.toList))) sl []) fun kl=>jt (jf st (qgu (so g0) st)) fun ks=>∀ g,φ g→exec E (fun m s'=>bif Nat.beq m lvl then ∃ g',φ g'∧(SubSl s' (ov g')∧SubSt s'.st (so g'))∧(SubSl s' kl∧SubSt s'.st ks)∧μ g' < μ g else B m s') n (.code body::.mark lvl::k) ⟨ov g++kl,so g++ks,nx⟩):qat E B body k ⟨sl,st,nx⟩:=
 qiy hT n lvl _ _ ov so φ μ g0 h0 hs0 ht0 hcl hmk round
def CallX {α:Type} (p q:α→Prop):Prop:=∃ x,p x∧q x
theorem CallX.intro {α:Type} {p q:α→Prop} (x:α) (h:p x) (k:q x):CallX p q:=⟨x,h,k⟩
theorem CallX.ex {α:Type} {p q:α→Prop} (h:CallX p q):∃ x,p x∧q x:=h
def OrdG (b:Bool):Prop:=b=true
theorem OrdG.intro {b:Bool} (h:b=true):OrdG b:=h
theorem OrdG.is {b:Bool} (h:OrdG b):b=true:=h
theorem cj_iff {ob:Option DP} {r:Prop}:cj ob r↔obT ob∧r:=by
 cases ob with
 | none=>simp [cj,obT]
 | some d=>exact ⟨fun h=>⟨Ob.left h,Ob.right h⟩,fun h=>Ob.intro h.1 h.2⟩
def DX (E:Env) (B:Nat→ASt→Prop) (n:Nat) (k:List Itm) (full:Array Oper) (ord:List AV→Bool):List Oper→List AV→ASt→Prop
 | [],acc,s=>Ob (OrdG (ord acc)) (exec E B n k s)
 | ⟨dst,op,_,_,_,guard⟩::rest,acc,⟨sl,st,nx⟩=>
  match jq E dst with
  | false=>False
  | true=>
   match guard with
   | none=>
    match aop E.T E.C ⟨sl,st,nx⟩ dst op with
    | .ok ob v=>bif jc op then False else cj ob (frc v (je sl dst (fun sl'=>DX E B n k full ord rest acc ⟨sl',st,nx⟩)))
    | .mem ob v st' nx'=>bif jc op then False else cj ob (frcN nx' fun nx'=>jt st' fun st'=>frc v (je sl dst (fun sl'=>DX E B n k full ord rest acc ⟨sl',st',nx'⟩)))
    | .call f args=>bif jc op then (frcL args fun args=>CallX (qby E.P f args) fun x=>je sl dst (fun sl'=>DX E B n k full ord rest (acc++[x]) ⟨sl',st,nx⟩) x) else False
    | .bad=>False
   | some (j,want)=>
    match (qbs full j).map (ASt.get ⟨sl,st,nx⟩) with
    | some x=>
     match qcr want x with
     | some g=>
      match aop E.T E.C ⟨sl,st,nx⟩ dst op with
      | .ok ob v=>bif jc op then False else cj (gob g (andO (jb st v) ob)) (frc (strip st v) (fun v'=>je sl dst (fun sl'=>DX E B n k full ord rest acc ⟨sl',st,nx⟩) (.cnd g v')))
      | .call f args=>bif jc op then (frcL args fun args=>CallX (fun x=>g=true→qby E.P f args x) fun x=>je sl dst (fun sl'=>DX E B n k full ord rest (acc++[x]) ⟨sl',st,nx⟩) (.cnd g x)) else False
      | _=>False
     | none=>False
    | none=>False
theorem jnp {E:Env} {B:Nat→ASt→Prop} {n:Nat} {k:List Itm} {full:Array Oper} {ord:List AV→Bool}:∀ (l:List Oper) (acc:List AV) (s:ASt),DX E B n k full ord l acc s→
  ∃ cs,ord (acc++cs)=true∧qcs E B n k full l cs s:=by
 intro l
 induction l with
 | nil=>intro acc s h;exact ⟨[],by rw [xl];exact (Ob.left h).is,Ob.right h⟩
 | cons o rest ih=>
  intro acc s h
  obtain ⟨dst,op,ty,pos,aft,guard⟩:=o
  obtain ⟨sl,st,nx⟩:=s
  simp only [DX] at h
  cases hd:jq E dst with
  | false=>simp only [hd] at h
  | true=>
   simp only [hd] at h
   cases guard with
   | none=>
    simp only at h
    cases hr:aop E.T E.C ⟨sl,st,nx⟩ dst op with
    | bad=>simp only [hr] at h
    | ok ob v=>
     simp only [hr] at h
     cases hc:jc op with
     | true=>simp only [hc,cond_true] at h
     | false=>
      simp only [hc,cond_false,jv,ja] at h
      obtain ⟨hob,hk⟩:=cj_iff.1 h
      obtain ⟨cs,h1,h2⟩:=ih _ _ hk
      exact ⟨cs,h1,by simp only [qcs,hd,hr,hc,cond_false,jv,ja];exact cj_iff.2 ⟨hob,h2⟩⟩
    | mem ob v st' nx'=>
     simp only [hr] at h
     cases hc:jc op with
     | true=>simp only [hc,cond_true] at h
     | false=>
      simp only [hc,cond_false,jm,qac,jv,ja] at h
      obtain ⟨hob,hk⟩:=cj_iff.1 h
      obtain ⟨cs,h1,h2⟩:=ih _ _ hk
      exact ⟨cs,h1,by simp only [qcs,hd,hr,hc,cond_false,jm,qac,jv,ja];exact cj_iff.2 ⟨hob,h2⟩⟩
    | call f args=>
     simp only [hr] at h
     cases hc:jc op with
     | false=>simp only [hc,cond_false] at h
     | true=>
      simp only [hc,cond_true,qce] at h
      obtain ⟨x,hx,hk⟩:=h.ex
      simp only [ja] at hk
      obtain ⟨cs,h1,h2⟩:=ih _ _ hk
      exact ⟨x::cs,by rw [zn] at h1;exact h1,by simp only [qcs,hd,hr,hc,qce,ja];exact Ob.intro hx h2⟩
   | some jw=>
    obtain ⟨j,want⟩:=jw
    simp only at h
    cases hy:(qbs full j).map (ASt.get ⟨sl,st,nx⟩) with
    | none=>simp only [hy] at h
    | some y=>
     simp only [hy] at h
     cases hg:qcr want y with
     | none=>simp only [hg] at h
     | some g=>
      simp only [hg] at h
      cases hr:aop E.T E.C ⟨sl,st,nx⟩ dst op with
      | bad=>simp only [hr] at h
      | mem=>simp only [hr] at h
      | ok ob v=>
       simp only [hr] at h
       cases hc:jc op with
       | true=>simp only [hc,cond_true] at h
       | false=>
        simp only [hc,cond_false,jv,ja] at h
        obtain ⟨hob,hk⟩:=cj_iff.1 h
        obtain ⟨cs,h1,h2⟩:=ih _ _ hk
        exact ⟨cs,h1,by simp only [qcs,hd,hy,hg,hr,hc,cond_false,jv,ja];exact cj_iff.2 ⟨hob,h2⟩⟩
      | call f args=>
       simp only [hr] at h
       cases hc:jc op with
       | false=>simp only [hc,cond_false] at h
       | true=>
        simp only [hc,cond_true,qce] at h
        obtain ⟨x,hx,hk⟩:=h.ex
        simp only [ja] at hk
        obtain ⟨cs,h1,h2⟩:=ih _ _ hk
        exact ⟨x::cs,by rw [zn] at h1;exact h1,by simp only [qcs,hd,hy,hg,hr,hc,qce,ja];exact Ob.intro hx h2⟩
theorem jnq {E:Env} {B:Nat→ASt→Prop} {id:Nat} {ops:Array Oper} {k:List Itm} {s:ASt} (hT:∀ t,E.T t=tab E.P t) (hmix:E.P.follows .mixedOrders=true) (n:Nat)
  (h:DX E B n k ops (fun cs=>match drun E ops ops.toList cs s with|some L=>qhn ops L|none=>true) ops.toList [] s):qab E B id ops k s:=by
 obtain ⟨cs,h1,h2⟩:=jnp _ _ _ h
 exact qkg hT hmix n cs h1 h2
def D3X (E:Env) (B:Nat→ASt→Prop) (n:Nat) (k:List Itm) (full:Array Oper) (ord:List C3→Bool):List Oper→List C3→ASt→Prop
 | [],acc,s=>Ob (OrdG (ord acc)) (exec E B n k s)
 | ⟨dst,op,_,_,_,guard⟩::rest,acc,⟨sl,st,nx⟩=>
  match jq E dst with
  | false=>False
  | true=>
   match guard with
   | none=>
    match aop E.T E.C ⟨sl,st,nx⟩ dst op with
    | .ok ob v=>bif jc op then False else cj ob (frcN (nx+1) fun nx=>frc v (je sl dst (fun sl'=>D3X E B n k full ord rest acc ⟨sl',st,nx⟩)))
    | .mem ob v st' _=>bif jc op then False else cj ob (frcN (nx+1) fun nx'=>jt st' fun st'=>frc v (je sl dst (fun sl'=>D3X E B n k full ord rest acc ⟨sl',st',nx'⟩)))
    | .call f args=>bif jc op then (frcL args fun args=>CallX (qby E.P f args) fun x=>frcN (nx+1) fun nx=>je sl dst (fun sl'=>D3X E B n k full ord rest (acc++[.con x]) ⟨sl',st,nx⟩) x) else False
    | .bad=>False
   | some (j,want)=>
    match (qbs full j).map (ASt.get ⟨sl,st,nx⟩) with
    | some x=>
     match qcr want x with
     | some g=>
      match aop E.T E.C ⟨sl,st,nx⟩ dst op with
      | .ok ob v=>bif jc op then False else cj (gob g (andO (jb st v) ob)) (frcN (nx+1) fun nx=>frc (strip st v) (fun v'=>je sl dst (fun sl'=>D3X E B n k full ord rest acc ⟨sl',st,nx⟩) (.cnd g v')))
      | .call f args=>bif jc op then (frcL args fun args=>CallX (fun x=>g=true→qby E.P f args x) fun x=>frcN (nx+1) fun nx=>je sl dst (fun sl'=>D3X E B n k full ord rest (acc++[.con x]) ⟨sl',st,nx⟩) (.cnd g x)) else False
      | _=>False
     | none=>False
    | none=>False
theorem jnr {E:Env} {B:Nat→ASt→Prop} {n:Nat} {k:List Itm} {full:Array Oper} {ord:List C3→Bool}:∀ (l:List Oper) (acc:List C3) (s:ASt),D3X E B n k full ord l acc s→
  ∃ cs,ord (acc++cs)=true∧qct E B n k full l cs s:=by
 intro l
 induction l with
 | nil=>intro acc s h;exact ⟨[],by rw [xl];exact (Ob.left h).is,Ob.right h⟩
 | cons o rest ih=>
  intro acc s h
  obtain ⟨dst,op,ty,pos,aft,guard⟩:=o
  obtain ⟨sl,st,nx⟩:=s
  simp only [D3X] at h
  cases hd:jq E dst with
  | false=>simp only [hd] at h
  | true=>
   simp only [hd] at h
   cases guard with
   | none=>
    simp only at h
    cases hr:aop E.T E.C ⟨sl,st,nx⟩ dst op with
    | bad=>simp only [hr] at h
    | ok ob v=>
     simp only [hr] at h
     cases hc:jc op with
     | true=>simp only [hc,cond_true] at h
     | false=>
      simp only [hc,cond_false,jm,jv,ja] at h
      obtain ⟨hob,hk⟩:=cj_iff.1 h
      obtain ⟨cs,h1,h2⟩:=ih _ _ hk
      exact ⟨cs,h1,by simp only [qct,hd,hr,hc,cond_false,jm,jv,ja];exact cj_iff.2 ⟨hob,h2⟩⟩
    | mem ob v st' nx'=>
     simp only [hr] at h
     cases hc:jc op with
     | true=>simp only [hc,cond_true] at h
     | false=>
      simp only [hc,cond_false,jm,qac,jv,ja] at h
      obtain ⟨hob,hk⟩:=cj_iff.1 h
      obtain ⟨cs,h1,h2⟩:=ih _ _ hk
      exact ⟨cs,h1,by simp only [qct,hd,hr,hc,cond_false,jm,qac,jv,ja];exact cj_iff.2 ⟨hob,h2⟩⟩
    | call f args=>
     simp only [hr] at h
     cases hc:jc op with
     | false=>simp only [hc,cond_false] at h
     | true=>
      simp only [hc,cond_true,qce] at h
      obtain ⟨x,hx,hk⟩:=h.ex
      simp only [jm,ja] at hk
      obtain ⟨cs,h1,h2⟩:=ih _ _ hk
      exact ⟨.con x::cs,by rw [zn] at h1;exact h1,by simp only [qct,hd,hr,hc,qce,jm,ja];exact Ob.intro hx h2⟩
   | some jw=>
    obtain ⟨j,want⟩:=jw
    simp only at h
    cases hy:(qbs full j).map (ASt.get ⟨sl,st,nx⟩) with
    | none=>simp only [hy] at h
    | some y=>
     simp only [hy] at h
     cases hg:qcr want y with
     | none=>simp only [hg] at h
     | some g=>
      simp only [hg] at h
      cases hr:aop E.T E.C ⟨sl,st,nx⟩ dst op with
      | bad=>simp only [hr] at h
      | mem=>simp only [hr] at h
      | ok ob v=>
       simp only [hr] at h
       cases hc:jc op with
       | true=>simp only [hc,cond_true] at h
       | false=>
        simp only [hc,cond_false,jm,jv,ja] at h
        obtain ⟨hob,hk⟩:=cj_iff.1 h
        obtain ⟨cs,h1,h2⟩:=ih _ _ hk
        exact ⟨cs,h1,by simp only [qct,hd,hy,hg,hr,hc,cond_false,jm,jv,ja];exact cj_iff.2 ⟨hob,h2⟩⟩
      | call f args=>
       simp only [hr] at h
       cases hc:jc op with
       | false=>simp only [hc,cond_false] at h
       | true=>
        simp only [hc,cond_true,qce] at h
        obtain ⟨x,hx,hk⟩:=h.ex
        simp only [jm,ja] at hk
        obtain ⟨cs,h1,h2⟩:=ih _ _ hk
        exact ⟨.con x::cs,by rw [zn] at h1;exact h1,by simp only [qct,hd,hy,hg,hr,hc,qce,jm,ja];exact Ob.intro hx h2⟩
theorem jbm {E:Env} {B:Nat→ASt→Prop} {id:Nat} {ops:Array Oper} {k:List Itm} {s:ASt} (hT:∀ t,E.T t=tab E.P t) (hmix:E.P.follows .mixedOrders=true) (n:Nat)
  (h:D3X E B n k ops (fun cs=>match qax E ops ops.toList cs s with|some (L,_)=>qht ops L|none=>false) ops.toList [] s):qab E B id ops k s:=by
 obtain ⟨cs,h1,h2⟩:=jnr _ _ _ h
 exact qbm hT hmix n cs h1 h2
theorem jns {P:Program} {f:FuncId} {args:List AV} {res:AV} (h:Con P f args res) (hp:args.all AV.pure=true):qby P f args res:=⟨args,h,hp,LeL.refl _⟩
theorem jbn {P:Program} {f:FuncId} {args:List AV} {res:AV} {g:Bool} (h:g=true→Con P f (args.map unc) res) (hg:qho g args) (hp:(args.map unc).all AV.pure=true):g=true→qby P f args res:=fun e=>⟨args.map unc,h e,hp,qny e _ hg⟩
attribute [irreducible] CallX OrdG
section
variable {c:Ctx} {rd:Rd} {mp:Mp} {st:List (Nat × SO)} {nx:Nat} {w:World}
theorem qez {o:SO} {i:Nat}:∀ {ks:List Nat},look (jf st ks) i=some o→look st i=some o∧i∈ks
 | [],h=>by simp [jf,look] at h
 | k::ks,h=>by
  unfold jf at h
  cases hk:look st k with
  | none=>rw [hk] at h;obtain ⟨h1,h2⟩:=qez (ks:=ks) h;exact ⟨h1,zq _ h2⟩
  | some y=>
   rw [hk] at h
   simp only [ql] at h
   by_cases hki:k=i
   ·rw [zb hki] at h;cases h;subst hki;exact ⟨hk,zp ..⟩
   ·rw [za hki] at h;obtain ⟨h1,h2⟩:=qez (ks:=ks) h;exact ⟨h1,zq _ h2⟩
def qvk:Pl→Nat
 | .bx b=>b
 | .rw r _=>r
theorem There.kept {ks:List Nat} {p:Pl} (h:There (jf st ks) p):There st p∧qvk p∈ks:=by
 cases p with
 | bx b=>obtain ⟨ty,cs,hl⟩:=h;exact ⟨⟨ty,cs,(qez hl).1⟩,(qez hl).2⟩
 | rw r i=>
  obtain ⟨R,hR⟩:=h
  cases hR with
  | row hl=>exact ⟨⟨_,.row (qez hl).1⟩,(qez hl).2⟩
  | fam hl hi=>exact ⟨⟨_,.fam (qez hl).1 hi⟩,(qez hl).2⟩
theorem There.dropped {ks:List Nat} {p:Pl} (h:There (qr ks st) p):There st p∧qvk p ∉ ks:=by
 have key:∀ i x,look (qr ks st) i=some x→look st i=some x∧i ∉ ks:=fun i x hx=>by
  rw [qhs] at hx
  by_cases hi:i∈ks
  ·rw [zb hi] at hx;cases hx
  ·rw [za hi] at hx;exact ⟨hx,hi⟩
 cases p with
 | bx b=>obtain ⟨ty,cs,hl⟩:=h;exact ⟨⟨ty,cs,(key _ _ hl).1⟩,(key _ _ hl).2⟩
 | rw r i=>
  obtain ⟨R,hR⟩:=h
  cases hR with
  | row hl=>exact ⟨⟨_,.row (key _ _ hl).1⟩,(key _ _ hl).2⟩
  | fam hl hi=>exact ⟨⟨_,.fam (key _ _ hl).1 hi⟩,(key _ _ hl).2⟩
theorem Mem.dropped (hm:Mem c rd mp st nx w) (ks:List Nat):Mem c rd mp (qr ks st) nx w:=hm.forget fun i x hx=>by
 rw [qhs] at hx
 split at hx
 ·cases hx
 ·exact hx
theorem Mem.freeze (hm:Mem c rd mp st nx w) (ks:List Nat):Mem c (frzRd rd mp (qr ks st) w) mp (jf st ks) nx w:=by
 have hd:=hm.dropped ks
 have hr:=qut hd
 have hk:Mem c rd mp (jf st ks) nx w:=hm.forget fun i x hx=>(qez hx).1
 have apart:∀ p g,There (jf st ks) p→blkOf mp p=some g→∀ o,frzRd rd mp (qr ks st) w g o=none:=by
  intro p g hp hg o
  cases ho:frzRd rd mp (qr ks st) w g o with
  | none=>rfl
  | some u=>
   exfalso
   rcases qnq ho with h|⟨_,_,q,hq,hgq⟩
   ·rw [(hk.home hp hg).2.1 o] at h;cases h
   ·have e:=hm.inj p q g hp.kept.1 hq.dropped.1 hg hgq
    exact hq.dropped.2 (e ▸ hp.kept.2)
 refine ⟨hr.1,hr.2,fun g o v h=>?_,hm.fr,fun b ty cs hl=>?_,fun r i R hR=>?_,hk.inj,hk.fresh,hk.ids,hk.out,fun r sz ep n f hl=>?_,hm.tab.1,hm.tab.2.trans qci⟩
 ·rcases qnq h with h|⟨_,_,p,hp,hg⟩
  ·exact hm.rdn g o v h
  ·exact .inr (hd.home hp hg).2.2
 ·exact (hk.bx b ty cs hl).keep qci (Mp.le.refl _) (fun g hg=>⟨rfl,apart (.bx b) g ⟨ty,cs,hl⟩ hg⟩)
 ·exact (hk.mb r i R hR).keep qci (Mp.le.refl _) rfl (fun g hg=>⟨rfl,apart (.rw r i) g ⟨R,hR⟩ hg⟩)
 ·obtain ⟨v,h1,h2⟩:=hk.ro r sz ep n f hl
  exact ⟨v,h1,h2.mono qci (Mp.le.refl _)⟩
def frz1 (ks:List Nat) (st:List (Nat × SO)):AV→AV
 | .own r i e n=>bif inB ks r then .own r i e n else frzC st 4 (.own r i e n)
 | .ptr b o=>bif inB ks b then .ptr b o else frzC st 4 (.ptr b o)
 | x=>frzC st 4 x
def qgv (ks:List Nat) (st:List (Nat × SO)):AV→Prop
 | .own r i e n=>bif inB ks r then True else qcq st 4 (.own r i e n)
 | .ptr b o=>bif inB ks b then True else qcq st 4 (.ptr b o)
 | x=>qcq st 4 x
def qvl (ks:List Nat) (st:List (Nat × SO)):AV→AV
 | .agg cs=>.agg (cs.map (frz1 ks st))
 | .cnd b x=>.cnd b (frz1 ks st x)
 | x=>frz1 ks st x
def qvm (ks:List Nat) (st:List (Nat × SO)):AV→Prop
 | .agg cs=>allP (qgv ks st) cs
 | .cnd b x=>b=true→qgv ks st x
 | x=>qgv ks st x
def frzX (ks:List Nat) (st:List (Nat × SO)):AV→AV
 | .tup vs=>.tup (vs.map (qvl ks st))
 | x=>qvl ks st x
def qsg (ks:List Nat) (st:List (Nat × SO)):AV→Prop
 | .tup vs=>allP (qvm ks st) vs
 | x=>qvm ks st x
theorem qsh (hm:Mem c rd mp st nx w) (ks:List Nat) (x:AV) (v:Value) (hok:qgv ks st x) (h:Rel rd mp x v):Rel (frzRd rd mp st w) mp (frz1 ks st x) v:=by
 have key:qcq st 4 x→Rel (frzRd rd mp st w) mp (frzC st 4 x) v:=fun hk=>(qns hm 4 x v hk h).mono (Rd.le.refl _) (Mp.none_le _)
 cases x with
 | own r i e n=>
  simp only [frz1,qgv] at hok ⊢
  cases hi:inB ks r with
  | true=>simp only [cond_true];exact h.mono qci (Mp.le.refl _)
  | false=>rw [hi] at hok;exact key hok
 | ptr b o=>
  simp only [frz1,qgv] at hok ⊢
  cases hi:inB ks b with
  | true=>simp only [cond_true];exact h.mono qci (Mp.le.refl _)
  | false=>rw [hi] at hok;exact key hok
 | _=>exact key hok
theorem jbo (hm:Mem c rd mp st nx w) (ks:List Nat) (x:AV) (v:Value) (hok:qvm ks st x) (h:Rel rd mp x v):Rel (frzRd rd mp st w) mp (qvl ks st x) v:=by
 cases x with
 | agg cs=>
  cases h with
  | agg _ _ vs hs he=>
   refine .agg _ _ _ (by rw [hs,xh]) (fun j y u hy hu=>?_)
   rw [zi] at hy
   obtain ⟨z,hz,rfl⟩:=Option.map_eq_some_iff.1 hy
   exact qsh hm ks z u (qdd hok j z hz) (he j z u hz hu)
 | cnd b av=>
  cases h with
  | cnd _ _ _ _ k k0=>exact .cnd _ _ _ _ (fun hb=>qsh hm ks av v (hok hb) (k hb)) k0
 | _=>exact qsh hm ks _ v (by exact hok) h
theorem qvn (hm:Mem c rd mp st nx w) (ks:List Nat) (x:AV) (v:Value) (hok:qsg ks st x) (h:Rel rd mp x v):Rel (frzRd rd mp st w) mp (frzX ks st x) v:=by
 cases x with
 | tup cs=>
  cases h with
  | tup _ _ vs hs he=>
   refine .tup _ _ _ (by rw [hs,xh]) (fun j y u hy hu=>?_)
   rw [zi] at hy
   obtain ⟨z,hz,rfl⟩:=Option.map_eq_some_iff.1 hy
   exact jbo hm ks z u (qdd hok j z hz) (he j z u hz hu)
 | _=>exact jbo hm ks _ v (by exact hok) h
theorem jbp {sl:List (Nat × AV)} {E:Env} {B:Nat→ASt→Prop} {f:FuncId} {args:List AV} {dst:Option Nat} {full:Array Oper} {rest:List Oper} {k:List Itm} (ks:List Nat) (hok:allP (qsg ks (qr ks st)) args)
  (h:frcL (args.map (frzX ks (qr ks st))) fun args'=>jt (jf st ks) fun st'=>qbd E B f args' dst full rest k ⟨sl,st',nx⟩):qbd E B f args dst full rest k ⟨sl,st,nx⟩:=by
 rw [qce,qac] at h
 unfold qbd at h ⊢
 intro rd mp a w vs hs hrd hsz hargs
 have hd:=hs.mem.dropped ks
 refine h (frzRd rd mp (qr ks st) w) mp a w vs ⟨fun t=>(hs.slots t).mono qci (Mp.le.refl _),hs.defers,hs.mem.freeze ks⟩ (hrd.step qci (Mp.le.refl _)) hsz
  ⟨by rw [hargs.1,xh],fun j x v hx hv=>?_⟩
 rw [zi] at hx
 obtain ⟨y,hy,rfl⟩:=Option.map_eq_some_iff.1 hx
 exact qvn hd ks y v (qdd hok j y hy) (hargs.2 j y v hy hv)
end
def qvo (res:AV) (st1:List (Nat × SO)):List (Nat × SO)→Nat→AV→Prop:=fun st _ v=>
 Ob (qsg (st1.map (·.1)) (qr (st1.map (·.1)) st) v) (frc (frzX (st1.map (·.1)) (qr (st1.map (·.1)) st) v) fun v=>Le v res∧SubSt st st1)
theorem jbq {st:List (Nat × SO)} (ks:List Nat):∀ {l:List (Nat × SO)},(∀ i x,(i,x)∈l→i∈ks)→SubSt st l→SubSt (jf st ks) l
 | [],_,_=>trivial
 | (i,x)::r,hin,h=>by
  refine ⟨?_,jbq ks (fun j y hy=>hin j y (zq _ hy)) h.2⟩
  have hi:i∈ks:=hin i x (zp ..)
  have key:∀ ks:List Nat,i∈ks→look (jf st ks) i=look st i:=by
   intro ks
   induction ks with
   | nil=>intro h;cases h
   | cons k ks ih=>
    intro hm
    unfold jf
    cases hk:look st k with
    | none=>
     simp only
     rcases List.mem_cons.1 hm with rfl|hm
     ·rw [hk]
      cases hl:look (jf st ks) i with
      | none=>rfl
      | some y=>have:=(qez hl).1;rw [hk] at this;cases this
     ·exact ih hm
    | some y=>
     simp only [ql]
     by_cases e:k=i
     ·subst e;rw [zb rfl,hk]
     ·rw [za e]
      rcases List.mem_cons.1 hm with h|hm
      ·exact absurd h.symm e
      ·exact ih hm
  rw [key ks hi]
  exact h.1
theorem jnt {P:Program} {T:Nat→TI} {C:Cfg} {f:FuncId} {fn:Func} {body:Code} {args:List AV} {st0:List SO} {res:AV} {st1:List (Nat × SO)} {n1:Nat} (n:Nat) (hT:∀ t,T t=tab P t) (hf:P.funcs[f]?=some fn) (hb:fn.body=some body)
  (hname : (fn.name == "runtime.NumGoroutine") = false) (hn : (Nat.ble args.length fn.ntmps && stLt n1 st1 && res.lt n1 && Nat.ble st0.length n1) = true)
  (h:∀ (c:Ctx) (rdb:Rd) (mpb:Mp),exec { P:=P,T:=T,C:=C,fn:=fn,c:=c,rdb:=rdb,mpb:=mpb,nxb:=st0.length,R:=qvo res st1,X:=fun _ _ _=>False } (fun _ _=>False) n [.code body] ⟨qen 0 args,idx 0 st0,st0.length⟩):Trip P f args st0 res st1 n1:=by
 intro c rd mp w vs hw hrd0 hstd hm hargs
 simp only [zf,zt] at hn
 obtain ⟨⟨⟨n1',n2⟩,n3⟩,n4⟩:=hn
 have hname' : fn.name ≠ "runtime.NumGoroutine" := by simpa using hname
 refine .inl ⟨by simp [callFunc,hf,hname',hb,mark],?_⟩
 have hok:=qbu (E:={ P:=P,T:=T,C:=C,fn:=fn,c:=c,rdb:=rd,mpb:=mp,nxb:=st0.length,R:=qvo res st1,X:=fun _ _ _=>False }) (B:=fun _ _=>False) hT n _ _ (h c rd mp)
 obtain ⟨hsl,hsz⟩:=qri (fn:=fn) n1' hargs
 have hwp:=hok rd mp ⟨vs++Array.replicate (fn.ntmps - vs.size) undef,[]⟩ w ⟨hsl,rfl,hm⟩ ⟨Rd.le.refl _,Mp.le.refl _,fun i hi=>hm.fresh i (by rw [hstd];exact hi),hstd⟩ hsz
 refine (calls_of_wp hf hb hwp).mono fun e w' he=>?_
 match e,he with
 | .returned v,he=>
  obtain ⟨x,rd',mp',st,nx,h1,h2,h3,h4⟩:=he
  have h5:=Ob.left h1
  have h6:=Ob.right h1
  rw [jv] at h6
  have h7:=qvn (h3.dropped (st1.map (·.1))) (st1.map (·.1)) x v h5 h2
  have h8:=h3.freeze (st1.map (·.1))
  have h9:=jbq (st1.map (·.1)) (l:=st1) (fun i y hy=>List.mem_map.2 ⟨(i,y),hy,rfl⟩) h6.2
  exact .inl ⟨v,rfl,_,mp'.restrict n1,(h6.1.rel h7).lt n3,h4.rd.trans qci,Mp.le_restrict h4.mp (fun i hi=>hm.fresh i (by rw [hstd];simp only [stdF];omega)),h8.sub hstd h9 n2⟩
 | .panicked [⟨v,false,false⟩],he=>obtain ⟨x,rd',mp',st,nx,h1,_⟩:=he;exact False.elim h1
theorem qko {α:Type} (L:List α) (x d:α) (j:Nat):(L++[x]).getD j d=if j<L.length then L.getD j d else if j=L.length then x else d:=by
 simp only [List.getD_eq_getElem?_getD]
 by_cases h:j<L.length
 ·rw [zb h,zy h]
 ·rw [za h,zx (by omega)]
  by_cases e:j=L.length
  ·rw [zb e,e,zai];rfl
  ·rw [za e,xi (by simp;omega)];rfl
theorem qhv {α:Type} {enc:α→List AV} {d x:α} {L:List α} {g:Nat→List AV} (h:g 0=enc x):∀ j,j<L.length+1→LeL (appF L.length (encL enc d L) 1 g j) (encL enc d (L++[x]) j):=by
 intro j hj
 refine LeL.of_eq ?_
 unfold appF encL
 rw [qko]
 by_cases hl:j<L.length
 ·rw [zb hl,zb hl]
 ·obtain rfl:j=L.length:=by omega
  rw [za hl,za hl,zb rfl,zb (by omega),zai,h]
theorem jnu {α:Type} {enc:α→List AV} {d x:α} {L:List α} {n:Nat} {f g:Nat→List AV} (h:g 0=enc x) (hn:n=L.length) (hf:f=encL enc d L):∀ j,j<n+1→LeL (appF n f 1 g j) (encL enc d (L++[x]) j):=by
 subst hn hf;exact qhv h
def SO.plain:SO→Bool
 | .row [] _ _ _ _ _=>true
 | _=>false
section
variable {c:Ctx} {rd:Rd} {mp:Mp} {st:List (Nat × SO)} {nx:Nat} {w:World}
theorem Mem.names (hm:Mem c rd mp st nx w) (hstd:c.fre=stdF) (ι:Nat→Nat) {st':List (Nat × SO)} {n:Nat} (hl:∀ i x,look st' i=some x→look st (ι i)=some x∧x.plain=true∧i<n)
  (hinj:∀ i j,i<n→j<n→ι i=ι j→i=j):Mem c rd ((mp.pull ι).restrict n) st' n w:=by
 have hmem:∀ r' i R,IsMem st' r' i R→IsMem st (ι r') i R∧R.ids=[]∧r'<n∧i=0:=by
  intro r' i R hR
  cases hR with
  | row h=>
   obtain ⟨h1,h2,h3⟩:=hl _ _ h
   rename_i ids e sz ep m f
   cases ids with
   | nil=>exact ⟨.row h1,rfl,h3,rfl⟩
   | cons a b=>simp [SO.plain] at h2
  | fam h _=>obtain ⟨_,h2,_⟩:=hl _ _ h;simp [SO.plain] at h2
 have hth:∀ p,There st' p→∃ r',p=.rw r' 0∧r'<n∧There st (.rw (ι r') 0):=by
  intro p hp
  cases p with
  | bx b=>obtain ⟨ty,cs,h⟩:=hp;obtain ⟨_,h2,_⟩:=hl _ _ h;simp [SO.plain] at h2
  | rw r' i=>obtain ⟨R,hR⟩:=hp;obtain ⟨h1,_,h3,rfl⟩:=hmem _ _ _ hR;exact ⟨r',rfl,h3,R,h1⟩
 have hblk:∀ r',r'<n→blkOf ((mp.pull ι).restrict n) (.rw r' 0)=blkOf mp (.rw (ι r') 0):=by
  intro r' hr;simp only [blkOf,Mp.restrict,Mp.pull,zb hr]
 refine ⟨hm.rdw,hm.rd1,hm.rdn,hm.fr,fun b ty cs h=>?_,fun r' i R hR=>?_,fun p q g hp hq hgp hgq=>?_,fun i hi=>?_,fun i x h=>?_,fun r' e' sz' cnt ep' len f' h=>?_,fun r' sz' ep' n' f' h=>?_,hm.tab⟩
 ·obtain ⟨_,h2,_⟩:=hl _ _ h;simp [SO.plain] at h2
 ·obtain ⟨h0,hids,hr,rfl⟩:=hmem _ _ _ hR
  obtain ⟨v,xs,h1,h2,h3,h4,h5⟩:=hm.mb _ _ _ h0
  refine ⟨v,xs,by simp only [Mp.restrict,Mp.pull,zb hr];exact h1,h2,h3,fun k j x hk hx=>?_,h5⟩
  obtain ⟨u,h6,h7,h8⟩:=h4 k j x hk hx
  exact ⟨u,h6,h7,by rw [hids,Mp.sel_nil] at h8 ⊢;exact h8⟩
 ·obtain ⟨a,rfl,ha,hta⟩:=hth p hp
  obtain ⟨b,rfl,hb,htb⟩:=hth q hq
  rw [hblk a ha] at hgp
  rw [hblk b hb] at hgq
  have:=hm.inj _ _ g hta htb hgp hgq
  simp only [Pl.rw.injEq,and_true] at this
  rw [hinj a b ha hb this]
 ·rw [hstd] at hi
  simp only [stdF] at hi
  exact ⟨by unfold Mp.restrict;exact za (by omega),fun _=>by unfold Mp.restrict;exact za (by omega)⟩
 ·obtain ⟨_,_,h3⟩:=hl _ _ h
  rw [hstd];simp only [stdF];omega
 ·obtain ⟨_,h2,_⟩:=hl _ _ h;simp [SO.plain] at h2
 ·obtain ⟨_,h2,_⟩:=hl _ _ h;simp [SO.plain] at h2
end
def qiz (pos:Nat):AV→Nat
 | .agg cs=>match cs[pos]? with|some (.own r _ _ _)=>r|_=>0
 | .own r _ _ _=>r
 | _=>0
def ksOf:Nat→Nat→List Nat
 | 0,r=>[r]
 | k+1,r=>k::ksOf k r
def qvp (o:Option SO) (e:TypeId) (sz n:Nat) (f:Nat→List AV):Prop:=
 match o with
 | some (.row [] e' sz' ep' n' f')=>SoLe (.row [] e' sz' ep' n' f') (.row [] e sz 0 n f)
 | _=>False
def ownR (k pos:Nat) (st0:List (Nat × SO)) (res:AV) (e:TypeId) (sz n:Nat) (f:Nat→List AV):List (Nat × SO)→Nat→AV→Prop:=fun st _ v=>
 Ob (Nat.ble k (qiz pos v)=true∧qsg (ksOf k (qiz pos v)) (qr (ksOf k (qiz pos v)) st) v) (frc (frzX (ksOf k (qiz pos v)) (qr (ksOf k (qiz pos v)) st) v) fun v'=>(Le v' (res.ren fun j=>bif Nat.blt j k then j else qiz pos v)∧SubSt st st0)∧qvp (look st (qiz pos v)) e sz n f)
theorem qdi {o:Option SO} {e:TypeId} {sz n:Nat} {f:Nat→List AV} {e':TypeId} {sz' ep' n':Nat} {f':Nat→List AV} (h:o=some (.row [] e' sz' ep' n' f')) (h':SoLe (.row [] e' sz' ep' n' f') (.row [] e sz 0 n f)):qvp o e sz n f:=by
 subst h;exact h'
theorem jbr:∀ (k r j:Nat),j∈ksOf k r↔j=r∨j<k
 | 0,r,j=>by simp [ksOf]
 | k+1,r,j=>by
  simp only [ksOf,List.mem_cons,jbr k r j]
  omega
theorem qvq {st:List (Nat × SO)} {i:Nat} {x:SO} (h:look st i=some x):∀ {ks:List Nat},i∈ks→look (jf st ks) i=some x
  | [],hi=>by cases hi
  | k::ks,hi=>by
    unfold jf
    by_cases e:k=i
    · subst e;rw [h];simp [look]
    · have hi' : i ∈ ks := by rcases List.mem_cons.1 hi with h | h
                              · exact absurd h.symm e
                              · exact h
      cases hk:look st k with
      | none=>exact qvq h hi'
      | some y=>simp only [ql,za e];exact qvq h hi'
theorem qdj {P:Program} {T:Nat→TI} {C:Cfg} {f:FuncId} {fn:Func} {body:Code} {args:List AV} {st0:List SO} {res:AV} {e:TypeId} {sz m:Nat} {g:Nat→List AV} (pos:Nat) (n:Nat) (hT:∀ t,T t=tab P t) (hf:P.funcs[f]?=some fn) (hb:fn.body=some body)
  (hname : (fn.name == "runtime.NumGoroutine") = false) (hn : (Nat.ble args.length fn.ntmps && res.lt (st0.length + 1) && st0.all SO.plain) = true)
  (h:∀ (c:Ctx) (rdb:Rd) (mpb:Mp),exec { P:=P,T:=T,C:=C,fn:=fn,c:=c,rdb:=rdb,mpb:=mpb,nxb:=st0.length,R:=ownR st0.length pos (idx 0 st0) res e sz m g,X:=fun _ _ _=>False } (fun _ _=>False) n [.code body] ⟨qen 0 args,idx 0 st0,st0.length⟩) :
  Trip P f args st0 res (idx 0 (st0++[.row [] e sz 0 m g])) (st0.length+1):=by
 intro c rd mp w vs hw hrd0 hstd hm hargs
 simp only [zf,zt] at hn
 obtain ⟨⟨n1',n3⟩,n4⟩:=hn
 have hname' : fn.name ≠ "runtime.NumGoroutine" := by simpa using hname
 refine .inl ⟨by simp [callFunc,hf,hname',hb,mark],?_⟩
 have hfr:∀ i,st0.length≤i→mp.blk i=none∧∀ j,mp.row i j=none:=fun i hi=>hm.fresh i (by rw [hstd];exact hi)
 have hok:=qbu (E:={ P:=P,T:=T,C:=C,fn:=fn,c:=c,rdb:=rd,mpb:=mp,nxb:=st0.length,R:=ownR st0.length pos (idx 0 st0) res e sz m g,X:=fun _ _ _=>False }) (B:=fun _ _=>False) hT n _ _ (h c rd mp)
 obtain ⟨hsl,hsz⟩:=qri (fn:=fn) n1' hargs
 have hwp:=hok rd mp ⟨vs++Array.replicate (fn.ntmps - vs.size) undef,[]⟩ w ⟨hsl,rfl,hm⟩ ⟨Rd.le.refl _,Mp.le.refl _,hfr,hstd⟩ hsz
 refine (calls_of_wp hf hb hwp).mono fun en w' he=>?_
 match en,he with
 | .returned v,he=>
  obtain ⟨x,rd',mp',st,nx,h1,h2,h3,h4⟩:=he
  have h5:=Ob.left h1
  have h6:=Ob.right h1
  rw [jv] at h6
  generalize qiz pos x=r at h5 h6
  have hkr:st0.length≤r:=Nat.le_of_ble_eq_true h5.1
  have h7:=qvn (h3.dropped (ksOf st0.length r)) (ksOf st0.length r) x v h5.2 h2
  obtain ⟨⟨h9,hs0⟩,h10⟩:=h6
  unfold qvp at h10
  split at h10
  ·rename_i e' sz' ep' n' f' hlk
   -- the store behind the call, told aS the contract has it
   have hsub:SubL st (idx 0 st0++[(r,.row [] e sz 0 m g)]):=by
    intro i y hy
    by_cases hi:i<st0.length
    ·have:look (idx 0 st0) i=some y:=by
      rw [qey,zb (zv _),zam,ze hi]
      have h2:look (idx 0 st0++[(r,SO.row [] e sz 0 m g)]) i=look (idx 0 st0) i:=by
       have key:∀ (l:List (Nat × SO)) (z:SO),look l i=some z→look (l++[(r,SO.row [] e sz 0 m g)]) i=some z:=by
        intro l z hz
        induction l with
        | nil=>simp [look] at hz
        | cons p l ih=>
         obtain ⟨a,b⟩:=p
         rw [zac,ql]
         rw [ql] at hz
         split
         ·rename_i ha;rw [zb ha] at hz;exact hz
         ·rename_i ha;rw [za ha] at hz;exact ih hz
       have hz:look (idx 0 st0) i=some st0[i]:=by rw [qey,zb (zv _),zam,ze hi]
       rw [key _ _ hz,hz]
      rw [h2,qey,zb (zv _),zam,ze hi] at hy
      exact hy
     exact hs0.get i y this
    ·have h2:look (idx 0 st0++[(r,SO.row [] e sz 0 m g)]) i=look [(r,SO.row [] e sz 0 m g)] i:=by
      have key:∀ (l:List (Nat × SO)),look l i=none→look (l++[(r,SO.row [] e sz 0 m g)]) i=look [(r,SO.row [] e sz 0 m g)] i:=by
       intro l hz
       induction l with
       | nil=>rfl
       | cons p l ih=>
        obtain ⟨a,b⟩:=p
        rw [zac,ql]
        rw [ql] at hz
        split
        ·rename_i ha;rw [zb ha] at hz;cases hz
        ·rename_i ha;rw [za ha] at hz;exact ih hz
      exact key _ (by rw [qey,zb (zv _),zam,xi (by omega)])
     rw [h2,ql] at hy
     split at hy
     ·rename_i hri
      cases hy
      subst hri
      exact ⟨_,hlk,h10⟩
     ·simp [look] at hy
   have h8:=(h3.freeze (ksOf st0.length r)).weak (st':=idx 0 st0++[(r,.row [] e sz 0 m g)]) (fun i y hy=>by
    obtain ⟨z,hz,hle⟩:=hsub i y hy
    refine ⟨z,qvq hz ((jbr _ _ _).2 ?_),hle⟩
    by_cases hi:i<st0.length
    ·exact .inr hi
    ·left
     have key:∀ (l:List (Nat × SO)),look l i=none→look (l++[(r,SO.row [] e sz 0 m g)]) i=some y→i=r:=by
      intro l hz hy
      induction l with
      | nil=>
       rw [List.nil_append,ql] at hy
       split at hy
       ·rename_i h;exact h.symm
       ·simp [look] at hy
      | cons p l ih=>
       obtain ⟨a,b⟩:=p
       rw [zac,ql] at hy
       rw [ql] at hz
       split at hy
       ·rename_i ha;rw [zb ha] at hz;cases hz
       ·rename_i ha;rw [za ha] at hz;exact ih hz hy
     exact key _ (by rw [qey,zb (zv _),zam,xi (by omega)]) hy)
   have h11:=h8.names hstd (fun j=>bif Nat.blt j st0.length then j else r) (st':=idx 0 (st0++[.row [] e sz 0 m g])) (n:=st0.length+1) (fun i y hy=>by
    rw [qey,zb (zv _),zam] at hy
    by_cases hi:i<st0.length
    ·have hb:Nat.blt i st0.length=true:=by simpa [xt] using hi
     rw [zy hi,ze hi] at hy
     cases hy
     refine ⟨?_,List.all_eq_true.1 n4 _ (zaa hi),by omega⟩
     rw [hb]
     have hz:look (idx 0 st0) i=some st0[i]:=by rw [qey,zb (zv _),zam,ze hi]
     have key:∀ (l:List (Nat × SO)) (z:SO),look l i=some z→look (l++[(r,SO.row [] e sz 0 m g)]) i=some z:=by
      intro l z hz
      induction l with
      | nil=>simp [look] at hz
      | cons p l ih=>
       obtain ⟨a,b⟩:=p
       rw [zac,ql]
       rw [ql] at hz
       split
       ·rename_i ha;rw [zb ha] at hz;exact hz
       ·rename_i ha;rw [za ha] at hz;exact ih hz
     exact key _ _ hz
    ·have hb:Nat.blt i st0.length=false:=by rw [xf];simpa [xt] using hi
     rw [zx (by omega)] at hy
     by_cases hi':i=st0.length
     ·subst hi'
      rw [zai] at hy
      cases hy
      refine ⟨?_,rfl,by omega⟩
      rw [hb]
      have key:∀ (l:List (Nat × SO)),look l r=none→look (l++[(r,SO.row [] e sz 0 m g)]) r=some (.row [] e sz 0 m g):=by
       intro l hz
       induction l with
       | nil=>simp [look]
       | cons p l ih=>
        obtain ⟨a,b⟩:=p
        rw [zac,ql]
        rw [ql] at hz
        split
        ·rename_i ha;rw [zb ha] at hz;cases hz
        ·rename_i ha;rw [za ha] at hz;exact ih hz
      exact key _ (by rw [qey,zb (zv _),zam,xi (by omega)])
     ·rw [xi (by simp;omega)] at hy;cases hy)
    (fun i j hi hj he=>by
     by_cases h1:i<st0.length <;> by_cases h2:j<st0.length
     ·rw [show Nat.blt i st0.length=true by simpa [xt] using h1,show Nat.blt j st0.length=true by simpa [xt] using h2] at he;exact he
     ·rw [show Nat.blt i st0.length=true by simpa [xt] using h1,show Nat.blt j st0.length=false by rw [xf];simpa [xt] using h2] at he
      simp only [cond_true,cond_false] at he;omega
     ·rw [show Nat.blt j st0.length=true by simpa [xt] using h2,show Nat.blt i st0.length=false by rw [xf];simpa [xt] using h1] at he
      simp only [cond_true,cond_false] at he;omega
     ·omega)
   have h12:=((qhp n3).2 (h9.rel h7)).lt n3
   refine .inl ⟨v,rfl,_,_,h12,h4.rd.trans qci,⟨fun i b hg=>?_,fun r' i v' e' n' hr'=>?_⟩,h11⟩
   ·by_cases hi:i<st0.length
    ·have hb:Nat.blt i st0.length=true:=by simpa [xt] using hi
     simp only [Mp.restrict,Mp.pull,zb (show i<st0.length+1 by omega),hb,cond_true]
     exact h4.mp.blk i b hg
    ·rw [(hfr i (by omega)).1] at hg;cases hg
   ·by_cases hi:r'<st0.length
    ·have hb:Nat.blt r' st0.length=true:=by simpa [xt] using hi
     simp only [Mp.restrict,Mp.pull,zb (show r'<st0.length+1 by omega),hb,cond_true]
     exact h4.mp.row r' i v' e' n' hr'
    ·rw [(hfr r' (by omega)).2 i] at hr';cases hr'
  ·exact False.elim h10
 | .panicked [⟨v,false,false⟩],he=>obtain ⟨x,rd',mp',st,nx,h1,_⟩:=he;exact False.elim h1
def PanI (c:Ctx) (rd:Rd) (mp:Mp) (n:Nat) (X:AV→Prop) (ch:List PanicEntry) (w':World):Prop:=
 ∃ v x rd' mp',ch=[⟨v,false,false⟩]∧X x∧Rel rd' mp' x v∧Rd.le rd rd'∧Mp.le mp mp'∧Mem c rd' mp' [] n w'
def jbs (P:Program) (g:FuncId) (args:List AV) (st:List (Nat × SO)) (nx:Nat) (X:AV→Prop) (p:Stp):Prop:=
 ∀ (c:Ctx) rd mp w vs,c.fre=stdF→Mem c rd mp st nx w→RelL rd mp args vs→
  Invokes P g vs w (fun x w'=>∃ rd' mp',Rd.le rd rd'∧Mp.le mp mp'∧Mem c rd' mp' (bif p.wr then p.st else st) (bif p.wr then p.nx else nx) w'∧Rel rd' mp' p.v x) (fun ch w'=>PanI c rd mp nx X ch w')
def PanQ (E:Env) (Q:Exit→Act→World→Prop):Prop:=∀ ch a w,a.defers=[]→Post E (.panicked ch) w→Q (.panic ch) a w
def SStep (E:Env) (full:Array Oper) (s:ASt) (o:Oper) (p:Stp):Prop:=
 (∃ res q,jl E full s o res=some q∧q.ob∧q.v=p.v∧q.wr=p.wr∧(q.wr=true→q.st=p.st∧q.nx=p.nx)) ∨
 (p.wr=true∧jq E o.dst=true∧o.guard=none∧∃ g args,aop E.T E.C s o.dst o.op=.call g args∧jbs E.P g args s.st s.nx (E.X [] s.nx) p)
theorem SStep.congr {E:Env} {full:Array Oper} {s s':ASt} {o:Oper} {p:Stp} (h:∀ t∈reads full o,s.get t=s'.get t) (hst:s.st=s'.st) (hnx:s.nx=s'.nx) (k:SStep E full s o p):SStep E full s' o p:=by
 rcases k with ⟨res,q,h1,h2⟩|⟨h0,h1,h2,g,args,h3,h4⟩
 ·exact .inl ⟨res,q,by rw [← jaf res h hst hnx];exact h1,h2⟩
 ·exact .inr ⟨h0,h1,h2,g,args,by rw [← qnv o.dst o.op (qnw h) hst hnx];exact h3,by rw [← hst,← hnx];exact h4⟩
theorem SStep.sound {E:Env} (hT:∀ t,E.T t=tab E.P t) (hstd:E.c.fre=stdF) {full:Array Oper} {s:ASt} {o:Oper} {p:Stp} (k:SStep E full s o p):qrl (PanQ E) E full s o p:=by
 intro rd mp a w hs hrd hsz K Q hQ hK
 rcases k with ⟨res,q,h1,h2,e1,e2,e3⟩|⟨_,h1,h2,g,args,h3,h4⟩
 ·refine quu hT h1 h2 hs (.std hstd s.nx) hsz (K:=K) (Q:=Q) ?_
  cases hq:q.wr with
  | true=>
   obtain ⟨e4,e5⟩:=e3 hq
   rw [← e2,hq] at hK
   rw [e1,e4,e5]
   exact hK
  | false=>
   rw [← e2,hq] at hK
   rw [e1]
   exact hK
 ·have hgood:=qno (C:=E.C) hT hs (.std hstd s.nx) o
  rw [h3] at hgood
  obtain ⟨vs,g1,g2⟩:=hgood
  have hdst:=qfu h1 hsz
  rw [zb (by simp [Region.wanted,h2])]
  refine .inl ?_
  unfold Oper.wp
  rw [g1]
  rcases h4 E.c rd mp w vs hstd hs.mem g2 with ⟨h5,h6⟩|⟨x,w',h5,rd',mp',h6,h7,h8,h9⟩
  ·rw [h5,Oper.upon_enter]
   refine h6.mono fun e w' he=>?_
   rcases he with ⟨x,he,rd',mp',h6,h7,h8,h9⟩|⟨_,he,v,x,rd',mp',rfl,hx,hr,h6,h7,h8⟩
   ·subst he;exact hK x w' rd' mp' h6 h7 h8 h9 hdst
   ·subst he;exact hQ _ a w' hs.defers ⟨x,rd',mp',[],s.nx,hx,hr,h8,hrd.step h6 h7⟩
  ·rw [h5,Oper.upon_value]
   exact hK x w' rd' mp' h6 h7 h8 h9 hdst
def qja:Op→Bool
 | .move _ | .pick .. | .build .. | .load .. | .nilCheck _ | .binOp .. | .unOp .. | .convert .. | .makeFunc .. | .fieldAddr .. | .field .. | .indexAddr .. | .index .. | .extract ..=>true
 | .call c=>match c.callee with | .builtin .len=>true|_=>false
 | _=>false
theorem jnv (T:Nat→TI) (C:Cfg) (sl:List (Nat × AV)) (st:List (Nat × SO)) (nx nx':Nat) (d:Option Nat) (op:Op) (h:qja op=true):aop T C ⟨sl,st,nx⟩ d op=aop T C ⟨sl,st,nx'⟩ d op:=by
 have hev:∀ x,ev ⟨sl,st,nx⟩ x=ev ⟨sl,st,nx'⟩ x:=fun x=>by cases x <;> rfl
 have hev2:ev ⟨sl,st,nx⟩=ev ⟨sl,st,nx'⟩:=funext hev
 cases op with
 | call c=>
  simp only [qja] at h
  split at h
  ·rename_i hc
   simp only [aop,hc,hev2]
   unfold qiq
   generalize (c.args.toList.map fun x=>strip st (ev ⟨sl,st,nx'⟩ x))=l
   generalize c.argTypes.toList=ts
   rcases ts with _|⟨t,_|⟨t',ts⟩⟩ <;> rcases l with _|⟨x,_|⟨y,l⟩⟩ <;> rfl
  ·cases h
 | _=>first|(simp [qja] at h;done)|(simp only [aop,hev];done)|(simp only [aop,hev2];done)
def qvr (s:ASt):Op→List Nat
 | .move _=>[]
 | op=>foot s op
def FootOk (s:ASt) (o:Oper) (p:Stp):Prop:=p.wr=false→p.nx=1→o.guard=none∧qja o.op=true∧∀ n∈qvr s o.op,n∈p.st.map (·.1)
theorem jnw {E:Env} (hT:∀ t,E.T t=tab E.P t) {full:Array Oper} {s s':ASt} {o:Oper} {res:AV} {q:Stp} (hg:o.guard=none) (hn:qja o.op=true) (h:∀ t∈reads full o,s.get t=s'.get t) (hag:Agree (qvr s o.op) s.st s'.st)
  (hq:jl E full s o res=some q) (hw:q.wr=false):∃ q',jl E full s' o res=some q'∧(q.ob→q'.ob)∧q'.v=q.v∧q'.wr=false:=by
 obtain ⟨sl,st,nx⟩:=s
 obtain ⟨sl',st',nx'⟩:=s'
 have h1:=qnw h
 have e1:aop E.T E.C ⟨sl',st',nx'⟩ o.dst o.op=aop E.T E.C ⟨sl,st',nx⟩ o.dst o.op:=by
  rw [jnv E.T E.C sl' st' nx' nx o.dst o.op hn]
  refine (qnv (s:=⟨sl,st',nx⟩) (s':=⟨sl',st',nx⟩) o.dst o.op (fun x hx=>?_) rfl rfl).symm
  have:=h1 x hx
  cases x <;> exact this
 have e2:OLoc st st' (tgt ⟨sl,st,nx⟩ o.op) (aop E.T E.C ⟨sl,st,nx⟩ o.dst o.op) (aop E.T E.C ⟨sl,st',nx⟩ o.dst o.op):=by
  have key:Agree (foot ⟨sl,st,nx⟩ o.op) st st'→OLoc st st' (tgt ⟨sl,st,nx⟩ o.op) (aop E.T E.C ⟨sl,st,nx⟩ o.dst o.op) (aop E.T E.C ⟨sl,st',nx⟩ o.dst o.op):=fun hag=>
   jax (C:=E.C) hT (sl:=sl) (nx:=nx) (dst:=o.dst) (st:=st) (st':=st') o.op hag
  cases hop:o.op with
  | move x=>cases x <;> rfl
  | _=>rw [hop] at hag key;exact key hag
 unfold jl at hq ⊢
 cases hd:jq E o.dst with
 | false=>rw [hd] at hq;cases hq
 | true=>
  rw [hd,hg] at hq
  rw [hg]
  simp only at hq ⊢
  rw [e1]
  cases hr:aop E.T E.C ⟨sl,st,nx⟩ o.dst o.op with
  | bad=>rw [hr] at hq;cases hq
  | ok ob v=>
   rw [hr] at hq e2
   simp only [OLoc] at e2
   rw [e2]
   simp only [Option.some.injEq] at hq ⊢
   subst hq
   exact ⟨_,rfl,id,rfl,rfl⟩
  | mem ob v st1 nx1=>
   rw [hr] at hq
   simp only [Option.some.injEq] at hq
   subst hq
   cases hw
  | call f args=>
   rw [hr] at hq e2
   simp only [OLoc] at e2
   rw [e2]
   simp only [Option.some.injEq] at hq ⊢
   subst hq
   exact ⟨_,rfl,id,rfl,rfl⟩
structure AccS (E:Env) (full:Array Oper) (L:List (Oper × Stp)) (s0 s:ASt):Prop where
 st:stateAt L 0 (fun _=>true) s0=s
 step:∀ (i:Nat) x,L[i]?=some x→SStep E full (stateAt L 0 (fun j=>decide (j<i)) s0) x.1 x.2∧FootOk (stateAt L 0 (fun j=>decide (j<i)) s0) x.1 x.2
theorem AccS.snoc {E:Env} {full:Array Oper} {L:List (Oper × Stp)} {s0 s:ASt} (h:AccS E full L s0 s) {o:Oper} {p:Stp} (hs:SStep E full s o p) (hf:FootOk s o p):AccS E full (L++[(o,p)]) s0 (after s o p):=by
 have hsn:∀ i,i≤L.length→stateAt (L++[(o,p)]) 0 (fun j=>decide (j<i)) s0=stateAt L 0 (fun j=>decide (j<i)) s0:=by
  intro i hi
  rw [qod]
  have:decide (0+L.length<i)=false:=by simp;omega
  rw [this];rfl
 refine ⟨?_,fun i x hx=>?_⟩
 ·rw [qod,h.st];rfl
 ·by_cases hi:i<L.length
  ·rw [zy hi] at hx
   rw [hsn i (by omega)];exact h.step i x hx
  ·rw [zx (by omega)] at hx
   have hi0:i - L.length=0:=by
    cases hk:i - L.length with
    | zero=>rfl
    | succ k=>rw [hk] at hx;simp at hx
   rw [hi0] at hx
   simp at hx
   subst hx
   have:i=L.length:=by omega
   subst this
   rw [hsn _ (zl _),jbc L 0 _ (fun _=>true) s0 (fun j hj=>by simp;omega),h.st]
   exact ⟨hs,hf⟩
def qkp (L:List (Oper × Stp)) (i m:Nat):Bool:=(List.range L.length).all fun q=>match L[q]? with|some y=>!y.2.wr || (Nat.blt q i == Nat.blt q m)|none=>true
def wrOf:List (Oper × Stp)→Nat→List Nat
 | [],_=>[]
 | x::r,i=>match x.2.wr with|true=>i::wrOf r (i+1)|false=>wrOf r (i+1)
theorem jbt:∀ (L:List (Oper × Stp)) (i q:Nat) (y:Oper × Stp),L[q]?=some y→y.2.wr=true→i+q∈wrOf L i
 | [],_,_,_,h,_=>by simp at h
 | x::r,i,0,y,h,hw=>by
  simp only [zbf,Option.some.injEq] at h
  subst h
  simp only [wrOf,hw,xm]
  exact zp ..
 | x::r,i,q+1,y,h,hw=>by
  simp only [zbe] at h
  have:=jbt r (i+1) q y h hw
  rw [show i+1+q=i+(q+1) by omega] at this
  unfold wrOf
  split
  ·exact zq _ this
  ·exact this
def qoj (full:Array Oper) (n:Nat) (ws:List Nat) (i:Nat):Bool:=ws.any fun w=>!(anc full n w).contains i && !(anc full n i).contains w
theorem qvs {full:Array Oper} {n:Nat} (hb:∀ (j:Nat),j<n→∀ o,full.toList[j]?=some o→∀ e∈o.after,Region.binds .any e=true→e.on<j):∀ (f j:Nat),j<n→∀ i∈anc full f j,i<j
 | 0,_,_,i,hi=>by simp [anc] at hi
 | f+1,j,hj,i,hi=>by
  simp only [anc] at hi
  split at hi
  ·rename_i o ho
   simp only [List.mem_flatMap,List.mem_filter,List.mem_cons,Array.mem_toList_iff] at hi
   obtain ⟨e,⟨he,hbe⟩,hi⟩:=hi
   have h1:=hb j hj o ho e he hbe
   rcases hi with rfl|hi
   ·exact h1
   ·have:=qvs hb f e.on (by omega) i hi;omega
  ·cases hi
def qgw (full:Array Oper) (L:List (Oper × Stp)):List (Nat × Nat):=
 (List.range L.length).flatMap fun i=>match L[i]? with
  | some x=>bif x.2.wr || jc x.1.op then [] else bif qoj full L.length (wrOf L 0) i then ((List.range (L.length+1)).filter fun m=>qly full L i m && !qkp L i m).map fun m=>(i,m) else []
  | none=>[]
theorem jnx {full:Array Oper} {L:List (Oper × Stp)} (hord:qec full L=true) (hlen:L.length=full.size) {i m:Nat} (hi:i<L.length) (hx:∀ x,L[i]?=some x→x.2.wr=false) (hf:qoj full L.length (wrOf L 0) i=false) (hm:qly full L i m=true):qkp L i m=true:=by
  have hb:∀ (j:Nat),j<L.length→∀ o,full.toList[j]?=some o→∀ e∈o.after,Region.binds .any e=true→e.on<j:=fun j hj o ho=>jal hord hj ho
  unfold qkp
  refine List.all_eq_true.2 fun q hq=>?_
  have hq':=List.mem_range.1 hq
  rw [ze hq']
  simp only
  cases hw:(L[q]).2.wr with
  | false=>rfl
  | true=>
    have hqw:=jbt L 0 q _ (ze hq') hw
    rw [zo] at hqw
    have hqi:q≠i:=fun e=>by subst e;have:=hx _ (ze hq');rw [hw] at this;cases this
    have h1:((anc full L.length q).contains i || (anc full L.length i).contains q)=true:=by
      cases hc:((anc full L.length q).contains i || (anc full L.length i).contains q) with
      | true=>rfl
      | false=>
        exfalso
        rw [xq] at hc
        have:qoj full L.length (wrOf L 0) i=true:=List.any_eq_true.2 ⟨q,hqw,by rw [hc.1,hc.2];rfl⟩
        rw [hf] at this;cases this
    have h2:=List.all_eq_true.1 hm q hq
    rw [ze hq'] at h2
    simp only [hw,zbh,zbc] at h2 ⊢
    rw [xr] at h1
    have blt:∀ x y:Nat,Nat.blt x y=decide (x<y):=fun x y=>by
      cases hb:Nat.blt x y with
      | true=>simp [xt] at hb;simp [hb]
      | false => have : ¬ x < y := fun hlt => by rw [show Nat.blt x y = true by simp [xt, hlt]] at hb; cases hb
                 simp [this]
    rcases h1 with h1|h1
    · have hlt:=qvs hb L.length q hq' i (by simpa using h1)
      rw [blt q i,zau (by omega)]
      cases hqm:Nat.blt q m with
      | false=>rfl
      | true=>rw [hqm] at h2;simp only [cond_true,h1,zbh] at h2;cases h2
    · have hlt:=qvs hb L.length i hi q (by simpa using h1)
      rw [blt q i,xn hlt]
      cases hqm:Nat.blt q m with
      | true=>rfl
      | false=>rw [hqm] at h2;simp only [cond_false,h1,zbh] at h2;cases h2
def jny (L:List (Oper × Stp)) (s0:ASt) (i m:Nat):Prop:=(stateAt L 0 (fun j=>decide (j<m)) s0).st=(stateAt L 0 (fun j=>decide (j<i)) s0).st∧(stateAt L 0 (fun j=>decide (j<m)) s0).nx=(stateAt L 0 (fun j=>decide (j<i)) s0).nx
def skel (x:Oper × Stp):Oper × Stp:=(x.1,⟨.any,x.2.wr,x.2.st,x.2.nx,True⟩)
theorem jnz (x:Oper × Stp):(skel x).1=x.1:=rfl
theorem qok (x:Oper × Stp):(skel x).2.wr=x.2.wr:=rfl
theorem jbu (x:Oper × Stp) (_:x.2.wr=true):(skel x).2.st=x.2.st∧(skel x).2.nx=x.2.nx:=⟨rfl,rfl⟩
theorem joa (full:Array Oper) (L:List (Oper × Stp)):qec full (L.map skel)=qec full L:=by
 unfold qec
 rw [xh]
 congr 1
 funext j
 congr 1
 congr 1
 funext i
 rw [zi,zi]
 cases L[i]? <;> cases L[j]? <;> rfl
theorem job (full:Array Oper) (L:List (Oper × Stp)) (i m:Nat):qly full (L.map skel) i m=qly full L i m:=by
 unfold qly
 rw [xh]
 congr 1
 funext q
 rw [zi]
 cases L[q]? with
 | none=>rfl
 | some x=>simp only [zad,qok]
theorem joc (L:List (Oper × Stp)) (i m:Nat):qkp (L.map skel) i m=qkp L i m:=by
 unfold qkp
 rw [xh]
 congr 1
 funext q
 rw [zi]
 cases L[q]? with
 | none=>rfl
 | some x=>simp only [zad,qok]
theorem jbv:∀ (L:List (Oper × Stp)) (i:Nat),wrOf (L.map skel) i=wrOf L i
 | [],_=>rfl
 | x::r,i=>by simp only [zab,wrOf,qok,jbv r]
theorem jod (full:Array Oper) (L:List (Oper × Stp)):qgw full (L.map skel)=qgw full L:=by
 unfold qgw
 rw [xh,jbv]
 congr 1
 funext i
 rw [zi]
 cases L[i]? with
 | none=>rfl
 | some x=>simp only [zad,qok,jnz,job,joc]
theorem qsi:∀ (L:List (Oper × Stp)) (i:Nat) (S:Nat→Bool) (s s':ASt),s.st=s'.st→s.nx=s'.nx→(stateAt (L.map skel) i S s).st=(stateAt L i S s').st∧(stateAt (L.map skel) i S s).nx=(stateAt L i S s').nx
 | [],_,_,s,s',h1,h2=>⟨h1,h2⟩
 | (o,p)::r,i,S,s,s',h1,h2=>by
  simp only [zab,stateAt]
  have e:skel (o,p)=(o,(skel (o,p)).2):=rfl
  rw [e]
  simp only
  cases S i with
  | false=>simp only [cond_false];exact qsi r (i+1) S s s' h1 h2
  | true=>
   simp only [cond_true]
   have hw:=qok (o,p)
   refine qsi r (i+1) S _ _ ?_ ?_
   ·simp only [after]
    rw [hw]
    cases hp:p.wr with
    | true=>simp only [cond_true];exact (jbu (o,p) hp).1
    | false=>simp only [cond_false];exact h1
   ·simp only [after]
    rw [hw]
    cases hp:p.wr with
    | true=>simp only [cond_true];exact (jbu (o,p) hp).2
    | false=>simp only [cond_false];exact h2
def jbw (L:List (Oper × Stp)) (s0:ASt) (i m:Nat):Prop:=jny L s0 i m ∨
 ∃ x,L[i]?=some x∧x.2.nx=1∧∀ n∈x.2.st.map (·.1),look (stateAt L 0 (fun j=>decide (j<m)) s0).st n=look (stateAt L 0 (fun j=>decide (j<i)) s0).st n
def AltG (full:Array Oper) (L:List (Oper × Stp)) (s0:ASt) (k:Prop):Prop:=qec full L=true∧(∀ p∈qgw full L,jbw L s0 p.1 p.2)∧k
theorem AltG.none {full:Array Oper} {L:List (Oper × Stp)} {s0:ASt} {k:Prop} (h:(qec full L && (qgw full L).isEmpty)=true) (hk:k):AltG full L s0 k:=by
 rw [zf,List.isEmpty_iff] at h
 exact ⟨h.1,by rw [h.2];exact fun p hp=>(by cases hp),hk⟩
theorem qol {st:List (Nat × SO)} {nx:Nat}:∀ (L:List (Oper × Stp)) (i m M:Nat) (s:ASt),s.st=st→s.nx=nx→m≤i+M→allP (fun x:Oper × Stp=>x.2.wr=true→x.2.st=st∧x.2.nx=nx) (L.take M)→
  (stateAt L i (fun j=>decide (j<m)) s).st=st∧(stateAt L i (fun j=>decide (j<m)) s).nx=nx
 | [],_,_,_,s,h1,h2,_,_=>⟨h1,h2⟩
 | (o,p)::r,i,m,M,s,h1,h2,hm,ha=>by
  simp only [stateAt]
  cases hd:decide (i<m) with
  | false=>
   simp only [cond_false]
   cases M with
   | zero=>exact qol r (i+1) m 0 s h1 h2 (by simp at hd;omega) trivial
   | succ M=>exact qol r (i+1) m M s h1 h2 (by omega) ha.2
  | true=>
   have hlt:i<m:=zm hd
   simp only [cond_true]
   cases M with
   | zero=>omega
   | succ M=>
    refine qol r (i+1) m M _ ?_ ?_ (by omega) ha.2
    ·simp only [after]
     cases hw:p.wr with
     | true=>simp only [cond_true];exact (ha.1 hw).1
     | false=>simp only [cond_false];exact h1
    ·simp only [after]
     cases hw:p.wr with
     | true=>simp only [cond_true];exact (ha.1 hw).2
     | false=>simp only [cond_false];exact h2
theorem AltG.same {full:Array Oper} {L:List (Oper × Stp)} {s0:ASt} {k:Prop} (M:Nat) (h:(qec full L && (qgw full L).all fun p=>Nat.ble p.1 M && Nat.ble p.2 M)=true)
  (ha:allP (fun x:Oper × Stp=>x.2.wr=true→x.2.st=s0.st∧x.2.nx=s0.nx) (L.take M)) (hk:k):AltG full L s0 k:=by
 rw [zf] at h
 refine ⟨h.1,fun p hp=>?_,hk⟩
 have h2:=List.all_eq_true.1 h.2 p hp
 simp only [zf,zt] at h2
 have h3:=qol L 0 p.1 M s0 rfl rfl (by omega) ha
 have h4:=qol L 0 p.2 M s0 rfl rfl (by omega) ha
 exact .inl ⟨h4.1.trans h3.1.symm,h4.2.trans h3.2.symm⟩
theorem qom {n:Nat} {X:Option SO}:∀ (L:List (Oper × Stp)) (i m M:Nat) (s:ASt),look s.st n=X→m≤i+M→allP (fun x:Oper × Stp=>x.2.wr=true→look x.2.st n=X) (L.take M)→
  look (stateAt L i (fun j=>decide (j<m)) s).st n=X
 | [],_,_,_,s,h1,_,_=>h1
 | (o,p)::r,i,m,M,s,h1,hm,ha=>by
  simp only [stateAt]
  cases hd:decide (i<m) with
  | false=>
   simp only [cond_false]
   cases M with
   | zero=>exact qom r (i+1) m 0 s h1 (by simp at hd;omega) trivial
   | succ M=>exact qom r (i+1) m M s h1 (by omega) ha.2
  | true=>
   have hlt:i<m:=zm hd
   simp only [cond_true]
   cases M with
   | zero=>omega
   | succ M=>
    refine qom r (i+1) m M _ ?_ (by omega) ha.2
    simp only [after]
    cases hw:p.wr with
    | true=>simp only [cond_true];exact ha.1 hw
    | false=>simp only [cond_false];exact h1
theorem AltG.far {full:Array Oper} {L:List (Oper × Stp)} {s0:ASt} {k:Prop} (M:Nat) (F:List Nat)
  (h:(qec full L && (qgw full L).all fun p=>Nat.ble p.1 M && (Nat.ble p.2 M && (match L[p.1]? with | .some x=>Nat.beq x.2.nx 1 && x.2.st.all (fun e=>F.any (Nat.beq e.1)) | .none=>false)))=true)
  (ha:allP (fun x:Oper × Stp=>x.2.wr=true→allP (fun n=>look x.2.st n=look s0.st n) F) (L.take M)) (hk:k):AltG full L s0 k:=by
 rw [zf] at h
 refine ⟨h.1,fun p hp=>.inr ?_,hk⟩
 have h2:=List.all_eq_true.1 h.2 p hp
 simp only [zf,zt] at h2
 obtain ⟨h3,h4,h5⟩:=h2
 cases hx:L[p.1]? with
 | none=>rw [hx] at h5;cases h5
 | some x=>
  rw [hx] at h5
  simp only [zf] at h5
  refine ⟨x,rfl,zj h5.1,fun n hn=>?_⟩
  obtain ⟨e,he,rfl⟩:=List.mem_map.1 hn
  have h6:=List.all_eq_true.1 h5.2 e he
  obtain ⟨f,hf,hfe⟩:=List.any_eq_true.1 h6
  have:e.1=f:=zj hfe
  rw [this]
  have key:∀ (l:List (Oper × Stp)),allP (fun x:Oper × Stp=>x.2.wr=true→allP (fun n=>look x.2.st n=look s0.st n) F) l→allP (fun x:Oper × Stp=>x.2.wr=true→look x.2.st f=look s0.st f) l:=by
   intro l
   induction l with
   | nil=>exact id
   | cons y r ih=>
    intro ⟨a1,a2⟩
    refine ⟨fun hw=>?_,ih a2⟩
    obtain ⟨k,hk⟩:=List.mem_iff_getElem?.1 hf
    exact qdd (a1 hw) k f hk
  have ha':=key _ ha
  rw [qom L 0 p.1 M s0 rfl (by omega) ha',qom L 0 p.2 M s0 rfl (by omega) ha']
theorem joe (T:Nat→TI) (C:Cfg) {s s':ASt} (d:Option Nat) (op:Op) (hc:jc op=true) (h:∀ x∈op.operands,ev s x=ev s' x):aop T C s d op=aop T C s' d op:=by
 rw [← qnv (s:=⟨s.sl,s'.st,s'.nx⟩) (s':=s') d op (fun x hx=>by rw [← h x hx];cases x <;> rfl) rfl rfl]
 unfold jc at hc
 split at hc
 ·rename_i c
  split at hc
  ·rename_i f hf
   simp only [aop,hf]
   have:∀ x:Operand,ev s x=ev ⟨s.sl,s'.st,s'.nx⟩ x:=fun x=>by cases x <;> rfl
   simp only [this]
   rfl
  ·cases hc
 ·cases hc
theorem jof {E:Env} {full:Array Oper} {s s':ASt} {o:Oper} {res:AV} {q:Stp} (hc:jc o.op=true) (h:∀ t∈reads full o,s.get t=s'.get t) (hq:jl E full s o res=some q) :
  ∃ q',jl E full s' o res=some q'∧(q.ob→q'.ob)∧q'.v=q.v∧q'.wr=false∧q.wr=false:=by
 have ha:=joe E.T E.C o.dst o.op hc (qnw h)
 have hcase:(∃ f args,aop E.T E.C s o.dst o.op=.call f args)∨aop E.T E.C s o.dst o.op=.bad:=by
  unfold jc at hc
  split at hc
  ·rename_i c hop
   split at hc
   ·rename_i f hf
    simp only [hop,aop,hf,qlo]
    split
    ·exact .inl ⟨_,_,rfl⟩
    ·exact .inl ⟨_,_,rfl⟩
    ·exact .inr rfl
   ·cases hc
  ·cases hc
 unfold jl at hq ⊢
 rw [← ha]
 cases hd:jq E o.dst with
 | false=>rw [hd] at hq;cases hq
 | true=>
  rw [hd] at hq
  simp only at hq ⊢
  cases hg:o.guard with
  | none=>
   rw [hg] at hq
   simp only at hq ⊢
   rcases hcase with ⟨f,args,h1⟩|h1
   ·rw [h1] at hq ⊢
    simp only [Option.some.injEq] at hq ⊢
    subst hq
    exact ⟨_,rfl,id,rfl,rfl,rfl⟩
   ·rw [h1] at hq;cases hq
  | some jw=>
   obtain ⟨j,want⟩:=jw
   rw [hg] at hq
   simp only at hq ⊢
   have hs:(qbs full j).map s'.get=(qbs full j).map s.get:=by
    cases hgs:qbs full j with
    | none=>rfl
    | some d=>simp only [zad];rw [h d (by simp [reads,hg,hgs])]
   rw [hs]
   cases hx:(qbs full j).map s.get with
   | none=>rw [hx] at hq;cases hq
   | some x=>
    rw [hx] at hq
    simp only at hq ⊢
    cases hb:qcr want x with
    | none=>rw [hb] at hq;cases hq
    | some g=>
     rw [hb] at hq
     simp only at hq ⊢
     rcases hcase with ⟨f,args,h1⟩|h1
     ·rw [h1] at hq ⊢
      simp only [Option.some.injEq] at hq ⊢
      subst hq
      exact ⟨_,rfl,id,rfl,rfl,rfl⟩
     ·rw [h1] at hq;cases hq
theorem jog {E:Env} {Q:Exit→Act→World→Prop} {id:Nat} {ops:Array Oper} {s:ASt} {QP:(Exit→Act→World→Prop)→Prop} (hQP:QP Q) (hmix:E.P.follows .mixedOrders=true) {L:List (Oper × Stp)} (hLo:L.map (·.1)=ops.toList)
  (hst:∀ (i:Nat) x,L[i]?=some x→∀ S,Adm ops L.length S i→qrl QP E ops (stateAt L 0 S s) x.1 x.2) (hord:qec ops L=true) (h:∀ rd mp a w,SR E.c rd mp (stateAt L 0 (fun _=>true) s) a w→Base E rd mp→a.tmps.size=E.fn.ntmps→Q .normal a w)
  {rd:Rd} {mp:Mp} {a:Act} {w:World} (hs:SR E.c rd mp s a w) (hrd:Base E rd mp) (hsz:a.tmps.size=E.fn.ntmps):(Code.region id ops true).wp E.P Q a w:=by
 refine wp_region_any hmix (jkx hQP hLo hst hord h _ _ a _ (by simp) (by simp) (fun j o _ hj=>?_) hsz ⟨rd,mp,?_,hrd⟩)
 ·rw [qkf] at hj
  cases hj
 ·have hz:∀ (L:List (Oper × Stp)) (i:Nat) (s:ASt),stateAt L i (fun i=>(Array.replicate ops.size false).getD i false) s=s:=by
   intro L
   induction L with
   | nil=>intro i s;rfl
   | cons y L ih=>
    intro i s
    obtain ⟨o,p⟩:=y
    simp only [stateAt]
    rw [qkf]
    exact ih (i+1) s
  rw [hz]
  exact ⟨hs.slots,hs.defers,hs.mem.below ((Below.refl _ _).drew)⟩
theorem joh {E:Env} {B:Nat→ASt→Prop} {id:Nat} {full:Array Oper} {k:List Itm} (hT:∀ t,E.T t=tab E.P t) (hmix:E.P.follows .mixedOrders=true) {L:List (Oper × Stp)} {s0 s:ASt} (h:AccS E full L s0 s) (hLo:L.map (·.1)=full.toList)
  (hord:qec full L=true) (halt:∀ p∈qgw full L,jbw L s0 p.1 p.2) (hfin:Ok E B k s):qab E B id full k s0:=by
 unfold qab
 intro rd mp a w hs0 hrd0 hsz0
 have hstd:=hrd0.std
 show (Code.region id full true).wp E.P (QK E B k) a w
 have hlen:L.length=full.size:=by have:=congrArg List.length hLo;simpa using this
 refine jog (E:=E) (QP:=PanQ E) (fun ch a w hd h=>qnp hd h k) hmix hLo (fun i x hx S hS=>?_) hord (by rw [h.st];exact hfin) hs0 hrd0 hsz0
 have hi:i<L.length:=(List.getElem?_eq_some_iff.1 hx).1
 have agree:∀ (j:Nat) y,L[j]?=some y→qbz full y x=true→S j=decide (j<i):=by
  intro j y hy hc1
  have hj:j<full.size:=by rw [← hlen];exact (List.getElem?_eq_some_iff.1 hy).1
  have hc2:qbz full x y=true:=by rw [← jak];exact hc1
  rcases Nat.lt_trichotomy j i with h|h|h
  ·simp only [h,decide_true];exact hS.anc j (qnz hord h hy hx hc1)
  ·subst h;simp only [zbm,decide_false];exact hS.self
  ·have:¬ j<i:=by omega
   simp only [this,decide_false]
   exact hS.desc j (qnz hord h hx hy hc2) hj
 have hslots:∀ t∈reads full x.1,(stateAt L 0 S s0).get t=(stateAt L 0 (fun j=>decide (j<i)) s0).get t:=by
  intro t ht
  refine qlv t L 0 _ _ s0 s0 rfl (fun j y hy hd=>?_)
  rw [zo]
  refine agree j y hy ?_
  have:hits full y.1 x.1=true:=by simp [hits,hd,ht]
  simp [qbz,this]
 obtain ⟨hstep,hfoot⟩:=h.step i x hx
 cases hw:x.2.wr with
 | true=>
  have hmem:=qiw L 0 S (fun j=>decide (j<i)) s0 s0 rfl rfl (fun j y hy hwy=>by
   rw [zo]
   refine agree j y hy ?_
   simp [qbz,hw,hwy])
  exact (hstep.congr (s':=stateAt L 0 S s0) (fun t ht=>(hslots t ht).symm) hmem.1.symm hmem.2.symm).sound hT hstd
 | false=>
  -- how far the store has come
  have hm:∃ m,m≤L.length∧∀ (q:Nat) y,L[q]?=some y→y.2.wr=true→S q=decide (q<m):=by
   have key:∀ b,b≤L.length→∃ m,m≤b∧∀ (q:Nat) y,q<b→L[q]?=some y→y.2.wr=true→S q=decide (q<m):=by
    intro b
    induction b with
    | zero=>intro _;exact ⟨0,zl _,fun q y hq=>by omega⟩
    | succ b ihb=>
     intro hb
     obtain ⟨m,hm,hq⟩:=ihb (by omega)
     obtain ⟨z,hz⟩:∃ z,L[b]?=some z:=⟨L[b],by simp [show b<L.length by omega]⟩
     cases hzw:z.2.wr with
     | false=>
      refine ⟨m,by omega,fun q y hqb hy hyw=>?_⟩
      by_cases hqe:q=b
      ·subst hqe;rw [hz] at hy;cases hy;rw [hzw] at hyw;cases hyw
      ·exact hq q y (by omega) hy hyw
     | true=>
      cases hSb:S b with
      | false=>
       refine ⟨m,by omega,fun q y hqb hy hyw=>?_⟩
       by_cases hqe:q=b
       ·subst hqe;rw [hSb];simp;omega
       ·exact hq q y (by omega) hy hyw
      | true=>
       refine ⟨b+1,by omega,fun q y hqb hy hyw=>?_⟩
       simp only [hqb,decide_true]
       by_cases hqe:q=b
       ·subst hqe;exact hSb
       ·exact hS.cl b hSb q (qnz hord (by omega) hy hz (by simp [qbz,hyw,hzw]))
   obtain ⟨m,hm,hq⟩:=key L.length (zl _)
   exact ⟨m,hm,fun q y hy hyw=>hq q y (List.getElem?_eq_some_iff.1 hy).1 hy hyw⟩
  obtain ⟨m,hmL,hm⟩:=hm
  have hmay:qly full L i m=true:=by
   refine List.all_eq_true.2 (fun q hq=>?_)
   have hq':=List.mem_range.1 hq
   rw [show L[q]?=some L[q] from ze hq']
   simp only
   cases hqw:(L[q]).2.wr with
   | false=>rfl
   | true=>
    have hSq:=hm q _ (ze hq') hqw
    simp only [zbh,zbc]
    by_cases hqm:q<m
    ·have e:Nat.blt q m=true:=by simp [xt,hqm]
     rw [e]
     simp only [cond_true,zah]
     cases hcn:(anc full L.length q).contains i with
     | false=>rfl
     | true=>
      exfalso
      have:=hS.cl q (by rw [hSq];simp [hqm]) i (by simpa using hcn)
      rw [hS.self] at this;cases this
    ·have e:Nat.blt q m=false:=by cases hb:Nat.blt q m with|false=>rfl|true=>simp [xt] at hb;omega
     rw [e]
     simp only [cond_false,zah]
     cases hcn:(anc full L.length i).contains q with
     | false=>rfl
     | true=>
      exfalso
      have:=hS.anc q (by simpa using hcn)
      rw [hSq] at this;simp at this;omega
  have hmem:=qiw L 0 S (fun j=>decide (j<m)) s0 s0 rfl rfl (fun j y hy hwy=>by rw [zo];exact hm j y hy hwy)
  cases hcall:jc x.1.op with
  | true=>
   rcases hstep with ⟨res,q,h1,h2,e1,e2,_⟩|⟨h0,_⟩
   ·obtain ⟨q',g1,g2,g3,g4,_⟩:=jof (s':=stateAt L 0 S s0) hcall (fun t ht=>(hslots t ht).symm) h1
    exact SStep.sound hT hstd (.inl ⟨res,q',g1,g2 h2,g3.trans e1,by rw [g4,hw],fun h=>by rw [g4] at h;cases h⟩)
   ·rw [hw] at h0;cases h0
  | false=>
   cases hsw:qkp L i m with
   | true=>
    have hsame:∀ (q:Nat) y,L[q]?=some y→y.2.wr=true→(decide (q<m))=decide (q<i):=by
     intro q y hy hyw
     have hq:=(List.getElem?_eq_some_iff.1 hy).1
     have:=List.all_eq_true.1 hsw q (List.mem_range.2 hq)
     rw [hy] at this
     simp only [hyw,zbh,zbc,xu] at this
     by_cases h1:q<i <;> by_cases h2:q<m
     ·simp [h1,h2]
     ·rw [show Nat.blt q i=true by simpa [xt] using h1,show Nat.blt q m=false by rw [xf];simpa [xt] using h2] at this;cases this
     ·rw [show Nat.blt q m=true by simpa [xt] using h2,show Nat.blt q i=false by rw [xf];simpa [xt] using h1] at this;cases this
     ·simp [h1,h2]
    have hmem2:=qiw L 0 S (fun j=>decide (j<i)) s0 s0 rfl rfl (fun j y hy hwy=>by
     rw [zo,hm j y hy hwy]
     exact hsame j y hy hwy)
    exact (hstep.congr (s':=stateAt L 0 S s0) (fun t ht=>(hslots t ht).symm) hmem2.1.symm hmem2.2.symm).sound hT hstd
   | false=>
    have hp:=halt (i,m) (by
     unfold qgw
     rw [List.mem_flatMap]
     refine ⟨i,List.mem_range.2 hi,?_⟩
     rw [hx]
     have hfr:qoj full L.length (wrOf L 0) i=true:=by
      cases hfr:qoj full L.length (wrOf L 0) i with
      | true=>rfl
      | false=>
       have:=jnx hord hlen hi (fun y hy=>by rw [hx] at hy;cases hy;exact hw) hfr hmay
       rw [hsw] at this;cases this
     simp only [hw,hcall,hfr,Bool.or_false,cond_false,cond_true,List.mem_map,List.mem_filter,List.mem_range]
     exact ⟨m,⟨by omega,by rw [hmay,hsw];rfl⟩,rfl⟩)
    rcases hp with hp|⟨y,hy,hy1,hy2⟩
    ·exact (hstep.congr (s':=stateAt L 0 S s0) (fun t ht=>(hslots t ht).symm) (hp.1.symm.trans hmem.1.symm) (hp.2.symm.trans hmem.2.symm)).sound hT hstd
    ·rw [hx] at hy
     cases hy
     obtain ⟨f1,f2,f3⟩:=hfoot hw hy1
     rcases hstep with ⟨res,q,h1,h2,e1,e2,_⟩|⟨h0,_⟩
     ·obtain ⟨q',g1,g2,g3,g4⟩:=jnw hT (s':=stateAt L 0 S s0) f1 f2 (fun t ht=>(hslots t ht).symm) (fun n hn=>by rw [hmem.1];exact hy2 n (f3 n hn)) h1 (by rw [e2,hw])
      exact SStep.sound hT hstd (.inl ⟨res,q',g1,g2 h2,g3.trans e1,by rw [g4,hw],fun h=>by rw [g4] at h;cases h⟩)
     ·rw [hw] at h0;cases h0
def CallY (P:Program) (f:FuncId) (args:List AV) (st:List (Nat × SO)) (nx:Nat) (X:AV→Prop) (K0:AV→Prop) (K1:AV→List (Nat × SO)→Nat→Prop):Prop:=
 (∃ v,qby P f args v∧K0 v)∨∃ v st' nx',jbs P f args st nx X ⟨v,true,st',nx',True⟩∧K1 v st' nx'
def CallZ (P:Program) (g:Bool) (f:FuncId) (args:List AV) (K:AV→Prop):Prop:=∃ v:AV,(g=true→qby P f args v)∧K v
def qvt:List Oper→List (Bool × List (Nat × SO) × Nat)→List (Oper × Stp)
 | o::r,(b,st,nx)::ws=>(o,⟨.any,b,st,nx,True⟩)::qvt r ws
 | _,_=>[]
def wOf (p:Stp):Bool × List (Nat × SO) × Nat:=(p.wr,p.st,p.nx)
theorem jbx:∀ (L:List (Oper × Stp)),qvt (L.map (·.1)) (L.map fun x=>wOf x.2)=L.map skel
 | []=>rfl
 | (o,p)::r=>by
  have ih:=jbx r
  exact congrArg (List.cons _) ih
def qsj {α:Sort _}:List Nat→(List (Nat × SO)→α)→α
 | [],K=>K []
 | x::r,K=>frcN x fun x=>qsj r fun r=>K ((x,.box 0 [])::r)
theorem jby {α:Sort _}:∀ (l:List Nat) (K:List (Nat × SO)→α),qsj l K=K (l.map fun n=>(n,.box 0 []))
 | [],_=>rfl
 | x::r,K=>by simp only [qsj,jm,jby r,zab]
def EndG (E:Env) (B:Nat→ASt→Prop) (n:Nat) (k:List Itm) (s:ASt):Prop:=(∃ s',(Ok E B k s'→Ok E B k s)∧exec E B n k s')∨Ok E B k s
theorem EndG.go {E:Env} {B:Nat→ASt→Prop} {n:Nat} {k:List Itm} {s:ASt} (h:exec E B n k s):EndG E B n k s:=.inl ⟨s,id,h⟩
theorem EndG.turn {E:Env} {B:Nat→ASt→Prop} {n:Nat} {k:List Itm} {s s':ASt} (h:Ok E B k s'→Ok E B k s) (k':exec E B n k s'):EndG E B n k s:=.inl ⟨s',h,k'⟩
def jbz:SO:=.row [] 0 1 0 1 fun _=>[.agg []]
theorem joi {c:Ctx} {rd:Rd} {mp:Mp} {st:List (Nat × SO)} {nx:Nat} {w:World} {i:Nat} (h:look st i=some jbz) (hm:Mem c rd mp st nx w):False:=by
 obtain ⟨v,xs,_,_,_,h4,_⟩:=hm.mb i 0 _ (.row h)
 obtain ⟨u,_,h5,h6⟩:=h4 0 0 (.agg []) Nat.one_pos rfl
 cases h6
 cases h5
theorem EndG.dead {E:Env} {B:Nat→ASt→Prop} {n:Nat} {k:List Itm} {s:ASt} (i:Nat) (h:look s.st i=some jbz):EndG E B n k s:=.inr fun _ _ _ _ hs _ _=>(joi h hs.mem).elim
def D4X (E:Env) (B:Nat→ASt→Prop) (n:Nat) (k:List Itm) (full:Array Oper) (s0:ASt) (ft:Bool):List Oper→List (Bool × List (Nat × SO) × Nat)→ASt→Prop
 | [],acc,s=>AltG full (qvt full.toList acc.reverse) s0 (EndG E B n k s)
 | ⟨dst,op,ty,pos,aft,guard⟩::rest,acc,⟨sl,st,nx⟩=>
  match jq E dst with
  | false=>False
  | true=>
   match guard with
   | none=>
    match aop E.T E.C ⟨sl,st,nx⟩ dst op with
    | .ok ob v=>
     match bif ft then qja op else false with
     | true=>qsj (qvr ⟨sl,st,nx⟩ op) fun fs=>cj ob (frc v fun v=>je sl dst (fun sl'=>D4X E B n k full s0 ft rest ((false,fs,1)::acc) ⟨sl',st,nx⟩) v)
     | false=>cj ob (frc v fun v=>je sl dst (fun sl'=>D4X E B n k full s0 ft rest ((false,[],0)::acc) ⟨sl',st,nx⟩) v)
    | .mem ob v st' nx'=>cj ob (frcN nx' fun nx'=>jt st' fun st'=>frc v fun v=>je sl dst (fun sl'=>D4X E B n k full s0 ft rest ((true,st',nx')::acc) ⟨sl',st',nx'⟩) v)
    | .call f args=>frcL args fun args=>CallY E.P f args st nx (E.X [] nx) (fun v=>je sl dst (fun sl'=>D4X E B n k full s0 ft rest ((false,[],0)::acc) ⟨sl',st,nx⟩) v)
      (fun v st' nx'=>je sl dst (fun sl'=>D4X E B n k full s0 ft rest ((true,st',nx')::acc) ⟨sl',st',nx'⟩) v)
    | .bad=>False
   | some (j,want)=>
    match (qbs full j).map (ASt.get ⟨sl,st,nx⟩) with
    | some x=>
     match qcr want x with
     | some g=>
      match aop E.T E.C ⟨sl,st,nx⟩ dst op with
      | .ok ob v=>cj (gob g (andO (jb st v) ob)) (frc (strip st v) fun v'=>je sl dst (fun sl'=>D4X E B n k full s0 ft rest ((false,[],0)::acc) ⟨sl',st,nx⟩) (.cnd g v'))
      | .call f args=>frcL args fun args=>CallZ E.P g f args fun v=>
        je sl dst (fun sl'=>D4X E B n k full s0 ft rest ((false,[],0)::acc) ⟨sl',st,nx⟩) (.cnd g v)
      | _=>False
     | none=>False
    | none=>False
theorem joj {g:Bool} {ob:Option DP} (h:obT (gob g ob)):g=true→obT ob:=by
 cases ob with
 | none=>exact fun _=>trivial
 | some d=>exact h
theorem jok {E:Env} {B:Nat→ASt→Prop} {n:Nat} {k:List Itm} {full:Array Oper} {s0:ASt} {ft:Bool}:∀ (l:List Oper) (L0:List (Oper × Stp)) (acc:List (Bool × List (Nat × SO) × Nat)) (s:ASt),AccS E full L0 s0 s→L0.map (fun x=>wOf x.2)=acc.reverse→L0.map (·.1)++l=full.toList→D4X E B n k full s0 ft l acc s→
  ∃ L s',AccS E full L s0 s'∧L.map (·.1)=full.toList∧AltG full (L.map skel) s0 (EndG E B n k s'):=by
 intro l
 induction l with
 | nil=>
  intro L0 acc s ha hw hl h
  simp only [D4X] at h
  rw [xl] at hl
  rw [← hl,← hw,jbx] at h
  exact ⟨L0,s,ha,hl,h⟩
 | cons o rest ih=>
  intro L0 acc s ha hw hl h
  obtain ⟨dst,op,ty,pos,aft,guard⟩:=o
  obtain ⟨sl,st,nx⟩:=s
  have go:∀ (p:Stp),SStep E full ⟨sl,st,nx⟩ ⟨dst,op,ty,pos,aft,guard⟩ p→FootOk ⟨sl,st,nx⟩ ⟨dst,op,ty,pos,aft,guard⟩ p→D4X E B n k full s0 ft rest (wOf p::acc) ⟨qbx sl dst p.v,bif p.wr then p.st else st,bif p.wr then p.nx else nx⟩→
    ∃ L s',AccS E full L s0 s'∧L.map (·.1)=full.toList∧AltG full (L.map skel) s0 (EndG E B n k s'):=by
   intro p hp hf hk
   have hk':D4X E B n k full s0 ft rest (wOf p::acc) (after ⟨sl,st,nx⟩ ⟨dst,op,ty,pos,aft,guard⟩ p):=hk
   exact ih (L0++[(⟨dst,op,ty,pos,aft,guard⟩,p)]) (wOf p::acc) _ (ha.snoc hp hf) (by rw [List.map_append,hw,List.reverse_cons];rfl) (by rw [← hl];simp) hk'
  simp only [D4X] at h
  cases hd:jq E dst with
  | false=>simp only [hd] at h
  | true=>
   simp only [hd] at h
   cases guard with
   | none=>
    simp only at h
    cases hr:aop E.T E.C ⟨sl,st,nx⟩ dst op with
    | bad=>simp only [hr] at h
    | ok ob v=>
     simp only [hr] at h
     cases hn:(bif ft then qja op else false) with
     | true=>
      have hn':qja op=true:=by cases ft with|true=>exact hn|false=>cases hn
      simp only [hn,jby,jv,ja] at h
      obtain ⟨hob,hk⟩:=cj_iff.1 h
      exact go ⟨v,false,_,1,True⟩ (.inl ⟨.any,⟨v,false,st,nx,obT ob⟩,by simp only [jl,hd,hr],hob,rfl,rfl,fun h=>by cases h⟩) (fun _ _=>⟨rfl,hn',fun m hm=>List.mem_map.2 ⟨(m,.box 0 []),List.mem_map.2 ⟨m,hm,rfl⟩,rfl⟩⟩) hk
     | false=>
      simp only [hn,jv,ja] at h
      obtain ⟨hob,hk⟩:=cj_iff.1 h
      exact go ⟨v,false,[],0,True⟩ (.inl ⟨.any,⟨v,false,st,nx,obT ob⟩,by simp only [jl,hd,hr],hob,rfl,rfl,fun h=>by cases h⟩) (fun _ h=>by cases h) hk
    | mem ob v st' nx'=>
     simp only [hr,jm,qac,jv,ja] at h
     obtain ⟨hob,hk⟩:=cj_iff.1 h
     exact go ⟨v,true,st',nx',True⟩ (.inl ⟨.any,⟨v,true,st',nx',obT ob⟩,by simp only [jl,hd,hr],hob,rfl,rfl,fun _=>⟨rfl,rfl⟩⟩) (fun h=>by cases h) hk
    | call f args=>
     simp only [hr,qce] at h
     rcases h with ⟨v,h1,hk⟩|⟨v,st',nx',h1,hk⟩
     ·simp only [ja] at hk
      exact go ⟨v,false,[],0,True⟩ (.inl ⟨v,⟨v,false,st,nx,qby E.P f args v⟩,by simp only [jl,hd,hr],h1,rfl,rfl,fun h=>by cases h⟩) (fun _ h=>by cases h) hk
     ·simp only [ja] at hk
      exact go ⟨v,true,st',nx',True⟩ (.inr ⟨rfl,hd,rfl,f,args,hr,h1⟩) (fun h=>by cases h) hk
   | some jw=>
    obtain ⟨j,want⟩:=jw
    simp only at h
    cases hy:(qbs full j).map (ASt.get ⟨sl,st,nx⟩) with
    | none=>simp only [hy] at h
    | some y=>
     simp only [hy] at h
     cases hg:qcr want y with
     | none=>simp only [hg] at h
     | some g=>
      simp only [hg] at h
      cases hr:aop E.T E.C ⟨sl,st,nx⟩ dst op with
      | bad=>simp only [hr] at h
      | mem=>simp only [hr] at h
      | ok ob v=>
       simp only [hr,jv,ja] at h
       obtain ⟨hob,hk⟩:=cj_iff.1 h
       exact go ⟨.cnd g (strip st v),false,[],0,True⟩ (.inl ⟨.any,⟨.cnd g (strip st v),false,st,nx,g=true→obT (andO (jb st v) ob)⟩,by simp only [jl,hd,hy,hg,hr],joj hob,rfl,rfl,fun h=>by cases h⟩) (fun _ h=>by cases h) hk
      | call f args=>
       simp only [hr,qce] at h
       obtain ⟨v,hv,hk⟩:=h
       simp only [ja] at hk
       exact go ⟨.cnd g v,false,[],0,True⟩ (.inl ⟨v,⟨.cnd g v,false,st,nx,g=true→qby E.P f args v⟩,by simp only [jl,hd,hy,hg,hr],hv,rfl,rfl,fun h=>by cases h⟩) (fun _ h=>by cases h) hk
theorem jca {E:Env} {B:Nat→ASt→Prop} {id:Nat} {ops:Array Oper} {k:List Itm} {s:ASt} (hT:∀ t,E.T t=tab E.P t) (hmix:E.P.follows .mixedOrders=true) (n:Nat) (ft:Bool) (h:D4X E B n k ops s ft ops.toList [] s):qab E B id ops k s:=by
 obtain ⟨L,s',h1,h2,h3,h4,h5⟩:=jok ops.toList [] [] s ⟨rfl,fun i x hx=>by simp at hx⟩ rfl rfl h
 rw [joa] at h3
 rw [jod] at h4
 refine joh hT hmix h1 h2 h3 (fun p hp=>?_) (by rcases h5 with ⟨s2,h9,h10⟩|h9;exact h9 (qbu hT n _ _ h10);exact h9)
 have h6:=h4 p hp
 have h7:=qsi L 0 (fun j=>decide (j<p.1)) s s rfl rfl
 have h8:=qsi L 0 (fun j=>decide (j<p.2)) s s rfl rfl
 rcases h6 with h6|⟨x,hx,hx1,hx2⟩
 ·exact .inl ⟨h8.1.symm.trans (h6.1.trans h7.1),h8.2.symm.trans (h6.2.trans h7.2)⟩
 ·rw [zi] at hx
  obtain ⟨y,hy,rfl⟩:=Option.map_eq_some_iff.1 hx
  exact .inr ⟨y,hy,hx1,fun n hn=>by rw [← h7.1,← h8.1];exact hx2 n hn⟩
theorem draw4 {E:Env} {B:Nat→ASt→Prop} {id:Nat} {ops:Array Oper} {k:List Itm} {s:ASt} (hT:∀ t,E.T t=tab E.P t) (hmix:E.P.follows .mixedOrders=true) (n:Nat) (h:D4X E B n k ops s false ops.toList [] s):qab E B id ops k s:=jca hT hmix n false h
theorem qbc {E:Env} {B:Nat→ASt→Prop} {id:Nat} {ops:Array Oper} {k:List Itm} {s:ASt} (hT:∀ t,E.T t=tab E.P t) (hmix:E.P.follows .mixedOrders=true) (n:Nat) (h:D4X E B n k ops s true ops.toList [] s):qab E B id ops k s:=jca hT hmix n true h
theorem jol {E:Env} {B:Nat→ASt→Prop} {id:Nat} {ops:Array Oper} {k:List Itm} {s:ASt} (hT:∀ t,E.T t=tab E.P t) (hmix:E.P.follows .mixedOrders=true) (n:Nat) (_:(ops.toList.all fun o=>!jc o.op)=true)
  (h:D3X E B n k ops (fun cs=>match qax E ops ops.toList cs s with|some (L,_)=>qht ops L|none=>false) ops.toList [] s):qab E B id ops k s:=jbm hT hmix n h
theorem CallY.con {P:Program} {f:FuncId} {args:List AV} {st:List (Nat × SO)} {nx:Nat} {X:AV→Prop} {K0:AV→Prop} {K1:AV→List (Nat × SO)→Nat→Prop} {args':List AV} {res:AV} (h:Con P f args' res) (hp:args'.all AV.pure=true) (hl:LeL args args') (hk:K0 res):CallY P f args st nx X K0 K1:=
 .inl ⟨res,⟨args',h,hp,hl⟩,hk⟩
theorem CallZ.con {P:Program} {g:Bool} {f:FuncId} {args:List AV} {K:AV→Prop} {res:AV} (h:g=true→Con P f (args.map unc) res) (hg:qho g args) (hp:(args.map unc).all AV.pure=true) (hk:K res):CallZ P g f args K:=
 ⟨res,jbn h hg hp,hk⟩
theorem CallY.trip {P:Program} {f:FuncId} {args:List AV} {st:List (Nat × SO)} {nx:Nat} {X:AV→Prop} {K0:AV→Prop} {K1:AV→List (Nat × SO)→Nat→Prop} (is:List Nat) {args':List AV} {st0:List SO} {res:AV} {st1:List (Nat × SO)} {n1:Nat}
  (ht:Trip P f args' st0 res st1 n1) (hchk:qoc is nx args' st0 res st1 n1=true) (hl:LeL args (args'.map (AV.ren (names is nx)))) (hnm:NamedL st (names is nx) is st0) (hr0:rowsLt st0.length (idx 0 st0)) (hr1:rowsLt n1 st1)
  (hk:frcN (nx+(n1 - is.length)) fun nx'=>jt (jj (names is nx) st1++qr is st) fun st'=>frc (res.ren (names is nx)) fun v=>K1 v st' nx'):CallY P f args st nx X K0 K1:=by
 rw [jm,qac,jv] at hk
 refine .inr ⟨res.ren (names is nx),jj (names is nx) st1++qr is st,nx+(n1 - is.length),?_,hk⟩
 simp only [qoc,zf,zt] at hchk
 obtain ⟨⟨⟨⟨⟨⟨c1,c2⟩,c3⟩,c4⟩,c5⟩,c6⟩,c7⟩:=hchk
 have hnd:=qrv c1
 have hlt:∀ i∈is,i<nx:=fun i hi=>by have:=List.all_eq_true.1 c2 i hi;simp only [zt] at this;omega
 obtain ⟨hlen,hnm'⟩:=hnm.get
 intro c rd mp w vs hstd hM hargs
 have hsi:∀ i x,look st i=some x→i<nx:=fun i x hx=>by have:=hM.ids i x hx;rw [hstd] at this;simp only [stdF] at this;omega
 have hsub:SubL st (jj (names is nx) (idx 0 st0)++qr is st):=by
  intro y x hx
  rw [qdf hnd hlt hsi] at hx
  cases hi:inv is nx y with
  | none=>rw [hi] at hx;exact ⟨x,hx,SoLe.refl x⟩
  | some j=>
   rw [hi] at hx
   obtain ⟨o,ho,rfl⟩:=Option.map_eq_some_iff.1 hx
   rw [qey,zb (zv _),zam] at ho
   obtain ⟨z,hz,hle⟩:=hnm' j o ho
   have hj:j<is.length:=by rw [hlen];exact (List.getElem?_eq_some_iff.1 ho).1
   have hy:=qhr hi
   unfold names at hy
   rw [zb hj] at hy
   rw [← hy]
   exact ⟨z,hz,hle⟩
 have hm1:=hM.weak hsub
 have hnamed:Named (idx 0 st0) (jj (names is nx) (idx 0 st0)++qr is st) (names is nx):=by
  refine ⟨fun j o hj=>?_⟩
  rw [qdf hnd hlt hsi,qhq hnd hlt]
  simp only
  rw [hj];rfl
 have hent:=hm1.enter hnamed c3 hr0 (fun i j _ _ h=>qva hnd hlt h)
 have hargs0:RelL rd ((mp.pull (names is nx)).restrict st0.length) args' vs:=by
  have h1:=hargs.le hl
  refine ⟨by rw [h1.1,xh],fun j x v hx hv=>?_⟩
  have hxl:=List.all_eq_true.1 c4 x (zk hx)
  exact ((qhp hxl).2 (h1.2 j _ v (by rw [zi,hx];rfl) hv)).lt hxl
 refine (ht _ rd _ w vs rfl rfl rfl hent hargs0).mono ?_ (fun _ _ h=>False.elim h)
 rintro v w' ⟨rd',mp',h1,h2,h3,h4⟩
 rw [← hlen] at h3
 obtain ⟨hle,hfin⟩:=hm1.leave hstd hnd hlt hnamed h2 h4 (by omega) c5 hr1 h3
 have hfin':Mem c rd' (mp.back mp' is nx) (jj (names is nx) st1++qr is st) (nx+(n1 - is.length)) w':=by
  refine hfin.forget (fun y x hx=>?_)
  have e1:=qdf (st:=st) hnd hlt hsi st1 y
  have e2:=qdf (st:=jj (names is nx) (idx 0 st0)++qr is st) hnd hlt (fun i x hx=>by have:=hm1.ids i x hx;rw [hstd] at this;simp only [stdF] at this;omega) st1 y
  have e3:=qdf (st:=st) hnd hlt hsi (idx 0 st0) y
  rw [e1] at hx
  refine e2.trans ?_
  cases hi:inv is nx y with
  | none=>
   rw [hi] at hx e3
   exact e3.trans hx
  | some j=>
   rw [hi] at hx
   exact hx
 have hres:Rel rd' (mp.back mp' is nx) (res.ren (names is nx)) v:=by
  refine (qhp c6).1 ?_
  rw [quz hnd hlt]
  exact h1
 exact ⟨rd',mp.back mp' is nx,h2,hle,hfin',hres⟩
theorem CallY.lend {P:Program} {f:FuncId} {args:List AV} {st:List (Nat × SO)} {nx:Nat} {X:AV→Prop} {K0:AV→Prop} {K1:AV→List (Nat × SO)→Nat→Prop} {args':List AV} {res:AV} (h:Con P f args' res) (hok:allP (qit st) args) (hl:LeL (args.map (frzB st)) args') (hf:res.flat=true) (hk:K1 res st nx):CallY P f args st nx X K0 K1:=by
 refine .inr ⟨res,st,nx,?_,hk⟩
 intro c rd mp w vs _ hM hargs
 have hargs':RelL (frzRd rd mp st w) Mp.none (args.map (frzB st)) vs:=by
  refine ⟨by rw [hargs.1,xh],fun j x v hx hv=>?_⟩
  rw [zi] at hx
  obtain ⟨y,hy,rfl⟩:=Option.map_eq_some_iff.1 hx
  exact qkc hM y v (qdd hok j y hy) (hargs.2 j y v hy hv)
 refine (h _ w vs (qnr hM) (hargs'.le hl)).mono ?_ (fun _ _ h=>False.elim h)
 rintro v w' ⟨rd',h1,h2,h3,h4,h5⟩
 exact ⟨rd,mp,Rd.le.refl _,Mp.le.refl _,hM.below h5,h1.flat hf⟩
attribute [irreducible] CallY CallZ AltG EndG
section
variable {c:Ctx} {rd:Rd} {mp:Mp} {st:List (Nat × SO)} {nx:Nat} {w:World}
theorem Mem.rebox2 (h:Mem c rd mp st nx w) {id:Nat} {ty:TypeId} {cs cs':List AV} (hl:look st id=some (.box ty cs)) (hlen:cs'.length=cs.length)
  (hrel:∀ g vs,mp.blk id=some g→HeapIs w g ty vs→∀ (j:Nat) x v,cs'[j]?=some x→vs[j]?=some v→Rel rd mp x v):Mem c rd mp (qj st id (.box ty cs')) nx w:=by
 obtain ⟨b,vs,h1,h2,h3,h4,h5,h6⟩:=h.bx id _ _ hl
 have hne:∀ p,There st p→some p≠some (Pl.bx id)→∀ g,blkOf mp p=some g→g≠b:=by
  intro p hp hne g hg e
  subst e
  exact hne (congrArg some (h.inj p (.bx id) g hp ⟨ty,cs,hl⟩ hg h1))
 refine h.upd (some (.bx id)) (Rd.le.refl _) (Mp.le.refl _) h.fr h.rdw h.rd1 h.rdn (fun b' ty' cs' hl' hne'=>?_) (fun r i R hR _=>qtx hl hR)
  (fun p hp hp'=>⟨by cases p <;> rfl,fun g hg=>⟨rfl,(h.home hp hg).2.1⟩⟩) (fun b' ty' cs'' ht hl'=>?_) (fun r i R ht=>by cases ht)
  (fun p g ht _ hg q hq hq' hg'=>?_) h.fresh (fun i y hy=>?_) (fun r e sz cnt ep len f hl'=>?_) (fun r sz ep n f hl'=>?_)
 ·rw [qd,za (by rintro rfl;exact hne' rfl)] at hl'
  exact hl'
 ·cases ht
  rw [qd,zb rfl,hl] at hl'
  cases hl'
  exact ⟨b,vs,h1,h2,by rw [hlen];exact h3,fun j x' v' hx hv=>hrel b vs h1 h2 j x' v' hx hv,h5,h6⟩
 ·cases ht
  simp only [blkOf,h1] at hg
  cases hg
  exact hne q hq hq' b hg' rfl
 ·rw [qd] at hy
  by_cases hid:i=id
  ·subst hid;exact h.ids i _ hl
  ·rw [za hid] at hy;exact h.ids i y hy
 ·rw [qd] at hl'
  by_cases hid:r=id
  ·subst hid;rw [zb rfl,hl] at hl';cases hl'
  ·rw [za hid] at hl';exact h.out r e sz cnt ep len f hl'
 ·rw [qd] at hl'
  by_cases hid:r=id
  ·subst hid;rw [zb rfl,hl] at hl';cases hl'
  ·rw [za hid] at hl';exact ⟨hl',rfl⟩
end
section
variable {c:Ctx} {rd:Rd} {mp:Mp} {st:List (Nat × SO)} {nx:Nat} {w:World}
def SO.simple:SO→Bool
 | .row [] _ _ _ _ _=>true
 | .box _ _=>true
 | _=>false
theorem Mem.rename (hm:Mem c rd mp st nx w) (hstd:c.fre=stdF) (ι:Nat→Nat) {st':List (Nat × SO)} {n:Nat}
  (hl:∀ i x,look st' i=some x→look st (ι i)=some (x.ren ι)∧x.simple=true∧i<n∧x.lt n=true)
  (hinj:∀ i j,i<n→j<n→ι i=ι j→i=j):Mem c rd ((mp.pull ι).restrict n) st' n w:=by
 have hmem:∀ r' i R,IsMem st' r' i R→IsMem st (ι r') i R∧R.ids=[]∧r'<n∧i=0:=by
  intro r' i R hR
  cases hR with
  | row h=>
   obtain ⟨h1,h2,h3,h4⟩:=hl _ _ h
   clear h4
   rename_i ids e sz ep m f
   cases ids with
   | nil=>exact ⟨.row h1,rfl,h3,rfl⟩
   | cons a b=>simp [SO.simple] at h2
  | fam h _=>obtain ⟨_,h2,_⟩:=hl _ _ h;simp [SO.simple] at h2
 have hth:∀ p,There st' p→(∃ r',p=.rw r' 0∧r'<n∧There st (.rw (ι r') 0))∨∃ b,p=.bx b∧b<n∧There st (.bx (ι b)):=by
  intro p hp
  cases p with
  | bx b=>obtain ⟨ty,cs,h⟩:=hp;obtain ⟨h1,_,h3,_⟩:=hl _ _ h;exact .inr ⟨b,rfl,h3,ty,_,h1⟩
  | rw r' i=>obtain ⟨R,hR⟩:=hp;obtain ⟨h1,_,h3,rfl⟩:=hmem _ _ _ hR;exact .inl ⟨r',rfl,h3,R,h1⟩
 refine ⟨hm.rdw,hm.rd1,hm.rdn,hm.fr,fun b ty cs h=>?_,fun r' i R hR=>?_,fun p q g hp hq hgp hgq=>?_,fun i hi=>?_,fun i x h=>?_,fun r' e' sz' cnt ep' len f' h=>?_,fun r' sz' ep' n' f' h=>?_,hm.tab⟩
 ·obtain ⟨h1,_,h3,h4⟩:=hl _ _ h
  obtain ⟨g,vs,g1,g2,g3,g4,g5,g6⟩:=hm.bx (ι b) ty _ h1
  refine ⟨g,vs,by simp only [Mp.restrict,Mp.pull,zb h3];exact g1,g2,by rw [g3,xh],fun j x v hx hv=>?_,g5,g6⟩
  have hxl:x.lt1 n=true:=List.all_eq_true.1 h4 x (zk hx)
  exact ((qki hxl).2 (g4 j (x.ren1 ι) v (by rw [zi,hx];rfl) hv)).lt1 hxl
 ·obtain ⟨h0,hids,hr,rfl⟩:=hmem _ _ _ hR
  obtain ⟨v,xs,h1,h2,h3,h4,h5⟩:=hm.mb _ _ _ h0
  refine ⟨v,xs,by simp only [Mp.restrict,Mp.pull,zb hr];exact h1,h2,h3,fun k j x hk hx=>?_,h5⟩
  obtain ⟨u,h6,h7,h8⟩:=h4 k j x hk hx
  exact ⟨u,h6,h7,by rw [hids,Mp.sel_nil] at h8 ⊢;exact h8⟩
 ·have hb:∀ p,There st' p→∃ q,blkOf ((mp.pull ι).restrict n) p=blkOf mp q∧There st q∧q=p.ren ι∧qvk p<n:=by
   intro p hp
   rcases hth p hp with ⟨r',rfl,hr,ht⟩|⟨b,rfl,hb,ht⟩
   ·exact ⟨.rw (ι r') 0,by simp only [blkOf,Mp.restrict,Mp.pull,zb hr],ht,rfl,hr⟩
   ·exact ⟨.bx (ι b),by simp only [blkOf,Mp.restrict,Mp.pull,zb hb],ht,rfl,hb⟩
  obtain ⟨p',e1,e2,e3,e4⟩:=hb p hp
  obtain ⟨q',f1,f2,f3,f4⟩:=hb q hq
  rw [e1] at hgp
  rw [f1] at hgq
  have:=hm.inj p' q' g e2 f2 hgp hgq
  rw [e3,f3] at this
  cases p with
  | bx a=>cases q with
   | bx b=>simp only [Pl.ren,Pl.bx.injEq] at this;rw [hinj a b e4 f4 this]
   | rw r i=>simp [Pl.ren] at this
  | rw r i=>cases q with
   | bx b=>simp [Pl.ren] at this
   | rw r2 i2=>simp only [Pl.ren,Pl.rw.injEq] at this;rw [hinj r r2 e4 f4 this.1,this.2]
 ·rw [hstd] at hi
  simp only [stdF] at hi
  exact ⟨by unfold Mp.restrict;exact za (by omega),fun _=>by unfold Mp.restrict;exact za (by omega)⟩
 ·obtain ⟨_,_,h3,_⟩:=hl _ _ h
  rw [hstd];simp only [stdF];omega
 ·obtain ⟨_,h2,_⟩:=hl _ _ h;simp [SO.simple] at h2
 ·obtain ⟨_,h2,_⟩:=hl _ _ h;simp [SO.simple] at h2
end
def TurnR (E:Env) (s s':ASt):Prop:=∀ rd mp a w,SR E.c rd mp s a w→Base E rd mp→∃ rd' mp',SR E.c rd' mp' s' a w∧Base E rd' mp'
theorem TurnR.of_sub {E:Env} {s s':ASt} (h:Sub s s') (hc:s'.closed E.nxb=true):TurnR E s s':=fun rd _ _ _ h1 h2=>⟨rd,_,h1.sub h2.std h hc,h2.sub hc⟩
def re1 (r0 r:Nat) (i:Nat):Nat:=bif Nat.beq i r0 then r else i
def RenSt (st:List (Nat × SO)) (ι:Nat→Nat) (n:Nat):List (Nat × SO)→Prop
 | []=>True
 | (i,x)::l=>((match look st (ι i) with|some y=>SoLe y (x.ren ι)|none=>False)∧(x.simple && Nat.blt i n && x.lt n)=true)∧RenSt st ι n l
theorem RenSt.get {st:List (Nat × SO)} {ι:Nat→Nat} {n:Nat}:∀ {l:List (Nat × SO)},RenSt st ι n l→∀ i x,look l i=some x→(∃ y,look st (ι i)=some y∧SoLe y (x.ren ι))∧x.simple=true∧i<n∧x.lt n=true
 | [],_,_,_,h=>by simp [look] at h
 | (j,z)::l,hl,i,x,h=>by
  rw [ql] at h
  split at h
  ·rename_i e
   subst e
   cases h
   obtain ⟨h1,h2⟩:=hl.1
   simp only [zf,xt] at h2
   split at h1
   ·rename_i y hy;exact ⟨⟨y,hy,h1⟩,h2.1.1,h2.1.2,h2.2⟩
   ·exact False.elim h1
  ·exact hl.2.get i x h
def RenSl (s:ASt) (ι:Nat→Nat) (n:Nat):List (Nat × AV)→Prop
 | []=>True
 | (t,v)::l=>(Le (s.get t) (v.ren ι)∧v.lt n=true)∧RenSl s ι n l
theorem RenSl.get {s:ASt} {ι:Nat→Nat} {n:Nat}:∀ {l:List (Nat × AV)},RenSl s ι n l→∀ t v,look l t=some v→Le (s.get t) (v.ren ι)∧v.lt n=true
 | [],_,_,_,h=>by simp [look] at h
 | (j,z)::l,hl,i,x,h=>by
  rw [ql] at h
  split at h
  ·rename_i e;subst e;cases h;exact hl.1
  ·exact hl.2.get i x h
theorem TurnR.ren {E:Env} {sl sl':List (Nat × AV)} {st st':List (Nat × SO)} {nx n:Nat} (r0 r:Nat) (hr:(Nat.blt r0 n && Nat.ble n r && Nat.ble E.nxb r0 && Nat.ble n nx)=true) (h1:RenSl ⟨sl,st,nx⟩ (re1 r0 r) n sl') (h2:RenSt st (re1 r0 r) n st'):TurnR E ⟨sl,st,nx⟩ ⟨sl',st',n⟩:=by
 intro rd mp a w hs hb
 simp only [zf,xt,zt] at hr
 obtain ⟨⟨⟨hr1,hr2⟩,hr3⟩,hr4⟩:=hr
 have hι:∀ i,re1 r0 r i=if i=r0 then r else i:=fun i=>by
  unfold re1
  by_cases e:i=r0
  ·subst e;simp
  ·have:Nat.beq i r0=false:=by rw [xf];intro h;exact e (zj h)
   rw [this,za e];rfl
 have hinj:∀ i j,i<n→j<n→re1 r0 r i=re1 r0 r j→i=j:=by
  intro i j hi hj h
  rw [hι,hι] at h
  split at h <;> split at h <;> omega
 -- first weaken, then rename
 have hw:Mem E.c rd mp (st'.map fun p=>(re1 r0 r p.1,p.2.ren (re1 r0 r))) nx w:=by
  refine hs.mem.weak fun i x hx=>?_
  have key:∀ (l:List (Nat × SO)),RenSt st (re1 r0 r) n l→look (l.map fun p=>(re1 r0 r p.1,p.2.ren (re1 r0 r))) i=some x→∃ y,look st i=some y∧SoLe y x:=by
   intro l hl hx
   induction l with
   | nil=>simp [look] at hx
   | cons p l ih=>
    obtain ⟨j,z⟩:=p
    rw [zab,ql] at hx
    split at hx
    ·rename_i e
     cases hx
     have h3:=hl.1.1
     simp only at e
     rw [← e]
     split at h3
     ·rename_i y hy;exact ⟨y,hy,h3⟩
     ·exact False.elim h3
    ·exact ih hl.2 hx
  exact key st' h2 hx
 have hlk:∀ i x,look st' i=some x→look (st'.map fun p=>(re1 r0 r p.1,p.2.ren (re1 r0 r))) (re1 r0 r i)=some (x.ren (re1 r0 r)):=by
  have key:∀ (l:List (Nat × SO)),RenSt st (re1 r0 r) n l→∀ i x,look l i=some x→look (l.map fun p=>(re1 r0 r p.1,p.2.ren (re1 r0 r))) (re1 r0 r i)=some (x.ren (re1 r0 r)):=by
   intro l
   induction l with
   | nil=>intro _ i x h;simp [look] at h
   | cons p l ih=>
    intro hl i x h
    obtain ⟨j,z⟩:=p
    have hin:=(RenSt.get hl i x h).2.2.1
    have hj:=hl.1.2
    simp only [zf,xt] at hj
    rw [ql] at h
    rw [zab,ql]
    split at h
    ·rename_i e;subst e;cases h;rw [zb rfl]
    ·rename_i e
     rw [za (fun h=>e (hinj j i hj.1.2 hin h))]
     exact ih hl.2 i x h
  exact key st' h2
 have hm:=hw.rename hb.std (re1 r0 r) (st':=st') (n:=n) (fun i x hx=>⟨hlk i x hx,(RenSt.get h2 i x hx).2⟩) hinj
 refine ⟨rd,_,⟨fun t=>?_,hs.defers,hm⟩,⟨hb.rd,?_,hb.low,hb.std⟩⟩
 ·unfold ASt.get
  cases hx:look sl' t with
  | none=>exact .any _ _
  | some v=>
   obtain ⟨h3,h4⟩:=RenSl.get h1 t v hx
   exact ((qhp h4).2 (h3.rel (hs.slots t))).lt h4
 ·refine ⟨fun i g hg=>?_,fun q i v e k hq=>?_⟩
  ·have hi:i<E.nxb:=by
    by_cases hi:i<E.nxb
    ·exact hi
    ·rw [(hb.low i (by omega)).1] at hg;cases hg
   have:=hb.mp.blk i g hg
   simp only [Mp.restrict,Mp.pull,zb (show i<n by omega),hι,za (show i≠r0 by omega)]
   exact this
  ·have hi:q<E.nxb:=by
    by_cases hi:q<E.nxb
    ·exact hi
    ·rw [(hb.low q (by omega)).2 i] at hq;cases hq
   have:=hb.mp.row q i v e k hq
   simp only [Mp.restrict,Mp.pull,zb (show q<n by omega),hι,za (show q≠r0 by omega)]
   exact this
theorem jcb {E:Env} {B:Nat→ASt→Prop} {body:Code} {k:List Itm} {s:ASt} (hT:∀ t,E.T t=tab E.P t) (n lvl:Nat) {G:Type} (I:G→ASt) (φ:G→Prop) (μ:G→Nat) (g0:G) (h0:φ g0) (hsub:TurnR E s (I g0))
  (hmk:qgp lvl k=true)
  (round:∀ g,φ g→exec E (fun m s'=>bif Nat.beq m lvl then ∃ g',φ g'∧TurnR E s' (I g')∧μ g' < μ g else B m s') n (.code body::.mark lvl::k) (I g)):qat E B body k s:=by
 unfold qat
 intro rd mp a w hs hrd hsz
 obtain ⟨rd0,mp0,hs0,hrd0⟩:=hsub rd mp a w hs hrd
 show (Code.loop body).wp E.P (QK E B k) a w
 refine wp_loop_ghost (fun m a w=>a.tmps.size=E.fn.ntmps∧∃ rd mp g,SR E.c rd mp (I g) a w∧Base E rd mp∧φ g∧μ g=m) (μ g0) ⟨hsz,rd0,mp0,g0,hs0,hrd0,h0,rfl⟩ ?_
 rintro m a w ⟨hsz,rd,mp,g,hs,hrd,hφ,rfl⟩
 have hok:=qbu (E:=E) (B:=(fun m s'=>bif Nat.beq m lvl then ∃ g',φ g'∧TurnR E s' (I g')∧μ g' < μ g else B m s')) hT n _ _ (round g hφ) rd mp a w hs hrd hsz
 refine wp_mono hok fun e a' w' hq=>?_
 have pass:QK E (fun m s'=>bif Nat.beq m lvl then ∃ g',φ g'∧TurnR E s' (I g')∧μ g' < μ g else B m s') k e a' w'→QK E B k e a' w':=
  qnu (E:=E) (B:=B) (B':=(fun m s'=>bif Nat.beq m lvl then ∃ g',φ g'∧TurnR E s' (I g')∧μ g' < μ g else B m s')) lvl (fun n s hn hb=>by
   have:Nat.beq n lvl=false:=by
    cases hb':Nat.beq n lvl with
    | false=>rfl
    | true=>exact absurd (zj hb') hn
   simpa [this] using hb) k hmk e a' w'
 cases e with
 | normal=>
  obtain ⟨h1,rd',mp',s',h2,h3,h4⟩:=hq
  simp only [Nat.beq_refl,cond_true] at h4
  obtain ⟨g',hg1,hg2,hg3⟩:=h4
  obtain ⟨rd2,mp2,h5,h6⟩:=hg2 rd' mp' a' w' h2 h3
  exact ⟨μ g',hg3,h1,rd2,mp2,g',h5,h6,hg1,rfl⟩
 | _=>exact pass hq
theorem qvu {E:Env} {B:Nat→ASt→Prop} {k:List Itm} {sl:List (Nat × AV)} {st:List (Nat × SO)} {nx:Nat} (ks:List Nat) (b:Nat) {ty:TypeId} {cs:List AV} (hl:look (jf st ks) b=some (.box ty cs)) (hok:allP (qgv ks (qr ks st)) cs)
  (h:Ok E B k ⟨sl,qj (jf st ks) b (.box ty (cs.map (frz1 ks (qr ks st)))),nx⟩):Ok E B k ⟨sl,st,nx⟩:=by
 intro rd mp a w hs hrd hsz
 have hd:=hs.mem.dropped ks
 have hf:=hs.mem.freeze ks
 have hl':=(qez hl).1
 have h2:=hf.rebox2 (cs':=cs.map (frz1 ks (qr ks st))) hl (by rw [xh]) (fun g vs hg hv j x v hx hvj=>by
  obtain ⟨g',vs',h1,h2,_,h4,_⟩:=hs.mem.bx b ty cs hl'
  rw [h1] at hg;cases hg
  obtain rfl:=h2.uniq hv
  rw [zi] at hx
  obtain ⟨y,hy,rfl⟩:=Option.map_eq_some_iff.1 hx
  exact qsh hd ks y v (qdd hok j y hy) (h4 j y v hy hvj))
 exact h _ mp a w ⟨fun t=>(hs.slots t).mono qci (Mp.le.refl _),hs.defers,h2⟩ (hrd.step qci (Mp.le.refl _)) hsz
theorem EndG.frz {E:Env} {B:Nat→ASt→Prop} {n:Nat} {k:List Itm} {sl:List (Nat × AV)} {st:List (Nat × SO)} {nx:Nat} (ks:List Nat) (b:Nat) {ty:TypeId} {cs:List AV} (hl:look (jf st ks) b=some (.box ty cs)) (hok:allP (qgv ks (qr ks st)) cs)
  (h:jt (qj (jf st ks) b (.box ty (cs.map (frz1 ks (qr ks st))))) fun st'=>exec E B n k ⟨sl,st',nx⟩):EndG E B n k ⟨sl,st,nx⟩:=by
 rw [qac] at h
 unfold EndG
 exact .inl ⟨_,qvu ks b hl hok,h⟩
theorem qdp {E:Env} {B:Nat→ASt→Prop} {id:Nat} {ops:Array Oper} {k:List Itm} {sl:List (Nat × AV)} {st:List (Nat × SO)} {nx:Nat} (ks:List Nat) (b:Nat) {ty:TypeId} {cs:List AV} (hl:look (jf st ks) b=some (.box ty cs)) (hok:allP (qgv ks (qr ks st)) cs)
  (h:jt (qj (jf st ks) b (.box ty (cs.map (frz1 ks (qr ks st))))) fun st'=>qab E B id ops k ⟨sl,st',nx⟩):qab E B id ops k ⟨sl,st,nx⟩:=by
 rw [qac] at h
 unfold qab at h ⊢
 exact qvu ks b hl hok h
theorem qsk {E:Env} {B:Nat→ASt→Prop} {body:Code} {k:List Itm} {sl:List (Nat × AV)} {st:List (Nat × SO)} {nx:Nat} (ks:List Nat) (b:Nat) {ty:TypeId} {cs:List AV} (hl:look (jf st ks) b=some (.box ty cs)) (hok:allP (qgv ks (qr ks st)) cs)
  (h:jt (qj (jf st ks) b (.box ty (cs.map (frz1 ks (qr ks st))))) fun st'=>qat E B body k ⟨sl,st',nx⟩):qat E B body k ⟨sl,st,nx⟩:=by
 rw [qac] at h
 unfold qat at h ⊢
 exact qvu ks b hl hok h
theorem Ob.auto {p r:Prop} (k:r) (h:p:=by first|exact trivial|rfl|exact fun h=>h|(show TI.cmp _=true;kernel_rfl)|omega|exact And.intro trivial trivial|exact And.intro rfl trivial|((repeat' (first|exact trivial|exact rfl|(refine And.intro ?_ ?_)));done)|exact qeb (by omega) (by omega)|(intro h;simp at h;omega)|(intro h;(repeat' (first|exact h|exact rfl|(show TI.cmp _=true;kernel_rfl)|exact qeb (by omega) (by omega)|(refine And.intro ?_ ?_))) <;> first|(have h:=zm h;omega)|(simp at h;omega)|(simp at h;done)|(simp at h ⊢;exact h)|(simp at h ⊢;omega))|(intro h;rw [h];rfl)|(intro h;simp [h];done)|((try dsimp only);(repeat' (refine And.intro ?_ ?_)) <;> first|omega|(refine xa (zu _ (?_:_≤4000001)) (by decide +kernel);omega)|rfl)|(intros;simp_all;done)|fail):Ob p r:=Ob.intro h k
theorem qa {p:Prop} (h:p:=by repeat' (first|exact trivial|exact Le.refl _|exact SoLe.refl _|exact jnl (fun _ _=>rfl) rfl|exact jnu rfl rfl rfl|exact jno rfl rfl|exact rfl|exact fun _ _=>LeL.refl _|exact Le.of_eq (congrArg (AV.own _ _ _) List.length_append.symm)|(refine ⟨?_,?_⟩)|exact Le.of_eq (congrArg (AV.int _) (by omega))|exact Le.of_eq (congrArg (AV.own _ _ _) (by first|omega|(simp;done)|(simp;omega)))|exact Le.of_eq (by first|rfl|(simp;done))|exact fun i hi=>absurd hi (zh i)|omega|(simp;done))):p:=h
theorem subA {p:Prop} (h:p:=by repeat' (first|exact trivial|exact Le.refl _|exact Le.of_eq (by congr 1;omega)|exact Le.of_eq (congrArg (AV.int _) (by omega))|exact Le.of_eq (congrArg (AV.own _ _ _) (by first|omega|(simp;done)|(simp;omega)))|exact Le.of_eq (by first|rfl|(simp;done))|exact ⟨⟨rfl,rfl,rfl⟩,rfl,rfl,fun _ _=>LeL.refl _⟩|exact ⟨⟨rfl,rfl,rfl⟩,rfl,rfl,fun i hi=>absurd hi (zh i)⟩|exact ⟨⟨rfl,rfl,rfl⟩,rfl,by simp,fun i hi=>LeL.refl _⟩|exact rfl|(refine And.intro ?_ ?_))):p:=h
theorem leA {p:Prop} (h:p:=by (repeat' (first|exact trivial|exact Le.refl _|(refine And.intro ?_ ?_))) <;> fail):p:=h
theorem qz {p:Prop} (h:p:=by (repeat' (first|exact trivial|(refine And.intro rfl ?_))) <;> fail):p:=h
theorem frzA {p:Prop} (h:p:=by repeat' (first|exact trivial|exact ⟨rfl,rfl⟩|exact ⟨rfl,rfl,rfl⟩|(refine And.intro ?_ ?_))):p:=h
theorem farA {p:Prop} (h:p:=by repeat' (first|exact trivial|exact fun h=>Bool.noConfusion h|exact rfl|(refine And.intro ?_ ?_)|(intro _))):p:=h
theorem qc {p:Prop} (h:p:=by (repeat' (first|exact trivial|exact rfl|(refine And.intro ?_ ?_)|(intro _))) <;> fail):p:=h
theorem renA {p:Prop} (h:p:=by repeat' (first|exact trivial|exact Le.refl _|exact SoLe.refl _|exact rfl|exact Le.of_eq (congrArg (AV.int _) (by omega))|(refine And.intro ?_ ?_))):p:=h
end Go.Sx
end
section
namespace Go.Sx
open Go Go.RowKit Go.Lib
section
variable {P:Program} (w:World)
theorem jpd (t u ty e:TypeId) (i:TypeInfo) (ht:P.underlying t=some (.slice e)) (hu:P.underlying u=some .string) (hi:P.info? e=some i) (hz:i.zero=some (.int .u8 0))
  (hsize:i.size=1) (hby:i.bytes=1) (v:Value) (n:Nat) (xs:List Value) (hown:Owns w e 1 v n xs) (s:ByteArray) (h63:n+s.size≤maxLen) (hbytes:n+s.size≤140737488355328) :
  ∃ v' w',(Builtin.append_ #[t,u] ty #[v,.string s]).run P w=.ok v' w'∧Owns w' e 1 v' (n+s.size) (xs++strCells s)∧w.grownBy w' v.ownBlock∧(v'.ownBlock=v.ownBlock∨∃ g,v'.ownBlock=some g∧w.heap.size≤g):=by
 have hsmall:n+s.size≤9223372036854775807:=by simp only [maxLen] at h63;omega
 have hxl:xs.length=n:=by simpa using hown.1
 have hlen:(xs++strCells s).length=(n+s.size) * 1:=by rw [zg,hxl,strCells_length,Nat.mul_one]
 rcases hown.2 with ⟨rfl,rfl⟩|⟨g,lo,cap,cur,rfl,hg,hnc,hcm,hcs,htake⟩
 ·have hx:xs=[]:=zba hxl
  subst hx
  obtain ⟨v',w',h1,h2,h3,h4⟩:=run_append_own_string (P:=P) w w.heap.size t u ty e i ht hu hi hz hsize hby (.slice none 0 0) 0 [] (World.ownsRow_nil w _ _ _) s h63 hbytes (zl _)
  refine ⟨v',w',h1,.of_row h2,h3,?_⟩
  rcases h2.2 with ⟨h5,_⟩|⟨g,cap,cur,h5,h6,_⟩
  ·subst h5;exact .inl rfl
  ·subst h5;exact .inr ⟨g,rfl,h6⟩
 ·by_cases hroom:n+s.size≤cap
  ·have hf:=run_firstCells_string (P:=P) w 1 s
   have hst:=run_storeCells_at P g (lo+n) e (strCells s) 0 cur w hg (by rw [strCells_length];omega) (strCells_oneCell s)
   simp only [xm] at hst
   have hr:(Builtin.append_ #[t,u] ty #[.slice (some ⟨g,lo,none⟩) n cap,.string s]).run P w =
     .ok (.slice (some ⟨g,lo,none⟩) (n+s.size) cap) (w.setRow g (cur.toList.take (lo+n)++strCells s++cur.toList.drop (lo+n+(strCells s).length)).toArray):=by
    simp [Builtin.append_,run_underlying ht,run_underlying hu,sizeOf,typeInfo,hi,hsize,Builtin.lenOf,hroom,hf,Addr.add_lit,hst]
   have hcl:cur.toList.length=cur.size:=by simp
   refine ⟨_,_,hr,⟨hlen,.inr ⟨g,lo,cap,_,rfl,setRow_heap w g cur _ e _ hg,hroom,hcm,?_,?_⟩⟩,⟨rfl,rfl,rfl,by simp,fun k _ hk=>setRow_other w g k _ (fun e=>hk (by simp [Value.ownBlock,e]))⟩,.inl rfl⟩
   ·simp only [List.size_toArray,zg,xc,xj,strCells_length]
    omega
   ·simp only [zn]
    have htk:(cur.toList.take (lo+n)).drop lo=xs:=by
     rw [Nat.mul_one] at htake
     rw [← htake,zbn,zan]
    rw [List.drop_append_of_le_length (by rw [xc,hcl];omega),htk,← zn,← hlen]
    exact List.take_left
  ·have holds:∀ j u,xs[j]?=some u→w.cell? ((⟨g,lo,none⟩:Addr).add j)=some u:=fun j u hu=>by rw [Addr.add_lit];exact hown.cells hu
   have hr:=run_append_grow_string (P:=P) w t u ty e i (.int .u8 0) ht hu hi hz ⟨g,lo,none⟩ n cap xs (by rw [hsize];simpa using hxl) holds s (by omega) (by omega) (by rw [hby];exact growslice_fits (by omega) (by omega))
   have hge:=grownCap_ge w (n+s.size) cap e
   have hcm':grownCap w (n+s.size) cap e≤maxLen:=grownCap_le_maxLen w (n+s.size) cap e h63
   have hz1:(Value.int IntKind.u8 0).cells.size=1:=rfl
   refine ⟨_,_,hr,⟨hlen,.inr ⟨w.heap.size,0,_,_,rfl,heap_alloc_new w.drew _,hge,hcm',?_,?_⟩⟩,⟨rfl,rfl,rfl,by simp,fun k hk _=>heap_alloc_old w.drew _ hk⟩,.inr ⟨_,rfl,zl _⟩⟩
   ·simp only [Array.size_append,List.size_toArray,size_zeroCells,hz1,hxl,strCells_length,zo]
    omega
   ·simp only [Array.toList_append,zn,List.drop_zero]
    rw [← zn,← hlen]
    exact List.take_left
theorem jpe {ops:Array Oper} {rest:List Oper} {o:Oper} {a:Act} {Q:Exit→Act→World→Prop} (hgd:o.guard=none) (sl x:Operand) (t u:TypeId)
  (ho:o.op=.call { callee:=.builtin .append,args:=#[sl,x],argTypes:=#[t,u] })
  (e:TypeId) (i:TypeInfo) (ht:P.underlying t=some (.slice e)) (hu:P.underlying u=some .string) (hi:P.info? e=some i) (hz:i.zero=some (.int .u8 0))
  (hsize:i.size=1) (hby:i.bytes=1)
  (v:Value) (n:Nat) (xs:List Value) (hs:a.eval sl=v) (hown:Owns w e 1 v n xs) (s:ByteArray) (hx:a.eval x=.string s)
  (h63:n+s.size≤maxLen) (hbytes:n+s.size≤140737488355328)
  (h:∀ v' w',Owns w' e 1 v' (n+s.size) (xs++strCells s)→w.grownBy w' v.ownBlock→(v'.ownBlock=v.ownBlock∨∃ g,v'.ownBlock=some g∧w.heap.size≤g)→wpList P ops Q rest (a.put o.dst v') w'):wpList P ops Q (o::rest) a w:=by
 refine wpList_plain hgd fun K hK=>?_
 obtain ⟨v',w',hr,h2,h3,h4⟩:=jpd (P:=P) w t u o.type e i ht hu hi hz hsize hby v n xs hown s h63 hbytes
 unfold Oper.wp execOp
 simp only [ho,resolve,invoke,builtin,Sem.run_bind,Sem.run_pure,Result.andThen_ok,List.map_toArray,zab,List.map_nil,hs,hx,hr]
 exact hK _ _ (h v' w' h2 h3 h4)
theorem jpf {ops:Array Oper} {rest:List Oper} {o:Oper} {a:Act} {Q:Exit→Act→World→Prop} (hgd:o.guard=none) (sl x:Operand) (t:TypeId)
  (ho:o.op=.call { callee:=.builtin .append,args:=#[sl,x],argTypes:=#[t,t] })
  (e:TypeId) (i:TypeInfo) (z:Value) (size bytes:Nat) (ht:P.underlying t=some (.slice e)) (hi:P.info? e=some i) (hz:i.zero=some z)
  (hsize:i.size=size) (hby:i.bytes=bytes) (hzs:z.cells.size=size) (hsz:0<size)
  (v:Value) (n:Nat) (xs:List Value) (hs:a.eval sl=v) (hown:Owns w e size v n xs) (y:Value) (m:Nat) (news:List Value) (hx:a.eval x=y) (hy:Src w size m y news)
  (h63:n+m≤maxLen) (hbytes:(n+m) * bytes≤140737488355328)
  (h:∀ v' w',Owns w' e size v' (n+m) (xs++news)→w.grownBy w' v.ownBlock→(v'.ownBlock=v.ownBlock∨∃ g,v'.ownBlock=some g∧w.heap.size≤g)→wpList P ops Q rest (a.put o.dst v') w'):wpList P ops Q (o::rest) a w:=by
 refine wpList_plain hgd fun K hK=>?_
 obtain ⟨v',w',hr,h2,h3,h4,_⟩:=qrc (P:=P) w t o.type e i z size bytes ht hi hz hsize hby hzs hsz v n xs hown y m news hy h63 hbytes
 unfold Oper.wp execOp
 simp only [ho,resolve,invoke,builtin,Sem.run_bind,Sem.run_pure,Result.andThen_ok,List.map_toArray,zab,List.map_nil,hs,hx,hr]
 exact hK _ _ (h v' w' h2 h3 (h4.imp id fun h=>⟨_,h,zl _⟩))
end
end Go.Sx
end
section
namespace Go.Sx
open Go Go.RowKit
theorem jph {rd:Rd} {mp:Mp} {k:IntKind} {n:Int} {v:Value} (h:Rel rd mp (.int k n) v):v=.int k n:=by cases h;rfl
theorem MemR.below {rd:Rd} {w w':World} (h:MemR rd w) (hb:Below w.heap.size w w'):MemR rd w':=by
 have hlt:∀ g o v,rd g o=some v→g<w.heap.size:=fun g o v hv=>World.block_lt_of_cell? w ⟨g,o,none⟩ (h.1 g o v hv)
 refine ⟨fun g o v hv=>(hb.cell (p:=⟨g,o,none⟩) (hlt g o v hv)).trans (h.1 g o v hv),h.2.1,h.2.2.step (Rd.le.refl _) (fun g hg=>?_)⟩
 cases hv:rd g 0 with
 | none=>exact absurd hv hg
 | some v=>exact hb.block g (hlt g 0 v hv)
theorem MemR.tabs {rd:Rd} {w:World} (h:MemR rd w):∀ t∈tbs,∃ ty fz,w.heap[t.1]?=some (.cells t.2 ty fz):=fun t ht=>(h.2.2 t ht).2
theorem jpi {P:Program} {w:World} {nm:String} {g:Nat} {k:IntKind} {zs:List Int} (hg:P.globalNamed nm=some g) (h:∃ ty fz,w.heap[g]?=some (.cells (zs.map fun z=>Value.int k z).toArray ty fz)):Lib.TabIs P w nm k zs:=by
 obtain ⟨ty,fz,h⟩:=h
 unfold Lib.TabIs World.var?
 rw [hg,zbl,h]
theorem TabIs.on {P:Program} {w w':World} {nm:String} {k:IntKind} {zs:List Int} (h:Lib.TabIs P w nm k zs) (hb:∀ j,j<w.heap.size→w'.heap[j]?=w.heap[j]?):Lib.TabIs P w' nm k zs:=by
 unfold Lib.TabIs World.var? at h ⊢
 cases hg:P.globalNamed nm with
 | none=>rw [hg] at h;exact h
 | some g=>
  rw [hg] at h
  simp only [zbl] at h ⊢
  cases ho:w.heap[g]? with
  | none=>rw [ho] at h;cases h
  | some o=>rw [hb g (qqk ho),ho];rw [ho] at h;exact h
section
variable {c:Ctx} {rd:Rd} {mp:Mp} {st:List (Nat × SO)} {nx:Nat} {w:World}
def Mp.addRow (mp:Mp) (F n:Nat):Mp:=⟨mp.blk,fun r i=>if r=F∧i=n then some (.slice Option.none 0 0,0,0) else mp.row r i⟩
theorem Mp.le_addRow {F n:Nat} (h:mp.row F n=Option.none):Mp.le mp (mp.addRow F n):=
 ⟨fun _ _ h=>h,fun r i v e m hr=>by
  refine ⟨v,e,m,?_,.inr ⟨rfl,.inr ⟨rfl,rfl⟩⟩⟩
  simp only [Mp.addRow]
  rw [za]
  ·exact hr
  ·rintro ⟨rfl,rfl⟩
   rw [h] at hr;cases hr⟩
theorem Mem.growFam (h:Mem c rd mp st nx w) {F n:Nat} {e:TypeId} {sz:Nat} {ep len:Nat→Nat} {f:Nat→Nat→List AV} (hl:look st F=some (.fam e sz n ep len f)) :
  Mem c rd (mp.addRow F n) (qj st F (.fam e sz (n+1) (fun k=>if k<n then ep k else 0) (fun k=>if k<n then len k else 0) f)) nx w:=by
 have hno:=h.out F e sz n ep len f hl n (zl _)
 have hrow:∀ r i,¬ (r=F∧i=n)→(mp.addRow F n).row r i=mp.row r i:=fun r i hn=>by simp only [Mp.addRow];rw [za hn]
 have hnf:¬ c.fre nx F:=h.ids F _ hl
 refine h.upd (some (.rw F n)) (Rd.le.refl _) (Mp.le_addRow hno) h.fr h.rdw h.rd1 h.rdn (fun b' ty' cs' hl' hne'=>?_) (fun r i R hR hne=>?_)
  (fun p hp hp'=>⟨?_,fun g hg=>⟨rfl,(h.home hp hg).2.1⟩⟩) (fun b' ty' cs'' ht hl'=>by cases ht) (fun r i R ht hR=>?_)
  (fun p g ht hp hg q hq hq' hg'=>?_) (fun i hi=>?_) (fun i y hy=>?_) (fun r e' sz' cnt ep' len' f'' hl' i hi=>?_) (fun r sz' ep' n' f'' hl'=>?_)
 ·rw [qd] at hl'
  by_cases hb:b'=F
  ·rw [zb hb,hb,hl] at hl';cases hl'
  ·rw [za hb] at hl';exact hl'
 ·by_cases hr:r=F
  ·subst hr
   cases hR with
   | row hl'=>rw [qd,zb rfl,hl] at hl';cases hl'
   | fam hl' hi=>
    rw [qd,zb rfl,hl] at hl'
    cases hl'
    have hin:i≠n:=fun he=>hne (by rw [he])
    have hi':i<n:=by omega
    simp only [zb hi']
    exact .fam hl hi'
  ·exact qse hr hR
 ·cases p with
  | bx b=>rfl
  | rw r i=>exact hrow r i (fun he=>hp' (by rw [he.1,he.2]))
 ·simp only [Option.some.injEq,Pl.rw.injEq] at ht
  obtain ⟨rfl,rfl⟩:=ht
  cases hR with
  | row hl'=>rw [qd,zb rfl,hl] at hl';cases hl'
  | fam hl' _=>
   rw [qd,zb rfl,hl] at hl'
   cases hl'
   refine ⟨.slice none 0 0,[],?_,⟨by simp,.inl ⟨rfl,by simp⟩⟩,fun k hk=>?_,fun k j x hk=>?_,fun g hg=>by simp [Value.ownBlock] at hg⟩
   ·simp [Mp.addRow]
   ·simp at hk
   ·simp at hk
 ·cases ht
  simp [blkOf,Mp.addRow,Value.ownBlock] at hg
 ·have:=h.fresh i hi
  exact ⟨this.1,fun j=>by rw [hrow i j (fun he=>hnf (he.1 ▸ hi))];exact this.2 j⟩
 ·rw [qd] at hy
  by_cases hid:i=F
  ·rw [hid];exact hnf
  ·rw [za hid] at hy;exact h.ids i y hy
 ·rw [qd] at hl'
  by_cases hid:r=F
  ·subst hid
   rw [zb rfl,hl] at hl'
   cases hl'
   rw [hrow r i (fun he=>by omega)]
   exact h.out r e sz n ep len f hl i (by omega)
  ·rw [za hid] at hl'
   rw [hrow r i (fun he=>hid he.1)]
   exact h.out r e' sz' cnt ep' len' f'' hl' i hi
 ·rw [qd] at hl'
  by_cases hid:r=F
  ·rw [zb hid,hid,hl] at hl';cases hl'
  ·rw [za hid] at hl';exact ⟨hl',hrow r 0 (fun he=>hid he.1)⟩
theorem Turn.grow {E:Env} {sl:List (Nat × AV)} (id F j:Nat) {e:TypeId} {sz ep n:Nat} {f:Nat→List AV} {e':TypeId} {sz':Nat} {ep' len':Nat→Nat} {f':Nat→Nat→List AV}
  (hl:look st id=some (.row [F] e sz ep (n+1) f)) (hF:look st F=some (.fam e' sz' n ep' len' f')) (hc:(f n)[j]?=some .nils) :
  Turn E ⟨sl,st,nx⟩ ⟨sl,qj (qj st F (.fam e' sz' (n+1) (fun k=>if k<n then ep' k else 0) (fun k=>if k<n then len' k else 0) f')) id (.row [F] e sz ep (n+1) (fun k=>if k=n then (f n).set j (.own F n 0 0) else f k)),nx⟩:=by
 intro rd mp a w hs hb
 have hmem:=hs.mem.growFam hF
 have hle:Mp.le mp (mp.addRow F n):=Mp.le_addRow (hs.mem.out F e' sz' n ep' len' f' hF n (zl _))
 have hne:id≠F:=by rintro rfl;rw [hl] at hF;cases hF
 have hl2:look (qj st F (.fam e' sz' (n+1) (fun k=>if k<n then ep' k else 0) (fun k=>if k<n then len' k else 0) f')) id=some (.row [F] e sz ep (n+1) f):=by rw [qd,za hne];exact hl
 obtain ⟨_,_,_,_,h3,_,_⟩:=hs.mem.mb id 0 _ (.row hl)
 simp only at h3
 have hm2:=hmem.rerow (ids':=[F]) (f':=fun k=>if k=n then (f n).set j (.own F n 0 0) else f k) hl2 (fun k hk=>by
   split
   ·rw [List.length_set];exact h3 n (zaw _)
   ·exact h3 k hk) (fun k i x y v hk hx hy hr=>by
  by_cases hkn:k=n
  ·subst hkn
   rw [zb rfl,List.getElem?_set] at hx
   by_cases hij:j=i
   ·subst hij
    rw [hc] at hy
    cases hy
    have hlt:j<(f k).length:=(List.getElem?_eq_some_iff.1 hc).1
    rw [zb rfl,zb hlt] at hx
    cases hx
    cases hr
    exact .own _ _ _ _ _ _ (.slice none 0 0) 0 0 (by simp only [Mp.sel,zw,zb,Mp.addRow,and_self]) (zl _) (fun _=>zl _) (fun _ _=>rfl) rfl
   ·rw [za hij] at hx
    rw [hx] at hy
    cases hy
    exact hr
  ·rw [za hkn] at hx
   rw [hx] at hy
   cases hy
   exact hr)
 exact ⟨_,⟨fun t=>(hs.slots t).mono (Rd.le.refl _) hle,hs.defers,hm2⟩,hb.step (Rd.le.refl _) hle⟩
theorem jco {E:Env} {B:Nat→ASt→Prop} {body:Code} {k:List Itm} {sl:List (Nat × AV)} (id F j:Nat) {e:TypeId} {sz ep n:Nat} {f:Nat→List AV} {e':TypeId} {sz':Nat} {ep' len':Nat→Nat} {f':Nat→Nat→List AV}
  (hl:look st id=some (.row [F] e sz ep (n+1) f)) (hF:look st F=some (.fam e' sz' n ep' len' f')) (hc:(f n)[j]?=some .nils)
  (h:jt (qj (qj st F (.fam e' sz' (n+1) (fun k=>if k<n then ep' k else 0) (fun k=>if k<n then len' k else 0) f')) id (.row [F] e sz ep (n+1) (fun k=>if k=n then (f n).set j (.own F n 0 0) else f k))) fun st'=>qat E B body k ⟨sl,st',nx⟩):qat E B body k ⟨sl,st,nx⟩:=by
 rw [qac] at h
 exact qvh (Turn.grow id F j hl hF hc) h
theorem Turn.fam0 {E:Env} {sl:List (Nat × AV)} (id:Nat) (e':TypeId) (sz':Nat) {e:TypeId} {sz ep n:Nat} {f:Nat→List AV} (hl:look st id=some (.row [] e sz ep n f)) :
  Turn E ⟨sl,st,nx⟩ ⟨sl,(nx,.fam e' sz' 0 (fun _=>0) (fun _=>0) (fun _ _=>[]))::qj st id (.row [nx] e sz ep n f),nx+1⟩:=by
 intro rd mp a w hs hb
 have hsup:Sup E.c nx:=Sup.std hb.std nx
 have hfr:=hs.mem.fresh nx hsup.here
 have hmem:=hs.mem.newFam hsup e' sz' 0
 have hle:Mp.le mp (mp.addFam nx 0):=Mp.le_addFam hfr.2
 have hbn:nx≠id:=by rintro rfl;exact hs.mem.ids _ _ hl hsup.here
 have hl2:look ((nx,SO.fam e' sz' 0 (fun _=>0) (fun _=>0) (fun _ _=>[]))::st) id=some (.row [] e sz ep n f):=by rw [ql,za hbn];exact hl
 obtain ⟨_,_,_,_,h3,_,_⟩:=hs.mem.mb id 0 _ (.row hl)
 simp only at h3
 have hm2:=hmem.rerow (ids':=[nx]) (f':=f) hl2 h3 (fun k j x y v hk hx hy hr=>by
  rw [hx] at hy
  cases hy
  rw [Mp.sel_nil] at hr
  exact hr.mono (Rd.le.refl _) (Mp.none_le_sel _ _))
 have hset:∀ o,qj ((nx,SO.fam e' sz' 0 (fun _=>0) (fun _=>0) (fun _ _=>[]))::st) id o=(nx,SO.fam e' sz' 0 (fun _=>0) (fun _=>0) (fun _ _=>[]))::qj st id o:=fun o=>by
  have:Nat.beq nx id=false:=by
   cases hb':Nat.beq nx id with
   | false=>rfl
   | true=>exact absurd (zj hb') hbn
  simp only [qj,this,cond_false]
 rw [hset] at hm2
 exact ⟨_,⟨fun t=>(hs.slots t).mono (Rd.le.refl _) hle,hs.defers,hm2⟩,hb.step (Rd.le.refl _) hle⟩
theorem jcp {E:Env} {B:Nat→ASt→Prop} {body:Code} {k:List Itm} {sl:List (Nat × AV)} (id:Nat) (e':TypeId) (sz':Nat) {e:TypeId} {sz ep n:Nat} {f:Nat→List AV} (hl:look st id=some (.row [] e sz ep n f))
  (h:frcN (nx+1) fun nx'=>jt (qj st id (.row [nx] e sz ep n f)) fun st'=>qat E B body k ⟨sl,(nx,.fam e' sz' 0 (fun _=>0) (fun _=>0) (fun _ _=>[]))::st',nx'⟩):qat E B body k ⟨sl,st,nx⟩:=by
 rw [jm,qac] at h
 exact qvh (Turn.fam0 id e' sz' hl) h
end
section
variable {c:Ctx} {rd:Rd} {mp:Mp} {st:List (Nat × SO)} {nx:Nat} {w:World}
def Mp.putRow (mp:Mp) (F i:Nat) (x:Value × Nat × Nat):Mp:=⟨mp.blk,fun r j=>if r=F∧j=i then some x else mp.row r j⟩
theorem Mp.le_putRow {F i:Nat} {v v0:Value} {e e0 n n0:Nat} (h:mp.row F i=some (v0,e0,n0)) (he:e0<e):Mp.le mp (mp.putRow F i (v,e,n)):=
 ⟨fun _ _ h=>h,fun r j v' e' n' hr=>by
  by_cases hrj:r=F∧j=i
  ·obtain ⟨rfl,rfl⟩:=hrj
   rw [h] at hr
   cases hr
   exact ⟨v,e,n,by simp [Mp.putRow],.inl he⟩
  ·exact ⟨v',e',n',by simp only [Mp.putRow];rw [za hrj];exact hr,.inr ⟨rfl,.inr ⟨rfl,rfl⟩⟩⟩⟩
theorem Mem.absorb (h:Mem c rd mp st nx w) {F r i cnt:Nat} {e:TypeId} {sz ep1 n1:Nat} {g:Nat→List AV} {ep len:Nat→Nat} {f:Nat→Nat→List AV}
  (hF:look st F=some (.fam e sz cnt ep len f)) (hr:look st r=some (.row [] e sz ep1 n1 g)) (hi:i<cnt) :
  ∃ v,mp.row r 0=some (v,ep1,n1)∧Mp.le mp (mp.putRow F i (v,ep i+1,n1)) ∧
   Mem c rd (mp.putRow F i (v,ep i+1,n1)) (qj (qr [r] st) F (.fam e sz cnt (Go.Sx.upd ep i (ep i+1)) (Go.Sx.upd len i n1) (Go.Sx.upd f i g))) nx w:=by
 have hne:F≠r:=by rintro rfl;rw [hF] at hr;cases hr
 obtain ⟨v,xs,h1,h2,h3,h4,h5⟩:=h.mb r 0 _ (.row hr)
 obtain ⟨v0,xs0,k1,k2,k3,k4,k5⟩:=h.mb F i _ (.fam hF hi)
 simp only at h1 h2 h3 h4 h5 k1
 have hle:=Mp.le_putRow (mp:=mp) (v:=v) (n:=n1) k1 (zaw (ep i))
 refine ⟨v,h1,hle,?_⟩
 have hrow:∀ r' j,¬ (r'=F∧j=i)→(mp.putRow F i (v,ep i+1,n1)).row r' j=mp.row r' j:=fun r' j hn=>by simp only [Mp.putRow];rw [za hn]
 have hd:∀ y,look (qr [r] st) y=if y=r then none else look st y:=fun y=>by
  rw [qhs]
  by_cases hy':y=r
  ·rw [zb hy',zb (by simpa using hy')]
  ·rw [za hy',za (by simpa using hy')]
 have hdF:look (qr [r] st) F=some (.fam e sz cnt ep len f):=by rw [hd,za hne];exact hF
 have hh:=h.dropped [r]
 refine hh.upd (some (.rw F i)) (Rd.le.refl _) hle hh.fr hh.rdw hh.rd1 hh.rdn (fun b' ty' cs' hl' hne'=>?_) (fun r' j R hR hn=>?_)
  (fun p hp hp'=>⟨?_,fun g hg=>⟨rfl,(hh.home hp hg).2.1⟩⟩) (fun b' ty' cs'' ht hl'=>by cases ht) (fun r' j R ht hR=>?_)
  (fun p g' ht hp hg q hq hq' hg'=>?_) (fun j hj=>?_) (fun j y hy=>?_) (fun r' e' sz' cnt' ep' len' f'' hl' j hj=>?_) (fun r' sz' ep' n' f'' hl'=>?_)
 ·rw [qd] at hl'
  by_cases hb:b'=F
  ·rw [zb hb,hb,hdF] at hl';cases hl'
  ·rw [za hb] at hl';exact hl'
 ·by_cases hr':r'=F
  ·subst hr'
   cases hR with
   | row hl'=>rw [qd,zb rfl,hdF] at hl';cases hl'
   | fam hl' hj=>
    rw [qd,zb rfl,hdF] at hl'
    cases hl'
    have hji:j≠i:=fun he=>hn (by rw [he])
    have u:∀ {α:Type} (a:Nat→α) (x:α),Go.Sx.upd a i x j=a j:=fun a x=>za hji
    rw [u,u,u]
    exact .fam hdF hj
  ·exact qse hr' hR
 ·cases p with
  | bx b=>rfl
  | rw r' j=>exact hrow r' j (fun he=>hp' (by rw [he.1,he.2]))
 ·simp only [Option.some.injEq,Pl.rw.injEq] at ht
  obtain ⟨rfl,rfl⟩:=ht
  cases hR with
  | row hl'=>rw [qd,zb rfl,hdF] at hl';cases hl'
  | fam hl' _=>
   rw [qd,zb rfl,hdF] at hl'
   cases hl'
   have u:∀ {α:Type} (a:Nat→α) (x:α),Go.Sx.upd a i x i=x:=fun a x=>zb rfl
   rw [u,u,u]
   refine ⟨v,xs,by simp [Mp.putRow],h2,h3,fun k j x hk hx=>?_,h5⟩
   obtain ⟨y,h6,h7,h8⟩:=h4 k j x hk hx
   rw [Mp.sel_nil] at h8 ⊢
   exact ⟨y,h6,h7,h8⟩
 ·cases ht
  simp [blkOf,Mp.putRow] at hg
  have hgr:blkOf mp (.rw r 0)=some g':=by simp only [blkOf];rw [h1];exact hg
  have hlo:∀ {y:Nat} {o:SO},look (qr [r] st) y=some o→look st y=some o:=fun {y o} hl=>by
   rw [hd] at hl
   split at hl
   ·cases hl
   ·exact hl
  have hq0:There st q:=by
   cases q with
   | bx b=>obtain ⟨ty,cs,hl⟩:=hq;exact ⟨ty,cs,hlo hl⟩
   | rw r' j=>
    obtain ⟨R,hR⟩:=hq
    cases hR with
    | row hl=>exact ⟨_,.row (hlo hl)⟩
    | fam hl hj=>exact ⟨_,.fam (hlo hl) hj⟩
  have:=h.inj q (.rw r 0) g' hq0 ⟨_,.row hr⟩ hg' hgr
  subst this
  obtain ⟨R,hR⟩:=hq
  cases hR with
  | row hl=>rw [hd,zb rfl] at hl;cases hl
  | fam hl _=>rw [hd,zb rfl] at hl;cases hl
 ·have:=h.fresh j hj
  have hnF:¬ c.fre nx F:=h.ids F _ hF
  exact ⟨this.1,fun k=>by rw [hrow j k (fun he=>hnF (he.1 ▸ hj))];exact this.2 k⟩
 ·rw [qd] at hy
  by_cases hid:j=F
  ·rw [hid];exact h.ids F _ hF
  ·rw [za hid] at hy;exact hh.ids j y hy
 ·rw [qd] at hl'
  by_cases hid:r'=F
  ·subst hid
   rw [zb rfl,hdF] at hl'
   cases hl'
   rw [hrow r' j (fun he=>by omega)]
   exact h.out r' e sz cnt ep len f hF j hj
  ·rw [za hid] at hl'
   rw [hrow r' j (fun he=>hid he.1)]
   exact hh.out r' e' sz' cnt' ep' len' f'' hl' j hj
 ·rw [qd] at hl'
  by_cases hid:r'=F
  ·rw [zb hid,hid,hdF] at hl';cases hl'
  ·rw [za hid] at hl';exact ⟨hl',hrow r' 0 (fun he=>hid he.1)⟩
theorem Mem.retell (hm:Mem c rd mp st nx w) {id F r i:Nat} {ids:List Nat} {e0:TypeId} {ep0 n0:Nat} {f0:Nat→List AV} {ep1 n1 ee:Nat} {v:Value}
  (hl:look st id=some (.row ids e0 1 ep0 n0 f0)) (hr:mp.row r 0=some (v,ep1,n1)) (hF:mp.row F i=some (v,ee,n1))
  (hfi:f0 i=[.own r 0 ep1 n1]) (hf:∀ k,k<n0→k≠i→∃ a b,f0 k=[.own F k a b]) :
  Mem c rd mp (qj st id (.row [F] e0 1 ep0 n0 (fun k=>if k=i then [.own F i ee n1] else f0 k))) nx w:=by
 refine hm.rerow (ids':=[F]) (f':=fun k=>if k=i then [.own F i ee n1] else f0 k) hl (fun k hk=>by
   by_cases hki:k=i
   ·rw [zb hki];rfl
   ·rw [za hki];obtain ⟨x,y,h⟩:=hf k hk hki;rw [h];rfl) (fun k j x y u hk hx hy hrel=>by
  by_cases hki:k=i
  ·rw [zb hki] at hx
   rw [hki,hfi] at hy
   cases j with
   | succ j=>simp at hy
   | zero=>
    simp only [zbf,Option.some.injEq] at hx hy
    subst hx hy
    cases hrel with
    | own _ _ _ _ _ _ vr er nr h3 h4 h5 h6 h7=>
     have h3':mp.row r 0=some (vr,er,nr):=by
      simp only [Mp.sel] at h3
      split at h3
      ·exact h3
      ·cases h3
     rw [hr] at h3'
     cases h3'
     have hv:=h6 rfl rfl
     subst hv
     exact .own _ _ _ _ _ _ u ee n1 (by simp only [Mp.sel,zw,zb];exact hF) (zl _) (fun _=>zl _) (fun _ _=>rfl) h7
  ·rw [za hki] at hx
   obtain ⟨x1,y1,h⟩:=hf k hk hki
   rw [h] at hx hy
   cases j with
   | succ j=>simp at hy
   | zero=>
    simp only [zbf,Option.some.injEq] at hx hy
    subst hx hy
    cases hrel with
    | own _ _ _ _ _ _ vr er nr h3 h4 h5 h6 h7=>
     refine .own _ _ _ _ _ _ vr er nr ?_ h4 h5 h6 h7
     simp only [Mp.sel] at h3 ⊢
     split at h3
     ·rw [zb (by simp)];exact h3
     ·cases h3)
theorem Turn.absorb {E:Env} {sl:List (Nat × AV)} (id F r i:Nat) {ids:List Nat} {e0:TypeId} {ep0 n0:Nat} {f0:Nat→List AV} {cnt:Nat} {e:TypeId} {sz ep1 n1:Nat} {g:Nat→List AV} {ep len:Nat→Nat} {f:Nat→Nat→List AV}
  (hl:look st id=some (.row ids e0 1 ep0 n0 f0)) (hF:look st F=some (.fam e sz cnt ep len f)) (hr:look st r=some (.row [] e sz ep1 n1 g)) (hi:i<cnt) (hir:id≠r)
  (hfi:f0 i=[.own r 0 ep1 n1]) (hf:∀ k,k<n0→k≠i→∃ a b,f0 k=[.own F k a b]) :
  Turn E ⟨sl,st,nx⟩ ⟨sl,qj (qj (qr [r] st) F (.fam e sz cnt (Go.Sx.upd ep i (ep i+1)) (Go.Sx.upd len i n1) (Go.Sx.upd f i g))) id (.row [F] e0 1 ep0 n0 (fun k=>if k=i then [.own F i (ep i+1) n1] else f0 k)),nx⟩:=by
 intro rd mp a w hs hb
 obtain ⟨v,h1,hle,hmem⟩:=hs.mem.absorb hF hr hi
 have hidF:id≠F:=by rintro rfl;rw [hl] at hF;cases hF
 have hrF:r≠F:=by rintro rfl;rw [hF] at hr;cases hr
 have hl2:look (qj (qr [r] st) F (.fam e sz cnt (Go.Sx.upd ep i (ep i+1)) (Go.Sx.upd len i n1) (Go.Sx.upd f i g))) id=some (.row ids e0 1 ep0 n0 f0):=by
  rw [qd,za hidF,qhs,za (by simpa using hir)];exact hl
 have hm2:=hmem.retell (ee:=ep i+1) hl2 (by simp only [Mp.putRow];rw [za (fun h=>hrF h.1)];exact h1) (by simp [Mp.putRow]) hfi hf
 exact ⟨_,⟨fun t=>(hs.slots t).mono (Rd.le.refl _) hle,hs.defers,hm2⟩,hb.step (Rd.le.refl _) hle⟩
theorem Turn.join {E:Env} {sl:List (Nat × AV)} (id F r:Nat) {ids:List Nat} {e0:TypeId} {ep0 n:Nat} {f0:Nat→List AV} {e:TypeId} {sz ep1 n1:Nat} {g:Nat→List AV} {ep len:Nat→Nat} {f:Nat→Nat→List AV}
  (hl:look st id=some (.row ids e0 1 ep0 (n+1) f0)) (hF:look st F=some (.fam e sz n ep len f)) (hr:look st r=some (.row [] e sz ep1 n1 g)) (hir:id≠r)
  (hfi:f0 n=[.own r 0 ep1 n1]) (hf:∀ k,k<n→∃ a b,f0 k=[.own F k a b]) :
  Turn E ⟨sl,st,nx⟩ ⟨sl,qj (qj (qr [r] (qj st F (.fam e sz (n+1) (fun k=>if k<n then ep k else 0) (fun k=>if k<n then len k else 0) f))) F (.fam e sz (n+1) (Go.Sx.upd (fun k=>if k<n then ep k else 0) n ((if n<n then ep n else 0)+1)) (Go.Sx.upd (fun k=>if k<n then len k else 0) n n1) (Go.Sx.upd f n g))) id (.row [F] e0 1 ep0 (n+1) (fun k=>if k=n then [.own F n ((if n<n then ep n else 0)+1) n1] else f0 k)),nx⟩:=by
 intro rd mp a w hs hb
 have hidF:id≠F:=by rintro rfl;rw [hl] at hF;cases hF
 have hrF:r≠F:=by rintro rfl;rw [hF] at hr;cases hr
 have hg:=hs.mem.growFam hF
 have hle0:Mp.le mp (mp.addRow F n):=Mp.le_addRow (hs.mem.out F e sz n ep len f hF n (zl _))
 obtain ⟨v,h1,hle,hmem⟩:=hg.absorb (F:=F) (r:=r) (i:=n) (by rw [qd,zb rfl,hF];rfl) (by rw [qd,za hrF];exact hr) (zaw n)
 have hl2:look (qj (qr [r] (qj st F (.fam e sz (n+1) (fun k=>if k<n then ep k else 0) (fun k=>if k<n then len k else 0) f))) F (.fam e sz (n+1) (Go.Sx.upd (fun k=>if k<n then ep k else 0) n ((if n<n then ep n else 0)+1)) (Go.Sx.upd (fun k=>if k<n then len k else 0) n n1) (Go.Sx.upd f n g))) id=some (.row ids e0 1 ep0 (n+1) f0):=by
  rw [qd,za hidF,qhs,za (by simpa using hir),qd,za hidF];exact hl
 have hm2:=hmem.retell (ee:=(if n<n then ep n else 0)+1) hl2 (by simp only [Mp.putRow];rw [za (fun h=>hrF h.1)];exact h1) (by simp [Mp.putRow]) hfi (fun k hk hne=>hf k (by omega))
 exact ⟨_,⟨fun t=>(hs.slots t).mono (Rd.le.refl _) (Mp.le.trans hle0 hle),hs.defers,hm2⟩,hb.step (Rd.le.refl _) (Mp.le.trans hle0 hle)⟩
end
theorem jcq {sl:List (Nat × AV)} {st:List (Nat × SO)} {nx:Nat} {E:Env} {B:Nat→ASt→Prop} {body:Code} {k:List Itm} (hT:∀ t,E.T t=tab E.P t) (n lvl:Nat) {G:Type} (ov:G→List (Nat × AV)) (so:G→List (Nat × SO)) (φ:G→Prop) (μ:G→Nat)
  (g0:G) (h0:φ g0) (hs0:SubSl ⟨sl,st,nx⟩ (ov g0)) (ht0:SubSt st (so g0)) (hcl:∀ g,(ASt.mk (ov g++kept sl (qfw (qdo body++(ov g0).map (·.1)) (rdOf body (qfv k (qgt E.fn.results.toList))) sl [])) (so g++jf st (qgu (so g0) st)) nx).closed E.nxb=true) (hmk:qgp lvl k=true)
  (round:qkl sl (qfw (qdo body++(ov g0).map (·.1)) (rdOf body (qfv k (qgt E.fn.results.toList))) sl []) fun kl=>jt (jf st (qgu (so g0) st)) fun ks=>∀ g,φ g→exec E (fun m s'=>bif Nat.beq m lvl then ∃ g',φ g'∧(∃ s'',Turn E s' s''∧(SubSl s'' (ov g')∧SubSt s''.st (so g'))∧(SubSl s'' kl∧SubSt s''.st ks))∧μ g' < μ g else B m s') n (.code body::.mark lvl::k) ⟨ov g++kl,so g++ks,nx⟩):qat E B body k ⟨sl,st,nx⟩:=by
 rw [qsc,qac] at round
 generalize qfw (qdo body++(ov g0).map (·.1)) (rdOf body (qfv k (qgt E.fn.results.toList))) sl []=keep at hcl round
 generalize qgu (so g0) st=keepS at hcl round
 unfold qat
 intro rd mp a w hs hrd hsz
 show (Code.loop body).wp E.P (QK E B k) a w
 refine wp_loop_ghost (fun m a w=>a.tmps.size=E.fn.ntmps∧∃ rd mp g,SR E.c rd mp ⟨ov g++kept sl keep,so g++jf st keepS,nx⟩ a w∧Base E rd mp∧φ g∧μ g=m) (μ g0)
  ⟨hsz,rd,_,g0,hs.sub hrd.std (s':=⟨ov g0++kept sl keep,so g0++jf st keepS,nx⟩) ⟨qkm hs0 (qsd sl keep),qkn ht0 (qoh st keepS)⟩ (hcl g0),hrd.sub (hcl g0),h0,rfl⟩ ?_
 rintro m a w ⟨hsz,rd,mp,g,hs,hrd,hφ,rfl⟩
 have hok:=qbu (E:=E) hT n _ _ (round g hφ) rd mp a w hs hrd hsz
 refine wp_mono hok fun e a' w' hq=>?_
 have pass:QK E (fun m s'=>bif Nat.beq m lvl then ∃ g',φ g'∧(∃ s'',Turn E s' s''∧(SubSl s'' (ov g')∧SubSt s''.st (so g'))∧(SubSl s'' (kept sl keep)∧SubSt s''.st (jf st keepS)))∧μ g' < μ g else B m s') k e a' w'→QK E B k e a' w':=
  qnu (E:=E) (B:=B) lvl (fun n s hn hb=>by
   have:Nat.beq n lvl=false:=by
    cases hb':Nat.beq n lvl with
    | false=>rfl
    | true=>exact absurd (zj hb') hn
   simpa [this] using hb) k hmk e a' w'
 cases e with
 | normal=>
  obtain ⟨h1,rd',mp',s',h2,h3,h4⟩:=hq
  simp only [Nat.beq_refl,cond_true] at h4
  obtain ⟨g',hg1,⟨s'',ht,k2,k3⟩,hg3⟩:=h4
  obtain ⟨mp'',h5,h6⟩:=ht rd' mp' a' w' h2 h3
  exact ⟨μ g',hg3,h1,rd',_,g',h5.sub h6.std (s':=⟨ov g'++kept sl keep,so g'++jf st keepS,nx⟩) ⟨qkm k2.1 k3.1,qkn k2.2 k3.2⟩ (hcl g'),h6.sub (hcl g'),hg1,rfl⟩
 | _=>exact pass hq
section
variable {st:List (Nat × SO)} {nx:Nat}
theorem Turn.box {E:Env} {sl:List (Nat × AV)} (b:Nat) (cs':List AV) {ty:TypeId} {cs:List AV} (hl:look st b=some (.box ty cs)) (hle:LeL cs cs') :
  Turn E ⟨sl,st,nx⟩ ⟨sl,qj st b (.box ty cs'),nx⟩:=by
 intro rd mp a w hs hb
 have hg:=hle.get
 exact ⟨mp,⟨hs.slots,hs.defers,hs.mem.rebox hl hg.1.symm (fun j x y v hx hy hr=>(hg.2 j y x hy hx).rel hr)⟩,hb⟩
theorem jcr {E:Env} {B:Nat→ASt→Prop} {id:Nat} {ops:Array Oper} {k:List Itm} {s s':ASt} (ht:Turn E s s') (h:qab E B id ops k s'):qab E B id ops k s:=by
 unfold qab at h ⊢
 intro rd mp a w hs hb hsz
 obtain ⟨mp',h1,h2⟩:=ht rd mp a w hs hb
 exact h rd mp' a w h1 h2 hsz
theorem qsn {E:Env} {B:Nat→ASt→Prop} {id:Nat} {ops:Array Oper} {k:List Itm} {sl:List (Nat × AV)} (b:Nat) (cs':List AV) {ty:TypeId} {cs:List AV} (hl:look st b=some (.box ty cs)) (hle:LeL cs cs')
  (h:jt (qj st b (.box ty cs')) fun st'=>qab E B id ops k ⟨sl,st',nx⟩):qab E B id ops k ⟨sl,st,nx⟩:=by
 rw [qac] at h
 exact jcr (Turn.box b cs' hl hle) h
theorem Turn.so {E:Env} {sl:List (Nat × AV)} (id:Nat) (o':SO) {o:SO} (hl:look st id=some o) (hle:SoLe o o'):Turn E ⟨sl,st,nx⟩ ⟨sl,qj st id o',nx⟩:=by
 intro rd mp a w hs hb
 refine ⟨mp,⟨hs.slots,hs.defers,hs.mem.weak fun i x hx=>?_⟩,hb⟩
 rw [qd] at hx
 by_cases h:i=id
 ·subst h
  rw [zb rfl,hl] at hx
  cases hx
  exact ⟨o,hl,hle⟩
 ·rw [za h] at hx
  exact ⟨x,hx,SoLe.refl x⟩
theorem jcs {E:Env} {B:Nat→ASt→Prop} {id:Nat} {ops:Array Oper} {k:List Itm} {sl:List (Nat × AV)} (i:Nat) (o':SO) {o:SO} (hl:look st i=some o) (hle:SoLe o o')
  (h:jt (qj st i o') fun st'=>qab E B id ops k ⟨sl,st',nx⟩):qab E B id ops k ⟨sl,st,nx⟩:=by
 rw [qac] at h
 exact jcr (Turn.so i o' hl hle) h
end
theorem CallZ.no {P:Program} {g:Bool} {f:FuncId} {args:List AV} {K:AV→Prop} (v:AV) (hg:g=false) (hk:K v):CallZ P g f args K:=by
 unfold CallZ
 exact ⟨v,fun h=>(by rw [hg] at h;cases h),hk⟩
theorem CallZ.le {P:Program} {g:Bool} {f:FuncId} {args:List AV} {K:AV→Prop} {args':List AV} {res:AV} (h:g=true→Con P f args' res) (hp:args'.all AV.pure=true) (hl:g=true→LeL args args') (hk:K res):CallZ P g f args K:=by
 unfold CallZ
 exact ⟨res,fun hg=>⟨args',h hg,hp,hl hg⟩,hk⟩
theorem Con.res {P:Program} {f:FuncId} {args:List AV} {res res':AV} (h:Con P f args res) (hl:Le res res'):Con P f args res':=fun rd w vs h1 h2=>
 (h rd w vs h1 h2).mono (fun _ _ ⟨rd',a,b⟩=>⟨rd',hl.rel a,b⟩) (fun _ _ h=>h)
def qso (n:Nat):List (Nat × SO)→Prop
 | []=>True
 | (_,.row [] _ _ _ _ _)::r=>qso n r
 | (_,.row (_::_) _ _ _ m f)::r=>(∀ k,k<m→(f k).all (AV.lt1 n)=true)∧qso n r
 | _::r=>qso n r
theorem qmh {n:Nat}:∀ {st:List (Nat × SO)},qso n st→rowsLt n st
 | [],_=>fun j ids e sz ep m f hl=>by simp [look] at hl
 | (i,o)::r,h=>fun j ids e sz ep m f hl hne=>by
  rw [ql] at hl
  by_cases hi:i=j
  ·rw [zb hi] at hl
   cases hl
   cases ids with
   | nil=>exact absurd rfl hne
   | cons a b=>exact h.1
  ·rw [za hi] at hl
   refine qmh (st:=r) ?_ j ids e sz ep m f hl hne
   cases o with
   | row ids' _ _ _ _ _=>cases ids' with
    | nil=>exact h
    | cons a b=>exact h.2
   | _=>exact h
section
variable {c:Ctx} {rd:Rd} {mp:Mp} {st:List (Nat × SO)} {nx:Nat} {w:World}
theorem Mem.rerow3 (h:Mem c rd mp st nx w) {id:Nat} {ids ids':List Nat} {e:TypeId} {sz ep n:Nat} {f f':Nat→List AV} (hl:look st id=some (.row ids e sz ep n f))
  (hM:MOk c rd mp w id 0 ⟨ids',e,sz,ep,n,f'⟩):Mem c rd mp (qj st id (.row ids' e sz ep n f')) nx w:=by
 refine h.upd (some (.rw id 0)) (Rd.le.refl _) (Mp.le.refl _) h.fr h.rdw h.rd1 h.rdn (fun b' ty' cs' hl' hne'=>?_) (fun r i R hR hne=>?_)
  (fun p hp hp'=>⟨by cases p <;> rfl,fun g hg=>⟨rfl,(h.home hp hg).2.1⟩⟩) (fun b' ty' cs'' ht hl'=>by cases ht) (fun r i R ht hR=>?_)
  (fun p g ht hp hg q hq hq' hg'=>?_) h.fresh (fun i y hy=>?_) (fun r e' sz' cnt ep' len f'' hl'=>?_) (fun r sz' ep' n' f'' hl'=>?_)
 ·rw [qd] at hl'
  by_cases hb:b'=id
  ·rw [zb hb,hb,hl] at hl';cases hl'
  ·rw [za hb] at hl';exact hl'
 ·by_cases hr:r=id
  ·subst hr
   cases hR with
   | row hl'=>exact absurd rfl hne
   | fam hl' _=>rw [qd,zb rfl,hl] at hl';cases hl'
  ·exact qse hr hR
 ·simp only [Option.some.injEq,Pl.rw.injEq] at ht
  obtain ⟨rfl,rfl⟩:=ht
  cases hR with
  | row hl'=>
   rw [qd,zb rfl,hl] at hl'
   cases hl'
   exact hM
  | fam hl' _=>rw [qd,zb rfl,hl] at hl';cases hl'
 ·cases ht
  exact absurd (congrArg some (h.inj q (.rw id 0) g hq ⟨_,.row hl⟩ hg' hg)) hq'
 ·rw [qd] at hy
  by_cases hid:i=id
  ·subst hid;exact h.ids i _ hl
  ·rw [za hid] at hy;exact h.ids i y hy
 ·rw [qd] at hl'
  by_cases hid:r=id
  ·subst hid;rw [zb rfl,hl] at hl';cases hl'
  ·rw [za hid] at hl';exact h.out r e' sz' cnt ep' len f'' hl'
 ·rw [qd] at hl'
  by_cases hid:r=id
  ·subst hid;rw [zb rfl,hl] at hl';cases hl'
  ·rw [za hid] at hl';exact ⟨hl',rfl⟩
theorem TurnR.melt {E:Env} {sl:List (Nat × AV)} (ks:List Nat) (R:Nat) {ids:List Nat} {e:TypeId} {sz ep n:Nat} {f:Nat→List AV} (hl:look (jf st ks) R=some (.row ids e sz ep n f))
  (hok:∀ k,k<n→allP (qcq (qr ks st) 4) (f k)) :
  TurnR E ⟨sl,st,nx⟩ ⟨sl,qj (jf st ks) R (.row [] e sz ep n (fun k=>(f k).map (frzC (qr ks st) 4))),nx⟩:=by
 intro rd mp a w hs hrd
 have hd:=hs.mem.dropped ks
 have hf:=hs.mem.freeze ks
 obtain ⟨v,xs,h1,h2,h3,h4,h5⟩:=hs.mem.mb R 0 _ (.row (qez hl).1)
 obtain ⟨v',xs',k1,k2,k3,k4,k5⟩:=hf.mb R 0 _ (.row hl)
 simp only at h1 h2 h3 h4 h5 k1 k5
 have hv:v'=v:=by rw [h1] at k1;cases k1;rfl
 subst hv
 have h6:=hf.rerow3 (f':=fun k=>(f k).map (frzC (qr ks st) 4)) (ids':=[]) hl ⟨v',xs,h1,h2,fun k hk=>by simp only [xh];exact h3 k hk,fun k j x hk hx=>by
  simp only [zi] at hx
  obtain ⟨y,hy,rfl⟩:=Option.map_eq_some_iff.1 hx
  obtain ⟨u,hu,h7,h8⟩:=h4 k j y hk hy
  exact ⟨u,hu,h7,(qns hd 4 y u (qdd (hok k hk) j y hy) (h8.mono (Rd.le.refl _) (Mp.sel_le _ _))).mono (Rd.le.refl _) (Mp.none_le _)⟩,k5⟩
 exact ⟨_,mp,⟨fun t=>(hs.slots t).mono qci (Mp.le.refl _),hs.defers,h6⟩,hrd.step qci (Mp.le.refl _)⟩
theorem TurnR.trans {E:Env} {s s' s'':ASt} (h:TurnR E s s') (k:TurnR E s' s''):TurnR E s s'':=fun rd mp a w h1 h2=>by
 obtain ⟨rd',mp',h3,h4⟩:=h rd mp a w h1 h2
 exact k rd' mp' a w h3 h4
end
theorem jqb {sl:List (Nat × AV)} {st:List (Nat × SO)} {nx:Nat} {E:Env} {B:Nat→ASt→Prop} {body:Code} {k:List Itm} (hT:∀ t,E.T t=tab E.P t) (n lvl:Nat) {G:Type} (ov:G→List (Nat × AV)) (so:G→List (Nat × SO)) (φ:G→Prop) (μ:G→Nat)
  (g0:G) (h0:φ g0) (hs0:SubSl ⟨sl,st,nx⟩ (ov g0)) (ht0:SubSt st (so g0)) (hcl:∀ g,(ASt.mk (ov g++kept sl (qfw (qdo body++(ov g0).map (·.1)) (rdOf body (qfv k (qgt E.fn.results.toList))) sl [])) (so g++jf st (qgu (so g0) st)) nx).closed E.nxb=true) (hmk:qgp lvl k=true)
  (round:qkl sl (qfw (qdo body++(ov g0).map (·.1)) (rdOf body (qfv k (qgt E.fn.results.toList))) sl []) fun kl=>jt (jf st (qgu (so g0) st)) fun ks=>∀ g,φ g→exec E (fun m s'=>bif Nat.beq m lvl then ∃ g',φ g'∧(∃ s'',TurnR E s' s''∧(SubSl s'' (ov g')∧SubSt s''.st (so g'))∧(SubSl s'' kl∧SubSt s''.st ks))∧μ g' < μ g else B m s') n (.code body::.mark lvl::k) ⟨ov g++kl,so g++ks,nx⟩):qat E B body k ⟨sl,st,nx⟩:=by
 rw [qsc,qac] at round
 generalize qfw (qdo body++(ov g0).map (·.1)) (rdOf body (qfv k (qgt E.fn.results.toList))) sl []=keep at hcl round
 generalize qgu (so g0) st=keepS at hcl round
 unfold qat
 intro rd mp a w hs hrd hsz
 show (Code.loop body).wp E.P (QK E B k) a w
 refine wp_loop_ghost (fun m a w=>a.tmps.size=E.fn.ntmps∧∃ rd mp g,SR E.c rd mp ⟨ov g++kept sl keep,so g++jf st keepS,nx⟩ a w∧Base E rd mp∧φ g∧μ g=m) (μ g0)
  ⟨hsz,rd,_,g0,hs.sub hrd.std (s':=⟨ov g0++kept sl keep,so g0++jf st keepS,nx⟩) ⟨qkm hs0 (qsd sl keep),qkn ht0 (qoh st keepS)⟩ (hcl g0),hrd.sub (hcl g0),h0,rfl⟩ ?_
 rintro m a w ⟨hsz,rd,mp,g,hs,hrd,hφ,rfl⟩
 have hok:=qbu (E:=E) hT n _ _ (round g hφ) rd mp a w hs hrd hsz
 refine wp_mono hok fun e a' w' hq=>?_
 have pass:QK E (fun m s'=>bif Nat.beq m lvl then ∃ g',φ g'∧(∃ s'',TurnR E s' s''∧(SubSl s'' (ov g')∧SubSt s''.st (so g'))∧(SubSl s'' (kept sl keep)∧SubSt s''.st (jf st keepS)))∧μ g' < μ g else B m s') k e a' w'→QK E B k e a' w':=
  qnu (E:=E) (B:=B) lvl (fun n s hn hb=>by
   have:Nat.beq n lvl=false:=by
    cases hb':Nat.beq n lvl with
    | false=>rfl
    | true=>exact absurd (zj hb') hn
   simpa [this] using hb) k hmk e a' w'
 cases e with
 | normal=>
  obtain ⟨h1,rd',mp',s',h2,h3,h4⟩:=hq
  simp only [Nat.beq_refl,cond_true] at h4
  obtain ⟨g',hg1,⟨s'',ht,k2,k3⟩,hg3⟩:=h4
  obtain ⟨rd'',mp'',h5,h6⟩:=ht rd' mp' a' w' h2 h3
  exact ⟨μ g',hg3,h1,rd'',_,g',h5.sub h6.std (s':=⟨ov g'++kept sl keep,so g'++jf st keepS,nx⟩) ⟨qkm k2.1 k3.1,qkn k2.2 k3.2⟩ (hcl g'),h6.sub (hcl g'),hg1,rfl⟩
 | _=>exact pass hq
def frzG (st:List (Nat × SO)):AV→AV
 | .cnd b (.agg cs)=>.cnd b (.agg (cs.map (frzC st 4)))
 | x=>frzB st x
def qwb (st:List (Nat × SO)):AV→Prop
 | .cnd b (.agg cs)=>b=true→allP (qcq st 4) cs
 | x=>qit st x
theorem jqc {c:Ctx} {rd:Rd} {mp:Mp} {st:List (Nat × SO)} {nx:Nat} {w:World} (hm:Mem c rd mp st nx w) (x:AV) (v:Value) (hok:qwb st x) (h:Rel rd mp x v):Rel (frzRd rd mp st w) Mp.none (frzG st x) v:=by
 unfold frzG
 unfold qwb at hok
 split
 ·rename_i b cs
  simp only at hok
  cases h with
  | cnd _ _ _ _ k k0=>exact .cnd _ _ _ _ (fun hb=>qkc hm (.agg cs) v (hok hb) (k hb)) k0
 ·rename_i hne
  refine qkc hm x v ?_ h
  split at hok
  ·exact absurd rfl (hne _ _)
  ·exact hok
theorem qou {st:List (Nat × SO)} {nx:Nat} {sl:List (Nat × AV)} {E:Env} {B:Nat→ASt→Prop} {g:Bool} {f:FuncId} {args:List AV} {dst:Option Nat} {full:Array Oper} {rest:List Oper} {k:List Itm} (hT:∀ t,E.T t=tab E.P t) (n:Nat) {args':List AV} {res:AV} (hc:g=true→Con E.P f args' res)
  (hok:g=true→allP (qwb st) args) (hl:g=true→LeL (args.map (frzG st)) args') (hf:res.flat=true) (hd:jq E dst=true) (h:je sl dst (fun sl'=>exec E B n (.ops full rest::k) ⟨sl',st,nx⟩) (.cnd g res)):qek E B g f args dst full rest k ⟨sl,st,nx⟩:=by
 rw [ja,qkd] at h
 unfold qek
 refine ⟨fun hg=>?_,fun hg rd mp a w hs hrd hsz=>?_⟩
 ·unfold qbd
  intro rd mp a w vs hs hrd hsz hargs
  have hargs':RelL (frzRd rd mp st w) Mp.none (args.map (frzG st)) vs:=by
   refine ⟨by rw [hargs.1,xh],fun j x v hx hv=>?_⟩
   rw [zi] at hx
   obtain ⟨y,hy,rfl⟩:=Option.map_eq_some_iff.1 hx
   exact jqc hs.mem y v (qdd (hok hg) j y hy) (hargs.2 j y v hy hv)
  refine (hc hg _ w vs (qnr hs.mem) (hargs'.le (hl hg))).mono ?_ (fun _ _ h=>False.elim h)
  rintro v w' ⟨rd',h1,h2,h3,h4,h5⟩
  exact qbu hT n _ _ h rd mp _ w' (hs.put (Rd.le.refl _) (Mp.le.refl _) (hs.mem.below h5) (.cnd _ _ _ _ (fun _=>h1.flat hf) (fun hf=>by rw [hg] at hf;cases hf)) (qfu hd hsz)) hrd (by rw [qea];exact hsz)
 ·exact qbu hT n _ _ h rd mp _ w (hs.put (Rd.le.refl _) (Mp.le.refl _) hs.mem (.cnd _ _ _ _ (fun ht=>by rw [hg] at ht;cases ht) (fun _=>rfl)) (qfu hd hsz)) hrd (by rw [qea];exact hsz)
section
variable {st:List (Nat × SO)} {nx:Nat}
theorem jqh {E:Env} {sl:List (Nat × AV)} (b j:Nat) (e:TypeId) (sz:Nat) {ty:TypeId} {cs:List AV} (hl:look st b=some (.box ty cs)) (hj:cs[j]?=some .nils)
  {rd:Rd} {mp:Mp} {a:Act} {w:World} (hs:SR E.c rd mp ⟨sl,st,nx⟩ a w) (hb:Base E rd mp) :
  ∃ mp',Mp.le mp mp'∧SR E.c rd mp' ⟨sl,(nx,.row [] e sz 0 0 (fun _=>[]))::qj st b (.box ty (cs.set j (.own nx 0 0 0))),nx+1⟩ a w∧Base E rd mp':=by
 have hsup:Sup E.c nx:=Sup.std hb.std nx
 obtain ⟨hmp,hmem⟩:=hs.mem.newRow hsup (e:=e) (sz:=sz) (n:=0) (f:=fun _=>[]) (v:=.slice none 0 0) (xs:=[]) (World.grownBy.refl w _) ⟨by simp,.inl ⟨rfl,rfl⟩⟩ (.inl rfl) (fun k hk=>by omega) (fun k j x hk=>by omega)
 have hbn:nx≠b:=by
  rintro rfl
  exact hs.mem.ids _ _ hl hsup.here
 have hl2:look ((nx,SO.row [] e sz 0 0 (fun _=>[]))::st) b=some (.box ty cs):=by
  rw [ql,za hbn];exact hl
 have hm2:=hmem.rebox (cs':=cs.set j (.own nx 0 0 0)) hl2 (by simp) (fun i x y v hx hy hr=>by
  by_cases hi:j=i
  ·subst hi
   rw [List.getElem?_set] at hx
   simp at hx
   obtain ⟨_,rfl⟩:=hx
   rw [hj] at hy;cases hy
   cases hr
   exact qkb rfl
  ·rw [List.getElem?_set_ne hi,hy] at hx
   cases hx
   exact hr)
 have hset:qj ((nx,SO.row [] e sz 0 0 (fun _=>[]))::st) b (.box ty (cs.set j (.own nx 0 0 0)))=(nx,SO.row [] e sz 0 0 (fun _=>[]))::qj st b (.box ty (cs.set j (.own nx 0 0 0))):=by
  have:Nat.beq nx b=false:=by
   cases hb':Nat.beq nx b with
   | false=>rfl
   | true=>exact absurd (zj hb') hbn
  simp only [qj,this,cond_false]
 rw [hset] at hm2
 exact ⟨_,hmp,⟨fun t=>(hs.slots t).mono (Rd.le.refl _) hmp,hs.defers,hm2⟩,hb.step (Rd.le.refl _) hmp⟩
theorem jcx {E:Env} {B:Nat→ASt→Prop} {f:FuncId} {args:List AV} {dst:Option Nat} {full:Array Oper} {rest:List Oper} {k:List Itm} {sl:List (Nat × AV)} (b j:Nat) (e:TypeId) (sz:Nat) {ty:TypeId} {cs:List AV} (hl:look st b=some (.box ty cs)) (hj:cs[j]?=some .nils)
  (h:frcN (nx+1) fun nx'=>jt (qj st b (.box ty (cs.set j (.own nx 0 0 0)))) fun st'=>qbd E B f args dst full rest k ⟨sl,(nx,.row [] e sz 0 0 (fun _=>[]))::st',nx'⟩):qbd E B f args dst full rest k ⟨sl,st,nx⟩:=by
 rw [jm,qac] at h
 unfold qbd at h ⊢
 intro rd mp a w vs hs hb hsz hargs
 obtain ⟨mp',h1,h2,h3⟩:=jqh b j e sz hl hj hs hb
 exact h rd mp' a w vs h2 h3 hsz ⟨hargs.1,fun j x v hx hv=>(hargs.2 j x v hx hv).mono (Rd.le.refl _) h1⟩
end
theorem qxe {sl:List (Nat × AV)} {st:List (Nat × SO)} {nx:Nat} {E:Env} {B:Nat→ASt→Prop} {g:Bool} {f:FuncId} {args:List AV} {dst:Option Nat} {full:Array Oper} {rest:List Oper} {k:List Itm} (hT:∀ t,E.T t=tab E.P t) (n:Nat) (x:AV) (hd:jq E dst=true) (hg:qho g args)
  (h1:g=true→qbd E B f (args.map unc) dst full rest k ⟨sl,st,nx⟩) (h2:g=false→je sl dst (fun sl'=>exec E B n (.ops full rest::k) ⟨sl',st,nx⟩) (.cnd g x)):qek E B g f args dst full rest k ⟨sl,st,nx⟩:=by
 simp only [ja,qkd] at h2
 unfold qek
 refine ⟨fun he=>?_,fun he rd mp a w hs hrd hsz=>?_⟩
 ·have h3:=h1 he
  unfold qbd at h3 ⊢
  exact fun rd mp a w vs hs hrd hsz hargs=>h3 rd mp a w vs hs hrd hsz (hargs.le (qny he _ hg))
 ·exact qbu hT n _ _ (h2 he) rd mp _ w (hs.put (Rd.le.refl _) (Mp.le.refl _) hs.mem (.cnd _ _ _ _ (fun h=>by rw [he] at h;cases h) (fun _=>rfl)) (qfu hd hsz)) hrd (by rw [qea];exact hsz)
theorem OpG.fcall {E:Env} {B:Nat→ASt→Prop} {full:Array Oper} {dst:Option Nat} {c:Call} {ty:TypeId} {pos:String} {aft:Array Edge} {rest:List Oper} {k:List Itm} {s:ASt} {fo:Operand} (hc:c.callee=.value fo) {q:Bool} {fv:AV}
  (he:ev s fo=.cnd q fv) (hq:q=true) (hob:obT (qfp s.st (c.args.toList.map (ev s)))) {h:FuncId} {l:List AV} (hl:qlo (c.args.toList.map fun x=>strip s.st (ev s x)) fv=.call h l) (hk:qbd E B h l dst full rest k s) :
  OpG E B full ⟨dst,.call c,ty,pos,aft,none⟩ rest k s:=by
 unfold OpG
 intro rd mp a w hs hrd hsz
 obtain ⟨callee,⟨args⟩,ats⟩:=c
 simp only at hc hl hob
 subst hc
 have hf:=qbt hs fo
 rw [he] at hf
 subst hq
 generalize hv:a.eval fo=v at hf
 cases hf with
 | cnd _ _ _ _ hf _=>
  have hf:=hf rfl
  have hargs:RelL rd mp (args.map fun x=>strip s.st (ev s x)) ((⟨args⟩:Array Operand).map a.eval):=by
   refine ⟨by simp,fun j p u hp hu=>?_⟩
   rw [zi] at hp
   rw [Array.getElem?_map] at hu
   obtain ⟨p',hp',rfl⟩:=Option.map_eq_some_iff.1 hp
   obtain ⟨u',hu',rfl⟩:=Option.map_eq_some_iff.1 hu
   have hm:p'∈args:=zk hp'
   have e:(⟨args⟩:Array Operand)[j]?=args[j]?:=by simp
   rw [e,hp'] at hu'
   cases hu'
   exact qel hs.mem (qbt hs _) (qrd hob _ (List.mem_map.2 ⟨p',hm,rfl⟩))
  unfold qlo at hl
  split at hl
  ·rename_i g caps
   cases hl
   cases hf with
   | fn _ _ _ vs h1 h2=>
    exact qrg hk hs hrd hsz (by simp [Region.wanted]) (vs:=(⟨args⟩:Array Operand).map a.eval++vs) (by simp [execOp,resolve,Deferred.ofValue,hv,invoke]) (hargs.append ⟨h1,h2⟩)
  ·rename_i g b _
   cases hl
   cases hf with
   | bfn _ _ _ gb hb=>
    have h1:RelL rd mp [.ptr b 0] #[.pointer (some ⟨gb,0,none⟩)]:=⟨rfl,fun j x v hx hv=>by
     match j,hx,hv with
     | 0,hx,hv=>cases hx;cases hv;exact .ptr _ _ _ _ hb
     | j+1,hx,hv=>cases hx⟩
    have h2:RelL rd mp (.ptr b 0::args.map fun x=>strip s.st (ev s x)) (#[.pointer (some ⟨gb,0,none⟩)]++(⟨args⟩:Array Operand).map a.eval):=h1.append hargs
    exact qrg hk hs hrd hsz (by simp [Region.wanted]) (by simp [execOp,resolve,Deferred.ofValue,hv,invoke]) h2
  ·cases hl
end Go.Sx
end
section
namespace Go.Sx
open Go Go.RowKit Go.Sort Go.Proofs
theorem jsj (w:World) (g lo n:Nat) (F:Array Value):w.grownBy (putRow id (Sort.ahead w n) g lo F) (some g):=by
 refine ⟨rfl,rfl,rfl,by simp [putRow,mapBlock,Sort.ahead],fun k hk hne=>?_⟩
 simp only [putRow,mapBlock,Sort.ahead]
 rw [Array.getElem?_modify,za (fun e=>hne (by rw [e]))]
theorem jsk {w:World} {g lo n:Nat} {F:Array Value} {cur:Array Value} {e:TypeId} {fz:Nat × Nat} (hg:w.heap[g]?=some (.cells cur e fz)):(putRow id (Sort.ahead w n) g lo F).heap[g]?=some (.cells (putCells id lo F cur) e fz):=by
 simp only [putRow,mapBlock,Sort.ahead]
 rw [Array.getElem?_modify,zb rfl,hg]
 rfl
theorem jsl {cur F:Array Value} {lo n:Nat} (hd:F.size=n) (hc:lo+n≤cur.size):((putCells id lo F cur).toList.drop lo).take n=F.toList:=by
 apply List.ext_getElem?
 intro i
 rw [xz]
 by_cases hi:i<n
 ·rw [zb hi,xe,zar,zar]
  unfold putCells
  rw [Array.getElem?_mapIdx,zbk (by omega:lo+i<cur.size),zad,zb ⟨by omega,by omega⟩]
  rw [zbk (by omega:i<F.size),show lo+i - lo=i by omega,getElem!_pos F i (by omega)]
  rfl
 ·rw [za hi,xi (by simp;omega)]
variable {α:Type} [Inhabited α]
def encZ (ic:α→List Int) (x:α):List Value:=(ic x).map encI
def avZ (ic:α→List Int) (x:α):List AV:=(ic x).map (AV.int .i64)
theorem jev {k i j:Nat} (hj:j<k):(i * k+j) / k=i∧(i * k+j) % k=j:=by
 have e1:(i * k+j) / k=i:=(blk_iff k i _ (by omega)).1 ⟨by omega,by omega⟩
 exact ⟨e1,by rw [Nat.mod_eq_sub_div_mul,e1];omega⟩
theorem jew {k i j n:Nat} (hi:i<n) (hj:j<k):i * k+j<n * k:=by
 have:=zu k (show i+1≤n from hi)
 rw [Nat.add_mul,Nat.one_mul] at this
 omega
theorem jsm (l:List α) (d:α) {i:Nat} (h:i<l.length):l.toArray[i]! = l.getD i d:=by
 rw [getElem!_pos l.toArray i (by simpa using h),List.getD_eq_getElem?_getD,ze h]
 rfl
theorem qxg {l:List Int} {j:Nat} (h:j<l.length):l.getD j 0=l[j]:=by
 rw [List.getD_eq_getElem?_getD,ze h]
 rfl
theorem jsn {P : Program} {f : FuncId} {fn : Func} {body : Code} (hf : P.funcs[f]? = some fn) (hb : fn.body = some body) (hname : (fn.name == "runtime.NumGoroutine") = false)
    {e:TypeId} {ep:Nat} (k:Nat) (ic:α→List Int) (hk:∀ x,(ic x).length=k) (z:α) (c d:List α) (hcd:d.length=c.length) (hc0:0<c.length)
    (h:∀ (w:World) (g lo cap:Nat),HoldsK (encZ ic) k w g lo c.toArray→c.length≤cap→Calls P f #[.slice (some ⟨g,lo,none⟩) c.length cap] w fun x w'=>x=.returned (.tuple #[])∧∃ n,w'=putRowK (encZ ic) k (Sort.ahead w n) g lo d.toArray) :
    Trip P f [.own 0 0 ep c.length] [.row [] e k ep c.length (encL (avZ ic) z c)] (.tup []) [(0,.row [] e k ep c.length (encL (avZ ic) z d))] 1:=by
  intro cx rd mp w vs hw hrd0 hstd hm hargs
  have hname' : fn.name ≠ "runtime.NumGoroutine" := by simpa using hname
  refine .inl ⟨by simp [callFunc,hf,hname',hb,mark],?_⟩
  have hmem:IsMem (idx 0 [SO.row [] e k ep c.length (encL (avZ ic) z c)]) 0 0 ⟨[],e,k,ep,c.length,encL (avZ ic) z c⟩:=.row rfl
  obtain ⟨v,xs,h1,h2,h3,h4,h5⟩:=hm.mb 0 0 _ hmem
  dsimp only at h1 h2 h3 h4
  obtain ⟨sv,rfl⟩:∃ sv,vs=#[sv]:=by
    have h0:vs.toList.length=1:=by rw [Array.length_toList,hargs.1];rfl
    rcases hv:vs.toList with _|⟨sv,us⟩
    · rw [hv] at h0;simp at h0
    · rw [hv] at h0
      have:us=[]:=by simpa using h0
      subst this
      exact ⟨sv,by apply Array.ext';simpa using hv⟩
  have hsv:sv=v:=by
    have:=hargs.2 0 (.own 0 0 ep c.length) sv rfl rfl
    cases this with
    | own _ _ _ _ _ _ vr er nr hr he hn hv hs=>rw [h1] at hr;cases hr;exact hv rfl rfl
  subst hsv
  have h2':=h2
  obtain ⟨hxl,h2⟩:=h2
  rcases h2 with ⟨_,h0⟩|⟨g,lo,cap,cur,rfl,hg,hnc,hcm,hsz,htk⟩
  · omega
  have hrow:∀ (l:List α) i j,i<l.length→j<k→(flatK (encZ ic) k l.toArray)[i * k+j]! = encI ((ic (l.getD i z)).getD j 0):=fun l i j hi hj=>by
    rw [get_flatK _ _ _ _ (by simpa using jew hi hj),(jev hj).1,(jev hj).2,jsm l z hi]
    unfold encZ
    have hjl:j<(ic (l.getD i z)).length:=by rw [hk];exact hj
    rw [getElem!_pos _ j (by simpa using hjl),List.getElem_map,qxg hjl]
  have hH:HoldsK (encZ ic) k w g lo c.toArray:=fun t ht=>by
    have ht':t<c.length * k:=by simpa using ht
    have hk0 : 0 < k := by rcases zak k with h | h; · subst h; simp at ht'
                           · exact h
    have hi:t / k<c.length:=Nat.div_lt_of_lt_mul (by rw [Nat.mul_comm];exact ht')
    have hj:t % k<k:=Nat.mod_lt _ hk0
    have et:t / k * k+t % k=t:=Nat.div_add_mod' t k
    have:=hrow c _ _ hi hj
    rw [et] at this
    have hjl:t % k<(ic (c.getD (t / k) z)).length:=by rw [hk];exact hj
    obtain ⟨u,hu,_,hr⟩:=h4 (t / k) (t % k) (AV.int .i64 ((ic (c.getD (t / k) z)).getD (t % k) 0)) hi (by simp only [encL,avZ];rw [zi,ze hjl,qxg hjl];rfl)
    have:=jph hr
    subst this
    rw [et] at hu
    refine ⟨?_,by simp [World.frozen?,hg]⟩
    rw [h2'.cells hu]
    exact congrArg some (by rw [‹(flatK (encZ ic) k c.toArray)[t]! = _›];rfl)
  refine (h w g lo cap hH hnc).mono fun x w' ⟨he,n,hp⟩=>.inl ⟨_,he,rd,mp.setRow 0 0 (.slice (some ⟨g,lo,none⟩) c.length cap) ep c.length,.tup _ [] #[] rfl (fun j x u hx=>by simp at hx),Rd.le.refl _,?_⟩
  have hgr:w.grownBy w' (some g):=hp ▸ jsj w g lo n _
  have hat:w'.heap[g]?=some (.cells (putCells id lo (flatK (encZ ic) k d.toArray) cur) e (0,0)):=hp ▸ jsk hg
  have hfs:(flatK (encZ ic) k d.toArray).size=c.length * k:=by simp [hcd]
  have hle:lo+c.length * k≤cur.size:=xa (Nat.add_le_add_left (zu k hnc) _) hsz
  have hown:Owns w' e k (.slice (some ⟨g,lo,none⟩) c.length cap) c.length (flatK (encZ ic) k d.toArray).toList:=by
    refine ⟨by simpa using hfs,.inr ⟨g,lo,cap,_,rfl,hat,hnc,hcm,by simp [putCells];omega,?_⟩⟩
    exact jsl hfs hle
  have := hm.turnRow (w' := w') (r := 0) (i := 0) (ep := ep) (n := c.length) (f := encL (avZ ic) z d) (ob := none) (R := ⟨[], e, k, ep, c.length, encL (avZ ic) z c⟩) rfl trivial h1 h5 (.inr ⟨rfl, .inr ⟨rfl, rfl⟩⟩) (by simpa [Value.ownBlock] using hgr) hown (.inl rfl) (fun i hi => by simp only [encL, avZ, xh]; exact hk _) (fun i j x hi hx => by
      have hj:j<k:=by
        have:=(List.getElem?_eq_some_iff.1 hx).1
        simpa [encL,avZ,hk] using this
      have hjl:j<(ic (d.getD i z)).length:=by rw [hk];exact hj
      simp only [encL,avZ] at hx
      rw [zi,ze hjl] at hx
      simp only [zad,Option.some.injEq] at hx
      subst hx
      refine ⟨encI ((ic (d.getD i z))[j]),?_,rfl,.int _ _ _⟩
      have h6:=hrow d i j (by omega) hj
      rw [qxg hjl] at h6
      rw [← h6,zar,zbk (by rw [hfs];exact jew hi hj),getElem!_pos])
  refine ⟨this.1,?_⟩
  have h6:=this.2
  simpa [jy,idx,look,qj] using h6
theorem jso {P : Program} {f : FuncId} {fn : Func} {body : Code} (hf : P.funcs[f]? = some fn) (hb : fn.body = some body) (hname : (fn.name == "runtime.NumGoroutine") = false)
  {e:TypeId} {ep k:Nat} {F:Nat→List AV}
  (h:∀ (w:World) (a:Option Addr) (cap:Nat),Calls P f #[.slice a 0 cap] w fun x w'=>x=.returned (.tuple #[])∧w'=w) :
  Trip P f [.own 0 0 ep 0] [.row [] e k ep 0 F] (.tup []) [(0,.row [] e k ep 0 F)] 1:=by
 intro cx rd mp w vs hw hrd0 hstd hm hargs
 have hname' : fn.name ≠ "runtime.NumGoroutine" := by simpa using hname
 refine .inl ⟨by simp [callFunc,hf,hname',hb,mark],?_⟩
 have hmem:IsMem (idx 0 [SO.row [] e k ep 0 F]) 0 0 ⟨[],e,k,ep,0,F⟩:=.row rfl
 obtain ⟨v,xs,h1,h2,h3,h4,h5⟩:=hm.mb 0 0 _ hmem
 dsimp only at h1 h2 h3 h4
 obtain ⟨sv,rfl⟩:∃ sv,vs=#[sv]:=by
  have h0:vs.toList.length=1:=by rw [Array.length_toList,hargs.1];rfl
  rcases hv:vs.toList with _|⟨sv,us⟩
  ·rw [hv] at h0;simp at h0
  ·rw [hv] at h0
   have:us=[]:=by simpa using h0
   subst this
   exact ⟨sv,by apply Array.ext';simpa using hv⟩
 have hsv:sv=v:=by
  have:=hargs.2 0 (.own 0 0 ep 0) sv rfl rfl
  cases this with
  | own _ _ _ _ _ _ vr er nr hr he hn hv hs=>rw [h1] at hr;cases hr;exact hv rfl rfl
 subst hsv
 have hsl:∃ a cap,sv=.slice a 0 cap:=by
  rcases h2.2 with ⟨hv,_⟩|⟨g,lo,cap,cur,hv,_⟩
  ·exact ⟨_,_,hv⟩
  ·exact ⟨_,_,hv⟩
 obtain ⟨a,cap,rfl⟩:=hsl
 exact (h w a cap).mono fun x w' ⟨he,hw'⟩=>.inl ⟨_,he,rd,mp,.tup _ [] #[] rfl (fun j x u hx=>by simp at hx),Rd.le.refl _,Mp.le.refl _,by subst hw';exact hm⟩
end Go.Sx
end
section
namespace Go.Sx
open Go Go.RowKit
theorem jwj {nm:String} (hg:Go.Proofs.Tryz.prog.globalNamed nm=some 0) {w:World} (h:Lib.TabIs Go.Proofs.Tryz.prog w nm .u64 Lib.pow10Tab):TabR (rdW w) w:=by
 intro t ht
 unfold tbs at ht
 obtain rfl:=List.mem_singleton.1 ht
 have h0:=h
 unfold Lib.TabIs World.var? at h0
 rw [hg,zbl] at h0
 refine ⟨?_,?_⟩
 ·have hc:=h.cell hg 0 (by decide)
  rw [jaj hc rfl];simp
 ·cases ho:w.heap[0]? with
  | none=>rw [ho] at h0;cases h0
  | some o=>
   rw [ho] at h0
   cases o with
   | cells cs ty fz=>
    simp only [Option.some.injEq] at h0
    exact ⟨ty,fz,by rw [h0]⟩
   | _=>cases h0
theorem tabR_laid {n1 n2 nm:String} {d1 d2:DataW Unit} {r:List (String × DataW Unit)} {w:World} (h:laidMet Go.Proofs.Tryz.prog ((n1,d1)::(n2,d2)::(nm,Lib.tabData .u64 Lib.pow10Tab)::r) w)
  (hg:Go.Proofs.Tryz.prog.globalNamed nm=some 0:=by kernel_rfl):TabR (rdW w) w:=
 jwj hg (Lib.tabIs_of_head (t:=185) (e:=177) hg (by kernel_rfl) (n:=20) (by kernel_rfl) (by kernel_rfl) (by kernel_rfl) (by kernel_rfl) h.tail.tail)
end Go.Sx
namespace Go.Sx
open Go Go.RowKit
theorem zA {full:Array Oper} {L:List (Oper × Stp)} {s0:ASt} {E:Env} {B:Nat→ASt→Prop} {n:Nat} {k:List Itm} {s:ASt} (h:exec E B n k s) (c:(qec full L && (qgw full L).isEmpty)=true:=by kernel_rfl):AltG full L s0 (EndG E B n k s):=AltG.none c (EndG.go h)
theorem zO {b:Bool} {r:Prop} (k:r) (h:b=true:=by kernel_rfl):Ob (OrdG b) r:=Ob.intro (OrdG.intro h) k
theorem zD {E:Env} {B:Nat→ASt→Prop} {id:Nat} {ops:Array Oper} {k:List Itm} {s:ASt} (n:Nat) (h:D3X E B n k ops (fun cs=>match qax E ops ops.toList cs s with|some (L,_)=>qht ops L|none=>false) ops.toList [] s)
  (hn:(ops.toList.all fun o=>!jc o.op)=true:=by rfl) (hT:∀ t,E.T t=tab E.P t:=by exact fun _=>rfl) (hmix:E.P.follows .mixedOrders=true:=by kernel_rfl):qab E B id ops k s:=jol hT hmix n hn h
theorem zC {sl:List (Nat × AV)} {st:List (Nat × SO)} {nx:Nat} {E:Env} {B:Nat→ASt→Prop} {f:FuncId} {args:List AV} {dst:Option Nat} {full:Array Oper} {rest:List Oper} {k:List Itm} (n:Nat) {res:AV} (hc:Con E.P f args res)
  (h:je sl dst (fun sl'=>exec E B n (.ops full rest::k) ⟨sl',st,nx⟩) res) (hp:args.all AV.pure=true:=by rfl) (hT:∀ t,E.T t=tab E.P t:=by exact fun _=>rfl) (hd:jq E dst=true:=by kernel_rfl):qbd E B f args dst full rest k ⟨sl,st,nx⟩:=jkt hT n hc hp hd h
theorem zG {sl:List (Nat × AV)} {st:List (Nat × SO)} {nx:Nat} {E:Env} {B:Nat→ASt→Prop} {g:Bool} {f:FuncId} {args:List AV} {dst:Option Nat} {full:Array Oper} {rest:List Oper} {k:List Itm} (n:Nat) {res:AV} (hc:g=true→Con E.P f (args.map unc) res)
  (h:je sl dst (fun sl'=>exec E B n (.ops full rest::k) ⟨sl',st,nx⟩) (.cnd g res)) (hp:(args.map unc).all AV.pure=true:=by rfl) (hgs:qho g args:=by exact qz) (hT:∀ t,E.T t=tab E.P t:=by exact fun _=>rfl) (hd:jq E dst=true:=by kernel_rfl):qek E B g f args dst full rest k ⟨sl,st,nx⟩:=jai hT n hc hp hgs hd h
theorem zT {sl:List (Nat × AV)} {st:List (Nat × SO)} {nx:Nat} {E:Env} {B:Nat→ASt→Prop} {f:FuncId} {args:List AV} {dst:Option Nat} {full:Array Oper} {rest:List Oper} {k:List Itm} (n:Nat) (is:List Nat) {args':List AV} {st0:List SO} {res:AV} {st1:List (Nat × SO)} {n1:Nat}
  (ht:Trip E.P f args' st0 res st1 n1) (hnm:NamedL st (names is nx) is st0)
  (h:frcN (nx+(n1 - is.length)) fun nx'=>jt (jj (names is nx) st1++qr is st) fun st'=>frc (res.ren (names is nx)) (je sl dst (fun sl'=>exec E B n (.ops full rest::k) ⟨sl',st',nx'⟩)))
  (hchk:qoc is nx args' st0 res st1 n1=true:=by kernel_rfl) (hl:LeL args (args'.map (AV.ren (names is nx))):=by exact leA) (hr0:rowsLt st0.length (idx 0 st0):=by exact qb rfl) (hr1:rowsLt n1 st1:=by exact qb rfl) (hT:∀ t,E.T t=tab E.P t:=by exact fun _=>rfl) (hd:jq E dst=true:=by kernel_rfl) :
  qbd E B f args dst full rest k ⟨sl,st,nx⟩:=qgq hT n is ht hchk hl hnm hr0 hr1 hd h
theorem zB {b:Bool} {t e:Prop} (h:b=true→t) (k:b=false→e):Br b t e:=Br.intro h k
theorem zX {P:Program} {f:FuncId} {args:List AV} {res:AV} {q:AV→Prop} (h:Con P f args res) (k:q res) (hp:args.all AV.pure=true:=by rfl):CallX (qby P f args) q:=CallX.intro _ (jns h hp) k
theorem zY {P:Program} {f:FuncId} {args:List AV} {res:AV} {g:Bool} {q:AV→Prop} (h:g=true→Con P f (args.map unc) res) (k:q res) (hp:(args.map unc).all AV.pure=true:=by rfl) (hg:qho g args:=by exact qz):CallX (fun x=>g=true→qby P f args x) q:=CallX.intro _ (jbn h hg hp) k
theorem zK {P:Program} {f:FuncId} {fn:Func} {body:Code} {args:List AV} {res:AV} (C:Cfg) (n:Nat) (hf:P.funcs[f]?=some fn) (h:∀ (c:Ctx) (rdb:Rd),exec { P:=P,T:=tab P,C:=C,fn:=fn,c:=c,rdb:=rdb,mpb:=Mp.none,nxb:=0,R:=conR res,X:=fun _ _ _=>False } (fun _ _=>False) n [.code body] ⟨qen 0 args,[],0⟩)
  (hb : fn.body = some body := by rfl) (hname : (fn.name == "runtime.NumGoroutine") = false := by kernel_rfl) (hn : Nat.ble args.length fn.ntmps = true := by kernel_rfl) : Con P f args res := jkj n (fun _ => rfl) hf hb hname hn h
theorem zL {P:Program} {f:FuncId} {fn:Func} {body:Code} {args:List AV} {st0:List SO} {res:AV} {st1:List (Nat × SO)} {n1:Nat} (C:Cfg) (n:Nat) (hf:P.funcs[f]?=some fn) (h:∀ (c:Ctx) (rdb:Rd) (mpb:Mp),exec { P:=P,T:=tab P,C:=C,fn:=fn,c:=c,rdb:=rdb,mpb:=mpb,nxb:=st0.length,R:=qvb res st1,X:=fun _ _ _=>False } (fun _ _=>False) n [.code body] ⟨qen 0 args,idx 0 st0,st0.length⟩)
  (hb : fn.body = some body := by rfl) (hname : (fn.name == "runtime.NumGoroutine") = false := by kernel_rfl) (hn : (Nat.ble args.length fn.ntmps && stLt n1 st1 && res.lt n1 && Nat.ble st0.length n1) = true := by kernel_rfl) : Trip P f args st0 res st1 n1 := jmu n (fun _ => rfl) hf hb hname hn h
theorem zM {P:Program} {f:FuncId} {fn:Func} {body:Code} {args:List AV} {st0:List SO} {res:AV} {st1:List (Nat × SO)} {n1:Nat} (C:Cfg) (n:Nat) (hf:P.funcs[f]?=some fn) (h:∀ (c:Ctx) (rdb:Rd) (mpb:Mp),exec { P:=P,T:=tab P,C:=C,fn:=fn,c:=c,rdb:=rdb,mpb:=mpb,nxb:=st0.length,R:=qvo res st1,X:=fun _ _ _=>False } (fun _ _=>False) n [.code body] ⟨qen 0 args,idx 0 st0,st0.length⟩)
  (hb : fn.body = some body := by rfl) (hname : (fn.name == "runtime.NumGoroutine") = false := by kernel_rfl) (hn : (Nat.ble args.length fn.ntmps && stLt n1 st1 && res.lt n1 && Nat.ble st0.length n1) = true := by kernel_rfl) : Trip P f args st0 res st1 n1 := jnt n (fun _ => rfl) hf hb hname hn h
theorem zI {p q r:Prop} (k:r) (h1:p:=by omega) (h2:q:=by omega):Ob (p∧q) r:=Ob.intro ⟨h1,h2⟩ k
theorem zQ {E:Env} {B:Nat→ASt→Prop} {id:Nat} {ops:Array Oper} {k:List Itm} {s:ASt} (n:Nat) (h:D4X E B n k ops s false ops.toList [] s) (hT:∀ t,E.T t=tab E.P t:=by exact fun _=>rfl) (hmix:E.P.follows .mixedOrders=true:=by kernel_rfl):qab E B id ops k s:=draw4 hT hmix n h
theorem zN {E:Env} {B:Nat→ASt→Prop} {id:Nat} {ops:Array Oper} {k:List Itm} {s:ASt} (n:Nat) (h:qcs E B n k ops ops.toList [] s) (hn:(ops.toList.all fun o=>!jc o.op)=true:=by rfl) (hord:(match drun E ops ops.toList [] s with|some L=>qhn ops L|none=>true)=true:=by kernel_rfl) (hT:∀ t,E.T t=tab E.P t:=by exact fun _=>rfl) (hmix:E.P.follows .mixedOrders=true:=by kernel_rfl):qab E B id ops k s:=jnj hT hmix n hn hord h
theorem zP {E:Env} {B:Nat→ASt→Prop} {id:Nat} {ops:Array Oper} {k:List Itm} {s:ASt} (n:Nat) (h:DX E B n k ops (fun cs=>match drun E ops ops.toList cs s with|some L=>qhn ops L|none=>true) ops.toList [] s) (hT:∀ t,E.T t=tab E.P t:=by exact fun _=>rfl) (hmix:E.P.follows .mixedOrders=true:=by kernel_rfl):qab E B id ops k s:=jnq hT hmix n h
theorem zR {E:Env} {B:Nat→ASt→Prop} {id:Nat} {ops:Array Oper} {k:List Itm} {s:ASt} (n:Nat) (h:D3X E B n k ops (fun cs=>match qax E ops ops.toList cs s with|some (L,_)=>qht ops L|none=>false) ops.toList [] s) (hT:∀ t,E.T t=tab E.P t:=by exact fun _=>rfl) (hmix:E.P.follows .mixedOrders=true:=by kernel_rfl):qab E B id ops k s:=jbm hT hmix n h
end Go.Sx
end
