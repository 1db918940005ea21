/- Some texts of the library, one behind the other. -/
import Derived.WalkKit
import Derived.Maps.AppendAt
import Derived.Laws.IdiomStrings
import Derived.MapKept
set_option linter.unusedSimpArgs false
set_option linter.unusedVariables false
section
namespace Go
abbrev za := @if_pos
abbrev zb := @List.getElem?_eq_getElem
abbrev ze := @if_neg
abbrev zf := @Int.natCast_nonneg
abbrev zg := @Int.toNat_natCast
abbrev zh := @Bool.and_eq_true
abbrev zi := @List.length_append
abbrev zj := @Nat.le_refl
abbrev zk := @List.mem_singleton
abbrev zl := @List.getElem?_append_right
abbrev zm := @List.getElem?_map
abbrev zn := @List.getElem?_append_left
abbrev zo := @Nat.not_lt_zero
abbrev zp := @List.mem_of_getElem?
abbrev zq := @Nat.eq_of_beq_eq_true
abbrev zr := @Nat.le_trans
abbrev zt := @Nat.mul_le_mul_right
abbrev zu := @List.length_take
abbrev zv := @Nat.zero_le
abbrev zw := @Nat.zero_add
abbrev zx := @Nat.ble_eq
abbrev zy := @List.getElem?_eq_none
abbrev zz := @List.mem_map_of_mem
abbrev xa := @List.getElem?_drop
abbrev xb := @List.eq_nil_of_length_eq_zero
abbrev xc := @List.getElem?_take
abbrev xd := @List.length_set
abbrev xe := @List.append_assoc
abbrev xg := @List.mem_cons_of_mem
abbrev xh := @List.length_cons
abbrev xi := @List.take_length
abbrev xj := @List.map_congr_left
abbrev xk := @List.getD_eq_getElem?_getD
abbrev xm := @List.mem_cons_self
abbrev xn := @decide_eq_true
abbrev xp := @decide_eq_true_eq
abbrev xq := @List.length_map
abbrev xr := @Bool.not_eq_true'
abbrev xt := @List.mem_append
abbrev xu := @Option.map_some
abbrev xx := @decide_eq_false
abbrev xy := @List.mem_append_left
abbrev xz := @Array.getElem?_toList
abbrev zaa := @of_decide_eq_true
abbrev zab := @List.mem_of_mem_take
abbrev zac := @Nat.add_zero
abbrev zad := @Nat.sub_self
abbrev zae := @List.length_singleton
abbrev zaf := @List.length_nil
abbrev zag := @List.map_cons
abbrev zah := @List.length_drop
abbrev zai := @Array.getD_eq_getD_getElem?
abbrev zaj := @Nat.beq_eq
abbrev zak := @List.all_eq_true
abbrev zal := @List.take_add_one
abbrev zam := @Array.length_toList
abbrev zan := @List.getElem?_cons_succ
abbrev zao := @List.getElem?_cons_zero
abbrev zap := @List.nodup_append
abbrev zaq := @Nat.add_mul
abbrev zar := @Nat.succ_mul
abbrev zas := @List.append_nil
abbrev zat := @List.any_eq_true
abbrev zau := @List.getElem_mem
abbrev zav := @Nat.lt_succ_self
abbrev zaw := @Array.getElem?_setIfInBounds_ne
abbrev zax := @Array.getElem?_map
abbrev zay := @Array.getElem?_append_left
abbrev zaz := @Nat.blt_eq
abbrev zba := @List.nil_append
abbrev zbb := @List.getElem?_set
abbrev zbc := @Bool.true_and
abbrev zbd := @List.map_append
abbrev zbe := @Nat.lt_of_lt_of_le
abbrev zbf := @Bool.not_eq_true
abbrev zbg := @List.idxOf_lt_length_of_mem
abbrev zbh := @List.nodup_nil
abbrev zbi := @List.length_eraseIdx_of_lt
abbrev zbj := @List.mem_filter
abbrev zbk := @Array.getElem?_eq_getElem
abbrev zbl := @Array.getElem?_modify
abbrev zbm := @List.length_filter_le
abbrev zbn := @List.length_replicate
abbrev zbo := @Bool.eq_false_iff
abbrev zbp := @List.any_eq_false
abbrev zbq := @List.map_nil
abbrev zbr := @Nat.sub_zero
abbrev zbs := @Bool.false_or
abbrev zbt := @Nat.add_assoc
abbrev zbu := @Bool.not_true
end Go
/- A small logic of pure data over the machine: abstract values, how they stand for the machine's values, and the relation's frame laws. Nothing of a program. -/
namespace Go.Sx
open Go Go.RowKit
inductive AV where
 | any
 | int (k:IntKind) (n:Int)
 | bool (b:Bool)
 | str (s:List UInt8)
 | nils
 | slc (sz n:Nat) (f:Nat→List AV)
 | own (r i e n:Nat)
 | ptr (b off:Nat)
 | eptr (r i e n sz k off:Nat)
 | mapv (b:Nat)
 | sub (r i e n sz a m:Nat)
 | mvals (r:Nat) (l:List (Nat × (Nat × Nat)))
 | ifc (t:TypeId) (v:AV)
 | nili
 | rptr (cs:List AV)
 | nilp
 | agg (cs:List AV)
 | tup (vs:List AV)
 | fn (f:FuncId) (cap:List AV)
 | bfn (f:FuncId) (b:Nat)
 | keys (ks:List (List UInt8))
 | cnd (b:Bool) (v:AV)
abbrev Rd:=Nat→Nat→Option Value
structure Mp where
 blk:Nat→Option Nat
 row:Nat→Nat→Option (Value × Nat × Nat)
def Mp.none:Mp:=⟨fun _=>Option.none,fun _ _=>Option.none⟩
def isSl:Value→Bool
 | .slice ..=>true
 | _=>false
inductive Rel (rd:Rd):Mp→AV→Value→Prop
 | any (mp v):Rel rd mp .any v
 | int (mp k n):Rel rd mp (.int k n) (.int k n)
 | bool (mp b):Rel rd mp (.bool b) (.bool b)
 | str (mp l):Rel rd mp (.str l) (.string ⟨l.toArray⟩)
 | nils (mp):Rel rd mp .nils (.slice Option.none 0 0)
 | slc0 (mp sz f a cap):Rel rd mp (.slc sz 0 f) (.slice a 0 cap)
 | slc (mp sz n f blk off cap) (val:Nat→Nat→Value) (h0:0<n) (hc:n≤cap) (hs:∀ i,i<n→(f i).length=sz)
   (hr:∀ i j,i<n→j<sz→rd blk (off+(i * sz+j))=some (val i j))
   (he:∀ (i j:Nat) x,i<n→(f i)[j]?=some x→Rel rd Mp.none x (val i j)) :
   Rel rd mp (.slc sz n f) (.slice (some ⟨blk,off,Option.none⟩) n cap)
 | own (mp r i e n v vr er nr) (hr:mp.row r i=some (vr,er,nr)) (he:e≤er) (hn:e=er→n≤nr) (hv:e=er→n=nr→v=vr) (hs:isSl v=true):Rel rd mp (.own r i e n) v
 | ptr (mp b off blk) (hb:mp.blk b=some blk):Rel rd mp (.ptr b off) (.pointer (some ⟨blk,off,Option.none⟩))
 | eptr (mp r i e n sz k off v vr er nr) (hr:mp.row r i=some (vr,er,nr)) (he:e≤er) (hn:e=er→n≤nr)
   (hv:e=er→n=nr→∃ g lo cap,vr=.slice (some ⟨g,lo,Option.none⟩) n cap∧v=.pointer (some ⟨g,lo+(k * sz+off),Option.none⟩)):Rel rd mp (.eptr r i e n sz k off) v
 | mapv (mp b g) (hb:mp.blk b=some g):Rel rd mp (.mapv b) (.map (some g))
 | sub (mp r i e n sz a m v vr er nr) (hr:mp.row r i=some (vr,er,nr)) (he:e≤er) (hn:e=er→n≤nr)
   (hv:e=er→n=nr→a+m≤n∧((vr=.slice Option.none 0 0∧v=.slice Option.none 0 0∧n=0)∨∃ g lo cap,vr=.slice (some ⟨g,lo,Option.none⟩) n cap∧v=.slice (some ⟨g,if cap=a then lo else lo+a * sz,Option.none⟩) m (cap - a))) (hs:isSl v=true):Rel rd mp (.sub r i e n sz a m) v
 | mvals (mp r l) (vs:Array Value) (hs:vs.size=l.length) (he:∀ (j i e n:Nat) v,l[j]?=some (i,e,n)→vs[j]?=some v→Rel rd mp (.own r i e n) v):Rel rd mp (.mvals r l) (.tuple vs)
 | ifc (mp t x v) (h:Rel rd mp x v):Rel rd mp (.ifc t x) (.iface t v)
 | nili (mp):Rel rd mp .nili .nilIface
 | rptr (mp cs blk off) (val:Nat→Value) (hr:∀ (j:Nat) x,cs[j]?=some x→rd blk (off+j)=some (val j))
   (he:∀ (j:Nat) x,cs[j]?=some x→Rel rd Mp.none x (val j)):Rel rd mp (.rptr cs) (.pointer (some ⟨blk,off,Option.none⟩))
 | nilp (mp):Rel rd mp .nilp (.pointer Option.none)
 | agg (mp cs) (vs:Array Value) (hs:vs.size=cs.length) (he:∀ (j:Nat) x v,cs[j]?=some x→vs[j]?=some v→Rel rd mp x v):Rel rd mp (.agg cs) (.agg vs)
 | tup (mp cs) (vs:Array Value) (hs:vs.size=cs.length) (he:∀ (j:Nat) x v,cs[j]?=some x→vs[j]?=some v→Rel rd mp x v):Rel rd mp (.tup cs) (.tuple vs)
 | fn (mp f cs) (vs:Array Value) (hs:vs.size=cs.length) (he:∀ (j:Nat) x v,cs[j]?=some x→vs[j]?=some v→Rel rd mp x v):Rel rd mp (.fn f cs) (.func (.func f) #[] vs)
 | bfn (mp f b g) (hb:mp.blk b=some g):Rel rd mp (.bfn f b) (.func (.func f) #[.pointer (some ⟨g,0,Option.none⟩)] #[])
 | keys (mp ks):Rel rd mp (.keys ks) (.tuple (ks.map fun k=>Value.string ⟨k.toArray⟩).toArray)
 | cnd (mp b av v) (h:b=true→Rel rd mp av v) (h0:b=false→v=undef):Rel rd mp (.cnd b av) v
def Rd.le (a b:Rd):Prop:=∀ g o v,a g o=some v→b g o=some v
structure Mp.le (a b:Mp):Prop where
 blk:∀ i g,a.blk i=some g→b.blk i=some g
 row:∀ r i v e n,a.row r i=some (v,e,n)→∃ v' e' n',b.row r i=some (v',e',n')∧(e<e'∨(e=e'∧(n<n'∨(n=n'∧v=v'))))
theorem Rd.le.refl (a:Rd):Rd.le a a:=fun _ _ _ h=>h
theorem Rd.le.trans {a b c:Rd} (h:Rd.le a b) (k:Rd.le b c):Rd.le a c:=fun g o v e=>k g o v (h g o v e)
theorem Mp.le.refl (a:Mp):Mp.le a a:=⟨fun _ _ h=>h,fun _ _ v e n h=>⟨v,e,n,h,.inr ⟨rfl,.inr ⟨rfl,rfl⟩⟩⟩⟩
theorem Mp.le.trans {a b c:Mp} (h:Mp.le a b) (k:Mp.le b c):Mp.le a c:=
 ⟨fun i g e=>k.blk i g (h.blk i g e),fun r i v e n h0=>by
  obtain ⟨v',e',n',h1,h'⟩:=h.row r i v e n h0
  obtain ⟨v'',e'',n'',h2,h''⟩:=k.row r i v' e' n' h1
  refine ⟨v'',e'',n'',h2,?_⟩
  rcases h' with h'|⟨rfl,h'⟩
  ·left;rcases h'' with h''|⟨rfl,_⟩ <;> omega
  ·rcases h'' with h''|⟨rfl,h''⟩
   ·left;omega
   ·right
    refine ⟨rfl,?_⟩
    rcases h' with h'|⟨rfl,rfl⟩
    ·left;rcases h'' with h''|⟨rfl,_⟩ <;> omega
    ·exact h''⟩
theorem Mp.none_le (a:Mp):Mp.le Mp.none a:=⟨fun _ _ h=>(by cases h),fun _ _ _ _ _ h=>(by cases h)⟩
theorem Rel.mono {rd rd':Rd} (h1:Rd.le rd rd') {mp:Mp} {x:AV} {v:Value} (h:Rel rd mp x v):∀ {mp':Mp},Mp.le mp mp'→Rel rd' mp' x v:=by
 induction h with
 | any=>exact fun _=>.any _ _
 | int=>exact fun _=>.int _ _ _
 | bool=>exact fun _=>.bool _ _
 | str=>exact fun _=>.str _ _
 | nils=>exact fun _=>.nils _
 | slc0=>exact fun _=>.slc0 _ _ _ _ _
 | slc mp sz n f blk off cap val h0 hc hs hr he ih=>exact fun _=>.slc _ _ _ _ _ _ _ val h0 hc hs (fun i j hi hj=>h1 _ _ _ (hr i j hi hj)) (fun i j x hi hx=>ih i j x hi hx (Mp.le.refl _))
 | own mp r i e n v vr er nr hr he hn hv hsl=>
  intro mp' hm
  obtain ⟨v',e',n',h1,h⟩:=hm.row _ _ _ _ _ hr
  refine .own _ _ _ _ _ _ v' e' n' h1 (by rcases h with h|⟨rfl,_⟩ <;> omega) (fun hh=>?_) (fun hh hk=>?_) hsl
  ·rcases h with h|⟨rfl,h⟩
   ·omega
   ·have:=hn hh;rcases h with h|⟨rfl,_⟩ <;> omega
  ·rcases h with h|⟨rfl,h⟩
   ·omega
   ·have:=hn hh
    rcases h with h|⟨rfl,rfl⟩
    ·omega
    ·exact hv hh hk
 | ptr mp b off blk hb=>exact fun hm=>.ptr _ _ _ _ (hm.blk _ _ hb)
 | eptr mp r i e n sz k off v vr er nr hr he hn hv=>
  intro mp' hm
  obtain ⟨v',e',n',h1,h⟩:=hm.row _ _ _ _ _ hr
  refine .eptr _ _ _ _ _ _ _ _ _ v' e' n' h1 (by rcases h with h|⟨rfl,_⟩ <;> omega) (fun hh=>?_) (fun hh hk=>?_)
  ·rcases h with h|⟨rfl,h⟩
   ·omega
   ·have:=hn hh;rcases h with h|⟨rfl,_⟩ <;> omega
  ·rcases h with h|⟨rfl,h⟩
   ·omega
   ·have:=hn hh
    rcases h with h|⟨rfl,rfl⟩
    ·omega
    ·exact hv hh hk
 | mapv mp b g hb=>exact fun hm=>.mapv _ _ _ (hm.blk _ _ hb)
 | sub mp r i e n sz a m v vr er nr hr he hn hv hsl=>
  intro mp' hm
  obtain ⟨v',e',n',h1,h⟩:=hm.row _ _ _ _ _ hr
  refine .sub _ _ _ _ _ _ _ _ _ v' e' n' h1 (by rcases h with h|⟨rfl,_⟩ <;> omega) (fun hh=>?_) (fun hh hk=>?_) hsl
  ·rcases h with h|⟨rfl,h⟩
   ·omega
   ·have:=hn hh;rcases h with h|⟨rfl,_⟩ <;> omega
  ·rcases h with h|⟨rfl,h⟩
   ·omega
   ·have:=hn hh
    rcases h with h|⟨rfl,rfl⟩
    ·omega
    ·exact hv hh hk
 | mvals mp r l vs hs he ih=>exact fun hm=>.mvals _ _ _ _ hs (fun j i e n v hx hv=>ih j i e n v hx hv hm)
 | ifc mp t x v h ih=>exact fun hm=>.ifc _ _ _ _ (ih hm)
 | nili=>exact fun _=>.nili _
 | rptr mp cs blk off val hr he ih=>exact fun _=>.rptr _ _ _ _ val (fun j x hx=>h1 _ _ _ (hr j x hx)) (fun j x hx=>ih j x hx (Mp.le.refl _))
 | nilp=>exact fun _=>.nilp _
 | agg mp cs vs hs he ih=>exact fun hm=>.agg _ _ _ hs (fun j x v hx hv=>ih j x v hx hv hm)
 | tup mp cs vs hs he ih=>exact fun hm=>.tup _ _ _ hs (fun j x v hx hv=>ih j x v hx hv hm)
 | fn mp f cs vs hs he ih=>exact fun hm=>.fn _ _ _ _ hs (fun j x v hx hv=>ih j x v hx hv hm)
 | bfn mp f b g hb=>exact fun hm=>.bfn _ _ _ _ (hm.blk _ _ hb)
 | keys=>exact fun _=>.keys _ _
 | cnd mp b av v h h0 ih=>exact fun hm=>.cnd _ _ _ _ (fun hb=>ih hb hm) h0
def AV.pure0:AV→Bool
 | .own .. | .ptr .. | .eptr .. | .mapv .. | .sub .. | .mvals .. | .ifc .. | .agg .. | .tup .. | .fn .. | .bfn .. | .cnd ..=>false
 | _=>true
def AV.pure1:AV→Bool
 | .fn _ cs=>cs.all AV.pure0
 | x=>x.pure0
def AV.pureA:AV→Bool
 | .agg cs=>cs.all AV.pure1
 | x=>x.pure1
def AV.pure:AV→Bool
 | .tup vs=>vs.all AV.pureA
 | x=>x.pureA
theorem Rel.pure0 {rd:Rd} {mp mp':Mp} {x:AV} {v:Value} (h:Rel rd mp x v) (hp:x.pure0=true):Rel rd mp' x v:=by
 cases h <;> first
  | (simp [AV.pure0] at hp;done)
  | (constructor <;> assumption)
  | constructor
theorem Rel.pure1 {rd:Rd} {mp mp':Mp} {x:AV} {v:Value} (h:Rel rd mp x v) (hp:x.pure1=true):Rel rd mp' x v:=by
 have h':=h
 cases h with
 | fn _ f cs vs hs he=>
  refine .fn _ _ _ _ hs (fun j x v hx hv=>(he j x v hx hv).pure0 ?_)
  simp only [AV.pure1,zak] at hp
  exact hp x (zp hx)
 | _=>exact h'.pure0 hp
theorem Rel.pureA {rd:Rd} {mp mp':Mp} {x:AV} {v:Value} (h:Rel rd mp x v) (hp:x.pureA=true):Rel rd mp' x v:=by
 have h':=h
 cases h with
 | agg _ cs vs hs he=>
  refine .agg _ _ _ hs (fun j x v hx hv=>(he j x v hx hv).pure1 ?_)
  simp only [AV.pureA,zak] at hp
  exact hp x (zp hx)
 | _=>exact h'.pure1 hp
theorem Rel.pure {rd:Rd} {mp mp':Mp} {x:AV} {v:Value} (h:Rel rd mp x v) (hp:x.pure=true):Rel rd mp' x v:=by
 have h':=h
 cases h with
 | tup _ cs vs hs he=>
  refine .tup _ _ _ hs (fun j x v hx hv=>(he j x v hx hv).pureA ?_)
  simp only [AV.pure,zak] at hp
  exact hp x (zp hx)
 | _=>exact h'.pureA hp
inductive SO where
 | box (ty:TypeId) (cs:List AV)
 | row (ids:List Nat) (e:TypeId) (sz ep n:Nat) (f:Nat→List AV)
 | fam (e:TypeId) (sz cnt:Nat) (ep len:Nat→Nat) (f:Nat→Nat→List AV)
 | ro (sz ep n:Nat) (f:Nat→List AV)
structure RowV where
 ids:List Nat
 e:TypeId
 sz:Nat
 ep:Nat
 n:Nat
 f:Nat→List AV
structure ASt where
 sl:List (Nat × AV)
 st:List (Nat × SO)
 nx:Nat
def look {α:Type}:List (Nat × α)→Nat→Option α
 | [],_=>none
 | (k,v)::r,t=>bif Nat.beq k t then some v else look r t
def ASt.get (s:ASt) (t:Nat):AV:=(look s.sl t).getD .any
def ASt.put (s:ASt) (d:Option Nat) (v:AV):ASt:=
 match d with
 | some d=>{ s with sl:=(d,v)::s.sl }
 | none=>s
def setSt:List (Nat × SO)→Nat→SO→List (Nat × SO)
 | [],_,_=>[]
 | (k,v)::r,t,o=>bif Nat.beq k t then (k,o)::r else (k,v)::setSt r t o
theorem qh {α:Type} (k:Nat) (v:α) (r:List (Nat × α)) (t:Nat):look ((k,v)::r) t=if k=t then some v else look r t:=by
 simp only [look]
 by_cases h:k=t
 ·subst h;simp
 ·have:Nat.beq k t=false:=by cases hb:Nat.beq k t with
   | false=>rfl
   | true=>exact absurd (zq hb) h
  simp [h,this]
end Go.Sx
end
section
namespace Go.Sx
open Go Go.RowKit
def tbs:List (Nat × Array Value):=[]
def TabR (rd:Rd) (w:World):Prop:=∀ t∈tbs,rd t.1 0≠none∧∃ ty fz,w.heap[t.1]?=some (.cells t.2 ty fz)
theorem TabR.step {rd rd':Rd} {w w':World} (h:TabR rd w) (hr:Rd.le rd rd') (hb:∀ g,rd g 0≠none→w'.heap[g]?=w.heap[g]?):TabR rd' w':=fun t ht=>by
 obtain ⟨h1,ty,fz,h2⟩:=h t ht
 refine ⟨?_,ty,fz,(hb _ h1).trans h2⟩
 cases hv:rd t.1 0 with
 | none=>exact absurd hv h1
 | some v=>rw [hr _ _ _ hv];simp
def stdF:Nat→Nat→Prop:=fun nx i=>nx≤i
structure Ctx where
 w0:World
 rd0:Rd
 fx:Nat→Prop
 fre:Nat→Nat→Prop
structure Sup (c:Ctx) (nx:Nat):Prop where
 here:c.fre nx nx
 next:∀ i,c.fre (nx+1) i→c.fre nx i∧i≠nx
theorem Sup.std {c:Ctx} (h:c.fre=stdF) (nx:Nat):Sup c nx:=⟨by rw [h];exact zj _,fun i hi=>by rw [h] at hi ⊢;simp only [stdF] at hi ⊢;omega⟩
structure Fr (c:Ctx) (w:World):Prop where
 os:w.os=c.w0.os
 tape:w.tape=c.w0.tape
 output:w.output=c.w0.output
 size:c.w0.heap.size≤w.heap.size
 block:∀ k,k<c.w0.heap.size→¬ c.fx k→w.heap[k]?=c.w0.heap[k]?
inductive Pl where
 | bx (b:Nat)
 | rw (r i:Nat)
def blkOf (mp:Mp):Pl→Option Nat
 | .bx b=>mp.blk b
 | .rw r i=>(mp.row r i).bind (·.1.ownBlock)
inductive IsMem (st:List (Nat × SO)):Nat→Nat→RowV→Prop
 | row {r:Nat} {ids:List Nat} {e:TypeId} {sz ep n:Nat} {f:Nat→List AV} (h:look st r=some (.row ids e sz ep n f)):IsMem st r 0 ⟨ids,e,sz,ep,n,f⟩
 | fam {r:Nat} {e:TypeId} {sz cnt:Nat} {ep len:Nat→Nat} {f:Nat→Nat→List AV} {i:Nat} (h:look st r=some (.fam e sz cnt ep len f)) (hi:i<cnt):IsMem st r i ⟨[],e,sz,ep i,len i,f i⟩
def There (st:List (Nat × SO)):Pl→Prop
 | .bx b=>∃ ty cs,look st b=some (.box ty cs)
 | .rw r i=>∃ R,IsMem st r i R
def Owns (w:World) (e:TypeId) (sz:Nat) (v:Value) (n:Nat) (xs:List Value):Prop:=
 xs.length=n * sz∧((v=.slice none 0 0∧n=0) ∨
  ∃ g lo cap cur,v=.slice (some ⟨g,lo,none⟩) n cap∧w.heap[g]?=some (.cells cur e (0,0))∧n≤cap∧cap≤maxLen∧lo+cap * sz≤cur.size∧(cur.toList.drop lo).take (n * sz)=xs)
theorem Owns.sl {w:World} {e:TypeId} {sz:Nat} {v:Value} {n:Nat} {xs:List Value} (h:Owns w e sz v n xs):isSl v=true:=by
 rcases h.2 with ⟨rfl,_⟩|⟨g,lo,cap,cur,rfl,_⟩ <;> rfl
theorem qgi {w:World} {b:Nat} {o:Obj} (h:w.heap[b]?=some o):b<w.heap.size:=(Array.getElem?_eq_some_iff.1 h).1
theorem Owns.lt {w:World} {e:TypeId} {sz:Nat} {v:Value} {n:Nat} {xs:List Value} (h:Owns w e sz v n xs) {g:Nat} (hg:v.ownBlock=some g):g<w.heap.size:=by
 rcases h.2 with ⟨rfl,_⟩|⟨g',lo,cap,cur,rfl,hh,_⟩
 ·simp [Value.ownBlock] at hg
 ·simp [Value.ownBlock] at hg;subst hg;exact qgi hh
theorem Owns.keep {w w':World} {e:TypeId} {sz:Nat} {v:Value} {n:Nat} {xs:List Value} (h:Owns w e sz v n xs) (hb:∀ g,v.ownBlock=some g→w'.heap[g]?=w.heap[g]?):Owns w' e sz v n xs:=by
 refine ⟨h.1,?_⟩
 rcases h.2 with h2|⟨g,lo,cap,cur,rfl,hh,rest⟩
 ·exact .inl h2
 ·exact .inr ⟨g,lo,cap,cur,rfl,(hb g rfl).trans hh,rest⟩
theorem Owns.cells {w:World} {e:TypeId} {sz:Nat} {n:Nat} {xs:List Value} {g lo cap:Nat} (h:Owns w e sz (.slice (some ⟨g,lo,none⟩) n cap) n xs) {j:Nat} {u:Value} (hu:xs[j]?=some u):w.cell? ⟨g,lo+j,none⟩=some u:=by
 rcases h.2 with ⟨h2,_⟩|⟨g',lo',cap',cur,hv,hh,h1,h2,h3,h4⟩
 ·cases h2
 ·simp only [Value.slice.injEq,Option.some.injEq,Addr.mk.injEq,and_true,true_and] at hv
  obtain ⟨⟨rfl,rfl⟩,rfl⟩:=hv
  rw [cell_of_row w g (lo+j) cur e (0,0) hh]
  rw [← h4,xc] at hu
  split at hu
  ·rw [xa] at hu
   simpa using hu
  ·cases hu
theorem Owns.of_row {w:World} {base:Nat} {e:TypeId} {sz:Nat} {v:Value} {n:Nat} {xs:List Value} (h:w.ownsRow base e sz v n xs):Owns w e sz v n xs:=by
 refine ⟨h.1,?_⟩
 rcases h.2 with h2|⟨g,cap,cur,rfl,_,hh,h1,h2,h3,h4⟩
 ·exact .inl h2
 ·exact .inr ⟨g,0,cap,cur,rfl,hh,h1,h2,by omega,by simpa using h4⟩
def TabC (c:Ctx):Prop:=TabR c.rd0 c.w0∧∀ t∈tbs,¬ c.fx t.1
def Mp.sel (mp:Mp) (ids:List Nat):Mp:=⟨fun _=>Option.none,fun r i=>if r∈ids then mp.row r i else Option.none⟩
theorem Mp.sel_le (mp:Mp) (ids:List Nat):Mp.le (mp.sel ids) mp:=
 ⟨fun _ _ h=>(by cases h),fun r i v e n h=>by
  simp only [Mp.sel] at h
  split at h
  ·exact ⟨v,e,n,h,.inr ⟨rfl,.inr ⟨rfl,rfl⟩⟩⟩
  ·cases h⟩
theorem Mp.sel_mono {mp mp':Mp} (h:Mp.le mp mp') (ids:List Nat):Mp.le (mp.sel ids) (mp'.sel ids):=
 ⟨fun _ _ h=>(by cases h),fun r i v e n h0=>by
  simp only [Mp.sel] at h0 ⊢
  split at h0
  ·rename_i hr
   rw [za hr]
   exact h.row r i v e n h0
  ·cases h0⟩
theorem Mp.none_le_sel (mp:Mp) (ids:List Nat):Mp.le Mp.none (mp.sel ids):=Mp.none_le _
theorem Mp.sel_nil (mp:Mp):mp.sel []=Mp.none:=by
 simp [Mp.sel,Mp.none]
def mapTy:TypeId:=1000000007
def HeapIs (w:World) (g:Nat) (ty:TypeId) (vs:Array Value):Prop:=
 (ty≠mapTy∧w.heap[g]?=some (.cells vs ty (0,0)))∨(ty=mapTy∧∃ es clock,w.heap[g]?=some (.map es clock)∧(vs=#[.tuple (es.map (·.key))]∨vs=#[.tuple (es.map (·.key)),.tuple (es.map (·.val))]))
theorem qeh {ty:TypeId} (h:Nat.beq ty mapTy=false):ty≠mapTy:=by
 rintro rfl
 rw [Nat.beq_refl] at h
 cases h
theorem HeapIs.lt {w:World} {g:Nat} {ty:TypeId} {vs:Array Value} (h:HeapIs w g ty vs):g<w.heap.size:=by
 rcases h with ⟨_,h⟩|⟨_,es,clock,h,_⟩ <;> exact qgi h
theorem HeapIs.keep {w w':World} {g:Nat} {ty:TypeId} {vs:Array Value} (h:HeapIs w g ty vs) (e:w'.heap[g]?=w.heap[g]?):HeapIs w' g ty vs:=by
 rcases h with ⟨h0,h⟩|⟨h0,es,clock,h,h'⟩
 ·exact .inl ⟨h0,e.trans h⟩
 ·exact .inr ⟨h0,es,clock,e.trans h,h'⟩
theorem HeapIs.cells {w:World} {g:Nat} {ty:TypeId} {vs:Array Value} (h:HeapIs w g ty vs) (hne:ty≠mapTy):w.heap[g]?=some (.cells vs ty (0,0)):=by
 rcases h with ⟨_,h⟩|⟨h0,_⟩
 ·exact h
 ·exact absurd h0 hne
def BoxOk (c:Ctx) (rd:Rd) (mp:Mp) (w:World) (b:Nat) (ty:TypeId) (cs:List AV):Prop:=
 ∃ g vs,mp.blk b=some g∧HeapIs w g ty vs∧vs.size=cs.length ∧
   (∀ (j:Nat) x v,cs[j]?=some x→vs[j]?=some v→Rel rd mp x v)∧(∀ o,rd g o=none)∧(c.w0.heap.size≤g∨c.fx g)
def MOk (c:Ctx) (rd:Rd) (mp:Mp) (w:World) (r i:Nat) (R:RowV):Prop:=
 ∃ v xs,mp.row r i=some (v,R.ep,R.n)∧Owns w R.e R.sz v R.n xs∧(∀ k,k<R.n→(R.f k).length=R.sz) ∧
   (∀ (k j:Nat) x,k<R.n→(R.f k)[j]?=some x→∃ u,xs[k * R.sz+j]?=some u∧u.oneCell'=true∧Rel rd (mp.sel R.ids) x u) ∧
   (∀ g,v.ownBlock=some g→(∀ o,rd g o=none)∧(c.w0.heap.size≤g∨c.fx g))
structure Mem (c:Ctx) (rd:Rd) (mp:Mp) (st:List (Nat × SO)) (nx:Nat) (w:World):Prop where
 rdw:∀ g o v,rd g o=some v→w.cell? ⟨g,o,none⟩=some v
 rd1:∀ g o v,rd g o=some v→v.oneCell'=true
 rdn:∀ g o v,rd g o=some v→c.rd0 g o=some v∨c.w0.heap.size≤g∨c.fx g
 fr:Fr c w
 bx:∀ b ty cs,look st b=some (.box ty cs)→BoxOk c rd mp w b ty cs
 mb:∀ r i R,IsMem st r i R→MOk c rd mp w r i R
 inj:∀ p q g,There st p→There st q→blkOf mp p=some g→blkOf mp q=some g→p=q
 fresh:∀ i,c.fre nx i→mp.blk i=none∧∀ j,mp.row i j=none
 ids:∀ i x,look st i=some x→¬ c.fre nx i
 out:∀ r e sz cnt ep len f,look st r=some (.fam e sz cnt ep len f)→∀ i,cnt≤i→mp.row r i=none
 ro:∀ r sz ep n f,look st r=some (.ro sz ep n f)→∃ v,mp.row r 0=some (v,ep,n)∧Rel rd Mp.none (.slc sz n f) v
 tab:TabC c∧Rd.le c.rd0 rd
section
variable {c:Ctx} {rd rd':Rd} {mp mp':Mp} {st st':List (Nat × SO)} {nx nx':Nat} {w w':World}
theorem Mem.home (h:Mem c rd mp st nx w) {p:Pl} (hp:There st p) {g:Nat} (hg:blkOf mp p=some g):g<w.heap.size∧(∀ o,rd g o=none)∧(c.w0.heap.size≤g∨c.fx g):=by
 cases p with
 | bx b=>
  obtain ⟨ty,cs,hl⟩:=hp
  obtain ⟨g',vs,h1,h2,h3,h4,h5,h6⟩:=h.bx b ty cs hl
  simp only [blkOf] at hg
  rw [h1] at hg;cases hg
  exact ⟨h2.lt,h5,h6⟩
 | rw r i=>
  obtain ⟨R,hR⟩:=hp
  obtain ⟨v,xs,h1,h2,h3,h4,h5⟩:=h.mb r i R hR
  simp only [blkOf,h1,Option.bind_some] at hg
  exact ⟨h2.lt hg,(h5 g hg).1,(h5 g hg).2⟩
theorem BoxOk.keep {b:Nat} {ty:TypeId} {cs:List AV} (h:BoxOk c rd mp w b ty cs) (hr:Rd.le rd rd') (hp:Mp.le mp mp')
  (hb:∀ g,mp.blk b=some g→w'.heap[g]?=w.heap[g]?∧∀ o,rd' g o=none):BoxOk c rd' mp' w' b ty cs:=by
 obtain ⟨g,vs,h1,h2,h3,h4,h5,h6⟩:=h
 exact ⟨g,vs,hp.blk _ _ h1,h2.keep (hb g h1).1,h3,fun j x v hx hv=>(h4 j x v hx hv).mono hr hp,(hb g h1).2,h6⟩
theorem MOk.keep {r i:Nat} {R:RowV} (h:MOk c rd mp w r i R) (hr:Rd.le rd rd') (hp:Mp.le mp mp') (hbind:mp'.row r i=mp.row r i)
  (hb:∀ g,blkOf mp (.rw r i)=some g→w'.heap[g]?=w.heap[g]?∧∀ o,rd' g o=none):MOk c rd' mp' w' r i R:=by
 obtain ⟨v,xs,h1,h2,h3,h4,h5⟩:=h
 have hb':∀ g,v.ownBlock=some g→w'.heap[g]?=w.heap[g]?∧∀ o,rd' g o=none:=fun g hg=>hb g (by simp [blkOf,h1,hg])
 refine ⟨v,xs,hbind.trans h1,h2.keep (fun g hg=>(hb' g hg).1),h3,fun k j x hk hx=>?_,fun g hg=>⟨(hb' g hg).2,(h5 g hg).2⟩⟩
 obtain ⟨u,hu,h1',h2'⟩:=h4 k j x hk hx
 exact ⟨u,hu,h1',h2'.mono hr (Mp.sel_mono hp _)⟩
def bindEq (mp mp':Mp):Pl→Prop
 | .bx b=>mp'.blk b=mp.blk b
 | .rw r i=>mp'.row r i=mp.row r i
theorem bindEq.blk {p:Pl} (h:bindEq mp mp' p):blkOf mp' p=blkOf mp p:=by
 cases p with
 | bx b=>exact h
 | rw r i=>simp only [blkOf];rw [show mp'.row r i=mp.row r i from h]
theorem Mem.upd0 (h:Mem c rd mp st nx w) (t:Option Pl) (hr:Rd.le rd rd') (hp:Mp.le mp mp') (hfr:Fr c w')
  (rdw:∀ g o v,rd' g o=some v→w'.cell? ⟨g,o,none⟩=some v) (rd1:∀ g o v,rd' g o=some v→v.oneCell'=true) (rdn:∀ g o v,rd' g o=some v→c.rd0 g o=some v∨c.w0.heap.size≤g∨c.fx g)
  (hb:∀ b ty cs,look st' b=some (.box ty cs)→some (Pl.bx b)≠t→look st b=some (.box ty cs))
  (hm:∀ r i R,IsMem st' r i R→some (Pl.rw r i)≠t→IsMem st r i R)
  (keep:∀ p,There st p→some p≠t→bindEq mp mp' p∧∀ g,blkOf mp p=some g→w'.heap[g]?=w.heap[g]?∧∀ o,rd' g o=none)
  (tb:∀ b ty cs,t=some (.bx b)→look st' b=some (.box ty cs)→BoxOk c rd' mp' w' b ty cs)
  (tm:∀ r i R,t=some (.rw r i)→IsMem st' r i R→MOk c rd' mp' w' r i R)
  (tsep:∀ p g,t=some p→There st' p→blkOf mp' p=some g→∀ q,There st q→some q≠t→blkOf mp q≠some g)
  (fresh:∀ i,c.fre nx' i→mp'.blk i=none∧∀ j,mp'.row i j=none) (ids:∀ i x,look st' i=some x→¬ c.fre nx' i)
  (out:∀ r e sz cnt ep len f,look st' r=some (.fam e sz cnt ep len f)→∀ i,cnt≤i→mp'.row r i=none)
  (hro:∀ r sz ep n f,look st' r=some (.ro sz ep n f)→∃ v,mp'.row r 0=some (v,ep,n)∧Rel rd' Mp.none (.slc sz n f) v) :
  Mem c rd' mp' st' nx' w':=by
 have old:∀ p,There st' p→some p≠t→There st p:=by
  intro p hp' hne
  cases p with
  | bx b=>obtain ⟨ty,cs,hl⟩:=hp';exact ⟨ty,cs,hb b ty cs hl hne⟩
  | rw r i=>obtain ⟨R,hR⟩:=hp';exact ⟨R,hm r i R hR hne⟩
 refine ⟨rdw,rd1,rdn,hfr,fun b ty cs hl=>?_,fun r i R hR=>?_,fun p q g hp' hq' hgp hgq=>?_,fresh,ids,out,hro,h.tab.1,h.tab.2.trans hr⟩
 ·by_cases he:some (Pl.bx b)=t
  ·exact tb b ty cs he.symm hl
  ·have hl':=hb b ty cs hl he
   exact (h.bx b ty cs hl').keep hr hp (fun g hg=>(keep (.bx b) ⟨ty,cs,hl'⟩ he).2 g hg)
 ·by_cases he:some (Pl.rw r i)=t
  ·exact tm r i R he.symm hR
  ·have hR':=hm r i R hR he
   exact (h.mb r i R hR').keep hr hp (keep (.rw r i) ⟨R,hR'⟩ he).1 (keep (.rw r i) ⟨R,hR'⟩ he).2
 ·by_cases he:some p=t
  ·by_cases he':some q=t
   ·have:=he.trans he'.symm;cases this;rfl
   ·have hq:=old q hq' he'
    have:=(keep q hq he').1.blk
    rw [this] at hgq
    exact absurd hgq (tsep p g he.symm hp' hgp q hq he')
  ·have hpo:=old p hp' he
   have h1:=(keep p hpo he).1.blk
   by_cases he':some q=t
   ·rw [h1] at hgp
    exact absurd hgp (tsep q g he'.symm hq' hgq p hpo he)
   ·have hq:=old q hq' he'
    have h2:=(keep q hq he').1.blk
    rw [h1] at hgp
    rw [h2] at hgq
    exact h.inj p q g hpo hq hgp hgq
theorem Mem.upd (h:Mem c rd mp st nx w) (t:Option Pl) (hr:Rd.le rd rd') (hp:Mp.le mp mp') (hfr:Fr c w')
  (rdw:∀ g o v,rd' g o=some v→w'.cell? ⟨g,o,none⟩=some v) (rd1:∀ g o v,rd' g o=some v→v.oneCell'=true) (rdn:∀ g o v,rd' g o=some v→c.rd0 g o=some v∨c.w0.heap.size≤g∨c.fx g)
  (hb:∀ b ty cs,look st' b=some (.box ty cs)→some (Pl.bx b)≠t→look st b=some (.box ty cs))
  (hm:∀ r i R,IsMem st' r i R→some (Pl.rw r i)≠t→IsMem st r i R)
  (keep:∀ p,There st p→some p≠t→bindEq mp mp' p∧∀ g,blkOf mp p=some g→w'.heap[g]?=w.heap[g]?∧∀ o,rd' g o=none)
  (tb:∀ b ty cs,t=some (.bx b)→look st' b=some (.box ty cs)→BoxOk c rd' mp' w' b ty cs)
  (tm:∀ r i R,t=some (.rw r i)→IsMem st' r i R→MOk c rd' mp' w' r i R)
  (tsep:∀ p g,t=some p→There st' p→blkOf mp' p=some g→∀ q,There st q→some q≠t→blkOf mp q≠some g)
  (fresh:∀ i,c.fre nx' i→mp'.blk i=none∧∀ j,mp'.row i j=none) (ids:∀ i x,look st' i=some x→¬ c.fre nx' i)
  (out:∀ r e sz cnt ep len f,look st' r=some (.fam e sz cnt ep len f)→∀ i,cnt≤i→mp'.row r i=none)
  (hro:∀ r sz ep n f,look st' r=some (.ro sz ep n f)→look st r=some (.ro sz ep n f)∧mp'.row r 0=mp.row r 0) :
  Mem c rd' mp' st' nx' w':=
 h.upd0 t hr hp hfr rdw rd1 rdn hb hm keep tb tm tsep fresh ids out (fun r sz ep n f hl=>by
  obtain ⟨h1,h2⟩:=hro r sz ep n f hl
  obtain ⟨v,h3,h4⟩:=h.ro r sz ep n f h1
  exact ⟨v,h2.trans h3,h4.mono hr (Mp.le.refl _)⟩)
theorem Fr.below (h:Fr c w) (hb:Below w.heap.size w w'):Fr c w':=
 ⟨hb.os.trans h.os,hb.tape.trans h.tape,hb.output.trans h.output,zr h.size hb.size,fun k hk hf=>(hb.block k (zbe hk h.size)).trans (h.block k hk hf)⟩
theorem Mem.rd_lt (h:Mem c rd mp st nx w) {g o:Nat} (hn:rd g o≠none):g<w.heap.size:=by
 cases hv:rd g o with
 | none=>exact absurd hv hn
 | some v=>exact World.block_lt_of_cell? w ⟨g,o,none⟩ (h.rdw g o v hv)
theorem Mem.tabR (h:Mem c rd mp st nx w):TabR rd w:=fun t ht=>by
 obtain ⟨h1,ty,fz,h2⟩:=h.tab.1.1 t ht
 refine ⟨?_,ty,fz,(h.fr.block _ (qgi h2) (h.tab.1.2 t ht)).trans h2⟩
 cases hv:c.rd0 t.1 0 with
 | none=>exact absurd hv h1
 | some v=>rw [h.tab.2 _ _ _ hv];simp
theorem Mem.more (h:Mem c rd mp st nx w) (hb:Below w.heap.size w w') (hr:Rd.le rd rd') (h1:∀ g o v,rd' g o=some v→w'.cell? ⟨g,o,none⟩=some v) (h2:∀ g o v,rd' g o=some v→v.oneCell'=true)
  (hn:∀ g o v,rd' g o=some v→rd g o=some v∨w.heap.size≤g):Mem c rd' mp st nx w':=by
 refine h.upd none hr (Mp.le.refl _) (h.fr.below hb) h1 h2 (fun g o v hv=>?_) (fun b ty cs hl _=>hl) (fun r i R hR _=>hR) (fun p hp _=>⟨by cases p <;> rfl,fun g hg=>?_⟩)
  (fun b ty cs ht=>by cases ht) (fun r i R ht=>by cases ht) (fun p g ht=>by cases ht) h.fresh h.ids h.out (fun _ _ _ _ _ hl=>⟨hl,rfl⟩)
 ·rcases hn g o v hv with hv|hv
  ·exact h.rdn g o v hv
  ·exact .inr (.inl (zr h.fr.size hv))
 ·obtain ⟨h1',h2',_⟩:=h.home hp hg
  refine ⟨hb.block g h1',fun o=>?_⟩
  cases hv:rd' g o with
  | none=>rfl
  | some v=>
   rcases hn g o v hv with hv|hv
   ·rw [h2' o] at hv;cases hv
   ·omega
theorem Mem.below (h:Mem c rd mp st nx w) (hb:Below w.heap.size w w'):Mem c rd mp st nx w':=
 h.more hb (Rd.le.refl _) (fun g o v hv=>(hb.cell (p:=⟨g,o,none⟩) (World.block_lt_of_cell? w _ (h.rdw g o v hv))).trans (h.rdw g o v hv)) h.rd1 (fun _ _ _ hv=>.inl hv)
def Rd.add (rd:Rd) (g:Nat) (vs:Array Value):Rd:=fun b o=>if b=g then vs[o]? else rd b o
theorem Rd.le_add (h:Mem c rd mp st nx w) (vs:Array Value):Rd.le rd (rd.add w.heap.size vs):=by
 intro g o v hv
 have:=h.rd_lt (g:=g) (o:=o) (by rw [hv];simp)
 simp only [Rd.add]
 rw [ze (by omega)]
 exact hv
theorem Mem.newRo (h:Mem c rd mp st nx w) (vs:Array Value) (ty:TypeId) (h1:∀ v∈vs,v.oneCell'=true) :
  Mem c (rd.add w.heap.size vs) mp st nx (w.alloc (.cells vs ty)):=by
 refine h.more ((Below.refl _ _).alloc (zj _) _) (Rd.le_add h vs) (fun g o v hv=>?_) (fun g o v hv=>?_) (fun g o v hv=>?_)
 ·simp only [Rd.add] at hv
  by_cases hg:g=w.heap.size
  ·subst hg
   rw [za rfl] at hv
   rw [cell_of_row _ _ _ vs ty (0,0) (heap_alloc_new w _)]
   exact hv
  ·rw [ze hg] at hv
   have:=h.rdw g o v hv
   exact (World.cell?_of_block (a:=⟨g,o,none⟩) (heap_alloc_old w _ (World.block_lt_of_cell? w _ this))).trans this
 ·simp only [Rd.add] at hv
  by_cases hg:g=w.heap.size
  ·rw [za hg] at hv;exact h1 v (Array.mem_of_getElem? hv)
  ·rw [ze hg] at hv;exact h.rd1 g o v hv
 ·simp only [Rd.add] at hv
  by_cases hg:g=w.heap.size
  ·exact .inr (by omega)
  ·rw [ze hg] at hv;exact .inl hv
def Mp.addBlk (mp:Mp) (id g:Nat):Mp:=⟨fun i=>if i=id then some g else mp.blk i,mp.row⟩
def Mp.setRow (mp:Mp) (r i:Nat) (v:Value) (e n:Nat):Mp:=⟨mp.blk,fun r' i'=>if r'=r∧i'=i then some (v,e,n) else mp.row r' i'⟩
theorem Mp.le_addBlk {id g:Nat} (h:mp.blk id=Option.none):Mp.le mp (mp.addBlk id g):=
 ⟨fun i g' hi=>by
  simp only [Mp.addBlk]
  rw [ze (by rintro rfl;rw [h] at hi;cases hi)]
  exact hi,fun _ _ v e n h=>⟨v,e,n,h,.inr ⟨rfl,.inr ⟨rfl,rfl⟩⟩⟩⟩
theorem Mp.le_setRow {r i:Nat} {v:Value} {e n:Nat} (h:∀ v0 e0 n0,mp.row r i=some (v0,e0,n0)→e0<e∨(e0=e∧(n0<n∨(n0=n∧v0=v)))):Mp.le mp (mp.setRow r i v e n):=
 ⟨fun _ _ h=>h,fun r' i' v0 e0 n0 hr=>by
  simp only [Mp.setRow]
  by_cases hid:r'=r∧i'=i
  ·obtain ⟨rfl,rfl⟩:=hid
   exact ⟨v,e,n,by simp,h v0 e0 n0 hr⟩
  ·exact ⟨v0,e0,n0,by rw [ze hid];exact hr,.inr ⟨rfl,.inr ⟨rfl,rfl⟩⟩⟩⟩
theorem qjx {k:Nat} {x:SO} {r i:Nat} {R:RowV} (h:IsMem ((k,x)::st) r i R) (hk:k≠r):IsMem st r i R:=by
 cases h with
 | row h=>rw [qh,ze hk] at h;exact .row h
 | fam h hi=>rw [qh,ze hk] at h;exact .fam h hi
theorem qrt (h:Mem c rd mp st nx w) {r i:Nat} {R:RowV} (hR:IsMem st r i R):¬ c.fre nx r:=by
 cases hR with
 | row hl=>exact h.ids _ _ hl
 | fam hl _=>exact h.ids _ _ hl
theorem There.lt (h:Mem c rd mp st nx w) {p:Pl} (hp:There st p):¬ c.fre nx (match p with | .bx b=>b | .rw r _=>r):=by
 cases p with
 | bx b=>obtain ⟨ty,cs,hl⟩:=hp;exact h.ids _ _ hl
 | rw r i=>obtain ⟨R,hR⟩:=hp;exact qrt h hR
theorem Mem.newAt (h:Mem c rd mp st nx w) (hsup:Sup c nx) (vs:Array Value) (ty:TypeId) (ob:Obj) (cs:List AV) (hob:HeapIs (w.alloc ob) w.heap.size ty vs)
  (hs:vs.size=cs.length) (hv:∀ (j:Nat) x v,cs[j]?=some x→vs[j]?=some v→Rel rd mp x v) :
  Mem c rd (mp.addBlk nx w.heap.size) ((nx,.box ty cs)::st) (nx+1) (w.alloc ob):=by
 have hle:Mp.le mp (mp.addBlk nx w.heap.size):=Mp.le_addBlk (h.fresh nx hsup.here).1
 have hb:Below w.heap.size w (w.alloc ob):=(Below.refl _ _).alloc (zj _) _
 have h':=h.below hb
 have hnew:∀ o,rd w.heap.size o=none:=by
  intro o
  cases hv:rd w.heap.size o with
  | none=>rfl
  | some v=>exact absurd (h.rd_lt (g:=w.heap.size) (o:=o) (by rw [hv];simp)) (by omega)
 refine h.upd (some (.bx nx)) (Rd.le.refl _) hle h'.fr h'.rdw h'.rd1 h'.rdn (fun b ty' cs' hl hne=>?_) (fun r i R hR _=>?_) (fun p hp hne=>⟨?_,fun g hg=>?_⟩) (fun b ty' cs' ht hl=>?_) (fun r i R ht=>by cases ht)
  (fun p g ht _ hg q hq hne=>?_) (fun i hi=>?_) (fun i x hx=>?_) (fun r e sz cnt ep len f hl=>?_) (fun r sz ep n f hl=>?_)
 ·rw [qh,ze (by rintro rfl;exact hne rfl)] at hl
  exact hl
 ·by_cases hk:nx=r
  ·subst hk
   cases hR with
   | row hl=>rw [qh,za rfl] at hl;cases hl
   | fam hl _=>rw [qh,za rfl] at hl;cases hl
  ·exact qjx hR hk
 ·cases p with
  | bx b=>
   have:b≠nx:=by rintro rfl;exact hne rfl
   simp [bindEq,Mp.addBlk,this]
  | rw r i=>rfl
 ·obtain ⟨h1,h2,_⟩:=h.home hp hg
  exact ⟨hb.block g h1,h2⟩
 ·cases ht
  rw [qh,za rfl] at hl
  cases hl
  exact ⟨w.heap.size,vs,by simp [Mp.addBlk],hob,hs,fun j x v hx hv'=>(hv j x v hx hv').mono (Rd.le.refl _) hle,hnew,.inl h.fr.size⟩
 ·cases ht
  simp [blkOf,Mp.addBlk] at hg
  subst hg
  intro hq'
  have:=(h.home hq hq').1
  omega
 ·have:=h.fresh i (hsup.next i hi).1
  simp only [Mp.addBlk]
  rw [ze (hsup.next i hi).2]
  exact this
 ·rw [qh] at hx
  by_cases h1:nx=i
  ·subst h1;exact fun hf=>(hsup.next _ hf).2 rfl
  ·rw [ze h1] at hx
   exact fun hf=>h.ids i x hx (hsup.next i hf).1
 ·rw [qh] at hl
  by_cases h1:nx=r
  ·rw [za h1] at hl;cases hl
  ·rw [ze h1] at hl
   exact h.out r e sz cnt ep len f hl
 ·rw [qh] at hl
  by_cases h1:nx=r
  ·rw [za h1] at hl;cases hl
  ·rw [ze h1] at hl
   exact ⟨hl,rfl⟩
theorem Mem.newBox (h:Mem c rd mp st nx w) (hsup:Sup c nx) (vs:Array Value) (ty:TypeId) (cs:List AV) (hty:ty≠mapTy)
  (hs:vs.size=cs.length) (hv:∀ (j:Nat) x v,cs[j]?=some x→vs[j]?=some v→Rel rd mp x v) :
  Mem c rd (mp.addBlk nx w.heap.size) ((nx,.box ty cs)::st) (nx+1) (w.alloc (.cells vs ty)):=
 h.newAt hsup vs ty _ cs (.inl ⟨hty,heap_alloc_new w _⟩) hs hv
theorem Mem.newMap (h:Mem c rd mp st nx w) (hsup:Sup c nx):Mem c rd (mp.addBlk nx w.heap.size) ((nx,.box mapTy [.keys []])::st) (nx+1) (w.alloc (.map #[] 0)):=
 h.newAt hsup #[.tuple #[]] mapTy _ [.keys []] (.inr ⟨rfl,#[],0,heap_alloc_new w _,.inl (by simp)⟩) rfl (fun j x v hx hv=>by
  match j,hx,hv with
  | 0,hx,hv=>cases hx;cases hv;exact .keys _ []
  | j+1,hx,hv=>cases hx)
theorem qd (st:List (Nat × SO)) (id:Nat) (o:SO) (i:Nat):look (setSt st id o) i=if i=id then (look st i).map (fun _=>o) else look st i:=by
 induction st with
 | nil=>simp [setSt,look]
 | cons p r ih=>
  obtain ⟨k,v⟩:=p
  simp only [setSt]
  by_cases hk:k=id
  ·subst hk
   simp only [Nat.beq_refl,cond_true,qh]
   by_cases hi:i=k
   ·subst hi;simp
   ·simp [hi,Ne.symm hi]
  ·have hb:Nat.beq k id=false:=by
    cases hb:Nat.beq k id with
    | false=>rfl
    | true=>exact absurd (zq hb) hk
   simp only [hb,cond_false,qh,ih]
   by_cases hi:i=id
   ·subst hi;simp [hk]
   ·simp [hi]
end
section
variable {c:Ctx} {rd rd':Rd} {mp mp':Mp} {st st':List (Nat × SO)} {nx nx':Nat} {w w':World}
theorem qru {id:Nat} {ty ty':TypeId} {cs cs':List AV} (hl:look st id=some (.box ty cs)) {r i:Nat} {R:RowV} (h:IsMem (setSt st id (.box ty' cs')) r i R):IsMem st r i R:=by
 have hne:∀ x,look (setSt st id (.box ty' cs')) r=some x→(∀ t c,x≠.box t c)→look st r=some x:=by
  intro x hx hx'
  rw [qd] at hx
  by_cases hi:r=id
  ·subst hi;rw [za rfl,hl] at hx;cases hx;exact absurd rfl (hx' _ _)
  ·rwa [ze hi] at hx
 cases h with
 | row h=>exact .row (hne _ h (by simp))
 | fam h hi=>exact .fam (hne _ h (by simp)) hi
theorem Mem.setAt (h:Mem c rd mp st nx w) {id:Nat} {ty:TypeId} {cs cs':List AV} (hl:look st id=some (.box ty cs)) {b:Nat} (hb:mp.blk id=some b) {w':World} {vs':Array Value}
  (hos:w'.os=w.os) (htape:w'.tape=w.tape) (hout:w'.output=w.output) (hsz:w'.heap.size=w.heap.size) (hblk:∀ k,k≠b→w'.heap[k]?=w.heap[k]?) (hnew:HeapIs w' b ty vs') (hs':vs'.size=cs'.length)
  (hr':∀ (j:Nat) x v,cs'[j]?=some x→vs'[j]?=some v→Rel rd mp x v) :
  Mem c rd mp (setSt st id (.box ty cs')) nx w':=by
 obtain ⟨b',vs,h1,h2,h3,h4,h5,h6⟩:=h.bx id _ _ hl
 rw [hb] at h1;cases h1
 have hne:∀ p,There st p→some p≠some (Pl.bx id)→∀ g,blkOf mp p=some g→g≠b:=by
  intro p hp hne g hg e
  subst e
  exact hne (congrArg some (h.inj p (.bx id) g hp ⟨ty,cs,hl⟩ hg hb))
 refine h.upd (some (.bx id)) (Rd.le.refl _) (Mp.le.refl _) ⟨hos.trans h.fr.os,htape.trans h.fr.tape,hout.trans h.fr.output,by rw [hsz];exact h.fr.size,fun k hk hf=>?_⟩ ?_ h.rd1 h.rdn (fun b' ty' cs' hl' hne'=>?_) (fun r i R hR _=>qru hl hR)
  (fun p hp hp'=>⟨by cases p <;> rfl,fun g hg=>⟨hblk g (hne p hp hp' g hg),(h.home hp hg).2.1⟩⟩) (fun b' ty' cs' ht hl'=>?_) (fun r i R ht=>by cases ht)
  (fun p g ht _ hg q hq hq' hg'=>?_) h.fresh (fun i y hy=>?_) (fun r e sz cnt ep len f hl'=>?_) (fun r sz ep n f hl'=>?_)
 ·by_cases hkb:k=b
  ·subst hkb
   rcases h6 with h6|h6
   ·omega
   ·exact absurd h6 hf
  ·rw [hblk k hkb];exact h.fr.block k hk hf
 ·intro g o u hu
  have hg:g≠b:=by rintro rfl;rw [h5 o] at hu;cases hu
  exact (World.cell?_of_block (a:=⟨g,o,none⟩) (hblk g hg)).trans (h.rdw g o u hu)
 ·rw [qd,ze (by rintro rfl;exact hne' rfl)] at hl'
  exact hl'
 ·cases ht
  rw [qd,za rfl,hl] at hl'
  cases hl'
  exact ⟨b,_,hb,hnew,hs',hr',h5,h6⟩
 ·cases ht
  simp only [blkOf,hb] at hg
  cases hg
  exact hne q hq hq' b hg' rfl
 ·rw [qd] at hy
  by_cases hid:i=id
  ·subst hid;exact h.ids i _ hl
  ·rw [ze hid] at hy;exact h.ids i y hy
 ·rw [qd] at hl'
  by_cases hid:r=id
  ·subst hid;rw [za rfl,hl] at hl';cases hl'
  ·rw [ze hid] at hl';exact h.out r e sz cnt ep len f hl'
 ·rw [qd] at hl'
  by_cases hid:r=id
  ·subst hid;rw [za rfl,hl] at hl';cases hl'
  ·rw [ze hid] at hl';exact ⟨hl',rfl⟩
theorem Mem.storeBox (h:Mem c rd mp st nx w) {id:Nat} {ty:TypeId} (hty:ty≠mapTy) {cs:List AV} (hl:look st id=some (.box ty cs))
  {b:Nat} (hb:mp.blk id=some b) (off:Nat) (x:AV) (v:Value) (hr:Rel rd mp x v) :
  Mem c rd mp (setSt st id (.box ty (cs.set off x))) nx (w.setCell ⟨b,off,none⟩ v):=by
 obtain ⟨b',vs,h1,h2,h3,h4,h5,h6⟩:=h.bx id _ _ hl
 rw [hb] at h1;cases h1
 have h2:=h2.cells hty
 have hnew:(w.setCell ⟨b,off,none⟩ v).heap[b]?=some (.cells (vs.setIfInBounds off v) ty (0,0)):=by
  simp [World.setCell,zbl,h2]
 refine h.setAt hl hb (vs':=vs.setIfInBounds off v) rfl rfl rfl (by simp [World.setCell]) (fun k hk=>Below.heap_setCell w ⟨b,off,none⟩ v k hk) (.inl ⟨hty,hnew⟩) (by simpa using h3) (fun j x' v' hx hv=>?_)
 by_cases hj:off=j
 ·subst hj
  rw [zbb] at hx
  simp at hx
  rw [Array.getElem?_setIfInBounds] at hv
  simp at hv
  obtain ⟨_,rfl⟩:=hx
  obtain ⟨_,rfl⟩:=hv
  exact hr
 ·rw [List.getElem?_set_ne hj] at hx
  rw [zaw hj] at hv
  exact h4 j x' v' hx hv
theorem qza (hs:∀ i x,look st' i=some x→look st i=some x) {r i:Nat} {R:RowV} (h:IsMem st' r i R):IsMem st r i R:=by
 cases h with
 | row h=>exact .row (hs _ _ h)
 | fam h hi=>exact .fam (hs _ _ h) hi
theorem Mem.forget (h:Mem c rd mp st nx w) (hs:∀ i x,look st' i=some x→look st i=some x):Mem c rd mp st' nx w:=
 h.upd none (Rd.le.refl _) (Mp.le.refl _) h.fr h.rdw h.rd1 h.rdn (fun b ty cs hl _=>hs _ _ hl) (fun r i R hR _=>qza hs hR) (fun p hp _=>⟨by cases p <;> rfl,fun g hg=>⟨rfl,(h.home hp hg).2.1⟩⟩)
  (fun b ty cs ht=>by cases ht) (fun r i R ht=>by cases ht) (fun p g ht=>by cases ht) h.fresh (fun i x hx=>h.ids i x (hs i x hx)) (fun r e sz cnt ep len f hl=>h.out r e sz cnt ep len f (hs _ _ hl)) (fun _ _ _ _ _ hl=>⟨hs _ _ hl,rfl⟩)
theorem Mem.setMem (h:Mem c rd mp st nx w) (r i:Nat) (R:RowV) (v:Value) (xs:List Value)
  (old:Option Nat) (hold:∀ p,There st p→some p≠some (Pl.rw r i)→∀ g,blkOf mp p=some g→some g≠old) (holdrd:∀ g,old=some g→(c.w0.heap.size≤g∨c.fx g)∧∀ o,rd g o=none)
  (hmp:∀ v0 e0 n0,mp.row r i=some (v0,e0,n0)→e0<R.ep∨(e0=R.ep∧(n0<R.n∨(n0=R.n∧v0=v))))
  (hg:w.grownBy w' old) (hown:Owns w' R.e R.sz v R.n xs) (hat:v.ownBlock=old∨∃ g,v.ownBlock=some g∧w.heap.size≤g)
  (hf:∀ k,k<R.n→(R.f k).length=R.sz) (hx:∀ (k j:Nat) x,k<R.n→(R.f k)[j]?=some x→∃ u,xs[k * R.sz+j]?=some u∧u.oneCell'=true∧Rel rd (mp.sel R.ids) x u)
  (hb:∀ b ty cs,look st' b=some (.box ty cs)→look st b=some (.box ty cs))
  (hm:∀ r' i' R',IsMem st' r' i' R'→(r'=r∧i'=i∧R'=R)∨(¬ (r'=r∧i'=i)∧IsMem st r' i' R')) (hnx:∀ i,c.fre nx' i→c.fre nx i) (hids:∀ i x,look st' i=some x→¬ c.fre nx' i)
  (hrn:¬ c.fre nx' r) (hout:∀ r' e sz cnt ep len f,look st' r'=some (.fam e sz cnt ep len f)→∀ i',cnt≤i'→(mp.setRow r i v R.ep R.n).row r' i'=none)
  (hro:∀ r' sz ep n f,look st' r'=some (.ro sz ep n f)→r'≠r∧look st r'=some (.ro sz ep n f)) :
  Mem c rd (mp.setRow r i v R.ep R.n) st' nx' w':=by
 have hle:Mp.le mp (mp.setRow r i v R.ep R.n):=Mp.le_setRow hmp
 have hblk:∀ k,k<w.heap.size→some k≠old→w'.heap[k]?=w.heap[k]?:=fun k hk hne=>hg.block k hk hne
 have hrow:(mp.setRow r i v R.ep R.n).row r i=some (v,R.ep,R.n):=by simp [Mp.setRow]
 refine h.upd (some (.rw r i)) (Rd.le.refl _) hle ⟨hg.os.trans h.fr.os,hg.tape.trans h.fr.tape,hg.output.trans h.fr.output,zr h.fr.size hg.size,fun k hk hf'=>?_⟩ (fun g o u hu=>?_) h.rd1 h.rdn (fun b ty cs hl _=>hb b ty cs hl)
  (fun r' i' R' hR hne=>?_) (fun p hp hne=>⟨?_,fun g hgp=>?_⟩) (fun b ty cs ht=>by cases ht) (fun r' i' R' ht hR=>?_) (fun p g ht _ hgp q hq hne hgq=>?_) (fun j hj=>?_) hids hout (fun r' sz ep n f hl=>⟨(hro r' sz ep n f hl).2,by simp only [Mp.setRow];rw [ze (fun h=>(hro r' sz ep n f hl).1 h.1)]⟩)
 ·have hne:some k≠old:=fun eq=>by
   rcases (holdrd k eq.symm).1 with h1|h1
   ·omega
   ·exact hf' h1
  rw [hblk k (zbe hk h.fr.size) hne]
  exact h.fr.block k hk hf'
 ·have hlt:=h.rd_lt (g:=g) (o:=o) (by rw [hu];simp)
  have hne:some g≠old:=fun eq=>by have:=(holdrd g eq.symm).2 o;rw [hu] at this;cases this
  exact (World.cell?_of_block (a:=⟨g,o,none⟩) (hblk g hlt hne)).trans (h.rdw g o u hu)
 ·rcases hm r' i' R' hR with ⟨rfl,rfl,_⟩|⟨_,hR'⟩
  ·exact absurd rfl hne
  ·exact hR'
 ·cases p with
  | bx b=>rfl
  | rw r' i'=>
   have:¬ (r'=r∧i'=i):=by rintro ⟨rfl,rfl⟩;exact hne rfl
   simp [bindEq,Mp.setRow,this]
 ·obtain ⟨h1,h2,_⟩:=h.home hp hgp
  exact ⟨hblk g h1 (hold p hp hne g hgp),h2⟩
 ·simp only [Option.some.injEq,Pl.rw.injEq] at ht
  obtain ⟨rfl,rfl⟩:=ht
  rcases hm r i R' hR with ⟨_,_,rfl⟩|⟨hne,_⟩
  ·refine ⟨v,xs,hrow,hown,hf,fun k j x hk hxx=>?_,fun g hgv=>?_⟩
   ·obtain ⟨u,hu,hu1,hu2⟩:=hx k j x hk hxx
    exact ⟨u,hu,hu1,hu2.mono (Rd.le.refl _) (Mp.sel_mono hle _)⟩
   ·rcases hat with hat|⟨g',hat,hge⟩
    ·exact ⟨(holdrd g (by rw [← hat];exact hgv)).2,(holdrd g (by rw [← hat];exact hgv)).1⟩
    ·rw [hgv] at hat
     cases hat
     refine ⟨fun o=>?_,.inl (zr h.fr.size hge)⟩
     cases hro:rd g o with
     | none=>rfl
     | some u=>exact absurd (h.rd_lt (g:=g) (o:=o) (by rw [hro];simp)) (by omega)
  ·exact absurd ⟨rfl,rfl⟩ hne
 ·cases ht
  simp only [blkOf,hrow,Option.bind_some] at hgp
  rcases hat with hat|⟨g',hat,hge⟩
  ·exact hold q hq hne g hgq (by rw [← hat];exact hgp.symm)
  ·rw [hgp] at hat
   cases hat
   have:=(h.home hq hgq).1
   omega
 ·have:=h.fresh j (hnx j hj)
  refine ⟨this.1,fun k=>?_⟩
  simp only [Mp.setRow]
  rw [ze (by rintro ⟨rfl,_⟩;exact hrn hj)]
  exact this.2 k
theorem Mem.mem_alone (h:Mem c rd mp st nx w) {r i:Nat} {R:RowV} (hR:IsMem st r i R)
  {v:Value} {e n:Nat} (hv:mp.row r i=some (v,e,n)):∀ p,There st p→some p≠some (Pl.rw r i)→∀ g,blkOf mp p=some g→some g≠v.ownBlock:=by
 intro p hp hne g hg he
 exact hne (congrArg some (h.inj p (.rw r i) g hp ⟨R,hR⟩ hg (by simp [blkOf,hv,he])))
def AV.lt0 (n:Nat):AV→Bool
 | .own r ..=>Nat.ble (r+1) n
 | .ptr b _=>Nat.ble (b+1) n
 | .mapv b=>Nat.ble (b+1) n
 | .sub r ..=>Nat.ble (r+1) n
 | .mvals r _=>Nat.ble (r+1) n
 | .bfn _ b=>Nat.ble (b+1) n
 | .eptr r ..=>Nat.ble (r+1) n
 | .agg .. | .tup .. | .fn .. | .cnd .. | .ifc ..=>false
 | _=>true
def AV.lt1 (n:Nat):AV→Bool
 | .fn _ cs=>cs.all (AV.lt0 n)
 | x=>x.lt0 n
def AV.ltA (n:Nat):AV→Bool
 | .agg cs=>cs.all (AV.lt1 n)
 | .fn _ cs=>cs.all (AV.lt1 n)
 | x=>x.lt1 n
def AV.lt (n:Nat):AV→Bool
 | .tup vs=>vs.all (AV.ltA n)
 | x=>x.ltA n
def Mp.restrict (mp:Mp) (n:Nat):Mp:=⟨fun i=>if i<n then mp.blk i else Option.none,fun r i=>if r<n then mp.row r i else Option.none⟩
theorem Rel.lt0 {n:Nat} {x:AV} {v:Value} (h:Rel rd mp x v) (hp:x.lt0 n=true):Rel rd (mp.restrict n) x v:=by
 cases h with
 | own _ r i e m v vr er nr hr he hn hv hsl=>
  have hl:r<n:=by simp [AV.lt0,zx] at hp;omega
  exact .own _ _ _ _ _ _ vr er nr (by simp [Mp.restrict,hl,hr]) he hn hv hsl
 | ptr _ b off blk hb=>
  have hl:b<n:=by simp [AV.lt0,zx] at hp;omega
  exact .ptr _ _ _ _ (by simp [Mp.restrict,hl,hb])
 | mapv _ b g hb=>
  have hl:b<n:=by simp [AV.lt0,zx] at hp;omega
  exact .mapv _ _ _ (by simp [Mp.restrict,hl,hb])
 | bfn _ f b g hb=>
  have hl:b<n:=by simp [AV.lt0,zx] at hp;omega
  exact .bfn _ _ _ _ (by simp [Mp.restrict,hl,hb])
 | sub _ r i e m sz a k v vr er nr hr he hn hv hsl=>
  have hl:r<n:=by simp [AV.lt0,zx] at hp;omega
  exact .sub _ _ _ _ _ _ _ _ _ vr er nr (by simp [Mp.restrict,hl,hr]) he hn hv hsl
 | mvals _ r l vs hs he=>
  have hl:r<n:=by simp [AV.lt0,zx] at hp;omega
  refine .mvals _ _ _ _ hs (fun j i e m v hx hv=>?_)
  cases he j i e m v hx hv with
  | own _ _ _ _ _ _ vr er nr hr he hn hv hsl=>exact .own _ _ _ _ _ _ vr er nr (by simp [Mp.restrict,hl,hr]) he hn hv hsl
 | eptr _ r i e m sz k off v vr er nr hr he hn hv=>
  have hl:r<n:=by simp [AV.lt0,zx] at hp;omega
  exact .eptr _ _ _ _ _ _ _ _ _ vr er nr (by simp [Mp.restrict,hl,hr]) he hn hv
 | _=>first
  | (simp [AV.lt0] at hp;done)
  | (constructor <;> assumption)
  | constructor
theorem Rel.lt1 {n:Nat} {x:AV} {v:Value} (h:Rel rd mp x v) (hp:x.lt1 n=true):Rel rd (mp.restrict n) x v:=by
 have h':=h
 cases h with
 | fn _ f cs vs hs he=>
  refine .fn _ _ _ _ hs (fun j x v hx hv=>(he j x v hx hv).lt0 ?_)
  simp only [AV.lt1,zak] at hp
  exact hp x (zp hx)
 | _=>exact h'.lt0 hp
theorem Rel.ltA {n:Nat} {x:AV} {v:Value} (h:Rel rd mp x v) (hp:x.ltA n=true):Rel rd (mp.restrict n) x v:=by
 have h':=h
 cases h with
 | agg _ cs vs hs he=>
  refine .agg _ _ _ hs (fun j x v hx hv=>(he j x v hx hv).lt1 ?_)
  simp only [AV.ltA,zak] at hp
  exact hp x (zp hx)
 | fn _ f cs vs hs he=>
  refine .fn _ _ _ _ hs (fun j x v hx hv=>(he j x v hx hv).lt1 ?_)
  simp only [AV.ltA,zak] at hp
  exact hp x (zp hx)
 | _=>exact h'.lt1 hp
theorem Rel.lt {n:Nat} {x:AV} {v:Value} (h:Rel rd mp x v) (hp:x.lt n=true):Rel rd (mp.restrict n) x v:=by
 have h':=h
 cases h with
 | tup _ cs vs hs he=>
  refine .tup _ _ _ hs (fun j x v hx hv=>(he j x v hx hv).ltA ?_)
  simp only [AV.lt,zak] at hp
  exact hp x (zp hx)
 | _=>exact h'.ltA hp
def SO.lt (n:Nat):SO→Bool
 | .box _ cs=>cs.all (AV.lt1 n)
 | .row ids ..=>ids.all fun r=>Nat.ble (r+1) n
 | .fam ..=>true
 | .ro ..=>true
def stLt (n:Nat) (st:List (Nat × SO)):Bool:=st.all fun p=>Nat.ble (p.1+1) n && p.2.lt n
theorem qby {α:Type} {l:List (Nat × α)} {i:Nat} {x:α} (h:look l i=some x):(i,x)∈l:=by
 induction l with
 | nil=>simp [look] at h
 | cons p r ih=>
  obtain ⟨k,v⟩:=p
  rw [qh] at h
  by_cases hk:k=i
  ·subst hk;rw [za rfl] at h;cases h;simp
  ·rw [ze hk] at h;simp [ih h]
theorem Mp.le_restrict {b:Mp} {n:Nat} (h:Mp.le b mp) (hn:∀ i,n≤i→b.blk i=Option.none∧∀ j,b.row i j=Option.none):Mp.le b (mp.restrict n):=by
 refine ⟨fun i g hi=>?_,fun r i v e k hr=>?_⟩
 ·by_cases hl:i<n
  ·simp only [Mp.restrict,za hl];exact h.blk i g hi
  ·rw [(hn i (by omega)).1] at hi;cases hi
 ·by_cases hl:r<n
  ·simp only [Mp.restrict,za hl];exact h.row r i v e k hr
  ·rw [(hn r (by omega)).2 i] at hr;cases hr
theorem Mp.restrict_sel {n:Nat} {ids:List Nat} (h:ids.all (fun r=>Nat.ble (r+1) n)=true):(mp.restrict n).sel ids=mp.sel ids:=by
 simp only [Mp.sel,Mp.restrict,Mp.mk.injEq,true_and]
 funext r i
 by_cases hr:r∈ids
 ·have:=List.all_eq_true.1 h r hr
  simp only [zx] at this
  rw [za hr,za hr,za (by omega)]
 ·rw [ze hr,ze hr]
theorem Mem.restrict {n:Nat} (h:Mem c rd mp st nx w) (hstd:c.fre=stdF) (hl:stLt n st=true):Mem c rd (mp.restrict n) st n w:=by
 have hid:∀ i x,look st i=some x→i<n∧x.lt n=true:=by
  intro i x hx
  have:=(List.all_eq_true.1 hl) _ (qby hx)
  simp only [zh,zx] at this
  exact ⟨by omega,this.2⟩
 have hmem:∀ r i R,IsMem st r i R→r<n∧R.ids.all (fun r=>Nat.ble (r+1) n)=true:=by
  intro r i R hR
  cases hR with
  | row hl=>exact ⟨(hid _ _ hl).1,(hid _ _ hl).2⟩
  | fam hl _=>exact ⟨(hid _ _ hl).1,rfl⟩
 have hblk:∀ p,There st p→blkOf (mp.restrict n) p=blkOf mp p:=by
  intro p hp
  cases p with
  | bx b=>
   obtain ⟨ty,cs,hl⟩:=hp
   simp [blkOf,Mp.restrict,(hid _ _ hl).1]
  | rw r i=>
   obtain ⟨R,hR⟩:=hp
   simp [blkOf,Mp.restrict,(hmem _ _ _ hR).1]
 refine ⟨h.rdw,h.rd1,h.rdn,h.fr,fun b ty cs hlk=>?_,fun r i R hR=>?_,fun p q g hp hq hgp hgq=>?_,fun i hi=>?_,fun i x hx=>by rw [hstd];simp only [stdF,Nat.not_le];exact (hid i x hx).1,fun r e sz cnt ep len f hlk i hi=>?_,fun r sz ep n' f hlk=>?_,h.tab⟩
 ·obtain ⟨g,vs,h1,h2,h3,h4,h5,h6⟩:=h.bx b ty cs hlk
  have hi:=hid _ _ hlk
  refine ⟨g,vs,by simp [Mp.restrict,hi.1,h1],h2,h3,fun j x v hx' hv=>(h4 j x v hx' hv).lt1 ?_,h5,h6⟩
  exact List.all_eq_true.1 hi.2 x (zp hx')
 ·obtain ⟨v,xs,h1,h2,h3,h4,h5⟩:=h.mb r i R hR
  have hi:=hmem r i R hR
  refine ⟨v,xs,by simp [Mp.restrict,hi.1,h1],h2,h3,fun k j x hk hx=>?_,h5⟩
  rw [Mp.restrict_sel hi.2]
  exact h4 k j x hk hx
 ·rw [hblk p hp] at hgp
  rw [hblk q hq] at hgq
  exact h.inj p q g hp hq hgp hgq
 ·rw [hstd] at hi;simp only [stdF] at hi;simp [Mp.restrict,Nat.not_lt.2 hi]
 ·have:=h.out r e sz cnt ep len f hlk i hi
  simp [Mp.restrict,this]
 ·obtain ⟨v,h1,h2⟩:=h.ro r sz ep n' f hlk
  exact ⟨v,by simp [Mp.restrict,(hid _ _ hlk).1,h1],h2⟩
end
end Go.Sx
end
section
namespace Go.Sx
open Go Go.RowKit
universe u
def frcN {α:Sort u} (n:Nat) (K:Nat→α):α:=
 match n with
 | 0=>K 0
 | m+1=>match m with
  | 0=>K (0+1)
  | k+1=>K (k+1+1)
theorem qu {α:Sort u} (n:Nat) (K:Nat→α):frcN n K=K n:=by
 cases n with
 | zero=>rfl
 | succ m=>cases m <;> rfl
def frc1 {α:Sort u} (v:AV) (K:AV→α):α:=
 match v with
 | .any=>K .any
 | .int k n=>K (.int k n)
 | .bool b=>K (.bool b)
 | .str l=>K (.str l)
 | .nils=>K .nils
 | .slc sz n f=>K (.slc sz n f)
 | .own r i e n=>frcN r fun r=>K (.own r i e n)
 | .ptr b o=>frcN b fun b=>K (.ptr b o)
 | .eptr r i e n sz k o=>K (.eptr r i e n sz k o)
 | .mapv b=>K (.mapv b)
 | .sub r i e n sz a m=>K (.sub r i e n sz a m)
 | .mvals r l=>K (.mvals r l)
 | .ifc t v=>K (.ifc t v)
 | .nili=>K .nili
 | .rptr cs=>K (.rptr cs)
 | .nilp=>K .nilp
 | .agg cs=>K (.agg cs)
 | .tup vs=>K (.tup vs)
 | .fn f cs=>K (.fn f cs)
 | .bfn f b=>frcN b fun b=>K (.bfn f b)
 | .keys ks=>K (.keys ks)
 | .cnd b v=>K (.cnd b v)
theorem qrv {α:Sort u} (v:AV) (K:AV→α):frc1 v K=K v:=by cases v <;> simp only [frc1,qu]
def qde {α:Sort u}:List AV→(List AV→α)→α
 | [],K=>K []
 | x::xs,K=>frc1 x fun x'=>qde xs fun xs'=>K (x'::xs')
theorem qcr {α:Sort u}:∀ (xs:List AV) (K:List AV→α),qde xs K=K xs
 | [],_=>rfl
 | x::xs,K=>by simp only [qde,qrv];exact qcr xs _
inductive Kd where
 | int (k:IntKind)|bool|str|slice (e:TypeId)|struct (fs:List (Nat × TypeId))|array (n:Nat) (e:TypeId)|ptr (e:TypeId)|map (k e:TypeId)|other
structure TI where
 kd:Kd
 size:Nat
 bytes:Nat
 zero:List AV
 cmp:Bool
def qcs:Value→AV
 | .int k n=>.int k n
 | .bool b=>.bool b
 | .string s=>.str s.data.toList
 | .slice none 0 0=>.nils
 | .pointer none=>.nilp
 | _=>.any
def qjy:Value→AV
 | .agg cs=>.agg (cs.toList.map qcs)
 | v=>qcs v
def kdOf:TypeDesc→Kd
 | .int k=>.int k
 | .bool=>.bool
 | .string=>.str
 | .slice e=>.slice e
 | .struct fs=>.struct (fs.toList.map fun f=>(f.offset,f.type))
 | .array n e=>.array n e
 | .pointer e=>.ptr e
 | .map k e=>.map k e
 | _=>.other
def qfd (i:TypeInfo):List AV:=
 match i.zero with
 | some z=>z.cells.toList.map qcs
 | none=>[]
def qjz (P:Program) (t:TypeId):TypeDesc→Bool
 | .struct fs => !P.stoodInHeld t && !P.eqGuardType P.depth t && fs.toList.all fun f => f.name != "_"
 | _=>false
def tab (P:Program) (t:TypeId):TI:=
 match P.info? t,P.underlying t with
 | some i,some d=>⟨kdOf d,i.size,i.bytes,qfd i,qjz P t d⟩
 | _,_=>⟨.other,0,0,[],false⟩
structure Cfg where
 wraps:List Nat:=[]
 owns:List (Nat × (TypeId × Nat)):=[]
 cuts:List Nat:=[]
 subs:List Nat:=[]
 lit:Bool:=false
 stops:List Nat:=[]
def inR (k:IntKind) (n:Int):Prop:=k.min≤n∧n≤k.max
structure DP where
 p:Prop
 b:Bool
 h:b=true→p
def dp (p:Prop) [Decidable p]:DP:=⟨p,decide p,zaa⟩
instance (k:IntKind) (n:Int):Decidable (inR k n):=inferInstanceAs (Decidable (k.min≤n∧n≤k.max))
def strip (st:List (Nat × SO)):AV→AV
 | .cnd _ v=>v
 | .own r i e n=>match look st r with|some (.ro sz _ _ f)=>.slc sz n f|_=>.own r i e n
 | v=>v
def qm (st:List (Nat × SO)):AV→Option DP
 | .cnd q _=>some (dp (q=true))
 | .own r i e n=>match look st r with|some (.ro _ ep m _)=>some (dp (i=0∧e=ep∧n=m))|_=>none
 | _=>none
def qka (st:List (Nat × SO)):Option AV→Option DP
 | some x=>qm st x
 | none=>none
def andO:Option DP→Option DP→Option DP
 | none,q=>q
 | some p,none=>some p
 | some ⟨p,b,h⟩,some ⟨q,c,k⟩=>some ⟨p∧q,b && c,fun e=>by simp only [zh] at e;exact ⟨h e.1,k e.2⟩⟩
def obT:Option DP→Prop
 | none=>True
 | some d=>d.p
def qdf (st:List (Nat × SO)):List AV→Option DP
 | []=>none
 | x::xs=>andO (qm st x) (qdf st xs)
theorem qv (p q:Option DP):obT (andO p q)↔obT p∧obT q:=by
 cases p <;> cases q <;> simp [andO,obT]
inductive OR where
 | ok (ob:Option DP) (v:AV)
 | mem (ob:Option DP) (v:AV) (st:List (Nat × SO)) (nx:Nat)
 | call (f:FuncId) (args:List AV)
 | bad
def ev (s:ASt):Operand→AV
 | .tmp t=>s.get t
 | .const v=>qjy v
 | .global _=>.any
 | .func f=>.fn f []
def AV.one:AV→Bool
 | .any | .agg .. | .tup .. | .cnd .. | .own .. | .eptr .. | .sub .. | .mvals .. | .ifc .. | .keys ..=>false
 | _=>true
def AV.oneOwn:AV→Bool
 | .own ..=>true
 | x=>x.one
def qaq:Kd→Bool
 | .struct _ | .array _ _=>true
 | _=>false
def qnm (l:List UInt8) (i:Int):Int:=((l.getD i.toNat 0).toNat:Int)
def qkb (C:Cfg) (dst:Option Nat):Bool:=
 match dst with
 | some d=>C.wraps.any (Nat.beq d)
 | none=>false
def qdt (wr:Bool) (k:IntKind) (n:Int):OR:=bif wr then .ok none (.int k (k.wrap n)) else .ok (some (dp (inR k n))) (.int k n)
def bitI (op:BinOp) (k:IntKind) (a b:Int):Int:=
 match op with
 | .and=>k.wrap (BitVec.ofInt k.bits a &&& BitVec.ofInt k.bits b).toNat
 | .or=>k.wrap (BitVec.ofInt k.bits a ||| BitVec.ofInt k.bits b).toNat
 | _=>k.wrap (BitVec.ofInt k.bits a ^^^ BitVec.ofInt k.bits b).toNat
def shlI (k:IntKind) (a b:Int):Int:=a * 2 ^ (min b.toNat k.bits)
def shrI (k:IntKind) (a b:Int):Int:=a.fdiv (2 ^ (min b.toNat k.bits))
def intO (wr:Bool):BinOp→IntKind→Int→Int→OR
 | .add,k,a,b=>qdt wr k (a+b)
 | .sub,k,a,b=>qdt wr k (a - b)
 | .mul,k,a,b=>qdt wr k (a * b)
 | .quo,k,a,b=>.ok (some (dp (b≠0∧inR k (a.tdiv b)))) (.int k (a.tdiv b))
 | .rem,k,a,b=>.ok (some (dp (b≠0))) (.int k (a.tmod b))
 | .and,k,a,b=>.ok none (.int k (bitI .and k a b))
 | .or,k,a,b=>.ok none (.int k (bitI .or k a b))
 | .xor,k,a,b=>.ok none (.int k (bitI .xor k a b))
 | .eql,_,a,b=>.ok none (.bool (a == b))
 | .neq,_,a,b=>.ok none (.bool (a != b))
 | .lss,_,a,b=>.ok none (.bool (decide (a<b)))
 | .leq,_,a,b=>.ok none (.bool (decide (a≤b)))
 | .gtr,_,a,b=>.ok none (.bool (decide (b<a)))
 | .geq,_,a,b=>.ok none (.bool (decide (b≤a)))
 | _,_,_,_=>.bad
def strO:BinOp→List UInt8→List UInt8→OR
 | .add,a,b=>.ok (some (dp (a.length+b.length≤9223372036854775807))) (.str (a++b))
 | .eql,a,b=>.ok none (.bool (a == b))
 | .neq,a,b=>.ok none (.bool (!(a == b)))
 | .lss,a,b=>.ok none (.bool (Op.bytesLess a b))
 | _,_,_=>.bad
def qct (T:Nat→TI):Nat→List (Nat × TypeId)→List AV→List AV→Option Bool
 | _,[],[],[]=>some true
 | i,(o,t)::fs,x::xs,y::ys=>
  bif Nat.beq o i then
   match (T t).kd,x,y with
   | .int _,.int k a,.int k' b=>bif decide (k=k') then (qct T (i+1) fs xs ys).map ((a == b) && ·) else none
   | .bool,.bool a,.bool b=>(qct T (i+1) fs xs ys).map ((a == b) && ·)
   | .str,.str a,.str b=>(qct T (i+1) fs xs ys).map ((a == b) && ·)
   | _,_,_=>none
  else none
 | _,_,_,_=>none
def aggO (T:Nat→TI) (neg:Bool) (t:TypeId) (xs ys:List AV):OR:=
 match (T t).kd with
 | .struct fs=>
  match qct T 0 fs xs ys with
  | some b=>.ok (some (dp ((T t).cmp=true))) (.bool (bif neg then !b else b))
  | none=>.bad
 | _=>.bad
def also (p:Option DP):OR→OR
 | .ok ob v=>.ok (andO p ob) v
 | .mem ob v st nx=>.mem (andO p ob) v st nx
 | _=>.bad
def binO (T:Nat→TI) (C:Cfg) (dst:Option Nat) (op:BinOp) (t:TypeId):AV→AV→OR
 | .int k a,.int k' b=>
  match op with
  | .shl=>also (some (dp (0≤b))) (qdt (qkb C dst) k (shlI k a b))
  | .shr=>.ok (some (dp (0≤b))) (.int k (shrI k a b))
  | op=>bif decide (k=k') then intO (qkb C dst) op k a b else .bad
 | .str a,.str b=>strO op a b
 | .bool a,.bool b=>
  match op,(T t).kd with
  | .eql,.bool=>.ok none (.bool (a == b))
  | .neq,.bool=>.ok none (.bool (!(a == b)))
  | _,_=>.bad
 | .agg xs,.agg ys=>
  match op with
  | .eql=>aggO T false t xs ys
  | .neq=>aggO T true t xs ys
  | _=>.bad
 | _,_=>.bad
def qhr:AV→AV→AV→OR
 | .bool p,.bool x,.bool y=>.ok none (.bool (bif p then x else y))
 | .bool p,.cnd q (.bool x),.bool y=>.ok (some (dp (p=true→q=true))) (.bool (bif p then x else y))
 | .bool p,.bool x,.cnd q (.bool y)=>.ok (some (dp (p=false→q=true))) (.bool (bif p then x else y))
 | _,_,_=>.bad
def andP:AV→AV→OR
 | .bool p,.bool x=>.ok none (.bool (p && x))
 | .bool p,.cnd q (.bool x)=>.ok (some (dp (p=true→q=true))) (.bool (p && x))
 | _,_=>.bad
def orP:AV→AV→OR
 | .bool p,.bool y=>.ok none (.bool (p || y))
 | .bool p,.cnd q (.bool y)=>.ok (some (dp (p=false→q=true))) (.bool (p || y))
 | _,_=>.bad
def unO (C:Cfg) (dst:Option Nat):UnOp→AV→OR
 | .not,.bool b=>.ok none (.bool (!b))
 | .neg,.int k n=>qdt (qkb C dst) k (0 - n)
 | _,_=>.bad
def qhs (T:Nat→TI) (t:TypeId):AV→AV→OR
 | .str l,.int _ i=>match (T t).kd with | .str=>.ok (some (dp (0≤i∧i<l.length))) (.int .u8 (qnm l i))|_=>.bad
 | .agg cs,.int _ i=>
  match (T t).kd with
  | .array n e=>bif Nat.beq (T e).size 1 && !qaq (T e).kd && Nat.beq cs.length n then .ok (some (dp (0≤i∧i<n))) (cs.getD i.toNat .any) else .bad
  | _=>.bad
 | _,_=>.bad
def qei (T:Nat→TI) (t:TypeId):AV→Option AV→Option AV→Option AV→OR
 | .str l,none,none,none=>match (T t).kd with | .str=>.ok none (.str l)|_=>.bad
 | .str l,some (.int _ a),none,none=>match (T t).kd with | .str=>.ok (some (dp (0≤a∧a≤l.length))) (.str (l.drop a.toNat))|_=>.bad
 | .str l,none,some (.int _ b),none=>match (T t).kd with | .str=>.ok (some (dp (0≤b∧b≤l.length))) (.str (l.take b.toNat))|_=>.bad
 | .str l,some (.int _ a),some (.int _ b),none=>match (T t).kd with | .str=>.ok (some (dp (0≤a∧a≤b∧b≤l.length))) (.str ((l.take b.toNat).drop a.toNat))|_=>.bad
 | .slc sz n f,some (.int _ a),none,none=>
  match (T t).kd with
  | .slice e=>bif Nat.beq (T e).size sz && Nat.ble 1 sz then .ok (some (dp (0≤a∧a≤n))) (.slc sz (n - a.toNat) (fun i=>f (a.toNat+i))) else .bad
  | _=>.bad
 | .slc sz n f,none,some (.int _ b),none=>
  match (T t).kd with
  | .slice e=>bif Nat.beq (T e).size sz && Nat.ble 1 sz then .ok (some (dp (0≤b∧b≤n))) (.slc sz b.toNat f) else .bad
  | _=>.bad
 | .slc sz n f,some (.int _ a),some (.int _ b),none=>
  match (T t).kd with
  | .slice e=>bif Nat.beq (T e).size sz && Nat.ble 1 sz then .ok (some (dp (0≤a∧a≤b∧b≤n))) (.slc sz (b.toNat - a.toNat) (fun i=>f (a.toNat+i))) else .bad
  | _=>.bad
 | _,_,_,_=>.bad
def upd {α:Type} (g:Nat→α) (i:Nat) (x:α):Nat→α:=fun j=>if j=i then x else g j
def qk (st:List (Nat × SO)) (r i:Nat):Option (Option DP × RowV):=
 match look st r with
 | some (.row ids e sz ep n f)=>bif Nat.beq i 0 then some (none,⟨ids,e,sz,ep,n,f⟩) else none
 | some (.fam e sz cnt ep len f)=>some (some (dp (i<cnt)),⟨[],e,sz,ep i,len i,f i⟩)
 | _=>none
def qo (st:List (Nat × SO)) (r i ep n:Nat) (f:Nat→List AV):List (Nat × SO):=
 match look st r with
 | some (.row ids e sz _ _ _)=>setSt st r (.row ids e sz ep n f)
 | some (.fam e sz cnt eps len fs)=>setSt st r (.fam e sz cnt (upd eps i ep) (upd len i n) (upd fs i f))
 | _=>st
def now (e n:Nat) (R:RowV):Prop:=e=R.ep∧n=R.n
def qcu (T:Nat→TI) (st:List (Nat × SO)) (t:TypeId):AV→AV→OR
 | .slc sz n f,.int _ i=>
  match (T t).kd with
  | .slice e=>bif Nat.beq (T e).size sz && Nat.ble 1 sz then .ok (some (dp (0≤i∧i<n))) (.rptr (f i.toNat)) else .bad
  | _=>.bad
 | .own r i e n,.int _ k=>
  match (T t).kd,qk st r i with
  | .slice el,some (ob,R)=>bif Nat.beq (T el).size R.sz && Nat.ble 1 R.sz then .ok (andO ob (some (dp ((e=R.ep∧n=R.n)∧0≤k∧k<n)))) (.eptr r i e n R.sz k.toNat 0) else .bad
  | _,_=>.bad
 | .ptr b o,.int _ i=>
  match (T t).kd with
  | .array n e=>bif Nat.ble 1 (T e).size then .ok (some (dp (0≤i∧i<n))) (.ptr b (o+i.toNat * (T e).size)) else .bad
  | _=>.bad
 | _,_=>.bad
def qej (T:Nat→TI) (st:List (Nat × SO)) (t:TypeId) (fi:Nat) (x:AV):OR:=
 match (T t).kd with
 | .struct fs=>
  match fs[fi]? with
  | some (off,ft)=>
   bif Nat.ble 1 (T ft).size then
    match x with
    | .ptr b o=>.ok none (.ptr b (o+off))
    | .eptr r i e n sz k o=>match qk st r i with|some (ob,R)=>.ok (andO ob (some (dp (e=R.ep∧n=R.n)))) (.eptr r i e n sz k (o+off))|_=>.bad
    | .rptr cs=>.ok none (.rptr (cs.drop off))
    | _=>.bad
   else .bad
  | none=>.bad
 | _=>.bad
def qbe (ti:TI) (cs:List AV):OR:=
 bif qaq ti.kd then (bif Nat.ble ti.size cs.length then .ok none (.agg (cs.take ti.size)) else .bad)
 else bif Nat.beq ti.size 1 then
  match cs with
  | x::_=>.ok none x
  | []=>.bad
 else .bad
def qdu (T:Nat→TI) (st:List (Nat × SO)) (t:TypeId):AV→OR
 | .rptr cs=>qbe (T t) cs
 | .ptr b o=>match look st b with|some (.box ty cs)=>bif Nat.beq ty mapTy then .bad else qbe (T t) (cs.drop o)|_=>.bad
 | .eptr r i e n sz' k o=>match qk st r i with|some (ob,R)=>bif Nat.beq sz' R.sz then also (andO ob (some (dp ((e=R.ep∧n=R.n)∧k<n)))) (qbe (T t) ((R.f k).drop o)) else .bad|_=>.bad
 | _=>.bad
def qy:List AV→Nat→List AV→List AV
 | cs,_,[]=>cs
 | cs,o,x::r=>qy (cs.set o x) (o+1) r
def cellsOf:AV→List AV
 | .agg cs=>cs
 | x=>[x]
def jk (st:List (Nat × SO)):List AV→Option DP
 | []=>none
 | .own r i e n::l=>match qk st r i with
  | some (ob,R)=>andO (andO ob (some (dp (e=R.ep∧n=R.n)))) (jk st l)
  | none=>match look st r with
   | some (.ro _ ep m _)=>andO (some (dp (i=0∧e=ep∧n=m))) (jk st l)
   | _=>some (dp False)
 | _::l=>jk st l
def qcv:AV→Bool
 | .agg _=>true
 | x=>x.oneOwn
def qfe (st:List (Nat × SO)):AV→Option DP
 | .agg _=>none
 | x=>jk st [x]
def qbl (ids:List Nat):AV→Bool
 | .own r ..=>ids.any (Nat.beq r)
 | y=>y.one && y.pure1
def qce:List AV→List Nat
 | []=>[]
 | .own r ..::l=>r::qce l
 | _::l=>qce l
def qnn (ids:List Nat) (r:Nat):List Nat:=bif ids.any (Nat.beq r) then ids else r::ids
def addIds (ids:List Nat):List Nat→List Nat
 | []=>ids
 | r::l=>addIds (qnn ids r) l
def jv (st:List (Nat × SO)) (r:Nat):List Nat→List (Nat × SO)
 | []=>st
 | q::qs=>match look st r with
  | some (.row ids e sz ep n f)=>setSt st r (.row (addIds ids (q::qs)) e sz ep n f)
  | _=>st
def qht (st:List (Nat × SO)):AV→AV→List (Nat × SO)
 | .eptr r ..,x=>jv st r (qce (cellsOf x))
 | _,_=>st
def qkc (T:Nat→TI) (st:List (Nat × SO)) (nx:Nat) (t:TypeId):AV→AV→OR
 | .ptr b o,x=>
  match look st b with
  | some (.box ty cs)=>
   bif Nat.beq ty mapTy then .bad else
   bif Nat.ble 1 (T t).size && Nat.beq (cellsOf x).length (T t).size && (cellsOf x).all AV.oneOwn && Nat.ble (o+(cellsOf x).length) cs.length
   then .mem (jk st (cellsOf x)) .any (setSt st b (.box ty (qy cs o (cellsOf x)))) nx else .bad
  | _=>.bad
 | .eptr r i e n sz' k o,x=>
  match qk st r i with
  | some (ob,R)=>
   bif Nat.ble 1 (T t).size && Nat.beq sz' R.sz && Nat.beq (cellsOf x).length (T t).size && (cellsOf x).all (qbl R.ids) && Nat.ble (o+(cellsOf x).length) R.sz
   then .mem (andO (andO ob (some (dp ((e=R.ep∧n=R.n)∧k<n)))) (jk st (cellsOf x))) .any (qo st r i R.ep R.n (fun j=>if j=k then qy (R.f k) o (cellsOf x) else R.f j)) nx else .bad
  | _=>.bad
 | _,_=>.bad
def qff (T:Nat→TI) (st:List (Nat × SO)) (nx:Nat) (t:TypeId) (a x:AV):OR:=qkc T (qht st a x) nx t a x
def qhu (T:Nat→TI) (st:List (Nat × SO)) (nx:Nat) (t:TypeId) (b o r i e n:Nat):OR:=
 match look st b with
 | some (.box ty cs)=>bif Nat.beq ty mapTy then .bad else bif Nat.beq (T t).size 1 && Nat.ble (o+1) cs.length then .mem none .any (setSt st b (.box ty (qy cs o [.own r i e n]))) nx else .bad
 | _=>.bad
def qgj (T:Nat→TI) (st:List (Nat × SO)) (nx:Nat) (t:TypeId):AV→AV→OR
 | .ptr b o,.own r i e n=>qhu T st nx t b o r i e n
 | a,x=>also (qm st x) (qff T st nx t a (strip st x))
def qbm (place:Nat→Option (Nat × Nat)):List AV→List (Nat × AV)→Option (List AV)
 | cs,[]=>some cs
 | cs,(i,x)::r=>
  match place i with
  | some (off,size)=>bif qcv x && Nat.beq (cellsOf x).length size && Nat.ble (off+size) cs.length then qde (qy cs off (cellsOf x)) fun cs'=>qbm place cs' r else none
  | none=>none
def qcw (st:List (Nat × SO)):List (Nat × AV)→Option DP
 | []=>none
 | (_,x)::r=>andO (qfe st x) (qcw st r)
def qno (T:Nat→TI) (fs:List (Nat × TypeId)) (i:Nat):Option (Nat × Nat):=(fs[i]?).map fun p=>(p.1,(T p.2).size)
def qek (T:Nat→TI) (st:List (Nat × SO)) (t:TypeId) (parts:List (Nat × AV)):OR:=
 match (T t).kd with
 | .struct fs=>bif Nat.ble 1 (T t).size && Nat.beq (T t).zero.length (T t).size && fs.all (fun p=>Nat.ble 1 (T p.2).size) then (match qbm (qno T fs) (T t).zero parts with|some cs=>.ok (qcw st parts) (.agg cs)|none=>.bad) else .bad
 | .array _ e=>bif Nat.ble 1 (T t).size && Nat.beq (T t).zero.length (T t).size && Nat.ble 1 (T e).size then (match qbm (fun i=>some (i * (T e).size,(T e).size)) (T t).zero parts with|some cs=>.ok (qcw st parts) (.agg cs)|none=>.bad) else .bad
 | _=>.bad
def chop (sz:Nat) (cs:List AV) (i:Nat):List AV:=(cs.drop (i * sz)).take sz
def qbz (z:List AV):Nat→List AV
 | 0=>[]
 | n+1=>z++qbz z n
def qcf (T:Nat→TI) (st:List (Nat × SO)) (t:TypeId) (len:Nat) (parts:List (Nat × AV)):OR:=
 match (T t).kd with
 | .slice e=>
  bif Nat.ble 1 (T e).size && Nat.ble (len * (T e).size) 16777216 && Nat.beq (T e).zero.length (T e).size then
   match qbm (fun i=>some (i * (T e).size,(T e).size)) (qbz (T e).zero len) parts with
   | some cs=>qde cs fun cs=>bif cs.all (fun y=>y.one && y.pure1) then frcN (T e).size fun sz=>.ok (qcw st parts) (.slc sz len (chop sz cs)) else .bad
   | none=>.bad
  else .bad
 | _=>.bad
def qfg (T:Nat→TI) (s:ASt) (t:TypeId) (len:Nat) (parts:List (Nat × AV)):OR:=
 match (T t).kd with
 | .slice e=>
  bif Nat.ble 1 (T e).size && Nat.ble (len * (T e).size) 16777216 && Nat.beq (T e).zero.length (T e).size then
   match qbm (fun i=>some (i * (T e).size,(T e).size)) (qbz (T e).zero len) parts with
   | some cs=>qde cs fun cs=>bif cs.all (qbl (addIds [] (qce cs))) then frcN (T e).size fun sz=>
     .mem (andO (qcw s.st parts) (jk s.st cs)) (.own s.nx 0 0 len) ((s.nx,.row (addIds [] (qce cs)) e sz 0 len (chop sz cs))::s.st) (s.nx+1) else .bad
   | none=>.bad
  else .bad
 | _=>.bad
def qfh (T:Nat→TI) (C:Cfg) (s:ASt) (dst:Option Nat) (t:TypeId) (len:Nat) (parts:List (Nat × AV)):OR:=
 match dst.bind (look C.owns) with
 | some _=>qfg T s t len parts
 | none=>bif C.lit then qfg T s t len parts else qcf T s.st t len parts
def qnp (C:Cfg) (dst:Option Nat):Bool:=
 match dst with
 | some d=>C.subs.any (Nat.beq d)
 | none=>false
def qnq (C:Cfg) (dst:Option Nat):Bool:=
 match dst with
 | some d=>C.cuts.any (Nat.beq d)
 | none=>false
def cutO (T:Nat→TI) (C:Cfg) (s:ASt) (dst:Option Nat) (t:TypeId):AV→Option AV→Option AV→Option AV→OR
 | .own r i e n,some (.int _ a),none,none=>
  match (T t).kd,qk s.st r i with
  | .slice el,some (ob,R)=>
   bif Nat.beq (T el).size R.sz && Nat.ble 1 R.sz then
    .mem (andO ob (some (dp ((e=R.ep∧n=R.n)∧0≤a∧a≤n)))) (.own r i (R.ep+1) (n - a.toNat)) (qo s.st r i (R.ep+1) (n - a.toNat) (fun j=>R.f (a.toNat+j))) s.nx
   else .bad
  | _,_=>.bad
 | .own r i e n,none,some (.int _ b),none=>
  match (T t).kd,qk s.st r i with
  | .slice el,some (ob,R)=>
   bif Nat.beq (T el).size R.sz && Nat.ble 1 R.sz then
    .mem (andO ob (some (dp ((e=R.ep∧n=R.n)∧0≤b∧b≤n)))) (.own r i (R.ep+1) b.toNat) (qo s.st r i (R.ep+1) b.toNat R.f) s.nx
   else .bad
  | _,_=>.bad
 | _,_,_,_=>.bad
def qfi (T:Nat→TI) (C:Cfg) (s:ASt) (dst:Option Nat) (t:TypeId):AV→Option AV→Option AV→Option AV→OR
 | .own r i e n,lo,hi,mx=>
  bif qnp C dst then .bad else
  bif qnq C dst then cutO T C s dst t (.own r i e n) lo hi mx
  else
  match look s.st r with
  | some (.row [] _ sz ep m f)=>
   match qei T t (.slc sz n f) lo hi mx with
   | .ok ob v=>.mem (andO (some (dp (i=0∧e=ep∧n=m))) ob) v (setSt s.st r (.ro sz ep n f)) s.nx
   | _=>.bad
  | _=>.bad
 | x,lo,hi,mx=>qei T t x lo hi mx
def qhv (T:Nat→TI) (t:TypeId) (fi:Nat):AV→OR
 | .agg cs=>
  match (T t).kd with
  | .struct fs=>match fs[fi]? with|some (off,ft)=>qbe (T ft) (cs.drop off)|none=>.bad
  | _=>.bad
 | _=>.bad
def qhw (i:Nat):AV→OR
 | .tup vs=>match vs[i]? with|some v=>.ok none v|none=>.bad
 | _=>.bad
def qnr:List AV→UInt8
 | [.int _ x]=>x.toNat.toUInt8
 | _=>0
def qbf (n:Nat) (f:Nat→List AV):List UInt8:=(List.range n).map fun i=>qnr (f i)
def qns (n:Nat) (f:Nat→List AV):Prop:=∀ i,i<n→∃ b:UInt8,f i=[.int .u8 b.toNat]
def qnt:List AV→Bool
 | [.int .u8 x]=>decide (0≤x∧x<256)
 | _=>false
theorem qzb {l:List AV} (h:qnt l=true):∃ b:UInt8,l=[.int .u8 b.toNat]:=by
 unfold qnt at h
 split at h
 ·rename_i x
  simp only [xp] at h
  refine ⟨UInt8.ofNat x.toNat,?_⟩
  have:(UInt8.ofNat x.toNat).toNat=x.toNat:=by rw [UInt8.toNat_ofNat'];omega
  rw [this]
  congr 2;omega
 ·cases h
def qrw (n:Nat) (f:Nat→List AV):DP:=⟨qns n f,(List.range n).all fun i=>qnt (f i),fun h i hi=>qzb (List.all_eq_true.1 h i (List.mem_range.2 hi))⟩
def qdg (T:Nat→TI) (src to:TypeId):Bool:=
 match (T src).kd,(T to).kd with
 | .slice e,.str=>Nat.beq (T e).size 1 && (match (T e).kd with | .int .u8=>true|_=>false)
 | _,_=>false
def qel (T:Nat→TI) (C:Cfg) (st:List (Nat × SO)) (dst:Option Nat) (src to:TypeId) (x:AV):OR:=
 bif Nat.ble 1 (T src).size then
  match x with
  | .slc sz n f=>bif qdg T src to && Nat.beq sz 1 then .ok (some (qrw n f)) (.str (qbf n f)) else .bad
  | .own r i e n=>
   match qk st r i with
   | some (ob,R)=>bif qdg T src to && Nat.beq R.sz 1 then .ok (andO ob (andO (some (dp (e=R.ep∧n=R.n))) (some (qrw n R.f)))) (.str (qbf n R.f)) else .bad
   | none=>.bad
  | .nils=>bif qdg T src to then .ok none (.str []) else .bad
  | .int _ n=>match (T to).kd with | .int k=>qdt (qkb C dst) k n|_=>.bad
  | .str l=>match (T to).kd with | .str=>.ok none (.str l)|_=>.bad
  | _=>.bad
 else .bad
def appF (n:Nat) (f:Nat→List AV) (m:Nat) (g:Nat→List AV):Nat→List AV:=
 fun i=>if i<n then f i else if i<n+m then g (i - n) else f i
def qdh (T:Nat→TI) (s:ASt) (t:TypeId):AV→AV→OR
 | .own r i ep n,.slc sz m g=>
  match (T t).kd,qk s.st r i with
  | .slice e,some (ob,R)=>
   bif Nat.beq (T e).size sz && Nat.beq e R.e && Nat.beq sz R.sz && Nat.ble 1 sz && Nat.beq (T e).zero.length sz then
    .mem (andO ob (some (dp ((ep=R.ep∧n=R.n)∧n+m≤9223372036854775807∧(n+m) * (T e).bytes≤140737488355328)))) (.own r i ep (n+m)) (qo s.st r i ep (n+m) (appF n R.f m g)) s.nx
   else .bad
  | _,_=>.bad
 | .own r i ep n,.own r' i' ep' m=>
  match qk s.st r' i' with
  | some (ob',R')=>
   match (T t).kd,qk (jv s.st r R'.ids) r i with
   | .slice e,some (ob,R)=>
    bif Nat.beq (T e).size R.sz && Nat.beq e R.e && Nat.beq R'.sz R.sz && Nat.ble 1 R.sz && Nat.beq (T e).zero.length R.sz && !Nat.beq r r' && R'.ids.all (fun q=>R.ids.any (Nat.beq q)) then
     .mem (andO ob (andO ob' (some (dp ((ep=R.ep∧n=R.n)∧(ep'=R'.ep∧m=R'.n)∧n+m≤9223372036854775807∧(n+m) * (T e).bytes≤140737488355328))))) (.own r i ep (n+m)) (qo (jv s.st r R'.ids) r i ep (n+m) (appF n R.f m R'.f)) s.nx
    else .bad
   | _,_=>.bad
  | none=>.bad
 | .own r i ep n,.nils=>
  match (T t).kd,qk s.st r i with
  | .slice e,some (ob,R)=>
   bif Nat.beq (T e).size R.sz && Nat.beq e R.e && Nat.ble 1 R.sz && Nat.beq (T e).zero.length R.sz then .ok (andO ob (some (dp (ep=R.ep∧n=R.n)))) (.own r i ep n) else .bad
  | _,_=>.bad
 | .nils,.own r' i' ep' m=>
  match (T t).kd,qk s.st r' i' with
  | .slice e,some (ob',R')=>
   bif Nat.beq (T e).size R'.sz && Nat.ble 1 R'.sz && Nat.beq (T e).zero.length R'.sz then
    .mem (andO ob' (some (dp ((ep'=R'.ep∧m=R'.n)∧m≤9223372036854775807∧m * (T e).bytes≤140737488355328)))) (.own s.nx 0 0 m) ((s.nx,.row R'.ids e R'.sz 0 m R'.f)::s.st) (s.nx+1)
   else .bad
  | _,_=>.bad
 | .nils,.slc sz m g=>
  match (T t).kd with
  | .slice e=>
   bif Nat.beq (T e).size sz && Nat.ble 1 sz && Nat.beq (T e).zero.length sz then
    .mem (some (dp (m≤9223372036854775807∧m * (T e).bytes≤140737488355328))) (.own s.nx 0 0 m) ((s.nx,.row [] e sz 0 m g)::s.st) (s.nx+1)
   else .bad
  | _=>.bad
 | _,_=>.bad
def qgk (T:Nat→TI) (s:ASt) (t:TypeId):AV→AV→OR
 | .int _ l,.int _ c=>
  match (T t).kd with
  | .slice e=>bif Nat.beq (T e).zero.length (T e).size && Nat.ble 1 (T e).size && (T e).zero.all (fun y=>y.one && y.pure1) then
    .mem (some (dp (0≤l∧l≤c∧c≤9223372036854775807∧c * (T e).bytes≤140737488355328))) (.own s.nx 0 0 l.toNat) ((s.nx,.row [] e (T e).size 0 l.toNat (fun _=>(T e).zero))::s.st) (s.nx+1) else .bad
  | _=>.bad
 | _,_=>.bad
def lenO (st:List (Nat × SO)):Kd→AV→OR
 | .str,.str l=>.ok none (.int .i64 l.length)
 | .slice _,.slc _ n _=>.ok none (.int .i64 n)
 | .slice _,.own r i e n=>match qk st r i with|some (ob,R)=>.ok (andO ob (some (dp (e=R.ep∧n=R.n)))) (.int .i64 n)|_=>.bad
 | .slice _,.nils=>.ok none (.int .i64 0)
 | _,_=>.bad
def minO (mx:Bool):AV→AV→OR
 | .int .i64 a,.int .i64 b=>.ok none (.int .i64 (bif mx then max a b else min a b))
 | _,_=>.bad
def qem (T:Nat→TI) (s:ASt) (b:Builtin) (ts:List TypeId) (args:List AV):OR:=
 match b,ts,args with
 | .len,[t],[x]=>lenO s.st (T t).kd x
 | .append,[t,t'],[x,y]=>bif Nat.beq t t' then qdh T s t x y else .bad
 | .min,[_,_],[x,y]=>minO false x y
 | .max,[_,_],[x,y]=>minO true x y
 | _,_,_=>.bad
def qfj:AV→OR
 | .ptr b o=>.ok none (.ptr b o)
 | .rptr cs=>.ok none (.rptr cs)
 | .fn f cs=>.ok none (.fn f cs)
 | _=>.bad
def ownAt (l:List (Nat × (TypeId × Nat))) (d:Option Nat):Option (TypeId × Nat):=d.bind (look l)
def qgl (C:Cfg) (s:ASt) (dst:Option Nat) (v:AV):OR:=
 match v,ownAt C.owns dst with
 | .nils,some (e,sz)=>.mem none (.own s.nx 0 0 0) ((s.nx,.row [] e sz 0 0 (fun _=>[]))::s.st) (s.nx+1)
 | v,_=>.ok none v
def boxO (s:ASt) (ty:TypeId) (cs:List AV) (ob:Option DP):OR:=bif Nat.beq ty mapTy then .bad else .mem ob (.ptr s.nx 0) ((s.nx,.box ty cs)::s.st) (s.nx+1)
def qfk (ks:List (List UInt8)) (s:List UInt8):Bool:=ks.any (· == s)
def qen:Kd→Bool
 | .str=>true
 | _=>false
def qkd (T:Nat→TI) (s:ASt) (t:TypeId):Option AV→OR
 | none=>.mem none (.mapv s.nx) ((s.nx,.box mapTy [.keys []])::s.st) (s.nx+1)
 | some _=>.bad
def qdi (st:List (Nat × SO)):AV→Option (Nat × List (List UInt8))
 | .mapv b=>match look st b with|some (.box ty [.keys ks])=>bif Nat.beq ty mapTy then some (b,ks) else none|_=>none
 | _=>none
def qeo (T:Nat→TI) (st:List (Nat × SO)) (t:TypeId) (x y:AV) (cok:Bool):OR:=
 match (T t).kd,y,qdi st x with
 | .map k e,.str s,some (_,ks)=>
  bif qen (T k).kd && Nat.ble 1 (T e).size && Nat.beq (T e).zero.length (T e).size then .ok none (bif cok then .tup [.any,.bool (qfk ks s)] else .any) else .bad
 | _,_,_=>.bad
def qdv (T:Nat→TI) (st:List (Nat × SO)) (nx:Nat) (t:TypeId) (x y:AV):OR:=
 match (T t).kd,y,qdi st x with
 | .map k _,.str s,some (b,ks)=>bif qen (T k).kd then .mem none .any (setSt st b (.box mapTy [.keys (bif qfk ks s then ks else ks++[s])])) nx else .bad
 | _,_,_=>.bad
def qfl (f:FuncId):AV→List Operand→OR
 | .ptr b o,[]=>bif Nat.beq o 0 then .ok none (.bfn f b) else .bad
 | _,_=>.bad
def qke (args:List AV):AV→OR
 | .fn f caps=>.call f (args++caps)
 | .bfn f b=>.call f (.ptr b 0::args)
 | _=>.bad
def aop (T:Nat→TI) (C:Cfg) (s:ASt) (dst:Option Nat):Op→OR
 | .move x=>.ok none (ev s x)
 | .assign x=>qgl C s dst (ev s x)
 | .pick c a b=>
  match a,b with
  | _,.const (.bool false)=>also (qm s.st (ev s c)) (andP (strip s.st (ev s c)) (ev s a))
  | .const (.bool true),_=>also (qm s.st (ev s c)) (orP (strip s.st (ev s c)) (ev s b))
  | _,_=>also (qm s.st (ev s c)) (qhr (strip s.st (ev s c)) (ev s a) (ev s b))
 | .alloc e=>bif Nat.ble 1 (T e).size && Nat.beq (T e).zero.length (T e).size then boxO s e (T e).zero none else .bad
 | .box e x=>bif qcv (strip s.st (ev s x)) then also (qm s.st (ev s x)) (boxO s e (cellsOf (strip s.st (ev s x))) (qfe s.st (strip s.st (ev s x)))) else .bad
 | .build t ps=>also (qdf s.st (ps.toList.map fun p=>ev s p.2)) (qek T s.st t (ps.toList.map fun p=>(p.1,strip s.st (ev s p.2))))
 | .buildSlice t n ps=>also (qdf s.st (ps.toList.map fun p=>ev s p.2)) (qfh T C s dst t n (ps.toList.map fun p=>(p.1,strip s.st (ev s p.2))))
 | .load t a=>also (qm s.st (ev s a)) (qdu T s.st t (strip s.st (ev s a)))
 | .store t a x=>also (qm s.st (ev s a)) (qgj T s.st s.nx t (strip s.st (ev s a)) (ev s x))
 | .nilCheck x=>also (qm s.st (ev s x)) (qfj (strip s.st (ev s x)))
 | .binOp op t x y _=>also (qm s.st (ev s x)) (also (qm s.st (ev s y)) (binO T C dst op t (strip s.st (ev s x)) (strip s.st (ev s y))))
 | .unOp op _ x=>also (qm s.st (ev s x)) (unO C dst op (strip s.st (ev s x)))
 | .convert src t x=>also (qm s.st (ev s x)) (qel T C s.st dst src t (strip s.st (ev s x)))
 | .makeFunc fn first captured=>match fn,first.toList with | .func f,[]=>.ok none (.fn f (captured.toList.map (ev s))) | .func f,[x]=>qfl f (ev s x) captured.toList|_,_=>.bad
 | .makeSlice t l c=>also (qm s.st (ev s l)) (also (qm s.st (ev s c)) (qgk T s t (strip s.st (ev s l)) (strip s.st (ev s c))))
 | .slice t x lo hi mx=>also (qm s.st (ev s x)) (also (qka s.st (lo.map (ev s))) (also (qka s.st (hi.map (ev s))) (qfi T C s dst t (strip s.st (ev s x)) (lo.map fun y=>strip s.st (ev s y)) (hi.map fun y=>strip s.st (ev s y)) (mx.map fun y=>strip s.st (ev s y)))))
 | .fieldAddr t x i=>also (qm s.st (ev s x)) (qej T s.st t i (strip s.st (ev s x)))
 | .field t x i=>also (qm s.st (ev s x)) (qhv T t i (strip s.st (ev s x)))
 | .indexAddr t x i=>also (qm s.st (ev s x)) (also (qm s.st (ev s i)) (qcu T s.st t (strip s.st (ev s x)) (strip s.st (ev s i))))
 | .index t x i=>also (qm s.st (ev s x)) (also (qm s.st (ev s i)) (qhs T t (strip s.st (ev s x)) (strip s.st (ev s i))))
 | .extract x i=>also (qm s.st (ev s x)) (qhw i (strip s.st (ev s x)))
 | .makeMap t r=>qkd T s t (r.map (ev s))
 | .lookup t x y cok=>also (qm s.st (ev s x)) (also (qm s.st (ev s y)) (qeo T s.st t (strip s.st (ev s x)) (strip s.st (ev s y)) cok))
 | .mapUpdate t x y _=>also (qm s.st (ev s x)) (also (qm s.st (ev s y)) (qdv T s.st s.nx t (strip s.st (ev s x)) (strip s.st (ev s y))))
 | .call c=>
  match c.callee with
  | .builtin b=>also (qdf s.st (c.args.toList.map (ev s))) (qem T s b c.argTypes.toList (c.args.toList.map fun x=>strip s.st (ev s x)))
  | .value f=>qke (c.args.toList.map (ev s)) (ev s f)
  | _=>.bad
 | _=>.bad
end Go.Sx
end
section
namespace Go.Sx
open Go Go.RowKit
inductive Itm where
 | code (c:Code)
 | blk (id:Nat)
 | mark (n:Nat)
 | ops (full:Array Oper) (l:List Oper)
structure SR (c:Ctx) (rd:Rd) (mp:Mp) (s:ASt) (a:Act) (w:World):Prop where
 slots:∀ t,Rel rd mp (s.get t) (a.tmps.getD t undef)
 defers:a.defers=[]
 mem:Mem c rd mp s.st s.nx w
structure Env where
 P:Program
 T:Nat→TI
 C:Cfg
 fn:Func
 c:Ctx
 rdb:Rd
 mpb:Mp
 nxb:Nat
 R:List (Nat × SO)→Nat→AV→Prop
 X:List (Nat × SO)→Nat→AV→Prop
structure Base (E:Env) (rd:Rd) (mp:Mp):Prop where
 rd:Rd.le E.rdb rd
 mp:Mp.le E.mpb mp
 low:∀ i,E.nxb≤i→E.mpb.blk i=none∧∀ j,E.mpb.row i j=none
 std:E.c.fre=stdF
theorem Base.step {E:Env} {rd rd':Rd} {mp mp':Mp} (h:Base E rd mp) (hr:Rd.le rd rd') (hp:Mp.le mp mp'):Base E rd' mp':=⟨h.rd.trans hr,h.mp.trans hp,h.low,h.std⟩
def Post (E:Env):Ending→World→Prop
 | .returned v,w=>∃ x rd mp st nx,E.R st nx x∧Rel rd mp x v∧Mem E.c rd mp st nx w∧Base E rd mp
 | .panicked [⟨v,false,false⟩],w=>∃ x rd mp st nx,E.X st nx x∧Rel rd mp x v∧Mem E.c rd mp st nx w∧Base E rd mp
 | _,_=>False
def QK (E:Env) (B:Nat→ASt→Prop):List Itm→Exit→Act→World→Prop
 | [],e,a,w=>bodyPost E.P E.fn (Post E) e a w
 | .code x::k,e,a,w=>match e with | .normal=>x.wp E.P (QK E B k) a w|e=>QK E B k e a w
 | .blk id::k,e,a,w=>match e with | .exit id'=>if id'=id then QK E B k .normal a w else QK E B k (.exit id') a w|e=>QK E B k e a w
 | .mark n::k,e,a,w=>match e with | .normal=>a.tmps.size=E.fn.ntmps∧∃ rd mp s,SR E.c rd mp s a w∧Base E rd mp∧B n s|e=>QK E B k e a w
 | .ops full l::k,e,a,w=>match e with | .normal=>wpList E.P full (QK E B k) l a w|e=>QK E B k e a w
def Ok (E:Env) (B:Nat→ASt→Prop) (k:List Itm) (s:ASt):Prop:=∀ rd mp a w,SR E.c rd mp s a w→Base E rd mp→a.tmps.size=E.fn.ntmps→QK E B k .normal a w
def RelL (rd:Rd) (mp:Mp) (xs:List AV) (vs:Array Value):Prop:=vs.size=xs.length∧∀ (j:Nat) x v,xs[j]?=some x→vs[j]?=some v→Rel rd mp x v
def Invokes (P:Program) (f:FuncId) (vs:Array Value) (w:World) (R:Value→World→Prop) (X:List PanicEntry→World→Prop):Prop:=
 ((callFunc f vs).run P w=.ok (.enter f vs) w∧Calls P f vs w fun e w'=>(∃ v,e=.returned v∧R v w')∨∃ ch,e=.panicked ch∧X ch w') ∨
 ∃ v w',(callFunc f vs).run P w=.ok (.value v) w'∧R v w'
theorem Invokes.mono {P:Program} {f:FuncId} {vs:Array Value} {w:World} {R R':Value→World→Prop} {X X':List PanicEntry→World→Prop} (h:Invokes P f vs w R X) (hr:∀ v w',R v w'→R' v w') (hx:∀ ch w',X ch w'→X' ch w'):Invokes P f vs w R' X':=by
 rcases h with ⟨h1,h2⟩|⟨v,w',h1,h2⟩
 ·refine .inl ⟨h1,h2.mono fun e w' he=>?_⟩
  rcases he with ⟨v,he,hv⟩|⟨ch,he,hv⟩
  ·exact .inl ⟨v,he,hr _ _ hv⟩
  ·exact .inr ⟨ch,he,hx _ _ hv⟩
 ·exact .inr ⟨v,w',h1,hr _ _ h2⟩
def qaa (E:Env) (B:Nat→ASt→Prop) (f:FuncId) (args:List AV) (dst:Option Nat) (full:Array Oper) (rest:List Oper) (k:List Itm) (s:ASt):Prop:=
 ∀ rd mp a w vs,SR E.c rd mp s a w→Base E rd mp→a.tmps.size=E.fn.ntmps→RelL rd mp args vs→
  Invokes E.P f vs w (fun v w'=>wpList E.P full (QK E B k) rest (a.put dst v) w') (fun ch w'=>QK E B k (.panic ch) a w')
def qcx (E:Env) (B:Nat→ASt→Prop) (g:Bool) (f:FuncId) (args:List AV) (dst:Option Nat) (full:Array Oper) (rest:List Oper) (k:List Itm) (s:ASt):Prop:=
 (g=true→qaa E B f args dst full rest k s) ∧
 (g=false→∀ rd mp a w,SR E.c rd mp s a w→Base E rd mp→a.tmps.size=E.fn.ntmps→wpList E.P full (QK E B k) rest (a.put dst undef) w)
def qca (E:Env) (B:Nat→ASt→Prop) (body:Code) (k:List Itm) (s:ASt):Prop:=Ok E B (.code (.loop body)::k) s
def qav (E:Env) (B:Nat→ASt→Prop) (id:Nat) (ops:Array Oper) (k:List Itm) (s:ASt):Prop:=Ok E B (.code (.region id ops true)::k) s
def qhx (E:Env) (B:Nat→ASt→Prop) (ops:Array Oper) (k:List Itm) (s:ASt):Prop:=Ok E B (.ops ops ops.toList::k) s
def frzC (st:List (Nat × SO)):Nat→AV→AV
 | n+1,.own r i _ m=>match qk st r i with
  | some (_,R)=>.slc R.sz m (match R.ids with|[]=>R.f|_=>fun k=>(R.f k).map (frzC st n))
  | none=>match look st r with
   | some (.ro sz _ _ f)=>.slc sz m f
   | _=>.any
 | n+1,.ptr b o=>match look st b with
  | some (.box ty cs)=>bif Nat.beq ty mapTy then .any else .rptr ((cs.drop o).map (frzC st n))
  | _=>.any
 | n+1,.fn f cs=>.fn f (cs.map (frzC st n))
 | _,x=>bif x.pure1 then x else .any
def allP {α:Type} (p:α→Prop):List α→Prop
 | []=>True
 | x::r=>p x∧allP p r
theorem qdj {α:Type} {p:α→Prop}:∀ {l:List α},allP p l→∀ (j:Nat) x,l[j]?=some x→p x
 | [],_,j,x,h=>by simp at h
 | y::r,hk,0,x,h=>by simp at h;subst h;exact hk.1
 | y::r,hk,j+1,x,h=>by simp at h;exact qdj hk.2 j x h
def qcy (st:List (Nat × SO)):Nat→AV→Prop
 | n+1,.own r i e m=>match qk st r i with
  | some (ob,R)=>obT ob∧(e=R.ep∧m=R.n)∧(match R.ids with|[]=>True|_=>∀ k,k<m→allP (qcy st n) (R.f k))
  | none=>match look st r with
   | some (.ro _ ep n' _)=>i=0∧e=ep∧m=n'
   | _=>True
 | n+1,.ptr b o=>match look st b with
  | some (.box ty cs)=>bif Nat.beq ty mapTy then True else ((cs.drop o).all AV.oneOwn=true∧obT (jk st (cs.drop o)))∧allP (qcy st n) (cs.drop o)
  | _=>True
 | n+1,.fn _ cs=>allP (qcy st n) cs
 | _,_=>True
def frzB (st:List (Nat × SO)):AV→AV
 | .agg cs=>.agg (cs.map (frzC st 4))
 | .cnd b x=>.cnd b (frzC st 4 x)
 | x=>frzC st 4 x
def qgm (st:List (Nat × SO)):AV→Prop
 | .agg cs=>allP (qcy st 4) cs
 | .cnd b x=>b=true→qcy st 4 x
 | x=>qcy st 4 x
def frzV (st:List (Nat × SO)):AV→AV
 | .tup vs=>.tup (vs.map (frzB st))
 | x=>frzB st x
def qrx (st:List (Nat × SO)):AV→Prop
 | .tup vs=>allP (qgm st) vs
 | x=>qgm st x
def resV (T:Nat→TI) (s:ASt):ResultVar→Option AV
 | .tmp t=>some (s.get t)
 | .cell t ty=>match s.get t with
  | .ptr b o=>match look s.st b with
   | some (.box ty' cs)=>bif Nat.beq ty' mapTy then none else match qbe (T ty) (cs.drop o) with | .ok _ v=>some v|_=>none
   | _=>none
  | _=>none
def resL (T:Nat→TI) (s:ASt):List ResultVar→Option (List AV)
 | []=>some []
 | r::rs=>match resV T s r,resL T s rs with|some v,some vs=>some (v::vs)|_,_=>none
def qry (T:Nat→TI) (s:ASt) (rs:List ResultVar):Option AV:=
 match resL T s rs with
 | some [v]=>some v
 | some vs=>some (.tup vs)
 | none=>none
def Ob (p r:Prop):Prop:=p∧r
def Br (b:Bool) (t e:Prop):Prop:=(b=true→t)∧(b=false→e)
theorem Ob.intro {p r:Prop} (h:p) (k:r):Ob p r:=⟨h,k⟩
theorem Ob.left {p r:Prop} (h:Ob p r):p:=h.1
theorem Ob.right {p r:Prop} (h:Ob p r):r:=h.2
theorem Br.intro {b:Bool} {t e:Prop} (h:b=true→t) (k:b=false→e):Br b t e:=⟨h,k⟩
theorem Br.yes {b:Bool} {t e:Prop} (h:Br b t e):b=true→t:=h.1
theorem Br.no {b:Bool} {t e:Prop} (h:Br b t e):b=false→e:=h.2
def frcA (v:AV) (K:AV→Prop):Prop:=
 match v with
 | .agg cs=>qde cs fun cs=>K (.agg cs)
 | .rptr cs=>qde cs fun cs=>K (.rptr cs)
 | .cnd b v=>frc1 v fun v=>K (.cnd b v)
 | v=>frc1 v K
theorem qnu (v:AV) (K:AV→Prop):frcA v K=K v:=by cases v <;> simp only [frcA,qcr,qrv]
def qkf:List AV→(List AV→Prop)→Prop
 | [],K=>K []
 | x::xs,K=>frcA x fun x'=>qkf xs fun xs'=>K (x'::xs')
theorem qrz:∀ (xs:List AV) (K:List AV→Prop),qkf xs K=K xs
 | [],_=>rfl
 | x::xs,K=>by simp only [qkf,qnu];exact qrz xs _
def frc (v:AV) (K:AV→Prop):Prop:=
 match v with
 | .tup vs=>qkf vs fun vs=>K (.tup vs)
 | v=>frcA v K
theorem jr (v:AV) (K:AV→Prop):frc v K=K v:=by cases v <;> simp only [frc,qrz,qnu]
def frcL:List AV→(List AV→Prop)→Prop
 | [],K=>K []
 | x::xs,K=>frc x fun x'=>frcL xs fun xs'=>K (x'::xs')
theorem qcb:∀ (xs:List AV) (K:List AV→Prop),frcL xs K=K xs
 | [],_=>rfl
 | x::xs,K=>by simp only [frcL,jr];exact qcb xs _
def je:List (Nat × SO)→(List (Nat × SO)→Prop)→Prop
 | [],K=>K []
 | (i,.box t cs)::r,K=>frcN i fun i=>qde cs fun cs=>je r fun r=>K ((i,.box t cs)::r)
 | (i,.row ids e sz ep n f)::r,K=>frcN i fun i=>frcN sz fun sz=>je r fun r=>K ((i,.row ids e sz ep n f)::r)
 | (i,.fam e sz cnt ep len f)::r,K=>je r fun r=>K ((i,.fam e sz cnt ep len f)::r)
 | (i,.ro sz ep n f)::r,K=>frcN i fun i=>je r fun r=>K ((i,.ro sz ep n f)::r)
theorem jq:∀ (st:List (Nat × SO)) (K:List (Nat × SO)→Prop),je st K=K st
 | [],_=>rfl
 | (i,.box t cs)::r,K=>by simp only [je,qu,qcr];exact jq r _
 | (i,.row ids e sz ep n f)::r,K=>by simp only [je,qu];exact jq r _
 | (i,.fam e sz cnt ep len f)::r,K=>by simp only [je,qu];exact jq r _
 | (i,.ro sz ep n f)::r,K=>by simp only [je,qu];exact jq r _
def RetG (E:Env) (s:ASt):Prop:=
 match qry E.T s E.fn.results.toList with
 | some v=>frc v fun v=>E.R s.st s.nx v
 | none=>False
def cj:Option DP→Prop→Prop
 | none,r=>r
 | some ⟨p,_,_⟩,r=>Ob p r
def gob (g:Bool):Option DP→Option DP
 | none=>none
 | some ⟨p,b,h⟩=>some ⟨g=true→p,!g || b,fun e hg=>h (by rw [hg] at e;simpa using e)⟩
def qgn (id:Nat):List Itm→Option (List Itm)
 | []=>none
 | .blk id'::k=>bif Nat.beq id' id then some k else qgn id k
 | _::k=>qgn id k
def qz (E:Env):Option Nat→Bool
 | some d=>Nat.blt d E.fn.ntmps
 | none=>true
def qbn:Bool→AV→Option Bool
 | true,.bool p=>some p
 | false,.bool p=>some (!p)
 | true,.cnd q (.bool p)=>some (q && p)
 | false,.cnd q (.bool p)=>some (q && !p)
 | _,_=>none
def qan (full:Array Oper) (j:Nat):Option Nat:=(full.toList[j]?).bind (·.dst)
def jx (sl:List (Nat × AV)):Option Nat→AV→List (Nat × AV)
 | some d,v=>(d,v)::sl
 | none,_=>sl
def qt (sl:List (Nat × AV)) (d:Option Nat) (K:List (Nat × AV)→Prop) (v:AV):Prop:=
 match d with
 | some d=>K ((d,v)::sl)
 | none=>K sl
theorem ja (sl:List (Nat × AV)) (d:Option Nat) (K:List (Nat × AV)→Prop) (v:AV):qt sl d K v=K (jx sl d v):=by cases d <;> rfl
def OpG (E:Env) (B:Nat→ASt→Prop) (full:Array Oper) (o:Oper) (rest:List Oper) (k:List Itm) (s:ASt):Prop:=Ok E B (.ops full (o::rest)::k) s
def exec (E:Env) (B:Nat→ASt→Prop):Nat→List Itm→ASt→Prop
 | 0,_,_=>False
 | n+1,k,⟨sl,st,nx⟩=>
  match k with
  | []=>RetG E ⟨sl,st,nx⟩
  | .blk _::k=>exec E B n k ⟨sl,st,nx⟩
  | .mark m::_=>B m ⟨sl,st,nx⟩
  | .code c::k=>
   match c with
   | .skip=>exec E B n k ⟨sl,st,nx⟩
   | .label _=>exec E B n k ⟨sl,st,nx⟩
   | .seq x y=>exec E B n (.code x::.code y::k) ⟨sl,st,nx⟩
   | .block id x=>exec E B n (.code x::.blk id::k) ⟨sl,st,nx⟩
   | .cond o x y=>
    match ev ⟨sl,st,nx⟩ o with
    | .bool p=>Br p (exec E B n (.code x::k) ⟨sl,st,nx⟩) (exec E B n (.code y::k) ⟨sl,st,nx⟩)
    | .cnd q (.bool p)=>Ob (q=true) (Br p (exec E B n (.code x::k) ⟨sl,st,nx⟩) (exec E B n (.code y::k) ⟨sl,st,nx⟩))
    | _=>False
   | .loop b=>qca E B b k ⟨sl,st,nx⟩
   | .exit id=>match qgn id k with|some k'=>exec E B n k' ⟨sl,st,nx⟩|none=>False
   | .ret=>RetG E ⟨sl,st,nx⟩
   | .region id ops d=>
    match d with
    | true=>qav E B id ops k ⟨sl,st,nx⟩
    | false=>match E.C.stops.any (Nat.beq id) with|true=>qhx E B ops k ⟨sl,st,nx⟩|false=>exec E B n (.ops ops ops.toList::k) ⟨sl,st,nx⟩
   | _=>False
  | .ops _ []::k=>exec E B n k ⟨sl,st,nx⟩
  | .ops full (⟨dst,op,ty,pos,aft,guard⟩::rest)::k=>
   match qz E dst with
   | true=>
    match guard with
    | none=>
     match aop E.T E.C ⟨sl,st,nx⟩ dst op with
     | .ok ob v=>cj ob (frc v (qt sl dst (fun sl'=>exec E B n (.ops full rest::k) ⟨sl',st,nx⟩)))
     | .mem ob v st' nx'=>cj ob (frcN nx' fun nx'=>je st' fun st'=>frc v (qt sl dst (fun sl'=>exec E B n (.ops full rest::k) ⟨sl',st',nx'⟩)))
     | .call f args=>frcL args fun args=>qaa E B f args dst full rest k ⟨sl,st,nx⟩
     | .bad=>OpG E B full ⟨dst,op,ty,pos,aft,none⟩ rest k ⟨sl,st,nx⟩
    | some (j,want)=>
     match (qan full j).map (ASt.get ⟨sl,st,nx⟩) with
     | some x=>
      match qbn want x with
      | some g=>
       match aop E.T E.C ⟨sl,st,nx⟩ dst op with
       | .ok ob v=>cj (gob g (andO (qm st v) ob)) (frc (strip st v) (fun v'=>qt sl dst (fun sl'=>exec E B n (.ops full rest::k) ⟨sl',st,nx⟩) (.cnd g v')))
       | .mem ob v st' nx'=>Br g (cj ob (frcN nx' fun nx'=>je st' fun st'=>frc v (qt sl dst (fun sl'=>exec E B n (.ops full rest::k) ⟨sl',st',nx'⟩)))) (qt sl dst (fun sl'=>exec E B n (.ops full rest::k) ⟨sl',st,nx⟩) .any)
       | .call f args=>frcL args fun args=>qcx E B g f args dst full rest k ⟨sl,st,nx⟩
       | .bad=>Br g (OpG E B full ⟨dst,op,ty,pos,aft,none⟩ rest k ⟨sl,st,nx⟩) (qt sl dst (fun sl'=>exec E B n (.ops full rest::k) ⟨sl',st,nx⟩) (.cnd g (.bool false)))
      | none=>False
     | none=>False
   | false=>False
attribute [irreducible] qaa qcx qca qav OpG qhx Ob Br
end Go.Sx
end
section
namespace Go.Sx
open Go Go.RowKit
variable {P:Program} {T:Nat→TI} {C:Cfg} {c:Ctx} {rd:Rd} {mp:Mp} {s:ASt} {a:Act} {w:World}
theorem qzc {t:TypeId} (h:P.info? t=none):tab P t=⟨.other,0,0,[],false⟩:=by simp [tab,h]
theorem qzd {t:TypeId} {i:TypeInfo} {d:TypeDesc} (h:P.info? t=some i) (hd:P.underlying t=some d) :
  tab P t=⟨kdOf d,i.size,i.bytes,qfd i,qjz P t d⟩:=by simp [tab,h,hd]
theorem qcz (hT:∀ t,T t=tab P t) {t:TypeId} (h:(T t).kd≠.other):∃ i d,P.info? t=some i∧P.underlying t=some d∧(T t).kd=kdOf d∧(T t).size=i.size∧(T t).bytes=i.bytes ∧
  (T t).zero=qfd i∧(T t).cmp=qjz P t d:=by
 rw [hT] at h ⊢
 cases hi:P.info? t with
 | none=>rw [qzc hi] at h;exact absurd rfl h
 | some i=>
  cases hd:P.underlying t with
  | none=>simp [tab,hi,hd] at h
  | some d=>rw [qzd hi hd];exact ⟨i,d,rfl,rfl,rfl,rfl,rfl,rfl,rfl⟩
theorem jb (hT:∀ t,T t=tab P t) {t e:TypeId} (h:(T t).kd=.slice e):P.underlying t=some (.slice e):=by
 obtain ⟨i,d,_,hd,hk,_⟩:=qcz hT (t:=t) (by rw [h];simp)
 rw [h] at hk
 cases d <;> simp [kdOf] at hk
 subst hk;exact hd
theorem qaz (hT:∀ t,T t=tab P t) {t:TypeId} (h:(T t).kd=.str):P.underlying t=some .string:=by
 obtain ⟨i,d,_,hd,hk,_⟩:=qcz hT (t:=t) (by rw [h];simp)
 rw [h] at hk
 cases d <;> simp [kdOf] at hk
 exact hd
theorem qdw (hT:∀ t,T t=tab P t) {t k e:TypeId} (h:(T t).kd=.map k e):P.underlying t=some (.map k e):=by
 obtain ⟨i,d,_,hd,hk,_⟩:=qcz hT (t:=t) (by rw [h];simp)
 rw [h] at hk
 cases d <;> simp [kdOf] at hk
 obtain ⟨rfl,rfl⟩:=hk;exact hd
theorem qnv (hT:∀ t,T t=tab P t) {t:TypeId} {k:IntKind} (h:(T t).kd=.int k):P.underlying t=some (.int k):=by
 obtain ⟨i,d,_,hd,hk,_⟩:=qcz hT (t:=t) (by rw [h];simp)
 rw [h] at hk
 cases d <;> simp [kdOf] at hk
 subst hk;exact hd
theorem qnw (hT:∀ t,T t=tab P t) {t:TypeId} (h:(T t).kd=.bool):P.underlying t=some .bool:=by
 obtain ⟨i,d,_,hd,hk,_⟩:=qcz hT (t:=t) (by rw [h];simp)
 rw [h] at hk
 cases d <;> simp [kdOf] at hk
 exact hd
theorem qnx (hT:∀ t,T t=tab P t) {t:TypeId} {n:Nat} {e:TypeId} (h:(T t).kd=.array n e):P.underlying t=some (.array n e):=by
 obtain ⟨i,d,_,hd,hk,_⟩:=qcz hT (t:=t) (by rw [h];simp)
 rw [h] at hk
 cases d <;> simp [kdOf] at hk
 obtain ⟨rfl,rfl⟩:=hk;exact hd
theorem qkg (hT:∀ t,T t=tab P t) {t:TypeId} {fs:List (Nat × TypeId)} (h:(T t).kd=.struct fs) :
  ∃ fields:Array Field,P.underlying t=some (.struct fields)∧fs=fields.toList.map fun f=>(f.offset,f.type):=by
 obtain ⟨i,d,_,hd,hk,_⟩:=qcz hT (t:=t) (by rw [h];simp)
 rw [h] at hk
 cases d <;> simp [kdOf] at hk
 exact ⟨_,hd,hk⟩
theorem qaw (hT:∀ t,T t=tab P t) {t:TypeId} (h:1≤(T t).size):∃ i,P.info? t=some i∧(T t).size=i.size∧(T t).bytes=i.bytes ∧
  (T t).zero=qfd i:=by
 rw [hT] at h ⊢
 unfold tab at h ⊢
 split at h
 ·rename_i i d h1 h2
  exact ⟨i,h1,rfl,rfl,rfl⟩
 ·simp at h
theorem qny (hT:∀ t,T t=tab P t) {t:TypeId} (h:1≤(T t).size) (w:World):(isAgg t).run P w=.ok (qaq (T t).kd) w:=by
 rw [hT] at h ⊢
 unfold tab at h ⊢
 split at h
 ·rename_i i d h1 h2
  simp only [isAgg,Sem.run_bind,run_underlying h2,Result.andThen]
  cases d <;> simp [kdOf,qaq]
 ·simp at h
theorem qkh (rd:Rd) (mp:Mp) (v:Value):Rel rd mp (qcs v) v:=by
 unfold qcs
 split <;> first|exact .int _ _ _|exact .bool _ _|exact .any _ _|exact .nils _|exact .nilp _|skip
 rename_i s
 have:s=⟨s.data.toList.toArray⟩:=by cases s;simp
 conv=>arg 4;rw [this]
 exact .str _ _
theorem qze (rd:Rd) (mp:Mp) (v:Value):Rel rd mp (qjy v) v:=by
 cases v with
 | agg cs=>
  simp only [qjy]
  refine .agg _ _ _ (by simp) (fun j x u hx hu=>?_)
  simp [hu] at hx
  subst hx
  exact qkh rd mp u
 | _=>simp only [qjy];apply qkh
theorem qac (h:SR c rd mp s a w) (x:Operand):Rel rd mp (ev s x) (a.eval x):=by
 cases x with
 | tmp t=>exact h.slots t
 | const v=>exact qze rd mp v
 | global g=>exact .any _ _
 | func f=>exact .fn _ _ _ _ rfl (fun j x v hx _=>by simp at hx)
theorem qcg {st:List (Nat × SO)} {nx:Nat} (hm:Mem c rd mp st nx w) {x:AV} {v:Value} (h:Rel rd mp x v) (hc:obT (qm st x)):Rel rd mp (strip st x) v:=by
 cases x with
 | cnd q y=>
  cases h with
  | cnd _ _ _ _ h _=>exact h hc
 | own r i e n=>
  simp only [strip]
  split
  ·rename_i sz ep m f hl
   simp only [qm,hl] at hc
   obtain ⟨rfl,rfl,rfl⟩:=hc
   obtain ⟨v',h1,h2⟩:=hm.ro _ _ _ _ _ hl
   cases h with
   | own _ _ _ _ _ _ vr er nr g1 g2 g3 g4 _=>
    rw [h1] at g1;cases g1
    rw [g4 rfl rfl]
    exact h2.mono (Rd.le.refl _) (Mp.none_le _)
  ·exact h
 | _=>exact h
theorem jn {k:IntKind} {n:Int} {v:Value} (h:Rel rd mp (.int k n) v):v=.int k n:=by cases h;rfl
theorem rel_bool {b:Bool} {v:Value} (h:Rel rd mp (.bool b) v):v=.bool b:=by cases h;rfl
theorem qar {l:List UInt8} {v:Value} (h:Rel rd mp (.str l) v):v=.string ⟨l.toArray⟩:=by cases h;rfl
theorem qsa {k:IntKind} {n:Int} (h:inR k n):k.wrap n=n:=by
 unfold inR at h
 cases k <;> simp [IntKind.min,IntKind.max,IntKind.wrap,IntKind.signed,IntKind.bits] at h ⊢ <;> (try split) <;> omega
theorem qfm {st:List (Nat × SO)} {r i:Nat} {ob:Option DP} {R:RowV} (h:qk st r i=some (ob,R)) (hob:obT ob):IsMem st r i R:=by
 unfold qk at h
 split at h
 ·rename_i ids e sz ep n f hl
  cases hi:Nat.beq i 0 with
  | false=>simp [hi] at h
  | true=>
   simp only [hi,cond_true,Option.some.injEq,Prod.mk.injEq] at h
   obtain ⟨rfl,rfl⟩:=h
   obtain rfl:i=0:=zq hi
   exact .row hl
 ·rename_i e sz cnt ep len f hl
  simp only [Option.some.injEq,Prod.mk.injEq] at h
  obtain ⟨rfl,rfl⟩:=h
  exact .fam hl hob
 ·cases h
theorem qki {r i e n:Nat} {v:Value} (hr:Rel rd mp (.own r i e n) v):∃ vr er nr,mp.row r i=some (vr,er,nr)∧e≤er∧(e=er→n≤nr)∧(e=er→n=nr→v=vr):=by
 cases hr with
 | own _ _ _ _ _ _ vr er nr h1 h2 h3 h4 _=>exact ⟨vr,er,nr,h1,h2,h3,h4⟩
theorem qnz {r i e n sz k o:Nat} {v:Value} (hr:Rel rd mp (.eptr r i e n sz k o) v):∃ vr er nr,mp.row r i=some (vr,er,nr)∧e≤er∧(e=er→n≤nr) ∧
  (e=er→n=nr→∃ g lo cap,vr=.slice (some ⟨g,lo,none⟩) n cap∧v=.pointer (some ⟨g,lo+(k * sz+o),none⟩)):=by
 cases hr with
 | eptr _ _ _ _ _ _ _ _ _ vr er nr h1 h2 h3 h4=>exact ⟨vr,er,nr,h1,h2,h3,h4⟩
theorem qcc {st:List (Nat × SO)} {nx:Nat} (hm:Mem c rd mp st nx w) {r i e n:Nat} {ob:Option DP} {R:RowV} {v:Value} (hr:qk st r i=some (ob,R)) (hob:obT ob) (hx:Rel rd mp (.own r i e n) v) (hn:e=R.ep∧n=R.n) :
  ∃ xs,mp.row r i=some (v,R.ep,R.n)∧Owns w R.e R.sz v R.n xs∧(∀ k,k<R.n→(R.f k).length=R.sz) ∧
   (∀ (k j:Nat) x,k<R.n→(R.f k)[j]?=some x→∃ u,xs[k * R.sz+j]?=some u∧u.oneCell'=true∧Rel rd (mp.sel R.ids) x u) ∧
   (∀ g,v.ownBlock=some g→(∀ o,rd g o=none)∧(c.w0.heap.size≤g∨c.fx g)):=by
 obtain ⟨v',xs,h1,h2⟩:=hm.mb r i R (qfm hr hob)
 obtain ⟨vr,er,nr,g1,_,_,g4⟩:=qki hx
 rw [h1] at g1;cases g1
 cases g4 hn.1 hn.2
 exact ⟨xs,h1,h2⟩
def Quiet (P:Program) (c:Ctx) (rd:Rd) (mp:Mp) (st:List (Nat × SO)) (nx:Nat) (w:World) (v:AV) (m:Sem Value):Prop:=
 ∃ x w' rd',m.run P w=.ok x w'∧Rd.le rd rd'∧Mem c rd' mp st nx w'∧Rel rd' mp v x
def qsb (P:Program) (c:Ctx) (rd:Rd) (mp:Mp) (st':List (Nat × SO)) (nx':Nat) (w:World) (v:AV) (m:Sem Value):Prop:=
 ∃ x w' rd' mp',m.run P w=.ok x w'∧Rd.le rd rd'∧Mp.le mp mp'∧Mem c rd' mp' st' nx' w'∧Rel rd' mp' v x
def Fits (P:Program) (c:Ctx) (rd:Rd) (mp:Mp) (st:List (Nat × SO)) (nx:Nat) (w:World) (r:OR) (m:Sem Value):Prop:=
 match r with
 | .ok ob v=>obT ob→Quiet P c rd mp st nx w v m
 | .mem ob v st' nx'=>obT ob→qsb P c rd mp st' nx' w v m
 | .call _ _=>False
 | .bad=>True
theorem Quiet.here {st:List (Nat × SO)} {nx:Nat} {v:AV} {m:Sem Value} {x:Value} (hm:Mem c rd mp st nx w) (hr:m.run P w=.ok x w) (h:Rel rd mp v x):Quiet P c rd mp st nx w v m:=
 ⟨x,w,rd,hr,Rd.le.refl _,hm,h⟩
theorem Fits.also {st:List (Nat × SO)} {nx:Nat} {r:OR} {m:Sem Value} {p:Option DP} (h:obT p→Fits P c rd mp st nx w r m):Fits P c rd mp st nx w (also p r) m:=by
 cases r with
 | ok ob v=>exact fun hob=>h ((qv _ _).1 hob).1 ((qv _ _).1 hob).2
 | mem ob v st' nx'=>exact fun hob=>h ((qv _ _).1 hob).1 ((qv _ _).1 hob).2
 | call f args=>trivial
 | bad=>trivial
theorem qgo {st:List (Nat × SO)} {nx:Nat} (hm:Mem c rd mp st nx w) (wr:Bool) (k:IntKind) (n:Int) (m:Sem Value) (hr:m.run P w=.ok (.int k (k.wrap n)) w):Fits P c rd mp st nx w (qdt wr k n) m:=by
 cases wr with
 | true=>exact fun _=>.here hm hr (.int _ _ _)
 | false=>exact fun h=>.here hm hr (by rw [qsa h];exact .int _ _ _)
theorem qzf {st:List (Nat × SO)} {nx:Nat} (hm:Mem c rd mp st nx w) (wr:Bool) (op:BinOp) (t:TypeId) (k:IntKind) (x y:Int):Fits P c rd mp st nx w (intO wr op k x y) (binOp op t (.int k x) (.int k y)):=by
 cases op with
 | add=>exact qgo hm _ _ _ _ (by simp [binOp,Op.intArith])
 | sub=>exact qgo hm _ _ _ _ (by simp [binOp,Op.intArith])
 | mul=>exact qgo hm _ _ _ _ (by simp [binOp,Op.intArith])
 | quo=>exact fun h=>.here hm (by simp [binOp,Op.intDiv,h.1];rfl) (by rw [qsa h.2];exact .int _ _ _)
 | rem=>exact fun h=>.here hm (x:=.int k (x.tmod y)) (by have h':y≠0:=h;simp [binOp,Op.intDiv,h']) (.int _ _ _)
 | and=>exact fun _=>.here hm (x:=.int k (bitI .and k x y)) (by simp [binOp,Op.intBits,bitI]) (.int _ _ _)
 | or=>exact fun _=>.here hm (x:=.int k (bitI .or k x y)) (by simp [binOp,Op.intBits,bitI]) (.int _ _ _)
 | xor=>exact fun _=>.here hm (x:=.int k (bitI .xor k x y)) (by simp [binOp,Op.intBits,bitI]) (.int _ _ _)
 | eql=>exact fun _=>.here hm (x:=.bool (x == y)) (by simp [binOp,Op.intCmp]) (.bool _ _)
 | neq=>exact fun _=>.here hm (x:=.bool (x != y)) (by simp [binOp,Op.intCmp]) (.bool _ _)
 | lss=>exact fun _=>.here hm (x:=.bool (decide (x<y))) (by simp [binOp,Op.intCmp]) (.bool _ _)
 | leq=>exact fun _=>.here hm (x:=.bool (decide (x≤y))) (by simp [binOp,Op.intCmp]) (.bool _ _)
 | gtr=>exact fun _=>.here hm (x:=.bool (decide (y<x))) (by simp [binOp,Op.intCmp]) (.bool _ _)
 | geq=>exact fun _=>.here hm (x:=.bool (decide (y≤x))) (by simp [binOp,Op.intCmp]) (.bool _ _)
 | _=>trivial
end Go.Sx
end
section
namespace Go.Sx
open Go Go.RowKit
variable {P:Program} {T:Nat→TI} {C:Cfg} {c:Ctx} {rd:Rd} {mp:Mp} {st:List (Nat × SO)} {nx:Nat} {w:World}
theorem qsc (l:List UInt8):(⟨l.toArray⟩:ByteArray).toList=l:=by rw [ByteArray.toList_eq]
theorem qep (l:List UInt8):(⟨l.toArray⟩:ByteArray).size=l.length:=by simp [ByteArray.size]
theorem qzg (hm:Mem c rd mp st nx w) (op:BinOp) (t:TypeId) (x y:List UInt8):Fits P c rd mp st nx w (strO op x y) (binOp op t (.string ⟨x.toArray⟩) (.string ⟨y.toArray⟩)):=by
 cases op with
 | add=>
  intro h
  have h':x.length+y.length≤9223372036854775807:=h
  have hx:(⟨x.toArray⟩:ByteArray)++⟨y.toArray⟩=⟨(x++y).toArray⟩:=by
   apply ByteArray.ext
   simp
  refine .here hm (x:=.string ⟨(x++y).toArray⟩) ?_ (.str _ _)
  have hn:¬ (((⟨x.toArray⟩:ByteArray).size+(⟨y.toArray⟩:ByteArray).size:Nat):Int) > IntKind.i64.max:=by
   rw [qep,qep];simp [IntKind.max,IntKind.signed,IntKind.bits];omega
  simp only [binOp,Op.stringOp,hn,if_false,hx]
  rfl
 | eql=>exact fun _=>.here hm (x:=.bool (x == y)) (by simp [binOp,Op.stringOp]) (.bool _ _)
 | neq=>exact fun _=>.here hm (x:=.bool (!(x == y))) (by simp [binOp,Op.stringOp]) (.bool _ _)
 | lss=>exact fun _=>.here hm (x:=.bool (Op.bytesLess x y)) (by simp [binOp,Op.stringOp]) (.bool _ _)
 | _=>trivial
theorem qgp {cs:List AV} {v:Value} (h:Rel rd mp (.agg cs) v):∃ vs:Array Value,v=.agg vs∧vs.size=cs.length∧∀ (j:Nat) x u,cs[j]?=some x→vs[j]?=some u→Rel rd mp x u:=by
 cases h with
 | agg _ _ vs hs he=>exact ⟨vs,rfl,hs,he⟩
theorem qsd {cs:List AV} {v:Value} (h:Rel rd mp (.tup cs) v):∃ vs:Array Value,v=.tuple vs∧vs.size=cs.length∧∀ (j:Nat) x u,cs[j]?=some x→vs[j]?=some u→Rel rd mp x u:=by
 cases h with
 | tup _ _ vs hs he=>exact ⟨vs,rfl,hs,he⟩
theorem qse (hT:∀ t,T t=tab P t) {t:TypeId} (hk:(T t).kd≠.other) (ha:qaq (T t).kd=false) (vs:Array Value) (o:Nat) (v:Value) (h:vs[o]?=some v) (w:World):(part t vs o).run P w=.ok v w:=by
 obtain ⟨i,d,h1,h2,h3,_⟩:=qcz hT hk
 have hg:(isAgg t).run P w=.ok false w:=by
  simp only [isAgg,Sem.run_bind,run_underlying h2,Result.andThen]
  rw [h3] at ha
  cases d <;> simp [kdOf,qaq] at ha ⊢
 simp [part,hg,h]
theorem qzh (hT:∀ t,T t=tab P t) (d:Nat) (vs us:Array Value):∀ (fs:List Field) (i:Nat) (xs ys:List AV) (b:Bool),
  (fs.all fun f => f.name != "_") = true →
  (∀ (j:Nat) x,xs[j]?=some x→∃ u,vs[i+j]?=some u∧Rel rd mp x u)→(∀ (j:Nat) x,ys[j]?=some x→∃ u,us[i+j]?=some u∧Rel rd mp x u)→
  qct T i (fs.map fun f=>(f.offset,f.type)) xs ys=some b→(Op.eqFields (d+1) vs us fs).run P w=.ok b w:=by
 intro fs
 induction fs with
 | nil=>
  intro i xs ys b _ _ _ hb
  cases xs <;> cases ys <;> simp [qct] at hb
  subst hb
  simp [Op.eqFields]
 | cons f fs ih=>
  intro i xs ys b hn hvs hus hb
  cases xs with
  | nil=>simp [qct] at hb
  | cons x xs=>
   cases ys with
   | nil=>simp [qct] at hb
   | cons y ys=>
    simp only [zag,qct] at hb
    cases ho:Nat.beq f.offset i with
    | false=>simp [ho] at hb
    | true=>
     simp only [ho,cond_true] at hb
     have ho':f.offset=i:=zq ho
     simp only [List.all_cons,zh] at hn
     have hnm : f.name ≠ "_" := by simpa using hn.1
     obtain ⟨u,hu,hru⟩:=hvs 0 x rfl
     obtain ⟨u',hu',hru'⟩:=hus 0 y rfl
     simp only [zac] at hu hu'
     have hvs':∀ (j:Nat) z,xs[j]?=some z→∃ u,vs[(i+1)+j]?=some u∧Rel rd mp z u:=fun j z hz=>by
      have:=hvs (j+1) z (by simpa using hz)
      rwa [show i+(j+1)=i+1+j by omega] at this
     have hus':∀ (j:Nat) z,ys[j]?=some z→∃ u,us[(i+1)+j]?=some u∧Rel rd mp z u:=fun j z hz=>by
      have:=hus (j+1) z (by simpa using hz)
      rwa [show i+(j+1)=i+1+j by omega] at this
     have step:∀ q:Bool,(Op.equalIn (d+1) f.type u u').run P w=.ok q w→(qaq (T f.type).kd=false∧(T f.type).kd≠.other)→
       ∀ b',qct T (i+1) (fs.map fun f=>(f.offset,f.type)) xs ys=some b'→b=(q && b')→(Op.eqFields (d+1) vs us (f::fs)).run P w=.ok b w:=by
      intro q hq hagg b' hb' hbb
      have p1:=qse hT hagg.2 hagg.1 vs f.offset u (by rw [ho'];exact hu) w
      have p2:=qse hT hagg.2 hagg.1 us f.offset u' (by rw [ho'];exact hu') w
      have hrest:=ih (i+1) xs ys b' hn.2 hvs' hus' hb'
      cases q with
      | true=>simp [Op.eqFields,hnm,p1,p2,hq,hrest,hbb]
      | false=>simp [Op.eqFields,hnm,p1,p2,hq,hbb]
     split at hb
     ·rename_i k2 k n k' n' hkt
      by_cases hkk:k=k'
      ·subst hkk
       simp only [decide_true,cond_true,Option.map_eq_some_iff] at hb
       obtain ⟨b',hb',rfl⟩:=hb
       rw [jn hru,jn hru'] at step
       exact step _ (run_equalIn_int w d f.type k k2 n n' (qnv hT hkt)) (by rw [hkt];simp [qaq]) b' hb' rfl
      ·simp [hkk] at hb
     ·rename_i p q hkt
      simp only [Option.map_eq_some_iff] at hb
      obtain ⟨b',hb',rfl⟩:=hb
      rw [rel_bool hru,rel_bool hru'] at step
      exact step _ (run_equalIn_bool' w d f.type p q (qnw hT hkt)) (by rw [hkt];simp [qaq]) b' hb' rfl
     ·rename_i p q hkt
      simp only [Option.map_eq_some_iff] at hb
      obtain ⟨b',hb',rfl⟩:=hb
      rw [qar hru,qar hru'] at step
      refine step _ ?_ (by rw [hkt];simp [qaq]) b' hb' rfl
      rw [run_equalIn_string w d f.type _ _ (qaz hT hkt),qsc,qsc]
     ·cases hb
theorem qsf (hT:∀ t,T t=tab P t) (hm:Mem c rd mp st nx w) (neg:Bool) (t:TypeId) (xs ys:List AV) (u v:Value) (hu:Rel rd mp (.agg xs) u) (hv:Rel rd mp (.agg ys) v) (xo yo:Operand) :
  Fits P c rd mp st nx w (aggO T neg t xs ys) (do eqGuard (if neg then .neq else .eql) t xo yo u v;binOp (if neg then .neq else .eql) t u v):=by
 unfold aggO
 split
 ·rename_i fs hk
  ·cases he:qct T 0 fs xs ys with
   | none=>trivial
   | some b=>
    intro hc
    simp only [obT] at hc
    obtain ⟨us,rfl,hus,hue⟩:=qgp hu
    obtain ⟨vs,rfl,hvs,hve⟩:=qgp hv
    obtain ⟨fields,hd,rfl⟩:=qkg hT hk
    obtain ⟨i,d,h1,h2,_,_,_,_,h3⟩:=qcz hT (t:=t) (by rw [hk];simp)
    rw [hd] at h2;cases h2
    rw [h3] at hc
    simp only [qjz,zh,xr] at hc
    have hf:P.fieldsOf t=fields:=by simp [Program.fieldsOf,hd]
    have hrun:=run_equalIn_struct w 9999 t us vs (by rw [hf];exact hd) hc.1.1
    rw [hf] at hrun
    have heq:=qzh (rd:=rd) (mp:=mp) (w:=w) hT 9998 us vs fields.toList 0 xs ys b hc.2
     (fun j x hx=>by
      have hj:j<us.size:=by rw [hus];exact (List.getElem?_eq_some_iff.1 hx).1
      exact ⟨us[j],by simp [hj],hue j x _ hx (by simp [hj])⟩)
     (fun j x hx=>by
      have hj:j<vs.size:=by rw [hvs];exact (List.getElem?_eq_some_iff.1 hx).1
      exact ⟨vs[j],by simp [hj],hve j x _ hx (by simp [hj])⟩) he
    rw [heq] at hrun
    cases neg with
    | false=>exact .here hm (x:=.bool b) (by simp [eqGuard,binOp,Op.equal,Op.maxDepth,hrun,hc.1.2]) (.bool _ _)
    | true=>exact .here hm (x:=.bool (!b)) (by simp [eqGuard,binOp,Op.equal,Op.maxDepth,hrun,hc.1.2]) (.bool _ _)
 ·trivial
end Go.Sx
end
section
namespace Go.Sx
open Go Go.RowKit
variable {P:Program} {T:Nat→TI} {C:Cfg} {c:Ctx} {rd:Rd} {mp:Mp} {st:List (Nat × SO)} {nx:Nat} {w:World}
theorem qzi (hm:Mem c rd mp st nx w) (x y z:AV) (vx vy vz:Value) (hx:Rel rd mp x vx) (hy:Rel rd mp y vy) (hz:Rel rd mp z vz) :
  Fits P c rd mp st nx w (qhr x y z) (do pure (if ← asBool vx then vy else vz)):=by
 unfold qhr
 split
 ·rename_i p b1 b2
  intro _
  cases rel_bool hx;cases rel_bool hy;cases rel_bool hz
  exact .here hm (x:=.bool (bif p then b1 else b2)) (by cases p <;> simp [asBool]) (.bool _ _)
 ·rename_i p q b1 b2
  intro h
  cases rel_bool hx;cases rel_bool hz
  cases p with
  | false=>exact .here hm (x:=.bool b2) (by simp [asBool]) (.bool _ _)
  | true=>
   cases hy with
   | cnd _ _ _ _ hy _=>
    cases rel_bool (hy (h rfl))
    exact .here hm (x:=.bool b1) (by simp [asBool]) (.bool _ _)
 ·rename_i p b1 q b2
  intro h
  cases rel_bool hx;cases rel_bool hy
  cases p with
  | true=>exact .here hm (x:=.bool b1) (by simp [asBool]) (.bool _ _)
  | false=>
   cases hz with
   | cnd _ _ _ _ hz _=>
    cases rel_bool (hz (h rfl))
    exact .here hm (x:=.bool b2) (by simp [asBool]) (.bool _ _)
 ·trivial
theorem qzj (hm:Mem c rd mp st nx w) (x y:AV) (vx vy:Value) (hx:Rel rd mp x vx) (hy:Rel rd mp y vy) :
  Fits P c rd mp st nx w (andP x y) (do pure (if ← asBool vx then vy else .bool false)):=by
 unfold andP
 split
 ·rename_i p b1
  intro _
  cases rel_bool hx;cases rel_bool hy
  exact .here hm (x:=.bool (p && b1)) (by cases p <;> simp [asBool]) (.bool _ _)
 ·rename_i p q b1
  intro h
  cases rel_bool hx
  cases p with
  | false=>exact .here hm (x:=.bool false) (by simp [asBool]) (.bool _ _)
  | true=>
   cases hy with
   | cnd _ _ _ _ hy _=>
    cases rel_bool (hy (h rfl))
    exact .here hm (x:=.bool b1) (by simp [asBool]) (by rw [zbc];exact .bool _ _)
 ·trivial
theorem qzk (hm:Mem c rd mp st nx w) (x y:AV) (vx vy:Value) (hx:Rel rd mp x vx) (hy:Rel rd mp y vy) :
  Fits P c rd mp st nx w (orP x y) (do pure (if ← asBool vx then .bool true else vy)):=by
 unfold orP
 split
 ·rename_i p b1
  intro _
  cases rel_bool hx;cases rel_bool hy
  exact .here hm (x:=.bool (p || b1)) (by cases p <;> simp [asBool]) (.bool _ _)
 ·rename_i p q b1
  intro h
  cases rel_bool hx
  cases p with
  | true=>exact .here hm (x:=.bool true) (by simp [asBool]) (.bool _ _)
  | false=>
   cases hy with
   | cnd _ _ _ _ hy _=>
    cases rel_bool (hy (h rfl))
    exact .here hm (x:=.bool b1) (by simp [asBool]) (by rw [zbs];exact .bool _ _)
 ·trivial
theorem qzl (hm:Mem c rd mp st nx w) (dst:Option Nat) (op:UnOp) (x:AV) (v:Value) (hx:Rel rd mp x v):Fits P c rd mp st nx w (unO C dst op x) (Op.unary op v):=by
 unfold unO
 split
 ·rename_i b
  cases rel_bool hx
  exact fun _=>.here hm (x:=.bool (!b)) (by simp [Op.unary]) (.bool _ _)
 ·rename_i k n
  cases jn hx
  exact qgo hm _ _ _ _ (by simp [Op.unary,Op.intArith])
 ·trivial
theorem qzm (l:List UInt8) (i:Nat):(⟨l.toArray⟩:ByteArray)[i]?=l[i]?:=by
 by_cases h:i<l.length
 ·rw [getElem?_pos _ _ (by rw [qep];exact h),zb h]
  rfl
 ·rw [getElem?_neg _ _ (by rw [qep];exact h),zy (by omega)]
theorem qzn (hT:∀ t,T t=tab P t) (hm:Mem c rd mp st nx w) (t:TypeId) (x y:AV) (vx vy:Value) (hx:Rel rd mp x vx) (hy:Rel rd mp y vy) :
  Fits P c rd mp st nx w (qhs T t x y) (Instr.index t vx vy):=by
 unfold qhs
 split
 ·rename_i l k i
  split
  ·rename_i hk
   intro h
   obtain ⟨h0,h1⟩:=h
   cases qar hx;cases jn hy
   have hi:i.toNat<l.length:=by omega
   have hb:(⟨l.toArray⟩:ByteArray)[i.toNat]?=some (l.getD i.toNat 0):=by rw [qzm];simp [List.getD,hi]
   exact .here hm (x:=.int .u8 (qnm l i)) (by simp [Instr.index,asIntOf,run_underlying (qaz hT hk),h0,hb,qnm]) (.int _ _ _)
  ·trivial
 ·rename_i cs k i
  split
  ·rename_i n e hk
   cases hc:(Nat.beq (T e).size 1 && !qaq (T e).kd && Nat.beq cs.length n) with
   | false=>trivial
   | true=>
    simp only [zh,zaj,xr] at hc
    obtain ⟨⟨h1,h2⟩,h3⟩:=hc
    intro h
    obtain ⟨h0,hl⟩:=h
    obtain ⟨vs,rfl,hs,he⟩:=qgp hx
    cases jn hy
    obtain ⟨inf,hinf,hsz,_⟩:=qaw hT (t:=e) (by omega)
    have hi:i.toNat<vs.size:=by omega
    have hag:=qny hT (t:=e) (by omega) w
    rw [h2] at hag
    refine .here hm (x:=vs[i.toNat]) ?_ (he i.toNat _ _ (by simp [List.getD,show i.toNat<cs.length by omega]) (by simp [hi]))
    simp [Instr.index,asIntOf,run_underlying (qnx hT hk),h0,hl,part,hag,sizeOf,typeInfo,hinf,← hsz,h1,hi]
  ·trivial
 ·trivial
theorem qoa (l:List UInt8) (i j:Nat):(⟨l.toArray⟩:ByteArray).extract i j=⟨((l.take j).drop i).toArray⟩:=by
 apply ByteArray.ext
 rw [ByteArray.data_extract]
 simp [List.drop_take]
theorem qob {sz n:Nat} {f:Nat→List AV} {ad:Option Addr} {cap l h:Nat} (hr:Rel rd mp (.slc sz n f) (.slice ad n cap)) (hl:l≤h) (hh:h≤n) (hc:n≤cap) :
  Rel rd mp (.slc sz (h - l) (fun i=>f (l+i))) (.slice (if cap=l then ad else ad.map (·.add (l * sz))) (h - l) (cap - l)):=by
 by_cases h0:h - l=0
 ·rw [h0];exact .slc0 _ _ _ _ _
 ·cases hr with
  | slc0=>omega
  | slc _ _ _ _ blk off _ val hn hcap hs hrd he=>
   rw [ze (by omega)]
   simp only [xu,Addr.add_lit]
   refine .slc _ _ _ _ _ _ _ (fun i j=>val (l+i) j) (by omega) (by omega) (fun i hi=>hs _ (by omega)) (fun i j hi hj=>?_) (fun i j x hi hx=>he _ _ _ (by omega) hx)
   have:=hrd (l+i) j (by omega) hj
   rw [zaq] at this
   rwa [show off+l * sz+(i * sz+j)=off+(l * sz+i * sz+j) by omega]
theorem qkj {sz n:Nat} {f:Nat→List AV} {v:Value} (hr:Rel rd mp (.slc sz n f) v):∃ ad cap,v=.slice ad n cap∧(0<n→n≤cap):=by
 cases hr with
 | slc0 _ _ _ a cap=>exact ⟨a,cap,rfl,fun h=>absurd h (by omega)⟩
 | slc _ _ _ _ blk off cap val hn hcap=>exact ⟨_,cap,rfl,fun _=>hcap⟩
theorem qsg (hT:∀ t,T t=tab P t) (hm:Mem c rd mp st nx w) (t:TypeId) (x:AV) (lo hi mx:Option AV) (vx:Value) (vlo vhi vmx:Option Value) (hx:Rel rd mp x vx)
  (hlo:∀ y,lo=some y→∃ u,vlo=some u∧Rel rd mp y u) (hlo':lo=none→vlo=none) (hhi:∀ y,hi=some y→∃ u,vhi=some u∧Rel rd mp y u) (hhi':hi=none→vhi=none)
  (hmx':mx=none→vmx=none):Fits P c rd mp st nx w (qei T t x lo hi mx) (Instr.sliceAt t vx vlo vhi vmx):=by
 have strs:∀ {t},(T t).kd=.str→∀ v lo hi mx,(Instr.sliceAt t v lo hi mx).run P w=(Instr.slice t v lo hi mx).run P w:=by
  intro t hk v lo hi mx
  simp [Instr.sliceAt,run_underlying (qaz hT hk)]
 have slcs:∀ {t e},(T t).kd=.slice e→∀ v lo hi mx,(Instr.sliceAt t v lo hi mx).run P w=(Instr.slice t v lo hi mx).run P w:=by
  intro t e hk v lo hi mx
  simp [Instr.sliceAt,run_underlying (jb hT hk)]
 unfold qei
 split
 ·rename_i l
  split
  ·rename_i hk
   intro _
   cases qar hx
   cases hlo' rfl;cases hhi' rfl;cases hmx' rfl
   refine .here hm (x:=.string ⟨l.toArray⟩) ?_ (.str _ _)
   rw [strs hk]
   simp [Instr.slice,run_underlying (qaz hT hk),Instr.sliceBounds]
  ·trivial
 ·rename_i l k n
  split
  ·rename_i hk
   intro h
   obtain ⟨h0,h1⟩:=h
   cases qar hx
   obtain ⟨u,rfl,hu⟩:=hlo _ rfl
   cases jn hu
   cases hhi' rfl;cases hmx' rfl
   refine .here hm (x:=.string ⟨(l.drop n.toNat).toArray⟩) ?_ (.str _ _)
   rw [strs hk]
   simp [Instr.slice,run_underlying (qaz hT hk),Instr.sliceBounds,Instr.sliceBound,asIntOf,h0,h1,qoa,qep]
  ·trivial
 ·rename_i l k n
  split
  ·rename_i hk
   intro h
   obtain ⟨h0,h1⟩:=h
   cases qar hx
   obtain ⟨u,rfl,hu⟩:=hhi _ rfl
   cases jn hu
   cases hlo' rfl;cases hmx' rfl
   refine .here hm (x:=.string ⟨(l.take n.toNat).toArray⟩) ?_ (.str _ _)
   rw [strs hk]
   simp [Instr.slice,run_underlying (qaz hT hk),Instr.sliceBounds,Instr.sliceBound,asIntOf,h0,h1,qoa,qep]
  ·trivial
 ·rename_i l k n k' m
  split
  ·rename_i hk
   intro h
   obtain ⟨h0,h1,h2⟩:=h
   cases qar hx
   obtain ⟨u,rfl,hu⟩:=hlo _ rfl
   cases jn hu
   obtain ⟨u,rfl,hu⟩:=hhi _ rfl
   cases jn hu
   cases hmx' rfl
   refine .here hm (x:=.string ⟨((l.take m.toNat).drop n.toNat).toArray⟩) ?_ (.str _ _)
   rw [strs hk]
   have h3:0≤m:=by omega
   simp [Instr.slice,run_underlying (qaz hT hk),Instr.sliceBounds,Instr.sliceBound,asIntOf,h0,h2,h3,qoa,qep]
   intro hlt;omega
  ·trivial
 ·rename_i sz n f k a
  split
  ·rename_i e hk
   cases hc:(Nat.beq (T e).size sz && Nat.ble 1 sz) with
   | false=>trivial
   | true=>
    simp only [zh,zaj,zx] at hc
    intro h
    obtain ⟨h0,h1⟩:=h
    obtain ⟨ad,cap,rfl,hcap⟩:=qkj hx
    obtain ⟨u,rfl,hu⟩:=hlo _ rfl
    cases jn hu
    cases hhi' rfl;cases hmx' rfl
    obtain ⟨inf,hinf,hsz,_⟩:=qaw hT (t:=e) (by omega)
    refine .here hm (x:=.slice (if cap=a.toNat then ad else ad.map (·.add (a.toNat * sz))) (n - a.toNat) (cap - a.toNat)) ?_ ?_
    ·rw [slcs hk]
     simp [Instr.slice,run_underlying (jb hT hk),Instr.sliceBounds,Instr.sliceBound,asIntOf,h0,h1,sizeOf,typeInfo,hinf,← hsz,hc.1]
    ·by_cases hn:n=0
     ·subst hn;rw [Nat.zero_sub];exact .slc0 _ _ _ _ _
     ·exact qob hx (by omega) (zj _) (hcap (by omega))
  ·trivial
 ·rename_i sz n f k a
  split
  ·rename_i e hk
   cases hc:(Nat.beq (T e).size sz && Nat.ble 1 sz) with
   | false=>trivial
   | true=>
    simp only [zh,zaj,zx] at hc
    intro h
    obtain ⟨h0,h1⟩:=h
    obtain ⟨ad,cap,rfl,hcap⟩:=qkj hx
    obtain ⟨u,rfl,hu⟩:=hhi _ rfl
    cases jn hu
    cases hlo' rfl;cases hmx' rfl
    obtain ⟨inf,hinf,hsz,_⟩:=qaw hT (t:=e) (by omega)
    have hac:a≤(cap:Int):=by
     by_cases hn:n=0
     ·omega
     ·have:=hcap (by omega);omega
    refine .here hm (x:=.slice (if cap=0 then ad else ad.map (·.add (0 * sz))) (a.toNat - 0) (cap - 0)) ?_ ?_
    ·rw [slcs hk]
     simp [Instr.slice,run_underlying (jb hT hk),Instr.sliceBounds,Instr.sliceBound,asIntOf,h0,hac,sizeOf,typeInfo,hinf]
    ·by_cases hn:n=0
     ·rw [show a.toNat - 0=0 by omega,show a.toNat=0 by omega];exact .slc0 _ _ _ _ _
     ·have:=qob hx (l:=0) (h:=a.toNat) (by omega) (by omega) (hcap (by omega))
      simpa using this
  ·trivial
 ·rename_i sz n f k a k' b
  split
  ·rename_i e hk
   cases hc:(Nat.beq (T e).size sz && Nat.ble 1 sz) with
   | false=>trivial
   | true=>
    simp only [zh,zaj,zx] at hc
    intro h
    obtain ⟨h0,h1,h2⟩:=h
    obtain ⟨ad,cap,rfl,hcap⟩:=qkj hx
    obtain ⟨u,rfl,hu⟩:=hlo _ rfl
    cases jn hu
    obtain ⟨u,rfl,hu⟩:=hhi _ rfl
    cases jn hu
    cases hmx' rfl
    obtain ⟨inf,hinf,hsz,_⟩:=qaw hT (t:=e) (by omega)
    have hac:b≤(cap:Int):=by
     by_cases hn:n=0
     ·omega
     ·have:=hcap (by omega);omega
    have hb0:0≤b:=by omega
    refine .here hm (x:=.slice (if cap=a.toNat then ad else ad.map (·.add (a.toNat * sz))) (b.toNat - a.toNat) (cap - a.toNat)) ?_ ?_
    ·rw [slcs hk]
     simp [Instr.slice,run_underlying (jb hT hk),Instr.sliceBounds,Instr.sliceBound,asIntOf,h0,hac,hb0,sizeOf,typeInfo,hinf,← hsz,hc.1]
     intro hlt;omega
    ·by_cases hn:n=0
     ·rw [show b.toNat - a.toNat=0 by omega];exact .slc0 _ _ _ _ _
     ·exact qob hx (by omega) (by omega) (hcap (by omega))
  ·trivial
 ·trivial
theorem qzo (hT:∀ t,T t=tab P t) (hm:Mem c rd mp st nx w) (t:TypeId) (x y:AV) (vx vy:Value) (hx:Rel rd mp x vx) (hy:Rel rd mp y vy) :
  Fits P c rd mp st nx w (qcu T st t x y) (Instr.indexAt t vx vy):=by
 unfold qcu
 split
 ·rename_i sz n f k i
  split
  ·rename_i e hk
   cases hc:(Nat.beq (T e).size sz && Nat.ble 1 sz) with
   | false=>trivial
   | true=>
    simp only [zh,zaj,zx] at hc
    intro h
    obtain ⟨h0,h1⟩:=h
    cases jn hy
    obtain ⟨inf,hinf,hsz,_⟩:=qaw hT (t:=e) (by omega)
    cases hx with
    | slc0=>omega
    | slc _ _ _ _ blk off cap val hn hcap hs hrd he=>
     refine .here hm (x:=.pointer (some ⟨blk,off+i.toNat * sz,none⟩)) ?_ ?_
     ·simp [Instr.indexAt,asIntOf,run_underlying (jb hT hk),h0,h1,sizeOf,typeInfo,hinf,← hsz,hc.1,Addr.add_lit]
     ·have hi:i.toNat<n:=by omega
      refine .rptr _ _ _ _ (fun j=>val i.toNat j) (fun j x hx=>?_) (fun j x hx=>he _ _ _ hi hx)
      have hj:j<sz:=by rw [← hs _ hi];exact (List.getElem?_eq_some_iff.1 hx).1
      rw [zbt]
      exact hrd _ _ hi hj
  ·trivial
 ·rename_i r i ep n k j
  split
  ·rename_i e ob R hk hl
   cases hc:(Nat.beq (T e).size R.sz && Nat.ble 1 R.sz) with
   | false=>trivial
   | true=>
    simp only [zh,zaj,zx] at hc
    intro h
    obtain ⟨hob,hn,h0,h1⟩:=(qv _ _).1 h
    cases jn hy
    obtain ⟨inf,hinf,hsz,_⟩:=qaw hT (t:=e) (by omega)
    obtain ⟨xs,hv,hown,_⟩:=qcc hm hl hob hx hn
    rcases hown.2 with ⟨_,h5⟩|⟨g,lo,cap,cur,rfl,_⟩
    ·have:=hn.2;omega
    ·have hn2:=hn.2
     refine .here hm (x:=.pointer (some ⟨g,lo+j.toNat * R.sz,none⟩)) ?_ ?_
     ·have h1':j<(R.n:Int):=by omega
      simp [Instr.indexAt,asIntOf,run_underlying (jb hT hk),h0,h1',sizeOf,typeInfo,hinf,← hsz,hc.1,Addr.add_lit]
     ·exact .eptr _ _ _ _ _ _ _ _ _ _ _ _ hv (by omega) (fun _=>by omega) (fun _ _=>⟨g,lo,cap,by rw [hn2],by simp⟩)
  ·trivial
 ·rename_i b o k i
  split
  ·rename_i n e hk
   cases hc:Nat.ble 1 (T e).size with
   | false=>trivial
   | true=>
    simp only [zx] at hc
    intro h
    obtain ⟨h0,h1⟩:=h
    cases jn hy
    obtain ⟨inf,hinf,hsz,_⟩:=qaw hT (t:=e) hc
    cases hx with
    | ptr _ _ _ blk hb=>
     refine .here hm (x:=.pointer (some ⟨blk,o+i.toNat * (T e).size,none⟩)) ?_ (.ptr _ _ _ _ hb)
     simp [Instr.indexAt,asIntOf,run_underlying (qnx hT hk),Instr.sureAddr,h0,h1,sizeOf,typeInfo,hinf,← hsz,Addr.add_lit]
  ·trivial
 ·trivial
end Go.Sx
end
section
namespace Go.Sx
open Go Go.RowKit
variable {P:Program} {T:Nat→TI} {C:Cfg} {c:Ctx} {rd:Rd} {mp:Mp} {st:List (Nat × SO)} {nx:Nat} {w:World}
theorem qeq {b o:Nat} {v:Value} (hr:Rel rd mp (.ptr b o) v):∃ g,mp.blk b=some g∧v=.pointer (some ⟨g,o,none⟩):=by
 cases hr with
 | ptr _ _ _ g h=>exact ⟨g,h,rfl⟩
theorem qoc {cs:List AV} {v:Value} (hr:Rel rd mp (.rptr cs) v):∃ g o,v=.pointer (some ⟨g,o,none⟩)∧∀ (j:Nat) x,cs[j]?=some x→∃ u,rd g (o+j)=some u∧Rel rd Mp.none x u:=by
 cases hr with
 | rptr _ _ g o val h1 h2=>exact ⟨g,o,rfl,fun j x hx=>⟨val j,h1 j x hx,h2 j x hx⟩⟩
theorem qzp (hT:∀ t,T t=tab P t) (hm:Mem c rd mp st nx w) (t:TypeId) (fi:Nat) (x:AV) (v:Value) (hx:Rel rd mp x v) :
  Fits P c rd mp st nx w (qej T st t fi x) (Instr.fieldAt t v fi):=by
 unfold qej
 split
 ·rename_i fs hk
  split
  ·rename_i off ft hf
   cases hc:Nat.ble 1 (T ft).size with
   | false=>trivial
   | true=>
    simp only [cond_true]
    obtain ⟨fields,hd,rfl⟩:=qkg hT hk
    simp only [zm,Option.map_eq_some_iff] at hf
    obtain ⟨fd,hfd,heq⟩:=hf
    simp only [Prod.mk.injEq] at heq
    obtain ⟨rfl,rfl⟩:=heq
    have hfd':fields[fi]?=some fd:=by simpa using hfd
    obtain ⟨inf,hinf,hsz,_⟩:=qaw hT (t:=fd.type) (by simpa [zx] using hc)
    have hs0:inf.size≠0:=by
     have:1≤(T fd.type).size:=by simpa [zx] using hc
     omega
    have run:∀ g o,(Instr.fieldAt t (.pointer (some ⟨g,o,none⟩)) fi).run P w=.ok (.pointer (some ⟨g,o+fd.offset,none⟩)) w:=by
     intro g o
     simp [Instr.fieldAt,run_underlying hd,hfd',Instr.sureAddr,fieldPlace,sizeOf,typeInfo,hinf,hs0,Addr.add_lit]
    split
    ·obtain ⟨g,hg,rfl⟩:=qeq hx
     exact fun _=>.here hm (run _ _) (.ptr _ _ _ _ hg)
    ·rename_i r i e n sz k o
     split
     ·rename_i ob R hl
      intro hob
      obtain ⟨hob1,hn⟩:=(qv _ _).1 hob
      obtain ⟨v',xs,hv',_⟩:=hm.mb r i R (qfm hl hob1)
      obtain ⟨vr,er,nr,h1,h2,h3,h4⟩:=qnz hx
      rw [hv'] at h1;cases h1
      obtain ⟨g,lo,cap,hv,rfl⟩:=h4 hn.1 hn.2
      refine .here hm (run _ _) (.eptr _ _ _ _ _ _ _ _ _ _ _ _ hv' h2 h3 (fun _ _=>⟨g,lo,cap,hv,?_⟩))
      rw [zbt,zbt]
     ·trivial
    ·rename_i cs
     obtain ⟨g,o,rfl,h⟩:=qoc hx
     intro _
     refine .here hm (run _ _) (.rptr _ _ _ _ (fun j=>(rd g (o+fd.offset+j)).getD undef) (fun j x hx=>?_) (fun j x hx=>?_))
     ·rw [xa] at hx
      obtain ⟨u,hu,_⟩:=h _ _ hx
      rw [← zbt] at hu
      simp [hu]
     ·rw [xa] at hx
      obtain ⟨u,hu,hr⟩:=h _ _ hx
      rw [← zbt] at hu
      simpa [hu] using hr
    ·trivial
  ·trivial
 ·trivial
theorem qsh (hT:∀ t,T t=tab P t) (t:TypeId) (cs:List AV) (g o:Nat)
  (h:∀ (j:Nat) x,cs[j]?=some x→∃ u,w.cell? ⟨g,o+j,none⟩=some u∧Rel rd mp x u) (ob:Option DP) (y:AV) (hy:qbe (T t) cs=.ok ob y) :
  ∃ x,(Instr.loadAt t (.pointer (some ⟨g,o,none⟩))).run P w=.ok x w∧Rel rd mp y x:=by
 unfold qbe at hy
 cases hag:qaq (T t).kd with
 | true=>
  simp only [hag,cond_true] at hy
  cases hl:Nat.ble (T t).size cs.length with
  | false=>simp [hl] at hy
  | true=>
   simp only [hl,cond_true,OR.ok.injEq] at hy
   obtain ⟨_,rfl⟩:=hy
   have hle:(T t).size≤cs.length:=Nat.le_of_ble_eq_true hl
   obtain ⟨inf,d,h1,h2,h3,h4,_⟩:=qcz hT (t:=t) (by intro e;rw [e] at hag;simp [qaq] at hag)
   have hg:(isAgg t).run P w=.ok true w:=by
    simp only [isAgg,Sem.run_bind,run_underlying h2,Result.andThen]
    rw [h3] at hag
    cases d <;> simp [kdOf,qaq] at hag ⊢
   have hcell:∀ j,j<inf.size→w.cell? ((⟨g,o,none⟩:Addr).add j)=some ((w.cell? ⟨g,o+j,none⟩).getD undef):=by
    intro j hj
    obtain ⟨u,hu,_⟩:=h j (cs[j]'(by omega)) (zb (by omega))
    rw [Addr.add_lit,hu];rfl
   refine ⟨.agg ((Array.range inf.size).map fun j=>(w.cell? ⟨g,o+j,none⟩).getD undef),?_,?_⟩
   ·simp [Instr.loadAt,Instr.sureAddr,loadVar,hg,sizeOf,typeInfo,h1,run_loadCells w _ _ _ hcell]
    apply Array.ext
    ·simp
    ·intro i h1 h2;simp
   ·refine .agg _ _ _ (by simp;omega) (fun j x v hx hv=>?_)
    rw [xc] at hx
    split at hx
    ·obtain ⟨u,hu,hr⟩:=h j x hx
     rw [zax] at hv
     obtain ⟨j',hj',rfl⟩:=Option.map_eq_some_iff.1 hv
     have:j'=j:=by
      rw [Array.getElem?_range] at hj'
      split at hj'
      ·cases hj';rfl
      ·cases hj'
     subst this
     simpa [hu] using hr
    ·cases hx
 | false=>
  simp only [hag,cond_false] at hy
  cases hs:Nat.beq (T t).size 1 with
  | false=>simp [hs] at hy
  | true=>
   have hs':(T t).size=1:=zq hs
   simp only [hs,cond_true] at hy
   cases cs with
   | nil=>simp at hy
   | cons x r=>
    simp only [OR.ok.injEq] at hy
    obtain ⟨_,rfl⟩:=hy
    obtain ⟨u,hu,hr⟩:=h 0 x rfl
    have hg:=qny hT (t:=t) (by omega) w
    rw [hag] at hg
    exact ⟨u,by simp at hu;simp [Instr.loadAt,Instr.sureAddr,loadVar,hg,hu],hr⟩
theorem qzq (ti:TI) (cs:List AV):qbe ti cs=.bad∨∃ y,qbe ti cs=.ok none y:=by
 unfold qbe
 cases qaq ti.kd <;> cases Nat.ble ti.size cs.length <;> cases Nat.beq ti.size 1 <;> cases cs <;> simp
theorem qod (hT:∀ t,T t=tab P t) (hm:Mem c rd mp st nx w) (t:TypeId) (cs:List AV) (g o:Nat)
  (h:∀ (j:Nat) x,cs[j]?=some x→∃ u,w.cell? ⟨g,o+j,none⟩=some u∧Rel rd mp x u):Fits P c rd mp st nx w (qbe (T t) cs) (Instr.loadAt t (.pointer (some ⟨g,o,none⟩))):=by
 rcases qzq (T t) cs with hb|⟨y,hy⟩
 ·rw [hb];trivial
 ·rw [hy]
  intro _
  obtain ⟨x,hx,hr⟩:=qsh (P:=P) hT t cs g o h none y hy
  exact .here hm hx hr
theorem qzr (hT:∀ t,T t=tab P t) (hm:Mem c rd mp st nx w) (t:TypeId) {b o:Nat} {ty:TypeId} (hty:ty≠mapTy) {cs:List AV} (hl:look st b=some (.box ty cs)) {v:Value} (hv:Rel rd mp (.ptr b o) v) (ob:Option DP) (y:AV) (hy:qbe (T t) (cs.drop o)=.ok ob y) :
  ∃ ad x,v=.pointer (some ad)∧(Instr.loadAt t v).run P w=.ok x w∧Rel rd mp y x:=by
 obtain ⟨g,hg,rfl⟩:=qeq hv
 obtain ⟨b',vs,h1,h2,h3,h4,h5,h6⟩:=hm.bx b _ _ hl
 rw [hg] at h1;cases h1
 have h2:=h2.cells hty
 obtain ⟨x,h7,h8⟩:=qsh (P:=P) (w:=w) (rd:=rd) (mp:=mp) hT t (cs.drop o) g o (fun j x hx=>by
  rw [xa] at hx
  have hlt:o+j<vs.size:=by rw [h3];exact (List.getElem?_eq_some_iff.1 hx).1
  refine ⟨vs[o+j],?_,h4 _ _ _ hx (by simp [hlt])⟩
  rw [cell_of_row w g (o+j) vs ty (0,0) h2]
  simp [hlt]) ob y hy
 exact ⟨_,x,rfl,h7,h8⟩
theorem qzs (hT:∀ t,T t=tab P t) (hm:Mem c rd mp st nx w) (t:TypeId) (x:AV) (v:Value) (hx:Rel rd mp x v):Fits P c rd mp st nx w (qdu T st t x) (Instr.loadAt t v):=by
 unfold qdu
 split
 ·rename_i cs
  obtain ⟨g,o,rfl,h⟩:=qoc hx
  refine qod hT hm t cs g o (fun j x hx=>?_)
  obtain ⟨u,hu,hr⟩:=h j x hx
  exact ⟨u,hm.rdw _ _ _ hu,hr.mono (Rd.le.refl _) (Mp.none_le _)⟩
 ·rename_i b o
  split
  ·rename_i ty cs hl
   cases hty:Nat.beq ty mapTy with
   | true=>trivial
   | false=>
   obtain ⟨g,hg,rfl⟩:=qeq hx
   obtain ⟨b',vs,h1,h2,h3,h4,h5,h6⟩:=hm.bx b _ _ hl
   rw [hg] at h1;cases h1
   have h2:=h2.cells (qeh hty)
   refine qod hT hm t _ g o (fun j x hx=>?_)
   rw [xa] at hx
   have hlt:o+j<vs.size:=by rw [h3];exact (List.getElem?_eq_some_iff.1 hx).1
   refine ⟨vs[o+j],?_,h4 _ _ _ hx (by simp [hlt])⟩
   rw [cell_of_row w g (o+j) vs ty (0,0) h2]
   simp [hlt]
  ·trivial
 ·rename_i r i e n sz' k o
  split
  ·rename_i ob R hl
   cases hz:Nat.beq sz' R.sz with
   | false=>trivial
   | true=>
    obtain rfl:sz'=R.sz:=zq hz
    simp only [cond_true]
    have h0:obT (andO ob (some (dp ((e=R.ep∧n=R.n)∧k<n))))→Fits P c rd mp st nx w (qbe (T t) ((R.f k).drop o)) (Instr.loadAt t v):=by
     intro hob
     obtain ⟨hob1,hn,hk⟩:=(qv _ _).1 hob
     obtain ⟨vr,xs,h1,h2,h3,h4,h5⟩:=hm.mb r i R (qfm hl hob1)
     obtain ⟨vr',er,nr,g1,g2,g3,g4⟩:=qnz hx
     rw [h1] at g1;cases g1
     obtain ⟨g,lo,cap,rfl,rfl⟩:=g4 hn.1 hn.2
     have hn2:=hn.2
     subst hn2
     refine qod hT hm t _ g _ (fun j x hx=>?_)
     rw [xa] at hx
     obtain ⟨u,hu,_,hr⟩:=h4 k (o+j) x hk hx
     refine ⟨u,?_,hr.mono (Rd.le.refl _) (Mp.sel_le _ _)⟩
     have:=h2.cells hu
     rwa [show lo+(k * R.sz+(o+j))=lo+(k * R.sz+o)+j by omega] at this
    exact Fits.also h0
  ·trivial
 ·trivial
theorem qoe {x:AV} {v:Value} (hr:Rel rd mp x v) (h:x.one=true):v.oneCell'=true:=by
 cases hr <;> first|rfl|(simp [AV.one] at h;done)
theorem qsi (id:Nat) (ty:TypeId) (hty:ty≠mapTy) (b:Nat):∀ (xs:List AV) (vs:List Value) (o i:Nat) (cs:List AV) (st:List (Nat × SO)) (w:World),Mem c rd mp st nx w→look st id=some (.box ty cs)→mp.blk id=some b→
  vs.length=xs.length→(∀ (j:Nat) x v,xs[j]?=some x→vs[j]?=some v→Rel rd mp x v∧v.oneCell'=true)→o+i+xs.length≤cs.length→
  ∃ w',(storeCells ⟨b,o,none⟩ vs i).run P w=.ok () w'∧Mem c rd mp (setSt st id (.box ty (qy cs (o+i) xs))) nx w':=by
 intro xs
 induction xs with
 | nil=>
  intro vs o i cs st w hm hl hb hlen _ _
  have:vs=[]:=by simpa using hlen
  subst this
  refine ⟨w,by simp [storeCells],?_⟩
  simp only [qy]
  refine hm.forget (fun j y hy=>?_)
  rw [qd] at hy
  by_cases hj:j=id
  ·subst hj;rw [za rfl,hl] at hy;rw [hl];exact hy
  ·rw [ze hj] at hy;exact hy
 | cons x xs ih=>
  intro vs o i cs st w hm hl hb hlen hr hle
  cases vs with
  | nil=>simp at hlen
  | cons v vs=>
   obtain ⟨hxv,h1⟩:=hr 0 x v rfl rfl
   have hm1:=hm.storeBox hty hl hb (o+i) x v hxv
   obtain ⟨b',us,g1,g2,g3,_⟩:=hm.bx id _ _ hl
   rw [hb] at g1;cases g1
   have g2:=g2.cells hty
   have hlt:o+i<us.size:=by rw [g3];simp at hle;omega
   have hcell:w.cell? ⟨b,o+i,none⟩=some us[o+i]:=by rw [cell_of_row w b (o+i) us ty (0,0) g2];simp [hlt]
   have hfr:w.frozen? ⟨b,o+i,none⟩=false:=by simp [World.frozen?,g2]
   have hl1:look (setSt st id (.box ty (cs.set (o+i) x))) id=some (.box ty (cs.set (o+i) x)):=by rw [qd,za rfl,hl];rfl
   obtain ⟨w',hw',hm'⟩:=ih vs o (i+1) (cs.set (o+i) x) _ _ hm1 hl1 hb (by simpa using hlen) (fun j x' v' hx hv=>hr (j+1) x' v' (by simpa using hx) (by simpa using hv)) (by simp at hle ⊢;omega)
   refine ⟨w',?_,?_⟩
   ·simp only [storeCells,Sem.run_bind,Addr.add_lit,run_store P w _ v .plain h1,hcell,hfr]
    simpa using hw'
   ·refine hm'.forget (fun j y hy=>?_)
    rw [qd] at hy
    rw [qd,qd]
    by_cases hj:j=id
    ·subst hj
     simp only [za,hl,xu] at hy ⊢
     simp only [qy] at hy
     rw [← zbt];exact hy
    ·simp only [ze hj] at hy ⊢;exact hy
end Go.Sx
end
section
namespace Go.Sx
open Go Go.RowKit
variable {P:Program} {T:Nat→TI} {C:Cfg} {c:Ctx} {rd:Rd} {mp:Mp} {st:List (Nat × SO)} {nx:Nat} {w:World} {s:ASt}
theorem qkk (hm:Mem c rd mp st nx w) {x:AV} {v:Value} (hr:Rel rd mp x v) (h:x.oneOwn=true) (hob:obT (jk st [x])):v.oneCell'=true:=by
 cases x with
 | own r i e n=>
  simp only [jk] at hob
  split at hob
  ·rename_i ob R hl
   obtain ⟨hob1,hn⟩:=(qv _ _).1 ((qv _ _).1 hob).1
   obtain ⟨xs,h1,h2,_⟩:=qcc hm hl hob1 hr hn
   rcases h2.2 with ⟨rfl,_⟩|⟨g,lo,cap,cur,rfl,_⟩ <;> rfl
  ·split at hob
   ·rename_i hl
    obtain ⟨rfl,rfl,rfl⟩:=((qv _ _).1 hob).1
    obtain ⟨v',h1,h2⟩:=hm.ro _ _ _ _ _ hl
    obtain ⟨vr,er,nr,g1,_,_,g4⟩:=qki hr
    rw [h1] at g1;cases g1
    rw [g4 rfl rfl]
    cases h2 <;> rfl
   ·exact absurd hob id
 | _=>exact qoe hr h
theorem qof:∀ {l:List AV},obT (jk st l)→∀ x∈l,obT (jk st [x]):=by
 intro l
 induction l with
 | nil=>intro _ x hx;simp at hx
 | cons y l ih=>
  intro h x hx
  have hsplit:obT (jk st [y])∧obT (jk st l):=by
   cases y with
   | own r i e n=>
    simp only [jk] at h ⊢
    split at h
    ·have h':=(qv _ _).1 h
     exact ⟨(qv _ _).2 ⟨h'.1,trivial⟩,h'.2⟩
    ·split at h
     ·have h':=(qv _ _).1 h
      exact ⟨(qv _ _).2 ⟨h'.1,trivial⟩,h'.2⟩
     ·exact absurd h id
   | _=>exact ⟨trivial,h⟩
  rcases List.mem_cons.1 hx with rfl|hx
  ·exact hsplit.1
  ·exact ih hsplit.2 x hx
theorem qog (hm:Mem c rd mp st nx w) {x:AV} {v:Value} (hr:Rel rd mp x v) (h:qcv x=true) (hob:obT (qfe st x)) :
  v.cells.size=(cellsOf x).length∧∀ (j:Nat) y u,(cellsOf x)[j]?=some y→v.cells[j]?=some u→Rel rd mp y u:=by
 by_cases hag:∃ cs,x=.agg cs
 ·obtain ⟨cs,rfl⟩:=hag
  obtain ⟨vs,rfl,hs,he⟩:=qgp hr
  exact ⟨hs,he⟩
 ·have hx:x.oneOwn=true∧obT (jk st [x])∧cellsOf x=[x]:=by
   cases x with
   | agg cs=>exact absurd ⟨cs,rfl⟩ hag
   | _=>exact ⟨h,hob,rfl⟩
  have h1:=qkk hm hr hx.1 hx.2.1
  have hc:v.cells=#[v]:=by cases v <;> first|rfl|(simp [Value.oneCell'] at h1;done)
  rw [hc,hx.2.2]
  refine ⟨rfl,fun j y u hy hu=>?_⟩
  cases j with
  | zero=>simp at hy hu;subst hy;subst hu;exact hr
  | succ j=>simp at hy
theorem qzt (hm:Mem c rd mp s.st s.nx w) (hsup:Sup c s.nx) (e:TypeId) (x:AV) (v:Value) (hr:Rel rd mp x v) (h:qcv x=true) :
  Fits P c rd mp s.st s.nx w (boxO s e (cellsOf x) (qfe s.st x)) (Instr.box e v):=by
 unfold boxO
 cases hty:Nat.beq e mapTy with
 | true=>trivial
 | false=>
 intro hob
 obtain ⟨h1,h2⟩:=qog hm hr h hob
 refine ⟨.pointer (some ⟨w.heap.size,0,none⟩),w.alloc (.cells v.cells e),rd,mp.addBlk s.nx w.heap.size,?_,Rd.le.refl _,Mp.le_addBlk (hm.fresh _ hsup.here).1,hm.newBox hsup v.cells e _ (qeh hty) h1 h2,.ptr _ _ _ _ (by simp [Mp.addBlk])⟩
 simp [Instr.box,newVar,newRow]
theorem qda (hT:∀ t,T t=tab P t) {e:TypeId} (h1:1≤(T e).size) (h2:(T e).zero.length=(T e).size) :
  ∃ i z,P.info? e=some i∧i.zero=some z∧i.size=(T e).size∧i.bytes=(T e).bytes∧z.cells.size=(T e).size∧(T e).zero=z.cells.toList.map qcs:=by
 obtain ⟨i,hi,hs,hb,hz⟩:=qaw hT h1
 cases hzz:i.zero with
 | none=>
  rw [hz] at h2
  simp only [qfd,hzz,zaf] at h2
  omega
 | some z=>
  have hz':(T e).zero=z.cells.toList.map qcs:=by rw [hz,qfd,hzz]
  refine ⟨i,z,hi,hzz,hs.symm,hb.symm,?_,hz'⟩
  rw [hz'] at h2
  simpa using h2
theorem qzu (hT:∀ t,T t=tab P t) (hm:Mem c rd mp s.st s.nx w) (hsup:Sup c s.nx) (e:TypeId) (h1:1≤(T e).size) (h2:(T e).zero.length=(T e).size) :
  Fits P c rd mp s.st s.nx w (boxO s e (T e).zero none) (Instr.alloc e true (.tuple #[])):=by
 unfold boxO
 cases hty:Nat.beq e mapTy with
 | true=>trivial
 | false=>
 intro _
 obtain ⟨i,z,hi,hz,hs,_,hzs,hzz⟩:=qda hT h1 h2
 refine ⟨.pointer (some ⟨w.heap.size,0,none⟩),w.alloc (.cells z.cells e),rd,mp.addBlk s.nx w.heap.size,?_,Rd.le.refl _,Mp.le_addBlk (hm.fresh _ hsup.here).1,
  hm.newBox hsup z.cells e _ (qeh hty) (by rw [hzz];simp) (fun j x v hx hv=>?_),.ptr _ _ _ _ (by simp [Mp.addBlk])⟩
 ·simp [Instr.alloc,zeroValue,typeInfo,hi,hz,newVar,newRow]
 ·rw [hzz] at hx
  simp at hx
  obtain ⟨u,hu,rfl⟩:=hx
  rw [hv] at hu;cases hu
  exact qkh rd mp v
theorem qkl:∀ (xs:List AV) (cs:List AV) (o:Nat),(qy cs o xs).length=cs.length:=by
 intro xs
 induction xs with
 | nil=>intro cs o;rfl
 | cons x xs ih=>intro cs o;simp [qy,ih]
theorem qsj:∀ (xs:List AV) (cs:List AV) (o j:Nat),(qy cs o xs)[j]?=if j<cs.length then (if o≤j∧j<o+xs.length then xs[j - o]? else cs[j]?) else none:=by
 intro xs
 induction xs with
 | nil=>
  intro cs o j
  simp only [qy,zaf,zac]
  by_cases hj:j<cs.length
  ·rw [za hj,ze (by omega)]
  ·rw [ze hj,zy (by omega)]
 | cons x xs ih=>
  intro cs o j
  simp only [qy,ih,xd,xh]
  by_cases hj:j<cs.length
  ·rw [za hj,za hj]
   by_cases ho:o=j
   ·subst ho
    rw [ze (by omega),za (by omega)]
    simp [hj]
   ·by_cases h1:o+1≤j∧j<o+1+xs.length
    ·rw [za h1,za (by omega)]
     rw [show j - o=(j - (o+1))+1 by omega,zan]
    ·rw [ze h1,ze (by omega),List.getElem?_set_ne ho]
  ·rw [ze hj,ze hj]
theorem qzv (off:Nat) (vs:List Value):∀ (k:Nat) (cs:Array Value) (j:Nat),off+k+vs.length≤cs.size→
  ((vs.zipIdx k).foldl (fun cs (p:Value × Nat)=>cs.setIfInBounds (off+p.2) p.1) cs)[j]?=(if off+k≤j∧j<off+k+vs.length then vs[j - (off+k)]? else cs[j]?) ∧
  ((vs.zipIdx k).foldl (fun cs (p:Value × Nat)=>cs.setIfInBounds (off+p.2) p.1) cs).size=cs.size:=by
 induction vs with
 | nil=>intro k cs j _;simp;intro h1 h2;omega
 | cons v vs ih=>
  intro k cs j hle
  simp only [List.zipIdx_cons,List.foldl_cons,xh]
  have:=ih (k+1) (cs.setIfInBounds (off+k) v) j (by simp at hle ⊢;omega)
  refine ⟨?_,by rw [this.2];simp⟩
  rw [this.1]
  by_cases ho:j=off+k
  ·subst ho
   rw [ze (by omega),za (by omega)]
   simp at hle
   simp [show off+k<cs.size by omega]
  ·by_cases h1:off+(k+1)≤j∧j<off+(k+1)+vs.length
   ·rw [za h1,za (by omega),show j - (off+k)=(j - (off+(k+1)))+1 by omega,zan]
   ·rw [ze h1,ze (by omega),zaw (by omega)]
theorem qoh (hm:Mem c rd mp st nx w) (place place':Nat→Option (Nat × Nat)) (hp:∀ i,place i≠none→place' i=place i):∀ (parts:List (Nat × AV)) (vparts:List (Nat × Value)) (cs:List AV) (vs:Array Value) (out:List AV),
  vs.size=cs.length→(∀ (j:Nat) x v,cs[j]?=some x→vs[j]?=some v→Rel rd mp x v)→
  vparts.length=parts.length→(∀ (j:Nat) p q,parts[j]?=some p→vparts[j]?=some q→p.1=q.1∧Rel rd mp p.2 q.2)→obT (qcw st parts)→
  qbm place cs parts=some out→∃ us,Instr.fill place' vs vparts=some us∧us.size=out.length∧∀ (j:Nat) x v,out[j]?=some x→us[j]?=some v→Rel rd mp x v:=by
 intro parts
 induction parts with
 | nil=>
  intro vparts cs vs out hs hr hl _ _ ho
  have:vparts=[]:=by simpa using hl
  subst this
  simp only [qbm,Option.some.injEq] at ho
  subst ho
  exact ⟨vs,rfl,hs,hr⟩
 | cons p parts ih=>
  intro vparts cs vs out hs hr hl hv hob ho
  cases vparts with
  | nil=>simp at hl
  | cons q vparts=>
   obtain ⟨i,x⟩:=p
   obtain ⟨i',v⟩:=q
   obtain ⟨hi,hxv⟩:=hv 0 _ _ rfl rfl
   simp only at hi hxv
   subst hi
   simp only [qbm] at ho
   split at ho
   ·rename_i off size hpl
    cases hc:(qcv x && Nat.beq (cellsOf x).length size && Nat.ble (off+size) cs.length) with
    | false=>simp [hc] at ho
    | true=>
     simp only [hc,cond_true,qcr] at ho
     simp only [zh,zaj,zx] at hc
     obtain ⟨⟨h1,h2⟩,h3⟩:=hc
     simp only [qcw] at hob
     obtain ⟨hob1,hob2⟩:=(qv _ _).1 hob
     obtain ⟨g1,g2⟩:=qog hm hxv h1 hob1
     have hfold:=fun j=>qzv off v.cells.toList 0 vs j (by simp;omega)
     have hsz:(v.cells.zipIdx.foldl (fun cs (p:Value × Nat)=>cs.setIfInBounds (off+p.2) p.1) vs)=((v.cells.toList.zipIdx 0).foldl (fun cs (p:Value × Nat)=>cs.setIfInBounds (off+p.2) p.1) vs):=by
      rw [← Array.foldl_toList,Array.toList_zipIdx]
     obtain ⟨us,hus,hu1,hu2⟩:=ih vparts (qy cs off (cellsOf x)) (v.cells.zipIdx.foldl (fun cs (p:Value × Nat)=>cs.setIfInBounds (off+p.2) p.1) vs) out
      (by rw [hsz,(hfold 0).2,qkl];exact hs)
      (fun j y u hy hu=>by
       rw [hsz,(hfold j).1] at hu
       rw [qsj] at hy
       split at hy
       ·rename_i hj
        simp only [zac,zam] at hu
        by_cases hin:off≤j∧j<off+(cellsOf x).length
        ·rw [za hin] at hy
         rw [za (by omega)] at hu
         exact g2 _ _ _ hy (by simpa using hu)
        ·rw [ze hin] at hy
         rw [ze (by omega)] at hu
         exact hr _ _ _ hy hu
       ·cases hy)
      (by simpa using hl) (fun j p q hp hq=>hv (j+1) p q (by simpa using hp) (by simpa using hq)) hob2 ho
     refine ⟨us,?_,hu1,hu2⟩
     have hpl':place' i=some (off,size):=by rw [hp i (by rw [hpl];simp),hpl]
     simp only [Instr.fill,hpl']
     rw [ze (by simp;omega)]
     exact hus
   ·cases ho
end Go.Sx
end
section
namespace Go.Sx
open Go Go.RowKit
variable {P:Program} {T:Nat→TI} {C:Cfg} {c:Ctx} {rd:Rd} {mp:Mp} {st:List (Nat × SO)} {nx:Nat} {w:World} {s:ASt}
theorem qzw {x:AV} (h:(cellsOf x).all AV.oneOwn=true):qcv x=true:=by
 cases x <;> simp [cellsOf,qcv,AV.oneOwn,AV.one] at h ⊢
theorem qsk (hm:Mem c rd mp st nx w) {x:AV} {v:Value} (hr:Rel rd mp x v) (h:(cellsOf x).all AV.oneOwn=true) (hob:obT (jk st (cellsOf x))) :
  v.cells.size=(cellsOf x).length∧∀ (j:Nat) y u,(cellsOf x)[j]?=some y→v.cells[j]?=some u→Rel rd mp y u∧u.oneCell'=true:=by
 have hp:obT (qfe st x):=by
  cases x <;> first|trivial|exact hob
 obtain ⟨h1,h2⟩:=qog hm hr (qzw h) hp
 refine ⟨h1,fun j y u hy hu=>⟨h2 j y u hy hu,?_⟩⟩
 have hy':=zp hy
 exact qkk hm (h2 j y u hy hu) (List.all_eq_true.1 h y hy') (qof hob y hy')
theorem qoi (hT:∀ t,T t=tab P t) (t:TypeId) (g o:Nat) (v:Value) (hs:v.cells.size=(T t).size) (h1:1≤(T t).size) (w:World) :
  (Instr.storeAt t (.pointer (some ⟨g,o,none⟩)) v).run P w=(storeCells ⟨g,o,none⟩ v.cells.toList 0).run P w:=by
 obtain ⟨i,hi,hsz,_⟩:=qaw hT h1
 simp [Instr.storeAt,Instr.sureAddr,storeVar,sizeOf,typeInfo,hi,← hsz,hs]
theorem qzx (hT:∀ t,T t=tab P t) (hm:Mem c rd mp st nx w) (t:TypeId) (b o:Nat) (ty:TypeId) (hty:ty≠mapTy) (cs:List AV) (hl:look st b=some (.box ty cs)) (x:AV) (va v:Value) (ha:Rel rd mp (.ptr b o) va) (hx:Rel rd mp x v)
  (h1:(cellsOf x).length=(T t).size) (h2:(cellsOf x).all AV.oneOwn=true) (h3:o+(cellsOf x).length≤cs.length) (h4:1≤(T t).size) (hob:obT (jk st (cellsOf x))) :
  ∃ w',(Instr.storeAt t va v).run P w=.ok () w'∧Mem c rd mp (setSt st b (.box ty (qy cs o (cellsOf x)))) nx w':=by
 obtain ⟨g,hg,rfl⟩:=qeq ha
 obtain ⟨hs,hr⟩:=qsk hm hx h2 hob
 rw [qoi hT t g o v (by omega) h4]
 obtain ⟨w',hw',hm'⟩:=qsi (P:=P) b ty hty g (cellsOf x) v.cells.toList o 0 cs st w hm hl hg (by simpa using hs) (fun j y u hy hu=>hr j y u hy (by simpa using hu)) (by omega)
 exact ⟨w',hw',by simpa using hm'⟩
theorem qsl (hT:∀ t,T t=tab P t) (hm:Mem c rd mp st nx w) (t:TypeId) (b o:Nat) (ty:TypeId) (hty:ty≠mapTy) (cs:List AV) (hl:look st b=some (.box ty cs)) {r i e n:Nat} (va v:Value) (ha:Rel rd mp (.ptr b o) va) (hx:Rel rd mp (.own r i e n) v)
  (h1:(T t).size=1) (h3:o+1≤cs.length) :
  ∃ w',(Instr.storeAt t va v).run P w=.ok () w'∧Mem c rd mp (setSt st b (.box ty (qy cs o [.own r i e n]))) nx w':=by
 obtain ⟨g,hg,rfl⟩:=qeq ha
 have hv:v.cells=#[v]∧v.oneCell'=true:=by
  cases hx with
  | own _ _ _ _ _ _ _ _ _ _ _ _ _ hsl=>cases v <;> first|exact ⟨rfl,rfl⟩|(simp [isSl] at hsl;done)
 rw [qoi hT t g o v (by rw [hv.1,h1];rfl) (by omega)]
 obtain ⟨w',hw',hm'⟩:=qsi (P:=P) b ty hty g [.own r i e n] v.cells.toList o 0 cs st w hm hl hg (by rw [hv.1];rfl) (fun j y u hy hu=>by
  rw [hv.1] at hu
  cases j with
  | zero=>cases hy;cases hu;exact ⟨hx,hv.2⟩
  | succ j=>simp at hy) (by simpa using h3)
 exact ⟨w',hw',by simpa using hm'⟩
theorem qzy {r i ep n:Nat} {f:Nat→List AV} {ob:Option DP} {R:RowV} (hl:qk st r i=some (ob,R)) {r' i':Nat} {R':RowV} (h:IsMem (qo st r i ep n f) r' i' R') :
  (r'=r∧i'=i∧R'=⟨R.ids,R.e,R.sz,ep,n,f⟩)∨(¬ (r'=r∧i'=i)∧IsMem st r' i' R'):=by
 unfold qk at hl
 split at hl
 ·rename_i ids e sz ep0 n0 f0 hk
  simp only [qo,hk] at h
  cases hi:Nat.beq i 0 with
  | false=>simp [hi] at hl
  | true=>
   simp only [hi,cond_true,Option.some.injEq,Prod.mk.injEq] at hl
   obtain ⟨rfl,rfl⟩:=hl
   obtain rfl:i=0:=zq hi
   cases h with
   | row h=>
    rw [qd] at h
    by_cases hr:r'=r
    ·subst hr;rw [za rfl,hk] at h;cases h;exact .inl ⟨rfl,rfl,rfl⟩
    ·rw [ze hr] at h;exact .inr ⟨fun e=>hr e.1,.row h⟩
   | fam h hi=>
    rw [qd] at h
    by_cases hr:r'=r
    ·subst hr;rw [za rfl,hk] at h;cases h
    ·rw [ze hr] at h;exact .inr ⟨fun e=>hr e.1,.fam h hi⟩
 ·rename_i e sz cnt eps len fs hk
  simp only [qo,hk] at h
  simp only [Option.some.injEq,Prod.mk.injEq] at hl
  obtain ⟨rfl,rfl⟩:=hl
  cases h with
  | row h=>
   rw [qd] at h
   by_cases hr:r'=r
   ·subst hr;rw [za rfl,hk] at h;cases h
   ·rw [ze hr] at h;exact .inr ⟨fun e=>hr e.1,.row h⟩
  | fam h hi=>
   rw [qd] at h
   by_cases hr:r'=r
   ·subst hr
    rw [za rfl,hk] at h
    cases h
    by_cases hi':i'=i
    ·subst hi';exact .inl ⟨rfl,rfl,by simp [upd]⟩
    ·refine .inr ⟨fun e=>hi' e.2,?_⟩
     simp only [upd,ze hi']
     exact .fam hk hi
   ·rw [ze hr] at h;exact .inr ⟨fun e=>hr e.1,.fam h hi⟩
 ·cases hl
theorem qzz {r i ep n:Nat} {f:Nat→List AV} {b:Nat} {ty:TypeId} {cs:List AV} (h:look (qo st r i ep n f) b=some (.box ty cs)):look st b=some (.box ty cs):=by
 unfold qo at h
 split at h
 ·rename_i hk
  rw [qd] at h
  by_cases hb:b=r
  ·subst hb;rw [za rfl,hk] at h;cases h
  ·rwa [ze hb] at h
 ·rename_i hk
  rw [qd] at h
  by_cases hb:b=r
  ·subst hb;rw [za rfl,hk] at h;cases h
  ·rwa [ze hb] at h
 ·exact h
theorem jaa (hm:Mem c rd mp st nx w) {r i ep n:Nat} {f:Nat→List AV}:∀ j x,look (qo st r i ep n f) j=some x→¬ c.fre nx j:=by
 intro j x h
 unfold qo at h
 split at h
 ·rename_i hk
  rw [qd] at h
  by_cases hb:j=r
  ·subst hb;exact hm.ids _ _ hk
  ·rw [ze hb] at h;exact hm.ids _ _ h
 ·rename_i hk
  rw [qd] at h
  by_cases hb:j=r
  ·subst hb;exact hm.ids _ _ hk
  ·rw [ze hb] at h;exact hm.ids _ _ h
 ·exact hm.ids _ _ h
theorem jab (hm:Mem c rd mp st nx w) {r i ep n:Nat} {f:Nat→List AV} {ob:Option DP} {R:RowV} (hl:qk st r i=some (ob,R)) (hob:obT ob) (v:Value) (ep' n':Nat) :
  ∀ r' e sz cnt eps len fs,look (qo st r i ep n f) r'=some (.fam e sz cnt eps len fs)→∀ i',cnt≤i'→(mp.setRow r i v ep' n').row r' i'=none:=by
 intro r' e sz cnt eps len fs h i' hi'
 have key:∃ eps' len' fs',look st r'=some (.fam e sz cnt eps' len' fs'):=by
  unfold qo at h
  split at h
  ·rename_i hk
   rw [qd] at h
   by_cases hb:r'=r
   ·subst hb;rw [za rfl,hk] at h;cases h
   ·rw [ze hb] at h;exact ⟨_,_,_,h⟩
  ·rename_i hk
   rw [qd] at h
   by_cases hb:r'=r
   ·subst hb;rw [za rfl,hk] at h;cases h;exact ⟨_,_,_,hk⟩
   ·rw [ze hb] at h;exact ⟨_,_,_,h⟩
  ·exact ⟨_,_,_,h⟩
 obtain ⟨eps',len',fs',hk⟩:=key
 simp only [Mp.setRow]
 rw [ze]
 ·exact hm.out _ _ _ _ _ _ _ hk i' hi'
 ·rintro ⟨rfl,rfl⟩
  unfold qk at hl
  rw [hk] at hl
  simp only [Option.some.injEq,Prod.mk.injEq] at hl
  obtain ⟨rfl,rfl⟩:=hl
  have:i'<cnt:=hob
  omega
theorem jac {r i ep n:Nat} {f:Nat→List AV} {ob:Option DP} {R:RowV} (hl:qk st r i=some (ob,R)):∀ r' sz ep' n' f',look (qo st r i ep n f) r'=some (.ro sz ep' n' f')→r'≠r∧look st r'=some (.ro sz ep' n' f'):=by
 intro r' sz ep' n' f' h
 unfold qk at hl
 split at hl
 ·rename_i hk
  simp only [qo,hk] at h
  rw [qd] at h
  by_cases hb:r'=r
  ·subst hb;rw [za rfl,hk] at h;cases h
  ·rw [ze hb] at h;exact ⟨hb,h⟩
 ·rename_i hk
  simp only [qo,hk] at h
  rw [qd] at h
  by_cases hb:r'=r
  ·subst hb;rw [za rfl,hk] at h;cases h
  ·rw [ze hb] at h;exact ⟨hb,h⟩
 ·cases hl
theorem Mem.turnRow (hm:Mem c rd mp st nx w) {w':World} {r i ep n:Nat} {f:Nat→List AV} {ob:Option DP} {R:RowV} (hl:qk st r i=some (ob,R)) (hob:obT ob) {v v':Value} {xs:List Value} (hv:mp.row r i=some (v,R.ep,R.n))
  (hsep:∀ g,v.ownBlock=some g→(∀ o,rd g o=none)∧(c.w0.heap.size≤g∨c.fx g))
  (hmp:R.ep<ep∨(R.ep=ep∧(R.n<n∨(R.n=n∧v=v')))) (hg:w.grownBy w' v.ownBlock) (hown:Owns w' R.e R.sz v' n xs) (hat:v'.ownBlock=v.ownBlock∨∃ g,v'.ownBlock=some g∧w.heap.size≤g)
  (hf:∀ k,k<n→(f k).length=R.sz) (hx:∀ (k j:Nat) x,k<n→(f k)[j]?=some x→∃ u,xs[k * R.sz+j]?=some u∧u.oneCell'=true∧Rel rd (mp.sel R.ids) x u) :
  Mp.le mp (mp.setRow r i v' ep n)∧Mem c rd (mp.setRow r i v' ep n) (qo st r i ep n f) nx w':=by
 have hmono:∀ v0 e0 n0,mp.row r i=some (v0,e0,n0)→e0<ep∨(e0=ep∧(n0<n∨(n0=n∧v0=v'))):=by
  intro v0 e0 n0 h
  rw [hv] at h;cases h
  exact hmp
 have hR:=qfm hl hob
 refine ⟨Mp.le_setRow hmono,?_⟩
 exact hm.setMem r i ⟨R.ids,R.e,R.sz,ep,n,f⟩ v' xs v.ownBlock (hm.mem_alone hR hv) (fun g hg'=>⟨(hsep g hg').2,(hsep g hg').1⟩) hmono hg hown hat hf hx (fun b ty cs=>qzz)
  (fun r' i' R' h=>qzy hl h) (fun _ h=>h) (jaa hm) (qrt hm hR) (jab hm hl hob v' ep n) (jac hl)
theorem qsm {ids:List Nat} {y:AV} (h:qbl ids y=true):y.oneOwn=true:=by
 cases y <;> simp_all [qbl,AV.oneOwn,AV.one]
theorem qsn {ids:List Nat} {y:AV} {u:Value} (h:qbl ids y=true) (hr:Rel rd mp y u):Rel rd (mp.sel ids) y u:=by
 cases hr with
 | own _ r i e n v vr er nr h1 h2 h3 h4 hsl=>
  have:r∈ids:=by
   simp only [qbl,zat] at h
   obtain ⟨x,hx,he⟩:=h
   rw [zq he];exact hx
  exact .own _ _ _ _ _ _ vr er nr (by simp [Mp.sel,this,h1]) h2 h3 h4 hsl
 | fn _ f cs vs hs he=>
  refine .fn _ _ _ _ hs (fun j x v hx hv=>(he j x v hx hv).pure0 ?_)
  simp only [qbl,AV.one,zbc,AV.pure1,zak] at h
  exact h x (zp hx)
 | _=>first
  | (simp [qbl,AV.one] at h;done)
  | (simp [qbl,AV.pure1,AV.pure0] at h;done)
  | (constructor <;> assumption)
  | constructor
theorem jad (ids:List Nat) (r q:Nat) (h:ids.any (Nat.beq q)=true):(qnn ids r).any (Nat.beq q)=true:=by
 simp only [qnn]
 cases ids.any (Nat.beq r) with
 | true=>exact h
 | false=>simp [h]
theorem qso:∀ (l ids:List Nat) (q:Nat),ids.any (Nat.beq q)=true→(addIds ids l).any (Nat.beq q)=true
 | [],_,_,h=>h
 | r::l,ids,q,h=>qso l _ q (jad ids r q h)
theorem mem_any {ids:List Nat} {q:Nat}:ids.any (Nat.beq q)=true↔q∈ids:=by
 rw [zat]
 constructor
 ·rintro ⟨x,hx,he⟩;rw [zq he];exact hx
 ·intro h;exact ⟨q,h,by simp⟩
theorem Mp.sel_sub {mp:Mp} {a b:List Nat} (h:∀ q∈a,q∈b):Mp.le (mp.sel a) (mp.sel b):=
 ⟨fun _ _ h=>(by cases h),fun r i v e n h0=>by
  simp only [Mp.sel] at h0 ⊢
  split at h0
  ·rename_i hr
   rw [za (h r hr)]
   exact ⟨v,e,n,h0,.inr ⟨rfl,.inr ⟨rfl,rfl⟩⟩⟩
  ·cases h0⟩
theorem Mem.moreIds (hm:Mem c rd mp st nx w) (r:Nat) (l:List Nat):Mem c rd mp (jv st r l) nx w:=by
 cases l with
 | nil=>exact hm
 | cons q qs=>
  simp only [jv]
  split
  ·rename_i ids e sz ep n f hk
   have hlook:∀ i x,look (setSt st r (.row (addIds ids (q::qs)) e sz ep n f)) i=some x→(i=r∧x=.row (addIds ids (q::qs)) e sz ep n f)∨(i≠r∧look st i=some x):=by
    intro i x h
    rw [qd] at h
    by_cases hi:i=r
    ·subst hi;rw [za rfl,hk] at h;cases h;exact .inl ⟨rfl,rfl⟩
    ·rw [ze hi] at h;exact .inr ⟨hi,h⟩
   have hmem:∀ r' i' R',IsMem (setSt st r (.row (addIds ids (q::qs)) e sz ep n f)) r' i' R'→(r'=r∧i'=0∧R'=⟨addIds ids (q::qs),e,sz,ep,n,f⟩)∨IsMem st r' i' R':=by
    intro r' i' R' h
    cases h with
    | row h=>
     rcases hlook _ _ h with ⟨rfl,hx⟩|⟨_,hx⟩
     ·cases hx;exact .inl ⟨rfl,rfl,rfl⟩
     ·exact .inr (.row hx)
    | fam h hi=>
     rcases hlook _ _ h with ⟨rfl,hx⟩|⟨_,hx⟩
     ·cases hx
     ·exact .inr (.fam hx hi)
   have old:∀ p,There (setSt st r (.row (addIds ids (q::qs)) e sz ep n f)) p→There st p:=by
    intro p hp
    cases p with
    | bx b=>
     obtain ⟨ty,cs,hl⟩:=hp
     rcases hlook _ _ hl with ⟨rfl,hx⟩|⟨_,hx⟩
     ·cases hx
     ·exact ⟨ty,cs,hx⟩
    | rw r' i'=>
     obtain ⟨R,hR⟩:=hp
     rcases hmem _ _ _ hR with ⟨rfl,rfl,_⟩|h
     ·exact ⟨_,.row hk⟩
     ·exact ⟨R,h⟩
   refine ⟨hm.rdw,hm.rd1,hm.rdn,hm.fr,fun b ty cs hl=>?_,fun r' i' R hR=>?_,fun p q g hp hq=>hm.inj p q g (old p hp) (old q hq),hm.fresh,fun i x hx=>?_,fun r' e' sz' cnt ep' len f' hl=>?_,fun r' sz' ep' n' f' hl=>?_,hm.tab⟩
   ·rcases hlook _ _ hl with ⟨rfl,hx⟩|⟨_,hx⟩
    ·cases hx
    ·exact hm.bx b ty cs hx
   ·rcases hmem _ _ _ hR with ⟨rfl,rfl,rfl⟩|h
    ·obtain ⟨v,xs,h1,h2,h3,h4,h5⟩:=hm.mb _ _ _ (.row hk)
     refine ⟨v,xs,h1,h2,h3,fun k j x hk' hx=>?_,h5⟩
     obtain ⟨u,hu,hu1,hu2⟩:=h4 k j x hk' hx
     exact ⟨u,hu,hu1,hu2.mono (Rd.le.refl _) (Mp.sel_sub fun y hy=>mem_any.1 (qso _ _ _ (mem_any.2 hy)))⟩
    ·exact hm.mb _ _ _ h
   ·rcases hlook _ _ hx with ⟨rfl,_⟩|⟨_,hx⟩
    ·exact hm.ids _ _ hk
    ·exact hm.ids _ _ hx
   ·rcases hlook _ _ hl with ⟨rfl,hx⟩|⟨_,hx⟩
    ·cases hx
    ·exact hm.out _ _ _ _ _ _ _ hx
   ·rcases hlook _ _ hl with ⟨rfl,hx⟩|⟨_,hx⟩
    ·cases hx
    ·exact hm.ro _ _ _ _ _ hx
  ·exact hm
theorem Mem.withNames (hm:Mem c rd mp st nx w) (a x:AV):Mem c rd mp (qht st a x) nx w:=by
 cases a <;> first|exact hm|exact hm.moreIds _ _
theorem qsp (hT:∀ t,T t=tab P t) (hm:Mem c rd mp st nx w) (t:TypeId) {r i e n sz k o:Nat} {ob:Option DP} {R:RowV} (hl:qk st r i=some (ob,R)) (hob:obT ob) (hnow:e=R.ep∧n=R.n) (x:AV) (va v:Value) (ha:Rel rd mp (.eptr r i e n sz k o) va) (hx:Rel rd mp x v)
  (hsz:sz=R.sz) (h1:(cellsOf x).length=(T t).size) (h2:(cellsOf x).all (qbl R.ids)=true) (hown:obT (jk st (cellsOf x))) (h3:o+(cellsOf x).length≤R.sz) (h4:1≤(T t).size) (hk:k<n) :
  ∃ w' mp',(Instr.storeAt t va v).run P w=.ok () w'∧Mp.le mp mp'∧Mem c rd mp' (qo st r i R.ep R.n (fun j=>if j=k then qy (R.f k) o (cellsOf x) else R.f j)) nx w':=by
 subst hsz
 obtain ⟨hne,hnn⟩:=hnow
 subst hnn
 have hone:(cellsOf x).all AV.oneOwn=true:=by
  rw [zak] at h2 ⊢
  exact fun y hy=>qsm (h2 y hy)
 obtain ⟨hs,hr⟩:=qsk hm hx hone hown
 obtain ⟨v0,xs,g1,g2,g3,g4,g5⟩:=hm.mb r i R (qfm hl hob)
 obtain ⟨vr,er,nr,e1,e2,e3,e4⟩:=qnz ha
 rw [g1] at e1;cases e1
 obtain ⟨g,lo,cap,rfl,rfl⟩:=e4 hne rfl
 rw [qoi hT t g (lo+(k * R.sz+o)) v (by omega) h4]
 rcases g2.2 with ⟨hnil,_⟩|⟨g',lo',cap',cur,hv,hheap,hnc,hcm,hcs,htake⟩
 ·cases hnil
 ·simp only [Value.slice.injEq,Option.some.injEq,Addr.mk.injEq,and_true,true_and] at hv
  obtain ⟨⟨rfl,rfl⟩,rfl⟩:=hv
  have hisz:k * R.sz+R.sz≤R.n * R.sz:=by
   have:(k+1) * R.sz≤R.n * R.sz:=zt R.sz hk
   rwa [zar] at this
  have hnsz:R.n * R.sz≤cap * R.sz:=zt R.sz hnc
  have hlen:v.cells.toList.length=(cellsOf x).length:=by simpa using hs
  have hst:=run_storeCells_at P g (lo+(k * R.sz+o)) R.e v.cells.toList 0 cur w hheap (by rw [hlen];omega)
   (fun u hu=>by
    obtain ⟨j,hj⟩:=List.mem_iff_getElem?.1 hu
    have hjl:j<(cellsOf x).length:=by rw [← hlen];exact (List.getElem?_eq_some_iff.1 hj).1
    exact (hr j _ u (zb hjl) (by simpa using hj)).2)
  simp only [zac] at hst
  have hcl:cur.toList.length=cur.size:=by simp
  let cur':=cur.toList.take (lo+(k * R.sz+o))++v.cells.toList++cur.toList.drop (lo+(k * R.sz+o)+v.cells.toList.length)
  have hcur':cur'.length=cur.size:=by
   simp only [cur',zi,zu,zah,hcl,hlen]
   omega
  have hwg:w.grownBy (w.setRow g cur'.toArray) (some g):=
   ⟨rfl,rfl,rfl,by simp [World.setRow],fun j hj hne=>by simp only [World.setRow,zbl];rw [ze (by rintro rfl;exact hne rfl)]⟩
  have hheap':(w.setRow g cur'.toArray).heap[g]?=some (.cells cur'.toArray R.e (0,0)):=by
   simp [World.setRow,zbl,hheap]
  have hget:∀ j,cur'[j]?=if lo+(k * R.sz+o)≤j∧j<lo+(k * R.sz+o)+(cellsOf x).length then v.cells.toList[j - (lo+(k * R.sz+o))]? else cur.toList[j]?:=by
   intro j
   simp only [cur',xe]
   by_cases hlo:j<lo+(k * R.sz+o)
   ·rw [zn (by rw [zu,hcl];omega),xc,za hlo,ze (by omega)]
   ·rw [zl (by rw [zu,hcl];omega),zu,hcl,Nat.min_eq_left (by omega)]
    by_cases hin:j<lo+(k * R.sz+o)+(cellsOf x).length
    ·rw [zn (by omega),za (by omega)]
    ·rw [zl (by omega),xa,ze (by omega)]
     congr 1;omega
  have hturn:=hm.turnRow (w':=w.setRow g cur'.toArray) (ep:=R.ep) (n:=R.n) (f:=fun j=>if j=k then qy (R.f k) o (cellsOf x) else R.f j) hl hob (v':=.slice (some ⟨g,lo,none⟩) R.n cap) (xs:=(cur'.drop lo).take (R.n * R.sz)) g1 g5 (.inr ⟨rfl,.inr ⟨rfl,rfl⟩⟩) hwg
   ⟨by rw [zu,zah,hcur'];omega,.inr ⟨g,lo,cap,cur'.toArray,rfl,hheap',hnc,hcm,by rw [List.size_toArray,hcur'];exact hcs,rfl⟩⟩ (.inl rfl) (fun j hj=>?_) (fun j l y hj hy=>?_)
  ·exact ⟨_,_,hst,hturn⟩
  ·by_cases h:j=k
   ·subst h;simp [qkl,g3 j hj]
   ·simp [h,g3 j hj]
  ·have hjsz:l<R.sz:=by
    have:l<(if j=k then qy (R.f k) o (cellsOf x) else R.f j).length:=(List.getElem?_eq_some_iff.1 hy).1
    by_cases h:j=k
    ·rw [za h,qkl,g3 k hk] at this;exact this
    ·rw [ze h,g3 j hj] at this;exact this
   have hi'sz:j * R.sz+R.sz≤R.n * R.sz:=by
    have:(j+1) * R.sz≤R.n * R.sz:=zt R.sz hj
    rwa [zar] at this
   rw [xc,za (by omega),xa,hget]
   have hold:∀ z,(R.f j)[l]?=some z→∃ u,cur.toList[lo+(j * R.sz+l)]?=some u∧u.oneCell'=true∧Rel rd (mp.sel R.ids) z u:=by
    intro z hz
    obtain ⟨u,hu,hu1,hu2⟩:=g4 j l z hj hz
    rw [← htake,xc,za (by omega),xa] at hu
    exact ⟨u,hu,hu1,hu2⟩
   by_cases h:j=k
   ·subst h
    simp only [za] at hy
    rw [qsj,g3 j hk,za hjsz] at hy
    by_cases hin:o≤l∧l<o+(cellsOf x).length
    ·rw [za hin] at hy
     rw [za (by omega),show lo+(j * R.sz+l) - (lo+(j * R.sz+o))=l - o by omega]
     have hjl:l - o<v.cells.toList.length:=by omega
     obtain ⟨hr1,hr2⟩:=hr (l - o) y v.cells.toList[l - o] hy (by simp)
     exact ⟨_,zb hjl,hr2,qsn (List.all_eq_true.1 h2 y (zp hy)) hr1⟩
    ·rw [ze hin] at hy
     rw [ze (by omega)]
     exact hold y hy
   ·simp only [ze h] at hy
    rw [ze]
    ·exact hold y hy
    ·rintro ⟨ha,hb⟩
     by_cases hlo:j<k
     ·have:j * R.sz+R.sz≤k * R.sz:=by
       have:(j+1) * R.sz≤k * R.sz:=zt R.sz hlo
       rwa [zar] at this
      omega
     ·have:k * R.sz+R.sz≤j * R.sz:=by
       have:(k+1) * R.sz≤j * R.sz:=zt R.sz (by omega)
       rwa [zar] at this
      omega
end Go.Sx
end
section
namespace Go.Sx
open Go Go.RowKit
variable {P:Program} {T:Nat→TI} {C:Cfg} {c:Ctx} {rd:Rd} {mp:Mp} {st:List (Nat × SO)} {nx:Nat} {w:World} {s:ASt}
theorem qhy {e:TypeId} {z:Value} (hz:(T e).zero=z.cells.toList.map qcs):∀ (j:Nat) x v,(T e).zero[j]?=some x→z.cells[j]?=some v→Rel rd mp x v:=by
 intro j x v hx hv
 rw [hz] at hx
 simp at hx
 obtain ⟨u,hu,rfl⟩:=hx
 rw [hv] at hu;cases hu
 exact qkh rd mp v
theorem jae (hT:∀ t,T t=tab P t):∀ (fs:List Field),(fs.map fun f=>(f.offset,f.type)).all (fun p=>Nat.ble 1 (T p.2).size)=true→
  fs.mapM (fun f=>(P.info? f.type).map fun i=>(f.offset,i.size))=some (fs.map fun f=>(f.offset,(T f.type).size)):=by
 intro fs
 induction fs with
 | nil=>intro _;rfl
 | cons f fs ih=>
  intro h
  simp only [zag,List.all_cons,zh,zx] at h
  obtain ⟨i,hi,hs,_⟩:=qaw hT h.1
  simp [List.mapM_cons,hi,ih h.2,hs]
theorem jaf (hT:∀ t,T t=tab P t) (hm:Mem c rd mp st nx w) (t:TypeId) (parts:List (Nat × AV)) (vparts:Array (Nat × Value)) (hl:vparts.size=parts.length)
  (hv:∀ (j:Nat) p q,parts[j]?=some p→vparts[j]?=some q→p.1=q.1∧Rel rd mp p.2 q.2):Fits P c rd mp st nx w (qek T st t parts) (Instr.build t vparts):=by
 unfold qek
 split
 ·rename_i fs hk
  cases hc:(Nat.ble 1 (T t).size && Nat.beq (T t).zero.length (T t).size && fs.all (fun p=>Nat.ble 1 (T p.2).size)) with
  | false=>trivial
  | true=>
   simp only [cond_true]
   simp only [zh,zaj,zx] at hc
   obtain ⟨⟨h1,h2⟩,h3⟩:=hc
   split
   ·rename_i cs hf
    intro hob
    obtain ⟨i,z,hi,hz,_,_,hzs,hzz⟩:=qda hT h1 h2
    obtain ⟨fields,hd,rfl⟩:=qkg hT hk
    obtain ⟨us,hus,hu1,hu2⟩:=qoh hm (qno T (fields.toList.map fun f=>(f.offset,f.type))) (fun i=>(fields.toList.map fun f=>(f.offset,(T f.type).size)).toArray[i]?)
     (fun i _=>by simp [qno];rfl) parts vparts.toList (T t).zero z.cells cs (by rw [hzz];simp) (qhy hzz) (by simpa using hl) (fun j p q hp hq=>hv j p q hp (by simpa using hq)) hob hf
    refine .here hm (x:=.agg us) (run_build w t vparts us ?_) (.agg _ _ _ hu1 hu2)
    simp only [Program.built,hi,hd,hz,jae hT _ h3]
    exact hus
   ·trivial
 ·rename_i n e hk
  cases hc:(Nat.ble 1 (T t).size && Nat.beq (T t).zero.length (T t).size && Nat.ble 1 (T e).size) with
  | false=>trivial
  | true=>
   simp only [cond_true]
   simp only [zh,zaj,zx] at hc
   obtain ⟨⟨h1,h2⟩,h3⟩:=hc
   split
   ·rename_i cs hf
    intro hob
    obtain ⟨i,z,hi,hz,_,_,hzs,hzz⟩:=qda hT h1 h2
    obtain ⟨ie,hie,hes,_⟩:=qaw hT h3
    obtain ⟨us,hus,hu1,hu2⟩:=qoh hm (fun i=>some (i * (T e).size,(T e).size)) (fun i=>some (i * ie.size,ie.size))
     (fun i _=>by rw [hes]) parts vparts.toList (T t).zero z.cells cs (by rw [hzz];simp) (qhy hzz) (by simpa using hl) (fun j p q hp hq=>hv j p q hp (by simpa using hq)) hob hf
    refine .here hm (x:=.agg us) (run_build w t vparts us ?_) (.agg _ _ _ hu1 hu2)
    simp only [Program.built,hi,qnx hT hk,hz,hie]
    exact hus
   ·trivial
 ·trivial
theorem qsq (z:List AV) (n:Nat):(qbz z n).length=n * z.length:=by
 induction n with
 | zero=>simp [qbz]
 | succ n ih=>simp [qbz,ih,zar];omega
theorem jag (z:List AV):∀ (n j:Nat),j<n * z.length→(qbz z n)[j]?=z[j % z.length]?:=by
 intro n
 induction n with
 | zero=>intro j hj;omega
 | succ n ih=>
  intro j hj
  rw [zar] at hj
  simp only [qbz]
  by_cases h:j<z.length
  ·rw [zn h,Nat.mod_eq_of_lt h]
  ·rw [zl (by omega),ih _ (by omega),Nat.mod_eq_sub_mod (by omega:z.length≤j)]
theorem qsr (hT:∀ t,T t=tab P t) (hm:Mem c rd mp st nx w) (t:TypeId) (len:Nat) (parts:List (Nat × AV)) (vparts:Array (Nat × Value)) (hl:vparts.size=parts.length)
  (hv:∀ (j:Nat) p q,parts[j]?=some p→vparts[j]?=some q→p.1=q.1∧Rel rd mp p.2 q.2) {e:TypeId} (hk:(T t).kd=.slice e) (h1:1≤(T e).size) (h2:len * (T e).size≤16777216) (h3:(T e).zero.length=(T e).size) {cs:List AV}
  (hf:qbm (fun i=>some (i * (T e).size,(T e).size)) (qbz (T e).zero len) parts=some cs) (hone:cs.all AV.oneOwn=true) (hob:obT (qcw st parts)) (hown:obT (jk st cs)) :
  ∃ us,(Instr.buildSlice t len vparts).run P w=.ok (.slice (some ⟨w.heap.size,0,none⟩) len len) (w.alloc (.cells us e)) ∧
   us.size=len * (T e).size∧(∀ v∈us,v.oneCell'=true)∧(∀ i,i<len→(chop (T e).size cs i).length=(T e).size) ∧
   ∀ (i j:Nat) x,i<len→(chop (T e).size cs i)[j]?=some x→∃ u,us[i * (T e).size+j]?=some u∧Rel rd mp x u∧x∈cs:=by
 obtain ⟨i,z,hi,hz,hsz,_,hzs,hzz⟩:=qda hT h1 h3
 let zc:Array Value:=(Array.range (len * (T e).size)).map (fun q=>z.cells[q % z.cells.size]!)
 have hzc:zc.size=len * (T e).size:=by simp [zc]
 have hzr:∀ (j:Nat) x v,(qbz (T e).zero len)[j]?=some x→zc[j]?=some v→Rel rd mp x v:=by
  intro j x v hx hv'
  have hj:j<len * (T e).size:=by rw [← hzc];exact (Array.getElem?_eq_some_iff.1 hv').1
  rw [jag _ _ _ (by rw [h3];exact hj),h3] at hx
  have hm':j % z.cells.size<z.cells.size:=Nat.mod_lt _ (by omega)
  simp only [zc,zax,Array.getElem?_range] at hv'
  rw [za hj] at hv'
  simp only [xu,Option.some.injEq] at hv'
  rw [getElem!_pos z.cells _ hm'] at hv'
  exact qhy hzz (j % (T e).size) x v hx (by rw [← hv',← hzs];simp [hm'])
 obtain ⟨us,hus,hu1,hu2⟩:=qoh hm (fun i=>some (i * (T e).size,(T e).size)) (fun k=>some (k * i.size,i.size))
  (fun k _=>by rw [hsz]) parts vparts.toList (qbz (T e).zero len) zc cs (by rw [qsq,h3];exact hzc) hzr (by simpa using hl) (fun j p q hp hq=>hv j p q hp (by simpa using hq)) hob hf
 have hfl:∀ (ps:List (Nat × AV)) (cs out:List AV),qbm (fun i=>some (i * (T e).size,(T e).size)) cs ps=some out→out.length=cs.length:=by
  intro ps
  induction ps with
  | nil=>intro cs out h;simp only [qbm,Option.some.injEq] at h;rw [h]
  | cons p ps ih=>
   intro cs out h
   obtain ⟨i,x⟩:=p
   simp only [qbm,qcr] at h
   cases hc:(qcv x && Nat.beq (cellsOf x).length (T e).size && Nat.ble (i * (T e).size+(T e).size) cs.length) with
   | false=>simp [hc] at h
   | true=>simp only [hc,cond_true] at h;rw [ih _ _ h,qkl]
 have hcsl:cs.length=len * (T e).size:=by rw [hfl _ _ _ hf,qsq,h3]
 have hus1:∀ v∈us,v.oneCell'=true:=by
  intro v hv'
  obtain ⟨j,hj⟩:=Array.mem_iff_getElem?.1 hv'
  have hjl:j<cs.length:=by rw [← hu1];exact (Array.getElem?_eq_some_iff.1 hj).1
  exact qkk hm (hu2 j cs[j] v (zb hjl) hj) (List.all_eq_true.1 hone cs[j] (zau hjl)) (qof hown _ (zau hjl))
 have hidx:∀ i j,i<len→j<(T e).size→i * (T e).size+j<us.size:=by
  intro i j hi' hj
  have:(i+1) * (T e).size≤len * (T e).size:=zt _ hi'
  rw [zar] at this
  omega
 refine ⟨us,?_,by omega,hus1,fun i hi'=>?_,fun i j x hi' hx=>?_⟩
 ·have hz0:¬ len * i.size > 2 ^ 24:=by rw [hsz];omega
  by_cases hlen:len=0
  ·subst hlen
   have hzc0:zc=#[]:=by
    apply Array.eq_empty_of_size_eq_zero
    simpa using hzc
   rw [hzc0] at hus
   simp [Instr.buildSlice,run_underlying (jb hT hk),sizeOf,typeInfo,hi,newRow]
   rw [show Array.map (fun _:Nat=>(default:Value)) (Array.range 0)=#[] from Array.eq_empty_of_size_eq_zero (by simp),hus]
   rfl
  ·have hne:¬ len * i.size=0:=by
    have:0<len * i.size:=Nat.mul_pos (by omega) (by omega)
    omega
   have hzc':(Array.range (len * i.size)).map (fun q=>z.cells[q % z.cells.size]!)=zc:=by simp only [zc,hsz]
   simp only [Instr.buildSlice,Sem.run_bind,run_underlying (jb hT hk),Result.andThen_ok,sizeOf,typeInfo,run_program,hi,Sem.run_pure,hz0,if_false,hne,zeroValue,hz,hzc',hus,newRow]
   rfl
 ·have:=hidx i ((T e).size - 1) hi' (by omega)
  simp only [chop,zu,zah]
  omega
 ·simp only [chop] at hx
  rw [xc] at hx
  split at hx
  ·rename_i hj
   rw [xa] at hx
   have:=hidx i j hi' hj
   have hr:=hu2 _ x (us.getD (i * (T e).size+j) undef) hx (by simp [this])
   exact ⟨_,by simp [this],hr,zp hx⟩
  ·cases hx
theorem qss:∀ {cs:List AV},cs.all (fun y=>y.one && y.pure1)=true→jk st cs=none
 | [],_=>rfl
 | x::cs,h=>by
  simp only [List.all_cons,zh] at h
  have:=qss (cs:=cs) h.2
  cases x <;> simp_all [jk,AV.one]
theorem jah (hT:∀ t,T t=tab P t) (hm:Mem c rd mp st nx w) (t:TypeId) (len:Nat) (parts:List (Nat × AV)) (vparts:Array (Nat × Value)) (hl:vparts.size=parts.length)
  (hv:∀ (j:Nat) p q,parts[j]?=some p→vparts[j]?=some q→p.1=q.1∧Rel rd mp p.2 q.2) {ob:Option DP} {y:AV} (h:qcf T st t len parts=.ok ob y) (hob:obT ob) :
  ∃ e us f,(T t).kd=.slice e∧y=.slc (T e).size len f∧1≤(T e).size∧len * (T e).size≤16777216∧(Instr.buildSlice t len vparts).run P w=.ok (.slice (some ⟨w.heap.size,0,none⟩) len len) (w.alloc (.cells us e)) ∧
   us.size=len * (T e).size∧(∀ v∈us,v.oneCell'=true)∧(∀ i,i<len→(f i).length=(T e).size) ∧
   ∀ (i j:Nat) x,i<len→(f i)[j]?=some x→∃ u,us[i * (T e).size+j]?=some u∧Rel rd Mp.none x u:=by
 unfold qcf at h
 split at h
 ·rename_i e hk
  cases hc:(Nat.ble 1 (T e).size && Nat.ble (len * (T e).size) 16777216 && Nat.beq (T e).zero.length (T e).size) with
  | false=>simp [hc] at h
  | true=>
   simp only [hc,cond_true] at h
   simp only [zh,zaj,zx] at hc
   obtain ⟨⟨h1,h2⟩,h3⟩:=hc
   split at h
   ·rename_i cs hf
    rw [qcr,qu] at h
    cases hone:cs.all (fun y=>y.one && y.pure1) with
    | false=>simp [hone] at h
    | true=>
     simp only [hone,cond_true,OR.ok.injEq] at h
     obtain ⟨rfl,rfl⟩:=h
     have hone':cs.all AV.oneOwn=true:=List.all_eq_true.2 fun y hy=>by
      have:=List.all_eq_true.1 hone y hy
      simp only [zh] at this
      cases y <;> simp_all [AV.oneOwn,AV.one]
     obtain ⟨us,hrun,hus,hus1,hfl,hx⟩:=qsr hT hm t len parts vparts hl hv hk h1 h2 h3 hf hone' hob (by rw [qss hone];trivial)
     refine ⟨e,us,chop (T e).size cs,hk,rfl,h1,h2,hrun,hus,hus1,hfl,fun i j x hi hxx=>?_⟩
     obtain ⟨u,hu,hr,hin⟩:=hx i j x hi hxx
     have:=List.all_eq_true.1 hone x hin
     simp only [zh] at this
     exact ⟨u,hu,hr.pure1 this.2⟩
   ·cases h
 ·cases h
theorem jai (st:List (Nat × SO)) (t:TypeId) (len:Nat) (parts:List (Nat × AV)):qcf T st t len parts=.bad∨∃ ob y,qcf T st t len parts=.ok ob y:=by
 unfold qcf
 split
 ·rename_i e _
  cases (Nat.ble 1 (T e).size && Nat.ble (len * (T e).size) 16777216 && Nat.beq (T e).zero.length (T e).size) with
  | false=>exact .inl rfl
  | true=>
   simp only [cond_true]
   split
   ·rename_i cs _
    rw [qcr,qu]
    cases cs.all (fun y=>y.one && y.pure1) with
    | false=>exact .inl rfl
    | true=>exact .inr ⟨_,_,rfl⟩
   ·exact .inl rfl
 ·exact .inl rfl
theorem jaj (hT:∀ t,T t=tab P t) (hm:Mem c rd mp st nx w) (t:TypeId) (len:Nat) (parts:List (Nat × AV)) (vparts:Array (Nat × Value)) (hl:vparts.size=parts.length)
  (hv:∀ (j:Nat) p q,parts[j]?=some p→vparts[j]?=some q→p.1=q.1∧Rel rd mp p.2 q.2):Fits P c rd mp st nx w (qcf T st t len parts) (Instr.buildSlice t len vparts):=by
 rcases jai (T:=T) st t len parts with hb|⟨ob,y,hb⟩
 ·rw [hb];trivial
 ·rw [hb]
  intro hob
  obtain ⟨e,us,f,hk,rfl,h1,h2,hrun,hus,hone,hf,hx⟩:=jah hT hm t len parts vparts hl hv hb hob
  refine ⟨_,_,rd.add w.heap.size us,hrun,Rd.le_add hm us,hm.newRo us e hone,?_⟩
  by_cases hlen:len=0
  ·subst hlen;exact .slc0 _ _ _ _ _
  ·refine .slc _ _ _ _ _ _ _ (fun i j=>us.getD (i * (T e).size+j) undef) (by omega) (zj _) hf (fun i j hi' hj=>?_) (fun i j x hi' hx'=>?_)
   ·have:i * (T e).size+j<us.size:=by
     have:(i+1) * (T e).size≤len * (T e).size:=zt _ hi'
     rw [zar] at this
     omega
    simp [Rd.add,this]
   ·obtain ⟨u,hu,hr⟩:=hx i j x hi' hx'
    have:us.getD (i * (T e).size+j) undef=u:=by simp [zai,hu]
    rw [this]
    exact hr.mono (Rd.le_add hm us) (Mp.le.refl _)
end Go.Sx
end
section
namespace Go.Sx
open Go Go.RowKit
variable {P:Program} {T:Nat→TI} {C:Cfg} {c:Ctx} {rd:Rd} {mp:Mp} {st:List (Nat × SO)} {nx:Nat} {w:World} {s:ASt}
theorem jak (hT:∀ t,T t=tab P t) (hm:Mem c rd mp st nx w) (t:TypeId) (fi:Nat) (x:AV) (v:Value) (hx:Rel rd mp x v):Fits P c rd mp st nx w (qhv T t fi x) (Instr.field t v fi):=by
 unfold qhv
 split
 ·rename_i cs
  split
  ·rename_i fs hk
   split
   ·rename_i off ft hf
    obtain ⟨vs,rfl,hs,he⟩:=qgp hx
    obtain ⟨fields,hd,rfl⟩:=qkg hT hk
    simp only [zm,Option.map_eq_some_iff] at hf
    obtain ⟨fd,hfd,heq⟩:=hf
    simp only [Prod.mk.injEq] at heq
    obtain ⟨rfl,rfl⟩:=heq
    have hfd':fields[fi]?=some fd:=by simpa using hfd
    have hrun:(Instr.field t (.agg vs) fi).run P w=(part fd.type vs fd.offset).run P w:=by simp [Instr.field,run_underlying hd,hfd',asAgg]
    unfold qbe
    cases hag:qaq (T fd.type).kd with
    | true=>
     cases hl:Nat.ble (T fd.type).size (cs.drop fd.offset).length with
     | false=>trivial
     | true=>
      intro _
      have hle:(T fd.type).size≤(cs.drop fd.offset).length:=Nat.le_of_ble_eq_true hl
      rw [zah] at hle
      obtain ⟨inf,d,h1,h2,h3,h4,_⟩:=qcz hT (t:=fd.type) (by intro e;rw [e] at hag;simp [qaq] at hag)
      have hg:(isAgg fd.type).run P w=.ok true w:=by
       simp only [isAgg,Sem.run_bind,run_underlying h2,Result.andThen]
       rw [h3] at hag
       cases d <;> simp [kdOf,qaq] at hag ⊢
      refine .here hm (x:=.agg (vs.extract fd.offset (fd.offset+inf.size))) ?_ ?_
      ·rw [hrun];simp [part,hg,sizeOf,typeInfo,h1]
      ·by_cases h0:inf.size=0
       ·refine .agg _ _ _ (by simp [h4,h0];omega) (fun j x v hx _=>by simp [h4,h0] at hx)
       refine .agg _ _ _ (by simp;omega) (fun j x v hx hv=>?_)
       rw [xc] at hx
       split at hx
       ·rw [xa] at hx
        rw [Array.getElem?_extract] at hv
        split at hv
        ·exact he _ _ _ hx hv
        ·cases hv
       ·cases hx
    | false=>
     cases hs1:Nat.beq (T fd.type).size 1 with
     | false=>trivial
     | true=>
      have hs':(T fd.type).size=1:=zq hs1
      cases hc:cs.drop fd.offset with
      | nil=>trivial
      | cons x r=>
       intro _
       have hx0:cs[fd.offset]?=some x:=by
        have:(cs.drop fd.offset)[0]?=some x:=by rw [hc];rfl
        rwa [xa,zac] at this
       have hlt:fd.offset<vs.size:=by rw [hs];exact (List.getElem?_eq_some_iff.1 hx0).1
       have hg:=qny hT (t:=fd.type) (by omega) w
       rw [hag] at hg
       exact .here hm (x:=vs[fd.offset]) (by rw [hrun];simp [part,hg,hlt]) (he _ _ _ hx0 (by simp [hlt]))
   ·trivial
  ·trivial
 ·trivial
theorem jal (hm:Mem c rd mp st nx w) (i:Nat) (x:AV) (v:Value) (hx:Rel rd mp x v):Fits P c rd mp st nx w (qhw i x) (Instr.extract v i):=by
 unfold qhw
 split
 ·rename_i vs
  split
  ·rename_i y hy
   intro _
   obtain ⟨us,rfl,hs,he⟩:=qsd hx
   have hlt:i<us.size:=by rw [hs];exact (List.getElem?_eq_some_iff.1 hy).1
   exact .here hm (x:=us[i]) (by simp [Instr.extract,hlt]) (he _ _ _ hy (by simp [hlt]))
  ·trivial
 ·trivial
theorem jam (hT:∀ t,T t=tab P t) {t:TypeId} (h:1≤(T t).size):∃ d,P.underlying t=some d:=by
 rw [hT] at h
 unfold tab at h
 split at h
 ·rename_i i d h1 h2
  exact ⟨d,h2⟩
 ·simp at h
theorem jan (hT:∀ t,T t=tab P t) {src to:TypeId} (h:qdg T src to=true):∃ e,P.underlying src=some (.slice e)∧P.underlying to=some .string∧P.underlying e=some (.int .u8):=by
 unfold qdg at h
 split at h
 ·rename_i e h1 h2
  simp only [zh] at h
  refine ⟨e,jb hT h1,qaz hT h2,?_⟩
  have h3:=h.2
  split at h3
  ·rename_i hk;exact qnv hT hk
  ·cases h3
 ·cases h
theorem jao {n:Nat} {f:Nat→List AV} (h:qns n f) {j:Nat} (hj:j<(qbf n f).length):f j=[.int .u8 ((qbf n f)[j].toNat:Int)]:=by
 have hn:j<n:=by simpa [qbf] using hj
 obtain ⟨b,hb⟩:=h j hn
 have:(qbf n f)[j]=b:=by simp [qbf,hb,qnr]
 rw [this,hb]
theorem qhz (hT:∀ t,T t=tab P t) {src to:TypeId} (hk:qdg T src to=true) (a:Option Addr) (n cap:Nat) (f:Nat→List AV) (h:qns n f)
  (hc:0<n→∃ blk off,a=some ⟨blk,off,none⟩∧∀ i x,i<n→f i=[x]→∃ u,w.cell? ⟨blk,off+i,none⟩=some u∧Rel rd mp x u) :
  (convert src to (.slice a n cap)).run P w=.ok (.string ⟨(qbf n f).toArray⟩) w:=by
 obtain ⟨e,h1,h2,h3⟩:=jan hT hk
 by_cases hn:n=0
 ·subst hn
  rw [run_convert_bytes_string w src to e a 0 cap h1 h3 h2]
  cases a with
  | none=>simp [Conv.bytesToString,qbf];rfl
  | some ad=>simp [Conv.bytesToString,loadCells,loadCellsFrom,qbf];rfl
 ·obtain ⟨blk,off,rfl,hcell⟩:=hc (by omega)
  have hlen:(qbf n f).length=n:=by simp [qbf]
  have:=run_convert_bytes_back (P:=P) w src to e ⟨blk,off,none⟩ cap (qbf n f) h1 h3 h2 (fun j hj=>by
   obtain ⟨u,hu,hr⟩:=hcell j _ (by omega) (jao h hj)
   rw [Addr.add_lit,hu,jn hr])
  rwa [hlen] at this
theorem jap (hT:∀ t,T t=tab P t) (hm:Mem c rd mp st nx w) (dst:Option Nat) (src to:TypeId) (x:AV) (v:Value) (hx:Rel rd mp x v) :
  Fits P c rd mp st nx w (qel T C st dst src to x) (convert src to v):=by
 unfold qel
 cases hc:Nat.ble 1 (T src).size with
 | false=>trivial
 | true=>
  obtain ⟨d,hd⟩:=jam hT (t:=src) (Nat.le_of_ble_eq_true hc)
  simp only [cond_true]
  split
  ·rename_i sz n f
   cases hk:(qdg T src to && Nat.beq sz 1) with
   | false=>trivial
   | true=>
    simp only [zh] at hk
    obtain rfl:sz=1:=zq hk.2
    intro h
    cases hx with
    | slc0 _ _ _ a cap=>exact .here hm (qhz (rd:=rd) (mp:=mp) hT hk.1 a 0 cap f h (fun h=>by omega)) (.str _ _)
    | slc _ _ _ _ blk off cap val h0 hc' hs hr he=>
     refine .here hm (qhz (rd:=rd) (mp:=mp) hT hk.1 _ n cap f h (fun _=>⟨blk,off,rfl,fun i x hi hf=>?_⟩)) (.str _ _)
     have h1:=hr i 0 hi (by omega)
     rw [Nat.mul_one,zac] at h1
     exact ⟨_,hm.rdw _ _ _ h1,(he i 0 x hi (by rw [hf];rfl)).mono (Rd.le.refl _) (Mp.none_le _)⟩
  ·rename_i r i e n
   split
   ·rename_i ob R hl
    cases hk:(qdg T src to && Nat.beq R.sz 1) with
    | false=>trivial
    | true=>
     simp only [zh] at hk
     have hsz:R.sz=1:=zq hk.2
     intro hob
     obtain ⟨hob1,hn,h⟩:=(qv _ _).1 hob
     obtain ⟨xs,hv,hown,hlen,hcells,_⟩:=qcc hm hl hob1 hx hn
     have hn2:=hn.2
     subst hn2
     rcases hown.2 with ⟨rfl,h0⟩|⟨g,lo,cap,cur,rfl,hrest⟩
     ·rw [h0] at h ⊢
      exact .here hm (qhz (rd:=rd) (mp:=mp) hT hk.1 none 0 0 R.f h (fun h=>by omega)) (.str _ _)
     ·refine .here hm (qhz (rd:=rd) (mp:=mp) hT hk.1 _ R.n cap R.f h (fun _=>⟨g,lo,rfl,fun i x hi hf=>?_⟩)) (.str _ _)
      obtain ⟨u,hu,_,hr⟩:=hcells i 0 x hi (by rw [hf];rfl)
      rw [hsz,Nat.mul_one,zac] at hu
      exact ⟨u,hown.cells hu,hr.mono (Rd.le.refl _) (Mp.sel_le _ _)⟩
   ·trivial
  ·cases hk:qdg T src to with
   | false=>trivial
   | true=>
    intro _
    cases hx
    have:=qhz (w:=w) (rd:=rd) (mp:=mp) hT hk none 0 0 (fun _=>[]) (fun i hi=>by omega) (fun h=>by omega)
    exact .here hm this (.str _ _)
  ·rename_i k n
   split
   ·rename_i k' hk
    cases jn hx
    refine qgo hm _ _ _ _ ?_
    simp only [convert,Sem.run_bind,run_underlying hd,run_underlying (qnv hT hk),Result.andThen_ok]
    cases d <;> simp [Conv.intToInt]
   ·trivial
  ·rename_i l
   split
   ·rename_i hk
    cases qar hx
    intro _
    refine .here hm (x:=.string ⟨l.toArray⟩) ?_ (.str _ _)
    simp only [convert,Sem.run_bind,run_underlying hd,run_underlying (qaz hT hk),Result.andThen_ok]
    cases d <;> simp
   ·trivial
  ·trivial
theorem jaq (hT:∀ t,T t=tab P t) (hm:Mem c rd mp st nx w) (t ty:TypeId) (x:AV) (v:Value) (hx:Rel rd mp x v) :
  Fits P c rd mp st nx w (lenO st (T t).kd x) (Builtin.len_ #[t] ty #[v]):=by
 unfold lenO
 split
 ·rename_i l hk
  cases qar hx
  exact fun _=>.here hm (x:=.int .i64 l.length) (by simp [Builtin.len_,run_underlying (qaz hT hk),goInt,qep]) (.int _ _ _)
 ·rename_i e sz n f he
  obtain ⟨ad,cap,rfl,_⟩:=qkj hx
  exact fun _=>.here hm (x:=.int .i64 n) (by simp [Builtin.len_,run_underlying (jb hT he),goInt]) (.int _ _ _)
 ·rename_i el r i e n he
  split
  ·rename_i ob R hl
   intro hob
   obtain ⟨hob1,hn⟩:=(qv _ _).1 hob
   obtain ⟨xs,h1,h2,_⟩:=qcc hm hl hob1 hx hn
   refine .here hm (x:=.int .i64 n) ?_ (.int _ _ _)
   have hn2:=hn.2
   rcases h2.2 with ⟨rfl,h0⟩|⟨g,lo,cap,cur,rfl,_⟩
   ·simp [Builtin.len_,run_underlying (jb hT he),goInt,hn2,h0]
   ·simp [Builtin.len_,run_underlying (jb hT he),goInt,hn2]
  ·trivial
 ·rename_i e he
  cases hx
  exact fun _=>.here hm (x:=.int .i64 0) (by simp [Builtin.len_,run_underlying (jb hT he),goInt]) (.int _ _ _)
 ·trivial
def Src (w:World) (sz m:Nat) (y:Value) (news:List Value):Prop:=
 news.length=m * sz∧∃ a c,y=.slice a m c∧(m≠0→∃ ad,a=some ad∧(∀ j u,news[j]?=some u→w.cell? (ad.add j)=some u)∧∀ u∈news,u.oneCell'=true)
theorem qoj (w:World) (t ty e:TypeId) (i:TypeInfo) (ht:P.underlying t=some (.slice e)) (hi:P.info? e=some i) {size:Nat}
  (v:Value) (n:Nat) (xs:List Value) (hown:Owns w e size v n xs) (a:Option Addr) (c:Nat):(Builtin.append_ #[t,t] ty #[v,.slice a 0 c]).run P w=.ok v w:=by
 rcases hown.2 with ⟨rfl,rfl⟩|⟨g,lo,cap,cur,rfl,_,hnc,_⟩ <;> cases a <;>
  simp [Builtin.append_,run_underlying ht,sizeOf,typeInfo,hi,Builtin.lenOf,Builtin.firstCells,loadCells,loadCellsFrom,storeCells, *]
theorem qok (w:World) (t ty e:TypeId) (i:TypeInfo) (z:Value) (size bytes:Nat) (ht:P.underlying t=some (.slice e)) (hi:P.info? e=some i) (hz:i.zero=some z)
  (hsize:i.size=size) (hby:i.bytes=bytes) (hzs:z.cells.size=size) (hsz:0<size) (v:Value) (n:Nat) (xs:List Value) (hown:Owns w e size v n xs) (y:Value) (m:Nat) (news:List Value) (hy:Src w size m y news)
  (h63:n+m≤maxLen) (hbytes:(n+m) * bytes≤140737488355328) :
  ∃ v' w',(Builtin.append_ #[t,t] ty #[v,y]).run P w=.ok v' w'∧Owns w' e size v' (n+m) (xs++news)∧w.grownBy w' v.ownBlock∧(v'.ownBlock=v.ownBlock∨v'.ownBlock=some w.heap.size)∧(m=0→v'=v):=by
 obtain ⟨hl,a,c,rfl,hsrc⟩:=hy
 by_cases hm:m=0
 ·subst hm
  have hn:news=[]:=xb (by simpa using hl)
  subst hn
  exact ⟨v,w,qoj w t ty e i ht hi v n xs hown a c,by simpa using hown,World.grownBy.refl w _,.inl rfl,fun _=>rfl⟩
 ·obtain ⟨ad,rfl,hnews,h1⟩:=hsrc hm
  rcases hown.2 with ⟨rfl,rfl⟩|⟨g,lo,cap,cur,rfl,hg,hnc,hcm,hcs,htake⟩
  ·have hx:xs=[]:=xb (by simpa using hown.1)
   subst hx
   obtain ⟨v',w',hrun,hown',hgr,_,hat⟩:=run_append_own_at (P:=P) w 0 t ty e i z size bytes ht hi hz hsize hby hzs hsz (.slice none 0 0) 0 [] (World.ownsRow_nil w _ _ _) ad m c news hl hnews h1 h63 hbytes (zv _)
   exact ⟨v',w',hrun,.of_row hown',hgr,hat,fun h=>absurd h hm⟩
  ·subst hsize
   subst hby
   have hlen:(xs++news).length=(n+m) * i.size:=by rw [zi,hown.1,hl,zaq]
   have hsmall:n+m≤9223372036854775807:=by simp only [maxLen] at h63;omega
   by_cases hroom:n+m≤cap
   ·have hrs:(n+m) * i.size≤cap * i.size:=zt _ hroom
    rw [zaq] at hrs
    have hfit:lo+n * i.size+news.length≤cur.size:=by rw [hl];omega
    have hf:=run_firstCells_some (P:=P) w i.size m ad m c news hl hnews
    have hst:=run_storeCells_at P g (lo+n * i.size) e news 0 cur w hg (by simpa using hfit) h1
    simp only [zac] at hst
    have hr:(Builtin.append_ #[t,t] ty #[.slice (some ⟨g,lo,none⟩) n cap,.slice (some ad) m c]).run P w =
      .ok (.slice (some ⟨g,lo,none⟩) (n+m) cap) (w.setRow g (cur.toList.take (lo+n * i.size)++news++cur.toList.drop (lo+n * i.size+news.length)).toArray):=by
     simp [Builtin.append_,run_underlying ht,sizeOf,typeInfo,hi,Builtin.lenOf,hroom,hf,Addr.add_lit,hst]
    have hcl:cur.toList.length=cur.size:=by simp
    refine ⟨_,_,hr,⟨hlen,.inr ⟨g,lo,cap,_,rfl,setRow_heap w g cur _ e _ hg,hroom,hcm,?_,?_⟩⟩,⟨rfl,rfl,rfl,by simp,fun k _ hk=>setRow_other w g k _ (fun e=>hk (by simp [Value.ownBlock,e]))⟩,.inl rfl,fun h=>absurd h hm⟩
    ·simp only [List.size_toArray,zi,zu,zah]
     omega
    ·simp only [xe]
     have htk:(cur.toList.take (lo+n * i.size)).drop lo=xs:=by rw [← htake,List.drop_take,Nat.add_sub_cancel_left]
     rw [List.drop_append_of_le_length (by rw [zu,hcl];omega),htk,← xe,← hlen]
     exact List.take_left
   ·have holds:∀ j u,xs[j]?=some u→w.cell? ((⟨g,lo,none⟩:Addr).add j)=some u:=fun j u hu=>by rw [Addr.add_lit];exact hown.cells hu
    have hr:=run_append_grow (P:=P) w t ty e i z ht hi hz ⟨g,lo,none⟩ n cap xs hown.1 holds ad m c news hl hnews (by omega) (by omega) (growslice_fits (by omega) hbytes)
    have hge:=grownCap_ge w (n+m) cap e
    have hcm':grownCap w (n+m) cap e≤maxLen:=grownCap_le_maxLen w (n+m) cap e h63
    refine ⟨_,_,hr,⟨hlen,.inr ⟨w.heap.size,0,_,_,rfl,heap_alloc_new w.drew _,hge,hcm',?_,?_⟩⟩,⟨rfl,rfl,rfl,by simp,fun k hk _=>heap_alloc_old w.drew _ hk⟩,.inr rfl,fun h=>absurd h hm⟩
    ·simp only [Array.size_append,List.size_toArray,size_zeroCells,hzs,hown.1,hl,← zaq,zw]
     exact Nat.le_of_eq (congrArg (· * i.size) (by omega))
    ·simp only [Array.toList_append,xe,List.drop_zero]
     rw [← xe,← hlen]
     exact List.take_left
theorem qol (hm:Mem c rd mp st nx w) {sz m:Nat} (hsz0:0<sz) {g:Nat→List AV} {y:Value} (hy:Rel rd mp (.slc sz m g) y) :
  ∃ news,Src w sz m y news∧(∀ i,i<m→(g i).length=sz)∧∀ (i j:Nat) x,i<m→(g i)[j]?=some x→∃ u,news[i * sz+j]?=some u∧u.oneCell'=true∧Rel rd Mp.none x u:=by
 cases hy with
 | slc0 _ _ _ a cap=>exact ⟨[],⟨by simp,a,cap,rfl,fun h=>absurd rfl h⟩,fun i hi=>by omega,fun i j x hi=>by omega⟩
 | slc _ _ _ _ blk off cap val h0 hc hs hr he=>
  let news:List Value:=(List.range (m * sz)).map fun q=>val (q / sz) (q % sz)
  have hnl:news.length=m * sz:=by simp [news]
  have hnget:∀ q,q<m * sz→news[q]?=some (val (q / sz) (q % sz)):=by
   intro q hq
   simp [news,hq]
  have hrd:∀ q,q<m * sz→rd blk (off+q)=some (val (q / sz) (q % sz)):=by
   intro q hq
   have h1':q / sz<m:=Nat.div_lt_of_lt_mul (by rwa [Nat.mul_comm] at hq)
   have h2':q % sz<sz:=Nat.mod_lt _ hsz0
   have:=hr _ _ h1' h2'
   rwa [show q / sz * sz+q % sz=q from Nat.div_add_mod' q sz] at this
  refine ⟨news,⟨hnl,some ⟨blk,off,none⟩,cap,rfl,fun _=>⟨_,rfl,fun j u hu=>?_,fun u hu=>?_⟩⟩,hs,fun i j x hi hx=>?_⟩
  ·have hj:j<m * sz:=by rw [← hnl];exact (List.getElem?_eq_some_iff.1 hu).1
   rw [hnget j hj] at hu
   rw [Addr.add_lit,hm.rdw _ _ _ (hrd j hj)]
   exact hu
  ·obtain ⟨j,hj⟩:=List.mem_iff_getElem?.1 hu
   have hj':j<m * sz:=by rw [← hnl];exact (List.getElem?_eq_some_iff.1 hj).1
   rw [hnget j hj'] at hj
   cases hj
   exact hm.rd1 _ _ _ (hrd j hj')
  ·have hj:j<sz:=by rw [← hs i hi];exact (List.getElem?_eq_some_iff.1 hx).1
   have hq:i * sz+j<m * sz:=by
    have:(i+1) * sz≤m * sz:=zt sz hi
    rw [zar] at this
    omega
   have hdiv:(i * sz+j) / sz=i:=by rw [Nat.add_comm,Nat.add_mul_div_right _ _ hsz0,Nat.div_eq_of_lt hj,zw]
   have hmod:(i * sz+j) % sz=j:=by rw [Nat.add_comm,Nat.add_mul_mod_self_right,Nat.mod_eq_of_lt hj]
   have hg':=hnget _ hq
   rw [hdiv,hmod] at hg'
   exact ⟨val i j,hg',hm.rd1 _ _ _ (hr _ _ hi hj),he _ _ _ hi hx⟩
theorem jar {e:TypeId} {sz m:Nat} {y:Value} {xs:List Value} (h:Owns w e sz y m xs) (h1:∀ u∈xs,u.oneCell'=true):Src w sz m y xs:=by
 refine ⟨h.1,?_⟩
 rcases h.2 with ⟨rfl,h0⟩|⟨g,lo,cap,cur,rfl,rest⟩
 ·exact ⟨none,0,by rw [h0],fun hm=>absurd h0 hm⟩
 ·exact ⟨_,cap,rfl,fun _=>⟨_,rfl,fun j u hu=>by rw [Addr.add_lit];exact h.cells hu,h1⟩⟩
theorem qst {mp1:Mp} {sz n m:Nat} {f g:Nat→List AV} {xs news:List Value} (hxl:xs.length=n * sz) (hf:∀ i,i<n→(f i).length=sz) (hg:∀ i,i<m→(g i).length=sz)
  (hx:∀ (i j:Nat) x,i<n→(f i)[j]?=some x→∃ u,xs[i * sz+j]?=some u∧u.oneCell'=true∧Rel rd mp1 x u) (hy:∀ (i j:Nat) x,i<m→(g i)[j]?=some x→∃ u,news[i * sz+j]?=some u∧u.oneCell'=true∧Rel rd mp1 x u) :
  (∀ i,i<n+m→(appF n f m g i).length=sz)∧∀ (i j:Nat) x,i<n+m→(appF n f m g i)[j]?=some x→∃ u,(xs++news)[i * sz+j]?=some u∧u.oneCell'=true∧Rel rd mp1 x u:=by
 refine ⟨fun i hi'=>?_,fun i j x hi' hx'=>?_⟩
 ·simp only [appF]
  by_cases h:i<n
  ·rw [za h];exact hf i h
  ·rw [ze h,za hi'];exact hg _ (by omega)
 ·simp only [appF] at hx'
  by_cases h:i<n
  ·rw [za h] at hx'
   obtain ⟨u,hu,r⟩:=hx i j x h hx'
   exact ⟨u,by rw [zn (List.getElem?_eq_some_iff.1 hu).1];exact hu,r⟩
  ·rw [ze h,za hi'] at hx'
   obtain ⟨u,hu,r⟩:=hy (i - n) j x (by omega) hx'
   have hidx:i * sz+j=n * sz+((i - n) * sz+j):=by
    rw [← zbt,← zaq,show n+(i - n)=i by omega]
   refine ⟨u,?_,r⟩
   rw [hidx,zl (by rw [hxl];omega),hxl,show n * sz+((i - n) * sz+j) - n * sz=(i - n) * sz+j by omega]
   exact hu
end Go.Sx
end
section
namespace Go.Sx
open Go Go.RowKit
variable {P:Program} {T:Nat→TI} {C:Cfg} {c:Ctx} {rd:Rd} {mp:Mp} {st:List (Nat × SO)} {nx:Nat} {w:World} {s:ASt} {a:Act}
theorem Mem.newRowIds (hm:Mem c rd mp st nx w) (hsup:Sup c nx) {w':World} (ids:List Nat) {e:TypeId} {sz n:Nat} {f:Nat→List AV} {v:Value} {xs:List Value} (hg:w.grownBy w' none) (hown:Owns w' e sz v n xs) (hat:v.ownBlock=none∨∃ g,v.ownBlock=some g∧w.heap.size≤g)
  (hf:∀ k,k<n→(f k).length=sz) (hx:∀ (k j:Nat) x,k<n→(f k)[j]?=some x→∃ u,xs[k * sz+j]?=some u∧u.oneCell'=true∧Rel rd (mp.sel ids) x u) :
  Mp.le mp (mp.setRow nx 0 v 0 n)∧Mem c rd (mp.setRow nx 0 v 0 n) ((nx,.row ids e sz 0 n f)::st) (nx+1) w':=by
 have hfr:=hm.fresh nx hsup.here
 have hmono:∀ v0 e0 n0,mp.row nx 0=some (v0,e0,n0)→e0<0∨(e0=0∧(n0<n∨(n0=n∧v0=v))):=fun v0 e0 n0 h=>by rw [hfr.2] at h;cases h
 refine ⟨Mp.le_setRow hmono,hm.setMem nx 0 ⟨ids,e,sz,0,n,f⟩ v xs none (fun p hp hne g hg' h=>by cases h) (fun g h=>by cases h) hmono hg hown hat hf (fun k j x hk hxx=>?_) (fun b ty cs hl=>?_) (fun r' i' R' hR=>?_) (fun i hi=>(hsup.next i hi).1) (fun i x hl=>?_) (fun hf=>(hsup.next _ hf).2 rfl) (fun r' e' sz' cnt ep len f' hl i' hi'=>?_) (fun r' sz' ep' n' f' hl=>?_)⟩
 ·exact hx k j x hk hxx
 ·rw [qh] at hl
  by_cases hi:nx=b
  ·rw [za hi] at hl;cases hl
  ·rwa [ze hi] at hl
 ·by_cases hi:nx=r'
  ·subst hi
   cases hR with
   | row hl=>rw [qh,za rfl] at hl;cases hl;exact .inl ⟨rfl,rfl,rfl⟩
   | fam hl _=>rw [qh,za rfl] at hl;cases hl
  ·exact .inr ⟨fun h=>hi h.1.symm,qjx hR hi⟩
 ·rw [qh] at hl
  by_cases hi:nx=i
  ·subst hi;exact fun hf=>(hsup.next _ hf).2 rfl
  ·rw [ze hi] at hl;exact fun hf=>hm.ids _ _ hl (hsup.next _ hf).1
 ·rw [qh] at hl
  by_cases hi:nx=r'
  ·rw [za hi] at hl;cases hl
  ·rw [ze hi] at hl
   simp only [Mp.setRow]
   rw [ze (fun h=>hi h.1.symm)]
   exact hm.out _ _ _ _ _ _ _ hl i' hi'
 ·rw [qh] at hl
  by_cases hi:nx=r'
  ·rw [za hi] at hl;cases hl
  ·rw [ze hi] at hl;exact ⟨Ne.symm hi,hl⟩
theorem Mem.newRow (hm:Mem c rd mp st nx w) (hsup:Sup c nx) {w':World} {e:TypeId} {sz n:Nat} {f:Nat→List AV} {v:Value} {xs:List Value} (hg:w.grownBy w' none) (hown:Owns w' e sz v n xs) (hat:v.ownBlock=none∨∃ g,v.ownBlock=some g∧w.heap.size≤g)
  (hf:∀ k,k<n→(f k).length=sz) (hx:∀ (k j:Nat) x,k<n→(f k)[j]?=some x→∃ u,xs[k * sz+j]?=some u∧u.oneCell'=true∧Rel rd Mp.none x u) :
  Mp.le mp (mp.setRow nx 0 v 0 n)∧Mem c rd (mp.setRow nx 0 v 0 n) ((nx,.row [] e sz 0 n f)::st) (nx+1) w':=
 hm.newRowIds hsup [] hg hown hat hf (fun k j x hk hxx=>by
  obtain ⟨u,hu,h1,h2⟩:=hx k j x hk hxx
  exact ⟨u,hu,h1,h2.mono (Rd.le.refl _) (Mp.none_le _)⟩)
theorem qgq {v:Value} {n:Nat} (hsl:isSl v=true):Rel rd (mp.setRow nx 0 v 0 n) (.own nx 0 0 n) v:=
 .own _ _ _ _ _ _ v 0 n (by simp [Mp.setRow]) (zj _) (fun _=>zj _) (fun _ _=>rfl) hsl
theorem qia {r i e n:Nat} {v:Value} (hsl:isSl v=true):Rel rd (mp.setRow r i v e n) (.own r i e n) v:=
 .own _ _ _ _ _ _ v e n (by simp [Mp.setRow]) (zj _) (fun _=>zj _) (fun _ _=>rfl) hsl
theorem qsu (hT:∀ t,T t=tab P t) (hm:Mem c rd mp s.st s.nx w) (t ty e:TypeId) (hk:(T t).kd=.slice e) {r i ep n m:Nat} {ob:Option DP} {R:RowV} (hl:qk s.st r i=some (ob,R)) (hob:obT ob) (hnow:ep=R.ep∧n=R.n)
  (h1:(T e).size=R.sz) (h2:e=R.e) (h4:1≤R.sz) (h5:(T e).zero.length=R.sz) {vx vy:Value} (hx:Rel rd mp (.own r i ep n) vx) {news:List Value} (hy:Src w R.sz m vy news) {g:Nat→List AV} (hgl:∀ k,k<m→(g k).length=R.sz)
  (hg:∀ (k j:Nat) x,k<m→(g k)[j]?=some x→∃ u,news[k * R.sz+j]?=some u∧u.oneCell'=true∧Rel rd (mp.sel R.ids) x u)
  (hb1:n+m≤9223372036854775807) (hb2:(n+m) * (T e).bytes≤140737488355328) :
  qsb P c rd mp (qo s.st r i ep (n+m) (appF n R.f m g)) s.nx w (.own r i ep (n+m)) (Builtin.append_ #[t,t] ty #[vx,vy]):=by
 obtain ⟨xs,hv,hown,hf,hxs,hsep⟩:=qcc hm hl hob hx hnow
 obtain ⟨i0,z,hi,hz,his,hib,hzs,_⟩:=qda hT (e:=e) (by omega) (by omega)
 obtain ⟨hn1,hn2⟩:=hnow
 subst hn1 hn2 h2
 obtain ⟨v',w',hrun,hown',hgr,hat,hm0⟩:=qok (P:=P) w t ty R.e i0 z R.sz (T R.e).bytes (jb hT hk) hi hz (by omega) hib (by omega) (by omega) vx R.n xs hown vy m news hy (by simp only [maxLen];omega) hb2
 obtain ⟨hf',hx'⟩:=qst (rd:=rd) (mp1:=mp.sel R.ids) (g:=g) (news:=news) (m:=m) hown.1 hf hgl hxs hg
 obtain ⟨hle,hmem⟩:=hm.turnRow (w':=w') (ep:=R.ep) (n:=R.n+m) (f:=appF R.n R.f m g) hl hob (v':=v') (xs:=xs++news) hv hsep
  (.inr ⟨rfl,by by_cases h0:m=0;(exact .inr ⟨by omega,(hm0 h0).symm⟩);(exact .inl (by omega))⟩) hgr hown' (by rcases hat with h|h;(exact .inl h);(exact .inr ⟨_,h,zj _⟩)) hf' hx'
 exact ⟨v',w',rd,_,hrun,Rd.le.refl _,hle,hmem,qia hown'.sl⟩
theorem qsv (hm:Mem c rd mp st nx w) {r i ep m:Nat} {ob:Option DP} {R:RowV} (hl:qk st r i=some (ob,R)) (hob:obT ob) {y:Value} (hy:Rel rd mp (.own r i ep m) y) (hn:ep=R.ep∧m=R.n) (hsz:0<R.sz) :
  ∃ ys,Src w R.sz m y ys∧(∀ k,k<m→(R.f k).length=R.sz)∧∀ (k j:Nat) x,k<m→(R.f k)[j]?=some x→∃ u,ys[k * R.sz+j]?=some u∧u.oneCell'=true∧Rel rd (mp.sel R.ids) x u:=by
 obtain ⟨ys,hv,hown,hf,hxs,hsep⟩:=qcc hm hl hob hy hn
 obtain ⟨_,hm'⟩:=hn
 subst hm'
 refine ⟨ys,jar hown ?_,hf,hxs⟩
 intro u hu
 obtain ⟨q,hq⟩:=List.mem_iff_getElem?.1 hu
 have hql:q<R.n * R.sz:=by rw [← hown.1];exact (List.getElem?_eq_some_iff.1 hq).1
 have hk1:q / R.sz<R.n:=Nat.div_lt_of_lt_mul (by rwa [Nat.mul_comm] at hql)
 have hk2:q % R.sz<(R.f (q / R.sz)).length:=by rw [hf _ hk1];exact Nat.mod_lt _ (by omega)
 obtain ⟨u',hu',ho,_⟩:=hxs (q / R.sz) (q % R.sz) _ hk1 (zb hk2)
 rw [Nat.div_add_mod' q R.sz,hq] at hu'
 cases hu'
 exact ho
theorem jas (hT:∀ t,T t=tab P t) (hm:Mem c rd mp s.st s.nx w) (hsup:Sup c s.nx) (t ty:TypeId) (x y:AV) (vx vy:Value) (hx:Rel rd mp x vx) (hy:Rel rd mp y vy) :
  Fits P c rd mp s.st s.nx w (qdh T s t x y) (Builtin.append_ #[t,t] ty #[vx,vy]):=by
 unfold qdh
 split
 ·rename_i r i ep n sz m g
  split
  ·rename_i e ob R hk hl
   cases hc:(Nat.beq (T e).size sz && Nat.beq e R.e && Nat.beq sz R.sz && Nat.ble 1 sz && Nat.beq (T e).zero.length sz) with
   | false=>trivial
   | true=>
    simp only [zh,zaj,zx] at hc
    obtain ⟨⟨⟨⟨h1,h2⟩,h3⟩,h4⟩,h5⟩:=hc
    intro hob
    obtain ⟨hob1,hn,hb1,hb2⟩:=(qv _ _).1 hob
    subst h3
    obtain ⟨news,hsrc,hgl,hg⟩:=qol hm (by omega) hy
    exact qsu hT hm t ty e hk hl hob1 hn h1 h2 h4 h5 hx hsrc hgl (fun k j x hk hxx=>by
     obtain ⟨u,hu,hu1,hu2⟩:=hg k j x hk hxx
     exact ⟨u,hu,hu1,hu2.mono (Rd.le.refl _) (Mp.none_le _)⟩) hb1 hb2
  ·trivial
 ·rename_i r i ep n r' i' ep' m
  split
  ·rename_i ob' R' hl'
   split
   ·rename_i e ob R hk hl
    cases hc:(Nat.beq (T e).size R.sz && Nat.beq e R.e && Nat.beq R'.sz R.sz && Nat.ble 1 R.sz && Nat.beq (T e).zero.length R.sz && !Nat.beq r r' && R'.ids.all (fun q=>R.ids.any (Nat.beq q))) with
    | false=>trivial
    | true=>
     simp only [zh,zaj,zx] at hc
     obtain ⟨⟨⟨⟨⟨⟨h1,h2⟩,h3⟩,h4⟩,h5⟩,_⟩,h7⟩:=hc
     intro hob
     obtain ⟨hob1,hob'⟩:=(qv _ _).1 hob
     obtain ⟨hob2,hn,hn',hb1,hb2⟩:=(qv _ _).1 hob'
     obtain ⟨ys,hsrc,hf,hxs⟩:=qsv hm hl' hob2 hy hn' (by omega)
     rw [h3] at hsrc hf hxs
     exact qsu (s:=⟨[],jv s.st r R'.ids,s.nx⟩) hT (hm.moreIds r R'.ids) t ty e hk hl hob1 hn h1 h2 h4 h5 hx hsrc hf (fun k j x hk hxx=>by
      obtain ⟨u,hu,hu1,hu2⟩:=hxs k j x hk hxx
      exact ⟨u,hu,hu1,hu2.mono (Rd.le.refl _) (Mp.sel_sub fun q hq=>mem_any.1 (List.all_eq_true.1 h7 q hq))⟩) hb1 hb2
   ·trivial
  ·trivial
 ·rename_i r i ep n
  split
  ·rename_i e ob R hk hl
   cases hc:(Nat.beq (T e).size R.sz && Nat.beq e R.e && Nat.ble 1 R.sz && Nat.beq (T e).zero.length R.sz) with
   | false=>trivial
   | true=>
    simp only [zh,zaj,zx] at hc
    obtain ⟨⟨⟨h1,h2⟩,h4⟩,h5⟩:=hc
    intro hob
    obtain ⟨hob1,hn⟩:=(qv _ _).1 hob
    obtain ⟨xs,hv,hown,hf,hxs,hsep⟩:=qcc hm hl hob1 hx hn
    obtain ⟨i0,z,hi,hz,his,hib,hzs,_⟩:=qda hT (e:=e) (by omega) (by omega)
    cases hy
    refine .here hm (x:=vx) ?_ hx
    exact qoj w t ty e i0 (jb hT hk) hi vx R.n xs (by rw [h2];exact hown) none 0
  ·trivial
 ·rename_i r' i' ep' m
  split
  ·rename_i e ob' R' hk hl'
   cases hc:(Nat.beq (T e).size R'.sz && Nat.ble 1 R'.sz && Nat.beq (T e).zero.length R'.sz) with
   | false=>trivial
   | true=>
    simp only [zh,zaj,zx] at hc
    obtain ⟨⟨h1,h4⟩,h5⟩:=hc
    intro hob
    obtain ⟨hob2,hn',hb1,hb2⟩:=(qv _ _).1 hob
    cases hx
    obtain ⟨i0,z,hi,hz,his,hib,hzs,_⟩:=qda hT (e:=e) (by omega) (by omega)
    obtain ⟨ys,hsrc,hf,hxs⟩:=qsv hm hl' hob2 hy hn' (by omega)
    have hown:Owns w e R'.sz (.slice none 0 0) 0 []:=⟨by simp,.inl ⟨rfl,rfl⟩⟩
    obtain ⟨v',w',hrun,hown',hgr,hat,hm0⟩:=qok (P:=P) w t ty e i0 z R'.sz (T e).bytes (jb hT hk) hi hz (by omega) hib (by omega) (by omega) _ 0 [] hown vy m ys hsrc (by simp only [maxLen];omega) (by simpa using hb2)
    rw [zw,zba] at hown'
    obtain ⟨hle,hmem⟩:=hm.newRowIds hsup R'.ids hgr hown' (by rcases hat with h|h;(exact .inl h);(exact .inr ⟨_,h,zj _⟩)) hf hxs
    exact ⟨v',w',rd,_,hrun,Rd.le.refl _,hle,hmem,qgq hown'.sl⟩
  ·trivial
 ·rename_i sz m g
  split
  ·rename_i e hk
   cases hc:(Nat.beq (T e).size sz && Nat.ble 1 sz && Nat.beq (T e).zero.length sz) with
   | false=>trivial
   | true=>
    simp only [zh,zaj,zx] at hc
    obtain ⟨⟨h1,h4⟩,h5⟩:=hc
    rintro ⟨hb1,hb2⟩
    cases hx
    obtain ⟨i0,z,hi,hz,his,hib,hzs,_⟩:=qda hT (e:=e) (by omega) (by omega)
    obtain ⟨news,hsrc,hgl,hg⟩:=qol hm (by omega) hy
    have hown:Owns w e sz (.slice none 0 0) 0 []:=⟨by simp,.inl ⟨rfl,rfl⟩⟩
    obtain ⟨v',w',hrun,hown',hgr,hat,hm0⟩:=qok (P:=P) w t ty e i0 z sz (T e).bytes (jb hT hk) hi hz (by omega) hib (by omega) (by omega) _ 0 [] hown vy m news hsrc (by simp only [maxLen];omega) (by simpa using hb2)
    rw [zw,zba] at hown'
    obtain ⟨hle,hmem⟩:=hm.newRow hsup hgr hown' (by rcases hat with h|h;(exact .inl h);(exact .inr ⟨_,h,zj _⟩)) hgl hg
    exact ⟨v',w',rd,_,hrun,Rd.le.refl _,hle,hmem,qgq hown'.sl⟩
  ·trivial
 ·trivial
theorem jat (hT:∀ t,T t=tab P t) (hm:Mem c rd mp s.st s.nx w) (hsup:Sup c s.nx) (t:TypeId) (x y:AV) (vx vy:Value) (hx:Rel rd mp x vx) (hy:Rel rd mp y vy) :
  Fits P c rd mp s.st s.nx w (qgk T s t x y) (Instr.makeSlice t vx vy):=by
 unfold qgk
 split
 ·rename_i kl l kc cp
  split
  ·rename_i e hk
   cases hc:(Nat.beq (T e).zero.length (T e).size && Nat.ble 1 (T e).size && (T e).zero.all (fun y=>y.one && y.pure1)) with
   | false=>trivial
   | true=>
    simp only [zh,zaj,zx] at hc
    obtain ⟨⟨h1,h2⟩,h3⟩:=hc
    rintro ⟨h0,hlc,hb1,hb2⟩
    cases jn hx;cases jn hy
    obtain ⟨i,z,hi,hz,his,hib,hzs,hzz⟩:=qda hT h2 h1
    have hrun:=run_make (P:=P) w t e i z (jb hT hk) hi hz kl kc l cp h0 hlc (by rw [hib,Int.mul_comm];omega) hb1
    rw [his] at hrun
    have hcp:l.toNat≤cp.toNat:=by omega
    have hms:(madeCells z.cells (cp.toNat * (T e).size)).size=cp.toNat * (T e).size:=size_madeCells _ _
    have hle:l.toNat * (T e).size≤cp.toNat * (T e).size:=zt _ hcp
    have hnr:=hm.newRow hsup (e:=e) (sz:=(T e).size) (n:=l.toNat) (f:=fun _=>(T e).zero) (v:=.slice (some ⟨w.heap.size,0,none⟩) l.toNat cp.toNat) (xs:=(madeCells z.cells (cp.toNat * (T e).size)).toList.take (l.toNat * (T e).size)) (World.grownBy_alloc w _ none)
     ⟨by rw [zu,zam,hms,Nat.min_eq_left hle],.inr ⟨w.heap.size,0,cp.toNat,_,rfl,heap_alloc_new w _,hcp,by simp only [maxLen];omega,by rw [zw];exact Nat.le_of_eq hms.symm,by rw [List.drop_zero]⟩⟩ (.inr ⟨_,rfl,zj _⟩)
     (fun _ _=>h1) (fun q j x hq hx'=>?_)
    ·exact ⟨_,_,rd,_,hrun,Rd.le.refl _,hnr.1,hnr.2,qgq rfl⟩
    ·have hj:j<(T e).size:=by rw [← h1];exact (List.getElem?_eq_some_iff.1 hx').1
     have hqj:q * (T e).size+j<l.toNat * (T e).size:=by
      have:(q+1) * (T e).size≤l.toNat * (T e).size:=zt _ hq
      rw [zar] at this
      omega
     have hmem:=List.all_eq_true.1 h3 x (zp hx')
     simp only [zh] at hmem
     have hmod:(q * (T e).size+j) % z.cells.size=j:=by rw [hzs,Nat.add_comm,Nat.add_mul_mod_self_right,Nat.mod_eq_of_lt hj]
     have hjz:j<z.cells.size:=by omega
     have hget:((madeCells z.cells (cp.toNat * (T e).size)).toList.take (l.toNat * (T e).size))[q * (T e).size+j]?=some z.cells[j]:=by
      rw [xc,za hqj]
      simp only [madeCells,xz,zax,Array.getElem?_range]
      rw [za (by omega)]
      simp only [xu,hmod]
      rw [getElem!_pos z.cells j hjz]
     have hr:Rel rd mp x z.cells[j]:=qhy hzz j x _ hx' (by simp [hjz])
     exact ⟨z.cells[j],hget,qoe hr hmem.1,hr.pure1 hmem.2⟩
  ·trivial
 ·trivial
theorem jau (hT:∀ t,T t=tab P t) (hm:Mem c rd mp s.st s.nx w) (hsup:Sup c s.nx) (dst:Option Nat) (t:TypeId) (len:Nat) (parts:List (Nat × AV)) (vparts:Array (Nat × Value)) (hl:vparts.size=parts.length)
  (hv:∀ (j:Nat) p q,parts[j]?=some p→vparts[j]?=some q→p.1=q.1∧Rel rd mp p.2 q.2):Fits P c rd mp s.st s.nx w (qfh T C s dst t len parts) (Instr.buildSlice t len vparts):=by
 unfold qfh
 have own:Fits P c rd mp s.st s.nx w (qfg T s t len parts) (Instr.buildSlice t len vparts):=by
  unfold qfg
  split
  ·rename_i e hk
   cases hc:(Nat.ble 1 (T e).size && Nat.ble (len * (T e).size) 16777216 && Nat.beq (T e).zero.length (T e).size) with
   | false=>trivial
   | true=>
    simp only [zh,zaj,zx] at hc
    obtain ⟨⟨h1,h2⟩,h3⟩:=hc
    simp only [cond_true]
    split
    ·rename_i cs hf
     rw [qcr,qu]
     cases hone:cs.all (qbl (addIds [] (qce cs))) with
     | false=>trivial
     | true=>
      intro hob
      obtain ⟨hob1,hob2⟩:=(qv _ _).1 hob
      obtain ⟨us,hrun,hus,hus1,hfl,hx⟩:=qsr hT hm t len parts vparts hl hv hk h1 h2 h3 hf (List.all_eq_true.2 fun y hy=>qsm (List.all_eq_true.1 hone y hy)) hob1 hob2
      obtain ⟨hmp,hmem⟩:=hm.newRowIds hsup (addIds [] (qce cs)) (e:=e) (sz:=(T e).size) (n:=len) (f:=chop (T e).size cs) (v:=.slice (some ⟨w.heap.size,0,none⟩) len len) (xs:=us.toList) (World.grownBy_alloc w _ none)
       ⟨by simpa using hus,.inr ⟨w.heap.size,0,len,us,rfl,heap_alloc_new w _,zj _,by simp only [maxLen];have:=Nat.le_mul_of_pos_right len (show 0<(T e).size by omega);omega,by rw [zw];exact Nat.le_of_eq hus.symm,by rw [List.drop_zero,List.take_of_length_le (by simp;omega)]⟩⟩
       (.inr ⟨_,rfl,zj _⟩) hfl (fun k j x hk hxx=>by
        obtain ⟨u,hu,hr,hin⟩:=hx k j x hk hxx
        exact ⟨u,by simpa using hu,hus1 u (Array.mem_of_getElem? hu),qsn (List.all_eq_true.1 hone x hin) hr⟩)
      exact ⟨_,_,rd,_,hrun,Rd.le.refl _,hmp,hmem,qgq rfl⟩
    ·trivial
  ·trivial
 split
 ·exact own
 ·cases C.lit with
  | true=>exact own
  | false=>exact jaj hT hm t len parts vparts hl hv
theorem jav (hT:∀ t,T t=tab P t) (hm:Mem c rd mp s.st s.nx w) (dst:Option Nat) (t:TypeId) (x:AV) (lo hi mx:Option AV) (vx:Value) (vlo vhi vmx:Option Value) (hx:Rel rd mp x vx)
  (hlo:∀ y,lo=some y→∃ u,vlo=some u∧Rel rd mp y u) (hlo':lo=none→vlo=none) (hhi:∀ y,hi=some y→∃ u,vhi=some u∧Rel rd mp y u) (hhi':hi=none→vhi=none)
  (hmx':mx=none→vmx=none):Fits P c rd mp s.st s.nx w (cutO T C s dst t x lo hi mx) (Instr.sliceAt t vx vlo vhi vmx):=by
 have slcs:∀ {t e},(T t).kd=.slice e→∀ v lo hi mx,(Instr.sliceAt t v lo hi mx).run P w=(Instr.slice t v lo hi mx).run P w:=by
  intro t e hk v lo hi mx
  simp [Instr.sliceAt,run_underlying (jb hT hk)]
 unfold cutO
 split
 ·rename_i r i e n k a
  split
  ·rename_i el ob R hk hl
   cases hc:(Nat.beq (T el).size R.sz && Nat.ble 1 R.sz) with
   | false=>trivial
   | true=>
    simp only [zh,zaj,zx] at hc
    obtain ⟨h1,h2⟩:=hc
    intro hob
    obtain ⟨hob1,hn,h0,ha⟩:=(qv _ _).1 hob
    obtain ⟨xs,hv,hown,hf,hxs,hsep⟩:=qcc hm hl hob1 hx hn
    obtain ⟨u,rfl,hu⟩:=hlo _ rfl
    cases jn hu
    cases hhi' rfl;cases hmx' rfl
    obtain ⟨inf,hinf,hsz,_⟩:=qaw hT (t:=el) (by omega)
    obtain ⟨hn1,hn2⟩:=hn
    subst hn1 hn2
    have hal:a.toNat≤R.n:=by omega
    have hsplit:R.n * R.sz=a.toNat * R.sz+(R.n - a.toNat) * R.sz:=by rw [← zaq];congr 1;omega
    obtain ⟨v',hrun,hown',hblk⟩:∃ v',(Instr.sliceAt t vx (some (.int k a)) none none).run P w=.ok v' w∧Owns w R.e R.sz v' (R.n - a.toNat) (xs.drop (a.toNat * R.sz))∧v'.ownBlock=vx.ownBlock:=by
     have hxl:(xs.drop (a.toNat * R.sz)).length=(R.n - a.toNat) * R.sz:=by rw [zah,hown.1];omega
     rcases hown.2 with ⟨rfl,h0'⟩|⟨g,lo,cap,cur,rfl,hh,hnc,hcm,hcs,htake⟩
     ·refine ⟨.slice none 0 0,?_,⟨hxl,.inl ⟨rfl,by omega⟩⟩,rfl⟩
      rw [slcs hk]
      have:a=0:=by omega
      subst this
      simp [Instr.slice,run_underlying (jb hT hk),Instr.sliceBounds,Instr.sliceBound,asIntOf,sizeOf,typeInfo,hinf,h0']
     ·refine ⟨.slice (if cap=a.toNat then some ⟨g,lo,none⟩ else some ⟨g,lo+a.toNat * R.sz,none⟩) (R.n - a.toNat) (cap - a.toNat),?_,⟨hxl,.inr ?_⟩,by split <;> rfl⟩
      ·rw [slcs hk]
       have ha':a≤(R.n:Int):=ha
       simp [Instr.slice,run_underlying (jb hT hk),Instr.sliceBounds,Instr.sliceBound,asIntOf,h0,ha',sizeOf,typeInfo,hinf,← hsz,h1,Addr.add_lit]
      ·by_cases hcap:cap=a.toNat
       ·have hz:R.n - a.toNat=0:=by omega
        refine ⟨g,lo,cap - a.toNat,cur,by rw [za hcap],hh,by omega,by omega,?_,?_⟩
        ·rw [hcap,zad,Nat.zero_mul];omega
        ·rw [hz,Nat.zero_mul,List.take_zero]
         exact (xb (by rw [hxl,hz,Nat.zero_mul])).symm
       ·have hcsplit:cap * R.sz=a.toNat * R.sz+(cap - a.toNat) * R.sz:=by rw [← zaq];congr 1;omega
        refine ⟨g,lo+a.toNat * R.sz,cap - a.toNat,cur,by rw [ze hcap],hh,by omega,by omega,by omega,?_⟩
        rw [← htake,List.drop_take,List.drop_drop,hsplit,Nat.add_sub_cancel_left]
    obtain ⟨hle,hmem⟩:=hm.turnRow (w':=w) (ep:=R.ep+1) (n:=R.n - a.toNat) (f:=fun j=>R.f (a.toNat+j)) hl hob1 (v':=v') (xs:=xs.drop (a.toNat * R.sz)) hv hsep (.inl (zav _)) (World.grownBy.refl w _) hown' (.inl hblk)
     (fun q hq=>hf _ (by omega)) (fun q j x hq hxx=>by
      obtain ⟨u,hu,hu1,hu2⟩:=hxs (a.toNat+q) j x (by omega) hxx
      refine ⟨u,?_,hu1,hu2⟩
      rw [xa,← hu,zaq]
      congr 1;omega)
    exact ⟨v',w,rd,_,hrun,Rd.le.refl _,hle,hmem,qia hown'.sl⟩
  ·trivial
 ·rename_i r i e n k b
  split
  ·rename_i el ob R hk hl
   cases hc:(Nat.beq (T el).size R.sz && Nat.ble 1 R.sz) with
   | false=>trivial
   | true=>
    simp only [zh,zaj,zx] at hc
    obtain ⟨h1,h2⟩:=hc
    intro hob
    obtain ⟨hob1,hn,h0,hb⟩:=(qv _ _).1 hob
    obtain ⟨xs,hv,hown,hf,hxs,hsep⟩:=qcc hm hl hob1 hx hn
    obtain ⟨u,rfl,hu⟩:=hhi _ rfl
    cases jn hu
    cases hlo' rfl;cases hmx' rfl
    obtain ⟨inf,hinf,hsz,_⟩:=qaw hT (t:=el) (by omega)
    obtain ⟨hn1,hn2⟩:=hn
    subst hn1 hn2
    have hbl:b.toNat≤R.n:=by omega
    have hbs:b.toNat * R.sz≤R.n * R.sz:=zt _ hbl
    obtain ⟨v',hrun,hown',hblk⟩:∃ v',(Instr.sliceAt t vx none (some (.int k b)) none).run P w=.ok v' w∧Owns w R.e R.sz v' b.toNat (xs.take (b.toNat * R.sz))∧v'.ownBlock=vx.ownBlock:=by
     have hxl:(xs.take (b.toNat * R.sz)).length=b.toNat * R.sz:=by rw [zu,hown.1];omega
     rcases hown.2 with ⟨rfl,h0'⟩|⟨g,lo,cap,cur,rfl,hh,hnc,hcm,hcs,htake⟩
     ·refine ⟨.slice none 0 0,?_,⟨hxl,.inl ⟨rfl,by omega⟩⟩,rfl⟩
      rw [slcs hk]
      have:b=0:=by omega
      subst this
      simp [Instr.slice,run_underlying (jb hT hk),Instr.sliceBounds,Instr.sliceBound,asIntOf,sizeOf,typeInfo,hinf]
     ·refine ⟨.slice (some ⟨g,lo,none⟩) b.toNat cap,?_,⟨hxl,.inr ⟨g,lo,cap,cur,rfl,hh,by omega,hcm,hcs,?_⟩⟩,rfl⟩
      ·rw [slcs hk]
       have hb':b≤(cap:Int):=by omega
       simp [Instr.slice,run_underlying (jb hT hk),Instr.sliceBounds,Instr.sliceBound,asIntOf,h0,hb',sizeOf,typeInfo,hinf,Addr.add_lit]
      ·rw [← htake,List.take_take,Nat.min_eq_left hbs]
    obtain ⟨hle,hmem⟩:=hm.turnRow (w':=w) (ep:=R.ep+1) (n:=b.toNat) (f:=R.f) hl hob1 (v':=v') (xs:=xs.take (b.toNat * R.sz)) hv hsep (.inl (zav _)) (World.grownBy.refl w _) hown' (.inl hblk)
     (fun q hq=>hf _ (by omega)) (fun q j x hq hxx=>by
      have hj:j<R.sz:=by rw [← hf q (by omega)];exact (List.getElem?_eq_some_iff.1 hxx).1
      obtain ⟨u,hu,hu1,hu2⟩:=hxs q j x (by omega) hxx
      refine ⟨u,?_,hu1,hu2⟩
      have:(q+1) * R.sz≤b.toNat * R.sz:=zt _ hq
      rw [zar] at this
      rw [xc,za (by omega)]
      exact hu)
    exact ⟨v',w,rd,_,hrun,Rd.le.refl _,hle,hmem,qia hown'.sl⟩
  ·trivial
 ·trivial
open Classical in
noncomputable def rowRd (rd:Rd) (w:World) (g lo m:Nat):Rd:=fun b o=>if b=g∧lo≤o∧o<lo+m then w.cell? ⟨b,o,none⟩ else rd b o
theorem Mem.freezeRow (hm:Mem c rd mp st nx w) {r:Nat} {e:TypeId} {sz ep n:Nat} {f:Nat→List AV} (hl:look st r=some (.row [] e sz ep n f)) {v:Value} (hv:mp.row r 0=some (v,ep,n)) :
  ∃ rd',Rd.le rd rd'∧Rel rd' Mp.none (.slc sz n f) v∧Mem c rd' mp (setSt st r (.ro sz ep n f)) nx w:=by
 obtain ⟨v',xs,h1,h2,h3,h4,h5⟩:=hm.mb r 0 _ (.row hl)
 rw [hv] at h1;cases h1
 simp only [Mp.sel_nil] at h4
 simp only at h2 h3 h4 h5
 have hnomem:∀ i R,¬ IsMem (setSt st r (.ro sz ep n f)) r i R:=by
  intro i R hR
  cases hR with
  | row h=>rw [qd,za rfl,hl] at h;cases h
  | fam h _=>rw [qd,za rfl,hl] at h;cases h
 have hmem:∀ r' i R,IsMem (setSt st r (.ro sz ep n f)) r' i R→IsMem st r' i R:=by
  intro r' i R hR
  have hne:r'≠r:=by rintro rfl;exact hnomem i R hR
  cases hR with
  | row h=>rw [qd,ze hne] at h;exact .row h
  | fam h hi=>rw [qd,ze hne] at h;exact .fam h hi
 have hids:∀ i x,look (setSt st r (.ro sz ep n f)) i=some x→¬ c.fre nx i:=by
  intro i x hx
  rw [qd] at hx
  by_cases hi:i=r
  ·subst hi;exact hm.ids _ _ hl
  ·rw [ze hi] at hx;exact hm.ids _ _ hx
 have hbox:∀ b ty cs,look (setSt st r (.ro sz ep n f)) b=some (.box ty cs)→look st b=some (.box ty cs):=by
  intro b ty cs hb
  rw [qd] at hb
  by_cases hi:b=r
  ·subst hi;rw [za rfl,hl] at hb;cases hb
  ·rwa [ze hi] at hb
 have hout:∀ r' e sz' cnt ep' len f',look (setSt st r (.ro sz ep n f)) r'=some (.fam e sz' cnt ep' len f')→∀ i,cnt≤i→mp.row r' i=none:=by
  intro r' e' sz' cnt ep' len f' hb
  rw [qd] at hb
  by_cases hi:r'=r
  ·subst hi;rw [za rfl,hl] at hb;cases hb
  ·rw [ze hi] at hb;exact hm.out _ _ _ _ _ _ _ hb
 have fin:∀ rd':Rd,Rd.le rd rd'→Rel rd' Mp.none (.slc sz n f) v→(∀ g o u,rd' g o=some u→w.cell? ⟨g,o,none⟩=some u)→(∀ g o u,rd' g o=some u→u.oneCell'=true)→
   (∀ g o u,rd' g o=some u→rd g o=some u∨v.ownBlock=some g)→∃ rd',Rd.le rd rd'∧Rel rd' Mp.none (.slc sz n f) v∧Mem c rd' mp (setSt st r (.ro sz ep n f)) nx w:=by
  intro rd' hr hrel k1 k2 k3
  refine ⟨rd',hr,hrel,?_⟩
  refine hm.upd0 (some (.rw r 0)) hr (Mp.le.refl _) hm.fr k1 k2 (fun g o u hu=>?_) (fun b ty cs hb _=>hbox b ty cs hb) (fun r' i R hR _=>hmem r' i R hR) (fun p hp hne=>⟨by cases p <;> rfl,fun g hg=>⟨rfl,fun o=>?_⟩⟩)
   (fun b ty cs ht=>by cases ht) (fun r' i R ht hR=>by cases ht;exact absurd hR (hnomem _ _)) (fun p g ht hth=>by cases ht;obtain ⟨R,hR⟩:=hth;exact absurd hR (hnomem _ _)) hm.fresh hids hout (fun r' sz' ep' n' f' hro=>?_)
  ·rcases k3 g o u hu with h|h
   ·exact hm.rdn g o u h
   ·exact .inr (h5 g h).2
  ·cases hu:rd' g o with
   | none=>rfl
   | some u=>
    rcases k3 g o u hu with h|h
    ·rw [(hm.home hp hg).2.1 o] at h;cases h
    ·exact absurd (congrArg some (hm.inj p (.rw r 0) g hp ⟨_,.row hl⟩ hg (by simp [blkOf,hv,h]))) hne
  ·rw [qd] at hro
   by_cases hi:r'=r
   ·subst hi
    rw [za rfl,hl] at hro
    cases hro
    exact ⟨v,hv,hrel⟩
   ·rw [ze hi] at hro
    obtain ⟨v',g1,g2⟩:=hm.ro _ _ _ _ _ hro
    exact ⟨v',g1,g2.mono hr (Mp.le.refl _)⟩
 rcases h2.2 with ⟨rfl,h0⟩|⟨g,lo,cap,cur,rfl,hh,hnc,_⟩
 ·exact fin rd (Rd.le.refl _) (by rw [h0];exact .slc0 _ _ _ _ _) hm.rdw hm.rd1 (fun _ _ _ h=>.inl h)
 ·by_cases h0:n=0
  ·exact fin rd (Rd.le.refl _) (by rw [h0];exact .slc0 _ _ _ _ _) hm.rdw hm.rd1 (fun _ _ _ h=>.inl h)
  ·have hnone:∀ o,rd g o=none:=(h5 g rfl).1
   have hcell:∀ k j,k<n→j<sz→∃ u,w.cell? ⟨g,lo+(k * sz+j),none⟩=some u∧u.oneCell'=true∧∀ x,(f k)[j]?=some x→Rel rd Mp.none x u:=by
    intro k j hk hj
    obtain ⟨u,hu,o1,r1⟩:=h4 k j _ hk (zb (by rw [h3 k hk];exact hj))
    refine ⟨u,h2.cells hu,o1,fun x hx=>?_⟩
    rw [zb (by rw [h3 k hk];exact hj)] at hx
    cases hx
    exact r1
   have hidx:∀ k j,k<n→j<sz→k * sz+j<n * sz:=by
    intro k j hk hj
    have:(k+1) * sz≤n * sz:=zt _ hk
    rw [zar] at this
    omega
   have hin:∀ o,lo≤o→o<lo+n * sz→∃ k j,k<n∧j<sz∧o=lo+(k * sz+j):=by
    intro o h1 h2
    have hsz:0<sz:=by
     rcases Nat.eq_zero_or_pos sz with h|h
     ·rw [h,Nat.mul_zero] at h2;omega
     ·exact h
    refine ⟨(o - lo) / sz,(o - lo) % sz,Nat.div_lt_of_lt_mul (by rw [Nat.mul_comm];omega),Nat.mod_lt _ hsz,?_⟩
    rw [Nat.div_add_mod' (o - lo) sz];omega
   have hle:Rd.le rd (rowRd rd w g lo (n * sz)):=by
    intro b o u hu
    simp only [rowRd]
    rw [ze]
    ·exact hu
    ·rintro ⟨rfl,_⟩;rw [hnone o] at hu;cases hu
   refine fin (rowRd rd w g lo (n * sz)) hle (.slc _ _ _ _ _ _ _ (fun k j=>(w.cell? ⟨g,lo+(k * sz+j),none⟩).getD undef) (by omega) hnc h3 (fun k j hk hj=>?_) (fun k j x hk hx=>?_)) (fun b o u hu=>?_) (fun b o u hu=>?_) (fun b o u hu=>?_)
   ·obtain ⟨u,hu,_⟩:=hcell k j hk hj
    have:=hidx k j hk hj
    simp only [rowRd]
    rw [za (And.intro trivial (And.intro (by omega) (by omega))),hu];rfl
   ·have hj:j<sz:=by rw [← h3 k hk];exact (List.getElem?_eq_some_iff.1 hx).1
    obtain ⟨u,hu,_,hr⟩:=hcell k j hk hj
    rw [hu,Option.getD_some]
    exact (hr x hx).mono hle (Mp.le.refl _)
   ·simp only [rowRd] at hu
    split at hu
    ·exact hu
    ·exact hm.rdw _ _ _ hu
   ·simp only [rowRd] at hu
    split at hu
    ·rename_i hc
     obtain ⟨rfl,h1,h2⟩:=hc
     obtain ⟨k,j,hk,hj,rfl⟩:=hin o h1 h2
     obtain ⟨u',hu',o1,_⟩:=hcell k j hk hj
     rw [hu'] at hu;cases hu;exact o1
    ·exact hm.rd1 _ _ _ hu
   ·simp only [rowRd] at hu
    split at hu
    ·rename_i hc
     obtain ⟨rfl,_⟩:=hc
     exact .inr rfl
    ·exact .inl hu
theorem qsw (t:TypeId) (x:AV) (lo hi mx:Option AV):qei T t x lo hi mx=.bad∨∃ ob v,qei T t x lo hi mx=.ok ob v:=by
 unfold qei
 split <;> (try (split <;> first|(left;rfl)|(right;exact ⟨_,_,rfl⟩)|skip)) <;> first|(left;rfl)|(right;exact ⟨_,_,rfl⟩)|skip
 all_goals (rename_i e _;generalize (Nat.beq (T e).size _ && Nat.ble 1 _)=b;cases b <;> first|(left;rfl)|(right;exact ⟨_,_,rfl⟩))
theorem jaw (hT:∀ t,T t=tab P t) (hm:Mem c rd mp s.st s.nx w) (dst:Option Nat) (t:TypeId) (x:AV) (lo hi mx:Option AV) (vx:Value) (vlo vhi vmx:Option Value) (hx:Rel rd mp x vx)
  (hlo:∀ y,lo=some y→∃ u,vlo=some u∧Rel rd mp y u) (hlo':lo=none→vlo=none) (hhi:∀ y,hi=some y→∃ u,vhi=some u∧Rel rd mp y u) (hhi':hi=none→vhi=none)
  (hmx':mx=none→vmx=none):Fits P c rd mp s.st s.nx w (qfi T C s dst t x lo hi mx) (Instr.sliceAt t vx vlo vhi vmx):=by
 unfold qfi
 split
 ·rename_i r i e n
  cases qnp C dst with
  | true=>trivial
  | false=>
  simp only [cond_false]
  cases qnq C dst with
  | true=>exact jav (C:=C) hT hm dst t _ _ _ _ _ _ _ _ hx hlo hlo' hhi hhi' hmx'
  | false=>
   simp only [cond_false]
   split
   ·rename_i el sz ep m f hl
    rcases qsw (T:=T) t (.slc sz n f) lo hi mx with hb|⟨ob,y,hb⟩
    ·rw [hb];trivial
    ·rw [hb]
     intro hob
     obtain ⟨⟨rfl,rfl,rfl⟩,hob2⟩:=(qv _ _).1 hob
     obtain ⟨vr,er,nr,g1,_,_,g4⟩:=qki hx
     obtain ⟨v',xs,h1,_⟩:=hm.mb r 0 _ (.row hl)
     rw [h1] at g1
     simp only [Option.some.injEq,Prod.mk.injEq] at g1
     obtain ⟨rfl,rfl,rfl⟩:=g1
     cases g4 rfl rfl
     obtain ⟨rd',hr,hrel,hm'⟩:=hm.freezeRow hl h1
     have hfit:=qsg (P:=P) hT hm' t (.slc sz n f) lo hi mx vx vlo vhi vmx (hrel.mono (Rd.le.refl _) (Mp.none_le _)) (fun y hy=>by obtain ⟨u,h1,h2⟩:=hlo y hy;exact ⟨u,h1,h2.mono hr (Mp.le.refl _)⟩) hlo' (fun y hy=>by obtain ⟨u,h1,h2⟩:=hhi y hy;exact ⟨u,h1,h2.mono hr (Mp.le.refl _)⟩) hhi' hmx'
     rw [hb] at hfit
     obtain ⟨x',w',rd2,k1,k2,k3,k4⟩:=hfit hob2
     exact ⟨x',w',rd2,mp,k1,hr.trans k2,Mp.le.refl _,k3,k4⟩
   ·trivial
 ·exact qsg hT hm t _ _ _ _ _ _ _ _ hx hlo hlo' hhi hhi' hmx'
theorem qsx (hm:Mem c rd mp st nx w) (ts:Array TypeId) (ty:TypeId) (mx:Bool) (x y:AV) (vx vy:Value) (hx:Rel rd mp x vx) (hy:Rel rd mp y vy) :
  Fits P c rd mp st nx w (minO mx x y) (if mx then Builtin.max_ ts ty #[vx,vy] else Builtin.min_ ts ty #[vx,vy]):=by
 unfold minO
 split
 ·rename_i p q
  cases jn hx;cases jn hy
  intro _
  cases mx with
  | true=>
   refine .here hm (x:=.int .i64 (if q > p then q else p)) (by simp [Builtin.max_,Builtin.max2]) ?_
   have:(if q > p then q else p)=max p q:=by rw [Int.max_def];split <;> split <;> omega
   rw [this];exact .int _ _ _
  | false=>
   refine .here hm (x:=.int .i64 (if q<p then q else p)) (by simp [Builtin.min_,Builtin.min2]) ?_
   have:(if q<p then q else p)=min p q:=by rw [Int.min_def];split <;> split <;> omega
   rw [this];exact .int _ _ _
 ·trivial
theorem jax (hm:Mem c rd mp s.st s.nx w) (hsup:Sup c s.nx) (dst:Option Nat) (x:AV) (v:Value) (hx:Rel rd mp x v):Fits P c rd mp s.st s.nx w (qgl C s dst x) (pure v):=by
 unfold qgl
 split
 ·rename_i e sz ho
  intro _
  cases hx
  obtain ⟨hmp,hmem⟩:=hm.newRow hsup (e:=e) (sz:=sz) (n:=0) (f:=fun _=>[]) (v:=.slice none 0 0) (xs:=[]) (World.grownBy.refl w _) ⟨by simp,.inl ⟨rfl,rfl⟩⟩ (.inl rfl) (fun k hk=>by omega) (fun k j x hk=>by omega)
  exact ⟨.slice none 0 0,w,rd,_,by simp,Rd.le.refl _,hmp,hmem,qgq rfl⟩
 ·exact fun _=>.here hm (by simp) hx
theorem jay (hm:Mem c rd mp st nx w) (o:Oper) (y:Operand) (ho:o.op=.nilCheck y) (x:AV) (hx:Rel rd mp x (a.eval y)) (ob:Option DP) (v:AV) (h:qfj x=.ok ob v) :
  (execOp a.eval o).run P w=.ok (.value (a.eval y)) w∧Rel rd mp v (a.eval y)∧Mem c rd mp st nx w:=by
 unfold qfj at h
 split at h
 ·cases h
  refine ⟨?_,hx,hm⟩
  obtain ⟨g,_,hv⟩:=qeq hx
  simp [execOp,ho,hv]
 ·cases h
  refine ⟨?_,hx,hm⟩
  obtain ⟨g,o',hv,_⟩:=qoc hx
  simp [execOp,ho,hv]
 ·cases h
  refine ⟨?_,hx,hm⟩
  generalize hv:a.eval y=v at hx
  cases hx
  simp [execOp,ho,hv]
 ·cases h
def Good (P:Program) (c:Ctx) (rd:Rd) (mp:Mp) (st:List (Nat × SO)) (nx:Nat) (w:World) (r:OR) (m:Sem Next):Prop:=
 match r with
 | .ok ob v=>obT ob→∃ x w' rd',m.run P w=.ok (.value x) w'∧Rd.le rd rd'∧Mem c rd' mp st nx w'∧Rel rd' mp v x
 | .mem ob v st' nx'=>obT ob→∃ n x w' rd' mp',m.run P w=.ok n w'∧(n=.value x∨(n=.skip∧x=undef))∧Rd.le rd rd'∧Mp.le mp mp'∧Mem c rd' mp' st' nx' w'∧Rel rd' mp' v x
 | .call f args=>∃ vs,m.run P w=(callFunc f vs).run P w∧RelL rd mp args vs
 | .bad=>True
theorem Good.of_fits {r:OR} {m:Sem Value} (h:Fits P c rd mp st nx w r m) {m':Sem Next} (hm:m'=(do pure (.value (← m)))):Good P c rd mp st nx w r m':=by
 subst hm
 cases r with
 | ok ob v=>
  intro hob
  obtain ⟨x,w',rd',h1,h2,h3,h4⟩:=h hob
  exact ⟨x,w',rd',by simp [h1],h2,h3,h4⟩
 | mem ob v st' nx'=>
  intro hob
  obtain ⟨x,w',rd',mp',h1,h2,h3,h4,h5⟩:=h hob
  exact ⟨.value x,x,w',rd',mp',by simp [h1],.inl rfl,h2,h3,h4,h5⟩
 | call f args=>exact absurd h id
 | bad=>trivial
theorem jaz (op:BinOp) (t:TypeId) (x y:Operand) (u v:Value) (hu:∀ cs,u≠.agg cs) (hn:u≠.nilIface):(eqGuard op t x y u v).run P w=.ok () w:=by
 cases op <;> simp [eqGuard] <;> cases u <;> first|rfl|exact absurd rfl (hu _)|exact absurd rfl hn
theorem jba (hT:∀ t,T t=tab P t) (hm:Mem c rd mp st nx w) (dst:Option Nat) (op:BinOp) (t:TypeId) (xo yo:Operand) (x y:AV) (u v:Value) (hx:Rel rd mp x u) (hy:Rel rd mp y v) :
  Fits P c rd mp st nx w (binO T C dst op t x y) (do eqGuard op t xo yo u v;binOp op t u v):=by
 have plain:∀ {r:OR},(∀ cs,u≠.agg cs)→u≠.nilIface→Fits P c rd mp st nx w r (binOp op t u v)→Fits P c rd mp st nx w r (do eqGuard op t xo yo u v;binOp op t u v):=by
  intro r h1 h2 h
  have he:(do eqGuard op t xo yo u v;binOp op t u v:Sem Value).run P w=(binOp op t u v).run P w:=by
   simp [jaz op t xo yo u v h1 h2]
  cases r with
  | ok ob z=>
   intro hob
   obtain ⟨x',w',rd',g1,g2⟩:=h hob
   exact ⟨x',w',rd',by rw [he];exact g1,g2⟩
  | mem ob z st' nx'=>
   intro hob
   obtain ⟨x',w',rd',mp',g1,g2⟩:=h hob
   exact ⟨x',w',rd',mp',by rw [he];exact g1,g2⟩
  | call f args=>exact h
  | bad=>trivial
 unfold binO
 split
 ·rename_i k p k' q
  cases jn hx;cases jn hy
  split
  ·refine plain (by simp) (by simp) (Fits.also fun hq=>qgo hm _ _ _ _ ?_)
   have hq':¬ q<0:=by have:0≤q:=hq;omega
   simp [binOp,Op.shift,hq',shlI]
  ·refine plain (by simp) (by simp) fun hq=>.here hm (x:=.int k (shrI k p q)) ?_ (.int _ _ _)
   have hq':¬ q<0:=by have:0≤q:=hq;omega
   simp [binOp,Op.shift,hq',shrI]
  ·by_cases hk:k=k'
   ·subst hk
    simp only [decide_true,cond_true]
    exact plain (by simp) (by simp) (qzf hm _ op t k p q)
   ·simp [hk];trivial
 ·rename_i p q
  cases qar hx;cases qar hy
  exact plain (by simp) (by simp) (qzg hm op t p q)
 ·rename_i p q
  cases rel_bool hx;cases rel_bool hy
  split
  ·rename_i hk
   exact plain (by simp) (by simp) (fun _=>.here hm (x:=.bool (p == q)) (by
    simp [binOp,Op.equal,Op.maxDepth,run_equalIn_bool' w 9999 t p q (qnw hT hk)]) (.bool _ _))
  ·rename_i hk
   exact plain (by simp) (by simp) (fun _=>.here hm (x:=.bool (!(p == q))) (by
    simp [binOp,Op.equal,Op.maxDepth,run_equalIn_bool' w 9999 t p q (qnw hT hk)]) (.bool _ _))
  ·trivial
 ·rename_i xs ys
  split
  ·exact qsf hT hm false t xs ys u v hx hy xo yo
  ·exact qsf hT hm true t xs ys u v hx hy xo yo
  ·trivial
 ·trivial
theorem qom {st:List (Nat × SO)}:∀ {l:List AV},obT (qdf st l)→∀ x∈l,obT (qm st x)
 | [],_,x,h=>by simp at h
 | y::l,h,x,hx=>by
  obtain ⟨h1,h2⟩:=(qv _ _).1 h
  rcases List.mem_cons.1 hx with rfl|hx
  ·exact h1
  ·exact qom h2 x hx
theorem qkm (hs:SR c rd mp s a w) (ps:Array (Nat × Operand)) (hc:obT (qdf s.st (ps.toList.map fun p=>ev s p.2))):(ps.map fun (i,x)=>(i,a.eval x)).size=(ps.toList.map fun p=>(p.1,strip s.st (ev s p.2))).length ∧
  ∀ (j:Nat) p q,(ps.toList.map fun p=>(p.1,strip s.st (ev s p.2)))[j]?=some p→(ps.map fun (i,x)=>(i,a.eval x))[j]?=some q→p.1=q.1∧Rel rd mp p.2 q.2:=by
 refine ⟨by simp,fun j p q hp hq=>?_⟩
 rw [zm] at hp
 rw [zax] at hq
 obtain ⟨p',hp',rfl⟩:=Option.map_eq_some_iff.1 hp
 obtain ⟨q',hq',rfl⟩:=Option.map_eq_some_iff.1 hq
 have hmem:p'∈ps.toList:=zp hp'
 rw [xz] at hp'
 rw [hp'] at hq';cases hq'
 exact ⟨rfl,qcg hs.mem (qac hs _) (qom hc _ (List.mem_map.2 ⟨p',hmem,rfl⟩))⟩
theorem qkn (hs:SR c rd mp s a w) (xs:Array Operand):RelL rd mp (xs.toList.map (ev s)) (xs.map a.eval):=by
 refine ⟨by simp,fun j p q hp hq=>?_⟩
 rw [zm] at hp
 rw [zax] at hq
 obtain ⟨p',hp',rfl⟩:=Option.map_eq_some_iff.1 hp
 obtain ⟨q',hq',rfl⟩:=Option.map_eq_some_iff.1 hq
 rw [xz] at hp'
 rw [hp'] at hq';cases hq'
 exact qac hs _
theorem RelL.append {xs ys:List AV} {us vs:Array Value} (h:RelL rd mp xs us) (k:RelL rd mp ys vs):RelL rd mp (xs++ys) (us++vs):=by
 refine ⟨by simp [h.1,k.1],fun j x v hx hv=>?_⟩
 by_cases hj:j<xs.length
 ·rw [zn hj] at hx
  rw [zay (by rw [h.1];exact hj)] at hv
  exact h.2 j x v hx hv
 ·rw [zl (by omega)] at hx
  rw [Array.getElem?_append_right (by rw [h.1];omega),h.1] at hv
  exact k.2 _ x v hx hv
theorem jbb {x:AV} {b:Nat} {ks:List (List UInt8)} (h:qdi st x=some (b,ks)):x=.mapv b∧look st b=some (.box mapTy [.keys ks]):=by
 unfold qdi at h
 split at h
 ·split at h
  ·rename_i ty ks' hl
   cases hty:Nat.beq ty mapTy with
   | true=>
    rw [hty] at h
    cases h
    have:ty=mapTy:=zq hty
    subst this
    exact ⟨rfl,hl⟩
   | false=>rw [hty] at h;cases h
  ·cases h
 ·cases h
theorem qsy {k:Kd} (h:qen k=true):k=.str:=by cases k <;> first|rfl|cases h
theorem qsz (hm:Mem c rd mp st nx w) {x:AV} {b:Nat} {ks:List (List UInt8)} (h:qdi st x=some (b,ks)) {v:Value} (hx:Rel rd mp x v) :
  ∃ g es clock,v=.map (some g)∧mp.blk b=some g∧w.heap[g]?=some (.map es clock)∧look st b=some (.box mapTy [.keys ks]) ∧
   es.map (·.key)=(ks.map fun k=>Value.string ⟨k.toArray⟩).toArray:=by
 obtain ⟨rfl,hl⟩:=jbb h
 obtain ⟨g,vs,h1,h2,h3,h4,h5,h6⟩:=hm.bx b _ _ hl
 rcases h2 with ⟨h0,_⟩|⟨_,es,clock,h2,rfl|rfl⟩
 ·exact absurd rfl h0
 rotate_left
 ·simp at h3
 have hk:=h4 0 _ _ rfl rfl
 cases hx with
 | mapv _ _ g' hb=>
  rw [h1] at hb;cases hb
  refine ⟨g,es,clock,rfl,h1,h2,hl,?_⟩
  generalize hq:(Value.tuple (es.map (·.key)))=q at hk
  cases hk
  injection hq
theorem keyIn_iff {ks:List (List UInt8)} {s:List UInt8}:qfk ks s=true↔s∈ks:=by
 unfold qfk
 rw [zat]
 constructor
 ·rintro ⟨x,hx,h⟩
  have:x=s:=by simpa using h
  subst this;exact hx
 ·intro h
  exact ⟨_,h,by simp⟩
theorem qko {ks:List (List UInt8)} {es:Array MapEntry} (hks:es.map (·.key)=(ks.map fun k=>Value.string ⟨k.toArray⟩).toArray) (s:List UInt8) :
  (qfk ks s=false∧Instr.findNow .string (.string ⟨s.toArray⟩) es.toList 0=some none) ∨
  ∃ j e,qfk ks s=true∧Instr.findNow .string (.string ⟨s.toArray⟩) es.toList 0=some (some (j,e.val))∧es.toList[j]?=some e∧e.key=.string ⟨s.toArray⟩:=by
 have hl:es.toList.map (·.key)=ks.map fun k=>Value.string ⟨k.toArray⟩:=by
  have:=congrArg Array.toList hks
  simpa using this
 have hstr:∀ s t:List UInt8,Value.string ⟨s.toArray⟩=Value.string ⟨t.toArray⟩→s=t:=fun s t h=>by
  injection h with h;injection h with h
  exact List.toArray_inj h
 have hmem:∀ x∈es.toList,∃ t∈ks,x.key=.string ⟨t.toArray⟩:=fun x hx=>by
  have:x.key∈es.toList.map (·.key):=List.mem_map.2 ⟨x,hx,rfl⟩
  rw [hl] at this
  obtain ⟨t,ht,e⟩:=List.mem_map.1 this
  exact ⟨t,ht,e.symm⟩
 rcases Go.MapKept.findNow_spec (d:=.string) (k:=.string ⟨s.toArray⟩) trivial es.toList 0 (fun x hx=>by
  obtain ⟨t,_,ht⟩:=hmem x hx
  rw [ht];trivial) with ⟨h1,h2⟩|⟨j,e,h1,h2,h3⟩
 ·refine .inl ⟨?_,h1⟩
  cases hk:qfk ks s with
  | false=>rfl
  | true=>
   exfalso
   have hs:=keyIn_iff.1 hk
   have:Value.string ⟨s.toArray⟩∈es.toList.map (·.key):=by rw [hl];exact List.mem_map.2 ⟨s,hs,rfl⟩
   obtain ⟨x,hx,e⟩:=List.mem_map.1 this
   exact h2 x hx e
 ·refine .inr ⟨j,e,?_,by simpa using h1,h2,h3⟩
  obtain ⟨t,ht,hk2⟩:=hmem e (zp h2)
  rw [h3] at hk2
  have:=hstr _ _ hk2
  subst this
  exact keyIn_iff.2 ht
theorem jbc (hm:Mem c rd mp s.st s.nx w) (hsup:Sup c s.nx) (t:TypeId) (r:Option AV) (v:Option Value) (hr:r=none→v=none) :
  Fits P c rd mp s.st s.nx w (qkd T s t r) (Instr.makeMap t v):=by
 cases r with
 | some _=>trivial
 | none=>
  rw [hr rfl]
  intro _
  exact ⟨.map (some w.heap.size),w.alloc (.map #[] 0),rd,mp.addBlk s.nx w.heap.size,run_makeMap t w,Rd.le.refl _,Mp.le_addBlk (hm.fresh _ hsup.here).1,hm.newMap hsup,.mapv _ _ _ (by simp [Mp.addBlk])⟩
theorem jbd (hT:∀ t,T t=tab P t) (hm:Mem c rd mp st nx w) (t:TypeId) (x y:AV) (u v:Value) (hx:Rel rd mp x u) (hy:Rel rd mp y v) (cok:Bool) :
  Fits P c rd mp st nx w (qeo T st t x y cok) (Instr.lookup t u v cok):=by
 unfold qeo
 split
 ·rename_i k e s b ks hk hmap
  cases hc:(qen (T k).kd && Nat.ble 1 (T e).size && Nat.beq (T e).zero.length (T e).size) with
  | false=>trivial
  | true=>
   simp only [zh,zaj,zx] at hc
   obtain ⟨⟨hstr,h1⟩,h2⟩:=hc
   simp only [cond_true]
   intro _
   obtain ⟨g,es,clock,rfl,hb,hg,hl,hr⟩:=qsz hm hmap hx
   have hks:=qaz hT (qsy hstr)
   have hvs:=qar hy
   subst hvs
   obtain ⟨i,z,hi,hz,_⟩:=qda hT h1 h2
   have hzero:(zeroValue e).run P w=.ok z w:=by simp [zeroValue,typeInfo,hi,hz]
   have hck:=fun em=>Go.MapKept.run_checkKey (P:=P) (w:=w) (k:=.string ⟨s.toArray⟩) hks trivial em 9999
   rcases qko hr s with ⟨hk1,hf⟩|⟨j,en,hk1,hf,he1,he2⟩
   ·refine .here hm (x:=if cok then .tuple #[z,.bool false] else z) ?_ ?_
    ·simp only [Instr.lookup,Sem.run_bind,run_underlying (qdw hT hk),Go.MapKept.run_getObj_map hg,Result.andThen_ok,Sem.run_pure,hck,Go.MapKept.run_findKey hks hf,hzero]
    ·rw [hk1]
     cases cok with
     | false=>exact .any _ _
     | true=>
      refine .tup _ _ _ rfl (fun j x v hx hv=>?_)
      match j,hx,hv with
      | 0,hx,hv=>cases hx;exact .any _ _
      | 1,hx,hv=>cases hx;cases hv;exact .bool _ _
      | j+2,hx,hv=>cases hx
   ·refine .here hm (x:=if cok then .tuple #[en.val,.bool true] else en.val) ?_ ?_
    ·simp only [Instr.lookup,Sem.run_bind,run_underlying (qdw hT hk),Go.MapKept.run_getObj_map hg,Result.andThen_ok,Sem.run_pure,hck,Go.MapKept.run_findKey hks hf]
    ·rw [hk1]
     cases cok with
     | false=>exact .any _ _
     | true=>
      refine .tup _ _ _ rfl (fun j x v hx hv=>?_)
      match j,hx,hv with
      | 0,hx,hv=>cases hx;exact .any _ _
      | 1,hx,hv=>cases hx;cases hv;exact .bool _ _
      | j+2,hx,hv=>cases hx
 ·trivial
theorem jbe (hT:∀ t,T t=tab P t) (hm:Mem c rd mp st nx w) (t:TypeId) (x y:AV) (u v z:Value) (hx:Rel rd mp x u) (hy:Rel rd mp y v) :
  ∀ ob q st' nx',qdv T st nx t x y=.mem ob q st' nx'→obT ob→∃ w',(Instr.mapUpdate t u v z).run P w=.ok () w'∧Mem c rd mp st' nx' w':=by
 intro ob q st' nx' hre
 unfold qdv at hre
 split at hre
 ·rename_i k e s b cs hk hmap
  cases hc:qen (T k).kd with
  | false=>rw [hc] at hre;cases hre
  | true=>
   rw [hc] at hre
   simp only [cond_true] at hre
   cases hre
   intro _
   obtain ⟨g,es,clock,rfl,hb,hg,hl,hr⟩:=qsz hm hmap hx
   have hks:=qaz hT (qsy hc)
   have hvs:=qar hy
   subst hvs
   have hck:=fun em=>Go.MapKept.run_checkKey (P:=P) (w:=w) (k:=.string ⟨s.toArray⟩) hks trivial em 9999
   have hset:=fun o'=>Go.MapKept.heap_set (w:=w) (o':=o') hg
   rcases qko hr s with ⟨hk1,hf⟩|⟨j,en,hk1,hf,he1,he2⟩
   ·rw [hk1]
    simp only [cond_false]
    refine ⟨{ w with heap:=w.heap.setIfInBounds g (.map (es.push { key:=.string ⟨s.toArray⟩,val:=z,born:=clock }) (clock+1)) },by simp only [Instr.mapUpdate,Sem.run_bind,run_underlying (qdw hT hk),Go.MapKept.run_getObj_map hg,Result.andThen_ok,hck,Go.MapKept.run_findKey hks hf,Go.MapKept.run_setObj_map _ hg],?_⟩
    refine hm.setAt hl hb (vs':=#[.tuple ((es.push { key:=.string ⟨s.toArray⟩,val:=z,born:=clock }).map (·.key))]) rfl rfl rfl (by simp) (fun k hk=>(hset _).2 k hk) (.inr ⟨rfl,_,_,(hset _).1,.inl rfl⟩) rfl (fun j y v hy hv=>?_)
    match j,hy,hv with
    | 0,hy,hv=>
     cases hy;cases hv
     have e:(es.push { key:=.string ⟨s.toArray⟩,val:=z,born:=clock }).map (·.key)=((cs++[s]).map fun k=>Value.string ⟨k.toArray⟩).toArray:=by
      rw [Array.map_push,hr];simp
     rw [e]
     exact .keys _ _
    | j+1,hy,hv=>cases hy
   ·rw [hk1]
    simp only [cond_true]
    have hj:j<es.size:=by
     have:=(List.getElem?_eq_some_iff.1 he1).1
     simpa using this
    have hje:es[j]?=some en:=by rw [← xz];exact he1
    have hkt:(Instr.keyThatStays (((es[j]?).map (·.key)).getD (.string ⟨s.toArray⟩)) (.string ⟨s.toArray⟩)).run P w=.ok (.string ⟨s.toArray⟩) w:=by
     have hbb:((⟨s.toArray⟩:ByteArray) == ⟨s.toArray⟩)=true:=by
      show (s.toArray == s.toArray)=true
      simp
     rw [hje]
     simp [Instr.keyThatStays,he2,Instr.sameBits,hbb]
    refine ⟨{ w with heap:=w.heap.setIfInBounds g (.map (es.modify j fun e=>{ e with key:=.string ⟨s.toArray⟩,val:=z }) clock) },by simp only [Instr.mapUpdate,Sem.run_bind,run_underlying (qdw hT hk),Go.MapKept.run_getObj_map hg,Result.andThen_ok,hck,Go.MapKept.run_findKey hks hf,hkt,Go.MapKept.run_setObj_map _ hg],?_⟩
    have e:(es.modify j fun e=>{ e with key:=.string ⟨s.toArray⟩,val:=z }).map (·.key)=es.map (·.key):=by
     apply Array.ext
     ·simp
     ·intro i h1 h2
      simp only [Array.getElem_map,Array.getElem_modify]
      split
      ·rename_i hij
       subst hij
       have:es[j]=en:=by
        have:=hje
        rw [zbk hj] at this
        simpa using this
       rw [this,he2]
      ·rfl
    refine hm.setAt hl hb (vs':=#[.tuple ((es.modify j fun e=>{ e with key:=.string ⟨s.toArray⟩,val:=z }).map (·.key))]) rfl rfl rfl (by simp) (fun k hk=>(hset _).2 k hk) (.inr ⟨rfl,_,_,(hset _).1,.inl rfl⟩) rfl (fun j' y v hy hv=>?_)
    match j',hy,hv with
    | 0,hy,hv=>
     cases hy;cases hv
     rw [e,hr]
     exact .keys _ _
    | j'+1,hy,hv=>cases hy
 ·cases hre
theorem qgr (hT:∀ t,T t=tab P t) (hs:SR c rd mp s a w) (hsup:Sup c s.nx) (o:Oper):Good P c rd mp s.st s.nx w (aop T C s o.dst o.op) (execOp a.eval o):=by
 have hm:=hs.mem
 have one:∀ {r:OR} {x:Operand} {m:Sem Value},(Rel rd mp (strip s.st (ev s x)) (a.eval x)→Fits P c rd mp s.st s.nx w r m)→Fits P c rd mp s.st s.nx w (also (qm s.st (ev s x)) r) m:=
  fun h=>Fits.also fun hc=>h (qcg hs.mem (qac hs _) hc)
 cases ho:o.op with
 | move x=>
  have hf:Fits P c rd mp s.st s.nx w (.ok none (ev s x)) (pure (a.eval x)):=fun _=>.here hm (by simp) (qac hs x)
  exact Good.of_fits hf (by simp [execOp,ho])
 | assign x=>exact Good.of_fits (m:=pure (a.eval x)) (jax hm hsup _ _ _ (qac hs x)) (by simp [execOp,ho])
 | pick x y z=>
  simp only [aop]
  split
  ·exact Good.of_fits (one fun hr=>qzj hm _ _ _ _ hr (qac hs y)) (by simp [execOp,ho,Act.eval])
  ·exact Good.of_fits (one fun hr=>qzk hm _ _ _ _ hr (qac hs z)) (by simp [execOp,ho,Act.eval])
  ·exact Good.of_fits (one fun hr=>qzi hm _ _ _ _ _ _ hr (qac hs y) (qac hs z)) (by simp [execOp,ho])
 | alloc e=>
  simp only [aop]
  cases hc:(Nat.ble 1 (T e).size && Nat.beq (T e).zero.length (T e).size) with
  | false=>trivial
  | true=>
   simp only [zh,zaj,zx] at hc
   exact Good.of_fits (qzu hT hm hsup e hc.1 hc.2) (by simp [execOp,ho])
 | box e x=>
  simp only [aop]
  cases hc:qcv (strip s.st (ev s x)) with
  | false=>trivial
  | true=>exact Good.of_fits (one fun hr=>qzt hm hsup e _ _ hr hc) (by simp [execOp,ho])
 | build t ps=>exact Good.of_fits (Fits.also fun hc=>jaf hT hm t _ _ (qkm hs ps hc).1 (qkm hs ps hc).2) (by simp [execOp,ho])
 | buildSlice t n ps=>exact Good.of_fits (Fits.also fun hc=>jau hT hm hsup o.dst t n _ _ (qkm hs ps hc).1 (qkm hs ps hc).2) (by simp [execOp,ho])
 | load t x=>exact Good.of_fits (one fun hr=>qzs hT hm t _ _ hr) (by simp [execOp,ho])
 | store t x y=>
  simp only [aop]
  have hex:execOp a.eval o=(do Instr.storeAt t (a.eval x) (a.eval y);pure .skip):=by simp [execOp,ho]
  rw [hex]
  have galso:∀ {p:Option DP} {r:OR} {m:Sem Next},(obT p→Good P c rd mp s.st s.nx w r m)→Good P c rd mp s.st s.nx w (also p r) m:=by
   intro p r m h
   cases r with
   | ok ob v=>exact fun hob=>h ((qv _ _).1 hob).1 ((qv _ _).1 hob).2
   | mem ob v st' nx'=>exact fun hob=>h ((qv _ _).1 hob).1 ((qv _ _).1 hob).2
   | call f args=>trivial
   | bad=>trivial
  refine galso fun hcx=>?_
  have hx:=qcg hs.mem (qac hs x) hcx
  have hy0:=qac hs y
  generalize strip s.st (ev s x)=sx at hx ⊢
  generalize ev s y=sy0 at hy0 ⊢
  unfold qgj
  split
  ·rename_i b off r i e n
   unfold qhu
   split
   ·rename_i ty cs hl
    cases hty:Nat.beq ty mapTy with
    | true=>trivial
    | false=>
    simp only [cond_false]
    cases hc:(Nat.beq (T t).size 1 && Nat.ble (off+1) cs.length) with
    | false=>trivial
    | true=>
     simp only [zh,zaj,zx] at hc
     intro _
     obtain ⟨w',hw',hm'⟩:=qsl hT hm t b off ty (qeh hty) cs hl _ _ hx hy0 hc.1 hc.2
     exact ⟨.skip,undef,w',rd,mp,by simp [hw'],.inr ⟨rfl,rfl⟩,Rd.le.refl _,Mp.le.refl _,hm',.any _ _⟩
   ·trivial
  rename_i hdef
  clear hdef
  refine galso fun hcy=>?_
  have hy:=qcg hs.mem hy0 hcy
  generalize strip s.st sy0=sy at hy ⊢
  unfold qff
  have hm2:=hm.withNames sx sy
  generalize qht s.st sx sy=st2 at hm2 ⊢
  unfold qkc
  split
  ·rename_i b off
   split
   ·rename_i ty cs hl
    cases hty:Nat.beq ty mapTy with
    | true=>trivial
    | false=>
    simp only [cond_false]
    cases hc:(Nat.ble 1 (T t).size && Nat.beq (cellsOf sy).length (T t).size && (cellsOf sy).all AV.oneOwn && Nat.ble (off+(cellsOf sy).length) cs.length) with
    | false=>trivial
    | true=>
     simp only [zh,zaj,zx] at hc
     obtain ⟨⟨⟨h1,h2⟩,h3⟩,h4⟩:=hc
     intro hob
     obtain ⟨w',hw',hm'⟩:=qzx hT hm2 t b off ty (qeh hty) cs hl _ _ _ hx hy h2 h3 h4 h1 hob
     exact ⟨.skip,undef,w',rd,mp,by simp [hw'],.inr ⟨rfl,rfl⟩,Rd.le.refl _,Mp.le.refl _,hm',.any _ _⟩
   ·trivial
  ·rename_i r i e n sz' k off
   split
   ·rename_i ob R hl
    cases hc:(Nat.ble 1 (T t).size && Nat.beq sz' R.sz && Nat.beq (cellsOf sy).length (T t).size && (cellsOf sy).all (qbl R.ids) && Nat.ble (off+(cellsOf sy).length) R.sz) with
    | false=>trivial
    | true=>
     simp only [zh,zaj,zx] at hc
     obtain ⟨⟨⟨⟨h1,h0⟩,h2⟩,h3⟩,h4⟩:=hc
     intro hob
     obtain ⟨hob1,hob2⟩:=(qv _ _).1 hob
     obtain ⟨hob3,hn,hk⟩:=(qv _ _).1 hob1
     obtain ⟨w',mp',hw',hle,hm'⟩:=qsp hT hm2 t hl hob3 hn _ _ _ hx hy h0 h2 h3 hob2 h4 h1 hk
     exact ⟨.skip,undef,w',rd,mp',by simp [hw'],.inr ⟨rfl,rfl⟩,Rd.le.refl _,hle,hm',.any _ _⟩
   ·trivial
  ·trivial
 | nilCheck x=>
  simp only [aop]
  cases hn:qfj (strip s.st (ev s x)) with
  | ok ob v=>
   intro hob
   obtain ⟨hc,_⟩:=(qv _ _).1 hob
   obtain ⟨g1,g2,g3⟩:=jay (P:=P) (w:=w) hm o x ho _ (qcg hs.mem (qac hs x) hc) ob v hn
   exact ⟨_,w,rd,g1,Rd.le.refl _,g3,g2⟩
  | mem ob v st nx=>unfold qfj at hn;split at hn <;> cases hn
  | call f args=>trivial
  | bad=>trivial
 | binOp op t x y yt=>
  refine Good.of_fits (m:=do eqGuard op t x y (a.eval x) (a.eval y);binOp op t (a.eval x) (a.eval y)) (one fun hx=>one fun hy=>jba hT hm o.dst op t x y _ _ _ _ hx hy) (by simp [execOp,ho])
 | unOp op t x=>exact Good.of_fits (one fun hr=>qzl hm o.dst op _ _ hr) (by simp [execOp,ho])
 | convert src t x=>exact Good.of_fits (one fun hr=>jap hT hm o.dst src t _ _ hr) (by simp [execOp,ho])
 | makeFunc fn first captured=>
  simp only [aop]
  cases fn with
  | func f=>
   obtain ⟨first⟩:=first
   cases first with
   | nil=>
    have hf:Fits P c rd mp s.st s.nx w (.ok none (.fn f (captured.toList.map (ev s)))) (pure (.func (.func f) #[] (captured.map a.eval))):=
     fun _=>.here hm (by simp) (.fn _ _ _ _ (qkn hs captured).1 (qkn hs captured).2)
    exact Good.of_fits hf (by simp [execOp,ho,Instr.makeFunc])
   | cons x l=>
    cases l with
    | cons y l=>trivial
    | nil=>
     obtain ⟨captured⟩:=captured
     have hx:=qac hs x
     simp only
     generalize ev s x=xv at hx
     cases xv with
     | ptr b off=>
      cases captured with
      | cons y l=>trivial
      | nil=>
       simp only [qfl]
       cases hz:Nat.beq off 0 with
       | false=>trivial
       | true=>
        obtain rfl:off=0:=zq hz
        obtain ⟨g,hg,hv⟩:=qeq hx
        have hf:Fits P c rd mp s.st s.nx w (.ok none (.bfn f b)) (pure (.func (.func f) #[.pointer (some ⟨g,0,none⟩)] #[])):=
         fun _=>.here hm (by simp) (.bfn _ _ _ _ hg)
        exact Good.of_fits hf (by simp [execOp,ho,Instr.makeFunc,hv])
     | _=>trivial
  | _=>trivial
 | makeSlice t x y=>exact Good.of_fits (one fun hx=>one fun hy=>jat hT hm hsup t _ _ _ _ hx hy) (by simp [execOp,ho])
 | slice t x lo hi mx=>
  refine Good.of_fits (one fun hx=>Fits.also fun hcl=>Fits.also fun hch=>jaw hT hm o.dst t _ _ _ _ _ (lo.map a.eval) (hi.map a.eval) (mx.map a.eval) hx ?_ ?_ ?_ ?_ ?_) (by simp [execOp,ho])
  ·intro y hy
   obtain ⟨z,rfl,rfl⟩:=Option.map_eq_some_iff.1 hy
   exact ⟨_,rfl,qcg hs.mem (qac hs z) hcl⟩
  ·intro h;cases lo <;> simp at h ⊢
  ·intro y hy
   obtain ⟨z,rfl,rfl⟩:=Option.map_eq_some_iff.1 hy
   exact ⟨_,rfl,qcg hs.mem (qac hs z) hch⟩
  ·intro h;cases hi <;> simp at h ⊢
  ·intro h;cases mx <;> simp at h ⊢
 | fieldAddr t x i=>exact Good.of_fits (one fun hr=>qzp hT hm t i _ _ hr) (by simp [execOp,ho])
 | field t x i=>exact Good.of_fits (one fun hr=>jak hT hm t i _ _ hr) (by simp [execOp,ho])
 | indexAddr t x i=>exact Good.of_fits (one fun hx=>one fun hy=>qzo hT hm t _ _ _ _ hx hy) (by simp [execOp,ho])
 | index t x i=>exact Good.of_fits (one fun hx=>one fun hy=>qzn hT hm t _ _ _ _ hx hy) (by simp [execOp,ho])
 | extract x i=>exact Good.of_fits (one fun hr=>jal hm i _ _ hr) (by simp [execOp,ho])
 | makeMap t r=>exact Good.of_fits (jbc (T:=T) hm hsup t (r.map (ev s)) (r.map a.eval) (by cases r <;> simp)) (by simp [execOp,ho])
 | lookup t x y cok=>exact Good.of_fits (one fun hx=>one fun hy=>jbd hT hm t _ _ _ _ hx hy cok) (by simp [execOp,ho])
 | mapUpdate t x y z=>
  simp only [aop]
  have hex:execOp a.eval o=(do Instr.mapUpdate t (a.eval x) (a.eval y) (a.eval z);pure .skip):=by simp [execOp,ho]
  rw [hex]
  have galso:∀ {p:Option DP} {r:OR} {m:Sem Next},(obT p→Good P c rd mp s.st s.nx w r m)→Good P c rd mp s.st s.nx w (also p r) m:=by
   intro p r m h
   cases r with
   | ok ob v=>exact fun hob=>h ((qv _ _).1 hob).1 ((qv _ _).1 hob).2
   | mem ob v st' nx'=>exact fun hob=>h ((qv _ _).1 hob).1 ((qv _ _).1 hob).2
   | call f args=>trivial
   | bad=>trivial
  refine galso fun hcx=>galso fun hcy=>?_
  have hx:=qcg hs.mem (qac hs x) hcx
  have hy:=qcg hs.mem (qac hs y) hcy
  have hf:=jbe hT hm t _ _ _ _ (a.eval z) hx hy
  generalize hr:qdv T s.st s.nx t (strip s.st (ev s x)) (strip s.st (ev s y))=r at hf
  have hany:∀ ob v st' nx',r=.mem ob v st' nx'→v=.any:=by
   intro ob v st' nx' e
   rw [e] at hr
   unfold qdv at hr
   split at hr
   ·rename_i k e ss b cs hk hmap _
    cases hc:qen (T k).kd with
    | false=>rw [hc] at hr;cases hr
    | true=>rw [hc] at hr;cases hr;rfl
   ·cases hr
  have hno:(∀ ob v,r≠.ok ob v)∧∀ f l,r≠.call f l:=by
   constructor
   all_goals
    intro p q e
    rw [e] at hr
    unfold qdv at hr
    split at hr
    ·rename_i k e ss b cs hk hmap _
     cases hc:qen (T k).kd with
     | false=>rw [hc] at hr;cases hr
     | true=>rw [hc] at hr;cases hr
    ·cases hr
  cases r with
  | ok ob v=>exact absurd rfl (hno.1 ob v)
  | mem ob v st' nx'=>
   intro hob
   obtain ⟨w',hw',hm'⟩:=hf _ _ _ _ rfl hob
   have:=hany ob v st' nx' rfl
   subst this
   exact ⟨.skip,undef,w',rd,mp,by simp [hw'],.inr ⟨rfl,rfl⟩,Rd.le.refl _,Mp.le.refl _,hm',.any _ _⟩
  | call f l=>exact absurd rfl (hno.2 f l)
  | bad=>trivial
 | call cl=>
  obtain ⟨callee,args,ats⟩:=cl
  simp only [aop]
  cases callee with
  | builtin b=>
   obtain ⟨args⟩:=args
   obtain ⟨ats⟩:=ats
   obtain ⟨cs,hex⟩:∃ cs,execOp a.eval o=builtin b ⟨ats⟩ o.type cs ((⟨args⟩:Array Operand).map a.eval):=by
    simp only [execOp,ho,resolve,invoke]
    exact ⟨_,rfl⟩
   rw [hex]
   have fits:obT (qdf s.st (args.map (ev s)))→∃ m:Sem Value,builtin b ⟨ats⟩ o.type cs ((⟨args⟩:Array Operand).map a.eval)=(do pure (.value (← m)))∧Fits P c rd mp s.st s.nx w (qem T s b ats (args.map fun x=>strip s.st (ev s x))) m ∨
     qem T s b ats (args.map fun x=>strip s.st (ev s x))=.bad:=by
    intro hc
    have hr:∀ x∈args,Rel rd mp (strip s.st (ev s x)) (a.eval x):=fun x hx=>qcg hs.mem (qac hs x) (qom hc _ (List.mem_map.2 ⟨x,hx,rfl⟩))
    unfold qem
    split
    ·rename_i t y hb
     match args,hb,hr with
     | [x],hb,hr=>
      simp only [zag,zbq,List.cons.injEq,and_true] at hb
      subst hb
      exact ⟨Builtin.len_ #[t] o.type #[a.eval x],.inl ⟨by simp [builtin],jaq hT hm t o.type _ _ (hr x (by simp))⟩⟩
    ·rename_i t t' x' y' hb
     match args,hb,hr with
     | [x,y],hb,hr=>
      simp only [zag,zbq,List.cons.injEq,and_true] at hb
      obtain ⟨rfl,rfl⟩:=hb
      cases ht:Nat.beq t t' with
      | false=>exact ⟨pure (.bool true),.inr rfl⟩
      | true=>
       obtain rfl:t=t':=zq ht
       exact ⟨Builtin.append_ #[t,t] o.type #[a.eval x,a.eval y],.inl ⟨by simp [builtin],jas hT hm hsup t o.type _ _ _ _ (hr x (by simp)) (hr y (by simp))⟩⟩
    ·rename_i t t' x' y' hb
     match args,hb,hr with
     | [x,y],hb,hr=>
      simp only [zag,zbq,List.cons.injEq,and_true] at hb
      obtain ⟨rfl,rfl⟩:=hb
      exact ⟨Builtin.min_ ⟨[t,t']⟩ o.type #[a.eval x,a.eval y],.inl ⟨by simp [builtin],qsx hm ⟨[t,t']⟩ o.type false _ _ _ _ (hr x (by simp)) (hr y (by simp))⟩⟩
    ·rename_i t t' x' y' hb
     match args,hb,hr with
     | [x,y],hb,hr=>
      simp only [zag,zbq,List.cons.injEq,and_true] at hb
      obtain ⟨rfl,rfl⟩:=hb
      exact ⟨Builtin.max_ ⟨[t,t']⟩ o.type #[a.eval x,a.eval y],.inl ⟨by simp [builtin],qsx hm ⟨[t,t']⟩ o.type true _ _ _ _ (hr x (by simp)) (hr y (by simp))⟩⟩
    ·exact ⟨pure (.bool true),.inr rfl⟩
   have galso:∀ {p:Option DP} {r:OR} {m:Sem Next},(obT p→Good P c rd mp s.st s.nx w r m)→Good P c rd mp s.st s.nx w (also p r) m:=by
    intro p r m h
    cases r with
    | ok ob v=>exact fun hob=>h ((qv _ _).1 hob).1 ((qv _ _).1 hob).2
    | mem ob v st' nx'=>exact fun hob=>h ((qv _ _).1 hob).1 ((qv _ _).1 hob).2
    | call f args=>trivial
    | bad=>trivial
   refine galso fun hc=>?_
   obtain ⟨m,⟨h1,h2⟩|h⟩:=fits hc
   ·exact Good.of_fits h2 h1
   ·simp only [h];trivial
  | value f=>
   simp only [qke]
   have hf:=qac hs f
   split
   ·rename_i g caps hg
    rw [hg] at hf
    generalize hv:a.eval f=v at hf
    cases hf with
    | fn _ _ _ vs h1 h2=>
     refine ⟨args.map a.eval++vs,?_,(qkn hs args).append ⟨h1,h2⟩⟩
     simp [execOp,ho,resolve,Deferred.ofValue,hv,invoke]
   ·rename_i g b hg
    rw [hg] at hf
    generalize hv:a.eval f=v at hf
    cases hf with
    | bfn _ _ _ gb hb=>
     refine ⟨#[.pointer (some ⟨gb,0,none⟩)]++args.map a.eval,?_,?_⟩
     ·simp [execOp,ho,resolve,Deferred.ofValue,hv,invoke]
     ·have h1:RelL rd mp [.ptr b 0] #[.pointer (some ⟨gb,0,none⟩)]:=⟨rfl,fun j x v hx hv=>by
       match j,hx,hv with
       | 0,hx,hv=>cases hx;cases hv;exact .ptr _ _ _ _ hb
       | j+1,hx,hv=>cases hx⟩
      exact h1.append (qkn hs args)
   ·trivial
  | invoke r m=>trivial
 | _=>trivial
end Go.Sx
end
section
namespace Go.Sx
open Go Go.RowKit
variable {P:Program} {T:Nat→TI} {C:Cfg} {c:Ctx} {rd:Rd} {mp:Mp} {st:List (Nat × SO)} {nx:Nat} {w:World} {s:ASt} {a:Act}
def qgs (tmps:Array Value):ResultVar→Sem Value
 | .tmp t=>pure (tmps.getD t undef)
 | .cell a t=>do loadVar t (← asAddr (tmps.getD a undef))
theorem jbf (fn:Func) (tmps:Array Value):results fn tmps=(do let vs ← fn.results.mapM (qgs tmps);pure (if h:vs.size=1 then vs[0] else .tuple vs)):=by
 unfold results
 congr 1
theorem jbg (hT:∀ t,T t=tab P t) (hs:SR c rd mp s a w):∀ (rs:List ResultVar) (vs:List AV),resL T s rs=some vs→
  ∃ us:List Value,(rs.mapM (qgs a.tmps)).run P w=.ok us w∧us.length=vs.length ∧
   ∀ (j:Nat) x v,vs[j]?=some x→us[j]?=some v→Rel rd mp x v:=by
 intro rs
 induction rs with
 | nil=>
  intro vs h
  simp only [resL,Option.some.injEq] at h
  subst h
  exact ⟨[],by simp,rfl,fun j x v hx=>by simp at hx⟩
 | cons r rs ih=>
  intro vs h
  simp only [resL] at h
  split at h
  ·rename_i v vs' h1 h2
   cases h
   obtain ⟨us,hu,hl,hr⟩:=ih vs' h2
   have head:∃ u,(qgs a.tmps r).run P w=.ok u w∧Rel rd mp v u:=by
    cases r with
    | tmp t=>
     simp only [resV,Option.some.injEq] at h1
     subst h1
     exact ⟨a.tmps.getD t undef,by simp only [qgs,Sem.run_pure],hs.slots t⟩
    | cell b t=>
     simp only [resV] at h1
     split at h1
     ·rename_i id o hget
      split at h1
      ·rename_i ty cs hlk
       cases hty:Nat.beq ty mapTy with
       | true=>rw [hty] at h1;cases h1
       | false=>
       rw [hty] at h1
       simp only [cond_false] at h1
       split at h1
       ·rename_i ob y hy
        cases h1
        have hb:=hs.slots b
        rw [hget] at hb
        obtain ⟨ad,x,hv,hrun,hrel⟩:=qzr hT hs.mem t (qeh hty) hlk hb ob _ hy
        refine ⟨x,?_,hrel⟩
        rw [hv] at hrun
        simp only [qgs,hv]
        simpa [asAddr,Instr.loadAt,Instr.sureAddr] using hrun
       ·cases h1
      ·cases h1
     ·cases h1
   obtain ⟨u,hu1,hu2⟩:=head
   refine ⟨u::us,?_,by simp [hl],fun j x v hx hv=>?_⟩
   ·rw [List.mapM_cons]
    simp only [Sem.run_bind,hu1,Result.andThen_ok,hu,Sem.run_pure]
   ·cases j with
    | zero=>simp at hx hv;subst hx;subst hv;exact hu2
    | succ j=>simp at hx hv;exact hr j x v hx hv
  ·cases h
theorem qta {E:Env} (hT:∀ t,E.T t=tab E.P t) (h:RetG E s) (hs:SR E.c rd mp s a w) (hrd:Base E rd mp):a.defers=[]∧∃ v,(results E.fn a.tmps).run E.P w=.ok v w∧Post E (.returned v) w:=by
 refine ⟨hs.defers,?_⟩
 unfold RetG at h
 split at h
 ·rename_i y hy
  rw [jr] at h
  have fin:∀ v,Rel rd mp y v→Post E (.returned v) w:=fun v hv=>⟨y,rd,mp,s.st,s.nx,h,hv,hs.mem,hrd⟩
  unfold qry at hy
  cases hl:resL E.T s E.fn.results.toList with
  | none=>rw [hl] at hy;cases hy
  | some vs=>
   rw [hl] at hy
   obtain ⟨us,hu,hlen,hr⟩:=jbg hT hs _ vs hl
   have hrun:(E.fn.results.mapM (qgs a.tmps)).run E.P w=.ok us.toArray w:=by
    rw [Array.mapM_eq_mapM_toList]
    simp [hu]
   rw [jbf]
   simp only [Sem.run_bind,hrun,Result.andThen_ok,Sem.run_pure]
   match vs,us,hlen,hy with
   | [x],[u],_,hy=>
    cases hy
    exact ⟨u,by simp,fin u (hr 0 _ _ rfl rfl)⟩
   | [],[],_,hy=>
    cases hy
    exact ⟨.tuple #[],by simp,fin _ (.tup _ _ _ rfl (fun j x v hx=>by simp at hx))⟩
   | x::x'::xs,u::u'::us,hlen,hy=>
    cases hy
    refine ⟨.tuple (u::u'::us).toArray,by simp,fin _ (.tup _ _ _ (by simpa using hlen) (fun j x v hx hv=>hr j x v hx (by simpa using hv)))⟩
 ·exact absurd h id
theorem jbh (s:ASt) (d t:Nat) (v:AV):(s.put (some d) v).get t=if d=t then v else s.get t:=by
 simp only [ASt.put,ASt.get,qh]
 split <;> rfl
theorem SR.put {rd':Rd} {mp':Mp} {w':World} {dst:Option Nat} {v:AV} {x:Value} (h:SR c rd mp s a w) (hr:Rd.le rd rd') (hp:Mp.le mp mp') (hm:Mem c rd' mp' st nx w') (hv:Rel rd' mp' v x)
  (hd:∀ d,dst=some d→d<a.tmps.size):SR c rd' mp' ((ASt.mk s.sl st nx).put dst v) (a.put dst x) w':=by
 have hst:((ASt.mk s.sl st nx).put dst v).st=st∧((ASt.mk s.sl st nx).put dst v).nx=nx:=by cases dst <;> exact ⟨rfl,rfl⟩
 refine ⟨fun t=>?_,?_,by rw [hst.1,hst.2];exact hm⟩
 ·cases dst with
  | none=>exact (h.slots t).mono hr hp
  | some d=>
   rw [jbh]
   have hlt:=hd d rfl
   by_cases ht:d=t
   ·subst ht
    simp only [za,Act.put]
    have:(a.tmps.setIfInBounds d x).getD d undef=x:=by simp [hlt]
    rw [this];exact hv
   ·rw [ze ht]
    have:(a.put (some d) x).tmps.getD t undef=a.tmps.getD t undef:=by
     simp only [Act.put,zai]
     rw [zaw ht]
    rw [this]
    exact (h.slots t).mono hr hp
 ·cases dst <;> exact h.defers
theorem qch (a:Act) (dst:Option Nat) (x:Value):(a.put dst x).tmps.size=a.tmps.size:=by
 cases dst <;> simp [Act.put]
theorem jbi (E:Env) (B:Nat→ASt→Prop) (y:Code) (k:List Itm):QK E B (.code y::k)=Exit.then (y.wp E.P (QK E B k)) (QK E B k):=by
 funext e a w
 cases e <;> rfl
theorem jbj (E:Env) (B:Nat→ASt→Prop) (id:Nat) (k:List Itm):QK E B (.blk id::k)=Exit.inBlock id (QK E B k):=by
 funext e a w
 cases e <;> rfl
theorem jbk (E:Env) (B:Nat→ASt→Prop) (id:Nat) (a:Act) (w:World):∀ (k k':List Itm),qgn id k=some k'→QK E B k' .normal a w→QK E B k (.exit id) a w:=by
 intro k
 induction k with
 | nil=>intro k' h;simp [qgn] at h
 | cons i k ih=>
  intro k' h hq
  cases i with
  | blk id'=>
   simp only [qgn] at h
   cases hb:Nat.beq id' id with
   | true=>
    simp only [hb,cond_true,Option.some.injEq] at h
    subst h
    have:id'=id:=zq hb
    subst this
    simpa [QK] using hq
   | false=>
    simp only [hb,cond_false] at h
    have hne:¬ id=id':=fun e=>by rw [e] at hb;simp at hb
    simp only [QK,ze hne]
    exact ih k' h hq
  | code x=>exact ih k' h hq
  | mark n=>exact ih k' h hq
  | ops full l=>exact ih k' h hq
theorem qon (hs:SR c rd mp s a w) {full:Array Oper} {j d:Nat} (hd:qan full j=some d) {want:Bool} {g:Bool} (hg:qbn want (s.get d)=some g) (o:Oper) (ho:o.guard=some (j,want)) :
  Region.wanted o (yielded full a.tmps)=g:=by
 have hslot:(full[j]?).bind (·.dst)=some d:=by
  simp only [qan] at hd
  rwa [xz] at hd
 have hr:=hs.slots d
 have hbool:∀ p,a.tmps.getD d undef=.bool p→a.tmps[d]?=some (.bool p):=by
  intro p hp
  rw [zai] at hp
  cases h:a.tmps[d]? with
  | none=>rw [h] at hp;simp [undef] at hp
  | some v=>rw [h] at hp;simp at hp;rw [hp]
 simp only [Region.wanted,ho]
 have plain:∀ p,s.get d=.bool p→(yielded full a.tmps j == some want)=(p == want):=by
  intro p hp
  rw [hp] at hr
  have:=hbool p (rel_bool hr)
  simp only [yielded,hslot,Option.bind_some,this]
  rfl
 have cond:∀ q p,s.get d=.cnd q (.bool p)→(yielded full a.tmps j == some want)=(q && (p == want)):=by
  intro q p hp
  rw [hp] at hr
  cases hr with
  | cnd _ _ _ _ h h0=>
   cases q with
   | true=>
    have:=hbool p (rel_bool (h rfl))
    simp only [yielded,hslot,Option.bind_some,this]
    rfl
   | false=>
    have hu:=h0 rfl
    have:∀ b,a.tmps[d]?≠some (.bool b):=by
     intro b hb
     rw [zai,hb] at hu
     simp [undef] at hu
    have hn:yielded full a.tmps j=none:=by
     unfold yielded
     rw [hslot]
     simp only [Option.bind_some]
    rw [hn]
    rfl
 unfold qbn at hg
 split at hg
 ·rename_i p hp;cases hg;rw [plain _ hp];simp
 ·rename_i p hp;cases hg;rw [plain _ hp];simp
 ·rename_i q p hp;cases hg;rw [cond _ _ hp];cases p <;> rfl
 ·rename_i q p hp;cases hg;rw [cond _ _ hp];cases p <;> rfl
 ·cases hg
theorem qfn {ob:Option DP} {r:Prop} (h:cj ob r):obT ob∧r:=by
 cases ob with
 | none=>exact ⟨trivial,h⟩
 | some p=>exact ⟨Ob.left h,Ob.right h⟩
theorem qtb {E:Env} {B:Nat→ASt→Prop} {f:FuncId} {args:List AV} {full:Array Oper} {o:Oper} {rest:List Oper} {k:List Itm} (h:qaa E B f args o.dst full rest k s)
  (hs:SR E.c rd mp s a w) (hrd:Base E rd mp) (hsz:a.tmps.size=E.fn.ntmps) (hw:Region.wanted o (yielded full a.tmps)=true) {vs:Array Value} (hrun:(execOp a.eval o).run E.P w=(callFunc f vs).run E.P w) (hargs:RelL rd mp args vs) :
  wpList E.P full (QK E B k) (o::rest) a w:=by
 unfold qaa at h
 have:=h rd mp a w vs hs hrd hsz hargs
 unfold wpList
 rw [za hw]
 left
 unfold Oper.wp
 rw [hrun]
 rcases this with ⟨h1,h2⟩|⟨v,w',h1,h2⟩
 ·rw [h1,Oper.upon_enter]
  refine h2.mono fun e w' he=>?_
  rcases he with ⟨v,he,hv⟩|⟨ch,he,hv⟩ <;> subst he <;> exact hv
 ·rw [h1,Oper.upon_value]
  exact h2
theorem qib {E:Env} {B:Nat→ASt→Prop} {full:Array Oper} {o:Oper} {rest:List Oper} {k:List Itm} (hw:Region.wanted o (yielded full a.tmps)=true) {n:Next} {x:Value} {w':World} (hrun:(execOp a.eval o).run E.P w=.ok n w')
  (hn:n=.value x∨(n=.skip∧x=undef)) (h:wpList E.P full (QK E B k) rest (a.put o.dst x) w'):wpList E.P full (QK E B k) (o::rest) a w:=by
 unfold wpList
 rw [za hw]
 left
 unfold Oper.wp
 rw [hrun]
 rcases hn with rfl|⟨rfl,rfl⟩
 ·rw [Oper.upon_value];exact h
 ·rw [Oper.upon_skip];exact h
theorem qtc {E:Env} {B:Nat→ASt→Prop} {full:Array Oper} {o:Oper} {rest:List Oper} {k:List Itm} (hw:Region.wanted o (yielded full a.tmps)=false) (h:wpList E.P full (QK E B k) rest (a.put o.dst undef) w) :
  wpList E.P full (QK E B k) (o::rest) a w:=by
 unfold wpList
 rw [ze (by rw [hw];simp)]
 exact h
theorem qic {E:Env} {B:Nat→ASt→Prop} {ch:List PanicEntry} {a:Act} {w:World} (hd:a.defers=[]) (h:Post E (.panicked ch) w):∀ (k:List Itm),QK E B k (.panic ch) a w
 | []=>⟨hd,h⟩
 | .code _::k=>qic hd h k
 | .blk _::k=>qic hd h k
 | .mark _::k=>qic hd h k
 | .ops _ _::k=>qic hd h k
theorem qba {E:Env} {B:Nat→ASt→Prop} (hT:∀ t,E.T t=tab E.P t):∀ (n:Nat) (k:List Itm) (s:ASt),exec E B n k s→Ok E B k s:=by
 intro n
 induction n with
 | zero=>intro k s h;exact False.elim h
 | succ n ih=>
  intro k s h rd mp a w hs hrd hsz
  obtain ⟨sl,st,nx⟩:=s
  unfold exec at h
  match k,h with
  | [],h=>
   show bodyPost E.P E.fn (Post E) .normal a w
   exact qta hT h hs hrd
  | .blk id::k,h=>exact ih k _ h rd mp a w hs hrd hsz
  | .mark m::k,h=>exact ⟨hsz,rd,mp,_,hs,hrd,h⟩
  | .code x::k,h=>
   show x.wp E.P (QK E B k) a w
   cases x with
   | skip=>exact wp_skip (ih k _ h rd mp a w hs hrd hsz)
   | label l=>exact wp_label (ih k _ h rd mp a w hs hrd hsz)
   | seq x y=>
    apply wp_seq
    have:=ih _ _ h rd mp a w hs hrd hsz
    rw [← jbi]
    exact this
   | block id x=>
    apply wp_block
    have:=ih _ _ h rd mp a w hs hrd hsz
    rw [← jbj]
    exact this
   | cond o x y=>
    have ho:=qac hs o
    simp only at h
    split at h
    ·rename_i p hp
     rw [hp] at ho
     have hb:=rel_bool ho
     cases p with
     | true=>exact wp_cond_true hb (ih _ _ (Br.yes h rfl) rd mp a w hs hrd hsz)
     | false=>exact wp_cond_false hb (ih _ _ (Br.no h rfl) rd mp a w hs hrd hsz)
    ·rename_i q p hp
     rw [hp] at ho
     cases ho with
     | cnd _ _ _ _ ho _=>
      have hb:=rel_bool (ho (Ob.left h))
      cases p with
      | true=>exact wp_cond_true hb (ih _ _ (Br.yes (Ob.right h) rfl) rd mp a w hs hrd hsz)
      | false=>exact wp_cond_false hb (ih _ _ (Br.no (Ob.right h) rfl) rd mp a w hs hrd hsz)
    ·exact False.elim h
   | loop b=>
    simp only at h
    unfold qca at h
    exact h rd mp a w hs hrd hsz
   | exit id=>
    simp only at h
    split at h
    ·rename_i k' hk'
     exact wp_exit (jbk E B id a w k k' hk' (ih k' _ h rd mp a w hs hrd hsz))
    ·exact False.elim h
   | ret=>
    apply wp_ret
    have hret:=qta hT h hs hrd
    have:∀ k:List Itm,QK E B k .ret a w:=by
     intro k
     induction k with
     | nil=>exact hret
     | cons i k ih'=>cases i <;> exact ih'
    exact this k
   | region id ops d=>
    simp only at h
    cases d with
    | true=>
     simp only at h
     unfold qav at h
     exact h rd mp a w hs hrd hsz
    | false=>
     simp only at h
     cases hst:E.C.stops.any (Nat.beq id) with
     | true=>
      rw [hst] at h
      simp only at h
      unfold qhx at h
      exact wp_region_list (h rd mp a w hs hrd hsz)
     | false=>
      rw [hst] at h
      exact wp_region_list (ih _ _ h rd mp a w hs hrd hsz)
   | _=>exact False.elim h
  | .ops full []::k,h=>exact ih k _ h rd mp a w hs hrd hsz
  | .ops full (⟨dst,op,ty,pos,aft,guard⟩::rest)::k,h=>
   show wpList E.P full (QK E B k) (⟨dst,op,ty,pos,aft,guard⟩::rest) a w
   generalize ho:(⟨dst,op,ty,pos,aft,guard⟩:Oper)=o
   have hod:o.dst=dst:=by rw [← ho]
   have hoo:o.op=op:=by rw [← ho]
   have hog:o.guard=guard:=by rw [← ho]
   have hot:o.type=ty:=by rw [← ho]
   have hop:o.pos=pos:=by rw [← ho]
   have hoa:o.after=aft:=by rw [← ho]
   subst hod hoo hog hot hop hoa
   clear ho
   simp only at h
   cases hd:qz E o.dst with
   | false=>rw [hd] at h;exact False.elim h
   | true=>
    rw [hd] at h
    simp only at h
    have hdst:∀ d,o.dst=some d→d<a.tmps.size:=by
     intro d hd'
     rw [hd'] at hd
     simp only [qz,zaz] at hd
     rw [hsz]
     exact hd
    have hgood:=qgr (C:=E.C) hT hs (.std hrd.std _) o
    have putEq:∀ st' nx' v,(ASt.mk (jx sl o.dst v) st' nx')=(ASt.mk sl st' nx').put o.dst v:=by
     intro st' nx' v;cases o.dst <;> rfl
    have next:∀ {st' nx' rd' mp' w' v x},exec E B n (.ops full rest::k) ⟨jx sl o.dst v,st',nx'⟩→Rd.le rd rd'→Mp.le mp mp'→Mem E.c rd' mp' st' nx' w'→Rel rd' mp' v x→
      wpList E.P full (QK E B k) rest (a.put o.dst x) w':=by
     intro st' nx' rd' mp' w' v x he hr hp hm hv
     rw [putEq] at he
     exact ih _ _ he rd' mp' _ w' (hs.put hr hp hm hv hdst) (hrd.step hr hp) (by rw [qch];exact hsz)
    cases hg:o.guard with
    | none=>
     rw [hg] at h
     simp only at h
     have hwant:Region.wanted o (yielded full a.tmps)=true:=by simp [Region.wanted,hg]
     cases hr:aop E.T E.C ⟨sl,st,nx⟩ o.dst o.op with
     | ok ob v=>
      rw [hr] at h hgood
      simp only [jr,ja,jq,qu] at h
      obtain ⟨hob,he⟩:=qfn h
      obtain ⟨x,w',rd',g1,g2,g3,g4⟩:=hgood hob
      exact qib hwant g1 (.inl rfl) (next he g2 (Mp.le.refl _) g3 g4)
     | mem ob v st' nx'=>
      rw [hr] at h hgood
      simp only [jr,ja,jq,qu] at h
      obtain ⟨hob,he⟩:=qfn h
      obtain ⟨nn,x,w',rd',mp',g1,g2,g3,g4,g5,g6⟩:=hgood hob
      exact qib hwant g1 g2 (next he g3 g4 g5 g6)
     | call f args=>
      rw [hr] at h hgood
      simp only [qcb] at h
      obtain ⟨vs,g1,g2⟩:=hgood
      exact qtb h hs hrd hsz hwant g1 g2
     | bad=>
      rw [hr] at h
      unfold OpG at h
      have e:o=⟨o.dst,o.op,o.type,o.pos,o.after,none⟩:=by cases o;simp only at hg;rw [hg]
      rw [e]
      exact h rd mp a w hs hrd hsz
    | some jw=>
     obtain ⟨j,want⟩:=jw
     rw [hg] at h
     simp only at h
     cases hsl:qan full j with
     | none=>rw [hsl] at h;exact False.elim h
     | some d=>
      rw [hsl] at h
      simp only [xu] at h
      cases hgb:qbn want (ASt.get ⟨sl,st,nx⟩ d) with
      | none=>rw [hgb] at h;exact False.elim h
      | some g=>
       rw [hgb] at h
       simp only at h
       have hwant:=qon hs hsl hgb o hg
       have skip:g=false→∀ {v},Rel rd mp v undef→exec E B n (.ops full rest::k) ⟨jx sl o.dst v,st,nx⟩→wpList E.P full (QK E B k) (o::rest) a w:=by
        intro hgf v hv he
        rw [hgf] at hwant
        exact qtc hwant (next he (Rd.le.refl _) (Mp.le.refl _) hs.mem hv)
       cases hr:aop E.T E.C ⟨sl,st,nx⟩ o.dst o.op with
       | ok ob v=>
        rw [hr] at h hgood
        simp only [jr,ja,jq,qu] at h
        obtain ⟨hob,he⟩:=qfn h
        cases g with
        | false=>exact skip rfl (.cnd _ _ _ _ (fun h=>by cases h) (fun _=>rfl)) he
        | true=>
         have hob':obT (andO (qm st v) ob):=by
          generalize andO (qm st v) ob=oo at hob
          cases oo with
          | none=>trivial
          | some p=>exact hob rfl
         obtain ⟨hob1,hob2⟩:=(qv _ _).1 hob'
         obtain ⟨x,w',rd',g1,g2,g3,g4⟩:=hgood hob2
         exact qib hwant g1 (.inl rfl) (next he g2 (Mp.le.refl _) g3 (.cnd _ _ _ _ (fun _=>qcg g3 g4 hob1) (fun h=>by cases h)))
       | mem ob v st' nx'=>
        rw [hr] at h hgood
        simp only [jr,ja,jq,qu] at h
        cases g with
        | false=>exact skip rfl (.any _ _) (Br.no h rfl)
        | true=>
         obtain ⟨hob,he⟩:=qfn (Br.yes h rfl)
         obtain ⟨nn,x,w',rd',mp',g1,g2,g3,g4,g5,g6⟩:=hgood hob
         exact qib hwant g1 g2 (next he g3 g4 g5 g6)
       | call f args=>
        rw [hr] at h hgood
        simp only [qcb] at h
        unfold qcx at h
        cases g with
        | false=>exact qtc hwant (h.2 rfl rd mp a w hs hrd hsz)
        | true=>
         obtain ⟨vs,g1,g2⟩:=hgood
         exact qtb (h.1 rfl) hs hrd hsz hwant g1 g2
       | bad=>
        rw [hr] at h
        simp only [ja] at h
        cases g with
        | false=>exact skip rfl (.cnd _ _ _ _ (fun h=>by cases h) (fun _=>rfl)) (Br.no h rfl)
        | true=>
         have h1:=Br.yes h rfl
         unfold OpG at h1
         have h2:wpList E.P full (QK E B k) (⟨o.dst,o.op,o.type,o.pos,o.after,none⟩::rest) a w:=h1 rd mp a w hs hrd hsz
         have hw0:Region.wanted (⟨o.dst,o.op,o.type,o.pos,o.after,none⟩:Oper) (yielded full a.tmps)=true:=by simp [Region.wanted]
         unfold wpList at h2 ⊢
         rw [za hw0] at h2
         rw [za hwant]
         exact h2
end Go.Sx
end
