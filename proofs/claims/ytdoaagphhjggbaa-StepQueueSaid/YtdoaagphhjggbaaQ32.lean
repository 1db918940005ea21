/- Some texts of the library, one behind the other. -/
import Derived.Test.YtdoaagphhjggbaaQMk6
import Derived.Test.YtdoaagphhjggbaaQ18
import Derived.Test.YtdoaagphhjggbaaQ21
import Derived.Test.YtdoaagphhjggbaaQ4
import Derived.Test.YtdoaagphhjggbaaQ2
section
namespace Go.Proofs.Ytdoaagphhjggbaa
open Go Go.Sx Go.RowKit Go.St
set_option maxRecDepth 100000
set_option maxHeartbeats 8000000

end Go.Proofs.Ytdoaagphhjggbaa
end
section
namespace Go.Proofs.Ytdoaagphhjggbaa
open Go Go.Sx Go.RowKit Go.St Pa
set_option maxRecDepth 100000
def qua : List UInt8 := [99, 104, 97, 110, 32, 99, 91, 49, 93, 32, 111, 102, 32, 49, 59, 32, 112, 114, 111, 99, 32, 112, 32, 123, 32, 115, 101, 110, 100, 32, 99, 32, 49, 59, 32, 115, 101, 110, 100, 32, 99, 32, 49, 59, 32, 125]
def qhu : List Nd := [⟨0, [], [], [1, 2], 0⟩, ⟨1, [[99]], [1, 1, 0, 0], [], 0⟩, ⟨3, [[112]], [1], [3, 5], 16⟩, ⟨7, [[99]], [], [4], 25⟩, ⟨17, [], [1], [], 32⟩, ⟨7, [[99]], [], [6], 35⟩, ⟨17, [], [1], [], 42⟩]
def model15 : Md := { tree := qhu, globals := 0, chans := [⟨[99], 1, 1, false, false⟩], vars := [], procs := [⟨[112], 0, [], 3, [false, true, false], [⟨0, 2, 2, 4, (-1), 0, false, 3⟩, ⟨2, 1, 2, 6, (-1), 0, false, 5⟩], [], []⟩], safe := [], dead := false }
theorem px15 : qmu qua = (qhu, (0, 0)) := by kernel_rfl
theorem jna : Con Try.prog 15 [.str qua] (.tup [qat qhu, flt 0 0]) := by
 have h := jab qua (by decide)
 rw [jac px15 (by decide)] at h
 exact h
theorem jbk : Tree qhu := qth (by decide +kernel)
theorem jbl : (qds qhu).1 = 0 := by decide +kernel
theorem jbm : qja qhu = model15 := by kernel_rfl
theorem jnb : Con Try.prog 16 [qat qhu] (.tup [model15.av, .bool true]) := by
 have h := jbj qhu jbk jbl
 rw [jbm] at h
 exact h
theorem jnc : ModOk model15 := jbm ▸ jbg jbk jbl
end Go.Proofs.Ytdoaagphhjggbaa
end
section
namespace Go.Proofs.Ytdoaagphhjggbaa
open Go Go.Sx Go.RowKit Go.St
set_option maxRecDepth 100000
set_option maxHeartbeats 2000000

end Go.Proofs.Ytdoaagphhjggbaa
end
section
namespace Go.Proofs.Ytdoaagphhjggbaa
open List renaming getD_eq_getElem?_getD → zd
open Go Go.Sx Go.RowKit Go.St
set_option maxRecDepth 100000
set_option maxHeartbeats 2000000
theorem jnd (m : Md) (hm : MOk m) : Trip Try.prog 19 [m.av] []
  (.agg [.own 3 0 0 m.procs.length, .own 4 0 0 m.vars.length, .own 5 0 0 m.chans.length, iv (-1)])
  [(3, .row [] 3 1 0 m.procs.length (fun _ => [iv 0])), (4, .row [] 3 1 0 m.vars.length (fun i => [iv (m.vars.getD i vr0).value])), (5, .row [] 23 1 0 m.chans.length (fun _ => [.nils]))] 6 := by
 have hsz := hm.sz
 refine zL {} 300 Try.func19 (fun c0 rdb mpb => ?_)
 refine qca 2 0 3 1 rfl rfl ?_
 ((conv => whnf); refine qhf (fun _ => rfl) 300 1 [1, 2, 3] [0, 1] (fun i : Nat => [(4, iv i)]) (fun i => [(2, .box 34 [.own 3 0 0 i, .nils, .nils, iv (-1)]), (3, .row [] 3 1 0 i (fun _ => [iv 0]))]) (fun i => i ≤ m.procs.length) (fun i => m.procs.length - i) (0) (by omega) qa qa (fun _ => rfl) (by kernel_rfl) ?_; (conv => whnf))
 intro i hi
 (repeat' ((conv => whnf); first | refine Ob.auto ?_ | (apply zB <;> intro hb <;> (try simp [-zd] at hb) <;> try (exfalso; omega))))
 ·((conv => whnf); refine ⟨i + 1, by omega, ⟨qa, qa⟩, ⟨qa, qa⟩, ?_⟩; (first | omega | (dsimp only; omega) | skip))
 obtain rfl : i = m.procs.length := by omega
 clear hi hb
 refine qca 2 1 3 1 rfl rfl ?_
 ((conv => whnf); refine qhf (fun _ => rfl) 300 2 [1, 2, 3] [0, 1, 3] (fun i : Nat => [(5, iv i)]) (fun i => [(2, .box 34 [.own 3 0 0 m.procs.length, .own 4 0 0 i, .nils, iv (-1)]), (4, .row [] 3 1 0 i (fun i => [iv (m.vars.getD i vr0).value]))]) (fun i => i ≤ m.vars.length) (fun i => m.vars.length - i) (0) (by omega) qa qa (fun _ => rfl) (by kernel_rfl) ?_; (conv => whnf))
 intro i hi
 (repeat' ((conv => whnf); first | refine Ob.auto ?_ | (refine zN 300 ?_) | (apply zB <;> intro hb <;> (try simp [-zd] at hb) <;> try (exfalso; omega))))
 ·((conv => whnf); refine ⟨i + 1, by omega, ⟨qa, qa⟩, ⟨qa, qa⟩, ?_⟩; (first | omega | (dsimp only; omega) | skip))
 obtain rfl : i = m.vars.length := by omega
 clear hi hb
 refine qca 2 2 23 1 rfl rfl ?_
 ((conv => whnf); refine qhf (fun _ => rfl) 300 3 [1, 2, 3] [0, 1, 3, 4] (fun i : Nat => [(6, iv i)]) (fun i => [(2, .box 34 [.own 3 0 0 m.procs.length, .own 4 0 0 m.vars.length, .own 5 0 0 i, iv (-1)]), (5, .row [] 23 1 0 i (fun i => [.nils]))]) (fun i => i ≤ m.chans.length) (fun i => m.chans.length - i) (0) (by omega) qa qa (fun _ => rfl) (by kernel_rfl) ?_; (conv => whnf))
 intro i hi
 (repeat' ((conv => whnf); first | refine Ob.auto ?_ | (apply zB <;> intro hb <;> (try simp [-zd] at hb) <;> try (exfalso; omega))))
 ·((conv => whnf); refine ⟨i + 1, by omega, ⟨qa, qa⟩, ⟨qa, qa⟩, ?_⟩; (first | omega | (dsimp only; omega) | skip))
 obtain rfl : i = m.chans.length := by omega
 (conv => whnf)
 exact ⟨Le.refl _, qa⟩
end Go.Proofs.Ytdoaagphhjggbaa
end
section
namespace Go.St
open Go Go.Sx
theorem jne {n n' w : Int} (h : n % 2 ^ wid w = n' % 2 ^ wid w) : trim n w = trim n' w := by
 unfold trim; rw [h]
theorem qub (n w : Int) : trim (trim n w) w = trim n w := by
 refine jne ?_
 have h2 := qfn (wid w) (qfm w).2
 have h3 := Int.emod_nonneg n (b := 2 ^ wid w) (by omega)
 have h4 := Int.emod_lt_of_pos n (b := 2 ^ wid w) (by omega)
 unfold trim
 split
 ·rw [Int.sub_emod_right]; exact Int.emod_eq_of_lt h3 h4
 ·exact Int.emod_eq_of_lt h3 h4
end Go.St
end
section
namespace Go.Proofs.Ytdoaagphhjggbaa
open List renaming getD_eq_getElem?_getD → zd
open Go Go.Sx Go.RowKit Go.St
set_option maxRecDepth 100000
set_option maxHeartbeats 2000000
theorem jnf (m : Md) (hm : MOk m) : Con Try.prog 19 [m.av] (qdh m).av := by
 have hsz := hm.sz
 refine zK {} 300 Try.func19 (fun c0 rdb => ?_)
 refine qca 2 0 3 1 rfl rfl ?_
 ((conv => whnf); refine qhf (fun _ => rfl) 300 1 [1, 2, 3] [0, 1] (fun i : Nat => [(4, iv i)]) (fun i => [(2, .box 34 [.own 3 0 0 i, .nils, .nils, iv (-1)]), (3, .row [] 3 1 0 i (fun _ => [iv 0]))]) (fun i => i ≤ m.procs.length) (fun i => m.procs.length - i) (0) (by omega) qa qa (fun _ => rfl) (by kernel_rfl) ?_; (conv => whnf))
 intro i hi
 (repeat' ((conv => whnf); first | refine Ob.auto ?_ | (apply zB <;> intro hb <;> (try simp [-zd] at hb) <;> try (exfalso; omega))))
 ·((conv => whnf); refine ⟨i + 1, by omega, ⟨qa, qa⟩, ⟨qa, qa⟩, ?_⟩; (first | omega | (dsimp only; omega) | skip))
 obtain rfl : i = m.procs.length := by omega
 clear hi hb
 refine qca 2 1 3 1 rfl rfl ?_
 ((conv => whnf); refine qhf (fun _ => rfl) 300 2 [1, 2, 3] [0, 1, 3] (fun i : Nat => [(5, iv i)]) (fun i => [(2, .box 34 [.own 3 0 0 m.procs.length, .own 4 0 0 i, .nils, iv (-1)]), (4, .row [] 3 1 0 i (fun i => [iv (m.vars.getD i vr0).value]))]) (fun i => i ≤ m.vars.length) (fun i => m.vars.length - i) (0) (by omega) qa qa (fun _ => rfl) (by kernel_rfl) ?_; (conv => whnf))
 intro i hi
 (repeat' ((conv => whnf); first | refine Ob.auto ?_ | (refine zN 300 ?_) | (apply zB <;> intro hb <;> (try simp [-zd] at hb) <;> try (exfalso; omega))))
 ·((conv => whnf); refine ⟨i + 1, by omega, ⟨qa, qa⟩, ⟨qa, qa⟩, ?_⟩; (first | omega | (dsimp only; omega) | skip))
 obtain rfl : i = m.vars.length := by omega
 clear hi hb
 refine qca 2 2 23 1 rfl rfl ?_
 ((conv => whnf); refine qhf (fun _ => rfl) 300 3 [1, 2, 3] [0, 1, 3, 4] (fun i : Nat => [(6, iv i)]) (fun i => [(2, .box 34 [.own 3 0 0 m.procs.length, .own 4 0 0 m.vars.length, .own 5 0 0 i, iv (-1)]), (5, .row [] 23 1 0 i (fun i => [.nils]))]) (fun i => i ≤ m.chans.length) (fun i => m.chans.length - i) (0) (by omega) qa qa (fun _ => rfl) (by kernel_rfl) ?_; (conv => whnf))
 intro i hi
 (repeat' ((conv => whnf); first | refine Ob.auto ?_ | (apply zB <;> intro hb <;> (try simp [-zd] at hb) <;> try (exfalso; omega))))
 ·((conv => whnf); refine ⟨i + 1, by omega, ⟨qa, qa⟩, ⟨qa, qa⟩, ?_⟩; (first | omega | (dsimp only; omega) | skip))
 obtain rfl : i = m.chans.length := by omega
 (conv => whnf)
 refine Le.agg ⟨Le.slc (by simp [qdh]) (fun j hj => ?_), Le.slc (by simp [qdh]) (fun j hj => ?_), Le.slcL (by simp [qdh]) (fun j hj => ?_), Le.refl _, trivial⟩
 ·show [iv 0] = [iv ((qdh m).at_.getD j 0)]
  rw [qdh, qyh _ _ _ _ hj]
 ·show [iv (m.vars.getD j vr0).value] = [iv ((qdh m).vars.getD j 0)]
  rw [qdh, jjg _ _ _ _ vr0 hj]
 ·show LeL [.nils] [ints ((qdh m).chans.getD j [])]
  rw [qdh, qyh _ _ _ _ hj]
  exact ⟨Le.nils _ _, trivial⟩
end Go.Proofs.Ytdoaagphhjggbaa
end
section
namespace Go.St
open Go Go.Sx
structure Mv where
 kind : Int := 0
 proc : Int := 0
 edge : Int := 0
 chn : Int := 0
deriving DecidableEq
def Mv.cells (v : Mv) : List AV := [iv v.kind, iv v.proc, iv v.edge, iv v.chn]
def Mv.av (v : Mv) : AV := .agg v.cells
def jng (l : List Mv) : AV := slcL Mv.cells {} 4 l
def qlen (s : Stt) (c : Int) : Int := (s.chans.getD c.toNat []).length
def room (m : Md) (c : Int) : Int := (m.chans.getD c.toNat ch0).room
def canB (m : Md) (s : Stt) (p : Nat) (e : Ed) : Bool :=
  (s.at_.getD p 0 == e.frm) && (decide (e.expr < 0) || (val m p s e.expr).2) &&
  (if e.act = 2 then decide (qlen s e.chn < room m e.chn)
   else if e.act = 3 then decide (0 < qlen s e.chn)
   else if e.act = 4 then !((if e.expr < 0 then 0 else (val m p s e.expr).1) == 0)
   else if e.act = 5 then (if e.expr < 0 then 0 else (val m p s e.expr).1) == 0
   else true)
def qp (m : Md) (p : Nat) : List Ed := (m.procs.getD p pr0).edges
def qkq (m : Md) (s : Stt) (p : Nat) : List Mv := ((List.range (qp m p).length).filter fun i => canB m s p ((qp m p).getD i ed0)).map fun (i : Nat) => ⟨0, p, i, 0⟩
def qpr (m : Md) (s : Stt) (c : Nat) : Bool := (m.chans.getD c ch0).lossy && decide (0 < qlen s c)
def qps (m : Md) (s : Stt) (c : Nat) : Bool := (m.chans.getD c ch0).copying && decide (0 < qlen s c) && decide (qlen s c < room m c)
def qgu (m : Md) (s : Stt) (c : Nat) : List Mv := (if qpr m s c = true then [⟨1, 0, 0, c⟩] else []) ++ (if qps m s c = true then [⟨2, 0, 0, c⟩] else [])
def qhv (m : Md) (s : Stt) : List Mv :=
 (List.range m.procs.length).flatMap (fun (p : Nat) => if s.holder ≠ -1 ∧ s.holder ≠ p then [] else qkq m s p) ++
 (if s.holder = -1 then (List.range m.chans.length).flatMap (qgu m s) else [])
def quc (m : Md) (s : Stt) (p : Nat) : Bool := (qp m p).any (canB m s p)
def qab (m : Md) (s : Stt) (p : Nat) (e : Ed) : Stt :=
 let n := if e.expr < 0 then 0 else (val m p s e.expr).1
 let a := { s with at_ := s.at_.set p e.to, holder := -1 }
 if e.act = 1 then { a with vars := s.vars.set e.var.toNat (trim n (m.vars.getD e.var.toNat vr0).width) }
 else if e.act = 2 then { a with chans := s.chans.set e.chn.toNat (s.chans.getD e.chn.toNat [] ++ [trim n (m.chans.getD e.chn.toNat ch0).width]) }
 else if e.act = 3 then { a with vars := s.vars.set e.var.toNat (trim ((s.chans.getD e.chn.toNat []).getD 0 0) (m.vars.getD e.var.toNat vr0).width), chans := s.chans.set e.chn.toNat ((s.chans.getD e.chn.toNat []).drop 1) }
 else a
def qez (m : Md) (s : Stt) (p : Nat) (e : Ed) : Stt :=
 { qab m s p e with holder := if e.keep = true ∧ quc m (qab m s p e) p = true then (p : Int) else -1 }
def qdv (m : Md) (s : Stt) (v : Mv) : Stt :=
 if v.kind = 1 then { s with chans := s.chans.set v.chn.toNat ((s.chans.getD v.chn.toNat []).drop 1), holder := -1 }
 else if v.kind = 2 then { s with chans := s.chans.set v.chn.toNat (s.chans.getD v.chn.toNat [] ++ [(s.chans.getD v.chn.toNat []).getD 0 0]), holder := -1 }
 else qez m s v.proc.toNat ((qp m v.proc.toNat).getD v.edge.toNat ed0)
def qud (m : Md) (s : Stt) : Bool := (List.range m.procs.length).all fun p => (m.procs.getD p pr0).rest.getD (s.at_.getD p 0).toNat false
def qpt (m : Md) (s : Stt) : Bool := (qhv m s).isEmpty && !qud m s
def badB (m : Md) (s : Stt) : Bool := !qlx m s || m.dead && qpt m s
end Go.St
end
section
namespace Go.Proofs.Ytdoaagphhjggbaa
open Go Go.Sx Go.RowKit Go.St
set_option maxRecDepth 100000
set_option maxHeartbeats 2000000

end Go.Proofs.Ytdoaagphhjggbaa
end
section
namespace Go.Proofs.Ytdoaagphhjggbaa
open List renaming getD_eq_getElem?_getD → zd
open Go Go.Sx Go.RowKit Go.St
set_option maxRecDepth 100000
set_option maxHeartbeats 2000000
theorem jnh (x : Int) (c : Ch) : Con Try.prog 43 [iv x, .rptr c.cells] (.bool (!(trim x c.width == x))) := by
 refine zK {} 300 Try.func43 (fun c0 rdb => ?_)
 (repeat' ((conv => whnf); first | refine Ob.auto ?_ | refine zC 300 (jak _ _) ?_ | fail))
 exact Le.refl _
theorem jni (l : List Int) (c : Ch) (hl : l.length ≤ 1000000) : Con Try.prog 78 [ints l, .fn 43 [.rptr c.cells]] (iv (idx (fun x => !(trim x c.width == x)) l)) := by
 refine zK {} 300 Try.func78 (fun c0 rdb => ?_)
 ((conv => whnf); refine qx (fun _ => rfl) 300 1 (fun i : Nat => [(8, iv i)]) (fun _ => []) (fun i => i ≤ l.length ∧ ∀ j, j < i → (!(trim (l.getD j 0) c.width == l.getD j 0)) = false) (fun i => l.length - i) (0) (⟨by omega, fun j hj => absurd hj (Nat.not_lt_zero j)⟩) qa qa (fun _ => rfl) (by kernel_rfl) ?_; (conv => whnf))
 intro i hi
 (repeat' ((conv => whnf); first | refine Ob.auto ?_ | refine zC 300 (jnh _ c) ?_ | (apply zB <;> intro hb <;> (try simp [-zd] at hb) <;> try (exfalso; omega))))
 ·refine Le.of_eq (congrArg (AV.int _) ?_)
  exact (qgh _ l 0 i (by omega) (by simp [-zd, hb]) hi.2).symm
 ·((conv => whnf); refine ⟨i + 1, ⟨by omega, qbo hi.2 (by simp [-zd, hb])⟩, ⟨qa, qa⟩, ⟨qa, qa⟩, ?_⟩; (first | omega | (dsimp only; omega) | skip))
 ·refine Le.of_eq (congrArg (AV.int _) ?_)
  exact (qgi _ l 0 (fun j hj => hi.2 j (by omega))).symm
theorem jnj {α : Type} (q : α → Bool) (l : List α) : decide (0 ≤ Go.St.idx q l) = l.any q := by
 unfold Go.St.idx
 cases h : l.findIdx? q with
 | none =>
  rw [List.findIdx?_eq_none_iff] at h
  have : l.any q = false := by rw [Bool.eq_false_iff]; intro h'; rw [List.any_eq_true] at h'; obtain ⟨x, hx, hq⟩ := h'; rw [h x hx] at hq; cases hq
  rw [this]; rfl
 | some i =>
  rw [List.findIdx?_eq_some_iff_getElem] at h
  obtain ⟨h1, h2, _⟩ := h
  have : l.any q = true := by rw [List.any_eq_true]; exact ⟨_, List.getElem_mem h1, h2⟩
  rw [this]; exact decide_eq_true (by simp)
theorem jnk (l : List Int) (c : Ch) (hl : l.length ≤ 1000000) : Con Try.prog 44 [ints l, .fn 43 [.rptr c.cells]] (.bool (l.any fun x => !(trim x c.width == x))) := by
 refine zK {} 300 Try.func44 (fun c0 rdb => ?_)
 (repeat' ((conv => whnf); first | refine Ob.auto ?_ | refine zC 300 (jni l c hl) ?_ | fail))
 refine Le.of_eq (congrArg AV.bool ?_)
 exact jnj _ l
theorem qcz (m : Md) (s : Stt) (hs : SSz s) : Con Try.prog 20 [m.av, s.av] (.bool (qq m s)) := by
 have ha := hs.a
 have hv := hs.v
 have hc := hs.c
 refine zK {} 600 Try.func20 (fun c0 rdb => ?_)
 (repeat' ((conv => whnf); first | refine Ob.auto ?_ | (apply zB <;> intro hb <;> (try simp [-zd] at hb) <;> try (exfalso; omega))))
 ·refine Le.of_eq (congrArg AV.bool ?_)
  exact (qyg (by unfold qoy; omega)).symm
 have h0 : s.at_.length = m.procs.length ∧ s.vars.length = m.vars.length ∧ s.chans.length = m.chans.length := by omega
 clear hb
 ((conv => whnf); refine qx (fun _ => rfl) 600 1 (fun i : Nat => [(41, iv i)]) (fun _ => []) (fun i => i ≤ s.at_.length ∧ ∀ j, j < i → qlz m s j) (fun i => s.at_.length - i) (0) (⟨by omega, fun j hj => absurd hj (Nat.not_lt_zero j)⟩) qa qa (fun _ => rfl) (by kernel_rfl) ?_; (conv => whnf))
 intro i hi
 (repeat' ((conv => whnf); first | refine Ob.auto ?_ | (apply zB <;> intro hb <;> (try simp [-zd] at hb) <;> try (exfalso; omega))))
 ·refine Le.of_eq (congrArg AV.bool ?_)
  exact (jjc i (by omega) (by omega)).symm
 ·((conv => whnf); refine ⟨i + 1, ⟨by omega, qbo hi.2 hb⟩, ⟨qa, qa⟩, ⟨qa, qa⟩, ?_⟩; (first | omega | (dsimp only; omega) | skip))
 obtain rfl : i = s.at_.length := by omega
 have hA := hi.2
 clear hi hb
 ((conv => whnf); refine qx (fun _ => rfl) 600 2 (fun i : Nat => [(62, iv i)]) (fun _ => []) (fun i => i ≤ s.vars.length ∧ ∀ j, j < i → qma m s j) (fun i => s.vars.length - i) (0) (⟨by omega, fun j hj => absurd hj (Nat.not_lt_zero j)⟩) qa qa (fun _ => rfl) (by kernel_rfl) ?_; (conv => whnf))
 intro i hi
 (repeat' ((conv => whnf); first | refine Ob.auto ?_ | refine zC 600 (jak _ _) ?_ | (apply zB <;> intro hb <;> (try simp [-zd] at hb) <;> try (exfalso; omega))))
 ·refine Le.of_eq (congrArg AV.bool ?_)
  exact (jjd i (by omega) hb).symm
 ·((conv => whnf); refine ⟨i + 1, ⟨by omega, qbo hi.2 hb⟩, ⟨qa, qa⟩, ⟨qa, qa⟩, ?_⟩; (first | omega | (dsimp only; omega) | skip))
 obtain rfl : i = s.vars.length := by omega
 have hV := hi.2
 clear hi hb
 ((conv => whnf); refine qx (fun _ => rfl) 600 3 (fun i : Nat => [(80, iv i)]) (fun _ => []) (fun i => i ≤ s.chans.length ∧ ∀ j, j < i → qir m s j ∧ ∀ k, k < (s.chans.getD j []).length → qkg m s j k) (fun i => s.chans.length - i) (0) (⟨by omega, fun j hj => absurd hj (Nat.not_lt_zero j)⟩) qa qa (fun _ => rfl) (by kernel_rfl) ?_; (conv => whnf))
 intro i hi
 have hlc : i < s.chans.length → _ := fun h => hs.l _ (qo s.chans i [] h)
 (repeat' ((conv => whnf); first | refine Ob.auto ?_ | refine zF 600 (fun hg => jnk (s.chans.getD i []) (m.chans.getD i ch0) (hlc (by omega))) ?_ | (apply zB <;> intro hb <;> (try simp [-zd] at hb) <;> try (exfalso; omega))))
 ·refine Le.of_eq (congrArg AV.bool ?_)
  rcases hb with hb | ⟨x, hx, hb⟩
  ·exact (jje i (by omega) (by unfold qir; omega)).symm
  ·obtain ⟨k, hk, hx⟩ := List.mem_iff_getElem.1 hx
   refine (jjf i k (by omega) hk ?_).symm
   have : (s.chans.getD i []).getD k 0 = x := by rw [zd, List.getElem?_eq_getElem hk]; exact hx
   unfold qkg
   rw [this]; exact hb
 ·((conv => whnf); refine ⟨i + 1, ⟨by omega, qbo hi.2 ⟨by unfold qir; omega, fun k hk => hb.2 _ (qo _ k 0 hk)⟩⟩, ⟨qa, qa⟩, ⟨qa, qa⟩, ?_⟩; (first | omega | (dsimp only; omega) | skip))
 ·refine Le.of_eq (congrArg AV.bool ?_)
  by_cases hh : -1 ≤ s.holder ∧ s.holder < m.procs.length
  ·rw [(qaf m s).2 ⟨⟨h0.1, h0.2.1, h0.2.2, hh⟩, hA, hV, fun j hj => hi.2 j (by omega)⟩]
   simp [hh]
  ·rw [qyg (m := m) (s := s) (by unfold qoy; omega)]
   simp; omega
end Go.Proofs.Ytdoaagphhjggbaa
end
section
namespace Go.Proofs.Ytdoaagphhjggbaa
open Go Go.Sx Go.RowKit Go.St
set_option maxRecDepth 100000
set_option maxHeartbeats 2000000

end Go.Proofs.Ytdoaagphhjggbaa
end
