/- Contracts: automata by the document's answer: statements, kind by kind. -/
import Derived.Test.YtdoaagphhjggbaaQMk4
namespace Go.Proofs.Ytdoaagphhjggbaa
open Go Go.Sx Go.RowKit Go.St
set_option maxRecDepth 100000
set_option maxHeartbeats 8000000

section
variable (m : Md) (nv : Nat) (fv : Nat → List AV) (np : Nat) (fp : Nat → List AV) (p : Pr) (a frm to : Int) (h0 : 0 ≤ a) (h1 : a < m.tree.length)

/-- The statement at a node, as it is called. -/
abbrev StatO (m : Md) (nv : Nat) (fv : Nat → List AV) (np : Nat) (fp : Nat → List AV) (p : Pr) (a frm to : Int) (q : Pr) : Prop := OTrip 76 [mdO m nv np, prV p, iv a, iv frm, iv to] [vrSO nv fv, pcSO np fp] q
abbrev BlockO (m : Md) (nv : Nat) (fv : Nat → List AV) (np : Nat) (fp : Nat → List AV) (p : Pr) (a frm to : Int) (q : Pr) : Prop := OTrip 105 [mdO m nv np, prV p, iv a, iv frm, iv to] [vrSO nv fv, pcSO np fp] q

include h0 h1 in
theorem stat6_trip (hk : (m.tree.getD a.toNat Nd.none).kind = 6) (hk1 : (m.tree.getD a.toNat Nd.none).kids.length = 1) (hw1 : (m.tree.getD a.toNat Nd.none).words.length = 1) (hE : p.edges.length ≤ 50000) (hn : p.names.length = p.vars.length ∧ p.names.length ≤ 100000)
    (hf : 0 ≤ findF p.names ((m.tree.getD a.toNat Nd.none).words.getD 0 []) ∧ findF p.names ((m.tree.getD a.toNat Nd.none).words.getD 0 []) < p.names.length) :
    StatO m nv fv np fp p a frm to (putF p frm to 1 a ((m.tree.getD a.toNat Nd.none).kids.getD 0 0) (p.vars.getD (findF p.names ((m.tree.getD a.toNat Nd.none).words.getD 0 [])).toNat 0) (-1)) := by
  refine trip_of_exec_own (T := tab Try.prog) (C := {}) 5 1500 (fun _ => rfl) Try.func76 rfl (by kernel_rfl) (by kernel_rfl) (fun c0 rdb mpb => ?_)
  (repeat' ((conv => whnf); first | (refine AltG.none (by kernel_rfl) (EndG.go ?_)) | (refine Ob.intro (OrdG.intro (by kernel_rfl)) ?_) | (refine Ob.auto ?_) | (refine Ob.intro (by (exact ⟨by omega, by omega⟩)) ?_) | (refine call_eq (fun _ => rfl) 1500 (find_con p.names (by omega) ((m.tree.getD a.toNat Nd.none).words.getD 0 [])) (by rfl) (by kernel_rfl) ?_) | (refine gcall_eq (fun _ => rfl) 1500 (fun hg => find_con p.names (by omega) ((m.tree.getD a.toNat Nd.none).words.getD 0 [])) (by rfl) rflsA (by kernel_rfl) ?_) | (refine CallY.con (find_con p.names (by omega) ((m.tree.getD a.toNat Nd.none).words.getD 0 [])) (by rfl) leA ?_) | (refine CallZ.con (fun hg => find_con p.names (by omega) ((m.tree.getD a.toNat Nd.none).words.getD 0 [])) rflsA (by rfl) ?_) | (refine call_lend (fun _ => rfl) 1500 (find_con p.names (by omega) ((m.tree.getD a.toNat Nd.none).words.getD 0 [])) holdA (by repeat' (first | exact trivial | exact Le.refl _ | (refine And.intro ?_ ?_))) (by rfl) (by kernel_rfl) ?_) | (refine gcall_lend (fun _ => rfl) 1500 (fun hg => find_con p.names (by omega) ((m.tree.getD a.toNat Nd.none).words.getD 0 [])) (fun hg => holdA) (fun hg => (by repeat' (first | exact trivial | exact Le.refl _ | exact Le.cnd hg | (refine And.intro ?_ ?_)))) (by rfl) (by kernel_rfl) ?_) | (refine draw3n (fun _ => rfl) (by kernel_rfl) 1500 (by rfl) ?_) | (refine draw4 (fun _ => rfl) (by kernel_rfl) 1500 ?_) | (refine Br.intro (fun hb => ?_) (fun hb => ?_) <;> (try simp [-List.getD_eq_getElem?_getD] at hb) <;> (try (exfalso; omega))) | (refine Ob.intro ?_ ?_)))
  ((conv => whnf); refine CallY.trip [] (put_trip p (by omega) frm to 1 a ((m.tree.getD a.toNat Nd.none).kids.getD 0 0) (p.vars.getD (findF p.names ((m.tree.getD a.toNat Nd.none).words.getD 0 [])).toNat 0) (-1)) (by kernel_rfl) leA subtA (by exact rowsLt_nil rfl) (by exact rowsLt_nil rfl) ?_)
  (repeat' ((conv => whnf); first | (refine AltG.none (by kernel_rfl) (EndG.go ?_)) | (refine Ob.intro (OrdG.intro (by kernel_rfl)) ?_) | (refine Ob.auto ?_) | (refine draw3n (fun _ => rfl) (by kernel_rfl) 1500 (by rfl) ?_) | (refine draw4 (fun _ => rfl) (by kernel_rfl) 1500 ?_) | (refine Br.intro (fun hb => ?_) (fun hb => ?_) <;> (try simp [-List.getD_eq_getElem?_getD] at hb) <;> (try (exfalso; omega))) | (refine Ob.intro ?_ ?_)))
  (refine ⟨⟨Le.refl _, subtA⟩, rowIs_mk rfl (SoLe.refl _)⟩)

include h0 h1 in
theorem stat7_trip (hk : (m.tree.getD a.toNat Nd.none).kind = 7) (hk1 : (m.tree.getD a.toNat Nd.none).kids.length = 1) (hw1 : (m.tree.getD a.toNat Nd.none).words.length = 1) (hE : p.edges.length ≤ 50000) (hC : m.chans.length ≤ 1000000) :
    StatO m nv fv np fp p a frm to (putF p frm to 2 a ((m.tree.getD a.toNat Nd.none).kids.getD 0 0) (-1) (channelF m.chans ((m.tree.getD a.toNat Nd.none).words.getD 0 []))) := by
  refine trip_of_exec_own (T := tab Try.prog) (C := {}) 5 1500 (fun _ => rfl) Try.func76 rfl (by kernel_rfl) (by kernel_rfl) (fun c0 rdb mpb => ?_)
  (repeat' ((conv => whnf); first | (refine AltG.none (by kernel_rfl) (EndG.go ?_)) | (refine Ob.intro (OrdG.intro (by kernel_rfl)) ?_) | (refine Ob.auto ?_) | (refine Ob.intro (by (exact ⟨by omega, by omega⟩)) ?_) | (refine draw3n (fun _ => rfl) (by kernel_rfl) 1500 (by rfl) ?_) | (refine draw4 (fun _ => rfl) (by kernel_rfl) 1500 ?_) | (refine Br.intro (fun hb => ?_) (fun hb => ?_) <;> (try simp [-List.getD_eq_getElem?_getD] at hb) <;> (try (exfalso; omega))) | (refine Ob.intro ?_ ?_)))
  ((conv => whnf); refine CallY.lend (channel_con m nv fv np fp hC ((m.tree.getD a.toNat Nd.none).words.getD 0 [])) (by repeat' (first | exact trivial | exact ⟨rfl, rfl⟩ | exact rfl | (refine And.intro ?_ ?_) | (intro _))) leA (by rfl) ?_)
  (repeat' ((conv => whnf); first | (refine Ob.auto ?_) | (refine draw_nc (fun _ => rfl) (by kernel_rfl) 1500 (by rfl) (by kernel_rfl) ?_) | (refine Br.intro (fun hb => ?_) (fun hb => ?_) <;> (try simp [-List.getD_eq_getElem?_getD] at hb) <;> (try (exfalso; omega))) | (refine Ob.intro ?_ ?_)))
  ((conv => whnf); refine CallY.trip [] (put_trip p (by omega) frm to 2 a ((m.tree.getD a.toNat Nd.none).kids.getD 0 0) (-1) (channelF m.chans ((m.tree.getD a.toNat Nd.none).words.getD 0 []))) (by kernel_rfl) leA subtA (by exact rowsLt_nil rfl) (by exact rowsLt_nil rfl) ?_)
  (repeat' ((conv => whnf); first | (refine Ob.auto ?_) | (refine draw_nc (fun _ => rfl) (by kernel_rfl) 1500 (by rfl) (by kernel_rfl) ?_) | (refine Br.intro (fun hb => ?_) (fun hb => ?_) <;> (try simp [-List.getD_eq_getElem?_getD] at hb) <;> (try (exfalso; omega))) | (refine Ob.intro ?_ ?_)))
  ((conv => whnf); refine AltG.same 14 (by kernel_rfl) (by repeat' (first | exact trivial | exact fun h => Bool.noConfusion h | exact fun _ => ⟨rfl, rfl⟩ | (refine And.intro ?_ ?_))) (EndG.go ?_))
  (repeat' ((conv => whnf); first | (refine AltG.none (by kernel_rfl) (EndG.go ?_)) | (refine Ob.intro (OrdG.intro (by kernel_rfl)) ?_) | (refine Ob.auto ?_) | (refine draw3n (fun _ => rfl) (by kernel_rfl) 1500 (by rfl) ?_) | (refine draw4 (fun _ => rfl) (by kernel_rfl) 1500 ?_) | (refine Br.intro (fun hb => ?_) (fun hb => ?_) <;> (try simp [-List.getD_eq_getElem?_getD] at hb) <;> (try (exfalso; omega))) | (refine Ob.intro ?_ ?_)))
  (refine ⟨⟨Le.refl _, subtA⟩, rowIs_mk rfl (SoLe.refl _)⟩)

end

end Go.Proofs.Ytdoaagphhjggbaa
