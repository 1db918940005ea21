/- Contracts: automata by the document's answer: statements, kind by kind: more. -/
import Derived.Test.YtdoaagphhjggbaaQ29
import Derived.Test.YtdoaagphhjggbaaQ2
namespace Go.Proofs.Ytdoaagphhjggbaa
open Go Go.Sx Go.RowKit Go.St
set_option maxRecDepth 100000
set_option maxHeartbeats 8000000

section
variable (m : Md) (nv : Nat) (fv : Nat → List AV) (np : Nat) (fp : Nat → List AV) (p : Pr) (a frm to : Int) (h0 : 0 ≤ a) (h1 : a < m.tree.length)

include h0 h1 in
theorem stat8_trip (hk : (m.tree.getD a.toNat Nd.none).kind = 8) (hn1 : (m.tree.getD a.toNat Nd.none).nums.length = 1) (hw2 : (m.tree.getD a.toNat Nd.none).words.length = 2) (hE : p.edges.length ≤ 50000) (hC : m.chans.length ≤ 1000000) (hn : p.names.length = p.vars.length ∧ p.names.length ≤ 100000)
    (hf : 0 ≤ findF p.names ((m.tree.getD a.toNat Nd.none).words.getD 1 []) ∧ findF p.names ((m.tree.getD a.toNat Nd.none).words.getD 1 []) < p.names.length) (hF : 0 ≤ frm ∧ frm < p.rest.length) (hR : p.rest.length ≤ 100000) :
    StatO m nv fv np fp p a frm to (putF (restF p frm ((m.tree.getD a.toNat Nd.none).nums.getD 0 0)) frm to 3 a (-1) (p.vars.getD (findF p.names ((m.tree.getD a.toNat Nd.none).words.getD 1 [])).toNat 0) (channelF m.chans ((m.tree.getD a.toNat Nd.none).words.getD 0 []))) := by
  have hE2 : (restF p frm ((m.tree.getD a.toNat Nd.none).nums.getD 0 0)).edges.length ≤ 100000 := by show p.edges.length ≤ 100000; omega
  have e1 : (restF p frm ((m.tree.getD a.toNat Nd.none).nums.getD 0 0)).vars.length = p.vars.length := rfl
  refine trip_of_exec_own (T := tab Try.prog) (C := {}) 5 1500 (fun _ => rfl) Try.func76 rfl (by kernel_rfl) (by kernel_rfl) (fun c0 rdb mpb => ?_)
  (repeat' ((conv => whnf); first | refine zA ?_ | refine zO ?_ | refine Ob.auto ?_ | (refine Ob.intro (by (exact ⟨by omega, by omega⟩)) ?_) | refine zC 1500 (find_con p.names (by omega) ((m.tree.getD a.toNat Nd.none).words.getD 1 [])) ?_ | refine zG 1500 (fun hg => find_con p.names (by omega) ((m.tree.getD a.toNat Nd.none).words.getD 1 [])) ?_ | (refine CallY.con (find_con p.names (by omega) ((m.tree.getD a.toNat Nd.none).words.getD 1 [])) (by rfl) leA ?_) | (refine CallZ.con (fun hg => find_con p.names (by omega) ((m.tree.getD a.toNat Nd.none).words.getD 1 [])) rflsA (by rfl) ?_) | refine zC 1500 (rest_con p frm ((m.tree.getD a.toNat Nd.none).nums.getD 0 0) hF hR) ?_ | refine zG 1500 (fun hg => rest_con p frm ((m.tree.getD a.toNat Nd.none).nums.getD 0 0) hF hR) ?_ | (refine CallY.con (rest_con p frm ((m.tree.getD a.toNat Nd.none).nums.getD 0 0) hF hR) (by rfl) leA ?_) | (refine CallZ.con (fun hg => rest_con p frm ((m.tree.getD a.toNat Nd.none).nums.getD 0 0) hF hR) rflsA (by rfl) ?_) | (refine call_lend (fun _ => rfl) 1500 (find_con p.names (by omega) ((m.tree.getD a.toNat Nd.none).words.getD 1 [])) holdA (by repeat' (first | exact trivial | exact Le.refl _ | (refine And.intro ?_ ?_))) (by rfl) (by kernel_rfl) ?_) | (refine gcall_lend (fun _ => rfl) 1500 (fun hg => find_con p.names (by omega) ((m.tree.getD a.toNat Nd.none).words.getD 1 [])) (fun hg => holdA) (fun hg => (by repeat' (first | exact trivial | exact Le.refl _ | exact Le.cnd hg | (refine And.intro ?_ ?_)))) (by rfl) (by kernel_rfl) ?_) | (refine call_lend (fun _ => rfl) 1500 (rest_con p frm ((m.tree.getD a.toNat Nd.none).nums.getD 0 0) hF hR) holdA (by repeat' (first | exact trivial | exact Le.refl _ | (refine And.intro ?_ ?_))) (by rfl) (by kernel_rfl) ?_) | (refine gcall_lend (fun _ => rfl) 1500 (fun hg => rest_con p frm ((m.tree.getD a.toNat Nd.none).nums.getD 0 0) hF hR) (fun hg => holdA) (fun hg => (by repeat' (first | exact trivial | exact Le.refl _ | exact Le.cnd hg | (refine And.intro ?_ ?_)))) (by rfl) (by kernel_rfl) ?_) | refine zD 1500 ?_ | (refine draw4 (fun _ => rfl) (by kernel_rfl) 1500 ?_) | (refine Br.intro (fun hb => ?_) (fun hb => ?_) <;> (try simp [-List.getD_eq_getElem?_getD] at hb) <;> (try (exfalso; omega))) | refine Ob.intro ?_ ?_))
  ((conv => whnf); refine CallY.lend (channel_con m nv fv np fp hC ((m.tree.getD a.toNat Nd.none).words.getD 0 [])) (by repeat' (first | exact trivial | exact ⟨rfl, rfl⟩ | exact rfl | (refine And.intro ?_ ?_) | (intro _))) leA (by rfl) ?_)
  (repeat' ((conv => whnf); first | refine Ob.auto ?_ | (refine draw_nc (fun _ => rfl) (by kernel_rfl) 1500 (by rfl) (by kernel_rfl) ?_) | (refine Br.intro (fun hb => ?_) (fun hb => ?_) <;> (try simp [-List.getD_eq_getElem?_getD] at hb) <;> (try (exfalso; omega))) | refine Ob.intro ?_ ?_))
  ((conv => whnf); refine CallY.trip [] (put_trip (restF p frm ((m.tree.getD a.toNat Nd.none).nums.getD 0 0)) hE2 frm to 3 a (-1) (p.vars.getD (findF p.names ((m.tree.getD a.toNat Nd.none).words.getD 1 [])).toNat 0) (channelF m.chans ((m.tree.getD a.toNat Nd.none).words.getD 0 []))) (by kernel_rfl) leA subtA (by exact rowsLt_nil rfl) (by exact rowsLt_nil rfl) ?_)
  (repeat' ((conv => whnf); first | refine Ob.auto ?_ | (refine draw_nc (fun _ => rfl) (by kernel_rfl) 1500 (by rfl) (by kernel_rfl) ?_) | (refine Br.intro (fun hb => ?_) (fun hb => ?_) <;> (try simp [-List.getD_eq_getElem?_getD] at hb) <;> (try (exfalso; omega))) | refine Ob.intro ?_ ?_))
  ((conv => whnf); refine AltG.same 21 (by kernel_rfl) (by repeat' (first | exact trivial | exact fun h => Bool.noConfusion h | exact fun _ => ⟨rfl, rfl⟩ | (refine And.intro ?_ ?_))) (EndG.go ?_))
  (repeat' ((conv => whnf); first | refine zA ?_ | refine zO ?_ | refine Ob.auto ?_ | refine zD 1500 ?_ | (refine draw4 (fun _ => rfl) (by kernel_rfl) 1500 ?_) | (refine Br.intro (fun hb => ?_) (fun hb => ?_) <;> (try simp [-List.getD_eq_getElem?_getD] at hb) <;> (try (exfalso; omega))) | refine Ob.intro ?_ ?_))
  (refine ⟨⟨Le.refl _, subtA⟩, rowIs_mk rfl (SoLe.refl _)⟩)

include h0 h1 in
theorem stat9_trip (hk : (m.tree.getD a.toNat Nd.none).kind = 9) (hk1 : (m.tree.getD a.toNat Nd.none).kids.length = 1) (hn1 : (m.tree.getD a.toNat Nd.none).nums.length = 1) (hE : p.edges.length ≤ 50000) (hF : 0 ≤ frm ∧ frm < p.rest.length) (hR : p.rest.length ≤ 100000) :
    StatO m nv fv np fp p a frm to (putF (restF p frm ((m.tree.getD a.toNat Nd.none).nums.getD 0 0)) frm to 4 a ((m.tree.getD a.toNat Nd.none).kids.getD 0 0) (-1) (-1)) := by
  have hE2 : (restF p frm ((m.tree.getD a.toNat Nd.none).nums.getD 0 0)).edges.length ≤ 100000 := by show p.edges.length ≤ 100000; omega
  refine trip_of_exec_own (T := tab Try.prog) (C := {}) 5 1500 (fun _ => rfl) Try.func76 rfl (by kernel_rfl) (by kernel_rfl) (fun c0 rdb mpb => ?_)
  (repeat' ((conv => whnf); first | refine zA ?_ | refine zO ?_ | refine Ob.auto ?_ | (refine Ob.intro (by (exact ⟨by omega, by omega⟩)) ?_) | refine zC 1500 (rest_con p frm ((m.tree.getD a.toNat Nd.none).nums.getD 0 0) hF hR) ?_ | refine zG 1500 (fun hg => rest_con p frm ((m.tree.getD a.toNat Nd.none).nums.getD 0 0) hF hR) ?_ | (refine CallY.con (rest_con p frm ((m.tree.getD a.toNat Nd.none).nums.getD 0 0) hF hR) (by rfl) leA ?_) | (refine CallZ.con (fun hg => rest_con p frm ((m.tree.getD a.toNat Nd.none).nums.getD 0 0) hF hR) rflsA (by rfl) ?_) | (refine call_lend (fun _ => rfl) 1500 (rest_con p frm ((m.tree.getD a.toNat Nd.none).nums.getD 0 0) hF hR) holdA (by repeat' (first | exact trivial | exact Le.refl _ | (refine And.intro ?_ ?_))) (by rfl) (by kernel_rfl) ?_) | (refine gcall_lend (fun _ => rfl) 1500 (fun hg => rest_con p frm ((m.tree.getD a.toNat Nd.none).nums.getD 0 0) hF hR) (fun hg => holdA) (fun hg => (by repeat' (first | exact trivial | exact Le.refl _ | exact Le.cnd hg | (refine And.intro ?_ ?_)))) (by rfl) (by kernel_rfl) ?_) | refine zD 1500 ?_ | (refine draw4 (fun _ => rfl) (by kernel_rfl) 1500 ?_) | (refine Br.intro (fun hb => ?_) (fun hb => ?_) <;> (try simp [-List.getD_eq_getElem?_getD] at hb) <;> (try (exfalso; omega))) | refine Ob.intro ?_ ?_))
  ((conv => whnf); refine CallY.trip [] (put_trip (restF p frm ((m.tree.getD a.toNat Nd.none).nums.getD 0 0)) hE2 frm to 4 a ((m.tree.getD a.toNat Nd.none).kids.getD 0 0) (-1) (-1)) (by kernel_rfl) leA subtA (by exact rowsLt_nil rfl) (by exact rowsLt_nil rfl) ?_)
  (repeat' ((conv => whnf); first | refine zA ?_ | refine zO ?_ | refine Ob.auto ?_ | refine zD 1500 ?_ | (refine draw4 (fun _ => rfl) (by kernel_rfl) 1500 ?_) | (refine Br.intro (fun hb => ?_) (fun hb => ?_) <;> (try simp [-List.getD_eq_getElem?_getD] at hb) <;> (try (exfalso; omega))) | refine Ob.intro ?_ ?_))
  (refine ⟨⟨Le.refl _, subtA⟩, rowIs_mk rfl (SoLe.refl _)⟩)

include h0 h1 in
theorem stat15_trip (hk : (m.tree.getD a.toNat Nd.none).kind = 15) (hE : p.edges.length ≤ 50000) : StatO m nv fv np fp p a frm to (putF p frm 1 0 a (-1) (-1) (-1)) := by
  refine trip_of_exec_own (T := tab Try.prog) (C := {}) 5 1500 (fun _ => rfl) Try.func76 rfl (by kernel_rfl) (by kernel_rfl) (fun c0 rdb mpb => ?_)
  (repeat' ((conv => whnf); first | refine zA ?_ | refine zO ?_ | refine Ob.auto ?_ | (refine Ob.intro (by (exact ⟨by omega, by omega⟩)) ?_) | refine zD 1500 ?_ | (refine draw4 (fun _ => rfl) (by kernel_rfl) 1500 ?_) | (refine Br.intro (fun hb => ?_) (fun hb => ?_) <;> (try simp [-List.getD_eq_getElem?_getD] at hb) <;> (try (exfalso; omega))) | refine Ob.intro ?_ ?_))
  (first | ((conv => whnf); refine zT 1500 [] (put_trip p (by omega) frm 1 0 a (-1) (-1) (-1)) subtA ?_) | ((conv => whnf); refine CallY.trip [] (put_trip p (by omega) frm 1 0 a (-1) (-1) (-1)) (by kernel_rfl) leA subtA (by exact rowsLt_nil rfl) (by exact rowsLt_nil rfl) ?_))
  (repeat' ((conv => whnf); first | refine zA ?_ | refine zO ?_ | refine Ob.auto ?_ | refine zD 1500 ?_ | (refine draw4 (fun _ => rfl) (by kernel_rfl) 1500 ?_) | (refine Br.intro (fun hb => ?_) (fun hb => ?_) <;> (try simp [-List.getD_eq_getElem?_getD] at hb) <;> (try (exfalso; omega))) | refine Ob.intro ?_ ?_))
  (refine ⟨⟨Le.refl _, subtA⟩, rowIs_mk rfl (SoLe.refl _)⟩)

include h0 h1 in
theorem stat14_trip (hk : (m.tree.getD a.toNat Nd.none).kind = 14) (hE : p.edges.length ≤ 50000) : StatO m nv fv np fp p a frm to (putF p frm to 0 a (-1) (-1) (-1)) := by
  refine trip_of_exec_own (T := tab Try.prog) (C := {}) 5 1500 (fun _ => rfl) Try.func76 rfl (by kernel_rfl) (by kernel_rfl) (fun c0 rdb mpb => ?_)
  (repeat' ((conv => whnf); first | refine zA ?_ | refine zO ?_ | refine Ob.auto ?_ | (refine Ob.intro (by (exact ⟨by omega, by omega⟩)) ?_) | refine zD 1500 ?_ | (refine draw4 (fun _ => rfl) (by kernel_rfl) 1500 ?_) | (refine Br.intro (fun hb => ?_) (fun hb => ?_) <;> (try simp [-List.getD_eq_getElem?_getD] at hb) <;> (try (exfalso; omega))) | refine Ob.intro ?_ ?_))
  (first | ((conv => whnf); refine zT 1500 [] (put_trip p (by omega) frm to 0 a (-1) (-1) (-1)) subtA ?_) | ((conv => whnf); refine CallY.trip [] (put_trip p (by omega) frm to 0 a (-1) (-1) (-1)) (by kernel_rfl) leA subtA (by exact rowsLt_nil rfl) (by exact rowsLt_nil rfl) ?_))
  (repeat' ((conv => whnf); first | refine zA ?_ | refine zO ?_ | refine Ob.auto ?_ | refine zD 1500 ?_ | (refine draw4 (fun _ => rfl) (by kernel_rfl) 1500 ?_) | (refine Br.intro (fun hb => ?_) (fun hb => ?_) <;> (try simp [-List.getD_eq_getElem?_getD] at hb) <;> (try (exfalso; omega))) | refine Ob.intro ?_ ?_))
  (refine ⟨⟨Le.refl _, subtA⟩, rowIs_mk rfl (SoLe.refl _)⟩)

end

end Go.Proofs.Ytdoaagphhjggbaa
