/- Speakers as bitcasttalk makes them. -/
import Derived.Test.YtglfecmdoekabaaG21
import Derived.Test.YtglfecmdoekabaaU7
namespace Go.Proofs.Ytglfecmdoekabaa
open Go Go.Am
set_option linter.unusedVariables false
set_option linter.unusedSimpArgs false
def newO_a (router : Int) (epoch : Int) (peers : (List Int)) : Prop := okL [.int router, .int epoch, .sl 1 (peers.map AV.int) false]
def newO_n0 (router : Int) (epoch : Int) (peers : (List Int)) (t0 : Int × (List Per)) : NF := ⟨[(6, .k, .ref 0 0), (8, .k, .ref 1 0), (19, .k, .sl 1 (peers.map AV.int) false), (20, .k, .int ((peers.map AV.int).length : Int)), (21, .k, .int t0.1)], [.box (.agg [.int 0, .int 0, .int 0, .sl 0 [] true, .sl 0 [] true]), .box (.agg [.int router, .int epoch, .int 0, .sl 0 [] true, .vec 2]), .vec 3 (t0.2.map Per.v) (pureBL_map (fun _ => rfl) t0.2)]⟩
def newO_s : Nat → Type
  | 0 => Int × (List Per)
  | _ => Unit
def newO_e (r : Spk × Int) : AV := .tup [.agg [.int r.1.router, .int r.1.epoch, .int r.1.last, .sl 4 (r.1.items.map Itm.v) false, .vec 0], .int r.2]
def newO_b (r : Spk × Int) : List (Option Blk) := [some (.vec 3 (r.1.peers.map Per.v))]
def newO_vc (router : Int) (epoch : Int) (peers : (List Int)) (I0 : (Int × (List Per)) → Prop) (m0 : (Int × (List Per)) → Nat) (r0 : Spk × Int) : Prop :=
 br (decide (12 < ((peers.map AV.int).length : Int)))
 (Nf ⟨[(6, .k, .ref 1 0), (7, .k, .int 1)], [.vec 3 [] rfl, .box (.agg [.int 0, .int 0, .int 0, .sl 0 [] true, .vec 0])]⟩ [208, 0] (Rf (newO_e ((⟨0, 0, 0, [], []⟩ : Spk), 1)) (Rf (newO_b ((⟨0, 0, 0, [], []⟩ : Spk), 1)) (((⟨0, 0, 0, [], []⟩ : Spk), 1) = r0))))
 (Nf (newO_n0 router epoch peers (0, [])) [0, 80, 208] (I0 (0, [])) ∧ ∀ t0 : Int × (List Per), I0 t0 →
 br (decide (t0.1 < ((peers.map AV.int).length : Int)))
 (Rf (peers.map AV.int) (ck (decide (0 ≤ t0.1)) (ck (decide (t0.1 < (peers.length : Int)))
 (∀ x1, peers[t0.1.toNat]? = some x1 →
 Rf (α := List AV) (t0.2.map Per.v) (Rf (α := List AV) [.agg [.int x1, .int 0, .int 0]]
 (ck (decide (t0.2.length + 1 ≤ 1000000))
 (Nf (newO_n0 router epoch peers (W (t0.1 + 1), t0.2 ++ [(⟨x1, 0, 0⟩ : Per)])) [0, 1, 147] (I0 (W (t0.1 + 1), t0.2 ++ [(⟨x1, 0, 0⟩ : Per)]) ∧ m0 (W (t0.1 + 1), t0.2 ++ [(⟨x1, 0, 0⟩ : Per)]) < m0 t0))))))))
 (Cl (valR6_c (⟨router, epoch, 0, [], t0.2⟩ : Spk))
 (ck (pureBLs [(t0.2.map Per.v)])
 (br ((valS (⟨router, epoch, 0, [], t0.2⟩ : Spk)) != 0)
 (Nf ⟨[(6, .k, .ref 1 0), (7, .k, .int (valS (⟨router, epoch, 0, [], t0.2⟩ : Spk)))], [.vec 3 [] rfl, .box (.agg [.int 0, .int 0, .int 0, .sl 0 [] true, .vec 0])]⟩ [163, 0] (Rf (newO_e ((⟨0, 0, 0, [], []⟩ : Spk), valS (⟨router, epoch, 0, [], t0.2⟩ : Spk))) (Rf (newO_b ((⟨0, 0, 0, [], []⟩ : Spk), valS (⟨router, epoch, 0, [], t0.2⟩ : Spk))) (((⟨0, 0, 0, [], []⟩ : Spk), valS (⟨router, epoch, 0, [], t0.2⟩ : Spk)) = r0))))
 (Nf ⟨[(6, .k, .ref 1 0), (7, .k, .int 0)], [.vec 3 (t0.2.map Per.v) (pureBL_map (fun _ => rfl) t0.2), .box (.agg [.int router, .int epoch, .int 0, .sl 0 [] true, .vec 0])]⟩ [2, 0] (Rf (newO_e ((⟨router, epoch, 0, [], t0.2⟩ : Spk), 0)) (Rf (newO_b ((⟨router, epoch, 0, [], t0.2⟩ : Spk), 0)) (((⟨router, epoch, 0, [], t0.2⟩ : Spk), 0) = r0))))))))
theorem newO_eq (router : Int) (epoch : Int) (peers : (List Int)) (I0 : (Int × (List Per)) → Prop) (m0 : (Int × (List Per)) → Nat) (r0 : Spk × Int) : mxH Try.prog 16 [.int router, .int epoch, .sl 1 (peers.map AV.int) false] [] (.a [(.a [.k, .k, .k, (.s 4), .k]), .k]) newO_e newO_b ((.br 160 (.cmdL (.nilB 0 4 3) (.retH ((⟨0, 0, 0, [], []⟩ : Spk), 1) ⟨[(6, .k, .ref 1 0), (7, .k, .int 1)], [.vec 3 [] rfl, .box (.agg [.int 0, .int 0, .int 0, .sl 0 [] true, .vec 0])]⟩ [208, 0]))
 (.cmdL (.nilB 80 4 3) (.loop 0 (newO_n0 router epoch peers) (I0) (m0) ((0, []) : Int × (List Per)) [0, 80, 208] fun (t0 : Int × (List Per)) =>
 (.br 19 (.el 19 AV.int peers fun x1 =>
 (.app 147 Per.v t0.2 [(⟨x1, 0, 0⟩ : Per)]
 (.back 0 ((W (t0.1 + 1), t0.2 ++ [(⟨x1, 0, 0⟩ : Per)]) : Int × (List Per)) [0, 1, 147])))
 (.callP (valR6_c (⟨router, epoch, 0, [], t0.2⟩ : Spk))
 (.br 99 (.cmdL (.nilB 0 4 3) (.retH ((⟨0, 0, 0, [], []⟩ : Spk), valS (⟨router, epoch, 0, [], t0.2⟩ : Spk)) ⟨[(6, .k, .ref 1 0), (7, .k, .int (valS (⟨router, epoch, 0, [], t0.2⟩ : Spk)))], [.vec 3 [] rfl, .box (.agg [.int 0, .int 0, .int 0, .sl 0 [] true, .vec 0])]⟩ [163, 0]))
 (.retH ((⟨router, epoch, 0, [], t0.2⟩ : Spk), 0) ⟨[(6, .k, .ref 1 0), (7, .k, .int 0)], [.vec 3 (t0.2.map Per.v) (pureBL_map (fun _ => rfl) t0.2), .box (.agg [.int router, .int epoch, .int 0, .sl 0 [] true, .vec 0])]⟩ [2, 0]))))))) : An Try.prog newO_s (Spk × Int)) r0 = newO_vc router epoch peers I0 m0 r0 := by kernel_rfl
theorem newO_ok (router : Int) (epoch : Int) (peers : (List Int)) (I0 : (Int × (List Per)) → Prop) (m0 : (Int × (List Per)) → Nat) (r0 : Spk × Int) (h : newO_vc router epoch peers I0 m0 r0) : HSpec Try.prog 16 [.int router, .int epoch, .sl 1 (peers.map AV.int) false] [] (newO_e r0) (newO_b r0) := by
  have e := newO_eq router epoch peers I0 m0 r0
  rw [← e] at h
  exact mxH_ok (enc := newO_e) (hB := newO_b) h
theorem newO_p (r k : Int) (p : List Int) (ok : newO_a r k p) : ∃ I m, newO_vc r k p I m (new r k p) := by
  refine ⟨fun t => ∃ j : Nat, t.1 = j ∧ j ≤ p.length ∧ t.2 = (p.take j).map fun x => ⟨x, 0, 0⟩, fun t => p.length - t.1.toNat, ?_⟩
  simp only [newO_vc, vcU, rfU, List.length_map]
  have hn : new r k p = if spkOk ⟨r, k, 0, [], p.map fun x => ⟨x, 0, 0⟩⟩ then (⟨r, k, 0, [], p.map fun x => ⟨x, 0, 0⟩⟩, 0) else (spk0, 1) := rfl
  refine ⟨fun h => ?_, fun h => ⟨⟨0, rfl, by omega, rfl⟩, ?_⟩⟩
  · rw [hn, if_neg]
    · rfl
    · intro q
      have := q.2.2.2.2.1
      simp only [List.length_map] at this; omega
  · rintro ⟨_, _⟩ ⟨j, rfl, hj, rfl⟩
    simp only [Int.toNat_natCast]
    refine ⟨fun h1 => ⟨by omega, by omega, fun x hx => ⟨by simp; omega, ⟨j + 1, ?_, by omega, ?_⟩, ?_⟩⟩, fun h1 => ⟨pureBLs_one (pureBL_map (fun _ => rfl) _), ?_⟩⟩
    · rw [W_succ (n := p.length) (by omega) (by omega)]
    · rw [take_succ hx, List.map_append]; rfl
    · rw [W_succ (n := p.length) (by omega) (by omega)]; omega
    · rw [List.take_of_length_le (by omega), hn]
      have hv : valS ⟨r, k, 0, [], p.map fun x => ⟨x, 0, 0⟩⟩ = if spkOk ⟨r, k, 0, [], p.map fun x => ⟨x, 0, 0⟩⟩ then 0 else 1 := rfl
      rw [hv]
      by_cases q : spkOk ⟨r, k, 0, [], p.map fun x => ⟨x, 0, 0⟩⟩
      · rw [if_pos q, if_pos q]; simp
      · rw [if_neg q, if_neg q]; simp [spk0]
def newO_h (router : Int) (epoch : Int) (peers : (List Int)) : HC Try.prog := ⟨16, [.k, .k, (.s 1)], [.int router, .int epoch, .sl 1 (peers.map AV.int) false], [], newO_e (new router epoch peers), newO_b (new router epoch peers), HSpec.of_okh fun ok _ => (newO_p router epoch peers ok).elim fun I0 h => h.elim fun m0 h => newO_ok router epoch peers I0 m0 _ h, fnB_ok (by kernel_rfl), HcOk.of (by simp [hcB, belBL, AV.belB, allB, okBk, okBkO, newO_e, newO_b, pureBL_map (v := AV.int) (fun _ => rfl), pureBL_map (v := Per.v) (fun _ => rfl)])⟩
def restartO_a (s : Spk) (wants : (List Wnt)) : Prop := okL [.agg [.int s.router, .int s.epoch, .int s.last, .sl 4 (s.items.map Itm.v) false, .vec 0], .sl 3 (wants.map Wnt.v) false] ∧ (.vec 3 (s.peers.map Per.v) : Blk).ok
def restartO_n0 (s : Spk) (wants : (List Wnt)) (t0 : Int × (List Itm)) : NF := ⟨[(2, .k, .ref 1 0), (4, .k, .ref 2 0), (8, .k, .ref 3 0), (37, .k, .sl 3 (wants.map Wnt.v) false), (38, .k, .int ((wants.map Wnt.v).length : Int)), (39, .k, .int t0.1)], [.vec 3 (s.peers.map Per.v) (pureBL_map (fun _ => rfl) s.peers), .box (.agg [.int s.router, .int s.epoch, .int s.last, .sl 4 (s.items.map Itm.v) false, .vec 0]), .box (.agg [.int 0, .int 0, .int 0, .sl 0 [] true, .sl 0 [] true]), .box (.agg [.int s.router, .int (W (s.epoch + 1)), .int ((wants.map Wnt.v).length : Int), .vec 4, .sl 0 [] true]), .vec 4 (t0.2.map Itm.v) (pureBL_map (fun _ => rfl) t0.2)]⟩
def restartO_n1 (s : Spk) (wants : (List Wnt)) (t0 : Int × (List Itm)) (t1 : Int × (List Per)) : NF := ⟨[(4, .k, .ref 1 0), (8, .k, .ref 2 0), (58, .k, .vec 0), (59, .k, .int ((s.peers.map Per.v).length : Int)), (60, .k, .int t1.1)], [.vec 3 (s.peers.map Per.v) (pureBL_map (fun _ => rfl) s.peers), .box (.agg [.int 0, .int 0, .int 0, .sl 0 [] true, .sl 0 [] true]), .box (.agg [.int s.router, .int (W (s.epoch + 1)), .int ((wants.map Wnt.v).length : Int), .vec 3, .vec 4]), .vec 4 (t0.2.map Itm.v) (pureBL_map (fun _ => rfl) t0.2), .vec 3 (t1.2.map Per.v) (pureBL_map (fun _ => rfl) t1.2)]⟩
def restartO_s : Nat → Type
  | 0 => Int × (List Itm)
  | 1 => Int × (List Per)
  | _ => Unit
def restartO_e (r : (List Per) × Spk × Int) : AV := .tup [.agg [.int r.2.1.router, .int r.2.1.epoch, .int r.2.1.last, .sl 4 (r.2.1.items.map Itm.v) false, .vec 1], .int r.2.2]
def restartO_b (r : (List Per) × Spk × Int) : List (Option Blk) := [some (.vec 3 (r.1.map Per.v)), some (.vec 3 (r.2.1.peers.map Per.v))]
def restartO_vc (s : Spk) (wants : (List Wnt)) (I0 : (Int × (List Itm)) → Prop) (m0 : (Int × (List Itm)) → Nat) (I1 : Int × (List Itm) → (Int × (List Per)) → Prop) (m1 : Int × (List Itm) → (Int × (List Per)) → Nat) (r0 : (List Per) × Spk × Int) : Prop :=
 Cl (valR6_c s)
 (ck (pureBLs [(s.peers.map Per.v)])
 (br ((valS s) != 0)
 (Nf ⟨[(4, .k, .ref 2 0), (5, .k, .int (valS s))], [.vec 3 (s.peers.map Per.v) (pureBL_map (fun _ => rfl) s.peers), .vec 3 [] rfl, .box (.agg [.int 0, .int 0, .int 0, .sl 0 [] true, .vec 1])]⟩ [0, 193, 17] (Rf (restartO_e (s.peers, (⟨0, 0, 0, [], []⟩ : Spk), valS s)) (Rf (restartO_b (s.peers, (⟨0, 0, 0, [], []⟩ : Spk), valS s)) ((s.peers, (⟨0, 0, 0, [], []⟩ : Spk), valS s) = r0))))
 (Cl (valR_c wants)
 (br ((wErr false wants) != 0)
 (Nf ⟨[(4, .k, .ref 2 0), (5, .k, .int (wErr false wants))], [.vec 3 (s.peers.map Per.v) (pureBL_map (fun _ => rfl) s.peers), .vec 3 [] rfl, .box (.agg [.int 0, .int 0, .int 0, .sl 0 [] true, .vec 1])]⟩ [0, 273, 17] (Rf (restartO_e (s.peers, (⟨0, 0, 0, [], []⟩ : Spk), wErr false wants)) (Rf (restartO_b (s.peers, (⟨0, 0, 0, [], []⟩ : Spk), wErr false wants)) ((s.peers, (⟨0, 0, 0, [], []⟩ : Spk), wErr false wants) = r0))))
 (br (decide (1000000 ≤ s.epoch))
 (Nf ⟨[(4, .k, .ref 2 0), (5, .k, .int 3)], [.vec 3 (s.peers.map Per.v) (pureBL_map (fun _ => rfl) s.peers), .vec 3 [] rfl, .box (.agg [.int 0, .int 0, .int 0, .sl 0 [] true, .vec 1])]⟩ [0, 305, 17] (Rf (restartO_e (s.peers, (⟨0, 0, 0, [], []⟩ : Spk), 3)) (Rf (restartO_b (s.peers, (⟨0, 0, 0, [], []⟩ : Spk), 3)) ((s.peers, (⟨0, 0, 0, [], []⟩ : Spk), 3) = r0))))
 (Nf (restartO_n0 s wants (0, [])) [0, 1, 17, 385, 465] (I0 (0, [])) ∧ ∀ t0 : Int × (List Itm), I0 t0 →
 br (decide (t0.1 < ((wants.map Wnt.v).length : Int)))
 (Rf (wants.map Wnt.v) (ck (decide (0 ≤ t0.1)) (ck (decide (t0.1 < (wants.length : Int)))
 (∀ x1, wants[t0.1.toNat]? = some x1 →
 Rf (α := List AV) (t0.2.map Itm.v) (Rf (α := List AV) [.agg [.int (W (t0.1 + 1)), .int x1.grp, .int x1.mode, .sl 1 (x1.srcs.map AV.int) false]]
 (ck (decide (t0.2.length + 1 ≤ 1000000))
 (Nf (restartO_n0 s wants (W (t0.1 + 1), t0.2 ++ [(⟨W (t0.1 + 1), x1.grp, x1.mode, x1.srcs⟩ : Itm)])) [0, 1, 2, 3, 277] (I0 (W (t0.1 + 1), t0.2 ++ [(⟨W (t0.1 + 1), x1.grp, x1.mode, x1.srcs⟩ : Itm)]) ∧ m0 (W (t0.1 + 1), t0.2 ++ [(⟨W (t0.1 + 1), x1.grp, x1.mode, x1.srcs⟩ : Itm)]) < m0 t0))))))))
 (Nf (restartO_n1 s wants t0 (0, [])) [0, 2, 3, 4, 85] (I1 t0 (0, [])) ∧ ∀ t1 : Int × (List Per), I1 t0 t1 →
 br (decide (t1.1 < ((s.peers.map Per.v).length : Int)))
 (ck (cond (decide (0 ≤ t1.1)) (decide (t1.1 < ((s.peers.map Per.v).length : Int))) false)
 (Rf (s.peers.map Per.v) (ck (decide (t1.1.toNat < s.peers.length))
 (∀ x2, s.peers[t1.1.toNat]? = some x2 →
 Rf (α := List AV) (t1.2.map Per.v) (Rf (α := List AV) [.agg [.int x2.router, .int 0, .int 0]]
 (ck (decide (t1.2.length + 1 ≤ 1000000))
 (Nf (restartO_n1 s wants t0 (W (t1.1 + 1), t1.2 ++ [(⟨x2.router, 0, 0⟩ : Per)])) [0, 1, 2, 3, 181] (I1 t0 (W (t1.1 + 1), t1.2 ++ [(⟨x2.router, 0, 0⟩ : Per)]) ∧ m1 t0 (W (t1.1 + 1), t1.2 ++ [(⟨x2.router, 0, 0⟩ : Per)]) < m1 t0 t1))))))))
 (Rf (t0.2.map Itm.v) (Nf ⟨[(4, .k, .ref 2 0), (5, .k, .int 0)], [.vec 3 (s.peers.map Per.v) (pureBL_map (fun _ => rfl) s.peers), .vec 3 (t1.2.map Per.v) (pureBL_map (fun _ => rfl) t1.2), .box (.agg [.int s.router, .int (W (s.epoch + 1)), .int ((wants.map Wnt.v).length : Int), .sl 4 (t0.2.map Itm.v) false, .vec 1])]⟩ [0, 4, 1] (Rf (restartO_e (s.peers, (⟨s.router, W (s.epoch + 1), ((wants.map Wnt.v).length : Int), t0.2, t1.2⟩ : Spk), 0)) (Rf (restartO_b (s.peers, (⟨s.router, W (s.epoch + 1), ((wants.map Wnt.v).length : Int), t0.2, t1.2⟩ : Spk), 0)) ((s.peers, (⟨s.router, W (s.epoch + 1), ((wants.map Wnt.v).length : Int), t0.2, t1.2⟩ : Spk), 0) = r0))))))))))))
theorem restartO_eq (s : Spk) (wants : (List Wnt)) (I0 : (Int × (List Itm)) → Prop) (m0 : (Int × (List Itm)) → Nat) (I1 : Int × (List Itm) → (Int × (List Per)) → Prop) (m1 : Int × (List Itm) → (Int × (List Per)) → Nat) (r0 : (List Per) × Spk × Int) : mxH Try.prog 50 [.agg [.int s.router, .int s.epoch, .int s.last, .sl 4 (s.items.map Itm.v) false, .vec 0], .sl 3 (wants.map Wnt.v) false] [.vec 3 (s.peers.map Per.v)] (.a [(.a [.k, .k, .k, (.s 4), .k]), .k]) restartO_e restartO_b ((.callP (valR6_c s)
 (.br 129 (.cmdL (.nilB 17 4 3) (.retH (s.peers, (⟨0, 0, 0, [], []⟩ : Spk), valS s) ⟨[(4, .k, .ref 2 0), (5, .k, .int (valS s))], [.vec 3 (s.peers.map Per.v) (pureBL_map (fun _ => rfl) s.peers), .vec 3 [] rfl, .box (.agg [.int 0, .int 0, .int 0, .sl 0 [] true, .vec 1])]⟩ [0, 193, 17]))
 (.callP (valR_c wants)
 (.br 209 (.cmdL (.nilB 17 4 3) (.retH (s.peers, (⟨0, 0, 0, [], []⟩ : Spk), wErr false wants) ⟨[(4, .k, .ref 2 0), (5, .k, .int (wErr false wants))], [.vec 3 (s.peers.map Per.v) (pureBL_map (fun _ => rfl) s.peers), .vec 3 [] rfl, .box (.agg [.int 0, .int 0, .int 0, .sl 0 [] true, .vec 1])]⟩ [0, 273, 17]))
 (.br 257 (.cmdL (.nilB 17 4 3) (.retH (s.peers, (⟨0, 0, 0, [], []⟩ : Spk), 3) ⟨[(4, .k, .ref 2 0), (5, .k, .int 3)], [.vec 3 (s.peers.map Per.v) (pureBL_map (fun _ => rfl) s.peers), .vec 3 [] rfl, .box (.agg [.int 0, .int 0, .int 0, .sl 0 [] true, .vec 1])]⟩ [0, 305, 17]))
 (.cmdL (.nilB 385 3 4) (.loop 0 (restartO_n0 s wants) (I0) (m0) ((0, []) : Int × (List Itm)) [0, 1, 17, 385, 465] fun (t0 : Int × (List Itm)) =>
 (.br 21 (.el 37 Wnt.v wants fun x1 =>
 (.app 277 Itm.v t0.2 [(⟨W (t0.1 + 1), x1.grp, x1.mode, x1.srcs⟩ : Itm)]
 (.back 0 ((W (t0.1 + 1), t0.2 ++ [(⟨W (t0.1 + 1), x1.grp, x1.mode, x1.srcs⟩ : Itm)]) : Int × (List Itm)) [0, 1, 2, 3, 277])))
 (.cmdL (.nilB 3 4 3) (.loop 1 (restartO_n1 s wants t0) (I1 t0) (m1 t0) ((0, []) : Int × (List Per)) [0, 2, 3, 4, 85] fun (t1 : Int × (List Per)) =>
 (.br 21 (.el 37 Per.v s.peers fun x2 =>
 (.app 181 Per.v t1.2 [(⟨x2.router, 0, 0⟩ : Per)]
 (.back 1 ((W (t1.1 + 1), t1.2 ++ [(⟨x2.router, 0, 0⟩ : Per)]) : Int × (List Per)) [0, 1, 2, 3, 181])))
 (.cmdL (.frzE 3 (t0.2.map Itm.v) (pureBL_map (fun _ => rfl) t0.2)) (.retH (s.peers, (⟨s.router, W (s.epoch + 1), ((wants.map Wnt.v).length : Int), t0.2, t1.2⟩ : Spk), 0) ⟨[(4, .k, .ref 2 0), (5, .k, .int 0)], [.vec 3 (s.peers.map Per.v) (pureBL_map (fun _ => rfl) s.peers), .vec 3 (t1.2.map Per.v) (pureBL_map (fun _ => rfl) t1.2), .box (.agg [.int s.router, .int (W (s.epoch + 1)), .int ((wants.map Wnt.v).length : Int), .sl 4 (t0.2.map Itm.v) false, .vec 1])]⟩ [0, 4, 1]))))))))))))) : An Try.prog restartO_s ((List Per) × Spk × Int)) r0 = restartO_vc s wants I0 m0 I1 m1 r0 := by kernel_rfl
theorem restartO_ok (s : Spk) (wants : (List Wnt)) (I0 : (Int × (List Itm)) → Prop) (m0 : (Int × (List Itm)) → Nat) (I1 : Int × (List Itm) → (Int × (List Per)) → Prop) (m1 : Int × (List Itm) → (Int × (List Per)) → Nat) (r0 : (List Per) × Spk × Int) (h : restartO_vc s wants I0 m0 I1 m1 r0) : HSpec Try.prog 50 [.agg [.int s.router, .int s.epoch, .int s.last, .sl 4 (s.items.map Itm.v) false, .vec 0], .sl 3 (wants.map Wnt.v) false] [.vec 3 (s.peers.map Per.v)] (restartO_e r0) (restartO_b r0) := by
  have e := restartO_eq s wants I0 m0 I1 m1 r0
  rw [← e] at h
  exact mxH_ok (enc := restartO_e) (hB := restartO_b) h
theorem restartO_p (s : Spk) (w : List Wnt) (ok : restartO_a s w) : ∃ I0 m0 I1 m1, restartO_vc s w I0 m0 I1 m1 (s.peers, restart s w) := by
  refine ⟨fun t => ∃ j : Nat, t.1 = j ∧ j ≤ w.length ∧ t.2 = (w.mapIdx wItm).take j, fun t => w.length - t.1.toNat,
    fun t0 t => ∃ j : Nat, t.1 = j ∧ j ≤ s.peers.length ∧ t.2 = (s.peers.take j).map fun p => ⟨p.router, 0, 0⟩, fun t0 t => s.peers.length - t.1.toNat, ?_⟩
  simp only [restartO_vc, vcU, rfU, List.length_map]
  have hv : valS s = if spkOk s then 0 else 1 := rfl
  rw [hv]
  refine ⟨pureBLs_one (pureBL_map (fun _ => rfl) _), ?_⟩
  unfold restart
  by_cases h1 : spkOk s
  case neg => rw [if_neg h1, if_pos h1]; simp [spk0]
  rw [if_pos h1, if_neg (not_not_intro h1)]
  refine ⟨fun q => by simp at q, fun _ => ⟨fun h2 => ?_, fun h2 => ?_⟩⟩
  · have h2 : wErr false w ≠ 0 := by simpa using h2
    rw [if_pos h2]; rfl
  have h2 : wErr false w = 0 := by simpa using h2
  rw [if_neg (not_not_intro h2)]
  have he := h1.2.1
  refine ⟨fun h3 => ?_, fun h3 => ⟨⟨0, rfl, by omega, by simp⟩, ?_⟩⟩
  · rw [if_pos (by omega)]; rfl
  rw [if_neg (by omega)]
  obtain ⟨w1, _⟩ := wErr_zero.mp h2
  rintro ⟨_, _⟩ ⟨j, rfl, hj, rfl⟩
  simp only [Int.toNat_natCast]
  refine ⟨fun h4 => ⟨by omega, by omega, fun x hx => ?_⟩, fun h4 => ⟨⟨0, rfl, by omega, rfl⟩, ?_⟩⟩
  · rw [W_succ (n := w.length) (by omega) (by omega)]
    refine ⟨by simp; omega, ⟨j + 1, rfl, by omega, ?_⟩, by omega⟩
    have : (w.mapIdx wItm)[j]? = some (wItm j x) := by rw [List.getElem?_mapIdx, hx]; rfl
    rw [take_succ this]
    rfl
  · rintro ⟨_, _⟩ ⟨i, rfl, hi, rfl⟩
    have hp := h1.2.2.2.2.1
    simp only [Int.toNat_natCast]
    refine ⟨fun h5 => ⟨by simp; omega, by omega, fun x hx => ?_⟩, fun h5 => ?_⟩
    · rw [W_succ (n := s.peers.length) (by omega) (by omega)]
      refine ⟨by simp; omega, ⟨i + 1, rfl, by omega, ?_⟩, by omega⟩
      rw [take_succ hx, List.map_append]; rfl
    · rw [List.take_of_length_le (by simp; omega), List.take_of_length_le (l := s.peers) (by omega), W_eq (by omega)]
def restartO_h (s : Spk) (wants : (List Wnt)) : HC Try.prog := ⟨50, [(.a [.k, .k, .k, (.s 4), (.s 3)]), (.s 3)], [.agg [.int s.router, .int s.epoch, .int s.last, .sl 4 (s.items.map Itm.v) false, .vec 0], .sl 3 (wants.map Wnt.v) false], [.vec 3 (s.peers.map Per.v)], restartO_e (s.peers, restart s wants), restartO_b (s.peers, restart s wants), HSpec.of_okh fun ok ok2 => have ok : restartO_a s wants := ⟨ok, ok2 _ (by simp)⟩; (restartO_p s wants ok).elim fun I0 h => h.elim fun m0 h => h.elim fun I1 h => h.elim fun m1 h => restartO_ok s wants I0 m0 I1 m1 _ h, fnB_ok (by kernel_rfl), HcOk.of (by simp [hcB, belBL, AV.belB, allB, okBk, okBkO, restartO_e, restartO_b, pureBL_map (v := Itm.v) (fun _ => rfl), pureBL_map (v := Per.v) (fun _ => rfl), pureBL_map (v := Wnt.v) (fun _ => rfl)])⟩
def changeO_a (s : Spk) (changes : (List Wnt)) : Prop := okL [.agg [.int s.router, .int s.epoch, .int s.last, .sl 4 (s.items.map Itm.v) false, .vec 0], .sl 3 (changes.map Wnt.v) false] ∧ (.vec 3 (s.peers.map Per.v) : Blk).ok
def changeO_n0 (s : Spk) (changes : (List Wnt)) (t0 : Int × Int × (List Itm)) : NF := ⟨[(4, .k, .ref 1 0), (9, .k, .ref 2 0), (38, .k, .sl 3 (changes.map Wnt.v) false), (39, .k, .int ((changes.map Wnt.v).length : Int)), (40, .k, .int t0.1)], [.vec 3 (s.peers.map Per.v) (pureBL_map (fun _ => rfl) s.peers), .box (.agg [.int 0, .int 0, .int 0, .sl 0 [] true, .sl 0 [] true]), .box (.agg [.int s.router, .int s.epoch, .int t0.2.1, .sl 4 (t0.2.2.map Itm.v) false, .vec 3]), .vec 3 (s.peers.map Per.v) (pureBL_map (fun _ => rfl) s.peers)]⟩
def changeO_s : Nat → Type
  | 0 => Int × Int × (List Itm)
  | _ => Unit
def changeO_e (r : (List Per) × Spk × Int) : AV := .tup [.agg [.int r.2.1.router, .int r.2.1.epoch, .int r.2.1.last, .sl 4 (r.2.1.items.map Itm.v) false, .vec 1], .int r.2.2]
def changeO_b (r : (List Per) × Spk × Int) : List (Option Blk) := [some (.vec 3 (r.1.map Per.v)), some (.vec 3 (r.2.1.peers.map Per.v))]
def changeO_vc (s : Spk) (changes : (List Wnt)) (I0 : (Int × Int × (List Itm)) → Prop) (m0 : (Int × Int × (List Itm)) → Nat) (r0 : (List Per) × Spk × Int) : Prop :=
 Cl (valR6_c s)
 (ck (pureBLs [(s.peers.map Per.v)])
 (br ((valS s) != 0)
 (Nf ⟨[(4, .k, .ref 2 0), (5, .k, .int (valS s))], [.vec 3 (s.peers.map Per.v) (pureBL_map (fun _ => rfl) s.peers), .vec 3 [] rfl, .box (.agg [.int 0, .int 0, .int 0, .sl 0 [] true, .vec 1])]⟩ [0, 193, 17] (Rf (changeO_e (s.peers, (⟨0, 0, 0, [], []⟩ : Spk), valS s)) (Rf (changeO_b (s.peers, (⟨0, 0, 0, [], []⟩ : Spk), valS s)) ((s.peers, (⟨0, 0, 0, [], []⟩ : Spk), valS s) = r0))))
 (Cl (applyR_c [] changes)
 (br (((applyG [] changes).2) != 0)
 (Nf ⟨[(4, .k, .ref 2 0), (5, .k, .int ((applyG [] changes).2))], [.vec 3 (s.peers.map Per.v) (pureBL_map (fun _ => rfl) s.peers), .vec 3 [] rfl, .box (.agg [.int 0, .int 0, .int 0, .sl 0 [] true, .vec 1])]⟩ [0, 337, 17] (Rf (changeO_e (s.peers, (⟨0, 0, 0, [], []⟩ : Spk), (applyG [] changes).2)) (Rf (changeO_b (s.peers, (⟨0, 0, 0, [], []⟩ : Spk), (applyG [] changes).2)) ((s.peers, (⟨0, 0, 0, [], []⟩ : Spk), (applyG [] changes).2) = r0))))
 (Rf (α := List AV) [] (Rf (α := List AV) (s.peers.map Per.v)
 (ck (decide (0 + s.peers.length ≤ 1000000))
 (Rf (α := List AV) [] (Rf (α := List AV) (s.items.map Itm.v)
 (ck (decide (0 + s.items.length ≤ 1000000))
 (Rf (s.items.map Itm.v) (Nf (changeO_n0 s changes (0, s.last, s.items)) [0, 17, 289, 369] (I0 (0, s.last, s.items)) ∧ ∀ t0 : Int × Int × (List Itm), I0 t0 →
 br (decide (t0.1 < ((changes.map Wnt.v).length : Int)))
 (Rf (changes.map Wnt.v) (ck (decide (0 ≤ t0.1)) (ck (decide (t0.1 < (changes.length : Int)))
 (∀ x1, changes[t0.1.toNat]? = some x1 →
 Cl (findI_c t0.2.2 x1.grp)
 (Cl (FSame_c (⟨(told t0.2.2 x1.grp).1, (told t0.2.2 x1.grp).2⟩ : Flt) (⟨x1.mode, x1.srcs⟩ : Flt))
 (br (FSame (⟨(told t0.2.2 x1.grp).1, (told t0.2.2 x1.grp).2⟩ : Flt) (⟨x1.mode, x1.srcs⟩ : Flt))
 (Nf (changeO_n0 s changes (W (t0.1 + 1), t0.2.1, t0.2.2)) [0, 1, 2, 3] (I0 (W (t0.1 + 1), t0.2.1, t0.2.2) ∧ m0 (W (t0.1 + 1), t0.2.1, t0.2.2) < m0 t0))
 (∃ h2 : t0.2.2.length ≤ 999999,
 Cl (putR_c t0.2.2 (⟨W (t0.2.1 + 1), x1.grp, x1.mode, x1.srcs⟩ : Itm) h2)
 (Nf (changeO_n0 s changes (W (t0.1 + 1), W (t0.2.1 + 1), put1 t0.2.2 (⟨W (t0.2.1 + 1), x1.grp, x1.mode, x1.srcs⟩ : Itm))) [0, 1, 2, 3] (I0 (W (t0.1 + 1), W (t0.2.1 + 1), put1 t0.2.2 (⟨W (t0.2.1 + 1), x1.grp, x1.mode, x1.srcs⟩ : Itm)) ∧ m0 (W (t0.1 + 1), W (t0.2.1 + 1), put1 t0.2.2 (⟨W (t0.2.1 + 1), x1.grp, x1.mode, x1.srcs⟩ : Itm)) < m0 t0)))))))))
 (br (decide (1000000 < t0.2.1))
 (Nf ⟨[(4, .k, .ref 2 0), (5, .k, .int 3)], [.vec 3 (s.peers.map Per.v) (pureBL_map (fun _ => rfl) s.peers), .vec 3 [] rfl, .box (.agg [.int 0, .int 0, .int 0, .sl 0 [] true, .vec 1])]⟩ [0, 116, 1] (Rf (changeO_e (s.peers, (⟨0, 0, 0, [], []⟩ : Spk), 3)) (Rf (changeO_b (s.peers, (⟨0, 0, 0, [], []⟩ : Spk), 3)) ((s.peers, (⟨0, 0, 0, [], []⟩ : Spk), 3) = r0))))
 (Nf ⟨[(4, .k, .ref 2 0), (5, .k, .int 0)], [.vec 3 (s.peers.map Per.v) (pureBL_map (fun _ => rfl) s.peers), .vec 3 (s.peers.map Per.v) (pureBL_map (fun _ => rfl) s.peers), .box (.agg [.int s.router, .int s.epoch, .int t0.2.1, .sl 4 (t0.2.2.map Itm.v) false, .vec 1])]⟩ [0, 3, 1] (Rf (changeO_e (s.peers, (⟨s.router, s.epoch, t0.2.1, t0.2.2, s.peers⟩ : Spk), 0)) (Rf (changeO_b (s.peers, (⟨s.router, s.epoch, t0.2.1, t0.2.2, s.peers⟩ : Spk), 0)) ((s.peers, (⟨s.router, s.epoch, t0.2.1, t0.2.2, s.peers⟩ : Spk), 0) = r0)))))))))))))))))
theorem changeO_eq (s : Spk) (changes : (List Wnt)) (I0 : (Int × Int × (List Itm)) → Prop) (m0 : (Int × Int × (List Itm)) → Nat) (r0 : (List Per) × Spk × Int) : mxH Try.prog 48 [.agg [.int s.router, .int s.epoch, .int s.last, .sl 4 (s.items.map Itm.v) false, .vec 0], .sl 3 (changes.map Wnt.v) false] [.vec 3 (s.peers.map Per.v)] (.a [(.a [.k, .k, .k, (.s 4), .k]), .k]) changeO_e changeO_b ((.callP (valR6_c s)
 (.br 129 (.cmdL (.nilB 17 4 3) (.retH (s.peers, (⟨0, 0, 0, [], []⟩ : Spk), valS s) ⟨[(4, .k, .ref 2 0), (5, .k, .int (valS s))], [.vec 3 (s.peers.map Per.v) (pureBL_map (fun _ => rfl) s.peers), .vec 3 [] rfl, .box (.agg [.int 0, .int 0, .int 0, .sl 0 [] true, .vec 1])]⟩ [0, 193, 17]))
 (.callP (applyR_c [] changes)
 (.br 273 (.cmdL (.nilB 17 4 3) (.retH (s.peers, (⟨0, 0, 0, [], []⟩ : Spk), (applyG [] changes).2) ⟨[(4, .k, .ref 2 0), (5, .k, .int ((applyG [] changes).2))], [.vec 3 (s.peers.map Per.v) (pureBL_map (fun _ => rfl) s.peers), .vec 3 [] rfl, .box (.agg [.int 0, .int 0, .int 0, .sl 0 [] true, .vec 1])]⟩ [0, 337, 17]))
 (.app 369 Per.v [] s.peers
 (.app 465 Itm.v [] s.items
 (.cmd (.frzE 465 (s.items.map Itm.v) (pureBL_map (fun _ => rfl) s.items)) (.loop 0 (changeO_n0 s changes) (I0) (m0) ((0, s.last, s.items) : Int × Int × (List Itm)) [0, 17, 289, 369] fun (t0 : Int × Int × (List Itm)) =>
 (.br 20 (.el 20 Wnt.v changes fun x1 =>
 (.callP (findI_c t0.2.2 x1.grp)
 (.callP (FSame_c (⟨(told t0.2.2 x1.grp).1, (told t0.2.2 x1.grp).2⟩ : Flt) (⟨x1.mode, x1.srcs⟩ : Flt))
 (.br 212 (.back 0 ((W (t0.1 + 1), t0.2.1, t0.2.2) : Int × Int × (List Itm)) [0, 1, 2, 3])
 (.req 436 (t0.2.2.length ≤ 999999) fun h2 =>
 (.callP (putR_c t0.2.2 (⟨W (t0.2.1 + 1), x1.grp, x1.mode, x1.srcs⟩ : Itm) h2)
 (.back 0 ((W (t0.1 + 1), W (t0.2.1 + 1), put1 t0.2.2 (⟨W (t0.2.1 + 1), x1.grp, x1.mode, x1.srcs⟩ : Itm)) : Int × Int × (List Itm)) [0, 1, 2, 3])))))))
 (.br 68 (.cmdL (.nilB 1 4 3) (.retH (s.peers, (⟨0, 0, 0, [], []⟩ : Spk), 3) ⟨[(4, .k, .ref 2 0), (5, .k, .int 3)], [.vec 3 (s.peers.map Per.v) (pureBL_map (fun _ => rfl) s.peers), .vec 3 [] rfl, .box (.agg [.int 0, .int 0, .int 0, .sl 0 [] true, .vec 1])]⟩ [0, 116, 1]))
 (.retH (s.peers, (⟨s.router, s.epoch, t0.2.1, t0.2.2, s.peers⟩ : Spk), 0) ⟨[(4, .k, .ref 2 0), (5, .k, .int 0)], [.vec 3 (s.peers.map Per.v) (pureBL_map (fun _ => rfl) s.peers), .vec 3 (s.peers.map Per.v) (pureBL_map (fun _ => rfl) s.peers), .box (.agg [.int s.router, .int s.epoch, .int t0.2.1, .sl 4 (t0.2.2.map Itm.v) false, .vec 1])]⟩ [0, 3, 1]))))))))))) : An Try.prog changeO_s ((List Per) × Spk × Int)) r0 = changeO_vc s changes I0 m0 r0 := by kernel_rfl
theorem changeO_ok (s : Spk) (changes : (List Wnt)) (I0 : (Int × Int × (List Itm)) → Prop) (m0 : (Int × Int × (List Itm)) → Nat) (r0 : (List Per) × Spk × Int) (h : changeO_vc s changes I0 m0 r0) : HSpec Try.prog 48 [.agg [.int s.router, .int s.epoch, .int s.last, .sl 4 (s.items.map Itm.v) false, .vec 0], .sl 3 (changes.map Wnt.v) false] [.vec 3 (s.peers.map Per.v)] (changeO_e r0) (changeO_b r0) := by
  have e := changeO_eq s changes I0 m0 r0
  rw [← e] at h
  exact mxH_ok (enc := changeO_e) (hB := changeO_b) h
theorem changeO_p (s : Spk) (c : List Wnt) (ok : changeO_a s c) : ∃ I m, changeO_vc s c I m (s.peers, change s c) := by
  refine ⟨fun t => ∃ j : Nat, t.1 = j ∧ j ≤ c.length ∧ t.2 = (((c.take j).foldl chg1 (s.last, s.items)).1, ((c.take j).foldl chg1 (s.last, s.items)).2), fun t => c.length - t.1.toNat, ?_⟩
  simp only [changeO_vc, vcU, rfU, List.length_map]
  have hv : valS s = if spkOk s then 0 else 1 := rfl
  rw [hv, applyG_err]
  refine ⟨pureBLs_one (pureBL_map (fun _ => rfl) _), ?_⟩
  unfold change
  by_cases h1 : spkOk s
  case neg => rw [if_neg h1, if_pos h1]; simp [spk0]
  rw [if_pos h1, if_neg (not_not_intro h1)]
  refine ⟨fun q => by simp at q, fun _ => ⟨fun h2 => ?_, fun h2 => ?_⟩⟩
  · have h2 : wErr true c ≠ 0 := by simpa using h2
    rw [if_pos h2]; rfl
  have h2 : wErr true c = 0 := by simpa using h2
  rw [if_neg (not_not_intro h2)]
  have hp := h1.2.2.2.2.1
  have hi := itms_len h1.2.2.2.1
  have hl := h1.2.2.1
  have hcl := (wErr_zero.mp h2).1
  refine ⟨by omega, by omega, ⟨0, rfl, by omega, rfl⟩, ?_⟩
  rintro ⟨_, _⟩ ⟨j, rfl, hj, rfl⟩
  obtain ⟨b1, b2, b3⟩ := chg_take_len h1 h2 j
  simp only [Int.toNat_natCast]
  refine ⟨fun h3 => ⟨by omega, by omega, fun x hx => ?_⟩, fun h3 => ?_⟩
  · rw [W_succ (n := c.length) (by omega) (by omega)]
    have e : (c.take (j + 1)).foldl chg1 (s.last, s.items) = chg1 ((c.take j).foldl chg1 (s.last, s.items)) x := by rw [take_succ hx, List.foldl_append]; rfl
    generalize (c.take j).foldl chg1 (s.last, s.items) = u at *
    refine ⟨fun q => ⟨⟨j + 1, rfl, by omega, ?_⟩, by omega⟩, fun q => ⟨by omega, ⟨j + 1, rfl, by omega, ?_⟩, by omega⟩⟩
    · rw [e, chg1, if_pos]
      have q : (told u.2 x.grp).1 = x.mode ∧ (told u.2 x.grp).2 = x.srcs := by simpa [FSame, flt_eq] using q
      rw [← q.1, ← q.2]
    · rw [e, chg1, if_neg, W_eq (by omega)]
      intro z
      have z1 := congrArg Prod.fst z
      have z2 := congrArg Prod.snd z
      simp [FSame, flt_eq] at q z1 z2
      exact q z1 z2
  · rw [List.take_of_length_le (by omega)]
    refine ⟨fun q => ?_, fun q => ?_⟩
    · rw [if_pos q]; rfl
    · rw [if_neg q]
def changeO_h (s : Spk) (changes : (List Wnt)) : HC Try.prog := ⟨48, [(.a [.k, .k, .k, (.s 4), (.s 3)]), (.s 3)], [.agg [.int s.router, .int s.epoch, .int s.last, .sl 4 (s.items.map Itm.v) false, .vec 0], .sl 3 (changes.map Wnt.v) false], [.vec 3 (s.peers.map Per.v)], changeO_e (s.peers, change s changes), changeO_b (s.peers, change s changes), HSpec.of_okh fun ok ok2 => have ok : changeO_a s changes := ⟨ok, ok2 _ (by simp)⟩; (changeO_p s changes ok).elim fun I0 h => h.elim fun m0 h => changeO_ok s changes I0 m0 _ h, fnB_ok (by kernel_rfl), HcOk.of (by simp [hcB, belBL, AV.belB, allB, okBk, okBkO, changeO_e, changeO_b, pureBL_map (v := Itm.v) (fun _ => rfl), pureBL_map (v := Per.v) (fun _ => rfl), pureBL_map (v := Wnt.v) (fun _ => rfl)])⟩
def stepJ (L : List Int) (p : Nat) (s : Spk) : Int × Nat × Spk :=
  if Mod (rawV L (chgT L p).2) 8 = 7 then ((restart s (wantsT L (rawP L (chgT L p).2)).1).2, (wantsT L (rawP L (chgT L p).2)).2, (restart s (wantsT L (rawP L (chgT L p).2)).1).1)
  else ((change s (chgT L p).1).2, rawP L (chgT L p).2, (change s (chgT L p).1).1)
theorem stepT_J {L : List Int} {p : Nat} {s : Spk} : stepT L p s = (if (stepJ L p s).1 ≠ 0 then s else (stepJ L p s).2.2, (stepJ L p s).2.1) := by
  unfold stepT stepJ
  split <;> rfl
def stepT_a (L : (List Int)) (p : Nat) (s : Spk) : Prop := okL [.ref 0 0, .agg [.int s.router, .int s.epoch, .int s.last, .sl 4 (s.items.map Itm.v) false, .vec 1]] ∧ (.box (.agg [.sl 1 (L.map AV.int) false, .int ((p : Nat) : Int)]) : Blk).ok ∧ (.vec 3 (s.peers.map Per.v) : Blk).ok
def stepT_n0 (L : (List Int)) (p : Nat) (s : Spk) (t0 : Int × Nat × Int × Int × Int × (List Itm) × (List Per)) : NF := ⟨[(3, .k, .ref 2 0), (4, .k, .ref 4 0), (5, .k, .ref 5 0), (6, .k, .int t0.1)], [.box (.agg [.sl 1 (L.map AV.int) false, .int ((t0.2.1 : Nat) : Int)]), .gone, .box (.agg [.int s.router, .int s.epoch, .int s.last, .sl 4 (s.items.map Itm.v) false, .vec 3]), .vec 3 (s.peers.map Per.v) (pureBL_map (fun _ => rfl) s.peers), .box (.agg [.int 0, .int 0, .int 0, .sl 0 [] true, .sl 0 [] true]), .box (.agg [.int t0.2.2.1, .int t0.2.2.2.1, .int t0.2.2.2.2.1, .sl 4 (t0.2.2.2.2.2.1.map Itm.v) false, .vec 6]), .vec 3 (t0.2.2.2.2.2.2.map Per.v) (pureBL_map (fun _ => rfl) t0.2.2.2.2.2.2)]⟩
def stepT_s : Nat → Type
  | 0 => Int × Nat × Int × Int × Int × (List Itm) × (List Per)
  | _ => Unit
def stepT_e (r : Tap × Spk) : AV := .agg [.int r.2.router, .int r.2.epoch, .int r.2.last, .sl 4 (r.2.items.map Itm.v) false, .vec 2]
def stepT_b (r : Tap × Spk) : List (Option Blk) := [some (.box (.agg [.sl 1 (r.1.L.map AV.int) false, .int ((r.1.p : Nat) : Int)])), none, some (.vec 3 (r.2.peers.map Per.v))]
def stepT_vc (L : (List Int)) (p : Nat) (s : Spk) (I0 : (Int × Nat × Int × Int × Int × (List Itm) × (List Per)) → Prop) (r0 : Tap × Spk) : Prop :=
 Ch (chgT_h L p) [0] 66
 (Ch (changeO_h s ((chgT L p).1)) [1] 82
 ((Ch (N_h L ((chgT L p).2) 8) [0] 210
 (br ((Mod (rawV L ((chgT L p).2)) 8) == 7)
 (Ch (wantsT_h L (rawP L ((chgT L p).2))) [0] 274
 (Ch (restartO_h s ((wantsT L (rawP L ((chgT L p).2))).1)) [1] 290
 (Nf (stepT_n0 L p s ((restart s ((wantsT L (rawP L ((chgT L p).2))).1)).2, (wantsT L (rawP L ((chgT L p).2))).2, ((restart s ((wantsT L (rawP L ((chgT L p).2))).1)).1).router, ((restart s ((wantsT L (rawP L ((chgT L p).2))).1)).1).epoch, ((restart s ((wantsT L (rawP L ((chgT L p).2))).1)).1).last, ((restart s ((wantsT L (rawP L ((chgT L p).2))).1)).1).items, ((restart s ((wantsT L (rawP L ((chgT L p).2))).1)).1).peers)) [0, 1, 2, 1, 18, 146, 290] (I0 (((restart s ((wantsT L (rawP L ((chgT L p).2))).1)).2, (wantsT L (rawP L ((chgT L p).2))).2, ((restart s ((wantsT L (rawP L ((chgT L p).2))).1)).1).router, ((restart s ((wantsT L (rawP L ((chgT L p).2))).1)).1).epoch, ((restart s ((wantsT L (rawP L ((chgT L p).2))).1)).1).last, ((restart s ((wantsT L (rawP L ((chgT L p).2))).1)).1).items, ((restart s ((wantsT L (rawP L ((chgT L p).2))).1)).1).peers) : Int × Nat × Int × Int × Int × (List Itm) × (List Per))))))
 (Nf (stepT_n0 L p s ((change s ((chgT L p).1)).2, rawP L ((chgT L p).2), ((change s ((chgT L p).1)).1).router, ((change s ((chgT L p).1)).1).epoch, ((change s ((chgT L p).1)).1).last, ((change s ((chgT L p).1)).1).items, ((change s ((chgT L p).1)).1).peers)) [0, 1, 2, 1, 18, 146, 82] (I0 (((change s ((chgT L p).1)).2, rawP L ((chgT L p).2), ((change s ((chgT L p).1)).1).router, ((change s ((chgT L p).1)).1).epoch, ((change s ((chgT L p).1)).1).last, ((change s ((chgT L p).1)).1).items, ((change s ((chgT L p).1)).1).peers) : Int × Nat × Int × Int × Int × (List Itm) × (List Per)))))) ∧ ∀ t0 : Int × Nat × Int × Int × Int × (List Itm) × (List Per), I0 t0 →
 br (t0.1 != 0)
 (Nf ⟨[(4, .k, .ref 3 0)], [.box (.agg [.sl 1 (L.map AV.int) false, .int ((t0.2.1 : Nat) : Int)]), .gone, .vec 3 (s.peers.map Per.v) (pureBL_map (fun _ => rfl) s.peers), .box (.agg [.int s.router, .int s.epoch, .int s.last, .sl 4 (s.items.map Itm.v) false, .vec 2])]⟩ [0, 1, 3, 4] (Rf (stepT_e ((⟨L, t0.2.1⟩ : Tap), s)) (Rf (stepT_b ((⟨L, t0.2.1⟩ : Tap), s)) (((⟨L, t0.2.1⟩ : Tap), s) = r0))))
 (Nf ⟨[(4, .k, .ref 3 0)], [.box (.agg [.sl 1 (L.map AV.int) false, .int ((t0.2.1 : Nat) : Int)]), .gone, .vec 3 (t0.2.2.2.2.2.2.map Per.v) (pureBL_map (fun _ => rfl) t0.2.2.2.2.2.2), .box (.agg [.int t0.2.2.1, .int t0.2.2.2.1, .int t0.2.2.2.2.1, .sl 4 (t0.2.2.2.2.2.1.map Itm.v) false, .vec 2])]⟩ [0, 1, 6, 4] (Rf (stepT_e ((⟨L, t0.2.1⟩ : Tap), (⟨t0.2.2.1, t0.2.2.2.1, t0.2.2.2.2.1, t0.2.2.2.2.2.1, t0.2.2.2.2.2.2⟩ : Spk))) (Rf (stepT_b ((⟨L, t0.2.1⟩ : Tap), (⟨t0.2.2.1, t0.2.2.2.1, t0.2.2.2.2.1, t0.2.2.2.2.2.1, t0.2.2.2.2.2.2⟩ : Spk))) (((⟨L, t0.2.1⟩ : Tap), (⟨t0.2.2.1, t0.2.2.2.1, t0.2.2.2.2.1, t0.2.2.2.2.2.1, t0.2.2.2.2.2.2⟩ : Spk)) = r0))))))
theorem stepT_eq (L : (List Int)) (p : Nat) (s : Spk) (I0 : (Int × Nat × Int × Int × Int × (List Itm) × (List Per)) → Prop) (r0 : Tap × Spk) : mxH Try.prog 20 [.ref 0 0, .agg [.int s.router, .int s.epoch, .int s.last, .sl 4 (s.items.map Itm.v) false, .vec 1]] [.box (.agg [.sl 1 (L.map AV.int) false, .int ((p : Nat) : Int)]), .vec 3 (s.peers.map Per.v)] (.a [.k, .k, .k, (.s 4), .k]) stepT_e stepT_b ((.callH [0] (chgT_h L p)
 (.callH [1] (changeO_h s ((chgT L p).1))
 (.join 0 (stepT_n0 L p s) (fun t0 => I0 t0) (.callH [0] (N_h L ((chgT L p).2) 8)
 (.br 242 (.callH [0] (wantsT_h L (rawP L ((chgT L p).2)))
 (.callH [1] (restartO_h s ((wantsT L (rawP L ((chgT L p).2))).1))
 (.back 0 (((restart s ((wantsT L (rawP L ((chgT L p).2))).1)).2, (wantsT L (rawP L ((chgT L p).2))).2, ((restart s ((wantsT L (rawP L ((chgT L p).2))).1)).1).router, ((restart s ((wantsT L (rawP L ((chgT L p).2))).1)).1).epoch, ((restart s ((wantsT L (rawP L ((chgT L p).2))).1)).1).last, ((restart s ((wantsT L (rawP L ((chgT L p).2))).1)).1).items, ((restart s ((wantsT L (rawP L ((chgT L p).2))).1)).1).peers) : Int × Nat × Int × Int × Int × (List Itm) × (List Per)) [0, 1, 2, 1, 18, 146, 290])))
 (.back 0 (((change s ((chgT L p).1)).2, rawP L ((chgT L p).2), ((change s ((chgT L p).1)).1).router, ((change s ((chgT L p).1)).1).epoch, ((change s ((chgT L p).1)).1).last, ((change s ((chgT L p).1)).1).items, ((change s ((chgT L p).1)).1).peers) : Int × Nat × Int × Int × Int × (List Itm) × (List Per)) [0, 1, 2, 1, 18, 146, 82]))) fun (t0 : Int × Nat × Int × Int × Int × (List Itm) × (List Per)) =>
 (.br 39 (.retH ((⟨L, t0.2.1⟩ : Tap), s) ⟨[(4, .k, .ref 3 0)], [.box (.agg [.sl 1 (L.map AV.int) false, .int ((t0.2.1 : Nat) : Int)]), .gone, .vec 3 (s.peers.map Per.v) (pureBL_map (fun _ => rfl) s.peers), .box (.agg [.int s.router, .int s.epoch, .int s.last, .sl 4 (s.items.map Itm.v) false, .vec 2])]⟩ [0, 1, 3, 4])
 (.retH ((⟨L, t0.2.1⟩ : Tap), (⟨t0.2.2.1, t0.2.2.2.1, t0.2.2.2.2.1, t0.2.2.2.2.2.1, t0.2.2.2.2.2.2⟩ : Spk)) ⟨[(4, .k, .ref 3 0)], [.box (.agg [.sl 1 (L.map AV.int) false, .int ((t0.2.1 : Nat) : Int)]), .gone, .vec 3 (t0.2.2.2.2.2.2.map Per.v) (pureBL_map (fun _ => rfl) t0.2.2.2.2.2.2), .box (.agg [.int t0.2.2.1, .int t0.2.2.2.1, .int t0.2.2.2.2.1, .sl 4 (t0.2.2.2.2.2.1.map Itm.v) false, .vec 2])]⟩ [0, 1, 6, 4]))))) : An Try.prog stepT_s (Tap × Spk)) r0 = stepT_vc L p s I0 r0 := by kernel_rfl
theorem stepT_ok (L : (List Int)) (p : Nat) (s : Spk) (I0 : (Int × Nat × Int × Int × Int × (List Itm) × (List Per)) → Prop) (r0 : Tap × Spk) (h : stepT_vc L p s I0 r0) : HSpec Try.prog 20 [.ref 0 0, .agg [.int s.router, .int s.epoch, .int s.last, .sl 4 (s.items.map Itm.v) false, .vec 1]] [.box (.agg [.sl 1 (L.map AV.int) false, .int ((p : Nat) : Int)]), .vec 3 (s.peers.map Per.v)] (stepT_e r0) (stepT_b r0) := by
  have e := stepT_eq L p s I0 r0
  rw [← e] at h
  exact mxH_ok (enc := stepT_e) (hB := stepT_b) h
theorem stepT_p (L : List Int) (p : Nat) (s : Spk) (ok : stepT_a L p s) : ∃ I, stepT_vc L p s I ((⟨L, (stepT L p s).2⟩ : Tap), (stepT L p s).1) := by
  refine ⟨fun t => t = ((stepJ L p s).1, (stepJ L p s).2.1, (stepJ L p s).2.2.router, (stepJ L p s).2.2.epoch, (stepJ L p s).2.2.last, (stepJ L p s).2.2.items, (stepJ L p s).2.2.peers), ?_⟩
  simp only [stepT_vc, vcU, rfU, List.length_map]
  refine ⟨⟨fun h => ?_, fun h => ?_⟩, ?_⟩
  · have h : Mod (rawV L (chgT L p).2) 8 = 7 := by simpa using h
    unfold stepJ; rw [if_pos h]
  · have h : ¬ Mod (rawV L (chgT L p).2) 8 = 7 := by simpa using h
    unfold stepJ; rw [if_neg h]
  · rintro _ rfl
    rw [stepT_J]
    refine ⟨fun h => ?_, fun h => ?_⟩
    · have h : (stepJ L p s).1 ≠ 0 := by simpa using h
      rw [if_pos h]
    · have h : ¬ (stepJ L p s).1 ≠ 0 := by simpa using h
      rw [if_neg h]
def stepT_h (L : (List Int)) (p : Nat) (s : Spk) : HC Try.prog := ⟨20, [.k, (.a [.k, .k, .k, (.s 4), (.s 3)])], [.ref 0 0, .agg [.int s.router, .int s.epoch, .int s.last, .sl 4 (s.items.map Itm.v) false, .vec 1]], [.box (.agg [.sl 1 (L.map AV.int) false, .int ((p : Nat) : Int)]), .vec 3 (s.peers.map Per.v)], stepT_e ((⟨L, (Go.Proofs.Ytglfecmdoekabaa.stepT L p s).2⟩ : Tap), (Go.Proofs.Ytglfecmdoekabaa.stepT L p s).1), stepT_b ((⟨L, (Go.Proofs.Ytglfecmdoekabaa.stepT L p s).2⟩ : Tap), (Go.Proofs.Ytglfecmdoekabaa.stepT L p s).1), HSpec.of_okh fun ok ok2 => have ok : stepT_a L p s := ⟨ok, ok2 _ (by simp), ok2 _ (by simp)⟩; (stepT_p L p s ok).elim fun I0 h => stepT_ok L p s I0 _ h, fnB_ok (by kernel_rfl), HcOk.of (by simp [hcB, belBL, AV.belB, allB, okBk, okBkO, stepT_e, stepT_b, pureBL_map (v := AV.int) (fun _ => rfl), pureBL_map (v := Itm.v) (fun _ => rfl), pureBL_map (v := Per.v) (fun _ => rfl)])⟩
theorem set_mid {α : Type} {l1 l2 : List α} {x y : α} {k : Nat} (h : l1.length = k) : (l1 ++ x :: l2).set k y = l1 ++ y :: l2 := by
  subst h
  rw [List.set_append, if_neg (by omega)]; simp
theorem get_mid {α : Type} {l1 l2 : List α} {x : α} {k : Nat} (h : l1.length = k) : (l1 ++ x :: l2)[k]? = some x := by
  subst h
  rw [List.getElem?_append_right (by omega)]; simp
def spkT_a (L : (List Int)) (p : Nat) : Prop := okL [.ref 0 0] ∧ (.box (.agg [.sl 1 (L.map AV.int) false, .int ((p : Nat) : Int)]) : Blk).ok
def spkT_n0 (L : (List Int)) (p : Nat) (t0 : Int × Int × Int × Int × (List Itm) × (List Per) × Tap) : NF := ⟨[(0, .k, .ref 0 0), (2, .k, .ref 1 0), (3, .k, .ref 2 0), (5, .k, .int t0.1)], [.box (.agg [.sl 1 (t0.2.2.2.2.2.2.L.map AV.int) false, .int ((t0.2.2.2.2.2.2.p : Nat) : Int)]), .box (.agg [.int 0, .int 0, .int 0, .sl 0 [] true, .sl 0 [] true]), .box (.agg [.int t0.2.1, .int t0.2.2.1, .int t0.2.2.2.1, .sl 4 (t0.2.2.2.2.1.map Itm.v) false, .vec 3]), .vec 3 (t0.2.2.2.2.2.1.map Per.v) (pureBL_map (fun _ => rfl) t0.2.2.2.2.2.1)]⟩
def spkT_n1 (L : (List Int)) (p : Nat) (t0 : Int × Int × Int × Int × (List Itm) × (List Per) × Tap) (t1 : Int × (List Per) × Tap) : NF := ⟨[(0, .k, .ref 0 0), (2, .k, .ref 1 0), (3, .k, .ref 2 0), (31, .k, .int ((t0.2.2.2.2.2.1.map Per.v).length : Int)), (32, .k, .int t1.1)], [.box (.agg [.sl 1 (t1.2.2.L.map AV.int) false, .int ((t1.2.2.p : Nat) : Int)]), .box (.agg [.int 0, .int 0, .int 0, .sl 0 [] true, .sl 0 [] true]), .box (.agg [.int t0.2.1, .int t0.2.2.1, .int t0.2.2.2.1, .sl 4 (t0.2.2.2.2.1.map Itm.v) false, .vec 3]), .vec 3 (t1.2.1.map Per.v) (pureBL_map (fun _ => rfl) t1.2.1)]⟩
def spkT_s : Nat → Type
  | 0 => Int × Int × Int × Int × (List Itm) × (List Per) × Tap
  | 1 => Int × (List Per) × Tap
  | _ => Unit
def spkT_e (r : Tap × Spk) : AV := .agg [.int r.2.router, .int r.2.epoch, .int r.2.last, .sl 4 (r.2.items.map Itm.v) false, .sl 3 (r.2.peers.map Per.v) false]
def spkT_b (r : Tap × Spk) : List (Option Blk) := [some (.box (.agg [.sl 1 (r.1.L.map AV.int) false, .int ((r.1.p : Nat) : Int)]))]
def spkT_vc (L : (List Int)) (p : Nat) (I0 : (Int × Int × Int × Int × (List Itm) × (List Per) × Tap) → Prop) (m0 : (Int × Int × Int × Int × (List Itm) × (List Per) × Tap) → Nat) (I1 : Int × Int × Int × Int × (List Itm) × (List Per) × Tap → (Int × (List Per) × Tap) → Prop) (m1 : Int × Int × Int × Int × (List Itm) × (List Per) × Tap → (Int × (List Per) × Tap) → Nat) (r0 : Tap × Spk) : Prop :=
 Ch (Range_h L p 1 4) [0] 33
 (∃ h1 : [1, 1, 5, 999999] ≠ [],
 Ch (Pick_h L (rawP L p) [1, 1, 5, 999999] h1) [0] 81
 (Ch (Range_h L (rawP L (rawP L p)) 0 3) [0] 129
 (Rf (α := List AV) [.int 7, .int 8, .int 9] (ck (bndB [7, 8, 9].length 0 (rng L (rawP L (rawP L p)) 0 3) ([7, 8, 9].length : Int))
 (Ch (newO_h (rng L p 1 4) (pickI [1, 1, 5, 999999] (rawV L (rawP L p))) (([7, 8, 9].take ((rng L (rawP L (rawP L p)) 0 3).toNat)).drop 0)) [] 161
 (Ch (N_h L (rawP L (rawP L (rawP L p))) 6) [0] 289
 (Nf (spkT_n0 L p (Mod (rawV L (rawP L (rawP L (rawP L p)))) 6, ((new (rng L p 1 4) (pickI [1, 1, 5, 999999] (rawV L (rawP L p))) (([7, 8, 9].take ((rng L (rawP L (rawP L p)) 0 3).toNat)).drop 0)).1).router, ((new (rng L p 1 4) (pickI [1, 1, 5, 999999] (rawV L (rawP L p))) (([7, 8, 9].take ((rng L (rawP L (rawP L p)) 0 3).toNat)).drop 0)).1).epoch, ((new (rng L p 1 4) (pickI [1, 1, 5, 999999] (rawV L (rawP L p))) (([7, 8, 9].take ((rng L (rawP L (rawP L p)) 0 3).toNat)).drop 0)).1).last, ((new (rng L p 1 4) (pickI [1, 1, 5, 999999] (rawV L (rawP L p))) (([7, 8, 9].take ((rng L (rawP L (rawP L p)) 0 3).toNat)).drop 0)).1).items, ((new (rng L p 1 4) (pickI [1, 1, 5, 999999] (rawV L (rawP L p))) (([7, 8, 9].take ((rng L (rawP L (rawP L p)) 0 3).toNat)).drop 0)).1).peers, (⟨L, rawP L (rawP L (rawP L (rawP L p)))⟩ : Tap))) [0, 1, 225, 161] (I0 (Mod (rawV L (rawP L (rawP L (rawP L p)))) 6, ((new (rng L p 1 4) (pickI [1, 1, 5, 999999] (rawV L (rawP L p))) (([7, 8, 9].take ((rng L (rawP L (rawP L p)) 0 3).toNat)).drop 0)).1).router, ((new (rng L p 1 4) (pickI [1, 1, 5, 999999] (rawV L (rawP L p))) (([7, 8, 9].take ((rng L (rawP L (rawP L p)) 0 3).toNat)).drop 0)).1).epoch, ((new (rng L p 1 4) (pickI [1, 1, 5, 999999] (rawV L (rawP L p))) (([7, 8, 9].take ((rng L (rawP L (rawP L p)) 0 3).toNat)).drop 0)).1).last, ((new (rng L p 1 4) (pickI [1, 1, 5, 999999] (rawV L (rawP L p))) (([7, 8, 9].take ((rng L (rawP L (rawP L p)) 0 3).toNat)).drop 0)).1).items, ((new (rng L p 1 4) (pickI [1, 1, 5, 999999] (rawV L (rawP L p))) (([7, 8, 9].take ((rng L (rawP L (rawP L p)) 0 3).toNat)).drop 0)).1).peers, (⟨L, rawP L (rawP L (rawP L (rawP L p)))⟩ : Tap))) ∧ ∀ t0 : Int × Int × Int × Int × (List Itm) × (List Per) × Tap, I0 t0 →
 br (decide (0 < t0.1))
 (Ch (stepT_h t0.2.2.2.2.2.2.L t0.2.2.2.2.2.2.p (⟨t0.2.1, t0.2.2.1, t0.2.2.2.1, t0.2.2.2.2.1, t0.2.2.2.2.2.1⟩ : Spk)) [0, 3] 68
 (Nf (spkT_n0 L p (W (t0.1 - 1), ((stepT t0.2.2.2.2.2.2.L t0.2.2.2.2.2.2.p (⟨t0.2.1, t0.2.2.1, t0.2.2.2.1, t0.2.2.2.2.1, t0.2.2.2.2.2.1⟩ : Spk)).1).router, ((stepT t0.2.2.2.2.2.2.L t0.2.2.2.2.2.2.p (⟨t0.2.1, t0.2.2.1, t0.2.2.2.1, t0.2.2.2.2.1, t0.2.2.2.2.2.1⟩ : Spk)).1).epoch, ((stepT t0.2.2.2.2.2.2.L t0.2.2.2.2.2.2.p (⟨t0.2.1, t0.2.2.1, t0.2.2.2.1, t0.2.2.2.2.1, t0.2.2.2.2.2.1⟩ : Spk)).1).last, ((stepT t0.2.2.2.2.2.2.L t0.2.2.2.2.2.2.p (⟨t0.2.1, t0.2.2.1, t0.2.2.2.1, t0.2.2.2.2.1, t0.2.2.2.2.2.1⟩ : Spk)).1).items, ((stepT t0.2.2.2.2.2.2.L t0.2.2.2.2.2.2.p (⟨t0.2.1, t0.2.2.1, t0.2.2.2.1, t0.2.2.2.2.1, t0.2.2.2.2.2.1⟩ : Spk)).1).peers, (⟨t0.2.2.2.2.2.2.L, (stepT t0.2.2.2.2.2.2.L t0.2.2.2.2.2.2.p (⟨t0.2.1, t0.2.2.1, t0.2.2.2.1, t0.2.2.2.2.1, t0.2.2.2.2.2.1⟩ : Spk)).2⟩ : Tap))) [0, 1, 2, 68] (I0 (W (t0.1 - 1), ((stepT t0.2.2.2.2.2.2.L t0.2.2.2.2.2.2.p (⟨t0.2.1, t0.2.2.1, t0.2.2.2.1, t0.2.2.2.2.1, t0.2.2.2.2.2.1⟩ : Spk)).1).router, ((stepT t0.2.2.2.2.2.2.L t0.2.2.2.2.2.2.p (⟨t0.2.1, t0.2.2.1, t0.2.2.2.1, t0.2.2.2.2.1, t0.2.2.2.2.2.1⟩ : Spk)).1).epoch, ((stepT t0.2.2.2.2.2.2.L t0.2.2.2.2.2.2.p (⟨t0.2.1, t0.2.2.1, t0.2.2.2.1, t0.2.2.2.2.1, t0.2.2.2.2.2.1⟩ : Spk)).1).last, ((stepT t0.2.2.2.2.2.2.L t0.2.2.2.2.2.2.p (⟨t0.2.1, t0.2.2.1, t0.2.2.2.1, t0.2.2.2.2.1, t0.2.2.2.2.2.1⟩ : Spk)).1).items, ((stepT t0.2.2.2.2.2.2.L t0.2.2.2.2.2.2.p (⟨t0.2.1, t0.2.2.1, t0.2.2.2.1, t0.2.2.2.2.1, t0.2.2.2.2.2.1⟩ : Spk)).1).peers, (⟨t0.2.2.2.2.2.2.L, (stepT t0.2.2.2.2.2.2.L t0.2.2.2.2.2.2.p (⟨t0.2.1, t0.2.2.1, t0.2.2.2.1, t0.2.2.2.2.1, t0.2.2.2.2.2.1⟩ : Spk)).2⟩ : Tap)) ∧ m0 (W (t0.1 - 1), ((stepT t0.2.2.2.2.2.2.L t0.2.2.2.2.2.2.p (⟨t0.2.1, t0.2.2.1, t0.2.2.2.1, t0.2.2.2.2.1, t0.2.2.2.2.2.1⟩ : Spk)).1).router, ((stepT t0.2.2.2.2.2.2.L t0.2.2.2.2.2.2.p (⟨t0.2.1, t0.2.2.1, t0.2.2.2.1, t0.2.2.2.2.1, t0.2.2.2.2.2.1⟩ : Spk)).1).epoch, ((stepT t0.2.2.2.2.2.2.L t0.2.2.2.2.2.2.p (⟨t0.2.1, t0.2.2.1, t0.2.2.2.1, t0.2.2.2.2.1, t0.2.2.2.2.2.1⟩ : Spk)).1).last, ((stepT t0.2.2.2.2.2.2.L t0.2.2.2.2.2.2.p (⟨t0.2.1, t0.2.2.1, t0.2.2.2.1, t0.2.2.2.2.1, t0.2.2.2.2.2.1⟩ : Spk)).1).items, ((stepT t0.2.2.2.2.2.2.L t0.2.2.2.2.2.2.p (⟨t0.2.1, t0.2.2.1, t0.2.2.2.1, t0.2.2.2.2.1, t0.2.2.2.2.2.1⟩ : Spk)).1).peers, (⟨t0.2.2.2.2.2.2.L, (stepT t0.2.2.2.2.2.2.L t0.2.2.2.2.2.2.p (⟨t0.2.1, t0.2.2.1, t0.2.2.2.1, t0.2.2.2.2.1, t0.2.2.2.2.2.1⟩ : Spk)).2⟩ : Tap)) < m0 t0)))
 (Nf (spkT_n1 L p t0 (0, t0.2.2.2.2.2.1, t0.2.2.2.2.2.2)) [0, 1, 2, 3] (I1 t0 (0, t0.2.2.2.2.2.1, t0.2.2.2.2.2.2)) ∧ ∀ t1 : Int × (List Per) × Tap, I1 t0 t1 →
 br (decide (t1.1 < ((t0.2.2.2.2.2.1.map Per.v).length : Int)))
 (Ch (N_h t1.2.2.L t1.2.2.p 2) [0] 68
 (br ((Mod (rawV t1.2.2.L t1.2.2.p) 2) == 0)
 (Ch (Range_h t1.2.2.L (rawP t1.2.2.L t1.2.2.p) 0 3) [0] 212
 (Ch (N_h t1.2.2.L (rawP t1.2.2.L (rawP t1.2.2.L t1.2.2.p)) (W (t0.2.2.2.1 + 1))) [0] 292
 (ck (cond (decide (0 ≤ t1.1)) (decide (t1.1 < ((t1.2.1.map Per.v).length : Int))) false)
 (Rf (t1.2.1.map Per.v) (ck (decide (t1.1.toNat < t1.2.1.length))
 (∀ y2, t1.2.1[t1.1.toNat]? = some y2 → Rf (Per.v (⟨y2.router, rng t1.2.2.L (rawP t1.2.2.L t1.2.2.p) 0 3, y2.acked⟩ : Per))
 (ck (cond (decide (0 ≤ t1.1)) (decide (t1.1 < (((t1.2.1.set t1.1.toNat (⟨y2.router, rng t1.2.2.L (rawP t1.2.2.L t1.2.2.p) 0 3, y2.acked⟩ : Per)).map Per.v).length : Int))) false)
 (Rf ((t1.2.1.set t1.1.toNat (⟨y2.router, rng t1.2.2.L (rawP t1.2.2.L t1.2.2.p) 0 3, y2.acked⟩ : Per)).map Per.v) (ck (decide (t1.1.toNat < (t1.2.1.set t1.1.toNat (⟨y2.router, rng t1.2.2.L (rawP t1.2.2.L t1.2.2.p) 0 3, y2.acked⟩ : Per)).length))
 (∀ y3, (t1.2.1.set t1.1.toNat (⟨y2.router, rng t1.2.2.L (rawP t1.2.2.L t1.2.2.p) 0 3, y2.acked⟩ : Per))[t1.1.toNat]? = some y3 → Rf (Per.v (⟨y3.router, y3.epoch, Mod (rawV t1.2.2.L (rawP t1.2.2.L (rawP t1.2.2.L t1.2.2.p))) (W (t0.2.2.2.1 + 1))⟩ : Per))
 (Nf (spkT_n1 L p t0 (W (t1.1 + 1), (t1.2.1.set t1.1.toNat (⟨y2.router, rng t1.2.2.L (rawP t1.2.2.L t1.2.2.p) 0 3, y2.acked⟩ : Per)).set t1.1.toNat (⟨y3.router, y3.epoch, Mod (rawV t1.2.2.L (rawP t1.2.2.L (rawP t1.2.2.L t1.2.2.p))) (W (t0.2.2.2.1 + 1))⟩ : Per), (⟨t1.2.2.L, rawP t1.2.2.L (rawP t1.2.2.L (rawP t1.2.2.L t1.2.2.p))⟩ : Tap))) [0, 1, 2, 3] (I1 t0 (W (t1.1 + 1), (t1.2.1.set t1.1.toNat (⟨y2.router, rng t1.2.2.L (rawP t1.2.2.L t1.2.2.p) 0 3, y2.acked⟩ : Per)).set t1.1.toNat (⟨y3.router, y3.epoch, Mod (rawV t1.2.2.L (rawP t1.2.2.L (rawP t1.2.2.L t1.2.2.p))) (W (t0.2.2.2.1 + 1))⟩ : Per), (⟨t1.2.2.L, rawP t1.2.2.L (rawP t1.2.2.L (rawP t1.2.2.L t1.2.2.p))⟩ : Tap)) ∧ m1 t0 (W (t1.1 + 1), (t1.2.1.set t1.1.toNat (⟨y2.router, rng t1.2.2.L (rawP t1.2.2.L t1.2.2.p) 0 3, y2.acked⟩ : Per)).set t1.1.toNat (⟨y3.router, y3.epoch, Mod (rawV t1.2.2.L (rawP t1.2.2.L (rawP t1.2.2.L t1.2.2.p))) (W (t0.2.2.2.1 + 1))⟩ : Per), (⟨t1.2.2.L, rawP t1.2.2.L (rawP t1.2.2.L (rawP t1.2.2.L t1.2.2.p))⟩ : Tap)) < m1 t0 t1))))))))))))
 (Nf (spkT_n1 L p t0 (W (t1.1 + 1), t1.2.1, (⟨t1.2.2.L, rawP t1.2.2.L t1.2.2.p⟩ : Tap))) [0, 1, 2, 3] (I1 t0 (W (t1.1 + 1), t1.2.1, (⟨t1.2.2.L, rawP t1.2.2.L t1.2.2.p⟩ : Tap)) ∧ m1 t0 (W (t1.1 + 1), t1.2.1, (⟨t1.2.2.L, rawP t1.2.2.L t1.2.2.p⟩ : Tap)) < m1 t0 t1))))
 (Rf (t1.2.1.map Per.v) (Nf ⟨[(2, .k, .ref 1 0)], [.box (.agg [.sl 1 (t1.2.2.L.map AV.int) false, .int ((t1.2.2.p : Nat) : Int)]), .box (.agg [.int t0.2.1, .int t0.2.2.1, .int t0.2.2.2.1, .sl 4 (t0.2.2.2.2.1.map Itm.v) false, .sl 3 (t1.2.1.map Per.v) false])]⟩ [0, 1] (Rf (spkT_e (t1.2.2, (⟨t0.2.1, t0.2.2.1, t0.2.2.2.1, t0.2.2.2.2.1, t1.2.1⟩ : Spk))) (Rf (spkT_b (t1.2.2, (⟨t0.2.1, t0.2.2.1, t0.2.2.2.1, t0.2.2.2.2.1, t1.2.1⟩ : Spk))) ((t1.2.2, (⟨t0.2.1, t0.2.2.1, t0.2.2.2.1, t0.2.2.2.2.1, t1.2.1⟩ : Spk)) = r0)))))))))))))
theorem spkT_eq (L : (List Int)) (p : Nat) (I0 : (Int × Int × Int × Int × (List Itm) × (List Per) × Tap) → Prop) (m0 : (Int × Int × Int × Int × (List Itm) × (List Per) × Tap) → Nat) (I1 : Int × Int × Int × Int × (List Itm) × (List Per) × Tap → (Int × (List Per) × Tap) → Prop) (m1 : Int × Int × Int × Int × (List Itm) × (List Per) × Tap → (Int × (List Per) × Tap) → Nat) (r0 : Tap × Spk) : mxH Try.prog 5 [.ref 0 0] [.box (.agg [.sl 1 (L.map AV.int) false, .int ((p : Nat) : Int)])] (.a [.k, .k, .k, (.s 4), (.s 3)]) spkT_e spkT_b ((.callH [0] (Range_h L p 1 4)
 (.req 81 ([1, 1, 5, 999999] ≠ []) fun h1 =>
 (.callH [0] (Pick_h L (rawP L p) [1, 1, 5, 999999] h1)
 (.callH [0] (Range_h L (rawP L (rawP L p)) 0 3)
 (.sub 145 AV.int [7, 8, 9] false
 (.callH [] (newO_h (rng L p 1 4) (pickI [1, 1, 5, 999999] (rawV L (rawP L p))) (([7, 8, 9].take ((rng L (rawP L (rawP L p)) 0 3).toNat)).drop 0))
 (.callH [0] (N_h L (rawP L (rawP L (rawP L p))) 6)
 (.loop 0 (spkT_n0 L p) (I0) (m0) ((Mod (rawV L (rawP L (rawP L (rawP L p)))) 6, ((new (rng L p 1 4) (pickI [1, 1, 5, 999999] (rawV L (rawP L p))) (([7, 8, 9].take ((rng L (rawP L (rawP L p)) 0 3).toNat)).drop 0)).1).router, ((new (rng L p 1 4) (pickI [1, 1, 5, 999999] (rawV L (rawP L p))) (([7, 8, 9].take ((rng L (rawP L (rawP L p)) 0 3).toNat)).drop 0)).1).epoch, ((new (rng L p 1 4) (pickI [1, 1, 5, 999999] (rawV L (rawP L p))) (([7, 8, 9].take ((rng L (rawP L (rawP L p)) 0 3).toNat)).drop 0)).1).last, ((new (rng L p 1 4) (pickI [1, 1, 5, 999999] (rawV L (rawP L p))) (([7, 8, 9].take ((rng L (rawP L (rawP L p)) 0 3).toNat)).drop 0)).1).items, ((new (rng L p 1 4) (pickI [1, 1, 5, 999999] (rawV L (rawP L p))) (([7, 8, 9].take ((rng L (rawP L (rawP L p)) 0 3).toNat)).drop 0)).1).peers, (⟨L, rawP L (rawP L (rawP L (rawP L p)))⟩ : Tap)) : Int × Int × Int × Int × (List Itm) × (List Per) × Tap) [0, 1, 225, 161] fun (t0 : Int × Int × Int × Int × (List Itm) × (List Per) × Tap) =>
 (.br 36 (.callH [0, 3] (stepT_h t0.2.2.2.2.2.2.L t0.2.2.2.2.2.2.p (⟨t0.2.1, t0.2.2.1, t0.2.2.2.1, t0.2.2.2.2.1, t0.2.2.2.2.2.1⟩ : Spk))
 (.back 0 ((W (t0.1 - 1), ((stepT t0.2.2.2.2.2.2.L t0.2.2.2.2.2.2.p (⟨t0.2.1, t0.2.2.1, t0.2.2.2.1, t0.2.2.2.2.1, t0.2.2.2.2.2.1⟩ : Spk)).1).router, ((stepT t0.2.2.2.2.2.2.L t0.2.2.2.2.2.2.p (⟨t0.2.1, t0.2.2.1, t0.2.2.2.1, t0.2.2.2.2.1, t0.2.2.2.2.2.1⟩ : Spk)).1).epoch, ((stepT t0.2.2.2.2.2.2.L t0.2.2.2.2.2.2.p (⟨t0.2.1, t0.2.2.1, t0.2.2.2.1, t0.2.2.2.2.1, t0.2.2.2.2.2.1⟩ : Spk)).1).last, ((stepT t0.2.2.2.2.2.2.L t0.2.2.2.2.2.2.p (⟨t0.2.1, t0.2.2.1, t0.2.2.2.1, t0.2.2.2.2.1, t0.2.2.2.2.2.1⟩ : Spk)).1).items, ((stepT t0.2.2.2.2.2.2.L t0.2.2.2.2.2.2.p (⟨t0.2.1, t0.2.2.1, t0.2.2.2.1, t0.2.2.2.2.1, t0.2.2.2.2.2.1⟩ : Spk)).1).peers, (⟨t0.2.2.2.2.2.2.L, (stepT t0.2.2.2.2.2.2.L t0.2.2.2.2.2.2.p (⟨t0.2.1, t0.2.2.1, t0.2.2.2.1, t0.2.2.2.2.1, t0.2.2.2.2.2.1⟩ : Spk)).2⟩ : Tap)) : Int × Int × Int × Int × (List Itm) × (List Per) × Tap) [0, 1, 2, 68]))
 (.loop 1 (spkT_n1 L p t0) (I1 t0) (m1 t0) ((0, t0.2.2.2.2.2.1, t0.2.2.2.2.2.2) : Int × (List Per) × Tap) [0, 1, 2, 3] fun (t1 : Int × (List Per) × Tap) =>
 (.br 20 (.callH [0] (N_h t1.2.2.L t1.2.2.p 2)
 (.br 100 (.callH [0] (Range_h t1.2.2.L (rawP t1.2.2.L t1.2.2.p) 0 3)
 (.callH [0] (N_h t1.2.2.L (rawP t1.2.2.L (rawP t1.2.2.L t1.2.2.p)) (W (t0.2.2.2.1 + 1)))
 (.st 340 Per.v t1.2.1 (fun y2 => (⟨y2.router, rng t1.2.2.L (rawP t1.2.2.L t1.2.2.p) 0 3, y2.acked⟩ : Per)) fun y2 =>
 (.st 388 Per.v (t1.2.1.set t1.1.toNat (⟨y2.router, rng t1.2.2.L (rawP t1.2.2.L t1.2.2.p) 0 3, y2.acked⟩ : Per)) (fun y3 => (⟨y3.router, y3.epoch, Mod (rawV t1.2.2.L (rawP t1.2.2.L (rawP t1.2.2.L t1.2.2.p))) (W (t0.2.2.2.1 + 1))⟩ : Per)) fun y3 =>
 (.back 1 ((W (t1.1 + 1), (t1.2.1.set t1.1.toNat (⟨y2.router, rng t1.2.2.L (rawP t1.2.2.L t1.2.2.p) 0 3, y2.acked⟩ : Per)).set t1.1.toNat (⟨y3.router, y3.epoch, Mod (rawV t1.2.2.L (rawP t1.2.2.L (rawP t1.2.2.L t1.2.2.p))) (W (t0.2.2.2.1 + 1))⟩ : Per), (⟨t1.2.2.L, rawP t1.2.2.L (rawP t1.2.2.L (rawP t1.2.2.L t1.2.2.p))⟩ : Tap)) : Int × (List Per) × Tap) [0, 1, 2, 3])))))
 (.back 1 ((W (t1.1 + 1), t1.2.1, (⟨t1.2.2.L, rawP t1.2.2.L t1.2.2.p⟩ : Tap)) : Int × (List Per) × Tap) [0, 1, 2, 3])))
 (.cmdL (.frzE 3 (t1.2.1.map Per.v) (pureBL_map (fun _ => rfl) t1.2.1)) (.retH (t1.2.2, (⟨t0.2.1, t0.2.2.1, t0.2.2.2.1, t0.2.2.2.2.1, t1.2.1⟩ : Spk)) ⟨[(2, .k, .ref 1 0)], [.box (.agg [.sl 1 (t1.2.2.L.map AV.int) false, .int ((t1.2.2.p : Nat) : Int)]), .box (.agg [.int t0.2.1, .int t0.2.2.1, .int t0.2.2.2.1, .sl 4 (t0.2.2.2.2.1.map Itm.v) false, .sl 3 (t1.2.1.map Per.v) false])]⟩ [0, 1]))))))))))))) : An Try.prog spkT_s (Tap × Spk)) r0 = spkT_vc L p I0 m0 I1 m1 r0 := by kernel_rfl
theorem spkT_ok (L : (List Int)) (p : Nat) (I0 : (Int × Int × Int × Int × (List Itm) × (List Per) × Tap) → Prop) (m0 : (Int × Int × Int × Int × (List Itm) × (List Per) × Tap) → Nat) (I1 : Int × Int × Int × Int × (List Itm) × (List Per) × Tap → (Int × (List Per) × Tap) → Prop) (m1 : Int × Int × Int × Int × (List Itm) × (List Per) × Tap → (Int × (List Per) × Tap) → Nat) (r0 : Tap × Spk) (h : spkT_vc L p I0 m0 I1 m1 r0) : HSpec Try.prog 5 [.ref 0 0] [.box (.agg [.sl 1 (L.map AV.int) false, .int ((p : Nat) : Int)])] (spkT_e r0) (spkT_b r0) := by
  have e := spkT_eq L p I0 m0 I1 m1 r0
  rw [← e] at h
  exact mxH_ok (enc := spkT_e) (hB := spkT_b) h
theorem spkT_p (L : List Int) (p : Nat) (ok : spkT_a L p) : ∃ I0 m0 I1 m1, spkT_vc L p I0 m0 I1 m1 ((⟨L, (spkT L p).2⟩ : Tap), (spkT L p).1) := by
  refine ⟨fun t => ∃ (k : Nat) (s : Spk) (q : Nat), k ≤ 6 ∧ t = ((k : Int), s.router, s.epoch, s.last, s.items, s.peers, (⟨L, q⟩ : Tap)) ∧ stepN L k (s, q) = spk2 L p, fun t => t.1.toNat,
    fun t0 t => ∃ k : Nat, k ≤ (spk2 L p).1.peers.length ∧ t = ((k : Int), (perN L (spk2 L p).1.last ((spk2 L p).1.peers.take k) (spk2 L p).2).1 ++ (spk2 L p).1.peers.drop k, (⟨L, (perN L (spk2 L p).1.last ((spk2 L p).1.peers.take k) (spk2 L p).2).2⟩ : Tap)),
    fun t0 t => (spk2 L p).1.peers.length - t.1.toNat, ?_⟩
  simp only [spkT_vc, vcU, rfU, List.length_map]
  have h1 := rng_in (L := L) (p := rawP L (rawP L p)) (lo := 0) (hi := 3) (by omega)
  have h2 := Mod_range (x := rawV L (rawP L (rawP L (rawP L p)))) (n := 6) (by omega)
  refine ⟨by simp, ?_, ?_, ?_⟩
  · simp only [bndB]
    simp
    omega
  · exact ⟨(Mod (rawV L (rawP L (rawP L (rawP L p)))) 6).toNat, spk1 L p, rawP L (rawP L (rawP L (rawP L p))), by omega, by rw [Int.toNat_of_nonneg h2.1]; rfl, rfl⟩
  · rintro _ ⟨k, s, q, hk, rfl, hN⟩
    simp only [Int.toNat_natCast]
    refine ⟨fun h3 => ?_, fun h3 => ?_⟩
    · obtain ⟨k, rfl⟩ : ∃ j, k = j + 1 := ⟨k - 1, by omega⟩
      rw [W_eq (by omega)]
      exact ⟨⟨k, (stepT L q s).1, (stepT L q s).2, by omega, by simp, hN⟩, by omega⟩
    · have : k = 0 := by omega
      subst this
      have hN : (s, q) = spk2 L p := hN
      have hok := spk2_ok (L := L) (p := p)
      have hT : spkT L p = (⟨(spk2 L p).1.router, (spk2 L p).1.epoch, (spk2 L p).1.last, (spk2 L p).1.items, (perN L (spk2 L p).1.last (spk2 L p).1.peers (spk2 L p).2).1⟩, (perN L (spk2 L p).1.last (spk2 L p).1.peers (spk2 L p).2).2) := rfl
      rw [hT]
      rw [← hN] at hok ⊢
      simp only
      have hlen := hok.2.2.2.2.1
      have hl := hok.2.2.1
      simp only at hlen hl
      refine ⟨⟨0, by omega, rfl⟩, ?_⟩
      rintro _ ⟨j, hj, rfl⟩
      have hpl : (perN L s.last (s.peers.take j) q).1.length = j := by rw [perN_len, List.length_take]; omega
      simp only [Int.toNat_natCast]
      refine ⟨fun h4 => ?_, fun h4 => ?_⟩
      · have hj2 : j < s.peers.length := by omega
        have hx : s.peers[j]? = some s.peers[j] := List.getElem?_eq_getElem hj2
        have hd : s.peers.drop j = s.peers[j] :: s.peers.drop (j + 1) := List.drop_eq_getElem_cons hj2
        generalize s.peers[j] = x at *
        have ht : perN L s.last (s.peers.take (j + 1)) q = ((perN L s.last (s.peers.take j) q).1 ++ [(per1 L s.last x (perN L s.last (s.peers.take j) q).2).1], (per1 L s.last x (perN L s.last (s.peers.take j) q).2).2) := by
          rw [take_succ hx, perN_append]; rfl
        rw [hd]
        generalize perN L s.last (s.peers.take j) q = z at *
        rw [W_succ (n := s.peers.length) (by omega) (by omega)]
        have b1 : ∀ y : Per, (z.1 ++ y :: s.peers.drop (j + 1)).length = s.peers.length := fun y => by simp [hpl]; omega
        refine ⟨fun h5 => ?_, fun h5 => ?_⟩
        · have h5 : Mod (rawV L z.2) 2 = 0 := by simpa using h5
          refine ⟨by rw [b1]; simp; omega, by rw [b1]; omega, fun y2 hy2 => ?_⟩
          rw [get_mid hpl] at hy2
          cases hy2
          simp only [set_mid hpl]
          refine ⟨by rw [b1]; simp; omega, by rw [b1]; omega, fun y3 hy3 => ?_⟩
          rw [get_mid hpl] at hy3
          cases hy3
          simp only [set_mid hpl]
          refine ⟨⟨j + 1, by omega, ?_⟩, by omega⟩
          rw [ht, per1, if_pos h5]
          simp
        · have h5 : ¬ Mod (rawV L z.2) 2 = 0 := by simpa using h5
          refine ⟨⟨j + 1, by omega, ?_⟩, by omega⟩
          rw [ht, per1, if_neg h5]
          simp
      · have e : j = s.peers.length := by omega
        rw [e, List.take_length, List.drop_length, List.append_nil]
def spkT_h (L : (List Int)) (p : Nat) : HC Try.prog := ⟨5, [.k], [.ref 0 0], [.box (.agg [.sl 1 (L.map AV.int) false, .int ((p : Nat) : Int)])], spkT_e ((⟨L, (Go.Proofs.Ytglfecmdoekabaa.spkT L p).2⟩ : Tap), (Go.Proofs.Ytglfecmdoekabaa.spkT L p).1), spkT_b ((⟨L, (Go.Proofs.Ytglfecmdoekabaa.spkT L p).2⟩ : Tap), (Go.Proofs.Ytglfecmdoekabaa.spkT L p).1), HSpec.of_okh fun ok ok2 => have ok : spkT_a L p := ⟨ok, ok2 _ (by simp)⟩; (spkT_p L p ok).elim fun I0 h => h.elim fun m0 h => h.elim fun I1 h => h.elim fun m1 h => spkT_ok L p I0 m0 I1 m1 _ h, fnB_ok (by kernel_rfl), HcOk.of (by simp [hcB, belBL, AV.belB, allB, okBk, okBkO, spkT_e, spkT_b, pureBL_map (v := AV.int) (fun _ => rfl)])⟩
end Go.Proofs.Ytglfecmdoekabaa
