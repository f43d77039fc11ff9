/- Speakers: new, told again, what they send, what they are told. -/
import Derived.Test.YtglfecmdoekabaaGreatDoorG6
namespace Go.Proofs.YtglfecmdoekabaaGreatDoor
open Go Go.Am
set_option linter.unusedVariables false
set_option linter.unusedSimpArgs false
theorem errIf_pos {p : Prop} [Decidable p] (h : p) : errIf p = 0 := if_pos h
theorem errIf_neg {p : Prop} [Decidable p] (h : ¬ p) : errIf p = 1 := if_neg h
theorem valS_t {s : Spk} : (valS s != 0) = true ↔ ¬ spkOk s := by
  by_cases h : spkOk s <;> simp [valS, errIf, h]
theorem valS_f {s : Spk} : (valS s != 0) = false ↔ spkOk s := by
  by_cases h : spkOk s <;> simp [valS, errIf, h]
theorem valL_t {s : Lsn} : (valL s != 0) = true ↔ ¬ lsnOk s := by
  by_cases h : lsnOk s <;> simp [valL, errIf, h]
theorem valL_f {s : Lsn} : (valL s != 0) = false ↔ lsnOk s := by
  by_cases h : lsnOk s <;> simp [valL, errIf, h]
theorem pureBLs_one {es : List AV} (h : pureBL es = true) : pureBLs [es] = true := by rw [pureBLs, h]; rfl
theorem srcs_len {m : Int} {l : List Int} (h : fltErr m l = 0) : l.length ≤ 99 := by
  unfold fltErr at h
  split at h
  · cases h
  split at h
  · cases h
  rename_i hr
  split at h
  · cases h
  rename_i ha
  have hr := Classical.not_not.mp hr
  have ha := Classical.not_not.mp ha
  have hp : l.Pairwise fun x y => id x < id y := pw_adj (key := id) fun j x y hx hy => ascI_iff.mp ha j x y hx hy
  exact nodup_len 99 l (hp.imp fun h => Int.ne_of_lt h) fun x hx => by have := hr x hx; omega
theorem okItms_of {n : Int} {l : List Itm} (h : itmsOk n l) : okItms l := ⟨by have := itms_len h; omega, fun x hx => by have := srcs_len (h.1 x hx).2.2; omega⟩
theorem set_same {α : Type} {l : List α} {i : Nat} {x : α} (h : l[i]? = some x) : l.set i x = l := by
  have hi := lt_of_get h
  rw [List.getElem?_eq_getElem hi] at h
  rw [← Option.some.inj h]; exact List.set_getElem_self hi
theorem orI_two (a b : Int) : orI [a, b] = if a ≠ 0 then a else b := by
  by_cases h : a = 0
  · by_cases h2 : b = 0 <;> simp [orI, h, h2]
  · simp [orI, h]
theorem without_zero {n : Int} {l : List Itm} (h : itmsOk n l) : Go.Proofs.YtglfecmdoekabaaGreatDoor.without 0 l = l := by
  rw [Go.Proofs.YtglfecmdoekabaaGreatDoor.without, List.filter_eq_self]
  intro x hx
  have := (h.1 x hx).2.1
  simp; omega
def new_a (router : Int) (epoch : Int) (peers : (List Int)) : Prop := okL [.int router, .int epoch, .sl 1 (peers.map AV.int) false]
def new_s : Nat → Type
  | _ => Unit
def new_e (r : Spk × Int) : AV := .tup [Spk.v r.1, .int r.2]
def new_vc (router : Int) (epoch : Int) (peers : (List Int)) (r0 : Spk × Int) : Prop :=
 ∃ h1 : peers.length ≤ 1000000,
 Ch (fresh_h peers h1) [] 80
 (Cl (valS_c (⟨router, epoch, 0, [], fresh peers⟩ : Spk))
 (ck (pureBLs [((fresh peers).map Per.v)])
 (br ((valS (⟨router, epoch, 0, [], fresh peers⟩ : Spk)) != 0)
 (Rf (new_e ((⟨0, 0, 0, [], []⟩ : Spk), 1)) (((⟨0, 0, 0, [], []⟩ : Spk), 1) = r0))
 (Rf ((fresh peers).map Per.v) (Rf (new_e ((⟨router, epoch, 0, [], fresh peers⟩ : Spk), 0)) (((⟨router, epoch, 0, [], fresh peers⟩ : Spk), 0) = r0))))))
theorem new_eq (router : Int) (epoch : Int) (peers : (List Int)) (r0 : Spk × Int) : mxP Tryz.prog 65 [.int router, .int epoch, .sl 1 (peers.map AV.int) false] (.a [(.a [.k, .k, .k, (.s 4), (.s 3)]), .k]) new_e ((.req 80 (peers.length ≤ 1000000) fun h1 =>
 (.callH [] (fresh_h peers h1)
 (.callP (valS_c (⟨router, epoch, 0, [], fresh peers⟩ : Spk))
 (.br 192 (.ret ((⟨0, 0, 0, [], []⟩ : Spk), 1))
 (.cmdL (.frzE 80 ((fresh peers).map Per.v) (pureBL_map (fun _ => rfl) (fresh peers))) (.ret ((⟨router, epoch, 0, [], fresh peers⟩ : Spk), 0))))))) : An Tryz.prog new_s (Spk × Int)) r0 = new_vc router epoch peers r0 := by kernel_rfl
theorem new_ok (router : Int) (epoch : Int) (peers : (List Int)) (r0 : Spk × Int) (h : new_vc router epoch peers r0) : PSpec Tryz.prog 65 [.int router, .int epoch, .sl 1 (peers.map AV.int) false] (new_e r0) := by
  have e := new_eq router epoch peers r0
  rw [← e] at h
  exact mxP_ok (enc := new_e) h (AV.pureB_ok rfl)
theorem new_p (r k : Int) (p : List Int) (h : p.length ≤ 1000000) (ok : new_a r k p) : new_vc r k p (new r k p) := by
  simp only [new_vc, vcU, rfU, List.length_map]
  refine ⟨h, pureBLs_one (pureBL_map (fun _ => rfl) _), fun e => ?_, fun e => ?_⟩
  · have e := valS_t.mp e
    exact (if_neg e).symm
  · have e := valS_f.mp e
    exact (if_pos e).symm
def new_c (router : Int) (epoch : Int) (peers : (List Int)) (h : peers.length ≤ 1000000) : PC Tryz.prog := ⟨65, [.k, .k, (.s 1)], [.int router, .int epoch, .sl 1 (peers.map AV.int) false], new_e (Go.Proofs.YtglfecmdoekabaaGreatDoor.new router epoch peers), PSpec.of_ok fun ok => new_ok router epoch peers _ (new_p router epoch peers h ok), fnB_ok (by kernel_rfl)⟩
def restart_a (s : Spk) (wants : (List Wnt)) : Prop := okL [.agg [.int s.router, .int s.epoch, .int s.last, .sl 4 (s.items.map Itm.v) false, .sl 3 (s.peers.map Per.v) false], .sl 3 (wants.map Wnt.v) false]
def restart_n0 (s : Spk) (wants : (List Wnt)) (t0 : Int × (List Itm)) : NF := ⟨[(2, .k, .ref 0 0), (4, .k, .ref 1 0), (7, .k, .ref 2 0), (34, .k, .sl 3 (wants.map Wnt.v) false), (35, .k, .int ((wants.map Wnt.v).length : Int)), (36, .k, .int t0.1)], [.box (.agg [.int s.router, .int s.epoch, .int s.last, .sl 4 (s.items.map Itm.v) false, .sl 3 (s.peers.map Per.v) false]), .box (.agg [.int 0, .int 0, .int 0, .sl 0 [] true, .sl 0 [] true]), .box (.agg [.int s.router, .int (W (s.epoch + 1)), .int ((wants.map Wnt.v).length : Int), .vec 3, .sl 0 [] true]), .vec 4 (t0.2.map Itm.v) (pureBL_map (fun _ => rfl) t0.2)]⟩
def restart_n1 (s : Spk) (wants : (List Wnt)) (t0 : Int × (List Itm)) (t1 : Int × (List Per)) : NF := ⟨[(4, .k, .ref 0 0), (7, .k, .ref 1 0), (56, .k, .sl 3 (s.peers.map Per.v) false), (57, .k, .int ((s.peers.map Per.v).length : Int)), (58, .k, .int t1.1)], [.box (.agg [.int 0, .int 0, .int 0, .sl 0 [] true, .sl 0 [] true]), .box (.agg [.int s.router, .int (W (s.epoch + 1)), .int ((wants.map Wnt.v).length : Int), .vec 2, .vec 3]), .vec 4 (t0.2.map Itm.v) (pureBL_map (fun _ => rfl) t0.2), .vec 3 (t1.2.map Per.v) (pureBL_map (fun _ => rfl) t1.2)]⟩
def restart_s : Nat → Type
  | 0 => Int × (List Itm)
  | 1 => Int × (List Per)
  | _ => Unit
def restart_e (r : Spk × Int) : AV := .tup [Spk.v r.1, .int r.2]
def restart_vc (s : Spk) (wants : (List Wnt)) (I0 : (Int × (List Itm)) → Prop) (m0 : (Int × (List Itm)) → Nat) (I1 : Int × (List Itm) → (Int × (List Per)) → Prop) (m1 : Int × (List Itm) → (Int × (List Per)) → Nat) (r0 : Spk × Int) : Prop :=
 Cl (valS_c s)
 (Cl (valW_c wants)
 (Cl (orI_c [valS s, wErr false wants])
 (br ((orI [valS s, wErr false wants]) != 0)
 (Rf (restart_e ((⟨0, 0, 0, [], []⟩ : Spk), orI [valS s, wErr false wants])) (((⟨0, 0, 0, [], []⟩ : Spk), orI [valS s, wErr false wants]) = r0))
 (br (s.epoch == 1000000)
 (Rf (restart_e ((⟨0, 0, 0, [], []⟩ : Spk), 3)) (((⟨0, 0, 0, [], []⟩ : Spk), 3) = r0))
 (Nf (restart_n0 s wants (0, [])) [0, 16, 368, 448] (I0 (0, [])) ∧ ∀ t0 : Int × (List Itm), I0 t0 →
 br (decide (t0.1 < ((wants.map Wnt.v).length : Int)))
 (Rf (wants.map Wnt.v) (ck (decide (0 ≤ t0.1)) (ck (decide (t0.1 < (wants.length : Int)))
 (∀ x1, wants[t0.1.toNat]? = some x1 →
 ∃ h2 : (⟨x1.mode, x1.srcs⟩ : Flt).srcs.length ≤ 1000000,
 Cl (filtered_c (⟨x1.mode, x1.srcs⟩ : Flt) h2)
 (Rf (α := List AV) (t0.2.map Itm.v) (Rf (α := List AV) [.agg [.int (W (t0.1 + 1)), .int x1.grp, .int x1.mode, .sl 1 (x1.srcs.map AV.int) false]]
 (ck (decide (t0.2.length + 1 ≤ 1000000))
 (Nf (restart_n0 s wants (W (t0.1 + 1), t0.2 ++ [(⟨W (t0.1 + 1), x1.grp, x1.mode, x1.srcs⟩ : Itm)])) [0, 1, 2, 292] (I0 (W (t0.1 + 1), t0.2 ++ [(⟨W (t0.1 + 1), x1.grp, x1.mode, x1.srcs⟩ : Itm)]) ∧ m0 (W (t0.1 + 1), t0.2 ++ [(⟨W (t0.1 + 1), x1.grp, x1.mode, x1.srcs⟩ : Itm)]) < m0 t0)))))))))
 (Nf (restart_n1 s wants t0 (0, [])) [1, 2, 3, 84] (I1 t0 (0, [])) ∧ ∀ t1 : Int × (List Per), I1 t0 t1 →
 br (decide (t1.1 < ((s.peers.map Per.v).length : Int)))
 (Rf (s.peers.map Per.v) (ck (decide (0 ≤ t1.1)) (ck (decide (t1.1 < (s.peers.length : Int)))
 (∀ x3, s.peers[t1.1.toNat]? = some x3 →
 Rf (α := List AV) (t1.2.map Per.v) (Rf (α := List AV) [.agg [.int x3.router, .int 0, .int 0]]
 (ck (decide (t1.2.length + 1 ≤ 1000000))
 (Nf (restart_n1 s wants t0 (W (t1.1 + 1), t1.2 ++ [(⟨x3.router, 0, 0⟩ : Per)])) [0, 1, 2, 180] (I1 t0 (W (t1.1 + 1), t1.2 ++ [(⟨x3.router, 0, 0⟩ : Per)]) ∧ m1 t0 (W (t1.1 + 1), t1.2 ++ [(⟨x3.router, 0, 0⟩ : Per)]) < m1 t0 t1))))))))
 (Rf (t1.2.map Per.v) (Rf (t0.2.map Itm.v) (Rf (restart_e ((⟨s.router, W (s.epoch + 1), ((wants.map Wnt.v).length : Int), t0.2, t1.2⟩ : Spk), 0)) (((⟨s.router, W (s.epoch + 1), ((wants.map Wnt.v).length : Int), t0.2, t1.2⟩ : Spk), 0) = r0))))))))))
theorem restart_eq (s : Spk) (wants : (List Wnt)) (I0 : (Int × (List Itm)) → Prop) (m0 : (Int × (List Itm)) → Nat) (I1 : Int × (List Itm) → (Int × (List Per)) → Prop) (m1 : Int × (List Itm) → (Int × (List Per)) → Nat) (r0 : Spk × Int) : mxP Tryz.prog 99 [.agg [.int s.router, .int s.epoch, .int s.last, .sl 4 (s.items.map Itm.v) false, .sl 3 (s.peers.map Per.v) false], .sl 3 (wants.map Wnt.v) false] (.a [(.a [.k, .k, .k, (.s 4), (.s 3)]), .k]) restart_e ((.callP (valS_c s)
 (.callP (valW_c wants)
 (.callP (orI_c [valS s, wErr false wants])
 (.br 192 (.ret ((⟨0, 0, 0, [], []⟩ : Spk), orI [valS s, wErr false wants]))
 (.br 240 (.ret ((⟨0, 0, 0, [], []⟩ : Spk), 3))
 (.cmdL (.nilB 368 3 4) (.loop 0 (restart_n0 s wants) (I0) (m0) ((0, []) : Int × (List Itm)) [0, 16, 368, 448] fun (t0 : Int × (List Itm)) =>
 (.br 20 (.el 36 Wnt.v wants fun x1 =>
 (.req 244 ((⟨x1.mode, x1.srcs⟩ : Flt).srcs.length ≤ 1000000) fun h2 =>
 (.callP (filtered_c (⟨x1.mode, x1.srcs⟩ : Flt) h2)
 (.app 292 Itm.v t0.2 [(⟨W (t0.1 + 1), x1.grp, x1.mode, x1.srcs⟩ : Itm)]
 (.back 0 ((W (t0.1 + 1), t0.2 ++ [(⟨W (t0.1 + 1), x1.grp, x1.mode, x1.srcs⟩ : Itm)]) : Int × (List Itm)) [0, 1, 2, 292])))))
 (.cmdL (.nilB 2 4 3) (.loop 1 (restart_n1 s wants t0) (I1 t0) (m1 t0) ((0, []) : Int × (List Per)) [1, 2, 3, 84] fun (t1 : Int × (List Per)) =>
 (.br 20 (.el 20 Per.v s.peers fun x3 =>
 (.app 180 Per.v t1.2 [(⟨x3.router, 0, 0⟩ : Per)]
 (.back 1 ((W (t1.1 + 1), t1.2 ++ [(⟨x3.router, 0, 0⟩ : Per)]) : Int × (List Per)) [0, 1, 2, 180])))
 (.cmdL (.frzE 3 (t1.2.map Per.v) (pureBL_map (fun _ => rfl) t1.2)) (.cmdL (.frzE 2 (t0.2.map Itm.v) (pureBL_map (fun _ => rfl) t0.2)) (.ret ((⟨s.router, W (s.epoch + 1), ((wants.map Wnt.v).length : Int), t0.2, t1.2⟩ : Spk), 0))))))))))))))) : An Tryz.prog restart_s (Spk × Int)) r0 = restart_vc s wants I0 m0 I1 m1 r0 := by kernel_rfl
theorem restart_ok (s : Spk) (wants : (List Wnt)) (I0 : (Int × (List Itm)) → Prop) (m0 : (Int × (List Itm)) → Nat) (I1 : Int × (List Itm) → (Int × (List Per)) → Prop) (m1 : Int × (List Itm) → (Int × (List Per)) → Nat) (r0 : Spk × Int) (h : restart_vc s wants I0 m0 I1 m1 r0) : PSpec Tryz.prog 99 [.agg [.int s.router, .int s.epoch, .int s.last, .sl 4 (s.items.map Itm.v) false, .sl 3 (s.peers.map Per.v) false], .sl 3 (wants.map Wnt.v) false] (restart_e r0) := by
  have e := restart_eq s wants I0 m0 I1 m1 r0
  rw [← e] at h
  exact mxP_ok (enc := restart_e) h (AV.pureB_ok rfl)
theorem restart_p (s : Spk) (w : List Wnt) (ok : restart_a s w) : ∃ I0 m0 I1 m1, restart_vc s w I0 m0 I1 m1 (restart s w) := by
  simp only [restart_a, okU, Blk.ok, plainV, List.length_map] at ok
  refine ⟨fun t => ∃ k : Nat, t = ((k : Int), (w.take k).mapIdx wItm) ∧ k ≤ w.length, fun t => w.length - t.1.toNat,
    fun t0 t => t0.2 = w.mapIdx wItm ∧ ∃ k : Nat, t = ((k : Int), (s.peers.take k).map fun p => ⟨p.router, 0, 0⟩) ∧ k ≤ s.peers.length, fun _ t => s.peers.length - t.1.toNat, ?_⟩
  simp only [restart_vc, vcU, rfU, List.length_map]
  rw [orI_two]
  by_cases hs : spkOk s
  case neg => simp [restart, valS, errIf, hs, spk0]
  rw [show valS s = 0 from errIf_pos hs, if_neg (by simp)]
  by_cases hw : wErr false w = 0
  case neg => simp [restart, hs, hw, spk0]
  have hw' := wErr_zero.mp hw
  refine ⟨fun e => by simp [hw] at e, fun _ => ⟨fun e => ?_, fun e => ?_⟩⟩
  · have e : s.epoch = 1000000 := by simpa using e
    rw [restart, if_neg (not_not_intro hs), if_neg (not_not_intro hw), if_pos e]; rfl
  have e : ¬ s.epoch = 1000000 := by simpa using e
  have hse := hs.2.1
  have fin : restart s w = (⟨s.router, s.epoch + 1, w.length, w.mapIdx wItm, s.peers.map fun p => ⟨p.router, 0, 0⟩⟩, 0) := by
    rw [restart, if_neg (not_not_intro hs), if_neg (not_not_intro hw), if_neg e]
  refine ⟨⟨0, by simp, by omega⟩, ?_⟩
  rintro _ ⟨k, rfl, hk⟩
  simp only [Int.toNat_natCast]
  refine ⟨fun h1 => ⟨by omega, by omega, fun x hx => ⟨by have := srcs_len (hw'.2.2.1 x (mem_of_get hx)); show x.srcs.length ≤ _; omega, ?_⟩⟩, fun h1 => ?_⟩
  · have hkl : k < w.length := by omega
    rw [W_succ (n := w.length) (by omega) (by omega)]
    refine ⟨by simp; omega, ⟨k + 1, ?_, by omega⟩, by omega⟩
    rw [take_succ hx, List.mapIdx_append]
    simp [wItm, Nat.min_eq_left hk]
  · rw [List.take_of_length_le (by omega)]
    refine ⟨⟨rfl, 0, by simp, by omega⟩, ?_⟩
    rintro _ ⟨-, k2, rfl, hk2⟩
    simp only [Int.toNat_natCast]
    have hpl := hs.2.2.2.2.1
    refine ⟨fun h3 => ⟨by omega, by omega, fun x hx => ?_⟩, fun h3 => ?_⟩
    · rw [W_succ (n := s.peers.length) (by omega) (by omega)]
      refine ⟨by simp; omega, ⟨trivial, k2 + 1, ?_, by omega⟩, by omega⟩
      rw [take_succ hx]; simp
    · rw [List.take_of_length_le (by omega), fin, W_eq (by omega)]
def restart_c (s : Spk) (wants : (List Wnt)) : PC Tryz.prog := ⟨99, [(.a [.k, .k, .k, (.s 4), (.s 3)]), (.s 3)], [.agg [.int s.router, .int s.epoch, .int s.last, .sl 4 (s.items.map Itm.v) false, .sl 3 (s.peers.map Per.v) false], .sl 3 (wants.map Wnt.v) false], restart_e (Go.Proofs.YtglfecmdoekabaaGreatDoor.restart s wants), PSpec.of_ok fun ok => (restart_p s wants ok).elim fun I0 h => h.elim fun m0 h => h.elim fun I1 h => h.elim fun m1 h => restart_ok s wants I0 m0 I1 m1 _ h, fnB_ok (by kernel_rfl)⟩
def sendF_a (s : Spk) (to_ : Int) : Prop := okL [.agg [.int s.router, .int s.epoch, .int s.last, .sl 4 (s.items.map Itm.v) false, .sl 3 (s.peers.map Per.v) false], .int to_]
def sendF_n0 (s : Spk) (to_ : Int) (t0 : Int × Int × (List Sig)) : NF := ⟨[(1, .k, .int to_), (2, .k, .ref 0 0), (7, .k, .int (posP s.peers to_ : Int)), (9, .k, .vec 1), (10, .k, .int t0.1), (36, .k, .sl 4 (s.items.map Itm.v) false), (37, .k, .int ((s.items.map Itm.v).length : Int)), (38, .k, .int t0.2.1)], [.box (.agg [.int s.router, .int s.epoch, .int s.last, .sl 4 (s.items.map Itm.v) false, .sl 3 (s.peers.map Per.v) false]), .vec 10 (t0.2.2.map Sig.v) (pureBL_map (fun _ => rfl) t0.2.2)]⟩
def sendF_s : Nat → Type
  | 0 => Int × Int × (List Sig)
  | _ => Unit
def sendF_e (r : (List Sig) × Int) : AV := .tup [.sl 10 (r.1.map Sig.v) false, .int r.2]
def sendF_vc (s : Spk) (to_ : Int) (I0 : (Int × Int × (List Sig)) → Prop) (m0 : (Int × Int × (List Sig)) → Nat) (r0 : (List Sig) × Int) : Prop :=
 Cl (valS_c s)
 (br ((valS s) != 0)
 (Rf (sendF_e ([], valS s)) (([], valS s) = r0))
 (∃ h1 : s.peers.Pairwise fun x y => x.router < y.router,
 ∃ h2 : s.peers.length ≤ 1000000,
 Cl (peer_c s to_ h1 h2)
 (br (!(decide (hitP s.peers to_)))
 (Rf (sendF_e ([], 4)) (([], 4) = r0))
 (Nf (sendF_n0 s to_ (0, 0, [(⟨1, s.router, to_, s.epoch, s.last, 0, 0, 0, 0, []⟩ : Sig)])) [0, 416] (I0 (0, 0, [(⟨1, s.router, to_, s.epoch, s.last, 0, 0, 0, 0, []⟩ : Sig)])) ∧ ∀ t0 : Int × Int × (List Sig), I0 t0 →
 br (decide (t0.2.1 < ((s.items.map Itm.v).length : Int)))
 (Rf (s.items.map Itm.v) (ck (decide (0 ≤ t0.2.1)) (ck (decide (t0.2.1 < (s.items.length : Int)))
 (∀ x3, s.items[t0.2.1.toNat]? = some x3 →
 Rf (s.peers.map Per.v) (ck (decide (0 ≤ (posP s.peers to_ : Int))) (ck (decide ((posP s.peers to_ : Int) < (s.peers.length : Int)))
 (∀ x4, s.peers[(posP s.peers to_ : Int).toNat]? = some x4 →
 br (decide (x4.acked < x3.ver))
 (∃ h5 : (⟨x3.mode, x3.srcs⟩ : Flt).srcs.length ≤ 1000000,
 Cl (filtered_c (⟨x3.mode, x3.srcs⟩ : Flt) h5)
 (Rf (α := List AV) (t0.2.2.map Sig.v) (Rf (α := List AV) [.agg [.int 2, .int s.router, .int to_, .int s.epoch, .int x3.ver, .int t0.1, .int 0, .int x3.grp, .int x3.mode, .sl 1 (x3.srcs.map AV.int) false]]
 (ck (decide (t0.2.2.length + 1 ≤ 1000000))
 (Nf (sendF_n0 s to_ (x3.ver, W (t0.2.1 + 1), t0.2.2 ++ [(⟨2, s.router, to_, s.epoch, x3.ver, t0.1, 0, x3.grp, x3.mode, x3.srcs⟩ : Sig)])) [0, 482] (I0 (x3.ver, W (t0.2.1 + 1), t0.2.2 ++ [(⟨2, s.router, to_, s.epoch, x3.ver, t0.1, 0, x3.grp, x3.mode, x3.srcs⟩ : Sig)]) ∧ m0 (x3.ver, W (t0.2.1 + 1), t0.2.2 ++ [(⟨2, s.router, to_, s.epoch, x3.ver, t0.1, 0, x3.grp, x3.mode, x3.srcs⟩ : Sig)]) < m0 t0))))))
 (Nf (sendF_n0 s to_ (x3.ver, W (t0.2.1 + 1), t0.2.2)) [0, 1] (I0 (x3.ver, W (t0.2.1 + 1), t0.2.2) ∧ m0 (x3.ver, W (t0.2.1 + 1), t0.2.2) < m0 t0)))))))))
 (Rf (t0.2.2.map Sig.v) (Rf (sendF_e (t0.2.2, 0)) ((t0.2.2, 0) = r0)))))))
theorem sendF_eq (s : Spk) (to_ : Int) (I0 : (Int × Int × (List Sig)) → Prop) (m0 : (Int × Int × (List Sig)) → Nat) (r0 : (List Sig) × Int) : mxP Tryz.prog 36 [.agg [.int s.router, .int s.epoch, .int s.last, .sl 4 (s.items.map Itm.v) false, .sl 3 (s.peers.map Per.v) false], .int to_] (.a [(.s 10), .k]) sendF_e ((.callP (valS_c s)
 (.br 128 (.ret ([], valS s))
 (.req 160 (s.peers.Pairwise fun x y => x.router < y.router) fun h1 =>
 (.req 160 (s.peers.length ≤ 1000000) fun h2 =>
 (.callP (peer_c s to_ h1 h2)
 (.br 288 (.ret ([], 4))
 (.own 416 (.cmdL (.wkB 416 (.a [.k, .k, .k, .k, .k, .k, .k, .k, .k, (.s 1)])) (.loop 0 (sendF_n0 s to_) (I0) (m0) ((0, 0, [(⟨1, s.router, to_, s.epoch, s.last, 0, 0, 0, 0, []⟩ : Sig)]) : Int × Int × (List Sig)) [0, 416] fun (t0 : Int × Int × (List Sig)) =>
 (.br 18 (.el 18 Itm.v s.items fun x3 =>
 (.el 162 Per.v s.peers fun x4 =>
 (.br 226 (.req 434 ((⟨x3.mode, x3.srcs⟩ : Flt).srcs.length ≤ 1000000) fun h5 =>
 (.callP (filtered_c (⟨x3.mode, x3.srcs⟩ : Flt) h5)
 (.app 482 Sig.v t0.2.2 [(⟨2, s.router, to_, s.epoch, x3.ver, t0.1, 0, x3.grp, x3.mode, x3.srcs⟩ : Sig)]
 (.back 0 ((x3.ver, W (t0.2.1 + 1), t0.2.2 ++ [(⟨2, s.router, to_, s.epoch, x3.ver, t0.1, 0, x3.grp, x3.mode, x3.srcs⟩ : Sig)]) : Int × Int × (List Sig)) [0, 482]))))
 (.back 0 ((x3.ver, W (t0.2.1 + 1), t0.2.2) : Int × Int × (List Sig)) [0, 1]))))
 (.cmdL (.frzE 1 (t0.2.2.map Sig.v) (pureBL_map (fun _ => rfl) t0.2.2)) (.ret (t0.2.2, 0))))))))))))) : An Tryz.prog sendF_s ((List Sig) × Int)) r0 = sendF_vc s to_ I0 m0 r0 := by kernel_rfl
theorem sendF_ok (s : Spk) (to_ : Int) (I0 : (Int × Int × (List Sig)) → Prop) (m0 : (Int × Int × (List Sig)) → Nat) (r0 : (List Sig) × Int) (h : sendF_vc s to_ I0 m0 r0) : PSpec Tryz.prog 36 [.agg [.int s.router, .int s.epoch, .int s.last, .sl 4 (s.items.map Itm.v) false, .sl 3 (s.peers.map Per.v) false], .int to_] (sendF_e r0) := by
  have e := sendF_eq s to_ I0 m0 r0
  rw [← e] at h
  exact mxP_ok (enc := sendF_e) h (AV.pureB_ok rfl)
theorem sendF_p (s : Spk) (r : Int) (ok : sendF_a s r) : ∃ I0 m0, sendF_vc s r I0 m0 (send s r) := by
  simp only [sendF_a, okU, Blk.ok, plainV, List.length_map] at ok
  let ak := (s.peers.getD (posP s.peers r) ⟨0, 0, 0⟩).acked
  refine ⟨fun t => ∃ k : Nat, t.2.1 = k ∧ k ≤ s.items.length ∧ t.2.2.length ≤ k + 1 ∧ hello s r :: sendFrom s r ak 0 s.items = t.2.2 ++ sendFrom s r ak t.1 (s.items.drop k), fun t => s.items.length - t.2.1.toNat, ?_⟩
  simp only [sendF_vc, vcU, rfU, List.length_map]
  by_cases hs : spkOk s
  case neg => simp [send, valS, errIf, hs]
  refine ⟨fun e => by simp [valS, errIf, hs] at e, fun _ => ⟨hs.2.2.2.2.2.2, by have := hs.2.2.2.2.1; omega, fun e => ?_, fun e => ?_⟩⟩
  · have e : ¬ hitP s.peers r := by simpa using e
    rw [send, if_neg (not_not_intro hs), if_pos e]
  have e : hitP s.peers r := by simpa using e
  have fin : send s r = (hello s r :: sendFrom s r ak 0 s.items, 0) := by rw [send, if_neg (not_not_intro hs), if_neg (not_not_intro e)]
  have hil := itms_len hs.2.2.2.1
  refine ⟨⟨0, rfl, by omega, by simp, rfl⟩, ?_⟩
  rintro ⟨prev, _, acc⟩ ⟨k, rfl, hk, hal, h⟩
  simp only [Int.toNat_natCast] at *
  refine ⟨fun h1 => ⟨by omega, by omega, fun x hx => ⟨by omega, by have := e.1; omega, fun y hy => ?_⟩⟩, fun h1 => ?_⟩
  · have hy : ak = y.acked := by show (s.peers.getD (posP s.peers r) ⟨0, 0, 0⟩).acked = _; rw [getD_some hy]
    have hd : s.items.drop k = x :: s.items.drop (k + 1) := by
      have hkl := lt_of_get hx
      rw [List.drop_eq_getElem_cons hkl]
      rw [List.getElem?_eq_getElem hkl] at hx; rw [Option.some.inj hx]
    rw [hd, sendFrom] at h
    rw [W_succ (n := s.items.length) (by omega) (by omega)]
    have hsl := srcs_len (hs.2.2.2.1.1 x (mem_of_get hx)).2.2
    refine ⟨fun e3 => ⟨by show x.srcs.length ≤ _; omega, by omega, ⟨k + 1, rfl, by omega, by simp; omega, ?_⟩, by omega⟩, fun e3 => ⟨⟨k + 1, rfl, by omega, by omega, ?_⟩, by omega⟩⟩
    · rw [h, if_pos (by omega)]; simp [upd1]
    · rw [h, if_neg (by omega)]; simp
  · rw [List.drop_eq_nil_of_le (by omega), sendFrom, List.append_nil] at h
    rw [fin, h]

def send_c (s : Spk) (to_ : Int) : PC Tryz.prog := ⟨36, [(.a [.k, .k, .k, (.s 4), (.s 3)]), .k], [.agg [.int s.router, .int s.epoch, .int s.last, .sl 4 (s.items.map Itm.v) false, .sl 3 (s.peers.map Per.v) false], .int to_], sendF_e (send s to_), PSpec.of_ok fun ok => (sendF_p s to_ ok).elim fun I0 h => h.elim fun m0 h => sendF_ok s to_ I0 m0 _ h, fnB_ok (by kernel_rfl)⟩
def ackF_a (s : Spk) (x : Sig) : Prop := okL [.agg [.int s.router, .int s.epoch, .int s.last, .sl 4 (s.items.map Itm.v) false, .sl 3 (s.peers.map Per.v) false], .agg [.int x.kind, .int x.src, .int x.dst, .int x.epoch, .int x.ver, .int x.prev, .int x.pep, .int x.grp, .int x.mode, .sl 1 (x.srcs.map AV.int) false]]
def ackF_n0 (s : Spk) (x : Sig) (t0 : Int) : NF := ⟨[(2, .k, .ref 0 0), (3, .k, .ref 3 0), (4, .k, .ref 4 0), (7, .k, .int (posP s.peers x.src : Int)), (9, .k, .int t0)], [.box (.agg [.int s.router, .int s.epoch, .int s.last, .vec 1, .vec 2]), .vec 4 ((without 0 s.items).map Itm.v) (pureBL_map (fun _ => rfl) (without 0 s.items)), .vec 3 (s.peers.map Per.v) (pureBL_map (fun _ => rfl) s.peers), .box (.agg [.int x.kind, .int x.src, .int x.dst, .int x.epoch, .int x.ver, .int x.prev, .int x.pep, .int x.grp, .int x.mode, .sl 1 (x.srcs.map AV.int) false]), .box (.agg [.int 0, .int 0, .int 0, .sl 0 [] true, .sl 0 [] true])]⟩
def ackF_s : Nat → Type
  | 0 => Int
  | _ => Unit
def ackF_e (r : Spk × Int) : AV := .tup [Spk.v r.1, .int r.2]
def ackF_vc (s : Spk) (x : Sig) (r0 : Spk × Int) : Prop :=
 Cl (valS_c s)
 (Cl (sigV_c x)
 (Cl (orI_c [valS s, sigErr x])
 (br ((orI [valS s, sigErr x]) != 0)
 (Rf (ackF_e ((⟨0, 0, 0, [], []⟩ : Spk), orI [valS s, sigErr x])) (((⟨0, 0, 0, [], []⟩ : Spk), orI [valS s, sigErr x]) = r0))
 (br (x.kind != 3)
 (Rf (ackF_e ((⟨0, 0, 0, [], []⟩ : Spk), 1)) (((⟨0, 0, 0, [], []⟩ : Spk), 1) = r0))
 (br (x.dst != s.router)
 (Rf (ackF_e ((⟨0, 0, 0, [], []⟩ : Spk), 1)) (((⟨0, 0, 0, [], []⟩ : Spk), 1) = r0))
 (∃ h1 : s.peers.Pairwise fun x y => x.router < y.router,
 ∃ h2 : s.peers.length ≤ 1000000,
 Cl (peer_c s x.src h1 h2)
 (br (!(decide (hitP s.peers x.src)))
 (Rf (ackF_e ((⟨0, 0, 0, [], []⟩ : Spk), 4)) (((⟨0, 0, 0, [], []⟩ : Spk), 4) = r0))
 (∃ h3 : okItms s.items,
 Ch (copied_h s.items 0 h3) [] 576
 (∃ h4 : s.peers.length ≤ 1000000,
 Ch (cloneP_h s.peers h4) [] 624
 ((br (x.epoch == s.epoch)
 (br (decide (x.ver ≤ s.last))
 (Nf (ackF_n0 s x (x.ver)) [0, 576, 624, 16, 32] (((x.ver) : Int) = ((bif (x.epoch == s.epoch) then (bif (decide (x.ver ≤ s.last)) then (x.ver) else (0)) else (0)) : Int)))
 (Nf (ackF_n0 s x (0)) [0, 576, 624, 16, 32] (((0) : Int) = ((bif (x.epoch == s.epoch) then (bif (decide (x.ver ≤ s.last)) then (x.ver) else (0)) else (0)) : Int))))
 (Nf (ackF_n0 s x (0)) [0, 576, 624, 16, 32] (((0) : Int) = ((bif (x.epoch == s.epoch) then (bif (decide (x.ver ≤ s.last)) then (x.ver) else (0)) else (0)) : Int)))) ∧ ∀ t0 : Int, t0 = ((bif (x.epoch == s.epoch) then (bif (decide (x.ver ≤ s.last)) then (x.ver) else (0)) else (0)) : Int) →
 ck (cond (decide (0 ≤ (posP s.peers x.src : Int))) (decide ((posP s.peers x.src : Int) < ((s.peers.map Per.v).length : Int))) false)
 (Rf (s.peers.map Per.v) (ck (decide ((posP s.peers x.src : Int).toNat < s.peers.length))
 (∀ x5, s.peers[(posP s.peers x.src : Int).toNat]? = some x5 →
 br (decide (x5.epoch < x.pep))
 (Rf (s.peers.map Per.v) (ck (decide ((posP s.peers x.src : Int).toNat < s.peers.length))
 (∀ y6, s.peers[(posP s.peers x.src : Int).toNat]? = some y6 → Rf (Per.v (⟨y6.router, x.pep, y6.acked⟩ : Per))
 (Rf ((s.peers.set ((posP s.peers x.src : Int).toNat) (⟨y6.router, x.pep, y6.acked⟩ : Per)).map Per.v) (ck (decide ((posP s.peers x.src : Int).toNat < (s.peers.set ((posP s.peers x.src : Int).toNat) (⟨y6.router, x.pep, y6.acked⟩ : Per)).length))
 (∀ y7, (s.peers.set ((posP s.peers x.src : Int).toNat) (⟨y6.router, x.pep, y6.acked⟩ : Per))[(posP s.peers x.src : Int).toNat]? = some y7 → Rf (Per.v (⟨y7.router, y7.epoch, t0⟩ : Per))
 (Rf (((s.peers.set ((posP s.peers x.src : Int).toNat) (⟨y6.router, x.pep, y6.acked⟩ : Per)).set ((posP s.peers x.src : Int).toNat) (⟨y7.router, y7.epoch, t0⟩ : Per)).map Per.v) (Rf ((without 0 s.items).map Itm.v) (Rf (ackF_e ((⟨s.router, s.epoch, s.last, without 0 s.items, (s.peers.set ((posP s.peers x.src : Int).toNat) (⟨y6.router, x.pep, y6.acked⟩ : Per)).set ((posP s.peers x.src : Int).toNat) (⟨y7.router, y7.epoch, t0⟩ : Per)⟩ : Spk), 0)) (((⟨s.router, s.epoch, s.last, without 0 s.items, (s.peers.set ((posP s.peers x.src : Int).toNat) (⟨y6.router, x.pep, y6.acked⟩ : Per)).set ((posP s.peers x.src : Int).toNat) (⟨y7.router, y7.epoch, t0⟩ : Per)⟩ : Spk), 0) = r0))))))))))
 (Rf (s.peers.map Per.v) (ck (decide ((posP s.peers x.src : Int).toNat < s.peers.length))
 (∀ x8, s.peers[(posP s.peers x.src : Int).toNat]? = some x8 →
 br (x.pep == x8.epoch)
 (Rf (s.peers.map Per.v) (ck (decide ((posP s.peers x.src : Int).toNat < s.peers.length))
 (∀ x9, s.peers[(posP s.peers x.src : Int).toNat]? = some x9 →
 Rf (s.peers.map Per.v) (ck (decide ((posP s.peers x.src : Int).toNat < s.peers.length))
 (∀ y10, s.peers[(posP s.peers x.src : Int).toNat]? = some y10 → Rf (Per.v (⟨y10.router, y10.epoch, maxI x9.acked t0⟩ : Per))
 (Rf ((s.peers.set ((posP s.peers x.src : Int).toNat) (⟨y10.router, y10.epoch, maxI x9.acked t0⟩ : Per)).map Per.v) (Rf ((without 0 s.items).map Itm.v) (Rf (ackF_e ((⟨s.router, s.epoch, s.last, without 0 s.items, s.peers.set ((posP s.peers x.src : Int).toNat) (⟨y10.router, y10.epoch, maxI x9.acked t0⟩ : Per)⟩ : Spk), 0)) (((⟨s.router, s.epoch, s.last, without 0 s.items, s.peers.set ((posP s.peers x.src : Int).toNat) (⟨y10.router, y10.epoch, maxI x9.acked t0⟩ : Per)⟩ : Spk), 0) = r0)))))))))
 (Rf (s.peers.map Per.v) (Rf ((without 0 s.items).map Itm.v) (Rf (ackF_e ((⟨s.router, s.epoch, s.last, without 0 s.items, s.peers⟩ : Spk), 0)) (((⟨s.router, s.epoch, s.last, without 0 s.items, s.peers⟩ : Spk), 0) = r0))))))))))))))))))))
theorem ackF_eq (s : Spk) (x : Sig) (r0 : Spk × Int) : mxP Tryz.prog 32 [.agg [.int s.router, .int s.epoch, .int s.last, .sl 4 (s.items.map Itm.v) false, .sl 3 (s.peers.map Per.v) false], .agg [.int x.kind, .int x.src, .int x.dst, .int x.epoch, .int x.ver, .int x.prev, .int x.pep, .int x.grp, .int x.mode, .sl 1 (x.srcs.map AV.int) false]] (.a [(.a [.k, .k, .k, (.s 4), (.s 3)]), .k]) ackF_e ((.callP (valS_c s)
 (.callP (sigV_c x)
 (.callP (orI_c [valS s, sigErr x])
 (.br 208 (.ret ((⟨0, 0, 0, [], []⟩ : Spk), orI [valS s, sigErr x]))
 (.br 272 (.ret ((⟨0, 0, 0, [], []⟩ : Spk), 1))
 (.br 368 (.ret ((⟨0, 0, 0, [], []⟩ : Spk), 1))
 (.req 416 (s.peers.Pairwise fun x y => x.router < y.router) fun h1 =>
 (.req 416 (s.peers.length ≤ 1000000) fun h2 =>
 (.callP (peer_c s x.src h1 h2)
 (.br 544 (.ret ((⟨0, 0, 0, [], []⟩ : Spk), 4))
 (.req 576 (okItms s.items) fun h3 =>
 (.callH [] (copied_h s.items 0 h3)
 (.req 624 (s.peers.length ≤ 1000000) fun h4 =>
 (.callH [] (cloneP_h s.peers h4)
 (.pass (.join 0 (ackF_n0 s x) (fun t0 => t0 = ((bif (x.epoch == s.epoch) then (bif (decide (x.ver ≤ s.last)) then (x.ver) else (0)) else (0)) : Int)) (.br 816 (.br 912 (.back 0 ((x.ver) : Int) [0, 576, 624, 16, 32])
 (.back 0 ((0) : Int) [0, 576, 624, 16, 32]))
 (.back 0 ((0) : Int) [0, 576, 624, 16, 32])) fun (t0 : Int) =>
 (.el 165 Per.v s.peers fun x5 =>
 (.br 213 (.st 325 Per.v s.peers (fun y6 => (⟨y6.router, x.pep, y6.acked⟩ : Per)) fun y6 =>
 (.st 373 Per.v (s.peers.set ((posP s.peers x.src : Int).toNat) (⟨y6.router, x.pep, y6.acked⟩ : Per)) (fun y7 => (⟨y7.router, y7.epoch, t0⟩ : Per)) fun y7 =>
 (.cmdL (.frzE 2 (((s.peers.set ((posP s.peers x.src : Int).toNat) (⟨y6.router, x.pep, y6.acked⟩ : Per)).set ((posP s.peers x.src : Int).toNat) (⟨y7.router, y7.epoch, t0⟩ : Per)).map Per.v) (pureBL_map (fun _ => rfl) ((s.peers.set ((posP s.peers x.src : Int).toNat) (⟨y6.router, x.pep, y6.acked⟩ : Per)).set ((posP s.peers x.src : Int).toNat) (⟨y7.router, y7.epoch, t0⟩ : Per)))) (.cmdL (.frzE 1 ((without 0 s.items).map Itm.v) (pureBL_map (fun _ => rfl) (without 0 s.items))) (.ret ((⟨s.router, s.epoch, s.last, without 0 s.items, (s.peers.set ((posP s.peers x.src : Int).toNat) (⟨y6.router, x.pep, y6.acked⟩ : Per)).set ((posP s.peers x.src : Int).toNat) (⟨y7.router, y7.epoch, t0⟩ : Per)⟩ : Spk), 0))))))
 (.el 293 Per.v s.peers fun x8 =>
 (.br 341 (.el 405 Per.v s.peers fun x9 =>
 (.st 485 Per.v s.peers (fun y10 => (⟨y10.router, y10.epoch, maxI x9.acked t0⟩ : Per)) fun y10 =>
 (.cmdL (.frzE 2 ((s.peers.set ((posP s.peers x.src : Int).toNat) (⟨y10.router, y10.epoch, maxI x9.acked t0⟩ : Per)).map Per.v) (pureBL_map (fun _ => rfl) (s.peers.set ((posP s.peers x.src : Int).toNat) (⟨y10.router, y10.epoch, maxI x9.acked t0⟩ : Per)))) (.cmdL (.frzE 1 ((without 0 s.items).map Itm.v) (pureBL_map (fun _ => rfl) (without 0 s.items))) (.ret ((⟨s.router, s.epoch, s.last, without 0 s.items, s.peers.set ((posP s.peers x.src : Int).toNat) (⟨y10.router, y10.epoch, maxI x9.acked t0⟩ : Per)⟩ : Spk), 0))))))
 (.cmdL (.frzE 2 (s.peers.map Per.v) (pureBL_map (fun _ => rfl) s.peers)) (.cmdL (.frzE 1 ((without 0 s.items).map Itm.v) (pureBL_map (fun _ => rfl) (without 0 s.items))) (.ret ((⟨s.router, s.epoch, s.last, without 0 s.items, s.peers⟩ : Spk), 0)))))))))))))))))))))))) : An Tryz.prog ackF_s (Spk × Int)) r0 = ackF_vc s x r0 := by kernel_rfl
theorem ackF_ok (s : Spk) (x : Sig) (r0 : Spk × Int) (h : ackF_vc s x r0) : PSpec Tryz.prog 32 [.agg [.int s.router, .int s.epoch, .int s.last, .sl 4 (s.items.map Itm.v) false, .sl 3 (s.peers.map Per.v) false], .agg [.int x.kind, .int x.src, .int x.dst, .int x.epoch, .int x.ver, .int x.prev, .int x.pep, .int x.grp, .int x.mode, .sl 1 (x.srcs.map AV.int) false]] (ackF_e r0) := by
  have e := ackF_eq s x r0
  rw [← e] at h
  exact mxP_ok (enc := ackF_e) h (AV.pureB_ok rfl)
theorem ackF_p (s : Spk) (x : Sig) (ok : ackF_a s x) : ackF_vc s x (ack s x) := by
  simp only [ackF_a, okU, Blk.ok, plainV, List.length_map] at ok
  simp only [ackF_vc, vcU, rfU, List.length_map]
  rw [orI_two]
  by_cases hs : spkOk s
  case neg => simp [ack, valS, errIf, hs, spk0]
  rw [show valS s = 0 from errIf_pos hs, if_neg (by simp)]
  by_cases hx : sigErr x = 0
  case neg => simp [ack, hs, hx, spk0]
  refine ⟨fun e => by simp [hx] at e, fun _ => ⟨fun e => ?_, fun e1 => ⟨fun e => ?_, fun e2 => ?_⟩⟩⟩
  · have e : x.kind ≠ 3 := by simpa using e
    rw [ack, if_neg (not_not_intro hs), if_neg (not_not_intro hx), if_pos (.inl e)]; rfl
  · have e : x.dst ≠ s.router := by simpa using e
    rw [ack, if_neg (not_not_intro hs), if_neg (not_not_intro hx), if_pos (.inr e)]; rfl
  have e1 : x.kind = 3 := by simpa using e1
  have e2 : x.dst = s.router := by simpa using e2
  refine ⟨hs.2.2.2.2.2.2, by have := hs.2.2.2.2.1; omega, fun e => ?_, fun e => ?_⟩
  · have e : ¬ hitP s.peers x.src := by simpa using e
    rw [ack, if_neg (not_not_intro hs), if_neg (not_not_intro hx), if_neg (by simp [e1, e2]), if_pos e]; rfl
  have e : hitP s.peers x.src := by simpa using e
  have fin : ack s x = (⟨s.router, s.epoch, s.last, s.items, s.peers.set (posP s.peers x.src) (ackP s x (s.peers.getD (posP s.peers x.src) ⟨0, 0, 0⟩))⟩, 0) := by
    rw [ack, if_neg (not_not_intro hs), if_neg (not_not_intro hx), if_neg (by simp [e1, e2]), if_neg (not_not_intro e)]
  refine ⟨okItms_of hs.2.2.2.1, by have := hs.2.2.2.2.1; omega, ⟨fun a => ⟨fun b => by simp [a, b], fun b => by simp [a, b]⟩, fun a => by simp [a]⟩, ?_⟩
  rintro _ rfl
  have hv : (bif x.epoch == s.epoch then bif decide (x.ver ≤ s.last) then x.ver else 0 else 0) = ackV s x := by
    cases a : x.epoch == s.epoch with
    | true => cases b : decide (x.ver ≤ s.last) with
      | true => rw [ackV, if_pos ⟨by simpa using a, by simpa using b⟩]; rfl
      | false => rw [ackV, if_neg (fun h => by simp [h.2] at b)]; rfl
    | false => rw [ackV, if_neg (fun h => by simp [h.1] at a)]; rfl
  rw [hv, without_zero hs.2.2.2.1]
  have hi := e.1
  simp only [Int.toNat_natCast]
  refine ⟨by simp; omega, hi, fun p hp => ?_⟩
  rw [getD_some hp] at fin
  refine ⟨fun a => ⟨hi, fun p2 hp2 => ?_⟩, fun a => ⟨hi, fun p2 hp2 => ⟨fun b => ⟨hi, fun p3 hp3 => ⟨hi, fun p4 hp4 => ?_⟩⟩, fun b => ?_⟩⟩⟩
  · cases hp.symm.trans hp2
    refine ⟨by simpa using hi, fun q hq => ?_⟩
    rw [List.getElem?_set_self hi] at hq
    cases hq
    rw [fin, ackP, if_pos a, List.set_set]
  · cases hp.symm.trans hp2
    cases hp.symm.trans hp3
    cases hp.symm.trans hp4
    rw [fin, ackP, if_neg a, if_pos (by simpa using b)]
  · cases hp.symm.trans hp2
    rw [fin, ackP, if_neg a, if_neg (by simpa using b)]
    rw [set_same hp]
def ack_c (s : Spk) (x : Sig) : PC Tryz.prog := ⟨32, [(.a [.k, .k, .k, (.s 4), (.s 3)]), (.a [.k, .k, .k, .k, .k, .k, .k, .k, .k, (.s 1)])], [.agg [.int s.router, .int s.epoch, .int s.last, .sl 4 (s.items.map Itm.v) false, .sl 3 (s.peers.map Per.v) false], .agg [.int x.kind, .int x.src, .int x.dst, .int x.epoch, .int x.ver, .int x.prev, .int x.pep, .int x.grp, .int x.mode, .sl 1 (x.srcs.map AV.int) false]], ackF_e (ack s x), PSpec.of_ok fun ok => ackF_ok s x _ (ackF_p s x ok), fnB_ok (by kernel_rfl)⟩
end Go.Proofs.YtglfecmdoekabaaGreatDoor
